/- Logs read (package wal, law 24). -/
import Derived.Test.YtkgkpmdbcjelfaaWkK
import Derived.Test.YtkgkpmdbcjelfaaWkSameMsgs
set_option linter.unusedVariables false
set_option linter.defProp false
set_option linter.all false
set_option linter.unusedSimpArgs false
set_option maxRecDepth 10000
set_option maxHeartbeats 2000000
namespace Go.PE
open Go Go.Proofs

/-- What Parse gives. -/
structure Parsed where
  gen : Int
  seq : Int
  l : List Msg
  e : Int
  deriving DecidableEq
def Parsed.enc (p : Parsed) : List D := [.int .i64 p.gen, .int .i64 p.seq, .list (p.l.map Msg.enc), .int .i64 p.e]
def Parsed.dec : List D → Option Parsed
  | [.int .i64 g, .int .i64 s, .list es, .int .i64 e] => match decL Msg.dec es with
    | some l => some ⟨g, s, l, e⟩
    | none => none
  | _ => none
theorem Parsed.dec_de (p : Parsed) : Parsed.dec p.enc = some p := by
  simp only [Parsed.dec, Parsed.enc, decL_map (dec := Msg.dec) (enc := Msg.enc) (fun _ => rfl)]
theorem Parsed.dec_ed (e : List D) (p : Parsed) (h : Parsed.dec e = some p) : e = p.enc := by
  unfold Parsed.dec at h
  split at h
  · split at h
    · rename_i l hl
      injection h with h
      subst h
      rw [decL_inv Msg.dec_ed hl]
      rfl
    · cases h
  · cases h
def cParsed : Cod Parsed := cAgg Parsed.enc Parsed.dec Parsed.dec_de Parsed.dec_ed
theorem cParsed_enc (p : Parsed) : cParsed.enc p = .agg [.int .i64 p.gen, .int .i64 p.seq, .list (p.l.map Msg.enc), .int .i64 p.e] := rfl
theorem cParsed_dec (g s : Int) (l : List Msg) (e : Int) : cParsed.dec (.agg [.int .i64 g, .int .i64 s, .list (l.map Msg.enc), .int .i64 e]) = some ⟨g, s, l, e⟩ := Parsed.dec_de ⟨g, s, l, e⟩
theorem cParsed_dec0 (g s e : Int) : cParsed.dec (.agg [.int .i64 g, .int .i64 s, .list [], .int .i64 e]) = some ⟨g, s, [], e⟩ := Parsed.dec_de ⟨g, s, [], e⟩
theorem Parsed.eta (p : Parsed) : (⟨p.gen, p.seq, p.l, p.e⟩ : Parsed) = p := rfl
def walP (b : List UInt8) : Parsed := match walF b with
  | some (g, s, l) => ⟨g, s, l, 0⟩
  | none => ⟨0, 0, [], 240⟩
theorem walA_eq (b : List UInt8) : walA (walF b) = .tup [.d (.int .i64 (walP b).gen), .d (.int .i64 (walP b).seq), .d (.list ((walP b).l.map Msg.enc)), .d (.int .i64 (walP b).e)] := by
  unfold walA walP
  cases walF b <;> rfl
def goodP (p : Parsed) (gen : Int) (i : Nat) : Bool := !(decide ¬p.e = 0 || decide ¬p.gen = gen || decide ¬p.seq = (i : Int))
def replayI (gen : Int) : Nat → List (List UInt8) → List (List Msg)
  | _, [] => []
  | i, c :: cs => if goodP (walP c) gen i then (walP c).l :: replayI gen (i + 1) cs else []
def replayF (gen : Int) (cs : List (List UInt8)) : List (List Msg) := replayI gen 0 cs
theorem replay_drop {gen : Int} {i : Nat} {cs : List (List UInt8)} {x : List UInt8} (hx : cs[i]? = some x) : replayI gen i (cs.drop i) = if goodP (walP x) gen i then (walP x).l :: replayI gen (i + 1) (cs.drop (i + 1)) else [] := by
  obtain ⟨h, e⟩ := List.getElem?_eq_some_iff.1 hx
  rw [List.drop_eq_getElem_cons h, e, replayI]
def hReplay : Det := det2 cBytess (cI .i64) (fun cs _ => cs.length ≤ 1000000) fun cs gen => .d (.list ((replayF gen cs).map (oneC cMsgs)))
theorem f_walReplay : FPure Try.prog 26 hReplay.spec := by
  refine FPure.runL [(39, .det hWParse)] (fun _ => []) (by
    intro p hp
    simp only [List.mem_cons, List.not_mem_nil, or_false] at hp
    subst hp
    exact f_walParse) F.mixed Try.func26 (by kernel_rfl) rfl (by kernel_rfl) 44 Try.ntmps26 [.tmp 4] Try.results26 ?_
  intro ds K hl hs
  obtain ⟨cs, gen, rfl, la, hK⟩ := det2_elim hs
  simp only [eBs, cBs, F.fBs, Nat.reduceSub, Nat.reduceAdd, Nat.reduceLT, Nat.reduceEqDiff, Nat.reduceLeDiff, Nat.reduceMul, Nat.reduceBEq, Int.reduceToNat, Op.operands, if_true, if_false, reduceCtorEq, if_pos, forall_const, implies_true, eq_self, ne_eq]
  refine eK_rounds [0, 1, 12, 13] (fun p : Nat × List (List Msg) => p.1 ≤ cs.length ∧ p.2.length = p.1 ∧ replayF gen cs = p.2 ++ replayI gen p.1 (cs.drop p.1)) (fun p => [(5, .arr 1 p.1), (14, .d (.int .i64 p.1))]) (fun _ => []) (fun p => [(1, ⟨1, 34, p.2.map (oneC cMsgs), false⟩)]) (fun p => cs.length - p.1) (0, []) ⟨by simp, rfl, by simp [replayF]⟩ ?_ ?_
  · simp [le_eq, St.head, keepT, setAll, leV, leB, leR, leR0, idsR, idsL, idsA, idsB]
  rintro ⟨i, out⟩ ⟨hi, ho, hr⟩
  simp only at hi ho hr
  have one : ∀ x, oneC cBytes x = [.list (x.map byteCell)] := fun _ => rfl
  have one2 : ∀ x, oneC cMsgs x = [.list (x.map Msg.enc)] := fun _ => rfl
  simp only [le_eq, one, hWParse, walA_eq, eBs, cBs, F.fBs, Nat.reduceSub, Nat.reduceAdd, Nat.reduceLT, Nat.reduceEqDiff, Nat.reduceLeDiff, Nat.reduceMul, Nat.reduceBEq, Int.reduceToNat, Op.operands, if_true, if_false, reduceCtorEq, if_pos, forall_const, implies_true, eq_self, ne_eq]
  have stop : replayF gen cs = out → @nK _ (Option.map AV.d (if i = out.length then some (D.list (out.map (oneC cMsgs))) else none)) ⟨fun x => K (.ret x)⟩ := by
    intro h
    rw [if_pos ho.symm]
    rw [h] at hK
    exact hK
  refine ⟨fun h => ⟨⟨by omega, by omega⟩, fun x hx => ⟨fun hb => stop ?_, fun hb => ⟨⟨ho.symm, by omega⟩, (i + 1, out ++ [(walP x).l]), ⟨by simp only; omega, by simp; omega, ?_⟩, by simp only; omega, ⟨by simp; omega, by rw [wrap_i64' (by omega) (by omega)]; rfl⟩, by simp [one2]⟩⟩⟩, fun h => stop ?_⟩
  · rw [hr, replay_drop hx]
    have hg : goodP (walP x) gen i = false := by simp only [goodP, hb]; rfl
    simp [hg]
  · rw [hr, replay_drop hx]
    have hg : goodP (walP x) gen i = true := by simp only [goodP, hb]; rfl
    simp [hg]
  · rw [hr, List.drop_of_length_le (by omega)]
    simp [replayI]
/-- Results compared (law 24). -/
def hSame : Det := det2 cMsgs cMsgs (fun _ _ => True) fun a b => .d (.bool (decide (a = b)))
theorem f_Same : FPure Try.prog 29 hSame.spec := by
  intro w no vs ds K hno hv hs
  obtain ⟨a, b, rfl, -, hK⟩ := det2_elim hs
  exact f_SameMsgs w no vs _ K hno hv ⟨a, b, rfl, hK⟩
def h24same : Det := det2 cParsed cParsed (fun _ _ => True) fun a b => .d (.bool (decide (a = b)))
theorem Parsed.eqB (a b : Parsed) : (decide (a.gen = b.gen) && (decide (a.seq = b.seq) && (decide (a.l = b.l) && decide (a.e = b.e)))) = decide (a = b) := by
  cases a; cases b
  simp only [Parsed.mk.injEq]
  simp [Bool.decide_and]
theorem f_24same : FPure Try.prog 22 h24same.spec := by
  refine FPure.runL [(29, .det hSame)] (fun _ => []) (by
    intro p hp
    simp only [List.mem_cons, List.not_mem_nil, or_false] at hp
    subst hp
    exact f_Same) F.mixed Try.func22 (by kernel_rfl) rfl (by kernel_rfl) 31 Try.ntmps22 [.tmp 4] Try.results22 ?_
  intro ds K hl hs
  obtain ⟨a, b, rfl, -, hK⟩ := det2_elim hs
  rw [← Parsed.eqB] at hK
  simp only [cParsed_enc, hSame, eBs, cBs, F.fBs, Nat.reduceSub, Nat.reduceAdd, Nat.reduceLT, Nat.reduceEqDiff, Nat.reduceLeDiff, Nat.reduceMul, Nat.reduceBEq, Int.reduceToNat, Op.operands, if_true, if_false, reduceCtorEq, if_pos, forall_const, implies_true, eq_self, ne_eq]
  exact hK
def h24parsed : Det := det1 cBytes (fun _ => True) fun b => .d (.agg (walP b).enc)
theorem f_24parsed : FPure Try.prog 23 h24parsed.spec := by
  refine FPure.runL [(39, .det hWParse)] (fun _ => []) (by
    intro p hp
    simp only [List.mem_cons, List.not_mem_nil, or_false] at hp
    subst hp
    exact f_walParse) F.mixed Try.func23 (by kernel_rfl) rfl (by kernel_rfl) 19 Try.ntmps23 [.cell 2 37] Try.results23 ?_
  intro ds K hl hs
  obtain ⟨b, rfl, -, hK⟩ := det1_elim hs
  simp only [hWParse, walA_eq, Parsed.enc, eBs, cBs, F.fBs, Nat.reduceSub, Nat.reduceAdd, Nat.reduceLT, Nat.reduceEqDiff, Nat.reduceLeDiff, Nat.reduceMul, Nat.reduceBEq, Int.reduceToNat, Op.operands, if_true, if_false, reduceCtorEq, if_pos, forall_const, implies_true, eq_self, ne_eq] at hK ⊢
  exact hK
def hSameG : Det := det2 cMsgss cMsgss (fun _ _ => True) fun a b => .d (.bool (decide (a = b)))
theorem f_sameG : FPure Try.prog 25 hSameG.spec := by
  refine FPure.runL [(29, .det hSame)] (fun i => if i = 6 then [(0, (false, [])), (1, (false, [])), (2, (false, [])), (3, (false, [])), (4, (false, [])), (5, (false, [])), (6, (false, [])), (7, (false, [])), (8, (true, [0, 1, 2, 4, 5, 6])), (9, (false, []))] else []) (by
    intro p hp
    simp only [List.mem_cons, List.not_mem_nil, or_false] at hp
    subst hp
    exact f_Same) F.mixed Try.func25 (by kernel_rfl) rfl (by kernel_rfl) 27 Try.ntmps25 [.tmp 4] Try.results25 ?_
  intro ds K hl hs
  obtain ⟨a, b, rfl, -, hK⟩ := det2_elim hs
  have la := map_len_le hl
  have one2 : ∀ x, oneC cMsgs x = [.list (x.map Msg.enc)] := fun _ => rfl
  simp only [eBs, cBs, F.fBs, Nat.reduceSub, Nat.reduceAdd, Nat.reduceLT, Nat.reduceEqDiff, Nat.reduceLeDiff, Nat.reduceMul, Nat.reduceBEq, Int.reduceToNat, Op.operands, if_true, if_false, reduceCtorEq, if_pos, forall_const, implies_true, eq_self, ne_eq]
  refine ⟨fun h => ?_, fun h => ?_⟩
  · have : a ≠ b := fun e => by subst e; simp at h
    simpa [this] using hK
  have hlen : a.length = b.length := by omega
  refine eK_rounds [0, 1, 4] (fun i => i ≤ a.length ∧ ∀ j, j < i → a[j]? = b[j]?) (fun i => [(5, .d (.int .i64 i))]) (fun _ => []) (fun _ => []) (fun i => a.length - i) 0 ⟨Nat.zero_le _, fun j hj => absurd hj (Nat.not_lt_zero _)⟩ ?_ ?_
  · simp [le_eq, St.head, keepT, setAll, leV, leB, leR, leR0, idsR, idsL, idsA, idsB]
  rintro i ⟨hi, hp⟩
  simp only [le_eq, eBs, cBs, F.fBs, Nat.reduceSub, Nat.reduceAdd, Nat.reduceLT, Nat.reduceEqDiff, Nat.reduceLeDiff, Nat.reduceMul, Nat.reduceBEq, Int.reduceToNat, Op.operands, if_true, if_false, reduceCtorEq, if_pos, forall_const, implies_true, eq_self, ne_eq]
  refine ⟨fun h1 => ⟨by omega, ?_⟩, fun h1 => ?_⟩
  · refine eG_map _ _ _ _ _ _ ⟨fun _ => rfl, ?_⟩
    simp only [le_eq, one2, eBs, cBs, F.fBs, Nat.reduceSub, Nat.reduceAdd, Nat.reduceLT, Nat.reduceEqDiff, Nat.reduceLeDiff, Nat.reduceMul, Nat.reduceBEq, Int.reduceToNat, Op.operands, if_true, if_false, reduceCtorEq, if_pos, forall_const, implies_true, eq_self, ne_eq]
    refine ⟨by omega, ?_⟩
    refine eG_map _ _ _ _ _ _ ⟨fun _ => rfl, ?_⟩
    simp only [le_eq, one2, hSame, eBs, cBs, F.fBs, Nat.reduceSub, Nat.reduceAdd, Nat.reduceLT, Nat.reduceEqDiff, Nat.reduceLeDiff, Nat.reduceMul, Nat.reduceBEq, Int.reduceToNat, Op.operands, if_true, if_false, reduceCtorEq, if_pos, forall_const, implies_true, eq_self, ne_eq]
    have ha : a[i]? = some (a.getD i default) := by simp [List.getD, show i < a.length by omega]
    have hb : b[i]? = some (b.getD i default) := by simp [List.getD, show i < b.length by omega]
    refine ⟨⟨⟨⟨by omega, by omega⟩, ?_⟩, ⟨by omega, by omega⟩, ?_⟩, fun h => ?_, fun h => ⟨i + 1, ⟨by omega, fun j hj => ?_⟩, by omega, ?_⟩⟩
    · intro x hx
      rw [List.getElem?_map, ha] at hx
      injection hx with hx; subst hx; exact ⟨rfl, rfl⟩
    · intro x hx
      rw [List.getElem?_map, hb] at hx
      injection hx with hx; subst hx; exact ⟨rfl, rfl⟩
    · have : a ≠ b := fun e => by subst e; simp at h
      simpa [this] using hK
    · rcases Nat.lt_or_ge j i with h2 | h2
      · exact hp j h2
      · have : j = i := by omega
        subst this
        rw [ha, hb, h]
    · rw [wrap_i64' (by omega) (by omega)]; rfl
  · have : a = b := by
      apply List.ext_getElem?
      intro j
      rcases Nat.lt_or_ge j i with h2 | h2
      · exact hp j h2
      · rw [List.getElem?_eq_none (by omega), List.getElem?_eq_none (by omega)]
    simpa [this] using hK
end Go.PE
