/- Frames and logs read by the reference (reference 24). -/
import Derived.Test.YtkgkpmdbcjelfaaWkX
import Derived.Test.YtkgkpmdbcjelfaaWkI
import Derived.Test.YtkgkpmdbcjelfaaWkL
import Derived.Test.YtkgkpmdbcjelfaaWkGr
set_option linter.unusedVariables false
set_option linter.defProp false
set_option linter.all false
set_option linter.unusedSimpArgs false
set_option maxRecDepth 10000
set_option maxHeartbeats 4000000
namespace Go.PE
open Go Go.Proofs

theorem rdText_eq (l : List UInt8) : rdText ⟨l, false⟩ = ((textF l).1, ⟨(textF l).2.1, !(textF l).2.2⟩) := by
  unfold rdText rdNum textF
  by_cases h2 : l.length < 2
  · rw [if_pos (.inl h2)]
    have e : rdTake 2 ⟨l, false⟩ = ([], ⟨[], true⟩) := by
      unfold rdTake
      rw [if_neg (by simp only; omega)]
    simp only [e]
    simp [rdTake, readN]
  · have e : rdTake 2 ⟨l, false⟩ = (l.take 2, ⟨l.drop 2, false⟩) := by
      unfold rdTake
      rw [if_pos (by simp only; omega)]
    simp only [e]
    generalize readN (l.take 2) = n
    unfold rdTake
    simp only [List.length_drop]
    by_cases h3 : l.length < 2 + n
    · rw [if_neg (by omega), if_pos (.inr h3)]
      rfl
    · rw [if_pos (by omega), if_neg (by omega)]
      simp only [List.drop_drop, Bool.not_true]
      rw [List.drop_take, Nat.add_sub_cancel_left]
theorem rdText_end : rdText ⟨[], true⟩ = ([], ⟨[], true⟩) := by simp [rdText, rdNum, rdTake, readN]
theorem rdNum_end (k : Nat) : rdNum (k + 1) ⟨[], true⟩ = (0, ⟨[], true⟩) := by simp [rdNum, rdTake, readN]
theorem rdNum4 (l : List UInt8) : rdNum 4 ⟨l, false⟩ = if 4 ≤ l.length then (readN (l.take 4), ⟨l.drop 4, false⟩) else (0, ⟨[], true⟩) := by
  unfold rdNum rdTake
  simp only
  split <;> simp [readN]
theorem textF_none {l : List UInt8} (h : (textF l).2.2 = false) : textF l = ([], [], false) := by
  unfold textF at h ⊢
  split
  · rfl
  · rename_i h1
    rw [if_neg h1] at h
    cases h
theorem valid_other {m : Msg} (h : ¬ (m.kind = 1 ∨ m.kind = 2 ∨ m.kind = 3 ∨ m.kind = 4 ∨ m.kind = 5 ∨ m.kind = 6)) : validB m = false := by
  rw [Bool.eq_false_iff]
  intro hv
  have := valid_cases hv
  apply h
  rcases this with h | h | h | h | h | h <;> (have := h.1; omega)
theorem parse_same (b : List UInt8) : parse2 b = parse1 b := by
  match b with
  | [] => simp [parse2, parse1, rdMsg, rdNum, rdTake, readN]
  | k :: l =>
    have e1 : rdNum 1 ⟨k :: l, false⟩ = (k.toNat, ⟨l, false⟩) := by simp [rdNum, rdTake, readN]
    unfold parse2 parse1 rdMsg
    simp only [e1, rdText_eq]
    by_cases k2 : k.toNat = 2
    · have h1 : readF 1 l = ((textF l).1, [], (textF l).2.1, (textF l).2.2) := by simp [readF, readI]
      simp only [k2, h1, if_true, if_pos, Nat.reduceEqDiff, if_false, Nat.reduceEqDiff, or_self]
      cases h : (textF l).2.2 <;> cases hv : validB { zeroMsg with kind := ((2 : Nat) : Int), key := (textF l).1 } <;> simp [hv]
    · have hf : readF 2 l = if (textF l).2.2 = false then ((textF l).1, [], (textF l).2.1, (textF l).2.2) else ((textF l).1, (textF (textF l).2.1).1, (textF (textF l).2.1).2.1, (textF (textF l).2.1).2.2) := by
        unfold readF
        simp only [Nat.reduceEqDiff, false_or]
        split <;> rfl
      simp only [k2, if_false, hf]
      cases h : (textF l).2.2 with
      | false =>
        have ht := textF_none h
        simp only [if_true, ht, Bool.not_false, rdText_end, rdNum_end]
        by_cases k1 : k.toNat = 1
        · simp [k1]
        by_cases k3 : k.toNat = 3
        · simp [k3]
        by_cases k45 : k.toNat = 4 ∨ k.toNat = 5
        · simp [k1, k3, k45]
        by_cases k6 : k.toNat = 6
        · simp [k6]
        · simp only [k1, k3, k45, k6, if_false]
          have := valid_other (m := { zeroMsg with kind := (k.toNat : Int) }) (by simp only; omega)
          simp [this]
      | true =>
        simp only [Bool.true_eq_false, if_false, Bool.not_true, rdText_eq]
        generalize (textF l).2.1 = l1
        generalize (textF l).1 = t1
        cases h2 : (textF l1).2.2 with
        | false =>
          have ht := textF_none h2
          simp only [if_true, ht, Bool.not_false, rdText_end, rdNum_end]
          by_cases k1 : k.toNat = 1
          · simp [k1]
          by_cases k3 : k.toNat = 3
          · simp [k3]
          by_cases k45 : k.toNat = 4 ∨ k.toNat = 5
          · simp [k1, k3, k45]
          by_cases k6 : k.toNat = 6
          · simp [k6]
          · simp only [k1, k3, k45, k6, if_false]
            have := valid_other (m := { zeroMsg with kind := (k.toNat : Int) }) (by simp only; omega)
            simp [this]
        | true =>
          simp only [Bool.true_eq_false, if_false, Bool.not_true, rdNum4]
          generalize (textF l1).2.1 = l2
          generalize (textF l1).1 = t2
          by_cases k1 : k.toNat = 1
          · simp only [k1, if_true, true_or, num4]
            by_cases h4 : l2.length < 4
            · simp [h4, show ¬ 4 ≤ l2.length by omega]
            · have h4' : 4 ≤ l2.length := by omega
              simp only [if_neg h4, if_pos h4']
              generalize readN (l2.take 4) = n
              cases hv : validB { zeroMsg with kind := ((1 : Nat) : Int), key := t1, value := t2, n := n } <;> simp [hv]
          by_cases k3 : k.toNat = 3
          · simp only [k3, Nat.reduceEqDiff, if_true, if_false, true_or, or_self]
            cases hv : validB { zeroMsg with kind := ((3 : Nat) : Int), lo := t1, hi := t2 } <;> simp [hv]
          by_cases k6 : k.toNat = 6
          · simp only [k6, Nat.reduceEqDiff, if_true, if_false, or_true, or_self, num4]
            by_cases h4 : l2.length < 4
            · simp [h4, show ¬ 4 ≤ l2.length by omega]
            · have h4' : 4 ≤ l2.length := by omega
              simp only [if_neg h4, if_pos h4']
              generalize readN (l2.take 4) = n
              cases hv : validB { zeroMsg with kind := ((6 : Nat) : Int), lo := t1, hi := t2, n := n } <;> simp [hv]
          simp only [k1, k3, k6, if_false, or_self]
          by_cases k45 : k.toNat = 4 ∨ k.toNat = 5
          · rw [if_pos k45]
            cases hv : validB { zeroMsg with kind := (k.toNat : Int), fr := t1, to := t2 } <;> simp [hv]
          · rw [if_neg k45]
            have v1 := valid_other (m := { zeroMsg with kind := (k.toNat : Int), fr := t1, to := t2 }) (by simp only; omega)
            have v2 := valid_other (m := { zeroMsg with kind := (k.toNat : Int) }) (by simp only; omega)
            simp [v1, v2]

theorem eK_growB {cx : Kt Cx} {st : St} {Q : Kt (Ex → St → Prop)} {x : Code} {α : Type} (ks : List Nat) (I : α → Prop) (ch : α → List (Nat × AV)) (bs : α → List (Nat × List AV)) (rs : α → List Arr) (μ : α → Nat) (a0 : α)
    (hI : I a0) (hr : ∀ a, I a → st.r.length ≤ (rs a).length) (h0 : st.le ⟨setAll (keepT ks 0 st.t) (ch a0), setAll st.b (bs a0), rs a0⟩)
    (h : ∀ a, I a → @eK cx ⟨setAll (keepT ks 0 st.t) (ch a), setAll st.b (bs a), rs a⟩ ⟨x⟩ ⟨fun e s => match e with
      | .normal => ∃ a', I a' ∧ μ a' < μ a ∧ s.le ⟨setAll (keepT ks 0 st.t) (ch a'), setAll st.b (bs a'), rs a'⟩
      | e => Q.v e s⟩) : @eK cx st ⟨.loop x⟩ Q :=
  evalK_loop I (fun a => ⟨setAll (keepT ks 0 st.t) (ch a), setAll st.b (bs a), rs a⟩) μ a0 hI h0 (fun a ha => ⟨setAll_len _ _, hr a ha⟩) (fun a ha => h a ha)

theorem hParse2_eq : hParse2 = hParse := by
  unfold hParse2 hParse
  have : (fun b => parseA (parse2 b)) = fun b => parseA (parse1 b) := funext fun b => by rw [parse_same]
  rw [this]
theorem f_05Parse1 : FPure Try.prog 50 hParse.spec := hParse2_eq ▸ f_05Parse

/-- What is read so far, if the bytes are a frame. -/
def rdI (b : List UInt8) (L : List Msg) (rest : List UInt8) : Prop := ∀ g s l, walF b = some (g, s, l) → ∃ i, i ≤ l.length ∧ L = l.take i ∧ rest = (l.drop i).flatMap bytesM
theorem wal_parts {b : List UInt8} {g s : Nat} {l : List Msg} (h : walF b = some (g, s, l)) :
    21 ≤ b.length ∧ b.length ≤ 65536 ∧ groupB l = true ∧ (b.take 5).drop 1 = beN g 4 4 ∧ (b.take 9).drop 5 = beN s 4 4 ∧ (b.take (b.length - 8)).drop 13 = l.flatMap bytesM ∧ g < 2147483648 ∧ s < 2147483648 := by
  have h1 := walF_inv h
  unfold frameF at h1
  split at h1
  case isFalse => cases h1
  rename_i hg
  split at h1
  case isFalse => cases h1
  rename_i hl
  simp only [Prod.mk.injEq, and_true] at h1
  simp only [Bool.and_eq_true] at hg
  obtain ⟨g1, g2⟩ := n31_iff.1 hg.1
  obtain ⟨s1, s2⟩ := n31_iff.1 hg.2.1
  simp only [Int.toNat_natCast] at h1
  generalize l.flatMap bytesM = all at *
  have hb := headF_body g s all
  have hlen := headF_len g s all
  generalize headF g s all = H at *
  subst h1
  have hbe : ∀ n, (beN n 8 8).length = 8 := fun n => beN_len n 8 8
  refine ⟨by simp [hbe]; omega, by simp [hbe]; omega, hg.2.2, ?_, ?_, ?_, by omega, by omega⟩
  · rw [List.take_append_of_le_length (by omega), ← hb.2.1, List.drop_take]
  · rw [List.take_append_of_le_length (by omega), ← hb.2.2.1, List.drop_take]
  · rw [List.length_append, hbe, Nat.add_sub_cancel, List.take_left, hb.2.2.2.2]
theorem rdI_start (b : List UInt8) : rdI b [] ((b.take (b.length - 8)).drop 13) := by
  intro g s l h
  exact ⟨0, Nat.zero_le _, rfl, by rw [(wal_parts h).2.2.2.2.2.1]; rfl⟩
theorem group_valid {l : List Msg} (h : groupB l = true) : ∀ m ∈ l, validB m = true := by
  simp only [groupB, Bool.and_eq_true] at h
  exact fun m hm => List.all_eq_true.1 h.1 m hm
theorem rdI_step {b : List UInt8} {L : List Msg} {rest : List UInt8} (h : rdI b L rest) (hr : rest ≠ []) : (parse1 rest = none → walF b = none) ∧ (64 < L.length → walF b = none) ∧ ∀ m n, parse1 rest = some (m, n) → rdI b (L ++ [m]) (rest.drop n) := by
  have key : ∀ g s l, walF b = some (g, s, l) → ∃ i m, l[i]? = some m ∧ L = l.take i ∧ rest = bytesM m ++ (l.drop (i + 1)).flatMap bytesM ∧ validB m = true ∧ l.length ≤ 64 := by
    intro g s l hw
    obtain ⟨i, hi, hL, hR⟩ := h g s l hw
    have hg := (wal_parts hw).2.2.1
    rcases Nat.lt_or_ge i l.length with h1 | h1
    · refine ⟨i, l[i], List.getElem?_eq_getElem h1, hL, ?_, group_valid hg _ (List.getElem_mem h1), (group_le hg).2⟩
      rw [hR, List.drop_eq_getElem_cons h1, List.flatMap_cons]
    · rw [List.drop_of_length_le h1] at hR
      exact absurd hR hr
  refine ⟨fun hp => ?_, fun hp => ?_, fun m n hp g s l hw => ?_⟩
  · cases hw : walF b with
    | none => rfl
    | some x =>
      obtain ⟨g, s, l⟩ := x
      obtain ⟨i, m, _, _, hR, hv, _⟩ := key g s l hw
      rw [hR, parse1_ok hv] at hp
      cases hp
  · cases hw : walF b with
    | none => rfl
    | some x =>
      obtain ⟨g, s, l⟩ := x
      obtain ⟨i, m, _, hL, _, _, hl⟩ := key g s l hw
      rw [hL] at hp
      simp at hp
      omega
  · obtain ⟨i, m', hm, hL, hR, hv, _⟩ := key g s l hw
    rw [hR, parse1_ok hv] at hp
    simp only [Option.some.injEq, Prod.mk.injEq] at hp
    obtain ⟨rfl, rfl⟩ := hp
    refine ⟨i + 1, (List.getElem?_eq_some_iff.1 hm).1, by rw [hL, take_snoc hm], by rw [hR, List.drop_left]⟩
theorem rdI_end {b : List UInt8} {L : List Msg} (h : rdI b L []) (g s : Nat) (hg : g = readN ((b.take 5).drop 1)) (hs : s = readN ((b.take 9).drop 5)) : walP b = if frameF g s L = (b, 0) then ⟨g, s, L, 0⟩ else ⟨0, 0, [], 240⟩ := by
  split
  · rename_i hf
    have h1 := frame_ok (g := g) (s := s) (l := L) (by rw [hf])
    rw [hf] at h1
    simp only [walP, h1, Int.toNat_natCast]
  · rename_i hf
    have : walF b = none := by
      cases hw : walF b with
      | none => rfl
      | some x =>
        obtain ⟨g', s', l⟩ := x
        obtain ⟨i, hi, hL, hR⟩ := h g' s' l hw
        obtain ⟨_, _, hgr, e1, e2, _, g3, s3⟩ := wal_parts hw
        have hil : i = l.length := by
          rcases Nat.lt_or_ge i l.length with h1 | h1
          · rw [List.drop_eq_getElem_cons h1, List.flatMap_cons] at hR
            have := bytesM_pos (group_valid hgr _ (List.getElem_mem h1))
            have h2 := congrArg List.length hR
            simp at h2
            omega
          · omega
        subst hil
        rw [List.take_length] at hL
        subst hL
        rw [e1, readN_beN (by omega)] at hg
        rw [e2, readN_beN (by omega)] at hs
        subst hg hs
        exact absurd (walF_inv hw) hf
    simp only [walP, this]

/-- The messages that are read, in their field, and the rows that they lie in. -/
def cellL : List Msg → AV
  | [] => .nilS
  | m :: L => .arr 1 (L.length + 1)
def rowsL : List Msg → List Arr
  | [] => []
  | m :: L => [⟨8, 61, [m.enc], false⟩, ⟨8, 61, (m :: L).map Msg.enc, false⟩]
theorem f_24Parse : FPure Try.prog 24 h24parsed.spec := by
  refine FPure.runL [(49, .det h24read), (50, .det hParse), (21, .det hFrame)] (fun i => if i = 3 then [(0, (false, [])), (1, (false, [])), (2, (false, [])), (3, (false, [])), (4, (false, [])), (5, (false, [])), (6, (false, [])), (7, (true, [0, 1, 2, 3, 4, 5, 6])), (8, (true, []))] else []) (by
    intro p hp
    simp only [List.mem_cons, List.not_mem_nil, or_false] at hp
    rcases hp with rfl | rfl | rfl
    · exact f_24read
    · exact f_05Parse1
    · exact f_24Frame) F.mixed Try.func24 (by kernel_rfl) rfl (by kernel_rfl) 79 Try.ntmps24 [.cell 2 37] Try.results24 ?_
  intro ds K hl hs
  obtain ⟨b, rfl, -, hK⟩ := det1_elim hs
  have la := map_len_le hl
  simp only [h24read, eBs, cBs, F.fBs, Nat.reduceSub, Nat.reduceAdd, Nat.reduceLT, Nat.reduceEqDiff, Nat.reduceLeDiff, Nat.reduceMul, Nat.reduceBEq, Int.reduceToNat, Op.operands, if_true, if_false, reduceCtorEq, if_pos, forall_const, implies_true, eq_self, ne_eq]
  refine ⟨fun h => ?_, fun h => ?_⟩
  · have hn : walF b = none := by
      unfold walF
      rw [if_pos]
      simp only [Bool.or_eq_true, decide_eq_true_eq] at h
      omega
    simp only [walP, hn] at hK
    exact hK
  simp only [Bool.or_eq_false_iff, decide_eq_false_iff_not] at h
  have hw : IntKind.i64.wrap ((b.length : Int) - 8) = ((b.length - 8 : Nat) : Int) := by rw [wrap_i64' (by omega) (by omega)]; omega
  rw [hw]
  simp only [Int.toNat_natCast]
  refine ⟨by omega, by simp; omega, by omega, by simp; omega, ⟨by omega, by simp; omega, by omega, by simp; omega⟩, by omega, ?_⟩
  have h0 := rdI_start b
  have hl0 : ((b.take (b.length - 8)).drop 13).length ≤ 65536 := by simp; omega
  have hend := fun L (hL : rdI b L []) => rdI_end hL _ _ rfl rfl
  generalize (b.take (b.length - 8)).drop 13 = rest0 at *
  generalize readN ((b.take 5).drop 1) = G at *
  generalize readN ((b.take 9).drop 5) = S at *
  refine eK_growB [0, 2, 3] (fun p : List Msg × List UInt8 => rdI b p.1 p.2 ∧ p.1.length ≤ 65 ∧ p.2.length ≤ 65536) (fun p => [(4, .d (.list (p.2.map byteCell)))]) (fun p => [(1, [.d (.int .i64 G), .d (.int .i64 S), cellL p.1, .d (.int .i64 0)])]) (fun p => rowsL p.1) (fun p => p.2.length) ([], rest0) ⟨h0, by simp, hl0⟩ (fun _ _ => Nat.zero_le _) ?_ ?_
  · simp [le_eq, St.head, keepT, setAll, leV, leB, leR, leR0, idsR, refsL, idsL, idsA, idsB, cellL, rowsL]
  rintro ⟨L, rest⟩ ⟨hI, hL, hR⟩
  simp only at hI hL hR
  have em : ∀ x : Msg, x.enc = [.int .i64 x.kind, .str x.key, .str x.value, .str x.lo, .str x.hi, .str x.fr, .str x.to, .int .i64 x.n] := fun _ => rfl
  by_cases h0 : rest = []
  · subst h0
    have he := hend L hI
    have n0 : ((([] : List UInt8).length : Nat) : Int) = 0 := rfl
    have n1 : ((0 : Int) < ((0 : Nat) : Int)) = False := eq_false (by decide)
    have fin : ((decide ¬(frameF (G : Nat) (S : Nat) L).2 = 0 || decide ¬(frameF (G : Nat) (S : Nat) L).1 = b) = true → K (.ret (.d (.agg [.int .i64 0, .int .i64 0, .list [], .int .i64 240])))) ∧
        ((decide ¬(frameF (G : Nat) (S : Nat) L).2 = 0 || decide ¬(frameF (G : Nat) (S : Nat) L).1 = b) = false → K (.ret (.d (.agg [.int .i64 G, .int .i64 S, .list (L.map Msg.enc), .int .i64 0])))) := by
      generalize frameF (G : Nat) (S : Nat) L = p at he ⊢
      obtain ⟨p1, p2⟩ := p
      simp only [Prod.mk.injEq] at he
      refine ⟨fun h => ?_, fun h => ?_⟩
      · rw [if_neg (fun e => by simp [e.1, e.2] at h)] at he
        rw [he] at hK
        exact hK
      · simp only [Bool.or_eq_false_iff, decide_eq_false_iff_not, Classical.not_not] at h
        rw [if_pos ⟨h.2, h.1⟩] at he
        rw [he] at hK
        exact hK
    cases L with
    | nil =>
      simp only [le_eq, n0, n1, cellL, rowsL, hFrame, frameA, List.map_nil, eBs, cBs, F.fBs, Nat.reduceSub, Nat.reduceAdd, Nat.reduceLT, Nat.reduceEqDiff, Nat.reduceLeDiff, Nat.reduceMul, Nat.reduceBEq, Int.reduceToNat, Op.operands, if_true, if_false, reduceCtorEq, if_pos, forall_const, implies_true, eq_self, ne_eq]
      exact fin
    | cons m L =>
      have hdec : cMsgs.dec (.list (m.enc :: L.map Msg.enc)) = some (m :: L) := cMsgs_dec (m :: L)
      simp only [le_eq, n0, n1, cellL, rowsL, hFrame, frameA, hdec, List.map_nil, List.map_cons, eBs, cBs, F.fBs, Nat.reduceSub, Nat.reduceAdd, Nat.reduceLT, Nat.reduceEqDiff, Nat.reduceLeDiff, Nat.reduceMul, Nat.reduceBEq, Int.reduceToNat, Op.operands, if_true, if_false, reduceCtorEq, if_pos, forall_const, implies_true, eq_self, ne_eq]
      exact fin
  · have hpos : ((0 : Int) < (rest.length : Int)) = True := eq_true (by have := List.length_pos_iff.2 h0; omega)
    obtain ⟨s1, s2, s3⟩ := rdI_step hI h0
    have none_K : walF b = none → K (.ret (.d (.agg [.int .i64 0, .int .i64 0, .list [], .int .i64 240]))) := by
      intro hn
      simp only [walP, hn] at hK
      exact hK
    cases hp : parse1 rest with
    | none =>
      cases L with
      | nil =>
        simp only [le_eq, hpos, hp, cellL, rowsL, hParse, parseA, em, eBs, cBs, F.fBs, Nat.reduceSub, Nat.reduceAdd, Nat.reduceLT, Nat.reduceEqDiff, Nat.reduceLeDiff, Nat.reduceMul, Nat.reduceBEq, Int.reduceToNat, Op.operands, if_true, if_false, reduceCtorEq, if_pos, forall_const, implies_true, eq_self, ne_eq]
        exact ⟨fun _ => none_K (s1 hp), fun h => by simp at h⟩
      | cons m L =>
        simp only [le_eq, hpos, hp, cellL, rowsL, hParse, parseA, em, List.map_cons, eBs, cBs, F.fBs, Nat.reduceSub, Nat.reduceAdd, Nat.reduceLT, Nat.reduceEqDiff, Nat.reduceLeDiff, Nat.reduceMul, Nat.reduceBEq, Int.reduceToNat, Op.operands, if_true, if_false, reduceCtorEq, if_pos, forall_const, implies_true, eq_self, ne_eq]
        exact ⟨fun _ => none_K (s1 hp), fun h => by simp at h⟩
    | some mn =>
      obtain ⟨m', n⟩ := mn
      obtain ⟨n1, n2⟩ := parse1_pos hp h0
      have hnext := s3 m' n hp
      cases L with
      | nil =>
        simp only [le_eq, hpos, hp, cellL, rowsL, hParse, parseA, em, eBs, cBs, F.fBs, Nat.reduceSub, Nat.reduceAdd, Nat.reduceLT, Nat.reduceEqDiff, Nat.reduceLeDiff, Nat.reduceMul, Nat.reduceBEq, Int.reduceToNat, Op.operands, if_true, if_false, reduceCtorEq, if_pos, forall_const, implies_true, eq_self, ne_eq]
        refine ⟨fun h => absurd h (by decide), fun _ => ⟨by omega, ([m'], rest.drop n), ⟨hnext, by simp, by simp; omega⟩, by simp; omega, rfl, ?_⟩⟩
        simp [leV, leR0, idsR, idsA, em]
      | cons m L =>
        simp only [le_eq, hpos, hp, cellL, rowsL, hParse, parseA, em, List.map_cons, eBs, cBs, F.fBs, Nat.reduceSub, Nat.reduceAdd, Nat.reduceLT, Nat.reduceEqDiff, Nat.reduceLeDiff, Nat.reduceMul, Nat.reduceBEq, Int.reduceToNat, Op.operands, if_true, if_false, reduceCtorEq, if_pos, forall_const, implies_true, eq_self, ne_eq]
        simp only [List.length_cons] at s2
        refine ⟨fun h => none_K (s2 (by omega)), fun h => ⟨by omega, by omega, ((m :: L) ++ [m'], rest.drop n), ⟨hnext, by simp; omega, by simp; omega⟩, by simp; omega, rfl, ?_⟩⟩
        simp [leV, leR0, idsR, idsA, em]
theorem f_24Replay : FPure Try.prog 27 hReplay.spec := by
  refine FPure.runL [(24, .det h24parsed)] (fun _ => []) (by
    intro p hp
    simp only [List.mem_cons, List.not_mem_nil, or_false] at hp
    subst hp
    exact f_24Parse) F.mixed Try.func27 (by kernel_rfl) rfl (by kernel_rfl) 42 Try.ntmps27 [.tmp 4] Try.results27 ?_
  intro ds K hl hs
  obtain ⟨cs, gen, rfl, la, hK⟩ := det2_elim hs
  simp only [eBs, cBs, F.fBs, Nat.reduceSub, Nat.reduceAdd, Nat.reduceLT, Nat.reduceEqDiff, Nat.reduceLeDiff, Nat.reduceMul, Nat.reduceBEq, Int.reduceToNat, Op.operands, if_true, if_false, reduceCtorEq, if_pos, forall_const, implies_true, eq_self, ne_eq]
  refine eK_rounds [0, 1] (fun p : Nat × List (List Msg) => p.1 ≤ cs.length ∧ p.2.length = p.1 ∧ replayF gen cs = p.2 ++ replayI gen p.1 (cs.drop p.1)) (fun p => [(5, .arr 1 p.1), (6, .d (.int .i64 p.1))]) (fun _ => []) (fun p => [(1, ⟨1, 34, p.2.map (oneC cMsgs), false⟩)]) (fun p => cs.length - p.1) (0, []) ⟨by simp, rfl, by simp [replayF]⟩ ?_ ?_
  · simp [le_eq, St.head, keepT, setAll, leV, leB, leR, leR0, idsR, idsL, idsA, idsB]
  rintro ⟨i, out⟩ ⟨hi, ho, hr⟩
  simp only at hi ho hr
  have one : ∀ x, oneC cBytes x = [.list (x.map byteCell)] := fun _ => rfl
  have one2 : ∀ x, oneC cMsgs x = [.list (x.map Msg.enc)] := fun _ => rfl
  have pe : ∀ p : Parsed, p.enc = [.int .i64 p.gen, .int .i64 p.seq, .list (p.l.map Msg.enc), .int .i64 p.e] := fun _ => rfl
  simp only [le_eq, one, h24parsed, pe, eBs, cBs, F.fBs, Nat.reduceSub, Nat.reduceAdd, Nat.reduceLT, Nat.reduceEqDiff, Nat.reduceLeDiff, Nat.reduceMul, Nat.reduceBEq, Int.reduceToNat, Op.operands, if_true, if_false, reduceCtorEq, if_pos, forall_const, implies_true, eq_self, ne_eq]
  have stop : replayF gen cs = out → @nK _ (Option.map AV.d (if i = out.length then some (D.list (out.map (oneC cMsgs))) else none)) ⟨fun x => K (.ret x)⟩ := by
    intro h
    rw [if_pos ho.symm]
    rw [h] at hK
    exact hK
  trace_state
  refine ⟨fun h => ⟨⟨by omega, by omega⟩, fun x hx => ⟨fun hb => stop ?_, fun hb => ⟨⟨ho.symm, by omega⟩, (i + 1, out ++ [(walP x).l]), ⟨by simp only; omega, by simp; omega, ?_⟩, by simp only; omega, ⟨by simp; omega, by rw [wrap_i64' (by omega) (by omega)]; rfl⟩, by simp [one2]⟩⟩⟩, fun h => stop ?_⟩
  · rw [hr, replay_drop hx]
    have hg : goodP (walP x) gen i = false := by simp only [goodP, hb]; rfl
    simp [hg]
  · rw [hr, replay_drop hx]
    have hg : goodP (walP x) gen i = true := by simp only [goodP, hb]; rfl
    simp [hg]
  · rw [hr, List.drop_of_length_le (by omega)]
    simp [replayI]
end Go.PE
