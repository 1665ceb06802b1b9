/- WkP: what the laws need of it. -/
import Derived.Test.YtknilgmkgjjidaaGreatDoorWkC
set_option linter.unusedVariables false
set_option linter.defProp false
set_option linter.all false
set_option linter.unusedSimpArgs false
set_option maxRecDepth 100000
set_option maxHeartbeats 4000000
namespace Go.PE
open Go Go.Proofs

def paths : List (List UInt8) := [[97, 47], [98, 47], [97, 47, 98, 47], [99, 47], [100, 47]]
def pathF (n : Int) : List UInt8 := paths.getD (n.toNat % 5) []
def byteP (n : Int) : Prop := 0 ≤ n ∧ n < 256
def hPath : Det := det1 (cI .u8) byteP fun n => .d (.str (pathF n))
theorem tmod_u8 {n : Int} (h : byteP n) (k : Nat) : n.tmod k = ((n.toNat % k : Nat) : Int) := by
  obtain ⟨m, rfl⟩ := Int.eq_ofNat_of_zero_le h.1
  exact (Int.ofNat_tmod m k).symm
theorem path_get (k : Nat) (h : k < 5) : [[D.str [97, 47]], [D.str [98, 47]], [D.str [97, 47, 98, 47]], [D.str [99, 47]], [D.str [100, 47]]].getD k [] = [.str (paths.getD k [])] := match k, h with
  | 0, _ => rfl
  | 1, _ => rfl
  | 2, _ => rfl
  | 3, _ => rfl
  | 4, _ => rfl
theorem f_05Path : FPure Tryz.prog 36 hPath.spec := by
  refine FPure.runL [] (fun _ => []) (by simp) F.mixed Tryz.func36 (by kernel_rfl) rfl (by kernel_rfl) 8 Tryz.ntmps36 [.tmp 2] Tryz.results36 ?_
  intro ds K hl hs
  obtain ⟨n, rfl, hn, hK⟩ := det1_elim hs
  have h5 : n.tmod 5 = ((n.toNat % 5 : Nat) : Int) := tmod_u8 hn 5
  have hlt : n.toNat % 5 < 5 := Nat.mod_lt _ (by decide)
  simp only [h5, Int.toNat_natCast, path_get _ hlt, eBs, cBs, F.fBs, Nat.reduceSub, Nat.reduceAdd, Nat.reduceLT, Nat.reduceEqDiff, Nat.reduceLeDiff, Nat.reduceMul, Nat.reduceBEq, Int.reduceToNat, Op.operands, if_true, if_false, reduceCtorEq, if_pos, forall_const, implies_true, eq_self, ne_eq, iff_self]
  exact ⟨by decide, by omega, by omega, hK⟩
def keys : List (List UInt8) := [[1], [2, 0, 0], [2, 0, 1], [2, 0, 2], [3, 120]]
def keyF (n : Int) : List UInt8 := pathF ((n.toNat % 4 : Nat) : Int) ++ keys.getD (n.toNat / 4 % 5) []
theorem key_get (k : Nat) (h : k < 5) : [[D.str [1]], [D.str [2, 0, 0]], [D.str [2, 0, 1]], [D.str [2, 0, 2]], [D.str [3, 120]]].getD k [] = [.str (keys.getD k [])] := match k, h with
  | 0, _ => rfl
  | 1, _ => rfl
  | 2, _ => rfl
  | 3, _ => rfl
  | 4, _ => rfl
theorem path_len (n : Int) : (pathF n).length ≤ 4 := by
  unfold pathF
  have h : n.toNat % 5 < 5 := Nat.mod_lt _ (by decide)
  generalize n.toNat % 5 = k at h
  match k, h with
  | 0, _ => decide
  | 1, _ => decide
  | 2, _ => decide
  | 3, _ => decide
  | 4, _ => decide
theorem key_len (k : Nat) (h : k < 5) : (keys.getD k []).length ≤ 3 := by
  match k, h with
  | 0, _ => decide
  | 1, _ => decide
  | 2, _ => decide
  | 3, _ => decide
  | 4, _ => decide
def hKey : Det := det1 (cI .u8) byteP fun n => .d (.str (keyF n))
theorem tdiv_u8 {n : Int} (h : byteP n) (k : Nat) : IntKind.u8.wrap (n.tdiv k) = ((n.toNat / k : Nat) : Int) := by
  obtain ⟨m, rfl⟩ := Int.eq_ofNat_of_zero_le h.1
  have hm : m < 256 := by have := h.2; omega
  rw [Int.toNat_natCast]
  have e : ((m : Nat) : Int).tdiv k = ((m / k : Nat) : Int) := (Int.ofNat_tdiv m k).symm
  have hd := Nat.div_le_self m k
  generalize m / k = q at e hd
  rw [e, wrap_u8' (by omega) (by omega)]
theorem f_05Key : FPure Tryz.prog 34 hKey.spec := by
  refine FPure.runL [(36, .det hPath)] (fun i => if i = 1 then [(0, (false, [])), (1, (false, [])), (2, (false, [])), (4, (false, [])), (5, (false, [])), (6, (false, [])), (3, (true, [0, 1, 2, 4, 5, 6])), (7, (false, [])), (8, (false, [])), (9, (false, [])), (10, (true, []))] else []) (by
    intro p hp
    simp only [List.mem_cons, List.not_mem_nil, or_false] at hp
    subst hp
    exact f_05Path) F.mixed Tryz.func34 (by kernel_rfl) rfl (by kernel_rfl) 13 Tryz.ntmps34 [.tmp 2] Tryz.results34 ?_
  intro ds K hl hs
  obtain ⟨n, rfl, hn, hK⟩ := det1_elim hs
  have h4 : n.tmod 4 = ((n.toNat % 4 : Nat) : Int) := tmod_u8 hn 4
  have hd : IntKind.u8.wrap (n.tdiv 4) = ((n.toNat / 4 : Nat) : Int) := tdiv_u8 hn 4
  have hm : ((n.toNat / 4 : Nat) : Int).tmod 5 = ((n.toNat / 4 % 5 : Nat) : Int) := (Int.ofNat_tmod _ 5).symm
  have hlt : n.toNat / 4 % 5 < 5 := Nat.mod_lt _ (by decide)
  simp only [hPath, h4, hd, hm, Int.toNat_natCast, key_get _ hlt, eBs, cBs, F.fBs, Nat.reduceSub, Nat.reduceAdd, Nat.reduceLT, Nat.reduceEqDiff, Nat.reduceLeDiff, Nat.reduceMul, Nat.reduceBEq, Int.reduceToNat, Op.operands, if_true, if_false, reduceCtorEq, if_pos, forall_const, implies_true, eq_self, ne_eq, iff_self]
  have l1 := path_len ((n.toNat % 4 : Nat) : Int)
  have l2 := key_len _ hlt
  have b4 : byteP ((n.toNat % 4 : Nat) : Int) := ⟨by omega, by omega⟩
  exact ⟨by decide, b4, by decide, by decide, ⟨by decide, b4, by decide, by decide⟩, ⟨by omega, by omega⟩, hlt, by omega, hK⟩
def values : List (List UInt8) := [[], [120], [121, 121], [49, 50, 51, 52, 53, 54, 55, 56, 57, 48], [0, 255]]
def valueF (n : Int) : List UInt8 := values.getD (n.toNat % 5) []
theorem value_get (k : Nat) (h : k < 5) : [[D.str []], [D.str [120]], [D.str [121, 121]], [D.str [49, 50, 51, 52, 53, 54, 55, 56, 57, 48]], [D.str [0, 255]]].getD k [] = [.str (values.getD k [])] := match k, h with
  | 0, _ => rfl
  | 1, _ => rfl
  | 2, _ => rfl
  | 3, _ => rfl
  | 4, _ => rfl
def hValue5 : Det := det1 (cI .u8) byteP fun n => .d (.str (valueF n))
theorem f_05Value : FPure Tryz.prog 39 hValue5.spec := by
  refine FPure.runL [] (fun _ => []) (by simp) F.mixed Tryz.func39 (by kernel_rfl) rfl (by kernel_rfl) 8 Tryz.ntmps39 [.tmp 2] Tryz.results39 ?_
  intro ds K hl hs
  obtain ⟨n, rfl, hn, hK⟩ := det1_elim hs
  have h5 : n.tmod 5 = ((n.toNat % 5 : Nat) : Int) := tmod_u8 hn 5
  have hlt : n.toNat % 5 < 5 := Nat.mod_lt _ (by decide)
  simp only [h5, Int.toNat_natCast, value_get _ hlt, eBs, cBs, F.fBs, Nat.reduceSub, Nat.reduceAdd, Nat.reduceLT, Nat.reduceEqDiff, Nat.reduceLeDiff, Nat.reduceMul, Nat.reduceBEq, Int.reduceToNat, Op.operands, if_true, if_false, reduceCtorEq, if_pos, forall_const, implies_true, eq_self, ne_eq, iff_self]
  exact ⟨by decide, by omega, by omega, hK⟩
theorem byte_succ (c : UInt8) : bytesD [[D.int .u8 (IntKind.u8.wrap ((c.toNat : Int) + 1))]] = some [c + 1] := by
  have hc : c.toNat < 256 := c.toNat_lt
  have e : IntKind.u8.wrap ((c.toNat : Int) + 1) = ((c + 1).toNat : Int) := by
    rw [UInt8.toNat_add]
    rcases Nat.lt_or_ge c.toNat 255 with h | h
    · rw [wrap_u8' (by omega) (by omega)]
      have : (1 : UInt8).toNat = 1 := rfl
      rw [this]
      omega
    · have h5 : c.toNat = 255 := by omega
      rw [h5]
      rfl
  rw [e]
  exact bytesD_map [c + 1]
def stripF (p : List UInt8) : Nat → Nat
  | 0 => 0
  | n + 1 => if p.getD n 0 = 255 then stripF p n else n + 1
def prefixF (p : List UInt8) : List UInt8 × List UInt8 :=
  if stripF p p.length = 0 then (p, []) else (p, p.take (stripF p p.length - 1) ++ [p.getD (stripF p p.length - 1) 0 + 1])
def hPrefix : Det := det1 cS (fun p => p.length ≤ 1000) fun p => .d (.agg [.str (prefixF p).1, .str (prefixF p).2])
theorem f_02Prefix : FPure Tryz.prog 35 hPrefix.spec := by
  refine FPure.runL [] (fun i => if i = 6 then [(0, (false, [])), (1, (false, [])), (2, (false, [])), (3, (false, [])), (4, (false, [])), (5, (false, [])), (6, (false, [])), (7, (false, [])), (8, (false, [])), (9, (false, [])), (10, (true, [0, 1, 2, 3, 4, 5, 6, 7, 8])), (11, (true, [0, 1, 2, 3, 4, 5, 6, 7, 8])), (12, (false, [])), (13, (false, [])), (14, (true, []))] else []) (by simp) F.mixed Tryz.func35 (by kernel_rfl) rfl (by kernel_rfl) 35 Tryz.ntmps35 [.cell 2 34] Tryz.results35 ?_
  intro ds K hl hs
  obtain ⟨p, rfl, hp, hK⟩ := det1_elim hs
  simp only [eBs, cBs, F.fBs, Nat.reduceSub, Nat.reduceAdd, Nat.reduceLT, Nat.reduceEqDiff, Nat.reduceLeDiff, Nat.reduceMul, Nat.reduceBEq, Int.reduceToNat, Op.operands, if_true, if_false, reduceCtorEq, if_pos, forall_const, implies_true, eq_self, ne_eq, iff_self]
  refine eK_rounds [0, 2] (fun n : Nat => n ≤ p.length ∧ stripF p n = stripF p p.length) (fun n => [(3, .d (.int .i64 n))]) (fun _ => []) (fun _ => []) (fun n => n) p.length ⟨Nat.le_refl _, rfl⟩ ?_ ?_
  · simp [le_eq, St.head, keepT, setAll, leV, leB, leR, leR0, idsR, idsL, idsA, idsB]
  rintro n ⟨hn, hs⟩
  cases n with
  | zero =>
    have h0 : ((0 : Nat) : Int) = 0 := rfl
    simp only [le_eq, h0, Int.lt_irrefl, decide_false, Bool.false_and, eBs, cBs, F.fBs, Nat.reduceSub, Nat.reduceAdd, Nat.reduceLT, Nat.reduceEqDiff, Nat.reduceLeDiff, Nat.reduceMul, Nat.reduceBEq, Int.reduceToNat, Op.operands, if_true, if_false, reduceCtorEq, if_pos, forall_const, implies_true, eq_self, ne_eq, iff_self]
    have e : prefixF p = (p, []) := by unfold prefixF; rw [← hs]; rfl
    rw [e] at hK
    exact hK
  | succ n =>
    have hw : IntKind.i64.wrap (((n + 1 : Nat) : Int) - 1) = (n : Int) := by rw [wrap_i64' (by omega) (by omega)]; omega
    have hpos : (0 < ((n + 1 : Nat) : Int)) = True := eq_true (by omega)
    have hne : (((n + 1 : Nat) : Int) = 0) = False := eq_false (by omega)
    have hlt : n < p.length := by omega
    simp only [le_eq, hw, hpos, hne, Int.toNat_natCast, byte_succ, eBs, cBs, F.fBs, Nat.reduceSub, Nat.reduceAdd, Nat.reduceLT, Nat.reduceEqDiff, Nat.reduceLeDiff, Nat.reduceMul, Nat.reduceBEq, Int.reduceToNat, Op.operands, if_true, if_false, reduceCtorEq, if_pos, forall_const, implies_true, eq_self, ne_eq, iff_self]
    have hg : ∀ c : UInt8, p[n]? = some c → AV.d (D.int IntKind.u8 c.toNat) = AV.d (D.int IntKind.u8 (p.getD n 0).toNat) := fun c hc => by rw [List.getD_eq_getElem?_getD, hc]; rfl
    have g1 : (0 : Int) ≤ 0 ∧ 0 ≤ (n : Int) ∧ (n : Int) ≤ p.length := by omega
    have g2 : 0 ≤ (n : Int) ∧ (n : Int) < p.length := by omega
    refine ⟨g2, fun h => ⟨n, ⟨by omega, ?_⟩, by omega, rfl⟩, fun h => ⟨g1, g2, ⟨g1, g2, hg⟩, ⟨g1, g2, hg⟩, by simp; omega, ?_⟩⟩
    · rw [← hs, stripF, if_pos]
      exact UInt8.toNat_inj.1 (by have : (255 : UInt8).toNat = 255 := rfl; omega)
    · have e1 : stripF p p.length = n + 1 := by
        rw [← hs, stripF, if_neg]
        intro e
        rw [e] at h
        exact h rfl
      have e : prefixF p = (p, p.take n ++ [p.getD n 0 + 1]) := by
        unfold prefixF
        rw [e1]
        rfl
      rw [e] at hK
      exact hK
end Go.PE
