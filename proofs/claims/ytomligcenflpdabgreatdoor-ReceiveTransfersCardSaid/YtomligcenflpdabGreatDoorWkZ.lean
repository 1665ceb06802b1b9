/- WkZ: what the laws need of it. -/
import Derived.Test.YtomligcenflpdabGreatDoorWkW
import Derived.Test.YtomligcenflpdabGreatDoorPeRow
set_option linter.unusedVariables false
set_option linter.defProp false
set_option linter.all false
set_option linter.unusedSimpArgs false
set_option maxRecDepth 100000
set_option maxHeartbeats 4000000
namespace Go.PE
open Go Go.Proofs

def rangeP : IntKind → Int → Prop
  | .i8, n => -128 ≤ n ∧ n ≤ 127
  | .i16, n => -32768 ≤ n ∧ n ≤ 32767
  | .i32, n => -2147483648 ≤ n ∧ n ≤ 2147483647
  | .i64, n => -9223372036854775808 ≤ n ∧ n ≤ 9223372036854775807
  | .u8, n => 0 ≤ n ∧ n ≤ 255
  | .u16, n => 0 ≤ n ∧ n ≤ 65535
  | .u32, n => 0 ≤ n ∧ n ≤ 4294967295
  | .u64, n => 0 ≤ n ∧ n ≤ 18446744073709551615
theorem fit_u64 {d : D} (h : FitsV (.int .u64) d) : ∃ n, d = (cI .u64).enc n ∧ rangeP .u64 n := by
  obtain ⟨n, e, hw⟩ := h
  injection e with e
  exact ⟨n, e, bounds_u64 hw⟩
def c2 (k : IntKind) : Cod (Int × Int) := cAgg (fun p => [.int k p.1, .int k p.2]) (fun e => match e with
  | [.int k0 a, .int k1 b] => if k0 = k ∧ k1 = k then some (a, b) else none
  | _ => none) (fun p => by simp) (fun e p h => by
    split at h
    · split at h
      · rename_i hk
        injection h with h
        subst h
        obtain ⟨rfl, rfl⟩ := hk
        rfl
      · cases h
    · cases h)
theorem c2_enc (k : IntKind) (p : Int × Int) : (c2 k).enc p = .agg [.int k p.1, .int k p.2] := rfl
def range2 (k : IntKind) (p : Int × Int) : Prop := rangeP k p.1 ∧ rangeP k p.2
theorem fit_u64x2 {d : D} (h : FitsV (.agg [.int .u64, .int .u64]) d) : ∃ p, d = (c2 .u64).enc p ∧ range2 .u64 p := by
  obtain ⟨_, rfl, _, _, rfl, ⟨a, rfl, ha⟩, _, _, rfl, ⟨b, rfl, hb⟩, rfl⟩ := h
  exact ⟨(a, b), rfl, bounds_u64 ha, bounds_u64 hb⟩
def c3 (k : IntKind) : Cod (Int × Int × Int) := cAgg (fun p => [.int k p.1, .int k p.2.1, .int k p.2.2]) (fun e => match e with
  | [.int k0 a, .int k1 b, .int k2 c] => if k0 = k ∧ k1 = k ∧ k2 = k then some (a, b, c) else none
  | _ => none) (fun p => by simp) (fun e p h => by
    split at h
    · split at h
      · rename_i hk
        injection h with h
        subst h
        obtain ⟨rfl, rfl, rfl⟩ := hk
        rfl
      · cases h
    · cases h)
def c4 (k : IntKind) : Cod (Int × Int × Int × Int) := cAgg (fun p => [.int k p.1, .int k p.2.1, .int k p.2.2.1, .int k p.2.2.2]) (fun e => match e with
  | [.int k0 a, .int k1 b, .int k2 c, .int k3 d] => if k0 = k ∧ k1 = k ∧ k2 = k ∧ k3 = k then some (a, b, c, d) else none
  | _ => none) (fun p => by simp) (fun e p h => by
    split at h
    · split at h
      · rename_i hk
        injection h with h
        subst h
        obtain ⟨rfl, rfl, rfl, rfl⟩ := hk
        rfl
      · cases h
    · cases h)
theorem c4_enc (k : IntKind) (p : Int × Int × Int × Int) : (c4 k).enc p = .agg [.int k p.1, .int k p.2.1, .int k p.2.2.1, .int k p.2.2.2] := rfl
def range4 (k : IntKind) (p : Int × Int × Int × Int) : Prop := rangeP k p.1 ∧ rangeP k p.2.1 ∧ rangeP k p.2.2.1 ∧ rangeP k p.2.2.2
theorem fit_u8x4 {d : D} (h : FitsV (.agg [.int .u8, .int .u8, .int .u8, .int .u8]) d) : ∃ p, d = (c4 .u8).enc p ∧ range4 .u8 p := by
  obtain ⟨_, rfl, _, _, rfl, ⟨a, rfl, ha⟩, _, _, rfl, ⟨b, rfl, hb⟩, _, _, rfl, ⟨c, rfl, hc⟩, _, _, rfl, ⟨d, rfl, hd⟩, rfl⟩ := h
  exact ⟨(a, b, c, d), rfl, bounds_u8 ha, bounds_u8 hb, bounds_u8 hc, bounds_u8 hd⟩
end Go.PE
