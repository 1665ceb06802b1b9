/- WkZ: what the laws need of it. -/
import Derived.Test.YtomligcenflpdaaGreatDoorWkW
import Derived.Test.YtomligcenflpdaaGreatDoorPeRow
set_option linter.unusedVariables false
set_option linter.defProp false
set_option linter.all false
set_option linter.unusedSimpArgs false
set_option maxRecDepth 100000
set_option maxHeartbeats 4000000
namespace Go.PE
open Go Go.Proofs

def rangeP : IntKind → Int → Prop
  | .i8, n => -128 ≤ n ∧ n ≤ 127
  | .i16, n => -32768 ≤ n ∧ n ≤ 32767
  | .i32, n => -2147483648 ≤ n ∧ n ≤ 2147483647
  | .i64, n => -9223372036854775808 ≤ n ∧ n ≤ 9223372036854775807
  | .u8, n => 0 ≤ n ∧ n ≤ 255
  | .u16, n => 0 ≤ n ∧ n ≤ 65535
  | .u32, n => 0 ≤ n ∧ n ≤ 4294967295
  | .u64, n => 0 ≤ n ∧ n ≤ 18446744073709551615
def c2 (k : IntKind) : Cod (Int × Int) := cAgg (fun p => [.int k p.1, .int k p.2]) (fun e => match e with
  | [.int k0 a, .int k1 b] => if k0 = k ∧ k1 = k then some (a, b) else none
  | _ => none) (fun p => by simp) (fun e p h => by
    split at h
    · split at h
      · rename_i hk
        injection h with h
        subst h
        obtain ⟨rfl, rfl⟩ := hk
        rfl
      · cases h
    · cases h)
theorem c2_enc (k : IntKind) (p : Int × Int) : (c2 k).enc p = .agg [.int k p.1, .int k p.2] := rfl
def range2 (k : IntKind) (p : Int × Int) : Prop := rangeP k p.1 ∧ rangeP k p.2
theorem fit_u8x2 {d : D} (h : FitsV (.agg [.int .u8, .int .u8]) d) : ∃ p, d = (c2 .u8).enc p ∧ range2 .u8 p := by
  obtain ⟨_, rfl, _, _, rfl, ⟨a, rfl, ha⟩, _, _, rfl, ⟨b, rfl, hb⟩, rfl⟩ := h
  exact ⟨(a, b), rfl, bounds_u8 ha, bounds_u8 hb⟩
def c3 (k : IntKind) : Cod (Int × Int × Int) := cAgg (fun p => [.int k p.1, .int k p.2.1, .int k p.2.2]) (fun e => match e with
  | [.int k0 a, .int k1 b, .int k2 c] => if k0 = k ∧ k1 = k ∧ k2 = k then some (a, b, c) else none
  | _ => none) (fun p => by simp) (fun e p h => by
    split at h
    · split at h
      · rename_i hk
        injection h with h
        subst h
        obtain ⟨rfl, rfl, rfl⟩ := hk
        rfl
      · cases h
    · cases h)
theorem c3_enc (k : IntKind) (p : Int × Int × Int) : (c3 k).enc p = .agg [.int k p.1, .int k p.2.1, .int k p.2.2] := rfl
def range3 (k : IntKind) (p : Int × Int × Int) : Prop := rangeP k p.1 ∧ rangeP k p.2.1 ∧ rangeP k p.2.2
def c4 (k : IntKind) : Cod (Int × Int × Int × Int) := cAgg (fun p => [.int k p.1, .int k p.2.1, .int k p.2.2.1, .int k p.2.2.2]) (fun e => match e with
  | [.int k0 a, .int k1 b, .int k2 c, .int k3 d] => if k0 = k ∧ k1 = k ∧ k2 = k ∧ k3 = k then some (a, b, c, d) else none
  | _ => none) (fun p => by simp) (fun e p h => by
    split at h
    · split at h
      · rename_i hk
        injection h with h
        subst h
        obtain ⟨rfl, rfl, rfl, rfl⟩ := hk
        rfl
      · cases h
    · cases h)
def cRaws2 : Cod (List Raw6 × List Raw6) := cAgg (fun p => [cRaws.enc p.1, cRaws.enc p.2]) (fun e => match e with
  | [x, y] => match cRaws.dec x, cRaws.dec y with
    | some a, some b => some (a, b)
    | _, _ => none
  | _ => none) (fun p => by simp only [cRaws.de]) (fun e p h => by
    split at h
    · split at h
      · rename_i ha hb
        injection h with h
        subst h
        rw [cRaws.ed _ _ ha, cRaws.ed _ _ hb]
      · cases h
    · cases h)
theorem cRaws2_enc (p : List Raw6 × List Raw6) : cRaws2.enc p = .agg [.list (p.1.map Raw6.enc), .list (p.2.map Raw6.enc)] := rfl
theorem fit_raws2 {d : D} (h : FitsV (.agg [.slice (.agg [.int .u8, .int .u8, .int .u8, .int .u8, .int .u8, .int .u8]), .slice (.agg [.int .u8, .int .u8, .int .u8, .int .u8, .int .u8, .int .u8])]) d) : ∃ p, d = cRaws2.enc p ∧ (∀ x ∈ p.1, x.ok) ∧ ∀ x ∈ p.2, x.ok := by
  obtain ⟨_, rfl, _, _, rfl, ⟨es, rfl, h1⟩, _, _, rfl, ⟨fs, rfl, h2⟩, rfl⟩ := h
  obtain ⟨l, rfl, hl⟩ := fit_list fit_raw es h1
  obtain ⟨m, rfl, hm⟩ := fit_list fit_raw fs h2
  exact ⟨(l, m), rfl, hl, hm⟩
end Go.PE
