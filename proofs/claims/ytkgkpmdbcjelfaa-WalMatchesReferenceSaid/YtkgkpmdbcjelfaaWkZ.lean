/- Arguments of laws: numbers of all kinds, arrays of them, pairs and lists of lists of raw messages. -/
import Derived.Test.YtkgkpmdbcjelfaaWkW
import Derived.Test.YtkgkpmdbcjelfaaPeRow
set_option linter.unusedVariables false
set_option linter.defProp false
set_option linter.all false
namespace Go.PE
open Go Go.Proofs

def rangeP : IntKind → Int → Prop
  | .i8, n => -128 ≤ n ∧ n ≤ 127
  | .i16, n => -32768 ≤ n ∧ n ≤ 32767
  | .i32, n => -2147483648 ≤ n ∧ n ≤ 2147483647
  | .i64, n => -9223372036854775808 ≤ n ∧ n ≤ 9223372036854775807
  | .u8, n => 0 ≤ n ∧ n ≤ 255
  | .u16, n => 0 ≤ n ∧ n ≤ 65535
  | .u32, n => 0 ≤ n ∧ n ≤ 4294967295
  | .u64, n => 0 ≤ n ∧ n ≤ 18446744073709551615
theorem fit_i8 {d : D} (h : FitsV (.int .i8) d) : ∃ n, d = (cI .i8).enc n ∧ rangeP .i8 n := by
  obtain ⟨n, e, hw⟩ := h
  injection e with e
  exact ⟨n, e, bounds_i8 hw⟩
theorem fit_i16 {d : D} (h : FitsV (.int .i16) d) : ∃ n, d = (cI .i16).enc n ∧ rangeP .i16 n := by
  obtain ⟨n, e, hw⟩ := h
  injection e with e
  exact ⟨n, e, bounds_i16 hw⟩
theorem fit_i32 {d : D} (h : FitsV (.int .i32) d) : ∃ n, d = (cI .i32).enc n ∧ rangeP .i32 n := by
  obtain ⟨n, e, hw⟩ := h
  injection e with e
  exact ⟨n, e, bounds_i32 hw⟩
theorem fit_i64 {d : D} (h : FitsV (.int .i64) d) : ∃ n, d = (cI .i64).enc n ∧ rangeP .i64 n := by
  obtain ⟨n, e, hw⟩ := h
  injection e with e
  exact ⟨n, e, bounds_i64 hw⟩
theorem fit_u8r {d : D} (h : FitsV (.int .u8) d) : ∃ n, d = (cI .u8).enc n ∧ rangeP .u8 n := by
  obtain ⟨n, e, hw⟩ := h
  injection e with e
  exact ⟨n, e, bounds_u8 hw⟩
theorem fit_u16 {d : D} (h : FitsV (.int .u16) d) : ∃ n, d = (cI .u16).enc n ∧ rangeP .u16 n := by
  obtain ⟨n, e, hw⟩ := h
  injection e with e
  exact ⟨n, e, bounds_u16 hw⟩
theorem fit_u32 {d : D} (h : FitsV (.int .u32) d) : ∃ n, d = (cI .u32).enc n ∧ rangeP .u32 n := by
  obtain ⟨n, e, hw⟩ := h
  injection e with e
  exact ⟨n, e, bounds_u32 hw⟩
theorem fit_u64 {d : D} (h : FitsV (.int .u64) d) : ∃ n, d = (cI .u64).enc n ∧ rangeP .u64 n := by
  obtain ⟨n, e, hw⟩ := h
  injection e with e
  exact ⟨n, e, bounds_u64 hw⟩
def c2 (k : IntKind) : Cod (Int × Int) := cAgg (fun p => [.int k p.1, .int k p.2]) (fun e => match e with
  | [.int k0 a, .int k1 b] => if k0 = k ∧ k1 = k then some (a, b) else none
  | _ => none) (fun p => by simp) (fun e p h => by
    split at h
    · split at h
      · rename_i hk
        injection h with h
        subst h
        obtain ⟨rfl, rfl⟩ := hk
        rfl
      · cases h
    · cases h)
theorem c2_enc (k : IntKind) (p : Int × Int) : (c2 k).enc p = .agg [.int k p.1, .int k p.2] := rfl
def range2 (k : IntKind) (p : Int × Int) : Prop := rangeP k p.1 ∧ rangeP k p.2
theorem fit_i8x2 {d : D} (h : FitsV (.agg [.int .i8, .int .i8]) d) : ∃ p, d = (c2 .i8).enc p ∧ range2 .i8 p := by
  obtain ⟨_, rfl, _, _, rfl, ⟨a, rfl, ha⟩, _, _, rfl, ⟨b, rfl, hb⟩, rfl⟩ := h
  exact ⟨(a, b), rfl, bounds_i8 ha, bounds_i8 hb⟩
theorem fit_i16x2 {d : D} (h : FitsV (.agg [.int .i16, .int .i16]) d) : ∃ p, d = (c2 .i16).enc p ∧ range2 .i16 p := by
  obtain ⟨_, rfl, _, _, rfl, ⟨a, rfl, ha⟩, _, _, rfl, ⟨b, rfl, hb⟩, rfl⟩ := h
  exact ⟨(a, b), rfl, bounds_i16 ha, bounds_i16 hb⟩
theorem fit_i32x2 {d : D} (h : FitsV (.agg [.int .i32, .int .i32]) d) : ∃ p, d = (c2 .i32).enc p ∧ range2 .i32 p := by
  obtain ⟨_, rfl, _, _, rfl, ⟨a, rfl, ha⟩, _, _, rfl, ⟨b, rfl, hb⟩, rfl⟩ := h
  exact ⟨(a, b), rfl, bounds_i32 ha, bounds_i32 hb⟩
theorem fit_i64x2 {d : D} (h : FitsV (.agg [.int .i64, .int .i64]) d) : ∃ p, d = (c2 .i64).enc p ∧ range2 .i64 p := by
  obtain ⟨_, rfl, _, _, rfl, ⟨a, rfl, ha⟩, _, _, rfl, ⟨b, rfl, hb⟩, rfl⟩ := h
  exact ⟨(a, b), rfl, bounds_i64 ha, bounds_i64 hb⟩
theorem fit_u8x2 {d : D} (h : FitsV (.agg [.int .u8, .int .u8]) d) : ∃ p, d = (c2 .u8).enc p ∧ range2 .u8 p := by
  obtain ⟨_, rfl, _, _, rfl, ⟨a, rfl, ha⟩, _, _, rfl, ⟨b, rfl, hb⟩, rfl⟩ := h
  exact ⟨(a, b), rfl, bounds_u8 ha, bounds_u8 hb⟩
theorem fit_u16x2 {d : D} (h : FitsV (.agg [.int .u16, .int .u16]) d) : ∃ p, d = (c2 .u16).enc p ∧ range2 .u16 p := by
  obtain ⟨_, rfl, _, _, rfl, ⟨a, rfl, ha⟩, _, _, rfl, ⟨b, rfl, hb⟩, rfl⟩ := h
  exact ⟨(a, b), rfl, bounds_u16 ha, bounds_u16 hb⟩
theorem fit_u32x2 {d : D} (h : FitsV (.agg [.int .u32, .int .u32]) d) : ∃ p, d = (c2 .u32).enc p ∧ range2 .u32 p := by
  obtain ⟨_, rfl, _, _, rfl, ⟨a, rfl, ha⟩, _, _, rfl, ⟨b, rfl, hb⟩, rfl⟩ := h
  exact ⟨(a, b), rfl, bounds_u32 ha, bounds_u32 hb⟩
theorem fit_u64x2 {d : D} (h : FitsV (.agg [.int .u64, .int .u64]) d) : ∃ p, d = (c2 .u64).enc p ∧ range2 .u64 p := by
  obtain ⟨_, rfl, _, _, rfl, ⟨a, rfl, ha⟩, _, _, rfl, ⟨b, rfl, hb⟩, rfl⟩ := h
  exact ⟨(a, b), rfl, bounds_u64 ha, bounds_u64 hb⟩
def c3 (k : IntKind) : Cod (Int × Int × Int) := cAgg (fun p => [.int k p.1, .int k p.2.1, .int k p.2.2]) (fun e => match e with
  | [.int k0 a, .int k1 b, .int k2 c] => if k0 = k ∧ k1 = k ∧ k2 = k then some (a, b, c) else none
  | _ => none) (fun p => by simp) (fun e p h => by
    split at h
    · split at h
      · rename_i hk
        injection h with h
        subst h
        obtain ⟨rfl, rfl, rfl⟩ := hk
        rfl
      · cases h
    · cases h)
theorem c3_enc (k : IntKind) (p : Int × Int × Int) : (c3 k).enc p = .agg [.int k p.1, .int k p.2.1, .int k p.2.2] := rfl
def range3 (k : IntKind) (p : Int × Int × Int) : Prop := rangeP k p.1 ∧ rangeP k p.2.1 ∧ rangeP k p.2.2
theorem fit_i8x3 {d : D} (h : FitsV (.agg [.int .i8, .int .i8, .int .i8]) d) : ∃ p, d = (c3 .i8).enc p ∧ range3 .i8 p := by
  obtain ⟨_, rfl, _, _, rfl, ⟨a, rfl, ha⟩, _, _, rfl, ⟨b, rfl, hb⟩, _, _, rfl, ⟨c, rfl, hc⟩, rfl⟩ := h
  exact ⟨(a, b, c), rfl, bounds_i8 ha, bounds_i8 hb, bounds_i8 hc⟩
theorem fit_i16x3 {d : D} (h : FitsV (.agg [.int .i16, .int .i16, .int .i16]) d) : ∃ p, d = (c3 .i16).enc p ∧ range3 .i16 p := by
  obtain ⟨_, rfl, _, _, rfl, ⟨a, rfl, ha⟩, _, _, rfl, ⟨b, rfl, hb⟩, _, _, rfl, ⟨c, rfl, hc⟩, rfl⟩ := h
  exact ⟨(a, b, c), rfl, bounds_i16 ha, bounds_i16 hb, bounds_i16 hc⟩
theorem fit_i32x3 {d : D} (h : FitsV (.agg [.int .i32, .int .i32, .int .i32]) d) : ∃ p, d = (c3 .i32).enc p ∧ range3 .i32 p := by
  obtain ⟨_, rfl, _, _, rfl, ⟨a, rfl, ha⟩, _, _, rfl, ⟨b, rfl, hb⟩, _, _, rfl, ⟨c, rfl, hc⟩, rfl⟩ := h
  exact ⟨(a, b, c), rfl, bounds_i32 ha, bounds_i32 hb, bounds_i32 hc⟩
theorem fit_i64x3 {d : D} (h : FitsV (.agg [.int .i64, .int .i64, .int .i64]) d) : ∃ p, d = (c3 .i64).enc p ∧ range3 .i64 p := by
  obtain ⟨_, rfl, _, _, rfl, ⟨a, rfl, ha⟩, _, _, rfl, ⟨b, rfl, hb⟩, _, _, rfl, ⟨c, rfl, hc⟩, rfl⟩ := h
  exact ⟨(a, b, c), rfl, bounds_i64 ha, bounds_i64 hb, bounds_i64 hc⟩
theorem fit_u8x3 {d : D} (h : FitsV (.agg [.int .u8, .int .u8, .int .u8]) d) : ∃ p, d = (c3 .u8).enc p ∧ range3 .u8 p := by
  obtain ⟨_, rfl, _, _, rfl, ⟨a, rfl, ha⟩, _, _, rfl, ⟨b, rfl, hb⟩, _, _, rfl, ⟨c, rfl, hc⟩, rfl⟩ := h
  exact ⟨(a, b, c), rfl, bounds_u8 ha, bounds_u8 hb, bounds_u8 hc⟩
theorem fit_u16x3 {d : D} (h : FitsV (.agg [.int .u16, .int .u16, .int .u16]) d) : ∃ p, d = (c3 .u16).enc p ∧ range3 .u16 p := by
  obtain ⟨_, rfl, _, _, rfl, ⟨a, rfl, ha⟩, _, _, rfl, ⟨b, rfl, hb⟩, _, _, rfl, ⟨c, rfl, hc⟩, rfl⟩ := h
  exact ⟨(a, b, c), rfl, bounds_u16 ha, bounds_u16 hb, bounds_u16 hc⟩
theorem fit_u32x3 {d : D} (h : FitsV (.agg [.int .u32, .int .u32, .int .u32]) d) : ∃ p, d = (c3 .u32).enc p ∧ range3 .u32 p := by
  obtain ⟨_, rfl, _, _, rfl, ⟨a, rfl, ha⟩, _, _, rfl, ⟨b, rfl, hb⟩, _, _, rfl, ⟨c, rfl, hc⟩, rfl⟩ := h
  exact ⟨(a, b, c), rfl, bounds_u32 ha, bounds_u32 hb, bounds_u32 hc⟩
theorem fit_u64x3 {d : D} (h : FitsV (.agg [.int .u64, .int .u64, .int .u64]) d) : ∃ p, d = (c3 .u64).enc p ∧ range3 .u64 p := by
  obtain ⟨_, rfl, _, _, rfl, ⟨a, rfl, ha⟩, _, _, rfl, ⟨b, rfl, hb⟩, _, _, rfl, ⟨c, rfl, hc⟩, rfl⟩ := h
  exact ⟨(a, b, c), rfl, bounds_u64 ha, bounds_u64 hb, bounds_u64 hc⟩
def c4 (k : IntKind) : Cod (Int × Int × Int × Int) := cAgg (fun p => [.int k p.1, .int k p.2.1, .int k p.2.2.1, .int k p.2.2.2]) (fun e => match e with
  | [.int k0 a, .int k1 b, .int k2 c, .int k3 d] => if k0 = k ∧ k1 = k ∧ k2 = k ∧ k3 = k then some (a, b, c, d) else none
  | _ => none) (fun p => by simp) (fun e p h => by
    split at h
    · split at h
      · rename_i hk
        injection h with h
        subst h
        obtain ⟨rfl, rfl, rfl, rfl⟩ := hk
        rfl
      · cases h
    · cases h)
theorem c4_enc (k : IntKind) (p : Int × Int × Int × Int) : (c4 k).enc p = .agg [.int k p.1, .int k p.2.1, .int k p.2.2.1, .int k p.2.2.2] := rfl
def range4 (k : IntKind) (p : Int × Int × Int × Int) : Prop := rangeP k p.1 ∧ rangeP k p.2.1 ∧ rangeP k p.2.2.1 ∧ rangeP k p.2.2.2
theorem fit_i8x4 {d : D} (h : FitsV (.agg [.int .i8, .int .i8, .int .i8, .int .i8]) d) : ∃ p, d = (c4 .i8).enc p ∧ range4 .i8 p := by
  obtain ⟨_, rfl, _, _, rfl, ⟨a, rfl, ha⟩, _, _, rfl, ⟨b, rfl, hb⟩, _, _, rfl, ⟨c, rfl, hc⟩, _, _, rfl, ⟨d, rfl, hd⟩, rfl⟩ := h
  exact ⟨(a, b, c, d), rfl, bounds_i8 ha, bounds_i8 hb, bounds_i8 hc, bounds_i8 hd⟩
theorem fit_i16x4 {d : D} (h : FitsV (.agg [.int .i16, .int .i16, .int .i16, .int .i16]) d) : ∃ p, d = (c4 .i16).enc p ∧ range4 .i16 p := by
  obtain ⟨_, rfl, _, _, rfl, ⟨a, rfl, ha⟩, _, _, rfl, ⟨b, rfl, hb⟩, _, _, rfl, ⟨c, rfl, hc⟩, _, _, rfl, ⟨d, rfl, hd⟩, rfl⟩ := h
  exact ⟨(a, b, c, d), rfl, bounds_i16 ha, bounds_i16 hb, bounds_i16 hc, bounds_i16 hd⟩
theorem fit_i32x4 {d : D} (h : FitsV (.agg [.int .i32, .int .i32, .int .i32, .int .i32]) d) : ∃ p, d = (c4 .i32).enc p ∧ range4 .i32 p := by
  obtain ⟨_, rfl, _, _, rfl, ⟨a, rfl, ha⟩, _, _, rfl, ⟨b, rfl, hb⟩, _, _, rfl, ⟨c, rfl, hc⟩, _, _, rfl, ⟨d, rfl, hd⟩, rfl⟩ := h
  exact ⟨(a, b, c, d), rfl, bounds_i32 ha, bounds_i32 hb, bounds_i32 hc, bounds_i32 hd⟩
theorem fit_i64x4 {d : D} (h : FitsV (.agg [.int .i64, .int .i64, .int .i64, .int .i64]) d) : ∃ p, d = (c4 .i64).enc p ∧ range4 .i64 p := by
  obtain ⟨_, rfl, _, _, rfl, ⟨a, rfl, ha⟩, _, _, rfl, ⟨b, rfl, hb⟩, _, _, rfl, ⟨c, rfl, hc⟩, _, _, rfl, ⟨d, rfl, hd⟩, rfl⟩ := h
  exact ⟨(a, b, c, d), rfl, bounds_i64 ha, bounds_i64 hb, bounds_i64 hc, bounds_i64 hd⟩
theorem fit_u8x4 {d : D} (h : FitsV (.agg [.int .u8, .int .u8, .int .u8, .int .u8]) d) : ∃ p, d = (c4 .u8).enc p ∧ range4 .u8 p := by
  obtain ⟨_, rfl, _, _, rfl, ⟨a, rfl, ha⟩, _, _, rfl, ⟨b, rfl, hb⟩, _, _, rfl, ⟨c, rfl, hc⟩, _, _, rfl, ⟨d, rfl, hd⟩, rfl⟩ := h
  exact ⟨(a, b, c, d), rfl, bounds_u8 ha, bounds_u8 hb, bounds_u8 hc, bounds_u8 hd⟩
theorem fit_u16x4 {d : D} (h : FitsV (.agg [.int .u16, .int .u16, .int .u16, .int .u16]) d) : ∃ p, d = (c4 .u16).enc p ∧ range4 .u16 p := by
  obtain ⟨_, rfl, _, _, rfl, ⟨a, rfl, ha⟩, _, _, rfl, ⟨b, rfl, hb⟩, _, _, rfl, ⟨c, rfl, hc⟩, _, _, rfl, ⟨d, rfl, hd⟩, rfl⟩ := h
  exact ⟨(a, b, c, d), rfl, bounds_u16 ha, bounds_u16 hb, bounds_u16 hc, bounds_u16 hd⟩
theorem fit_u32x4 {d : D} (h : FitsV (.agg [.int .u32, .int .u32, .int .u32, .int .u32]) d) : ∃ p, d = (c4 .u32).enc p ∧ range4 .u32 p := by
  obtain ⟨_, rfl, _, _, rfl, ⟨a, rfl, ha⟩, _, _, rfl, ⟨b, rfl, hb⟩, _, _, rfl, ⟨c, rfl, hc⟩, _, _, rfl, ⟨d, rfl, hd⟩, rfl⟩ := h
  exact ⟨(a, b, c, d), rfl, bounds_u32 ha, bounds_u32 hb, bounds_u32 hc, bounds_u32 hd⟩
theorem fit_u64x4 {d : D} (h : FitsV (.agg [.int .u64, .int .u64, .int .u64, .int .u64]) d) : ∃ p, d = (c4 .u64).enc p ∧ range4 .u64 p := by
  obtain ⟨_, rfl, _, _, rfl, ⟨a, rfl, ha⟩, _, _, rfl, ⟨b, rfl, hb⟩, _, _, rfl, ⟨c, rfl, hc⟩, _, _, rfl, ⟨d, rfl, hd⟩, rfl⟩ := h
  exact ⟨(a, b, c, d), rfl, bounds_u64 ha, bounds_u64 hb, bounds_u64 hc, bounds_u64 hd⟩
def c5 (k : IntKind) : Cod (Int × Int × Int × Int × Int) := cAgg (fun p => [.int k p.1, .int k p.2.1, .int k p.2.2.1, .int k p.2.2.2.1, .int k p.2.2.2.2]) (fun e => match e with
  | [.int k0 a, .int k1 b, .int k2 c, .int k3 d, .int k4 e] => if k0 = k ∧ k1 = k ∧ k2 = k ∧ k3 = k ∧ k4 = k then some (a, b, c, d, e) else none
  | _ => none) (fun p => by simp) (fun e p h => by
    split at h
    · split at h
      · rename_i hk
        injection h with h
        subst h
        obtain ⟨rfl, rfl, rfl, rfl, rfl⟩ := hk
        rfl
      · cases h
    · cases h)
theorem c5_enc (k : IntKind) (p : Int × Int × Int × Int × Int) : (c5 k).enc p = .agg [.int k p.1, .int k p.2.1, .int k p.2.2.1, .int k p.2.2.2.1, .int k p.2.2.2.2] := rfl
def range5 (k : IntKind) (p : Int × Int × Int × Int × Int) : Prop := rangeP k p.1 ∧ rangeP k p.2.1 ∧ rangeP k p.2.2.1 ∧ rangeP k p.2.2.2.1 ∧ rangeP k p.2.2.2.2
theorem fit_i8x5 {d : D} (h : FitsV (.agg [.int .i8, .int .i8, .int .i8, .int .i8, .int .i8]) d) : ∃ p, d = (c5 .i8).enc p ∧ range5 .i8 p := by
  obtain ⟨_, rfl, _, _, rfl, ⟨a, rfl, ha⟩, _, _, rfl, ⟨b, rfl, hb⟩, _, _, rfl, ⟨c, rfl, hc⟩, _, _, rfl, ⟨d, rfl, hd⟩, _, _, rfl, ⟨e, rfl, he⟩, rfl⟩ := h
  exact ⟨(a, b, c, d, e), rfl, bounds_i8 ha, bounds_i8 hb, bounds_i8 hc, bounds_i8 hd, bounds_i8 he⟩
theorem fit_i16x5 {d : D} (h : FitsV (.agg [.int .i16, .int .i16, .int .i16, .int .i16, .int .i16]) d) : ∃ p, d = (c5 .i16).enc p ∧ range5 .i16 p := by
  obtain ⟨_, rfl, _, _, rfl, ⟨a, rfl, ha⟩, _, _, rfl, ⟨b, rfl, hb⟩, _, _, rfl, ⟨c, rfl, hc⟩, _, _, rfl, ⟨d, rfl, hd⟩, _, _, rfl, ⟨e, rfl, he⟩, rfl⟩ := h
  exact ⟨(a, b, c, d, e), rfl, bounds_i16 ha, bounds_i16 hb, bounds_i16 hc, bounds_i16 hd, bounds_i16 he⟩
theorem fit_i32x5 {d : D} (h : FitsV (.agg [.int .i32, .int .i32, .int .i32, .int .i32, .int .i32]) d) : ∃ p, d = (c5 .i32).enc p ∧ range5 .i32 p := by
  obtain ⟨_, rfl, _, _, rfl, ⟨a, rfl, ha⟩, _, _, rfl, ⟨b, rfl, hb⟩, _, _, rfl, ⟨c, rfl, hc⟩, _, _, rfl, ⟨d, rfl, hd⟩, _, _, rfl, ⟨e, rfl, he⟩, rfl⟩ := h
  exact ⟨(a, b, c, d, e), rfl, bounds_i32 ha, bounds_i32 hb, bounds_i32 hc, bounds_i32 hd, bounds_i32 he⟩
theorem fit_i64x5 {d : D} (h : FitsV (.agg [.int .i64, .int .i64, .int .i64, .int .i64, .int .i64]) d) : ∃ p, d = (c5 .i64).enc p ∧ range5 .i64 p := by
  obtain ⟨_, rfl, _, _, rfl, ⟨a, rfl, ha⟩, _, _, rfl, ⟨b, rfl, hb⟩, _, _, rfl, ⟨c, rfl, hc⟩, _, _, rfl, ⟨d, rfl, hd⟩, _, _, rfl, ⟨e, rfl, he⟩, rfl⟩ := h
  exact ⟨(a, b, c, d, e), rfl, bounds_i64 ha, bounds_i64 hb, bounds_i64 hc, bounds_i64 hd, bounds_i64 he⟩
theorem fit_u8x5 {d : D} (h : FitsV (.agg [.int .u8, .int .u8, .int .u8, .int .u8, .int .u8]) d) : ∃ p, d = (c5 .u8).enc p ∧ range5 .u8 p := by
  obtain ⟨_, rfl, _, _, rfl, ⟨a, rfl, ha⟩, _, _, rfl, ⟨b, rfl, hb⟩, _, _, rfl, ⟨c, rfl, hc⟩, _, _, rfl, ⟨d, rfl, hd⟩, _, _, rfl, ⟨e, rfl, he⟩, rfl⟩ := h
  exact ⟨(a, b, c, d, e), rfl, bounds_u8 ha, bounds_u8 hb, bounds_u8 hc, bounds_u8 hd, bounds_u8 he⟩
theorem fit_u16x5 {d : D} (h : FitsV (.agg [.int .u16, .int .u16, .int .u16, .int .u16, .int .u16]) d) : ∃ p, d = (c5 .u16).enc p ∧ range5 .u16 p := by
  obtain ⟨_, rfl, _, _, rfl, ⟨a, rfl, ha⟩, _, _, rfl, ⟨b, rfl, hb⟩, _, _, rfl, ⟨c, rfl, hc⟩, _, _, rfl, ⟨d, rfl, hd⟩, _, _, rfl, ⟨e, rfl, he⟩, rfl⟩ := h
  exact ⟨(a, b, c, d, e), rfl, bounds_u16 ha, bounds_u16 hb, bounds_u16 hc, bounds_u16 hd, bounds_u16 he⟩
theorem fit_u32x5 {d : D} (h : FitsV (.agg [.int .u32, .int .u32, .int .u32, .int .u32, .int .u32]) d) : ∃ p, d = (c5 .u32).enc p ∧ range5 .u32 p := by
  obtain ⟨_, rfl, _, _, rfl, ⟨a, rfl, ha⟩, _, _, rfl, ⟨b, rfl, hb⟩, _, _, rfl, ⟨c, rfl, hc⟩, _, _, rfl, ⟨d, rfl, hd⟩, _, _, rfl, ⟨e, rfl, he⟩, rfl⟩ := h
  exact ⟨(a, b, c, d, e), rfl, bounds_u32 ha, bounds_u32 hb, bounds_u32 hc, bounds_u32 hd, bounds_u32 he⟩
theorem fit_u64x5 {d : D} (h : FitsV (.agg [.int .u64, .int .u64, .int .u64, .int .u64, .int .u64]) d) : ∃ p, d = (c5 .u64).enc p ∧ range5 .u64 p := by
  obtain ⟨_, rfl, _, _, rfl, ⟨a, rfl, ha⟩, _, _, rfl, ⟨b, rfl, hb⟩, _, _, rfl, ⟨c, rfl, hc⟩, _, _, rfl, ⟨d, rfl, hd⟩, _, _, rfl, ⟨e, rfl, he⟩, rfl⟩ := h
  exact ⟨(a, b, c, d, e), rfl, bounds_u64 ha, bounds_u64 hb, bounds_u64 hc, bounds_u64 hd, bounds_u64 he⟩
def cRaws2 : Cod (List Raw6 × List Raw6) := cAgg (fun p => [cRaws.enc p.1, cRaws.enc p.2]) (fun e => match e with
  | [x, y] => match cRaws.dec x, cRaws.dec y with
    | some a, some b => some (a, b)
    | _, _ => none
  | _ => none) (fun p => by simp only [cRaws.de]) (fun e p h => by
    split at h
    · split at h
      · rename_i ha hb
        injection h with h
        subst h
        rw [cRaws.ed _ _ ha, cRaws.ed _ _ hb]
      · cases h
    · cases h)
theorem cRaws2_enc (p : List Raw6 × List Raw6) : cRaws2.enc p = .agg [.list (p.1.map Raw6.enc), .list (p.2.map Raw6.enc)] := rfl
theorem fit_raws2 {d : D} (h : FitsV (.agg [.slice (.agg [.int .u8, .int .u8, .int .u8, .int .u8, .int .u8, .int .u8]), .slice (.agg [.int .u8, .int .u8, .int .u8, .int .u8, .int .u8, .int .u8])]) d) : ∃ p, d = cRaws2.enc p ∧ (∀ x ∈ p.1, x.ok) ∧ ∀ x ∈ p.2, x.ok := by
  obtain ⟨_, rfl, _, _, rfl, ⟨es, rfl, h1⟩, _, _, rfl, ⟨fs, rfl, h2⟩, rfl⟩ := h
  obtain ⟨l, rfl, hl⟩ := fit_list fit_raw es h1
  obtain ⟨m, rfl, hm⟩ := fit_list fit_raw fs h2
  exact ⟨(l, m), rfl, hl, hm⟩
def cRawss : Cod (List (List Raw6)) := cOnes cRaws
theorem cRawss_enc (l : List (List Raw6)) : cRawss.enc l = .list (l.map (oneC cRaws)) := rfl
theorem cRawss_dec (l : List (List Raw6)) : cRawss.dec (.list (l.map (oneC cRaws))) = some l := cRawss.de l
theorem fit_rawss {d : D} (h : FitsV (.slice (.slice (.agg [.int .u8, .int .u8, .int .u8, .int .u8, .int .u8, .int .u8]))) d) : ∃ l, d = cRawss.enc l ∧ ∀ x ∈ l, ∀ y ∈ x, Raw6.ok y := by
  obtain ⟨es, he, h⟩ := h
  injection he with he
  subst he
  obtain ⟨l, rfl, hl⟩ := fit_list (f := oneC cRaws) (p := fun x => ∀ y ∈ x, Raw6.ok y) (fun e he => by
    obtain ⟨fs, rfl, h⟩ := he
    obtain ⟨l, rfl, hl⟩ := fit_list fit_raw fs h
    exact ⟨l, rfl, hl⟩) es h
  exact ⟨l, rfl, hl⟩
end Go.PE
