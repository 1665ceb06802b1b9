/- Arguments of the laws of chapter 19. -/
import Derived.Test.YtomligcenflpdaaGreatDoorWkTh
import Derived.Test.YtomligcenflpdaaGreatDoorWkZ
set_option linter.unusedVariables false
set_option linter.defProp false
set_option linter.all false
set_option linter.unusedSimpArgs false
namespace Go.PE
open Go Go.Proofs

theorem fit_q4 (e : List D) (h : Fits (.agg [.int .u8, .int .u8, .int .u8, .int .u8]) e) : ∃ x : Q4, e = x.enc ∧ x.ok := by
  obtain ⟨_, _, rfl, ⟨a, rfl, ha⟩, _, _, rfl, ⟨b, rfl, hb⟩, _, _, rfl, ⟨c, rfl, hc⟩, _, _, rfl, ⟨d, rfl, hd⟩, rfl⟩ := h
  exact ⟨⟨a, b, c, d⟩, rfl, u8P ha, u8P hb, u8P hc, u8P hd⟩
theorem fit_q4s {d : D} (h : FitsV (.slice (.agg [.int .u8, .int .u8, .int .u8, .int .u8])) d) : ∃ l : List Q4, d = cQ4s.enc l ∧ ∀ x ∈ l, x.ok := by
  obtain ⟨es, he, h⟩ := h
  injection he with he
  subst he
  obtain ⟨l, rfl, hl⟩ := fit_list fit_q4 es h
  exact ⟨l, rfl, hl⟩
theorem fit_rec {d : D} (h : FitsV (.agg [.int .i64, .int .i64, .int .i64, .int .u64, .int .u64, .agg [.int .i64, .str, .str, .agg [.str, .str], .str, .str, .int .i64], .int .u64]) d) : ∃ r, d = cRec.enc r ∧ rangeR r := by
  obtain ⟨_, rfl, _, _, rfl, ⟨k, rfl, hk⟩, _, _, rfl, ⟨sq, rfl, hs⟩, _, _, rfl, ⟨ct, rfl, hc⟩, _, _, rfl, ⟨f, rfl, hf⟩, _, _, rfl, ⟨t, rfl, ht⟩, _, _, rfl, ⟨_, _, rfl, ⟨m1, rfl, _⟩, _, _, rfl, ⟨m2, rfl⟩, _, _, rfl, ⟨m3, rfl⟩, _, _, rfl, ⟨_, _, rfl, ⟨m4, rfl⟩, _, _, rfl, ⟨m5, rfl⟩, rfl⟩, _, _, rfl, ⟨m6, rfl⟩, _, _, rfl, ⟨m7, rfl⟩, _, _, rfl, ⟨m8, rfl, _⟩, rfl⟩, _, _, rfl, ⟨ch, rfl, hch⟩, rfl⟩ := h
  obtain ⟨f1, f2⟩ := bounds_u64 hf
  obtain ⟨t1, t2⟩ := bounds_u64 ht
  obtain ⟨c1, c2⟩ := bounds_u64 hch
  exact ⟨⟨k, sq, ct, f, t, ⟨m1, m2, m3, m4, m5, m6, m7, m8⟩, ch⟩, rfl, ⟨f1, Int.lt_of_le_of_lt f2 (by decide)⟩, ⟨t1, Int.lt_of_le_of_lt t2 (by decide)⟩, c1, Int.lt_of_le_of_lt c2 (by decide)⟩
end Go.PE
