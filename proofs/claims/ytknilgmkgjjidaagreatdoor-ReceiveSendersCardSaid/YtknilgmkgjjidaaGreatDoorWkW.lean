/- WkW: what the laws need of it. -/
import Derived.Test.YtknilgmkgjjidaaGreatDoorWkV
import Derived.Test.YtknilgmkgjjidaaGreatDoorPeRow
set_option linter.unusedVariables false
set_option linter.defProp false
set_option linter.all false
set_option linter.unusedSimpArgs false
set_option maxRecDepth 100000
set_option maxHeartbeats 4000000
namespace Go.PE
open Go Go.Proofs

theorem fit_list {α : Type} {s : Shape} {f : α → List D} {p : α → Prop} (h1 : ∀ e, Fits s e → ∃ a, e = f a ∧ p a) : ∀ es : List (List D), (∀ e ∈ es, Fits s e) → ∃ l : List α, es = l.map f ∧ ∀ a ∈ l, p a
  | [], _ => ⟨[], rfl, fun a h => by cases h⟩
  | e :: es, h => by
    obtain ⟨a, rfl, ha⟩ := h1 e (h e (List.mem_cons_self ..))
    obtain ⟨l, rfl, hl⟩ := fit_list h1 es (fun e he => h e (List.mem_cons_of_mem _ he))
    exact ⟨a :: l, rfl, fun b hb => by rcases List.mem_cons.1 hb with rfl | hb; exact ha; exact hl b hb⟩
theorem fit_byte (e : List D) (h : Fits (.int .u8) e) : ∃ c : UInt8, e = byteCell c ∧ True := by
  obtain ⟨n, rfl, hw⟩ := h
  obtain ⟨h1, h2⟩ := bounds_u8 hw
  refine ⟨UInt8.ofNat n.toNat, ?_, trivial⟩
  have := kindB n h1 (by omega)
  rw [wrap_u8' h1 (by omega)] at this
  exact this
theorem fit_bytes {d : D} (h : FitsV (.slice (.int .u8)) d) : ∃ l : List UInt8, d = cBytes.enc l := by
  obtain ⟨es, he, h⟩ := h
  injection he with he
  subst he
  obtain ⟨l, rfl, -⟩ := fit_list fit_byte es h
  exact ⟨l, rfl⟩
theorem u8P {n : Int} (h : (Lit.int .u8 n).wf = true) : byteP n := by
  obtain ⟨h1, h2⟩ := bounds_u8 h
  exact ⟨h1, by omega⟩
theorem fit_raw (e : List D) (h : Fits (.agg [.int .u8, .int .u8, .int .u8, .int .u8, .int .u8, .int .u8]) e) : ∃ x : Raw6, e = x.enc ∧ x.ok := by
  obtain ⟨_, _, rfl, ⟨a, rfl, ha⟩, _, _, rfl, ⟨b, rfl, hb⟩, _, _, rfl, ⟨c, rfl, hc⟩, _, _, rfl, ⟨d, rfl, hd⟩, _, _, rfl, ⟨f, rfl, hf⟩, _, _, rfl, ⟨g, rfl, hg⟩, rfl⟩ := h
  exact ⟨⟨a, b, c, d, f, g⟩, rfl, u8P ha, u8P hb, u8P hc, u8P hd, u8P hf, u8P hg⟩
theorem fit_raws {d : D} (h : FitsV (.slice (.agg [.int .u8, .int .u8, .int .u8, .int .u8, .int .u8, .int .u8])) d) : ∃ l : List Raw6, d = cRaws.enc l ∧ ∀ x ∈ l, x.ok := by
  obtain ⟨es, he, h⟩ := h
  injection he with he
  subst he
  obtain ⟨l, rfl, hl⟩ := fit_list fit_raw es h
  exact ⟨l, rfl, hl⟩
end Go.PE
