/- Frames of another generation are not read, nor is a frame that stands in another cell; a new log in the cells of an old one is read as far as it goes: the law WalGenerations holds of every input; no conditions. -/
import Derived.Test.YtkgkpmdbcjelfaaWkGn
import Derived.Test.YtkgkpmdbcjelfaaWkZ
import Derived.Test.YtkgkpmdbcjelfaaPeRow
import Derived.Test.YtkgkpmdbcjelfaaRows
import Derived.WalkKit
import Derived.ProofKit
import Derived.OpenShut
set_option linter.unusedVariables false
set_option linter.defProp false
set_option linter.all false
set_option linter.unusedSimpArgs false
set_option maxRecDepth 100000
namespace Go.Proofs.Ytkgkpmdbcjelfaa.walGenerations
open Go.ChangeShapes Go.WideShapes Go.ChangeAt Go.RowKit Go.PE

theorem own : ownKnob Try.prog.godebug = none := by kernel_rfl
theorem fits (ds : List D) (h : FitsA [.slice (.slice (.agg [.int .u8, .int .u8, .int .u8, .int .u8, .int .u8, .int .u8])), .slice (.slice (.agg [.int .u8, .int .u8, .int .u8, .int .u8, .int .u8, .int .u8])), .int .u16] ds) : hGenerations.spec ds fun o => o = .ret (.d (.bool true)) := by
  obtain ⟨x1, xs1, rfl, hx1, x2, xs2, rfl, hx2, x3, xs3, rfl, hx3, rfl⟩ := h
  obtain ⟨a1, rfl, h1⟩ := fit_rawss hx1
  obtain ⟨a2, rfl, h2⟩ := fit_rawss hx2
  obtain ⟨a3, rfl, h3⟩ := fit_u16 hx3
  unfold Det.spec hGenerations det3
  simp only [cRawss.de, cRawss.de, (cI .u16).de, optD]
  exact ⟨⟨h1, h2, h3⟩, trivial⟩
theorem lifted (os : Os) (started : os.Started) (H : Type) (enc : TypeId × Value → H) :
    ReturnsInHanded {} Try.checked os 8 .any (Rows.walGenerationsSpec.pre6 enc Try.prog Try.f8 Rows.walGenerationsRow.domain false) (Rows.walGenerationsSpec.post enc Try.prog Try.f8 false true false false) := by
  refine returnsInHanded_of_change (C := Try.checked) own started (by kernel_rfl) Try.func8
    (ChangeSpec.witness6 (enc := enc) (C := Try.checked) false ⟨#[], #[.slice none 0 0, .slice none 0 0, .int .u16 0], []⟩ 8 (by kernel_rfl) (by kernel_rfl) (by kernel_rfl) (by kernel_rfl)) ?_
  intro W base args ds gs before hval hW _ _
  exact law_calls (tb := 4) f_WalGenerations (by kernel_rfl) fits (by kernel_rfl) (by kernel_rfl) (by kernel_rfl) (by kernel_rfl) (by kernel_rfl) (by kernel_rfl) rfl (fun ds h => by
    match ds, h with
    | [a1, a2, a3], _ => exact ⟨rfl, rfl, rfl⟩) hval hW
theorem proved : Rows.WalGenerationsSaid :=
  OpenClaim.holds_of_wide 8 Try.f8 rfl rfl rfl rfl rfl rfl rfl ⟨rfl, rfl, rfl, rfl, rfl⟩ rfl rfl rfl rfl rfl (by kernel_rfl) Try.func8 (by kernel_rfl)
    (of_decide_eq_true (by kernel_rfl)) (by unfold Func.isWrapper; first | (rw [if_pos (by decide +kernel)]; kernel_rfl) | (rw [if_neg (by decide +kernel)]; exact ⟨rfl, rfl⟩))
    (fun os started H enc _ => lifted os started H enc)
#print axioms proved
end Go.Proofs.Ytkgkpmdbcjelfaa.walGenerations
