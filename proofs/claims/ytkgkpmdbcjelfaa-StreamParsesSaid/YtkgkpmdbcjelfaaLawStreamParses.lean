/- Whatever is read from bytes is a valid record with these bytes: the law StreamParses holds of every input; no conditions. -/
import Derived.Test.YtkgkpmdbcjelfaaWkSi
import Derived.Test.YtkgkpmdbcjelfaaWkZ
import Derived.Test.YtkgkpmdbcjelfaaPeRow
import Derived.Test.YtkgkpmdbcjelfaaRows
import Derived.WalkKit
import Derived.ProofKit
import Derived.OpenShut
set_option linter.unusedVariables false
set_option linter.defProp false
set_option linter.all false
set_option linter.unusedSimpArgs false
set_option maxRecDepth 100000
namespace Go.Proofs.Ytkgkpmdbcjelfaa.streamParses
open Go.ChangeShapes Go.WideShapes Go.ChangeAt Go.RowKit Go.PE

theorem own : ownKnob Try.prog.godebug = none := by kernel_rfl
theorem fits (ds : List D) (h : FitsA [.int .u8, .slice (.int .u8)] ds) : hParses.spec ds fun o => o = .ret (.d (.bool true)) := by
  obtain ⟨x1, xs1, rfl, hx1, x2, xs2, rfl, hx2, rfl⟩ := h
  obtain ⟨a1, rfl, h1⟩ := fit_u8r hx1
  obtain ⟨a2, rfl⟩ := fit_bytes hx2
  unfold Det.spec hParses det2
  simp only [(cI .u8).de, cBytes.de, optD]
  exact ⟨h1, trivial⟩
theorem lifted (os : Os) (started : os.Started) (H : Type) (enc : TypeId × Value → H) :
    ReturnsInHanded {} Try.checked os 12 .any (Rows.streamParsesSpec.pre6 enc Try.prog Try.f12 Rows.streamParsesRow.domain false) (Rows.streamParsesSpec.post enc Try.prog Try.f12 false true false false) := by
  refine returnsInHanded_of_change (C := Try.checked) own started (by kernel_rfl) Try.func12
    (ChangeSpec.witness6 (enc := enc) (C := Try.checked) false ⟨#[], #[.int .u8 0, .slice none 0 0], []⟩ 8 (by kernel_rfl) (by kernel_rfl) (by kernel_rfl) (by kernel_rfl)) ?_
  intro W base args ds gs before hval hW _ _
  exact law_calls (tb := 4) f_StreamParses (by kernel_rfl) fits (by kernel_rfl) (by kernel_rfl) (by kernel_rfl) (by kernel_rfl) (by kernel_rfl) (by kernel_rfl) rfl (fun ds h => by
    match ds, h with
    | [a1, a2], _ => exact ⟨rfl, rfl, rfl⟩) hval hW
theorem proved : Rows.StreamParsesSaid :=
  OpenClaim.holds_of_wide 12 Try.f12 rfl rfl rfl rfl rfl rfl rfl ⟨rfl, rfl, rfl, rfl, rfl⟩ rfl rfl rfl rfl rfl (by kernel_rfl) Try.func12 (by kernel_rfl)
    (of_decide_eq_true (by kernel_rfl)) (by unfold Func.isWrapper; first | (rw [if_pos (by decide +kernel)]; kernel_rfl) | (rw [if_neg (by decide +kernel)]; exact ⟨rfl, rfl⟩))
    (fun os started H enc _ => lifted os started H enc)
#print axioms proved
end Go.Proofs.Ytkgkpmdbcjelfaa.streamParses
