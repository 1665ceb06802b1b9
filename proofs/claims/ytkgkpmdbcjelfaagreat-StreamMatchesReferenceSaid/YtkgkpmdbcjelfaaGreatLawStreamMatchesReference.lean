/- Streams made, read, cut and checked as the reference does it: the law StreamMatchesReference holds of every input; no conditions. -/
import Derived.Test.YtkgkpmdbcjelfaaGreatWkZe
import Derived.Test.YtkgkpmdbcjelfaaGreatWkZ
import Derived.Test.YtkgkpmdbcjelfaaGreatPeRow
import Derived.Test.YtkgkpmdbcjelfaaGreatRows
import Derived.WalkKit
import Derived.ProofKit
import Derived.OpenShut
set_option linter.unusedVariables false
set_option linter.defProp false
set_option linter.all false
set_option linter.unusedSimpArgs false
set_option maxRecDepth 100000
namespace Go.Proofs.YtkgkpmdbcjelfaaGreat.streamMatchesReference
open Go.ChangeShapes Go.WideShapes Go.ChangeAt Go.RowKit Go.PE

theorem own : ownKnob Tryz.prog.godebug = none := by kernel_rfl
theorem fits (ds : List D) (h : FitsA [.slice (.agg [.int .u8, .int .u8, .int .u8, .int .u8, .int .u8, .int .u8]), .slice (.int .u8), .agg [.int .u32, .int .u32, .int .u32, .int .u32]] ds) : hMatches.spec ds fun o => o = .ret (.d (.bool true)) := by
  obtain ⟨x1, xs1, rfl, hx1, x2, xs2, rfl, hx2, x3, xs3, rfl, hx3, rfl⟩ := h
  obtain ⟨a1, rfl, h1⟩ := fit_raws hx1
  obtain ⟨a2, rfl⟩ := fit_bytes hx2
  obtain ⟨a3, rfl, h3⟩ := fit_u32x4 hx3
  unfold Det.spec hMatches det3
  simp only [cRaws.de, cBytes.de, (c4 .u32).de, optD]
  exact ⟨⟨h1, h3⟩, trivial⟩
theorem lifted (os : Os) (started : os.Started) (H : Type) (enc : TypeId × Value → H) :
    ReturnsInHanded {} Tryz.checked os 3 .any (Rows.streamMatchesReferenceSpec.pre6 enc Tryz.prog Tryz.f3 Rows.streamMatchesReferenceRow.domain false) (Rows.streamMatchesReferenceSpec.post enc Tryz.prog Tryz.f3 false true false false) := by
  refine returnsInHanded_of_change (C := Tryz.checked) own started (by kernel_rfl) Tryz.func3
    (ChangeSpec.witness6 (enc := enc) (C := Tryz.checked) false ⟨#[], #[.slice none 0 0, .slice none 0 0, .agg #[.int .u32 0, .int .u32 0, .int .u32 0, .int .u32 0]], []⟩ 8 (by kernel_rfl) (by kernel_rfl) (by kernel_rfl) (by kernel_rfl)) ?_
  intro W base args ds gs before hval hW _ _
  exact law_calls (tb := 4) f_StreamMatchesReference (by kernel_rfl) fits (by kernel_rfl) (by kernel_rfl) (by kernel_rfl) (by kernel_rfl) (by kernel_rfl) (by kernel_rfl) rfl (fun ds h => by
    match ds, h with
    | [a1, a2, a3], _ => exact ⟨rfl, rfl, rfl⟩) hval hW
theorem proved : Rows.StreamMatchesReferenceSaid :=
  OpenClaim.holds_of_wide 3 Tryz.f3 rfl rfl rfl rfl rfl rfl rfl ⟨rfl, rfl, rfl, rfl, rfl⟩ rfl rfl rfl rfl rfl (by kernel_rfl) Tryz.func3 (by kernel_rfl)
    (of_decide_eq_true (by kernel_rfl)) (by unfold Func.isWrapper; first | (rw [if_pos (by decide +kernel)]; kernel_rfl) | (rw [if_neg (by decide +kernel)]; exact ⟨rfl, rfl⟩))
    (fun os started H enc _ => lifted os started H enc)
#print axioms proved
end Go.Proofs.YtkgkpmdbcjelfaaGreat.streamMatchesReference
