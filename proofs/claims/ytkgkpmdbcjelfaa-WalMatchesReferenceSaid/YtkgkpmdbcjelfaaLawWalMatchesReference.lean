/- Frame, Parse and Replay agree with the reference implementation, for frames of which a byte is changed, with numbers that are not valid, and for arbitrary bytes: the law WalMatchesReference holds of every input; no conditions. -/
import Derived.Test.YtkgkpmdbcjelfaaWkRv
import Derived.Test.YtkgkpmdbcjelfaaWkZ
import Derived.Test.YtkgkpmdbcjelfaaPeRow
import Derived.Test.YtkgkpmdbcjelfaaRows
import Derived.WalkKit
import Derived.ProofKit
import Derived.OpenShut
set_option linter.unusedVariables false
set_option linter.defProp false
set_option linter.all false
set_option linter.unusedSimpArgs false
set_option maxRecDepth 100000
namespace Go.Proofs.Ytkgkpmdbcjelfaa.walMatchesReference
open Go.ChangeShapes Go.WideShapes Go.ChangeAt Go.RowKit Go.PE

theorem own : ownKnob Try.prog.godebug = none := by kernel_rfl
theorem fits (ds : List D) (h : FitsA [.slice (.slice (.agg [.int .u8, .int .u8, .int .u8, .int .u8, .int .u8, .int .u8])), .slice (.int .u8), .agg [.int .i32, .int .i32, .int .i32, .int .i32, .int .i32]] ds) : hMatches.spec ds fun o => o = .ret (.d (.bool true)) := by
  obtain ⟨x1, xs1, rfl, hx1, x2, xs2, rfl, hx2, x3, xs3, rfl, hx3, rfl⟩ := h
  obtain ⟨a1, rfl, h1⟩ := fit_rawss hx1
  obtain ⟨a2, rfl⟩ := fit_bytes hx2
  obtain ⟨a3, rfl, h3⟩ := fit_i32x5 hx3
  unfold Det.spec hMatches det3
  simp only [cRawss.de, cBytes.de, (c5 .i32).de, optD]
  exact ⟨⟨h1, h3⟩, trivial⟩
theorem lifted (os : Os) (started : os.Started) (H : Type) (enc : TypeId × Value → H) :
    ReturnsInHanded {} Try.checked os 3 .any (Rows.walMatchesReferenceSpec.pre6 enc Try.prog Try.f3 Rows.walMatchesReferenceRow.domain false) (Rows.walMatchesReferenceSpec.post enc Try.prog Try.f3 false true false false) := by
  refine returnsInHanded_of_change (C := Try.checked) own started (by kernel_rfl) Try.func3
    (ChangeSpec.witness6 (enc := enc) (C := Try.checked) false ⟨#[], #[.slice none 0 0, .slice none 0 0, .agg #[.int .i32 0, .int .i32 0, .int .i32 0, .int .i32 0, .int .i32 0]], []⟩ 8 (by kernel_rfl) (by kernel_rfl) (by kernel_rfl) (by kernel_rfl)) ?_
  intro W base args ds gs before hval hW _ _
  exact law_calls (tb := 4) f_WalMatchesReference (by kernel_rfl) fits (by kernel_rfl) (by kernel_rfl) (by kernel_rfl) (by kernel_rfl) (by kernel_rfl) (by kernel_rfl) rfl (fun ds h => by
    match ds, h with
    | [a1, a2, a3], _ => exact ⟨rfl, rfl, rfl⟩) hval hW
theorem proved : Rows.WalMatchesReferenceSaid :=
  OpenClaim.holds_of_wide 3 Try.f3 rfl rfl rfl rfl rfl rfl rfl ⟨rfl, rfl, rfl, rfl, rfl⟩ rfl rfl rfl rfl rfl (by kernel_rfl) Try.func3 (by kernel_rfl)
    (of_decide_eq_true (by kernel_rfl)) (by unfold Func.isWrapper; first | (rw [if_pos (by decide +kernel)]; kernel_rfl) | (rw [if_neg (by decide +kernel)]; exact ⟨rfl, rfl⟩))
    (fun os started H enc _ => lifted os started H enc)
#print axioms proved
end Go.Proofs.Ytkgkpmdbcjelfaa.walMatchesReference
