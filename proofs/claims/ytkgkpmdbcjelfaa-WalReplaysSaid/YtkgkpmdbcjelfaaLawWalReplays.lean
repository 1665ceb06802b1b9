/- A log of which one frame is damaged, missing or cut is read up to that frame; a whole log is read whole: the law WalReplays holds of every input; no conditions. -/
import Derived.Test.YtkgkpmdbcjelfaaWkRs
import Derived.Test.YtkgkpmdbcjelfaaWkZ
import Derived.Test.YtkgkpmdbcjelfaaPeRow
import Derived.Test.YtkgkpmdbcjelfaaRows
import Derived.WalkKit
import Derived.ProofKit
import Derived.OpenShut
set_option linter.unusedVariables false
set_option linter.defProp false
set_option linter.all false
set_option linter.unusedSimpArgs false
set_option maxRecDepth 100000
namespace Go.Proofs.Ytkgkpmdbcjelfaa.walReplays
open Go.ChangeShapes Go.WideShapes Go.ChangeAt Go.RowKit Go.PE

theorem own : ownKnob Try.prog.godebug = none := by kernel_rfl
theorem fits (ds : List D) (h : FitsA [.slice (.slice (.agg [.int .u8, .int .u8, .int .u8, .int .u8, .int .u8, .int .u8])), .agg [.int .u16, .int .u16, .int .u16, .int .u16]] ds) : hReplays.spec ds fun o => o = .ret (.d (.bool true)) := by
  obtain ⟨x1, xs1, rfl, hx1, x2, xs2, rfl, hx2, rfl⟩ := h
  obtain ⟨a1, rfl, h1⟩ := fit_rawss hx1
  obtain ⟨a2, rfl, h2⟩ := fit_u16x4 hx2
  unfold Det.spec hReplays det2
  simp only [cRawss.de, (c4 .u16).de, optD]
  exact ⟨⟨h1, h2⟩, trivial⟩
theorem lifted (os : Os) (started : os.Started) (H : Type) (enc : TypeId × Value → H) :
    ReturnsInHanded {} Try.checked os 7 .any (Rows.walReplaysSpec.pre6 enc Try.prog Try.f7 Rows.walReplaysRow.domain false) (Rows.walReplaysSpec.post enc Try.prog Try.f7 false true false false) := by
  refine returnsInHanded_of_change (C := Try.checked) own started (by kernel_rfl) Try.func7
    (ChangeSpec.witness6 (enc := enc) (C := Try.checked) false ⟨#[], #[.slice none 0 0, .agg #[.int .u16 0, .int .u16 0, .int .u16 0, .int .u16 0]], []⟩ 8 (by kernel_rfl) (by kernel_rfl) (by kernel_rfl) (by kernel_rfl)) ?_
  intro W base args ds gs before hval hW _ _
  exact law_calls (tb := 4) f_WalReplays (by kernel_rfl) fits (by kernel_rfl) (by kernel_rfl) (by kernel_rfl) (by kernel_rfl) (by kernel_rfl) (by kernel_rfl) rfl (fun ds h => by
    match ds, h with
    | [a1, a2], _ => exact ⟨rfl, rfl, rfl⟩) hval hW
theorem proved : Rows.WalReplaysSaid :=
  OpenClaim.holds_of_wide 7 Try.f7 rfl rfl rfl rfl rfl rfl rfl ⟨rfl, rfl, rfl, rfl, rfl⟩ rfl rfl rfl rfl rfl (by kernel_rfl) Try.func7 (by kernel_rfl)
    (of_decide_eq_true (by kernel_rfl)) (by unfold Func.isWrapper; first | (rw [if_pos (by decide +kernel)]; kernel_rfl) | (rw [if_neg (by decide +kernel)]; exact ⟨rfl, rfl⟩))
    (fun os started H enc _ => lifted os started H enc)
#print axioms proved
end Go.Proofs.Ytkgkpmdbcjelfaa.walReplays
