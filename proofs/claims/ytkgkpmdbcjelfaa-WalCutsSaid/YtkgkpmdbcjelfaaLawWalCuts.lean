/- A beginning of a frame, and a frame followed by other bytes, are refused: the law WalCuts holds of every input; no conditions. -/
import Derived.Test.YtkgkpmdbcjelfaaWkW
import Derived.Test.YtkgkpmdbcjelfaaPeRow
import Derived.Test.YtkgkpmdbcjelfaaRows
import Derived.WalkKit
import Derived.ProofKit
import Derived.OpenShut
set_option linter.unusedVariables false
set_option linter.defProp false
set_option linter.all false
set_option linter.unusedSimpArgs false
set_option maxRecDepth 100000
namespace Go.Proofs.Ytkgkpmdbcjelfaa.walCuts
open Go.ChangeShapes Go.WideShapes Go.ChangeAt Go.RowKit Go.PE

theorem own : ownKnob Try.prog.godebug = none := by kernel_rfl
theorem fits (ds : List D) (h : FitsA [.slice (.agg [.int .u8, .int .u8, .int .u8, .int .u8, .int .u8, .int .u8]), .agg [.int .u16, .int .u16], .slice (.int .u8)] ds) : hCuts.spec ds fun o => o = .ret (.d (.bool true)) := by
  obtain ⟨x, xs, rfl, hx, y, ys, rfl, hy, z, zs, rfl, hz, rfl⟩ := h
  obtain ⟨l, rfl, hl⟩ := fit_raws hx
  obtain ⟨p, rfl, hp⟩ := fit_pair16 hy
  obtain ⟨m, rfl⟩ := fit_bytes hz
  unfold Det.spec hCuts det3
  simp only [cRaws.de, cPair16.de, cBytes.de, optD]
  exact ⟨⟨hl, hp⟩, trivial⟩
theorem lifted (os : Os) (started : os.Started) (H : Type) (enc : TypeId × Value → H) :
    ReturnsInHanded {} Try.checked os 6 .any (Rows.walCutsSpec.pre6 enc Try.prog Try.f6 Rows.walCutsRow.domain false) (Rows.walCutsSpec.post enc Try.prog Try.f6 false true false false) := by
  refine returnsInHanded_of_change (C := Try.checked) own started (by kernel_rfl) Try.func6
    (ChangeSpec.witness6 (enc := enc) (C := Try.checked) false ⟨#[], #[.slice none 0 0, .agg #[.int .u16 0, .int .u16 0], .slice none 0 0], []⟩ 8 (by kernel_rfl) (by kernel_rfl) (by kernel_rfl) (by kernel_rfl)) ?_
  intro W base args ds gs before hval hW _ _
  exact law_calls (tb := 4) f_WalCuts (by kernel_rfl) fits (by kernel_rfl) (by kernel_rfl) (by kernel_rfl) (by kernel_rfl) (by kernel_rfl) (by kernel_rfl) rfl (fun ds h => by
    match ds, h with
    | [a, b, c], _ => exact ⟨rfl, rfl, rfl⟩) hval hW
theorem proved : Rows.WalCutsSaid :=
  OpenClaim.holds_of_wide 6 Try.f6 rfl rfl rfl rfl rfl rfl rfl ⟨rfl, rfl, rfl, rfl, rfl⟩ rfl rfl rfl rfl rfl (by kernel_rfl) Try.func6 (by kernel_rfl)
    (of_decide_eq_true (by kernel_rfl)) (by unfold Func.isWrapper; first | (rw [if_pos (by decide +kernel)]; kernel_rfl) | (rw [if_neg (by decide +kernel)]; exact ⟨rfl, rfl⟩))
    (fun os started H enc _ => lifted os started H enc)
#print axioms proved
end Go.Proofs.Ytkgkpmdbcjelfaa.walCuts
