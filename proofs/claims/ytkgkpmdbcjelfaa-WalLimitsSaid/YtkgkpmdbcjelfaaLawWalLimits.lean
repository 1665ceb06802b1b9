/- A frame is refused with 'bad argument' when its numbers or its group pass the limits, and is made when they do not: the law WalLimits holds of every input; no conditions. -/
import Derived.Test.YtkgkpmdbcjelfaaWkO
import Derived.Test.YtkgkpmdbcjelfaaPeRow
import Derived.Test.YtkgkpmdbcjelfaaRows
import Derived.WalkKit
import Derived.ProofKit
import Derived.OpenShut
set_option linter.unusedVariables false
set_option linter.defProp false
set_option linter.all false
set_option linter.unusedSimpArgs false
set_option maxRecDepth 100000
namespace Go.Proofs.Ytkgkpmdbcjelfaa.walLimits
open Go.ChangeShapes Go.WideShapes Go.ChangeAt Go.RowKit Go.PE

theorem own : ownKnob Try.prog.godebug = none := by kernel_rfl
theorem fits (ds : List D) (h : FitsA [.int .u8, .agg [.int .i32, .int .i32], .int .u8] ds) : hLimits.spec ds fun o => o = .ret (.d (.bool true)) := by
  obtain ⟨x, xs, rfl, ⟨n, hx, hn⟩, y, ys, rfl, ⟨es, rfl, c1, r1, rfl, ⟨a1, rfl, ha⟩, c2, r2, rfl, ⟨a2, rfl, hb⟩, rfl⟩, z, zs, rfl, ⟨m, hz, hm⟩, rfl⟩ := h
  injection hx with hx
  injection hz with hz
  subst hx
  subst hz
  obtain ⟨n1, n2⟩ := bounds_u8 hn
  obtain ⟨m1, m2⟩ := bounds_u8 hm
  obtain ⟨a3, a4⟩ := bounds_i32 ha
  obtain ⟨b3, b4⟩ := bounds_i32 hb
  have h : ((0 ≤ n ∧ n < 256) ∧ (0 ≤ m ∧ m < 256) ∧ (-2147483648 ≤ a1 ∧ a1 ≤ 2147483647) ∧ (-2147483648 ≤ a2 ∧ a2 ≤ 2147483647)) := by omega
  exact ⟨h, rfl⟩
theorem lifted (os : Os) (started : os.Started) (H : Type) (enc : TypeId × Value → H) :
    ReturnsInHanded {} Try.checked os 9 .any (Rows.walLimitsSpec.pre6 enc Try.prog Try.f9 Rows.walLimitsRow.domain false) (Rows.walLimitsSpec.post enc Try.prog Try.f9 false true false false) := by
  refine returnsInHanded_of_change (C := Try.checked) own started (by kernel_rfl) Try.func9
    (ChangeSpec.witness6 (enc := enc) (C := Try.checked) false ⟨#[], #[.int .u8 0, .agg #[.int .i32 0, .int .i32 0], .int .u8 0], []⟩ 8 (by kernel_rfl) (by kernel_rfl) (by kernel_rfl) (by kernel_rfl)) ?_
  intro W base args ds gs before hval hW _ _
  exact law_calls (tb := 4) f_WalLimits (by kernel_rfl) fits (by kernel_rfl) (by kernel_rfl) (by kernel_rfl) (by kernel_rfl) (by kernel_rfl) (by kernel_rfl) rfl (fun ds h => by
    match ds, h with
    | [a, b, c], _ => exact ⟨rfl, rfl, rfl⟩) hval hW
theorem proved : Rows.WalLimitsSaid :=
  OpenClaim.holds_of_wide 9 Try.f9 rfl rfl rfl rfl rfl rfl rfl ⟨rfl, rfl, rfl, rfl, rfl⟩ rfl rfl rfl rfl rfl (by kernel_rfl) Try.func9 (by kernel_rfl)
    (of_decide_eq_true (by kernel_rfl)) (by unfold Func.isWrapper; first | (rw [if_pos (by decide +kernel)]; kernel_rfl) | (rw [if_neg (by decide +kernel)]; exact ⟨rfl, rfl⟩))
    (fun os started H enc _ => lifted os started H enc)
#print axioms proved
end Go.Proofs.Ytkgkpmdbcjelfaa.walLimits
