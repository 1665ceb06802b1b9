/- Records of one stream may come from two senders: the law ReceiveSenders (its tied card) holds of every input; what it lists starts as the text lays it. -/
import Derived.Test.YtknilgmkgjjidaaGreatDoorWkTq
import Derived.Test.YtknilgmkgjjidaaGreatDoorWkZ
import Derived.Test.YtknilgmkgjjidaaGreatDoorPeRow
import Derived.Test.YtknilgmkgjjidaaGreatDoorRows
import Derived.Test.YtknilgmkgjjidaaGreatDoorCards
import Derived.Test.YtknilgmkgjjidaaGreatDoorTie
import Derived.WalkKit
import Derived.ProofKit
import Derived.OpenShut
import Derived.LaidMore
import Derived.Lay
import Derived.SevenTiedAt
set_option linter.unusedVariables false
set_option linter.defProp false
set_option linter.all false
set_option linter.unusedSimpArgs false
set_option maxRecDepth 100000
set_option maxHeartbeats 100000000
namespace Go.Proofs.YtknilgmkgjjidaaGreatDoor.receiveSenders
open Go.ChangeShapes Go.WideShapes Go.ChangeAt Go.RowKit Go.PE

theorem own : ownKnob Tryz.prog.godebug = none := by kernel_rfl
theorem fits (ds : List D) (h : FitsA [.slice (.agg [.int .u8, .int .u8, .int .u8, .int .u8, .int .u8, .int .u8]), .slice (.agg [.int .u8, .int .u8, .int .u8, .int .u8, .int .u8, .int .u8]), .slice (.int .u8)] ds) : hSenders.spec ds fun o => o = .ret (.d (.bool true)) := by
  obtain ⟨x1, xs1, rfl, hx1, x2, xs2, rfl, hx2, x3, xs3, rfl, hx3, rfl⟩ := h
  obtain ⟨a1, rfl, h1⟩ := fit_raws hx1
  obtain ⟨a2, rfl, h2⟩ := fit_raws hx2
  obtain ⟨a3, rfl⟩ := fit_bytes hx3
  unfold Det.spec hSenders det3
  simp only [cRaws.de, cRaws.de, cBytes.de, optD]
  exact ⟨⟨h1, h2⟩, trivial⟩
theorem lifted (os : Os) (started : os.Started) (H : Type) (enc : TypeId × Value → H) :
    ReturnsInHanded {} Tryz.checked os 3 .any (fun w args => (Rows.receiveSendersSpec.pre enc Tryz.prog Tryz.f3 Rows.receiveSendersRow.domain false w args ∧ laidMetH Tryz.prog Rows.receiveSendersRow.laid w) ∧ sizedMet enc Tryz.prog Tryz.f3 (OpenSpec.ofChange Rows.receiveSendersSpec) false w args) (Rows.receiveSendersSpec.post enc Tryz.prog Tryz.f3 false true false false) := by
  refine returnsInHanded_of_change_and (C := Tryz.checked) (X := fun w _ => laidMetH Tryz.prog Rows.receiveSendersRow.laid w) (fun _ _ _ hh h => h.of_heap hh) own started (by kernel_rfl) Tryz.func3
    (ChangeSpec.witness_shaped (enc := enc) (C := Tryz.checked) (os := os) (X := fun w _ => laidMetH Tryz.prog Rows.receiveSendersRow.laid w) false (World.laidAll Tryz.prog os Rows.receiveSendersRow.laid) #[.slice none 0 0, .slice none 0 0, .slice none 0 0] 12 (World.laidAll_os _ _ _)
      (World.shaped_of_ZipB (by kernel_rfl) (by kernel_rfl)) (by kernel_rfl) (by kernel_rfl) (by kernel_rfl)
      (by rw [MakeChecks.laidMetH_plain _ _ _ (by kernel_rfl)]; exact laidMet_laidAll _ (by kernel_rfl) (by kernel_rfl))) ?_
  intro W base args ds gs before hval hW _ _ _ _
  exact law_calls (tb := 4) f_ReceiveSenders (by kernel_rfl) fits (by kernel_rfl) (by kernel_rfl) (by kernel_rfl) (by kernel_rfl) (by kernel_rfl) (by kernel_rfl) rfl (fun ds h => by
    match ds, h with
    | [a1, a2, a3], _ => exact ⟨rfl, rfl, rfl⟩) hval hW
theorem and_tt {a b : Bool} (h : a = true) (k : b = true) : (a && b) = true := by rw [h, k]; rfl
theorem facts : joinedFacts Tryz.prog 3 Tryz.f3 Rows.receiveSendersSpec Rows.receiveSendersRow = true := by
  unfold joinedFacts
  repeat' (with_reducible refine and_tt ?_ ?_)
  all_goals as_aux_lemma => kernel_rfl
theorem named : Tryz.prog.funcNamed "downspout/downspoutlaw19.ReceiveSenders" = some 3 := by kernel_rfl
theorem inst : decide (Tryz.f3.isInstance Tryz.prog Rows.receiveSendersRow.origin Rows.receiveSendersRow.targs) = true := by kernel_rfl
theorem wrap : Tryz.f3.isWrapper Tryz.prog Rows.receiveSendersRow.wrapper Rows.receiveSendersRow.mainSum := by
  unfold Func.isWrapper
  first | (rw [if_pos (by decide +kernel)]; kernel_rfl) | (rw [if_neg (by decide +kernel)]; exact ⟨rfl, rfl⟩)
theorem holds : Rows.ReceiveSendersSaid :=
  OpenClaim.holds_of_wide 3 Tryz.f3 rfl rfl rfl rfl rfl rfl rfl ⟨rfl, rfl, rfl, rfl, rfl⟩ rfl rfl rfl rfl rfl named Tryz.func3 facts
    (of_decide_eq_true inst) wrap
    (fun os started H enc _ => lifted os started H enc)
theorem byText : Rows.receiveSendersRow.wfByText (OpenSpec.ofChange Rows.receiveSendersSpec) = true := by kernel_rfl
theorem mainIs : Tryz.pinned.checked.prog.mainIs = some (Rows.receiveSendersCard.stood.harness.1, Rows.receiveSendersCard.stood.harness.2.toList) := by kernel_rfl
theorem looks : true = Tryz.pinned.checked.prog.looks [] := by kernel_rfl
theorem goes_none {P : Program} (h : (P.funcs.toList.all fun fn => !fn.goes) = true) (f : FuncId) : P.goes f = false := by
  have h1 : ∀ fn ∈ P.funcs.toList, fn.goes = false := fun fn hm => by simpa using List.all_eq_true.1 h fn hm
  unfold Program.goes
  rw [Bool.or_eq_false_iff]
  constructor
  · rw [List.any_eq_false]
    intro g _
    cases hg : P.funcs[g]? with
    | none => simp
    | some fn =>
      have hm : fn ∈ P.funcs.toList := Array.mem_toList_iff.2 (Array.mem_of_getElem? hg)
      simp [h1 fn hm]
  · have : P.funcs.any Func.goes = false := by
      rw [← Array.any_toList, List.any_eq_false]
      intro fn hm
      simp [h1 fn hm]
    rw [this, Bool.and_false]
theorem goes_all : (Tryz.prog.funcs.toList.all fun fn => !fn.goes) = true := by kernel_rfl
theorem goesBy : false = Rows.receiveSendersRow.goesBy Tryz.pinned.checked.prog := by
  show false = ((Tryz.prog.funcNamed "downspout/downspoutlaw19.ReceiveSenders").any Tryz.prog.goes || false)
  rw [named, Option.any_some, goes_none goes_all, Bool.or_false]
theorem proved : Rows.ReceiveSendersCardSaid :=
  Claim7.holds_tied_plain_at .later [] [.data, .pinned] true Rows.receiveSendersCard.stood.harness true holds (fun _ h => by cases h) byText (fun _ h => by cases h) receiveSenders_row_tie rfl ⟨rfl, rfl⟩ mainIs rfl
    (fun f fn hf hfn => by
      obtain rfl : f = 3 := Option.some.inj (named.symm.trans hf) |>.symm
      obtain rfl : fn = Tryz.f3 := (Option.some.inj (Tryz.func3.symm.trans hfn)).symm
      exact ⟨looks, fun j t ht => by
        have hm : t ∈ Tryz.f3.params.toList := Array.mem_toList_iff.2 (Array.mem_of_getElem? ht)
        have hall : (Tryz.f3.params.toList.all fun u => !Tryz.prog.wantsStandIn u) = true := by kernel_rfl
        exact (show Tryz.prog.wantsStandIn t = false by simpa using List.all_eq_true.1 hall t hm)⟩)
    goesBy
#print axioms proved
end Go.Proofs.YtknilgmkgjjidaaGreatDoor.receiveSenders
