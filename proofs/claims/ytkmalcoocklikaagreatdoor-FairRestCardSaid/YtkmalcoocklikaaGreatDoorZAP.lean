/- What is proved on the way to a statement of the seat, pressed (text AP). No conditions beyond those its theorems state. -/
import Derived.Test.YtkmalcoocklikaaGreatDoorZAO
set_option linter.all false
namespace Go.Proofs.YtkmalcoocklikaaGreatDoor
open Go.Dm Go.ChangeShapes Go.WideShapes Go.RowKit
theorem fairRest_plain : Rows.FairRestSaid :=
 OpenClaim.holds_of_wide 6 Tryz.f6 rfl rfl rfl rfl rfl rfl rfl ⟨rfl, rfl, rfl, rfl, rfl⟩ rfl rfl rfl rfl rfl (by kernel_rfl) (by kernel_rfl) zcJ
  (of_decide_eq_true (by kernel_rfl)) (by unfold Func.isWrapper; first | (rw [if_pos (by decide +kernel)]; kernel_rfl) | (rw [if_neg (by decide +kernel)]; exact ⟨rfl, rfl⟩))
  (fun os started H enc _ => zc8 os started H enc)
theorem fairRest_holds : Rows.FairRestCardSaid :=
 Claim7.holds_tied_plain_at .later [] [.data, .data, .data, .sentinel, .sentinel] true (true, "5087fe2a4b5537b0c7b0c81649c4ce1617797420292a1b94704b42c96d9dd30e") true
  fairRest_plain (fun _ h => by cases h) (by kernel_rfl) (fun _ h => by cases h) fairRest_row_tie rfl ⟨rfl, rfl⟩ (by kernel_rfl) rfl
  (fun f fn hf hfn => by
   obtain rfl : f = 6 := Option.some.inj ((show Tryz.prog.funcNamed "damper/damperlaw16.FairRest" = some 6 by kernel_rfl).symm.trans hf) |>.symm
   obtain rfl : fn = Tryz.f6 := (Option.some.inj (Tryz.func6.symm.trans hfn)).symm
   exact ⟨by kernel_rfl, fun j t ht => by
    rw [par6] at ht
    have hm : t ∈ [z0b, z0i] := by simpa using Array.mem_of_getElem? ht
    have hall : ([z0b, z0i].all fun u => !Tryz.prog.wantsStandIn u) = true := by kernel_rfl
    exact (show Tryz.prog.wantsStandIn t = false by simpa using List.all_eq_true.1 hall t hm)⟩)
  (by kernel_rfl)
end Go.Proofs.YtkmalcoocklikaaGreatDoor
