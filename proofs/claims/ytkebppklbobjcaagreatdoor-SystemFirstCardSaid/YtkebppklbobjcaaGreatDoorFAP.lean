/- What is proved on the way to a statement of the seat, pressed (text AP). No conditions beyond those its theorems state. -/
import Derived.Test.YtkebppklbobjcaaGreatDoorFAO
set_option linter.all false
namespace Go.Proofs.YtkebppklbobjcaaGreatDoor
open Go.Dm Go.ChangeShapes Go.WideShapes Go.RowKit
theorem systemFirst_plain : Rows.SystemFirstSaid :=
 OpenClaim.holds_of_wide 3 Tryz.f3 rfl rfl rfl rfl rfl rfl rfl ⟨rfl, rfl, rfl, rfl, rfl⟩ rfl rfl rfl rfl rfl (by kernel_rfl) (by kernel_rfl) zcw
  (of_decide_eq_true (by kernel_rfl)) (by unfold Func.isWrapper; first | (rw [if_pos (by decide +kernel)]; kernel_rfl) | (rw [if_neg (by decide +kernel)]; exact ⟨rfl, rfl⟩))
  (fun os started H enc _ => zbv os started H enc)
theorem systemFirst_holds : Rows.SystemFirstCardSaid :=
 Claim7.holds_tied_plain_at .later [] [.data, .data, .data, .sentinel, .sentinel] true (true, "55054ac9b4c7dca1cb97e44957576886fd97f8aba07f207d5302408e1138de10") true
  systemFirst_plain (fun _ h => by cases h) (by kernel_rfl) (fun _ h => by cases h) systemFirst_row_tie rfl ⟨rfl, rfl⟩ (by kernel_rfl) rfl
  (fun f fn hf hfn => by
   obtain rfl : f = 3 := Option.some.inj ((show Tryz.prog.funcNamed "damper/damperlaw15.SystemFirst" = some 3 by kernel_rfl).symm.trans hf) |>.symm
   obtain rfl : fn = Tryz.f3 := (Option.some.inj (Tryz.func3.symm.trans hfn)).symm
   exact ⟨by kernel_rfl, fun j t ht => by
    rw [par3] at ht
    have hm : t ∈ [z05, z0h, z0h] := by simpa using Array.mem_of_getElem? ht
    have hall : ([z05, z0h, z0h].all fun u => !Tryz.prog.wantsStandIn u) = true := by kernel_rfl
    exact (show Tryz.prog.wantsStandIn t = false by simpa using List.all_eq_true.1 hall t hm)⟩)
  (by kernel_rfl)
end Go.Proofs.YtkebppklbobjcaaGreatDoor
