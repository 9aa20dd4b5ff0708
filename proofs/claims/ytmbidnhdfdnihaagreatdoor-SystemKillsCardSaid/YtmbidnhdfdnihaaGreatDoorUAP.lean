/- What is proved on the way to a statement of the seat, pressed (text AP). No conditions beyond those its theorems state. -/
import Derived.Test.YtmbidnhdfdnihaaGreatDoorUAO
set_option linter.all false
namespace Go.Proofs.YtmbidnhdfdnihaaGreatDoor
open Go.Dm Go.ChangeShapes Go.WideShapes Go.RowKit
theorem systemKills_plain : Rows.SystemKillsSaid :=
 OpenClaim.holds_of_wide 5 Tryz.f5 rfl rfl rfl rfl rfl rfl rfl ⟨rfl, rfl, rfl, rfl, rfl⟩ rfl rfl rfl rfl rfl (by kernel_rfl) (by kernel_rfl) zcx
  (of_decide_eq_true (by kernel_rfl)) (by unfold Func.isWrapper; first | (rw [if_pos (by decide +kernel)]; kernel_rfl) | (rw [if_neg (by decide +kernel)]; exact ⟨rfl, rfl⟩))
  (fun os started H enc _ => zbr os started H enc)
theorem systemKills_holds : Rows.SystemKillsCardSaid :=
 Claim7.holds_tied_plain_at .later [] [.data, .data, .data, .sentinel, .sentinel] true (true, "f97ae0968b71f40f68b14e749e00450f4feeb619ab129ba68931aaa39c425c59") true
  systemKills_plain (fun _ h => by cases h) (by kernel_rfl) (fun _ h => by cases h) systemKills_row_tie rfl ⟨rfl, rfl⟩ (by kernel_rfl) rfl
  (fun f fn hf hfn => by
   obtain rfl : f = 5 := Option.some.inj ((show Tryz.prog.funcNamed "damper/damperlaw15.SystemKills" = some 5 by kernel_rfl).symm.trans hf) |>.symm
   obtain rfl : fn = Tryz.f5 := (Option.some.inj (Tryz.func5.symm.trans hfn)).symm
   exact ⟨by kernel_rfl, fun j t ht => by
    rw [par5] at ht
    have hm : t ∈ [z0d, z0d, z5f] := by simpa using Array.mem_of_getElem? ht
    have hall : ([z0d, z0d, z5f].all fun u => !Tryz.prog.wantsStandIn u) = true := by kernel_rfl
    exact (show Tryz.prog.wantsStandIn t = false by simpa using List.all_eq_true.1 hall t hm)⟩)
  (by kernel_rfl)
end Go.Proofs.YtmbidnhdfdnihaaGreatDoor
