/- What is proved on the way to a statement of the seat, pressed (text AP). No conditions beyond those its theorems state. -/
import Derived.Test.YtdcdhcgmeahfmaaGreatDoorDAO
set_option linter.all false
namespace Go.Proofs.YtdcdhcgmeahfmaaGreatDoor
open Go.Dm Go.ChangeShapes Go.WideShapes Go.RowKit
theorem topDrains_plain:Rows.TopDrainsSaid:=
 OpenClaim.holds_of_wide 5 Tryz.f5 rfl rfl rfl rfl rfl rfl rfl ⟨rfl,rfl,rfl,rfl,rfl⟩ rfl rfl rfl rfl rfl (by kernel_rfl) (by kernel_rfl) zf7
  (of_decide_eq_true (by kernel_rfl)) (by unfold Func.isWrapper;first | (rw[if_pos (by decide +kernel)];kernel_rfl) | (rw[if_neg (by decide +kernel)];exact⟨rfl,rfl⟩))
  (fun os started H enc _=>zeh os started H enc)
theorem topDrains_holds:Rows.TopDrainsCardSaid:=
 Claim7.holds_tied_plain_at .later [] [.data, .data, .data, .sentinel, .sentinel] true (true, "b1b91574b1e7fb3ddb49d62c4f4f6b011e50c818b3d669b5de267233f26ea65a") true
  topDrains_plain (fun _ h=>by cases h) (by kernel_rfl) (fun _ h=>by cases h) topDrains_row_tie rfl ⟨rfl,rfl⟩ (by kernel_rfl) rfl
  (fun f fn hf hfn=>by
   obtain rfl : f = 5 := Option.some.inj ((show Tryz.prog.funcNamed "damper/dampertop.TopDrains" = some 5 by kernel_rfl).symm.trans hf) |>.symm
   obtain rfl:fn=Tryz.f5:=(Option.some.inj (Tryz.func5.symm.trans hfn)).symm
   exact⟨by kernel_rfl,fun j t ht=>by
    rw[par5]at ht
    have hm:t∈[z0h,z0h,z1b]:=by simpa using Array.mem_of_getElem? ht
    have hall:([z0h,z0h,z1b].all fun u=>!Tryz.prog.wantsStandIn u)=true:=by kernel_rfl
    exact(show Tryz.prog.wantsStandIn t=false by simpa using List.all_eq_true.1 hall t hm)⟩)
  (by kernel_rfl)
end Go.Proofs.YtdcdhcgmeahfmaaGreatDoor
