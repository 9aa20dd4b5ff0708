/- What is proved on the way to a statement of the seat, pressed (text AN). No conditions beyond those its theorems state. -/
import Derived.Test.YtdcdhcgmeahfmaaGreatDoorDAM
import Derived.SevenTiedAt
import Derived.Stop.Joined
import Derived.Test.YtdcdhcgmeahfmaaGreatDoorRows
import Derived.Test.YtdcdhcgmeahfmaaGreatDoorCards
import Derived.Test.YtdcdhcgmeahfmaaGreatDoorTie
set_option linter.all false
namespace Go.Proofs.YtdcdhcgmeahfmaaGreatDoor
open Go.Dm Go.ChangeShapes Go.WideShapes Go.RowKit
theorem own:ownKnob Pr.godebug=none:=by kernel_rfl
theorem laid:laidOutB Pr=true:=by kernel_rfl
theorem zrI:Pr.underlying z1U=some .bool:=by kernel_rfl
theorem zqn:Pr.underlying z0h=some (.int .i64):=by kernel_rfl
theorem ztf:Pr.cellsOf z0h=1:=by kernel_rfl
theorem zqm:Pr.underlying z1b=some (.slice z0h):=by kernel_rfl
theorem par5:Tryz.f5.params = #[z0h,z0h,z1b]:=by kernel_rfl
theorem zge(os:Os)(args:Array Value):laidMetH Tryz.prog Rows.topDrainsRow.laid ((World.doorLaid Tryz.prog 400 os).forCall (fun _ _=>0) ⟨#[],args,[]⟩).memory:=
 laidMetH_of_parts3 (fuel:=8) (laidMet_of_run' 8 (by kernel_rfl) (by kernel_rfl)) (by kernel_rfl) (by kernel_rfl)
set_option maxRecDepth 100000 in
theorem zeh(os:Os)(started:os.Started)(H:Type)(enc:TypeId×Value→H) :
  ReturnsInHanded {} Tryz.checked os 5 .any (fun w args=>(Rows.topDrainsSpec.pre enc Tryz.prog Tryz.f5 Rows.topDrainsRow.domain false w args∧laidMetH Tryz.prog Rows.topDrainsRow.laid w)∧sizedMet enc Tryz.prog Tryz.f5 (OpenSpec.ofChange Rows.topDrainsSpec) false w args)
   (Rows.topDrainsSpec.post enc Tryz.prog Tryz.f5 false true false false):=by
 refine returnsInHanded_of_change_and (C:=Tryz.checked) (X:=fun w _=>laidMetH Tryz.prog Rows.topDrainsRow.laid w) (fun _ _ _ hh h=>h.of_heap hh) own started (by kernel_rfl) (by kernel_rfl)
  (ChangeSpec.witness_shaped (enc:=enc) (C:=Tryz.checked) (os:=os) (X:=fun w _=>laidMetH Tryz.prog Rows.topDrainsRow.laid w) false (World.doorLaid Tryz.prog 400 os) #[.int .i64 0,.int .i64 0,.slice none 0 0] 8 rfl (World.shaped_of_RefB (by kernel_rfl) (by kernel_rfl)) (by kernel_rfl) (by kernel_rfl) (by kernel_rfl) (zge os _)) ?_
 intro W base args ds gs before hval hW hq1 hq2 hq3 hq4
 have hW':=hW
 obtain⟨p,q,hA0,hV,rfl,hfz,hnd⟩:=hW
 have hA:DataW.TrodAll enc Tryz.prog W 0 (fun _=>true) true Tryz.f5.params.toList args.toList ds p:=hA0
 have hval:∀(j:Nat) t v,Tryz.f5.params[j]? = some t→args[j]? = some v→Value.okWide Tryz.prog W .any base t v:=hval
 rw[par5]at hA hval
 obtain⟨v0,vs0,d0,ds0,p0,q0,hargs,rfl,rfl,h0,r0⟩:=trodAll_cons hA
 obtain⟨v1,vs1,d1,ds1,p1,q1,rfl,rfl,rfl,h1,r1⟩:=trodAll_cons r0
 obtain⟨v2,vs2,d2,ds2,p2,q2,rfl,rfl,rfl,h2,r2⟩:=trodAll_cons r1
 obtain⟨rfl,rfl,rfl⟩:=trodAll_nil r2
 obtain rfl:args = #[v0,v1,v2]:=by cases args;simp_all
 obtain⟨rfl,rfl⟩:=trodVars_none hV
 obtain⟨n0,rfl,_,b0,_⟩:=open_int zqn (hval 0 _ _ rfl rfl) h0
 obtain⟨n1,rfl,_,b1,_⟩:=open_int zqn (hval 1 _ _ rfl rfl) h1
 obtain⟨s2,xs2,rfl,l2,_,c2⟩:=zqL zqm zqn ztf (hval 2 _ _ rfl rfl) h2
 haveI:bTab W:=⟨zrM (by kernel_rfl) (by kernel_rfl) (by kernel_rfl) hq3⟩
 refine(zkn n0 n1 s2 (zp3 l2 c2)).mono fun e W' ⟨he,hst⟩=>?_
 subst he
 exact⟨_,rfl,znm laid (by kernel_rfl) (T:=z1U) (by kernel_rfl) zrI hW' rfl rfl hst⟩
end Go.Proofs.YtdcdhcgmeahfmaaGreatDoor
