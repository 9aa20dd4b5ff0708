/- What is proved on the way to a statement of the seat, pressed (text AN). No conditions beyond those its theorems state. -/
import Derived.Test.YtdcdhcgmeahfmaaGreatDoorBAM
import Derived.SevenTiedAt
import Derived.Stop.Joined
import Derived.Test.YtdcdhcgmeahfmaaGreatDoorRows
import Derived.Test.YtdcdhcgmeahfmaaGreatDoorCards
import Derived.Test.YtdcdhcgmeahfmaaGreatDoorTie
set_option linter.all false
namespace Go.Proofs.YtdcdhcgmeahfmaaGreatDoor
open Go.Dm Go.ChangeShapes Go.WideShapes Go.RowKit
theorem own:ownKnob Pr.godebug=none:=by kernel_rfl
theorem laid:laidOutB Pr=true:=by kernel_rfl
theorem zrQ:Pr.underlying z6P=some .bool:=by kernel_rfl
theorem zrP:Pr.underlying z0g=some (.int .i64):=by kernel_rfl
theorem ztp:Pr.cellsOf z0g=1:=by kernel_rfl
theorem zig:Pr.underlying z05=some (.struct (Pr.fieldsOf z05)):=by kernel_rfl
theorem zqs:Pr.underlying z0Y=some (.slice z0g):=by kernel_rfl
theorem par3:Tryz.f3.params = #[z05,z0Y,z0g]:=by kernel_rfl
theorem zdB(os:Os)(args:Array Value):laidMetH Tryz.prog Rows.systemScalesRow.laid ((World.doorLaid Tryz.prog 400 os).forCall (fun _ _=>0) ⟨#[],args,[]⟩).memory:=
 laidMetH_of_parts3 (fuel:=8) (laidMet_of_run' 8 (by kernel_rfl) (by kernel_rfl)) (by kernel_rfl) (by kernel_rfl)
set_option maxRecDepth 100000 in
theorem zbO(os:Os)(started:os.Started)(H:Type)(enc:TypeId×Value→H) :
  ReturnsInHanded {} Tryz.checked os 3 .any (fun w args=>(Rows.systemScalesSpec.pre enc Tryz.prog Tryz.f3 Rows.systemScalesRow.domain false w args∧laidMetH Tryz.prog Rows.systemScalesRow.laid w)∧sizedMet enc Tryz.prog Tryz.f3 (OpenSpec.ofChange Rows.systemScalesSpec) false w args)
   (Rows.systemScalesSpec.post enc Tryz.prog Tryz.f3 false true false false):=by
 refine returnsInHanded_of_change_and (C:=Tryz.checked) (X:=fun w _=>laidMetH Tryz.prog Rows.systemScalesRow.laid w) (fun _ _ _ hh h=>h.of_heap hh) own started (by kernel_rfl) (by kernel_rfl)
  (ChangeSpec.witness_shaped (enc:=enc) (C:=Tryz.checked) (os:=os) (X:=fun w _=>laidMetH Tryz.prog Rows.systemScalesRow.laid w) false (World.doorLaid Tryz.prog 400 os) #[.agg #[.string s_,.int .i64 0,.int .i64 0,.int .i64 0,.int .i64 0,.int .i64 0],.slice none 0 0,.int .i64 0] 8 rfl (World.shaped_of_RefB (by kernel_rfl) (by kernel_rfl)) (by kernel_rfl) (by kernel_rfl) (by kernel_rfl) (zdB os _)) ?_
 intro W base args ds gs before hval hW hq1 hq2 hq3 hq4
 have hW':=hW
 obtain⟨p,q,hA0,hV,rfl,hfz,hnd⟩:=hW
 have hA:DataW.TrodAll enc Tryz.prog W 0 (fun _=>true) true Tryz.f3.params.toList args.toList ds p:=hA0
 have hval:∀(j:Nat) t v,Tryz.f3.params[j]? = some t→args[j]? = some v→Value.okWide Tryz.prog W .any base t v:=hval
 rw[par3]at hA hval
 obtain⟨v0,vs0,d0,ds0,p0,q0,hargs,rfl,rfl,h0,r0⟩:=trodAll_cons hA
 obtain⟨v1,vs1,d1,ds1,p1,q1,rfl,rfl,rfl,h1,r1⟩:=trodAll_cons r0
 obtain⟨v2,vs2,d2,ds2,p2,q2,rfl,rfl,rfl,h2,r2⟩:=trodAll_cons r1
 obtain⟨rfl,rfl,rfl⟩:=trodAll_nil r2
 obtain rfl:args = #[v0,v1,v2]:=by cases args;simp_all
 obtain⟨rfl,rfl⟩:=trodVars_none hV
 obtain⟨x0,rfl,e0⟩:=zmd (n:=60) (a:=(.lf .str (.lf (.int .i64) (.lf (.int .i64) (.lf (.int .i64) (.lf (.int .i64) (.lf (.int .i64) .nil))))))) zig (by kernel_rfl) (hval 0 _ _ rfl rfl) h0
 obtain⟨s1,xs1,rfl,l1,_,c1⟩:=zqX zqs zrP ztp (hval 1 _ _ rfl rfl) h1
 obtain⟨n2,rfl,_,b2,_⟩:=open_int zrP (hval 2 _ _ rfl rfl) h2
 haveI:bTab W:=⟨zrT (by kernel_rfl) (by kernel_rfl) (by kernel_rfl) hq3⟩
 refine(zgk x0 s1 n2 (zpc l1 c1)).mono fun e W' ⟨he,hst⟩=>?_
 subst he
 exact⟨_,rfl,zni laid (by kernel_rfl) (T:=z6P) (by kernel_rfl) zrQ hW' rfl rfl hst⟩
end Go.Proofs.YtdcdhcgmeahfmaaGreatDoor
