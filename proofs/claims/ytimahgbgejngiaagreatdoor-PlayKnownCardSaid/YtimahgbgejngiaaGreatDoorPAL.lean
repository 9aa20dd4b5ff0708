/- What is proved on the way to a statement of the seat, pressed (text AL). No conditions beyond those its theorems state. -/
import Derived.Test.YtimahgbgejngiaaGreatDoorPAK
import Derived.SevenTiedAt
import Derived.Stop.Joined
import Derived.Test.YtimahgbgejngiaaGreatDoorRows
import Derived.Test.YtimahgbgejngiaaGreatDoorCards
import Derived.Test.YtimahgbgejngiaaGreatDoorTie
set_option linter.all false
namespace Go.Proofs.YtimahgbgejngiaaGreatDoor
open Go.Dm Go.ChangeShapes Go.WideShapes Go.RowKit
def own:ownKnob Pr.godebug=none:=by kernel_rfl
def laid:laidOutB Pr=true:=by kernel_rfl
def RF:Pr.underlying Vw=some .bool:=by kernel_rfl
def Bx:Pr.underlying zm=some (.int .i64):=by kernel_rfl
def aY:Tryz.f4.params = #[zm]:=by kernel_rfl
def mG(os:Os)(args:Array Value):laidMetH Tryz.prog Rows.playKnownRow.laid ((World.doorLaid Tryz.prog 400 os).forCall (λ_ _=>0) ⟨#[],args,[]⟩).memory:=
 laidMetH_of_parts3 (fuel:=8) (laidMet_of_run' 8 (by kernel_rfl) (by kernel_rfl)) (by kernel_rfl) (by kernel_rfl)
set_option maxRecDepth 100000 in
def GL(os:Os)(started:os.Started)(H:Type)(enc:TypeId×Value→H) :
  ReturnsInHanded {} Tryz.checked os 4 .any (λw args=>(Rows.playKnownSpec.pre enc Tryz.prog Tryz.f4 Rows.playKnownRow.domain false w args∧laidMetH Tryz.prog Rows.playKnownRow.laid w)∧sizedMet enc Tryz.prog Tryz.f4 (OpenSpec.ofChange Rows.playKnownSpec) false w args)
   (Rows.playKnownSpec.post enc Tryz.prog Tryz.f4 false true false false):=by
 refine returnsInHanded_of_change_and (C:=Tryz.checked) (X:=λw _=>laidMetH Tryz.prog Rows.playKnownRow.laid w) (λ_ _ _ hh h=>h.of_heap hh) own started (by kernel_rfl) (by kernel_rfl)
  (ChangeSpec.witness_shaped (enc:=enc) (C:=Tryz.checked) (os:=os) (X:=λw _=>laidMetH Tryz.prog Rows.playKnownRow.laid w) false (World.doorLaid Tryz.prog 400 os) #[.int .i64 0] 8 rfl (World.shaped_of_RefB (by kernel_rfl) (by kernel_rfl)) (by kernel_rfl) (by kernel_rfl) (by kernel_rfl) (mG os _)) ?_
 intro W base args ds gs before hval hW hq1 hq2 hq3 hq4;have hW':=hW;obtain⟨p,q,hA0,hV,rfl,hfz,hnd⟩:=hW;have hA:DataW.TrodAll enc Tryz.prog W 0 (λ_=>true) true Tryz.f4.params.toList args.toList ds p:=hA0;have hval:∀(j:Nat) t v,Tryz.f4.params[j]? = some t→args[j]? = some v→Value.okWide Tryz.prog W .any base t v:=hval;rw[aY]at hA hval;obtain⟨v0,vs0,d0,ds0,p0,q0,hargs,rfl,rfl,h0,r0⟩:=trodAll_cons hA;obtain⟨rfl,rfl,rfl⟩:=trodAll_nil r0;obtain rfl:args = #[v0]:=by cases args;simp_all
 obtain⟨rfl,rfl⟩:=trodVars_none hV;obtain⟨n0,rfl,_,b0,_⟩:=open_int Bx (hval 0 _ _ rfl rfl) h0
 haveI : jF W := { is := RJ (by kernel_rfl) (by kernel_rfl) (by kernel_rfl) hq3, syn := wm (name := "strconv.ErrSyntax") (by kernel_rfl) (by kernel_rfl) (by kernel_rfl) hq3, rng := wm (name := "strconv.ErrRange") (by kernel_rfl) (by kernel_rfl) (by kernel_rfl) hq3 }
 refine(Cc n0 ).mono λe W' ⟨he,hst⟩=>?_;subst he;exact⟨_,rfl,nZ laid (by kernel_rfl) (T:=Vw) (by kernel_rfl) RF hW' rfl rfl hst⟩
end Go.Proofs.YtimahgbgejngiaaGreatDoor
