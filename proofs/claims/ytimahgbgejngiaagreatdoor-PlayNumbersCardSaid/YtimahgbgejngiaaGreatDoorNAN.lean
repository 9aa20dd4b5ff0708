/- What is proved on the way to a statement of the seat, pressed (text AN). No conditions beyond those its theorems state. -/
import Derived.Test.YtimahgbgejngiaaGreatDoorNAM
import Derived.SevenTiedAt
import Derived.Stop.Joined
import Derived.Test.YtimahgbgejngiaaGreatDoorRows
import Derived.Test.YtimahgbgejngiaaGreatDoorCards
import Derived.Test.YtimahgbgejngiaaGreatDoorTie
set_option linter.all false
namespace Go.Proofs.YtimahgbgejngiaaGreatDoor
open Go.Dm Go.ChangeShapes Go.WideShapes Go.RowKit
def own:ownKnob Pr.godebug=none:=by kernel_rfl
def laid:laidOutB Pr=true:=by kernel_rfl
def Il:Pr.underlying qG=some .bool:=by kernel_rfl
def AA:Pr.underlying zp=some (.int .i64):=by kernel_rfl
def BN:Pr.underlying yO=some (.slice Uw):=by kernel_rfl
def z2a:Tryz.f5.params = #[zp,zp,zp,yO]:=by kernel_rfl
def tO(os:Os)(args:Array Value):laidMetH Tryz.prog Rows.playNumbersRow.laid ((World.doorLaid Tryz.prog 400 os).forCall (λ_ _=>0) ⟨#[],args,[]⟩).memory:=
 laidMetH_of_parts3 (fuel:=8) (laidMet_of_run' 8 (by kernel_rfl) (by kernel_rfl)) (by kernel_rfl) (by kernel_rfl)
set_option maxRecDepth 100000 in
def MA(os:Os)(started:os.Started)(H:Type)(enc:TypeId×Value→H) :
  ReturnsInHanded {} Tryz.checked os 5 .any (λw args=>(Rows.playNumbersSpec.pre enc Tryz.prog Tryz.f5 Rows.playNumbersRow.domain false w args∧laidMetH Tryz.prog Rows.playNumbersRow.laid w)∧sizedMet enc Tryz.prog Tryz.f5 (OpenSpec.ofChange Rows.playNumbersSpec) false w args)
   (Rows.playNumbersSpec.post enc Tryz.prog Tryz.f5 false true false false):=by
 refine returnsInHanded_of_change_and (C:=Tryz.checked) (X:=λw _=>laidMetH Tryz.prog Rows.playNumbersRow.laid w) (λ_ _ _ hh h=>h.of_heap hh) own started (by kernel_rfl) (by kernel_rfl)
  (ChangeSpec.witness_shaped (enc:=enc) (C:=Tryz.checked) (os:=os) (X:=λw _=>laidMetH Tryz.prog Rows.playNumbersRow.laid w) false (World.doorLaid Tryz.prog 400 os) #[.int .i64 0,.int .i64 0,.int .i64 0,.slice none 0 0] 8 rfl (World.shaped_of_RefB (by kernel_rfl) (by kernel_rfl)) (by kernel_rfl) (by kernel_rfl) (by kernel_rfl) (tO os _)) ?_
 intro W base args ds gs before hval hW hq1 hq2 hq3 hq4;have hW':=hW;obtain⟨p,q,hA0,hV,rfl,hfz,hnd⟩:=hW;have hA:DataW.TrodAll enc Tryz.prog W 0 (λ_=>true) true Tryz.f5.params.toList args.toList ds p:=hA0;have hval:∀(j:Nat) t v,Tryz.f5.params[j]? = some t→args[j]? = some v→Value.okWide Tryz.prog W .any base t v:=hval;rw[z2a]at hA hval;obtain⟨v0,vs0,d0,ds0,p0,q0,hargs,rfl,rfl,h0,r0⟩:=trodAll_cons hA;obtain⟨v1,vs1,d1,ds1,p1,q1,rfl,rfl,rfl,h1,r1⟩:=trodAll_cons r0;obtain⟨v2,vs2,d2,ds2,p2,q2,rfl,rfl,rfl,h2,r2⟩:=trodAll_cons r1;obtain⟨v3,vs3,d3,ds3,p3,q3,rfl,rfl,rfl,h3,r3⟩:=trodAll_cons r2;obtain⟨rfl,rfl,rfl⟩:=trodAll_nil r3;obtain rfl:args = #[v0,v1,v2,v3]:=by cases args;simp_all
 obtain⟨rfl,rfl⟩:=trodVars_none hV;obtain⟨n0,rfl,_,b0,_⟩:=open_int AA (hval 0 _ _ rfl rfl) h0;obtain⟨n1,rfl,_,b1,_⟩:=open_int AA (hval 1 _ _ rfl rfl) h1;obtain⟨n2,rfl,_,b2,_⟩:=open_int AA (hval 2 _ _ rfl rfl) h2;obtain⟨s3,xs3,rfl,o3,c3,e3⟩:=RP (n:=60) (a:=(.lf (.int .u8) .nil)) BN (by kernel_rfl) (hval 3 _ _ rfl rfl) h3
 haveI : YB W := { is := Iq (by kernel_rfl) (by kernel_rfl) (by kernel_rfl) hq3, syn := AM (name := "strconv.ErrSyntax") (by kernel_rfl) (by kernel_rfl) (by kernel_rfl) hq3, rng := AM (name := "strconv.ErrRange") (by kernel_rfl) (by kernel_rfl) (by kernel_rfl) hq3 }
 refine(np n0 n1 n2 s3 o3 c3 e3).mono λe W' ⟨he,hst⟩=>?_;subst he;exact⟨_,rfl,au laid (by kernel_rfl) (T:=qG) (by kernel_rfl) Il hW' rfl rfl hst⟩
end Go.Proofs.YtimahgbgejngiaaGreatDoor
