/- What is proved on the way to a statement of the seat, pressed (text AN). No conditions beyond those its theorems state. -/
import Derived.Test.YtimahgbgejngiaaGreatDoorTAM
import Derived.SevenTiedAt
import Derived.Stop.Joined
import Derived.Test.YtimahgbgejngiaaGreatDoorRows
import Derived.Test.YtimahgbgejngiaaGreatDoorCards
import Derived.Test.YtimahgbgejngiaaGreatDoorTie
set_option linter.all false
namespace Go.Proofs.YtimahgbgejngiaaGreatDoor
open Go.Dm Go.ChangeShapes Go.WideShapes Go.RowKit
def own:ownKnob Pr.godebug=none:=by kernel_rfl
def laid:laidOutB Pr=true:=by kernel_rfl
def z2m:Pr.underlying yP=some .bool:=by kernel_rfl
def z1P:Pr.underlying zx=some (.int .i64):=by kernel_rfl
def z5s:Pr.cellsOf zx=1:=by kernel_rfl
def lD:Pr.underlying zA=some (.struct (Pr.fieldsOf zA)):=by kernel_rfl
def IR:Pr.underlying ZS=some (.slice zx):=by kernel_rfl
def z5b:Tryz.f3.params = #[zA,zx,ZS]:=by kernel_rfl
def Bh(os:Os)(args:Array Value):laidMetH Tryz.prog Rows.topOnRow.laid ((World.doorLaid Tryz.prog 400 os).forCall (λ_ _=>0) ⟨#[],args,[]⟩).memory:=
 laidMetH_of_parts3 (fuel:=8) (laidMet_of_run' 8 (by kernel_rfl) (by kernel_rfl)) (by kernel_rfl) (by kernel_rfl)
set_option maxRecDepth 100000 in
def lE(os:Os)(started:os.Started)(H:Type)(enc:TypeId×Value→H) :
  ReturnsInHanded {} Tryz.checked os 3 .any (λw args=>(Rows.topOnSpec.pre enc Tryz.prog Tryz.f3 Rows.topOnRow.domain false w args∧laidMetH Tryz.prog Rows.topOnRow.laid w)∧sizedMet enc Tryz.prog Tryz.f3 (OpenSpec.ofChange Rows.topOnSpec) false w args)
   (Rows.topOnSpec.post enc Tryz.prog Tryz.f3 false true false false):=by
 refine returnsInHanded_of_change_and (C:=Tryz.checked) (X:=λw _=>laidMetH Tryz.prog Rows.topOnRow.laid w) (λ_ _ _ hh h=>h.of_heap hh) own started (by kernel_rfl) (by kernel_rfl)
  (ChangeSpec.witness_shaped (enc:=enc) (C:=Tryz.checked) (os:=os) (X:=λw _=>laidMetH Tryz.prog Rows.topOnRow.laid w) false (World.doorLaid Tryz.prog 400 os) #[.agg #[.string s_,.int .i64 0,.int .i64 0,.int .i64 0,.int .i64 0,.int .i64 0],.int .i64 0,.slice none 0 0] 8 rfl (World.shaped_of_RefB (by kernel_rfl) (by kernel_rfl)) (by kernel_rfl) (by kernel_rfl) (by kernel_rfl) (Bh os _)) ?_
 intro W base args ds gs before hval hW hq1 hq2 hq3 hq4;have hW':=hW;obtain⟨p,q,hA0,hV,rfl,hfz,hnd⟩:=hW;have hA:DataW.TrodAll enc Tryz.prog W 0 (λ_=>true) true Tryz.f3.params.toList args.toList ds p:=hA0;have hval:∀(j:Nat) t v,Tryz.f3.params[j]? = some t→args[j]? = some v→Value.okWide Tryz.prog W .any base t v:=hval;rw[z5b]at hA hval;obtain⟨v0,vs0,d0,ds0,p0,q0,hargs,rfl,rfl,h0,r0⟩:=trodAll_cons hA;obtain⟨v1,vs1,d1,ds1,p1,q1,rfl,rfl,rfl,h1,r1⟩:=trodAll_cons r0;obtain⟨v2,vs2,d2,ds2,p2,q2,rfl,rfl,rfl,h2,r2⟩:=trodAll_cons r1;obtain⟨rfl,rfl,rfl⟩:=trodAll_nil r2;obtain rfl:args = #[v0,v1,v2]:=by cases args;simp_all
 obtain⟨rfl,rfl⟩:=trodVars_none hV;obtain⟨x0,rfl,e0⟩:=av (n:=60) (a:=(.lf .str (.lf (.int .i64) (.lf (.int .i64) (.lf (.int .i64) (.lf (.int .i64) (.lf (.int .i64) .nil))))))) lD (by kernel_rfl) (hval 0 _ _ rfl rfl) h0;obtain⟨n1,rfl,_,b1,_⟩:=open_int z1P (hval 1 _ _ rfl rfl) h1;obtain⟨s2,xs2,rfl,l2,_,c2⟩:=z0o IR z1P z5s (hval 2 _ _ rfl rfl) h2;haveI:xi W:=⟨z2p (by kernel_rfl) (by kernel_rfl) (by kernel_rfl) hq3⟩;refine(z0Z x0 n1 s2 (HD l2 c2)).mono λe W' ⟨he,hst⟩=>?_;subst he;exact⟨_,rfl,Sr laid (by kernel_rfl) (T:=yP) (by kernel_rfl) z2m hW' rfl rfl hst⟩
end Go.Proofs.YtimahgbgejngiaaGreatDoor
