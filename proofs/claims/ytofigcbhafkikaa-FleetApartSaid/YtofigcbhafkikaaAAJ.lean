/- What is proved on the way to a statement of the seat, pressed (text AJ). No conditions beyond those its theorems state. -/
import Derived.Test.YtofigcbhafkikaaAAI
import Derived.Test.YtofigcbhafkikaaRows
set_option linter.all false
namespace Go.Proofs.Ytofigcbhafkikaa
open Go.Dm Go.ChangeShapes Go.WideShapes Go.RowKit
def own:ownKnob Pr.godebug=none:=by kernel_rfl
def laid:laidOutB Pr=true:=by kernel_rfl
def OL:Pr.underlying qM=some .bool:=by kernel_rfl
def oS:Pr.underlying zA=some (.int .i64):=by kernel_rfl
def oR:Pr.underlying zn=some (.slice zA):=by kernel_rfl
def oZ:Pr.cellsOf zA=1:=by kernel_rfl
def gu:Try.f4.params = #[zn,zn]:=by kernel_rfl
set_option maxRecDepth 100000 in
def qm(os:Os)(started:os.Started)(H:Type)(enc:TypeId×Value→H) :
  ReturnsInHanded {} Try.checked os 4 .any (Rows.fleetApartSpec.pre6 enc Try.prog Try.f4 Rows.fleetApartRow.domain false) (Rows.fleetApartSpec.post enc Try.prog Try.f4 false true false false):=by
 refine returnsInHanded_of_change (C:=Try.checked) own started (by kernel_rfl) (by kernel_rfl)
  (ChangeSpec.witness6 (enc:=enc) (C:=Try.checked) false ⟨#[],#[.slice none 0 0,.slice none 0 0],[]⟩ 8 (by kernel_rfl) (by kernel_rfl) (by kernel_rfl) (by kernel_rfl)) ?_
 intro W base args ds gs before hval hW _ _;have hW':=hW;obtain⟨p,q,hA0,hV,rfl,hfz,hnd⟩:=hW;have hA:DataW.TrodAll enc Try.prog W 0 (λ_=>true) true Try.f4.params.toList args.toList ds p:=hA0;have hval:∀(j:Nat) t v,Try.f4.params[j]? = some t→args[j]? = some v→Value.okWide Try.prog W .any base t v:=hval;rw[gu]at hA hval;obtain⟨v0,vs0,d0,ds0,p0,q0,hargs,rfl,rfl,h0,r0⟩:=trodAll_cons hA;obtain⟨v1,vs1,d1,ds1,p1,q1,rfl,rfl,rfl,h1,r1⟩:=trodAll_cons r0;obtain⟨rfl,rfl,rfl⟩:=trodAll_nil r1;obtain rfl:args = #[v0,v1]:=by cases args;simp_all
 obtain⟨rfl,rfl⟩:=trodVars_none hV;obtain⟨s0,xs0,rfl,l0,_,c0⟩:=VB oR oS oZ (hval 0 _ _ rfl rfl) h0;obtain⟨s1,xs1,rfl,l1,_,c1⟩:=VB oR oS oZ (hval 1 _ _ rfl rfl) h1;refine(Ur (p0:=s0) (p1:=s1) (UO l0 c0) (UO l1 c1)).mono λe W' ⟨he,hst⟩=>?_;subst he;exact⟨_,rfl,kg laid (by kernel_rfl) (T:=qM) (by kernel_rfl) OL hW' rfl rfl hst⟩
theorem fleetApart_holds:Rows.FleetApartSaid:=
 OpenClaim.holds_of_wide 4 Try.f4 rfl rfl rfl rfl rfl rfl rfl ⟨rfl,rfl,rfl,rfl,rfl⟩ rfl rfl rfl rfl rfl (by kernel_rfl) (by kernel_rfl) (by kernel_rfl)
  (of_decide_eq_true (by kernel_rfl)) (by unfold Func.isWrapper;first | (rw[if_pos (by decide +kernel)];kernel_rfl) | (rw[if_neg (by decide +kernel)];exact⟨rfl,rfl⟩))
  (λos started H enc _=>qm os started H enc)
end Go.Proofs.Ytofigcbhafkikaa
