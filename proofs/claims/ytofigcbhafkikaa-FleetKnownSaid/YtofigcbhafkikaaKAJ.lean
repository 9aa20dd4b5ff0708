/- What is proved on the way to a statement of the seat, pressed (text AJ). No conditions beyond those its theorems state. -/
import Derived.Test.YtofigcbhafkikaaKAI
import Derived.Test.YtofigcbhafkikaaRows
set_option linter.all false
namespace Go.Proofs.Ytofigcbhafkikaa
open Go.Dm Go.ChangeShapes Go.WideShapes Go.RowKit
def own:ownKnob Pr.godebug=none:=by kernel_rfl
def laid:laidOutB Pr=true:=by kernel_rfl
def KB:Pr.underlying zu=some .bool:=by kernel_rfl
def KA:Pr.underlying zf=some (.int .i64):=by kernel_rfl
def ol:Try.f3.params = #[zf]:=by kernel_rfl
set_option maxRecDepth 100000 in
def xN(os:Os)(started:os.Started)(H:Type)(enc:TypeId×Value→H) :
  ReturnsInHanded {} Try.checked os 3 .any (Rows.fleetKnownSpec.pre6 enc Try.prog Try.f3 Rows.fleetKnownRow.domain false) (Rows.fleetKnownSpec.post enc Try.prog Try.f3 false true false false):=by
 refine returnsInHanded_of_change (C:=Try.checked) own started (by kernel_rfl) (by kernel_rfl)
  (ChangeSpec.witness6 (enc:=enc) (C:=Try.checked) false ⟨#[],#[.int .i64 0],[]⟩ 8 (by kernel_rfl) (by kernel_rfl) (by kernel_rfl) (by kernel_rfl)) ?_
 intro W base args ds gs before hval hW _ _;have hW':=hW;obtain⟨p,q,hA0,hV,rfl,hfz,hnd⟩:=hW;have hA:DataW.TrodAll enc Try.prog W 0 (λ_=>true) true Try.f3.params.toList args.toList ds p:=hA0;have hval:∀(j:Nat) t v,Try.f3.params[j]? = some t→args[j]? = some v→Value.okWide Try.prog W .any base t v:=hval;rw[ol]at hA hval;obtain⟨v0,vs0,d0,ds0,p0,q0,hargs,rfl,rfl,h0,r0⟩:=trodAll_cons hA;obtain⟨rfl,rfl,rfl⟩:=trodAll_nil r0;obtain rfl:args = #[v0]:=by cases args;simp_all
 obtain⟨rfl,rfl⟩:=trodVars_none hV;obtain⟨n0,rfl,_,b0,_⟩:=open_int KA (hval 0 _ _ rfl rfl) h0;refine(ua (p0:=n0) ).mono λe W' ⟨he,hst⟩=>?_;subst he;exact⟨_,rfl,vB laid (by kernel_rfl) (T:=zu) (by kernel_rfl) KB hW' rfl rfl hst⟩
theorem fleetKnown_holds:Rows.FleetKnownSaid:=
 OpenClaim.holds_of_wide 3 Try.f3 rfl rfl rfl rfl rfl rfl rfl ⟨rfl,rfl,rfl,rfl,rfl⟩ rfl rfl rfl rfl rfl (by kernel_rfl) (by kernel_rfl) (by kernel_rfl)
  (of_decide_eq_true (by kernel_rfl)) (by unfold Func.isWrapper;first | (rw[if_pos (by decide +kernel)];kernel_rfl) | (rw[if_neg (by decide +kernel)];exact⟨rfl,rfl⟩))
  (λos started H enc _=>xN os started H enc)
end Go.Proofs.Ytofigcbhafkikaa
