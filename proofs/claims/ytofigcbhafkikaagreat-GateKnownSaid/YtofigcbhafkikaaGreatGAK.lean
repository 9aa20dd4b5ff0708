/- What is proved on the way to a statement of the seat, pressed (text AK). No conditions beyond those its theorems state. -/
import Derived.Test.YtofigcbhafkikaaGreatGAJ
import Derived.Test.YtofigcbhafkikaaGreatRows
set_option linter.all false
namespace Go.Proofs.YtofigcbhafkikaaGreat
open Go.Dm Go.ChangeShapes Go.WideShapes Go.RowKit
def own:ownKnob Pr.godebug=none:=by kernel_rfl
def laid:laidOutB Pr=true:=by kernel_rfl
def Fd:Pr.underlying Yi=some .bool:=by kernel_rfl
def Fc:Pr.underlying zk=some (.int .i64):=by kernel_rfl
def FN:Tryz.f3.params = #[zk]:=by kernel_rfl
set_option maxRecDepth 100000 in
def uH(os:Os)(started:os.Started)(H:Type)(enc:TypeId×Value→H) :
  ReturnsInHanded {} Tryz.checked os 3 .any (Rows.gateKnownSpec.pre6 enc Tryz.prog Tryz.f3 Rows.gateKnownRow.domain false) (Rows.gateKnownSpec.post enc Tryz.prog Tryz.f3 false true false false):=by
 refine returnsInHanded_of_change (C:=Tryz.checked) own started (by kernel_rfl) (by kernel_rfl)
  (ChangeSpec.witness6 (enc:=enc) (C:=Tryz.checked) false ⟨#[],#[.int .i64 0],[]⟩ 8 (by kernel_rfl) (by kernel_rfl) (by kernel_rfl) (by kernel_rfl)) ?_
 intro W base args ds gs before hval hW _ _;have hW':=hW;obtain⟨p,q,hA0,hV,rfl,hfz,hnd⟩:=hW;have hA:DataW.TrodAll enc Tryz.prog W 0 (λ_=>true) true Tryz.f3.params.toList args.toList ds p:=hA0;have hval:∀(j:Nat) t v,Tryz.f3.params[j]? = some t→args[j]? = some v→Value.okWide Tryz.prog W .any base t v:=hval;rw[FN]at hA hval;obtain⟨v0,vs0,d0,ds0,p0,q0,hargs,rfl,rfl,h0,r0⟩:=trodAll_cons hA;obtain⟨rfl,rfl,rfl⟩:=trodAll_nil r0;obtain rfl:args = #[v0]:=by cases args;simp_all
 obtain⟨rfl,rfl⟩:=trodVars_none hV;obtain⟨n0,rfl,_,b0,_⟩:=open_int Fc (hval 0 _ _ rfl rfl) h0;refine(KH (p0:=n0) ).mono λe W' ⟨he,hst⟩=>?_;subst he;exact⟨_,rfl,Oz laid (by kernel_rfl) (T:=Yi) (by kernel_rfl) Fd hW' rfl rfl hst⟩
theorem gateKnown_holds:Rows.GateKnownSaid:=
 OpenClaim.holds_of_wide 3 Tryz.f3 rfl rfl rfl rfl rfl rfl rfl ⟨rfl,rfl,rfl,rfl,rfl⟩ rfl rfl rfl rfl rfl (by kernel_rfl) (by kernel_rfl) (by kernel_rfl)
  (of_decide_eq_true (by kernel_rfl)) (by unfold Func.isWrapper;first | (rw[if_pos (by decide +kernel)];kernel_rfl) | (rw[if_neg (by decide +kernel)];exact⟨rfl,rfl⟩))
  (λos started H enc _=>uH os started H enc)
end Go.Proofs.YtofigcbhafkikaaGreat
