/- What is proved on the way to a statement of the seat, pressed (text AM). No conditions beyond those its theorems state. -/
import Derived.Test.YtdcdhcgmeahfmaaGreatDoorFAL
import Derived.SevenTiedAt
import Derived.Stop.Joined
import Derived.Test.YtdcdhcgmeahfmaaGreatDoorRows
import Derived.Test.YtdcdhcgmeahfmaaGreatDoorCards
import Derived.Test.YtdcdhcgmeahfmaaGreatDoorTie
set_option linter.all false
namespace Go.Proofs.YtdcdhcgmeahfmaaGreatDoor
open Go.Dm Go.ChangeShapes Go.WideShapes Go.RowKit
def own:ownKnob Pr.godebug=none:=by kernel_rfl
def laid:laidOutB Pr=true:=by kernel_rfl
def z01:Pr.underlying qX=some .bool:=by kernel_rfl
def sG:Pr.underlying zu=some (.int .i64):=by kernel_rfl
def z2U:Pr.cellsOf zu=1:=by kernel_rfl
def wa:Pr.underlying zx=some (.struct (Pr.fieldsOf zx)):=by kernel_rfl
def Hm:Pr.underlying ZO=some (.slice zu):=by kernel_rfl
def z2D:Tryz.f4.params = #[zx,zu,ZO,zu]:=by kernel_rfl
def Lv(os:Os)(args:Array Value):laidMetH Tryz.prog Rows.fairOnRow.laid ((World.doorLaid Tryz.prog 400 os).forCall (λ_ _=>0) ⟨#[],args,[]⟩).memory:=
 laidMetH_of_parts3 (fuel:=8) (laidMet_of_run' 8 (by kernel_rfl) (by kernel_rfl)) (by kernel_rfl) (by kernel_rfl)
set_option maxRecDepth 100000 in
def DS(os:Os)(started:os.Started)(H:Type)(enc:TypeId×Value→H) :
  ReturnsInHanded {} Tryz.checked os 4 .any (λw args=>(Rows.fairOnSpec.pre enc Tryz.prog Tryz.f4 Rows.fairOnRow.domain false w args∧laidMetH Tryz.prog Rows.fairOnRow.laid w)∧sizedMet enc Tryz.prog Tryz.f4 (OpenSpec.ofChange Rows.fairOnSpec) false w args)
   (Rows.fairOnSpec.post enc Tryz.prog Tryz.f4 false true false false):=by
 refine returnsInHanded_of_change_and (C:=Tryz.checked) (X:=λw _=>laidMetH Tryz.prog Rows.fairOnRow.laid w) (λ_ _ _ hh h=>h.of_heap hh) own started (by kernel_rfl) (by kernel_rfl)
  (ChangeSpec.witness_shaped (enc:=enc) (C:=Tryz.checked) (os:=os) (X:=λw _=>laidMetH Tryz.prog Rows.fairOnRow.laid w) false (World.doorLaid Tryz.prog 400 os) #[.agg #[.string s_,.int .i64 0,.int .i64 0,.int .i64 0,.int .i64 0,.int .i64 0],.int .i64 0,.slice none 0 0,.int .i64 0] 8 rfl (World.shaped_of_RefB (by kernel_rfl) (by kernel_rfl)) (by kernel_rfl) (by kernel_rfl) (by kernel_rfl) (Lv os _)) ?_
 intro W base args ds gs before hval hW hq1 hq2 hq3 hq4
 have hW':=hW
 obtain⟨p,q,hA0,hV,rfl,hfz,hnd⟩:=hW
 have hA:DataW.TrodAll enc Tryz.prog W 0 (λ_=>true) true Tryz.f4.params.toList args.toList ds p:=hA0
 have hval:∀(j:Nat) t v,Tryz.f4.params[j]? = some t→args[j]? = some v→Value.okWide Tryz.prog W .any base t v:=hval
 rw[z2D]at hA hval
 obtain⟨v0,vs0,d0,ds0,p0,q0,hargs,rfl,rfl,h0,r0⟩:=trodAll_cons hA
 obtain⟨v1,vs1,d1,ds1,p1,q1,rfl,rfl,rfl,h1,r1⟩:=trodAll_cons r0
 obtain⟨v2,vs2,d2,ds2,p2,q2,rfl,rfl,rfl,h2,r2⟩:=trodAll_cons r1
 obtain⟨v3,vs3,d3,ds3,p3,q3,rfl,rfl,rfl,h3,r3⟩:=trodAll_cons r2
 obtain⟨rfl,rfl,rfl⟩:=trodAll_nil r3
 obtain rfl:args = #[v0,v1,v2,v3]:=by cases args;simp_all
 obtain⟨rfl,rfl⟩:=trodVars_none hV
 obtain⟨x0,rfl,e0⟩:=RP (n:=60) (a:=(.lf .str (.lf (.int .i64) (.lf (.int .i64) (.lf (.int .i64) (.lf (.int .i64) (.lf (.int .i64) .nil))))))) wa (by kernel_rfl) (hval 0 _ _ rfl rfl) h0
 obtain⟨n1,rfl,_,b1,_⟩:=open_int sG (hval 1 _ _ rfl rfl) h1
 obtain⟨s2,xs2,rfl,l2,_,c2⟩:=HR Hm sG z2U (hval 2 _ _ rfl rfl) h2
 obtain⟨n3,rfl,_,b3,_⟩:=open_int sG (hval 3 _ _ rfl rfl) h3
 haveI:Jp W:=⟨z04 (by kernel_rfl) (by kernel_rfl) (by kernel_rfl) hq3⟩
 refine(EE x0 n1 s2 n3 (SL l2 c2)).mono λe W' ⟨he,hst⟩=>?_
 subst he
 exact⟨_,rfl,aD laid (by kernel_rfl) (T:=qX) (by kernel_rfl) z01 hW' rfl rfl hst⟩
end Go.Proofs.YtdcdhcgmeahfmaaGreatDoor
