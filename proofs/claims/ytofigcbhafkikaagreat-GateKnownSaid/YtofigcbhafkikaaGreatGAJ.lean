/- What is proved on the way to a statement of the seat, pressed (text AJ). No conditions beyond those its theorems state. -/
import Derived.Test.YtofigcbhafkikaaGreatGAI
import Derived.WalkKit
import Derived.ProofKit
import Derived.OpenShut
import Derived.WideKeyArgs
set_option linter.all false
namespace Go.Dm
open Go.ChangeShapes Go.WideShapes Go.RowKit
section
variable {H:Type}{enc:TypeId×Value→H}{P:Program}{W W':World}{E:List Seg}
def St.same(h:St W E W')(p:MemPlace)(hp:p.block<W.heap.size):W.sameAt W' p:=by
 cases p with
 | cell b off=>simp only[World.sameAt,World.cell?,h.old b hp]
 | map b=>exact h.old b hp
def qK(hl:laidOutB P=true){sp':Nat→Bool}:∀{ts:List TypeId}{vs:List Value}{ds:List (DataW H)}{ps:List MemPlace},(ts.all λt=>P.readableRec t&&decide (t<P.types.size))=true→
  DataW.TrodAll enc P W 0 (λ_=>true) true ts vs ds ps→(∀p∈ps,W.sameAt W' p)→(∀p∈ps,sp' p.block=true)→DataW.TrodAll enc P W' 0 sp' true ts vs ds ps
 | [],[],[],ps,_,h,_,_=>h
 | t::ts,v::vs,d::ds,ps,ht,h,h1,h2=>by
  obtain⟨p,q,ha,hb,rfl⟩:=h;simp only[List.all_cons,Bool.and_eq_true,decide_eq_true_eq]at ht
  exact⟨p,q,Go.WideElems.Trod_stays hl ht.1.1 ht.1.2 ha (λx hx=>h1 x (List.mem_append_left _ hx)) (λx hx=>h2 x (List.mem_append_left _ hx)),
   qK hl ht.2 hb (λx hx=>h1 x (List.mem_append_right _ hx)) (λx hx=>h2 x (List.mem_append_right _ hx)),rfl⟩
 | [],[],_::_,_,_,h,_,_=>h.elim
 | [],_::_,_,_,_,h,_,_=>h.elim
 | _::_,[],_,_,_,h,_,_=>h.elim
 | _::_,_::_,[],_,_,h,_,_=>h.elim
def Oz{f:Func}{s:ChangeSpec}{apart fresh handsOn:Bool}{args:Array Value}{ds gs:List (DataW H)}{before:List MemPlace}{T:TypeId}
  (hl:laidOutB P=true) (hts:(f.params.toList.all λt=>P.readableRec t&&decide (t<P.types.size))=true) (hres:f.resultTypes = #[T]) (hT:P.underlying T=some .bool)
  (hW:DataW.Whole enc P f.params.toList s.vars apart W args.toList ds gs before) (hv:s.vars = [])
  (hfn:s.fn H (ds++gs) = { results:=[.lit (.bool true)],args:=ds }) (hst:St W [] W'):s.post enc P f apart fresh handsOn false W args (.bool true) W':=by
 have hW':=hW;obtain⟨p,q,hA0,hV,rfl,hfz,hnd⟩:=hW;have hA:DataW.TrodAll enc P W 0 (λ_=>true) true f.params.toList args.toList ds p:=hA0;rw[hv]at hV;obtain⟨rfl,rfl⟩:=trodVars_none hV;have hlt:∀x∈p,x.block<W.heap.size:=λx hx=>hW'.lt x (List.mem_append_left _ hx);refine⟨ds,_,_,[],p,[],hW',?_,?_,?_,World.keptBut_mono (λp hp=>hp.elim) hst.kept,λh=>by cases h⟩
 ·rw[hres,hfn];exact trodAll_cons_mk (shut_bool hT _) trodAll_mk0
 ·rw[hfn];exact qK hl hts hA (λx hx=>hst.same x (hlt x hx)) (λx hx=>by simpa using hlt x hx)
 ·rw[hfn,hv];rfl
end
end Go.Dm
