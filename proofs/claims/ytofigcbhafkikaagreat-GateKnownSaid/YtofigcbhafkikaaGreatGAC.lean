/- What is proved on the way to a statement of the seat, pressed (text AC). No conditions beyond those its theorems state. -/
import Derived.Test.YtofigcbhafkikaaGreatGAB
import Derived.RangeFuncNested
set_option linter.all false
namespace Go.Dm
section
variable {P:Program}{D:Tb}{w w':World}{a:AT}{c cv:Act}{o:Oper}{K:AT→PT}{Q:Exit→Act→World→Prop}{ro:Option Nat}{ops:Array Oper}
structure vS(D:Tb)(ops:Array Oper):Prop where
 lt:∀(i:Nat)(o:Oper),ops[i]? = some o→∀e∈o.after.toList,Region.binds .any e=true→e.on<i
 nd:∀(i:Nat)(o:Oper),ops[i]? = some o→(∀x,o.op≠.defer x)∧∀cs b,o.op≠.select cs b
 rd:∀(i:Nat)(o:Oper),ops[i]? = some o→zN D o.op=1→o.dst.isSome=true∧XH i (ZX ops.toList)=false
 own:∀(i:Nat)(o:Oper)(d:Nat),ops[i]? = some o→o.dst=some d→zN D o.op<2→d∉yb ops.toList o
 low:∀(i:Nat)(o:Oper)(d j:Nat)(u:Oper),ops[i]? = some o→o.dst=some d→ops[j]? = some u→i≠j→zN D o.op<2→(d∈yb ops.toList u→(Yf (ye ops.toList []) j).testBit i=true)∧u.dst≠some d
 high:∀(i:Nat)(o:Oper)(d j:Nat)(u:Oper),ops[i]? = some o→o.dst=some d→ops[j]? = some u→i≠j→¬zN D o.op<2→d∈yb ops.toList u→(Yf (ye ops.toList []) j).testBit i=true∨(Yf (ye ops.toList []) i).testBit j=true
def ON(h:uL D ops.toList (ye ops.toList [])=true):vS D ops:=by
 have main:∀(i:Nat)(o:Oper),ops[i]? = some o→(o.after.toList.all λe=>!Region.binds .any e||decide (e.on<i))=true∧
   (match o.op with | .defer _ | .select _ _=>false | _=>true)=true∧
   (decide (zN D o.op≠1)||(o.dst.isSome&& !XH i (ZX ops.toList)))=true∧
   (match o.dst with
   | none=>true
   | some d=>(decide (zN D o.op=2)|| !XH d (yb ops.toList o))&&(Yb 0 ops.toList).all λy=>i == y.1 ||
    (if zN D o.op<2 then(!XH d (yb ops.toList y.2)||(Yf (ye ops.toList []) y.1).testBit i)&& !(y.2.dst == some d)
     else(!XH d (yb ops.toList y.2)||(Yf (ye ops.toList []) y.1).testBit i||(Yf (ye ops.toList []) i).testBit y.1)))=true:=by
  intro i o ho;have hm:(i,o)∈Yb 0 ops.toList:=by
   have:=Xr (k:=0) (l:=ops.toList) (i:=i) (o:=o) (by rw[Array.getElem?_toList];exact ho);rw[Nat.zero_add]at this;exact this
  have:=List.all_eq_true.1 h (i,o) hm;simp only[Bool.and_eq_true]at this;exact⟨this.1.1.1,this.1.1.2,this.1.2,this.2⟩
 have numb:∀(j:Nat)(u:Oper),ops[j]? = some u→(j,u)∈Yb 0 ops.toList:=λj u hu=>by
  have:=Xr (k:=0) (l:=ops.toList) (i:=j) (o:=u) (by rw[Array.getElem?_toList];exact hu);rw[Nat.zero_add]at this;exact this
 refine⟨λi o ho e he hb=>?_,λi o ho=>?_,λi o ho hk=>?_,λi o d ho hd hk=>?_,λi o d j u ho hd hu hij hk=>?_,λi o d j u ho hd hu hij hk hmem=>?_⟩
 ·have:=List.all_eq_true.1 (main i o ho).1 e he;rw[hb]at this;simpa using this
 ·have:=(main i o ho).2.1;refine⟨λx hx=>?_,λcs b hx=>?_⟩<;>rw[hx]at this<;>cases this
 ·have:=(main i o ho).2.2.1;rw[hk]at this;simpa using this
 ·have:=(main i o ho).2.2.2;rw[hd]at this;simp only[Bool.and_eq_true,Bool.or_eq_true,decide_eq_true_eq,Bool.not_eq_true']at this;rcases this.1 with h | h
  ·omega
  ·intro hm;rw[JW.2 hm]at h;cases h
 ·have:=(main i o ho).2.2.2;rw[hd]at this;simp only[Bool.and_eq_true]at this;have:=List.all_eq_true.1 this.2 (j,u) (numb j u hu);simp only[if_pos hk,Bool.or_eq_true,beq_iff_eq,Bool.and_eq_true,Bool.not_eq_true']at this;rcases this with e | ⟨h1,h2⟩
  ·exact absurd e hij
  ·refine⟨λhm=>?_,λe=>?_⟩
   ·rcases h1 with h1 | h1
    ·rw[JW.2 hm]at h1;cases h1
    ·exact h1
   ·rw[e]at h2;simp at h2
 ·have:=(main i o ho).2.2.2;rw[hd]at this;simp only[Bool.and_eq_true]at this;have:=List.all_eq_true.1 this.2 (j,u) (numb j u hu);simp only[if_neg hk,Bool.or_eq_true,beq_iff_eq,Bool.not_eq_true']at this;rcases this with e | ((h1 | h1) | h1)
  ·exact absurd e hij
  ·rw[JW.2 hmem]at h1;cases h1
  ·exact .inl h1
  ·exact .inr h1
def fZ(P:Program)(D:Tb)(ops:Array Oper)(C:List (Nat×Chk))(cv:Act)(i:Nat)(o:Oper):Prop:=
 zN D o.op<2∧∀w',(∀ch,(i,ch)∈C→Yr P ch w')→∀c':Act,(∀t∈yb ops.toList o,c'.tmps[t]? = cv.tmps[t]?)→
  (Region.wanted o (yielded ops c'.tmps)=true∧∃v,(execOp c'.eval o).run P w' = .ok (.value v) w'∧∀d,o.dst=some d→cv.tmps[d]? = some v)∨
  (Region.wanted o (yielded ops c'.tmps)=false∧∀d,o.dst=some d→cv.tmps[d]? = some undef)
structure Inv(P:Program)(D:Tb)(ops:Array Oper)(N:Nat)(ds:List Deferred)(listed:Array Bool)(c:Act)(w:World)(S:List (Nat×Oper))(C:List (Nat×Chk))(a:AT)(cv:Act):Prop where
 mem:∀x∈S,ops[x.1]? = some x.2∧listed.getD x.1 true=false
 size:listed.size=ops.size
 closL:∀(i:Nat)(o:Oper),ops[i]? = some o→listed.getD i false=true→∀e∈o.after.toList,Region.binds .any e=true→listed.getD e.on false=true
 closV:∀(i:Nat)(o:Oper),ops[i]? = some o→(∀x∈S,x.1≠i)→∀e∈o.after.toList,Region.binds .any e=true→∀x∈S,x.1≠e.on
 ok:ok a cv
 szc:c.tmps.size=N
 szv:cv.tmps.size=N
 dfc:c.defers=ds
 dfv:cv.defers=ds
 pend:∀(i:Nat)(o:Oper),ops[i]? = some o→(∀x∈S,x.1≠i)→listed.getD i true=false→fZ P D ops C cv i o
 chk:∀(i:Nat)(ch:Chk),(i,ch)∈C→listed.getD i true=false→Yr P ch w
 agree:∀t,(∀(i:Nat)(o:Oper),ops[i]? = some o→(∀x∈S,x.1≠i)→listed.getD i true=false→o.dst≠some t)→c.tmps[t]? = cv.tmps[t]?
def ZR{S:List (Nat×Oper)}{i:Nat}{x:Nat×Oper}:x∈YK S i↔x∈S∧x.1≠i:=by
 simp[YK,List.mem_filter]
def qb{S:List (Nat×Oper)}:JK S o=true↔∀e∈o.after.toList,Region.binds .any e=true→∀x∈S,x.1≠e.on:=by
 unfold JK;rw[List.all_eq_true];constructor
 ·intro h e he hb x hx hxe;have:=h e he;rw[hb]at this;simp only[Bool.not_true,Bool.false_or,Bool.not_eq_true']at this;have h2:=List.any_eq_false.1 this x hx;simp[hxe]at h2
 ·intro h e he
  cases hb:Region.binds .any e with
  | false=>rfl
  | true=>
   simp only[Bool.not_true,Bool.false_or,Bool.not_eq_true'];refine List.any_eq_false.2 λx hx=>?_;have:=h e he hb x hx;simpa using this
def Xz{S0:List (Nat×Oper)}:∀{S:List (Nat×Oper)}{x:Nat×Oper},Yg D S0 S=some x→x∈S∧JK S0 x.2=true∧zN D x.2.op<2
 | [],x,h=>by cases h
 | y::S,x,h=>by
  simp only[Yg]at h;split at h
  ·rename_i hc
   cases h
   simp only[Bool.and_eq_true,decide_eq_true_eq]at hc;exact⟨List.mem_cons_self ..,hc⟩
  ·obtain⟨h1,h2⟩:=Xz h;exact⟨List.mem_cons_of_mem _ h1,h2⟩
def XA{S0:List (Nat×Oper)}:∀{S:List (Nat×Oper)},Yg D S0 S=none→∀x∈S,JK S0 x.2=true→¬zN D x.2.op<2
 | [],h,x,hx=>by cases hx
 | y::S,h,x,hx=>by
  simp only[Yg]at h;split at h
  ·cases h
  ·rename_i hc;intro ha hk
   cases hx with
   | head=>exact hc (by simp[ha,hk])
   | tail _ hx=>exact XA h x hx ha hk
def Vu{l:Array Bool}{i:Nat}(h:l.getD i true=false):l.getD i false=false:=by
 rw[Array.getD_eq_getD_getElem?]at *
 cases hl:l[i]? with
 | none=>rw[hl]at h;cases h
 | some b=>rw[hl]at h;simpa using h
def Inv.anc{N:Nat}{ds:List Deferred}{listed:Array Bool}{S:List (Nat×Oper)}{C:List (Nat×Chk)}(I:Inv P D ops N ds listed c w S C a cv){i r:Nat}{o:Oper}(ho:ops[i]? = some o)(hi:∀x∈S,x.1≠i)
  (hr:(Yf (ye ops.toList []) i).testBit r=true):∀x∈S,x.1≠r:=
 Kj (Z:=λj=>∀x∈S,x.1≠j) (λj u hu hj e he hb=>I.closV j u hu hj e he hb) (λu hu e he hb=>I.closV i u hu hi e he hb) hr
def Inv.ancL{N:Nat}{ds:List Deferred}{listed:Array Bool}{S:List (Nat×Oper)}{C:List (Nat×Chk)}(I:Inv P D ops N ds listed c w S C a cv){i r:Nat}
  (hi:∀u,ops[i]? = some u→∀e∈u.after.toList,Region.binds .any e=true→listed.getD e.on false=true) (hr:(Yf (ye ops.toList []) i).testBit r=true):listed.getD r false=true:=
 Kj (Z:=λj=>listed.getD j false=true) (λj u hu hj e he hb=>I.closL j u hu hj e he hb) hi hr
def yJ{d t:Nat}{dst:Option Tmp}{v:Value}(h:dst≠some t):(c.put dst v).tmps[t]? = c.tmps[t]? :=by
 cases dst with
 | none=>rfl
 | some d=>
  have:d≠t:=λe=>h (by rw[e]);simp[Act.put,Array.getElem?_setIfInBounds,this]
def JS{t:Nat}{dst:Option Tmp}{v:Value}(h:dst=some t)(hlt:t<c.tmps.size):(c.put dst v).tmps[t]? = some v:=by
 subst h;simp[Act.put,Array.getElem?_setIfInBounds,hlt]
def KP(T:YF P D)(B:vS D ops){N:Nat}{ds:List Deferred}{listed:Array Bool}{S:List (Nat×Oper)}{C:List (Nat×Chk)}{gs:GS}(hgs:gs.l=ZX ops.toList){k:Nat}{Kx:AT→List (Nat×Chk)→PT}
  (hN:∀(i:Nat)(o:Oper),ops[i]? = some o→∀t,o.dst=some t→t<N)
  (I:Inv P D ops N ds listed c w S C a cv) (hk:(k,o)∈S) (hav:JK S o=true) (hkind:zN D o.op<2)
  (h:KA P D ops.toList gs k o a (λa'=>Kx a' (xb D k o a a' C)) w) :
  ∃a' C' cv',Kx a' C' w∧Inv P D ops N ds listed c w (YK S k) C' a' cv':=by
 have ho:=(I.mem _ hk).1;have hun:=(I.mem _ hk).2;have hd:Dst o cv:=λt ht=>by rw[I.szv];exact hN k o ho t ht
 have build:∀(a':AT)(C':List (Nat×Chk))(v:Value),ok a' (cv.put o.dst v)→(∀x∈C,x∈C')→(∀(i:Nat)(ch:Chk),(i,ch)∈C'→(i,ch)∈C∨Yr P ch w)→
   fZ P D ops C' (cv.put o.dst v) k o→Inv P D ops N ds listed c w (YK S k) C' a' (cv.put o.dst v):=by
  intro a' C' v hok hC hC' hp;refine⟨λx hx=>I.mem x (ZR.1 hx).1,I.size,I.closL,?_,hok,I.szc,by simp[I.szv],I.dfc,by simp[I.dfv],?_,?_,?_⟩
  ·intro i u hu hi e he hb x hx;by_cases hik:i=k
   ·subst hik;rw[ho]at hu;cases hu;exact qb.1 hav e he hb x (ZR.1 hx).1
   ·refine I.closV i u hu (λy hy hyi=>hi y (ZR.2 ⟨hy,λe=>hik (hyi.symm.trans e)⟩) hyi) e he hb x (ZR.1 hx).1
  ·intro i u hu hi hl;by_cases hik:i=k
   ·subst hik;rw[ho]at hu;cases hu;exact hp
   ·have hiS:∀y∈S,y.1≠i:=λy hy hyi=>hi y (ZR.2 ⟨hy,λe=>hik (hyi.symm.trans e)⟩) hyi;obtain⟨hki,hpi⟩:=I.pend i u hu hiS hl;refine⟨hki,λw' hch c' hc'=>?_⟩;have hreads:∀t∈yb ops.toList u,c'.tmps[t]? = cv.tmps[t]? :=by
     intro t ht;rw[hc' t ht];refine yJ (d:=0) λe=>?_;have:=(B.low k o t i u ho e hu (λe=>hik e.symm) hkind).1 ht;exact I.anc hu hiS this _ hk rfl
    have hdst:∀d,u.dst=some d→(cv.put o.dst v).tmps[d]? = cv.tmps[d]? :=λd hdd=>yJ (d:=0) λe=>
     (B.low k o d i u ho e hu (λe=>hik e.symm) hkind).2 hdd
    rcases hpi w' (λch hx=>hch ch (hC _ hx)) c' hreads with ⟨hw,y,hr,hy⟩ | ⟨hw,hy⟩
    ·exact .inl ⟨hw,y,hr,λd hdd=>by rw[hdst d hdd];exact hy d hdd⟩
    ·exact .inr ⟨hw,λd hdd=>by rw[hdst d hdd];exact hy d hdd⟩
  ·intro i ch hx hl;rcases hC' i ch hx with h | h
   ·exact I.chk i ch h hl
   ·exact h
  ·intro t ht;have h1:o.dst≠some t:=ht k o ho (λx hx=>(ZR.1 hx).2) hun;rw[yJ (d:=0) h1];refine I.agree t λi u hu hi hl=>ht i u hu (λx hx=>hi x (ZR.1 hx).1) hl
 have ownr:∀c':Act,∀v,(∀t∈yb ops.toList o,c'.tmps[t]? = (cv.put o.dst v).tmps[t]?)→∀t∈yb ops.toList o,c'.tmps[t]? = cv.tmps[t]? :=by
  intro c' v h t ht;rw[h t ht];exact yJ (d:=0) λe=>B.own k o t ho e hkind ht
 have run:za P D o a (qp gs k o λa'=>Kx a' (xb D k o a a' C)) w→Region.wanted o (yielded ops cv.tmps)=true→∃a' C' cv',Kx a' C' w∧Inv P D ops N ds listed c w (YK S k) C' a' cv':=by
  intro hden hwant;obtain⟨s,h1,h2,h3⟩:=FM T hkind (λh=>(B.rd k o ho h).1) hd I.ok hden;have hok1:ok (a.put o.dst (some s)) (cv.put o.dst s.toV):=qW I.ok hd (λx hx=>by cases hx;rfl);have hpend:∀C',(∀ch,zN D o.op=1→Yo o a (a.put o.dst (some s))=some ch→(k,ch)∈C')→fZ P D ops C' (cv.put o.dst s.toV) k o:=by
   intro C' hC';refine⟨hkind,λw' hch c' hc'=>.inl ?_⟩;have hr':=ownr c' _ hc';obtain⟨v,hr,hv⟩:=h3 w' (λh ch hm=>hch ch (hC' ch h hm));refine⟨by rw[JD hr'];exact hwant,v,by rw[vF (B.nd k o ho).2 hr'];exact hr,λd hdd=>?_⟩;rw[JS hdd (hd d hdd),hv d hdd]
  by_cases hk1:zN D o.op=1
  ·have hg:=(B.rd k o ho hk1).2;unfold qp at h1;rw[hgs,hg]at h1;simp only[cond]at h1;refine⟨_,_,_,h1,build _ _ _ hok1 ?_ ?_ (hpend _ ?_)⟩
   ·intro x hx;unfold xb;rw[if_pos hk1];split
    ·exact List.mem_cons_of_mem _ hx
    ·exact hx
   ·intro i ch hx;unfold xb at hx;rw[if_pos hk1]at hx;split at hx
    ·rename_i ch' hm
     cases hx with
     | head=>exact .inr (h2 hk1 _ hm)
     | tail _ hx=>exact .inl hx
    ·exact .inl hx
   ·intro ch _ hm;unfold xb;rw[if_pos hk1,hm];exact List.mem_cons_self ..
  ·obtain⟨a',hk2,hok2,_,_⟩:=UR (gs:=gs) (i:=k) (o:=o) (c:=cv) (c':=cv.put o.dst s.toV) (w:=w) ⟨_,h1,hok1,by simp,by simp⟩;have e:xb D k o a a' C=C:=by unfold xb;rw[if_neg hk1]
   rw[e]at hk2;exact⟨a',C,_,hk2,build _ _ _ hok2 (λx hx=>hx) (λi ch hx=>.inl hx) (hpend _ (λch h=>absurd h hk1))⟩
 have skip:Kx (a.put o.dst (QC D o)) (xb D k o a (a.put o.dst (QC D o)) C) w→Region.wanted o (yielded ops cv.tmps)=false→∃a' C' cv',Kx a' C' w∧Inv P D ops N ds listed c w (YK S k) C' a' cv':=by
  intro h hwant;have hok1:ok (a.put o.dst (QC D o)) (cv.put o.dst undef):=VY I.ok hd;refine⟨_,_,_,h,build _ _ undef hok1 ?_ ?_ ?_⟩
  ·intro x hx;unfold xb;split
   ·split
    ·exact List.mem_cons_of_mem _ hx
    ·exact hx
   ·exact hx
  ·intro i ch hx;unfold xb at hx;split at hx
   ·rename_i hk1;have hs:QC D o=none:=by unfold QC;rw[hk1];rfl
    rw[hs]at hx;split at hx
    ·rename_i ch' hm;exfalso
     cases hdst:o.dst with
     | none=>simp[Yo,hdst]at hm
     | some d'=>simp[Yo,hdst,AT.put,yt]at hm
    ·exact .inl hx
   ·exact .inl hx
  ·refine⟨hkind,λw' hch c' hc'=>.inr ⟨by rw[JD (ownr c' _ hc')];exact hwant,λd hdd=>JS hdd (hd d hdd)⟩⟩
 unfold KA at h
 cases hg:o.guard with
 | none=>
  rw[hg]at h;exact run h (by simp[Region.wanted,hg])
 | some q=>
  obtain⟨j,want⟩:=q;rw[hg]at h;dsimp only at h
  cases hj:(nth ops.toList j).bind (·.dst) with
  | none=>rw[hj]at h;exact False.elim h
  | some d=>
   rw[hj]at h;dsimp only at h
   cases hget:a.get d with
   | none=>rw[hget]at h;exact False.elim h
   | some s=>
    rw[hget]at h
    cases s with
    | lit b=>
     dsimp only at h;have hy:yielded ops cv.tmps j=some b:=by
      have e1:(ops[j]?).bind (·.dst)=some d:=by rw[←hj,zp,Array.getElem?_toList]
      have e2:=I.ok d _ hget;simp only[yielded,e1,Option.bind_some,e2,oM]
     cases hb:(b == want) with
     | true=>
      rw[hb]at h;exact run h (by simp only[Region.wanted,hg,hy];simpa using hb)
     | false=>
      rw[hb]at h;simp only[cond]at h;exact skip h (by simp only[Region.wanted,hg,hy];simpa using hb)
    | v x=>
     cases x with
     | tuple cs=>
      dsimp only at h;have hy:yielded ops cv.tmps j=none:=by
       have e1:(ops[j]?).bind (·.dst)=some d:=by rw[←hj,zp,Array.getElem?_toList]
       have e2:=I.ok d _ hget;simp only[yielded,e1,Option.bind_some,e2,SV.toV]
      exact skip h (by simp only[Region.wanted,hg,hy];rfl)
     | _=>exact False.elim h
    | _=>exact False.elim h
end
end Go.Dm
namespace Go.Dm
section
variable {P:Program}{D:Tb}{w w':World}{a:AT}{c cv:Act}{o:Oper}{K:AT→PT}{Q:Exit→Act→World→Prop}{ro:Option Nat}{ops:Array Oper}{sm:Bool}
def Oc{S:List (Nat×Oper)}{C:List (Nat×Chk)}{gs:GS}{ms:List Nat}:∀(n:Nat){a:AT},yG P D ops.toList gs ms n S C a K w→Yg D S S=none→
  (S = []∧K a w)∨∃m,n=m+1∧S≠[]∧oB ((S.filter λx=>JK S x.2).map λx=>KA P D ops.toList gs x.1 x.2 a λa'=>XZ P (Yf ms x.1) C (yG P D ops.toList gs ms m (YK S x.1) C a' K)) w
 | 0,a,h,_=>by
  simp only[yG]at h
  cases S with
  | nil=>exact .inl ⟨rfl,h⟩
  | cons x S=>exact False.elim h
 | n+1,a,h,hf=>by
  simp only[yG,hf]at h
  cases S with
  | nil=>exact .inl ⟨rfl,h⟩
  | cons x S=>exact .inr ⟨n,rfl,by simp,h⟩
def Up(T:YF P D)(B:vS D ops){N:Nat}{ds:List Deferred}{listed:Array Bool}(hN:∀(i:Nat)(o:Oper),ops[i]? = some o→∀t,o.dst=some t→t<N) :
  ∀(n:Nat)(S:List (Nat×Oper))(C:List (Nat×Chk))(a:AT)(cv:Act),Inv P D ops N ds listed c w S C a cv→yG P D ops.toList ⟨ZX ops.toList,sm⟩ (ye ops.toList []) n S C a K w→
   ∃n' S' C' a' cv',Inv P D ops N ds listed c w S' C' a' cv'∧yG P D ops.toList ⟨ZX ops.toList,sm⟩ (ye ops.toList []) n' S' C' a' K w∧(Yg D S' S'=none)
 | 0,S,C,a,cv,I,h=>by
  simp only[yG]at h
  cases S with
  | nil=>exact⟨0,[],C,a,cv,I,h,rfl⟩
  | cons x S=>exact False.elim h
 | n+1,S,C,a,cv,I,h=>by
  cases hf:Yg D S S with
  | none=>exact⟨n+1,S,C,a,cv,I,h,hf⟩
  | some x=>
   obtain⟨i,o⟩:=x;obtain⟨h1,h2,h3⟩:=Xz hf;simp only[yG,hf]at h;obtain⟨a',C',cv',hk,I'⟩:=KP T B rfl (Kx:=λa' C'=>yG P D ops.toList ⟨ZX ops.toList,sm⟩ (ye ops.toList []) n (YK S i) C' a' K) hN I h1 h2 h3 h;exact Up T B hN n _ C' a' cv' I' hk
def KF:∀{l:List PT}{x:PT},L.alts l w→x∈l→x w
 | y::l,x,h,hx=>by
  cases hx with
  | head=>exact h.1
  | tail _ hx=>exact KF h.2 hx
def oA:∀{l:List PT}{x:PT},oB l w→x∈l→x w
 | [y],x,h,hx=>by simp at hx;subst hx;exact h
 | y::z::l,x,h,hx=>KF h hx
def qy{m:Nat}{k:PT}:∀{C:List (Nat×Chk)},XZ P m C k w→k w∧∀r ch,(r,ch)∈C→m.testBit r=false→Yr P ch w
 | [],h=>⟨h,λ_ _ h=>by cases h⟩
 | (r,ch)::C,h=>by
  simp only[XZ]at h;split at h
  ·rename_i hb;obtain⟨h1,h2⟩:=qy h;refine⟨h1,λr' ch' hm hb'=>?_⟩
   cases hm with
   | head=>rw[hb]at hb';cases hb'
   | tail _ hm=>exact h2 r' ch' hm hb'
  ·cases ch with
   | ld a cs=>
    obtain⟨h0,h⟩:=h;obtain⟨h1,h2⟩:=qy h;refine⟨h1,λr' ch' hm hb'=>?_⟩
    cases hm with
    | head=>exact h0
    | tail _ hm=>exact h2 r' ch' hm hb'
   | sm s v=>
    obtain⟨h0,h⟩:=h;obtain⟨h1,h2⟩:=qy h;refine⟨h1,λr' ch' hm hb'=>?_⟩
    cases hm with
    | head=>exact h0
    | tail _ hm=>exact h2 r' ch' hm hb'
def Uk(listed:Array Bool):Nat:=listed.toList.countP λb=>!b
def OE{listed:Array Bool}{i:Nat}(h:listed.getD i true=false):Uk (listed.setIfInBounds i true)+1=Uk listed:=by
 have hlt:i<listed.toList.length:=by
  rw[Array.getD_eq_getD_getElem?]at h
  cases hl:listed[i]? with
  | none=>rw[hl]at h;cases h
  | some b=>have:=(Array.getElem?_eq_some_iff.1 hl).1;simpa using this
 have hv:listed.toList[i]=false:=by
  have:listed[i]? = some listed.toList[i]:=by rw[←Array.getElem?_toList];exact List.getElem?_eq_getElem hlt
  rw[Array.getD_eq_getD_getElem?,this]at h;simpa using h
 simp only[Uk,Array.toList_setIfInBounds];have go:∀(l:List Bool)(i:Nat)(hl:i<l.length),l[i]=false→(l.set i true).countP (λb=>!b)+1=l.countP λb=>!b:=by
  intro l
  induction l with
  | nil=>intro i hl;simp at hl
  | cons x l ih=>
   intro i hl hx
   cases i with
   | zero=>simp at hx;subst hx;simp
   | succ i=>
    simp only[List.length_cons,Nat.add_lt_add_iff_right]at hl;simp only[List.getElem_cons_succ]at hx;have:=ih i hl hx;simp only[List.set_cons_succ,List.countP_cons];omega
 exact go _ i hlt hv
def og{listed:Array Bool}(h:Uk listed=0)(i:Nat):listed.getD i true=true:=by
 rw[Array.getD_eq_getD_getElem?]
 cases hl:listed[i]? with
 | none=>rfl
 | some b=>
  simp only[Uk,List.countP_eq_zero]at h;have:b∈listed.toList:=List.mem_of_getElem? (by rw[Array.getElem?_toList];exact hl);have:=h b this;simpa using this
def Vi{listed:Array Bool}{i:Nat}(h:i∈Region.ready .any ops listed):∃o,ops[i]? = some o∧listed.getD i true=false∧∀e∈o.after.toList,Region.binds .any e=true→listed.getD e.on false=true:=by
 unfold Region.ready at h;rw[List.mem_filter]at h;obtain⟨h1,h2⟩:=h;simp only[Bool.and_eq_true,Bool.not_eq_true']at h2
 cases ho:ops[i]? with
 | none=>rw[ho]at h2;simp at h2
 | some o=>
  rw[ho]at h2;refine⟨o,rfl,h2.1,λe he hb=>?_⟩;have h3:=h2.2;simp only[Option.map_some,Option.getD_some,←Array.all_toList]at h3;have:=List.all_eq_true.1 h3 e he;rw[hb]at this;simpa using this
def gf{listed:Array Bool}{i:Nat}(ho:ops[i]? = some o)(hl:listed.getD i true=false)(he:∀e∈o.after.toList,Region.binds .any e=true→listed.getD e.on false=true):i∈Region.ready .any ops listed:=by
 unfold Region.ready;rw[List.mem_filter];refine⟨List.mem_range.2 (Array.getElem?_eq_some_iff.1 ho).1,?_⟩;simp only[Bool.and_eq_true,Bool.not_eq_true',ho,Option.map_some,Option.getD_some,←Array.all_toList];refine⟨hl,List.all_eq_true.2 λe h=>?_⟩
 cases hb:Region.binds .any e with
 | false=>rfl
 | true=>simpa using he e h hb
def oC(B:vS D ops){listed:Array Bool}(hsz:listed.size=ops.size)(h:Region.ready .any ops listed = []):∀i,listed.getD i true=true:=by
 intro i
 induction i using Nat.strongRecOn with
 | _ i ih=>
  cases hl:listed.getD i true with
  | true=>rfl
  | false=>
   exfalso;have hlt:i<ops.size:=by
    rw[←hsz];rw[Array.getD_eq_getD_getElem?]at hl
    cases hl':listed[i]? with
    | none=>rw[hl']at hl;cases hl
    | some b=>exact(Array.getElem?_eq_some_iff.1 hl').1
   have ho:ops[i]? = some ops[i]:=Array.getElem?_eq_getElem hlt;have:=gf ho hl λe he hb=>by
    have h1:=B.lt i _ ho e he hb;have h2:=ih e.on h1;have h3:e.on<listed.size:=by omega
    rw[Array.getD_eq_getD_getElem?]at h2 ⊢;rw[Array.getElem?_eq_getElem h3]at h2 ⊢;exact h2
   rw[h]at this;cases this
def gb{listed:Array Bool}{i j:Nat}:(listed.setIfInBounds i true).getD j true=if i=j then true else listed.getD j true:=by
 simp only[Array.getD_eq_getD_getElem?,Array.getElem?_setIfInBounds];by_cases h:i=j
 ·subst h;simp only[if_true];by_cases hlt:i<listed.size<;>simp[hlt]
 ·simp[h]
def UT{listed:Array Bool}{i j:Nat}(h:listed.getD j false=true):(listed.setIfInBounds i true).getD j false=true:=by
 simp only[Array.getD_eq_getD_getElem?,Array.getElem?_setIfInBounds]at *
 by_cases e:i=j
 ·subst e;by_cases hlt:i<listed.size
  ·simp[hlt]
  ·simp[hlt]at h
 ·simpa [e]using h
def ga{listed:Array Bool}{i j:Nat}(h:(listed.setIfInBounds i true).getD j false=true):i=j∨listed.getD j false=true:=by
 simp only[Array.getD_eq_getD_getElem?,Array.getElem?_setIfInBounds]at *
 by_cases e:i=j
 ·exact .inl e
 ·right;simpa [e]using h
def oo(T:YF P D)(B:vS D ops){N:Nat}{ds:List Deferred}(hN:∀(i:Nat)(o:Oper),ops[i]? = some o→∀t,o.dst=some t→t<N){Fr:Act→Prop}(hFr:∀(i:Nat)(o:Oper) c v,ops[i]? = some o→Fr c→Fr (c.put o.dst v))(hQ:∀c w,Fin K N ds c w→Fr c→Q .normal c w) :
  ∀(f:Nat)(listed:Array Bool)(n:Nat)(S:List (Nat×Oper))(C:List (Nat×Chk))(a:AT)(cv c:Act)(w:World),Fr c→Uk listed≤f→Inv P D ops N ds listed c w S C a cv→
   yG P D ops.toList ⟨ZX ops.toList,sm⟩ (ye ops.toList []) n S C a K w→wpAnyIn (FR ro) 0 P .any ops Q f listed c w:=by
 have fin:∀(listed:Array Bool)(n:Nat)(S:List (Nat×Oper))(C:List (Nat×Chk))(a:AT)(cv c:Act)(w:World),Fr c→Inv P D ops N ds listed c w S C a cv→
   yG P D ops.toList ⟨ZX ops.toList,sm⟩ (ye ops.toList []) n S C a K w→(∀i,listed.getD i true=true)→Q .normal c w:=by
  intro listed n S C a cv c w hfr I h hall;have hS:S = []:=by
   cases S with
   | nil=>rfl
   | cons x S=>
    have:=(I.mem x (List.mem_cons_self ..)).2;rw[hall]at this;cases this
  subst hS;have hk:K a w:=by
   rcases Oc n h rfl with ⟨_,h⟩ | ⟨_,_,h,_⟩
   ·exact h
   ·exact absurd rfl h
  refine hQ c w ⟨a,hk,λt s ht=>?_,I.szc,I.dfc⟩ hfr;rw[I.agree t λi o _ _ hl=>by rw[hall]at hl;cases hl];exact I.ok t s ht
 intro f
 induction f with
 | zero=>
  intro listed n S C a cv c w hfr hf I h;have hall:=og (Nat.le_zero.1 hf);refine⟨?_,fin listed n S C a cv c w hfr I h hall⟩
  cases hr:Region.ready .any ops listed with
  | nil=>rfl
  | cons i r=>
   obtain⟨o,_,hl,_⟩:=Vi (ops:=ops) (listed:=listed) (i:=i) (by rw[hr];exact List.mem_cons_self ..);rw[hall]at hl;cases hl
 | succ f ih=>
  intro listed n S C a cv c w hfr hf I h;refine⟨λhr=>fin listed n S C a cv c w hfr I h (oC B I.size hr),λi hi=>?_⟩;obtain⟨o,ho,hl,hed⟩:=Vi hi;have hcnt:Uk (listed.setIfInBounds i true)≤f:=by have:=OE hl;omega
  have hd:Dst o c:=λt ht=>by rw[I.szc];exact hN i o ho t ht
  obtain⟨n',S',C',a',cv',I',h',hfa⟩:=Up T B hN n S C a cv I h;clear I h;have hdv:Dst o cv':=λt ht=>by rw[I'.szv];exact hN i o ho t ht
  have hancL:∀r,(Yf (ye ops.toList []) i).testBit r=true→listed.getD r true=false→False:=by
   intro r hr hlr;have:=I'.ancL (i:=i) (λu hu e he hb=>by rw[ho]at hu;cases hu;exact hed e he hb) hr;rw[Vu hlr]at this;cases this
  have hreads:∀t∈yb ops.toList o,c.tmps[t]? = cv'.tmps[t]? :=by
   intro t ht;refine I'.agree t λj u hu hjS hjl hdst=>?_;obtain⟨hkj,_⟩:=I'.pend j u hu hjS hjl;by_cases hij:i=j
   ·subst hij;rw[ho]at hu;cases hu;exact B.own i o t ho hdst hkj ht
   ·exact hancL j ((B.low j u t i o hu hdst ho (λe=>hij e.symm) hkj).1 ht) hjl
  have newL:∀{j:Nat},(listed.setIfInBounds i true).getD j true=false→j≠i∧listed.getD j true=false:=by
   intro j hj;rw[gb]at hj;by_cases e:i=j
   ·rw[if_pos e]at hj;cases hj
   ·rw[if_neg e]at hj;exact⟨λh=>e h.symm,hj⟩
  have closL':∀(j:Nat)(u:Oper),ops[j]? = some u→(listed.setIfInBounds i true).getD j false=true→∀e∈u.after.toList,Region.binds .any e=true→(listed.setIfInBounds i true).getD e.on false=true:=by
   intro j u hu hj e he hb;rcases ga hj with e1 | hj
   ·subst e1;rw[ho]at hu;cases hu;exact UT (hed e he hb)
   ·exact UT (I'.closL j u hu hj e he hb)
  unfold wpOpIn;simp only[ho];by_cases hiS:∀x∈S',x.1≠i
  ·
   obtain⟨hki,hp⟩:=I'.pend i o ho hiS hl;have step:∀v,(∀d,o.dst=some d→cv'.tmps[d]? = some v)→wpAnyIn (FR ro) 0 P .any ops Q f (listed.setIfInBounds i true) (c.put o.dst v) w:=by
    intro v hv;refine ih _ n' S' C' a' cv' _ w (hFr i o c v ho hfr) hcnt ⟨λx hx=>?_,by simp[I'.size],closL',I'.closV,I'.ok,by simp[I'.szc],I'.szv,by simp[I'.dfc],I'.dfv,λj u hu hj hjl=>I'.pend j u hu hj (newL hjl).2,λj ch hc hjl=>I'.chk j ch hc (newL hjl).2,λt ht=>?_⟩ h'
    ·have:=I'.mem x hx;refine⟨this.1,?_⟩;rw[gb,if_neg (λe=>hiS x hx e.symm)];exact this.2
    ·by_cases e:o.dst=some t
     ·rw[JS e (hd t e),hv t e]
     ·rw[yJ (d:=0) e];refine I'.agree t λj u hu hj hjl hdst=>?_;by_cases hij:i=j
      ·subst hij;rw[ho]at hu;cases hu;exact e hdst
      ·exact ht j u hu hj (by rw[gb,if_neg hij];exact hjl) hdst
   rcases hp w (λch hc=>I'.chk i ch hc hl) c hreads with ⟨hw,v,hr,hv⟩ | ⟨hw,hv⟩
   ·rw[if_pos hw];exact Xk (B.nd i o ho).1 (.inl ⟨v,w,hr,step v hv⟩)
   ·rw[if_neg (by simp[hw])];exact⟨λ_ _=>trivial,step undef hv⟩
  ·
   have hmem:(i,o)∈S':=by
    have:∃x∈S',x.1=i:=Classical.byContradiction λhn=>hiS λx hx e=>hn ⟨x,hx,e⟩;obtain⟨x,hx,hxi⟩:=this;have h1:=(I'.mem x hx).1;obtain⟨x1,x2⟩:=x;simp only at hxi h1;subst hxi;rw[ho]at h1;cases h1;exact hx
   have hav:JK S' o=true:=qb.2 λe he hb x hx hxe=>by
    have h1:=(I'.mem x hx).2;have h2:=hed e he hb;rw[hxe]at h1;rw[Vu h1]at h2;cases h2
   have hki:=XA hfa (i,o) hmem hav;rcases Oc n' h' hfa with ⟨hS,_⟩ | ⟨m,_,_,halt⟩
   ·rw[hS]at hmem;cases hmem
   have hden:=oA halt (List.mem_map.2 ⟨(i,o),List.mem_filter.2 ⟨hmem,hav⟩,rfl⟩);dsimp only at hden
   have step:∀v w',Nx (λa''=>XZ P (Yf (ye ops.toList []) i) C' (yG P D ops.toList ⟨ZX ops.toList,sm⟩ (ye ops.toList []) m (YK S' i) C' a'' K)) cv' (cv'.put o.dst v) w'→
     wpAnyIn (FR ro) 0 P .any ops Q f (listed.setIfInBounds i true) (c.put o.dst v) w':=by
    rintro v w' ⟨a'',hk,hok,-,-⟩;obtain⟨hk,hch⟩:=qy hk;have back:∀{j:Nat},j≠i→(∀x∈YK S' i,x.1≠j)→∀x∈S',x.1≠j:=λhji hj x hx e=>hj x (ZR.2 ⟨hx,λe2=>hji (e.symm.trans e2)⟩) e;have nanc:∀{j:Nat}{u:Oper},ops[j]? = some u→(∀x∈S',x.1≠j)→(Yf (ye ops.toList []) j).testBit i=true→False:=λhu hj hm=>
     I'.anc hu hj hm _ hmem rfl
    refine ih _ m (YK S' i) C' a'' (cv'.put o.dst v) _ w' (hFr i o c v ho hfr) hcnt ⟨λx hx=>?_,by simp[I'.size],closL',?_,hok,by simp[I'.szc],by simp[I'.szv],by simp[I'.dfc],by simp[I'.dfv],?_,?_,?_⟩ hk
    ·obtain⟨hx,hxi⟩:=ZR.1 hx;have:=I'.mem x hx;refine⟨this.1,?_⟩;rw[gb,if_neg (λe=>hxi e.symm)];exact this.2
    ·intro j u hu hj e he hb x hx;by_cases hji:j=i
     ·subst hji;rw[ho]at hu;cases hu;exact qb.1 hav e he hb x (ZR.1 hx).1
     ·exact I'.closV j u hu (back hji hj) e he hb x (ZR.1 hx).1
    ·intro j u hu hj hjl;obtain⟨hji,hjl⟩:=newL hjl;have hjS:=back hji hj;obtain⟨hkj,hpj⟩:=I'.pend j u hu hjS hjl;refine⟨hkj,λw1 hc1 c1 hr1=>?_⟩;have hreads1:∀t∈yb ops.toList u,c1.tmps[t]? = cv'.tmps[t]? :=by
      intro t ht;rw[hr1 t ht];refine yJ (d:=0) λe=>?_;rcases B.high i o t j u ho e hu (λe=>hji e.symm) hki ht with hm | hm
      ·exact nanc hu hjS hm
      ·exact hancL j hm hjl
     have hdst:∀d,u.dst=some d→(cv'.put o.dst v).tmps[d]? = cv'.tmps[d]? :=λd hdd=>yJ (d:=0) λe=>
      (B.low j u d i o hu hdd ho hji hkj).2 e
     rcases hpj w1 hc1 c1 hreads1 with ⟨hw,y,hr,hy⟩ | ⟨hw,hy⟩
     ·exact .inl ⟨hw,y,hr,λd hdd=>by rw[hdst d hdd];exact hy d hdd⟩
     ·exact .inr ⟨hw,λd hdd=>by rw[hdst d hdd];exact hy d hdd⟩
    ·intro j ch hc hjl;obtain⟨hji,hjl⟩:=newL hjl;refine hch j ch hc ?_
     cases hm:(Yf (ye ops.toList []) i).testBit j with
     | false=>rfl
     | true=>exact(hancL j hm hjl).elim
    ·intro t ht;by_cases e:o.dst=some t
     ·rw[JS e (hd t e),JS e (hdv t e)]
     ·rw[yJ (d:=0) e,yJ (d:=0) e];refine I'.agree t λj u hu hj hjl hdst=>?_;have hji:j≠i:=λe2=>hj _ hmem e2.symm;exact ht j u hu (λx hx=>hj x (ZR.1 hx).1) (by rw[gb,if_neg (λe=>hji e.symm)];exact hjl) hdst
   rcases Od T I'.ok hdv hden with ⟨hw,hnd,hop⟩ | ⟨hw,hn⟩
   ·rw[JD (ops:=ops) (λt ht=>(hreads t ht))];rw[if_pos hw];exact Xk hnd (hop.turn (vF (B.nd i o ho).2 hreads) λv w' hv=>step v w' hv)
   ·rw[JD (ops:=ops) (λt ht=>(hreads t ht))];rw[if_neg (by simp[hw])];exact⟨λ_ _=>trivial,step undef w hn⟩
end
end Go.Dm
namespace Go.Dm
def JX(l:List Nat):List Deferred:=l.map λd=>{ target:=.collected d,args:=#[] }
def inB(N:Nat):Code→Bool
 | .region _ ops _=>ops.toList.all λo=>match o.dst with | some d=>Nat.blt d N | none=>true
 | .seq a b=>inB N a&&inB N b
 | .cond _ a b=>inB N a&&inB N b
 | .block _ b=>inB N b
 | .loop b=>inB N b
 | .rangeFunc _ ps a b=>ps.toList.all (λt=>Nat.blt t N)&&inB N a&&inB N b
 | _=>true
def XK(K:X→AT→List Nat→PT)(a:AT)(ds:List Nat):Exit→PT
 | .normal=>K .normal a ds
 | .exit id=>K (.exit id) a ds
 | .goto l=>K (.goto l) a ds
 | .ret=>K .ret a ds
 | _=>bad
section
variable {P:Program}{D:Tb}{w w':World}{a:AT}{c c0:Act}{o:Oper}{ro:Option Nat}{ops:Array Oper}{sm:Bool}
def Vd(x:Code)(K:X→AT→List Nat→PT)(N:Nat)(c0:Act):Exit→Act→World→Prop:=λe c w=>
 ∃a ds,XK K a ds e w∧ok a c∧c.tmps.size=N∧c.defers=JX ds∧(∀t,t∉JJ x→c.tmps[t]? = c0.tmps[t]?)∧(zV x=false→c.defers=c0.defers)
def OU:∀{l:Lf}{s:SV}{x:l.T},l.un s=some x→l.val x=s.toV:=by
 intro l s x h
 cases l with
 | int k=>cases s with
  | v y=>cases y with
   | int k' n=>
    simp only[Lf.un]at h;by_cases e:k'=k
    ·subst e;simp at h;subst h;rfl
    ·rw[if_neg e]at h;cases h
   | _=>cases h
  | _=>cases h
 | bool=>cases s with
  | lit b=>cases h;rfl
  | v y=>cases y<;>first | (cases h;rfl) | cases h
  | _=>cases h
 | adr=>cases s with
  | v y=>cases y with
   | pointer p=>cases p with
    | none=>cases h
    | some a=>cases h;rfl
   | _=>cases h
  | _=>cases h
 | iface=>cases s with
  | ifc p=>cases h;rfl
  | v y=>cases y<;>first | (cases h;rfl) | cases h
  | _=>cases h
 | _=>cases s with
  | v y=>cases y<;>first | (cases h;rfl) | cases h
  | _=>cases h
def oL:∀{ls:List Lf}{cs:List Value}{x:HT ls},unH ls cs=some x→HV ls x=cs
 | [],[],x,h=>rfl
 | [],_::_,x,h=>by cases h
 | _::_,[],x,h=>by cases h
 | l::ls,v::vs,x,h=>by
  simp only[unH]at h
  cases h1:l.un (.v v) with
  | none=>rw[h1]at h;cases h
  | some p=>cases h2:unH ls vs with
   | none=>rw[h1,h2]at h;cases h
   | some q=>
    rw[h1,h2]at h;cases h;simp only[HV,oL h2,OU h1,SV.toV]
def ou:∀(e:E1)(x:e.T),(e.sv x).toV=e.val x
 | .agg _,_=>rfl
 | .one (.int _),_ | .one .bool,_ | .one .str,_ | .one .ptr,_ | .one .slice,_ | .one .map,_ | .one .func,_ | .one .iface,_ | .one .adr,_=>rfl
def gL:∀{e:E1}{s:SV}{x:e.T},e.un s=some x→(e.sv x).toV=s.toV:=by
 intro e s x h
 cases e with
 | one l=>rw[ou];exact OU h
 | agg ls=>cases s with
  | ag cs=>simp only[E1.un]at h;rw[ou];simp only[E1.val,oL h,SV.toV]
  | _=>cases h
def xa{a':AT}:∀{J:List (Nat×E1)}{z:TJ J}{b:AT},jo J a'=some z→ok a' c→ok b c→ok (place J z b) c
 | [],z,b,h,_,hb=>hb
 | x::r,z,b,h,ha,hb=>by
  simp only[jo]at h
  cases h1:(a'.get x.1).bind x.2.un with
  | none=>rw[h1]at h;cases h
  | some p=>cases h2:jo r a' with
   | none=>rw[h1,h2]at h;cases h
   | some q=>
    rw[h1,h2]at h;cases h
    cases hs:a'.get x.1 with
    | none=>rw[hs]at h1;cases h1
    | some s=>
     rw[hs]at h1;refine UG (xa h2 ha hb) ?_;rw[ha _ _ hs];simp only[Option.bind_some]at h1;rw[gL h1]
def vo:∀{Dl:List Nat}{a:AT}{t:Nat}{s:SV},(kill Dl a).get t=some s→t∉Dl∧a.get t=some s
 | Dl,[],t,s,h=>by cases h
 | Dl,x::r,t,s,h=>by
  simp only[kill]at h
  cases hm:XH x.1 Dl with
  | true=>
   rw[hm]at h;obtain⟨h1,h2⟩:=vo (a:=r) h;refine⟨h1,?_⟩;obtain⟨x1,x2⟩:=x;rw[yt,if_neg (λe=>h1 (by subst e;exact JW.1 hm))];exact h2
  | false=>
   rw[hm]at h;obtain⟨x1,x2⟩:=x;simp only[cond]at h;rw[yt]at h ⊢;by_cases e:x1=t
   ·subst e;rw[if_pos rfl]at h ⊢;exact⟨λhm2=>(by rw[JW.2 hm2]at hm;cases hm),h⟩
   ·rw[if_neg e]at h ⊢;exact vo h
def UF{Dl:List Nat}(h:ok a c0)(hf:∀t,t∉Dl→c.tmps[t]? = c0.tmps[t]?):ok (kill Dl a) c:=by
 intro t s hs;obtain⟨h1,h2⟩:=vo hs;rw[hf t h1];exact h t s h2
def vg{d:Nat}:∀{l:List Oper},o∈l→o.dst=some d→d∈Jp l
 | x::l,h,hd=>by
  simp only[Jp]
  cases h with
  | head=>rw[hd];exact List.mem_cons_self ..
  | tail _ h=>
   have:=vg h hd
   cases x.dst with
   | none=>exact this
   | some e=>exact List.mem_cons_of_mem _ this
def QE(c0:Act):∀(i:Nat)(o:Oper)(c:Act)(v:Value),ops[i]? = some o→(∀t,t∉Jp ops.toList→c.tmps[t]? = c0.tmps[t]?)→∀t,t∉Jp ops.toList→(c.put o.dst v).tmps[t]? = c0.tmps[t]? :=by
 intro i o c v ho h t ht;rw[yJ (d:=0),h t ht];intro e;exact ht (vg (List.mem_of_getElem? (by rw[Array.getElem?_toList];exact ho)) e)
def oW{N id:Nat}{dr:Bool}(h:inB N (.region id ops dr)=true):∀(i:Nat)(o:Oper),ops[i]? = some o→∀t,o.dst=some t→t<N:=by
 intro i o ho t ht;have:=List.all_eq_true.1 h o (List.mem_of_getElem? (by rw[Array.getElem?_toList];exact ho));rw[ht]at this;dsimp only at this
 rwa [Nat.blt_eq]at this
def OC{l:List Oper}:(Yb 0 l).map (·.1)=List.range l.length:=by
 rw[UX,List.range_eq_range']
def KS(T:YF P D){K:AT→PT}{N:Nat}{ds:List Nat}{id:Nat}{Q:Exit→Act→World→Prop}(hin:inB N (.region id ops false)=true)(h:vI P D ops.toList ⟨ZX ops.toList,sm⟩ (Yb 0 ops.toList) a K w)
  (hok:ok a c) (hN:c.tmps.size=N) (hds:c.defers=JX ds)
  (hQ:∀c' w',Fin K N (JX ds) c' w'→(∀t,t∉Jp ops.toList→c'.tmps[t]? = c.tmps[t]?)→Q .normal c' w'):(Code.region id ops false).wpIn (FR ro) 0 P Q c w:=by
 refine wpIn_region ?_
 have:=VD (ro:=ro) T (Q:=Q) (Fr:=λc'=>∀t,t∉Jp ops.toList→c'.tmps[t]? = c.tmps[t]?) (QE c) hQ (Yb 0 ops.toList) a c w (λ_ _=>rfl)
  (λx hx=>by have:=(jI _ _ _ hx).2;rw[Nat.sub_zero,Array.getElem?_toList]at this;exact this)
  (λx hx=>by have:=(jI _ _ _ hx).2;rw[Nat.sub_zero,Array.getElem?_toList]at this;exact oW hin _ _ this) h hok hN hds
 rw[OC]at this;simpa using this
def Uo(T:YF P D){K:AT→PT}{N:Nat}{ds:List Nat}{id:Nat}{Q:Exit→Act→World→Prop}(hin:inB N (.region id ops true)=true)(B:uL D ops.toList (ye ops.toList [])=true)
  (h:L.draw (yG P D ops.toList ⟨ZX ops.toList,sm⟩ (ye ops.toList []) ops.toList.length (Yb 0 ops.toList) [] a K) w)
  (hok:ok a c) (hN:c.tmps.size=N) (hds:c.defers=JX ds)
  (hQ:∀c' w',Fin K N (JX ds) c' w'→(∀t,t∉Jp ops.toList→c'.tmps[t]? = c.tmps[t]?)→Q .normal c' w'):(Code.region id ops true).wpIn (FR ro) 0 P Q c w:=by
 have B':=ON B;refine wpIn_region_any T.mixed (oo T B' (oW hin) (Fr:=λc'=>∀t,t∉Jp ops.toList→c'.tmps[t]? = c.tmps[t]?) (QE c) hQ ops.size _ ops.toList.length (Yb 0 ops.toList) [] a c c _ (λ_ _=>rfl) ?_ ?_ h)
 ·simp only[Uk,Array.toList_replicate];have:=List.countP_le_length (p:=λb=>!b) (l:=List.replicate ops.size false);simpa using this
 ·refine⟨λx hx=>?_,by simp,?_,?_,hok,hN,hN,hds,hds,?_,?_,?_⟩
  ·have:=(jI _ _ _ hx).2;rw[Nat.sub_zero,Array.getElem?_toList]at this;refine⟨this,?_⟩;have hlt:=(Array.getElem?_eq_some_iff.1 this).1;rw[Array.getD_eq_getD_getElem?];simp[hlt]
  ·intro i u hu hl;rw[Array.getD_eq_getD_getElem?]at hl;by_cases hlt:i<ops.size<;>simp[hlt]at hl
  ·intro i u hu hi;exact absurd rfl (hi (i,u) (by have:=Xr (k:=0) (l:=ops.toList) (i:=i) (o:=u) (by rw[Array.getElem?_toList];exact hu);rw[Nat.zero_add]at this;exact this))
  ·intro i u hu hi;exact absurd rfl (hi (i,u) (by have:=Xr (k:=0) (l:=ops.toList) (i:=i) (o:=u) (by rw[Array.getElem?_toList];exact hu);rw[Nat.zero_add]at this;exact this))
  ·intro i ch h;cases h
  ·intro t _;rfl
end
end Go.Dm
namespace Go.Dm
section
variable {P:Program}{D:Tb}
def jY{K K':X→AT→List Nat→PT}{x y:Code}{N:Nat}{c0 c1:Act}{w:World}{c:Act}{e:Exit}(h:Vd x K N c0 e c w)
  (hK:∀a ds,XK K a ds e w→XK K' a ds e w) (hd:∀t,t∈JJ x→t∈JJ y) (hr:zV y=false→zV x=false)
  (h0:∀t,t∉JJ y→c0.tmps[t]? = c1.tmps[t]?) (h1:zV y=false→c0.defers=c1.defers):Vd y K' N c1 e c w:=by
 obtain⟨a,ds,k,ho,hs,hds,hf,hg⟩:=h;exact⟨a,ds,hK a ds k,ho,hs,hds,λt ht=>by rw[hf t (λhx=>ht (hd t hx)),h0 t ht],λh=>by rw[hg (hr h),h1 h]⟩
def vA:∀(l:List (Tmp×Value))(t:Array Value),(l.foldl (λt x=>t.setIfInBounds x.1 x.2) t).size=t.size
 | [],t=>rfl
 | x::l,t=>by simp[vA l]
def Vw:∀(l:List (Tmp×Value))(t:Array Value)(k:Nat),(∀x∈l,x.1≠k)→(l.foldl (λt x=>t.setIfInBounds x.1 x.2) t)[k]? = t[k]?
 | [],t,k,_=>rfl
 | x::l,t,k,h=>by
  simp only[List.foldl_cons];rw[Vw l _ k (λy hy=>h y (List.mem_cons_of_mem _ hy)),Array.getElem?_setIfInBounds,if_neg (h x (List.mem_cons_self ..))]
def od{x:Nat}{l:List Nat}(h:vb (x::l)=true):x∉l∧vb l=true:=by
 simp only[vb,Bool.and_eq_true,Bool.not_eq_true']at h;exact⟨λhm=>(by rw[JW.2 hm]at h;cases h.1),h.2⟩
def Gd{l:List Nat}{r:List Value}{x:Nat×Value}(h:x∈l.zip r):x.1∈l:=by
 obtain⟨a,b⟩:=x;exact(List.of_mem_zip h).1
def QG{d:List Deferred}{a:AT}:∀{J:List (Nat×E1)}{y:TT (J.map (·.2))}{t:Array Value},vb (J.map (·.1))=true→(∀x∈J,x.1<t.size)→ok a { tmps:=t,defers:=d }→
  ok (place J (den.tjOf J y) a) { tmps:=((J.map (·.1)).zip (TV (J.map (·.2)) y)).foldl (λt x=>t.setIfInBounds x.1 x.2) t,defers:=d }
 | [],y,t,_,_,h=>h
 | x::r,y,t,hn,hlt,h=>by
  obtain⟨h1,h2⟩:=od hn;have hx:=hlt x (List.mem_cons_self ..);intro k s hk;show(((r.map (·.1)).zip (TV (r.map (·.2)) y.2)).foldl (λt x=>t.setIfInBounds x.1 x.2) (t.setIfInBounds x.1 (x.2.val y.1)))[k]? = _;simp only[place,den.tjOf]at hk;rw[yt]at hk;by_cases e:x.1=k
  ·rw[if_pos e]at hk;cases hk;subst e;rw[Vw _ _ _ (λz hz e=>h1 (by show x.1∈_;rw[←e];exact Gd hz))];simp[Array.getElem?_setIfInBounds,hx,ou]
  ·rw[if_neg e]at hk;have hrest:ok (place r (den.tjOf r y.2) (List.filter (λz=>z.1 != x.1) a)) { tmps:=((r.map (·.1)).zip (TV (r.map (·.2)) y.2)).foldl (λt x=>t.setIfInBounds x.1 x.2) (t.setIfInBounds x.1 (x.2.val y.1)),defers:=d }:=by
    refine QG h2 (λz hz=>by simpa using hlt z (List.mem_cons_of_mem _ hz)) ?_;intro k' s' hk';have key:∀(a:AT),AT.get (List.filter (λz=>z.1 != x.1) a) k'=some s'→k'≠x.1∧a.get k'=some s':=by
     intro a
     induction a with
     | nil=>intro h;cases h
     | cons z a ih=>
      intro h;obtain⟨z1,z2⟩:=z;rw[yt];by_cases ez:z1=x.1
      ·subst ez;rw[List.filter_cons_of_neg (by simp)]at h;obtain⟨h1,h2⟩:=ih h;exact⟨h1,by rw[if_neg (λe=>h1 e.symm)];exact h2⟩
      ·rw[List.filter_cons_of_pos (by simpa using ez),yt]at h;by_cases ek:z1=k'
       ·subst ek;rw[if_pos rfl]at h ⊢;exact⟨ez,h⟩
       ·rw[if_neg ek]at h ⊢;exact ih h
    obtain⟨hne,hk2⟩:=key a hk';simp only[Array.getElem?_setIfInBounds,if_neg (λe=>hne (Eq.symm e))];exact h k' s' hk2
   refine hrest k s ?_;have pl:∀(J:List (Nat×E1))(z:TJ J)(a:AT),AT.get (place J z a) k=AT.get (place J z (List.filter (λq=>q.1 != x.1) a)) k:=by
    intro J
    induction J with
    | nil=>
     intro z a;simp only[place]
     induction a with
     | nil=>rfl
     | cons q a ih=>
      obtain⟨q1,q2⟩:=q;by_cases eq:q1=x.1
      ·subst eq;rw[List.filter_cons_of_neg (by simp),yt,if_neg e];exact ih
      ·rw[List.filter_cons_of_pos (by simpa using eq),yt,yt,ih]
    | cons q J ih=>
     intro z a;obtain⟨q1,q2⟩:=q;simp only[place];rw[yt,yt,ih]
   rw[←pl];exact hk
def Fx{J:Nat→Prop}(h:∃n,J n):∃n,J n∧∀m,J m→n≤m:=by
 obtain⟨n,hn⟩:=h
 induction n using Nat.strongRecOn with
 | _ n ih=>
  by_cases h2:∃m,m<n∧J m
  ·obtain⟨m,hm,hj⟩:=h2;exact ih m hm hj
  ·exact⟨n,hn,λm hm=>Nat.le_of_not_lt λhlt=>h2 ⟨m,hlt,hm⟩⟩
def KM{F:Fence}{x:Code}{Q:Exit→Act→World→Prop}{c:Act}{w:World}(J:Nat→Act→World→Prop)(h0:∃n,J n c w)
  (round:∀n c w,J n c w→x.wpIn F 0 P (Exit.then (λc' w'=>∃m,m<n∧J m c' w') Q) c w):(Code.loop x).wpIn F 0 P Q c w:=by
 have pick:∀c w,∃k,(∃n,J n c w)→J k c w∧∀m,J m c w→k≤m:=by
  intro c w;by_cases h:∃n,J n c w
  ·obtain⟨k,hk⟩:=Fx h;exact⟨k,λ_=>hk⟩
  ·exact⟨0,λh'=>absurd h' h⟩
 refine wpIn_loop (λc w=>∃n,J n c w) (λc w=>Classical.choose (pick c w)) h0 λc w h=>?_;obtain⟨h1,h2⟩:=Classical.choose_spec (pick c w) h;refine wpIn_mono (round _ c w h1) ?_;intro e c' w' hq
 cases e with
 | normal=>
  obtain⟨m,hm,hj⟩:=hq;have:=(Classical.choose_spec (pick c' w') ⟨m,hj⟩).2 m hj;exact⟨⟨m,hj⟩,by omega⟩
 | _=>exact hq
def Kl{K:X→AT→List Nat→PT}{a:AT}{ds:List Nat}{id:Nat}{w:World}:∀{E:List Nat},gz id (E.map λi=>(i,K (.exit i) a ds)) w→K (.exit id) a ds w
 | [],h=>h.elim
 | i::E,h=>by
  simp only[List.map_cons,gz]at h;by_cases e:id=i
  ·subst e;rw[if_pos rfl]at h;exact h
  ·rw[if_neg e]at h;exact Kl h
def Gc(P:Program)(D:Tb)(x:Code):Prop:=∀(an:Ann)(ro:Option Nat)(a:AT)(ds:List Nat)(K:X→AT→List Nat→PT)(N:Nat)(w:World)(c:Act),inB N x=true→den P D x an ro a ds K w→ok a c→c.tmps.size=N→c.defers=JX ds→
  x.wpIn (FR ro) 0 P (Vd x K N c) c w
def Um{fv:Value}{args:List Value}{w:World}{R:Value→World→Prop}(h:qf P fv args w R) :
  ∃f first cap,fv = .func (.func f) first cap∧jR P f∧Calls P f (first++args.toArray++cap) w λe w'=>∃v,e = .returned v∧R v w':=by
 unfold qf at h;split at h
 ·exact⟨_,_,_,rfl,h⟩
 ·exact h.elim
def ot(fn:FuncId)(tmps:Array Value)(ps:Array Tmp)(assign body:Code)(w:World):(Instr.enterLoop fn tmps ps assign body (FR none).round).run P w =
  .ok (w.heap.size+1,JX [w.heap.size]) ((w.alloc (.deferred (some []))).alloc (.loop { state:=.ready,pending:=none,fn,tmps,params:=ps,assign,body,defers:=w.heap.size })):=run_enterLoop_outer _ _ _ _ _
def oq{fn:FuncId}{tmps:Array Value}{ps:Array Tmp}{assign body:Code}{w:World}{l0:Nat}{r0:Loop}(h:w.heap[l0]? = some (.loop r0)):(Instr.enterLoop fn tmps ps assign body (FR (some l0)).round).run P w =
  .ok (w.heap.size,JX []) (w.alloc (.loop { state:=.ready,pending:=none,fn,tmps,params:=ps,assign,body,defers:=r0.defers })):=run_enterLoop_inner h _ _ _ _ _
def qM{c:Act}{g:Operand}{l:Nat}{f:FuncId}{first cap:Array Value}{w:World}(h:c.eval g = .func (.func f) first cap) :
  (resolve c.eval (rangeCall g l) 0).run P w = .ok { target:=.fn (.func f) cap,args:=first++[Value.func (.yield l) #[] #[]].toArray } w:=by
 have e:c.eval (.const (.func (.yield l) #[] #[])) = .func (.yield l) #[] #[]:=rfl;simp[resolve,rangeCall,h,Deferred.ofValue,e]
def QO{l:Nat}{f:FuncId}{first cap:Array Value}{w:World}(h:jR P f) :
  (invoke (.fn (.func f) cap) (first++[Value.func (.yield l) #[] #[]].toArray)).run P w = .ok (.enter f (first++[Value.func (.yield l) #[] #[]].toArray++cap)) w:=by
 simp[invoke,h _ _]
def gg{g:Operand}{ps:Array Tmp}{assign body:Code}(iha:Gc P D assign)(ihb:Gc P D body):Gc P D (.rangeFunc g ps assign body):=by
 intro an ro a ds K N w c hin h ho hN hd;simp only[inB,Bool.and_eq_true]at hin;simp only[den]at h
 cases hj:an.j with
 | none=>rw[hj]at h;exact h.elim
 | some J=>
  rw[hj]at h;dsimp only at h;by_cases hps:ps.toList=J.map (·.1)∧vb ps.toList=true
  ·rw[if_pos hps]at h;obtain⟨s,hs,h⟩:=zC h;have he:=ya ho hs;have hlen:∀y:TT (J.map (·.2)),(TV (J.map (·.2)) y).length=ps.size:=by
    have key:∀(es:List E1)(y:TT es),(TV es y).length=es.length:=by
     intro es
     induction es with
     | nil=>intro y;rfl
     | cons e es ih=>intro y;simp[TV,ih]
    intro y;rw[key,List.length_map];have:=congrArg List.length hps.1;simp at this;omega
   have round:∀(l:Nat)(fn:FuncId)(dfs:Nat)(st:LoopState)(pd:Option Code)(y:TT (J.map (·.2)))(w':World)(R:Value→World→Prop),
     w'.heap[l]? = some (.loop { state:=st,pending:=pd,fn,tmps:=c.tmps,params:=ps,assign,body,defers:=dfs })→
     den P D assign an.l (some l) (place J (den.tjOf J y) a) [] (λe a' ds'=>match e with
      | .normal=>L.begin P l (den P D body an.r (some l) a' ds' λe _ _=>match e with
       | .normal=>L.endRound P l none R
       | .ret=>L.endRound P l (some .ret) R
       | .exit id=>L.endRound P l (some (.exit id)) R
       | .goto t=>L.endRound P l (some (.goto t)) R)
      | _=>bad) w'→
     jQ P (.func (.yield l) #[] #[]) (TV (J.map (·.2)) y) w' R:=by
    intro l fn dfs st pd y w' R hl hb;refine⟨rfl,rfl,_,hl,hlen y,?_⟩;refine roundIn_of_wpIn trivial ?_;have hfold:(ps.zip (TV (J.map (·.2)) y).toArray).foldl (λtmps(t,a)=>tmps.setIfInBounds t a) c.tmps=((J.map (·.1)).zip (TV (J.map (·.2)) y)).foldl (λt x=>t.setIfInBounds x.1 x.2) c.tmps:=by
     rw[←Array.foldl_toList,Array.toList_zip,hps.1]
    dsimp only;rw[hfold];have hsz:(((J.map (·.1)).zip (TV (J.map (·.2)) y)).foldl (λt x=>t.setIfInBounds x.1 x.2) c.tmps).size=N:=by rw[vA,hN]
    have hok:ok (place J (den.tjOf J y) a) { tmps:=((J.map (·.1)).zip (TV (J.map (·.2)) y)).foldl (λt x=>t.setIfInBounds x.1 x.2) c.tmps,defers:=[] }:=by
     refine QG (by rw[←hps.1];exact hps.2) (λx hx=>?_) ho;have:x.1∈ps.toList:=by rw[hps.1];exact List.mem_map_of_mem hx
     have:=List.all_eq_true.1 hin.1.1 x.1 this;rw[Nat.blt_eq]at this;rw[hN];exact this
    refine wpIn_mono (iha _ (some l) _ [] _ N w' _ hin.1.2 hb hok hsz rfl) ?_;intro e c1 w1 hq
    cases e with
    | normal=>
     obtain⟨a',ds',hk,ho',hN',hd',hf,hg⟩:=hq;obtain⟨w2,hbr,hk⟩:=hk;refine⟨w2,hbr,wpIn_mono (ihb _ (some l) a' ds' _ N w2 c1 hin.2 hk ho' hN' hd') ?_⟩;intro e c2 w3 hq;obtain⟨a2,ds2,hk,-⟩:=hq
     cases e with
     | normal=>obtain⟨v,w4,hr,hR⟩:=hk;exact⟨v,w4,hr,v,rfl,hR⟩
     | ret=>obtain⟨v,w4,hr,hR⟩:=hk;exact⟨v,w4,hr,v,rfl,hR⟩
     | exit id=>obtain⟨v,w4,hr,hR⟩:=hk;exact⟨v,w4,hr,v,rfl,hR⟩
     | goto t=>obtain⟨v,w4,hr,hR⟩:=hk;exact⟨v,w4,hr,v,rfl,hR⟩
     | _=>exact hk.elim
    | _=>obtain⟨a2,ds2,hk,-⟩:=hq;exact hk.elim
   have after:∀(d:List Nat)(l:Nat)(v:Value)(w2:World),(∃jump w3,(Instr.endLoop l).run P w2 = .ok jump w3∧GW K a (d++ds) (KB (jO body)) jump w3)→
     rangePost (FR ro) 0 P l (Vd (.rangeFunc g ps assign body) K N c) { c with defers:=JX d++c.defers } (.returned v) w2:=by
    rintro d l v w2 ⟨jump,w3,hend,hk⟩;have hpost:∀(e:Exit)(w:World),XK K a (d++ds) e w→Vd (.rangeFunc g ps assign body) K N c e { c with defers:=JX d++c.defers } w:=λe w hk=>
     ⟨a,d++ds,hk,ho,hN,by simp[JX,hd],λ_ _=>rfl,λh=>by simp[zV]at h⟩
    refine⟨jump,w3,hend,?_⟩
    cases jump with
    | none=>exact hpost .normal w3 hk
    | some j=>
     cases j with
     | ret=>exact wpIn_ret (hpost .ret w3 hk)
     | exit id=>exact wpIn_exit (hpost (.exit id) w3 (Kl hk))
     | _=>exact hk.elim
   refine wpIn_rangeFunc λfn _=>?_
   cases ro with
   | none=>
    have h:=h { state:=.ready,pending:=none,fn,tmps:=c.tmps,params:=ps,assign,body,defers:=w.heap.size } rfl rfl
     (λy st pd w' R hl hb=>round _ fn _ st pd y w' R hl hb)
    obtain⟨f,first,cap,hfv,hen,hcall⟩:=Um h
    have hc':CallsIn (FR none) 0 P f _ _ (rangePost (FR none) 0 P (w.heap.size+1) (Vd (.rangeFunc g ps assign body) K N c) { c with defers:=JX [w.heap.size]++c.defers }):=
     Qf (hcall.mono λe w2 ⟨v,he,hk⟩=>by subst he;exact after [w.heap.size] _ v w2 hk)
    exact⟨_,_,_,_,_,_,_,_,ot ..,qM (by rw[he,hfv]),λ_ _=>trivial,QO hen,λh=>by simp[FR]at h,hc'⟩
   | some l0=>
    obtain⟨r0,hl0,h⟩:=h
    have h:=h { state:=.ready,pending:=none,fn,tmps:=c.tmps,params:=ps,assign,body,defers:=r0.defers } rfl rfl
     (λy st pd w' R hl hb=>round _ fn _ st pd y w' R hl hb)
    obtain⟨f,first,cap,hfv,hen,hcall⟩:=Um h
    have hc':CallsIn (FR (some l0)) 0 P f _ _ (rangePost (FR (some l0)) 0 P w.heap.size (Vd (.rangeFunc g ps assign body) K N c) { c with defers:=JX []++c.defers }):=
     Qf (hcall.mono λe w2 ⟨v,he,hk⟩=>by subst he;exact after [] _ v w2 hk)
    exact⟨_,_,_,_,_,_,_,_,oq hl0,qM (by rw[he,hfv]),λ_ _=>trivial,QO hen,λh=>by simp[FR]at h,hc'⟩
  ·rw[if_neg hps]at h;exact h.elim
def fG(T:YF P D):∀(x:Code)(an:Ann)(ro:Option Nat)(a:AT)(ds:List Nat)(K:X→AT→List Nat→PT)(N:Nat)(w:World)(c:Act),inB N x=true→den P D x an ro a ds K w→ok a c→c.tmps.size=N→c.defers=JX ds→
  x.wpIn (FR ro) 0 P (Vd x K N c) c w:=by
 intro x
 induction x with
 | skip=>intro an ro a ds K N w c hin h ho hN hd;exact wpIn_skip ⟨a,ds,h,ho,hN,hd,λ_ _=>rfl,λ_=>rfl⟩
 | label l=>intro an ro a ds K N w c hin h ho hN hd;exact wpIn_label ⟨a,ds,h,ho,hN,hd,λ_ _=>rfl,λ_=>rfl⟩
 | exit id=>intro an ro a ds K N w c hin h ho hN hd;exact wpIn_exit ⟨a,ds,h,ho,hN,hd,λ_ _=>rfl,λ_=>rfl⟩
 | goto l=>intro an ro a ds K N w c hin h ho hN hd;exact wpIn_goto ⟨a,ds,h,ho,hN,hd,λ_ _=>rfl,λ_=>rfl⟩
 | ret=>intro an ro a ds K N w c hin h ho hN hd;exact wpIn_ret ⟨a,ds,h,ho,hN,hd,λ_ _=>rfl,λ_=>rfl⟩
 | refuse s=>intro an ro a ds K N w c hin h;exact h.elim
 | scope b _=>intro an ro a ds K N w c hin h;exact h.elim
 | region id ops draw=>
  intro an ro a ds K N w c hin h ho hN hd
  cases draw with
  | false=>
   simp only[den]at h;exact KS T hin h ho hN hd λc' w' ⟨a',hk,ho',hN',hd'⟩ hf=>⟨a',ds,hk,ho',hN',hd',hf,λ_=>by rw[hd',hd]⟩
  | true=>
   simp only[den]at h
   cases hj:an.j with
   | none=>
    rw[hj]at h;dsimp only at h;by_cases hB:uL D ops.toList (ye ops.toList [])=true
    ·rw[if_pos hB]at h;exact Uo T hin hB h ho hN hd λc' w' ⟨a',hk,ho',hN',hd'⟩ hf=>⟨a',ds,hk,ho',hN',hd',hf,λ_=>by rw[hd',hd]⟩
    ·rw[if_neg hB]at h;exact h.elim
   | some J=>
    rw[hj]at h;dsimp only at h;by_cases hB:uL D ops.toList (ye ops.toList [])=true
    ·rw[if_pos hB]at h;refine Uo T hin hB h ho hN hd λc' w' ⟨a',hk,ho',hN',hd'⟩ hf=>?_;dsimp only at hk
     cases hc:jo J a' with
     | none=>rw[hc]at hk;exact hk.elim
     | some y=>
      rw[hc]at hk;exact⟨_,ds,hk,xa hc ho' (UF ho hf),hN',hd',hf,λ_=>by rw[hd',hd]⟩
    ·rw[if_neg hB]at h;exact h.elim
 | seq x y ihx ihy=>
  intro an ro a ds K N w c hin h ho hN hd;simp only[inB,Bool.and_eq_true]at hin;simp only[den]at h;have dx:∀t,t∈JJ x→t∈JJ (.seq x y):=λt ht=>List.mem_append_left _ ht;have dy:∀t,t∈JJ y→t∈JJ (.seq x y):=λt ht=>List.mem_append_right _ ht;have rx:zV (.seq x y)=false→zV x=false:=λh=>by simp only[zV,Bool.or_eq_false_iff]at h;exact h.1
  have ry:zV (.seq x y)=false→zV y=false:=λh=>by simp only[zV,Bool.or_eq_false_iff]at h;exact h.2
  refine wpIn_seq ?_
  cases hj:an.j with
  | none=>
   rw[hj]at h;dsimp only at h;refine wpIn_mono (ihx _ ro a ds _ N w c hin.1 h ho hN hd) ?_;intro e c' w' hq
   cases e with
   | normal=>
    obtain⟨a',ds',hk,ho',hN',hd',hf,hg⟩:=hq;refine wpIn_mono (ihy _ ro a' ds' K N w' c' hin.2 hk ho' hN' hd') ?_;intro e c2 w2 hq;exact jY hq (λ_ _ h=>h) dy ry (λt ht=>hf t (λhx=>ht (dx t hx))) (λh=>hg (rx h))
   | _=>exact jY hq (λ_ _ h=>h) dx rx (λ_ _=>rfl) (λ_=>rfl)
  | some J=>
   rw[hj]at h;dsimp only at h
   cases hr:zV x with
   | true=>rw[hr]at h;exact h.elim
   | false=>
    rw[hr,if_neg (by simp)]at h;refine wpIn_mono (ihx _ ro a ds _ N w c hin.1 h ho hN hd) ?_;intro e c' w' hq
    cases e with
    | normal=>
     obtain⟨a',ds',hk,ho',hN',hd',hf,hg⟩:=hq;simp only[XK]at hk
     cases hc:jo J a' with
     | none=>rw[hc]at hk;exact hk.elim
     | some z=>
      rw[hc]at hk;refine wpIn_mono (ihy _ ro _ ds K N w' c' hin.2 hk (xa hc ho' (UF ho hf)) hN' (by rw[hg hr,hd])) ?_;intro e c2 w2 hq;exact jY hq (λ_ _ h=>h) dy ry (λt ht=>hf t (λhx=>ht (dx t hx))) (λh=>hg (rx h))
    | _=>exact jY hq (λ_ _ h=>h) dx rx (λ_ _=>rfl) (λ_=>rfl)
 | cond v x y ihx ihy=>
  intro an ro a ds K N w c hin h ho hN hd;simp only[inB,Bool.and_eq_true]at hin;have dx:∀t,t∈JJ x→t∈JJ (.cond v x y):=λt ht=>List.mem_append_left _ ht;have dy:∀t,t∈JJ y→t∈JJ (.cond v x y):=λt ht=>List.mem_append_right _ ht;have rx:zV (.cond v x y)=false→zV x=false:=λh=>by simp only[zV,Bool.or_eq_false_iff]at h;exact h.1
  have ry:zV (.cond v x y)=false→zV y=false:=λh=>by simp only[zV,Bool.or_eq_false_iff]at h;exact h.2
  have L:den P D x an.l ro a ds K w→x.wpIn (FR ro) 0 P (Vd (.cond v x y) K N c) c w:=λh=>wpIn_mono (ihx _ ro a ds K N w c hin.1 h ho hN hd) λe c' w' hq=>jY hq (λ_ _ h=>h) dx rx (λ_ _=>rfl) (λ_=>rfl);have R:den P D y an.r ro a ds K w→y.wpIn (FR ro) 0 P (Vd (.cond v x y) K N c) c w:=λh=>wpIn_mono (ihy _ ro a ds K N w c hin.2 h ho hN hd) λe c' w' hq=>jY hq (λ_ _ h=>h) dy ry (λ_ _=>rfl) (λ_=>rfl);simp only[den]at h
  cases hv:a.ev v with
  | none=>rw[hv]at h;exact h.elim
  | some s=>
   have he:=ya ho hv;rw[hv]at h
   cases s with
   | lit b=>
    cases b with
    | true=>exact wpIn_cond (t:=true) he (L h)
    | false=>exact wpIn_cond (t:=false) he (R h)
   | v q=>
    cases q with
    | bool b=>exact wpIn_cond_split he (λhb=>L (h.1 hb)) (λhb=>R (h.2 hb))
    | _=>exact h.elim
   | _=>exact h.elim
 | block id x ih=>
  intro an ro a ds K N w c hin h ho hN hd;simp only[den]at h;refine wpIn_block (wpIn_mono (ih an ro a ds _ N w c hin h ho hN hd) ?_);intro e c' w' hq
  cases e with
  | exit id'=>
   show if id'=id then _ else _
   by_cases e:id'=id
   ·subst e;rw[if_pos rfl];obtain⟨a',ds',hk,r⟩:=hq;refine⟨a',ds',?_,r⟩;simp only[XK,if_true]at hk;exact hk
   ·rw[if_neg e];obtain⟨a',ds',hk,r⟩:=hq;refine⟨a',ds',?_,r⟩;simp only[XK,if_neg e]at hk;exact hk
  | _=>exact hq
 | loop x ih=>
  intro an ro a ds K N w c hin h ho hN hd;simp only[den]at h
  cases hj:an.j with
  | none=>rw[hj]at h;exact h.elim
  | some J=>
   rw[hj]at h;dsimp only at h
   cases hr:zV x with
   | true=>rw[hr]at h;exact h.elim
   | false=>
    rw[hr,if_neg (by simp)]at h
    cases hc:jo J a with
    | none=>rw[hc]at h;exact h.elim
    | some y0=>
     rw[hc]at h;obtain⟨Inv,⟨n0,h0⟩,hround⟩:=h
     refine KM (λn c' w'=>∃y,Inv n y w'∧ok (place J y (kill (JJ x) a)) c'∧c'.tmps.size=N∧c'.defers=c.defers∧∀t,t∉JJ x→c'.tmps[t]? = c.tmps[t]?)
      ⟨n0,y0,h0,xa hc ho (UF ho λ_ _=>rfl),hN,rfl,λ_ _=>rfl⟩ ?_
     rintro n c1 w1 ⟨y,hi,ho1,hN1,hd1,hf1⟩;refine wpIn_mono (ih _ ro _ ds _ N w1 c1 hin (hround n y w1 hi) ho1 hN1 (by rw[hd1,hd])) ?_;intro e c2 w2 hq
     cases e with
     | normal=>
      obtain⟨a',ds',hk,ho',hN',hd',hf,hg⟩:=hq;simp only[XK]at hk
      cases hc':jo J a' with
      | none=>rw[hc']at hk;exact hk.elim
      | some y'=>
       rw[hc']at hk;obtain⟨m,hm,him⟩:=hk;have hf':∀t,t∉JJ x→c2.tmps[t]? = c.tmps[t]? :=λt ht=>by rw[hf t ht,hf1 t ht]
       exact⟨m,hm,y',him,xa hc' ho' (UF ho hf'),hN',by rw[hg hr,hd1],hf'⟩
     | _=>exact jY hq (λ_ _ h=>h) (λ_ h=>h) (λh=>h) (λt ht=>hf1 t ht) (λ_=>hd1)
 | rangeFunc g ps assign body iha ihb=>intro an ro a ds K N w c hin h ho hN hd;exact gg iha ihb an ro a ds K N w c hin h ho hN hd
end
end Go.Dm
namespace Go.Dm
section
variable {P:Program}{D:Tb}
def ut(tmps:Array Value):ResultVar→Sem Value
 | .tmp t=>pure (tmps.getD t undef)
 | .cell a t=>do loadVar t (←asAddr (tmps.getD a undef))
def KU(fn:Func)(tmps:Array Value):results fn tmps=(do let vs ←fn.results.mapM (ut tmps);pure (if h:vs.size=1 then vs[0]else .tuple vs)):=by
 unfold results;rfl
def uM(T:YF P D){a:AT}{c:Act}{w:World}(ho:ok a c):∀(l:List ResultVar)(K:List Value→PT),Qe D a l K w→∃vs,(l.mapM (ut c.tmps)).run P w = .ok vs w∧K vs w
 | [],K,h=>⟨[],by simp,h⟩
 | .tmp t::r,K,h=>by
  simp only[Qe]at h
  cases hs:a.get t with
  | none=>rw[hs]at h;exact h.elim
  | some s=>
   rw[hs]at h;obtain⟨vs,hr,hk⟩:=uM T ho r _ h;refine⟨s.toV::vs,?_,hk⟩;have:=ho t s hs;simp[List.mapM_cons,ut,Array.getD_eq_getD_getElem?,this,Sem.run_bind,hr]
 | .cell p t::r,K,h=>by
  simp only[Qe]at h;obtain⟨s,hs,h⟩:=zC h;have hp:=ho p s hs
  cases s with
  | v y=>cases y with
   | pointer q=>cases q with
    | none=>exact h.elim
    | some ad=>
     dsimp only at h
     cases hD:D.t t with
     | none=>rw[hD]at h;exact h.elim
     | some ti=>
      obtain⟨td,n,e1,z⟩:=ti;rw[hD]at h
      cases e1 with
      | none=>exact h.elim
      | some e=>
       obtain⟨x,hc,h⟩:=h;obtain⟨vs,hr,hk⟩:=uM T ho r _ h;refine⟨e.val x::vs,?_,hk⟩;have hl:=kS T hD rfl hc;have ha:(asAddr (c.tmps.getD p undef)).run P w = .ok ad w:=by
        rw[Array.getD_eq_getD_getElem?,hp];simp[SV.toV,asAddr]
       rw[Array.getD_eq_getD_getElem?]at ha;simp[List.mapM_cons,ut,Sem.run_bind,ha,hl,hr]
   | _=>exact h.elim
  | _=>exact h.elim
def Oq:∀(vs:List Value),(if h:vs.toArray.size=1 then vs.toArray[0]else .tuple vs.toArray)=VM vs
 | []=>rfl
 | [v]=>rfl
 | _::_::_=>rfl
def uE(T:YF P D){fn:Func}{a:AT}{c:Act}(ho:ok a c){K:Value→PT}:∀(ds:List Nat)(w:World),L.unmark P ds (Qe D a fn.results.toList λvs=>K (VM vs)) w→
  LeavesInM (FR none) 0 P fn c.tmps (λe w'=>∃v,e = .returned v∧K v w') (JX ds) .returning w
 | [],w,h=>by
  obtain⟨vs,hr,hk⟩:=uM T ho _ _ h;refine⟨VM vs,?_,_,rfl,hk⟩;rw[KU,←Oq,Sem.run_bind];have e:fn.results.mapM (ut c.tmps)=(do let l ←fn.results.toList.mapM (ut c.tmps);pure l.toArray):=by
   rw[Array.mapM_eq_mapM_toList];rfl
  rw[e,Sem.run_bind,hr];simp
 | d::ds,w,h=>by
  obtain⟨w',hr,h⟩:=h;exact⟨by simp,.inl ⟨d,w',rfl,hr,uE T ho ds w' h⟩⟩
def okF(n:Nat)(fn:Func):Bool:=match fn.body with
 | some c=>inB fn.ntmps c&&Nat.ble n fn.ntmps
 | none=>false
def KE:∀(args:List SV)(n t:Nat)(s:SV),(Oe n args).get t=some s→n≤t∧(yN args)[t-n]? = some s.toV
 | [],n,t,s,h=>by cases h
 | v::vs,n,t,s,h=>by
  simp only[Oe]at h;rw[yt]at h;by_cases e:n=t
  ·subst e;rw[if_pos rfl]at h;cases h;exact⟨Nat.le_refl _,by simp[yN]⟩
  ·rw[if_neg e]at h;obtain⟨h1,h2⟩:=KE vs (n+1) t s h;refine⟨by omega,?_⟩;have:t-n=(t-(n+1))+1:=by omega
   rw[this];simpa [yN]using h2
def kJ:∀(l:List SV),(yN l).length=l.length
 | []=>rfl
 | _::l=>by simp[yN,kJ l]
def GB(T:YF P D){f:FuncId}{fn:Func}{an:Ann}{args:List SV}{K:Value→PT}{w:World}(hf:P.funcs[f]? = some fn)(hin:okF args.length fn=true)(h:fH P D fn an args K w) :
  Calls P f (yN args).toArray w λe w'=>∃v,e = .returned v∧K v w':=by
 unfold okF at hin;unfold fH at h
 cases hb:fn.body with
 | none=>rw[hb]at h;exact h.elim
 | some c=>
  rw[hb]at h hin;simp only[Bool.and_eq_true,Nat.ble_eq]at hin;dsimp only at h;have h0:CallsIn (FR none) 0 P f (yN args).toArray w λe w'=>∃v,e = .returned v∧K v w':=by
   refine callsIn_of_wp_marks hf hb trivial (wpIn_mono (fG T c an none _ [] _ fn.ntmps w _ hin.1 h ?_ ?_ rfl) ?_)
   ·intro t s hs;obtain⟨_,h2⟩:=KE args 0 t s hs;rw[Nat.sub_zero]at h2;simp only;rw[Array.getElem?_append_left (by simpa using(List.getElem?_eq_some_iff.1 h2).1)];simpa using h2
   ·have:=kJ args;simp;omega
   ·intro e c' w' hq;obtain⟨a',ds',hk,ho',hN',hd',-,-⟩:=hq
    cases e with
    | normal=>show LeavesInM _ _ _ _ _ _ _ _ _;rw[hd'];exact uE T ho' ds' w' hk
    | ret=>show LeavesInM _ _ _ _ _ _ _ _ _;rw[hd'];exact uE T ho' ds' w' hk
    | _=>exact hk.elim
  exact callsIn_wide.1 h0
end
end Go.Dm
