/- What is proved on the way to a statement of the seat, pressed (text AC). No conditions beyond those its theorems state. -/
import Derived.Test.YtofigcbhafkikaaKAB
import Derived.RangeFuncNested
set_option linter.all false
namespace Go.Dm
section
variable {P:Program}{D:Tb}{w w':World}{a:AT}{c cv:Act}{o:Oper}{K:AT→PT}{Q:Exit→Act→World→Prop}{ro:Option Nat}{ops:Array Oper}
structure qK(D:Tb)(ops:Array Oper):Prop where
 lt:∀(i:Nat)(o:Oper),ops[i]? = some o→∀e∈o.after.toList,Region.binds .any e=true→e.on<i
 nd:∀(i:Nat)(o:Oper),ops[i]? = some o→(∀x,o.op≠.defer x)∧∀cs b,o.op≠.select cs b
 rd:∀(i:Nat)(o:Oper),ops[i]? = some o→zz D o.op=1→o.dst.isSome=true∧Jg i (Zf ops.toList)=false
 own:∀(i:Nat)(o:Oper)(d:Nat),ops[i]? = some o→o.dst=some d→zz D o.op<2→d∉ZB ops.toList o
 low:∀(i:Nat)(o:Oper)(d j:Nat)(u:Oper),ops[i]? = some o→o.dst=some d→ops[j]? = some u→i≠j→zz D o.op<2→(d∈ZB ops.toList u→(yb (Zq ops.toList []) j).testBit i=true)∧u.dst≠some d
 high:∀(i:Nat)(o:Oper)(d j:Nat)(u:Oper),ops[i]? = some o→o.dst=some d→ops[j]? = some u→i≠j→¬zz D o.op<2→d∈ZB ops.toList u→(yb (Zq ops.toList []) j).testBit i=true∨(yb (Zq ops.toList []) i).testBit j=true
def vL(h:Jo D ops.toList (Zq ops.toList [])=true):qK D ops:=by
 have main:∀(i:Nat)(o:Oper),ops[i]? = some o→(o.after.toList.all λe=>!Region.binds .any e||decide (e.on<i))=true∧
   (match o.op with | .defer _ | .select _ _=>false | _=>true)=true∧
   (decide (zz D o.op≠1)||(o.dst.isSome&& !Jg i (Zf ops.toList)))=true∧
   (match o.dst with
   | none=>true
   | some d=>(decide (zz D o.op=2)|| !Jg d (ZB ops.toList o))&&(Zm 0 ops.toList).all λy=>i == y.1 ||
    (if zz D o.op<2 then(!Jg d (ZB ops.toList y.2)||(yb (Zq ops.toList []) y.1).testBit i)&& !(y.2.dst == some d)
     else(!Jg d (ZB ops.toList y.2)||(yb (Zq ops.toList []) y.1).testBit i||(yb (Zq ops.toList []) i).testBit y.1)))=true:=by
  intro i o ho;have hm:(i,o)∈Zm 0 ops.toList:=by
   have:=jS (k:=0) (l:=ops.toList) (i:=i) (o:=o) (by rw[Array.getElem?_toList];exact ho);rw[Nat.zero_add]at this;exact this
  have:=List.all_eq_true.1 h (i,o) hm;simp only[Bool.and_eq_true]at this;exact⟨this.1.1.1,this.1.1.2,this.1.2,this.2⟩
 have numb:∀(j:Nat)(u:Oper),ops[j]? = some u→(j,u)∈Zm 0 ops.toList:=λj u hu=>by
  have:=jS (k:=0) (l:=ops.toList) (i:=j) (o:=u) (by rw[Array.getElem?_toList];exact hu);rw[Nat.zero_add]at this;exact this
 refine⟨λi o ho e he hb=>?_,λi o ho=>?_,λi o ho hk=>?_,λi o d ho hd hk=>?_,λi o d j u ho hd hu hij hk=>?_,λi o d j u ho hd hu hij hk hmem=>?_⟩
 ·have:=List.all_eq_true.1 (main i o ho).1 e he;rw[hb]at this;simpa using this
 ·have:=(main i o ho).2.1;refine⟨λx hx=>?_,λcs b hx=>?_⟩<;>rw[hx]at this<;>cases this
 ·have:=(main i o ho).2.2.1;rw[hk]at this;simpa using this
 ·have:=(main i o ho).2.2.2;rw[hd]at this;simp only[Bool.and_eq_true,Bool.or_eq_true,decide_eq_true_eq,Bool.not_eq_true']at this;rcases this.1 with h | h
  ·omega
  ·intro hm;rw[YV.2 hm]at h;cases h
 ·have:=(main i o ho).2.2.2;rw[hd]at this;simp only[Bool.and_eq_true]at this;have:=List.all_eq_true.1 this.2 (j,u) (numb j u hu);simp only[if_pos hk,Bool.or_eq_true,beq_iff_eq,Bool.and_eq_true,Bool.not_eq_true']at this;rcases this with e | ⟨h1,h2⟩
  ·exact absurd e hij
  ·refine⟨λhm=>?_,λe=>?_⟩
   ·rcases h1 with h1 | h1
    ·rw[YV.2 hm]at h1;cases h1
    ·exact h1
   ·rw[e]at h2;simp at h2
 ·have:=(main i o ho).2.2.2;rw[hd]at this;simp only[Bool.and_eq_true]at this;have:=List.all_eq_true.1 this.2 (j,u) (numb j u hu);simp only[if_neg hk,Bool.or_eq_true,beq_iff_eq,Bool.not_eq_true']at this;rcases this with e | ((h1 | h1) | h1)
  ·exact absurd e hij
  ·rw[YV.2 hmem]at h1;cases h1
  ·exact .inl h1
  ·exact .inr h1
def Ky(P:Program)(D:Tb)(ops:Array Oper)(C:List (Nat×Chk))(cv:Act)(i:Nat)(o:Oper):Prop:=
 zz D o.op<2∧∀w',(∀ch,(i,ch)∈C→ym P ch w')→∀c':Act,(∀t∈ZB ops.toList o,c'.tmps[t]? = cv.tmps[t]?)→
  (Region.wanted o (yielded ops c'.tmps)=true∧∃v,(execOp c'.eval o).run P w' = .ok (.value v) w'∧∀d,o.dst=some d→cv.tmps[d]? = some v)∨
  (Region.wanted o (yielded ops c'.tmps)=false∧∀d,o.dst=some d→cv.tmps[d]? = some undef)
structure Inv(P:Program)(D:Tb)(ops:Array Oper)(N:Nat)(ds:List Deferred)(listed:Array Bool)(c:Act)(w:World)(S:List (Nat×Oper))(C:List (Nat×Chk))(a:AT)(cv:Act):Prop where
 mem:∀x∈S,ops[x.1]? = some x.2∧listed.getD x.1 true=false
 size:listed.size=ops.size
 closL:∀(i:Nat)(o:Oper),ops[i]? = some o→listed.getD i false=true→∀e∈o.after.toList,Region.binds .any e=true→listed.getD e.on false=true
 closV:∀(i:Nat)(o:Oper),ops[i]? = some o→(∀x∈S,x.1≠i)→∀e∈o.after.toList,Region.binds .any e=true→∀x∈S,x.1≠e.on
 ok:ok a cv
 szc:c.tmps.size=N
 szv:cv.tmps.size=N
 dfc:c.defers=ds
 dfv:cv.defers=ds
 pend:∀(i:Nat)(o:Oper),ops[i]? = some o→(∀x∈S,x.1≠i)→listed.getD i true=false→Ky P D ops C cv i o
 chk:∀(i:Nat)(ch:Chk),(i,ch)∈C→listed.getD i true=false→ym P ch w
 agree:∀t,(∀(i:Nat)(o:Oper),ops[i]? = some o→(∀x∈S,x.1≠i)→listed.getD i true=false→o.dst≠some t)→c.tmps[t]? = cv.tmps[t]?
def Zl{S:List (Nat×Oper)}{i:Nat}{x:Nat×Oper}:x∈zS S i↔x∈S∧x.1≠i:=by
 simp[zS,List.mem_filter]
def Jt{S:List (Nat×Oper)}:yt S o=true↔∀e∈o.after.toList,Region.binds .any e=true→∀x∈S,x.1≠e.on:=by
 unfold yt;rw[List.all_eq_true];constructor
 ·intro h e he hb x hx hxe;have:=h e he;rw[hb]at this;simp only[Bool.not_true,Bool.false_or,Bool.not_eq_true']at this;have h2:=List.any_eq_false.1 this x hx;simp[hxe]at h2
 ·intro h e he
  cases hb:Region.binds .any e with
  | false=>rfl
  | true=>
   simp only[Bool.not_true,Bool.false_or,Bool.not_eq_true'];refine List.any_eq_false.2 λx hx=>?_;have:=h e he hb x hx;simpa using this
def YB{S0:List (Nat×Oper)}:∀{S:List (Nat×Oper)}{x:Nat×Oper},ZN D S0 S=some x→x∈S∧yt S0 x.2=true∧zz D x.2.op<2
 | [],x,h=>by cases h
 | y::S,x,h=>by
  simp only[ZN]at h;split at h
  ·rename_i hc
   cases h
   simp only[Bool.and_eq_true,decide_eq_true_eq]at hc;exact⟨List.mem_cons_self ..,hc⟩
  ·obtain⟨h1,h2⟩:=YB h;exact⟨List.mem_cons_of_mem _ h1,h2⟩
def Jb{S0:List (Nat×Oper)}:∀{S:List (Nat×Oper)},ZN D S0 S=none→∀x∈S,yt S0 x.2=true→¬zz D x.2.op<2
 | [],h,x,hx=>by cases hx
 | y::S,h,x,hx=>by
  simp only[ZN]at h;split at h
  ·cases h
  ·rename_i hc;intro ha hk
   cases hx with
   | head=>exact hc (by simp[ha,hk])
   | tail _ hx=>exact Jb h x hx ha hk
def Ql{l:Array Bool}{i:Nat}(h:l.getD i true=false):l.getD i false=false:=by
 rw[Array.getD_eq_getD_getElem?]at *
 cases hl:l[i]? with
 | none=>rw[hl]at h;cases h
 | some b=>rw[hl]at h;simpa using h
def Inv.anc{N:Nat}{ds:List Deferred}{listed:Array Bool}{S:List (Nat×Oper)}{C:List (Nat×Chk)}(I:Inv P D ops N ds listed c w S C a cv){i r:Nat}{o:Oper}(ho:ops[i]? = some o)(hi:∀x∈S,x.1≠i)
  (hr:(yb (Zq ops.toList []) i).testBit r=true):∀x∈S,x.1≠r:=
 uF (Z:=λj=>∀x∈S,x.1≠j) (λj u hu hj e he hb=>I.closV j u hu hj e he hb) (λu hu e he hb=>I.closV i u hu hi e he hb) hr
def Inv.ancL{N:Nat}{ds:List Deferred}{listed:Array Bool}{S:List (Nat×Oper)}{C:List (Nat×Chk)}(I:Inv P D ops N ds listed c w S C a cv){i r:Nat}
  (hi:∀u,ops[i]? = some u→∀e∈u.after.toList,Region.binds .any e=true→listed.getD e.on false=true) (hr:(yb (Zq ops.toList []) i).testBit r=true):listed.getD r false=true:=
 uF (Z:=λj=>listed.getD j false=true) (λj u hu hj e he hb=>I.closL j u hu hj e he hb) hi hr
def ZS{d t:Nat}{dst:Option Tmp}{v:Value}(h:dst≠some t):(c.put dst v).tmps[t]? = c.tmps[t]? :=by
 cases dst with
 | none=>rfl
 | some d=>
  have:d≠t:=λe=>h (by rw[e]);simp[Act.put,Array.getElem?_setIfInBounds,this]
def YS{t:Nat}{dst:Option Tmp}{v:Value}(h:dst=some t)(hlt:t<c.tmps.size):(c.put dst v).tmps[t]? = some v:=by
 subst h;simp[Act.put,Array.getElem?_setIfInBounds,hlt]
def Ue(T:yy P D)(B:qK D ops){N:Nat}{ds:List Deferred}{listed:Array Bool}{S:List (Nat×Oper)}{C:List (Nat×Chk)}{gs:GS}(hgs:gs.l=Zf ops.toList){k:Nat}{Kx:AT→List (Nat×Chk)→PT}
  (hN:∀(i:Nat)(o:Oper),ops[i]? = some o→∀t,o.dst=some t→t<N)
  (I:Inv P D ops N ds listed c w S C a cv) (hk:(k,o)∈S) (hav:yt S o=true) (hkind:zz D o.op<2)
  (h:xT P D ops.toList gs k o a (λa'=>Kx a' (YC D k o a a' C)) w) :
  ∃a' C' cv',Kx a' C' w∧Inv P D ops N ds listed c w (zS S k) C' a' cv':=by
 have ho:=(I.mem _ hk).1;have hun:=(I.mem _ hk).2;have hd:Dst o cv:=λt ht=>by rw[I.szv];exact hN k o ho t ht
 have build:∀(a':AT)(C':List (Nat×Chk))(v:Value),ok a' (cv.put o.dst v)→(∀x∈C,x∈C')→(∀(i:Nat)(ch:Chk),(i,ch)∈C'→(i,ch)∈C∨ym P ch w)→
   Ky P D ops C' (cv.put o.dst v) k o→Inv P D ops N ds listed c w (zS S k) C' a' (cv.put o.dst v):=by
  intro a' C' v hok hC hC' hp;refine⟨λx hx=>I.mem x (Zl.1 hx).1,I.size,I.closL,?_,hok,I.szc,by simp[I.szv],I.dfc,by simp[I.dfv],?_,?_,?_⟩
  ·intro i u hu hi e he hb x hx;by_cases hik:i=k
   ·subst hik;rw[ho]at hu;cases hu;exact Jt.1 hav e he hb x (Zl.1 hx).1
   ·refine I.closV i u hu (λy hy hyi=>hi y (Zl.2 ⟨hy,λe=>hik (hyi.symm.trans e)⟩) hyi) e he hb x (Zl.1 hx).1
  ·intro i u hu hi hl;by_cases hik:i=k
   ·subst hik;rw[ho]at hu;cases hu;exact hp
   ·have hiS:∀y∈S,y.1≠i:=λy hy hyi=>hi y (Zl.2 ⟨hy,λe=>hik (hyi.symm.trans e)⟩) hyi;obtain⟨hki,hpi⟩:=I.pend i u hu hiS hl;refine⟨hki,λw' hch c' hc'=>?_⟩;have hreads:∀t∈ZB ops.toList u,c'.tmps[t]? = cv.tmps[t]? :=by
     intro t ht;rw[hc' t ht];refine ZS (d:=0) λe=>?_;have:=(B.low k o t i u ho e hu (λe=>hik e.symm) hkind).1 ht;exact I.anc hu hiS this _ hk rfl
    have hdst:∀d,u.dst=some d→(cv.put o.dst v).tmps[d]? = cv.tmps[d]? :=λd hdd=>ZS (d:=0) λe=>
     (B.low k o d i u ho e hu (λe=>hik e.symm) hkind).2 hdd
    rcases hpi w' (λch hx=>hch ch (hC _ hx)) c' hreads with ⟨hw,y,hr,hy⟩ | ⟨hw,hy⟩
    ·exact .inl ⟨hw,y,hr,λd hdd=>by rw[hdst d hdd];exact hy d hdd⟩
    ·exact .inr ⟨hw,λd hdd=>by rw[hdst d hdd];exact hy d hdd⟩
  ·intro i ch hx hl;rcases hC' i ch hx with h | h
   ·exact I.chk i ch h hl
   ·exact h
  ·intro t ht;have h1:o.dst≠some t:=ht k o ho (λx hx=>(Zl.1 hx).2) hun;rw[ZS (d:=0) h1];refine I.agree t λi u hu hi hl=>ht i u hu (λx hx=>hi x (Zl.1 hx).1) hl
 have ownr:∀c':Act,∀v,(∀t∈ZB ops.toList o,c'.tmps[t]? = (cv.put o.dst v).tmps[t]?)→∀t∈ZB ops.toList o,c'.tmps[t]? = cv.tmps[t]? :=by
  intro c' v h t ht;rw[h t ht];exact ZS (d:=0) λe=>B.own k o t ho e hkind ht
 have run:ze P D o a (JE gs k o λa'=>Kx a' (YC D k o a a' C)) w→Region.wanted o (yielded ops cv.tmps)=true→∃a' C' cv',Kx a' C' w∧Inv P D ops N ds listed c w (zS S k) C' a' cv':=by
  intro hden hwant;obtain⟨s,h1,h2,h3⟩:=oj T hkind (λh=>(B.rd k o ho h).1) hd I.ok hden;have hok1:ok (a.put o.dst (some s)) (cv.put o.dst s.toV):=xe I.ok hd (λx hx=>by cases hx;rfl);have hpend:∀C',(∀ch,zz D o.op=1→yl o a (a.put o.dst (some s))=some ch→(k,ch)∈C')→Ky P D ops C' (cv.put o.dst s.toV) k o:=by
   intro C' hC';refine⟨hkind,λw' hch c' hc'=>.inl ?_⟩;have hr':=ownr c' _ hc';obtain⟨v,hr,hv⟩:=h3 w' (λh ch hm=>hch ch (hC' ch h hm));refine⟨by rw[YJ hr'];exact hwant,v,by rw[qD (B.nd k o ho).2 hr'];exact hr,λd hdd=>?_⟩;rw[YS hdd (hd d hdd),hv d hdd]
  by_cases hk1:zz D o.op=1
  ·have hg:=(B.rd k o ho hk1).2;unfold JE at h1;rw[hgs,hg]at h1;simp only[cond]at h1;refine⟨_,_,_,h1,build _ _ _ hok1 ?_ ?_ (hpend _ ?_)⟩
   ·intro x hx;unfold YC;rw[if_pos hk1];split
    ·exact List.mem_cons_of_mem _ hx
    ·exact hx
   ·intro i ch hx;unfold YC at hx;rw[if_pos hk1]at hx;split at hx
    ·rename_i ch' hm
     cases hx with
     | head=>exact .inr (h2 hk1 _ hm)
     | tail _ hx=>exact .inl hx
    ·exact .inl hx
   ·intro ch _ hm;unfold YC;rw[if_pos hk1,hm];exact List.mem_cons_self ..
  ·obtain⟨a',hk2,hok2,_,_⟩:=qd (gs:=gs) (i:=k) (o:=o) (c:=cv) (c':=cv.put o.dst s.toV) (w:=w) ⟨_,h1,hok1,by simp,by simp⟩;have e:YC D k o a a' C=C:=by unfold YC;rw[if_neg hk1]
   rw[e]at hk2;exact⟨a',C,_,hk2,build _ _ _ hok2 (λx hx=>hx) (λi ch hx=>.inl hx) (hpend _ (λch h=>absurd h hk1))⟩
 have skip:Kx (a.put o.dst (xE D o)) (YC D k o a (a.put o.dst (xE D o)) C) w→Region.wanted o (yielded ops cv.tmps)=false→∃a' C' cv',Kx a' C' w∧Inv P D ops N ds listed c w (zS S k) C' a' cv':=by
  intro h hwant;have hok1:ok (a.put o.dst (xE D o)) (cv.put o.dst undef):=QJ I.ok hd;refine⟨_,_,_,h,build _ _ undef hok1 ?_ ?_ ?_⟩
  ·intro x hx;unfold YC;split
   ·split
    ·exact List.mem_cons_of_mem _ hx
    ·exact hx
   ·exact hx
  ·intro i ch hx;unfold YC at hx;split at hx
   ·rename_i hk1;have hs:xE D o=none:=by unfold xE;rw[hk1];rfl
    rw[hs]at hx;split at hx
    ·rename_i ch' hm;exfalso
     cases hdst:o.dst with
     | none=>simp[yl,hdst]at hm
     | some d'=>simp[yl,hdst,AT.put,ZM]at hm
    ·exact .inl hx
   ·exact .inl hx
  ·refine⟨hkind,λw' hch c' hc'=>.inr ⟨by rw[YJ (ownr c' _ hc')];exact hwant,λd hdd=>YS hdd (hd d hdd)⟩⟩
 unfold xT at h
 cases hg:o.guard with
 | none=>
  rw[hg]at h;exact run h (by simp[Region.wanted,hg])
 | some q=>
  obtain⟨j,want⟩:=q;rw[hg]at h;dsimp only at h
  cases hj:(nth ops.toList j).bind (·.dst) with
  | none=>rw[hj]at h;exact False.elim h
  | some d=>
   rw[hj]at h;dsimp only at h
   cases hget:a.get d with
   | none=>rw[hget]at h;exact False.elim h
   | some s=>
    rw[hget]at h
    cases s with
    | lit b=>
     dsimp only at h;have hy:yielded ops cv.tmps j=some b:=by
      have e1:(ops[j]?).bind (·.dst)=some d:=by rw[←hj,zm,Array.getElem?_toList]
      have e2:=I.ok d _ hget;simp only[yielded,e1,Option.bind_some,e2,UJ]
     cases hb:(b == want) with
     | true=>
      rw[hb]at h;exact run h (by simp only[Region.wanted,hg,hy];simpa using hb)
     | false=>
      rw[hb]at h;simp only[cond]at h;exact skip h (by simp only[Region.wanted,hg,hy];simpa using hb)
    | v x=>
     cases x with
     | tuple cs=>
      dsimp only at h;have hy:yielded ops cv.tmps j=none:=by
       have e1:(ops[j]?).bind (·.dst)=some d:=by rw[←hj,zm,Array.getElem?_toList]
       have e2:=I.ok d _ hget;simp only[yielded,e1,Option.bind_some,e2,SV.toV]
      exact skip h (by simp only[Region.wanted,hg,hy];rfl)
     | _=>exact False.elim h
    | _=>exact False.elim h
end
end Go.Dm
namespace Go.Dm
section
variable {P:Program}{D:Tb}{w w':World}{a:AT}{c cv:Act}{o:Oper}{K:AT→PT}{Q:Exit→Act→World→Prop}{ro:Option Nat}{ops:Array Oper}{sm:Bool}
def UT{S:List (Nat×Oper)}{C:List (Nat×Chk)}{gs:GS}{ms:List Nat}:∀(n:Nat){a:AT},Zo P D ops.toList gs ms n S C a K w→ZN D S S=none→
  (S = []∧K a w)∨∃m,n=m+1∧S≠[]∧QZ ((S.filter λx=>yt S x.2).map λx=>xT P D ops.toList gs x.1 x.2 a λa'=>jW P (yb ms x.1) C (Zo P D ops.toList gs ms m (zS S x.1) C a' K)) w
 | 0,a,h,_=>by
  simp only[Zo]at h
  cases S with
  | nil=>exact .inl ⟨rfl,h⟩
  | cons x S=>exact False.elim h
 | n+1,a,h,hf=>by
  simp only[Zo,hf]at h
  cases S with
  | nil=>exact .inl ⟨rfl,h⟩
  | cons x S=>exact .inr ⟨n,rfl,by simp,h⟩
def XM(T:yy P D)(B:qK D ops){N:Nat}{ds:List Deferred}{listed:Array Bool}(hN:∀(i:Nat)(o:Oper),ops[i]? = some o→∀t,o.dst=some t→t<N) :
  ∀(n:Nat)(S:List (Nat×Oper))(C:List (Nat×Chk))(a:AT)(cv:Act),Inv P D ops N ds listed c w S C a cv→Zo P D ops.toList ⟨Zf ops.toList,sm⟩ (Zq ops.toList []) n S C a K w→
   ∃n' S' C' a' cv',Inv P D ops N ds listed c w S' C' a' cv'∧Zo P D ops.toList ⟨Zf ops.toList,sm⟩ (Zq ops.toList []) n' S' C' a' K w∧(ZN D S' S'=none)
 | 0,S,C,a,cv,I,h=>by
  simp only[Zo]at h
  cases S with
  | nil=>exact⟨0,[],C,a,cv,I,h,rfl⟩
  | cons x S=>exact False.elim h
 | n+1,S,C,a,cv,I,h=>by
  cases hf:ZN D S S with
  | none=>exact⟨n+1,S,C,a,cv,I,h,hf⟩
  | some x=>
   obtain⟨i,o⟩:=x;obtain⟨h1,h2,h3⟩:=YB hf;simp only[Zo,hf]at h;obtain⟨a',C',cv',hk,I'⟩:=Ue T B rfl (Kx:=λa' C'=>Zo P D ops.toList ⟨Zf ops.toList,sm⟩ (Zq ops.toList []) n (zS S i) C' a' K) hN I h1 h2 h3 h;exact XM T B hN n _ C' a' cv' I' hk
def uW:∀{l:List PT}{x:PT},L.alts l w→x∈l→x w
 | y::l,x,h,hx=>by
  cases hx with
  | head=>exact h.1
  | tail _ hx=>exact uW h.2 hx
def UE:∀{l:List PT}{x:PT},QZ l w→x∈l→x w
 | [y],x,h,hx=>by simp at hx;subst hx;exact h
 | y::z::l,x,h,hx=>uW h hx
def JK{m:Nat}{k:PT}:∀{C:List (Nat×Chk)},jW P m C k w→k w∧∀r ch,(r,ch)∈C→m.testBit r=false→ym P ch w
 | [],h=>⟨h,λ_ _ h=>by cases h⟩
 | (r,ch)::C,h=>by
  simp only[jW]at h;split at h
  ·rename_i hb;obtain⟨h1,h2⟩:=JK h;refine⟨h1,λr' ch' hm hb'=>?_⟩
   cases hm with
   | head=>rw[hb]at hb';cases hb'
   | tail _ hm=>exact h2 r' ch' hm hb'
  ·cases ch with
   | ld a cs=>
    obtain⟨h0,h⟩:=h;obtain⟨h1,h2⟩:=JK h;refine⟨h1,λr' ch' hm hb'=>?_⟩
    cases hm with
    | head=>exact h0
    | tail _ hm=>exact h2 r' ch' hm hb'
   | sm s v=>
    obtain⟨h0,h⟩:=h;obtain⟨h1,h2⟩:=JK h;refine⟨h1,λr' ch' hm hb'=>?_⟩
    cases hm with
    | head=>exact h0
    | tail _ hm=>exact h2 r' ch' hm hb'
def XE(listed:Array Bool):Nat:=listed.toList.countP λb=>!b
def vF{listed:Array Bool}{i:Nat}(h:listed.getD i true=false):XE (listed.setIfInBounds i true)+1=XE listed:=by
 have hlt:i<listed.toList.length:=by
  rw[Array.getD_eq_getD_getElem?]at h
  cases hl:listed[i]? with
  | none=>rw[hl]at h;cases h
  | some b=>have:=(Array.getElem?_eq_some_iff.1 hl).1;simpa using this
 have hv:listed.toList[i]=false:=by
  have:listed[i]? = some listed.toList[i]:=by rw[←Array.getElem?_toList];exact List.getElem?_eq_getElem hlt
  rw[Array.getD_eq_getD_getElem?,this]at h;simpa using h
 simp only[XE,Array.toList_setIfInBounds];have go:∀(l:List Bool)(i:Nat)(hl:i<l.length),l[i]=false→(l.set i true).countP (λb=>!b)+1=l.countP λb=>!b:=by
  intro l
  induction l with
  | nil=>intro i hl;simp at hl
  | cons x l ih=>
   intro i hl hx
   cases i with
   | zero=>simp at hx;subst hx;simp
   | succ i=>
    simp only[List.length_cons,Nat.add_lt_add_iff_right]at hl;simp only[List.getElem_cons_succ]at hx;have:=ih i hl hx;simp only[List.set_cons_succ,List.countP_cons];omega
 exact go _ i hlt hv
def Uu{listed:Array Bool}(h:XE listed=0)(i:Nat):listed.getD i true=true:=by
 rw[Array.getD_eq_getD_getElem?]
 cases hl:listed[i]? with
 | none=>rfl
 | some b=>
  simp only[XE,List.countP_eq_zero]at h;have:b∈listed.toList:=List.mem_of_getElem? (by rw[Array.getElem?_toList];exact hl);have:=h b this;simpa using this
def Qa{listed:Array Bool}{i:Nat}(h:i∈Region.ready .any ops listed):∃o,ops[i]? = some o∧listed.getD i true=false∧∀e∈o.after.toList,Region.binds .any e=true→listed.getD e.on false=true:=by
 unfold Region.ready at h;rw[List.mem_filter]at h;obtain⟨h1,h2⟩:=h;simp only[Bool.and_eq_true,Bool.not_eq_true']at h2
 cases ho:ops[i]? with
 | none=>rw[ho]at h2;simp at h2
 | some o=>
  rw[ho]at h2;refine⟨o,rfl,h2.1,λe he hb=>?_⟩;have h3:=h2.2;simp only[Option.map_some,Option.getD_some,←Array.all_toList]at h3;have:=List.all_eq_true.1 h3 e he;rw[hb]at this;simpa using this
def Va{listed:Array Bool}{i:Nat}(ho:ops[i]? = some o)(hl:listed.getD i true=false)(he:∀e∈o.after.toList,Region.binds .any e=true→listed.getD e.on false=true):i∈Region.ready .any ops listed:=by
 unfold Region.ready;rw[List.mem_filter];refine⟨List.mem_range.2 (Array.getElem?_eq_some_iff.1 ho).1,?_⟩;simp only[Bool.and_eq_true,Bool.not_eq_true',ho,Option.map_some,Option.getD_some,←Array.all_toList];refine⟨hl,List.all_eq_true.2 λe h=>?_⟩
 cases hb:Region.binds .any e with
 | false=>rfl
 | true=>simpa using he e h hb
def UF(B:qK D ops){listed:Array Bool}(hsz:listed.size=ops.size)(h:Region.ready .any ops listed = []):∀i,listed.getD i true=true:=by
 intro i
 induction i using Nat.strongRecOn with
 | _ i ih=>
  cases hl:listed.getD i true with
  | true=>rfl
  | false=>
   exfalso;have hlt:i<ops.size:=by
    rw[←hsz];rw[Array.getD_eq_getD_getElem?]at hl
    cases hl':listed[i]? with
    | none=>rw[hl']at hl;cases hl
    | some b=>exact(Array.getElem?_eq_some_iff.1 hl').1
   have ho:ops[i]? = some ops[i]:=Array.getElem?_eq_getElem hlt;have:=Va ho hl λe he hb=>by
    have h1:=B.lt i _ ho e he hb;have h2:=ih e.on h1;have h3:e.on<listed.size:=by omega
    rw[Array.getD_eq_getD_getElem?]at h2 ⊢;rw[Array.getElem?_eq_getElem h3]at h2 ⊢;exact h2
   rw[h]at this;cases this
def vY{listed:Array Bool}{i j:Nat}:(listed.setIfInBounds i true).getD j true=if i=j then true else listed.getD j true:=by
 simp only[Array.getD_eq_getD_getElem?,Array.getElem?_setIfInBounds];by_cases h:i=j
 ·subst h;simp only[if_true];by_cases hlt:i<listed.size<;>simp[hlt]
 ·simp[h]
def qf{listed:Array Bool}{i j:Nat}(h:listed.getD j false=true):(listed.setIfInBounds i true).getD j false=true:=by
 simp only[Array.getD_eq_getD_getElem?,Array.getElem?_setIfInBounds]at *
 by_cases e:i=j
 ·subst e;by_cases hlt:i<listed.size
  ·simp[hlt]
  ·simp[hlt]at h
 ·simpa [e]using h
def vX{listed:Array Bool}{i j:Nat}(h:(listed.setIfInBounds i true).getD j false=true):i=j∨listed.getD j false=true:=by
 simp only[Array.getD_eq_getD_getElem?,Array.getElem?_setIfInBounds]at *
 by_cases e:i=j
 ·exact .inl e
 ·right;simpa [e]using h
def Ux(T:yy P D)(B:qK D ops){N:Nat}{ds:List Deferred}(hN:∀(i:Nat)(o:Oper),ops[i]? = some o→∀t,o.dst=some t→t<N){Fr:Act→Prop}(hFr:∀(i:Nat)(o:Oper) c v,ops[i]? = some o→Fr c→Fr (c.put o.dst v))(hQ:∀c w,Fin K N ds c w→Fr c→Q .normal c w) :
  ∀(f:Nat)(listed:Array Bool)(n:Nat)(S:List (Nat×Oper))(C:List (Nat×Chk))(a:AT)(cv c:Act)(w:World),Fr c→XE listed≤f→Inv P D ops N ds listed c w S C a cv→
   Zo P D ops.toList ⟨Zf ops.toList,sm⟩ (Zq ops.toList []) n S C a K w→wpAnyIn (FR ro) 0 P .any ops Q f listed c w:=by
 have fin:∀(listed:Array Bool)(n:Nat)(S:List (Nat×Oper))(C:List (Nat×Chk))(a:AT)(cv c:Act)(w:World),Fr c→Inv P D ops N ds listed c w S C a cv→
   Zo P D ops.toList ⟨Zf ops.toList,sm⟩ (Zq ops.toList []) n S C a K w→(∀i,listed.getD i true=true)→Q .normal c w:=by
  intro listed n S C a cv c w hfr I h hall;have hS:S = []:=by
   cases S with
   | nil=>rfl
   | cons x S=>
    have:=(I.mem x (List.mem_cons_self ..)).2;rw[hall]at this;cases this
  subst hS;have hk:K a w:=by
   rcases UT n h rfl with ⟨_,h⟩ | ⟨_,_,h,_⟩
   ·exact h
   ·exact absurd rfl h
  refine hQ c w ⟨a,hk,λt s ht=>?_,I.szc,I.dfc⟩ hfr;rw[I.agree t λi o _ _ hl=>by rw[hall]at hl;cases hl];exact I.ok t s ht
 intro f
 induction f with
 | zero=>
  intro listed n S C a cv c w hfr hf I h;have hall:=Uu (Nat.le_zero.1 hf);refine⟨?_,fin listed n S C a cv c w hfr I h hall⟩
  cases hr:Region.ready .any ops listed with
  | nil=>rfl
  | cons i r=>
   obtain⟨o,_,hl,_⟩:=Qa (ops:=ops) (listed:=listed) (i:=i) (by rw[hr];exact List.mem_cons_self ..);rw[hall]at hl;cases hl
 | succ f ih=>
  intro listed n S C a cv c w hfr hf I h;refine⟨λhr=>fin listed n S C a cv c w hfr I h (UF B I.size hr),λi hi=>?_⟩;obtain⟨o,ho,hl,hed⟩:=Qa hi;have hcnt:XE (listed.setIfInBounds i true)≤f:=by have:=vF hl;omega
  have hd:Dst o c:=λt ht=>by rw[I.szc];exact hN i o ho t ht
  obtain⟨n',S',C',a',cv',I',h',hfa⟩:=XM T B hN n S C a cv I h;clear I h;have hdv:Dst o cv':=λt ht=>by rw[I'.szv];exact hN i o ho t ht
  have hancL:∀r,(yb (Zq ops.toList []) i).testBit r=true→listed.getD r true=false→False:=by
   intro r hr hlr;have:=I'.ancL (i:=i) (λu hu e he hb=>by rw[ho]at hu;cases hu;exact hed e he hb) hr;rw[Ql hlr]at this;cases this
  have hreads:∀t∈ZB ops.toList o,c.tmps[t]? = cv'.tmps[t]? :=by
   intro t ht;refine I'.agree t λj u hu hjS hjl hdst=>?_;obtain⟨hkj,_⟩:=I'.pend j u hu hjS hjl;by_cases hij:i=j
   ·subst hij;rw[ho]at hu;cases hu;exact B.own i o t ho hdst hkj ht
   ·exact hancL j ((B.low j u t i o hu hdst ho (λe=>hij e.symm) hkj).1 ht) hjl
  have newL:∀{j:Nat},(listed.setIfInBounds i true).getD j true=false→j≠i∧listed.getD j true=false:=by
   intro j hj;rw[vY]at hj;by_cases e:i=j
   ·rw[if_pos e]at hj;cases hj
   ·rw[if_neg e]at hj;exact⟨λh=>e h.symm,hj⟩
  have closL':∀(j:Nat)(u:Oper),ops[j]? = some u→(listed.setIfInBounds i true).getD j false=true→∀e∈u.after.toList,Region.binds .any e=true→(listed.setIfInBounds i true).getD e.on false=true:=by
   intro j u hu hj e he hb;rcases vX hj with e1 | hj
   ·subst e1;rw[ho]at hu;cases hu;exact qf (hed e he hb)
   ·exact qf (I'.closL j u hu hj e he hb)
  unfold wpOpIn;simp only[ho];by_cases hiS:∀x∈S',x.1≠i
  ·
   obtain⟨hki,hp⟩:=I'.pend i o ho hiS hl;have step:∀v,(∀d,o.dst=some d→cv'.tmps[d]? = some v)→wpAnyIn (FR ro) 0 P .any ops Q f (listed.setIfInBounds i true) (c.put o.dst v) w:=by
    intro v hv;refine ih _ n' S' C' a' cv' _ w (hFr i o c v ho hfr) hcnt ⟨λx hx=>?_,by simp[I'.size],closL',I'.closV,I'.ok,by simp[I'.szc],I'.szv,by simp[I'.dfc],I'.dfv,λj u hu hj hjl=>I'.pend j u hu hj (newL hjl).2,λj ch hc hjl=>I'.chk j ch hc (newL hjl).2,λt ht=>?_⟩ h'
    ·have:=I'.mem x hx;refine⟨this.1,?_⟩;rw[vY,if_neg (λe=>hiS x hx e.symm)];exact this.2
    ·by_cases e:o.dst=some t
     ·rw[YS e (hd t e),hv t e]
     ·rw[ZS (d:=0) e];refine I'.agree t λj u hu hj hjl hdst=>?_;by_cases hij:i=j
      ·subst hij;rw[ho]at hu;cases hu;exact e hdst
      ·exact ht j u hu hj (by rw[vY,if_neg hij];exact hjl) hdst
   rcases hp w (λch hc=>I'.chk i ch hc hl) c hreads with ⟨hw,v,hr,hv⟩ | ⟨hw,hv⟩
   ·rw[if_pos hw];exact jN (B.nd i o ho).1 (.inl ⟨v,w,hr,step v hv⟩)
   ·rw[if_neg (by simp[hw])];exact⟨λ_ _=>trivial,step undef hv⟩
  ·
   have hmem:(i,o)∈S':=by
    have:∃x∈S',x.1=i:=Classical.byContradiction λhn=>hiS λx hx e=>hn ⟨x,hx,e⟩;obtain⟨x,hx,hxi⟩:=this;have h1:=(I'.mem x hx).1;obtain⟨x1,x2⟩:=x;simp only at hxi h1;subst hxi;rw[ho]at h1;cases h1;exact hx
   have hav:yt S' o=true:=Jt.2 λe he hb x hx hxe=>by
    have h1:=(I'.mem x hx).2;have h2:=hed e he hb;rw[hxe]at h1;rw[Ql h1]at h2;cases h2
   have hki:=Jb hfa (i,o) hmem hav;rcases UT n' h' hfa with ⟨hS,_⟩ | ⟨m,_,_,halt⟩
   ·rw[hS]at hmem;cases hmem
   have hden:=UE halt (List.mem_map.2 ⟨(i,o),List.mem_filter.2 ⟨hmem,hav⟩,rfl⟩);dsimp only at hden
   have step:∀v w',Nx (λa''=>jW P (yb (Zq ops.toList []) i) C' (Zo P D ops.toList ⟨Zf ops.toList,sm⟩ (Zq ops.toList []) m (zS S' i) C' a'' K)) cv' (cv'.put o.dst v) w'→
     wpAnyIn (FR ro) 0 P .any ops Q f (listed.setIfInBounds i true) (c.put o.dst v) w':=by
    rintro v w' ⟨a'',hk,hok,-,-⟩;obtain⟨hk,hch⟩:=JK hk;have back:∀{j:Nat},j≠i→(∀x∈zS S' i,x.1≠j)→∀x∈S',x.1≠j:=λhji hj x hx e=>hj x (Zl.2 ⟨hx,λe2=>hji (e.symm.trans e2)⟩) e;have nanc:∀{j:Nat}{u:Oper},ops[j]? = some u→(∀x∈S',x.1≠j)→(yb (Zq ops.toList []) j).testBit i=true→False:=λhu hj hm=>
     I'.anc hu hj hm _ hmem rfl
    refine ih _ m (zS S' i) C' a'' (cv'.put o.dst v) _ w' (hFr i o c v ho hfr) hcnt ⟨λx hx=>?_,by simp[I'.size],closL',?_,hok,by simp[I'.szc],by simp[I'.szv],by simp[I'.dfc],by simp[I'.dfv],?_,?_,?_⟩ hk
    ·obtain⟨hx,hxi⟩:=Zl.1 hx;have:=I'.mem x hx;refine⟨this.1,?_⟩;rw[vY,if_neg (λe=>hxi e.symm)];exact this.2
    ·intro j u hu hj e he hb x hx;by_cases hji:j=i
     ·subst hji;rw[ho]at hu;cases hu;exact Jt.1 hav e he hb x (Zl.1 hx).1
     ·exact I'.closV j u hu (back hji hj) e he hb x (Zl.1 hx).1
    ·intro j u hu hj hjl;obtain⟨hji,hjl⟩:=newL hjl;have hjS:=back hji hj;obtain⟨hkj,hpj⟩:=I'.pend j u hu hjS hjl;refine⟨hkj,λw1 hc1 c1 hr1=>?_⟩;have hreads1:∀t∈ZB ops.toList u,c1.tmps[t]? = cv'.tmps[t]? :=by
      intro t ht;rw[hr1 t ht];refine ZS (d:=0) λe=>?_;rcases B.high i o t j u ho e hu (λe=>hji e.symm) hki ht with hm | hm
      ·exact nanc hu hjS hm
      ·exact hancL j hm hjl
     have hdst:∀d,u.dst=some d→(cv'.put o.dst v).tmps[d]? = cv'.tmps[d]? :=λd hdd=>ZS (d:=0) λe=>
      (B.low j u d i o hu hdd ho hji hkj).2 e
     rcases hpj w1 hc1 c1 hreads1 with ⟨hw,y,hr,hy⟩ | ⟨hw,hy⟩
     ·exact .inl ⟨hw,y,hr,λd hdd=>by rw[hdst d hdd];exact hy d hdd⟩
     ·exact .inr ⟨hw,λd hdd=>by rw[hdst d hdd];exact hy d hdd⟩
    ·intro j ch hc hjl;obtain⟨hji,hjl⟩:=newL hjl;refine hch j ch hc ?_
     cases hm:(yb (Zq ops.toList []) i).testBit j with
     | false=>rfl
     | true=>exact(hancL j hm hjl).elim
    ·intro t ht;by_cases e:o.dst=some t
     ·rw[YS e (hd t e),YS e (hdv t e)]
     ·rw[ZS (d:=0) e,ZS (d:=0) e];refine I'.agree t λj u hu hj hjl hdst=>?_;have hji:j≠i:=λe2=>hj _ hmem e2.symm;exact ht j u hu (λx hx=>hj x (Zl.1 hx).1) (by rw[vY,if_neg (λe=>hji e.symm)];exact hjl) hdst
   rcases UV T I'.ok hdv hden with ⟨hw,hnd,hop⟩ | ⟨hw,hn⟩
   ·rw[YJ (ops:=ops) (λt ht=>(hreads t ht))];rw[if_pos hw];exact jN hnd (hop.turn (qD (B.nd i o ho).2 hreads) λv w' hv=>step v w' hv)
   ·rw[YJ (ops:=ops) (λt ht=>(hreads t ht))];rw[if_neg (by simp[hw])];exact⟨λ_ _=>trivial,step undef w hn⟩
end
end Go.Dm
namespace Go.Dm
def YW(l:List Nat):List Deferred:=l.map λd=>{ target:=.collected d,args:=#[] }
def inB(N:Nat):Code→Bool
 | .region _ ops _=>ops.toList.all λo=>match o.dst with | some d=>Nat.blt d N | none=>true
 | .seq a b=>inB N a&&inB N b
 | .cond _ a b=>inB N a&&inB N b
 | .block _ b=>inB N b
 | .loop b=>inB N b
 | .rangeFunc _ ps a b=>ps.toList.all (λt=>Nat.blt t N)&&inB N a&&inB N b
 | _=>true
def XK(K:X→AT→List Nat→PT)(a:AT)(ds:List Nat):Exit→PT
 | .normal=>K .normal a ds
 | .exit id=>K (.exit id) a ds
 | .goto l=>K (.goto l) a ds
 | .ret=>K .ret a ds
 | _=>bad
section
variable {P:Program}{D:Tb}{w w':World}{a:AT}{c c0:Act}{o:Oper}{ro:Option Nat}{ops:Array Oper}{sm:Bool}
def qU(x:Code)(K:X→AT→List Nat→PT)(N:Nat)(c0:Act):Exit→Act→World→Prop:=λe c w=>
 ∃a ds,XK K a ds e w∧ok a c∧c.tmps.size=N∧c.defers=YW ds∧(∀t,t∉Yv x→c.tmps[t]? = c0.tmps[t]?)∧(zH x=false→c.defers=c0.defers)
def vT:∀{l:Lf}{s:SV}{x:l.T},l.un s=some x→l.val x=s.toV:=by
 intro l s x h
 cases l with
 | int k=>cases s with
  | v y=>cases y with
   | int k' n=>
    simp only[Lf.un]at h;by_cases e:k'=k
    ·subst e;simp at h;subst h;rfl
    ·rw[if_neg e]at h;cases h
   | _=>cases h
  | _=>cases h
 | bool=>cases s with
  | lit b=>cases h;rfl
  | v y=>cases y<;>first | (cases h;rfl) | cases h
  | _=>cases h
 | adr=>cases s with
  | v y=>cases y with
   | pointer p=>cases p with
    | none=>cases h
    | some a=>cases h;rfl
   | _=>cases h
  | _=>cases h
 | iface=>cases s with
  | ifc p=>cases h;rfl
  | v y=>cases y<;>first | (cases h;rfl) | cases h
  | _=>cases h
 | _=>cases s with
  | v y=>cases y<;>first | (cases h;rfl) | cases h
  | _=>cases h
def UI:∀{ls:List Lf}{cs:List Value}{x:HT ls},unH ls cs=some x→HV ls x=cs
 | [],[],x,h=>rfl
 | [],_::_,x,h=>by cases h
 | _::_,[],x,h=>by cases h
 | l::ls,v::vs,x,h=>by
  simp only[unH]at h
  cases h1:l.un (.v v) with
  | none=>rw[h1]at h;cases h
  | some p=>cases h2:unH ls vs with
   | none=>rw[h1,h2]at h;cases h
   | some q=>
    rw[h1,h2]at h;cases h;simp only[HV,UI h2,vT h1,SV.toV]
def UB:∀(e:E1)(x:e.T),(e.sv x).toV=e.val x
 | .agg _,_=>rfl
 | .one (.int _),_ | .one .bool,_ | .one .str,_ | .one .ptr,_ | .one .slice,_ | .one .map,_ | .one .func,_ | .one .iface,_ | .one .adr,_=>rfl
def VE:∀{e:E1}{s:SV}{x:e.T},e.un s=some x→(e.sv x).toV=s.toV:=by
 intro e s x h
 cases e with
 | one l=>rw[UB];exact vT h
 | agg ls=>cases s with
  | ag cs=>simp only[E1.un]at h;rw[UB];simp only[E1.val,UI h,SV.toV]
  | _=>cases h
def jb{a':AT}:∀{J:List (Nat×E1)}{z:TJ J}{b:AT},ZZ J a'=some z→ok a' c→ok b c→ok (place J z b) c
 | [],z,b,h,_,hb=>hb
 | x::r,z,b,h,ha,hb=>by
  simp only[ZZ]at h
  cases h1:(a'.get x.1).bind x.2.un with
  | none=>rw[h1]at h;cases h
  | some p=>cases h2:ZZ r a' with
   | none=>rw[h1,h2]at h;cases h
   | some q=>
    rw[h1,h2]at h;cases h
    cases hs:a'.get x.1 with
    | none=>rw[hs]at h1;cases h1
    | some s=>
     rw[hs]at h1;refine XV (jb h2 ha hb) ?_;rw[ha _ _ hs];simp only[Option.bind_some]at h1;rw[VE h1]
def qt:∀{Dl:List Nat}{a:AT}{t:Nat}{s:SV},(XO Dl a).get t=some s→t∉Dl∧a.get t=some s
 | Dl,[],t,s,h=>by cases h
 | Dl,x::r,t,s,h=>by
  simp only[XO]at h
  cases hm:Jg x.1 Dl with
  | true=>
   rw[hm]at h;obtain⟨h1,h2⟩:=qt (a:=r) h;refine⟨h1,?_⟩;obtain⟨x1,x2⟩:=x;rw[ZM,if_neg (λe=>h1 (by subst e;exact YV.1 hm))];exact h2
  | false=>
   rw[hm]at h;obtain⟨x1,x2⟩:=x;simp only[cond]at h;rw[ZM]at h ⊢;by_cases e:x1=t
   ·subst e;rw[if_pos rfl]at h ⊢;exact⟨λhm2=>(by rw[YV.2 hm2]at hm;cases hm),h⟩
   ·rw[if_neg e]at h ⊢;exact qt h
def XU{Dl:List Nat}(h:ok a c0)(hf:∀t,t∉Dl→c.tmps[t]? = c0.tmps[t]?):ok (XO Dl a) c:=by
 intro t s hs;obtain⟨h1,h2⟩:=qt hs;rw[hf t h1];exact h t s h2
def qo{d:Nat}:∀{l:List Oper},o∈l→o.dst=some d→d∈Yq l
 | x::l,h,hd=>by
  simp only[Yq]
  cases h with
  | head=>rw[hd];exact List.mem_cons_self ..
  | tail _ h=>
   have:=qo h hd
   cases x.dst with
   | none=>exact this
   | some e=>exact List.mem_cons_of_mem _ this
def xG(c0:Act):∀(i:Nat)(o:Oper)(c:Act)(v:Value),ops[i]? = some o→(∀t,t∉Yq ops.toList→c.tmps[t]? = c0.tmps[t]?)→∀t,t∉Yq ops.toList→(c.put o.dst v).tmps[t]? = c0.tmps[t]? :=by
 intro i o c v ho h t ht;rw[ZS (d:=0),h t ht];intro e;exact ht (qo (List.mem_of_getElem? (by rw[Array.getElem?_toList];exact ho)) e)
def UQ{N id:Nat}{dr:Bool}(h:inB N (.region id ops dr)=true):∀(i:Nat)(o:Oper),ops[i]? = some o→∀t,o.dst=some t→t<N:=by
 intro i o ho t ht;have:=List.all_eq_true.1 h o (List.mem_of_getElem? (by rw[Array.getElem?_toList];exact ho));rw[ht]at this;dsimp only at this
 rwa [Nat.blt_eq]at this
def vE{l:List Oper}:(Zm 0 l).map (·.1)=List.range l.length:=by
 rw[qj,List.range_eq_range']
def Uh(T:yy P D){K:AT→PT}{N:Nat}{ds:List Nat}{id:Nat}{Q:Exit→Act→World→Prop}(hin:inB N (.region id ops false)=true)(h:Xq P D ops.toList ⟨Zf ops.toList,sm⟩ (Zm 0 ops.toList) a K w)
  (hok:ok a c) (hN:c.tmps.size=N) (hds:c.defers=YW ds)
  (hQ:∀c' w',Fin K N (YW ds) c' w'→(∀t,t∉Yq ops.toList→c'.tmps[t]? = c.tmps[t]?)→Q .normal c' w'):(Code.region id ops false).wpIn (FR ro) 0 P Q c w:=by
 refine wpIn_region ?_
 have:=Qv (ro:=ro) T (Q:=Q) (Fr:=λc'=>∀t,t∉Yq ops.toList→c'.tmps[t]? = c.tmps[t]?) (xG c) hQ (Zm 0 ops.toList) a c w (λ_ _=>rfl)
  (λx hx=>by have:=(Yd _ _ _ hx).2;rw[Nat.sub_zero,Array.getElem?_toList]at this;exact this)
  (λx hx=>by have:=(Yd _ _ _ hx).2;rw[Nat.sub_zero,Array.getElem?_toList]at this;exact UQ hin _ _ this) h hok hN hds
 rw[vE]at this;simpa using this
def XL(T:yy P D){K:AT→PT}{N:Nat}{ds:List Nat}{id:Nat}{Q:Exit→Act→World→Prop}(hin:inB N (.region id ops true)=true)(B:Jo D ops.toList (Zq ops.toList [])=true)
  (h:L.draw (Zo P D ops.toList ⟨Zf ops.toList,sm⟩ (Zq ops.toList []) ops.toList.length (Zm 0 ops.toList) [] a K) w)
  (hok:ok a c) (hN:c.tmps.size=N) (hds:c.defers=YW ds)
  (hQ:∀c' w',Fin K N (YW ds) c' w'→(∀t,t∉Yq ops.toList→c'.tmps[t]? = c.tmps[t]?)→Q .normal c' w'):(Code.region id ops true).wpIn (FR ro) 0 P Q c w:=by
 have B':=vL B;refine wpIn_region_any T.mixed (Ux T B' (UQ hin) (Fr:=λc'=>∀t,t∉Yq ops.toList→c'.tmps[t]? = c.tmps[t]?) (xG c) hQ ops.size _ ops.toList.length (Zm 0 ops.toList) [] a c c _ (λ_ _=>rfl) ?_ ?_ h)
 ·simp only[XE,Array.toList_replicate];have:=List.countP_le_length (p:=λb=>!b) (l:=List.replicate ops.size false);simpa using this
 ·refine⟨λx hx=>?_,by simp,?_,?_,hok,hN,hN,hds,hds,?_,?_,?_⟩
  ·have:=(Yd _ _ _ hx).2;rw[Nat.sub_zero,Array.getElem?_toList]at this;refine⟨this,?_⟩;have hlt:=(Array.getElem?_eq_some_iff.1 this).1;rw[Array.getD_eq_getD_getElem?];simp[hlt]
  ·intro i u hu hl;rw[Array.getD_eq_getD_getElem?]at hl;by_cases hlt:i<ops.size<;>simp[hlt]at hl
  ·intro i u hu hi;exact absurd rfl (hi (i,u) (by have:=jS (k:=0) (l:=ops.toList) (i:=i) (o:=u) (by rw[Array.getElem?_toList];exact hu);rw[Nat.zero_add]at this;exact this))
  ·intro i u hu hi;exact absurd rfl (hi (i,u) (by have:=jS (k:=0) (l:=ops.toList) (i:=i) (o:=u) (by rw[Array.getElem?_toList];exact hu);rw[Nat.zero_add]at this;exact this))
  ·intro i ch h;cases h
  ·intro t _;rfl
end
end Go.Dm
namespace Go.Dm
section
variable {P:Program}{D:Tb}
def Yl{K K':X→AT→List Nat→PT}{x y:Code}{N:Nat}{c0 c1:Act}{w:World}{c:Act}{e:Exit}(h:qU x K N c0 e c w)
  (hK:∀a ds,XK K a ds e w→XK K' a ds e w) (hd:∀t,t∈Yv x→t∈Yv y) (hr:zH y=false→zH x=false)
  (h0:∀t,t∉Yv y→c0.tmps[t]? = c1.tmps[t]?) (h1:zH y=false→c0.defers=c1.defers):qU y K' N c1 e c w:=by
 obtain⟨a,ds,k,ho,hs,hds,hf,hg⟩:=h;exact⟨a,ds,hK a ds k,ho,hs,hds,λt ht=>by rw[hf t (λhx=>ht (hd t hx)),h0 t ht],λh=>by rw[hg (hr h),h1 h]⟩
def qx:∀(l:List (Tmp×Value))(t:Array Value),(l.foldl (λt x=>t.setIfInBounds x.1 x.2) t).size=t.size
 | [],t=>rfl
 | x::l,t=>by simp[qx l]
def Qm:∀(l:List (Tmp×Value))(t:Array Value)(k:Nat),(∀x∈l,x.1≠k)→(l.foldl (λt x=>t.setIfInBounds x.1 x.2) t)[k]? = t[k]?
 | [],t,k,_=>rfl
 | x::l,t,k,h=>by
  simp only[List.foldl_cons];rw[Qm l _ k (λy hy=>h y (List.mem_cons_of_mem _ hy)),Array.getElem?_setIfInBounds,if_neg (h x (List.mem_cons_self ..))]
def Us{x:Nat}{l:List Nat}(h:XB (x::l)=true):x∉l∧XB l=true:=by
 simp only[XB,Bool.and_eq_true,Bool.not_eq_true']at h;exact⟨λhm=>(by rw[YV.2 hm]at h;cases h.1),h.2⟩
def VX{l:List Nat}{r:List Value}{x:Nat×Value}(h:x∈l.zip r):x.1∈l:=by
 obtain⟨a,b⟩:=x;exact(List.of_mem_zip h).1
def xH{d:List Deferred}{a:AT}:∀{J:List (Nat×E1)}{y:TT (J.map (·.2))}{t:Array Value},XB (J.map (·.1))=true→(∀x∈J,x.1<t.size)→ok a { tmps:=t,defers:=d }→
  ok (place J (den.tjOf J y) a) { tmps:=((J.map (·.1)).zip (TV (J.map (·.2)) y)).foldl (λt x=>t.setIfInBounds x.1 x.2) t,defers:=d }
 | [],y,t,_,_,h=>h
 | x::r,y,t,hn,hlt,h=>by
  obtain⟨h1,h2⟩:=Us hn;have hx:=hlt x (List.mem_cons_self ..);intro k s hk;show(((r.map (·.1)).zip (TV (r.map (·.2)) y.2)).foldl (λt x=>t.setIfInBounds x.1 x.2) (t.setIfInBounds x.1 (x.2.val y.1)))[k]? = _;simp only[place,den.tjOf]at hk;rw[ZM]at hk;by_cases e:x.1=k
  ·rw[if_pos e]at hk;cases hk;subst e;rw[Qm _ _ _ (λz hz e=>h1 (by show x.1∈_;rw[←e];exact VX hz))];simp[Array.getElem?_setIfInBounds,hx,UB]
  ·rw[if_neg e]at hk;have hrest:ok (place r (den.tjOf r y.2) (List.filter (λz=>z.1 != x.1) a)) { tmps:=((r.map (·.1)).zip (TV (r.map (·.2)) y.2)).foldl (λt x=>t.setIfInBounds x.1 x.2) (t.setIfInBounds x.1 (x.2.val y.1)),defers:=d }:=by
    refine xH h2 (λz hz=>by simpa using hlt z (List.mem_cons_of_mem _ hz)) ?_;intro k' s' hk';have key:∀(a:AT),AT.get (List.filter (λz=>z.1 != x.1) a) k'=some s'→k'≠x.1∧a.get k'=some s':=by
     intro a
     induction a with
     | nil=>intro h;cases h
     | cons z a ih=>
      intro h;obtain⟨z1,z2⟩:=z;rw[ZM];by_cases ez:z1=x.1
      ·subst ez;rw[List.filter_cons_of_neg (by simp)]at h;obtain⟨h1,h2⟩:=ih h;exact⟨h1,by rw[if_neg (λe=>h1 e.symm)];exact h2⟩
      ·rw[List.filter_cons_of_pos (by simpa using ez),ZM]at h;by_cases ek:z1=k'
       ·subst ek;rw[if_pos rfl]at h ⊢;exact⟨ez,h⟩
       ·rw[if_neg ek]at h ⊢;exact ih h
    obtain⟨hne,hk2⟩:=key a hk';simp only[Array.getElem?_setIfInBounds,if_neg (λe=>hne (Eq.symm e))];exact h k' s' hk2
   refine hrest k s ?_;have pl:∀(J:List (Nat×E1))(z:TJ J)(a:AT),AT.get (place J z a) k=AT.get (place J z (List.filter (λq=>q.1 != x.1) a)) k:=by
    intro J
    induction J with
    | nil=>
     intro z a;simp only[place]
     induction a with
     | nil=>rfl
     | cons q a ih=>
      obtain⟨q1,q2⟩:=q;by_cases eq:q1=x.1
      ·subst eq;rw[List.filter_cons_of_neg (by simp),ZM,if_neg e];exact ih
      ·rw[List.filter_cons_of_pos (by simpa using eq),ZM,ZM,ih]
    | cons q J ih=>
     intro z a;obtain⟨q1,q2⟩:=q;simp only[place];rw[ZM,ZM,ih]
   rw[←pl];exact hk
def KR{J:Nat→Prop}(h:∃n,J n):∃n,J n∧∀m,J m→n≤m:=by
 obtain⟨n,hn⟩:=h
 induction n using Nat.strongRecOn with
 | _ n ih=>
  by_cases h2:∃m,m<n∧J m
  ·obtain⟨m,hm,hj⟩:=h2;exact ih m hm hj
  ·exact⟨n,hn,λm hm=>Nat.le_of_not_lt λhlt=>h2 ⟨m,hlt,hm⟩⟩
def Ub{F:Fence}{x:Code}{Q:Exit→Act→World→Prop}{c:Act}{w:World}(J:Nat→Act→World→Prop)(h0:∃n,J n c w)
  (round:∀n c w,J n c w→x.wpIn F 0 P (Exit.then (λc' w'=>∃m,m<n∧J m c' w') Q) c w):(Code.loop x).wpIn F 0 P Q c w:=by
 have pick:∀c w,∃k,(∃n,J n c w)→J k c w∧∀m,J m c w→k≤m:=by
  intro c w;by_cases h:∃n,J n c w
  ·obtain⟨k,hk⟩:=KR h;exact⟨k,λ_=>hk⟩
  ·exact⟨0,λh'=>absurd h' h⟩
 refine wpIn_loop (λc w=>∃n,J n c w) (λc w=>Classical.choose (pick c w)) h0 λc w h=>?_;obtain⟨h1,h2⟩:=Classical.choose_spec (pick c w) h;refine wpIn_mono (round _ c w h1) ?_;intro e c' w' hq
 cases e with
 | normal=>
  obtain⟨m,hm,hj⟩:=hq;have:=(Classical.choose_spec (pick c' w') ⟨m,hj⟩).2 m hj;exact⟨⟨m,hj⟩,by omega⟩
 | _=>exact hq
def uG{K:X→AT→List Nat→PT}{a:AT}{ds:List Nat}{id:Nat}{w:World}:∀{E:List Nat},QN id (E.map λi=>(i,K (.exit i) a ds)) w→K (.exit id) a ds w
 | [],h=>h.elim
 | i::E,h=>by
  simp only[List.map_cons,QN]at h;by_cases e:id=i
  ·subst e;rw[if_pos rfl]at h;exact h
  ·rw[if_neg e]at h;exact uG h
def VW(P:Program)(D:Tb)(x:Code):Prop:=∀(an:Ann)(ro:Option Nat)(a:AT)(ds:List Nat)(K:X→AT→List Nat→PT)(N:Nat)(w:World)(c:Act),inB N x=true→den P D x an ro a ds K w→ok a c→c.tmps.size=N→c.defers=YW ds→
  x.wpIn (FR ro) 0 P (qU x K N c) c w
def XG{fv:Value}{args:List Value}{w:World}{R:Value→World→Prop}(h:xp P fv args w R) :
  ∃f first cap,fv = .func (.func f) first cap∧jX P f∧Calls P f (first++args.toArray++cap) w λe w'=>∃v,e = .returned v∧R v w':=by
 unfold xp at h;split at h
 ·exact⟨_,_,_,rfl,h⟩
 ·exact h.elim
def UA(fn:FuncId)(tmps:Array Value)(ps:Array Tmp)(assign body:Code)(w:World):(Instr.enterLoop fn tmps ps assign body (FR none).round).run P w =
  .ok (w.heap.size+1,YW [w.heap.size]) ((w.alloc (.deferred (some []))).alloc (.loop { state:=.ready,pending:=none,fn,tmps,params:=ps,assign,body,defers:=w.heap.size })):=run_enterLoop_outer _ _ _ _ _
def Uz{fn:FuncId}{tmps:Array Value}{ps:Array Tmp}{assign body:Code}{w:World}{l0:Nat}{r0:Loop}(h:w.heap[l0]? = some (.loop r0)):(Instr.enterLoop fn tmps ps assign body (FR (some l0)).round).run P w =
  .ok (w.heap.size,YW []) (w.alloc (.loop { state:=.ready,pending:=none,fn,tmps,params:=ps,assign,body,defers:=r0.defers })):=run_enterLoop_inner h _ _ _ _ _
def JW{c:Act}{g:Operand}{l:Nat}{f:FuncId}{first cap:Array Value}{w:World}(h:c.eval g = .func (.func f) first cap) :
  (resolve c.eval (rangeCall g l) 0).run P w = .ok { target:=.fn (.func f) cap,args:=first++[Value.func (.yield l) #[] #[]].toArray } w:=by
 have e:c.eval (.const (.func (.yield l) #[] #[])) = .func (.yield l) #[] #[]:=rfl;simp[resolve,rangeCall,h,Deferred.ofValue,e]
def xL{l:Nat}{f:FuncId}{first cap:Array Value}{w:World}(h:jX P f) :
  (invoke (.fn (.func f) cap) (first++[Value.func (.yield l) #[] #[]].toArray)).run P w = .ok (.enter f (first++[Value.func (.yield l) #[] #[]].toArray++cap)) w:=by
 simp[invoke,h _ _]
def Vb{g:Operand}{ps:Array Tmp}{assign body:Code}(iha:VW P D assign)(ihb:VW P D body):VW P D (.rangeFunc g ps assign body):=by
 intro an ro a ds K N w c hin h ho hN hd;simp only[inB,Bool.and_eq_true]at hin;simp only[den]at h
 cases hj:an.j with
 | none=>rw[hj]at h;exact h.elim
 | some J=>
  rw[hj]at h;dsimp only at h;by_cases hps:ps.toList=J.map (·.1)∧XB ps.toList=true
  ·rw[if_pos hps]at h;obtain⟨s,hs,h⟩:=zw h;have he:=Zx ho hs;have hlen:∀y:TT (J.map (·.2)),(TV (J.map (·.2)) y).length=ps.size:=by
    have key:∀(es:List E1)(y:TT es),(TV es y).length=es.length:=by
     intro es
     induction es with
     | nil=>intro y;rfl
     | cons e es ih=>intro y;simp[TV,ih]
    intro y;rw[key,List.length_map];have:=congrArg List.length hps.1;simp at this;omega
   have round:∀(l:Nat)(fn:FuncId)(dfs:Nat)(st:LoopState)(pd:Option Code)(y:TT (J.map (·.2)))(w':World)(R:Value→World→Prop),
     w'.heap[l]? = some (.loop { state:=st,pending:=pd,fn,tmps:=c.tmps,params:=ps,assign,body,defers:=dfs })→
     den P D assign an.l (some l) (place J (den.tjOf J y) a) [] (λe a' ds'=>match e with
      | .normal=>L.begin P l (den P D body an.r (some l) a' ds' λe _ _=>match e with
       | .normal=>L.endRound P l none R
       | .ret=>L.endRound P l (some .ret) R
       | .exit id=>L.endRound P l (some (.exit id)) R
       | .goto t=>L.endRound P l (some (.goto t)) R)
      | _=>bad) w'→
     YI P (.func (.yield l) #[] #[]) (TV (J.map (·.2)) y) w' R:=by
    intro l fn dfs st pd y w' R hl hb;refine⟨rfl,rfl,_,hl,hlen y,?_⟩;refine roundIn_of_wpIn trivial ?_;have hfold:(ps.zip (TV (J.map (·.2)) y).toArray).foldl (λtmps(t,a)=>tmps.setIfInBounds t a) c.tmps=((J.map (·.1)).zip (TV (J.map (·.2)) y)).foldl (λt x=>t.setIfInBounds x.1 x.2) c.tmps:=by
     rw[←Array.foldl_toList,Array.toList_zip,hps.1]
    dsimp only;rw[hfold];have hsz:(((J.map (·.1)).zip (TV (J.map (·.2)) y)).foldl (λt x=>t.setIfInBounds x.1 x.2) c.tmps).size=N:=by rw[qx,hN]
    have hok:ok (place J (den.tjOf J y) a) { tmps:=((J.map (·.1)).zip (TV (J.map (·.2)) y)).foldl (λt x=>t.setIfInBounds x.1 x.2) c.tmps,defers:=[] }:=by
     refine xH (by rw[←hps.1];exact hps.2) (λx hx=>?_) ho;have:x.1∈ps.toList:=by rw[hps.1];exact List.mem_map_of_mem hx
     have:=List.all_eq_true.1 hin.1.1 x.1 this;rw[Nat.blt_eq]at this;rw[hN];exact this
    refine wpIn_mono (iha _ (some l) _ [] _ N w' _ hin.1.2 hb hok hsz rfl) ?_;intro e c1 w1 hq
    cases e with
    | normal=>
     obtain⟨a',ds',hk,ho',hN',hd',hf,hg⟩:=hq;obtain⟨w2,hbr,hk⟩:=hk;refine⟨w2,hbr,wpIn_mono (ihb _ (some l) a' ds' _ N w2 c1 hin.2 hk ho' hN' hd') ?_⟩;intro e c2 w3 hq;obtain⟨a2,ds2,hk,-⟩:=hq
     cases e with
     | normal=>obtain⟨v,w4,hr,hR⟩:=hk;exact⟨v,w4,hr,v,rfl,hR⟩
     | ret=>obtain⟨v,w4,hr,hR⟩:=hk;exact⟨v,w4,hr,v,rfl,hR⟩
     | exit id=>obtain⟨v,w4,hr,hR⟩:=hk;exact⟨v,w4,hr,v,rfl,hR⟩
     | goto t=>obtain⟨v,w4,hr,hR⟩:=hk;exact⟨v,w4,hr,v,rfl,hR⟩
     | _=>exact hk.elim
    | _=>obtain⟨a2,ds2,hk,-⟩:=hq;exact hk.elim
   have after:∀(d:List Nat)(l:Nat)(v:Value)(w2:World),(∃jump w3,(Instr.endLoop l).run P w2 = .ok jump w3∧Vt K a (d++ds) (Qw (yS body)) jump w3)→
     rangePost (FR ro) 0 P l (qU (.rangeFunc g ps assign body) K N c) { c with defers:=YW d++c.defers } (.returned v) w2:=by
    rintro d l v w2 ⟨jump,w3,hend,hk⟩;have hpost:∀(e:Exit)(w:World),XK K a (d++ds) e w→qU (.rangeFunc g ps assign body) K N c e { c with defers:=YW d++c.defers } w:=λe w hk=>
     ⟨a,d++ds,hk,ho,hN,by simp[YW,hd],λ_ _=>rfl,λh=>by simp[zH]at h⟩
    refine⟨jump,w3,hend,?_⟩
    cases jump with
    | none=>exact hpost .normal w3 hk
    | some j=>
     cases j with
     | ret=>exact wpIn_ret (hpost .ret w3 hk)
     | exit id=>exact wpIn_exit (hpost (.exit id) w3 (uG hk))
     | _=>exact hk.elim
   refine wpIn_rangeFunc λfn _=>?_
   cases ro with
   | none=>
    have h:=h { state:=.ready,pending:=none,fn,tmps:=c.tmps,params:=ps,assign,body,defers:=w.heap.size } rfl rfl
     (λy st pd w' R hl hb=>round _ fn _ st pd y w' R hl hb)
    obtain⟨f,first,cap,hfv,hen,hcall⟩:=XG h
    have hc':CallsIn (FR none) 0 P f _ _ (rangePost (FR none) 0 P (w.heap.size+1) (qU (.rangeFunc g ps assign body) K N c) { c with defers:=YW [w.heap.size]++c.defers }):=
     xl (hcall.mono λe w2 ⟨v,he,hk⟩=>by subst he;exact after [w.heap.size] _ v w2 hk)
    exact⟨_,_,_,_,_,_,_,_,UA ..,JW (by rw[he,hfv]),λ_ _=>trivial,xL hen,λh=>by simp[FR]at h,hc'⟩
   | some l0=>
    obtain⟨r0,hl0,h⟩:=h
    have h:=h { state:=.ready,pending:=none,fn,tmps:=c.tmps,params:=ps,assign,body,defers:=r0.defers } rfl rfl
     (λy st pd w' R hl hb=>round _ fn _ st pd y w' R hl hb)
    obtain⟨f,first,cap,hfv,hen,hcall⟩:=XG h
    have hc':CallsIn (FR (some l0)) 0 P f _ _ (rangePost (FR (some l0)) 0 P w.heap.size (qU (.rangeFunc g ps assign body) K N c) { c with defers:=YW []++c.defers }):=
     xl (hcall.mono λe w2 ⟨v,he,hk⟩=>by subst he;exact after [] _ v w2 hk)
    exact⟨_,_,_,_,_,_,_,_,Uz hl0,JW (by rw[he,hfv]),λ_ _=>trivial,xL hen,λh=>by simp[FR]at h,hc'⟩
  ·rw[if_neg hps]at h;exact h.elim
def Ko(T:yy P D):∀(x:Code)(an:Ann)(ro:Option Nat)(a:AT)(ds:List Nat)(K:X→AT→List Nat→PT)(N:Nat)(w:World)(c:Act),inB N x=true→den P D x an ro a ds K w→ok a c→c.tmps.size=N→c.defers=YW ds→
  x.wpIn (FR ro) 0 P (qU x K N c) c w:=by
 intro x
 induction x with
 | skip=>intro an ro a ds K N w c hin h ho hN hd;exact wpIn_skip ⟨a,ds,h,ho,hN,hd,λ_ _=>rfl,λ_=>rfl⟩
 | label l=>intro an ro a ds K N w c hin h ho hN hd;exact wpIn_label ⟨a,ds,h,ho,hN,hd,λ_ _=>rfl,λ_=>rfl⟩
 | exit id=>intro an ro a ds K N w c hin h ho hN hd;exact wpIn_exit ⟨a,ds,h,ho,hN,hd,λ_ _=>rfl,λ_=>rfl⟩
 | goto l=>intro an ro a ds K N w c hin h ho hN hd;exact wpIn_goto ⟨a,ds,h,ho,hN,hd,λ_ _=>rfl,λ_=>rfl⟩
 | ret=>intro an ro a ds K N w c hin h ho hN hd;exact wpIn_ret ⟨a,ds,h,ho,hN,hd,λ_ _=>rfl,λ_=>rfl⟩
 | refuse s=>intro an ro a ds K N w c hin h;exact h.elim
 | scope b _=>intro an ro a ds K N w c hin h;exact h.elim
 | region id ops draw=>
  intro an ro a ds K N w c hin h ho hN hd
  cases draw with
  | false=>
   simp only[den]at h;exact Uh T hin h ho hN hd λc' w' ⟨a',hk,ho',hN',hd'⟩ hf=>⟨a',ds,hk,ho',hN',hd',hf,λ_=>by rw[hd',hd]⟩
  | true=>
   simp only[den]at h
   cases hj:an.j with
   | none=>
    rw[hj]at h;dsimp only at h;by_cases hB:Jo D ops.toList (Zq ops.toList [])=true
    ·rw[if_pos hB]at h;exact XL T hin hB h ho hN hd λc' w' ⟨a',hk,ho',hN',hd'⟩ hf=>⟨a',ds,hk,ho',hN',hd',hf,λ_=>by rw[hd',hd]⟩
    ·rw[if_neg hB]at h;exact h.elim
   | some J=>
    rw[hj]at h;dsimp only at h;by_cases hB:Jo D ops.toList (Zq ops.toList [])=true
    ·rw[if_pos hB]at h;refine XL T hin hB h ho hN hd λc' w' ⟨a',hk,ho',hN',hd'⟩ hf=>?_;dsimp only at hk
     cases hc:ZZ J a' with
     | none=>rw[hc]at hk;exact hk.elim
     | some y=>
      rw[hc]at hk;exact⟨_,ds,hk,jb hc ho' (XU ho hf),hN',hd',hf,λ_=>by rw[hd',hd]⟩
    ·rw[if_neg hB]at h;exact h.elim
 | seq x y ihx ihy=>
  intro an ro a ds K N w c hin h ho hN hd;simp only[inB,Bool.and_eq_true]at hin;simp only[den]at h;have dx:∀t,t∈Yv x→t∈Yv (.seq x y):=λt ht=>List.mem_append_left _ ht;have dy:∀t,t∈Yv y→t∈Yv (.seq x y):=λt ht=>List.mem_append_right _ ht;have rx:zH (.seq x y)=false→zH x=false:=λh=>by simp only[zH,Bool.or_eq_false_iff]at h;exact h.1
  have ry:zH (.seq x y)=false→zH y=false:=λh=>by simp only[zH,Bool.or_eq_false_iff]at h;exact h.2
  refine wpIn_seq ?_
  cases hj:an.j with
  | none=>
   rw[hj]at h;dsimp only at h;refine wpIn_mono (ihx _ ro a ds _ N w c hin.1 h ho hN hd) ?_;intro e c' w' hq
   cases e with
   | normal=>
    obtain⟨a',ds',hk,ho',hN',hd',hf,hg⟩:=hq;refine wpIn_mono (ihy _ ro a' ds' K N w' c' hin.2 hk ho' hN' hd') ?_;intro e c2 w2 hq;exact Yl hq (λ_ _ h=>h) dy ry (λt ht=>hf t (λhx=>ht (dx t hx))) (λh=>hg (rx h))
   | _=>exact Yl hq (λ_ _ h=>h) dx rx (λ_ _=>rfl) (λ_=>rfl)
  | some J=>
   rw[hj]at h;dsimp only at h
   cases hr:zH x with
   | true=>rw[hr]at h;exact h.elim
   | false=>
    rw[hr,if_neg (by simp)]at h;refine wpIn_mono (ihx _ ro a ds _ N w c hin.1 h ho hN hd) ?_;intro e c' w' hq
    cases e with
    | normal=>
     obtain⟨a',ds',hk,ho',hN',hd',hf,hg⟩:=hq;simp only[XK]at hk
     cases hc:ZZ J a' with
     | none=>rw[hc]at hk;exact hk.elim
     | some z=>
      rw[hc]at hk;refine wpIn_mono (ihy _ ro _ ds K N w' c' hin.2 hk (jb hc ho' (XU ho hf)) hN' (by rw[hg hr,hd])) ?_;intro e c2 w2 hq;exact Yl hq (λ_ _ h=>h) dy ry (λt ht=>hf t (λhx=>ht (dx t hx))) (λh=>hg (rx h))
    | _=>exact Yl hq (λ_ _ h=>h) dx rx (λ_ _=>rfl) (λ_=>rfl)
 | cond v x y ihx ihy=>
  intro an ro a ds K N w c hin h ho hN hd;simp only[inB,Bool.and_eq_true]at hin;have dx:∀t,t∈Yv x→t∈Yv (.cond v x y):=λt ht=>List.mem_append_left _ ht;have dy:∀t,t∈Yv y→t∈Yv (.cond v x y):=λt ht=>List.mem_append_right _ ht;have rx:zH (.cond v x y)=false→zH x=false:=λh=>by simp only[zH,Bool.or_eq_false_iff]at h;exact h.1
  have ry:zH (.cond v x y)=false→zH y=false:=λh=>by simp only[zH,Bool.or_eq_false_iff]at h;exact h.2
  have L:den P D x an.l ro a ds K w→x.wpIn (FR ro) 0 P (qU (.cond v x y) K N c) c w:=λh=>wpIn_mono (ihx _ ro a ds K N w c hin.1 h ho hN hd) λe c' w' hq=>Yl hq (λ_ _ h=>h) dx rx (λ_ _=>rfl) (λ_=>rfl);have R:den P D y an.r ro a ds K w→y.wpIn (FR ro) 0 P (qU (.cond v x y) K N c) c w:=λh=>wpIn_mono (ihy _ ro a ds K N w c hin.2 h ho hN hd) λe c' w' hq=>Yl hq (λ_ _ h=>h) dy ry (λ_ _=>rfl) (λ_=>rfl);simp only[den]at h
  cases hv:a.ev v with
  | none=>rw[hv]at h;exact h.elim
  | some s=>
   have he:=Zx ho hv;rw[hv]at h
   cases s with
   | lit b=>
    cases b with
    | true=>exact wpIn_cond (t:=true) he (L h)
    | false=>exact wpIn_cond (t:=false) he (R h)
   | v q=>
    cases q with
    | bool b=>exact wpIn_cond_split he (λhb=>L (h.1 hb)) (λhb=>R (h.2 hb))
    | _=>exact h.elim
   | _=>exact h.elim
 | block id x ih=>
  intro an ro a ds K N w c hin h ho hN hd;simp only[den]at h;refine wpIn_block (wpIn_mono (ih an ro a ds _ N w c hin h ho hN hd) ?_);intro e c' w' hq
  cases e with
  | exit id'=>
   show if id'=id then _ else _
   by_cases e:id'=id
   ·subst e;rw[if_pos rfl];obtain⟨a',ds',hk,r⟩:=hq;refine⟨a',ds',?_,r⟩;simp only[XK,if_true]at hk;exact hk
   ·rw[if_neg e];obtain⟨a',ds',hk,r⟩:=hq;refine⟨a',ds',?_,r⟩;simp only[XK,if_neg e]at hk;exact hk
  | _=>exact hq
 | loop x ih=>
  intro an ro a ds K N w c hin h ho hN hd;simp only[den]at h
  cases hj:an.j with
  | none=>rw[hj]at h;exact h.elim
  | some J=>
   rw[hj]at h;dsimp only at h
   cases hr:zH x with
   | true=>rw[hr]at h;exact h.elim
   | false=>
    rw[hr,if_neg (by simp)]at h
    cases hc:ZZ J a with
    | none=>rw[hc]at h;exact h.elim
    | some y0=>
     rw[hc]at h;obtain⟨Inv,⟨n0,h0⟩,hround⟩:=h
     refine Ub (λn c' w'=>∃y,Inv n y w'∧ok (place J y (XO (Yv x) a)) c'∧c'.tmps.size=N∧c'.defers=c.defers∧∀t,t∉Yv x→c'.tmps[t]? = c.tmps[t]?)
      ⟨n0,y0,h0,jb hc ho (XU ho λ_ _=>rfl),hN,rfl,λ_ _=>rfl⟩ ?_
     rintro n c1 w1 ⟨y,hi,ho1,hN1,hd1,hf1⟩;refine wpIn_mono (ih _ ro _ ds _ N w1 c1 hin (hround n y w1 hi) ho1 hN1 (by rw[hd1,hd])) ?_;intro e c2 w2 hq
     cases e with
     | normal=>
      obtain⟨a',ds',hk,ho',hN',hd',hf,hg⟩:=hq;simp only[XK]at hk
      cases hc':ZZ J a' with
      | none=>rw[hc']at hk;exact hk.elim
      | some y'=>
       rw[hc']at hk;obtain⟨m,hm,him⟩:=hk;have hf':∀t,t∉Yv x→c2.tmps[t]? = c.tmps[t]? :=λt ht=>by rw[hf t ht,hf1 t ht]
       exact⟨m,hm,y',him,jb hc' ho' (XU ho hf'),hN',by rw[hg hr,hd1],hf'⟩
     | _=>exact Yl hq (λ_ _ h=>h) (λ_ h=>h) (λh=>h) (λt ht=>hf1 t ht) (λ_=>hd1)
 | rangeFunc g ps assign body iha ihb=>intro an ro a ds K N w c hin h ho hN hd;exact Vb iha ihb an ro a ds K N w c hin h ho hN hd
end
end Go.Dm
namespace Go.Dm
section
variable {P:Program}{D:Tb}
def Xf(tmps:Array Value):ResultVar→Sem Value
 | .tmp t=>pure (tmps.getD t undef)
 | .cell a t=>do loadVar t (←asAddr (tmps.getD a undef))
def Uj(fn:Func)(tmps:Array Value):results fn tmps=(do let vs ←fn.results.mapM (Xf tmps);pure (if h:vs.size=1 then vs[0]else .tuple vs)):=by
 unfold results;rfl
def Xr(T:yy P D){a:AT}{c:Act}{w:World}(ho:ok a c):∀(l:List ResultVar)(K:List Value→PT),Jr D a l K w→∃vs,(l.mapM (Xf c.tmps)).run P w = .ok vs w∧K vs w
 | [],K,h=>⟨[],by simp,h⟩
 | .tmp t::r,K,h=>by
  simp only[Jr]at h
  cases hs:a.get t with
  | none=>rw[hs]at h;exact h.elim
  | some s=>
   rw[hs]at h;obtain⟨vs,hr,hk⟩:=Xr T ho r _ h;refine⟨s.toV::vs,?_,hk⟩;have:=ho t s hs;simp[List.mapM_cons,Xf,Array.getD_eq_getD_getElem?,this,Sem.run_bind,hr]
 | .cell p t::r,K,h=>by
  simp only[Jr]at h;obtain⟨s,hs,h⟩:=zw h;have hp:=ho p s hs
  cases s with
  | v y=>cases y with
   | pointer q=>cases q with
    | none=>exact h.elim
    | some ad=>
     dsimp only at h
     cases hD:D.t t with
     | none=>rw[hD]at h;exact h.elim
     | some ti=>
      obtain⟨td,n,e1,z⟩:=ti;rw[hD]at h
      cases e1 with
      | none=>exact h.elim
      | some e=>
       obtain⟨x,hc,h⟩:=h;obtain⟨vs,hr,hk⟩:=Xr T ho r _ h;refine⟨e.val x::vs,?_,hk⟩;have hl:=uo T hD rfl hc;have ha:(asAddr (c.tmps.getD p undef)).run P w = .ok ad w:=by
        rw[Array.getD_eq_getD_getElem?,hp];simp[SV.toV,asAddr]
       rw[Array.getD_eq_getD_getElem?]at ha;simp[List.mapM_cons,Xf,Sem.run_bind,ha,hl,hr]
   | _=>exact h.elim
  | _=>exact h.elim
def vq:∀(vs:List Value),(if h:vs.toArray.size=1 then vs.toArray[0]else .tuple vs.toArray)=XZ vs
 | []=>rfl
 | [v]=>rfl
 | _::_::_=>rfl
def Xl(T:yy P D){fn:Func}{a:AT}{c:Act}(ho:ok a c){K:Value→PT}:∀(ds:List Nat)(w:World),L.unmark P ds (Jr D a fn.results.toList λvs=>K (XZ vs)) w→
  LeavesInM (FR none) 0 P fn c.tmps (λe w'=>∃v,e = .returned v∧K v w') (YW ds) .returning w
 | [],w,h=>by
  obtain⟨vs,hr,hk⟩:=Xr T ho _ _ h;refine⟨XZ vs,?_,_,rfl,hk⟩;rw[Uj,←vq,Sem.run_bind];have e:fn.results.mapM (Xf c.tmps)=(do let l ←fn.results.toList.mapM (Xf c.tmps);pure l.toArray):=by
   rw[Array.mapM_eq_mapM_toList];rfl
  rw[e,Sem.run_bind,hr];simp
 | d::ds,w,h=>by
  obtain⟨w',hr,h⟩:=h;exact⟨by simp,.inl ⟨d,w',rfl,hr,Xl T ho ds w' h⟩⟩
def okF(n:Nat)(fn:Func):Bool:=match fn.body with
 | some c=>inB fn.ntmps c&&Nat.ble n fn.ntmps
 | none=>false
def uU:∀(args:List SV)(n t:Nat)(s:SV),(uV n args).get t=some s→n≤t∧(ZU args)[t-n]? = some s.toV
 | [],n,t,s,h=>by cases h
 | v::vs,n,t,s,h=>by
  simp only[uV]at h;rw[ZM]at h;by_cases e:n=t
  ·subst e;rw[if_pos rfl]at h;cases h;exact⟨Nat.le_refl _,by simp[ZU]⟩
  ·rw[if_neg e]at h;obtain⟨h1,h2⟩:=uU vs (n+1) t s h;refine⟨by omega,?_⟩;have:t-n=(t-(n+1))+1:=by omega
   rw[this];simpa [ZU]using h2
def ug:∀(l:List SV),(ZU l).length=l.length
 | []=>rfl
 | _::l=>by simp[ZU,ug l]
def UW(T:yy P D){f:FuncId}{fn:Func}{an:Ann}{args:List SV}{K:Value→PT}{w:World}(hf:P.funcs[f]? = some fn)(hin:okF args.length fn=true)(h:vO P D fn an args K w) :
  Calls P f (ZU args).toArray w λe w'=>∃v,e = .returned v∧K v w':=by
 unfold okF at hin;unfold vO at h
 cases hb:fn.body with
 | none=>rw[hb]at h;exact h.elim
 | some c=>
  rw[hb]at h hin;simp only[Bool.and_eq_true,Nat.ble_eq]at hin;dsimp only at h;have h0:CallsIn (FR none) 0 P f (ZU args).toArray w λe w'=>∃v,e = .returned v∧K v w':=by
   refine callsIn_of_wp_marks hf hb trivial (wpIn_mono (Ko T c an none _ [] _ fn.ntmps w _ hin.1 h ?_ ?_ rfl) ?_)
   ·intro t s hs;obtain⟨_,h2⟩:=uU args 0 t s hs;rw[Nat.sub_zero]at h2;simp only;rw[Array.getElem?_append_left (by simpa using(List.getElem?_eq_some_iff.1 h2).1)];simpa using h2
   ·have:=ug args;simp;omega
   ·intro e c' w' hq;obtain⟨a',ds',hk,ho',hN',hd',-,-⟩:=hq
    cases e with
    | normal=>show LeavesInM _ _ _ _ _ _ _ _ _;rw[hd'];exact Xl T ho' ds' w' hk
    | ret=>show LeavesInM _ _ _ _ _ _ _ _ _;rw[hd'];exact Xl T ho' ds' w' hk
    | _=>exact hk.elim
  exact callsIn_wide.1 h0
end
end Go.Dm
namespace Go.Dm
def Jq:List Edge→Nat
 | []=>0
 | e::r=>cond (Region.binds .any e) (Nat.lor (2 ^ e.on) (Jq r)) (Jq r)
structure Qo where
 m:Nat
 k:Bool
 i:Nat
 o:Oper
def Ya(D:Tb):List (Nat×Oper)→List Qo
 | []=>[]
 | x::r=>⟨Jq x.2.after.toList,Nat.blt (zz D x.2.op) 2,x.1,x.2⟩::Ya D r
def avQ(Sb:Nat)(y:Qo):Bool:=Nat.beq (Nat.land y.m Sb) 0
def qy(Sb:Nat):List Qo→Option Qo
 | []=>none
 | y::r=>cond (y.k&&avQ Sb y) (some y) (qy Sb r)
def jV(Sb:Nat):List Qo→List Qo
 | []=>[]
 | y::r=>cond (avQ Sb y) (y::jV Sb r) (jV Sb r)
def Qu(i:Nat):List Qo→List Qo
 | []=>[]
 | y::r=>cond (Nat.beq y.i i) r (y::Qu i r)
def Yg(P:Program)(D:Tb)(ops:List Oper)(gs:GS)(ms:List Nat):Nat→List Qo→Nat→List (Nat×Chk)→AT→(AT→PT)→PT
 | 0,S,_,_,a,K=>if S.isEmpty then K a else bad
 | n+1,S,Sb,C,a,K=>
  match qy Sb S with
  | some y=>xT P D ops gs y.i y.o a λa'=>Yg P D ops gs ms n (Qu y.i S) (Nat.xor Sb (2 ^ y.i)) (YC D y.i y.o a a' C) a' K
  | none=>if S.isEmpty then K a else
   QZ ((jV Sb S).map λy=>
    xT P D ops gs y.i y.o a λa'=>jW P (yb ms y.i) C (Yg P D ops gs ms n (Qu y.i S) (Nat.xor Sb (2 ^ y.i)) C a' K))
def jn(P:Program)(D:Tb):Code→Ann→Option Nat→AT→List Nat→(X→AT→List Nat→PT)→PT
 | .skip,_,_,a,ds,K=>K .normal a ds
 | .label _,_,_,a,ds,K=>K .normal a ds
 | .region _ ops false,an,_,a,ds,K=>Xq P D ops.toList ⟨Zf ops.toList,an.sure⟩ (Zm 0 ops.toList) a λa=>K .normal a ds
 | .region _ ops true,an,_,a,ds,K=>
  match an.j with
  | none=>if Jo D ops.toList (Zq ops.toList [])then L.draw<| Yg P D ops.toList ⟨Zf ops.toList,an.sure⟩ (Zq ops.toList []) ops.toList.length (Ya D (Zm 0 ops.toList)) (2 ^ ops.toList.length-1) [] a λa=>K .normal a ds else bad
  | some J=>if Jo D ops.toList (Zq ops.toList [])then L.join (λk=>L.draw<| Yg P D ops.toList ⟨Zf ops.toList,an.sure⟩ (Zq ops.toList []) ops.toList.length (Ya D (Zm 0 ops.toList)) (2 ^ ops.toList.length-1) [] a λa=>
    match ZZ J a with | some y=>k y | none=>bad) λy=>K .normal (place J y (XO (Yq ops.toList) a)) ds else bad
 | .seq x y,an,ro,a,ds,K=>
  match an.j with
  | none=>jn P D x an.l ro a ds λe a ds=>match e with
   | .normal=>jn P D y an.r ro a ds K
   | e=>K e a ds
  | some J=>if zH x then bad else L.join (λk=>jn P D x an.l ro a ds λe a' ds'=>match e with
    | .normal=>match ZZ J a' with | some y=>k y | none=>bad
    | e=>K e a' ds') λz=>jn P D y an.r ro (place J z (XO (Yv x) a)) ds K
 | .cond c x y,an,ro,a,ds,K=>
  match a.ev c with
  | some (.lit true)=>jn P D x an.l ro a ds K
  | some (.lit false)=>jn P D y an.r ro a ds K
  | some (.v (.bool b))=>L.ite b (jn P D x an.l ro a ds K) (jn P D y an.r ro a ds K)
  | _=>bad
 | .block id c,an,ro,a,ds,K=>jn P D c an ro a ds λe a ds=>match e with
  | .exit id'=>if id'=id then K .normal a ds else K (.exit id') a ds
  | e=>K e a ds
 | .loop c,an,ro,a,ds,K=>
  match an.j with
  | none=>bad
  | some J=>if zH c then bad else match ZZ J a with
   | none=>bad
   | some y0=>L.loop y0 λy again=>jn P D c an.l ro (place J y (XO (Yv c) a)) ds λe a' ds'=>match e with
    | .normal=>match ZZ J a' with | some y'=>again y' | none=>bad
    | e=>K e a' ds'
 | .exit id,_,_,a,ds,K=>K (.exit id) a ds
 | .goto l,_,_,a,ds,K=>K (.goto l) a ds
 | .ret,_,_,a,ds,K=>K .ret a ds
 | .rangeFunc g ps assign body,an,ro,a,ds,K=>
  match an.j with
  | none=>bad
  | some J=>if ps.toList=J.map (·.1)∧XB ps.toList=true then
   zk (a.ev g) λfv=>L.range P ro fv.toV (J.map (·.2))
    (λl y R=>jn P D assign an.l (some l) (place J (den.tjOf J y) a) [] λe a' ds'=>match e with
     | .normal=>L.begin P l (jn P D body an.r (some l) a' ds' λe _ _=>match e with
      | .normal=>L.endRound P l none R
      | .ret=>L.endRound P l (some .ret) R
      | .exit id=>L.endRound P l (some (.exit id)) R
      | .goto t=>L.endRound P l (some (.goto t)) R)
     | _=>bad)
    (λd jump=>Vt K a (d++ds) (Qw (yS body)) jump)
   else bad
 | _,_,_,_,_,_=>bad
def kX(P:Program)(D:Tb)(fn:Func)(an:Ann)(args:List SV)(K:Value→PT):PT:=
 match fn.body with
 | none=>bad
 | some c=>jn P D c an none (uV 0 args) [] λe a ds=>match e with
  | .normal | .ret=>L.unmark P ds (Jr D a fn.results.toList λvs=>K (XZ vs))
  | _=>bad
end Go.Dm
namespace Go.Dm
variable {P:Program}{D:Tb}{ops:List Oper}{gs:GS}{ms:List Nat}
def kG(S i:Nat):S &&& 2 ^ i=if S.testBit i then 2 ^ i else 0:=by
 refine Nat.eq_of_testBit_eq λj=>?_;rw[Nat.testBit_and,Nat.testBit_two_pow];by_cases h:i=j
 ·subst h
  cases hs:S.testBit i<;>simp[Nat.testBit_two_pow]
 ·cases hs:S.testBit i<;>simp[Nat.testBit_two_pow,h]
def UU(Sb:Nat):∀(l:List Edge),Nat.beq (Nat.land (Jq l) Sb) 0=l.all λe=>!Region.binds .any e|| !Sb.testBit e.on
 | []=>by
  show Nat.beq (Nat.land 0 Sb) 0=true;rw[show Nat.land 0 Sb=0 from Nat.zero_and Sb];rfl
 | e::r=>by
  have ih:=UU Sb r;rw[List.all_cons,←ih];show Nat.beq (Nat.land (cond (Region.binds .any e) (Nat.lor (2 ^ e.on) (Jq r)) (Jq r)) Sb) 0=_
  cases hb:Region.binds .any e with
  | false=>rfl
  | true=>
   show Nat.beq (Nat.land (Nat.lor (2 ^ e.on) (Jq r)) Sb) 0=((false|| !Sb.testBit e.on)&&_);have h1:Nat.land (Nat.lor (2 ^ e.on) (Jq r)) Sb=(Sb &&& 2 ^ e.on) ||| (Jq r &&& Sb):=by
    rw[Nat.and_comm Sb];exact Nat.and_or_distrib_right _ _ _
   rw[h1,kG]
   cases ht:Sb.testBit e.on with
   | false=>
    rw[if_neg (by simp),Nat.zero_or];rfl
   | true=>
    rw[if_pos rfl];have h2:(2 ^ e.on ||| (Jq r &&& Sb))≠0:=λh=>by
     have:=Nat.two_pow_pos e.on;have h3:=(Nat.or_eq_zero_iff.1 h).1;omega
    cases h4:Nat.beq (2 ^ e.on ||| (Jq r &&& Sb)) 0 with
    | false=>rfl
    | true=>exact absurd (Nat.eq_of_beq_eq_true h4) h2
def xo(S:List (Nat×Oper))(j:Nat):Bool:=S.any λx=>x.1 == j
def VH{S:List (Nat×Oper)}{Sb:Nat}(h:∀j,Sb.testBit j=xo S j)(D:Tb)(x:Nat×Oper) :
  avQ Sb ⟨Jq x.2.after.toList,Nat.blt (zz D x.2.op) 2,x.1,x.2⟩=yt S x.2:=by
 show Nat.beq (Nat.land (Jq x.2.after.toList) Sb) 0=_;rw[UU];unfold yt
 congr 1;funext e
 rw[h];rfl
def oP(n:Nat):Nat.blt n 2=decide (n<2):=by
 cases h:Nat.blt n 2 with
 | true=>exact(decide_eq_true (Nat.le_of_ble_eq_true h)).symm
 | false=>exact(decide_eq_false λh'=>by
   have h1:Nat.blt n 2=true:=Nat.ble_eq_true_of_le h';rw[h1]at h;cases h).symm
def Qn{S0:List (Nat×Oper)}{Sb:Nat}(h:∀j,Sb.testBit j=xo S0 j):∀S:List (Nat×Oper),
  (qy Sb (Ya D S)).map (λy=>(y.i,y.o))=ZN D S0 S
 | []=>rfl
 | x::r=>by
  have ih:=Qn h r;show(cond (Nat.blt (zz D x.2.op) 2&&avQ Sb ⟨Jq x.2.after.toList,Nat.blt (zz D x.2.op) 2,x.1,x.2⟩) (some (⟨Jq x.2.after.toList,Nat.blt (zz D x.2.op) 2,x.1,x.2⟩:Qo)) (qy Sb (Ya D r))).map (λy:Qo=>(y.i,y.o))=_;rw[VH h D x,oP,Bool.and_comm];unfold ZN
  cases hc:(yt S0 x.2&&decide (zz D x.2.op<2)) with
  | true=>rfl
  | false=>exact ih
def xk{S0:List (Nat×Oper)}{Sb:Nat}(h:∀j,Sb.testBit j=xo S0 j):∀S:List (Nat×Oper),
  (jV Sb (Ya D S)).map (λy=>(y.i,y.o))=S.filter λx=>yt S0 x.2
 | []=>rfl
 | x::r=>by
  have ih:=xk h r;show(cond (avQ Sb ⟨Jq x.2.after.toList,Nat.blt (zz D x.2.op) 2,x.1,x.2⟩) ((⟨Jq x.2.after.toList,Nat.blt (zz D x.2.op) 2,x.1,x.2⟩:Qo)::jV Sb (Ya D r)) (jV Sb (Ya D r))).map (λy:Qo=>(y.i,y.o))=_;rw[VH h D x,List.filter_cons]
  cases hc:yt S0 x.2 with
  | true=>simp only[cond_true,List.map_cons,ih,if_true]
  | false=>simpa using ih
def Qz:∀{S:List (Nat×Oper)}{i:Nat},(∀x∈S,x.1≠i)→zS S i=S:=λh=>List.filter_eq_self.2 λx hx=>bne_iff_ne.2 (h x hx)
def uR(i:Nat):∀S:List (Nat×Oper),(S.map (·.1)).Nodup→Qu i (Ya D S)=Ya D (zS S i)
 | [],_=>rfl
 | x::r,hn=>by
  rw[List.map_cons,List.nodup_cons]at hn;have ih:=uR i r hn.2;show cond (Nat.beq x.1 i) (Ya D r) (_::Qu i (Ya D r))=_
  cases hc:Nat.beq x.1 i with
  | true=>
   have he:=Nat.eq_of_beq_eq_true hc;have h1:zS (x::r) i=r:=by
    unfold zS;rw[List.filter_cons,if_neg (by simp[he])];exact Qz λy hy e=>hn.1 (List.mem_map.2 ⟨y,hy,e.trans he.symm⟩)
   rw[h1];rfl
  | false=>
   have he:x.1≠i:=λe=>by rw[e,Nat.beq_refl]at hc;cases hc
   have h1:zS (x::r) i=x::zS r i:=by
    unfold zS;rw[List.filter_cons,if_pos (by simp[he])]
   rw[h1,ih];rfl
def QW{S:List (Nat×Oper)}{Sb i:Nat}(h:∀j,Sb.testBit j=xo S j)(hi:xo S i=true)(j:Nat):(Nat.xor Sb (2 ^ i)).testBit j=xo (zS S i) j:=by
 have h1:(Nat.xor Sb (2 ^ i)).testBit j=(Sb ^^^ 2 ^ i).testBit j:=rfl;rw[h1,Nat.testBit_xor,Nat.testBit_two_pow,h];by_cases hj:i=j
 ·subst hj;rw[hi];have:xo (zS S i) i=false:=by
   unfold xo zS;rw[List.any_filter];refine List.any_eq_false.2 λx _=>by
    by_cases hx:x.1=i<;>simp[hx]
  rw[this];simp
 ·have:xo (zS S i) j=xo S j:=by
   unfold xo zS;rw[List.any_filter]
   congr 1;funext x
   by_cases hx:x.1=j
   ·simp[hx,Ne.symm hj]
   ·simp[hx]
  rw[this];simp[hj]
def qI{S:List (Nat×Oper)}{x:Nat×Oper}(h:x∈S):xo S x.1=true:=List.any_eq_true.2 ⟨x,h,beq_self_eq_true _⟩
def qR{S:List (Nat×Oper)}{i:Nat}(h:(S.map (·.1)).Nodup):((zS S i).map (·.1)).Nodup:=h.sublist (List.Sublist.map _ List.filter_sublist)
def Qb:∀S:List (Nat×Oper),(Ya D S).isEmpty=S.isEmpty
 | []=>rfl
 | _::_=>rfl
def XJ:∀(n:Nat)(S:List (Nat×Oper))(Sb:Nat)(C:List (Nat×Chk))(a:AT)(K:AT→PT),(∀j,Sb.testBit j=xo S j)→(S.map (·.1)).Nodup→
  Yg P D ops gs ms n (Ya D S) Sb C a K=Zo P D ops gs ms n S C a K
 | 0,S,_,_,a,K,_,_=>by unfold Yg Zo;rw[Qb]
 | n+1,S,Sb,C,a,K,h,hn=>by
  have step:∀{x:Nat×Oper},x∈S→∀C' a',Yg P D ops gs ms n (Qu x.1 (Ya D S)) (Nat.xor Sb (2 ^ x.1)) C' a' K=Zo P D ops gs ms n (zS S x.1) C' a' K:=λ{x} hx C' a'=>by
   rw[uR x.1 S hn];exact XJ n _ _ C' a' K (QW h (qI hx)) (qR hn)
  have hf:=Qn (D:=D) h S;unfold Yg Zo
  cases hq:qy Sb (Ya D S) with
  | some y=>
   rw[hq]at hf;rw[←hf];have hm:=(YB hf.symm).1;show xT P D ops gs y.i y.o a _=xT P D ops gs y.i y.o a _
   congr 1;funext a'
   exact step hm _ a'
  | none=>
   rw[hq]at hf;rw[←hf];show(if(Ya D S).isEmpty then _ else _)=(if S.isEmpty then _ else _);rw[Qb,←xk (D:=D) h S,List.map_map];have hmem:∀y∈jV Sb (Ya D S),(y.i,y.o)∈S:=λy hy=>
    (List.mem_filter.1 (xk (D:=D) h S▸List.mem_map.2 ⟨y,hy,rfl⟩)).1
   congr 2
   refine List.map_congr_left λy hy=>?_;show xT P D ops gs y.i y.o a _=xT P D ops gs y.i y.o a _
   congr 1;funext a'
   exact congrArg _ (step (hmem y hy) _ a')
def xg:∀(l:List Oper)(n j:Nat),xo (Zm n l) j=(decide (n≤j)&&decide (j<n+l.length))
 | [],n,j=>by
  have:¬(n≤j∧j<n):=by omega
  show false=_;by_cases h:n≤j
  ·have:¬j<n+([]:List Oper).length:=by simp;omega
   simp[this]
  ·simp[h]
 | o::l,n,j=>by
  have ih:=xg l (n+1) j;show((n == j)||xo (Zm (n+1) l) j)=_;rw[ih,List.length_cons];by_cases h:n=j
  ·subst h;simp
  ·have e1:(n == j)=false:=beq_eq_false_iff_ne.2 h;have e2:decide (n+1≤j)=decide (n≤j):=decide_eq_decide.2 (by omega);have e3:decide (j<n+1+l.length)=decide (j<n+(l.length+1)):=decide_eq_decide.2 (by omega);rw[e1,e2,e3];rfl
def QK(l:List Oper):∀n,((Zm n l).map (·.1)).Nodup:=by
 induction l with
 | nil=>exact λ_=>List.nodup_nil
 | cons o l ih=>
  intro n;show(n::(Zm (n+1) l).map (·.1)).Nodup;refine List.nodup_cons.2 ⟨λhm=>?_,ih (n+1)⟩;obtain⟨x,hx,he⟩:=List.mem_map.1 hm;have h1:=qI hx;rw[xg,he]at h1;simp at h1;omega
def qC(l:List Oper){K:AT→PT}{a:AT}:Yg P D l gs ms l.length (Ya D (Zm 0 l)) (2 ^ l.length-1) [] a K=Zo P D l gs ms l.length (Zm 0 l) [] a K:=
 XJ _ _ _ _ _ _ (λj=>by rw[Nat.testBit_two_pow_sub_one,xg];simp) (QK l 0)
def kF(c:Code):∀(an:Ann)(ro:Option Nat)(a:AT)(ds:List Nat)(K:X→AT→List Nat→PT),jn P D c an ro a ds K=den P D c an ro a ds K:=by
 induction c with
 | region id ops dr=>
  intro an ro a ds K
  cases dr
  ·simp only[jn,den]
  ·unfold jn den;simp only[qC]
   cases an.j<;>rfl
 | seq x y hx hy=>intro an ro a ds K;simp only[jn,den,hx,hy]<;>rfl
 | cond c x y hx hy=>intro an ro a ds K;simp only[jn,den,hx,hy]<;>rfl
 | block id c h=>intro an ro a ds K;simp only[jn,den,h]<;>rfl
 | loop c h=>intro an ro a ds K;simp only[jn,den,h]<;>rfl
 | rangeFunc g ps x y hx hy=>intro an ro a ds K;simp only[jn,den,hx,hy]<;>rfl
 | _=>intro an ro a ds K;simp only[jn,den]
def VF(fn:Func)(an:Ann)(args:List SV)(K:Value→PT):kX P D fn an args K=vO P D fn an args K:=by
 unfold kX vO
 cases fn.body with
 | none=>rfl
 | some c=>exact kF c an none _ [] _
end Go.Dm
