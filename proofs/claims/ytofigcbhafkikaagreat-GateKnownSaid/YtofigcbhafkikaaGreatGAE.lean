/- What is proved on the way to a statement of the seat, pressed (text AE). No conditions beyond those its theorems state. -/
import Derived.Test.YtofigcbhafkikaaGreatGAD
import Derived.RowKit3
import Derived.Laws.AppendOwn
import Derived.Laws.MakeOwn
set_option linter.all false
namespace Go.Dm
abbrev Seg:=List (Nat×Obj)
def Ge(_:Obj):Bool:=true
structure St(w0:World)(E:List Seg)(w:World):Prop where
 size:w0.heap.size≤w.heap.size
 old:∀b,b<w0.heap.size→w.heap[b]? = w0.heap[b]?
 os:w.os=w0.os
 out:w.output=w0.output
 tape:w.tape=w0.tape
 own:∀x∈E.flatten,w0.heap.size≤x.1∧w.heap[x.1]? = some x.2
 nd:(E.flatten.map (·.1)).Nodup
 fz:∀b o,w0.heap.size≤b→w.heap[b]? = some o→Ge o=true
def Cl(b:Nat)(T:TypeId)(cs:List Value):Nat×Obj:=(b,.cells cs.toArray T)
def ze{α:Type}:List α→Nat→α→List α
 | [],_,_=>[]
 | _::l,0,y=>y::l
 | x::l,n+1,y=>x::ze l n y
def ZP{α:Type}:List α→Nat→List α
 | [],_=>[]
 | _::l,0=>l
 | x::l,n+1=>x::ZP l n
def jw{α:Type}:∀{l:List α}{i:Nat}{x:α},nth l i=some x→∃A B,l=A++x::B∧(∀y,ze l i y=A++y::B)∧ZP l i=A++B
 | [],_,_,h=>by cases h
 | y::l,0,x,h=>by cases h;exact⟨[],l,rfl,λ_=>rfl,rfl⟩
 | y::l,i+1,x,h=>by
  obtain⟨A,B,h1,h2,h3⟩:=jw (l:=l) h;refine⟨y::A,B,by rw[h1];rfl,λz=>?_,?_⟩
  ·simp only[ze,h2];rfl
  ·simp only[ZP,h3];rfl
section
variable {w0 w w':World}{E E':List Seg}
def St.init(w:World):St w [] w:=⟨Nat.le_refl _,λ_ _=>rfl,rfl,rfl,rfl,λx hx=>by simp at hx,by simp,λb o hb h=>by rw[Array.getElem?_eq_none hb]at h;cases h⟩
def St.eq(h:St w0 E w)(he:E'.flatten=E.flatten):St w0 E' w:=⟨h.size,h.old,h.os,h.out,h.tape,by rw[he];exact h.own,by rw[he];exact h.nd,h.fz⟩
def St.perm(h:St w0 E w)(hp:E.flatten.Perm E'.flatten):St w0 E' w:=
 ⟨h.size,h.old,h.os,h.out,h.tape,λx hx=>h.own x (hp.mem_iff.2 hx),(hp.map (·.1)).nodup_iff.1 h.nd,h.fz⟩
def St.del(h:St w0 E w)(i:Nat){s:Seg}(hi:nth E i=some s):St w0 (ZP E i) w:=by
 obtain⟨A,B,h1,h2,h3⟩:=jw hi;subst h1;rw[h3];refine⟨h.size,h.old,h.os,h.out,h.tape,λx hx=>h.own x ?_,?_,h.fz⟩
 ·simp only[List.flatten_append,List.flatten_cons,List.mem_append]at hx ⊢;rcases hx with hx | hx
  ·exact .inl hx
  ·exact .inr (.inr hx)
 ·have:=h.nd;simp only[List.flatten_append,List.flatten_cons,List.map_append]at this ⊢;exact this.sublist (List.Sublist.append_left (List.sublist_append_right _ _) _)
def St.tail{s:Seg}(h:St w0 (s::E) w):St w0 E w:=h.del 0 rfl
def St.front(h:St w0 E w)(i:Nat){s:Seg}(hi:nth E i=some s):St w0 (s::ZP E i) w:=by
 obtain⟨A,B,h1,h2,h3⟩:=jw hi;subst h1;rw[h3];refine h.perm ?_;simp only[List.flatten_append,List.flatten_cons];rw[←List.append_assoc,←List.append_assoc];exact List.Perm.append_right _ List.perm_append_comm
def St.has(h:St w0 E w)(i:Nat){s:Seg}(hi:nth E i=some s){x:Nat×Obj}(hx:x∈s):w0.heap.size≤x.1∧w.heap[x.1]? = some x.2:=by
 obtain⟨A,B,h1,-,-⟩:=jw hi;subst h1;exact h.own x (by simp only[List.flatten_append,List.flatten_cons,List.mem_append];exact .inr (.inl hx))
def St.at(h:St w0 E w)(i:Nat){b:Nat}{o:Obj}(hi:nth E i=some [(b,o)]):w0.heap.size≤b∧w.heap[b]? = some o:=h.has i hi (x:=(b,o)) (by simp)
def St.upd(h:St w0 E w)(i:Nat){b:Nat}{o o':Obj}(hi:nth E i=some [(b,o)])(hs:w'.heap.size=w.heap.size)(hb:w'.heap[b]? = some o')(ho:∀k,k≠b→w'.heap[k]? = w.heap[k]?)
  (hz:Ge o'=true) (h1:w'.os=w.os) (h2:w'.output=w.output) (h3:w'.tape=w.tape):St w0 (ze E i [(b,o')]) w':=by
 obtain⟨hge,_⟩:=h.at i hi;obtain⟨A,B,e1,e2,-⟩:=jw hi;subst e1;rw[e2];have nd:=h.nd;simp only[List.flatten_append,List.flatten_cons,List.map_append,List.map_cons,List.map_nil]at nd;refine⟨by rw[hs];exact h.size,λk hk=>by rw[ho k (by omega)];exact h.old k hk,h1.trans h.os,h2.trans h.out,h3.trans h.tape,λx hx=>?_,?_,λk q hk hq=>?_⟩
 ·simp only[List.flatten_append,List.flatten_cons,List.mem_append,List.mem_singleton]at hx;have key:x∈A.flatten∨x∈B.flatten→x.1≠b:=by
   intro hx e;have hm:x.1∈A.flatten.map (·.1)∨x.1∈B.flatten.map (·.1):=hx.imp (List.mem_map_of_mem) (List.mem_map_of_mem);rw[e]at hm;rw[List.nodup_append]at nd;obtain⟨-,n2,n3⟩:=nd;rcases hm with hm | hm
   ·exact n3 b hm b (by simp) rfl
   ·rw[List.nodup_append]at n2;exact n2.2.2 b (by simp) b hm rfl
  rcases hx with hx | rfl | hx
  ·have:=h.own x (by simp only[List.flatten_append,List.flatten_cons,List.mem_append];exact .inl hx);rw[ho _ (key (.inl hx))];exact this
  ·exact⟨hge,hb⟩
  ·have:=h.own x (by simp only[List.flatten_append,List.flatten_cons,List.mem_append];exact .inr (.inr hx));rw[ho _ (key (.inr hx))];exact this
 ·simpa only[List.flatten_append,List.flatten_cons,List.map_append,List.map_cons,List.map_nil]using nd
 ·by_cases e:k=b
  ·subst e;rw[hb]at hq;cases hq;exact hz
  ·rw[ho k e]at hq;exact h.fz k q hk hq
def St.alloc(h:St w0 E w)(o:Obj)(hz:Ge o=true):St w0 ([(w.heap.size,o)]::E) (w.alloc o):=by
 have hlt:∀x∈E.flatten,x.1<w.heap.size:=λx hx=>(Array.getElem?_eq_some_iff.1 (h.own x hx).2).1;have hget:∀k,k<w.heap.size→(w.alloc o).heap[k]? = w.heap[k]? :=λk hk=>by simp only[World.alloc];rw[Array.getElem?_push_lt hk,Array.getElem?_eq_getElem hk]
 refine⟨by rw[World.size_alloc];exact Nat.le_succ_of_le h.size,λb hb=>by rw[hget b (Nat.lt_of_lt_of_le hb h.size)];exact h.old b hb,h.os,h.out,h.tape,λx hx=>?_,?_,λk q hk hq=>?_⟩
 ·simp only[List.flatten_cons,List.mem_append,List.mem_singleton]at hx;rcases hx with rfl | hx
  ·exact⟨h.size,by show(w.heap.push o)[w.heap.size]? = some o;simp⟩
  ·rw[hget _ (hlt x hx)];exact h.own x hx
 ·simp only[List.flatten_cons,List.map_append,List.map_cons,List.map_nil,List.singleton_append,List.nodup_cons];refine⟨λhm=>?_,h.nd⟩;obtain⟨x,hx,e⟩:=List.mem_map.1 hm;have:=hlt x hx;omega
 ·by_cases e:k<w.heap.size
  ·rw[hget k e]at hq;exact h.fz k q hk hq
  ·have e2:(w.alloc o).heap[k]? = (w.heap.push o)[k]? :=rfl;rw[e2]at hq;by_cases e3:k=w.heap.size
   ·subst e3;simp at hq;subst hq;exact hz
   ·rw[Array.getElem?_eq_none (by simp;omega)]at hq;cases hq
def St.drawn(h:St w0 E w){n:Nat}:St w0 E { w with drawn:=n }:=⟨h.size,h.old,h.os,h.out,h.tape,h.own,h.nd,h.fz⟩
def St.cell(h:St w0 E w){a:Addr}{v:Value}(hc:w0.cell? a=some v):w.cell? a=some v:=by
 have:a.block<w0.heap.size:=by
  unfold World.cell? at hc
  cases hh:w0.heap[a.block]? with
  | none=>rw[hh]at hc;cases hc
  | some o=>exact(Array.getElem?_eq_some_iff.1 hh).1
 unfold World.cell? at *
 rw[h.old _ this];exact hc
def yH(b o n:Nat):(⟨b,o,none⟩:Addr).add n=⟨b,o+n,none⟩:=by
 unfold Addr.add;by_cases h:n=0
 ·subst h;rfl
 ·rw[if_neg h]
def St.cellOwn(h:St w0 E w)(i:Nat){b T o:Nat}{cs:List Value}{v:Value}(hi:nth E i=some [Cl b T cs])(hv:nth cs o=some v):w.cell? ⟨b,o,none⟩=some v:=by
 have:=(h.at i hi).2;simp only[World.cell?,this,Option.isSome];rw[zp]at hv;simpa using hv
variable {P:Program}
def ld(h:St w0 E w){l:Lf}{b o T:Nat}{cs:List Value}{k:l.T→PT}(i:Nat)(hi:nth E i=some [Cl b T cs]){x:l.T}(hv:nth cs o=some (l.val x))(hk:k x w):L.load (.one l) ⟨b,o,none⟩ k w:=by
 refine⟨x,λj c hj=>?_,hk⟩
 cases j with
 | zero=>cases hj;exact h.cellOwn i hi hv
 | succ j=>cases hj
def ck(h:St w0 E w){b o T:Nat}{cs:List Value}{k:PT}{v:Value}(i:Nat)(hi:nth E i=some [Cl b T cs])(hv:nth cs o=some v)(hk:k w):L.chk ⟨b,o,none⟩ [v] k w:=by
 refine⟨λj c hj=>?_,hk⟩
 cases j with
 | zero=>cases hj;exact h.cellOwn i hi hv
 | succ j=>cases hj
def yo{α:Type}:∀(cs:List α)(o:Nat)(v:α),ze cs o v=cs.set o v
 | [],_,_=>rfl
 | _::_,0,_=>rfl
 | _::cs,o+1,v=>by simp[ze,yo cs]
def st1(h:St w0 E w){b o T:Nat}{cs:List Value}{k:PT}{u v:Value}(i:Nat)(hi:nth E i=some [Cl b T cs])(hu:nth cs o=some u)(hv:Va v=true)
  (hk:∀w',St w0 (ze E i [Cl b T (ze cs o v)]) w'→k w'):L.store ⟨b,o,none⟩ [v] k w:=by
 obtain⟨-,hb⟩:=h.at i hi;refine⟨λj c hj=>?_,hk _ ?_⟩
 ·cases j with
  | zero=>
   cases hj
   refine⟨hv,by rw[YT,h.cellOwn i hi hu];rfl,?_⟩;simp[YT,World.frozen?,hb]
  | succ j=>cases hj
 ·show St w0 _ (w.setCell (Addr.add ⟨b,o,none⟩ 0) v);rw[YT];refine h.upd i hi (by simp) ?_ ?_ rfl rfl rfl rfl
  ·simp only[World.setCell,Array.getElem?_modify,if_pos,hb,Option.map_some];simp[yo]
  ·intro k hk;simp only[World.setCell,Array.getElem?_modify];rw[if_neg (λe=>hk e.symm)]
def nw(h:St w0 E w){cs:List Value}{T:TypeId}{k:Nat→PT}(hk:∀b w',St w0 ([Cl b T cs]::E) w'→k b w'):L.new cs T k w:=hk _ _ (h.alloc _ rfl)
def dr(h:St w0 E w){k:PT}(hk:∀w',St w0 E w'→k w'):L.draw k w:=hk _ h.drawn
def nn{k:Addr→PT}{a:Addr}(hk:k a w):L.nonnil (some a) k w:=⟨a,rfl,hk⟩
def gd{φ:Prop}{k:PT}(h:φ)(hk:k w):L.guard φ k w:=⟨h,hk⟩
def it{b:Bool}{x y:PT}(h1:b=true→x w)(h2:b=false→y w):L.ite b x y w:=⟨h1,h2⟩
def itT{b:Bool}{x y:PT}(hb:b=true)(h1:x w):L.ite b x y w:=⟨λ_=>h1,λh=>(by rw[hb]at h;cases h)⟩
def itF{b:Bool}{x y:PT}(hb:b=false)(h1:y w):L.ite b x y w:=⟨λh=>(by rw[hb]at h;cases h),λ_=>h1⟩
def ix{a:Addr}{i:Int}{len sz:Nat}{k:Addr→PT}(h0:0≤i)(h1:i<len)(hk:k (a.add (i.toNat*sz)) w):L.idx (some a) i len sz k w:=⟨a,rfl,h0,h1,hk⟩
def zl{f:FuncId}{args:List Value}{r:RT}{k:r.T→PT}{F:(Value→PT)→PT}(hc:∀{K:Value→PT}{w:World},F K w→Calls P f args.toArray w λe w'=>∃v,e = .returned v∧K v w')
  (h:F (λv w'=>∃x,v=r.val x∧k x w') w):L.call P f args r k w:=
 (hc h).mono λ_ _ ⟨v,he,x,hv,hk⟩=>⟨x,by rw[he,hv],hk⟩
def jN{Y:Type}{X:(Y→PT)→PT}{k:Y→PT}(Q:Y→World→Prop)(hx:∀k',(∀y w',Q y w'→k' y w')→X k' w)(hk:∀y w',Q y w'→k y w'):L.join X k w:=hx k hk
def Zj{Y:Type}{y0:Y}{body:Y→(Y→PT)→PT}(Inv:Nat→Y→World→Prop)(n:Nat)(h0:Inv n y0 w)(hb:∀n y w',Inv n y w'→∀again:Y→PT,(∀m y' w'',m<n→Inv m y' w''→again y' w'')→body y again w'):L.loop y0 body w:=
 ⟨Inv,⟨n,h0⟩,λn y w' hi=>hb n y w' hi _ λm y' w'' hm hi'=>⟨m,hm,hi'⟩⟩
def Rec(l:Nat)(lp:Loop)(st:LoopState)(pd:Option Code):Nat×Obj:=(l,.loop { lp with state:=st,pending:=pd })
def DfM(d:Nat):Nat×Obj:=(d,.deferred (some []))
def rng(h:St w0 E w){fv:Value}{es:List E1}{body:Nat→TT es→(Value→PT)→PT}{K:List Nat→Option Code→PT}
  (hk:∀(d l:Nat)(lp:Loop)(w1:World),St w0 ([Rec l lp .ready none]::[DfM d]::E) w1→
   (∀y st pd w' R,w'.heap[l]? = some (Rec l lp st pd).2→body l y R w'→jQ P (.func (.yield l) #[] #[]) (TV es y) w' R)→
   qf P fv [.func (.yield l) #[] #[]] w1 λ_ w2=>∃jump w3,(Instr.endLoop l).run P w2 = .ok jump w3∧K [d] jump w3):L.range P none fv es body K w:=by
 intro lp h1 h2 hy;have e:lp = { lp with state:=.ready,pending:=none }:=by cases lp;simp at h1 h2;subst h1 h2;rfl
 refine hk w.heap.size (w.heap.size+1) lp _ ?_ hy;have:=(h.alloc (.deferred (some [])) rfl).alloc (.loop lp) rfl;rw[World.size_alloc]at this;show St w0 ([(_,.loop { lp with state:=.ready,pending:=none })]::[(_,.deferred (some []))]::E) _;rw[←e];exact this
def bgn(h:St w0 E w){l:Nat}{lp:Loop}{pd:Option Code}{k:PT}(i:Nat)(hi:nth E i=some [Rec l lp .ready pd])(hk:∀w',St w0 (ze E i [Rec l lp .busy pd]) w'→k w'):L.begin P l k w:=by
 obtain⟨-,hb⟩:=h.at i hi;have hlt:=(Array.getElem?_eq_some_iff.1 hb).1;refine⟨_,run_beginRound hb rfl,hk _ ?_⟩;exact h.upd i hi (by simp[World.putObj]) (World.putObj_heap_same hlt) (λk hk=>World.putObj_heap_other hk) rfl rfl rfl rfl
def fD(h:St w0 E w){l:Nat}{lp:Loop}{st:LoopState}{pd:Option Code}{R:Value→PT}(i:Nat)(hi:nth E i=some [Rec l lp st pd])(hk:∀w',St w0 (ze E i [Rec l lp .ready none]) w'→R (.bool true) w'):L.endRound P l none R w:=by
 obtain⟨-,hb⟩:=h.at i hi;have hlt:=(Array.getElem?_eq_some_iff.1 hb).1;refine⟨_,_,run_endRound none hb,hk _ ?_⟩;exact h.upd i hi (by simp[World.putObj]) (World.putObj_heap_same hlt) (λk hk=>World.putObj_heap_other hk) rfl rfl rfl rfl
def fE(h:St w0 E w){l:Nat}{lp:Loop}{st:LoopState}{pd:Option Code}{j:Code}{R:Value→PT}(i:Nat)(hi:nth E i=some [Rec l lp st pd])(hk:∀w',St w0 (ze E i [Rec l lp .done (some j)]) w'→R (.bool false) w'):L.endRound P l (some j) R w:=by
 obtain⟨-,hb⟩:=h.at i hi;have hlt:=(Array.getElem?_eq_some_iff.1 hb).1;refine⟨_,_,run_endRound (some j) hb,hk _ ?_⟩;exact h.upd i hi (by simp[World.putObj]) (World.putObj_heap_same hlt) (λk hk=>World.putObj_heap_other hk) rfl rfl rfl rfl
def OM(h:St w0 E w){l:Nat}{lp:Loop}{st:LoopState}{pd:Option Code}{k:Option Code→PT}(i:Nat)(hi:nth E i=some [Rec l lp st pd])(hs:st≠.busy)(hk:∀w',St w0 (ZP E i) w'→k pd w') :
  ∃jump w3,(Instr.endLoop l).run P w = .ok jump w3∧k jump w3:=by
 obtain⟨-,hb⟩:=h.at i hi;have hlt:=(Array.getElem?_eq_some_iff.1 hb).1;refine⟨_,_,run_endLoop hb hs,hk _ ?_⟩;have:=h.upd (w':=w.putObj l (.loop { { lp with state:=st,pending:=pd }with state:=.exhausted })) i hi (by simp[World.putObj]) (World.putObj_heap_same hlt) (λk hk=>World.putObj_heap_other hk) rfl rfl rfl rfl;obtain⟨A,B,e1,e2,e3⟩:=jw hi;rw[e2]at this;rw[e3];have h2:=this.del A.length (s:=[Rec l lp .exhausted pd]) (by rw[zp];simp[Rec]);have:ZP (A++[Rec l lp .exhausted pd]::B) A.length=A++B:=by
  clear h2 this e1 e2 e3
  induction A with
  | nil=>rfl
  | cons x A ih=>simp[ZP,ih]
 rw[←this];exact h2
def um(h:St w0 E w){d:Nat}{ds:List Nat}{k:PT}(i:Nat)(hi:nth E i=some [DfM d])(hk:∀w',St w0 (ze E i [(d,.deferred none)]) w'→L.unmark P ds k w'):L.unmark P (d::ds) k w:=by
 obtain⟨-,hb⟩:=h.at i hi;have hlt:=(Array.getElem?_eq_some_iff.1 hb).1;refine⟨_,run_takeDeferred hb,hk _ ?_⟩;exact h.upd i hi (by simp[World.putObj]) (World.putObj_heap_same hlt) (λk hk=>World.putObj_heap_other hk) rfl rfl rfl rfl
def St.kept(h:St w0 E w):w0.keptBut w (λ_=>False):=by
 refine⟨h.os,h.out,λi hi=>?_⟩;rw[h.old i hi];split
 ·rename_i h1 h2;rw[h1]at h2;cases h2;exact⟨rfl,rfl,rfl,λ_ _=>rfl⟩
 ·rename_i h1 h2;rw[h1]at h2;cases h2;exact .inr ⟨rfl,rfl⟩
 ·rfl
end
end Go.Dm
namespace Go.Dm
structure El(P:Program)(t e:TypeId)(size bytes:Nat)(z:Value):Prop where
 sl:P.underlying t=some (.slice e)
 info:∃i,P.info? e=some i∧i.zero=some z∧i.size=size∧i.bytes=bytes
 zs:z.cells.size=size
 pos:0<size
def Kz{P:Program}{t e:TypeId}{size bytes:Nat}{z:Value}(h1:P.underlying t=some (.slice e))(h2:(P.info? e).map (λi=>(i.zero,i.size,i.bytes))=some (some z,size,bytes))(h3:z.cells.size=size)(h4:0<size):El P t e size bytes z:=by
 refine⟨h1,?_,h3,h4⟩
 cases hi:P.info? e with
 | none=>rw[hi]at h2;cases h2
 | some i=>
  rw[hi]at h2;simp only[Option.map_some,Option.some.injEq,Prod.mk.injEq]at h2;exact⟨i,rfl,h2.1,h2.2.1,h2.2.2⟩
inductive Row(e:TypeId)(size:Nat):Sl→List Value→Seg→Prop
 | nil:Row e size ⟨none,0,0⟩ [] []
 | mk (g n cap:Nat) (pre xs spare post:List Value) (h1:xs.length=n*size) (h2:xs.length+spare.length=cap*size) (h3:n≤cap) (h4:cap≤maxLen) :
   Row e size ⟨some ⟨g,pre.length,none⟩,n,cap⟩ xs [Cl g e (pre++(xs++(spare++post)))]
def Row.mk0{e size:Nat}(g n cap:Nat)(xs spare:List Value)(h1:xs.length=n*size)(h2:xs.length+spare.length=cap*size)(h3:n≤cap)(h4:cap≤maxLen) :
  Row e size ⟨some ⟨g,0,none⟩,n,cap⟩ xs [Cl g e (xs++spare)]:=by
 have:=Row.mk (e:=e) g n cap [] xs spare [] h1 h2 h3 h4;simpa using this
section
variable {w0 w w':World}{E E':List Seg}{P:Program}
def Row.len{e size:Nat}{v:Sl}{xs:List Value}{s:Seg}(h:Row e size v xs s):xs.length=v.len*size:=by
 cases h with
 | nil=>simp
 | mk g n cap pre xs spare post h1=>exact h1
def jZ{α:Type}{A B:List α}{i:Nat}(h:i<A.length):nth (A++B) i=nth A i:=qN h
def YA{α:Type}{A B:List α}{i:Nat}:nth (A++B) (A.length+i)=nth B i:=by
 rw[zp,zp,List.getElem?_append_right (by omega)];congr 1;omega
def UY{α:Type}{l:List α}{i:Nat}{x:α}(h:nth l i=some x):i<l.length:=by
 rw[zp]at h;exact(List.getElem?_eq_some_iff.1 h).1
def Row.cell{e size:Nat}{v:Sl}{xs:List Value}{s:Seg}(h:Row e size v xs s)(hst:St w0 E w)(i:Nat)(hi:nth E i=some s){b:Addr}(hb:v.a=some b){j:Nat}{u:Value}(hj:nth xs j=some u):w.cell? (b.add j)=some u:=by
 cases h with
 | nil=>cases hb
 | mk g n cap pre xs spare post h1=>
  cases hb
  rw[yH];refine hst.cellOwn i hi ?_;rw[YA,jZ (UY hj)];exact hj
def Row.at{e size:Nat}{v:Sl}{xs:List Value}{s:Seg}(h:Row e size v xs s)(hst:St w0 E w)(i:Nat)(hi:nth E i=some s){l:Lf}{n:Int}{kk:l.T→PT}{x:l.T}(hs:size=1)(h0:0≤n)(hj:nth xs n.toNat=some (l.val x))
  (hk:kk x w):L.idx v.a n v.len 1 (λa=>L.load (.one l) a kk) w:=by
 subst hs;have hlt:n.toNat<xs.length:=UY hj;have hlen:=h.len;have hlt2:n<v.len:=by omega
 cases hb:v.a with
 | none=>cases h with
  | nil=>simp at hlt
  | mk=>cases hb
 | some b=>
  refine ix h0 hlt2 ⟨x,λj c hc=>?_,hk⟩
  cases j with
  | zero=>cases hc;rw[Nat.mul_one];exact h.cell hst i hi hb hj
  | succ j=>cases hc
def St.swap1(h:St w0 E w)(i:Nat){s:Seg}(hi:nth E i=some s){x:Nat×Obj}(hx:St w0 ([x]::E) w'):St w0 (ze E i [x]) w':=by
 obtain⟨A,B,e1,e2,e3⟩:=jw hi;subst e1;rw[e2];have h1:=hx.del (A.length+1) (s:=s) (by rw[zp];simp);have:ZP ([x]::(A++s::B)) (A.length+1) = [x]::(A++B):=by
  show [x]::ZP (A++s::B) A.length=_
  congr 1
  clear h1 hx h e2 e3 hi
  induction A with
  | nil=>rfl
  | cons y A ih=>simp[ZP,ih]
 rw[this]at h1;refine h1.perm ?_;simp only[List.flatten_append,List.flatten_cons];rw[←List.append_assoc,←List.append_assoc];exact List.Perm.append_right _ List.perm_append_comm
def fm{u:Value}:u.oneCell'=Va u:=by cases u<;>rfl
def qU(w:World)(t ty e:TypeId)(i:TypeInfo)(ht:P.underlying t=some (.slice e))(hi:P.info? e=some i)
  (g off sLen sCap:Nat) (cur:Array Value) (hg:w.heap[g]? = some (.cells cur e (0,0)))
  (a:Addr) (m c:Nat) (news:List Value) (hl:news.length=m*i.size) (hnews:∀j u,news[j]? = some u→w.cell? (a.add j)=some u) (h1:∀u∈news,u.oneCell'=true)
  (hroom:sLen+m≤sCap) (hfit:off+sLen*i.size+news.length≤cur.size) :
  (Builtin.append_ #[t,t] ty #[.slice (some ⟨g,off,none⟩) sLen sCap,.slice (some a) m c]).run P w =
   .ok (.slice (some ⟨g,off,none⟩) (sLen+m) sCap) (w.setRow g (cur.toList.take (off+sLen*i.size)++news++cur.toList.drop (off+sLen*i.size+news.length)).toArray):=by
 have hf:=run_firstCells_some (P:=P) w i.size m a m c news hl hnews;have hst:=run_storeCells_at P g (off+sLen*i.size) e news 0 cur w hg (by simpa using hfit) h1;simp only[Nat.add_zero]at hst;simp[Builtin.append_,run_underlying ht,sizeOf,typeInfo,hi,Builtin.lenOf,hroom,hf,yH,hst]
def app{t e ty size bytes:Nat}{z:Value}(L0:El P t e size bytes z)(h:St w0 E w)(i:Nat){v:Sl}{xs:List Value}{s:Seg}(hi:nth E i=some s)(hr:Row e size v xs s){a:Addr}{m c:Nat}(news:List Value)(hl:news.length=m*size)
  (hnews:∀j u,news[j]? = some u→w.cell? (a.add j)=some u) (hone:∀u∈news,Va u=true) (hm:0<m) (hb:(v.len+m)*bytes≤140737488355328) (h63:v.len+m≤maxLen) {k:Sl→PT}
  (hk:∀(v':Sl) s' w',Row e size v' (xs++news) s'→v'.len=v.len+m→St w0 (ze E i s') w'→k v' w') :
  L.sem P (.one (.one .slice)) (Builtin.append_ #[t,t] ty #[.slice v.a v.len v.cap,.slice (some a) m c]) k w:=by
 obtain⟨ii,hi0,hiz,his,hib⟩:=L0.info;have hpos:=L0.pos;have hzs:=L0.zs;have h63':(m:Int)≤9223372036854775807∧((v.len+m:Nat):Int)≤9223372036854775807:=by simp only[maxLen]at h63;omega
 have grow:∀(need old:Nat)(cs:List Value),cs.length=need*size→need≤maxLen→
   ∃spare:List Value,cs.toArray++Builtin.zeroCells z.cells (grownCap w need old e-need)=(cs++spare).toArray∧cs.length+spare.length=grownCap w need old e*size:=by
  intro need old cs hcs _;refine⟨(Builtin.zeroCells z.cells (grownCap w need old e-need)).toList,by apply Array.ext';simp,?_⟩;have e0:(Builtin.zeroCells z.cells (grownCap w need old e-need)).toList.length=(grownCap w need old e-need)*size:=by rw[Array.length_toList,size_zeroCells,hzs]
  rw[e0,hcs,←Nat.add_mul]
  congr 1
  have:=grownCap_ge w need old e;omega
 cases hr with
 | nil=>
  have hr:=run_append_nil (P:=P) w t ty e ii z L0.sl hi0 hiz a m c news (by rw[his];exact hl) hnews hm h63'.1 (by simp only[Nat.zero_add]at hb;rw[hib];omega);obtain⟨spare,e1,e2⟩:=grow m 0 news hl (by simpa using h63);rw[e1]at hr;refine⟨⟨some ⟨w.heap.size,0,none⟩,m,grownCap w m 0 e⟩,_,hr,hk _ [Cl w.heap.size e (news++spare)] _ ?_ (by simp) ?_⟩
  ·rw[List.nil_append];exact Row.mk0 _ _ _ _ _ hl e2 (grownCap_ge w m 0 e) (grownCap_le_maxLen w m 0 e (by simpa using h63))
  ·exact h.swap1 i hi ((h.drawn (n:=w.drawn+1)).alloc _ rfl)
 | mk g n cap pre _ spare post h1 h2 h3 h4=>
  have hbc:=(h.at i hi).2;by_cases hroom:n+m≤cap
  ·have hsp:news.length≤spare.length:=by
    have:=Nat.mul_le_mul_right size hroom;rw[Nat.add_mul]at this;omega
   have hr:=qU (P:=P) w t ty e ii L0.sl hi0 g pre.length n cap (pre++(xs++(spare++post))).toArray hbc a m c news (by rw[his];exact hl) hnews (λu hu=>by rw[fm];exact hone u hu) hroom
    (by rw[his,←h1];simp only[List.size_toArray,List.length_append];omega)
   rw[his]at hr;have ecs:(pre++(xs++(spare++post))).toArray.toList.take (pre.length+n*size)++news++(pre++(xs++(spare++post))).toArray.toList.drop (pre.length+n*size+news.length)=pre++((xs++news)++(spare.drop news.length++post)):=by
    simp only[←h1];rw[show pre.length+xs.length=(pre++xs).length by simp,show pre++(xs++(spare++post))=(pre++xs)++(spare++post)by simp,List.take_left,List.drop_append];rw[List.drop_of_length_le (by omega),List.drop_append_of_le_length (by omega)];have e0:(pre++xs).length+news.length-(pre++xs).length=news.length:=by omega
    rw[e0];simp
   rw[ecs]at hr;refine⟨⟨some ⟨g,pre.length,none⟩,n+m,cap⟩,_,hr,hk _ [Cl g e (pre++((xs++news)++(spare.drop news.length++post)))] _ ?_ rfl ?_⟩
   ·refine Row.mk g (n+m) cap pre _ _ _ (by rw[List.length_append,h1,hl,Nat.add_mul]) ?_ hroom h4;simp only[List.length_append,List.length_drop];omega
   ·refine h.upd i hi (by simp[World.setRow]) (setRow_heap w g _ _ e _ hbc) (λk hk=>setRow_other w g k _ hk) rfl rfl rfl rfl
  ·have hholds:∀j u,xs[j]? = some u→w.cell? ((⟨g,pre.length,none⟩:Addr).add j)=some u:=λj u hj=>by
    rw[yH];refine h.cellOwn i hi ?_;rw[YA,jZ (List.getElem?_eq_some_iff.1 hj).1,zp];exact hj
   have hr:=run_append_grow (P:=P) w t ty e ii z L0.sl hi0 hiz ⟨g,pre.length,none⟩ n cap xs (by rw[his];exact h1) hholds a m c news (by rw[his];exact hl) hnews (by omega) h63'.2 (by rw[hib];exact growslice_fits (by omega) hb);obtain⟨sp,e1,e2⟩:=grow (n+m) cap (xs++news) (by rw[List.length_append,h1,hl,Nat.add_mul]) h63;have e3:xs.toArray++news.toArray=(xs++news).toArray:=by simp
   rw[e3,e1]at hr;refine⟨⟨some ⟨w.heap.size,0,none⟩,n+m,grownCap w (n+m) cap e⟩,_,hr,hk _ [Cl w.heap.size e ((xs++news)++sp)] _ ?_ rfl ?_⟩
   ·exact Row.mk0 _ _ _ _ _ (by rw[List.length_append,h1,hl,Nat.add_mul]) e2 (grownCap_ge ..) (grownCap_le_maxLen _ _ _ _ h63)
   ·exact h.swap1 i hi ((h.drawn (n:=w.drawn+1)).alloc _ rfl)
end
end Go.Dm
namespace Go.Dm
def Ke{α:Type}:∀{l:List α}{i:Nat}{x y:α},nth l i=some x→nth (ze l i y) i=some y
 | [],_,_,_,h=>by cases h
 | _::_,0,_,_,_=>rfl
 | _::l,i+1,_,_,h=>Ke (l:=l) h
def Vh{α:Type}:∀{l:List α}{i:Nat}{x y:α},ze (ze l i x) i y=ze l i y
 | [],_,_,_=>rfl
 | _::_,0,_,_=>rfl
 | z::l,i+1,x,y=>congrArg (z:: ·) (Vh (l:=l))
end Go.Dm
namespace Go.Dm
section
variable {w0 w:World}{E:List Seg}
def St.back{s s':Seg}(i:Nat)(hi:nth E i=some s)(h:St w0 (s'::ZP E i) w):St w0 (ze E i s') w:=by
 obtain⟨A,B,e1,e2,e3⟩:=jw hi;subst e1;rw[e2];rw[e3]at h;refine h.perm ?_;simp only[List.flatten_append,List.flatten_cons];rw[←List.append_assoc,←List.append_assoc];exact List.Perm.append_right _ List.perm_append_comm
def St.split{s1 s2:Seg}(h:St w0 ((s1++s2)::E) w):St w0 (s1::s2::E) w:=h.eq (by simp)
def St.glue{s1 s2:Seg}(h:St w0 (s1::s2::E) w):St w0 ((s1++s2)::E) w:=h.eq (by simp)
end
end Go.Dm
namespace Go.Dm
def jQ.mono{P:Program}{fv:Value}{args:List Value}{w:World}{R R':Value→World→Prop}(h:jQ P fv args w R)(hm:∀v w',R v w'→R' v w'):jQ P fv args w R':=by
 unfold jQ at *
 split at h
 ·exact⟨h.1,h.2.mono λ_ _ ⟨v,he,hv⟩=>⟨v,he,hm _ _ hv⟩⟩
 ·obtain⟨h1,h2,r,h3,h4,h5⟩:=h;refine⟨h1,h2,r,h3,h4,?_⟩;unfold Gb at *
  exact h5.mono λ_ _ ⟨v,he,hv⟩=>⟨v,he,hm _ _ hv⟩
 ·exact h
end Go.Dm
namespace Go.Dm
def ZE{α:Type}:∀{l:List α}{i:Nat}{x:α},nth l i=some x→ze l i x=l
 | [],_,_,_=>rfl
 | _::_,0,_,h=>by cases h;rfl
 | y::l,i+1,_,h=>congrArg (y:: ·) (ZE (l:=l) h)
def un2:(l:Lf)→Value→Option l.T
 | .int .i64,.int .i64 n=>some n
 | .int .i32,.int .i32 n=>some n
 | .int .i16,.int .i16 n=>some n
 | .int .i8,.int .i8 n=>some n
 | .int .u64,.int .u64 n=>some n
 | .int .u32,.int .u32 n=>some n
 | .int .u16,.int .u16 n=>some n
 | .int .u8,.int .u8 n=>some n
 | .bool,.bool b=>some b
 | .str,.string s=>some s
 | .ptr,.pointer p=>some p
 | .adr,.pointer (some a)=>some a
 | .slice,.slice a n c=>some ⟨a,n,c⟩
 | .map,.map m=>some m
 | .func,.func f a b=>some ⟨f,a,b⟩
 | .iface,.nilIface=>some none
 | .iface,.iface t v=>some (some (t,v))
 | _,_=>none
def UE:∀{l:Lf}{v:Value}{x:l.T},un2 l v=some x→l.val x=v:=by
 intro l v x h;unfold un2 at h;split at h<;>first | (cases h;rfl) | (cases h)
def KO:(ls:List Lf)→List Value→Option (HT ls)
 | [],_=>some ()
 | _::_,[]=>none
 | l::ls,v::vs=>match un2 l v with
  | none=>none
  | some x=>match KO ls vs with
   | none=>none
   | some r=>some (x,r)
def QB:∀{ls:List Lf}{vs:List Value}{x:HT ls},KO ls vs=some x→∀j c,nth (HV ls x) j=some c→nth vs j=some c
 | [],vs,x,_,j,c,hc=>by cases hc
 | l::ls,[],x,h,_,_,_=>by cases h
 | l::ls,v::vs,x,h,j,c,hc=>by
  simp only[KO]at h;split at h
  ·cases h
  ·rename_i y hy;split at h
   ·cases h
   ·rename_i r hr
    cases h
    cases j with
    | zero=>cases hc;exact congrArg some (UE hy).symm
    | succ j=>exact QB hr j c hc
def ku:List Value→Nat→List Value
 | l,0=>l
 | [],_=>[]
 | _::l,n+1=>ku l n
def UZ:∀(l:List Value)(n j:Nat),nth (ku l n) j=nth l (n+j)
 | l,0,j=>by simp[ku]
 | [],n+1,j=>by simp[ku,nth]
 | x::l,n+1,j=>by
  have:n+1+j=(n+j)+1:=by omega
  rw[ku,UZ l n j,this,nth]
def Zq:List Value→Nat→List Value→List Value
 | cs,_,[]=>cs
 | cs,o,v::vs=>Zq (ze cs o v) (o+1) vs
def xJ:List Value→Bool
 | []=>true
 | v::vs=>Va v&&xJ vs
def vq:List Value→Nat→List Value→Bool
 | _,_,[]=>true
 | cs,o,_::vs=>(nth cs o).isSome&&vq cs (o+1) vs
section
variable {w0 w w':World}{E:List Seg}{P:Program}
def ldx(h:St w0 E w){l:Lf}{b o T:Nat}{cs:List Value}{k:l.T→PT}(i:Nat)(hi:nth E i=some [Cl b T cs]){v:Value}{x:l.T}(hv:nth cs o=some v)(hx:un2 l v=some x)(hk:k x w):L.load (.one l) ⟨b,o,none⟩ k w:=
 ld h i hi (x:=x) (by rw[hv,UE hx]) hk
def lax(h:St w0 E w){ls:List Lf}{b o T:Nat}{cs:List Value}{k:HT ls→PT}(i:Nat)(hi:nth E i=some [Cl b T cs]){x:HT ls}(hx:KO ls (ku cs o)=some x)(hk:k x w):L.load (.agg ls) ⟨b,o,none⟩ k w:=by
 refine⟨x,λj c hj=>?_,hk⟩;rw[yH];refine h.cellOwn i hi ?_;rw[←UZ];exact QB hx j c hj
def Ow:List Value→List Value→List Value
 | [],_=>[]
 | _::_,[]=>[]
 | _::vs,c::cs=>c::Ow vs cs
def Kf:∀{vs cs:List Value},Ow vs cs=vs→∀j c,nth vs j=some c→nth cs j=some c
 | [],_,_,j,c,h=>by cases h
 | _::_,[],h,_,_,_=>by cases h
 | v::vs,u::cs,h,0,c,hc=>by simp only[Ow,List.cons.injEq]at h;cases hc;rw[←h.1];rfl
 | v::vs,u::cs,h,j+1,c,hc=>by simp only[Ow,List.cons.injEq]at h;exact Kf (vs:=vs) h.2 j c hc
def ckm(h:St w0 E w){b o T:Nat}{cs vs:List Value}{k:PT}(i:Nat)(hi:nth E i=some [Cl b T cs])(hv:Ow vs (ku cs o)=vs)(hk:k w):L.chk ⟨b,o,none⟩ vs k w:=by
 refine⟨λj c hj=>?_,hk⟩;rw[yH];refine h.cellOwn i hi ?_;rw[←UZ];exact Kf hv j c hj
def stx:∀(vs:List Value){w:World}{E:List Seg}(_:St w0 E w){b o T:Nat}{cs:List Value}{k:PT}(i:Nat)(_:nth E i=some [Cl b T cs])(_:vq cs o vs=true)(_:xJ vs=true)
  (_:∀w',St w0 (ze E i [Cl b T (Zq cs o vs)]) w'→k w'),L.store ⟨b,o,none⟩ vs k w:=by
 have key:∀(vs:List Value){w:World}{E:List Seg}(_:St w0 E w){b o T:Nat}{cs:List Value}(m:Nat)(i:Nat)(_:nth E i=some [Cl b T cs])(_:vq cs (o+m) vs=true)(_:xJ vs=true),
   St w0 (ze E i [Cl b T (Zq cs (o+m) vs)]) (jE w ⟨b,o,none⟩ vs m):=by
  intro vs
  induction vs with
  | nil=>intro w E h b o T cs m i hi _ _;simp only[jE,Zq];rw[ZE hi];exact h
  | cons v vs ih=>
   intro w E h b o T cs m i hi hh h1;simp only[vq,Bool.and_eq_true]at hh;simp only[xJ,Bool.and_eq_true]at h1;obtain⟨u,hu⟩:=Option.isSome_iff_exists.1 hh.1;have hst:=(st1 (k:=λw'=>St w0 (ze E i [Cl b T (ze cs (o+m) v)]) w') h i hi hu h1.1 λw' h=>h).2;simp only[jE,YT]at hst;have e:(⟨b,o,none⟩:Addr).add m=⟨b,o+m,none⟩:=yH ..;rw[←e]at hst;have hi2:=Ke (y:=[Cl b T (ze cs (o+m) v)]) hi;have:=ih hst (m+1) i hi2 (by
    have:∀(us:List Value)(cs:List Value)(p q:Nat),vq cs q us=true→vq (ze cs p v) q us=true:=by
     intro us
     induction us with
     | nil=>intros;rfl
     | cons z us ih2=>
      intro cs p q hq;simp only[vq,Bool.and_eq_true]at hq ⊢;refine⟨?_,ih2 _ _ _ hq.2⟩;have hl:=hq.1;rw[zp]at hl ⊢;rw[yo];simp at hl ⊢;exact hl
    exact this vs cs _ _ (by rw[←Nat.add_assoc];exact hh.2)) h1.2
   rw[Vh]at this;exact this
 intro vs w E h b o T cs k i hi hh h1 hk;refine⟨λj c hj=>?_,hk _ ?_⟩
 ·have hc:Va c=true:=by
   clear hk hh
   induction vs generalizing j with
   | nil=>cases hj
   | cons v vs ih=>
    simp only[xJ,Bool.and_eq_true]at h1
    cases j with
    | zero=>cases hj;exact h1.1
    | succ j=>exact ih h1.2 j hj
  have hs:∃u,nth cs (o+j)=some u:=by
   clear hk h1 hc
   induction vs generalizing j o with
   | nil=>cases hj
   | cons v vs ih=>
    simp only[vq,Bool.and_eq_true]at hh
    cases j with
    | zero=>exact Option.isSome_iff_exists.1 hh.1
    | succ j=>
     have:=ih (o:=o+1) hh.2 j hj
     rwa [Nat.add_assoc,Nat.add_comm 1 j]at this
  obtain⟨u,hu⟩:=hs;rw[yH];refine⟨hc,by rw[h.cellOwn i hi hu];rfl,?_⟩;have hb:=(h.at i hi).2;simp[World.frozen?,hb]
 ·have:=key vs h 0 i hi (by simpa using hh) h1;simpa using this
def ul{d:Nat}{ds:List Nat}{k:PT}(h:St w0 ([DfM d]::E) w)(hk:∀w',St w0 (E) w'→L.unmark P ds k w'):L.unmark P (d::ds) k w:=um h 0 rfl λw' h=>hk w' (h.del 0 rfl)
def ZU{s:Seg}(h:St w0 (s::E) w):St w0 (E) w:=h.del 0 rfl
def uk{s0:Seg}{d:Nat}{ds:List Nat}{k:PT}(h:St w0 (s0::[DfM d]::E) w)(hk:∀w',St w0 (s0::E) w'→L.unmark P ds k w'):L.unmark P (d::ds) k w:=um h 1 rfl λw' h=>hk w' (h.del 1 rfl)
def yx{s0:Seg}{s:Seg}(h:St w0 (s0::s::E) w):St w0 (s::s0::E) w:=h.front 1 rfl
def Ut{s0:Seg}{s:Seg}(h:St w0 (s0::s::E) w):St w0 (s0::E) w:=h.del 1 rfl
def uj{s0 s1:Seg}{d:Nat}{ds:List Nat}{k:PT}(h:St w0 (s0::s1::[DfM d]::E) w)(hk:∀w',St w0 (s0::s1::E) w'→L.unmark P ds k w'):L.unmark P (d::ds) k w:=um h 2 rfl λw' h=>hk w' (h.del 2 rfl)
def ZC{s0 s1:Seg}{s:Seg}(h:St w0 (s0::s1::s::E) w):St w0 (s::s0::s1::E) w:=h.front 2 rfl
def gM{s0 s1:Seg}{s:Seg}(h:St w0 (s0::s1::s::E) w):St w0 (s0::s1::E) w:=h.del 2 rfl
def ui{s0 s1 s2:Seg}{d:Nat}{ds:List Nat}{k:PT}(h:St w0 (s0::s1::s2::[DfM d]::E) w)(hk:∀w',St w0 (s0::s1::s2::E) w'→L.unmark P ds k w'):L.unmark P (d::ds) k w:=um h 3 rfl λw' h=>hk w' (h.del 3 rfl)
def yF{s0 s1 s2:Seg}{s:Seg}(h:St w0 (s0::s1::s2::s::E) w):St w0 (s::s0::s1::s2::E) w:=h.front 3 rfl
def Us{s0 s1 s2:Seg}{s:Seg}(h:St w0 (s0::s1::s2::s::E) w):St w0 (s0::s1::s2::E) w:=h.del 3 rfl
def uh{s0 s1 s2 s3:Seg}{d:Nat}{ds:List Nat}{k:PT}(h:St w0 (s0::s1::s2::s3::[DfM d]::E) w)(hk:∀w',St w0 (s0::s1::s2::s3::E) w'→L.unmark P ds k w'):L.unmark P (d::ds) k w:=um h 4 rfl λw' h=>hk w' (h.del 4 rfl)
def yu{s0 s1 s2 s3:Seg}{s:Seg}(h:St w0 (s0::s1::s2::s3::s::E) w):St w0 (s::s0::s1::s2::s3::E) w:=h.front 4 rfl
def QV{s0 s1 s2 s3:Seg}{s:Seg}(h:St w0 (s0::s1::s2::s3::s::E) w):St w0 (s0::s1::s2::s3::E) w:=h.del 4 rfl
def ug{s0 s1 s2 s3 s4:Seg}{d:Nat}{ds:List Nat}{k:PT}(h:St w0 (s0::s1::s2::s3::s4::[DfM d]::E) w)(hk:∀w',St w0 (s0::s1::s2::s3::s4::E) w'→L.unmark P ds k w'):L.unmark P (d::ds) k w:=um h 5 rfl λw' h=>hk w' (h.del 5 rfl)
def xw{s0 s1 s2 s3 s4:Seg}{s:Seg}(h:St w0 (s0::s1::s2::s3::s4::s::E) w):St w0 (s::s0::s1::s2::s3::s4::E) w:=h.front 5 rfl
def ow{s0 s1 s2 s3 s4:Seg}{s:Seg}(h:St w0 (s0::s1::s2::s3::s4::s::E) w):St w0 (s0::s1::s2::s3::s4::E) w:=h.del 5 rfl
def uf{s0 s1 s2 s3 s4 s5:Seg}{d:Nat}{ds:List Nat}{k:PT}(h:St w0 (s0::s1::s2::s3::s4::s5::[DfM d]::E) w)(hk:∀w',St w0 (s0::s1::s2::s3::s4::s5::E) w'→L.unmark P ds k w'):L.unmark P (d::ds) k w:=um h 6 rfl λw' h=>hk w' (h.del 6 rfl)
def yK{s0 s1 s2 s3 s4 s5:Seg}{s:Seg}(h:St w0 (s0::s1::s2::s3::s4::s5::s::E) w):St w0 (s::s0::s1::s2::s3::s4::s5::E) w:=h.front 6 rfl
def ov{s0 s1 s2 s3 s4 s5:Seg}{s:Seg}(h:St w0 (s0::s1::s2::s3::s4::s5::s::E) w):St w0 (s0::s1::s2::s3::s4::s5::E) w:=h.del 6 rfl
def ue{s0 s1 s2 s3 s4 s5 s6:Seg}{d:Nat}{ds:List Nat}{k:PT}(h:St w0 (s0::s1::s2::s3::s4::s5::s6::[DfM d]::E) w)(hk:∀w',St w0 (s0::s1::s2::s3::s4::s5::s6::E) w'→L.unmark P ds k w'):L.unmark P (d::ds) k w:=um h 7 rfl λw' h=>hk w' (h.del 7 rfl)
def Yv{s0 s1 s2 s3 s4 s5 s6:Seg}{s:Seg}(h:St w0 (s0::s1::s2::s3::s4::s5::s6::s::E) w):St w0 (s::s0::s1::s2::s3::s4::s5::s6::E) w:=h.front 7 rfl
def mi{s0 s1 s2 s3 s4 s5 s6:Seg}{s:Seg}(h:St w0 (s0::s1::s2::s3::s4::s5::s6::s::E) w):St w0 (s0::s1::s2::s3::s4::s5::s6::E) w:=h.del 7 rfl
def ud{s0 s1 s2 s3 s4 s5 s6 s7:Seg}{d:Nat}{ds:List Nat}{k:PT}(h:St w0 (s0::s1::s2::s3::s4::s5::s6::s7::[DfM d]::E) w)(hk:∀w',St w0 (s0::s1::s2::s3::s4::s5::s6::s7::E) w'→L.unmark P ds k w'):L.unmark P (d::ds) k w:=um h 8 rfl λw' h=>hk w' (h.del 8 rfl)
def FB{s0 s1 s2 s3 s4 s5 s6 s7:Seg}{s:Seg}(h:St w0 (s0::s1::s2::s3::s4::s5::s6::s7::s::E) w):St w0 (s::s0::s1::s2::s3::s4::s5::s6::s7::E) w:=h.front 8 rfl
def mh{s0 s1 s2 s3 s4 s5 s6 s7:Seg}{s:Seg}(h:St w0 (s0::s1::s2::s3::s4::s5::s6::s7::s::E) w):St w0 (s0::s1::s2::s3::s4::s5::s6::s7::E) w:=h.del 8 rfl
def uc{s0 s1 s2 s3 s4 s5 s6 s7 s8:Seg}{d:Nat}{ds:List Nat}{k:PT}(h:St w0 (s0::s1::s2::s3::s4::s5::s6::s7::s8::[DfM d]::E) w)(hk:∀w',St w0 (s0::s1::s2::s3::s4::s5::s6::s7::s8::E) w'→L.unmark P ds k w'):L.unmark P (d::ds) k w:=um h 9 rfl λw' h=>hk w' (h.del 9 rfl)
def xN{s0 s1 s2 s3 s4 s5 s6 s7 s8 s9:Seg}{d:Nat}{ds:List Nat}{k:PT}(h:St w0 (s0::s1::s2::s3::s4::s5::s6::s7::s8::s9::[DfM d]::E) w)(hk:∀w',St w0 (s0::s1::s2::s3::s4::s5::s6::s7::s8::s9::E) w'→L.unmark P ds k w'):L.unmark P (d::ds) k w:=um h 10 rfl λw' h=>hk w' (h.del 10 rfl)
def oX{s0 s1 s2 s3 s4 s5 s6 s7 s8 s9:Seg}{s:Seg}(h:St w0 (s0::s1::s2::s3::s4::s5::s6::s7::s8::s9::s::E) w):St w0 (s::s0::s1::s2::s3::s4::s5::s6::s7::s8::s9::E) w:=h.front 10 rfl
def xM{s0 s1 s2 s3 s4 s5 s6 s7 s8 s9 s10:Seg}{d:Nat}{ds:List Nat}{k:PT}(h:St w0 (s0::s1::s2::s3::s4::s5::s6::s7::s8::s9::s10::[DfM d]::E) w)(hk:∀w',St w0 (s0::s1::s2::s3::s4::s5::s6::s7::s8::s9::s10::E) w'→L.unmark P ds k w'):L.unmark P (d::ds) k w:=um h 11 rfl λw' h=>hk w' (h.del 11 rfl)
def vz{s0 s1 s2 s3 s4 s5 s6 s7 s8 s9 s10:Seg}{s:Seg}(h:St w0 (s0::s1::s2::s3::s4::s5::s6::s7::s8::s9::s10::s::E) w):St w0 (s::s0::s1::s2::s3::s4::s5::s6::s7::s8::s9::s10::E) w:=h.front 11 rfl
end
end Go.Dm
namespace Go.Dm
abbrev SlV(v:Sl):Value:=.slice v.a v.len v.cap
structure Enc{α:Type}(enc:α→List Value)(size:Nat):Prop where
 len:∀x,(enc x).length=size
 one:∀x,xJ (enc x)=true
 pos:0<size
abbrev fl{α:Type}(enc:α→List Value)(l:List α):List Value:=l.flatMap enc
section
variable {α:Type}{enc:α→List Value}{size:Nat}
def qV:∀{vs:List Value},xJ vs=true→∀u∈vs,Va u=true
 | [],_,u,hu=>by cases hu
 | v::vs,h,u,hu=>by
  simp only[xJ,Bool.and_eq_true]at h;rcases List.mem_cons.1 hu with rfl | hu
  ·exact h.1
  ·exact qV h.2 u hu
def Jo(hE:Enc enc size)(l:List α):(fl enc l).length=l.length*size:=by
 induction l with
 | nil=>simp
 | cons x l ih=>
  have:=hE.len x;simp only[fl,List.flatMap_cons,List.length_append,List.length_cons]at ih ⊢;rw[ih,Nat.add_mul,this];omega
def XW(hE:Enc enc size):∀{l:List α}{i:Nat}{x:α}{f:Nat}{u:Value},l[i]? = some x→nth (enc x) f=some u→nth (fl enc l) (i*size+f)=some u
 | [],i,x,f,u,h,_=>by simp at h
 | y::l,0,x,f,u,h,hu=>by
  simp at h;subst h;rw[Nat.zero_mul,Nat.zero_add];show nth (enc y++fl enc l) f=_;rw[jZ (UY hu)];exact hu
 | y::l,i+1,x,f,u,h,hu=>by
  show nth (enc y++fl enc l) _=_;have e:(i+1)*size+f=(enc y).length+(i*size+f):=by rw[hE.len,Nat.add_mul];omega
  rw[e,YA];exact XW hE (by simpa using h) hu
def vB(l m:List α):fl enc (l++m)=fl enc l++fl enc m:=by simp[fl]
def fw(x:α):fl enc [x]=enc x:=by simp[fl]
def xy{A B:List Value}{i:Nat}{v:Value}(h:i<A.length):ze (A++B) i v=ze A i v++B:=by
 rw[yo,yo,List.set_append_left _ _ h]
def JE{A B:List Value}{i:Nat}{v:Value}:ze (A++B) (A.length+i) v=A++ze B i v:=by
 rw[yo,yo,List.set_append_right _ _ (by omega)]
 congr 2;omega
def kf(hE:Enc enc size):∀{l:List α}{i:Nat}{x y:α}{f:Nat}{u:Value},l[i]? = some x→f<size→enc y=ze (enc x) f u→ze (fl enc l) (i*size+f) u=fl enc (l.set i y)
 | [],i,x,y,f,u,h,_,_=>by simp at h
 | z::l,0,x,y,f,u,h,hf,he=>by
  simp at h;subst h;rw[Nat.zero_mul,Nat.zero_add];show ze (enc z++fl enc l) f u=enc y++fl enc l;rw[xy (by rw[hE.len];exact hf),he]
 | z::l,i+1,x,y,f,u,h,hf,he=>by
  show ze (enc z++fl enc l) _ u=enc z++fl enc (l.set i y);have e:(i+1)*size+f=(enc z).length+(i*size+f):=by rw[hE.len,Nat.add_mul];omega
  rw[e,JE];exact congrArg _ (kf hE (by simpa using h) hf he)
def Rw(enc:α→List Value)(e:TypeId)(size:Nat)(v:Sl)(l:List α)(s:Seg):Prop:=Row e size v (fl enc l) s
def ElA(v:Sl)(size i:Nat)(a:Addr):Prop:=∃a0,v.a=some a0∧a=a0.add (i*size)
end
section
variable {w0 w w':World}{E E':List Seg}{P:Program}{α:Type}{enc:α→List Value}{e size:Nat}{v:Sl}{l:List α}{s:Seg}
def Rw.nil:Rw enc e size ⟨none,0,0⟩ [] []:=Row.nil
def Rw.len(hE:Enc enc size)(h:Rw enc e size v l s):v.len=l.length:=by
 have:=Row.len h;rw[Jo hE]at this;exact(Nat.mul_right_cancel hE.pos this).symm
def Rw.cap(h:Rw enc e size v l s):v.len≤v.cap∧v.cap≤maxLen:=by
 unfold Rw at h;generalize fl enc l=xs at h
 cases h with
 | nil=>exact⟨Nat.le_refl _,by simp[maxLen]⟩
 | mk g n cap pre xs spare post h1 h2 h3 h4=>exact⟨h3,h4⟩
def Rw.made(g n cap:Nat)(l:List α)(spare:List Value)(hE:Enc enc size)(h1:n=l.length)(h2:spare.length+n*size=cap*size)(h3:n≤cap)(h4:cap≤maxLen):Rw enc e size ⟨some ⟨g,0,none⟩,n,cap⟩ l [Cl g e (fl enc l++spare)]:=
 Row.mk0 g n cap _ spare (by rw[Jo hE,h1]) (by rw[Jo hE,←h1];omega) h3 h4
def Rw.lit(g:Nat)(l:List α){cs:List Value}{n:Nat}(hE:Enc enc size)(hc:cs=fl enc l)(hn:n=l.length)(h4:n≤maxLen):Rw enc e size ⟨some ⟨g,0,none⟩,n,n⟩ l [Cl g e cs]:=by
 have:=Rw.made (e:=e) g n n l [] hE hn (by simp) (Nat.le_refl _) h4;rw[List.append_nil]at this;rw[hc];exact this
def yS(a:Addr)(m n:Nat):(a.add m).add n=a.add (m+n):=by
 unfold Addr.add;by_cases hm:m=0
 ·subst hm;simp
 ·by_cases hn:n=0
  ·subst hn;simp
  ·rw[if_neg hm,if_neg hn,if_neg (by omega)];simp[Nat.add_assoc]
def Rw.ix(hE:Enc enc size)(hr:Rw enc e size v l s){n:Int}{kk:Addr→PT}(h0:0≤n)(h1:n.toNat<l.length)(hk:∀a,ElA v size n.toNat a→kk a w):L.idx v.a n v.len size kk w:=by
 have hlen:=Rw.len hE hr
 cases hb:v.a with
 | none=>
  generalize hl:l=l2 at hr
  cases l2 with
  | nil=>subst hl;simp at h1
  | cons x l2=>
   unfold Rw at hr;generalize fl enc (x::l2)=cs at hr
   cases hr with
   | nil=>simp at hlen;omega
   | mk=>cases hb
 | some b=>exact Go.Dm.ix h0 (by omega) (hk _ ⟨b,hb,rfl⟩)
def Rw.ld(hE:Enc enc size)(h:St w0 E w)(k:Nat)(hi:nth E k=some s)(hr:Rw enc e size v l s){i:Nat}{a:Addr}(ha:ElA v size i a){x:α}(hx:l[i]? = some x){f:Nat}{lf:Lf}{kk:lf.T→PT}{u:Value}{y:lf.T}
  (hu:nth (enc x) f=some u) (hy:un2 lf u=some y) (hk:kk y w):L.load (.one lf) (a.add f) kk w:=by
 obtain⟨a0,hv,rfl⟩:=ha;refine⟨y,λj c hc=>?_,hk⟩
 cases j with
 | zero=>
  cases hc
  rw[YT,yS];exact hr.cell h k hi hv (by rw[UE hy];exact XW hE hx hu)
 | succ j=>cases hc
def Rw.ld0(hE:Enc enc size)(h:St w0 E w)(k:Nat)(hi:nth E k=some s)(hr:Rw enc e size v l s){i:Nat}{a:Addr}(ha:ElA v size i a){x:α}(hx:l[i]? = some x){lf:Lf}{kk:lf.T→PT}{u:Value}{y:lf.T}
  (hu:nth (enc x) 0=some u) (hy:un2 lf u=some y) (hk:kk y w):L.load (.one lf) a kk w:=by
 have:=Rw.ld hE h k hi hr ha hx hu hy hk;rw[YT]at this;exact this
def Rw.lda(hE:Enc enc size)(h:St w0 E w)(k:Nat)(hi:nth E k=some s)(hr:Rw enc e size v l s){i:Nat}{a:Addr}(ha:ElA v size i a){x:α}(hx:l[i]? = some x){ls:List Lf}{kk:HT ls→PT}{y:HT ls}
  (hy:KO ls (enc x)=some y) (hk:kk y w):L.load (.agg ls) a kk w:=by
 obtain⟨a0,hv,rfl⟩:=ha;refine⟨y,λj c hc=>?_,hk⟩;rw[yS];exact hr.cell h k hi hv (XW hE hx (QB hy j c hc))
def Rw.st(hE:Enc enc size)(h:St w0 E w)(k:Nat)(hi:nth E k=some s)(hr:Rw enc e size v l s){i:Nat}{a:Addr}(ha:ElA v size i a){x y:α}(hx:l[i]? = some x){f:Nat}{u:Value}{kk:PT}(hf:f<size)(he:enc y=ze (enc x) f u)(hu:Va u=true)
  (hk:∀s' w',Rw enc e size v (l.set i y) s'→St w0 (ze E k s') w'→kk w'):L.store (a.add f) [u] kk w:=by
 obtain⟨a0,hv,rfl⟩:=ha;have hset:=kf hE hx hf he;have hlt:i*size+f<(fl enc l).length:=by
  rw[Jo hE];have:i<l.length:=(List.getElem?_eq_some_iff.1 hx).1;have:=Nat.mul_le_mul_right size (show i+1≤l.length from this);rw[Nat.add_mul]at this;omega
 unfold Rw at hr hk;rw[←hset]at hk;have hlen2:(ze (fl enc l) (i*size+f) u).length=(fl enc l).length:=by rw[yo];simp
 generalize fl enc l=xs at *
 cases hr with
 | nil=>cases hv
 | mk g n cap pre xs spare post h1 h2 h3 h4=>
  cases hv
  rw[yS,yH];refine stx [u] h k hi ?_ (by simp[xJ,hu]) λw' h=>hk _ w' (Row.mk g n cap pre _ spare post (by rw[hlen2];exact h1) (by rw[hlen2];exact h2) h3 h4) ?_
  ·have:∃c,nth (pre++(xs++(spare++post))) (pre.length+(i*size+f))=some c:=by
    rw[YA,jZ hlt,zp];exact⟨_,List.getElem?_eq_getElem hlt⟩
   obtain⟨c,hc⟩:=this;simp[vq,hc]
  ·simp only[Zq]at h;rw[JE,xy hlt]at h;exact h
def Rw.app{t ty bytes:TypeId}{z:Value}(hE:Enc enc size)(L0:El P t e size bytes z){b T:Nat}{cs:List Value}(h:St w0 ([Cl b T cs]::E) w)(k:Nat)(hi:nth E k=some s)(hr:Rw enc e size v l s)(x:α)(hc:enc x=cs)
  (hb:(l.length+1)*bytes≤140737488355328) (h63:l.length<1000000000000) {kk:Sl→PT}
  (hk:∀(v':Sl) s' w',Rw enc e size v' (l++[x]) s'→St w0 (ze E k s') w'→kk v' w') :
  L.sem P (.one (.one .slice)) (Builtin.append_ #[t,t] ty #[.slice v.a v.len v.cap,.slice (some ⟨b,0,none⟩) 1 1]) kk w:=by
 have hlen:=Rw.len hE hr;refine Go.Dm.app L0 h (k+1) hi hr (a:=⟨b,0,none⟩) (m:=1) cs (by rw[←hc,hE.len];omega) (λj u hu=>?_) (λu hu=>?_) (by omega) (by rw[hlen];exact hb) (by rw[hlen];simp only[maxLen];omega) λv' s' w' hr' hl' h=>hk v' s' w' ?_ h.tail
 ·rw[yH];exact h.cellOwn 0 rfl (by rw[Nat.zero_add,zp];exact hu)
 ·subst hc;exact qV (hE.one x) u hu
 ·unfold Rw;rw[vB,fw,hc];exact hr'
def Rw.behind(hE:Enc enc size)(hr:Rw enc e size v l s)(i:Nat)(hi:i≤l.length):Rw enc e size ⟨if v.cap=i then v.a else Option.map (λa:Addr=>a.add (i*size)) v.a,v.len-i,v.cap-i⟩ (l.drop i) s:=by
 have hlen:=Rw.len hE hr;have hcap:=hr.cap;have e1:fl enc l=fl enc (l.take i)++fl enc (l.drop i):=by rw[←vB,List.take_append_drop]
 have e2:(fl enc (l.take i)).length=i*size:=by rw[Jo hE,List.length_take];congr 1;omega
 unfold Rw at *
 generalize hxs:fl enc l=xs at *
 cases hr with
 | nil=>
  simp only at *
  have:i=0:=by omega
  subst this;rw[List.drop_zero,hxs];simp only[Nat.sub_self,if_pos];exact Row.nil
 | mk g n cap pre xs spare post h1 h2 h3 h4=>
  simp only at *
  have hl3:(fl enc (l.drop i)).length=(n-i)*size:=by rw[Jo hE,List.length_drop,hlen]
  by_cases hc:cap=i
  ·rw[if_pos hc];have h0:l.drop i = []:=List.drop_of_length_le (by omega);rw[h0];have e3:n-i=0:=by omega
   have e4:cap-i=0:=by omega
   rw[e3,e4];have:=Row.mk (e:=e) (size:=size) g 0 0 pre [] [] (xs++(spare++post)) (by simp) (by simp) (by omega) (by simp[maxLen]);simpa [fl]using this
  ·rw[if_neg hc];rw[e1];simp only[Option.map_some,yH];have:=Row.mk (e:=e) (size:=size) g (n-i) (cap-i) (pre++fl enc (l.take i)) (fl enc (l.drop i)) spare post hl3 (by
    rw[hl3];rw[e1,List.length_append,e2,hl3]at h2;rw[Nat.sub_mul,Nat.sub_mul]at *
    have:=Nat.mul_le_mul_right size (show i≤n by omega);have:=Nat.mul_le_mul_right size h3;omega) (by omega) (by omega)
   simp only[List.length_append,e2]at this;simpa using this
end
def Yld(P:Program)(w0:World)(A:List Seg)(fv:Value)(n:Nat)(arg:Nat→List Value):Prop:=
 ∀(yv:FV)(R:Value→PT)(J:Nat→List Seg→Prop)(Jd:World→Prop)(F:List Seg)(w:World),St w0 (A++F) w→J 0 F→
  (∀m F w,m<n→J m F→St w0 (A++F) w→jQ P yv.val (arg m) w λv w'=>(v = .bool true∧∃F',St w0 (A++F') w'∧J (m+1) F')∨(v = .bool false∧Jd w'))→
  (∀F w,J n F→St w0 (A++F) w→R (.tuple #[]) w)→(∀w,Jd w→R (.tuple #[]) w)→qf P fv [yv.val] w R
section
variable {w0 w w':World}{P:Program}
def St.toFront{A F G:List Seg}(h:St w0 (A++(G++F)) w):St w0 (G++(A++F)) w:=by
 refine h.perm ?_;simp only[List.flatten_append,←List.append_assoc];exact List.Perm.append_right _ List.perm_append_comm
def XQ{A F:List Seg}{fv:Value}{n:Nat}{es:List E1}{arg:Nat→TT es}(hY:Yld P w0 A fv n λm=>TV es (arg m))(h:St w0 (A++F) w){body:Nat→TT es→(Value→PT)→PT}{K:List Nat→Option Code→PT}
  (Inv:Nat→List Seg→Prop) (Ex:Code→List Seg→Prop) (h0:Inv 0 F)
  (hb:∀m F w l lp d(R:Value→PT),m<n→Inv m F→St w0 ([Rec l lp .busy none]::[DfM d]::(A++F)) w→
   (∀F' w',Inv (m+1) F'→St w0 ([Rec l lp .busy none]::[DfM d]::(A++F')) w'→L.endRound P l none R w')→
   (∀j G w',Ex j G→St w0 ([Rec l lp .busy none]::[DfM d]::G) w'→L.endRound P l (some j) R w')→body l (arg m) R w)
  (hc:∀d F w,Inv n F→St w0 ([DfM d]::(A++F)) w→K [d] none w)
  (he:∀d j G w,Ex j G→St w0 ([DfM d]::G) w→K [d] (some j) w):L.range P none fv es (λl y R=>L.begin P l (body l y R)) K w:=by
 refine rng h λd l lp w h hy=>?_;have h:St w0 (A++([[Rec l lp .ready none],[DfM d]]++F)) w:=St.toFront (G:=A) (A:=[[Rec l lp .ready none],[DfM d]]) h;refine hY ⟨.yield l,#[],#[]⟩ _ (λm G=>∃F,G = [[Rec l lp .ready none],[DfM d]]++F∧Inv m F) (λw=>∃G j,St w0 ([Rec l lp .done (some j)]::[DfM d]::G) w∧Ex j G) _ w h ⟨F,rfl,h0⟩ ?_ ?_ ?_
 ·rintro m G w hm ⟨F,rfl,hi⟩ h;have h:=h.toFront;have hrec:=(h.at 0 (b:=(Rec l lp .ready none).1) (o:=(Rec l lp .ready none).2) rfl).2;refine hy (arg m) .ready none w _ hrec ?_;refine bgn h 0 rfl λw h=>?_;refine hb m F w l lp d _ hm hi h ?_ ?_
  ·intro F' w' hi' h';refine fD h' 0 rfl λw h=>.inl ⟨rfl,_,?_,F',rfl,hi'⟩;exact St.toFront (G:=A) (A:=[[Rec l lp .ready none],[DfM d]]) h
  ·intro j G w' hi' h';exact fE h' 0 rfl λw h=>.inr ⟨rfl,G,j,h,hi'⟩
 ·rintro G w ⟨F,rfl,hi⟩ h;refine OM h.toFront 0 rfl (by simp) λw h=>hc d F w hi h
 ·rintro w ⟨G,j,h,hi⟩;refine OM h 0 rfl (by simp) λw h=>he d j G w hi h
def qP{kn kr:PT}{ks:List (Nat×PT)}(h:kn w):L.jump none kn kr ks w:=h
def GV{kn kr:PT}{ks:List (Nat×PT)}(h:kr w):L.jump (some .ret) kn kr ks w:=h
def cv{fv:Value}{args:List Value}{r:RT}{k:r.T→PT}(h:jQ P fv args w λv w'=>∃x,v=r.val x∧k x w'):L.callV P fv args r k w:=h
def KD{f:FuncId}{fs cs:Array Value}{args:List Value}{r:RT}{k:r.T→PT}{F:(Value→PT)→PT}(hE:jR P f)(hc:∀{K:Value→PT}{w:World},F K w→Calls P f (fs++args.toArray++cs) w λe w'=>∃v,e = .returned v∧K v w')
  (h:F (λv w'=>∃x,v=r.val x∧k x w') w):L.callV P (.func (.func f) fs cs) args r k w:=
 ⟨hE,(hc h).mono λ_ _ ⟨v,he,x,hv,hk⟩=>⟨v,he,x,hv,hk⟩⟩
end
end Go.Dm
namespace Go.Dm
section
variable {w0 w w':World}{E E':List Seg}{P:Program}{α:Type}{enc:α→List Value}{e size bytes:Nat}{v v2:Sl}{l l2:List α}{s:Seg}
structure Rd(w:World)(enc:α→List Value)(v:Sl)(l:List α):Prop where
 len:v.len=l.length
 rd:∀j u,nth (fl enc l) j=some u→∃a,v.a=some a∧w.cell? (a.add j)=some u
def Rd.nil{n:Nat}:Rd w enc ⟨none,0,n⟩ []:=⟨rfl,λj u h=>by simp[fl,nth]at h⟩
def Rw.rd(hE:Enc enc size)(h:St w0 E w)(k:Nat)(hi:nth E k=some s)(hr:Rw enc e size v l s):Rd w enc v l:=by
 refine⟨Rw.len hE hr,λj u hj=>?_⟩
 cases hb:v.a with
 | none=>
  unfold Rw at hr;generalize fl enc l=cs at *
  cases hr with
  | nil=>cases hj
  | mk=>cases hb
 | some b=>exact⟨b,rfl,hr.cell h k hi hb hj⟩
structure Old(w0:World)(enc:α→List Value)(v:Sl)(l:List α):Prop where
 rd:Rd w0 enc v l
def Old.now(o:Old w0 enc v l)(h:St w0 E w):Rd w enc v l:=⟨o.rd.len,λj u hj=>let ⟨a,h1,h2⟩:=o.rd.rd j u hj;⟨a,h1,h.cell h2⟩⟩
def Rd.ix(r:Rd w' enc v l){n:Int}{kk:Addr→PT}(hE:Enc enc size)(h0:0≤n)(h1:n.toNat<l.length)(hk:∀a,ElA v size n.toNat a→kk a w):L.idx v.a n v.len size kk w:=by
 have hlen:=r.len;have hlt:n.toNat*size+0<(fl enc l).length:=by
  rw[Jo hE];have:=Nat.mul_le_mul_right size (show n.toNat+1≤l.length by omega);rw[Nat.add_mul]at this;have:=hE.pos;omega
 obtain⟨a,ha,-⟩:=r.rd (n.toNat*size+0) _ (by rw[zp];exact List.getElem?_eq_getElem hlt);rw[ha];exact Go.Dm.ix h0 (by omega) (hk _ ⟨a,ha,rfl⟩)
def Rd.ld(r:Rd w enc v l)(hE:Enc enc size){i:Nat}{a:Addr}(ha:ElA v size i a){x:α}(hx:l[i]? = some x){f:Nat}{lf:Lf}{kk:lf.T→PT}{u:Value}{y:lf.T}
  (hu:nth (enc x) f=some u) (hy:un2 lf u=some y) (hk:kk y w):L.load (.one lf) (a.add f) kk w:=by
 obtain⟨a0,hv,rfl⟩:=ha;refine⟨y,λj c hc=>?_,hk⟩
 cases j with
 | zero=>
  cases hc
  rw[YT,yS];obtain⟨b,hb,hc⟩:=r.rd _ _ (XW hE hx hu);rw[hv]at hb;cases hb;rw[UE hy];exact hc
 | succ j=>cases hc
def Rd.ld0(r:Rd w enc v l)(hE:Enc enc size){i:Nat}{a:Addr}(ha:ElA v size i a){x:α}(hx:l[i]? = some x){lf:Lf}{kk:lf.T→PT}{u:Value}{y:lf.T}
  (hu:nth (enc x) 0=some u) (hy:un2 lf u=some y) (hk:kk y w):L.load (.one lf) a kk w:=by
 have:=r.ld hE ha hx hu hy hk;rw[YT]at this;exact this
def Rd.lda(r:Rd w enc v l)(hE:Enc enc size){i:Nat}{a:Addr}(ha:ElA v size i a){x:α}(hx:l[i]? = some x){ls:List Lf}{kk:HT ls→PT}{y:HT ls}
  (hy:KO ls (enc x)=some y) (hk:kk y w):L.load (.agg ls) a kk w:=by
 obtain⟨a0,hv,rfl⟩:=ha;refine⟨y,λj c hc=>?_,hk⟩;rw[yS];obtain⟨b,hb,hc⟩:=r.rd _ _ (XW hE hx (QB hy j c hc));rw[hv]at hb;cases hb;exact hc
def St.fin(h:St w0 E w):St w0 [] w:=⟨h.size,h.old,h.os,h.out,h.tape,λx hx=>by simp at hx,by simp,h.fz⟩
def St.setN_same'(i:Nat)(hi:nth E i=some s)(h:St w0 (ze E i s) w):St w0 E w:=by rwa [ZE hi]at h
def FD{x y:PT}(h1:x w)(h2:y w):L.alts [x,y] w:=⟨h1,h2,trivial⟩
def fr{f:FuncId}{args:List Value}{F:(Value→PT)→PT}(hc:∀{K:Value→PT}{w:World},F K w→Calls P f args.toArray w λe w'=>∃v,e = .returned v∧K v w')(h:F (λv w'=>v = .bool true∧St w0 [] w') w0) :
  Calls P f args.toArray w0 λe w'=>e = .returned (.bool true)∧St w0 [] w':=
 (hc h).mono λ_ _ ⟨_,he,hv,hs⟩=>⟨by rw[he,hv],hs⟩
def RdE(w0:World)(E:List Seg)(enc:α→List Value)(v:Sl)(l:List α):Prop:=∀w,St w0 E w→Rd w enc v l
def Rw.re(hE:Enc enc size)(k:Nat)(hi:nth E k=some s)(hr:Rw enc e size v l s):RdE w0 E enc v l:=λ_ h=>Rw.rd hE h k hi hr
def Old.re(o:Old w0 enc v l):RdE w0 E enc v l:=λ_ h=>o.now h
def Rd.cut(r:Rd w enc v l)(hE:Enc enc size)(i j:Nat)(hij:i≤j)(hj:j≤l.length)(hc:v.len≤v.cap)(c:Nat):Rd w enc ⟨if v.cap=i then v.a else Option.map (λa:Addr=>a.add (i*size)) v.a,j-i,c⟩ ((l.take j).drop i):=by
 refine⟨by simp;omega,λk u hk=>?_⟩;have hk':nth (fl enc l) (i*size+k)=some u:=by
  have e1:fl enc l=fl enc (l.take i)++(fl enc ((l.take j).drop i)++fl enc (l.drop j)):=by
   rw[←vB,←vB]
   congr 1
   have:l.take i=(l.take j).take i:=by rw[List.take_take];congr 1;omega
   rw[this,←List.append_assoc,List.take_append_drop,List.take_append_drop]
  have e2:(fl enc (l.take i)).length=i*size:=by rw[Jo hE,List.length_take];congr 1;omega
  rw[e1,←e2,YA,jZ (UY hk)];exact hk
 obtain⟨a,ha,hcell⟩:=r.rd _ _ hk';refine⟨a.add (i*size),?_,by rw[yS];exact hcell⟩;have hlt:=UY hk;rw[Jo hE]at hlt;have h0:0<((l.take j).drop i).length:=by
  rcases Nat.eq_zero_or_pos ((l.take j).drop i).length with h | h
  ·rw[h]at hlt;omega
  ·exact h
 simp at h0;have:=r.len;simp only;rw[if_neg (by omega),ha];rfl
def kU{t ty:TypeId}(ht:P.underlying t=some (.slice e)){i:TypeInfo}(hi:P.info? e=some i)(base:Option Addr)(n c:Nat)(hn:n≤c)(x:Option Addr)(m:Nat) :
  (Builtin.append_ #[t,t] ty #[.slice base n c,.slice x 0 m]).run P w = .ok (.slice base n c) w:=by
 have hf:(Builtin.firstCells i.size 0 (.slice x 0 m)).run P w = .ok #[] w:=by
  cases x with
  | none=>exact run_firstCells_none ..
  | some b=>exact run_firstCells_some (P:=P) w i.size 0 b 0 m [] (by simp) (by simp)
 cases base with
 | none=>simp[Builtin.append_,run_underlying ht,sizeOf,typeInfo,hi,Builtin.lenOf,hn,hf]
 | some a=>simp[Builtin.append_,run_underlying ht,sizeOf,typeInfo,hi,Builtin.lenOf,hn,hf,storeCells]
def Rw.appRd{t ty:TypeId}{z:Value}(hE:Enc enc size)(L0:El P t e size bytes z)(h:St w0 E w)(k:Nat)(hi:nth E k=some s)(hr:Rw enc e size v l s)(r:Rd w enc v2 l2)
  (hb:(l.length+l2.length)*bytes≤140737488355328) (h63:l.length+l2.length<1000000000000) {kk:Sl→PT}
  (hk:∀(v':Sl) s' w',Rw enc e size v' (l++l2) s'→(l2 = []→v'=v)→(l2≠[]→v'.a≠none)→St w0 (ze E k s') w'→kk v' w') :
  L.sem P (.one (.one .slice)) (Builtin.append_ #[t,t] ty #[.slice v.a v.len v.cap,.slice v2.a v2.len v2.cap]) kk w:=by
 have hlen:=Rw.len hE hr;have hlen2:=r.len
 cases hl:l2 with
 | nil=>
  subst hl;obtain⟨ii,hi0,-,-,-⟩:=L0.info;simp only[List.length_nil]at hlen2;rw[hlen2];refine⟨v,w,kU L0.sl hi0 _ _ _ hr.cap.1 _ _,hk v s w (by rw[List.append_nil];exact hr) (λ_=>rfl) (λh=>(h rfl).elim) (by rw[ZE hi];exact h)⟩
 | cons x l3=>
  have hpos:0<l2.length:=by rw[hl];simp
  have hlt:0<(fl enc l2).length:=by rw[Jo hE];exact Nat.mul_pos hpos hE.pos
  obtain⟨a,ha,-⟩:=r.rd 0 _ (by rw[zp];exact List.getElem?_eq_getElem hlt);rw[ha,hlen2];refine Go.Dm.app L0 h k hi hr (a:=a) (m:=l2.length) (fl enc l2) (Jo hE _) (λj u hu=>?_) (λu hu=>?_) hpos (by rw[hlen];exact hb) (by rw[hlen];simp only[maxLen];omega) λv' s' w' hr' hl' h=>hk v' s' w' ?_ (λh=>?_) (λ_=>?_) h
  ·obtain⟨b,hb,hc⟩:=r.rd j u (by rw[zp];exact hu);rw[ha]at hb;cases hb;exact hc
  ·simp only[fl,List.mem_flatMap]at hu;obtain⟨y,-,hu⟩:=hu;exact qV (hE.one y) u hu
  ·unfold Rw;rw[vB];exact hr'
  ·rw[hl]at h;cases h
  ·intro ha0;generalize fl enc l++fl enc l2=cs at hr'
   cases hr' with
   | nil=>simp only at hl';omega
   | mk=>cases ha0
def nwc(h:St w0 E w){cs:List Value}{T:TypeId}{k:Nat→PT}(hk:∀b w',(∀a x,w.cell? a=some x→w'.cell? a=some x)→St w0 ([Cl b T cs]::E) w'→k b w'):L.new cs T k w:=by
 refine hk _ _ (λa x hx=>?_) (h.alloc _ rfl);unfold World.cell? at *
 cases hq:w.heap[a.block]? with
 | none=>rw[hq]at hx;cases hx
 | some o=>
  have hlt:=(Array.getElem?_eq_some_iff.1 hq).1;have e:(w.alloc (.cells cs.toArray T)).heap[a.block]? = w.heap[a.block]? :=by
   simp only[World.alloc];rw[Array.getElem?_push_lt hlt,Array.getElem?_eq_getElem hlt]
  rw[e];exact hx
def vK{t:TypeId}{z:Value}(hE:Enc enc size)(L0:El P t e size bytes z)(h:St w0 E w)(r:Rd w enc v l)(hb:l.length*bytes≤140737488355328)(h63:l.length<1000000000000)(h64:v.a=none→l = []){K:Value→PT}
  (hk:∀(v':Sl) s' w',Rw enc e size v' l s'→(v'.a=none↔v.a=none)→St w0 (s'::E) w'→K (SlV v') w') :
  (L.ite ((v.a).isNone) (K (.slice none 0 0))<| L.new [] e λb1=>
   L.sem P (.one (.one .slice)) (Builtin.append_ #[t,t] t #[.slice (some ⟨b1,0,none⟩) 0 0,.slice v.a v.len v.cap]) λ(s2:Sl)=>K (.slice s2.a s2.len s2.cap)) w:=by
 refine it (λhn=>?_) (λhn=>?_)
 ·have hn:v.a=none:=by simpa using hn
  have:=h64 hn;subst this;exact hk ⟨none,0,0⟩ [] w Rw.nil (by simp[hn]) (h.eq (by simp))
 ·have hn:v.a≠none:=λh=>by rw[h]at hn;cases hn
  refine nwc h λb w2 hcell h2=>?_;have r2:Rd w2 enc v l:=⟨r.len,λj u hj=>let ⟨a,h1,h3⟩:=r.rd j u hj;⟨a,h1,hcell _ _ h3⟩⟩;have hr0:Rw enc e size ⟨some ⟨b,0,none⟩,0,0⟩ [] [Cl b e []]:=Rw.lit b [] hE (by simp[fl]) rfl (by simp[maxLen]);refine Rw.appRd hE L0 h2 0 rfl hr0 r2 (by simpa using hb) (by simpa using h63) λv' s' w' hr' h1 h2 h=>hk v' s' w' hr' ?_ h;refine⟨λh0=>?_,λh0=>(hn h0).elim⟩
  cases l with
  | nil=>rw[h1 rfl]at h0;cases h0
  | cons x l=>exact(h2 (by simp) h0).elim
def mk0{t:TypeId}{z:Value}(L0:El P t e size bytes z)(hE:Enc enc size)(h:St w0 E w){n:Int}(h0:0≤n)(hn:n*bytes≤140737488355328)(hn2:n<1000000000000){kk:Sl→PT}
  (hk:∀(v:Sl) s w',Rw enc e size v [] s→St w0 (s::E) w'→kk v w'):L.sem P (.one (.one .slice)) (Instr.makeSlice t (.int .i64 0) (.int .i64 n)) kk w:=by
 obtain⟨ii,hi0,hiz,his,hib⟩:=L0.info;have hr:=run_make (P:=P) w t e ii z L0.sl hi0 hiz .i64 .i64 0 n (Int.le_refl _) h0 (by rw[hib,Int.mul_comm];omega) (by omega);refine⟨⟨some ⟨w.heap.size,0,none⟩,0,n.toNat⟩,_,hr,hk _ _ _ ?_ (h.alloc _ rfl)⟩;have:=Rw.made (e:=e) (enc:=enc) w.heap.size 0 n.toNat [] (madeCells z.cells (n.toNat*ii.size)).toList hE rfl (by rw[Array.length_toList,size_madeCells,his];omega) (by omega) (by simp only[maxLen];omega);simpa [Cl,fl]using this
end
end Go.Dm
