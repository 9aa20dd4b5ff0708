/- What is proved on the way to a statement of the seat, pressed (text AH). No conditions beyond those its theorems state. -/
import Derived.Test.YtimahgbgejngiaaGreatDoorNAG
import Derived.Laws.StructEq
import Derived.Laws.IdiomStrings
set_option linter.all false
namespace Go.Dm
def Bp{α:Type}{p:α→Bool}:∀{l:List α}{j:Nat}{x:α},l[j]? = some x→p x=true→(l.filter p)[((l.take j).filter p).length]? = some x
 | y::l,0,x,h,hp=>by simp at h;subst h;simp[hp]
 | y::l,j+1,x,h,hp=>by
  have:=Bp (l:=l) (j:=j) (p:=p) (by simpa using h) hp;by_cases hy:p y=true
  ·simp[hy,this]
  ·simp[hy,this]
def NT{α:Type}{p:α→Bool}{l:List α}{j:Nat}{x:α}(h:l[j]? = some x):((l.take (j+1)).filter p).length=((l.take j).filter p).length+if p x=true then 1 else 0:=by
 rw[List.take_add_one,h,List.filter_append,List.length_append]
 congr 1
 by_cases hp:p x=true<;>simp[hp]
section
variable {κ υ:Type}[DecidableEq κ]
def tU:∀{m:List (κ×υ)}{k:κ}{u:υ},zA m k=some u→Zp m k u=m
 | p::m,k,u,h=>by
  simp only[zA]at h;simp only[Zp];split at h
  ·rename_i e;cases h;subst e;simp
  ·rename_i e;rw[if_neg e,tU h]
def om{m:List (κ×υ)}{k:κ}{u:υ}(h:(m.map (·.1)).Nodup):((Zp m k u).map (·.1)).Nodup:=by
 cases hg:zA m k with
 | none=>
  rw[xU hg,List.map_append,List.nodup_append];refine⟨h,by simp,λa ha b hb=>?_⟩;simp at hb;subst hb;intro e;subst e;exact Yn.1 hg ha
 | some v=>rw[kI hg];exact h
def yr{m:List (κ×υ)}{k:κ}{u:υ}:∀{x},x∈Zp m k u→x=(k,u)∨x∈m:=by
 induction m with
 | nil=>intro x h;simp[Zp]at h;exact .inl h
 | cons p m ih=>
  intro x h;simp only[Zp]at h;split at h
  ·rcases List.mem_cons.1 h with h | h
   ·exact .inl h
   ·exact .inr (List.mem_cons_of_mem _ h)
  ·rcases List.mem_cons.1 h with h | h
   ·exact .inr (h▸List.mem_cons_self ..)
   ·rcases ih h with h | h
    ·exact .inl h
    ·exact .inr (List.mem_cons_of_mem _ h)
def JA(m:List (κ×υ))(k:κ)(u:υ):(Zp m k u).length≤m.length+1:=by
 cases h:zA m k with
 | none=>rw[xU h];simp
 | some v=>rw[fE h];omega
def Nz:∀(m:List (κ×υ))(k:κ)(u v:υ),Zp (Zp m k u) k v=Zp m k v
 | [],k,u,v=>by simp[Zp]
 | p::m,k,u,v=>by
  simp only[Zp];by_cases e:p.1=k
  ·simp[e,Zp]
  ·simp[e,Zp,Nz m k u v]
end
section
variable {w0 w:World}{E E':List Seg}
def jd{Y:Type}{X:(Y→PT)→PT}{k:Y→PT}(h:X k w):L.join X k w:=h
def eqk{α:Type}{a b:α}{k:α→PT}(h:k a w)(e:a=b):k b w:=e▸h
def RF{P:Program}{T:TypeId}{a b:Array Value}{r:Bool}(hg:P.eqGuardType P.depth T=false)(h:(Op.equalIn 10000 T (.agg a) (.agg b)).run P w = .ok r w) :
  (do eqGuard .eql T (.tmp 0) (.tmp 0) (.agg a) (.agg b);binOp .eql T (.agg a) (.agg b):Sem Value).run P w = .ok (.bool r) w:=by
 rw[Sem.run_bind,run_eqGuard_agg w .eql T (.tmp 0) (.tmp 0) _ _ hg];simp only[Result.andThen];rw[run_eql_struct,h];rfl
def Sm{P:Program}{T:TypeId}{a b:Array Value}{r:Bool}(hg:P.eqGuardType P.depth T=false)(h:(Op.equalIn 10000 T (.agg a) (.agg b)).run P w = .ok r w) :
  (do eqGuard .neq T (.tmp 0) (.tmp 0) (.agg a) (.agg b);binOp .neq T (.agg a) (.agg b):Sem Value).run P w = .ok (.bool (!r)) w:=by
 rw[Sem.run_bind,run_eqGuard_agg w .neq T (.tmp 0) (.tmp 0) _ _ hg];simp only[Result.andThen];rw[run_neq_struct,h];rfl
def Tk{a b:B0}:(@BEq.beq B0 _ a b)=true↔a=b:=by rw[beq_toListBytes,jN];simp
def rd1{α:Type}{enc:α→List Value}{v:Sl}{l:List α}(r:Rd w enc v l)(hE:Enc enc 1){n:Int}{lf:Lf}{kk:lf.T→PT}(f:α→lf.T)(hf:∀x,∃u,nth (enc x) 0=some u∧un2 lf u=some (f x))(h0:0≤n)(h1:n<v.len)
  (hk:∀x,l[n.toNat]? = some x→kk (f x) w):L.idx v.a n v.len 1 (λa=>L.load (.one lf) a kk) w:=by
 have hl:=r.len;have hx:l[n.toNat]? = some l[n.toNat]:=List.getElem?_eq_getElem (by omega);refine r.ix hE h0 (by omega) λa ha=>?_;obtain⟨u,h1,h2⟩:=hf l[n.toNat];exact r.ld0 hE ha hx h1 h2 (hk _ hx)
def St.split3{a b c:Seg}(h:St w0 ((a++(b++c))::E) w):St w0 (a::b::c::E) w:=h.eq (by simp)
def St.glue3{a b c:Seg}(h:St w0 (a::b::c::E) w):St w0 ((a++(b++c))::E) w:=h.eq (by simp)
def St.split5{a b c d e:Seg}(h:St w0 ((a++(b++(c++(d++e))))::E) w):St w0 (a::b::c::d::e::E) w:=h.eq (by simp)
def St.glue5{a b c d e:Seg}(h:St w0 (a::b::c::d::e::E) w):St w0 ((a++(b++(c++(d++e))))::E) w:=h.eq (by simp)
def St.nil(h:St w0 E w):St w0 ([]::E) w:=h.eq (by simp)
def St.again{s:Seg}(i:Nat)(hi:nth E i=some s)(h:St w0 (s::Zi E i) w):St w0 E w:=St.setN_same' i hi (St.back i hi h)
def Sbp{α:Type}(a b:List α):Prop:=∃r,(a++r).Perm b
def Sbp.refl{α:Type}(a:List α):Sbp a a:=⟨[],by simp⟩
def Sbp.trans{α:Type}{a b c:List α}(h:Sbp a b)(g:Sbp b c):Sbp a c:=by
 obtain⟨r,h⟩:=h;obtain⟨s,g⟩:=g;exact⟨r++s,by rw[←List.append_assoc];exact(h.append_right s).trans g⟩
def Sbp.perm{α:Type}{a b:List α}(h:a.Perm b):Sbp a b:=⟨[],by simpa using h⟩
def Sbp.left{α:Type}{a b:List α}(x:List α)(h:Sbp a b):Sbp (x++a) (x++b):=by
 obtain⟨r,h⟩:=h;exact⟨r,by rw[List.append_assoc];exact h.append_left x⟩
def Sbp.right{α:Type}{a b:List α}(x:List α)(h:Sbp a b):Sbp (a++x) (b++x):=by
 obtain⟨r,h⟩:=h;exact⟨r,by rw[List.append_assoc];exact(List.perm_append_comm.append_left a).trans (by rw[←List.append_assoc];exact h.append_right x)⟩
def Sbp.behind{α:Type}(x a:List α):Sbp a (x++a):=⟨x,List.perm_append_comm⟩
def St.sub(h:St w0 E w)(hp:Sbp E'.flatten E.flatten):St w0 E' w:=by
 obtain⟨r,hp⟩:=hp;have h2:St w0 (E'++[r]) w:=h.perm (by simpa using hp.symm);refine⟨h2.size,h2.old,h2.os,h2.out,h2.tape,λx hx=>h2.own x (by simp only[List.flatten_append,List.mem_append];exact .inl hx),?_,h2.fz⟩;have:=h2.nd;simp only[List.flatten_append,List.map_append]at this;exact(List.nodup_append.1 this).1
section
variable {κ τ:Type}[DecidableEq κ](key:τ→κ)
def lput:List τ→τ→List τ
 | [],x=>[x]
 | y::l,x=>if key y=key x then x::l else y::lput l x
def ldel:List τ→κ→List τ
 | [],_=>[]
 | y::l,k=>if key y=k then l else y::ldel l k
def uI(l:List τ)(k:κ):Option τ:=l.find? λx=>decide (key x=k)
variable {key}
def Kb{υ:Type}(f:τ→υ)(x:τ):∀(l:List τ),(lput key l x).map (λy=>(key y,f y))=Zp (l.map λy=>(key y,f y)) (key x) (f x)
 | []=>rfl
 | y::l=>by
  simp only[lput,List.map_cons,Zp];split
  ·rename_i e;rfl
  ·rw[List.map_cons,Kb f x l]
def dU{υ:Type}(f:τ→υ)(k:κ):∀(l:List τ),(ldel key l k).map (λy=>(key y,f y))=UF (l.map λy=>(key y,f y)) k
 | []=>rfl
 | y::l=>by
  simp only[ldel,List.map_cons,UF];split
  ·rfl
  ·rw[List.map_cons,dU f k l]
def Qi{υ:Type}(f:τ→υ)(k:κ):∀(l:List τ),zA (l.map λy=>(key y,f y)) k=(uI key l k).map f
 | []=>rfl
 | y::l=>by
  have ih:=Qi f k l;simp only[List.map_cons,zA,uI,List.find?_cons]at ih ⊢;by_cases e:key y=k
  ·simp[e]
  ·simp only[e,if_false,decide_false];exact ih
def Pt{x y:τ}:∀{l:List τ},y∈lput key l x→y=x∨y∈l
 | [],h=>by simp[lput]at h;exact .inl h
 | z::l,h=>by
  simp only[lput]at h;split at h
  ·rcases List.mem_cons.1 h with h | h
   ·exact .inl h
   ·exact .inr (List.mem_cons_of_mem _ h)
  ·rcases List.mem_cons.1 h with h | h
   ·exact .inr (h▸List.mem_cons_self ..)
   ·rcases Pt h with h | h
    ·exact .inl h
    ·exact .inr (List.mem_cons_of_mem _ h)
def Ld{k:κ}{y:τ}:∀{l:List τ},y∈ldel key l k→y∈l
 | [],h=>by simp[ldel]at h
 | z::l,h=>by
  simp only[ldel]at h;split at h
  ·exact List.mem_cons_of_mem _ h
  ·rcases List.mem_cons.1 h with h | h
   ·exact h▸List.mem_cons_self ..
   ·exact List.mem_cons_of_mem _ (Ld h)
def lX(g:τ→Seg)(x:τ):∀(l:List τ),Sbp ((lput key l x).map g).flatten (g x++(l.map g).flatten)
 | []=>by simp[Dm.lput];exact .refl _
 | y::l=>by
  simp only[Dm.lput];split
  ·simp only[List.map_cons,List.flatten_cons];exact(Sbp.behind (g y) (l.map g).flatten).left (g x)
  ·simp only[List.map_cons,List.flatten_cons];refine((lX g x l).left (g y)).trans (.perm ?_);rw[←List.append_assoc,←List.append_assoc];exact List.Perm.append_right _ List.perm_append_comm
def Lc(g:τ→Seg)(k:κ):∀(l:List τ),Sbp ((ldel key l k).map g).flatten (l.map g).flatten
 | []=>.refl _
 | y::l=>by
  simp only[Dm.ldel];split
  ·simp only[List.map_cons,List.flatten_cons];exact .behind ..
  ·simp only[List.map_cons,List.flatten_cons];exact(Lc g k l).left _
def St.lput{g:τ→Seg}{l:List τ}{x:τ}(h:St w0 (g x::(l.map g).flatten::E) w):St w0 (((lput key l x).map g).flatten::E) w:=by
 refine h.sub ?_;simp only[List.flatten_cons,←List.append_assoc];exact(lX g x l).right _
def St.ldel{g:τ→Seg}{l:List τ}{k:κ}(h:St w0 ((l.map g).flatten::E) w):St w0 (((ldel key l k).map g).flatten::E) w:=by
 refine h.sub ?_;simp only[List.flatten_cons];exact(Lc g k l).right _
def Kc{l:List τ}{k:κ}{x:τ}(h:uI key l k=some x):∃A B,l=A++x::B∧key x=k:=by
 have h1:=List.mem_of_find?_eq_some h;have h2:=List.find?_some h;obtain⟨A,B,e⟩:=List.append_of_mem h1;exact⟨A,B,e,by simpa using h2⟩
end
end
end Go.Dm
namespace Go.Dm
def eU(b:UInt8):List Value:=[.int .u8 (b.toNat:Int)]
def Gy:Enc eU 1:=⟨λ_=>rfl,λ_=>rfl,by decide⟩
section
variable {w0 w:World}{E:List Seg}{P:Program}
def z39{src dst e:TypeId}{v:Sl}{l:List UInt8}(hs:P.underlying src=some (.slice e))(he:P.underlying e=some (.int .u8))(hd:P.underlying dst=some .string)(r:Rd w eU v l){kk:B0→PT}(hk:kk ⟨l.toArray⟩ w) :
  L.sem P (.one (.one .str)) (convert src dst (SlV v)) kk w:=by
 have hl:=r.len
 cases hv:v.a with
 | none=>
  have hl0:l = []:=by
   cases l with
   | nil=>rfl
   | cons x l=>
    obtain⟨a,ha,-⟩:=r.rd 0 (.int .u8 x.toNat) rfl;rw[hv]at ha;cases ha
  subst hl0;refine⟨⟨#[]⟩,w,?_,hk⟩;show(convert src dst (.slice v.a v.len v.cap)).run P w=_;rw[hv,run_convert_bytes_string w src dst e _ v.len v.cap hs he hd];simp[Conv.bytesToString];rfl
 | some a=>
  refine⟨⟨l.toArray⟩,w,?_,hk⟩;show(convert src dst (.slice v.a v.len v.cap)).run P w=_;rw[hv,hl];refine run_convert_bytes_back w src dst e a v.cap l hs he hd λj hj=>?_;have hx:=List.getElem?_eq_getElem hj;obtain⟨b,hb,hc⟩:=r.rd (j*1+0) (.int .u8 (l[j].toNat:Int)) (Kh Gy hx rfl);rw[hv]at hb;cases hb;simpa using hc
end
end Go.Dm
namespace Go.Dm
open Go.MapKept
section
variable {w0 w w':World}{P:Program}{κ υ:Type}[DecidableEq κ]{kt mt et ty:TypeId}{kv:κ→Value}{vv:υ→Value}{r:Nat}{m:List (κ×υ)}{s:Seg}
def Sn(un:Value→κ)(hun:∀k,un (kv k)=k)(unv:Value→υ)(hunv:∀u,unv (vv u)=u)(ht:P.underlying mt=some (.map kt et)){lk:Lf}{ev:E1}(fk:κ→lk.T)(hfk:∀k,lk.val (fk k)=kv k)(fv:υ→ev.T)(hfv:∀u,ev.val (fv u)=vv u)
  {Y:Type} {y0:Y} {ex:Y→PT} {body:Y→TT [.one lk,ev]→(Y→PT)→PT} {F:List Seg} (hm:MpS kv vv r m s) (h:St w0 (s::F) w)
  (Inv:List (κ×υ)→Y→List Seg→Prop) (h0:Inv [] y0 F)
  (step:∀seen k u y F X w(again:Y→PT),seen.length<m.length→(k,u)∈m→k∉seen.map (·.1)→Inv seen y F→St w0 (s::(F++X)) w→
   (∀y' F' w',Inv (seen++[(k,u)]) y' F'→St w0 (s::(F'++X)) w'→again y' w')→body y (fk k,fv u,()) again w)
  (fin:∀seen y F w,seen.Perm m→Inv seen y F→St w0 (s::F) w→ex y w) :
  (L.sem P (.one (.one .ptr)) (Instr.range mt (.map (some r))) λ(p2:Option Addr)=>
   L.loop (Y:=Y) y0 λy again=>
   L.next P [.one lk,ev] (Instr.next (.pointer p2) false ty) (ex y) λ(_:TT [.one lk,ev])=>
   L.sem P (.tup [.one lk,ev]) (Instr.entry (.pointer p2)) λ(x6:TT [.one lk,ev])=>
   body y x6 again) w:=by
 have hms:=hm;obtain⟨es,ck,hmi,rfl⟩:=hm;have hb:=(h.at 0 rfl).2;refine⟨some ⟨w.heap.size,0,none⟩,w.alloc (.mapIter (some r) ck #[] ck),?_,?_⟩
 ·simp[Instr.range,run_underlying ht,MapKept.run_getObj_map hb,RT.val,E1.val,Lf.val,Result.andThen]
 have h:=h.alloc (.mapIter (some r) ck #[] ck) rfl;generalize w.heap.size=ri at h;have hbn:∀e∈es.toArray.toList,e.born<ck:=λe he=>hmi.lt e (by simpa using he);have hdec:∀e∈es,∃p∈m,kv p.1=e.key∧vv p.2=e.val:=by
  intro e he;have:(e.key,e.val)∈es.map (λe=>(e.key,e.val)):=List.mem_map_of_mem he;rw[hmi.is]at this;obtain⟨p,hp,hpe⟩:=List.mem_map.1 this;simp only[Prod.mk.injEq]at hpe;exact⟨p,hp,hpe.1,hpe.2⟩
 refine zX (λq y w=>∃(S:List MapEntry)(seen:List (κ×υ))(F:List Seg),q+S.length=es.length∧(∀x∈S,x∈es)∧(S.map (·.born)).Nodup∧S.map (λe=>(e.key,e.val))=seen.map (λp=>(kv p.1,vv p.2))∧Inv seen y F∧
  St w0 ([(ri,.mapIter (some r) ck (S.map (·.born)).toArray ck)]::[(r,.map es.toArray ck)]::F) w) es.length ⟨[],[],F,rfl,by simp,by simp,rfl,h0,h⟩ ?_
 clear h h0 hb;rintro q y w ⟨S,seen,F,hq,hS,hnd,hkeys,hJ,h⟩ again hag;have hri:=(h.at 0 rfl).2;have hb:=(h.at 1 rfl).2;have hml:es.length=m.length:=by have:=congrArg List.length hmi.is;simpa using this
 have hsl:S.length=seen.length:=by have:=congrArg List.length hkeys;simpa using this
 rcases run_next_at (P:=P) w ty ri r ck ck (S.map (·.born)).toArray es.toArray ck hri hb hbn (Nat.le_refl _)with ⟨h0,hr⟩ | ⟨e,he,w1,hw1,hr⟩
 ·refine .inl ⟨_,hr,fin seen y F w ?_ hJ h.tail⟩;have hall:∀e∈es,e.born∈S.map (·.born):=by
   intro e he;apply Classical.byContradiction;intro hne;have:e∈(leftOf es.toArray (S.map (·.born)).toArray).toList:=by
    simp only[leftOf,Array.toList_filter,List.mem_filter];exact⟨by simpa using he,by simpa using hne⟩
   have h1:(leftOf es.toArray (S.map (·.born)).toArray).toList.length=0:=by simpa using h0
   rw[List.eq_nil_of_length_eq_zero h1]at this
   cases this
  have hpS:S.Perm es:=fj (Qa _ hnd) (Qa _ hmi.born) λa=>⟨hS a,λha=>by
   obtain⟨e',he',hbo⟩:=List.mem_map.1 (hall a ha);have:=wR (·.born) hmi.born (hS e' he') ha hbo;subst this;exact he'⟩
  have h1:=hpS.map (λe:MapEntry=>(e.key,e.val));rw[hkeys,hmi.is]at h1;have h3:=h1.map (λp:Value×Value=>(un p.1,unv p.2));simpa [List.map_map,Function.comp_def,hun,hunv]using h3
 ·have he':e∈es∧e.born∉S.map (·.born):=by
   simp only[leftOf,Array.toList_filter,List.mem_filter]at he;exact⟨by simpa using he.1,by simpa using he.2⟩
  obtain⟨he,hne⟩:=he';obtain⟨p,hp,hpk,hpv⟩:=hdec e he;have h1:St w0 ([(ri,.mapIter (some r) ck (S.map (·.born)).toArray ck)]::[(r,.map es.toArray ck)]::F) w1:=by
   rcases hw1 with rfl | rfl
   ·exact h
   ·exact h.drew
  have h2:=h1.put 0 rfl (o':=.mapIter (some r) ck ((S.map (·.born)).toArray.push e.born) ck) rfl;refine .inr ⟨(fk p.1,fv p.2,()),Go.ChangeMaps.setBlock w1 ri (.mapIter (some r) ck ((S.map (·.born)).toArray.push e.born) ck),?_,?_⟩
  ·rw[hr];simp only[TV,hfv,hpv];show Result.ok (Value.tuple #[.bool true,e.key,e.val]) _=Result.ok (Value.tuple #[.bool true,lk.val (fk p.1),e.val]) _;rw[hfk,hpk]
  have h:St w0 ([(ri,.mapIter (some r) ck ((S.map (·.born)).toArray.push e.born) ck)]::[(r,.map es.toArray ck)]::F) (Go.ChangeMaps.setBlock w1 ri (.mapIter (some r) ck ((S.map (·.born)).toArray.push e.born) ck)):=h2;generalize Go.ChangeMaps.setBlock w1 ri (.mapIter (some r) ck ((S.map (·.born)).toArray.push e.born) ck)=w at h;have hri:=(h.at 0 rfl).2;have hb:=(h.at 1 rfl).2;have hrun:=run_entry_at (P:=P) w ri r ck (S.map (·.born)).toArray es.toArray ck e hri hb (by simpa using he) (by simpa using hmi.born);refine⟨(fk p.1,fv p.2,()),w,?_,?_⟩
  ·rw[hrun];simp only[RT.val,TV,hfv,hpv];show Result.ok (Value.tuple #[e.key,e.val]) _=Result.ok (Value.tuple #[lk.val (fk p.1),e.val]) _;rw[hfk,hpk]
  have hnd':((S++[e]).map (·.born)).Nodup:=by
   rw[List.map_append,List.nodup_append];refine⟨hnd,by simp,λa ha b hb=>?_⟩;simp at hb;subst hb;intro e2;subst e2;exact hne ha
  have hS':∀x∈S++[e],x∈es:=λx hx=>by
   rcases List.mem_append.1 hx with hx | hx
   ·exact hS x hx
   ·simp at hx;subst hx;exact he
  have hlen:=MM (Qa _ hnd') hS';simp only[List.length_append,List.length_cons,List.length_nil]at hlen;have er:(S.map (·.born)).toArray.push e.born=((S++[e]).map (·.born)).toArray:=by simp
  rw[er]at h;have toEnd:∀{F:List Seg}{w:World}{x z:Seg},St w0 (x::z::F) w→St w0 (z::(F++[x])) w:=λ{F w x z} h=>by
   refine h.perm ?_;simp only[List.flatten_cons,List.flatten_append,List.flatten_nil,List.append_nil,←List.append_assoc];rw[List.append_assoc];exact List.perm_append_comm
  have ofEnd:∀{F:List Seg}{w:World}{x z:Seg},St w0 (z::(F++[x])) w→St w0 (x::z::F) w:=λ{F w x z} h=>by
   refine h.perm ?_;simp only[List.flatten_cons,List.flatten_append,List.flatten_nil,List.append_nil,←List.append_assoc];rw[List.append_assoc x];exact List.perm_append_comm
  have hkn:p.1∉seen.map (·.1):=by
   intro hin;have hk2:S.map (·.key)=(seen.map (·.1)).map kv:=by
    have:=congrArg (List.map Prod.fst) hkeys;simpa [List.map_map,Function.comp_def]using this
   have:kv p.1∈S.map (·.key):=by rw[hk2];exact List.mem_map_of_mem hin
   obtain⟨e',he',hek⟩:=List.mem_map.1 this;have hkd:(es.map (·.key)).Nodup:=by
    have h2:es.map (·.key)=(m.map (·.1)).map kv:=by
     have:=congrArg (List.map Prod.fst) hmi.is;simpa [List.map_map,Function.comp_def]using this
    rw[h2];have:=hmi.nd;refine List.pairwise_map.2 (this.imp λhne e=>hne ?_);have:=congrArg un e
    rwa [hun,hun]at this
   have:=wR (·.key) hkd (hS e' he') he (by rw[hek,hpk]);subst this;exact hne (List.mem_map_of_mem he')
  refine step seen p.1 p.2 y F [[(ri,.mapIter (some r) ck ((S++[e]).map (·.born)).toArray ck)]] w again (by omega) hp hkn hJ (toEnd h) λy' F' w' hi h'=>?_;refine hag (q-1) _ _ (by omega) ⟨S++[e],seen++[(p.1,p.2)],F',by simp;omega,hS',hnd',?_,hi,ofEnd h'⟩;rw[List.map_append,List.map_append,hkeys];simp[hpk,hpv]
def MpS.chk{w:World}{E:List Seg}(K:MK P kt kv)(ht:P.underlying mt=some (.map kt et)){z:Value}(hz:∀w,(zeroValue et).run P w = .ok z w)(h:St w0 E w)(i:Nat)(hi:nth E i=some s)(hm:MpS kv vv r m s){k:κ}{v:Value}(hv:((zA m k).map vv).getD z=v){kk:PT}(hk:kk w) :
  L.chkSem P (Instr.lookup mt (.map (some r)) (kv k) false) v kk w:=⟨by rw[MpS.get_run K ht (hz w) h i hi hm false,hv];rfl,hk⟩
end
end Go.Dm
namespace Go.Dm
def eP(b:Nat):List Value:=[.pointer (some ⟨b,0,none⟩)]
def z2e:Enc eP 1:=⟨λ_=>rfl,λ_=>rfl,by decide⟩
structure Ob(τ:Type) where
 b:Nat
 x:τ
 sg:Seg
abbrev obS{τ:Type}(Q:List (Ob τ)):Seg:=(Q.map Ob.sg).flatten
abbrev obB{τ:Type}(Q:List (Ob τ)):List Nat:=Q.map Ob.b
section
variable {w0 w:World}{E:List Seg}{τ:Type}{Q:List (Ob τ)}{i:Nat}{o:Ob τ}
def ID(ho:Q[i]? = some o)(p:Ob τ):Q.set i p=Q.take i++p::Q.drop (i+1):=by
 obtain⟨h,-⟩:=List.getElem?_eq_some_iff.1 ho;exact List.set_eq_take_append_cons_drop▸by simp[h]
def z2R(ho:Q[i]? = some o):(obB Q)[i]? = some o.b:=by simp[obB,ho]
abbrev obR(Q:List (Ob τ))(i:Nat):Seg:=obS (Q.take i++Q.drop (i+1))
def St.placeAt(ho:Q[i]? = some o)(p:Ob τ)(h:St w0 (p.sg::obR Q i::E) w):St w0 (obS (Q.set i p)::E) w:=by
 rw[ID ho];exact h.place
def Rw.ptr{e:TypeId}{v:Sl}{s:Seg}(h:St w0 E w)(k:Nat)(hi:nth E k=some s)(hr:Rw eP e 1 v (obB Q) s){n:Int}(h0:0≤n)(ho:Q[n.toNat]? = some o){kk:Option Addr→PT}(hk:kk (some ⟨o.b,0,none⟩) w) :
  L.idx v.a n v.len 1 (λa=>L.load (.one .ptr) a kk) w:=by
 have hb:=z2R ho;refine Rw.ix z2e hr h0 (List.getElem?_eq_some_iff.1 hb).1 λa ha=>?_;exact Rw.ld0 z2e h k hi hr ha hb rfl rfl hk
end
end Go.Dm
namespace Go.Dm
section
variable {w0 w:World}{E F:List Seg}{τ:Type}{Q:List (Ob τ)}{i:Nat}{o:Ob τ}{A B c s:Seg}
def St.st3(ho:Q[i]? = some o)(p:Ob τ)(hp:p.sg=c++s)(h:St w0 (c::s::obR Q i::A::B::F) w):St w0 (A::B::obS (Q.set i p)::F) w:=by
 have h:=h.glue;rw[←hp]at h;have h:=h.placeAt ho p;have h:St w0 (B::obS (Q.set i p)::A::F) w:=St.front h 2 rfl;exact St.front h 2 rfl
end
end Go.Dm
namespace Go.Dm
end Go.Dm
namespace Go.Dm
def CZ{α:Type}{P:List α→Prop}(h0:P [])(h1:∀l x,P l→P (l++[x]))(l:List α):P l:=by
 have:∀l:List α,P l.reverse:=by
  intro l
  induction l with
  | nil=>exact h0
  | cons x l ih=>rw[List.reverse_cons];exact h1 _ _ ih
 simpa using this l.reverse
def fh:∀(vs:List Value){A B:List Value}{o:Nat},o+vs.length≤A.length→zE (A++B) o vs=zE A o vs++B
 | [],_,_,_,_=>rfl
 | v::vs,A,B,o,h=>by
  simp only[List.length_cons]at h;simp only[zE];rw[vN (by omega),fh vs (by rw[Yo];simp;omega)]
def kb:∀(vs:List Value){A B:List Value}{o:Nat},zE (A++B) (A.length+o) vs=A++zE B o vs
 | [],_,_,_=>rfl
 | v::vs,A,B,o=>by
  simp only[zE];rw[Ug];have:A.length+o+1=A.length+(o+1):=by omega
  rw[this,kb vs]
def lr:∀(vs A:List Value),vs.length=A.length→zE A 0 vs=vs
 | [],A,h=>by cases A with
  | nil=>rfl
  | cons x A=>cases h
 | v::vs,[],h=>by cases h
 | v::vs,x::A,h=>by
  simp only[zE,zd];have e:zE (v::A) (0+1) vs=v::zE A 0 vs:=by
   have:=kb vs (A:=[v]) (B:=A) (o:=0);simpa using this
  rw[e,lr vs A (by simpa using h)]
def Bn:∀(vs:List Value){A:List Value}{o:Nat},o+vs.length≤A.length→Ta A o vs=true
 | [],_,_,_=>rfl
 | v::vs,A,o,h=>by
  simp only[List.length_cons]at h;simp only[Ta,Bool.and_eq_true];refine⟨?_,Bn vs (by omega)⟩;rw[zN,List.getElem?_eq_getElem (by omega)];rfl
def lq:∀(vs A:List Value)(o:Nat),(zE A o vs).length=A.length
 | [],_,_=>rfl
 | v::vs,A,o=>by simp only[zE];rw[lq vs,Yo];simp
section
variable {w0 w:World}{E:List Seg}{α:Type}{enc:α→List Value}{e size:Nat}{v:Sl}{l:List α}{s:Seg}
def SI(hE:Enc enc size):∀{l:List α}{i:Nat}(y:α),i<l.length→zE (fl enc l) (i*size) (enc y)=fl enc (l.set i y)
 | [],i,y,h=>by simp at h
 | z::l,0,y,_=>by
  show zE (enc z++fl enc l) _ _=enc y++fl enc l;rw[Nat.zero_mul,fh _ (by rw[hE.len,hE.len];omega),lr _ _ (by rw[hE.len,hE.len])]
 | z::l,i+1,y,h=>by
  show zE (enc z++fl enc l) _ _=enc z++fl enc (l.set i y);have e:(i+1)*size=(enc z).length+i*size:=by rw[hE.len,Nat.add_mul];omega
  rw[e,kb,SI hE y (by simpa using h)]
def Rw.sta(hE:Enc enc size)(h:St w0 E w)(k:Nat)(hi:nth E k=some s)(hr:Rw enc e size v l s){i:Nat}{a:Addr}(ha:ElA v size i a)(y:α)(hl:i<l.length){cs:List Value}(hc:enc y=cs){kk:PT}
  (hk:∀s' w',Rw enc e size v (l.set i y) s'→St w0 (zd E k s') w'→kk w'):L.store a cs kk w:=by
 subst hc;obtain⟨a0,hv,rfl⟩:=ha;have hset:=SI hE (i:=i) y hl;have hlt:i*size+size≤(fl enc l).length:=by
  rw[qB hE];have:=Nat.mul_le_mul_right size (show i+1≤l.length from hl);rw[Nat.add_mul]at this;omega
 have hlen2:=lq (enc y) (fl enc l) (i*size);have hel:=hE.len y;unfold Rw at hr hk;rw[←hset]at hk;generalize fl enc l=xs at *
 cases hr with
 | nil=>cases hv
 | mk g n cap pre xs spare post h1 h2 h3 h4=>
  cases hv
  rw[ji];refine stx (enc y) h k hi ?_ (hE.one y) λw' h=>hk _ w' (Row.mk g n cap pre _ spare post (by rw[hlen2];exact h1) (by rw[hlen2];exact h2) h3 h4) ?_
  ·refine Bn _ ?_;simp only[List.length_append];omega
  ·rw[kb,fh _ (by omega)]at h;exact h
end
end Go.Dm
namespace Go.Dm
section
variable {w0 w:World}{E:List Seg}{α:Type}{enc:α→List Value}{e size:Nat}{v:Sl}{l:List α}{s:Seg}
end
end Go.Dm
namespace Go.Dm
class Fnd(b:Nat)(E:List Seg)(i:outParam Nat)(T:outParam Nat)(cs:outParam (List Value)):Prop where
 hi:nth E i=some [Cl b T cs]
instance (priority:=high) Fnd.here{b T:Nat}{cs:List Value}{E:List Seg}:Fnd b ([Cl b T cs]::E) 0 T cs:=⟨rfl⟩
instance (priority:=low) Fnd.there{b i T:Nat}{cs:List Value}{s:Seg}{E:List Seg}[F:Fnd b E i T cs]:Fnd b (s::E) (i+1) T cs:=⟨F.hi⟩
section
variable {w0 w:World}{E:List Seg}{b o i T:Nat}{cs:List Value}
def ldC [F:Fnd b E i T cs](h:St w0 E w){l:Lf}{k:l.T→PT}{v:Value}{x:l.T}(hk:k x w)(hv:nth cs o=some v:=by rfl)(hx:un2 l v=some x:=by rfl):L.load (.one l) ⟨b,o,none⟩ k w:=ldx h i F.hi hv hx hk
def laC [F:Fnd b E i T cs](h:St w0 E w){ls:List Lf}{k:HT ls→PT}{x:HT ls}(hk:k x w)(hx:rF ls (Wd cs o)=some x:=by rfl):L.load (.agg ls) ⟨b,o,none⟩ k w:=lax h i F.hi hx hk
def ckC [F:Fnd b E i T cs](h:St w0 E w){vs:List Value}{k:PT}(hk:k w)(hv:ao vs (Wd cs o)=vs:=by rfl):L.chk ⟨b,o,none⟩ vs k w:=ckm h i F.hi hv hk
def stC [F:Fnd b E i T cs](h:St w0 E w){vs:List Value}{k:PT}(hk:∀w',St w0 (zd E i [Cl b T (zE cs o vs)]) w'→k w')(hh:Ta cs o vs=true:=by rfl)(h1:vb vs=true:=by rfl):L.store ⟨b,o,none⟩ vs k w:=stx vs h i F.hi hh h1 hk
end
end Go.Dm
