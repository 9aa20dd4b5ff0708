/- What is proved on the way to a statement of the seat, pressed (text AG). No conditions beyond those its theorems state. -/
import Derived.Test.YtofigcbhafkikaaGreatGAF
import Derived.Laws.StructEq
import Derived.Laws.IdiomStrings
set_option linter.all false
namespace Go.Dm
def oY{α:Type}{p:α→Bool}:∀{l:List α}{j:Nat}{x:α},l[j]? = some x→p x=true→(l.filter p)[((l.take j).filter p).length]? = some x
 | y::l,0,x,h,hp=>by simp at h;subst h;simp[hp]
 | y::l,j+1,x,h,hp=>by
  have:=oY (l:=l) (j:=j) (p:=p) (by simpa using h) hp;by_cases hy:p y=true
  ·simp[hy,this]
  ·simp[hy,this]
def VA{α:Type}{p:α→Bool}{l:List α}{j:Nat}{x:α}(h:l[j]? = some x):((l.take (j+1)).filter p).length=((l.take j).filter p).length+if p x=true then 1 else 0:=by
 rw[List.take_add_one,h,List.filter_append,List.length_append]
 congr 1
 by_cases hp:p x=true<;>simp[hp]
section
variable {κ υ:Type}[DecidableEq κ]
def ux:∀{m:List (κ×υ)}{k:κ}{u:υ},zH m k=some u→Zc m k u=m
 | p::m,k,u,h=>by
  simp only[zH]at h;simp only[Zc];split at h
  ·rename_i e;cases h;subst e;simp
  ·rename_i e;rw[if_neg e,ux h]
def xD{m:List (κ×υ)}{k:κ}{u:υ}(h:(m.map (·.1)).Nodup):((Zc m k u).map (·.1)).Nodup:=by
 cases hg:zH m k with
 | none=>
  rw[Yt hg,List.map_append,List.nodup_append];refine⟨h,by simp,λa ha b hb=>?_⟩;simp at hb;subst hb;intro e;subst e;exact yC.1 hg ha
 | some v=>rw[xO hg];exact h
def QJ{m:List (κ×υ)}{k:κ}{u:υ}:∀{x},x∈Zc m k u→x=(k,u)∨x∈m:=by
 induction m with
 | nil=>intro x h;simp[Zc]at h;exact .inl h
 | cons p m ih=>
  intro x h;simp only[Zc]at h;split at h
  ·rcases List.mem_cons.1 h with h | h
   ·exact .inl h
   ·exact .inr (List.mem_cons_of_mem _ h)
  ·rcases List.mem_cons.1 h with h | h
   ·exact .inr (h▸List.mem_cons_self ..)
   ·rcases ih h with h | h
    ·exact .inl h
    ·exact .inr (List.mem_cons_of_mem _ h)
def JU(m:List (κ×υ))(k:κ)(u:υ):(Zc m k u).length≤m.length+1:=by
 cases h:zH m k with
 | none=>rw[Yt h];simp
 | some v=>rw[ve h];omega
def Vl:∀(m:List (κ×υ))(k:κ)(u v:υ),Zc (Zc m k u) k v=Zc m k v
 | [],k,u,v=>by simp[Zc]
 | p::m,k,u,v=>by
  simp only[Zc];by_cases e:p.1=k
  ·simp[e,Zc]
  ·simp[e,Zc,Vl m k u v]
end
section
variable {w0 w:World}{E E':List Seg}
def jd{Y:Type}{X:(Y→PT)→PT}{k:Y→PT}(h:X k w):L.join X k w:=h
def fB{P:Program}{T:TypeId}{a b:Array Value}{r:Bool}(hg:P.eqGuardType P.depth T=false)(h:(Op.equalIn 10000 T (.agg a) (.agg b)).run P w = .ok r w) :
  (do eqGuard .eql T (.tmp 0) (.tmp 0) (.agg a) (.agg b);binOp .eql T (.agg a) (.agg b):Sem Value).run P w = .ok (.bool r) w:=by
 rw[Sem.run_bind,run_eqGuard_agg w .eql T (.tmp 0) (.tmp 0) _ _ hg];simp only[Result.andThen];rw[run_eql_struct,h];rfl
def fJ{a b:B0}:(@BEq.beq B0 _ a b)=true↔a=b:=by rw[beq_toListBytes,VN];simp
def rd1{α:Type}{enc:α→List Value}{v:Sl}{l:List α}(r:Rd w enc v l)(hE:Enc enc 1){n:Int}{lf:Lf}{kk:lf.T→PT}(f:α→lf.T)(hf:∀x,∃u,nth (enc x) 0=some u∧un2 lf u=some (f x))(h0:0≤n)(h1:n<v.len)
  (hk:∀x,l[n.toNat]? = some x→kk (f x) w):L.idx v.a n v.len 1 (λa=>L.load (.one lf) a kk) w:=by
 have hl:=r.len;have hx:l[n.toNat]? = some l[n.toNat]:=List.getElem?_eq_getElem (by omega);refine r.ix hE h0 (by omega) λa ha=>?_;obtain⟨u,h1,h2⟩:=hf l[n.toNat];exact r.ld0 hE ha hx h1 h2 (hk _ hx)
def St.split5{a b c d e:Seg}(h:St w0 ((a++(b++(c++(d++e))))::E) w):St w0 (a::b::c::d::e::E) w:=h.eq (by simp)
def St.glue5{a b c d e:Seg}(h:St w0 (a::b::c::d::e::E) w):St w0 ((a++(b++(c++(d++e))))::E) w:=h.eq (by simp)
def St.nil(h:St w0 E w):St w0 ([]::E) w:=h.eq (by simp)
def St.again{s:Seg}(i:Nat)(hi:nth E i=some s)(h:St w0 (s::ZP E i) w):St w0 E w:=St.setN_same' i hi (St.back i hi h)
def Sbp{α:Type}(a b:List α):Prop:=∃r,(a++r).Perm b
def Sbp.refl{α:Type}(a:List α):Sbp a a:=⟨[],by simp⟩
def Sbp.trans{α:Type}{a b c:List α}(h:Sbp a b)(g:Sbp b c):Sbp a c:=by
 obtain⟨r,h⟩:=h;obtain⟨s,g⟩:=g;exact⟨r++s,by rw[←List.append_assoc];exact(h.append_right s).trans g⟩
def Sbp.perm{α:Type}{a b:List α}(h:a.Perm b):Sbp a b:=⟨[],by simpa using h⟩
def Sbp.left{α:Type}{a b:List α}(x:List α)(h:Sbp a b):Sbp (x++a) (x++b):=by
 obtain⟨r,h⟩:=h;exact⟨r,by rw[List.append_assoc];exact h.append_left x⟩
def Sbp.right{α:Type}{a b:List α}(x:List α)(h:Sbp a b):Sbp (a++x) (b++x):=by
 obtain⟨r,h⟩:=h;exact⟨r,by rw[List.append_assoc];exact(List.perm_append_comm.append_left a).trans (by rw[←List.append_assoc];exact h.append_right x)⟩
def Sbp.behind{α:Type}(x a:List α):Sbp a (x++a):=⟨x,List.perm_append_comm⟩
def St.sub(h:St w0 E w)(hp:Sbp E'.flatten E.flatten):St w0 E' w:=by
 obtain⟨r,hp⟩:=hp;have h2:St w0 (E'++[r]) w:=h.perm (by simpa using hp.symm);refine⟨h2.size,h2.old,h2.os,h2.out,h2.tape,λx hx=>h2.own x (by simp only[List.flatten_append,List.mem_append];exact .inl hx),?_,h2.fz⟩;have:=h2.nd;simp only[List.flatten_append,List.map_append]at this;exact(List.nodup_append.1 this).1
section
variable {κ τ:Type}[DecidableEq κ](key:τ→κ)
def Uj(l:List τ)(k:κ):Option τ:=l.find? λx=>decide (key x=k)
variable {key}
def uD{υ:Type}(f:τ→υ)(k:κ):∀(l:List τ),zH (l.map λy=>(key y,f y)) k=(Uj key l k).map f
 | []=>rfl
 | y::l=>by
  have ih:=uD f k l;simp only[List.map_cons,zH,Uj,List.find?_cons]at ih ⊢;by_cases e:key y=k
  ·simp[e]
  ·simp only[e,if_false,decide_false];exact ih
def vj{l:List τ}{k:κ}{x:τ}(h:Uj key l k=some x):∃A B,l=A++x::B∧key x=k:=by
 have h1:=List.mem_of_find?_eq_some h;have h2:=List.find?_some h;obtain⟨A,B,e⟩:=List.append_of_mem h1;exact⟨A,B,e,by simpa using h2⟩
end
end
end Go.Dm
namespace Go.Dm
def eU(b:UInt8):List Value:=[.int .u8 (b.toNat:Int)]
def fF:Enc eU 1:=⟨λ_=>rfl,λ_=>rfl,by decide⟩
section
variable {w0 w:World}{E:List Seg}{P:Program}
def mj{src dst e:TypeId}{v:Sl}{l:List UInt8}(hs:P.underlying src=some (.slice e))(he:P.underlying e=some (.int .u8))(hd:P.underlying dst=some .string)(r:Rd w eU v l){kk:B0→PT}(hk:kk ⟨l.toArray⟩ w) :
  L.sem P (.one (.one .str)) (convert src dst (SlV v)) kk w:=by
 have hl:=r.len
 cases hv:v.a with
 | none=>
  have hl0:l = []:=by
   cases l with
   | nil=>rfl
   | cons x l=>
    obtain⟨a,ha,-⟩:=r.rd 0 (.int .u8 x.toNat) rfl;rw[hv]at ha;cases ha
  subst hl0;refine⟨⟨#[]⟩,w,?_,hk⟩;show(convert src dst (.slice v.a v.len v.cap)).run P w=_;rw[hv,run_convert_bytes_string w src dst e _ v.len v.cap hs he hd];simp[Conv.bytesToString];rfl
 | some a=>
  refine⟨⟨l.toArray⟩,w,?_,hk⟩;show(convert src dst (.slice v.a v.len v.cap)).run P w=_;rw[hv,hl];refine run_convert_bytes_back w src dst e a v.cap l hs he hd λj hj=>?_;have hx:=List.getElem?_eq_getElem hj;obtain⟨b,hb,hc⟩:=r.rd (j*1+0) (.int .u8 (l[j].toNat:Int)) (XW fF hx rfl);rw[hv]at hb;cases hb;simpa using hc
end
end Go.Dm
namespace Go.Dm
open Go.MapKept
section
variable {w0 w w':World}{P:Program}{κ υ:Type}[DecidableEq κ]{kt mt et ty:TypeId}{kv:κ→Value}{vv:υ→Value}{r:Nat}{m:List (κ×υ)}{s:Seg}
def Kk(un:Value→κ)(hun:∀k,un (kv k)=k)(unv:Value→υ)(hunv:∀u,unv (vv u)=u)(ht:P.underlying mt=some (.map kt et)){lk:Lf}{ev:E1}(fk:κ→lk.T)(hfk:∀k,lk.val (fk k)=kv k)(fv:υ→ev.T)(hfv:∀u,ev.val (fv u)=vv u)
  {Y:Type} {y0:Y} {ex:Y→PT} {body:Y→TT [.one lk,ev]→(Y→PT)→PT} {F:List Seg} (hm:MpS kv vv r m s) (h:St w0 (s::F) w)
  (Inv:List (κ×υ)→Y→List Seg→Prop) (h0:Inv [] y0 F)
  (step:∀seen k u y F X w(again:Y→PT),seen.length<m.length→(k,u)∈m→k∉seen.map (·.1)→Inv seen y F→St w0 (s::(F++X)) w→
   (∀y' F' w',Inv (seen++[(k,u)]) y' F'→St w0 (s::(F'++X)) w'→again y' w')→body y (fk k,fv u,()) again w)
  (fin:∀seen y F w,seen.Perm m→Inv seen y F→St w0 (s::F) w→ex y w) :
  (L.sem P (.one (.one .ptr)) (Instr.range mt (.map (some r))) λ(p2:Option Addr)=>
   L.loop (Y:=Y) y0 λy again=>
   L.next P [.one lk,ev] (Instr.next (.pointer p2) false ty) (ex y) λ(_:TT [.one lk,ev])=>
   L.sem P (.tup [.one lk,ev]) (Instr.entry (.pointer p2)) λ(x6:TT [.one lk,ev])=>
   body y x6 again) w:=by
 have hms:=hm;obtain⟨es,ck,hmi,rfl⟩:=hm;have hb:=(h.at 0 rfl).2;refine⟨some ⟨w.heap.size,0,none⟩,w.alloc (.mapIter (some r) ck #[] ck),?_,?_⟩
 ·simp[Instr.range,run_underlying ht,MapKept.run_getObj_map hb,RT.val,E1.val,Lf.val,Result.andThen]
 have h:=h.alloc (.mapIter (some r) ck #[] ck) rfl;generalize w.heap.size=ri at h;have hbn:∀e∈es.toArray.toList,e.born<ck:=λe he=>hmi.lt e (by simpa using he);have hdec:∀e∈es,∃p∈m,kv p.1=e.key∧vv p.2=e.val:=by
  intro e he;have:(e.key,e.val)∈es.map (λe=>(e.key,e.val)):=List.mem_map_of_mem he;rw[hmi.is]at this;obtain⟨p,hp,hpe⟩:=List.mem_map.1 this;simp only[Prod.mk.injEq]at hpe;exact⟨p,hp,hpe.1,hpe.2⟩
 refine Zj (λq y w=>∃(S:List MapEntry)(seen:List (κ×υ))(F:List Seg),q+S.length=es.length∧(∀x∈S,x∈es)∧(S.map (·.born)).Nodup∧S.map (λe=>(e.key,e.val))=seen.map (λp=>(kv p.1,vv p.2))∧Inv seen y F∧
  St w0 ([(ri,.mapIter (some r) ck (S.map (·.born)).toArray ck)]::[(r,.map es.toArray ck)]::F) w) es.length ⟨[],[],F,rfl,by simp,by simp,rfl,h0,h⟩ ?_
 clear h h0 hb;rintro q y w ⟨S,seen,F,hq,hS,hnd,hkeys,hJ,h⟩ again hag;have hri:=(h.at 0 rfl).2;have hb:=(h.at 1 rfl).2;have hml:es.length=m.length:=by have:=congrArg List.length hmi.is;simpa using this
 have hsl:S.length=seen.length:=by have:=congrArg List.length hkeys;simpa using this
 rcases run_next_at (P:=P) w ty ri r ck ck (S.map (·.born)).toArray es.toArray ck hri hb hbn (Nat.le_refl _)with ⟨h0,hr⟩ | ⟨e,he,w1,hw1,hr⟩
 ·refine .inl ⟨_,hr,fin seen y F w ?_ hJ h.tail⟩;have hall:∀e∈es,e.born∈S.map (·.born):=by
   intro e he;apply Classical.byContradiction;intro hne;have:e∈(leftOf es.toArray (S.map (·.born)).toArray).toList:=by
    simp only[leftOf,Array.toList_filter,List.mem_filter];exact⟨by simpa using he,by simpa using hne⟩
   have h1:(leftOf es.toArray (S.map (·.born)).toArray).toList.length=0:=by simpa using h0
   rw[List.eq_nil_of_length_eq_zero h1]at this
   cases this
  have hpS:S.Perm es:=XR (YM _ hnd) (YM _ hmi.born) λa=>⟨hS a,λha=>by
   obtain⟨e',he',hbo⟩:=List.mem_map.1 (hall a ha);have:=ke (·.born) hmi.born (hS e' he') ha hbo;subst this;exact he'⟩
  have h1:=hpS.map (λe:MapEntry=>(e.key,e.val));rw[hkeys,hmi.is]at h1;have h3:=h1.map (λp:Value×Value=>(un p.1,unv p.2));simpa [List.map_map,Function.comp_def,hun,hunv]using h3
 ·have he':e∈es∧e.born∉S.map (·.born):=by
   simp only[leftOf,Array.toList_filter,List.mem_filter]at he;exact⟨by simpa using he.1,by simpa using he.2⟩
  obtain⟨he,hne⟩:=he';obtain⟨p,hp,hpk,hpv⟩:=hdec e he;have h1:St w0 ([(ri,.mapIter (some r) ck (S.map (·.born)).toArray ck)]::[(r,.map es.toArray ck)]::F) w1:=by
   rcases hw1 with rfl | rfl
   ·exact h
   ·exact h.drew
  have h2:=h1.put 0 rfl (o':=.mapIter (some r) ck ((S.map (·.born)).toArray.push e.born) ck) rfl;refine .inr ⟨(fk p.1,fv p.2,()),Go.ChangeMaps.setBlock w1 ri (.mapIter (some r) ck ((S.map (·.born)).toArray.push e.born) ck),?_,?_⟩
  ·rw[hr];simp only[TV,hfv,hpv];show Result.ok (Value.tuple #[.bool true,e.key,e.val]) _=Result.ok (Value.tuple #[.bool true,lk.val (fk p.1),e.val]) _;rw[hfk,hpk]
  have h:St w0 ([(ri,.mapIter (some r) ck ((S.map (·.born)).toArray.push e.born) ck)]::[(r,.map es.toArray ck)]::F) (Go.ChangeMaps.setBlock w1 ri (.mapIter (some r) ck ((S.map (·.born)).toArray.push e.born) ck)):=h2;generalize Go.ChangeMaps.setBlock w1 ri (.mapIter (some r) ck ((S.map (·.born)).toArray.push e.born) ck)=w at h;have hri:=(h.at 0 rfl).2;have hb:=(h.at 1 rfl).2;have hrun:=run_entry_at (P:=P) w ri r ck (S.map (·.born)).toArray es.toArray ck e hri hb (by simpa using he) (by simpa using hmi.born);refine⟨(fk p.1,fv p.2,()),w,?_,?_⟩
  ·rw[hrun];simp only[RT.val,TV,hfv,hpv];show Result.ok (Value.tuple #[e.key,e.val]) _=Result.ok (Value.tuple #[lk.val (fk p.1),e.val]) _;rw[hfk,hpk]
  have hnd':((S++[e]).map (·.born)).Nodup:=by
   rw[List.map_append,List.nodup_append];refine⟨hnd,by simp,λa ha b hb=>?_⟩;simp at hb;subst hb;intro e2;subst e2;exact hne ha
  have hS':∀x∈S++[e],x∈es:=λx hx=>by
   rcases List.mem_append.1 hx with hx | hx
   ·exact hS x hx
   ·simp at hx;subst hx;exact he
  have hlen:=Qa (YM _ hnd') hS';simp only[List.length_append,List.length_cons,List.length_nil]at hlen;have er:(S.map (·.born)).toArray.push e.born=((S++[e]).map (·.born)).toArray:=by simp
  rw[er]at h;have toEnd:∀{F:List Seg}{w:World}{x z:Seg},St w0 (x::z::F) w→St w0 (z::(F++[x])) w:=λ{F w x z} h=>by
   refine h.perm ?_;simp only[List.flatten_cons,List.flatten_append,List.flatten_nil,List.append_nil,←List.append_assoc];rw[List.append_assoc];exact List.perm_append_comm
  have ofEnd:∀{F:List Seg}{w:World}{x z:Seg},St w0 (z::(F++[x])) w→St w0 (x::z::F) w:=λ{F w x z} h=>by
   refine h.perm ?_;simp only[List.flatten_cons,List.flatten_append,List.flatten_nil,List.append_nil,←List.append_assoc];rw[List.append_assoc x];exact List.perm_append_comm
  have hkn:p.1∉seen.map (·.1):=by
   intro hin;have hk2:S.map (·.key)=(seen.map (·.1)).map kv:=by
    have:=congrArg (List.map Prod.fst) hkeys;simpa [List.map_map,Function.comp_def]using this
   have:kv p.1∈S.map (·.key):=by rw[hk2];exact List.mem_map_of_mem hin
   obtain⟨e',he',hek⟩:=List.mem_map.1 this;have hkd:(es.map (·.key)).Nodup:=by
    have h2:es.map (·.key)=(m.map (·.1)).map kv:=by
     have:=congrArg (List.map Prod.fst) hmi.is;simpa [List.map_map,Function.comp_def]using this
    rw[h2];have:=hmi.nd;refine List.pairwise_map.2 (this.imp λhne e=>hne ?_);have:=congrArg un e
    rwa [hun,hun]at this
   have:=ke (·.key) hkd (hS e' he') he (by rw[hek,hpk]);subst this;exact hne (List.mem_map_of_mem he')
  refine step seen p.1 p.2 y F [[(ri,.mapIter (some r) ck ((S++[e]).map (·.born)).toArray ck)]] w again (by omega) hp hkn hJ (toEnd h) λy' F' w' hi h'=>?_;refine hag (q-1) _ _ (by omega) ⟨S++[e],seen++[(p.1,p.2)],F',by simp;omega,hS',hnd',?_,hi,ofEnd h'⟩;rw[List.map_append,List.map_append,hkeys];simp[hpk,hpv]
def MpS.chk{w:World}{E:List Seg}(K:MK P kt kv)(ht:P.underlying mt=some (.map kt et)){z:Value}(hz:∀w,(zeroValue et).run P w = .ok z w)(h:St w0 E w)(i:Nat)(hi:nth E i=some s)(hm:MpS kv vv r m s){k:κ}{v:Value}(hv:((zH m k).map vv).getD z=v){kk:PT}(hk:kk w) :
  L.chkSem P (Instr.lookup mt (.map (some r)) (kv k) false) v kk w:=⟨by rw[MpS.get_run K ht (hz w) h i hi hm false,hv];rfl,hk⟩
end
end Go.Dm
namespace Go.Dm
def eP(b:Nat):List Value:=[.pointer (some ⟨b,0,none⟩)]
def FC:Enc eP 1:=⟨λ_=>rfl,λ_=>rfl,by decide⟩
structure Ob(τ:Type) where
 b:Nat
 x:τ
 sg:Seg
abbrev obB{τ:Type}(Q:List (Ob τ)):List Nat:=Q.map Ob.b
section
variable {w0 w:World}{E:List Seg}{τ:Type}{Q:List (Ob τ)}{i:Nat}{o:Ob τ}
def FO(ho:Q[i]? = some o):(obB Q)[i]? = some o.b:=by simp[obB,ho]
def Rw.ptr{e:TypeId}{v:Sl}{s:Seg}(h:St w0 E w)(k:Nat)(hi:nth E k=some s)(hr:Rw eP e 1 v (obB Q) s){n:Int}(h0:0≤n)(ho:Q[n.toNat]? = some o){kk:Option Addr→PT}(hk:kk (some ⟨o.b,0,none⟩) w) :
  L.idx v.a n v.len 1 (λa=>L.load (.one .ptr) a kk) w:=by
 have hb:=FO ho;refine Rw.ix FC hr h0 (List.getElem?_eq_some_iff.1 hb).1 λa ha=>?_;exact Rw.ld0 FC h k hi hr ha hb rfl rfl hk
end
end Go.Dm
namespace Go.Dm
section
variable {w0 w:World}{E F:List Seg}{τ:Type}{Q:List (Ob τ)}{i:Nat}{o:Ob τ}{A B c s:Seg}
end
end Go.Dm
namespace Go.Dm
end Go.Dm
namespace Go.Dm
class Fnd(b:Nat)(E:List Seg)(i:outParam Nat)(T:outParam Nat)(cs:outParam (List Value)):Prop where
 hi:nth E i=some [Cl b T cs]
instance (priority:=high) Fnd.here{b T:Nat}{cs:List Value}{E:List Seg}:Fnd b ([Cl b T cs]::E) 0 T cs:=⟨rfl⟩
instance (priority:=low) Fnd.there{b i T:Nat}{cs:List Value}{s:Seg}{E:List Seg}[F:Fnd b E i T cs]:Fnd b (s::E) (i+1) T cs:=⟨F.hi⟩
section
variable {w0 w:World}{E:List Seg}{b o i T:Nat}{cs:List Value}
def ldC [F:Fnd b E i T cs](h:St w0 E w){l:Lf}{k:l.T→PT}{v:Value}{x:l.T}(hk:k x w)(hv:nth cs o=some v:=by rfl)(hx:un2 l v=some x:=by rfl):L.load (.one l) ⟨b,o,none⟩ k w:=ldx h i F.hi hv hx hk
def laC [F:Fnd b E i T cs](h:St w0 E w){ls:List Lf}{k:HT ls→PT}{x:HT ls}(hk:k x w)(hx:KO ls (ku cs o)=some x:=by rfl):L.load (.agg ls) ⟨b,o,none⟩ k w:=lax h i F.hi hx hk
def ckC [F:Fnd b E i T cs](h:St w0 E w){vs:List Value}{k:PT}(hk:k w)(hv:Ow vs (ku cs o)=vs:=by rfl):L.chk ⟨b,o,none⟩ vs k w:=ckm h i F.hi hv hk
def stC [F:Fnd b E i T cs](h:St w0 E w){vs:List Value}{k:PT}(hk:∀w',St w0 (ze E i [Cl b T (Zq cs o vs)]) w'→k w')(hh:vq cs o vs=true:=by rfl)(h1:xJ vs=true:=by rfl):L.store ⟨b,o,none⟩ vs k w:=stx vs h i F.hi hh h1 hk
end
end Go.Dm
