/- What is proved on the way to a statement of the seat, pressed (text AF). No conditions beyond those its theorems state. -/
import Derived.Test.YtofigcbhafkikaaGreatGAE
import Derived.Maps.RangeRun
import Derived.WideMake
import Derived.Shelf.Sort.Plain
import Derived.Shelf.Slices.In.SortNone
import Derived.Laws.Strings
set_option linter.all false
namespace Go.Dm
open Go.MapKept
section
variable {κ υ:Type}[DecidableEq κ]
def zH:List (κ×υ)→κ→Option υ
 | [],_=>none
 | p::m,k=>if p.1=k then some p.2 else zH m k
def Zc:List (κ×υ)→κ→υ→List (κ×υ)
 | [],k,u=>[(k,u)]
 | p::m,k,u=>if p.1=k then(k,u)::m else p::Zc m k u
def xu:List (κ×υ)→κ→List (κ×υ)
 | [],_=>[]
 | p::m,k=>if p.1=k then m else p::xu m k
structure MK(P:Program)(kt:TypeId)(kv:κ→Value):Prop where
 und:∃d,P.underlying kt=some d∧(∀a b,Instr.sameNow d (kv a) (kv b)=some (decide (a=b)))∧∀a,IsKey d (kv a)
def fp{P:Program}{kt:TypeId}(h:P.underlying kt=some (.int .i64)):MK P kt (Value.int .i64):=
 ⟨_,h,λa b=>by simp only[Instr.sameNow,if_true,Option.some.injEq];rw[Bool.eq_iff_iff];simp,λa=>rfl⟩
def fo{P:Program}{kt:TypeId}(h:P.underlying kt=some .string):MK P kt Value.string:=
 ⟨_,h,λa b=>by simp only[Instr.sameNow,Option.some.injEq];rw[Bool.eq_iff_iff,MapKept.bytes_beq];simp,λa=>trivial⟩
structure FL(kv:κ→Value)(vv:υ→Value)(es:List MapEntry)(clock:Nat)(m:List (κ×υ)):Prop where
 is:es.map (λe=>(e.key,e.val))=m.map λp=>(kv p.1,vv p.2)
 nd:(m.map (·.1)).Nodup
 born:(es.map (·.born)).Nodup
 lt:∀e∈es,e.born<clock
def MpS(kv:κ→Value)(vv:υ→Value)(r:Nat)(m:List (κ×υ))(s:Seg):Prop:=∃es clock,FL kv vv es clock m∧s = [(r,.map es.toArray clock)]
variable {P:Program}{kt:TypeId}{kv:κ→Value}{vv:υ→Value}
def qw(d:TypeDesc)(hd:∀a b,Instr.sameNow d (kv a) (kv b)=some (decide (a=b)))(k:κ):∀(es:List MapEntry)(m:List (κ×υ))(i:Nat),es.map (λe=>(e.key,e.val))=m.map (λp=>(kv p.1,vv p.2))→zH m k=none→Instr.findNow d (kv k) es i=some none
 | [],_,_,_,_=>rfl
 | e::es,[],_,h,_=>by cases h
 | e::es,p::m,i,h,hm=>by
  simp only[List.map_cons,List.cons.injEq,Prod.mk.injEq]at h;simp only[zH]at hm;split at hm
  ·cases hm
  ·rename_i hne;simp only[Instr.findNow];rw[h.1.1,hd,decide_eq_false (λe=>hne e.symm)];exact qw d hd k es m (i+1) h.2 hm
def qv(d:TypeDesc)(hd:∀a b,Instr.sameNow d (kv a) (kv b)=some (decide (a=b)))(k:κ):∀(es:List MapEntry)(m:List (κ×υ))(i:Nat)(u:υ),es.map (λe=>(e.key,e.val))=m.map (λp=>(kv p.1,vv p.2))→zH m k=some u→
  ∃A e B m1 m2,es=A++e::B∧m=m1++(k,u)::m2∧A.map (λe=>(e.key,e.val))=m1.map (λp=>(kv p.1,vv p.2))∧B.map (λe=>(e.key,e.val))=m2.map (λp=>(kv p.1,vv p.2))∧e.key=kv k∧e.val=vv u∧Instr.findNow d (kv k) es i=some (some (i+A.length,vv u))∧
   (∀u',Zc m k u'=m1++(k,u')::m2)∧xu m k=m1++m2
 | [],[],i,u,_,h=>by cases h
 | e::es,[],i,u,h,_=>by cases h
 | [],p::m,i,u,h,_=>by cases h
 | e::es,p::m,i,u,h,hm=>by
  simp only[List.map_cons,List.cons.injEq,Prod.mk.injEq]at h;simp only[zH]at hm;split at hm
  ·rename_i heq
   cases hm
   obtain⟨pk,pu⟩:=p;simp only at heq h;subst heq;refine⟨[],e,es,[],m,rfl,rfl,rfl,h.2,h.1.1,h.1.2,?_,λu'=>by simp[Zc],by simp[xu]⟩;simp only[Instr.findNow];rw[h.1.1,hd,decide_eq_true rfl,h.1.2];rfl
  ·rename_i hne;obtain⟨A,e',B,m1,m2,h1,h2,h3,h4,h5,h6,h7,h8,h9⟩:=qv d hd k es m (i+1) u h.2 hm;refine⟨e::A,e',B,p::m1,m2,by rw[h1];rfl,by rw[h2];rfl,by simp[h.1,h3],h4,h5,h6,?_,λu'=>by simp[Zc,hne,h8],by simp[xu,hne,h9]⟩;simp only[Instr.findNow];rw[h.1.1,hd,decide_eq_false (λe=>hne e.symm)];simp only[h7,List.length_cons]
   congr 3;omega
def QK:∀{m:List (κ×υ)}{k:κ}{u:υ},zH m k=some u→(k,u)∈m
 | p::m,k,u,h=>by
  simp only[zH]at h;split at h
  ·rename_i e;cases h;subst e;exact List.mem_cons_self ..
  ·exact List.mem_cons_of_mem _ (QK h)
def yC:∀{m:List (κ×υ)}{k:κ},zH m k=none↔k∉m.map (·.1)
 | [],k=>by simp[zH]
 | p::m,k=>by
  simp only[zH,List.map_cons,List.mem_cons,not_or];split
  ·rename_i e;simp[e]
  ·rename_i e;rw[yC];exact⟨λh=>⟨λh'=>e h'.symm,h⟩,λh=>h.2⟩
def XS:∀{m:List (κ×υ)}{k:κ}{u:υ},(m.map (·.1)).Nodup→(k,u)∈m→zH m k=some u
 | p::m,k,u,hn,h=>by
  simp only[List.map_cons,List.nodup_cons]at hn;simp only[zH];rcases List.mem_cons.1 h with e | h
  ·subst e;simp
  ·have:k∈m.map (·.1):=List.mem_map_of_mem h;rw[if_neg (λe=>hn.1 (by rw[e];exact this))];exact XS hn.2 h
def Yt:∀{m:List (κ×υ)}{k:κ}{u:υ},zH m k=none→Zc m k u=m++[(k,u)]
 | [],_,_,_=>rfl
 | p::m,k,u,h=>by
  simp only[zH]at h;split at h
  ·cases h
  ·rename_i e;simp only[Zc,if_neg e,List.cons_append];rw[Yt h]
def xP:∀(m:List (κ×υ))(k k':κ)(u:υ),zH (Zc m k u) k'=if k=k' then some u else zH m k'
 | [],k,k',u=>by simp[Zc,zH]
 | p::m,k,k',u=>by
  simp only[Zc];by_cases e:p.1=k
  ·rw[if_pos e];simp only[zH];by_cases e2:k=k'
   ·rw[if_pos e2,if_pos e2]
   ·rw[if_neg e2,if_neg e2,if_neg (by rw[e];exact e2)]
  ·rw[if_neg e];simp only[zH,xP m k k' u];by_cases e2:p.1=k'
   ·rw[if_pos e2,if_pos e2,if_neg (λh=>e (e2.trans h.symm))]
   ·rw[if_neg e2,if_neg e2]
def xO:∀{m:List (κ×υ)}{k:κ}{u v:υ},zH m k=some v→(Zc m k u).map (·.1)=m.map (·.1)
 | p::m,k,u,v,h=>by
  simp only[zH]at h;simp only[Zc];split at h
  ·rename_i e;rw[if_pos e];simp[e]
  ·rename_i e;rw[if_neg e];simp only[List.map_cons];rw[xO h]
def ve{m:List (κ×υ)}{k:κ}{u v:υ}(h:zH m k=some v):(Zc m k u).length=m.length:=by
 have:=congrArg List.length (xO (u:=u) h);simpa using this
def uy:∀{m:List (κ×υ)}(k k':κ),(m.map (·.1)).Nodup→zH (xu m k) k'=if k=k' then none else zH m k'
 | [],k,k',_=>by simp[xu,zH]
 | p::m,k,k',hn=>by
  simp only[List.map_cons,List.nodup_cons]at hn;simp only[xu];by_cases e:p.1=k
  ·rw[if_pos e];by_cases e2:k=k'
   ·rw[if_pos e2];subst e2;subst e;exact yC.2 hn.1
   ·rw[if_neg e2];simp only[zH];rw[if_neg (by rw[e];exact e2)]
  ·rw[if_neg e];simp only[zH];by_cases e2:p.1=k'
   ·rw[if_pos e2,if_pos e2,if_neg (λh=>e (e2.trans h.symm))]
   ·rw[if_neg e2,if_neg e2];exact uy k k' hn.2
end
section
variable {w0 w w':World}{E:List Seg}{P:Program}{κ υ:Type}[DecidableEq κ]{kt mt et:TypeId}{kv:κ→Value}{vv:υ→Value}{r:Nat}{m:List (κ×υ)}{s:Seg}{k:κ}
def oe{α:Type}(A B:List α)(e:α)(f:α→α):(A++e::B).modify A.length f=A++f e::B:=by
 induction A with
 | nil=>rfl
 | cons x A ih=>simp[List.modify_succ_cons,ih]
def St.put(h:St w0 E w)(i:Nat){b:Nat}{o o':Obj}(hi:nth E i=some [(b,o)])(hz:Ge o'=true):St w0 (ze E i [(b,o')]) { w with heap:=w.heap.setIfInBounds b o' }:=by
 obtain⟨-,hb⟩:=h.at i hi;have hlt:=(Array.getElem?_eq_some_iff.1 hb).1;exact h.upd i hi (by simp) (by simp[Array.getElem?_setIfInBounds,hlt]) (λk hk=>by simp[Array.getElem?_setIfInBounds,Ne.symm hk]) hz rfl rfl rfl
def St.drew(h:St w0 E w):St w0 E w.drew:=h.drawn
def MpS.new(h:St w0 E w){t:TypeId}{kk:Option Nat→PT}(kv:κ→Value)(vv:υ→Value)(hk:∀r s w',MpS kv vv r [] s→St w0 (s::E) w'→kk (some r) w'):L.sem P (.one (.one .map)) (Instr.makeMap t none) kk w:=
 ⟨some w.heap.size,_,run_makeMap_plain w t,hk _ _ _ ⟨[],0,⟨rfl,by simp,by simp,by simp⟩,rfl⟩ (h.alloc _ rfl)⟩
def MpS.nd(hm:MpS kv vv r m s):(m.map (·.1)).Nodup:=by obtain⟨es,c,h,-⟩:=hm;exact h.nd
def MpS.get_run(K:MK P kt kv)(ht:P.underlying mt=some (.map kt et)){z:Value}(hz:(zeroValue et).run P w = .ok z w)(h:St w0 E w)(i:Nat)(hi:nth E i=some s)(hm:MpS kv vv r m s)(ok:Bool) :
  (Instr.lookup mt (.map (some r)) (kv k) ok).run P w = .ok (if ok then .tuple #[((zH m k).map vv).getD z,.bool (zH m k).isSome]else((zH m k).map vv).getD z) w:=by
 obtain⟨es,c,hm,rfl⟩:=hm;obtain⟨d,hd,hs,hk⟩:=K.und;have hb:=(h.at i hi).2;have hc:∀em,(Instr.checkKey em 10000 kt (kv k)).run P w = .ok () w:=λem=>run_checkKey hd (hk k) em 9999
 cases hg:zH m k with
 | none=>
  have hf:=qw d hs k es m 0 hm.is hg
  cases ok<;>simp[Instr.lookup,run_underlying ht,MapKept.run_getObj_map hb,hc,run_findKey hd hf,hz,Result.andThen]
 | some u=>
  obtain⟨A,e,B,m1,m2,h1,h2,h3,h4,h5,h6,h7,h8,h9⟩:=qv d hs k es m 0 u hm.is hg
  cases ok<;>simp[Instr.lookup,run_underlying ht,MapKept.run_getObj_map hb,hc,run_findKey hd h7,Result.andThen]
def zv{et:TypeId}{z:Value}{i:TypeInfo}(h1:P.info? et=some i)(h2:i.zero=some z)(w:World):(zeroValue et).run P w = .ok z w:=by
 simp[zeroValue,typeInfo,h1,h2]
def MpS.get(K:MK P kt kv)(ht:P.underlying mt=some (.map kt et)){e:E1}{z:e.T}(hz:∀w,(zeroValue et).run P w = .ok (e.val z) w)(f:υ→e.T)(hf:∀u,e.val (f u)=vv u)(h:St w0 E w)(i:Nat)(hi:nth E i=some s)(hm:MpS kv vv r m s){kk:e.T→PT}
  (hk:kk (((zH m k).map f).getD z) w):L.semR P (.one e) (Instr.lookup mt (.map (some r)) (kv k) false) kk w:=by
 refine⟨((zH m k).map f).getD z,?_,hk⟩;rw[MpS.get_run K ht (hz w) h i hi hm false]
 cases zH m k with
 | none=>rfl
 | some u=>simp[RT.val,hf]
def MpS.get2(K:MK P kt kv)(ht:P.underlying mt=some (.map kt et)){e:E1}{z:e.T}(hz:∀w,(zeroValue et).run P w = .ok (e.val z) w)(f:υ→e.T)(hf:∀u,e.val (f u)=vv u)(h:St w0 E w)(i:Nat)(hi:nth E i=some s)(hm:MpS kv vv r m s){kk:e.T×Bool×Unit→PT}
  (hk:kk (((zH m k).map f).getD z,(zH m k).isSome,()) w):L.semR P (.tup [e,.one .bool]) (Instr.lookup mt (.map (some r)) (kv k) true) kk w:=by
 refine⟨(((zH m k).map f).getD z,(zH m k).isSome,()),?_,hk⟩;rw[MpS.get_run K ht (hz w) h i hi hm true]
 cases zH m k with
 | none=>rfl
 | some u=>
  simp only[Option.map_some,Option.getD_some,Option.isSome_some,RT.val,TV,hf];rfl
def MpS.len{t:TypeId}(ht:P.underlying mt=some (.map kt et))(h:St w0 E w)(i:Nat)(hi:nth E i=some s)(hm:MpS kv vv r m s){kk:Int→PT}
  (hk:kk (m.length:Int) w):L.semR P (.one (.one (.int .i64))) (Builtin.len_ #[mt] t #[.map (some r)]) kk w:=by
 obtain⟨es,c,hm,rfl⟩:=hm;have hb:=(h.at i hi).2;have hl:es.length=m.length:=by have:=congrArg List.length hm.is;simpa using this
 refine⟨(m.length:Int),?_,hk⟩;rw[←hl];simp[Builtin.len_,run_underlying ht,getObj,Sem.run,hb,RT.val,E1.val,Lf.val,goInt]
def MpS.set(K:MK P kt kv)(ht:P.underlying mt=some (.map kt et))(h:St w0 E w)(i:Nat)(hi:nth E i=some s)(hm:MpS kv vv r m s)(u:υ){x:Value}(hx:vv u=x){kk:PT}
  (hk:∀s' w',MpS kv vv r (Zc m k u) s'→St w0 (ze E i s') w'→kk w'):L.semU P (Instr.mapUpdate mt (.map (some r)) (kv k) x) kk w:=by
 obtain⟨es,c,hm,rfl⟩:=hm;obtain⟨d,hd,hs,hkey⟩:=K.und;subst hx;have hb:=(h.at i hi).2;have hc:(Instr.checkKey false 10000 kt (kv k)).run P w = .ok () w:=run_checkKey hd (hkey k) _ 9999
 cases hg:zH m k with
 | none=>
  have hf:=qw d hs k es m 0 hm.is hg;have hr:(Instr.mapUpdate mt (.map (some r)) (kv k) (vv u)).run P w = .ok () { w with heap:=w.heap.setIfInBounds r (.map (es.toArray.push (⟨kv k,vv u,c⟩:MapEntry)) (c+1)) }:=by
   simp[Instr.mapUpdate,run_underlying ht,MapKept.run_getObj_map hb,hc,run_findKey hd hf,run_setObj_map _ hb,Result.andThen]
  refine⟨_,hr,hk [(r,.map (es++[(⟨kv k,vv u,c⟩:MapEntry)]).toArray (c+1))] _ ⟨es++[(⟨kv k,vv u,c⟩:MapEntry)],c+1,⟨?_,?_,?_,?_⟩,rfl⟩ ?_⟩
  ·rw[Yt hg];simp[hm.is]
  ·rw[Yt hg];simp only[List.map_append,List.map_cons,List.map_nil];rw[List.nodup_append];refine⟨hm.nd,by simp,λa ha b hb=>?_⟩;simp at hb;subst hb;intro e;subst e;exact yC.1 hg ha
  ·simp only[List.map_append,List.map_cons,List.map_nil];rw[List.nodup_append];refine⟨hm.born,by simp,λa ha b hb=>?_⟩;simp at hb;subst hb;obtain⟨e,he,rfl⟩:=List.mem_map.1 ha;have:=hm.lt e he;omega
  ·intro e he;rcases List.mem_append.1 he with he | he
   ·have:=hm.lt e he;omega
   ·simp at he;subst he;simp
  ·have:=h.put i hi (o':=.map (es++[(⟨kv k,vv u,c⟩:MapEntry)]).toArray (c+1)) rfl;simpa using this
 | some u0=>
  obtain⟨A,e,B,m1,m2,h1,h2,h3,h4,h5,h6,h7,h8,h9⟩:=qv d hs k es m 0 u0 hm.is hg;have hget:es[A.length]? = some e:=by rw[h1];simp
  simp only[Nat.zero_add]at h7;have hr:(Instr.mapUpdate mt (.map (some r)) (kv k) (vv u)).run P w = .ok () { w with heap:=w.heap.setIfInBounds r (.map (es.toArray.modify A.length λe=>(⟨kv k,vv u,e.born⟩:MapEntry)) c) }:=by
   simp[Instr.mapUpdate,run_underlying ht,MapKept.run_getObj_map hb,hc,run_findKey hd h7,hget,h5,run_keyThatStays (hkey k),run_setObj_map _ hb,Result.andThen]
  have hmod:es.toArray.modify A.length (λe=>(⟨kv k,vv u,e.born⟩:MapEntry))=(A++(⟨kv k,vv u,e.born⟩:MapEntry)::B).toArray:=by
   rw[h1];apply Array.ext';rw[Array.toList_modify];exact oe A B e _
  rw[hmod]at hr;refine⟨_,hr,hk [(r,.map (A++(⟨kv k,vv u,e.born⟩:MapEntry)::B).toArray c)] _ ⟨A++(⟨kv k,vv u,e.born⟩:MapEntry)::B,c,⟨?_,?_,?_,?_⟩,rfl⟩ (h.put i hi rfl)⟩
  ·rw[h8];simp[h3,h4]
  ·rw[xO hg];exact hm.nd
  ·have:=hm.born;rw[h1]at this;simpa using this
  ·intro x hx;have hl:=hm.lt;rw[h1]at hl;rcases List.mem_append.1 hx with hx | hx
   ·exact hl x (List.mem_append_left _ hx)
   ·rcases List.mem_cons.1 hx with rfl | hx
    ·exact hl e (by simp)
    ·exact hl x (by simp[hx])
def MpS.del{t1 t2:TypeId}(K:MK P kt kv)(ht:P.underlying mt=some (.map kt et))(h:St w0 E w)(i:Nat)(hi:nth E i=some s)(hm:MpS kv vv r m s){kk:Unit→PT}
  (hk:∀s' w',MpS kv vv r (xu m k) s'→St w0 (ze E i s') w'→kk () w'):L.sem P (.tup []) (Builtin.delete_ #[mt,t1] t2 #[.map (some r),kv k]) kk w:=by
 obtain⟨es,c,hm,rfl⟩:=hm;obtain⟨d,hd,hs,hkey⟩:=K.und;have hb:=(h.at i hi).2;have hc:∀em,(Instr.checkKey em 10000 kt (kv k)).run P w = .ok () w:=λem=>run_checkKey hd (hkey k) em 9999
 cases hg:zH m k with
 | none=>
  have hf:=qw d hs k es m 0 hm.is hg;have hr:(Builtin.delete_ #[mt,t1] t2 #[.map (some r),kv k]).run P w = .ok (.tuple #[]) { w with heap:=w.heap.setIfInBounds r (.map es.toArray c) }:=by
   simp[Builtin.delete_,run_underlying ht,MapKept.run_getObj_map hb,hc,run_findKey hd hf,run_setObj_map _ hb,Result.andThen]
  have e:xu m k=m:=by
   have:∀(m:List (κ×υ)),zH m k=none→xu m k=m:=by
    intro m
    induction m with
    | nil=>intro _;rfl
    | cons p m ih=>
     intro h;simp only[zH]at h;split at h
     ·cases h
     ·rename_i e;simp only[xu,if_neg e];rw[ih h]
   exact this m hg
  exact⟨(),_,hr,hk _ _ ⟨es,c,by rw[e];exact hm,rfl⟩ (h.put i hi rfl)⟩
 | some u0=>
  obtain⟨A,e,B,m1,m2,h1,h2,h3,h4,h5,h6,h7,h8,h9⟩:=qv d hs k es m 0 u0 hm.is hg;simp only[Nat.zero_add]at h7;have hr:(Builtin.delete_ #[mt,t1] t2 #[.map (some r),kv k]).run P w = .ok (.tuple #[]) { w with heap:=w.heap.setIfInBounds r (.map (es.toArray.eraseIdxIfInBounds A.length) c) }:=by
   simp[Builtin.delete_,run_underlying ht,MapKept.run_getObj_map hb,hc,run_findKey hd h7,run_setObj_map _ hb,Result.andThen]
  have hera:es.toArray.eraseIdxIfInBounds A.length=(A++B).toArray:=by
   rw[h1];apply Array.ext';simp[Array.eraseIdxIfInBounds,List.eraseIdx_append_of_length_le]
  rw[hera]at hr;refine⟨(),_,hr,hk [(r,.map (A++B).toArray c)] _ ⟨A++B,c,⟨?_,?_,?_,?_⟩,rfl⟩ (h.put i hi rfl)⟩
  ·rw[h9];simp[h3,h4]
  ·have:=hm.nd;rw[h2]at this;rw[h9];simp only[List.map_append,List.map_cons]at this ⊢;exact this.sublist (List.Sublist.append_left (List.sublist_cons_self ..) _)
  ·have:=hm.born;rw[h1]at this;simp only[List.map_append,List.map_cons]at this ⊢;exact this.sublist (List.Sublist.append_left (List.sublist_cons_self ..) _)
  ·intro x hx;have hl:=hm.lt;rw[h1]at hl;rcases List.mem_append.1 hx with hx | hx
   ·exact hl x (List.mem_append_left _ hx)
   ·exact hl x (by simp[hx])
end
end Go.Dm
namespace Go.Dm
open Go.Sort
section
variable {w0 w w':World}{E:List Seg}{P:Program}{α:Type}[Inhabited α]{e:TypeId}{v:Sl}{l:List α}{s:Seg}
def St.grow(h:St w0 E w)(os:Array Obj):St w0 E (Sort.grow w os):=by
 have hlt:∀k,k<w.heap.size→(Sort.grow w os).heap[k]? = w.heap[k]? :=λk hk=>by
  simp only[Sort.grow];rw[Array.getElem?_append_left hk]
 refine⟨?_,λb hb=>?_,h.os,h.out,h.tape,λx hx=>?_,h.nd,λ_ _ _ _=>rfl⟩
 ·simp only[Sort.grow,Array.size_append];have:=h.size;omega
 ·rw[hlt b (Nat.lt_of_lt_of_le hb h.size)];exact h.old b hb
 ·have:=h.own x hx;rw[hlt _ (Array.getElem?_eq_some_iff.1 this.2).1];exact this
def VR(enc:α→Value)(pre xs tail:List Value)(ys:List α)(hl:ys.length=xs.length) :
  putCells enc pre.length ys.toArray (pre++(xs++tail)).toArray=(pre++(ys.map enc++tail)).toArray:=by
 apply Array.ext_getElem?;intro k;simp only[putCells,Array.getElem?_mapIdx,List.getElem?_toArray,List.size_toArray];by_cases h1:k<pre.length
 ·rw[List.getElem?_append_left (l₂:=xs++tail) h1,List.getElem?_append_left (l₂:=ys.map enc++tail) h1,List.getElem?_eq_getElem h1];simp only[Option.map_some];rw[if_neg (by omega)]
 ·rw[List.getElem?_append_right (l₂:=xs++tail) (by omega),List.getElem?_append_right (l₂:=ys.map enc++tail) (by omega)];by_cases h2:k-pre.length<xs.length
  ·rw[List.getElem?_append_left (l₂:=tail) h2,List.getElem?_append_left (l₁:=ys.map enc) (l₂:=tail) (by simpa [hl]using h2),List.getElem?_eq_getElem h2,List.getElem?_map,List.getElem?_eq_getElem (by omega)];simp only[Option.map_some];rw[if_pos (by omega)]
   congr 2
   rw[getElem!_pos _ _ (by simpa using(by omega:k-pre.length<ys.length))];simp
  ·rw[List.getElem?_append_right (l₁:=xs) (by omega),List.getElem?_append_right (l₁:=ys.map enc) (by simp[hl];omega)];simp only[List.length_map,hl]
   cases tail[k-pre.length-xs.length]? with
   | none=>rfl
   | some x=>simp only[Option.map_some];rw[if_neg (by omega)]
def St.putRow(h:St w0 E w)(k:Nat){enc1:α→List Value}{encv:α→Value}(he:∀x,enc1 x = [encv x])(hE:Enc enc1 1){g n cap off:Nat}(hi:nth E k=some s)(hr:Rw enc1 e 1 ⟨some ⟨g,off,none⟩,n,cap⟩ l s)(ys:List α)(hl:ys.length=l.length) :
  ∃s',Rw enc1 e 1 ⟨some ⟨g,off,none⟩,n,cap⟩ ys s'∧St w0 (ze E k s') (Sort.putRow encv w g off ys.toArray):=by
 have e1:∀l:List α,fl enc1 l=l.map encv:=λl=>by
  induction l with
  | nil=>rfl
  | cons x l ih=>simp only[fl,List.flatMap_cons,List.map_cons]at *;rw[ih,he];rfl
 unfold Rw at *
 rw[e1]at hr ⊢;have hxs:(l.map encv).length=ys.length:=by rw[List.length_map,hl]
 generalize l.map encv=xs at hr hxs
 cases hr with
 | mk g n cap pre xs spare post h1 h2 h3 h4=>
  refine⟨[Cl g e (pre++(ys.map encv++(spare++post)))],Row.mk g n cap pre _ spare post (by rw[List.length_map,←hxs];exact h1) (by rw[List.length_map,←hxs];exact h2) h3 h4,?_⟩;have hb:=(h.at k hi).2;have hput:=VR encv pre xs (spare++post) ys (by omega);refine h.upd k hi (by simp[Sort.putRow,mapBlock]) ?_ (λj hj=>?_) rfl rfl rfl rfl
  ·simp only[Sort.putRow,mapBlock,Array.getElem?_modify,hb,if_true,Option.map_some,onCells,hput]
  ·simp only[Sort.putRow,mapBlock,Array.getElem?_modify];rw[if_neg (λe=>hj e.symm)]
def Rw.holds(h:St w0 E w)(k:Nat){enc1:α→List Value}{encv:α→Value}(he:∀x,enc1 x = [encv x])(hE:Enc enc1 1){g n cap off:Nat}(hi:nth E k=some s)(hr:Rw enc1 e 1 ⟨some ⟨g,off,none⟩,n,cap⟩ l s) :
  Holds encv w g off l.toArray∧g<w.heap.size:=by
 have hr':=hr;constructor
 ·intro j hj;simp only[List.size_toArray]at hj;have hx:l[j]? = some l[j]:=List.getElem?_eq_getElem hj;have hn:=XW hE hx (f:=0) (u:=encv l[j]) (by rw[he];rfl);simp only[Nat.mul_one,Nat.add_zero]at hn;have hc:=hr.cell h k hi rfl hn;rw[yH]at hc;have e2:l.toArray[j]! = l[j]:=by rw[getElem!_pos _ _ (by simpa using hj)];simp
  rw[e2];refine⟨hc,?_⟩;unfold Rw at hr';generalize fl enc1 l=xs at hr'
  cases hr' with
  | mk g n cap pre xs spare post h1 h2 h3 h4=>
   have hb:=(h.at k hi).2;simp[World.frozen?,hb]
 ·unfold Rw at hr';generalize fl enc1 l=xs at hr'
  cases hr' with
  | mk g n cap pre xs spare post h1 h2 h3 h4=>exact(Array.getElem?_eq_some_iff.1 (h.at k hi).2).1
def oP{f:FuncId}{enc1:α→List Value}{encv:α→Value}(he:∀x,enc1 x = [encv x])(hE:Enc enc1 1)(ys:List α)(hl:ys.length=l.length)
  (hc:∀g off cap w,Holds encv w g off l.toArray→g<w.heap.size→Calls P f #[.slice (some ⟨g,off,none⟩) l.length cap] w λr w'=>r = .returned (.tuple #[])∧∃n os,w'=Sort.grow (Sort.putRow encv (Sort.ahead w n) g off ys.toArray) os)
  (hc0:∀p cap w,Calls P f #[.slice p 0 cap] w λr w'=>r = .returned (.tuple #[])∧w'=w)
  (h:St w0 E w) (k:Nat) (hi:nth E k=some s) (hr:Rw enc1 e 1 v l s) {kk:Unit→PT} (hk:∀s' w',Rw enc1 e 1 v ys s'→St w0 (ze E k s') w'→kk () w'):L.call P f [.slice v.a v.len v.cap] (.tup []) kk w:=by
 have hlen:=Rw.len hE hr
 cases hl0:l with
 | nil=>
  subst hl0;have:ys = []:=List.eq_nil_of_length_eq_zero (by simpa using hl);subst this;simp only[List.length_nil]at hlen;rw[hlen];exact(hc0 v.a v.cap w).mono λr w' ⟨h1,h2⟩=>⟨(),h1,by subst h2;exact hk s _ hr (by rw[ZE hi];exact h)⟩
 | cons x l2=>
  have hpos:0<l.length:=by rw[hl0];simp
  obtain⟨va,vn,vc⟩:=v;have:∃g off,va=some ⟨g,off,none⟩:=by
   have hr':=hr;unfold Rw at hr';generalize fl enc1 l=xs at hr'
   cases hr' with
   | nil=>simp at hlen;omega
   | mk=>exact⟨_,_,rfl⟩
  obtain⟨g,off,rfl⟩:=this;simp only at hlen;subst hlen;obtain⟨hH,hlt⟩:=Rw.holds h k he hE hi hr;refine(hc g off vc w hH hlt).mono λr w' ⟨h1,n,os,h2⟩=>⟨(),h1,?_⟩;subst h2;obtain⟨s',hr2,h3⟩:=St.putRow (w:=Sort.ahead w n) (h.drawn) k he hE hi hr ys hl;exact hk s' _ hr2 (h3.grow os)
end
def Qa{α:Type}:∀{S es:List α},S.Nodup→(∀x∈S,x∈es)→S.length≤es.length
 | [],es,_,_=>Nat.zero_le _
 | a::S,es,hn,hs=>by
  classical
  rw[List.nodup_cons]at hn;have ha:=hs a (List.mem_cons_self ..);have:=Qa (S:=S) (es:=es.erase a) hn.2 λx hx=>(List.mem_erase_of_ne (λe=>hn.1 (by subst e;exact hx))).2 (hs x (List.mem_cons_of_mem _ hx));rw[List.length_erase_of_mem ha]at this;have h0:0<es.length:=List.length_pos_of_mem ha;simp only[List.length_cons];omega
def XR{α:Type}:∀{S es:List α},S.Nodup→es.Nodup→(∀x,x∈S↔x∈es)→S.Perm es
 | [],es,_,_,h=>by
  cases es with
  | nil=>exact .refl _
  | cons y es=>exact absurd ((h y).2 (List.mem_cons_self ..)) (by simp)
 | a::S,es,hn,he,h=>by
  classical
  rw[List.nodup_cons]at hn;have ha:=(h a).1 (List.mem_cons_self ..);refine .trans ?_ (List.perm_cons_erase ha).symm;refine .cons a (XR hn.2 (he.erase a) λx=>?_);constructor
  ·intro hx;exact(List.mem_erase_of_ne (λe=>hn.1 (by subst e;exact hx))).2 ((h x).1 (List.mem_cons_of_mem _ hx))
  ·intro hx;have hne:x≠a:=λe=>by subst e;exact(List.Nodup.not_mem_erase he) hx
   rcases List.mem_cons.1 ((h x).2 (List.mem_of_mem_erase hx))with e | hx
   ·exact(hne e).elim
   ·exact hx
def ke{α β:Type}(f:α→β):∀{l:List α},(l.map f).Nodup→∀{a b},a∈l→b∈l→f a=f b→a=b
 | x::l,hn,a,b,ha,hb,h=>by
  rw[List.map_cons,List.nodup_cons]at hn;rcases List.mem_cons.1 ha with rfl | ha'<;>rcases List.mem_cons.1 hb with rfl | hb'
  ·rfl
  ·exact absurd (by rw[h];exact List.mem_map_of_mem hb') hn.1
  ·exact absurd (by rw[←h];exact List.mem_map_of_mem ha') hn.1
  ·exact ke f hn.2 ha' hb' h
def YM{α β:Type}(f:α→β){l:List α}(h:(l.map f).Nodup):l.Nodup:=List.Pairwise.of_map f (λa b hab e=>hab (e▸rfl)) h
def KG{κ:Type}(P:Program)(w0:World)(A:List Seg)(fv:Value)(keys:List κ)(kv:κ→Value):Prop:=
 ∀(yv:FV)(R:Value→PT)(J:List κ→List Seg→Prop)(Jd:World→Prop)(F:List Seg)(w:World),St w0 (A++F) w→J [] F→
  (∀seen k F X w,seen.length<keys.length→J seen F→St w0 (A++(F++X)) w→jQ P yv.val [kv k] w λv w'=>(v = .bool true∧∃F',St w0 (A++(F'++X)) w'∧J (seen++[k]) F')∨(v = .bool false∧Jd w'))→
  (∀seen F w,seen.Perm keys→J seen F→St w0 (A++F) w→R (.tuple #[]) w)→(∀w,Jd w→R (.tuple #[]) w)→qf P fv [yv.val] w R
section
variable {w0 w w':World}{P:Program}{κ υ:Type}[DecidableEq κ]{kt mt et ty:TypeId}{kv:κ→Value}{vv:υ→Value}{r:Nat}{m:List (κ×υ)}{s:Seg}
def St.cut{A X:List Seg}(h:St w0 (A++X) w):St w0 A w:=by
 induction X generalizing A with
 | nil=>simpa using h
 | cons x X ih=>exact ih (A:=A) (by
   have:=h.del A.length (s:=x) (by rw[zp];simp);have e:ZP (A++x::X) A.length=A++X:=by
    clear this h ih
    induction A with
    | nil=>rfl
    | cons y A ih=>simp[ZP,ih]
   rwa [e]at this)
def Vj{A F:List Seg}{fv:Value}{keys:List κ}{l:Lf}{arg:κ→l.T}(hY:KG P w0 A fv keys λk=>l.val (arg k))(h:St w0 (A++F) w){body:Nat→TT [.one l]→(Value→PT)→PT}{K:List Nat→Option Code→PT}
  (Inv:List κ→List Seg→Prop) (Ex:Code→List Seg→Prop) (h0:Inv [] F)
  (hb:∀seen k F X w l lp d(R:Value→PT),seen.length<keys.length→Inv seen F→St w0 ([Rec l lp .busy none]::[DfM d]::(A++(F++X))) w→
   (∀F' w',Inv (seen++[k]) F'→St w0 ([Rec l lp .busy none]::[DfM d]::(A++(F'++X))) w'→L.endRound P l none R w')→
   (∀j G w',Ex j G→St w0 ([Rec l lp .busy none]::[DfM d]::(G++X)) w'→L.endRound P l (some j) R w')→body l (arg k,()) R w)
  (hc:∀d seen F w,seen.Perm keys→Inv seen F→St w0 ([DfM d]::(A++F)) w→K [d] none w)
  (he:∀d j G w,Ex j G→St w0 ([DfM d]::G) w→K [d] (some j) w):L.range P none fv [.one l] (λl y R=>L.begin P l (body l y R)) K w:=by
 refine rng h λd l lp w h hy=>?_;have h:St w0 (A++([[Rec l lp .ready none],[DfM d]]++F)) w:=St.toFront (G:=A) (A:=[[Rec l lp .ready none],[DfM d]]) h;refine hY ⟨.yield l,#[],#[]⟩ _ (λseen G=>∃F,G = [[Rec l lp .ready none],[DfM d]]++F∧Inv seen F) (λw=>∃G j,St w0 ([Rec l lp .done (some j)]::[DfM d]::G) w∧Ex j G) _ w h ⟨F,rfl,h0⟩ ?_ ?_ ?_
 ·rintro seen k G X w hm ⟨F,rfl,hi⟩ h;have h:St w0 ([Rec l lp .ready none]::[DfM d]::(A++(F++X))) w:=St.toFront (A:=A) (G:=[[Rec l lp .ready none],[DfM d]]) (F:=F++X) h;have hrec:=(h.at 0 (b:=(Rec l lp .ready none).1) (o:=(Rec l lp .ready none).2) rfl).2;refine hy (arg k,()) .ready none w _ hrec ?_;refine bgn h 0 rfl λw h=>?_;refine hb seen k F X w l lp d _ hm hi h ?_ ?_
  ·intro F' w' hi' h';refine fD h' 0 rfl λw h=>.inl ⟨rfl,_,?_,F',rfl,hi'⟩;exact St.toFront (G:=A) (A:=[[Rec l lp .ready none],[DfM d]]) (F:=F'++X) h
  ·intro j G w' hi' h';exact fE h' 0 rfl λw h=>.inr ⟨rfl,G,j,St.cut (A:=[Rec l lp .done (some j)]::[DfM d]::G) (X:=X) h,hi'⟩
 ·rintro seen G w hp ⟨F,rfl,hi⟩ h;refine OM h.toFront 0 rfl (by simp) λw h=>hc d seen F w hp hi h
 ·rintro w ⟨G,j,h,hi⟩;refine OM h 0 rfl (by simp) λw h=>he d j G w hi h
def kd(un:Value→κ)(hun:∀k,un (kv k)=k)(ht:P.underlying mt=some (.map kt et)){lk:Lf}{ev:E1}(fk:κ→lk.T)(hfk:∀k,lk.val (fk k)=kv k)(fv:υ→ev.T)(hfv:∀u,ev.val (fv u)=vv u){c T:Nat}{yv:FV}{R:Value→PT}
  (J:List κ→List Seg→Prop) (Jd:World→Prop) {F:List Seg} (hm:MpS kv vv r m s)
  (h:St w0 ([Cl c T [.map (some r)]]::s::F) w) (hJ:J [] F)
  (step:∀seen k F X w,seen.length<m.length→J seen F→St w0 ([Cl c T [.map (some r)]]::s::(F++X)) w→jQ P yv.val [kv k] w λv w'=>(v = .bool true∧∃F',St w0 ([Cl c T [.map (some r)]]::s::(F'++X)) w'∧J (seen++[k]) F')∨(v = .bool false∧Jd w'))
  (fin:∀seen F w,seen.Perm (m.map (·.1))→J seen F→St w0 ([Cl c T [.map (some r)]]::s::F) w→R (.tuple #[]) w) (fin2:∀w,Jd w→R (.tuple #[]) w) :
  (L.load (.one (.map)) ⟨c,0,none⟩ λ(x1:Option Nat)=>
   L.sem P (.one (.one .ptr)) (Instr.range mt (.map x1)) λ(p2:Option Addr)=>
   L.loop (Y:=Unit) (()) λy3 again4=>
   L.next P [.one lk,ev] (Instr.next (.pointer p2) false ty) (R (.tuple #[])) λ(x5:TT [.one lk,ev])=>
   L.sem P (.tup [.one lk,ev]) (Instr.entry (.pointer p2)) λ(x6:TT [.one lk,ev])=>
   L.callV P (.func yv.fn yv.fs yv.cs) [lk.val x6.1] (.one (.one (.bool))) λ(x7:Bool)=>
   L.ite (!x7) (R (.tuple #[]))<|
   again4 (())) w:=by
 have hms:=hm;obtain⟨es,ck,hmi,rfl⟩:=hm;refine ldx h 0 rfl rfl rfl ?_;have hb:=(h.at 1 rfl).2;refine⟨some ⟨w.heap.size,0,none⟩,w.alloc (.mapIter (some r) ck #[] ck),?_,?_⟩
 ·simp[Instr.range,run_underlying ht,MapKept.run_getObj_map hb,RT.val,E1.val,Lf.val,Result.andThen]
 have h:=h.alloc (.mapIter (some r) ck #[] ck) rfl;generalize w.heap.size=ri at h;have hbn:∀e∈es.toArray.toList,e.born<ck:=λe he=>hmi.lt e (by simpa using he)
 refine Zj (λq y w=>∃(S:List MapEntry)(seen:List κ)(F:List Seg),q+S.length=es.length∧(∀x∈S,x∈es)∧(S.map (·.born)).Nodup∧S.map (·.key)=seen.map kv∧(∀k∈seen,k∈m.map (·.1))∧J seen F∧
  St w0 ([(ri,.mapIter (some r) ck (S.map (·.born)).toArray ck)]::[Cl c T [.map (some r)]]::[(r,.map es.toArray ck)]::F) w) es.length ⟨[],[],F,rfl,by simp,by simp,rfl,by simp,hJ,h⟩ ?_
 clear h hJ hb;rintro q ⟨⟩ w ⟨S,seen,F,hq,hS,hnd,hkeys,hin,hJ,h⟩ again hag;have hri:=(h.at 0 rfl).2;have hb:=(h.at 2 rfl).2;have hml:es.length=m.length:=by have:=congrArg List.length hmi.is;simpa using this
 have hsl:S.length=seen.length:=by have:=congrArg List.length hkeys;simpa using this
 rcases run_next_at (P:=P) w ty ri r ck ck (S.map (·.born)).toArray es.toArray ck hri hb hbn (Nat.le_refl _)with ⟨h0,hr⟩ | ⟨e,he,w1,hw1,hr⟩
 ·refine .inl ⟨_,hr,fin seen F w ?_ hJ h.tail⟩;have hall:∀e∈es,e.born∈S.map (·.born):=by
   intro e he;apply Classical.byContradiction;intro hne;have:e∈(leftOf es.toArray (S.map (·.born)).toArray).toList:=by
    simp only[leftOf,Array.toList_filter,List.mem_filter];exact⟨by simpa using he,by simpa using hne⟩
   have h1:(leftOf es.toArray (S.map (·.born)).toArray).toList.length=0:=by simpa using h0
   rw[List.eq_nil_of_length_eq_zero h1]at this
   cases this
  have hpS:S.Perm es:=XR (YM _ hnd) (YM _ hmi.born) λa=>⟨hS a,λha=>by
   obtain⟨e',he',hbo⟩:=List.mem_map.1 (hall a ha);have:=ke (·.born) hmi.born (hS e' he') ha hbo;subst this;exact he'⟩
  have h1:=hpS.map (·.key);have h2:es.map (·.key)=(m.map (·.1)).map kv:=by
   have:=congrArg (List.map Prod.fst) hmi.is;simpa [List.map_map,Function.comp_def]using this
  rw[hkeys,h2]at h1;have h3:=h1.map un;simpa [List.map_map,Function.comp_def,hun]using h3
 ·have he':e∈es∧e.born∉S.map (·.born):=by
   simp only[leftOf,Array.toList_filter,List.mem_filter]at he;exact⟨by simpa using he.1,by simpa using he.2⟩
  obtain⟨he,hne⟩:=he';have hp:∃p∈m,kv p.1=e.key∧vv p.2=e.val:=by
   have:(e.key,e.val)∈es.map (λe=>(e.key,e.val)):=List.mem_map_of_mem he;rw[hmi.is]at this;obtain⟨p,hp,hpe⟩:=List.mem_map.1 this;simp only[Prod.mk.injEq]at hpe;exact⟨p,hp,hpe.1,hpe.2⟩
  obtain⟨p,hp,hpk,hpv⟩:=hp;have h1:St w0 ([(ri,.mapIter (some r) ck (S.map (·.born)).toArray ck)]::[Cl c T [.map (some r)]]::[(r,.map es.toArray ck)]::F) w1:=by
   rcases hw1 with rfl | rfl
   ·exact h
   ·exact h.drew
  have h2:=h1.put 0 rfl (o':=.mapIter (some r) ck ((S.map (·.born)).toArray.push e.born) ck) rfl;refine .inr ⟨(fk p.1,fv p.2,()),Go.ChangeMaps.setBlock w1 ri (.mapIter (some r) ck ((S.map (·.born)).toArray.push e.born) ck),?_,?_⟩
  ·rw[hr];simp only[TV,hfv,hpv];show Result.ok (Value.tuple #[.bool true,e.key,e.val]) _=Result.ok (Value.tuple #[.bool true,lk.val (fk p.1),e.val]) _;rw[hfk,hpk]
  have h:St w0 ([(ri,.mapIter (some r) ck ((S.map (·.born)).toArray.push e.born) ck)]::[Cl c T [.map (some r)]]::[(r,.map es.toArray ck)]::F) (Go.ChangeMaps.setBlock w1 ri (.mapIter (some r) ck ((S.map (·.born)).toArray.push e.born) ck)):=h2;generalize Go.ChangeMaps.setBlock w1 ri (.mapIter (some r) ck ((S.map (·.born)).toArray.push e.born) ck)=w at h;have hri:=(h.at 0 rfl).2;have hb:=(h.at 2 rfl).2;have hrun:=run_entry_at (P:=P) w ri r ck (S.map (·.born)).toArray es.toArray ck e hri hb (by simpa using he) (by simpa using hmi.born);refine⟨(fk p.1,fv p.2,()),w,?_,?_⟩
  ·rw[hrun];simp only[RT.val,TV,hfv,hpv];show Result.ok (Value.tuple #[e.key,e.val]) _=Result.ok (Value.tuple #[lk.val (fk p.1),e.val]) _;rw[hfk,hpk]
  have hnd':((S++[e]).map (·.born)).Nodup:=by
   rw[List.map_append,List.nodup_append];refine⟨hnd,by simp,λa ha b hb=>?_⟩;simp at hb;subst hb;intro e2;subst e2;exact hne ha
  have hS':∀x∈S++[e],x∈es:=λx hx=>by
   rcases List.mem_append.1 hx with hx | hx
   ·exact hS x hx
   ·simp at hx;subst hx;exact he
  have hlen:=Qa (YM _ hnd') hS';simp only[List.length_append,List.length_cons,List.length_nil]at hlen;have er:(S.map (·.born)).toArray.push e.born=((S++[e]).map (·.born)).toArray:=by simp
  rw[er]at h;simp only[hfk];have toEnd:∀{F:List Seg}{w:World}{x y z:Seg},St w0 (x::y::z::F) w→St w0 (y::z::(F++[x])) w:=λ{F w x y z} h=>by
   refine h.perm ?_;simp only[List.flatten_cons,List.flatten_append,List.flatten_nil,List.append_nil,←List.append_assoc];have:(x++y++z++F.flatten)=x++(y++z++F.flatten):=by simp
   rw[this];exact List.perm_append_comm
  have ofEnd:∀{F:List Seg}{w:World}{x y z:Seg},St w0 (y::z::(F++[x])) w→St w0 (x::y::z::F) w:=λ{F w x y z} h=>by
   refine h.perm ?_;simp only[List.flatten_cons,List.flatten_append,List.flatten_nil,List.append_nil,←List.append_assoc];have:(x++y++z++F.flatten)=x++(y++z++F.flatten):=by simp
   rw[this];exact List.perm_append_comm
  have hst:=step seen p.1 F [[(ri,.mapIter (some r) ck ((S++[e]).map (·.born)).toArray ck)]] w (by omega) hJ (toEnd h);refine cv (jQ.mono hst λu w' hu=>?_);rcases hu with ⟨rfl,F',h,hJ⟩ | ⟨rfl,hd⟩
  ·refine⟨true,rfl,itF rfl (hag (q-1) _ _ (by omega) ⟨S++[e],seen++[p.1],F',by simp;omega,hS',hnd',?_,?_,hJ,ofEnd h⟩)⟩
   ·rw[List.map_append,List.map_append,hkeys];simp[hpk]
   ·intro k hk;rcases List.mem_append.1 hk with hk | hk
    ·exact hin k hk
    ·simp at hk;subst hk;exact List.mem_map_of_mem hp
  ·exact⟨false,rfl,itT rfl (fin2 w' hd)⟩
end
end Go.Dm
namespace Go.Dm
def oO{a b:B0}(h:a.data.toList=b.data.toList):a=b:=by
 cases a;cases b;simp only[ByteArray.mk.injEq]at *;exact Array.toList_inj.1 h
def VN(a b:B0):(a.toList == b.toList)=decide (a=b):=by
 rw[ByteArray.toList_eq,ByteArray.toList_eq];by_cases h:a=b
 ·subst h;simp
 ·have:a.data.toList≠b.data.toList:=λe=>h (oO e);rw[decide_eq_false h,beq_eq_false_iff_ne];exact this
def fL(P:Program)(w0:World)(A:List Seg)(fv:Value)(n:Nat)(arg:Nat→List Value):Prop:=
 ∀(yv:FV)(R:Value→PT)(J:Nat→List Seg→Prop)(Jd:World→Prop)(F:List Seg)(w:World),St w0 (A++F) w→J 0 F→
  (∀m F X w,m<n→J m F→St w0 (A++(F++X)) w→jQ P yv.val (arg m) w λv w'=>(v = .bool true∧∃F',St w0 (A++(F'++X)) w'∧J (m+1) F')∨(v = .bool false∧Jd w'))→
  (∀F w,J n F→St w0 (A++F) w→R (.tuple #[]) w)→(∀w,Jd w→R (.tuple #[]) w)→qf P fv [yv.val] w R
section
variable {w0 w w':World}{P:Program}
def qq{A F:List Seg}{fv:Value}{n:Nat}{es:List E1}{arg:Nat→TT es}(hY:fL P w0 A fv n λm=>TV es (arg m))(h:St w0 (A++F) w){body:Nat→TT es→(Value→PT)→PT}{K:List Nat→Option Code→PT}
  (Inv:Nat→List Seg→Prop) (Ex:Code→List Seg→Prop) (h0:Inv 0 F)
  (hb:∀m F X w l lp d(R:Value→PT),m<n→Inv m F→St w0 ([Rec l lp .busy none]::[DfM d]::(A++(F++X))) w→
   (∀F' w',Inv (m+1) F'→St w0 ([Rec l lp .busy none]::[DfM d]::(A++(F'++X))) w'→L.endRound P l none R w')→
   (∀j G w',Ex j G→St w0 ([Rec l lp .busy none]::[DfM d]::(G++X)) w'→L.endRound P l (some j) R w')→body l (arg m) R w)
  (hc:∀d F w,Inv n F→St w0 ([DfM d]::(A++F)) w→K [d] none w)
  (he:∀d j G w,Ex j G→St w0 ([DfM d]::G) w→K [d] (some j) w):L.range P none fv es (λl y R=>L.begin P l (body l y R)) K w:=by
 refine rng h λd l lp w h hy=>?_;have h:St w0 (A++([[Rec l lp .ready none],[DfM d]]++F)) w:=St.toFront (G:=A) (A:=[[Rec l lp .ready none],[DfM d]]) h;refine hY ⟨.yield l,#[],#[]⟩ _ (λm G=>∃F,G = [[Rec l lp .ready none],[DfM d]]++F∧Inv m F) (λw=>∃G j,St w0 ([Rec l lp .done (some j)]::[DfM d]::G) w∧Ex j G) _ w h ⟨F,rfl,h0⟩ ?_ ?_ ?_
 ·rintro m G X w hm ⟨F,rfl,hi⟩ h;have h:St w0 ([Rec l lp .ready none]::[DfM d]::(A++(F++X))) w:=St.toFront (A:=A) (G:=[[Rec l lp .ready none],[DfM d]]) (F:=F++X) h;have hrec:=(h.at 0 (b:=(Rec l lp .ready none).1) (o:=(Rec l lp .ready none).2) rfl).2;refine hy (arg m) .ready none w _ hrec ?_;refine bgn h 0 rfl λw h=>?_;refine hb m F X w l lp d _ hm hi h ?_ ?_
  ·intro F' w' hi' h';refine fD h' 0 rfl λw h=>.inl ⟨rfl,_,?_,F',rfl,hi'⟩;exact St.toFront (G:=A) (A:=[[Rec l lp .ready none],[DfM d]]) (F:=F'++X) h
  ·intro j G w' hi' h';exact fE h' 0 rfl λw h=>.inr ⟨rfl,G,j,St.cut (A:=[Rec l lp .done (some j)]::[DfM d]::G) (X:=X) h,hi'⟩
 ·rintro G w ⟨F,rfl,hi⟩ h;refine OM h.toFront 0 rfl (by simp) λw h=>hc d F w hi h
 ·rintro w ⟨G,j,h,hi⟩;refine OM h 0 rfl (by simp) λw h=>he d j G w hi h
def St.toEnd{A F X:List Seg}(h:St w0 (X++(A++F)) w):St w0 (A++(F++X)) w:=by
 refine h.perm ?_;simp only[List.flatten_append,←List.append_assoc];rw[List.append_assoc];exact List.perm_append_comm
def St.ofEnd{A F X:List Seg}(h:St w0 (A++(F++X)) w):St w0 (X++(A++F)) w:=by
 refine h.perm ?_;simp only[List.flatten_append,←List.append_assoc];rw[List.append_assoc X.flatten];exact List.perm_append_comm
def St.pick{τ:Type}{g:τ→Seg}{A B:List τ}{t:τ}{E:List Seg}(h:St w0 (((A++t::B).map g).flatten::E) w):St w0 (g t::((A++B).map g).flatten::E) w:=by
 refine h.perm ?_;simp only[List.map_append,List.map_cons,List.flatten_append,List.flatten_cons,←List.append_assoc];refine List.Perm.append_right _ (List.Perm.append_right _ ?_);exact List.perm_append_comm
def St.place{τ:Type}{g:τ→Seg}{A B:List τ}{t:τ}{E:List Seg}(h:St w0 (g t::((A++B).map g).flatten::E) w):St w0 (((A++t::B).map g).flatten::E) w:=by
 refine h.perm ?_;simp only[List.map_append,List.map_cons,List.flatten_append,List.flatten_cons,←List.append_assoc];refine List.Perm.append_right _ (List.Perm.append_right _ ?_);exact List.perm_append_comm
def St.addEnd{τ:Type}{g:τ→Seg}{A:List τ}{t:τ}{E:List Seg}(h:St w0 (g t::(A.map g).flatten::E) w):St w0 (((A++[t]).map g).flatten::E) w:=by
 have h:St w0 (g t::((A++[]).map g).flatten::E) w:=by simpa using h
 exact h.place
end
end Go.Dm
