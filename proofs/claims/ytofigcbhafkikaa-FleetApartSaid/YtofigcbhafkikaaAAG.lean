/- What is proved on the way to a statement of the seat, pressed (text AG). No conditions beyond those its theorems state. -/
import Derived.Test.YtofigcbhafkikaaAAF
import Derived.Laws.StructEq
set_option linter.all false
namespace Go.Dm
def VG{α:Type}{p:α→Bool}:∀{l:List α}{j:Nat}{x:α},l[j]? = some x→p x=true→(l.filter p)[((l.take j).filter p).length]? = some x
 | y::l,0,x,h,hp=>by simp at h;subst h;simp[hp]
 | y::l,j+1,x,h,hp=>by
  have:=VG (l:=l) (j:=j) (p:=p) (by simpa using h) hp;by_cases hy:p y=true
  ·simp[hy,this]
  ·simp[hy,this]
def Xf{α:Type}{p:α→Bool}{l:List α}{j:Nat}{x:α}(h:l[j]? = some x):((l.take (j+1)).filter p).length=((l.take j).filter p).length+if p x=true then 1 else 0:=by
 rw[List.take_add_one,h,List.filter_append,List.length_append]
 congr 1
 by_cases hp:p x=true<;>simp[hp]
section
variable {κ υ:Type}[DecidableEq κ]
end
section
variable {w0 w:World}{E E':List Seg}
def St.split3{a b c:Seg}(h:St w0 ((a++(b++c))::E) w):St w0 (a::b::c::E) w:=h.eq (by simp)
def St.glue3{a b c:Seg}(h:St w0 (a::b::c::E) w):St w0 ((a++(b++c))::E) w:=h.eq (by simp)
def St.nil(h:St w0 E w):St w0 ([]::E) w:=h.eq (by simp)
def St.again{s:Seg}(i:Nat)(hi:nth E i=some s)(h:St w0 (s::zQ E i) w):St w0 E w:=St.setN_same' i hi (St.back i hi h)
def Sbp{α:Type}(a b:List α):Prop:=∃r,(a++r).Perm b
def Sbp.refl{α:Type}(a:List α):Sbp a a:=⟨[],by simp⟩
def Sbp.trans{α:Type}{a b c:List α}(h:Sbp a b)(g:Sbp b c):Sbp a c:=by
 obtain⟨r,h⟩:=h;obtain⟨s,g⟩:=g;exact⟨r++s,by rw[←List.append_assoc];exact(h.append_right s).trans g⟩
def Sbp.perm{α:Type}{a b:List α}(h:a.Perm b):Sbp a b:=⟨[],by simpa using h⟩
def Sbp.left{α:Type}{a b:List α}(x:List α)(h:Sbp a b):Sbp (x++a) (x++b):=by
 obtain⟨r,h⟩:=h;exact⟨r,by rw[List.append_assoc];exact h.append_left x⟩
def Sbp.right{α:Type}{a b:List α}(x:List α)(h:Sbp a b):Sbp (a++x) (b++x):=by
 obtain⟨r,h⟩:=h;exact⟨r,by rw[List.append_assoc];exact(List.perm_append_comm.append_left a).trans (by rw[←List.append_assoc];exact h.append_right x)⟩
def St.sub(h:St w0 E w)(hp:Sbp E'.flatten E.flatten):St w0 E' w:=by
 obtain⟨r,hp⟩:=hp;have h2:St w0 (E'++[r]) w:=h.perm (by simpa using hp.symm);refine⟨h2.size,h2.old,h2.os,h2.out,h2.tape,λx hx=>h2.own x (by simp only[List.flatten_append,List.mem_append];exact .inl hx),?_,h2.fz⟩;have:=h2.nd;simp only[List.flatten_append,List.map_append]at this;exact(List.nodup_append.1 this).1
section
variable {κ τ:Type}[DecidableEq κ](key:τ→κ)
variable {key}
end
end
end Go.Dm
namespace Go.Dm
open Go.MapKept
section
variable {w0 w w':World}{P:Program}{κ υ:Type}[DecidableEq κ]{kt mt et ty:TypeId}{kv:κ→Value}{vv:υ→Value}{r:Nat}{m:List (κ×υ)}{s:Seg}
def MpS.chk{w:World}{E:List Seg}(K:MK P kt kv)(ht:P.underlying mt=some (.map kt et)){z:Value}(hz:∀w,(zeroValue et).run P w = .ok z w)(h:St w0 E w)(i:Nat)(hi:nth E i=some s)(hm:MpS kv vv r m s){k:κ}{v:Value}(hv:((Zp m k).map vv).getD z=v){kk:PT}(hk:kk w) :
  L.chkSem P (Instr.lookup mt (.map (some r)) (kv k) false) v kk w:=⟨by rw[MpS.get_run K ht (hz w) h i hi hm false,hv];rfl,hk⟩
end
end Go.Dm
namespace Go.Dm
def eP(b:Nat):List Value:=[.pointer (some ⟨b,0,none⟩)]
def Qf:Enc eP 1:=⟨λ_=>rfl,λ_=>rfl,by decide⟩
structure Ob(τ:Type) where
 b:Nat
 x:τ
 sg:Seg
abbrev obS{τ:Type}(Q:List (Ob τ)):Seg:=(Q.map Ob.sg).flatten
abbrev obB{τ:Type}(Q:List (Ob τ)):List Nat:=Q.map Ob.b
abbrev obX{τ:Type}(Q:List (Ob τ)):List τ:=Q.map Ob.x
section
variable {w0 w:World}{E:List Seg}{τ:Type}{Q:List (Ob τ)}{i:Nat}{o:Ob τ}
def gb(ho:Q[i]? = some o):Q=Q.take i++o::Q.drop (i+1):=by
 obtain⟨h,rfl⟩:=List.getElem?_eq_some_iff.1 ho;rw[←List.drop_eq_getElem_cons h,List.take_append_drop]
def Om(ho:Q[i]? = some o)(p:Ob τ):Q.set i p=Q.take i++p::Q.drop (i+1):=by
 obtain⟨h,-⟩:=List.getElem?_eq_some_iff.1 ho;exact List.set_eq_take_append_cons_drop▸by simp[h]
def ga(ho:Q[i]? = some o):(obB Q)[i]? = some o.b:=by simp[obB,ho]
def gv(ho:Q[i]? = some o):(obX Q)[i]? = some o.x:=by simp[obX,ho]
abbrev obR(Q:List (Ob τ))(i:Nat):Seg:=obS (Q.take i++Q.drop (i+1))
def St.pickAt(ho:Q[i]? = some o)(h:St w0 (obS Q::E) w):St w0 (o.sg::obR Q i::E) w:=by
 rw[gb ho]at h;exact h.pick
def St.placeAt(ho:Q[i]? = some o)(p:Ob τ)(h:St w0 (p.sg::obR Q i::E) w):St w0 (obS (Q.set i p)::E) w:=by
 rw[Om ho];exact h.place
def ot(ho:Q[i]? = some o){p:Ob τ}(hp:p.b=o.b):obB (Q.set i p)=obB Q:=by
 obtain⟨h,rfl⟩:=List.getElem?_eq_some_iff.1 ho;rw[obB,List.map_set,hp];apply List.ext_getElem?;intro j;rw[List.getElem?_set];split
 ·rename_i e;subst e;simp[h]
 ·rfl
def oq(p:Ob τ):obX (Q.set i p)=(obX Q).set i p.x:=by rw[obX,List.map_set]
def vT{p q:Ob τ}(h:q∈Q.set i p):q=p∨q∈Q:=(List.mem_or_eq_of_mem_set h).symm
def Rw.ptr{e:TypeId}{v:Sl}{s:Seg}(h:St w0 E w)(k:Nat)(hi:nth E k=some s)(hr:Rw eP e 1 v (obB Q) s){n:Int}(h0:0≤n)(ho:Q[n.toNat]? = some o){kk:Option Addr→PT}(hk:kk (some ⟨o.b,0,none⟩) w) :
  L.idx v.a n v.len 1 (λa=>L.load (.one .ptr) a kk) w:=by
 have hb:=ga ho;refine Rw.ix Qf hr h0 (List.getElem?_eq_some_iff.1 hb).1 λa ha=>?_;exact Rw.ld0 Qf h k hi hr ha hb rfl rfl hk
def St.endOb{p:Ob τ}(h:St w0 (p.sg::obS Q::E) w):St w0 (obS (Q++[p])::E) w:=by
 refine h.perm ?_;simp only[obS,List.map_append,List.map_cons,List.map_nil,List.flatten_append,List.flatten_cons,List.flatten_nil,List.append_nil,←List.append_assoc];exact List.Perm.append_right _ List.perm_append_comm
end
end Go.Dm
namespace Go.Dm
section
variable {w0 w:World}{E F:List Seg}{τ:Type}{Q:List (Ob τ)}{i:Nat}{o:Ob τ}{A B c s:Seg}
def St.op3(ho:Q[i]? = some o)(hx:o.sg=c++s)(h:St w0 (A::B::obS Q::F) w):St w0 (c::s::obR Q i::A::B::F) w:=by
 have h:St w0 (obS Q::A::B::F) w:=St.front h 2 rfl;have h:=h.pickAt ho;rw[hx]at h;exact h.split
def St.st3(ho:Q[i]? = some o)(p:Ob τ)(hp:p.sg=c++s)(h:St w0 (c::s::obR Q i::A::B::F) w):St w0 (A::B::obS (Q.set i p)::F) w:=by
 have h:=h.glue;rw[←hp]at h;have h:=h.placeAt ho p;have h:St w0 (B::obS (Q.set i p)::A::F) w:=St.front h 2 rfl;exact St.front h 2 rfl
def St.cl3(ho:Q[i]? = some o)(hx:o.sg=c++s)(h:St w0 (c::s::obR Q i::A::B::F) w):St w0 (A::B::obS Q::F) w:=by
 have h:=St.st3 ho o hx h;have e:Q.set i o=Q:=by
  obtain⟨hl,rfl⟩:=List.getElem?_eq_some_iff.1 ho;exact List.set_getElem_self hl
 rwa [e]at h
end
end Go.Dm
namespace Go.Dm
def Kk{τ:Type}{Q:List (Ob τ)}{i:Nat}{o:Ob τ}(ho:Q[i]? = some o)(x:τ)(s:Seg):obB (Q.set i ⟨o.b,x,s⟩)=obB Q:=ot (p:=⟨o.b,x,s⟩) ho rfl
end Go.Dm
namespace Go.Dm
class Fnd(b:Nat)(E:List Seg)(i:outParam Nat)(T:outParam Nat)(cs:outParam (List Value)):Prop where
 hi:nth E i=some [Cl b T cs]
instance (priority:=high) Fnd.here{b T:Nat}{cs:List Value}{E:List Seg}:Fnd b ([Cl b T cs]::E) 0 T cs:=⟨rfl⟩
instance (priority:=low) Fnd.there{b i T:Nat}{cs:List Value}{s:Seg}{E:List Seg}[F:Fnd b E i T cs]:Fnd b (s::E) (i+1) T cs:=⟨F.hi⟩
section
variable {w0 w:World}{E:List Seg}{b o i T:Nat}{cs:List Value}
def ldC [F:Fnd b E i T cs](h:St w0 E w){l:Lf}{k:l.T→PT}{v:Value}{x:l.T}(hk:k x w)(hv:nth cs o=some v:=by rfl)(hx:un2 l v=some x:=by rfl):L.load (.one l) ⟨b,o,none⟩ k w:=ldx h i F.hi hv hx hk
def ckC [F:Fnd b E i T cs](h:St w0 E w){vs:List Value}{k:PT}(hk:k w)(hv:kd vs (Vm cs o)=vs:=by rfl):L.chk ⟨b,o,none⟩ vs k w:=ckm h i F.hi hv hk
def stC [F:Fnd b E i T cs](h:St w0 E w){vs:List Value}{k:PT}(hk:∀w',St w0 (ze E i [Cl b T (yr cs o vs)]) w'→k w')(hh:QO cs o vs=true:=by rfl)(h1:Jv vs=true:=by rfl):L.store ⟨b,o,none⟩ vs k w:=stx vs h i F.hi hh h1 hk
end
end Go.Dm
