/- What is proved on the way to a statement of the seat, pressed (text AG). No conditions beyond those its theorems state. -/
import Derived.Test.YtofigcbhafkikaaKAF
import Derived.Laws.StructEq
set_option linter.all false
namespace Go.Dm
def UR{α:Type}{p:α→Bool}:∀{l:List α}{j:Nat}{x:α},l[j]? = some x→p x=true→(l.filter p)[((l.take j).filter p).length]? = some x
 | y::l,0,x,h,hp=>by simp at h;subst h;simp[hp]
 | y::l,j+1,x,h,hp=>by
  have:=UR (l:=l) (j:=j) (p:=p) (by simpa using h) hp;by_cases hy:p y=true
  ·simp[hy,this]
  ·simp[hy,this]
def Qs{α:Type}{p:α→Bool}{l:List α}{j:Nat}{x:α}(h:l[j]? = some x):((l.take (j+1)).filter p).length=((l.take j).filter p).length+if p x=true then 1 else 0:=by
 rw[List.take_add_one,h,List.filter_append,List.length_append]
 congr 1
 by_cases hp:p x=true<;>simp[hp]
section
variable {κ υ:Type}[DecidableEq κ]
end
section
variable {w0 w:World}{E E':List Seg}
def oc{x:PT}{l:List PT}(h1:x w)(h2:L.alts l w):L.alts (x::l) w:=⟨h1,h2⟩
def ob:L.alts [] w:=trivial
def St.nil(h:St w0 E w):St w0 ([]::E) w:=h.eq (by simp)
def St.again{s:Seg}(i:Nat)(hi:nth E i=some s)(h:St w0 (s::Zt E i) w):St w0 E w:=St.setN_same' i hi (St.back i hi h)
def Sbp{α:Type}(a b:List α):Prop:=∃r,(a++r).Perm b
def Sbp.refl{α:Type}(a:List α):Sbp a a:=⟨[],by simp⟩
def Sbp.trans{α:Type}{a b c:List α}(h:Sbp a b)(g:Sbp b c):Sbp a c:=by
 obtain⟨r,h⟩:=h;obtain⟨s,g⟩:=g;exact⟨r++s,by rw[←List.append_assoc];exact(h.append_right s).trans g⟩
def Sbp.perm{α:Type}{a b:List α}(h:a.Perm b):Sbp a b:=⟨[],by simpa using h⟩
def Sbp.left{α:Type}{a b:List α}(x:List α)(h:Sbp a b):Sbp (x++a) (x++b):=by
 obtain⟨r,h⟩:=h;exact⟨r,by rw[List.append_assoc];exact h.append_left x⟩
def Sbp.right{α:Type}{a b:List α}(x:List α)(h:Sbp a b):Sbp (a++x) (b++x):=by
 obtain⟨r,h⟩:=h;exact⟨r,by rw[List.append_assoc];exact(List.perm_append_comm.append_left a).trans (by rw[←List.append_assoc];exact h.append_right x)⟩
def St.sub(h:St w0 E w)(hp:Sbp E'.flatten E.flatten):St w0 E' w:=by
 obtain⟨r,hp⟩:=hp;have h2:St w0 (E'++[r]) w:=h.perm (by simpa using hp.symm);refine⟨h2.size,h2.old,h2.os,h2.out,h2.tape,λx hx=>h2.own x (by simp only[List.flatten_append,List.mem_append];exact .inl hx),?_,h2.fz⟩;have:=h2.nd;simp only[List.flatten_append,List.map_append]at this;exact(List.nodup_append.1 this).1
section
variable {κ τ:Type}[DecidableEq κ](key:τ→κ)
variable {key}
end
end
end Go.Dm
namespace Go.Dm
open Go.MapKept
section
variable {w0 w w':World}{P:Program}{κ υ:Type}[DecidableEq κ]{kt mt et ty:TypeId}{kv:κ→Value}{vv:υ→Value}{r:Nat}{m:List (κ×υ)}{s:Seg}
def MpS.chk{w:World}{E:List Seg}(K:MK P kt kv)(ht:P.underlying mt=some (.map kt et)){z:Value}(hz:∀w,(zeroValue et).run P w = .ok z w)(h:St w0 E w)(i:Nat)(hi:nth E i=some s)(hm:MpS kv vv r m s){k:κ}{v:Value}(hv:((Zn m k).map vv).getD z=v){kk:PT}(hk:kk w) :
  L.chkSem P (Instr.lookup mt (.map (some r)) (kv k) false) v kk w:=⟨by rw[MpS.get_run K ht (hz w) h i hi hm false,hv];rfl,hk⟩
end
end Go.Dm
namespace Go.Dm
def eP(b:Nat):List Value:=[.pointer (some ⟨b,0,none⟩)]
def KY:Enc eP 1:=⟨λ_=>rfl,λ_=>rfl,by decide⟩
structure Ob(τ:Type) where
 b:Nat
 x:τ
 sg:Seg
abbrev obB{τ:Type}(Q:List (Ob τ)):List Nat:=Q.map Ob.b
section
variable {w0 w:World}{E:List Seg}{τ:Type}{Q:List (Ob τ)}{i:Nat}{o:Ob τ}
def om(ho:Q[i]? = some o):(obB Q)[i]? = some o.b:=by simp[obB,ho]
def Rw.ptr{e:TypeId}{v:Sl}{s:Seg}(h:St w0 E w)(k:Nat)(hi:nth E k=some s)(hr:Rw eP e 1 v (obB Q) s){n:Int}(h0:0≤n)(ho:Q[n.toNat]? = some o){kk:Option Addr→PT}(hk:kk (some ⟨o.b,0,none⟩) w) :
  L.idx v.a n v.len 1 (λa=>L.load (.one .ptr) a kk) w:=by
 have hb:=om ho;refine Rw.ix KY hr h0 (List.getElem?_eq_some_iff.1 hb).1 λa ha=>?_;exact Rw.ld0 KY h k hi hr ha hb rfl rfl hk
end
end Go.Dm
namespace Go.Dm
section
variable {w0 w:World}{E F:List Seg}{τ:Type}{Q:List (Ob τ)}{i:Nat}{o:Ob τ}{A B c s:Seg}
end
end Go.Dm
namespace Go.Dm
end Go.Dm
namespace Go.Dm
class Fnd(b:Nat)(E:List Seg)(i:outParam Nat)(T:outParam Nat)(cs:outParam (List Value)):Prop where
 hi:nth E i=some [Cl b T cs]
instance (priority:=high) Fnd.here{b T:Nat}{cs:List Value}{E:List Seg}:Fnd b ([Cl b T cs]::E) 0 T cs:=⟨rfl⟩
instance (priority:=low) Fnd.there{b i T:Nat}{cs:List Value}{s:Seg}{E:List Seg}[F:Fnd b E i T cs]:Fnd b (s::E) (i+1) T cs:=⟨F.hi⟩
section
variable {w0 w:World}{E:List Seg}{b o i T:Nat}{cs:List Value}
def ldC [F:Fnd b E i T cs](h:St w0 E w){l:Lf}{k:l.T→PT}{v:Value}{x:l.T}(hk:k x w)(hv:nth cs o=some v:=by rfl)(hx:un2 l v=some x:=by rfl):L.load (.one l) ⟨b,o,none⟩ k w:=ldx h i F.hi hv hx hk
def laC [F:Fnd b E i T cs](h:St w0 E w){ls:List Lf}{k:HT ls→PT}{x:HT ls}(hk:k x w)(hx:Ud ls (QX cs o)=some x:=by rfl):L.load (.agg ls) ⟨b,o,none⟩ k w:=lax h i F.hi hx hk
def ckC [F:Fnd b E i T cs](h:St w0 E w){vs:List Value}{k:PT}(hk:k w)(hv:vu vs (QX cs o)=vs:=by rfl):L.chk ⟨b,o,none⟩ vs k w:=ckm h i F.hi hv hk
def stC [F:Fnd b E i T cs](h:St w0 E w){vs:List Value}{k:PT}(hk:∀w',St w0 (zp E i [Cl b T (yT cs o vs)]) w'→k w')(hh:qv cs o vs=true:=by rfl)(h1:jy vs=true:=by rfl):L.store ⟨b,o,none⟩ vs k w:=stx vs h i F.hi hh h1 hk
end
end Go.Dm
