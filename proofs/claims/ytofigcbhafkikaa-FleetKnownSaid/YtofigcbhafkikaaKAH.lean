/- What is proved on the way to a statement of the seat, pressed (text AH). No conditions beyond those its theorems state. -/
import Derived.Test.YtofigcbhafkikaaKAG
import Derived.Lib.LaidTab
import Derived.Lib.Join
import Derived.Lib.ItoaNum
import Derived.Lib.ItoaMem
import Derived.Below
set_option linter.all false
namespace Go.Dm
def zB:(∀(p:Prop)[Decidable p],(decide p=true)=p)∧(∀(p:Prop)[Decidable p],(decide p=false) = ¬p)∧(∀{α:Type}[BEq α][LawfulBEq α](a b:α),((a == b)=true)=(a=b))∧(∀{α:Type}[BEq α][LawfulBEq α](a b:α),((a != b)=true) = ¬(a=b))∧(∀{α:Type}[BEq α][LawfulBEq α](a b:α),((a == b)=false) = ¬(a=b))∧(∀{α:Type}[BEq α][LawfulBEq α](a b:α),((a != b)=false)=(a=b))∧
 (∀b:Bool,((!b)=true)=(b=false))∧(∀b:Bool,((!b)=false)=(b=true))∧(∀b:Bool,(¬(b=true))=(b=false))∧(∀b:Bool,(¬(b=false))=(b=true))∧(∀{α:Type}(a b:α),(a≠b) = ¬(a=b)):=by
 refine⟨?_,?_,?_,?_,?_,?_,?_,?_,?_,?_,?_⟩<;>intros<;>simp
end Go.Dm
namespace Go.Proofs.Ytofigcbhafkikaa
open Go.Dm
variable {w0 w:World}{E:List Seg}
def wr{n:Int}(h1: -9223372036854775808≤n)(h2:n<9223372036854775808):Wi n=n:=by unfold Wi;rw[IntKind.wrap_i64];omega
def elI:El Pr Zs zf 1 8 (I 0):=VD (by kernel_rfl) (by kernel_rfl) rfl (by decide)
def eI(n:Int):List Value:=[I n]
def ja:Enc eI 1:=⟨λ_=>rfl,λ_=>rfl,by decide⟩
def ui(p0 p1:Int)(h:0<p1):Int.tmod p0 p1=if 0≤p0∨p1∣p0 then p0%p1 else p0%p1-p1:=by
 rw[Int.tmod_eq_emod];split
 ·simp
 ·omega
end Go.Proofs.Ytofigcbhafkikaa
namespace Go.Proofs.Ytofigcbhafkikaa
open Go.Dm
attribute [local irreducible] L.load L.store L.chk L.new L.nonnil L.guard L.ite L.draw L.idx L.sem L.semR L.semU L.chkSem L.next L.call L.callV L.join L.alts L.loop L.begin L.endRound L.range
variable {w0 w:World}{E:List Seg}
def Uy{l1 l2:List Int}(hl:l1.length=l2.length):l1.take l1.length=l2.take l1.length↔l1=l2:=by rw[List.take_length,hl,List.take_length]
def Kw(h:St w0 E w){v1 v2:Sl}{l1 l2:List Int}(r1:RdE w0 E eI v1 l1)(r2:RdE w0 E eI v2 l2)(hn:l1.length<1000000000){k:Bool→PT}(hk:∀w',St w0 E w'→k (decide (l1=l2)) w') :
  L.call Pr za [SlV v1,SlV v2] (.one (.one .bool)) k w:=by
 refine zC (xZ _ _) ?_;unfold jv;have e1:=(r1 w h).len;have e2:=(r2 w h).len;refine it (λhb=>?_) (λhb=>?_)<;>(try simp only[zB]at hb)
 ·refine⟨false,rfl,?_⟩;have:decide (l1=l2)=false:=decide_eq_false (λe=>hb (by rw[e1,e2,e]));rw[←this];exact hk w h
 have hl:l1.length=l2.length:=by omega
 refine Zy (λq y w=>∃m:Nat,y=((m:Int),())∧q+m=l1.length∧l1.take m=l2.take m∧St w0 E w) l1.length ⟨0,rfl,rfl,rfl,h⟩ ?_;clear h;(try clear w);rintro q y w ⟨m,rfl,hq,hf,h⟩ again hag;dsimp only;refine it (λhc=>?_) (λhc=>?_)<;>(try simp only[zB]at hc)
 ·have hm:m<l1.length:=by omega
  have hx:l1[m]? = some l1[m]:=List.getElem?_eq_getElem hm;have hy:l2[m]? = some l2[m]:=List.getElem?_eq_getElem (by omega)
  ((try dsimp only[zp,List.cons_append,List.nil_append]at h);repeat (first | refine nn ?_ | (refine dr h ?_;clear h;intro w h) | refine ldC h ?_ | refine laC h ?_ | refine ckC h ?_ | (refine stC h ?_;clear h;intro w h;(try dsimp only[yT,zp]at h)) | rw[YN]))
  refine(r1 w h).ix ja (by omega) (by simpa using hm) λa ha=>?_;refine(r1 w h).ld0 ja ha (x:=l1[m]) (by simpa using hx) rfl rfl ?_;refine(r2 w h).ix ja (by omega) (by simp;omega) λa ha=>?_;refine(r2 w h).ld0 ja ha (x:=l2[m]) (by simpa using hy) rfl rfl ?_;refine it (λhd=>?_) (λhd=>?_)<;>(try simp only[zB]at hd)
  ·refine⟨false,rfl,?_⟩;have:decide (l1=l2)=false:=decide_eq_false (λe=>hd (by subst e;rfl));rw[←this];exact hk w h
  ·refine hag (q-1) _ _ (by omega) ⟨m+1,?_,by omega,?_,h⟩
   ·rw[wr (by omega) (by omega)];simp
   ·rw[List.take_add_one,List.take_add_one,hx,hy,hf,hd]
 ·have e:m=l1.length:=by omega
  subst e;refine⟨true,rfl,?_⟩;have:decide (l1=l2)=true:=decide_eq_true ((Uy hl).1 hf);rw[←this];exact hk w h
end Go.Proofs.Ytofigcbhafkikaa
namespace Go.Dm
class Tab(P:Program)(w:World):Prop where
 is : Lib.TabIs P w "internal/strconv.uint64pow10" .u64 Lib.pow10Tab
section
variable {w0 w:World}{E:List Seg}{P:Program}
end
section
variable {w0 w w':World}{E:List Seg}{P:Program}
end
end Go.Dm
namespace Go.Dm
variable {P:Program}{w0 w:World}{E:List Seg}
def Rw.ckf{α:Type}{enc:α→List Value}{e size:Nat}{v:Sl}{l:List α}{s:Seg}(hE:Enc enc size)(h:St w0 E w)(k:Nat)(hi:nth E k=some s)(hr:Rw enc e size v l s){i:Nat}{a:Addr}(ha:ElA v size i a){x:α}(hx:l[i]? = some x){f:Nat}{u:Value}(hu:nth (enc x) f=some u){kk:PT}(hk:kk w):L.chk (a.add f) [u] kk w:=by
 obtain⟨a0,hv,rfl⟩:=ha;refine⟨λj c hc=>?_,hk⟩
 cases j with
 | zero=>
  cases hc
  rw[yE,YN];exact hr.cell h k hi hv (xj hE hx hu)
 | succ j=>cases hc
end Go.Dm

namespace Go.Proofs
open Go.Shelf
def Try.lays189_ren:Go.Shelf.Ren:=⟨fun | 189=>56 | 125=>62 | 257=>61 | 128=>73 | 129=>74 | 294=>64 | 295=>65 | 296=>66 | 297=>67 | 298=>68 | 299=>69 | 216=>70 | 300=>71 | 301=>72 | 328=>76 | 329=>77 | 330=>78 | 331=>79 | 332=>80 | 215=>81 | 343=>82 | n=>n,fun | 28=>25 | 3=>3 | 46=>103 | 0=>0 | 51=>113 | 53=>115 | 4=>4 | 183=>106 | 182=>105 | 131=>30 | 5=>5 | 9=>9 | 218=>116 | 222=>120 | 228=>122 | 229=>123 | n=>n,fun | n=>n⟩
def Try.lays189:Go.Proofs.Lays.n189 Try.prog Try.lays189_ren:={
 mixed:=by kernel_rfl
 f125:=Try.func62.trans cS
 f128:=Try.func73.trans cS
 f129:=Try.func74.trans cS
 f189:=Try.func56.trans cS
 f215:=Try.func81.trans cS
 f216:=Try.func70.trans cS
 f257:=Try.func61.trans cS
 f294:=Try.func64.trans cS
 f295:=Try.func65.trans cS
 f296:=Try.func66.trans cS
 f297:=Try.func67.trans cS
 f298:=Try.func68.trans cS
 f299:=Try.func69.trans cS
 f300:=Try.func71.trans cS
 f301:=Try.func72.trans cS
 f328:=Try.func76.trans cS
 f329:=Try.func77.trans cS
 f330:=Try.func78.trans cS
 f331:=Try.func79.trans cS
 f332:=Try.func80.trans cS
 f343:=Try.func82.trans cS
 t0:=Try.underlying0
 a0:=Try.isAgg0
 z0:=Try.sizeOf0
 v0:=Try.zeroValue0
 t3:=Try.underlying3
 a3:=Try.isAgg3
 z3:=Try.sizeOf3
 v3:=Try.zeroValue3
 t4:=Try.underlying4
 a4:=Try.isAgg4
 z4:=Try.sizeOf4
 v4:=Try.zeroValue4
 t5:=Try.underlying5
 a5:=Try.isAgg5
 z5:=Try.sizeOf5
 v5:=Try.zeroValue5
 t9:=Try.underlying9
 a9:=Try.isAgg9
 z9:=Try.sizeOf9
 v9:=Try.zeroValue9
 t28:=Try.underlying25
 a28:=Try.isAgg25
 z28:=Try.sizeOf25
 v28:=Try.zeroValue25
 t46:=Try.underlying103
 a46:=Try.isAgg103
 z46:=Try.sizeOf103
 v46:=Try.zeroValue103
 t51:=Try.underlying113
 a51:=Try.isAgg113
 z51:=Try.sizeOf113
 v51:=Try.zeroValue113
 t53:=Try.underlying115
 a53:=Try.isAgg115
 z53:=Try.sizeOf115
 v53:=Try.zeroValue115
 t131:=Try.underlying30
 a131:=Try.isAgg30
 z131:=Try.sizeOf30
 v131:=Try.zeroValue30
 t182:=Try.underlying105
 a182:=Try.isAgg105
 z182:=Try.sizeOf105
 v182:=Try.zeroValue105
 t183:=Try.underlying106
 a183:=Try.isAgg106
 z183:=Try.sizeOf106
 v183:=Try.zeroValue106
 t218:=Try.underlying116
 a218:=Try.isAgg116
 z218:=Try.sizeOf116
 v218:=Try.zeroValue116
 t222:=Try.underlying120
 a222:=Try.isAgg120
 z222:=Try.sizeOf120
 v222:=Try.zeroValue120
 t228:=Try.underlying122
 a228:=Try.isAgg122
 z228:=Try.sizeOf122
 v228:=Try.zeroValue122
 t229:=Try.underlying123
 a229:=Try.isAgg123
 z229:=Try.sizeOf123
 v229:=Try.zeroValue123 }
open Go.Sort Go.RowKit in
def Try.slices_Sort_int(blk off cap:Nat)(zs:List Int)(w:World)(hH:Holds (Value.int .i64) w blk off zs.toArray)(hblk:blk<w.heap.size)(hsz:zs.length<4611686018427387904) :
  Calls Try.prog 56 #[.slice (some ⟨blk,off,none⟩) zs.length cap] w λe w'=>
   e = .returned (.tuple #[])∧∃n os,w'=grow (putRow (Value.int .i64) (Sort.ahead w n) blk off (zs.mergeSort λx y=>decide (x≤y)).toArray) os:=Any.slices_Sort_int Try.lays189 blk off cap zs w hH hblk hsz
end Go.Proofs
namespace Go.Proofs.Ytofigcbhafkikaa
open Go.Dm
attribute [local irreducible] L.load L.store L.chk L.new L.nonnil L.guard L.ite L.draw L.idx L.sem L.semR L.semU L.chkSem L.next L.call L.callV L.join L.alts L.loop L.begin L.endRound L.range
variable {w0 w:World}{E:List Seg}
def Jj(l:List Int):List Int:=l.mergeSort λx y=>decide (x≤y)
def jT(l:List Int):(Jj l).Perm l:=List.mergeSort_perm ..
def qu(l:List Int):(Jj l).Pairwise (· ≤·):=by
 have:=List.pairwise_mergeSort (le:=λx y:Int=>decide (x≤y)) (λa b c h1 h2=>by simp only[decide_eq_true_eq]at *;omega) (λa b=>by simp only[Bool.or_eq_true,decide_eq_true_eq];omega) l;exact this.imp λh=>by simpa using h
def Vv{l m:List Int}(h:l.Perm m):Jj l=Jj m:=
 List.Perm.eq_of_pairwise (λa b _ _ h1 h2=>by omega) (qu l) (qu m) (((jT l).trans h).trans (jT m).symm)
def Vu{l m:List Int}(h:l.Perm m)(hm:m.Pairwise (· ≤·)):Jj l=m:=
 List.Perm.eq_of_pairwise (λa b _ _ h1 h2=>by omega) (qu l) hm ((jT l).trans h)
def vG(l:List Int):(Jj l).length=l.length:=(jT l).length_eq
def kS(h:St w0 E w)(i:Nat){s:Seg}(hi:nth E i=some s){v:Sl}{l:List Int}(hr:Rw eI zf 1 v l s)(hn:l.length<1000000000){k:Unit→PT}(hk:∀s' w',Rw eI zf 1 v (Jj l) s'→St w0 (zp E i s') w'→k () w') :
  L.call Pr Yi [.slice v.a v.len v.cap] (.tup []) k w:=
 kd (encv:=Value.int .i64) (λ_=>rfl) ja (Jj l) (vG l) (λg off cap w h1 h2=>Try.slices_Sort_int g off cap l w h1 h2 (by omega)) (λp cap w=>Any.slices_Sort_int_none Try.lays189 p cap w) h i hi hr hk
def ue{a1 a2:Seg}{F:List Seg}{fv:FV}{keys:List Int}(hY:kH Pr w0 [a1,a2] fv.val keys (Value.int .i64))(h:St w0 (a1::a2::F) w)(hn:keys.length<1000000000){k:Sl→PT}
  (hk:∀seen v s w',seen.Perm keys→Rw eI zf 1 v seen s→St w0 (s::a1::a2::F) w'→k v w'):L.call Pr ZK [.slice none 0 0,fv.val] (.one (.one .slice)) k w:=by
 refine zC (jk ⟨none,0,0⟩ fv) ?_;unfold yA;refine nw h ?_;clear h;intro b1 w h;have h:=Vz (Vz h);have h:St w0 ([a1,a2]++[Cl b1 Zs [SlV ⟨none,0,0⟩]]::[]::F) w:=h.eq (by simp);refine vt (l:=.int .i64) (arg:=λx=>x) (A:=[a1,a2]) (keys:=keys) hY h (λseen G=>∃v s,G = [Cl b1 Zs [SlV v]]::s::F∧Rw eI zf 1 v seen s) (λj G=>False) ⟨_,_,rfl,Rw.nil⟩ ?_ ?_ ?_
 ·rintro seen x G X w lv lp d R hm ⟨v,s,rfl,hr⟩ h hN hE;have h:St w0 ([Rec lv lp .busy none]::[DfM d]::a1::a2::[Cl b1 Zs [SlV v]]::s::(F++X)) w:=h
  (refine ldC h ?_)
  refine nw h ?_;clear h;intro b8 w h;refine Rw.app ja elI h 5 rfl hr x rfl (by omega) (by omega) λv' s' w hr' h=>?_
  (dsimp only[zp,List.cons_append,List.nil_append]at h;refine stC h ?_;clear h;intro w h;dsimp only[yT,zp]at h)
  exact hN _ w ⟨v',s',rfl,hr'⟩ h
 ·rintro d seen G w hp ⟨v,s,rfl,hr⟩ h;have h:St w0 ([DfM d]::a1::a2::[Cl b1 Zs [SlV v]]::s::F) w:=h;refine uI ?_
  (refine ldC h ?_)
  (first | refine vp h ?_ | refine vo h ?_ | refine vm h ?_ | refine vl h ?_ | refine vk h ?_ | refine vj h ?_ | refine vi h ?_ | refine vh h ?_ | refine vg h ?_ | refine vf h ?_ | refine qY h ?_ | refine qX h ?_);clear h;intro w h
  refine⟨v,rfl,hk seen v s w hp hr ?_⟩;have h:=jz (uM (uM h));have h:=kD h;exact h
 ·rintro d j G w hf;exact hf.elim
def qT{a1 a2:Seg}{F:List Seg}{fv:FV}{keys:List Int}(hY:kH Pr w0 [a1,a2] fv.val keys (Value.int .i64))(h:St w0 (a1::a2::F) w)(hn:keys.length<1000000000){k:Sl→PT}
  (hk:∀v s w',Rw eI zf 1 v (Jj keys) s→St w0 (s::a2::F) w'→k v w'):L.call Pr ZY [fv.val] (.one (.one .slice)) k w:=by
 refine zC (JO fv) ?_;unfold YE;refine zC (Jx fv) ?_;unfold Yx;refine ue hY h hn λseen v s w hp hr h=>⟨v,rfl,?_⟩;refine kS h 0 rfl hr (by rw[hp.length_eq];exact hn) λs w hr h=>?_;rw[Vv hp]at hr;exact⟨v,rfl,hk v s w hr (QV h)⟩
def unI:Value→Int
 | .int _ n=>n
 | _=>0
abbrev KI:Int→Value:=Value.int .i64
def Uc(x:B0×Option Addr):Value:=.agg #[.string x.1,.pointer x.2]
def Yj:Pr.underlying Zv=some (.map zf zu):=by kernel_rfl
def ZO:Pr.underlying zq=some (.map zf yz):=by kernel_rfl
def JC:Pr.underlying yo=some (.map zf zf):=by kernel_rfl
def VZ:Pr.underlying zf=some (.int .i64):=by kernel_rfl
def mkI:MK Pr zf KI:=Kg VZ
def zb(w:World):(zeroValue zu).run Pr w = .ok ((E1.one .bool).val false) w:=by
 have h:(Pr.info? zu).map (·.zero)=some (some (.bool false)):=by kernel_rfl
 cases hi:Pr.info? zu with
 | none=>rw[hi]at h;cases h
 | some i=>rw[hi]at h;simp only[Option.map_some,Option.some.injEq]at h;exact zv hi h w
def zi(w:World):(zeroValue zf).run Pr w = .ok ((E1.one (.int .i64)).val (0:Int)) w:=by
 have h:(Pr.info? zf).map (·.zero)=some (some (I 0)):=by kernel_rfl
 cases hi:Pr.info? zf with
 | none=>rw[hi]at h;cases h
 | some i=>rw[hi]at h;simp only[Option.map_some,Option.some.injEq]at h;exact zv hi h w
def zo(w:World):(zeroValue yz).run Pr w = .ok ((E1.agg [.str,.ptr]).val (s_,none,())) w:=by
 have h:(Pr.info? yz).map (·.zero)=some (some (.agg #[.string s_,.pointer none])):=by kernel_rfl
 cases hi:Pr.info? yz with
 | none=>rw[hi]at h;cases h
 | some i=>rw[hi]at h;simp only[Option.map_some,Option.some.injEq]at h;exact zv hi h w
def oh(h:St w0 E w)(i:Nat){s:Seg}(hi:nth E i=some s){r:Nat}{m:List (Int×(B0×Option Addr))}(hm:MpS KI Uc r m s)(hn:m.length<1000000000){k:Sl→PT}
  (hk:∀v s' w',Rw eI zf 1 v (Jj (m.map (·.1))) s'→St w0 (s'::E) w'→k v w') :
  L.call Pr zN [.map (some r)] (.one (.one .func)) (λx5=>L.call Pr ZY [.func x5.fn x5.fs x5.cs] (.one (.one .slice)) k) w:=by
 refine zC (yf _) ?_;unfold Zg;have h:=h.front i hi;refine nw h ?_;clear h;intro c w h;refine⟨⟨.func zn,#[],#[.pointer (some ⟨c,0,none⟩)]⟩,rfl,?_⟩;have hY:kH Pr w0 [[Cl c zq [.map (some r)]],s] (.func (.func zn) #[] #[.pointer (some ⟨c,0,none⟩)]) (m.map (·.1)) KI:=by
  intro yv R J Jd F w h hJ step fin fin2;refine⟨ZV,ZW yv ⟨c,0,none⟩ ?_⟩;unfold Zc;exact ky (kv:=KI) (vv:=Uc) unI (λ_=>rfl) ZO (lk:=.int .i64) (ev:=.agg [.str,.ptr]) (λx=>x) (λ_=>rfl) (λx:B0×Option Addr=>(x.1,x.2,())) (λ_=>rfl) J Jd hm h hJ (λseen k F X w hl hJ h=>step seen k F X w (by simpa using hl) hJ h) fin fin2
 refine qT (fv:=⟨.func zn,#[],#[.pointer (some ⟨c,0,none⟩)]⟩) hY h (by simpa using hn) λv s' w hr h=>hk v s' w hr ?_;have h:=uM h;exact St.setN_same' (i+1) (E:=s'::E) hi (St.back (i+1) (E:=s'::E) hi h)
structure yu where
 st:Int
 conc:Int
 reqs:List Int
def xM(x:Int):List Int→List Int
 | []=>[x]
 | y::l=>if y<x then y::xM x l else x::y::l
structure yu.Ok(p:yu):Prop where
 pw:p.reqs.Pairwise (· < ·)
 dr:p.st=3→p.reqs≠[]
 dead:p.st=4→p.reqs = []
 few:p.reqs.length<100000000
def yJ(p:yu):yu×Int:=if p.st≠1 then(p,9)else({ p with st:=2 },0)
def Zp(p:yu):yu×Int:=if p.st≠1∧p.st≠2 then(p,9)else({ p with st:=if p.reqs = []then 4 else 3 },0)
def Za(p:yu)(id:Int):yu×Int:=
 if p.st≠2 then(p,9)else if id∈p.reqs then(p,5)else if(p.reqs.length:Int)≥p.conc then(p,8)else({ p with reqs:=xM id p.reqs },0)
def Zr(p:yu)(id:Int):yu×Int:=
 if id∈p.reqs then({ p with reqs:=p.reqs.erase id,st:=if p.st=3∧p.reqs.erase id = []then 4 else p.st },0)else(p,6)
def Xm(x:Int)(l:List Int):(xM x l).Perm (x::l):=by
 induction l with
 | nil=>exact .refl _
 | cons y l ih=>
  simp only[xM];split
  ·exact(ih.cons y).trans (.swap ..)
  ·exact .refl _
def jF{x y:Int}{l:List Int}:y∈xM x l↔y=x∨y∈l:=by
 rw[(Xm x l).mem_iff];simp
def UN{x:Int}:∀{l:List Int},l.Pairwise (· < ·)→x∉l→(xM x l).Pairwise (· < ·)
 | [],_,_=>by simp[xM]
 | y::l,h,hx=>by
  simp only[List.mem_cons,not_or]at hx;rw[List.pairwise_cons]at h;simp only[xM];split
  ·rename_i hy;rw[List.pairwise_cons];refine⟨λz hz=>?_,UN h.2 hx.2⟩;rcases jF.1 hz with rfl | hz
   ·exact hy
   ·exact h.1 z hz
  ·rename_i hy;rw[List.pairwise_cons];refine⟨λz hz=>?_,List.pairwise_cons.2 h⟩;rcases List.mem_cons.1 hz with rfl | hz
   ·omega
   ·have:=h.1 z hz;omega
def uJ(x:Int)(l:List Int):(xM x l).length=l.length+1:=by rw[(Xm x l).length_eq];rfl
def jw(m:List (Int×Bool))(reqs:List Int):Prop:=(∀p∈m,p.2=true)∧(m.map (·.1)).Perm reqs
def jw.get{m:List (Int×Bool)}{reqs:List Int}(h:jw m reqs)(id:Int):((Zn m id).map λx=>x).getD false=decide (id∈reqs):=by
 cases hg:Zn m id with
 | none=>
  have:=YQ.1 hg;rw[h.2.mem_iff]at this;simp[this]
 | some b=>
  have hm:=uC hg;have hb:=h.1 _ hm;simp only at hb;subst hb;have:id∈reqs:=h.2.mem_iff.1 (List.mem_map_of_mem (f:=(·.1)) hm);simp[this]
def jw.len{m:List (Int×Bool)}{reqs:List Int}(h:jw m reqs):m.length=reqs.length:=by
 have:=h.2.length_eq;simpa using this
def jw.put{m:List (Int×Bool)}{reqs:List Int}(h:jw m reqs){id:Int}(hn:id∉reqs):jw (Xj m id true) (xM id reqs):=by
 have hg:Zn m id=none:=YQ.2 (λhm=>hn (h.2.mem_iff.1 hm));rw[jE hg];refine⟨λp hp=>?_,?_⟩
 ·rcases List.mem_append.1 hp with hp | hp
  ·exact h.1 p hp
  ·simp at hp;subst hp;rfl
 ·rw[List.map_append];refine List.Perm.trans ?_ (Xm id reqs).symm;exact List.perm_append_comm.trans (h.2.cons id)
def Qg:∀{m:List (Int×Bool)}{k:Int},((jm m k).map (·.1)).Perm ((m.map (·.1)).erase k)
 | [],k=>by simp[jm]
 | p::m,k=>by
  simp only[jm];by_cases e:p.1=k
  ·rw[if_pos e];subst e;simp
  ·rw[if_neg e,List.map_cons,List.map_cons,List.erase_cons_tail (by simpa using e)];exact(Qg (m:=m) (k:=k)).cons _
def uD{κ υ:Type}[DecidableEq κ]:∀{m:List (κ×υ)}{k:κ}{p:κ×υ},p∈jm m k→p∈m
 | q::m,k,p,h=>by
  simp only[jm]at h;split at h
  ·exact List.mem_cons_of_mem _ h
  ·rcases List.mem_cons.1 h with rfl | h
   ·exact List.mem_cons_self ..
   ·exact List.mem_cons_of_mem _ (uD h)
def jw.take{m:List (Int×Bool)}{reqs:List Int}(h:jw m reqs)(id:Int):jw (jm m id) (reqs.erase id):=
 ⟨λp hp=>h.1 p (uD hp),Qg.trans (h.2.erase id)⟩
def jB(b:Nat)(p:yu)(s:Seg):Prop:=p.Ok∧∃r m sm,MpS KI Value.bool r m sm∧jw m p.reqs∧s = [Cl b jI [I p.st,.map (some r),I p.conc]]++sm
def Kv(h:St w0 E w){conc:Int}{k:Option Addr→PT}(hk:∀b s w',jB b ⟨1,conc,[]⟩ s→St w0 (s::E) w'→k (some ⟨b,0,none⟩) w'):L.call Pr Xi [I conc] (.one (.one .ptr)) k w:=by
 refine zC (vS _) ?_;unfold Qy;refine MpS.new h KI Value.bool λr s w hm h=>?_;refine nw h ?_;clear h;intro b w h;exact⟨_,rfl,hk b _ w ⟨⟨by simp,by simp,by simp,by simp⟩,r,[],s,hm,⟨by simp,.refl _⟩,rfl⟩ h.glue⟩
def VM(h:St w0 E w)(i:Nat){b:Nat}{p:yu}{s:Seg}(hi:nth E i=some s)(hp:jB b p s){k:Int→PT}(hk:k p.st w):L.call Pr zO [pO b] (.one (.one (.int .i64))) k w:=by
 obtain⟨ok,r,m,sm,hm,hb,rfl⟩:=hp;refine zC (XQ _) ?_;unfold Jc;have h:=(h.front i hi).split
 (refine nn ?_;refine ldC h ?_)
 exact⟨_,rfl,hk⟩
def kN(h:St w0 E w)(i:Nat){b:Nat}{p:yu}{s:Seg}(hi:nth E i=some s)(hp:jB b p s){k:Int→PT}(hk:k p.reqs.length w):L.call Pr Zh [pO b] (.one (.one (.int .i64))) k w:=by
 obtain⟨ok,r,m,sm,hm,hb,rfl⟩:=hp;refine zC (Jy _) ?_;unfold je;have h:=(h.front i hi).split
 (refine nn ?_;refine ldC h ?_)
 refine MpS.len Yj h 1 rfl hm ⟨_,rfl,?_⟩;rw[hb.len];exact hk
def oe(h:St w0 E w)(i:Nat){b:Nat}{p:yu}{s:Seg}(hi:nth E i=some s)(hp:jB b p s){k:Int→PT}(hk:∀s' w',jB b (yJ p).1 s'→St w0 (zp E i s') w'→k (yJ p).2 w') :
  L.call Pr jR [pO b] (.one (.one (.int .i64))) k w:=by
 have hp':=hp;obtain⟨ok,r,m,sm,hm,hb,rfl⟩:=hp;refine zC (uf _) ?_;unfold xW;have h:=(h.front i hi).split
 (refine nn ?_;refine ldC h ?_)
 refine it (λhc=>?_) (λhc=>?_)<;>(try simp only[zB]at hc)
 ·have e:yJ p=(p,9):=by simp only[yJ];rw[if_pos hc]
  rw[e]at hk;exact⟨_,rfl,hk _ w hp' (St.back i hi h.glue)⟩
 ·have e:yJ p=({ p with st:=2 },0):=by simp only[yJ];rw[if_neg (by simpa using hc)]
  rw[e]at hk
  (refine nn ?_;refine stC h ?_;clear h;intro w h;dsimp only[yT,zp]at h)
  exact⟨_,rfl,hk _ w ⟨⟨ok.pw,by simp,by simp,ok.few⟩,r,m,sm,hm,hb,rfl⟩ (St.back i hi h.glue)⟩
def VN{b r:Nat}{st conc:Int}{m:List (Int×Bool)}{reqs:List Int}{sm:Seg}{F:List Seg}(hm:MpS KI Value.bool r m sm)(hb:jw m reqs)(h:St w0 ([Cl b jI [I st,.map (some r),I conc]]::sm::F) w){k:Unit→PT}
  (hk:∀w',St w0 ([Cl b jI [I (if st=3∧reqs = []then 4 else st),.map (some r),I conc]]::sm::F) w'→k () w'):L.call Pr Ys [pO b] (.tup []) k w:=by
 refine zC (qV _) ?_;unfold JZ
 (refine nn ?_;refine ldC h ?_)
 refine it (λhc=>?_) (λhc=>?_)<;>(try simp only[zB]at hc)
 ·refine zC (Jy _) ?_;unfold je
  (refine nn ?_;refine ldC h ?_)
  refine MpS.len Yj h 1 rfl hm ⟨_,rfl,?_⟩;have hl:=hb.len;refine it (λhd=>?_) (λhd=>?_)<;>(try simp only[zB]at hd)
  ·have:reqs = []:=List.eq_nil_of_length_eq_zero (by omega);rw[if_pos ⟨hc,this⟩]at hk
   (refine nn ?_;refine stC h ?_;clear h;intro w h;dsimp only[yT,zp]at h)
   exact⟨(),rfl,hk w h⟩
  ·rw[if_neg (λhh=>hd (by rw[hl,hh.2];rfl))]at hk;exact⟨(),rfl,hk w h⟩
 ·rw[if_neg (λhh=>hc hh.1)]at hk;exact⟨(),rfl,hk w h⟩
def VO(h:St w0 E w)(i:Nat){b:Nat}{p:yu}{s:Seg}(hi:nth E i=some s)(hp:jB b p s){k:Int→PT}(hk:∀s' w',jB b (Zp p).1 s'→St w0 (zp E i s') w'→k (Zp p).2 w') :
  L.call Pr YA [pO b] (.one (.one (.int .i64))) k w:=by
 have hp':=hp;obtain⟨ok,r,m,sm,hm,hb,rfl⟩:=hp;refine zC (XR _) ?_;unfold Je;have h:=(h.front i hi).split;refine Yt (λz w=>¬(p.st≠1∧p.st≠2)∧St w0 ([Cl b jI [I p.st,.map (some r),I p.conc]]::sm::Zt E i) w) (λk1 hk1=>?_) (λz w ⟨hc,h⟩=>?_)
 ·(refine nn ?_;refine ldC h ?_)
  refine it (λhc=>?_) (λhc=>?_)<;>(try simp only[zB]at hc)
  ·(refine nn ?_;refine ldC h ?_)
   refine it (λhd=>?_) (λhd=>?_)<;>(try simp only[zB]at hd)
   ·have e:Zp p=(p,9):=by simp only[Zp];rw[if_pos ⟨hc,hd⟩]
    rw[e]at hk;exact⟨_,rfl,hk _ w hp' (St.back i hi h.glue)⟩
   ·exact hk1 _ w ⟨λhh=>hh.2 hd,h⟩
  ·exact hk1 _ w ⟨λhh=>hh.1 hc,h⟩
 ·have e:Zp p=({ p with st:=if p.reqs = []then 4 else 3 },0):=by simp only[Zp];rw[if_neg hc]
  rw[e]at hk
  (refine nn ?_;refine stC h ?_;clear h;intro w h;dsimp only[yT,zp]at h)
  refine VN hm hb h λw h=>⟨0,rfl,hk _ w ⟨⟨ok.pw,?_,?_,ok.few⟩,r,m,sm,hm,hb,rfl⟩ ?_⟩
  ·intro hh e;have e:p.reqs = []:=e;simp[e]at hh
  ·intro hh;apply Classical.byContradiction;intro hne;simp[hne]at hh
  ·have h:=St.back i hi h.glue;simp only[true_and]at h;exact h
def vR{a:Addr}{b r o T:Nat}{pre:List Value}{post:List Value}{m:List (Int×Bool)}{reqs:List Int}{sm:Seg}{F:List Seg}(ha:a=⟨b,pre.length,none⟩)(hm:MpS KI Value.bool r m sm)(hb:jw m reqs)
  (h:St w0 ([Cl b T (pre++ .map (some r)::post)]::sm::F) w) {id:Int} {k:Int→PT}
  (hk:∀m' sm' w',MpS KI Value.bool r m' sm'→jw m' (reqs.erase id)→St w0 ([Cl b T (pre++ .map (some r)::post)]::sm'::F) w'→k (if id∈reqs then 0 else 6) w') :
  L.call Pr yV [.pointer (some a),I id] (.one (.one (.int .i64))) k w:=by
 subst ha;have hn:nth (pre++ .map (some r)::post) (pre.length+0)=some (.map (some r)):=by rw[yw];rfl
 refine zC (xr _ _) ?_;unfold jd;refine nn ?_;rw[yd];refine ldx h 0 rfl hn rfl ?_;refine MpS.get (kv:=KI) (e:=.one .bool) (z:=false) mkI Yj zb (λx=>x) (λ_=>rfl) h 1 rfl hm ?_;rw[hb.get];refine it (λhc=>?_) (λhc=>?_)<;>(try simp only[zB]at hc)
 ·have e:reqs.erase id=reqs:=List.erase_of_not_mem (by simpa using hc);rw[e,if_neg (by simpa using hc)]at hk;exact⟨_,rfl,hk m sm w hm hb h⟩
 ·rw[if_pos (by simpa using hc)]at hk;refine nn ?_;rw[yd];refine ldx h 0 rfl hn rfl ?_;refine MpS.del (kv:=KI) mkI Yj h 1 rfl hm λsm' w hm h=>⟨_,rfl,hk _ sm' w hm (hb.take id) h⟩
def QR{l:List Int}(h:l = [])(id:Int):l.erase id = []:=by subst h;rfl
def kO(h:St w0 E w)(i:Nat){b:Nat}{p:yu}{s:Seg}(hi:nth E i=some s)(hp:jB b p s){id:Int}{k:Int→PT}(hk:∀s' w',jB b (Zr p id).1 s'→St w0 (zp E i s') w'→k (Zr p id).2 w') :
  L.call Pr Yf [pO b,I id] (.one (.one (.int .i64))) k w:=by
 obtain⟨ok,r,m,sm,hm,hb,rfl⟩:=hp;refine zC (qM _ _) ?_;unfold Jv;have h:=(h.front i hi).split;refine nn ?_;refine vR (pre:=[I p.st]) (o:=0) (post:=[I p.conc]) rfl hm hb h λm' sm' w hm hb h=>?_;refine VN hm hb h λw h=>?_;by_cases hc:id∈p.reqs
 ·rw[if_pos hc];simp only[Zr,if_pos hc]at hk;refine⟨_,rfl,hk _ w ⟨⟨ok.pw.sublist (List.erase_sublist ..),?_,?_,?_⟩,r,m',sm',hm,hb,rfl⟩ (St.back i hi h.glue)⟩
  ·intro hh e;simp only at hh e;rw[e]at hh;by_cases h3:p.st=3
   ·simp[h3]at hh
   ·simp[h3]at hh
  ·intro hh;simp only at hh ⊢;by_cases h3:p.st=3∧p.reqs.erase id = []
   ·exact h3.2
   ·rw[if_neg h3]at hh;exact QR (ok.dead hh) id
  ·have:=List.length_erase_le (a:=id) (l:=p.reqs);have:=ok.few;simp only;omega
 ·rw[if_neg hc];simp only[Zr,if_neg hc]at hk;have e:p.reqs.erase id=p.reqs:=List.erase_of_not_mem hc;rw[e]at hb h;refine⟨_,rfl,hk _ w ⟨ok,r,m',sm',hm,hb,rfl⟩ ?_⟩;have h:=St.back i hi h.glue;rw[if_neg (λhh=>ok.dr hh.1 hh.2)]at h;exact h
def kM(h:St w0 E w)(i:Nat){b:Nat}{p:yu}{s:Seg}(hi:nth E i=some s)(hp:jB b p s)(hfew:p.reqs.length<10000000){id:Int}{k:Int→PT}(hk:∀s' w',jB b (Za p id).1 s'→St w0 (zp E i s') w'→k (Za p id).2 w') :
  L.call Pr Ye [pO b,I id] (.one (.one (.int .i64))) k w:=by
 have hp':=hp;obtain⟨ok,r,m,sm,hm,hb,rfl⟩:=hp;refine zC (qL _ _) ?_;unfold Ju;have h:=(h.front i hi).split
 (refine nn ?_;refine ldC h ?_)
 refine it (λhc=>?_) (λhc=>?_)<;>(try simp only[zB]at hc)
 ·have e:Za p id=(p,9):=by simp only[Za];rw[if_pos hc]
  rw[e]at hk;exact⟨_,rfl,hk _ w hp' (St.back i hi h.glue)⟩
 (refine nn ?_)
 refine zC (xX _ _) ?_;unfold jt
 (refine nn ?_;refine ldC h ?_)
 refine MpS.get (kv:=KI) (e:=.one .bool) (z:=false) mkI Yj zb (λx=>x) (λ_=>rfl) h 1 rfl hm ?_;rw[hb.get];have hl:=hb.len;refine it (λhd=>?_) (λhd=>?_)<;>(try simp only[zB]at hd)
 ·have e:Za p id=(p,5):=by simp only[Za];rw[if_neg (by simpa using hc),if_pos hd]
  rw[e]at hk;exact⟨5,rfl,5,rfl,hk _ w hp' (St.back i hi h.glue)⟩
 (refine dr h ?_;clear h;intro w h;refine nn ?_;refine ldC h ?_)
 refine MpS.len Yj h 1 rfl hm ?_
 (refine nn ?_;rw[YN];refine ldC h ?_)
 refine it (λhe=>?_) (λhe=>?_)<;>(try simp only[zB]at he)
 ·have e:Za p id=(p,8):=by simp only[Za];rw[if_neg (by simpa using hc),if_neg hd,if_pos (by omega)]
  rw[e]at hk;exact⟨8,rfl,8,rfl,hk _ w hp' (St.back i hi h.glue)⟩
 ·have e:Za p id=({ p with reqs:=xM id p.reqs },0):=by simp only[Za];rw[if_neg (by simpa using hc),if_neg hd,if_neg (by omega)]
  rw[e]at hk
  (refine nn ?_;refine ldC h ?_)
  refine MpS.set (kv:=KI) (vv:=Value.bool) mkI Yj h 1 rfl hm true rfl λsm' w hm h=>?_;refine⟨0,rfl,0,rfl,hk _ w ⟨⟨UN ok.pw hd,?_,?_,?_⟩,r,_,sm',hm,hb.put hd,rfl⟩ (St.back i hi h.glue)⟩
  ·intro _ e2;have:=uJ id p.reqs;have e2:xM id p.reqs = []:=e2;rw[e2]at this;simp at this
  ·intro hh;simp only at hh;have:=hc;omega
  ·simp only;rw[uJ];omega
def uY(h:St w0 E w){v:Sl}{l:List Int}(r:Rd w eI v l)(hn:l.length<1000000000000)(h64:v.a=none→l = []){k:Sl→PT}
  (hk:∀(v':Sl) s' w',Rw eI zf 1 v' l s'→(v'.a=none↔v.a=none)→St w0 (s'::E) w'→k v' w'):L.call Pr ZC [SlV v] (.one (.one .slice)) k w:=by
 refine zC (jY _) ?_;unfold Yh;exact uT (K:=λv w'=>∃x,v=RT.val (.one (.one .slice)) x∧k x w') ja elI h r (by omega) hn h64 λv' s' w' h1 h2 h3=>⟨v',rfl,hk v' s' w' h1 h2 h3⟩
def Rw.nil_of{α:Type}{enc:α→List Value}{e size:Nat}{v:Sl}{l:List α}{s:Seg}(hE:Enc enc size)(hr:Rw enc e size v l s)(h:v.a=none):l = []:=by
 have:=Rw.len hE hr;unfold Rw at hr;generalize fl enc l=cs at hr
 cases hr with
 | nil=>simpa using this.symm
 | mk=>cases h
structure zF where
 id:Int
 rev:B0
 pod:yu
structure zr where
 room:Int
 last:Int
 l:List zF
structure zr.Ok(f:zr):Prop where
 pw:f.l.Pairwise (λx y=>x.id<y.id)
 rng:∀x∈f.l,0<x.id∧x.id≤f.last
 live:∀x∈f.l,x.pod.st=1∨x.pod.st=2∨x.pod.st=3
 once:f.l.Pairwise (λx y=>∀q∈x.pod.reqs,q∉y.pod.reqs)
 few:f.l.length<100000000
 lo:0≤f.last
 hi:f.last<4611686018427387904
abbrev Tr:=zF×Nat×Seg
abbrev trS(t:Tr):Seg:=t.2.2
def ent(t:Tr):Int×(B0×Option Addr):=(t.1.id,t.1.rev,some ⟨t.2.1,0,none⟩)
def yL(l:List zF)(id:Int):Option zF:=l.find? λx=>decide (x.id=id)
def zT(l:List zF)(q:Int):Option zF:=l.find? λx=>decide (q∈x.pod.reqs)
structure FlR(F:zr)(L:List Tr)(mA:List (Int×(B0×Option Addr)))(mW:List (Int×Int)):Prop where
 l:F.l=L.map (·.1)
 ps:∀t∈L,jB t.2.1 t.1.pod t.2.2
 all:mA.Perm (L.map ent)
 wth:∀q,Zn mW q=(zT F.l q).map (·.id)
abbrev flB(b:Nat)(rA rW:Nat)(F:zr):Seg:=[Cl b JY [.map (some rA),.map (some rW),I F.room,I F.last]]
def FlS(b:Nat)(F:zr)(s:Seg):Prop:=F.Ok∧∃rA rW mA mW sA sW L,MpS KI Uc rA mA sA∧MpS KI KI rW mW sW∧FlR F L mA mW∧s=flB b rA rW F++(sA++(sW++(L.map trS).flatten))
def FlR.ids{F:zr}{L:List Tr}{mA mW}(hr:FlR F L mA mW)(ok:F.Ok):L.Pairwise (λx y=>x.1.id<y.1.id):=by
 have:=ok.pw;rw[hr.l,List.pairwise_map]at this;exact this
def FlR.keys{F:zr}{L:List Tr}{mA mW}(hr:FlR F L mA mW)(ok:F.Ok):Jj (mA.map (·.1))=L.map (·.1.id):=by
 refine Vu ?_ ?_
 ·have:=hr.all.map (·.1);rw[List.map_map]at this;exact this
 ·rw[List.pairwise_map];exact(hr.ids ok).imp λh=>by omega
def FlR.len{F:zr}{L:List Tr}{mA mW}(hr:FlR F L mA mW):mA.length=F.l.length:=by rw[hr.all.length_eq,hr.l];simp
def FlR.nd{F:zr}{L:List Tr}{mA mW}(hr:FlR F L mA mW)(ok:F.Ok):(mA.map (·.1)).Nodup:=by
 have:=hr.all.map (·.1);rw[List.map_map]at this;rw[this.nodup_iff];have h:=(hr.ids ok).imp (S:=λx y=>x.1.id≠y.1.id) λh=>by omega
 exact List.pairwise_map.2 h
def FlR.get{F:zr}{L:List Tr}{mA mW}(hr:FlR F L mA mW)(ok:F.Ok){t:Tr}(ht:t∈L):Zn mA t.1.id=some (t.1.rev,some ⟨t.2.1,0,none⟩):=
 XC (hr.nd ok) (hr.all.mem_iff.2 (List.mem_map_of_mem (f:=ent) ht))
def FlR.get0{F:zr}{L:List Tr}{mA mW}(hr:FlR F L mA mW){id:Int}(h:yL F.l id=none):Zn mA id=none:=by
 refine YQ.2 λhm=>?_;have:=(hr.all.map (·.1)).mem_iff.1 hm;rw[List.map_map]at this;obtain⟨t,ht,e⟩:=List.mem_map.1 this;have e:t.1.id=id:=e;have h2:=List.find?_eq_none.1 h t.1 (by rw[hr.l];exact List.mem_map_of_mem (f:=(·.1)) ht);simp[e]at h2
def FlR.at{F:zr}{L:List Tr}{mA mW}(hr:FlR F L mA mW){id:Int}{x:zF}(h:yL F.l id=some x):∃A t B,L=A++t::B∧t.1=x∧x.id=id:=by
 have h1:=List.mem_of_find?_eq_some h;have h2:=List.find?_some h;rw[hr.l]at h1;obtain⟨t,ht,rfl⟩:=List.mem_map.1 h1;obtain⟨A,B,e⟩:=List.append_of_mem ht;exact⟨A,t,B,e,rfl,by simpa using h2⟩
def VS(h:St w0 E w){room:Int}{k:Option Addr→PT}(hk:∀b s w',FlS b ⟨room,0,[]⟩ s→St w0 (s::E) w'→k (some ⟨b,0,none⟩) w'):L.call Pr jr [I room] (.one (.one .ptr)) k w:=by
 refine zC (uZ _) ?_;unfold XN;refine MpS.new h KI Uc λr1 s1 w hm1 h=>?_;refine MpS.new h KI KI λr2 s2 w hm2 h=>?_;refine nw h ?_;clear h;intro b w h;refine⟨_,rfl,hk b _ w ⟨⟨by simp,by simp,by simp,by simp,by simp,by simp,by simp⟩,r1,r2,[],[],s1,s2,[],hm1,hm2,⟨rfl,by simp,.refl _,λq=>rfl⟩,rfl⟩ ?_⟩;have h:=Vz (Vz (uM h));exact h.eq (by simp)
def uc(h:St w0 E w)(i:Nat){b:Nat}{F:zr}{s:Seg}(hi:nth E i=some s)(hf:FlS b F s){k:Int→PT}(hk:k F.l.length w):L.call Pr zd [pO b] (.one (.one (.int .i64))) k w:=by
 obtain⟨ok,rA,rW,mA,mW,sA,sW,L,hA,hW,hr,rfl⟩:=hf;refine zC (xy _) ?_;unfold ji;have h:St w0 (flB b rA rW F::sA::sW::(L.map trS).flatten::Zt E i) w:=(h.front i hi).eq (by simp)
 (refine nn ?_;refine ldC h ?_)
 refine MpS.len ZO h 1 rfl hA ⟨_,rfl,?_⟩;rw[hr.len];exact hk
def fOf(l:List zF)(id:Int):B0:=((yL l id).map (·.rev)).getD s_
def kZ(h:St w0 E w)(i:Nat){b:Nat}{F:zr}{s:Seg}(hi:nth E i=some s)(hf:FlS b F s){id:Int}{k:B0→PT}(hk:k (fOf F.l id) w):L.call Pr zc [pO b,I id] (.one (.one .str)) k w:=by
 obtain⟨ok,rA,rW,mA,mW,sA,sW,L,hA,hW,hr,rfl⟩:=hf;refine zC (Xw _ _) ?_;unfold jM;have h:St w0 (flB b rA rW F::sA::sW::(L.map trS).flatten::Zt E i) w:=(h.front i hi).eq (by simp)
 (refine nn ?_;refine ldC h ?_)
 refine MpS.get mkI ZO zo (λx:B0×Option Addr=>(x.1,x.2,())) (λ_=>rfl) h 1 rfl hA ⟨_,rfl,?_⟩;unfold fOf at hk
 cases hfd:yL F.l id with
 | none=>rw[hfd]at hk;rw[hr.get0 hfd];exact hk
 | some x=>
  obtain⟨A,t,B,hL,rfl,hid⟩:=hr.at hfd;have hg:=hr.get ok (t:=t) (by rw[hL];simp);rw[hid]at hg;rw[hfd]at hk;rw[hg];exact hk
def kP(h:St w0 E w){p:Option Addr}{rev:B0}{k:FV→PT}(hk:∀c0 c1 w',St w0 ([Cl c1 Zz [.string rev]]::[Cl c0 zy [.pointer p]]::E) w'→
  k ⟨.func ZL,#[],#[.pointer (some ⟨c0,0,none⟩),.pointer (some ⟨c1,0,none⟩)]⟩ w'):L.call Pr ZG [.pointer p,.string rev] (.one (.one .func)) k w:=by
 refine zC (Xu _ _) ?_;unfold jK;refine nw h ?_;clear h;intro c0 w h;refine nw h ?_;clear h;intro c1 w h;exact⟨_,rfl,hk c0 c1 w h⟩
def VI(l:List Tr)(m:Nat):TT [.one (.int .i64),.one .ptr]:=match l[m]? with
 | some t=>(t.1.id,some ⟨t.2.1,0,none⟩,())
 | none=>(0,none,())
abbrev yp(rev:B0)(t:Tr):Bool:=decide (t.1.rev=rev)
def kI{c0 c1 b rA rW:Nat}{F:zr}{L:List Tr}{mA mW}{sA:Seg}{rev:B0}(ok:F.Ok)(hA:MpS KI Uc rA mA sA)(hr:FlR F L mA mW) :
  od Pr w0 [[Cl c1 Zz [.string rev]],[Cl c0 zy [.pointer (some ⟨b,0,none⟩)]],flB b rA rW F,sA]
   (.func (.func ZL) #[] #[.pointer (some ⟨c0,0,none⟩),.pointer (some ⟨c1,0,none⟩)]) (L.filter (yp rev)).length λm=>TV _ (VI (L.filter (yp rev)) m):=by
 intro yv R J Jd G w h hJ step fin fin2;have hll:L.length=F.l.length:=by rw[hr.l];simp
 have hfew:=ok.few;refine⟨xq,xu yv ⟨c0,0,none⟩ ⟨c1,0,none⟩ ?_⟩;unfold jf;have h:St w0 ([Cl c1 Zz [.string rev]]::[Cl c0 zy [.pointer (some ⟨b,0,none⟩)]]::flB b rA rW F::sA::G) w:=h
 (refine ldC h ?_;refine nn ?_;refine ldC h ?_)
 refine oh h 3 rfl hA (by rw[hr.len];omega) λv s w hrow h=>?_;rw[hr.keys ok]at hrow;have hlen:=Rw.len ja hrow;rw[List.length_map]at hlen
 refine Zy (λq y w=>∃(j:Nat)(G:List Seg),@Eq Int y.1 j∧q+j=L.length∧J ((L.take j).filter (yp rev)).length G∧
  St w0 (s::[Cl c1 Zz [.string rev]]::[Cl c0 zy [.pointer (some ⟨b,0,none⟩)]]::flB b rA rW F::sA::G) w) L.length ⟨0,G,rfl,rfl,hJ,h⟩ ?_
 clear hJ;clear h;rintro q ⟨y,⟨⟩⟩ w ⟨j,G,hy,hq,hJ,h⟩ again hag;simp only at hy;subst hy;refine it (λhb=>?_) (λhb=>?_)<;>(try simp only[zB]at hb)
 ·have hj:j<L.length:=by omega
  have hx:L[j]? = some L[j]:=List.getElem?_eq_getElem hj;have hft:=Qs (p:=yp rev) hx;refine Yt (λz w=>∃G,J ((L.take (j+1)).filter (yp rev)).length G∧St w0 (s::[Cl c1 Zz [.string rev]]::[Cl c0 zy [.pointer (some ⟨b,0,none⟩)]]::flB b rA rW F::sA::G) w) (λk8 hk8=>?_) (λz w ⟨G,hJ,h⟩=>?_)
  ·refine Rw.ix ja hrow (by omega) (by simpa using hj) λa ha=>?_;refine Rw.ld0 ja h 0 rfl hrow ha (x:=L[j].1.id) (by simp[hj]) rfl rfl ?_
   (refine ldC h ?_;refine nn ?_;refine ldC h ?_)
   refine MpS.get mkI ZO zo (λx:B0×Option Addr=>(x.1,x.2,())) (λ_=>rfl) h 4 rfl hA ?_;rw[hr.get ok (List.getElem_mem hj)];simp only[Option.map_some,Option.getD_some];refine nw h ?_;clear h;intro b16 w h
   (refine stC h ?_;clear h;intro w h;dsimp only[yT,zp]at h;refine ldC h ?_;refine ldC h ?_)
   rw[vW];refine it (λhc=>?_) (λhc=>?_)<;>(try simp only[zB]at hc)
   ·(refine ldC h ?_)
    have h:=JN h;have hp:yp rev L[j]=true:=decide_eq_true hc;rw[if_pos hp]at hft;rw[hft]at hk8;have hat:=UR (p:=yp rev) hx hp;have ea:TV _ (VI (L.filter (yp rev)) ((L.take j).filter (yp rev)).length) = [I L[j].1.id,.pointer (some ⟨L[j].2.1,0,none⟩)]:=by simp only[VI,hat];rfl
    have hlt:((L.take j).filter (yp rev)).length<(L.filter (yp rev)).length:=by
     rcases Nat.lt_or_ge ((L.take j).filter (yp rev)).length (L.filter (yp rev)).length with h | h
     ·exact h
     ·rw[List.getElem?_eq_none h]at hat;cases hat
    have step:=step _ G [s] w hlt hJ (St.toEnd (X:=[s]) (A:=[_,_,_,_]) h);simp only[ea]at step;refine cv (YI.mono step λu w' hu=>?_);rcases hu with ⟨rfl,G',h,hJ⟩ | ⟨rfl,hd⟩
    ·exact⟨true,rfl,itF rfl (hk8 () w' ⟨G',hJ,St.ofEnd (X:=[s]) (A:=[_,_,_,_]) h⟩)⟩
    ·exact⟨false,rfl,itT rfl (fin2 w' hd)⟩
   ·have h:=JN h;have hp:¬yp rev L[j]=true:=λe=>hc (of_decide_eq_true e);rw[if_neg hp]at hft;rw[Nat.add_zero]at hft;rw[hft]at hk8;exact hk8 () w ⟨G,hJ,h⟩
  ·refine hag (q-1) _ w (by omega) ⟨j+1,G,?_,by omega,hJ,h⟩;show Wi _=_;rw[wr (by omega) (by omega)];omega
 ·have e:j=L.length:=by omega
  subst e;rw[List.take_length]at hJ;exact fin G w hJ (JN h)
def Yw(h:St w0 E w)(i:Nat){Q:List Tr}(hi:nth E i=some (Q.map trS).flatten){t:Tr}(ht:t∈Q)(hp:jB t.2.1 t.1.pod t.2.2){k:Int→PT}(hk:k t.1.pod.st w) :
  L.call Pr zO [.pointer (some ⟨t.2.1,0,none⟩)] (.one (.one (.int .i64))) k w:=by
 obtain⟨A,B,rfl⟩:=List.append_of_mem ht;exact VM (h.front i hi).pick 0 rfl hp hk
def xU(h:St w0 E w)(i:Nat){Q:List Tr}(hi:nth E i=some (Q.map trS).flatten){t:Tr}(ht:t∈Q)(hp:jB t.2.1 t.1.pod t.2.2){k:Int→PT}(hk:k t.1.pod.reqs.length w) :
  L.call Pr Zh [.pointer (some ⟨t.2.1,0,none⟩)] (.one (.one (.int .i64))) k w:=by
 obtain⟨A,B,rfl⟩:=List.append_of_mem ht;exact kN (h.front i hi).pick 0 rfl hp hk
def revs(l:List zF)(rev:B0):List zF:=l.filter λx=>decide (x.rev=rev)
def FlR.revs{F:zr}{L:List Tr}{mA mW}(hr:FlR F L mA mW)(rev:B0):revs F.l rev=(L.filter (yp rev)).map (·.1):=by
 unfold Ytofigcbhafkikaa.revs;rw[hr.l,List.filter_map];rfl
def XY{l:List Tr}{m:Nat}(hm:m<l.length):VI l m=(l[m].1.id,some ⟨l[m].2.1,0,none⟩,()):=by
 simp[VI,List.getElem?_eq_getElem hm]
def qq{L:List Tr}{rev:B0}{m:Nat}(hm:m<(L.filter (yp rev)).length):(L.filter (yp rev))[m]∈L:=(List.mem_filter.1 (List.getElem_mem hm)).1
def Jk(x:zF):Bool:=decide (x.pod.st≠3)
def zU(l:List zF)(rev:B0):Nat:=((revs l rev).filter Jk).length
def og(h:St w0 E w)(i:Nat){b:Nat}{F:zr}{s:Seg}(hi:nth E i=some s)(hf:FlS b F s){rev:B0}{k:Int→PT}(hk:∀w',St w0 E w'→k (zU F.l rev) w') :
  L.call Pr Yn [pO b,.string rev] (.one (.one (.int .i64))) k w:=by
 obtain⟨ok,rA,rW,mA,mW,sA,sW,L,hA,hW,hr,rfl⟩:=hf;refine zC (Xt _ _) ?_;unfold jJ;have hll:L.length=F.l.length:=by rw[hr.l];simp
 have hfew:=ok.few;have h:St w0 (flB b rA rW F::sA::sW::(L.map trS).flatten::Zt E i) w:=(h.front i hi).eq (by simp);refine nw h ?_;clear h;intro b1 w h
 (refine stC h ?_;clear h;intro w h;dsimp only[yT,zp]at h)
 refine kP h λc0 c1 w h=>?_;have h:=jz (jz (jU (jU h)));refine JF (A:=[_,_,_,_]) (kI ok hA hr) h (λm G=>G = [Cl b1 zf [I ((((L.filter (yp rev)).take m).filter λt=>Jk t.1).length:Nat)]]::sW::(L.map trS).flatten::Zt E i) (λj G=>False) rfl ?_ ?_ ?_
 ·rintro m G X w lv lp d R hm rfl h hN hE;have hx:=List.getElem?_eq_getElem hm;have hft:=Qs (p:=λt:Tr=>Jk t.1) hx;have hlt:=List.length_filter_le (yp rev) L;have hl2:=List.length_filter_le (λt:Tr=>Jk t.1) ((L.filter (yp rev)).take m);rw[List.length_take]at hl2;have h:St w0 ([Rec lv lp .busy none]::[DfM d]::[Cl c1 Zz [.string rev]]::[Cl c0 zy [.pointer (some ⟨b,0,none⟩)]]::flB b rA rW F::sA::[Cl b1 zf [I ((((L.filter (yp rev)).take m).filter λt=>Jk t.1).length:Nat)]]::sW::(L.map trS).flatten::(Zt E i++X)) w:=h;rw[XY hm]
  (try dsimp only)
  refine Yw h 8 rfl (qq hm) (hr.ps _ (qq hm)) ?_;refine it (λhc=>?_) (λhc=>?_)<;>(try simp only[zB]at hc)
  ·have hp:Jk (L.filter (yp rev))[m].1=true:=decide_eq_true hc;rw[if_pos hp]at hft
   (refine ldC h ?_;refine stC h ?_;clear h;intro w h;dsimp only[yT,zp]at h)
   rw[wr (by omega) (by omega)]at h;refine hN _ w rfl ?_;rw[hft];exact h
  ·have hp:¬Jk (L.filter (yp rev))[m].1=true:=λe=>(of_decide_eq_true e) hc;rw[if_neg hp]at hft;refine hN _ w rfl ?_;rw[hft];exact h
 ·rintro d G w rfl h;have h:St w0 ([DfM d]::[Cl c1 Zz [.string rev]]::[Cl c0 zy [.pointer (some ⟨b,0,none⟩)]]::flB b rA rW F::sA::[Cl b1 zf [I ((((L.filter (yp rev)).take (L.filter (yp rev)).length).filter λt=>Jk t.1).length:Nat)]]::sW::(L.map trS).flatten::Zt E i) w:=h;refine uI ?_
  (refine ldC h ?_)
  (first | refine vp h ?_ | refine vo h ?_ | refine vm h ?_ | refine vl h ?_ | refine vk h ?_ | refine vj h ?_ | refine vi h ?_ | refine vh h ?_ | refine vg h ?_ | refine vf h ?_ | refine qY h ?_ | refine qX h ?_);clear h;intro w h
  rw[List.take_length];have e:zU F.l rev=((L.filter (yp rev)).filter λt=>Jk t.1).length:=by
   unfold zU;rw[hr.revs,List.filter_map,List.length_map];rfl
  refine⟨_,rfl,?_⟩;rw[←e];refine hk w (St.setN_same' i hi (St.back i hi (s':=flB b rA rW F++(sA++(sW++(L.map trS).flatten))) ?_));have h:=JN (QV (vN h));exact h.eq (by simp)
 ·rintro d j G w hf;exact hf.elim
def jO(a:Int×Int×Int)(x:zF):Int×Int×Int:=
 if x.pod.st=3 then a else if x.pod.st<a.2.1∨(x.pod.st=a.2.1∧(x.pod.reqs.length:Int)≤a.2.2)then(x.id,x.pod.st,x.pod.reqs.length)else a
def Jl(l:List zF)(rev:B0):Int:=((revs l rev).foldl jO (0,3,0)).1
def VP(h:St w0 E w)(i:Nat){b:Nat}{F:zr}{s:Seg}(hi:nth E i=some s)(hf:FlS b F s){rev:B0}{k:Int→PT}(hk:∀w',St w0 E w'→k (Jl F.l rev) w') :
  L.call Pr yG [pO b,.string rev] (.one (.one (.int .i64))) k w:=by
 obtain⟨ok,rA,rW,mA,mW,sA,sW,L,hA,hW,hr,rfl⟩:=hf;refine zC (JP _ _) ?_;unfold YF;have hll:L.length=F.l.length:=by rw[hr.l];simp
 have hfew:=ok.few;have h:St w0 (flB b rA rW F::sA::sW::(L.map trS).flatten::Zt E i) w:=(h.front i hi).eq (by simp);refine nw h ?_;clear h;intro b1 w h;refine nw h ?_;clear h;intro b2 w h;refine nw h ?_;clear h;intro b3 w h
 (refine stC h ?_;clear h;intro w h;dsimp only[yT,zp]at h;refine stC h ?_;clear h;intro w h;dsimp only[yT,zp]at h;refine stC h ?_;clear h;intro w h;dsimp only[yT,zp]at h)
 refine kP h λc0 c1 w h=>?_;have h:=jz (jz (KV (KV h)));refine JF (A:=[_,_,_,_]) (kI ok hA hr) h (λm G=>∃a:Int×Int×Int,a=(((L.filter (yp rev)).take m).map (·.1)).foldl jO (0,3,0)∧G = [Cl b3 zf [I a.2.2]]::[Cl b2 zf [I a.2.1]]::[Cl b1 zf [I a.1]]::sW::(L.map trS).flatten::Zt E i) (λj G=>False) ⟨_,rfl,rfl⟩ ?_ ?_ ?_
 ·rintro m G X w lv lp d R hm ⟨⟨a1,a2,a3⟩,ha,rfl⟩ h hN hE;have hx:=List.getElem?_eq_getElem hm;have hft:jO (a1,a2,a3) (L.filter (yp rev))[m].1=(((L.filter (yp rev)).take (m+1)).map (·.1)).foldl jO (0,3,0):=by
   rw[List.take_add_one,hx,List.map_append,List.foldl_append,←ha];rfl
  have h:St w0 ([Rec lv lp .busy none]::[DfM d]::[Cl c1 Zz [.string rev]]::[Cl c0 zy [.pointer (some ⟨b,0,none⟩)]]::flB b rA rW F::sA::[Cl b3 zf [I a3]]::[Cl b2 zf [I a2]]::[Cl b1 zf [I a1]]::sW::(L.map trS).flatten::(Zt E i++X)) w:=h;rw[XY hm]
  (try dsimp only)
  have hmem:=qq hm;have hps:=hr.ps _ hmem;refine Yw h 10 rfl hmem hps ?_;refine it (λhc=>?_) (λhc=>?_)<;>(try simp only[zB]at hc)
  ·simp only[jO]at hft;rw[if_pos hc]at hft;exact hN _ w ⟨_,hft,rfl⟩ h
  simp only[jO]at hft;rw[if_neg hc]at hft
  (refine dr h ?_;clear h;intro w h;refine ldC h ?_)
  refine Yw h 10 rfl hmem hps ?_
  (refine ckC h ?_)
  refine it (λhd=>?_) (λhd=>?_)<;>(try simp only[zB]at hd)
  ·rw[if_pos (.inl hd)]at hft;refine Yw h 10 rfl hmem hps ?_;refine xU h 10 rfl hmem hps ?_
   (refine stC h ?_;clear h;intro w h;dsimp only[yT,zp]at h;refine stC h ?_;clear h;intro w h;dsimp only[yT,zp]at h;refine stC h ?_;clear h;intro w h;dsimp only[yT,zp]at h)
   exact hN _ w ⟨_,hft,rfl⟩ h
  (refine ldC h ?_)
  refine Yw h 10 rfl hmem hps ?_
  (refine ckC h ?_)
  refine it (λhe=>?_) (λhe=>?_)<;>(try simp only[zB]at he)
  ·(refine ldC h ?_)
   refine xU h 10 rfl hmem hps ?_
   (refine ckC h ?_)
   refine it (λhg=>?_) (λhg=>?_)<;>(try simp only[zB]at hg)
   ·rw[if_pos (.inr ⟨he,hg⟩)]at hft;refine Yw h 10 rfl hmem hps ?_;refine xU h 10 rfl hmem hps ?_
    (refine stC h ?_;clear h;intro w h;dsimp only[yT,zp]at h;refine stC h ?_;clear h;intro w h;dsimp only[yT,zp]at h;refine stC h ?_;clear h;intro w h;dsimp only[yT,zp]at h)
    exact hN _ w ⟨_,hft,rfl⟩ h
   ·rw[if_neg (λhh=>hh.elim hd λhh=>hg hh.2)]at hft;exact hN _ w ⟨_,hft,rfl⟩ h
  ·rw[if_neg (λhh=>hh.elim hd λhh=>he hh.1)]at hft;exact hN _ w ⟨_,hft,rfl⟩ h
 ·rintro d G w ⟨a,ha,rfl⟩ h;have h:St w0 ([DfM d]::[Cl c1 Zz [.string rev]]::[Cl c0 zy [.pointer (some ⟨b,0,none⟩)]]::flB b rA rW F::sA::[Cl b3 zf [I a.2.2]]::[Cl b2 zf [I a.2.1]]::[Cl b1 zf [I a.1]]::sW::(L.map trS).flatten::Zt E i) w:=h;refine uI ?_
  (refine ldC h ?_)
  (first | refine vp h ?_ | refine vo h ?_ | refine vm h ?_ | refine vl h ?_ | refine vk h ?_ | refine vj h ?_ | refine vi h ?_ | refine vh h ?_ | refine vg h ?_ | refine vf h ?_ | refine qY h ?_ | refine qX h ?_);clear h;intro w h
  rw[List.take_length]at ha;have e:Jl F.l rev=a.1:=by unfold Jl;rw[hr.revs,ha]
  refine⟨_,rfl,?_⟩;rw[←e];refine hk w (St.setN_same' i hi (St.back i hi (s':=flB b rA rW F++(sA++(sW++(L.map trS).flatten))) ?_));have h:=JN (QV (vN (oa (KZ h))));exact h.eq (by simp)
 ·rintro d j G w hf;exact hf.elim
def eK(x:Int×Int×Int):List Value:=[I x.1,I x.2.1,I x.2.2]
def qS:Enc eK 3:=⟨λ_=>rfl,λ_=>rfl,by decide⟩
def elK:El Pr zP ZR 3 24 (.agg #[I 0,I 0,I 0]):=VD (by kernel_rfl) (by kernel_rfl) rfl (by decide)
def VU(h:St w0 E w){v:Sl}{l:List (Int×Int×Int)}(r:Rd w eK v l)(hn:l.length<1000000000)(h64:v.a=none→l = []){k:Sl→PT}
  (hk:∀(v':Sl) s' w',Rw eK ZR 3 v' l s'→St w0 (s'::E) w'→k v' w'):L.call Pr zW [SlV v] (.one (.one .slice)) k w:=by
 refine zC (yI _) ?_;unfold ZA;exact uT (K:=λv w'=>∃x,v=RT.val (.one (.one .slice)) x∧k x w') qS elK h r (by omega) (by omega) h64 λv' s' w' h1 h2 h3=>⟨v',rfl,hk v' s' w' h1 h3⟩
def QN(x:zF):Int×Int×Int:=(x.id,x.pod.st,x.pod.reqs.length)
def XH(l:List zF)(rev:B0):List (Int×Int×Int):=(revs l rev).map QN
def UY(h:St w0 E w)(i:Nat){b:Nat}{F:zr}{s:Seg}(hi:nth E i=some s)(hf:FlS b F s){rev:B0}{k:Sl→PT}(hk:∀v s' w',Rw eK ZR 3 v (XH F.l rev) s'→St w0 (s'::E) w'→k v w') :
  L.call Pr yg [pO b,.string rev] (.one (.one .slice)) k w:=by
 obtain⟨ok,rA,rW,mA,mW,sA,sW,L,hA,hW,hr,rfl⟩:=hf;refine zC (xx _ _) ?_;unfold jh;have hll:L.length=F.l.length:=by rw[hr.l];simp
 have hfew:=ok.few;have hlt:=List.length_filter_le (yp rev) L;have h:St w0 (flB b rA rW F::sA::sW::(L.map trS).flatten::Zt E i) w:=(h.front i hi).eq (by simp);refine nw h ?_;clear h;intro b1 w h;refine kP h λc0 c1 w h=>?_;have h:=jz (jz (jU (jU h)));have h:St w0 ([[Cl c1 Zz [.string rev]],[Cl c0 zy [.pointer (some ⟨b,0,none⟩)]],flB b rA rW F,sA]++[Cl b1 zP [SlV ⟨none,0,0⟩]]::[]::sW::(L.map trS).flatten::Zt E i) w:=h.eq (by simp);refine JF (A:=[_,_,_,_]) (kI ok hA hr) h (λm G=>∃v sv,Rw eK ZR 3 v (((L.filter (yp rev)).take m).map λt=>QN t.1) sv∧G = [Cl b1 zP [SlV v]]::sv::sW::(L.map trS).flatten::Zt E i) (λj G=>False) ⟨_,_,Rw.nil,rfl⟩ ?_ ?_ ?_
 ·rintro m G X w lv lp d R hm ⟨v,sv,hv,rfl⟩ h hN hE;have hx:=List.getElem?_eq_getElem hm;have h:St w0 ([Rec lv lp .busy none]::[DfM d]::[Cl c1 Zz [.string rev]]::[Cl c0 zy [.pointer (some ⟨b,0,none⟩)]]::flB b rA rW F::sA::[Cl b1 zP [SlV v]]::sv::sW::(L.map trS).flatten::(Zt E i++X)) w:=h;rw[XY hm]
  (try dsimp only)
  have hmem:=qq hm;have hps:=hr.ps _ hmem
  (refine dr h ?_;clear h;intro w h;refine ldC h ?_)
  refine Yw h 9 rfl hmem hps ?_
  (refine ckC h ?_)
  refine xU h 9 rfl hmem hps ?_
  (refine ckC h ?_)
  refine nw h ?_;clear h;intro b11 w h
  (refine ckC h ?_)
  refine Rw.app qS elK h 7 rfl hv (QN (L.filter (yp rev))[m].1) rfl (by simp;omega) (by simp;omega) λv' s' w hv h=>?_
  (dsimp only[zp,List.cons_append,List.nil_append]at h;refine stC h ?_;clear h;intro w h;dsimp only[yT,zp]at h)
  refine hN _ w ⟨v',s',?_,rfl⟩ h;rw[List.take_add_one,hx,List.map_append];exact hv
 ·rintro d G w ⟨v,sv,hv,rfl⟩ h;have h:St w0 ([DfM d]::[Cl c1 Zz [.string rev]]::[Cl c0 zy [.pointer (some ⟨b,0,none⟩)]]::flB b rA rW F::sA::[Cl b1 zP [SlV v]]::sv::sW::(L.map trS).flatten::Zt E i) w:=h;rw[List.take_length]at hv;have e:XH F.l rev=(L.filter (yp rev)).map λt=>QN t.1:=by unfold XH;rw[hr.revs,List.map_map];rfl
  rw[←e]at hv;have hle:(XH F.l rev).length≤L.length:=by rw[e,List.length_map];exact hlt
  refine uI ?_
  (refine ldC h ?_)
  refine VU h (hv.rd qS h 6 rfl) (by omega) (Rw.nil_of qS hv) λv' s' w hv' h=>?_
  (first | refine vp h ?_ | refine vo h ?_ | refine vm h ?_ | refine vl h ?_ | refine vk h ?_ | refine vj h ?_ | refine vi h ?_ | refine vh h ?_ | refine vg h ?_ | refine vf h ?_ | refine qY h ?_ | refine qX h ?_);clear h;intro w h
  refine⟨_,rfl,hk v' s' w hv' ?_⟩;have h:=QV (kE (oa (KZ h)));have h:=jU (jU (jU (jU h)));have h:=St.back (i+1) (E:=s'::E) hi (s':=flB b rA rW F++(sA++(sW++(L.map trS).flatten))) (h.eq (by simp[Zt]));exact St.setN_same' (i+1) (E:=s'::E) hi h
 ·rintro d j G w hf;exact hf.elim
def yD(l:List zF)(id:Int)(g:yu→yu):List zF:=l.filterMap λx=>if x.id=id then(if(g x.pod).st=4 then none else some { x with pod:=g x.pod })else some x
def qA{l:List zF}{id:Int}{g:yu→yu}(h:∀y∈l,y.id≠id):yD l id g=l:=by
 unfold yD
 induction l with
 | nil=>rfl
 | cons y l ih=>
  rw[List.filterMap_cons,if_neg (h y (by simp))];simp only;rw[ih λz hz=>h z (by simp[hz])]
def JJ{A B:List zF}{x:zF}{g:yu→yu}(h:(A++x::B).Pairwise (λx y=>x.id<y.id)):yD (A++x::B) x.id g=A++((if(g x.pod).st=4 then []else [{ x with pod:=g x.pod }])++B):=by
 rw[List.pairwise_append,List.pairwise_cons]at h;have hA:yD A x.id g=A:=qA λy hy=>by have:=h.2.2 y hy x (by simp);omega
 have hB:yD B x.id g=B:=qA λy hy=>by have:=h.2.1.1 y hy;omega
 unfold yD at *
 rw[List.filterMap_append,hA,List.filterMap_cons,if_pos rfl]
 congr 1
 split<;>rename_i hc
 ·split at hc
  ·rename_i h4;rw[if_pos h4,hB];rfl
  ·cases hc
 ·split at hc
  ·cases hc
  ·rename_i h4;cases hc;rw[if_neg h4,hB];rfl
def Yp{l:List zF}{id:Int}{x:zF}(h:yL l id=some x):x∈l∧x.id=id:=⟨List.mem_of_find?_eq_some h,by simpa using List.find?_some h⟩
def jH{l:List zF}(pw:l.Pairwise (λx y=>x.id<y.id)){x:zF}(hx:x∈l):yL l x.id=some x:=by
 unfold yL
 induction l with
 | nil=>simp at hx
 | cons y l ih=>
  rw[List.pairwise_cons]at pw;rcases List.mem_cons.1 hx with rfl | hx
  ·simp
  ·have:=pw.1 x hx;rw[List.find?_cons_of_neg (by simp;omega)];exact ih pw.2 hx
def js{l:List zF}{q:Int}(h:zT l q=none):∀x∈l,q∉x.pod.reqs:=λx hx=>by simpa using List.find?_eq_none.1 h x hx
def zr.Ok.upd{F:zr}(ok:F.Ok){id:Int}{x:zF}(hx:yL F.l id=some x)(g:yu→yu)(hst:(g x.pod).st=1∨(g x.pod).st=2∨(g x.pod).st=3∨(g x.pod).st=4)
  (hq:∀q∈(g x.pod).reqs,q∈x.pod.reqs∨zT F.l q=none):({ F with l:=yD F.l id g }:zr).Ok:=by
 obtain⟨hm,rfl⟩:=Yp hx;obtain⟨A,B,hl⟩:=List.append_of_mem hm;have pw:=ok.pw;have rng:=ok.rng;have live:=ok.live;have once:=ok.once;have few:=ok.few;have hno:∀q,zT F.l q=none→∀y∈A++x::B,q∉y.pod.reqs:=λq h=>by rw[hl]at h;exact js h
 rw[hl]at pw rng live once few;have e:yD F.l x.id g=A++((if(g x.pod).st=4 then []else [{ x with pod:=g x.pod }])++B):=by rw[hl];exact JJ pw
 by_cases h4:(g x.pod).st=4
 ·rw[if_pos h4,List.nil_append]at e;have hs:(A++B).Sublist (A++x::B):=List.Sublist.append (List.Sublist.refl _) (List.sublist_cons_self ..);refine⟨?_,?_,?_,?_,?_,ok.lo,ok.hi⟩
  ·rw[show({ F with l:=yD F.l x.id g }:zr).l=A++B from e];exact pw.sublist hs
  ·rw[show({ F with l:=yD F.l x.id g }:zr).l=A++B from e];exact λy hy=>rng y (hs.subset hy)
  ·rw[show({ F with l:=yD F.l x.id g }:zr).l=A++B from e];exact λy hy=>live y (hs.subset hy)
  ·rw[show({ F with l:=yD F.l x.id g }:zr).l=A++B from e];exact once.sublist hs
  ·rw[show({ F with l:=yD F.l x.id g }:zr).l=A++B from e];exact Nat.lt_of_le_of_lt hs.length_le few
 ·rw[if_neg h4,List.singleton_append]at e;have e:({ F with l:=yD F.l x.id g }:zr).l=A++ { x with pod:=g x.pod } :: B:=e;refine⟨?_,?_,?_,?_,?_,ok.lo,ok.hi⟩
  ·rw[e];rw[List.pairwise_append,List.pairwise_cons]at pw ⊢;exact⟨pw.1,pw.2.1,λa ha b hb=>by
    rcases List.mem_cons.1 hb with rfl | hb
    ·exact pw.2.2 a ha x (by simp)
    ·exact pw.2.2 a ha b (by simp[hb])⟩
  ·rw[e];intro y hy;rcases List.mem_append.1 hy with hy | hy
   ·exact rng y (by simp[hy])
   ·rcases List.mem_cons.1 hy with rfl | hy
    ·exact rng x (by simp)
    ·exact rng y (by simp[hy])
  ·rw[e];intro y hy;rcases List.mem_append.1 hy with hy | hy
   ·exact live y (by simp[hy])
   ·rcases List.mem_cons.1 hy with rfl | hy
    ·simp only;omega
    ·exact live y (by simp[hy])
  ·rw[e];rw[List.pairwise_append,List.pairwise_cons]at once ⊢;refine⟨once.1,⟨λb hb q hq1 hq2=>?_,once.2.1.2⟩,λa ha b hb q hq1 hq2=>?_⟩
   ·rcases hq q hq1 with h | h
    ·exact once.2.1.1 b hb q h hq2
    ·exact hno q h b (by simp[hb]) hq2
   ·rcases List.mem_cons.1 hb with rfl | hb
    ·rcases hq q hq2 with h | h
     ·exact once.2.2 a ha x (by simp) q hq1 h
     ·exact hno q h a (by simp[ha]) hq1
    ·exact once.2.2 a ha b (by simp[hb]) q hq1 hq2
  ·rw[e];simp only[List.length_append,List.length_cons]at few ⊢;exact few
def uE:∀{m:List (Int×(B0×Option Addr))}{k:Int},(m.map (·.1)).Nodup→jm m k=m.filter λp=>decide (p.1≠k)
 | [],k,_=>rfl
 | p::m,k,h=>by
  rw[List.map_cons,List.nodup_cons]at h;simp only[jm];by_cases e:p.1=k
  ·rw[if_pos e,List.filter_cons_of_neg (by simp[e])]
   symm
   rw[List.filter_eq_self];intro y hy;have:y.1≠k:=λe2=>h.1 (by rw[e,←e2];exact List.mem_map_of_mem (f:=(·.1)) hy);simpa using this
  ·rw[if_neg e,List.filter_cons_of_pos (by simpa using e),uE h.2]
def FlR.upd{F:zr}{A B:List Tr}{t:Tr}{mA mW mW'}(hr:FlR F (A++t::B) mA mW)(ok:F.Ok)(g:yu→yu){s':Seg}(hp:jB t.2.1 (g t.1.pod) s')(h4:(g t.1.pod).st≠4)
  (hW:∀q,Zn mW' q=(zT (yD F.l t.1.id g) q).map (·.id)):FlR { F with l:=yD F.l t.1.id g } (A++({ t.1 with pod:=g t.1.pod },t.2.1,s')::B) mA mW':=by
 have pw:=ok.pw;rw[hr.l,List.map_append,List.map_cons]at pw;refine⟨?_,?_,?_,hW⟩
 ·show yD F.l t.1.id g=_;rw[hr.l,List.map_append,List.map_cons,JJ pw,if_neg h4];simp
 ·intro y hy;rcases List.mem_append.1 hy with hy | hy
  ·exact hr.ps y (by simp[hy])
  ·rcases List.mem_cons.1 hy with rfl | hy
   ·exact hp
   ·exact hr.ps y (by simp[hy])
 ·have:=hr.all;simp only[List.map_append,List.map_cons]at this ⊢;exact this
def FlR.del{F:zr}{A B:List Tr}{t:Tr}{mA mW mW'}(hr:FlR F (A++t::B) mA mW)(ok:F.Ok)(g:yu→yu)(h4:(g t.1.pod).st=4)
  (hW:∀q,Zn mW' q=(zT (yD F.l t.1.id g) q).map (·.id)):FlR { F with l:=yD F.l t.1.id g } (A++B) (jm mA t.1.id) mW':=by
 have pw:=ok.pw;have ids:=hr.ids ok;rw[hr.l,List.map_append,List.map_cons]at pw;refine⟨?_,?_,?_,hW⟩
 ·show yD F.l t.1.id g=_;rw[hr.l,List.map_append,List.map_cons,JJ pw,if_pos h4];simp
 ·intro y hy;rcases List.mem_append.1 hy with hy | hy
  ·exact hr.ps y (by simp[hy])
  ·exact hr.ps y (by simp[hy])
 ·rw[uE (hr.nd ok)];refine(hr.all.filter _).trans ?_;rw[List.pairwise_append,List.pairwise_cons]at ids;rw[List.map_append,List.map_cons,List.filter_append,List.filter_cons_of_neg (by simp[ent]),List.map_append];have fa:∀{l:List Tr},(∀y∈l,y.1.id≠t.1.id)→(l.map ent).filter (λp=>decide (p.1≠t.1.id))=l.map ent:=λ{l} h=>by
   rw[List.filter_eq_self];intro p hp;obtain⟨y,hy,rfl⟩:=List.mem_map.1 hp;exact decide_eq_true (h y hy)
  rw[fa (λy hy=>by have:=ids.2.2 y hy t (by simp);omega),fa (λy hy=>by have:=ids.2.1.1 y hy;omega)]
def qz{l:List zF}(pw:l.Pairwise (λx y=>x.id<y.id)){x:zF}(hx:x∈l){g:yu→yu}(hrq:(g x.pod).reqs=x.pod.reqs)(h4:(g x.pod).st=4→x.pod.reqs = [])(q:Int) :
  (zT (yD l x.id g) q).map (·.id)=(zT l q).map (·.id):=by
 obtain⟨A,B,rfl⟩:=List.append_of_mem hx;rw[JJ pw];unfold zT;simp only[List.find?_append]
 cases List.find? (λx=>decide (q∈x.pod.reqs)) A with
 | some y=>rfl
 | none=>
  simp only[Option.none_or];by_cases h:(g x.pod).st=4
  ·rw[if_pos h,List.find?_nil,Option.none_or,List.find?_cons_of_neg (by simp[h4 h])]
  ·rw[if_neg h];by_cases hq:q∈x.pod.reqs
   ·rw[List.find?_cons_of_pos (by simp[hrq,hq]),List.find?_cons_of_pos (by simp[hq])];rfl
   ·rw[List.find?_cons_of_neg (by simp[hrq,hq]),List.find?_cons_of_neg (by simp[hq]),List.find?_nil,Option.none_or]
def VQ{b rA rW:Nat}{F:zr}{A B:List Tr}{t:Tr}{mA:List (Int×(B0×Option Addr))}{sA sW:Seg}{D:List Seg}{rev:B0}(h:St w0 (flB b rA rW F::sA::sW::((A++t::B).map trS).flatten::D) w)
  (hA:MpS KI Uc rA mA sA) (hg:Zn mA t.1.id=some (rev,some ⟨t.2.1,0,none⟩)) (hp:jB t.2.1 t.1.pod t.2.2) {k:Unit→PT} (hk1:t.1.pod.st≠4→k () w)
  (hk2:t.1.pod.st=4→∀sA' w',MpS KI Uc rA (jm mA t.1.id) sA'→St w0 (flB b rA rW F::sA'::sW::((A++B).map trS).flatten::D) w'→k () w') :
  L.call Pr yr [pO b,I t.1.id] (.tup []) k w:=by
 refine zC (xY _ _) ?_;unfold ju
 (refine nn ?_;refine ldC h ?_)
 refine MpS.get mkI ZO zo (λx:B0×Option Addr=>(x.1,x.2,())) (λ_=>rfl) h 1 rfl hA ?_;rw[hg];simp only[Option.map_some,Option.getD_some];refine Yw h 3 rfl (t:=t) (by simp) hp ?_;refine it (λhc=>?_) (λhc=>?_)<;>(try simp only[zB]at hc)
 ·(refine nn ?_;refine ldC h ?_)
  refine MpS.del mkI ZO h 1 rfl hA λsA' w hA' h=>⟨(),rfl,hk2 hc sA' w hA' ?_⟩;have h:St w0 (flB b rA rW F::sA'::sW::((A++t::B).map trS).flatten::D) w:=h;have h:=jz h;have h:=h.pick;have h:=JN h;have h:=jz (jz (jz h));exact h
 ·exact⟨(),rfl,hk1 hc⟩
def kY(h:St w0 E w)(i:Nat){b:Nat}{F:zr}{s:Seg}(hi:nth E i=some s)(hf:FlS b F s){id:Int}{k:Int→PT}
  (hk0:yL F.l id=none→∀w',St w0 E w'→k 6 w')
  (hk1:∀x,yL F.l id=some x→∀s' w',FlS b { F with l:=yD F.l id λp=>(yJ p).1 } s'→St w0 (zp E i s') w'→k (yJ x.pod).2 w') :
  L.call Pr ZH [pO b,I id] (.one (.one (.int .i64))) k w:=by
 obtain⟨ok,rA,rW,mA,mW,sA,sW,L,hA,hW,hr,rfl⟩:=hf;refine zC (Xv _ _) ?_;unfold jL;have h:St w0 (flB b rA rW F::sA::sW::(L.map trS).flatten::Zt E i) w:=(h.front i hi).eq (by simp)
 (refine nn ?_;refine ldC h ?_)
 refine MpS.get2 mkI ZO zo (λx:B0×Option Addr=>(x.1,x.2,())) (λ_=>rfl) h 1 rfl hA ?_
 cases hfd:yL F.l id with
 | none=>
  rw[hr.get0 hfd];simp only[Option.map_none,Option.getD_none,Option.isSome_none];refine nw h ?_;clear h;intro b4 w h
  (refine stC h ?_;clear h;intro w h;dsimp only[yT,zp]at h)
  refine it (λhc=>?_) (λhc=>?_)<;>(try simp only[zB]at hc)
  ·refine⟨_,rfl,hk0 hfd w (St.setN_same' i hi (St.back i hi (s':=flB b rA rW F++(sA++(sW++(L.map trS).flatten))) ?_))⟩;have h:=JN h;exact h.eq (by simp)
  ·cases hc
 | some x=>
  obtain⟨A,t,B,rfl,rfl,hid⟩:=hr.at hfd;have hg:=hr.get ok (t:=t) (by simp);have hp:=hr.ps t (by simp);rw[hid]at hg;rw[hg];simp only[Option.map_some,Option.getD_some,Option.isSome_some];refine nw h ?_;clear h;intro b4 w h
  (refine stC h ?_;clear h;intro w h;dsimp only[yT,zp]at h)
  refine it (λhc=>?_) (λhc=>?_)<;>(try simp only[zB]at hc)
  ·cases hc
  (refine ldC h ?_)
  have h:=JN h;have h:=jz h;have h:=h.pick;refine oe h 0 rfl hp λs' w hp' h=>⟨_,rfl,?_⟩;have h:St w0 (trS ({ t.1 with pod:=(yJ t.1.pod).1 },t.2.1,s')::((A++B).map trS).flatten::flB b rA rW F::sA::sW::Zt E i) w:=h;have h:=h.place;have hst:=ok.live t.1 (Yp hfd).1;have h4:(yJ t.1.pod).1.st≠4:=by unfold yJ;split<;>simp<;>omega
  have hrq:(yJ t.1.pod).1.reqs=t.1.pod.reqs:=by unfold yJ;split<;>rfl
  refine hk1 _ hfd (flB b rA rW { F with l:=yD F.l id λp=>(yJ p).1 } ++ (sA++(sW++((A++({ t.1 with pod:=(yJ t.1.pod).1 },t.2.1,s')::B).map trS).flatten))) w ⟨?_,rA,rW,mA,mW,sA,sW,_,hA,hW,?_,rfl⟩ (St.back i hi ?_)
  ·refine ok.upd hfd _ ?_ λq hq=>.inl (by rw[←hrq];exact hq);unfold yJ;split<;>simp<;>omega
  ·subst hid;refine hr.upd ok (λp=>(yJ p).1) hp' h4 λq=>?_;rw[hr.wth];rw[qz ok.pw (Yp hfd).1 hrq (λe=>absurd e h4)]
  ·have h:=jz (jz (jz h));exact h.eq (by simp)
def YY(rev:B0)(conc:Int)(F:zr):zr:={ F with l:=F.l++[⟨F.last+1,rev,⟨1,conc,[]⟩⟩],last:=F.last+1 }
def grow(rev:B0)(conc:Int):Nat→zr→zr
 | 0,F=>F
 | n+1,F=>YY rev conc (grow rev conc n F)
def Jp(rev:B0)(F:zr):zr:={ F with l:=yD F.l (Jl F.l rev) λp=>(Zp p).1 }
def Xe(rev:B0):Nat→zr→zr×List Int
 | 0,F=>(F,[])
 | n+1,F=>((Xe rev n (Jp rev F)).1,Jl F.l rev::(Xe rev n (Jp rev F)).2)
def jG(F:zr)(rev:B0)(want:Int):Nat:=(min (want-zU F.l rev) (F.room-F.l.length)).toNat
def jo(F:zr)(rev:B0)(want:Int):Nat:=((zU F.l rev:Int)-max want 0).toNat
def Jm(F:zr)(rev:B0)(conc want:Int):zr:=grow rev conc (jG F rev want) F
def XI(F:zr)(rev:B0)(want:Int):List Int:=(List.range (jG F rev want)).map λj:Nat=>F.last+1+(j:Int)
def Yo(F:zr)(rev:B0)(conc want:Int):zr×List Int:=Xe rev (jo (Jm F rev conc want) rev want) (Jm F rev conc want)
section
variable {F:zr}{rev:B0}{conc:Int}
def vK(n:Nat):(grow rev conc n F).last=F.last+n:=by
 induction n with
 | zero=>simp[grow]
 | succ n ih=>simp only[grow,YY,ih];omega
def vJ(n:Nat):(grow rev conc n F).room=F.room:=by
 induction n with
 | zero=>rfl
 | succ n ih=>simp only[grow,YY,ih]
def uL(n:Nat):(grow rev conc n F).l.length=F.l.length+n:=by
 induction n with
 | zero=>rfl
 | succ n ih=>simp only[grow,YY,List.length_append,ih,List.length_singleton];omega
def vZ(a b:List zF):revs (a++b) rev=revs a rev++revs b rev:=List.filter_append ..
def YZ(a b:List zF):zU (a++b) rev=zU a rev+zU b rev:=by
 unfold zU;rw[vZ,List.filter_append,List.length_append]
def Xp(l:List zF):zU l rev≤l.length:=Nat.le_trans (List.length_filter_le ..) (List.length_filter_le ..)
def Uv(n:Nat):zU (grow rev conc n F).l rev=zU F.l rev+n:=by
 induction n with
 | zero=>rfl
 | succ n ih=>
  simp only[grow,YY];rw[YZ,ih];have:zU [(⟨(grow rev conc n F).last+1,rev,⟨1,conc,[]⟩⟩:zF)] rev=1:=by simp[zU,revs,Jk]
  rw[this];rfl
def Vy(ok:F.Ok)(h1:F.l.length+1<100000000)(h2:F.last+1<4611686018427387904):(YY rev conc F).Ok:=by
 have lo:=ok.lo;refine⟨?_,?_,?_,?_,?_,?_,h2⟩
 ·simp only[YY,List.pairwise_append,List.pairwise_singleton,List.mem_singleton];exact⟨ok.pw,trivial,λa ha b hb=>by subst hb;have:=(ok.rng a ha).2;simp only;omega⟩
 ·intro x hx;simp only[YY,List.mem_append,List.mem_singleton]at hx ⊢;rcases hx with hx | rfl
  ·have:=ok.rng x hx;omega
  ·simp only;omega
 ·intro x hx;simp only[YY,List.mem_append,List.mem_singleton]at hx;rcases hx with hx | rfl
  ·exact ok.live x hx
  ·simp
 ·simp only[YY,List.pairwise_append,List.pairwise_singleton,List.mem_singleton];exact⟨ok.once,trivial,λa ha b hb q hq1 hq2=>by subst hb;simp at hq2⟩
 ·simp only[YY,List.length_append,List.length_singleton];exact h1
 ·simp only[YY];omega
def Uw(l:List zF)(x:zF)(hx:x.pod.reqs = [])(q:Int):zT (l++[x]) q=zT l q:=by
 unfold zT;rw[List.find?_append,List.find?_cons_of_neg (by simp[hx])];simp
def uX(l:List zF)(a:Int×Int×Int):Prop:=(a=(0,3,0)∧∀y∈l,Jk y=false)∨∃x∈l,a=(x.id,x.pod.st,(x.pod.reqs.length:Int))∧Jk x=true
def uX.step{l:List zF}{a:Int×Int×Int}{x:zF}(h:uX l a)(hx:x.pod.st=1∨x.pod.st=2∨x.pod.st=3):uX (l++[x]) (jO a x):=by
 unfold jO;by_cases h3:x.pod.st=3
 ·rw[if_pos h3];rcases h with ⟨rfl,h⟩ | ⟨y,hy,h⟩
  ·refine .inl ⟨rfl,λy hy=>?_⟩;rcases List.mem_append.1 hy with hy | hy
   ·exact h y hy
   ·simp at hy;subst hy;simp[Jk,h3]
  ·exact .inr ⟨y,by simp[hy],h⟩
 ·rw[if_neg h3];have hup:Jk x=true:=by simp[Jk,h3]
  by_cases hc:x.pod.st<a.2.1∨(x.pod.st=a.2.1∧(x.pod.reqs.length:Int)≤a.2.2)
  ·rw[if_pos hc];exact .inr ⟨x,by simp,rfl,hup⟩
  ·rw[if_neg hc];rcases h with ⟨rfl,h⟩ | ⟨y,hy,h⟩
   ·exact absurd (.inl (by simp only;omega)) hc
   ·exact .inr ⟨y,by simp[hy],h⟩
def uX.all:∀{l2 l1:List zF}{a:Int×Int×Int},uX l1 a→(∀x∈l2,x.pod.st=1∨x.pod.st=2∨x.pod.st=3)→uX (l1++l2) (l2.foldl jO a)
 | [],l1,a,h,_=>by simpa using h
 | x::l2,l1,a,h,hx=>by
  have:=uX.all (l2:=l2) (h.step (hx x (by simp))) (λy hy=>hx y (by simp[hy]));simpa using this
def Xd(ok:F.Ok)(hc:0<zU F.l rev):∃x,yL F.l (Jl F.l rev)=some x∧x.rev=rev∧(x.pod.st=1∨x.pod.st=2):=by
 have hr:∀x∈revs F.l rev,x∈F.l∧x.rev=rev:=λx hx=>⟨(List.mem_filter.1 hx).1,of_decide_eq_true (List.mem_filter.1 hx).2⟩;have h:=uX.all (l1:=[]) (a:=(0,3,0)) (l2:=revs F.l rev) (.inl ⟨rfl,by simp⟩) λx hx=>ok.live x (hr x hx).1;rw[List.nil_append]at h;rcases h with ⟨-,h⟩ | ⟨x,hx,ha,hup⟩
 ·exfalso;unfold zU at hc;rw[List.filter_eq_nil_iff.2 (λy hy=>by simp[h y hy])]at hc;simp at hc
 ·refine⟨x,?_,(hr x hx).2,?_⟩
  ·unfold Jl;rw[ha];exact jH ok.pw (hr x hx).1
  ·have:=ok.live x (hr x hx).1;have:x.pod.st≠3:=of_decide_eq_true hup;omega
def xS{p:yu}(h:p.st=1∨p.st=2):(Zp p).1 = { p with st:=if p.reqs = []then 4 else 3 }:=by
 unfold Zp;rw[if_neg (by omega)]
def vM(ok:F.Ok)(hc:0<zU F.l rev):(Jp rev F).Ok:=by
 obtain⟨x,hx,-,hst⟩:=Xd ok hc;refine ok.upd hx _ ?_ ?_
 ·rw[xS hst];simp only;split<;>simp
 ·rw[xS hst];exact λq hq=>.inl hq
def QU(ok:F.Ok)(hc:0<zU F.l rev):zU (Jp rev F).l rev+1=zU F.l rev:=by
 obtain⟨x,hx,hrev,hst⟩:=Xd ok hc;obtain⟨hm,hid⟩:=Yp hx;obtain⟨A,B,hl⟩:=List.append_of_mem hm;have pw:=ok.pw;show zU (yD F.l (Jl F.l rev) λp=>(Zp p).1) rev+1=_;rw[←hid];rw[hl]at pw ⊢;rw[JJ pw,YZ,YZ,YZ,show x::B = [x]++B from rfl,YZ,xS hst];have h1:zU [x] rev=1:=by
  have:x.pod.st≠3:=by omega
  simp[zU,revs,Jk,hrev,this]
 have h2:zU (if(if x.pod.reqs = []then(4:Int)else 3)=4 then []else [({ x with pod:={ x.pod with st:=if x.pod.reqs = []then 4 else 3 } }:zF)]) rev=0:=by
  by_cases hq:x.pod.reqs = []
  ·simp[hq,zU,revs]
  ·simp[hq,zU,revs,hrev,Jk]
 simp only at h2 ⊢;rw[h1,h2];omega
end
def jc(h:St w0 E w)(i:Nat){b:Nat}{F:zr}{s:Seg}(hi:nth E i=some s)(hf:FlS b F s){rev:B0}{conc want:Int}(hroom:F.room<100000000)(hlast:F.last+F.room<4611686018427387904){k:Sl×Sl×Unit→PT}
  (hk:∀v1 v2 s' s1 s2 w',FlS b (Yo F rev conc want).1 s'→Rw eI zf 1 v1 (XI F rev want) s1→Rw eI zf 1 v2 (Yo F rev conc want).2 s2→St w0 (s2::s1::zp E i s') w'→k (v1,v2,()) w') :
  L.call Pr zL [pO b,.string rev,I conc,I want] (.tup [.one .slice,.one .slice]) k w:=by
 have hfew:=hf.1.few;have hcl:=Xp F.l (rev:=rev);refine zC (JQ _ _ _ _) ?_;unfold YG;refine og h i hi hf λw h=>?_;have h:=h.front i hi;have hg:(jG F rev want:Int)=max 0 (min (want-zU F.l rev) (F.room-F.l.length)):=by unfold jG;omega
 refine Yt (λz w=>∃v sv s,z=(v,((zU F.l rev+jG F rev want:Nat):Int),())∧FlS b (Jm F rev conc want) s∧Rw eI zf 1 v (XI F rev want) sv∧St w0 (s::sv::Zt E i) w) (λk2 hk2=>?_) ?_
 ·refine Zy (λq y w=>∃(j:Nat)(v:Sl)(sv s:Seg),y=(v,((zU F.l rev+j:Nat):Int),())∧q+j=jG F rev want∧FlS b (grow rev conc j F) s∧Rw eI zf 1 v ((List.range j).map λj:Nat=>F.last+1+(j:Int)) sv∧St w0 (s::sv::Zt E i) w)
   (jG F rev want) ⟨0,⟨none,0,0⟩,[],s,rfl,rfl,hf,Rw.nil,h.eq (by simp)⟩ ?_
  clear hf;clear h;rintro q y w ⟨j,v,sv,s,rfl,hq,hf,hv,h⟩ again hag
  (try dsimp only)
  have hf':=hf;obtain⟨ok,rA,rW,mA,mW,sA,sW,L,hA,hW,hr,rfl⟩:=hf;have hlj:=uL (F:=F) (rev:=rev) (conc:=conc) j;have hla:=vK (F:=F) (rev:=rev) (conc:=conc) j;have hro:=vJ (F:=F) (rev:=rev) (conc:=conc) j;have lo:=ok.lo;have h:St w0 (flB b rA rW (grow rev conc j F)::sA::sW::(L.map trS).flatten::sv::Zt E i) w:=h.eq (by simp);have stop:∀{w},j=jG F rev want→St w0 (flB b rA rW (grow rev conc j F)::sA::sW::(L.map trS).flatten::sv::Zt E i) w→k2 (v,((zU F.l rev+j:Nat):Int),()) w:=by
   rintro w rfl h;exact hk2 _ w ⟨v,sv,_,rfl,hf',hv,h.eq (by simp)⟩
  (refine dr h ?_;clear h;intro w h)
  refine it (λhc=>?_) (λhc=>?_)<;>(try simp only[zB]at hc)
  ·(refine nn ?_;refine ldC h ?_)
   refine MpS.len ZO h 1 rfl hA ?_;rw[hr.len,hlj]
   (refine nn ?_;refine ldC h ?_)
   refine it (λhd=>?_) (λhd=>?_)<;>(try simp only[zB]at hd)
   ·(refine nn ?_;refine ldC h ?_;refine nn ?_;refine stC h ?_;clear h;intro w h;dsimp only[yT,zp]at h;refine dr h ?_;clear h;intro w h;refine nn ?_;refine ldC h ?_;refine nn ?_;refine ldC h ?_)
    refine Kv h λb' s' w hp h=>?_;rw[wr (by omega) (by omega)]at h;rw[wr (by omega) (by omega)]
    (refine ckC h ?_;refine ckC h ?_)
    refine MpS.set mkI ZO h 2 rfl hA (rev,some ⟨b',0,none⟩) rfl λsA' w hA' h=>?_
    (dsimp only[zp,List.cons_append,List.nil_append]at h;refine nn ?_;refine ldC h ?_)
    refine nw h ?_;clear h;intro b21 w h;refine Rw.app ja elI h 5 rfl hv (F.last+1+(j:Int)) (by rw[hla,eI];congr 2;omega) (by simp;omega) (by simp;omega) λv' sv' w hv' h=>?_;have hg0:Zn mA ((grow rev conc j F).last+1)=none:=hr.get0 (by
     unfold yL;rw[List.find?_eq_none];intro x hx;have:=(ok.rng x hx).2;simp;omega)
    refine hag (q-1) _ w (by omega) ⟨j+1,v',sv',flB b rA rW (grow rev conc (j+1) F)++(sA'++(sW++((L++[((⟨(grow rev conc j F).last+1,rev,⟨1,conc,[]⟩⟩:zF),b',s')]).map trS).flatten)),?_,by omega,⟨?_,rA,rW,_,mW,sA',sW,L++[((⟨(grow rev conc j F).last+1,rev,⟨1,conc,[]⟩⟩:zF),b',s')],hA',hW,⟨?_,?_,?_,?_⟩,rfl⟩,?_,?_⟩
    ·rw[wr (by omega) (by omega)];congr 2
    ·exact Vy ok (by omega) (by omega)
    ·simp only[grow,YY,List.map_append,hr.l];rfl
    ·intro t ht;rcases List.mem_append.1 ht with ht | ht
     ·exact hr.ps t ht
     ·simp only[List.mem_singleton]at ht;subst ht;exact hp
    ·rw[jE hg0,List.map_append];exact hr.all.append_right _
    ·intro q;rw[hr.wth];simp only[grow,YY];rw[Uw _ _ rfl]
    ·rw[List.range_succ,List.map_append];exact hv'
    ·have h:=uM (jU h);have h:=St.addEnd (g:=trS) (t:=((⟨(grow rev conc j F).last+1,rev,⟨1,conc,[]⟩⟩:zF),b',s')) h;have h:=jU (jU (jU (uM (jU h))));exact h.eq (by simp[grow,YY])
   ·exact stop (by omega) h
  ·exact stop (by omega) h
 ·rintro z w ⟨v,sv,s,rfl,hf,hv,h⟩
  (try dsimp only)
  have hlg:=uL (F:=F) (rev:=rev) (conc:=conc) (jG F rev want);have hmade:(XI F rev want).length=jG F rev want:=by simp[XI]
  have hcg:=Uv (F:=F) (rev:=rev) (conc:=conc) (jG F rev want);rw[←hcg];have hcle:=Xp (grow rev conc (jG F rev want) F).l (rev:=rev)
  refine Zy (λq y w=>∃(F2:zr)(gone:List Int)(v2:Sl)(s2 s:Seg),y=(v2,((zU F2.l rev:Nat):Int),())∧q=jo F2 rev want∧gone.length+q=jo (Jm F rev conc want) rev want∧FlS b F2 s∧Rw eI zf 1 v2 gone s2∧
   (Xe rev q F2).1=(Yo F rev conc want).1∧gone++(Xe rev q F2).2=(Yo F rev conc want).2∧St w0 (s::s2::sv::Zt E i) w)
   (jo (Jm F rev conc want) rev want) ⟨Jm F rev conc want,[],⟨none,0,0⟩,[],s,rfl,rfl,by simp,hf,Rw.nil,rfl,rfl,h.eq (by simp)⟩ ?_
  clear hf;clear h;rintro q y w ⟨F2,gone,v2,s2,s,rfl,hq,hgl,hf,hv2,hF,hG,h⟩ again hag
  (try dsimp only)
  have hcl2:=Xp F2.l (rev:=rev);have hq':(q:Int)=max 0 ((zU F2.l rev:Int)-max want 0):=by rw[hq];unfold jo;omega
  have hgn:(jo (Jm F rev conc want) rev want:Int)≤F.l.length+jG F rev want:=by unfold jo Jm;omega
  have hfew2:=hf.1.few;refine it (λhc=>?_) (λhc=>?_)<;>(try simp only[zB]at hc)
  ·have hc0:max want 0<(zU F2.l rev:Int):=by split at hc<;>omega
   obtain⟨q',rfl⟩:∃q',q=q'+1:=⟨q-1,by omega⟩;refine VP h 0 rfl hf λw h=>?_;obtain⟨x,hx,hrev,hst⟩:=Xd hf.1 (rev:=rev) (by omega);have okd:=vM hf.1 (rev:=rev) (by omega);have hcd:=QU hf.1 (rev:=rev) (by omega);obtain⟨ok,rA,rW,mA,mW,sA,sW,L,hA,hW,hr,rfl⟩:=hf;obtain⟨A,t,B,rfl,rfl,hid⟩:=hr.at hx;have h:St w0 (flB b rA rW F2::sA::sW::((A++t::B).map trS).flatten::s2::sv::Zt E i) w:=h.eq (by simp)
   (refine nn ?_;refine ldC h ?_)
   refine MpS.get mkI ZO zo (λx:B0×Option Addr=>(x.1,x.2,())) (λ_=>rfl) h 1 rfl hA ?_;have hg:=hr.get ok (t:=t) (by simp);have hp:=hr.ps t (by simp);rw[←hid,hg];simp only[Option.map_some,Option.getD_some];have h:=jz h;have h:=h.pick;refine VO h 0 rfl hp λs' w hp' h=>?_;have h:St w0 (trS ({ t.1 with pod:=(Zp t.1.pod).1 },t.2.1,s')::((A++B).map trS).flatten::flB b rA rW F2::sA::sW::s2::sv::Zt E i) w:=h;have h:=h.place;have h:=jz (jz (jz h));have hdp:=xS hst;have hrq:(Zp t.1.pod).1.reqs=t.1.pod.reqs:=by rw[hdp]
   have h4:(Zp t.1.pod).1.st=4→t.1.pod.reqs = []:=by
    rw[hdp];simp only;intro h;apply Classical.byContradiction;intro hne;simp[hne]at h
   have hwth:∀q,Zn mW q=(zT (yD F2.l t.1.id λp=>(Zp p).1) q).map (·.id):=λq=>by
    rw[hr.wth,qz ok.pw (Yp hx).1 hrq h4]
   have fin:∀{s w},FlS b (Jp rev F2) s→St w0 (s::s2::sv::Zt E i) w→L.new [I t.1.id] zf (λb31=>
     L.sem Pr (.one (.one .slice)) (Builtin.append_ #[Zs,Zs] Zs #[.slice v2.a v2.len v2.cap,.slice (some ⟨b31,0,none⟩) 1 1]) λ(s32:Sl)=>
     again (⟨s32.a,s32.len,s32.cap⟩,Wi ((zU F2.l rev:Nat)-1),())) w:=by
    intro s w hf h;refine nw h ?_;clear h;intro b31 w h;refine Rw.app ja elI h 1 rfl hv2 t.1.id rfl (by omega) (by omega) λv' s' w hv' h=>?_;refine hag q' _ w (by omega) ⟨Jp rev F2,gone++[t.1.id],v',s',s,?_,?_,?_,hf,hv',?_,?_,h⟩
    ·rw[wr (by omega) (by omega)];congr 2;omega
    ·unfold jo;omega
    ·simp only[List.length_append,List.length_singleton];omega
    ·exact hF
    ·rw[List.append_assoc,hid];exact hG
   refine VQ (t:=({ t.1 with pod:=(Zp t.1.pod).1 },t.2.1,s')) h hA hg hp' (λh4'=>?_) λh4' sA' w hA' h=>?_
   ·refine fin (s:=flB b rA rW F2++(sA++(sW++((A++({ t.1 with pod:=(Zp t.1.pod).1 },t.2.1,s')::B).map trS).flatten))) ⟨okd,rA,rW,mA,mW,sA,sW,_,hA,hW,?_,rfl⟩ (h.eq (by simp));have:=hr.upd ok (λp=>(Zp p).1) hp' h4' hwth;unfold Jp;rw[←hid];exact this
   ·refine fin (s:=flB b rA rW F2++(sA'++(sW++((A++B).map trS).flatten))) ⟨okd,rA,rW,_,mW,sA',sW,_,hA',hW,?_,rfl⟩ (h.eq (by simp));have:=hr.del ok (λp=>(Zp p).1) h4' hwth;unfold Jp;rw[←hid];exact this
  ·have e0:q=0:=by split at hc<;>omega
   subst e0;have e1:F2=(Yo F rev conc want).1:=hF;have e2:gone=(Yo F rev conc want).2:=by rw[←hG];simp[Xe]
   refine uY h (hv.rd ja h 2 rfl) (by omega) (Rw.nil_of ja hv) λv1 s1 w hr1 _ h=>?_;refine uY h (hv2.rd ja h 2 rfl) (by omega) (Rw.nil_of ja hv2) λv3 s3 w hr3 _ h=>?_;refine⟨_,rfl,hk v1 v3 s s1 s3 w (by rw[←e1];exact hf) hr1 (by rw[←e2];exact hr3) ?_⟩;have h:=kD (vN h);have h:=Vz (uM (uM h));exact St.back (i+2) (E:=s3::s1::E) hi h
end Go.Proofs.Ytofigcbhafkikaa
namespace Go.Proofs.Ytofigcbhafkikaa
open Go.Dm
attribute [local irreducible] L.load L.store L.chk L.new L.nonnil L.guard L.ite L.draw L.idx L.sem L.semR L.semU L.chkSem L.next L.call L.callV L.join L.alts L.loop L.begin L.endRound L.range
variable {w0 w:World}{E:List Seg}
def eC(p:Int×Int):List Value:=[I p.1,I p.2]
def yX:Enc eC 2:=⟨λ_=>rfl,λ_=>rfl,by decide⟩
def elC:El Pr zI zh 2 16 (.agg #[I 0,I 0]):=VD (by kernel_rfl) (by kernel_rfl) rfl (by decide)
def Rw.stC{v:Sl}{l:List (Int×Int)}{s:Seg}{e:Nat}(h:St w0 E w)(k:Nat)(hi:nth E k=some s)(hr:Rw eC e 2 v l s){i:Nat}{a:Addr}(ha:ElA v 2 i a)(hx:i<l.length)(y:Int×Int){kk:PT}
  (hk:∀s' w',Rw eC e 2 v (l.set i y) s'→St w0 (zp E k s') w'→kk w'):L.store a [I y.1,I y.2] kk w:=by
 obtain⟨a0,hv,rfl⟩:=ha;have hx0:l[i]? = some l[i]:=List.getElem?_eq_getElem hx;generalize l[i]=x at hx0;have e1:zp (fl eC l) (i*2+0) (I y.1)=fl eC (l.set i (y.1,x.2)):=QO yX hx0 (by decide) rfl;have e2:zp (fl eC (l.set i (y.1,x.2))) (i*2+1) (I y.2)=fl eC ((l.set i (y.1,x.2)).set i y):=QO yX (x:=(y.1,x.2)) (by simp[hx]) (by decide) rfl;rw[List.set_set]at e2;have hset:zp (zp (fl eC l) (i*2+0) (I y.1)) (i*2+1) (I y.2)=fl eC (l.set i y):=by rw[e1,e2]
 have hlt:i*2+1<(fl eC l).length:=by rw[jA yX];omega
 unfold Rw at hr hk;rw[←hset]at hk;have hlen2:(zp (zp (fl eC l) (i*2+0) (I y.1)) (i*2+1) (I y.2)).length=(fl eC l).length:=by rw[ZI,ZI];simp
 have hlen1:(zp (fl eC l) (i*2+0) (I y.1)).length=(fl eC l).length:=by rw[ZI];simp
 generalize fl eC l=xs at *
 cases hr with
 | nil=>cases hv
 | mk g n cap pre xs spare post h1 h2 h3 h4=>
  cases hv
  rw[yd];have hn:∀j,j≤1→∃c,nth (pre++(xs++(spare++post))) (pre.length+(i*2+j))=some c:=λj hj=>by
   rw[yw,Ym (by omega),zm];exact⟨_,List.getElem?_eq_getElem (by omega)⟩
  refine stx [I y.1,I y.2] h k hi ?_ rfl λw' h=>hk _ w' (Row.mk g n cap pre _ spare post (by rw[hlen2];exact h1) (by rw[hlen2];exact h2) h3 h4) ?_
  ·obtain⟨c0,hc0⟩:=hn 0 (by omega);obtain⟨c1,hc1⟩:=hn 1 (by omega);simp only[Nat.add_zero]at hc0;simp[qv,hc0,hc1,Nat.add_assoc]
  ·simp only[yT]at h;have q1:zp (xs++(spare++post)) (i*2+0) (I y.1)=zp xs (i*2+0) (I y.1)++(spare++post):=jp (by omega);have q2:zp (zp xs (i*2+0) (I y.1)++(spare++post)) (i*2+1) (I y.2)=zp (zp xs (i*2+0) (I y.1)) (i*2+1) (I y.2)++(spare++post):=jp (by omega);rw[show pre.length+i*2=pre.length+(i*2+0)from rfl,YK,q1,show pre.length+(i*2+0)+1=pre.length+(i*2+1)by omega,YK,q2]at h;exact h
def YX(x:Int×Int):List (Int×Int)→List (Int×Int)
 | []=>[x]
 | y::l=>if x.1<y.1 then x::y::l else y::YX x l
def Zb(l:List (Int×Int)):List (Int×Int):=l.foldl (λa x=>YX x a) []
def YR(x:Int×Int)(l:List (Int×Int)):(YX x l).Perm (x::l):=by
 induction l with
 | nil=>exact .refl _
 | cons y l ih=>
  simp only[YX];split
  ·exact .refl _
  ·exact(ih.cons y).trans (.swap ..)
def UO{x:Int×Int}:∀{l:List (Int×Int)},l.Pairwise (λa b=>a.1≤b.1)→(YX x l).Pairwise (λa b=>a.1≤b.1)
 | [],_=>by simp[YX]
 | y::l,h=>by
  rw[List.pairwise_cons]at h;simp only[YX];split
  ·rename_i hy;rw[List.pairwise_cons];refine⟨λz hz=>?_,List.pairwise_cons.2 h⟩;rcases List.mem_cons.1 hz with rfl | hz
   ·omega
   ·have:=h.1 z hz;omega
  ·rename_i hy;rw[List.pairwise_cons];refine⟨λz hz=>?_,UO h.2⟩;rcases List.mem_cons.1 ((YR x l).mem_iff.1 hz)with rfl | hz
   ·omega
   ·exact h.1 z hz
def UC{l:List (Int×Int)}{i:Nat}{x:Int×Int}(h:l[i]? = some x):Zb (l.take (i+1))=YX x (Zb (l.take i)):=by
 unfold Zb;rw[List.take_add_one,h,List.foldl_append];rfl
def Zj(l:List (Int×Int)):(Zb l).length=l.length:=by
 suffices ∀(l a:List (Int×Int)),(l.foldl (λa x=>YX x a) a).length=a.length+l.length by
  have:=this l [];simpa [Zb]using this
 intro l
 induction l with
 | nil=>simp
 | cons x l ih=>intro a;rw[List.foldl_cons,ih,(YR x a).length_eq];simp;omega
def uS(l:List (Int×Int)):(Zb l).Pairwise (λa b=>a.1≤b.1):=by
 suffices ∀(l a:List (Int×Int)),a.Pairwise (λa b=>a.1≤b.1)→(l.foldl (λa x=>YX x a) a).Pairwise (λa b=>a.1≤b.1)from this l [] .nil
 intro l
 induction l with
 | nil=>exact λa h=>h
 | cons x l ih=>exact λa h=>ih _ (UO h)
def UP{x:Int×Int}:∀{A B:List (Int×Int)},(∀y∈A,¬x.1<y.1)→(∀y∈B,x.1<y.1)→YX x (A++B)=A++x::B
 | [],[],_,_=>rfl
 | [],y::B,_,h=>by simp only[List.nil_append,YX];rw[if_pos (h y (by simp))]
 | y::A,B,h1,h2=>by
  simp only[List.cons_append,YX];rw[if_neg (h1 y (by simp)),UP (λz hz=>h1 z (by simp[hz])) h2]
def yR{E:List Seg}{i:Nat}{s s':Seg}(hi:nth E i=some s):nth (zp E i s') i=some s':=by
 rw[zm]at *
 rw[ZI,List.getElem?_set_self];exact(List.getElem?_eq_some_iff.1 hi).1
def yq{E:List Seg}{i:Nat}{s s':Seg}:zp (zp E i s) i s'=zp E i s':=by
 rw[ZI,ZI,ZI,List.set_set]
abbrev XP:Value:=.func (.func zt) #[] #[]
def VT(h:St w0 E w){a b c d:Int}(h1: -4611686018427387904<a∧a<4611686018427387904)(h2: -4611686018427387904<c∧c<4611686018427387904){k:Int→PT}(hk:∀w',St w0 E w'→k (a-c) w') :
  L.callV Pr XP [.agg #[I a,I b],.agg #[I c,I d]] (.one (.one (.int .i64))) k w:=by
 refine VG (fs:=#[]) (cs:=#[]) Jw (Jz (a,b,()) (c,d,())) ?_;unfold Yy;refine nw h ?_;clear h;intro b1 w h;refine nw h ?_;clear h;intro b2 w h
 (dsimp only[zp,List.cons_append,List.nil_append]at h;refine ldC h ?_;refine ldC h ?_)
 refine⟨_,rfl,?_⟩
 (try dsimp only)
 rw[wr (by omega) (by omega)];exact hk w (JN (JN h))
def Kq{α:Type}{Q T:List α}{z x:α}:(Q++z::x::T)[Q.length]? = some z∧(Q++z::x::T)[Q.length+1]? = some x∧((Q++z::x::T).set (Q.length+1) z).set Q.length x=Q++x::z::T:=by
 refine⟨by simp,by simp,by simp[List.set_append]⟩
def qJ(h:St w0 E w)(i:Nat){s:Seg}(hi:nth E i=some s){v:Sl}{P M R:List (Int×Int)}(hr:Rw eC zh 2 v (P++(M++R)) s)(hn:(P++(M++R)).length<1000000000)
  (hb:∀x∈M,-4611686018427387904<x.1∧x.1<4611686018427387904) {a b:Int} (ha:a=P.length) (hbb:b=P.length+M.length) {k:Unit→PT} (hk:∀s' w',Rw eC zh 2 v (P++(Zb M++R)) s'→St w0 (zp E i s') w'→k () w') :
  L.call Pr zE [.slice v.a v.len v.cap,I a,I b,XP] (.tup []) k w:=by
 subst ha hbb;refine zC (yi _ _ _ ⟨.func zt,#[],#[]⟩) ?_;unfold Zi;have hlen:=Rw.len yX hr;simp only[List.length_append]at hn hlen;rw[wr (by omega) (by omega)];have hcb:∀m,∀x∈Zb (M.take m),x∈M:=λm x hx=>by
  have:(Zb (M.take m)).Perm (M.take m):=by
   suffices ∀(l a:List (Int×Int)),(l.foldl (λa x=>YX x a) a).Perm (a++l)from by simpa [Zb]using this (M.take m) []
   intro l
   induction l with
   | nil=>intro a;simp
   | cons y l ih=>
    intro a;refine(ih _).trans (((YR y a).append_right l).trans ?_);exact(List.perm_middle (a:=y) (l₁:=a) (l₂:=l)).symm
  exact List.mem_of_mem_take (this.mem_iff.1 hx)
 have h1:Zb (M.take 1)=M.take 1:=by cases M<;>rfl
 refine Zy (λq y w=>∃(m:Nat)(s:Seg),y=(((P.length+m:Nat):Int),())∧1≤m∧q+m=max 1 M.length∧Rw eC zh 2 v (P++(Zb (M.take m)++(M.drop m++R))) s∧St w0 (zp E i s) w) (max 1 M.length-1)
  ⟨1,s,rfl,by omega,by omega,by rw[h1,←List.append_assoc (M.take 1),List.take_append_drop];exact hr,by rwa [ZP hi]⟩ ?_
 clear hr;clear h;rintro q y w ⟨m,s,rfl,hm,hq,hr,h⟩ again hag
 (try dsimp only)
 refine it (λhc=>?_) (λhc=>?_)<;>(try simp only[zB]at hc)
 ·have hm2:m<M.length:=by omega
  have hx:M[m]? = some M[m]:=List.getElem?_eq_getElem hm2;have hxm:M[m]∈M:=List.getElem_mem hm2;have hdrop:M.drop m=M[m]::M.drop (m+1):=List.drop_eq_getElem_cons hm2;have hct:=UC hx;have hcl:=Zj (M.take m);rw[List.length_take,Nat.min_eq_left (by omega)]at hcl;have hpw:=uS (M.take m);generalize M[m]=x at *
  rw[hdrop]at hr;have hnT:(M.drop (m+1)).length=M.length-(m+1):=List.length_drop ..;refine Yt (λz w=>∃s,Rw eC zh 2 v (P++(Zb (M.take (m+1))++(M.drop (m+1)++R))) s∧St w0 (zp E i s) w) (λk3 hk3=>?_) (λz w ⟨s,hr,h⟩=>?_)
  ·refine Zy (λq y w=>∃(A B:List (Int×Int))(s:Seg),y=(((P.length+A.length:Nat):Int),())∧q=A.length∧A++B=Zb (M.take m)∧(∀y∈B,x.1<y.1)∧Rw eC zh 2 v ((P++A)++x::(B++(M.drop (m+1)++R))) s∧St w0 (zp E i s) w) m
    ⟨Zb (M.take m),[],s,by rw[hcl],hcl.symm,by simp,by simp,by simpa [List.append_assoc]using hr,h⟩ ?_
   clear hr;clear h;rintro q2 y w ⟨A,B,s,rfl,hq2,hAB,hB,hr,h⟩ again2 hag2
   (try dsimp only)
   have stop:∀{w},(∀y∈A,¬x.1<y.1)→St w0 (zp E i s) w→k3 () w:=by
    intro w hA h;refine hk3 _ w ⟨s,?_,h⟩;rw[hct,←hAB,UP hA hB];simpa [List.append_assoc]using hr
   have hsi:nth (zp E i s) i=some s:=yR hi;refine dr h λw h=>?_;refine it (λhd=>?_) (λhd=>?_)<;>(try simp only[zB]at hd)
   ·have hA0:A≠[]:=λe=>by subst e;simp at hd
    obtain⟨A',z,rfl⟩:∃A' z,A=A'++[z]:=⟨A.dropLast,A.getLast hA0,(List.dropLast_concat_getLast hA0).symm⟩;have eL:(P++(A'++[z]))++x::(B++(M.drop (m+1)++R))=(P++A')++z::x::(B++(M.drop (m+1)++R)):=by simp
    rw[eL]at hr;obtain⟨g1,g2,g3⟩:=Kq (Q:=P++A') (z:=z) (x:=x) (T:=B++(M.drop (m+1)++R));have hlA:(P++A').length=P.length+A'.length:=List.length_append ..;have hl2:=congrArg List.length hAB;simp only[List.length_append,List.length_singleton,hcl]at hl2 hd hq2 ⊢;have hzM:z∈M:=hcb m z (by rw[←hAB];simp);have ix1:((P.length+(A'.length+1):Nat):Int).toNat=(P++A').length+1:=by rw[Int.toNat_natCast];omega
    have ix0:(((P.length+(A'.length+1):Nat):Int)-1).toNat=(P++A').length:=by omega
    have lt1:(P++A').length+1<((P++A')++z::x::(B++(M.drop (m+1)++R))).length:=by simp only[List.length_append,List.length_cons];omega
    rw[wr (n:=((P.length+(A'.length+1):Nat):Int)-1) (by omega) (by omega)];refine Rw.ix yX hr (by omega) (by rw[ix1];exact lt1) λa ha=>?_;rw[ix1]at ha;refine Rw.lda yX h i hsi hr ha g2 rfl ?_;refine Rw.ix yX hr (by omega) (by rw[ix0];omega) λa2 ha2=>?_;rw[ix0]at ha2;refine Rw.lda yX h i hsi hr ha2 g1 rfl ?_;refine VT h (hb x hxm) (hb z hzM) λw h=>?_;refine it (λhe=>?_) (λhe=>?_)<;>(try simp only[zB]at he)
    ·refine dr h λw h=>?_;refine Rw.ix yX hr (by omega) (by rw[ix0];omega) λa3 ha3=>?_;rw[ix0]at ha3;refine Rw.lda yX h i hsi hr ha3 g1 rfl ?_;refine Rw.ix yX hr (by omega) (by rw[ix1];exact lt1) λa4 ha4=>?_;rw[ix1]at ha4;refine Rw.lda yX h i hsi hr ha4 g2 rfl ?_;refine Rw.ix yX hr (by omega) (by rw[ix1];exact lt1) λa5 ha5=>?_;rw[ix1]at ha5;refine Rw.stC h i hsi hr ha5 lt1 z λs1 w hr1 h=>?_;have hs1:nth (zp (zp E i s) i s1) i=some s1:=yR hsi;refine Rw.ix yX hr1 (by omega) (by rw[ix0,List.length_set];omega) λa6 ha6=>?_;rw[ix0]at ha6;refine Rw.stC h i hs1 hr1 ha6 (by rw[List.length_set];omega) x λs2 w hr2 h=>?_;rw[g3]at hr2;refine hag2 (q2-1) _ w (by omega) ⟨A',z::B,s2,?_,by omega,by simpa using hAB,?_,by simpa using hr2,?_⟩
     ·congr 1;omega
     ·intro y hy;rcases List.mem_cons.1 hy with rfl | hy
      ·omega
      ·exact hB y hy
     ·rwa [yq,yq]at h
    ·refine stop (λy hy=>?_) h;rw[←hAB,List.pairwise_append]at hpw;have hpw:=hpw.1;rw[List.pairwise_append]at hpw;rcases List.mem_append.1 hy with hy | hy
     ·have:=hpw.2.2 y hy z (by simp);omega
     ·simp at hy;subst hy;omega
   ·have:A = []:=List.eq_nil_of_length_eq_zero (by omega);subst this;exact stop (by simp) h
  ·refine hag (q-1) _ w (by omega) ⟨m+1,s,?_,by omega,by omega,hr,h⟩;rw[wr (by omega) (by omega)];congr 1
 ·have e:M.drop m = []:=List.drop_eq_nil_of_le (by omega);have e2:M.take m=M:=List.take_of_length_le (by omega);rw[e,e2,List.nil_append]at hr;exact⟨(),rfl,hk s w hr h⟩
def kz{a b:Int}(ha:0≤a)(hb:0≤b)(h:a+b<4611686018427387904):Wi (Int.fdiv (IntKind.wrap .u64 (Wi (a+b))) (2 ^ (min (Int.toNat 1) 64)))=(a+b)/2:=by
 rw[wr (n:=a+b) (by omega) (by omega)];have e:IntKind.wrap .u64 (a+b)=a+b:=by
  unfold IntKind.wrap;have h1:(IntKind.u64.signed)=false:=rfl;have h2:(2 ^ IntKind.u64.bits:Int)=18446744073709551616:=by decide
  rw[h1,h2];simp only[Bool.false_and,Bool.false_eq_true,if_false];omega
 rw[e];have e2:(2 ^ (min (Int.toNat 1) 64):Int)=2:=by decide
 rw[e2,Int.fdiv_eq_ediv_of_nonneg _ (by decide),wr (by omega) (by omega)]
def Ua{α:Type}{Q T U:List α}{x y:α}:(Q++x::(T++y::U))[Q.length]? = some x∧(Q++x::(T++y::U))[Q.length+(1+T.length)]? = some y∧
  ((Q++x::(T++y::U)).set Q.length y).set (Q.length+(1+T.length)) x=Q++y::(T++x::U)∧((Q++x::(T++y::U)).set (Q.length+(1+T.length)) x).set Q.length y=Q++y::(T++x::U):=by
 have e:(1+T.length)=T.length+1:=by omega
 rw[e];refine⟨by simp,?_,?_,?_⟩
 ·rw[List.getElem?_append_right (by omega)];simp
 ·simp[List.set_append]
 ·simp[List.set_append]
def VJ{l:List (Int×Int)}(h:St w0 E w)(i:Nat){s:Seg}(hi:nth E i=some s){v:Sl}(hr:Rw eC zh 2 v l s){p q:Int}{x y:Int×Int}(p0:0≤p)(q0:0≤q)(hx:l[p.toNat]? = some x)(hy:l[q.toNat]? = some y){k:PT}
  (hk:∀s' w',Rw eC zh 2 v ((l.set p.toNat y).set q.toNat x) s'→St w0 (zp E i s') w'→k w') :
  (L.draw<| L.idx v.a q v.len 2 λa3=>L.load (.agg [.int .i64,.int .i64]) a3 λ(x4:Int×Int×Unit)=>L.idx v.a p v.len 2 λa5=>L.load (.agg [.int .i64,.int .i64]) a5 λ(x6:Int×Int×Unit)=>
   L.idx v.a p v.len 2 λa7=>L.store a7 [.int .i64 x4.1,.int .i64 x4.2.1]<| L.idx v.a q v.len 2 λa8=>L.store a8 [.int .i64 x6.1,.int .i64 x6.2.1] k) w:=by
 have hp:=(List.getElem?_eq_some_iff.1 hx).1;have hq:=(List.getElem?_eq_some_iff.1 hy).1;refine dr h λw h=>?_;refine Rw.ix yX hr q0 hq λa ha=>?_;refine Rw.lda yX h i hi hr ha hy (y:=(y.1,y.2,())) rfl ?_;refine Rw.ix yX hr p0 hp λa2 ha2=>?_;refine Rw.lda yX h i hi hr ha2 hx (y:=(x.1,x.2,())) rfl ?_;refine Rw.ix yX hr p0 hp λa3 ha3=>?_;refine Rw.stC h i hi hr ha3 hp y λs1 w hr1 h=>?_;refine Rw.ix yX hr1 q0 (by rw[List.length_set];exact hq) λa6 ha6=>?_;refine Rw.stC h i (yR hi) hr1 ha6 (by rw[List.length_set];exact hq) x λs2 w hr2 h=>?_;rw[yq]at h;exact hk s2 w hr2 h
def ub(h:St w0 E w)(i:Nat){s:Seg}(hi:nth E i=some s){v:Sl}{P A M B R:List (Int×Int)}(hr:Rw eC zh 2 v (P++(A++(M++(B++R)))) s)(hn:(P++(A++(M++(B++R)))).length<1000000000)(hAB:A.length=B.length)
  {a b n:Int} (ha:a=P.length) (hb:b=P.length+(A.length+M.length)) (hnn:n=A.length) {k:Unit→PT} (hk:∀s' w',Rw eC zh 2 v (P++(B++(M++(A++R)))) s'→St w0 (zp E i s') w'→k () w') :
  L.call Pr zA [.slice v.a v.len v.cap,I a,I b,I n,XP] (.tup []) k w:=by
 subst ha hb hnn;refine zC (yB _ _ _ _ ⟨.func zt,#[],#[]⟩) ?_;unfold Zw;simp only[List.length_append]at hn
 refine Zy (λq y w=>∃(j:Nat)(s:Seg),y=((j:Int),())∧q+j=A.length∧Rw eC zh 2 v (P++((B.take j++A.drop j)++(M++((A.take j++B.drop j)++R)))) s∧St w0 (zp E i s) w) A.length
  ⟨0,s,rfl,rfl,by simpa using hr,by rwa [ZP hi]⟩ ?_
 clear hr;clear h;rintro q y w ⟨j,s,rfl,hq,hr,h⟩ again hag
 (try dsimp only)
 have hsi:nth (zp E i s) i=some s:=yR hi;refine it (λhc=>?_) (λhc=>?_)<;>(try simp only[zB]at hc)
 ·have hA:A.drop j=A[j]::A.drop (j+1):=List.drop_eq_getElem_cons (by omega);have hB:B.drop j=B[j]::B.drop (j+1):=List.drop_eq_getElem_cons (by omega);have tA:A.take (j+1)=A.take j++[A[j]]:=by rw[List.take_add_one,List.getElem?_eq_getElem (by omega)];rfl
  have tB:B.take (j+1)=B.take j++[B[j]]:=by rw[List.take_add_one,List.getElem?_eq_getElem (by omega)];rfl
  have lA:(A.take j).length=j:=by rw[List.length_take];omega
  have lB:(B.take j).length=j:=by rw[List.length_take];omega
  have dA:(A.drop (j+1)).length=A.length-(j+1):=List.length_drop ..;generalize A[j]=x at *
  generalize B[j]=y at *
  have eD:P++((B.take j++A.drop j)++(M++((A.take j++B.drop j)++R)))=(P++B.take j)++x::((A.drop (j+1)++(M++A.take j))++y::(B.drop (j+1)++R)):=by rw[hA,hB];simp
  have eD2:(P++B.take j)++y::((A.drop (j+1)++(M++A.take j))++x::(B.drop (j+1)++R))=P++((B.take (j+1)++A.drop (j+1))++(M++((A.take (j+1)++B.drop (j+1))++R))):=by rw[tA,tB];simp
  rw[eD]at hr;obtain⟨g1,g2,g3,-⟩:=Ua (Q:=P++B.take j) (T:=A.drop (j+1)++(M++A.take j)) (U:=B.drop (j+1)++R) (x:=x) (y:=y);rw[eD2]at g3;have l1:(P++B.take j).length=P.length+j:=by rw[List.length_append,lB]
  have l2:(P++B.take j).length+(1+(A.drop (j+1)++(M++A.take j)).length)=P.length+(A.length+M.length)+j:=by rw[l1];simp only[List.length_append,dA,lA];omega
  rw[l2]at g2 g3;rw[l1]at g1 g3;rw[wr (n:=(P.length:Int)+(A.length+M.length)+j) (by omega) (by omega),wr (n:=(P.length:Int)+j) (by omega) (by omega)];have i1:((P.length:Int)+j).toNat=P.length+j:=by omega
  have i2:((P.length:Int)+(A.length+M.length)+j).toNat=P.length+(A.length+M.length)+j:=by omega
  refine VJ h i hsi hr (p:=(P.length:Int)+j) (q:=(P.length:Int)+(A.length+M.length)+j) (by omega) (by omega) (by rw[i1];exact g1) (by rw[i2];exact g2) λs' w hr h=>?_;rw[i1,i2,g3]at hr;rw[yq]at h;refine hag (q-1) _ w (by omega) ⟨j+1,s',?_,by omega,hr,h⟩;rw[wr (by omega) (by omega)];rfl
 ·have e1:A.drop j = []:=List.drop_eq_nil_of_le (by omega);have e2:A.take j=A:=List.take_of_length_le (by omega);have e3:B.drop j = []:=List.drop_eq_nil_of_le (by omega);have e4:B.take j=B:=List.take_of_length_le (by omega);rw[e1,e2,e3,e4,List.append_nil,List.append_nil]at hr;exact⟨(),rfl,hk s w hr h⟩
def Ku(h:St w0 E w)(i:Nat){s:Seg}(hi:nth E i=some s){v:Sl}{P A B R:List (Int×Int)}(hr:Rw eC zh 2 v (P++(A++(B++R))) s)(hn:(P++(A++(B++R))).length<1000000000)(hA:A≠[])(hB:B≠[])
  {a m b:Int} (ha:a=P.length) (hm:m=P.length+A.length) (hb:b=P.length+(A.length+B.length)) {k:Unit→PT} (hk:∀s' w',Rw eC zh 2 v (P++(B++(A++R))) s'→St w0 (zp E i s') w'→k () w') :
  L.call Pr zX [.slice v.a v.len v.cap,I a,I m,I b,XP] (.tup []) k w:=by
 subst ha hm hb;refine zC (yM _ _ _ _ ⟨.func zt,#[],#[]⟩) ?_;unfold ZE;simp only[List.length_append]at hn;rw[wr (n:=(P.length:Int)+A.length-P.length) (by omega) (by omega),wr (n:=(P.length:Int)+(A.length+B.length)-(P.length+A.length)) (by omega) (by omega)];have hA1:=List.length_pos_iff.2 hA;have hB1:=List.length_pos_iff.2 hB
 refine Zy (λq y w=>∃(X A' B' Y:List (Int×Int))(s:Seg),y=((A'.length:Int),(B'.length:Int),())∧q=A'.length+B'.length∧0<A'.length∧0<B'.length∧X.length+A'.length=A.length∧Y.length+B'.length=B.length∧X++(B'++(A'++Y))=B++A∧
  Rw eC zh 2 v (P++(X++(A'++(B'++(Y++R))))) s∧St w0 (zp E i s) w) (A.length+B.length)
  ⟨[],A,B,[],s,by simp;omega,rfl,hA1,hB1,by simp,by simp,by simp,by simpa using hr,by rwa [ZP hi]⟩ ?_
 clear hr;clear h;rintro q y w ⟨X,A',B',Y,s,rfl,hq,hA',hB',hX,hY,hXY,hr,h⟩ again hag
 (try dsimp only)
 have hsi:nth (zp E i s) i=some s:=yR hi;have hnn:(P++(X++(A'++(B'++(Y++R))))).length<1000000000:=by simp only[List.length_append];omega
 refine it (λhc=>?_) (λhc=>?_)<;>(try simp only[zB]at hc)
 ·refine it (λhd=>?_) (λhd=>?_)<;>(try simp only[zB]at hd)
  ·obtain⟨A1,A2,rfl,l1⟩:∃A1 A2,A'=A1++A2∧A1.length=B'.length:=⟨A'.take B'.length,A'.drop B'.length,(List.take_append_drop ..).symm,by rw[List.length_take];omega⟩;simp only[List.length_append]at hX hq hd hA' hnn ⊢;rw[wr (n:=(P.length:Int)+A.length-((A1.length+A2.length:Nat):Int)) (by omega) (by omega)];refine ub (P:=P++X) (A:=A1) (M:=A2) (B:=B') (R:=Y++R) h i hsi (by simpa using hr) (by simp only[List.length_append];omega) l1 (by rw[List.length_append];omega) (by rw[List.length_append];omega) (by omega) λs' w hr h=>?_;rw[yq]at h;rw[wr (by omega) (by omega)];refine hag (A2.length+A1.length) _ w (by omega) ⟨X++B',A2,A1,Y,s',?_,rfl,by omega,by omega,by rw[List.length_append];omega,by omega,by rw[←hXY];simp,by simpa using hr,h⟩;rw[l1]
   congr 1
   omega
  ·obtain⟨B1,B2,rfl,l1⟩:∃B1 B2,B'=B1++B2∧B2.length=A'.length:=⟨B'.take (B'.length-A'.length),B'.drop (B'.length-A'.length),(List.take_append_drop ..).symm,by rw[List.length_drop];omega⟩;simp only[List.length_append]at hY hq hd hB' hnn hc ⊢;rw[wr (n:=(P.length:Int)+A.length-(A'.length:Int)) (by omega) (by omega),wr (n:=(P.length:Int)+A.length+((B1.length+B2.length:Nat):Int)) (by omega) (by omega),wr (n:=(P.length:Int)+A.length+((B1.length+B2.length:Nat):Int)-(A'.length:Int)) (by omega) (by omega)];refine ub (P:=P++X) (A:=A') (M:=B1) (B:=B2) (R:=Y++R) h i hsi (by simpa using hr) (by simp only[List.length_append];omega) l1.symm (by rw[List.length_append];omega) (by rw[List.length_append];omega) (by omega) λs' w hr h=>?_;rw[yq]at h;rw[wr (by omega) (by omega)];refine hag (B2.length+B1.length) _ w (by omega) ⟨X,B2,B1,A'++Y,s',?_,rfl,by omega,by omega,by omega,by rw[List.length_append];omega,by rw[←hXY];simp,by simpa using hr,h⟩;rw[←l1]
   congr 2
   omega
 ·rw[wr (n:=(P.length:Int)+A.length-(A'.length:Int)) (by omega) (by omega)];refine ub (P:=P++X) (A:=A') (M:=[]) (B:=B') (R:=Y++R) h i hsi (by simpa using hr) (by simp only[List.length_append,List.length_nil];omega) (by omega) (by rw[List.length_append];omega) (by rw[List.length_append,List.length_nil];omega) rfl λs' w hr h=>?_;rw[yq]at h;refine⟨(),rfl,hk s' w ?_ h⟩;have e:P++(B++(A++R))=(P++X)++(B'++([]++(A'++(Y++R)))):=by
   have:=congrArg (λz=>P++(z++R)) hXY;simpa using this.symm
  rw[e];exact hr
def qr(x y:Int×Int):Prop:=x.1<y.1∨(x.1=y.1∧x.2<y.2)
abbrev Ls(l:List (Int×Int)):Prop:=l.Pairwise qr
def uK{x:Int×Int}:∀{l:List (Int×Int)},Ls l→(∀y∈l,y.2<x.2)→Ls (YX x l)
 | [],_,_=>by simp[YX]
 | y::l,h,hx=>by
  have h:=List.pairwise_cons.1 h;simp only[YX];split
  ·rename_i hy;refine List.pairwise_cons.2 ⟨λz hz=>?_,List.pairwise_cons.2 h⟩;rcases List.mem_cons.1 hz with rfl | hz
   ·exact .inl hy
   ·rcases h.1 z hz with h | h
    ·exact .inl (by omega)
    ·exact .inl (by omega)
  ·rename_i hy;refine List.pairwise_cons.2 ⟨λz hz=>?_,uK h.2 λz hz=>hx z (by simp[hz])⟩;rcases List.mem_cons.1 ((YR x l).mem_iff.1 hz)with rfl | hz
   ·have:=hx y (by simp);by_cases he:y.1=z.1
    ·exact .inr ⟨he,this⟩
    ·exact .inl (by omega)
   ·exact h.1 z hz
def yx(l:List (Int×Int)):(Zb l).Perm l:=by
 suffices ∀(l a:List (Int×Int)),(l.foldl (λa x=>YX x a) a).Perm (a++l)from by simpa [Zb]using this l []
 intro l
 induction l with
 | nil=>intro a;simp
 | cons y l ih=>
  intro a;refine(ih _).trans (((YR y a).append_right l).trans ?_);exact(List.perm_middle (a:=y) (l₁:=a) (l₂:=l)).symm
def Xs{l:List (Int×Int)}(h:l.Pairwise λa b=>a.2<b.2):Ls (Zb l):=by
 suffices ∀(l a:List (Int×Int)),(a++l).Pairwise (λa b=>a.2<b.2)∨True→Ls a→l.Pairwise (λa b=>a.2<b.2)→(∀x∈a,∀y∈l,x.2<y.2)→Ls (l.foldl (λa x=>YX x a) a) from
  this l [] (.inr trivial) .nil h (by simp)
 intro l
 induction l with
 | nil=>exact λa _ h _ _=>h
 | cons y l ih=>
  intro a _ ha hl hal;rw[List.pairwise_cons]at hl;refine ih _ (.inr trivial) (uK ha λx hx=>hal x hx y (by simp)) hl.2 λx hx z hz=>?_;rcases List.mem_cons.1 ((YR y a).mem_iff.1 hx)with rfl | hx
  ·exact hl.1 z hz
  ·exact hal x hx z (by simp[hz])
def uH:∀{l1 l2:List (Int×Int)},Ls l1→Ls l2→l1.Perm l2→l1=l2
 | [],l2,_,_,p=>p.nil_eq
 | x::l1,[],_,_,p=>by have:=p.length_eq;simp at this
 | x::l1,y::l2,h1,h2,p=>by
  have h1:=List.pairwise_cons.1 h1;have h2:=List.pairwise_cons.1 h2;have e:x=y:=by
   rcases List.mem_cons.1 (p.mem_iff.1 (by simp:x∈x::l1))with e | hx
   ·exact e
   ·rcases List.mem_cons.1 (p.mem_iff.2 (by simp:y∈y::l2))with e | hy
    ·exact e.symm
    ·have q1:=h1.1 y hy;have q2:=h2.1 x hx;unfold qr at q1 q2;omega
  subst e;rw[uH h1.2 h2.2 p.cons_inv]
def Ja{l:List (Int×Int)}(h:Ls l){i j:Nat}{x y:Int×Int}(hij:i≤j)(hi:l[i]? = some x)(hj:l[j]? = some y):x.1≤y.1:=by
 rcases Nat.lt_or_ge i j with hlt | hge
 ·obtain⟨i1,rfl⟩:=List.getElem?_eq_some_iff.1 hi;obtain⟨j1,rfl⟩:=List.getElem?_eq_some_iff.1 hj;have:=List.pairwise_iff_getElem.1 h i j i1 j1 hlt;unfold qr at this;omega
 ·have:i=j:=by omega
  subst this;rw[hi]at hj;cases hj;omega
def QL{l:List (Int×Int)}{c:Nat}{z:Int×Int}(h:z∈l.take c):∃i,i<c∧l[i]? = some z:=by
 obtain⟨i,hi⟩:=List.mem_iff_getElem?.1 h;rw[List.getElem?_take]at hi;split at hi
 ·exact⟨i,by assumption,hi⟩
 ·cases hi
def QM{l:List (Int×Int)}{c:Nat}{z:Int×Int}(h:z∈l.drop c):∃i,c≤i∧l[i]? = some z:=by
 obtain⟨i,hi⟩:=List.mem_iff_getElem?.1 h;rw[List.getElem?_drop]at hi;exact⟨c+i,by omega,hi⟩
def ud{l:List (Int×Int)}(h:St w0 E w)(i:Nat){s:Seg}(hi:nth E i=some s){v:Sl}(hr:Rw eC zh 2 v l s){p q:Int}{x y:Int×Int}(p0:0≤p)(q0:0≤q)(hx:l[p.toNat]? = some x)(hy:l[q.toNat]? = some y)
  (h1: -4611686018427387904<x.1∧x.1<4611686018427387904) (h2: -4611686018427387904<y.1∧y.1<4611686018427387904) {k:Int→PT} (hk:∀w',St w0 E w'→k (x.1-y.1) w') :
  (L.draw<| L.idx v.a p v.len 2 λa3=>L.load (.agg [.int .i64,.int .i64]) a3 λ(x4:Int×Int×Unit)=>L.idx v.a q v.len 2 λa5=>L.load (.agg [.int .i64,.int .i64]) a5 λ(x6:Int×Int×Unit)=>
   L.callV Pr XP [.agg #[.int .i64 x4.1,.int .i64 x4.2.1],.agg #[.int .i64 x6.1,.int .i64 x6.2.1]] (.one (.one (.int .i64))) k) w:=by
 have hp:=(List.getElem?_eq_some_iff.1 hx).1;have hq:=(List.getElem?_eq_some_iff.1 hy).1;refine dr h λw h=>?_;refine Rw.ix yX hr p0 hp λa ha=>?_;refine Rw.lda yX h i hi hr ha hx (y:=(x.1,x.2,())) rfl ?_;refine Rw.ix yX hr q0 hq λa2 ha2=>?_;refine Rw.lda yX h i hi hr ha2 hy (y:=(y.1,y.2,())) rfl ?_;exact VT h h1 h2 hk
def Ks(h:St w0 E w)(i:Nat){s:Seg}(hi:nth E i=some s){v:Sl}{P B R:List (Int×Int)}{x:Int×Int}(hr:Rw eC zh 2 v (P++(x::(B++R))) s)(hn:(P++(x::(B++R))).length<1000000000)(sB:Ls B)(hx2:∀y∈B,x.2<y.2)
  (hbx: -4611686018427387904<x.1∧x.1<4611686018427387904) (hb:∀y∈B,-4611686018427387904<y.1∧y.1<4611686018427387904) {a m b:Int} (ha:a=P.length) (hm:m=P.length+1) (hbb:b=P.length+(1+B.length))
  {k:Unit→PT} (hk:∀S s' w',Ls S→S.Perm (x::B)→Rw eC zh 2 v (P++(S++R)) s'→St w0 (zp E i s') w'→k () w') :
  L.call Pr zj [.slice v.a v.len v.cap,I a,I m,I b,XP] (.tup []) k w:=by
 subst ha hm hbb;refine zC (zV _ _ _ _ ⟨.func zt,#[],#[]⟩) ?_;unfold zK;simp only[List.length_append,List.length_cons]at hn;rw[wr (n:=(P.length:Int)+1-P.length) (by omega) (by omega)];refine itT (by simp;omega) ?_
 refine Zy (λq y w=>∃c d:Nat,y=((P.length:Int)+1+c,(P.length:Int)+1+d,())∧q+c=d∧c≤d∧d≤B.length∧(∀(i:Nat) z,B[i]? = some z→i<c→z.1<x.1)∧(∀(i:Nat) z,B[i]? = some z→d≤i→¬z.1<x.1)∧St w0 E w) B.length
  ⟨0,B.length,by simp;omega,by omega,by omega,by omega,by intros;omega,by
   intro i z hz hi;have:=(List.getElem?_eq_some_iff.1 hz).1;omega,h⟩ ?_
 clear h;rintro q y w ⟨c,d,rfl,hq,hcd,hd,h1,h2,h⟩ again hag
 (try dsimp only)
 have ix:((P.length:Int)).toNat=P.length:=by omega
 have g0:(P++(x::(B++R)))[((P.length:Int)).toNat]? = some x:=by rw[ix];simp
 refine it (λhc=>?_) (λhc=>?_)<;>(try simp only[zB]at hc)
 ·have he:((P.length:Int)+1+c+((P.length:Int)+1+d))/2=(P.length:Int)+1+(((c+d)/2:Nat):Int):=by omega
  rw[kz (by omega) (by omega) (by omega),he];obtain⟨e,hee⟩:∃e,e=(c+d)/2:=⟨_,rfl⟩;rw[←hee];have hel:e<B.length:=by omega
  have hz:B[e]? = some B[e]:=List.getElem?_eq_getElem hel;have hzm:B[e]∈B:=List.getElem_mem hel;generalize B[e]=z at hz hzm;have g1:(P++(x::(B++R)))[((P.length:Int)+1+(e:Int)).toNat]? = some z:=by
   have e1:((P.length:Int)+1+(e:Int)).toNat=P.length+(e+1):=by omega
   rw[e1,List.getElem?_append_right (by omega)];have e2:P.length+(e+1)-P.length=e+1:=by omega
   rw[e2,List.getElem?_cons_succ,List.getElem?_append_left hel,hz]
  refine gd (by decide) ?_;refine ud h i hi hr (by omega) (by omega) g1 g0 (hb z hzm) hbx λw h=>?_;refine it (λhl=>?_) (λhl=>?_)<;>(try simp only[zB]at hl)
  ·refine hag (d-(e+1)) _ w (by omega) ⟨e+1,d,?_,by omega,by omega,hd,λi z' hz' hi=>?_,h2,h⟩
   ·rw[wr (by omega) (by omega)];congr 1
   ·have:=Ja sB (by omega) hz' hz;omega
  ·refine hag (e-c) _ w (by omega) ⟨c,e,rfl,by omega,by omega,by omega,h1,λi z' hz' hi=>?_,h⟩;have:=Ja sB hi hz hz';omega
 ·have e:d=c:=by omega
  subst e;refine Zy (λq y w=>∃(j:Nat)(s:Seg),y=((P.length:Int)+j,())∧q+j=d∧Rw eC zh 2 v (P++(B.take j++x::(B.drop j++R))) s∧St w0 (zp E i s) w) d ⟨0,s,by simp,by omega,by simpa using hr,by rwa [ZP hi]⟩ ?_;clear hr g0;clear h;rintro q y w ⟨j,s,rfl,hq,hr,h⟩ again hag
  (try dsimp only)
  have hsi:nth (zp E i s) i=some s:=yR hi;rw[wr (n:=(P.length:Int)+1+d-1) (by omega) (by omega)];refine it (λhc=>?_) (λhc=>?_)<;>(try simp only[zB]at hc)
  ·have hj:j<B.length:=by omega
   have hB:B.drop j=B[j]::B.drop (j+1):=List.drop_eq_getElem_cons hj;have tB:B.take (j+1)=B.take j++[B[j]]:=by rw[List.take_add_one,List.getElem?_eq_getElem hj];rfl
   have lB:(B.take j).length=j:=by rw[List.length_take];omega
   generalize B[j]=z at hB tB;have eD:P++(B.take j++x::(B.drop j++R))=(P++B.take j)++x::([]++z::(B.drop (j+1)++R)):=by rw[hB];simp
   have eD2:(P++B.take j)++z::([]++x::(B.drop (j+1)++R))=P++(B.take (j+1)++x::(B.drop (j+1)++R)):=by rw[tB];simp
   rw[eD]at hr;obtain⟨g1,g2,g3,-⟩:=Ua (Q:=P++B.take j) (T:=[]) (U:=B.drop (j+1)++R) (x:=x) (y:=z);have l1:(P++B.take j).length=P.length+j:=by rw[List.length_append,lB]
   have l2:(P++B.take j).length+(1+([]:List (Int×Int)).length)=P.length+j+1:=by rw[l1];rfl
   rw[eD2,l2,l1]at g3;rw[l2]at g2;rw[l1]at g1;have i1:((P.length:Int)+j).toNat=P.length+j:=by omega
   have i2:((P.length:Int)+j+1).toNat=P.length+j+1:=by omega
   rw[wr (n:=(P.length:Int)+j+1) (by omega) (by omega)];refine VJ h i hsi hr (by omega) (by omega) (by rw[i1];exact g1) (by rw[i2];exact g2) λs' w hr h=>?_;rw[i1,i2,g3]at hr;rw[yq]at h;exact hag (q-1) _ w (by omega) ⟨j+1,s',by congr 1,by omega,hr,h⟩
  ·have e:j=d:=by omega
   subst e;refine⟨(),rfl,hk (B.take j++x::B.drop j) s w ?_ ?_ (by simpa using hr) h⟩
   ·have sB':=sB;rw[←List.take_append_drop j B]at sB';have sB':=List.pairwise_append.1 sB';refine List.pairwise_append.2 ⟨sB'.1,List.pairwise_cons.2 ⟨λz hz=>?_,sB'.2.1⟩,λz hz y hy=>?_⟩
    ·obtain⟨i,hi,hz'⟩:=QM hz;have q1:=h2 i z hz' hi;have q2:=hx2 z (List.mem_of_mem_drop hz);unfold qr;omega
    ·rcases List.mem_cons.1 hy with rfl | hy
     ·obtain⟨i,hi,hz'⟩:=QL hz;exact .inl (h1 i z hz' hi)
     ·exact sB'.2.2 z hz y hy
   ·refine List.perm_middle.trans ?_;rw[List.take_append_drop]
def Kr(h:St w0 E w)(i:Nat){s:Seg}(hi:nth E i=some s){v:Sl}{P A R:List (Int×Int)}{y:Int×Int}(hr:Rw eC zh 2 v (P++(A++(y::R))) s)(hn:(P++(A++(y::R))).length<1000000000)(hA1:A.length≠1)(sA:Ls A)(hy2:∀x∈A,x.2<y.2)
  (hby: -4611686018427387904<y.1∧y.1<4611686018427387904) (hb:∀x∈A,-4611686018427387904<x.1∧x.1<4611686018427387904) {a m b:Int} (ha:a=P.length) (hm:m=P.length+A.length) (hbb:b=P.length+(A.length+1))
  {k:Unit→PT} (hk:∀S s' w',Ls S→S.Perm (A++[y])→Rw eC zh 2 v (P++(S++R)) s'→St w0 (zp E i s') w'→k () w') :
  L.call Pr zj [.slice v.a v.len v.cap,I a,I m,I b,XP] (.tup []) k w:=by
 subst ha hm hbb;refine zC (zV _ _ _ _ ⟨.func zt,#[],#[]⟩) ?_;unfold zK;simp only[List.length_append,List.length_cons]at hn;rw[wr (n:=(P.length:Int)+A.length-P.length) (by omega) (by omega),wr (n:=(P.length:Int)+(A.length+1)-(P.length+A.length)) (by omega) (by omega)];refine itF (by simp;omega) ?_;refine itT (by simp;omega) ?_
 refine Zy (λq z w=>∃c d:Nat,z=((P.length:Int)+c,(P.length:Int)+d,())∧q+c=d∧c≤d∧d≤A.length∧(∀(i:Nat) z,A[i]? = some z→i<c→¬y.1<z.1)∧(∀(i:Nat) z,A[i]? = some z→d≤i→y.1<z.1)∧St w0 E w) A.length
  ⟨0,A.length,by simp,by omega,by omega,by omega,by intros;omega,by
   intro i z hz hi;have:=(List.getElem?_eq_some_iff.1 hz).1;omega,h⟩ ?_
 clear h;rintro q z w ⟨c,d,rfl,hq,hcd,hd,h1,h2,h⟩ again hag
 (try dsimp only)
 have g0:(P++(A++(y::R)))[((P.length:Int)+A.length).toNat]? = some y:=by
  have e1:((P.length:Int)+A.length).toNat=P.length+A.length:=by omega
  rw[e1,←List.append_assoc,List.getElem?_append_right (by simp)];simp
 refine it (λhc=>?_) (λhc=>?_)<;>(try simp only[zB]at hc)
 ·have he:((P.length:Int)+c+((P.length:Int)+d))/2=(P.length:Int)+(((c+d)/2:Nat):Int):=by omega
  rw[kz (by omega) (by omega) (by omega),he];obtain⟨e,hee⟩:∃e,e=(c+d)/2:=⟨_,rfl⟩;rw[←hee];have hel:e<A.length:=by omega
  have hz:A[e]? = some A[e]:=List.getElem?_eq_getElem hel;have hzm:A[e]∈A:=List.getElem_mem hel;generalize A[e]=z at hz hzm;have g1:(P++(A++(y::R)))[((P.length:Int)+(e:Int)).toNat]? = some z:=by
   have e1:((P.length:Int)+(e:Int)).toNat=P.length+e:=by omega
   rw[e1,List.getElem?_append_right (by omega)];have e2:P.length+e-P.length=e:=by omega
   rw[e2,List.getElem?_append_left hel,hz]
  refine gd (by decide) ?_;refine ud h i hi hr (by omega) (by omega) g0 g1 hby (hb z hzm) λw h=>?_;refine it (λhl=>?_) (λhl=>?_)<;>(try simp only[zB]at hl)
  ·refine hag (d-(e+1)) _ w (by omega) ⟨e+1,d,?_,by omega,by omega,hd,λi z' hz' hi=>?_,h2,h⟩
   ·rw[wr (by omega) (by omega)];congr 1
   ·have:=Ja sA (by omega) hz' hz;omega
  ·refine hag (e-c) _ w (by omega) ⟨c,e,rfl,by omega,by omega,by omega,h1,λi z' hz' hi=>?_,h⟩;have:=Ja sA hi hz hz';omega
 ·have e:d=c:=by omega
  subst e;refine Zy (λq z w=>∃(j:Nat)(s:Seg),z=((P.length:Int)+j,())∧q+d=j∧j≤A.length∧Rw eC zh 2 v (P++(A.take j++y::(A.drop j++R))) s∧St w0 (zp E i s) w) (A.length-d) ⟨A.length,s,by simp,by omega,by omega,by simpa using hr,by rwa [ZP hi]⟩ ?_;clear hr g0;clear h;rintro q z w ⟨j,s,rfl,hq,hj,hr,h⟩ again hag
  (try dsimp only)
  have hsi:nth (zp E i s) i=some s:=yR hi;refine it (λhc=>?_) (λhc=>?_)<;>(try simp only[zB]at hc)
  ·obtain⟨j,rfl⟩:∃j',j=j'+1:=⟨j-1,by omega⟩;have hA:A.drop j=A[j]::A.drop (j+1):=List.drop_eq_getElem_cons (by omega);have tA:A.take (j+1)=A.take j++[A[j]]:=by rw[List.take_add_one,List.getElem?_eq_getElem (by omega)];rfl
   have lA:(A.take j).length=j:=by rw[List.length_take];omega
   generalize A[j]=x at hA tA;have eD:P++(A.take (j+1)++y::(A.drop (j+1)++R))=(P++A.take j)++x::([]++y::(A.drop (j+1)++R)):=by rw[tA];simp
   have eD2:(P++A.take j)++y::([]++x::(A.drop (j+1)++R))=P++(A.take j++y::(A.drop j++R)):=by rw[hA];simp
   rw[eD]at hr;obtain⟨g1,g2,-,g3⟩:=Ua (Q:=P++A.take j) (T:=[]) (U:=A.drop (j+1)++R) (x:=x) (y:=y);have l1:(P++A.take j).length=P.length+j:=by rw[List.length_append,lA]
   have l2:(P++A.take j).length+(1+([]:List (Int×Int)).length)=P.length+j+1:=by rw[l1];rfl
   rw[eD2,l2,l1]at g3;rw[l2]at g2;rw[l1]at g1;have i0:(P.length:Int)+((j+1:Nat):Int)-1=(P.length:Int)+j:=by omega
   have i1:((P.length:Int)+j).toNat=P.length+j:=by omega
   have i2:((P.length:Int)+((j+1:Nat):Int)).toNat=P.length+j+1:=by omega
   rw[wr (n:=(P.length:Int)+((j+1:Nat):Int)-1) (by omega) (by omega),i0];refine VJ h i hsi hr (by omega) (by omega) (by rw[i2];exact g2) (by rw[i1];exact g1) λs' w hr h=>?_;rw[i1,i2,g3]at hr;rw[yq]at h;exact hag (q-1) _ w (by omega) ⟨j,s',rfl,by omega,by omega,hr,h⟩
  ·have e:j=d:=by omega
   subst e;refine⟨(),rfl,hk (A.take j++y::A.drop j) s w ?_ ?_ (by simpa using hr) h⟩
   ·have sA':=sA;rw[←List.take_append_drop j A]at sA';have sA':=List.pairwise_append.1 sA';refine List.pairwise_append.2 ⟨sA'.1,List.pairwise_cons.2 ⟨λz hz=>?_,sA'.2.1⟩,λx hx z hz=>?_⟩
    ·obtain⟨i,hi,hz'⟩:=QM hz;exact .inl (h2 i z hz' hi)
    ·rcases List.mem_cons.1 hz with rfl | hz
     ·obtain⟨i,hi,hz'⟩:=QL hx;have q1:=h1 i x hz' hi;have q2:=hy2 x (List.mem_of_mem_take hx);unfold qr;omega
     ·exact sA'.2.2 x hx z hz
   ·refine List.perm_middle.trans ?_;rw[List.take_append_drop];exact(List.perm_append_singleton y A).symm
def kL(h:St w0 E w)(i:Nat){s:Seg}(hi:nth E i=some s){v:Sl}{M:List (Int×Int)}(hr:Rw eC zh 2 v M s)(hn:M.length≤20)
  (hb:∀x∈M,-4611686018427387904<x.1∧x.1<4611686018427387904) {k:Unit→PT} (hk:∀s' w',Rw eC zh 2 v (Zb M) s'→St w0 (zp E i s') w'→k () w') :
  L.call Pr zx [.slice v.a v.len v.cap,XP] (.tup []) k w:=by
 refine zC (zR _ ⟨.func zt,#[],#[]⟩) ?_;unfold zG;refine zC (ZF _ _ ⟨.func zt,#[],#[]⟩) ?_;unfold zY;have hlen:=Rw.len yX hr;have hr0:Rw eC zh 2 v ([]++(M++[])) s:=by simpa using hr
 have fin:∀{s' w},Rw eC zh 2 v (Zb M) s'→St w0 (zp E i s') w→L.loop (Y:=Int×Unit) (20,()) (λy5 again6=>
   L.ite (decide (y5.1<((v.len:Nat):Int))) (
    L.loop (Y:=Int×Int×Unit) (0,Wi (2*y5.1),()) λy7 again8=>
    L.ite (decide (y7.2.1≤((v.len:Nat):Int))) (
     L.call Pr zj [.slice v.a v.len v.cap,.int .i64 y7.1,.int .i64 (Wi (y7.1+y5.1)),.int .i64 y7.2.1,XP] (.tup []) λ(x9:Unit)=>
     again8 (y7.2.1,Wi (y7.2.1+(Wi (2*y5.1))),()))<|
    L.join (Y:=Unit) (λk10=>
     L.ite (decide ((Wi (y7.1+y5.1))<((v.len:Nat):Int))) (
      L.call Pr zj [.slice v.a v.len v.cap,.int .i64 y7.1,.int .i64 (Wi (y7.1+y5.1)),.int .i64 ((v.len:Nat):Int),XP] (.tup []) λ(x12:Unit)=>
      k10 (()))<|
     k10 (())) λz11=>
    again6 (Wi (y5.1*2),()))<|
   λw=>∃x:Unit,Value.tuple #[]=RT.val (.tup []) x∧∃y:Unit,Value.tuple #[]=RT.val (.tup []) y∧k y w) w:=by
  intro s' w hr h;refine Zy (λq y w'=>y=(20,())∧w'=w) 0 ⟨rfl,rfl⟩ ?_;rintro q y w' ⟨rfl,rfl⟩ again hag;refine itF (decide_eq_false (by dsimp only;omega)) ?_;exact⟨(),rfl,(),rfl,hk s' _ hr h⟩
 refine Zy (λq y w=>(q=1∧y=(0,20,())∧St w0 E w)∨(q=0∧y=(20,40,())∧M.length=20∧∃s',Rw eC zh 2 v (Zb M) s'∧St w0 (zp E i s') w)) 1 (.inl ⟨rfl,rfl,h⟩) ?_;clear h;rintro q y w (⟨rfl,rfl,h⟩ | ⟨rfl,rfl,h20,s',hr',h⟩) again hag<;>dsimp only
 ·refine it (λhc=>?_) (λhc=>?_)<;>(try simp only[zB]at hc)
  ·refine qJ (P:=[]) (M:=M) (R:=[]) h i hi hr0 (by simp;omega) hb (by rfl) (by simp;omega) λs' w hr' h=>?_;rw[wr (by omega) (by omega)];exact hag 0 _ w (by omega) (.inr ⟨rfl,rfl,by omega,s',by simpa using hr',h⟩)
  ·refine qJ (P:=[]) (M:=M) (R:=[]) h i hi hr0 (by simp;omega) hb (by rfl) (by simp;omega) λs' w hr' h=>?_;exact fin (by simpa using hr') h
 ·refine itF (decide_eq_false (by omega)) ?_;refine qJ (P:=Zb M) (M:=[]) (R:=[]) h i (yR hi) (by simpa using hr') (by simp[Zj];omega) (by simp) (by rw[Zj];omega) (by rw[Zj];simp;omega) λs' w hr' h=>?_;rw[yq]at h;exact fin (by simpa [Zb]using hr') h
def Qq{p:Int×Int→Bool}{c:Int×Int}:∀{l:List (Int×Int)},l.Pairwise (λa b=>a.1≤b.1)→
  (YX c l).find? p=match l.find? p with | none=>if p c=true then some c else none | some y=>if p c=true∧c.1<y.1 then some c else some y
 | [],_=>by by_cases h:p c=true<;>simp[YX,h]
 | y::l,hp=>by
  rw[List.pairwise_cons]at hp;simp only[YX];split
  ·rename_i hlt;by_cases h:p c=true
   ·rw[List.find?_cons_of_pos h]
    cases hf:(y::l).find? p with
    | none=>simp[h]
    | some z=>
     have hz:c.1<z.1:=by
      rcases List.mem_cons.1 (List.mem_of_find?_eq_some hf)with rfl | hz
      ·exact hlt
      ·have:=hp.1 z hz;omega
     simp[h,hz]
   ·rw[List.find?_cons_of_neg h]
    cases hf:(y::l).find? p<;>simp[h]
  ·rename_i hlt;by_cases hy:p y=true
   ·rw[List.find?_cons_of_pos hy,List.find?_cons_of_pos hy];simp[hlt]
   ·rw[List.find?_cons_of_neg hy,List.find?_cons_of_neg hy];exact Qq hp.2
def can(x:zF):Bool:=decide (x.pod.st=2∧(x.pod.reqs.length:Int)<x.pod.conc)
def Yc(b:Option zF)(x:zF):Option zF:=match b with
 | none=>if can x=true then some x else none
 | some y=>if can x=true∧x.pod.reqs.length<y.pod.reqs.length then some x else some y
def qB(l:List zF)(rev:B0):Option zF:=(revs l rev).foldl Yc none
def key(x:zF):Int×Int:=(x.pod.reqs.length,x.id)
def Qp{p:Int×Int→Bool}:∀(n:Nat){R:List zF},R.length=n→(∀x∈R,p (key x)=can x)→(Zb (R.map key)).find? p=(R.foldl Yc none).map key
 | 0,R,hn,_=>by
  have:=List.eq_nil_of_length_eq_zero hn;subst this;rfl
 | n+1,R,hn,h=>by
  obtain⟨R',x,rfl⟩:∃R' x,R=R'++[x]:=⟨R.dropLast,R.getLast (by intro e;subst e;simp at hn),(List.dropLast_concat_getLast _).symm⟩;have ih:=Qp (p:=p) n (R:=R') (by simpa using hn) λy hy=>h y (by simp[hy]);have hx:=h x (by simp);have e:Zb ((R'++[x]).map key)=YX (key x) (Zb (R'.map key)):=by simp[Zb,List.foldl_append]
  rw[e,Qq (uS _),ih,List.foldl_append];simp only[List.foldl_cons,List.foldl_nil]
  cases R'.foldl Yc none with
  | none=>simp only[Option.map_none,Yc,hx];split<;>rfl
  | some y=>
   simp only[Option.map_some,Yc,hx];by_cases hc:can x=true∧x.pod.reqs.length<y.pod.reqs.length
   ·rw[if_pos hc,if_pos ⟨hc.1,by simp only[key];omega⟩];rfl
   ·rw[if_neg hc,if_neg (λhh=>hc ⟨hh.1,by have:=hh.2;simp only[key]at this;omega⟩)];rfl
def zr.Ok.where_upd{F:zr}(ok:F.Ok){id:Int}{x:zF}(hx:yL F.l id=some x)(g:yu→yu)(hq:∀q∈(g x.pod).reqs,q∈x.pod.reqs∨zT F.l q=none)
  (h4:(g x.pod).st=4→(g x.pod).reqs = []) (q:Int):(zT (yD F.l id g) q).map (·.id)=if q∈(g x.pod).reqs then some id else if q∈x.pod.reqs then none else(zT F.l q).map (·.id):=by
 obtain⟨hm,rfl⟩:=Yp hx;obtain⟨A,B,hl⟩:=List.append_of_mem hm;have pw:=ok.pw;have once:=ok.once;have hno:zT F.l q=none→∀y∈A++x::B,q∉y.pod.reqs:=λh=>by rw[hl]at h;exact js h
 have hq:=hq q;rw[hl]at pw once ⊢;rw[List.pairwise_append,List.pairwise_cons]at once;rw[JJ pw];have hA:(q∈x.pod.reqs∨q∈(g x.pod).reqs)→∀y∈A,q∉y.pod.reqs:=λh y hy hqy=>by
  have h:q∈x.pod.reqs∨zT F.l q=none:=h.elim .inl λh=>hq h;rcases h with h | h
  ·exact once.2.2 y hy x (by simp) q hqy h
  ·exact hno h y (by simp[hy]) hqy
 have hB:(q∈x.pod.reqs∨q∈(g x.pod).reqs)→∀y∈B,q∉y.pod.reqs:=λh y hy hqy=>by
  have h:q∈x.pod.reqs∨zT F.l q=none:=h.elim .inl λh=>hq h;rcases h with h | h
  ·exact once.2.1.1 y hy q h hqy
  ·exact hno h y (by simp[hy]) hqy
 have fn:∀{l:List zF},(∀y∈l,q∉y.pod.reqs)→List.find? (λx=>decide (q∈x.pod.reqs)) l=none:=λh=>by
  rw[List.find?_eq_none];exact λy hy=>by simpa using h y hy
 unfold zT;simp only[List.find?_append];by_cases h1:q∈(g x.pod).reqs
 ·rw[if_pos h1,fn (hA (.inr h1)),Option.none_or];have:(g x.pod).st≠4:=λe=>by rw[h4 e]at h1;simp at h1
  rw[if_neg this,List.find?_cons_of_pos (by simpa using h1)];rfl
 ·rw[if_neg h1];have hg:List.find? (λx=>decide (q∈x.pod.reqs)) (if(g x.pod).st=4 then []else [{ x with pod:=g x.pod }])=none:=by
   split
   ·rfl
   ·rw[List.find?_cons_of_neg (by simpa using h1)];rfl
  rw[hg,Option.none_or];by_cases h2:q∈x.pod.reqs
  ·rw[if_pos h2,fn (hA (.inl h2)),fn (hB (.inl h2))];rfl
  ·rw[if_neg h2,List.find?_cons_of_neg (by simpa using h2)]
structure Cut(p q h:Nat)(A B:List (Int×Int))(c:Nat):Prop where
 c1:c≤p
 c2:c≤h
 c3:h-c≤q
 lo:∀x∈A.take c,∀y∈B.drop (h-c),x.1≤y.1
 hi:∀y∈B.take (h-c),∀x∈A.drop c,y.1<x.1
def Kp{p q h c c0 d0:Nat}{A B:List (Int×Int)}(hp:p=A.length)(hq:q=B.length)(hh:h=(p+q)/2)(sA:Ls A)(sB:Ls B)(h0:(p≤h∧c0=0∧d0=p)∨(h<p∧c0+q=h∧d0=h))(hc0:c0≤c)(hc1:c≤d0)
  (hT:∀e x y,c0≤e→e<c→A[e]? = some x→B[h-1-e]? = some y→¬y.1<x.1) (hF:∀e x y,c≤e→e<d0→A[e]? = some x→B[h-1-e]? = some y→y.1<x.1):Cut p q h A B c:=by
 subst hp hq;refine⟨by omega,by omega,by omega,λx hx y hy=>?_,λy hy x hx=>?_⟩
 ·obtain⟨i,hi,hx⟩:=QL hx;obtain⟨j,hj,hy⟩:=QM hy;have hil:=(List.getElem?_eq_some_iff.1 hx).1;have hjl:=(List.getElem?_eq_some_iff.1 hy).1;have hcc:c0<c:=by omega
  have a1:A[c-1]? = some A[c-1]:=List.getElem?_eq_getElem (by omega);have b1:B[h-1-(c-1)]? = some B[h-1-(c-1)]:=List.getElem?_eq_getElem (by omega);have q1:=hT (c-1) _ _ (by omega) (by omega) a1 b1;have q2:=Ja sA (by omega) hx a1;have q3:=Ja sB (by omega) b1 hy;omega
 ·obtain⟨i,hi,hx⟩:=QM hx;obtain⟨j,hj,hy⟩:=QL hy;have hil:=(List.getElem?_eq_some_iff.1 hx).1;have hjl:=(List.getElem?_eq_some_iff.1 hy).1;have hcc:c<d0:=by omega
  have a1:A[c]? = some A[c]:=List.getElem?_eq_getElem (by omega);have b1:B[h-1-c]? = some B[h-1-c]:=List.getElem?_eq_getElem (by omega);have q1:=hF c _ _ (by omega) hcc a1 b1;have q2:=Ja sA (by omega) a1 hx;have q3:=Ja sB (by omega) hy b1;omega
abbrev bdC(x:Int×Int):Prop:=-4611686018427387904<x.1∧x.1<4611686018427387904
def Kt:∀(N:Nat){w:World}{E:List Seg}(_:St w0 E w)(i:Nat){s:Seg}(_:nth E i=some s){v:Sl}{P A B R:List (Int×Int)}(_:Rw eC zh 2 v (P++(A++(B++R))) s)(_:(P++(A++(B++R))).length<1000000000)(_:A.length+B.length≤N)(_:A≠[])(_:B≠[])
  (_:Ls A) (_:Ls B) (_:∀x∈A,∀y∈B,x.2<y.2) (_:∀x∈A,bdC x) (_:∀x∈B,bdC x) {a m b:Int} (_:a=P.length) (_:m=P.length+A.length) (_:b=P.length+(A.length+B.length))
  {k:Unit→PT} (_:∀S s' w',Ls S→S.Perm (A++B)→Rw eC zh 2 v (P++(S++R)) s'→St w0 (zp E i s') w'→k () w'),
  L.call Pr zj [.slice v.a v.len v.cap,I a,I m,I b,XP] (.tup []) k w:=by
 intro N
 induction N with
 | zero=>
  intro w E h i s hi v P A B R hr hn hN hA hB;have:=List.length_pos_iff.2 hA;omega
 | succ N ih=>
 intro w E h i s hi v P A B R hr hn hN hA hB sA sB hAB bA bB a m b ha hm hbb k hk;have hA1:=List.length_pos_iff.2 hA;have hB1:=List.length_pos_iff.2 hB;by_cases cA:A.length=1
 ·obtain⟨x,rfl⟩:∃x,A = [x]:=List.length_eq_one_iff.1 cA;exact Ks (P:=P) (x:=x) (B:=B) (R:=R) h i hi hr hn sB (hAB x (by simp)) (bA x (by simp)) bB ha (by simpa using hm) (by simpa using hbb) hk
 by_cases cB:B.length=1
 ·obtain⟨y,rfl⟩:∃y,B = [y]:=List.length_eq_one_iff.1 cB;exact Kr h i hi hr hn cA sA (λx hx=>hAB x hx y (by simp)) (bB y (by simp)) bA ha hm (by simpa using hbb) hk
 subst ha hm hbb;refine zC (zV _ _ _ _ ⟨.func zt,#[],#[]⟩) ?_;unfold zK;simp only[List.length_append]at hn;rw[wr (n:=(P.length:Int)+A.length-P.length) (by omega) (by omega),wr (n:=(P.length:Int)+(A.length+B.length)-(P.length+A.length)) (by omega) (by omega)];refine itF (by simp;omega) ?_;refine itF (by simp;omega) ?_;refine gd (by decide) ?_;obtain⟨hh,hhe⟩:∃hh,hh=(A.length+B.length)/2:=⟨_,rfl⟩;have he:((P.length:Int)+((P.length:Int)+(A.length+B.length)))/2=(P.length:Int)+(hh:Int):=by omega
 rw[kz (a:=(P.length:Int)) (b:=(P.length:Int)+(A.length+B.length)) (by omega) (by omega) (by omega),he];refine Yt (λz w'=>(∃c0 d0:Nat,z=((P.length:Int)+c0,(P.length:Int)+d0,())∧c0≤d0∧((A.length≤hh∧c0=0∧d0=A.length)∨(hh<A.length∧c0+B.length=hh∧d0=hh)))∧w'=w) (λk' hk'=>?_) ?_
 ·refine it (λhc=>?_) (λhc=>?_)<;>(try simp only[zB]at hc)
  ·refine hk' _ _ ⟨⟨hh-B.length,hh,?_,by omega,.inr ⟨by omega,by omega,rfl⟩⟩,rfl⟩;rw[wr (n:=(P.length:Int)+hh+(P.length+A.length)) (by omega) (by omega),wr (by omega) (by omega)]
   congr 1
   omega
  ·exact hk' _ _ ⟨⟨0,A.length,by simp,by omega,.inl ⟨by omega,rfl,rfl⟩⟩,rfl⟩
 rintro z w' ⟨⟨c0,d0,rfl,hcd0,h0⟩,rfl⟩;dsimp only
 refine Zy (λq z w=>∃c d:Nat,z=((P.length:Int)+c,(P.length:Int)+d,())∧q+c=d∧c0≤c∧c≤d∧d≤d0∧(∀e x y,c0≤e→e<c→A[e]? = some x→B[hh-1-e]? = some y→¬y.1<x.1)∧
  (∀e x y,d≤e→e<d0→A[e]? = some x→B[hh-1-e]? = some y→y.1<x.1)∧St w0 E w) (d0-c0) ⟨c0,d0,rfl,by omega,by omega,by omega,by omega,by intros;omega,by intros;omega,h⟩ ?_
 clear h;rintro q z w ⟨c,d,rfl,hq,hc0,hcd,hd,h1,h2,h⟩ again hag
 (try dsimp only)
 refine it (λhc=>?_) (λhc=>?_)<;>(try simp only[zB]at hc)
 ·have he2:((P.length:Int)+c+((P.length:Int)+d))/2=(P.length:Int)+(((c+d)/2:Nat):Int):=by omega
  rw[kz (a:=(P.length:Int)+c) (by omega) (by omega) (by omega),he2];obtain⟨e,hee⟩:∃e,e=(c+d)/2:=⟨_,rfl⟩;rw[←hee];have hel:e<A.length:=by omega
  have hel2:hh-1-e<B.length:=by omega
  have hx:A[e]? = some A[e]:=List.getElem?_eq_getElem hel;have hxm:A[e]∈A:=List.getElem_mem hel;have hy:B[hh-1-e]? = some B[hh-1-e]:=List.getElem?_eq_getElem hel2;have hym:B[hh-1-e]∈B:=List.getElem_mem hel2;generalize A[e]=x at hx hxm;generalize B[hh-1-e]=y at hy hym;have g1:(P++(A++(B++R)))[((P.length:Int)+(e:Int)).toNat]? = some x:=by
   have e1:((P.length:Int)+(e:Int)).toNat=P.length+e:=by omega
   rw[e1,List.getElem?_append_right (by omega)];have e2:P.length+e-P.length=e:=by omega
   rw[e2,List.getElem?_append_left hel,hx]
  rw[wr (n:=(P.length:Int)+hh+(P.length+A.length)) (by omega) (by omega),wr (n:=(P.length:Int)+hh+(P.length+A.length)-1) (by omega) (by omega),wr (n:=(P.length:Int)+hh+(P.length+A.length)-1-(P.length+e)) (by omega) (by omega)];have g0:(P++(A++(B++R)))[((P.length:Int)+hh+(P.length+A.length)-1-(P.length+e)).toNat]? = some y:=by
   have e1:((P.length:Int)+hh+(P.length+A.length)-1-(P.length+e)).toNat=P.length+(A.length+(hh-1-e)):=by omega
   rw[e1,List.getElem?_append_right (by omega)];have e2:P.length+(A.length+(hh-1-e))-P.length=A.length+(hh-1-e):=by omega
   rw[e2,List.getElem?_append_right (by omega)];have e3:A.length+(hh-1-e)-A.length=hh-1-e:=by omega
   rw[e3,List.getElem?_append_left hel2,hy]
  refine gd (by decide) ?_;refine ud h i hi hr (by omega) (by omega) g0 g1 (bB y hym) (bA x hxm) λw h=>?_;refine it (λhl=>?_) (λhl=>?_)<;>(try simp only[zB]at hl)
  ·refine hag (d-(e+1)) _ w (by omega) ⟨e+1,d,?_,by omega,by omega,by omega,hd,λe' x' y' he1 he2 hx' hy'=>?_,h2,h⟩
   ·rw[wr (by omega) (by omega)];congr 1
   ·have q1:=Ja sA (by omega) hx' hx;have q2:=Ja sB (by omega) hy hy';omega
  ·refine hag (e-c) _ w (by omega) ⟨c,e,rfl,by omega,by omega,by omega,by omega,h1,λe' x' y' he1 he2 hx' hy'=>?_,h⟩;have q1:=Ja sA he1 hx hx';have q2:=Ja sB (by omega) hy' hy;omega
 clear hag;have e:d=c:=by omega
 subst e;have C:=Kp rfl rfl hhe sA sB h0 hc0 hd h1 h2;clear h1 h2 h0 hc0 hd hcd;obtain⟨A1,A2,rfl,lA1⟩:∃A1 A2,A=A1++A2∧A1.length=d:=⟨A.take d,A.drop d,(List.take_append_drop ..).symm,by rw[List.length_take];have:=C.c1;omega⟩;obtain⟨B1,B2,rfl,lB1⟩:∃B1 B2,B=B1++B2∧B1.length=hh-d:=⟨B.take (hh-d),B.drop (hh-d),(List.take_append_drop ..).symm,by rw[List.length_take];have:=C.c3;omega⟩;have tA:(A1++A2).take d=A1:=by rw[←lA1,List.take_left]
 have dA:(A1++A2).drop d=A2:=by rw[←lA1,List.drop_left]
 have tB:(B1++B2).take (hh-d)=B1:=by rw[←lB1,List.take_left]
 have dB:(B1++B2).drop (hh-d)=B2:=by rw[←lB1,List.drop_left]
 have hlo:=C.lo;have hhi:=C.hi;have hc2:=C.c2;rw[tA,dB]at hlo;rw[tB,dA]at hhi;clear tA dA tB dB C;have pA:=List.pairwise_append.1 sA;have pB:=List.pairwise_append.1 sB;simp only[List.length_append]at *
 rw[wr (n:=(P.length:Int)+hh+(P.length+((A1.length+A2.length:Nat):Int))) (by omega) (by omega),wr (n:=(P.length:Int)+hh+(P.length+((A1.length+A2.length:Nat):Int))-(P.length+(d:Int))) (by omega) (by omega)];have hend:(P.length:Int)+hh+(P.length+((A1.length+A2.length:Nat):Int))-(P.length+(d:Int))=(P.length:Int)+((hh+A2.length:Nat):Int):=by omega
 rw[hend];have lo2:∀x∈A1,∀y∈B2,qr x y:=λx hx y hy=>by
  have q1:=hlo x hx y hy;have q2:=hAB x (by simp[hx]) y (by simp[hy]);unfold qr;omega
 refine Yt (λ_ w=>∃s,Rw eC zh 2 v (P++(A1++(B1++(A2++(B2++R))))) s∧St w0 (zp E i s) w) (λk' hk'=>?_) ?_
 ·have stay:(A2 = []∨B1 = [])→k' () w:=λhh=>hk' () w ⟨s,by
   have e:P++(A1++(B1++(A2++(B2++R))))=P++((A1++A2)++((B1++B2)++R)):=by rcases hh with rfl | rfl<;>simp
   rw[e];exact hr,by rwa [ZP hi]⟩
  refine it (λhc1=>?_) (λhc1=>?_)<;>(try simp only[zB]at hc1)
  ·refine it (λhc3=>?_) (λhc3=>?_)<;>(try simp only[zB]at hc3)
   ·refine Ku (P:=P++A1) (A:=A2) (B:=B1) (R:=B2++R) h i hi (by simpa using hr) (by simp only[List.length_append];omega) (List.length_pos_iff.1 (by omega)) (List.length_pos_iff.1 (by omega)) (by rw[List.length_append];omega) (by rw[List.length_append];omega) (by rw[List.length_append];omega) λs' w hr h=>?_;exact hk' () w ⟨s',by simpa using hr,h⟩
   ·exact stay (.inr (List.eq_nil_of_length_eq_zero (by omega)))
  ·exact stay (.inl (List.eq_nil_of_length_eq_zero (by omega)))
 clear hr;clear h;rintro _ w ⟨s,hr,h⟩
 (try dsimp only)
 refine Yt (λ_ w=>∃S1 s,Ls S1∧S1.Perm (A1++B1)∧Rw eC zh 2 v (P++(S1++(A2++(B2++R)))) s∧St w0 (zp E i s) w) (λk' hk'=>?_) ?_
 ·have stay:(A1 = []∨B1 = [])→k' () w:=λhh=>hk' () w ⟨A1++B1,s,by
   rcases hh with rfl | rfl
   ·simpa using pB.1
   ·simpa using pA.1,.refl _,by simpa using hr,h⟩
  refine it (λhc1=>?_) (λhc1=>?_)<;>(try simp only[zB]at hc1)
  ·refine it (λhc3=>?_) (λhc3=>?_)<;>(try simp only[zB]at hc3)
   ·refine ih (P:=P) (A:=A1) (B:=B1) (R:=A2++(B2++R)) h i (yR hi) hr (by simp only[List.length_append];omega) (by omega) (List.length_pos_iff.1 (by omega)) (List.length_pos_iff.1 (by omega)) pA.1 pB.1 (λx hx y hy=>hAB x (by simp[hx]) y (by simp[hy]))
     (λx hx=>bA x (by simp[hx])) (λx hx=>bB x (by simp[hx])) rfl (by omega) (by omega) λS1 s' w l1 p1 hr h=>?_
    rw[yq]at h;exact hk' () w ⟨S1,s',l1,p1,hr,h⟩
   ·exact stay (.inr (List.eq_nil_of_length_eq_zero (by omega)))
  ·exact stay (.inl (List.eq_nil_of_length_eq_zero (by omega)))
 clear hr;clear h;rintro _ w ⟨S1,s,l1,p1,hr,h⟩
 (try dsimp only)
 have lS1:S1.length=hh:=by rw[p1.length_eq,List.length_append];omega
 have fin:∀S2 s' w',Ls S2→S2.Perm (A2++B2)→Rw eC zh 2 v ((P++S1)++(S2++R)) s'→St w0 (zp E i s') w'→k () w':=λS2 s' w' l2 p2 hr h=>by
  refine hk (S1++S2) s' w' (List.pairwise_append.2 ⟨l1,l2,λx hx y hy=>?_⟩) ?_ (by simpa using hr) h
  ·rcases List.mem_append.1 (p1.mem_iff.1 hx)with hx | hx<;>rcases List.mem_append.1 (p2.mem_iff.1 hy)with hy | hy
   ·exact pA.2.2 x hx y hy
   ·exact lo2 x hx y hy
   ·exact .inl (hhi x hx y hy)
   ·exact pB.2.2 x hx y hy
  ·refine(p1.append p2).trans ?_;rw[List.append_assoc,List.append_assoc];refine List.Perm.append_left _ ?_;rw[←List.append_assoc,←List.append_assoc];exact List.Perm.append_right _ List.perm_append_comm
 have stay:(A2 = []∨B2 = [])→k () w:=λhh=>fin (A2++B2) s w (by
   rcases hh with rfl | rfl
   ·simpa using pB.2.1
   ·simpa using pA.2.1) (.refl _) (by simpa using hr) h
 refine it (λhc1=>?_) (λhc1=>?_)<;>(try simp only[zB]at hc1)
 ·refine it (λhc3=>?_) (λhc3=>?_)<;>(try simp only[zB]at hc3)
  ·refine ih (P:=P++S1) (A:=A2) (B:=B2) (R:=R) h i (yR hi) (by simpa using hr) (by simp only[List.length_append];omega) (by omega) (List.length_pos_iff.1 (by omega)) (List.length_pos_iff.1 (by omega)) pA.2.1 pB.2.1 (λx hx y hy=>hAB x (by simp[hx]) y (by simp[hy]))
    (λx hx=>bA x (by simp[hx])) (λx hx=>bB x (by simp[hx])) (by rw[List.length_append];omega) (by rw[List.length_append];omega) (by rw[List.length_append];omega) λS2 s' w l2 p2 hr h=>?_
   rw[yq]at h;exact⟨(),rfl,fin S2 s' w l2 p2 hr h⟩
  ·exact⟨(),rfl,stay (.inr (List.eq_nil_of_length_eq_zero (by omega)))⟩
 ·exact⟨(),rfl,stay (.inl (List.eq_nil_of_length_eq_zero (by omega)))⟩
def VL(h:St w0 E w)(i:Nat){s:Seg}(hi:nth E i=some s){v:Sl}{M:List (Int×Int)}(hr:Rw eC zh 2 v M s)(hn:M.length<40)(hid:M.Pairwise λa b=>a.2<b.2)
  (hb:∀x∈M,bdC x) {k:Unit→PT} (hk:∀s' w',Rw eC zh 2 v (Zb M) s'→St w0 (zp E i s') w'→k () w') :
  L.call Pr zx [.slice v.a v.len v.cap,XP] (.tup []) k w:=by
 by_cases h20:M.length≤20
 ·exact kL h i hi hr h20 hb hk
 refine zC (zR _ ⟨.func zt,#[],#[]⟩) ?_;unfold zG;refine zC (ZF _ _ ⟨.func zt,#[],#[]⟩) ?_;unfold zY;have hlen:=Rw.len yX hr;obtain⟨M1,M2,rfl,l1⟩:∃M1 M2,M=M1++M2∧M1.length=20:=⟨M.take 20,M.drop 20,(List.take_append_drop ..).symm,by rw[List.length_take];omega⟩;have p12:=List.pairwise_append.1 hid;rw[List.length_append]at hn h20 hlen;have hb1:∀x∈Zb M1,bdC x:=λx hx=>hb x (by simp[(yx M1).mem_iff.1 hx]);have hb2:∀x∈Zb M2,bdC x:=λx hx=>hb x (by simp[(yx M2).mem_iff.1 hx]);refine Zy (λq y w=>(q=1∧y=(0,20,())∧St w0 E w)∨(q=0∧y=(20,40,())∧∃s',Rw eC zh 2 v (Zb M1++(M2++[])) s'∧St w0 (zp E i s') w)) 1 (.inl ⟨rfl,rfl,h⟩) ?_;clear h;rintro q y w (⟨rfl,rfl,h⟩ | ⟨rfl,rfl,s',hr',h⟩) again hag<;>dsimp only
 ·refine itT (decide_eq_true (by omega)) ?_;refine qJ (P:=[]) (M:=M1) (R:=M2) h i hi (by simpa using hr) (by simp;omega) (λx hx=>hb x (by simp[hx])) (by rfl) (by simp;omega) λs' w hr' h=>?_;rw[wr (by omega) (by omega)];exact hag 0 _ w (by omega) (.inr ⟨rfl,rfl,s',by simpa using hr',h⟩)
 ·refine itF (decide_eq_false (by omega)) ?_;refine qJ (P:=Zb M1) (M:=M2) (R:=[]) h i (yR hi) hr' (by simp[Zj];omega) (λx hx=>hb x (by simp[hx])) (by rw[Zj];omega) (by rw[Zj];omega) λs' w hr' h=>?_;rw[yq]at h;refine Zy (λq y w=>(q=1∧y=(20,())∧∃s',Rw eC zh 2 v (Zb M1++(Zb M2++[])) s'∧St w0 (zp E i s') w)∨(q=0∧y=(40,())∧∃s',Rw eC zh 2 v (Zb (M1++M2)) s'∧St w0 (zp E i s') w)) 1 (.inl ⟨rfl,rfl,s',hr',h⟩) ?_;clear hr';clear h;rintro q y w (⟨rfl,rfl,s',hr',h⟩ | ⟨rfl,rfl,s',hr',h⟩) again hag<;>dsimp only
  ·refine itT (decide_eq_true (by omega)) ?_;rw[wr (n:=2*20) (by omega) (by omega)];refine Zy (λq y w'=>y=(0,2*20,())∧w'=w) 0 ⟨rfl,rfl⟩ ?_;rintro q y w' ⟨rfl,rfl⟩ again2 hag2;dsimp only;refine itF (decide_eq_false (by omega)) ?_;refine Yt (λ_ w=>∃s',Rw eC zh 2 v (Zb (M1++M2)) s'∧St w0 (zp E i s') w) (λk' hk'=>?_) ?_
   ·rw[wr (n:=0+20) (by omega) (by omega)];refine itT (decide_eq_true (by omega)) ?_
    refine Kt (M1.length+M2.length) (P:=[]) (A:=Zb M1) (B:=Zb M2) (R:=[]) h i (yR hi) hr' (by simp[Zj];omega) (by rw[Zj,Zj];omega) (List.length_pos_iff.1 (by rw[Zj];omega)) (List.length_pos_iff.1 (by rw[Zj];omega)) (Xs p12.1) (Xs p12.2.1)
     (λx hx y hy=>p12.2.2 x ((yx M1).mem_iff.1 hx) y ((yx M2).mem_iff.1 hy)) hb1 hb2 (by rfl) (by rw[Zj];simp;omega) (by rw[Zj,Zj];simp;omega) λS s'' w lS pS hr'' h=>?_
    rw[yq]at h;have e:S=Zb (M1++M2):=uH lS (Xs hid) ((pS.trans ((yx M1).append (yx M2))).trans (yx _).symm);subst e;exact hk' () w ⟨s'',by simpa using hr'',h⟩
   ·clear hr';rintro _ w'' ⟨s'',hr'',h⟩
    (try dsimp only)
    rw[wr (n:=20*2) (by omega) (by omega)];exact hag 0 _ w'' (by omega) (.inr ⟨rfl,rfl,s'',hr'',h⟩)
  ·refine itF (decide_eq_false (by omega)) ?_;exact⟨(),rfl,(),rfl,hk s' w hr' h⟩
def YD(F:zr)(rev:B0)(q:Int):zr×Int×Bool:=
 if(zT F.l q).isSome then(F,0,false)else match qB F.l rev with
 | none=>(F,0,false)
 | some x=>({ F with l:=yD F.l x.id λp=>(Za p q).1 },x.id,true)
def UM:∀{R:List zF}{b x:Option zF},R.foldl Yc b=x→(∀y,b=some y→can y=true)→∀y,x=some y→can y=true∧(y∈R∨b=some y)
 | [],b,x,h,hb,y,hy=>by subst h;exact⟨hb y hy,.inr hy⟩
 | z::R,b,x,h,hb,y,hy=>by
  rw[List.foldl_cons]at h;have hz:∀y,Yc b z=some y→can y=true∧(y=z∨b=some y):=by
   intro y hy;unfold Yc at hy
   cases b with
   | none=>simp only at hy;split at hy<;>simp at hy;subst hy;exact⟨by assumption,.inl rfl⟩
   | some u=>
    simp only at hy;split at hy
    ·simp at hy;subst hy;rename_i h;exact⟨h.1,.inl rfl⟩
    ·simp at hy;subst hy;exact⟨hb u rfl,.inr rfl⟩
  have:=UM h (λy hy=>(hz y hy).1) y hy;refine⟨this.1,?_⟩;rcases this.2 with h | h
  ·left;simp[h]
  ·rcases(hz y h).2 with e | e
   ·left;simp[e]
   ·right;exact e
def uu{l:List zF}{rev:B0}{x:zF}(h:qB l rev=some x):x∈l∧x.rev=rev∧can x=true:=by
 have:=UM h (by simp) x rfl;rcases this.2 with h2 | h2
 ·exact⟨(List.mem_filter.1 h2).1,of_decide_eq_true (List.mem_filter.1 h2).2,this.1⟩
 ·cases h2
def UK{x:zF}(hc:can x=true){q:Int}(hq:q∉x.pod.reqs):Za x.pod q=({ x.pod with reqs:=xM q x.pod.reqs },0):=by
 have:=of_decide_eq_true hc;unfold Za;rw[if_neg (by omega),if_neg hq,if_neg (by omega)]
def kb{x:zF}(hc:¬can x=true){q:Int}(hq:q∉x.pod.reqs):(Za x.pod q).1=x.pod∧(Za x.pod q).2≠0:=by
 have:¬(x.pod.st=2∧(x.pod.reqs.length:Int)<x.pod.conc):=λh=>hc (decide_eq_true h);unfold Za;by_cases h:x.pod.st≠2
 ·rw[if_pos h];exact⟨rfl,by simp⟩
 ·rw[if_neg h,if_neg hq,if_pos (by omega)];exact⟨rfl,by simp⟩
def Qt{l:List zF}(once:l.Pairwise (λx y=>∀q∈x.pod.reqs,q∉y.pod.reqs)){x:zF}(hx:x∈l){q:Int}(hq:q∈x.pod.reqs):zT l q=some x:=by
 unfold zT
 induction l with
 | nil=>simp at hx
 | cons y l ih=>
  rw[List.pairwise_cons]at once;rcases List.mem_cons.1 hx with rfl | hx
  ·rw[List.find?_cons_of_pos (by simpa using hq)]
  ·rw[List.find?_cons_of_neg (by simpa using λh=>once.1 x hx q h hq)];exact ih once.2 hx
def VB{F:zr}(ok:F.Ok)(rev:B0)(q:Int):(YD F rev q).1.Ok:=by
 unfold YD;split
 ·exact ok
 ·rename_i hw;split
  ·exact ok
  ·rename_i x hp;obtain⟨hx,-,hc⟩:=uu hp;have hn:zT F.l q=none:=by cases h:zT F.l q<;>simp[h]at hw ⊢
   have ht:=UK hc (js hn x hx);have hcc:=of_decide_eq_true hc;refine ok.upd (jH ok.pw hx) _ ?_ ?_
   ·rw[ht];simp only;omega
   ·rw[ht];intro q2 h2;rcases jF.1 h2 with rfl | h2
    ·exact .inr hn
    ·exact .inl h2
def kJ(h:St w0 E w)(i:Nat){A B:List Tr}{t:Tr}(hi:nth E i=some ((A++t::B).map trS).flatten)(hp:jB t.2.1 t.1.pod t.2.2)(hfew:t.1.pod.reqs.length<10000000){q:Int}{k:Int→PT}
  (hk:∀s' w',jB t.2.1 (Za t.1.pod q).1 s'→St w0 (zp E i ((A++({ t.1 with pod:=(Za t.1.pod q).1 },t.2.1,s')::B).map trS).flatten) w'→k (Za t.1.pod q).2 w') :
  L.call Pr Ye [.pointer (some ⟨t.2.1,0,none⟩),I q] (.one (.one (.int .i64))) k w:=by
 refine kM (h.front i hi).pick 0 rfl hp hfew λs' w hp' h=>hk s' w hp' ?_;have h:St w0 (trS ({ t.1 with pod:=(Za t.1.pod q).1 },t.2.1,s')::((A++B).map trS).flatten::Zt E i) w:=h;exact St.back i hi h.place
def FlR.same{F:zr}{A B:List Tr}{t:Tr}{mA mW}(hr:FlR F (A++t::B) mA mW){s':Seg}(hp:jB t.2.1 t.1.pod s'):FlR F (A++(t.1,t.2.1,s')::B) mA mW:=by
 refine⟨by rw[hr.l];simp,λy hy=>?_,by have:=hr.all;simp only[List.map_append,List.map_cons]at this ⊢;exact this,hr.wth⟩;rcases List.mem_append.1 hy with hy | hy
 ·exact hr.ps y (by simp[hy])
 ·rcases List.mem_cons.1 hy with rfl | hy
  ·exact hp
  ·exact hr.ps y (by simp[hy])
def FlR.getW{F:zr}{L:List Tr}{mA mW}(hr:FlR F L mA mW)(q:Int):(Zn mW q).isSome=(zT F.l q).isSome:=by rw[hr.wth];cases zT F.l q<;>rfl
def xV(h:St w0 E w)(i:Nat){b:Nat}{F:zr}{s:Seg}(hi:nth E i=some s)(hf:FlS b F s){rev:B0}{q:Int}(h20:(revs F.l rev).length≤30)(hfew:∀x∈F.l,x.pod.reqs.length<10000000){k:Int×Bool×Unit→PT}
  (hk:∀s' w',FlS b (YD F rev q).1 s'→St w0 (zp E i s') w'→k ((YD F rev q).2.1,(YD F rev q).2.2,()) w') :
  L.call Pr Zd [pO b,.string rev,I q] (.tup [.one (.int .i64),.one .bool]) k w:=by
 have hf0:=hf;obtain⟨ok,rA,rW,mA,mW,sA,sW,L,hA,hW,hr,rfl⟩:=hf;refine zC (xw _ _ _) ?_;unfold jg;have hll:L.length=F.l.length:=by rw[hr.l];simp
 have hcount:=ok.few;have h:St w0 (flB b rA rW F::sA::sW::(L.map trS).flatten::Zt E i) w:=(h.front i hi).eq (by simp)
 (refine nn ?_;refine ldC h ?_)
 refine MpS.get2 mkI JC zi (λx:Int=>x) (λ_=>rfl) h 2 rfl hW ?_;rw[hr.getW];refine it (λhc=>?_) (λhc=>?_)<;>(try simp only[zB]at hc)
 ·have e:YD F rev q=(F,0,false):=by unfold YD;rw[if_pos hc]
  rw[e]at hk;exact⟨(0,false,()),rfl,hk _ w hf0 (St.back i hi (h.eq (by simp)))⟩
 have hn:zT F.l q=none:=by cases h:zT F.l q<;>simp[h]at hc ⊢
 have hno:=js hn;refine nw h ?_;clear h;intro b4 w h;refine kP h λc0 c1 w h=>?_;have h:=jz (jz (jU (jU h)));have h:St w0 ([[Cl c1 Zz [.string rev]],[Cl c0 zy [.pointer (some ⟨b,0,none⟩)]],flB b rA rW F,sA]++[Cl b4 zI [SlV ⟨none,0,0⟩]]::[]::sW::(L.map trS).flatten::Zt E i) w:=h.eq (by simp);have hR:=hr.revs rev;have hlR:(L.filter (yp rev)).length≤30:=by rw[hR,List.length_map]at h20;exact h20
 refine JF (A:=[_,_,_,_]) (kI ok hA hr) h (λm G=>∃v sv,Rw eC zh 2 v (((L.filter (yp rev)).take m).map λt=>key t.1) sv∧G = [Cl b4 zI [SlV v]]::sv::sW::(L.map trS).flatten::Zt E i) (λj G=>False) ⟨_,_,Rw.nil,rfl⟩ ?_ ?_ ?_
 ·rintro m G X w lv lp d R hm ⟨v,sv,hv,rfl⟩ h hN hE;have hx:=List.getElem?_eq_getElem hm;have h:St w0 ([Rec lv lp .busy none]::[DfM d]::[Cl c1 Zz [.string rev]]::[Cl c0 zy [.pointer (some ⟨b,0,none⟩)]]::flB b rA rW F::sA::[Cl b4 zI [SlV v]]::sv::sW::(L.map trS).flatten::(Zt E i++X)) w:=h;rw[XY hm]
  (try dsimp only)
  have hmem:=qq hm;have hps:=hr.ps _ hmem
  (refine dr h ?_;clear h;intro w h;refine ldC h ?_)
  refine xU h 9 rfl hmem hps ?_
  (refine ckC h ?_)
  refine nw h ?_;clear h;intro b11 w h
  (refine ckC h ?_)
  refine Rw.app yX elC h 7 rfl hv (key (L.filter (yp rev))[m].1) rfl (by simp;omega) (by simp;omega) λv' s' w hv h=>?_
  (dsimp only[zp,List.cons_append,List.nil_append]at h;refine stC h ?_;clear h;intro w h;dsimp only[yT,zp]at h)
  refine hN _ w ⟨v',s',?_,rfl⟩ h;rw[List.take_add_one,hx,List.map_append];exact hv
 ·rintro d G w ⟨v,sv,hv,rfl⟩ h;have h:St w0 ([DfM d]::[Cl c1 Zz [.string rev]]::[Cl c0 zy [.pointer (some ⟨b,0,none⟩)]]::flB b rA rW F::sA::[Cl b4 zI [SlV v]]::sv::sW::(L.map trS).flatten::Zt E i) w:=h;rw[List.take_length]at hv;have e:(L.filter (yp rev)).map (λt=>key t.1)=(revs F.l rev).map key:=by rw[hR,List.map_map];rfl
  rw[e]at hv;have h:=QV (kE h);refine uI ?_
  (refine ldC h ?_)
  refine VL h 4 rfl hv (by rw[List.length_map];omega) (by
   rw[List.pairwise_map];exact(ok.pw.filter _).imp λhxy=>hxy) (λc hc=>by
   obtain⟨x,hx,rfl⟩:=List.mem_map.1 hc;have:=hfew x (List.mem_filter.1 hx).1;simp only[key];omega) λsv w hv h=>?_
  have hfp:=Qp (p:=λc=>((yL F.l c.2).map can).getD false) _ (R:=revs F.l rev) rfl λx hx=>by
   have:=jH ok.pw (List.mem_filter.1 hx).1;show((yL F.l x.id).map can).getD false=_;rw[this];rfl
  have hcm:∀c∈Zb ((revs F.l rev).map key),∃x∈F.l,c=key x:=λc hc=>by
   obtain⟨x,hx,rfl⟩:=List.mem_map.1 ((yx _).mem_iff.1 hc);exact⟨x,(List.mem_filter.1 hx).1,rfl⟩
  have hpk:qB F.l rev=(revs F.l rev).foldl Yc none:=rfl;rw[←hpk]at hfp;have hcl:(Zb ((revs F.l rev).map key)).length≤30:=by rw[Zj,List.length_map];exact h20
  have hlv:=Rw.len yX hv;generalize Zb ((revs F.l rev).map key)=cs at hv hfp hcm hcl hlv
  (dsimp only[zp,List.cons_append,List.nil_append]at h;refine ldC h ?_)
  have h:St w0 ([DfM d]::flB b rA rW F::sA::[Cl b4 zI [SlV v]]::sv::sW::(L.map trS).flatten::Zt E i) w:=h
  refine Zy (λp y w=>∃(j:Nat)(L:List Tr),y=((j:Int),())∧p+j=cs.length∧(∀c∈cs.take j,((yL F.l c.2).map can).getD false=false)∧FlR F L mA mW∧
   St w0 ([DfM d]::flB b rA rW F::sA::[Cl b4 zI [SlV v]]::sv::sW::(L.map trS).flatten::Zt E i) w) cs.length ⟨0,L,rfl,rfl,by simp,hr,h⟩ ?_
  clear hr hf0 hR hlR e hll;clear h;rintro p y w ⟨j,L,rfl,hp,hfn,hr,h⟩ again hag
  (try dsimp only)
  refine it (λhc=>?_) (λhc=>?_)<;>(try simp only[zB]at hc)
  ·have hj:j<cs.length:=by omega
   have hxj:cs[j]? = some cs[j]:=List.getElem?_eq_getElem hj;have hdrop:cs=cs.take j++cs[j]::cs.drop (j+1):=by rw[←List.drop_eq_getElem_cons hj,List.take_append_drop]
   obtain⟨x,hxl,hcx⟩:=hcm _ (List.getElem_mem hj);rw[hcx]at hxj hdrop;have hfx:=jH ok.pw hxl;obtain⟨A,t,B,rfl,rfl,-⟩:=hr.at hfx;have hg:=hr.get ok (t:=t) (by simp);have hps:=hr.ps t (by simp);have hqx:=hno t.1 hxl;refine Rw.ix yX hv (by omega) (by simpa using hj) λa ha=>?_;rw[Int.toNat_natCast]at ha;refine Rw.lda yX h 4 rfl hv ha hxj rfl ?_;refine nw h ?_;clear h;intro b22 w h
   (refine stC h ?_;clear h;intro w h;dsimp only[yT,zp]at h;refine dr h ?_;clear h;intro w h;refine nn ?_;refine ldC h ?_;refine ldC h ?_)
   refine MpS.get mkI ZO zo (λx:B0×Option Addr=>(x.1,x.2,())) (λ_=>rfl) h 3 rfl hA ?_;rw[show Zn mA (key t.1).2=_ from hg];simp only[Option.map_some,Option.getD_some];refine kJ h 7 rfl hps (hfew _ hxl) λs' w hps' h=>?_;by_cases hcan:can t.1=true
   ·have ht:=UK hcan hqx;refine itT (by rw[ht];rfl) ?_;have hfd:qB F.l rev=some t.1:=by
     have:cs.find? (λc=>((yL F.l c.2).map can).getD false)=some (key t.1):=by
      rw[hdrop,List.find?_append,List.find?_cons_of_pos (by show((yL F.l t.1.id).map can).getD false=true;rw[hfx];exact hcan)];rw[List.find?_eq_none.2 (λc hc=>by rw[hfn c hc];simp)];rfl
     rw[this]at hfp
     cases hpk:qB F.l rev with
     | none=>rw[hpk]at hfp;cases hfp
     | some y=>
      rw[hpk]at hfp;have hid:y.id=t.1.id:=by simp only[Option.map_some,Option.some.injEq,key,Prod.mk.injEq]at hfp;exact hfp.2.symm
      have h1:=jH ok.pw (uu hpk).1;rw[hid,hfx]at h1;exact h1.symm
    have e:YD F rev q=({ F with l:=yD F.l t.1.id λp=>(Za p q).1 },t.1.id,true):=by
     unfold YD;rw[hn,hfd];rfl
    have okT:=VB ok rev q;rw[e]at hk okT;have hrq:(Za t.1.pod q).1.reqs=xM q t.1.pod.reqs:=by rw[ht]
    have hst:(Za t.1.pod q).1.st≠4:=by rw[ht];have:=of_decide_eq_true hcan;simp only;omega
    (dsimp only[zp,List.cons_append,List.nil_append]at h;refine dr h ?_;clear h;intro w h;refine nn ?_;refine ldC h ?_;refine ldC h ?_)
    refine MpS.set mkI JC h 6 rfl hW t.1.id rfl λsW' w hW' h=>?_
    (dsimp only[zp,List.cons_append,List.nil_append]at h;refine ldC h ?_)
    (first | refine vp h ?_ | refine vo h ?_ | refine vm h ?_ | refine vl h ?_ | refine vk h ?_ | refine vj h ?_ | refine vi h ?_ | refine vh h ?_ | refine vg h ?_ | refine vf h ?_ | refine qY h ?_ | refine qX h ?_);clear h;intro w h
    refine⟨(t.1.id,true,()),rfl,hk _ w ⟨okT,rA,rW,mA,_,sA,sW',_,hA,hW',hr.upd ok (λp=>(Za p q).1) hps' hst λq'=>?_,rfl⟩ ?_⟩
    ·rw[Qe,ok.where_upd hfx _ (λq2 h2=>by
      rw[hrq]at h2;rcases jF.1 h2 with rfl | h2
      ·exact .inr hn
      ·exact .inl h2) (λh4=>absurd h4 hst),hrq]
     by_cases eq:q=q'
     ·subst eq;rw[if_pos rfl,if_pos (jF.2 (.inl rfl))]
     ·rw[if_neg eq];by_cases hq2:q'∈t.1.pod.reqs
      ·rw[if_pos (jF.2 (.inr hq2)),hr.wth,Qt ok.once hxl hq2];rfl
      ·rw[if_neg (λhh=>(jF.1 hh).elim (λe=>eq e.symm) hq2),if_neg hq2,hr.wth]
    ·refine St.back i hi ?_
     (try dsimp only[zp]at h)
     have h:=JN (kD (vN h));exact h.eq (by simp)
   ·have ht:=kb hcan hqx;refine itF (by simpa using ht.2) ?_;rw[ht.1]at hps';have h:=JN h;refine hag (p-1) _ w (by omega) ⟨j+1,A++(t.1,t.2.1,s')::B,?_,by omega,?_,hr.same hps',?_⟩
    ·rw[wr (by omega) (by omega)];simp
    ·intro c hc;rw[List.take_add_one,hxj]at hc;rcases List.mem_append.1 hc with hc | hc
     ·exact hfn c hc
     ·simp at hc;subst hc;show((yL F.l t.1.id).map can).getD false=false;rw[hfx];simpa using hcan
    ·have h:St w0 ([DfM d]::flB b rA rW F::sA::[Cl b4 zI [SlV v]]::sv::sW::((A++({ t.1 with pod:=(Za t.1.pod q).1 },t.2.1,s')::B).map trS).flatten::Zt E i) w:=h;rw[ht.1]at h;exact h
  ·have hj:j=cs.length:=by omega
   subst hj;rw[List.take_length]at hfn;have hfd:qB F.l rev=none:=by
    rw[List.find?_eq_none.2 (λc hc=>by rw[hfn c hc];simp)]at hfp
    cases hpk:qB F.l rev with
    | none=>rfl
    | some y=>rw[hpk]at hfp;cases hfp
   have e:YD F rev q=(F,0,false):=by unfold YD;rw[hn,hfd];rfl
   rw[e]at hk
   (first | refine vp h ?_ | refine vo h ?_ | refine vm h ?_ | refine vl h ?_ | refine vk h ?_ | refine vj h ?_ | refine vi h ?_ | refine vh h ?_ | refine vg h ?_ | refine vf h ?_ | refine qY h ?_ | refine qX h ?_);clear h;intro w h
   refine⟨(0,false,()),rfl,hk _ w ⟨ok,rA,rW,mA,mW,sA,sW,L,hA,hW,hr,rfl⟩ (St.back i hi ?_)⟩;have h:=kE (kD h);exact h.eq (by simp)
 ·rintro d j G w hf;exact hf.elim
def xQ(F:zr)(q:Int):zr×B0×Int:=match zT F.l q with
 | none=>(F,s_,6)
 | some x=>({ F with l:=yD F.l x.id λp=>(Zr p q).1 },x.rev,0)
def uP{l:List zF}{q:Int}{x:zF}(h:zT l q=some x):x∈l∧q∈x.pod.reqs:=⟨List.mem_of_find?_eq_some h,by simpa using List.find?_some h⟩
def kA{p:yu}{q:Int}(h:q∈p.reqs):Zr p q=({ p with reqs:=p.reqs.erase q,st:=if p.st=3∧p.reqs.erase q = []then 4 else p.st },0):=by
 unfold Zr;rw[if_pos h]
def kK(h:St w0 E w)(i:Nat){A B:List Tr}{t:Tr}(hi:nth E i=some ((A++t::B).map trS).flatten)(hp:jB t.2.1 t.1.pod t.2.2){q:Int}{k:Int→PT}
  (hk:∀s' w',jB t.2.1 (Zr t.1.pod q).1 s'→St w0 (zp E i ((A++({ t.1 with pod:=(Zr t.1.pod q).1 },t.2.1,s')::B).map trS).flatten) w'→k (Zr t.1.pod q).2 w') :
  L.call Pr Yf [.pointer (some ⟨t.2.1,0,none⟩),I q] (.one (.one (.int .i64))) k w:=by
 refine kO (h.front i hi).pick 0 rfl hp λs' w hp' h=>hk s' w hp' ?_;have h:St w0 (trS ({ t.1 with pod:=(Zr t.1.pod q).1 },t.2.1,s')::((A++B).map trS).flatten::Zt E i) w:=h;exact St.back i hi h.place
def UZ(h:St w0 E w)(i:Nat){b:Nat}{F:zr}{s:Seg}(hi:nth E i=some s)(hf:FlS b F s){q:Int}{k:B0×Int×Unit→PT}
  (hk:∀s' w',FlS b (xQ F q).1 s'→St w0 (zp E i s') w'→k ((xQ F q).2.1,(xQ F q).2.2,()) w') :
  L.call Pr yh [pO b,I q] (.tup [.one .str,.one (.int .i64)]) k w:=by
 have hf0:=hf;obtain⟨ok,rA,rW,mA,mW,sA,sW,L,hA,hW,hr,rfl⟩:=hf;refine zC (xz _ _) ?_;unfold jj;have h:St w0 (flB b rA rW F::sA::sW::(L.map trS).flatten::Zt E i) w:=(h.front i hi).eq (by simp)
 (refine nn ?_;refine ldC h ?_)
 refine MpS.get2 mkI JC zi (λx:Int=>x) (λ_=>rfl) h 2 rfl hW ?_;have hwt:=hr.wth q
 cases hfw:zT F.l q with
 | none=>
  rw[hfw]at hwt;rw[hwt];have e:xQ F q=(F,s_,6):=by unfold xQ;rw[hfw]
  rw[e]at hk;refine itT rfl ?_;exact⟨(s_,6,()),rfl,hk _ w hf0 (St.back i hi (h.eq (by simp)))⟩
 | some x=>
  rw[hfw]at hwt;rw[hwt];refine itF rfl ?_;obtain⟨hxl,hqx⟩:=uP hfw;have hfx:=jH ok.pw hxl;have e:xQ F q=({ F with l:=yD F.l x.id λp=>(Zr p q).1 },x.rev,0):=by unfold xQ;rw[hfw]
  rw[e]at hk;obtain⟨A,t,B,rfl,rfl,-⟩:=hr.at hfx;have hg:=hr.get ok (t:=t) (by simp);have hps:=hr.ps t (by simp);simp only[Option.map_some,Option.getD_some]
  (refine nn ?_;refine ldC h ?_)
  refine MpS.get mkI ZO zo (λx:B0×Option Addr=>(x.1,x.2,())) (λ_=>rfl) h 1 rfl hA ?_;rw[hg];simp only[Option.map_some,Option.getD_some];refine nw h ?_;clear h;intro b7 w h
  (refine stC h ?_;clear h;intro w h;dsimp only[yT,zp]at h;refine ldC h ?_)
  refine kK h 4 rfl hps λs' w hps' h=>?_
  (try dsimp only[zp]at h)
  (refine nn ?_;refine ldC h ?_)
  refine MpS.del mkI JC h 3 rfl hW λsW' w hW' h=>?_
  (try dsimp only[zp]at h)
  have hgv:=kA hqx;have hlv:=ok.live t.1 hxl;have hnd:t.1.pod.reqs.Nodup:=hps.1.pw.imp λh=>by omega
  have hrq:(Zr t.1.pod q).1.reqs=t.1.pod.reqs.erase q:=by rw[hgv]
  have hq2:∀q2∈(Zr t.1.pod q).1.reqs,q2∈t.1.pod.reqs∨zT F.l q2=none:=λq2 h2=>.inl (by rw[hrq]at h2;exact List.mem_of_mem_erase h2);have h4:(Zr t.1.pod q).1.st=4→(Zr t.1.pod q).1.reqs = []:=by
   rw[hgv];simp only;split
   ·rename_i h;exact λ_=>h.2
   ·intro h;omega
  have okG:=ok.upd hfx (λp=>(Zr p q).1) (by rw[hgv];simp only;split<;>omega) hq2;have hwth:∀q',Zn (jm mW q) q'=(zT (yD F.l t.1.id λp=>(Zr p q).1) q').map (·.id):=λq'=>by
   rw[Qf _ _ hW.nd,ok.where_upd hfx _ hq2 h4,hrq];by_cases eq:q=q'
   ·subst eq;rw[if_pos rfl,if_neg (by rw[List.Nodup.mem_erase_iff hnd];simp),if_pos hqx]
   ·rw[if_neg eq];by_cases h2:q'∈t.1.pod.reqs
    ·rw[if_pos ((List.Nodup.mem_erase_iff hnd).2 ⟨λe=>eq e.symm,h2⟩),hr.wth,Qt ok.once hxl h2];rfl
    ·rw[if_neg (λhh=>h2 (List.mem_of_mem_erase hh)),if_neg h2,hr.wth]
  have h:=jU (jU (jU (jU h)));refine VQ (t:=({ t.1 with pod:=(Zr t.1.pod q).1 },t.2.1,s')) h hA hg hps' (λh4'=>?_) λh4' sA' w hA' h=>?_
  ·(refine ldC h ?_)
   refine⟨(t.1.rev,0,()),rfl,hk _ w ⟨okG,rA,rW,mA,_,sA,sW',_,hA,hW',hr.upd ok (λp=>(Zr p q).1) hps' h4' hwth,rfl⟩ (St.back i hi ?_)⟩;have h:=vN h;exact h.eq (by simp)
  ·(refine ldC h ?_)
   refine⟨(t.1.rev,0,()),rfl,hk _ w ⟨okG,rA,rW,_,_,sA',sW',_,hA',hW',hr.del ok (λp=>(Zr p q).1) h4' hwth,rfl⟩ (St.back i hi ?_)⟩;have h:=vN h;exact h.eq (by simp)
def uQ(F:zr)(id:Int):zr×Int:=match yL F.l id with
 | none=>(F,6)
 | some x=>({ F with l:=yD F.l id λp=>(yJ p).1 },(yJ x.pod).2)
def VR(h:St w0 E w)(i:Nat){b:Nat}{F:zr}{s:Seg}(hi:nth E i=some s)(hf:FlS b F s){id:Int}{k:Int→PT}
  (hk:∀s' w',FlS b (uQ F id).1 s'→St w0 (zp E i s') w'→k (uQ F id).2 w') :
  L.call Pr ZH [pO b,I id] (.one (.one (.int .i64))) k w:=by
 refine kY h i hi hf (λhn w h=>?_) (λx hx s' w hf h=>?_)
 ·have e:uQ F id=(F,6):=by unfold uQ;rw[hn]
  rw[e]at hk;exact hk s w hf (by rwa [ZP hi])
 ·have e:uQ F id=({ F with l:=yD F.l id λp=>(yJ p).1 },(yJ x.pod).2):=by unfold uQ;rw[hx]
  rw[e]at hk;exact hk s' w hf h
def FlS.nd{b:Nat}{F:zr}{s:Seg}(hf:FlS b F s):∀x∈F.l,x.pod.reqs.Pairwise (· < ·):=by
 obtain⟨-,_,_,_,_,_,_,L,-,-,hr,-⟩:=hf;intro x hx;rw[hr.l]at hx;obtain⟨t,ht,rfl⟩:=List.mem_map.1 hx;exact(hr.ps t ht).1.pw
def VK{p0 p1:Int}(h:0<p1)(hp:p1≤2147483648){k:Int→PT}(hk:k (p0%p1) w):L.call Pr ZQ [I p0,I p1] (.one (.one (.int .i64))) k w:=by
 refine zC (JA p0 p1) ?_;unfold Yz;refine gd (by omega) ?_;have h1:=Int.emod_nonneg p0 (by omega:p1≠0);have h2:=Int.emod_lt_of_pos p0 h;have e:=ui p0 p1 h;refine Yt (λz w'=>z.1=p0%p1∧w'=w) (λk' hk'=>?_) (λy w' ⟨h1,h2⟩=>by subst h2;exact⟨_,rfl,by rw[h1];exact hk⟩);refine it (λhb=>?_) (λhb=>?_)<;>(try simp only[zB]at hb)
 ·refine hk' _ _ ⟨?_,rfl⟩;rw[e]at hb
  (try dsimp only)
  rw[e];split at hb<;>rename_i hc
  ·omega
  ·rw[if_neg hc,wr]<;>omega
 ·refine hk' _ _ ⟨?_,rfl⟩;rw[e]at hb
  (try dsimp only)
  rw[e];split at hb<;>rename_i hc
  ·rw[if_pos hc]
  ·omega
def kR(h:St w0 E w){k:Bool→PT}(hk:∀w',St w0 E w'→k true w'):L.call Pr yH [] (.one (.one .bool)) k w:=by
 refine zC JR ?_;unfold YH;refine VS h λb s w hf h=>itF rfl ?_;refine uc h 0 rfl hf (itF rfl ?_);refine jc h 0 rfl hf (by decide) (by decide) λv1 v2 s s1 s2 w hf hr1 hr2 h=>?_;have e1:XI ⟨3,0,[]⟩ zl 1 = [1]:=by decide
 have e2:(Yo ⟨3,0,[]⟩ zl 2 1)=(⟨3,1,[⟨1,zl,⟨1,2,[]⟩⟩]⟩,[]):=by rfl
 rw[e1]at hr1;rw[e2]at hf hr2;have hl1:=Rw.len ja hr1;have hl2:=Rw.len ja hr2;refine itT (by simp[hl1]) ?_;refine Rw.ix ja hr1 (by omega) (by simp) λa ha=>?_;refine Rw.ld0 ja h 1 rfl hr1 ha (x:=1) rfl rfl rfl ?_;refine itT rfl (itT (by simp[hl2]) ?_);refine uc h 2 rfl hf (itT rfl ?_);refine kZ h 2 rfl hf (itT ?_ ?_)
 ·rw[vW];rfl
 refine kY h 2 rfl hf (λh=>by cases h) λx hx s w hf h=>?_
 cases hx
 refine⟨true,rfl,hk w ?_⟩;have h:=JN (QV (kE h));exact h
section
variable {F:zr}{rev:B0}{conc:Int}
def oR(l:List zF):Prop:=∀x∈l,x.pod.reqs = []∧x.pod.st≠3
structure oQ(F F':zr)(made gone:List Int)(rev:B0)(want:Int):Prop where
 ok:F'.Ok
 idle:oR F'.l
 room:F'.room=F.room
 last:F'.last=F.last+made.length
 few:(F'.l.length:Int)≤F.room
 one:made = []∨gone = []
 n1:((XH F'.l rev).length:Int)≤want
 n2:((XH F'.l rev).length:Int)<want→F.room≤F'.l.length
 mad:∀(j:Nat)(x:Int),made[j]? = some x→x=F.last+1+j∧fOf F'.l x=rev
 gon:∀x∈gone,fOf F'.l x=s_
 glen:gone.length≤F.l.length+made.length
end
end Go.Proofs.Ytofigcbhafkikaa
namespace Go.Proofs.Ytofigcbhafkikaa
open Go.Dm
attribute [local irreducible] L.load L.store L.chk L.new L.nonnil L.guard L.ite L.draw L.idx L.sem L.semR L.semU L.chkSem L.next L.call L.callV L.join L.alts L.loop L.begin L.endRound L.range
variable {w0 w:World}{E:List Seg}
abbrev kqA:B0:=zl
abbrev kqB:B0:=zJ
def kp(id:Int)(rev:B0)(conc st:Int)(l:List Int):zF:=⟨id,rev,⟨st,conc,l⟩⟩
def oE:Yo ⟨4,0,[]⟩ kqA 2 3=(⟨4,3,[kp 1 kqA 2 1 [],kp 2 kqA 2 1 [],kp 3 kqA 2 1 []]⟩,[]):=by kernel_rfl
def oM:XI ⟨4,0,[]⟩ kqA 3 = [1,2,3]:=by kernel_rfl
def oD:Yo ⟨4,3,[kp 1 kqA 2 1 [],kp 2 kqA 2 1 [],kp 3 kqA 2 1 []]⟩ kqB 1 3=(⟨4,4,[kp 1 kqA 2 1 [],kp 2 kqA 2 1 [],kp 3 kqA 2 1 [],kp 4 kqB 1 1 []]⟩,[]):=by kernel_rfl
def oL:XI ⟨4,3,[kp 1 kqA 2 1 [],kp 2 kqA 2 1 [],kp 3 kqA 2 1 []]⟩ kqB 3 = [4]:=by kernel_rfl
def oq:uQ ⟨4,4,[kp 1 kqA 2 1 [],kp 2 kqA 2 1 [],kp 3 kqA 2 1 [],kp 4 kqB 1 1 []]⟩ 1=(⟨4,4,[kp 1 kqA 2 2 [],kp 2 kqA 2 1 [],kp 3 kqA 2 1 [],kp 4 kqB 1 1 []]⟩,0):=by kernel_rfl
def oo:uQ ⟨4,4,[kp 1 kqA 2 2 [],kp 2 kqA 2 1 [],kp 3 kqA 2 1 [],kp 4 kqB 1 1 []]⟩ 2=(⟨4,4,[kp 1 kqA 2 2 [],kp 2 kqA 2 2 [],kp 3 kqA 2 1 [],kp 4 kqB 1 1 []]⟩,0):=by kernel_rfl
def ox:YD ⟨4,4,[kp 1 kqA 2 2 [],kp 2 kqA 2 2 [],kp 3 kqA 2 1 [],kp 4 kqB 1 1 []]⟩ kqA 10=(⟨4,4,[kp 1 kqA 2 2 [10],kp 2 kqA 2 2 [],kp 3 kqA 2 1 [],kp 4 kqB 1 1 []]⟩,1,true):=by kernel_rfl
def ow:YD ⟨4,4,[kp 1 kqA 2 2 [10],kp 2 kqA 2 2 [],kp 3 kqA 2 1 [],kp 4 kqB 1 1 []]⟩ kqA 11=(⟨4,4,[kp 1 kqA 2 2 [10],kp 2 kqA 2 2 [11],kp 3 kqA 2 1 [],kp 4 kqB 1 1 []]⟩,2,true):=by kernel_rfl
def ov:YD ⟨4,4,[kp 1 kqA 2 2 [10],kp 2 kqA 2 2 [11],kp 3 kqA 2 1 [],kp 4 kqB 1 1 []]⟩ kqA 12=(⟨4,4,[kp 1 kqA 2 2 [10,12],kp 2 kqA 2 2 [11],kp 3 kqA 2 1 [],kp 4 kqB 1 1 []]⟩,1,true):=by kernel_rfl
def kF3:zr:=⟨4,4,[kp 1 kqA 2 2 [10,12],kp 2 kqA 2 2 [11],kp 3 kqA 2 1 [],kp 4 kqB 1 1 []]⟩
def ou:YD kF3 kqB 13=(kF3,0,false):=by kernel_rfl
def ot:YD kF3 kqA 12=(kF3,0,false):=by kernel_rfl
def oC:Yo kF3 kqA 2 2=(⟨4,4,[kp 1 kqA 2 2 [10,12],kp 2 kqA 2 2 [11],kp 4 kqB 1 1 []]⟩,[3]):=by kernel_rfl
def oB:Yo ⟨4,4,[kp 1 kqA 2 2 [10,12],kp 2 kqA 2 2 [11],kp 4 kqB 1 1 []]⟩ kqA 2 1=(⟨4,4,[kp 1 kqA 2 2 [10,12],kp 2 kqA 2 3 [11],kp 4 kqB 1 1 []]⟩,[2]):=by kernel_rfl
def kF5:zr:=⟨4,4,[kp 1 kqA 2 3 [10,12],kp 2 kqA 2 3 [11],kp 4 kqB 1 1 []]⟩
def oA:Yo ⟨4,4,[kp 1 kqA 2 2 [10,12],kp 2 kqA 2 3 [11],kp 4 kqB 1 1 []]⟩ kqA 2 0=(kF5,[1]):=by kernel_rfl
def oG:XH kF5.l kqA = [(1,3,2),(2,3,1)]:=by kernel_rfl
def kF6:zr:=⟨4,4,[kp 1 kqA 2 3 [12],kp 2 kqA 2 3 [11],kp 4 kqB 1 1 []]⟩
def oO:xQ kF5 10=(kF6,kqA,0):=by kernel_rfl
def oN:xQ kF6 10=(kF6,s_,6):=by kernel_rfl
def oF:XH kF6.l kqA = [(1,3,1),(2,3,1)]:=by kernel_rfl
def kF7:zr:=⟨4,5,[kp 1 kqA 2 3 [12],kp 2 kqA 2 3 [11],kp 4 kqB 1 1 [],kp 5 kqB 1 1 []]⟩
def oz:Yo kF6 kqB 1 3=(kF7,[]):=by kernel_rfl
def oK:XI kF6 kqB 3 = [5]:=by kernel_rfl
def oI:fOf kF7.l 3=s_:=by kernel_rfl
def oJ:fOf kF7.l 2=kqA:=by kernel_rfl
def oH:fOf kF7.l 5=kqB:=by kernel_rfl
def yU{α:Type}{x:α}:∀{l:List α},x∈l→∃i,nth l i=some x
 | _::_,.head _=>⟨0,rfl⟩
 | _::_,.tail _ h=>let ⟨i,hi⟩:=yU h;⟨i+1,hi⟩
def KU(h:St w0 E w){v:Sl}{l:List Int}{s:Seg}{g:Nat}(r:Rw eI zf 1 v l s)(hs:s∈E)(hg:[Cl g zf (fl eI l)]∈E){n:Nat}(hl:l.length=n)(hn:n≤100){k:Bool→PT}(hk:∀w',St w0 E w'→k true w') :
  L.call Pr za [SlV v,.slice (some ⟨g,0,none⟩) n n] (.one (.one .bool)) k w:=
 have h4:n≤maxLen:=Nat.le_trans hn (by decide)
 let ⟨i,hi⟩:=yU hs
 let ⟨j,hj⟩:=yU hg
 Kw h (Rw.re ja i hi r) (v2:=⟨some ⟨g,0,none⟩,n,n⟩) (Rw.re ja j hj (Rw.lit g l ja rfl hl.symm h4)) (by omega) λw' h=>by rw[decide_eq_true rfl];exact hk w' h
def kOf(h:St w0 E w){b:Nat}{s:Seg}(hf:FlS b kF7 s)(hs:s∈E){id:Int}{r:B0}(e:fOf kF7.l id=r){k:B0→PT}(hk:k r w):L.call Pr zc [pO b,I id] (.one (.one .str)) k w:=
 let ⟨i,hi⟩:=yU hs
 kZ h i hi hf (by rw[e];exact hk)
def KT(h:St w0 E w){b:Nat}{s:Seg}(hf:FlS b kF7 s)(hs:s∈E){k:Int→PT}(hk:k 4 w):L.call Pr zd [pO b] (.one (.one (.int .i64))) k w:=
 let ⟨i,hi⟩:=yU hs
 uc h i hi hf hk
def kLd(h:St w0 E w){v:Sl}{l:List (Int×Int×Int)}{s:Seg}{n:Nat}{a:Addr}(ha:ElA v 3 n a)(r:Rw eK ZR 3 v l s)(hs:s∈E){x:Int×Int×Int}(hx:l[n]? = some x){f:Nat}{y:Int}(hy:nth (eK x) f=some (I y)){k:Int→PT}(hk:k y w):L.load (.one (.int .i64)) (a.add f) k w:=
 let ⟨i,hi⟩:=yU hs
 Rw.ld qS h i hi r ha hx hy rfl hk
def kCk(h:St w0 E w){v:Sl}{l:List (Int×Int×Int)}{s:Seg}{n:Nat}{a:Addr}(ha:ElA v 3 n a)(r:Rw eK ZR 3 v l s)(hs:s∈E){x:Int×Int×Int}(hx:l[n]? = some x){f:Nat}{y:Int}(hy:nth (eK x) f=some (I y)){k:PT}(hk:k w):L.chk (a.add f) [I y] k w:=
 let ⟨i,hi⟩:=yU hs
 Rw.ckf qS h i hi r ha hx hy hk
def kB(x:Bool):List Value:=[.bool x]
def ekB:Enc kB 1:=⟨λ_=>rfl,λ_=>rfl,by decide⟩
def KS{p0:Int}{b:Nat}(h:St w0 ([Cl b zu (fl kB [true,true,true,true,true,true])]::E) w) :
  L.call Pr ZQ [I p0,I ((6:Nat):Int)] (.one (.one (.int .i64))) (λx=>L.idx (some ⟨b,0,none⟩) x 6 1 λa=>L.load (.one .bool) a λx w=>Value.bool x = .bool true∧St w0 [] w) w:=by
 refine VK (by decide) (by decide) ?_;obtain⟨i,hi⟩:∃i:Nat,p0%((6:Nat):Int)=(i:Int):=⟨(p0%((6:Nat):Int)).toNat,by omega⟩;have hi6:i<6:=by omega
 rw[hi];have r:Rw kB zu 1 ⟨some ⟨b,0,none⟩,6,6⟩ [true,true,true,true,true,true] [Cl b zu (fl kB [true,true,true,true,true,true])]:=Rw.lit b _ ekB rfl rfl (by decide);refine Rw.ix ekB r (n:=(i:Int)) (by omega) (by rw[Int.toNat_natCast];exact hi6) λa ha=>?_;rw[Int.toNat_natCast]at ha;have hx:([true,true,true,true,true,true]:List Bool)[i]? = some true:=by
  match i,hi6 with
  | 0,_=>rfl | 1,_=>rfl | 2,_=>rfl | 3,_=>rfl | 4,_=>rfl | 5,_=>rfl
 refine Rw.ld0 ekB h 0 rfl r ha hx rfl rfl ?_;exact⟨rfl,h.fin⟩
def kQ(w0:World)(y:Sl×Unit)(w:World):Prop:=∃(b:Nat)(E':List Seg)(c1 c2 c3 c4 c5 c6:Bool),y=(⟨some ⟨b,0,none⟩,6,6⟩,())∧(c1=true∧c2=true∧c3=true∧c4=true∧c5=true∧c6=true)∧St w0 ([Cl b zu [.bool c1,.bool c2,.bool c3,.bool c4,.bool c5,.bool c6]]::E') w
attribute [local irreducible] Rw FlS ElA fOf kF7
set_option maxHeartbeats 4000000 in
def ua{p0:Int}:Calls Pr yK [I p0].toArray w0 λe w'=>e = .returned (.bool true)∧St w0 [] w':=by
 refine Ki (jD p0) ?_;unfold ZT;refine kR (St.init w0) λw h=>itF rfl ?_;refine VS h λb sf w hf h=>itF rfl ?_;refine jc h 0 rfl hf (by decide) (by decide) λva v2 sf sa s2 w hf ra r2 h=>?_;rw[oE]at hf r2;rw[oM]at ra;replace h:St w0 [sa,sf] w:=JN h;clear r2;refine jc h 1 rfl hf (by decide) (by decide) λvb v2 sf sb s2 w hf rb r2 h=>?_;rw[oD]at hf r2;rw[oL]at rb;replace h:St w0 [sb,sa,sf] w:=JN h;clear r2;refine VR h 2 rfl hf λsf w hf h=>?_;rw[oq]at hf;replace h:St w0 [sb,sa,sf] w:=h;refine VR h 2 rfl hf λsf w hf h=>?_;rw[oo]at hf;replace h:St w0 [sb,sa,sf] w:=h;refine xV h 2 rfl hf (by decide) (by decide) λsf w hf h=>?_;rw[ox]at hf ⊢;replace h:St w0 [sb,sa,sf] w:=h;refine xV h 2 rfl hf (by decide) (by decide) λsf w hf h=>?_;rw[ow]at hf ⊢;replace h:St w0 [sb,sa,sf] w:=h;refine xV h 2 rfl hf (by decide) (by decide) λsf w hf h=>?_;rw[ov]at hf ⊢;replace h:St w0 [sb,sa,sf] w:=h;replace hf:FlS b kF3 sf:=hf;refine xV h 2 rfl hf (by decide) (by decide) λsf w hf h=>?_;rw[ou]at hf ⊢;replace h:St w0 [sb,sa,sf] w:=h;refine xV h 2 rfl hf (by decide) (by decide) λsf w hf h=>?_;rw[ot]at hf ⊢;replace h:St w0 [sb,sa,sf] w:=h;refine jc h 2 rfl hf (by decide) (by decide) λv1 vc sf s1 sc w hf r1 rc h=>?_;rw[oC]at hf rc;replace h:St w0 [sc,sb,sa,sf] w:=QV h;clear r1;refine jc h 3 rfl hf (by decide) (by decide) λv1 vd sf s1 sd w hf r1 rd h=>?_;rw[oB]at hf rd;replace h:St w0 [sd,sc,sb,sa,sf] w:=QV h;clear r1;refine jc h 4 rfl hf (by decide) (by decide) λv1 ve sf s1 se w hf r1 re h=>?_;rw[oA]at hf re;replace h:St w0 [se,sd,sc,sb,sa,sf] w:=QV h;clear r1;refine UY h 5 rfl hf λvx sx w rx h=>?_;rw[oG]at rx;refine UZ h 6 rfl hf λsf w hf h=>?_;rw[oO]at hf ⊢;replace h:St w0 [sx,se,sd,sc,sb,sa,sf] w:=h;refine UZ h 6 rfl hf λsf w hf h=>?_;rw[oN]at hf ⊢;replace h:St w0 [sx,se,sd,sc,sb,sa,sf] w:=h;refine UY h 6 rfl hf λvy sy w ry h=>?_;rw[oF]at ry;refine jc h 7 rfl hf (by decide) (by decide) λvz v2 sf sz s2 w hf rz r2 h=>?_;rw[oz]at hf;rw[oK]at rz;replace h:St w0 [sz,sy,sx,se,sd,sc,sb,sa,sf] w:=JN h;clear r2;obtain⟨xa,xn,xc⟩:=vx;obtain rfl:xn=2:=Rw.len qS rx;obtain⟨ya,yn,yc⟩:=vy;obtain rfl:yn=2:=Rw.len qS ry;refine Yt (kQ w0) (λk20 hk20=>?_) ?_
 ·dsimp only
  repeat' (first
   | (apply gd;(· (first | rfl | apply beq_self_eq_true)))
   | (apply kCk h;(· assumption);(· assumption);(· (repeat first | apply List.Mem.head | apply List.Mem.tail));(· rfl);(· rfl))
   | (apply kLd h;(· assumption);(· assumption);(· (repeat first | apply List.Mem.head | apply List.Mem.tail));(· rfl);(· rfl))
   | (apply Rw.ix qS rx;(· decide);(· decide);intro a ha)
   | (apply Rw.ix qS ry;(· decide);(· decide);intro a ha)
   | (apply KU h;(· assumption);(· (repeat first | apply List.Mem.head | apply List.Mem.tail));(· (repeat first | apply List.Mem.head | apply List.Mem.tail));(· rfl);(· decide);clear h;intro w h)
   | (apply kOf h hf;(· (repeat first | apply List.Mem.head | apply List.Mem.tail));(· (first | apply oI | apply oJ | apply oH)))
   | (apply KT h hf;(· (repeat first | apply List.Mem.head | apply List.Mem.tail)))
   | apply oc
   | (apply nw h;intro b w h;refine hk20 _ _ ⟨b,_,_,_,_,_,_,_,rfl,⟨rfl,rfl,rfl,rfl,rfl,beq_self_eq_true _⟩,h⟩)
   | (apply nw h;clear h;intro b w h)
   | apply ob
   | (apply dr h;clear h;intro w h))
 clear rx ry ra rb rc rd re rz hf h;rintro y w ⟨b2,E2,c1,c2,c3,c4,c5,c6,rfl,⟨rfl,rfl,rfl,rfl,rfl,rfl⟩,h⟩;exact KS h
end Go.Proofs.Ytofigcbhafkikaa
