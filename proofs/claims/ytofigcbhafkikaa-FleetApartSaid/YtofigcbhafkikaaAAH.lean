/- What is proved on the way to a statement of the seat, pressed (text AH). No conditions beyond those its theorems state. -/
import Derived.Test.YtofigcbhafkikaaAAG
import Derived.Lib.LaidTab
import Derived.Lib.Join
import Derived.Lib.ItoaNum
import Derived.Lib.ItoaMem
import Derived.Below
set_option linter.all false
namespace Go.Dm
def zB:(∀(p:Prop)[Decidable p],(decide p=true)=p)∧(∀(p:Prop)[Decidable p],(decide p=false) = ¬p)∧(∀{α:Type}[BEq α][LawfulBEq α](a b:α),((a == b)=true)=(a=b))∧(∀{α:Type}[BEq α][LawfulBEq α](a b:α),((a != b)=true) = ¬(a=b))∧(∀{α:Type}[BEq α][LawfulBEq α](a b:α),((a == b)=false) = ¬(a=b))∧(∀{α:Type}[BEq α][LawfulBEq α](a b:α),((a != b)=false)=(a=b))∧
 (∀b:Bool,((!b)=true)=(b=false))∧(∀b:Bool,((!b)=false)=(b=true))∧(∀b:Bool,(¬(b=true))=(b=false))∧(∀b:Bool,(¬(b=false))=(b=true))∧(∀{α:Type}(a b:α),(a≠b) = ¬(a=b)):=by
 refine⟨?_,?_,?_,?_,?_,?_,?_,?_,?_,?_,?_⟩<;>intros<;>simp
end Go.Dm
namespace Go.Proofs.Ytofigcbhafkikaa
open Go.Dm
variable {w0 w:World}{E:List Seg}
def wr{n:Int}(h1: -9223372036854775808≤n)(h2:n<9223372036854775808):Wi n=n:=by unfold Wi;rw[IntKind.wrap_i64];omega
def elI:El Pr zn zA 1 8 (I 0):=vl (by kernel_rfl) (by kernel_rfl) rfl (by decide)
def eI(n:Int):List Value:=[I n]
def ZR:Enc eI 1:=⟨λ_=>rfl,λ_=>rfl,by decide⟩
def gw(l:List Int):fl eI l=l.map I:=by
 induction l with
 | nil=>rfl
 | cons x l ih=>simp only[fl,List.flatMap_cons,List.map_cons]at *;rw[ih];rfl
def UO{W:World}{v:Sl}{l:List Int}(h1:v.len=l.length)(h2:∀i x,l[i]? = some x→∃a,v.a=some a∧W.cell? (a.add i)=some (I x)):Old W eI v l:=by
 refine⟨⟨h1,λj u hj=>?_⟩⟩;rw[gw,zk,List.getElem?_map]at hj
 cases hx:l[j]? with
 | none=>rw[hx]at hj;cases hj
 | some x=>rw[hx]at hj;cases hj;exact h2 j x hx
def Uz(p0 p1:Int)(h:0<p1):Int.tmod p0 p1=if 0≤p0∨p1∣p0 then p0%p1 else p0%p1-p1:=by
 rw[Int.tmod_eq_emod];split
 ·simp
 ·omega
end Go.Proofs.Ytofigcbhafkikaa

namespace Go.Proofs
open Go.Shelf
def Try.lays189_ren:Go.Shelf.Ren:=⟨fun | 189=>56 | 125=>62 | 257=>61 | 128=>73 | 129=>74 | 294=>64 | 295=>65 | 296=>66 | 297=>67 | 298=>68 | 299=>69 | 216=>70 | 300=>71 | 301=>72 | 328=>76 | 329=>77 | 330=>78 | 331=>79 | 332=>80 | 215=>81 | 343=>82 | n=>n,fun | 28=>25 | 3=>3 | 46=>103 | 0=>0 | 51=>113 | 53=>115 | 4=>4 | 183=>106 | 182=>105 | 131=>30 | 5=>5 | 9=>9 | 218=>116 | 222=>120 | 228=>122 | 229=>123 | n=>n,fun | n=>n⟩
def Try.lays189:Go.Proofs.Lays.n189 Try.prog Try.lays189_ren:={
 mixed:=by kernel_rfl
 f125:=Try.func62.trans cS
 f128:=Try.func73.trans cS
 f129:=Try.func74.trans cS
 f189:=Try.func56.trans cS
 f215:=Try.func81.trans cS
 f216:=Try.func70.trans cS
 f257:=Try.func61.trans cS
 f294:=Try.func64.trans cS
 f295:=Try.func65.trans cS
 f296:=Try.func66.trans cS
 f297:=Try.func67.trans cS
 f298:=Try.func68.trans cS
 f299:=Try.func69.trans cS
 f300:=Try.func71.trans cS
 f301:=Try.func72.trans cS
 f328:=Try.func76.trans cS
 f329:=Try.func77.trans cS
 f330:=Try.func78.trans cS
 f331:=Try.func79.trans cS
 f332:=Try.func80.trans cS
 f343:=Try.func82.trans cS
 t0:=Try.underlying0
 a0:=Try.isAgg0
 z0:=Try.sizeOf0
 v0:=Try.zeroValue0
 t3:=Try.underlying3
 a3:=Try.isAgg3
 z3:=Try.sizeOf3
 v3:=Try.zeroValue3
 t4:=Try.underlying4
 a4:=Try.isAgg4
 z4:=Try.sizeOf4
 v4:=Try.zeroValue4
 t5:=Try.underlying5
 a5:=Try.isAgg5
 z5:=Try.sizeOf5
 v5:=Try.zeroValue5
 t9:=Try.underlying9
 a9:=Try.isAgg9
 z9:=Try.sizeOf9
 v9:=Try.zeroValue9
 t28:=Try.underlying25
 a28:=Try.isAgg25
 z28:=Try.sizeOf25
 v28:=Try.zeroValue25
 t46:=Try.underlying103
 a46:=Try.isAgg103
 z46:=Try.sizeOf103
 v46:=Try.zeroValue103
 t51:=Try.underlying113
 a51:=Try.isAgg113
 z51:=Try.sizeOf113
 v51:=Try.zeroValue113
 t53:=Try.underlying115
 a53:=Try.isAgg115
 z53:=Try.sizeOf115
 v53:=Try.zeroValue115
 t131:=Try.underlying30
 a131:=Try.isAgg30
 z131:=Try.sizeOf30
 v131:=Try.zeroValue30
 t182:=Try.underlying105
 a182:=Try.isAgg105
 z182:=Try.sizeOf105
 v182:=Try.zeroValue105
 t183:=Try.underlying106
 a183:=Try.isAgg106
 z183:=Try.sizeOf106
 v183:=Try.zeroValue106
 t218:=Try.underlying116
 a218:=Try.isAgg116
 z218:=Try.sizeOf116
 v218:=Try.zeroValue116
 t222:=Try.underlying120
 a222:=Try.isAgg120
 z222:=Try.sizeOf120
 v222:=Try.zeroValue120
 t228:=Try.underlying122
 a228:=Try.isAgg122
 z228:=Try.sizeOf122
 v228:=Try.zeroValue122
 t229:=Try.underlying123
 a229:=Try.isAgg123
 z229:=Try.sizeOf123
 v229:=Try.zeroValue123 }
open Go.Sort Go.RowKit in
def Try.slices_Sort_int(blk off cap:Nat)(zs:List Int)(w:World)(hH:Holds (Value.int .i64) w blk off zs.toArray)(hblk:blk<w.heap.size)(hsz:zs.length<4611686018427387904) :
  Calls Try.prog 56 #[.slice (some ⟨blk,off,none⟩) zs.length cap] w λe w'=>
   e = .returned (.tuple #[])∧∃n os,w'=grow (putRow (Value.int .i64) (Sort.ahead w n) blk off (zs.mergeSort λx y=>decide (x≤y)).toArray) os:=Any.slices_Sort_int Try.lays189 blk off cap zs w hH hblk hsz
end Go.Proofs
namespace Go.Proofs.Ytofigcbhafkikaa
open Go.Dm
attribute [local irreducible] L.load L.store L.chk L.new L.nonnil L.guard L.ite L.draw L.idx L.sem L.semR L.semU L.chkSem L.next L.call L.callV L.join L.alts L.loop L.begin L.endRound L.range
variable {w0 w:World}{E:List Seg}
def xD(l:List Int):List Int:=l.mergeSort λx y=>decide (x≤y)
def xb(l:List Int):(xD l).Perm l:=List.mergeSort_perm ..
def QN(l:List Int):(xD l).Pairwise (· ≤·):=by
 have:=List.pairwise_mergeSort (le:=λx y:Int=>decide (x≤y)) (λa b c h1 h2=>by simp only[decide_eq_true_eq]at *;omega) (λa b=>by simp only[Bool.or_eq_true,decide_eq_true_eq];omega) l;exact this.imp λh=>by simpa using h
def Ko{l m:List Int}(h:l.Perm m):xD l=xD m:=
 List.Perm.eq_of_pairwise (λa b _ _ h1 h2=>by omega) (QN l) (QN m) (((xb l).trans h).trans (xb m).symm)
def Kn{l m:List Int}(h:l.Perm m)(hm:m.Pairwise (· ≤·)):xD l=m:=
 List.Perm.eq_of_pairwise (λa b _ _ h1 h2=>by omega) (QN l) hm ((xb l).trans h)
def kq(l:List Int):(xD l).length=l.length:=(xb l).length_eq
def oQ(h:St w0 E w)(i:Nat){s:Seg}(hi:nth E i=some s){v:Sl}{l:List Int}(hr:Rw eI zA 1 v l s)(hn:l.length<1000000000){k:Unit→PT}(hk:∀s' w',Rw eI zA 1 v (xD l) s'→St w0 (ze E i s') w'→k () w') :
  L.call Pr YL [.slice v.a v.len v.cap] (.tup []) k w:=
 oa (encv:=Value.int .i64) (λ_=>rfl) ZR (xD l) (kq l) (λg off cap w h1 h2=>Try.slices_Sort_int g off cap l w h1 h2 (by omega)) (λp cap w=>Any.slices_Sort_int_none Try.lays189 p cap w) h i hi hr hk
def Uu{a1 a2:Seg}{F:List Seg}{fv:FV}{keys:List Int}(hY:oC Pr w0 [a1,a2] fv.val keys (Value.int .i64))(h:St w0 (a1::a2::F) w)(hn:keys.length<1000000000){k:Sl→PT}
  (hk:∀seen v s w',seen.Perm keys→Rw eI zA 1 v seen s→St w0 (s::a1::a2::F) w'→k v w'):L.call Pr ZU [.slice none 0 0,fv.val] (.one (.one .slice)) k w:=by
 refine zm (jW ⟨none,0,0⟩ fv) ?_;unfold yR;refine nw h ?_;clear h;intro b1 w h;have h:=Vb (Vb h);have h:St w0 ([a1,a2]++[Cl b1 zn [SlV ⟨none,0,0⟩]]::[]::F) w:=h.eq (by simp);refine kc (l:=.int .i64) (arg:=λx=>x) (A:=[a1,a2]) (keys:=keys) hY h (λseen G=>∃v s,G = [Cl b1 zn [SlV v]]::s::F∧Rw eI zA 1 v seen s) (λj G=>False) ⟨_,_,rfl,Rw.nil⟩ ?_ ?_ ?_
 ·rintro seen x G X w lv lp d R hm ⟨v,s,rfl,hr⟩ h hN hE;have h:St w0 ([Rec lv lp .busy none]::[DfM d]::a1::a2::[Cl b1 zn [SlV v]]::s::(F++X)) w:=h
  (refine ldC h ?_)
  refine nw h ?_;clear h;intro b8 w h;refine Rw.app ZR elI h 5 rfl hr x rfl (by omega) (by omega) λv' s' w hr' h=>?_
  (dsimp only[ze,List.cons_append,List.nil_append]at h;refine stC h ?_;clear h;intro w h;dsimp only[yr,ze]at h)
  exact hN _ w ⟨v',s',rfl,hr'⟩ h
 ·rintro d seen G w hp ⟨v,s,rfl,hr⟩ h;have h:St w0 ([DfM d]::a1::a2::[Cl b1 zn [SlV v]]::s::F) w:=h;refine ve ?_
  (refine ldC h ?_)
  (first | refine VZ h ?_ | refine VY h ?_ | refine VX h ?_ | refine VW h ?_ | refine VV h ?_ | refine VU h ?_ | refine VT h ?_ | refine VS h ?_ | refine VR h ?_ | refine VQ h ?_ | refine ur h ?_ | refine uq h ?_);clear h;intro w h
  refine⟨v,rfl,hk seen v s w hp hr ?_⟩;have h:=Jw (Qe (Qe h));have h:=Ku h;exact h
 ·rintro d j G w hf;exact hf.elim
def uk{a1 a2:Seg}{F:List Seg}{fv:FV}{keys:List Int}(hY:oC Pr w0 [a1,a2] fv.val keys (Value.int .i64))(h:St w0 (a1::a2::F) w)(hn:keys.length<1000000000){k:Sl→PT}
  (hk:∀v s w',Rw eI zA 1 v (xD keys) s→St w0 (s::a2::F) w'→k v w'):L.call Pr yo [fv.val] (.one (.one .slice)) k w:=by
 refine zm (Xl fv) ?_;unfold ji;refine zm (xP fv) ?_;unfold ja;refine Uu hY h hn λseen v s w hp hr h=>⟨v,rfl,?_⟩;refine oQ h 0 rfl hr (by rw[hp.length_eq];exact hn) λs w hr h=>?_;rw[Ko hp]at hr;exact⟨v,rfl,hk v s w hr (Vj h)⟩
def unI:Value→Int
 | .int _ n=>n
 | _=>0
abbrev KI:Int→Value:=Value.int .i64
def vD(x:B0×Option Addr):Value:=.agg #[.string x.1,.pointer x.2]
def YO:Pr.underlying Zz=some (.map zA qM):=by kernel_rfl
def yb:Pr.underlying zp=some (.map zA yQ):=by kernel_rfl
def xW:Pr.underlying yI=some (.map zA zA):=by kernel_rfl
def KW:Pr.underlying zA=some (.int .i64):=by kernel_rfl
def mkI:MK Pr zA KI:=On KW
def zb(w:World):(zeroValue qM).run Pr w = .ok ((E1.one .bool).val false) w:=by
 have h:(Pr.info? qM).map (·.zero)=some (some (.bool false)):=by kernel_rfl
 cases hi:Pr.info? qM with
 | none=>rw[hi]at h;cases h
 | some i=>rw[hi]at h;simp only[Option.map_some,Option.some.injEq]at h;exact zv hi h w
def zi(w:World):(zeroValue zA).run Pr w = .ok ((E1.one (.int .i64)).val (0:Int)) w:=by
 have h:(Pr.info? zA).map (·.zero)=some (some (I 0)):=by kernel_rfl
 cases hi:Pr.info? zA with
 | none=>rw[hi]at h;cases h
 | some i=>rw[hi]at h;simp only[Option.map_some,Option.some.injEq]at h;exact zv hi h w
def zo(w:World):(zeroValue yQ).run Pr w = .ok ((E1.agg [.str,.ptr]).val (s_,none,())) w:=by
 have h:(Pr.info? yQ).map (·.zero)=some (some (.agg #[.string s_,.pointer none])):=by kernel_rfl
 cases hi:Pr.info? yQ with
 | none=>rw[hi]at h;cases h
 | some i=>rw[hi]at h;simp only[Option.map_some,Option.some.injEq]at h;exact zv hi h w
def gq(h:St w0 E w)(i:Nat){s:Seg}(hi:nth E i=some s){r:Nat}{m:List (Int×(B0×Option Addr))}(hm:MpS KI vD r m s)(hn:m.length<1000000000){k:Sl→PT}
  (hk:∀v s' w',Rw eI zA 1 v (xD (m.map (·.1))) s'→St w0 (s'::E) w'→k v w') :
  L.call Pr zR [.map (some r)] (.one (.one .func)) (λx5=>L.call Pr yo [.func x5.fn x5.fs x5.cs] (.one (.one .slice)) k) w:=by
 refine zm (yp _) ?_;unfold Zi;have h:=h.front i hi;refine nw h ?_;clear h;intro c w h;refine⟨⟨.func zl,#[],#[.pointer (some ⟨c,0,none⟩)]⟩,rfl,?_⟩;have hY:oC Pr w0 [[Cl c zp [.map (some r)]],s] (.func (.func zl) #[] #[.pointer (some ⟨c,0,none⟩)]) (m.map (·.1)) KI:=by
  intro yv R J Jd F w h hJ step fin fin2;refine⟨yl,ym yv ⟨c,0,none⟩ ?_⟩;unfold Zf;exact ou (kv:=KI) (vv:=vD) unI (λ_=>rfl) yb (lk:=.int .i64) (ev:=.agg [.str,.ptr]) (λx=>x) (λ_=>rfl) (λx:B0×Option Addr=>(x.1,x.2,())) (λ_=>rfl) J Jd hm h hJ (λseen k F X w hl hJ h=>step seen k F X w (by simpa using hl) hJ h) fin fin2
 refine uk (fv:=⟨.func zl,#[],#[.pointer (some ⟨c,0,none⟩)]⟩) hY h (by simpa using hn) λv s' w hr h=>hk v s' w hr ?_;have h:=Qe h;exact St.setN_same' (i+1) (E:=s'::E) hi (St.back (i+1) (E:=s'::E) hi h)
structure Zl where
 st:Int
 conc:Int
 reqs:List Int
def JM(x:Int):List Int→List Int
 | []=>[x]
 | y::l=>if y<x then y::JM x l else x::y::l
structure Zl.Ok(p:Zl):Prop where
 pw:p.reqs.Pairwise (· < ·)
 dr:p.st=3→p.reqs≠[]
 dead:p.st=4→p.reqs = []
 few:p.reqs.length<100000000
def Zu(p:Zl):Zl×Int:=if p.st≠1 then(p,9)else({ p with st:=2 },0)
def zG(p:Zl):Zl×Int:=if p.st≠1∧p.st≠2 then(p,9)else({ p with st:=if p.reqs = []then 4 else 3 },0)
def zw(p:Zl)(id:Int):Zl×Int:=
 if p.st≠2 then(p,9)else if id∈p.reqs then(p,5)else if(p.reqs.length:Int)≥p.conc then(p,8)else({ p with reqs:=JM id p.reqs },0)
def Zr(p:Zl)(id:Int):Zl×Int:=
 if id∈p.reqs then({ p with reqs:=p.reqs.erase id,st:=if p.st=3∧p.reqs.erase id = []then 4 else p.st },0)else(p,6)
def jx(x:Int)(l:List Int):(JM x l).Perm (x::l):=by
 induction l with
 | nil=>exact .refl _
 | cons y l ih=>
  simp only[JM];split
  ·exact(ih.cons y).trans (.swap ..)
  ·exact .refl _
def JL{x y:Int}{l:List Int}:y∈JM x l↔y=x∨y∈l:=by
 rw[(jx x l).mem_iff];simp
def Ui{x:Int}:∀{l:List Int},l.Pairwise (· < ·)→x∉l→(JM x l).Pairwise (· < ·)
 | [],_,_=>by simp[JM]
 | y::l,h,hx=>by
  simp only[List.mem_cons,not_or]at hx;rw[List.pairwise_cons]at h;simp only[JM];split
  ·rename_i hy;rw[List.pairwise_cons];refine⟨λz hz=>?_,Ui h.2 hx.2⟩;rcases JL.1 hz with rfl | hz
   ·exact hy
   ·exact h.1 z hz
  ·rename_i hy;rw[List.pairwise_cons];refine⟨λz hz=>?_,List.pairwise_cons.2 h⟩;rcases List.mem_cons.1 hz with rfl | hz
   ·omega
   ·have:=h.1 z hz;omega
def qk(x:Int)(l:List Int):(JM x l).length=l.length+1:=by rw[(jx x l).length_eq];rfl
def Jt(m:List (Int×Bool))(reqs:List Int):Prop:=(∀p∈m,p.2=true)∧(m.map (·.1)).Perm reqs
def Jt.get{m:List (Int×Bool)}{reqs:List Int}(h:Jt m reqs)(id:Int):((Zp m id).map λx=>x).getD false=decide (id∈reqs):=by
 cases hg:Zp m id with
 | none=>
  have:=jw.1 hg;rw[h.2.mem_iff]at this;simp[this]
 | some b=>
  have hm:=UT hg;have hb:=h.1 _ hm;simp only at hb;subst hb;have:id∈reqs:=h.2.mem_iff.1 (List.mem_map_of_mem (f:=(·.1)) hm);simp[this]
def Jt.len{m:List (Int×Bool)}{reqs:List Int}(h:Jt m reqs):m.length=reqs.length:=by
 have:=h.2.length_eq;simpa using this
def Jt.put{m:List (Int×Bool)}{reqs:List Int}(h:Jt m reqs){id:Int}(hn:id∉reqs):Jt (qD m id true) (JM id reqs):=by
 have hg:Zp m id=none:=jw.2 (λhm=>hn (h.2.mem_iff.1 hm));rw[JK hg];refine⟨λp hp=>?_,?_⟩
 ·rcases List.mem_append.1 hp with hp | hp
  ·exact h.1 p hp
  ·simp at hp;subst hp;rfl
 ·rw[List.map_append];refine List.Perm.trans ?_ (jx id reqs).symm;exact List.perm_append_comm.trans (h.2.cons id)
def uz:∀{m:List (Int×Bool)}{k:Int},((jY m k).map (·.1)).Perm ((m.map (·.1)).erase k)
 | [],k=>by simp[jY]
 | p::m,k=>by
  simp only[jY];by_cases e:p.1=k
  ·rw[if_pos e];subst e;simp
  ·rw[if_neg e,List.map_cons,List.map_cons,List.erase_cons_tail (by simpa using e)];exact(uz (m:=m) (k:=k)).cons _
def UV{κ υ:Type}[DecidableEq κ]:∀{m:List (κ×υ)}{k:κ}{p:κ×υ},p∈jY m k→p∈m
 | q::m,k,p,h=>by
  simp only[jY]at h;split at h
  ·exact List.mem_cons_of_mem _ h
  ·rcases List.mem_cons.1 h with rfl | h
   ·exact List.mem_cons_self ..
   ·exact List.mem_cons_of_mem _ (UV h)
def Jt.take{m:List (Int×Bool)}{reqs:List Int}(h:Jt m reqs)(id:Int):Jt (jY m id) (reqs.erase id):=
 ⟨λp hp=>h.1 p (UV hp),uz.trans (h.2.erase id)⟩
def Jz(b:Nat)(p:Zl)(s:Seg):Prop:=p.Ok∧∃r m sm,MpS KI Value.bool r m sm∧Jt m p.reqs∧s = [Cl b JO [I p.st,.map (some r),I p.conc]]++sm
def OI(h:St w0 E w){conc:Int}{k:Option Addr→PT}(hk:∀b s w',Jz b ⟨1,conc,[]⟩ s→St w0 (s::E) w'→k (some ⟨b,0,none⟩) w'):L.call Pr qC [I conc] (.one (.one .ptr)) k w:=by
 refine zm (kH _) ?_;unfold uR;refine MpS.new h KI Value.bool λr s w hm h=>?_;refine nw h ?_;clear h;intro b w h;exact⟨_,rfl,hk b _ w ⟨⟨by simp,by simp,by simp,by simp⟩,r,[],s,hm,⟨by simp,.refl _⟩,rfl⟩ h.glue⟩
def KJ(h:St w0 E w)(i:Nat){b:Nat}{p:Zl}{s:Seg}(hi:nth E i=some s)(hp:Jz b p s){k:Int→PT}(hk:k p.st w):L.call Pr zT [pO b] (.one (.one (.int .i64))) k w:=by
 obtain⟨ok,r,m,sm,hm,hb,rfl⟩:=hp;refine zm (Qh _) ?_;unfold xr;have h:=(h.front i hi).split
 (refine nn ?_;refine ldC h ?_)
 exact⟨_,rfl,hk⟩
def oK(h:St w0 E w)(i:Nat){b:Nat}{p:Zl}{s:Seg}(hi:nth E i=some s)(hp:Jz b p s){k:Int→PT}(hk:k p.reqs.length w):L.call Pr Zj [pO b] (.one (.one (.int .i64))) k w:=by
 obtain⟨ok,r,m,sm,hm,hb,rfl⟩:=hp;refine zm (xQ _) ?_;unfold jQ;have h:=(h.front i hi).split
 (refine nn ?_;refine ldC h ?_)
 refine MpS.len YO h 1 rfl hm ⟨_,rfl,?_⟩;rw[hb.len];exact hk
def gm(h:St w0 E w)(i:Nat){b:Nat}{p:Zl}{s:Seg}(hi:nth E i=some s)(hp:Jz b p s){k:Int→PT}(hk:∀s' w',Jz b (Zu p).1 s'→St w0 (ze E i s') w'→k (Zu p).2 w') :
  L.call Pr JY [pO b] (.one (.one (.int .i64))) k w:=by
 have hp':=hp;obtain⟨ok,r,m,sm,hm,hb,rfl⟩:=hp;refine zm (Uv _) ?_;unfold qs;have h:=(h.front i hi).split
 (refine nn ?_;refine ldC h ?_)
 refine it (λhc=>?_) (λhc=>?_)<;>(try simp only[zB]at hc)
 ·have e:Zu p=(p,9):=by simp only[Zu];rw[if_pos hc]
  rw[e]at hk;exact⟨_,rfl,hk _ w hp' (St.back i hi h.glue)⟩
 ·have e:Zu p=({ p with st:=2 },0):=by simp only[Zu];rw[if_neg (by simpa using hc)]
  rw[e]at hk
  (refine nn ?_;refine stC h ?_;clear h;intro w h;dsimp only[yr,ze]at h)
  exact⟨_,rfl,hk _ w ⟨⟨ok.pw,by simp,by simp,ok.few⟩,r,m,sm,hm,hb,rfl⟩ (St.back i hi h.glue)⟩
def KK{b r:Nat}{st conc:Int}{m:List (Int×Bool)}{reqs:List Int}{sm:Seg}{F:List Seg}(hm:MpS KI Value.bool r m sm)(hb:Jt m reqs)(h:St w0 ([Cl b JO [I st,.map (some r),I conc]]::sm::F) w){k:Unit→PT}
  (hk:∀w',St w0 ([Cl b JO [I (if st=3∧reqs = []then 4 else st),.map (some r),I conc]]::sm::F) w'→k () w'):L.call Pr YX [pO b] (.tup []) k w:=by
 refine zm (uo _) ?_;unfold Xx
 (refine nn ?_;refine ldC h ?_)
 refine it (λhc=>?_) (λhc=>?_)<;>(try simp only[zB]at hc)
 ·refine zm (xQ _) ?_;unfold jQ
  (refine nn ?_;refine ldC h ?_)
  refine MpS.len YO h 1 rfl hm ⟨_,rfl,?_⟩;have hl:=hb.len;refine it (λhd=>?_) (λhd=>?_)<;>(try simp only[zB]at hd)
  ·have:reqs = []:=List.eq_nil_of_length_eq_zero (by omega);rw[if_pos ⟨hc,this⟩]at hk
   (refine nn ?_;refine stC h ?_;clear h;intro w h;dsimp only[yr,ze]at h)
   exact⟨(),rfl,hk w h⟩
  ·rw[if_neg (λhh=>hd (by rw[hl,hh.2];rfl))]at hk;exact⟨(),rfl,hk w h⟩
 ·rw[if_neg (λhh=>hc hh.1)]at hk;exact⟨(),rfl,hk w h⟩
def KL(h:St w0 E w)(i:Nat){b:Nat}{p:Zl}{s:Seg}(hi:nth E i=some s)(hp:Jz b p s){k:Int→PT}(hk:∀s' w',Jz b (zG p).1 s'→St w0 (ze E i s') w'→k (zG p).2 w') :
  L.call Pr jf [pO b] (.one (.one (.int .i64))) k w:=by
 have hp':=hp;obtain⟨ok,r,m,sm,hm,hb,rfl⟩:=hp;refine zm (Qi _) ?_;unfold xu;have h:=(h.front i hi).split;refine Zs (λz w=>¬(p.st≠1∧p.st≠2)∧St w0 ([Cl b JO [I p.st,.map (some r),I p.conc]]::sm::zQ E i) w) (λk1 hk1=>?_) (λz w ⟨hc,h⟩=>?_)
 ·(refine nn ?_;refine ldC h ?_)
  refine it (λhc=>?_) (λhc=>?_)<;>(try simp only[zB]at hc)
  ·(refine nn ?_;refine ldC h ?_)
   refine it (λhd=>?_) (λhd=>?_)<;>(try simp only[zB]at hd)
   ·have e:zG p=(p,9):=by simp only[zG];rw[if_pos ⟨hc,hd⟩]
    rw[e]at hk;exact⟨_,rfl,hk _ w hp' (St.back i hi h.glue)⟩
   ·exact hk1 _ w ⟨λhh=>hh.2 hd,h⟩
  ·exact hk1 _ w ⟨λhh=>hh.1 hc,h⟩
 ·have e:zG p=({ p with st:=if p.reqs = []then 4 else 3 },0):=by simp only[zG];rw[if_neg hc]
  rw[e]at hk
  (refine nn ?_;refine stC h ?_;clear h;intro w h;dsimp only[yr,ze]at h)
  refine KK hm hb h λw h=>⟨0,rfl,hk _ w ⟨⟨ok.pw,?_,?_,ok.few⟩,r,m,sm,hm,hb,rfl⟩ ?_⟩
  ·intro hh e;have e:p.reqs = []:=e;simp[e]at hh
  ·intro hh;apply Classical.byContradiction;intro hne;simp[hne]at hh
  ·have h:=St.back i hi h.glue;simp only[true_and]at h;exact h
def kG{a:Addr}{b r o T:Nat}{pre:List Value}{post:List Value}{m:List (Int×Bool)}{reqs:List Int}{sm:Seg}{F:List Seg}(ha:a=⟨b,pre.length,none⟩)(hm:MpS KI Value.bool r m sm)(hb:Jt m reqs)
  (h:St w0 ([Cl b T (pre++ .map (some r)::post)]::sm::F) w) {id:Int} {k:Int→PT}
  (hk:∀m' sm' w',MpS KI Value.bool r m' sm'→Jt m' (reqs.erase id)→St w0 ([Cl b T (pre++ .map (some r)::post)]::sm'::F) w'→k (if id∈reqs then 0 else 6) w') :
  L.call Pr Ys [.pointer (some a),I id] (.one (.one (.int .i64))) k w:=by
 subst ha;have hn:nth (pre++ .map (some r)::post) (pre.length+0)=some (.map (some r)):=by rw[yN];rfl
 refine zm (XO _ _) ?_;unfold jP;refine nn ?_;rw[yH];refine ldx h 0 rfl hn rfl ?_;refine MpS.get (kv:=KI) (e:=.one .bool) (z:=false) mkI YO zb (λx=>x) (λ_=>rfl) h 1 rfl hm ?_;rw[hb.get];refine it (λhc=>?_) (λhc=>?_)<;>(try simp only[zB]at hc)
 ·have e:reqs.erase id=reqs:=List.erase_of_not_mem (by simpa using hc);rw[e,if_neg (by simpa using hc)]at hk;exact⟨_,rfl,hk m sm w hm hb h⟩
 ·rw[if_pos (by simpa using hc)]at hk;refine nn ?_;rw[yH];refine ldx h 0 rfl hn rfl ?_;refine MpS.del (kv:=KI) mkI YO h 1 rfl hm λsm' w hm h=>⟨_,rfl,hk _ sm' w hm (hb.take id) h⟩
def Un{l:List Int}(h:l = [])(id:Int):l.erase id = []:=by subst h;rfl
def oL(h:St w0 E w)(i:Nat){b:Nat}{p:Zl}{s:Seg}(hi:nth E i=some s)(hp:Jz b p s){id:Int}{k:Int→PT}(hk:∀s' w',Jz b (Zr p id).1 s'→St w0 (ze E i s') w'→k (Zr p id).2 w') :
  L.call Pr YE [pO b,I id] (.one (.one (.int .i64))) k w:=by
 obtain⟨ok,r,m,sm,hm,hb,rfl⟩:=hp;refine zm (uf _ _) ?_;unfold xN;have h:=(h.front i hi).split;refine nn ?_;refine kG (pre:=[I p.st]) (o:=0) (post:=[I p.conc]) rfl hm hb h λm' sm' w hm hb h=>?_;refine KK hm hb h λw h=>?_;by_cases hc:id∈p.reqs
 ·rw[if_pos hc];simp only[Zr,if_pos hc]at hk;refine⟨_,rfl,hk _ w ⟨⟨ok.pw.sublist (List.erase_sublist ..),?_,?_,?_⟩,r,m',sm',hm,hb,rfl⟩ (St.back i hi h.glue)⟩
  ·intro hh e;simp only at hh e;rw[e]at hh;by_cases h3:p.st=3
   ·simp[h3]at hh
   ·simp[h3]at hh
  ·intro hh;simp only at hh ⊢;by_cases h3:p.st=3∧p.reqs.erase id = []
   ·exact h3.2
   ·rw[if_neg h3]at hh;exact Un (ok.dead hh) id
  ·have:=List.length_erase_le (a:=id) (l:=p.reqs);have:=ok.few;simp only;omega
 ·rw[if_neg hc];simp only[Zr,if_neg hc]at hk;have e:p.reqs.erase id=p.reqs:=List.erase_of_not_mem hc;rw[e]at hb h;refine⟨_,rfl,hk _ w ⟨ok,r,m',sm',hm,hb,rfl⟩ ?_⟩;have h:=St.back i hi h.glue;rw[if_neg (λhh=>ok.dr hh.1 hh.2)]at h;exact h
def oJ(h:St w0 E w)(i:Nat){b:Nat}{p:Zl}{s:Seg}(hi:nth E i=some s)(hp:Jz b p s)(hfew:p.reqs.length<10000000){id:Int}{k:Int→PT}(hk:∀s' w',Jz b (zw p id).1 s'→St w0 (ze E i s') w'→k (zw p id).2 w') :
  L.call Pr YD [pO b,I id] (.one (.one (.int .i64))) k w:=by
 have hp':=hp;obtain⟨ok,r,m,sm,hm,hb,rfl⟩:=hp;refine zm (ue _ _) ?_;unfold xM;have h:=(h.front i hi).split
 (refine nn ?_;refine ldC h ?_)
 refine it (λhc=>?_) (λhc=>?_)<;>(try simp only[zB]at hc)
 ·have e:zw p id=(p,9):=by simp only[zw];rw[if_pos hc]
  rw[e]at hk;exact⟨_,rfl,hk _ w hp' (St.back i hi h.glue)⟩
 (refine nn ?_)
 refine zm (qt _ _) ?_;unfold Jq
 (refine nn ?_;refine ldC h ?_)
 refine MpS.get (kv:=KI) (e:=.one .bool) (z:=false) mkI YO zb (λx=>x) (λ_=>rfl) h 1 rfl hm ?_;rw[hb.get];have hl:=hb.len;refine it (λhd=>?_) (λhd=>?_)<;>(try simp only[zB]at hd)
 ·have e:zw p id=(p,5):=by simp only[zw];rw[if_neg (by simpa using hc),if_pos hd]
  rw[e]at hk;exact⟨5,rfl,5,rfl,hk _ w hp' (St.back i hi h.glue)⟩
 (refine dr h ?_;clear h;intro w h;refine nn ?_;refine ldC h ?_)
 refine MpS.len YO h 1 rfl hm ?_
 (refine nn ?_;rw[Jp];refine ldC h ?_)
 refine it (λhe=>?_) (λhe=>?_)<;>(try simp only[zB]at he)
 ·have e:zw p id=(p,8):=by simp only[zw];rw[if_neg (by simpa using hc),if_neg hd,if_pos (by omega)]
  rw[e]at hk;exact⟨8,rfl,8,rfl,hk _ w hp' (St.back i hi h.glue)⟩
 ·have e:zw p id=({ p with reqs:=JM id p.reqs },0):=by simp only[zw];rw[if_neg (by simpa using hc),if_neg hd,if_neg (by omega)]
  rw[e]at hk
  (refine nn ?_;refine ldC h ?_)
  refine MpS.set (kv:=KI) (vv:=Value.bool) mkI YO h 1 rfl hm true rfl λsm' w hm h=>?_;refine⟨0,rfl,0,rfl,hk _ w ⟨⟨Ui ok.pw hd,?_,?_,?_⟩,r,_,sm',hm,hb.put hd,rfl⟩ (St.back i hi h.glue)⟩
  ·intro _ e2;have:=qk id p.reqs;have e2:JM id p.reqs = []:=e2;rw[e2]at this;simp at this
  ·intro hh;simp only at hh;have:=hc;omega
  ·simp only;rw[qk];omega
def vz(h:St w0 E w){v:Sl}{l:List Int}(r:Rd w eI v l)(hn:l.length<1000000000000)(h64:v.a=none→l = []){k:Sl→PT}
  (hk:∀(v':Sl) s' w',Rw eI zA 1 v' l s'→(v'.a=none↔v.a=none)→St w0 (s'::E) w'→k v' w'):L.call Pr ZK [SlV v] (.one (.one .slice)) k w:=by
 refine zm (xh _) ?_;unfold YH;exact vu (K:=λv w'=>∃x,v=RT.val (.one (.one .slice)) x∧k x w') ZR elI h r (by omega) hn h64 λv' s' w' h1 h2 h3=>⟨v',rfl,hk v' s' w' h1 h2 h3⟩
def Rw.nil_of{α:Type}{enc:α→List Value}{e size:Nat}{v:Sl}{l:List α}{s:Seg}(hE:Enc enc size)(hr:Rw enc e size v l s)(h:v.a=none):l = []:=by
 have:=Rw.len hE hr;unfold Rw at hr;generalize fl enc l=cs at hr
 cases hr with
 | nil=>simpa using this.symm
 | mk=>cases h
def xL(b:Nat)(p:Zl)(s:Seg):Prop:=p.Ok∧∃v sr,Rw eI zA 1 v p.reqs sr∧s = [Cl b zx [I p.conc,I p.st,SlV v]]++sr
def oE(h:St w0 E w){conc:Int}{k:Option Addr→PT}(hk:∀b s w',xL b ⟨1,conc,[]⟩ s→St w0 (s::E) w'→k (some ⟨b,0,none⟩) w'):L.call Pr YU [I conc] (.one (.one .ptr)) k w:=by
 refine zm (qR _) ?_;unfold JU;refine nw h ?_;clear h;intro b w h;exact⟨_,rfl,hk b _ w ⟨⟨by simp,by simp,by simp,by simp⟩,⟨none,0,0⟩,[],Rw.nil,rfl⟩ (h.eq (by simp))⟩
def jA(h:St w0 E w)(i:Nat){b:Nat}{p:Zl}{s:Seg}(hi:nth E i=some s)(hp:xL b p s){k:Int→PT}(hk:k p.st w):L.call Pr zJ [pO b] (.one (.one (.int .i64))) k w:=by
 obtain⟨ok,v,sr,hr,rfl⟩:=hp;refine zm (xi _) ?_;unfold YI;have h:=(h.front i hi).split
 (refine nn ?_;refine ldC h ?_)
 exact⟨_,rfl,hk⟩
def JP(h:St w0 E w)(i:Nat){b:Nat}{p:Zl}{s:Seg}(hi:nth E i=some s)(hp:xL b p s){k:Int→PT}(hk:k p.reqs.length w):L.call Pr zN [pO b] (.one (.one (.int .i64))) k w:=by
 obtain⟨ok,v,sr,hr,rfl⟩:=hp;refine zm (xy _) ?_;unfold YN;have h:=(h.front i hi).split
 (refine nn ?_;refine ldC h ?_)
 refine⟨_,rfl,?_⟩;rw[Rw.len ZR hr];exact hk
def OC(h:St w0 E w)(i:Nat){b:Nat}{p:Zl}{s:Seg}(hi:nth E i=some s)(hp:xL b p s){k:Int→PT}(hk:∀s' w',xL b (Zu p).1 s'→St w0 (ze E i s') w'→k (Zu p).2 w') :
  L.call Pr Yd [pO b] (.one (.one (.int .i64))) k w:=by
 have hp':=hp;obtain⟨ok,v,sr,hr,rfl⟩:=hp;refine zm (Xo _) ?_;unfold jl;have h:=(h.front i hi).split
 (refine nn ?_;refine ldC h ?_)
 refine it (λhc=>?_) (λhc=>?_)<;>(try simp only[zB]at hc)
 ·have e:Zu p=(p,9):=by simp only[Zu];rw[if_pos hc]
  rw[e]at hk;exact⟨_,rfl,hk _ w hp' (St.back i hi h.glue)⟩
 ·have e:Zu p=({ p with st:=2 },0):=by simp only[Zu];rw[if_neg (by simpa using hc)]
  rw[e]at hk
  (refine nn ?_;refine stC h ?_;clear h;intro w h;dsimp only[yr,ze]at h)
  exact⟨_,rfl,hk _ w ⟨⟨ok.pw,by simp,by simp,ok.few⟩,v,sr,hr,rfl⟩ (St.back i hi h.glue)⟩
def kC(h:St w0 E w)(i:Nat){b:Nat}{p:Zl}{s:Seg}(hi:nth E i=some s)(hp:xL b p s){k:Int→PT}(hk:∀s' w',xL b (zG p).1 s'→St w0 (ze E i s') w'→k (zG p).2 w') :
  L.call Pr yx [pO b] (.one (.one (.int .i64))) k w:=by
 have hp':=hp;obtain⟨ok,v,sr,hr,rfl⟩:=hp;refine zm (xj _) ?_;unfold YJ;have hlen:=Rw.len ZR hr;have h:=(h.front i hi).split;refine Zs (λz w=>¬(p.st≠1∧p.st≠2)∧St w0 ([Cl b zx [I p.conc,I p.st,SlV v]]::sr::zQ E i) w) (λk1 hk1=>?_) (λz w ⟨hc,h⟩=>?_)
 ·(refine nn ?_;refine ldC h ?_)
  refine it (λhc=>?_) (λhc=>?_)<;>(try simp only[zB]at hc)
  ·(refine nn ?_;refine ldC h ?_)
   refine it (λhd=>?_) (λhd=>?_)<;>(try simp only[zB]at hd)
   ·have e:zG p=(p,9):=by simp only[zG];rw[if_pos ⟨hc,hd⟩]
    rw[e]at hk;exact⟨_,rfl,hk _ w hp' (St.back i hi h.glue)⟩
   ·exact hk1 _ w ⟨λhh=>hh.2 hd,h⟩
  ·exact hk1 _ w ⟨λhh=>hh.1 hc,h⟩
 ·have e:zG p=({ p with st:=if p.reqs = []then 4 else 3 },0):=by simp only[zG];rw[if_neg hc]
  rw[e]at hk
  (refine nn ?_;refine stC h ?_;clear h;intro w h;dsimp only[yr,ze]at h)
  refine Zs (λz w=>St w0 ([Cl b zx [I p.conc,I (if p.reqs = []then 4 else 3),SlV v]]::sr::zQ E i) w) (λk8 hk8=>?_) (λz w h=>?_)
  ·(refine nn ?_;refine ldC h ?_)
   refine it (λhd=>?_) (λhd=>?_)<;>(try simp only[zB]at hd)
   ·have:p.reqs≠[]:=λe=>by rw[e]at hlen;simp at hlen;omega
    rw[if_neg this]at hk8
    (refine nn ?_;refine stC h ?_;clear h;intro w h;dsimp only[yr,ze]at h)
    exact hk8 _ w h
   ·have:p.reqs = []:=List.eq_nil_of_length_eq_zero (by omega);rw[if_pos this]at hk8;exact hk8 _ w h
  ·refine⟨0,rfl,hk _ w ⟨⟨ok.pw,?_,?_,ok.few⟩,v,sr,hr,rfl⟩ (St.back i hi h.glue)⟩
   ·intro hh e;have e:p.reqs = []:=e;simp[e]at hh
   ·intro hh;apply Classical.byContradiction;intro hne;simp[hne]at hh
def VN(h:St w0 E w)(i:Nat){b:Nat}{p:Zl}{s:Seg}(hi:nth E i=some s)(hp:xL b p s){id:Int}{k:Bool→PT}(hk:∀w',St w0 E w'→k (decide (id∈p.reqs)) w') :
  L.call Pr yc [pO b,I id] (.one (.one .bool)) k w:=by
 obtain⟨ok,v,sr,hr,rfl⟩:=hp;refine zm (xS _ _) ?_;unfold jc;have hlen:=Rw.len ZR hr;have hfew:=ok.few;have h:=(h.front i hi).split;refine zK (λq y w=>∃j:Nat,y=((j:Int),())∧q+j=p.reqs.length∧id∉p.reqs.take j∧St w0 ([Cl b zx [I p.conc,I p.st,SlV v]]::sr::zQ E i) w) p.reqs.length ⟨0,rfl,rfl,by simp,h⟩ ?_;clear h;rintro q y w ⟨j,rfl,hq,hf,h⟩ again hag;dsimp only
 (refine nn ?_;refine ldC h ?_)
 refine it (λhb=>?_) (λhb=>?_)<;>(try simp only[zB]at hb)
 ·have hj:j<p.reqs.length:=by omega
  have hx:p.reqs[j]? = some p.reqs[j]:=List.getElem?_eq_getElem hj
  (refine nn ?_;refine ldC h ?_)
  refine Rw.ix ZR hr (by omega) (by simpa using hj) λa ha=>?_;refine Rw.ld0 ZR h 1 rfl hr ha (x:=p.reqs[j]) (by simp[hj]) rfl rfl ?_;refine it (λhc=>?_) (λhc=>?_)<;>(try simp only[zB]at hc)
  ·refine⟨true,rfl,?_⟩;have:decide (id∈p.reqs)=true:=decide_eq_true (by rw[←hc];exact List.getElem_mem hj);rw[←this];exact hk w (St.setN_same' i hi (St.back i hi h.glue))
  ·refine hag (q-1) _ w (by omega) ⟨j+1,?_,by omega,?_,h⟩
   ·rw[wr (by omega) (by omega)];simp
   ·rw[List.take_add_one,hx];simp only[Option.toList_some,List.mem_append,List.mem_singleton,not_or];exact⟨hf,λe=>hc e.symm⟩
 ·have e:j=p.reqs.length:=by omega
  subst e;rw[List.take_length]at hf;refine⟨false,rfl,?_⟩;have:decide (id∈p.reqs)=false:=decide_eq_false hf;rw[←this];exact hk w (St.setN_same' i hi (St.back i hi h.glue))
def Uj{id:Int}:∀{l:List Int}{k:Nat},(∀x∈l.take k,x<id)→(∀x,l[k]? = some x→¬x<id)→k≤l.length→JM id l=l.take k++id::l.drop k
 | [],k,_,_,hk=>by simp at hk;subst hk;rfl
 | y::l,0,_,h2,_=>by
  simp only[JM,List.take_zero,List.drop_zero,List.nil_append];rw[if_neg (h2 y rfl)]
 | y::l,k+1,h1,h2,hk=>by
  simp only[JM,List.take_succ_cons,List.drop_succ_cons,List.cons_append];rw[if_pos (h1 y (by simp)),Uj (k:=k) (λx hx=>h1 x (by simp[hx])) (λx hx=>h2 x (by simpa using hx)) (by simpa using hk)]
def KC(h:St w0 E w)(i:Nat){b:Nat}{p:Zl}{s:Seg}(hi:nth E i=some s)(hp:xL b p s)(hfew:p.reqs.length<10000000){id:Int}{k:Int→PT}(hk:∀s' w',xL b (zw p id).1 s'→St w0 (ze E i s') w'→k (zw p id).2 w') :
  L.call Pr yK [pO b,I id] (.one (.one (.int .i64))) k w:=by
 have hp':=hp;obtain⟨ok,v,sr,hr,rfl⟩:=hp;refine zm (xx _ _) ?_;unfold YM;have hlen:=Rw.len ZR hr;have hcap:=hr.cap;have h0:=h;have h:=(h.front i hi).split
 (refine nn ?_;refine ldC h ?_)
 refine it (λhc=>?_) (λhc=>?_)<;>(try simp only[zB]at hc)
 ·have e:zw p id=(p,9):=by simp only[zw];rw[if_pos hc]
  rw[e]at hk;exact⟨_,rfl,hk _ w hp' (St.back i hi h.glue)⟩
 have h:=St.setN_same' i hi (St.back i hi h.glue);refine VN h i hi hp' λw h=>?_;refine it (λhd=>?_) (λhd=>?_)<;>(try simp only[zB]at hd)
 ·have e:zw p id=(p,5):=by simp only[zw];rw[if_neg (by simpa using hc),if_pos hd]
  rw[e]at hk;exact⟨_,rfl,hk _ w hp' (by rwa [ZB hi])⟩
 have h:=(h.front i hi).split
 (refine dr h ?_;clear h;intro w h;refine nn ?_;refine ldC h ?_;refine nn ?_;refine ldC h ?_)
 refine it (λhe=>?_) (λhe=>?_)<;>(try simp only[zB]at he)
 ·have e:zw p id=(p,8):=by simp only[zw];rw[if_neg (by simpa using hc),if_neg hd,if_pos (by omega)]
  rw[e]at hk;exact⟨_,rfl,hk _ w hp' (St.back i hi h.glue)⟩
 have e:zw p id=({ p with reqs:=JM id p.reqs },0):=by simp only[zw];rw[if_neg (by simpa using hc),if_neg hd,if_neg (by omega)]
 rw[e]at hk;refine Zs (λz w=>∃j:Nat,z=((j:Int),())∧j≤p.reqs.length∧JM id p.reqs=p.reqs.take j++id::p.reqs.drop j∧St w0 ([Cl b zx [I p.conc,I p.st,SlV v]]::sr::zQ E i) w) (λk8 hk8=>?_) (λz w ⟨j,hz,hj,hins,h⟩=>?_)
 ·refine zK (λq y w=>∃j:Nat,y=((j:Int),())∧q+j=p.reqs.length∧(∀x∈p.reqs.take j,x<id)∧St w0 ([Cl b zx [I p.conc,I p.st,SlV v]]::sr::zQ E i) w) p.reqs.length ⟨0,rfl,rfl,by simp,h⟩ ?_;clear h0;(clear h);rintro q y w ⟨j,rfl,hq,hf,h⟩ again hag;dsimp only
  (refine nn ?_;refine ldC h ?_)
  refine it (λhb=>?_) (λhb=>?_)<;>(try simp only[zB]at hb)
  ·have hj:j<p.reqs.length:=by omega
   have hx:p.reqs[j]? = some p.reqs[j]:=List.getElem?_eq_getElem hj
   (refine nn ?_;refine ldC h ?_)
   refine Rw.ix ZR hr (by omega) (by simpa using hj) λa ha=>?_;refine Rw.ld0 ZR h 1 rfl hr ha (x:=p.reqs[j]) (by simp[hj]) rfl rfl ?_;refine it (λhg=>?_) (λhg=>?_)<;>(try simp only[zB]at hg)
   ·refine hag (q-1) _ w (by omega) ⟨j+1,?_,by omega,?_,h⟩
    ·rw[wr (by omega) (by omega)];simp
    ·intro x hxm;rw[List.take_add_one,hx]at hxm;rcases List.mem_append.1 hxm with hxm | hxm
     ·exact hf x hxm
     ·simp at hxm;subst hxm;exact hg
   ·exact hk8 _ w ⟨j,rfl,by omega,Uj hf (λx hx2=>by rw[hx]at hx2;cases hx2;omega) (by omega),h⟩
  ·have e:j=p.reqs.length:=by omega
   subst e;exact hk8 _ w ⟨_,rfl,by omega,Uj hf (λx hx2=>by simp at hx2) (by omega),h⟩
 subst hz;dsimp only;have hlt:=List.length_take_le j p.reqs;have hld:(p.reqs.drop j).length=p.reqs.length-j:=List.length_drop ..;have fin:∀{v':Sl}{s':Seg}{w:World},Rw eI zA 1 v' (p.reqs.take j++[id]++p.reqs.drop j) s'→St w0 ([Cl b zx [I p.conc,I p.st,SlV v']]::s'::zQ E i) w→(∃x,Value.int .i64 0=(RT.one (E1.one (Lf.int IntKind.i64))).val x∧k x w):=by
  intro v' s' w hr' h;rw[List.append_assoc,List.singleton_append,←hins]at hr';refine⟨0,rfl,hk _ w ⟨⟨Ui ok.pw hd,?_,?_,?_⟩,v',s',hr',rfl⟩ (St.back i hi h.glue)⟩
  ·intro _ e2;have:=qk id p.reqs;have e2:JM id p.reqs = []:=e2;rw[e2]at this;simp at this
  ·intro hh;simp only at hh;have:=hc;omega
  ·simp only;rw[qk];omega
 refine Zs (λz w=>∃v' s',Rw eI zA 1 v' (p.reqs.take j++[id]++p.reqs.drop j) s'∧St w0 ([Cl b zx [I p.conc,I p.st,SlV v']]::s'::zQ E i) w) (λk18 hk18=>?_) (λz w ⟨v',s',hr',h⟩=>fin hr' h)
 (refine dr h ?_;clear h;intro w h;refine nn ?_;refine ldC h ?_)
 refine gd (by(try dsimp only);omega) ?_
 (refine nn ?_;refine ldC h ?_)
 refine gd (by(try dsimp only);omega) ?_;simp only[Int.toNat_natCast,show Int.toNat 0=0 from rfl,Nat.sub_zero];have c1:∀{w:World}{E:List Seg}(h:St w0 E w)(n:Nat),nth E n=some sr→Rd w eI ⟨if v.cap=0 then v.a else Option.map (λa:Addr=>a.add (0*1)) v.a,j,v.cap⟩ (p.reqs.take j):=λh n hn=>by
  have:=(hr.rd ZR h n hn).cut ZR 0 j (by omega) hj hcap.1 v.cap;simpa using this
 have c2:∀{w:World}{E:List Seg}(h:St w0 E w)(n:Nat),nth E n=some sr→Rd w eI ⟨if v.cap=j then v.a else Option.map (λa:Addr=>a.add (j*1)) v.a,v.len-j,v.cap-j⟩ (p.reqs.drop j):=λh n hn=>by
  have:=(hr.rd ZR h n hn).cut ZR j p.reqs.length (by omega) (by omega) hcap.1 (v.cap-j);rw[List.take_length,←hlen]at this;exact this
 refine Oa ?_ ?_
 ·refine nw h ?_;clear h;intro b24 w h
  (refine ckC h ?_;refine ckC h ?_)
  refine Oa ?_ ?_
  ·refine Rw.appRd ZR elI h 0 rfl (Rw.lit b24 [] ZR rfl rfl (by simp[maxLen])) (c1 h 2 rfl) (by simp;omega) (by simp;omega) λv1 s1 w hr1 _ _ h=>?_
   (dsimp only[ze,List.cons_append,List.nil_append]at h;refine ckC h ?_)
   refine nw h ?_;clear h;intro b26 w h
   (refine ckC h ?_;refine ckC h ?_)
   refine Rw.app ZR elI h 0 rfl hr1 id rfl (by simp;omega) (by simp;omega) λv2 s2 w hr2 h=>?_
   (dsimp only[ze,List.cons_append,List.nil_append]at h;refine ckC h ?_)
   refine Rw.appRd ZR elI h 0 rfl hr2 (c2 h 2 rfl) (by simp;omega) (by simp;omega) λv3 s3 w hr3 _ _ h=>?_
   (dsimp only[ze,List.cons_append,List.nil_append]at h;refine nn ?_;refine stC h ?_;clear h;intro w h;dsimp only[yr,ze]at h)
   refine hk18 _ w ⟨v3,s3,by simpa using hr3,?_⟩;have h:=Qe h;have h:=Vi h;exact h
  ·refine nw h ?_;clear h;intro b26 w h
   (refine ckC h ?_;refine ckC h ?_)
   refine Rw.appRd ZR elI h 1 rfl (Rw.lit b24 [] ZR rfl rfl (by simp[maxLen])) (c1 h 3 rfl) (by simp;omega) (by simp;omega) λv1 s1 w hr1 _ _ h=>?_
   (dsimp only[ze,List.cons_append,List.nil_append]at h;refine ckC h ?_)
   refine Rw.app ZR elI h 0 rfl hr1 id rfl (by simp;omega) (by simp;omega) λv2 s2 w hr2 h=>?_
   (dsimp only[ze,List.cons_append,List.nil_append]at h;refine ckC h ?_)
   refine Rw.appRd ZR elI h 0 rfl hr2 (c2 h 2 rfl) (by simp;omega) (by simp;omega) λv3 s3 w hr3 _ _ h=>?_
   (dsimp only[ze,List.cons_append,List.nil_append]at h;refine nn ?_;refine stC h ?_;clear h;intro w h;dsimp only[yr,ze]at h)
   refine hk18 _ w ⟨v3,s3,by simpa using hr3,?_⟩;have h:=Qe h;have h:=Vi h;exact h
 ·refine nw h ?_;clear h;intro b26 w h
  (refine ckC h ?_;refine ckC h ?_)
  refine nw h ?_;clear h;intro b24 w h
  (refine ckC h ?_;refine ckC h ?_)
  refine Rw.appRd ZR elI h 0 rfl (Rw.lit b24 [] ZR rfl rfl (by simp[maxLen])) (c1 h 3 rfl) (by simp;omega) (by simp;omega) λv1 s1 w hr1 _ _ h=>?_
  (dsimp only[ze,List.cons_append,List.nil_append]at h;refine ckC h ?_)
  have h:=Qe h;refine Rw.app ZR elI h 0 rfl hr1 id rfl (by simp;omega) (by simp;omega) λv2 s2 w hr2 h=>?_
  (dsimp only[ze,List.cons_append,List.nil_append]at h;refine ckC h ?_)
  refine Rw.appRd ZR elI h 0 rfl hr2 (c2 h 2 rfl) (by simp;omega) (by simp;omega) λv3 s3 w hr3 _ _ h=>?_
  (dsimp only[ze,List.cons_append,List.nil_append]at h;refine nn ?_;refine stC h ?_;clear h;intro w h;dsimp only[yr,ze]at h)
  refine hk18 _ w ⟨v3,s3,by simpa using hr3,?_⟩;have h:=Qe h;have h:=Vi h;exact h
structure zh where
 id:Int
 rev:B0
 pod:Zl
structure zj where
 room:Int
 last:Int
 l:List zh
structure zj.Ok(f:zj):Prop where
 pw:f.l.Pairwise (λx y=>x.id<y.id)
 rng:∀x∈f.l,0<x.id∧x.id≤f.last
 live:∀x∈f.l,x.pod.st=1∨x.pod.st=2∨x.pod.st=3
 once:f.l.Pairwise (λx y=>∀q∈x.pod.reqs,q∉y.pod.reqs)
 few:f.l.length<100000000
 lo:0≤f.last
 hi:f.last<4611686018427387904
abbrev Tr:=zh×Nat×Seg
abbrev trS(t:Tr):Seg:=t.2.2
def ent(t:Tr):Int×(B0×Option Addr):=(t.1.id,t.1.rev,some ⟨t.2.1,0,none⟩)
def yF(l:List zh)(id:Int):Option zh:=l.find? λx=>decide (x.id=id)
def zP(l:List zh)(q:Int):Option zh:=l.find? λx=>decide (q∈x.pod.reqs)
structure FlR(F:zj)(L:List Tr)(mA:List (Int×(B0×Option Addr)))(mW:List (Int×Int)):Prop where
 l:F.l=L.map (·.1)
 ps:∀t∈L,Jz t.2.1 t.1.pod t.2.2
 all:mA.Perm (L.map ent)
 wth:∀q,Zp mW q=(zP F.l q).map (·.id)
abbrev flB(b:Nat)(rA rW:Nat)(F:zj):Seg:=[Cl b Xw [.map (some rA),.map (some rW),I F.room,I F.last]]
def FlS(b:Nat)(F:zj)(s:Seg):Prop:=F.Ok∧∃rA rW mA mW sA sW L,MpS KI vD rA mA sA∧MpS KI KI rW mW sW∧FlR F L mA mW∧s=flB b rA rW F++(sA++(sW++(L.map trS).flatten))
def FlR.ids{F:zj}{L:List Tr}{mA mW}(hr:FlR F L mA mW)(ok:F.Ok):L.Pairwise (λx y=>x.1.id<y.1.id):=by
 have:=ok.pw;rw[hr.l,List.pairwise_map]at this;exact this
def FlR.keys{F:zj}{L:List Tr}{mA mW}(hr:FlR F L mA mW)(ok:F.Ok):xD (mA.map (·.1))=L.map (·.1.id):=by
 refine Kn ?_ ?_
 ·have:=hr.all.map (·.1);rw[List.map_map]at this;exact this
 ·rw[List.pairwise_map];exact(hr.ids ok).imp λh=>by omega
def FlR.len{F:zj}{L:List Tr}{mA mW}(hr:FlR F L mA mW):mA.length=F.l.length:=by rw[hr.all.length_eq,hr.l];simp
def FlR.nd{F:zj}{L:List Tr}{mA mW}(hr:FlR F L mA mW)(ok:F.Ok):(mA.map (·.1)).Nodup:=by
 have:=hr.all.map (·.1);rw[List.map_map]at this;rw[this.nodup_iff];have h:=(hr.ids ok).imp (S:=λx y=>x.1.id≠y.1.id) λh=>by omega
 exact List.pairwise_map.2 h
def FlR.get{F:zj}{L:List Tr}{mA mW}(hr:FlR F L mA mW)(ok:F.Ok){t:Tr}(ht:t∈L):Zp mA t.1.id=some (t.1.rev,some ⟨t.2.1,0,none⟩):=
 qW (hr.nd ok) (hr.all.mem_iff.2 (List.mem_map_of_mem (f:=ent) ht))
def FlR.get0{F:zj}{L:List Tr}{mA mW}(hr:FlR F L mA mW){id:Int}(h:yF F.l id=none):Zp mA id=none:=by
 refine jw.2 λhm=>?_;have:=(hr.all.map (·.1)).mem_iff.1 hm;rw[List.map_map]at this;obtain⟨t,ht,e⟩:=List.mem_map.1 this;have e:t.1.id=id:=e;have h2:=List.find?_eq_none.1 h t.1 (by rw[hr.l];exact List.mem_map_of_mem (f:=(·.1)) ht);simp[e]at h2
def FlR.at{F:zj}{L:List Tr}{mA mW}(hr:FlR F L mA mW){id:Int}{x:zh}(h:yF F.l id=some x):∃A t B,L=A++t::B∧t.1=x∧x.id=id:=by
 have h1:=List.mem_of_find?_eq_some h;have h2:=List.find?_some h;rw[hr.l]at h1;obtain⟨t,ht,rfl⟩:=List.mem_map.1 h1;obtain⟨A,B,e⟩:=List.append_of_mem ht;exact⟨A,t,B,e,rfl,by simpa using h2⟩
def KP(h:St w0 E w){room:Int}{k:Option Addr→PT}(hk:∀b s w',FlS b ⟨room,0,[]⟩ s→St w0 (s::E) w'→k (some ⟨b,0,none⟩) w'):L.call Pr Jl [I room] (.one (.one .ptr)) k w:=by
 refine zm (vA _) ?_;unfold Qd;refine MpS.new h KI vD λr1 s1 w hm1 h=>?_;refine MpS.new h KI KI λr2 s2 w hm2 h=>?_;refine nw h ?_;clear h;intro b w h;refine⟨_,rfl,hk b _ w ⟨⟨by simp,by simp,by simp,by simp,by simp,by simp,by simp⟩,r1,r2,[],[],s1,s2,[],hm1,hm2,⟨rfl,by simp,.refl _,λq=>rfl⟩,rfl⟩ ?_⟩;have h:=Vb (Vb (Qe h));exact h.eq (by simp)
def VP(h:St w0 E w)(i:Nat){b:Nat}{F:zj}{s:Seg}(hi:nth E i=some s)(hf:FlS b F s){k:Int→PT}(hk:k F.l.length w):L.call Pr yw [pO b] (.one (.one (.int .i64))) k w:=by
 obtain⟨ok,rA,rW,mA,mW,sA,sW,L,hA,hW,hr,rfl⟩:=hf;refine zm (XT _) ?_;unfold jU;have h:St w0 (flB b rA rW F::sA::sW::(L.map trS).flatten::zQ E i) w:=(h.front i hi).eq (by simp)
 (refine nn ?_;refine ldC h ?_)
 refine MpS.len yb h 1 rfl hA ⟨_,rfl,?_⟩;rw[hr.len];exact hk
def fOf(l:List zh)(id:Int):B0:=((yF l id).map (·.rev)).getD s_
def gp(h:St w0 E w)(i:Nat){b:Nat}{F:zj}{s:Seg}(hi:nth E i=some s)(hf:FlS b F s){id:Int}{k:B0→PT}(hk:k (fOf F.l id) w):L.call Pr YT [pO b,I id] (.one (.one .str)) k w:=by
 obtain⟨ok,rA,rW,mA,mW,sA,sW,L,hA,hW,hr,rfl⟩:=hf;refine zm (qQ _ _) ?_;unfold JT;have h:St w0 (flB b rA rW F::sA::sW::(L.map trS).flatten::zQ E i) w:=(h.front i hi).eq (by simp)
 (refine nn ?_;refine ldC h ?_)
 refine MpS.get mkI yb zo (λx:B0×Option Addr=>(x.1,x.2,())) (λ_=>rfl) h 1 rfl hA ⟨_,rfl,?_⟩;unfold fOf at hk
 cases hfd:yF F.l id with
 | none=>rw[hfd]at hk;rw[hr.get0 hfd];exact hk
 | some x=>
  obtain⟨A,t,B,hL,rfl,hid⟩:=hr.at hfd;have hg:=hr.get ok (t:=t) (by rw[hL];simp);rw[hid]at hg;rw[hfd]at hk;rw[hg];exact hk
def oM(h:St w0 E w){p:Option Addr}{rev:B0}{k:FV→PT}(hk:∀c0 c1 w',St w0 ([Cl c1 ZH [.string rev]]::[Cl c0 zy [.pointer p]]::E) w'→
  k ⟨.func ZV,#[],#[.pointer (some ⟨c0,0,none⟩),.pointer (some ⟨c1,0,none⟩)]⟩ w'):L.call Pr ZP [.pointer p,.string rev] (.one (.one .func)) k w:=by
 refine zm (qO _ _) ?_;unfold JR;refine nw h ?_;clear h;intro c0 w h;refine nw h ?_;clear h;intro c1 w h;exact⟨_,rfl,hk c0 c1 w h⟩
def Kw(l:List Tr)(m:Nat):TT [.one (.int .i64),.one .ptr]:=match l[m]? with
 | some t=>(t.1.id,some ⟨t.2.1,0,none⟩,())
 | none=>(0,none,())
abbrev yJ(rev:B0)(t:Tr):Bool:=decide (t.1.rev=rev)
def oD{c0 c1 b rA rW:Nat}{F:zj}{L:List Tr}{mA mW}{sA:Seg}{rev:B0}(ok:F.Ok)(hA:MpS KI vD rA mA sA)(hr:FlR F L mA mW) :
  gl Pr w0 [[Cl c1 ZH [.string rev]],[Cl c0 zy [.pointer (some ⟨b,0,none⟩)]],flB b rA rW F,sA]
   (.func (.func ZV) #[] #[.pointer (some ⟨c0,0,none⟩),.pointer (some ⟨c1,0,none⟩)]) (L.filter (yJ rev)).length λm=>TV _ (Kw (L.filter (yJ rev)) m):=by
 intro yv R J Jd G w h hJ step fin fin2;have hll:L.length=F.l.length:=by rw[hr.l];simp
 have hfew:=ok.few;refine⟨XN,XP yv ⟨c0,0,none⟩ ⟨c1,0,none⟩ ?_⟩;unfold jR;have h:St w0 ([Cl c1 ZH [.string rev]]::[Cl c0 zy [.pointer (some ⟨b,0,none⟩)]]::flB b rA rW F::sA::G) w:=h
 (refine ldC h ?_;refine nn ?_;refine ldC h ?_)
 refine gq h 3 rfl hA (by rw[hr.len];omega) λv s w hrow h=>?_;rw[hr.keys ok]at hrow;have hlen:=Rw.len ZR hrow;rw[List.length_map]at hlen
 refine zK (λq y w=>∃(j:Nat)(G:List Seg),@Eq Int y.1 j∧q+j=L.length∧J ((L.take j).filter (yJ rev)).length G∧
  St w0 (s::[Cl c1 ZH [.string rev]]::[Cl c0 zy [.pointer (some ⟨b,0,none⟩)]]::flB b rA rW F::sA::G) w) L.length ⟨0,G,rfl,rfl,hJ,h⟩ ?_
 clear hJ;clear h;rintro q ⟨y,⟨⟩⟩ w ⟨j,G,hy,hq,hJ,h⟩ again hag;simp only at hy;subst hy;refine it (λhb=>?_) (λhb=>?_)<;>(try simp only[zB]at hb)
 ·have hj:j<L.length:=by omega
  have hx:L[j]? = some L[j]:=List.getElem?_eq_getElem hj;have hft:=Xf (p:=yJ rev) hx;refine Zs (λz w=>∃G,J ((L.take (j+1)).filter (yJ rev)).length G∧St w0 (s::[Cl c1 ZH [.string rev]]::[Cl c0 zy [.pointer (some ⟨b,0,none⟩)]]::flB b rA rW F::sA::G) w) (λk8 hk8=>?_) (λz w ⟨G,hJ,h⟩=>?_)
  ·refine Rw.ix ZR hrow (by omega) (by simpa using hj) λa ha=>?_;refine Rw.ld0 ZR h 0 rfl hrow ha (x:=L[j].1.id) (by simp[hj]) rfl rfl ?_
   (refine ldC h ?_;refine nn ?_;refine ldC h ?_)
   refine MpS.get mkI yb zo (λx:B0×Option Addr=>(x.1,x.2,())) (λ_=>rfl) h 4 rfl hA ?_;rw[hr.get ok (List.getElem_mem hj)];simp only[Option.map_some,Option.getD_some];refine nw h ?_;clear h;intro b16 w h
   (refine stC h ?_;clear h;intro w h;dsimp only[yr,ze]at h;refine ldC h ?_;refine ldC h ?_)
   rw[Qu];refine it (λhc=>?_) (λhc=>?_)<;>(try simp only[zB]at hc)
   ·(refine ldC h ?_)
    have h:=xf h;have hp:yJ rev L[j]=true:=decide_eq_true hc;rw[if_pos hp]at hft;rw[hft]at hk8;have hat:=VG (p:=yJ rev) hx hp;have ea:TV _ (Kw (L.filter (yJ rev)) ((L.take j).filter (yJ rev)).length) = [I L[j].1.id,.pointer (some ⟨L[j].2.1,0,none⟩)]:=by simp only[Kw,hat];rfl
    have hlt:((L.take j).filter (yJ rev)).length<(L.filter (yJ rev)).length:=by
     rcases Nat.lt_or_ge ((L.take j).filter (yJ rev)).length (L.filter (yJ rev)).length with h | h
     ·exact h
     ·rw[List.getElem?_eq_none h]at hat;cases hat
    have step:=step _ G [s] w hlt hJ (St.toEnd (X:=[s]) (A:=[_,_,_,_]) h);simp only[ea]at step;refine cv (jn.mono step λu w' hu=>?_);rcases hu with ⟨rfl,G',h,hJ⟩ | ⟨rfl,hd⟩
    ·exact⟨true,rfl,itF rfl (hk8 () w' ⟨G',hJ,St.ofEnd (X:=[s]) (A:=[_,_,_,_]) h⟩)⟩
    ·exact⟨false,rfl,itT rfl (fin2 w' hd)⟩
   ·have h:=xf h;have hp:¬yJ rev L[j]=true:=λe=>hc (of_decide_eq_true e);rw[if_neg hp]at hft;rw[Nat.add_zero]at hft;rw[hft]at hk8;exact hk8 () w ⟨G,hJ,h⟩
  ·refine hag (q-1) _ w (by omega) ⟨j+1,G,?_,by omega,hJ,h⟩;show Wi _=_;rw[wr (by omega) (by omega)];omega
 ·have e:j=L.length:=by omega
  subst e;rw[List.take_length]at hJ;exact fin G w hJ (xf h)
def YZ(h:St w0 E w)(i:Nat){Q:List Tr}(hi:nth E i=some (Q.map trS).flatten){t:Tr}(ht:t∈Q)(hp:Jz t.2.1 t.1.pod t.2.2){k:Int→PT}(hk:k t.1.pod.st w) :
  L.call Pr zT [.pointer (some ⟨t.2.1,0,none⟩)] (.one (.one (.int .i64))) k w:=by
 obtain⟨A,B,rfl⟩:=List.append_of_mem ht;exact KJ (h.front i hi).pick 0 rfl hp hk
def qr(h:St w0 E w)(i:Nat){Q:List Tr}(hi:nth E i=some (Q.map trS).flatten){t:Tr}(ht:t∈Q)(hp:Jz t.2.1 t.1.pod t.2.2){k:Int→PT}(hk:k t.1.pod.reqs.length w) :
  L.call Pr Zj [.pointer (some ⟨t.2.1,0,none⟩)] (.one (.one (.int .i64))) k w:=by
 obtain⟨A,B,rfl⟩:=List.append_of_mem ht;exact oK (h.front i hi).pick 0 rfl hp hk
def revs(l:List zh)(rev:B0):List zh:=l.filter λx=>decide (x.rev=rev)
def FlR.revs{F:zj}{L:List Tr}{mA mW}(hr:FlR F L mA mW)(rev:B0):revs F.l rev=(L.filter (yJ rev)).map (·.1):=by
 unfold Ytofigcbhafkikaa.revs;rw[hr.l,List.filter_map];rfl
def Qp{l:List Tr}{m:Nat}(hm:m<l.length):Kw l m=(l[m].1.id,some ⟨l[m].2.1,0,none⟩,()):=by
 simp[Kw,List.getElem?_eq_getElem hm]
def QJ{L:List Tr}{rev:B0}{m:Nat}(hm:m<(L.filter (yJ rev)).length):(L.filter (yJ rev))[m]∈L:=(List.mem_filter.1 (List.getElem_mem hm)).1
def xc(x:zh):Bool:=decide (x.pod.st≠3)
def zt(l:List zh)(rev:B0):Nat:=((revs l rev).filter xc).length
def gn(h:St w0 E w)(i:Nat){b:Nat}{F:zj}{s:Seg}(hi:nth E i=some s)(hf:FlS b F s){rev:B0}{k:Int→PT}(hk:∀w',St w0 E w'→k (zt F.l rev) w') :
  L.call Pr YS [pO b,.string rev] (.one (.one (.int .i64))) k w:=by
 obtain⟨ok,rA,rW,mA,mW,sA,sW,L,hA,hW,hr,rfl⟩:=hf;refine zm (qN _ _) ?_;unfold JQ;have hll:L.length=F.l.length:=by rw[hr.l];simp
 have hfew:=ok.few;have h:St w0 (flB b rA rW F::sA::sW::(L.map trS).flatten::zQ E i) w:=(h.front i hi).eq (by simp);refine nw h ?_;clear h;intro b1 w h
 (refine stC h ?_;clear h;intro w h;dsimp only[yr,ze]at h)
 refine oM h λc0 c1 w h=>?_;have h:=Jw (Jw (xd (xd h)));refine Xa (A:=[_,_,_,_]) (oD ok hA hr) h (λm G=>G = [Cl b1 zA [I ((((L.filter (yJ rev)).take m).filter λt=>xc t.1).length:Nat)]]::sW::(L.map trS).flatten::zQ E i) (λj G=>False) rfl ?_ ?_ ?_
 ·rintro m G X w lv lp d R hm rfl h hN hE;have hx:=List.getElem?_eq_getElem hm;have hft:=Xf (p:=λt:Tr=>xc t.1) hx;have hlt:=List.length_filter_le (yJ rev) L;have hl2:=List.length_filter_le (λt:Tr=>xc t.1) ((L.filter (yJ rev)).take m);rw[List.length_take]at hl2;have h:St w0 ([Rec lv lp .busy none]::[DfM d]::[Cl c1 ZH [.string rev]]::[Cl c0 zy [.pointer (some ⟨b,0,none⟩)]]::flB b rA rW F::sA::[Cl b1 zA [I ((((L.filter (yJ rev)).take m).filter λt=>xc t.1).length:Nat)]]::sW::(L.map trS).flatten::(zQ E i++X)) w:=h;rw[Qp hm]
  (try dsimp only)
  refine YZ h 8 rfl (QJ hm) (hr.ps _ (QJ hm)) ?_;refine it (λhc=>?_) (λhc=>?_)<;>(try simp only[zB]at hc)
  ·have hp:xc (L.filter (yJ rev))[m].1=true:=decide_eq_true hc;rw[if_pos hp]at hft
   (refine ldC h ?_;refine stC h ?_;clear h;intro w h;dsimp only[yr,ze]at h)
   rw[wr (by omega) (by omega)]at h;refine hN _ w rfl ?_;rw[hft];exact h
  ·have hp:¬xc (L.filter (yJ rev))[m].1=true:=λe=>(of_decide_eq_true e) hc;rw[if_neg hp]at hft;refine hN _ w rfl ?_;rw[hft];exact h
 ·rintro d G w rfl h;have h:St w0 ([DfM d]::[Cl c1 ZH [.string rev]]::[Cl c0 zy [.pointer (some ⟨b,0,none⟩)]]::flB b rA rW F::sA::[Cl b1 zA [I ((((L.filter (yJ rev)).take (L.filter (yJ rev)).length).filter λt=>xc t.1).length:Nat)]]::sW::(L.map trS).flatten::zQ E i) w:=h;refine ve ?_
  (refine ldC h ?_)
  (first | refine VZ h ?_ | refine VY h ?_ | refine VX h ?_ | refine VW h ?_ | refine VV h ?_ | refine VU h ?_ | refine VT h ?_ | refine VS h ?_ | refine VR h ?_ | refine VQ h ?_ | refine ur h ?_ | refine uq h ?_);clear h;intro w h
  rw[List.take_length];have e:zt F.l rev=((L.filter (yJ rev)).filter λt=>xc t.1).length:=by
   unfold zt;rw[hr.revs,List.filter_map,List.length_map];rfl
  refine⟨_,rfl,?_⟩;rw[←e];refine hk w (St.setN_same' i hi (St.back i hi (s':=flB b rA rW F++(sA++(sW++(L.map trS).flatten))) ?_));have h:=xf (Vj (ky h));exact h.eq (by simp)
 ·rintro d j G w hf;exact hf.elim
def je(a:Int×Int×Int)(x:zh):Int×Int×Int:=
 if x.pod.st=3 then a else if x.pod.st<a.2.1∨(x.pod.st=a.2.1∧(x.pod.reqs.length:Int)≤a.2.2)then(x.id,x.pod.st,x.pod.reqs.length)else a
def Jy(l:List zh)(rev:B0):Int:=((revs l rev).foldl je (0,3,0)).1
def KM(h:St w0 E w)(i:Nat){b:Nat}{F:zj}{s:Seg}(hi:nth E i=some s)(hf:FlS b F s){rev:B0}{k:Int→PT}(hk:∀w',St w0 E w'→k (Jy F.l rev) w') :
  L.call Pr Yc [pO b,.string rev] (.one (.one (.int .i64))) k w:=by
 obtain⟨ok,rA,rW,mA,mW,sA,sW,L,hA,hW,hr,rfl⟩:=hf;refine zm (Xm _ _) ?_;unfold jj;have hll:L.length=F.l.length:=by rw[hr.l];simp
 have hfew:=ok.few;have h:St w0 (flB b rA rW F::sA::sW::(L.map trS).flatten::zQ E i) w:=(h.front i hi).eq (by simp);refine nw h ?_;clear h;intro b1 w h;refine nw h ?_;clear h;intro b2 w h;refine nw h ?_;clear h;intro b3 w h
 (refine stC h ?_;clear h;intro w h;dsimp only[yr,ze]at h;refine stC h ?_;clear h;intro w h;dsimp only[yr,ze]at h;refine stC h ?_;clear h;intro w h;dsimp only[yr,ze]at h)
 refine oM h λc0 c1 w h=>?_;have h:=Jw (Jw (ge (ge h)));refine Xa (A:=[_,_,_,_]) (oD ok hA hr) h (λm G=>∃a:Int×Int×Int,a=(((L.filter (yJ rev)).take m).map (·.1)).foldl je (0,3,0)∧G = [Cl b3 zA [I a.2.2]]::[Cl b2 zA [I a.2.1]]::[Cl b1 zA [I a.1]]::sW::(L.map trS).flatten::zQ E i) (λj G=>False) ⟨_,rfl,rfl⟩ ?_ ?_ ?_
 ·rintro m G X w lv lp d R hm ⟨⟨a1,a2,a3⟩,ha,rfl⟩ h hN hE;have hx:=List.getElem?_eq_getElem hm;have hft:je (a1,a2,a3) (L.filter (yJ rev))[m].1=(((L.filter (yJ rev)).take (m+1)).map (·.1)).foldl je (0,3,0):=by
   rw[List.take_add_one,hx,List.map_append,List.foldl_append,←ha];rfl
  have h:St w0 ([Rec lv lp .busy none]::[DfM d]::[Cl c1 ZH [.string rev]]::[Cl c0 zy [.pointer (some ⟨b,0,none⟩)]]::flB b rA rW F::sA::[Cl b3 zA [I a3]]::[Cl b2 zA [I a2]]::[Cl b1 zA [I a1]]::sW::(L.map trS).flatten::(zQ E i++X)) w:=h;rw[Qp hm]
  (try dsimp only)
  have hmem:=QJ hm;have hps:=hr.ps _ hmem;refine YZ h 10 rfl hmem hps ?_;refine it (λhc=>?_) (λhc=>?_)<;>(try simp only[zB]at hc)
  ·simp only[je]at hft;rw[if_pos hc]at hft;exact hN _ w ⟨_,hft,rfl⟩ h
  simp only[je]at hft;rw[if_neg hc]at hft
  (refine dr h ?_;clear h;intro w h;refine ldC h ?_)
  refine YZ h 10 rfl hmem hps ?_
  (refine ckC h ?_)
  refine it (λhd=>?_) (λhd=>?_)<;>(try simp only[zB]at hd)
  ·rw[if_pos (.inl hd)]at hft;refine YZ h 10 rfl hmem hps ?_;refine qr h 10 rfl hmem hps ?_
   (refine stC h ?_;clear h;intro w h;dsimp only[yr,ze]at h;refine stC h ?_;clear h;intro w h;dsimp only[yr,ze]at h;refine stC h ?_;clear h;intro w h;dsimp only[yr,ze]at h)
   exact hN _ w ⟨_,hft,rfl⟩ h
  (refine ldC h ?_)
  refine YZ h 10 rfl hmem hps ?_
  (refine ckC h ?_)
  refine it (λhe=>?_) (λhe=>?_)<;>(try simp only[zB]at he)
  ·(refine ldC h ?_)
   refine qr h 10 rfl hmem hps ?_
   (refine ckC h ?_)
   refine it (λhg=>?_) (λhg=>?_)<;>(try simp only[zB]at hg)
   ·rw[if_pos (.inr ⟨he,hg⟩)]at hft;refine YZ h 10 rfl hmem hps ?_;refine qr h 10 rfl hmem hps ?_
    (refine stC h ?_;clear h;intro w h;dsimp only[yr,ze]at h;refine stC h ?_;clear h;intro w h;dsimp only[yr,ze]at h;refine stC h ?_;clear h;intro w h;dsimp only[yr,ze]at h)
    exact hN _ w ⟨_,hft,rfl⟩ h
   ·rw[if_neg (λhh=>hh.elim hd λhh=>hg hh.2)]at hft;exact hN _ w ⟨_,hft,rfl⟩ h
  ·rw[if_neg (λhh=>hh.elim hd λhh=>he hh.1)]at hft;exact hN _ w ⟨_,hft,rfl⟩ h
 ·rintro d G w ⟨a,ha,rfl⟩ h;have h:St w0 ([DfM d]::[Cl c1 ZH [.string rev]]::[Cl c0 zy [.pointer (some ⟨b,0,none⟩)]]::flB b rA rW F::sA::[Cl b3 zA [I a.2.2]]::[Cl b2 zA [I a.2.1]]::[Cl b1 zA [I a.1]]::sW::(L.map trS).flatten::zQ E i) w:=h;refine ve ?_
  (refine ldC h ?_)
  (first | refine VZ h ?_ | refine VY h ?_ | refine VX h ?_ | refine VW h ?_ | refine VV h ?_ | refine VU h ?_ | refine VT h ?_ | refine VS h ?_ | refine VR h ?_ | refine VQ h ?_ | refine ur h ?_ | refine uq h ?_);clear h;intro w h
  rw[List.take_length]at ha;have e:Jy F.l rev=a.1:=by unfold Jy;rw[hr.revs,ha]
  refine⟨_,rfl,?_⟩;rw[←e];refine hk w (St.setN_same' i hi (St.back i hi (s':=flB b rA rW F++(sA++(sW++(L.map trS).flatten))) ?_));have h:=xf (Vj (ky (gj (gi h))));exact h.eq (by simp)
 ·rintro d j G w hf;exact hf.elim
def eK(x:Int×Int×Int):List Value:=[I x.1,I x.2.1,I x.2.2]
def JN:Enc eK 3:=⟨λ_=>rfl,λ_=>rfl,by decide⟩
def elK:El Pr zU yV 3 24 (.agg #[I 0,I 0,I 0]):=vl (by kernel_rfl) (by kernel_rfl) rfl (by decide)
def KR(h:St w0 E w){v:Sl}{l:List (Int×Int×Int)}(r:Rd w eK v l)(hn:l.length<1000000000)(h64:v.a=none→l = []){k:Sl→PT}
  (hk:∀(v':Sl) s' w',Rw eK yV 3 v' l s'→St w0 (s'::E) w'→k v' w'):L.call Pr zZ [SlV v] (.one (.one .slice)) k w:=by
 refine zm (Yf _) ?_;unfold ZI;exact vu (K:=λv w'=>∃x,v=RT.val (.one (.one .slice)) x∧k x w') JN elK h r (by omega) (by omega) h64 λv' s' w' h1 h2 h3=>⟨v',rfl,hk v' s' w' h1 h3⟩
def xC(x:zh):Int×Int×Int:=(x.id,x.pod.st,x.pod.reqs.length)
def jJ(l:List zh)(rev:B0):List (Int×Int×Int):=(revs l rev).map xC
def oO(h:St w0 E w)(i:Nat){b:Nat}{F:zj}{s:Seg}(hi:nth E i=some s)(hf:FlS b F s){rev:B0}{k:Sl→PT}(hk:∀v s' w',Rw eK yV 3 v (jJ F.l rev) s'→St w0 (s'::E) w'→k v w') :
  L.call Pr Yt [pO b,.string rev] (.one (.one .slice)) k w:=by
 obtain⟨ok,rA,rW,mA,mW,sA,sW,L,hA,hW,hr,rfl⟩:=hf;refine zm (XS _ _) ?_;unfold jT;have hll:L.length=F.l.length:=by rw[hr.l];simp
 have hfew:=ok.few;have hlt:=List.length_filter_le (yJ rev) L;have h:St w0 (flB b rA rW F::sA::sW::(L.map trS).flatten::zQ E i) w:=(h.front i hi).eq (by simp);refine nw h ?_;clear h;intro b1 w h;refine oM h λc0 c1 w h=>?_;have h:=Jw (Jw (xd (xd h)));have h:St w0 ([[Cl c1 ZH [.string rev]],[Cl c0 zy [.pointer (some ⟨b,0,none⟩)]],flB b rA rW F,sA]++[Cl b1 zU [SlV ⟨none,0,0⟩]]::[]::sW::(L.map trS).flatten::zQ E i) w:=h.eq (by simp);refine Xa (A:=[_,_,_,_]) (oD ok hA hr) h (λm G=>∃v sv,Rw eK yV 3 v (((L.filter (yJ rev)).take m).map λt=>xC t.1) sv∧G = [Cl b1 zU [SlV v]]::sv::sW::(L.map trS).flatten::zQ E i) (λj G=>False) ⟨_,_,Rw.nil,rfl⟩ ?_ ?_ ?_
 ·rintro m G X w lv lp d R hm ⟨v,sv,hv,rfl⟩ h hN hE;have hx:=List.getElem?_eq_getElem hm;have h:St w0 ([Rec lv lp .busy none]::[DfM d]::[Cl c1 ZH [.string rev]]::[Cl c0 zy [.pointer (some ⟨b,0,none⟩)]]::flB b rA rW F::sA::[Cl b1 zU [SlV v]]::sv::sW::(L.map trS).flatten::(zQ E i++X)) w:=h;rw[Qp hm]
  (try dsimp only)
  have hmem:=QJ hm;have hps:=hr.ps _ hmem
  (refine dr h ?_;clear h;intro w h;refine ldC h ?_)
  refine YZ h 9 rfl hmem hps ?_
  (refine ckC h ?_)
  refine qr h 9 rfl hmem hps ?_
  (refine ckC h ?_)
  refine nw h ?_;clear h;intro b11 w h
  (refine ckC h ?_)
  refine Rw.app JN elK h 7 rfl hv (xC (L.filter (yJ rev))[m].1) rfl (by simp;omega) (by simp;omega) λv' s' w hv h=>?_
  (dsimp only[ze,List.cons_append,List.nil_append]at h;refine stC h ?_;clear h;intro w h;dsimp only[yr,ze]at h)
  refine hN _ w ⟨v',s',?_,rfl⟩ h;rw[List.take_add_one,hx,List.map_append];exact hv
 ·rintro d G w ⟨v,sv,hv,rfl⟩ h;have h:St w0 ([DfM d]::[Cl c1 ZH [.string rev]]::[Cl c0 zy [.pointer (some ⟨b,0,none⟩)]]::flB b rA rW F::sA::[Cl b1 zU [SlV v]]::sv::sW::(L.map trS).flatten::zQ E i) w:=h;rw[List.take_length]at hv;have e:jJ F.l rev=(L.filter (yJ rev)).map λt=>xC t.1:=by unfold jJ;rw[hr.revs,List.map_map];rfl
  rw[←e]at hv;have hle:(jJ F.l rev).length≤L.length:=by rw[e,List.length_map];exact hlt
  refine ve ?_
  (refine ldC h ?_)
  refine KR h (hv.rd JN h 6 rfl) (by omega) (Rw.nil_of JN hv) λv' s' w hv' h=>?_
  (first | refine VZ h ?_ | refine VY h ?_ | refine VX h ?_ | refine VW h ?_ | refine VV h ?_ | refine VU h ?_ | refine VT h ?_ | refine VS h ?_ | refine VR h ?_ | refine VQ h ?_ | refine ur h ?_ | refine uq h ?_);clear h;intro w h
  refine⟨_,rfl,hk v' s' w hv' ?_⟩;have h:=Vj (Vi (gj (gi h)));have h:=xd (xd (xd (xd h)));have h:=St.back (i+1) (E:=s'::E) hi (s':=flB b rA rW F++(sA++(sW++(L.map trS).flatten))) (h.eq (by simp[zQ]));exact St.setN_same' (i+1) (E:=s'::E) hi h
 ·rintro d j G w hf;exact hf.elim
def ZE(l:List zh)(id:Int)(g:Zl→Zl):List zh:=l.filterMap λx=>if x.id=id then(if(g x.pod).st=4 then none else some { x with pod:=g x.pod })else some x
def QT{l:List zh}{id:Int}{g:Zl→Zl}(h:∀y∈l,y.id≠id):ZE l id g=l:=by
 unfold ZE
 induction l with
 | nil=>rfl
 | cons y l ih=>
  rw[List.filterMap_cons,if_neg (h y (by simp))];simp only;rw[ih λz hz=>h z (by simp[hz])]
def Xg{A B:List zh}{x:zh}{g:Zl→Zl}(h:(A++x::B).Pairwise (λx y=>x.id<y.id)):ZE (A++x::B) x.id g=A++((if(g x.pod).st=4 then []else [{ x with pod:=g x.pod }])++B):=by
 rw[List.pairwise_append,List.pairwise_cons]at h;have hA:ZE A x.id g=A:=QT λy hy=>by have:=h.2.2 y hy x (by simp);omega
 have hB:ZE B x.id g=B:=QT λy hy=>by have:=h.2.1.1 y hy;omega
 unfold ZE at *
 rw[List.filterMap_append,hA,List.filterMap_cons,if_pos rfl]
 congr 1
 split<;>rename_i hc
 ·split at hc
  ·rename_i h4;rw[if_pos h4,hB];rfl
  ·cases hc
 ·split at hc
  ·cases hc
  ·rename_i h4;cases hc;rw[if_neg h4,hB];rfl
def yj{l:List zh}{id:Int}{x:zh}(h:yF l id=some x):x∈l∧x.id=id:=⟨List.mem_of_find?_eq_some h,by simpa using List.find?_some h⟩
def jK{l:List zh}(pw:l.Pairwise (λx y=>x.id<y.id)){x:zh}(hx:x∈l):yF l x.id=some x:=by
 unfold yF
 induction l with
 | nil=>simp at hx
 | cons y l ih=>
  rw[List.pairwise_cons]at pw;rcases List.mem_cons.1 hx with rfl | hx
  ·simp
  ·have:=pw.1 x hx;rw[List.find?_cons_of_neg (by simp;omega)];exact ih pw.2 hx
def Jm{l:List zh}{q:Int}(h:zP l q=none):∀x∈l,q∉x.pod.reqs:=λx hx=>by simpa using List.find?_eq_none.1 h x hx
def zj.Ok.upd{F:zj}(ok:F.Ok){id:Int}{x:zh}(hx:yF F.l id=some x)(g:Zl→Zl)(hst:(g x.pod).st=1∨(g x.pod).st=2∨(g x.pod).st=3∨(g x.pod).st=4)
  (hq:∀q∈(g x.pod).reqs,q∈x.pod.reqs∨zP F.l q=none):({ F with l:=ZE F.l id g }:zj).Ok:=by
 obtain⟨hm,rfl⟩:=yj hx;obtain⟨A,B,hl⟩:=List.append_of_mem hm;have pw:=ok.pw;have rng:=ok.rng;have live:=ok.live;have once:=ok.once;have few:=ok.few;have hno:∀q,zP F.l q=none→∀y∈A++x::B,q∉y.pod.reqs:=λq h=>by rw[hl]at h;exact Jm h
 rw[hl]at pw rng live once few;have e:ZE F.l x.id g=A++((if(g x.pod).st=4 then []else [{ x with pod:=g x.pod }])++B):=by rw[hl];exact Xg pw
 by_cases h4:(g x.pod).st=4
 ·rw[if_pos h4,List.nil_append]at e;have hs:(A++B).Sublist (A++x::B):=List.Sublist.append (List.Sublist.refl _) (List.sublist_cons_self ..);refine⟨?_,?_,?_,?_,?_,ok.lo,ok.hi⟩
  ·rw[show({ F with l:=ZE F.l x.id g }:zj).l=A++B from e];exact pw.sublist hs
  ·rw[show({ F with l:=ZE F.l x.id g }:zj).l=A++B from e];exact λy hy=>rng y (hs.subset hy)
  ·rw[show({ F with l:=ZE F.l x.id g }:zj).l=A++B from e];exact λy hy=>live y (hs.subset hy)
  ·rw[show({ F with l:=ZE F.l x.id g }:zj).l=A++B from e];exact once.sublist hs
  ·rw[show({ F with l:=ZE F.l x.id g }:zj).l=A++B from e];exact Nat.lt_of_le_of_lt hs.length_le few
 ·rw[if_neg h4,List.singleton_append]at e;have e:({ F with l:=ZE F.l x.id g }:zj).l=A++ { x with pod:=g x.pod } :: B:=e;refine⟨?_,?_,?_,?_,?_,ok.lo,ok.hi⟩
  ·rw[e];rw[List.pairwise_append,List.pairwise_cons]at pw ⊢;exact⟨pw.1,pw.2.1,λa ha b hb=>by
    rcases List.mem_cons.1 hb with rfl | hb
    ·exact pw.2.2 a ha x (by simp)
    ·exact pw.2.2 a ha b (by simp[hb])⟩
  ·rw[e];intro y hy;rcases List.mem_append.1 hy with hy | hy
   ·exact rng y (by simp[hy])
   ·rcases List.mem_cons.1 hy with rfl | hy
    ·exact rng x (by simp)
    ·exact rng y (by simp[hy])
  ·rw[e];intro y hy;rcases List.mem_append.1 hy with hy | hy
   ·exact live y (by simp[hy])
   ·rcases List.mem_cons.1 hy with rfl | hy
    ·simp only;omega
    ·exact live y (by simp[hy])
  ·rw[e];rw[List.pairwise_append,List.pairwise_cons]at once ⊢;refine⟨once.1,⟨λb hb q hq1 hq2=>?_,once.2.1.2⟩,λa ha b hb q hq1 hq2=>?_⟩
   ·rcases hq q hq1 with h | h
    ·exact once.2.1.1 b hb q h hq2
    ·exact hno q h b (by simp[hb]) hq2
   ·rcases List.mem_cons.1 hb with rfl | hb
    ·rcases hq q hq2 with h | h
     ·exact once.2.2 a ha x (by simp) q hq1 h
     ·exact hno q h a (by simp[ha]) hq1
    ·exact once.2.2 a ha b (by simp[hb]) q hq1 hq2
  ·rw[e];simp only[List.length_append,List.length_cons]at few ⊢;exact few
def UW:∀{m:List (Int×(B0×Option Addr))}{k:Int},(m.map (·.1)).Nodup→jY m k=m.filter λp=>decide (p.1≠k)
 | [],k,_=>rfl
 | p::m,k,h=>by
  rw[List.map_cons,List.nodup_cons]at h;simp only[jY];by_cases e:p.1=k
  ·rw[if_pos e,List.filter_cons_of_neg (by simp[e])]
   symm
   rw[List.filter_eq_self];intro y hy;have:y.1≠k:=λe2=>h.1 (by rw[e,←e2];exact List.mem_map_of_mem (f:=(·.1)) hy);simpa using this
  ·rw[if_neg e,List.filter_cons_of_pos (by simpa using e),UW h.2]
def FlR.upd{F:zj}{A B:List Tr}{t:Tr}{mA mW mW'}(hr:FlR F (A++t::B) mA mW)(ok:F.Ok)(g:Zl→Zl){s':Seg}(hp:Jz t.2.1 (g t.1.pod) s')(h4:(g t.1.pod).st≠4)
  (hW:∀q,Zp mW' q=(zP (ZE F.l t.1.id g) q).map (·.id)):FlR { F with l:=ZE F.l t.1.id g } (A++({ t.1 with pod:=g t.1.pod },t.2.1,s')::B) mA mW':=by
 have pw:=ok.pw;rw[hr.l,List.map_append,List.map_cons]at pw;refine⟨?_,?_,?_,hW⟩
 ·show ZE F.l t.1.id g=_;rw[hr.l,List.map_append,List.map_cons,Xg pw,if_neg h4];simp
 ·intro y hy;rcases List.mem_append.1 hy with hy | hy
  ·exact hr.ps y (by simp[hy])
  ·rcases List.mem_cons.1 hy with rfl | hy
   ·exact hp
   ·exact hr.ps y (by simp[hy])
 ·have:=hr.all;simp only[List.map_append,List.map_cons]at this ⊢;exact this
def FlR.del{F:zj}{A B:List Tr}{t:Tr}{mA mW mW'}(hr:FlR F (A++t::B) mA mW)(ok:F.Ok)(g:Zl→Zl)(h4:(g t.1.pod).st=4)
  (hW:∀q,Zp mW' q=(zP (ZE F.l t.1.id g) q).map (·.id)):FlR { F with l:=ZE F.l t.1.id g } (A++B) (jY mA t.1.id) mW':=by
 have pw:=ok.pw;have ids:=hr.ids ok;rw[hr.l,List.map_append,List.map_cons]at pw;refine⟨?_,?_,?_,hW⟩
 ·show ZE F.l t.1.id g=_;rw[hr.l,List.map_append,List.map_cons,Xg pw,if_pos h4];simp
 ·intro y hy;rcases List.mem_append.1 hy with hy | hy
  ·exact hr.ps y (by simp[hy])
  ·exact hr.ps y (by simp[hy])
 ·rw[UW (hr.nd ok)];refine(hr.all.filter _).trans ?_;rw[List.pairwise_append,List.pairwise_cons]at ids;rw[List.map_append,List.map_cons,List.filter_append,List.filter_cons_of_neg (by simp[ent]),List.map_append];have fa:∀{l:List Tr},(∀y∈l,y.1.id≠t.1.id)→(l.map ent).filter (λp=>decide (p.1≠t.1.id))=l.map ent:=λ{l} h=>by
   rw[List.filter_eq_self];intro p hp;obtain⟨y,hy,rfl⟩:=List.mem_map.1 hp;exact decide_eq_true (h y hy)
  rw[fa (λy hy=>by have:=ids.2.2 y hy t (by simp);omega),fa (λy hy=>by have:=ids.2.1.1 y hy;omega)]
def QS{l:List zh}(pw:l.Pairwise (λx y=>x.id<y.id)){x:zh}(hx:x∈l){g:Zl→Zl}(hrq:(g x.pod).reqs=x.pod.reqs)(h4:(g x.pod).st=4→x.pod.reqs = [])(q:Int) :
  (zP (ZE l x.id g) q).map (·.id)=(zP l q).map (·.id):=by
 obtain⟨A,B,rfl⟩:=List.append_of_mem hx;rw[Xg pw];unfold zP;simp only[List.find?_append]
 cases List.find? (λx=>decide (q∈x.pod.reqs)) A with
 | some y=>rfl
 | none=>
  simp only[Option.none_or];by_cases h:(g x.pod).st=4
  ·rw[if_pos h,List.find?_nil,Option.none_or,List.find?_cons_of_neg (by simp[h4 h])]
  ·rw[if_neg h];by_cases hq:q∈x.pod.reqs
   ·rw[List.find?_cons_of_pos (by simp[hrq,hq]),List.find?_cons_of_pos (by simp[hq])];rfl
   ·rw[List.find?_cons_of_neg (by simp[hrq,hq]),List.find?_cons_of_neg (by simp[hq]),List.find?_nil,Option.none_or]
def KN{b rA rW:Nat}{F:zj}{A B:List Tr}{t:Tr}{mA:List (Int×(B0×Option Addr))}{sA sW:Seg}{D:List Seg}{rev:B0}(h:St w0 (flB b rA rW F::sA::sW::((A++t::B).map trS).flatten::D) w)
  (hA:MpS KI vD rA mA sA) (hg:Zp mA t.1.id=some (rev,some ⟨t.2.1,0,none⟩)) (hp:Jz t.2.1 t.1.pod t.2.2) {k:Unit→PT} (hk1:t.1.pod.st≠4→k () w)
  (hk2:t.1.pod.st=4→∀sA' w',MpS KI vD rA (jY mA t.1.id) sA'→St w0 (flB b rA rW F::sA'::sW::((A++B).map trS).flatten::D) w'→k () w') :
  L.call Pr yM [pO b,I t.1.id] (.tup []) k w:=by
 refine zm (qu _ _) ?_;unfold Jr
 (refine nn ?_;refine ldC h ?_)
 refine MpS.get mkI yb zo (λx:B0×Option Addr=>(x.1,x.2,())) (λ_=>rfl) h 1 rfl hA ?_;rw[hg];simp only[Option.map_some,Option.getD_some];refine YZ h 3 rfl (t:=t) (by simp) hp ?_;refine it (λhc=>?_) (λhc=>?_)<;>(try simp only[zB]at hc)
 ·(refine nn ?_;refine ldC h ?_)
  refine MpS.del mkI yb h 1 rfl hA λsA' w hA' h=>⟨(),rfl,hk2 hc sA' w hA' ?_⟩;have h:St w0 (flB b rA rW F::sA'::sW::((A++t::B).map trS).flatten::D) w:=h;have h:=Jw h;have h:=h.pick;have h:=xf h;have h:=Jw (Jw (Jw h));exact h
 ·exact⟨(),rfl,hk1 hc⟩
def Oc(h:St w0 E w)(i:Nat){b:Nat}{F:zj}{s:Seg}(hi:nth E i=some s)(hf:FlS b F s){id:Int}{k:Int→PT}
  (hk0:yF F.l id=none→∀w',St w0 E w'→k 6 w')
  (hk1:∀x,yF F.l id=some x→∀s' w',FlS b { F with l:=ZE F.l id λp=>(Zu p).1 } s'→St w0 (ze E i s') w'→k (Zu x.pod).2 w') :
  L.call Pr ZQ [pO b,I id] (.one (.one (.int .i64))) k w:=by
 obtain⟨ok,rA,rW,mA,mW,sA,sW,L,hA,hW,hr,rfl⟩:=hf;refine zm (qP _ _) ?_;unfold JS;have h:St w0 (flB b rA rW F::sA::sW::(L.map trS).flatten::zQ E i) w:=(h.front i hi).eq (by simp)
 (refine nn ?_;refine ldC h ?_)
 refine MpS.get2 mkI yb zo (λx:B0×Option Addr=>(x.1,x.2,())) (λ_=>rfl) h 1 rfl hA ?_
 cases hfd:yF F.l id with
 | none=>
  rw[hr.get0 hfd];simp only[Option.map_none,Option.getD_none,Option.isSome_none];refine nw h ?_;clear h;intro b4 w h
  (refine stC h ?_;clear h;intro w h;dsimp only[yr,ze]at h)
  refine it (λhc=>?_) (λhc=>?_)<;>(try simp only[zB]at hc)
  ·refine⟨_,rfl,hk0 hfd w (St.setN_same' i hi (St.back i hi (s':=flB b rA rW F++(sA++(sW++(L.map trS).flatten))) ?_))⟩;have h:=xf h;exact h.eq (by simp)
  ·cases hc
 | some x=>
  obtain⟨A,t,B,rfl,rfl,hid⟩:=hr.at hfd;have hg:=hr.get ok (t:=t) (by simp);have hp:=hr.ps t (by simp);rw[hid]at hg;rw[hg];simp only[Option.map_some,Option.getD_some,Option.isSome_some];refine nw h ?_;clear h;intro b4 w h
  (refine stC h ?_;clear h;intro w h;dsimp only[yr,ze]at h)
  refine it (λhc=>?_) (λhc=>?_)<;>(try simp only[zB]at hc)
  ·cases hc
  (refine ldC h ?_)
  have h:=xf h;have h:=Jw h;have h:=h.pick;refine gm h 0 rfl hp λs' w hp' h=>⟨_,rfl,?_⟩;have h:St w0 (trS ({ t.1 with pod:=(Zu t.1.pod).1 },t.2.1,s')::((A++B).map trS).flatten::flB b rA rW F::sA::sW::zQ E i) w:=h;have h:=h.place;have hst:=ok.live t.1 (yj hfd).1;have h4:(Zu t.1.pod).1.st≠4:=by unfold Zu;split<;>simp<;>omega
  have hrq:(Zu t.1.pod).1.reqs=t.1.pod.reqs:=by unfold Zu;split<;>rfl
  refine hk1 _ hfd (flB b rA rW { F with l:=ZE F.l id λp=>(Zu p).1 } ++ (sA++(sW++((A++({ t.1 with pod:=(Zu t.1.pod).1 },t.2.1,s')::B).map trS).flatten))) w ⟨?_,rA,rW,mA,mW,sA,sW,_,hA,hW,?_,rfl⟩ (St.back i hi ?_)
  ·refine ok.upd hfd _ ?_ λq hq=>.inl (by rw[←hrq];exact hq);unfold Zu;split<;>simp<;>omega
  ·subst hid;refine hr.upd ok (λp=>(Zu p).1) hp' h4 λq=>?_;rw[hr.wth];rw[QS ok.pw (yj hfd).1 hrq (λe=>absurd e h4)]
  ·have h:=Jw (Jw (Jw h));exact h.eq (by simp)
def jI(rev:B0)(conc:Int)(F:zj):zj:={ F with l:=F.l++[⟨F.last+1,rev,⟨1,conc,[]⟩⟩],last:=F.last+1 }
def grow(rev:B0)(conc:Int):Nat→zj→zj
 | 0,F=>F
 | n+1,F=>jI rev conc (grow rev conc n F)
def YV(rev:B0)(F:zj):zj:={ F with l:=ZE F.l (Jy F.l rev) λp=>(zG p).1 }
def Yb(rev:B0):Nat→zj→zj×List Int
 | 0,F=>(F,[])
 | n+1,F=>((Yb rev n (YV rev F)).1,Jy F.l rev::(Yb rev n (YV rev F)).2)
def ZG(F:zj)(rev:B0)(want:Int):Nat:=(min (want-zt F.l rev) (F.room-F.l.length)).toNat
def yq(F:zj)(rev:B0)(want:Int):Nat:=((zt F.l rev:Int)-max want 0).toNat
def Zx(F:zj)(rev:B0)(conc want:Int):zj:=grow rev conc (ZG F rev want) F
def Jo(F:zj)(rev:B0)(want:Int):List Int:=(List.range (ZG F rev want)).map λj:Nat=>F.last+1+(j:Int)
def Yv(F:zj)(rev:B0)(conc want:Int):zj×List Int:=Yb rev (yq (Zx F rev conc want) rev want) (Zx F rev conc want)
section
variable {F:zj}{rev:B0}{conc:Int}
def jz(n:Nat):(grow rev conc n F).last=F.last+n:=by
 induction n with
 | zero=>simp[grow]
 | succ n ih=>simp only[grow,jI,ih];omega
def Xb(n:Nat):(grow rev conc n F).room=F.room:=by
 induction n with
 | zero=>rfl
 | succ n ih=>simp only[grow,jI,ih]
def jH(n:Nat):(grow rev conc n F).l.length=F.l.length+n:=by
 induction n with
 | zero=>rfl
 | succ n ih=>simp only[grow,jI,List.length_append,ih,List.length_singleton];omega
def kR(a b:List zh):revs (a++b) rev=revs a rev++revs b rev:=List.filter_append ..
def jL(a b:List zh):zt (a++b) rev=zt a rev+zt b rev:=by
 unfold zt;rw[kR,List.filter_append,List.length_append]
def Xh(l:List zh):zt l rev≤l.length:=Nat.le_trans (List.length_filter_le ..) (List.length_filter_le ..)
def XF(n:Nat):zt (grow rev conc n F).l rev=zt F.l rev+n:=by
 induction n with
 | zero=>rfl
 | succ n ih=>
  simp only[grow,jI];rw[jL,ih];have:zt [(⟨(grow rev conc n F).last+1,rev,⟨1,conc,[]⟩⟩:zh)] rev=1:=by simp[zt,revs,xc]
  rw[this];rfl
def QQ(ok:F.Ok)(h1:F.l.length+1<100000000)(h2:F.last+1<4611686018427387904):(jI rev conc F).Ok:=by
 have lo:=ok.lo;refine⟨?_,?_,?_,?_,?_,?_,h2⟩
 ·simp only[jI,List.pairwise_append,List.pairwise_singleton,List.mem_singleton];exact⟨ok.pw,trivial,λa ha b hb=>by subst hb;have:=(ok.rng a ha).2;simp only;omega⟩
 ·intro x hx;simp only[jI,List.mem_append,List.mem_singleton]at hx ⊢;rcases hx with hx | rfl
  ·have:=ok.rng x hx;omega
  ·simp only;omega
 ·intro x hx;simp only[jI,List.mem_append,List.mem_singleton]at hx;rcases hx with hx | rfl
  ·exact ok.live x hx
  ·simp
 ·simp only[jI,List.pairwise_append,List.pairwise_singleton,List.mem_singleton];exact⟨ok.once,trivial,λa ha b hb q hq1 hq2=>by subst hb;simp at hq2⟩
 ·simp only[jI,List.length_append,List.length_singleton];exact h1
 ·simp only[jI];omega
def Vd(l:List zh)(x:zh)(hx:x.pod.reqs = [])(q:Int):zP (l++[x]) q=zP l q:=by
 unfold zP;rw[List.find?_append,List.find?_cons_of_neg (by simp[hx])];simp
def vy(l:List zh)(a:Int×Int×Int):Prop:=(a=(0,3,0)∧∀y∈l,xc y=false)∨∃x∈l,a=(x.id,x.pod.st,(x.pod.reqs.length:Int))∧xc x=true
def vy.step{l:List zh}{a:Int×Int×Int}{x:zh}(h:vy l a)(hx:x.pod.st=1∨x.pod.st=2∨x.pod.st=3):vy (l++[x]) (je a x):=by
 unfold je;by_cases h3:x.pod.st=3
 ·rw[if_pos h3];rcases h with ⟨rfl,h⟩ | ⟨y,hy,h⟩
  ·refine .inl ⟨rfl,λy hy=>?_⟩;rcases List.mem_append.1 hy with hy | hy
   ·exact h y hy
   ·simp at hy;subst hy;simp[xc,h3]
  ·exact .inr ⟨y,by simp[hy],h⟩
 ·rw[if_neg h3];have hup:xc x=true:=by simp[xc,h3]
  by_cases hc:x.pod.st<a.2.1∨(x.pod.st=a.2.1∧(x.pod.reqs.length:Int)≤a.2.2)
  ·rw[if_pos hc];exact .inr ⟨x,by simp,rfl,hup⟩
  ·rw[if_neg hc];rcases h with ⟨rfl,h⟩ | ⟨y,hy,h⟩
   ·exact absurd (.inl (by simp only;omega)) hc
   ·exact .inr ⟨y,by simp[hy],h⟩
def vy.all:∀{l2 l1:List zh}{a:Int×Int×Int},vy l1 a→(∀x∈l2,x.pod.st=1∨x.pod.st=2∨x.pod.st=3)→vy (l1++l2) (l2.foldl je a)
 | [],l1,a,h,_=>by simpa using h
 | x::l2,l1,a,h,hx=>by
  have:=vy.all (l2:=l2) (h.step (hx x (by simp))) (λy hy=>hx y (by simp[hy]));simpa using this
def xZ(ok:F.Ok)(hc:0<zt F.l rev):∃x,yF F.l (Jy F.l rev)=some x∧x.rev=rev∧(x.pod.st=1∨x.pod.st=2):=by
 have hr:∀x∈revs F.l rev,x∈F.l∧x.rev=rev:=λx hx=>⟨(List.mem_filter.1 hx).1,of_decide_eq_true (List.mem_filter.1 hx).2⟩;have h:=vy.all (l1:=[]) (a:=(0,3,0)) (l2:=revs F.l rev) (.inl ⟨rfl,by simp⟩) λx hx=>ok.live x (hr x hx).1;rw[List.nil_append]at h;rcases h with ⟨-,h⟩ | ⟨x,hx,ha,hup⟩
 ·exfalso;unfold zt at hc;rw[List.filter_eq_nil_iff.2 (λy hy=>by simp[h y hy])]at hc;simp at hc
 ·refine⟨x,?_,(hr x hx).2,?_⟩
  ·unfold Jy;rw[ha];exact jK ok.pw (hr x hx).1
  ·have:=ok.live x (hr x hx).1;have:x.pod.st≠3:=of_decide_eq_true hup;omega
def qq{p:Zl}(h:p.st=1∨p.st=2):(zG p).1 = { p with st:=if p.reqs = []then 4 else 3 }:=by
 unfold zG;rw[if_neg (by omega)]
def qJ(ok:F.Ok)(hc:0<zt F.l rev):(YV rev F).Ok:=by
 obtain⟨x,hx,-,hst⟩:=xZ ok hc;refine ok.upd hx _ ?_ ?_
 ·rw[qq hst];simp only;split<;>simp
 ·rw[qq hst];exact λq hq=>.inl hq
def xe(ok:F.Ok)(hc:0<zt F.l rev):zt (YV rev F).l rev+1=zt F.l rev:=by
 obtain⟨x,hx,hrev,hst⟩:=xZ ok hc;obtain⟨hm,hid⟩:=yj hx;obtain⟨A,B,hl⟩:=List.append_of_mem hm;have pw:=ok.pw;show zt (ZE F.l (Jy F.l rev) λp=>(zG p).1) rev+1=_;rw[←hid];rw[hl]at pw ⊢;rw[Xg pw,jL,jL,jL,show x::B = [x]++B from rfl,jL,qq hst];have h1:zt [x] rev=1:=by
  have:x.pod.st≠3:=by omega
  simp[zt,revs,xc,hrev,this]
 have h2:zt (if(if x.pod.reqs = []then(4:Int)else 3)=4 then []else [({ x with pod:={ x.pod with st:=if x.pod.reqs = []then 4 else 3 } }:zh)]) rev=0:=by
  by_cases hq:x.pod.reqs = []
  ·simp[hq,zt,revs]
  ·simp[hq,zt,revs,hrev,xc]
 simp only at h2 ⊢;rw[h1,h2];omega
end
def uc(h:St w0 E w)(i:Nat){b:Nat}{F:zj}{s:Seg}(hi:nth E i=some s)(hf:FlS b F s){rev:B0}{conc want:Int}(hroom:F.room<100000000)(hlast:F.last+F.room<4611686018427387904){k:Sl×Sl×Unit→PT}
  (hk:∀v1 v2 s' s1 s2 w',FlS b (Yv F rev conc want).1 s'→Rw eI zA 1 v1 (Jo F rev want) s1→Rw eI zA 1 v2 (Yv F rev conc want).2 s2→St w0 (s2::s1::ze E i s') w'→k (v1,v2,()) w') :
  L.call Pr ZF [pO b,.string rev,I conc,I want] (.tup [.one .slice,.one .slice]) k w:=by
 have hfew:=hf.1.few;have hcl:=Xh F.l (rev:=rev);refine zm (Xn _ _ _ _) ?_;unfold jk;refine gn h i hi hf λw h=>?_;have h:=h.front i hi;have hg:(ZG F rev want:Int)=max 0 (min (want-zt F.l rev) (F.room-F.l.length)):=by unfold ZG;omega
 refine Zs (λz w=>∃v sv s,z=(v,((zt F.l rev+ZG F rev want:Nat):Int),())∧FlS b (Zx F rev conc want) s∧Rw eI zA 1 v (Jo F rev want) sv∧St w0 (s::sv::zQ E i) w) (λk2 hk2=>?_) ?_
 ·refine zK (λq y w=>∃(j:Nat)(v:Sl)(sv s:Seg),y=(v,((zt F.l rev+j:Nat):Int),())∧q+j=ZG F rev want∧FlS b (grow rev conc j F) s∧Rw eI zA 1 v ((List.range j).map λj:Nat=>F.last+1+(j:Int)) sv∧St w0 (s::sv::zQ E i) w)
   (ZG F rev want) ⟨0,⟨none,0,0⟩,[],s,rfl,rfl,hf,Rw.nil,h.eq (by simp)⟩ ?_
  clear hf;clear h;rintro q y w ⟨j,v,sv,s,rfl,hq,hf,hv,h⟩ again hag
  (try dsimp only)
  have hf':=hf;obtain⟨ok,rA,rW,mA,mW,sA,sW,L,hA,hW,hr,rfl⟩:=hf;have hlj:=jH (F:=F) (rev:=rev) (conc:=conc) j;have hla:=jz (F:=F) (rev:=rev) (conc:=conc) j;have hro:=Xb (F:=F) (rev:=rev) (conc:=conc) j;have lo:=ok.lo;have h:St w0 (flB b rA rW (grow rev conc j F)::sA::sW::(L.map trS).flatten::sv::zQ E i) w:=h.eq (by simp);have stop:∀{w},j=ZG F rev want→St w0 (flB b rA rW (grow rev conc j F)::sA::sW::(L.map trS).flatten::sv::zQ E i) w→k2 (v,((zt F.l rev+j:Nat):Int),()) w:=by
   rintro w rfl h;exact hk2 _ w ⟨v,sv,_,rfl,hf',hv,h.eq (by simp)⟩
  (refine dr h ?_;clear h;intro w h)
  refine it (λhc=>?_) (λhc=>?_)<;>(try simp only[zB]at hc)
  ·(refine nn ?_;refine ldC h ?_)
   refine MpS.len yb h 1 rfl hA ?_;rw[hr.len,hlj]
   (refine nn ?_;refine ldC h ?_)
   refine it (λhd=>?_) (λhd=>?_)<;>(try simp only[zB]at hd)
   ·(refine nn ?_;refine ldC h ?_;refine nn ?_;refine stC h ?_;clear h;intro w h;dsimp only[yr,ze]at h;refine dr h ?_;clear h;intro w h;refine nn ?_;refine ldC h ?_;refine nn ?_;refine ldC h ?_)
    refine OI h λb' s' w hp h=>?_;rw[wr (by omega) (by omega)]at h;rw[wr (by omega) (by omega)]
    (refine ckC h ?_;refine ckC h ?_)
    refine MpS.set mkI yb h 2 rfl hA (rev,some ⟨b',0,none⟩) rfl λsA' w hA' h=>?_
    (dsimp only[ze,List.cons_append,List.nil_append]at h;refine nn ?_;refine ldC h ?_)
    refine nw h ?_;clear h;intro b21 w h;refine Rw.app ZR elI h 5 rfl hv (F.last+1+(j:Int)) (by rw[hla,eI];congr 2;omega) (by simp;omega) (by simp;omega) λv' sv' w hv' h=>?_;have hg0:Zp mA ((grow rev conc j F).last+1)=none:=hr.get0 (by
     unfold yF;rw[List.find?_eq_none];intro x hx;have:=(ok.rng x hx).2;simp;omega)
    refine hag (q-1) _ w (by omega) ⟨j+1,v',sv',flB b rA rW (grow rev conc (j+1) F)++(sA'++(sW++((L++[((⟨(grow rev conc j F).last+1,rev,⟨1,conc,[]⟩⟩:zh),b',s')]).map trS).flatten)),?_,by omega,⟨?_,rA,rW,_,mW,sA',sW,L++[((⟨(grow rev conc j F).last+1,rev,⟨1,conc,[]⟩⟩:zh),b',s')],hA',hW,⟨?_,?_,?_,?_⟩,rfl⟩,?_,?_⟩
    ·rw[wr (by omega) (by omega)];congr 2
    ·exact QQ ok (by omega) (by omega)
    ·simp only[grow,jI,List.map_append,hr.l];rfl
    ·intro t ht;rcases List.mem_append.1 ht with ht | ht
     ·exact hr.ps t ht
     ·simp only[List.mem_singleton]at ht;subst ht;exact hp
    ·rw[JK hg0,List.map_append];exact hr.all.append_right _
    ·intro q;rw[hr.wth];simp only[grow,jI];rw[Vd _ _ rfl]
    ·rw[List.range_succ,List.map_append];exact hv'
    ·have h:=Qe (xd h);have h:=St.addEnd (g:=trS) (t:=((⟨(grow rev conc j F).last+1,rev,⟨1,conc,[]⟩⟩:zh),b',s')) h;have h:=xd (xd (xd (Qe (xd h))));exact h.eq (by simp[grow,jI])
   ·exact stop (by omega) h
  ·exact stop (by omega) h
 ·rintro z w ⟨v,sv,s,rfl,hf,hv,h⟩
  (try dsimp only)
  have hlg:=jH (F:=F) (rev:=rev) (conc:=conc) (ZG F rev want);have hmade:(Jo F rev want).length=ZG F rev want:=by simp[Jo]
  have hcg:=XF (F:=F) (rev:=rev) (conc:=conc) (ZG F rev want);rw[←hcg];have hcle:=Xh (grow rev conc (ZG F rev want) F).l (rev:=rev)
  refine zK (λq y w=>∃(F2:zj)(gone:List Int)(v2:Sl)(s2 s:Seg),y=(v2,((zt F2.l rev:Nat):Int),())∧q=yq F2 rev want∧gone.length+q=yq (Zx F rev conc want) rev want∧FlS b F2 s∧Rw eI zA 1 v2 gone s2∧
   (Yb rev q F2).1=(Yv F rev conc want).1∧gone++(Yb rev q F2).2=(Yv F rev conc want).2∧St w0 (s::s2::sv::zQ E i) w)
   (yq (Zx F rev conc want) rev want) ⟨Zx F rev conc want,[],⟨none,0,0⟩,[],s,rfl,rfl,by simp,hf,Rw.nil,rfl,rfl,h.eq (by simp)⟩ ?_
  clear hf;clear h;rintro q y w ⟨F2,gone,v2,s2,s,rfl,hq,hgl,hf,hv2,hF,hG,h⟩ again hag
  (try dsimp only)
  have hcl2:=Xh F2.l (rev:=rev);have hq':(q:Int)=max 0 ((zt F2.l rev:Int)-max want 0):=by rw[hq];unfold yq;omega
  have hgn:(yq (Zx F rev conc want) rev want:Int)≤F.l.length+ZG F rev want:=by unfold yq Zx;omega
  have hfew2:=hf.1.few;refine it (λhc=>?_) (λhc=>?_)<;>(try simp only[zB]at hc)
  ·have hc0:max want 0<(zt F2.l rev:Int):=by split at hc<;>omega
   obtain⟨q',rfl⟩:∃q',q=q'+1:=⟨q-1,by omega⟩;refine KM h 0 rfl hf λw h=>?_;obtain⟨x,hx,hrev,hst⟩:=xZ hf.1 (rev:=rev) (by omega);have okd:=qJ hf.1 (rev:=rev) (by omega);have hcd:=xe hf.1 (rev:=rev) (by omega);obtain⟨ok,rA,rW,mA,mW,sA,sW,L,hA,hW,hr,rfl⟩:=hf;obtain⟨A,t,B,rfl,rfl,hid⟩:=hr.at hx;have h:St w0 (flB b rA rW F2::sA::sW::((A++t::B).map trS).flatten::s2::sv::zQ E i) w:=h.eq (by simp)
   (refine nn ?_;refine ldC h ?_)
   refine MpS.get mkI yb zo (λx:B0×Option Addr=>(x.1,x.2,())) (λ_=>rfl) h 1 rfl hA ?_;have hg:=hr.get ok (t:=t) (by simp);have hp:=hr.ps t (by simp);rw[←hid,hg];simp only[Option.map_some,Option.getD_some];have h:=Jw h;have h:=h.pick;refine KL h 0 rfl hp λs' w hp' h=>?_;have h:St w0 (trS ({ t.1 with pod:=(zG t.1.pod).1 },t.2.1,s')::((A++B).map trS).flatten::flB b rA rW F2::sA::sW::s2::sv::zQ E i) w:=h;have h:=h.place;have h:=Jw (Jw (Jw h));have hdp:=qq hst;have hrq:(zG t.1.pod).1.reqs=t.1.pod.reqs:=by rw[hdp]
   have h4:(zG t.1.pod).1.st=4→t.1.pod.reqs = []:=by
    rw[hdp];simp only;intro h;apply Classical.byContradiction;intro hne;simp[hne]at h
   have hwth:∀q,Zp mW q=(zP (ZE F2.l t.1.id λp=>(zG p).1) q).map (·.id):=λq=>by
    rw[hr.wth,QS ok.pw (yj hx).1 hrq h4]
   have fin:∀{s w},FlS b (YV rev F2) s→St w0 (s::s2::sv::zQ E i) w→L.new [I t.1.id] zA (λb31=>
     L.sem Pr (.one (.one .slice)) (Builtin.append_ #[zn,zn] zn #[.slice v2.a v2.len v2.cap,.slice (some ⟨b31,0,none⟩) 1 1]) λ(s32:Sl)=>
     again (⟨s32.a,s32.len,s32.cap⟩,Wi ((zt F2.l rev:Nat)-1),())) w:=by
    intro s w hf h;refine nw h ?_;clear h;intro b31 w h;refine Rw.app ZR elI h 1 rfl hv2 t.1.id rfl (by omega) (by omega) λv' s' w hv' h=>?_;refine hag q' _ w (by omega) ⟨YV rev F2,gone++[t.1.id],v',s',s,?_,?_,?_,hf,hv',?_,?_,h⟩
    ·rw[wr (by omega) (by omega)];congr 2;omega
    ·unfold yq;omega
    ·simp only[List.length_append,List.length_singleton];omega
    ·exact hF
    ·rw[List.append_assoc,hid];exact hG
   refine KN (t:=({ t.1 with pod:=(zG t.1.pod).1 },t.2.1,s')) h hA hg hp' (λh4'=>?_) λh4' sA' w hA' h=>?_
   ·refine fin (s:=flB b rA rW F2++(sA++(sW++((A++({ t.1 with pod:=(zG t.1.pod).1 },t.2.1,s')::B).map trS).flatten))) ⟨okd,rA,rW,mA,mW,sA,sW,_,hA,hW,?_,rfl⟩ (h.eq (by simp));have:=hr.upd ok (λp=>(zG p).1) hp' h4' hwth;unfold YV;rw[←hid];exact this
   ·refine fin (s:=flB b rA rW F2++(sA'++(sW++((A++B).map trS).flatten))) ⟨okd,rA,rW,_,mW,sA',sW,_,hA',hW,?_,rfl⟩ (h.eq (by simp));have:=hr.del ok (λp=>(zG p).1) h4' hwth;unfold YV;rw[←hid];exact this
  ·have e0:q=0:=by split at hc<;>omega
   subst e0;have e1:F2=(Yv F rev conc want).1:=hF;have e2:gone=(Yv F rev conc want).2:=by rw[←hG];simp[Yb]
   refine vz h (hv.rd ZR h 2 rfl) (by omega) (Rw.nil_of ZR hv) λv1 s1 w hr1 _ h=>?_;refine vz h (hv2.rd ZR h 2 rfl) (by omega) (Rw.nil_of ZR hv2) λv3 s3 w hr3 _ h=>?_;refine⟨_,rfl,hk v1 v3 s s1 s3 w (by rw[←e1];exact hf) hr1 (by rw[←e2];exact hr3) ?_⟩;have h:=Ku (ky h);have h:=Vb (Qe (Qe h));exact St.back (i+2) (E:=s3::s1::E) hi h
end Go.Proofs.Ytofigcbhafkikaa
namespace Go.Proofs.Ytofigcbhafkikaa
open Go.Dm
attribute [local irreducible] L.load L.store L.chk L.new L.nonnil L.guard L.ite L.draw L.idx L.sem L.semR L.semU L.chkSem L.next L.call L.callV L.join L.alts L.loop L.begin L.endRound L.range
variable {w0 w:World}{E:List Seg}
def eC(p:Int×Int):List Value:=[I p.1,I p.2]
def Yy:Enc eC 2:=⟨λ_=>rfl,λ_=>rfl,by decide⟩
def elC:El Pr zI zd 2 16 (.agg #[I 0,I 0]):=vl (by kernel_rfl) (by kernel_rfl) rfl (by decide)
def Rw.stC{v:Sl}{l:List (Int×Int)}{s:Seg}{e:Nat}(h:St w0 E w)(k:Nat)(hi:nth E k=some s)(hr:Rw eC e 2 v l s){i:Nat}{a:Addr}(ha:ElA v 2 i a)(hx:i<l.length)(y:Int×Int){kk:PT}
  (hk:∀s' w',Rw eC e 2 v (l.set i y) s'→St w0 (ze E k s') w'→kk w'):L.store a [I y.1,I y.2] kk w:=by
 obtain⟨a0,hv,rfl⟩:=ha;have hx0:l[i]? = some l[i]:=List.getElem?_eq_getElem hx;generalize l[i]=x at hx0;have e1:ze (fl eC l) (i*2+0) (I y.1)=fl eC (l.set i (y.1,x.2)):=Uk Yy hx0 (by decide) rfl;have e2:ze (fl eC (l.set i (y.1,x.2))) (i*2+1) (I y.2)=fl eC ((l.set i (y.1,x.2)).set i y):=Uk Yy (x:=(y.1,x.2)) (by simp[hx]) (by decide) rfl;rw[List.set_set]at e2;have hset:ze (ze (fl eC l) (i*2+0) (I y.1)) (i*2+1) (I y.2)=fl eC (l.set i y):=by rw[e1,e2]
 have hlt:i*2+1<(fl eC l).length:=by rw[Jx Yy];omega
 unfold Rw at hr hk;rw[←hset]at hk;have hlen2:(ze (ze (fl eC l) (i*2+0) (I y.1)) (i*2+1) (I y.2)).length=(fl eC l).length:=by rw[ZS,ZS];simp
 have hlen1:(ze (fl eC l) (i*2+0) (I y.1)).length=(fl eC l).length:=by rw[ZS];simp
 generalize fl eC l=xs at *
 cases hr with
 | nil=>cases hv
 | mk g n cap pre xs spare post h1 h2 h3 h4=>
  cases hv
  rw[yH];have hn:∀j,j≤1→∃c,nth (pre++(xs++(spare++post))) (pre.length+(i*2+j))=some c:=λj hj=>by
   rw[yN,YR (by omega),zk];exact⟨_,List.getElem?_eq_getElem (by omega)⟩
  refine stx [I y.1,I y.2] h k hi ?_ rfl λw' h=>hk _ w' (Row.mk g n cap pre _ spare post (by rw[hlen2];exact h1) (by rw[hlen2];exact h2) h3 h4) ?_
  ·obtain⟨c0,hc0⟩:=hn 0 (by omega);obtain⟨c1,hc1⟩:=hn 1 (by omega);simp only[Nat.add_zero]at hc0;simp[QO,hc0,hc1,Nat.add_assoc]
  ·simp only[yr]at h;have q1:ze (xs++(spare++post)) (i*2+0) (I y.1)=ze xs (i*2+0) (I y.1)++(spare++post):=Jj (by omega);have q2:ze (ze xs (i*2+0) (I y.1)++(spare++post)) (i*2+1) (I y.2)=ze (ze xs (i*2+0) (I y.1)) (i*2+1) (I y.2)++(spare++post):=Jj (by omega);rw[show pre.length+i*2=pre.length+(i*2+0)from rfl,jp,q1,show pre.length+(i*2+0)+1=pre.length+(i*2+1)by omega,jp,q2]at h;exact h
def jG(x:Int×Int):List (Int×Int)→List (Int×Int)
 | []=>[x]
 | y::l=>if x.1<y.1 then x::y::l else y::jG x l
def Ze(l:List (Int×Int)):List (Int×Int):=l.foldl (λa x=>jG x a) []
def jy(x:Int×Int)(l:List (Int×Int)):(jG x l).Perm (x::l):=by
 induction l with
 | nil=>exact .refl _
 | cons y l ih=>
  simp only[jG];split
  ·exact .refl _
  ·exact(ih.cons y).trans (.swap ..)
def VC{x:Int×Int}:∀{l:List (Int×Int)},l.Pairwise (λa b=>a.1≤b.1)→(jG x l).Pairwise (λa b=>a.1≤b.1)
 | [],_=>by simp[jG]
 | y::l,h=>by
  rw[List.pairwise_cons]at h;simp only[jG];split
  ·rename_i hy;rw[List.pairwise_cons];refine⟨λz hz=>?_,List.pairwise_cons.2 h⟩;rcases List.mem_cons.1 hz with rfl | hz
   ·omega
   ·have:=h.1 z hz;omega
  ·rename_i hy;rw[List.pairwise_cons];refine⟨λz hz=>?_,VC h.2⟩;rcases List.mem_cons.1 ((jy x l).mem_iff.1 hz)with rfl | hz
   ·omega
   ·exact h.1 z hz
def Vk{l:List (Int×Int)}{i:Nat}{x:Int×Int}(h:l[i]? = some x):Ze (l.take (i+1))=jG x (Ze (l.take i)):=by
 unfold Ze;rw[List.take_add_one,h,List.foldl_append];rfl
def Zm(l:List (Int×Int)):(Ze l).length=l.length:=by
 suffices ∀(l a:List (Int×Int)),(l.foldl (λa x=>jG x a) a).length=a.length+l.length by
  have:=this l [];simpa [Ze]using this
 intro l
 induction l with
 | nil=>simp
 | cons x l ih=>intro a;rw[List.foldl_cons,ih,(jy x a).length_eq];simp;omega
def vt(l:List (Int×Int)):(Ze l).Pairwise (λa b=>a.1≤b.1):=by
 suffices ∀(l a:List (Int×Int)),a.Pairwise (λa b=>a.1≤b.1)→(l.foldl (λa x=>jG x a) a).Pairwise (λa b=>a.1≤b.1)from this l [] .nil
 intro l
 induction l with
 | nil=>exact λa h=>h
 | cons x l ih=>exact λa h=>ih _ (VC h)
def VD{x:Int×Int}:∀{A B:List (Int×Int)},(∀y∈A,¬x.1<y.1)→(∀y∈B,x.1<y.1)→jG x (A++B)=A++x::B
 | [],[],_,_=>rfl
 | [],y::B,_,h=>by simp only[List.nil_append,jG];rw[if_pos (h y (by simp))]
 | y::A,B,h1,h2=>by
  simp only[List.cons_append,jG];rw[if_neg (h1 y (by simp)),VD (λz hz=>h1 z (by simp[hz])) h2]
def Yq{E:List Seg}{i:Nat}{s s':Seg}(hi:nth E i=some s):nth (ze E i s') i=some s':=by
 rw[zk]at *
 rw[ZS,List.getElem?_set_self];exact(List.getElem?_eq_some_iff.1 hi).1
def yL{E:List Seg}{i:Nat}{s s':Seg}:ze (ze E i s) i s'=ze E i s':=by
 rw[ZS,ZS,ZS,List.set_set]
abbrev Qg:Value:=.func (.func zq) #[] #[]
def KQ(h:St w0 E w){a b c d:Int}(h1: -4611686018427387904<a∧a<4611686018427387904)(h2: -4611686018427387904<c∧c<4611686018427387904){k:Int→PT}(hk:∀w',St w0 E w'→k (a-c) w') :
  L.callV Pr Qg [.agg #[I a,I b],.agg #[I c,I d]] (.one (.one (.int .i64))) k w:=by
 refine Kv (fs:=#[]) (cs:=#[]) xO (xR (a,b,()) (c,d,())) ?_;unfold jb;refine nw h ?_;clear h;intro b1 w h;refine nw h ?_;clear h;intro b2 w h
 (dsimp only[ze,List.cons_append,List.nil_append]at h;refine ldC h ?_;refine ldC h ?_)
 refine⟨_,rfl,?_⟩
 (try dsimp only)
 rw[wr (by omega) (by omega)];exact hk w (xf (xf h))
def OB{α:Type}{Q T:List α}{z x:α}:(Q++z::x::T)[Q.length]? = some z∧(Q++z::x::T)[Q.length+1]? = some x∧((Q++z::x::T).set (Q.length+1) z).set Q.length x=Q++x::z::T:=by
 refine⟨by simp,by simp,by simp[List.set_append]⟩
def ub(h:St w0 E w)(i:Nat){s:Seg}(hi:nth E i=some s){v:Sl}{P M R:List (Int×Int)}(hr:Rw eC zd 2 v (P++(M++R)) s)(hn:(P++(M++R)).length<1000000000)
  (hb:∀x∈M,-4611686018427387904<x.1∧x.1<4611686018427387904) {a b:Int} (ha:a=P.length) (hbb:b=P.length+M.length) {k:Unit→PT} (hk:∀s' w',Rw eC zd 2 v (P++(Ze M++R)) s'→St w0 (ze E i s') w'→k () w') :
  L.call Pr zD [.slice v.a v.len v.cap,I a,I b,Qg] (.tup []) k w:=by
 subst ha hbb;refine zm (yB _ _ _ ⟨.func zq,#[],#[]⟩) ?_;unfold Zk;have hlen:=Rw.len Yy hr;simp only[List.length_append]at hn hlen;rw[wr (by omega) (by omega)];have hcb:∀m,∀x∈Ze (M.take m),x∈M:=λm x hx=>by
  have:(Ze (M.take m)).Perm (M.take m):=by
   suffices ∀(l a:List (Int×Int)),(l.foldl (λa x=>jG x a) a).Perm (a++l)from by simpa [Ze]using this (M.take m) []
   intro l
   induction l with
   | nil=>intro a;simp
   | cons y l ih=>
    intro a;refine(ih _).trans (((jy y a).append_right l).trans ?_);exact(List.perm_middle (a:=y) (l₁:=a) (l₂:=l)).symm
  exact List.mem_of_mem_take (this.mem_iff.1 hx)
 have h1:Ze (M.take 1)=M.take 1:=by cases M<;>rfl
 refine zK (λq y w=>∃(m:Nat)(s:Seg),y=(((P.length+m:Nat):Int),())∧1≤m∧q+m=max 1 M.length∧Rw eC zd 2 v (P++(Ze (M.take m)++(M.drop m++R))) s∧St w0 (ze E i s) w) (max 1 M.length-1)
  ⟨1,s,rfl,by omega,by omega,by rw[h1,←List.append_assoc (M.take 1),List.take_append_drop];exact hr,by rwa [ZB hi]⟩ ?_
 clear hr;clear h;rintro q y w ⟨m,s,rfl,hm,hq,hr,h⟩ again hag
 (try dsimp only)
 refine it (λhc=>?_) (λhc=>?_)<;>(try simp only[zB]at hc)
 ·have hm2:m<M.length:=by omega
  have hx:M[m]? = some M[m]:=List.getElem?_eq_getElem hm2;have hxm:M[m]∈M:=List.getElem_mem hm2;have hdrop:M.drop m=M[m]::M.drop (m+1):=List.drop_eq_getElem_cons hm2;have hct:=Vk hx;have hcl:=Zm (M.take m);rw[List.length_take,Nat.min_eq_left (by omega)]at hcl;have hpw:=vt (M.take m);generalize M[m]=x at *
  rw[hdrop]at hr;have hnT:(M.drop (m+1)).length=M.length-(m+1):=List.length_drop ..;refine Zs (λz w=>∃s,Rw eC zd 2 v (P++(Ze (M.take (m+1))++(M.drop (m+1)++R))) s∧St w0 (ze E i s) w) (λk3 hk3=>?_) (λz w ⟨s,hr,h⟩=>?_)
  ·refine zK (λq y w=>∃(A B:List (Int×Int))(s:Seg),y=(((P.length+A.length:Nat):Int),())∧q=A.length∧A++B=Ze (M.take m)∧(∀y∈B,x.1<y.1)∧Rw eC zd 2 v ((P++A)++x::(B++(M.drop (m+1)++R))) s∧St w0 (ze E i s) w) m
    ⟨Ze (M.take m),[],s,by rw[hcl],hcl.symm,by simp,by simp,by simpa [List.append_assoc]using hr,h⟩ ?_
   clear hr;clear h;rintro q2 y w ⟨A,B,s,rfl,hq2,hAB,hB,hr,h⟩ again2 hag2
   (try dsimp only)
   have stop:∀{w},(∀y∈A,¬x.1<y.1)→St w0 (ze E i s) w→k3 () w:=by
    intro w hA h;refine hk3 _ w ⟨s,?_,h⟩;rw[hct,←hAB,VD hA hB];simpa [List.append_assoc]using hr
   have hsi:nth (ze E i s) i=some s:=Yq hi;refine dr h λw h=>?_;refine it (λhd=>?_) (λhd=>?_)<;>(try simp only[zB]at hd)
   ·have hA0:A≠[]:=λe=>by subst e;simp at hd
    obtain⟨A',z,rfl⟩:∃A' z,A=A'++[z]:=⟨A.dropLast,A.getLast hA0,(List.dropLast_concat_getLast hA0).symm⟩;have eL:(P++(A'++[z]))++x::(B++(M.drop (m+1)++R))=(P++A')++z::x::(B++(M.drop (m+1)++R)):=by simp
    rw[eL]at hr;obtain⟨g1,g2,g3⟩:=OB (Q:=P++A') (z:=z) (x:=x) (T:=B++(M.drop (m+1)++R));have hlA:(P++A').length=P.length+A'.length:=List.length_append ..;have hl2:=congrArg List.length hAB;simp only[List.length_append,List.length_singleton,hcl]at hl2 hd hq2 ⊢;have hzM:z∈M:=hcb m z (by rw[←hAB];simp);have ix1:((P.length+(A'.length+1):Nat):Int).toNat=(P++A').length+1:=by rw[Int.toNat_natCast];omega
    have ix0:(((P.length+(A'.length+1):Nat):Int)-1).toNat=(P++A').length:=by omega
    have lt1:(P++A').length+1<((P++A')++z::x::(B++(M.drop (m+1)++R))).length:=by simp only[List.length_append,List.length_cons];omega
    rw[wr (n:=((P.length+(A'.length+1):Nat):Int)-1) (by omega) (by omega)];refine Rw.ix Yy hr (by omega) (by rw[ix1];exact lt1) λa ha=>?_;rw[ix1]at ha;refine Rw.lda Yy h i hsi hr ha g2 rfl ?_;refine Rw.ix Yy hr (by omega) (by rw[ix0];omega) λa2 ha2=>?_;rw[ix0]at ha2;refine Rw.lda Yy h i hsi hr ha2 g1 rfl ?_;refine KQ h (hb x hxm) (hb z hzM) λw h=>?_;refine it (λhe=>?_) (λhe=>?_)<;>(try simp only[zB]at he)
    ·refine dr h λw h=>?_;refine Rw.ix Yy hr (by omega) (by rw[ix0];omega) λa3 ha3=>?_;rw[ix0]at ha3;refine Rw.lda Yy h i hsi hr ha3 g1 rfl ?_;refine Rw.ix Yy hr (by omega) (by rw[ix1];exact lt1) λa4 ha4=>?_;rw[ix1]at ha4;refine Rw.lda Yy h i hsi hr ha4 g2 rfl ?_;refine Rw.ix Yy hr (by omega) (by rw[ix1];exact lt1) λa5 ha5=>?_;rw[ix1]at ha5;refine Rw.stC h i hsi hr ha5 lt1 z λs1 w hr1 h=>?_;have hs1:nth (ze (ze E i s) i s1) i=some s1:=Yq hsi;refine Rw.ix Yy hr1 (by omega) (by rw[ix0,List.length_set];omega) λa6 ha6=>?_;rw[ix0]at ha6;refine Rw.stC h i hs1 hr1 ha6 (by rw[List.length_set];omega) x λs2 w hr2 h=>?_;rw[g3]at hr2;refine hag2 (q2-1) _ w (by omega) ⟨A',z::B,s2,?_,by omega,by simpa using hAB,?_,by simpa using hr2,?_⟩
     ·congr 1;omega
     ·intro y hy;rcases List.mem_cons.1 hy with rfl | hy
      ·omega
      ·exact hB y hy
     ·rwa [yL,yL]at h
    ·refine stop (λy hy=>?_) h;rw[←hAB,List.pairwise_append]at hpw;have hpw:=hpw.1;rw[List.pairwise_append]at hpw;rcases List.mem_append.1 hy with hy | hy
     ·have:=hpw.2.2 y hy z (by simp);omega
     ·simp at hy;subst hy;omega
   ·have:A = []:=List.eq_nil_of_length_eq_zero (by omega);subst this;exact stop (by simp) h
  ·refine hag (q-1) _ w (by omega) ⟨m+1,s,?_,by omega,by omega,hr,h⟩;rw[wr (by omega) (by omega)];congr 1
 ·have e:M.drop m = []:=List.drop_eq_nil_of_le (by omega);have e2:M.take m=M:=List.take_of_length_le (by omega);rw[e,e2,List.nil_append]at hr;exact⟨(),rfl,hk s w hr h⟩
def ov{a b:Int}(ha:0≤a)(hb:0≤b)(h:a+b<4611686018427387904):Wi (Int.fdiv (IntKind.wrap .u64 (Wi (a+b))) (2 ^ (min (Int.toNat 1) 64)))=(a+b)/2:=by
 rw[wr (n:=a+b) (by omega) (by omega)];have e:IntKind.wrap .u64 (a+b)=a+b:=by
  unfold IntKind.wrap;have h1:(IntKind.u64.signed)=false:=rfl;have h2:(2 ^ IntKind.u64.bits:Int)=18446744073709551616:=by decide
  rw[h1,h2];simp only[Bool.false_and,Bool.false_eq_true,if_false];omega
 rw[e];have e2:(2 ^ (min (Int.toNat 1) 64):Int)=2:=by decide
 rw[e2,Int.fdiv_eq_ediv_of_nonneg _ (by decide),wr (by omega) (by omega)]
def vB{α:Type}{Q T U:List α}{x y:α}:(Q++x::(T++y::U))[Q.length]? = some x∧(Q++x::(T++y::U))[Q.length+(1+T.length)]? = some y∧
  ((Q++x::(T++y::U)).set Q.length y).set (Q.length+(1+T.length)) x=Q++y::(T++x::U)∧((Q++x::(T++y::U)).set (Q.length+(1+T.length)) x).set Q.length y=Q++y::(T++x::U):=by
 have e:(1+T.length)=T.length+1:=by omega
 rw[e];refine⟨by simp,?_,?_,?_⟩
 ·rw[List.getElem?_append_right (by omega)];simp
 ·simp[List.set_append]
 ·simp[List.set_append]
def KG{l:List (Int×Int)}(h:St w0 E w)(i:Nat){s:Seg}(hi:nth E i=some s){v:Sl}(hr:Rw eC zd 2 v l s){p q:Int}{x y:Int×Int}(p0:0≤p)(q0:0≤q)(hx:l[p.toNat]? = some x)(hy:l[q.toNat]? = some y){k:PT}
  (hk:∀s' w',Rw eC zd 2 v ((l.set p.toNat y).set q.toNat x) s'→St w0 (ze E i s') w'→k w') :
  (L.draw<| L.idx v.a q v.len 2 λa3=>L.load (.agg [.int .i64,.int .i64]) a3 λ(x4:Int×Int×Unit)=>L.idx v.a p v.len 2 λa5=>L.load (.agg [.int .i64,.int .i64]) a5 λ(x6:Int×Int×Unit)=>
   L.idx v.a p v.len 2 λa7=>L.store a7 [.int .i64 x4.1,.int .i64 x4.2.1]<| L.idx v.a q v.len 2 λa8=>L.store a8 [.int .i64 x6.1,.int .i64 x6.2.1] k) w:=by
 have hp:=(List.getElem?_eq_some_iff.1 hx).1;have hq:=(List.getElem?_eq_some_iff.1 hy).1;refine dr h λw h=>?_;refine Rw.ix Yy hr q0 hq λa ha=>?_;refine Rw.lda Yy h i hi hr ha hy (y:=(y.1,y.2,())) rfl ?_;refine Rw.ix Yy hr p0 hp λa2 ha2=>?_;refine Rw.lda Yy h i hi hr ha2 hx (y:=(x.1,x.2,())) rfl ?_;refine Rw.ix Yy hr p0 hp λa3 ha3=>?_;refine Rw.stC h i hi hr ha3 hp y λs1 w hr1 h=>?_;refine Rw.ix Yy hr1 q0 (by rw[List.length_set];exact hq) λa6 ha6=>?_;refine Rw.stC h i (Yq hi) hr1 ha6 (by rw[List.length_set];exact hq) x λs2 w hr2 h=>?_;rw[yL]at h;exact hk s2 w hr2 h
def Us(h:St w0 E w)(i:Nat){s:Seg}(hi:nth E i=some s){v:Sl}{P A M B R:List (Int×Int)}(hr:Rw eC zd 2 v (P++(A++(M++(B++R)))) s)(hn:(P++(A++(M++(B++R)))).length<1000000000)(hAB:A.length=B.length)
  {a b n:Int} (ha:a=P.length) (hb:b=P.length+(A.length+M.length)) (hnn:n=A.length) {k:Unit→PT} (hk:∀s' w',Rw eC zd 2 v (P++(B++(M++(A++R)))) s'→St w0 (ze E i s') w'→k () w') :
  L.call Pr zz [.slice v.a v.len v.cap,I a,I b,I n,Qg] (.tup []) k w:=by
 subst ha hb hnn;refine zm (yS _ _ _ _ ⟨.func zq,#[],#[]⟩) ?_;unfold ZA;simp only[List.length_append]at hn
 refine zK (λq y w=>∃(j:Nat)(s:Seg),y=((j:Int),())∧q+j=A.length∧Rw eC zd 2 v (P++((B.take j++A.drop j)++(M++((A.take j++B.drop j)++R)))) s∧St w0 (ze E i s) w) A.length
  ⟨0,s,rfl,rfl,by simpa using hr,by rwa [ZB hi]⟩ ?_
 clear hr;clear h;rintro q y w ⟨j,s,rfl,hq,hr,h⟩ again hag
 (try dsimp only)
 have hsi:nth (ze E i s) i=some s:=Yq hi;refine it (λhc=>?_) (λhc=>?_)<;>(try simp only[zB]at hc)
 ·have hA:A.drop j=A[j]::A.drop (j+1):=List.drop_eq_getElem_cons (by omega);have hB:B.drop j=B[j]::B.drop (j+1):=List.drop_eq_getElem_cons (by omega);have tA:A.take (j+1)=A.take j++[A[j]]:=by rw[List.take_add_one,List.getElem?_eq_getElem (by omega)];rfl
  have tB:B.take (j+1)=B.take j++[B[j]]:=by rw[List.take_add_one,List.getElem?_eq_getElem (by omega)];rfl
  have lA:(A.take j).length=j:=by rw[List.length_take];omega
  have lB:(B.take j).length=j:=by rw[List.length_take];omega
  have dA:(A.drop (j+1)).length=A.length-(j+1):=List.length_drop ..;generalize A[j]=x at *
  generalize B[j]=y at *
  have eD:P++((B.take j++A.drop j)++(M++((A.take j++B.drop j)++R)))=(P++B.take j)++x::((A.drop (j+1)++(M++A.take j))++y::(B.drop (j+1)++R)):=by rw[hA,hB];simp
  have eD2:(P++B.take j)++y::((A.drop (j+1)++(M++A.take j))++x::(B.drop (j+1)++R))=P++((B.take (j+1)++A.drop (j+1))++(M++((A.take (j+1)++B.drop (j+1))++R))):=by rw[tA,tB];simp
  rw[eD]at hr;obtain⟨g1,g2,g3,-⟩:=vB (Q:=P++B.take j) (T:=A.drop (j+1)++(M++A.take j)) (U:=B.drop (j+1)++R) (x:=x) (y:=y);rw[eD2]at g3;have l1:(P++B.take j).length=P.length+j:=by rw[List.length_append,lB]
  have l2:(P++B.take j).length+(1+(A.drop (j+1)++(M++A.take j)).length)=P.length+(A.length+M.length)+j:=by rw[l1];simp only[List.length_append,dA,lA];omega
  rw[l2]at g2 g3;rw[l1]at g1 g3;rw[wr (n:=(P.length:Int)+(A.length+M.length)+j) (by omega) (by omega),wr (n:=(P.length:Int)+j) (by omega) (by omega)];have i1:((P.length:Int)+j).toNat=P.length+j:=by omega
  have i2:((P.length:Int)+(A.length+M.length)+j).toNat=P.length+(A.length+M.length)+j:=by omega
  refine KG h i hsi hr (p:=(P.length:Int)+j) (q:=(P.length:Int)+(A.length+M.length)+j) (by omega) (by omega) (by rw[i1];exact g1) (by rw[i2];exact g2) λs' w hr h=>?_;rw[i1,i2,g3]at hr;rw[yL]at h;refine hag (q-1) _ w (by omega) ⟨j+1,s',?_,by omega,hr,h⟩;rw[wr (by omega) (by omega)];rfl
 ·have e1:A.drop j = []:=List.drop_eq_nil_of_le (by omega);have e2:A.take j=A:=List.take_of_length_le (by omega);have e3:B.drop j = []:=List.drop_eq_nil_of_le (by omega);have e4:B.take j=B:=List.take_of_length_le (by omega);rw[e1,e2,e3,e4,List.append_nil,List.append_nil]at hr;exact⟨(),rfl,hk s w hr h⟩
def OH(h:St w0 E w)(i:Nat){s:Seg}(hi:nth E i=some s){v:Sl}{P A B R:List (Int×Int)}(hr:Rw eC zd 2 v (P++(A++(B++R))) s)(hn:(P++(A++(B++R))).length<1000000000)(hA:A≠[])(hB:B≠[])
  {a m b:Int} (ha:a=P.length) (hm:m=P.length+A.length) (hb:b=P.length+(A.length+B.length)) {k:Unit→PT} (hk:∀s' w',Rw eC zd 2 v (P++(B++(A++R))) s'→St w0 (ze E i s') w'→k () w') :
  L.call Pr Za [.slice v.a v.len v.cap,I a,I m,I b,Qg] (.tup []) k w:=by
 subst ha hm hb;refine zm (Ym _ _ _ _ ⟨.func zq,#[],#[]⟩) ?_;unfold ZN;simp only[List.length_append]at hn;rw[wr (n:=(P.length:Int)+A.length-P.length) (by omega) (by omega),wr (n:=(P.length:Int)+(A.length+B.length)-(P.length+A.length)) (by omega) (by omega)];have hA1:=List.length_pos_iff.2 hA;have hB1:=List.length_pos_iff.2 hB
 refine zK (λq y w=>∃(X A' B' Y:List (Int×Int))(s:Seg),y=((A'.length:Int),(B'.length:Int),())∧q=A'.length+B'.length∧0<A'.length∧0<B'.length∧X.length+A'.length=A.length∧Y.length+B'.length=B.length∧X++(B'++(A'++Y))=B++A∧
  Rw eC zd 2 v (P++(X++(A'++(B'++(Y++R))))) s∧St w0 (ze E i s) w) (A.length+B.length)
  ⟨[],A,B,[],s,by simp;omega,rfl,hA1,hB1,by simp,by simp,by simp,by simpa using hr,by rwa [ZB hi]⟩ ?_
 clear hr;clear h;rintro q y w ⟨X,A',B',Y,s,rfl,hq,hA',hB',hX,hY,hXY,hr,h⟩ again hag
 (try dsimp only)
 have hsi:nth (ze E i s) i=some s:=Yq hi;have hnn:(P++(X++(A'++(B'++(Y++R))))).length<1000000000:=by simp only[List.length_append];omega
 refine it (λhc=>?_) (λhc=>?_)<;>(try simp only[zB]at hc)
 ·refine it (λhd=>?_) (λhd=>?_)<;>(try simp only[zB]at hd)
  ·obtain⟨A1,A2,rfl,l1⟩:∃A1 A2,A'=A1++A2∧A1.length=B'.length:=⟨A'.take B'.length,A'.drop B'.length,(List.take_append_drop ..).symm,by rw[List.length_take];omega⟩;simp only[List.length_append]at hX hq hd hA' hnn ⊢;rw[wr (n:=(P.length:Int)+A.length-((A1.length+A2.length:Nat):Int)) (by omega) (by omega)];refine Us (P:=P++X) (A:=A1) (M:=A2) (B:=B') (R:=Y++R) h i hsi (by simpa using hr) (by simp only[List.length_append];omega) l1 (by rw[List.length_append];omega) (by rw[List.length_append];omega) (by omega) λs' w hr h=>?_;rw[yL]at h;rw[wr (by omega) (by omega)];refine hag (A2.length+A1.length) _ w (by omega) ⟨X++B',A2,A1,Y,s',?_,rfl,by omega,by omega,by rw[List.length_append];omega,by omega,by rw[←hXY];simp,by simpa using hr,h⟩;rw[l1]
   congr 1
   omega
  ·obtain⟨B1,B2,rfl,l1⟩:∃B1 B2,B'=B1++B2∧B2.length=A'.length:=⟨B'.take (B'.length-A'.length),B'.drop (B'.length-A'.length),(List.take_append_drop ..).symm,by rw[List.length_drop];omega⟩;simp only[List.length_append]at hY hq hd hB' hnn hc ⊢;rw[wr (n:=(P.length:Int)+A.length-(A'.length:Int)) (by omega) (by omega),wr (n:=(P.length:Int)+A.length+((B1.length+B2.length:Nat):Int)) (by omega) (by omega),wr (n:=(P.length:Int)+A.length+((B1.length+B2.length:Nat):Int)-(A'.length:Int)) (by omega) (by omega)];refine Us (P:=P++X) (A:=A') (M:=B1) (B:=B2) (R:=Y++R) h i hsi (by simpa using hr) (by simp only[List.length_append];omega) l1.symm (by rw[List.length_append];omega) (by rw[List.length_append];omega) (by omega) λs' w hr h=>?_;rw[yL]at h;rw[wr (by omega) (by omega)];refine hag (B2.length+B1.length) _ w (by omega) ⟨X,B2,B1,A'++Y,s',?_,rfl,by omega,by omega,by omega,by rw[List.length_append];omega,by rw[←hXY];simp,by simpa using hr,h⟩;rw[←l1]
   congr 2
   omega
 ·rw[wr (n:=(P.length:Int)+A.length-(A'.length:Int)) (by omega) (by omega)];refine Us (P:=P++X) (A:=A') (M:=[]) (B:=B') (R:=Y++R) h i hsi (by simpa using hr) (by simp only[List.length_append,List.length_nil];omega) (by omega) (by rw[List.length_append];omega) (by rw[List.length_append,List.length_nil];omega) rfl λs' w hr h=>?_;rw[yL]at h;refine⟨(),rfl,hk s' w ?_ h⟩;have e:P++(B++(A++R))=(P++X)++(B'++([]++(A'++(Y++R)))):=by
   have:=congrArg (λz=>P++(z++R)) hXY;simpa using this.symm
  rw[e];exact hr
def QK(x y:Int×Int):Prop:=x.1<y.1∨(x.1=y.1∧x.2<y.2)
abbrev Ls(l:List (Int×Int)):Prop:=l.Pairwise QK
def vf{x:Int×Int}:∀{l:List (Int×Int)},Ls l→(∀y∈l,y.2<x.2)→Ls (jG x l)
 | [],_,_=>by simp[jG]
 | y::l,h,hx=>by
  have h:=List.pairwise_cons.1 h;simp only[jG];split
  ·rename_i hy;refine List.pairwise_cons.2 ⟨λz hz=>?_,List.pairwise_cons.2 h⟩;rcases List.mem_cons.1 hz with rfl | hz
   ·exact .inl hy
   ·rcases h.1 z hz with h | h
    ·exact .inl (by omega)
    ·exact .inl (by omega)
  ·rename_i hy;refine List.pairwise_cons.2 ⟨λz hz=>?_,vf h.2 λz hz=>hx z (by simp[hz])⟩;rcases List.mem_cons.1 ((jy x l).mem_iff.1 hz)with rfl | hz
   ·have:=hx y (by simp);by_cases he:y.1=z.1
    ·exact .inr ⟨he,this⟩
    ·exact .inl (by omega)
   ·exact h.1 z hz
def yO(l:List (Int×Int)):(Ze l).Perm l:=by
 suffices ∀(l a:List (Int×Int)),(l.foldl (λa x=>jG x a) a).Perm (a++l)from by simpa [Ze]using this l []
 intro l
 induction l with
 | nil=>intro a;simp
 | cons y l ih=>
  intro a;refine(ih _).trans (((jy y a).append_right l).trans ?_);exact(List.perm_middle (a:=y) (l₁:=a) (l₂:=l)).symm
def qL{l:List (Int×Int)}(h:l.Pairwise λa b=>a.2<b.2):Ls (Ze l):=by
 suffices ∀(l a:List (Int×Int)),(a++l).Pairwise (λa b=>a.2<b.2)∨True→Ls a→l.Pairwise (λa b=>a.2<b.2)→(∀x∈a,∀y∈l,x.2<y.2)→Ls (l.foldl (λa x=>jG x a) a) from
  this l [] (.inr trivial) .nil h (by simp)
 intro l
 induction l with
 | nil=>exact λa _ h _ _=>h
 | cons y l ih=>
  intro a _ ha hl hal;rw[List.pairwise_cons]at hl;refine ih _ (.inr trivial) (vf ha λx hx=>hal x hx y (by simp)) hl.2 λx hx z hz=>?_;rcases List.mem_cons.1 ((jy y a).mem_iff.1 hx)with rfl | hx
  ·exact hl.1 z hz
  ·exact hal x hx z (by simp[hz])
def UZ:∀{l1 l2:List (Int×Int)},Ls l1→Ls l2→l1.Perm l2→l1=l2
 | [],l2,_,_,p=>p.nil_eq
 | x::l1,[],_,_,p=>by have:=p.length_eq;simp at this
 | x::l1,y::l2,h1,h2,p=>by
  have h1:=List.pairwise_cons.1 h1;have h2:=List.pairwise_cons.1 h2;have e:x=y:=by
   rcases List.mem_cons.1 (p.mem_iff.1 (by simp:x∈x::l1))with e | hx
   ·exact e
   ·rcases List.mem_cons.1 (p.mem_iff.2 (by simp:y∈y::l2))with e | hy
    ·exact e.symm
    ·have q1:=h1.1 y hy;have q2:=h2.1 x hx;unfold QK at q1 q2;omega
  subst e;rw[UZ h1.2 h2.2 p.cons_inv]
def xo{l:List (Int×Int)}(h:Ls l){i j:Nat}{x y:Int×Int}(hij:i≤j)(hi:l[i]? = some x)(hj:l[j]? = some y):x.1≤y.1:=by
 rcases Nat.lt_or_ge i j with hlt | hge
 ·obtain⟨i1,rfl⟩:=List.getElem?_eq_some_iff.1 hi;obtain⟨j1,rfl⟩:=List.getElem?_eq_some_iff.1 hj;have:=List.pairwise_iff_getElem.1 h i j i1 j1 hlt;unfold QK at this;omega
 ·have:i=j:=by omega
  subst this;rw[hi]at hj;cases hj;omega
def Uf{l:List (Int×Int)}{c:Nat}{z:Int×Int}(h:z∈l.take c):∃i,i<c∧l[i]? = some z:=by
 obtain⟨i,hi⟩:=List.mem_iff_getElem?.1 h;rw[List.getElem?_take]at hi;split at hi
 ·exact⟨i,by assumption,hi⟩
 ·cases hi
def Ug{l:List (Int×Int)}{c:Nat}{z:Int×Int}(h:z∈l.drop c):∃i,c≤i∧l[i]? = some z:=by
 obtain⟨i,hi⟩:=List.mem_iff_getElem?.1 h;rw[List.getElem?_drop]at hi;exact⟨c+i,by omega,hi⟩
def Ut{l:List (Int×Int)}(h:St w0 E w)(i:Nat){s:Seg}(hi:nth E i=some s){v:Sl}(hr:Rw eC zd 2 v l s){p q:Int}{x y:Int×Int}(p0:0≤p)(q0:0≤q)(hx:l[p.toNat]? = some x)(hy:l[q.toNat]? = some y)
  (h1: -4611686018427387904<x.1∧x.1<4611686018427387904) (h2: -4611686018427387904<y.1∧y.1<4611686018427387904) {k:Int→PT} (hk:∀w',St w0 E w'→k (x.1-y.1) w') :
  (L.draw<| L.idx v.a p v.len 2 λa3=>L.load (.agg [.int .i64,.int .i64]) a3 λ(x4:Int×Int×Unit)=>L.idx v.a q v.len 2 λa5=>L.load (.agg [.int .i64,.int .i64]) a5 λ(x6:Int×Int×Unit)=>
   L.callV Pr Qg [.agg #[.int .i64 x4.1,.int .i64 x4.2.1],.agg #[.int .i64 x6.1,.int .i64 x6.2.1]] (.one (.one (.int .i64))) k) w:=by
 have hp:=(List.getElem?_eq_some_iff.1 hx).1;have hq:=(List.getElem?_eq_some_iff.1 hy).1;refine dr h λw h=>?_;refine Rw.ix Yy hr p0 hp λa ha=>?_;refine Rw.lda Yy h i hi hr ha hx (y:=(x.1,x.2,())) rfl ?_;refine Rw.ix Yy hr q0 hq λa2 ha2=>?_;refine Rw.lda Yy h i hi hr ha2 hy (y:=(y.1,y.2,())) rfl ?_;exact KQ h h1 h2 hk
def OF(h:St w0 E w)(i:Nat){s:Seg}(hi:nth E i=some s){v:Sl}{P B R:List (Int×Int)}{x:Int×Int}(hr:Rw eC zd 2 v (P++(x::(B++R))) s)(hn:(P++(x::(B++R))).length<1000000000)(sB:Ls B)(hx2:∀y∈B,x.2<y.2)
  (hbx: -4611686018427387904<x.1∧x.1<4611686018427387904) (hb:∀y∈B,-4611686018427387904<y.1∧y.1<4611686018427387904) {a m b:Int} (ha:a=P.length) (hm:m=P.length+1) (hbb:b=P.length+(1+B.length))
  {k:Unit→PT} (hk:∀S s' w',Ls S→S.Perm (x::B)→Rw eC zd 2 v (P++(S++R)) s'→St w0 (ze E i s') w'→k () w') :
  L.call Pr zf [.slice v.a v.len v.cap,I a,I m,I b,Qg] (.tup []) k w:=by
 subst ha hm hbb;refine zm (zX _ _ _ _ ⟨.func zq,#[],#[]⟩) ?_;unfold zL;simp only[List.length_append,List.length_cons]at hn;rw[wr (n:=(P.length:Int)+1-P.length) (by omega) (by omega)];refine itT (by simp;omega) ?_
 refine zK (λq y w=>∃c d:Nat,y=((P.length:Int)+1+c,(P.length:Int)+1+d,())∧q+c=d∧c≤d∧d≤B.length∧(∀(i:Nat) z,B[i]? = some z→i<c→z.1<x.1)∧(∀(i:Nat) z,B[i]? = some z→d≤i→¬z.1<x.1)∧St w0 E w) B.length
  ⟨0,B.length,by simp;omega,by omega,by omega,by omega,by intros;omega,by
   intro i z hz hi;have:=(List.getElem?_eq_some_iff.1 hz).1;omega,h⟩ ?_
 clear h;rintro q y w ⟨c,d,rfl,hq,hcd,hd,h1,h2,h⟩ again hag
 (try dsimp only)
 have ix:((P.length:Int)).toNat=P.length:=by omega
 have g0:(P++(x::(B++R)))[((P.length:Int)).toNat]? = some x:=by rw[ix];simp
 refine it (λhc=>?_) (λhc=>?_)<;>(try simp only[zB]at hc)
 ·have he:((P.length:Int)+1+c+((P.length:Int)+1+d))/2=(P.length:Int)+1+(((c+d)/2:Nat):Int):=by omega
  rw[ov (by omega) (by omega) (by omega),he];obtain⟨e,hee⟩:∃e,e=(c+d)/2:=⟨_,rfl⟩;rw[←hee];have hel:e<B.length:=by omega
  have hz:B[e]? = some B[e]:=List.getElem?_eq_getElem hel;have hzm:B[e]∈B:=List.getElem_mem hel;generalize B[e]=z at hz hzm;have g1:(P++(x::(B++R)))[((P.length:Int)+1+(e:Int)).toNat]? = some z:=by
   have e1:((P.length:Int)+1+(e:Int)).toNat=P.length+(e+1):=by omega
   rw[e1,List.getElem?_append_right (by omega)];have e2:P.length+(e+1)-P.length=e+1:=by omega
   rw[e2,List.getElem?_cons_succ,List.getElem?_append_left hel,hz]
  refine gd (by decide) ?_;refine Ut h i hi hr (by omega) (by omega) g1 g0 (hb z hzm) hbx λw h=>?_;refine it (λhl=>?_) (λhl=>?_)<;>(try simp only[zB]at hl)
  ·refine hag (d-(e+1)) _ w (by omega) ⟨e+1,d,?_,by omega,by omega,hd,λi z' hz' hi=>?_,h2,h⟩
   ·rw[wr (by omega) (by omega)];congr 1
   ·have:=xo sB (by omega) hz' hz;omega
  ·refine hag (e-c) _ w (by omega) ⟨c,e,rfl,by omega,by omega,by omega,h1,λi z' hz' hi=>?_,h⟩;have:=xo sB hi hz hz';omega
 ·have e:d=c:=by omega
  subst e;refine zK (λq y w=>∃(j:Nat)(s:Seg),y=((P.length:Int)+j,())∧q+j=d∧Rw eC zd 2 v (P++(B.take j++x::(B.drop j++R))) s∧St w0 (ze E i s) w) d ⟨0,s,by simp,by omega,by simpa using hr,by rwa [ZB hi]⟩ ?_;clear hr g0;clear h;rintro q y w ⟨j,s,rfl,hq,hr,h⟩ again hag
  (try dsimp only)
  have hsi:nth (ze E i s) i=some s:=Yq hi;rw[wr (n:=(P.length:Int)+1+d-1) (by omega) (by omega)];refine it (λhc=>?_) (λhc=>?_)<;>(try simp only[zB]at hc)
  ·have hj:j<B.length:=by omega
   have hB:B.drop j=B[j]::B.drop (j+1):=List.drop_eq_getElem_cons hj;have tB:B.take (j+1)=B.take j++[B[j]]:=by rw[List.take_add_one,List.getElem?_eq_getElem hj];rfl
   have lB:(B.take j).length=j:=by rw[List.length_take];omega
   generalize B[j]=z at hB tB;have eD:P++(B.take j++x::(B.drop j++R))=(P++B.take j)++x::([]++z::(B.drop (j+1)++R)):=by rw[hB];simp
   have eD2:(P++B.take j)++z::([]++x::(B.drop (j+1)++R))=P++(B.take (j+1)++x::(B.drop (j+1)++R)):=by rw[tB];simp
   rw[eD]at hr;obtain⟨g1,g2,g3,-⟩:=vB (Q:=P++B.take j) (T:=[]) (U:=B.drop (j+1)++R) (x:=x) (y:=z);have l1:(P++B.take j).length=P.length+j:=by rw[List.length_append,lB]
   have l2:(P++B.take j).length+(1+([]:List (Int×Int)).length)=P.length+j+1:=by rw[l1];rfl
   rw[eD2,l2,l1]at g3;rw[l2]at g2;rw[l1]at g1;have i1:((P.length:Int)+j).toNat=P.length+j:=by omega
   have i2:((P.length:Int)+j+1).toNat=P.length+j+1:=by omega
   rw[wr (n:=(P.length:Int)+j+1) (by omega) (by omega)];refine KG h i hsi hr (by omega) (by omega) (by rw[i1];exact g1) (by rw[i2];exact g2) λs' w hr h=>?_;rw[i1,i2,g3]at hr;rw[yL]at h;exact hag (q-1) _ w (by omega) ⟨j+1,s',by congr 1,by omega,hr,h⟩
  ·have e:j=d:=by omega
   subst e;refine⟨(),rfl,hk (B.take j++x::B.drop j) s w ?_ ?_ (by simpa using hr) h⟩
   ·have sB':=sB;rw[←List.take_append_drop j B]at sB';have sB':=List.pairwise_append.1 sB';refine List.pairwise_append.2 ⟨sB'.1,List.pairwise_cons.2 ⟨λz hz=>?_,sB'.2.1⟩,λz hz y hy=>?_⟩
    ·obtain⟨i,hi,hz'⟩:=Ug hz;have q1:=h2 i z hz' hi;have q2:=hx2 z (List.mem_of_mem_drop hz);unfold QK;omega
    ·rcases List.mem_cons.1 hy with rfl | hy
     ·obtain⟨i,hi,hz'⟩:=Uf hz;exact .inl (h1 i z hz' hi)
     ·exact sB'.2.2 z hz y hy
   ·refine List.perm_middle.trans ?_;rw[List.take_append_drop]
def OE(h:St w0 E w)(i:Nat){s:Seg}(hi:nth E i=some s){v:Sl}{P A R:List (Int×Int)}{y:Int×Int}(hr:Rw eC zd 2 v (P++(A++(y::R))) s)(hn:(P++(A++(y::R))).length<1000000000)(hA1:A.length≠1)(sA:Ls A)(hy2:∀x∈A,x.2<y.2)
  (hby: -4611686018427387904<y.1∧y.1<4611686018427387904) (hb:∀x∈A,-4611686018427387904<x.1∧x.1<4611686018427387904) {a m b:Int} (ha:a=P.length) (hm:m=P.length+A.length) (hbb:b=P.length+(A.length+1))
  {k:Unit→PT} (hk:∀S s' w',Ls S→S.Perm (A++[y])→Rw eC zd 2 v (P++(S++R)) s'→St w0 (ze E i s') w'→k () w') :
  L.call Pr zf [.slice v.a v.len v.cap,I a,I m,I b,Qg] (.tup []) k w:=by
 subst ha hm hbb;refine zm (zX _ _ _ _ ⟨.func zq,#[],#[]⟩) ?_;unfold zL;simp only[List.length_append,List.length_cons]at hn;rw[wr (n:=(P.length:Int)+A.length-P.length) (by omega) (by omega),wr (n:=(P.length:Int)+(A.length+1)-(P.length+A.length)) (by omega) (by omega)];refine itF (by simp;omega) ?_;refine itT (by simp;omega) ?_
 refine zK (λq z w=>∃c d:Nat,z=((P.length:Int)+c,(P.length:Int)+d,())∧q+c=d∧c≤d∧d≤A.length∧(∀(i:Nat) z,A[i]? = some z→i<c→¬y.1<z.1)∧(∀(i:Nat) z,A[i]? = some z→d≤i→y.1<z.1)∧St w0 E w) A.length
  ⟨0,A.length,by simp,by omega,by omega,by omega,by intros;omega,by
   intro i z hz hi;have:=(List.getElem?_eq_some_iff.1 hz).1;omega,h⟩ ?_
 clear h;rintro q z w ⟨c,d,rfl,hq,hcd,hd,h1,h2,h⟩ again hag
 (try dsimp only)
 have g0:(P++(A++(y::R)))[((P.length:Int)+A.length).toNat]? = some y:=by
  have e1:((P.length:Int)+A.length).toNat=P.length+A.length:=by omega
  rw[e1,←List.append_assoc,List.getElem?_append_right (by simp)];simp
 refine it (λhc=>?_) (λhc=>?_)<;>(try simp only[zB]at hc)
 ·have he:((P.length:Int)+c+((P.length:Int)+d))/2=(P.length:Int)+(((c+d)/2:Nat):Int):=by omega
  rw[ov (by omega) (by omega) (by omega),he];obtain⟨e,hee⟩:∃e,e=(c+d)/2:=⟨_,rfl⟩;rw[←hee];have hel:e<A.length:=by omega
  have hz:A[e]? = some A[e]:=List.getElem?_eq_getElem hel;have hzm:A[e]∈A:=List.getElem_mem hel;generalize A[e]=z at hz hzm;have g1:(P++(A++(y::R)))[((P.length:Int)+(e:Int)).toNat]? = some z:=by
   have e1:((P.length:Int)+(e:Int)).toNat=P.length+e:=by omega
   rw[e1,List.getElem?_append_right (by omega)];have e2:P.length+e-P.length=e:=by omega
   rw[e2,List.getElem?_append_left hel,hz]
  refine gd (by decide) ?_;refine Ut h i hi hr (by omega) (by omega) g0 g1 hby (hb z hzm) λw h=>?_;refine it (λhl=>?_) (λhl=>?_)<;>(try simp only[zB]at hl)
  ·refine hag (d-(e+1)) _ w (by omega) ⟨e+1,d,?_,by omega,by omega,hd,λi z' hz' hi=>?_,h2,h⟩
   ·rw[wr (by omega) (by omega)];congr 1
   ·have:=xo sA (by omega) hz' hz;omega
  ·refine hag (e-c) _ w (by omega) ⟨c,e,rfl,by omega,by omega,by omega,h1,λi z' hz' hi=>?_,h⟩;have:=xo sA hi hz hz';omega
 ·have e:d=c:=by omega
  subst e;refine zK (λq z w=>∃(j:Nat)(s:Seg),z=((P.length:Int)+j,())∧q+d=j∧j≤A.length∧Rw eC zd 2 v (P++(A.take j++y::(A.drop j++R))) s∧St w0 (ze E i s) w) (A.length-d) ⟨A.length,s,by simp,by omega,by omega,by simpa using hr,by rwa [ZB hi]⟩ ?_;clear hr g0;clear h;rintro q z w ⟨j,s,rfl,hq,hj,hr,h⟩ again hag
  (try dsimp only)
  have hsi:nth (ze E i s) i=some s:=Yq hi;refine it (λhc=>?_) (λhc=>?_)<;>(try simp only[zB]at hc)
  ·obtain⟨j,rfl⟩:∃j',j=j'+1:=⟨j-1,by omega⟩;have hA:A.drop j=A[j]::A.drop (j+1):=List.drop_eq_getElem_cons (by omega);have tA:A.take (j+1)=A.take j++[A[j]]:=by rw[List.take_add_one,List.getElem?_eq_getElem (by omega)];rfl
   have lA:(A.take j).length=j:=by rw[List.length_take];omega
   generalize A[j]=x at hA tA;have eD:P++(A.take (j+1)++y::(A.drop (j+1)++R))=(P++A.take j)++x::([]++y::(A.drop (j+1)++R)):=by rw[tA];simp
   have eD2:(P++A.take j)++y::([]++x::(A.drop (j+1)++R))=P++(A.take j++y::(A.drop j++R)):=by rw[hA];simp
   rw[eD]at hr;obtain⟨g1,g2,-,g3⟩:=vB (Q:=P++A.take j) (T:=[]) (U:=A.drop (j+1)++R) (x:=x) (y:=y);have l1:(P++A.take j).length=P.length+j:=by rw[List.length_append,lA]
   have l2:(P++A.take j).length+(1+([]:List (Int×Int)).length)=P.length+j+1:=by rw[l1];rfl
   rw[eD2,l2,l1]at g3;rw[l2]at g2;rw[l1]at g1;have i0:(P.length:Int)+((j+1:Nat):Int)-1=(P.length:Int)+j:=by omega
   have i1:((P.length:Int)+j).toNat=P.length+j:=by omega
   have i2:((P.length:Int)+((j+1:Nat):Int)).toNat=P.length+j+1:=by omega
   rw[wr (n:=(P.length:Int)+((j+1:Nat):Int)-1) (by omega) (by omega),i0];refine KG h i hsi hr (by omega) (by omega) (by rw[i2];exact g2) (by rw[i1];exact g1) λs' w hr h=>?_;rw[i1,i2,g3]at hr;rw[yL]at h;exact hag (q-1) _ w (by omega) ⟨j,s',rfl,by omega,by omega,hr,h⟩
  ·have e:j=d:=by omega
   subst e;refine⟨(),rfl,hk (A.take j++y::A.drop j) s w ?_ ?_ (by simpa using hr) h⟩
   ·have sA':=sA;rw[←List.take_append_drop j A]at sA';have sA':=List.pairwise_append.1 sA';refine List.pairwise_append.2 ⟨sA'.1,List.pairwise_cons.2 ⟨λz hz=>?_,sA'.2.1⟩,λx hx z hz=>?_⟩
    ·obtain⟨i,hi,hz'⟩:=Ug hz;exact .inl (h2 i z hz' hi)
    ·rcases List.mem_cons.1 hz with rfl | hz
     ·obtain⟨i,hi,hz'⟩:=Uf hx;have q1:=h1 i x hz' hi;have q2:=hy2 x (List.mem_of_mem_take hx);unfold QK;omega
     ·exact sA'.2.2 x hx z hz
   ·refine List.perm_middle.trans ?_;rw[List.take_append_drop];exact(List.perm_append_singleton y A).symm
def oI(h:St w0 E w)(i:Nat){s:Seg}(hi:nth E i=some s){v:Sl}{M:List (Int×Int)}(hr:Rw eC zd 2 v M s)(hn:M.length≤20)
  (hb:∀x∈M,-4611686018427387904<x.1∧x.1<4611686018427387904) {k:Unit→PT} (hk:∀s' w',Rw eC zd 2 v (Ze M) s'→St w0 (ze E i s') w'→k () w') :
  L.call Pr zu [.slice v.a v.len v.cap,Qg] (.tup []) k w:=by
 refine zm (zW _ ⟨.func zq,#[],#[]⟩) ?_;unfold zF;refine zm (ZO _ _ ⟨.func zq,#[],#[]⟩) ?_;unfold Zc;have hlen:=Rw.len Yy hr;have hr0:Rw eC zd 2 v ([]++(M++[])) s:=by simpa using hr
 have fin:∀{s' w},Rw eC zd 2 v (Ze M) s'→St w0 (ze E i s') w→L.loop (Y:=Int×Unit) (20,()) (λy5 again6=>
   L.ite (decide (y5.1<((v.len:Nat):Int))) (
    L.loop (Y:=Int×Int×Unit) (0,Wi (2*y5.1),()) λy7 again8=>
    L.ite (decide (y7.2.1≤((v.len:Nat):Int))) (
     L.call Pr zf [.slice v.a v.len v.cap,.int .i64 y7.1,.int .i64 (Wi (y7.1+y5.1)),.int .i64 y7.2.1,Qg] (.tup []) λ(x9:Unit)=>
     again8 (y7.2.1,Wi (y7.2.1+(Wi (2*y5.1))),()))<|
    L.join (Y:=Unit) (λk10=>
     L.ite (decide ((Wi (y7.1+y5.1))<((v.len:Nat):Int))) (
      L.call Pr zf [.slice v.a v.len v.cap,.int .i64 y7.1,.int .i64 (Wi (y7.1+y5.1)),.int .i64 ((v.len:Nat):Int),Qg] (.tup []) λ(x12:Unit)=>
      k10 (()))<|
     k10 (())) λz11=>
    again6 (Wi (y5.1*2),()))<|
   λw=>∃x:Unit,Value.tuple #[]=RT.val (.tup []) x∧∃y:Unit,Value.tuple #[]=RT.val (.tup []) y∧k y w) w:=by
  intro s' w hr h;refine zK (λq y w'=>y=(20,())∧w'=w) 0 ⟨rfl,rfl⟩ ?_;rintro q y w' ⟨rfl,rfl⟩ again hag;refine itF (decide_eq_false (by dsimp only;omega)) ?_;exact⟨(),rfl,(),rfl,hk s' _ hr h⟩
 refine zK (λq y w=>(q=1∧y=(0,20,())∧St w0 E w)∨(q=0∧y=(20,40,())∧M.length=20∧∃s',Rw eC zd 2 v (Ze M) s'∧St w0 (ze E i s') w)) 1 (.inl ⟨rfl,rfl,h⟩) ?_;clear h;rintro q y w (⟨rfl,rfl,h⟩ | ⟨rfl,rfl,h20,s',hr',h⟩) again hag<;>dsimp only
 ·refine it (λhc=>?_) (λhc=>?_)<;>(try simp only[zB]at hc)
  ·refine ub (P:=[]) (M:=M) (R:=[]) h i hi hr0 (by simp;omega) hb (by rfl) (by simp;omega) λs' w hr' h=>?_;rw[wr (by omega) (by omega)];exact hag 0 _ w (by omega) (.inr ⟨rfl,rfl,by omega,s',by simpa using hr',h⟩)
  ·refine ub (P:=[]) (M:=M) (R:=[]) h i hi hr0 (by simp;omega) hb (by rfl) (by simp;omega) λs' w hr' h=>?_;exact fin (by simpa using hr') h
 ·refine itF (decide_eq_false (by omega)) ?_;refine ub (P:=Ze M) (M:=[]) (R:=[]) h i (Yq hi) (by simpa using hr') (by simp[Zm];omega) (by simp) (by rw[Zm];omega) (by rw[Zm];simp;omega) λs' w hr' h=>?_;rw[yL]at h;exact fin (by simpa [Ze]using hr') h
def uK{p:Int×Int→Bool}{c:Int×Int}:∀{l:List (Int×Int)},l.Pairwise (λa b=>a.1≤b.1)→
  (jG c l).find? p=match l.find? p with | none=>if p c=true then some c else none | some y=>if p c=true∧c.1<y.1 then some c else some y
 | [],_=>by by_cases h:p c=true<;>simp[jG,h]
 | y::l,hp=>by
  rw[List.pairwise_cons]at hp;simp only[jG];split
  ·rename_i hlt;by_cases h:p c=true
   ·rw[List.find?_cons_of_pos h]
    cases hf:(y::l).find? p with
    | none=>simp[h]
    | some z=>
     have hz:c.1<z.1:=by
      rcases List.mem_cons.1 (List.mem_of_find?_eq_some hf)with rfl | hz
      ·exact hlt
      ·have:=hp.1 z hz;omega
     simp[h,hz]
   ·rw[List.find?_cons_of_neg h]
    cases hf:(y::l).find? p<;>simp[h]
  ·rename_i hlt;by_cases hy:p y=true
   ·rw[List.find?_cons_of_pos hy,List.find?_cons_of_pos hy];simp[hlt]
   ·rw[List.find?_cons_of_neg hy,List.find?_cons_of_neg hy];exact uK hp.2
def can(x:zh):Bool:=decide (x.pod.st=2∧(x.pod.reqs.length:Int)<x.pod.conc)
def zY(b:Option zh)(x:zh):Option zh:=match b with
 | none=>if can x=true then some x else none
 | some y=>if can x=true∧x.pod.reqs.length<y.pod.reqs.length then some x else some y
def Jn(l:List zh)(rev:B0):Option zh:=(revs l rev).foldl zY none
def key(x:zh):Int×Int:=(x.pod.reqs.length,x.id)
def uJ{p:Int×Int→Bool}:∀(n:Nat){R:List zh},R.length=n→(∀x∈R,p (key x)=can x)→(Ze (R.map key)).find? p=(R.foldl zY none).map key
 | 0,R,hn,_=>by
  have:=List.eq_nil_of_length_eq_zero hn;subst this;rfl
 | n+1,R,hn,h=>by
  obtain⟨R',x,rfl⟩:∃R' x,R=R'++[x]:=⟨R.dropLast,R.getLast (by intro e;subst e;simp at hn),(List.dropLast_concat_getLast _).symm⟩;have ih:=uJ (p:=p) n (R:=R') (by simpa using hn) λy hy=>h y (by simp[hy]);have hx:=h x (by simp);have e:Ze ((R'++[x]).map key)=jG (key x) (Ze (R'.map key)):=by simp[Ze,List.foldl_append]
  rw[e,uK (vt _),ih,List.foldl_append];simp only[List.foldl_cons,List.foldl_nil]
  cases R'.foldl zY none with
  | none=>simp only[Option.map_none,zY,hx];split<;>rfl
  | some y=>
   simp only[Option.map_some,zY,hx];by_cases hc:can x=true∧x.pod.reqs.length<y.pod.reqs.length
   ·rw[if_pos hc,if_pos ⟨hc.1,by simp only[key];omega⟩];rfl
   ·rw[if_neg hc,if_neg (λhh=>hc ⟨hh.1,by have:=hh.2;simp only[key]at this;omega⟩)];rfl
def zj.Ok.where_upd{F:zj}(ok:F.Ok){id:Int}{x:zh}(hx:yF F.l id=some x)(g:Zl→Zl)(hq:∀q∈(g x.pod).reqs,q∈x.pod.reqs∨zP F.l q=none)
  (h4:(g x.pod).st=4→(g x.pod).reqs = []) (q:Int):(zP (ZE F.l id g) q).map (·.id)=if q∈(g x.pod).reqs then some id else if q∈x.pod.reqs then none else(zP F.l q).map (·.id):=by
 obtain⟨hm,rfl⟩:=yj hx;obtain⟨A,B,hl⟩:=List.append_of_mem hm;have pw:=ok.pw;have once:=ok.once;have hno:zP F.l q=none→∀y∈A++x::B,q∉y.pod.reqs:=λh=>by rw[hl]at h;exact Jm h
 have hq:=hq q;rw[hl]at pw once ⊢;rw[List.pairwise_append,List.pairwise_cons]at once;rw[Xg pw];have hA:(q∈x.pod.reqs∨q∈(g x.pod).reqs)→∀y∈A,q∉y.pod.reqs:=λh y hy hqy=>by
  have h:q∈x.pod.reqs∨zP F.l q=none:=h.elim .inl λh=>hq h;rcases h with h | h
  ·exact once.2.2 y hy x (by simp) q hqy h
  ·exact hno h y (by simp[hy]) hqy
 have hB:(q∈x.pod.reqs∨q∈(g x.pod).reqs)→∀y∈B,q∉y.pod.reqs:=λh y hy hqy=>by
  have h:q∈x.pod.reqs∨zP F.l q=none:=h.elim .inl λh=>hq h;rcases h with h | h
  ·exact once.2.1.1 y hy q h hqy
  ·exact hno h y (by simp[hy]) hqy
 have fn:∀{l:List zh},(∀y∈l,q∉y.pod.reqs)→List.find? (λx=>decide (q∈x.pod.reqs)) l=none:=λh=>by
  rw[List.find?_eq_none];exact λy hy=>by simpa using h y hy
 unfold zP;simp only[List.find?_append];by_cases h1:q∈(g x.pod).reqs
 ·rw[if_pos h1,fn (hA (.inr h1)),Option.none_or];have:(g x.pod).st≠4:=λe=>by rw[h4 e]at h1;simp at h1
  rw[if_neg this,List.find?_cons_of_pos (by simpa using h1)];rfl
 ·rw[if_neg h1];have hg:List.find? (λx=>decide (q∈x.pod.reqs)) (if(g x.pod).st=4 then []else [{ x with pod:=g x.pod }])=none:=by
   split
   ·rfl
   ·rw[List.find?_cons_of_neg (by simpa using h1)];rfl
  rw[hg,Option.none_or];by_cases h2:q∈x.pod.reqs
  ·rw[if_pos h2,fn (hA (.inl h2)),fn (hB (.inl h2))];rfl
  ·rw[if_neg h2,List.find?_cons_of_neg (by simpa using h2)]
structure Cut(p q h:Nat)(A B:List (Int×Int))(c:Nat):Prop where
 c1:c≤p
 c2:c≤h
 c3:h-c≤q
 lo:∀x∈A.take c,∀y∈B.drop (h-c),x.1≤y.1
 hi:∀y∈B.take (h-c),∀x∈A.drop c,y.1<x.1
def Oz{p q h c c0 d0:Nat}{A B:List (Int×Int)}(hp:p=A.length)(hq:q=B.length)(hh:h=(p+q)/2)(sA:Ls A)(sB:Ls B)(h0:(p≤h∧c0=0∧d0=p)∨(h<p∧c0+q=h∧d0=h))(hc0:c0≤c)(hc1:c≤d0)
  (hT:∀e x y,c0≤e→e<c→A[e]? = some x→B[h-1-e]? = some y→¬y.1<x.1) (hF:∀e x y,c≤e→e<d0→A[e]? = some x→B[h-1-e]? = some y→y.1<x.1):Cut p q h A B c:=by
 subst hp hq;refine⟨by omega,by omega,by omega,λx hx y hy=>?_,λy hy x hx=>?_⟩
 ·obtain⟨i,hi,hx⟩:=Uf hx;obtain⟨j,hj,hy⟩:=Ug hy;have hil:=(List.getElem?_eq_some_iff.1 hx).1;have hjl:=(List.getElem?_eq_some_iff.1 hy).1;have hcc:c0<c:=by omega
  have a1:A[c-1]? = some A[c-1]:=List.getElem?_eq_getElem (by omega);have b1:B[h-1-(c-1)]? = some B[h-1-(c-1)]:=List.getElem?_eq_getElem (by omega);have q1:=hT (c-1) _ _ (by omega) (by omega) a1 b1;have q2:=xo sA (by omega) hx a1;have q3:=xo sB (by omega) b1 hy;omega
 ·obtain⟨i,hi,hx⟩:=Ug hx;obtain⟨j,hj,hy⟩:=Uf hy;have hil:=(List.getElem?_eq_some_iff.1 hx).1;have hjl:=(List.getElem?_eq_some_iff.1 hy).1;have hcc:c<d0:=by omega
  have a1:A[c]? = some A[c]:=List.getElem?_eq_getElem (by omega);have b1:B[h-1-c]? = some B[h-1-c]:=List.getElem?_eq_getElem (by omega);have q1:=hF c _ _ (by omega) hcc a1 b1;have q2:=xo sA (by omega) a1 hx;have q3:=xo sB (by omega) hy b1;omega
abbrev bdC(x:Int×Int):Prop:=-4611686018427387904<x.1∧x.1<4611686018427387904
def OG:∀(N:Nat){w:World}{E:List Seg}(_:St w0 E w)(i:Nat){s:Seg}(_:nth E i=some s){v:Sl}{P A B R:List (Int×Int)}(_:Rw eC zd 2 v (P++(A++(B++R))) s)(_:(P++(A++(B++R))).length<1000000000)(_:A.length+B.length≤N)(_:A≠[])(_:B≠[])
  (_:Ls A) (_:Ls B) (_:∀x∈A,∀y∈B,x.2<y.2) (_:∀x∈A,bdC x) (_:∀x∈B,bdC x) {a m b:Int} (_:a=P.length) (_:m=P.length+A.length) (_:b=P.length+(A.length+B.length))
  {k:Unit→PT} (_:∀S s' w',Ls S→S.Perm (A++B)→Rw eC zd 2 v (P++(S++R)) s'→St w0 (ze E i s') w'→k () w'),
  L.call Pr zf [.slice v.a v.len v.cap,I a,I m,I b,Qg] (.tup []) k w:=by
 intro N
 induction N with
 | zero=>
  intro w E h i s hi v P A B R hr hn hN hA hB;have:=List.length_pos_iff.2 hA;omega
 | succ N ih=>
 intro w E h i s hi v P A B R hr hn hN hA hB sA sB hAB bA bB a m b ha hm hbb k hk;have hA1:=List.length_pos_iff.2 hA;have hB1:=List.length_pos_iff.2 hB;by_cases cA:A.length=1
 ·obtain⟨x,rfl⟩:∃x,A = [x]:=List.length_eq_one_iff.1 cA;exact OF (P:=P) (x:=x) (B:=B) (R:=R) h i hi hr hn sB (hAB x (by simp)) (bA x (by simp)) bB ha (by simpa using hm) (by simpa using hbb) hk
 by_cases cB:B.length=1
 ·obtain⟨y,rfl⟩:∃y,B = [y]:=List.length_eq_one_iff.1 cB;exact OE h i hi hr hn cA sA (λx hx=>hAB x hx y (by simp)) (bB y (by simp)) bA ha hm (by simpa using hbb) hk
 subst ha hm hbb;refine zm (zX _ _ _ _ ⟨.func zq,#[],#[]⟩) ?_;unfold zL;simp only[List.length_append]at hn;rw[wr (n:=(P.length:Int)+A.length-P.length) (by omega) (by omega),wr (n:=(P.length:Int)+(A.length+B.length)-(P.length+A.length)) (by omega) (by omega)];refine itF (by simp;omega) ?_;refine itF (by simp;omega) ?_;refine gd (by decide) ?_;obtain⟨hh,hhe⟩:∃hh,hh=(A.length+B.length)/2:=⟨_,rfl⟩;have he:((P.length:Int)+((P.length:Int)+(A.length+B.length)))/2=(P.length:Int)+(hh:Int):=by omega
 rw[ov (a:=(P.length:Int)) (b:=(P.length:Int)+(A.length+B.length)) (by omega) (by omega) (by omega),he];refine Zs (λz w'=>(∃c0 d0:Nat,z=((P.length:Int)+c0,(P.length:Int)+d0,())∧c0≤d0∧((A.length≤hh∧c0=0∧d0=A.length)∨(hh<A.length∧c0+B.length=hh∧d0=hh)))∧w'=w) (λk' hk'=>?_) ?_
 ·refine it (λhc=>?_) (λhc=>?_)<;>(try simp only[zB]at hc)
  ·refine hk' _ _ ⟨⟨hh-B.length,hh,?_,by omega,.inr ⟨by omega,by omega,rfl⟩⟩,rfl⟩;rw[wr (n:=(P.length:Int)+hh+(P.length+A.length)) (by omega) (by omega),wr (by omega) (by omega)]
   congr 1
   omega
  ·exact hk' _ _ ⟨⟨0,A.length,by simp,by omega,.inl ⟨by omega,rfl,rfl⟩⟩,rfl⟩
 rintro z w' ⟨⟨c0,d0,rfl,hcd0,h0⟩,rfl⟩;dsimp only
 refine zK (λq z w=>∃c d:Nat,z=((P.length:Int)+c,(P.length:Int)+d,())∧q+c=d∧c0≤c∧c≤d∧d≤d0∧(∀e x y,c0≤e→e<c→A[e]? = some x→B[hh-1-e]? = some y→¬y.1<x.1)∧
  (∀e x y,d≤e→e<d0→A[e]? = some x→B[hh-1-e]? = some y→y.1<x.1)∧St w0 E w) (d0-c0) ⟨c0,d0,rfl,by omega,by omega,by omega,by omega,by intros;omega,by intros;omega,h⟩ ?_
 clear h;rintro q z w ⟨c,d,rfl,hq,hc0,hcd,hd,h1,h2,h⟩ again hag
 (try dsimp only)
 refine it (λhc=>?_) (λhc=>?_)<;>(try simp only[zB]at hc)
 ·have he2:((P.length:Int)+c+((P.length:Int)+d))/2=(P.length:Int)+(((c+d)/2:Nat):Int):=by omega
  rw[ov (a:=(P.length:Int)+c) (by omega) (by omega) (by omega),he2];obtain⟨e,hee⟩:∃e,e=(c+d)/2:=⟨_,rfl⟩;rw[←hee];have hel:e<A.length:=by omega
  have hel2:hh-1-e<B.length:=by omega
  have hx:A[e]? = some A[e]:=List.getElem?_eq_getElem hel;have hxm:A[e]∈A:=List.getElem_mem hel;have hy:B[hh-1-e]? = some B[hh-1-e]:=List.getElem?_eq_getElem hel2;have hym:B[hh-1-e]∈B:=List.getElem_mem hel2;generalize A[e]=x at hx hxm;generalize B[hh-1-e]=y at hy hym;have g1:(P++(A++(B++R)))[((P.length:Int)+(e:Int)).toNat]? = some x:=by
   have e1:((P.length:Int)+(e:Int)).toNat=P.length+e:=by omega
   rw[e1,List.getElem?_append_right (by omega)];have e2:P.length+e-P.length=e:=by omega
   rw[e2,List.getElem?_append_left hel,hx]
  rw[wr (n:=(P.length:Int)+hh+(P.length+A.length)) (by omega) (by omega),wr (n:=(P.length:Int)+hh+(P.length+A.length)-1) (by omega) (by omega),wr (n:=(P.length:Int)+hh+(P.length+A.length)-1-(P.length+e)) (by omega) (by omega)];have g0:(P++(A++(B++R)))[((P.length:Int)+hh+(P.length+A.length)-1-(P.length+e)).toNat]? = some y:=by
   have e1:((P.length:Int)+hh+(P.length+A.length)-1-(P.length+e)).toNat=P.length+(A.length+(hh-1-e)):=by omega
   rw[e1,List.getElem?_append_right (by omega)];have e2:P.length+(A.length+(hh-1-e))-P.length=A.length+(hh-1-e):=by omega
   rw[e2,List.getElem?_append_right (by omega)];have e3:A.length+(hh-1-e)-A.length=hh-1-e:=by omega
   rw[e3,List.getElem?_append_left hel2,hy]
  refine gd (by decide) ?_;refine Ut h i hi hr (by omega) (by omega) g0 g1 (bB y hym) (bA x hxm) λw h=>?_;refine it (λhl=>?_) (λhl=>?_)<;>(try simp only[zB]at hl)
  ·refine hag (d-(e+1)) _ w (by omega) ⟨e+1,d,?_,by omega,by omega,by omega,hd,λe' x' y' he1 he2 hx' hy'=>?_,h2,h⟩
   ·rw[wr (by omega) (by omega)];congr 1
   ·have q1:=xo sA (by omega) hx' hx;have q2:=xo sB (by omega) hy hy';omega
  ·refine hag (e-c) _ w (by omega) ⟨c,e,rfl,by omega,by omega,by omega,by omega,h1,λe' x' y' he1 he2 hx' hy'=>?_,h⟩;have q1:=xo sA he1 hx hx';have q2:=xo sB (by omega) hy' hy;omega
 clear hag;have e:d=c:=by omega
 subst e;have C:=Oz rfl rfl hhe sA sB h0 hc0 hd h1 h2;clear h1 h2 h0 hc0 hd hcd;obtain⟨A1,A2,rfl,lA1⟩:∃A1 A2,A=A1++A2∧A1.length=d:=⟨A.take d,A.drop d,(List.take_append_drop ..).symm,by rw[List.length_take];have:=C.c1;omega⟩;obtain⟨B1,B2,rfl,lB1⟩:∃B1 B2,B=B1++B2∧B1.length=hh-d:=⟨B.take (hh-d),B.drop (hh-d),(List.take_append_drop ..).symm,by rw[List.length_take];have:=C.c3;omega⟩;have tA:(A1++A2).take d=A1:=by rw[←lA1,List.take_left]
 have dA:(A1++A2).drop d=A2:=by rw[←lA1,List.drop_left]
 have tB:(B1++B2).take (hh-d)=B1:=by rw[←lB1,List.take_left]
 have dB:(B1++B2).drop (hh-d)=B2:=by rw[←lB1,List.drop_left]
 have hlo:=C.lo;have hhi:=C.hi;have hc2:=C.c2;rw[tA,dB]at hlo;rw[tB,dA]at hhi;clear tA dA tB dB C;have pA:=List.pairwise_append.1 sA;have pB:=List.pairwise_append.1 sB;simp only[List.length_append]at *
 rw[wr (n:=(P.length:Int)+hh+(P.length+((A1.length+A2.length:Nat):Int))) (by omega) (by omega),wr (n:=(P.length:Int)+hh+(P.length+((A1.length+A2.length:Nat):Int))-(P.length+(d:Int))) (by omega) (by omega)];have hend:(P.length:Int)+hh+(P.length+((A1.length+A2.length:Nat):Int))-(P.length+(d:Int))=(P.length:Int)+((hh+A2.length:Nat):Int):=by omega
 rw[hend];have lo2:∀x∈A1,∀y∈B2,QK x y:=λx hx y hy=>by
  have q1:=hlo x hx y hy;have q2:=hAB x (by simp[hx]) y (by simp[hy]);unfold QK;omega
 refine Zs (λ_ w=>∃s,Rw eC zd 2 v (P++(A1++(B1++(A2++(B2++R))))) s∧St w0 (ze E i s) w) (λk' hk'=>?_) ?_
 ·have stay:(A2 = []∨B1 = [])→k' () w:=λhh=>hk' () w ⟨s,by
   have e:P++(A1++(B1++(A2++(B2++R))))=P++((A1++A2)++((B1++B2)++R)):=by rcases hh with rfl | rfl<;>simp
   rw[e];exact hr,by rwa [ZB hi]⟩
  refine it (λhc1=>?_) (λhc1=>?_)<;>(try simp only[zB]at hc1)
  ·refine it (λhc3=>?_) (λhc3=>?_)<;>(try simp only[zB]at hc3)
   ·refine OH (P:=P++A1) (A:=A2) (B:=B1) (R:=B2++R) h i hi (by simpa using hr) (by simp only[List.length_append];omega) (List.length_pos_iff.1 (by omega)) (List.length_pos_iff.1 (by omega)) (by rw[List.length_append];omega) (by rw[List.length_append];omega) (by rw[List.length_append];omega) λs' w hr h=>?_;exact hk' () w ⟨s',by simpa using hr,h⟩
   ·exact stay (.inr (List.eq_nil_of_length_eq_zero (by omega)))
  ·exact stay (.inl (List.eq_nil_of_length_eq_zero (by omega)))
 clear hr;clear h;rintro _ w ⟨s,hr,h⟩
 (try dsimp only)
 refine Zs (λ_ w=>∃S1 s,Ls S1∧S1.Perm (A1++B1)∧Rw eC zd 2 v (P++(S1++(A2++(B2++R)))) s∧St w0 (ze E i s) w) (λk' hk'=>?_) ?_
 ·have stay:(A1 = []∨B1 = [])→k' () w:=λhh=>hk' () w ⟨A1++B1,s,by
   rcases hh with rfl | rfl
   ·simpa using pB.1
   ·simpa using pA.1,.refl _,by simpa using hr,h⟩
  refine it (λhc1=>?_) (λhc1=>?_)<;>(try simp only[zB]at hc1)
  ·refine it (λhc3=>?_) (λhc3=>?_)<;>(try simp only[zB]at hc3)
   ·refine ih (P:=P) (A:=A1) (B:=B1) (R:=A2++(B2++R)) h i (Yq hi) hr (by simp only[List.length_append];omega) (by omega) (List.length_pos_iff.1 (by omega)) (List.length_pos_iff.1 (by omega)) pA.1 pB.1 (λx hx y hy=>hAB x (by simp[hx]) y (by simp[hy]))
     (λx hx=>bA x (by simp[hx])) (λx hx=>bB x (by simp[hx])) rfl (by omega) (by omega) λS1 s' w l1 p1 hr h=>?_
    rw[yL]at h;exact hk' () w ⟨S1,s',l1,p1,hr,h⟩
   ·exact stay (.inr (List.eq_nil_of_length_eq_zero (by omega)))
  ·exact stay (.inl (List.eq_nil_of_length_eq_zero (by omega)))
 clear hr;clear h;rintro _ w ⟨S1,s,l1,p1,hr,h⟩
 (try dsimp only)
 have lS1:S1.length=hh:=by rw[p1.length_eq,List.length_append];omega
 have fin:∀S2 s' w',Ls S2→S2.Perm (A2++B2)→Rw eC zd 2 v ((P++S1)++(S2++R)) s'→St w0 (ze E i s') w'→k () w':=λS2 s' w' l2 p2 hr h=>by
  refine hk (S1++S2) s' w' (List.pairwise_append.2 ⟨l1,l2,λx hx y hy=>?_⟩) ?_ (by simpa using hr) h
  ·rcases List.mem_append.1 (p1.mem_iff.1 hx)with hx | hx<;>rcases List.mem_append.1 (p2.mem_iff.1 hy)with hy | hy
   ·exact pA.2.2 x hx y hy
   ·exact lo2 x hx y hy
   ·exact .inl (hhi x hx y hy)
   ·exact pB.2.2 x hx y hy
  ·refine(p1.append p2).trans ?_;rw[List.append_assoc,List.append_assoc];refine List.Perm.append_left _ ?_;rw[←List.append_assoc,←List.append_assoc];exact List.Perm.append_right _ List.perm_append_comm
 have stay:(A2 = []∨B2 = [])→k () w:=λhh=>fin (A2++B2) s w (by
   rcases hh with rfl | rfl
   ·simpa using pB.2.1
   ·simpa using pA.2.1) (.refl _) (by simpa using hr) h
 refine it (λhc1=>?_) (λhc1=>?_)<;>(try simp only[zB]at hc1)
 ·refine it (λhc3=>?_) (λhc3=>?_)<;>(try simp only[zB]at hc3)
  ·refine ih (P:=P++S1) (A:=A2) (B:=B2) (R:=R) h i (Yq hi) (by simpa using hr) (by simp only[List.length_append];omega) (by omega) (List.length_pos_iff.1 (by omega)) (List.length_pos_iff.1 (by omega)) pA.2.1 pB.2.1 (λx hx y hy=>hAB x (by simp[hx]) y (by simp[hy]))
    (λx hx=>bA x (by simp[hx])) (λx hx=>bB x (by simp[hx])) (by rw[List.length_append];omega) (by rw[List.length_append];omega) (by rw[List.length_append];omega) λS2 s' w l2 p2 hr h=>?_
   rw[yL]at h;exact⟨(),rfl,fin S2 s' w l2 p2 hr h⟩
  ·exact⟨(),rfl,stay (.inr (List.eq_nil_of_length_eq_zero (by omega)))⟩
 ·exact⟨(),rfl,stay (.inl (List.eq_nil_of_length_eq_zero (by omega)))⟩
def KH(h:St w0 E w)(i:Nat){s:Seg}(hi:nth E i=some s){v:Sl}{M:List (Int×Int)}(hr:Rw eC zd 2 v M s)(hn:M.length<40)(hid:M.Pairwise λa b=>a.2<b.2)
  (hb:∀x∈M,bdC x) {k:Unit→PT} (hk:∀s' w',Rw eC zd 2 v (Ze M) s'→St w0 (ze E i s') w'→k () w') :
  L.call Pr zu [.slice v.a v.len v.cap,Qg] (.tup []) k w:=by
 by_cases h20:M.length≤20
 ·exact oI h i hi hr h20 hb hk
 refine zm (zW _ ⟨.func zq,#[],#[]⟩) ?_;unfold zF;refine zm (ZO _ _ ⟨.func zq,#[],#[]⟩) ?_;unfold Zc;have hlen:=Rw.len Yy hr;obtain⟨M1,M2,rfl,l1⟩:∃M1 M2,M=M1++M2∧M1.length=20:=⟨M.take 20,M.drop 20,(List.take_append_drop ..).symm,by rw[List.length_take];omega⟩;have p12:=List.pairwise_append.1 hid;rw[List.length_append]at hn h20 hlen;have hb1:∀x∈Ze M1,bdC x:=λx hx=>hb x (by simp[(yO M1).mem_iff.1 hx]);have hb2:∀x∈Ze M2,bdC x:=λx hx=>hb x (by simp[(yO M2).mem_iff.1 hx]);refine zK (λq y w=>(q=1∧y=(0,20,())∧St w0 E w)∨(q=0∧y=(20,40,())∧∃s',Rw eC zd 2 v (Ze M1++(M2++[])) s'∧St w0 (ze E i s') w)) 1 (.inl ⟨rfl,rfl,h⟩) ?_;clear h;rintro q y w (⟨rfl,rfl,h⟩ | ⟨rfl,rfl,s',hr',h⟩) again hag<;>dsimp only
 ·refine itT (decide_eq_true (by omega)) ?_;refine ub (P:=[]) (M:=M1) (R:=M2) h i hi (by simpa using hr) (by simp;omega) (λx hx=>hb x (by simp[hx])) (by rfl) (by simp;omega) λs' w hr' h=>?_;rw[wr (by omega) (by omega)];exact hag 0 _ w (by omega) (.inr ⟨rfl,rfl,s',by simpa using hr',h⟩)
 ·refine itF (decide_eq_false (by omega)) ?_;refine ub (P:=Ze M1) (M:=M2) (R:=[]) h i (Yq hi) hr' (by simp[Zm];omega) (λx hx=>hb x (by simp[hx])) (by rw[Zm];omega) (by rw[Zm];omega) λs' w hr' h=>?_;rw[yL]at h;refine zK (λq y w=>(q=1∧y=(20,())∧∃s',Rw eC zd 2 v (Ze M1++(Ze M2++[])) s'∧St w0 (ze E i s') w)∨(q=0∧y=(40,())∧∃s',Rw eC zd 2 v (Ze (M1++M2)) s'∧St w0 (ze E i s') w)) 1 (.inl ⟨rfl,rfl,s',hr',h⟩) ?_;clear hr';clear h;rintro q y w (⟨rfl,rfl,s',hr',h⟩ | ⟨rfl,rfl,s',hr',h⟩) again hag<;>dsimp only
  ·refine itT (decide_eq_true (by omega)) ?_;rw[wr (n:=2*20) (by omega) (by omega)];refine zK (λq y w'=>y=(0,2*20,())∧w'=w) 0 ⟨rfl,rfl⟩ ?_;rintro q y w' ⟨rfl,rfl⟩ again2 hag2;dsimp only;refine itF (decide_eq_false (by omega)) ?_;refine Zs (λ_ w=>∃s',Rw eC zd 2 v (Ze (M1++M2)) s'∧St w0 (ze E i s') w) (λk' hk'=>?_) ?_
   ·rw[wr (n:=0+20) (by omega) (by omega)];refine itT (decide_eq_true (by omega)) ?_
    refine OG (M1.length+M2.length) (P:=[]) (A:=Ze M1) (B:=Ze M2) (R:=[]) h i (Yq hi) hr' (by simp[Zm];omega) (by rw[Zm,Zm];omega) (List.length_pos_iff.1 (by rw[Zm];omega)) (List.length_pos_iff.1 (by rw[Zm];omega)) (qL p12.1) (qL p12.2.1)
     (λx hx y hy=>p12.2.2 x ((yO M1).mem_iff.1 hx) y ((yO M2).mem_iff.1 hy)) hb1 hb2 (by rfl) (by rw[Zm];simp;omega) (by rw[Zm,Zm];simp;omega) λS s'' w lS pS hr'' h=>?_
    rw[yL]at h;have e:S=Ze (M1++M2):=UZ lS (qL hid) ((pS.trans ((yO M1).append (yO M2))).trans (yO _).symm);subst e;exact hk' () w ⟨s'',by simpa using hr'',h⟩
   ·clear hr';rintro _ w'' ⟨s'',hr'',h⟩
    (try dsimp only)
    rw[wr (n:=20*2) (by omega) (by omega)];exact hag 0 _ w'' (by omega) (.inr ⟨rfl,rfl,s'',hr'',h⟩)
  ·refine itF (decide_eq_false (by omega)) ?_;exact⟨(),rfl,(),rfl,hk s' w hr' h⟩
def ZD(F:zj)(rev:B0)(q:Int):zj×Int×Bool:=
 if(zP F.l q).isSome then(F,0,false)else match Jn F.l rev with
 | none=>(F,0,false)
 | some x=>({ F with l:=ZE F.l x.id λp=>(zw p q).1 },x.id,true)
def qf:∀{R:List zh}{b x:Option zh},R.foldl zY b=x→(∀y,b=some y→can y=true)→∀y,x=some y→can y=true∧(y∈R∨b=some y)
 | [],b,x,h,hb,y,hy=>by subst h;exact⟨hb y hy,.inr hy⟩
 | z::R,b,x,h,hb,y,hy=>by
  rw[List.foldl_cons]at h;have hz:∀y,zY b z=some y→can y=true∧(y=z∨b=some y):=by
   intro y hy;unfold zY at hy
   cases b with
   | none=>simp only at hy;split at hy<;>simp at hy;subst hy;exact⟨by assumption,.inl rfl⟩
   | some u=>
    simp only at hy;split at hy
    ·simp at hy;subst hy;rename_i h;exact⟨h.1,.inl rfl⟩
    ·simp at hy;subst hy;exact⟨hb u rfl,.inr rfl⟩
  have:=qf h (λy hy=>(hz y hy).1) y hy;refine⟨this.1,?_⟩;rcases this.2 with h | h
  ·left;simp[h]
  ·rcases(hz y h).2 with e | e
   ·left;simp[e]
   ·right;exact e
def UJ{l:List zh}{rev:B0}{x:zh}(h:Jn l rev=some x):x∈l∧x.rev=rev∧can x=true:=by
 have:=qf h (by simp) x rfl;rcases this.2 with h2 | h2
 ·exact⟨(List.mem_filter.1 h2).1,of_decide_eq_true (List.mem_filter.1 h2).2,this.1⟩
 ·cases h2
def Vx{x:zh}(hc:can x=true){q:Int}(hq:q∉x.pod.reqs):zw x.pod q=({ x.pod with reqs:=JM q x.pod.reqs },0):=by
 have:=of_decide_eq_true hc;unfold zw;rw[if_neg (by omega),if_neg hq,if_neg (by omega)]
def KY{x:zh}(hc:¬can x=true){q:Int}(hq:q∉x.pod.reqs):(zw x.pod q).1=x.pod∧(zw x.pod q).2≠0:=by
 have:¬(x.pod.st=2∧(x.pod.reqs.length:Int)<x.pod.conc):=λh=>hc (decide_eq_true h);unfold zw;by_cases h:x.pod.st≠2
 ·rw[if_pos h];exact⟨rfl,by simp⟩
 ·rw[if_neg h,if_neg hq,if_pos (by omega)];exact⟨rfl,by simp⟩
def uM{l:List zh}(once:l.Pairwise (λx y=>∀q∈x.pod.reqs,q∉y.pod.reqs)){x:zh}(hx:x∈l){q:Int}(hq:q∈x.pod.reqs):zP l q=some x:=by
 unfold zP
 induction l with
 | nil=>simp at hx
 | cons y l ih=>
  rw[List.pairwise_cons]at once;rcases List.mem_cons.1 hx with rfl | hx
  ·rw[List.find?_cons_of_pos (by simpa using hq)]
  ·rw[List.find?_cons_of_neg (by simpa using λh=>once.1 x hx q h hq)];exact ih once.2 hx
def xF{F:zj}(ok:F.Ok)(rev:B0)(q:Int):(ZD F rev q).1.Ok:=by
 unfold ZD;split
 ·exact ok
 ·rename_i hw;split
  ·exact ok
  ·rename_i x hp;obtain⟨hx,-,hc⟩:=UJ hp;have hn:zP F.l q=none:=by cases h:zP F.l q<;>simp[h]at hw ⊢
   have ht:=Vx hc (Jm hn x hx);have hcc:=of_decide_eq_true hc;refine ok.upd (jK ok.pw hx) _ ?_ ?_
   ·rw[ht];simp only;omega
   ·rw[ht];intro q2 h2;rcases JL.1 h2 with rfl | h2
    ·exact .inr hn
    ·exact .inl h2
def oG(h:St w0 E w)(i:Nat){A B:List Tr}{t:Tr}(hi:nth E i=some ((A++t::B).map trS).flatten)(hp:Jz t.2.1 t.1.pod t.2.2)(hfew:t.1.pod.reqs.length<10000000){q:Int}{k:Int→PT}
  (hk:∀s' w',Jz t.2.1 (zw t.1.pod q).1 s'→St w0 (ze E i ((A++({ t.1 with pod:=(zw t.1.pod q).1 },t.2.1,s')::B).map trS).flatten) w'→k (zw t.1.pod q).2 w') :
  L.call Pr YD [.pointer (some ⟨t.2.1,0,none⟩),I q] (.one (.one (.int .i64))) k w:=by
 refine oJ (h.front i hi).pick 0 rfl hp hfew λs' w hp' h=>hk s' w hp' ?_;have h:St w0 (trS ({ t.1 with pod:=(zw t.1.pod q).1 },t.2.1,s')::((A++B).map trS).flatten::zQ E i) w:=h;exact St.back i hi h.place
def FlR.same{F:zj}{A B:List Tr}{t:Tr}{mA mW}(hr:FlR F (A++t::B) mA mW){s':Seg}(hp:Jz t.2.1 t.1.pod s'):FlR F (A++(t.1,t.2.1,s')::B) mA mW:=by
 refine⟨by rw[hr.l];simp,λy hy=>?_,by have:=hr.all;simp only[List.map_append,List.map_cons]at this ⊢;exact this,hr.wth⟩;rcases List.mem_append.1 hy with hy | hy
 ·exact hr.ps y (by simp[hy])
 ·rcases List.mem_cons.1 hy with rfl | hy
  ·exact hp
  ·exact hr.ps y (by simp[hy])
def FlR.getW{F:zj}{L:List Tr}{mA mW}(hr:FlR F L mA mW)(q:Int):(Zp mW q).isSome=(zP F.l q).isSome:=by rw[hr.wth];cases zP F.l q<;>rfl
def VO(h:St w0 E w)(i:Nat){b:Nat}{F:zj}{s:Seg}(hi:nth E i=some s)(hf:FlS b F s){rev:B0}{q:Int}(h20:(revs F.l rev).length≤30)(hfew:∀x∈F.l,x.pod.reqs.length<10000000){k:Int×Bool×Unit→PT}
  (hk:∀s' w',FlS b (ZD F rev q).1 s'→St w0 (ze E i s') w'→k ((ZD F rev q).2.1,(ZD F rev q).2.2,()) w') :
  L.call Pr yu [pO b,.string rev,I q] (.tup [.one (.int .i64),.one .bool]) k w:=by
 have hf0:=hf;obtain⟨ok,rA,rW,mA,mW,sA,sW,L,hA,hW,hr,rfl⟩:=hf;refine zm (XR _ _ _) ?_;unfold jS;have hll:L.length=F.l.length:=by rw[hr.l];simp
 have hcount:=ok.few;have h:St w0 (flB b rA rW F::sA::sW::(L.map trS).flatten::zQ E i) w:=(h.front i hi).eq (by simp)
 (refine nn ?_;refine ldC h ?_)
 refine MpS.get2 mkI xW zi (λx:Int=>x) (λ_=>rfl) h 2 rfl hW ?_;rw[hr.getW];refine it (λhc=>?_) (λhc=>?_)<;>(try simp only[zB]at hc)
 ·have e:ZD F rev q=(F,0,false):=by unfold ZD;rw[if_pos hc]
  rw[e]at hk;exact⟨(0,false,()),rfl,hk _ w hf0 (St.back i hi (h.eq (by simp)))⟩
 have hn:zP F.l q=none:=by cases h:zP F.l q<;>simp[h]at hc ⊢
 have hno:=Jm hn;refine nw h ?_;clear h;intro b4 w h;refine oM h λc0 c1 w h=>?_;have h:=Jw (Jw (xd (xd h)));have h:St w0 ([[Cl c1 ZH [.string rev]],[Cl c0 zy [.pointer (some ⟨b,0,none⟩)]],flB b rA rW F,sA]++[Cl b4 zI [SlV ⟨none,0,0⟩]]::[]::sW::(L.map trS).flatten::zQ E i) w:=h.eq (by simp);have hR:=hr.revs rev;have hlR:(L.filter (yJ rev)).length≤30:=by rw[hR,List.length_map]at h20;exact h20
 refine Xa (A:=[_,_,_,_]) (oD ok hA hr) h (λm G=>∃v sv,Rw eC zd 2 v (((L.filter (yJ rev)).take m).map λt=>key t.1) sv∧G = [Cl b4 zI [SlV v]]::sv::sW::(L.map trS).flatten::zQ E i) (λj G=>False) ⟨_,_,Rw.nil,rfl⟩ ?_ ?_ ?_
 ·rintro m G X w lv lp d R hm ⟨v,sv,hv,rfl⟩ h hN hE;have hx:=List.getElem?_eq_getElem hm;have h:St w0 ([Rec lv lp .busy none]::[DfM d]::[Cl c1 ZH [.string rev]]::[Cl c0 zy [.pointer (some ⟨b,0,none⟩)]]::flB b rA rW F::sA::[Cl b4 zI [SlV v]]::sv::sW::(L.map trS).flatten::(zQ E i++X)) w:=h;rw[Qp hm]
  (try dsimp only)
  have hmem:=QJ hm;have hps:=hr.ps _ hmem
  (refine dr h ?_;clear h;intro w h;refine ldC h ?_)
  refine qr h 9 rfl hmem hps ?_
  (refine ckC h ?_)
  refine nw h ?_;clear h;intro b11 w h
  (refine ckC h ?_)
  refine Rw.app Yy elC h 7 rfl hv (key (L.filter (yJ rev))[m].1) rfl (by simp;omega) (by simp;omega) λv' s' w hv h=>?_
  (dsimp only[ze,List.cons_append,List.nil_append]at h;refine stC h ?_;clear h;intro w h;dsimp only[yr,ze]at h)
  refine hN _ w ⟨v',s',?_,rfl⟩ h;rw[List.take_add_one,hx,List.map_append];exact hv
 ·rintro d G w ⟨v,sv,hv,rfl⟩ h;have h:St w0 ([DfM d]::[Cl c1 ZH [.string rev]]::[Cl c0 zy [.pointer (some ⟨b,0,none⟩)]]::flB b rA rW F::sA::[Cl b4 zI [SlV v]]::sv::sW::(L.map trS).flatten::zQ E i) w:=h;rw[List.take_length]at hv;have e:(L.filter (yJ rev)).map (λt=>key t.1)=(revs F.l rev).map key:=by rw[hR,List.map_map];rfl
  rw[e]at hv;have h:=Vj (Vi h);refine ve ?_
  (refine ldC h ?_)
  refine KH h 4 rfl hv (by rw[List.length_map];omega) (by
   rw[List.pairwise_map];exact(ok.pw.filter _).imp λhxy=>hxy) (λc hc=>by
   obtain⟨x,hx,rfl⟩:=List.mem_map.1 hc;have:=hfew x (List.mem_filter.1 hx).1;simp only[key];omega) λsv w hv h=>?_
  have hfp:=uJ (p:=λc=>((yF F.l c.2).map can).getD false) _ (R:=revs F.l rev) rfl λx hx=>by
   have:=jK ok.pw (List.mem_filter.1 hx).1;show((yF F.l x.id).map can).getD false=_;rw[this];rfl
  have hcm:∀c∈Ze ((revs F.l rev).map key),∃x∈F.l,c=key x:=λc hc=>by
   obtain⟨x,hx,rfl⟩:=List.mem_map.1 ((yO _).mem_iff.1 hc);exact⟨x,(List.mem_filter.1 hx).1,rfl⟩
  have hpk:Jn F.l rev=(revs F.l rev).foldl zY none:=rfl;rw[←hpk]at hfp;have hcl:(Ze ((revs F.l rev).map key)).length≤30:=by rw[Zm,List.length_map];exact h20
  have hlv:=Rw.len Yy hv;generalize Ze ((revs F.l rev).map key)=cs at hv hfp hcm hcl hlv
  (dsimp only[ze,List.cons_append,List.nil_append]at h;refine ldC h ?_)
  have h:St w0 ([DfM d]::flB b rA rW F::sA::[Cl b4 zI [SlV v]]::sv::sW::(L.map trS).flatten::zQ E i) w:=h
  refine zK (λp y w=>∃(j:Nat)(L:List Tr),y=((j:Int),())∧p+j=cs.length∧(∀c∈cs.take j,((yF F.l c.2).map can).getD false=false)∧FlR F L mA mW∧
   St w0 ([DfM d]::flB b rA rW F::sA::[Cl b4 zI [SlV v]]::sv::sW::(L.map trS).flatten::zQ E i) w) cs.length ⟨0,L,rfl,rfl,by simp,hr,h⟩ ?_
  clear hr hf0 hR hlR e hll;clear h;rintro p y w ⟨j,L,rfl,hp,hfn,hr,h⟩ again hag
  (try dsimp only)
  refine it (λhc=>?_) (λhc=>?_)<;>(try simp only[zB]at hc)
  ·have hj:j<cs.length:=by omega
   have hxj:cs[j]? = some cs[j]:=List.getElem?_eq_getElem hj;have hdrop:cs=cs.take j++cs[j]::cs.drop (j+1):=by rw[←List.drop_eq_getElem_cons hj,List.take_append_drop]
   obtain⟨x,hxl,hcx⟩:=hcm _ (List.getElem_mem hj);rw[hcx]at hxj hdrop;have hfx:=jK ok.pw hxl;obtain⟨A,t,B,rfl,rfl,-⟩:=hr.at hfx;have hg:=hr.get ok (t:=t) (by simp);have hps:=hr.ps t (by simp);have hqx:=hno t.1 hxl;refine Rw.ix Yy hv (by omega) (by simpa using hj) λa ha=>?_;rw[Int.toNat_natCast]at ha;refine Rw.lda Yy h 4 rfl hv ha hxj rfl ?_;refine nw h ?_;clear h;intro b22 w h
   (refine stC h ?_;clear h;intro w h;dsimp only[yr,ze]at h;refine dr h ?_;clear h;intro w h;refine nn ?_;refine ldC h ?_;refine ldC h ?_)
   refine MpS.get mkI yb zo (λx:B0×Option Addr=>(x.1,x.2,())) (λ_=>rfl) h 3 rfl hA ?_;rw[show Zp mA (key t.1).2=_ from hg];simp only[Option.map_some,Option.getD_some];refine oG h 7 rfl hps (hfew _ hxl) λs' w hps' h=>?_;by_cases hcan:can t.1=true
   ·have ht:=Vx hcan hqx;refine itT (by rw[ht];rfl) ?_;have hfd:Jn F.l rev=some t.1:=by
     have:cs.find? (λc=>((yF F.l c.2).map can).getD false)=some (key t.1):=by
      rw[hdrop,List.find?_append,List.find?_cons_of_pos (by show((yF F.l t.1.id).map can).getD false=true;rw[hfx];exact hcan)];rw[List.find?_eq_none.2 (λc hc=>by rw[hfn c hc];simp)];rfl
     rw[this]at hfp
     cases hpk:Jn F.l rev with
     | none=>rw[hpk]at hfp;cases hfp
     | some y=>
      rw[hpk]at hfp;have hid:y.id=t.1.id:=by simp only[Option.map_some,Option.some.injEq,key,Prod.mk.injEq]at hfp;exact hfp.2.symm
      have h1:=jK ok.pw (UJ hpk).1;rw[hid,hfx]at h1;exact h1.symm
    have e:ZD F rev q=({ F with l:=ZE F.l t.1.id λp=>(zw p q).1 },t.1.id,true):=by
     unfold ZD;rw[hn,hfd];rfl
    have okT:=xF ok rev q;rw[e]at hk okT;have hrq:(zw t.1.pod q).1.reqs=JM q t.1.pod.reqs:=by rw[ht]
    have hst:(zw t.1.pod q).1.st≠4:=by rw[ht];have:=of_decide_eq_true hcan;simp only;omega
    (dsimp only[ze,List.cons_append,List.nil_append]at h;refine dr h ?_;clear h;intro w h;refine nn ?_;refine ldC h ?_;refine ldC h ?_)
    refine MpS.set mkI xW h 6 rfl hW t.1.id rfl λsW' w hW' h=>?_
    (dsimp only[ze,List.cons_append,List.nil_append]at h;refine ldC h ?_)
    (first | refine VZ h ?_ | refine VY h ?_ | refine VX h ?_ | refine VW h ?_ | refine VV h ?_ | refine VU h ?_ | refine VT h ?_ | refine VS h ?_ | refine VR h ?_ | refine VQ h ?_ | refine ur h ?_ | refine uq h ?_);clear h;intro w h
    refine⟨(t.1.id,true,()),rfl,hk _ w ⟨okT,rA,rW,mA,_,sA,sW',_,hA,hW',hr.upd ok (λp=>(zw p q).1) hps' hst λq'=>?_,rfl⟩ ?_⟩
    ·rw[ux,ok.where_upd hfx _ (λq2 h2=>by
      rw[hrq]at h2;rcases JL.1 h2 with rfl | h2
      ·exact .inr hn
      ·exact .inl h2) (λh4=>absurd h4 hst),hrq]
     by_cases eq:q=q'
     ·subst eq;rw[if_pos rfl,if_pos (JL.2 (.inl rfl))]
     ·rw[if_neg eq];by_cases hq2:q'∈t.1.pod.reqs
      ·rw[if_pos (JL.2 (.inr hq2)),hr.wth,uM ok.once hxl hq2];rfl
      ·rw[if_neg (λhh=>(JL.1 hh).elim (λe=>eq e.symm) hq2),if_neg hq2,hr.wth]
    ·refine St.back i hi ?_
     (try dsimp only[ze]at h)
     have h:=xf (Ku (ky h));exact h.eq (by simp)
   ·have ht:=KY hcan hqx;refine itF (by simpa using ht.2) ?_;rw[ht.1]at hps';have h:=xf h;refine hag (p-1) _ w (by omega) ⟨j+1,A++(t.1,t.2.1,s')::B,?_,by omega,?_,hr.same hps',?_⟩
    ·rw[wr (by omega) (by omega)];simp
    ·intro c hc;rw[List.take_add_one,hxj]at hc;rcases List.mem_append.1 hc with hc | hc
     ·exact hfn c hc
     ·simp at hc;subst hc;show((yF F.l t.1.id).map can).getD false=false;rw[hfx];simpa using hcan
    ·have h:St w0 ([DfM d]::flB b rA rW F::sA::[Cl b4 zI [SlV v]]::sv::sW::((A++({ t.1 with pod:=(zw t.1.pod q).1 },t.2.1,s')::B).map trS).flatten::zQ E i) w:=h;rw[ht.1]at h;exact h
  ·have hj:j=cs.length:=by omega
   subst hj;rw[List.take_length]at hfn;have hfd:Jn F.l rev=none:=by
    rw[List.find?_eq_none.2 (λc hc=>by rw[hfn c hc];simp)]at hfp
    cases hpk:Jn F.l rev with
    | none=>rfl
    | some y=>rw[hpk]at hfp;cases hfp
   have e:ZD F rev q=(F,0,false):=by unfold ZD;rw[hn,hfd];rfl
   rw[e]at hk
   (first | refine VZ h ?_ | refine VY h ?_ | refine VX h ?_ | refine VW h ?_ | refine VV h ?_ | refine VU h ?_ | refine VT h ?_ | refine VS h ?_ | refine VR h ?_ | refine VQ h ?_ | refine ur h ?_ | refine uq h ?_);clear h;intro w h
   refine⟨(0,false,()),rfl,hk _ w ⟨ok,rA,rW,mA,mW,sA,sW,L,hA,hW,hr,rfl⟩ (St.back i hi ?_)⟩;have h:=Vi (Ku h);exact h.eq (by simp)
 ·rintro d j G w hf;exact hf.elim
def xG(F:zj)(q:Int):zj×B0×Int:=match zP F.l q with
 | none=>(F,s_,6)
 | some x=>({ F with l:=ZE F.l x.id λp=>(Zr p q).1 },x.rev,0)
def xE{l:List zh}{q:Int}{x:zh}(h:zP l q=some x):x∈l∧q∈x.pod.reqs:=⟨List.mem_of_find?_eq_some h,by simpa using List.find?_some h⟩
def VF{p:Zl}{q:Int}(h:q∈p.reqs):Zr p q=({ p with reqs:=p.reqs.erase q,st:=if p.st=3∧p.reqs.erase q = []then 4 else p.st },0):=by
 unfold Zr;rw[if_pos h]
def oH(h:St w0 E w)(i:Nat){A B:List Tr}{t:Tr}(hi:nth E i=some ((A++t::B).map trS).flatten)(hp:Jz t.2.1 t.1.pod t.2.2){q:Int}{k:Int→PT}
  (hk:∀s' w',Jz t.2.1 (Zr t.1.pod q).1 s'→St w0 (ze E i ((A++({ t.1 with pod:=(Zr t.1.pod q).1 },t.2.1,s')::B).map trS).flatten) w'→k (Zr t.1.pod q).2 w') :
  L.call Pr YE [.pointer (some ⟨t.2.1,0,none⟩),I q] (.one (.one (.int .i64))) k w:=by
 refine oL (h.front i hi).pick 0 rfl hp λs' w hp' h=>hk s' w hp' ?_;have h:St w0 (trS ({ t.1 with pod:=(Zr t.1.pod q).1 },t.2.1,s')::((A++B).map trS).flatten::zQ E i) w:=h;exact St.back i hi h.place
def oP(h:St w0 E w)(i:Nat){b:Nat}{F:zj}{s:Seg}(hi:nth E i=some s)(hf:FlS b F s){q:Int}{k:B0×Int×Unit→PT}
  (hk:∀s' w',FlS b (xG F q).1 s'→St w0 (ze E i s') w'→k ((xG F q).2.1,(xG F q).2.2,()) w') :
  L.call Pr Yu [pO b,I q] (.tup [.one .str,.one (.int .i64)]) k w:=by
 have hf0:=hf;obtain⟨ok,rA,rW,mA,mW,sA,sW,L,hA,hW,hr,rfl⟩:=hf;refine zm (XU _ _) ?_;unfold jV;have h:St w0 (flB b rA rW F::sA::sW::(L.map trS).flatten::zQ E i) w:=(h.front i hi).eq (by simp)
 (refine nn ?_;refine ldC h ?_)
 refine MpS.get2 mkI xW zi (λx:Int=>x) (λ_=>rfl) h 2 rfl hW ?_;have hwt:=hr.wth q
 cases hfw:zP F.l q with
 | none=>
  rw[hfw]at hwt;rw[hwt];have e:xG F q=(F,s_,6):=by unfold xG;rw[hfw]
  rw[e]at hk;refine itT rfl ?_;exact⟨(s_,6,()),rfl,hk _ w hf0 (St.back i hi (h.eq (by simp)))⟩
 | some x=>
  rw[hfw]at hwt;rw[hwt];refine itF rfl ?_;obtain⟨hxl,hqx⟩:=xE hfw;have hfx:=jK ok.pw hxl;have e:xG F q=({ F with l:=ZE F.l x.id λp=>(Zr p q).1 },x.rev,0):=by unfold xG;rw[hfw]
  rw[e]at hk;obtain⟨A,t,B,rfl,rfl,-⟩:=hr.at hfx;have hg:=hr.get ok (t:=t) (by simp);have hps:=hr.ps t (by simp);simp only[Option.map_some,Option.getD_some]
  (refine nn ?_;refine ldC h ?_)
  refine MpS.get mkI yb zo (λx:B0×Option Addr=>(x.1,x.2,())) (λ_=>rfl) h 1 rfl hA ?_;rw[hg];simp only[Option.map_some,Option.getD_some];refine nw h ?_;clear h;intro b7 w h
  (refine stC h ?_;clear h;intro w h;dsimp only[yr,ze]at h;refine ldC h ?_)
  refine oH h 4 rfl hps λs' w hps' h=>?_
  (try dsimp only[ze]at h)
  (refine nn ?_;refine ldC h ?_)
  refine MpS.del mkI xW h 3 rfl hW λsW' w hW' h=>?_
  (try dsimp only[ze]at h)
  have hgv:=VF hqx;have hlv:=ok.live t.1 hxl;have hnd:t.1.pod.reqs.Nodup:=hps.1.pw.imp λh=>by omega
  have hrq:(Zr t.1.pod q).1.reqs=t.1.pod.reqs.erase q:=by rw[hgv]
  have hq2:∀q2∈(Zr t.1.pod q).1.reqs,q2∈t.1.pod.reqs∨zP F.l q2=none:=λq2 h2=>.inl (by rw[hrq]at h2;exact List.mem_of_mem_erase h2);have h4:(Zr t.1.pod q).1.st=4→(Zr t.1.pod q).1.reqs = []:=by
   rw[hgv];simp only;split
   ·rename_i h;exact λ_=>h.2
   ·intro h;omega
  have okG:=ok.upd hfx (λp=>(Zr p q).1) (by rw[hgv];simp only;split<;>omega) hq2;have hwth:∀q',Zp (jY mW q) q'=(zP (ZE F.l t.1.id λp=>(Zr p q).1) q').map (·.id):=λq'=>by
   rw[uy _ _ hW.nd,ok.where_upd hfx _ hq2 h4,hrq];by_cases eq:q=q'
   ·subst eq;rw[if_pos rfl,if_neg (by rw[List.Nodup.mem_erase_iff hnd];simp),if_pos hqx]
   ·rw[if_neg eq];by_cases h2:q'∈t.1.pod.reqs
    ·rw[if_pos ((List.Nodup.mem_erase_iff hnd).2 ⟨λe=>eq e.symm,h2⟩),hr.wth,uM ok.once hxl h2];rfl
    ·rw[if_neg (λhh=>h2 (List.mem_of_mem_erase hh)),if_neg h2,hr.wth]
  have h:=xd (xd (xd (xd h)));refine KN (t:=({ t.1 with pod:=(Zr t.1.pod q).1 },t.2.1,s')) h hA hg hps' (λh4'=>?_) λh4' sA' w hA' h=>?_
  ·(refine ldC h ?_)
   refine⟨(t.1.rev,0,()),rfl,hk _ w ⟨okG,rA,rW,mA,_,sA,sW',_,hA,hW',hr.upd ok (λp=>(Zr p q).1) hps' h4' hwth,rfl⟩ (St.back i hi ?_)⟩;have h:=ky h;exact h.eq (by simp)
  ·(refine ldC h ?_)
   refine⟨(t.1.rev,0,()),rfl,hk _ w ⟨okG,rA,rW,_,_,sA',sW',_,hA',hW',hr.del ok (λp=>(Zr p q).1) h4' hwth,rfl⟩ (St.back i hi ?_)⟩;have h:=ky h;exact h.eq (by simp)
def vi(F:zj)(rev:B0)(want:Int):(ZG F rev want:Int)=max 0 (min (want-zt F.l rev) (F.room-F.l.length)):=by unfold ZG;omega
def vH(F:zj)(rev:B0)(want:Int):(yq F rev want:Int)=max 0 ((zt F.l rev:Int)-max want 0):=by unfold yq;omega
def XH(F:zj)(id:Int):zj×Int:=match yF F.l id with
 | none=>(F,6)
 | some x=>({ F with l:=ZE F.l id λp=>(Zu p).1 },(Zu x.pod).2)
def KO(h:St w0 E w)(i:Nat){b:Nat}{F:zj}{s:Seg}(hi:nth E i=some s)(hf:FlS b F s){id:Int}{k:Int→PT}
  (hk:∀s' w',FlS b (XH F id).1 s'→St w0 (ze E i s') w'→k (XH F id).2 w') :
  L.call Pr ZQ [pO b,I id] (.one (.one (.int .i64))) k w:=by
 refine Oc h i hi hf (λhn w h=>?_) (λx hx s' w hf h=>?_)
 ·have e:XH F id=(F,6):=by unfold XH;rw[hn]
  rw[e]at hk;exact hk s w hf (by rwa [ZB hi])
 ·have e:XH F id=({ F with l:=ZE F.l id λp=>(Zu p).1 },(Zu x.pod).2):=by unfold XH;rw[hx]
  rw[e]at hk;exact hk s' w hf h
def ow{F:zj}(ok:F.Ok)(q:Int):(xG F q).1.Ok:=by
 unfold xG;split
 ·exact ok
 ·rename_i x hw;obtain⟨hx,hq⟩:=xE hw;have hgv:=VF hq;have:=ok.live x hx;refine ok.upd (jK ok.pw hx) _ ?_ ?_
  ·rw[hgv];simp only;split<;>omega
  ·rw[hgv];exact λq2 h2=>.inl (List.mem_of_mem_erase h2)
def FlS.nd{b:Nat}{F:zj}{s:Seg}(hf:FlS b F s):∀x∈F.l,x.pod.reqs.Pairwise (· < ·):=by
 obtain⟨-,_,_,_,_,_,_,L,-,-,hr,-⟩:=hf;intro x hx;rw[hr.l]at hx;obtain⟨t,ht,rfl⟩:=List.mem_map.1 hx;exact(hr.ps t ht).1.pw
end Go.Proofs.Ytofigcbhafkikaa
namespace Go.Dm
class Tab(P:Program)(w:World):Prop where
 is : Lib.TabIs P w "internal/strconv.uint64pow10" .u64 Lib.pow10Tab
section
variable {w0 w:World}{E:List Seg}{P:Program}
end
section
variable {w0 w w':World}{E:List Seg}{P:Program}
def Rw.cka{α:Type}{enc:α→List Value}{e size:Nat}{v:Sl}{l:List α}{s:Seg}(hE:Enc enc size)(h:St w0 E w)(k:Nat)(hi:nth E k=some s)(hr:Rw enc e size v l s){i:Nat}{a:Addr}(ha:ElA v size i a){x:α}(hx:l[i]? = some x){cs:List Value}(hc:enc x=cs){kk:PT}(hk:kk w):L.chk a cs kk w:=by
 subst hc;obtain⟨a0,hv,rfl⟩:=ha;refine⟨λj c hc=>?_,hk⟩;rw[Jp];exact hr.cell h k hi hv (XG hE hx hc)
end
end Go.Dm
namespace Go.Proofs.Ytofigcbhafkikaa
open Go.Dm
attribute [local irreducible] L.load L.store L.chk L.new L.nonnil L.guard L.ite L.draw L.idx L.sem L.semR L.semU L.chkSem L.next L.call L.callV L.join L.alts L.loop L.begin L.endRound L.range
variable {w0 w:World}{E:List Seg}
abbrev xhB(b:Nat)(x:zh)(pb:Nat):Seg:=[Cl b jO [I x.id,.string x.rev,.pointer (some ⟨pb,0,none⟩)]]
def XHd(b:Nat)(x:zh)(s:Seg):Prop:=∃pb sp,xL pb x.pod sp∧s=xhB b x pb++sp
abbrev xfB(b:Nat)(room last:Int)(v:Sl):Seg:=[Cl b jh [I room,I last,SlV v]]
structure XQ(v:Sl)(sr:Seg)(Q:List (Ob zh))(l:List zh):Prop where
 r:Rw eP Zh 1 v (obB Q) sr
 o:∀o∈Q,XHd o.b o.x o.sg
 x:obX Q=l
 n:Q.length<100000000
def XFl(b:Nat)(F:zj)(s:Seg):Prop:=F.Ok∧∃v sr Q,XQ v sr Q F.l∧s=xfB b F.room F.last v++(sr++obS Q)
section
variable {b:Nat}{room last:Int}{v:Sl}{sr:Seg}{Q:List (Ob zh)}{l:List zh}
def XQ.len(X:XQ v sr Q l):v.len=l.length:=by
 have:=Rw.len Qf X.r;rw[List.length_map]at this;rw[this,←X.x,List.length_map]
def XQ.ql(X:XQ v sr Q l):Q.length=l.length:=by rw[←X.x,List.length_map]
def XQ.get(X:XQ v sr Q l){j:Nat}(hj:j<l.length):∃o,Q[j]? = some o∧l[j]? = some o.x∧XHd o.b o.x o.sg:=by
 have hq:j<Q.length:=by rw[X.ql];exact hj
 have ho:=List.getElem?_eq_getElem hq;exact⟨Q[j],ho,by rw[←X.x];exact gv ho,X.o _ (List.getElem_mem hq)⟩
def XQ.set(X:XQ v sr Q l){j:Nat}{o:Ob zh}(ho:Q[j]? = some o){x:zh}{s:Seg}(hx:XHd o.b x s):XQ v sr (Q.set j ⟨o.b,x,s⟩) (l.set j x):=by
 refine⟨by rw[Kk ho];exact X.r,λp hp=>?_,by rw[oq,X.x],by rw[List.length_set];exact X.n⟩;rcases vT hp with rfl | hp
 ·exact hx
 ·exact X.o p hp
def KF(X:XQ v sr Q l)(h:St w0 (xfB b room last v::sr::obS Q::E) w){id:Int}{k:Option Addr→PT}
  (no:yF l id=none→∀w',St w0 (xfB b room last v::sr::obS Q::E) w'→k none w')
  (yes:∀(j:Nat)(o:Ob zh),Q[j]? = some o→l[j]? = some o.x→yF l id=some o.x→∀w',St w0 (xfB b room last v::sr::obS Q::E) w'→k (some ⟨o.b,0,none⟩) w') :
  L.call Pr yh [pO b,I id] (.one (.one .ptr)) k w:=by
 refine zm (JB _ _) ?_;unfold Yi;have hlen:=X.len;have hql:=X.ql;have hn:=X.n;refine zK (λq y w=>∃j:Nat,y=((j:Int),())∧q+j=l.length∧(l.take j).find? (λx=>decide (x.id=id))=none∧St w0 (xfB b room last v::sr::obS Q::E) w) l.length ⟨0,rfl,rfl,rfl,h⟩ ?_;clear h;rintro q y w ⟨j,rfl,hq,hf,h⟩ again hag
 (try dsimp only)
 (refine nn ?_;refine ldC h ?_)
 refine it (λhb=>?_) (λhb=>?_)<;>(try simp only[zB]at hb)
 ·obtain⟨o,ho,hl,pb,sp,hp,hx⟩:=X.get (show j<l.length by omega);have h:=h.op3 ho hx
  (refine nn ?_;refine ldC h ?_)
  refine Rw.ptr h 4 rfl X.r (by omega) (by rw[Int.toNat_natCast];exact ho) ?_
  (refine nn ?_;refine ldC h ?_)
  refine it (λhc=>?_) (λhc=>?_)
  ·have hc:o.x.id=id:=by simpa using hc
   (refine nn ?_;refine ldC h ?_)
   refine Rw.ptr h 4 rfl X.r (by omega) (by rw[Int.toNat_natCast];exact ho) ?_;refine⟨_,rfl,yes j o ho hl ?_ w (h.cl3 ho hx)⟩;unfold yF;have hdr:l=l.take j++o.x::l.drop (j+1):=by
    obtain⟨hj,e⟩:=List.getElem?_eq_some_iff.1 hl;rw[←e,←List.drop_eq_getElem_cons hj,List.take_append_drop]
   rw[hdr,List.find?_append,hf];simp[hc]
  ·have hc:¬o.x.id=id:=by simpa using hc
   have h:=h.cl3 ho hx;rw[wr (by omega) (by omega)];refine hag (q-1) _ w (by omega) ⟨j+1,by simp,by omega,?_,h⟩;rw[List.take_add_one,hl,List.find?_append,hf];simp[hc]
 ·rw[List.take_of_length_le (by omega)]at hf;exact⟨_,rfl,no hf w h⟩
def kD(X:XQ v sr Q l)(h:St w0 (xfB b room last v::sr::obS Q::E) w){id:Int}{k:Option Addr→PT}
  (no:zP l id=none→∀w',St w0 (xfB b room last v::sr::obS Q::E) w'→k none w')
  (yes:∀(j:Nat)(o:Ob zh),Q[j]? = some o→l[j]? = some o.x→zP l id=some o.x→∀w',St w0 (xfB b room last v::sr::obS Q::E) w'→k (some ⟨o.b,0,none⟩) w') :
  L.call Pr ZX [pO b,I id] (.one (.one .ptr)) k w:=by
 refine zm (jZ _ _) ?_;unfold yX;have hlen:=X.len;have hql:=X.ql;have hn:=X.n;refine zK (λq y w=>∃j:Nat,y=((j:Int),())∧q+j=l.length∧(l.take j).find? (λx=>decide (id∈x.pod.reqs))=none∧St w0 (xfB b room last v::sr::obS Q::E) w) l.length ⟨0,rfl,rfl,rfl,h⟩ ?_;clear h;rintro q y w ⟨j,rfl,hq,hf,h⟩ again hag
 (try dsimp only)
 (refine nn ?_;refine ldC h ?_)
 refine it (λhb=>?_) (λhb=>?_)<;>(try simp only[zB]at hb)
 ·obtain⟨o,ho,hl,pb,sp,hp,hx⟩:=X.get (show j<l.length by omega);have h:=h.op3 ho hx
  (refine nn ?_;refine ldC h ?_)
  refine Rw.ptr h 4 rfl X.r (by omega) (by rw[Int.toNat_natCast];exact ho) ?_
  (refine nn ?_;refine ldC h ?_)
  refine VN h 1 rfl hp λw h=>?_;refine it (λhc=>?_) (λhc=>?_)
  ·have hc:id∈o.x.pod.reqs:=by simpa using hc
   (refine nn ?_;refine ldC h ?_)
   refine Rw.ptr h 4 rfl X.r (by omega) (by rw[Int.toNat_natCast];exact ho) ?_;refine⟨_,rfl,yes j o ho hl ?_ w (h.cl3 ho hx)⟩;unfold zP;have hdr:l=l.take j++o.x::l.drop (j+1):=by
    obtain⟨hj,e⟩:=List.getElem?_eq_some_iff.1 hl;rw[←e,←List.drop_eq_getElem_cons hj,List.take_append_drop]
   rw[hdr,List.find?_append,hf];simp[hc]
  ·have hc:¬id∈o.x.pod.reqs:=by simpa using hc
   have h:=h.cl3 ho hx;rw[wr (by omega) (by omega)];refine hag (q-1) _ w (by omega) ⟨j+1,by simp,by omega,?_,h⟩;rw[List.take_add_one,hl,List.find?_append,hf];simp[hc]
 ·rw[List.take_of_length_le (by omega)]at hf;exact⟨_,rfl,no hf w h⟩
end
def oF(h:St w0 E w){room:Int}{k:Option Addr→PT}(hk:∀b s w',XFl b ⟨room,0,[]⟩ s→St w0 (s::E) w'→k (some ⟨b,0,none⟩) w'):L.call Pr YF [I room] (.one (.one .ptr)) k w:=by
 refine zm (qv _) ?_;unfold Js;refine nw h ?_;clear h;intro b w h;refine⟨_,rfl,hk b _ w ⟨⟨List.Pairwise.nil,by simp,by simp,List.Pairwise.nil,by simp,Int.le_refl 0,(by dsimp only;omega)⟩,⟨none,0,0⟩,[],[],⟨Rw.nil,by simp,rfl,by simp⟩,rfl⟩ (h.eq (by simp))⟩
def Vz{F:zj}(ok:F.Ok){j:Nat}{x:zh}(hx:F.l[j]? = some x){g:Zl→Zl}(hg:(g x.pod).st≠4):F.l.set j { x with pod:=g x.pod } = ZE F.l x.id g:=by
 have h:=ok.pw;generalize F.l=l at *
 unfold ZE
 induction l generalizing j with
 | nil=>simp at hx
 | cons z l ih=>
  rw[List.pairwise_cons]at h
  cases j with
  | zero=>
   simp only[List.getElem?_cons_zero,Option.some.injEq]at hx;subst hx;rw[List.set_cons_zero,List.filterMap_cons];simp only[if_true,if_neg hg]
   congr 1
   have:∀y∈l,¬y.id=z.id:=λy hy e=>by have:=h.1 y hy;omega
   clear h ih
   induction l with
   | nil=>rfl
   | cons y l ih=>
    rw[List.filterMap_cons,if_neg (this y (List.mem_cons_self ..)),←ih λq hq=>this q (List.mem_cons_of_mem _ hq)]
  | succ j=>
   simp only[List.getElem?_cons_succ]at hx;have hne:¬z.id=x.id:=by have:=h.1 x (List.mem_of_getElem? hx);omega
   rw[List.set_cons_succ,List.filterMap_cons,if_neg hne];simp only;rw[ih hx h.2]
def Vu{F:zj}(ok:F.Ok)(id:Int):(XH F id).1.Ok:=by
 unfold XH;split
 ·exact ok
 ·rename_i x hx;refine ok.upd hx _ ?_ λq hq=>.inl (by unfold Zu at hq;split at hq<;>exact hq);have:=ok.live x (yj hx).1;unfold Zu;split
  ·dsimp only;omega
  ·exact .inr (.inl rfl)
def OD(h:St w0 E w)(i:Nat){b:Nat}{F:zj}{s:Seg}(hi:nth E i=some s)(hf:XFl b F s){id:Int}{k:Int→PT}(hk:∀s' w',XFl b (XH F id).1 s'→St w0 (ze E i s') w'→k (XH F id).2 w') :
  L.call Pr yy [pO b,I id] (.one (.one (.int .i64))) k w:=by
 have hf0:=hf;obtain⟨ok,v,sr,Q,X,rfl⟩:=hf;refine zm (xk _ _) ?_;unfold YK;have h:=(h.front i hi).split3;unfold XH at hk;refine KF X h (λhn w h=>?_) λj o ho hl hs w h=>?_
 ·rw[hn]at hk;refine itT rfl ⟨6,rfl,hk _ w hf0 (St.back i hi h.glue3)⟩
 ·rw[hs]at hk;obtain⟨pb,sp,hp,hx⟩:=X.o o (List.mem_of_getElem? ho);refine itF rfl ?_;have h:=h.op3 ho hx
  (refine nn ?_;refine ldC h ?_)
  refine OC h 1 rfl hp λsp' w hp' h=>?_;dsimp only[ze]at h;have hid:o.x.id=id:=(yj hs).2;have hlive:=ok.live o.x (yj hs).1;have hne:(Zu o.x.pod).1.st≠4:=by
   unfold Zu;split
   ·dsimp only;omega
   ·dsimp only;decide
  have X':=X.set ho (x:={ o.x with pod:=(Zu o.x.pod).1 }) (s:=xhB o.b o.x pb++sp') ⟨pb,sp',hp',rfl⟩;rw[Vz ok hl (g:=λp=>(Zu p).1) hne,hid]at X';refine⟨_,rfl,hk _ w ⟨?_,v,sr,_,X',rfl⟩ (St.back i hi (St.glue3 (St.st3 ho ⟨o.b,{ o.x with pod:=(Zu o.x.pod).1 },xhB o.b o.x pb++sp'⟩ rfl h)))⟩;have:=Vu ok id;unfold XH at this;rw[hs]at this;exact this
end Go.Proofs.Ytofigcbhafkikaa
namespace Go.Proofs.Ytofigcbhafkikaa
open Go.Dm
attribute [local irreducible] L.load L.store L.chk L.new L.nonnil L.guard L.ite L.draw L.idx L.sem L.semR L.semU L.chkSem L.next L.call L.callV L.join L.alts L.loop L.begin L.endRound L.range
variable {w0 w:World}{E:List Seg}
def gx:El Pr ye Zt 3 24 (.agg #[I 0,I 0,I 0]):=vl (by kernel_rfl) (by kernel_rfl) rfl (by decide)
def gh:El Pr zS Zh 1 8 (.pointer none):=vl (by kernel_rfl) (by kernel_rfl) rfl (by decide)
section
variable {b:Nat}{room last:Int}{v:Sl}{sr:Seg}{Q:List (Ob zh)}{l:List zh}
def qy{l:List zh}{rev:B0}{j:Nat}{x:zh}(h:l[j]? = some x):revs (l.take (j+1)) rev=revs (l.take j) rev++if x.rev=rev then [x]else []:=by
 unfold revs;rw[List.take_add_one,h,Option.toList_some,List.filter_append]
 congr 1
 split
 ·rename_i e;simp[e]
 ·rename_i e;simp[e]
def uP(X:XQ v sr Q l)(h:St w0 (xfB b room last v::sr::obS Q::E) w){rev:B0}{k:Sl→PT}
  (hk:∀v' s' w',Rw eK Zt 3 v' (jJ l rev) s'→St w0 (xfB b room last v::sr::obS Q::s'::E) w'→k v' w') :
  L.call Pr Zb [pO b,.string rev] (.one (.one .slice)) k w:=by
 refine zm (JD _ _) ?_;unfold Yk;have hlen:=X.len;have hql:=X.ql;have hn:=X.n;have h:St w0 (xfB b room last v::sr::obS Q::[]::E) w:=h.eq (by simp);refine zK (λq y w=>∃(j:Nat)(vo:Sl)(so:Seg),y=(vo,(j:Int),())∧q+j=l.length∧Rw eK Zt 3 vo ((revs (l.take j) rev).map xC) so∧St w0 (xfB b room last v::sr::obS Q::so::E) w) l.length ⟨0,⟨none,0,0⟩,[],rfl,rfl,Rw.nil,h⟩ ?_;clear h;rintro q y w ⟨j,vo,so,rfl,hq,ro,h⟩ again hag
 (try dsimp only)
 (refine nn ?_;refine ldC h ?_)
 refine it (λhb=>?_) (λhb=>?_)<;>(try simp only[zB]at hb)
 ·obtain⟨o,ho,hl,pb,sp,hp,hx⟩:=X.get (show j<l.length by omega);have erv:=qy (rev:=rev) hl;have hol:((revs (l.take j) rev).map xC).length≤j:=by
   rw[List.length_map];have:(revs (l.take j) rev).length≤(l.take j).length:=List.length_filter_le ..;rw[List.length_take]at this;omega
  refine Zs (λ(z:Sl×Unit) w=>∃so',Rw eK Zt 3 z.1 ((revs (l.take (j+1)) rev).map xC) so'∧St w0 (xfB b room last v::sr::obS Q::so'::E) w) (λk5 hk5=>?_) ?_
  ·have h:=h.op3 ho hx
   (refine nn ?_;refine ldC h ?_)
   refine Rw.ptr h 4 rfl X.r (by omega) (by rw[Int.toNat_natCast];exact ho) ?_
   (refine nn ?_;refine ldC h ?_)
   rw[Qu];refine it (λhc=>?_) (λhc=>?_)
   ·have hc:o.x.rev=rev:=by simpa using hc
    rw[if_pos hc]at erv;have hb0:(obB Q)[j]? = some o.b:=ga ho;have hjq:j<(obB Q).length:=by rw[List.length_map];omega
    (refine dr h ?_;clear h;intro w h;refine nn ?_;refine ldC h ?_)
    refine Rw.ix Qf X.r (n:=(j:Int)) (by omega) (by rw[Int.toNat_natCast];exact hjq) λa15 ha15=>?_;rw[Int.toNat_natCast]at ha15;refine Rw.ld0 Qf h 4 rfl X.r ha15 hb0 rfl rfl ?_
    (refine nn ?_;refine ldC h ?_;refine nn ?_;refine ldC h ?_)
    refine Rw.ptr h 4 rfl X.r (by omega) (by rw[Int.toNat_natCast];exact ho) ?_
    (refine nn ?_;refine ldC h ?_;refine nn ?_;refine ldC h ?_)
    refine Rw.ix Qf X.r (n:=(j:Int)) (by omega) (by rw[Int.toNat_natCast];exact hjq) λa27 ha27=>?_;rw[Int.toNat_natCast]at ha27;refine Rw.ld0 Qf h 4 rfl X.r ha27 hb0 rfl rfl ?_
    (refine nn ?_;refine ldC h ?_)
    refine jA h 1 rfl hp ?_
    (refine ckC h ?_)
    refine Rw.cka Qf h 4 rfl X.r ha27 hb0 rfl ?_
    (refine ckC h ?_;refine ckC h ?_)
    refine Rw.cka Qf h 4 rfl X.r ha15 hb0 rfl ?_
    (refine ckC h ?_)
    refine JP h 1 rfl hp ?_
    (refine ckC h ?_)
    refine Rw.cka Qf h 4 rfl X.r ha15 hb0 rfl ?_
    (refine ckC h ?_)
    refine nw h ?_;clear h;intro b33 w h;refine Rw.app JN gx h 5 rfl ro (xC o.x) rfl (by omega) (by omega) λv' s' w ro' h=>?_;dsimp only[ze]at h;have e:(revs (l.take j) rev).map xC++[xC o.x]=(revs (l.take (j+1)) rev).map xC:=by rw[erv,List.map_append];rfl
    rw[e]at ro';exact hk5 _ w ⟨s',ro',h.cl3 ho hx⟩
   ·have hc:¬o.x.rev=rev:=by simpa using hc
    rw[if_neg hc,List.append_nil]at erv;rw[erv]at hk5;exact hk5 _ w ⟨so,ro,h.cl3 ho hx⟩
  ·clear h ro;rintro⟨z,⟨⟩⟩ w ⟨so',ro,h⟩
   (try dsimp only)
   refine hag (q-1) _ w (by omega) ⟨j+1,z,so',?_,by omega,ro,h⟩;have e3:Wi ((j:Int)+1)=((j+1:Nat):Int):=by rw[wr (by omega) (by omega)];omega
   rw[e3]
 ·rw[List.take_of_length_le (by omega)]at ro;exact⟨_,rfl,hk vo so w ro h⟩
def Vs(X:XQ v sr Q l)(h:St w0 (xfB b room last v::sr::obS Q::E) w){rev:B0}{s1 s2:Int}{k:Int→PT}
  (hk:∀w',St w0 (xfB b room last v::sr::obS Q::E) w'→k (((revs l rev).filter λx=>decide (x.pod.st=s1)||decide (x.pod.st=s2)).length:Int) w') :
  L.call Pr ya [pO b,.string rev,I s1,I s2] (.one (.one (.int .i64))) k w:=by
 refine zm (Jc _ _ _ _) ?_;unfold Ya;refine uP X h λvp sp w rp h=>?_;have hlen:=Rw.len JN rp;have hfl:(jJ l rev).length=(revs l rev).length:=List.length_map ..;have hn:=X.n;have hql:=X.ql;have hle:(revs l rev).length≤l.length:=List.length_filter_le ..;generalize hR:revs l rev=R at *
 refine zK (λq y w=>∃j:Nat,y=((((R.take j).filter λx=>decide (x.pod.st=s1)||decide (x.pod.st=s2)).length:Int),(j:Int),())∧q+j=R.length∧St w0 (xfB b room last v::sr::obS Q::sp::E) w) R.length ⟨0,rfl,rfl,h⟩ ?_;clear h;rintro q y w ⟨j,rfl,hq,h⟩ again hag
 (try dsimp only)
 refine it (λhb=>?_) (λhb=>?_)<;>(try simp only[zB]at hb)
 ·have hj:j<R.length:=by omega
  have hx:R[j]? = some R[j]:=List.getElem?_eq_getElem hj;generalize R[j]=x at hx;have hpx:(jJ l rev)[j]? = some (xC x):=by unfold jJ;rw[hR,List.getElem?_map,hx];rfl
  have hc0:(R.take (j+1)).filter (λx=>decide (x.pod.st=s1)||decide (x.pod.st=s2))=(R.take j).filter (λx=>decide (x.pod.st=s1)||decide (x.pod.st=s2))++if x.pod.st=s1∨x.pod.st=s2 then [x]else []:=by
   rw[List.take_add_one,hx,Option.toList_some,List.filter_append]
   congr 1
   split
   ·rename_i e;rcases e with e | e<;>simp[e]
   ·rename_i e;have h1:¬x.pod.st=s1:=λh=>e (.inl h);have h2:¬x.pod.st=s2:=λh=>e (.inr h);simp[h1,h2]
  have hcl:((R.take j).filter λx=>decide (x.pod.st=s1)||decide (x.pod.st=s2)).length≤j:=by
   refine Nat.le_trans (List.length_filter_le ..) ?_;rw[List.length_take];omega
  refine Zs (λ(z:Int×Unit) w=>z=((((R.take (j+1)).filter λx=>decide (x.pod.st=s1)||decide (x.pod.st=s2)).length:Int),())∧St w0 (xfB b room last v::sr::obS Q::sp::E) w) (λk4 hk4=>?_) ?_
  ·rw[hc0]at hk4;have go:∀{w},St w0 (xfB b room last v::sr::obS Q::sp::E) w→x.pod.st=s1∨x.pod.st=s2→k4 (Wi ((((R.take j).filter λx=>decide (x.pod.st=s1)||decide (x.pod.st=s2)).length:Int)+1),()) w:=by
    intro w h e;rw[if_pos e]at hk4;refine hk4 _ w ⟨?_,h⟩;rw[wr (by omega) (by omega),List.length_append];rfl
   refine Rw.ix JN rp (n:=(j:Int)) (by omega) (by rw[Int.toNat_natCast,hfl];exact hj) λa ha=>?_;rw[Int.toNat_natCast]at ha;refine Rw.ld JN h 3 rfl rp ha hpx (f:=1) (y:=x.pod.st) rfl rfl ?_;refine it (λhc=>?_) (λhc=>?_)
   ·exact go h (.inl (by simpa using hc))
   ·refine Rw.ix JN rp (n:=(j:Int)) (by omega) (by rw[Int.toNat_natCast,hfl];exact hj) λa ha=>?_;rw[Int.toNat_natCast]at ha;refine Rw.ld JN h 3 rfl rp ha hpx (f:=1) (y:=x.pod.st) rfl rfl ?_;refine it (λhd=>?_) (λhd=>?_)
    ·exact go h (.inr (by simpa using hd))
    ·have hc:¬x.pod.st=s1:=by simpa using hc
     have hd:¬x.pod.st=s2:=by simpa using hd
     rw[if_neg (λhh=>hh.elim hc hd),List.append_nil]at hk4;exact hk4 _ w ⟨rfl,h⟩
  ·clear h;rintro z w ⟨rfl,h⟩
   (try dsimp only)
   refine hag (q-1) _ w (by omega) ⟨j+1,?_,by omega,h⟩;have e3:Wi ((j:Int)+1)=((j+1:Nat):Int):=by rw[wr (by omega) (by omega)];omega
   rw[e3]
 ·rw[List.take_of_length_le (by omega)];refine⟨_,rfl,hk w ?_⟩;have h:=Ku h;exact h
def zH(b:Option zh)(x:zh):Option zh:=if x.pod.st=1∨x.pod.st=2 then match b with
 | none=>some x
 | some y=>if x.pod.st<y.pod.st∨(x.pod.st=y.pod.st∧x.pod.reqs.length≤y.pod.reqs.length)then some x else some y
 else b
def Va{x:zh}(h:x.pod.st=1∨x.pod.st=2):zH none x=some x:=by unfold zH;rw[if_pos h]
def vZ{x y:zh}(h:x.pod.st=1∨x.pod.st=2):zH (some y) x=if x.pod.st<y.pod.st∨(x.pod.st=y.pod.st∧x.pod.reqs.length≤y.pod.reqs.length)then some x else some y:=by unfold zH;rw[if_pos h]
def XY(l:List zh)(rev:B0):Option zh:=(revs l rev).foldl zH none
def kF(X:XQ v sr Q l)(h:St w0 (xfB b room last v::sr::obS Q::E) w){rev:B0}{k:Option Addr→PT}
  (no:XY l rev=none→∀w',St w0 (xfB b room last v::sr::obS Q::E) w'→k none w')
  (yes:∀(j:Nat)(o:Ob zh),Q[j]? = some o→l[j]? = some o.x→XY l rev=some o.x→∀w',St w0 (xfB b room last v::sr::obS Q::E) w'→k (some ⟨o.b,0,none⟩) w') :
  L.call Pr yg [pO b,.string rev] (.one (.one .ptr)) k w:=by
 refine zm (JA _ _) ?_;unfold Yh;have hlen:=X.len;have hql:=X.ql;have hn:=X.n
 let BI:=λ(m:Nat)(y:Option Addr)=>(y=none∧(revs (l.take m) rev).foldl zH none=none)∨∃(j:Nat)(o:Ob zh),y=some ⟨o.b,0,none⟩∧Q[j]? = some o∧l[j]? = some o.x∧(revs (l.take m) rev).foldl zH none=some o.x
 refine zK (λq y w=>∃(m:Nat),y.2=((m:Int),())∧q+m=l.length∧BI m y.1∧St w0 (xfB b room last v::sr::obS Q::E) w) l.length ⟨0,rfl,rfl,.inl ⟨rfl,rfl⟩,h⟩ ?_;clear h;rintro q ⟨y,y2⟩ w ⟨m,hy2,hq,hB,h⟩ again hag;simp only at hy2 hB;subst hy2
 (try dsimp only)
 (refine nn ?_;refine ldC h ?_)
 refine it (λhb=>?_) (λhb=>?_)<;>(try simp only[zB]at hb)
 ·obtain⟨o,ho,hl,pb,sp,hp,hx⟩:=X.get (show m<l.length by omega);have erv:=qy (rev:=rev) hl;refine Zs (λ(z:Option Addr×Unit) w=>BI (m+1) z.1∧St w0 (xfB b room last v::sr::obS Q::E) w) (λk5 hk5=>?_) ?_
  ·have keep:∀{w},(revs (l.take (m+1)) rev).foldl zH none=(revs (l.take m) rev).foldl zH none→St w0 (xfB b room last v::sr::obS Q::E) w→k5 (y,()) w:=by
    intro w e h;refine hk5 _ w ⟨?_,h⟩;show BI (m+1) y;rcases hB with ⟨h1,h2⟩ | ⟨j,p,h1,h2,h3,h4⟩
    ·exact .inl ⟨h1,e.trans h2⟩
    ·exact .inr ⟨j,p,h1,h2,h3,e.trans h4⟩
   have take:∀{w},(revs (l.take (m+1)) rev).foldl zH none=some o.x→St w0 (xfB b room last v::sr::obS Q::E) w→k5 (some ⟨o.b,0,none⟩,()) w:=by
    intro w e h;exact hk5 _ w ⟨.inr ⟨m,o,rfl,ho,hl,e⟩,h⟩
   have h:=h.op3 ho hx
   (refine nn ?_;refine ldC h ?_)
   refine Rw.ptr h 4 rfl X.r (by omega) (by rw[Int.toNat_natCast];exact ho) ?_
   (refine nn ?_;refine ldC h ?_)
   refine jA h 1 rfl hp ?_;refine Zs (λ_ w=>o.x.rev=rev∧(o.x.pod.st=1∨o.x.pod.st=2)∧St w0 (xhB o.b o.x pb::sp::obR Q m::xfB b room last v::sr::E) w) (λk14 hk14=>?_) ?_
   ·(refine nn ?_;refine ldC h ?_)
    rw[Qu];refine it (λhc=>?_) (λhc=>?_)
    ·have hc:¬o.x.rev=rev:=by simpa using hc
     refine keep ?_ (h.cl3 ho hx);rw[erv,if_neg hc,List.append_nil]
    ·have hc:o.x.rev=rev:=by simpa using hc
     have skip:∀{w},¬(o.x.pod.st=1∨o.x.pod.st=2)→St w0 (xhB o.b o.x pb::sp::obR Q m::xfB b room last v::sr::E) w→k5 (y,()) w:=by
      intro w hns h;refine keep ?_ (h.cl3 ho hx);rw[erv,if_pos hc,List.foldl_append];show zH _ o.x=_;unfold zH;rw[if_neg hns]
     refine it (λh1=>?_) (λh1=>?_)
     ·have h1:¬o.x.pod.st=1:=by simpa using h1
      refine it (λh2=>?_) (λh2=>?_)
      ·have h2:¬o.x.pod.st=2:=by simpa using h2
       exact skip (λhh=>hh.elim h1 h2) h
      ·exact hk14 () w ⟨hc,.inr (by simpa using h2),h⟩
     ·exact hk14 () w ⟨hc,.inl (by simpa using h1),h⟩
   ·clear h;rintro-w ⟨hc,hst,h⟩
    (try dsimp only)
    have e:(revs (l.take (m+1)) rev).foldl zH none=zH ((revs (l.take m) rev).foldl zH none) o.x:=by rw[erv,if_pos hc,List.foldl_append];rfl
    refine dr h λw h=>?_;rcases hB with ⟨rfl,h2⟩ | ⟨j,p,rfl,hpj,hlj,h4⟩
    ·refine itT rfl (take ?_ (h.cl3 ho hx));rw[e,h2,Va hst]
    ·refine itF rfl ?_;have e:(revs (l.take (m+1)) rev).foldl zH none=if o.x.pod.st<p.x.pod.st∨(o.x.pod.st=p.x.pod.st∧o.x.pod.reqs.length≤p.x.pod.reqs.length)then some o.x else some p.x:=by
      rw[e,h4,vZ hst]
     have h:=h.cl3 ho hx;obtain⟨pb2,sp2,hp2,hx2⟩:=X.o p (List.mem_of_getElem? hpj);have h:=h.op3 hpj hx2
     (refine nn ?_;refine ldC h ?_)
     refine jA h 1 rfl hp2 ?_;refine it (λh1=>?_) (λh1=>?_)
     ·have h1:=of_decide_eq_true h1;rw[if_pos (.inl h1)]at e;exact take e (h.cl3 hpj hx2)
     have h1:=of_decide_eq_false h1
     (refine nn ?_;refine ldC h ?_)
     refine jA h 1 rfl hp2 ?_;refine it (λh2=>?_) (λh2=>?_)
     ·have h2:o.x.pod.st=p.x.pod.st:=by simpa using h2
      have h:=h.cl3 hpj hx2;have h:=h.op3 ho hx
      (refine nn ?_;refine ldC h ?_;refine nn ?_)
      have h:=h.cl3 ho hx;have h:=h.op3 hpj hx2
      (refine ldC h ?_)
      have h:=h.cl3 hpj hx2;have h:=h.op3 ho hx;refine JP h 1 rfl hp ?_;have h:=h.cl3 ho hx;have h:=h.op3 hpj hx2
      (refine ckC h ?_)
      refine JP h 1 rfl hp2 ?_;refine it (λh3=>?_) (λh3=>?_)
      ·have h3:=of_decide_eq_true h3;rw[if_pos (.inr ⟨h2,by omega⟩)]at e;exact take e (h.cl3 hpj hx2)
      ·have h3:=of_decide_eq_false h3;rw[if_neg (λhh=>hh.elim h1 λhh=>by omega)]at e;exact keep (e.trans h4.symm) (h.cl3 hpj hx2)
     ·have h2:¬o.x.pod.st=p.x.pod.st:=by simpa using h2
      rw[if_neg (λhh=>hh.elim h1 λhh=>h2 hh.1)]at e;exact keep (e.trans h4.symm) (h.cl3 hpj hx2)
  ·clear h;rintro⟨z,⟨⟩⟩ w ⟨hB,h⟩
   (try dsimp only)
   refine hag (q-1) _ w (by omega) ⟨m+1,?_,by omega,hB,h⟩;have e3:Wi ((m:Int)+1)=((m+1:Nat):Int):=by rw[wr (by omega) (by omega)];omega
   dsimp only;rw[e3]
 ·have e:l.take m=l:=List.take_of_length_le (by omega);rcases hB with ⟨rfl,h2⟩ | ⟨j,p,rfl,hpj,hlj,h4⟩
  ·rw[e]at h2;exact⟨_,rfl,no h2 w h⟩
  ·rw[e]at h4;exact⟨_,rfl,yes j p hpj hlj h4 w h⟩
end
end Go.Proofs.Ytofigcbhafkikaa
namespace Go.Proofs.Ytofigcbhafkikaa
open Go.Dm
attribute [local irreducible] L.load L.store L.chk L.new L.nonnil L.guard L.ite L.draw L.idx L.sem L.semR L.semU L.chkSem L.next L.call L.callV L.join L.alts L.loop L.begin L.endRound L.range
variable {w0 w:World}{E:List Seg}
abbrev alive(x:zh):Bool:=decide (x.pod.st≠4)
def vU{τ:Type}(p:Ob τ→Bool)(Q:List (Ob τ)):(obS Q).Perm (obS (Q.filter p)++obS (Q.filter λx=>!p x)):=by
 have h:=((List.filter_append_perm p Q).map Ob.sg).flatten;rw[List.map_append,List.flatten_append]at h;exact h.symm
section
variable {b:Nat}{room last:Int}{v:Sl}{sr:Seg}{Q:List (Ob zh)}{l:List zh}
def Xf{τ:Type}{p:τ→Bool}{l:List τ}{j:Nat}{x:τ}(h:l[j]? = some x):(l.take (j+1)).filter p=(l.take j).filter p++if p x=true then [x]else []:=by
 rw[List.take_add_one,h,Option.toList_some,List.filter_append]
 congr 1
 split
 ·rename_i e;simp[e]
 ·rename_i e;simp[e]
def Vr(X:XQ v sr Q l)(h:St w0 (xfB b room last v::sr::obS Q::E) w){k:Unit→PT}
  (hk:∀v' sr' Q' w',XQ v' sr' Q' (l.filter alive)→St w0 (xfB b room last v'::sr'::obS Q'::E) w'→k () w') :
  L.call Pr ZY [pO b] (.tup []) k w:=by
 refine zm (Ja _) ?_;unfold yY;have hlen:=X.len;have hql:=X.ql;have hn:=X.n;have h:St w0 (xfB b room last v::sr::obS Q::[]::E) w:=h.eq (by simp);refine zK (λq y w=>∃(j:Nat)(vo:Sl)(so:Seg),y=(vo,(j:Int),())∧q+j=l.length∧Rw eP Zh 1 vo (obB ((Q.take j).filter λo=>alive o.x)) so∧St w0 (xfB b room last v::sr::obS Q::so::E) w) l.length ⟨0,⟨none,0,0⟩,[],rfl,rfl,Rw.nil,h⟩ ?_;clear h;rintro q y w ⟨j,vo,so,rfl,hq,ro,h⟩ again hag
 (try dsimp only)
 (refine nn ?_;refine ldC h ?_)
 refine it (λhb=>?_) (λhb=>?_)<;>(try simp only[zB]at hb)
 ·obtain⟨o,ho,hl,pb,sp,hp,hx⟩:=X.get (show j<l.length by omega);have eft:=Xf (p:=λo:Ob zh=>alive o.x) ho;have hol:(obB ((Q.take j).filter λo=>alive o.x)).length≤j:=by
   rw[List.length_map];have:((Q.take j).filter λo=>alive o.x).length≤(Q.take j).length:=List.length_filter_le ..;rw[List.length_take]at this;omega
  refine Zs (λ(z:Sl×Unit) w=>∃so',Rw eP Zh 1 z.1 (obB ((Q.take (j+1)).filter λo=>alive o.x)) so'∧St w0 (xfB b room last v::sr::obS Q::so'::E) w) (λk5 hk5=>?_) ?_
  ·rw[eft]at hk5;have h:=h.op3 ho hx
   (refine nn ?_;refine ldC h ?_)
   refine Rw.ptr h 4 rfl X.r (by omega) (by rw[Int.toNat_natCast];exact ho) ?_
   (refine nn ?_;refine ldC h ?_)
   refine jA h 1 rfl hp ?_;refine it (λhc=>?_) (λhc=>?_)
   ·have hc:¬o.x.pod.st=4:=by simpa using hc
    rw[if_pos (decide_eq_true hc)]at hk5
    (refine nn ?_;refine ldC h ?_)
    refine Rw.ptr h 4 rfl X.r (by omega) (by rw[Int.toNat_natCast];exact ho) ?_;refine nw h ?_;clear h;intro b18 w h;refine Rw.app Qf gh h 5 rfl ro o.b rfl (by omega) (by omega) λv' s' w ro' h=>?_;dsimp only[ze]at h;refine hk5 _ w ⟨s',?_,h.cl3 ho hx⟩;rw[obB,List.map_append];exact ro'
   ·have hc:o.x.pod.st=4:=by simpa using hc
    rw[if_neg (by simp[hc]),List.append_nil]at hk5;exact hk5 _ w ⟨so,ro,h.cl3 ho hx⟩
  ·clear h ro;rintro⟨z,⟨⟩⟩ w ⟨so',ro,h⟩
   (try dsimp only)
   refine hag (q-1) _ w (by omega) ⟨j+1,z,so',?_,by omega,ro,h⟩;have e3:Wi ((j:Int)+1)=((j+1:Nat):Int):=by rw[wr (by omega) (by omega)];omega
   rw[e3]
 ·rw[List.take_of_length_le (by omega)]at ro
  (refine nn ?_;refine stC h ?_;clear h;intro w h;dsimp only[yr,ze]at h)
  refine⟨(),rfl,hk vo so (Q.filter λo=>alive o.x) w ⟨ro,λo ho=>X.o o (List.mem_filter.1 ho).1,?_,Nat.lt_of_le_of_lt (List.length_filter_le ..) hn⟩ ?_⟩
  ·rw[←X.x];unfold obX;rw[List.filter_map];rfl
  ·have h:=Vj h;have h:St w0 (xfB b room last vo::obS Q::so::E) w:=h;have hp:=vU (λo:Ob zh=>alive o.x) Q;refine h.sub ⟨obS (Q.filter λo=>!alive o.x),?_⟩
   classical
   have hc:=λa=>(List.perm_iff_count.1 hp) a;refine List.perm_iff_count.2 λa=>?_;have:=hc a;simp only[List.flatten_cons,List.count_append,List.count_cons,List.cons_append,List.nil_append,List.count_nil]at this ⊢;omega
end
end Go.Proofs.Ytofigcbhafkikaa
namespace Go.Proofs.Ytofigcbhafkikaa
open Go.Dm
def KB{F:zj}(ok:F.Ok):F.l.filter alive=F.l:=List.filter_eq_self.2 λx hx=>by have:=ok.live x hx;exact decide_eq_true (by omega)
def XD:∀(l:List zh)(b:Option zh),(l.filter alive).foldl zH b=l.foldl zH b
 | [],_=>rfl
 | x::l,b=>by
  rw[List.filter_cons];split
  ·exact XD l _
  ·rename_i h;have h:x.pod.st=4:=by simpa using h
   have e:zH b x=b:=by unfold zH;rw[if_neg (by omega)]
   rw[XD l b,List.foldl_cons,e]
def Uw(l:List zh)(rev:B0):XY (l.filter alive) rev=XY l rev:=by
 unfold XY revs;rw[←XD (l.filter _) none,List.filter_filter,List.filter_filter]
 congr 1
 refine List.filter_congr λx _=>Bool.and_comm ..
def uU:Option zh→Int×Int×Int
 | none=>(0,3,0)
 | some x=>(x.id,x.pod.st,x.pod.reqs.length)
def Vy:∀(l:List zh)(b:Option zh),(∀x∈l,x.pod.st=1∨x.pod.st=2∨x.pod.st=3)→(∀y,b=some y→y.pod.st=1∨y.pod.st=2)→l.foldl je (uU b)=uU (l.foldl zH b)
 | [],b,_,_=>rfl
 | x::l,b,h,hb=>by
  have hx:=h x (List.mem_cons_self ..);have e:je (uU b) x=uU (zH b x)∧∀y,zH b x=some y→y.pod.st=1∨y.pod.st=2:=by
   unfold je zH;by_cases h3:x.pod.st=3
   ·rw[if_pos h3,if_neg (by omega)];exact⟨rfl,hb⟩
   ·have h12:x.pod.st=1∨x.pod.st=2:=by omega
    rw[if_neg h3,if_pos h12]
    cases b with
    | none=>
     rw[if_pos (.inl (show x.pod.st<3 by omega))];exact⟨rfl,λy hy=>by cases hy;exact h12⟩
    | some y=>
     have hy:=hb y rfl;have hi:(x.pod.st<(uU (some y)).2.1∨(x.pod.st=(uU (some y)).2.1∧(x.pod.reqs.length:Int)≤(uU (some y)).2.2))↔(x.pod.st<y.pod.st∨(x.pod.st=y.pod.st∧x.pod.reqs.length≤y.pod.reqs.length)):=by
      show(x.pod.st<y.pod.st∨(x.pod.st=y.pod.st∧(x.pod.reqs.length:Int)≤(y.pod.reqs.length:Int)))↔_;omega
     by_cases hc:x.pod.st<y.pod.st∨(x.pod.st=y.pod.st∧x.pod.reqs.length≤y.pod.reqs.length)
     ·rw[if_pos (hi.2 hc)];dsimp only;rw[if_pos hc];exact⟨rfl,λz hz=>by cases hz;exact h12⟩
     ·rw[if_neg (λhh=>hc (hi.1 hh))];dsimp only;rw[if_neg hc];exact⟨rfl,λz hz=>by cases hz;exact hy⟩
  rw[List.foldl_cons,List.foldl_cons,e.1];exact Vy l _ (λy hy=>h y (List.mem_cons_of_mem _ hy)) e.2
def vd:∀(l:List zh)(b:Option zh)(x:zh),l.foldl zH b=some x→(x∈l∧(x.pod.st=1∨x.pod.st=2))∨b=some x
 | [],b,x,h=>.inr h
 | y::l,b,x,h=>by
  rcases vd l _ x h with h1 | h1
  ·exact .inl ⟨List.mem_cons_of_mem _ h1.1,h1.2⟩
  ·unfold zH at h1;split at h1
   ·rename_i hs;split at h1
    ·cases h1;exact .inl ⟨List.mem_cons_self ..,hs⟩
    ·split at h1
     ·cases h1;exact .inl ⟨List.mem_cons_self ..,hs⟩
     ·exact .inr h1
   ·exact .inr h1
def uC:∀(l:List zh)(b:Option zh),(b≠none∨∃x∈l,x.pod.st=1∨x.pod.st=2)→l.foldl zH b≠none
 | [],b,h=>by rcases h with h | ⟨x,hx,-⟩;exact h;cases hx
 | y::l,b,h=>by
  rw[List.foldl_cons];refine uC l _ ?_;by_cases hy:y.pod.st=1∨y.pod.st=2
  ·refine .inl ?_;unfold zH;rw[if_pos hy];split
   ·simp
   ·split<;>simp
  ·have e:zH b y=b:=by unfold zH;rw[if_neg hy]
   rw[e];rcases h with h | ⟨x,hx,hs⟩
   ·exact .inl h
   ·rcases List.mem_cons.1 hx with rfl | hx
    ·exact absurd hs hy
    ·exact .inr ⟨x,hx,hs⟩
def kI{F:zj}(ok:F.Ok){D:List zh}(hD:D.filter alive=F.l){rev:B0}(hc:0<zt F.l rev):∃x,XY D rev=some x∧x.id=Jy F.l rev∧x.rev=rev∧(x.pod.st=1∨x.pod.st=2):=by
 rw[←Uw,hD];have hl:∀x∈revs F.l rev,x.pod.st=1∨x.pod.st=2∨x.pod.st=3:=λx hx=>ok.live x (List.mem_filter.1 hx).1;have h1:=Vy (revs F.l rev) none hl (λy hy=>by cases hy);have hne:XY F.l rev≠none:=by
  unfold zt at hc;obtain⟨x,hx⟩:=List.exists_mem_of_length_pos hc;rw[List.mem_filter]at hx;have hu:¬x.pod.st=3:=by simpa [xc]using hx.2
  exact uC _ none (.inr ⟨x,hx.1,by have:=hl x hx.1;omega⟩)
 cases hx:XY F.l rev with
 | none=>exact absurd hx hne
 | some x=>
  refine⟨x,rfl,?_,?_⟩
  ·unfold Jy;rw[show((0:Int),(3:Int),(0:Int))=uU none from rfl,h1];show x.id=(uU (XY F.l rev)).1;rw[hx];rfl
  ·rcases vd _ _ _ hx with ⟨h2,h3⟩ | h2
   ·exact⟨of_decide_eq_true (List.mem_filter.1 h2).2,h3⟩
   ·cases h2
def Vc{D:List zh}(pw:D.Pairwise λx y=>x.id<y.id){j:Nat}{x:zh}(hx:D[j]? = some x)(ha:x.pod.st≠4){g:Zl→Zl}:(D.set j { x with pod:=g x.pod }).filter alive=ZE (D.filter alive) x.id g:=by
 unfold ZE
 induction D generalizing j with
 | nil=>simp at hx
 | cons z l ih=>
  rw[List.pairwise_cons]at pw
  cases j with
  | zero=>
   simp only[List.getElem?_cons_zero,Option.some.injEq]at hx;subst hx;have hne:∀y∈l.filter alive,¬y.id=z.id:=λy hy e=>by have:=pw.1 y (List.mem_filter.1 hy).1;omega
   have hid:(l.filter alive).filterMap (λy=>if y.id=z.id then(if(g y.pod).st=4 then none else some { y with pod:=g y.pod })else some y)=l.filter alive:=by
    generalize l.filter alive=m at hne;clear ih pw
    induction m with
    | nil=>rfl
    | cons y m ih=>rw[List.filterMap_cons,if_neg (hne y (List.mem_cons_self ..)),ih λq hq=>hne q (List.mem_cons_of_mem _ hq)]
   rw[List.set_cons_zero,List.filter_cons,List.filter_cons,if_pos (decide_eq_true ha),List.filterMap_cons,if_pos rfl,hid];by_cases h4:(g z.pod).st=4
   ·rw[if_pos h4,if_neg (by simp[h4])]
   ·rw[if_neg h4,if_pos (decide_eq_true h4)]
  | succ j=>
   simp only[List.getElem?_cons_succ]at hx;have hne:¬z.id=x.id:=by have:=pw.1 x (List.mem_of_getElem? hx);omega
   rw[List.set_cons_succ,List.filter_cons,List.filter_cons];split
   ·rw[List.filterMap_cons,if_neg hne,ih pw.2 hx]
   ·exact ih pw.2 hx
def ob{D:List zh}{j:Nat}{x:zh}(hx:D[j]? = some x)(pd:Zl):(D.set j { x with pod:=pd }).map (·.id)=D.map (·.id):=by
 rw[List.map_set];have:(D.map (·.id))[j]? = some x.id:=by rw[List.getElem?_map,hx];rfl
 refine List.ext_getElem? λi=>?_;rw[List.getElem?_set];split
 ·rename_i e;subst e;split
  ·exact this.symm
  ·rename_i h;rw[List.getElem?_eq_none (by omega)]
 ·rfl
def kU{D:List zh}:D.Pairwise (λx y=>x.id<y.id)↔(D.map (·.id)).Pairwise (· < ·):=by rw[List.pairwise_map]
def OA{F:zj}(ok:F.Ok)(rev:B0):((revs F.l rev).filter λx=>decide (x.pod.st=1)||decide (x.pod.st=2)).length=zt F.l rev:=by
 unfold zt
 congr 1
 refine List.filter_congr λx hx=>?_;have:=ok.live x (List.mem_filter.1 hx).1;unfold xc;rcases this with h | h | h<;>simp[h]
end Go.Proofs.Ytofigcbhafkikaa
namespace Go.Proofs.Ytofigcbhafkikaa
open Go.Dm
attribute [local irreducible] L.load L.store L.chk L.new L.nonnil L.guard L.ite L.draw L.idx L.sem L.semR L.semU L.chkSem L.next L.call L.callV L.join L.alts L.loop L.begin L.endRound L.range
variable {w0 w:World}{E:List Seg}
def uB(last:Int)(t:Nat):List Int:=(List.range t).map λj:Nat=>last+1+(j:Int)
def vX(last:Int)(t:Nat):uB last (t+1)=uB last t++[last+1+(t:Int)]:=by unfold uB;rw[List.range_succ,List.map_append];rfl
def uA(last:Int)(t:Nat):(uB last t).length=t:=by simp[uB]
def vh{F:zj}{rev:B0}{conc:Int}:∀(n:Nat),F.Ok→F.l.length+n<100000000→F.last+n<4611686018427387904→(grow rev conc n F).Ok
 | 0,ok,_,_=>ok
 | n+1,ok,h1,h2=>by
  refine QQ (vh n ok (by omega) (by omega)) ?_ ?_
  ·rw[jH];omega
  ·rw[jz];omega
def kE(h:St w0 E w)(i:Nat){b:Nat}{F:zj}{s:Seg}(hi:nth E i=some s)(hf:XFl b F s){rev:B0}{conc want:Int}(hw:0≤want∧want≤1000000)(hr:F.room≤1000000)(hla:F.last≤1000000000000)(hfl:F.l.length<1000000){k:Sl×Sl×Unit→PT}
  (hk:∀vm sm vg sg s' w',Rw eI zA 1 vm (Jo F rev want) sm→Rw eI zA 1 vg (Yv F rev conc want).2 sg→XFl b (Yv F rev conc want).1 s'→St w0 (sm::sg::ze E i s') w'→k (vm,vg,()) w') :
  L.call Pr ZZ [pO b,.string rev,I conc,I want] (.tup [.one .slice,.one .slice]) k w:=by
 obtain⟨ok,v,sr,Q,X,rfl⟩:=hf;refine zm (Jb _ _ _ _) ?_;unfold yZ;have h:=(h.front i hi).split3;have hlo:=ok.lo;refine Vs X h λw h=>?_;rw[OA ok];have hcle:zt F.l rev≤F.l.length:=Nat.le_trans (List.length_filter_le ..) (List.length_filter_le ..);have hgn:(ZG F rev want:Int)=max 0 (min (want-zt F.l rev) (F.room-F.l.length)):=vi F rev want;have h:St w0 (xfB b F.room F.last v::sr::obS Q::[]::zQ E i) w:=h.eq (by simp);have eg:∀t,(grow rev conc t F).room=F.room∧(grow rev conc t F).last=F.last+t∧(grow rev conc t F).l.length=F.l.length+t:=λt=>⟨Xb t,jz t,jH t⟩
 refine Zs (λ(z:Sl×Int×Unit) w=>∃(v:Sl)(sr:Seg)(Q:List (Ob zh))(sm:Seg),z.2.1=(zt F.l rev+ZG F rev want:Nat)∧XQ v sr Q (Zx F rev conc want).l∧Rw eI zA 1 z.1 (Jo F rev want) sm∧
  St w0 (xfB b F.room (F.last+ZG F rev want) v::sr::obS Q::sm::zQ E i) w) (λk2 hk2=>?_) ?_
 ·refine zK (λq y w=>∃(t:Nat)(v:Sl)(sr:Seg)(Q:List (Ob zh))(vm:Sl)(sm:Seg),y=(vm,((zt F.l rev+t:Nat):Int),())∧q+t=ZG F rev want∧XQ v sr Q (grow rev conc t F).l∧Rw eI zA 1 vm (uB F.last t) sm∧
   St w0 (xfB b F.room (F.last+t) v::sr::obS Q::sm::zQ E i) w) (ZG F rev want) ⟨0,v,sr,Q,⟨none,0,0⟩,[],rfl,rfl,X,Rw.nil,by rw[Int.ofNat_zero,Int.add_zero];exact h⟩ ?_
  clear X h;clear h;rintro q y w ⟨t,v,sr,Q,vm,sm,rfl,hq,X,rm,h⟩ again hag
  (try dsimp only)
  have hlen:=X.len;have hql:=X.ql;have e:=eg t;have out:ZG F rev want=t→∀{w},St w0 (xfB b F.room (F.last+t) v::sr::obS Q::sm::zQ E i) w→k2 (vm,((zt F.l rev+t:Nat):Int),()) w:=by
   intro et w h;refine hk2 _ w ⟨v,sr,Q,sm,by rw[et],?_,?_,?_⟩
   ·unfold Zx;rw[et];exact X
   ·unfold Jo;rw[et];exact rm
   ·rw[et];exact h
  refine dr h λw h=>?_;refine it (λh1=>?_) (λh1=>?_)<;>(try simp only[zB]at h1)
  ·(refine nn ?_;refine ldC h ?_;refine nn ?_;refine ldC h ?_)
   refine it (λh2=>?_) (λh2=>?_)<;>(try simp only[zB]at h2)
   ·have ht:t<ZG F rev want:=by omega
    (refine nn ?_;refine ldC h ?_;refine nn ?_;refine stC h ?_;clear h;intro w h;dsimp only[yr,ze]at h;refine dr h ?_;clear h;intro w h;refine nn ?_;refine ldC h ?_;refine nn ?_;refine ldC h ?_)
    refine oE h λpb sp w hp h=>?_
    (refine ckC h ?_;refine ckC h ?_)
    refine nw h ?_;clear h;intro b18 w h
    (refine ckC h ?_)
    refine nw h ?_;clear h;intro b19 w h
    (refine ckC h ?_)
    have ew:Wi (F.last+(t:Int)+1)=F.last+((t+1:Nat):Int):=by rw[wr (by omega) (by omega)];omega
    rw[ew]at h;refine Rw.app Qf gh h 3 rfl X.r b18 rfl (by rw[List.length_map];omega) (by rw[List.length_map];omega) λv' sr' w r' h=>?_;dsimp only[ze]at h
    (refine nn ?_;refine stC h ?_;clear h;intro w h;dsimp only[yr,ze]at h;refine nn ?_;refine ldC h ?_)
    refine nw h ?_;clear h;intro b24 w h;refine Rw.app ZR elI h 5 rfl rm (F.last+1+(t:Int)) (by show [I _] = [I _];congr 2;omega) (by rw[uA];omega) (by rw[uA];omega) λvm' sm' w rm' h=>?_;dsimp only[ze]at h;rw[←vX]at rm';have X':XQ v' sr' (Q++[⟨b18,⟨F.last+((t+1:Nat):Int),rev,⟨1,conc,[]⟩⟩,xhB b18 ⟨F.last+((t+1:Nat):Int),rev,⟨1,conc,[]⟩⟩ pb++sp⟩]) (grow rev conc (t+1) F).l:=by
     refine⟨?_,λo ho=>?_,?_,?_⟩
     ·rw[obB,List.map_append];exact r'
     ·rcases List.mem_append.1 ho with ho | ho
      ·exact X.o o ho
      ·rw[List.mem_singleton]at ho;subst ho;exact⟨pb,sp,hp,rfl⟩
     ·rw[obX,List.map_append,←obX,X.x];show _=(grow rev conc t F).l++[⟨(grow rev conc t F).last+1,rev,⟨1,conc,[]⟩⟩];rw[e.2.1];have:F.last+((t+1:Nat):Int)=F.last+(t:Int)+1:=by omega
      rw[this];rfl
     ·rw[List.length_append,List.length_singleton];omega
    refine hag (q-1) _ w (by omega) ⟨t+1,v',sr',_,vm',sm',?_,by omega,X',rm',?_⟩
    ·rw[wr (by omega) (by omega)];have:((zt F.l rev+t:Nat):Int)+1=((zt F.l rev+(t+1):Nat):Int):=by omega
     rw[this]
    ·have h:St w0 (xhB b18 ⟨F.last+((t+1:Nat):Int),rev,⟨1,conc,[]⟩⟩ pb::sp::xfB b F.room (F.last+((t+1:Nat):Int)) v'::sr'::obS Q::sm'::zQ E i) w:=h;have h:=h.glue;have h:St w0 (obS Q::(xhB b18 ⟨F.last+((t+1:Nat):Int),rev,⟨1,conc,[]⟩⟩ pb++sp)::xfB b F.room (F.last+((t+1:Nat):Int)) v'::sr'::sm'::zQ E i) w:=h.front 3 rfl;have h:=St.endOb (p:=⟨b18,⟨F.last+((t+1:Nat):Int),rev,⟨1,conc,[]⟩⟩,xhB b18 ⟨F.last+((t+1:Nat):Int),rev,⟨1,conc,[]⟩⟩ pb++sp⟩) (h.front 1 rfl);have h:=Vb (Vb h);exact h
   ·exact out (by omega) h
  ·exact out (by omega) h
 clear X h;clear h;rintro⟨vm,z2,⟨⟩⟩ w ⟨v,sr,Q,sm,hz2,X,rm,h⟩;simp only at hz2 rm;subst hz2
 (try dsimp only)
 have okg:(Zx F rev conc want).Ok:=vh _ ok (by omega) (by omega);have hcg:zt (Zx F rev conc want).l rev=zt F.l rev+ZG F rev want:=XF _;have hsn:(yq (Zx F rev conc want) rev want:Int)=max 0 ((zt (Zx F rev conc want).l rev:Int)-max want 0):=by unfold yq;omega
 have hgl:(Zx F rev conc want).l.length=F.l.length+ZG F rev want:=jH _;have hgr:(Zx F rev conc want).room=F.room∧(Zx F rev conc want).last=F.last+ZG F rev want:=⟨Xb _,jz _⟩;unfold Yv at hk;have hsh:∀(n:Nat)(G:zj),(Yb rev n G).1.room=G.room∧(Yb rev n G).1.last=G.last:=by
  intro n
  induction n with
  | zero=>exact λG=>⟨rfl,rfl⟩
  | succ n ih=>intro G;simp only[Yb];exact ih (YV rev G)
 have hres:=hsh (yq (Zx F rev conc want) rev want) (Zx F rev conc want);rw[hgr.1,hgr.2]at hres;have h:St w0 (xfB b F.room (F.last+ZG F rev want) v::sr::obS Q::sm::[]::zQ E i) w:=h.eq (by simp);rw[←hcg];clear eg;generalize hR:Yb rev (yq (Zx F rev conc want) rev want) (Zx F rev conc want)=RES at *
 refine zK (λq y w=>∃(Ft:zj)(D:List zh)(g:List Int)(v:Sl)(sr:Seg)(Q:List (Ob zh))(vg:Sl)(sg:Seg),y=(vg,(zt Ft.l rev:Int),())∧(q:Int)=max 0 ((zt Ft.l rev:Int)-want)∧Ft.Ok∧D.filter alive=Ft.l∧D.Pairwise (λx y=>x.id<y.id)∧
  (Yb rev q Ft).1=RES.1∧g++(Yb rev q Ft).2=RES.2∧g.length≤100000000∧XQ v sr Q D∧Rw eI zA 1 vg g sg∧zt Ft.l rev+g.length≤10000000∧St w0 (xfB b F.room (F.last+ZG F rev want) v::sr::obS Q::sm::sg::zQ E i) w)
  (yq (Zx F rev conc want) rev want) ⟨Zx F rev conc want,(Zx F rev conc want).l,[],v,sr,Q,⟨none,0,0⟩,[],rfl,by omega,okg,KB okg,okg.pw,by rw[hR],by rw[hR];rfl,by decide,X,Rw.nil,by rw[List.length_nil];omega,h⟩ ?_
 clear X h;clear h;rintro q y w ⟨Ft,D,g,v,sr,Q,vg,sg,rfl,hq,okt,hD,pw,hr1,hr2,hgl',X,rg,hbd,h⟩ again hag
 (try dsimp only)
 refine it (λhb=>?_) (λhb=>?_)<;>(try simp only[zB]at hb)
 ·obtain⟨n,rfl⟩:∃n,q=n+1:=⟨q-1,by omega⟩;have hc:0<zt Ft.l rev:=by omega
  obtain⟨x0,hx0,hid,-,hst⟩:=kI okt hD hc;have okd:=qJ okt hc;have hcd:=xe okt hc;simp only[Yb]at hr1 hr2;refine kF X h (λhn w h=>by rw[hx0]at hn;cases hn) λj o ho hl hs w h=>?_;rw[hx0]at hs;obtain rfl:=Option.some.inj hs;obtain⟨pb,sp,hp,hx⟩:=X.o o (List.mem_of_getElem? ho);have h:=h.op3 ho hx
  (refine nn ?_;refine ldC h ?_)
  refine kC h 1 rfl hp λsp' w hp' h=>?_;dsimp only[ze]at h
  (refine nn ?_;refine ldC h ?_)
  refine nw h ?_;clear h;intro b34 w h;refine Rw.app ZR elI h 6 rfl rg o.x.id rfl (by omega) (by omega) λvg' sg' w rg' h=>?_;dsimp only[ze]at h;have X':=X.set ho (x:={ o.x with pod:=(zG o.x.pod).1 }) (s:=xhB o.b o.x pb++sp') ⟨pb,sp',hp',rfl⟩;have hne:o.x.pod.st≠4:=by omega
  have hf':=Vc pw hl hne (g:=λp=>(zG p).1);have hf':(D.set j { o.x with pod:=(zG o.x.pod).1 }).filter alive=(YV rev Ft).l:=by rw[hf',hD,hid];rfl
  refine hag n _ w (by omega) ⟨YV rev Ft,D.set j { o.x with pod:=(zG o.x.pod).1 },g++[o.x.id],v,sr,_,vg',sg',?_,by omega,okd,hf',?_,hr1,?_,by rw[List.length_append,List.length_singleton];omega,X',rg',by rw[List.length_append,List.length_singleton];omega,?_⟩
  ·rw[wr (by omega) (by omega)];have:(zt Ft.l rev:Int)-1=(zt (YV rev Ft).l rev:Int):=by omega
   rw[this]
  ·rw[kU,ob hl,←kU];exact pw
  ·rw[hid,List.append_assoc];exact hr2
  ·exact St.st3 ho ⟨o.b,{ o.x with pod:=(zG o.x.pod).1 },xhB o.b o.x pb++sp'⟩ rfl h
 ·have hq0:q=0:=by omega
  subst hq0;simp only[Yb,List.append_nil]at hr1 hr2;refine Vr X h λv' sr' Q' w X' h=>?_;rw[hD,hr1]at X';rw[hr2]at rg;have okr:RES.1.Ok:=by rw[←hr1];exact okt
  refine⟨(vm,vg,()),rfl,hk vm sm vg sg (xfB b RES.1.room RES.1.last v'++(sr'++obS Q')) w rm rg ⟨okr,v',sr',Q',X',rfl⟩ ?_⟩;rw[hres.1,hres.2];have h:=h.glue3;have h:St w0 (sm::(xfB b F.room (F.last+ZG F rev want) v'++(sr'++obS Q'))::sg::zQ E i) w:=h.front 1 rfl;have h:St w0 ((xfB b F.room (F.last+ZG F rev want) v'++(sr'++obS Q'))::sm::sg::zQ E i) w:=h.front 1 rfl;have hd:zQ (sm::sg::E) (i+2)=sm::sg::zQ E i:=rfl;have h:St w0 (ze (sm::sg::E) (i+2) (xfB b F.room (F.last+ZG F rev want) v'++(sr'++obS Q'))) w:=St.back (i+2) (by exact hi) (by rw[hd];exact h);exact h
def KD(h:St w0 E w)(i:Nat){b:Nat}{F:zj}{s:Seg}(hi:nth E i=some s)(hf:XFl b F s)(hfew:∀x∈F.l,x.pod.reqs.length<10000000){rev:B0}{id:Int}{k:Int×Bool×Unit→PT}
  (hk:∀s' w',XFl b (ZD F rev id).1 s'→St w0 (ze E i s') w'→k ((ZD F rev id).2.1,(ZD F rev id).2.2,()) w') :
  L.call Pr yi [pO b,.string rev,I id] (.tup [.one (.int .i64),.one .bool]) k w:=by
 have hf0:=hf;obtain⟨ok,v,sr,Q,X,rfl⟩:=hf;refine zm (JC _ _ _) ?_;unfold Yj;have h:=(h.front i hi).split3;have hokT:=xF ok rev id;unfold ZD at hk hokT;refine kD X h (λhn w h=>?_) λj o ho hl hs w h=>?_
 rotate_left
 ·rw[hs]at hk;refine itT rfl ⟨(0,false,()),rfl,?_⟩;exact hk _ w hf0 (St.back i hi h.glue3)
 rw[hn]at hk hokT;simp only[Option.isSome_none,Bool.false_eq_true,if_false]at hk hokT;refine itF rfl ?_;have hlen:=X.len;have hql:=X.ql;have hnq:=X.n
 let BI:=λ(m:Nat)(y:Option Addr)=>(y=none∧(revs (F.l.take m) rev).foldl zY none=none)∨∃(j:Nat)(o:Ob zh),y=some ⟨o.b,0,none⟩∧Q[j]? = some o∧F.l[j]? = some o.x∧(revs (F.l.take m) rev).foldl zY none=some o.x
 refine zK (λq y w=>∃(m:Nat),y.2=((m:Int),())∧q+m=F.l.length∧BI m y.1∧St w0 (xfB b F.room F.last v::sr::obS Q::zQ E i) w) F.l.length ⟨0,rfl,rfl,.inl ⟨rfl,rfl⟩,h⟩ ?_;clear h;rintro q ⟨y,y2⟩ w ⟨m,hy2,hq,hB,h⟩ again hag;simp only at hy2 hB;subst hy2
 (try dsimp only)
 (refine nn ?_;refine ldC h ?_)
 refine it (λhb=>?_) (λhb=>?_)<;>(try simp only[zB]at hb)
 ·obtain⟨o,ho,hl,pb,sp,hp,hx⟩:=X.get (show m<F.l.length by omega);have erv:=qy (rev:=rev) hl;have hp0:=hp;obtain⟨okp,vp,srp,hrp,esp⟩:=hp;refine Zs (λ(z:Option Addr×Unit) w=>BI (m+1) z.1∧St w0 (xfB b F.room F.last v::sr::obS Q::zQ E i) w) (λk6 hk6=>?_) ?_
  ·have keep:∀{w},(revs (F.l.take (m+1)) rev).foldl zY none=(revs (F.l.take m) rev).foldl zY none→St w0 (xfB b F.room F.last v::sr::obS Q::zQ E i) w→k6 (y,()) w:=by
    intro w e h;refine hk6 _ w ⟨?_,h⟩;show BI (m+1) y;rcases hB with ⟨h1,h2⟩ | ⟨j,p,h1,h2,h3,h4⟩
    ·exact .inl ⟨h1,e.trans h2⟩
    ·exact .inr ⟨j,p,h1,h2,h3,e.trans h4⟩
   have take:∀{w},(revs (F.l.take (m+1)) rev).foldl zY none=some o.x→St w0 (xfB b F.room F.last v::sr::obS Q::zQ E i) w→k6 (some ⟨o.b,0,none⟩,()) w:=by
    intro w e h;exact hk6 _ w ⟨.inr ⟨m,o,rfl,ho,hl,e⟩,h⟩
   have h:=h.op3 ho hx
   (refine nn ?_;refine ldC h ?_)
   refine Rw.ptr h 4 rfl X.r (by omega) (by rw[Int.toNat_natCast];exact ho) ?_
   (refine dr h ?_;clear h;intro w h;refine nn ?_;refine ldC h ?_)
   rw[Qu];refine it (λhc=>?_) (λhc=>?_)
   rotate_left
   ·have hc:¬o.x.rev=rev:=by simpa using hc
    refine keep ?_ (h.cl3 ho hx);rw[erv,if_neg hc,List.append_nil]
   have hc:o.x.rev=rev:=by simpa using hc
   have e:(revs (F.l.take (m+1)) rev).foldl zY none=zY ((revs (F.l.take m) rev).foldl zY none) o.x:=by rw[erv,if_pos hc,List.foldl_append];rfl
   have skip:can o.x=false→(revs (F.l.take (m+1)) rev).foldl zY none=(revs (F.l.take m) rev).foldl zY none:=by
    intro hcan;rw[e];unfold zY;rw[hcan];split
    ·rename_i h1;rw[if_neg (by decide)];exact h1.symm
    ·rename_i z h1;rw[if_neg (λhh=>by cases hh.1)];exact h1.symm
   (refine nn ?_;refine ldC h ?_)
   refine jA h 1 rfl hp0 ?_;refine it (λh2=>?_) (λh2=>?_)
   rotate_left
   ·have h2:¬o.x.pod.st=2:=by simpa using h2
    exact keep (skip (decide_eq_false λhh=>h2 hh.1)) (h.cl3 ho hx)
   have h2:o.x.pod.st=2:=by simpa using h2
   (refine nn ?_;refine ldC h ?_;refine nn ?_;refine ldC h ?_;refine nn ?_)
   subst esp;have h:=St.split (s1:=[Cl pb zx [I o.x.pod.conc,I o.x.pod.st,SlV vp]]) (s2:=srp) (h.front 1 rfl)
   (dsimp only[ze,List.cons_append,List.nil_append]at h;refine ldC h ?_)
   have h:St w0 (([Cl pb zx [I o.x.pod.conc,I o.x.pod.st,SlV vp]]++srp)::xhB o.b o.x pb::obR Q m::xfB b F.room F.last v::sr::zQ E i) w:=h.glue;have h:St w0 (xhB o.b o.x pb::([Cl pb zx [I o.x.pod.conc,I o.x.pod.st,SlV vp]]++srp)::obR Q m::xfB b F.room F.last v::sr::zQ E i) w:=h.front 1 rfl;refine JP h 1 rfl hp0 ?_;have h:=St.split (s1:=[Cl pb zx [I o.x.pod.conc,I o.x.pod.st,SlV vp]]) (s2:=srp) (h.front 1 rfl)
   (dsimp only[ze,List.cons_append,List.nil_append]at h;refine ckC h ?_)
   have h:St w0 (([Cl pb zx [I o.x.pod.conc,I o.x.pod.st,SlV vp]]++srp)::xhB o.b o.x pb::obR Q m::xfB b F.room F.last v::sr::zQ E i) w:=h.glue;have h:St w0 (xhB o.b o.x pb::([Cl pb zx [I o.x.pod.conc,I o.x.pod.st,SlV vp]]++srp)::obR Q m::xfB b F.room F.last v::sr::zQ E i) w:=h.front 1 rfl
   (dsimp only[ze,List.cons_append,List.nil_append]at h;refine ckC h ?_)
   refine it (λh3=>?_) (λh3=>?_)
   rotate_left
   ·have h3:=of_decide_eq_false h3;exact keep (skip (decide_eq_false λhh=>h3 hh.2)) (h.cl3 ho hx)
   have hcan:can o.x=true:=decide_eq_true ⟨h2,of_decide_eq_true h3⟩;rcases hB with ⟨rfl,hn2⟩ | ⟨j,p,rfl,hpj,hlj,h4⟩
   ·refine itT rfl (take ?_ (h.cl3 ho hx));rw[e,hn2];unfold zY;dsimp only;rw[if_pos hcan]
   ·refine itF rfl ?_;have e:(revs (F.l.take (m+1)) rev).foldl zY none=if can o.x=true∧o.x.pod.reqs.length<p.x.pod.reqs.length then some o.x else some p.x:=by rw[e,h4];rfl
    obtain⟨pb2,sp2,hp2,hx2⟩:=X.o p (List.mem_of_getElem? hpj)
    (refine nn ?_;refine ldC h ?_;refine nn ?_)
    have h:=h.cl3 ho hx;have h:=h.op3 hpj hx2
    (refine ldC h ?_)
    have h:=h.cl3 hpj hx2;have h:=h.op3 ho hx;refine JP h 1 rfl hp0 ?_;have h:=h.cl3 ho hx;have h:=h.op3 hpj hx2
    (refine ckC h ?_)
    refine JP h 1 rfl hp2 ?_;refine it (λh5=>?_) (λh5=>?_)
    ·have h5:=of_decide_eq_true h5;rw[if_pos ⟨hcan,by omega⟩]at e;exact take e (h.cl3 hpj hx2)
    ·have h5:=of_decide_eq_false h5;rw[if_neg (λhh=>by omega)]at e;exact keep (e.trans h4.symm) (h.cl3 hpj hx2)
  ·clear h;rintro⟨z,⟨⟩⟩ w ⟨hB,h⟩
   (try dsimp only)
   refine hag (q-1) _ w (by omega) ⟨m+1,?_,by omega,hB,h⟩;have e3:Wi ((m:Int)+1)=((m+1:Nat):Int):=by rw[wr (by omega) (by omega)];omega
   dsimp only;rw[e3]
 ·have e:F.l.take m=F.l:=List.take_of_length_le (by omega);rcases hB with ⟨rfl,h2⟩ | ⟨j,p,rfl,hpj,hlj,h4⟩
  ·rw[e]at h2;have h2:Jn F.l rev=none:=h2;rw[h2]at hk;exact itT rfl ⟨(0,false,()),rfl,hk _ w hf0 (St.back i hi h.glue3)⟩
  ·rw[e]at h4;have h4:Jn F.l rev=some p.x:=h4;rw[h4]at hk hokT;simp only at hk hokT;refine itF rfl ?_;have hc:can p.x=true:=qf (R:=revs F.l rev) (b:=none) h4 (λy hy=>by cases hy) p.x rfl |>.1
   have hc:=of_decide_eq_true hc;obtain⟨pb2,sp2,hp2,hx2⟩:=X.o p (List.mem_of_getElem? hpj);have h:=h.op3 hpj hx2
   (refine nn ?_;refine ldC h ?_)
   refine KC h 1 rfl hp2 (hfew _ (List.mem_of_getElem? hlj)) λsp' w hp' h=>?_;dsimp only[ze]at h
   (refine nn ?_;refine ldC h ?_)
   have hne:(zw p.x.pod id).1.st≠4:=by
    unfold zw
    repeat' split
    all_goals dsimp only;omega
   have X':=X.set hpj (x:={ p.x with pod:=(zw p.x.pod id).1 }) (s:=xhB p.b p.x pb2++sp') ⟨pb2,sp',hp',rfl⟩;rw[Vz ok hlj (g:=λp=>(zw p id).1) hne]at X';refine⟨(p.x.id,true,()),rfl,hk _ w ⟨hokT,v,sr,_,X',rfl⟩ (St.back i hi (St.glue3 (St.st3 hpj ⟨p.b,{ p.x with pod:=(zw p.x.pod id).1 },xhB p.b p.x pb2++sp'⟩ rfl h)))⟩
def KE(h:St w0 E w)(i:Nat){b:Nat}{F:zj}{s:Seg}(hi:nth E i=some s)(hf:XFl b F s){rev:B0}{k:Sl→PT}(hk:∀v' s' w',Rw eK Zt 3 v' (jJ F.l rev) s'→St w0 (s'::E) w'→k v' w') :
  L.call Pr Zb [pO b,.string rev] (.one (.one .slice)) k w:=by
 obtain⟨ok,v,sr,Q,X,rfl⟩:=hf;have h:=(h.front i hi).split3;refine uP X h λv' s' w r h=>?_;have h:=h.glue3;have h:St w0 (s'::(xfB b F.room F.last v++(sr++obS Q))::zQ E i) w:=h.front 1 rfl;have hd:zQ (s'::E) (i+1)=s'::zQ E i:=rfl;have hs:ze (s'::E) (i+1) (xfB b F.room F.last v++(sr++obS Q))=s'::E:=by
  show s'::ze E i _=_;rw[ZB hi]
 have h:St w0 (ze (s'::E) (i+1) (xfB b F.room F.last v++(sr++obS Q))) w:=St.back (i+1) (by exact hi) (by rw[hd];exact h.front 1 rfl);rw[hs]at h;exact hk v' s' w r h
def ua{p0 p1:Int}(h:0<p1)(hp:p1≤2147483648){k:Int→PT}(hk:k (p0%p1) w):L.call Pr Zv [I p0,I p1] (.one (.one (.int .i64))) k w:=by
 refine zm (xT p0 p1) ?_;unfold jd;refine gd (by omega) ?_;have h1:=Int.emod_nonneg p0 (by omega:p1≠0);have h2:=Int.emod_lt_of_pos p0 h;have e:=Uz p0 p1 h;refine Zs (λz w'=>z.1=p0%p1∧w'=w) (λk' hk'=>?_) (λy w' ⟨h1,h2⟩=>by subst h2;exact⟨_,rfl,by rw[h1];exact hk⟩);refine it (λhb=>?_) (λhb=>?_)<;>(try simp only[zB]at hb)
 ·refine hk' _ _ ⟨?_,rfl⟩;rw[e]at hb
  (try dsimp only)
  rw[e];split at hb<;>rename_i hc
  ·omega
  ·rw[if_neg hc,wr]<;>omega
 ·refine hk' _ _ ⟨?_,rfl⟩;rw[e]at hb
  (try dsimp only)
  rw[e];split at hb<;>rename_i hc
  ·rw[if_pos hc]
  ·omega
def oN(h:St w0 E w){k:Bool→PT}(hk:∀w',St w0 E w'→k true w'):L.call Pr Ye [] (.one (.one .bool)) k w:=by
 refine zm Xp ?_;unfold jm;refine KP h λb s w hf h=>itF rfl ?_;refine VP h 0 rfl hf (itF rfl ?_);refine uc h 0 rfl hf (by decide) (by decide) λv1 v2 s s1 s2 w hf hr1 hr2 h=>?_;have e1:Jo ⟨3,0,[]⟩ xm 1 = [1]:=by decide
 have e2:(Yv ⟨3,0,[]⟩ xm 2 1)=(⟨3,1,[⟨1,xm,⟨1,2,[]⟩⟩]⟩,[]):=by rfl
 rw[e1]at hr1;rw[e2]at hf hr2;have hl1:=Rw.len ZR hr1;have hl2:=Rw.len ZR hr2;refine itT (by simp[hl1]) ?_;refine Rw.ix ZR hr1 (by omega) (by simp) λa ha=>?_;refine Rw.ld0 ZR h 1 rfl hr1 ha (x:=1) rfl rfl rfl ?_;refine itT rfl (itT (by simp[hl2]) ?_);refine VP h 2 rfl hf (itT rfl ?_);refine gp h 2 rfl hf (itT ?_ ?_)
 ·rw[Qu];rfl
 refine Oc h 2 rfl hf (λh=>by cases h) λx hx s w hf h=>?_
 cases hx
 refine⟨true,rfl,hk w ?_⟩;have h:=xf (Vj (Vi h));exact h
def UG(l:List zh)(r:B0)(id:Int)(g:Zl→Zl):revs (ZE l id g) r=ZE (revs l r) id g:=by
 unfold revs ZE;rw[List.filter_filterMap,List.filterMap_filter]
 congr 1
 funext x
 by_cases hr:x.rev=r
 ·rw[if_pos (decide_eq_true hr)]
  repeat' split
  all_goals simp[hr]
 ·have hd:decide (x.rev=r)=false:=decide_eq_false hr;rw[hd]
  repeat' split
  all_goals simp_all
def idJ{F:zj}(ok:F.Ok){x y:zh}(hx:x∈F.l)(hy:y∈F.l)(e:x.id=y.id):x=y:=by
 have h:=ok.pw;generalize F.l=l at *
 induction l with
 | nil=>cases hx
 | cons z l ih=>
  rw[List.pairwise_cons]at h;rcases List.mem_cons.1 hx with e1 | h1
  ·rcases List.mem_cons.1 hy with e2 | h2
   ·rw[e1,e2]
   ·have:=h.1 y h2;rw[←e1]at this;omega
  ·rcases List.mem_cons.1 hy with e2 | h2
   ·have:=h.1 x h1;rw[←e2]at this;omega
   ·exact ih h1 h2 h.2
def Od{l:List zh}{id:Int}{g:Zl→Zl}(h:∀x∈l,x.id≠id):ZE l id g=l:=by
 unfold ZE
 induction l with
 | nil=>rfl
 | cons x l ih=>rw[List.filterMap_cons,if_neg (h x (List.mem_cons_self ..)),ih λy hy=>h y (List.mem_cons_of_mem _ hy)]
def UU{l:List zh}{id:Int}{g:Zl→Zl}{y:zh}(h:y∈ZE l id g):y∈l∨∃x∈l,x.id=id∧y = { x with pod:=g x.pod }:=by
 unfold ZE at h;obtain⟨x,hx,e⟩:=List.mem_filterMap.1 h;split at e
 ·rename_i h1;split at e
  ·cases e
  ·cases e;exact .inr ⟨x,hx,h1,rfl⟩
 ·cases e;exact .inl hx
abbrev vRa:B0:=xm
abbrev vRb:B0:=kQ
structure PkP(x:zh):Prop where
 rv:x.rev=vRa∨x.rev=vRb
 qa:x.rev=vRa→∀q∈x.pod.reqs,q≤20
 qb:x.rev=vRb→∀q∈x.pod.reqs,100≤q
 cp:(x.pod.reqs.length:Int)≤2∧x.pod.conc≤2
structure ApI(i:Nat)(F X:zj):Prop where
 ok:F.Ok
 okX:X.Ok
 eq:revs F.l vRa=X.l
 all:∀x∈F.l,PkP x
 room:F.room=30∧F.l.length≤30
 last:3≤F.last∧F.last≤3+30*(i:Int)
 lx:X.last=3∧X.l.length≤30
section
variable {i:Nat}{F X:zj}
def ApI.xa(A:ApI i F X):∀x∈X.l,x∈F.l∧x.rev=vRa:=λx hx=>by
 rw[←A.eq]at hx;have:=List.mem_filter.1 hx;exact⟨this.1,of_decide_eq_true this.2⟩
def ApI.rx(A:ApI i F X):revs X.l vRa=X.l:=List.filter_eq_self.2 λx hx=>decide_eq_true (A.xa x hx).2
def ApI.mono(A:ApI i F X):ApI (i+1) F X:=⟨A.ok,A.okX,A.eq,A.all,A.room,by have:=A.last;omega,A.lx⟩
def uS(l:List zh)(id:Int)(g:Zl→Zl):(ZE l id g).length≤l.length:=List.length_filterMap_le ..
def ApI.updB(A:ApI i F X){id:Int}{g:Zl→Zl}(hid:∀x∈F.l,x.id=id→x.rev=vRb)(ok:({ F with l:=ZE F.l id g }:zj).Ok)
  (hp:∀x∈F.l,x.id=id→PkP x→PkP { x with pod:=g x.pod }):ApI i { F with l:=ZE F.l id g } X:=by
 refine⟨ok,A.okX,?_,λy hy=>?_,⟨A.room.1,Nat.le_trans (uS ..) A.room.2⟩,A.last,A.lx⟩
 ·show revs (ZE F.l id g) vRa=X.l;rw[UG,A.eq];refine Od λx hx e=>?_;have h1:=A.xa x hx;have h2:=hid x h1.1 e;rw[h1.2]at h2;exact absurd h2 (by decide)
 ·rcases UU hy with hy | ⟨x,hx,h1,rfl⟩
  ·exact A.all y hy
  ·exact hp x hx h1 (A.all x hx)
def kJ(A:ApI i F X){q:Int}(hq:q≤20):(zP F.l q).isSome=(zP X.l q).isSome:=by
 unfold zP;rw[Bool.eq_iff_iff,List.find?_isSome,List.find?_isSome];constructor
 ·rintro⟨x,hx,hx2⟩;have h1:q∈x.pod.reqs:=by simpa using hx2
  have hp:=A.all x hx;have hr:x.rev=vRa:=by
   rcases hp.rv with h | h
   ·exact h
   ·have:=hp.qb h q h1;omega
  exact⟨x,by rw[←A.eq];exact List.mem_filter.2 ⟨hx,decide_eq_true hr⟩,hx2⟩
 ·rintro⟨x,hx,hx2⟩;exact⟨x,(A.xa x hx).1,hx2⟩
def QB{x:zh}(hp:PkP x){q:Int}(hq:(x.rev=vRa→q≤20)∧(x.rev=vRb→100≤q)):PkP { x with pod:=(zw x.pod q).1 }:=by
 unfold zw
 repeat' split
 all_goals first | exact hp | skip
 rename_i h1 h2 h3;have hc:=hp.cp;refine⟨hp.rv,λhr z hz=>?_,λhr z hz=>?_,?_,hc.2⟩
 ·rcases(jx q x.pod.reqs).mem_iff.1 hz |> List.mem_cons.1 with rfl | hz
  ·exact hq.1 hr
  ·exact hp.qa hr z hz
 ·rcases(jx q x.pod.reqs).mem_iff.1 hz |> List.mem_cons.1 with rfl | hz
  ·exact hq.2 hr
  ·exact hp.qb hr z hz
 ·have:=(jx q x.pod.reqs).length_eq;dsimp only;rw[this,List.length_cons];omega
def oA(A:ApI i F X){q:Int}(hq:q≤20):(ZD F vRa q).2=(ZD X vRa q).2∧ApI i (ZD F vRa q).1 (ZD X vRa q).1:=by
 have h1:=xF A.ok vRa q;have h2:=xF A.okX vRa q;have hw:=kJ A hq;have hpk:Jn F.l vRa=Jn X.l vRa:=by unfold Jn;rw[A.eq,A.rx]
 unfold ZD at h1 h2 ⊢;rw[hw,hpk]at h1 ⊢;split
 ·exact⟨rfl,A⟩
 ·rename_i hn;rw[if_neg hn]at h1 h2
  cases hp:Jn X.l vRa with
  | none=>exact⟨rfl,A⟩
  | some x=>
   rw[hp]at h1 h2;dsimp only at h1 h2 ⊢;have e1:(ZE F.l x.id λp=>(zw p q).1).length≤F.l.length:=uS ..;have e2:(ZE X.l x.id λp=>(zw p q).1).length≤X.l.length:=uS ..;have a1:=A.room;have a2:=A.lx;refine⟨rfl,h1,h2,?_,λy hy=>?_,⟨a1.1,Nat.le_trans e1 a1.2⟩,A.last,⟨a2.1,Nat.le_trans e2 a2.2⟩⟩
   ·dsimp only;rw[UG,A.eq]
   ·dsimp only at hy;rcases UU hy with hy | ⟨z,hz,h3,rfl⟩
    ·exact A.all y hy
    ·refine QB (A.all z hz) ⟨λ_=>hq,λhr=>?_⟩;have hx:x∈X.l:=by
      have:=(qf (R:=revs X.l vRa) (b:=none) hp (λy hy=>by cases hy) x rfl).2;rcases this with h | h
      ·rw[A.rx]at h;exact h
      ·cases h
     have hxa:=A.xa x hx;have he:z=x:=idJ A.ok hz hxa.1 h3;rw[he,hxa.2]at hr;exact absurd hr (by decide)
def oU{x:zh}(hp:PkP x){pd:Zl}(h1:pd.reqs=x.pod.reqs)(h2:pd.conc=x.pod.conc):PkP { x with pod:=pd }:=by
 refine⟨hp.rv,?_,?_,?_⟩
 ·rw[h1];exact hp.qa
 ·rw[h1];exact hp.qb
 ·rw[h1,h2];exact hp.cp
def Ky(A:ApI i F X){q:Int}(hq:100≤q):ApI i (ZD F vRb q).1 X:=by
 have h1:=xF A.ok vRb q;unfold ZD at h1 ⊢;split
 ·exact A
 ·rename_i hn;rw[if_neg hn]at h1
  cases hp:Jn F.l vRb with
  | none=>exact A
  | some x=>
   rw[hp]at h1;dsimp only at h1 ⊢;have hx:x∈F.l∧x.rev=vRb:=by
    have:=(qf (R:=revs F.l vRb) (b:=none) hp (λy hy=>by cases hy) x rfl).2;rcases this with h | h
    ·have:=List.mem_filter.1 h;exact⟨this.1,of_decide_eq_true this.2⟩
    ·cases h
   have he:∀z∈F.l,z.id=x.id→z.rev=vRb:=λz hz e=>by rw[idJ A.ok hz hx.1 e];exact hx.2
   exact A.updB he h1 λz hz e hp=>QB hp ⟨λhr=>by rw[he z hz e]at hr;exact absurd hr (by decide),λ_=>hq⟩
def oB(A:ApI i F X){q:Int}(hq:100≤q):ApI i (xG F q).1 X:=by
 have h1:=ow A.ok q;unfold xG at h1 ⊢
 cases hw:zP F.l q with
 | none=>exact A
 | some x=>
  rw[hw]at h1;dsimp only at h1 ⊢;obtain⟨hx,hqx⟩:=xE hw;have hp:=A.all x hx;have hr:x.rev=vRb:=by
   rcases hp.rv with h | h
   ·have:=hp.qa h q hqx;omega
   ·exact h
  have he:∀z∈F.l,z.id=x.id→z.rev=vRb:=λz hz e=>by rw[idJ A.ok hz hx e];exact hr
  refine A.updB he h1 λz hz e hp=>?_;unfold Zr;split
  ·have hc:=hp.cp;refine⟨hp.rv,λhr y hy=>hp.qa hr y (List.mem_of_mem_erase hy),λhr y hy=>hp.qb hr y (List.mem_of_mem_erase hy),?_,hc.2⟩;have:=List.length_erase_le (a:=q) (l:=z.pod.reqs);dsimp only;omega
  ·exact hp
def gk(A:ApI i F X){id:Int}(hid:4≤id):ApI i (XH F id).1 X:=by
 have h1:=Vu A.ok id;unfold XH at h1 ⊢
 cases hw:yF F.l id with
 | none=>exact A
 | some x=>
  rw[hw]at h1;dsimp only at h1 ⊢;have he:∀z∈F.l,z.id=id→z.rev=vRb:=λz hz e=>by
   rcases(A.all z hz).rv with h | h
   ·have hm:z∈X.l:=by rw[←A.eq];exact List.mem_filter.2 ⟨hz,decide_eq_true h⟩
    have:=(A.okX.rng z hm).2;rw[A.lx.1]at this;omega
   ·exact h
  refine A.updB he h1 λz hz e hp=>?_;unfold Zu;split
  ·exact hp
  ·exact oU hp rfl rfl
def VM(A:ApI i F X)(hi:i≤1000):∀(n:Nat),F.l.length+n≤30→F.last+n≤3+30*((i+1:Nat):Int)→ApI (i+1) (grow vRb 1 n F) X
 | 0,_,_=>A.mono
 | n+1,h1,h2=>by
  have ih:=VM A hi n (by omega) (by omega);have hl:=jH (rev:=vRb) (conc:=1) (F:=F) n;have hla:=jz (rev:=vRb) (conc:=1) (F:=F) n;have:=A.last;refine⟨QQ ih.ok (by omega) (by omega),A.okX,?_,λx hx=>?_,?_,?_,A.lx⟩
  ·show revs ((grow vRb 1 n F).l++[_]) vRa=X.l;have h3:=ih.eq;unfold revs at h3 ⊢;rw[List.filter_append,h3,List.filter_cons,if_neg (show ¬decide (vRb=vRa)=true by decide)];simp
  ·have hx:x∈(grow vRb 1 n F).l++[⟨(grow vRb 1 n F).last+1,vRb,⟨1,1,[]⟩⟩]:=hx;rcases List.mem_append.1 hx with hx | hx
   ·exact ih.all x hx
   ·rw[List.mem_singleton]at hx;subst hx;exact⟨.inr rfl,λ_ q hq=>(by cases hq),λ_ q hq=>(by cases hq),by show(0:Int)≤2∧(1:Int)≤2;decide⟩
  ·have h4:=jH (rev:=vRb) (conc:=1) (F:=F) (n+1);have h5:=Xb (rev:=vRb) (conc:=1) (F:=F) (n+1);exact⟨h5.trans A.room.1,by omega⟩
  ·have h4:=jz (rev:=vRb) (conc:=1) (F:=F) (n+1);omega
def uO:∀{n:Nat}{F:zj},ApI i F X→n≤zt F.l vRb→ApI i (Yb vRb n F).1 X
 | 0,F,A,_=>A
 | n+1,F,A,h=>by
  simp only[Yb];obtain⟨y,hy,hr,hst⟩:=xZ (rev:=vRb) A.ok (by omega);have hd:=qJ A.ok (rev:=vRb) (by omega);have hc:=xe A.ok (rev:=vRb) (by omega);refine uO ?_ (by omega);obtain⟨hm,hid⟩:=yj hy;unfold YV at hd ⊢;refine A.updB (λz hz e=>?_) hd λz hz e hp=>?_
  ·rw[idJ A.ok hz hm (e.trans hid.symm)];exact hr
  ·unfold zG;split
   ·exact hp
   ·exact oU hp rfl rfl
def KA(A:ApI i F X)(hi:i≤1000){want:Int}(hw:0≤want):ApI (i+1) (Yv F vRb 1 want).1 X∧(∀x∈Jo F vRb want,4≤x)∧(Jo F vRb want).length≤30:=by
 have hg:=vi F vRb want;have hr:=A.room;have hl:=A.last;have hlo:0≤F.last:=A.ok.lo;have hcl:=Xh (rev:=vRb) F.l;have hgn:F.l.length+ZG F vRb want≤30:=by omega
 have A2:=VM A hi (ZG F vRb want) hgn (by omega);have hcg:zt (Zx F vRb 1 want).l vRb=zt F.l vRb+ZG F vRb want:=XF _;refine⟨?_,λx hx=>?_,?_⟩
 ·unfold Yv;exact uO A2 (by have:=vH (Zx F vRb 1 want) vRb want;omega)
 ·unfold Jo at hx;obtain⟨j,-,rfl⟩:=List.mem_map.1 hx;omega
 ·unfold Jo;rw[List.length_map,List.length_range];omega
end
end Go.Proofs.Ytofigcbhafkikaa
namespace Go.Proofs.Ytofigcbhafkikaa
open Go.Dm
attribute [local irreducible] L.load L.store L.chk L.new L.nonnil L.guard L.ite L.draw L.idx L.sem L.semR L.semU L.chkSem L.next L.call L.callV L.join L.alts L.loop L.begin L.endRound L.range
variable {w0 w:World}{E:List Seg}
def apS:Nat→zj
 | 0=>(Yv ⟨30,0,[]⟩ vRa 2 3).1
 | n+1=>(XH (apS n) ((n:Int)+1)).1
def Kz:apS 3=⟨30,3,[⟨1,vRa,⟨2,2,[]⟩⟩,⟨2,vRa,⟨2,2,[]⟩⟩,⟨3,vRa,⟨2,2,[]⟩⟩]⟩:=by kernel_rfl
def kB(ok:(apS 3).Ok):ApI 0 (apS 3) (apS 3):=by
 rw[Kz]at ok ⊢;have hp:∀id:Int,PkP ⟨id,vRa,⟨2,2,[]⟩⟩:=λid=>⟨.inl rfl,λ_ q hq=>(by cases hq),λ_ q hq=>(by cases hq),by show(0:Int)≤2∧(2:Int)≤2;decide⟩;refine⟨ok,ok,by kernel_rfl,λx hx=>?_,⟨rfl,by decide⟩,⟨by decide,by decide⟩,rfl,by decide⟩;rcases List.mem_cons.1 hx with rfl | hx
 ·exact hp 1
 rcases List.mem_cons.1 hx with rfl | hx
 ·exact hp 2
 rcases List.mem_cons.1 hx with rfl | hx
 ·exact hp 3
 ·cases hx
def ApI.few{i:Nat}{F X:zj}(A:ApI i F X):(∀x∈F.l,x.pod.reqs.length<10000000)∧(∀x∈X.l,x.pod.reqs.length<10000000)∧∀r,(revs F.l r).length≤30:=
 ⟨λx hx=>by have:=(A.all x hx).cp;omega,λx hx=>by have:=(A.all x (A.xa x hx).1).cp;omega,λr=>Nat.le_trans (List.length_filter_le ..) A.room.2⟩
def Ur{p0 p1:Sl}{xs ys:List Int}(o0:Old w0 eI p0 xs)(o1:Old w0 eI p1 ys):Calls Pr Yg [SlV p0,SlV p1].toArray w0 λe w'=>e = .returned (.bool true)∧St w0 [] w':=by
 refine Oq (JE p0 p1) ?_;unfold Yl;have h:=St.init w0;have hl0:=o0.rd.len;have hl1:=o1.rd.len;refine oN h λw h=>itF rfl ?_;refine KP h λbf sf w hf h=>?_;refine oF h λbx sx w hx h=>?_;refine itF rfl ?_;refine uc h 1 rfl hf (by decide) (by decide) λv1 v2 sf s1 s2 w hf r1 r2 h=>?_;dsimp only[ze]at h;have h:St w0 (sx::sf::[]) w:=xf (xf h);refine kE h 0 rfl hx (by decide) (by decide) (by decide) (by decide) λvm sm vg sg sx w r1 r2 hx h=>?_;dsimp only[ze]at h;have h:St w0 (sx::sf::[]) w:=xf (xf h);clear r1 r2;refine zK (λq y w=>∃(j:Nat)(sx sf:Seg),y=((j:Int)+1,())∧q+j=3∧FlS bf (apS j) sf∧XFl bx (apS j) sx∧St w0 (sx::sf::[]) w) 3 ⟨0,sx,sf,rfl,rfl,hf,hx,h⟩ ?_;clear hf hx;clear h;rintro q y w ⟨j,sx,sf,rfl,hq,hf,hx,h⟩ again hag
 (try dsimp only)
 refine it (λhb=>?_) (λhb=>?_)<;>(try simp only[zB]at hb)
 ·refine KO h 1 rfl hf λsf w hf h=>?_;dsimp only[ze]at h;refine OD h 0 rfl hx λsx w hx h=>?_;dsimp only[ze]at h;refine hag (q-1) _ w (by omega) ⟨j+1,sx,sf,?_,by omega,hf,hx,h⟩;rw[wr (by omega) (by omega)];have:(j:Int)+1+1=((j+1:Nat):Int)+1:=by omega
  rw[this]
 have hj:j=3:=by omega
 subst hj;clear hag again;refine Zs (λ_ w=>∃(F X:zj)(sx sf:Seg)(i:Nat),ApI i F X∧FlS bf F sf∧XFl bx X sx∧St w0 (sx::sf::[]) w) (λk10 hk10=>?_) ?_
 ·refine zK (λq y w=>∃(j:Nat)(F X:zj)(sx sf:Seg),y=((j:Int),())∧q+j=30∧j≤30∧ApI j F X∧FlS bf F sf∧XFl bx X sx∧St w0 (sx::sf::[]) w) 30 ⟨0,apS 3,apS 3,sx,sf,rfl,rfl,by decide,kB hf.1,hf,hx,h⟩ ?_;clear hf hx;clear h;rintro q y w ⟨j,F,X,sx,sf,rfl,hq,hj,A,hf,hx,h⟩ again hag
  (try dsimp only)
  refine it (λhb=>?_) (λhb=>?_)<;>(try simp only[zB]at hb)
  ·refine it (λhb2=>?_) (λhb2=>?_)<;>(try simp only[zB]at hb2)
   ·refine Zs (λ_ w=>∃(F X:zj)(sx sf:Seg),ApI (j+1) F X∧FlS bf F sf∧XFl bx X sx∧St w0 (sx::sf::[]) w) (λk14 hk14=>?_) ?_
    ·refine Ol o0 ZR h (lf:=.int .i64) (λx=>x) (λx=>⟨_,rfl,rfl⟩) (by omega) hb λx hx0=>?_;refine ua (by decide) (by decide) ?_;obtain⟨m,hm⟩:∃m:Nat,@id Int x%20=(m:Int):=⟨(@id Int x%20).toNat,by omega⟩;have hm:(λx=>x) x%20=(m:Int):=hm;rw[hm,wr (n:=1+(m:Int)) (by omega) (by omega)];have hm20:(m:Int)<20:=by
      have:=Int.emod_lt_of_pos (@id Int x) (show(0:Int)<20 by decide);have e: @id Int x%20=(m:Int):=hm;omega
     have hfew:=A.few;refine VO h 1 rfl hf (hfew.2.2 _) hfew.1 λsf w hf h=>?_;dsimp only[ze]at h;refine KD h 0 rfl hx hfew.2.1 λsx w hx h=>?_;dsimp only[ze]at h;obtain⟨e2,A⟩:=oA A (q:=1+(m:Int)) (by omega);have e3:(ZD F vRa (1+(m:Int))).2.1=(ZD X vRa (1+(m:Int))).2.1:=by rw[e2]
     have e4:(ZD F vRa (1+(m:Int))).2.2=(ZD X vRa (1+(m:Int))).2.2:=by rw[e2]
     refine itF (by show((ZD F vRa (1+(m:Int))).2.1 != (ZD X vRa (1+(m:Int))).2.1)=false;rw[e3];simp) ?_;refine itF (by show(!((ZD F vRa (1+(m:Int))).2.2 == (ZD X vRa (1+(m:Int))).2.2))=false;rw[e4];simp) ?_;clear e2 e3 e4;have hf:FlS bf (ZD F vRa (1+(m:Int))).1 sf:=hf;have hx:XFl bx (ZD X vRa (1+(m:Int))).1 sx:=hx;generalize (ZD F vRa (1+(m:Int))).1=F1 at *
     generalize (ZD X vRa (1+(m:Int))).1=X1 at *
     refine it (λhc=>?_) (λhc=>?_)<;>(try simp only[zB]at hc)
     ·refine Ol o1 ZR h (lf:=.int .i64) (λx=>x) (λx=>⟨_,rfl,rfl⟩) (by omega) hc λy hy0=>?_;refine ua (by decide) (by decide) ?_;have hw6:0≤@id Int y%6:=Int.emod_nonneg _ (by decide);have hr:=A.room;have hla:=A.last;refine uc h 1 rfl hf (by omega) (by omega) λv1 v2 sf s1 s2 w hf r1 r2 h=>?_;dsimp only[ze]at h;obtain⟨A,hmade,hmlen⟩:=KA A (by omega) hw6;have h:St w0 (s1::sx::sf::[]) w:=xf h;have hf:FlS bf (Yv F1 vRb 1 (@id Int y%6)).1 sf:=hf;have r1:Rw eI zA 1 v1 (Jo F1 vRb (@id Int y%6)) s1:=r1;generalize (Yv F1 vRb 1 (@id Int y%6)).1=F2 at *
      generalize Jo F1 vRb (@id Int y%6)=M at *
      have hlm:=Rw.len ZR r1;refine zK (λq y w=>∃(t:Nat)(F:zj)(sf:Seg),y=((t:Int),())∧q+t=M.length∧ApI (j+1) F X1∧FlS bf F sf∧St w0 (s1::sx::sf::[]) w) M.length ⟨0,F2,sf,rfl,rfl,A,hf,h⟩ ?_;clear hf A hr hla;clear h;rintro q2 y2 w ⟨t,F,sf,rfl,hq2,A,hf,h⟩ again2 hag2
      (try dsimp only)
      refine it (λhd=>?_) (λhd=>?_)<;>(try simp only[zB]at hd)
      ·have ht:t<M.length:=by omega
       have hx1:M[t]? = some M[t]:=List.getElem?_eq_getElem ht;have hm4:=hmade M[t] (List.getElem_mem ht);generalize M[t]=z at hx1 hm4;refine Rw.ix ZR r1 (n:=(t:Int)) (by omega) (by rw[Int.toNat_natCast];exact ht) λa ha=>?_;rw[Int.toNat_natCast]at ha;refine Rw.ld0 ZR h 0 rfl r1 ha hx1 rfl rfl ?_;refine KO h 2 rfl hf λsf w hf h=>?_;dsimp only[ze]at h;refine hag2 (q2-1) _ w (by omega) ⟨t+1,_,sf,?_,by omega,gk A hm4,hf,h⟩;have e3:Wi ((t:Int)+1)=((t+1:Nat):Int):=by rw[wr (by omega) (by omega)];omega
       rw[e3]
      have h:=xf h;rw[wr (n:=100+(j:Int)) (by omega) (by omega)];have hfew:=A.few;refine VO h 1 rfl hf (hfew.2.2 _) hfew.1 λsf w hf h=>?_;dsimp only[ze]at h;have A:=Ky A (q:=100+(j:Int)) (by omega);refine Ol o1 ZR h (lf:=.int .i64) (λx=>x) (λx=>⟨_,rfl,rfl⟩) (by omega) hc λy3 hy3=>?_;refine ua (by decide) (by decide) ?_;obtain⟨m3,hm3⟩:∃m:Nat,@id Int y3%30=(m:Int):=⟨(@id Int y3%30).toNat,by omega⟩;have hm30:(m3:Int)<30:=by
       have:=Int.emod_lt_of_pos (@id Int y3) (show(0:Int)<30 by decide);omega
      have hm3:(λx=>x) y3%30=(m3:Int):=hm3;rw[hm3,wr (n:=100+(m3:Int)) (by omega) (by omega)];refine oP h 1 rfl hf λsf w hf h=>?_;dsimp only[ze]at h;exact hk14 () w ⟨_,_,sx,sf,oB A (q:=100+(m3:Int)) (by omega),hf,hx,h⟩
     ·exact hk14 () w ⟨_,_,sx,sf,A.mono,hf,hx,h⟩
    ·clear hf hx A h;rintro-w ⟨F,X,sx,sf,A,hf,hx,h⟩
     (try dsimp only)
     refine hag (q-1) _ w (by omega) ⟨j+1,F,X,sx,sf,?_,by omega,by omega,A,hf,hx,h⟩;have e3:Wi ((j:Int)+1)=((j+1:Nat):Int):=by rw[wr (by omega) (by omega)];omega
     rw[e3]
   ·exact hk10 () w ⟨F,X,sx,sf,j,A,hf,hx,h⟩
  ·exact hk10 () w ⟨F,X,sx,sf,j,A,hf,hx,h⟩
 clear hf hx h;rintro-w ⟨F,X,sx,sf,i,A,hf,hx,h⟩
 (try dsimp only)
 refine oO h 1 rfl hf λva sa w ra h=>?_;refine KE h 1 rfl hx λvb sb w rb h=>?_;have e:jJ X.l vRa=jJ F.l vRa:=by unfold jJ;rw[A.eq,A.rx]
 rw[e]at rb;have ha:=Rw.len JN ra;have hb:=Rw.len JN rb;have hlen:(jJ F.l vRa).length≤30:=by unfold jJ;rw[List.length_map];exact A.few.2.2 _
 generalize jJ F.l vRa=P at *
 refine itF (by rw[ha,hb];simp) ?_;refine zK (λq y w=>∃t:Nat,y=((t:Int),())∧q+t=P.length∧St w0 (sb::sa::sx::sf::[]) w) P.length ⟨0,rfl,rfl,h⟩ ?_;clear h;rintro q y w ⟨t,rfl,hq,h⟩ again hag
 (try dsimp only)
 refine it (λhd=>?_) (λhd=>?_)<;>(try simp only[zB]at hd)
 ·have ht:t<P.length:=by omega
  have hx1:P[t]? = some P[t]:=List.getElem?_eq_getElem ht;generalize P[t]=z at hx1;refine dr h λw h=>?_;have ia:∀{kk:Addr→PT}{w:World},(∀a,ElA va 3 t a→kk a w)→L.idx va.a (t:Int) va.len 3 kk w:=λhk=>Rw.ix JN ra (n:=(t:Int)) (by omega) (by rw[Int.toNat_natCast];exact ht) λa ha=>hk a (by rw[Int.toNat_natCast]at ha;exact ha);have ib:∀{kk:Addr→PT}{w:World},(∀a,ElA vb 3 t a→kk a w)→L.idx vb.a (t:Int) vb.len 3 kk w:=λhk=>Rw.ix JN rb (n:=(t:Int)) (by omega) (by rw[Int.toNat_natCast];exact ht) λa ha=>hk a (by rw[Int.toNat_natCast]at ha;exact ha);refine ia λa ha=>Rw.ld JN h 1 rfl ra ha hx1 (f:=0) (y:=z.1) rfl rfl ?_;refine ib λa ha=>Rw.ld JN h 0 rfl rb ha hx1 (f:=0) (y:=z.1) rfl rfl ?_;refine itF (by simp) ?_;refine ia λa ha=>Rw.ld JN h 1 rfl ra ha hx1 (f:=1) (y:=z.2.1) rfl rfl ?_;refine ib λa ha=>Rw.ld JN h 0 rfl rb ha hx1 (f:=1) (y:=z.2.1) rfl rfl ?_;refine itF (by simp) ?_;refine ia λa ha=>Rw.ld JN h 1 rfl ra ha hx1 (f:=2) (y:=z.2.2) rfl rfl ?_;refine ib λa ha=>Rw.ld JN h 0 rfl rb ha hx1 (f:=2) (y:=z.2.2) rfl rfl ?_;refine itF (by simp) ?_;refine hag (q-1) _ w (by omega) ⟨t+1,?_,by omega,h⟩;have e3:Wi ((t:Int)+1)=((t+1:Nat):Int):=by rw[wr (by omega) (by omega)];omega
  rw[e3]
 ·exact⟨rfl,h.fin⟩
end Go.Proofs.Ytofigcbhafkikaa
