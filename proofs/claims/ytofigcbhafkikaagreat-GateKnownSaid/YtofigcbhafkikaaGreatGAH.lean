/- What is proved on the way to a statement of the seat, pressed (text AH). No conditions beyond those its theorems state. -/
import Derived.Test.YtofigcbhafkikaaGreatGAG
import Derived.Lib.LaidTab
import Derived.Lib.Join
import Derived.Lib.ItoaNum
import Derived.Lib.ItoaMem
import Derived.Below
set_option linter.all false
namespace Go.Dm
def zB:(∀(p:Prop)[Decidable p],(decide p=true)=p)∧(∀(p:Prop)[Decidable p],(decide p=false) = ¬p)∧(∀{α:Type}[BEq α][LawfulBEq α](a b:α),((a == b)=true)=(a=b))∧(∀{α:Type}[BEq α][LawfulBEq α](a b:α),((a != b)=true) = ¬(a=b))∧(∀{α:Type}[BEq α][LawfulBEq α](a b:α),((a == b)=false) = ¬(a=b))∧(∀{α:Type}[BEq α][LawfulBEq α](a b:α),((a != b)=false)=(a=b))∧
 (∀b:Bool,((!b)=true)=(b=false))∧(∀b:Bool,((!b)=false)=(b=true))∧(∀b:Bool,(¬(b=true))=(b=false))∧(∀b:Bool,(¬(b=false))=(b=true))∧(∀{α:Type}(a b:α),(a≠b) = ¬(a=b)):=by
 refine⟨?_,?_,?_,?_,?_,?_,?_,?_,?_,?_,?_⟩<;>intros<;>simp
end Go.Dm
namespace Go.Proofs.YtofigcbhafkikaaGreat
open Go.Dm
variable {w0 w:World}{E:List Seg}
def wr{n:Int}(h1: -9223372036854775808≤n)(h2:n<9223372036854775808):Wi n=n:=by unfold Wi;rw[IntKind.wrap_i64];omega
def elI:El Pr zQ zk 1 8 (I 0):=Kz (by kernel_rfl) (by kernel_rfl) rfl (by decide)
def eI(n:Int):List Value:=[I n]
def yO:Enc eI 1:=⟨λ_=>rfl,λ_=>rfl,by decide⟩
def kM(p0 p1:Int)(h:0<p1):Int.tmod p0 p1=if 0≤p0∨p1∣p0 then p0%p1 else p0%p1-p1:=by
 rw[Int.tmod_eq_emod];split
 ·simp
 ·omega
end Go.Proofs.YtofigcbhafkikaaGreat

namespace Go.Proofs
open Go.Shelf
def Tryz.lays189_ren:Go.Shelf.Ren:=⟨fun | 189=>44 | 125=>61 | 257=>60 | 128=>82 | 129=>83 | 294=>73 | 295=>74 | 296=>75 | 297=>76 | 298=>77 | 299=>78 | 216=>79 | 300=>80 | 301=>81 | 328=>90 | 329=>91 | 330=>92 | 331=>93 | 332=>94 | 215=>95 | 343=>107 | n=>n,fun | 28=>30 | 3=>3 | 46=>129 | 0=>0 | 51=>150 | 53=>152 | 4=>4 | 183=>144 | 182=>143 | 131=>81 | 5=>5 | 9=>9 | 218=>157 | 222=>161 | 228=>171 | 229=>172 | n=>n,fun | n=>n⟩
def Tryz.lays189:Go.Proofs.Lays.n189 Tryz.prog Tryz.lays189_ren:={
 mixed:=by kernel_rfl
 f125:=Tryz.func61.trans cS
 f128:=Tryz.func82.trans cS
 f129:=Tryz.func83.trans cS
 f189:=Tryz.func44.trans cS
 f215:=Tryz.func95.trans cS
 f216:=Tryz.func79.trans cS
 f257:=Tryz.func60.trans cS
 f294:=Tryz.func73.trans cS
 f295:=Tryz.func74.trans cS
 f296:=Tryz.func75.trans cS
 f297:=Tryz.func76.trans cS
 f298:=Tryz.func77.trans cS
 f299:=Tryz.func78.trans cS
 f300:=Tryz.func80.trans cS
 f301:=Tryz.func81.trans cS
 f328:=Tryz.func90.trans cS
 f329:=Tryz.func91.trans cS
 f330:=Tryz.func92.trans cS
 f331:=Tryz.func93.trans cS
 f332:=Tryz.func94.trans cS
 f343:=Tryz.func107.trans cS
 t0:=Tryz.underlying0
 a0:=Tryz.isAgg0
 z0:=Tryz.sizeOf0
 v0:=Tryz.zeroValue0
 t3:=Tryz.underlying3
 a3:=Tryz.isAgg3
 z3:=Tryz.sizeOf3
 v3:=Tryz.zeroValue3
 t4:=Tryz.underlying4
 a4:=Tryz.isAgg4
 z4:=Tryz.sizeOf4
 v4:=Tryz.zeroValue4
 t5:=Tryz.underlying5
 a5:=Tryz.isAgg5
 z5:=Tryz.sizeOf5
 v5:=Tryz.zeroValue5
 t9:=Tryz.underlying9
 a9:=Tryz.isAgg9
 z9:=Tryz.sizeOf9
 v9:=Tryz.zeroValue9
 t28:=Tryz.underlying30
 a28:=Tryz.isAgg30
 z28:=Tryz.sizeOf30
 v28:=Tryz.zeroValue30
 t46:=Tryz.underlying129
 a46:=Tryz.isAgg129
 z46:=Tryz.sizeOf129
 v46:=Tryz.zeroValue129
 t51:=Tryz.underlying150
 a51:=Tryz.isAgg150
 z51:=Tryz.sizeOf150
 v51:=Tryz.zeroValue150
 t53:=Tryz.underlying152
 a53:=Tryz.isAgg152
 z53:=Tryz.sizeOf152
 v53:=Tryz.zeroValue152
 t131:=Tryz.underlying81
 a131:=Tryz.isAgg81
 z131:=Tryz.sizeOf81
 v131:=Tryz.zeroValue81
 t182:=Tryz.underlying143
 a182:=Tryz.isAgg143
 z182:=Tryz.sizeOf143
 v182:=Tryz.zeroValue143
 t183:=Tryz.underlying144
 a183:=Tryz.isAgg144
 z183:=Tryz.sizeOf144
 v183:=Tryz.zeroValue144
 t218:=Tryz.underlying157
 a218:=Tryz.isAgg157
 z218:=Tryz.sizeOf157
 v218:=Tryz.zeroValue157
 t222:=Tryz.underlying161
 a222:=Tryz.isAgg161
 z222:=Tryz.sizeOf161
 v222:=Tryz.zeroValue161
 t228:=Tryz.underlying171
 a228:=Tryz.isAgg171
 z228:=Tryz.sizeOf171
 v228:=Tryz.zeroValue171
 t229:=Tryz.underlying172
 a229:=Tryz.isAgg172
 z229:=Tryz.sizeOf172
 v229:=Tryz.zeroValue172 }
open Go.Sort Go.RowKit in
def Tryz.slices_Sort_int(blk off cap:Nat)(zs:List Int)(w:World)(hH:Holds (Value.int .i64) w blk off zs.toArray)(hblk:blk<w.heap.size)(hsz:zs.length<4611686018427387904) :
  Calls Tryz.prog 44 #[.slice (some ⟨blk,off,none⟩) zs.length cap] w λe w'=>
   e = .returned (.tuple #[])∧∃n os,w'=grow (putRow (Value.int .i64) (Sort.ahead w n) blk off (zs.mergeSort λx y=>decide (x≤y)).toArray) os:=Any.slices_Sort_int Tryz.lays189 blk off cap zs w hH hblk hsz
end Go.Proofs
namespace Go.Proofs.YtofigcbhafkikaaGreat
open Go.Dm
attribute [local irreducible] L.load L.store L.chk L.new L.nonnil L.guard L.ite L.draw L.idx L.sem L.semR L.semU L.chkSem L.next L.call L.callV L.join L.alts L.loop L.begin L.endRound L.range
variable {w0 w:World}{E:List Seg}
def xE(l:List Int):List Int:=l.mergeSort λx y=>decide (x≤y)
def Xs(l:List Int):(xE l).Perm l:=List.mergeSort_perm ..
def vp(l:List Int):(xE l).Pairwise (· ≤·):=by
 have:=List.pairwise_mergeSort (le:=λx y:Int=>decide (x≤y)) (λa b c h1 h2=>by simp only[decide_eq_true_eq]at *;omega) (λa b=>by simp only[Bool.or_eq_true,decide_eq_true_eq];omega) l;exact this.imp λh=>by simpa using h
def Ko{l m:List Int}(h:l.Perm m):xE l=xE m:=
 List.Perm.eq_of_pairwise (λa b _ _ h1 h2=>by omega) (vp l) (vp m) (((Xs l).trans h).trans (Xs m).symm)
def Kn{l m:List Int}(h:l.Perm m)(hm:m.Pairwise (· ≤·)):xE l=m:=
 List.Perm.eq_of_pairwise (λa b _ _ h1 h2=>by omega) (vp l) hm ((Xs l).trans h)
def uG(l:List Int):(xE l).length=l.length:=(Xs l).length_eq
def Oo(h:St w0 E w)(i:Nat){s:Seg}(hi:nth E i=some s){v:Sl}{l:List Int}(hr:Rw eI zk 1 v l s)(hn:l.length<1000000000){k:Unit→PT}(hk:∀s' w',Rw eI zk 1 v (xE l) s'→St w0 (ze E i s') w'→k () w') :
  L.call Pr Yu [.slice v.a v.len v.cap] (.tup []) k w:=
 oP (encv:=Value.int .i64) (λ_=>rfl) yO (xE l) (uG l) (λg off cap w h1 h2=>Tryz.slices_Sort_int g off cap l w h1 h2 (by omega)) (λp cap w=>Any.slices_Sort_int_none Tryz.lays189 p cap w) h i hi hr hk
def kE{a1 a2:Seg}{F:List Seg}{fv:FV}{keys:List Int}(hY:KG Pr w0 [a1,a2] fv.val keys (Value.int .i64))(h:St w0 (a1::a2::F) w)(hn:keys.length<1000000000){k:Sl→PT}
  (hk:∀seen v s w',seen.Perm keys→Rw eI zk 1 v seen s→St w0 (s::a1::a2::F) w'→k v w'):L.call Pr yq [.slice none 0 0,fv.val] (.one (.one .slice)) k w:=by
 refine zl (xo ⟨none,0,0⟩ fv) ?_;unfold YG;refine nw h ?_;clear h;intro b1 w h;have h:=ZC (ZC h);have h:St w0 ([a1,a2]++[Cl b1 zQ [SlV ⟨none,0,0⟩]]::[]::F) w:=h.eq (by simp);refine Vj (l:=.int .i64) (arg:=λx=>x) (A:=[a1,a2]) (keys:=keys) hY h (λseen G=>∃v s,G = [Cl b1 zQ [SlV v]]::s::F∧Rw eI zk 1 v seen s) (λj G=>False) ⟨_,_,rfl,Rw.nil⟩ ?_ ?_ ?_
 ·rintro seen x G X w lv lp d R hm ⟨v,s,rfl,hr⟩ h hN hE;have h:St w0 ([Rec lv lp .busy none]::[DfM d]::a1::a2::[Cl b1 zQ [SlV v]]::s::(F++X)) w:=h
  (refine ldC h ?_)
  refine nw h ?_;clear h;intro b8 w h;refine Rw.app yO elI h 5 rfl hr x rfl (by omega) (by omega) λv' s' w hr' h=>?_
  (dsimp only[ze,List.cons_append,List.nil_append]at h;refine stC h ?_;clear h;intro w h;dsimp only[Zq,ze]at h)
  exact hN _ w ⟨v',s',rfl,hr'⟩ h
 ·rintro d seen G w hp ⟨v,s,rfl,hr⟩ h;have h:St w0 ([DfM d]::a1::a2::[Cl b1 zQ [SlV v]]::s::F) w:=h;refine qP ?_
  (refine ldC h ?_)
  (first | refine ul h ?_ | refine uk h ?_ | refine uj h ?_ | refine ui h ?_ | refine uh h ?_ | refine ug h ?_ | refine uf h ?_ | refine ue h ?_ | refine ud h ?_ | refine uc h ?_ | refine xN h ?_ | refine xM h ?_);clear h;intro w h
  refine⟨v,rfl,hk seen v s w hp hr ?_⟩;have h:=yF (yx (yx h));have h:=Us h;exact h
 ·rintro d j G w hf;exact hf.elim
def qS{a1 a2:Seg}{F:List Seg}{fv:FV}{keys:List Int}(hY:KG Pr w0 [a1,a2] fv.val keys (Value.int .i64))(h:St w0 (a1::a2::F) w)(hn:keys.length<1000000000){k:Sl→PT}
  (hk:∀v s w',Rw eI zk 1 v (xE keys) s→St w0 (s::a2::F) w'→k v w'):L.call Pr ZN [fv.val] (.one (.one .slice)) k w:=by
 refine zl (qD fv) ?_;unfold Jz;refine zl (qh fv) ?_;unfold Ji;refine kE hY h hn λseen v s w hp hr h=>⟨v,rfl,?_⟩;refine Oo h 0 rfl hr (by rw[hp.length_eq];exact hn) λs w hr h=>?_;rw[Ko hp]at hr;exact⟨v,rfl,hk v s w hr (Ut h)⟩
def unI:Value→Int
 | .int _ n=>n
 | _=>0
abbrev KI:Int→Value:=Value.int .i64
def KN(x:B0×Option Addr):Value:=.agg #[.string x.1,.pointer x.2]
def jv:Pr.underlying Zm=some (.map zk Yi):=by kernel_rfl
def yT:Pr.underlying zt=some (.map zk Ya):=by kernel_rfl
def yB:Pr.underlying zw=some (.map zk zk):=by kernel_rfl
def Gg:Pr.underlying zk=some (.int .i64):=by kernel_rfl
def mkI:MK Pr zk KI:=fp Gg
def zb(w:World):(zeroValue Yi).run Pr w = .ok ((E1.one .bool).val false) w:=by
 have h:(Pr.info? Yi).map (·.zero)=some (some (.bool false)):=by kernel_rfl
 cases hi:Pr.info? Yi with
 | none=>rw[hi]at h;cases h
 | some i=>rw[hi]at h;simp only[Option.map_some,Option.some.injEq]at h;exact zv hi h w
def zi(w:World):(zeroValue zk).run Pr w = .ok ((E1.one (.int .i64)).val (0:Int)) w:=by
 have h:(Pr.info? zk).map (·.zero)=some (some (I 0)):=by kernel_rfl
 cases hi:Pr.info? zk with
 | none=>rw[hi]at h;cases h
 | some i=>rw[hi]at h;simp only[Option.map_some,Option.some.injEq]at h;exact zv hi h w
def zo(w:World):(zeroValue Ya).run Pr w = .ok ((E1.agg [.str,.ptr]).val (s_,none,())) w:=by
 have h:(Pr.info? Ya).map (·.zero)=some (some (.agg #[.string s_,.pointer none])):=by kernel_rfl
 cases hi:Pr.info? Ya with
 | none=>rw[hi]at h;cases h
 | some i=>rw[hi]at h;simp only[Option.map_some,Option.some.injEq]at h;exact zv hi h w
def FK(h:St w0 E w)(i:Nat){s:Seg}(hi:nth E i=some s){r:Nat}{m:List (Int×Bool)}(hm:MpS KI Value.bool r m s)(hn:m.length<1000000000){k:Sl→PT}
  (hk:∀v s' w',Rw eI zk 1 v (xE (m.map (·.1))) s'→St w0 (s'::E) w'→k v w') :
  L.call Pr ZH [.map (some r)] (.one (.one .func)) (λx5=>L.call Pr ZN [.func x5.fn x5.fs x5.cs] (.one (.one .slice)) k) w:=by
 refine zl (jD _) ?_;unfold yA;have h:=h.front i hi;refine nw h ?_;clear h;intro c w h;refine⟨⟨.func zE,#[],#[.pointer (some ⟨c,0,none⟩)]⟩,rfl,?_⟩;have hY:KG Pr w0 [[Cl c Zm [.map (some r)]],s] (.func (.func zE) #[] #[.pointer (some ⟨c,0,none⟩)]) (m.map (·.1)) KI:=by
  intro yv R J Jd F w h hJ step fin fin2;refine⟨jf,jh yv ⟨c,0,none⟩ ?_⟩;unfold yh;exact kd (kv:=KI) (vv:=Value.bool) unI (λ_=>rfl) jv (lk:=.int .i64) (ev:=.one .bool) (λx=>x) (λ_=>rfl) (λx=>x) (λ_=>rfl) J Jd hm h hJ (λseen k F X w hl hJ h=>step seen k F X w (by simpa using hl) hJ h) fin fin2
 refine qS (fv:=⟨.func zE,#[],#[.pointer (some ⟨c,0,none⟩)]⟩) hY h (by simpa using hn) λv s' w hr h=>hk v s' w hr ?_;have h:=yx h;exact St.setN_same' (i+1) (E:=s'::E) hi (St.back (i+1) (E:=s'::E) hi h)
def FJ(h:St w0 E w)(i:Nat){s:Seg}(hi:nth E i=some s){r:Nat}{m:List (Int×(B0×Option Addr))}(hm:MpS KI KN r m s)(hn:m.length<1000000000){k:Sl→PT}
  (hk:∀v s' w',Rw eI zk 1 v (xE (m.map (·.1))) s'→St w0 (s'::E) w'→k v w') :
  L.call Pr zZ [.map (some r)] (.one (.one .func)) (λx5=>L.call Pr ZN [.func x5.fn x5.fs x5.cs] (.one (.one .slice)) k) w:=by
 refine zl (yY _) ?_;unfold ZI;have h:=h.front i hi;refine nw h ?_;clear h;intro c w h;refine⟨⟨.func zq,#[],#[.pointer (some ⟨c,0,none⟩)]⟩,rfl,?_⟩;have hY:KG Pr w0 [[Cl c zt [.map (some r)]],s] (.func (.func zq) #[] #[.pointer (some ⟨c,0,none⟩)]) (m.map (·.1)) KI:=by
  intro yv R J Jd F w h hJ step fin fin2;refine⟨yP,yQ yv ⟨c,0,none⟩ ?_⟩;unfold ZB;exact kd (kv:=KI) (vv:=KN) unI (λ_=>rfl) yT (lk:=.int .i64) (ev:=.agg [.str,.ptr]) (λx=>x) (λ_=>rfl) (λx:B0×Option Addr=>(x.1,x.2,())) (λ_=>rfl) J Jd hm h hJ (λseen k F X w hl hJ h=>step seen k F X w (by simpa using hl) hJ h) fin fin2
 refine qS (fv:=⟨.func zq,#[],#[.pointer (some ⟨c,0,none⟩)]⟩) hY h (by simpa using hn) λv s' w hr h=>hk v s' w hr ?_;have h:=yx h;exact St.setN_same' (i+1) (E:=s'::E) hi (St.back (i+1) (E:=s'::E) hi h)
structure yn where
 st:Int
 conc:Int
 reqs:List Int
def QP(x:Int):List Int→List Int
 | []=>[x]
 | y::l=>if y<x then y::QP x l else x::y::l
structure yn.Ok(p:yn):Prop where
 pw:p.reqs.Pairwise (· < ·)
 dr:p.st=3→p.reqs≠[]
 dead:p.st=4→p.reqs = []
 few:p.reqs.length<100000000
def jb(p:yn):yn×Int:=if p.st≠1 then(p,9)else({ p with st:=2 },0)
def ZJ(p:yn):yn×Int:=if p.st≠1∧p.st≠2 then(p,9)else({ p with st:=if p.reqs = []then 4 else 3 },0)
def Zu(p:yn):yn×List Int×Int:=if p.st=4 then(p,[],9)else({ p with st:=4,reqs:=[] },p.reqs,0)
def Zi(p:yn)(id:Int):yn×Int:=
 if p.st≠2 then(p,9)else if id∈p.reqs then(p,5)else if(p.reqs.length:Int)≥p.conc then(p,8)else({ p with reqs:=QP id p.reqs },0)
def ZG(p:yn)(id:Int):yn×Int:=
 if id∈p.reqs then({ p with reqs:=p.reqs.erase id,st:=if p.st=3∧p.reqs.erase id = []then 4 else p.st },0)else(p,6)
def qr(x:Int)(l:List Int):(QP x l).Perm (x::l):=by
 induction l with
 | nil=>exact .refl _
 | cons y l ih=>
  simp only[QP];split
  ·exact(ih.cons y).trans (.swap ..)
  ·exact .refl _
def xQ{x y:Int}{l:List Int}:y∈QP x l↔y=x∨y∈l:=by
 rw[(qr x l).mem_iff];simp
def oT{x:Int}:∀{l:List Int},l.Pairwise (· < ·)→x∉l→(QP x l).Pairwise (· < ·)
 | [],_,_=>by simp[QP]
 | y::l,h,hx=>by
  simp only[List.mem_cons,not_or]at hx;rw[List.pairwise_cons]at h;simp only[QP];split
  ·rename_i hy;rw[List.pairwise_cons];refine⟨λz hz=>?_,oT h.2 hx.2⟩;rcases xQ.1 hz with rfl | hz
   ·exact hy
   ·exact h.1 z hz
  ·rename_i hy;rw[List.pairwise_cons];refine⟨λz hz=>?_,List.pairwise_cons.2 h⟩;rcases List.mem_cons.1 hz with rfl | hz
   ·omega
   ·have:=h.1 z hz;omega
def Kp(x:Int)(l:List Int):(QP x l).length=l.length+1:=by rw[(qr x l).length_eq];rfl
def xq(m:List (Int×Bool))(reqs:List Int):Prop:=(∀p∈m,p.2=true)∧(m.map (·.1)).Perm reqs
def xq.get{m:List (Int×Bool)}{reqs:List Int}(h:xq m reqs)(id:Int):((zH m id).map λx=>x).getD false=decide (id∈reqs):=by
 cases hg:zH m id with
 | none=>
  have:=yC.1 hg;rw[h.2.mem_iff]at this;simp[this]
 | some b=>
  have hm:=QK hg;have hb:=h.1 _ hm;simp only at hb;subst hb;have:id∈reqs:=h.2.mem_iff.1 (List.mem_map_of_mem (f:=(·.1)) hm);simp[this]
def xq.len{m:List (Int×Bool)}{reqs:List Int}(h:xq m reqs):m.length=reqs.length:=by
 have:=h.2.length_eq;simpa using this
def xq.put{m:List (Int×Bool)}{reqs:List Int}(h:xq m reqs){id:Int}(hn:id∉reqs):xq (Zc m id true) (QP id reqs):=by
 have hg:zH m id=none:=yC.2 (λhm=>hn (h.2.mem_iff.1 hm));rw[Yt hg];refine⟨λp hp=>?_,?_⟩
 ·rcases List.mem_append.1 hp with hp | hp
  ·exact h.1 p hp
  ·simp at hp;subst hp;rfl
 ·rw[List.map_append];refine List.Perm.trans ?_ (qr id reqs).symm;exact List.perm_append_comm.trans (h.2.cons id)
def Vm:∀{m:List (Int×Bool)}{k:Int},((xu m k).map (·.1)).Perm ((m.map (·.1)).erase k)
 | [],k=>by simp[xu]
 | p::m,k=>by
  simp only[xu];by_cases e:p.1=k
  ·rw[if_pos e];subst e;simp
  ·rw[if_neg e,List.map_cons,List.map_cons,List.erase_cons_tail (by simpa using e)];exact(Vm (m:=m) (k:=k)).cons _
def Kh{κ υ:Type}[DecidableEq κ]:∀{m:List (κ×υ)}{k:κ}{p:κ×υ},p∈xu m k→p∈m
 | q::m,k,p,h=>by
  simp only[xu]at h;split at h
  ·exact List.mem_cons_of_mem _ h
  ·rcases List.mem_cons.1 h with rfl | h
   ·exact List.mem_cons_self ..
   ·exact List.mem_cons_of_mem _ (Kh h)
def xq.take{m:List (Int×Bool)}{reqs:List Int}(h:xq m reqs)(id:Int):xq (xu m id) (reqs.erase id):=
 ⟨λp hp=>h.1 p (Kh hp),Vm.trans (h.2.erase id)⟩
def Jq(b:Nat)(p:yn)(s:Seg):Prop:=p.Ok∧∃r m sm,MpS KI Value.bool r m sm∧xq m p.reqs∧s = [Cl b JP [I p.st,.map (some r),I p.conc]]++sm
def fT(h:St w0 E w){conc:Int}{k:Option Addr→PT}(hk:∀b s w',Jq b ⟨1,conc,[]⟩ s→St w0 (s::E) w'→k (some ⟨b,0,none⟩) w'):L.call Pr uw [I conc] (.one (.one .ptr)) k w:=by
 refine zl (OS _) ?_;unfold VL;refine MpS.new h KI Value.bool λr s w hm h=>?_;refine nw h ?_;clear h;intro b w h;exact⟨_,rfl,hk b _ w ⟨⟨by simp,by simp,by simp,by simp⟩,r,[],s,hm,⟨by simp,.refl _⟩,rfl⟩ h.glue⟩
def gS(h:St w0 E w)(i:Nat){b:Nat}{p:yn}{s:Seg}(hi:nth E i=some s)(hp:Jq b p s){k:Int→PT}(hk:k p.st w):L.call Pr Zn [pO b] (.one (.one (.int .i64))) k w:=by
 obtain⟨ok,r,m,sm,hm,hb,rfl⟩:=hp;refine zl (Uy _) ?_;unfold XE;have h:=(h.front i hi).split
 (refine nn ?_;refine ldC h ?_)
 exact⟨_,rfl,hk⟩
def GJ(h:St w0 E w)(i:Nat){b:Nat}{p:yn}{s:Seg}(hi:nth E i=some s)(hp:Jq b p s){k:Int→PT}(hk:k p.reqs.length w):L.call Pr ZW [pO b] (.one (.one (.int .i64))) k w:=by
 obtain⟨ok,r,m,sm,hm,hb,rfl⟩:=hp;refine zl (qi _) ?_;unfold xf;have h:=(h.front i hi).split
 (refine nn ?_;refine ldC h ?_)
 refine MpS.len jv h 1 rfl hm ⟨_,rfl,?_⟩;rw[hb.len];exact hk
def FE(h:St w0 E w)(i:Nat){b:Nat}{p:yn}{s:Seg}(hi:nth E i=some s)(hp:Jq b p s){k:Int→PT}(hk:∀s' w',Jq b (jb p).1 s'→St w0 (ze E i s') w'→k (jb p).2 w') :
  L.call Pr Xp [pO b] (.one (.one (.int .i64))) k w:=by
 have hp':=hp;obtain⟨ok,r,m,sm,hm,hb,rfl⟩:=hp;refine zl (kH _) ?_;unfold QY;have h:=(h.front i hi).split
 (refine nn ?_;refine ldC h ?_)
 refine it (λhc=>?_) (λhc=>?_)<;>(try simp only[zB]at hc)
 ·have e:jb p=(p,9):=by simp only[jb];rw[if_pos hc]
  rw[e]at hk;exact⟨_,rfl,hk _ w hp' (St.back i hi h.glue)⟩
 ·have e:jb p=({ p with st:=2 },0):=by simp only[jb];rw[if_neg (by simpa using hc)]
  rw[e]at hk
  (refine nn ?_;refine stC h ?_;clear h;intro w h;dsimp only[Zq,ze]at h)
  exact⟨_,rfl,hk _ w ⟨⟨ok.pw,by simp,by simp,ok.few⟩,r,m,sm,hm,hb,rfl⟩ (St.back i hi h.glue)⟩
def gT{b r:Nat}{st conc:Int}{m:List (Int×Bool)}{reqs:List Int}{sm:Seg}{F:List Seg}(hm:MpS KI Value.bool r m sm)(hb:xq m reqs)(h:St w0 ([Cl b JP [I st,.map (some r),I conc]]::sm::F) w){k:Unit→PT}
  (hk:∀w',St w0 ([Cl b JP [I (if st=3∧reqs = []then 4 else st),.map (some r),I conc]]::sm::F) w'→k () w'):L.call Pr Jg [pO b] (.tup []) k w:=by
 refine zl (Ve _) ?_;unfold qT
 (refine nn ?_;refine ldC h ?_)
 refine it (λhc=>?_) (λhc=>?_)<;>(try simp only[zB]at hc)
 ·refine zl (qi _) ?_;unfold xf
  (refine nn ?_;refine ldC h ?_)
  refine MpS.len jv h 1 rfl hm ⟨_,rfl,?_⟩;have hl:=hb.len;refine it (λhd=>?_) (λhd=>?_)<;>(try simp only[zB]at hd)
  ·have:reqs = []:=List.eq_nil_of_length_eq_zero (by omega);rw[if_pos ⟨hc,this⟩]at hk
   (refine nn ?_;refine stC h ?_;clear h;intro w h;dsimp only[Zq,ze]at h)
   exact⟨(),rfl,hk w h⟩
  ·rw[if_neg (λhh=>hd (by rw[hl,hh.2];rfl))]at hk;exact⟨(),rfl,hk w h⟩
 ·rw[if_neg (λhh=>hc hh.1)]at hk;exact⟨(),rfl,hk w h⟩
def gU(h:St w0 E w)(i:Nat){b:Nat}{p:yn}{s:Seg}(hi:nth E i=some s)(hp:Jq b p s){k:Int→PT}(hk:∀s' w',Jq b (ZJ p).1 s'→St w0 (ze E i s') w'→k (ZJ p).2 w') :
  L.call Pr Jn [pO b] (.one (.one (.int .i64))) k w:=by
 have hp':=hp;obtain⟨ok,r,m,sm,hm,hb,rfl⟩:=hp;refine zl (Uz _) ?_;unfold XF;have h:=(h.front i hi).split;refine jN (λz w=>¬(p.st≠1∧p.st≠2)∧St w0 ([Cl b JP [I p.st,.map (some r),I p.conc]]::sm::ZP E i) w) (λk1 hk1=>?_) (λz w ⟨hc,h⟩=>?_)
 ·(refine nn ?_;refine ldC h ?_)
  refine it (λhc=>?_) (λhc=>?_)<;>(try simp only[zB]at hc)
  ·(refine nn ?_;refine ldC h ?_)
   refine it (λhd=>?_) (λhd=>?_)<;>(try simp only[zB]at hd)
   ·have e:ZJ p=(p,9):=by simp only[ZJ];rw[if_pos ⟨hc,hd⟩]
    rw[e]at hk;exact⟨_,rfl,hk _ w hp' (St.back i hi h.glue)⟩
   ·exact hk1 _ w ⟨λhh=>hh.2 hd,h⟩
  ·exact hk1 _ w ⟨λhh=>hh.1 hc,h⟩
 ·have e:ZJ p=({ p with st:=if p.reqs = []then 4 else 3 },0):=by simp only[ZJ];rw[if_neg hc]
  rw[e]at hk
  (refine nn ?_;refine stC h ?_;clear h;intro w h;dsimp only[Zq,ze]at h)
  refine gT hm hb h λw h=>⟨0,rfl,hk _ w ⟨⟨ok.pw,?_,?_,ok.few⟩,r,m,sm,hm,hb,rfl⟩ ?_⟩
  ·intro hh e;have e:p.reqs = []:=e;simp[e]at hh
  ·intro hh;apply Classical.byContradiction;intro hne;simp[hne]at hh
  ·have h:=St.back i hi h.glue;simp only[true_and]at h;exact h
def VJ{a:Addr}{b r o T:Nat}{pre:List Value}{post:List Value}{m:List (Int×Bool)}{reqs:List Int}{sm:Seg}{F:List Seg}(ha:a=⟨b,pre.length,none⟩)(hm:MpS KI Value.bool r m sm)(hb:xq m reqs)
  (h:St w0 ([Cl b T (pre++ .map (some r)::post)]::sm::F) w) {id:Int} {k:Int→PT}
  (hk:∀m' sm' w',MpS KI Value.bool r m' sm'→xq m' (reqs.erase id)→St w0 ([Cl b T (pre++ .map (some r)::post)]::sm'::F) w'→k (if id∈reqs then 0 else 6) w') :
  L.call Pr Yc [.pointer (some a),I id] (.one (.one (.int .i64))) k w:=by
 subst ha;have hn:nth (pre++ .map (some r)::post) (pre.length+0)=some (.map (some r)):=by rw[YA];rfl
 refine zl (Qk _ _) ?_;unfold xe;refine nn ?_;rw[yH];refine ldx h 0 rfl hn rfl ?_;refine MpS.get (kv:=KI) (e:=.one .bool) (z:=false) mkI jv zb (λx=>x) (λ_=>rfl) h 1 rfl hm ?_;rw[hb.get];refine it (λhc=>?_) (λhc=>?_)<;>(try simp only[zB]at hc)
 ·have e:reqs.erase id=reqs:=List.erase_of_not_mem (by simpa using hc);rw[e,if_neg (by simpa using hc)]at hk;exact⟨_,rfl,hk m sm w hm hb h⟩
 ·rw[if_pos (by simpa using hc)]at hk;refine nn ?_;rw[yH];refine ldx h 0 rfl hn rfl ?_;refine MpS.del (kv:=KI) mkI jv h 1 rfl hm λsm' w hm h=>⟨_,rfl,hk _ sm' w hm (hb.take id) h⟩
def ki{l:List Int}(h:l = [])(id:Int):l.erase id = []:=by subst h;rfl
def GL(h:St w0 E w)(i:Nat){b:Nat}{p:yn}{s:Seg}(hi:nth E i=some s)(hp:Jq b p s){id:Int}{k:Int→PT}(hk:∀s' w',Jq b (ZG p id).1 s'→St w0 (ze E i s') w'→k (ZG p id).2 w') :
  L.call Pr jL [pO b,I id] (.one (.one (.int .i64))) k w:=by
 obtain⟨ok,r,m,sm,hm,hb,rfl⟩:=hp;refine zl (vV _ _) ?_;unfold qe;have h:=(h.front i hi).split;refine nn ?_;refine VJ (pre:=[I p.st]) (o:=0) (post:=[I p.conc]) rfl hm hb h λm' sm' w hm hb h=>?_;refine gT hm hb h λw h=>?_;by_cases hc:id∈p.reqs
 ·rw[if_pos hc];simp only[ZG,if_pos hc]at hk;refine⟨_,rfl,hk _ w ⟨⟨ok.pw.sublist (List.erase_sublist ..),?_,?_,?_⟩,r,m',sm',hm,hb,rfl⟩ (St.back i hi h.glue)⟩
  ·intro hh e;simp only at hh e;rw[e]at hh;by_cases h3:p.st=3
   ·simp[h3]at hh
   ·simp[h3]at hh
  ·intro hh;simp only at hh ⊢;by_cases h3:p.st=3∧p.reqs.erase id = []
   ·exact h3.2
   ·rw[if_neg h3]at hh;exact ki (ok.dead hh) id
  ·have:=List.length_erase_le (a:=id) (l:=p.reqs);have:=ok.few;simp only;omega
 ·rw[if_neg hc];simp only[ZG,if_neg hc]at hk;have e:p.reqs.erase id=p.reqs:=List.erase_of_not_mem hc;rw[e]at hb h;refine⟨_,rfl,hk _ w ⟨ok,r,m',sm',hm,hb,rfl⟩ ?_⟩;have h:=St.back i hi h.glue;rw[if_neg (λhh=>ok.dr hh.1 hh.2)]at h;exact h
def GI(h:St w0 E w)(i:Nat){b:Nat}{p:yn}{s:Seg}(hi:nth E i=some s)(hp:Jq b p s)(hfew:p.reqs.length<10000000){id:Int}{k:Int→PT}(hk:∀s' w',Jq b (Zi p id).1 s'→St w0 (ze E i s') w'→k (Zi p id).2 w') :
  L.call Pr jJ [pO b,I id] (.one (.one (.int .i64))) k w:=by
 have hp':=hp;obtain⟨ok,r,m,sm,hm,hb,rfl⟩:=hp;refine zl (vT _ _) ?_;unfold qc;have h:=(h.front i hi).split
 (refine nn ?_;refine ldC h ?_)
 refine it (λhc=>?_) (λhc=>?_)<;>(try simp only[zB]at hc)
 ·have e:Zi p id=(p,9):=by simp only[Zi];rw[if_pos hc]
  rw[e]at hk;exact⟨_,rfl,hk _ w hp' (St.back i hi h.glue)⟩
 (refine nn ?_)
 refine zl (ua _ _) ?_;unfold xG
 (refine nn ?_;refine ldC h ?_)
 refine MpS.get (kv:=KI) (e:=.one .bool) (z:=false) mkI jv zb (λx=>x) (λ_=>rfl) h 1 rfl hm ?_;rw[hb.get];have hl:=hb.len;refine it (λhd=>?_) (λhd=>?_)<;>(try simp only[zB]at hd)
 ·have e:Zi p id=(p,5):=by simp only[Zi];rw[if_neg (by simpa using hc),if_pos hd]
  rw[e]at hk;exact⟨5,rfl,5,rfl,hk _ w hp' (St.back i hi h.glue)⟩
 (refine dr h ?_;clear h;intro w h;refine nn ?_;refine ldC h ?_)
 refine MpS.len jv h 1 rfl hm ?_
 (refine nn ?_;rw[yS];refine ldC h ?_)
 refine it (λhe=>?_) (λhe=>?_)<;>(try simp only[zB]at he)
 ·have e:Zi p id=(p,8):=by simp only[Zi];rw[if_neg (by simpa using hc),if_neg hd,if_pos (by omega)]
  rw[e]at hk;exact⟨8,rfl,8,rfl,hk _ w hp' (St.back i hi h.glue)⟩
 ·have e:Zi p id=({ p with reqs:=QP id p.reqs },0):=by simp only[Zi];rw[if_neg (by simpa using hc),if_neg hd,if_neg (by omega)]
  rw[e]at hk
  (refine nn ?_;refine ldC h ?_)
  refine MpS.set (kv:=KI) (vv:=Value.bool) mkI jv h 1 rfl hm true rfl λsm' w hm h=>?_;refine⟨0,rfl,0,rfl,hk _ w ⟨⟨oT ok.pw hd,?_,?_,?_⟩,r,_,sm',hm,hb.put hd,rfl⟩ (St.back i hi h.glue)⟩
  ·intro _ e2;have:=Kp id p.reqs;have e2:QP id p.reqs = []:=e2;rw[e2]at this;simp at this
  ·intro hh;simp only at hh;have:=hc;omega
  ·simp only;rw[Kp];omega
def xU(h:St w0 E w){v:Sl}{l:List Int}(r:Rd w eI v l)(hn:l.length<1000000000000)(h64:v.a=none→l = []){k:Sl→PT}
  (hk:∀(v':Sl) s' w',Rw eI zk 1 v' l s'→(v'.a=none↔v.a=none)→St w0 (s'::E) w'→k v' w'):L.call Pr zJ [SlV v] (.one (.one .slice)) k w:=by
 refine zl (jS _) ?_;unfold Yj;exact vK (K:=λv w'=>∃x,v=RT.val (.one (.one .slice)) x∧k x w') yO elI h r (by omega) hn h64 λv' s' w' h1 h2 h3=>⟨v',rfl,hk v' s' w' h1 h2 h3⟩
def Rw.nil_of{α:Type}{enc:α→List Value}{e size:Nat}{v:Sl}{l:List α}{s:Seg}(hE:Enc enc size)(hr:Rw enc e size v l s)(h:v.a=none):l = []:=by
 have:=Rw.len hE hr;unfold Rw at hr;generalize fl enc l=cs at hr
 cases hr with
 | nil=>simpa using this.symm
 | mk=>cases h
def GK(h:St w0 E w)(i:Nat){b:Nat}{p:yn}{s:Seg}(hi:nth E i=some s)(hp:Jq b p s){k:Sl×Int×Unit→PT}
  (hk:∀v s' s2 w',Jq b (Zu p).1 s'→Rw eI zk 1 v (Zu p).2.1 s2→St w0 (s2::ze E i s') w'→k (v,(Zu p).2.2,()) w') :
  L.call Pr jK [pO b] (.tup [.one .slice,.one (.int .i64)]) k w:=by
 have hp':=hp;obtain⟨ok,r,m,sm,hm,hb,rfl⟩:=hp;refine zl (vU _) ?_;unfold qd;have h:=(h.front i hi).split
 ((try dsimp only[ze,List.cons_append,List.nil_append]at h);repeat (first | refine nn ?_ | (refine dr h ?_;clear h;intro w h) | refine ldC h ?_ | refine laC h ?_ | refine ckC h ?_ | (refine stC h ?_;clear h;intro w h;(try dsimp only[Zq,ze]at h)) | rw[yS]))
 refine it (λhc=>?_) (λhc=>?_)<;>(try simp only[zB]at hc)
 ·have e:Zu p=(p,[],9):=by simp only[Zu];rw[if_pos hc]
  rw[e]at hk;have h:=St.back i hi h.glue;exact⟨(⟨none,0,0⟩,9,()),rfl,hk ⟨none,0,0⟩ _ [] w hp' Rw.nil (h.eq (by simp))⟩
 have e:Zu p=({ p with st:=4,reqs:=[] },p.reqs,0):=by simp only[Zu];rw[if_neg hc]
 rw[e]at hk;have hl:=hb.len;have hfew:=ok.few
 ((try dsimp only[ze,List.cons_append,List.nil_append]at h);repeat (first | refine nn ?_ | (refine dr h ?_;clear h;intro w h) | refine ldC h ?_ | refine laC h ?_ | refine ckC h ?_ | (refine stC h ?_;clear h;intro w h;(try dsimp only[Zq,ze]at h)) | rw[yS]))
 refine FK h 1 rfl hm (by omega) λv1 s1 w hr1 h=>?_;rw[Kn hb.2 (ok.pw.imp (λh=>by omega))]at hr1;refine xU h (hr1.rd yO h 0 rfl) (by omega) (Rw.nil_of yO hr1) λv2 s2 w hr2 _ h=>?_;have h:=Ut h;have hlen:=Rw.len yO hr2;refine Zj (λq y w=>∃(j:Nat)(m:List (Int×Bool))(sm:Seg),y=((j:Int),())∧q+j=p.reqs.length∧MpS KI Value.bool r m sm∧xq m (p.reqs.drop j)∧St w0 (s2::[Cl b JP [I p.st,.map (some r),I p.conc]]::sm::ZP E i) w) p.reqs.length ⟨0,m,sm,rfl,rfl,hm,hb,h⟩ ?_;clear hm hb hp';(clear h);rintro q y w ⟨j,m,sm,rfl,hq,hm,hb,h⟩ again hag
 (try dsimp only)
 refine it (λhd=>?_) (λhd=>?_)<;>(try simp only[zB]at hd)
 ·have hj:j<p.reqs.length:=by omega
  have ed:p.reqs.drop j=p.reqs[j]::p.reqs.drop (j+1):=List.drop_eq_getElem_cons hj;refine Rw.ix yO hr2 (by omega) (by simpa using hj) λa ha=>?_;refine Rw.ld0 yO h 0 rfl hr2 ha (x:=p.reqs[j]) (by simp[hj]) rfl rfl ?_;refine nn ?_;have h:=ZC (ZC h);refine VJ (pre:=[I p.st]) (o:=0) (post:=[I p.conc]) rfl hm hb h λm' sm' w hm hb h=>?_;refine hag (q-1) _ w (by omega) ⟨j+1,m',sm',?_,by omega,hm,?_,?_⟩
  ·rw[wr (by omega) (by omega)];simp
  ·rw[ed,List.erase_cons_head]at hb;exact hb
  ·have h:=ZC (yx (yx h));exact h
 ·have e:j=p.reqs.length:=by omega
  subst e;rw[List.drop_length]at hb
  ((try dsimp only[ze,List.cons_append,List.nil_append]at h);repeat (first | refine nn ?_ | (refine dr h ?_;clear h;intro w h) | refine ldC h ?_ | refine laC h ?_ | refine ckC h ?_ | (refine stC h ?_;clear h;intro w h;(try dsimp only[Zq,ze]at h)) | rw[yS]))
  refine⟨(v2,0,()),rfl,hk v2 _ s2 w ⟨⟨by simp,by simp,by simp,by simp⟩,r,m,sm,hm,hb,rfl⟩ hr2 ?_⟩;have h:=ZC (ZC h);exact St.back (i+1) (E:=s2::E) hi h.glue
structure zK where
 id:Int
 rev:B0
 pod:yn
structure zg where
 room:Int
 last:Int
 l:List zK
structure zg.Ok(f:zg):Prop where
 pw:f.l.Pairwise (λx y=>x.id<y.id)
 rng:∀x∈f.l,0<x.id∧x.id≤f.last
 live:∀x∈f.l,x.pod.st=1∨x.pod.st=2∨x.pod.st=3
 once:f.l.Pairwise (λx y=>∀q∈x.pod.reqs,q∉y.pod.reqs)
 few:f.l.length<100000000
 lo:0≤f.last
 hi:f.last<4611686018427387904
abbrev Tr:=zK×Nat×Seg
abbrev trS(t:Tr):Seg:=t.2.2
def ent(t:Tr):Int×(B0×Option Addr):=(t.1.id,t.1.rev,some ⟨t.2.1,0,none⟩)
def jc(l:List zK)(id:Int):Option zK:=l.find? λx=>decide (x.id=id)
def Zg(l:List zK)(q:Int):Option zK:=l.find? λx=>decide (q∈x.pod.reqs)
structure FlR(F:zg)(L:List Tr)(mA:List (Int×(B0×Option Addr)))(mW:List (Int×Int)):Prop where
 l:F.l=L.map (·.1)
 ps:∀t∈L,Jq t.2.1 t.1.pod t.2.2
 all:mA.Perm (L.map ent)
 wth:∀q,zH mW q=(Zg F.l q).map (·.id)
abbrev flB(b:Nat)(rA rW:Nat)(F:zg):Seg:=[Cl b qR [.map (some rA),.map (some rW),I F.room,I F.last]]
def FlS(b:Nat)(F:zg)(s:Seg):Prop:=F.Ok∧∃rA rW mA mW sA sW L,MpS KI KN rA mA sA∧MpS KI KI rW mW sW∧FlR F L mA mW∧s=flB b rA rW F++(sA++(sW++(L.map trS).flatten))
def FlR.ids{F:zg}{L:List Tr}{mA mW}(hr:FlR F L mA mW)(ok:F.Ok):L.Pairwise (λx y=>x.1.id<y.1.id):=by
 have:=ok.pw;rw[hr.l,List.pairwise_map]at this;exact this
def FlR.keys{F:zg}{L:List Tr}{mA mW}(hr:FlR F L mA mW)(ok:F.Ok):xE (mA.map (·.1))=L.map (·.1.id):=by
 refine Kn ?_ ?_
 ·have:=hr.all.map (·.1);rw[List.map_map]at this;exact this
 ·rw[List.pairwise_map];exact(hr.ids ok).imp λh=>by omega
def FlR.len{F:zg}{L:List Tr}{mA mW}(hr:FlR F L mA mW):mA.length=F.l.length:=by rw[hr.all.length_eq,hr.l];simp
def FlR.nd{F:zg}{L:List Tr}{mA mW}(hr:FlR F L mA mW)(ok:F.Ok):(mA.map (·.1)).Nodup:=by
 have:=hr.all.map (·.1);rw[List.map_map]at this;rw[this.nodup_iff];have h:=(hr.ids ok).imp (S:=λx y=>x.1.id≠y.1.id) λh=>by omega
 exact List.pairwise_map.2 h
def FlR.get{F:zg}{L:List Tr}{mA mW}(hr:FlR F L mA mW)(ok:F.Ok){t:Tr}(ht:t∈L):zH mA t.1.id=some (t.1.rev,some ⟨t.2.1,0,none⟩):=
 XS (hr.nd ok) (hr.all.mem_iff.2 (List.mem_map_of_mem (f:=ent) ht))
def FlR.get0{F:zg}{L:List Tr}{mA mW}(hr:FlR F L mA mW){id:Int}(h:jc F.l id=none):zH mA id=none:=by
 refine yC.2 λhm=>?_;have:=(hr.all.map (·.1)).mem_iff.1 hm;rw[List.map_map]at this;obtain⟨t,ht,e⟩:=List.mem_map.1 this;have e:t.1.id=id:=e;have h2:=List.find?_eq_none.1 h t.1 (by rw[hr.l];exact List.mem_map_of_mem (f:=(·.1)) ht);simp[e]at h2
def FlR.at{F:zg}{L:List Tr}{mA mW}(hr:FlR F L mA mW){id:Int}{x:zK}(h:jc F.l id=some x):∃A t B,L=A++t::B∧t.1=x∧x.id=id:=by
 have h1:=List.mem_of_find?_eq_some h;have h2:=List.find?_some h;rw[hr.l]at h1;obtain⟨t,ht,rfl⟩:=List.mem_map.1 h1;obtain⟨A,B,e⟩:=List.append_of_mem ht;exact⟨A,t,B,e,rfl,by simpa using h2⟩
def gY(h:St w0 E w){room:Int}{k:Option Addr→PT}(hk:∀b s w',FlS b ⟨room,0,[]⟩ s→St w0 (s::E) w'→k (some ⟨b,0,none⟩) w'):L.call Pr xC [I room] (.one (.one .ptr)) k w:=by
 refine zl (KK _) ?_;unfold Ur;refine MpS.new h KI KN λr1 s1 w hm1 h=>?_;refine MpS.new h KI KI λr2 s2 w hm2 h=>?_;refine nw h ?_;clear h;intro b w h;refine⟨_,rfl,hk b _ w ⟨⟨by simp,by simp,by simp,by simp,by simp,by simp,by simp⟩,r1,r2,[],[],s1,s2,[],hm1,hm2,⟨rfl,by simp,.refl _,λq=>rfl⟩,rfl⟩ ?_⟩;have h:=ZC (ZC (yx h));exact h.eq (by simp)
def fU(h:St w0 E w){p:Option Addr}{rev:B0}{k:FV→PT}(hk:∀c0 c1 w',St w0 ([Cl c1 Za [.string rev]]::[Cl c0 zS [.pointer p]]::E) w'→
  k ⟨.func yr,#[],#[.pointer (some ⟨c0,0,none⟩),.pointer (some ⟨c1,0,none⟩)]⟩ w'):L.call Pr yU [.pointer p,.string rev] (.one (.one .func)) k w:=by
 refine zl (uZ _ _) ?_;unfold Xf;refine nw h ?_;clear h;intro c0 w h;refine nw h ?_;clear h;intro c1 w h;exact⟨_,rfl,hk c0 c1 w h⟩
def gO(l:List Tr)(m:Nat):TT [.one (.int .i64),.one .ptr]:=match l[m]? with
 | some t=>(t.1.id,some ⟨t.2.1,0,none⟩,())
 | none=>(0,none,())
abbrev YW(rev:B0)(t:Tr):Bool:=decide (t.1.rev=rev)
def fM{c0 c1 b rA rW:Nat}{F:zg}{L:List Tr}{mA mW}{sA:Seg}{rev:B0}(ok:F.Ok)(hA:MpS KI KN rA mA sA)(hr:FlR F L mA mW) :
  fL Pr w0 [[Cl c1 Za [.string rev]],[Cl c0 zS [.pointer (some ⟨b,0,none⟩)]],flB b rA rW F,sA]
   (.func (.func yr) #[] #[.pointer (some ⟨c0,0,none⟩),.pointer (some ⟨c1,0,none⟩)]) (L.filter (YW rev)).length λm=>TV _ (gO (L.filter (YW rev)) m):=by
 intro yv R J Jd G w h hJ step fin fin2;have hll:L.length=F.l.length:=by rw[hr.l];simp
 have hfew:=ok.few;refine⟨Qi,Qo yv ⟨c0,0,none⟩ ⟨c1,0,none⟩ ?_⟩;unfold xj;have h:St w0 ([Cl c1 Za [.string rev]]::[Cl c0 zS [.pointer (some ⟨b,0,none⟩)]]::flB b rA rW F::sA::G) w:=h
 (refine ldC h ?_;refine nn ?_;refine ldC h ?_)
 refine FJ h 3 rfl hA (by rw[hr.len];omega) λv s w hrow h=>?_;rw[hr.keys ok]at hrow;have hlen:=Rw.len yO hrow;rw[List.length_map]at hlen
 refine Zj (λq y w=>∃(j:Nat)(G:List Seg),@Eq Int y.1 j∧q+j=L.length∧J ((L.take j).filter (YW rev)).length G∧
  St w0 (s::[Cl c1 Za [.string rev]]::[Cl c0 zS [.pointer (some ⟨b,0,none⟩)]]::flB b rA rW F::sA::G) w) L.length ⟨0,G,rfl,rfl,hJ,h⟩ ?_
 clear hJ;clear h;rintro q ⟨y,⟨⟩⟩ w ⟨j,G,hy,hq,hJ,h⟩ again hag;simp only at hy;subst hy;refine it (λhb=>?_) (λhb=>?_)<;>(try simp only[zB]at hb)
 ·have hj:j<L.length:=by omega
  have hx:L[j]? = some L[j]:=List.getElem?_eq_getElem hj;have hft:=VA (p:=YW rev) hx;refine jN (λz w=>∃G,J ((L.take (j+1)).filter (YW rev)).length G∧St w0 (s::[Cl c1 Za [.string rev]]::[Cl c0 zS [.pointer (some ⟨b,0,none⟩)]]::flB b rA rW F::sA::G) w) (λk8 hk8=>?_) (λz w ⟨G,hJ,h⟩=>?_)
  ·refine Rw.ix yO hrow (by omega) (by simpa using hj) λa ha=>?_;refine Rw.ld0 yO h 0 rfl hrow ha (x:=L[j].1.id) (by simp[hj]) rfl rfl ?_
   (refine ldC h ?_;refine nn ?_;refine ldC h ?_)
   refine MpS.get mkI yT zo (λx:B0×Option Addr=>(x.1,x.2,())) (λ_=>rfl) h 4 rfl hA ?_;rw[hr.get ok (List.getElem_mem hj)];simp only[Option.map_some,Option.getD_some];refine nw h ?_;clear h;intro b16 w h
   (refine stC h ?_;clear h;intro w h;dsimp only[Zq,ze]at h;refine ldC h ?_;refine ldC h ?_)
   rw[VN];refine it (λhc=>?_) (λhc=>?_)<;>(try simp only[zB]at hc)
   ·(refine ldC h ?_)
    have h:=ZU h;have hp:YW rev L[j]=true:=decide_eq_true hc;rw[if_pos hp]at hft;rw[hft]at hk8;have hat:=oY (p:=YW rev) hx hp;have ea:TV _ (gO (L.filter (YW rev)) ((L.take j).filter (YW rev)).length) = [I L[j].1.id,.pointer (some ⟨L[j].2.1,0,none⟩)]:=by simp only[gO,hat];rfl
    have hlt:((L.take j).filter (YW rev)).length<(L.filter (YW rev)).length:=by
     rcases Nat.lt_or_ge ((L.take j).filter (YW rev)).length (L.filter (YW rev)).length with h | h
     ·exact h
     ·rw[List.getElem?_eq_none h]at hat;cases hat
    have step:=step _ G [s] w hlt hJ (St.toEnd (X:=[s]) (A:=[_,_,_,_]) h);simp only[ea]at step;refine cv (jQ.mono step λu w' hu=>?_);rcases hu with ⟨rfl,G',h,hJ⟩ | ⟨rfl,hd⟩
    ·exact⟨true,rfl,itF rfl (hk8 () w' ⟨G',hJ,St.ofEnd (X:=[s]) (A:=[_,_,_,_]) h⟩)⟩
    ·exact⟨false,rfl,itT rfl (fin2 w' hd)⟩
   ·have h:=ZU h;have hp:¬YW rev L[j]=true:=λe=>hc (of_decide_eq_true e);rw[if_neg hp]at hft;rw[Nat.add_zero]at hft;rw[hft]at hk8;exact hk8 () w ⟨G,hJ,h⟩
  ·refine hag (q-1) _ w (by omega) ⟨j+1,G,?_,by omega,hJ,h⟩;show Wi _=_;rw[wr (by omega) (by omega)];omega
 ·have e:j=L.length:=by omega
  subst e;rw[List.take_length]at hJ;exact fin G w hJ (ZU h)
def xc(h:St w0 E w)(i:Nat){Q:List Tr}(hi:nth E i=some (Q.map trS).flatten){t:Tr}(ht:t∈Q)(hp:Jq t.2.1 t.1.pod t.2.2){k:Int→PT}(hk:k t.1.pod.st w) :
  L.call Pr Zn [.pointer (some ⟨t.2.1,0,none⟩)] (.one (.one (.int .i64))) k w:=by
 obtain⟨A,B,rfl⟩:=List.append_of_mem ht;exact gS (h.front i hi).pick 0 rfl hp hk
def UK(h:St w0 E w)(i:Nat){Q:List Tr}(hi:nth E i=some (Q.map trS).flatten){t:Tr}(ht:t∈Q)(hp:Jq t.2.1 t.1.pod t.2.2){k:Int→PT}(hk:k t.1.pod.reqs.length w) :
  L.call Pr ZW [.pointer (some ⟨t.2.1,0,none⟩)] (.one (.one (.int .i64))) k w:=by
 obtain⟨A,B,rfl⟩:=List.append_of_mem ht;exact GJ (h.front i hi).pick 0 rfl hp hk
def revs(l:List zK)(rev:B0):List zK:=l.filter λx=>decide (x.rev=rev)
def FlR.revs{F:zg}{L:List Tr}{mA mW}(hr:FlR F L mA mW)(rev:B0):revs F.l rev=(L.filter (YW rev)).map (·.1):=by
 unfold YtofigcbhafkikaaGreat.revs;rw[hr.l,List.filter_map];rfl
def kx{l:List Tr}{m:Nat}(hm:m<l.length):gO l m=(l[m].1.id,some ⟨l[m].2.1,0,none⟩,()):=by
 simp[gO,List.getElem?_eq_getElem hm]
def kc{L:List Tr}{rev:B0}{m:Nat}(hm:m<(L.filter (YW rev)).length):(L.filter (YW rev))[m]∈L:=(List.mem_filter.1 (List.getElem_mem hm)).1
def XU(x:zK):Bool:=decide (x.pod.st≠3)
def Zs(l:List zK)(rev:B0):Nat:=((revs l rev).filter XU).length
def FG(h:St w0 E w)(i:Nat){b:Nat}{F:zg}{s:Seg}(hi:nth E i=some s)(hf:FlS b F s){rev:B0}{k:Int→PT}(hk:∀w',St w0 E w'→k (Zs F.l rev) w') :
  L.call Pr Jc [pO b,.string rev] (.one (.one (.int .i64))) k w:=by
 obtain⟨ok,rA,rW,mA,mW,sA,sW,L,hA,hW,hr,rfl⟩:=hf;refine zl (uY _ _) ?_;unfold Xe;have hll:L.length=F.l.length:=by rw[hr.l];simp
 have hfew:=ok.few;have h:St w0 (flB b rA rW F::sA::sW::(L.map trS).flatten::ZP E i) w:=(h.front i hi).eq (by simp);refine nw h ?_;clear h;intro b1 w h
 (refine stC h ?_;clear h;intro w h;dsimp only[Zq,ze]at h)
 refine fU h λc0 c1 w h=>?_;have h:=yF (yF (yu (yu h)));refine qq (A:=[_,_,_,_]) (fM ok hA hr) h (λm G=>G = [Cl b1 zk [I ((((L.filter (YW rev)).take m).filter λt=>XU t.1).length:Nat)]]::sW::(L.map trS).flatten::ZP E i) (λj G=>False) rfl ?_ ?_ ?_
 ·rintro m G X w lv lp d R hm rfl h hN hE;have hx:=List.getElem?_eq_getElem hm;have hft:=VA (p:=λt:Tr=>XU t.1) hx;have hlt:=List.length_filter_le (YW rev) L;have hl2:=List.length_filter_le (λt:Tr=>XU t.1) ((L.filter (YW rev)).take m);rw[List.length_take]at hl2;have h:St w0 ([Rec lv lp .busy none]::[DfM d]::[Cl c1 Za [.string rev]]::[Cl c0 zS [.pointer (some ⟨b,0,none⟩)]]::flB b rA rW F::sA::[Cl b1 zk [I ((((L.filter (YW rev)).take m).filter λt=>XU t.1).length:Nat)]]::sW::(L.map trS).flatten::(ZP E i++X)) w:=h;rw[kx hm]
  (try dsimp only)
  refine xc h 8 rfl (kc hm) (hr.ps _ (kc hm)) ?_;refine it (λhc=>?_) (λhc=>?_)<;>(try simp only[zB]at hc)
  ·have hp:XU (L.filter (YW rev))[m].1=true:=decide_eq_true hc;rw[if_pos hp]at hft
   (refine ldC h ?_;refine stC h ?_;clear h;intro w h;dsimp only[Zq,ze]at h)
   rw[wr (by omega) (by omega)]at h;refine hN _ w rfl ?_;rw[hft];exact h
  ·have hp:¬XU (L.filter (YW rev))[m].1=true:=λe=>(of_decide_eq_true e) hc;rw[if_neg hp]at hft;refine hN _ w rfl ?_;rw[hft];exact h
 ·rintro d G w rfl h;have h:St w0 ([DfM d]::[Cl c1 Za [.string rev]]::[Cl c0 zS [.pointer (some ⟨b,0,none⟩)]]::flB b rA rW F::sA::[Cl b1 zk [I ((((L.filter (YW rev)).take (L.filter (YW rev)).length).filter λt=>XU t.1).length:Nat)]]::sW::(L.map trS).flatten::ZP E i) w:=h;refine qP ?_
  (refine ldC h ?_)
  (first | refine ul h ?_ | refine uk h ?_ | refine uj h ?_ | refine ui h ?_ | refine uh h ?_ | refine ug h ?_ | refine uf h ?_ | refine ue h ?_ | refine ud h ?_ | refine uc h ?_ | refine xN h ?_ | refine xM h ?_);clear h;intro w h
  rw[List.take_length];have e:Zs F.l rev=((L.filter (YW rev)).filter λt=>XU t.1).length:=by
   unfold Zs;rw[hr.revs,List.filter_map,List.length_map];rfl
  refine⟨_,rfl,?_⟩;rw[←e];refine hk w (St.setN_same' i hi (St.back i hi (s':=flB b rA rW F++(sA++(sW++(L.map trS).flatten))) ?_));have h:=ZU (Ut (QV h));exact h.eq (by simp)
 ·rintro d j G w hf;exact hf.elim
def Xm(a:Int×Int×Int)(x:zK):Int×Int×Int:=
 if x.pod.st=3 then a else if x.pod.st<a.2.1∨(x.pod.st=a.2.1∧(x.pod.reqs.length:Int)≤a.2.2)then(x.id,x.pod.st,x.pod.reqs.length)else a
def XX(l:List zK)(rev:B0):Int:=((revs l rev).foldl Xm (0,3,0)).1
def gW(h:St w0 E w)(i:Nat){b:Nat}{F:zg}{s:Seg}(hi:nth E i=some s)(hf:FlS b F s){rev:B0}{k:Int→PT}(hk:∀w',St w0 E w'→k (XX F.l rev) w') :
  L.call Pr YX [pO b,.string rev] (.one (.one (.int .i64))) k w:=by
 obtain⟨ok,rA,rW,mA,mW,sA,sW,L,hA,hW,hr,rfl⟩:=hf;refine zl (qE _ _) ?_;unfold JA;have hll:L.length=F.l.length:=by rw[hr.l];simp
 have hfew:=ok.few;have h:St w0 (flB b rA rW F::sA::sW::(L.map trS).flatten::ZP E i) w:=(h.front i hi).eq (by simp);refine nw h ?_;clear h;intro b1 w h;refine nw h ?_;clear h;intro b2 w h;refine nw h ?_;clear h;intro b3 w h
 (refine stC h ?_;clear h;intro w h;dsimp only[Zq,ze]at h;refine stC h ?_;clear h;intro w h;dsimp only[Zq,ze]at h;refine stC h ?_;clear h;intro w h;dsimp only[Zq,ze]at h)
 refine fU h λc0 c1 w h=>?_;have h:=yF (yF (yK (yK h)));refine qq (A:=[_,_,_,_]) (fM ok hA hr) h (λm G=>∃a:Int×Int×Int,a=(((L.filter (YW rev)).take m).map (·.1)).foldl Xm (0,3,0)∧G = [Cl b3 zk [I a.2.2]]::[Cl b2 zk [I a.2.1]]::[Cl b1 zk [I a.1]]::sW::(L.map trS).flatten::ZP E i) (λj G=>False) ⟨_,rfl,rfl⟩ ?_ ?_ ?_
 ·rintro m G X w lv lp d R hm ⟨⟨a1,a2,a3⟩,ha,rfl⟩ h hN hE;have hx:=List.getElem?_eq_getElem hm;have hft:Xm (a1,a2,a3) (L.filter (YW rev))[m].1=(((L.filter (YW rev)).take (m+1)).map (·.1)).foldl Xm (0,3,0):=by
   rw[List.take_add_one,hx,List.map_append,List.foldl_append,←ha];rfl
  have h:St w0 ([Rec lv lp .busy none]::[DfM d]::[Cl c1 Za [.string rev]]::[Cl c0 zS [.pointer (some ⟨b,0,none⟩)]]::flB b rA rW F::sA::[Cl b3 zk [I a3]]::[Cl b2 zk [I a2]]::[Cl b1 zk [I a1]]::sW::(L.map trS).flatten::(ZP E i++X)) w:=h;rw[kx hm]
  (try dsimp only)
  have hmem:=kc hm;have hps:=hr.ps _ hmem;refine xc h 10 rfl hmem hps ?_;refine it (λhc=>?_) (λhc=>?_)<;>(try simp only[zB]at hc)
  ·simp only[Xm]at hft;rw[if_pos hc]at hft;exact hN _ w ⟨_,hft,rfl⟩ h
  simp only[Xm]at hft;rw[if_neg hc]at hft
  (refine dr h ?_;clear h;intro w h;refine ldC h ?_)
  refine xc h 10 rfl hmem hps ?_
  (refine ckC h ?_)
  refine it (λhd=>?_) (λhd=>?_)<;>(try simp only[zB]at hd)
  ·rw[if_pos (.inl hd)]at hft;refine xc h 10 rfl hmem hps ?_;refine UK h 10 rfl hmem hps ?_
   (refine stC h ?_;clear h;intro w h;dsimp only[Zq,ze]at h;refine stC h ?_;clear h;intro w h;dsimp only[Zq,ze]at h;refine stC h ?_;clear h;intro w h;dsimp only[Zq,ze]at h)
   exact hN _ w ⟨_,hft,rfl⟩ h
  (refine ldC h ?_)
  refine xc h 10 rfl hmem hps ?_
  (refine ckC h ?_)
  refine it (λhe=>?_) (λhe=>?_)<;>(try simp only[zB]at he)
  ·(refine ldC h ?_)
   refine UK h 10 rfl hmem hps ?_
   (refine ckC h ?_)
   refine it (λhg=>?_) (λhg=>?_)<;>(try simp only[zB]at hg)
   ·rw[if_pos (.inr ⟨he,hg⟩)]at hft;refine xc h 10 rfl hmem hps ?_;refine UK h 10 rfl hmem hps ?_
    (refine stC h ?_;clear h;intro w h;dsimp only[Zq,ze]at h;refine stC h ?_;clear h;intro w h;dsimp only[Zq,ze]at h;refine stC h ?_;clear h;intro w h;dsimp only[Zq,ze]at h)
    exact hN _ w ⟨_,hft,rfl⟩ h
   ·rw[if_neg (λhh=>hh.elim hd λhh=>hg hh.2)]at hft;exact hN _ w ⟨_,hft,rfl⟩ h
  ·rw[if_neg (λhh=>hh.elim hd λhh=>he hh.1)]at hft;exact hN _ w ⟨_,hft,rfl⟩ h
 ·rintro d G w ⟨a,ha,rfl⟩ h;have h:St w0 ([DfM d]::[Cl c1 Za [.string rev]]::[Cl c0 zS [.pointer (some ⟨b,0,none⟩)]]::flB b rA rW F::sA::[Cl b3 zk [I a.2.2]]::[Cl b2 zk [I a.2.1]]::[Cl b1 zk [I a.1]]::sW::(L.map trS).flatten::ZP E i) w:=h;refine qP ?_
  (refine ldC h ?_)
  (first | refine ul h ?_ | refine uk h ?_ | refine uj h ?_ | refine ui h ?_ | refine uh h ?_ | refine ug h ?_ | refine uf h ?_ | refine ue h ?_ | refine ud h ?_ | refine uc h ?_ | refine xN h ?_ | refine xM h ?_);clear h;intro w h
  rw[List.take_length]at ha;have e:XX F.l rev=a.1:=by unfold XX;rw[hr.revs,ha]
  refine⟨_,rfl,?_⟩;rw[←e];refine hk w (St.setN_same' i hi (St.back i hi (s':=flB b rA rW F++(sA++(sW++(L.map trS).flatten))) ?_));have h:=ZU (Ut (QV (ow (ov h))));exact h.eq (by simp)
 ·rintro d j G w hf;exact hf.elim
def gz(x:zK):Int×Int×Int:=(x.id,x.pod.st,x.pod.reqs.length)
def yX(l:List zK)(id:Int)(g:yn→yn):List zK:=l.filterMap λx=>if x.id=id then(if(g x.pod).st=4 then none else some { x with pod:=g x.pod })else some x
def vD{l:List zK}{id:Int}{g:yn→yn}(h:∀y∈l,y.id≠id):yX l id g=l:=by
 unfold yX
 induction l with
 | nil=>rfl
 | cons y l ih=>
  rw[List.filterMap_cons,if_neg (h y (by simp))];simp only;rw[ih λz hz=>h z (by simp[hz])]
def qx{A B:List zK}{x:zK}{g:yn→yn}(h:(A++x::B).Pairwise (λx y=>x.id<y.id)):yX (A++x::B) x.id g=A++((if(g x.pod).st=4 then []else [{ x with pod:=g x.pod }])++B):=by
 rw[List.pairwise_append,List.pairwise_cons]at h;have hA:yX A x.id g=A:=vD λy hy=>by have:=h.2.2 y hy x (by simp);omega
 have hB:yX B x.id g=B:=vD λy hy=>by have:=h.2.1.1 y hy;omega
 unfold yX at *
 rw[List.filterMap_append,hA,List.filterMap_cons,if_pos rfl]
 congr 1
 split<;>rename_i hc
 ·split at hc
  ·rename_i h4;rw[if_pos h4,hB];rfl
  ·cases hc
 ·split at hc
  ·cases hc
  ·rename_i h4;cases hc;rw[if_neg h4,hB];rfl
def jt{l:List zK}{id:Int}{x:zK}(h:jc l id=some x):x∈l∧x.id=id:=⟨List.mem_of_find?_eq_some h,by simpa using List.find?_some h⟩
def xT{l:List zK}(pw:l.Pairwise (λx y=>x.id<y.id)){x:zK}(hx:x∈l):jc l x.id=some x:=by
 unfold jc
 induction l with
 | nil=>simp at hx
 | cons y l ih=>
  rw[List.pairwise_cons]at pw;rcases List.mem_cons.1 hx with rfl | hx
  ·simp
  ·have:=pw.1 x hx;rw[List.find?_cons_of_neg (by simp;omega)];exact ih pw.2 hx
def xF{l:List zK}{q:Int}(h:Zg l q=none):∀x∈l,q∉x.pod.reqs:=λx hx=>by simpa using List.find?_eq_none.1 h x hx
def zg.Ok.upd{F:zg}(ok:F.Ok){id:Int}{x:zK}(hx:jc F.l id=some x)(g:yn→yn)(hst:(g x.pod).st=1∨(g x.pod).st=2∨(g x.pod).st=3∨(g x.pod).st=4)
  (hq:∀q∈(g x.pod).reqs,q∈x.pod.reqs∨Zg F.l q=none):({ F with l:=yX F.l id g }:zg).Ok:=by
 obtain⟨hm,rfl⟩:=jt hx;obtain⟨A,B,hl⟩:=List.append_of_mem hm;have pw:=ok.pw;have rng:=ok.rng;have live:=ok.live;have once:=ok.once;have few:=ok.few;have hno:∀q,Zg F.l q=none→∀y∈A++x::B,q∉y.pod.reqs:=λq h=>by rw[hl]at h;exact xF h
 rw[hl]at pw rng live once few;have e:yX F.l x.id g=A++((if(g x.pod).st=4 then []else [{ x with pod:=g x.pod }])++B):=by rw[hl];exact qx pw
 by_cases h4:(g x.pod).st=4
 ·rw[if_pos h4,List.nil_append]at e;have hs:(A++B).Sublist (A++x::B):=List.Sublist.append (List.Sublist.refl _) (List.sublist_cons_self ..);refine⟨?_,?_,?_,?_,?_,ok.lo,ok.hi⟩
  ·rw[show({ F with l:=yX F.l x.id g }:zg).l=A++B from e];exact pw.sublist hs
  ·rw[show({ F with l:=yX F.l x.id g }:zg).l=A++B from e];exact λy hy=>rng y (hs.subset hy)
  ·rw[show({ F with l:=yX F.l x.id g }:zg).l=A++B from e];exact λy hy=>live y (hs.subset hy)
  ·rw[show({ F with l:=yX F.l x.id g }:zg).l=A++B from e];exact once.sublist hs
  ·rw[show({ F with l:=yX F.l x.id g }:zg).l=A++B from e];exact Nat.lt_of_le_of_lt hs.length_le few
 ·rw[if_neg h4,List.singleton_append]at e;have e:({ F with l:=yX F.l x.id g }:zg).l=A++ { x with pod:=g x.pod } :: B:=e;refine⟨?_,?_,?_,?_,?_,ok.lo,ok.hi⟩
  ·rw[e];rw[List.pairwise_append,List.pairwise_cons]at pw ⊢;exact⟨pw.1,pw.2.1,λa ha b hb=>by
    rcases List.mem_cons.1 hb with rfl | hb
    ·exact pw.2.2 a ha x (by simp)
    ·exact pw.2.2 a ha b (by simp[hb])⟩
  ·rw[e];intro y hy;rcases List.mem_append.1 hy with hy | hy
   ·exact rng y (by simp[hy])
   ·rcases List.mem_cons.1 hy with rfl | hy
    ·exact rng x (by simp)
    ·exact rng y (by simp[hy])
  ·rw[e];intro y hy;rcases List.mem_append.1 hy with hy | hy
   ·exact live y (by simp[hy])
   ·rcases List.mem_cons.1 hy with rfl | hy
    ·simp only;omega
    ·exact live y (by simp[hy])
  ·rw[e];rw[List.pairwise_append,List.pairwise_cons]at once ⊢;refine⟨once.1,⟨λb hb q hq1 hq2=>?_,once.2.1.2⟩,λa ha b hb q hq1 hq2=>?_⟩
   ·rcases hq q hq1 with h | h
    ·exact once.2.1.1 b hb q h hq2
    ·exact hno q h b (by simp[hb]) hq2
   ·rcases List.mem_cons.1 hb with rfl | hb
    ·rcases hq q hq2 with h | h
     ·exact once.2.2 a ha x (by simp) q hq1 h
     ·exact hno q h a (by simp[ha]) hq1
    ·exact once.2.2 a ha b (by simp[hb]) q hq1 hq2
  ·rw[e];simp only[List.length_append,List.length_cons]at few ⊢;exact few
def Ki:∀{m:List (Int×(B0×Option Addr))}{k:Int},(m.map (·.1)).Nodup→xu m k=m.filter λp=>decide (p.1≠k)
 | [],k,_=>rfl
 | p::m,k,h=>by
  rw[List.map_cons,List.nodup_cons]at h;simp only[xu];by_cases e:p.1=k
  ·rw[if_pos e,List.filter_cons_of_neg (by simp[e])]
   symm
   rw[List.filter_eq_self];intro y hy;have:y.1≠k:=λe2=>h.1 (by rw[e,←e2];exact List.mem_map_of_mem (f:=(·.1)) hy);simpa using this
  ·rw[if_neg e,List.filter_cons_of_pos (by simpa using e),Ki h.2]
def FlR.upd{F:zg}{A B:List Tr}{t:Tr}{mA mW mW'}(hr:FlR F (A++t::B) mA mW)(ok:F.Ok)(g:yn→yn){s':Seg}(hp:Jq t.2.1 (g t.1.pod) s')(h4:(g t.1.pod).st≠4)
  (hW:∀q,zH mW' q=(Zg (yX F.l t.1.id g) q).map (·.id)):FlR { F with l:=yX F.l t.1.id g } (A++({ t.1 with pod:=g t.1.pod },t.2.1,s')::B) mA mW':=by
 have pw:=ok.pw;rw[hr.l,List.map_append,List.map_cons]at pw;refine⟨?_,?_,?_,hW⟩
 ·show yX F.l t.1.id g=_;rw[hr.l,List.map_append,List.map_cons,qx pw,if_neg h4];simp
 ·intro y hy;rcases List.mem_append.1 hy with hy | hy
  ·exact hr.ps y (by simp[hy])
  ·rcases List.mem_cons.1 hy with rfl | hy
   ·exact hp
   ·exact hr.ps y (by simp[hy])
 ·have:=hr.all;simp only[List.map_append,List.map_cons]at this ⊢;exact this
def FlR.del{F:zg}{A B:List Tr}{t:Tr}{mA mW mW'}(hr:FlR F (A++t::B) mA mW)(ok:F.Ok)(g:yn→yn)(h4:(g t.1.pod).st=4)
  (hW:∀q,zH mW' q=(Zg (yX F.l t.1.id g) q).map (·.id)):FlR { F with l:=yX F.l t.1.id g } (A++B) (xu mA t.1.id) mW':=by
 have pw:=ok.pw;have ids:=hr.ids ok;rw[hr.l,List.map_append,List.map_cons]at pw;refine⟨?_,?_,?_,hW⟩
 ·show yX F.l t.1.id g=_;rw[hr.l,List.map_append,List.map_cons,qx pw,if_pos h4];simp
 ·intro y hy;rcases List.mem_append.1 hy with hy | hy
  ·exact hr.ps y (by simp[hy])
  ·exact hr.ps y (by simp[hy])
 ·rw[Ki (hr.nd ok)];refine(hr.all.filter _).trans ?_;rw[List.pairwise_append,List.pairwise_cons]at ids;rw[List.map_append,List.map_cons,List.filter_append,List.filter_cons_of_neg (by simp[ent]),List.map_append];have fa:∀{l:List Tr},(∀y∈l,y.1.id≠t.1.id)→(l.map ent).filter (λp=>decide (p.1≠t.1.id))=l.map ent:=λ{l} h=>by
   rw[List.filter_eq_self];intro p hp;obtain⟨y,hy,rfl⟩:=List.mem_map.1 hp;exact decide_eq_true (h y hy)
  rw[fa (λy hy=>by have:=ids.2.2 y hy t (by simp);omega),fa (λy hy=>by have:=ids.2.1.1 y hy;omega)]
def vC{l:List zK}(pw:l.Pairwise (λx y=>x.id<y.id)){x:zK}(hx:x∈l){g:yn→yn}(hrq:(g x.pod).reqs=x.pod.reqs)(h4:(g x.pod).st=4→x.pod.reqs = [])(q:Int) :
  (Zg (yX l x.id g) q).map (·.id)=(Zg l q).map (·.id):=by
 obtain⟨A,B,rfl⟩:=List.append_of_mem hx;rw[qx pw];unfold Zg;simp only[List.find?_append]
 cases List.find? (λx=>decide (q∈x.pod.reqs)) A with
 | some y=>rfl
 | none=>
  simp only[Option.none_or];by_cases h:(g x.pod).st=4
  ·rw[if_pos h,List.find?_nil,Option.none_or,List.find?_cons_of_neg (by simp[h4 h])]
  ·rw[if_neg h];by_cases hq:q∈x.pod.reqs
   ·rw[List.find?_cons_of_pos (by simp[hrq,hq]),List.find?_cons_of_pos (by simp[hq])];rfl
   ·rw[List.find?_cons_of_neg (by simp[hrq,hq]),List.find?_cons_of_neg (by simp[hq]),List.find?_nil,Option.none_or]
def oG{b rA rW:Nat}{F:zg}{A B:List Tr}{t:Tr}{mA:List (Int×(B0×Option Addr))}{sA sW:Seg}{D:List Seg}{rev:B0}(h:St w0 (flB b rA rW F::sA::sW::((A++t::B).map trS).flatten::D) w)
  (hA:MpS KI KN rA mA sA) (hg:zH mA t.1.id=some (rev,some ⟨t.2.1,0,none⟩)) (hp:Jq t.2.1 t.1.pod t.2.2) {k:Unit→PT} (hk1:t.1.pod.st≠4→k () w)
  (hk2:t.1.pod.st=4→∀sA' w',MpS KI KN rA (xu mA t.1.id) sA'→St w0 (flB b rA rW F::sA'::sW::((A++B).map trS).flatten::D) w'→k () w') :
  L.call Pr yD [pO b,I t.1.id] (.tup []) k w:=by
 refine zl (ub _ _) ?_;unfold xH
 (refine nn ?_;refine ldC h ?_)
 refine MpS.get mkI yT zo (λx:B0×Option Addr=>(x.1,x.2,())) (λ_=>rfl) h 1 rfl hA ?_;rw[hg];simp only[Option.map_some,Option.getD_some];refine xc h 3 rfl (t:=t) (by simp) hp ?_;refine it (λhc=>?_) (λhc=>?_)<;>(try simp only[zB]at hc)
 ·(refine nn ?_;refine ldC h ?_)
  refine MpS.del mkI yT h 1 rfl hA λsA' w hA' h=>⟨(),rfl,hk2 hc sA' w hA' ?_⟩;have h:St w0 (flB b rA rW F::sA'::sW::((A++t::B).map trS).flatten::D) w:=h;have h:=yF h;have h:=h.pick;have h:=ZU h;have h:=yF (yF (yF h));exact h
 ·exact⟨(),rfl,hk1 hc⟩
def FH(h:St w0 E w)(i:Nat){b:Nat}{F:zg}{s:Seg}(hi:nth E i=some s)(hf:FlS b F s){id:Int}{k:Int→PT}
  (hk0:jc F.l id=none→∀w',St w0 E w'→k 6 w')
  (hk1:∀x,jc F.l id=some x→∀s' w',FlS b { F with l:=yX F.l id λp=>(jb p).1 } s'→St w0 (ze E i s') w'→k (jb x.pod).2 w') :
  L.call Pr YS [pO b,I id] (.one (.one (.int .i64))) k w:=by
 obtain⟨ok,rA,rW,mA,mW,sA,sW,L,hA,hW,hr,rfl⟩:=hf;refine zl (Ua _ _) ?_;unfold Xg;have h:St w0 (flB b rA rW F::sA::sW::(L.map trS).flatten::ZP E i) w:=(h.front i hi).eq (by simp)
 (refine nn ?_;refine ldC h ?_)
 refine MpS.get2 mkI yT zo (λx:B0×Option Addr=>(x.1,x.2,())) (λ_=>rfl) h 1 rfl hA ?_
 cases hfd:jc F.l id with
 | none=>
  rw[hr.get0 hfd];simp only[Option.map_none,Option.getD_none,Option.isSome_none];refine nw h ?_;clear h;intro b4 w h
  (refine stC h ?_;clear h;intro w h;dsimp only[Zq,ze]at h)
  refine it (λhc=>?_) (λhc=>?_)<;>(try simp only[zB]at hc)
  ·refine⟨_,rfl,hk0 hfd w (St.setN_same' i hi (St.back i hi (s':=flB b rA rW F++(sA++(sW++(L.map trS).flatten))) ?_))⟩;have h:=ZU h;exact h.eq (by simp)
  ·cases hc
 | some x=>
  obtain⟨A,t,B,rfl,rfl,hid⟩:=hr.at hfd;have hg:=hr.get ok (t:=t) (by simp);have hp:=hr.ps t (by simp);rw[hid]at hg;rw[hg];simp only[Option.map_some,Option.getD_some,Option.isSome_some];refine nw h ?_;clear h;intro b4 w h
  (refine stC h ?_;clear h;intro w h;dsimp only[Zq,ze]at h)
  refine it (λhc=>?_) (λhc=>?_)<;>(try simp only[zB]at hc)
  ·cases hc
  (refine ldC h ?_)
  have h:=ZU h;have h:=yF h;have h:=h.pick;refine FE h 0 rfl hp λs' w hp' h=>⟨_,rfl,?_⟩;have h:St w0 (trS ({ t.1 with pod:=(jb t.1.pod).1 },t.2.1,s')::((A++B).map trS).flatten::flB b rA rW F::sA::sW::ZP E i) w:=h;have h:=h.place;have hst:=ok.live t.1 (jt hfd).1;have h4:(jb t.1.pod).1.st≠4:=by unfold jb;split<;>simp<;>omega
  have hrq:(jb t.1.pod).1.reqs=t.1.pod.reqs:=by unfold jb;split<;>rfl
  refine hk1 _ hfd (flB b rA rW { F with l:=yX F.l id λp=>(jb p).1 } ++ (sA++(sW++((A++({ t.1 with pod:=(jb t.1.pod).1 },t.2.1,s')::B).map trS).flatten))) w ⟨?_,rA,rW,mA,mW,sA,sW,_,hA,hW,?_,rfl⟩ (St.back i hi ?_)
  ·refine ok.upd hfd _ ?_ λq hq=>.inl (by rw[←hrq];exact hq);unfold jb;split<;>simp<;>omega
  ·subst hid;refine hr.upd ok (λp=>(jb p).1) hp' h4 λq=>?_;rw[hr.wth];rw[vC ok.pw (jt hfd).1 hrq (λe=>absurd e h4)]
  ·have h:=yF (yF (yF h));exact h.eq (by simp)
def grow1(rev:B0)(conc:Int)(F:zg):zg:={ F with l:=F.l++[⟨F.last+1,rev,⟨1,conc,[]⟩⟩],last:=F.last+1 }
def grow(rev:B0)(conc:Int):Nat→zg→zg
 | 0,F=>F
 | n+1,F=>grow1 rev conc (grow rev conc n F)
def Xt(rev:B0)(F:zg):zg:={ F with l:=yX F.l (XX F.l rev) λp=>(ZJ p).1 }
def shrink(rev:B0):Nat→zg→zg×List Int
 | 0,F=>(F,[])
 | n+1,F=>((shrink rev n (Xt rev F)).1,XX F.l rev::(shrink rev n (Xt rev F)).2)
def xR(F:zg)(rev:B0)(want:Int):Nat:=(min (want-Zs F.l rev) (F.room-F.l.length)).toNat
def xx(F:zg)(rev:B0)(want:Int):Nat:=((Zs F.l rev:Int)-max want 0).toNat
def XY(F:zg)(rev:B0)(conc want:Int):zg:=grow rev conc (xR F rev want) F
def oZ(F:zg)(rev:B0)(want:Int):List Int:=(List.range (xR F rev want)).map λj:Nat=>F.last+1+(j:Int)
def Qd(F:zg)(rev:B0)(conc want:Int):zg×List Int:=shrink rev (xx (XY F rev conc want) rev want) (XY F rev conc want)
section
variable {F:zg}{rev:B0}{conc:Int}
def OJ(n:Nat):(grow rev conc n F).last=F.last+n:=by
 induction n with
 | zero=>simp[grow]
 | succ n ih=>simp only[grow,grow1,ih];omega
def Vt(n:Nat):(grow rev conc n F).room=F.room:=by
 induction n with
 | zero=>rfl
 | succ n ih=>simp only[grow,grow1,ih]
def vt(n:Nat):(grow rev conc n F).l.length=F.l.length+n:=by
 induction n with
 | zero=>rfl
 | succ n ih=>simp only[grow,grow1,List.length_append,ih,List.length_singleton];omega
def ge(a b:List zK):revs (a++b) rev=revs a rev++revs b rev:=List.filter_append ..
def JZ(a b:List zK):Zs (a++b) rev=Zs a rev+Zs b rev:=by
 unfold Zs;rw[ge,List.filter_append,List.length_append]
def uK(l:List zK):Zs l rev≤l.length:=Nat.le_trans (List.length_filter_le ..) (List.length_filter_le ..)
def oj(n:Nat):Zs (grow rev conc n F).l rev=Zs F.l rev+n:=by
 induction n with
 | zero=>rfl
 | succ n ih=>
  simp only[grow,grow1];rw[JZ,ih];have:Zs [(⟨(grow rev conc n F).last+1,rev,⟨1,conc,[]⟩⟩:zK)] rev=1:=by simp[Zs,revs,XU]
  rw[this];rfl
def gC(ok:F.Ok)(h1:F.l.length+1<100000000)(h2:F.last+1<4611686018427387904):(grow1 rev conc F).Ok:=by
 have lo:=ok.lo;refine⟨?_,?_,?_,?_,?_,?_,h2⟩
 ·simp only[grow1,List.pairwise_append,List.pairwise_singleton,List.mem_singleton];exact⟨ok.pw,trivial,λa ha b hb=>by subst hb;have:=(ok.rng a ha).2;simp only;omega⟩
 ·intro x hx;simp only[grow1,List.mem_append,List.mem_singleton]at hx ⊢;rcases hx with hx | rfl
  ·have:=ok.rng x hx;omega
  ·simp only;omega
 ·intro x hx;simp only[grow1,List.mem_append,List.mem_singleton]at hx;rcases hx with hx | rfl
  ·exact ok.live x hx
  ·simp
 ·simp only[grow1,List.pairwise_append,List.pairwise_singleton,List.mem_singleton];exact⟨ok.once,trivial,λa ha b hb q hq1 hq2=>by subst hb;simp at hq2⟩
 ·simp only[grow1,List.length_append,List.length_singleton];exact h1
 ·simp only[grow1];omega
def ol(l:List zK)(x:zK)(hx:x.pod.reqs = [])(q:Int):Zg (l++[x]) q=Zg l q:=by
 unfold Zg;rw[List.find?_append,List.find?_cons_of_neg (by simp[hx])];simp
def KJ(l:List zK)(a:Int×Int×Int):Prop:=(a=(0,3,0)∧∀y∈l,XU y=false)∨∃x∈l,a=(x.id,x.pod.st,(x.pod.reqs.length:Int))∧XU x=true
def KJ.step{l:List zK}{a:Int×Int×Int}{x:zK}(h:KJ l a)(hx:x.pod.st=1∨x.pod.st=2∨x.pod.st=3):KJ (l++[x]) (Xm a x):=by
 unfold Xm;by_cases h3:x.pod.st=3
 ·rw[if_pos h3];rcases h with ⟨rfl,h⟩ | ⟨y,hy,h⟩
  ·refine .inl ⟨rfl,λy hy=>?_⟩;rcases List.mem_append.1 hy with hy | hy
   ·exact h y hy
   ·simp at hy;subst hy;simp[XU,h3]
  ·exact .inr ⟨y,by simp[hy],h⟩
 ·rw[if_neg h3];have hup:XU x=true:=by simp[XU,h3]
  by_cases hc:x.pod.st<a.2.1∨(x.pod.st=a.2.1∧(x.pod.reqs.length:Int)≤a.2.2)
  ·rw[if_pos hc];exact .inr ⟨x,by simp,rfl,hup⟩
  ·rw[if_neg hc];rcases h with ⟨rfl,h⟩ | ⟨y,hy,h⟩
   ·exact absurd (.inl (by simp only;omega)) hc
   ·exact .inr ⟨y,by simp[hy],h⟩
def KJ.all:∀{l2 l1:List zK}{a:Int×Int×Int},KJ l1 a→(∀x∈l2,x.pod.st=1∨x.pod.st=2∨x.pod.st=3)→KJ (l1++l2) (l2.foldl Xm a)
 | [],l1,a,h,_=>by simpa using h
 | x::l2,l1,a,h,hx=>by
  have:=KJ.all (l2:=l2) (h.step (hx x (by simp))) (λy hy=>hx y (by simp[hy]));simpa using this
def uq(ok:F.Ok)(hc:0<Zs F.l rev):∃x,jc F.l (XX F.l rev)=some x∧x.rev=rev∧(x.pod.st=1∨x.pod.st=2):=by
 have hr:∀x∈revs F.l rev,x∈F.l∧x.rev=rev:=λx hx=>⟨(List.mem_filter.1 hx).1,of_decide_eq_true (List.mem_filter.1 hx).2⟩;have h:=KJ.all (l1:=[]) (a:=(0,3,0)) (l2:=revs F.l rev) (.inl ⟨rfl,by simp⟩) λx hx=>ok.live x (hr x hx).1;rw[List.nil_append]at h;rcases h with ⟨-,h⟩ | ⟨x,hx,ha,hup⟩
 ·exfalso;unfold Zs at hc;rw[List.filter_eq_nil_iff.2 (λy hy=>by simp[h y hy])]at hc;simp at hc
 ·refine⟨x,?_,(hr x hx).2,?_⟩
  ·unfold XX;rw[ha];exact xT ok.pw (hr x hx).1
  ·have:=ok.live x (hr x hx).1;have:x.pod.st≠3:=of_decide_eq_true hup;omega
def QU{p:yn}(h:p.st=1∨p.st=2):(ZJ p).1 = { p with st:=if p.reqs = []then 4 else 3 }:=by
 unfold ZJ;rw[if_neg (by omega)]
def OO(ok:F.Ok)(hc:0<Zs F.l rev):(Xt rev F).Ok:=by
 obtain⟨x,hx,-,hst⟩:=uq ok hc;refine ok.upd hx _ ?_ ?_
 ·rw[QU hst];simp only;split<;>simp
 ·rw[QU hst];exact λq hq=>.inl hq
def kq(ok:F.Ok)(hc:0<Zs F.l rev):Zs (Xt rev F).l rev+1=Zs F.l rev:=by
 obtain⟨x,hx,hrev,hst⟩:=uq ok hc;obtain⟨hm,hid⟩:=jt hx;obtain⟨A,B,hl⟩:=List.append_of_mem hm;have pw:=ok.pw;show Zs (yX F.l (XX F.l rev) λp=>(ZJ p).1) rev+1=_;rw[←hid];rw[hl]at pw ⊢;rw[qx pw,JZ,JZ,JZ,show x::B = [x]++B from rfl,JZ,QU hst];have h1:Zs [x] rev=1:=by
  have:x.pod.st≠3:=by omega
  simp[Zs,revs,XU,hrev,this]
 have h2:Zs (if(if x.pod.reqs = []then(4:Int)else 3)=4 then []else [({ x with pod:={ x.pod with st:=if x.pod.reqs = []then 4 else 3 } }:zK)]) rev=0:=by
  by_cases hq:x.pod.reqs = []
  ·simp[hq,Zs,revs]
  ·simp[hq,Zs,revs,hrev,XU]
 simp only at h2 ⊢;rw[h1,h2];omega
end
def gX(h:St w0 E w)(i:Nat){b:Nat}{F:zg}{s:Seg}(hi:nth E i=some s)(hf:FlS b F s){rev:B0}{conc want:Int}(hroom:F.room<100000000)(hlast:F.last+F.room<4611686018427387904){k:Sl×Sl×Unit→PT}
  (hk:∀v1 v2 s' s1 s2 w',FlS b (Qd F rev conc want).1 s'→Rw eI zk 1 v1 (oZ F rev want) s1→Rw eI zk 1 v2 (Qd F rev conc want).2 s2→St w0 (s2::s1::ze E i s') w'→k (v1,v2,()) w') :
  L.call Pr YY [pO b,.string rev,I conc,I want] (.tup [.one .slice,.one .slice]) k w:=by
 have hfew:=hf.1.few;have hcl:=uK F.l (rev:=rev);refine zl (qF _ _ _ _) ?_;unfold JB;refine FG h i hi hf λw h=>?_;have h:=h.front i hi;have hg:(xR F rev want:Int)=max 0 (min (want-Zs F.l rev) (F.room-F.l.length)):=by unfold xR;omega
 refine jN (λz w=>∃v sv s,z=(v,((Zs F.l rev+xR F rev want:Nat):Int),())∧FlS b (XY F rev conc want) s∧Rw eI zk 1 v (oZ F rev want) sv∧St w0 (s::sv::ZP E i) w) (λk2 hk2=>?_) ?_
 ·refine Zj (λq y w=>∃(j:Nat)(v:Sl)(sv s:Seg),y=(v,((Zs F.l rev+j:Nat):Int),())∧q+j=xR F rev want∧FlS b (grow rev conc j F) s∧Rw eI zk 1 v ((List.range j).map λj:Nat=>F.last+1+(j:Int)) sv∧St w0 (s::sv::ZP E i) w)
   (xR F rev want) ⟨0,⟨none,0,0⟩,[],s,rfl,rfl,hf,Rw.nil,h.eq (by simp)⟩ ?_
  clear hf;clear h;rintro q y w ⟨j,v,sv,s,rfl,hq,hf,hv,h⟩ again hag
  (try dsimp only)
  have hf':=hf;obtain⟨ok,rA,rW,mA,mW,sA,sW,L,hA,hW,hr,rfl⟩:=hf;have hlj:=vt (F:=F) (rev:=rev) (conc:=conc) j;have hla:=OJ (F:=F) (rev:=rev) (conc:=conc) j;have hro:=Vt (F:=F) (rev:=rev) (conc:=conc) j;have lo:=ok.lo;have h:St w0 (flB b rA rW (grow rev conc j F)::sA::sW::(L.map trS).flatten::sv::ZP E i) w:=h.eq (by simp);have stop:∀{w},j=xR F rev want→St w0 (flB b rA rW (grow rev conc j F)::sA::sW::(L.map trS).flatten::sv::ZP E i) w→k2 (v,((Zs F.l rev+j:Nat):Int),()) w:=by
   rintro w rfl h;exact hk2 _ w ⟨v,sv,_,rfl,hf',hv,h.eq (by simp)⟩
  (refine dr h ?_;clear h;intro w h)
  refine it (λhc=>?_) (λhc=>?_)<;>(try simp only[zB]at hc)
  ·(refine nn ?_;refine ldC h ?_)
   refine MpS.len yT h 1 rfl hA ?_;rw[hr.len,hlj]
   (refine nn ?_;refine ldC h ?_)
   refine it (λhd=>?_) (λhd=>?_)<;>(try simp only[zB]at hd)
   ·(refine nn ?_;refine ldC h ?_;refine nn ?_;refine stC h ?_;clear h;intro w h;dsimp only[Zq,ze]at h;refine dr h ?_;clear h;intro w h;refine nn ?_;refine ldC h ?_;refine nn ?_;refine ldC h ?_)
    refine fT h λb' s' w hp h=>?_;rw[wr (by omega) (by omega)]at h;rw[wr (by omega) (by omega)]
    (refine ckC h ?_;refine ckC h ?_)
    refine MpS.set mkI yT h 2 rfl hA (rev,some ⟨b',0,none⟩) rfl λsA' w hA' h=>?_
    (dsimp only[ze,List.cons_append,List.nil_append]at h;refine nn ?_;refine ldC h ?_)
    refine nw h ?_;clear h;intro b21 w h;refine Rw.app yO elI h 5 rfl hv (F.last+1+(j:Int)) (by rw[hla,eI];congr 2;omega) (by simp;omega) (by simp;omega) λv' sv' w hv' h=>?_;have hg0:zH mA ((grow rev conc j F).last+1)=none:=hr.get0 (by
     unfold jc;rw[List.find?_eq_none];intro x hx;have:=(ok.rng x hx).2;simp;omega)
    refine hag (q-1) _ w (by omega) ⟨j+1,v',sv',flB b rA rW (grow rev conc (j+1) F)++(sA'++(sW++((L++[((⟨(grow rev conc j F).last+1,rev,⟨1,conc,[]⟩⟩:zK),b',s')]).map trS).flatten)),?_,by omega,⟨?_,rA,rW,_,mW,sA',sW,L++[((⟨(grow rev conc j F).last+1,rev,⟨1,conc,[]⟩⟩:zK),b',s')],hA',hW,⟨?_,?_,?_,?_⟩,rfl⟩,?_,?_⟩
    ·rw[wr (by omega) (by omega)];congr 2
    ·exact gC ok (by omega) (by omega)
    ·simp only[grow,grow1,List.map_append,hr.l];rfl
    ·intro t ht;rcases List.mem_append.1 ht with ht | ht
     ·exact hr.ps t ht
     ·simp only[List.mem_singleton]at ht;subst ht;exact hp
    ·rw[Yt hg0,List.map_append];exact hr.all.append_right _
    ·intro q;rw[hr.wth];simp only[grow,grow1];rw[ol _ _ rfl]
    ·rw[List.range_succ,List.map_append];exact hv'
    ·have h:=yx (yu h);have h:=St.addEnd (g:=trS) (t:=((⟨(grow rev conc j F).last+1,rev,⟨1,conc,[]⟩⟩:zK),b',s')) h;have h:=yu (yu (yu (yx (yu h))));exact h.eq (by simp[grow,grow1])
   ·exact stop (by omega) h
  ·exact stop (by omega) h
 ·rintro z w ⟨v,sv,s,rfl,hf,hv,h⟩
  (try dsimp only)
  have hlg:=vt (F:=F) (rev:=rev) (conc:=conc) (xR F rev want);have hmade:(oZ F rev want).length=xR F rev want:=by simp[oZ]
  have hcg:=oj (F:=F) (rev:=rev) (conc:=conc) (xR F rev want);rw[←hcg];have hcle:=uK (grow rev conc (xR F rev want) F).l (rev:=rev)
  refine Zj (λq y w=>∃(F2:zg)(gone:List Int)(v2:Sl)(s2 s:Seg),y=(v2,((Zs F2.l rev:Nat):Int),())∧q=xx F2 rev want∧gone.length+q=xx (XY F rev conc want) rev want∧FlS b F2 s∧Rw eI zk 1 v2 gone s2∧
   (shrink rev q F2).1=(Qd F rev conc want).1∧gone++(shrink rev q F2).2=(Qd F rev conc want).2∧St w0 (s::s2::sv::ZP E i) w)
   (xx (XY F rev conc want) rev want) ⟨XY F rev conc want,[],⟨none,0,0⟩,[],s,rfl,rfl,by simp,hf,Rw.nil,rfl,rfl,h.eq (by simp)⟩ ?_
  clear hf;clear h;rintro q y w ⟨F2,gone,v2,s2,s,rfl,hq,hgl,hf,hv2,hF,hG,h⟩ again hag
  (try dsimp only)
  have hcl2:=uK F2.l (rev:=rev);have hq':(q:Int)=max 0 ((Zs F2.l rev:Int)-max want 0):=by rw[hq];unfold xx;omega
  have hgn:(xx (XY F rev conc want) rev want:Int)≤F.l.length+xR F rev want:=by unfold xx XY;omega
  have hfew2:=hf.1.few;refine it (λhc=>?_) (λhc=>?_)<;>(try simp only[zB]at hc)
  ·have hc0:max want 0<(Zs F2.l rev:Int):=by split at hc<;>omega
   obtain⟨q',rfl⟩:∃q',q=q'+1:=⟨q-1,by omega⟩;refine gW h 0 rfl hf λw h=>?_;obtain⟨x,hx,hrev,hst⟩:=uq hf.1 (rev:=rev) (by omega);have okd:=OO hf.1 (rev:=rev) (by omega);have hcd:=kq hf.1 (rev:=rev) (by omega);obtain⟨ok,rA,rW,mA,mW,sA,sW,L,hA,hW,hr,rfl⟩:=hf;obtain⟨A,t,B,rfl,rfl,hid⟩:=hr.at hx;have h:St w0 (flB b rA rW F2::sA::sW::((A++t::B).map trS).flatten::s2::sv::ZP E i) w:=h.eq (by simp)
   (refine nn ?_;refine ldC h ?_)
   refine MpS.get mkI yT zo (λx:B0×Option Addr=>(x.1,x.2,())) (λ_=>rfl) h 1 rfl hA ?_;have hg:=hr.get ok (t:=t) (by simp);have hp:=hr.ps t (by simp);rw[←hid,hg];simp only[Option.map_some,Option.getD_some];have h:=yF h;have h:=h.pick;refine gU h 0 rfl hp λs' w hp' h=>?_;have h:St w0 (trS ({ t.1 with pod:=(ZJ t.1.pod).1 },t.2.1,s')::((A++B).map trS).flatten::flB b rA rW F2::sA::sW::s2::sv::ZP E i) w:=h;have h:=h.place;have h:=yF (yF (yF h));have hdp:=QU hst;have hrq:(ZJ t.1.pod).1.reqs=t.1.pod.reqs:=by rw[hdp]
   have h4:(ZJ t.1.pod).1.st=4→t.1.pod.reqs = []:=by
    rw[hdp];simp only;intro h;apply Classical.byContradiction;intro hne;simp[hne]at h
   have hwth:∀q,zH mW q=(Zg (yX F2.l t.1.id λp=>(ZJ p).1) q).map (·.id):=λq=>by
    rw[hr.wth,vC ok.pw (jt hx).1 hrq h4]
   have fin:∀{s w},FlS b (Xt rev F2) s→St w0 (s::s2::sv::ZP E i) w→L.new [I t.1.id] zk (λb31=>
     L.sem Pr (.one (.one .slice)) (Builtin.append_ #[zQ,zQ] zQ #[.slice v2.a v2.len v2.cap,.slice (some ⟨b31,0,none⟩) 1 1]) λ(s32:Sl)=>
     again (⟨s32.a,s32.len,s32.cap⟩,Wi ((Zs F2.l rev:Nat)-1),())) w:=by
    intro s w hf h;refine nw h ?_;clear h;intro b31 w h;refine Rw.app yO elI h 1 rfl hv2 t.1.id rfl (by omega) (by omega) λv' s' w hv' h=>?_;refine hag q' _ w (by omega) ⟨Xt rev F2,gone++[t.1.id],v',s',s,?_,?_,?_,hf,hv',?_,?_,h⟩
    ·rw[wr (by omega) (by omega)];congr 2;omega
    ·unfold xx;omega
    ·simp only[List.length_append,List.length_singleton];omega
    ·exact hF
    ·rw[List.append_assoc,hid];exact hG
   refine oG (t:=({ t.1 with pod:=(ZJ t.1.pod).1 },t.2.1,s')) h hA hg hp' (λh4'=>?_) λh4' sA' w hA' h=>?_
   ·refine fin (s:=flB b rA rW F2++(sA++(sW++((A++({ t.1 with pod:=(ZJ t.1.pod).1 },t.2.1,s')::B).map trS).flatten))) ⟨okd,rA,rW,mA,mW,sA,sW,_,hA,hW,?_,rfl⟩ (h.eq (by simp));have:=hr.upd ok (λp=>(ZJ p).1) hp' h4' hwth;unfold Xt;rw[←hid];exact this
   ·refine fin (s:=flB b rA rW F2++(sA'++(sW++((A++B).map trS).flatten))) ⟨okd,rA,rW,_,mW,sA',sW,_,hA',hW,?_,rfl⟩ (h.eq (by simp));have:=hr.del ok (λp=>(ZJ p).1) h4' hwth;unfold Xt;rw[←hid];exact this
  ·have e0:q=0:=by split at hc<;>omega
   subst e0;have e1:F2=(Qd F rev conc want).1:=hF;have e2:gone=(Qd F rev conc want).2:=by rw[←hG];simp[shrink]
   refine xU h (hv.rd yO h 2 rfl) (by omega) (Rw.nil_of yO hv) λv1 s1 w hr1 _ h=>?_;refine xU h (hv2.rd yO h 2 rfl) (by omega) (Rw.nil_of yO hv2) λv3 s3 w hr3 _ h=>?_;refine⟨_,rfl,hk v1 v3 s s1 s3 w (by rw[←e1];exact hf) hr1 (by rw[←e2];exact hr3) ?_⟩;have h:=Us (QV h);have h:=ZC (yx (yx h));exact St.back (i+2) (E:=s3::s1::E) hi h
end Go.Proofs.YtofigcbhafkikaaGreat
namespace Go.Proofs.YtofigcbhafkikaaGreat
open Go.Dm
attribute [local irreducible] L.load L.store L.chk L.new L.nonnil L.guard L.ite L.draw L.idx L.sem L.semR L.semU L.chkSem L.next L.call L.callV L.join L.alts L.loop L.begin L.endRound L.range
variable {w0 w:World}{E:List Seg}
def eC(p:Int×Int):List Value:=[I p.1,I p.2]
def jC:Enc eC 2:=⟨λ_=>rfl,λ_=>rfl,by decide⟩
def elC:El Pr zR zd 2 16 (.agg #[I 0,I 0]):=Kz (by kernel_rfl) (by kernel_rfl) rfl (by decide)
def Rw.stC{v:Sl}{l:List (Int×Int)}{s:Seg}{e:Nat}(h:St w0 E w)(k:Nat)(hi:nth E k=some s)(hr:Rw eC e 2 v l s){i:Nat}{a:Addr}(ha:ElA v 2 i a)(hx:i<l.length)(y:Int×Int){kk:PT}
  (hk:∀s' w',Rw eC e 2 v (l.set i y) s'→St w0 (ze E k s') w'→kk w'):L.store a [I y.1,I y.2] kk w:=by
 obtain⟨a0,hv,rfl⟩:=ha;have hx0:l[i]? = some l[i]:=List.getElem?_eq_getElem hx;generalize l[i]=x at hx0;have e1:ze (fl eC l) (i*2+0) (I y.1)=fl eC (l.set i (y.1,x.2)):=kf jC hx0 (by decide) rfl;have e2:ze (fl eC (l.set i (y.1,x.2))) (i*2+1) (I y.2)=fl eC ((l.set i (y.1,x.2)).set i y):=kf jC (x:=(y.1,x.2)) (by simp[hx]) (by decide) rfl;rw[List.set_set]at e2;have hset:ze (ze (fl eC l) (i*2+0) (I y.1)) (i*2+1) (I y.2)=fl eC (l.set i y):=by rw[e1,e2]
 have hlt:i*2+1<(fl eC l).length:=by rw[Jo jC];omega
 unfold Rw at hr hk;rw[←hset]at hk;have hlen2:(ze (ze (fl eC l) (i*2+0) (I y.1)) (i*2+1) (I y.2)).length=(fl eC l).length:=by rw[yo,yo];simp
 have hlen1:(ze (fl eC l) (i*2+0) (I y.1)).length=(fl eC l).length:=by rw[yo];simp
 generalize fl eC l=xs at *
 cases hr with
 | nil=>cases hv
 | mk g n cap pre xs spare post h1 h2 h3 h4=>
  cases hv
  rw[yH];have hn:∀j,j≤1→∃c,nth (pre++(xs++(spare++post))) (pre.length+(i*2+j))=some c:=λj hj=>by
   rw[YA,jZ (by omega),zp];exact⟨_,List.getElem?_eq_getElem (by omega)⟩
  refine stx [I y.1,I y.2] h k hi ?_ rfl λw' h=>hk _ w' (Row.mk g n cap pre _ spare post (by rw[hlen2];exact h1) (by rw[hlen2];exact h2) h3 h4) ?_
  ·obtain⟨c0,hc0⟩:=hn 0 (by omega);obtain⟨c1,hc1⟩:=hn 1 (by omega);simp only[Nat.add_zero]at hc0;simp[vq,hc0,hc1,Nat.add_assoc]
  ·simp only[Zq]at h;have q1:ze (xs++(spare++post)) (i*2+0) (I y.1)=ze xs (i*2+0) (I y.1)++(spare++post):=xy (by omega);have q2:ze (ze xs (i*2+0) (I y.1)++(spare++post)) (i*2+1) (I y.2)=ze (ze xs (i*2+0) (I y.1)) (i*2+1) (I y.2)++(spare++post):=xy (by omega);rw[show pre.length+i*2=pre.length+(i*2+0)from rfl,JE,q1,show pre.length+(i*2+0)+1=pre.length+(i*2+1)by omega,JE,q2]at h;exact h
def JY(x:Int×Int):List (Int×Int)→List (Int×Int)
 | []=>[x]
 | y::l=>if x.1<y.1 then x::y::l else y::JY x l
def ZA(l:List (Int×Int)):List (Int×Int):=l.foldl (λa x=>JY x a) []
def JO(x:Int×Int)(l:List (Int×Int)):(JY x l).Perm (x::l):=by
 induction l with
 | nil=>exact .refl _
 | cons y l ih=>
  simp only[JY];split
  ·exact .refl _
  ·exact(ih.cons y).trans (.swap ..)
def oU{x:Int×Int}:∀{l:List (Int×Int)},l.Pairwise (λa b=>a.1≤b.1)→(JY x l).Pairwise (λa b=>a.1≤b.1)
 | [],_=>by simp[JY]
 | y::l,h=>by
  rw[List.pairwise_cons]at h;simp only[JY];split
  ·rename_i hy;rw[List.pairwise_cons];refine⟨λz hz=>?_,List.pairwise_cons.2 h⟩;rcases List.mem_cons.1 hz with rfl | hz
   ·omega
   ·have:=h.1 z hz;omega
  ·rename_i hy;rw[List.pairwise_cons];refine⟨λz hz=>?_,oU h.2⟩;rcases List.mem_cons.1 ((JO x l).mem_iff.1 hz)with rfl | hz
   ·omega
   ·exact h.1 z hz
def ox{l:List (Int×Int)}{i:Nat}{x:Int×Int}(h:l[i]? = some x):ZA (l.take (i+1))=JY x (ZA (l.take i)):=by
 unfold ZA;rw[List.take_add_one,h,List.foldl_append];rfl
def ZO(l:List (Int×Int)):(ZA l).length=l.length:=by
 suffices ∀(l a:List (Int×Int)),(l.foldl (λa x=>JY x a) a).length=a.length+l.length by
  have:=this l [];simpa [ZA]using this
 intro l
 induction l with
 | nil=>simp
 | cons x l ih=>intro a;rw[List.foldl_cons,ih,(JO x a).length_eq];simp;omega
def KC(l:List (Int×Int)):(ZA l).Pairwise (λa b=>a.1≤b.1):=by
 suffices ∀(l a:List (Int×Int)),a.Pairwise (λa b=>a.1≤b.1)→(l.foldl (λa x=>JY x a) a).Pairwise (λa b=>a.1≤b.1)from this l [] .nil
 intro l
 induction l with
 | nil=>exact λa h=>h
 | cons x l ih=>exact λa h=>ih _ (oU h)
def oV{x:Int×Int}:∀{A B:List (Int×Int)},(∀y∈A,¬x.1<y.1)→(∀y∈B,x.1<y.1)→JY x (A++B)=A++x::B
 | [],[],_,_=>rfl
 | [],y::B,_,h=>by simp only[List.nil_append,JY];rw[if_pos (h y (by simp))]
 | y::A,B,h1,h2=>by
  simp only[List.cons_append,JY];rw[if_neg (h1 y (by simp)),oV (λz hz=>h1 z (by simp[hz])) h2]
def jm{E:List Seg}{i:Nat}{s s':Seg}(hi:nth E i=some s):nth (ze E i s') i=some s':=by
 rw[zp]at *
 rw[yo,List.getElem?_set_self];exact(List.getElem?_eq_some_iff.1 hi).1
def Yx{E:List Seg}{i:Nat}{s s':Seg}:ze (ze E i s) i s'=ze E i s':=by
 rw[yo,yo,yo,List.set_set]
abbrev Uu:Value:=.func (.func zu) #[] #[]
def Ga(h:St w0 E w){a b c d:Int}(h1: -4611686018427387904<a∧a<4611686018427387904)(h2: -4611686018427387904<c∧c<4611686018427387904){k:Int→PT}(hk:∀w',St w0 E w'→k (a-c) w') :
  L.callV Pr Uu [.agg #[I a,I b],.agg #[I c,I d]] (.one (.one (.int .i64))) k w:=by
 refine KD (fs:=#[]) (cs:=#[]) qg (qj (a,b,()) (c,d,())) ?_;unfold Jj;refine nw h ?_;clear h;intro b1 w h;refine nw h ?_;clear h;intro b2 w h
 (dsimp only[ze,List.cons_append,List.nil_append]at h;refine ldC h ?_;refine ldC h ?_)
 refine⟨_,rfl,?_⟩
 (try dsimp only)
 rw[wr (by omega) (by omega)];exact hk w (ZU (ZU h))
def fK{α:Type}{Q T:List α}{z x:α}:(Q++z::x::T)[Q.length]? = some z∧(Q++z::x::T)[Q.length+1]? = some x∧((Q++z::x::T).set (Q.length+1) z).set Q.length x=Q++x::z::T:=by
 refine⟨by simp,by simp,by simp[List.set_append]⟩
def vM(h:St w0 E w)(i:Nat){s:Seg}(hi:nth E i=some s){v:Sl}{P M R:List (Int×Int)}(hr:Rw eC zd 2 v (P++(M++R)) s)(hn:(P++(M++R)).length<1000000000)
  (hb:∀x∈M,-4611686018427387904<x.1∧x.1<4611686018427387904) {a b:Int} (ha:a=P.length) (hbb:b=P.length+M.length) {k:Unit→PT} (hk:∀s' w',Rw eC zd 2 v (P++(ZA M++R)) s'→St w0 (ze E i s') w'→k () w') :
  L.call Pr zI [.slice v.a v.len v.cap,I a,I b,Uu] (.tup []) k w:=by
 subst ha hbb;refine zl (Yk _ _ _ ⟨.func zu,#[],#[]⟩) ?_;unfold ZL;have hlen:=Rw.len jC hr;simp only[List.length_append]at hn hlen;rw[wr (by omega) (by omega)];have hcb:∀m,∀x∈ZA (M.take m),x∈M:=λm x hx=>by
  have:(ZA (M.take m)).Perm (M.take m):=by
   suffices ∀(l a:List (Int×Int)),(l.foldl (λa x=>JY x a) a).Perm (a++l)from by simpa [ZA]using this (M.take m) []
   intro l
   induction l with
   | nil=>intro a;simp
   | cons y l ih=>
    intro a;refine(ih _).trans (((JO y a).append_right l).trans ?_);exact(List.perm_middle (a:=y) (l₁:=a) (l₂:=l)).symm
  exact List.mem_of_mem_take (this.mem_iff.1 hx)
 have h1:ZA (M.take 1)=M.take 1:=by cases M<;>rfl
 refine Zj (λq y w=>∃(m:Nat)(s:Seg),y=(((P.length+m:Nat):Int),())∧1≤m∧q+m=max 1 M.length∧Rw eC zd 2 v (P++(ZA (M.take m)++(M.drop m++R))) s∧St w0 (ze E i s) w) (max 1 M.length-1)
  ⟨1,s,rfl,by omega,by omega,by rw[h1,←List.append_assoc (M.take 1),List.take_append_drop];exact hr,by rwa [ZE hi]⟩ ?_
 clear hr;clear h;rintro q y w ⟨m,s,rfl,hm,hq,hr,h⟩ again hag
 (try dsimp only)
 refine it (λhc=>?_) (λhc=>?_)<;>(try simp only[zB]at hc)
 ·have hm2:m<M.length:=by omega
  have hx:M[m]? = some M[m]:=List.getElem?_eq_getElem hm2;have hxm:M[m]∈M:=List.getElem_mem hm2;have hdrop:M.drop m=M[m]::M.drop (m+1):=List.drop_eq_getElem_cons hm2;have hct:=ox hx;have hcl:=ZO (M.take m);rw[List.length_take,Nat.min_eq_left (by omega)]at hcl;have hpw:=KC (M.take m);generalize M[m]=x at *
  rw[hdrop]at hr;have hnT:(M.drop (m+1)).length=M.length-(m+1):=List.length_drop ..;refine jN (λz w=>∃s,Rw eC zd 2 v (P++(ZA (M.take (m+1))++(M.drop (m+1)++R))) s∧St w0 (ze E i s) w) (λk3 hk3=>?_) (λz w ⟨s,hr,h⟩=>?_)
  ·refine Zj (λq y w=>∃(A B:List (Int×Int))(s:Seg),y=(((P.length+A.length:Nat):Int),())∧q=A.length∧A++B=ZA (M.take m)∧(∀y∈B,x.1<y.1)∧Rw eC zd 2 v ((P++A)++x::(B++(M.drop (m+1)++R))) s∧St w0 (ze E i s) w) m
    ⟨ZA (M.take m),[],s,by rw[hcl],hcl.symm,by simp,by simp,by simpa [List.append_assoc]using hr,h⟩ ?_
   clear hr;clear h;rintro q2 y w ⟨A,B,s,rfl,hq2,hAB,hB,hr,h⟩ again2 hag2
   (try dsimp only)
   have stop:∀{w},(∀y∈A,¬x.1<y.1)→St w0 (ze E i s) w→k3 () w:=by
    intro w hA h;refine hk3 _ w ⟨s,?_,h⟩;rw[hct,←hAB,oV hA hB];simpa [List.append_assoc]using hr
   have hsi:nth (ze E i s) i=some s:=jm hi;refine dr h λw h=>?_;refine it (λhd=>?_) (λhd=>?_)<;>(try simp only[zB]at hd)
   ·have hA0:A≠[]:=λe=>by subst e;simp at hd
    obtain⟨A',z,rfl⟩:∃A' z,A=A'++[z]:=⟨A.dropLast,A.getLast hA0,(List.dropLast_concat_getLast hA0).symm⟩;have eL:(P++(A'++[z]))++x::(B++(M.drop (m+1)++R))=(P++A')++z::x::(B++(M.drop (m+1)++R)):=by simp
    rw[eL]at hr;obtain⟨g1,g2,g3⟩:=fK (Q:=P++A') (z:=z) (x:=x) (T:=B++(M.drop (m+1)++R));have hlA:(P++A').length=P.length+A'.length:=List.length_append ..;have hl2:=congrArg List.length hAB;simp only[List.length_append,List.length_singleton,hcl]at hl2 hd hq2 ⊢;have hzM:z∈M:=hcb m z (by rw[←hAB];simp);have ix1:((P.length+(A'.length+1):Nat):Int).toNat=(P++A').length+1:=by rw[Int.toNat_natCast];omega
    have ix0:(((P.length+(A'.length+1):Nat):Int)-1).toNat=(P++A').length:=by omega
    have lt1:(P++A').length+1<((P++A')++z::x::(B++(M.drop (m+1)++R))).length:=by simp only[List.length_append,List.length_cons];omega
    rw[wr (n:=((P.length+(A'.length+1):Nat):Int)-1) (by omega) (by omega)];refine Rw.ix jC hr (by omega) (by rw[ix1];exact lt1) λa ha=>?_;rw[ix1]at ha;refine Rw.lda jC h i hsi hr ha g2 rfl ?_;refine Rw.ix jC hr (by omega) (by rw[ix0];omega) λa2 ha2=>?_;rw[ix0]at ha2;refine Rw.lda jC h i hsi hr ha2 g1 rfl ?_;refine Ga h (hb x hxm) (hb z hzM) λw h=>?_;refine it (λhe=>?_) (λhe=>?_)<;>(try simp only[zB]at he)
    ·refine dr h λw h=>?_;refine Rw.ix jC hr (by omega) (by rw[ix0];omega) λa3 ha3=>?_;rw[ix0]at ha3;refine Rw.lda jC h i hsi hr ha3 g1 rfl ?_;refine Rw.ix jC hr (by omega) (by rw[ix1];exact lt1) λa4 ha4=>?_;rw[ix1]at ha4;refine Rw.lda jC h i hsi hr ha4 g2 rfl ?_;refine Rw.ix jC hr (by omega) (by rw[ix1];exact lt1) λa5 ha5=>?_;rw[ix1]at ha5;refine Rw.stC h i hsi hr ha5 lt1 z λs1 w hr1 h=>?_;have hs1:nth (ze (ze E i s) i s1) i=some s1:=jm hsi;refine Rw.ix jC hr1 (by omega) (by rw[ix0,List.length_set];omega) λa6 ha6=>?_;rw[ix0]at ha6;refine Rw.stC h i hs1 hr1 ha6 (by rw[List.length_set];omega) x λs2 w hr2 h=>?_;rw[g3]at hr2;refine hag2 (q2-1) _ w (by omega) ⟨A',z::B,s2,?_,by omega,by simpa using hAB,?_,by simpa using hr2,?_⟩
     ·congr 1;omega
     ·intro y hy;rcases List.mem_cons.1 hy with rfl | hy
      ·omega
      ·exact hB y hy
     ·rwa [Yx,Yx]at h
    ·refine stop (λy hy=>?_) h;rw[←hAB,List.pairwise_append]at hpw;have hpw:=hpw.1;rw[List.pairwise_append]at hpw;rcases List.mem_append.1 hy with hy | hy
     ·have:=hpw.2.2 y hy z (by simp);omega
     ·simp at hy;subst hy;omega
   ·have:A = []:=List.eq_nil_of_length_eq_zero (by omega);subst this;exact stop (by simp) h
  ·refine hag (q-1) _ w (by omega) ⟨m+1,s,?_,by omega,by omega,hr,h⟩;rw[wr (by omega) (by omega)];congr 1
 ·have e:M.drop m = []:=List.drop_eq_nil_of_le (by omega);have e2:M.take m=M:=List.take_of_length_le (by omega);rw[e,e2,List.nil_append]at hr;exact⟨(),rfl,hk s w hr h⟩
def Gx{a b:Int}(ha:0≤a)(hb:0≤b)(h:a+b<4611686018427387904):Wi (Int.fdiv (IntKind.wrap .u64 (Wi (a+b))) (2 ^ (min (Int.toNat 1) 64)))=(a+b)/2:=by
 rw[wr (n:=a+b) (by omega) (by omega)];have e:IntKind.wrap .u64 (a+b)=a+b:=by
  unfold IntKind.wrap;have h1:(IntKind.u64.signed)=false:=rfl;have h2:(2 ^ IntKind.u64.bits:Int)=18446744073709551616:=by decide
  rw[h1,h2];simp only[Bool.false_and,Bool.false_eq_true,if_false];omega
 rw[e];have e2:(2 ^ (min (Int.toNat 1) 64):Int)=2:=by decide
 rw[e2,Int.fdiv_eq_ediv_of_nonneg _ (by decide),wr (by omega) (by omega)]
def KL{α:Type}{Q T U:List α}{x y:α}:(Q++x::(T++y::U))[Q.length]? = some x∧(Q++x::(T++y::U))[Q.length+(1+T.length)]? = some y∧
  ((Q++x::(T++y::U)).set Q.length y).set (Q.length+(1+T.length)) x=Q++y::(T++x::U)∧((Q++x::(T++y::U)).set (Q.length+(1+T.length)) x).set Q.length y=Q++y::(T++x::U):=by
 have e:(1+T.length)=T.length+1:=by omega
 rw[e];refine⟨by simp,?_,?_,?_⟩
 ·rw[List.getElem?_append_right (by omega)];simp
 ·simp[List.set_append]
 ·simp[List.set_append]
def gQ{l:List (Int×Int)}(h:St w0 E w)(i:Nat){s:Seg}(hi:nth E i=some s){v:Sl}(hr:Rw eC zd 2 v l s){p q:Int}{x y:Int×Int}(p0:0≤p)(q0:0≤q)(hx:l[p.toNat]? = some x)(hy:l[q.toNat]? = some y){k:PT}
  (hk:∀s' w',Rw eC zd 2 v ((l.set p.toNat y).set q.toNat x) s'→St w0 (ze E i s') w'→k w') :
  (L.draw<| L.idx v.a q v.len 2 λa3=>L.load (.agg [.int .i64,.int .i64]) a3 λ(x4:Int×Int×Unit)=>L.idx v.a p v.len 2 λa5=>L.load (.agg [.int .i64,.int .i64]) a5 λ(x6:Int×Int×Unit)=>
   L.idx v.a p v.len 2 λa7=>L.store a7 [.int .i64 x4.1,.int .i64 x4.2.1]<| L.idx v.a q v.len 2 λa8=>L.store a8 [.int .i64 x6.1,.int .i64 x6.2.1] k) w:=by
 have hp:=(List.getElem?_eq_some_iff.1 hx).1;have hq:=(List.getElem?_eq_some_iff.1 hy).1;refine dr h λw h=>?_;refine Rw.ix jC hr q0 hq λa ha=>?_;refine Rw.lda jC h i hi hr ha hy (y:=(y.1,y.2,())) rfl ?_;refine Rw.ix jC hr p0 hp λa2 ha2=>?_;refine Rw.lda jC h i hi hr ha2 hx (y:=(x.1,x.2,())) rfl ?_;refine Rw.ix jC hr p0 hp λa3 ha3=>?_;refine Rw.stC h i hi hr ha3 hp y λs1 w hr1 h=>?_;refine Rw.ix jC hr1 q0 (by rw[List.length_set];exact hq) λa6 ha6=>?_;refine Rw.stC h i (jm hi) hr1 ha6 (by rw[List.length_set];exact hq) x λs2 w hr2 h=>?_;rw[Yx]at h;exact hk s2 w hr2 h
def kz(h:St w0 E w)(i:Nat){s:Seg}(hi:nth E i=some s){v:Sl}{P A M B R:List (Int×Int)}(hr:Rw eC zd 2 v (P++(A++(M++(B++R)))) s)(hn:(P++(A++(M++(B++R)))).length<1000000000)(hAB:A.length=B.length)
  {a b n:Int} (ha:a=P.length) (hb:b=P.length+(A.length+M.length)) (hnn:n=A.length) {k:Unit→PT} (hk:∀s' w',Rw eC zd 2 v (P++(B++(M++(A++R)))) s'→St w0 (ze E i s') w'→k () w') :
  L.call Pr zF [.slice v.a v.len v.cap,I a,I b,I n,Uu] (.tup []) k w:=by
 subst ha hb hnn;refine zl (YI _ _ _ _ ⟨.func zu,#[],#[]⟩) ?_;unfold ZZ;simp only[List.length_append]at hn
 refine Zj (λq y w=>∃(j:Nat)(s:Seg),y=((j:Int),())∧q+j=A.length∧Rw eC zd 2 v (P++((B.take j++A.drop j)++(M++((A.take j++B.drop j)++R)))) s∧St w0 (ze E i s) w) A.length
  ⟨0,s,rfl,rfl,by simpa using hr,by rwa [ZE hi]⟩ ?_
 clear hr;clear h;rintro q y w ⟨j,s,rfl,hq,hr,h⟩ again hag
 (try dsimp only)
 have hsi:nth (ze E i s) i=some s:=jm hi;refine it (λhc=>?_) (λhc=>?_)<;>(try simp only[zB]at hc)
 ·have hA:A.drop j=A[j]::A.drop (j+1):=List.drop_eq_getElem_cons (by omega);have hB:B.drop j=B[j]::B.drop (j+1):=List.drop_eq_getElem_cons (by omega);have tA:A.take (j+1)=A.take j++[A[j]]:=by rw[List.take_add_one,List.getElem?_eq_getElem (by omega)];rfl
  have tB:B.take (j+1)=B.take j++[B[j]]:=by rw[List.take_add_one,List.getElem?_eq_getElem (by omega)];rfl
  have lA:(A.take j).length=j:=by rw[List.length_take];omega
  have lB:(B.take j).length=j:=by rw[List.length_take];omega
  have dA:(A.drop (j+1)).length=A.length-(j+1):=List.length_drop ..;generalize A[j]=x at *
  generalize B[j]=y at *
  have eD:P++((B.take j++A.drop j)++(M++((A.take j++B.drop j)++R)))=(P++B.take j)++x::((A.drop (j+1)++(M++A.take j))++y::(B.drop (j+1)++R)):=by rw[hA,hB];simp
  have eD2:(P++B.take j)++y::((A.drop (j+1)++(M++A.take j))++x::(B.drop (j+1)++R))=P++((B.take (j+1)++A.drop (j+1))++(M++((A.take (j+1)++B.drop (j+1))++R))):=by rw[tA,tB];simp
  rw[eD]at hr;obtain⟨g1,g2,g3,-⟩:=KL (Q:=P++B.take j) (T:=A.drop (j+1)++(M++A.take j)) (U:=B.drop (j+1)++R) (x:=x) (y:=y);rw[eD2]at g3;have l1:(P++B.take j).length=P.length+j:=by rw[List.length_append,lB]
  have l2:(P++B.take j).length+(1+(A.drop (j+1)++(M++A.take j)).length)=P.length+(A.length+M.length)+j:=by rw[l1];simp only[List.length_append,dA,lA];omega
  rw[l2]at g2 g3;rw[l1]at g1 g3;rw[wr (n:=(P.length:Int)+(A.length+M.length)+j) (by omega) (by omega),wr (n:=(P.length:Int)+j) (by omega) (by omega)];have i1:((P.length:Int)+j).toNat=P.length+j:=by omega
  have i2:((P.length:Int)+(A.length+M.length)+j).toNat=P.length+(A.length+M.length)+j:=by omega
  refine gQ h i hsi hr (p:=(P.length:Int)+j) (q:=(P.length:Int)+(A.length+M.length)+j) (by omega) (by omega) (by rw[i1];exact g1) (by rw[i2];exact g2) λs' w hr h=>?_;rw[i1,i2,g3]at hr;rw[Yx]at h;refine hag (q-1) _ w (by omega) ⟨j+1,s',?_,by omega,hr,h⟩;rw[wr (by omega) (by omega)];rfl
 ·have e1:A.drop j = []:=List.drop_eq_nil_of_le (by omega);have e2:A.take j=A:=List.take_of_length_le (by omega);have e3:B.drop j = []:=List.drop_eq_nil_of_le (by omega);have e4:B.take j=B:=List.take_of_length_le (by omega);rw[e1,e2,e3,e4,List.append_nil,List.append_nil]at hr;exact⟨(),rfl,hk s w hr h⟩
def fS(h:St w0 E w)(i:Nat){s:Seg}(hi:nth E i=some s){v:Sl}{P A B R:List (Int×Int)}(hr:Rw eC zd 2 v (P++(A++(B++R))) s)(hn:(P++(A++(B++R))).length<1000000000)(hA:A≠[])(hB:B≠[])
  {a m b:Int} (ha:a=P.length) (hm:m=P.length+A.length) (hb:b=P.length+(A.length+B.length)) {k:Unit→PT} (hk:∀s' w',Rw eC zd 2 v (P++(B++(A++R))) s'→St w0 (ze E i s') w'→k () w') :
  L.call Pr Zx [.slice v.a v.len v.cap,I a,I m,I b,Uu] (.tup []) k w:=by
 subst ha hm hb;refine zl (jg _ _ _ _ ⟨.func zu,#[],#[]⟩) ?_;unfold yg;simp only[List.length_append]at hn;rw[wr (n:=(P.length:Int)+A.length-P.length) (by omega) (by omega),wr (n:=(P.length:Int)+(A.length+B.length)-(P.length+A.length)) (by omega) (by omega)];have hA1:=List.length_pos_iff.2 hA;have hB1:=List.length_pos_iff.2 hB
 refine Zj (λq y w=>∃(X A' B' Y:List (Int×Int))(s:Seg),y=((A'.length:Int),(B'.length:Int),())∧q=A'.length+B'.length∧0<A'.length∧0<B'.length∧X.length+A'.length=A.length∧Y.length+B'.length=B.length∧X++(B'++(A'++Y))=B++A∧
  Rw eC zd 2 v (P++(X++(A'++(B'++(Y++R))))) s∧St w0 (ze E i s) w) (A.length+B.length)
  ⟨[],A,B,[],s,by simp;omega,rfl,hA1,hB1,by simp,by simp,by simp,by simpa using hr,by rwa [ZE hi]⟩ ?_
 clear hr;clear h;rintro q y w ⟨X,A',B',Y,s,rfl,hq,hA',hB',hX,hY,hXY,hr,h⟩ again hag
 (try dsimp only)
 have hsi:nth (ze E i s) i=some s:=jm hi;have hnn:(P++(X++(A'++(B'++(Y++R))))).length<1000000000:=by simp only[List.length_append];omega
 refine it (λhc=>?_) (λhc=>?_)<;>(try simp only[zB]at hc)
 ·refine it (λhd=>?_) (λhd=>?_)<;>(try simp only[zB]at hd)
  ·obtain⟨A1,A2,rfl,l1⟩:∃A1 A2,A'=A1++A2∧A1.length=B'.length:=⟨A'.take B'.length,A'.drop B'.length,(List.take_append_drop ..).symm,by rw[List.length_take];omega⟩;simp only[List.length_append]at hX hq hd hA' hnn ⊢;rw[wr (n:=(P.length:Int)+A.length-((A1.length+A2.length:Nat):Int)) (by omega) (by omega)];refine kz (P:=P++X) (A:=A1) (M:=A2) (B:=B') (R:=Y++R) h i hsi (by simpa using hr) (by simp only[List.length_append];omega) l1 (by rw[List.length_append];omega) (by rw[List.length_append];omega) (by omega) λs' w hr h=>?_;rw[Yx]at h;rw[wr (by omega) (by omega)];refine hag (A2.length+A1.length) _ w (by omega) ⟨X++B',A2,A1,Y,s',?_,rfl,by omega,by omega,by rw[List.length_append];omega,by omega,by rw[←hXY];simp,by simpa using hr,h⟩;rw[l1]
   congr 1
   omega
  ·obtain⟨B1,B2,rfl,l1⟩:∃B1 B2,B'=B1++B2∧B2.length=A'.length:=⟨B'.take (B'.length-A'.length),B'.drop (B'.length-A'.length),(List.take_append_drop ..).symm,by rw[List.length_drop];omega⟩;simp only[List.length_append]at hY hq hd hB' hnn hc ⊢;rw[wr (n:=(P.length:Int)+A.length-(A'.length:Int)) (by omega) (by omega),wr (n:=(P.length:Int)+A.length+((B1.length+B2.length:Nat):Int)) (by omega) (by omega),wr (n:=(P.length:Int)+A.length+((B1.length+B2.length:Nat):Int)-(A'.length:Int)) (by omega) (by omega)];refine kz (P:=P++X) (A:=A') (M:=B1) (B:=B2) (R:=Y++R) h i hsi (by simpa using hr) (by simp only[List.length_append];omega) l1.symm (by rw[List.length_append];omega) (by rw[List.length_append];omega) (by omega) λs' w hr h=>?_;rw[Yx]at h;rw[wr (by omega) (by omega)];refine hag (B2.length+B1.length) _ w (by omega) ⟨X,B2,B1,A'++Y,s',?_,rfl,by omega,by omega,by omega,by rw[List.length_append];omega,by rw[←hXY];simp,by simpa using hr,h⟩;rw[←l1]
   congr 2
   omega
 ·rw[wr (n:=(P.length:Int)+A.length-(A'.length:Int)) (by omega) (by omega)];refine kz (P:=P++X) (A:=A') (M:=[]) (B:=B') (R:=Y++R) h i hsi (by simpa using hr) (by simp only[List.length_append,List.length_nil];omega) (by omega) (by rw[List.length_append];omega) (by rw[List.length_append,List.length_nil];omega) rfl λs' w hr h=>?_;rw[Yx]at h;refine⟨(),rfl,hk s' w ?_ h⟩;have e:P++(B++(A++R))=(P++X)++(B'++([]++(A'++(Y++R)))):=by
   have:=congrArg (λz=>P++(z++R)) hXY;simpa using this.symm
  rw[e];exact hr
def vk(x y:Int×Int):Prop:=x.1<y.1∨(x.1=y.1∧x.2<y.2)
abbrev Ls(l:List (Int×Int)):Prop:=l.Pairwise vk
def Kq{x:Int×Int}:∀{l:List (Int×Int)},Ls l→(∀y∈l,y.2<x.2)→Ls (JY x l)
 | [],_,_=>by simp[JY]
 | y::l,h,hx=>by
  have h:=List.pairwise_cons.1 h;simp only[JY];split
  ·rename_i hy;refine List.pairwise_cons.2 ⟨λz hz=>?_,List.pairwise_cons.2 h⟩;rcases List.mem_cons.1 hz with rfl | hz
   ·exact .inl hy
   ·rcases h.1 z hz with h | h
    ·exact .inl (by omega)
    ·exact .inl (by omega)
  ·rename_i hy;refine List.pairwise_cons.2 ⟨λz hz=>?_,Kq h.2 λz hz=>hx z (by simp[hz])⟩;rcases List.mem_cons.1 ((JO x l).mem_iff.1 hz)with rfl | hz
   ·have:=hx y (by simp);by_cases he:y.1=z.1
    ·exact .inr ⟨he,this⟩
    ·exact .inl (by omega)
   ·exact h.1 z hz
def YE(l:List (Int×Int)):(ZA l).Perm l:=by
 suffices ∀(l a:List (Int×Int)),(l.foldl (λa x=>JY x a) a).Perm (a++l)from by simpa [ZA]using this l []
 intro l
 induction l with
 | nil=>intro a;simp
 | cons y l ih=>
  intro a;refine(ih _).trans (((JO y a).append_right l).trans ?_);exact(List.perm_middle (a:=y) (l₁:=a) (l₂:=l)).symm
def uN{l:List (Int×Int)}(h:l.Pairwise λa b=>a.2<b.2):Ls (ZA l):=by
 suffices ∀(l a:List (Int×Int)),(a++l).Pairwise (λa b=>a.2<b.2)∨True→Ls a→l.Pairwise (λa b=>a.2<b.2)→(∀x∈a,∀y∈l,x.2<y.2)→Ls (l.foldl (λa x=>JY x a) a) from
  this l [] (.inr trivial) .nil h (by simp)
 intro l
 induction l with
 | nil=>exact λa _ h _ _=>h
 | cons y l ih=>
  intro a _ ha hl hal;rw[List.pairwise_cons]at hl;refine ih _ (.inr trivial) (Kq ha λx hx=>hal x hx y (by simp)) hl.2 λx hx z hz=>?_;rcases List.mem_cons.1 ((JO y a).mem_iff.1 hx)with rfl | hx
  ·exact hl.1 z hz
  ·exact hal x hx z (by simp[hz])
def Km:∀{l1 l2:List (Int×Int)},Ls l1→Ls l2→l1.Perm l2→l1=l2
 | [],l2,_,_,p=>p.nil_eq
 | x::l1,[],_,_,p=>by have:=p.length_eq;simp at this
 | x::l1,y::l2,h1,h2,p=>by
  have h1:=List.pairwise_cons.1 h1;have h2:=List.pairwise_cons.1 h2;have e:x=y:=by
   rcases List.mem_cons.1 (p.mem_iff.1 (by simp:x∈x::l1))with e | hx
   ·exact e
   ·rcases List.mem_cons.1 (p.mem_iff.2 (by simp:y∈y::l2))with e | hy
    ·exact e.symm
    ·have q1:=h1.1 y hy;have q2:=h2.1 x hx;unfold vk at q1 q2;omega
  subst e;rw[Km h1.2 h2.2 p.cons_inv]
def Xx{l:List (Int×Int)}(h:Ls l){i j:Nat}{x y:Int×Int}(hij:i≤j)(hi:l[i]? = some x)(hj:l[j]? = some y):x.1≤y.1:=by
 rcases Nat.lt_or_ge i j with hlt | hge
 ·obtain⟨i1,rfl⟩:=List.getElem?_eq_some_iff.1 hi;obtain⟨j1,rfl⟩:=List.getElem?_eq_some_iff.1 hj;have:=List.pairwise_iff_getElem.1 h i j i1 j1 hlt;unfold vk at this;omega
 ·have:i=j:=by omega
  subst this;rw[hi]at hj;cases hj;omega
def VZ{l:List (Int×Int)}{c:Nat}{z:Int×Int}(h:z∈l.take c):∃i,i<c∧l[i]? = some z:=by
 obtain⟨i,hi⟩:=List.mem_iff_getElem?.1 h;rw[List.getElem?_take]at hi;split at hi
 ·exact⟨i,by assumption,hi⟩
 ·cases hi
def kb{l:List (Int×Int)}{c:Nat}{z:Int×Int}(h:z∈l.drop c):∃i,c≤i∧l[i]? = some z:=by
 obtain⟨i,hi⟩:=List.mem_iff_getElem?.1 h;rw[List.getElem?_drop]at hi;exact⟨c+i,by omega,hi⟩
def kC{l:List (Int×Int)}(h:St w0 E w)(i:Nat){s:Seg}(hi:nth E i=some s){v:Sl}(hr:Rw eC zd 2 v l s){p q:Int}{x y:Int×Int}(p0:0≤p)(q0:0≤q)(hx:l[p.toNat]? = some x)(hy:l[q.toNat]? = some y)
  (h1: -4611686018427387904<x.1∧x.1<4611686018427387904) (h2: -4611686018427387904<y.1∧y.1<4611686018427387904) {k:Int→PT} (hk:∀w',St w0 E w'→k (x.1-y.1) w') :
  (L.draw<| L.idx v.a p v.len 2 λa3=>L.load (.agg [.int .i64,.int .i64]) a3 λ(x4:Int×Int×Unit)=>L.idx v.a q v.len 2 λa5=>L.load (.agg [.int .i64,.int .i64]) a5 λ(x6:Int×Int×Unit)=>
   L.callV Pr Uu [.agg #[.int .i64 x4.1,.int .i64 x4.2.1],.agg #[.int .i64 x6.1,.int .i64 x6.2.1]] (.one (.one (.int .i64))) k) w:=by
 have hp:=(List.getElem?_eq_some_iff.1 hx).1;have hq:=(List.getElem?_eq_some_iff.1 hy).1;refine dr h λw h=>?_;refine Rw.ix jC hr p0 hp λa ha=>?_;refine Rw.lda jC h i hi hr ha hx (y:=(x.1,x.2,())) rfl ?_;refine Rw.ix jC hr q0 hq λa2 ha2=>?_;refine Rw.lda jC h i hi hr ha2 hy (y:=(y.1,y.2,())) rfl ?_;exact Ga h h1 h2 hk
def fQ(h:St w0 E w)(i:Nat){s:Seg}(hi:nth E i=some s){v:Sl}{P B R:List (Int×Int)}{x:Int×Int}(hr:Rw eC zd 2 v (P++(x::(B++R))) s)(hn:(P++(x::(B++R))).length<1000000000)(sB:Ls B)(hx2:∀y∈B,x.2<y.2)
  (hbx: -4611686018427387904<x.1∧x.1<4611686018427387904) (hb:∀y∈B,-4611686018427387904<y.1∧y.1<4611686018427387904) {a m b:Int} (ha:a=P.length) (hm:m=P.length+1) (hbb:b=P.length+(1+B.length))
  {k:Unit→PT} (hk:∀S s' w',Ls S→S.Perm (x::B)→Rw eC zd 2 v (P++(S++R)) s'→St w0 (ze E i s') w'→k () w') :
  L.call Pr zh [.slice v.a v.len v.cap,I a,I m,I b,Uu] (.tup []) k w:=by
 subst ha hm hbb;refine zl (Zt _ _ _ _ ⟨.func zu,#[],#[]⟩) ?_;unfold zU;simp only[List.length_append,List.length_cons]at hn;rw[wr (n:=(P.length:Int)+1-P.length) (by omega) (by omega)];refine itT (by simp;omega) ?_
 refine Zj (λq y w=>∃c d:Nat,y=((P.length:Int)+1+c,(P.length:Int)+1+d,())∧q+c=d∧c≤d∧d≤B.length∧(∀(i:Nat) z,B[i]? = some z→i<c→z.1<x.1)∧(∀(i:Nat) z,B[i]? = some z→d≤i→¬z.1<x.1)∧St w0 E w) B.length
  ⟨0,B.length,by simp;omega,by omega,by omega,by omega,by intros;omega,by
   intro i z hz hi;have:=(List.getElem?_eq_some_iff.1 hz).1;omega,h⟩ ?_
 clear h;rintro q y w ⟨c,d,rfl,hq,hcd,hd,h1,h2,h⟩ again hag
 (try dsimp only)
 have ix:((P.length:Int)).toNat=P.length:=by omega
 have g0:(P++(x::(B++R)))[((P.length:Int)).toNat]? = some x:=by rw[ix];simp
 refine it (λhc=>?_) (λhc=>?_)<;>(try simp only[zB]at hc)
 ·have he:((P.length:Int)+1+c+((P.length:Int)+1+d))/2=(P.length:Int)+1+(((c+d)/2:Nat):Int):=by omega
  rw[Gx (by omega) (by omega) (by omega),he];obtain⟨e,hee⟩:∃e,e=(c+d)/2:=⟨_,rfl⟩;rw[←hee];have hel:e<B.length:=by omega
  have hz:B[e]? = some B[e]:=List.getElem?_eq_getElem hel;have hzm:B[e]∈B:=List.getElem_mem hel;generalize B[e]=z at hz hzm;have g1:(P++(x::(B++R)))[((P.length:Int)+1+(e:Int)).toNat]? = some z:=by
   have e1:((P.length:Int)+1+(e:Int)).toNat=P.length+(e+1):=by omega
   rw[e1,List.getElem?_append_right (by omega)];have e2:P.length+(e+1)-P.length=e+1:=by omega
   rw[e2,List.getElem?_cons_succ,List.getElem?_append_left hel,hz]
  refine gd (by decide) ?_;refine kC h i hi hr (by omega) (by omega) g1 g0 (hb z hzm) hbx λw h=>?_;refine it (λhl=>?_) (λhl=>?_)<;>(try simp only[zB]at hl)
  ·refine hag (d-(e+1)) _ w (by omega) ⟨e+1,d,?_,by omega,by omega,hd,λi z' hz' hi=>?_,h2,h⟩
   ·rw[wr (by omega) (by omega)];congr 1
   ·have:=Xx sB (by omega) hz' hz;omega
  ·refine hag (e-c) _ w (by omega) ⟨c,e,rfl,by omega,by omega,by omega,h1,λi z' hz' hi=>?_,h⟩;have:=Xx sB hi hz hz';omega
 ·have e:d=c:=by omega
  subst e;refine Zj (λq y w=>∃(j:Nat)(s:Seg),y=((P.length:Int)+j,())∧q+j=d∧Rw eC zd 2 v (P++(B.take j++x::(B.drop j++R))) s∧St w0 (ze E i s) w) d ⟨0,s,by simp,by omega,by simpa using hr,by rwa [ZE hi]⟩ ?_;clear hr g0;clear h;rintro q y w ⟨j,s,rfl,hq,hr,h⟩ again hag
  (try dsimp only)
  have hsi:nth (ze E i s) i=some s:=jm hi;rw[wr (n:=(P.length:Int)+1+d-1) (by omega) (by omega)];refine it (λhc=>?_) (λhc=>?_)<;>(try simp only[zB]at hc)
  ·have hj:j<B.length:=by omega
   have hB:B.drop j=B[j]::B.drop (j+1):=List.drop_eq_getElem_cons hj;have tB:B.take (j+1)=B.take j++[B[j]]:=by rw[List.take_add_one,List.getElem?_eq_getElem hj];rfl
   have lB:(B.take j).length=j:=by rw[List.length_take];omega
   generalize B[j]=z at hB tB;have eD:P++(B.take j++x::(B.drop j++R))=(P++B.take j)++x::([]++z::(B.drop (j+1)++R)):=by rw[hB];simp
   have eD2:(P++B.take j)++z::([]++x::(B.drop (j+1)++R))=P++(B.take (j+1)++x::(B.drop (j+1)++R)):=by rw[tB];simp
   rw[eD]at hr;obtain⟨g1,g2,g3,-⟩:=KL (Q:=P++B.take j) (T:=[]) (U:=B.drop (j+1)++R) (x:=x) (y:=z);have l1:(P++B.take j).length=P.length+j:=by rw[List.length_append,lB]
   have l2:(P++B.take j).length+(1+([]:List (Int×Int)).length)=P.length+j+1:=by rw[l1];rfl
   rw[eD2,l2,l1]at g3;rw[l2]at g2;rw[l1]at g1;have i1:((P.length:Int)+j).toNat=P.length+j:=by omega
   have i2:((P.length:Int)+j+1).toNat=P.length+j+1:=by omega
   rw[wr (n:=(P.length:Int)+j+1) (by omega) (by omega)];refine gQ h i hsi hr (by omega) (by omega) (by rw[i1];exact g1) (by rw[i2];exact g2) λs' w hr h=>?_;rw[i1,i2,g3]at hr;rw[Yx]at h;exact hag (q-1) _ w (by omega) ⟨j+1,s',by congr 1,by omega,hr,h⟩
  ·have e:j=d:=by omega
   subst e;refine⟨(),rfl,hk (B.take j++x::B.drop j) s w ?_ ?_ (by simpa using hr) h⟩
   ·have sB':=sB;rw[←List.take_append_drop j B]at sB';have sB':=List.pairwise_append.1 sB';refine List.pairwise_append.2 ⟨sB'.1,List.pairwise_cons.2 ⟨λz hz=>?_,sB'.2.1⟩,λz hz y hy=>?_⟩
    ·obtain⟨i,hi,hz'⟩:=kb hz;have q1:=h2 i z hz' hi;have q2:=hx2 z (List.mem_of_mem_drop hz);unfold vk;omega
    ·rcases List.mem_cons.1 hy with rfl | hy
     ·obtain⟨i,hi,hz'⟩:=VZ hz;exact .inl (h1 i z hz' hi)
     ·exact sB'.2.2 z hz y hy
   ·refine List.perm_middle.trans ?_;rw[List.take_append_drop]
def fP(h:St w0 E w)(i:Nat){s:Seg}(hi:nth E i=some s){v:Sl}{P A R:List (Int×Int)}{y:Int×Int}(hr:Rw eC zd 2 v (P++(A++(y::R))) s)(hn:(P++(A++(y::R))).length<1000000000)(hA1:A.length≠1)(sA:Ls A)(hy2:∀x∈A,x.2<y.2)
  (hby: -4611686018427387904<y.1∧y.1<4611686018427387904) (hb:∀x∈A,-4611686018427387904<x.1∧x.1<4611686018427387904) {a m b:Int} (ha:a=P.length) (hm:m=P.length+A.length) (hbb:b=P.length+(A.length+1))
  {k:Unit→PT} (hk:∀S s' w',Ls S→S.Perm (A++[y])→Rw eC zd 2 v (P++(S++R)) s'→St w0 (ze E i s') w'→k () w') :
  L.call Pr zh [.slice v.a v.len v.cap,I a,I m,I b,Uu] (.tup []) k w:=by
 subst ha hm hbb;refine zl (Zt _ _ _ _ ⟨.func zu,#[],#[]⟩) ?_;unfold zU;simp only[List.length_append,List.length_cons]at hn;rw[wr (n:=(P.length:Int)+A.length-P.length) (by omega) (by omega),wr (n:=(P.length:Int)+(A.length+1)-(P.length+A.length)) (by omega) (by omega)];refine itF (by simp;omega) ?_;refine itT (by simp;omega) ?_
 refine Zj (λq z w=>∃c d:Nat,z=((P.length:Int)+c,(P.length:Int)+d,())∧q+c=d∧c≤d∧d≤A.length∧(∀(i:Nat) z,A[i]? = some z→i<c→¬y.1<z.1)∧(∀(i:Nat) z,A[i]? = some z→d≤i→y.1<z.1)∧St w0 E w) A.length
  ⟨0,A.length,by simp,by omega,by omega,by omega,by intros;omega,by
   intro i z hz hi;have:=(List.getElem?_eq_some_iff.1 hz).1;omega,h⟩ ?_
 clear h;rintro q z w ⟨c,d,rfl,hq,hcd,hd,h1,h2,h⟩ again hag
 (try dsimp only)
 have g0:(P++(A++(y::R)))[((P.length:Int)+A.length).toNat]? = some y:=by
  have e1:((P.length:Int)+A.length).toNat=P.length+A.length:=by omega
  rw[e1,←List.append_assoc,List.getElem?_append_right (by simp)];simp
 refine it (λhc=>?_) (λhc=>?_)<;>(try simp only[zB]at hc)
 ·have he:((P.length:Int)+c+((P.length:Int)+d))/2=(P.length:Int)+(((c+d)/2:Nat):Int):=by omega
  rw[Gx (by omega) (by omega) (by omega),he];obtain⟨e,hee⟩:∃e,e=(c+d)/2:=⟨_,rfl⟩;rw[←hee];have hel:e<A.length:=by omega
  have hz:A[e]? = some A[e]:=List.getElem?_eq_getElem hel;have hzm:A[e]∈A:=List.getElem_mem hel;generalize A[e]=z at hz hzm;have g1:(P++(A++(y::R)))[((P.length:Int)+(e:Int)).toNat]? = some z:=by
   have e1:((P.length:Int)+(e:Int)).toNat=P.length+e:=by omega
   rw[e1,List.getElem?_append_right (by omega)];have e2:P.length+e-P.length=e:=by omega
   rw[e2,List.getElem?_append_left hel,hz]
  refine gd (by decide) ?_;refine kC h i hi hr (by omega) (by omega) g0 g1 hby (hb z hzm) λw h=>?_;refine it (λhl=>?_) (λhl=>?_)<;>(try simp only[zB]at hl)
  ·refine hag (d-(e+1)) _ w (by omega) ⟨e+1,d,?_,by omega,by omega,hd,λi z' hz' hi=>?_,h2,h⟩
   ·rw[wr (by omega) (by omega)];congr 1
   ·have:=Xx sA (by omega) hz' hz;omega
  ·refine hag (e-c) _ w (by omega) ⟨c,e,rfl,by omega,by omega,by omega,h1,λi z' hz' hi=>?_,h⟩;have:=Xx sA hi hz hz';omega
 ·have e:d=c:=by omega
  subst e;refine Zj (λq z w=>∃(j:Nat)(s:Seg),z=((P.length:Int)+j,())∧q+d=j∧j≤A.length∧Rw eC zd 2 v (P++(A.take j++y::(A.drop j++R))) s∧St w0 (ze E i s) w) (A.length-d) ⟨A.length,s,by simp,by omega,by omega,by simpa using hr,by rwa [ZE hi]⟩ ?_;clear hr g0;clear h;rintro q z w ⟨j,s,rfl,hq,hj,hr,h⟩ again hag
  (try dsimp only)
  have hsi:nth (ze E i s) i=some s:=jm hi;refine it (λhc=>?_) (λhc=>?_)<;>(try simp only[zB]at hc)
  ·obtain⟨j,rfl⟩:∃j',j=j'+1:=⟨j-1,by omega⟩;have hA:A.drop j=A[j]::A.drop (j+1):=List.drop_eq_getElem_cons (by omega);have tA:A.take (j+1)=A.take j++[A[j]]:=by rw[List.take_add_one,List.getElem?_eq_getElem (by omega)];rfl
   have lA:(A.take j).length=j:=by rw[List.length_take];omega
   generalize A[j]=x at hA tA;have eD:P++(A.take (j+1)++y::(A.drop (j+1)++R))=(P++A.take j)++x::([]++y::(A.drop (j+1)++R)):=by rw[tA];simp
   have eD2:(P++A.take j)++y::([]++x::(A.drop (j+1)++R))=P++(A.take j++y::(A.drop j++R)):=by rw[hA];simp
   rw[eD]at hr;obtain⟨g1,g2,-,g3⟩:=KL (Q:=P++A.take j) (T:=[]) (U:=A.drop (j+1)++R) (x:=x) (y:=y);have l1:(P++A.take j).length=P.length+j:=by rw[List.length_append,lA]
   have l2:(P++A.take j).length+(1+([]:List (Int×Int)).length)=P.length+j+1:=by rw[l1];rfl
   rw[eD2,l2,l1]at g3;rw[l2]at g2;rw[l1]at g1;have i0:(P.length:Int)+((j+1:Nat):Int)-1=(P.length:Int)+j:=by omega
   have i1:((P.length:Int)+j).toNat=P.length+j:=by omega
   have i2:((P.length:Int)+((j+1:Nat):Int)).toNat=P.length+j+1:=by omega
   rw[wr (n:=(P.length:Int)+((j+1:Nat):Int)-1) (by omega) (by omega),i0];refine gQ h i hsi hr (by omega) (by omega) (by rw[i2];exact g2) (by rw[i1];exact g1) λs' w hr h=>?_;rw[i1,i2,g3]at hr;rw[Yx]at h;exact hag (q-1) _ w (by omega) ⟨j,s',rfl,by omega,by omega,hr,h⟩
  ·have e:j=d:=by omega
   subst e;refine⟨(),rfl,hk (A.take j++y::A.drop j) s w ?_ ?_ (by simpa using hr) h⟩
   ·have sA':=sA;rw[←List.take_append_drop j A]at sA';have sA':=List.pairwise_append.1 sA';refine List.pairwise_append.2 ⟨sA'.1,List.pairwise_cons.2 ⟨λz hz=>?_,sA'.2.1⟩,λx hx z hz=>?_⟩
    ·obtain⟨i,hi,hz'⟩:=kb hz;exact .inl (h2 i z hz' hi)
    ·rcases List.mem_cons.1 hz with rfl | hz
     ·obtain⟨i,hi,hz'⟩:=VZ hx;have q1:=h1 i x hz' hi;have q2:=hy2 x (List.mem_of_mem_take hx);unfold vk;omega
     ·exact sA'.2.2 x hx z hz
   ·refine List.perm_middle.trans ?_;rw[List.take_append_drop];exact(List.perm_append_singleton y A).symm
def GH(h:St w0 E w)(i:Nat){s:Seg}(hi:nth E i=some s){v:Sl}{M:List (Int×Int)}(hr:Rw eC zd 2 v M s)(hn:M.length≤20)
  (hb:∀x∈M,-4611686018427387904<x.1∧x.1<4611686018427387904) {k:Unit→PT} (hk:∀s' w',Rw eC zd 2 v (ZA M) s'→St w0 (ze E i s') w'→k () w') :
  L.call Pr zD [.slice v.a v.len v.cap,Uu] (.tup []) k w:=by
 refine zl (Zp _ ⟨.func zu,#[],#[]⟩) ?_;unfold zP;refine zl (yi _ _ ⟨.func zu,#[],#[]⟩) ?_;unfold Zy;have hlen:=Rw.len jC hr;have hr0:Rw eC zd 2 v ([]++(M++[])) s:=by simpa using hr
 have fin:∀{s' w},Rw eC zd 2 v (ZA M) s'→St w0 (ze E i s') w→L.loop (Y:=Int×Unit) (20,()) (λy5 again6=>
   L.ite (decide (y5.1<((v.len:Nat):Int))) (
    L.loop (Y:=Int×Int×Unit) (0,Wi (2*y5.1),()) λy7 again8=>
    L.ite (decide (y7.2.1≤((v.len:Nat):Int))) (
     L.call Pr zh [.slice v.a v.len v.cap,.int .i64 y7.1,.int .i64 (Wi (y7.1+y5.1)),.int .i64 y7.2.1,Uu] (.tup []) λ(x9:Unit)=>
     again8 (y7.2.1,Wi (y7.2.1+(Wi (2*y5.1))),()))<|
    L.join (Y:=Unit) (λk10=>
     L.ite (decide ((Wi (y7.1+y5.1))<((v.len:Nat):Int))) (
      L.call Pr zh [.slice v.a v.len v.cap,.int .i64 y7.1,.int .i64 (Wi (y7.1+y5.1)),.int .i64 ((v.len:Nat):Int),Uu] (.tup []) λ(x12:Unit)=>
      k10 (()))<|
     k10 (())) λz11=>
    again6 (Wi (y5.1*2),()))<|
   λw=>∃x:Unit,Value.tuple #[]=RT.val (.tup []) x∧∃y:Unit,Value.tuple #[]=RT.val (.tup []) y∧k y w) w:=by
  intro s' w hr h;refine Zj (λq y w'=>y=(20,())∧w'=w) 0 ⟨rfl,rfl⟩ ?_;rintro q y w' ⟨rfl,rfl⟩ again hag;refine itF (decide_eq_false (by dsimp only;omega)) ?_;exact⟨(),rfl,(),rfl,hk s' _ hr h⟩
 refine Zj (λq y w=>(q=1∧y=(0,20,())∧St w0 E w)∨(q=0∧y=(20,40,())∧M.length=20∧∃s',Rw eC zd 2 v (ZA M) s'∧St w0 (ze E i s') w)) 1 (.inl ⟨rfl,rfl,h⟩) ?_;clear h;rintro q y w (⟨rfl,rfl,h⟩ | ⟨rfl,rfl,h20,s',hr',h⟩) again hag<;>dsimp only
 ·refine it (λhc=>?_) (λhc=>?_)<;>(try simp only[zB]at hc)
  ·refine vM (P:=[]) (M:=M) (R:=[]) h i hi hr0 (by simp;omega) hb (by rfl) (by simp;omega) λs' w hr' h=>?_;rw[wr (by omega) (by omega)];exact hag 0 _ w (by omega) (.inr ⟨rfl,rfl,by omega,s',by simpa using hr',h⟩)
  ·refine vM (P:=[]) (M:=M) (R:=[]) h i hi hr0 (by simp;omega) hb (by rfl) (by simp;omega) λs' w hr' h=>?_;exact fin (by simpa using hr') h
 ·refine itF (decide_eq_false (by omega)) ?_;refine vM (P:=ZA M) (M:=[]) (R:=[]) h i (jm hi) (by simpa using hr') (by simp[ZO];omega) (by simp) (by rw[ZO];omega) (by rw[ZO];simp;omega) λs' w hr' h=>?_;rw[Yx]at h;exact fin (by simpa [ZA]using hr') h
def Vy{p:Int×Int→Bool}{c:Int×Int}:∀{l:List (Int×Int)},l.Pairwise (λa b=>a.1≤b.1)→
  (JY c l).find? p=match l.find? p with | none=>if p c=true then some c else none | some y=>if p c=true∧c.1<y.1 then some c else some y
 | [],_=>by by_cases h:p c=true<;>simp[JY,h]
 | y::l,hp=>by
  rw[List.pairwise_cons]at hp;simp only[JY];split
  ·rename_i hlt;by_cases h:p c=true
   ·rw[List.find?_cons_of_pos h]
    cases hf:(y::l).find? p with
    | none=>simp[h]
    | some z=>
     have hz:c.1<z.1:=by
      rcases List.mem_cons.1 (List.mem_of_find?_eq_some hf)with rfl | hz
      ·exact hlt
      ·have:=hp.1 z hz;omega
     simp[h,hz]
   ·rw[List.find?_cons_of_neg h]
    cases hf:(y::l).find? p<;>simp[h]
  ·rename_i hlt;by_cases hy:p y=true
   ·rw[List.find?_cons_of_pos hy,List.find?_cons_of_pos hy];simp[hlt]
   ·rw[List.find?_cons_of_neg hy,List.find?_cons_of_neg hy];exact Vy hp.2
def can(x:zK):Bool:=decide (x.pod.st=2∧(x.pod.reqs.length:Int)<x.pod.conc)
def jH(b:Option zK)(x:zK):Option zK:=match b with
 | none=>if can x=true then some x else none
 | some y=>if can x=true∧x.pod.reqs.length<y.pod.reqs.length then some x else some y
def vE(l:List zK)(rev:B0):Option zK:=(revs l rev).foldl jH none
def key(x:zK):Int×Int:=(x.pod.reqs.length,x.id)
def Vx{p:Int×Int→Bool}:∀(n:Nat){R:List zK},R.length=n→(∀x∈R,p (key x)=can x)→(ZA (R.map key)).find? p=(R.foldl jH none).map key
 | 0,R,hn,_=>by
  have:=List.eq_nil_of_length_eq_zero hn;subst this;rfl
 | n+1,R,hn,h=>by
  obtain⟨R',x,rfl⟩:∃R' x,R=R'++[x]:=⟨R.dropLast,R.getLast (by intro e;subst e;simp at hn),(List.dropLast_concat_getLast _).symm⟩;have ih:=Vx (p:=p) n (R:=R') (by simpa using hn) λy hy=>h y (by simp[hy]);have hx:=h x (by simp);have e:ZA ((R'++[x]).map key)=JY (key x) (ZA (R'.map key)):=by simp[ZA,List.foldl_append]
  rw[e,Vy (KC _),ih,List.foldl_append];simp only[List.foldl_cons,List.foldl_nil]
  cases R'.foldl jH none with
  | none=>simp only[Option.map_none,jH,hx];split<;>rfl
  | some y=>
   simp only[Option.map_some,jH,hx];by_cases hc:can x=true∧x.pod.reqs.length<y.pod.reqs.length
   ·rw[if_pos hc,if_pos ⟨hc.1,by simp only[key];omega⟩];rfl
   ·rw[if_neg hc,if_neg (λhh=>hc ⟨hh.1,by have:=hh.2;simp only[key]at this;omega⟩)];rfl
def zg.Ok.where_upd{F:zg}(ok:F.Ok){id:Int}{x:zK}(hx:jc F.l id=some x)(g:yn→yn)(hq:∀q∈(g x.pod).reqs,q∈x.pod.reqs∨Zg F.l q=none)
  (h4:(g x.pod).st=4→(g x.pod).reqs = []) (q:Int):(Zg (yX F.l id g) q).map (·.id)=if q∈(g x.pod).reqs then some id else if q∈x.pod.reqs then none else(Zg F.l q).map (·.id):=by
 obtain⟨hm,rfl⟩:=jt hx;obtain⟨A,B,hl⟩:=List.append_of_mem hm;have pw:=ok.pw;have once:=ok.once;have hno:Zg F.l q=none→∀y∈A++x::B,q∉y.pod.reqs:=λh=>by rw[hl]at h;exact xF h
 have hq:=hq q;rw[hl]at pw once ⊢;rw[List.pairwise_append,List.pairwise_cons]at once;rw[qx pw];have hA:(q∈x.pod.reqs∨q∈(g x.pod).reqs)→∀y∈A,q∉y.pod.reqs:=λh y hy hqy=>by
  have h:q∈x.pod.reqs∨Zg F.l q=none:=h.elim .inl λh=>hq h;rcases h with h | h
  ·exact once.2.2 y hy x (by simp) q hqy h
  ·exact hno h y (by simp[hy]) hqy
 have hB:(q∈x.pod.reqs∨q∈(g x.pod).reqs)→∀y∈B,q∉y.pod.reqs:=λh y hy hqy=>by
  have h:q∈x.pod.reqs∨Zg F.l q=none:=h.elim .inl λh=>hq h;rcases h with h | h
  ·exact once.2.1.1 y hy q h hqy
  ·exact hno h y (by simp[hy]) hqy
 have fn:∀{l:List zK},(∀y∈l,q∉y.pod.reqs)→List.find? (λx=>decide (q∈x.pod.reqs)) l=none:=λh=>by
  rw[List.find?_eq_none];exact λy hy=>by simpa using h y hy
 unfold Zg;simp only[List.find?_append];by_cases h1:q∈(g x.pod).reqs
 ·rw[if_pos h1,fn (hA (.inr h1)),Option.none_or];have:(g x.pod).st≠4:=λe=>by rw[h4 e]at h1;simp at h1
  rw[if_neg this,List.find?_cons_of_pos (by simpa using h1)];rfl
 ·rw[if_neg h1];have hg:List.find? (λx=>decide (q∈x.pod.reqs)) (if(g x.pod).st=4 then []else [{ x with pod:=g x.pod }])=none:=by
   split
   ·rfl
   ·rw[List.find?_cons_of_neg (by simpa using h1)];rfl
  rw[hg,Option.none_or];by_cases h2:q∈x.pod.reqs
  ·rw[if_pos h2,fn (hA (.inl h2)),fn (hB (.inl h2))];rfl
  ·rw[if_neg h2,List.find?_cons_of_neg (by simpa using h2)]
structure Cut(p q h:Nat)(A B:List (Int×Int))(c:Nat):Prop where
 c1:c≤p
 c2:c≤h
 c3:h-c≤q
 lo:∀x∈A.take c,∀y∈B.drop (h-c),x.1≤y.1
 hi:∀y∈B.take (h-c),∀x∈A.drop c,y.1<x.1
def fI{p q h c c0 d0:Nat}{A B:List (Int×Int)}(hp:p=A.length)(hq:q=B.length)(hh:h=(p+q)/2)(sA:Ls A)(sB:Ls B)(h0:(p≤h∧c0=0∧d0=p)∨(h<p∧c0+q=h∧d0=h))(hc0:c0≤c)(hc1:c≤d0)
  (hT:∀e x y,c0≤e→e<c→A[e]? = some x→B[h-1-e]? = some y→¬y.1<x.1) (hF:∀e x y,c≤e→e<d0→A[e]? = some x→B[h-1-e]? = some y→y.1<x.1):Cut p q h A B c:=by
 subst hp hq;refine⟨by omega,by omega,by omega,λx hx y hy=>?_,λy hy x hx=>?_⟩
 ·obtain⟨i,hi,hx⟩:=VZ hx;obtain⟨j,hj,hy⟩:=kb hy;have hil:=(List.getElem?_eq_some_iff.1 hx).1;have hjl:=(List.getElem?_eq_some_iff.1 hy).1;have hcc:c0<c:=by omega
  have a1:A[c-1]? = some A[c-1]:=List.getElem?_eq_getElem (by omega);have b1:B[h-1-(c-1)]? = some B[h-1-(c-1)]:=List.getElem?_eq_getElem (by omega);have q1:=hT (c-1) _ _ (by omega) (by omega) a1 b1;have q2:=Xx sA (by omega) hx a1;have q3:=Xx sB (by omega) b1 hy;omega
 ·obtain⟨i,hi,hx⟩:=kb hx;obtain⟨j,hj,hy⟩:=VZ hy;have hil:=(List.getElem?_eq_some_iff.1 hx).1;have hjl:=(List.getElem?_eq_some_iff.1 hy).1;have hcc:c<d0:=by omega
  have a1:A[c]? = some A[c]:=List.getElem?_eq_getElem (by omega);have b1:B[h-1-c]? = some B[h-1-c]:=List.getElem?_eq_getElem (by omega);have q1:=hF c _ _ (by omega) hcc a1 b1;have q2:=Xx sA (by omega) a1 hx;have q3:=Xx sB (by omega) hy b1;omega
abbrev bdC(x:Int×Int):Prop:=-4611686018427387904<x.1∧x.1<4611686018427387904
def fR:∀(N:Nat){w:World}{E:List Seg}(_:St w0 E w)(i:Nat){s:Seg}(_:nth E i=some s){v:Sl}{P A B R:List (Int×Int)}(_:Rw eC zd 2 v (P++(A++(B++R))) s)(_:(P++(A++(B++R))).length<1000000000)(_:A.length+B.length≤N)(_:A≠[])(_:B≠[])
  (_:Ls A) (_:Ls B) (_:∀x∈A,∀y∈B,x.2<y.2) (_:∀x∈A,bdC x) (_:∀x∈B,bdC x) {a m b:Int} (_:a=P.length) (_:m=P.length+A.length) (_:b=P.length+(A.length+B.length))
  {k:Unit→PT} (_:∀S s' w',Ls S→S.Perm (A++B)→Rw eC zd 2 v (P++(S++R)) s'→St w0 (ze E i s') w'→k () w'),
  L.call Pr zh [.slice v.a v.len v.cap,I a,I m,I b,Uu] (.tup []) k w:=by
 intro N
 induction N with
 | zero=>
  intro w E h i s hi v P A B R hr hn hN hA hB;have:=List.length_pos_iff.2 hA;omega
 | succ N ih=>
 intro w E h i s hi v P A B R hr hn hN hA hB sA sB hAB bA bB a m b ha hm hbb k hk;have hA1:=List.length_pos_iff.2 hA;have hB1:=List.length_pos_iff.2 hB;by_cases cA:A.length=1
 ·obtain⟨x,rfl⟩:∃x,A = [x]:=List.length_eq_one_iff.1 cA;exact fQ (P:=P) (x:=x) (B:=B) (R:=R) h i hi hr hn sB (hAB x (by simp)) (bA x (by simp)) bB ha (by simpa using hm) (by simpa using hbb) hk
 by_cases cB:B.length=1
 ·obtain⟨y,rfl⟩:∃y,B = [y]:=List.length_eq_one_iff.1 cB;exact fP h i hi hr hn cA sA (λx hx=>hAB x hx y (by simp)) (bB y (by simp)) bA ha hm (by simpa using hbb) hk
 subst ha hm hbb;refine zl (Zt _ _ _ _ ⟨.func zu,#[],#[]⟩) ?_;unfold zU;simp only[List.length_append]at hn;rw[wr (n:=(P.length:Int)+A.length-P.length) (by omega) (by omega),wr (n:=(P.length:Int)+(A.length+B.length)-(P.length+A.length)) (by omega) (by omega)];refine itF (by simp;omega) ?_;refine itF (by simp;omega) ?_;refine gd (by decide) ?_;obtain⟨hh,hhe⟩:∃hh,hh=(A.length+B.length)/2:=⟨_,rfl⟩;have he:((P.length:Int)+((P.length:Int)+(A.length+B.length)))/2=(P.length:Int)+(hh:Int):=by omega
 rw[Gx (a:=(P.length:Int)) (b:=(P.length:Int)+(A.length+B.length)) (by omega) (by omega) (by omega),he];refine jN (λz w'=>(∃c0 d0:Nat,z=((P.length:Int)+c0,(P.length:Int)+d0,())∧c0≤d0∧((A.length≤hh∧c0=0∧d0=A.length)∨(hh<A.length∧c0+B.length=hh∧d0=hh)))∧w'=w) (λk' hk'=>?_) ?_
 ·refine it (λhc=>?_) (λhc=>?_)<;>(try simp only[zB]at hc)
  ·refine hk' _ _ ⟨⟨hh-B.length,hh,?_,by omega,.inr ⟨by omega,by omega,rfl⟩⟩,rfl⟩;rw[wr (n:=(P.length:Int)+hh+(P.length+A.length)) (by omega) (by omega),wr (by omega) (by omega)]
   congr 1
   omega
  ·exact hk' _ _ ⟨⟨0,A.length,by simp,by omega,.inl ⟨by omega,rfl,rfl⟩⟩,rfl⟩
 rintro z w' ⟨⟨c0,d0,rfl,hcd0,h0⟩,rfl⟩;dsimp only
 refine Zj (λq z w=>∃c d:Nat,z=((P.length:Int)+c,(P.length:Int)+d,())∧q+c=d∧c0≤c∧c≤d∧d≤d0∧(∀e x y,c0≤e→e<c→A[e]? = some x→B[hh-1-e]? = some y→¬y.1<x.1)∧
  (∀e x y,d≤e→e<d0→A[e]? = some x→B[hh-1-e]? = some y→y.1<x.1)∧St w0 E w) (d0-c0) ⟨c0,d0,rfl,by omega,by omega,by omega,by omega,by intros;omega,by intros;omega,h⟩ ?_
 clear h;rintro q z w ⟨c,d,rfl,hq,hc0,hcd,hd,h1,h2,h⟩ again hag
 (try dsimp only)
 refine it (λhc=>?_) (λhc=>?_)<;>(try simp only[zB]at hc)
 ·have he2:((P.length:Int)+c+((P.length:Int)+d))/2=(P.length:Int)+(((c+d)/2:Nat):Int):=by omega
  rw[Gx (a:=(P.length:Int)+c) (by omega) (by omega) (by omega),he2];obtain⟨e,hee⟩:∃e,e=(c+d)/2:=⟨_,rfl⟩;rw[←hee];have hel:e<A.length:=by omega
  have hel2:hh-1-e<B.length:=by omega
  have hx:A[e]? = some A[e]:=List.getElem?_eq_getElem hel;have hxm:A[e]∈A:=List.getElem_mem hel;have hy:B[hh-1-e]? = some B[hh-1-e]:=List.getElem?_eq_getElem hel2;have hym:B[hh-1-e]∈B:=List.getElem_mem hel2;generalize A[e]=x at hx hxm;generalize B[hh-1-e]=y at hy hym;have g1:(P++(A++(B++R)))[((P.length:Int)+(e:Int)).toNat]? = some x:=by
   have e1:((P.length:Int)+(e:Int)).toNat=P.length+e:=by omega
   rw[e1,List.getElem?_append_right (by omega)];have e2:P.length+e-P.length=e:=by omega
   rw[e2,List.getElem?_append_left hel,hx]
  rw[wr (n:=(P.length:Int)+hh+(P.length+A.length)) (by omega) (by omega),wr (n:=(P.length:Int)+hh+(P.length+A.length)-1) (by omega) (by omega),wr (n:=(P.length:Int)+hh+(P.length+A.length)-1-(P.length+e)) (by omega) (by omega)];have g0:(P++(A++(B++R)))[((P.length:Int)+hh+(P.length+A.length)-1-(P.length+e)).toNat]? = some y:=by
   have e1:((P.length:Int)+hh+(P.length+A.length)-1-(P.length+e)).toNat=P.length+(A.length+(hh-1-e)):=by omega
   rw[e1,List.getElem?_append_right (by omega)];have e2:P.length+(A.length+(hh-1-e))-P.length=A.length+(hh-1-e):=by omega
   rw[e2,List.getElem?_append_right (by omega)];have e3:A.length+(hh-1-e)-A.length=hh-1-e:=by omega
   rw[e3,List.getElem?_append_left hel2,hy]
  refine gd (by decide) ?_;refine kC h i hi hr (by omega) (by omega) g0 g1 (bB y hym) (bA x hxm) λw h=>?_;refine it (λhl=>?_) (λhl=>?_)<;>(try simp only[zB]at hl)
  ·refine hag (d-(e+1)) _ w (by omega) ⟨e+1,d,?_,by omega,by omega,by omega,hd,λe' x' y' he1 he2 hx' hy'=>?_,h2,h⟩
   ·rw[wr (by omega) (by omega)];congr 1
   ·have q1:=Xx sA (by omega) hx' hx;have q2:=Xx sB (by omega) hy hy';omega
  ·refine hag (e-c) _ w (by omega) ⟨c,e,rfl,by omega,by omega,by omega,by omega,h1,λe' x' y' he1 he2 hx' hy'=>?_,h⟩;have q1:=Xx sA he1 hx hx';have q2:=Xx sB (by omega) hy' hy;omega
 clear hag;have e:d=c:=by omega
 subst e;have C:=fI rfl rfl hhe sA sB h0 hc0 hd h1 h2;clear h1 h2 h0 hc0 hd hcd;obtain⟨A1,A2,rfl,lA1⟩:∃A1 A2,A=A1++A2∧A1.length=d:=⟨A.take d,A.drop d,(List.take_append_drop ..).symm,by rw[List.length_take];have:=C.c1;omega⟩;obtain⟨B1,B2,rfl,lB1⟩:∃B1 B2,B=B1++B2∧B1.length=hh-d:=⟨B.take (hh-d),B.drop (hh-d),(List.take_append_drop ..).symm,by rw[List.length_take];have:=C.c3;omega⟩;have tA:(A1++A2).take d=A1:=by rw[←lA1,List.take_left]
 have dA:(A1++A2).drop d=A2:=by rw[←lA1,List.drop_left]
 have tB:(B1++B2).take (hh-d)=B1:=by rw[←lB1,List.take_left]
 have dB:(B1++B2).drop (hh-d)=B2:=by rw[←lB1,List.drop_left]
 have hlo:=C.lo;have hhi:=C.hi;have hc2:=C.c2;rw[tA,dB]at hlo;rw[tB,dA]at hhi;clear tA dA tB dB C;have pA:=List.pairwise_append.1 sA;have pB:=List.pairwise_append.1 sB;simp only[List.length_append]at *
 rw[wr (n:=(P.length:Int)+hh+(P.length+((A1.length+A2.length:Nat):Int))) (by omega) (by omega),wr (n:=(P.length:Int)+hh+(P.length+((A1.length+A2.length:Nat):Int))-(P.length+(d:Int))) (by omega) (by omega)];have hend:(P.length:Int)+hh+(P.length+((A1.length+A2.length:Nat):Int))-(P.length+(d:Int))=(P.length:Int)+((hh+A2.length:Nat):Int):=by omega
 rw[hend];have lo2:∀x∈A1,∀y∈B2,vk x y:=λx hx y hy=>by
  have q1:=hlo x hx y hy;have q2:=hAB x (by simp[hx]) y (by simp[hy]);unfold vk;omega
 refine jN (λ_ w=>∃s,Rw eC zd 2 v (P++(A1++(B1++(A2++(B2++R))))) s∧St w0 (ze E i s) w) (λk' hk'=>?_) ?_
 ·have stay:(A2 = []∨B1 = [])→k' () w:=λhh=>hk' () w ⟨s,by
   have e:P++(A1++(B1++(A2++(B2++R))))=P++((A1++A2)++((B1++B2)++R)):=by rcases hh with rfl | rfl<;>simp
   rw[e];exact hr,by rwa [ZE hi]⟩
  refine it (λhc1=>?_) (λhc1=>?_)<;>(try simp only[zB]at hc1)
  ·refine it (λhc3=>?_) (λhc3=>?_)<;>(try simp only[zB]at hc3)
   ·refine fS (P:=P++A1) (A:=A2) (B:=B1) (R:=B2++R) h i hi (by simpa using hr) (by simp only[List.length_append];omega) (List.length_pos_iff.1 (by omega)) (List.length_pos_iff.1 (by omega)) (by rw[List.length_append];omega) (by rw[List.length_append];omega) (by rw[List.length_append];omega) λs' w hr h=>?_;exact hk' () w ⟨s',by simpa using hr,h⟩
   ·exact stay (.inr (List.eq_nil_of_length_eq_zero (by omega)))
  ·exact stay (.inl (List.eq_nil_of_length_eq_zero (by omega)))
 clear hr;clear h;rintro _ w ⟨s,hr,h⟩
 (try dsimp only)
 refine jN (λ_ w=>∃S1 s,Ls S1∧S1.Perm (A1++B1)∧Rw eC zd 2 v (P++(S1++(A2++(B2++R)))) s∧St w0 (ze E i s) w) (λk' hk'=>?_) ?_
 ·have stay:(A1 = []∨B1 = [])→k' () w:=λhh=>hk' () w ⟨A1++B1,s,by
   rcases hh with rfl | rfl
   ·simpa using pB.1
   ·simpa using pA.1,.refl _,by simpa using hr,h⟩
  refine it (λhc1=>?_) (λhc1=>?_)<;>(try simp only[zB]at hc1)
  ·refine it (λhc3=>?_) (λhc3=>?_)<;>(try simp only[zB]at hc3)
   ·refine ih (P:=P) (A:=A1) (B:=B1) (R:=A2++(B2++R)) h i (jm hi) hr (by simp only[List.length_append];omega) (by omega) (List.length_pos_iff.1 (by omega)) (List.length_pos_iff.1 (by omega)) pA.1 pB.1 (λx hx y hy=>hAB x (by simp[hx]) y (by simp[hy]))
     (λx hx=>bA x (by simp[hx])) (λx hx=>bB x (by simp[hx])) rfl (by omega) (by omega) λS1 s' w l1 p1 hr h=>?_
    rw[Yx]at h;exact hk' () w ⟨S1,s',l1,p1,hr,h⟩
   ·exact stay (.inr (List.eq_nil_of_length_eq_zero (by omega)))
  ·exact stay (.inl (List.eq_nil_of_length_eq_zero (by omega)))
 clear hr;clear h;rintro _ w ⟨S1,s,l1,p1,hr,h⟩
 (try dsimp only)
 have lS1:S1.length=hh:=by rw[p1.length_eq,List.length_append];omega
 have fin:∀S2 s' w',Ls S2→S2.Perm (A2++B2)→Rw eC zd 2 v ((P++S1)++(S2++R)) s'→St w0 (ze E i s') w'→k () w':=λS2 s' w' l2 p2 hr h=>by
  refine hk (S1++S2) s' w' (List.pairwise_append.2 ⟨l1,l2,λx hx y hy=>?_⟩) ?_ (by simpa using hr) h
  ·rcases List.mem_append.1 (p1.mem_iff.1 hx)with hx | hx<;>rcases List.mem_append.1 (p2.mem_iff.1 hy)with hy | hy
   ·exact pA.2.2 x hx y hy
   ·exact lo2 x hx y hy
   ·exact .inl (hhi x hx y hy)
   ·exact pB.2.2 x hx y hy
  ·refine(p1.append p2).trans ?_;rw[List.append_assoc,List.append_assoc];refine List.Perm.append_left _ ?_;rw[←List.append_assoc,←List.append_assoc];exact List.Perm.append_right _ List.perm_append_comm
 have stay:(A2 = []∨B2 = [])→k () w:=λhh=>fin (A2++B2) s w (by
   rcases hh with rfl | rfl
   ·simpa using pB.2.1
   ·simpa using pA.2.1) (.refl _) (by simpa using hr) h
 refine it (λhc1=>?_) (λhc1=>?_)<;>(try simp only[zB]at hc1)
 ·refine it (λhc3=>?_) (λhc3=>?_)<;>(try simp only[zB]at hc3)
  ·refine ih (P:=P++S1) (A:=A2) (B:=B2) (R:=R) h i (jm hi) (by simpa using hr) (by simp only[List.length_append];omega) (by omega) (List.length_pos_iff.1 (by omega)) (List.length_pos_iff.1 (by omega)) pA.2.1 pB.2.1 (λx hx y hy=>hAB x (by simp[hx]) y (by simp[hy]))
    (λx hx=>bA x (by simp[hx])) (λx hx=>bB x (by simp[hx])) (by rw[List.length_append];omega) (by rw[List.length_append];omega) (by rw[List.length_append];omega) λS2 s' w l2 p2 hr h=>?_
   rw[Yx]at h;exact⟨(),rfl,fin S2 s' w l2 p2 hr h⟩
  ·exact⟨(),rfl,stay (.inr (List.eq_nil_of_length_eq_zero (by omega)))⟩
 ·exact⟨(),rfl,stay (.inl (List.eq_nil_of_length_eq_zero (by omega)))⟩
def gR(h:St w0 E w)(i:Nat){s:Seg}(hi:nth E i=some s){v:Sl}{M:List (Int×Int)}(hr:Rw eC zd 2 v M s)(hn:M.length<40)(hid:M.Pairwise λa b=>a.2<b.2)
  (hb:∀x∈M,bdC x) {k:Unit→PT} (hk:∀s' w',Rw eC zd 2 v (ZA M) s'→St w0 (ze E i s') w'→k () w') :
  L.call Pr zD [.slice v.a v.len v.cap,Uu] (.tup []) k w:=by
 by_cases h20:M.length≤20
 ·exact GH h i hi hr h20 hb hk
 refine zl (Zp _ ⟨.func zu,#[],#[]⟩) ?_;unfold zP;refine zl (yi _ _ ⟨.func zu,#[],#[]⟩) ?_;unfold Zy;have hlen:=Rw.len jC hr;obtain⟨M1,M2,rfl,l1⟩:∃M1 M2,M=M1++M2∧M1.length=20:=⟨M.take 20,M.drop 20,(List.take_append_drop ..).symm,by rw[List.length_take];omega⟩;have p12:=List.pairwise_append.1 hid;rw[List.length_append]at hn h20 hlen;have hb1:∀x∈ZA M1,bdC x:=λx hx=>hb x (by simp[(YE M1).mem_iff.1 hx]);have hb2:∀x∈ZA M2,bdC x:=λx hx=>hb x (by simp[(YE M2).mem_iff.1 hx]);refine Zj (λq y w=>(q=1∧y=(0,20,())∧St w0 E w)∨(q=0∧y=(20,40,())∧∃s',Rw eC zd 2 v (ZA M1++(M2++[])) s'∧St w0 (ze E i s') w)) 1 (.inl ⟨rfl,rfl,h⟩) ?_;clear h;rintro q y w (⟨rfl,rfl,h⟩ | ⟨rfl,rfl,s',hr',h⟩) again hag<;>dsimp only
 ·refine itT (decide_eq_true (by omega)) ?_;refine vM (P:=[]) (M:=M1) (R:=M2) h i hi (by simpa using hr) (by simp;omega) (λx hx=>hb x (by simp[hx])) (by rfl) (by simp;omega) λs' w hr' h=>?_;rw[wr (by omega) (by omega)];exact hag 0 _ w (by omega) (.inr ⟨rfl,rfl,s',by simpa using hr',h⟩)
 ·refine itF (decide_eq_false (by omega)) ?_;refine vM (P:=ZA M1) (M:=M2) (R:=[]) h i (jm hi) hr' (by simp[ZO];omega) (λx hx=>hb x (by simp[hx])) (by rw[ZO];omega) (by rw[ZO];omega) λs' w hr' h=>?_;rw[Yx]at h;refine Zj (λq y w=>(q=1∧y=(20,())∧∃s',Rw eC zd 2 v (ZA M1++(ZA M2++[])) s'∧St w0 (ze E i s') w)∨(q=0∧y=(40,())∧∃s',Rw eC zd 2 v (ZA (M1++M2)) s'∧St w0 (ze E i s') w)) 1 (.inl ⟨rfl,rfl,s',hr',h⟩) ?_;clear hr';clear h;rintro q y w (⟨rfl,rfl,s',hr',h⟩ | ⟨rfl,rfl,s',hr',h⟩) again hag<;>dsimp only
  ·refine itT (decide_eq_true (by omega)) ?_;rw[wr (n:=2*20) (by omega) (by omega)];refine Zj (λq y w'=>y=(0,2*20,())∧w'=w) 0 ⟨rfl,rfl⟩ ?_;rintro q y w' ⟨rfl,rfl⟩ again2 hag2;dsimp only;refine itF (decide_eq_false (by omega)) ?_;refine jN (λ_ w=>∃s',Rw eC zd 2 v (ZA (M1++M2)) s'∧St w0 (ze E i s') w) (λk' hk'=>?_) ?_
   ·rw[wr (n:=0+20) (by omega) (by omega)];refine itT (decide_eq_true (by omega)) ?_
    refine fR (M1.length+M2.length) (P:=[]) (A:=ZA M1) (B:=ZA M2) (R:=[]) h i (jm hi) hr' (by simp[ZO];omega) (by rw[ZO,ZO];omega) (List.length_pos_iff.1 (by rw[ZO];omega)) (List.length_pos_iff.1 (by rw[ZO];omega)) (uN p12.1) (uN p12.2.1)
     (λx hx y hy=>p12.2.2 x ((YE M1).mem_iff.1 hx) y ((YE M2).mem_iff.1 hy)) hb1 hb2 (by rfl) (by rw[ZO];simp;omega) (by rw[ZO,ZO];simp;omega) λS s'' w lS pS hr'' h=>?_
    rw[Yx]at h;have e:S=ZA (M1++M2):=Km lS (uN hid) ((pS.trans ((YE M1).append (YE M2))).trans (YE _).symm);subst e;exact hk' () w ⟨s'',by simpa using hr'',h⟩
   ·clear hr';rintro _ w'' ⟨s'',hr'',h⟩
    (try dsimp only)
    rw[wr (n:=20*2) (by omega) (by omega)];exact hag 0 _ w'' (by omega) (.inr ⟨rfl,rfl,s'',hr'',h⟩)
  ·refine itF (decide_eq_false (by omega)) ?_;exact⟨(),rfl,(),rfl,hk s' w hr' h⟩
def Zv(F:zg)(rev:B0)(q:Int):zg×Int×Bool:=
 if(Zg F.l q).isSome then(F,0,false)else match vE F.l rev with
 | none=>(F,0,false)
 | some x=>({ F with l:=yX F.l x.id λp=>(Zi p q).1 },x.id,true)
def oS:∀{R:List zK}{b x:Option zK},R.foldl jH b=x→(∀y,b=some y→can y=true)→∀y,x=some y→can y=true∧(y∈R∨b=some y)
 | [],b,x,h,hb,y,hy=>by subst h;exact⟨hb y hy,.inr hy⟩
 | z::R,b,x,h,hb,y,hy=>by
  rw[List.foldl_cons]at h;have hz:∀y,jH b z=some y→can y=true∧(y=z∨b=some y):=by
   intro y hy;unfold jH at hy
   cases b with
   | none=>simp only at hy;split at hy<;>simp at hy;subst hy;exact⟨by assumption,.inl rfl⟩
   | some u=>
    simp only at hy;split at hy
    ·simp at hy;subst hy;rename_i h;exact⟨h.1,.inl rfl⟩
    ·simp at hy;subst hy;exact⟨hb u rfl,.inr rfl⟩
  have:=oS h (λy hy=>(hz y hy).1) y hy;refine⟨this.1,?_⟩;rcases this.2 with h | h
  ·left;simp[h]
  ·rcases(hz y h).2 with e | e
   ·left;simp[e]
   ·right;exact e
def kZ{l:List zK}{rev:B0}{x:zK}(h:vE l rev=some x):x∈l∧x.rev=rev∧can x=true:=by
 have:=oS h (by simp) x rfl;rcases this.2 with h2 | h2
 ·exact⟨(List.mem_filter.1 h2).1,of_decide_eq_true (List.mem_filter.1 h2).2,this.1⟩
 ·cases h2
def oN{x:zK}(hc:can x=true){q:Int}(hq:q∉x.pod.reqs):Zi x.pod q=({ x.pod with reqs:=QP q x.pod.reqs },0):=by
 have:=of_decide_eq_true hc;unfold Zi;rw[if_neg (by omega),if_neg hq,if_neg (by omega)]
def Gj{x:zK}(hc:¬can x=true){q:Int}(hq:q∉x.pod.reqs):(Zi x.pod q).1=x.pod∧(Zi x.pod q).2≠0:=by
 have:¬(x.pod.st=2∧(x.pod.reqs.length:Int)<x.pod.conc):=λh=>hc (decide_eq_true h);unfold Zi;by_cases h:x.pod.st≠2
 ·rw[if_pos h];exact⟨rfl,by simp⟩
 ·rw[if_neg h,if_neg hq,if_pos (by omega)];exact⟨rfl,by simp⟩
def VC{l:List zK}(once:l.Pairwise (λx y=>∀q∈x.pod.reqs,q∉y.pod.reqs)){x:zK}(hx:x∈l){q:Int}(hq:q∈x.pod.reqs):Zg l q=some x:=by
 unfold Zg
 induction l with
 | nil=>simp at hx
 | cons y l ih=>
  rw[List.pairwise_cons]at once;rcases List.mem_cons.1 hx with rfl | hx
  ·rw[List.find?_cons_of_pos (by simpa using hq)]
  ·rw[List.find?_cons_of_neg (by simpa using λh=>once.1 x hx q h hq)];exact ih once.2 hx
def gH{F:zg}(ok:F.Ok)(rev:B0)(q:Int):(Zv F rev q).1.Ok:=by
 unfold Zv;split
 ·exact ok
 ·rename_i hw;split
  ·exact ok
  ·rename_i x hp;obtain⟨hx,-,hc⟩:=kZ hp;have hn:Zg F.l q=none:=by cases h:Zg F.l q<;>simp[h]at hw ⊢
   have ht:=oN hc (xF hn x hx);have hcc:=of_decide_eq_true hc;refine ok.upd (xT ok.pw hx) _ ?_ ?_
   ·rw[ht];simp only;omega
   ·rw[ht];intro q2 h2;rcases xQ.1 h2 with rfl | h2
    ·exact .inr hn
    ·exact .inl h2
def GE(h:St w0 E w)(i:Nat){A B:List Tr}{t:Tr}(hi:nth E i=some ((A++t::B).map trS).flatten)(hp:Jq t.2.1 t.1.pod t.2.2)(hfew:t.1.pod.reqs.length<10000000){q:Int}{k:Int→PT}
  (hk:∀s' w',Jq t.2.1 (Zi t.1.pod q).1 s'→St w0 (ze E i ((A++({ t.1 with pod:=(Zi t.1.pod q).1 },t.2.1,s')::B).map trS).flatten) w'→k (Zi t.1.pod q).2 w') :
  L.call Pr jJ [.pointer (some ⟨t.2.1,0,none⟩),I q] (.one (.one (.int .i64))) k w:=by
 refine GI (h.front i hi).pick 0 rfl hp hfew λs' w hp' h=>hk s' w hp' ?_;have h:St w0 (trS ({ t.1 with pod:=(Zi t.1.pod q).1 },t.2.1,s')::((A++B).map trS).flatten::ZP E i) w:=h;exact St.back i hi h.place
def FlR.same{F:zg}{A B:List Tr}{t:Tr}{mA mW}(hr:FlR F (A++t::B) mA mW){s':Seg}(hp:Jq t.2.1 t.1.pod s'):FlR F (A++(t.1,t.2.1,s')::B) mA mW:=by
 refine⟨by rw[hr.l];simp,λy hy=>?_,by have:=hr.all;simp only[List.map_append,List.map_cons]at this ⊢;exact this,hr.wth⟩;rcases List.mem_append.1 hy with hy | hy
 ·exact hr.ps y (by simp[hy])
 ·rcases List.mem_cons.1 hy with rfl | hy
  ·exact hp
  ·exact hr.ps y (by simp[hy])
def FlR.getW{F:zg}{L:List Tr}{mA mW}(hr:FlR F L mA mW)(q:Int):(zH mW q).isSome=(Zg F.l q).isSome:=by rw[hr.wth];cases Zg F.l q<;>rfl
def GN(h:St w0 E w)(i:Nat){b:Nat}{F:zg}{s:Seg}(hi:nth E i=some s)(hf:FlS b F s){rev:B0}{q:Int}(h20:(revs F.l rev).length≤30)(hfew:∀x∈F.l,x.pod.reqs.length<10000000){k:Int×Bool×Unit→PT}
  (hk:∀s' w',FlS b (Zv F rev q).1 s'→St w0 (ze E i s') w'→k ((Zv F rev q).2.1,(Zv F rev q).2.2,()) w') :
  L.call Pr jq [pO b,.string rev,I q] (.tup [.one (.int .i64),.one .bool]) k w:=by
 have hf0:=hf;obtain⟨ok,rA,rW,mA,mW,sA,sW,L,hA,hW,hr,rfl⟩:=hf;refine zl (Qp _ _ _) ?_;unfold xk;have hll:L.length=F.l.length:=by rw[hr.l];simp
 have hcount:=ok.few;have h:St w0 (flB b rA rW F::sA::sW::(L.map trS).flatten::ZP E i) w:=(h.front i hi).eq (by simp)
 (refine nn ?_;refine ldC h ?_)
 refine MpS.get2 mkI yB zi (λx:Int=>x) (λ_=>rfl) h 2 rfl hW ?_;rw[hr.getW];refine it (λhc=>?_) (λhc=>?_)<;>(try simp only[zB]at hc)
 ·have e:Zv F rev q=(F,0,false):=by unfold Zv;rw[if_pos hc]
  rw[e]at hk;exact⟨(0,false,()),rfl,hk _ w hf0 (St.back i hi (h.eq (by simp)))⟩
 have hn:Zg F.l q=none:=by cases h:Zg F.l q<;>simp[h]at hc ⊢
 have hno:=xF hn;refine nw h ?_;clear h;intro b4 w h;refine fU h λc0 c1 w h=>?_;have h:=yF (yF (yu (yu h)));have h:St w0 ([[Cl c1 Za [.string rev]],[Cl c0 zS [.pointer (some ⟨b,0,none⟩)]],flB b rA rW F,sA]++[Cl b4 zR [SlV ⟨none,0,0⟩]]::[]::sW::(L.map trS).flatten::ZP E i) w:=h.eq (by simp);have hR:=hr.revs rev;have hlR:(L.filter (YW rev)).length≤30:=by rw[hR,List.length_map]at h20;exact h20
 refine qq (A:=[_,_,_,_]) (fM ok hA hr) h (λm G=>∃v sv,Rw eC zd 2 v (((L.filter (YW rev)).take m).map λt=>key t.1) sv∧G = [Cl b4 zR [SlV v]]::sv::sW::(L.map trS).flatten::ZP E i) (λj G=>False) ⟨_,_,Rw.nil,rfl⟩ ?_ ?_ ?_
 ·rintro m G X w lv lp d R hm ⟨v,sv,hv,rfl⟩ h hN hE;have hx:=List.getElem?_eq_getElem hm;have h:St w0 ([Rec lv lp .busy none]::[DfM d]::[Cl c1 Za [.string rev]]::[Cl c0 zS [.pointer (some ⟨b,0,none⟩)]]::flB b rA rW F::sA::[Cl b4 zR [SlV v]]::sv::sW::(L.map trS).flatten::(ZP E i++X)) w:=h;rw[kx hm]
  (try dsimp only)
  have hmem:=kc hm;have hps:=hr.ps _ hmem
  (refine dr h ?_;clear h;intro w h;refine ldC h ?_)
  refine UK h 9 rfl hmem hps ?_
  (refine ckC h ?_)
  refine nw h ?_;clear h;intro b11 w h
  (refine ckC h ?_)
  refine Rw.app jC elC h 7 rfl hv (key (L.filter (YW rev))[m].1) rfl (by simp;omega) (by simp;omega) λv' s' w hv h=>?_
  (dsimp only[ze,List.cons_append,List.nil_append]at h;refine stC h ?_;clear h;intro w h;dsimp only[Zq,ze]at h)
  refine hN _ w ⟨v',s',?_,rfl⟩ h;rw[List.take_add_one,hx,List.map_append];exact hv
 ·rintro d G w ⟨v,sv,hv,rfl⟩ h;have h:St w0 ([DfM d]::[Cl c1 Za [.string rev]]::[Cl c0 zS [.pointer (some ⟨b,0,none⟩)]]::flB b rA rW F::sA::[Cl b4 zR [SlV v]]::sv::sW::(L.map trS).flatten::ZP E i) w:=h;rw[List.take_length]at hv;have e:(L.filter (YW rev)).map (λt=>key t.1)=(revs F.l rev).map key:=by rw[hR,List.map_map];rfl
  rw[e]at hv;have h:=Ut (gM h);refine qP ?_
  (refine ldC h ?_)
  refine gR h 4 rfl hv (by rw[List.length_map];omega) (by
   rw[List.pairwise_map];exact(ok.pw.filter _).imp λhxy=>hxy) (λc hc=>by
   obtain⟨x,hx,rfl⟩:=List.mem_map.1 hc;have:=hfew x (List.mem_filter.1 hx).1;simp only[key];omega) λsv w hv h=>?_
  have hfp:=Vx (p:=λc=>((jc F.l c.2).map can).getD false) _ (R:=revs F.l rev) rfl λx hx=>by
   have:=xT ok.pw (List.mem_filter.1 hx).1;show((jc F.l x.id).map can).getD false=_;rw[this];rfl
  have hcm:∀c∈ZA ((revs F.l rev).map key),∃x∈F.l,c=key x:=λc hc=>by
   obtain⟨x,hx,rfl⟩:=List.mem_map.1 ((YE _).mem_iff.1 hc);exact⟨x,(List.mem_filter.1 hx).1,rfl⟩
  have hpk:vE F.l rev=(revs F.l rev).foldl jH none:=rfl;rw[←hpk]at hfp;have hcl:(ZA ((revs F.l rev).map key)).length≤30:=by rw[ZO,List.length_map];exact h20
  have hlv:=Rw.len jC hv;generalize ZA ((revs F.l rev).map key)=cs at hv hfp hcm hcl hlv
  (dsimp only[ze,List.cons_append,List.nil_append]at h;refine ldC h ?_)
  have h:St w0 ([DfM d]::flB b rA rW F::sA::[Cl b4 zR [SlV v]]::sv::sW::(L.map trS).flatten::ZP E i) w:=h
  refine Zj (λp y w=>∃(j:Nat)(L:List Tr),y=((j:Int),())∧p+j=cs.length∧(∀c∈cs.take j,((jc F.l c.2).map can).getD false=false)∧FlR F L mA mW∧
   St w0 ([DfM d]::flB b rA rW F::sA::[Cl b4 zR [SlV v]]::sv::sW::(L.map trS).flatten::ZP E i) w) cs.length ⟨0,L,rfl,rfl,by simp,hr,h⟩ ?_
  clear hr hf0 hR hlR e hll;clear h;rintro p y w ⟨j,L,rfl,hp,hfn,hr,h⟩ again hag
  (try dsimp only)
  refine it (λhc=>?_) (λhc=>?_)<;>(try simp only[zB]at hc)
  ·have hj:j<cs.length:=by omega
   have hxj:cs[j]? = some cs[j]:=List.getElem?_eq_getElem hj;have hdrop:cs=cs.take j++cs[j]::cs.drop (j+1):=by rw[←List.drop_eq_getElem_cons hj,List.take_append_drop]
   obtain⟨x,hxl,hcx⟩:=hcm _ (List.getElem_mem hj);rw[hcx]at hxj hdrop;have hfx:=xT ok.pw hxl;obtain⟨A,t,B,rfl,rfl,-⟩:=hr.at hfx;have hg:=hr.get ok (t:=t) (by simp);have hps:=hr.ps t (by simp);have hqx:=hno t.1 hxl;refine Rw.ix jC hv (by omega) (by simpa using hj) λa ha=>?_;rw[Int.toNat_natCast]at ha;refine Rw.lda jC h 4 rfl hv ha hxj rfl ?_;refine nw h ?_;clear h;intro b22 w h
   (refine stC h ?_;clear h;intro w h;dsimp only[Zq,ze]at h;refine dr h ?_;clear h;intro w h;refine nn ?_;refine ldC h ?_;refine ldC h ?_)
   refine MpS.get mkI yT zo (λx:B0×Option Addr=>(x.1,x.2,())) (λ_=>rfl) h 3 rfl hA ?_;rw[show zH mA (key t.1).2=_ from hg];simp only[Option.map_some,Option.getD_some];refine GE h 7 rfl hps (hfew _ hxl) λs' w hps' h=>?_;by_cases hcan:can t.1=true
   ·have ht:=oN hcan hqx;refine itT (by rw[ht];rfl) ?_;have hfd:vE F.l rev=some t.1:=by
     have:cs.find? (λc=>((jc F.l c.2).map can).getD false)=some (key t.1):=by
      rw[hdrop,List.find?_append,List.find?_cons_of_pos (by show((jc F.l t.1.id).map can).getD false=true;rw[hfx];exact hcan)];rw[List.find?_eq_none.2 (λc hc=>by rw[hfn c hc];simp)];rfl
     rw[this]at hfp
     cases hpk:vE F.l rev with
     | none=>rw[hpk]at hfp;cases hfp
     | some y=>
      rw[hpk]at hfp;have hid:y.id=t.1.id:=by simp only[Option.map_some,Option.some.injEq,key,Prod.mk.injEq]at hfp;exact hfp.2.symm
      have h1:=xT ok.pw (kZ hpk).1;rw[hid,hfx]at h1;exact h1.symm
    have e:Zv F rev q=({ F with l:=yX F.l t.1.id λp=>(Zi p q).1 },t.1.id,true):=by
     unfold Zv;rw[hn,hfd];rfl
    have okT:=gH ok rev q;rw[e]at hk okT;have hrq:(Zi t.1.pod q).1.reqs=QP q t.1.pod.reqs:=by rw[ht]
    have hst:(Zi t.1.pod q).1.st≠4:=by rw[ht];have:=of_decide_eq_true hcan;simp only;omega
    (dsimp only[ze,List.cons_append,List.nil_append]at h;refine dr h ?_;clear h;intro w h;refine nn ?_;refine ldC h ?_;refine ldC h ?_)
    refine MpS.set mkI yB h 6 rfl hW t.1.id rfl λsW' w hW' h=>?_
    (dsimp only[ze,List.cons_append,List.nil_append]at h;refine ldC h ?_)
    (first | refine ul h ?_ | refine uk h ?_ | refine uj h ?_ | refine ui h ?_ | refine uh h ?_ | refine ug h ?_ | refine uf h ?_ | refine ue h ?_ | refine ud h ?_ | refine uc h ?_ | refine xN h ?_ | refine xM h ?_);clear h;intro w h
    refine⟨(t.1.id,true,()),rfl,hk _ w ⟨okT,rA,rW,mA,_,sA,sW',_,hA,hW',hr.upd ok (λp=>(Zi p q).1) hps' hst λq'=>?_,rfl⟩ ?_⟩
    ·rw[xP,ok.where_upd hfx _ (λq2 h2=>by
      rw[hrq]at h2;rcases xQ.1 h2 with rfl | h2
      ·exact .inr hn
      ·exact .inl h2) (λh4=>absurd h4 hst),hrq]
     by_cases eq:q=q'
     ·subst eq;rw[if_pos rfl,if_pos (xQ.2 (.inl rfl))]
     ·rw[if_neg eq];by_cases hq2:q'∈t.1.pod.reqs
      ·rw[if_pos (xQ.2 (.inr hq2)),hr.wth,VC ok.once hxl hq2];rfl
      ·rw[if_neg (λhh=>(xQ.1 hh).elim (λe=>eq e.symm) hq2),if_neg hq2,hr.wth]
    ·refine St.back i hi ?_
     (try dsimp only[ze]at h)
     have h:=ZU (Us (QV h));exact h.eq (by simp)
   ·have ht:=Gj hcan hqx;refine itF (by simpa using ht.2) ?_;rw[ht.1]at hps';have h:=ZU h;refine hag (p-1) _ w (by omega) ⟨j+1,A++(t.1,t.2.1,s')::B,?_,by omega,?_,hr.same hps',?_⟩
    ·rw[wr (by omega) (by omega)];simp
    ·intro c hc;rw[List.take_add_one,hxj]at hc;rcases List.mem_append.1 hc with hc | hc
     ·exact hfn c hc
     ·simp at hc;subst hc;show((jc F.l t.1.id).map can).getD false=false;rw[hfx];simpa using hcan
    ·have h:St w0 ([DfM d]::flB b rA rW F::sA::[Cl b4 zR [SlV v]]::sv::sW::((A++({ t.1 with pod:=(Zi t.1.pod q).1 },t.2.1,s')::B).map trS).flatten::ZP E i) w:=h;rw[ht.1]at h;exact h
  ·have hj:j=cs.length:=by omega
   subst hj;rw[List.take_length]at hfn;have hfd:vE F.l rev=none:=by
    rw[List.find?_eq_none.2 (λc hc=>by rw[hfn c hc];simp)]at hfp
    cases hpk:vE F.l rev with
    | none=>rfl
    | some y=>rw[hpk]at hfp;cases hfp
   have e:Zv F rev q=(F,0,false):=by unfold Zv;rw[hn,hfd];rfl
   rw[e]at hk
   (first | refine ul h ?_ | refine uk h ?_ | refine uj h ?_ | refine ui h ?_ | refine uh h ?_ | refine ug h ?_ | refine uf h ?_ | refine ue h ?_ | refine ud h ?_ | refine uc h ?_ | refine xN h ?_ | refine xM h ?_);clear h;intro w h
   refine⟨(0,false,()),rfl,hk _ w ⟨ok,rA,rW,mA,mW,sA,sW,L,hA,hW,hr,rfl⟩ (St.back i hi ?_)⟩;have h:=gM (Us h);exact h.eq (by simp)
 ·rintro d j G w hf;exact hf.elim
def Yz(F:zg)(q:Int):zg×B0×Int:=match Zg F.l q with
 | none=>(F,s_,6)
 | some x=>({ F with l:=yX F.l x.id λp=>(ZG p q).1 },x.rev,0)
def qQ(F:zg)(id:Int):zg×List Int×Int:=match jc F.l id with
 | none=>(F,[],6)
 | some x=>({ F with l:=yX F.l id λp=>(Zu p).1 },x.pod.reqs,0)
def Kv{l:List zK}{q:Int}{x:zK}(h:Zg l q=some x):x∈l∧q∈x.pod.reqs:=⟨List.mem_of_find?_eq_some h,by simpa using List.find?_some h⟩
def Gy{p:yn}{q:Int}(h:q∈p.reqs):ZG p q=({ p with reqs:=p.reqs.erase q,st:=if p.st=3∧p.reqs.erase q = []then 4 else p.st },0):=by
 unfold ZG;rw[if_pos h]
def Gw{p:yn}(h:p.st≠4):Zu p=({ p with st:=4,reqs:=[] },p.reqs,0):=by
 unfold Zu;rw[if_neg h]
def GG(h:St w0 E w)(i:Nat){A B:List Tr}{t:Tr}(hi:nth E i=some ((A++t::B).map trS).flatten)(hp:Jq t.2.1 t.1.pod t.2.2){q:Int}{k:Int→PT}
  (hk:∀s' w',Jq t.2.1 (ZG t.1.pod q).1 s'→St w0 (ze E i ((A++({ t.1 with pod:=(ZG t.1.pod q).1 },t.2.1,s')::B).map trS).flatten) w'→k (ZG t.1.pod q).2 w') :
  L.call Pr jL [.pointer (some ⟨t.2.1,0,none⟩),I q] (.one (.one (.int .i64))) k w:=by
 refine GL (h.front i hi).pick 0 rfl hp λs' w hp' h=>hk s' w hp' ?_;have h:St w0 (trS ({ t.1 with pod:=(ZG t.1.pod q).1 },t.2.1,s')::((A++B).map trS).flatten::ZP E i) w:=h;exact St.back i hi h.place
def GP(h:St w0 E w)(i:Nat){b:Nat}{F:zg}{s:Seg}(hi:nth E i=some s)(hf:FlS b F s){q:Int}{k:B0×Int×Unit→PT}
  (hk:∀s' w',FlS b (Yz F q).1 s'→St w0 (ze E i s') w'→k ((Yz F q).2.1,(Yz F q).2.2,()) w') :
  L.call Pr js [pO b,I q] (.tup [.one .str,.one (.int .i64)]) k w:=by
 have hf0:=hf;obtain⟨ok,rA,rW,mA,mW,sA,sW,L,hA,hW,hr,rfl⟩:=hf;refine zl (Qr _ _) ?_;unfold xm;have h:St w0 (flB b rA rW F::sA::sW::(L.map trS).flatten::ZP E i) w:=(h.front i hi).eq (by simp)
 (refine nn ?_;refine ldC h ?_)
 refine MpS.get2 mkI yB zi (λx:Int=>x) (λ_=>rfl) h 2 rfl hW ?_;have hwt:=hr.wth q
 cases hfw:Zg F.l q with
 | none=>
  rw[hfw]at hwt;rw[hwt];have e:Yz F q=(F,s_,6):=by unfold Yz;rw[hfw]
  rw[e]at hk;refine itT rfl ?_;exact⟨(s_,6,()),rfl,hk _ w hf0 (St.back i hi (h.eq (by simp)))⟩
 | some x=>
  rw[hfw]at hwt;rw[hwt];refine itF rfl ?_;obtain⟨hxl,hqx⟩:=Kv hfw;have hfx:=xT ok.pw hxl;have e:Yz F q=({ F with l:=yX F.l x.id λp=>(ZG p q).1 },x.rev,0):=by unfold Yz;rw[hfw]
  rw[e]at hk;obtain⟨A,t,B,rfl,rfl,-⟩:=hr.at hfx;have hg:=hr.get ok (t:=t) (by simp);have hps:=hr.ps t (by simp);simp only[Option.map_some,Option.getD_some]
  (refine nn ?_;refine ldC h ?_)
  refine MpS.get mkI yT zo (λx:B0×Option Addr=>(x.1,x.2,())) (λ_=>rfl) h 1 rfl hA ?_;rw[hg];simp only[Option.map_some,Option.getD_some];refine nw h ?_;clear h;intro b7 w h
  (refine stC h ?_;clear h;intro w h;dsimp only[Zq,ze]at h;refine ldC h ?_)
  refine GG h 4 rfl hps λs' w hps' h=>?_
  (try dsimp only[ze]at h)
  (refine nn ?_;refine ldC h ?_)
  refine MpS.del mkI yB h 3 rfl hW λsW' w hW' h=>?_
  (try dsimp only[ze]at h)
  have hgv:=Gy hqx;have hlv:=ok.live t.1 hxl;have hnd:t.1.pod.reqs.Nodup:=hps.1.pw.imp λh=>by omega
  have hrq:(ZG t.1.pod q).1.reqs=t.1.pod.reqs.erase q:=by rw[hgv]
  have hq2:∀q2∈(ZG t.1.pod q).1.reqs,q2∈t.1.pod.reqs∨Zg F.l q2=none:=λq2 h2=>.inl (by rw[hrq]at h2;exact List.mem_of_mem_erase h2);have h4:(ZG t.1.pod q).1.st=4→(ZG t.1.pod q).1.reqs = []:=by
   rw[hgv];simp only;split
   ·rename_i h;exact λ_=>h.2
   ·intro h;omega
  have okG:=ok.upd hfx (λp=>(ZG p q).1) (by rw[hgv];simp only;split<;>omega) hq2;have hwth:∀q',zH (xu mW q) q'=(Zg (yX F.l t.1.id λp=>(ZG p q).1) q').map (·.id):=λq'=>by
   rw[uy _ _ hW.nd,ok.where_upd hfx _ hq2 h4,hrq];by_cases eq:q=q'
   ·subst eq;rw[if_pos rfl,if_neg (by rw[List.Nodup.mem_erase_iff hnd];simp),if_pos hqx]
   ·rw[if_neg eq];by_cases h2:q'∈t.1.pod.reqs
    ·rw[if_pos ((List.Nodup.mem_erase_iff hnd).2 ⟨λe=>eq e.symm,h2⟩),hr.wth,VC ok.once hxl h2];rfl
    ·rw[if_neg (λhh=>h2 (List.mem_of_mem_erase hh)),if_neg h2,hr.wth]
  have h:=yu (yu (yu (yu h)));refine oG (t:=({ t.1 with pod:=(ZG t.1.pod q).1 },t.2.1,s')) h hA hg hps' (λh4'=>?_) λh4' sA' w hA' h=>?_
  ·(refine ldC h ?_)
   refine⟨(t.1.rev,0,()),rfl,hk _ w ⟨okG,rA,rW,mA,_,sA,sW',_,hA,hW',hr.upd ok (λp=>(ZG p q).1) hps' h4' hwth,rfl⟩ (St.back i hi ?_)⟩;have h:=QV h;exact h.eq (by simp)
  ·(refine ldC h ?_)
   refine⟨(t.1.rev,0,()),rfl,hk _ w ⟨okG,rA,rW,_,_,sA',sW',_,hA',hW',hr.del ok (λp=>(ZG p q).1) h4' hwth,rfl⟩ (St.back i hi ?_)⟩;have h:=QV h;exact h.eq (by simp)
def GF(h:St w0 E w)(i:Nat){A B:List Tr}{t:Tr}(hi:nth E i=some ((A++t::B).map trS).flatten)(hp:Jq t.2.1 t.1.pod t.2.2){k:Sl×Int×Unit→PT}
  (hk:∀v s' s2 w',Jq t.2.1 (Zu t.1.pod).1 s'→Rw eI zk 1 v (Zu t.1.pod).2.1 s2→St w0 (s2::ze E i ((A++({ t.1 with pod:=(Zu t.1.pod).1 },t.2.1,s')::B).map trS).flatten) w'→k (v,(Zu t.1.pod).2.2,()) w') :
  L.call Pr jK [.pointer (some ⟨t.2.1,0,none⟩)] (.tup [.one .slice,.one (.int .i64)]) k w:=by
 refine GK (h.front i hi).pick 0 rfl hp λv s' s2 w hp' hr h=>hk v s' s2 w hp' hr ?_;have h:St w0 (s2::trS ({ t.1 with pod:=(Zu t.1.pod).1 },t.2.1,s')::((A++B).map trS).flatten::ZP E i) w:=h;have h:=ZC (ZC h);have h:=h.place;exact St.back (i+1) (E:=s2::E) hi h
def GO(h:St w0 E w)(i:Nat){b:Nat}{F:zg}{s:Seg}(hi:nth E i=some s)(hf:FlS b F s){id:Int}{k:Sl×Int×Unit→PT}
  (hk:∀v s' s2 w',FlS b (qQ F id).1 s'→Rw eI zk 1 v (qQ F id).2.1 s2→St w0 (s2::ze E i s') w'→k (v,(qQ F id).2.2,()) w') :
  L.call Pr jr [pO b,I id] (.tup [.one .slice,.one (.int .i64)]) k w:=by
 have hf0:=hf;obtain⟨ok,rA,rW,mA,mW,sA,sW,L,hA,hW,hr,rfl⟩:=hf;refine zl (Qq _ _) ?_;unfold xl;have h:St w0 (flB b rA rW F::sA::sW::(L.map trS).flatten::ZP E i) w:=(h.front i hi).eq (by simp)
 ((try dsimp only[ze,List.cons_append,List.nil_append]at h);repeat (first | refine nn ?_ | (refine dr h ?_;clear h;intro w h) | refine ldC h ?_ | refine laC h ?_ | refine ckC h ?_ | (refine stC h ?_;clear h;intro w h;(try dsimp only[Zq,ze]at h)) | rw[yS]))
 refine MpS.get2 mkI yT zo (λx:B0×Option Addr=>(x.1,x.2,())) (λ_=>rfl) h 1 rfl hA ?_
 cases hfd:jc F.l id with
 | none=>
  rw[hr.get0 hfd];have e:qQ F id=(F,[],6):=by unfold qQ;rw[hfd]
  rw[e]at hk;simp only[Option.map_none,Option.getD_none,Option.isSome_none];refine nw h ?_;clear h;intro b4 w h
  ((try dsimp only[ze,List.cons_append,List.nil_append]at h);repeat (first | refine nn ?_ | (refine dr h ?_;clear h;intro w h) | refine ldC h ?_ | refine laC h ?_ | refine ckC h ?_ | (refine stC h ?_;clear h;intro w h;(try dsimp only[Zq,ze]at h)) | rw[yS]))
  refine itT rfl ?_;have h:=ZU h;have h:=St.back i hi (s':=flB b rA rW F++(sA++(sW++(L.map trS).flatten))) (h.eq (by simp));exact⟨(⟨none,0,0⟩,6,()),rfl,hk ⟨none,0,0⟩ _ [] w hf0 Rw.nil (h.eq (by simp))⟩
 | some x=>
  obtain⟨hxl,hxid⟩:=jt hfd;have e:qQ F id=({ F with l:=yX F.l id λp=>(Zu p).1 },x.pod.reqs,0):=by unfold qQ;rw[hfd]
  rw[e]at hk;obtain⟨A,t,B,rfl,rfl,-⟩:=hr.at hfd;subst hxid;have hg:=hr.get ok (t:=t) (by simp);have hps:=hr.ps t (by simp);have hlv:=ok.live t.1 hxl;have hkl:=Gw (p:=t.1.pod) (by omega);have hfew:=hps.1.few;rw[hg];simp only[Option.map_some,Option.getD_some,Option.isSome_some];refine nw h ?_;clear h;intro b4 w h
  ((try dsimp only[ze,List.cons_append,List.nil_append]at h);repeat (first | refine nn ?_ | (refine dr h ?_;clear h;intro w h) | refine ldC h ?_ | refine laC h ?_ | refine ckC h ?_ | (refine stC h ?_;clear h;intro w h;(try dsimp only[Zq,ze]at h)) | rw[yS]))
  refine itF rfl ?_
  ((try dsimp only[ze,List.cons_append,List.nil_append]at h);repeat (first | refine nn ?_ | (refine dr h ?_;clear h;intro w h) | refine ldC h ?_ | refine laC h ?_ | refine ckC h ?_ | (refine stC h ?_;clear h;intro w h;(try dsimp only[Zq,ze]at h)) | rw[yS]))
  have h:=ZU h;refine GF h 3 rfl hps λv s' s2 w hps' hrow h=>?_
  (try dsimp only[ze]at h)
  rw[hkl]at hrow;rw[show(Zu t.1.pod).2.2=0 by rw[hkl]];dsimp only at hrow ⊢;have hlen:=Rw.len yO hrow;have hst4:(Zu t.1.pod).1.st=4:=by rw[hkl]
  have hq2:∀q2∈(Zu t.1.pod).1.reqs,q2∈t.1.pod.reqs∨Zg F.l q2=none:=λq2 h2=>by rw[hkl]at h2;simp at h2
  have okG:=ok.upd hfd (λp=>(Zu p).1) (by rw[hkl];simp) hq2;have hwu:=ok.where_upd hfd (λp=>(Zu p).1) hq2 (λ_=>by rw[hkl]);have hw0:=hr.wth
  refine Zj (λq y w=>∃(j:Nat)(mW:List (Int×Int))(sW:Seg),y=((j:Int),())∧q+j=t.1.pod.reqs.length∧MpS KI KI rW mW sW∧(∀q',zH mW q'=if q'∈t.1.pod.reqs.take j then none else(Zg F.l q').map (·.id))∧
   St w0 (s2::flB b rA rW F::sA::sW::((A++({ t.1 with pod:=(Zu t.1.pod).1 },t.2.1,s')::B).map trS).flatten::ZP E i) w) t.1.pod.reqs.length ⟨0,mW,sW,rfl,rfl,hW,by simpa using hw0,h⟩ ?_
  clear hW hf0;clear h;rintro q y w ⟨j,mW',sW',rfl,hq,hW,hmw,h⟩ again hag
  (try dsimp only)
  refine it (λhc=>?_) (λhc=>?_)<;>(try simp only[zB]at hc)
  ·have hj:j<t.1.pod.reqs.length:=by omega
   have hx:t.1.pod.reqs[j]? = some t.1.pod.reqs[j]:=List.getElem?_eq_getElem hj;generalize t.1.pod.reqs[j]=z at hx;refine Rw.ix yO hrow (by omega) (by simpa using hj) λa ha=>?_;rw[Int.toNat_natCast]at ha;refine Rw.ld0 yO h 0 rfl hrow ha hx rfl rfl ?_
   ((try dsimp only[ze,List.cons_append,List.nil_append]at h);repeat (first | refine nn ?_ | (refine dr h ?_;clear h;intro w h) | refine ldC h ?_ | refine laC h ?_ | refine ckC h ?_ | (refine stC h ?_;clear h;intro w h;(try dsimp only[Zq,ze]at h)) | rw[yS]))
   refine MpS.del mkI yB h 3 rfl hW λsW2 w hW2 h=>?_;refine hag (q-1) _ w (by omega) ⟨j+1,_,sW2,?_,by omega,hW2,λq'=>?_,h⟩
   ·rw[wr (by omega) (by omega)];simp
   ·rw[uy _ _ hW.nd,hmw,List.take_add_one,hx];by_cases eq:z=q'
    ·subst eq;simp
    ·have:¬q'=z:=λe=>eq e.symm;simp[eq,this]
  ·have hj:j=t.1.pod.reqs.length:=by omega
   subst hj;rw[List.take_length]at hmw;have h:=yu (yu (yu (yu h)));refine oG (t:=({ t.1 with pod:=(Zu t.1.pod).1 },t.2.1,s')) h hA hg hps' (λh4'=>absurd hst4 h4') λh4' sA' w hA' h=>?_;refine⟨(v,0,()),rfl,hk v (flB b rA rW F++(sA'++(sW'++((A++B).map trS).flatten))) s2 w ⟨okG,rA,rW,_,_,sA',sW',_,hA',hW,hr.del ok (λp=>(Zu p).1) h4' (λq'=>?_),rfl⟩ hrow ?_⟩
   ·rw[hmw,hwu,if_neg (c:=q'∈(Zu t.1.pod).1.reqs) (by rw[hkl];simp)]
   ·exact St.back (i+1) (E:=s2::E) hi (h.eq (by simp[ZP]))
def eH(p:Int×Int):List Value:=[I p.1,I p.2]
def Ky:Enc eH 2:=⟨λ_=>rfl,λ_=>rfl,by decide⟩
def elH:El Pr zY ZS 2 16 (.agg #[I 0,I 0]):=Kz (by kernel_rfl) (by kernel_rfl) rfl (by decide)
def LnS(b:Nat)(room:Int)(l:List (Int×Int))(s:Seg):Prop:=∃v sr,Rw eH ZS 2 v l sr∧s = [Cl b jz [SlV v,I room]]++sr
def Vb(l:List (Int×Int))(id:Int):Bool:=l.any λx=>x.1 == id
def Jw(room:Int)(l:List (Int×Int))(id u:Int):List (Int×Int)×Int:=
 if Vb l id then(l,5)else if(l.length:Int)≥room then(l,8)else(l++[(id,u)],0)
def ft:List (Int×Int)→List (Int×Int)×Int×Bool
 | []=>([],0,false)
 | x::l=>(l,x.1,true)
def yM(l:List (Int×Int))(now:Int):List Int:=(l.filter λx=>x.2≤now).map (·.1)
def qO(l:List (Int×Int))(now:Int):List (Int×Int):=l.filter λx=>!decide (x.2≤now)
def fO(h:St w0 E w){room:Int}{k:Option Addr→PT}(hk:∀b s w',LnS b room [] s→St w0 (s::E) w'→k (some ⟨b,0,none⟩) w'):L.call Pr qY [I room] (.one (.one .ptr)) k w:=by
 refine zl (oI _) ?_;unfold vP;refine nw h ?_;clear h;intro b w h;exact⟨_,rfl,hk b _ w ⟨⟨none,0,0⟩,[],Rw.nil,rfl⟩ (h.eq (by simp))⟩
def oF(h:St w0 E w)(i:Nat){b:Nat}{room:Int}{l:List (Int×Int)}{s:Seg}(hi:nth E i=some s)(hl:LnS b room l s){k:Int→PT}(hk:k l.length w):L.call Pr Yn [pO b] (.one (.one (.int .i64))) k w:=by
 obtain⟨v,sr,hr,rfl⟩:=hl;refine zl (Uw _) ?_;unfold XC;have h:=(h.front i hi).split
 (refine nn ?_;refine ldC h ?_)
 refine⟨_,rfl,?_⟩;rw[Rw.len Ky hr];exact hk
def kA(h:St w0 E w){b:Nat}{k:FV→PT}(hk:∀c w',St w0 ([Cl c yW [.pointer (some ⟨b,0,none⟩)]]::E) w'→k ⟨.func ZT,#[],#[.pointer (some ⟨c,0,none⟩)]⟩ w') :
  L.call Pr ZM [pO b] (.one (.one .func)) k w:=by
 refine zl (qC _) ?_;unfold Jy;refine nw h ?_;clear h;intro c w h;exact⟨_,rfl,hk c w h⟩
def gP(l:List (Int×Int))(m:Nat):TT [.one (.int .i64),.one (.int .i64)]:=(((l[m]?).getD (0,0)).1,((l[m]?).getD (0,0)).2,())
def ky{b c T:Nat}{rm:Value}{v:Sl}{l:List (Int×Int)}{sr:Seg}(hr:Rw eH ZS 2 v l sr)(hn:l.length<1000000000) :
  Yld Pr w0 [[Cl c yW [.pointer (some ⟨b,0,none⟩)]],[Cl b T [SlV v,rm]],sr] (.func (.func ZT) #[] #[.pointer (some ⟨c,0,none⟩)]) l.length λm=>TV _ (gP l m):=by
 intro yv R J Jd F w h hJ step fin fin2;have hlen:=Rw.len Ky hr;refine⟨XI,XJ yv ⟨c,0,none⟩ ?_⟩;unfold jV
 (dsimp only[ze,List.cons_append,List.nil_append]at h;refine ldC h ?_;refine nn ?_;refine ldC h ?_)
 refine Zj (λq y w=>∃(m:Nat)(F:List Seg),@Eq Int y.1 m∧q+m=l.length∧J m F∧St w0 ([Cl c yW [.pointer (some ⟨b,0,none⟩)]]::[Cl b T [SlV v,rm]]::sr::F) w) l.length ⟨0,F,rfl,rfl,hJ,h⟩ ?_;rintro q ⟨y,⟨⟩⟩ w ⟨m,F,hy,hq,hJ,h⟩ again hag;simp only at hy;subst hy;refine it (λhb=>?_) (λhb=>?_)<;>(try simp only[zB]at hb)
 ·have hm:m<l.length:=by omega
  have hx:l[m]? = some l[m]:=List.getElem?_eq_getElem hm;refine Rw.ix Ky hr (by omega) (by simpa using hm) λa ha=>?_;refine Rw.lda Ky h 2 rfl hr ha (x:=l[m]) (by simpa using hx) rfl ?_;refine nw h ?_;clear h;intro b2 w h
  (refine stC h ?_;clear h;intro w h;dsimp only[Zq,ze]at h;refine ldC h ?_;refine ldC h ?_)
  have h:=ZU h;have ea:TV _ (gP l m) = [I l[m].1,I l[m].2]:=by simp[gP,hx];rfl
  have step:=step m F w hm hJ h;simp only[ea]at step;refine cv (jQ.mono step λu w' hu=>?_);rcases hu with ⟨rfl,F',h,hJ⟩ | ⟨rfl,hd⟩
  ·refine⟨true,rfl,itF rfl (hag (q-1) _ _ (by omega) ⟨m+1,F',?_,by omega,hJ,h⟩)⟩;show Wi _=_;rw[wr (by omega) (by omega)];omega
  ·exact⟨false,rfl,itT rfl (fin2 w' hd)⟩
 ·have e:m=l.length:=by omega
  subst e;exact fin F w hJ h
def UJ{l:List (Int×Int)}{m:Nat}{x:Int×Int}(hx:l[m]? = some x):gP l m=(x.1,x.2,()):=by simp[gP,hx]
def OG{l:List (Int×Int)}{id:Int}{m:Nat}{x:Int×Int}(hx:l[m]? = some x):Vb (l.take (m+1)) id=(Vb (l.take m) id||x.1 == id):=by
 simp[Vb,List.take_add_one,hx]
def Gv{l:List (Int×Int)}{id:Int}{m:Nat}{x:Int×Int}(hx:l[m]? = some x)(h:x.1=id):Vb l id=true:=by
 simp only[Vb,List.any_eq_true];exact⟨x,List.mem_of_getElem? hx,by simpa using h⟩
def FF(h:St w0 E w)(i:Nat){b:Nat}{room:Int}{l:List (Int×Int)}{s:Seg}(hi:nth E i=some s)(hl:LnS b room l s)(hn:l.length<1000000000){id:Int}{k:Bool→PT}(hk:∀w',St w0 E w'→k (Vb l id) w') :
  L.call Pr jp [pO b,I id] (.one (.one .bool)) k w:=by
 obtain⟨v,sr,hr,rfl⟩:=hl;refine zl (Qj _ _) ?_;unfold xd;have h:=(h.front i hi).split;refine nw h ?_;clear h;intro b1 w h;refine nw h ?_;clear h;intro b2 w h;refine kA h λc w h=>?_;have h:=ZC (yu (yu h))
 refine XQ (ky hr hn) h (λm F=>F = [Cl b2 Yi [.bool (Vb (l.take m) id)]]::[Cl b1 zk [I id]]::ZP E i∧Vb (l.take m) id=false)
  (λj G=>∃s0 s1,G=s0::[Cl b jz [SlV v,I room]]::sr::[Cl b2 Yi [.bool true]]::s1::ZP E i∧Vb l id=true∧j = .ret) ⟨rfl,rfl⟩ ?_ ?_ ?_
 ·rintro m F w lv lp d R hm ⟨rfl,hf⟩ h hN hE;have hx:l[m]? = some l[m]:=List.getElem?_eq_getElem hm;rw[UJ hx];have ht:=OG (id:=id) hx
  (dsimp only[ze,List.cons_append,List.nil_append]at h;refine ldC h ?_)
  refine it (λhb=>?_) (λhb=>?_)<;>(try simp only[zB]at hb)
  ·(refine stC h ?_;clear h;intro w h;dsimp only[Zq,ze]at h)
   exact hE _ _ w ⟨_,_,rfl,Gv hx hb,rfl⟩ h
  ·refine hN _ w ⟨rfl,?_⟩ ?_
   ·rw[ht,hf];simpa using hb
   ·rw[ht,hf];have:(false||l[m].1 == id)=false:=by simpa using hb
    rw[this,←hf];exact h
 ·rintro d F w ⟨rfl,hf⟩ h;refine qP ?_;rw[List.take_length]at hf h
  (dsimp only[ze,List.cons_append,List.nil_append]at h;refine stC h ?_;clear h;intro w h;dsimp only[Zq,ze]at h)
  (first | refine ul h ?_ | refine uk h ?_ | refine uj h ?_ | refine ui h ?_ | refine uh h ?_ | refine ug h ?_ | refine uf h ?_ | refine ue h ?_ | refine ud h ?_ | refine uc h ?_ | refine xN h ?_ | refine xM h ?_);clear h;intro w h
  (refine ldC h ?_)
  refine⟨_,rfl,?_⟩;rw[←hf];refine hk w ?_;have h:=ZU (Us (QV h));have h:=St.back i hi h.glue
  rwa [ZE hi]at h
 ·rintro d j F w ⟨_,_,rfl,hf,rfl⟩ h;refine GV ?_
  (first | refine ul h ?_ | refine uk h ?_ | refine uj h ?_ | refine ui h ?_ | refine uh h ?_ | refine ug h ?_ | refine uf h ?_ | refine ue h ?_ | refine ud h ?_ | refine uc h ?_ | refine xN h ?_ | refine xM h ?_);clear h;intro w h
  (refine ldC h ?_)
  refine⟨_,rfl,?_⟩;rw[←hf];refine hk w ?_;have h:=ZU (Us (QV h));have h:=St.back i hi h.glue
  rwa [ZE hi]at h
def St.setN_same{s:Seg}(i:Nat)(hi:nth E i=some s)(h:St w0 (ze E i s) w):St w0 E w:=by rwa [ZE hi]at h
def fW(h:St w0 E w)(i:Nat){b:Nat}{room:Int}{l:List (Int×Int)}{s:Seg}(hi:nth E i=some s)(hl:LnS b room l s)(hn:l.length<1000000000){id u:Int}{k:Int→PT}
  (hk:∀s' w',LnS b room (Jw room l id u).1 s'→St w0 (ze E i s') w'→k (Jw room l id u).2 w'):L.call Pr YN [pO b,I id,I u] (.one (.one (.int .i64))) k w:=by
 refine zl (uP _ _ _) ?_;unfold xV
 (refine nn ?_)
 refine FF h i hi hl hn λw h=>?_;refine it (λhb=>?_) (λhb=>?_)<;>(try simp only[zB]at hb)
 ·have e:Jw room l id u=(l,5):=by simp[Jw,hb]
  rw[e]at hk;exact⟨_,rfl,hk s w hl (by rwa [ZE hi])⟩
 have hl':=hl;obtain⟨v,sr,hr,rfl⟩:=hl
 (refine dr h ?_;clear h;intro w h;refine nn ?_)
 have h:=(h.front i hi).split;refine ldx h 0 rfl rfl rfl ?_;have h:St w0 E w:=by have h:=St.back i hi h.glue;rwa [ZE hi]at h
 refine oF h i hi hl' ?_;have h:=(h.front i hi).split
 (refine ckC h ?_)
 refine it (λhc=>?_) (λhc=>?_)<;>(try simp only[zB]at hc)
 ·have e:Jw room l id u=(l,8):=by simp only[Jw,hb];rw[if_neg (by simp),if_pos hc]
  rw[e]at hk;exact⟨_,rfl,hk _ w hl' (St.back i hi h.glue)⟩
 have e:Jw room l id u=(l++[(id,u)],0):=by simp only[Jw,hb];rw[if_neg (by simp),if_neg hc]
 rw[e]at hk
 (refine nn ?_;refine ldC h ?_)
 refine nw h ?_;clear h;intro b8 w h;refine Rw.app Ky elH h 1 rfl hr (id,u) rfl (by omega) (by omega) λv' s' w hr h=>?_
 (dsimp only[ze,List.cons_append,List.nil_append]at h;refine nn ?_;refine stC h ?_;clear h;intro w h;dsimp only[Zq,ze]at h)
 exact⟨_,rfl,hk _ w ⟨v',s',hr,rfl⟩ (St.back i hi h.glue)⟩
def FI(h:St w0 E w)(i:Nat){b:Nat}{room:Int}{l:List (Int×Int)}{s:Seg}(hi:nth E i=some s)(hl:LnS b room l s)(hn:l.length<1000000000){k:Int×Bool×Unit→PT}
  (hk:∀s' w',LnS b room (ft l).1 s'→St w0 (ze E i s') w'→k ((ft l).2.1,(ft l).2.2,()) w'):L.call Pr Jm [pO b] (.tup [.one (.int .i64),.one .bool]) k w:=by
 obtain⟨v,sr,hr,rfl⟩:=hl;refine zl (Uv _) ?_;unfold XB;have h:=(h.front i hi).split;refine nw h ?_;clear h;intro b1 w h;refine nw h ?_;clear h;intro b2 w h;refine nw h ?_;clear h;intro b3 w h
 (refine ldC h ?_;refine nn ?_)
 refine kA h λc w h=>?_;have h:=ZC (xw (xw h));have hlen:=Rw.len Ky hr;have hY:=(ky (w0:=w0) (b:=b) (c:=c) (T:=jz) (rm:=I room) hr hn)
 cases l with
 | nil=>
  refine XQ hY h (λm F=>F = [Cl b3 Yi [.bool false]]::[Cl b2 zk [I 0]]::[Cl b1 yL [.pointer (some ⟨b,0,none⟩)]]::ZP E i) (λj F=>False) rfl ?_ ?_ ?_
  ·intro m F w lv lp d R hm;simp at hm
  ·rintro d F w rfl h;refine qP ?_
   (dsimp only[ze,List.cons_append,List.nil_append]at h;refine stC h ?_;clear h;intro w h;dsimp only[Zq,ze]at h;refine stC h ?_;clear h;intro w h;dsimp only[Zq,ze]at h)
   (first | refine ul h ?_ | refine uk h ?_ | refine uj h ?_ | refine ui h ?_ | refine uh h ?_ | refine ug h ?_ | refine uf h ?_ | refine ue h ?_ | refine ud h ?_ | refine uc h ?_ | refine xN h ?_ | refine xM h ?_);clear h;intro w h
   (refine ldC h ?_;refine ldC h ?_)
   refine⟨(0,false,()),rfl,hk _ w ⟨v,sr,hr,rfl⟩ ?_⟩;have h:=ZU (Us (QV (ow h)));exact St.back i hi h.glue
  ·rintro d j F w hf;exact hf.elim
 | cons x l=>
  have hr':=Rw.behind Ky hr 1 (by simp);have hc:=hr.cap
  refine XQ hY h (λm F=>m=0∧F = [Cl b3 Yi [.bool false]]::[Cl b2 zk [I 0]]::[Cl b1 yL [.pointer (some ⟨b,0,none⟩)]]::ZP E i)
   (λj G=>j = .ret∧∃s0 s1 v',Rw eH ZS 2 v' l sr∧G=s0::[Cl b jz [SlV v',I room]]::sr::[Cl b3 Yi [.bool true]]::[Cl b2 zk [I x.1]]::s1::ZP E i) ⟨rfl,rfl⟩ ?_ ?_ ?_
  ·rintro m F w lv lp d R hm ⟨rfl,rfl⟩ h hN hE;rw[UJ (x:=x) rfl]
   (dsimp only[ze,List.cons_append,List.nil_append]at h;refine dr h ?_;clear h;intro w h;refine ldC h ?_;refine ldC h ?_;refine nn ?_;refine ldC h ?_)
   simp only[List.length_cons]at hlen;refine gd (by(try dsimp only);omega) ?_
   (refine nn ?_;refine stC h ?_;clear h;intro w h;dsimp only[Zq,ze]at h;refine stC h ?_;clear h;intro w h;dsimp only[Zq,ze]at h;refine stC h ?_;clear h;intro w h;dsimp only[Zq,ze]at h)
   simp only[Int.toNat_natCast,show Int.toNat 1=1 from rfl]at h;refine hE _ _ w ?_ h;exact⟨rfl,_,_,_,hr',rfl⟩
  ·rintro d F w ⟨hm,-⟩;simp at hm
  ·rintro d j G w ⟨rfl,_,_,v',hr',rfl⟩ h;refine GV ?_
   (first | refine ul h ?_ | refine uk h ?_ | refine uj h ?_ | refine ui h ?_ | refine uh h ?_ | refine ug h ?_ | refine uf h ?_ | refine ue h ?_ | refine ud h ?_ | refine uc h ?_ | refine xN h ?_ | refine xM h ?_);clear h;intro w h
   (refine ldC h ?_;refine ldC h ?_)
   refine⟨(x.1,true,()),rfl,hk _ w ⟨v',sr,hr',rfl⟩ ?_⟩;have h:=ZU (Us (QV (ow h)));exact St.back i hi h.glue
def fe(h:St w0 E w)(i:Nat){b:Nat}{room:Int}{l:List (Int×Int)}{s:Seg}(hi:nth E i=some s)(hl:LnS b room l s)(hn:l.length<1000000000){k:Sl→PT}
  (hk:∀v s' w',Rw eI zk 1 v (l.map (·.1)) s'→St w0 (s'::E) w'→k v w'):L.call Pr jn [pO b] (.one (.one .slice)) k w:=by
 have hl':=hl;obtain⟨v,sr,hr,rfl⟩:=hl;refine zl (Ux _) ?_;unfold XD;refine oF h i hi hl' ?_;refine mk0 elI yO h (by omega) (by omega) (by omega) λv2 s2 w hr2 h=>?_;refine nw h ?_;clear h;intro b3 w h
 (refine stC h ?_;clear h;intro w h;dsimp only[Zq,ze]at h;refine nn ?_)
 refine kA h λc w h=>?_;have h:=(h.front (i+3) hi).split;have h:=ZC (yx (yx h))
 refine XQ (ky hr hn) h (λm F=>∃v2 s2,F = [Cl b3 zQ [SlV v2]]::s2::ZP E i∧Rw eI zk 1 v2 ((l.take m).map (·.1)) s2)
  (λj G=>False) ⟨_,_,rfl,hr2⟩ ?_ ?_ ?_
 ·rintro m F w lv lp d R hm ⟨v2,s2,rfl,hr2⟩ h hN hE;have hx:l[m]? = some l[m]:=List.getElem?_eq_getElem hm;rw[UJ hx]
  (dsimp only[ze,List.cons_append,List.nil_append]at h;refine ldC h ?_)
  refine nw h ?_;clear h;intro b12 w h;refine Rw.app yO elI h 6 rfl hr2 l[m].1 rfl (by simp;omega) (by simp;omega) λv' s' w hr h=>?_
  (dsimp only[ze,List.cons_append,List.nil_append]at h;refine stC h ?_;clear h;intro w h;dsimp only[Zq,ze]at h)
  refine hN _ w ⟨v',s',rfl,?_⟩ h;rw[List.take_add_one,hx,List.map_append];exact hr
 ·rintro d F w ⟨v2,s2,rfl,hr2⟩ h;refine qP ?_
  (dsimp only[ze,List.cons_append,List.nil_append]at h;refine ldC h ?_)
  (first | refine ul h ?_ | refine uk h ?_ | refine uj h ?_ | refine ui h ?_ | refine uh h ?_ | refine ug h ?_ | refine uf h ?_ | refine ue h ?_ | refine ud h ?_ | refine uc h ?_ | refine xN h ?_ | refine xM h ?_);clear h;intro w h
  rw[List.take_length]at hr2;refine⟨v2,rfl,hk _ s2 w hr2 ?_⟩;have h:=yF (yF (yu h));have h:=Us (QV h);have h:=St.back (i+1) (E:=s2::E) hi h.glue;have h:=St.setN_same (i+1) (E:=s2::E) hi h;exact h
 ·rintro d j F w hf;exact hf.elim
def vm{l:List (Int×Int)}{now:Int}{m:Nat}{x:Int×Int}(hx:l[m]? = some x):yM (l.take (m+1)) now=yM (l.take m) now++(if x.2≤now then [x.1]else []):=by
 simp only[yM,List.take_add_one,hx,List.filter_append,List.map_append]
 congr 1
 by_cases h:x.2≤now<;>simp[h]
def vl{l:List (Int×Int)}{now:Int}{m:Nat}{x:Int×Int}(hx:l[m]? = some x):qO (l.take (m+1)) now=qO (l.take m) now++(if x.2≤now then []else [x]):=by
 simp only[qO,List.take_add_one,hx,List.filter_append]
 congr 1
 by_cases h:x.2≤now<;>simp[h]
def Vo(l:List (Int×Int))(now:Int):(yM l now).length≤l.length:=by
 unfold yM;rw[List.length_map];exact List.length_filter_le ..
def Vn(l:List (Int×Int))(now:Int):(qO l now).length≤l.length:=List.length_filter_le ..
def fX(h:St w0 E w)(i:Nat){b:Nat}{room:Int}{l:List (Int×Int)}{s:Seg}(hi:nth E i=some s)(hl:LnS b room l s)(hn:l.length<1000000000){now:Int}{k:Sl→PT}
  (hk:∀v s' s2 w',LnS b room (qO l now) s'→Rw eI zk 1 v (yM l now) s2→St w0 (s2::ze E i s') w'→k v w'):L.call Pr Ja [pO b,I now] (.one (.one .slice)) k w:=by
 obtain⟨v,sr,hr,rfl⟩:=hl;refine zl (uQ _ _) ?_;unfold xW
 (refine nn ?_)
 refine zl (qB _ _) ?_;unfold Jx;have h:=(h.front i hi).split;refine nw h ?_;clear h;intro b1 w h;refine nw h ?_;clear h;intro b2 w h;refine nw h ?_;clear h;intro b3 w h;refine kA h λc w h=>?_;have h:=ZC (xw (xw h));have h:St w0 ([Cl c yW [.pointer (some ⟨b,0,none⟩)]]::[Cl b jz [SlV v,I room]]::sr::[Cl b3 zY [SlV ⟨none,0,0⟩]]::[]::[Cl b2 zQ [SlV ⟨none,0,0⟩]]::[]::[Cl b1 zk [I now]]::ZP E i) w:=h.eq (by simp)
 refine XQ (ky hr hn) h (λm F=>∃v2 s2 v3 s3,F = [Cl b3 zY [SlV v3]]::s3::[Cl b2 zQ [SlV v2]]::s2::[Cl b1 zk [I now]]::ZP E i∧Rw eI zk 1 v2 (yM (l.take m) now) s2∧Rw eH ZS 2 v3 (qO (l.take m) now) s3)
  (λj G=>False) ⟨_,_,_,_,rfl,Rw.nil,Rw.nil⟩ ?_ ?_ ?_
 ·rintro m F w lv lp d R hm ⟨v2,s2,v3,s3,rfl,hr2,hr3⟩ h hN hE;have hx:l[m]? = some l[m]:=List.getElem?_eq_getElem hm;have n2:=Vo (l.take m) now;have n3:=Vn (l.take m) now;simp only[List.length_take]at n2 n3;rw[UJ hx]
  (dsimp only[ze,List.cons_append,List.nil_append]at h;refine ldC h ?_)
  refine it (λhb=>?_) (λhb=>?_)<;>(try simp only[zB]at hb)
  ·(refine ldC h ?_)
   refine nw h ?_;clear h;intro b12 w h;refine Rw.app yO elI h 8 rfl hr2 l[m].1 rfl (by omega) (by omega) λv' s' w hr' h=>?_
   (dsimp only[ze,List.cons_append,List.nil_append]at h;refine stC h ?_;clear h;intro w h;dsimp only[Zq,ze]at h)
   refine hN _ w ⟨v',s',v3,s3,rfl,?_,?_⟩ h
   ·rw[vm hx,if_pos hb];exact hr'
   ·rw[vl hx,if_pos hb,List.append_nil];exact hr3
  ·(refine ldC h ?_)
   refine nw h ?_;clear h;intro b15 w h;refine Rw.app Ky elH h 6 rfl hr3 l[m] rfl (by omega) (by omega) λv' s' w hr' h=>?_
   (dsimp only[ze,List.cons_append,List.nil_append]at h;refine stC h ?_;clear h;intro w h;dsimp only[Zq,ze]at h)
   refine hN _ w ⟨v2,s2,v',s',rfl,?_,?_⟩ h
   ·rw[vm hx,if_neg hb,List.append_nil];exact hr2
   ·rw[vl hx,if_neg hb];exact hr'
 ·rintro d F w ⟨v2,s2,v3,s3,rfl,hr2,hr3⟩ h;refine qP ?_;rw[List.take_length]at hr2 hr3;have n2:=Vo l now
  (dsimp only[ze,List.cons_append,List.nil_append]at h;refine ldC h ?_;refine nn ?_;refine stC h ?_;clear h;intro w h;dsimp only[Zq,ze]at h;refine ldC h ?_)
  refine xU h (hr2.rd yO h 7 rfl) (by omega) (Rw.nil_of yO hr2) λv' s' w hr' _ h=>?_
  (first | refine ul h ?_ | refine uk h ?_ | refine uj h ?_ | refine ui h ?_ | refine uh h ?_ | refine ug h ?_ | refine uf h ?_ | refine ue h ?_ | refine ud h ?_ | refine uc h ?_ | refine xN h ?_ | refine xM h ?_);clear h;intro w h
  refine⟨v',rfl,v',rfl,hk v' _ s' w ⟨v3,s3,hr3,rfl⟩ hr' ?_⟩;have h:=yF (xw h);have h:=Us (QV (ow (ov (mi (mh h)))));exact St.back (i+1) (E:=s'::E) hi h.glue
 ·rintro d j F w hf;exact hf.elim
def XM(x:B0×Int):Value:=.agg #[.string x.1,I x.2]
abbrev Zw:=HT [.int .i64,.int .i64,.int .i64,.str]
abbrev Un:E1:=.agg [.int .i64,.int .i64,.int .i64,.str]
abbrev Zw.cells(f:Zw):List Value:=[I f.1,I f.2.1,I f.2.2.1,.string f.2.2.2.1]
def ja:Enc Zw.cells 4:=⟨λ_=>rfl,λ_=>rfl,by decide⟩
def elF:El Pr zn zf 4 40 (.agg #[I 0,I 0,I 0,.string s_]):=Kz (by kernel_rfl) (by kernel_rfl) rfl (by decide)
structure zM where
 all:List (Int×(B0×Int))
 lines:List (B0×List (Int×Int))
 room:Int
 pat:Int
structure zM.Ok(G:zM):Prop where
 few:G.all.length<100000000
 lo:0≤G.room
 hi:G.room≤1000000
 ln:∀x∈G.lines,(x.2.length:Int)≤G.room
 nd:(G.lines.map (·.1)).Nodup
 nda:(G.all.map (·.1)).Nodup
 fl:G.lines.length<100000000
structure LnE where
 k:B0
 b:Nat
 l:List (Int×Int)
 sg:Seg
abbrev LnE.kp(x:LnE):B0×Option Addr:=(x.k,some ⟨x.b,0,none⟩)
abbrev LnE.ka(x:LnE):B0×List (Int×Int):=(x.k,x.l)
abbrev gtB(b bf rA rL c:Nat)(room pat:Int):Seg:=[Cl b Uq [.pointer (some ⟨bf,0,none⟩),.map (some rA),.map (some rL),.func (.func JH) #[] #[.pointer (some ⟨c,0,none⟩)],I room,I pat]]
structure GtR(G:zM)(rA rL:Nat)(sA sL:Seg)(Q:List LnE):Prop where
 all:MpS KI XM rA G.all sA
 lns:MpS Value.string Value.pointer rL (Q.map LnE.kp) sL
 each:∀x∈Q,LnS x.b G.room x.l x.sg
 abs:G.lines=Q.map LnE.ka
def GtS(b bf:Nat)(G:zM)(s:Seg):Prop:=G.Ok∧∃rA rL c sA sL,∃Q:List LnE,GtR G rA rL sA sL Q∧
 s=gtB b bf rA rL c G.room G.pat++([Cl c zk [I G.room]]++(sA++(sL++(Q.map LnE.sg).flatten)))
def qn:Pr.underlying zT=some (.map zk zz):=by kernel_rfl
def Xl:Pr.underlying zA=some (.map Za yL):=by kernel_rfl
def kK:Pr.underlying Za=some .string:=by kernel_rfl
def OD:MK Pr Za Value.string:=fo kK
def Fb(w:World):(zeroValue zz).run Pr w = .ok ((E1.agg [.str,.int .i64]).val (s_,0,())) w:=by
 have h:(Pr.info? zz).map (·.zero)=some (some (.agg #[.string s_,I 0])):=by kernel_rfl
 cases hi:Pr.info? zz with
 | none=>rw[hi]at h;cases h
 | some i=>rw[hi]at h;simp only[Option.map_some,Option.some.injEq]at h;exact zv hi h w
def zln(w:World):(zeroValue yL).run Pr w = .ok ((E1.one .ptr).val none) w:=by
 have h:(Pr.info? yL).map (·.zero)=some (some (.pointer none)):=by kernel_rfl
 cases hi:Pr.info? yL with
 | none=>rw[hi]at h;cases h
 | some i=>rw[hi]at h;simp only[Option.map_some,Option.some.injEq]at h;exact zv hi h w
def gV(h:St w0 E w){bf:Nat}{room pat:Int}(h0:0≤room)(h1:room≤1000000){k:Option Addr→PT}(hk:∀b s w',GtS b bf ⟨[],[],room,pat⟩ s→St w0 (s::E) w'→k (some ⟨b,0,none⟩) w') :
  L.call Pr Xq [pO bf,I room,I pat] (.one (.one .ptr)) k w:=by
 refine zl (oK _ _ _) ?_;unfold vR;refine nw h ?_;clear h;intro c w h;refine MpS.new h KI XM λrA sA w hA h=>?_;refine MpS.new h Value.string Value.pointer λrL sL w hL h=>?_
 (refine ldC h ?_)
 refine nw h ?_;clear h;intro b w h;refine⟨_,rfl,hk b _ w ⟨⟨by simp,h0,h1,by simp,by simp,by simp,by simp⟩,rA,rL,c,sA,sL,[],⟨hA,hL,by simp,rfl⟩,rfl⟩ ?_⟩;have h:=yF (yF (ZC (yx h)));exact h.eq (by simp)
def fu(f:Zw)(id:Int):Zw:=(id,f.2.1,f.2.2.1,f.2.2.2.1,())
def uO{b bf rA rL c:Nat}{room pat:Int}{sA:Seg}{all:List (Int×(B0×Int))}(hA:MpS KI XM rA all sA)(h:St w0 (gtB b bf rA rL c room pat::sA::E) w){id:Int}{rev:B0}{f:Zw}{k:Un.T→PT}
  (hk:∀sA' w',MpS KI XM rA (Zc all id (rev,f.2.1)) sA'→St w0 (gtB b bf rA rL c room pat::sA'::E) w'→k (fu f id) w') :
  L.call Pr zW [pO b,I id,.string rev,.agg (Zw.cells f).toArray] (.one Un) k w:=by
 refine zl (UA _ _ _ f) ?_;unfold XG;refine nw h ?_;clear h;intro b1 w h;refine nw h ?_;clear h;intro b2 w h
 (refine stC h ?_;clear h;intro w h;dsimp only[Zq,ze]at h;refine dr h ?_;clear h;intro w h;refine nn ?_;refine ldC h ?_;refine ldC h ?_)
 refine MpS.set mkI qn h 3 rfl hA (rev,f.2.1) rfl λsA' w hA' h=>?_;have h:St w0 ([Cl b2 zf [I 0,I 0,I 0,.string s_]]::[Cl b1 zf [I id,I f.2.1,I f.2.2.1,.string f.2.2.2.1]]::gtB b bf rA rL c room pat::sA'::E) w:=h
 (refine laC h ?_;refine stC h ?_;clear h;intro w h;dsimp only[Zq,ze]at h;refine laC h ?_)
 exact⟨fu f id,rfl,hk sA' w hA' (ZU (ZU h))⟩
def vN(h:St w0 E w){s:B0}{k:Un.T→PT}(hk:∀w',St w0 E w'→k (0,4,0,s,()) w'):L.call Pr YB [.string s] (.one Un) k w:=by
 refine zl (oJ _) ?_;unfold vQ;refine nw h ?_;clear h;intro b1 w h
 (refine stC h ?_;clear h;intro w h;dsimp only[Zq,ze]at h;refine laC h ?_)
 exact⟨_,rfl,hk w (ZU h)⟩
def Kr(all:List (Int×(B0×Int)))(id:Int):Bool:=(zH all id).isSome
def Oj{b bf rA rL c:Nat}{room pat:Int}{sA:Seg}{all:List (Int×(B0×Int))}(hA:MpS KI XM rA all sA)(h:St w0 (gtB b bf rA rL c room pat::sA::E) w){id:Int}{k:Bool→PT}
  (hk:∀w',St w0 (gtB b bf rA rL c room pat::sA::E) w'→k (Kr all id) w') :
  L.call Pr ZF [pO b,I id] (.one (.one .bool)) k w:=by
 refine zl (uT _ _) ?_;unfold xZ
 (refine nn ?_;refine ldC h ?_)
 refine MpS.get2 mkI qn Fb (λx:B0×Int=>(x.1,x.2,())) (λ_=>rfl) h 1 rfl hA ?_;refine nw h ?_;clear h;intro b4 w h
 (refine stC h ?_;clear h;intro w h;dsimp only[Zq,ze]at h)
 exact⟨_,rfl,hk w (ZU h)⟩
def xS(F:zg)(all:List (Int×(B0×Int)))(id:Int)(rev:B0):zg×List (Int×(B0×Int))×Zw×Bool:=
 if(Zv F rev id).2.2=true then((Zv F rev id).1,Zc all id (rev,1),(id,1,(Zv F rev id).2.1,s_,()),true)else((Zv F rev id).1,all,(0,0,0,s_,()),false)
def Oi{b bf rA rL c:Nat}{room pat:Int}{sA sf:Seg}{all:List (Int×(B0×Int))}{F:zg}(hA:MpS KI XM rA all sA)(hf:FlS bf F sf)(h20:F.l.length≤30)(hfew:∀x∈F.l,x.pod.reqs.length<10000000)(h:St w0 (gtB b bf rA rL c room pat::sA::sf::E) w){id:Int}{rev:B0}{k:Un.T×Bool×Unit→PT}
  (hk:∀sA' sf' w',MpS KI XM rA (xS F all id rev).2.1 sA'→FlS bf (xS F all id rev).1 sf'→St w0 (gtB b bf rA rL c room pat::sA'::sf'::E) w'→k ((xS F all id rev).2.2.1,(xS F all id rev).2.2.2,()) w') :
  L.call Pr YO [pO b,I id,.string rev] (.tup [Un,.one .bool]) k w:=by
 refine zl (uR _ _ _) ?_;unfold xX;unfold xS at hk;refine nw h ?_;clear h;intro b1 w h
 (refine nn ?_;refine ldC h ?_)
 have hrl:(revs F.l rev).length≤30:=Nat.le_trans (List.length_filter_le ..) h20;refine GN h 3 rfl hf hrl hfew λsf' w hf' h=>?_;have h:St w0 ([Cl b1 zf [I 0,I 0,I 0,.string s_]]::gtB b bf rA rL c room pat::sA::sf'::E) w:=h;refine it (λhc=>?_) (λhc=>?_)<;>(try simp only[zB]at hc)
 ·rw[if_neg (by simp[hc])]at hk
  (refine stC h ?_;clear h;intro w h;dsimp only[Zq,ze]at h;refine laC h ?_)
  exact⟨(_,false,()),rfl,hk sA sf' w hA hf' (ZU h)⟩
 ·rw[if_pos hc]at hk;have h:=ZC (ZC h);refine uO (f:=(0,1,(Zv F rev id).2.1,s_,())) hA h λsA' w hA' h=>?_
  (refine stC h ?_;clear h;intro w h;dsimp only[Zq,ze]at h;refine laC h ?_)
  refine⟨((id,1,(Zv F rev id).2.1,s_,()),true,()),rfl,hk sA' sf' w hA' hf' ?_⟩;have h:=gM h;exact h
def Yp{G:zM}{b bf rA rL c:Nat}{sA sL:Seg}{Q:List LnE}(ok:G.Ok)(hr:GtR G rA rL sA sL Q)(h:St w0 (gtB b bf rA rL c G.room G.pat::[Cl c zk [I G.room]]::sA::sL::(Q.map LnE.sg).flatten::E) w) :
  ∃s,GtS b bf G s∧St w0 (s::E) w:=⟨_,⟨ok,rA,rL,c,sA,sL,Q,hr,rfl⟩,h.glue5⟩
def zr(ls:List (B0×List (Int×Int)))(rev:B0):List (Int×Int):=(zH ls rev).getD []
def QL{Q:List LnE}{rev:B0}:zH (Q.map LnE.kp) rev=(Uj LnE.k Q rev).map λx=>some ⟨x.b,0,none⟩:=uD (key:=LnE.k) (λx:LnE=>(some ⟨x.b,0,none⟩:Option Addr)) rev Q
def QM{Q:List LnE}{rev:B0}:zH (Q.map LnE.ka) rev=(Uj LnE.k Q rev).map LnE.l:=uD (key:=LnE.k) LnE.l rev Q
def fc{b bf rA rL c:Nat}{room pat:Int}{sL:Seg}{Q:List LnE}(hL:MpS Value.string Value.pointer rL (Q.map LnE.kp) sL)(hQ:∀x∈Q,LnS x.b room x.l x.sg)
  (h:St w0 (gtB b bf rA rL c room pat::[Cl c zk [I room]]::sL::(Q.map LnE.sg).flatten::E) w) {rev:B0} {a:Addr} (ha:a=⟨b,2,none⟩) {k:Option Addr→PT}
  (hk:∀sL' A x B w',(∀y∈A++x::B,LnS y.b room y.l y.sg)→MpS Value.string Value.pointer rL ((A++x::B).map LnE.kp) sL'→x.k=rev→x.l=zr (Q.map LnE.ka) rev→(A++x::B).map LnE.ka=Zc (Q.map LnE.ka) rev (zr (Q.map LnE.ka) rev)→
   St w0 (gtB b bf rA rL c room pat::[Cl c zk [I room]]::sL'::((A++x::B).map LnE.sg).flatten::E) w'→k (some ⟨x.b,0,none⟩) w') :
  L.call Pr ZV [.pointer (some a),.string rev] (.one (.one .ptr)) k w:=by
 subst ha;refine zl (xK _ _) ?_;unfold je;refine jd ?_
 (refine nn ?_;refine ldC h ?_)
 refine MpS.get2 OD Xl zln (λx:Option Addr=>x) (λ_=>rfl) h 2 rfl hL ?_
 (try dsimp only)
 cases hf:Uj LnE.k Q rev with
 | some x=>
  have e1:=QL (Q:=Q) (rev:=rev);have e2:=QM (Q:=Q) (rev:=rev);rw[hf]at e1 e2;simp only[Option.map_some]at e1 e2;rw[e1];refine itF rfl ?_
  (refine nn ?_;refine ldC h ?_)
  refine MpS.get OD Xl zln (λx:Option Addr=>x) (λ_=>rfl) h 2 rfl hL ?_;rw[e1];obtain⟨A,B,e,hx⟩:=vj hf;subst e;refine⟨_,rfl,hk sL A x B w hQ hL hx ?_ ?_ h⟩
  ·unfold zr;rw[e2];rfl
  ·unfold zr;rw[e2];exact(ux e2).symm
 | none=>
  have e1:=QL (Q:=Q) (rev:=rev);have e2:=QM (Q:=Q) (rev:=rev);rw[hf]at e1 e2;simp only[Option.map_none]at e1 e2;rw[e1];refine itT rfl ?_
  (refine dr h ?_;clear h;intro w h;refine nn ?_;refine ldC h ?_;refine nn ?_;refine ldC h ?_)
  refine KD (fs:=#[]) (cs:=#[.pointer (some ⟨c,0,none⟩)]) kG (kI ⟨c,0,none⟩) ?_;unfold QZ
  (refine ldC h ?_)
  refine fO h λb2 s2 w hl h=>⟨_,rfl,?_⟩;have h:=yu (yu (yu (yu h)))
  (refine ckC h ?_)
  refine MpS.set OD Xl h 2 rfl hL (some ⟨b2,0,none⟩) rfl λsL' w hL' h=>?_;rw[Yt e1]at hL';have h:St w0 (gtB b bf rA rL c room pat::[Cl c zk [I room]]::sL'::(Q.map LnE.sg).flatten::s2::E) w:=h;have ekp:Q.map LnE.kp++[(rev,some (⟨b2,0,none⟩:Addr))]=(Q++[(⟨rev,b2,[],s2⟩:LnE)]).map LnE.kp:=by simp
  rw[ekp]at hL'
  (refine nn ?_;refine ldC h ?_)
  refine MpS.get OD Xl zln (λx:Option Addr=>x) (λ_=>rfl) h 2 rfl hL' ?_;have e3:zH ((Q++[(⟨rev,b2,[],s2⟩:LnE)]).map LnE.kp) rev=some (some ⟨b2,0,none⟩):=by
   rw[←ekp,←Yt e1,xP,if_pos rfl]
  rw[e3];refine⟨_,rfl,hk sL' Q ⟨rev,b2,[],s2⟩ [] w ?_ hL' rfl ?_ ?_ ?_⟩
  ·intro y hy;rcases List.mem_append.1 hy with hy | hy
   ·exact hQ y hy
   ·simp at hy;subst hy;exact hl
  ·unfold zr;rw[e2];rfl
  ·unfold zr;rw[e2,Yt e2];simp
  ·exact h.eq (by simp)
def Kw{F:zg}{rev:B0}{q:Int}(h:(Zv F rev q).2.2=false):(Zv F rev q).1=F:=by
 unfold Zv at *
 split
 ·rfl
 ·rename_i hw;rw[if_neg hw]at h;split at h
  ·rename_i hp;simp[hp]
  ·cases h
def gA{room:Int}{l:List (Int×Int)}{id u:Int}(h:(Jw room l id u).2≠0):(Jw room l id u).1=l:=by
 unfold Jw at *;split
 ·rfl
 ·split
  ·rfl
  ·rename_i h1 h2;rw[if_neg h1,if_neg h2]at h;simp at h
def OF{room:Int}{l:List (Int×Int)}{id u:Int}(h:(l.length:Int)≤room):((Jw room l id u).1.length:Int)≤room:=by
 unfold Jw;split
 ·exact h
 ·split
  ·exact h
  ·simp only[List.length_append,List.length_cons,List.length_nil];omega
def YD{G:zM}(ok:G.Ok)(rev:B0):((zr G.lines rev).length:Int)≤G.room:=by
 unfold zr
 cases h:zH G.lines rev with
 | none=>simp;exact ok.lo
 | some l=>exact ok.ln _ (QK h)
def zM.Ok.line{G:zM}(ok:G.Ok)(hl:G.lines.length<90000000)(rev:B0){l:List (Int×Int)}(h:(l.length:Int)≤G.room):({ G with lines:=Zc G.lines rev l }:zM).Ok:=by
 refine⟨ok.few,ok.lo,ok.hi,λx hx=>?_,xD ok.nd,ok.nda,?_⟩
 ·rcases QJ hx with rfl | hx
  ·exact h
  ·exact ok.ln x hx
 ·have:=JU G.lines rev l;simp only;omega
def zM.Ok.req{G:zM}(ok:G.Ok)(hn:G.all.length<90000000)(id:Int)(x:B0×Int):({ G with all:=Zc G.all id x }:zM).Ok:=by
 refine⟨?_,ok.lo,ok.hi,ok.ln,ok.nd,xD ok.nda,ok.fl⟩;have:=JU G.all id x;simp only;omega
def zM.Ok.reqIn{G:zM}(ok:G.Ok){id:Int}(h:(zH G.all id).isSome=true)(x:B0×Int):({ G with all:=Zc G.all id x }:zM).Ok:=by
 refine⟨?_,ok.lo,ok.hi,ok.ln,ok.nd,xD ok.nda,ok.fl⟩
 cases hg:zH G.all id with
 | none=>rw[hg]at h;cases h
 | some v=>simp only;rw[ve hg];exact ok.few
def vy(F:zg)(G:zM)(id:Int)(rev:B0)(now:Int):zg×zM×Zw:=
 if Kr G.all id=true then(F,G,(id,4,0,VO,()))
 else if rev=s_ then(F,{ G with all:=Zc G.all id (s_,4) },(id,4,0,Xn,()))
 else if(zr G.lines rev).length=0∧(Zv F rev id).2.2=true then
  ((Zv F rev id).1,{ G with all:=Zc G.all id (rev,1),lines:=Zc G.lines rev (zr G.lines rev) },(id,1,(Zv F rev id).2.1,s_,()))
 else if(Jw G.room (zr G.lines rev) id (now+G.pat)).2≠0 then
  (F,{ G with all:=Zc G.all id (rev,4),lines:=Zc G.lines rev (zr G.lines rev) },(id,4,0,JR,()))
 else(F,{ G with all:=Zc G.all id (rev,2),lines:=Zc G.lines rev (Jw G.room (zr G.lines rev) id (now+G.pat)).1 },(id,2,0,s_,()))
abbrev QF:Int:=30
structure Yw(F:zg):Prop where
 r:F.room≤QF
 l:(F.l.length:Int)≤max F.room 0
 q:∀x∈F.l,x.pod.reqs.length≤1000∧x.pod.conc≤1000
def Yw.l20{F:zg}(h:Yw F):F.l.length≤30:=by have:=h.r;have:=h.l;unfold QF at *;omega
def Yw.q7{F:zg}(h:Yw F):∀x∈F.l,x.pod.reqs.length<10000000:=λx hx=>by have:=(h.q x hx).1;omega
def gF{l:List zK}{id:Int}{g:yn→yn}{y:zK}(h:y∈yX l id g):y∈l∨∃x∈l,x.id=id∧y = { x with pod:=g x.pod }:=by
 unfold yX at h;obtain⟨x,hx,hy⟩:=List.mem_filterMap.1 h;split at hy
 ·rename_i e;split at hy
  ·cases hy
  ·cases hy;exact .inr ⟨x,hx,e,rfl⟩
 ·cases hy;exact .inl hx
def gG(l:List zK)(id:Int)(g:yn→yn):(yX l id g).length≤l.length:=List.length_filterMap_le ..
def Yw.upd{F:zg}(h:Yw F)(id:Int)(g:yn→yn)(hg:∀x∈F.l,x.id=id→(g x.pod).reqs.length≤1000∧(g x.pod).conc≤1000):Yw { F with l:=yX F.l id g }:=by
 refine⟨h.r,?_,λy hy=>?_⟩
 ·have:=h.l;have:=gG F.l id g;simp only;omega
 ·rcases gF hy with hy | ⟨x,hx,hid,rfl⟩
  ·exact h.q y hy
  ·exact hg x hx hid
def kX{p:yn}{q:Int}(h:p.reqs.length≤1000∧p.conc≤1000):(Zi p q).1.reqs.length≤1000∧(Zi p q).1.conc≤1000:=by
 unfold Zi;split
 ·exact h
 ·split
  ·exact h
  ·split
   ·exact h
   ·rename_i h3;have:=(qr q p.reqs).length_eq;simp only[List.length_cons]at this;refine⟨?_,h.2⟩;simp only;omega
def Yw.take{F:zg}(h:Yw F)(rev:B0)(q:Int):Yw (Zv F rev q).1:=by
 unfold Zv;split
 ·exact h
 ·split
  ·exact h
  ·exact h.upd _ _ λx hx _=>kX (h.q x hx)
def kY{p:yn}{q:Int}(h:p.reqs.length≤1000∧p.conc≤1000):(ZG p q).1.reqs.length≤1000∧(ZG p q).1.conc≤1000:=by
 unfold ZG;split
 ·have:=(List.erase_sublist (a:=q) (l:=p.reqs)).length_le;exact⟨by simp only;omega,h.2⟩
 ·exact h
def Yw.give{F:zg}(h:Yw F)(q:Int):Yw (Yz F q).1:=by
 unfold Yz;split
 ·exact h
 ·exact h.upd _ _ λx hx _=>kY (h.q x hx)
def Yw.kill{F:zg}(h:Yw F)(id:Int):Yw (qQ F id).1:=by
 unfold qQ;split
 ·exact h
 ·refine h.upd _ _ λx hx _=>?_;unfold Zu;split
  ·exact h.q x hx
  ·exact⟨by simp,(h.q x hx).2⟩
def Yw.drain{F:zg}(h:Yw F)(rev:B0):Yw (Xt rev F):=by
 refine h.upd _ _ λx hx _=>?_;unfold ZJ;split<;>exact h.q x hx
def Yw.shrink(rev:B0):∀(n:Nat){F:zg},Yw F→Yw (YtofigcbhafkikaaGreat.shrink rev n F).1
 | 0,_,h=>h
 | n+1,F,h=>Yw.shrink rev n (h.drain rev)
def Yw.grow1{F:zg}(h:Yw F)(rev:B0){conc:Int}(hc:conc≤1000)(hl:(F.l.length:Int)+1≤max F.room 0):Yw (YtofigcbhafkikaaGreat.grow1 rev conc F):=by
 refine⟨h.r,?_,λx hx=>?_⟩
 ·simp only[YtofigcbhafkikaaGreat.grow1,List.length_append,List.length_cons,List.length_nil];omega
 ·rcases List.mem_append.1 hx with hx | hx
  ·exact h.q x hx
  ·simp at hx;subst hx;exact⟨by simp,hc⟩
def Yw.grow(rev:B0){conc:Int}(hc:conc≤1000):∀(n:Nat){F:zg},Yw F→(F.l.length:Int)+n≤max F.room 0→Yw (YtofigcbhafkikaaGreat.grow rev conc n F)
 | 0,_,h,_=>h
 | n+1,F,h,hl=>by
  have h1:=Yw.grow rev hc n h (by omega);refine h1.grow1 rev hc ?_;rw[vt,Vt];omega
def VB{f:Zw}{b:Nat}:Rw Zw.cells zf 4 ⟨some ⟨b,0,none⟩,1,1⟩ [f] [Cl b zf (Zw.cells f)]:=Rw.lit b [f] ja (by simp[fl]) rfl (by simp[maxLen])
def uC{A B:List LnE}{x:LnE}{s':Seg}{l':List (Int×Int)}{ls:List (B0×List (Int×Int))}{rev:B0}{l:List (Int×Int)}(e:(A++x::B).map LnE.ka=Zc ls rev l)(hx:x.k=rev)(hnd:((A++x::B).map LnE.ka).map (·.1) |>.Nodup) :
  (A++(⟨x.k,x.b,l',s'⟩:LnE)::B).map LnE.ka=Zc ls rev l':=by
 have h1:zH ((A++x::B).map LnE.ka) rev=some x.l:=XS hnd (by rw[←hx];exact List.mem_map_of_mem (f:=LnE.ka) (by simp));have h2:Zc ((A++x::B).map LnE.ka) rev l'=(A++(⟨x.k,x.b,l',s'⟩:LnE)::B).map LnE.ka:=by
  clear e h1
  induction A with
  | nil=>simp[Zc,hx]
  | cons y A ih=>
   have hne:y.k≠rev:=by
    intro e;have:=hnd;simp only[List.cons_append,List.map_cons,List.nodup_cons]at this;refine this.1 ?_;rw[e,←hx];simp
   simp only[List.cons_append,List.map_cons,Zc];rw[if_neg hne]
   congr 1
   refine ih ?_;have:=hnd;simp only[List.cons_append,List.map_cons,List.nodup_cons]at this;exact this.2
 rw[←h2,e,Vl]
def Qh{sg sf:Seg}(h:St w0 (sg::sf::E) w){b bf:Nat}{G:zM}{F:zg}(hg:GtS b bf G sg)(hf:FlS bf F sf)(hfew:Yw F)(hn:G.all.length<90000000)(hl:G.lines.length<90000000){id:Int}{rev:B0}{now:Int}(hnow: -1000000000000<now+G.pat∧now+G.pat<1000000000000){k:Sl→PT}
  (hk:∀v sv sg' sf' w',Rw Zw.cells zf 4 v [(vy F G id rev now).2.2] sv→GtS b bf (vy F G id rev now).2.1 sg'→FlS bf (vy F G id rev now).1 sf'→St w0 (sv::sg'::sf'::E) w'→k v w') :
  L.call Pr Zb [pO b,I id,.string rev,I now] (.one (.one .slice)) k w:=by
 obtain⟨ok,rA,rL,c,sA,sL,Q,hr,rfl⟩:=hg;refine zl (Qn _ _ _ _) ?_;unfold xi;unfold vy at hk;have h:=h.split5;have h:=yx (ZC h);refine Oj hr.all h λw h=>?_;refine it (λhs=>?_) (λhs=>?_)<;>(try simp only[zB]at hs)
 ·rw[if_pos hs]at hk;refine vN h λw h=>?_;refine nw h ?_;clear h;intro b3 w h
  (refine stC h ?_;clear h;intro w h;dsimp only[Zq,ze]at h;refine stC h ?_;clear h;intro w h;dsimp only[Zq,ze]at h;refine laC h ?_)
  refine nw h ?_;clear h;intro b5 w h;have h:=Ut h;have h:=yK (yK (xw (yK (yK (yK h)))));obtain⟨sg,hg,h⟩:=Yp ok hr h;have h:=ZC (yx (yx h));exact⟨_,rfl,hk _ _ sg sf w VB hg hf h⟩
 ·rw[if_neg (by simp[hs])]at hk;rw[VN];refine it (λhe=>?_) (λhe=>?_)<;>(try simp only[zB]at he)
  ·rw[if_pos he]at hk;refine vN h λw h=>?_;refine uO (f:=(0,4,0,Xn,())) hr.all h λsA' w hA' h=>?_;refine nw h ?_;clear h;intro b8 w h;have h:=yK (yK (xw (yK (yK (yK h)))));obtain⟨sg,hg,h⟩:=Yp (ok.req hn id (s_,4)) (Q:=Q) ⟨hA',hr.lns,hr.each,hr.abs⟩ h;have h:=ZC (yx (yx h));exact⟨_,rfl,hk _ _ sg sf w VB hg hf h⟩
  ·rw[if_neg he]at hk;have h:=yF (yu (yu (yu h)))
   (refine nn ?_)
   refine fc (rev:=rev) hr.lns hr.each h rfl λsL' A x B w hQ' hL' hxk hxl hab h=>?_;rw[←hr.abs]at hxl hab;have hlen:=YD ok rev;have hnd:(((A++x::B).map LnE.ka).map (·.1)).Nodup:=by rw[hab];exact xD ok.nd
   have hx:LnS x.b G.room x.l x.sg:=hQ' x (by simp);have ok1:=ok.line hl rev hlen;have hhi:=ok.hi;have hll:x.l.length<1000000000:=by rw[hxl];omega
   have h:=yF (ZC (ZC (ZC h)));have h:=h.pick
   have close:∀{G':zM}{sA' sx':Seg}{l':List (Int×Int)}{w},G'.Ok→G'.room=G.room→G'.pat=G.pat→MpS KI XM rA G'.all sA'→LnS x.b G.room l' sx'→G'.lines=Zc G.lines rev l'→
     ∀{E},St w0 (gtB b bf rA rL c G.room G.pat::sA'::sx'::((A++B).map LnE.sg).flatten::[Cl c zk [I G.room]]::sL'::E) w→∃s,GtS b bf G' s∧St w0 (s::E) w:=by
    intro G' sA' sx' l' w ok' e1 e2 hA' hl' e3 E h;have h:=xw (xw (yF (xw (ZC (xw h)))));have h:St w0 (LnE.sg ⟨x.k,x.b,l',sx'⟩::((A++B).map LnE.sg).flatten::gtB b bf rA rL c G.room G.pat::[Cl c zk [I G.room]]::sA'::sL'::E) w:=h;have h:=h.place;have h:=yu (yu (yu (yu h)));rw[←e1,←e2]at h;refine Yp ok' ⟨hA',?_,?_,?_⟩ h
    ·simpa using hL'
    ·intro y hy;rw[e1];rcases List.mem_append.1 hy with hy | hy
     ·exact hQ' y (by simp[hy])
     ·rcases List.mem_cons.1 hy with rfl | hy
      ·exact hl'
      ·exact hQ' y (by simp[hy])
    ·rw[e3];exact(uC hab hxk hnd).symm
   have push:∀{w}{k11:Unit→PT},¬((zr G.lines rev).length=0∧(Zv F rev id).2.2=true)→∀{sA sf},MpS KI XM rA G.all sA→FlS bf F sf→
     St w0 (gtB b bf rA rL c G.room G.pat::sA::x.sg::((A++B).map LnE.sg).flatten::[Cl c zk [I G.room]]::sL'::sf::E) w→
     (L.nonnil (some ⟨b,0,none⟩) λa18=>L.load (.one (.int .i64)) (a18.add 5) λ(x19:Int)=>
      L.call Pr YN [.pointer (some ⟨x.b,0,none⟩),.int .i64 id,.int .i64 (Wi (now+x19))] (.one (.one (.int .i64))) λ(x20:Int)=>
      L.ite (x20 != 0) (
       L.call Pr YB [.string JR] (.one (.agg [.int .i64,.int .i64,.int .i64,.str])) λ(x21:Int×Int×Int×B0×Unit)=>
       L.call Pr zW [pO b,.int .i64 id,.string rev,.agg #[.int .i64 x21.1,.int .i64 x21.2.1,.int .i64 x21.2.2.1,.string x21.2.2.2.1]] (.one (.agg [.int .i64,.int .i64,.int .i64,.str])) λ(x22:Int×Int×Int×B0×Unit)=>
       L.new [.int .i64 x22.1,.int .i64 x22.2.1,.int .i64 x22.2.2.1,.string x22.2.2.2.1] zf λb23=>
       λw'=>∃y,Value.slice (some ⟨b23,0,none⟩) 1 1=RT.val (.one (.one .slice)) y∧k y w')<|
      L.call Pr zW [pO b,.int .i64 id,.string rev,.agg #[.int .i64 0,.int .i64 2,.int .i64 0,.string s_]] (.one (.agg [.int .i64,.int .i64,.int .i64,.str])) λ(x24:Int×Int×Int×B0×Unit)=>
      L.new [.int .i64 x24.1,.int .i64 x24.2.1,.int .i64 x24.2.2.1,.string x24.2.2.2.1] zf λb25=>
      λw'=>∃y,Value.slice (some ⟨b25,0,none⟩) 1 1=RT.val (.one (.one .slice)) y∧k y w') w:=by
    intro w k11 hno sA sf hA hf h;rw[if_neg hno]at hk
    (refine nn ?_;refine ldC h ?_)
    rw[wr (by omega) (by omega)];refine fW h 2 rfl hx hll λsx' w hx' h=>?_;rw[hxl]at hx' ⊢;have h:St w0 (gtB b bf rA rL c G.room G.pat::sA::sx'::((A++B).map LnE.sg).flatten::[Cl c zk [I G.room]]::sL'::sf::E) w:=h;refine it (λhp=>?_) (λhp=>?_)<;>(try simp only[zB]at hp)
    ·rw[if_pos hp]at hk;rw[gA hp]at hx';refine vN h λw h=>?_;refine uO (f:=(0,4,0,JR,())) hA h λsA' w hA' h=>?_;refine nw h ?_;clear h;intro b23 w h;have h:=Yv (Yv (Yv (Yv (Yv (Yv (Yv h))))));obtain⟨sg,hg,h⟩:=close (G':={ G with all:=Zc G.all id (rev,4),lines:=Zc G.lines rev (zr G.lines rev) }) (ok1.req hn id (rev,4)) rfl rfl hA' hx' rfl h;have h:=ZC (yx (yx h));exact⟨_,rfl,hk _ _ sg sf w VB hg hf h⟩
    ·rw[if_neg (by simpa using hp)]at hk;refine uO (f:=(0,2,0,s_,())) hA h λsA' w hA' h=>?_;refine nw h ?_;clear h;intro b23 w h;have h:=Yv (Yv (Yv (Yv (Yv (Yv (Yv h))))));obtain⟨sg,hg,h⟩:=close (G':={ G with all:=Zc G.all id (rev,2),lines:=Zc G.lines rev (Jw G.room (zr G.lines rev) id (now+G.pat)).1 }) ((ok.line hl rev (OF hlen)).req hn id (rev,2)) rfl rfl hA' hx' rfl h;have h:=ZC (yx (yx h));exact⟨_,rfl,hk _ _ sg sf w VB hg hf h⟩
   refine jd ?_;refine oF h 0 rfl hx ?_;rw[hxl];have h:St w0 (x.sg::((A++B).map LnE.sg).flatten::gtB b bf rA rL c G.room G.pat::[Cl c zk [I G.room]]::sL'::sA::sf::E) w:=h;refine it (λh0=>?_) (λh0=>?_)<;>(try simp only[zB]at h0)
   ·have h:=yu (yK (yK h));refine Oi hr.all hf hfew.l20 hfew.q7 h λsA' sf' w hA' hf' h=>?_
    cases ht:(Zv F rev id).2.2 with
    | true=>
     have e:xS F G.all id rev=((Zv F rev id).1,Zc G.all id (rev,1),(id,1,(Zv F rev id).2.1,s_,()),true):=by unfold xS;rw[if_pos ht]
     rw[e]at hA' hf' ⊢;rw[if_pos ⟨by omega,ht⟩]at hk;refine nw h ?_;clear h;intro b15 w h
     (refine stC h ?_;clear h;intro w h;dsimp only[Zq,ze]at h)
     refine itT rfl ?_
     (refine laC h ?_)
     refine nw h ?_;clear h;intro b17 w h;have h:=Ut h;have h:=Yv (Yv (Yv (Yv (Yv (Yv (yF h))))));obtain⟨sg,hg,h⟩:=close (G':={ G with all:=Zc G.all id (rev,1),lines:=Zc G.lines rev (zr G.lines rev) }) (ok1.req hn id (rev,1)) rfl rfl hA' (hxl▸hx) rfl h;have h:=ZC (yx (yx h));exact⟨_,rfl,hk _ _ sg sf' w VB hg hf' h⟩
    | false=>
     have e:xS F G.all id rev=((Zv F rev id).1,G.all,(0,0,0,s_,()),false):=by unfold xS;rw[if_neg (by simp[ht])]
     rw[e]at hA' hf' ⊢;dsimp only at hf';rw[Kw ht]at hf';refine nw h ?_;clear h;intro b15 w h
     (refine stC h ?_;clear h;intro w h;dsimp only[Zq,ze]at h)
     refine itF rfl ?_;have h:=ZU h;have h:=yK (yK (yK (yK (yK (yK (ZC h))))));exact push (k11:=λ_ _=>True) (by simp[ht]) hA' hf' h
   ·have h:=yK (yK (yu (yu (xw (xw (yK h))))));exact push (k11:=λ_ _=>True) (λhh=>h0 (by omega)) hr.all hf h
abbrev Xv:=List (Int×(B0×Int))
def Yq(rev:B0):List (Int×Int)→zg→Xv→List Zw→zg×Xv×List (Int×Int)×List Zw
 | [],F,all,out=>(F,all,[],out)
 | x::l,F,all,out=>if(Zv F rev x.1).2.2=true then Yq rev l (Zv F rev x.1).1 (Zc all x.1 (rev,1)) (out++[(x.1,1,(Zv F rev x.1).2.1,s_,())])else(F,all,x::l,out)
def qu{rev:B0}:∀{l:List (Int×Int)}{F:zg}{all:Xv}{out:List Zw},(Yq rev l F all out).2.1.length≤all.length+l.length∧(Yq rev l F all out).2.2.1.length≤l.length∧(Yq rev l F all out).2.2.2.length≤out.length+l.length
 | [],_,_,_=>by simp[Yq]
 | x::l,F,all,out=>by
  unfold Yq;split
  ·have:=qu (rev:=rev) (l:=l) (F:=(Zv F rev x.1).1) (all:=Zc all x.1 (rev,1)) (out:=out++[(x.1,1,(Zv F rev x.1).2.1,s_,())]);have h2:=JU all x.1 (rev,(1:Int));simp only[List.length_append,List.length_cons,List.length_nil]at this ⊢;omega
  ·simp
def Ks{rev:B0}:∀{l:List (Int×Int)}{F:zg}{all:Xv}{out:List Zw},(all.map (·.1)).Nodup→((Yq rev l F all out).2.1.map (·.1)).Nodup
 | [],_,_,_,h=>h
 | x::l,F,all,out,h=>by
  unfold Yq;split
  ·exact Ks (xD h)
  ·exact h
def yV(F:zg)(G:zM)(rev:B0):zg×zM×List Zw:=
 ((Yq rev (zr G.lines rev) F G.all []).1,{ G with all:=(Yq rev (zr G.lines rev) F G.all []).2.1,lines:=Zc G.lines rev (Yq rev (zr G.lines rev) F G.all []).2.2.1 },(Yq rev (zr G.lines rev) F G.all []).2.2.2)
def vO(h:St w0 E w){v:Sl}{l:List Zw}(r:Rd w Zw.cells v l)(hn:l.length<1000000000)(h64:v.a=none→l = []){k:Sl→PT}
  (hk:∀v' s' w',Rw Zw.cells zf 4 v' l s'→St w0 (s'::E) w'→k v' w'):L.call Pr zL [SlV v] (.one (.one .slice)) k w:=by
 refine zl (ju v) ?_;unfold yw;exact vK (K:=λv w'=>∃x,v=RT.val (.one (.one .slice)) x∧k x w') ja elF h r (by omega) (by omega) h64 λv' s' w' h1 h2 h3=>⟨v',rfl,hk v' s' w' h1 h3⟩
def gD{F:zg}{G:zM}(ok:G.Ok)(hn:G.all.length<90000000)(hl:G.lines.length<90000000)(rev:B0):(yV F G rev).2.1.Ok:=by
 have hlen:=YD ok rev;have h1:=qu (rev:=rev) (l:=zr G.lines rev) (F:=F) (all:=G.all) (out:=[]);have hhi:=ok.hi;unfold yV;refine⟨by simp only;omega,ok.lo,ok.hi,λx hx=>?_,xD ok.nd,Ks ok.nda,?_⟩
 ·rcases QJ hx with rfl | hx
  ·simp only;omega
  ·exact ok.ln x hx
 ·have:=JU G.lines rev (Yq rev (zr G.lines rev) F G.all []).2.2.1;simp only;omega
def UL{sg sf:Seg}(h:St w0 (sg::sf::E) w){b bf:Nat}{G:zM}{F:zg}(hg:GtS b bf G sg)(hf:FlS bf F sf)(hfew:Yw F)(hn:G.all.length<90000000)(hl:G.lines.length<90000000){rev:B0}{k:Sl→PT}
  (hk:∀v sv sg' sf' w',Rw Zw.cells zf 4 v (yV F G rev).2.2 sv→GtS b bf (yV F G rev).2.1 sg'→FlS bf (yV F G rev).1 sf'→St w0 (sv::sg'::sf'::E) w'→k v w') :
  L.call Pr yj [pO b,.string rev] (.one (.one .slice)) k w:=by
 have ok':=gD (F:=F) hg.1 hn hl rev;obtain⟨ok,rA,rL,c,sA,sL,Q,hr,rfl⟩:=hg;refine zl (uV _ _) ?_;unfold Xb;have h:=h.split5;have h:=yF (yF (yu (yu h)))
 (refine nn ?_)
 refine fc (rev:=rev) hr.lns hr.each h rfl λsL' A x B w hQ' hL' hxk hxl hab h=>?_;rw[←hr.abs]at hxl hab;have hlen:=YD ok rev;have hnd:(((A++x::B).map LnE.ka).map (·.1)).Nodup:=by rw[hab];exact xD ok.nd
 have hx:LnS x.b G.room x.l x.sg:=hQ' x (by simp);have hhi:=ok.hi;have hfl:=qu (rev:=rev) (l:=zr G.lines rev) (F:=F) (all:=G.all) (out:=[]);have hll:x.l.length<1000000000:=by rw[hxl];omega
 have h:=yF (ZC (ZC (ZC h)));have h:=h.pick
 refine jN (λz w=>∃v sv sA' sx' sf',z=(v,())∧Rw Zw.cells zf 4 v (yV F G rev).2.2 sv∧MpS KI XM rA (yV F G rev).2.1.all sA'∧LnS x.b G.room (Yq rev (zr G.lines rev) F G.all []).2.2.1 sx'∧FlS bf (yV F G rev).1 sf'∧
   St w0 (gtB b bf rA rL c G.room G.pat::sA'::sf'::sx'::sv::((A++B).map LnE.sg).flatten::[Cl c zk [I G.room]]::sL'::E) w) (λk3 hk3=>?_) (λz w ⟨v,sv,sA',sx',sf',hz,hrv,hA',hx',hf',h⟩=>?_)
 ·refine fe h 0 rfl hx hll λv5 s5 w hr5 h=>?_;rw[hxl]at hr5 hx;have hl5:=Rw.len yO hr5;rw[List.length_map]at hl5;have h:St w0 (s5::x.sg::((A++B).map LnE.sg).flatten::gtB b bf rA rL c G.room G.pat::[Cl c zk [I G.room]]::sL'::sA::sf::E) w:=h;have h:=xw (Yv (Yv (yx h)))
  refine Zj (λq y w=>∃(j:Nat)(F':zg)(all':Xv)(out:List Zw)(v:Sl)(sv sA' sx' sf':Seg),y=(v,(j:Int),())∧q+j=(zr G.lines rev).length∧Yw F'∧out.length=j∧
    Yq rev ((zr G.lines rev).drop j) F' all' out=Yq rev (zr G.lines rev) F G.all []∧Rw Zw.cells zf 4 v out sv∧MpS KI XM rA all' sA'∧LnS x.b G.room ((zr G.lines rev).drop j) sx'∧FlS bf F' sf'∧
    St w0 (sv::gtB b bf rA rL c G.room G.pat::sA'::sf'::sx'::s5::((A++B).map LnE.sg).flatten::[Cl c zk [I G.room]]::sL'::E) w) (zr G.lines rev).length
    ⟨0,F,G.all,[],_,[],sA,x.sg,sf,rfl,rfl,hfew,rfl,rfl,Rw.nil,hr.all,hx,hf,h.nil⟩ ?_
  clear h;rintro q y w ⟨j,F',all',out,v,sv,sA',sx',sf',rfl,hq,hfew',hol,hfa,hrv,hA',hx',hf',h⟩ again hag
  (try dsimp only)
  have done:∀{l':List (Int×Int)}{F2:zg}{all2:Xv}{sA2 sx2 sf2:Seg}{w},Yq rev (zr G.lines rev) F G.all []=(F2,all2,l',out)→MpS KI XM rA all2 sA2→LnS x.b G.room l' sx2→FlS bf F2 sf2→
    St w0 (sv::gtB b bf rA rL c G.room G.pat::sA2::sf2::sx2::s5::((A++B).map LnE.sg).flatten::[Cl c zk [I G.room]]::sL'::E) w→k3 (⟨v.a,v.len,v.cap⟩,()) w:=by
   intro l' F2 all2 sA2 sx2 sf2 w e h1 h2 h3 h;have h:=ow h;have h:=yu (yu (yu (yu h)));refine hk3 _ w ⟨v,sv,sA2,sx2,sf2,rfl,?_,?_,?_,?_,h⟩
   ·unfold yV;rw[e];exact hrv
   ·unfold yV;rw[e];exact h1
   ·rw[e];exact h2
   ·unfold yV;rw[e];exact h3
  refine it (λhb=>?_) (λhb=>?_)<;>(try simp only[zB]at hb)
  ·have hj:j<(zr G.lines rev).length:=by omega
   have hxj:(zr G.lines rev)[j]? = some (zr G.lines rev)[j]:=List.getElem?_eq_getElem hj;have hdr:(zr G.lines rev).drop j=(zr G.lines rev)[j]::(zr G.lines rev).drop (j+1):=List.drop_eq_getElem_cons hj;generalize (zr G.lines rev)[j]=y at hxj hdr;refine rd1 (Rw.rd yO h 5 rfl hr5) yO (lf:=.int .i64) (λx=>x) (λx=>⟨_,rfl,rfl⟩) (by omega) hb λy' hy'=>?_;simp only[Int.toNat_natCast,List.getElem?_map,hxj,Option.map_some,Option.some.injEq]at hy';subst hy';have h:=yF (yF (yF h));refine Oi hA' hf' hfew'.l20 hfew'.q7 h λsA2 sf2 w hA2 hf2 h=>?_
   cases ht:(Zv F' rev y.1).2.2 with
   | false=>
    have e:xS F' all' y.1 rev=((Zv F' rev y.1).1,all',(0,0,0,s_,()),false):=by unfold xS;rw[if_neg (by simp[ht])]
    rw[e]at hA2 hf2 ⊢;dsimp only at hf2;rw[Kw ht]at hf2;refine nw h ?_;clear h;intro b11 w h
    (refine stC h ?_;clear h;intro w h;dsimp only[Zq,ze]at h)
    refine itT rfl ?_;have h:=ZU h;have h:=yF (ZC (ZC (ZC h)));refine done ?_ hA2 hx' hf2 h;rw[←hfa,hdr,Yq,if_neg (by simp[ht])]
   | true=>
    have e:xS F' all' y.1 rev=((Zv F' rev y.1).1,Zc all' y.1 (rev,1),(y.1,1,(Zv F' rev y.1).2.1,s_,()),true):=by unfold xS;rw[if_pos ht]
    rw[e]at hA2 hf2 ⊢;refine nw h ?_;clear h;intro b11 w h
    (refine stC h ?_;clear h;intro w h;dsimp only[Zq,ze]at h)
    refine itF rfl ?_;have hx2:=hx';refine FI h 5 rfl hx2 (by rw[List.length_drop];omega) λsx3 w hx3 h=>?_;rw[hdr]at hx3;have h:St w0 ([Cl b11 zf [I y.1,I 1,I (Zv F' rev y.1).2.1,.string s_]]::gtB b bf rA rL c G.room G.pat::sA2::sf2::sv::sx3::s5::((A++B).map LnE.sg).flatten::[Cl c zk [I G.room]]::sL'::E) w:=h
    (refine laC h ?_)
    refine nw h ?_;clear h;intro b14 w h;refine Rw.app (l:=out) ja elF h 4 rfl hrv (y.1,1,(Zv F' rev y.1).2.1,s_,()) rfl (by omega) (by omega) λv' sv' w hrv' h=>?_;have h:St w0 ([Cl b11 zf [I y.1,I 1,I (Zv F' rev y.1).2.1,.string s_]]::gtB b bf rA rL c G.room G.pat::sA2::sf2::sv'::sx3::s5::((A++B).map LnE.sg).flatten::[Cl c zk [I G.room]]::sL'::E) w:=h;have h:=ZU h;have h:=yF (ZC (ZC (ZC h)));rw[wr (by omega) (by omega)];refine hag (q-1) _ w (by omega) ⟨j+1,(Zv F' rev y.1).1,Zc all' y.1 (rev,1),out++[(y.1,1,(Zv F' rev y.1).2.1,s_,())],v',sv',sA2,sx3,sf2,by simp,by omega,hfew'.take rev y.1,by simp[hol],?_,hrv',hA2,hx3,hf2,h⟩;rw[←hfa,hdr,Yq,if_pos ht]
  ·have e:(zr G.lines rev).drop j = []:=List.drop_of_length_le (by omega);rw[e]at hfa hx';exact done (l':=[]) (by rw[←hfa];rfl) hA' hx' hf' h
 ·subst hz;have hlo:(yV F G rev).2.2.length<1000000000:=by show(Yq rev (zr G.lines rev) F G.all []).2.2.2.length<1000000000;simp only[List.length_nil]at hfl;omega
  refine vO h (Rw.rd ja h 4 rfl hrv) hlo (λh0=>Rw.nil_of ja hrv h0) λv' sv' w hrv' h=>⟨v',rfl,?_⟩;have h:=ow h;have h:=Yv (Yv (xw (Yv (yu (Yv (yx (yF h)))))));have h:St w0 (LnE.sg ⟨x.k,x.b,(Yq rev (zr G.lines rev) F G.all []).2.2.1,sx'⟩::((A++B).map LnE.sg).flatten::gtB b bf rA rL c G.room G.pat::[Cl c zk [I G.room]]::sA'::sL'::sv'::sf'::E) w:=h;have h:=h.place;have h:=yK (yK (yK (yK (ZC (yK (yK h))))));have heach:∀y∈A++(⟨x.k,x.b,(Yq rev (zr G.lines rev) F G.all []).2.2.1,sx'⟩:LnE)::B,LnS y.b G.room y.l y.sg:=by
   intro y hy;rcases List.mem_append.1 hy with hy | hy
   ·exact hQ' y (by simp[hy])
   ·rcases List.mem_cons.1 hy with rfl | hy
    ·exact hx'
    ·exact hQ' y (by simp[hy])
  obtain⟨sg,hg,h⟩:=Yp (G:=(yV F G rev).2.1) (c:=c) ok' ⟨hA',by simpa using hL',heach,(uC hab hxk hnd).symm⟩ h;have h:=ZC (yx (ZC h));exact hk v' sv' sg sf' w hrv' hg hf' h
def qs{b bf:Nat}{G:zM}{sg:Seg}(hg:GtS b bf G sg)(h:St w0 (sg::E) w):∃rA rL c sA sL,∃Q:List LnE,GtR G rA rL sA sL Q∧St w0 (gtB b bf rA rL c G.room G.pat::[Cl c zk [I G.room]]::sA::sL::(Q.map LnE.sg).flatten::E) w:=by
 obtain⟨ok,rA,rL,c,sA,sL,Q,hr,rfl⟩:=hg;exact⟨rA,rL,c,sA,sL,Q,hr,h.split5⟩
def Oh{sg:Seg}(h:St w0 (sg::E) w){b bf:Nat}{G:zM}(hg:GtS b bf G sg){id:Int}{rev:B0}{f:Zw}(ok':({ G with all:=Zc G.all id (rev,f.2.1) }:zM).Ok){k:Un.T→PT}
  (hk:∀sg' w',GtS b bf { G with all:=Zc G.all id (rev,f.2.1) } sg'→St w0 (sg'::E) w'→k (fu f id) w') :
  L.call Pr zW [pO b,I id,.string rev,.agg (Zw.cells f).toArray] (.one Un) k w:=by
 obtain⟨rA,rL,c,sA,sL,Q,hr,h⟩:=qs hg h;have h:=yx (ZC h);refine uO (f:=f) hr.all h λsA' w hA' h=>?_;have h:=ZC (ZC (yx h));obtain⟨sg',hg',h⟩:=Yp ok' (Q:=Q) ⟨hA',hr.lns,hr.each,hr.abs⟩ h;exact hk sg' w hg' h
def QX{sg:Seg}(h:St w0 (sg::E) w){b bf:Nat}{G:zM}(hg:GtS b bf G sg){id:Int}{k:Bool→PT}(hk:∀sg' w',GtS b bf G sg'→St w0 (sg'::E) w'→k (Kr G.all id) w') :
  L.call Pr ZF [pO b,I id] (.one (.one .bool)) k w:=by
 have ok:=hg.1;obtain⟨rA,rL,c,sA,sL,Q,hr,h⟩:=qs hg h;have h:=yx (ZC h);refine Oj hr.all h λw h=>?_;have h:=ZC (ZC (yx h));obtain⟨sg',hg',h⟩:=Yp ok hr h;exact hk sg' w hg' h
def vx(F:zg)(G:zM)(id:Int):zg×zM×List Zw×Int:=
 if(Yz F id).2.2≠0 then((Yz F id).1,G,[],(Yz F id).2.2)
 else((yV (Yz F id).1 { G with all:=Zc G.all id ((Yz F id).2.1,3) } (Yz F id).2.1).1,(yV (Yz F id).1 { G with all:=Zc G.all id ((Yz F id).2.1,3) } (Yz F id).2.1).2.1,
  (id,3,0,s_,())::(yV (Yz F id).1 { G with all:=Zc G.all id ((Yz F id).2.1,3) } (Yz F id).2.1).2.2,0)
def OK{F:zg}{G:zM}(ok:G.Ok)(rev:B0):((yV F G rev).2.2.length:Int)≤G.room∧((yV F G rev).2.1.all.length:Int)≤G.all.length+G.room∧(yV F G rev).2.1.lines.length≤G.lines.length+1:=by
 have hlen:=YD ok rev;have h1:=qu (rev:=rev) (l:=zr G.lines rev) (F:=F) (all:=G.all) (out:=[]);simp only[List.length_nil]at h1;have h2:=JU G.lines rev (Yq rev (zr G.lines rev) F G.all []).2.2.1;refine⟨?_,?_,h2⟩
 ·show((Yq rev (zr G.lines rev) F G.all []).2.2.2.length:Int)≤_;omega
 ·show((Yq rev (zr G.lines rev) F G.all []).2.1.length:Int)≤_;omega
def On{sg sf:Seg}(h:St w0 (sg::sf::E) w){b bf:Nat}{G:zM}{F:zg}(hg:GtS b bf G sg)(hf:FlS bf F sf)(hfew:Yw F)(hn:G.all.length<80000000)(hl:G.lines.length<90000000){id:Int}{k:Sl×Int×Unit→PT}
  (hk:∀v sv sg' sf' w',Rw Zw.cells zf 4 v (vx F G id).2.2.1 sv→GtS b bf (vx F G id).2.1 sg'→FlS bf (vx F G id).1 sf'→St w0 (sv::sg'::sf'::E) w'→k (v,(vx F G id).2.2.2,()) w') :
  L.call Pr YR [pO b,I id] (.tup [.one .slice,.one (.int .i64)]) k w:=by
 have ok:=hg.1;have hhi:=ok.hi;refine zl (uW _ _) ?_;unfold Xc;unfold vx at hk;obtain⟨rA,rL,c,sA,sL,Q,hr,h⟩:=qs hg h
 (refine nn ?_;refine ldC h ?_)
 refine GP h 5 rfl hf λsf' w hf' h=>?_;obtain⟨sg,hg,h⟩:=Yp (E:=sf'::E) ok hr h;refine it (λhe=>?_) (λhe=>?_)<;>(try simp only[zB]at he)
 ·rw[if_pos he]at hk;exact⟨(⟨none,0,0⟩,(Yz F id).2.2,()),rfl,hk _ [] sg sf' w Rw.nil hg hf' h.nil⟩
 ·rw[if_neg (by simpa using he)]at hk;have hf1:=hfew.give id;generalize (Yz F id).1=F1 at *
  generalize (Yz F id).2.1=rev at *
  have ok1:=ok.req (by omega) id (rev,3);refine Oh (f:=(0,3,0,s_,())) h hg ok1 λsg w hg h=>?_;refine nw h ?_;clear h;intro b5 w h
  (refine stC h ?_;clear h;intro w h;dsimp only[Zq,ze]at h)
  have hm:=JU G.all id (rev,(3:Int));have hfl:=OK (F:=F1) ok1 rev;dsimp only at hfl;refine jN (λz w=>∃v sv sg' sf',z=(v,0,())∧Rw Zw.cells zf 4 v ((id,3,0,s_,())::(yV F1 { G with all:=Zc G.all id (rev,3) } rev).2.2) sv∧GtS b bf (yV F1 { G with all:=Zc G.all id (rev,3) } rev).2.1 sg'∧FlS bf (yV F1 { G with all:=Zc G.all id (rev,3) } rev).1 sf'∧St w0 (sv::sg'::sf'::E) w) (λk6 hk6=>?_) (λz w ⟨v,sv,sg',sf',hz,hv,hg',hf',h⟩=>?_)
  ·have app:∀{b9:Nat}{v10:Sl}{sv sg' sf':Seg}{w},Rw Zw.cells zf 4 v10 (yV F1 { G with all:=Zc G.all id (rev,3) } rev).2.2 sv→GtS b bf (yV F1 { G with all:=Zc G.all id (rev,3) } rev).2.1 sg'→FlS bf (yV F1 { G with all:=Zc G.all id (rev,3) } rev).1 sf'→
     St w0 ([Cl b9 zf [I id,I 3,I 0,.string s_]]::sv::sg'::sf'::E) w→
     (L.sem Pr (.one (.one .slice)) (Builtin.append_ #[zn,zn] zn #[.slice (some ⟨b9,0,none⟩) 1 1,.slice v10.a v10.len v10.cap]) λ(s11:Sl)=>k6 (⟨s11.a,s11.len,s11.cap⟩,0,())) w:=by
    intro b9 v10 sv sg' sf' w hv hg' hf' h;have hr1:Rw Zw.cells zf 4 ⟨some ⟨b9,0,none⟩,1,1⟩ [((id,3,0,s_,()):Zw)] [Cl b9 zf [I id,I 3,I 0,.string s_]]:=VB;refine Rw.appRd (v:=⟨some ⟨b9,0,none⟩,1,1⟩) (l:=[((id,3,0,s_,()):Zw)]) ja elF h 0 rfl hr1 (Rw.rd ja h 1 rfl hv) (by simp only[List.length_cons,List.length_nil];omega) (by simp only[List.length_cons,List.length_nil];omega) λv' s' w hv' _ _ h=>?_;have h:St w0 (s'::sv::sg'::sf'::E) w:=h;have h:=Ut h;exact hk6 _ w ⟨v',s',sg',sf',rfl,hv',hg',hf',h⟩
   (refine dr h ?_;clear h;intro w h;refine laC h ?_)
   refine FD ?_ ?_
   ·refine nw h ?_;clear h;intro b9 w h;have h:=yF (yF (yx (yx h)));refine UL h hg hf' hf1 (by simp only;omega) hl λv10 sv sg' sf' w hv hg' hf' h=>?_
    (dsimp only[ze,List.cons_append,List.nil_append]at h;refine ckC h ?_)
    have h:=QV h;have h:=yF h;exact app hv hg' hf' h
   ·have h:=ZC (ZC h);refine UL h hg hf' hf1 (by simp only;omega) hl λv10 sv sg' sf' w hv hg' hf' h=>?_
    (refine ckC h ?_)
    refine nw h ?_;clear h;intro b9 w h;have h:=QV h;exact app hv hg' hf' h
  ·subst hz;exact⟨(v,0,()),rfl,hk v sv sg' sf' w hv hg' hf' h⟩
def Ju(all:Xv)(id:Int):B0×Int:=(zH all id).getD (s_,0)
def jM:List Int→Xv→List Zw→Xv×List Zw
 | [],all,out=>(all,out)
 | id::l,all,out=>if(Ju all id).2=1 then jM l (Zc all id ((Ju all id).1,4)) (out++[(id,4,0,jX,())])else jM l all out
def JF(a b:B0×Int):Bool:=(a.1 == b.1)&&((a.2 == b.2)&&true)
def gI(a b:B0×Int)(w:World):(Op.equalIn 10000 zz (.agg #[.string a.1,I a.2]) (.agg #[.string b.1,I b.2])).run Pr w = .ok (JF a b) w:=by
 have hS:Pr.underlying zz=some (.struct (Pr.fieldsOf zz)):=by kernel_rfl
 have hp:Pr.stoodInHeld zz=false:=by kernel_rfl
 obtain⟨a1,a2⟩:=a;obtain⟨b1,b2⟩:=b;rw[show(10000:Nat)=9999+1 from rfl,run_equalIn_agg w 9999 zz _ _ hS hp];have u3:=Tryz.underlying3;have i3:=Tryz.isAgg3;have z3:=Tryz.sizeOf3;have u9:=Tryz.underlying9;have i9:=Tryz.isAgg9;have z9:=Tryz.sizeOf9;simp only[Program.fieldsOf,Tryz.underlying92]
 go_simp
 have e:(ByteArray.toList a1=ByteArray.toList b1)↔(@BEq.beq B0 _ a1 b1)=true:=by rw[beq_toListBytes];simp
 unfold JF;by_cases h1:(@BEq.beq B0 _ a1 b1)=true
 ·rw[if_pos (e.2 h1)];simp only[show(a1 == b1)=true from h1,Bool.true_and];by_cases h2: @Eq Int a2 b2
  ·cases h2;simp
  ·simp[h2]
 ·rw[if_neg (λh=>h1 (e.1 h))];have:(a1 == b1)=false:=by simpa using h1
  simp[this]
def xz(a b:B0×Int):JF a b=true↔a=b:=by
 obtain⟨a1,a2⟩:=a;obtain⟨b1,b2⟩:=b;have e:(@BEq.beq B0 _ a1 b1)=true↔a1=b1:=fJ;unfold JF;simp only[Bool.and_eq_true,beq_iff_eq,and_true,Prod.mk.injEq];exact and_congr e Iff.rfl
def gK(a b:B0×Int)(w:World):(do eqGuard .eql zz (.tmp 0) (.tmp 0) (.agg #[.string a.1,I a.2]) (.agg #[.string b.1,I b.2]);binOp .eql zz (.agg #[.string a.1,I a.2]) (.agg #[.string b.1,I b.2]):Sem Value).run Pr w = .ok (.bool (JF a b)) w:=
 fB (by kernel_rfl) (gI a b w)
def uA:∀{l:List Int}{all:Xv}{out:List Zw},(jM l all out).2.length≤out.length+l.length∧(jM l all out).1.length≤all.length+l.length
 | [],_,_=>by simp[jM]
 | id::l,all,out=>by
  unfold jM;split
  ·have:=uA (l:=l) (all:=Zc all id ((Ju all id).1,4)) (out:=out++[(id,4,0,jX,())]);have h2:=JU all id ((Ju all id).1,(4:Int));simp only[List.length_append,List.length_cons,List.length_nil]at this ⊢;omega
  ·have:=uA (l:=l) (all:=all) (out:=out);simp only[List.length_cons];omega
def Vv(G:zM)(ids:List Int):zM×List Zw:=({ G with all:=(jM ids G.all []).1 },(jM ids G.all []).2)
def uB:∀{l m:List Int}{all:Xv}{out:List Zw},jM (l++m) all out=jM m (jM l all out).1 (jM l all out).2
 | [],m,all,out=>rfl
 | id::l,m,all,out=>by
  rw[List.cons_append,jM];split
  ·rename_i h;rw[uB];conv=>rhs;rw[jM,if_pos h]
  ·rename_i h;rw[uB];conv=>rhs;rw[jM,if_neg h]
def Om{sg si:Seg}(h:St w0 (sg::si::E) w){b bf:Nat}{G:zM}(hg:GtS b bf G sg){v0:Sl}{ids:List Int}(hi:Rw eI zk 1 v0 ids si)(hn:ids.length<1000000){k:Sl→PT}
  (hk:∀v sv sg' w',Rw Zw.cells zf 4 v (Vv G ids).2 sv→GtS b bf (Vv G ids).1 sg'→St w0 (sv::sg'::si::E) w'→k v w') :
  L.call Pr YQ [pO b,.slice v0.a v0.len v0.cap] (.one (.one .slice)) k w:=by
 have ok:=hg.1;refine zl (uU _ v0) ?_;unfold Xa;have hl0:=Rw.len yO hi
 refine Zj (λq y w=>∃(j:Nat)(all':Xv)(out:List Zw)(v:Sl)(sv sg':Seg),y=(v,(j:Int),())∧q+j=ids.length∧jM (ids.take j) G.all []=(all',out)∧Rw Zw.cells zf 4 v out sv∧GtS b bf { G with all:=all' } sg'∧St w0 (sg'::sv::si::E) w) ids.length
  ⟨0,G.all,[],_,[],sg,rfl,rfl,rfl,Rw.nil,hg,h.eq (by simp)⟩ ?_
 clear h;rintro q y w ⟨j,all',out,v,sv,sg',rfl,hq,hla,hv,hg',h⟩ again hag
 (try dsimp only)
 have hll:=uA (l:=ids.take j) (all:=G.all) (out:=[]);rw[hla]at hll;simp only[List.length_nil,List.length_take]at hll;refine it (λhb=>?_) (λhb=>?_)<;>(try simp only[zB]at hb)
 ·have hj:j<ids.length:=by omega
  have hx:ids[j]? = some ids[j]:=List.getElem?_eq_getElem hj;generalize ids[j]=id at hx;have htk:ids.take (j+1)=ids.take j++[id]:=by rw[List.take_add_one,hx];rfl
  have next:∀{all2 out2 v sv sg2 w},jM [id] all' out=(all2,out2)→Rw Zw.cells zf 4 v out2 sv→GtS b bf { G with all:=all2 } sg2→St w0 (sg2::sv::si::E) w→again (v,Wi ((j:Int)+1),()) w:=by
   intro all2 out2 v sv sg2 w e hv hg2 h;rw[wr (by omega) (by omega)];refine hag (q-1) _ w (by omega) ⟨j+1,all2,out2,v,sv,sg2,by simp,by omega,?_,hv,hg2,h⟩;rw[htk,uB,hla];exact e
  refine jd ?_;refine rd1 (Rw.rd yO h 2 rfl hi) yO (lf:=.int .i64) (λx=>x) (λx=>⟨_,rfl,rfl⟩) (by omega) hb λy' hy'=>?_;simp only[Int.toNat_natCast,hx,Option.some.injEq]at hy';subst hy';have ok2:=hg'.1;obtain⟨rA,rL,c,sA,sL,Q,hr,h⟩:=qs hg' h
  (dsimp only[ze,List.cons_append,List.nil_append]at h;refine nn ?_;refine ldC h ?_)
  refine MpS.get mkI qn Fb (λx:B0×Int=>(x.1,x.2,())) (λ_=>rfl) h 2 rfl hr.all ?_;have er:((zH all' id).map λx:B0×Int=>(x.1,x.2,())).getD (s_,0,())=((Ju all' id).1,(Ju all' id).2,()):=by
   unfold Ju;cases zH all' id<;>rfl
  (try dsimp only)
  rw[er];refine nw h ?_;clear h;intro b10 w h
  (refine stC h ?_;clear h;intro w h;dsimp only[Zq,ze]at h;refine laC h ?_;refine ldC h ?_)
  unfold L.chkSem;refine⟨gK (Ju all' id) ((Ju all' id).1,1) w,?_⟩;refine it (λhc=>?_) (λhc=>?_)
  ·have hc:(Ju all' id).2=1:=by
    have:=(xz (Ju all' id) ((Ju all' id).1,1)).1 hc;rw[this]
   (refine dr h ?_;clear h;intro w h;refine ldC h ?_)
   refine vN h λw h=>?_
   (refine ckC h ?_)
   have h:=ZU h;obtain⟨sg2,hg2,h⟩:=Yp (G:={ G with all:=all' }) ok2 hr h;have hin:(zH all' id).isSome=true:=by
    cases hg:zH all' id with
    | none=>unfold Ju at hc;rw[hg]at hc;cases hc
    | some x=>rfl
   refine Oh (f:=(0,4,0,jX,())) h hg2 (ok2.reqIn hin _) λsg2 w hg2 h=>?_;refine nw h ?_;clear h;intro b16 w h;refine Rw.app (l:=out) ja elF h 1 rfl hv (id,4,0,jX,()) rfl (by omega) (by omega) λv' sv' w hv' h=>?_;refine next (v:=v') ?_ hv' hg2 h
   simp only[jM];rw[if_pos hc]
  ·have hc:¬(Ju all' id).2=1:=λe=>by
    have:JF (Ju all' id) ((Ju all' id).1,1)=true:=(xz _ _).2 (by rw[←e]);unfold JF at this;rw[this]at hc;cases hc
   have h:=ZU h;obtain⟨sg2,hg2,h⟩:=Yp (G:={ G with all:=all' }) ok2 hr h;refine next (v:=v) ?_ hv hg2 h
   simp only[jM];rw[if_neg hc]
 ·have e:ids.take j=ids:=List.take_of_length_le (by omega);rw[e]at hla;refine vO h (Rw.rd ja h 1 rfl hv) (by omega) (λh0=>Rw.nil_of ja hv h0) λv' sv' w hv' h=>⟨v',rfl,?_⟩;have h:=gM h;refine hk v' sv' sg' w ?_ ?_ h
  ·unfold Vv;rw[hla];exact hv'
  ·unfold Vv;rw[hla];exact hg'
def vu(all:Xv)(rev:B0):List Int:=xE ((all.filter λp=>decide (p.2=(rev,1))).map (·.1))
def vw(G:zM)(rev:B0):List Int:=(zr G.lines rev).map (·.1)
def GR:Value→B0×Int
 | .agg ⟨.string s:: .int _ n::_⟩=>(s,n)
 | _=>(s_,0)
def VH{sg:Seg}(h:St w0 (sg::E) w){b bf:Nat}{G:zM}(hg:GtS b bf G sg){rev:B0}{k:Sl×Sl×Unit→PT}
  (hk:∀v1 v2 s1 s2 sg' w',Rw eI zk 1 v1 (vw G rev) s1→Rw eI zk 1 v2 (vu G.all rev) s2→GtS b bf G sg'→St w0 (s1::s2::sg'::E) w'→k (v1,v2,()) w') :
  L.call Pr Yd [pO b,.string rev] (.tup [.one .slice,.one .slice]) k w:=by
 have ok:=hg.1;have hfew:=ok.few;refine zl (Ql _ _) ?_;unfold xg;obtain⟨rA,rL,c,sA,sL,Q,hr,h⟩:=qs hg h
 (refine nn ?_;refine ldC h ?_)
 have h:=ZC h;have h:St w0 (sA::[]::gtB b bf rA rL c G.room G.pat::[Cl c zk [I G.room]]::sL::(Q.map LnE.sg).flatten::E) w:=h.eq (by simp)
 refine Kk (kv:=KI) (vv:=XM) unI (λ_=>rfl) GR (λ_=>rfl) qn (lk:=.int .i64) (ev:=.agg [.str,.int .i64]) (λx=>x) (λ_=>rfl) (λx:B0×Int=>(x.1,x.2,())) (λ_=>rfl) hr.all h
  (λseen y F=>∃v sv,y=(v,())∧Rw eI zk 1 v ((seen.filter λp=>decide (p.2=(rev,(1:Int)))).map (·.1)) sv∧F=sv::gtB b bf rA rL c G.room G.pat::[Cl c zk [I G.room]]::sL::(Q.map LnE.sg).flatten::E)
  (y0:=(⟨none,0,0⟩,())) ⟨_,[],rfl,Rw.nil,rfl⟩ ?_ ?_
 ·rintro seen id x y F X w again hsl hmem hnew ⟨v,sv,rfl,hv,rfl⟩ h hN;have hfl:=List.length_filter_le (λp:Int×(B0×Int)=>decide (p.2=(rev,1))) seen;have h:St w0 (sA::sv::(gtB b bf rA rL c G.room G.pat::[Cl c zk [I G.room]]::sL::(Q.map LnE.sg).flatten::E++X)) w:=h;refine nw h ?_;clear h;intro b16 w h
  (dsimp only[ze,List.cons_append,List.nil_append]at h;refine stC h ?_;clear h;intro w h;dsimp only[Zq,ze]at h;refine laC h ?_)
  unfold L.chkSem;refine⟨gK x (rev,1) w,?_⟩;refine it (λhc=>?_) (λhc=>?_)
  ·have hc:x=(rev,1):=(xz x (rev,1)).1 hc;refine nw h ?_;clear h;intro b18 w h;refine Rw.app (l:=(seen.filter λp=>decide (p.2=(rev,(1:Int)))).map (·.1)) yO elI h 2 rfl hv id rfl (by rw[List.length_map];omega) (by rw[List.length_map];omega) λv' sv' w hv' h=>?_;have h:St w0 ([Cl b16 zz [.string x.1,I x.2]]::sA::sv'::(gtB b bf rA rL c G.room G.pat::[Cl c zk [I G.room]]::sL::(Q.map LnE.sg).flatten::E++X)) w:=h;refine hN (v',()) _ w ⟨v',sv',rfl,?_,rfl⟩ (ZU h);rw[List.filter_append,List.map_append];simpa [hc]using hv'
  ·have hc:¬x=(rev,1):=λe=>by
    have:JF x (rev,1)=true:=(xz _ _).2 e;unfold JF at this;rw[this]at hc;cases hc
   refine hN (v,()) _ w ⟨v,sv,rfl,?_,rfl⟩ (ZU h);rw[List.filter_append,List.map_append];simpa [hc]using hv
 ·rintro seen y F w hp ⟨v,sv,rfl,hv,rfl⟩ h;have hfl:=List.length_filter_le (λp:Int×(B0×Int)=>decide (p.2=(rev,1))) seen;rw[hp.length_eq]at hfl
  (try dsimp only)
  refine Oo h 1 rfl hv (by rw[List.length_map];omega) λsv w hv h=>?_;have e1:xE ((seen.filter λp=>decide (p.2=(rev,(1:Int)))).map (·.1))=vu G.all rev:=Ko ((hp.filter _).map _);rw[e1]at hv;have h:St w0 (sA::sv::gtB b bf rA rL c G.room G.pat::[Cl c zk [I G.room]]::sL::(Q.map LnE.sg).flatten::E) w:=h;have hgl:(vu G.all rev).length<1000000000:=by
   rw[←e1,uG,List.length_map];omega
  have fin:∀{v1:Sl}{s1:Seg}{w},Rw eI zk 1 v1 (vw G rev) s1→St w0 (s1::sA::sv::gtB b bf rA rL c G.room G.pat::[Cl c zk [I G.room]]::sL::(Q.map LnE.sg).flatten::E) w→
    L.call Pr zJ [.slice v.a v.len v.cap] (.one (.one .slice)) (λx14 w'=>∃z,Value.tuple #[.slice v1.a v1.len v1.cap,.slice x14.a x14.len x14.cap]=RT.val (.tup [.one .slice,.one .slice]) z∧k z w') w:=by
   intro v1 s1 w h1 h;refine xU h (Rw.rd yO h 2 rfl hv) (by omega) (λh0=>Rw.nil_of yO hv h0) λv2 s2 w h2 _ h=>⟨(v1,v2,()),rfl,?_⟩;have h:=Us h;have h:=yK (yK (yu (yK (yK (yx h)))));obtain⟨sg',hg',h⟩:=Yp ok hr h;have h:=ZC (ZC h);exact hk v1 v2 s1 s2 sg' w h1 h2 hg' h
  refine jd ?_
  (refine nn ?_;refine ldC h ?_)
  refine MpS.get2 OD Xl zln (λx:Option Addr=>x) (λ_=>rfl) h 4 rfl hr.lns ?_
  (try dsimp only)
  have e2:=QL (Q:=Q) (rev:=rev);have e3:=QM (Q:=Q) (rev:=rev);rw[←hr.abs]at e3
  cases hf:Uj LnE.k Q rev with
  | none=>
   rw[hf]at e2 e3;simp only[Option.map_none]at e2 e3;rw[e2];refine itF rfl ?_;refine fin (v1:=⟨none,0,0⟩) (s1:=[]) ?_ h.nil;unfold vw zr;rw[e3];exact Rw.nil
  | some x=>
   rw[hf]at e2 e3;simp only[Option.map_some]at e2 e3;rw[e2];refine itT rfl ?_;obtain⟨A,B,rfl,hx⟩:=vj hf;have hlx:=hr.each x (by simp);have hlen:=YD ok rev;have hhi:=ok.hi;have elo:zr G.lines rev=x.l:=by unfold zr;rw[e3];rfl
   rw[elo]at hlen;have h:=xw h;have h:=h.pick;refine fe h 0 rfl hlx (by omega) λv1 s1 w h1 h=>?_;have h:St w0 (s1::x.sg::((A++B).map LnE.sg).flatten::sA::sv::gtB b bf rA rL c G.room G.pat::[Cl c zk [I G.room]]::sL::E) w:=h;have h:=ZC (ZC h);have h:St w0 (LnE.sg x::((A++B).map LnE.sg).flatten::s1::sA::sv::gtB b bf rA rL c G.room G.pat::[Cl c zk [I G.room]]::sL::E) w:=h;have h:=h.place;have h:=yK (yK (yK (yK (yK (yK h)))));refine fin (v1:=v1) ?_ h;unfold vw;rw[elo];exact h1
def GM{sg:Seg}(h:St w0 (sg::E) w){b bf:Nat}{G:zM}(hg:GtS b bf G sg){rev:B0}{k:Int→PT}
  (hk:∀sg' w',GtS b bf G sg'→St w0 (sg'::E) w'→k (((vw G rev).length:Int)+(vu G.all rev).length) w') :
  L.call Pr Jb [pO b,.string rev] (.one (.one (.int .i64))) k w:=by
 have ok:=hg.1;refine zl (uX _ _) ?_;unfold Xd;refine VH h hg λv1 v2 s1 s2 sg' w h1 h2 hg' h=>?_;have e1:=Rw.len yO h1;have e2:=Rw.len yO h2;have hlen:=YD ok rev;have hhi:=ok.hi;have hfew:=ok.few;have h3:(vw G rev).length=(zr G.lines rev).length:=List.length_map ..;have h4:(vu G.all rev).length≤G.all.length:=by unfold vu;rw[uG,List.length_map];exact List.length_filter_le ..
 refine⟨_,rfl,?_⟩
 (try dsimp only)
 rw[e1,e2,wr (by omega) (by omega)];exact hk sg' w hg' (ZU (ZU h))
def XV(all:Xv)(q:Int):Nat:=(all.filter λp=>decide (p.2.2=q)).length
def VI{sg:Seg}(h:St w0 (sg::E) w){b bf:Nat}{G:zM}(hg:GtS b bf G sg){k:Int×Int×Int×Int×Unit→PT}
  (hk:∀sg' w',GtS b bf G sg'→St w0 (sg'::E) w'→k ((G.all.length:Int),(XV G.all 2:Int),(XV G.all 1:Int),(XV G.all 3:Int)+XV G.all 4,()) w') :
  L.call Pr Ye [pO b] (.tup [.one (.int .i64),.one (.int .i64),.one (.int .i64),.one (.int .i64)]) k w:=by
 have ok:=hg.1;have hfew:=ok.few;refine zl (Qm _) ?_;unfold xh;refine MpS.new h KI KI λrM sM w hM h=>?_;have h:=yx h;obtain⟨rA,rL,c,sA,sL,Q,hr,h⟩:=qs hg h
 (refine nn ?_;refine ldC h ?_)
 have h:=yF (xw h)
 refine Kk (kv:=KI) (vv:=XM) unI (λ_=>rfl) GR (λ_=>rfl) qn (lk:=.int .i64) (ev:=.agg [.str,.int .i64]) (λx=>x) (λ_=>rfl) (λx:B0×Int=>(x.1,x.2,())) (λ_=>rfl) hr.all h
  (λseen y F=>∃mm sm,MpS KI KI rM mm sm∧(∀q,(zH mm q).getD 0=((XV seen q:Nat):Int))∧F=sm::gtB b bf rA rL c G.room G.pat::[Cl c zk [I G.room]]::sL::(Q.map LnE.sg).flatten::E)
  (y0:=()) ⟨[],sM,hM,λq=>rfl,rfl⟩ ?_ ?_
 ·rintro seen id x ⟨⟩ F X w again hsl hmem hnew ⟨mm,sm,hm,hc,rfl⟩ h hN;have h:St w0 (sA::sm::(gtB b bf rA rL c G.room G.pat::[Cl c zk [I G.room]]::sL::(Q.map LnE.sg).flatten::E++X)) w:=h;refine nw h ?_;clear h;intro b16 w h
  (dsimp only[ze,List.cons_append,List.nil_append]at h;refine stC h ?_;clear h;intro w h;dsimp only[Zq,ze]at h;refine ldC h ?_)
  refine MpS.get mkI yB zi (λx:Int=>x) (λ_=>rfl) h 2 rfl hm ?_;have hcx:=hc x.2;have hle:XV seen x.2≤seen.length:=List.length_filter_le ..;have e:((zH mm x.2).map λx:Int=>x).getD 0=((XV seen x.2:Nat):Int):=by rw[←hcx];cases zH mm x.2<;>rfl
  rw[e,wr (by omega) (by omega)];refine MpS.set mkI yB h 2 rfl hm (((XV seen x.2:Nat):Int)+1) rfl λsm' w hm' h=>?_;refine hN () _ w ⟨_,sm',hm',λq=>?_,rfl⟩ (ZU h);rw[xP];unfold XV;rw[List.filter_append,List.length_append];by_cases hq:x.2=q
  ·subst hq;simp[XV]
  ·rw[if_neg hq];have:=hc q;unfold XV at this;simp[hq,this]
 ·rintro seen ⟨⟩ F w hp ⟨mm,sm,hm,hc,rfl⟩ h;have hcc:∀q,XV seen q=XV G.all q:=λq=>(hp.filter _).length_eq;have hle3:XV G.all 3≤G.all.length:=List.length_filter_le ..;have hle4:XV G.all 4≤G.all.length:=List.length_filter_le ..;have eg:∀q:Int,((zH mm q).map λx:Int=>x).getD 0=((XV G.all q:Nat):Int):=λq=>by rw[←hcc,←hc q];cases zH mm q<;>rfl
  have ev:∀q:Int,((zH mm q).map KI).getD (I 0)=I ((XV G.all q:Nat):Int):=λq=>by rw[←eg q];cases zH mm q<;>rfl
  have h:St w0 (sA::sm::gtB b bf rA rL c G.room G.pat::[Cl c zk [I G.room]]::sL::(Q.map LnE.sg).flatten::E) w:=h
  (refine dr h ?_;clear h;intro w h;refine nn ?_;refine ldC h ?_)
  refine MpS.len qn h 0 rfl hr.all ?_;refine MpS.get mkI yB zi (λx:Int=>x) (λ_=>rfl) h 1 rfl hm ?_;rw[eg];refine MpS.get mkI yB zi (λx:Int=>x) (λ_=>rfl) h 1 rfl hm ?_;rw[eg];refine MpS.get mkI yB zi (λx:Int=>x) (λ_=>rfl) h 1 rfl hm ?_;rw[eg];refine MpS.get mkI yB zi (λx:Int=>x) (λ_=>rfl) h 1 rfl hm ?_;rw[eg]
  (repeat refine MpS.chk mkI yB zi h 1 rfl hm (ev _) ?_)
  rw[wr (by omega) (by omega)];have h:=xw (xw (yF (xw (xw (yx h)))));have h:=h;obtain⟨sg',hg',h⟩:=Yp ok hr h;exact⟨(_,_,_,_,()),rfl,hk sg' w hg' (Ut h)⟩
end Go.Proofs.YtofigcbhafkikaaGreat
namespace Go.Dm
class Tab(P:Program)(w:World):Prop where
 is : Lib.TabIs P w "internal/strconv.uint64pow10" .u64 Lib.pow10Tab
section
variable {w0 w:World}{E:List Seg}{P:Program}
end
section
variable {w0 w w':World}{E:List Seg}{P:Program}
end
end Go.Dm
namespace Go.Dm
variable {P:Program}{w0 w:World}{E:List Seg}
def Rw.ckf{α:Type}{enc:α→List Value}{e size:Nat}{v:Sl}{l:List α}{s:Seg}(hE:Enc enc size)(h:St w0 E w)(k:Nat)(hi:nth E k=some s)(hr:Rw enc e size v l s){i:Nat}{a:Addr}(ha:ElA v size i a){x:α}(hx:l[i]? = some x){f:Nat}{u:Value}(hu:nth (enc x) f=some u){kk:PT}(hk:kk w):L.chk (a.add f) [u] kk w:=by
 obtain⟨a0,hv,rfl⟩:=ha;refine⟨λj c hc=>?_,hk⟩
 cases j with
 | zero=>
  cases hc
  rw[YT,yS];exact hr.cell h k hi hv (XW hE hx hu)
 | succ j=>cases hc
end Go.Dm
namespace Go.Proofs.YtofigcbhafkikaaGreat
open Go.Dm
attribute [local irreducible] L.load L.store L.chk L.new L.nonnil L.guard L.ite L.draw L.idx L.sem L.semR L.semU L.chkSem L.next L.call L.callV L.join L.alts L.loop L.begin L.endRound L.range
variable {w0 w:World}{E:List Seg}
def om(F:zg)(id:Int):zg×Int:=match jc F.l id with
 | none=>(F,6)
 | some x=>({ F with l:=yX F.l id λp=>(jb p).1 },(jb x.pod).2)
def fV(h:St w0 E w)(i:Nat){b:Nat}{F:zg}{s:Seg}(hi:nth E i=some s)(hf:FlS b F s){id:Int}{k:Int→PT}
  (hk:∀s' w',FlS b (om F id).1 s'→St w0 (ze E i s') w'→k (om F id).2 w') :
  L.call Pr YS [pO b,I id] (.one (.one (.int .i64))) k w:=by
 refine FH h i hi hf (λhn w h=>?_) (λx hx s' w hf h=>?_)
 ·have e:om F id=(F,6):=by unfold om;rw[hn]
  rw[e]at hk;exact hk s w hf (by rwa [ZE hi])
 ·have e:om F id=({ F with l:=yX F.l id λp=>(jb p).1 },(jb x.pod).2):=by unfold om;rw[hx]
  rw[e]at hk;exact hk s' w hf h
def FlS.nd{b:Nat}{F:zg}{s:Seg}(hf:FlS b F s):∀x∈F.l,x.pod.reqs.Pairwise (· < ·):=by
 obtain⟨-,_,_,_,_,_,_,L,-,-,hr,-⟩:=hf;intro x hx;rw[hr.l]at hx;obtain⟨t,ht,rfl⟩:=List.mem_map.1 hx;exact(hr.ps t ht).1.pw
def oE{p0 p1:Int}(h:0<p1)(hp:p1≤2147483648){k:Int→PT}(hk:k (p0%p1) w):L.call Pr yE [I p0,I p1] (.one (.one (.int .i64))) k w:=by
 refine zl (qk p0 p1) ?_;unfold Jk;refine gd (by omega) ?_;have h1:=Int.emod_nonneg p0 (by omega:p1≠0);have h2:=Int.emod_lt_of_pos p0 h;have e:=kM p0 p1 h;refine jN (λz w'=>z.1=p0%p1∧w'=w) (λk' hk'=>?_) (λy w' ⟨h1,h2⟩=>by subst h2;exact⟨_,rfl,by rw[h1];exact hk⟩);refine it (λhb=>?_) (λhb=>?_)<;>(try simp only[zB]at hb)
 ·refine hk' _ _ ⟨?_,rfl⟩;rw[e]at hb;dsimp only;rw[e];split at hb<;>rename_i hc
  ·omega
  ·rw[if_neg hc,wr]<;>omega
 ·refine hk' _ _ ⟨?_,rfl⟩;rw[e]at hb;dsimp only;rw[e];split at hb<;>rename_i hc
  ·rw[if_pos hc]
  ·omega
def rf{v:Sl}{l:List Zw}(r:Rd w Zw.cells v l){n:Int}{x:Zw}(hx:l[n.toNat]? = some x)(h0:0≤n){f:Nat}{lf:Lf}{u:Value}{y:lf.T}{kk:lf.T→PT}(hu:nth (Zw.cells x) f=some u)(hy:un2 lf u=some y)(hk:kk y w) :
  L.idx v.a n v.len 4 (λa=>L.load (.one lf) (a.add f) kk) w:=
 r.ix ja h0 (List.getElem?_eq_some_iff.1 hx).1 λa ha=>r.ld ja ha hx hu hy hk
def OR(h:St w0 E w){k:Bool→PT}(hk:∀w',St w0 E w'→k true w'):L.call Pr YZ [] (.one (.one .bool)) k w:=by
 refine zl qG ?_;unfold JC;refine gY h λbf sf w hf h=>itF rfl ?_;refine gV h (by decide) (by decide) λb sg w hg h=>itF rfl ?_;refine VI h hg λsg w hg h=>?_;have ff:Yw ⟨2,0,[]⟩:=⟨by decide,by decide,by simp⟩;refine Qh h hg hf ff (by decide) (by decide) (by simp) λv sv sg sf w hv hg hf h=>?_;have e:vy ⟨2,0,[]⟩ ⟨[],[],1,5⟩ 7 xA 0=(⟨2,0,[]⟩,⟨[(7,(xA,2))],[(xA,[(7,5)])],1,5⟩,(7,2,0,s_,())):=by rfl
 rw[e]at hv hg;have hl:=Rw.len ja hv;refine itT rfl (itT rfl (itT rfl (itT rfl (itT (by rw[hl];rfl) ?_))));refine rf (Rw.rd ja h 0 rfl hv) (x:=(7,2,0,s_,())) rfl (by decide) rfl rfl (itT rfl ?_);refine rf (Rw.rd ja h 0 rfl hv) (x:=(7,2,0,s_,())) rfl (by decide) rfl rfl (itT rfl ?_);have h:=yx h;refine QX h hg λsg w hg h=>itT rfl ?_;refine QX h hg λsg w hg h=>⟨true,rfl,hk w ?_⟩;have h:=ZU (Ut (gM h));exact h
def tot(rs:Nat→List Int):Nat→Nat
 | 0=>0
 | n+1=>tot rs n+(rs n).length
structure TL(n c m:Nat)(B:Int)(ready:Nat→Bool)(rs:Nat→List Int):Prop where
 len:∀i,i<n→(rs i).length≤c
 nr:∀i,i<n→ready i=false→rs i = []
 tot:tot rs n=m
 b:∀i,i<n→∀q∈rs i,1≤q∧q≤B
def TL.fresh{n c m:Nat}{B q:Int}{ready:Nat→Bool}{rs:Nat→List Int}(t:TL n c m B ready rs)(hq:B<q):∀i,i<n→q∉rs i:=λi hi h=>by have:=t.b i hi q h;omega
end Go.Proofs.YtofigcbhafkikaaGreat

namespace Go.Proofs
open Go.Shelf
def Tryz.lays190_ren:Go.Shelf.Ren:=⟨fun | 190=>69 | 125=>61 | 258=>88 | 128=>82 | 129=>83 | 302=>98 | 303=>99 | 304=>100 | 305=>101 | 306=>102 | 307=>103 | 308=>104 | 309=>105 | 310=>106 | 333=>109 | 329=>91 | 330=>92 | 334=>110 | 335=>111 | 336=>112 | 344=>114 | n=>n,fun | 31=>118 | 9=>9 | 3=>3 | 46=>129 | 0=>0 | 51=>150 | 53=>152 | 4=>4 | 183=>144 | 182=>143 | 131=>81 | 5=>5 | 218=>157 | 222=>161 | 228=>171 | 229=>172 | n=>n,fun | n=>n⟩
def Tryz.lays190:Go.Proofs.Lays.n190 Tryz.prog Tryz.lays190_ren:={
 mixed:=by kernel_rfl
 f125:=Tryz.func61.trans cS
 f128:=Tryz.func82.trans cS
 f129:=Tryz.func83.trans cS
 f190:=Tryz.func69.trans cS
 f258:=Tryz.func88.trans cS
 f302:=Tryz.func98.trans cS
 f303:=Tryz.func99.trans cS
 f304:=Tryz.func100.trans cS
 f305:=Tryz.func101.trans cS
 f306:=Tryz.func102.trans cS
 f307:=Tryz.func103.trans cS
 f308:=Tryz.func104.trans cS
 f309:=Tryz.func105.trans cS
 f310:=Tryz.func106.trans cS
 f329:=Tryz.func91.trans cS
 f330:=Tryz.func92.trans cS
 f333:=Tryz.func109.trans cS
 f334:=Tryz.func110.trans cS
 f335:=Tryz.func111.trans cS
 f336:=Tryz.func112.trans cS
 f344:=Tryz.func114.trans cS
 t0:=Tryz.underlying0
 a0:=Tryz.isAgg0
 z0:=Tryz.sizeOf0
 v0:=Tryz.zeroValue0
 t3:=Tryz.underlying3
 a3:=Tryz.isAgg3
 z3:=Tryz.sizeOf3
 v3:=Tryz.zeroValue3
 t4:=Tryz.underlying4
 a4:=Tryz.isAgg4
 z4:=Tryz.sizeOf4
 v4:=Tryz.zeroValue4
 t5:=Tryz.underlying5
 a5:=Tryz.isAgg5
 z5:=Tryz.sizeOf5
 v5:=Tryz.zeroValue5
 t9:=Tryz.underlying9
 a9:=Tryz.isAgg9
 z9:=Tryz.sizeOf9
 v9:=Tryz.zeroValue9
 t31:=Tryz.underlying118
 a31:=Tryz.isAgg118
 z31:=Tryz.sizeOf118
 v31:=Tryz.zeroValue118
 t46:=Tryz.underlying129
 a46:=Tryz.isAgg129
 z46:=Tryz.sizeOf129
 v46:=Tryz.zeroValue129
 t51:=Tryz.underlying150
 a51:=Tryz.isAgg150
 z51:=Tryz.sizeOf150
 v51:=Tryz.zeroValue150
 t53:=Tryz.underlying152
 a53:=Tryz.isAgg152
 z53:=Tryz.sizeOf152
 v53:=Tryz.zeroValue152
 t131:=Tryz.underlying81
 a131:=Tryz.isAgg81
 z131:=Tryz.sizeOf81
 v131:=Tryz.zeroValue81
 t182:=Tryz.underlying143
 a182:=Tryz.isAgg143
 z182:=Tryz.sizeOf143
 v182:=Tryz.zeroValue143
 t183:=Tryz.underlying144
 a183:=Tryz.isAgg144
 z183:=Tryz.sizeOf144
 v183:=Tryz.zeroValue144
 t218:=Tryz.underlying157
 a218:=Tryz.isAgg157
 z218:=Tryz.sizeOf157
 v218:=Tryz.zeroValue157
 t222:=Tryz.underlying161
 a222:=Tryz.isAgg161
 z222:=Tryz.sizeOf161
 v222:=Tryz.zeroValue161
 t228:=Tryz.underlying171
 a228:=Tryz.isAgg171
 z228:=Tryz.sizeOf171
 v228:=Tryz.zeroValue171
 t229:=Tryz.underlying172
 a229:=Tryz.isAgg172
 z229:=Tryz.sizeOf172
 v229:=Tryz.zeroValue172 }
end Go.Proofs
namespace Go.Proofs.YtofigcbhafkikaaGreat
open Go.Dm
attribute [local irreducible] L.load L.store L.chk L.new L.nonnil L.guard L.ite L.draw L.idx L.sem L.semR L.semU L.chkSem L.next L.call L.callV L.join L.alts L.loop L.begin L.endRound L.range
variable {w0 w:World}{E:List Seg}
def eS(x:B0):List Value:=[.string x]
def GA:Enc eS 1:=⟨λ_=>rfl,λ_=>rfl,by decide⟩
def elS:El Pr Yh Za 1 16 (.string s_):=Kz (by kernel_rfl) (by kernel_rfl) rfl (by decide)
abbrev bl(x:B0):List UInt8:=x.data.toList
def ble(a b:B0):Bool:=decide (bl a≤bl b)
def VE(a b c:B0)(h1:ble a b=true)(h2:ble b c=true):ble a c=true:=by
 unfold ble at *;simp only[decide_eq_true_eq]at *;exact List.le_trans h1 h2
def VF(a b:B0):(ble a b||ble b a)=true:=by
 unfold ble;simp only[Bool.or_eq_true,decide_eq_true_eq];exact List.le_total ..
def gN{a b:B0}(h1:ble a b=true)(h2:ble b a=true):a=b:=by
 unfold ble at *;simp only[decide_eq_true_eq]at *;exact oO (List.le_antisymm h1 h2)
def Ou(x:B0):List B0→List B0
 | []=>[x]
 | y::l=>if ble x y=true then x::y::l else y::Ou x l
def yz:List B0→List B0
 | []=>[]
 | x::l=>Ou x (yz l)
def ur(x:B0):∀l:List B0,(Ou x l).Perm (x::l)
 | []=>.refl _
 | y::l=>by
  unfold Ou;split
  ·exact .refl _
  ·exact((ur x l).cons y).trans (.swap x y l)
def JQ:∀l:List B0,(yz l).Perm l
 | []=>.refl _
 | x::l=>(ur x (yz l)).trans ((JQ l).cons x)
def oQ(x:B0):∀{l:List B0},l.Pairwise (λa b=>ble a b=true)→(Ou x l).Pairwise λa b=>ble a b=true
 | [],_=>List.pairwise_singleton ..
 | y::l,h=>by
  unfold Ou;split
  ·rename_i hxy;refine List.Pairwise.cons (λz hz=>?_) h;rcases List.mem_cons.1 hz with rfl | hz
   ·exact hxy
   ·exact VE _ _ _ hxy ((List.pairwise_cons.1 h).1 z hz)
  ·rename_i hxy;have hyx:ble y x=true:=by
    have:=VF x y;simp only[Bool.or_eq_true]at this;rcases this with h | h
    ·exact absurd h hxy
    ·exact h
   refine List.Pairwise.cons (λz hz=>?_) (oQ x (List.pairwise_cons.1 h).2);rcases List.mem_cons.1 ((ur x l).mem_iff.1 hz)with rfl | hz
   ·exact hyx
   ·exact(List.pairwise_cons.1 h).1 z hz
def UQ:∀l:List B0,(yz l).Pairwise λa b=>ble a b=true
 | []=>.nil
 | x::l=>oQ x (UQ l)
def kQ{l m:List B0}(h:l.Perm m)(hm:m.Pairwise λa b=>ble a b=true):yz l=m:=
 List.Perm.eq_of_pairwise (λa b _ _ h1 h2=>gN h1 h2) (UQ l) hm ((JQ l).trans h)
def OY{l m:List B0}(h:l.Perm m):yz l=yz m:=kQ (h.trans (JQ m).symm) (UQ m)
def Vg(l:List B0):(yz l).length=l.length:=(JQ l).length_eq
def Ot{l:List B0}{x:B0}:x∈yz l↔x∈l:=(JQ l).mem_iff
def eL(x:List UInt8):List Value:=[Go.Proofs.encStr x]
def mg:Enc eL 1:=⟨λ_=>rfl,λ_=>rfl,by decide⟩
def GY(l:List B0):fl eS l=fl eL (l.map bl):=by
 induction l with
 | nil=>rfl
 | cons x l ih=>
  simp only[fl,List.flatMap_cons,List.map_cons]at *
  rw[ih];rfl
def OZ(l:List B0):(yz l).map bl=(l.map bl).mergeSort λx y=>decide (x≤y):=by
 have e:l.mergeSort ble=yz l:=by
  refine(kQ (List.mergeSort_perm l ble).symm ?_).symm;exact List.pairwise_mergeSort VE VF l
 rw[←e];exact List.map_mergeSort λa _ b _=>rfl
def GQ(h:St w0 E w)(i:Nat){s:Seg}(hi:nth E i=some s){v:Sl}{l:List B0}(hr:Rw eS Za 1 v l s)(hn:l.length<1000000000){k:Unit→PT}(hk:∀s' w',Rw eS Za 1 v (yz l) s'→St w0 (ze E i s') w'→k () w') :
  L.call Pr Yy [.slice v.a v.len v.cap] (.tup []) k w:=by
 have hr:Rw eL Za 1 v (l.map bl) s:=by unfold Rw at *;rwa [←GY]
 refine oP (encv:=Go.Proofs.encStr) (λ_=>rfl) mg ((yz l).map bl) (by rw[List.length_map,List.length_map,Vg]) (λg off cap w h1 h2=>?_) (λp cap w=>Any.slices_Sort_string_none Tryz.lays190 p cap w) h i hi hr (λs' w' hr' h=>hk s' w' (by unfold Rw at *;rwa [GY]) h);have:=Any.slices_Sort_string Tryz.lays190 g off cap (l.map bl) w h1 h2 (by rw[List.length_map];omega);rw[OZ];exact this
def kD{a1 a2:Seg}{F:List Seg}{fv:FV}{keys:List B0}(hY:KG Pr w0 [a1,a2] fv.val keys Value.string)(h:St w0 (a1::a2::F) w)(hn:keys.length<1000000000){k:Sl→PT}
  (hk:∀seen v s w',seen.Perm keys→Rw eS Za 1 v seen s→St w0 (s::a1::a2::F) w'→k v w'):L.call Pr ZK [.slice none 0 0,fv.val] (.one (.one .slice)) k w:=by
 refine zl (jT ⟨none,0,0⟩ fv) ?_;unfold yI;refine nw h ?_;clear h;intro b1 w h;have h:=ZC (ZC h);have h:St w0 ([a1,a2]++[Cl b1 Yh [SlV ⟨none,0,0⟩]]::[]::F) w:=h.eq (by simp);refine Vj (l:=.str) (arg:=λx=>x) (A:=[a1,a2]) (keys:=keys) hY h (λseen G=>∃v s,G = [Cl b1 Yh [SlV v]]::s::F∧Rw eS Za 1 v seen s) (λj G=>False) ⟨_,_,rfl,Rw.nil⟩ ?_ ?_ ?_
 ·rintro seen x G X w lv lp d R hm ⟨v,s,rfl,hr⟩ h hN hE;have h:St w0 ([Rec lv lp .busy none]::[DfM d]::a1::a2::[Cl b1 Yh [SlV v]]::s::(F++X)) w:=h
  (refine ldC h ?_)
  refine nw h ?_;clear h;intro b8 w h;refine Rw.app GA elS h 5 rfl hr x rfl (by omega) (by omega) λv' s' w hr' h=>?_
  (dsimp only[ze,List.cons_append,List.nil_append]at h;refine stC h ?_;clear h;intro w h;dsimp only[Zq,ze]at h)
  exact hN _ w ⟨v',s',rfl,hr'⟩ h
 ·rintro d seen G w hp ⟨v,s,rfl,hr⟩ h;have h:St w0 ([DfM d]::a1::a2::[Cl b1 Yh [SlV v]]::s::F) w:=h;refine qP ?_
  (refine ldC h ?_)
  (first | refine ul h ?_ | refine uk h ?_ | refine uj h ?_ | refine ui h ?_ | refine uh h ?_ | refine ug h ?_ | refine uf h ?_ | refine ue h ?_ | refine ud h ?_ | refine uc h ?_ | refine xN h ?_ | refine xM h ?_);clear h;intro w h
  refine⟨v,rfl,hk seen v s w hp hr ?_⟩;have h:=yF (yx (yx h));have h:=Us h;exact h
 ·rintro d j G w hf;exact hf.elim
def Vc{a1 a2:Seg}{F:List Seg}{fv:FV}{keys:List B0}(hY:KG Pr w0 [a1,a2] fv.val keys Value.string)(h:St w0 (a1::a2::F) w)(hn:keys.length<1000000000){k:Sl→PT}
  (hk:∀v s w',Rw eS Za 1 v (yz keys) s→St w0 (s::a2::F) w'→k v w'):L.call Pr yc [fv.val] (.one (.one .slice)) k w:=by
 refine zl (Xu fv) ?_;unfold jP;refine zl (Xh fv) ?_;unfold jA;refine kD hY h hn λseen v s w hp hr h=>⟨v,rfl,?_⟩;refine GQ h 0 rfl hr (by rw[hp.length_eq];exact hn) λs w hr h=>?_;rw[OY hp]at hr;exact⟨v,rfl,hk v s w hr (Ut h)⟩
def unS:Value→B0
 | .string x=>x
 | _=>s_
def XT(rev:B0)(l:List Int)(all:Xv):Xv:=l.foldl (λa q=>Zc a q (rev,4)) all
def Xy(l:List Int):List Zw:=l.map λq=>(q,4,0,JL,())
def Qb{rev:B0}:∀{l:List Int}{all:Xv},(∀q∈l,(zH all q).isSome=true)→(XT rev l all).map (·.1)=all.map (·.1)
 | [],_,_=>rfl
 | q::l,all,h=>by
  obtain⟨v,hv⟩:=Option.isSome_iff_exists.1 (h q (by simp));have e:=xO (u:=(rev,(4:Int))) hv;refine(Qb (l:=l) (all:=Zc all q (rev,4)) λq2 h2=>?_).trans e;rw[xP];split
  ·rfl
  ·exact h q2 (by simp[h2])
def Ov{A B:Xv}(h:A.map (·.1)=B.map (·.1))(q:Int):(zH A q).isSome=(zH B q).isSome:=by
 cases ha:zH A q with
 | none=>
  have:=yC.1 ha;rw[h]at this;rw[yC.2 this]
 | some v=>
  cases hb:zH B q with
  | none=>
   have:=yC.1 hb;rw[←h]at this;rw[yC.2 this]at ha;cases ha
  | some u=>rfl
def tick1(now:Int)(k:B0)(G:zM):zM:={ G with all:=XT k (yM (zr G.lines k) now) G.all,lines:=Zc G.lines k (qO (zr G.lines k) now) }
def UM(now:Int):List B0→zM→List Zw→zM×List Zw
 | [],G,out=>(G,out)
 | k::ks,G,out=>UM now ks (tick1 now k G) (out++Xy (yM (zr G.lines k) now))
def QQ(G:zM)(now:Int):zM×List Zw:=UM now (yz (G.lines.map (·.1))) G []
def GWk(G:zM):Prop:=∀x∈G.lines,∀y∈x.2,(zH G.all y.1).isSome=true
def kN{now:Int}:∀{ks:List B0}{G:zM}{out:List Zw},out.length≤(UM now ks G out).2.length
 | [],_,_=>Nat.le_refl _
 | k::ks,G,out=>by
  have:=kN (now:=now) (ks:=ks) (G:=tick1 now k G) (out:=out++Xy (yM (zr G.lines k) now));simp only[UM,List.length_append]at this ⊢;omega
def GWk.line{G:zM}(h:GWk G)(k:B0):∀y∈zr G.lines k,(zH G.all y.1).isSome=true:=by
 intro y hy;unfold zr at hy
 cases hm:zH G.lines k with
 | none=>rw[hm]at hy;simp at hy
 | some l=>rw[hm]at hy;exact h _ (QK hm) y hy
def GWk.late{G:zM}(h:GWk G)(k:B0)(now:Int):∀q∈yM (zr G.lines k) now,(zH G.all q).isSome=true:=by
 intro q hq;obtain⟨y,hy,rfl⟩:=List.mem_map.1 hq;exact h.line k y (List.mem_filter.1 hy).1
def GWk.tick1{G:zM}(h:GWk G)(k:B0)(now:Int):GWk (YtofigcbhafkikaaGreat.tick1 now k G):=by
 intro x hx y hy;have e:=Qb (rev:=k) (h.late k now);show(zH (XT k (yM (zr G.lines k) now) G.all) y.1).isSome=true;rw[Ov e];rcases QJ hx with rfl | hx
 ·exact h.line k y (List.mem_filter.1 hy).1
 ·exact h x hx y hy
def zM.Ok.tick1{G:zM}(ok:G.Ok)(h:GWk G){k:B0}(hk:(zH G.lines k).isSome=true)(now:Int):(YtofigcbhafkikaaGreat.tick1 now k G).Ok:=by
 have e:=Qb (rev:=k) (h.late k now);have e2:(XT k (yM (zr G.lines k) now) G.all).length=G.all.length:=by
  have:=congrArg List.length e;simpa using this
 obtain⟨v,hv⟩:=Option.isSome_iff_exists.1 hk;refine⟨by show(XT k _ _).length<_;rw[e2];exact ok.few,ok.lo,ok.hi,λx hx=>?_,xD ok.nd,by show((XT k _ _).map _).Nodup;rw[e];exact ok.nda,?_⟩
 ·rcases QJ hx with rfl | hx
  ·have:=YD ok k;have:=Vn (zr G.lines k) now;simp only;show _≤G.room;omega
  ·exact ok.ln x hx
 ·show(Zc G.lines k _).length<_;rw[ve hv];exact ok.fl
abbrev KPt:=List (B0×Option Addr)
def GD(m:KPt)(l:List B0)(i:Nat):TT [.one .str,.one .ptr]:=match l[i]? with | some k=>(k,(zH m k).getD none,()) | none=>(s_,none,())
def Og{m:KPt}{l:List B0}{i:Nat}{k:B0}(h:l[i]? = some k):GD m l i=(k,(zH m k).getD none,()):=by unfold GD;rw[h]
def GC{m:KPt}{l:List B0}{i:Nat}{k:B0}(h:l[i]? = some k):TV _ (GD m l i) = [.string k,.pointer ((zH m k).getD none)]:=by rw[Og h];rfl
def fY(h:St w0 E w)(i:Nat){s:Seg}(hi:nth E i=some s){r:Nat}{m:KPt}(hm:MpS Value.string Value.pointer r m s)(hn:m.length<1000000000){k:Sl→PT}
  (hk:∀v s' w',Rw eS Za 1 v (yz (m.map (·.1))) s'→St w0 (s'::E) w'→k v w') :
  L.call Pr zO [.map (some r)] (.one (.one .func)) (λx5=>L.call Pr yc [.func x5.fn x5.fs x5.cs] (.one (.one .slice)) k) w:=by
 refine zl (yy _) ?_;unfold Zo;have h:=h.front i hi;refine nw h ?_;clear h;intro c w h;refine⟨⟨.func zm,#[],#[.pointer (some ⟨c,0,none⟩)]⟩,rfl,?_⟩;have hY:KG Pr w0 [[Cl c zA [.map (some r)]],s] (.func (.func zm) #[] #[.pointer (some ⟨c,0,none⟩)]) (m.map (·.1)) Value.string:=by
  intro yv R J Jd F w h hJ step fin fin2;refine⟨yk,yl yv ⟨c,0,none⟩ ?_⟩;unfold Zh;exact kd (kv:=Value.string) (vv:=Value.pointer) unS (λ_=>rfl) Xl (lk:=.str) (ev:=.one .ptr) (λx=>x) (λ_=>rfl) (λx:Option Addr=>x) (λ_=>rfl) J Jd hm h hJ (λseen k F X w hl hJ h=>step seen k F X w (by simpa using hl) hJ h) fin fin2
 refine Vc (fv:=⟨.func zm,#[],#[.pointer (some ⟨c,0,none⟩)]⟩) hY h (by simpa using hn) λv s' w hr h=>hk v s' w hr ?_;have h:=yx h;exact St.again (i+1) (E:=s'::E) hi h
def fN{c b bf rA rL cc:Nat}{room pat:Int}{m:KPt}{sL:Seg}(hL:MpS Value.string Value.pointer rL m sL)(hn:m.length<1000000000) :
  fL Pr w0 [[Cl c zy [.pointer (some ⟨b,2,none⟩)]],gtB b bf rA rL cc room pat,sL]
   (.func (.func Zd) #[] #[.pointer (some ⟨c,0,none⟩)]) (yz (m.map (·.1))).length λi=>TV _ (GD m (yz (m.map (·.1))) i):=by
 intro yv R J Jd G w h hJ step fin fin2;refine⟨Jr,Js yv ⟨c,0,none⟩ ?_⟩;unfold Ys;have h:St w0 ([Cl c zy [.pointer (some ⟨b,2,none⟩)]]::gtB b bf rA rL cc room pat::sL::G) w:=h
 (refine ldC h ?_;refine nn ?_;refine ldC h ?_)
 refine fY h 2 rfl hL hn λv s w hrow h=>?_;have hlen:=Rw.len GA hrow;have hl:(yz (m.map (·.1))).length<1000000000:=by rw[Vg,List.length_map];exact hn
 generalize yz (m.map (·.1))=l at *
 refine Zj (λq y w=>∃(j:Nat)(G:List Seg),@Eq Int y.1 j∧q+j=l.length∧J j G∧
  St w0 (s::[Cl c zy [.pointer (some ⟨b,2,none⟩)]]::gtB b bf rA rL cc room pat::sL::G) w) l.length ⟨0,G,rfl,rfl,hJ,h⟩ ?_
 clear hJ;clear h;rintro q ⟨y,⟨⟩⟩ w ⟨j,G,hy,hq,hJ,h⟩ again hag;simp only at hy;subst hy;refine it (λhb=>?_) (λhb=>?_)<;>(try simp only[zB]at hb)
 ·have hj:j<l.length:=by omega
  have hx:l[j]? = some l[j]:=List.getElem?_eq_getElem hj;refine Rw.ix GA hrow (by omega) (by simpa using hj) λa ha=>?_;refine Rw.ld0 GA h 0 rfl hrow ha (x:=l[j]) (by simp[hj]) rfl rfl ?_
  (refine ldC h ?_;refine nn ?_;refine ldC h ?_)
  refine MpS.get OD Xl zln (λx:Option Addr=>x) (λ_=>rfl) h 3 rfl hL ?_;have step:=step _ G [s] w hj hJ (St.toEnd (X:=[s]) (A:=[_,_,_]) h);simp only[GC hx]at step;simp only[Option.map_id'];refine cv (jQ.mono step λu w' hu=>?_);rcases hu with ⟨rfl,G',h,hJ⟩ | ⟨rfl,hd⟩
  ·refine⟨true,rfl,itF rfl ?_⟩;refine hag (q-1) _ w' (by omega) ⟨j+1,G',?_,by omega,hJ,St.ofEnd (X:=[s]) (A:=[_,_,_]) h⟩;show Wi _=_;rw[wr (by omega) (by omega)];omega
  ·exact⟨false,rfl,itT rfl (fin2 w' hd)⟩
 ·have e:j=l.length:=by omega
  subst e;exact fin G w hJ (ZU h)
def oh{rev:B0}{l:List Int}{j:Nat}{q:Int}{all:Xv}(h:l[j]? = some q):XT rev (l.take (j+1)) all=Zc (XT rev (l.take j) all) q (rev,4):=by
 unfold XT;rw[List.take_add_one,h,Option.toList_some,List.foldl_append];rfl
def oi{l:List Int}{j:Nat}{q:Int}(h:l[j]? = some q):Xy (l.take (j+1))=Xy (l.take j)++[(q,4,0,JL,())]:=by
 unfold Xy;rw[List.take_add_one,h,Option.toList_some,List.map_append];rfl
def uF(l:List Int):(Xy l).length=l.length:=List.length_map ..
def Ol{sg:Seg}(h:St w0 (sg::E) w){b bf:Nat}{G:zM}(hg:GtS b bf G sg)(hw:GWk G){now:Int}(ho:(QQ G now).2.length<90000000){k:Sl→PT}
  (hk:∀v sv sg' w',Rw Zw.cells zf 4 v (QQ G now).2 sv→GtS b bf (QQ G now).1 sg'→St w0 (sv::sg'::E) w'→k v w') :
  L.call Pr YP [pO b,I now] (.one (.one .slice)) k w:=by
 obtain⟨ok,rA,rL,c,sA,sL,Q,hr,rfl⟩:=hg;refine zl (uS _ _) ?_;unfold xY;have h:=h.split5;refine nw h ?_;clear h;intro b1 w h;refine nw h ?_;clear h;intro b2 w h;refine nw h ?_;clear h;intro b3 w h
 (refine ldC h ?_;refine nn ?_)
 refine zl (xp _) ?_;unfold YH;refine nw h ?_;clear h;intro cc w h;refine⟨⟨.func Zd,#[],#[.pointer (some ⟨cc,0,none⟩)]⟩,rfl,?_⟩;have h:=yF (xw (Yv (yx h)));have h:=h.nil;have h:=yu (yu (yu (yu h)));have h:St w0 ([[Cl cc zy [.pointer (some ⟨b,2,none⟩)]],gtB b bf rA rL c G.room G.pat,sL]++([Cl b3 zn [SlV ⟨none,0,0⟩]]::[]::[Cl b2 zk [I now]]::[Cl b1 yf [.pointer (some ⟨b,0,none⟩)]]::[Cl c zk [I G.room]]::sA::(Q.map LnE.sg).flatten::E)) w:=h;have enm:(Q.map LnE.kp).map (·.1)=G.lines.map (·.1):=by rw[hr.abs];simp[List.map_map,Function.comp_def]
 have hn:(Q.map LnE.kp).length<1000000000:=by
  have:=congrArg List.length enm;have:=ok.fl;simp only[List.length_map]at *;omega
 have hkeys:yz ((Q.map LnE.kp).map (·.1))=yz (G.lines.map (·.1)):=by rw[enm]
 have hkm:∀k∈yz ((Q.map LnE.kp).map (·.1)),k∈G.lines.map (·.1):=λk hk=>by rw[hkeys]at hk;exact Ot.1 hk
 have hgt:UM now (yz ((Q.map LnE.kp).map (·.1))) G []=QQ G now:=by rw[hkeys];rfl
 refine qq (fN (c:=cc) (b:=b) (bf:=bf) (rA:=rA) (cc:=c) (room:=G.room) (pat:=G.pat) hr.lns hn) h
  (λm F=>∃(v:Sl)(sv sA':Seg)(Q':List LnE)(G':zM)(out:List Zw),F = [Cl b3 zn [SlV v]]::sv::[Cl b2 zk [I now]]::[Cl b1 yf [.pointer (some ⟨b,0,none⟩)]]::[Cl c zk [I G.room]]::sA'::(Q'.map LnE.sg).flatten::E∧
   Q'.map LnE.kp=Q.map LnE.kp∧(∀x∈Q',LnS x.b G.room x.l x.sg)∧G'.lines=Q'.map LnE.ka∧G'.Ok∧G'.room=G.room∧G'.pat=G.pat∧GWk G'∧MpS KI XM rA G'.all sA'∧Rw Zw.cells zf 4 v out sv∧
   UM now ((yz ((Q.map LnE.kp).map (·.1))).drop m) G' out=QQ G now)
  (λj G=>False) ⟨_,_,sA,Q,G,[],rfl,rfl,hr.each,hr.abs,ok,rfl,rfl,hw,hr.all,Rw.nil,hgt⟩ ?_ ?_ ?_
 ·rintro m F X w lv lp d R hm ⟨v,sv,sA',Q',G',out,rfl,hkp,hQ',hln,ok',er,ep,hw',hA',hv,hT⟩ h hN hE;have hx:(yz ((Q.map LnE.kp).map (·.1)))[m]? = some (yz ((Q.map LnE.kp).map (·.1)))[m]:=List.getElem?_eq_getElem hm;have hdr:=List.drop_eq_getElem_cons hm;have hmem:=hkm _ (List.mem_of_getElem? hx);generalize (yz ((Q.map LnE.kp).map (·.1)))[m]=key at hx hdr hmem;rw[Og hx];rw[hdr]at hT;have enm':G'.lines.map (·.1)=G.lines.map (·.1):=by
   rw[hln,←enm,←hkp];simp[List.map_map,Function.comp_def]
  rw[←enm',hln]at hmem;have e1:=QL (Q:=Q') (rev:=key);have e2:=QM (Q:=Q') (rev:=key)
  cases hf:Uj LnE.k Q' key with
  | none=>rw[hf]at e2;exact absurd hmem (yC.1 e2)
  | some x=>
   rw[hf]at e1 e2;simp only[Option.map_some]at e1 e2;rw[hkp]at e1;rw[e1];obtain⟨A,B,e,hxk⟩:=vj hf;subst e;rw[←hln]at e2;have hlo:zr G'.lines key=x.l:=by unfold zr;rw[e2];rfl
   have hsm:(zH G'.lines key).isSome=true:=by rw[e2];rfl
   have hll:=YD ok' key;rw[hlo]at hll;have hhi:=ok'.hi;have h:St w0 ([Rec lv lp .busy none]::[DfM d]::[Cl cc zy [.pointer (some ⟨b,2,none⟩)]]::gtB b bf rA rL c G.room G.pat::sL::[Cl b3 zn [SlV v]]::sv::[Cl b2 zk [I now]]::[Cl b1 yf [.pointer (some ⟨b,0,none⟩)]]::[Cl c zk [I G.room]]::sA'::((A++x::B).map LnE.sg).flatten::(E++X)) w:=h
   (refine ldC h ?_)
   have h:=vz (Yv (oX (Yv (Yv (FB h)))));have h:=h.pick;refine fX h 0 rfl (hQ' x (by simp)) (by omega) λv13 s' s2 w hl' hr2 h=>?_;have h:St w0 (s2::s'::((A++B).map LnE.sg).flatten::gtB b bf rA rL c G.room G.pat::sA'::[Cl b3 zn [SlV v]]::sv::[Cl b1 yf [.pointer (some ⟨b,0,none⟩)]]::[Rec lv lp .busy none]::[DfM d]::[Cl cc zy [.pointer (some ⟨b,2,none⟩)]]::sL::[Cl b2 zk [I now]]::[Cl c zk [I G.room]]::(E++X)) w:=h;have h:=Yv (Yv (Yv (Yv (Yv h))));obtain⟨RR,hRR⟩:∃RR,RR=s'::((A++B).map LnE.sg).flatten::[Rec lv lp .busy none]::[DfM d]::[Cl cc zy [.pointer (some ⟨b,2,none⟩)]]::sL::[Cl b2 zk [I now]]::[Cl c zk [I G.room]]::(E++X):=⟨_,rfl⟩;rw[←hRR]at h;have hge:=kN (now:=now) (ks:=(yz ((Q.map LnE.kp).map (·.1))).drop (m+1)) (G:=tick1 now key G') (out:=out++Xy (yM (zr G'.lines key) now));have hT:UM now ((yz ((Q.map LnE.kp).map (·.1))).drop (m+1)) (tick1 now key G') (out++Xy (yM (zr G'.lines key) now))=QQ G now:=hT;rw[hT,List.length_append,uF,hlo]at hge;have hll2:=Rw.len yO hr2
   refine Zj (λq y w=>∃(j:Nat)(v:Sl)(sv sA':Seg),y=((j:Int),())∧q+j=(yM x.l now).length∧MpS KI XM rA (XT key ((yM x.l now).take j) G'.all) sA'∧Rw Zw.cells zf 4 v (out++Xy ((yM x.l now).take j)) sv∧
    St w0 (gtB b bf rA rL c G.room G.pat::sA'::[Cl b3 zn [SlV v]]::sv::[Cl b1 yf [.pointer (some ⟨b,0,none⟩)]]::s2::RR) w) (yM x.l now).length
    ⟨0,v,sv,sA',rfl,rfl,hA',by simpa [Xy]using hv,h⟩ ?_
   clear hA' hv;clear h;rintro q y w ⟨j,v,sv,sA',rfl,hq,hA',hv,h⟩ again hag
   (try dsimp only)
   refine it (λhb=>?_) (λhb=>?_)<;>(try simp only[zB]at hb)
   ·have hj:j<(yM x.l now).length:=by omega
    have hxj:(yM x.l now)[j]? = some (yM x.l now)[j]:=List.getElem?_eq_getElem hj;generalize (yM x.l now)[j]=id at hxj;refine rd1 (Rw.rd yO h 5 rfl hr2) yO (lf:=.int .i64) (λx=>x) (λx=>⟨_,rfl,rfl⟩) (by omega) hb λy' hy'=>?_;simp only[Int.toNat_natCast,hxj,Option.some.injEq]at hy';subst hy'
    (refine dr h ?_;clear h;intro w h;refine ldC h ?_;refine ldC h ?_)
    refine vN h λw h=>?_
    (refine ckC h ?_;refine ckC h ?_)
    refine uO (f:=(0,4,0,JL,())) hA' h λsA2 w hA2 h=>?_
    (refine ckC h ?_)
    refine nw h ?_;clear h;intro b22 w h
    (refine ckC h ?_)
    refine Rw.app (l:=out++Xy ((yM x.l now).take j)) ja elF h 3 rfl hv (id,4,0,JL,()) rfl (by rw[List.length_append,uF,List.length_take];omega) (by rw[List.length_append,uF,List.length_take];omega) λv' sv' w hv' h=>?_
    (dsimp only[ze,List.cons_append,List.nil_append]at h;refine stC h ?_;clear h;intro w h;dsimp only[Zq,ze]at h)
    rw[wr (by omega) (by omega)];refine hag (q-1) _ w (by omega) ⟨j+1,v',sv',sA2,by simp,by omega,?_,?_,h⟩
    ·rw[oh hxj];exact hA2
    ·rw[oi hxj,←List.append_assoc];exact hv'
   ·have e:(yM x.l now).take j=yM x.l now:=List.take_of_length_le (by omega);rw[e]at hA' hv;subst hRR;have h:=ow h;have h:=yK (yK h);have h:St w0 (LnE.sg ⟨x.k,x.b,qO x.l now,s'⟩::((A++B).map LnE.sg).flatten::gtB b bf rA rL c G.room G.pat::sA'::[Cl b3 zn [SlV v]]::sv::[Cl b1 yf [.pointer (some ⟨b,0,none⟩)]]::[Rec lv lp .busy none]::[DfM d]::[Cl cc zy [.pointer (some ⟨b,2,none⟩)]]::sL::[Cl b2 zk [I now]]::[Cl c zk [I G.room]]::(E++X)) w:=h;have h:=h.place;have h:=vz (vz (vz (FB (vz (Yv (Yv (vz (yK (vz (ZC h))))))))));have hnd:(((A++x::B).map LnE.ka).map (·.1)).Nodup:=by rw[←hln];exact ok'.nd
    refine hN _ w ⟨v,sv,sA',A++(⟨x.k,x.b,qO x.l now,s'⟩:LnE)::B,tick1 now key G',out++Xy (yM (zr G'.lines key) now),rfl,?_,?_,?_,ok'.tick1 hw' hsm now,er,ep,hw'.tick1 key now,?_,?_,hT⟩ h
    ·rw[←hkp];simp
    ·intro y hy;rcases List.mem_append.1 hy with hy | hy
     ·exact hQ' y (by simp[hy])
     ·rcases List.mem_cons.1 hy with rfl | hy
      ·exact hl'
      ·exact hQ' y (by simp[hy])
    ·show Zc G'.lines key (qO (zr G'.lines key) now)=_;rw[hlo];exact(uC (ls:=G'.lines) (by rw[←hln,ux e2]) hxk hnd).symm
    ·show MpS KI XM rA (XT key (yM (zr G'.lines key) now) G'.all) sA';rw[hlo];exact hA'
    ·rw[hlo];exact hv
 ·rintro d F w ⟨v,sv,sA',Q',G',out,rfl,hkp,hQ',hln,ok',er,ep,hw',hA',hv,hT⟩ h;have h:St w0 ([DfM d]::[Cl cc zy [.pointer (some ⟨b,2,none⟩)]]::gtB b bf rA rL c G.room G.pat::sL::[Cl b3 zn [SlV v]]::sv::[Cl b2 zk [I now]]::[Cl b1 yf [.pointer (some ⟨b,0,none⟩)]]::[Cl c zk [I G.room]]::sA'::(Q'.map LnE.sg).flatten::E) w:=h;rw[List.drop_of_length_le (Nat.le_refl _)]at hT;have hT:(G',out)=QQ G now:=hT;rw[←hT]at hk ho;refine qP ?_
  (refine ldC h ?_)
  refine vO h (Rw.rd ja h 5 rfl hv) (by simp only at ho;omega) (λh0=>Rw.nil_of ja hv h0) λv' sv' w hv' h=>?_
  (first | refine ul h ?_ | refine uk h ?_ | refine uj h ?_ | refine ui h ?_ | refine uh h ?_ | refine ug h ?_ | refine uf h ?_ | refine ue h ?_ | refine ud h ?_ | refine uc h ?_ | refine xN h ?_ | refine xM h ?_);clear h;intro w h
  refine⟨v',rfl,?_⟩;have h:=yK (oX (oX (yu (oX h))));rw[←er,←ep]at h;have h:=ov (ov (ov (ov (ov h))));obtain⟨sg,hg,h⟩:=Yp ok' (Q:=Q') ⟨hA',by rw[hkp];exact hr.lns,λx hx=>by rw[er];exact hQ' x hx,hln⟩ h;have h:=yx h;exact hk v' sv' sg w hv' hg h
 ·rintro d j F w hf;exact hf.elim
def OT:Pr.underlying VG=some (.slice QW):=by kernel_rfl
def Gf:Pr.underlying QW=some (.int .u8):=by kernel_rfl
def dgK(n:Int):B0:=⟨#[UInt8.ofNat (48+n.toNat)]⟩
def byK:∀n:Fin 10,IntKind.wrap .u8 (Wi (48+(n:Int)))=((UInt8.ofNat (48+n.val)).toNat:Int):=by decide
def gZ(h:St w0 E w){n:Int}(h0:0≤n)(h1:n<10){k:B0→PT}(hk:∀w',St w0 E w'→k (dgK n) w'):L.call Pr Zk [I n] (.one (.one .str)) k w:=by
 refine zl (ql n) ?_;unfold Jl;refine itF (decide_eq_false (by omega)) (itF (decide_eq_false (by omega)) ?_);have e:=byK ⟨n.toNat,by omega⟩;simp only[Int.toNat_of_nonneg h0]at e;rw[e];refine nw h ?_;clear h;intro b w h;have hr:Rw eU QW 1 ⟨some ⟨b,0,none⟩,1,1⟩ [UInt8.ofNat (48+n.toNat)] [Cl b QW [.int .u8 ((UInt8.ofNat (48+n.toNat)).toNat:Int)]]:=Rw.lit b _ fF rfl rfl (by simp[maxLen]);exact mj (v:=⟨some ⟨b,0,none⟩,1,1⟩) OT Gf kK (Rw.rd fF h 0 rfl hr) ⟨_,rfl,hk w (ZU h)⟩
def stK(s:B0)(f:Zw):B0:=((((((s++dgK f.1)++s__)++dgK f.2.1)++s__)++dgK f.2.2.1)++s__)++f.2.2.2.1++XP
def Ft(l:List Zw):B0:=l.foldl stK s_
structure ShK(f:Zw):Prop where
 i0:0≤f.1
 i1:f.1<10
 w0:0≤f.2.1
 w1:f.2.1<10
 p0:0≤f.2.2.1
 p1:f.2.2.1<10
 y:f.2.2.2.1.size≤100
def OX(s:B0){f:Zw}(o:ShK f):(stK s f).size≤s.size+107:=by
 have:=o.y;have e1:(s__:B0).size=1:=rfl;have e2:(XP:B0).size=1:=rfl;have e3:∀n,(dgK n).size=1:=λ_=>rfl;unfold stK;simp only[ByteArray.size_append,e1,e2,e3];omega
def YU(h:St w0 E w)(i:Nat){v:Sl}{l:List Zw}{s:Seg}(hi:nth E i=some s)(r:Rw Zw.cells zf 4 v l s)(hl:l.length≤100)(hd:∀f∈l,ShK f){k:B0→PT}(hk:∀w',St w0 E w'→k (Ft l) w') :
  L.call Pr zx [SlV v] (.one (.one .str)) k w:=by
 refine zl (Qs v) ?_;unfold xn;have hlen:=Rw.len ja r;refine Zj (λq y w=>∃m:Nat,y=((l.take m).foldl stK s_,(m:Int),())∧q+m=l.length∧((l.take m).foldl stK s_).size≤m*107∧St w0 E w) l.length ⟨0,rfl,rfl,Nat.le_refl _,h⟩ ?_;clear h;(try clear w);rintro q y w ⟨m,rfl,hq,hsz,h⟩ again hag;dsimp only;refine it (λhc=>?_) (λhc=>?_)<;>(try simp only[zB]at hc)
 ·have hm:m<l.length:=by omega
  have hx:l[m]? = some l[m]:=List.getElem?_eq_getElem hm;have ho:=hd l[m] (List.getElem_mem hm);have hs2:=OX ((l.take m).foldl stK s_) ho;have htk:(l.take (m+1)).foldl stK s_=stK ((l.take m).foldl stK s_) l[m]:=by
   rw[List.take_add_one,hx,List.foldl_append];rfl
  generalize (l.take m).foldl stK s_=t at *
  generalize l[m]=f at hx ho htk hs2;have hY:=ho.y;have e1:(s__:B0).size=1:=rfl;have e2:(XP:B0).size=1:=rfl;have e3:∀n,(dgK n).size=1:=λ_=>rfl;refine dr h ?_;clear h;intro w h;refine Rw.ix ja r (n:=(m:Int)) (by omega) (by rw[Int.toNat_natCast];exact hm) λa3 h3=>?_;rw[Int.toNat_natCast]at h3;refine Rw.ld ja h i hi r h3 hx (f:=0) rfl rfl ?_;refine Rw.ix ja r (n:=(m:Int)) (by omega) (by rw[Int.toNat_natCast];exact hm) λa5 h5=>?_;rw[Int.toNat_natCast]at h5;refine Rw.ld ja h i hi r h5 hx (f:=1) rfl rfl ?_;refine Rw.ix ja r (n:=(m:Int)) (by omega) (by rw[Int.toNat_natCast];exact hm) λa7 h7=>?_;rw[Int.toNat_natCast]at h7;refine Rw.ld ja h i hi r h7 hx (f:=2) rfl rfl ?_;refine Rw.ix ja r (n:=(m:Int)) (by omega) (by rw[Int.toNat_natCast];exact hm) λa9 h9=>?_;rw[Int.toNat_natCast]at h9;refine Rw.ld ja h i hi r h9 hx (f:=3) rfl rfl ?_;refine gZ h ho.i0 ho.i1 λw h=>?_;refine Rw.ckf ja h i hi r h9 hx rfl (Rw.ckf ja h i hi r h7 hx rfl (Rw.ckf ja h i hi r h5 hx rfl ?_));refine gd (by simp only[ByteArray.size_append,e1,e2,e3,Zr];omega) (gd (by simp only[ByteArray.size_append,e1,e2,e3,Zr];omega) ?_);refine gZ h ho.w0 ho.w1 λw h=>?_;refine Rw.ckf ja h i hi r h9 hx rfl (Rw.ckf ja h i hi r h7 hx rfl ?_);refine gd (by simp only[ByteArray.size_append,e1,e2,e3,Zr];omega) (gd (by simp only[ByteArray.size_append,e1,e2,e3,Zr];omega) ?_);refine gZ h ho.p0 ho.p1 λw h=>?_;refine Rw.ckf ja h i hi r h9 hx rfl ?_;refine gd (by simp only[ByteArray.size_append,e1,e2,e3,Zr];omega) (gd (by simp only[ByteArray.size_append,e1,e2,e3,Zr];omega) ?_);refine gd (by simp only[ByteArray.size_append,e1,e2,e3,Zr];omega) (gd (by simp only[ByteArray.size_append,e1,e2,e3,Zr];omega) ?_);refine hag (q-1) _ w (by omega) ⟨m+1,?_,by omega,by rw[htk];omega,h⟩;rw[wr (by omega) (by omega),htk];have:(m:Int)+1=((m+1:Nat):Int):=by omega
  rw[this];rfl
 ·have e:m=l.length:=by omega
  subst e;rw[List.take_length];exact⟨_,rfl,hk w h⟩
abbrev kqA:B0:=xA
abbrev kqB:B0:=GU
abbrev kqN:B0:=Xn
abbrev kqO:B0:=JR
abbrev kqT:B0:=VO
abbrev kqL:B0:=JL
abbrev kqP:B0:=jX
def kF(st:Int)(l:List Int):zg:=⟨5,1,[⟨1,kqA,⟨st,1,l⟩⟩]⟩
def kG1:zM:=⟨[(1,s_,4)],[],2,3⟩
def kG2:zM:=⟨[(1,s_,4),(2,kqA,2)],[(kqA,[(2,3)])],2,3⟩
def kG3:zM:=⟨[(1,s_,4),(2,kqA,2),(3,kqA,2)],[(kqA,[(2,3),(3,4)])],2,3⟩
def kG4:zM:=⟨[(1,s_,4),(2,kqA,2),(3,kqA,2),(4,kqA,4)],[(kqA,[(2,3),(3,4)])],2,3⟩
def kG5:zM:=⟨[(1,s_,4),(2,kqA,1),(3,kqA,2),(4,kqA,4)],[(kqA,[(3,4)])],2,3⟩
def kG6:zM:=⟨[(1,s_,4),(2,kqA,1),(3,kqA,4),(4,kqA,4)],[(kqA,[])],2,3⟩
def kG7:zM:=⟨[(1,s_,4),(2,kqA,1),(3,kqA,4),(4,kqA,4),(5,kqA,2)],[(kqA,[(5,7)])],2,3⟩
def kG8:zM:=⟨[(1,s_,4),(2,kqA,3),(3,kqA,4),(4,kqA,4),(5,kqA,1)],[(kqA,[])],2,3⟩
def kG9:zM:=⟨[(1,s_,4),(2,kqA,3),(3,kqA,4),(4,kqA,4),(5,kqA,4)],[(kqA,[])],2,3⟩
def me:vy ⟨5,0,[]⟩ ⟨[],[],2,3⟩ 1 s_ 0=(⟨5,0,[]⟩,kG1,(1,4,0,kqN,())):=by kernel_rfl
def md:vy ⟨5,0,[]⟩ kG1 2 kqA 0=(⟨5,0,[]⟩,kG2,(2,2,0,s_,())):=by kernel_rfl
def mc:vy ⟨5,0,[]⟩ kG2 3 kqA 1=(⟨5,0,[]⟩,kG3,(3,2,0,s_,())):=by kernel_rfl
def mb:vy ⟨5,0,[]⟩ kG3 4 kqA 1=(⟨5,0,[]⟩,kG4,(4,4,0,kqO,())):=by kernel_rfl
def ma:vy ⟨5,0,[]⟩ kG4 2 kqB 1=(⟨5,0,[]⟩,kG4,(2,4,0,kqT,())):=by kernel_rfl
def g_s:Qd ⟨5,0,[]⟩ kqA 1 1=(kF 1 [],[]):=by kernel_rfl
def g_u:om (kF 1 []) 1=(kF 2 [],0):=by kernel_rfl
def FW:yV (kF 2 []) kG4 kqA=(kF 2 [2],kG5,[(2,1,1,s_,())]):=by kernel_rfl
def FA:QQ kG5 3=(kG5,[]):=by kernel_rfl
def Fz:QQ kG5 4=(kG6,[(3,4,0,kqL,())]):=by kernel_rfl
def FZ:vy (kF 2 [2]) kG6 5 kqA 4=(kF 2 [2],kG7,(5,2,0,s_,())):=by kernel_rfl
def FY:vx (kF 2 [2]) kG7 2=(kF 2 [5],kG8,[(2,3,0,s_,()),(5,1,1,s_,())],0):=by kernel_rfl
def FX:vx (kF 2 [5]) kG8 2=(kF 2 [5],kG8,[],6):=by kernel_rfl
def g_k:qQ (kF 2 [5]) 1=(⟨5,1,[]⟩,[5],0):=by kernel_rfl
def FT:Vv kG8 [5]=(kG9,[(5,4,0,kqP,())]):=by kernel_rfl
def FS:Vv kG9 [5]=(kG9,[]):=by kernel_rfl
def FU:yV ⟨5,1,[]⟩ kG9 kqA=(⟨5,1,[]⟩,kG9,[]):=by kernel_rfl
def g_w:vw kG9 kqA = []:=by kernel_rfl
def g_h:vu kG9.all kqA = []:=by kernel_rfl
def FQ:Kr kG9.all 4=true:=by kernel_rfl
def FP:Kr kG9.all 6=false:=by kernel_rfl
def OL(n:Int):Yw ⟨5,n,[]⟩:=⟨by show(5:Int)≤QF;decide,by show((0:Nat):Int)≤max 5 0;decide,λx hx=>nomatch hx⟩
def Gz{st:Int}{l:List Int}(h:l.length≤1000):Yw (kF st l):=⟨by show(5:Int)≤QF;decide,by show((1:Nat):Int)≤max 5 0;decide,λx hx=>by
 rcases List.mem_cons.1 hx with rfl | hx
 ·exact⟨h,by show(1:Int)≤1000;decide⟩
 ·cases hx⟩
def wk5:GWk kG5:=by
 intro x hx y hy;rcases List.mem_cons.1 hx with rfl | hx
 ·rcases List.mem_cons.1 hy with rfl | hy
  ·kernel_rfl
  ·cases hy
 ·cases hx
def shK{a b c:Int}{s:B0}(h:(0≤a∧a<10)∧(0≤b∧b<10)∧(0≤c∧c<10))(hs:s.size≤100):ShK ((a,b,c,s,()):Zw):=⟨h.1.1,h.1.2,h.2.1.1,h.2.1.2,h.2.2.1,h.2.2.2,hs⟩
def sh0:∀f∈([]:List Zw),ShK f:=λ_ h=>nomatch h
def sh1{l:List Zw}{f:Zw}(h:ShK f)(hl:∀f∈l,ShK f):∀x∈f::l,ShK x:=λx hx=>by
 rcases List.mem_cons.1 hx with rfl | hx
 ·exact h
 ·exact hl x hx
def kB(x:Bool):List Value:=[.bool x]
def ekB:Enc kB 1:=⟨λ_=>rfl,λ_=>rfl,by decide⟩
def mf{b:Nat}{c1 c2 c3 c4:Bool}(h:St w0 ([Cl b Yi [.bool c1,.bool c2,.bool c3,.bool c4]]::E) w)(e1:c1=true)(e2:c2=true)(e3:c3=true)(e4:c4=true):St w0 ([Cl b Yi (fl kB [true,true,true,true])]::E) w:=by
 subst e1 e2 e3 e4;exact h
def Fy{p0:Int}{b:Nat}(h:St w0 ([Cl b Yi (fl kB [true,true,true,true])]::E) w) :
  L.call Pr yE [I p0,I ((4:Nat):Int)] (.one (.one (.int .i64))) (λx=>L.idx (some ⟨b,0,none⟩) x 4 1 λa=>L.load (.one .bool) a λx w=>Value.bool x = .bool true∧St w0 [] w) w:=by
 refine oE (by decide) (by decide) ?_;obtain⟨i,hi⟩:∃i:Nat,p0%((4:Nat):Int)=(i:Int):=⟨(p0%((4:Nat):Int)).toNat,by omega⟩;have hi6:i<4:=by omega
 rw[hi];have r:Rw kB Yi 1 ⟨some ⟨b,0,none⟩,4,4⟩ [true,true,true,true] [Cl b Yi (fl kB [true,true,true,true])]:=Rw.lit b _ ekB rfl rfl (by decide);refine Rw.ix ekB r (n:=(i:Int)) (by omega) (by rw[Int.toNat_natCast];exact hi6) λa ha=>?_;rw[Int.toNat_natCast]at ha;have hx:([true,true,true,true]:List Bool)[i]? = some true:=by
  match i,hi6 with
  | 0,_=>rfl | 1,_=>rfl | 2,_=>rfl | 3,_=>rfl
 refine Rw.ld0 ekB h 0 rfl r ha hx rfl rfl ?_;exact⟨rfl,h.fin⟩
end Go.Proofs.YtofigcbhafkikaaGreat
