/- What is proved on the way to a statement of the seat, pressed (text AM). No conditions beyond those its theorems state. -/
import Derived.Test.YtdcdhcgmeahfmaaGreatDoorDAL
import Derived.LaidSub
import Derived.LaidMore
import Derived.MakeChecks
set_option linter.all false
namespace Go.Dm
open Go.ChangeShapes Go.WideShapes Go.RowKit
inductive Sh where
 | nil
 | lf (l:Lf) (r:Sh)
 | sl (e:Sh) (r:Sh)
@[reducible] def Sh.T:Sh→Type
 | .nil=>Unit
 | .lf l r=>l.T×r.T
 | .sl e r=>(Sl×List e.T)×r.T
def Sh.len:Sh→Nat
 | .nil=>0
 | .lf _ r=>r.len+1
 | .sl _ r=>r.len+1
def Sh.cells:(s:Sh)→s.T→List Value
 | .nil,_=>[]
 | .lf l r,x=>l.val x.1::r.cells x.2
 | .sl _ r,x=>.slice x.1.1.a x.1.1.len x.1.1.cap::r.cells x.2
theorem Sh.cells_len:∀(s:Sh)(x:s.T),(s.cells x).length=s.len
 | .nil,_=>rfl
 | .lf _ r,x=>by simp[Sh.cells,Sh.len,Sh.cells_len r]
 | .sl _ r,x=>by simp[Sh.cells,Sh.len,Sh.cells_len r]
theorem zs5:∀(l:Lf)(x:l.T),oneC (l.val x)=true
 | .int _,_ | .bool,_ | .str,_ | .ptr,_ | .slice,_ | .map,_ | .func,_ | .adr,_=>rfl
 | .iface,none=>rfl
 | .iface,some _=>rfl
theorem Sh.cells_one:∀(s:Sh)(x:s.T),oneAll (s.cells x)=true
 | .nil,_=>rfl
 | .lf l r,x=>by simp[Sh.cells,oneAll,Sh.cells_one r,zs5]
 | .sl _ r,x=>by simp[Sh.cells,oneAll,Sh.cells_one r,oneC]
theorem Sh.enc(s:Sh)(h:0<s.len):Enc s.cells s.len:=⟨s.cells_len,s.cells_one,h⟩
section
variable {H:Type}{enc:TypeId×Value→H}{P:Program}{w:World}
abbrev Tr1(enc:TypeId×Value→H)(P:Program)(w:World)(t:TypeId)(c:List Value):Prop:=∃fuel x,DataW.trod enc P w 0 (fun _=>true) true fuel t c=some x
inductive Trs(enc:TypeId×Value→H)(P:Program)(w:World):List TypeId→List (List Value)→Prop
 | nil:Trs enc P w [] []
 | cons {t c ts cs}:Tr1 enc P w t c→Trs enc P w ts cs→Trs enc P w (t::ts) (c::cs)
theorem Trs.app{ts cs us ds}(h:Trs enc P w ts cs)(g:Trs enc P w us ds):Trs enc P w (ts++us) (cs++ds):=by
 induction h with
 | nil=>exact g
 | cons h1 _ ih=>exact .cons h1 ih
end
end Go.Dm
namespace Go.Dm
open Go.ChangeShapes Go.WideShapes Go.RowKit
section
variable {H:Type}{enc:TypeId×Value→H}{P:Program}{W:World}
end
end Go.Dm

namespace Go.Dm
def tabB(P:Program)(name:String)(k:IntKind):Bool:=match P.globalNamed name with
 | none=>false
 | some g=>match (P.globals[g]?).map (·.type) with
  | none=>false
  | some t=>match P.underlying t with
   | some (.array n e)=>(match P.underlying e with
    | some (.int k')=>decide (k'=k)
    | _=>false)&&(P.cellsOf e == 1)&&(P.cellsOf t == n)
   | _=>false
theorem zrM{P:Program}{W:World}{name:String}{k:IntKind}{zs:List Int}(hb:tabB P name k=true){l:List (String×DataW Unit)}(hp:(l.all fun x=>x.2.handleName?.isNone)=true)
  (hf:(l.filter fun x=>x.1 == name) = [(name,Lib.tabData k zs)]) (h:laidMetH P l W):Lib.TabIs P W name k zs:=by
 rw[MakeChecks.laidMetH_plain P l W hp]at h
 have h2:=h.filter fun x=>x.1 == name
 rw[hf]at h2
 unfold tabB at hb
 split at hb
 ·cases hb
 ·rename_i g hg
  split at hb
  ·cases hb
  ·rename_i t ht
   split at hb
   ·rename_i n e he
    simp only[Bool.and_eq_true,beq_iff_eq]at hb
    obtain⟨⟨hb,hce⟩,hct⟩:=hb
    split at hb
    ·rename_i k' hk
     have hb:k'=k:=by simpa using hb
     subst hb
     exact Lib.tabIs_of_head hg ht he hk hce hct h2
    ·cases hb
   ·cases hb
def YldQ(P:Program)(w0:World)(A0 B A1:List Seg)(fv:Value)(Pv:Sl→Seg→Prop):Prop:=
 ∀(yv:FV)(R:Value→PT)(J0 J1:List Seg→Prop)(Jd:World→Prop)(F:List Seg)(w:World),St w0 (A0++F) w→J0 F→
  (∀v s F X w,Pv v s→J0 F→St w0 (B++((s::F)++X)) w→FCall P yv.val [SlV v] w fun r w'=>(r = .bool true∧∃F',St w0 (B++(F'++X)) w'∧J1 F')∨(r = .bool false∧Jd w'))→
  (∀F w,J1 F→St w0 (A1++F) w→R (.tuple #[]) w)→(∀w,Jd w→R (.tuple #[]) w)→FFCall P fv [yv.val] w R
section
variable {w0 w w':World}{P:Program}
theorem znj{A0 B A1 F:List Seg}{fv:Value}{Pv:Sl→Seg→Prop}(hY:YldQ P w0 A0 B A1 fv Pv)(h:St w0 (A0++F) w){body:Nat→TT [.one .slice]→(Value→PT)→PT}{K:List Nat→Option Code→PT}
  (I0 I1:List Seg→Prop) (h0:I0 F)
  (hb:∀v s F X w l lp d(R:Value→PT),Pv v s→I0 F→St w0 ([Rec l lp .busy none]::[DfM d]::(B++((s::F)++X))) w→
   (∀F' w',I1 F'→St w0 ([Rec l lp .busy none]::[DfM d]::(B++(F'++X))) w'→L.endRound P l none R w')→body l (v,()) R w)
  (hc:∀d F w,I1 F→St w0 ([DfM d]::(A1++F)) w→K [d] none w):L.range P none fv [.one .slice] (fun l y R=>L.begin P l (body l y R)) K w:=by
 refine rng h fun d l lp w h hy=>?_
 have h:St w0 (A0++([[Rec l lp .ready none],[DfM d]]++F)) w:=St.toFront (G:=A0) (A:=[[Rec l lp .ready none],[DfM d]]) h
 refine hY ⟨.yield l,#[],#[]⟩ _ (fun G=>∃F,G = [[Rec l lp .ready none],[DfM d]]++F∧I0 F) (fun G=>∃F,G = [[Rec l lp .ready none],[DfM d]]++F∧I1 F) (fun _=>False) _ w h ⟨F,rfl,h0⟩ ?_ ?_ ?_
 ·rintro v s G X w hv ⟨F,rfl,hi⟩ h
  have h:St w0 (B++([[Rec l lp .ready none],[DfM d]]++((s::F)++X))) w:=h.perm (by
   simp only[List.flatten_append,List.flatten_cons,List.flatten_nil,List.append_nil,List.append_assoc]
   refine List.Perm.append_left _ ?_
   simp only[←List.append_assoc]
   refine List.Perm.append_right _ (List.Perm.append_right _ ?_)
   rw[List.append_assoc]
   exact List.perm_append_comm)
  have h:St w0 ([Rec l lp .ready none]::[DfM d]::(B++((s::F)++X))) w:=St.toFront (A:=B) (G:=[[Rec l lp .ready none],[DfM d]]) (F:=(s::F)++X) h
  have hrec:=(h.at 0 (b:=(Rec l lp .ready none).1) (o:=(Rec l lp .ready none).2) rfl).2
  refine hy (v,()) .ready none w _ hrec ?_
  refine bgn h 0 rfl fun w h=>?_
  refine hb v s F X w l lp d _ hv hi h ?_
  intro F' w' hi' h'
  refine endN h' 0 rfl fun w h=>.inl ⟨rfl,_,?_,F',rfl,hi'⟩
  exact St.toFront (G:=B) (A:=[[Rec l lp .ready none],[DfM d]]) (F:=F'++X) h
 ·rintro G w ⟨F,rfl,hi⟩ h
  refine endL h.toFront 0 rfl (by simp) fun w h=>hc d F w hi h
 ·rintro w hh
  exact hh.elim
end
end Go.Dm
namespace Go.Proofs.YtdcdhcgmeahfmaaGreatDoor
open Go.Dm
attribute [local irreducible] L.load L.store L.chk L.new L.nonnil L.guard L.ite L.draw L.idx L.sem L.semR L.semU L.chkSem L.next L.call L.callV L.join L.alts L.loop L.begin L.endRound L.range
variable {w0 w:World}{E:List Seg}
theorem elU:El Pr z2j z3T 1 1 (.int .u8 0):=zem (by kernel_rfl) (by kernel_rfl) rfl (by decide)
abbrev scB(b:Nat):Seg:=[Cl b z3T [.int .u8 0,.int .u8 1,.int .u8 9]]
abbrev scV(b o n:Nat):Sl:=⟨some ⟨b,o,none⟩,n,n⟩
abbrev scC(c:Nat)(v:Sl):Seg:=[Cl c z2j [SlV v]]
theorem zpT(h:St w0 E w){v:Sl}{l:List UInt8}(r:Rd w eU v l)(hn:l.length<1000000000)(h64:v.a=none→l = []){k:Sl→PT}
  (hk:∀v' s' w',Rw eU z3T 1 v' l s'→St w0 (s'::E) w'→k v' w'):L.call Pr z3c [SlV v] (.one (.one .slice)) k w:=by
 refine z01 (z8o v) ?_
 unfold z55
 exact z6a (K:=fun v w'=>∃x,v=RT.val (.one (.one .slice)) x∧k x w') encU elU h r (by omega) (by omega) h64 fun v' s' w' h1 h2 h3=>⟨v',rfl,hk v' s' w' h1 h3⟩
theorem zpz(c b:Nat):YldQ Pr w0 [scC c (scV b 0 3),scB b] [scC c (scV b 2 1),scB b] [scC c (scV b 2 0),scB b] (.func (.func z45) #[] #[.pointer (some ⟨c,0,none⟩)])
  (fun v s=>Rw eU z3T 1 v [9] s):=by
 intro yv R J0 J1 Jd F w h hJ step fin fin2
 refine⟨zep,zeH yv ⟨c,0,none⟩ ?_⟩
 unfold za6
 have h:St w0 (scC c (scV b 0 3)::scB b::F) w:=h
 have r0:Rw eU z3T 1 (scV b 0 3) [0,1,9] (scB b):=Rw.lit b [0,1,9] encU rfl rfl (by decide)
 refine z0u (fun q y w=>(q=1∧∃F,J0 F∧St w0 (scC c (scV b 0 3)::scB b::F) w)∨(q=0∧∃F,J1 F∧St w0 (scC c (scV b 2 0)::scB b::F) w)) 1 (.inl ⟨rfl,F,hJ,h⟩) ?_
 clear hJ
 clear h;(try clear w)
 rintro q y w (⟨rfl,F,hJ,h⟩ | ⟨rfl,F,hJ,h⟩) again hag
 ·(try dsimp only)
  (refine ldC h ?_)
  refine itT rfl ?_
  refine z1h (fun(z:Int×Unit) w=>z.1=1∧St w0 (scC c (scV b 2 1)::scB b::F) w) (fun k4 hk4=>?_) ?_
  ·(refine ldC h ?_)
   refine itF rfl ?_
   refine z1h (fun(z:Int×Unit) w=>z.1=1∧St w0 (scC c (scV b 0 3)::scB b::F) w) (fun k8 hk8=>?_) ?_
   ·(refine dr h ?_;clear h;(try clear w);intro w h;refine ldC h ?_)
    refine Rw.ix encU r0 (n:=(0:Int)) (by decide) (by decide) fun a11 ha11=>?_
    refine Rw.ld0 encU h 1 rfl r0 ha11 (x:=(0:UInt8)) rfl rfl rfl ?_
    (refine ldC h ?_)
    refine Rw.ix encU r0 (n:=(1:Int)) (by decide) (by decide) fun a14 ha14=>?_
    refine Rw.ld0 encU h 1 rfl r0 ha14 (x:=(1:UInt8)) rfl rfl rfl ?_
    (refine ldC h ?_)
    refine alts2 ?_ ?_
    ·(refine ckC h ?_)
     refine Rw.cka encU h 1 rfl r0 ha14 (x:=(1:UInt8)) rfl rfl ?_
     (refine ckC h ?_)
     refine gd (by decide) ?_
     (refine ckC h ?_)
     refine Rw.cka encU h 1 rfl r0 ha11 (x:=(0:UInt8)) rfl rfl ?_
     (refine ckC h ?_)
     exact hk8 _ w ⟨by kernel_rfl,h⟩
    ·(refine ckC h ?_)
     refine Rw.cka encU h 1 rfl r0 ha11 (x:=(0:UInt8)) rfl rfl ?_
     (refine ckC h ?_;refine ckC h ?_)
     refine Rw.cka encU h 1 rfl r0 ha14 (x:=(1:UInt8)) rfl rfl ?_
     (refine ckC h ?_)
     refine gd (by decide) ?_
     exact hk8 _ w ⟨by kernel_rfl,h⟩
   ·clear h;(try clear w)
    rintro⟨z,⟨⟩⟩ w ⟨hz,h⟩
    simp only at hz
    subst hz
    (try dsimp only)
    (refine ldC h ?_)
    refine gd (show(0:Int)≤2∧(2:Int)≤3∧(3:Int)≤3∧(3:Int)≤3 by decide) ?_
    (refine stC h ?_;clear h;(try clear w);intro w h;dsimp only[putN,setN]at h)
    exact hk4 _ w ⟨rfl,h⟩
  ·clear h;(try clear w)
   rintro⟨z,⟨⟩⟩ w ⟨hz,h⟩
   simp only at hz
   subst hz
   (try dsimp only)
   (refine ldC h ?_)
   refine gd (show(0:Int)≤0∧(0:Int)≤1∧(1:Int)≤1∧(1:Int)≤1 by decide) ?_
   have rd:Rd w eU (scV b 2 1) [9]:=(Rw.rd encU h 1 rfl r0).cut encU 2 3 (by decide) (by decide) (Nat.le_refl 3) 1
   refine zpT (v:=scV b 2 1) h rd (by decide) (fun hh=>by cases hh) fun v' s' w hr h=>?_
   have h:=fr2_ (fr2_ h)
   have step:=step v' s' F [] w hr hJ (by simpa using h)
   refine cv (FCall.mono step fun u w' hu=>?_)
   rcases hu with ⟨rfl,F',h,hJ⟩ | ⟨rfl,hd⟩
   ·refine⟨true,rfl,itF rfl ?_⟩
    have h:St w0 (scC c (scV b 2 1)::scB b::F') w':=by simpa using h
    (refine ldC h ?_)
    refine gd (show(0:Int)≤1∧(1:Int)≤1∧(1:Int)≤1∧(1:Int)≤1 by decide) ?_
    (refine stC h ?_;clear h;(try clear w);intro w h;dsimp only[putN,setN]at h)
    exact hag 0 () w (by decide) (.inr ⟨rfl,F',hJ,h⟩)
   ·exact⟨false,rfl,itT rfl (fin2 w' hd)⟩
 ·(try dsimp only)
  (refine ldC h ?_)
  refine itF rfl ?_
  exact fin F w hJ h
def eV(v:Sl):List Value:=[SlV v]
theorem encV:Enc eV 1:=⟨fun _=>rfl,fun _=>rfl,by decide⟩
theorem elV:El Pr z0O z2j 1 24 (.slice none 0 0):=zem (by kernel_rfl) (by kernel_rfl) rfl (by decide)
theorem zpH(h:St w0 E w){v:Sl}{k:FV→PT}(hk:∀c w',St w0 (scC c v::E) w'→k ⟨.func z45,#[],#[.pointer (some ⟨c,0,none⟩)]⟩ w'):L.call Pr z8U [SlV v] (.one (.one .func)) k w:=by
 refine z01 (zgs _) ?_
 unfold zbJ
 refine nw h ?_;clear h;(try clear w);intro c w h
 exact⟨_,rfl,hk c w h⟩
theorem zpS(h:St w0 E w){v:Sl}{l:List Sl}(r:Rd w eV v l)(hn:l.length<1000000000)(h64:v.a=none→l = []){k:Sl→PT}
  (hk:∀v' s' w',Rw eV z2j 1 v' l s'→St w0 (s'::E) w'→k v' w'):L.call Pr z3w [SlV v] (.one (.one .slice)) k w:=by
 refine z01 (z9n v) ?_
 unfold z5M
 exact z6a (K:=fun v w'=>∃x,v=RT.val (.one (.one .slice)) x∧k x w') encV elV h r (by omega) (by omega) h64 fun v' s' w' h1 h2 h3=>⟨v',rfl,hk v' s' w' h1 h3⟩
theorem zsZ{b:Nat}(h:St w0 (scB b::E) w){k:Sl→PT}(hk:∀v sv vp sp w',Rw eV z2j 1 v [vp] sv→Rw eU z3T 1 vp [9] sp→St w0 (sv::sp::scB b::E) w'→k v w') :
  L.call Pr zbW [SlV (scV b 0 3)] (.one (.one .slice)) k w:=by
 refine z01 (zkF (scV b 0 3)) ?_
 unfold zg0
 refine nw h ?_;clear h;(try clear w);intro b1 w h
 refine zpH (v:=scV b 0 3) h fun c w h=>?_
 have h:=fr1_ (fr2_ h)
 refine znj (A0:=[scC c (scV b 0 3),scB b]) (F:=[Cl b1 z0O [.slice none 0 0]]::E) (zpz c b) h (fun G=>G = [Cl b1 z0O [.slice none 0 0]]::E)
  (fun G=>∃vp sp v' s',Rw eV z2j 1 v' [vp] s'∧Rw eU z3T 1 vp [9] sp∧G=s'::sp::[Cl b1 z0O [SlV v']]::E) rfl ?_ ?_
 ·clear h;(try clear w)
  rintro vp sp F X w l lp d R hp rfl h hN
  have h:St w0 ([Rec l lp .busy none]::[DfM d]::scC c (scV b 2 1)::scB b::sp::[Cl b1 z0O [.slice none 0 0]]::(E++X)) w:=h
  (refine ldC h ?_)
  refine nw h ?_;clear h;(try clear w);intro b9 w h
  have h:St w0 ([Cl b9 z2j [SlV vp]]::[]::[Rec l lp .busy none]::[DfM d]::scC c (scV b 2 1)::scB b::sp::[Cl b1 z0O [.slice none 0 0]]::(E++X)) w:=h.eq (by simp)
  refine Rw.app encV elV h 0 rfl (v:=⟨none,0,0⟩) (l:=[]) Rw.nil vp rfl (by decide) (by decide) fun v' s' w hr h=>?_
  dsimp only[setN]at h
  (refine stC h ?_;clear h;(try clear w);intro w h;dsimp only[putN,setN]at h)
  refine hN (s'::sp::[Cl b1 z0O [SlV v']]::E) w ⟨vp,sp,v',s',hr,hp,rfl⟩ ?_
  have h:=fr6_ (fr6_ (fr6_ (fr6_ (fr2_ (fr6_ (fr6_ h))))))
  exact h
 ·clear h;(try clear w)
  rintro d F w ⟨vp,sp,v',s',hr,hp,rfl⟩ h
  have h:St w0 ([DfM d]::scC c (scV b 2 0)::scB b::s'::sp::[Cl b1 z0O [SlV v']]::E) w:=h
  refine jumpN ?_
  (refine ldC h ?_)
  refine zpS h (Rw.rd encV h 3 rfl hr) (show(1:Nat)<1000000000 by decide) (fun hh=>?_) fun v2 s2 w hr2 h=>?_
  ·have:=Rw.nil_of encV hr
   exact this hh
  (first | refine um0_ h ?_ | refine um1_ h ?_ | refine um2_ h ?_ | refine um3_ h ?_ | refine um4_ h ?_ | refine um5_ h ?_ | refine um6_ h ?_ | refine um7_ h ?_ | refine um8_ h ?_ | refine um9_ h ?_ | refine z92 h ?_ | refine z91 h ?_);clear h;(try clear w);intro w h
  refine⟨_,rfl,hk v2 s2 vp sp w hr2 hp ?_⟩
  have h:=dl1_ (dl3_ (dl5_ h))
  have h:=fr2_ (fr2_ (fr1_ h))
  exact h
theorem zsm{c:Nat}{v vp:Sl}{sv:Seg}(hr:Rw eV z2j 1 v [vp] sv):YldX Pr w0 [[Cl c z0O [SlV v]],sv] (.func (.func z1t) #[] #[.pointer (some ⟨c,0,none⟩)]) 1 fun _=>TV [.one .slice] (vp,()):=by
 intro yv R J Jd F w h hJ step fin fin2
 refine⟨z8c,z8f yv ⟨c,0,none⟩ ?_⟩
 unfold z4J
 have h:St w0 ([Cl c z0O [SlV v]]::sv::F) w:=h
 have hl:v.len=1:=Rw.len encV hr
 (refine ldC h ?_)
 refine z0u (fun q y w=>∃(j:Nat)(F:List Seg),y=((j:Int),())∧q+j=1∧J j F∧St w0 ([Cl c z0O [SlV v]]::sv::F) w) 1 ⟨0,F,rfl,rfl,hJ,h⟩ ?_
 clear hJ
 clear h;(try clear w)
 rintro q y w ⟨j,F,rfl,hq,hJ,h⟩ again hag
 (try dsimp only)
 refine it (fun hb=>?_) (fun hb=>?_)<;>(try simp only[zB]at hb)
 ·have hj:j=0:=by omega
  subst hj
  refine Rw.ix encV hr (n:=((0:Nat):Int)) (by decide) (show(0:Nat)<1 by decide) fun a4 ha=>?_
  refine Rw.ld0 encV h 1 rfl hr ha (x:=vp) rfl rfl rfl ?_
  have step:=step 0 F [] w (by decide) hJ (by simpa using h)
  refine cv (FCall.mono step fun u w' hu=>?_)
  rcases hu with ⟨rfl,F',h,hJ⟩ | ⟨rfl,hd⟩
  ·refine⟨true,rfl,itF rfl ?_⟩
   exact hag 0 _ w' (by omega) ⟨1,F',rfl,rfl,hJ,by simpa using h⟩
  ·exact⟨false,rfl,itT rfl (fin2 w' hd)⟩
 ·have hj:j=1:=by omega
  subst hj
  exact fin F w hJ h
abbrev rdrB(b:Nat)(v:Sl)(bad:Bool):Seg:=[Cl b zbz [SlV v,.bool bad]]
theorem zr1{b:Nat}{vp:Sl}{sp:Seg}(hp:Rw eU z3T 1 vp [9] sp)(h:St w0 (rdrB b vp false::sp::E) w){k:Sl→PT}(hk:∀v2 w',St w0 (rdrB b v2 false::sp::E) w'→v2.len=0→k vp w') :
  L.call Pr z5C [.pointer (some ⟨b,0,none⟩),I 1] (.one (.one .slice)) k w:=by
 refine z01 (zcd (some ⟨b,0,none⟩) 1) ?_
 unfold z89
 have hl:vp.len=1:=Rw.len encU hp
 have hc:vp.len≤vp.cap∧vp.cap≤maxLen:=Rw.cap hp
 refine z1h (fun _ w=>St w0 (rdrB b vp false::sp::E) w) (fun k1 hk1=>?_) ?_
 ·(refine nn ?_;refine ldC h ?_)
  refine itF rfl ?_
  (refine nn ?_;refine ldC h ?_;refine nn ?_;refine stC h ?_;clear h;(try clear w);intro w h;dsimp only[putN,setN]at h)
  have e:decide (((vp.len:Nat):Int)<1)=false:=by rw[hl];rfl
  rw[e]at h
  exact hk1 () w h
 clear h;(try clear w)
 rintro-w h
 (try dsimp only)
 (refine nn ?_;refine ldC h ?_)
 refine itF rfl ?_
 (refine nn ?_;refine ldC h ?_)
 refine gd (show(0:Int)≤0∧(0:Int)≤1∧(1:Int)≤((vp.cap:Nat):Int)∧((vp.cap:Nat):Int)≤(vp.cap:Int)by omega) ?_
 (refine nn ?_;refine ldC h ?_)
 refine gd (show(0:Int)≤1∧(1:Int)≤((vp.len:Nat):Int)∧((vp.len:Nat):Int)≤((vp.cap:Nat):Int)∧((vp.cap:Nat):Int)≤(vp.cap:Int)by omega) ?_
 (refine nn ?_;refine stC h ?_;clear h;(try clear w);intro w h;dsimp only[putN,setN]at h)
 refine⟨vp,?_,hk ⟨_,_,_⟩ w h ?_⟩
 ·have e1:¬(((vp.cap:Nat):Int)).toNat=Int.toNat 0:=by rw[Int.toNat_natCast];simp;omega
  have e2:(Option.map (fun a:Addr=>a.add (Int.toNat 0*1)) vp.a)=vp.a:=by cases vp.a<;>rfl
  show Value.slice (if(((vp.cap:Nat):Int)).toNat=Int.toNat 0 then vp.a else Option.map (fun a:Addr=>a.add (Int.toNat 0*1)) vp.a) (Int.toNat 1-Int.toNat 0) (((vp.cap:Nat):Int).toNat-Int.toNat 0)=_
  rw[if_neg e1,e2,Int.toNat_natCast]
  show Value.slice vp.a 1 vp.cap = .slice vp.a vp.len vp.cap
  rw[hl]
 ·show Int.toNat ((vp.len:Nat):Int)-Int.toNat 1=0
  rw[hl];rfl
theorem zsB{b:Nat}{vp:Sl}{sp:Seg}(hp:Rw eU z3T 1 vp [9] sp)(h:St w0 (rdrB b vp false::sp::E) w){k:Int→PT}(hk:∀v2 w',St w0 (rdrB b v2 false::sp::E) w'→v2.len=0→k 9 w') :
  L.call Pr z2y [.pointer (some ⟨b,0,none⟩),I 1] (.one (.one (.int .i64))) k w:=by
 refine z01 (zaX (some ⟨b,0,none⟩) 1) ?_
 unfold z6S
 have hl:vp.len=1:=Rw.len encU hp
 refine zr1 hp h fun v2 w h h0=>?_
 refine z0u (fun q y w=>(q=1∧y=(0,0,())∧St w0 (rdrB b v2 false::sp::E) w)∨(q=0∧y=(9,1,())∧St w0 (rdrB b v2 false::sp::E) w)) 1 (.inl ⟨rfl,rfl,h⟩) ?_
 clear h;(try clear w)
 rintro q y w (⟨rfl,rfl,h⟩ | ⟨rfl,rfl,h⟩) again hag
 ·(try dsimp only)
  refine itT (by rw[hl];rfl) ?_
  refine Rw.ix encU hp (n:=(0:Int)) (by decide) (show(0:Nat)<1 by decide) fun a4 ha=>?_
  refine Rw.ld0 encU h 1 rfl hp ha (x:=(9:UInt8)) rfl rfl rfl ?_
  refine gd (by decide) ?_
  exact hag 0 _ w (by decide) (.inr ⟨rfl,by kernel_rfl,h⟩)
 ·(try dsimp only)
  refine itF (by rw[hl];rfl) ?_
  exact⟨_,rfl,hk v2 w h h0⟩
theorem zpW{vp:Sl}{sp:Seg}(hp:Rw eU z3T 1 vp [9] sp)(h:St w0 (sp::E) w){k:EvT×Int×Unit→PT}(hk:∀w',St w0 (sp::E) w'→k ((evT0 9).t,0,()) w') :
  L.call Pr z9A [SlV vp] (.tup [.agg evLs,.one (.int .i64)]) k w:=by
 refine z01 (zi7 vp) ?_
 unfold zcZ
 refine nw h ?_;clear h;(try clear w);intro b1 w h
 refine nw h ?_;clear h;(try clear w);intro b2 w h
 have h:=fr1_ (fr2_ h)
 refine zsB hp h fun v2 w h h0=>?_
 refine nw h ?_;clear h;(try clear w);intro b4 w h
 (refine stC h ?_;clear h;(try clear w);intro w h;dsimp only[putN,setN]at h;refine ldC h ?_)
 refine zob h fun w h=>?_
 have e9:shp 9=((false,false,false,false,false,false,()),true):=rfl
 rw[e9]
 refine nw h ?_;clear h;(try clear w);intro b7 w h
 (refine stC h ?_;clear h;(try clear w);intro w h;dsimp only[putN,setN]at h;refine nn ?_;refine ldC h ?_)
 refine itF rfl ?_
 refine itF rfl ?_
 have h:St w0 ([Cl b7 z3r [.bool false,.bool false,.bool false,.bool false,.bool false,.bool false]]::[Cl b4 z0c (eEv (evT0 9))]::rdrB b2 v2 false::sp::[Cl b1 z0c (eEv (evT0 0))]::E) w:=h
 refine z1h (fun _ w=>St w0 ([Cl b7 z3r [.bool false,.bool false,.bool false,.bool false,.bool false,.bool false]]::[Cl b4 z0c (eEv (evT0 9))]::rdrB b2 v2 false::sp::[Cl b1 z0c (eEv (evT0 0))]::E) w) (fun kk hkk=>?_) ?_
 ·(refine ldC h ?_)
  refine itF rfl ?_
  exact hkk () w h
 clear h;(try clear w)
 rintro-w h
 (try dsimp only)
 refine z1h (fun _ w=>St w0 ([Cl b7 z3r [.bool false,.bool false,.bool false,.bool false,.bool false,.bool false]]::[Cl b4 z0c (eEv (evT0 9))]::rdrB b2 v2 false::sp::[Cl b1 z0c (eEv (evT0 0))]::E) w) (fun kk hkk=>?_) ?_
 ·(refine ldC h ?_)
  refine itF rfl ?_
  exact hkk () w h
 clear h;(try clear w)
 rintro-w h
 (try dsimp only)
 refine z1h (fun _ w=>St w0 ([Cl b7 z3r [.bool false,.bool false,.bool false,.bool false,.bool false,.bool false]]::[Cl b4 z0c (eEv (evT0 9))]::rdrB b2 v2 false::sp::[Cl b1 z0c (eEv (evT0 0))]::E) w) (fun kk hkk=>?_) ?_
 ·(refine ldC h ?_)
  refine itF rfl ?_
  exact hkk () w h
 clear h;(try clear w)
 rintro-w h
 (try dsimp only)
 refine z1h (fun _ w=>St w0 ([Cl b7 z3r [.bool false,.bool false,.bool false,.bool false,.bool false,.bool false]]::[Cl b4 z0c (eEv (evT0 9))]::rdrB b2 v2 false::sp::[Cl b1 z0c (eEv (evT0 0))]::E) w) (fun kk hkk=>?_) ?_
 ·(refine ldC h ?_)
  refine itF rfl ?_
  exact hkk () w h
 clear h;(try clear w)
 rintro-w h
 (try dsimp only)
 refine z1h (fun _ w=>St w0 ([Cl b7 z3r [.bool false,.bool false,.bool false,.bool false,.bool false,.bool false]]::[Cl b4 z0c (eEv (evT0 9))]::rdrB b2 v2 false::sp::[Cl b1 z0c (eEv (evT0 0))]::E) w) (fun kk hkk=>?_) ?_
 ·(refine ldC h ?_)
  refine itF rfl ?_
  exact hkk () w h
 clear h;(try clear w)
 rintro-w h
 (try dsimp only)
 refine z1h (fun _ w=>St w0 ([Cl b7 z3r [.bool false,.bool false,.bool false,.bool false,.bool false,.bool false]]::[Cl b4 z0c (eEv (evT0 9))]::rdrB b2 v2 false::sp::[Cl b1 z0c (eEv (evT0 0))]::E) w) (fun kk hkk=>?_) ?_
 ·(refine ldC h ?_)
  refine itF rfl ?_
  exact hkk () w h
 clear h;(try clear w)
 rintro-w h
 (try dsimp only)
 (refine nn ?_;refine ldC h ?_)
 refine itF rfl ?_
 (refine nn ?_;refine ldC h ?_)
 refine itF (by rw[h0];rfl) ?_
 unfold eEv at h
 dsimp only at h
 (refine laC h ?_)
 refine zjt (e:=evT0 9) h (fun hh=>absurd hh (show ¬((9:Int)=12∨(9:Int)=13)by decide)) (fun _ _=>Rd.nil) (by decide) (by simp[noRt15]) fun w h=>?_
 rw[chk9]
 refine itF rfl ?_
 (refine laC h ?_;refine stC h ?_;clear h;(try clear w);intro w h;dsimp only[putN,setN]at h;refine laC h ?_)
 refine⟨((evT0 9).t,0,()),rfl,hk w ?_⟩
 have h:=dl0_ (dl1_ (dl2_ (dl4_ h)))
 exact h
abbrev toB(b:Nat)(v:Sl):Seg:=[Cl b zfM [SlV v]]
theorem zpI{ks:Int→Bool}[Kn w0 ks](hks:ks 9=true){vp vt:Sl}{sp st s:Seg}{bs bt:Nat}{a:ASys}{lt:List ByteArray}(hp:Rw eU z3T 1 vp [9] sp)(hs:SysS bs a s)(ht:Rw eS z00 1 vt lt st)
  {k0:Nat} (inv:SInv k0 a) (hk0:k0≤9000) (hsh:a.sh.n<99) (hlt:lt.length≤1000) (hout:(sysDo a (evT0 9)).2.length≤1000000) (h:St w0 (sp::s::toB bt vt::st::E) w) {k:Unit→PT}
  (hk:∀vt' st' s' w',Rw eS z00 1 vt' (lt++(sysDo a (evT0 9)).2) st'→SysS bs (sysDo a (evT0 9)).1 s'→SInv (k0+2) (sysDo a (evT0 9)).1→St w0 (sp::s'::toB bt vt'::st'::E) w'→k () w') :
  L.call Pr z6u [.pointer (some ⟨bt,0,none⟩),.pointer (some ⟨bs,0,none⟩),SlV vp] (.tup []) k w:=by
 refine z01 (zqD (some ⟨bt,0,none⟩) (some ⟨bs,0,none⟩) vp) ?_
 unfold PieceF
 refine nw h ?_;clear h;(try clear w);intro b1 w h
 have h:=fr1_ h
 refine zpW hp h fun w h=>?_
 refine nw h ?_;clear h;(try clear w);intro b3 w h
 (refine stC h ?_;clear h;(try clear w);intro w h;dsimp only[putN,setN]at h)
 refine zoi ?_
 refine gd (by decide +kernel) ?_
 refine nw h ?_;clear h;(try clear w);intro b5 w h
 refine nw h ?_;clear h;(try clear w);intro b6 w h
 (dsimp only[setN,List.cons_append,List.nil_append]at h;refine stC h ?_;clear h;(try clear w);intro w h;dsimp only[putN,setN]at h)
 refine itT rfl ?_
 (refine laC h ?_)
 refine zmu (ks:=ks) (e:=evT0 9) h 5 rfl hs hks chk9 (EvIn.plain rfl rfl fun hh=>absurd hh (show ¬((9:Int)=12∨(9:Int)=13)by decide)) inv hk0 hsh fun v sv s' w r hs inv h=>?_
 dsimp only[setN]at h
 have hl:=Rw.len encS r
 unfold z5F
 (refine stC h ?_;clear h;(try clear w);intro w h;dsimp only[putN,setN]at h;refine dr h ?_;clear h;(try clear w);intro w h;refine ldC h ?_;refine ldC h ?_;refine nn ?_;refine ldC h ?_;refine ldC h ?_)
 refine Rw.appRd encS elS h 8 rfl ht (Rw.rd encS h 0 rfl r) (by omega) (by omega) fun vt' st' w ht' _ _ h=>?_
 dsimp only[setN]at h
 (refine ckC h ?_;refine nn ?_;refine stC h ?_;clear h;(try clear w);intro w h;dsimp only[putN,setN]at h)
 refine⟨(),rfl,hk vt' st' s' w ht' hs inv ?_⟩
 have h:=dl0_ (dl1_ (dl2_ (dl3_ (dl5_ h))))
 exact h
theorem zol(h:St w0 E w){v:Sl}{l:List ByteArray}(r:Rd w eS v l)(hn:l.length<1000000000)(h64:v.a=none→l = []){k:Sl→PT}
  (hk:∀v' s' w',Rw eS z00 1 v' l s'→St w0 (s'::E) w'→k v' w'):L.call Pr z0Z [SlV v] (.one (.one .slice)) k w:=by
 refine z01 (z4q v) ?_
 unfold z2N
 exact z6a (K:=fun v w'=>∃x,v=RT.val (.one (.one .slice)) x∧k x w') encS elS h r (by omega) (by omega) h64 fun v' s' w' h1 h2 h3=>⟨v',rfl,hk v' s' w' h1 h3⟩
theorem zjp{b:Nat}(h:St w0 (scB b::E) w){k:FV→PT}(hk:∀c v sv vp sp w',Rw eV z2j 1 v [vp] sv→Rw eU z3T 1 vp [9] sp→St w0 ([Cl c z0O [SlV v]]::sv::sp::scB b::E) w'→
  k ⟨.func z1t,#[],#[.pointer (some ⟨c,0,none⟩)]⟩ w'):L.call Pr z9x [SlV (scV b 0 3)] (.one (.one .func)) k w:=by
 refine z01 (zi2 _) ?_
 unfold zcU
 refine zsZ h fun v sv vp sp w hr hp h=>?_
 refine z01 (z8Z v) ?_
 unfold z5q
 refine nw h ?_;clear h;(try clear w);intro c w h
 exact⟨_,rfl,_,rfl,hk c v sv vp sp w hr hp h⟩
theorem zsu{ks:Int→Bool}[Kn w0 ks](hks:ks 9=true){b:Nat}(h:St w0 (scB b::E) w){k:Sl×Int×Unit→PT}(hk:∀v sv w',Rw eS z00 1 v (sysDo (newSys 2 1 3) (evT0 9)).2 sv→St w0 (sv::scB b::E) w'→k (v,0,()) w') :
  L.call Pr zdz [I 2,I 1,I 3,SlV (scV b 0 3)] (.tup [.one .slice,.one (.int .i64)]) k w:=by
 refine z01 (zmE 2 1 3 (scV b 0 3)) ?_
 unfold zh3
 refine zhM h (fun hh=>absurd hh (by decide)) fun _ bs s w hs h=>?_
 have inv0:SInv 0 (newSys 2 1 3):=zkd (by decide) (by decide)
 refine nw h ?_;clear h;(try clear w);intro b2 w h
 (refine stC h ?_;clear h;(try clear w);intro w h;dsimp only[putN,setN]at h)
 refine itF rfl ?_
 refine nw h ?_;clear h;(try clear w);intro b3 w h
 refine nw h ?_;clear h;(try clear w);intro b4 w h
 (refine stC h ?_;clear h;(try clear w);intro w h;dsimp only[putN,setN]at h)
 have h:=fr4_ h
 refine zjp h fun c v sv vp sp w hr hp h=>?_
 have h:St w0 ([Cl c z0O [SlV v]]::sv::sp::scB b::[Cl b4 z2r [.pointer (some ⟨b3,0,none⟩)]]::toB b3 ⟨none,0,0⟩::[Cl b2 z1z [.pointer (some ⟨bs,0,none⟩)]]::s::E) w:=h
 obtain⟨ot,hot⟩:∃o,o=(sysDo (newSys 2 1 3) (evT0 9)).2:=⟨_,rfl⟩
 have hol:ot.length=1:=by rw[hot];decide +kernel
 rw[←hot]at hk
 refine z5j (es:=[.one .slice]) (arg:=fun _=>(vp,())) (A:=[[Cl c z0O [SlV v]],sv]) (F:=sp::scB b::[Cl b4 z2r [.pointer (some ⟨b3,0,none⟩)]]::toB b3 ⟨none,0,0⟩::[Cl b2 z1z [.pointer (some ⟨bs,0,none⟩)]]::s::E) (zsm hr) h
  (fun m G=>(m=0∧G=sp::scB b::[Cl b4 z2r [.pointer (some ⟨b3,0,none⟩)]]::toB b3 ⟨none,0,0⟩::[Cl b2 z1z [.pointer (some ⟨bs,0,none⟩)]]::s::E)∨
   (m=1∧∃vt st s',Rw eS z00 1 vt ot st∧G=sp::scB b::[Cl b4 z2r [.pointer (some ⟨b3,0,none⟩)]]::toB b3 vt::st::[Cl b2 z1z [.pointer (some ⟨bs,0,none⟩)]]::s'::E)) (fun _ _=>False) (.inl ⟨rfl,rfl⟩) ?_ ?_ (fun d j G w hh _=>hh.elim)
 ·clear h;(try clear w)
  rintro m F X w l lp d R hm (⟨rfl,rfl⟩ | ⟨rfl,-⟩) h hN hE
  ·have h:St w0 ([Rec l lp .busy none]::[DfM d]::[Cl c z0O [SlV v]]::sv::sp::scB b::[Cl b4 z2r [.pointer (some ⟨b3,0,none⟩)]]::toB b3 ⟨none,0,0⟩::[Cl b2 z1z [.pointer (some ⟨bs,0,none⟩)]]::s::(E++X)) w:=h
   (refine ldC h ?_;refine ldC h ?_)
   have h:=fr6_ (fr9_ (fr7_ h))
   have h:St w0 (sp::s::toB b3 ⟨none,0,0⟩::[]::[Rec l lp .busy none]::[DfM d]::[Cl c z0O [SlV v]]::sv::scB b::[Cl b4 z2r [.pointer (some ⟨b3,0,none⟩)]]::[Cl b2 z1z [.pointer (some ⟨bs,0,none⟩)]]::(E++X)) w:=h.eq (by simp)
   refine zpI (ks:=ks) hks (lt:=[]) hp hs Rw.nil inv0 (by decide) (by decide) (by decide) (by rw[←hot,hol];decide) h fun vt st s' w ht hs' inv h=>?_
   rw[←hot,List.nil_append]at ht
   refine hN (sp::scB b::[Cl b4 z2r [.pointer (some ⟨b3,0,none⟩)]]::toB b3 vt::st::[Cl b2 z1z [.pointer (some ⟨bs,0,none⟩)]]::s'::E) w (.inr ⟨rfl,vt,st,s',ht,rfl⟩) ?_
   have h:=z8W (z8W (z8W (z8W (fr6_ (z8W (z8W (fr4_ (fr4_ (z8W (fr1_ h))))))))))
   exact h
  ·omega
 ·clear h;(try clear w)
  rintro d F w (⟨hh,-⟩ | ⟨-,vt,st,s',ht,rfl⟩) h
  ·omega
  have h:St w0 ([DfM d]::[Cl c z0O [SlV v]]::sv::sp::scB b::[Cl b4 z2r [.pointer (some ⟨b3,0,none⟩)]]::toB b3 vt::st::[Cl b2 z1z [.pointer (some ⟨bs,0,none⟩)]]::s'::E) w:=h
  refine jumpN ?_
  (refine ldC h ?_;refine nn ?_;refine ldC h ?_)
  refine zol h (Rw.rd encS h 7 rfl ht) (by omega) (Rw.nil_of encS ht) fun v2 s2 w hr2 h=>?_
  (first | refine um0_ h ?_ | refine um1_ h ?_ | refine um2_ h ?_ | refine um3_ h ?_ | refine um4_ h ?_ | refine um5_ h ?_ | refine um6_ h ?_ | refine um7_ h ?_ | refine um8_ h ?_ | refine um9_ h ?_ | refine z92 h ?_ | refine z91 h ?_);clear h;(try clear w);intro w h
  refine⟨(v2,0,()),rfl,hk v2 s2 w hr2 ?_⟩
  have h:=dl1_ (dl2_ (dl3_ (dl5_ (dl6_ (dl7_ (dl8_ (dl9_ h)))))))
  exact h
theorem oldS9{v:Sl}{l:List ByteArray}(r:Rd w eS v l){n:Int}{kk:ByteArray→PT}(h0:0≤n)(h1:n<v.len)(hk:∀x,l[n.toNat]? = some x→kk x w):L.idx v.a n v.len 1 (fun a=>L.load (.one .str) a kk) w:=
 rd1 r encS (lf:=.str) (fun x=>x) (fun x=>⟨_,rfl,rfl⟩) h0 h1 hk
theorem zrB(h:St w0 E w){v1 v2:Sl}{l1 l2:List ByteArray}(r1:RdE w0 E eS v1 l1)(r2:RdE w0 E eS v2 l2)(hn:l1.length<1000000000){k:Bool→PT}(hk:∀w',St w0 E w'→k (decide (l1=l2)) w') :
  L.call Pr z6y [SlV v1,SlV v2] (.one (.one .bool)) k w:=by
 refine z01 (zdR v1 v2) ?_
 unfold z9l
 have e1:=(r1 w h).len
 have e2:=(r2 w h).len
 refine it (fun hl=>?_) (fun hl=>?_)<;>(try simp only[zB]at hl)
 ·refine⟨_,rfl,eqk (hk w h) ?_⟩
  rw[decide_eq_false_iff_not];intro e;subst e;omega
 ·have hlen:l1.length=l2.length:=by omega
  refine z0u (fun q y w=>∃j:Nat,y=((j:Int),())∧q+j=l1.length∧l1.take j=l2.take j∧St w0 E w) l1.length ⟨0,rfl,rfl,rfl,h⟩ ?_
  clear h;(try clear w)
  rintro q y w ⟨j,rfl,hq,hp,h⟩ again hag
  dsimp only
  refine it (fun hb=>?_) (fun hb=>?_)<;>(try simp only[zB]at hb)
  ·refine dr h fun w h=>?_
   refine oldS9 (r1 w h) (by omega) hb fun x hx=>oldS9 (r2 w h) (by omega) (by omega) fun y hy=>?_
   simp only[Int.toNat_natCast]at hx hy
   rw[z3Z]
   refine it (fun hc=>?_) (fun hc=>?_)<;>(try simp only[zB]at hc)
   ·refine⟨_,rfl,eqk (hk w h) ?_⟩
    rw[decide_eq_false_iff_not];intro e;subst e
    rw[hx]at hy;exact hc (Option.some.inj hy)
   ·subst hc
    rw[wr (by omega) (by omega)]
    refine hag (q-1) _ w (by omega) ⟨j+1,by simp,by omega,?_,h⟩
    rw[List.take_add_one,List.take_add_one,hp,hx,hy]
  ·refine⟨_,rfl,eqk (hk w h) ?_⟩
   rw[List.take_of_length_le (by omega),List.take_of_length_le (by omega)]at hp
   simp[hp]
abbrev shN(b:Nat):Seg:=[Cl b z0m [.string zgf,I 100]]
abbrev tb1(b c:Nat):Seg:=[Cl c z02 [.slice (some ⟨b,0,none⟩) 1 1,.slice none 0 0]]
def eShr9(x:ByteArray×Int):List Value:=[.string x.1,I x.2]
theorem encShr9:Enc eShr9 2:=⟨fun _=>rfl,fun _=>rfl,by decide⟩
theorem zoH(b:Nat):Rw eShr9 z0m 2 ⟨some ⟨b,0,none⟩,1,1⟩ [(zgf,(100:Int))] (shN b):=Rw.lit b _ encShr9 rfl rfl (by decide)
theorem zpL(h:St w0 E w){k:Bool→PT}(hk:∀w',St w0 E w'→k true w'):L.call Pr z7s [.string zgf] (.one (.one .bool)) k w:=by
 refine z01 (zhR _) ?_
 unfold zcJ
 have e:zgf=revB ⟨#[97]⟩ 1:=by decide +kernel
 rw[e]
 exact zhN h zkK (by decide +kernel) (by decide) (by decide) fun w h=>⟨true,rfl,hk w h⟩
theorem zqX(b c:Nat):YldX Pr w0 [tb1 b c,shN b] (.func (.func z5l) #[] #[.pointer (some ⟨c,0,none⟩)]) 1 fun _=>TV [.one .str] (zgf,()):=by
 intro yv R J Jd F w h hJ step fin fin2
 refine⟨zgi,zgl yv ⟨c,0,none⟩ ?_⟩
 unfold zbC
 have h:St w0 (tb1 b c::shN b::F) w:=h
 (refine ldC h ?_)
 refine z0u (fun q y w=>∃(j:Nat)(F:List Seg),y=((j:Int),())∧q+j=1∧J j F∧St w0 (tb1 b c::shN b::F) w) 1 ⟨0,F,rfl,rfl,hJ,h⟩ ?_
 clear hJ
 clear h;(try clear w)
 rintro q y w ⟨j,F,rfl,hq,hJ,h⟩ again hag
 (try dsimp only)
 refine it (fun hb=>?_) (fun hb=>?_)<;>(try simp only[zB]at hb)
 ·have hj:j=0:=by omega
  subst hj
  refine Rw.ix encShr9 (zoH b) (n:=((0:Nat):Int)) (by decide) (show(0:Nat)<1 by decide) fun a4 ha=>?_
  refine Rw.lda encShr9 h 1 rfl (zoH b) ha (x:=(zgf,(100:Int))) rfl (y:=(zgf,(100:Int),())) rfl ?_
  refine nw h ?_;clear h;(try clear w);intro b6 w h
  (refine stC h ?_;clear h;(try clear w);intro w h;dsimp only[putN,setN]at h;refine ldC h ?_)
  have h:=dl0_ h
  have step:=step 0 F [] w (by decide) hJ (by simpa using h)
  refine cv (FCall.mono step fun u w' hu=>?_)
  rcases hu with ⟨rfl,F',h,hJ⟩ | ⟨rfl,hd⟩
  ·refine⟨true,rfl,itF rfl ?_⟩
   exact hag 0 _ w' (by omega) ⟨1,F',rfl,rfl,hJ,by simpa using h⟩
  ·exact⟨false,rfl,itT rfl (fin2 w' hd)⟩
 ·have hj:j=1:=by omega
  subst hj
  exact fin F w hJ h
theorem zqW(b c:Nat):YldX Pr w0 [tb1 b c,shN b] (.func (.func z5k) #[] #[.pointer (some ⟨c,0,none⟩)]) 0 fun _=>TV [.one .str] (s_,()):=by
 intro yv R J Jd F w h hJ step fin fin2
 refine⟨zgh,zgj yv ⟨c,0,none⟩ ?_⟩
 unfold zbA
 have h:St w0 (tb1 b c::shN b::F) w:=h
 (refine ldC h ?_)
 refine z0u (fun q y w=>y=(0,())∧St w0 (tb1 b c::shN b::F) w) 1 ⟨rfl,h⟩ ?_
 clear h;(try clear w)
 rintro q y w ⟨rfl,h⟩ again hag
 (try dsimp only)
 refine itF rfl ?_
 exact fin F w hJ h
theorem zlw{A:List Seg}{fv:FV}{n:Nat}(hn:n≤1){x:ByteArray}(hY:YldX Pr w0 A (.func fv.fn fv.fs fv.cs) n fun _=>TV [.one .str] (x,()))(h:St w0 (A++E) w){k:Bool→PT}(hk:∀w',St w0 (A++E) w'→k true w') :
  L.call Pr z6B [.func fv.fn fv.fs fv.cs] (.one (.one .bool)) k w:=by
 refine z01 (zgk fv) ?_
 unfold zbB
 refine nw h ?_;clear h;(try clear w);intro b1 w h
 refine nw h ?_;clear h;(try clear w);intro b2 w h
 refine nw h ?_;clear h;(try clear w);intro b3 w h
 (refine stC h ?_;clear h;(try clear w);intro w h;dsimp only[putN,setN]at h;refine stC h ?_;clear h;(try clear w);intro w h;dsimp only[putN,setN]at h)
 have h:St w0 (A++([[Cl b3 z1U [.bool true]],[Cl b2 z00 [.string s_]],[Cl b1 z1U [.bool false]]]++E)) w:=St.toFront (G:=A) (A:=[[Cl b3 z1U [.bool true]],[Cl b2 z00 [.string s_]],[Cl b1 z1U [.bool false]]]) h
 refine z5j (es:=[.one .str]) (arg:=fun _=>(x,())) (A:=A) hY h
  (fun m G=>∃(y:ByteArray),G = [Cl b3 z1U [.bool (decide (m=0))]]::[Cl b2 z00 [.string y]]::[Cl b1 z1U [.bool false]]::E) (fun _ _=>False) ⟨s_,rfl⟩ ?_ ?_ (fun d j G w hh _=>hh.elim)
 ·clear h;(try clear w)
  rintro m F X w l lp d R hm ⟨y,rfl⟩ h hN hE
  have hm:m=0:=by omega
  subst hm
  have h:=St.toFront (A:=[Rec l lp .busy none]::[DfM d]::A) (G:=[[Cl b3 z1U [.bool true]],[Cl b2 z00 [.string y]],[Cl b1 z1U [.bool false]]]) (F:=E++X) h
  have h:St w0 ([Cl b3 z1U [.bool true]]::[Cl b2 z00 [.string y]]::[Cl b1 z1U [.bool false]]::[Rec l lp .busy none]::[DfM d]::(A++(E++X))) w:=h
  refine z1h (fun _ w=>St w0 ([Cl b3 z1U [.bool true]]::[Cl b2 z00 [.string y]]::[Cl b1 z1U [.bool false]]::[Rec l lp .busy none]::[DfM d]::(A++(E++X))) w) (fun k9 hk9=>?_) ?_
  ·(refine ldC h ?_)
   refine itF rfl ?_
   exact hk9 () w h
  clear h;(try clear w)
  rintro-w h
  (try dsimp only)
  (refine stC h ?_;clear h;(try clear w);intro w h;dsimp only[putN,setN]at h;refine stC h ?_;clear h;(try clear w);intro w h;dsimp only[putN,setN]at h)
  refine hN ([Cl b3 z1U [.bool false]]::[Cl b2 z00 [.string x]]::[Cl b1 z1U [.bool false]]::E) w ⟨x,rfl⟩ ?_
  exact St.toFront (A:=[[Cl b3 z1U [.bool false]],[Cl b2 z00 [.string x]],[Cl b1 z1U [.bool false]]]) (G:=[Rec l lp .busy none]::[DfM d]::A) (F:=E++X) h
 ·clear h;(try clear w)
  rintro d F w ⟨y,rfl⟩ h
  have h:=St.toFront (A:=[DfM d]::A) (G:=[[Cl b3 z1U [.bool (decide (n=0))]],[Cl b2 z00 [.string y]],[Cl b1 z1U [.bool false]]]) (F:=E) h
  have h:St w0 ([Cl b3 z1U [.bool (decide (n=0))]]::[Cl b2 z00 [.string y]]::[Cl b1 z1U [.bool false]]::[DfM d]::(A++E)) w:=h
  refine jumpN ?_
  (refine stC h ?_;clear h;(try clear w);intro w h;dsimp only[putN,setN]at h)
  (first | refine um0_ h ?_ | refine um1_ h ?_ | refine um2_ h ?_ | refine um3_ h ?_ | refine um4_ h ?_ | refine um5_ h ?_ | refine um6_ h ?_ | refine um7_ h ?_ | refine um8_ h ?_ | refine um9_ h ?_ | refine z92 h ?_ | refine z91 h ?_);clear h;(try clear w);intro w h
  (refine ldC h ?_)
  refine⟨true,rfl,hk w ?_⟩
  have h:=dl0_ (dl1_ (dl2_ h))
  exact h
theorem zpG{b:Nat}(h:St w0 (shN b::E) w){k:Bool→PT}(hk:∀w',St w0 (shN b::E) w'→k true w'):L.call Pr z9r [.agg #[.slice (some ⟨b,0,none⟩) 1 1,.slice none 0 0]] (.one (.one .bool)) k w:=by
 refine z01 (zhS (⟨some ⟨b,0,none⟩,1,1⟩,⟨none,0,0⟩,())) ?_
 unfold zcK
 refine nw h ?_;clear h;(try clear w);intro c w h
 have h:St w0 (tb1 b c::shN b::E) w:=h
 (refine ldC h ?_)
 refine z0u (fun q y w=>(q=1∧y=(0,0,())∧St w0 (tb1 b c::shN b::E) w)∨(q=0∧y=(100,1,())∧St w0 (tb1 b c::shN b::E) w)) 1 (.inl ⟨rfl,rfl,h⟩) ?_
 clear h;(try clear w)
 rintro q y w (⟨rfl,rfl,h⟩ | ⟨rfl,rfl,h⟩) again hag
 ·(try dsimp only)
  refine itT rfl ?_
  refine Rw.ix encShr9 (zoH b) (n:=(0:Int)) (by decide) (show(0:Nat)<1 by decide) fun a4 ha=>?_
  refine Rw.lda encShr9 h 1 rfl (zoH b) ha (x:=(zgf,(100:Int))) rfl (y:=(zgf,(100:Int),())) rfl ?_
  refine nw h ?_;clear h;(try clear w);intro b7 w h
  (refine stC h ?_;clear h;(try clear w);intro w h;dsimp only[putN,setN]at h;refine ldC h ?_)
  refine zpL h fun w h=>?_
  refine itF rfl ?_
  (refine ldC h ?_)
  refine itF rfl ?_
  (refine ldC h ?_)
  refine itF rfl ?_
  (refine ldC h ?_)
  exact hag 0 _ w (by decide) (.inr ⟨rfl,by kernel_rfl,dl0_ h⟩)
 ·(try dsimp only)
  refine itF rfl ?_
  (refine ldC h ?_)
  refine z0u (fun q y w=>y=(0,())∧St w0 (tb1 b c::shN b::E) w) 1 ⟨rfl,h⟩ ?_
  clear h;(try clear w)
  rintro q y w ⟨rfl,h⟩ again2 hag2
  (try dsimp only)
  refine itF rfl ?_
  refine itT rfl ?_
  (refine laC h ?_)
  refine z01 (zjE (⟨some ⟨b,0,none⟩,1,1⟩,⟨none,0,0⟩,())) ?_
  unfold ze5
  refine nw h ?_;clear h;(try clear w);intro c2 w h
  refine⟨⟨.func z5l,#[],#[.pointer (some ⟨c2,0,none⟩)]⟩,rfl,?_⟩
  have h:=fr1_ (fr2_ h)
  refine zlw (A:=[tb1 b c2,shN b]) (Nat.le_refl 1) (zqX b c2) h fun w h=>?_
  refine itT rfl ?_
  have h:St w0 (tb1 b c2::shN b::tb1 b c::E) w:=h
  (refine laC h ?_)
  refine z01 (zjD (⟨some ⟨b,0,none⟩,1,1⟩,⟨none,0,0⟩,())) ?_
  unfold ze4
  refine nw h ?_;clear h;(try clear w);intro c3 w h
  refine⟨⟨.func z5k,#[],#[.pointer (some ⟨c3,0,none⟩)]⟩,rfl,?_⟩
  have h:=fr1_ (fr2_ h)
  refine zlw (A:=[tb1 b c3,shN b]) (by decide) (zqW b c3) h fun w h=>?_
  refine⟨true,rfl,hk w ?_⟩
  have h:St w0 (tb1 b c3::shN b::tb1 b c2::tb1 b c::E) w:=h
  have h:=dl0_ (dl2_ (dl3_ h))
  exact h
theorem zfO{p0 p1:Int}(h:0<p1)(hp:p1≤2147483648){k:Int→PT}(hk:k (p0%p1) w):L.call Pr z3l [I p0,I p1] (.one (.one (.int .i64))) k w:=by
 refine z01 (zdi p0 p1) ?_
 unfold z8T
 refine gd (by omega) ?_
 have h1:=Int.emod_nonneg p0 (by omega:p1≠0)
 have h2:=Int.emod_lt_of_pos p0 h
 have e:=zjV p0 p1 h
 refine z1h (fun z w'=>z.1=p0%p1∧w'=w) (fun k' hk'=>?_) (fun y w' ⟨h1,h2⟩=>by subst h2;exact⟨_,rfl,by rw[h1];exact hk⟩)
 refine it (fun hb=>?_) (fun hb=>?_)<;>(try simp only[zB]at hb)
 ·refine hk' _ _ ⟨?_,rfl⟩
  rw[e]at hb
  dsimp only
  rw[e]
  split at hb<;>rename_i hc
  ·omega
  ·rw[if_neg hc,wr]<;>omega
 ·refine hk' _ _ ⟨?_,rfl⟩
  rw[e]at hb
  dsimp only
  rw[e]
  split at hb<;>rename_i hc
  ·rw[if_pos hc]
  ·omega
theorem zmn{ks:Int→Bool}[Kn w0 ks](hks:ks 9=true)[bTab w0](h:St w0 E w){k:Bool→PT}(hk:∀w',St w0 E w'→k true w'):L.call Pr z6x [] (.one (.one .bool)) k w:=by
 refine z01 zdQ ?_
 unfold z9k
 refine zhM h (fun hh=>absurd hh (by decide)) fun _ b s w hs h=>?_
 have inv0:SInv 0 (newSys 2 1 3):=zkd (by decide) (by decide)
 refine nw h ?_;clear h;(try clear w);intro b2 w h
 have h:St w0 (scB b2::s::E) w:=h
 obtain⟨ot,hot⟩:∃o,o=(sysDo (newSys 2 1 3) (evT0 9)).2:=⟨_,rfl⟩
 have hol:ot.length=1:=by rw[hot];decide +kernel
 refine zsu (ks:=ks) hks h fun v sv w r h=>?_
 rw[←hot]at r
 have hl:=Rw.len encS r
 rw[hol]at hl
 refine itT rfl (itT rfl (itT rfl (itT (by rw[hl];rfl) ?_)))
 refine zmu (ks:=ks) (e:=evT0 9) h 2 rfl hs hks chk9 (EvIn.plain rfl rfl fun hh=>absurd hh (show ¬((9:Int)=12∨(9:Int)=13)by decide)) inv0 (by decide) (by decide) fun v4 sv4 s4 w r4 hs inv h=>?_
 rw[←hot]at r4
 dsimp only[setN]at h
 refine zrB h (Rw.re encS 0 rfl r4) (Rw.re encS 1 rfl r) (by omega) fun w h=>?_
 refine itT (by simp) ?_
 refine nw h ?_;clear h;(try clear w);intro b6 w h
 have h:St w0 (shN b6::sv4::sv::scB b2::s4::E) w:=h
 refine zpG h fun w h=>⟨true,rfl,hk w ?_⟩
 have h:=dl0_ (dl1_ (dl2_ (dl3_ (dl4_ h))))
 exact h
def part0(s:ByteArray):ByteArray:=⟨(s.data.toList.takeWhile (· != 32)).toArray⟩
theorem zt6{l:List UInt8}{t:Nat}{x:UInt8}(h0:∀y∈l.take t,y≠32)(hx:l[t]? = some x)(hne:x=32):l.takeWhile (· != 32)=l.take t:=by
 have ht:t<l.length:=by
  rcases Nat.lt_or_ge t l.length with h | h
  ·exact h
  ·rw[List.getElem?_eq_none h]at hx;cases hx
 have hd:l.drop t=x::l.drop (t+1):=by
  rw[List.drop_eq_getElem_cons ht]
  rw[List.getElem?_eq_getElem ht]at hx
  rw[Option.some.inj hx]
 have e:l=l.take t++x::l.drop (t+1):=by rw[←hd,List.take_append_drop]
 conv=>lhs;rw[e]
 rw[List.takeWhile_append_of_pos (fun y hy=>by simpa using h0 y hy),List.takeWhile_cons_of_neg (by simp[hne]),List.append_nil]
theorem zrJ{l:List UInt8}(h0:∀y∈l,y≠32):l.takeWhile (· != 32)=l:=by
 have:=List.takeWhile_append_of_pos (p:=fun y:UInt8=>y != 32) (l₁:=l) (l₂:=[]) (fun y hy=>by simpa using h0 y hy)
 simpa using this
theorem ext0(s:ByteArray)(n:Nat):s.extract 0 n=⟨(s.data.toList.take n).toArray⟩:=by
 refine zjm ?_
 simp[ByteArray.data_extract]
theorem zrc{s:ByteArray}(hs:s.size≤1000000000){k:ByteArray→PT}(hk:k (part0 s) w):L.call Pr z7d [.string s,I 0] (.one (.one .str)) k w:=by
 refine z01 (zeJ s 0) ?_
 unfold za8
 have hsz:s.size=s.data.toList.length:=by rw[Array.length_toList];rfl
 refine z0u (fun q y w'=>y=(0,0,())∧w'=w) 1 ⟨rfl,rfl⟩ ?_
 rintro q y w' ⟨rfl,rfl⟩ again hag
 (try dsimp only)
 refine itT rfl ?_
 refine z1h (fun(z:Int×Unit) w2=>(∃t:Nat,z=((t:Int),())∧t≤s.size∧part0 s=⟨(s.data.toList.take t).toArray⟩)∧w2=w') (fun k3 hk3=>?_) ?_
 ·refine z0u (fun q y w2=>∃t:Nat,y=((t:Int),())∧q+t=s.size∧(∀x∈s.data.toList.take t,x≠32)∧w2=w') s.size ⟨0,rfl,rfl,fun x hx=>(by simp at hx),rfl⟩ ?_
  rintro q2 y w2 ⟨t,rfl,hq,h0,rfl⟩ again2 hag2
  (try dsimp only)
  refine it (fun hb=>?_) (fun hb=>?_)<;>(try simp only[zB]at hb)
  ·have ht:t<s.data.toList.length:=by omega
   have hx:s.data.toList[t]? = some s.data.toList[t]:=List.getElem?_eq_getElem ht
   generalize s.data.toList[t]=x at hx
   have hby:byteAt s (t:Int)=(x.toNat:Int):=by
    unfold byteAt
    rw[Int.toNat_natCast,List.getD_eq_getElem?_getD,hx];rfl
   refine gd (by omega) ?_
   rw[hby]
   refine it (fun hc=>?_) (fun hc=>?_)
   ·have hne:x≠32:=fun e=>by subst e;simp at hc
    refine hag2 (q2-1) _ _ (by omega) ⟨t+1,?_,by omega,fun y hy=>?_,rfl⟩
    ·have e2:IntKind.wrap .i64 ((t:Int)+1)=((t+1:Nat):Int):=by rw[wr (by omega) (by omega)];omega
     rw[e2]
    ·rw[List.take_add_one,hx]at hy
     rcases List.mem_append.1 hy with hy | hy
     ·exact h0 y hy
     ·have:y=x:=by simpa using hy
      rw[this];exact hne
   ·have he:x=32:=by
     have hc:((x.toNat:Int) != 32)=false:=hc
     simp only[bne_eq_false_iff_eq]at hc
     have:x.toNat=32:=by omega
     exact UInt8.toNat_inj.1 (by rw[this];rfl)
    exact hk3 _ _ ⟨⟨t,rfl,by omega,by unfold part0;rw[zt6 h0 hx he]⟩,rfl⟩
  ·have ht:t=s.size:=by omega
   refine hk3 _ _ ⟨⟨t,rfl,by omega,?_⟩,rfl⟩
   rw[List.take_of_length_le (by omega)]at h0 ⊢
   unfold part0
   rw[zrJ h0]
 rintro _ w2 ⟨⟨t,rfl,ht,hp⟩,rfl⟩
 (try dsimp only)
 refine itT rfl ?_
 refine gd (by omega) ?_
 refine⟨part0 s,?_,hk⟩
 rw[Int.toNat_natCast,show Int.toNat 0=0 from rfl,ext0,hp]
 rfl
abbrev cfgW(img conc min max grace:Int):Cfg:=(zbO,img,conc,min,max,grace,())
abbrev rtF:ARt:=⟨z5U,zbO,[(s_,s_,(100:Int),())],0⟩
theorem do_C{a:ASys}{ver:Int}{c:Cfg}(hv:0≤ver∧ver≤2147483647)(hc:specC c=0)(hm:mayC (tget a.sh.m c.1) ver true=0) :
  sysDo a (evC ver c)=({ a with sh:=⟨putC a.sh.m c.1 c (a.sh.n+1),a.sh.r,a.sh.n+1⟩ },[lineB (lineB zhp [c.1]) [decD (a.sh.n+1).toNat]]):=by
 rw[zfd (zqS hv hc) rfl]
 unfold sysConfig
 dsimp only
 rw[zrV hc hm]
 dsimp only
 unfold putB
 rw[if_pos rfl]
abbrev rdy1(room line pat:Int)(c:Cfg):ASys:={ newSys room line pat with sh:=⟨[(zbO,thgOf c 1 1 true)],[],1⟩ }
theorem zko(h:St w0 E w)(i:Nat){b:Nat}{a:ASys}{s:Seg}(hi:nth E i=some s)(hs:SysS b a s){rev:ByteArray}{k:Sl×Sl×Unit→PT}
  (hk:∀v1 v2 s1 s2 s' w',Rw eI z0h 1 v1 (gWait a.gt rev) s1→Rw eI z0h 1 v2 (gWith a.gt.all rev) s2→SysS b a s'→St w0 (s1::s2::setN E i s') w'→k (v1,v2,()) w') :
  L.call Pr z4e [.pointer (some ⟨b,0,none⟩),.string rev] (.tup [.one .slice,.one .slice]) k w:=by
 obtain⟨p,sg,sf,ss,sk,sr,sm,Q,R,rfl⟩:=hs
 refine z01 (zaf _ _) ?_
 unfold z6n
 have h:=(h.front i hi).split8
 (refine nn ?_;refine ldC h ?_)
 have h:=fr1_ h
 refine zjs h R.gt fun v1 v2 s1 s2 sg' w r1 r2 hG h=>?_
 refine⟨(v1,v2,()),rfl,hk v1 v2 s1 s2 _ w r1 r2 ⟨p,sg',sf,ss,sk,sr,sm,Q,⟨hG,R.fl,R.sh,R.bk,R.ro,R.mp,R.ea,R.ab⟩,rfl⟩ ?_⟩
 have h:=fr9_ (fr8_ (fr9_ (fr9_ (fr9_ (fr9_ (fr9_ (fr9_ (fr1_ (fr1_ h)))))))))
 exact St.back (E:=s1::s2::E) (i+2) hi h.glue8
theorem zkp(h:St w0 E w)(i:Nat){b:Nat}{a:ASys}{s:Seg}(hi:nth E i=some s)(hs:SysS b a s){k:Int×Int×Int×Int×Unit→PT}
  (hk:∀s' w',SysS b a s'→St w0 (setN E i s') w'→k ((a.gt.all.length:Int),(gCnt a.gt.all 2:Int),(gCnt a.gt.all 1:Int),(gCnt a.gt.all 3:Int)+gCnt a.gt.all 4,()) w') :
  L.call Pr z4f [.pointer (some ⟨b,0,none⟩)] (.tup [.one (.int .i64),.one (.int .i64),.one (.int .i64),.one (.int .i64)]) k w:=by
 obtain⟨p,sg,sf,ss,sk,sr,sm,Q,R,rfl⟩:=hs
 refine z01 (zag _) ?_
 unfold z6o
 have h:=(h.front i hi).split8
 (refine nn ?_;refine ldC h ?_)
 have h:=fr1_ h
 refine zog h R.gt fun sg' w hG h=>?_
 refine⟨(_,_,_,_,()),rfl,hk _ w ⟨p,sg',sf,ss,sk,sr,sm,Q,⟨hG,R.fl,R.sh,R.bk,R.ro,R.mp,R.ea,R.ab⟩,rfl⟩ ?_⟩
 have h:=fr1_ h
 exact St.back i hi h.glue8
abbrev wv:ByteArray:=zhn
abbrev ftR:ARoll:=[(z5U,⟨[(wv,(100:Int),())],[(wv,(100:Int),())],0,0,[(wv,(100:Int),())],[]⟩)]
structure ScI(c:Cfg)(xs:List Int)(want left:Int)(a:ASys):Prop where
 bk:a.bk.all = [(wv,rvOf wv 1 c)]
 by':a.by' = [(wv,⟨xs,want,left⟩)]
 ro:a.ro=ftR
 sh:a.sh.n=2
abbrev lnW(a:ASys):List (Int×Int):=lineOf a.gt.lines wv
theorem zke(ls:List (ByteArray×List (Int×Int)))(rev:ByteArray)(l:List (Int×Int)):lineOf (mset ls rev l) rev=l:=by
 unfold lineOf
 rw[z47,if_pos rfl];rfl
abbrev gK(a:ASys):List Int:=a.gt.all.map (·.1)
structure ScE(a b:ASys):Prop where
 keys:gK b=gK a
 nil:lnW a = []→lnW b = []
theorem ScE.refl(a:ASys):ScE a a:=⟨rfl,id⟩
theorem ScE.trans{a b c:ASys}(h:ScE a b)(g:ScE b c):ScE a c:=⟨g.keys.trans h.keys,fun e=>g.nil (h.nil e)⟩
structure ScK(n:Nat)(a:ASys):Prop where
 len:(gK a).length≤n
 ids:∀q∈gK a,1≤q∧q≤n
abbrev tdC(c:Int):Cfg:=cfgW 0 c 2 2 0
abbrev tdEvs(b4:Nat)(c:Int):List AEv:=[evC 0 (tdC c),evR 0 rtF ⟨some ⟨b4,0,none⟩,1,1⟩,evNm 10 zbO,evNm 13 wv,evN 6 1,evN 6 2,evNm 11 z5U]
abbrev tdA(c:Int):ASys:=
 ⟨⟨[(zbO,thgOf (tdC c) 1 1 true)],[(z5U,⟨rtF,2,1,true⟩)],2⟩,⟨[(wv,rvOf wv 1 (tdC c))],[(wv,true)]⟩,ftR,
  ⟨5,2,[⟨1,wv,⟨2,c,[]⟩⟩,⟨2,wv,⟨2,c,[]⟩⟩]⟩,⟨[],[(wv,[])],8,50⟩,[(wv,⟨[],2,0⟩)],0⟩
theorem zqp(c:Int)(b4:Nat):sysRun (rdy1 5 8 50 (tdC c)) (tdEvs b4 c).tail=tdA c:=by kernel_rfl
theorem zmR{c:Int}(h:1≤c∧c≤8):specC (tdC c)=0:=by
 have h1:((List.range 9).all fun c:Nat=>decide (c=0)||decide (specC (tdC c)=0))=true:=by decide +kernel
 have h2:=List.all_eq_true.1 h1 c.toNat (List.mem_range.2 (by omega))
 simp only[Bool.or_eq_true,decide_eq_true_eq]at h2
 have e:((c.toNat:Nat):Int)=c:=by omega
 rw[e]at h2
 rcases h2 with h2 | h2
 ·omega
 ·exact h2
theorem zow{c:Int}(h:1≤c∧c≤8)(b4:Nat):sysRun (newSys 5 8 50) (tdEvs b4 c)=tdA c:=by
 have h1:=do_C (a:=newSys 5 8 50) (ver:=0) (c:=tdC c) ⟨by decide,by decide⟩ (zmR h) (by rfl)
 rw[zfb,h1]
 exact zqp c b4
abbrev arEvs(m:Nat):List AEv:=(List.range m).map fun i:Nat=>evAr ((i:Int)+1) z5U s_ 0
theorem zdL(m:Nat):arEvs (m+1)=arEvs m++[evAr ((m:Int)+1) z5U s_ 0]:=by unfold arEvs;rw[List.range_succ,List.map_append];rfl
theorem zmk{m j:Nat}(h:j≤m):(arEvs m).take j=arEvs j:=by
 unfold arEvs
 rw[←List.map_take,List.take_range,Nat.min_eq_left h]
theorem zo1{m j:Nat}(h:j<m):(arEvs m)[j]? = some (evAr ((j:Int)+1) z5U s_ 0):=by
 unfold arEvs
 rw[List.getElem?_map,List.getElem?_range h]
 rfl
theorem zfk(a:ASys)(l:List AEv)(e:AEv):sysRun a (l++[e])=(sysDo (sysRun a l) e).1:=by unfold sysRun;rw[List.foldl_append];rfl
def tdOk(c m:Nat):Bool:=
 decide ((sysRun (tdA (1+(c:Int))) (arEvs m)).gt.all=(List.range m).map fun i:Nat=>((i:Int)+1,(wv,(1:Int)))) &&
 (decide (lnW (sysRun (tdA (1+(c:Int))) (arEvs m)) = []) &&
 ((List.range m).all (fun i:Nat=>(fWhere (sysRun (tdA (1+(c:Int))) (arEvs m)).fl.l ((i:Int)+1)).isSome) &&
 ((sysRun (tdA (1+(c:Int))) (arEvs m)).fl.l.all (fun x=>decide (x.rev=wv)&&decide x.pod.reqs.Nodup) &&
 (decide ((sysRun (tdA (1+(c:Int))) (arEvs m)).sh.n=2) &&
 ((sysOuts (tdA (1+(c:Int))) (arEvs m)).all (fun o=>decide (o.length=1)&&(decide (part0 (o.headD s_)=s_sent)&&decide ((o.headD s_).size≤1000))))))))
theorem zrL:((List.range 8).all fun c:Nat=>(List.range (2*(c+1)+1)).all fun m:Nat=>tdOk c m)=true:=by decide +kernel
structure DnI(m n:Nat)(a:ASys):Prop where
 len:a.gt.all.length=m
 num:(gWith a.gt.all wv).length=n
 wh:∀p∈a.gt.all,p.2=(wv,(1:Int))→(fWhere a.fl.l p.1).isSome=true
 st:∀p∈a.gt.all,(p.2=(wv,(1:Int))∨p.2=(wv,(3:Int)))∧1≤p.1∧p.1≤100
 rv:∀x∈a.fl.l,x.rev=wv∧x.pod.reqs.Nodup
 nil:lnW a = []
 sh:a.sh.n≤4
theorem zt8{c m:Nat}(hm:m≤16)(h:tdOk c m=true):DnI m m (sysRun (tdA (1+(c:Int))) (arEvs m)):=by
 unfold tdOk at h
 simp only[Bool.and_eq_true,decide_eq_true_eq]at h
 obtain⟨o1,o2,o3,o4,o5,o6⟩:=h
 generalize sysRun (tdA (1+(c:Int))) (arEvs m)=a at *
 refine⟨by rw[o1];simp,?_,fun p hp _=>?_,fun p hp=>?_,fun x hx=>?_,o2,by rw[o5];decide⟩
 ·unfold gWith
  rw[z7T,List.length_map,o1]
  rw[List.filter_eq_self.2]
  ·simp
  ·intro p hp
   obtain⟨i,_,rfl⟩:=List.mem_map.1 hp
   simp
 ·rw[o1]at hp
  obtain⟨i,hi,rfl⟩:=List.mem_map.1 hp
  exact List.all_eq_true.1 o3 i hi
 ·rw[o1]at hp
  obtain⟨i,hi,rfl⟩:=List.mem_map.1 hp
  have:=List.mem_range.1 hi
  exact⟨.inl rfl,by dsimp only;omega,by dsimp only;omega⟩
 ·have:=List.all_eq_true.1 o4 x hx
  simpa only[Bool.and_eq_true,decide_eq_true_eq]using this
theorem zgH{κ υ:Type}[DecidableEq κ]{k:κ}{v u:υ}:∀{m:List (κ×υ)},mget m k=some v→∃A B,m=A++(k,v)::B∧mset m k u=A++(k,u)::B
 | [],h=>by simp[mget]at h
 | p::m,h=>by
  simp only[mget]at h
  split at h
  ·rename_i e
   simp only[Option.some.injEq]at h
   refine⟨[],m,?_,?_⟩
   ·rw[←h,←e];rfl
   ·simp only[mset];rw[if_pos e];rfl
  ·rename_i e
   obtain⟨A,B,h1,h2⟩:=zgH (u:=u) h
   refine⟨p::A,B,by rw[h1];rfl,?_⟩
   simp only[mset];rw[if_neg e,h2];rfl
theorem zp4(wd d:ByteArray):lineB wd [d]=(wd++z8A)++d:=by
 refine zjm ?_
 simp only[ByteArray.data_append,Array.toList_append]
 unfold lineB
 rw[z9d]
 simp[Lib.join]
 rfl
theorem zqP{m n:Nat}{a:ASys}{q:Int}(I:DnI m n a)(okF:a.fl.Ok)(okG:a.gt.Ok)(hq:q∈gWith a.gt.all wv) :
  1≤q∧q≤100∧DnI m (n-1) (sysDo a (evN 5 q)).1∧(sysDo a (evN 5 q)).2 = [s_done__51ab++decD q.toNat]:=by
 obtain⟨hlen,hnum,hwh,hst,hrv,hnil,hsh⟩:=I
 have hmem:(q,(wv,(1:Int)))∈a.gt.all:=by
  unfold gWith at hq
  rw[(z7H _).mem_iff]at hq
  obtain⟨y,hy,rfl⟩:=List.mem_map.1 hq
  obtain⟨h1,h2⟩:=List.mem_filter.1 hy
  have h2:y.2=(wv,(1:Int)):=of_decide_eq_true h2
  obtain⟨y1,y2⟩:=y
  dsimp only at h2
  rw[←h2];exact h1
 obtain⟨hs1,hq1,hq2⟩:=hst _ hmem
 dsimp only at hq1 hq2
 refine⟨hq1,hq2,?_⟩
 have hch:chkEv (evN 5 q)=0:=zsk (.inl rfl) ⟨hq1,by omega⟩
 rw[zhg hch rfl]
 have hw:=hwh _ hmem rfl
 dsimp only at hw
 obtain⟨x,hx⟩:=Option.isSome_iff_exists.1 hw
 obtain⟨hxm,hxq⟩:=z9G hx
 have hxr:=(hrv x hxm).1
 have hgv:(fGive a.fl q).2.1=wv∧(fGive a.fl q).2.2=0:=by
  unfold fGive;rw[hx];exact⟨hxr,rfl⟩
 have hF:∀y∈(fGive a.fl q).1.l,y.rev=wv∧y.pod.reqs.Nodup:=by
  unfold fGive;rw[hx]
  intro y hy
  have hy:y∈fUpd a.fl.l x.id fun p=>(podGive p q).1:=hy
  rcases zf1 hy with hy | ⟨z,hz,_,rfl⟩
  ·exact hrv y hy
  ·refine⟨(hrv z hz).1,?_⟩
   dsimp only
   have hz2:=(hrv z hz).2
   unfold podGive
   split
   ·exact hz2.erase _
   ·exact hz2
 have hgw:=zmb okF (fun y hy=>(hrv y hy).2) q
 have hmg:mget a.gt.all q=some (wv,(1:Int)):=z9C okG.nda hmem
 obtain⟨A,B,hA,hA'⟩:=zgH (u:=(wv,(3:Int))) hmg
 have hnd:=okG.nda
 rw[hA]at hnd
 have hkey:∀p,p∈A∨p∈B→p.1≠q:=by
  rw[List.map_append,List.map_cons,List.nodup_append]at hnd
  obtain⟨_,n2,n3⟩:=hnd
  intro p hp e
  rcases hp with hp | hp
  ·exact n3 p.1 (List.mem_map.2 ⟨p,hp,rfl⟩) q (List.mem_cons_self ..) e
  ·exact(List.nodup_cons.1 n2).1 (List.mem_map.2 ⟨p,hp,e⟩)
 have hflow:gFlow (fGive a.fl q).1 { a.gt with all:=mset a.gt.all q (wv,(3:Int)) } wv=((fGive a.fl q).1,{ a.gt with all:=mset a.gt.all q (wv,(3:Int)),lines:=mset a.gt.lines wv [] },[]):=by
  unfold gFlow
  have hn2:lineOf a.gt.lines wv = []:=hnil
  dsimp only
  rw[hn2]
  rfl
 have hgd:gDone a.fl a.gt q=((fGive a.fl q).1,{ a.gt with all:=mset a.gt.all q (wv,(3:Int)),lines:=mset a.gt.lines wv [] },[(q,3,0,s_,())],0):=by
  unfold gDone
  rw[if_neg (by rw[hgv.2];decide),hgv.1,hflow]
 unfold sysDone
 dsimp only
 rw[hgd]
 dsimp only
 refine⟨⟨?_,?_,fun p hp h1=>?_,fun p hp=>?_,hF,?_,hsh⟩,?_⟩
 ·show(mset a.gt.all q (wv,(3:Int))).length=m
  rw[hA',←hlen,hA];simp
 ·show(gWith (mset a.gt.all q (wv,(3:Int))) wv).length=n-1
  rw[←hnum]
  unfold gWith
  rw[z7T,z7T,List.length_map,List.length_map,hA',hA,List.filter_append,List.filter_append,List.filter_cons,List.filter_cons,List.length_append,List.length_append]
  rw[if_neg (by simp),if_pos (by simp),List.length_cons]
  omega
 ·have hp:p∈mset a.gt.all q (wv,(3:Int)):=hp
  rw[hA']at hp
  have hpp:p∈A∨p∈B:=by
   rcases List.mem_append.1 hp with hp | hp
   ·exact .inl hp
   ·rcases List.mem_cons.1 hp with rfl | hp
    ·simp at h1
    ·exact .inr hp
  have hne:=hkey p hpp
  have hin:p∈a.gt.all:=by
   rw[hA]
   rcases hpp with h | h
   ·exact List.mem_append_left _ h
   ·exact List.mem_append_right _ (List.mem_cons_of_mem _ h)
  have h3:=hwh p hin h1
  have h4:=hgw p.1
  rw[if_neg hne]at h4
  obtain⟨z,hz⟩:=Option.isSome_iff_exists.1 h3
  rw[hz]at h4
  show(fWhere (fGive a.fl q).1.l p.1).isSome=true
  cases hc:fWhere (fGive a.fl q).1.l p.1 with
  | none=>rw[hc]at h4;cases h4
  | some z=>rfl
 ·have hp:p∈mset a.gt.all q (wv,(3:Int)):=hp
  rcases z1F hp with rfl | hp
  ·exact⟨.inr rfl,hq1,hq2⟩
  ·exact hst p hp
 ·show lineOf (mset a.gt.lines wv []) wv = []
  rw[zke]
 ·show(if(0:Int)≠0 then _ else _)=_
  rw[if_neg (by decide)]
  have e:fateB (q,3,0,s_,())=lineB zkT [decD q.toNat]:=rfl
  rw[List.map_cons,List.map_nil,e,zp4]
  have e2:zkT++z8A=s_done__51ab:=by decide +kernel
  rw[e2]
abbrev ksTd(k:Int):Bool:=k == 1||k == 2||k == 4||k == 5||k == 6||k == 9||k == 10||k == 11||k == 13
instance knTd [bTab w0]:Kn w0 ksTd:=⟨by
 intro E w h i b a s hi hs e hks hb ev k0 inv hk0 hn k hk
 have hc:e.kind=1∨e.kind=2∨e.kind=4∨e.kind=5∨e.kind=6∨e.kind=9∨e.kind=10∨e.kind=11∨e.kind=13:=by simpa [ksTd,or_assoc]using hks
 rcases hc with hc | hc | hc | hc | hc | hc | hc | hc | hc
 ·exact zts h i hi hs hb hc ev inv hk0 hn hk
 ·exact ztr h i hi hs hb hc ev inv hk0 hn hk
 ·exact ztq h i hi hs hb hc ev inv hk0 hn hk
 ·exact ztp h i hi hs hb hc ev inv hk0 hn hk
 ·exact zto h i hi hs hb hc ev inv hk0 hn hk
 ·exact ztn h i hi hs hb hc ev inv hk0 hn hk
 ·exact zsP h i hi hs hb hc ev inv hk0 hn hk
 ·exact zsO h i hi hs hb hc ev inv hk0 hn hk
 ·exact zsN h i hi hs hb hc ev inv hk0 hn hk⟩
theorem zt7{b4 b5:Nat}{c:Int}:∀e∈tdEvs b4 c,∀s:Seg,EvIn w0 (s::evB b5 (tdEvs b4 c)::[Cl b4 z08 [.string s_,.string s_,I 100]]::E) 0 e:=by
 intro e he s
 simp only[tdEvs,List.mem_cons,List.not_mem_nil,or_false]at he
 rcases he with rfl | rfl | rfl | rfl | rfl | rfl | rfl
 ·exact EvIn.plain rfl rfl fun h=>absurd h (show ¬((1:Int)=12∨(1:Int)=13)by decide)
 ·refine⟨?_,Nat.le_refl 1,(fun h=>by cases h),(fun t ht=>?_),fun h=>absurd h (show ¬((2:Int)=12∨(2:Int)=13)by decide)⟩
  ·exact Rw.re encT 1 rfl (Rw.lit b4 rtF.ts encT rfl rfl (by decide))
  ·rw[List.mem_singleton]at ht
   subst ht
   exact .inl rfl
 ·exact EvIn.plain rfl rfl fun h=>absurd h (show ¬((10:Int)=12∨(10:Int)=13)by decide)
 ·exact EvIn.plain rfl rfl fun _=>zoK
 ·exact EvIn.plain rfl rfl fun h=>absurd h (show ¬((6:Int)=12∨(6:Int)=13)by decide)
 ·exact EvIn.plain rfl rfl fun h=>absurd h (show ¬((6:Int)=12∨(6:Int)=13)by decide)
 ·exact EvIn.plain rfl rfl fun h=>absurd h (show ¬((11:Int)=12∨(11:Int)=13)by decide)
theorem td_k{b4:Nat}{c:Int}(h:1≤c∧c≤8):∀e∈tdEvs b4 c,ksTd e.kind=true∧chkEv e=0:=by
 intro e he
 simp only[tdEvs,List.mem_cons,List.not_mem_nil,or_false]at he
 rcases he with rfl | rfl | rfl | rfl | rfl | rfl | rfl
 ·exact⟨rfl,zqS ⟨by decide,by decide⟩ (zmR h)⟩
 ·exact⟨rfl,ztd ⟨by decide,by decide⟩ (by decide +kernel)⟩
 all_goals exact⟨rfl,by decide +kernel⟩
theorem zox{c:Int}(h:1≤c∧c≤8):specC (cfgW 0 c 0 1 0)=0:=by
 have h1:((List.range 9).all fun c:Nat=>decide (c=0)||decide (specC (cfgW 0 c 0 1 0)=0))=true:=by decide +kernel
 have h2:=List.all_eq_true.1 h1 c.toNat (List.mem_range.2 (by omega))
 simp only[Bool.or_eq_true,decide_eq_true_eq]at h2
 have e:((c.toNat:Nat):Int)=c:=by omega
 rw[e]at h2
 rcases h2 with h2 | h2
 ·omega
 ·exact h2
theorem zqx(a:ASys)(e:AEv)(h:chkEv e=0)(hk:e.kind=4):(sysDo a e).1.sh.n=a.sh.n:=by
 rw[zhh h hk]
 unfold sysArrive
 split<;>rfl
theorem znX{n:Int}(h:1≤n∧n≤1000):chkEv (evAr n z5U s_ 0)=0:=zte (by decide +kernel) (.inl rfl) ⟨h.1,by omega⟩ ⟨by decide,by decide⟩
theorem zsh{m n:Nat}{a:ASys}(I:DnI m n a)(hs:a.sh.n≤3){ver:Int}{c:Cfg}(hb:chkEv (evC ver c)=0):DnI m n (sysDo a (evC ver c)).1:=by
 have hn:=zmW a (evC ver c)
 have e:(sysDo a (evC ver c)).1.gt=a.gt∧(sysDo a (evC ver c)).1.fl=a.fl:=by
  rw[zfd hb rfl]
  unfold sysConfig
  repeat' split
  all_goals exact⟨rfl,rfl⟩
 obtain⟨h1,h2,h3,h4,h5,h6,h7⟩:=I
 refine⟨by rw[e.1];exact h1,by rw[e.1];exact h2,by rw[e.1,e.2];exact h3,by rw[e.1];exact h4,by rw[e.2];exact h5,by unfold lnW;rw[e.1];exact h6,by omega⟩
theorem zsg{m:Nat}{a:ASys}(I:DnI m 0 a):a.gt.all.length=m∧gCnt a.gt.all 2=0∧gCnt a.gt.all 1=0∧gCnt a.gt.all 3+gCnt a.gt.all 4=m:=by
 obtain⟨hlen,hnum,-,hst,-,-,-⟩:=I
 have h3:∀p∈a.gt.all,p.2=(wv,(3:Int)):=fun p hp=>by
  rcases(hst p hp).1 with h | h
  ·have hz:gWith a.gt.all wv = []:=List.length_eq_zero_iff.1 hnum
   have:p.1∈gWith a.gt.all wv:=by
    unfold gWith
    rw[(z7H _).mem_iff]
    exact List.mem_map.2 ⟨p,List.mem_filter.2 ⟨hp,by rw[h];simp⟩,rfl⟩
   rw[hz]at this;cases this
  ·exact h
 have z:∀q:Int,q≠3→gCnt a.gt.all q=0:=fun q hq=>by
  unfold gCnt
  rw[List.filter_eq_nil_iff.2,List.length_nil]
  intro p hp
  rw[h3 p hp]
  simp;omega
 have t:gCnt a.gt.all 3=m:=by
  unfold gCnt
  rw[List.filter_eq_self.2,hlen]
  intro p hp
  rw[h3 p hp];simp
 exact⟨hlen,z 2 (by decide),z 1 (by decide),by rw[t,z 4 (by decide)];rfl⟩
set_option maxRecDepth 20000 in
theorem zkn [bTab w0](x0 x1:Int)(p2:Sl){gs:List Int}(o:Old w0 eI p2 gs):Calls Pr z6M #[I x0,I x1,SlV p2] w0 fun e w'=>e = .returned (.bool true)∧St w0 [] w':=by
 refine zs6 (args:=[I x0,I x1,SlV p2]) (zaY x0 x1 p2) ?_
 unfold z6T
 have h:=St.init w0
 refine zmn (ks:=ksTd) rfl h fun w h=>itF rfl ?_
 refine zfO (by decide) (by decide) ?_
 obtain⟨c,hc⟩:∃c:Nat,x0%8=c:=⟨(x0%8).toNat,by omega⟩
 have hc8:c<8:=by omega
 rw[hc]
 refine zhM h (fun hh=>absurd hh (by decide)) fun _ b s w hs h=>itF rfl (itF rfl ?_)
 have e1:IntKind.wrap .i64 (1+(c:Int))=1+(c:Int):=wr (by omega) (by omega)
 rw[e1]
 have inv0:SInv 0 (newSys 5 8 50):=zkd (by decide) (by decide)
 have hcc:1≤1+(c:Int)∧1+(c:Int)≤8:=by omega
 refine nw h ?_;clear h;(try clear w);intro b4 w h
 refine nw h ?_;clear h;(try clear w);intro b5 w h
 have h:St w0 (evB b5 (tdEvs b4 (1+(c:Int)))::[Cl b4 z08 [.string s_,.string s_,I 100]]::s::[]) w:=h
 have h:=fr2_ h
 have ev:=zt7 (w0:=w0) (b4:=b4) (b5:=b5) (c:=1+(c:Int)) (E:=[])
 refine zlI (ks:=ksTd) (n:=7) (l:=tdEvs b4 (1+(c:Int))) rfl (by decide) h hs (td_k hcc) ev inv0 (by decide) (show(newSys 5 8 50).sh.n+((7:Nat):Int)<99 by decide) fun s w hs inv h=>?_
 rw[zow hcc b4]at hs inv
 have h:=dl1_ (dl1_ h)
 clear ev inv0
 have e2:IntKind.wrap .i64 (IntKind.wrap .i64 (2*(1+(c:Int)))+1)=((2*(c+1)+1:Nat):Int):=by rw[wr (n:=2*(1+(c:Int))) (by omega) (by omega),wr (by omega) (by omega)];omega
 rw[e2]
 refine zfO (by omega) (by omega) ?_
 obtain⟨m,hm⟩:∃m:Nat,x1%((2*(c+1)+1:Nat):Int)=m:=⟨(x1%((2*(c+1)+1:Nat):Int)).toNat,by have:=Int.emod_nonneg x1 (show((2*(c+1)+1:Nat):Int)≠0 by omega);omega⟩
 have hmc:m<2*(c+1)+1:=by have:=Int.emod_lt_of_pos x1 (show 0<((2*(c+1)+1:Nat):Int)by omega);omega
 rw[hm]
 clear hm e1 e2 hc
 have hok:tdOk c m=true:=List.all_eq_true.1 (List.all_eq_true.1 zrL c (List.mem_range.2 hc8)) m (List.mem_range.2 hmc)
 have hdn:=zt8 (by omega) hok
 have hn2:(tdA (1+(c:Int))).sh.n=2:=rfl
 have hou:∀j,j<m→∃l,(sysDo (sysRun (tdA (1+(c:Int))) (arEvs j)) (evAr ((j:Int)+1) z5U s_ 0)).2 = [l]∧part0 l=s_sent∧l.size≤1000:=fun j hj=>by
  unfold tdOk at hok
  simp only[Bool.and_eq_true,decide_eq_true_eq]at hok
  have h1:=zfc (a:=tdA (1+(c:Int))) (zo1 hj)
  rw[zmk (by omega)]at h1
  have h2:=List.all_eq_true.1 hok.2.2.2.2.2 _ (List.mem_of_getElem? h1)
  simp only[Bool.and_eq_true,decide_eq_true_eq]at h2
  obtain⟨l1,l2,l3⟩:=h2
  generalize (sysDo (sysRun (tdA (1+(c:Int))) (arEvs j)) (evAr ((j:Int)+1) z5U s_ 0)).2=o at l1 l2 l3
  rcases o with _ | ⟨l,_ | ⟨l',o⟩⟩
  ·cases l1
  ·exact⟨l,rfl,l2,l3⟩
  ·simp at l1
 clear hok
 generalize tdA (1+(c:Int))=a0 at *
 have tk:∀j,j≤16→(sysRun a0 (arEvs j)).sh.n=2:=by
  intro j
  induction j with
  | zero=>intro _;exact hn2
  | succ j ih=>
   intro hj
   rw[zdL,zfk,zqx _ _ (znX ⟨by omega,by omega⟩) rfl]
   exact ih (by omega)
 have plainEv:∀{E:List Seg}{i:Nat}{e:AEv},e.v=noSl→e.r=noRt15→¬(e.kind=12∨e.kind=13)→EvIn w0 E i e:=fun hv hr hk=>EvIn.plain hv hr fun h=>absurd h hk
 refine z0u (fun q y w=>∃(j:Nat)(s:Seg),q+j=m∧y=((j:Int)+1,())∧SysS b (sysRun a0 (arEvs j)) s∧SInv (0+2*7+2*j) (sysRun a0 (arEvs j))∧St w0 [s] w) m ⟨0,s,rfl,rfl,hs,inv,h⟩ ?_
 clear hs inv h
 rintro q y w ⟨j,s,hq,rfl,hs,inv,h⟩ again hag
 (try dsimp only)
 refine it (fun hb=>?_) (fun hb=>?_)
 ·have hb:(j:Int)+1≤(m:Int):=of_decide_eq_true hb
  have ht:=tk j (by omega)
  obtain⟨l,ho,hp,hsz⟩:=hou j (by omega)
  refine zmu (ks:=ksTd) (e:=evAr ((j:Int)+1) z5U s_ 0) h 0 rfl hs rfl (znX ⟨by omega,by omega⟩) (plainEv rfl rfl (show ¬((4:Int)=12∨(4:Int)=13)by decide)) inv (by omega) (by omega) fun v sv s' w r hs i2 h=>?_
  rw[ho]at r
  have hl:=Rw.len encS r
  refine itF (by rw[hl];rfl) ?_
  refine Rw.ix encS r (by decide) (by simp) fun a15 ha=>?_
  refine Rw.ld0 encS h 0 rfl r ha rfl rfl rfl ?_
  refine zrc (by omega) ?_
  rw[hp]
  refine itF (by rw[z3Z];simp) ?_
  refine hag (q-1) _ w (by omega) ⟨j+1,s',by omega,?_,?_,?_,dl0_ h⟩
  ·have e2:IntKind.wrap .i64 ((j:Int)+1+1)=((j+1:Nat):Int)+1:=by rw[wr (by omega) (by omega)];omega
   rw[e2]
  ·rw[zdL,zfk];exact hs
  ·rw[zdL,zfk];exact i2
 have hb:¬(j:Int)+1≤(m:Int):=of_decide_eq_false hb
 have hj:j=m:=by omega
 subst hj
 have hs2:=tk j (by omega)
 clear hag tk hou hb hn2
 generalize sysRun a0 (arEvs j)=a1 at *
 have hcf:chkEv (evC 1 (cfgW 0 (1+(c:Int)) 0 1 0))=0:=zqS ⟨by decide,by decide⟩ (zox hcc)
 have hdn:=zsh hdn (by omega) hcf
 refine zmu (ks:=ksTd) (e:=evC 1 (cfgW 0 (1+(c:Int)) 0 1 0)) h 0 rfl hs rfl hcf (plainEv rfl rfl (show ¬((1:Int)=12∨(1:Int)=13)by decide)) inv (by omega) (by omega) fun v sv s w r hs inv h=>?_
 dsimp only[setN]at h
 have h:=dl0_ h
 clear r
 generalize (sysDo a1 (evC 1 (cfgW 0 (1+(c:Int)) 0 1 0))).1=a2 at *
 refine z0u (fun q y w=>∃(i:Nat)(a:ASys)(s:Seg),q+i=j∧y=(((j-i:Nat):Int),(i:Int),())∧DnI j (j-i) a∧SysS b a s∧SInv (0+2*7+2*j+2+2*i) a∧St w0 [s] w) j ⟨0,a2,s,rfl,rfl,hdn,hs,inv,h⟩ ?_
 clear hs inv h hdn
 rintro q y w ⟨i,a,s,hq,rfl,I,hs,inv,h⟩ again hag
 (try dsimp only)
 refine it (fun hb=>?_) (fun hb=>?_)
 ·have hb:(i:Int)<(j:Int):=of_decide_eq_true hb
  have okF:=hs.ok.fl
  have okG:=hs.ok.gt
  refine zko h 0 rfl hs fun v1 v2 s1 s2 s' w r1 r2 hs h=>?_
  dsimp only[setN]at h
  have h:=dl0_ h
  change Rw eI z0h 1 v2 (gWith a.gt.all wv) s2 at r2
  have l2:v2.len=(gWith a.gt.all wv).length:=Rw.len encI r2
  rw[I.num]at l2
  have hnum:=I.num
  refine itF (by rw[l2];simp) ?_
  refine z1h (fun _ w=>St w0 (s2::s'::[]) w) (fun k22 hk22=>?_) ?_
  ·refine it (fun hc=>?_) (fun hc=>?_)
   ·have hc:(i:Int)<((p2.len:Nat):Int):=of_decide_eq_true hc
    refine oldI o h (by omega) (by(try dsimp only);omega) fun x25 hx25=>?_
    exact hk22 _ w h
   ·exact hk22 _ w h
  clear r1
  clear h;(try clear w)
  rintro⟨z,⟨⟩⟩ w h
  (try dsimp only)
  refine zfO (by omega) (by omega) ?_
  obtain⟨t,ht⟩:∃t:Nat,z%((v2.len:Nat):Int)=t:=⟨(z%((v2.len:Nat):Int)).toNat,by have:=Int.emod_nonneg z (show((v2.len:Nat):Int)≠0 by omega);omega⟩
  have htl:t<v2.len:=by have:=Int.emod_lt_of_pos z (show 0<((v2.len:Nat):Int)by omega);omega
  rw[ht]
  have hti:t<(gWith a.gt.all wv).length:=by omega
  have hx:(gWith a.gt.all wv)[t]? = some (gWith a.gt.all wv)[t]:=List.getElem?_eq_getElem hti
  have hmem:=List.getElem_mem hti
  generalize (gWith a.gt.all wv)[t]=id at hx hmem
  obtain⟨hq1,hq2,I',ho⟩:=zqP I okF okG hmem
  refine Rw.ix encI r2 (by omega) (by rw[Int.toNat_natCast];exact hti) fun a27 ha=>?_
  rw[Int.toNat_natCast]at ha
  refine Rw.ld0 encI h 0 rfl r2 ha (x:=id) hx rfl rfl ?_
  refine zmu (ks:=ksTd) (e:=evN 5 id) h 1 rfl hs rfl (zsk (.inl rfl) ⟨hq1,by omega⟩) (plainEv rfl rfl (show ¬((5:Int)=12∨(5:Int)=13)by decide)) inv (by omega) (by have:=I.sh;omega) fun v sv s3 w r hs inv h=>?_
  dsimp only[setN]at h
  rw[ho]at r
  have hl:=Rw.len encS r
  (refine dr h ?_;clear h;(try clear w);intro w h)
  refine itF (by rw[hl];rfl) ?_
  refine Rw.ix encS r (by decide) (by simp) fun a30 ha=>?_
  refine Rw.ld0 encS h 0 rfl r ha rfl rfl rfl ?_
  refine zot h (by omega) (by omega) fun w h=>?_
  refine Rw.cka encS h 0 rfl r ha rfl rfl ?_
  have d3:=zfI id.toNat
  have q4:s_done__51ab.size=5:=rfl
  refine gd (by simp only[maxI64];omega) ?_
  refine itF (by rw[z3Z];simp) ?_
  have e3:j-i-1=j-(i+1):=by omega
  rw[e3]at I'
  refine hag (q-1) _ w (by omega) ⟨i+1,_,s3,by omega,?_,I',hs,inv,?_⟩
  ·have e2:IntKind.wrap .i64 ((i:Int)+1)=((i+1:Nat):Int):=by rw[wr (by omega) (by omega)];omega
   have e4:IntKind.wrap .i64 (((j-i:Nat):Int)-1)=((j-(i+1):Nat):Int):=by rw[wr (by omega) (by omega)];omega
   rw[e2,e4]
  ·have h:=dl0_ (dl1_ h)
   exact h
 have hb:¬(i:Int)<(j:Int):=of_decide_eq_false hb
 have e5:j-i=0:=by omega
 rw[e5]at I
 obtain⟨c1,c2,c3,c4⟩:=zsg I
 refine zkp h 0 rfl hs fun s w hs h=>?_
 rw[c1,c2,c3]
 refine itT (by simp) ?_
 refine itT rfl ?_
 refine itT rfl ?_
 refine⟨?_,h.fin⟩
 have:((gCnt a.gt.all 3:Int)+gCnt a.gt.all 4)=(j:Int):=by omega
 show Value.bool (((gCnt a.gt.all 3:Int)+gCnt a.gt.all 4) == (j:Int))=_
 rw[this]
 simp
end Go.Proofs.YtdcdhcgmeahfmaaGreatDoor
