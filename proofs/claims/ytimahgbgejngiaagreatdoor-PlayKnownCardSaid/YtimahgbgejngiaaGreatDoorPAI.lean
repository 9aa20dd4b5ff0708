/- What is proved on the way to a statement of the seat, pressed (text AI). No conditions beyond those its theorems state. -/
import Derived.Test.YtimahgbgejngiaaGreatDoorPAH
set_option linter.all false
namespace Go.Proofs.YtimahgbgejngiaaGreatDoor
open Go.Dm
attribute [local irreducible] L.load L.store L.chk L.new L.nonnil L.guard L.ite L.draw L.idx L.sem L.semR L.semU L.chkSem L.next L.call L.callV L.join L.alts L.loop L.begin L.endRound L.range
variable {w0 w:World}{E:List Seg}
def yw(F:zl)(rev:B0)(q:Int):zl×Int×Bool:=
 if(yI F.l q).isSome then(F,0,false)else match Mp F.l rev with
 | none=>(F,0,false)
 | some x=>({ F with l:=xd F.l x.id λp=>(ZY p q).1 },x.id,true)
def DI:∀{R:List Zn}{b x:Option Zn},R.foldl XZ b=x→(∀y,b=some y→can y=true)→∀y,x=some y→can y=true∧(y∈R∨b=some y)
 | [],b,x,h,hb,y,hy=>by subst h;exact⟨hb y hy,.inr hy⟩
 | z::R,b,x,h,hb,y,hy=>by
  rw[List.foldl_cons]at h;have hz:∀y,XZ b z=some y→can y=true∧(y=z∨b=some y):=by
   intro y hy;unfold XZ at hy
   cases b with
   | none=>simp only at hy;split at hy<;>simp at hy;subst hy;exact⟨by assumption,.inl rfl⟩
   | some u=>
    simp only at hy;split at hy
    ·simp at hy;subst hy;rename_i h;exact⟨h.1,.inl rfl⟩
    ·simp at hy;subst hy;exact⟨hb u rfl,.inr rfl⟩
  have:=DI h (λy hy=>(hz y hy).1) y hy;refine⟨this.1,?_⟩;rcases this.2 with h | h
  ·left;simp[h]
  ·rcases(hz y h).2 with e | e
   ·left;simp[e]
   ·right;exact e
def mH{l:List Zn}{rev:B0}{x:Zn}(h:Mp l rev=some x):x∈l∧x.rev=rev∧can x=true:=by
 have:=DI h (by simp) x rfl;rcases this.2 with h2 | h2
 ·exact⟨(List.mem_filter.1 h2).1,of_decide_eq_true (List.mem_filter.1 h2).2,this.1⟩
 ·cases h2
def Ds{x:Zn}(hc:can x=true){q:Int}(hq:q∉x.pod.reqs):ZY x.pod q=({ x.pod with reqs:=gV q x.pod.reqs },0):=by
 have:=of_decide_eq_true hc;unfold ZY;rw[if_neg (by omega),if_neg hq,if_neg (by omega)]
def Lg{x:Zn}(hc:¬can x=true){q:Int}(hq:q∉x.pod.reqs):(ZY x.pod q).1=x.pod∧(ZY x.pod q).2≠0:=by
 have:¬(x.pod.st=2∧(x.pod.reqs.length:Int)<x.pod.conc):=λh=>hc (decide_eq_true h);unfold ZY;by_cases h:x.pod.st≠2
 ·rw[if_pos h];exact⟨rfl,by simp⟩
 ·rw[if_neg h,if_neg hq,if_pos (by omega)];exact⟨rfl,by simp⟩
def Nr{l:List Zn}(once:l.Pairwise (λx y=>∀q∈x.pod.reqs,q∉y.pod.reqs)){x:Zn}(hx:x∈l){q:Int}(hq:q∈x.pod.reqs):yI l q=some x:=by
 unfold yI
 induction l with
 | nil=>simp at hx
 | cons y l ih=>
  rw[List.pairwise_cons]at once;rcases List.mem_cons.1 hx with rfl | hx
  ·rw[List.find?_cons_of_pos (by simpa using hq)]
  ·rw[List.find?_cons_of_neg (by simpa using λh=>once.1 x hx q h hq)];exact ih once.2 hx
def WL{F:zl}(ok:F.Ok)(rev:B0)(q:Int):(yw F rev q).1.Ok:=by
 unfold yw;split
 ·exact ok
 ·rename_i hw;split
  ·exact ok
  ·rename_i x hp;obtain⟨hx,-,hc⟩:=mH hp;have hn:yI F.l q=none:=by cases h:yI F.l q<;>simp[h]at hw ⊢
   have ht:=Ds hc (UK hn x hx);have hcc:=of_decide_eq_true hc;refine ok.upd (Ke ok.pw hx) _ ?_ ?_
   ·rw[ht];simp only;omega
   ·rw[ht];intro q2 h2;rcases vz.1 h2 with rfl | h2
    ·exact .inr hn
    ·exact .inl h2
def rq(h:St w0 E w)(i:Nat){A B:List Tr}{t:Tr}(hi:nth E i=some ((A++t::B).map trS).flatten)(hp:OZ t.2.1 t.1.pod t.2.2)(hfew:t.1.pod.reqs.length<10000000){q:Int}{k:Int→PT}
  (hk:∀s' w',OZ t.2.1 (ZY t.1.pod q).1 s'→St w0 (ze E i ((A++({ t.1 with pod:=(ZY t.1.pod q).1 },t.2.1,s')::B).map trS).flatten) w'→k (ZY t.1.pod q).2 w') :
  L.call Pr qa [.pointer (some ⟨t.2.1,0,none⟩),I q] (.one (.one (.int .i64))) k w:=by
 refine rG (h.front i hi).pick 0 rfl hp hfew λs' w hp' h=>hk s' w hp' ?_;have h:St w0 (trS ({ t.1 with pod:=(ZY t.1.pod q).1 },t.2.1,s')::((A++B).map trS).flatten::ZE E i) w:=h;exact St.back i hi h.place
def FlR.same{F:zl}{A B:List Tr}{t:Tr}{mA mW}(hr:FlR F (A++t::B) mA mW){s':Seg}(hp:OZ t.2.1 t.1.pod s'):FlR F (A++(t.1,t.2.1,s')::B) mA mW:=by
 refine⟨by rw[hr.l];simp,λy hy=>?_,by have:=hr.all;simp only[List.map_append,List.map_cons]at this ⊢;exact this,hr.wth⟩;rcases List.mem_append.1 hy with hy | hy
 ·exact hr.ps y (by simp[hy])
 ·rcases List.mem_cons.1 hy with rfl | hy
  ·exact hp
  ·exact hr.ps y (by simp[hy])
def FlR.getW{F:zl}{L:List Tr}{mA mW}(hr:FlR F L mA mW)(q:Int):(zD mW q).isSome=(yI F.l q).isSome:=by rw[hr.wth];cases yI F.l q<;>rfl
def rZ(h:St w0 E w)(i:Nat){b:Nat}{F:zl}{s:Seg}(hi:nth E i=some s)(hf:FlS b F s){rev:B0}{q:Int}(h20:(revs F.l rev).length≤30)(hfew:∀x∈F.l,x.pod.reqs.length<10000000){k:Int×Bool×Unit→PT}
  (hk:∀s' w',FlS b (yw F rev q).1 s'→St w0 (ze E i s') w'→k ((yw F rev q).2.1,(yw F rev q).2.2,()) w') :
  L.call Pr Xq [pO b,.string rev,I q] (.tup [.one (.int .i64),.one .bool]) k w:=by
 have hf0:=hf;obtain⟨ok,rA,rW,mA,mW,sA,sW,L,hA,hW,hr,rfl⟩:=hf;refine zc (gq _ _ _) ?_;unfold Ut;have hll:L.length=F.l.length:=by rw[hr.l];simp
 have hcount:=ok.few;have h:St w0 (flB b rA rW F::sA::sW::(L.map trS).flatten::ZE E i) w:=(h.front i hi).eq (by simp)
 (refine nn ?_;refine ldC h ?_)
 refine MpS.get2 mkI pT zi (λx:Int=>x) (λ_=>rfl) h 2 rfl hW ?_;rw[hr.getW];refine it (λhc=>?_) (λhc=>?_)<;>(try simp only[zB]at hc)
 ·have e:yw F rev q=(F,0,false):=by unfold yw;rw[if_pos hc]
  rw[e]at hk;exact⟨(0,false,()),rfl,hk _ w hf0 (St.back i hi (h.eq (by simp)))⟩
 have hn:yI F.l q=none:=by cases h:yI F.l q<;>simp[h]at hc ⊢
 have hno:=UK hn;refine nw h ?_;clear h;intro b4 w h;refine rJ h λc0 c1 w h=>?_;have h:=xc (xc (YY (YY h)));have h:St w0 ([[Cl c1 zd [.string rev]],[Cl c0 Zd [.pointer (some ⟨b,0,none⟩)]],flB b rA rW F,sA]++[Cl b4 Zy [SlV ⟨none,0,0⟩]]::[]::sW::(L.map trS).flatten::ZE E i) w:=h.eq (by simp);have hR:=hr.revs rev;have hlR:(L.filter (JJ rev)).length≤30:=by rw[hR,List.length_map]at h20;exact h20
 refine qF (A:=[_,_,_,_]) (rl ok hA hr) h (λm G=>∃v sv,Rw eC zk 2 v (((L.filter (JJ rev)).take m).map λt=>key t.1) sv∧G = [Cl b4 Zy [SlV v]]::sv::sW::(L.map trS).flatten::ZE E i) (λj G=>False) ⟨_,_,Rw.nil,rfl⟩ ?_ ?_ ?_
 ·rintro m G X w lv lp d R hm ⟨v,sv,hv,rfl⟩ h hN hE;have hx:=List.getElem?_eq_getElem hm;have h:St w0 ([Rec lv lp .busy none]::[DfM d]::[Cl c1 zd [.string rev]]::[Cl c0 Zd [.pointer (some ⟨b,0,none⟩)]]::flB b rA rW F::sA::[Cl b4 Zy [SlV v]]::sv::sW::(L.map trS).flatten::(ZE E i++X)) w:=h;rw[FW hm]
  (try dsimp only)
  have hmem:=mX hm;have hps:=hr.ps _ hmem
  (refine dr h ?_;clear h;intro w h;refine ldC h ?_)
  refine Gj h 9 rfl hmem hps ?_
  (refine ckC h ?_)
  refine nw h ?_;clear h;intro b11 w h
  (refine ckC h ?_)
  refine Rw.app XS elC h 7 rfl hv (key (L.filter (JJ rev))[m].1) rfl (by simp;omega) (by simp;omega) λv' s' w hv h=>?_
  (dsimp only[ze,List.cons_append,List.nil_append]at h;refine stC h ?_;clear h;intro w h;dsimp only[zP,ze]at h)
  refine hN _ w ⟨v',s',?_,rfl⟩ h;rw[List.take_add_one,hx,List.map_append];exact hv
 ·rintro d G w ⟨v,sv,hv,rfl⟩ h;have h:St w0 ([DfM d]::[Cl c1 zd [.string rev]]::[Cl c0 Zd [.pointer (some ⟨b,0,none⟩)]]::flB b rA rW F::sA::[Cl b4 Zy [SlV v]]::sv::sW::(L.map trS).flatten::ZE E i) w:=h;rw[List.take_length]at hv;have e:(L.filter (JJ rev)).map (λt=>key t.1)=(revs F.l rev).map key:=by rw[hR,List.map_map];rfl
  rw[e]at hv;have h:=jE (vB h);refine vw ?_
  (refine ldC h ?_)
  refine lz h 4 rfl hv (by rw[List.length_map];omega) (by
   rw[List.pairwise_map];exact(ok.pw.filter _).imp λhxy=>hxy) (λc hc=>by
   obtain⟨x,hx,rfl⟩:=List.mem_map.1 hc;have:=hfew x (List.mem_filter.1 hx).1;simp only[key];omega) λsv w hv h=>?_
  have hfp:=Pz (p:=λc=>((qu F.l c.2).map can).getD false) _ (R:=revs F.l rev) rfl λx hx=>by
   have:=Ke ok.pw (List.mem_filter.1 hx).1;show((qu F.l x.id).map can).getD false=_;rw[this];rfl
  have hcm:∀c∈yx ((revs F.l rev).map key),∃x∈F.l,c=key x:=λc hc=>by
   obtain⟨x,hx,rfl⟩:=List.mem_map.1 ((xq _).mem_iff.1 hc);exact⟨x,(List.mem_filter.1 hx).1,rfl⟩
  have hpk:Mp F.l rev=(revs F.l rev).foldl XZ none:=rfl;rw[←hpk]at hfp;have hcl:(yx ((revs F.l rev).map key)).length≤30:=by rw[yW,List.length_map];exact h20
  have hlv:=Rw.len XS hv;generalize yx ((revs F.l rev).map key)=cs at hv hfp hcm hcl hlv
  (dsimp only[ze,List.cons_append,List.nil_append]at h;refine ldC h ?_)
  have h:St w0 ([DfM d]::flB b rA rW F::sA::[Cl b4 Zy [SlV v]]::sv::sW::(L.map trS).flatten::ZE E i) w:=h
  refine Zh (λp y w=>∃(j:Nat)(L:List Tr),y=((j:Int),())∧p+j=cs.length∧(∀c∈cs.take j,((qu F.l c.2).map can).getD false=false)∧FlR F L mA mW∧
   St w0 ([DfM d]::flB b rA rW F::sA::[Cl b4 Zy [SlV v]]::sv::sW::(L.map trS).flatten::ZE E i) w) cs.length ⟨0,L,rfl,rfl,by simp,hr,h⟩ ?_
  clear hr hf0 hR hlR e hll;clear h;rintro p y w ⟨j,L,rfl,hp,hfn,hr,h⟩ again hag
  (try dsimp only)
  refine it (λhc=>?_) (λhc=>?_)<;>(try simp only[zB]at hc)
  ·have hj:j<cs.length:=by omega
   have hxj:cs[j]? = some cs[j]:=List.getElem?_eq_getElem hj;have hdrop:cs=cs.take j++cs[j]::cs.drop (j+1):=by rw[←List.drop_eq_getElem_cons hj,List.take_append_drop]
   obtain⟨x,hxl,hcx⟩:=hcm _ (List.getElem_mem hj);rw[hcx]at hxj hdrop;have hfx:=Ke ok.pw hxl;obtain⟨A,t,B,rfl,rfl,-⟩:=hr.at hfx;have hg:=hr.get ok (t:=t) (by simp);have hps:=hr.ps t (by simp);have hqx:=hno t.1 hxl;refine Rw.ix XS hv (by omega) (by simpa using hj) λa ha=>?_;rw[Int.toNat_natCast]at ha;refine Rw.lda XS h 4 rfl hv ha hxj rfl ?_;refine nw h ?_;clear h;intro b22 w h
   (refine stC h ?_;clear h;intro w h;dsimp only[zP,ze]at h;refine dr h ?_;clear h;intro w h;refine nn ?_;refine ldC h ?_;refine ldC h ?_)
   refine MpS.get mkI Xy zo (λx:B0×Option Addr=>(x.1,x.2,())) (λ_=>rfl) h 3 rfl hA ?_;rw[show zD mA (key t.1).2=_ from hg];simp only[Option.map_some,Option.getD_some];refine rq h 7 rfl hps (hfew _ hxl) λs' w hps' h=>?_;by_cases hcan:can t.1=true
   ·have ht:=Ds hcan hqx;refine itT (by rw[ht];rfl) ?_;have hfd:Mp F.l rev=some t.1:=by
     have:cs.find? (λc=>((qu F.l c.2).map can).getD false)=some (key t.1):=by
      rw[hdrop,List.find?_append,List.find?_cons_of_pos (by show((qu F.l t.1.id).map can).getD false=true;rw[hfx];exact hcan)];rw[List.find?_eq_none.2 (λc hc=>by rw[hfn c hc];simp)];rfl
     rw[this]at hfp
     cases hpk:Mp F.l rev with
     | none=>rw[hpk]at hfp;cases hfp
     | some y=>
      rw[hpk]at hfp;have hid:y.id=t.1.id:=by simp only[Option.map_some,Option.some.injEq,key,Prod.mk.injEq]at hfp;exact hfp.2.symm
      have h1:=Ke ok.pw (mH hpk).1;rw[hid,hfx]at h1;exact h1.symm
    have e:yw F rev q=({ F with l:=xd F.l t.1.id λp=>(ZY p q).1 },t.1.id,true):=by
     unfold yw;rw[hn,hfd];rfl
    have okT:=WL ok rev q;rw[e]at hk okT;have hrq:(ZY t.1.pod q).1.reqs=gV q t.1.pod.reqs:=by rw[ht]
    have hst:(ZY t.1.pod q).1.st≠4:=by rw[ht];have:=of_decide_eq_true hcan;simp only;omega
    (dsimp only[ze,List.cons_append,List.nil_append]at h;refine dr h ?_;clear h;intro w h;refine nn ?_;refine ldC h ?_;refine ldC h ?_)
    refine MpS.set mkI pT h 6 rfl hW t.1.id rfl λsW' w hW' h=>?_
    (dsimp only[ze,List.cons_append,List.nil_append]at h;refine ldC h ?_)
    (first | refine OE h ?_ | refine OD h ?_ | refine OC h ?_ | refine OB h ?_ | refine OA h ?_ | refine Oz h ?_ | refine Oy h ?_ | refine Ox h ?_ | refine Ow h ?_ | refine Ov h ?_ | refine uH h ?_ | refine uG h ?_);clear h;intro w h
    refine⟨(t.1.id,true,()),rfl,hk _ w ⟨okT,rA,rW,mA,_,sA,sW',_,hA,hW',hr.upd ok (λp=>(ZY p q).1) hps' hst λq'=>?_,rfl⟩ ?_⟩
    ·rw[XE,ok.where_upd hfx _ (λq2 h2=>by
      rw[hrq]at h2;rcases vz.1 h2 with rfl | h2
      ·exact .inr hn
      ·exact .inl h2) (λh4=>absurd h4 hst),hrq]
     by_cases eq:q=q'
     ·subst eq;rw[if_pos rfl,if_pos (vz.2 (.inl rfl))]
     ·rw[if_neg eq];by_cases hq2:q'∈t.1.pod.reqs
      ·rw[if_pos (vz.2 (.inr hq2)),hr.wth,Nr ok.once hxl hq2];rfl
      ·rw[if_neg (λhh=>(vz.1 hh).elim (λe=>eq e.symm) hq2),if_neg hq2,hr.wth]
    ·refine St.back i hi ?_
     (try dsimp only[ze]at h)
     have h:=zy (QJ (Kh h));exact h.eq (by simp)
   ·have ht:=Lg hcan hqx;refine itF (by simpa using ht.2) ?_;rw[ht.1]at hps';have h:=zy h;refine hag (p-1) _ w (by omega) ⟨j+1,A++(t.1,t.2.1,s')::B,?_,by omega,?_,hr.same hps',?_⟩
    ·rw[wr (by omega) (by omega)];simp
    ·intro c hc;rw[List.take_add_one,hxj]at hc;rcases List.mem_append.1 hc with hc | hc
     ·exact hfn c hc
     ·simp at hc;subst hc;show((qu F.l t.1.id).map can).getD false=false;rw[hfx];simpa using hcan
    ·have h:St w0 ([DfM d]::flB b rA rW F::sA::[Cl b4 Zy [SlV v]]::sv::sW::((A++({ t.1 with pod:=(ZY t.1.pod q).1 },t.2.1,s')::B).map trS).flatten::ZE E i) w:=h;rw[ht.1]at h;exact h
  ·have hj:j=cs.length:=by omega
   subst hj;rw[List.take_length]at hfn;have hfd:Mp F.l rev=none:=by
    rw[List.find?_eq_none.2 (λc hc=>by rw[hfn c hc];simp)]at hfp
    cases hpk:Mp F.l rev with
    | none=>rfl
    | some y=>rw[hpk]at hfp;cases hfp
   have e:yw F rev q=(F,0,false):=by unfold yw;rw[hn,hfd];rfl
   rw[e]at hk
   (first | refine OE h ?_ | refine OD h ?_ | refine OC h ?_ | refine OB h ?_ | refine OA h ?_ | refine Oz h ?_ | refine Oy h ?_ | refine Ox h ?_ | refine Ow h ?_ | refine Ov h ?_ | refine uH h ?_ | refine uG h ?_);clear h;intro w h
   refine⟨(0,false,()),rfl,hk _ w ⟨ok,rA,rW,mA,mW,sA,sW,L,hA,hW,hr,rfl⟩ (St.back i hi ?_)⟩;have h:=vB (QJ h);exact h.eq (by simp)
 ·rintro d j G w hf;exact hf.elim
def Qq(F:zl)(q:Int):zl×B0×Int:=match yI F.l q with
 | none=>(F,s_,6)
 | some x=>({ F with l:=xd F.l x.id λp=>(LA p q).1 },x.rev,0)
def UM(F:zl)(id:Int):zl×List Int×Int:=match qu F.l id with
 | none=>(F,[],6)
 | some x=>({ F with l:=xd F.l id λp=>(FN p).1 },x.pod.reqs,0)
def eH(p:Int×Int):List Value:=[I p.1,I p.2]
def Ns:Enc eH 2:=⟨λ_=>rfl,λ_=>rfl,by decide⟩
def elH:El Pr ZK Yt 2 16 (.agg #[I 0,I 0]):=Kf (by kernel_rfl) (by kernel_rfl) rfl (by decide)
def LnS(b:Nat)(room:Int)(l:List (Int×Int))(s:Seg):Prop:=∃v sr,Rw eH Yt 2 v l sr∧s = [Cl b UO [SlV v,I room]]++sr
def pb(l:List (Int×Int))(id:Int):Bool:=l.any λx=>x.1 == id
def Qp(room:Int)(l:List (Int×Int))(id u:Int):List (Int×Int)×Int:=
 if pb l id then(l,5)else if(l.length:Int)≥room then(l,8)else(l++[(id,u)],0)
def Yn(l:List (Int×Int))(now:Int):List Int:=(l.filter λx=>x.2≤now).map (·.1)
def oW(l:List (Int×Int))(now:Int):List (Int×Int):=l.filter λx=>!decide (x.2≤now)
def bQ(h:St w0 E w){room:Int}{k:Option Addr→PT}(hk:∀b s w',LnS b room [] s→St w0 (s::E) w'→k (some ⟨b,0,none⟩) w'):L.call Pr OL [I room] (.one (.one .ptr)) k w:=by
 refine zc (Dc _) ?_;unfold MD;refine nw h ?_;clear h;intro b w h;exact⟨_,rfl,hk b _ w ⟨⟨none,0,0⟩,[],Rw.nil,rfl⟩ (h.eq (by simp))⟩
def dL(h:St w0 E w)(i:Nat){b:Nat}{room:Int}{l:List (Int×Int)}{s:Seg}(hi:nth E i=some s)(hl:LnS b room l s){k:Int→PT}(hk:k l.length w):L.call Pr JA [pO b] (.one (.one (.int .i64))) k w:=by
 obtain⟨v,sr,hr,rfl⟩:=hl;refine zc (Fz _) ?_;unfold VQ;have h:=(h.front i hi).split
 (refine nn ?_;refine ldC h ?_)
 refine⟨_,rfl,?_⟩;rw[Rw.len Ns hr];exact hk
def dV(h:St w0 E w){b:Nat}{k:FV→PT}(hk:∀c w',St w0 ([Cl c jZ [.pointer (some ⟨b,0,none⟩)]]::E) w'→k ⟨.func Yd,#[],#[.pointer (some ⟨c,0,none⟩)]⟩ w') :
  L.call Pr Yv [pO b] (.one (.one .func)) k w:=by
 refine zc (oC _) ?_;unfold QU;refine nw h ?_;clear h;intro c w h;exact⟨_,rfl,hk c w h⟩
def ll(l:List (Int×Int))(m:Nat):TT [.one (.int .i64),.one (.int .i64)]:=(((l[m]?).getD (0,0)).1,((l[m]?).getD (0,0)).2,())
def dI{b c T:Nat}{rm:Value}{v:Sl}{l:List (Int×Int)}{sr:Seg}(hr:Rw eH Yt 2 v l sr)(hn:l.length<1000000000) :
  Yld Pr w0 [[Cl c jZ [.pointer (some ⟨b,0,none⟩)]],[Cl b T [SlV v,rm]],sr] (.func (.func Yd) #[] #[.pointer (some ⟨c,0,none⟩)]) l.length λm=>TV _ (ll l m):=by
 intro yv R J Jd F w h hJ step fin fin2;have hlen:=Rw.len Ns hr;refine⟨kc,kf yv ⟨c,0,none⟩ ?_⟩;unfold qv
 (dsimp only[ze,List.cons_append,List.nil_append]at h;refine ldC h ?_;refine nn ?_;refine ldC h ?_)
 refine Zh (λq y w=>∃(m:Nat)(F:List Seg),@Eq Int y.1 m∧q+m=l.length∧J m F∧St w0 ([Cl c jZ [.pointer (some ⟨b,0,none⟩)]]::[Cl b T [SlV v,rm]]::sr::F) w) l.length ⟨0,F,rfl,rfl,hJ,h⟩ ?_;rintro q ⟨y,⟨⟩⟩ w ⟨m,F,hy,hq,hJ,h⟩ again hag;simp only at hy;subst hy;refine it (λhb=>?_) (λhb=>?_)<;>(try simp only[zB]at hb)
 ·have hm:m<l.length:=by omega
  have hx:l[m]? = some l[m]:=List.getElem?_eq_getElem hm;refine Rw.ix Ns hr (by omega) (by simpa using hm) λa ha=>?_;refine Rw.lda Ns h 2 rfl hr ha (x:=l[m]) (by simpa using hx) rfl ?_;refine nw h ?_;clear h;intro b2 w h
  (refine stC h ?_;clear h;intro w h;dsimp only[zP,ze]at h;refine ldC h ?_;refine ldC h ?_)
  have h:=zy h;have ea:TV _ (ll l m) = [I l[m].1,I l[m].2]:=by simp[ll,hx];rfl
  have step:=step m F w hm hJ h;simp only[ea]at step;refine cv (Jg.mono step λu w' hu=>?_);rcases hu with ⟨rfl,F',h,hJ⟩ | ⟨rfl,hd⟩
  ·refine⟨true,rfl,itF rfl (hag (q-1) _ _ (by omega) ⟨m+1,F',?_,by omega,hJ,h⟩)⟩;show Wi _=_;rw[wr (by omega) (by omega)];omega
  ·exact⟨false,rfl,itT rfl (fin2 w' hd)⟩
 ·have e:m=l.length:=by omega
  subst e;exact fin F w hJ h
def Tc{l:List (Int×Int)}{m:Nat}{x:Int×Int}(hx:l[m]? = some x):ll l m=(x.1,x.2,()):=by simp[ll,hx]
def Ni{l:List (Int×Int)}{id:Int}{m:Nat}{x:Int×Int}(hx:l[m]? = some x):pb (l.take (m+1)) id=(pb (l.take m) id||x.1 == id):=by
 simp[pb,List.take_add_one,hx]
def LO{l:List (Int×Int)}{id:Int}{m:Nat}{x:Int×Int}(hx:l[m]? = some x)(h:x.1=id):pb l id=true:=by
 simp only[pb,List.any_eq_true];exact⟨x,List.mem_of_getElem? hx,by simpa using h⟩
def Aq(h:St w0 E w)(i:Nat){b:Nat}{room:Int}{l:List (Int×Int)}{s:Seg}(hi:nth E i=some s)(hl:LnS b room l s)(hn:l.length<1000000000){id:Int}{k:Bool→PT}(hk:∀w',St w0 E w'→k (pb l id) w') :
  L.call Pr Xi [pO b,I id] (.one (.one .bool)) k w:=by
 obtain⟨v,sr,hr,rfl⟩:=hl;refine zc (ge _ _) ?_;unfold Uj;have h:=(h.front i hi).split;refine nw h ?_;clear h;intro b1 w h;refine nw h ?_;clear h;intro b2 w h;refine dV h λc w h=>?_;have h:=ZR (YY (YY h))
 refine mE (dI hr hn) h (λm F=>F = [Cl b2 Vw [.bool (pb (l.take m) id)]]::[Cl b1 zm [I id]]::ZE E i∧pb (l.take m) id=false)
  (λj G=>∃s0 s1,G=s0::[Cl b UO [SlV v,I room]]::sr::[Cl b2 Vw [.bool true]]::s1::ZE E i∧pb l id=true∧j = .ret) ⟨rfl,rfl⟩ ?_ ?_ ?_
 ·rintro m F w lv lp d R hm ⟨rfl,hf⟩ h hN hE;have hx:l[m]? = some l[m]:=List.getElem?_eq_getElem hm;rw[Tc hx];have ht:=Ni (id:=id) hx
  (dsimp only[ze,List.cons_append,List.nil_append]at h;refine ldC h ?_)
  refine it (λhb=>?_) (λhb=>?_)<;>(try simp only[zB]at hb)
  ·(refine stC h ?_;clear h;intro w h;dsimp only[zP,ze]at h)
   exact hE _ _ w ⟨_,_,rfl,LO hx hb,rfl⟩ h
  ·refine hN _ w ⟨rfl,?_⟩ ?_
   ·rw[ht,hf];simpa using hb
   ·rw[ht,hf];have:(false||l[m].1 == id)=false:=by simpa using hb
    rw[this,←hf];exact h
 ·rintro d F w ⟨rfl,hf⟩ h;refine vw ?_;rw[List.take_length]at hf h
  (dsimp only[ze,List.cons_append,List.nil_append]at h;refine stC h ?_;clear h;intro w h;dsimp only[zP,ze]at h)
  (first | refine OE h ?_ | refine OD h ?_ | refine OC h ?_ | refine OB h ?_ | refine OA h ?_ | refine Oz h ?_ | refine Oy h ?_ | refine Ox h ?_ | refine Ow h ?_ | refine Ov h ?_ | refine uH h ?_ | refine uG h ?_);clear h;intro w h
  (refine ldC h ?_)
  refine⟨_,rfl,?_⟩;rw[←hf];refine hk w ?_;have h:=zy (QJ (Kh h));have h:=St.back i hi h.glue
  rwa [yD hi]at h
 ·rintro d j F w ⟨_,_,rfl,hf,rfl⟩ h;refine Ae ?_
  (first | refine OE h ?_ | refine OD h ?_ | refine OC h ?_ | refine OB h ?_ | refine OA h ?_ | refine Oz h ?_ | refine Oy h ?_ | refine Ox h ?_ | refine Ow h ?_ | refine Ov h ?_ | refine uH h ?_ | refine uG h ?_);clear h;intro w h
  (refine ldC h ?_)
  refine⟨_,rfl,?_⟩;rw[←hf];refine hk w ?_;have h:=zy (QJ (Kh h));have h:=St.back i hi h.glue
  rwa [yD hi]at h
def St.setN_same{s:Seg}(i:Nat)(hi:nth E i=some s)(h:St w0 (ze E i s) w):St w0 E w:=by rwa [yD hi]at h
def Bk(h:St w0 E w)(i:Nat){b:Nat}{room:Int}{l:List (Int×Int)}{s:Seg}(hi:nth E i=some s)(hl:LnS b room l s)(hn:l.length<1000000000){id u:Int}{k:Int→PT}
  (hk:∀s' w',LnS b room (Qp room l id u).1 s'→St w0 (ze E i s') w'→k (Qp room l id u).2 w'):L.call Pr xD [pO b,I id,I u] (.one (.one (.int .i64))) k w:=by
 refine zc (fo _ _ _) ?_;unfold vD
 (refine nn ?_)
 refine Aq h i hi hl hn λw h=>?_;refine it (λhb=>?_) (λhb=>?_)<;>(try simp only[zB]at hb)
 ·have e:Qp room l id u=(l,5):=by simp[Qp,hb]
  rw[e]at hk;exact⟨_,rfl,hk s w hl (by rwa [yD hi])⟩
 have hl':=hl;obtain⟨v,sr,hr,rfl⟩:=hl
 (refine dr h ?_;clear h;intro w h;refine nn ?_)
 have h:=(h.front i hi).split;refine ldx h 0 rfl rfl rfl ?_;have h:St w0 E w:=by have h:=St.back i hi h.glue;rwa [yD hi]at h
 refine dL h i hi hl' ?_;have h:=(h.front i hi).split
 (refine ckC h ?_)
 refine it (λhc=>?_) (λhc=>?_)<;>(try simp only[zB]at hc)
 ·have e:Qp room l id u=(l,8):=by simp only[Qp,hb];rw[if_neg (by simp),if_pos hc]
  rw[e]at hk;exact⟨_,rfl,hk _ w hl' (St.back i hi h.glue)⟩
 have e:Qp room l id u=(l++[(id,u)],0):=by simp only[Qp,hb];rw[if_neg (by simp),if_neg hc]
 rw[e]at hk
 (refine nn ?_;refine ldC h ?_)
 refine nw h ?_;clear h;intro b8 w h;refine Rw.app Ns elH h 1 rfl hr (id,u) rfl (by omega) (by omega) λv' s' w hr h=>?_
 (dsimp only[ze,List.cons_append,List.nil_append]at h;refine nn ?_;refine stC h ?_;clear h;intro w h;dsimp only[zP,ze]at h)
 exact⟨_,rfl,hk _ w ⟨v',s',hr,rfl⟩ (St.back i hi h.glue)⟩
def Az(h:St w0 E w)(i:Nat){b:Nat}{room:Int}{l:List (Int×Int)}{s:Seg}(hi:nth E i=some s)(hl:LnS b room l s)(hn:l.length<1000000000){k:Sl→PT}
  (hk:∀v s' w',Rw eI zm 1 v (l.map (·.1)) s'→St w0 (s'::E) w'→k v w'):L.call Pr QG [pO b] (.one (.one .slice)) k w:=by
 have hl':=hl;obtain⟨v,sr,hr,rfl⟩:=hl;refine zc (FA _) ?_;unfold VR;refine dL h i hi hl' ?_;refine mk0 elI xp h (by omega) (by omega) (by omega) λv2 s2 w hr2 h=>?_;refine nw h ?_;clear h;intro b3 w h
 (refine stC h ?_;clear h;intro w h;dsimp only[zP,ze]at h;refine nn ?_)
 refine dV h λc w h=>?_;have h:=(h.front (i+3) hi).split;have h:=ZR (Yx (Yx h))
 refine mE (dI hr hn) h (λm F=>∃v2 s2,F = [Cl b3 Zv [SlV v2]]::s2::ZE E i∧Rw eI zm 1 v2 ((l.take m).map (·.1)) s2)
  (λj G=>False) ⟨_,_,rfl,hr2⟩ ?_ ?_ ?_
 ·rintro m F w lv lp d R hm ⟨v2,s2,rfl,hr2⟩ h hN hE;have hx:l[m]? = some l[m]:=List.getElem?_eq_getElem hm;rw[Tc hx]
  (dsimp only[ze,List.cons_append,List.nil_append]at h;refine ldC h ?_)
  refine nw h ?_;clear h;intro b12 w h;refine Rw.app xp elI h 6 rfl hr2 l[m].1 rfl (by simp;omega) (by simp;omega) λv' s' w hr h=>?_
  (dsimp only[ze,List.cons_append,List.nil_append]at h;refine stC h ?_;clear h;intro w h;dsimp only[zP,ze]at h)
  refine hN _ w ⟨v',s',rfl,?_⟩ h;rw[List.take_add_one,hx,List.map_append];exact hr
 ·rintro d F w ⟨v2,s2,rfl,hr2⟩ h;refine vw ?_
  (dsimp only[ze,List.cons_append,List.nil_append]at h;refine ldC h ?_)
  (first | refine OE h ?_ | refine OD h ?_ | refine OC h ?_ | refine OB h ?_ | refine OA h ?_ | refine Oz h ?_ | refine Oy h ?_ | refine Ox h ?_ | refine Ow h ?_ | refine Ov h ?_ | refine uH h ?_ | refine uG h ?_);clear h;intro w h
  rw[List.take_length]at hr2;refine⟨v2,rfl,hk _ s2 w hr2 ?_⟩;have h:=xc (xc (YY h));have h:=QJ (Kh h);have h:=St.back (i+1) (E:=s2::E) hi h.glue;have h:=St.setN_same (i+1) (E:=s2::E) hi h;exact h
 ·rintro d j F w hf;exact hf.elim
def Mb{l:List (Int×Int)}{now:Int}{m:Nat}{x:Int×Int}(hx:l[m]? = some x):Yn (l.take (m+1)) now=Yn (l.take m) now++(if x.2≤now then [x.1]else []):=by
 simp only[Yn,List.take_add_one,hx,List.filter_append,List.map_append]
 congr 1
 by_cases h:x.2≤now<;>simp[h]
def Ma{l:List (Int×Int)}{now:Int}{m:Nat}{x:Int×Int}(hx:l[m]? = some x):oW (l.take (m+1)) now=oW (l.take m) now++(if x.2≤now then []else [x]):=by
 simp only[oW,List.take_add_one,hx,List.filter_append]
 congr 1
 by_cases h:x.2≤now<;>simp[h]
def Pn(l:List (Int×Int))(now:Int):(Yn l now).length≤l.length:=by
 unfold Yn;rw[List.length_map];exact List.length_filter_le ..
def Pm(l:List (Int×Int))(now:Int):(oW l now).length≤l.length:=List.length_filter_le ..
def Bm(h:St w0 E w)(i:Nat){b:Nat}{room:Int}{l:List (Int×Int)}{s:Seg}(hi:nth E i=some s)(hl:LnS b room l s)(hn:l.length<1000000000){now:Int}{k:Sl→PT}
  (hk:∀v s' s2 w',LnS b room (oW l now) s'→Rw eI zm 1 v (Yn l now) s2→St w0 (s2::ze E i s') w'→k v w'):L.call Pr qJ [pO b,I now] (.one (.one .slice)) k w:=by
 obtain⟨v,sr,hr,rfl⟩:=hl;refine zc (fq _ _) ?_;unfold vE
 (refine nn ?_)
 refine zc (oB _ _) ?_;unfold QT;have h:=(h.front i hi).split;refine nw h ?_;clear h;intro b1 w h;refine nw h ?_;clear h;intro b2 w h;refine nw h ?_;clear h;intro b3 w h;refine dV h λc w h=>?_;have h:=ZR (vf (vf h));have h:St w0 ([Cl c jZ [.pointer (some ⟨b,0,none⟩)]]::[Cl b UO [SlV v,I room]]::sr::[Cl b3 ZK [SlV ⟨none,0,0⟩]]::[]::[Cl b2 Zv [SlV ⟨none,0,0⟩]]::[]::[Cl b1 zm [I now]]::ZE E i) w:=h.eq (by simp)
 refine mE (dI hr hn) h (λm F=>∃v2 s2 v3 s3,F = [Cl b3 ZK [SlV v3]]::s3::[Cl b2 Zv [SlV v2]]::s2::[Cl b1 zm [I now]]::ZE E i∧Rw eI zm 1 v2 (Yn (l.take m) now) s2∧Rw eH Yt 2 v3 (oW (l.take m) now) s3)
  (λj G=>False) ⟨_,_,_,_,rfl,Rw.nil,Rw.nil⟩ ?_ ?_ ?_
 ·rintro m F w lv lp d R hm ⟨v2,s2,v3,s3,rfl,hr2,hr3⟩ h hN hE;have hx:l[m]? = some l[m]:=List.getElem?_eq_getElem hm;have n2:=Pn (l.take m) now;have n3:=Pm (l.take m) now;simp only[List.length_take]at n2 n3;rw[Tc hx]
  (dsimp only[ze,List.cons_append,List.nil_append]at h;refine ldC h ?_)
  refine it (λhb=>?_) (λhb=>?_)<;>(try simp only[zB]at hb)
  ·(refine ldC h ?_)
   refine nw h ?_;clear h;intro b12 w h;refine Rw.app xp elI h 8 rfl hr2 l[m].1 rfl (by omega) (by omega) λv' s' w hr' h=>?_
   (dsimp only[ze,List.cons_append,List.nil_append]at h;refine stC h ?_;clear h;intro w h;dsimp only[zP,ze]at h)
   refine hN _ w ⟨v',s',v3,s3,rfl,?_,?_⟩ h
   ·rw[Mb hx,if_pos hb];exact hr'
   ·rw[Ma hx,if_pos hb,List.append_nil];exact hr3
  ·(refine ldC h ?_)
   refine nw h ?_;clear h;intro b15 w h;refine Rw.app Ns elH h 6 rfl hr3 l[m] rfl (by omega) (by omega) λv' s' w hr' h=>?_
   (dsimp only[ze,List.cons_append,List.nil_append]at h;refine stC h ?_;clear h;intro w h;dsimp only[zP,ze]at h)
   refine hN _ w ⟨v2,s2,v',s',rfl,?_,?_⟩ h
   ·rw[Mb hx,if_neg hb,List.append_nil];exact hr2
   ·rw[Ma hx,if_neg hb];exact hr'
 ·rintro d F w ⟨v2,s2,v3,s3,rfl,hr2,hr3⟩ h;refine vw ?_;rw[List.take_length]at hr2 hr3;have n2:=Pn l now
  (dsimp only[ze,List.cons_append,List.nil_append]at h;refine ldC h ?_;refine nn ?_;refine stC h ?_;clear h;intro w h;dsimp only[zP,ze]at h;refine ldC h ?_)
  refine Ks h (hr2.rd xp h 7 rfl) (by omega) (Rw.nil_of xp hr2) λv' s' w hr' _ h=>?_
  (first | refine OE h ?_ | refine OD h ?_ | refine OC h ?_ | refine OB h ?_ | refine OA h ?_ | refine Oz h ?_ | refine Oy h ?_ | refine Ox h ?_ | refine Ow h ?_ | refine Ov h ?_ | refine uH h ?_ | refine uG h ?_);clear h;intro w h
  refine⟨v',rfl,v',rfl,hk v' _ s' w ⟨v3,s3,hr3,rfl⟩ hr' ?_⟩;have h:=xc (vf h);have h:=QJ (Kh (du (pc (Aj (sG h)))));exact St.back (i+1) (E:=s'::E) hi h.glue
 ·rintro d j F w hf;exact hf.elim
def GB(x:B0×Int):Value:=.agg #[.string x.1,I x.2]
abbrev Yz:=HT [.int .i64,.int .i64,.int .i64,.str]
abbrev PD:E1:=.agg [.int .i64,.int .i64,.int .i64,.str]
abbrev Yz.cells(f:Yz):List Value:=[I f.1,I f.2.1,I f.2.2.1,.string f.2.2.2.1]
def fb:Enc Yz.cells 4:=⟨λ_=>rfl,λ_=>rfl,by decide⟩
def elF:El Pr zR zL 4 40 (.agg #[I 0,I 0,I 0,.string s_]):=Kf (by kernel_rfl) (by kernel_rfl) rfl (by decide)
structure Zq where
 all:List (Int×(B0×Int))
 lines:List (B0×List (Int×Int))
 room:Int
 pat:Int
structure Zq.Ok(G:Zq):Prop where
 few:G.all.length<100000000
 lo:0≤G.room
 hi:G.room≤1000000
 ln:∀x∈G.lines,(x.2.length:Int)≤G.room
 nd:(G.lines.map (·.1)).Nodup
 nda:(G.all.map (·.1)).Nodup
 fl:G.lines.length<100000000
structure LnE where
 k:B0
 b:Nat
 l:List (Int×Int)
 sg:Seg
abbrev LnE.kp(x:LnE):B0×Option Addr:=(x.k,some ⟨x.b,0,none⟩)
abbrev LnE.ka(x:LnE):B0×List (Int×Int):=(x.k,x.l)
abbrev gtB(b bf rA rL c:Nat)(room pat:Int):Seg:=[Cl b Fe [.pointer (some ⟨bf,0,none⟩),.map (some rA),.map (some rL),.func (.func uj) #[] #[.pointer (some ⟨c,0,none⟩)],I room,I pat]]
structure GtR(G:Zq)(rA rL:Nat)(sA sL:Seg)(Q:List LnE):Prop where
 all:MpS KI GB rA G.all sA
 lns:MpS Value.string Value.pointer rL (Q.map LnE.kp) sL
 each:∀x∈Q,LnS x.b G.room x.l x.sg
 abs:G.lines=Q.map LnE.ka
def GtS(b bf:Nat)(G:Zq)(s:Seg):Prop:=G.Ok∧∃rA rL c sA sL,∃Q:List LnE,GtR G rA rL sA sL Q∧
 s=gtB b bf rA rL c G.room G.pat++([Cl c zm [I G.room]]++(sA++(sL++(Q.map LnE.sg).flatten)))
def PU:Pr.underlying yS=some (.map zm Zm):=by kernel_rfl
def Ve:Pr.underlying zW=some (.map zd Qi):=by kernel_rfl
def NV:Pr.underlying zd=some .string:=by kernel_rfl
def Nd:MK Pr zd Value.string:=CW NV
def AD(w:World):(zeroValue Zm).run Pr w = .ok ((E1.agg [.str,.int .i64]).val (s_,0,())) w:=by
 have h:(Pr.info? Zm).map (·.zero)=some (some (.agg #[.string s_,I 0])):=by kernel_rfl
 cases hi:Pr.info? Zm with
 | none=>rw[hi]at h;cases h
 | some i=>rw[hi]at h;simp only[Option.map_some,Option.some.injEq]at h;exact zv hi h w
def zln(w:World):(zeroValue Qi).run Pr w = .ok ((E1.one .ptr).val none) w:=by
 have h:(Pr.info? Qi).map (·.zero)=some (some (.pointer none)):=by kernel_rfl
 cases hi:Pr.info? Qi with
 | none=>rw[hi]at h;cases h
 | some i=>rw[hi]at h;simp only[Option.map_some,Option.some.injEq]at h;exact zv hi h w
def Ba(h:St w0 E w){bf:Nat}{room pat:Int}(h0:0≤room)(h1:room≤1000000){k:Option Addr→PT}(hk:∀b s w',GtS b bf ⟨[],[],room,pat⟩ s→St w0 (s::E) w'→k (some ⟨b,0,none⟩) w') :
  L.call Pr OP [pO bf,I room,I pat] (.one (.one .ptr)) k w:=by
 refine zc (Di _ _ _) ?_;unfold MJ;refine nw h ?_;clear h;intro c w h;refine MpS.new h KI GB λrA sA w hA h=>?_;refine MpS.new h Value.string Value.pointer λrL sL w hL h=>?_
 (refine ldC h ?_)
 refine nw h ?_;clear h;intro b w h;refine⟨_,rfl,hk b _ w ⟨⟨by simp,h0,h1,by simp,by simp,by simp,by simp⟩,rA,rL,c,sA,sL,[],⟨hA,hL,by simp,rfl⟩,rfl⟩ ?_⟩;have h:=xc (xc (ZR (Yx h)));exact h.eq (by simp)
def Ag(f:Yz)(id:Int):Yz:=(id,f.2.1,f.2.2.1,f.2.2.2.1,())
def MA{b bf rA rL c:Nat}{room pat:Int}{sA:Seg}{all:List (Int×(B0×Int))}(hA:MpS KI GB rA all sA)(h:St w0 (gtB b bf rA rL c room pat::sA::E) w){id:Int}{rev:B0}{f:Yz}{k:PD.T→PT}
  (hk:∀sA' w',MpS KI GB rA (Zl all id (rev,f.2.1)) sA'→St w0 (gtB b bf rA rL c room pat::sA'::E) w'→k (Ag f id) w') :
  L.call Pr yu [pO b,I id,.string rev,.agg (Yz.cells f).toArray] (.one PD) k w:=by
 refine zc (FD _ _ _ f) ?_;unfold VU;refine nw h ?_;clear h;intro b1 w h;refine nw h ?_;clear h;intro b2 w h
 (refine stC h ?_;clear h;intro w h;dsimp only[zP,ze]at h;refine dr h ?_;clear h;intro w h;refine nn ?_;refine ldC h ?_;refine ldC h ?_)
 refine MpS.set mkI PU h 3 rfl hA (rev,f.2.1) rfl λsA' w hA' h=>?_;have h:St w0 ([Cl b2 zL [I 0,I 0,I 0,.string s_]]::[Cl b1 zL [I id,I f.2.1,I f.2.2.1,.string f.2.2.2.1]]::gtB b bf rA rL c room pat::sA'::E) w:=h
 (refine laC h ?_;refine stC h ?_;clear h;intro w h;dsimp only[zP,ze]at h;refine laC h ?_)
 exact⟨Ag f id,rfl,hk sA' w hA' (zy (zy h))⟩
def Te(h:St w0 E w){s:B0}{k:PD.T→PT}(hk:∀w',St w0 E w'→k (0,4,0,s,()) w'):L.call Pr Xn [.string s] (.one PD) k w:=by
 refine zc (Dh _) ?_;unfold MI;refine nw h ?_;clear h;intro b1 w h
 (refine stC h ?_;clear h;intro w h;dsimp only[zP,ze]at h;refine laC h ?_)
 exact⟨_,rfl,hk w (zy h)⟩
def Ru(all:List (Int×(B0×Int)))(id:Int):Bool:=(zD all id).isSome
def rU{b bf rA rL c:Nat}{room pat:Int}{sA:Seg}{all:List (Int×(B0×Int))}(hA:MpS KI GB rA all sA)(h:St w0 (gtB b bf rA rL c room pat::sA::E) w){id:Int}{k:Bool→PT}
  (hk:∀w',St w0 (gtB b bf rA rL c room pat::sA::E) w'→k (Ru all id) w') :
  L.call Pr qO [pO b,I id] (.one (.one .bool)) k w:=by
 refine zc (fD _ _) ?_;unfold vL
 (refine nn ?_;refine ldC h ?_)
 refine MpS.get2 mkI PU AD (λx:B0×Int=>(x.1,x.2,())) (λ_=>rfl) h 1 rfl hA ?_;refine nw h ?_;clear h;intro b4 w h
 (refine stC h ?_;clear h;intro w h;dsimp only[zP,ze]at h)
 exact⟨_,rfl,hk w (zy h)⟩
def gX(F:zl)(all:List (Int×(B0×Int)))(id:Int)(rev:B0):zl×List (Int×(B0×Int))×Yz×Bool:=
 if(yw F rev id).2.2=true then((yw F rev id).1,Zl all id (rev,1),(id,1,(yw F rev id).2.1,s_,()),true)else((yw F rev id).1,all,(0,0,0,s_,()),false)
def rT{b bf rA rL c:Nat}{room pat:Int}{sA sf:Seg}{all:List (Int×(B0×Int))}{F:zl}(hA:MpS KI GB rA all sA)(hf:FlS bf F sf)(h20:F.l.length≤30)(hfew:∀x∈F.l,x.pod.reqs.length<10000000)(h:St w0 (gtB b bf rA rL c room pat::sA::sf::E) w){id:Int}{rev:B0}{k:PD.T×Bool×Unit→PT}
  (hk:∀sA' sf' w',MpS KI GB rA (gX F all id rev).2.1 sA'→FlS bf (gX F all id rev).1 sf'→St w0 (gtB b bf rA rL c room pat::sA'::sf'::E) w'→k ((gX F all id rev).2.2.1,(gX F all id rev).2.2.2,()) w') :
  L.call Pr qM [pO b,I id,.string rev] (.tup [PD,.one .bool]) k w:=by
 refine zc (fB _ _ _) ?_;unfold vJ;unfold gX at hk;refine nw h ?_;clear h;intro b1 w h
 (refine nn ?_;refine ldC h ?_)
 have hrl:(revs F.l rev).length≤30:=Nat.le_trans (List.length_filter_le ..) h20;refine rZ h 3 rfl hf hrl hfew λsf' w hf' h=>?_;have h:St w0 ([Cl b1 zL [I 0,I 0,I 0,.string s_]]::gtB b bf rA rL c room pat::sA::sf'::E) w:=h;refine it (λhc=>?_) (λhc=>?_)<;>(try simp only[zB]at hc)
 ·rw[if_neg (by simp[hc])]at hk
  (refine stC h ?_;clear h;intro w h;dsimp only[zP,ze]at h;refine laC h ?_)
  exact⟨(_,false,()),rfl,hk sA sf' w hA hf' (zy h)⟩
 ·rw[if_pos hc]at hk;have h:=ZR (ZR h);refine MA (f:=(0,1,(yw F rev id).2.1,s_,())) hA h λsA' w hA' h=>?_
  (refine stC h ?_;clear h;intro w h;dsimp only[zP,ze]at h;refine laC h ?_)
  refine⟨((id,1,(yw F rev id).2.1,s_,()),true,()),rfl,hk sA' sf' w hA' hf' ?_⟩;have h:=vB h;exact h
def kZ{G:Zq}{b bf rA rL c:Nat}{sA sL:Seg}{Q:List LnE}(ok:G.Ok)(hr:GtR G rA rL sA sL Q)(h:St w0 (gtB b bf rA rL c G.room G.pat::[Cl c zm [I G.room]]::sA::sL::(Q.map LnE.sg).flatten::E) w) :
  ∃s,GtS b bf G s∧St w0 (s::E) w:=⟨_,⟨ok,rA,rL,c,sA,sL,Q,hr,rfl⟩,h.glue5⟩
def zZ(ls:List (B0×List (Int×Int)))(rev:B0):List (Int×Int):=(zD ls rev).getD []
def gP{Q:List LnE}{rev:B0}:zD (Q.map LnE.kp) rev=(uW LnE.k Q rev).map λx=>some ⟨x.b,0,none⟩:=qR (key:=LnE.k) (λx:LnE=>(some ⟨x.b,0,none⟩:Option Addr)) rev Q
def gQ{Q:List LnE}{rev:B0}:zD (Q.map LnE.ka) rev=(uW LnE.k Q rev).map LnE.l:=qR (key:=LnE.k) LnE.l rev Q
def Ar{b bf rA rL c:Nat}{room pat:Int}{sL:Seg}{Q:List LnE}(hL:MpS Value.string Value.pointer rL (Q.map LnE.kp) sL)(hQ:∀x∈Q,LnS x.b room x.l x.sg)
  (h:St w0 (gtB b bf rA rL c room pat::[Cl c zm [I room]]::sL::(Q.map LnE.sg).flatten::E) w) {rev:B0} {a:Addr} (ha:a=⟨b,2,none⟩) {k:Option Addr→PT}
  (hk:∀sL' A x B w',(∀y∈A++x::B,LnS y.b room y.l y.sg)→MpS Value.string Value.pointer rL ((A++x::B).map LnE.kp) sL'→x.k=rev→x.l=zZ (Q.map LnE.ka) rev→(A++x::B).map LnE.ka=Zl (Q.map LnE.ka) rev (zZ (Q.map LnE.ka) rev)→
   St w0 (gtB b bf rA rL c room pat::[Cl c zm [I room]]::sL'::((A++x::B).map LnE.sg).flatten::E) w'→k (some ⟨x.b,0,none⟩) w') :
  L.call Pr jA [.pointer (some a),.string rev] (.one (.one .ptr)) k w:=by
 subst ha;refine zc (vi _ _) ?_;unfold xX;refine jd ?_
 (refine nn ?_;refine ldC h ?_)
 refine MpS.get2 Nd Ve zln (λx:Option Addr=>x) (λ_=>rfl) h 2 rfl hL ?_
 (try dsimp only)
 cases hf:uW LnE.k Q rev with
 | some x=>
  have e1:=gP (Q:=Q) (rev:=rev);have e2:=gQ (Q:=Q) (rev:=rev);rw[hf]at e1 e2;simp only[Option.map_some]at e1 e2;rw[e1];refine itF rfl ?_
  (refine nn ?_;refine ldC h ?_)
  refine MpS.get Nd Ve zln (λx:Option Addr=>x) (λ_=>rfl) h 2 rfl hL ?_;rw[e1];obtain⟨A,B,e,hx⟩:=uV hf;subst e;refine⟨_,rfl,hk sL A x B w hQ hL hx ?_ ?_ h⟩
  ·unfold zZ;rw[e2];rfl
  ·unfold zZ;rw[e2];exact(GQ e2).symm
 | none=>
  have e1:=gP (Q:=Q) (rev:=rev);have e2:=gQ (Q:=Q) (rev:=rev);rw[hf]at e1 e2;simp only[Option.map_none]at e1 e2;rw[e1];refine itT rfl ?_
  (refine dr h ?_;clear h;intro w h;refine nn ?_;refine ldC h ?_;refine nn ?_;refine ldC h ?_)
  refine Qr (fs:=#[]) (cs:=#[.pointer (some ⟨c,0,none⟩)]) Tk (Tu ⟨c,0,none⟩) ?_;unfold Gt
  (refine ldC h ?_)
  refine bQ h λb2 s2 w hl h=>⟨_,rfl,?_⟩;have h:=YY (YY (YY (YY h)))
  (refine ckC h ?_)
  refine MpS.set Nd Ve h 2 rfl hL (some ⟨b2,0,none⟩) rfl λsL' w hL' h=>?_;rw[jW e1]at hL';have h:St w0 (gtB b bf rA rL c room pat::[Cl c zm [I room]]::sL'::(Q.map LnE.sg).flatten::s2::E) w:=h;have ekp:Q.map LnE.kp++[(rev,some (⟨b2,0,none⟩:Addr))]=(Q++[(⟨rev,b2,[],s2⟩:LnE)]).map LnE.kp:=by simp
  rw[ekp]at hL'
  (refine nn ?_;refine ldC h ?_)
  refine MpS.get Nd Ve zln (λx:Option Addr=>x) (λ_=>rfl) h 2 rfl hL' ?_;have e3:zD ((Q++[(⟨rev,b2,[],s2⟩:LnE)]).map LnE.kp) rev=some (some ⟨b2,0,none⟩):=by
   rw[←ekp,←jW e1,XE,if_pos rfl]
  rw[e3];refine⟨_,rfl,hk sL' Q ⟨rev,b2,[],s2⟩ [] w ?_ hL' rfl ?_ ?_ ?_⟩
  ·intro y hy;rcases List.mem_append.1 hy with hy | hy
   ·exact hQ y hy
   ·simp at hy;subst hy;exact hl
  ·unfold zZ;rw[e2];rfl
  ·unfold zZ;rw[e2,jW e2];simp
  ·exact h.eq (by simp)
def WM{F:zl}{rev:B0}{q:Int}(h:(yw F rev q).2.2=false):(yw F rev q).1=F:=by
 unfold yw at *
 split
 ·rfl
 ·rename_i hw;rw[if_neg hw]at h;split at h
  ·rename_i hp;simp[hp]
  ·cases h
def Wq{room:Int}{l:List (Int×Int)}{id u:Int}(h:(Qp room l id u).2≠0):(Qp room l id u).1=l:=by
 unfold Qp at *;split
 ·rfl
 ·split
  ·rfl
  ·rename_i h1 h2;rw[if_neg h1,if_neg h2]at h;simp at h
def Nh{room:Int}{l:List (Int×Int)}{id u:Int}(h:(l.length:Int)≤room):((Qp room l id u).1.length:Int)≤room:=by
 unfold Qp;split
 ·exact h
 ·split
  ·exact h
  ·simp only[List.length_append,List.length_cons,List.length_nil];omega
def xo{G:Zq}(ok:G.Ok)(rev:B0):((zZ G.lines rev).length:Int)≤G.room:=by
 unfold zZ
 cases h:zD G.lines rev with
 | none=>simp;exact ok.lo
 | some l=>exact ok.ln _ (jX h)
def Zq.Ok.line{G:Zq}(ok:G.Ok)(hl:G.lines.length<90000000)(rev:B0){l:List (Int×Int)}(h:(l.length:Int)≤G.room):({ G with lines:=Zl G.lines rev l }:Zq).Ok:=by
 refine⟨ok.few,ok.lo,ok.hi,λx hx=>?_,FQ ok.nd,ok.nda,?_⟩
 ·rcases yR hx with rfl | hx
  ·exact h
  ·exact ok.ln x hx
 ·have:=qf G.lines rev l;simp only;omega
def Zq.Ok.req{G:Zq}(ok:G.Ok)(hn:G.all.length<90000000)(id:Int)(x:B0×Int):({ G with all:=Zl G.all id x }:Zq).Ok:=by
 refine⟨?_,ok.lo,ok.hi,ok.ln,ok.nd,FQ ok.nda,ok.fl⟩;have:=qf G.all id x;simp only;omega
def Mi(F:zl)(G:Zq)(id:Int)(rev:B0)(now:Int):zl×Zq×Yz:=
 if Ru G.all id=true then(F,G,(id,4,0,gF,()))
 else if rev=s_ then(F,{ G with all:=Zl G.all id (s_,4) },(id,4,0,Vj,()))
 else if(zZ G.lines rev).length=0∧(yw F rev id).2.2=true then
  ((yw F rev id).1,{ G with all:=Zl G.all id (rev,1),lines:=Zl G.lines rev (zZ G.lines rev) },(id,1,(yw F rev id).2.1,s_,()))
 else if(Qp G.room (zZ G.lines rev) id (now+G.pat)).2≠0 then
  (F,{ G with all:=Zl G.all id (rev,4),lines:=Zl G.lines rev (zZ G.lines rev) },(id,4,0,uK,()))
 else(F,{ G with all:=Zl G.all id (rev,2),lines:=Zl G.lines rev (Qp G.room (zZ G.lines rev) id (now+G.pat)).1 },(id,2,0,s_,()))
abbrev xS:Int:=30
structure JF(F:zl):Prop where
 r:F.room≤xS
 l:(F.l.length:Int)≤max F.room 0
 q:∀x∈F.l,x.pod.reqs.length≤1000∧x.pod.conc≤1000
def JF.l20{F:zl}(h:JF F):F.l.length≤30:=by have:=h.r;have:=h.l;unfold xS at *;omega
def JF.q7{F:zl}(h:JF F):∀x∈F.l,x.pod.reqs.length<10000000:=λx hx=>by have:=(h.q x hx).1;omega
def Mo{l:List Zn}{id:Int}{g:jf→jf}{y:Zn}(h:y∈xd l id g):y∈l∨∃x∈l,x.id=id∧y = { x with pod:=g x.pod }:=by
 unfold xd at h;obtain⟨x,hx,hy⟩:=List.mem_filterMap.1 h;split at hy
 ·rename_i e;split at hy
  ·cases hy
  ·cases hy;exact .inr ⟨x,hx,e,rfl⟩
 ·cases hy;exact .inl hx
def WK(l:List Zn)(id:Int)(g:jf→jf):(xd l id g).length≤l.length:=List.length_filterMap_le ..
def JF.upd{F:zl}(h:JF F)(id:Int)(g:jf→jf)(hg:∀x∈F.l,x.id=id→(g x.pod).reqs.length≤1000∧(g x.pod).conc≤1000):JF { F with l:=xd F.l id g }:=by
 refine⟨h.r,?_,λy hy=>?_⟩
 ·have:=h.l;have:=WK F.l id g;simp only;omega
 ·rcases Mo hy with hy | ⟨x,hx,hid,rfl⟩
  ·exact h.q y hy
  ·exact hg x hx hid
def ce{p:jf}{q:Int}(h:p.reqs.length≤1000∧p.conc≤1000):(ZY p q).1.reqs.length≤1000∧(ZY p q).1.conc≤1000:=by
 unfold ZY;split
 ·exact h
 ·split
  ·exact h
  ·split
   ·exact h
   ·rename_i h3;have:=(vy q p.reqs).length_eq;simp only[List.length_cons]at this;refine⟨?_,h.2⟩;simp only;omega
def JF.take{F:zl}(h:JF F)(rev:B0)(q:Int):JF (yw F rev q).1:=by
 unfold yw;split
 ·exact h
 ·split
  ·exact h
  ·exact h.upd _ _ λx hx _=>ce (h.q x hx)
def JF.kill{F:zl}(h:JF F)(id:Int):JF (UM F id).1:=by
 unfold UM;split
 ·exact h
 ·refine h.upd _ _ λx hx _=>?_;unfold FN;split
  ·exact h.q x hx
  ·exact⟨by simp,(h.q x hx).2⟩
def JF.drain{F:zl}(h:JF F)(rev:B0):JF (Ue rev F):=by
 refine h.upd _ _ λx hx _=>?_;unfold yo;split<;>exact h.q x hx
def JF.shrink(rev:B0):∀(n:Nat){F:zl},JF F→JF (YtimahgbgejngiaaGreatDoor.shrink rev n F).1
 | 0,_,h=>h
 | n+1,F,h=>JF.shrink rev n (h.drain rev)
def JF.grow1{F:zl}(h:JF F)(rev:B0){conc:Int}(hc:conc≤1000)(hl:(F.l.length:Int)+1≤max F.room 0):JF (YtimahgbgejngiaaGreatDoor.grow1 rev conc F):=by
 refine⟨h.r,?_,λx hx=>?_⟩
 ·simp only[YtimahgbgejngiaaGreatDoor.grow1,List.length_append,List.length_cons,List.length_nil];omega
 ·rcases List.mem_append.1 hx with hx | hx
  ·exact h.q x hx
  ·simp at hx;subst hx;exact⟨by simp,hc⟩
def JF.grow(rev:B0){conc:Int}(hc:conc≤1000):∀(n:Nat){F:zl},JF F→(F.l.length:Int)+n≤max F.room 0→JF (YtimahgbgejngiaaGreatDoor.grow rev conc n F)
 | 0,_,h,_=>h
 | n+1,F,h,hl=>by
  have h1:=JF.grow rev hc n h (by omega);refine h1.grow1 rev hc ?_;rw[Ka,oe];omega
def JF.scale{F:zl}(h:JF F)(rev:B0){conc:Int}(hc:conc≤1000)(want:Int):JF (jD F rev conc want).1:=by
 refine JF.shrink rev _ (JF.grow rev hc _ h ?_);have:=h.l;unfold XG;omega
def cT{f:Yz}{b:Nat}:Rw Yz.cells zL 4 ⟨some ⟨b,0,none⟩,1,1⟩ [f] [Cl b zL (Yz.cells f)]:=Rw.lit b [f] fb (by simp[fl]) rfl (by simp[maxLen])
def Pi{A B:List LnE}{x:LnE}{s':Seg}{l':List (Int×Int)}{ls:List (B0×List (Int×Int))}{rev:B0}{l:List (Int×Int)}(e:(A++x::B).map LnE.ka=Zl ls rev l)(hx:x.k=rev)(hnd:((A++x::B).map LnE.ka).map (·.1) |>.Nodup) :
  (A++(⟨x.k,x.b,l',s'⟩:LnE)::B).map LnE.ka=Zl ls rev l':=by
 have h1:zD ((A++x::B).map LnE.ka) rev=some x.l:=kW hnd (by rw[←hx];exact List.mem_map_of_mem (f:=LnE.ka) (by simp));have h2:Zl ((A++x::B).map LnE.ka) rev l'=(A++(⟨x.k,x.b,l',s'⟩:LnE)::B).map LnE.ka:=by
  clear e h1
  induction A with
  | nil=>simp[Zl,hx]
  | cons y A ih=>
   have hne:y.k≠rev:=by
    intro e;have:=hnd;simp only[List.cons_append,List.map_cons,List.nodup_cons]at this;refine this.1 ?_;rw[e,←hx];simp
   simp only[List.cons_append,List.map_cons,Zl];rw[if_neg hne]
   congr 1
   refine ih ?_;have:=hnd;simp only[List.cons_append,List.map_cons,List.nodup_cons]at this;exact this.2
 rw[←h2,e,Pf]
def Bb{sg sf:Seg}(h:St w0 (sg::sf::E) w){b bf:Nat}{G:Zq}{F:zl}(hg:GtS b bf G sg)(hf:FlS bf F sf)(hfew:JF F)(hn:G.all.length<90000000)(hl:G.lines.length<90000000){id:Int}{rev:B0}{now:Int}(hnow: -1000000000000<now+G.pat∧now+G.pat<1000000000000){k:Sl→PT}
  (hk:∀v sv sg' sf' w',Rw Yz.cells zL 4 v [(Mi F G id rev now).2.2] sv→GtS b bf (Mi F G id rev now).2.1 sg'→FlS bf (Mi F G id rev now).1 sf'→St w0 (sv::sg'::sf'::E) w'→k v w') :
  L.call Pr Xp [pO b,I id,.string rev,I now] (.one (.one .slice)) k w:=by
 obtain⟨ok,rA,rL,c,sA,sL,Q,hr,rfl⟩:=hg;refine zc (gm _ _ _ _) ?_;unfold Ur;unfold Mi at hk;have h:=h.split5;have h:=Yx (ZR h);refine rU hr.all h λw h=>?_;refine it (λhs=>?_) (λhs=>?_)<;>(try simp only[zB]at hs)
 ·rw[if_pos hs]at hk;refine Te h λw h=>?_;refine nw h ?_;clear h;intro b3 w h
  (refine stC h ?_;clear h;intro w h;dsimp only[zP,ze]at h;refine stC h ?_;clear h;intro w h;dsimp only[zP,ze]at h;refine laC h ?_)
  refine nw h ?_;clear h;intro b5 w h;have h:=jE h;have h:=jC (jC (vf (jC (jC (jC h)))));obtain⟨sg,hg,h⟩:=kZ ok hr h;have h:=ZR (Yx (Yx h));exact⟨_,rfl,hk _ _ sg sf w cT hg hf h⟩
 ·rw[if_neg (by simp[hs])]at hk;rw[JI];refine it (λhe=>?_) (λhe=>?_)<;>(try simp only[zB]at he)
  ·rw[if_pos he]at hk;refine Te h λw h=>?_;refine MA (f:=(0,4,0,Vj,())) hr.all h λsA' w hA' h=>?_;refine nw h ?_;clear h;intro b8 w h;have h:=jC (jC (vf (jC (jC (jC h)))));obtain⟨sg,hg,h⟩:=kZ (ok.req hn id (s_,4)) (Q:=Q) ⟨hA',hr.lns,hr.each,hr.abs⟩ h;have h:=ZR (Yx (Yx h));exact⟨_,rfl,hk _ _ sg sf w cT hg hf h⟩
  ·rw[if_neg he]at hk;have h:=xc (YY (YY (YY h)))
   (refine nn ?_)
   refine Ar (rev:=rev) hr.lns hr.each h rfl λsL' A x B w hQ' hL' hxk hxl hab h=>?_;rw[←hr.abs]at hxl hab;have hlen:=xo ok rev;have hnd:(((A++x::B).map LnE.ka).map (·.1)).Nodup:=by rw[hab];exact FQ ok.nd
   have hx:LnS x.b G.room x.l x.sg:=hQ' x (by simp);have ok1:=ok.line hl rev hlen;have hhi:=ok.hi;have hll:x.l.length<1000000000:=by rw[hxl];omega
   have h:=xc (ZR (ZR (ZR h)));have h:=h.pick
   have close:∀{G':Zq}{sA' sx':Seg}{l':List (Int×Int)}{w},G'.Ok→G'.room=G.room→G'.pat=G.pat→MpS KI GB rA G'.all sA'→LnS x.b G.room l' sx'→G'.lines=Zl G.lines rev l'→
     ∀{E},St w0 (gtB b bf rA rL c G.room G.pat::sA'::sx'::((A++B).map LnE.sg).flatten::[Cl c zm [I G.room]]::sL'::E) w→∃s,GtS b bf G' s∧St w0 (s::E) w:=by
    intro G' sA' sx' l' w ok' e1 e2 hA' hl' e3 E h;have h:=vf (vf (xc (vf (ZR (vf h)))));have h:St w0 (LnE.sg ⟨x.k,x.b,l',sx'⟩::((A++B).map LnE.sg).flatten::gtB b bf rA rL c G.room G.pat::[Cl c zm [I G.room]]::sA'::sL'::E) w:=h;have h:=h.place;have h:=YY (YY (YY (YY h)));rw[←e1,←e2]at h;refine kZ ok' ⟨hA',?_,?_,?_⟩ h
    ·simpa using hL'
    ·intro y hy;rw[e1];rcases List.mem_append.1 hy with hy | hy
     ·exact hQ' y (by simp[hy])
     ·rcases List.mem_cons.1 hy with rfl | hy
      ·exact hl'
      ·exact hQ' y (by simp[hy])
    ·rw[e3];exact(Pi hab hxk hnd).symm
   have push:∀{w}{k11:Unit→PT},¬((zZ G.lines rev).length=0∧(yw F rev id).2.2=true)→∀{sA sf},MpS KI GB rA G.all sA→FlS bf F sf→
     St w0 (gtB b bf rA rL c G.room G.pat::sA::x.sg::((A++B).map LnE.sg).flatten::[Cl c zm [I G.room]]::sL'::sf::E) w→
     (L.nonnil (some ⟨b,0,none⟩) λa18=>L.load (.one (.int .i64)) (a18.add 5) λ(x19:Int)=>
      L.call Pr xD [.pointer (some ⟨x.b,0,none⟩),.int .i64 id,.int .i64 (Wi (now+x19))] (.one (.one (.int .i64))) λ(x20:Int)=>
      L.ite (x20 != 0) (
       L.call Pr Xn [.string uK] (.one (.agg [.int .i64,.int .i64,.int .i64,.str])) λ(x21:Int×Int×Int×B0×Unit)=>
       L.call Pr yu [pO b,.int .i64 id,.string rev,.agg #[.int .i64 x21.1,.int .i64 x21.2.1,.int .i64 x21.2.2.1,.string x21.2.2.2.1]] (.one (.agg [.int .i64,.int .i64,.int .i64,.str])) λ(x22:Int×Int×Int×B0×Unit)=>
       L.new [.int .i64 x22.1,.int .i64 x22.2.1,.int .i64 x22.2.2.1,.string x22.2.2.2.1] zL λb23=>
       λw'=>∃y,Value.slice (some ⟨b23,0,none⟩) 1 1=RT.val (.one (.one .slice)) y∧k y w')<|
      L.call Pr yu [pO b,.int .i64 id,.string rev,.agg #[.int .i64 0,.int .i64 2,.int .i64 0,.string s_]] (.one (.agg [.int .i64,.int .i64,.int .i64,.str])) λ(x24:Int×Int×Int×B0×Unit)=>
      L.new [.int .i64 x24.1,.int .i64 x24.2.1,.int .i64 x24.2.2.1,.string x24.2.2.2.1] zL λb25=>
      λw'=>∃y,Value.slice (some ⟨b25,0,none⟩) 1 1=RT.val (.one (.one .slice)) y∧k y w') w:=by
    intro w k11 hno sA sf hA hf h;rw[if_neg hno]at hk
    (refine nn ?_;refine ldC h ?_)
    rw[wr (by omega) (by omega)];refine Bk h 2 rfl hx hll λsx' w hx' h=>?_;rw[hxl]at hx' ⊢;have h:St w0 (gtB b bf rA rL c G.room G.pat::sA::sx'::((A++B).map LnE.sg).flatten::[Cl c zm [I G.room]]::sL'::sf::E) w:=h;refine it (λhp=>?_) (λhp=>?_)<;>(try simp only[zB]at hp)
    ·rw[if_pos hp]at hk;rw[Wq hp]at hx';refine Te h λw h=>?_;refine MA (f:=(0,4,0,uK,())) hA h λsA' w hA' h=>?_;refine nw h ?_;clear h;intro b23 w h;have h:=xH (xH (xH (xH (xH (xH (xH h))))));obtain⟨sg,hg,h⟩:=close (G':={ G with all:=Zl G.all id (rev,4),lines:=Zl G.lines rev (zZ G.lines rev) }) (ok1.req hn id (rev,4)) rfl rfl hA' hx' rfl h;have h:=ZR (Yx (Yx h));exact⟨_,rfl,hk _ _ sg sf w cT hg hf h⟩
    ·rw[if_neg (by simpa using hp)]at hk;refine MA (f:=(0,2,0,s_,())) hA h λsA' w hA' h=>?_;refine nw h ?_;clear h;intro b23 w h;have h:=xH (xH (xH (xH (xH (xH (xH h))))));obtain⟨sg,hg,h⟩:=close (G':={ G with all:=Zl G.all id (rev,2),lines:=Zl G.lines rev (Qp G.room (zZ G.lines rev) id (now+G.pat)).1 }) ((ok.line hl rev (Nh hlen)).req hn id (rev,2)) rfl rfl hA' hx' rfl h;have h:=ZR (Yx (Yx h));exact⟨_,rfl,hk _ _ sg sf w cT hg hf h⟩
   refine jd ?_;refine dL h 0 rfl hx ?_;rw[hxl];have h:St w0 (x.sg::((A++B).map LnE.sg).flatten::gtB b bf rA rL c G.room G.pat::[Cl c zm [I G.room]]::sL'::sA::sf::E) w:=h;refine it (λh0=>?_) (λh0=>?_)<;>(try simp only[zB]at h0)
   ·have h:=YY (jC (jC h));refine rT hr.all hf hfew.l20 hfew.q7 h λsA' sf' w hA' hf' h=>?_
    cases ht:(yw F rev id).2.2 with
    | true=>
     have e:gX F G.all id rev=((yw F rev id).1,Zl G.all id (rev,1),(id,1,(yw F rev id).2.1,s_,()),true):=by unfold gX;rw[if_pos ht]
     rw[e]at hA' hf' ⊢;rw[if_pos ⟨by omega,ht⟩]at hk;refine nw h ?_;clear h;intro b15 w h
     (refine stC h ?_;clear h;intro w h;dsimp only[zP,ze]at h)
     refine itT rfl ?_
     (refine laC h ?_)
     refine nw h ?_;clear h;intro b17 w h;have h:=jE h;have h:=xH (xH (xH (xH (xH (xH (xc h))))));obtain⟨sg,hg,h⟩:=close (G':={ G with all:=Zl G.all id (rev,1),lines:=Zl G.lines rev (zZ G.lines rev) }) (ok1.req hn id (rev,1)) rfl rfl hA' (hxl▸hx) rfl h;have h:=ZR (Yx (Yx h));exact⟨_,rfl,hk _ _ sg sf' w cT hg hf' h⟩
    | false=>
     have e:gX F G.all id rev=((yw F rev id).1,G.all,(0,0,0,s_,()),false):=by unfold gX;rw[if_neg (by simp[ht])]
     rw[e]at hA' hf' ⊢;dsimp only at hf';rw[WM ht]at hf';refine nw h ?_;clear h;intro b15 w h
     (refine stC h ?_;clear h;intro w h;dsimp only[zP,ze]at h)
     refine itF rfl ?_;have h:=zy h;have h:=jC (jC (jC (jC (jC (jC (ZR h))))));exact push (k11:=λ_ _=>True) (by simp[ht]) hA' hf' h
   ·have h:=jC (jC (YY (YY (vf (vf (jC h))))));exact push (k11:=λ_ _=>True) (λhh=>h0 (by omega)) hr.all hf h
abbrev kz:=List (Int×(B0×Int))
def vA(rev:B0):List (Int×Int)→zl→kz→List Yz→zl×kz×List (Int×Int)×List Yz
 | [],F,all,out=>(F,all,[],out)
 | x::l,F,all,out=>if(yw F rev x.1).2.2=true then vA rev l (yw F rev x.1).1 (Zl all x.1 (rev,1)) (out++[(x.1,1,(yw F rev x.1).2.1,s_,())])else(F,all,x::l,out)
def Py{rev:B0}:∀{l:List (Int×Int)}{F:zl}{all:kz}{out:List Yz},(vA rev l F all out).2.1.length≤all.length+l.length∧(vA rev l F all out).2.2.1.length≤l.length∧(vA rev l F all out).2.2.2.length≤out.length+l.length
 | [],_,_,_=>by simp[vA]
 | x::l,F,all,out=>by
  unfold vA;split
  ·have:=Py (rev:=rev) (l:=l) (F:=(yw F rev x.1).1) (all:=Zl all x.1 (rev,1)) (out:=out++[(x.1,1,(yw F rev x.1).2.1,s_,())]);have h2:=qf all x.1 (rev,(1:Int));simp only[List.length_append,List.length_cons,List.length_nil]at this ⊢;omega
  ·simp
def fY(F:zl)(G:Zq)(rev:B0):zl×Zq×List Yz:=
 ((vA rev (zZ G.lines rev) F G.all []).1,{ G with all:=(vA rev (zZ G.lines rev) F G.all []).2.1,lines:=Zl G.lines rev (vA rev (zZ G.lines rev) F G.all []).2.2.1 },(vA rev (zZ G.lines rev) F G.all []).2.2.2)
def lT(h:St w0 E w){v:Sl}{l:List Yz}(r:Rd w Yz.cells v l)(hn:l.length<1000000000)(h64:v.a=none→l = []){k:Sl→PT}
  (hk:∀v' s' w',Rw Yz.cells zL 4 v' l s'→St w0 (s'::E) w'→k v' w'):L.call Pr yz [SlV v] (.one (.one .slice)) k w:=by
 refine zc (Xv v) ?_;unfold jb;exact xV (K:=λv w'=>∃x,v=RT.val (.one (.one .slice)) x∧k x w') fb elF h r (by omega) (by omega) h64 λv' s' w' h1 h2 h3=>⟨v',rfl,hk v' s' w' h1 h3⟩
def LQ{b bf:Nat}{G:Zq}{sg:Seg}(hg:GtS b bf G sg)(h:St w0 (sg::E) w):∃rA rL c sA sL,∃Q:List LnE,GtR G rA rL sA sL Q∧St w0 (gtB b bf rA rL c G.room G.pat::[Cl c zm [I G.room]]::sA::sL::(Q.map LnE.sg).flatten::E) w:=by
 obtain⟨ok,rA,rL,c,sA,sL,Q,hr,rfl⟩:=hg;exact⟨rA,rL,c,sA,sL,Q,hr,h.split5⟩
def Pw(F:zl)(G:Zq)(id:Int):zl×Zq×List Yz×Int:=
 if(Qq F id).2.2≠0 then((Qq F id).1,G,[],(Qq F id).2.2)
 else((fY (Qq F id).1 { G with all:=Zl G.all id ((Qq F id).2.1,3) } (Qq F id).2.1).1,(fY (Qq F id).1 { G with all:=Zl G.all id ((Qq F id).2.1,3) } (Qq F id).2.1).2.1,
  (id,3,0,s_,())::(fY (Qq F id).1 { G with all:=Zl G.all id ((Qq F id).2.1,3) } (Qq F id).2.1).2.2,0)
def Np{F:zl}{G:Zq}(ok:G.Ok)(rev:B0):((fY F G rev).2.2.length:Int)≤G.room∧((fY F G rev).2.1.all.length:Int)≤G.all.length+G.room∧(fY F G rev).2.1.lines.length≤G.lines.length+1:=by
 have hlen:=xo ok rev;have h1:=Py (rev:=rev) (l:=zZ G.lines rev) (F:=F) (all:=G.all) (out:=[]);simp only[List.length_nil]at h1;have h2:=qf G.lines rev (vA rev (zZ G.lines rev) F G.all []).2.2.1;refine⟨?_,?_,h2⟩
 ·show((vA rev (zZ G.lines rev) F G.all []).2.2.2.length:Int)≤_;omega
 ·show((vA rev (zZ G.lines rev) F G.all []).2.1.length:Int)≤_;omega
def DG(all:kz)(id:Int):B0×Int:=(zD all id).getD (s_,0)
def fV:List Int→kz→List Yz→kz×List Yz
 | [],all,out=>(all,out)
 | id::l,all,out=>if(DG all id).2=1 then fV l (Zl all id ((DG all id).1,4)) (out++[(id,4,0,my,())])else fV l all out
def Vh(a b:B0×Int):Bool:=(a.1 == b.1)&&((a.2 == b.2)&&true)
def WN(a b:B0×Int)(w:World):(Op.equalIn 10000 Zm (.agg #[.string a.1,I a.2]) (.agg #[.string b.1,I b.2])).run Pr w = .ok (Vh a b) w:=by
 have hS:Pr.underlying Zm=some (.struct (Pr.fieldsOf Zm)):=by kernel_rfl
 have hp:Pr.stoodInHeld Zm=false:=by kernel_rfl
 obtain⟨a1,a2⟩:=a;obtain⟨b1,b2⟩:=b;rw[show(10000:Nat)=9999+1 from rfl,run_equalIn_agg w 9999 Zm _ _ hS hp];have u3:=Tryz.underlying3;have i3:=Tryz.isAgg3;have z3:=Tryz.sizeOf3;have u9:=Tryz.underlying9;have i9:=Tryz.isAgg9;have z9:=Tryz.sizeOf9;simp only[Program.fieldsOf,Tryz.underlying220]
 go_simp
 have e:(ByteArray.toList a1=ByteArray.toList b1)↔(@BEq.beq B0 _ a1 b1)=true:=by rw[beq_toListBytes];simp
 unfold Vh;by_cases h1:(@BEq.beq B0 _ a1 b1)=true
 ·rw[if_pos (e.2 h1)];simp only[show(a1 == b1)=true from h1,Bool.true_and];by_cases h2: @Eq Int a2 b2
  ·cases h2;simp
  ·simp[h2]
 ·rw[if_neg (λh=>h1 (e.1 h))];have:(a1 == b1)=false:=by simpa using h1
  simp[this]
def fR(a b:B0×Int):Vh a b=true↔a=b:=by
 obtain⟨a1,a2⟩:=a;obtain⟨b1,b2⟩:=b;have e:(@BEq.beq B0 _ a1 b1)=true↔a1=b1:=dD;unfold Vh;simp only[Bool.and_eq_true,beq_iff_eq,and_true,Prod.mk.injEq];exact and_congr e Iff.rfl
def bx(a b:B0×Int)(w:World):(do eqGuard .eql Zm (.tmp 0) (.tmp 0) (.agg #[.string a.1,I a.2]) (.agg #[.string b.1,I b.2]);binOp .eql Zm (.agg #[.string a.1,I a.2]) (.agg #[.string b.1,I b.2]):Sem Value).run Pr w = .ok (.bool (Vh a b)) w:=
 WR (by kernel_rfl) (WN a b w)
def GU:∀{l:List Int}{all:kz}{out:List Yz},(fV l all out).2.length≤out.length+l.length∧(fV l all out).1.length≤all.length+l.length
 | [],_,_=>by simp[fV]
 | id::l,all,out=>by
  unfold fV;split
  ·have:=GU (l:=l) (all:=Zl all id ((DG all id).1,4)) (out:=out++[(id,4,0,my,())]);have h2:=qf all id ((DG all id).1,(4:Int));simp only[List.length_append,List.length_cons,List.length_nil]at this ⊢;omega
  ·have:=GU (l:=l) (all:=all) (out:=out);simp only[List.length_cons];omega
def WH(G:Zq)(ids:List Int):Zq×List Yz:=({ G with all:=(fV ids G.all []).1 },(fV ids G.all []).2)
def Kc(all:kz)(rev:B0):List Int:=vx ((all.filter λp=>decide (p.2=(rev,1))).map (·.1))
def oX(G:Zq)(rev:B0):List Int:=(zZ G.lines rev).map (·.1)
def Bw:Value→B0×Int
 | .agg ⟨.string s:: .int _ n::_⟩=>(s,n)
 | _=>(s_,0)
def NK{sg:Seg}(h:St w0 (sg::E) w){b bf:Nat}{G:Zq}(hg:GtS b bf G sg){rev:B0}{k:Sl×Sl×Unit→PT}
  (hk:∀v1 v2 s1 s2 sg' w',Rw eI zm 1 v1 (oX G rev) s1→Rw eI zm 1 v2 (Kc G.all rev) s2→GtS b bf G sg'→St w0 (s1::s2::sg'::E) w'→k (v1,v2,()) w') :
  L.call Pr Xo [pO b,.string rev] (.tup [.one .slice,.one .slice]) k w:=by
 have ok:=hg.1;have hfew:=ok.few;refine zc (gk _ _) ?_;unfold Uq;obtain⟨rA,rL,c,sA,sL,Q,hr,h⟩:=LQ hg h
 (refine nn ?_;refine ldC h ?_)
 have h:=ZR h;have h:St w0 (sA::[]::gtB b bf rA rL c G.room G.pat::[Cl c zm [I G.room]]::sL::(Q.map LnE.sg).flatten::E) w:=h.eq (by simp)
 refine Wp (kv:=KI) (vv:=GB) unI (λ_=>rfl) Bw (λ_=>rfl) PU (lk:=.int .i64) (ev:=.agg [.str,.int .i64]) (λx=>x) (λ_=>rfl) (λx:B0×Int=>(x.1,x.2,())) (λ_=>rfl) hr.all h
  (λseen y F=>∃v sv,y=(v,())∧Rw eI zm 1 v ((seen.filter λp=>decide (p.2=(rev,(1:Int)))).map (·.1)) sv∧F=sv::gtB b bf rA rL c G.room G.pat::[Cl c zm [I G.room]]::sL::(Q.map LnE.sg).flatten::E)
  (y0:=(⟨none,0,0⟩,())) ⟨_,[],rfl,Rw.nil,rfl⟩ ?_ ?_
 ·rintro seen id x y F X w again hsl hmem hnew ⟨v,sv,rfl,hv,rfl⟩ h hN;have hfl:=List.length_filter_le (λp:Int×(B0×Int)=>decide (p.2=(rev,1))) seen;have h:St w0 (sA::sv::(gtB b bf rA rL c G.room G.pat::[Cl c zm [I G.room]]::sL::(Q.map LnE.sg).flatten::E++X)) w:=h;refine nw h ?_;clear h;intro b16 w h
  (dsimp only[ze,List.cons_append,List.nil_append]at h;refine stC h ?_;clear h;intro w h;dsimp only[zP,ze]at h;refine laC h ?_)
  unfold L.chkSem;refine⟨bx x (rev,1) w,?_⟩;refine it (λhc=>?_) (λhc=>?_)
  ·have hc:x=(rev,1):=(fR x (rev,1)).1 hc;refine nw h ?_;clear h;intro b18 w h;refine Rw.app (l:=(seen.filter λp=>decide (p.2=(rev,(1:Int)))).map (·.1)) xp elI h 2 rfl hv id rfl (by rw[List.length_map];omega) (by rw[List.length_map];omega) λv' sv' w hv' h=>?_;have h:St w0 ([Cl b16 Zm [.string x.1,I x.2]]::sA::sv'::(gtB b bf rA rL c G.room G.pat::[Cl c zm [I G.room]]::sL::(Q.map LnE.sg).flatten::E++X)) w:=h;refine hN (v',()) _ w ⟨v',sv',rfl,?_,rfl⟩ (zy h);rw[List.filter_append,List.map_append];simpa [hc]using hv'
  ·have hc:¬x=(rev,1):=λe=>by
    have:Vh x (rev,1)=true:=(fR _ _).2 e;unfold Vh at this;rw[this]at hc;cases hc
   refine hN (v,()) _ w ⟨v,sv,rfl,?_,rfl⟩ (zy h);rw[List.filter_append,List.map_append];simpa [hc]using hv
 ·rintro seen y F w hp ⟨v,sv,rfl,hv,rfl⟩ h;have hfl:=List.length_filter_le (λp:Int×(B0×Int)=>decide (p.2=(rev,1))) seen;rw[hp.length_eq]at hfl
  (try dsimp only)
  refine nv h 1 rfl hv (by rw[List.length_map];omega) λsv w hv h=>?_;have e1:vx ((seen.filter λp=>decide (p.2=(rev,(1:Int)))).map (·.1))=Kc G.all rev:=cK ((hp.filter _).map _);rw[e1]at hv;have h:St w0 (sA::sv::gtB b bf rA rL c G.room G.pat::[Cl c zm [I G.room]]::sL::(Q.map LnE.sg).flatten::E) w:=h;have hgl:(Kc G.all rev).length<1000000000:=by
   rw[←e1,od,List.length_map];omega
  have fin:∀{v1:Sl}{s1:Seg}{w},Rw eI zm 1 v1 (oX G rev) s1→St w0 (s1::sA::sv::gtB b bf rA rL c G.room G.pat::[Cl c zm [I G.room]]::sL::(Q.map LnE.sg).flatten::E) w→
    L.call Pr Zz [.slice v.a v.len v.cap] (.one (.one .slice)) (λx14 w'=>∃z,Value.tuple #[.slice v1.a v1.len v1.cap,.slice x14.a x14.len x14.cap]=RT.val (.tup [.one .slice,.one .slice]) z∧k z w') w:=by
   intro v1 s1 w h1 h;refine Ks h (Rw.rd xp h 2 rfl hv) (by omega) (λh0=>Rw.nil_of xp hv h0) λv2 s2 w h2 _ h=>⟨(v1,v2,()),rfl,?_⟩;have h:=QJ h;have h:=jC (jC (YY (jC (jC (Yx h)))));obtain⟨sg',hg',h⟩:=kZ ok hr h;have h:=ZR (ZR h);exact hk v1 v2 s1 s2 sg' w h1 h2 hg' h
  refine jd ?_
  (refine nn ?_;refine ldC h ?_)
  refine MpS.get2 Nd Ve zln (λx:Option Addr=>x) (λ_=>rfl) h 4 rfl hr.lns ?_
  (try dsimp only)
  have e2:=gP (Q:=Q) (rev:=rev);have e3:=gQ (Q:=Q) (rev:=rev);rw[←hr.abs]at e3
  cases hf:uW LnE.k Q rev with
  | none=>
   rw[hf]at e2 e3;simp only[Option.map_none]at e2 e3;rw[e2];refine itF rfl ?_;refine fin (v1:=⟨none,0,0⟩) (s1:=[]) ?_ h.nil;unfold oX zZ;rw[e3];exact Rw.nil
  | some x=>
   rw[hf]at e2 e3;simp only[Option.map_some]at e2 e3;rw[e2];refine itT rfl ?_;obtain⟨A,B,rfl,hx⟩:=uV hf;have hlx:=hr.each x (by simp);have hlen:=xo ok rev;have hhi:=ok.hi;have elo:zZ G.lines rev=x.l:=by unfold zZ;rw[e3];rfl
   rw[elo]at hlen;have h:=vf h;have h:=h.pick;refine Az h 0 rfl hlx (by omega) λv1 s1 w h1 h=>?_;have h:St w0 (s1::x.sg::((A++B).map LnE.sg).flatten::sA::sv::gtB b bf rA rL c G.room G.pat::[Cl c zm [I G.room]]::sL::E) w:=h;have h:=ZR (ZR h);have h:St w0 (LnE.sg x::((A++B).map LnE.sg).flatten::s1::sA::sv::gtB b bf rA rL c G.room G.pat::[Cl c zm [I G.room]]::sL::E) w:=h;have h:=h.place;have h:=jC (jC (jC (jC (jC (jC h)))));refine fin (v1:=v1) ?_ h;unfold oX;rw[elo];exact h1
def nq{sg:Seg}(h:St w0 (sg::E) w){b bf:Nat}{G:Zq}(hg:GtS b bf G sg){rev:B0}{k:Int→PT}
  (hk:∀sg' w',GtS b bf G sg'→St w0 (sg'::E) w'→k (((oX G rev).length:Int)+(Kc G.all rev).length) w') :
  L.call Pr xF [pO b,.string rev] (.one (.one (.int .i64))) k w:=by
 have ok:=hg.1;refine zc (fE _ _) ?_;unfold vM;refine NK h hg λv1 v2 s1 s2 sg' w h1 h2 hg' h=>?_;have e1:=Rw.len xp h1;have e2:=Rw.len xp h2;have hlen:=xo ok rev;have hhi:=ok.hi;have hfew:=ok.few;have h3:(oX G rev).length=(zZ G.lines rev).length:=List.length_map ..;have h4:(Kc G.all rev).length≤G.all.length:=by unfold Kc;rw[od,List.length_map];exact List.length_filter_le ..
 refine⟨_,rfl,?_⟩
 (try dsimp only)
 rw[e1,e2,wr (by omega) (by omega)];exact hk sg' w hg' (zy (zy h))
end Go.Proofs.YtimahgbgejngiaaGreatDoor
namespace Go.Proofs.YtimahgbgejngiaaGreatDoor
open Go.Dm
def Lo{P:Program}{r:RT}{s:Sem Value}{k:r.T→PT}{w:World}(x:r.T)(h:s.run P w = .ok (r.val x) w)(hk:k x w):L.semR P r s k w:=⟨x,h,hk⟩
attribute [local irreducible] L.load L.store L.chk L.new L.nonnil L.guard L.ite L.draw L.idx L.sem L.semR L.semU L.chkSem L.next L.call L.callV L.join L.alts L.loop L.begin L.endRound L.range
variable {w0 w:World}{E:List Seg}
def RL(n:Int)(w:World):(Instr.typeAssert (.iface zm (I n)) Ko zd true).run Pr w = .ok (.tuple #[.string s_,.bool false]) w:=by
 have hz:=AC w;have hz:(zeroValue zd).run Pr w = .ok (.string s_) w:=hz;simp only[Instr.typeAssert];rw[Sem.run_bind,run_underlying XT];simp only[Result.andThen_ok];rw[if_neg (by decide)];simp only[if_true];rw[Sem.run_bind,hz];rfl
def ZD(word:B0)(l:List B0):B0:=uZ (word::l)
def cE{word:B0}{l:List B0}(h:∀x∈word::l,x.size≤100000000)(hl:l.length≤1000):(ZD word l).size<1000000000000:=by
 have:=cI 100000000 (word::l) h;unfold ZD;simp only[List.length_cons]at this;have e:(l.length+1)*(100000000+1)≤1001*(100000000+1):=Nat.mul_le_mul_right _ (by omega);omega
def PF:∀(k:Nat)(g:Nat),g<10 ^ (k+1)→(Lib.decDigits g).length≤k+1
 | 0,g,h=>by rw[Lib.decDigits_one (by simpa using h)];simp
 | k+1,g,h=>by
  by_cases h1:g<10
  ·rw[Lib.decDigits_one h1];simp
  ·rw[Lib.decDigits,dif_neg h1,List.length_append];have:=PF k (g/10) (by rw[Nat.div_lt_iff_lt_mul (by decide)];rw[Nat.pow_succ]at h;exact h);simp only[List.length_singleton];omega
def DX{x:Int}(h0:0≤x)(h1:x≤9000000000000000000):(jY x.toNat).size≤100:=by
 have:=PF 18 x.toNat (by have:(10:Nat) ^ (18+1)=10000000000000000000:=by decide
                         omega)
 have e:(jY x.toNat).size=(Lib.decDigits x.toNat).length:=by rw[←Yg,PG]
 omega
def rR(h:St w0 E w){word:B0}{v:Sl}{l:List B0}(r:RdE w0 E eS v l)(hl:l.length≤1000)(hs:∀x∈word::l,x.size≤100000000){k:B0→PT}(hk:∀w',St w0 E w'→k (ZD word l) w') :
  L.call Pr zG [.string word,SlV v] (.one (.one .str)) k w:=by
 refine zc (KF _ v) ?_;unfold Qv;have hlen:=Rd.len (r w h);refine nw h ?_;clear h;intro b1 w h;refine Zh (λq y w=>∃(j:Nat)(s1:Seg),@Eq Int y.2.1 j∧q+j=l.length∧Rw eS zd 1 y.1 (word::l.take j) s1∧St w0 (s1::E) w) l.length ⟨0,_,rfl,rfl,Rw.lit b1 [word] Yy rfl rfl (by decide),h⟩ ?_;clear h;rintro q ⟨vo,y,⟨⟩⟩ w ⟨j,s1,hy,hq,r1,h⟩ again hag
 (try dsimp only)
 simp only at hy r1;subst hy;refine it (λhb=>?_) (λhb=>?_)<;>(try simp only[zB]at hb)
 ·have hj:j<l.length:=by omega
  have hx:l[j]? = some l[j]:=List.getElem?_eq_getElem hj;have et:l.take (j+1)=l.take j++[l[j]]:=by rw[List.take_succ,hx];rfl
  have rr:=r w (zy h);generalize l[j]=x at hx et;refine jd ?_;refine rr.ix Yy (by omega) (by simpa using hj) λa ha=>?_;refine rr.ld0 Yy ha (by simpa using hx) rfl rfl ?_;refine itT rfl ?_;refine nw h ?_;clear h;intro b8 w h;refine Rw.app Yy elS h 0 rfl r1 x rfl (by simp;omega) (by simp;omega) λv' s1' w r1' h=>?_;refine hag (q-1) _ w (by omega) ⟨j+1,s1',?_,by omega,by rw[et];exact r1',h⟩;show Wi _=_;rw[wr (by omega) (by omega)];omega
 ·have e:l.take j=l:=List.take_of_length_le (by omega);rw[e]at r1;refine ny h 0 rfl r1 (by simp;omega) (cE hs hl) λw h=>⟨_,rfl,hk w (zy h)⟩
def np [jF w0](h:St w0 E w){word:B0}{v:Sl}{l:List Int}(r:RdE w0 E eI v l)(hl:l.length≤1000)(hw:word.size≤100000000)(hs:∀x∈l,0≤x∧x≤9000000000000000000){k:B0→PT}(hk:∀w',St w0 E w'→k (ZD word (l.map λx=>jY x.toNat)) w') :
  L.call Pr zF [.string word,SlV v] (.one (.one .str)) k w:=by
 refine zc (Gv _ v) ?_;unfold UQ;have hlen:=Rd.len (r w h)
 let f:Int→B0:=λx=>jY x.toNat
 refine nw h ?_;clear h;intro b1 w h;refine Zh (λq y w=>∃(j:Nat)(s1:Seg),@Eq Int y.2.1 j∧q+j=l.length∧Rw eS zd 1 y.1 (word::(l.take j).map f) s1∧St w0 (s1::E) w) l.length ⟨0,_,rfl,rfl,Rw.lit b1 [word] Yy rfl rfl (by decide),h⟩ ?_;clear h;rintro q ⟨vo,y,⟨⟩⟩ w ⟨j,s1,hy,hq,r1,h⟩ again hag
 (try dsimp only)
 simp only at hy r1;subst hy;refine it (λhb=>?_) (λhb=>?_)<;>(try simp only[zB]at hb)
 ·have hj:j<l.length:=by omega
  have hx:l[j]? = some l[j]:=List.getElem?_eq_getElem hj;have et:(l.take (j+1)).map f=(l.take j).map f++[f l[j]]:=by rw[List.take_succ,hx,List.map_append];rfl
  have hxs:=hs l[j] (List.getElem_mem hj);have rr:=r w (zy h);generalize l[j]=x at hx et hxs;refine jd ?_;refine rr.ix xp (by omega) (by simpa using hj) λa ha=>?_;refine rr.ld0 xp ha (by simpa using hx) rfl rfl ?_;refine Lo (s_,false,()) (RL x w) ?_;refine itF rfl (itT rfl ?_);refine nz h hxs.1 (by omega) λw h=>?_;refine nw h ?_;clear h;intro b8 w h;refine Rw.app Yy elS h 0 rfl r1 (f x) rfl (by simp;omega) (by simp;omega) λv' s1' w r1' h=>?_;refine hag (q-1) _ w (by omega) ⟨j+1,s1',?_,by omega,by rw[et];exact r1',h⟩;show Wi _=_;rw[wr (by omega) (by omega)];omega
 ·have e:l.take j=l:=List.take_of_length_le (by omega);rw[e]at r1;refine ny h 0 rfl r1 (by simp;omega) (cE (λx hx=>?_) (by simpa using hl)) λw h=>⟨_,rfl,hk w (zy h)⟩;rcases List.mem_cons.1 hx with rfl | hx
  ·exact hw
  ·obtain⟨y,hy,rfl⟩:=List.mem_map.1 hx;have:=DX (hs y hy).1 (hs y hy).2;show(jY y.toNat).size≤_;omega
end Go.Proofs.YtimahgbgejngiaaGreatDoor
namespace Go.Proofs.YtimahgbgejngiaaGreatDoor
open Go.Dm
attribute [local irreducible] L.load L.store L.chk L.new L.nonnil L.guard L.ite L.draw L.idx L.sem L.semR L.semU L.chkSem L.next L.call L.callV L.join L.alts L.loop L.begin L.endRound L.range
variable {w0 w:World}{E:List Seg}
def Fw(e:Int):B0:=
 if e=0 then aO else if e=1 then wv else if e=2 then Rn else if e=3 then wy else if e=4 then Rl else if e=5 then gF else if e=6 then wu else if e≤6 then FM
 else if e=7 then DE else if e=8 then wB else if e=9 then DD else if e=10 then Rm else if e=11 then ww else if e=12 then wz else FM
def Wu{c:Prop}[Decidable c]{a b:B0}{n:Nat}(h1:a.size≤n)(h2:b.size≤n):(if c then a else b).size≤n:=by split<;>assumption
def DT(e:Int):(Fw e).size≤100:=by
 unfold Fw
 repeat' (first | (show ByteArray.size _≤_;decide) | apply Wu)
def nu{e:Int}{k:B0→PT}(hk:k (Fw e) w):L.call Pr js [I e] (.one (.one .str)) k w:=by
 refine zc (Gz e) ?_;unfold UU;unfold Fw at hk;refine it (λh1=>?_) (λh1=>?_)
 ·have h1:e≤6:=by simpa using h1
  refine zc (Cs e) ?_;unfold Fm
  repeat' (first | refine it (λhc=>?_) (λhc=>?_))
  all_goals refine⟨_,rfl,_,rfl,?_⟩
  all_goals exact eqk hk (by clear hk;simp_all)
 ·have h1:¬e≤6:=by simpa using h1
  refine zc (Dj e) ?_;unfold ML;have n0:¬e=0:=by omega
  have n1:¬e=1:=by omega
  have n2:¬e=2:=by omega
  have n3:¬e=3:=by omega
  have n4:¬e=4:=by omega
  have n5:¬e=5:=by omega
  have n6:¬e=6:=by omega
  rw[if_neg n0,if_neg n1,if_neg n2,if_neg n3,if_neg n4,if_neg n5,if_neg n6,if_neg h1]at hk
  repeat' (first | refine it (λhc=>?_) (λhc=>?_))
  all_goals refine⟨_,rfl,_,rfl,?_⟩
  all_goals exact eqk hk (by clear hk;simp_all)
def qQ{b:Nat}{x word:B0}(h:St w0 ([Cl b zd [.string x]]::E) w)(h1:word.size≤100000000)(h2:x.size≤100000000){k:B0→PT}(hk:∀w',St w0 E w'→k (ZD word [x]) w') :
  L.call Pr zG [.string word,.slice (some ⟨b,0,none⟩) 1 1] (.one (.one .str)) k w:=
 rR (v:=⟨some ⟨b,0,none⟩,1,1⟩) (l:=[x]) h (Rw.re Yy 0 rfl (Rw.lit b [x] Yy rfl rfl (by decide))) (by simp) (λy hy=>by
  rcases List.mem_cons.1 hy with rfl | hy
  ·exact h1
  ·rw[List.mem_singleton.1 hy];exact h2) λw h=>hk w (zy h)
def qg [jF w0]{b:Nat}{x:Int}{word:B0}(h:St w0 ([Cl b zm [I x]]::E) w)(h1:word.size≤100000000)(h0:0≤x)(h2:x≤9000000000000000000){k:B0→PT}(hk:∀w',St w0 E w'→k (ZD word [jY x.toNat]) w') :
  L.call Pr zF [.string word,.slice (some ⟨b,0,none⟩) 1 1] (.one (.one .str)) k w:=
 np (v:=⟨some ⟨b,0,none⟩,1,1⟩) (l:=[x]) h (Rw.re xp 0 rfl (Rw.lit b [x] xp rfl rfl (by decide))) (by simp) h1 (λy hy=>by rw[List.mem_singleton.1 hy];exact⟨h0,h2⟩) λw h=>hk w (zy h)
def bo [jF w0]{b:Nat}{x y:Int}{word:B0}(h:St w0 ([Cl b zm [I x,I y]]::E) w)(h1:word.size≤100000000)(h0:0≤x∧x≤9000000000000000000)(h2:0≤y∧y≤9000000000000000000){k:B0→PT}(hk:∀w',St w0 E w'→k (ZD word [jY x.toNat,jY y.toNat]) w') :
  L.call Pr zF [.string word,.slice (some ⟨b,0,none⟩) 2 2] (.one (.one .str)) k w:=
 np (v:=⟨some ⟨b,0,none⟩,2,2⟩) (l:=[x,y]) h (Rw.re xp 0 rfl (Rw.lit b [x,y] xp rfl rfl (by decide))) (by simp) h1 (λz hz=>by
  rcases List.mem_cons.1 hz with rfl | hz
  ·exact h0
  ·rw[List.mem_singleton.1 hz];exact h2) λw h=>hk w (zy h)
def jp(e:Int):List B0:=[ZD XA [Fw e]]
def uF(h:St w0 E w){e:Int}{k:Sl→PT}(hk:∀v s' w',Rw eS zd 1 v (jp e) s'→St w0 (s'::E) w'→k v w'):L.call Pr yE [I e] (.one (.one .slice)) k w:=by
 refine zc (ft e) ?_;unfold vF;refine nu ?_;refine nw h ?_;clear h;intro b2 w h;refine qQ h (by decide) (by have:=DT e;omega) λw h=>?_;refine nw h ?_;clear h;intro b4 w h;exact⟨⟨some ⟨b4,0,none⟩,1,1⟩,rfl,hk _ _ w (Rw.lit b4 [_] Yy rfl rfl (by decide)) h⟩
def uD{word x:B0}:(ZD word [x]).size=word.size+1+x.size:=by
 unfold ZD;rw[Md,Po,ByteArray.size_append,ByteArray.size_append];rfl
def nU(word name:B0)(ver no:Int):List B0:=if no=0 then [ZD (ZD word [name]) [jY ver.toNat]]else jp no
def Ap [jF w0](h:St w0 E w){word name:B0}{ver no:Int}(h1:word.size≤1000)(h2:name.size≤1000000)(h3:0≤ver∧ver≤9000000000000000000){k:Sl→PT}(hk:∀v s' w',Rw eS zd 1 v (nU word name ver no) s'→St w0 (s'::E) w'→k v w') :
  L.call Pr Vn [.string word,.string name,I ver,I no] (.one (.one .slice)) k w:=by
 refine zc (Tm _ _ _ _) ?_;unfold Gl;unfold nU at hk;refine it (λhc=>?_) (λhc=>?_)
 ·have hc:¬no=0:=by simpa using hc
  rw[if_neg hc]at hk;exact uF h λv s w r h=>⟨v,rfl,hk v s w r h⟩
 ·have hc:no=0:=by simpa using hc
  rw[if_pos hc]at hk;refine nw h ?_;clear h;intro b2 w h;refine qQ h (by omega) (by omega) λw h=>?_;refine nw h ?_;clear h;intro b4 w h;refine qg h (by rw[uD];omega) h3.1 h3.2 λw h=>?_;refine nw h ?_;clear h;intro b6 w h;exact⟨⟨some ⟨b6,0,none⟩,1,1⟩,rfl,hk _ _ w (Rw.lit b6 [_] Yy rfl rfl (by decide)) h⟩
def xU(f:Yz):B0:=
 if f.2.1=1 then ZD wp [jY (@id Int f.1).toNat,jY (@id Int f.2.2.1).toNat]else if f.2.1=2 then ZD DC [jY (@id Int f.1).toNat]else if f.2.1=3 then ZD wC [jY (@id Int f.1).toNat]
 else ZD (ZD XA [jY (@id Int f.1).toNat]) [f.2.2.2.1]
structure Yz.Ok(f:Yz):Prop where
 id:0≤@id Int f.1∧@id Int f.1≤9000000000000000000
 pod:0≤@_root_.id Int f.2.2.1∧@_root_.id Int f.2.2.1≤9000000000000000000
 why:f.2.2.2.1.size≤1000
def Bd [jF w0](h:St w0 E w){f:Yz}(ok:f.Ok){k:B0→PT}(hk:∀w',St w0 E w'→k (xU f) w'):L.call Pr UX [.agg f.cells.toArray] (.one (.one .str)) k w:=by
 obtain⟨fi,fw,fp,fy,⟨⟩⟩:=f;obtain⟨o1,o2,o3⟩:=ok;simp only[id]at o1 o2;refine zc (po (fi,fw,fp,fy,())) ?_;unfold Of;unfold xU at hk;refine nw h ?_;clear h;intro b1 w h
 (dsimp only[ze,List.cons_append,List.nil_append]at h;refine ldC h ?_)
 refine it (λh1=>?_) (λh1=>?_)
 ·rw[if_pos (by simpa using h1)]at hk
  (refine ldC h ?_;refine ldC h ?_)
  refine nw h ?_;clear h;intro b5 w h;exact bo h (by decide) o1 o2 λw h=>⟨_,rfl,hk w (zy h)⟩
 rw[if_neg (by simpa using h1)]at hk;refine it (λh2=>?_) (λh2=>?_)
 ·rw[if_pos (by simpa using h2)]at hk
  (refine ldC h ?_)
  refine nw h ?_;clear h;intro b5 w h;exact qg h (by decide) o1.1 o1.2 λw h=>⟨_,rfl,hk w (zy h)⟩
 rw[if_neg (by simpa using h2)]at hk;refine it (λh3=>?_) (λh3=>?_)
 ·rw[if_pos (by simpa using h3)]at hk
  (refine ldC h ?_)
  refine nw h ?_;clear h;intro b5 w h;exact qg h (by decide) o1.1 o1.2 λw h=>⟨_,rfl,hk w (zy h)⟩
 rw[if_neg (by simpa using h3)]at hk;have hd:=DX o1.1 o1.2;have hb:(ZD XA [jY (@id Int fi).toNat]).size≤100000000:=by rw[uD];have:XA.size=7:=rfl;simp only[id];omega
 dsimp only at o3;refine jd ?_
 (refine dr h ?_;clear h;intro w h;refine ldC h ?_;refine ldC h ?_)
 refine VO ?_ ?_
 ·refine nw h ?_;clear h;intro b17 w h
  (refine ckC h ?_)
  refine VO ?_ ?_
  ·refine qg h (by decide) o1.1 o1.2 λw h=>?_
   (refine ckC h ?_)
   refine nw h ?_;clear h;intro b19 w h
   (refine ckC h ?_)
   exact qQ h hb (by omega) λw h=>⟨_,rfl,hk w (zy h)⟩
  ·refine nw h ?_;clear h;intro b21 w h
   (refine ckC h ?_)
   have h:=Yx h;refine qg h (by decide) o1.1 o1.2 λw h=>?_
   (refine ckC h ?_)
   exact qQ h hb (by omega) λw h=>⟨_,rfl,hk w (zy h)⟩
 ·refine nw h ?_;clear h;intro b24 w h
  (refine ckC h ?_)
  refine nw h ?_;clear h;intro b25 w h
  (refine ckC h ?_)
  refine qg h (by decide) o1.1 o1.2 λw h=>?_
  (refine ckC h ?_)
  exact qQ h hb (by omega) λw h=>⟨_,rfl,hk w (zy h)⟩
def rp [jF w0]{c:Nat}{v:Sl}{fs:List Yz}{sv:Seg}(hr:Rw Yz.cells zL 4 v fs sv)(hok:∀f∈fs,f.Ok)(hn:fs.length<1000000000) :
  NB Pr w0 [[Cl c zR [SlV v]],sv] (.func (.func jQ) #[] #[.pointer (some ⟨c,0,none⟩)]) (fs.map xU).length λi=>TV _ (bO (fs.map xU) i):=by
 intro yv R J Jd G w h hJ step fin fin2;refine⟨fh,fu yv ⟨c,0,none⟩ ?_⟩;unfold vG;have h:St w0 ([Cl c zR [SlV v]]::sv::G) w:=h;have hlen:=Rw.len fb hr
 (refine ldC h ?_)
 refine Zh (λq y w=>∃(j:Nat)(G:List Seg),@Eq Int y.1 j∧q+j=fs.length∧J j G∧St w0 ([Cl c zR [SlV v]]::sv::G) w) fs.length ⟨0,G,rfl,rfl,hJ,h⟩ ?_;clear hJ;clear h;rintro q ⟨y,⟨⟩⟩ w ⟨j,G,hy,hq,hJ,h⟩ again hag
 (try dsimp only)
 simp only at hy;subst hy;refine it (λhb=>?_) (λhb=>?_)<;>(try simp only[zB]at hb)
 ·have hj:j<fs.length:=by omega
  have hx:fs[j]? = some fs[j]:=List.getElem?_eq_getElem hj;have ho:=hok fs[j] (List.getElem_mem hj);generalize fs[j]=x at hx ho;have next:∀{G w},J (j+1) G→St w0 ([Cl c zR [SlV v]]::sv::G) w→again (Wi ((j:Int)+1),()) w:=by
   intro G w hJ h;refine hag (q-1) _ w (by omega) ⟨j+1,G,?_,by omega,hJ,h⟩;show Wi _=_;rw[wr (by omega) (by omega)];omega
  refine Rw.ix fb hr (by omega) (by simpa using hj) λa ha=>?_;refine Rw.lda fb h 1 rfl hr ha (x:=x) (by simpa using hx) rfl ?_;refine nw h ?_;clear h;intro b6 w h
  (refine stC h ?_;clear h;intro w h;dsimp only[zP,ze]at h;refine laC h ?_)
  refine Bd (f:=x) h ho λw h=>?_;have h:=zy h;have hat:(fs.map xU)[j]? = some (xU x):=by rw[List.getElem?_map,hx];rfl
  have step:=step j G [] w (by simpa using hj) hJ (by simpa using h);simp only[nb hat]at step;refine cv (Jg.mono step λu w' hu=>?_);rcases hu with ⟨rfl,G',h,hJ⟩ | ⟨rfl,hd⟩
  ·exact⟨true,rfl,itF rfl (next hJ (by simpa using h))⟩
  ·exact⟨false,rfl,itT rfl (fin2 w' hd)⟩
 ·have e:j=fs.length:=by omega
  subst e;exact fin G w (by simpa using hJ) h
def lq [jF w0]{s2 sv:Seg}(h:St w0 (s2::sv::E) w){v1 v2:Sl}{fs:List Yz}{l:List B0}(hr:Rw Yz.cells zL 4 v1 fs sv)(hok:∀f∈fs,f.Ok)(hn:fs.length<100000000)(hl:l.length<100000000)(h2:Rw eS zd 1 v2 l s2){k:Sl→PT}
  (hk:∀v s w',Rw eS zd 1 v (l++fs.map xU) s→St w0 (s::sv::E) w'→k v w'):L.call Pr Qa [SlV v1,SlV v2] (.one (.one .slice)) k w:=by
 refine zc (pn v1 v2) ?_;unfold Oe;refine nw h ?_;clear h;intro b1 w h;refine zc (MN v1) ?_;unfold Kt;refine nw h ?_;clear h;intro c w h;refine⟨⟨.func jQ,#[],#[.pointer (some ⟨c,0,none⟩)]⟩,rfl,?_⟩;have h:St w0 ([[Cl c zR [SlV v1]],sv]++([Cl b1 zp [SlV v2]]::s2::E)) w:=by
  have h:=xc (xc (ZR (ZR h)));exact h
 refine qF (rp hr hok (by omega)) h (λm G=>∃vv s,G = [Cl b1 zp [SlV vv]]::s::E∧Rw eS zd 1 vv (l++(fs.map xU).take m) s) (λj G=>False) ⟨v2,s2,rfl,by simpa using h2⟩ ?_ ?_ ?_
 ·rintro m G X w lv lp d R hm ⟨vv,so,rfl,hr2⟩ h hN hE;have hx:(fs.map xU)[m]? = some (fs.map xU)[m]:=List.getElem?_eq_getElem hm;have h:St w0 ([Rec lv lp .busy none]::[DfM d]::[Cl c zR [SlV v1]]::sv::[Cl b1 zp [SlV vv]]::so::(E++X)) w:=h;have et:l++(fs.map xU).take (m+1)=(l++(fs.map xU).take m)++[(fs.map xU)[m]]:=by rw[List.take_add_one,hx,Option.toList_some,List.append_assoc]
  have hlm:(l++(fs.map xU).take m).length<300000000:=by rw[List.length_append,List.length_take,List.length_map];omega
  rw[nb hx];generalize (fs.map xU)[m]=x at et hx;dsimp only
  (refine ldC h ?_)
  refine nw h ?_;clear h;intro b9 w h;refine Rw.app Yy elS h 5 rfl hr2 x rfl (by omega) (by omega) λv' s' w hr' h=>?_
  (dsimp only[ze,List.cons_append,List.nil_append]at h;refine stC h ?_;clear h;intro w h;dsimp only[zP,ze]at h)
  exact hN _ w ⟨v',s',rfl,by rw[et];exact hr'⟩ h
 ·rintro d G w ⟨vv,so,rfl,hr2⟩ h;rw[List.take_length]at hr2;have h:St w0 ([DfM d]::[Cl c zR [SlV v1]]::sv::[Cl b1 zp [SlV vv]]::so::E) w:=h;refine vw ?_
  (refine ldC h ?_)
  refine Cj h (Rw.rd Yy h 4 rfl hr2) (by rw[List.length_append,List.length_map];omega) (Rw.nil0 Yy hr2) λv' s' w hr' hi h=>?_
  (first | refine OE h ?_ | refine OD h ?_ | refine OC h ?_ | refine OB h ?_ | refine OA h ?_ | refine Oz h ?_ | refine Oy h ?_ | refine Ox h ?_ | refine Ow h ?_ | refine Ov h ?_ | refine uH h ?_ | refine uG h ?_);clear h;intro w h
  refine⟨v',rfl,hk v' s' w hr' ?_⟩;have h:=jE (QJ (Kh h));exact h
 ·rintro d j G w hf;exact hf.elim
def WD(F:zl)(rev:B0)(want:Int):(XG F rev want:Int)=max 0 (min (want-ZW F.l rev) (F.room-F.l.length)):=by unfold XG;omega
def CB(F:zl)(rev:B0)(want:Int):(XV F rev want:Int)=max 0 ((ZW F.l rev:Int)-max want 0):=by unfold XV;omega
def Mm(F:zl)(id:Int):zl×Int:=match qu F.l id with
 | none=>(F,6)
 | some x=>({ F with l:=xd F.l id λp=>(Ro p).1 },(Ro x.pod).2)
def tab{α:Type}(n:Nat)(f:Nat→α):List α:=(List.range n).map f
def sk(l:List Zn):List (Int×B0):=l.map λx=>(x.id,x.rev)
def FlS.nd{b:Nat}{F:zl}{s:Seg}(hf:FlS b F s):∀x∈F.l,x.pod.reqs.Pairwise (· < ·):=by
 obtain⟨-,_,_,_,_,_,_,L,-,-,hr,-⟩:=hf;intro x hx;rw[hr.l]at hx;obtain⟨t,ht,rfl⟩:=List.mem_map.1 hx;exact(hr.ps t ht).1.pw
def rf{v:Sl}{l:List Yz}(r:Rd w Yz.cells v l){n:Int}{x:Yz}(hx:l[n.toNat]? = some x)(h0:0≤n){f:Nat}{lf:Lf}{u:Value}{y:lf.T}{kk:lf.T→PT}(hu:nth (Yz.cells x) f=some u)(hy:un2 lf u=some y)(hk:kk y w) :
  L.idx v.a n v.len 4 (λa=>L.load (.one lf) (a.add f) kk) w:=
 r.ix fb h0 (List.getElem?_eq_some_iff.1 hx).1 λa ha=>r.ld fb ha hx hu hy hk
def tot(rs:Nat→List Int):Nat→Nat
 | 0=>0
 | n+1=>tot rs n+(rs n).length
structure TL(n c m:Nat)(B:Int)(ready:Nat→Bool)(rs:Nat→List Int):Prop where
 len:∀i,i<n→(rs i).length≤c
 nr:∀i,i<n→ready i=false→rs i = []
 tot:tot rs n=m
 b:∀i,i<n→∀q∈rs i,1≤q∧q≤B
def TL.fresh{n c m:Nat}{B q:Int}{ready:Nat→Bool}{rs:Nat→List Int}(t:TL n c m B ready rs)(hq:B<q):∀i,i<n→q∉rs i:=λi hi h=>by have:=t.b i hi q h;omega
def VJ(rev:B0)(l:List Int)(all:kz):kz:=l.foldl (λa q=>Zl a q (rev,4)) all
def uX(l:List Int):List Yz:=l.map λq=>(q,4,0,uz,())
def Vs{rev:B0}:∀{l:List Int}{all:kz},(∀q∈l,(zD all q).isSome=true)→(VJ rev l all).map (·.1)=all.map (·.1)
 | [],_,_=>rfl
 | q::l,all,h=>by
  obtain⟨v,hv⟩:=Option.isSome_iff_exists.1 (h q (by simp));have e:=uC (u:=(rev,(4:Int))) hv;refine(Vs (l:=l) (all:=Zl all q (rev,4)) λq2 h2=>?_).trans e;rw[XE];split
  ·rfl
  ·exact h q2 (by simp[h2])
def nK{A B:kz}(h:A.map (·.1)=B.map (·.1))(q:Int):(zD A q).isSome=(zD B q).isSome:=by
 cases ha:zD A q with
 | none=>
  have:=yV.1 ha;rw[h]at this;rw[yV.2 this]
 | some v=>
  cases hb:zD B q with
  | none=>
   have:=yV.1 hb;rw[←h]at this;rw[yV.2 this]at ha;cases ha
  | some u=>rfl
def tick1(now:Int)(k:B0)(G:Zq):Zq:={ G with all:=VJ k (Yn (zZ G.lines k) now) G.all,lines:=Zl G.lines k (oW (zZ G.lines k) now) }
def UD(now:Int):List B0→Zq→List Yz→Zq×List Yz
 | [],G,out=>(G,out)
 | k::ks,G,out=>UD now ks (tick1 now k G) (out++uX (Yn (zZ G.lines k) now))
def Ub(G:Zq)(now:Int):Zq×List Yz:=UD now (Yc (G.lines.map (·.1))) G []
def GWk(G:Zq):Prop:=∀x∈G.lines,∀y∈x.2,(zD G.all y.1).isSome=true
def TC{now:Int}:∀{ks:List B0}{G:Zq}{out:List Yz},out.length≤(UD now ks G out).2.length
 | [],_,_=>Nat.le_refl _
 | k::ks,G,out=>by
  have:=TC (now:=now) (ks:=ks) (G:=tick1 now k G) (out:=out++uX (Yn (zZ G.lines k) now));simp only[UD,List.length_append]at this ⊢;omega
def GWk.line{G:Zq}(h:GWk G)(k:B0):∀y∈zZ G.lines k,(zD G.all y.1).isSome=true:=by
 intro y hy;unfold zZ at hy
 cases hm:zD G.lines k with
 | none=>rw[hm]at hy;simp at hy
 | some l=>rw[hm]at hy;exact h _ (jX hm) y hy
def GWk.late{G:Zq}(h:GWk G)(k:B0)(now:Int):∀q∈Yn (zZ G.lines k) now,(zD G.all q).isSome=true:=by
 intro q hq;obtain⟨y,hy,rfl⟩:=List.mem_map.1 hq;exact h.line k y (List.mem_filter.1 hy).1
def GWk.tick1{G:Zq}(h:GWk G)(k:B0)(now:Int):GWk (YtimahgbgejngiaaGreatDoor.tick1 now k G):=by
 intro x hx y hy;have e:=Vs (rev:=k) (h.late k now);show(zD (VJ k (Yn (zZ G.lines k) now) G.all) y.1).isSome=true;rw[nK e];rcases yR hx with rfl | hx
 ·exact h.line k y (List.mem_filter.1 hy).1
 ·exact h x hx y hy
def Zq.Ok.tick1{G:Zq}(ok:G.Ok)(h:GWk G){k:B0}(hk:(zD G.lines k).isSome=true)(now:Int):(YtimahgbgejngiaaGreatDoor.tick1 now k G).Ok:=by
 have e:=Vs (rev:=k) (h.late k now);have e2:(VJ k (Yn (zZ G.lines k) now) G.all).length=G.all.length:=by
  have:=congrArg List.length e;simpa using this
 obtain⟨v,hv⟩:=Option.isSome_iff_exists.1 hk;refine⟨by show(VJ k _ _).length<_;rw[e2];exact ok.few,ok.lo,ok.hi,λx hx=>?_,FQ ok.nd,by show((VJ k _ _).map _).Nodup;rw[e];exact ok.nda,?_⟩
 ·rcases yR hx with rfl | hx
  ·have:=xo ok k;have:=Pm (zZ G.lines k) now;simp only;show _≤G.room;omega
  ·exact ok.ln x hx
 ·show(Zl G.lines k _).length<_;rw[mR hv];exact ok.fl
def fN{G:Zq}{k:B0}(hk:(zD G.lines k).isSome=true)(now:Int):(tick1 now k G).lines.map (·.1)=G.lines.map (·.1):=by
 obtain⟨v,hv⟩:=Option.isSome_iff_exists.1 hk;exact uC hv
abbrev KPt:=List (B0×Option Addr)
def rg(m:KPt)(l:List B0)(i:Nat):TT [.one .str,.one .ptr]:=match l[i]? with | some k=>(k,(zD m k).getD none,()) | none=>(s_,none,())
def nc{m:KPt}{l:List B0}{i:Nat}{k:B0}(h:l[i]? = some k):rg m l i=(k,(zD m k).getD none,()):=by unfold rg;rw[h]
def rc{m:KPt}{l:List B0}{i:Nat}{k:B0}(h:l[i]? = some k):TV _ (rg m l i) = [.string k,.pointer ((zD m k).getD none)]:=by rw[nc h];rfl
def Bn(h:St w0 E w)(i:Nat){s:Seg}(hi:nth E i=some s){r:Nat}{m:KPt}(hm:MpS Value.string Value.pointer r m s)(hn:m.length<1000000000){k:Sl→PT}
  (hk:∀v s' w',Rw eS zd 1 v (Yc (m.map (·.1))) s'→St w0 (s'::E) w'→k v w') :
  L.call Pr Zs [.map (some r)] (.one (.one .func)) (λx5=>L.call Pr yO [.func x5.fn x5.fs x5.cs] (.one (.one .slice)) k) w:=by
 refine zc (jl _) ?_;unfold yg;have h:=h.front i hi;refine nw h ?_;clear h;intro c w h;refine⟨⟨.func zC,#[],#[.pointer (some ⟨c,0,none⟩)]⟩,rfl,?_⟩;have hY:Cb Pr w0 [[Cl c zW [.map (some r)]],s] (.func (.func zC) #[] #[.pointer (some ⟨c,0,none⟩)]) (m.map (·.1)) Value.string:=by
  intro yv R J Jd F w h hJ step fin fin2;refine⟨YQ,YR yv ⟨c,0,none⟩ ?_⟩;unfold yb;exact tO (kv:=Value.string) (vv:=Value.pointer) unS (λ_=>rfl) Ve (lk:=.str) (ev:=.one .ptr) (λx=>x) (λ_=>rfl) (λx:Option Addr=>x) (λ_=>rfl) J Jd hm h hJ (λseen k F X w hl hJ h=>step seen k F X w (by simpa using hl) hJ h) fin fin2
 refine Oc (fv:=⟨.func zC,#[],#[.pointer (some ⟨c,0,none⟩)]⟩) hY h (by simpa using hn) λv s' w hr h=>hk v s' w hr ?_;have h:=Yx h;exact St.again (i+1) (E:=s'::E) hi h
def bP{c b bf rA rL cc:Nat}{room pat:Int}{m:KPt}{sL:Seg}(hL:MpS Value.string Value.pointer rL m sL)(hn:m.length<1000000000) :
  NB Pr w0 [[Cl c zV [.pointer (some ⟨b,2,none⟩)]],gtB b bf rA rL cc room pat,sL]
   (.func (.func ZU) #[] #[.pointer (some ⟨c,0,none⟩)]) (Yc (m.map (·.1))).length λi=>TV _ (rg m (Yc (m.map (·.1))) i):=by
 intro yv R J Jd G w h hJ step fin fin2;refine⟨QL,QM yv ⟨c,0,none⟩ ?_⟩;unfold JE;have h:St w0 ([Cl c zV [.pointer (some ⟨b,2,none⟩)]]::gtB b bf rA rL cc room pat::sL::G) w:=h
 (refine ldC h ?_;refine nn ?_;refine ldC h ?_)
 refine Bn h 2 rfl hL hn λv s w hrow h=>?_;have hlen:=Rw.len Yy hrow;have hl:(Yc (m.map (·.1))).length<1000000000:=by rw[vl,List.length_map];exact hn
 generalize Yc (m.map (·.1))=l at *
 refine Zh (λq y w=>∃(j:Nat)(G:List Seg),@Eq Int y.1 j∧q+j=l.length∧J j G∧
  St w0 (s::[Cl c zV [.pointer (some ⟨b,2,none⟩)]]::gtB b bf rA rL cc room pat::sL::G) w) l.length ⟨0,G,rfl,rfl,hJ,h⟩ ?_
 clear hJ;clear h;rintro q ⟨y,⟨⟩⟩ w ⟨j,G,hy,hq,hJ,h⟩ again hag;simp only at hy;subst hy;refine it (λhb=>?_) (λhb=>?_)<;>(try simp only[zB]at hb)
 ·have hj:j<l.length:=by omega
  have hx:l[j]? = some l[j]:=List.getElem?_eq_getElem hj;refine Rw.ix Yy hrow (by omega) (by simpa using hj) λa ha=>?_;refine Rw.ld0 Yy h 0 rfl hrow ha (x:=l[j]) (by simp[hj]) rfl rfl ?_
  (refine ldC h ?_;refine nn ?_;refine ldC h ?_)
  refine MpS.get Nd Ve zln (λx:Option Addr=>x) (λ_=>rfl) h 3 rfl hL ?_;have step:=step _ G [s] w hj hJ (St.toEnd (X:=[s]) (A:=[_,_,_]) h);simp only[rc hx]at step;simp only[Option.map_id'];refine cv (Jg.mono step λu w' hu=>?_);rcases hu with ⟨rfl,G',h,hJ⟩ | ⟨rfl,hd⟩
  ·refine⟨true,rfl,itF rfl ?_⟩;refine hag (q-1) _ w' (by omega) ⟨j+1,G',?_,by omega,hJ,St.ofEnd (X:=[s]) (A:=[_,_,_]) h⟩;show Wi _=_;rw[wr (by omega) (by omega)];omega
  ·exact⟨false,rfl,itT rfl (fin2 w' hd)⟩
 ·have e:j=l.length:=by omega
  subst e;exact fin G w hJ (zy h)
def CY{rev:B0}{l:List Int}{j:Nat}{q:Int}{all:kz}(h:l[j]? = some q):VJ rev (l.take (j+1)) all=Zl (VJ rev (l.take j) all) q (rev,4):=by
 unfold VJ;rw[List.take_add_one,h,Option.toList_some,List.foldl_append];rfl
def CZ{l:List Int}{j:Nat}{q:Int}(h:l[j]? = some q):uX (l.take (j+1))=uX (l.take j)++[(q,4,0,uz,())]:=by
 unfold uX;rw[List.take_add_one,h,Option.toList_some,List.map_append];rfl
def oc(l:List Int):(uX l).length=l.length:=List.length_map ..
def rY{sg:Seg}(h:St w0 (sg::E) w){b bf:Nat}{G:Zq}(hg:GtS b bf G sg)(hw:GWk G){now:Int}(ho:(Ub G now).2.length<90000000){k:Sl→PT}
  (hk:∀v sv sg' w',Rw Yz.cells zL 4 v (Ub G now).2 sv→GtS b bf (Ub G now).1 sg'→St w0 (sv::sg'::E) w'→k v w') :
  L.call Pr qN [pO b,I now] (.one (.one .slice)) k w:=by
 obtain⟨ok,rA,rL,c,sA,sL,Q,hr,rfl⟩:=hg;refine zc (fC _ _) ?_;unfold vK;have h:=h.split5;refine nw h ?_;clear h;intro b1 w h;refine nw h ?_;clear h;intro b2 w h;refine nw h ?_;clear h;intro b3 w h
 (refine ldC h ?_;refine nn ?_)
 refine zc (Ux _) ?_;unfold xx;refine nw h ?_;clear h;intro cc w h;refine⟨⟨.func ZU,#[],#[.pointer (some ⟨cc,0,none⟩)]⟩,rfl,?_⟩;have h:=xc (vf (xH (Yx h)));have h:=h.nil;have h:=YY (YY (YY (YY h)));have h:St w0 ([[Cl cc zV [.pointer (some ⟨b,2,none⟩)]],gtB b bf rA rL c G.room G.pat,sL]++([Cl b3 zR [SlV ⟨none,0,0⟩]]::[]::[Cl b2 zm [I now]]::[Cl b1 YK [.pointer (some ⟨b,0,none⟩)]]::[Cl c zm [I G.room]]::sA::(Q.map LnE.sg).flatten::E)) w:=h;have enm:(Q.map LnE.kp).map (·.1)=G.lines.map (·.1):=by rw[hr.abs];simp[List.map_map,Function.comp_def]
 have hn:(Q.map LnE.kp).length<1000000000:=by
  have:=congrArg List.length enm;have:=ok.fl;simp only[List.length_map]at *;omega
 have hkeys:Yc ((Q.map LnE.kp).map (·.1))=Yc (G.lines.map (·.1)):=by rw[enm]
 have hkm:∀k∈Yc ((Q.map LnE.kp).map (·.1)),k∈G.lines.map (·.1):=λk hk=>by rw[hkeys]at hk;exact KY.1 hk
 have hgt:UD now (Yc ((Q.map LnE.kp).map (·.1))) G []=Ub G now:=by rw[hkeys];rfl
 refine qF (bP (c:=cc) (b:=b) (bf:=bf) (rA:=rA) (cc:=c) (room:=G.room) (pat:=G.pat) hr.lns hn) h
  (λm F=>∃(v:Sl)(sv sA':Seg)(Q':List LnE)(G':Zq)(out:List Yz),F = [Cl b3 zR [SlV v]]::sv::[Cl b2 zm [I now]]::[Cl b1 YK [.pointer (some ⟨b,0,none⟩)]]::[Cl c zm [I G.room]]::sA'::(Q'.map LnE.sg).flatten::E∧
   Q'.map LnE.kp=Q.map LnE.kp∧(∀x∈Q',LnS x.b G.room x.l x.sg)∧G'.lines=Q'.map LnE.ka∧G'.Ok∧G'.room=G.room∧G'.pat=G.pat∧GWk G'∧MpS KI GB rA G'.all sA'∧Rw Yz.cells zL 4 v out sv∧
   UD now ((Yc ((Q.map LnE.kp).map (·.1))).drop m) G' out=Ub G now)
  (λj G=>False) ⟨_,_,sA,Q,G,[],rfl,rfl,hr.each,hr.abs,ok,rfl,rfl,hw,hr.all,Rw.nil,hgt⟩ ?_ ?_ ?_
 ·rintro m F X w lv lp d R hm ⟨v,sv,sA',Q',G',out,rfl,hkp,hQ',hln,ok',er,ep,hw',hA',hv,hT⟩ h hN hE;have hx:(Yc ((Q.map LnE.kp).map (·.1)))[m]? = some (Yc ((Q.map LnE.kp).map (·.1)))[m]:=List.getElem?_eq_getElem hm;have hdr:=List.drop_eq_getElem_cons hm;have hmem:=hkm _ (List.mem_of_getElem? hx);generalize (Yc ((Q.map LnE.kp).map (·.1)))[m]=key at hx hdr hmem;rw[nc hx];rw[hdr]at hT;have enm':G'.lines.map (·.1)=G.lines.map (·.1):=by
   rw[hln,←enm,←hkp];simp[List.map_map,Function.comp_def]
  rw[←enm',hln]at hmem;have e1:=gP (Q:=Q') (rev:=key);have e2:=gQ (Q:=Q') (rev:=key)
  cases hf:uW LnE.k Q' key with
  | none=>rw[hf]at e2;exact absurd hmem (yV.1 e2)
  | some x=>
   rw[hf]at e1 e2;simp only[Option.map_some]at e1 e2;rw[hkp]at e1;rw[e1];obtain⟨A,B,e,hxk⟩:=uV hf;subst e;rw[←hln]at e2;have hlo:zZ G'.lines key=x.l:=by unfold zZ;rw[e2];rfl
   have hsm:(zD G'.lines key).isSome=true:=by rw[e2];rfl
   have hll:=xo ok' key;rw[hlo]at hll;have hhi:=ok'.hi;have h:St w0 ([Rec lv lp .busy none]::[DfM d]::[Cl cc zV [.pointer (some ⟨b,2,none⟩)]]::gtB b bf rA rL c G.room G.pat::sL::[Cl b3 zR [SlV v]]::sv::[Cl b2 zm [I now]]::[Cl b1 YK [.pointer (some ⟨b,0,none⟩)]]::[Cl c zm [I G.room]]::sA'::((A++x::B).map LnE.sg).flatten::(E++X)) w:=h
   (refine ldC h ?_)
   have h:=Mj (xH (Uc (xH (xH (jB h)))));have h:=h.pick;refine Bm h 0 rfl (hQ' x (by simp)) (by omega) λv13 s' s2 w hl' hr2 h=>?_;have h:St w0 (s2::s'::((A++B).map LnE.sg).flatten::gtB b bf rA rL c G.room G.pat::sA'::[Cl b3 zR [SlV v]]::sv::[Cl b1 YK [.pointer (some ⟨b,0,none⟩)]]::[Rec lv lp .busy none]::[DfM d]::[Cl cc zV [.pointer (some ⟨b,2,none⟩)]]::sL::[Cl b2 zm [I now]]::[Cl c zm [I G.room]]::(E++X)) w:=h;have h:=xH (xH (xH (xH (xH h))));obtain⟨RR,hRR⟩:∃RR,RR=s'::((A++B).map LnE.sg).flatten::[Rec lv lp .busy none]::[DfM d]::[Cl cc zV [.pointer (some ⟨b,2,none⟩)]]::sL::[Cl b2 zm [I now]]::[Cl c zm [I G.room]]::(E++X):=⟨_,rfl⟩;rw[←hRR]at h;have hge:=TC (now:=now) (ks:=(Yc ((Q.map LnE.kp).map (·.1))).drop (m+1)) (G:=tick1 now key G') (out:=out++uX (Yn (zZ G'.lines key) now));have hT:UD now ((Yc ((Q.map LnE.kp).map (·.1))).drop (m+1)) (tick1 now key G') (out++uX (Yn (zZ G'.lines key) now))=Ub G now:=hT;rw[hT,List.length_append,oc,hlo]at hge;have hll2:=Rw.len xp hr2
   refine Zh (λq y w=>∃(j:Nat)(v:Sl)(sv sA':Seg),y=((j:Int),())∧q+j=(Yn x.l now).length∧MpS KI GB rA (VJ key ((Yn x.l now).take j) G'.all) sA'∧Rw Yz.cells zL 4 v (out++uX ((Yn x.l now).take j)) sv∧
    St w0 (gtB b bf rA rL c G.room G.pat::sA'::[Cl b3 zR [SlV v]]::sv::[Cl b1 YK [.pointer (some ⟨b,0,none⟩)]]::s2::RR) w) (Yn x.l now).length
    ⟨0,v,sv,sA',rfl,rfl,hA',by simpa [uX]using hv,h⟩ ?_
   clear hA' hv;clear h;rintro q y w ⟨j,v,sv,sA',rfl,hq,hA',hv,h⟩ again hag
   (try dsimp only)
   refine it (λhb=>?_) (λhb=>?_)<;>(try simp only[zB]at hb)
   ·have hj:j<(Yn x.l now).length:=by omega
    have hxj:(Yn x.l now)[j]? = some (Yn x.l now)[j]:=List.getElem?_eq_getElem hj;generalize (Yn x.l now)[j]=id at hxj;refine rd1 (Rw.rd xp h 5 rfl hr2) xp (lf:=.int .i64) (λx=>x) (λx=>⟨_,rfl,rfl⟩) (by omega) hb λy' hy'=>?_;simp only[Int.toNat_natCast,hxj,Option.some.injEq]at hy';subst hy'
    (refine dr h ?_;clear h;intro w h;refine ldC h ?_;refine ldC h ?_)
    refine Te h λw h=>?_
    (refine ckC h ?_;refine ckC h ?_)
    refine MA (f:=(0,4,0,uz,())) hA' h λsA2 w hA2 h=>?_
    (refine ckC h ?_)
    refine nw h ?_;clear h;intro b22 w h
    (refine ckC h ?_)
    refine Rw.app (l:=out++uX ((Yn x.l now).take j)) fb elF h 3 rfl hv (id,4,0,uz,()) rfl (by rw[List.length_append,oc,List.length_take];omega) (by rw[List.length_append,oc,List.length_take];omega) λv' sv' w hv' h=>?_
    (dsimp only[ze,List.cons_append,List.nil_append]at h;refine stC h ?_;clear h;intro w h;dsimp only[zP,ze]at h)
    rw[wr (by omega) (by omega)];refine hag (q-1) _ w (by omega) ⟨j+1,v',sv',sA2,by simp,by omega,?_,?_,h⟩
    ·rw[CY hxj];exact hA2
    ·rw[CZ hxj,←List.append_assoc];exact hv'
   ·have e:(Yn x.l now).take j=Yn x.l now:=List.take_of_length_le (by omega);rw[e]at hA' hv;subst hRR;have h:=du h;have h:=jC (jC h);have h:St w0 (LnE.sg ⟨x.k,x.b,oW x.l now,s'⟩::((A++B).map LnE.sg).flatten::gtB b bf rA rL c G.room G.pat::sA'::[Cl b3 zR [SlV v]]::sv::[Cl b1 YK [.pointer (some ⟨b,0,none⟩)]]::[Rec lv lp .busy none]::[DfM d]::[Cl cc zV [.pointer (some ⟨b,2,none⟩)]]::sL::[Cl b2 zm [I now]]::[Cl c zm [I G.room]]::(E++X)) w:=h;have h:=h.place;have h:=Mj (Mj (Mj (jB (Mj (xH (xH (Mj (jC (Mj (ZR h))))))))));have hnd:(((A++x::B).map LnE.ka).map (·.1)).Nodup:=by rw[←hln];exact ok'.nd
    refine hN _ w ⟨v,sv,sA',A++(⟨x.k,x.b,oW x.l now,s'⟩:LnE)::B,tick1 now key G',out++uX (Yn (zZ G'.lines key) now),rfl,?_,?_,?_,ok'.tick1 hw' hsm now,er,ep,hw'.tick1 key now,?_,?_,hT⟩ h
    ·rw[←hkp];simp
    ·intro y hy;rcases List.mem_append.1 hy with hy | hy
     ·exact hQ' y (by simp[hy])
     ·rcases List.mem_cons.1 hy with rfl | hy
      ·exact hl'
      ·exact hQ' y (by simp[hy])
    ·show Zl G'.lines key (oW (zZ G'.lines key) now)=_;rw[hlo];exact(Pi (ls:=G'.lines) (by rw[←hln,GQ e2]) hxk hnd).symm
    ·show MpS KI GB rA (VJ key (Yn (zZ G'.lines key) now) G'.all) sA';rw[hlo];exact hA'
    ·rw[hlo];exact hv
 ·rintro d F w ⟨v,sv,sA',Q',G',out,rfl,hkp,hQ',hln,ok',er,ep,hw',hA',hv,hT⟩ h;have h:St w0 ([DfM d]::[Cl cc zV [.pointer (some ⟨b,2,none⟩)]]::gtB b bf rA rL c G.room G.pat::sL::[Cl b3 zR [SlV v]]::sv::[Cl b2 zm [I now]]::[Cl b1 YK [.pointer (some ⟨b,0,none⟩)]]::[Cl c zm [I G.room]]::sA'::(Q'.map LnE.sg).flatten::E) w:=h;rw[List.drop_of_length_le (Nat.le_refl _)]at hT;have hT:(G',out)=Ub G now:=hT;rw[←hT]at hk ho;refine vw ?_
  (refine ldC h ?_)
  refine lT h (Rw.rd fb h 5 rfl hv) (by simp only at ho;omega) (λh0=>Rw.nil_of fb hv h0) λv' sv' w hv' h=>?_
  (first | refine OE h ?_ | refine OD h ?_ | refine OC h ?_ | refine OB h ?_ | refine OA h ?_ | refine Oz h ?_ | refine Oy h ?_ | refine Ox h ?_ | refine Ow h ?_ | refine Ov h ?_ | refine uH h ?_ | refine uG h ?_);clear h;intro w h
  refine⟨v',rfl,?_⟩;have h:=jC (Uc (Uc (YY (Uc h))));rw[←er,←ep]at h;have h:=pc (pc (pc (pc (pc h))));obtain⟨sg,hg,h⟩:=kZ ok' (Q:=Q') ⟨hA',by rw[hkp];exact hr.lns,λx hx=>by rw[er];exact hQ' x hx,hln⟩ h;have h:=Yx h;exact hk v' sv' sg w hv' hg h
 ·rintro d j F w hf;exact hf.elim
instance :DecidableEq Tgt:=inferInstanceAs (DecidableEq (B0×B0×Int×Unit))
instance :DecidableEq ARt:=λa b=>decidable_of_iff (a.name=b.name∧a.cfg=b.cfg∧a.ts=b.ts∧a.roll=b.roll) ⟨λ⟨h1,h2,h3,h4⟩=>by cases a;cases b;simp_all,λh=>by subst h;exact⟨rfl,rfl,rfl,rfl⟩⟩
def su(t:FG)(r:ARt):Int:=if t.is=true∧t.r=r then t.gen else Wi (t.gen+1)
def aS(m:List (B0×FG))(n:B0)(r:ARt)(ver:Int):List (B0×FG):=Zl m n ⟨r,ver,su (ox m n) r,true⟩
def CC(a:jn)(r:ARt)(ver:Int):jn×Int×Int:=
 if mo r≠0 then(a,0,mo r)else if LN (ox a.r r.name).is (ox a.r r.name).ver ver true≠0 then(a,0,LN (ox a.r r.name).is (ox a.r r.name).ver ver true)else(⟨a.m,aS a.r r.name r (a.n+1),a.n+1⟩,a.n+1,0)
def jn.Few(a:jn):Prop:=∀x∈a.r,x.2.r.ts.length≤6
def AS:ARt:=⟨s_,s_,[],0⟩
def Ln(a:jn)(n:B0):ARt×Int×Bool:=if(ox a.r n).is=true then((ox a.r n).r,(ox a.r n).ver,true)else(AS,0,false)
def nJ{a:jn}(h:a.Few)(c:Cfg)(ver:Int):(UF a c ver).1.Few:=by
 unfold UF;split
 ·exact h
 ·split<;>exact h
end Go.Proofs.YtimahgbgejngiaaGreatDoor
namespace Go.Proofs.YtimahgbgejngiaaGreatDoor
open Go.Dm
variable {w0 w:World}{E:List Seg}
def gc(l:List Int)(n:Int)(r:List Value):List Value:=l.map I++I n::r
def WG{l:List Int}{n:Int}{r:List Value}(hl:l.length=60):nth (gc l n r) 60=some (I n):=by
 have:=Je (A:=l.map I) (B:=I n::r) (i:=0);rw[List.length_map,hl]at this;exact this
def LR{l:List Int}{n:Int}{r:List Value}(hl:l.length=60)(j:Nat):nth (gc l n r) (61+j)=nth r j:=by
 have:=Je (A:=l.map I) (B:=I n::r) (i:=1+j);rw[List.length_map,hl]at this;have e:61+j=60+(1+j):=by omega
 rw[e];refine Eq.trans this ?_;rw[Nat.add_comm 1 j];rfl
def Af{l:List Int}{n:Int}{r:List Value}{j:Nat}{x:Int}(hj:l[j]? = some x):nth (gc l n r) j=some (I x):=by
 rw[gc,Xh (by have:=(List.getElem?_eq_some_iff.1 hj).1;simpa using this),zA,List.getElem?_map,hj];rfl
def WF{l:List Int}{n:Int}{r:List Value}{j:Nat}{x:Int}(hj:j<l.length):ze (gc l n r) j (I x)=gc (l.set j x) n r:=by
 rw[yL,gc,gc,List.set_append_left _ _ (by simpa using hj),List.map_set]
def WE{l:List Int}{n m:Int}{r:List Value}(hl:l.length=60):ze (gc l n r) 60 (I m)=gc l m r:=by
 rw[yL,gc,gc,List.set_append_right _ _ (by simp[hl])];simp[hl]
def cO{l:List Int}{n:Int}{r:List Value}{v:Value}(hl:l.length=60)(j:Nat):ze (gc l n r) (61+j) v=gc l n (ze r j v):=by
 rw[yL,gc,gc,yL,List.set_append_right _ _ (by simp[hl];omega)];have e:61+j-(List.map I l).length=j+1:=by simp[hl];omega
 rw[e];rfl
def dR(h:St w0 E w)(i:Nat){b T:Nat}{l:List Int}{n:Int}{r:List Value}{x:Int}(hi:nth E i=some [Cl b T (gc l n r)])(hl:l.length=60)(h0:0≤n)(hn:n<4611686018427387904){k:Unit→PT}
  (hk:∀w',St w0 (ze E i [Cl b T (gc (l.set (n.toNat%60) x) (n+1) r)]) w'→k () w'):L.call Pr xk [pO b,I x] (.tup []) k w:=by
 refine zc (KN _ _) ?_;unfold QA;refine dr h λw h=>nn ?_;refine ld h i hi (x:=n) (WG hl) (gd (by omega) (nn ?_));have em:Int.tmod n 60=((n.toNat%60:Nat):Int):=by rw[Int.tmod_eq_emod];simp[h0];omega
 have hlt:n.toNat%60<60:=Nat.mod_lt _ (by omega);refine ix (by rw[em];omega) (by rw[em];omega) ?_;rw[em,Int.toNat_natCast,Nat.mul_one,JH,ja,Nat.zero_add];refine st1 h i hi (Af (List.getElem?_eq_getElem (by omega))) rfl λw h=>?_;have hi2:nth (ze E i [Cl b T (ze (gc l n r) (n.toNat%60) (I x))]) i=some [Cl b T (gc (l.set (n.toNat%60) x) n r)]:=by
  rw[WF (by omega)];exact kO hi
 refine nn (ld h i hi2 (x:=n) (WG (by simpa using hl)) (nn ?_));rw[wr (by omega) (by omega)];refine st1 h i hi2 (WG (by simpa using hl)) rfl λw h=>⟨(),rfl,hk w ?_⟩;rw[WE (by simpa using hl),vm]at h;exact h
def tz(xs:List Int):Nat:=(xs.reverse.takeWhile (· == 0)).length
structure GOk(l:List Int)(n d:Int)(xs:List Int):Prop where
 len:l.length=60
 n:n=xs.length
 pos:∀k,k<xs.length→xs.length≤k+60→l[k%60]? = xs[k]?
 idle:d=tz xs
def NS(b:Nat)(xs:List Int)(s:Seg):Prop:=∃l n d,GOk l n d xs∧s = [Cl b jG (gc l n [I d])]
def rV(h:St w0 E w){k:Option Addr→PT}(hk:∀b s w',NS b [] s→St w0 (s::E) w'→k (some ⟨b,0,none⟩) w'):L.call Pr kT [] (.one (.one .ptr)) k w:=by
 refine zc Cp ?_;unfold Fj;refine nw h λb w h=>⟨_,rfl,hk b _ w ⟨List.replicate 60 0,0,0,⟨rfl,rfl,λk hk=>by simp at hk,rfl⟩,rfl⟩ h⟩
def Lb(xs:List Int)(x:Int):tz (xs++[x])=if x=0 then tz xs+1 else 0:=by
 unfold tz;rw[List.reverse_append];by_cases h:x=0
 ·subst h;simp
 ·simp[h]
def By(xs:List Int):tz xs≤xs.length:=by
 unfold tz;have:=(List.takeWhile_sublist (l:=xs.reverse) (λx=>x == 0)).length_le;simpa using this
def GOk.add{l:List Int}{n d:Int}{xs:List Int}(g:GOk l n d xs)(x:Int):GOk (l.set (n.toNat%60) x) (n+1) (if x=0 then d+1 else 0) (xs++[x]):=by
 have hn:n.toNat=xs.length:=by rw[g.n];simp
 refine⟨by simpa using g.len,by rw[g.n];simp,λk hk hk2=>?_,?_⟩
 ·simp only[List.length_append,List.length_cons,List.length_nil]at hk hk2;rw[hn,List.getElem?_set];by_cases e:k=xs.length
  ·subst e;rw[if_pos rfl,if_pos (by rw[g.len];omega)];simp
  ·rw[if_neg (by omega),g.pos k (by omega) (by omega),List.getElem?_append_left (by omega)]
 ·rw[Lb,g.idle];split<;>simp
def rX(h:St w0 E w)(i:Nat){b:Nat}{xs:List Int}{s:Seg}(hi:nth E i=some s)(hg:NS b xs s)(hn:xs.length<2305843009213693952){x:Int}{k:Unit→PT}
  (hk:∀s' w',NS b (xs++[if 0>x then 0 else x]) s'→St w0 (ze E i s') w'→k () w'):L.call Pr qd [pO b,I x] (.tup []) k w:=by
 obtain⟨l,n,d,g,rfl⟩:=hg;have hl:=g.len;have hn1:=g.n;have hd:=g.idle;have hz:=By xs;refine zc (Gx _ _) ?_;unfold US;generalize hy:(if 0>x then 0 else x)=y at *
 have hy0:0≤y:=by rw[←hy];split<;>omega
 have hl2:(l.set (n.toNat%60) y).length=60:=by simpa using hl
 refine nn (dR h i hi hl (by omega) (by omega) λw h=>?_);have hi2:=kO (y:=[Cl b jG (gc (l.set (n.toNat%60) y) (n+1) [I d])]) hi;refine nn (ld h i hi2 (x:=d) (LR hl2 0) (nn ?_));rw[wr (by omega) (by omega)];refine st1 h i hi2 (LR hl2 0) rfl λw h=>?_;have e1:ze (gc (l.set (n.toNat%60) y) (n+1) [I d]) 61 (I (d+1))=gc (l.set (n.toNat%60) y) (n+1) [I (d+1)]:=cO hl2 0;simp only[vm]at h;have h:St w0 (ze E i [Cl b jG (gc (l.set (n.toNat%60) y) (n+1) [I (d+1)])]) w:=by rw[←e1];exact h
 have ga:=g.add y;refine it (λhb=>?_) (λhb=>?_)
 ·simp only[decide_eq_true_eq]at hb;have hi3:=kO (y:=[Cl b jG (gc (l.set (n.toNat%60) y) (n+1) [I (d+1)])]) hi;refine nn (st1 h i hi3 (LR hl2 0) rfl λw h=>⟨(),rfl,hk _ w ⟨_,_,_,ga,rfl⟩ ?_⟩);have e1:ze (gc (l.set (n.toNat%60) y) (n+1) [I (d+1)]) 61 (I 0)=gc (l.set (n.toNat%60) y) (n+1) [I 0]:=cO hl2 0;simp only[vm]at h;rw[if_neg (by omega),←e1];exact h
 ·simp only[decide_eq_false_iff_not]at hb;have:y=0:=by omega
  refine⟨(),rfl,hk _ w ⟨_,_,_,ga,rfl⟩ ?_⟩;rw[if_pos this];exact h
def lJ(h:St w0 E w)(i:Nat){b:Nat}{xs:List Int}{s:Seg}(hi:nth E i=some s)(hg:NS b xs s){k:Int→PT}(hk:k (tz xs) w):L.call Pr Xm [pO b] (.one (.one (.int .i64))) k w:=by
 obtain⟨l,n,d,g,rfl⟩:=hg;refine zc (gj _) ?_;unfold Up;refine nn (ld h i hi (x:=d) (LR g.len 0) ⟨d,rfl,?_⟩);rw[g.idle];exact hk
def AH{z:Int}(h:0≤z):Int.tmod z 60=((z.toNat%60:Nat):Int):=by
 rw[Int.tmod_eq_emod_of_nonneg h];omega
def lI(h:St w0 E w){p:Option Addr}{k:FV→PT}(hk:∀c w',St w0 ([Cl c Xs [.pointer p]]::E) w'→k ⟨.func yH,#[],#[.pointer (some ⟨c,0,none⟩)]⟩ w') :
  L.call Pr JN [.pointer p] (.one (.one .func)) k w:=by
 refine zc (kw _) ?_;unfold qA;exact nw h λc w h=>⟨_,rfl,hk c w h⟩
def NJ{c b T T2:Nat}{l:List Int}{n:Int}{r:List Value}{F:List Seg}(hl:l.length=60)(h0:0≤n)(hn:n<2305843009213693952){yv:FV}{R:Value→PT}(J:Nat→List Seg→Prop)(Jd:List Seg→Prop)
  (h:St w0 ([Cl c T2 [.pointer (some ⟨b,0,none⟩)]]::[Cl b T (gc l n r)]::F) w) (hJ:J 0 F)
  (step:∀(m:Nat) F w,(m:Int)<min 60 n→J m F→St w0 ([Cl c T2 [.pointer (some ⟨b,0,none⟩)]]::[Cl b T (gc l n r)]::F) w→∀x,l[(n-(m+1)).toNat%60]? = some x→
   Jg Pr yv.val [I x] w λv w'=>∃q F',v = .bool q∧St w0 ([Cl c T2 [.pointer (some ⟨b,0,none⟩)]]::[Cl b T (gc l n r)]::F') w'∧(q=true→J (m+1) F')∧(q=false→Jd F'))
  (fin:∀F w,J (min 60 n).toNat F∨Jd F→St w0 ([Cl c T2 [.pointer (some ⟨b,0,none⟩)]]::[Cl b T (gc l n r)]::F) w→R (.tuple #[]) w) :
  vg Pr (.func (.func yH) #[] #[.pointer (some ⟨c,0,none⟩)]) [yv.val] w R:=by
 refine⟨vS,vX yv ⟨c,0,none⟩ ?_⟩;unfold XP;refine Zh (λq y w=>∃(m:Nat)(F:List Seg),@Eq Int y.1 (m+1)∧q+m=60∧(m:Int)≤min 60 n∧J m F∧St w0 ([Cl c T2 [.pointer (some ⟨b,0,none⟩)]]::[Cl b T (gc l n r)]::F) w) 60 ⟨0,F,rfl,rfl,by omega,hJ,h⟩ ?_;rintro q ⟨y,⟨⟩⟩ w ⟨m,F,hy,hq,hm,hJ,h⟩ again hag;simp only at hy;subst hy
 (try dsimp only)
 refine ld h 0 rfl (l:=.ptr) (x:=some ⟨b,0,none⟩) rfl (nn ?_);refine ld h 1 rfl (x:=n) (WG hl) ?_;have hmin:(if 60<n then 60 else n)=min 60 n:=by omega
 rw[hmin];refine it (λhb=>?_) (λhb=>?_)
 ·have hb:(m:Int)+1≤min 60 n:=of_decide_eq_true hb;refine dr h λw h=>?_;refine ld h 0 rfl (l:=.ptr) (x:=some ⟨b,0,none⟩) rfl ?_;refine ld h 0 rfl (l:=.ptr) (x:=some ⟨b,0,none⟩) rfl (nn ?_);refine ld h 1 rfl (x:=n) (WG hl) (gd (by omega) (nn ?_));rw[wr (by omega) (by omega)];have em:Int.tmod (n-(m+1)) 60=(((n-(m+1)).toNat%60:Nat):Int):=AH (by omega);have hlt:(n-(m+1)).toNat%60<60:=Nat.mod_lt _ (by omega);refine ix (by rw[em];omega) (by rw[em];omega) ?_;rw[em,Int.toNat_natCast,Nat.mul_one,JH,ja,Nat.zero_add];have hx:l[(n-(m+1)).toNat%60]? = some l[(n-(m+1)).toNat%60]:=List.getElem?_eq_getElem (by omega);refine ld h 1 rfl (x:=l[(n-(m+1)).toNat%60]) (Af hx) ?_;refine Jg.mono (step m F w (by omega) hJ h _ hx) λv w' ⟨q',F',hv,h,h1,h2⟩=>⟨q',hv,?_⟩
  cases q' with
  | true=>
   refine itF rfl (hag (q-1) _ _ (by omega) ⟨m+1,F',?_,by omega,by omega,h1 rfl,h⟩);show Wi _=_;rw[wr (by omega) (by omega)];omega
  | false=>exact itT rfl (fin F' w' (.inr (h2 rfl)) h)
 ·have hb:¬(m:Int)+1≤min 60 n:=of_decide_eq_false hb;have e:m=(min 60 n).toNat:=by omega
  exact fin F w (.inl (by rw[←e];exact hJ)) h
def Fu:List Int→Int
 | []=>0
 | x::l=>x+Fu l
def Wv(a b:List Int):Fu (a++b)=Fu a+Fu b:=by
 induction a with
 | nil=>simp[Fu]
 | cons x a ih=>simp only[List.cons_append,Fu,ih];omega
def RB(a b:Int):Wi (Wi a+b)=Wi (a+b):=by
 simp only[IntKind.wrap_i64];omega
def XF(xs:List Int)(m:Nat):Int:=Fu (xs.reverse.take m)
def da{xs:List Int}{m:Nat}{x:Int}(h:xs.reverse[m]? = some x):XF xs (m+1)=XF xs m+x:=by
 unfold XF;rw[List.take_add_one,h,Wv];simp[Fu]
def uY(xs:List Int)(p:Int):Nat:=min (min 60 xs.length) (max p 0).toNat
def GOk.back{l:List Int}{n d:Int}{xs:List Int}(g:GOk l n d xs){m:Nat}(hm:(m:Int)<min 60 n){x:Int}(hx:l[(n-(m+1)).toNat%60]? = some x):xs.reverse[m]? = some x:=by
 have hn:=g.n;have e:(n-(m+1)).toNat=xs.length-1-m:=by omega
 rw[e,g.pos _ (by omega) (by omega)]at hx;rw[List.getElem?_reverse (by omega)];exact hx
def Ch(h:St w0 E w)(i:Nat){b:Nat}{xs:List Int}{s:Seg}(hi:nth E i=some s)(hg:NS b xs s)(hn:xs.length<2305843009213693952){p:Int}{k:Int×Int×Unit→PT}
  (hk:∀w',St w0 E w'→k (Wi (XF xs (uY xs p)),((uY xs p:Nat):Int),()) w') :
  L.call Pr Jk [pO b,I p] (.tup [(.one (.int .i64)),(.one (.int .i64))]) k w:=by
 obtain⟨l,n,d,g,rfl⟩:=hg;have hl:=g.len;have hn1:=g.n;refine zc (gi _ _) ?_;unfold Uo;refine nw h λb1 w h=>nw h λb2 w h=>nw h λb3 w h=>nn (lI h λc w h=>?_);refine rng h λdd lv lp w h hy=>?_;have h:=h.front (i+6) (s:=[Cl b jG (gc l n [I d])]) hi;have h:=h.front 3 rfl
 have fin:∀(st:LoopState)(m:Nat) w,m=uY xs p→St w0 ([Cl c Xs [.pointer (some ⟨b,0,none⟩)]]::[Cl b jG (gc l n [I d])]::[DfM dd]::[Cl b3 zm [I m]]::[Cl b2 zm [I (Wi (XF xs m))]]::[Cl b1 zm [I p]]::ZE E i) w→
   (L.draw<|
    L.load (.one (.int .i64)) (⟨b2,0,none⟩) λx15=>
    L.load (.one (.int .i64)) (⟨b3,0,none⟩) λx16=>
    L.store (⟨b2,0,none⟩) [.int .i64 x15]<|
    L.chk (⟨b3,0,none⟩) [.int .i64 x16]<|
    L.store (⟨b3,0,none⟩) [.int .i64 x16]<|
    L.unmark Pr ([dd]++[])<|
    L.load (.one (.int .i64)) (⟨b2,0,none⟩) λx17=>
    L.load (.one (.int .i64)) (⟨b3,0,none⟩) λx18=>
    λw'=>∃x,(Value.tuple #[.int .i64 x17,.int .i64 x18])=RT.val (.tup [(.one (.int .i64)),(.one (.int .i64))]) x∧k x w') w:=by
  intro st m w hm h;refine dr h λw h=>?_;refine ld h 4 rfl (l:=.int .i64) (x:=Wi (XF xs m)) rfl ?_;refine ld h 3 rfl (l:=.int .i64) (x:=(m:Int)) rfl ?_;refine st1 h 4 rfl rfl rfl λw h=>?_;refine ck h 3 rfl rfl ?_;refine st1 h 3 rfl rfl rfl λw h=>?_;refine um h 2 rfl λw h=>?_;refine ld h 4 rfl (l:=.int .i64) (x:=Wi (XF xs m)) rfl ?_;refine ld h 3 rfl (l:=.int .i64) (x:=(m:Int)) rfl ?_;refine⟨(Wi (XF xs m),(m:Int),()),rfl,?_⟩;subst hm;refine hk w ?_;have h:=h.tail.front 0 rfl;have h:=h.del 1 rfl;have h:=h.del 1 rfl;have h:=h.del 1 rfl;have h:=h.del 1 rfl;have h:=St.back i hi h;rw[yD hi]at h;exact h
 refine NJ hl (by omega) (by omega) (yv:=⟨.yield lv,#[],#[]⟩)
  (λm F=>F = [Rec lv lp .ready none]::[DfM dd]::[Cl b3 zm [I m]]::[Cl b2 zm [I (Wi (XF xs m))]]::[Cl b1 zm [I p]]::ZE E i∧(m:Int)≤max p 0)
  (λF=>∃m:Nat,F = [Rec lv lp .done (some (.exit 0))]::[DfM dd]::[Cl b3 zm [I m]]::[Cl b2 zm [I (Wi (XF xs m))]]::[Cl b1 zm [I p]]::ZE E i∧(m:Int)=max p 0∧(m:Int)≤min 60 n)
  h ⟨rfl,by omega⟩ ?_ ?_
 ·rintro m F w hm ⟨rfl,hmp⟩ h x hx;have hrec:=(h.at 2 rfl).2;refine hy (x,()) .ready none w _ hrec ?_;refine bgn h 2 rfl λw h=>?_;refine ld h 4 rfl (l:=.int .i64) (x:=(m:Int)) rfl ?_;refine ld h 6 rfl (l:=.int .i64) (x:=p) rfl ?_;refine it (λhb=>?_) (λhb=>?_)
  ·have hb:(m:Int)≥p:=of_decide_eq_true hb;refine LS h 2 rfl λw h=>⟨false,_,rfl,h,λhx=>Bool.noConfusion hx,λ_=>⟨m,rfl,?_,by omega⟩⟩;omega
  ·have hb:¬(m:Int)≥p:=of_decide_eq_false hb;refine ld h 5 rfl (l:=.int .i64) (x:=Wi (XF xs m)) rfl ?_;refine st1 h 5 rfl rfl rfl λw h=>?_;refine ld h 4 rfl (l:=.int .i64) (x:=(m:Int)) rfl ?_;refine st1 h 4 rfl rfl rfl λw h=>?_;refine WS h 2 rfl λw h=>⟨true,_,rfl,h,λ_=>⟨?_,by omega⟩,λhx=>Bool.noConfusion hx⟩;have e1:Wi ((m:Int)+1)=((m+1:Nat):Int):=by rw[wr (by omega) (by omega)];omega
   have e2:Wi (Wi (XF xs m)+x)=Wi (XF xs (m+1)):=by rw[RB,da (g.back hm hx)]
   (try dsimp only)
   rw[e1,e2];rfl
 ·rintro F w hF h;rcases hF with ⟨rfl,hmp⟩ | ⟨m,rfl,hmp,hmn⟩
  ·refine tU h 2 rfl (by simp) λw h=>?_;refine fin .ready _ w ?_ h;unfold uY;omega
  ·refine tU h 2 rfl (by simp) λw h=>?_;refine fin .done m w ?_ h;unfold uY;omega
end Go.Proofs.YtimahgbgejngiaaGreatDoor
namespace Go.Proofs.YtimahgbgejngiaaGreatDoor
open Go.Dm
attribute [local irreducible] L.load L.store L.chk L.new L.nonnil L.guard L.ite L.draw L.idx L.sem L.semR L.semU L.chkSem L.next L.call L.callV L.join L.alts L.loop L.begin L.endRound L.range
variable {w0 w:World}{E:List Seg}
structure kH where
 xs:List Int
 want:Int
 left:Int
structure Zc where
 sh:jn
 bk:Yk
 ro:Ou
 fl:zl
 gt:Zq
 by':List (B0×kH)
 now:Int
structure BsE where
 k:B0
 b:Nat
 g:Nat
 x:kH
 sgg:Seg
abbrev BsE.cell(x:BsE):Seg:=[Cl x.b JD [.pointer (some ⟨x.g,0,none⟩),I x.x.want,I x.x.left]]
abbrev BsE.sg(x:BsE):Seg:=x.cell++x.sgg
abbrev BsE.kp(x:BsE):B0×Option Addr:=(x.k,some ⟨x.b,0,none⟩)
abbrev BsE.ka(x:BsE):B0×kH:=(x.k,x.x)
def BsE.ok(x:BsE):Prop:=NS x.g x.x.xs x.sgg
structure Bls where
 s:Nat
 k:Nat
 r:Nat
 f:Nat
 g:Nat
 m:Nat
abbrev Uz(b:Nat)(p:Bls)(now:Int):Seg:=[Cl b VP [.pointer (some ⟨p.s,0,none⟩),.pointer (some ⟨p.k,0,none⟩),.pointer (some ⟨p.r,0,none⟩),.pointer (some ⟨p.f,0,none⟩),.pointer (some ⟨p.g,0,none⟩),.map (some p.m),I now]]
structure sI(a:Zc)(p:Bls)(sg sf ss sk sr sm:Seg)(Q:List BsE):Prop where
 gt:GtS p.g p.f a.gt sg
 fl:FlS p.f a.fl sf
 sh:ShS p.s a.sh ss
 bk:BkS p.k a.bk sk
 ro:Bq p.r a.ro sr
 mp:MpS Value.string Value.pointer p.m (Q.map BsE.kp) sm
 ea:∀x∈Q,x.ok
 ab:a.by'=Q.map BsE.ka
abbrev aL(b:Nat)(a:Zc)(p:Bls)(sg sf ss sk sr sm:Seg)(Q:List BsE):Seg:=Uz b p a.now++(sg++(sf++(ss++(sk++(sr++(sm++(Q.map BsE.sg).flatten))))))
def Xu(b:Nat)(a:Zc)(s:Seg):Prop:=∃(p:Bls)(sg sf ss sk sr sm:Seg)(Q:List BsE),sI a p sg sf ss sk sr sm Q∧s=aL b a p sg sf ss sk sr sm Q
def _root_.Go.Dm.St.split8{a b c d e f g i:Seg}(h:St w0 ((a++(b++(c++(d++(e++(f++(g++i)))))))::E) w):St w0 (a::b::c::d::e::f::g::i::E) w:=h.eq (by simp)
def _root_.Go.Dm.St.glue8{a b c d e f g i:Seg}(h:St w0 (a::b::c::d::e::f::g::i::E) w):St w0 ((a++(b++(c++(d++(e++(f++(g++i)))))))::E) w:=h.eq (by simp)
def Xb{sv a b c d e f g j s:Seg}(i:Nat)(hi:nth E i=some s)(h:St w0 (sv::a::b::c::d::e::f::g::j::ZE E i) w):St w0 (sv::ze E i (a++(b++(c++(d++(e++(f++(g++j)))))))) w:=by
 have h:=jB (jB (jB (jB (jB (jB (jB (jB h)))))));have h:=h.glue8;exact St.back (E:=sv::E) (i+1) hi h
def GC:Pr.underlying Za=some (.map zd JW):=by kernel_rfl
abbrev slK(k:Sl→PT):Value→PT:=λv w'=>∃x,v=RT.val (.one (.one .slice)) x∧k x w'
abbrev Hk(w0:World)(E:List Seg)(i b:Nat)(r:Zc×List B0)(k:Sl→PT):Prop:=∀v sv s' w',Rw eS zd 1 v r.2 sv→Xu b r.1 s'→St w0 (sv::ze E i s') w'→k v w'
def uy(a:Zc)(e:AEv):Zc×List B0:=({ a with sh:=(UF a.sh e.c e.n).1 },nU TQ e.c.1 (UF a.sh e.c e.n).2.1 (UF a.sh e.c e.n).2.2)
def nH(a:jn)(c:Cfg)(ver:Int)(h0:0≤a.n)(h1:a.n<900000000):0≤(UF a c ver).2.1∧(UF a c ver).2.1≤9000000000000000000:=by
 unfold UF;split
 ·exact⟨Int.le_refl 0,by show(0:Int)≤_;decide⟩
 ·split
  ·exact⟨Int.le_refl 0,by show(0:Int)≤_;decide⟩
  ·dsimp only;omega
def Ce [jF w0](h:St w0 E w)(i:Nat){b:Nat}{a:Zc}{s:Seg}(hi:nth E i=some s)(hs:Xu b a s){e:AEv}(hn:a.sh.n<900000000)(hsz:e.c.1.size≤1000000){k:Sl→PT}(hk:Hk w0 E i b (uy a e) k) :
  Ju (some ⟨b,0,none⟩) e.t (slK k) w:=by
 obtain⟨p,sg,sf,ss,sk,sr,sm,Q,R,rfl⟩:=hs;have hlo:=R.sh.1.lo;unfold Ju;have h:=(h.front i hi).split8;refine nw h ?_;clear h;intro b1 w h
 (dsimp only[ze,List.cons_append,List.nil_append]at h;refine dr h ?_;clear h;intro w h;refine nn ?_;refine ldC h ?_;refine laC h ?_;refine ldC h ?_;rw[Xg])
 refine rC (c:=e.c) h 4 rfl R.sh hn λss' w hS h=>?_;dsimp only[ze]at h
 (refine ldC h ?_)
 have hv:=nH a.sh e.c e.n hlo hn;refine Ap h (by decide) hsz hv λv sv w r h=>?_;refine⟨v,rfl,hk v sv _ w r ⟨p,sg,sf,ss',sk,sr,sm,Q,⟨R.gt,R.fl,hS,R.bk,R.ro,R.mp,R.ea,R.ab⟩,rfl⟩ ?_⟩;exact Xb i hi (jE h)
def me(a:Zc)(e:AEv):Zc×List B0:=({ a with sh:=(CC a.sh e.r e.n).1 },nU Lq e.r.name (CC a.sh e.r e.n).2.1 (CC a.sh e.r e.n).2.2)
def PX(a:Zc)(e:AEv):Zc×List B0:=
 ({ a with gt:=(Pw a.fl a.gt e.n).2.1,fl:=(Pw a.fl a.gt e.n).1 },if(Pw a.fl a.gt e.n).2.2.2≠0 then jp (Pw a.fl a.gt e.n).2.2.2 else(Pw a.fl a.gt e.n).2.2.1.map xU)
def AG(a:Zc)(e:AEv):Yk:=if Gf a.bk (fOf (Mm a.fl e.n).1.l e.n)=true then a.bk else(rb a.bk (fOf (Mm a.fl e.n).1.l e.n)).1
def PS(a:Zc)(e:AEv):List B0:=
 if Gf a.bk (fOf (Mm a.fl e.n).1.l e.n)=true then [ZD aN [jY e.n.toNat]]else [ZD aN [jY e.n.toNat],ZD wt [fOf (Mm a.fl e.n).1.l e.n]]
abbrev PQ(a:Zc)(e:AEv):zl×Zq×List Yz:=fY (Mm a.fl e.n).1 a.gt (fOf (Mm a.fl e.n).1.l e.n)
def wc(a:Zc)(e:AEv):Zc×List B0:=
 if(Mm a.fl e.n).2≠0 then({ a with fl:=(Mm a.fl e.n).1 },jp (Mm a.fl e.n).2)
 else({ a with fl:=(PQ a e).1,gt:=(PQ a e).2.1,bk:=AG a e },PS a e++(PQ a e).2.2.map xU)
abbrev Vd(c:Cfg):Int:=if 1 > @id Int c.2.2.2.1 then 1 else @id Int c.2.2.2.1
abbrev stp(a:Zc)(n:B0):Yk×B0×Bool:=Jp a.bk (Yl a.sh n).1 (@id Int (Yl a.sh n).2.2.1).toNat
def Qk(a:Zc)(e:AEv):Zc×List B0:=
 if(Yl a.sh e.name).2.2.2.1=false then(a,jp 6)else if @id Int (Yl a.sh e.name).2.2.1>999999 then(a,jp 3)
 else if(stp a e.name).2.2=false then({ a with bk:=(stp a e.name).1 },[ZD wq [(stp a e.name).2.1]])
 else({ a with bk:=(stp a e.name).1,by':=Zl a.by' (stp a e.name).2.1 ⟨[],Vd (Yl a.sh e.name).1,0⟩ },[ZD Vi [(stp a e.name).2.1],ZD (ZD jg [(stp a e.name).2.1]) [jY (Vd (Yl a.sh e.name).1).toNat]])
def Lm(a:Yk)(c:Cfg)(g:Nat):(Jp a c g).2.1=xb c.1 g:=by unfold Jp;split<;>rfl
def dM [jF w0](h:St w0 E w)(i:Nat){b:Nat}{a:Zc}{s:Seg}(hi:nth E i=some s)(hs:Xu b a s){e:AEv}
  (hst:(Yl a.sh e.name).2.2.2.1=true→ZM (Yl a.sh e.name).1.1.data.toList 16=true∧1≤@id Int (Yl a.sh e.name).2.2.1∧@id Int (Yl a.sh e.name).2.2.1<100∧@id Int (Yl a.sh e.name).1.2.2.2.1≤1000000) (hf:a.bk.all.length<999999)
  {k:Sl→PT} (hk:Hk w0 E i b (Qk a e) k):JP (some ⟨b,0,none⟩) e.t (slK k) w:=by
 have hs0:=hs;obtain⟨p,sg,sf,ss,sk,sr,sm,Q,R,rfl⟩:=hs;unfold JP;unfold Qk stp at hk;have h:=(h.front i hi).split8;refine nw h ?_;clear h;intro b1 w h
 refine ZA (λ(z:Addr×Int×Bool×Unit) w=>∃b8:Nat,z=(⟨b8,0,none⟩,(Yl a.sh e.name).2.2.1,(Yl a.sh e.name).2.2.2.1,())∧
  St w0 ([Cl b8 zq (Cfg.cells (Yl a.sh e.name).1)]::Uz b p a.now::sg::sf::ss::sk::sr::sm::(Q.map BsE.sg).flatten::ZE E i) w) (λk2 hk2=>?_) ?_
 ·(dsimp only[ze,List.cons_append,List.nil_append]at h;refine dr h ?_;clear h;intro w h;refine nn ?_;refine ldC h ?_;refine ldC h ?_)
  refine VO ?_ ?_
  ·refine My h 4 rfl R.sh λw h=>?_;refine nw h ?_;clear h;intro b8 w h
   (refine ckC h ?_;refine ckC h ?_;refine stC h ?_;clear h;intro w h;dsimp only[zP,ze]at h)
   exact hk2 _ w ⟨b8,rfl,jE h⟩
  ·refine nw h ?_;clear h;intro b8 w h
   (refine ckC h ?_;refine ckC h ?_)
   refine My h 5 rfl R.sh λw h=>?_
   (refine stC h ?_;clear h;intro w h;dsimp only[zP,ze]at h)
   exact hk2 _ w ⟨b8,rfl,jE h⟩
 clear h;rintro z w ⟨b8,rfl,h⟩
 (try dsimp only)
 refine it (λhc=>?_) (λhc=>?_)
 ·have hc:(Yl a.sh e.name).2.2.2.1=false:=by simpa using hc
  rw[if_pos hc]at hk;refine uF h λv s w r h=>?_;exact⟨v,rfl,hk v s _ w r hs0 (Xb i hi (jE h))⟩
 have hc:(Yl a.sh e.name).2.2.2.1=true:=by simpa using hc
 rw[if_neg (by simp[hc])]at hk;obtain⟨st1,st2,st3,st4⟩:=hst hc;have hmin:0≤Vd (Yl a.sh e.name).1∧Vd (Yl a.sh e.name).1≤1000000:=by
  unfold Vd;split<;>omega
 unfold Vd at hk hmin;generalize Yl a.sh e.name=z at *
 obtain⟨c,ver,gen,is,⟨⟩⟩:=z;dsimp only at hk hc hmin h st1 ⊢;simp only[id]at st2 st3 st4;refine it (λh2=>?_) (λh2=>?_)
 ·exact absurd (of_decide_eq_true h2) (by simp only[Int.not_lt,gt_iff_lt];omega)
 have hng:¬@id Int gen>999999:=by simp only[id];omega
 rw[if_neg hng]at hk
 (refine dr h ?_;clear h;intro w h;refine nn ?_;refine ldC h ?_;refine laC h ?_)
 obtain⟨g,rfl⟩:∃g:Nat,gen=(g:Int):=⟨@Int.toNat gen,by omega⟩
 have hg1:1≤g:=by have:(1:Int)≤(g:Int):=st2
                  omega
 have hg2:g<100:=by have:(g:Int)<100:=st3
                    omega
 simp only[id,Int.toNat_natCast]at hk hmin;refine NO (c:=c) h 5 rfl R.bk st1 hg1 hg2 hf λsk' w hK h=>?_;dsimp only[ze]at h;have hrev:=Lm a.bk c g;have hsz:(xb c.1 g).size≤1000000:=by have:=mD c.1 hg2;have:=Vg st1;omega
 rw[←hrev]at hsz;clear hrev;generalize (Jp a.bk c g).2.1=rev at *
 have hfr:∀x:Bool,(Jp a.bk c g).2.2=x→True:=λ_ _=>trivial;generalize (Jp a.bk c g).2.2=fr at *
 generalize (Jp a.bk c g).1=K at *
 cases fr with
 | false=>
  rw[if_pos rfl]at hk;refine itT rfl ?_;refine nw h ?_;clear h;intro b17 w h;refine qQ h (by decide) (by omega) λw h=>?_;refine nw h ?_;clear h;intro b19 w h;exact⟨_,rfl,hk _ _ _ w (Rw.lit b19 [_] Yy rfl rfl (by simp[maxLen])) ⟨p,sg,sf,ss,sk',sr,sm,Q,⟨R.gt,R.fl,R.sh,hK,R.ro,R.mp,R.ea,R.ab⟩,rfl⟩ (Xb i hi (jE h))⟩
 | true=>
  rw[if_neg (by decide)]at hk;refine itF rfl ?_
  (refine ldC h ?_;refine dr h ?_;clear h;intro w h;refine nn ?_;refine ldC h ?_)
  refine rV h λbg sgg w hG h=>?_
  (refine ckC h ?_)
  refine nw h ?_;clear h;intro b24 w h
  (refine ckC h ?_)
  refine MpS.set oV GC h 9 rfl R.mp (some ⟨b24,0,none⟩) rfl λsm' w hm' h=>?_;dsimp only[ze]at h;refine nw h ?_;clear h;intro b25 w h;refine qQ h (by decide) (by omega) λw h=>?_;refine nw h ?_;clear h;intro b27 w h;refine qQ h (by decide) (by omega) λw h=>?_;have hl:(ZD jg [rev]).size≤100000000:=by rw[uD];have:jg.size=5:=rfl;omega
  refine nw h ?_;clear h;intro b29 w h;refine qg h hl hmin.1 (by omega) λw h=>?_;refine nw h ?_;clear h;intro b31 w h;have h:St w0 ([Cl b31 zd [.string (ZD Vi [rev]),.string (ZD (ZD jg [rev]) [jY (if 1 > @id Int c.2.2.2.1 then 1 else @id Int c.2.2.2.1).toNat])]]::[Cl b24 JD [.pointer (some ⟨bg,0,none⟩),I (if 1 > @id Int c.2.2.2.1 then 1 else @id Int c.2.2.2.1),I 0]]::sgg::[Cl b8 zq (Cfg.cells c)]::Uz b p a.now::sg::sf::ss::sk'::sr::sm'::(Q.map BsE.sg).flatten::ZE E i) w:=h;have h:=QJ h;have h:=ZR (ZR h);have h:=h.glue;have h:=Yx (UA h);have h:St w0 (BsE.sg ⟨rev,b24,bg,⟨[],(if 1 > @id Int c.2.2.2.1 then 1 else @id Int c.2.2.2.1),0⟩,sgg⟩::(Q.map BsE.sg).flatten::[Cl b31 zd [.string (ZD Vi [rev]),.string (ZD (ZD jg [rev]) [jY (if 1 > @id Int c.2.2.2.1 then 1 else @id Int c.2.2.2.1).toNat])]]::Uz b p a.now::sg::sf::ss::sk'::sr::sm'::ZE E i) w:=h;have h:=St.lput (key:=BsE.k) h;have h:=jB (jB (jB (jB (jB (jB (jB (jB h)))))));have e5:=kX (key:=BsE.k) (λx:BsE=>(some ⟨x.b,0,none⟩:Option Addr)) ⟨rev,b24,bg,⟨[],(if 1 > @id Int c.2.2.2.1 then 1 else @id Int c.2.2.2.1),0⟩,sgg⟩ Q;have e6:=kX (key:=BsE.k) BsE.x ⟨rev,b24,bg,⟨[],(if 1 > @id Int c.2.2.2.1 then 1 else @id Int c.2.2.2.1),0⟩,sgg⟩ Q;refine⟨_,rfl,hk _ _ _ w (Rw.lit b31 [_,_] Yy rfl rfl (by simp[maxLen])) ⟨p,sg,sf,ss,sk',sr,sm',_,⟨R.gt,R.fl,R.sh,hK,R.ro,by rw[←e5]at hm';exact hm',λy hy=>?_,?_⟩,rfl⟩ (Xb i hi h)⟩
  ·rcases mY hy with rfl | hy
   ·exact hG
   ·exact R.ea y hy
  ·show Zl a.by' _ _=_;rw[R.ab];exact e6.symm
abbrev DO(a:Zc)(n:B0):kG×Int:=resolve a.bk (Ln a.sh n).1
abbrev Ad(a:Zc)(n:B0):kG:=Rp a.ro n (DO a n).1 a.now (Ln a.sh n).1.roll
def PV(a:Zc)(e:AEv):Zc×List B0:=
 if(Ln a.sh e.name).2.2=false then(a,jp 6)else if(DO a e.name).2≠0 then(a,jp (DO a e.name).2)
 else({ a with ro:=RP a.ro e.name (DO a e.name).1 a.now (Ln a.sh e.name).1.roll },[ZD Lp [e.name,Du (Ad a e.name)]])
structure sM(t:kG):Prop where
 sh:∀s∈t.sh,(0≤@id Int s.2.1∧@id Int s.2.1≤1000)∧s.1.size≤1000
 tg:∀s∈t.tg,s.1.size≤1000∧s.2.1.size≤1000
 txt:(Du t).size≤100000000
def Gg{rev:B0}{y:kH}{sgg:Seg}{x:BsE}(hk:x.k=rev){B:List BsE}:∀{A:List BsE},((A++x::B).map BsE.k).Nodup→(A++⟨x.k,x.b,x.g,y,sgg⟩::B).map BsE.ka=Zl ((A++x::B).map BsE.ka) rev y
 | [],_=>by
  subst hk;simp[Zl]
 | a::A,hn=>by
  have hn2:=hn;rw[List.cons_append,List.map_cons,List.nodup_cons]at hn2;have hne:¬a.k=rev:=λe=>hn2.1 (by rw[e,←hk];simp);have ih:=Gg hk (A:=A) (y:=y) (sgg:=sgg) hn2.2;rw[List.cons_append,List.map_cons,List.cons_append,List.map_cons,ih];simp only[Zl];rw[if_neg hne]
def bnd(a:Zc)(e:AEv):B0:=if(zD a.ro e.name).isSome=false then s_ else if e.tag=s_ then Dv (VH a.ro e.name) e.draw else(MX (VH a.ro e.name).tg e.tag).1
abbrev eEw (e : AEv) : List Value := [I e.kind, .string e.name, .string e.tag, I e.n, I e.draw, .string e.c.1, I e.c.2.1, I e.c.2.2.1, I e.c.2.2.2.1, I e.c.2.2.2.2.1, I e.c.2.2.2.2.2.1, .string e.r.name, .string e.r.cfg, SlV e.v, I e.r.roll]
def Rb(h:St w0 E w)(i:Nat){b:Nat}{a:Zc}{s:Seg}(hi:nth E i=some s)(hs:Xu b a s){e:AEv}(hd:0≤e.draw∧e.draw<4611686018427387904)(hok:∀x,zD a.ro e.name=some x→x.Ok)(hwb:WBd (VH a.ro e.name).sh){k:B0→PT}
  (hk:∀w',St w0 E w'→k (bnd a e) w'):L.call Pr JL [pO b,evV e] (.one (.one .str)) k w:=by
 obtain⟨p,sg,sf,ss,sk,sr,sm,Q,R,rfl⟩:=hs;refine zc (ko _ e.t) ?_;unfold qx;unfold bnd at hk;have h:=(h.front i hi).split8;refine nw h ?_;clear h;intro b1 w h
 (dsimp only[ze,List.cons_append,List.nil_append]at h;refine ldC h ?_)
 refine zc (kq _ _) ?_;unfold qy;refine nw h ?_;clear h;intro b2 w h
 (refine nn ?_;refine ldC h ?_)
 refine NG h 7 rfl R.ro hok λq sx w hq h=>?_
 (refine stC h ?_;clear h;intro w h;dsimp only[zP,ze]at h;refine laC h ?_)
 refine⟨(q,(zD a.ro e.name).isSome,()),rfl,?_⟩;have fin:∀{w x},(∀w',St w0 E w'→k x w')→St w0 (sx::[Cl b2 yZ [SlV q.1,SlV q.2.1]]::[Cl b1 zT (eEw e)]::Uz b p a.now::sg::sf::ss::sk::sr::sm::(Q.map BsE.sg).flatten::ZE E i) w→k x w:=by
  intro w x hk h;exact hk w (St.again i hi (zy (zy (zy h))).glue8)
 refine nw h ?_;clear h;intro b4 w h
 (refine stC h ?_;clear h;intro w h;dsimp only[zP,ze]at h)
 refine it (λhc=>?_) (λhc=>?_)
 ·have hc:(zD a.ro e.name).isSome=false:=by simpa using hc
  rw[if_pos hc]at hk;exact⟨_,rfl,fin hk (zy h)⟩
 have hc:¬(zD a.ro e.name).isSome=false:=λe2=>by
  dsimp only at hc;rw[e2]at hc;exact absurd hc (by decide)
 rw[if_neg hc]at hk
 (refine ldC h ?_)
 rw[JI];refine it (λh2=>?_) (λh2=>?_)<;>(try simp only[zB]at h2)
 ·rw[if_pos h2]at hk
  (refine laC h ?_;refine ldC h ?_)
  exact Bl (p:=q) h (t:=VH a.ro e.name) (by
   have:=hq ([Cl b2 yZ [SlV q.1,SlV q.2.1]]::[Cl b1 zT (eEw e)]::Uz b p a.now::sg::sf::ss::sk::sr::sm::(Q.map BsE.sg).flatten::ZE E i);exact this.there) hwb hd.1 hd.2 λw h=>⟨_,rfl,fin hk (zy h)⟩
 ·rw[if_neg h2]at hk
  (refine laC h ?_;refine ldC h ?_)
  exact Rh (p:=q) h (t:=VH a.ro e.name) (by
   have:=hq ([Cl b2 yZ [SlV q.1,SlV q.2.1]]::[Cl b1 zT (eEw e)]::Uz b p a.now::sg::sf::ss::sk::sr::sm::(Q.map BsE.sg).flatten::ZE E i);exact this.there) λw h=>⟨_,rfl,fin hk (zy h)⟩
abbrev arG(a:Zc)(e:AEv):zl×Zq×Yz:=Mi a.fl a.gt e.n (bnd a e) a.now
def wW(a:Zc)(e:AEv):Option kH:=match zD a.by' (bnd a e) with
 | some x=>if(arG a e).2.2.2.1=2∧x.want=0 then some x else none
 | none=>none
def Xz(a:Zc)(e:AEv):Zc×List B0:=match wW a e with
 | some x=>({ a with fl:=(arG a e).1,gt:=(arG a e).2.1,by':=Zl a.by' (bnd a e) ⟨x.xs,1,x.left⟩ },[xU (arG a e).2.2,ZD (ZD jg [bnd a e]) [jY 1]])
 | none=>({ a with fl:=(arG a e).1,gt:=(arG a e).2.1 },[xU (arG a e).2.2])
def NU(w:World):(zeroValue JW).run Pr w = .ok ((E1.one .ptr).val (none:Option Addr)) w:=by
 have h:(Pr.info? JW).map (·.zero)=some (some (.pointer none)):=by kernel_rfl
 cases hi:Pr.info? JW with
 | none=>rw[hi]at h;cases h
 | some i=>rw[hi]at h;simp only[Option.map_some,Option.some.injEq]at h;exact zv hi h w
def OV{Q:List BsE}{rev:B0}:zD (Q.map BsE.kp) rev=(uW BsE.k Q rev).map λx=>some ⟨x.b,0,none⟩:=qR (key:=BsE.k) (λx:BsE=>(some ⟨x.b,0,none⟩:Option Addr)) rev Q
def OW{Q:List BsE}{rev:B0}:zD (Q.map BsE.ka) rev=(uW BsE.k Q rev).map BsE.x:=qR (key:=BsE.k) BsE.x rev Q
def Cf [jF w0](h:St w0 E w)(i:Nat){b:Nat}{a:Zc}{s:Seg}(hi:nth E i=some s)(hs:Xu b a s){e:AEv}(hd:0≤e.draw∧e.draw<4611686018427387904)(hok:∀x,zD a.ro e.name=some x→x.Ok)(hwb:WBd (VH a.ro e.name).sh)
  (hfew:JF a.fl) (hn:a.gt.all.length<80000000) (hl:a.gt.lines.length<90000000) (hnow: -1000000000000<a.now+a.gt.pat∧a.now+a.gt.pat<1000000000000) (hf:(arG a e).2.2.Ok) (hrv:(bnd a e).size≤1000000)
  {k:Sl→PT} (hk:Hk w0 E i b (Xz a e) k):Jv (some ⟨b,0,none⟩) e.t (slK k) w:=by
 have hs0:=hs;obtain⟨p,sg,sf,ss,sk,sr,sm,Q,R,rfl⟩:=hs;unfold Jv;refine nw h ?_;clear h;intro b1 w h
 (dsimp only[ze,List.cons_append,List.nil_append]at h;refine laC h ?_)
 refine Rb (e:=e) h (i+1) hi hs0 hd hok hwb λw h=>?_;unfold Xz wW arG at hk;unfold arG at hf;generalize bnd a e=rev at *
 have h:=(h.front (i+1) hi).split8;have h:St w0 (Uz b p a.now::sg::sf::ss::sk::sr::sm::(Q.map BsE.sg).flatten::[Cl b1 zT (eEw e)]::ZE E i) w:=h
 (refine dr h ?_;clear h;intro w h;refine nn ?_;refine ldC h ?_;refine ldC h ?_;refine nn ?_;refine ldC h ?_)
 have h:=ZR (ZR h);refine Bb h R.gt R.fl hfew (by omega) hl hnow λv sv sg' sf' w hr hG hF h=>?_;generalize Mi a.fl a.gt e.n rev a.now=g at *
 have hone:∀f∈[g.2.2],f.Ok:=λf hff=>by rw[List.mem_singleton.1 hff];exact hf
 have hlen:=Rw.len fb hr;refine lq h.nil (l:=[]) hr hone (by simp) (by decide) Rw.nil λv2 s2 w r2 h=>?_;simp only[List.nil_append,List.map_cons,List.map_nil]at r2
 (refine nn ?_;refine ldC h ?_)
 refine zc (jw _ _) ?_;unfold yT;refine MpS.get2 oV GC NU (λx:Option Addr=>x) (λ_=>rfl) h 8 rfl R.mp ?_;rw[R.ab,OW]at hk;rw[OV]
 have close:∀{w}{vo:Sl}{so sm':Seg}{Q':List BsE}{by'':List (B0×kH)}{out:List B0},by''=Q'.map BsE.ka→MpS Value.string Value.pointer p.m (Q'.map BsE.kp) sm'→(∀x∈Q',x.ok)→Rw eS zd 1 vo out so→
   (∀v sv s' w',Rw eS zd 1 v out sv→Xu b { a with fl:=g.1,gt:=g.2.1,by':=by'' } s'→St w0 (sv::ze E i s') w'→k v w')→
   St w0 (so::sv::sg'::sf'::Uz b p a.now::ss::sk::sr::sm'::(Q'.map BsE.sg).flatten::[Cl b1 zT (eEw e)]::ZE E i) w→
   slK k (.slice vo.a vo.len vo.cap) w:=by
  intro w vo so sm' Q' by'' out e1 hm hq ro hk h;refine⟨vo,rfl,hk vo so _ w ro ⟨p,sg',sf',ss,sk,sr,sm',Q',⟨hG,hF,R.sh,R.bk,R.ro,hm,hq,e1⟩,rfl⟩ ?_⟩;have h:=jE h;have h:=jB (jB (xH (xH (jB (jB (jB (jB (jB h))))))));exact Xb i hi (sF h)
 cases hf2:uW BsE.k Q rev with
 | none=>
  rw[hf2]at hk;dsimp only[Option.map]at hk ⊢;refine⟨(none,false,()),rfl,?_⟩;refine jd ?_;refine itF rfl ?_;exact close rfl R.mp R.ea r2 hk h
 | some x=>
  have hmk:=R.mp.nd;obtain⟨A,B,rfl,hxk⟩:=uV hf2;rw[hf2]at hk;dsimp only[Option.map]at hk ⊢;refine⟨(some ⟨x.b,0,none⟩,true,()),rfl,?_⟩;refine jd ?_;refine itT rfl ?_;refine itT (by rw[hlen];rfl) ?_;refine Rw.ix fb hr (by decide) (by simp) λa16 ha=>?_;refine Rw.ld fb h 1 rfl hr ha (x:=g.2.2) (f:=1) rfl rfl rfl ?_;refine it (λh1=>?_) (λh1=>?_)
  ·have h1:g.2.2.2.1=2:=by simpa using h1
   have h:=UA h;have h:=h.pick;have h:=h.split
   (refine nn ?_;refine ldC h ?_)
   refine it (λh2=>?_) (λh2=>?_)
   ·have h2:x.x.want=0:=by simpa using h2
    rw[if_pos ⟨h1,h2⟩]at hk;dsimp only at hk
    (refine nn ?_;refine stC h ?_;clear h;intro w h;dsimp only[zP,ze]at h)
    refine nw h ?_;clear h;intro b21 w h;refine qQ h (by decide) (by omega) λw h=>?_;refine nw h ?_;clear h;intro b23 w h;refine qg h (by rw[uD];have:jg.size=5:=rfl;omega) (by decide) (by decide) λw h=>?_;refine nw h ?_;clear h;intro b25 w h;refine Rw.app Yy elS h 3 rfl r2 (ZD (ZD jg [rev]) [jY 1]) rfl (by simp) (by simp) λv' s' w r2' h=>?_;dsimp only[ze]at h;have h:=h.glue;have h:St w0 (BsE.sg ⟨x.k,x.b,x.g,⟨x.x.xs,1,x.x.left⟩,x.sgg⟩::((A++B).map BsE.sg).flatten::s'::sv::sg'::sf'::Uz b p a.now::ss::sk::sr::sm::[Cl b1 zT (eEw e)]::ZE E i) w:=h;have h:=h.place;have h:=UA (UA (UA (UA (UA (UA (UA (UA (UA h))))))));have et:=Gg (rev:=rev) (y:=⟨x.x.xs,1,x.x.left⟩) (sgg:=x.sgg) hxk (B:=B) (A:=A) (by simpa [List.map_map,Function.comp_def]using hmk);refine close (Q':=A++⟨x.k,x.b,x.g,⟨x.x.xs,1,x.x.left⟩,x.sgg⟩::B) et.symm (by simpa using R.mp) (λy hy=>?_) r2' hk h;rcases List.mem_append.1 hy with hy | hy
    ·exact R.ea y (by simp[hy])
    ·rcases List.mem_cons.1 hy with rfl | hy
     ·exact R.ea x (by simp)
     ·exact R.ea y (by simp[hy])
   ·have h2:¬x.x.want=0:=by simpa using h2
    rw[if_neg (λhh=>h2 hh.2)]at hk;have h:=h.glue;have h:=St.place (g:=BsE.sg) (t:=x) h;have h:=UA (UA (UA (UA (UA (UA (UA (UA (UA h))))))));exact close rfl R.mp R.ea r2 hk h
  ·have h1:¬g.2.2.2.1=2:=by simpa using h1
   rw[if_neg (λhh=>h1 hh.1)]at hk;exact close rfl R.mp R.ea r2 hk h
def Dp(m:List (B0×kH))(rev:B0):Int:=((zD m rev).map kH.want).getD 0
def ND(h:St w0 E w){b:Nat}{p:Bls}{now:Int}{sm:Seg}{Q:List BsE}{i j l:Nat}(hi:nth E i=some (Uz b p now))(hj:nth E j=some sm)(hl:nth E l=some (Q.map BsE.sg).flatten)(hm:MpS Value.string Value.pointer p.m (Q.map BsE.kp) sm){rev:B0}{k:Int→PT}(hk:k (Dp (Q.map BsE.ka) rev) w) :
  L.call Pr xi [pO b,.string rev] (.one (.one (.int .i64))) k w:=by
 refine zc (KH _ _) ?_;unfold Qw;have h0:=h;have h:=h0.front i hi;unfold Dp at hk;rw[OW]at hk
 (refine nn ?_;refine ldC h ?_)
 refine zc (jw _ _) ?_;unfold yT;refine MpS.get2 oV GC NU (λx:Option Addr=>x) (λ_=>rfl) h0 j hj hm ?_;rw[OV]
 cases hf:uW BsE.k Q rev with
 | none=>
  rw[hf]at hk;refine⟨(none,false,()),rfl,?_⟩;exact itF rfl ⟨_,rfl,hk⟩
 | some x=>
  rw[hf]at hk;obtain⟨A,B,rfl,hxk⟩:=uV hf;refine⟨(some ⟨x.b,0,none⟩,true,()),rfl,?_⟩;refine itT rfl ?_;have h:=((h0.front l hl).pick).split
  (refine nn ?_;refine ldC h ?_)
  exact⟨_,rfl,hk⟩
def cnt(q:Int→Bool)(l:List (Int×Int×Int)):Int:=((l.filter λx=>q x.2.1).length:Int)
def Mx(h:St w0 E w){b:Nat}{p:Bls}{now:Int}{sf:Seg}{F:zl}{i j:Nat}(hi:nth E i=some (Uz b p now))(hj:nth E j=some sf)(hf:FlS p.f F sf){rev:B0}{fv:FV}{q:Int→Bool}(hlen:(JV F.l rev).length<1000000)
  (hq:∀{E':List Seg}{w:World}{x:Int}{k:Bool→PT},St w0 E' w→(∀w',St w0 E' w'→k (q x) w')→L.callV Pr (.func fv.fn fv.fs fv.cs) [I x] (.one (.one .bool)) k w) {k:Int→PT} (hk:∀w',St w0 E w'→k (cnt q (JV F.l rev)) w') :
  L.call Pr jh [pO b,.string rev,fv.val] (.one (.one (.int .i64))) k w:=by
 refine zc (kj _ _ fv) ?_;unfold qw;refine zc (KJ _ _) ?_;unfold Qx;have h0:=h;have h:=h0.front i hi
 (refine nn ?_;refine ldC h ?_)
 refine Ra h0 j hj hf λv s w hr h=>⟨v,rfl,?_⟩;clear h0;generalize JV F.l rev=l at *
 have hln:=Rw.len dq hr;refine Zh (λm y w=>∃(j:Nat),@Eq Int y.2.1 j∧m+j=l.length∧@Eq Int y.1 (cnt q (l.take j))∧St w0 (s::E) w) l.length ⟨0,rfl,rfl,rfl,h⟩ ?_;clear h;rintro m ⟨n,y,⟨⟩⟩ w ⟨j,hy,hm,hn,h⟩ again hag
 (try dsimp only)
 simp only at hy hn;subst hy;refine it (λhb=>?_) (λhb=>?_)<;>(try simp only[zB]at hb)
 ·have hj:j<l.length:=by omega
  have hx:l[j]? = some l[j]:=List.getElem?_eq_getElem hj;have et:cnt q (l.take (j+1))=cnt q (l.take j)+(if q l[j].2.1=true then 1 else 0):=by
   unfold cnt;rw[List.take_succ,hx,Option.toList_some,List.filter_append,List.length_append];by_cases hc:q l[j].2.1=true
   ·simp[hc]
   ·simp[hc]
  have hle:0≤cnt q (l.take j)∧cnt q (l.take j)≤j:=by
   unfold cnt;have:=List.length_filter_le (λx:Int×Int×Int=>q x.2.1) (l.take j);rw[List.length_take]at this;omega
  generalize l[j]=x at hx et;obtain⟨x1,x2,x3⟩:=x;refine jd ?_;refine Rw.ix dq hr (by omega) (by simpa using hj) λa ha=>?_;refine Rw.lda dq h 0 rfl hr ha (x:=(x1,x2,x3)) (by simpa using hx) rfl ?_;refine nw h ?_;clear h;intro b8 w h
  (refine stC h ?_;clear h;intro w h;dsimp only[zP,ze]at h;refine ldC h ?_)
  refine hq h λw h=>?_;have h:=zy h;dsimp only at et;refine it (λhc=>?_) (λhc=>?_)
  ·rw[if_pos hc]at et;refine hag (m-1) _ w (by omega) ⟨j+1,?_,by omega,?_,h⟩
   ·show Wi _=_;rw[wr (by omega) (by omega)];omega
   ·show Wi (n+1)=_;rw[et,hn,wr (by omega) (by omega)]
  ·rw[if_neg (by rw[hc];decide)]at et;refine hag (m-1) _ w (by omega) ⟨j+1,?_,by omega,?_,h⟩
   ·show Wi _=_;rw[wr (by omega) (by omega)];omega
   ·show n=_;rw[et,hn];omega
 ·have e:l.take j=l:=List.take_of_length_le (by omega);rw[e]at hn;have:=hk w (zy h);rw[←hn]at this;exact⟨_,rfl,this⟩
abbrev YD(a:Zc)(n:B0):Int:=Dp a.by' n
abbrev qH(a:Zc)(n:B0):Int:=@id Int (XI a.bk n).2.2.2.2.1
abbrev cj(a:Zc)(n:B0):zl:=(jD a.fl n (qH a n) (YD a n)).1
abbrev mK(word:B0)(l:List Int):List B0:=l.map λx=>ZD word [jY x.toNat]
def qZ(a:Zc)(e:AEv):Zc×List B0:=
 if YZ a.bk e.name=false then(a,jp 6)
 else({ a with fl:=cj a e.name },mK wx (UL a.fl e.name (YD a e.name))++mK wA (jD a.fl e.name (qH a e.name) (YD a e.name)).2++[ZD (ZD FL [e.name]) [jY (cnt (λs=>s != 3) (JV (cj a e.name).l e.name)).toNat]])
def DK [jF w0]{word:B0}{v:Sl}{l:List Int}{X:List B0}{vo:Sl}{si so:Seg}(hr:Rw eI zm 1 v l si)(hl:l.length<1000000)(hX:X.length<1000000)(hb:∀x∈l,0≤x∧x≤9000000000000000000)(hw:word.size≤1000)(ro:Rw eS zd 1 vo X so){k:Sl×Int×Unit→PT}
  (h:St w0 (so::si::E) w) (hk:∀v' s' m w',Rw eS zd 1 v' (X++mK word l) s'→St w0 (s'::si::E) w'→k (v',m,()) w') :
  L.loop (Y:=Sl×Int×Unit) (⟨vo.a,vo.len,vo.cap⟩,0,()) (λy19 again20=>
   L.ite (decide (y19.2.1<((v.len:Nat):Int))) (
    L.idx v.a y19.2.1 v.len 1 λa21=>
    L.load (.one (.int .i64)) a21 λ(x22:Int)=>
    L.new [.int .i64 x22] zm λb23=>
    L.call Pr zF [.string word,.slice (some ⟨b23,0,none⟩) 1 1] (.one (.one (.str))) λ(x24:B0)=>
    L.new [.string x24] zd λb25=>
    L.sem Pr (.one (.one .slice)) (Builtin.append_ #[zp,zp] zp #[.slice y19.1.a y19.1.len y19.1.cap,.slice (some ⟨b25,0,none⟩) 1 1]) λ(s26:Sl)=>
    again20 (⟨s26.a,s26.len,s26.cap⟩,Wi (y19.2.1+1),()))<|
   k y19) w:=by
 have hln:=Rw.len xp hr;refine Zh (λq y w=>∃(j:Nat)(s3:Seg),@Eq Int y.2.1 j∧q+j=l.length∧Rw eS zd 1 y.1 (X++mK word (l.take j)) s3∧St w0 (s3::si::E) w) l.length ⟨0,so,rfl,by simp,by simpa using ro,h⟩ ?_;clear ro;clear h;rintro q ⟨vo,y,⟨⟩⟩ w ⟨j,s3,hy,hq,r3,h⟩ again hag
 (try dsimp only)
 simp only at hy r3;subst hy;refine it (λhb2=>?_) (λhb2=>?_)<;>(try simp only[zB]at hb2)
 ·have hj:j<l.length:=by omega
  have hx:l[j]? = some l[j]:=List.getElem?_eq_getElem hj;have hbx:=hb l[j] (List.getElem_mem hj);have et:mK word (l.take (j+1))=mK word (l.take j)++[ZD word [jY (l[j]).toNat]]:=by unfold mK;rw[List.take_succ,hx,List.map_append];rfl
  generalize l[j]=x at hx et hbx;refine Rw.ix xp hr (by omega) (by simpa using hj) λa ha=>?_;refine Rw.ld0 xp h 1 rfl hr ha (x:=x) (by simpa using hx) rfl rfl ?_;refine nw h ?_;clear h;intro b23 w h;refine qg h (by omega) hbx.1 hbx.2 λw h=>?_;refine nw h ?_;clear h;intro b25 w h;refine Rw.app Yy elS h 0 rfl r3 (ZD word [jY x.toNat]) rfl (by simp;omega) (by simp;omega) λv' s3' w r3' h=>?_;refine hag (q-1) _ w (by omega) ⟨j+1,s3',?_,by omega,by rw[et,←List.append_assoc];exact r3',h⟩;show Wi _=_;rw[wr (by omega) (by omega)];omega
 ·have e:l.take j=l:=List.take_of_length_le (by omega);rw[e]at r3;exact hk vo s3 _ w r3 h
def NF [jF w0](h:St w0 E w)(i:Nat){b:Nat}{a:Zc}{s:Seg}(hi:nth E i=some s)(hs:Xu b a s){e:AEv}(hroom:a.fl.room<1000000)(hlast:a.fl.last+a.fl.room<4611686018427387904)(hname:e.name.size≤100000)
  (hmade:∀x∈UL a.fl e.name (YD a e.name),0≤x∧x≤9000000000000000000) (hmn:(UL a.fl e.name (YD a e.name)).length<100000) (hgone:∀x∈(jD a.fl e.name (qH a e.name) (YD a e.name)).2,0≤x∧x≤9000000000000000000) (hgn:(jD a.fl e.name (qH a e.name) (YD a e.name)).2.length<100000)
  (hpn:(JV (cj a e.name).l e.name).length<1000000) {k:Sl→PT} (hk:Hk w0 E i b (qZ a e) k):Yp (some ⟨b,0,none⟩) e.t (slK k) w:=by
 have hs0:=hs;obtain⟨p,sg,sf,ss,sk,sr,sm,Q,R,rfl⟩:=hs;unfold Yp;unfold qZ at hk;have h:=(h.front i hi).split8;refine nw h ?_;clear h;intro b1 w h
 refine ZA (λ(z:Addr×Bool×Unit) w=>∃b8:Nat,z=(⟨b8,0,none⟩,YZ a.bk e.name,())∧
  St w0 ([Cl b8 zK (rvC (XI a.bk e.name))]::[Cl b1 zT (eEw e)]::Uz b p a.now::sg::sf::ss::sk::sr::sm::(Q.map BsE.sg).flatten::ZE E i) w) (λk2 hk2=>?_) ?_
 ·(dsimp only[ze,List.cons_append,List.nil_append]at h;refine dr h ?_;clear h;intro w h;refine nn ?_;refine ldC h ?_;refine ldC h ?_)
  refine VO ?_ ?_
  ·refine ow h 5 rfl R.bk λw h=>?_;refine nw h ?_;clear h;intro b8 w h
   (refine ckC h ?_;refine ckC h ?_;refine stC h ?_;clear h;intro w h;dsimp only[zP,ze]at h)
   exact hk2 _ w ⟨b8,rfl,h⟩
  ·refine nw h ?_;clear h;intro b8 w h
   (refine ckC h ?_;refine ckC h ?_)
   refine ow h 6 rfl R.bk λw h=>?_
   (refine stC h ?_;clear h;intro w h;dsimp only[zP,ze]at h)
   exact hk2 _ w ⟨b8,rfl,h⟩
 clear h;rintro z w ⟨b8,rfl,h⟩
 (try dsimp only)
 refine it (λhc=>?_) (λhc=>?_)
 ·have hc:YZ a.bk e.name=false:=by simpa using hc
  rw[if_pos hc]at hk;refine uF h λv s w r h=>?_;exact⟨v,rfl,hk v s _ w r hs0 (Xb i hi (jE (jE h)))⟩
 have hc:¬YZ a.bk e.name=false:=by simpa using hc
 rw[if_neg hc]at hk
 (refine dr h ?_;clear h;intro w h;refine nn ?_;refine ldC h ?_;refine ldC h ?_;rw[Xg];refine ldC h ?_;refine ldC h ?_)
 refine ND h (i:=2) (j:=8) (l:=9) rfl rfl rfl R.mp ?_
 (refine ckC h ?_;refine ckC h ?_;refine ckC h ?_)
 have ew:Dp (Q.map BsE.ka) e.name=YD a e.name:=by unfold YD;rw[R.ab]
 rw[ew];have hF0:=R.fl;unfold cj at *
 refine lL (conc:=qH a e.name) h 4 rfl R.fl (by omega) hlast λv1 v2 sf' s1 s2 w hF r1 r2 h=>?_;dsimp only[ze]at h;generalize jD a.fl e.name (qH a e.name) (YD a e.name)=g at *
 generalize UL a.fl e.name (YD a e.name)=made at *
 obtain⟨F,gone⟩:=g;dsimp only at *
 have h:=Yx h;refine DK (vo:=⟨none,0,0⟩) (X:=[]) r1 (by omega) (by simp) hmade (by decide) Rw.nil h.nil λv3 s3 m w r3 h=>?_;have h:=ZR (ZR (Yx h));refine DK r2 (by omega) (by simp[mK];omega) hgone (by decide) r3 h λv4 s4 m w r4 h=>?_
 (refine ldC h ?_)
 refine Mx h (i:=5) (j:=7) rfl rfl hF (fv:=⟨.func YE,#[],#[]⟩) (q:=λs=>s != 3) hpn (λ{E' w x k} h hk=>?_) λw h=>?_
 ·refine Qr (fs:=#[]) (cs:=#[]) Vx (VA x) ?_;unfold qj;exact⟨_,rfl,hk w h⟩
 (refine ldC h ?_)
 have hcn:0≤cnt (λs=>s != 3) (JV F.l e.name)∧cnt (λs=>s != 3) (JV F.l e.name)≤1000000:=by
  unfold cnt;have:=List.length_filter_le (λx:Int×Int×Int=>(λs=>s != 3) x.2.1) (JV F.l e.name);refine⟨Int.natCast_nonneg _,?_⟩;have h2:((JV F.l e.name).filter λx:Int×Int×Int=>(λs=>s != 3) x.2.1).length≤1000000:=by omega
  exact Int.ofNat_le.2 h2
 generalize cnt (λs=>s != 3) (JV F.l e.name)=n at *
 refine nw h ?_;clear h;intro b38 w h;refine qQ h (by decide) (by omega) λw h=>?_;refine nw h ?_;clear h;intro b40 w h;refine qg h (by rw[uD];have:FL.size=5:=rfl;omega) hcn.1 (by omega) λw h=>?_;refine nw h ?_;clear h;intro b42 w h;refine Rw.app Yy elS h 0 rfl r4 (ZD (ZD FL [e.name]) [jY n.toNat]) rfl (by simp[mK];omega) (by simp[mK];omega) λv5 s5 w r5 h=>?_;refine⟨v5,rfl,hk v5 s5 _ w (by simpa using r5) ⟨p,sg,sf',ss,sk,sr,sm,Q,⟨R.gt,hF,R.sh,R.bk,R.ro,R.mp,R.ea,R.ab⟩,rfl⟩ (Xb i hi ?_)⟩;exact jE (jE (jE (jE h)))
def QS(G:Zq)(rev:B0):Int:=((oX G rev).length:Int)+(Kc G.all rev).length
def OF(G:Zq)(m:List (B0×kH))(rev:B0):List (B0×kH):=match zD m rev with
 | some x=>Zl m rev ⟨x.xs++[if 0>QS G rev then 0 else QS G rev],x.want,x.left⟩
 | none=>m
abbrev tkG(a:Zc):Zq×List Yz:=Ub a.gt (a.now+1)
def UE(a:Zc):Zc×List B0:=
 if a.now≥1048576 then(a,jp 9)
 else({ a with gt:=(tkG a).1,now:=a.now+1,by':=(Kl a.bk).foldl (OF (tkG a).1) a.by' },ZD CG [jY (a.now+1).toNat]::(tkG a).2.map xU)
def NE [jF w0](h:St w0 E w)(i:Nat){b:Nat}{a:Zc}{s:Seg}(hi:nth E i=some s)(hs:Xu b a s){e:AEv}(hnow:0≤a.now)(hwk:GWk a.gt)(hfl:(tkG a).2.length<90000000)(hf:∀f∈(tkG a).2,f.Ok)
  (hby:∀rev∈Kl a.bk,(zD a.by' rev).isSome=true) (hxs:∀x∈a.by',x.2.xs.length<1000000000) (hfb:a.bk.all.length<1000000) {k:Sl→PT} (hk:Hk w0 E i b (UE a) k):xr (some ⟨b,0,none⟩) e.t (slK k) w:=by
 have hs0:=hs;obtain⟨p,sg,sf,ss,sk,sr,sm,Q,R,rfl⟩:=hs;unfold xr;unfold UE tkG at hk;unfold tkG at hfl hf;have h:=(h.front i hi).split8;refine nw h ?_;clear h;intro b1 w h
 (dsimp only[ze,List.cons_append,List.nil_append]at h;refine nn ?_;refine ldC h ?_)
 refine it (λhc=>?_) (λhc=>?_)<;>(try simp only[zB]at hc)
 ·rw[if_pos hc]at hk;refine uF h λv s w r h=>?_;exact⟨v,rfl,hk v s _ w r hs0 (Xb i hi (jE h))⟩
 rw[if_neg hc]at hk
 (refine nn ?_;refine ldC h ?_;refine nn ?_;refine stC h ?_;clear h;intro w h;dsimp only[zP,ze]at h;refine dr h ?_;clear h;intro w h;refine nn ?_;refine ldC h ?_;refine nn ?_;refine ldC h ?_)
 rw[wr (by omega) (by omega)]at h ⊢;have h:=ZR h;refine rY h R.gt hwk hfl λv sv sg' w hr hG h=>?_;generalize Ub a.gt (a.now+1)=g at *
 refine zc (UB _) ?_;unfold xL
 (refine nn ?_;refine ldC h ?_)
 refine Re h 6 rfl R.bk λv2 s2 w r2 h=>⟨v2,rfl,?_⟩;have hnl:(Kl a.bk).length<1000000:=by unfold Kl;rw[vl,List.length_map];exact hfb
 generalize Kl a.bk=l at *
 have hln:=Rw.len Yy r2
 let EV:Seg:=[Cl b1 zT (eEw e)]
 refine Zh (λm y w=>∃(j:Nat)(sg2:Seg)(Q2:List BsE),@Eq Int y.1 j∧m+j=l.length∧GtS p.g p.f g.1 sg2∧Q2.map BsE.kp=Q.map BsE.kp∧(∀x∈Q2,x.ok)∧Q2.map BsE.ka=(l.take j).foldl (OF g.1) a.by'∧(∀x∈Q2,x.x.xs.length<1000000000+j)∧
  St w0 (s2::sv::sg2::EV::Uz b p (a.now+1)::sf::ss::sk::sr::sm::(Q2.map BsE.sg).flatten::ZE E i) w) l.length ⟨0,sg',Q,rfl,rfl,hG,rfl,R.ea,R.ab.symm,λx hx=>by have:=hxs _ (by rw[R.ab];exact List.mem_map_of_mem hx);simpa using this,h⟩ ?_
 clear h;rintro m ⟨y,⟨⟩⟩ w ⟨j,sg2,Q2,hy,hm,hG2,ekp,ok2,eka,hx2,h⟩ again hag
 (try dsimp only)
 simp only at hy;subst hy;refine it (λhb=>?_) (λhb=>?_)<;>(try simp only[zB]at hb)
 ·have hj:j<l.length:=by omega
  have hx:l[j]? = some l[j]:=List.getElem?_eq_getElem hj;have hin:(zD (Q2.map BsE.ka) l[j]).isSome=true:=by
   have h1:=hby l[j] (List.getElem_mem hj);rw[R.ab,OW,Option.isSome_map]at h1;have h2:(zD (Q2.map BsE.kp) l[j]).isSome=true:=by rw[ekp,OV,Option.isSome_map];exact h1
   rw[OV,Option.isSome_map]at h2;rw[OW,Option.isSome_map];exact h2
  have et:(l.take (j+1)).foldl (OF g.1) a.by'=OF g.1 (Q2.map BsE.ka) l[j]:=by rw[eka,List.take_succ,hx,List.foldl_append];rfl
  generalize l[j]=rev at *
  have hm2:MpS Value.string Value.pointer p.m (Q2.map BsE.kp) sm:=by rw[ekp];exact R.mp
  rw[OW,Option.isSome_map]at hin;obtain⟨x,hfx⟩:=Option.isSome_iff_exists.1 hin;have hmk:=hm2.nd;refine Rw.ix Yy r2 (by omega) (by simpa using hj) λea ha=>?_;refine Rw.ld0 Yy h 0 rfl r2 ha (x:=rev) (by simpa using hx) rfl rfl ?_
  (refine dr h ?_;clear h;intro w h;refine nn ?_;refine ldC h ?_)
  have hlk:((zD (Q2.map BsE.kp) rev).map λx:Option Addr=>x).getD none=some ⟨x.b,0,none⟩:=by rw[OV,hfx];rfl
  refine MpS.get oV GC NU (λx:Option Addr=>x) (λ_=>rfl) h 9 rfl hm2 ?_;rw[hlk];obtain⟨A,B,rfl,hxk⟩:=uV hfx;have h:=Uc h;have h:=h.pick.split
  (refine nn ?_;refine ldC h ?_;refine nn ?_;refine ldC h ?_)
  have h:=vf h;refine nq h hG2 λsg3 w hG3 h=>?_
  (refine ckC h ?_)
  refine MpS.chk oV GC (z:=.pointer none) NU h 12 rfl hm2 (by rw[OV,hfx];rfl) ?_
  (refine ckC h ?_)
  have hox:=ok2 x (by simp);have hlx:=hx2 x (by simp);refine rX h 2 rfl hox (by omega) λsgg w hga h=>?_;dsimp only[ze]at h;have hbu:((oX g.1 rev).length:Int)+(Kc g.1.all rev).length=QS g.1 rev:=rfl;rw[hbu]at hga;have h:=ZR (ZR h);have h:=h.glue;have h:=Yx (ZR h);have h:St w0 (BsE.sg ⟨x.k,x.b,x.g,⟨x.x.xs++[if 0>QS g.1 rev then 0 else QS g.1 rev],x.x.want,x.x.left⟩,sgg⟩::((A++B).map BsE.sg).flatten::sg3::s2::sv::EV::Uz b p (a.now+1)::sf::ss::sk::sr::sm::ZE E i) w:=h;have h:=h.place;have et2:=Gg (rev:=rev) (y:=⟨x.x.xs++[if 0>QS g.1 rev then 0 else QS g.1 rev],x.x.want,x.x.left⟩) (sgg:=sgg) hxk (B:=B) (A:=A) (by simpa [List.map_map,Function.comp_def]using hmk);refine hag (m-1) _ w (by omega) ⟨j+1,sg3,A++⟨x.k,x.b,x.g,⟨x.x.xs++[if 0>QS g.1 rev then 0 else QS g.1 rev],x.x.want,x.x.left⟩,sgg⟩::B,?_,by omega,hG3,?_,?_,?_,?_,?_⟩
  ·show Wi _=_;rw[wr (by omega) (by omega)];omega
  ·rw[←ekp];simp
  ·intro y hy;rcases List.mem_append.1 hy with hy | hy
   ·exact ok2 y (by simp[hy])
   ·rcases List.mem_cons.1 hy with rfl | hy
    ·exact hga
    ·exact ok2 y (by simp[hy])
  ·rw[et,et2];unfold OF;rw[OW,hfx];rfl
  ·intro y hy;rcases List.mem_append.1 hy with hy | hy
   ·have:=hx2 y (by simp[hy]);omega
   ·rcases List.mem_cons.1 hy with rfl | hy
    ·simp;omega
    ·have:=hx2 y (by simp[hy]);omega
  ·have h:=Uc (Uc (jB (Uc (Uc (Uc (Uc (Uc (Uc (Uc h)))))))));exact h
 ·have ej:l.take j=l:=List.take_of_length_le (by omega);rw[ej]at eka
  (refine nn ?_;refine ldC h ?_)
  refine nw h ?_;clear h;intro b29 w h;refine qg h (by decide) (by omega) (by omega) λw h=>?_;refine nw h ?_;clear h;intro b31 w h;have h:=Yx (ZR h);refine lq h (l:=[ZD CG [jY (a.now+1).toNat]]) hr hf (by omega) (by simp) (Rw.lit b31 [_] Yy rfl rfl (by simp[maxLen])) λv s w r h=>?_;refine⟨v,rfl,hk v s _ w r ⟨p,sg2,sf,ss,sk,sr,sm,Q2,⟨hG2,R.fl,R.sh,R.bk,R.ro,by rw[ekp];exact R.mp,ok2,eka.symm⟩,rfl⟩ (Xb i hi ?_)⟩;have h:=jE (vB (Kh h));have h:=ZR (ZR (Yx h));exact h
end Go.Proofs.YtimahgbgejngiaaGreatDoor
namespace Go.Proofs.YtimahgbgejngiaaGreatDoor
open Go.Dm
def Aa{P:Program}{r:RT}{s:Sem Value}{k:r.T→PT}{w:World}(x:r.T)(h:s.run P w = .ok (r.val x) w)(hk:k x w):L.semR P r s k w:=⟨x,h,hk⟩
def dz{P:Program}{fv:Value}{args:List Value}{r:RT}{k k':r.T→PT}{w:World}(h:L.callV P fv args r k w)(hm:∀x w,k x w→k' x w):L.callV P fv args r k' w:=Jg.mono h λ_ _ ⟨x,e,hk⟩=>⟨x,e,hm x _ hk⟩
attribute [local irreducible] L.load L.store L.chk L.new L.nonnil L.guard L.ite L.draw L.idx L.sem L.semR L.semU L.chkSem L.next L.call L.callV L.join L.alts L.loop L.begin L.endRound L.range
variable {w0 w:World}{E:List Seg}
def mV(b:Nat)(f:FuncId):Value:=.func (.func f) #[.pointer (some ⟨b,0,none⟩)] #[]
def doM:List (Int×FuncId):=[(1,yi),(2,JK),(3,xg),(4,yj),(5,xh),(6,Xj),(7,yG),(8,yG),(9,yF),(10,ym),(11,xf),(12,yn),(13,yd)]
def XU:Pr.underlying zj=some (.map zm Yb):=by kernel_rfl
def AE(w:World):(zeroValue Yb).run Pr w = .ok .nilFunc w:=by
 have h:(Pr.info? Yb).map (·.zero)=some (some .nilFunc):=by kernel_rfl
 cases hi:Pr.info? Yb with
 | none=>rw[hi]at h;cases h
 | some i=>rw[hi]at h;simp only[Option.map_some,Option.some.injEq]at h;exact zv hi h w
def sJ [jF w0](h:St w0 E w){b:Nat}{e:AEv}(hb:Zw e=0)(hn:e.kind=12∨e.kind=13→e.name.size≤1000000)(rd:RdE w0 E eT e.v e.r.ts)(hvc:e.v.len≤e.v.cap)(hrv:∀t∈e.r.ts,QO t.1){f:FuncId}(hf:zD doM e.kind=some f){k:Sl→PT}
  (hh:∀(s1 s2:Seg) w',St w0 (s1::s2::E) w'→L.callV Pr (.func (.func f) #[.pointer (some ⟨b,0,none⟩)] #[]) [evV e] (.one (.one .slice)) k w'):L.call Pr zJ [pO b,evV e] (.one (.one .slice)) k w:=by
 refine zc (gf _ e.t) ?_;unfold Uk;refine nw h ?_;clear h;intro b1 w h
 (dsimp only[ze,List.cons_append,List.nil_append]at h;refine laC h ?_)
 refine PM (e:=e) h hn (λw h=>rd w (zy h)) hvc hrv λw h=>?_;refine itF (by simpa using hb) ?_;refine MpS.new h KI (mV b) λr s w hm h=>?_;refine MpS.set mkI XU h 0 rfl hm yi rfl λs w hm h=>?_;refine MpS.set mkI XU h 0 rfl hm JK rfl λs w hm h=>?_;refine MpS.set mkI XU h 0 rfl hm xg rfl λs w hm h=>?_;refine MpS.set mkI XU h 0 rfl hm yj rfl λs w hm h=>?_;refine MpS.set mkI XU h 0 rfl hm xh rfl λs w hm h=>?_;refine MpS.set mkI XU h 0 rfl hm Xj rfl λs w hm h=>?_;refine MpS.set mkI XU h 0 rfl hm yG rfl λs w hm h=>?_;refine MpS.set mkI XU h 0 rfl hm yG rfl λs w hm h=>?_;refine MpS.set mkI XU h 0 rfl hm yF rfl λs w hm h=>?_;refine MpS.set mkI XU h 0 rfl hm ym rfl λs w hm h=>?_;refine MpS.set mkI XU h 0 rfl hm xf rfl λs w hm h=>?_;refine MpS.set mkI XU h 0 rfl hm yn rfl λs w hm h=>?_;refine MpS.set mkI XU h 0 rfl hm yd rfl λs w hm h=>?_;have hm:MpS KI (mV b) r doM s:=hm;dsimp only[ze]at h
 (refine ldC h ?_)
 refine Aa ⟨.func f,#[.pointer (some ⟨b,0,none⟩)],#[]⟩ ?_ ?_
 ·rw[MpS.get_run mkI XU (AE w) h 0 rfl hm false,hf];rfl
 (refine laC h ?_)
 exact dz (hh s _ w h) λx w hk=>⟨x,rfl,hk⟩
def MB [jF w0](h:St w0 E w)(i:Nat){b:Nat}{a:Zc}{s:Seg}(hi:nth E i=some s)(hs:Xu b a s){e:AEv}(hb:Zw e=0)(hn:e.kind=12∨e.kind=13→e.name.size≤1000000)(rd:RdE w0 E eT e.v e.r.ts)(hvc:e.v.len≤e.v.cap)(hrv:∀t∈e.r.ts,QO t.1)
  {f:FuncId} (hf:zD doM e.kind=some f) {r:Zc×List B0} {F:(Value→PT)→PT} (hE:yr Pr f) (hC:∀{K:Value→PT}{w:World},F K w→Calls Pr f (#[.pointer (some ⟨b,0,none⟩)]++[evV e].toArray++ #[]) w λe w'=>∃v,e = .returned v∧K v w')
  (hh:∀{E2:List Seg}{i2:Nat}{w:World}{k:Sl→PT},St w0 E2 w→nth E2 i2=some s→(∀w,St w0 (ZE E2 i2) w→St w0 (ZE E i) w)→Hk w0 E2 i2 b r k→F (slK k) w) {k:Sl→PT} (hk:Hk w0 E i b r k) :
  L.call Pr zJ [pO b,evV e] (.one (.one .slice)) k w:=by
 refine sJ h hb hn rd hvc hrv hf λs1 s2 w h=>?_;refine Qr (F:=F) hE hC ?_;exact hh (E2:=s1::s2::E) (i2:=i+2) h hi (λw h=>zy (zy h)) λv sv s' w' r hs h=>hk v sv s' w' r hs (jE (jE h))
end Go.Proofs.YtimahgbgejngiaaGreatDoor
namespace Go.Proofs.YtimahgbgejngiaaGreatDoor
open Go.Dm
attribute [local irreducible] L.load L.store L.chk L.new L.nonnil L.guard L.ite L.draw L.idx L.sem L.semR L.semU L.chkSem L.next L.call L.callV L.join L.alts L.loop L.begin L.endRound L.range
variable {w0 w:World}{E:List Seg}
def jm(room line pat:Int):Zc:=⟨⟨[],[],0⟩,⟨[],[]⟩,[],⟨room,0,[]⟩,⟨[],[],line,pat⟩,[],0⟩
def Kq{n a b:Int}{k:Bool→PT}(hk:k (wiB n a b) w):L.call Pr Yw [I n,I a,I b] (.one (.one .bool)) k w:=by
 refine zc (oD n a b) ?_;unfold QV;unfold wiB at hk;refine it (λh1=>?_) (λh1=>?_)
 ·have h1:decide (a≤n)=true:=h1;rw[h1]at hk;exact⟨_,rfl,hk⟩
 ·have h1:decide (a≤n)=false:=h1;rw[h1]at hk;exact⟨_,rfl,hk⟩
def Pe(room line pat:Int):Bool:=wiB room 1 30&&(wiB line 0 8&&wiB pat 1 50)
def ly(h:St w0 E w){room line pat:Int}{k:Option Addr×Int×Unit→PT}(h0:Pe room line pat=false→∀w',St w0 E w'→k (none,2,()) w')
  (h1:Pe room line pat=true→∀b s w',Xu b (jm room line pat) s→St w0 (s::E) w'→k (some ⟨b,0,none⟩,0,()) w'):L.call Pr Vo [I room,I line,I pat] (.tup [.one .ptr,.one (.int .i64)]) k w:=by
 refine zc (Tn _ _ _) ?_;unfold Gm;unfold Pe at h0 h1;refine Kq ?_
 cases c1:wiB room 1 30 with
 | false=>exact itT rfl ⟨(none,2,()),rfl,h0 (by rw[c1];rfl) w h⟩
 | true=>
 refine itF rfl ?_;refine Kq ?_
 cases c2:wiB line 0 8 with
 | false=>exact itT rfl ⟨(none,2,()),rfl,h0 (by rw[c1,c2];rfl) w h⟩
 | true=>
 refine itF rfl ?_;refine Kq ?_
 cases c3:wiB pat 1 50 with
 | false=>exact itT rfl ⟨(none,2,()),rfl,h0 (by rw[c1,c2,c3];rfl) w h⟩
 | true=>
 refine itF rfl ?_;have hl:0≤line∧line≤8:=by unfold wiB at c2;simpa using c2
 refine Be h λbf sf w hF h=>?_;refine rD h λbs ss w hS h=>?_;refine Rc h λbk sk w hK h=>?_;refine rF h λbr sr w hR h=>?_;refine Ba h (bf:=bf) hl.1 (by omega) λbg sg w hG h=>?_;refine MpS.new h Value.string Value.pointer λr sm w hm h=>?_;refine nw h ?_;clear h;intro b w h;have h:St w0 (Uz b ⟨bs,bk,br,bf,bg,r⟩ 0::sm::sg::sr::sk::ss::sf::E) w:=h;refine⟨(some ⟨b,0,none⟩,0,()),rfl,h1 (by rw[c1,c2,c3];rfl) b _ w ⟨⟨bs,bk,br,bf,bg,r⟩,sg,sf,ss,sk,sr,sm,[],⟨hG,hF,hS,hK,hR,hm,by simp,rfl⟩,rfl⟩ ?_⟩;have h:=jC (jC (jC (vf (YY (xc (Yx h))))));have h:St w0 (Uz b ⟨bs,bk,br,bf,bg,r⟩ 0::sg::sf::ss::sk::sr::sm::(([]:List BsE).map BsE.sg).flatten::E) w:=h.eq (by simp);exact h.glue8
def tK:ARt:=⟨s_,s_,[],0⟩
abbrev cw:Sl:=⟨none,0,0⟩
def lM [jF w0](h:St w0 E w)(i:Nat){b:Nat}{a:Zc}{s:Seg}(hi:nth E i=some s)(hs:Xu b a s){e:AEv}(hkd:e.kind=9)(hb:Zw e=0)(rd:RdE w0 E eT e.v e.r.ts)(hvc:e.v.len≤e.v.cap)(hrv:∀t∈e.r.ts,QO t.1)
  (hnow:0≤a.now) (hwk:GWk a.gt) (hfl:(tkG a).2.length<90000000) (hf:∀f∈(tkG a).2,f.Ok)
  (hby:∀rev∈Kl a.bk,(zD a.by' rev).isSome=true) (hxs:∀x∈a.by',x.2.xs.length<1000000000) (hfb:a.bk.all.length<1000000) {k:Sl→PT} (hk:Hk w0 E i b (UE a) k) :
  L.call Pr zJ [pO b,evV e] (.one (.one .slice)) k w:=
 MB h i hi hs hb (λhh=>by omega) rd hvc hrv (f:=yF) (by rw[hkd];rfl) KD (KG (some ⟨b,0,none⟩) e.t)
  (λh hi _ hk=>NE h _ hi hs hnow hwk hfl hf hby hxs hfb hk) hk
abbrev Fv(kind:Int):AEv:=⟨kind,s_,s_,0,0,UI,tK,cw⟩
def dW [jF w0](h:St w0 E w)(i:Nat){b:Nat}{a:Zc}{s:Seg}(hi:nth E i=some s)(hs:Xu b a s){e:AEv}(hkd:e.kind=1)(hb:Zw e=0)(rd:RdE w0 E eT e.v e.r.ts)(hvc:e.v.len≤e.v.cap)(hrv:∀t∈e.r.ts,QO t.1)
  (hn:a.sh.n<900000000) (hsz:e.c.1.size≤1000000) {k:Sl→PT} (hk:Hk w0 E i b (uy a e) k):L.call Pr zJ [pO b,evV e] (.one (.one .slice)) k w:=
 MB h i hi hs hb (λhh=>by omega) rd hvc hrv (f:=yi) (by rw[hkd];rfl) Vy (VB (some ⟨b,0,none⟩) e.t) (λh hi _ hk=>Ce h _ hi hs hn hsz hk) hk
def NM [jF w0](h:St w0 E w)(i:Nat){b:Nat}{a:Zc}{s:Seg}(hi:nth E i=some s)(hs:Xu b a s){e:AEv}(hkd:e.kind=10)(hb:Zw e=0)(rd:RdE w0 E eT e.v e.r.ts)(hvc:e.v.len≤e.v.cap)(hrv:∀t∈e.r.ts,QO t.1)
  (hst:(Yl a.sh e.name).2.2.2.1=true→ZM (Yl a.sh e.name).1.1.data.toList 16=true∧1≤@id Int (Yl a.sh e.name).2.2.1∧@id Int (Yl a.sh e.name).2.2.1<100∧@id Int (Yl a.sh e.name).1.2.2.2.1≤1000000) (hf:a.bk.all.length<999999)
  {k:Sl→PT} (hk:Hk w0 E i b (Qk a e) k):L.call Pr zJ [pO b,evV e] (.one (.one .slice)) k w:=
 MB h i hi hs hb (λhh=>by omega) rd hvc hrv (f:=ym) (by rw[hkd];rfl) kd (kg (some ⟨b,0,none⟩) e.t) (λh hi _ hk=>dM h _ hi hs hst hf hk) hk
def dX [jF w0](h:St w0 E w)(i:Nat){b:Nat}{a:Zc}{s:Seg}(hi:nth E i=some s)(hs:Xu b a s){e:AEv}(hkd:e.kind=4)(hb:Zw e=0)(rd:RdE w0 E eT e.v e.r.ts)(hvc:e.v.len≤e.v.cap)(hrv':∀t∈e.r.ts,QO t.1)
  (hd:0≤e.draw∧e.draw<4611686018427387904) (hok:∀x,zD a.ro e.name=some x→x.Ok) (hwb:WBd (VH a.ro e.name).sh)
  (hfew:JF a.fl) (hn:a.gt.all.length<80000000) (hl:a.gt.lines.length<90000000) (hnow: -1000000000000<a.now+a.gt.pat∧a.now+a.gt.pat<1000000000000) (hf:(arG a e).2.2.Ok) (hrv:(bnd a e).size≤1000000)
  {k:Sl→PT} (hk:Hk w0 E i b (Xz a e) k):L.call Pr zJ [pO b,evV e] (.one (.one .slice)) k w:=
 MB h i hi hs hb (λhh=>by omega) rd hvc hrv' (f:=yj) (by rw[hkd];rfl) Vz (VC (some ⟨b,0,none⟩) e.t) (λh hi _ hk=>Cf h _ hi hs hd hok hwb hfew hn hl hnow hf hrv hk) hk
def lN [jF w0](h:St w0 E w)(i:Nat){b:Nat}{a:Zc}{s:Seg}(hi:nth E i=some s)(hs:Xu b a s){e:AEv}(hkd:e.kind=13)(hnm:Ti e.name)(hb:Zw e=0)(rd:RdE w0 E eT e.v e.r.ts)(hvc:e.v.len≤e.v.cap)(hrv:∀t∈e.r.ts,QO t.1)
  (hroom:a.fl.room<1000000) (hlast:a.fl.last+a.fl.room<4611686018427387904) (hname:e.name.size≤100000)
  (hmade:∀x∈UL a.fl e.name (YD a e.name),0≤x∧x≤9000000000000000000) (hmn:(UL a.fl e.name (YD a e.name)).length<100000) (hgone:∀x∈(jD a.fl e.name (qH a e.name) (YD a e.name)).2,0≤x∧x≤9000000000000000000) (hgn:(jD a.fl e.name (qH a e.name) (YD a e.name)).2.length<100000)
  (hpn:(JV (cj a e.name).l e.name).length<1000000) {k:Sl→PT} (hk:Hk w0 E i b (qZ a e) k):L.call Pr zJ [pO b,evV e] (.one (.one .slice)) k w:=
 MB h i hi hs hb (λ_=>by omega) rd hvc hrv (f:=yd) (by rw[hkd];rfl) QE (QF (some ⟨b,0,none⟩) e.t) (λh hi _ hk=>NF h _ hi hs hroom hlast hname hmade hmn hgone hgn hpn hk) hk
end Go.Proofs.YtimahgbgejngiaaGreatDoor
namespace Go.Proofs.YtimahgbgejngiaaGreatDoor
open Go.Dm
abbrev idB(x:Int):Prop:=0≤x∧x≤2147483647
structure FlI(k:Nat)(F:zl):Prop where
 few:JF F
 r1:1≤F.room
 last:F.last≤30*(k:Int)
 rev:∀x∈F.l,Ti x.rev
 req:∀x∈F.l,∀q∈x.pod.reqs,idB q
def FlI.mono{k m:Nat}{F:zl}(h:FlI k F)(hm:k≤m):FlI m F:=⟨h.few,h.r1,by have:=h.last;omega,h.rev,h.req⟩
def FlI.upd{k:Nat}{F:zl}(h:FlI k F){id:Int}{g:jf→jf}(hf:JF { F with l:=xd F.l id g })(hg:∀x∈F.l,x.id=id→∀q∈(g x.pod).reqs,idB q):FlI k { F with l:=xd F.l id g }:=
 ⟨hf,h.r1,h.last,λy hy=>by
  rcases Mo hy with hy | ⟨x,hx,_,rfl⟩
  ·exact h.rev y hy
  ·exact h.rev x hx,λy hy=>by
  rcases Mo hy with hy | ⟨x,hx,hid,rfl⟩
  ·exact h.req y hy
  ·exact hg x hx hid⟩
def cb{p:jf}{q z:Int}(h:z∈(ZY p q).1.reqs):z∈p.reqs∨z=q:=by
 unfold ZY at h;split at h
 ·exact .inl h
 ·split at h
  ·exact .inl h
  ·split at h
   ·exact .inl h
   ·rcases List.mem_cons.1 ((vy q p.reqs).mem_iff.1 h)with e | e
    ·exact .inr e
    ·exact .inl e
def cg{p:jf}{z:Int}(h:z∈(FN p).1.reqs):z∈p.reqs:=by
 unfold FN at h;split at h
 ·exact h
 ·cases h
def ci(p:jf):(yo p).1.reqs=p.reqs:=by unfold yo;split<;>rfl
def FlI.take{k:Nat}{F:zl}(h:FlI k F)(rev:B0){q:Int}(hq:idB q):FlI k (yw F rev q).1:=by
 have hf:=h.few.take rev q;unfold yw at hf ⊢;split
 ·exact h
 ·rename_i h1;rw[if_neg h1]at hf;split
  ·exact h
  ·rename_i x hx;rw[hx]at hf;exact h.upd hf λy hy _ z hz=>by
    rcases cb hz with e | rfl
    ·exact h.req y hy z e
    ·exact hq
def FlI.kill{k:Nat}{F:zl}(h:FlI k F)(id:Int):FlI k (UM F id).1:=by
 have hf:=h.few.kill id;unfold UM at hf ⊢;split
 ·exact h
 ·rename_i x hx;rw[hx]at hf;exact h.upd hf λy hy _ z hz=>h.req y hy z (cg hz)
def FlI.drain{k:Nat}{F:zl}(h:FlI k F)(rev:B0):FlI k (Ue rev F):=
 h.upd (h.few.drain rev) λy hy _ z hz=>h.req y hy z (by rwa [ci]at hz)
def FlI.shrink(rev:B0):∀(n:Nat){k:Nat}{F:zl},FlI k F→FlI k (YtimahgbgejngiaaGreatDoor.shrink rev n F).1
 | 0,_,_,h=>h
 | n+1,_,_,h=>FlI.shrink rev n (h.drain rev)
def Mh{rev:B0}{conc:Int}:∀(n:Nat){F:zl}{x:Zn},x∈(grow rev conc n F).l→x∈F.l∨(x.rev=rev∧x.pod=⟨1,conc,[]⟩)
 | 0,_,_,h=>.inl h
 | n+1,F,x,h=>by
  unfold grow grow1 at h;rcases List.mem_append.1 h with h | h
  ·exact Mh n h
  ·rw[List.mem_singleton]at h;subst h;exact .inr ⟨rfl,rfl⟩
def Kb(F:zl)(rev:B0)(want:Int):(XG F rev want:Int)≤max 0 (F.room-F.l.length):=by rw[WD];omega
def FlI.scale{k:Nat}{F:zl}(h:FlI k F){rev:B0}(hr:Ti rev){conc:Int}(hc:conc≤1000)(want:Int):FlI (k+1) (jD F rev conc want).1:=by
 have hl:=h.few.l;have hr20:=h.few.r;unfold xS at hr20;have hn:=Kb F rev want;have hg:FlI (k+1) (Jo F rev conc want):=by
  refine⟨JF.grow rev hc _ h.few (by omega),?_,?_,λx hx=>?_,λx hx q hq=>?_⟩
  ·unfold Jo;rw[oe];exact h.r1
  ·unfold Jo;rw[og];have:=h.last;omega
  ·rcases Mh _ hx with hx | ⟨e,-⟩
   ·exact h.rev x hx
   ·rw[e];exact hr
  ·rcases Mh _ hx with hx | ⟨-,e⟩
   ·exact h.req x hx q hq
   ·rw[e]at hq;cases hq
 exact hg.shrink rev _
def wa{F:zl}(ok:F.Ok)(rev:B0)(q:Int):0≤(yw F rev q).2.1∧(yw F rev q).2.1≤F.last:=by
 have:=ok.lo;unfold yw;split
 ·exact⟨Int.le_refl 0,this⟩
 ·split
  ·exact⟨Int.le_refl 0,this⟩
  ·rename_i x hx;have:=ok.rng x (mH hx).1;dsimp only;omega
def ob{κ υ:Type}[DecidableEq κ](m:List (κ×υ))(a b:κ)(u:υ)(h:(zD m b).isSome=true):(zD (Zl m a u) b).isSome=true:=by
 rw[XE];split
 ·rfl
 ·exact h
structure GtI(k:Nat)(G:Zq):Prop where
 all:G.all.length≤2000*k
 ids:∀x∈G.all,idB x.1
 lines:G.lines.length≤k
 lid:∀x∈G.lines,∀y∈x.2,idB y.1
 wk:GWk G
 pat:1≤G.pat∧G.pat≤1000
 room:0≤G.room∧G.room≤8
def GtI.mono{k m:Nat}{G:Zq}(h:GtI k G)(hm:k≤m):GtI m G:=⟨by have:=h.all;omega,h.ids,by have:=h.lines;omega,h.lid,h.wk,h.pat,h.room⟩
def GtI.line{k:Nat}{G:Zq}(h:GtI k G)(rev:B0):∀y∈zZ G.lines rev,idB y.1:=λy hy=>by
 unfold zZ at hy
 cases hg:zD G.lines rev with
 | none=>rw[hg]at hy;cases hy
 | some l=>rw[hg]at hy;exact h.lid _ (jX hg) y hy
def GtI.turn{k m:Nat}{G:Zq}(h:GtI k G){all:kz}{rev:B0}{l:List (Int×Int)}(hm:k+1≤m)(hl:all.length≤2000*m)(hi:∀x∈all,idB x.1)(hs:∀q,(zD G.all q).isSome=true→(zD all q).isSome=true)
  (h1:∀y∈l,idB y.1) (h2:∀y∈l,(zD all y.1).isSome=true):GtI m { G with all:=all,lines:=Zl G.lines rev l }:=by
 have:=h.lines;have:=qf G.lines rev l;refine⟨hl,hi,by dsimp only;omega,λx hx y hy=>?_,λx hx y hy=>?_,h.pat,h.room⟩
 ·rcases yR hx with rfl | hx
  ·exact h1 y hy
  ·exact h.lid x hx y hy
 ·rcases yR hx with rfl | hx
  ·exact h2 y hy
  ·exact hs _ (h.wk x hx y hy)
def GtI.req{k m:Nat}{G:Zq}(h:GtI k G){all:kz}(hm:k≤m)(hl:all.length≤2000*m)(hi:∀x∈all,idB x.1)(hs:∀q,(zD G.all q).isSome=true→(zD all q).isSome=true):GtI m { G with all:=all }:=
 ⟨hl,hi,by have:=h.lines;dsimp only;omega,h.lid,λx hx y hy=>hs _ (h.wk x hx y hy),h.pat,h.room⟩
def vu{all:kz}{id:Int}{x:B0×Int}(h:∀x∈all,idB x.1)(hi:idB id):∀y∈Zl all id x,idB y.1:=λy hy=>by
 rcases yR hy with rfl | hy
 ·exact hi
 ·exact h y hy
def z9:(0:Int)≤0∧(0:Int)≤9000000000000000000:=⟨by decide,by decide⟩
def WI{k:Nat}{F:zl}{G:Zq}(ok:G.Ok)(hF:FlI k F)(hG:GtI k G){id:Int}(hid:idB id)(rev:B0)(now:Int):FlI k (Mi F G id rev now).1∧GtI (k+1) (Mi F G id rev now).2.1:=by
 have hla:=hG.all;have hl:∀x:B0×Int,(Zl G.all id x).length≤2000*(k+1):=λx=>by have:=qf G.all id x;omega
 have hs:∀(x:B0×Int) q,(zD G.all q).isSome=true→(zD (Zl G.all id x) q).isSome=true:=λx q=>ob _ _ _ _;have hln:∀(x:B0×Int),∀y∈zZ G.lines rev,(zD (Zl G.all id x) y.1).isSome=true:=λx y hy=>hs x _ (hG.wk.line rev y hy);unfold Mi;split
 ·exact⟨hF,hG.mono (Nat.le_succ k)⟩
 ·split
  ·exact⟨hF,hG.req (Nat.le_succ k) (hl _) (vu hG.ids hid) (hs _)⟩
  ·split
   ·exact⟨hF.take rev hid,hG.turn (Nat.le_refl _) (hl _) (vu hG.ids hid) (hs _) (hG.line rev) (hln _)⟩
   ·split
    ·exact⟨hF,hG.turn (Nat.le_refl _) (hl _) (vu hG.ids hid) (hs _) (hG.line rev) (hln _)⟩
    ·rename_i h4;refine⟨hF,hG.turn (Nat.le_refl _) (hl _) (vu hG.ids hid) (hs _) (λy hy=>?_) λy hy=>?_⟩ <;>
     ·unfold Qp at hy h4;split at hy
      ·rename_i h5;rw[if_pos h5]at h4;exact absurd (show(5:Int)≠0 by decide) h4
      ·rename_i h5;rw[if_neg h5]at h4;split at hy
       ·rename_i h6;rw[if_pos h6]at h4;exact absurd (show(8:Int)≠0 by decide) h4
       ·rcases List.mem_append.1 hy with hy | hy
        ·first | exact hG.line rev y hy | exact hln _ y hy
        ·rw[List.mem_singleton]at hy;subst hy
         first | exact hid | (rw[XE,if_pos rfl];rfl)
def Nq{k:Nat}{F:zl}{G:Zq}(hk:k≤10000)(okF:F.Ok)(hF:FlI k F){id:Int}(hid:idB id)(rev:B0)(now:Int):(Mi F G id rev now).2.2.Ok:=by
 have hi:0≤id∧id≤9000000000000000000:=⟨hid.1,Int.le_trans hid.2 (by decide)⟩;have hz:(0:Int)≤0∧(0:Int)≤9000000000000000000:=⟨by decide,by decide⟩;unfold Mi;split
 ·exact⟨hi,hz,by show gF.size≤1000;decide⟩
 ·split
  ·exact⟨hi,hz,by show Vj.size≤1000;decide⟩
  ·split
   ·have:=wa okF rev id;have:=hF.last;exact⟨hi,⟨by show 0≤(yw F rev id).2.1;omega,by show(yw F rev id).2.1≤9000000000000000000;omega⟩,by show s_.size≤1000;decide⟩
   ·split
    ·exact⟨hi,hz,by show uK.size≤1000;decide⟩
    ·exact⟨hi,hz,by show s_.size≤1000;decide⟩
def Wr{k:Nat}{F:zl}(hF:FlI k F)(id:Int):(∀q∈(UM F id).2.1,idB q)∧(UM F id).2.1.length≤1000:=by
 unfold UM;split
 ·exact⟨λq hq=>(by cases hq),Nat.zero_le _⟩
 ·rename_i x hx;have hx:=(qT hx).1;exact⟨hF.req x hx,(hF.few.q x hx).1⟩
def Pj{rev:B0}:∀{l:List Int}{all:kz},(∀x∈all,idB x.1)→(∀x∈l,idB x)→∀x∈VJ rev l all,idB x.1
 | [],_,h,_=>h
 | x::l,all,h,hx=>Pj (l:=l) (vu h (hx x (by simp))) λy hy=>hx y (by simp[hy])
def cH{l:List (Int×Int)}{now q:Int}(h:q∈Yn l now):∃y∈l,y.1=q:=by
 unfold Yn at h;obtain⟨y,hy,e⟩:=List.mem_map.1 h;exact⟨y,(List.mem_filter.1 hy).1,e⟩
structure TkI(m n:Nat)(G:Zq):Prop where
 all:G.all.length≤m
 ids:∀x∈G.all,idB x.1
 lines:G.lines.length≤n
 lid:∀x∈G.lines,∀y∈x.2,idB y.1
 wk:GWk G
 ok:G.Ok
def TkI.line{m n:Nat}{G:Zq}(h:TkI m n G)(rev:B0):∀y∈zZ G.lines rev,idB y.1:=λy hy=>by
 unfold zZ at hy
 cases hg:zD G.lines rev with
 | none=>rw[hg]at hy;cases hy
 | some l=>rw[hg]at hy;exact h.lid _ (jX hg) y hy
def TkI.tick1{m n:Nat}{G:Zq}(h:TkI m n G){k:B0}(hk:(zD G.lines k).isSome=true)(now:Int):TkI m n (YtimahgbgejngiaaGreatDoor.tick1 now k G):=by
 refine⟨?_,?_,?_,?_,h.wk.tick1 k now,h.ok.tick1 h.wk hk now⟩
 ·have:=congrArg List.length (Vs (rev:=k) (l:=Yn (zZ G.lines k) now) (all:=G.all) (h.wk.late k now));simp only[List.length_map]at this;have:=h.all;unfold YtimahgbgejngiaaGreatDoor.tick1;dsimp only;omega
 ·refine Pj h.ids λq hq=>?_;obtain⟨y,hy,rfl⟩:=cH hq;exact h.line k y hy
 ·have:=congrArg List.length (fN (G:=G) hk now);simp only[List.length_map]at this;have:=h.lines;omega
 ·intro x hx y hy;rcases yR hx with rfl | hx
  ·exact h.line k y (List.mem_filter.1 hy).1
  ·exact h.lid x hx y hy
def GF{m n:Nat}{now:Int}{r:Int}:∀{ks:List B0}{G:Zq}{out:List Yz},TkI m n G→G.room=r→(∀k∈ks,(zD G.lines k).isSome=true)→(∀f∈out,f.Ok)→
  TkI m n (UD now ks G out).1∧(∀f∈(UD now ks G out).2,f.Ok)∧((UD now ks G out).2.length:Int)≤out.length+ks.length*max r 0∧(UD now ks G out).1.pat=G.pat∧(UD now ks G out).1.room=G.room
 | [],G,out,h,hr,_,ho=>⟨h,ho,by simp[UD],rfl,rfl⟩
 | k::ks,G,out,h,hr,hk,ho=>by
  have h1:=h.tick1 (hk k (by simp)) now;have hn:=fN (G:=G) (hk k (by simp)) now;have hks:∀k'∈ks,(zD (tick1 now k G).lines k').isSome=true:=λk' hk'=>by
   have:=hk k' (by simp[hk'])
   cases h3:zD (tick1 now k G).lines k' with
   | some _=>rfl
   | none=>
    rw[yV,hn]at h3
    cases h4:zD G.lines k' with
    | none=>rw[h4]at this;cases this
    | some v=>exact absurd (List.mem_map.2 ⟨_,jX h4,rfl⟩) h3
  have ho':∀f∈out++uX (Yn (zZ G.lines k) now),f.Ok:=λf hf=>by
   rcases List.mem_append.1 hf with hf | hf
   ·exact ho f hf
   ·unfold uX at hf;obtain⟨q,hq,rfl⟩:=List.mem_map.1 hf;obtain⟨y,hy,rfl⟩:=cH hq;have:=h.line k y hy;exact⟨⟨this.1,Int.le_trans this.2 (by decide)⟩,z9,by show uz.size≤1000;decide⟩
  obtain⟨a,b,c,d,e⟩:=GF (ks:=ks) (r:=r) h1 hr hks ho';refine⟨a,b,?_,d,e⟩;have hll:=xo h.ok k;rw[hr]at hll;have h5:(Yn (zZ G.lines k) now).length≤(zZ G.lines k).length:=by unfold Yn;rw[List.length_map];exact List.length_filter_le ..
  rw[List.length_append,oc]at c;show((UD now ks (tick1 now k G) (out++uX (Yn (zZ G.lines k) now))).2.length:Int)≤_;rw[List.length_cons];have:((ks.length+1:Nat):Int)*max r 0=ks.length*max r 0+max r 0:=by rw[Int.natCast_add,Int.add_mul];simp
  rw[this];omega
def GW{k:Nat}{G:Zq}(ok:G.Ok)(hG:GtI k G)(now:Int):GtI k (Ub G now).1∧(∀f∈(Ub G now).2,f.Ok)∧(Ub G now).2.length≤8*k:=by
 have h:TkI G.all.length G.lines.length G:=⟨Nat.le_refl _,hG.ids,Nat.le_refl _,hG.lid,hG.wk,ok⟩;obtain⟨a,b,c,d,e⟩:=GF (now:=now) (r:=G.room) (ks:=Yc (G.lines.map (·.1))) (out:=[]) h rfl (λk hk=>by
  cases h4:zD G.lines k with
  | none=>rw[yV]at h4;exact absurd (KY.1 hk) h4
  | some v=>rfl) (by simp)
 have r:=hG.room;have hl:=hG.lines;refine⟨⟨Nat.le_trans a.all hG.all,a.ids,Nat.le_trans a.lines hl,a.lid,a.wk,?_,?_⟩,b,?_⟩
 ·unfold Ub;rw[d];exact hG.pat
 ·unfold Ub;rw[e];exact r
 ·rw[vl,List.length_map]at c;have h8:(G.lines.length:Int)*max G.room 0≤G.lines.length*8:=Int.mul_le_mul_of_nonneg_left (by omega) (by omega);unfold Ub;simp only[List.length_nil]at c;omega
structure ShI(k:Nat)(a:jn):Prop where
 n:a.n≤k
 few:a.Few
 cfg:∀n,(jk a.m n).is=true→(VN (jk a.m n)).1=n∧qq (VN (jk a.m n))=0∧1≤(jk a.m n).gen
 rt:∀n,(ox a.r n).is=true→(ox a.r n).r.name=n∧mo (ox a.r n).r=0
def ShI.mono{k m:Nat}{a:jn}(h:ShI k a)(hm:k≤m):ShI m a:=⟨by have:=h.n;omega,h.few,h.cfg,h.rt⟩
def nI{k:Nat}{a:jn}(ok:a.Ok)(h:ShI k a)(c:Cfg)(ver:Int):ShI (k+1) (UF a c ver).1:=by
 have hf:=nJ h.few c ver;unfold UF at hf ⊢;split
 ·exact h.mono (Nat.le_succ k)
 ·rename_i h1;rw[if_neg h1]at hf;split
  ·exact h.mono (Nat.le_succ k)
  ·rename_i h2;rw[if_neg h2]at hf;have hn:=h.n;refine⟨by dsimp only;omega,hf,λn hn2=>?_,h.rt⟩;dsimp only[nT]at hn2 ⊢;rw[TG]at hn2 ⊢;split
   ·rename_i e;have h1':qq c=0:=by simpa using h1
    refine⟨e,h1',?_⟩;have h3:=ok.gen c.1;show(1:Int)≤(if(jk a.m c.1).is=true∧vq (VN (jk a.m c.1)) c=true then(jk a.m c.1).gen else(jk a.m c.1).gen+1);split
    ·rename_i h4;exact(h.cfg c.1 h4.1).2.2
    ·omega
   ·rename_i e;rw[if_neg e]at hn2;exact h.cfg n hn2
def xB{c:Cfg}(h:qq c=0):ZM c.1.data.toList 16=true∧(0≤@id Int c.2.1∧@id Int c.2.1≤255)∧(1≤@id Int c.2.2.1∧@id Int c.2.2.1≤8)∧(1≤@id Int c.2.2.2.2.1∧@id Int c.2.2.2.2.1≤10)∧(0≤@id Int c.2.2.2.1∧@id Int c.2.2.2.1≤@id Int c.2.2.2.2.1)∧(0≤@id Int c.2.2.2.2.2.1∧@id Int c.2.2.2.2.2.1≤30):=by
 unfold qq at h;split at h
 ·rename_i h1;split at h
  ·rename_i h2;unfold Kj at h2;simp only[Bool.and_eq_true,decide_eq_true_eq]at h2;exact⟨h1,h2.1,h2.2.1,h2.2.2.1,h2.2.2.2.1,h2.2.2.2.2⟩
  ·cases h
 ·cases h
structure BkI(k:Nat)(a:Yk):Prop where
 len:a.all.length≤k
 rev:∀p∈a.all,Ti p.1
 cfg:∀p∈a.all,qq p.2.cfg=0
def BkI.mono{k m:Nat}{a:Yk}(h:BkI k a)(hm:k≤m):BkI m a:=⟨by have:=h.len;omega,h.rev,h.cfg⟩
def BkI.stamp{k:Nat}{a:Yk}(h:BkI k a){c:Cfg}(hc:qq c=0){g:Nat}(h1:1≤g)(hg:g<100):BkI (k+1) (Jp a c g).1:=by
 unfold Jp;split
 ·exact h.mono (Nat.le_succ k)
 ·have:=h.len;have:=qf a.all (xb c.1 g) (wG (xb c.1 g) g c);refine⟨by dsimp only;omega,λp hp=>?_,λp hp=>?_⟩
  ·rcases yR hp with rfl | hp
   ·exact⟨c.1,g,(xB hc).1,h1,by omega,rfl⟩
   ·exact h.rev p hp
  ·rcases yR hp with rfl | hp
   ·exact hc
   ·exact h.cfg p hp
def XH{a:Yk}{rev:B0}(h:YZ a rev=true):(rev,XI a rev)∈a.all:=by
 unfold YZ at h;unfold XI
 cases h2:zD a.all rev with
 | none=>rw[h2]at h;cases h
 | some v=>exact jX h2
def NA{a:Yk}{rev:B0}(h:rev∈Kl a):YZ a rev=true:=by
 unfold Kl at h;unfold YZ
 cases h2:zD a.all rev with
 | none=>rw[yV]at h2;exact absurd (KY.1 h) h2
 | some v=>rfl
def BkI.size{k:Nat}{a:Yk}(h:BkI k a){rev:B0}(hr:YZ a rev=true):rev.size≤100:=(h.rev _ (XH hr)).size
structure ByI(k:Nat)(bk:Yk)(m:List (B0×kH)):Prop where
 has:∀p∈bk.all,(zD m p.1).isSome=true
 xs:∀x∈m,x.2.xs.length≤k
 rng:∀x∈m,∀y∈x.2.xs,0≤y∧y≤100000000
 want:∀x∈m,(0≤x.2.want∧x.2.want≤10)∧(0≤x.2.left∧x.2.left≤1000)
def ByI.mono{k m:Nat}{bk:Yk}{b:List (B0×kH)}(h:ByI k bk b)(hm:k≤m):ByI m bk b:=⟨h.has,λx hx=>by have:=h.xs x hx;omega,h.rng,h.want⟩
def ByI.book{k:Nat}{bk bk':Yk}{b:List (B0×kH)}(h:ByI k bk b)(e:bk'.all=bk.all):ByI k bk' b:=⟨by rw[e];exact h.has,h.xs,h.rng,h.want⟩
def ByI.set{k:Nat}{bk:Yk}{b:List (B0×kH)}(h:ByI k bk b){rev:B0}{x:kH}(h1:x.xs.length≤k)(h2:∀y∈x.xs,0≤y∧y≤100000000)(h3:(0≤x.want∧x.want≤10)∧(0≤x.left∧x.left≤1000)):ByI k bk (Zl b rev x):=
 ⟨λp hp=>ob _ _ _ _ (h.has p hp),λy hy=>by
  rcases yR hy with rfl | hy
  ·exact h1
  ·exact h.xs y hy,λy hy=>by
  rcases yR hy with rfl | hy
  ·exact h2
  ·exact h.rng y hy,λy hy=>by
  rcases yR hy with rfl | hy
  ·exact h3
  ·exact h.want y hy⟩
def ByI.tick{k:Nat}{bk:Yk}{G:Zq}(hb:∀rev,QS G rev≤100000000):∀{l:List B0}{b:List (B0×kH)},l.Nodup→(∀p∈bk.all,(zD b p.1).isSome=true)→(∀x∈b,x.1∈l→x.2.xs.length≤k)→(∀x∈b,x.2.xs.length≤k+1)→
  (∀x∈b,∀y∈x.2.xs,0≤y∧y≤100000000)→(∀x∈b,(0≤x.2.want∧x.2.want≤10)∧(0≤x.2.left∧x.2.left≤1000))→ByI (k+1) bk (l.foldl (OF G) b)
 | [],b,_,h1,_,h2,h3,h4=>⟨h1,h2,h3,h4⟩
 | rev::l,b,nd,h1,ha,h2,h3,h4=>by
  rw[List.foldl_cons];rw[List.nodup_cons]at nd;unfold OF;split
  ·rename_i x hx;have hm:=jX hx;have hxl:x.xs.length≤k:=ha _ hm (by simp);refine ByI.tick hb nd.2 (λp hp=>ob _ _ _ _ (h1 p hp)) (λy hy hl=>?_) (λy hy=>?_) (λy hy=>?_) λy hy=>?_
   ·rcases yR hy with rfl | hy
    ·exact absurd hl nd.1
    ·exact ha y hy (by simp[hl])
   ·rcases yR hy with rfl | hy
    ·simp;omega
    ·exact h2 y hy
   ·rcases yR hy with rfl | hy
    ·intro z hz;rcases List.mem_append.1 hz with hz | hz
     ·exact h3 _ hm z hz
     ·rw[List.mem_singleton]at hz;have:=hb rev;subst hz;split<;>omega
    ·exact h3 y hy
   ·rcases yR hy with rfl | hy
    ·have:=h4 _ hm;exact this
    ·exact h4 y hy
  ·exact ByI.tick hb nd.2 h1 (λy hy hl=>ha y hy (by simp[hl])) h2 h3 h4
def No(all:kz)(rev:B0):(Kc all rev).length≤all.length:=by
 unfold Kc;rw[od,List.length_map];exact List.length_filter_le ..
def LZ{k:Nat}{G:Zq}(ok:G.Ok)(hG:GtI k G)(hk:k≤10001)(rev:B0):0≤QS G rev∧QS G rev≤100000000:=by
 have h1:=xo ok rev;have h2:=No G.all rev;have h3:=hG.all;have h4:=hG.room;unfold QS oX;rw[List.length_map];omega
structure WyI(k:Nat)(a:pR):Prop where
 fr:WBd a.fr
 to:WBd a.to
 ns:WBd a.ns
 zf:∀s∈a.fr,s.1.size≤100
 zt:∀s∈a.to,s.1.size≤100
 zn:∀s∈a.ns,s.1.size≤100
 zg:∀s∈a.ng,s.1.size≤100∧s.2.1.size≤100
 lf:a.fr.length≤6*k
 lt:a.to.length≤6
 ln:a.ns.length≤6*k
 lg:a.ng.length≤6
 since:0≤a.since∧a.since≤1048576
abbrev RoI(k:Nat)(m:Ou):Prop:=∀n x,zD m n=some x→WyI k x
def WyI.mono{k m:Nat}{a:pR}(h:WyI k a)(hm:k≤m):WyI m a:=⟨h.fr,h.to,h.ns,h.zf,h.zt,h.zn,h.zg,by have:=h.lf;omega,h.lt,by have:=h.ln;omega,h.lg,h.since⟩
def WyI.ok{k:Nat}{a:pR}(h:WyI k a)(hk:k≤10000):a.Ok:=⟨h.fr,h.to,h.ns,by have:=h.lf;omega,by have:=h.lt;omega,by have:=h.ln;omega,by have:=h.lg;omega⟩
structure sK(t:kG):Prop where
 w:WBd t.sh
 zs:∀s∈t.sh,s.1.size≤100
 zg:∀s∈t.tg,s.1.size≤100∧s.2.1.size≤100
 ls:t.sh.length≤6
 lg:t.tg.length≤6
def RoI.del{k:Nat}{m:Ou}(h:RoI k m)(nd:(m.map (·.1)).Nodup)(n:B0):RoI k (uU m n):=by
 intro n' x hx;rw[Pg n n' nd]at hx;split at hx
 ·cases hx
 ·exact h n' x hx
structure RgI(j:Nat)(ws:MSI)(ts:MSS):Prop where
 lw:ws.length≤j
 lt:ts.length≤j
 zw:∀x∈ws,x.1.size≤100∧0≤x.2∧x.2≤100*j
 zt:∀x∈ts,x.1.size≤100∧x.2.size≤100
end Go.Proofs.YtimahgbgejngiaaGreatDoor
namespace Go.Proofs.YtimahgbgejngiaaGreatDoor
open Go.Dm
attribute [local irreducible] L.load L.store L.chk L.new L.nonnil L.guard L.ite L.draw L.idx L.sem L.semR L.semU L.chkSem L.next L.call L.callV L.join L.alts L.loop L.begin L.endRound L.range
variable {w0 w:World}{E:List Seg}
def PW(a:Zc)(e:AEv):Zc×List B0:=
 if(tb a.sh e.n e.name e.draw).2≠0 then({ a with sh:=(tb a.sh e.n e.name e.draw).1 },jp (tb a.sh e.n e.name e.draw).2)
 else({ a with sh:=(tb a.sh e.n e.name e.draw).1,ro:=if e.n=2 then uU a.ro e.name else a.ro },[ZD nM [e.name]])
def FK(a:Zc)(e:AEv):Zc×List B0:=
 if(UM a.fl e.n).2.2≠0 then({ a with fl:=(UM a.fl e.n).1 },jp (UM a.fl e.n).2.2)
 else({ a with fl:=(UM a.fl e.n).1,gt:=(WH a.gt (UM a.fl e.n).2.1).1 },ZD RO [jY e.n.toNat]::(WH a.gt (UM a.fl e.n).2.1).2.map xU)
def mn2(a b:Int):Int:=if b<a then b else a
def mx2(a b:Int):Int:=if b>a then b else a
def jx(s n c:Int):Int:=if n≤0 then 0 else if c≤0 then 0 else(s+n*c-1)/(n*c)
def mw{s n c:Int}(hs:0≤s∧s≤1000000000000)(hn:0≤n∧n≤100)(hc:0≤c∧c≤100):0≤jx s n c∧jx s n c≤1000000000000:=by
 unfold jx;split
 ·exact⟨by decide,by decide⟩
 ·split
  ·exact⟨by decide,by decide⟩
  ·have h1:1≤n*c:=by have:=Int.mul_le_mul (show(1:Int)≤n by omega) (show(1:Int)≤c by omega) (by omega) (by omega);omega
   have h2:n*c≤100*100:=Int.mul_le_mul hn.2 hc.2 (by omega) (by omega);generalize n*c=m at *
   refine⟨Int.ediv_nonneg (by omega) (by omega),Int.ediv_le_of_le_mul (by omega) ?_⟩;have:=Int.mul_le_mul_of_nonneg_left h1 (show(0:Int)≤1000000000000 by decide);omega
def Kr{s n c:Int}(hs:0≤s∧s≤1000000000000)(hn:0≤n∧n≤100)(hc:0≤c∧c≤100){k:Int→PT}(hk:k (jx s n c) w):L.call Pr Ji [I s,I n,I c] (.one (.one (.int .i64))) k w:=by
 refine zc (Tq s n c) ?_;unfold Gq;unfold jx at hk;refine it (λh1=>?_) (λh1=>?_)<;>(try simp only[zB]at h1)
 ·rw[if_pos h1]at hk;exact⟨_,rfl,hk⟩
 ·rw[if_neg h1]at hk;refine it (λh2=>?_) (λh2=>?_)<;>(try simp only[zB]at h2)
  ·rw[if_pos h2]at hk;exact⟨_,rfl,hk⟩
  ·rw[if_neg h2]at hk;have h3:1≤n*c:=by have:=Int.mul_le_mul (show(1:Int)≤n by omega) (show(1:Int)≤c by omega) (by omega) (by omega);omega
   have h4:n*c≤100*100:=Int.mul_le_mul hn.2 hc.2 (by omega) (by omega);have e1:Wi (n*c)=n*c:=wr (by omega) (by omega);rw[e1];generalize n*c=m at *
   have e2:Wi (s+m)=s+m:=wr (by omega) (by omega);have e3:Wi (s+m-1)=s+m-1:=wr (by omega) (by omega);rw[e2,e3];refine gd (by omega) ⟨_,rfl,?_⟩;have e4:Int.tdiv (s+m-1) m=(s+m-1)/m:=Int.tdiv_eq_ediv_of_nonneg (by omega);have e5:(s+m-1)/m≤2000000000000:=Int.ediv_le_of_le_mul (by omega) (by
    have:=Int.mul_le_mul_of_nonneg_left h3 (show(0:Int)≤2000000000000 by decide);omega)
   have e6:0≤(s+m-1)/m:=Int.ediv_nonneg (by omega) (by omega);rw[e4,wr (by omega) (by omega)];exact hk
abbrev scM(ready:Int):Int:=if ready>1 then ready else 1
def uJ(left b m:Int):Int:=if b≥2*m then 6 else if 0>left-1 then 0 else left-1
def wo(want left' a b:Int):Int:=if left'>0 then mx2 (mx2 want a) b else a
def wn(w1 want busy idle grace:Int):Int:=if w1=0∧(busy>0∨(want>0∧idle<grace))then 1 else w1
def pW(w2 ready mi ma:Int):Int:=mn2 (mx2 (mx2 (mn2 w2 (4*scM ready)) (ready/2)) mi) ma
def pX(want left:Int)(c:Cfg)(ready busy st sts sh shs idle:Int):Int×Int:=
 (pW (wn (wo want (uJ left (jx sh shs c.2.2.1) (scM ready)) (jx st sts c.2.2.1) (jx sh shs c.2.2.1)) want busy idle c.2.2.2.2.2.1) ready c.2.2.2.1 c.2.2.2.2.1,uJ left (jx sh shs c.2.2.1) (scM ready))
def PL(h:St w0 E w){want left b m:Int}(hl:0≤left∧left≤1000)(hm:0≤m∧m≤1000000){k:Int→PT}(hk:∀w',St w0 E w'→k (uJ left b m) w'):L.call Pr ji [.agg #[I want,I left],I b,I m] (.one (.one (.int .i64))) k w:=by
 refine zc (ku (want,left,()) b m) ?_;unfold qz;unfold uJ at hk;have e1:Wi (2*m)=2*m:=wr (by omega) (by omega);have e2:Wi (left-1)=left-1:=wr (by omega) (by omega);dsimp only;rw[e1];refine nw h ?_;clear h;intro b1 w h;refine it (λh1=>?_) (λh1=>?_)<;>(try simp only[zB]at h1)
 ·rw[if_pos h1]at hk;exact⟨_,rfl,hk w (zy h)⟩
 ·rw[if_neg h1]at hk
  (refine ldC h ?_)
  rw[e2];exact⟨_,rfl,hk w (zy h)⟩
def lD(h:St w0 E w){want left a b:Int}{k:Int→PT}(hk:∀w',St w0 E w'→k (mx2 (mx2 want a) b) w'):L.call Pr Xl [.agg #[I want,I left],.agg #[I a,I b]] (.one (.one (.int .i64))) k w:=by
 refine zc (gh (want,left,()) (a,b,())) ?_;unfold Um;refine nw h ?_;clear h;intro b1 w h;refine nw h ?_;clear h;intro b2 w h
 (dsimp only[ze,List.cons_append,List.nil_append]at h;refine ldC h ?_)
 refine ix (by decide) (by decide) ?_
 (refine ldC h ?_)
 refine ix (by decide) (by decide) ?_
 (refine ldC h ?_)
 exact⟨_,rfl,hk w (zy (zy h))⟩
def dP(h:St w0 E w){c:Cfg}{ready m:Int}(hr:0≤ready∧ready≤1000000)(hm:0≤m∧m≤1000000){k:HT [.int .i64,.int .i64,.int .i64,.int .i64]→PT}(hk:∀w',St w0 E w'→k (4*m,ready/2,c.2.2.2.1,c.2.2.2.2.1,()) w') :
  L.call Pr uO [.agg (Cfg.cells c).toArray,I ready,I m] (.one (.agg [.int .i64,.int .i64,.int .i64,.int .i64])) k w:=by
 refine zc (MO c ready m) ?_;unfold Ku;have e1:Wi (4*m)=4*m:=wr (by omega) (by omega);have e2:Int.tdiv ready 2=ready/2:=Int.tdiv_eq_ediv_of_nonneg hr.1;have e3:Wi (ready/2)=ready/2:=wr (by omega) (by omega);rw[e1,e2,e3];refine nw h ?_;clear h;intro b1 w h;refine nw h ?_;clear h;intro b2 w h;refine gd (by decide) ?_
 (refine ldC h ?_;refine ldC h ?_;refine stC h ?_;clear h;intro w h;dsimp only[zP,ze]at h;refine laC h ?_)
 exact⟨(4*m,ready/2,c.2.2.2.1,c.2.2.2.2.1,()),rfl,hk w (zy (zy h))⟩
abbrev LY(b:Nat)(c:Cfg):Seg:=[Cl b zq (Cfg.cells c)]
def dO(h:St w0 E w){want left:Int}{c:Cfg}{ready busy st sts sh shs idle:Int}(hw:0≤want∧want≤1000)(hl:0≤left∧left≤1000)(hc:0≤@id Int c.2.2.1∧@id Int c.2.2.1≤100)(hr:0≤ready∧ready≤1000000)
  (h1:0≤st∧st≤1000000000000) (h2:0≤sts∧sts≤100) (h3:0≤sh∧sh≤1000000000000) (h4:0≤shs∧shs≤100) {k:HT [.int .i64,.int .i64]→PT} (hk:∀w',St w0 E w'→k ((pX want left c ready busy st sts sh shs idle).1,(pX want left c ready busy st sts sh shs idle).2,()) w') :
  L.call Pr uP [.agg #[I want,I left],.agg (Cfg.cells c).toArray,I ready,I busy,I st,I sts,I sh,I shs,I idle] (.one (.agg [.int .i64,.int .i64])) k w:=by
 refine zc (MP (want,left,()) c ready busy st sts sh shs idle) ?_;unfold Kv;have hm:0≤scM ready∧scM ready≤1000000:=by unfold scM;split<;>omega
 obtain⟨c1,c2,c3,c4,c5,c6,⟨⟩⟩:=c;unfold pX at hk;have ea:=mw h1 h2 hc;have eb:=mw h3 h4 hc;change 0≤jx st sts c3∧jx st sts c3≤1000000000000 at ea;change 0≤jx sh shs c3∧jx sh shs c3≤1000000000000 at eb;change 0≤c3∧c3≤100 at hc;dsimp only at hk ⊢;change ∀w',St w0 E w'→k (pW (wn (wo want (uJ left (jx sh shs c3) (scM ready)) (jx st sts c3) (jx sh shs c3)) want busy idle c6) ready c4 c5,uJ left (jx sh shs c3) (scM ready),()) w' at hk;refine nw h ?_;clear h;intro b1 w h;refine nw h ?_;clear h;intro b2 w h;refine nw h ?_;clear h;intro b3 w h;refine ZA (λ(z:Addr×Unit) w=>∃b,z=(⟨b,0,none⟩,())∧St w0 ([Cl b UP [I (jx st sts c3),I (jx sh shs c3)]]::[Cl b3 Zp [I 0,I 0]]::LY b2 (c1,c2,c3,c4,c5,c6,())::[Cl b1 Zp [I want,I left]]::E) w) (λk4 hk4=>?_) ?_
 ·(refine dr h ?_;clear h;intro w h;refine ldC h ?_;refine ldC h ?_)
  refine VO ?_ ?_
  ·refine Kr h1 h2 hc ?_
   (refine ckC h ?_)
   refine VO ?_ ?_
   ·refine Kr h3 h4 hc ?_;refine nw h ?_;clear h;intro b w h
    (refine ckC h ?_;refine ckC h ?_;refine stC h ?_;clear h;intro w h;dsimp only[zP,ze]at h)
    exact hk4 _ w ⟨b,rfl,h⟩
   ·refine nw h ?_;clear h;intro b w h
    (refine ckC h ?_;refine ckC h ?_)
    refine Kr h3 h4 hc ?_
    (refine stC h ?_;clear h;intro w h;dsimp only[zP,ze]at h)
    exact hk4 _ w ⟨b,rfl,h⟩
  ·refine nw h ?_;clear h;intro b w h
   (refine ckC h ?_;refine ckC h ?_)
   refine Kr h1 h2 hc ?_
   (refine ckC h ?_)
   refine Kr h3 h4 hc ?_
   (refine stC h ?_;clear h;intro w h;dsimp only[zP,ze]at h)
   exact hk4 _ w ⟨b,rfl,h⟩
 generalize jx st sts c3=A at *
 generalize jx sh shs c3=B at *
 clear h;rintro z w ⟨b4,rfl,h⟩
 (try dsimp only)
 refine ZA (λ(z:Addr×Unit) w=>∃b,z=(⟨b,0,none⟩,())∧St w0 ([Cl b Zp [I A,I (uJ left B (scM ready))]]::[Cl b4 UP [I A,I B]]::[Cl b3 Zp [I 0,I 0]]::LY b2 (c1,c2,c3,c4,c5,c6,())::[Cl b1 Zp [I want,I left]]::E) w) (λk4 hk4=>?_) ?_
 ·(refine dr h ?_;clear h;intro w h)
  refine ix (by decide) (by decide) ?_
  (refine ldC h ?_;refine laC h ?_)
  refine ix (by decide) (by decide) ?_
  (refine ldC h ?_)
  refine VO ?_ ?_
  ·refine PL h hl hm λw h=>?_
   (refine ckC h ?_)
   refine nw h ?_;clear h;intro b w h
   (refine ckC h ?_;refine ckC h ?_;refine ckC h ?_;refine stC h ?_;clear h;intro w h;dsimp only[zP,ze]at h)
   exact hk4 _ w ⟨b,rfl,h⟩
  ·refine nw h ?_;clear h;intro b w h
   (refine ckC h ?_;refine ckC h ?_;refine ckC h ?_)
   refine PL h hl hm λw h=>?_
   (refine ckC h ?_;refine stC h ?_;clear h;intro w h;dsimp only[zP,ze]at h)
   exact hk4 _ w ⟨b,rfl,h⟩
 generalize uJ left B (scM ready)=L1 at *
 clear h;rintro z w ⟨b5,rfl,h⟩
 (try dsimp only)
 refine ZA (λ(_:Unit) w=>St w0 ([Cl b5 Zp [I (wo want L1 A B),I L1]]::[Cl b4 UP [I A,I B]]::[Cl b3 Zp [I 0,I 0]]::LY b2 (c1,c2,c3,c4,c5,c6,())::[Cl b1 Zp [I want,I left]]::E) w) (λk4 hk4=>?_) ?_
 ·(refine ldC h ?_)
  unfold wo at hk4;refine it (λhc1=>?_) (λhc1=>?_)<;>(try simp only[zB]at hc1)
  ·rw[if_pos hc1]at hk4
   (refine laC h ?_;refine laC h ?_)
   refine lD h λw h=>?_
   (refine stC h ?_;clear h;intro w h;dsimp only[zP,ze]at h)
   exact hk4 _ w h
  ·rw[if_neg hc1]at hk4;exact hk4 _ w h
 generalize wo want L1 A B=W1 at *
 clear h;rintro _ w h
 (try dsimp only)
 refine ZA (λ(_:Unit) w=>St w0 ([Cl b5 Zp [I (wn W1 want busy idle c6),I L1]]::[Cl b4 UP [I A,I B]]::[Cl b3 Zp [I 0,I 0]]::LY b2 (c1,c2,c3,c4,c5,c6,())::[Cl b1 Zp [I want,I left]]::E) w) (λk4 hk4=>?_) ?_
 ·(refine ldC h ?_)
  unfold wn at hk4;refine it (λd1=>?_) (λd1=>?_)<;>(try simp only[zB]at d1)
  ·subst d1;refine it (λd2=>?_) (λd2=>?_)<;>(try simp only[zB]at d2)
   ·rw[if_pos ⟨rfl,.inl d2⟩]at hk4
    (refine stC h ?_;clear h;intro w h;dsimp only[zP,ze]at h)
    exact hk4 _ w h
   ·(refine ldC h ?_)
    refine it (λd3=>?_) (λd3=>?_)<;>(try simp only[zB]at d3)
    ·(refine ldC h ?_)
     refine it (λd4=>?_) (λd4=>?_)<;>(try simp only[zB]at d4)
     ·rw[if_pos ⟨rfl,.inr ⟨d3,d4⟩⟩]at hk4
      (refine stC h ?_;clear h;intro w h;dsimp only[zP,ze]at h)
      exact hk4 _ w h
     ·rw[if_neg (by omega)]at hk4;exact hk4 _ w h
    ·rw[if_neg (by omega)]at hk4;exact hk4 _ w h
  ·rw[if_neg (λhh=>d1 hh.1)]at hk4;exact hk4 _ w h
 generalize wn W1 want busy idle c6=W2 at *
 clear h;rintro _ w h
 (try dsimp only)
 (refine laC h ?_)
 refine dP (c:=(c1,c2,c3,c4,c5,c6,())) h hr hm λw h=>?_;refine nw h ?_;clear h;intro b40 w h
 (refine stC h ?_;clear h;intro w h;dsimp only[zP,ze]at h;refine ldC h ?_)
 refine ix (by decide) (by decide) ?_
 (refine ldC h ?_)
 refine ix (by decide) (by decide) ?_
 (refine ldC h ?_)
 refine ix (by decide) (by decide) ?_
 (refine ldC h ?_)
 refine ix (by decide) (by decide) ?_
 (refine ldC h ?_;refine stC h ?_;clear h;intro w h;dsimp only[zP,ze]at h;refine laC h ?_;refine stC h ?_;clear h;intro w h;dsimp only[zP,ze]at h;refine laC h ?_)
 exact⟨(_,_,()),rfl,hk w (zy (zy (zy (zy (zy (zy h))))))⟩
def cJ{m:Int}:∀{l:List Int},(∀y∈l,0≤y∧y≤m)→0≤Fu l∧Fu l≤l.length*m
 | [],_=>⟨Int.le_refl 0,by simp[Fu]⟩
 | x::l,h=>by
  have a:=cJ (l:=l) λy hy=>h y (by simp[hy]);have b:=h x (by simp);unfold Fu;have e:((x::l).length:Int)*m=l.length*m+m:=by rw[List.length_cons,Int.natCast_add,Int.add_mul];simp
  rw[e];omega
def Pl{xs:List Int}(h:∀y∈xs,0≤y∧y≤100000000){m:Nat}(hm:m≤60):0≤XF xs m∧XF xs m≤6000000000:=by
 have a:=cJ (m:=100000000) (l:=xs.reverse.take m) λy hy=>h y (by have:=List.mem_of_mem_take hy;simpa using this);have b:(xs.reverse.take m).length≤m:=by rw[List.length_take];omega
 unfold XF;omega
def gR(xs:List Int)(p:Int):uY xs p≤60:=by unfold uY;omega
def Fp(a:Zc)(x:kH)(rev:B0):Int×Int:=
 pX x.want x.left (XI a.bk rev).2.2 (cnt (λs=>s == 2) (JV a.fl.l rev)) (QS a.gt rev) (XF x.xs (uY x.xs 6)) (uY x.xs 6) (XF x.xs (uY x.xs 2)) (uY x.xs 2) (tz x.xs)
def uI(a:Zc)(e:AEv):Zc×List B0:=
 if YZ a.bk e.name=false then(a,jp 6)else match zD a.by' e.name with
 | none=>(a,[])
 | some x=>({ a with by':=Zl a.by' e.name ⟨x.xs,(Fp a x e.name).1,(Fp a x e.name).2⟩ },[ZD (ZD jg [e.name]) [jY (Fp a x e.name).1.toNat]])
def dN [jF w0](h:St w0 E w)(i:Nat){b:Nat}{a:Zc}{s:Seg}(hi:nth E i=some s)(hs:Xu b a s){e:AEv}(hname:e.name.size≤100000)(hby:YZ a.bk e.name=true→(zD a.by' e.name).isSome=true)
  (hx:∀x,zD a.by' e.name=some x→((0≤x.want∧x.want≤1000)∧(0≤x.left∧x.left≤1000)∧(∀y∈x.xs,0≤y∧y≤100000000)∧x.xs.length<1000000000)∧0≤(Fp a x e.name).1∧(Fp a x e.name).1≤1000)
  (hc:YZ a.bk e.name=true→0≤@id Int (XI a.bk e.name).2.2.2.2.1∧@id Int (XI a.bk e.name).2.2.2.2.1≤100) (hpn:(JV a.fl.l e.name).length<1000000) {k:Sl→PT} (hk:Hk w0 E i b (uI a e) k) :
  JQ (some ⟨b,0,none⟩) e.t (slK k) w:=by
 have hs0:=hs;obtain⟨p,sg,sf,ss,sk,sr,sm,Q,R,rfl⟩:=hs;unfold JQ;unfold uI at hk;have h:=(h.front i hi).split8;refine nw h ?_;clear h;intro b1 w h
 refine ZA (λ(z:Addr×Bool×Unit) w=>∃b8:Nat,z=(⟨b8,0,none⟩,YZ a.bk e.name,())∧
  St w0 ([Cl b8 zK (rvC (XI a.bk e.name))]::[Cl b1 zT (eEw e)]::Uz b p a.now::sg::sf::ss::sk::sr::sm::(Q.map BsE.sg).flatten::ZE E i) w) (λk2 hk2=>?_) ?_
 ·(dsimp only[ze,List.cons_append,List.nil_append]at h;refine dr h ?_;clear h;intro w h;refine nn ?_;refine ldC h ?_;refine ldC h ?_)
  refine VO ?_ ?_
  ·refine ow h 5 rfl R.bk λw h=>?_;refine nw h ?_;clear h;intro b8 w h
   (refine ckC h ?_;refine ckC h ?_;refine stC h ?_;clear h;intro w h;dsimp only[zP,ze]at h)
   exact hk2 _ w ⟨b8,rfl,h⟩
  ·refine nw h ?_;clear h;intro b8 w h
   (refine ckC h ?_;refine ckC h ?_)
   refine ow h 6 rfl R.bk λw h=>?_
   (refine stC h ?_;clear h;intro w h;dsimp only[zP,ze]at h)
   exact hk2 _ w ⟨b8,rfl,h⟩
 clear h;rintro z w ⟨b8,rfl,h⟩
 (try dsimp only)
 refine it (λhc1=>?_) (λhc1=>?_)
 ·have hc1:YZ a.bk e.name=false:=by simpa using hc1
  rw[if_pos hc1]at hk;refine uF h λv s w r h=>?_;exact⟨v,rfl,hk v s _ w r hs0 (Xb i hi (jE (jE h)))⟩
 have hc1:YZ a.bk e.name=true:=by simpa using hc1
 rw[if_neg (by simp[hc1])]at hk;obtain⟨x,hgx⟩:=Option.isSome_iff_exists.1 (hby hc1);obtain⟨⟨hw,hl,hy,hln⟩,hd⟩:=hx x hgx;have hc:=hc hc1;rw[hgx]at hk;dsimp only at hk;clear hby hx;have hqx:∃q,uW BsE.k Q e.name=some q∧q.x=x:=by
  rw[R.ab,OW]at hgx
  cases hf:uW BsE.k Q e.name with
  | none=>rw[hf]at hgx;cases hgx
  | some q=>rw[hf]at hgx;exact⟨q,rfl,by simpa using hgx⟩
 obtain⟨q,hfx,rfl⟩:=hqx;have hmk:=R.mp.nd
 (refine dr h ?_;clear h;intro w h;refine nn ?_;refine ldC h ?_;refine ldC h ?_)
 have hlk:((zD (Q.map BsE.kp) e.name).map λx:Option Addr=>x).getD none=some ⟨q.b,0,none⟩:=by rw[OV,hfx];rfl
 refine MpS.get oV GC NU (λx:Option Addr=>x) (λ_=>rfl) h 8 rfl R.mp ?_;rw[hlk];have ea:=R.ea;have hab:=R.ab;have hmp:=R.mp;obtain⟨A,B,eQ,hxk⟩:=uV hfx
 (refine ldC h ?_)
 refine Mx h (i:=2) (j:=4) rfl rfl R.fl (fv:=⟨.func Ys,#[],#[]⟩) (q:=λs=>s == 2) hpn (λ{E' w x k} h hk=>?_) λw h=>?_
 ·refine Qr (fs:=#[]) (cs:=#[]) vR (vT x) ?_;unfold XL;exact⟨_,rfl,hk w h⟩
 have hcn:0≤cnt (λs=>s == 2) (JV a.fl.l e.name)∧cnt (λs=>s == 2) (JV a.fl.l e.name)≤1000000:=by
  unfold cnt;have:=List.length_filter_le (λx:Int×Int×Int=>(λs=>s == 2) x.2.1) (JV a.fl.l e.name);refine⟨Int.natCast_nonneg _,?_⟩;have h2:((JV a.fl.l e.name).filter λx:Int×Int×Int=>(λs=>s == 2) x.2.1).length≤1000000:=by omega
  exact Int.ofNat_le.2 h2
 have hdd:(Fp a q.x e.name)=pX q.x.want q.x.left (XI a.bk e.name).2.2 (cnt (λs=>s == 2) (JV a.fl.l e.name)) (QS a.gt e.name) (XF q.x.xs (uY q.x.xs 6)) (uY q.x.xs 6) (XF q.x.xs (uY q.x.xs 2)) (uY q.x.xs 2) (tz q.x.xs):=rfl;subst eQ;have h:=UA h;have h:=h.pick.split;have hox:=ea q (by simp);have hr6:=Pl hy (gR q.x.xs 6);have hr2:=Pl hy (gR q.x.xs 2);have hn6:=gR q.x.xs 6;have hn2:=gR q.x.xs 2
 (refine nn ?_;refine ldC h ?_)
 refine Ch h 1 rfl hox (by omega) λw h=>?_;rw[wr (by omega) (by omega)]
 (refine nn ?_;refine ldC h ?_)
 refine Ch h 1 rfl hox (by omega) λw h=>?_;rw[wr (by omega) (by omega)]
 (refine dr h ?_;clear h;intro w h;refine nn ?_;refine laC h ?_;refine laC h ?_;refine nn ?_;refine ldC h ?_;refine ldC h ?_;refine nn ?_;refine ldC h ?_)
 have h:=jC h;refine nq h R.gt λsg' w hG h=>?_
 (refine ckC h ?_;refine ckC h ?_;refine ckC h ?_)
 refine lJ h 2 rfl hox ?_
 (refine ckC h ?_;refine ckC h ?_)
 have hbu:((oX a.gt e.name).length:Int)+(Kc a.gt.all e.name).length=QS a.gt e.name:=rfl;rw[hbu];refine dO (c:=(XI a.bk e.name).2.2) h hw hl hc hcn (by dsimp only;omega) (by dsimp only;omega) (by dsimp only;omega) (by dsimp only;omega) λw h=>?_;rw[←hdd];clear hdd;generalize Fp a q.x e.name=d at *
 obtain⟨d1,d2⟩:=d;dsimp only at hd hk ⊢
 (refine nn ?_;refine stC h ?_;clear h;intro w h;dsimp only[zP,ze]at h)
 refine ZA (λ(z:Sl×Unit) w=>∃sv,Rw eS zd 1 z.1 [ZD (ZD jg [e.name]) [jY d1.toNat]] sv∧
  St w0 (sv::[Cl q.b JD [.pointer (some ⟨q.g,0,none⟩),I d1,I d2]]::q.sgg::((A++B).map BsE.sg).flatten::Uz b p a.now::sg'::sf::ss::sk::sr::sm::ZE E i) w) (λk7 hk7=>?_) ?_
 ·have fin:∀{w b2},St w0 ([Cl b2 zd [.string (ZD (ZD jg [e.name]) [jY d1.toNat])]]::sg'::[Cl q.b JD [.pointer (some ⟨q.g,0,none⟩),I d1,I d2]]::q.sgg::((A++B).map BsE.sg).flatten::[Cl b8 zK (rvC (XI a.bk e.name))]::[Cl b1 zT (eEw e)]::Uz b p a.now::sf::ss::sk::sr::sm::ZE E i) w→k7 (⟨some ⟨b2,0,none⟩,1,1⟩,()) w:=by
   intro w b2 h;refine hk7 _ w ⟨_,Rw.lit b2 [_] Yy rfl rfl (by simp[maxLen]),?_⟩;have h:=du (pc h);have h:=vf (vf (vf (vf (vf (Yx h)))));exact h
  have sz:(ZD jg [e.name]).size≤100000000:=by rw[uD];have:jg.size=5:=rfl;omega
  (refine dr h ?_;clear h;intro w h;refine ldC h ?_;refine nn ?_;refine ldC h ?_;rw[Xg])
  refine VO ?_ ?_
  ·refine nw h ?_;clear h;intro b41 w h
   (refine ckC h ?_)
   refine VO ?_ ?_
   ·refine qQ h (by decide) (by omega) λw h=>?_
    (refine ckC h ?_)
    refine nw h ?_;clear h;intro b43 w h
    (refine ckC h ?_)
    refine qg h sz hd.1 (by omega) λw h=>?_;refine nw h ?_;clear h;intro b45 w h;exact fin h
   ·refine nw h ?_;clear h;intro b46 w h
    (refine ckC h ?_)
    have h:=Yx h;refine qQ h (by decide) (by omega) λw h=>?_
    (refine ckC h ?_)
    refine qg h sz hd.1 (by omega) λw h=>?_;refine nw h ?_;clear h;intro b49 w h;exact fin h
  ·refine nw h ?_;clear h;intro b50 w h
   (refine ckC h ?_)
   refine nw h ?_;clear h;intro b51 w h
   (refine ckC h ?_)
   refine qQ h (by decide) (by omega) λw h=>?_
   (refine ckC h ?_)
   refine qg h sz hd.1 (by omega) λw h=>?_;refine nw h ?_;clear h;intro b54 w h;exact fin h
 clear h;rintro⟨z,⟨⟩⟩ w ⟨sv,r,h⟩;dsimp only at r ⊢;have et2:=Gg (rev:=e.name) (y:=⟨q.x.xs,d1,d2⟩) (sgg:=q.sgg) hxk (B:=B) (A:=A) (by simpa [List.map_map,Function.comp_def]using hmk);refine⟨z,rfl,hk z sv (aL b { a with by':=Zl a.by' e.name ⟨q.x.xs,d1,d2⟩ } p sg' sf ss sk sr sm (A++⟨q.k,q.b,q.g,⟨q.x.xs,d1,d2⟩,q.sgg⟩::B)) w r ⟨p,sg',sf,ss,sk,sr,sm,A++⟨q.k,q.b,q.g,⟨q.x.xs,d1,d2⟩,q.sgg⟩::B,⟨hG,R.fl,R.sh,R.bk,R.ro,?_,?_,?_⟩,rfl⟩ (Xb i hi ?_)⟩
 ·have:(A++(⟨q.k,q.b,q.g,⟨q.x.xs,d1,d2⟩,q.sgg⟩:BsE)::B).map BsE.kp=(A++q::B).map BsE.kp:=by simp
  rw[this];exact hmp
 ·intro y hy;rcases List.mem_append.1 hy with hy | hy
  ·exact ea y (by simp[hy])
  ·rcases List.mem_cons.1 hy with rfl | hy
   ·exact hox
   ·exact ea y (by simp[hy])
 ·rw[et2];show Zl a.by' e.name _=_;rw[hab]
 ·have h:=ZR (ZR h);have h:=h.glue;have h:=Yx (ZR h);have h:St w0 (BsE.sg ⟨q.k,q.b,q.g,⟨q.x.xs,d1,d2⟩,q.sgg⟩::((A++B).map BsE.sg).flatten::sv::Uz b p a.now::sg'::sf::ss::sk::sr::sm::ZE E i) w:=h;have h:=h.place;have h:=jB (jB (jB (jB (jB (jB (jB (jB h)))))));exact h
end Go.Proofs.YtimahgbgejngiaaGreatDoor
namespace Go.Proofs.YtimahgbgejngiaaGreatDoor
open Go.Dm
structure Jt(k:Nat)(a:Zc):Prop where
 fl:FlI k a.fl
 gt:GtI k a.gt
 sh:ShI k a.sh
 bk:BkI k a.bk
 ro:RoI k a.ro
 by':ByI k a.bk a.by'
 now:0≤a.now∧a.now≤1048576
structure SOk(a:Zc):Prop where
 fl:a.fl.Ok
 gt:a.gt.Ok
 sh:a.sh.Ok
 bk:a.bk.Ok
 ro:(a.ro.map (·.1)).Nodup
 nd:(a.bk.all.map (·.1)).Nodup
def Xu.ok{b:Nat}{a:Zc}{s:Seg}(h:Xu b a s):SOk a:=by
 obtain⟨p,sg,sf,ss,sk,sr,sm,Q,R,-⟩:=h;refine⟨R.fl.1,R.gt.1,R.sh.1,R.bk.1,?_,?_⟩
 ·obtain⟨r,sm,P,Q,hm,-,e,-⟩:=R.ro;rw[e];have:=hm.nd;simpa [List.map_map,Function.comp_def]using this
 ·obtain⟨-,rA,rP,sA,sP,hA,-⟩:=R.bk;exact hA.nd
def Jt.mono{k m:Nat}{a:Zc}(h:Jt k a)(hm:k≤m):Jt m a:=⟨h.fl.mono hm,h.gt.mono hm,h.sh.mono hm,h.bk.mono hm,λn x hx=>(h.ro n x hx).mono hm,h.by'.mono hm,h.now⟩
def LM{room line pat:Int}(h:Pe room line pat=true)(hr:room≤30):Jt 0 (jm room line pat):=by
 unfold Pe wiB at h;simp only[Bool.and_eq_true,decide_eq_true_eq]at h;obtain⟨⟨r1,r2⟩,⟨l1,l2⟩,p1,p2⟩:=h;refine⟨⟨⟨hr,?_,?_⟩,r1,Int.le_refl 0,?_,?_⟩,⟨Nat.le_refl _,?_,Nat.le_refl _,?_,?_,⟨p1,by show pat≤1000;omega⟩,l1,l2⟩,⟨Int.le_refl 0,?_,?_,?_⟩,⟨Nat.le_refl _,?_,?_⟩,?_,⟨?_,?_,?_,?_⟩,Int.le_refl 0,by show(0:Int)≤1048576;decide⟩
 ·show((0:Nat):Int)≤max room 0;omega
 all_goals first | (intro x hx;cases hx;done) | skip
 intro n x h;cases h
def ZS(a:Zc)(e:AEv):Zc×List B0:=
 if Zw e≠0 then(a,[ZD wD [Fw (Zw e)]])
 else if e.kind=1 then uy a e else if e.kind=2 then me a e else if e.kind=3 then PW a e else if e.kind=4 then Xz a e else if e.kind=5 then PX a e else if e.kind=6 then wc a e
 else if e.kind=9 then UE a else if e.kind=10 then Qk a e else if e.kind=11 then PV a e else if e.kind=12 then uI a e else if e.kind=13 then qZ a e else FK a e
def cY{e:AEv}(h:Zw e=0):(shp e.kind).2=true∧WZ (shp e.kind).1 e=0:=by
 unfold Zw at h;split at h
 ·cases h
 ·rename_i h1;exact⟨by simpa using h1,h⟩
def ot{e:AEv}(h:Zw e=0):((shp e.kind).1.1=true→Nc e=true)∧((shp e.kind).1.2.1=true→GO e=true)∧((shp e.kind).1.2.2.2.1=true→wiB e.draw 0 2147483647=true)∧((shp e.kind).1.2.2.2.2.1=true→qq e.c=0)∧((shp e.kind).1.2.2.2.2.2.1=true→(shp e.kind).1.2.2.2.2.1=false→mo e.r=0):=by
 have h:=(cY h).2;generalize (shp e.kind).1=s at h ⊢;obtain⟨s1,s2,s3,s4,s5,s6,⟨⟩⟩:=s;unfold WZ at h;dsimp only at h ⊢;split at h
 ·cases h
 ·split at h
  ·cases h
  ·rename_i h1;split at h
   ·cases h
   ·rename_i h2;split at h
    ·cases h
    ·split at h
     ·cases h
     ·rename_i h3;refine⟨λe1=>?_,λe1=>?_,λe1=>?_,λe1=>?_,λe1 e2=>?_⟩
      ·cases hn:Nc e with
       | true=>rfl
       | false=>exact absurd ⟨e1,hn⟩ h1
      ·cases hn:GO e with
       | true=>rfl
       | false=>exact absurd ⟨e1,hn⟩ h2
      ·cases hn:wiB e.draw 0 2147483647 with
       | true=>rfl
       | false=>exact absurd ⟨e1,hn⟩ h3
      ·rw[if_pos e1]at h;exact h
      ·rw[if_neg (by simp[e2]),if_pos e1]at h;exact h
def dc{e:AEv}(h:Zw e=0):e.kind=1∨e.kind=2∨e.kind=3∨e.kind=4∨e.kind=5∨e.kind=6∨e.kind=7∨e.kind=8∨e.kind=9∨e.kind=10∨e.kind=11∨e.kind=12∨e.kind=13:=by
 have h:=(cY h).1;unfold shp at h
 repeat' (split at h)
 all_goals first | omega | (cases h;done)
def dw{e:AEv}(h:Zw e=0)(hk:e.kind=4∨e.kind=5∨e.kind=6∨e.kind=7∨e.kind=8):idB e.n∧1≤e.n:=by
 have h1:=(ot h).1 (by rcases hk with e | e | e | e | e<;>rw[e]<;>rfl);unfold Nc wiB at h1;rw[if_neg (by omega),if_neg (by omega)]at h1;simp only[Bool.and_eq_true,decide_eq_true_eq]at h1;exact⟨⟨by omega,h1.2⟩,h1.1⟩
def DY{e:AEv}(h:Zw e=0)(hk:e.kind=12∨e.kind=13):Ti e.name:=by
 have h1:=(ot h).2.1 (by rcases hk with e | e<;>rw[e]<;>rfl);unfold GO at h1;rw[if_pos hk]at h1;exact gS.1 h1
def WY{e:AEv}(h:Zw e=0)(hk:e.kind=4):0≤e.draw∧e.draw≤2147483647:=by
 have h1:=(ot h).2.2.1 (by rw[hk];rfl);unfold wiB at h1;simpa using h1
def Am{e:AEv}(h:Zw e=0)(hk:e.kind=1):qq e.c=0:=(ot h).2.2.2.1 (by rw[hk];rfl)
def dg{k:Nat}{a:Zc}(ok:SOk a)(h:Jt k a)(e:AEv):Jt (k+1) (uy a e).1:=
 ⟨h.fl.mono (Nat.le_succ k),h.gt.mono (Nat.le_succ k),nI ok.sh h.sh e.c e.n,h.bk.mono (Nat.le_succ k),λn x hx=>(h.ro n x hx).mono (Nat.le_succ k),h.by'.mono (Nat.le_succ k),h.now⟩
def dh{k:Nat}{a:Zc}(ok:SOk a)(h:Jt k a){e:AEv}(he:idB e.n):Jt (k+1) (Xz a e).1:=by
 have hg:=WI ok.gt h.fl h.gt he (bnd a e) a.now;have h1:Jt (k+1) { a with fl:=(arG a e).1,gt:=(arG a e).2.1 }:=⟨hg.1.mono (Nat.le_succ k),hg.2,h.sh.mono (Nat.le_succ k),h.bk.mono (Nat.le_succ k),λn x hx=>(h.ro n x hx).mono (Nat.le_succ k),h.by'.mono (Nat.le_succ k),h.now⟩;unfold Xz;split
 ·rename_i x hx;have hm:(bnd a e,x)∈a.by':=by
   unfold wW at hx;split at hx
   ·rename_i y hy;split at hx
    ·cases hx;exact jX hy
    ·cases hx
   ·cases hx
  refine⟨h1.fl,h1.gt,h1.sh,h1.bk,h1.ro,?_,h1.now⟩;exact h1.by'.set (h1.by'.xs _ hm) (h1.by'.rng _ hm) ⟨⟨by show(0:Int)≤1;decide,by show(1:Int)≤10;decide⟩,(h1.by'.want _ hm).2⟩
 ·exact h1
def lb{a:Yk}(nd:(a.all.map (·.1)).Nodup):(Kl a).Nodup:=(qE _).nodup_iff.2 nd
def Wx{k:Nat}{a:Zc}(ok:SOk a)(nd:(a.bk.all.map (·.1)).Nodup)(h:Jt k a)(hk:k≤10000):Jt (k+1) (UE a).1:=by
 have hg:=GW ok.gt h.gt (a.now+1);have hG:(tkG a).1.Ok:=by
  have:=GF (m:=a.gt.all.length) (n:=a.gt.lines.length) (now:=a.now+1) (r:=a.gt.room) (ks:=Yc (a.gt.lines.map (·.1))) (G:=a.gt) (out:=[]) ⟨Nat.le_refl _,h.gt.ids,Nat.le_refl _,h.gt.lid,h.gt.wk,ok.gt⟩ rfl (λk hk=>by
   cases h4:zD a.gt.lines k with
   | none=>rw[yV]at h4;exact absurd (KY.1 hk) h4
   | some v=>rfl) (by simp)
  exact this.1.ok
 unfold UE;split
 ·exact h.mono (Nat.le_succ k)
 ·rename_i hc;refine⟨h.fl.mono (Nat.le_succ k),hg.1.mono (Nat.le_succ k),h.sh.mono (Nat.le_succ k),h.bk.mono (Nat.le_succ k),λn x hx=>(h.ro n x hx).mono (Nat.le_succ k),?_,?_⟩
  ·exact ByI.tick (λrev=>(LZ hG hg.1 (by omega) rev).2) (lb nd) h.by'.has (λx hx _=>h.by'.xs x hx) (λx hx=>Nat.le_succ_of_le (h.by'.xs x hx)) h.by'.rng h.by'.want
  ·have:=h.now;dsimp only;omega
def fQ{k:Nat}{a:jn}(ok:a.Ok)(h:ShI k a){n:B0}(hi:(Yl a n).2.2.2.1=true):qq (Yl a n).1=0∧1≤@id Int (Yl a n).2.2.1∧@id Int (Yl a n).2.2.1≤a.n:=by
 unfold Yl at hi ⊢;split
 ·rename_i h1;have:=h.cfg n h1;exact⟨this.2.1,this.2.2,(ok.gen n).2⟩
 ·rename_i h1;rw[if_neg h1]at hi
  cases hi
def Nk{k:Nat}{a:Zc}(ok:SOk a)(h:Jt k a)(hn:a.sh.n<100)(e:AEv):Jt (k+1) (Qk a e).1:=by
 have hm:=h.mono (Nat.le_succ k);unfold Qk;split
 ·exact hm
 ·rename_i h1;have hc:=fQ ok.sh h.sh (n:=e.name) (by simpa using h1);split
  ·exact hm
  ·have hb:=h.bk.stamp (c:=(Yl a.sh e.name).1) hc.1 (g:=(@id Int (Yl a.sh e.name).2.2.1).toNat) (by omega) (by omega);have hw:=(xB hc.1).2.2.2;split
   ·rename_i h3;refine⟨hm.fl,hm.gt,hm.sh,hb,hm.ro,hm.by'.book ?_,hm.now⟩;dsimp only[stp]at h3 ⊢;unfold Jp at h3 ⊢;split
    ·rfl
    ·rename_i h4;rw[if_neg h4]at h3;cases h3
   ·rename_i h3;refine⟨hm.fl,hm.gt,hm.sh,hb,hm.ro,⟨λp hp=>?_,?_,?_,?_⟩,hm.now⟩
    ·dsimp only[stp]at h3 hp ⊢;rw[XE];split
     ·rfl
     ·rename_i h5;unfold Jp at hp h5;split at hp
      ·exact h.by'.has p hp
      ·rename_i h6;rw[if_neg h6]at h5;rcases yR hp with rfl | hp
       ·exact absurd rfl h5
       ·exact h.by'.has p hp
    all_goals
     intro y hy;rcases yR hy with rfl | hy
    ·exact Nat.zero_le _
    ·exact hm.by'.xs y hy
    ·intro z hz;cases hz
    ·exact hm.by'.rng y hy
    ·refine⟨?_,Int.le_refl 0,by show(0:Int)≤1000;decide⟩;show 0≤Vd (Yl a.sh e.name).1∧Vd (Yl a.sh e.name).1≤10;unfold Vd;split<;>omega
    ·exact hm.by'.want y hy
def Wz{k:Nat}{a:Zc}(h:Jt k a)(e:AEv):Jt (k+1) (qZ a e).1:=by
 have hm:=h.mono (Nat.le_succ k);unfold qZ;split
 ·exact hm
 ·rename_i h1;have h1:YZ a.bk e.name=true:=by simpa using h1
  have hb:=XH h1;have hc:=(xB (h.bk.cfg _ hb)).2.2.1;refine⟨?_,hm.gt,hm.sh,hm.bk,hm.ro,hm.by',hm.now⟩;exact h.fl.scale (h.bk.rev _ hb) (Int.le_trans hc.2 (by decide)) _
def nL{w ready mi ma:Int}(h1:0≤mi)(h2:1≤ma∧ma≤10):0≤pW w ready mi ma∧pW w ready mi ma≤10:=by
 unfold pW;generalize mx2 (mn2 w (4*scM ready)) (ready/2)=x;unfold mn2 mx2;constructor<;>repeat' split
 all_goals omega
def CF{left b m:Int}(h:0≤left∧left≤1000):0≤uJ left b m∧uJ left b m≤1000:=by
 unfold uJ
 repeat' split
 all_goals omega
def TO{k:Nat}{a:Zc}(h:Jt k a){rev:B0}(hb:YZ a.bk rev=true){x:kH}(hx:0≤x.left∧x.left≤1000):(0≤(Fp a x rev).1∧(Fp a x rev).1≤10)∧(0≤(Fp a x rev).2∧(Fp a x rev).2≤1000):=by
 have hc:=(xB (h.bk.cfg _ (XH hb))).2.2.2;exact⟨nL hc.2.1.1 hc.1,CF hx⟩
def Nl{k:Nat}{a:Zc}(h:Jt k a)(e:AEv):Jt (k+1) (uI a e).1:=by
 have hm:=h.mono (Nat.le_succ k);unfold uI;split
 ·exact hm
 ·rename_i h1;have h1:YZ a.bk e.name=true:=by simpa using h1
  split
  ·exact hm
  ·rename_i x hx;have hxm:=jX hx;refine⟨hm.fl,hm.gt,hm.sh,hm.bk,hm.ro,hm.by'.set (hm.by'.xs _ hxm) (hm.by'.rng _ hxm) ?_,hm.now⟩;exact TO h h1 (hm.by'.want _ hxm).2
def nE{a:Zc}{e:AEv}(h:Zw e≠0):ZS a e=(a,[ZD wD [Fw (Zw e)]]):=by unfold ZS;rw[if_pos h]
def ta{a:Zc}{e:AEv}(h:Zw e=0)(hk:e.kind=1):ZS a e=uy a e:=by unfold ZS;rw[if_neg (by simp[h]),if_pos hk]
def Ll{a:Zc}{e:AEv}(h:Zw e=0)(hk:e.kind=2):ZS a e=me a e:=by unfold ZS;rw[if_neg (by simp[h]),if_neg (by omega),if_pos hk]
def Lk{a:Zc}{e:AEv}(h:Zw e=0)(hk:e.kind=3):ZS a e=PW a e:=by unfold ZS;rw[if_neg (by simp[h]),if_neg (by omega),if_neg (by omega),if_pos hk]
def PZ{a:Zc}{e:AEv}(h:Zw e=0)(hk:e.kind=4):ZS a e=Xz a e:=by unfold ZS;rw[if_neg (by simp[h]),if_neg (by omega),if_neg (by omega),if_neg (by omega),if_pos hk]
def Lj{a:Zc}{e:AEv}(h:Zw e=0)(hk:e.kind=5):ZS a e=PX a e:=by unfold ZS;rw[if_neg (by simp[h]),if_neg (by omega),if_neg (by omega),if_neg (by omega),if_neg (by omega),if_pos hk]
def Li{a:Zc}{e:AEv}(h:Zw e=0)(hk:e.kind=6):ZS a e=wc a e:=by unfold ZS;rw[if_neg (by simp[h]),if_neg (by omega),if_neg (by omega),if_neg (by omega),if_neg (by omega),if_neg (by omega),if_pos hk]
def Dw{a:Zc}{e:AEv}(h:Zw e=0)(hk:e.kind=7∨e.kind=8):ZS a e=FK a e:=by
 unfold ZS;rw[if_neg (by simp[h]),if_neg (by omega),if_neg (by omega),if_neg (by omega),if_neg (by omega),if_neg (by omega),if_neg (by omega),if_neg (by omega),if_neg (by omega),if_neg (by omega),if_neg (by omega),if_neg (by omega)]
def PY{a:Zc}{e:AEv}(h:Zw e=0)(hk:e.kind=9):ZS a e=UE a:=by unfold ZS;rw[if_neg (by simp[h]),if_neg (by omega),if_neg (by omega),if_neg (by omega),if_neg (by omega),if_neg (by omega),if_neg (by omega),if_pos hk]
def mh{a:Zc}{e:AEv}(h:Zw e=0)(hk:e.kind=10):ZS a e=Qk a e:=by unfold ZS;rw[if_neg (by simp[h]),if_neg (by omega),if_neg (by omega),if_neg (by omega),if_neg (by omega),if_neg (by omega),if_neg (by omega),if_neg (by omega),if_pos hk]
def wd{a:Zc}{e:AEv}(h:Zw e=0)(hk:e.kind=11):ZS a e=PV a e:=by unfold ZS;rw[if_neg (by simp[h]),if_neg (by omega),if_neg (by omega),if_neg (by omega),if_neg (by omega),if_neg (by omega),if_neg (by omega),if_neg (by omega),if_neg (by omega),if_pos hk]
def mg{a:Zc}{e:AEv}(h:Zw e=0)(hk:e.kind=12):ZS a e=uI a e:=by unfold ZS;rw[if_neg (by simp[h]),if_neg (by omega),if_neg (by omega),if_neg (by omega),if_neg (by omega),if_neg (by omega),if_neg (by omega),if_neg (by omega),if_neg (by omega),if_neg (by omega),if_pos hk]
def mf{a:Zc}{e:AEv}(h:Zw e=0)(hk:e.kind=13):ZS a e=qZ a e:=by unfold ZS;rw[if_neg (by simp[h]),if_neg (by omega),if_neg (by omega),if_neg (by omega),if_neg (by omega),if_neg (by omega),if_neg (by omega),if_neg (by omega),if_neg (by omega),if_neg (by omega),if_neg (by omega),if_pos hk]
end Go.Proofs.YtimahgbgejngiaaGreatDoor
namespace Go.Proofs.YtimahgbgejngiaaGreatDoor
open Go.Dm
attribute [local irreducible] L.load L.store L.chk L.new L.nonnil L.guard L.ite L.draw L.idx L.sem L.semR L.semU L.chkSem L.next L.call L.callV L.join L.alts L.loop L.begin L.endRound L.range
variable {w0 w:World}{E:List Seg}
def DA(rev:B0):∀{n:Nat}{F:zl},(shrink rev n F).1.last=F.last∧(shrink rev n F).1.room=F.room
 | 0,F=>⟨rfl,rfl⟩
 | n+1,F=>by simp only[shrink];exact DA rev (n:=n) (F:=Ue rev F)
def CE(F:zl)(rev:B0)(conc want:Int):(jD F rev conc want).1.room=F.room:=by
 unfold jD Jo;rw[(DA rev).2,oe]
def WC{F:zl}{rev:B0}{conc:Int}(n:Nat)(ok:F.Ok)(h1:F.l.length+n<100000000)(h2:F.last+n<4611686018427387904):(grow rev conc n F).Ok:=by
 induction n with
 | zero=>exact ok
 | succ n ih=>
  refine cN (ih (by omega) (by omega)) ?_ ?_
  ·rw[Ka];omega
  ·rw[og];omega
def fP{rev:B0}:∀{n:Nat}{F:zl},F.Ok→n≤ZW F.l rev→(∀x∈(shrink rev n F).2,0≤x∧x≤F.last)∧(shrink rev n F).2.length=n
 | 0,F,_,_=>⟨(by intro x hx;cases hx),rfl⟩
 | n+1,F,ok,h=>by
  have h1:=PE ok (rev:=rev) (by omega);have h2:=Gd ok (rev:=rev) (by omega);obtain⟨a,b⟩:=fP (rev:=rev) (n:=n) h1 (by omega);obtain⟨y,hy,-,-⟩:=oa (rev:=rev) ok (by omega);obtain⟨hm,hid⟩:=qT hy;have hr:=ok.rng y hm;simp only[shrink];refine⟨λx hx=>?_,by rw[List.length_cons,b]⟩;rcases List.mem_cons.1 hx with rfl | hx
  ·rw[←hid];omega
  ·exact a x hx
def mu{F:zl}(ok:F.Ok){rev:B0}{conc want:Int}(hl:(F.l.length:Int)≤1000)(hr:F.room≤1000)(hla:F.last≤1000000000):(∀x∈(jD F rev conc want).2,0≤x∧x≤F.last+1000)∧(jD F rev conc want).2.length≤2000:=by
 have hn:=Kb F rev want;have okg:(Jo F rev conc want).Ok:=WC _ ok (by omega) (by omega);have hsn:XV (Jo F rev conc want) rev want≤ZW (Jo F rev conc want).l rev:=by
  have:=CB (Jo F rev conc want) rev want;omega
 have hs:=fP okg hsn;have hll:(Jo F rev conc want).last=F.last+XG F rev want:=og ..;have hcl:=om (Jo F rev conc want).l (rev:=rev);have hgl:(Jo F rev conc want).l.length=F.l.length+XG F rev want:=Ka ..;unfold jD;refine⟨λx hx=>?_,?_⟩
 ·have:=hs.1 x hx;omega
 ·rw[hs.2];omega
def dT [jF w0](h:St w0 E w)(i:Nat){b:Nat}{a:Zc}{s:Seg}(hi:nth E i=some s)(hs:Xu b a s){e:AEv}(hn:YZ a.bk e.name=false){k:Sl→PT}(hk:Hk w0 E i b (qZ a e) k):Yp (some ⟨b,0,none⟩) e.t (slK k) w:=by
 have hs0:=hs;obtain⟨p,sg,sf,ss,sk,sr,sm,Q,R,rfl⟩:=hs;unfold Yp;unfold qZ at hk;have h:=(h.front i hi).split8;refine nw h ?_;clear h;intro b1 w h;refine ZA (λ(z:Addr×Bool×Unit) w=>∃b8:Nat,z=(⟨b8,0,none⟩,YZ a.bk e.name,())∧St w0 (Uz b p a.now::sg::sf::ss::sk::sr::sm::(Q.map BsE.sg).flatten::ZE E i) w) (λk2 hk2=>?_) ?_
 ·(dsimp only[ze,List.cons_append,List.nil_append]at h;refine dr h ?_;clear h;intro w h;refine nn ?_;refine ldC h ?_;refine ldC h ?_)
  refine VO ?_ ?_
  ·refine ow h 5 rfl R.bk λw h=>?_;refine nw h ?_;clear h;intro b8 w h
   (refine ckC h ?_;refine ckC h ?_;refine stC h ?_;clear h;intro w h;dsimp only[zP,ze]at h)
   exact hk2 _ w ⟨b8,rfl,zy (zy h)⟩
  ·refine nw h ?_;clear h;intro b8 w h
   (refine ckC h ?_;refine ckC h ?_)
   refine ow h 6 rfl R.bk λw h=>?_
   (refine stC h ?_;clear h;intro w h;dsimp only[zP,ze]at h)
   exact hk2 _ w ⟨b8,rfl,zy (zy h)⟩
 clear h;rintro z w ⟨b8,rfl,h⟩
 (try dsimp only)
 refine itT (by simp[hn]) ?_;rw[if_pos hn]at hk;refine uF h λv s w r h=>?_;exact⟨v,rfl,hk v s _ w r hs0 (Xb i hi h)⟩
structure Ck(w0:World)(E:List Seg)(i:Nat)(e:AEv):Prop where
 rd:RdE w0 (ZE E i) eT e.v e.r.ts
 hvc:e.v.len≤e.v.cap
 h0:e.v.a=none→e.r.ts = []
 hrv:∀t∈e.r.ts,QO t.1
 hn:e.kind=12∨e.kind=13→e.name.size≤1000000
abbrev HkI(w0:World)(E:List Seg)(i b k0:Nat)(r:Zc×List B0)(k:Sl→PT):Prop:=
 ∀v sv s' w',Rw eS zd 1 v r.2 sv→Xu b r.1 s'→Jt k0 r.1→St w0 (sv::ze E i s') w'→k v w'
def Aw [jF w0](h:St w0 E w)(i:Nat){b:Nat}{a:Zc}{s:Seg}(hi:nth E i=some s)(hs:Xu b a s){e:AEv}(hb:Zw e=0)(hc:e.kind=1)(ev:Ck w0 E i e){k0:Nat}(inv:Jt k0 a)(hk0:k0≤9000)(hn:a.sh.n<99){k:Sl→PT}(hk:HkI w0 E i b (k0+2) (ZS a e) k) :
  L.call Pr zJ [pO b,evV e] (.one (.one .slice)) k w:=by
 have ok:=hs.ok;have rd':RdE w0 E eT e.v e.r.ts:=λw h=>ev.rd w (h.del i hi);have i2:Jt (k0+2) (ZS a e).1:=by rw[ta hb hc];exact(dg ok inv e).mono (Nat.le_succ _)
 have hkk:Hk w0 E i b (ZS a e) k:=λv sv s' w' r hs' h=>hk v sv s' w' r hs' i2 h;clear hk;have hlast:=inv.fl.last;have hlen:=inv.fl.few.l;have hroom:=inv.fl.few.r;unfold xS at hroom;have hall:=inv.gt.all;have hlines:=inv.gt.lines;have hgr:=inv.gt.room;have hpat:=inv.gt.pat;have hnow:=inv.now;have hbl:=inv.bk.len;have hr1:=inv.fl.r1;have rn:=ev.hn;rw[ta hb hc]at hkk;exact dW h i hi hs hc hb rd' ev.hvc ev.hrv (by omega) (by have:=Vg (xB (Am hb hc)).1;omega) hkk
def Av [jF w0](h:St w0 E w)(i:Nat){b:Nat}{a:Zc}{s:Seg}(hi:nth E i=some s)(hs:Xu b a s){e:AEv}(hb:Zw e=0)(hc:e.kind=4)(ev:Ck w0 E i e){k0:Nat}(inv:Jt k0 a)(hk0:k0≤9000)(hn:a.sh.n<99){k:Sl→PT}(hk:HkI w0 E i b (k0+2) (ZS a e) k) :
  L.call Pr zJ [pO b,evV e] (.one (.one .slice)) k w:=by
 have ok:=hs.ok;have rd':RdE w0 E eT e.v e.r.ts:=λw h=>ev.rd w (h.del i hi);have i2:Jt (k0+2) (ZS a e).1:=by rw[PZ hb hc];exact(dh ok inv (dw hb (by omega)).1).mono (Nat.le_succ _)
 have hkk:Hk w0 E i b (ZS a e) k:=λv sv s' w' r hs' h=>hk v sv s' w' r hs' i2 h;clear hk;have hlast:=inv.fl.last;have hlen:=inv.fl.few.l;have hroom:=inv.fl.few.r;unfold xS at hroom;have hall:=inv.gt.all;have hlines:=inv.gt.lines;have hgr:=inv.gt.room;have hpat:=inv.gt.pat;have hnow:=inv.now;have hbl:=inv.bk.len;have hr1:=inv.fl.r1;have rn:=ev.hn;rw[PZ hb hc]at hkk;have hid:=(dw hb (by omega)).1;have hd:=WY hb hc;refine dX h i hi hs hc hb rd' ev.hvc ev.hrv (by omega) (λx hx=>(inv.ro _ x hx).ok (by omega)) ?_ inv.fl.few (by omega) (by omega) (by omega) (Nq (by omega) ok.fl inv.fl hid _ _) ?_ hkk
 ·unfold VH
  cases hg:zD a.ro e.name with
  | none=>intro s hs;cases hs
  | some x=>exact(inv.ro _ x hg).ns
 ·unfold bnd;split
  ·decide
  ·cases hg:zD a.ro e.name with
   | none=>rename_i hh;rw[hg]at hh;exact absurd rfl hh
   | some x=>
    have w:=inv.ro _ x hg;split
    ·unfold Dv VH;rw[hg];have:∀(l:List Shr)(d:Int),(∀s∈l,s.1.size≤100)→(gL l d).size≤100:=by
      intro l
      induction l with
      | nil=>intro d _;show s_.size≤100;decide
      | cons s l ih=>
       intro d hl;unfold gL;split
       ·exact hl s (by simp)
       ·exact ih _ λy hy=>hl y (by simp[hy])
     have:=this x.ns (e.draw%100) w.zn;dsimp only;omega
    ·unfold VH;rw[hg];have:∀(l:List Tgo),(∀s∈l,s.1.size≤100∧s.2.1.size≤100)→(MX l e.tag).1.size≤100:=by
      intro l
      induction l with
      | nil=>intro _;show s_.size≤100;decide
      | cons s l ih=>
       intro hl;unfold MX;split
       ·exact(hl s (by simp)).2
       ·exact ih λy hy=>hl y (by simp[hy])
     have:=this x.ng w.zg;dsimp only;omega
def Au [jF w0](h:St w0 E w)(i:Nat){b:Nat}{a:Zc}{s:Seg}(hi:nth E i=some s)(hs:Xu b a s){e:AEv}(hb:Zw e=0)(hc:e.kind=9)(ev:Ck w0 E i e){k0:Nat}(inv:Jt k0 a)(hk0:k0≤9000)(hn:a.sh.n<99){k:Sl→PT}(hk:HkI w0 E i b (k0+2) (ZS a e) k) :
  L.call Pr zJ [pO b,evV e] (.one (.one .slice)) k w:=by
 have ok:=hs.ok;have rd':RdE w0 E eT e.v e.r.ts:=λw h=>ev.rd w (h.del i hi);have i2:Jt (k0+2) (ZS a e).1:=by rw[PY hb hc];exact(Wx ok ok.nd inv (by omega)).mono (Nat.le_succ _)
 have hkk:Hk w0 E i b (ZS a e) k:=λv sv s' w' r hs' h=>hk v sv s' w' r hs' i2 h;clear hk;have hlast:=inv.fl.last;have hlen:=inv.fl.few.l;have hroom:=inv.fl.few.r;unfold xS at hroom;have hall:=inv.gt.all;have hlines:=inv.gt.lines;have hgr:=inv.gt.room;have hpat:=inv.gt.pat;have hnow:=inv.now;have hbl:=inv.bk.len;have hr1:=inv.fl.r1;have rn:=ev.hn;rw[PY hb hc]at hkk;have hg:=GW ok.gt inv.gt (a.now+1);refine lM h i hi hs hc hb rd' ev.hvc ev.hrv hnow.1 inv.gt.wk (by have:=hg.2.2;unfold tkG;omega) hg.2.1 (λrev hr=>?_) (λx hx=>by have:=inv.by'.xs x hx;omega) (by omega) hkk;have:=inv.by'.has _ (XH (NA hr));exact this
def Bh [jF w0](h:St w0 E w)(i:Nat){b:Nat}{a:Zc}{s:Seg}(hi:nth E i=some s)(hs:Xu b a s){e:AEv}(hb:Zw e=0)(hc:e.kind=10)(ev:Ck w0 E i e){k0:Nat}(inv:Jt k0 a)(hk0:k0≤9000)(hn:a.sh.n<99){k:Sl→PT}(hk:HkI w0 E i b (k0+2) (ZS a e) k) :
  L.call Pr zJ [pO b,evV e] (.one (.one .slice)) k w:=by
 have ok:=hs.ok;have rd':RdE w0 E eT e.v e.r.ts:=λw h=>ev.rd w (h.del i hi);have i2:Jt (k0+2) (ZS a e).1:=by rw[mh hb hc];exact(Nk ok inv (by omega) e).mono (Nat.le_succ _)
 have hkk:Hk w0 E i b (ZS a e) k:=λv sv s' w' r hs' h=>hk v sv s' w' r hs' i2 h;clear hk;have hlast:=inv.fl.last;have hlen:=inv.fl.few.l;have hroom:=inv.fl.few.r;unfold xS at hroom;have hall:=inv.gt.all;have hlines:=inv.gt.lines;have hgr:=inv.gt.room;have hpat:=inv.gt.pat;have hnow:=inv.now;have hbl:=inv.bk.len;have hr1:=inv.fl.r1;have rn:=ev.hn;rw[mh hb hc]at hkk;refine NM h i hi hs hc hb rd' ev.hvc ev.hrv (λhh=>?_) (by omega) hkk;have hs:=fQ ok.sh inv.sh hh;have hnum:=xB hs.1;exact⟨hnum.1,hs.2.1,by omega,by omega⟩
def Bg [jF w0](h:St w0 E w)(i:Nat){b:Nat}{a:Zc}{s:Seg}(hi:nth E i=some s)(hs:Xu b a s){e:AEv}(hb:Zw e=0)(hc:e.kind=12)(ev:Ck w0 E i e){k0:Nat}(inv:Jt k0 a)(hk0:k0≤9000)(hn:a.sh.n<99){k:Sl→PT}(hk:HkI w0 E i b (k0+2) (ZS a e) k) :
  L.call Pr zJ [pO b,evV e] (.one (.one .slice)) k w:=by
 have ok:=hs.ok;have rd':RdE w0 E eT e.v e.r.ts:=λw h=>ev.rd w (h.del i hi);have i2:Jt (k0+2) (ZS a e).1:=by rw[mg hb hc];exact(Nl inv e).mono (Nat.le_succ _)
 have hkk:Hk w0 E i b (ZS a e) k:=λv sv s' w' r hs' h=>hk v sv s' w' r hs' i2 h;clear hk;have hlast:=inv.fl.last;have hlen:=inv.fl.few.l;have hroom:=inv.fl.few.r;unfold xS at hroom;have hall:=inv.gt.all;have hlines:=inv.gt.lines;have hgr:=inv.gt.room;have hpat:=inv.gt.pat;have hnow:=inv.now;have hbl:=inv.bk.len;have hr1:=inv.fl.r1;have rn:=ev.hn;rw[mg hb hc]at hkk;have hnm:=(DY hb (.inl hc)).size;refine MB h i hi hs hb rn rd' ev.hvc ev.hrv (f:=yn) (by rw[hc];rfl) ke (ki (some ⟨b,0,none⟩) e.t) (λh hi _ hk=>dN h _ hi hs (by omega) (λhh=>inv.by'.has _ (XH hh)) (λx hx=>?_) (λhh=>?_) ?_ hk) hkk
 ·have hm:=jX hx;have hw:=inv.by'.want _ hm;refine⟨⟨⟨hw.1.1,by have:=hw.1.2;dsimp only at this;omega⟩,hw.2,inv.by'.rng _ hm,by have:=inv.by'.xs _ hm;dsimp only at this;omega⟩,?_⟩;by_cases hh:YZ a.bk e.name=true
  ·have:=(TO inv hh hw.2).1;dsimp only at this;omega
  ·have e1:XI a.bk e.name=GN:=by
    unfold YZ at hh;unfold XI
    cases hg:zD a.bk.all e.name with
    | none=>rfl
    | some v=>rw[hg]at hh;exact absurd rfl hh
   have e2:(XI a.bk e.name).2.2.2.2.2.1=(0:Int)∧(XI a.bk e.name).2.2.2.2.2.2.1=(0:Int):=by rw[e1];exact⟨rfl,rfl⟩
   unfold Fp pX pW;rw[e2.1,e2.2];generalize mx2 (mn2 _ _) _=y;unfold mn2 mx2;constructor<;>repeat' split
   all_goals omega
 ·have hc2:=(xB (inv.bk.cfg _ (XH hh))).2.2.1;exact⟨Int.le_trans (by decide) hc2.1,Int.le_trans hc2.2 (by decide)⟩
 ·unfold JV;rw[List.length_map];have:(revs a.fl.l e.name).length≤a.fl.l.length:=List.length_filter_le ..;omega
def Bf [jF w0](h:St w0 E w)(i:Nat){b:Nat}{a:Zc}{s:Seg}(hi:nth E i=some s)(hs:Xu b a s){e:AEv}(hb:Zw e=0)(hc:e.kind=13)(ev:Ck w0 E i e){k0:Nat}(inv:Jt k0 a)(hk0:k0≤9000)(hn:a.sh.n<99){k:Sl→PT}(hk:HkI w0 E i b (k0+2) (ZS a e) k) :
  L.call Pr zJ [pO b,evV e] (.one (.one .slice)) k w:=by
 have ok:=hs.ok;have rd':RdE w0 E eT e.v e.r.ts:=λw h=>ev.rd w (h.del i hi);have i2:Jt (k0+2) (ZS a e).1:=by rw[mf hb hc];exact(Wz inv e).mono (Nat.le_succ _)
 have hkk:Hk w0 E i b (ZS a e) k:=λv sv s' w' r hs' h=>hk v sv s' w' r hs' i2 h;clear hk;have hlast:=inv.fl.last;have hlen:=inv.fl.few.l;have hroom:=inv.fl.few.r;unfold xS at hroom;have hall:=inv.gt.all;have hlines:=inv.gt.lines;have hgr:=inv.gt.room;have hpat:=inv.gt.pat;have hnow:=inv.now;have hbl:=inv.bk.len;have hr1:=inv.fl.r1;have rn:=ev.hn;rw[mf hb hc]at hkk;have hnm:=DY hb (.inr hc);by_cases hh:YZ a.bk e.name=true
 ·have hc2:=(xB (inv.bk.cfg _ (XH hh))).2.2.1;have hcc:qH a e.name≤1000:=Int.le_trans hc2.2 (by decide);have hsc:=inv.fl.scale hnm hcc (YD a e.name);have hgl:=hsc.few.l;have hgr2:(jD a.fl e.name (qH a e.name) (YD a e.name)).1.room=a.fl.room:=CE ..;have hgo:=mu ok.fl (rev:=e.name) (conc:=qH a e.name) (want:=YD a e.name) (by omega) (by omega) (by omega);refine lN h i hi hs hc hnm hb rd' ev.hvc ev.hrv (by omega) (by omega) (by have:=hnm.size;omega) (λx hx=>?_) ?_ (λx hx=>?_) ?_ ?_ hkk
  ·unfold UL at hx;obtain⟨j,hj,rfl⟩:=List.mem_map.1 hx;rw[List.mem_range]at hj;have:=Kb a.fl e.name (YD a e.name);have:=ok.fl.lo;omega
  ·unfold UL;rw[List.length_map,List.length_range];have:=Kb a.fl e.name (YD a e.name);omega
  ·have:=hgo.1 x hx;omega
  ·have:=hgo.2;omega
  ·unfold JV;rw[List.length_map];have:(revs (cj a e.name).l e.name).length≤(cj a e.name).l.length:=List.length_filter_le ..;unfold cj at this ⊢;omega
 ·exact MB h i hi hs hb rn rd' ev.hvc ev.hrv (f:=yd) (by rw[hc];rfl) QE (QF (some ⟨b,0,none⟩) e.t) (λh hi _ hk=>dT h _ hi hs (by simpa using hh) hk) hkk
class Kn(w0:World)(ks:Int→Bool):Prop where
 dos:∀{E:List Seg}{w:World},St w0 E w→∀(i:Nat){b:Nat}{a:Zc}{s:Seg},nth E i=some s→Xu b a s→∀{e:AEv},ks e.kind=true→Zw e=0→Ck w0 E i e→∀{k0:Nat},Jt k0 a→k0≤9000→a.sh.n<99→∀{k:Sl→PT},HkI w0 E i b (k0+2) (ZS a e) k→
  L.call Pr zJ [pO b,evV e] (.one (.one .slice)) k w
def At{ks:Int→Bool}[K:Kn w0 ks](h:St w0 E w)(i:Nat){b:Nat}{a:Zc}{s:Seg}(hi:nth E i=some s)(hs:Xu b a s){e:AEv}(hks:ks e.kind=true)(hb:Zw e=0)(ev:Ck w0 E i e){k0:Nat}(inv:Jt k0 a)(hk0:k0≤9000)(hn:a.sh.n<99){k:Sl→PT}(hk:HkI w0 E i b (k0+2) (ZS a e) k) :
  L.call Pr zJ [pO b,evV e] (.one (.one .slice)) k w:=K.dos h i hi hs hks hb ev inv hk0 hn hk
end Go.Proofs.YtimahgbgejngiaaGreatDoor
namespace Go.Proofs.YtimahgbgejngiaaGreatDoor
open Go.Dm
def cW(k:Int):Cfg:=(TP,k,1,0,1,0,())
structure GI(a:Zc)(ver gen:Nat)(last:Int):Prop where
 n:a.sh.n=ver
 sh:(ver=0∧gen=0∧last = -1∧(jk a.sh.m TP).is=false∧(jk a.sh.m TP).gen=0)∨(0<ver∧0≤last∧0<gen∧jk a.sh.m TP=TE (cW last) ver gen true)
 gl:gen≤ver
 bk:∀g,1≤g→g<100→(YZ a.bk (xb TP g)=true↔g≤gen)
 len:a.bk.all.length=gen
end Go.Proofs.YtimahgbgejngiaaGreatDoor
namespace Go.Proofs.YtimahgbgejngiaaGreatDoor
open Go.Dm
attribute [local irreducible] L.load L.store L.chk L.new L.nonnil L.guard L.ite L.draw L.idx L.sem L.semR L.semU L.chkSem L.next L.call L.callV L.join L.alts L.loop L.begin L.endRound L.range
variable {w0 w:World}{E:List Seg}
def eEv(e:AEv):List Value:=[I e.kind,.string e.name,.string e.tag,I e.n,I e.draw,.string e.c.1,I e.c.2.1,I e.c.2.2.1,I e.c.2.2.2.1,I e.c.2.2.2.2.1,I e.c.2.2.2.2.2.1,.string e.r.name,.string e.r.cfg,.slice e.v.a e.v.len e.v.cap,I e.r.roll]
abbrev evW(x:EvT):Value:=.agg #[.int .i64 x.1,.string x.2.1,.string x.2.2.1,.int .i64 x.2.2.2.1,.int .i64 x.2.2.2.2.1,.string x.2.2.2.2.2.1,.int .i64 x.2.2.2.2.2.2.1,.int .i64 x.2.2.2.2.2.2.2.1,.int .i64 x.2.2.2.2.2.2.2.2.1,.int .i64 x.2.2.2.2.2.2.2.2.2.1,.int .i64 x.2.2.2.2.2.2.2.2.2.2.1,.string x.2.2.2.2.2.2.2.2.2.2.2.1,.string x.2.2.2.2.2.2.2.2.2.2.2.2.1,.slice x.2.2.2.2.2.2.2.2.2.2.2.2.2.1.a x.2.2.2.2.2.2.2.2.2.2.2.2.2.1.len x.2.2.2.2.2.2.2.2.2.2.2.2.2.1.cap,.int .i64 x.2.2.2.2.2.2.2.2.2.2.2.2.2.2.1]
abbrev bw:List Lf:=[.int .i64,.str,.str,.int .i64,.int .i64,.str,.int .i64,.int .i64,.int .i64,.int .i64,.int .i64,.str,.str,.slice,.int .i64]
end Go.Proofs.YtimahgbgejngiaaGreatDoor
namespace Go.Dm
section
variable {P:Program}{D:Tb}{a:AT}{c:Act}{w:World}{Q:Exit→Act→World→Prop}{ro:Option Nat}
def gJ(T:Jq P D){K:AT→PT}{N id:Nat}{sm:Bool}{ops:Array Oper}{ds:List Deferred}(hin:inB N (.region id ops false)=true)(h:qU P D ops.toList ⟨ZV ops.toList,sm⟩ (Ya 0 ops.toList) a K w)
  (hok:ok a c) (hN:c.tmps.size=N) (hds:c.defers=ds)
  (hQ:∀a' c' w',K a' w'→ok a' c'→c'.tmps.size=N→c'.defers=ds→Q .normal c' w'):(Code.region id ops false).wpIn (FR ro) 0 P Q c w:=by
 refine wpIn_region ?_
 have:=fe (ro:=ro) T (Q:=Q) (Fr:=λ_=>True) (λ_ _ _ _ _ _=>trivial) (λc w ⟨a,hk,ho,hn,hd⟩ _=>hQ a c w hk ho hn hd) (Ya 0 ops.toList) a c w trivial
  (λx hx=>by have:=(jP _ _ _ hx).2;rw[Nat.sub_zero,Array.getElem?_toList]at this;exact this)
  (λx hx=>by have:=(jP _ _ _ hx).2;rw[Nat.sub_zero,Array.getElem?_toList]at this;exact FS hin _ _ this) h hok hN hds
 rw[Pd]at this;simpa using this
def nQ(T:Jq P D){K0:AT→PT}{K:AT→FuncId→Array Value→Array Value→PT}{N id t:Nat}{mk df:Oper}{ct:Call}{ds:List Deferred}(hin:inB N (.region id #[mk,df] false)=true)
  (hdf:df.op = .defer ct) (hct:ct.callee = .value (.tmp t)) (hca:ct.args = #[]) (hdd:df.dst=none) (hg:df.guard=none) (hmg:mk.guard=none)
  (h:za P D mk a K0 w) (hK:∀a' w',K0 a' w'→∃f fs cs,a'.get t=some (.v (.func (.func f) fs cs))∧K a' f fs cs w') (hmd:Dst mk c) (hok:ok a c) (hN:c.tmps.size=N) (hds:c.defers=ds)
  (hQ:∀a' c' w' f fs cs,K a' f fs cs w'→ok a' c'→c'.tmps.size=N→c'.defers = { target:=.fn (.func f) cs,args:=fs } :: ds→Q .normal c' w'):(Code.region id #[mk,df] false).wpIn (FR none) 0 P Q c w:=by
 refine wpIn_region ?_;have e2:List.range (#[mk,df]:Array Oper).size = [0,1]:=rfl;rw[e2];simp only[wpOpsIn];have w0:∀ys,Region.wanted mk ys=true:=λys=>by simp[Region.wanted,hmg]
 have w1:∀ys,Region.wanted df ys=true:=λys=>by simp[Region.wanted,hg]
 show(if Region.wanted mk _=true then _ else _);rw[if_pos (w0 _)];refine ue (mN h) ((Ge T hok hmd h).mono λc1 w1' hn=>?_);obtain⟨a',hk0,ho,hs,hd⟩:=hn;obtain⟨f,fs,cs,hv,hk⟩:=hK _ _ hk0;show(if Region.wanted df _=true then _ else _);rw[if_pos (w1 _)];show Oper.wpIn (FR none) 0 P df c1 w1' (λx x_1=>Q Exit.normal x x_1) Q;refine⟨λ_ _=>trivial,?_⟩;have hvt:=ho t _ hv;have hsem:(df.semAt (FR none).round c1.eval).run P w1' = .ok (.defer { target:=.fn (.func f) cs,args:=fs }) w1':=by
  have hev:c1.eval (.tmp t) = .func (.func f) fs cs:=by
   show c1.tmps.getD t undef=_;rw[Array.getD_eq_getD_getElem?,hvt];rfl
  show(df.semAt none c1.eval).run P w1'=_;unfold Oper.semAt;simp only[execOp,hdf,resolve,hct,hca,Array.map_empty,hev,Deferred.ofValue,Array.append_empty];rfl
 rw[hsem];show Q .normal (Act.put { c1 with defers:={ target:=.fn (.func f) cs,args:=fs } :: c1.defers } df.dst undef) w1';rw[hdd];exact hQ a' _ w1' f fs cs hk (λt s h=>ho t s h) (hs.trans hN) (by show _::c1.defers=_;rw[hd,hds])
def WV(T:Jq P D){f:FuncId}{fn:Func}{an:Ann}{args:List SV}{K:Value→PT}{w:World}{u:FrameMode}{cd:Code}(hf:P.funcs[f]? = some fn)(hb:fn.body=some cd)(hr:Zu cd=false)(hin:okF args.length fn=true)(h:pf P D fn an args K w) :
  CallsDIn (FR none) 0 P f (YB args).toArray u w λe u' w'=>u'=u∧∃v,e = .returned v∧K v w':=by
 unfold okF at hin;unfold pf at h;rw[hb]at h hin;simp only[Bool.and_eq_true,Nat.ble_eq]at hin;dsimp only at h;refine callsDIn_of_wp hf hb trivial (wpIn_mono (WU T cd an none _ [] _ fn.ntmps w _ hin.1 h ?_ ?_ rfl) ?_)
 ·intro t s hs;obtain⟨_,h2⟩:=Gh args 0 t s hs;rw[Nat.sub_zero]at h2;simp only;rw[Array.getElem?_append_left (by simpa using(List.getElem?_eq_some_iff.1 h2).1)];simpa using h2
 ·have:=gC args;simp;omega
 ·intro e c' w' hq;obtain⟨a',ds',hk,ho',hN',hd',-,h0⟩:=hq;have hd0:=h0 hr;rw[hd0]at hd';have hds:ds' = []:=by
   cases ds' with
   | nil=>rfl
   | cons d r=>simp[QR]at hd'
  subst hds;have key:(L.unmark P [] (Ki D a' fn.results.toList λvs=>K (GD vs)) w')→∃v,(results fn c'.tmps).run P w' = .ok v w'∧∃v2,Ending.returned v = .returned v2∧K v2 w':=λhk=>by
   obtain⟨vs,hr,hk⟩:=oq T ho' _ _ hk;refine⟨GD vs,?_,_,rfl,hk⟩;rw[OH,←pU,Sem.run_bind];have e:fn.results.mapM (kM c'.tmps)=(do let l ←fn.results.toList.mapM (kM c'.tmps);pure l.toArray):=by
    rw[Array.mapM_eq_mapM_toList];rfl
   rw[e,Sem.run_bind,hr];simp
  cases e with
  | normal=>exact⟨hd0,key hk⟩
  | ret=>exact⟨hd0,key hk⟩
  | _=>exact hk.elim
def gW{N:Nat}{x y:Code}(h:inB N (.seq x y)=true):inB N x=true∧inB N y=true:=by
 simpa only[inB,Bool.and_eq_true]using h
def WB{N:Nat}{v:Operand}{x y:Code}(h:inB N (.cond v x y)=true):inB N x=true∧inB N y=true:=by
 simpa only[inB,Bool.and_eq_true]using h
def tY(s:Option SV):Option (FuncId×Value×Value):=match s with
 | some (.v (.func (.func g) fs cs))=>match fs.toList,cs.toList with
  | [],[x,y]=>some (g,x,y)
  | _,_=>none
 | _=>none
def cZ{s:Option SV}{g:FuncId}{x y:Value}(h:tY s=some (g,x,y)):s=some (.v (.func (.func g) #[] #[x,y])):=by
 unfold tY at h;split at h
 ·rename_i g' fs cs;split at h
  ·rename_i h1 h2
   cases h
   obtain⟨fs⟩:=fs;obtain⟨cs⟩:=cs;simp only at h1 h2;subst h1 h2;rfl
  ·cases h
 ·cases h
def Ak(P:Program)(D:Tb)(r0 r1 r2:List Oper)(mk:Oper)(t:Nat)(r4:List Oper)(v:Operand)(r5:List Oper)(g:FuncId)(gn:Func)(gan:Ann)(a0:AT)(K:Value→PT):PT:=
 qU P D r0 ⟨ZV r0,false⟩ (Ya 0 r0) a0 λa1=>
 qU P D r1 ⟨ZV r1,false⟩ (Ya 0 r1) a1 λa2=>
 qU P D r2 ⟨ZV r2,false⟩ (Ya 0 r2) a2 λa3=>
 za P D mk a3 λa4=>match tY (a4.get t) with
  | some (g',x,y)=>if g'=g then
    qU P D r4 ⟨ZV r4,false⟩ (Ya 0 r4) a4 λa5=>match a5.ev v with
     | some (.v (.bool b))=>L.ite b (qU P D r5 ⟨ZV r5,false⟩ (Ya 0 r5) a5 λ_=>pf P D gn gan [.v x,.v y] λ_=>K (.tuple #[])) (pf P D gn gan [.v x,.v y] λ_=>K (.tuple #[]))
     | _=>bad
   else bad
  | _=>bad
def LV(T:Jq P D){f g:FuncId}{fn gn:Func}{gc:Code}{gan:Ann}{r0 r1 r2 r4 r5:Array Oper}{i0 i1 i2 i3 i4 i5 t:Nat}{mk df:Oper}{ct:Call}{v:Operand}{args:List SV}{K:Value→PT}(hf:P.funcs[f]? = some fn)
  (hb:fn.body=some (.seq (.region i0 r0 false) (.seq (.region i1 r1 false) (.seq (.region i2 r2 false) (.seq (.region i3 #[mk,df] false) (.seq (.region i4 r4 false) (.cond v (.region i5 r5 false) .skip))))))) (hres:fn.results = #[])
  (hdf:df.op = .defer ct) (hct:ct.callee = .value (.tmp t)) (hca:ct.args = #[]) (hdd:df.dst=none) (hdg:df.guard=none) (hmg:mk.guard=none) (hmt:mk.dst=some t)
  (hin:okF args.length fn=true) (hg:P.funcs[g]? = some gn) (hgb:gn.body=some gc) (hgr:Zu gc=false) (hgin:okF 2 gn=true) (hE:yr P g)
  (h:Ak P D r0.toList r1.toList r2.toList mk t r4.toList v r5.toList g gn gan (PK 0 args) K w):Calls P f (YB args).toArray w λe w'=>∃v,e = .returned v∧K v w':=by
 unfold okF at hin;rw[hb]at hin;simp only[Bool.and_eq_true,Nat.ble_eq]at hin;obtain⟨hin,hlen⟩:=hin;obtain⟨n0,hin⟩:=gW hin;obtain⟨n1,hin⟩:=gW hin;obtain⟨n2,hin⟩:=gW hin;obtain⟨n3,hin⟩:=gW hin;obtain⟨n4,hin⟩:=gW hin;obtain⟨n5,-⟩:=WB hin
 suffices h0:CallsIn (FR none) 0 P f (YB args).toArray w λe w'=>∃v,e = .returned v∧K v w' from callsIn_wide.1 h0
 refine callsIn_of_wp_marks hf hb trivial ?_;have hok0:ok (PK 0 args) { tmps:=(YB args).toArray++Array.replicate (fn.ntmps-(YB args).toArray.size) undef,defers:=[] }:=by
  intro t s hs;obtain⟨_,h2⟩:=Gh args 0 t s hs;rw[Nat.sub_zero]at h2;simp only;rw[Array.getElem?_append_left (by simpa using(List.getElem?_eq_some_iff.1 h2).1)];simpa using h2
 have hN0:((YB args).toArray++Array.replicate (fn.ntmps-(YB args).toArray.size) undef).size=fn.ntmps:=by
  have:=gC args;simp;omega
 unfold Ak at h;refine wpIn_seq (gJ T n0 h hok0 hN0 rfl λa1 c1 w1 h ok1 N1 d1=>?_);refine wpIn_seq (gJ T n1 h ok1 N1 d1 λa2 c2 w2 h ok2 N2 d2=>?_);refine wpIn_seq (gJ T n2 h ok2 N2 d2 λa3 c3 w3 h ok3 N3 d3=>?_);have hmd:Dst mk c3:=λt' ht=>by
  rw[N3];exact FS n3 0 mk rfl t' ht
 refine wpIn_seq ?_
 refine nQ (K:=λa4 f fs cs w4=>f=g∧∃x y,fs = #[]∧cs = #[x,y]∧(qU P D r4.toList ⟨ZV r4.toList,false⟩ (Ya 0 r4.toList) a4 λa5=>match a5.ev v with
     | some (.v (.bool b))=>L.ite b (qU P D r5.toList ⟨ZV r5.toList,false⟩ (Ya 0 r5.toList) a5 λ_=>pf P D gn gan [.v x,.v y] λ_=>K (.tuple #[])) (pf P D gn gan [.v x,.v y] λ_=>K (.tuple #[]))
     | _=>bad) w4) T n3 hdf hct hca hdd hdg hmg h (λa' w' h9=>?_) hmd ok3 N3 d3 λa4 c4 w4 f' fs cs h ok4 N4 d4=>?_
 ·cases hcp:tY (a'.get t) with
  | none=>rw[hcp]at h9;exact h9.elim
  | some p=>
   obtain⟨g',x,y⟩:=p;rw[hcp]at h9;dsimp only at h9;have hv:=cZ hcp;by_cases hgg:g'=g
   ·rw[if_pos hgg]at h9;subst hgg;exact⟨_,_,_,hv,rfl,x,y,rfl,rfl,h9⟩
   ·rw[if_neg hgg]at h9;exact h9.elim
 obtain⟨hfg,x,y,rfl,rfl,h⟩:=h;rw[hfg]at d4;clear hfg;refine wpIn_seq (gJ T n4 h ok4 N4 d4 λa5 c5 w5 h ok5 N5 d5=>?_)
 have fin:∀(c6:Act)(w6:World),c6.defers = [{ target:=.fn (.func g) #[x,y],args:=#[] }]→pf P D gn gan [.v x,.v y] (λ_=>K (.tuple #[])) w6→
   LeavesInM (FR none) 0 P fn c6.tmps (λe w'=>∃v,e = .returned v∧K v w') c6.defers .returning w6:=λc6 w6 d6 hk=>by
  rw[d6];refine⟨by simp,.inr ⟨λh=>by simp[FR]at h,.func g,#[x,y],g,#[x,y],rfl,?_,λ_ _=>trivial,?_⟩⟩
  ·simp[invoke,hE _ _]
  ·refine(WV (args:=[.v x,.v y]) T hg hgb hgr hgin hk).mono ?_;rintro e u' w' ⟨rfl,v,rfl,hk⟩;refine⟨.tuple #[],?_,_,rfl,hk⟩;rw[OH,hres];simp
 (try dsimp only at h)
 cases hev:a5.ev v with
 | none=>rw[hev]at h;exact h.elim
 | some s=>
  rw[hev]at h;have he:=Ym ok5 hev
  cases s with
  | v q=>
   cases q with
   | bool b=>
    refine wpIn_cond_split he (λhb=>?_) (λhb=>?_)
    ·exact gJ T n5 (h.1 hb) ok5 N5 d5 λa6 c6 w6 h ok6 N6 d6=>fin c6 w6 d6 h
    ·exact wpIn_skip (fin c5 w5 d5 (h.2 hb))
   | _=>exact h.elim
  | _=>exact h.elim
end
end Go.Dm
namespace Go.Proofs.YtimahgbgejngiaaGreatDoor
open Go.Dm
def dZ(p0 p1:Option Addr)(p2:Sl)(K:Value→PT):PT:=
 L.new [.pointer p0] yf λb1=>
 L.call Pr vd [.slice p2.a p2.len p2.cap] (.tup [.agg bw,.one (.int .i64)]) λ(x2:EvT×Int×Unit)=>
 L.new [.int .i64 0,.string s_,.string s_,.int .i64 0,.int .i64 0,.string s_,.int .i64 0,.int .i64 0,.int .i64 0,.int .i64 0,.int .i64 0,.string s_,.string s_,.slice none 0 0,.int .i64 0] zT λb3=>
 L.store ⟨b3,0,none⟩ [.int .i64 x2.1.1,.string x2.1.2.1,.string x2.1.2.2.1,.int .i64 x2.1.2.2.2.1,.int .i64 x2.1.2.2.2.2.1,.string x2.1.2.2.2.2.2.1,.int .i64 x2.1.2.2.2.2.2.2.1,.int .i64 x2.1.2.2.2.2.2.2.2.1,.int .i64 x2.1.2.2.2.2.2.2.2.2.1,.int .i64 x2.1.2.2.2.2.2.2.2.2.2.1,.int .i64 x2.1.2.2.2.2.2.2.2.2.2.2.1,.string x2.1.2.2.2.2.2.2.2.2.2.2.2.1,.string x2.1.2.2.2.2.2.2.2.2.2.2.2.2.1,.slice x2.1.2.2.2.2.2.2.2.2.2.2.2.2.2.1.a x2.1.2.2.2.2.2.2.2.2.2.2.2.2.2.1.len x2.1.2.2.2.2.2.2.2.2.2.2.2.2.2.1.cap,.int .i64 x2.1.2.2.2.2.2.2.2.2.2.2.2.2.2.2.1]<|
 L.call Pr js [.int .i64 x2.2.1] (.one (.one .str)) λ(x4:B0)=>
 L.guard (((xe.size+x4.size:Nat):Int)≤Jl)<|
 L.new [.string (xe++x4)] zd λb5=>
 L.new [.slice none 0 0] zp λb6=>
 L.store ⟨b6,0,none⟩ [.slice (some ⟨b5,0,none⟩) 1 1]<|
 L.ite (x2.2.1 == 0) (
  L.load (.agg bw) ⟨b3,0,none⟩ λ(x7:EvT)=>
  L.call Pr zJ [.pointer p1,evW x7] (.one (.one .slice)) λ(x8:Sl)=>
  L.store ⟨b6,0,none⟩ [.slice x8.a x8.len x8.cap]<|
  jN ⟨b1,0,none⟩ ⟨b6,0,none⟩ λ_=>K (.tuple #[])) (
  jN ⟨b1,0,none⟩ ⟨b6,0,none⟩ λ_=>K (.tuple #[]))
def LD(p0 p1:Option Addr)(p2:Sl){K:Value→PT}{w:World}(h:dZ p0 p1 p2 K w):Calls Pr qb [.pointer p0,.pointer p1,.slice p2.a p2.len p2.cap].toArray w λe w2=>∃v,e = .returned v∧K v w2:=
 LV (args:=[.v (.pointer p0),.v (.pointer p1),.v (.slice p2.a p2.len p2.cap)]) (fn:=Tryz.f48) (gn:=Tryz.f122) (gan:=.auto) Tok (by kernel_rfl) rfl rfl rfl rfl rfl rfl rfl rfl rfl (by kernel_rfl) (by kernel_rfl) rfl (by kernel_rfl) (by kernel_rfl) oA
  ((congrFun (by kernel_rfl:_=dZ p0 p1 p2 K) w).mpr h)
end Go.Proofs.YtimahgbgejngiaaGreatDoor
