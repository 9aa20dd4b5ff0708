/- What is proved on the way to a statement of the seat, pressed (text AJ). No conditions beyond those its theorems state. -/
import Derived.Test.YtimahgbgejngiaaGreatDoorTAI
set_option linter.all false
namespace Go.Proofs.YtimahgbgejngiaaGreatDoor
open Go.Dm
attribute [local irreducible] L.load L.store L.chk L.new L.nonnil L.guard L.ite L.draw L.idx L.sem L.semR L.semU L.chkSem L.next L.call L.callV L.join L.alts L.loop L.begin L.endRound L.range
variable {w0 w:World}{E:List Seg}
def VR(h:St w0 E w)(i:Nat){Q:List Tr}(hi:nth E i=some (Q.map trS).flatten){t:Tr}(ht:t∈Q)(hp:kq t.2.1 t.1.pod t.2.2){k:Int→PT}(hk:k t.1.pod.st w) :
  L.call Pr yQ [.pointer (some ⟨t.2.1,0,none⟩)] (.one (.one (.int .i64))) k w:=by
 obtain⟨A,B,rfl⟩:=List.append_of_mem ht;exact Io (h.front i hi).pick 0 rfl hp hk
def Td(h:St w0 E w)(i:Nat){Q:List Tr}(hi:nth E i=some (Q.map trS).flatten){t:Tr}(ht:t∈Q)(hp:kq t.2.1 t.1.pod t.2.2){k:Int→PT}(hk:k t.1.pod.reqs.length w) :
  L.call Pr jk [.pointer (some ⟨t.2.1,0,none⟩)] (.one (.one (.int .i64))) k w:=by
 obtain⟨A,B,rfl⟩:=List.append_of_mem ht;exact z1o (h.front i hi).pick 0 rfl hp hk
def revs(l:List Zg)(rev:B0):List Zg:=l.filter λx=>decide (x.rev=rev)
def FlR.revs{F:ze}{L:List Tr}{mA mW}(hr:FlR F L mA mW)(rev:B0):revs F.l rev=(L.filter (qz rev)).map (·.1):=by
 unfold YtimahgbgejngiaaGreatDoor.revs;rw[hr.l,List.filter_map];rfl
def Dw{l:List Tr}{m:Nat}(hm:m<l.length):iY l m=(l[m].1.id,some ⟨l[m].2.1,0,none⟩,()):=by
 simp[iY,List.getElem?_eq_getElem hm]
def np{L:List Tr}{rev:B0}{m:Nat}(hm:m<(L.filter (qz rev)).length):(L.filter (qz rev))[m]∈L:=(List.mem_filter.1 (List.getElem_mem hm)).1
def fP(x:Zg):Bool:=decide (x.pod.st≠3)
def ZA(l:List Zg)(rev:B0):Nat:=((revs l rev).filter fP).length
def z5z(h:St w0 E w)(i:Nat){b:Nat}{F:ze}{s:Seg}(hi:nth E i=some s)(hf:FlS b F s){rev:B0}{k:Int→PT}(hk:∀w',St w0 E w'→k (ZA F.l rev) w') :
  L.call Pr Va [pO b,.string rev] (.one (.one (.int .i64))) k w:=by
 obtain⟨ok,rA,rW,mA,mW,sA,sW,L,hA,hW,hr,rfl⟩:=hf;refine za (Ck _ _) ?_;unfold gV;have hll:L.length=F.l.length:=by rw[hr.l];simp
 have hfew:=ok.few;have h:St w0 (flB b rA rW F::sA::sW::(L.map trS).flatten::Zv E i) w:=(h.front i hi).eq (by simp);refine nw h ?_;clear h;intro b1 w h
 (refine stC h ?_;clear h;intro w h;dsimp only[zJ,zd]at h)
 refine z1r h λc0 c1 w h=>?_;have h:=YA (YA (Yh (Yh h)));refine qu (A:=[_,_,_,_]) (z0X ok hA hr) h (λm G=>G = [Cl b1 zx [I ((((L.filter (qz rev)).take m).filter λt=>fP t.1).length:Nat)]]::sW::(L.map trS).flatten::Zv E i) (λj G=>False) rfl ?_ ?_ ?_
 ·rintro m G X w lv lp d R hm rfl h hN hE;have hx:=List.getElem?_eq_getElem hm;have hft:=WR (p:=λt:Tr=>fP t.1) hx;have hlt:=List.length_filter_le (qz rev) L;have hl2:=List.length_filter_le (λt:Tr=>fP t.1) ((L.filter (qz rev)).take m);rw[List.length_take]at hl2;have h:St w0 ([Rec lv lp .busy none]::[DfM d]::[Cl c1 zc [.string rev]]::[Cl c0 ZO [.pointer (some ⟨b,0,none⟩)]]::flB b rA rW F::sA::[Cl b1 zx [I ((((L.filter (qz rev)).take m).filter λt=>fP t.1).length:Nat)]]::sW::(L.map trS).flatten::(Zv E i++X)) w:=h;rw[Dw hm]
  (try dsimp only)
  refine VR h 8 rfl (np hm) (hr.ps _ (np hm)) ?_;refine it (λhc=>?_) (λhc=>?_)<;>(try simp only[zB]at hc)
  ·have hp:fP (L.filter (qz rev))[m].1=true:=decide_eq_true hc;rw[if_pos hp]at hft
   (refine ldC h ?_;refine stC h ?_;clear h;intro w h;dsimp only[zJ,zd]at h)
   rw[wr (by omega) (by omega)]at h;refine hN _ w rfl ?_;rw[hft];exact h
  ·have hp:¬fP (L.filter (qz rev))[m].1=true:=λe=>(of_decide_eq_true e) hc;rw[if_neg hp]at hft;refine hN _ w rfl ?_;rw[hft];exact h
 ·rintro d G w rfl h;have h:St w0 ([DfM d]::[Cl c1 zc [.string rev]]::[Cl c0 ZO [.pointer (some ⟨b,0,none⟩)]]::flB b rA rW F::sA::[Cl b1 zx [I ((((L.filter (qz rev)).take (L.filter (qz rev)).length).filter λt=>fP t.1).length:Nat)]]::sW::(L.map trS).flatten::Zv E i) w:=h;refine vC ?_
  (refine ldC h ?_)
  (first | refine OF h ?_ | refine OE h ?_ | refine OD h ?_ | refine OC h ?_ | refine OB h ?_ | refine OA h ?_ | refine Oz h ?_ | refine Oy h ?_ | refine Ox h ?_ | refine Ow h ?_ | refine uv h ?_ | refine uu h ?_);clear h;intro w h
  rw[List.take_length];have e:ZA F.l rev=((L.filter (qz rev)).filter λt=>fP t.1).length:=by
   unfold ZA;rw[hr.revs,List.filter_map,List.length_map];rfl
  refine⟨_,rfl,?_⟩;rw[←e];refine hk w (St.setN_same' i hi (St.back i hi (s':=flB b rA rW F++(sA++(sW++(L.map trS).flatten))) ?_));have h:=zm (Yf (ko h));exact h.eq (by simp)
 ·rintro d j G w hf;exact hf.elim
def Gr(a:Int×Int×Int)(x:Zg):Int×Int×Int:=
 if x.pod.st=3 then a else if x.pod.st<a.2.1∨(x.pod.st=a.2.1∧(x.pod.reqs.length:Int)≤a.2.2)then(x.id,x.pod.st,x.pod.reqs.length)else a
def Vf(l:List Zg)(rev:B0):Int:=((revs l rev).foldl Gr (0,3,0)).1
def Iu(h:St w0 E w)(i:Nat){b:Nat}{F:ze}{s:Seg}(hi:nth E i=some s)(hf:FlS b F s){rev:B0}{k:Int→PT}(hk:∀w',St w0 E w'→k (Vf F.l rev) w') :
  L.call Pr uh [pO b,.string rev] (.one (.one (.int .i64))) k w:=by
 obtain⟨ok,rA,rW,mA,mW,sA,sW,L,hA,hW,hr,rfl⟩:=hf;refine za (MA _ _) ?_;unfold kR;have hll:L.length=F.l.length:=by rw[hr.l];simp
 have hfew:=ok.few;have h:St w0 (flB b rA rW F::sA::sW::(L.map trS).flatten::Zv E i) w:=(h.front i hi).eq (by simp);refine nw h ?_;clear h;intro b1 w h;refine nw h ?_;clear h;intro b2 w h;refine nw h ?_;clear h;intro b3 w h
 (refine stC h ?_;clear h;intro w h;dsimp only[zJ,zd]at h;refine stC h ?_;clear h;intro w h;dsimp only[zJ,zd]at h;refine stC h ?_;clear h;intro w h;dsimp only[zJ,zd]at h)
 refine z1r h λc0 c1 w h=>?_;have h:=YA (YA (jB (jB h)));refine qu (A:=[_,_,_,_]) (z0X ok hA hr) h (λm G=>∃a:Int×Int×Int,a=(((L.filter (qz rev)).take m).map (·.1)).foldl Gr (0,3,0)∧G = [Cl b3 zx [I a.2.2]]::[Cl b2 zx [I a.2.1]]::[Cl b1 zx [I a.1]]::sW::(L.map trS).flatten::Zv E i) (λj G=>False) ⟨_,rfl,rfl⟩ ?_ ?_ ?_
 ·rintro m G X w lv lp d R hm ⟨⟨a1,a2,a3⟩,ha,rfl⟩ h hN hE;have hx:=List.getElem?_eq_getElem hm;have hft:Gr (a1,a2,a3) (L.filter (qz rev))[m].1=(((L.filter (qz rev)).take (m+1)).map (·.1)).foldl Gr (0,3,0):=by
   rw[List.take_add_one,hx,List.map_append,List.foldl_append,←ha];rfl
  have h:St w0 ([Rec lv lp .busy none]::[DfM d]::[Cl c1 zc [.string rev]]::[Cl c0 ZO [.pointer (some ⟨b,0,none⟩)]]::flB b rA rW F::sA::[Cl b3 zx [I a3]]::[Cl b2 zx [I a2]]::[Cl b1 zx [I a1]]::sW::(L.map trS).flatten::(Zv E i++X)) w:=h;rw[Dw hm]
  (try dsimp only)
  have hmem:=np hm;have hps:=hr.ps _ hmem;refine VR h 10 rfl hmem hps ?_;refine it (λhc=>?_) (λhc=>?_)<;>(try simp only[zB]at hc)
  ·simp only[Gr]at hft;rw[if_pos hc]at hft;exact hN _ w ⟨_,hft,rfl⟩ h
  simp only[Gr]at hft;rw[if_neg hc]at hft
  (refine dr h ?_;clear h;intro w h;refine ldC h ?_)
  refine VR h 10 rfl hmem hps ?_
  (refine ckC h ?_)
  refine it (λhd=>?_) (λhd=>?_)<;>(try simp only[zB]at hd)
  ·rw[if_pos (.inl hd)]at hft;refine VR h 10 rfl hmem hps ?_;refine Td h 10 rfl hmem hps ?_
   (refine stC h ?_;clear h;intro w h;dsimp only[zJ,zd]at h;refine stC h ?_;clear h;intro w h;dsimp only[zJ,zd]at h;refine stC h ?_;clear h;intro w h;dsimp only[zJ,zd]at h)
   exact hN _ w ⟨_,hft,rfl⟩ h
  (refine ldC h ?_)
  refine VR h 10 rfl hmem hps ?_
  (refine ckC h ?_)
  refine it (λhe=>?_) (λhe=>?_)<;>(try simp only[zB]at he)
  ·(refine ldC h ?_)
   refine Td h 10 rfl hmem hps ?_
   (refine ckC h ?_)
   refine it (λhg=>?_) (λhg=>?_)<;>(try simp only[zB]at hg)
   ·rw[if_pos (.inr ⟨he,hg⟩)]at hft;refine VR h 10 rfl hmem hps ?_;refine Td h 10 rfl hmem hps ?_
    (refine stC h ?_;clear h;intro w h;dsimp only[zJ,zd]at h;refine stC h ?_;clear h;intro w h;dsimp only[zJ,zd]at h;refine stC h ?_;clear h;intro w h;dsimp only[zJ,zd]at h)
    exact hN _ w ⟨_,hft,rfl⟩ h
   ·rw[if_neg (λhh=>hh.elim hd λhh=>hg hh.2)]at hft;exact hN _ w ⟨_,hft,rfl⟩ h
  ·rw[if_neg (λhh=>hh.elim hd λhh=>he hh.1)]at hft;exact hN _ w ⟨_,hft,rfl⟩ h
 ·rintro d G w ⟨a,ha,rfl⟩ h;have h:St w0 ([DfM d]::[Cl c1 zc [.string rev]]::[Cl c0 ZO [.pointer (some ⟨b,0,none⟩)]]::flB b rA rW F::sA::[Cl b3 zx [I a.2.2]]::[Cl b2 zx [I a.2.1]]::[Cl b1 zx [I a.1]]::sW::(L.map trS).flatten::Zv E i) w:=h;refine vC ?_
  (refine ldC h ?_)
  (first | refine OF h ?_ | refine OE h ?_ | refine OD h ?_ | refine OC h ?_ | refine OB h ?_ | refine OA h ?_ | refine Oz h ?_ | refine Oy h ?_ | refine Ox h ?_ | refine Ow h ?_ | refine uv h ?_ | refine uu h ?_);clear h;intro w h
  rw[List.take_length]at ha;have e:Vf F.l rev=a.1:=by unfold Vf;rw[hr.revs,ha]
  refine⟨_,rfl,?_⟩;rw[←e];refine hk w (St.setN_same' i hi (St.back i hi (s':=flB b rA rW F++(sA++(sW++(L.map trS).flatten))) ?_));have h:=zm (Yf (ko (Pc (nX h))));exact h.eq (by simp)
 ·rintro d j G w hf;exact hf.elim
def eK(x:Int×Int×Int):List Value:=[I x.1,I x.2.1,I x.2.2]
def NY:Enc eK 3:=⟨λ_=>rfl,λ_=>rfl,by decide⟩
def elK:El Pr yU JH 3 24 (.agg #[I 0,I 0,I 0]):=gB (by kernel_rfl) (by kernel_rfl) rfl (by decide)
def ID(h:St w0 E w){v:Sl}{l:List (Int×Int×Int)}(r:Rd w eK v l)(hn:l.length<1000000000)(h64:v.a=none→l = []){k:Sl→PT}
  (hk:∀(v':Sl) s' w',Rw eK JH 3 v' l s'→St w0 (s'::E) w'→k v' w'):L.call Pr Yw [SlV v] (.one (.one .slice)) k w:=by
 refine za (ur _) ?_;unfold Ju;exact Qp (K:=λv w'=>∃x,v=RT.val (.one (.one .slice)) x∧k x w') NY elK h r (by omega) (by omega) h64 λv' s' w' h1 h2 h3=>⟨v',rfl,hk v' s' w' h1 h3⟩
def lZ(x:Zg):Int×Int×Int:=(x.id,x.pod.st,x.pod.reqs.length)
def jW(l:List Zg)(rev:B0):List (Int×Int×Int):=(revs l rev).map lZ
def sC(h:St w0 E w)(i:Nat){b:Nat}{F:ze}{s:Seg}(hi:nth E i=some s)(hf:FlS b F s){rev:B0}{k:Sl→PT}(hk:∀v s' w',Rw eK JH 3 v (jW F.l rev) s'→St w0 (s'::E) w'→k v w') :
  L.call Pr Ub [pO b,.string rev] (.one (.one .slice)) k w:=by
 obtain⟨ok,rA,rW,mA,mW,sA,sW,L,hA,hW,hr,rfl⟩:=hf;refine za (PB _ _) ?_;unfold oG;have hll:L.length=F.l.length:=by rw[hr.l];simp
 have hfew:=ok.few;have hlt:=List.length_filter_le (qz rev) L;have h:St w0 (flB b rA rW F::sA::sW::(L.map trS).flatten::Zv E i) w:=(h.front i hi).eq (by simp);refine nw h ?_;clear h;intro b1 w h;refine z1r h λc0 c1 w h=>?_;have h:=YA (YA (Yh (Yh h)));have h:St w0 ([[Cl c1 zc [.string rev]],[Cl c0 ZO [.pointer (some ⟨b,0,none⟩)]],flB b rA rW F,sA]++[Cl b1 yU [SlV ⟨none,0,0⟩]]::[]::sW::(L.map trS).flatten::Zv E i) w:=h.eq (by simp);refine qu (A:=[_,_,_,_]) (z0X ok hA hr) h (λm G=>∃v sv,Rw eK JH 3 v (((L.filter (qz rev)).take m).map λt=>lZ t.1) sv∧G = [Cl b1 yU [SlV v]]::sv::sW::(L.map trS).flatten::Zv E i) (λj G=>False) ⟨_,_,Rw.nil,rfl⟩ ?_ ?_ ?_
 ·rintro m G X w lv lp d R hm ⟨v,sv,hv,rfl⟩ h hN hE;have hx:=List.getElem?_eq_getElem hm;have h:St w0 ([Rec lv lp .busy none]::[DfM d]::[Cl c1 zc [.string rev]]::[Cl c0 ZO [.pointer (some ⟨b,0,none⟩)]]::flB b rA rW F::sA::[Cl b1 yU [SlV v]]::sv::sW::(L.map trS).flatten::(Zv E i++X)) w:=h;rw[Dw hm]
  (try dsimp only)
  have hmem:=np hm;have hps:=hr.ps _ hmem
  (refine dr h ?_;clear h;intro w h;refine ldC h ?_)
  refine VR h 9 rfl hmem hps ?_
  (refine ckC h ?_)
  refine Td h 9 rfl hmem hps ?_
  (refine ckC h ?_)
  refine nw h ?_;clear h;intro b11 w h
  (refine ckC h ?_)
  refine Rw.app NY elK h 7 rfl hv (lZ (L.filter (qz rev))[m].1) rfl (by simp;omega) (by simp;omega) λv' s' w hv h=>?_
  (dsimp only[zd,List.cons_append,List.nil_append]at h;refine stC h ?_;clear h;intro w h;dsimp only[zJ,zd]at h)
  refine hN _ w ⟨v',s',?_,rfl⟩ h;rw[List.take_add_one,hx,List.map_append];exact hv
 ·rintro d G w ⟨v,sv,hv,rfl⟩ h;have h:St w0 ([DfM d]::[Cl c1 zc [.string rev]]::[Cl c0 ZO [.pointer (some ⟨b,0,none⟩)]]::flB b rA rW F::sA::[Cl b1 yU [SlV v]]::sv::sW::(L.map trS).flatten::Zv E i) w:=h;rw[List.take_length]at hv;have e:jW F.l rev=(L.filter (qz rev)).map λt=>lZ t.1:=by unfold jW;rw[hr.revs,List.map_map];rfl
  rw[←e]at hv;have hle:(jW F.l rev).length≤L.length:=by rw[e,List.length_map];exact hlt
  refine vC ?_
  (refine ldC h ?_)
  refine ID h (hv.rd NY h 6 rfl) (by omega) (Rw.nil_of NY hv) λv' s' w hv' h=>?_
  (first | refine OF h ?_ | refine OE h ?_ | refine OD h ?_ | refine OC h ?_ | refine OB h ?_ | refine OA h ?_ | refine Oz h ?_ | refine Oy h ?_ | refine Ox h ?_ | refine Ow h ?_ | refine uv h ?_ | refine uu h ?_);clear h;intro w h
  refine⟨_,rfl,hk v' s' w hv' ?_⟩;have h:=Yf (VQ (Pc (nX h)));have h:=Yh (Yh (Yh (Yh h)));have h:=St.back (i+1) (E:=s'::E) hi (s':=flB b rA rW F++(sA++(sW++(L.map trS).flatten))) (h.eq (by simp[Zv]));exact St.setN_same' (i+1) (E:=s'::E) hi h
 ·rintro d j G w hf;exact hf.elim
def YJ(l:List Zg)(id:Int)(g:YZ→YZ):List Zg:=l.filterMap λx=>if x.id=id then(if(g x.pod).st=4 then none else some { x with pod:=g x.pod })else some x
def nR{l:List Zg}{id:Int}{g:YZ→YZ}(h:∀y∈l,y.id≠id):YJ l id g=l:=by
 unfold YJ
 induction l with
 | nil=>rfl
 | cons y l ih=>
  rw[List.filterMap_cons,if_neg (h y (by simp))];simp only;rw[ih λz hz=>h z (by simp[hz])]
def Mf{A B:List Zg}{x:Zg}{g:YZ→YZ}(h:(A++x::B).Pairwise (λx y=>x.id<y.id)):YJ (A++x::B) x.id g=A++((if(g x.pod).st=4 then []else [{ x with pod:=g x.pod }])++B):=by
 rw[List.pairwise_append,List.pairwise_cons]at h;have hA:YJ A x.id g=A:=nR λy hy=>by have:=h.2.2 y hy x (by simp);omega
 have hB:YJ B x.id g=B:=nR λy hy=>by have:=h.2.1.1 y hy;omega
 unfold YJ at *
 rw[List.filterMap_append,hA,List.filterMap_cons,if_pos rfl]
 congr 1
 split<;>rename_i hc
 ·split at hc
  ·rename_i h4;rw[if_pos h4,hB];rfl
  ·cases hc
 ·split at hc
  ·cases hc
  ·rename_i h4;cases hc;rw[if_neg h4,hB];rfl
def YS{l:List Zg}{id:Int}{x:Zg}(h:Xd l id=some x):x∈l∧x.id=id:=⟨List.mem_of_find?_eq_some h,by simpa using List.find?_some h⟩
def XA{l:List Zg}(pw:l.Pairwise (λx y=>x.id<y.id)){x:Zg}(hx:x∈l):Xd l x.id=some x:=by
 unfold Xd
 induction l with
 | nil=>simp at hx
 | cons y l ih=>
  rw[List.pairwise_cons]at pw;rcases List.mem_cons.1 hx with rfl | hx
  ·simp
  ·have:=pw.1 x hx;rw[List.find?_cons_of_neg (by simp;omega)];exact ih pw.2 hx
def xN{l:List Zg}{q:Int}(h:Zu l q=none):∀x∈l,q∉x.pod.reqs:=λx hx=>by simpa using List.find?_eq_none.1 h x hx
def ze.Ok.upd{F:ze}(ok:F.Ok){id:Int}{x:Zg}(hx:Xd F.l id=some x)(g:YZ→YZ)(hst:(g x.pod).st=1∨(g x.pod).st=2∨(g x.pod).st=3∨(g x.pod).st=4)
  (hq:∀q∈(g x.pod).reqs,q∈x.pod.reqs∨Zu F.l q=none):({ F with l:=YJ F.l id g }:ze).Ok:=by
 obtain⟨hm,rfl⟩:=YS hx;obtain⟨A,B,hl⟩:=List.append_of_mem hm;have pw:=ok.pw;have rng:=ok.rng;have live:=ok.live;have once:=ok.once;have few:=ok.few;have hno:∀q,Zu F.l q=none→∀y∈A++x::B,q∉y.pod.reqs:=λq h=>by rw[hl]at h;exact xN h
 rw[hl]at pw rng live once few;have e:YJ F.l x.id g=A++((if(g x.pod).st=4 then []else [{ x with pod:=g x.pod }])++B):=by rw[hl];exact Mf pw
 by_cases h4:(g x.pod).st=4
 ·rw[if_pos h4,List.nil_append]at e;have hs:(A++B).Sublist (A++x::B):=List.Sublist.append (List.Sublist.refl _) (List.sublist_cons_self ..);refine⟨?_,?_,?_,?_,?_,ok.lo,ok.hi⟩
  ·rw[show({ F with l:=YJ F.l x.id g }:ze).l=A++B from e];exact pw.sublist hs
  ·rw[show({ F with l:=YJ F.l x.id g }:ze).l=A++B from e];exact λy hy=>rng y (hs.subset hy)
  ·rw[show({ F with l:=YJ F.l x.id g }:ze).l=A++B from e];exact λy hy=>live y (hs.subset hy)
  ·rw[show({ F with l:=YJ F.l x.id g }:ze).l=A++B from e];exact once.sublist hs
  ·rw[show({ F with l:=YJ F.l x.id g }:ze).l=A++B from e];exact Nat.lt_of_le_of_lt hs.length_le few
 ·rw[if_neg h4,List.singleton_append]at e;have e:({ F with l:=YJ F.l x.id g }:ze).l=A++ { x with pod:=g x.pod } :: B:=e;refine⟨?_,?_,?_,?_,?_,ok.lo,ok.hi⟩
  ·rw[e];rw[List.pairwise_append,List.pairwise_cons]at pw ⊢;exact⟨pw.1,pw.2.1,λa ha b hb=>by
    rcases List.mem_cons.1 hb with rfl | hb
    ·exact pw.2.2 a ha x (by simp)
    ·exact pw.2.2 a ha b (by simp[hb])⟩
  ·rw[e];intro y hy;rcases List.mem_append.1 hy with hy | hy
   ·exact rng y (by simp[hy])
   ·rcases List.mem_cons.1 hy with rfl | hy
    ·exact rng x (by simp)
    ·exact rng y (by simp[hy])
  ·rw[e];intro y hy;rcases List.mem_append.1 hy with hy | hy
   ·exact live y (by simp[hy])
   ·rcases List.mem_cons.1 hy with rfl | hy
    ·simp only;omega
    ·exact live y (by simp[hy])
  ·rw[e];rw[List.pairwise_append,List.pairwise_cons]at once ⊢;refine⟨once.1,⟨λb hb q hq1 hq2=>?_,once.2.1.2⟩,λa ha b hb q hq1 hq2=>?_⟩
   ·rcases hq q hq1 with h | h
    ·exact once.2.1.1 b hb q h hq2
    ·exact hno q h b (by simp[hb]) hq2
   ·rcases List.mem_cons.1 hb with rfl | hb
    ·rcases hq q hq2 with h | h
     ·exact once.2.2 a ha x (by simp) q hq1 h
     ·exact hno q h a (by simp[ha]) hq1
    ·exact once.2.2 a ha b (by simp[hb]) q hq1 hq2
  ·rw[e];simp only[List.length_append,List.length_cons]at few ⊢;exact few
def Rt:∀{m:List (Int×(B0×Option Addr))}{k:Int},(m.map (·.1)).Nodup→Kk m k=m.filter λp=>decide (p.1≠k)
 | [],k,_=>rfl
 | p::m,k,h=>by
  rw[List.map_cons,List.nodup_cons]at h;simp only[Kk];by_cases e:p.1=k
  ·rw[if_pos e,List.filter_cons_of_neg (by simp[e])]
   symm
   rw[List.filter_eq_self];intro y hy;have:y.1≠k:=λe2=>h.1 (by rw[e,←e2];exact List.mem_map_of_mem (f:=(·.1)) hy);simpa using this
  ·rw[if_neg e,List.filter_cons_of_pos (by simpa using e),Rt h.2]
def FlR.upd{F:ze}{A B:List Tr}{t:Tr}{mA mW mW'}(hr:FlR F (A++t::B) mA mW)(ok:F.Ok)(g:YZ→YZ){s':Seg}(hp:kq t.2.1 (g t.1.pod) s')(h4:(g t.1.pod).st≠4)
  (hW:∀q,zr mW' q=(Zu (YJ F.l t.1.id g) q).map (·.id)):FlR { F with l:=YJ F.l t.1.id g } (A++({ t.1 with pod:=g t.1.pod },t.2.1,s')::B) mA mW':=by
 have pw:=ok.pw;rw[hr.l,List.map_append,List.map_cons]at pw;refine⟨?_,?_,?_,hW⟩
 ·show YJ F.l t.1.id g=_;rw[hr.l,List.map_append,List.map_cons,Mf pw,if_neg h4];simp
 ·intro y hy;rcases List.mem_append.1 hy with hy | hy
  ·exact hr.ps y (by simp[hy])
  ·rcases List.mem_cons.1 hy with rfl | hy
   ·exact hp
   ·exact hr.ps y (by simp[hy])
 ·have:=hr.all;simp only[List.map_append,List.map_cons]at this ⊢;exact this
def FlR.del{F:ze}{A B:List Tr}{t:Tr}{mA mW mW'}(hr:FlR F (A++t::B) mA mW)(ok:F.Ok)(g:YZ→YZ)(h4:(g t.1.pod).st=4)
  (hW:∀q,zr mW' q=(Zu (YJ F.l t.1.id g) q).map (·.id)):FlR { F with l:=YJ F.l t.1.id g } (A++B) (Kk mA t.1.id) mW':=by
 have pw:=ok.pw;have ids:=hr.ids ok;rw[hr.l,List.map_append,List.map_cons]at pw;refine⟨?_,?_,?_,hW⟩
 ·show YJ F.l t.1.id g=_;rw[hr.l,List.map_append,List.map_cons,Mf pw,if_pos h4];simp
 ·intro y hy;rcases List.mem_append.1 hy with hy | hy
  ·exact hr.ps y (by simp[hy])
  ·exact hr.ps y (by simp[hy])
 ·rw[Rt (hr.nd ok)];refine(hr.all.filter _).trans ?_;rw[List.pairwise_append,List.pairwise_cons]at ids;rw[List.map_append,List.map_cons,List.filter_append,List.filter_cons_of_neg (by simp[ent]),List.map_append];have fa:∀{l:List Tr},(∀y∈l,y.1.id≠t.1.id)→(l.map ent).filter (λp=>decide (p.1≠t.1.id))=l.map ent:=λ{l} h=>by
   rw[List.filter_eq_self];intro p hp;obtain⟨y,hy,rfl⟩:=List.mem_map.1 hp;exact decide_eq_true (h y hy)
  rw[fa (λy hy=>by have:=ids.2.2 y hy t (by simp);omega),fa (λy hy=>by have:=ids.2.1.1 y hy;omega)]
def nQ{l:List Zg}(pw:l.Pairwise (λx y=>x.id<y.id)){x:Zg}(hx:x∈l){g:YZ→YZ}(hrq:(g x.pod).reqs=x.pod.reqs)(h4:(g x.pod).st=4→x.pod.reqs = [])(q:Int) :
  (Zu (YJ l x.id g) q).map (·.id)=(Zu l q).map (·.id):=by
 obtain⟨A,B,rfl⟩:=List.append_of_mem hx;rw[Mf pw];unfold Zu;simp only[List.find?_append]
 cases List.find? (λx=>decide (q∈x.pod.reqs)) A with
 | some y=>rfl
 | none=>
  simp only[Option.none_or];by_cases h:(g x.pod).st=4
  ·rw[if_pos h,List.find?_nil,Option.none_or,List.find?_cons_of_neg (by simp[h4 h])]
  ·rw[if_neg h];by_cases hq:q∈x.pod.reqs
   ·rw[List.find?_cons_of_pos (by simp[hrq,hq]),List.find?_cons_of_pos (by simp[hq])];rfl
   ·rw[List.find?_cons_of_neg (by simp[hrq,hq]),List.find?_cons_of_neg (by simp[hq]),List.find?_nil,Option.none_or]
def aK{b rA rW:Nat}{F:ze}{A B:List Tr}{t:Tr}{mA:List (Int×(B0×Option Addr))}{sA sW:Seg}{D:List Seg}{rev:B0}(h:St w0 (flB b rA rW F::sA::sW::((A++t::B).map trS).flatten::D) w)
  (hA:MpS KI Be rA mA sA) (hg:zr mA t.1.id=some (rev,some ⟨t.2.1,0,none⟩)) (hp:kq t.2.1 t.1.pod t.2.2) {k:Unit→PT} (hk1:t.1.pod.st≠4→k () w)
  (hk2:t.1.pod.st=4→∀sA' w',MpS KI Be rA (Kk mA t.1.id) sA'→St w0 (flB b rA rW F::sA'::sW::((A++B).map trS).flatten::D) w'→k () w') :
  L.call Pr xK [pO b,I t.1.id] (.tup []) k w:=by
 refine za (TC _ _) ?_;unfold Oq
 (refine nn ?_;refine ldC h ?_)
 refine MpS.get mkI xz zo (λx:B0×Option Addr=>(x.1,x.2,())) (λ_=>rfl) h 1 rfl hA ?_;rw[hg];simp only[Option.map_some,Option.getD_some];refine VR h 3 rfl (t:=t) (by simp) hp ?_;refine it (λhc=>?_) (λhc=>?_)<;>(try simp only[zB]at hc)
 ·(refine nn ?_;refine ldC h ?_)
  refine MpS.del mkI xz h 1 rfl hA λsA' w hA' h=>⟨(),rfl,hk2 hc sA' w hA' ?_⟩;have h:St w0 (flB b rA rW F::sA'::sW::((A++t::B).map trS).flatten::D) w:=h;have h:=YA h;have h:=h.pick;have h:=zm h;have h:=YA (YA (YA h));exact h
 ·exact⟨(),rfl,hk1 hc⟩
def z5A(h:St w0 E w)(i:Nat){b:Nat}{F:ze}{s:Seg}(hi:nth E i=some s)(hf:FlS b F s){id:Int}{k:Int→PT}
  (hk0:Xd F.l id=none→∀w',St w0 E w'→k 6 w')
  (hk1:∀x,Xd F.l id=some x→∀s' w',FlS b { F with l:=YJ F.l id λp=>(Yl p).1 } s'→St w0 (zd E i s') w'→k (Yl x.pod).2 w') :
  L.call Pr QO [pO b,I id] (.one (.one (.int .i64))) k w:=by
 obtain⟨ok,rA,rW,mA,mW,sA,sW,L,hA,hW,hr,rfl⟩:=hf;refine za (Cn _ _) ?_;unfold gX;have h:St w0 (flB b rA rW F::sA::sW::(L.map trS).flatten::Zv E i) w:=(h.front i hi).eq (by simp)
 (refine nn ?_;refine ldC h ?_)
 refine MpS.get2 mkI xz zo (λx:B0×Option Addr=>(x.1,x.2,())) (λ_=>rfl) h 1 rfl hA ?_
 cases hfd:Xd F.l id with
 | none=>
  rw[hr.get0 hfd];simp only[Option.map_none,Option.getD_none,Option.isSome_none];refine nw h ?_;clear h;intro b4 w h
  (refine stC h ?_;clear h;intro w h;dsimp only[zJ,zd]at h)
  refine it (λhc=>?_) (λhc=>?_)<;>(try simp only[zB]at hc)
  ·refine⟨_,rfl,hk0 hfd w (St.setN_same' i hi (St.back i hi (s':=flB b rA rW F++(sA++(sW++(L.map trS).flatten))) ?_))⟩;have h:=zm h;exact h.eq (by simp)
  ·cases hc
 | some x=>
  obtain⟨A,t,B,rfl,rfl,hid⟩:=hr.at hfd;have hg:=hr.get ok (t:=t) (by simp);have hp:=hr.ps t (by simp);rw[hid]at hg;rw[hg];simp only[Option.map_some,Option.getD_some,Option.isSome_some];refine nw h ?_;clear h;intro b4 w h
  (refine stC h ?_;clear h;intro w h;dsimp only[zJ,zd]at h)
  refine it (λhc=>?_) (λhc=>?_)<;>(try simp only[zB]at hc)
  ·cases hc
  (refine ldC h ?_)
  have h:=zm h;have h:=YA h;have h:=h.pick;refine z5x h 0 rfl hp λs' w hp' h=>⟨_,rfl,?_⟩;have h:St w0 (trS ({ t.1 with pod:=(Yl t.1.pod).1 },t.2.1,s')::((A++B).map trS).flatten::flB b rA rW F::sA::sW::Zv E i) w:=h;have h:=h.place;have hst:=ok.live t.1 (YS hfd).1;have h4:(Yl t.1.pod).1.st≠4:=by unfold Yl;split<;>simp<;>omega
  have hrq:(Yl t.1.pod).1.reqs=t.1.pod.reqs:=by unfold Yl;split<;>rfl
  refine hk1 _ hfd (flB b rA rW { F with l:=YJ F.l id λp=>(Yl p).1 } ++ (sA++(sW++((A++({ t.1 with pod:=(Yl t.1.pod).1 },t.2.1,s')::B).map trS).flatten))) w ⟨?_,rA,rW,mA,mW,sA,sW,_,hA,hW,?_,rfl⟩ (St.back i hi ?_)
  ·refine ok.upd hfd _ ?_ λq hq=>.inl (by rw[←hrq];exact hq);unfold Yl;split<;>simp<;>omega
  ·subst hid;refine hr.upd ok (λp=>(Yl p).1) hp' h4 λq=>?_;rw[hr.wth];rw[nQ ok.pw (YS hfd).1 hrq (λe=>absurd e h4)]
  ·have h:=YA (YA (YA h));exact h.eq (by simp)
def grow1(rev:B0)(conc:Int)(F:ze):ze:={ F with l:=F.l++[⟨F.last+1,rev,⟨1,conc,[]⟩⟩],last:=F.last+1 }
def grow(rev:B0)(conc:Int):Nat→ze→ze
 | 0,F=>F
 | n+1,F=>grow1 rev conc (grow rev conc n F)
def qD(rev:B0)(F:ze):ze:={ F with l:=YJ F.l (Vf F.l rev) λp=>(yy p).1 }
def shrink(rev:B0):Nat→ze→ze×List Int
 | 0,F=>(F,[])
 | n+1,F=>((shrink rev n (qD rev F)).1,Vf F.l rev::(shrink rev n (qD rev F)).2)
def qM(F:ze)(rev:B0)(want:Int):Nat:=(min (want-ZA F.l rev) (F.room-F.l.length)).toNat
def xo(F:ze)(rev:B0)(want:Int):Nat:=((ZA F.l rev:Int)-max want 0).toNat
def yT(F:ze)(rev:B0)(conc want:Int):ze:=grow rev conc (qM F rev want) F
def ob(F:ze)(rev:B0)(want:Int):List Int:=(List.range (qM F rev want)).map λj:Nat=>F.last+1+(j:Int)
def Ys(F:ze)(rev:B0)(conc want:Int):ze×List Int:=shrink rev (xo (yT F rev conc want) rev want) (yT F rev conc want)
section
variable {F:ze}{rev:B0}{conc:Int}
def KH(n:Nat):(grow rev conc n F).last=F.last+n:=by
 induction n with
 | zero=>simp[grow]
 | succ n ih=>simp only[grow,grow1,ih];omega
def gy(n:Nat):(grow rev conc n F).room=F.room:=by
 induction n with
 | zero=>rfl
 | succ n ih=>simp only[grow,grow1,ih]
def VM(n:Nat):(grow rev conc n F).l.length=F.l.length+n:=by
 induction n with
 | zero=>rfl
 | succ n ih=>simp only[grow,grow1,List.length_append,ih,List.length_singleton];omega
def He(a b:List Zg):revs (a++b) rev=revs a rev++revs b rev:=List.filter_append ..
def oc(a b:List Zg):ZA (a++b) rev=ZA a rev+ZA b rev:=by
 unfold ZA;rw[He,List.filter_append,List.length_append]
def Mg(l:List Zg):ZA l rev≤l.length:=Nat.le_trans (List.length_filter_le ..) (List.length_filter_le ..)
def nF(n:Nat):ZA (grow rev conc n F).l rev=ZA F.l rev+n:=by
 induction n with
 | zero=>rfl
 | succ n ih=>
  simp only[grow,grow1];rw[oc,ih];have:ZA [(⟨(grow rev conc n F).last+1,rev,⟨1,conc,[]⟩⟩:Zg)] rev=1:=by simp[ZA,revs,fP]
  rw[this];rfl
def nG(ok:F.Ok)(h1:F.l.length+1<100000000)(h2:F.last+1<4611686018427387904):(grow1 rev conc F).Ok:=by
 have lo:=ok.lo;refine⟨?_,?_,?_,?_,?_,?_,h2⟩
 ·simp only[grow1,List.pairwise_append,List.pairwise_singleton,List.mem_singleton];exact⟨ok.pw,trivial,λa ha b hb=>by subst hb;have:=(ok.rng a ha).2;simp only;omega⟩
 ·intro x hx;simp only[grow1,List.mem_append,List.mem_singleton]at hx ⊢;rcases hx with hx | rfl
  ·have:=ok.rng x hx;omega
  ·simp only;omega
 ·intro x hx;simp only[grow1,List.mem_append,List.mem_singleton]at hx;rcases hx with hx | rfl
  ·exact ok.live x hx
  ·simp
 ·simp only[grow1,List.pairwise_append,List.pairwise_singleton,List.mem_singleton];exact⟨ok.once,trivial,λa ha b hb q hq1 hq2=>by subst hb;simp at hq2⟩
 ·simp only[grow1,List.length_append,List.length_singleton];exact h1
 ·simp only[grow1];omega
def aa(l:List Zg)(x:Zg)(hx:x.pod.reqs = [])(q:Int):Zu (l++[x]) q=Zu l q:=by
 unfold Zu;rw[List.find?_append,List.find?_cons_of_neg (by simp[hx])];simp
def bG(l:List Zg)(a:Int×Int×Int):Prop:=(a=(0,3,0)∧∀y∈l,fP y=false)∨∃x∈l,a=(x.id,x.pod.st,(x.pod.reqs.length:Int))∧fP x=true
def bG.step{l:List Zg}{a:Int×Int×Int}{x:Zg}(h:bG l a)(hx:x.pod.st=1∨x.pod.st=2∨x.pod.st=3):bG (l++[x]) (Gr a x):=by
 unfold Gr;by_cases h3:x.pod.st=3
 ·rw[if_pos h3];rcases h with ⟨rfl,h⟩ | ⟨y,hy,h⟩
  ·refine .inl ⟨rfl,λy hy=>?_⟩;rcases List.mem_append.1 hy with hy | hy
   ·exact h y hy
   ·simp at hy;subst hy;simp[fP,h3]
  ·exact .inr ⟨y,by simp[hy],h⟩
 ·rw[if_neg h3];have hup:fP x=true:=by simp[fP,h3]
  by_cases hc:x.pod.st<a.2.1∨(x.pod.st=a.2.1∧(x.pod.reqs.length:Int)≤a.2.2)
  ·rw[if_pos hc];exact .inr ⟨x,by simp,rfl,hup⟩
  ·rw[if_neg hc];rcases h with ⟨rfl,h⟩ | ⟨y,hy,h⟩
   ·exact absurd (.inl (by simp only;omega)) hc
   ·exact .inr ⟨y,by simp[hy],h⟩
def bG.all:∀{l2 l1:List Zg}{a:Int×Int×Int},bG l1 a→(∀x∈l2,x.pod.st=1∨x.pod.st=2∨x.pod.st=3)→bG (l1++l2) (l2.foldl Gr a)
 | [],l1,a,h,_=>by simpa using h
 | x::l2,l1,a,h,hx=>by
  have:=bG.all (l2:=l2) (h.step (hx x (by simp))) (λy hy=>hx y (by simp[hy]));simpa using this
def gh(ok:F.Ok)(hc:0<ZA F.l rev):∃x,Xd F.l (Vf F.l rev)=some x∧x.rev=rev∧(x.pod.st=1∨x.pod.st=2):=by
 have hr:∀x∈revs F.l rev,x∈F.l∧x.rev=rev:=λx hx=>⟨(List.mem_filter.1 hx).1,of_decide_eq_true (List.mem_filter.1 hx).2⟩;have h:=bG.all (l1:=[]) (a:=(0,3,0)) (l2:=revs F.l rev) (.inl ⟨rfl,by simp⟩) λx hx=>ok.live x (hr x hx).1;rw[List.nil_append]at h;rcases h with ⟨-,h⟩ | ⟨x,hx,ha,hup⟩
 ·exfalso;unfold ZA at hc;rw[List.filter_eq_nil_iff.2 (λy hy=>by simp[h y hy])]at hc;simp at hc
 ·refine⟨x,?_,(hr x hx).2,?_⟩
  ·unfold Vf;rw[ha];exact XA ok.pw (hr x hx).1
  ·have:=ok.live x (hr x hx).1;have:x.pod.st≠3:=of_decide_eq_true hup;omega
def FM{p:YZ}(h:p.st=1∨p.st=2):(yy p).1 = { p with st:=if p.reqs = []then 4 else 3 }:=by
 unfold yy;rw[if_neg (by omega)]
def cJ(ok:F.Ok)(hc:0<ZA F.l rev):(qD rev F).Ok:=by
 obtain⟨x,hx,-,hst⟩:=gh ok hc;refine ok.upd hx _ ?_ ?_
 ·rw[FM hst];simp only;split<;>simp
 ·rw[FM hst];exact λq hq=>.inl hq
def GK(ok:F.Ok)(hc:0<ZA F.l rev):ZA (qD rev F).l rev+1=ZA F.l rev:=by
 obtain⟨x,hx,hrev,hst⟩:=gh ok hc;obtain⟨hm,hid⟩:=YS hx;obtain⟨A,B,hl⟩:=List.append_of_mem hm;have pw:=ok.pw;show ZA (YJ F.l (Vf F.l rev) λp=>(yy p).1) rev+1=_;rw[←hid];rw[hl]at pw ⊢;rw[Mf pw,oc,oc,oc,show x::B = [x]++B from rfl,oc,FM hst];have h1:ZA [x] rev=1:=by
  have:x.pod.st≠3:=by omega
  simp[ZA,revs,fP,hrev,this]
 have h2:ZA (if(if x.pod.reqs = []then(4:Int)else 3)=4 then []else [({ x with pod:={ x.pod with st:=if x.pod.reqs = []then 4 else 3 } }:Zg)]) rev=0:=by
  by_cases hq:x.pod.reqs = []
  ·simp[hq,ZA,revs]
  ·simp[hq,ZA,revs,hrev,fP]
 simp only at h2 ⊢;rw[h1,h2];omega
end
def Iv(h:St w0 E w)(i:Nat){b:Nat}{F:ze}{s:Seg}(hi:nth E i=some s)(hf:FlS b F s){rev:B0}{conc want:Int}(hroom:F.room<100000000)(hlast:F.last+F.room<4611686018427387904){k:Sl×Sl×Unit→PT}
  (hk:∀v1 v2 s' s1 s2 w',FlS b (Ys F rev conc want).1 s'→Rw eI zx 1 v1 (ob F rev want) s1→Rw eI zx 1 v2 (Ys F rev conc want).2 s2→St w0 (s2::s1::zd E i s') w'→k (v1,v2,()) w') :
  L.call Pr ui [pO b,.string rev,I conc,I want] (.tup [.one .slice,.one .slice]) k w:=by
 have hfew:=hf.1.few;have hcl:=Mg F.l (rev:=rev);refine za (MB _ _ _ _) ?_;unfold kS;refine z5z h i hi hf λw h=>?_;have h:=h.front i hi;have hg:(qM F rev want:Int)=max 0 (min (want-ZA F.l rev) (F.room-F.l.length)):=by unfold qM;omega
 refine Zz (λz w=>∃v sv s,z=(v,((ZA F.l rev+qM F rev want:Nat):Int),())∧FlS b (yT F rev conc want) s∧Rw eI zx 1 v (ob F rev want) sv∧St w0 (s::sv::Zv E i) w) (λk2 hk2=>?_) ?_
 ·refine zT (λq y w=>∃(j:Nat)(v:Sl)(sv s:Seg),y=(v,((ZA F.l rev+j:Nat):Int),())∧q+j=qM F rev want∧FlS b (grow rev conc j F) s∧Rw eI zx 1 v ((List.range j).map λj:Nat=>F.last+1+(j:Int)) sv∧St w0 (s::sv::Zv E i) w)
   (qM F rev want) ⟨0,⟨none,0,0⟩,[],s,rfl,rfl,hf,Rw.nil,h.eq (by simp)⟩ ?_
  clear hf;clear h;rintro q y w ⟨j,v,sv,s,rfl,hq,hf,hv,h⟩ again hag
  (try dsimp only)
  have hf':=hf;obtain⟨ok,rA,rW,mA,mW,sA,sW,L,hA,hW,hr,rfl⟩:=hf;have hlj:=VM (F:=F) (rev:=rev) (conc:=conc) j;have hla:=KH (F:=F) (rev:=rev) (conc:=conc) j;have hro:=gy (F:=F) (rev:=rev) (conc:=conc) j;have lo:=ok.lo;have h:St w0 (flB b rA rW (grow rev conc j F)::sA::sW::(L.map trS).flatten::sv::Zv E i) w:=h.eq (by simp);have stop:∀{w},j=qM F rev want→St w0 (flB b rA rW (grow rev conc j F)::sA::sW::(L.map trS).flatten::sv::Zv E i) w→k2 (v,((ZA F.l rev+j:Nat):Int),()) w:=by
   rintro w rfl h;exact hk2 _ w ⟨v,sv,_,rfl,hf',hv,h.eq (by simp)⟩
  (refine dr h ?_;clear h;intro w h)
  refine it (λhc=>?_) (λhc=>?_)<;>(try simp only[zB]at hc)
  ·(refine nn ?_;refine ldC h ?_)
   refine MpS.len xz h 1 rfl hA ?_;rw[hr.len,hlj]
   (refine nn ?_;refine ldC h ?_)
   refine it (λhd=>?_) (λhd=>?_)<;>(try simp only[zB]at hd)
   ·(refine nn ?_;refine ldC h ?_;refine nn ?_;refine stC h ?_;clear h;intro w h;dsimp only[zJ,zd]at h;refine dr h ?_;clear h;intro w h;refine nn ?_;refine ldC h ?_;refine nn ?_;refine ldC h ?_)
    refine z3r h λb' s' w hp h=>?_;rw[wr (by omega) (by omega)]at h;rw[wr (by omega) (by omega)]
    (refine ckC h ?_;refine ckC h ?_)
    refine MpS.set mkI xz h 2 rfl hA (rev,some ⟨b',0,none⟩) rfl λsA' w hA' h=>?_
    (dsimp only[zd,List.cons_append,List.nil_append]at h;refine nn ?_;refine ldC h ?_)
    refine nw h ?_;clear h;intro b21 w h;refine Rw.app Yy elI h 5 rfl hv (F.last+1+(j:Int)) (by rw[hla,eI];congr 2;omega) (by simp;omega) (by simp;omega) λv' sv' w hv' h=>?_;have hg0:zr mA ((grow rev conc j F).last+1)=none:=hr.get0 (by
     unfold Xd;rw[List.find?_eq_none];intro x hx;have:=(ok.rng x hx).2;simp;omega)
    refine hag (q-1) _ w (by omega) ⟨j+1,v',sv',flB b rA rW (grow rev conc (j+1) F)++(sA'++(sW++((L++[((⟨(grow rev conc j F).last+1,rev,⟨1,conc,[]⟩⟩:Zg),b',s')]).map trS).flatten)),?_,by omega,⟨?_,rA,rW,_,mW,sA',sW,L++[((⟨(grow rev conc j F).last+1,rev,⟨1,conc,[]⟩⟩:Zg),b',s')],hA',hW,⟨?_,?_,?_,?_⟩,rfl⟩,?_,?_⟩
    ·rw[wr (by omega) (by omega)];congr 2
    ·exact nG ok (by omega) (by omega)
    ·simp only[grow,grow1,List.map_append,hr.l];rfl
    ·intro t ht;rcases List.mem_append.1 ht with ht | ht
     ·exact hr.ps t ht
     ·simp only[List.mem_singleton]at ht;subst ht;exact hp
    ·rw[Xy hg0,List.map_append];exact hr.all.append_right _
    ·intro q;rw[hr.wth];simp only[grow,grow1];rw[aa _ _ rfl]
    ·rw[List.range_succ,List.map_append];exact hv'
    ·have h:=yO (Yh h);have h:=St.addEnd (g:=trS) (t:=((⟨(grow rev conc j F).last+1,rev,⟨1,conc,[]⟩⟩:Zg),b',s')) h;have h:=Yh (Yh (Yh (yO (Yh h))));exact h.eq (by simp[grow,grow1])
   ·exact stop (by omega) h
  ·exact stop (by omega) h
 ·rintro z w ⟨v,sv,s,rfl,hf,hv,h⟩
  (try dsimp only)
  have hlg:=VM (F:=F) (rev:=rev) (conc:=conc) (qM F rev want);have hmade:(ob F rev want).length=qM F rev want:=by simp[ob]
  have hcg:=nF (F:=F) (rev:=rev) (conc:=conc) (qM F rev want);rw[←hcg];have hcle:=Mg (grow rev conc (qM F rev want) F).l (rev:=rev)
  refine zT (λq y w=>∃(F2:ze)(gone:List Int)(v2:Sl)(s2 s:Seg),y=(v2,((ZA F2.l rev:Nat):Int),())∧q=xo F2 rev want∧gone.length+q=xo (yT F rev conc want) rev want∧FlS b F2 s∧Rw eI zx 1 v2 gone s2∧
   (shrink rev q F2).1=(Ys F rev conc want).1∧gone++(shrink rev q F2).2=(Ys F rev conc want).2∧St w0 (s::s2::sv::Zv E i) w)
   (xo (yT F rev conc want) rev want) ⟨yT F rev conc want,[],⟨none,0,0⟩,[],s,rfl,rfl,by simp,hf,Rw.nil,rfl,rfl,h.eq (by simp)⟩ ?_
  clear hf;clear h;rintro q y w ⟨F2,gone,v2,s2,s,rfl,hq,hgl,hf,hv2,hF,hG,h⟩ again hag
  (try dsimp only)
  have hcl2:=Mg F2.l (rev:=rev);have hq':(q:Int)=max 0 ((ZA F2.l rev:Int)-max want 0):=by rw[hq];unfold xo;omega
  have hgn:(xo (yT F rev conc want) rev want:Int)≤F.l.length+qM F rev want:=by unfold xo yT;omega
  have hfew2:=hf.1.few;refine it (λhc=>?_) (λhc=>?_)<;>(try simp only[zB]at hc)
  ·have hc0:max want 0<(ZA F2.l rev:Int):=by split at hc<;>omega
   obtain⟨q',rfl⟩:∃q',q=q'+1:=⟨q-1,by omega⟩;refine Iu h 0 rfl hf λw h=>?_;obtain⟨x,hx,hrev,hst⟩:=gh hf.1 (rev:=rev) (by omega);have okd:=cJ hf.1 (rev:=rev) (by omega);have hcd:=GK hf.1 (rev:=rev) (by omega);obtain⟨ok,rA,rW,mA,mW,sA,sW,L,hA,hW,hr,rfl⟩:=hf;obtain⟨A,t,B,rfl,rfl,hid⟩:=hr.at hx;have h:St w0 (flB b rA rW F2::sA::sW::((A++t::B).map trS).flatten::s2::sv::Zv E i) w:=h.eq (by simp)
   (refine nn ?_;refine ldC h ?_)
   refine MpS.get mkI xz zo (λx:B0×Option Addr=>(x.1,x.2,())) (λ_=>rfl) h 1 rfl hA ?_;have hg:=hr.get ok (t:=t) (by simp);have hp:=hr.ps t (by simp);rw[←hid,hg];simp only[Option.map_some,Option.getD_some];have h:=YA h;have h:=h.pick;refine Iq h 0 rfl hp λs' w hp' h=>?_;have h:St w0 (trS ({ t.1 with pod:=(yy t.1.pod).1 },t.2.1,s')::((A++B).map trS).flatten::flB b rA rW F2::sA::sW::s2::sv::Zv E i) w:=h;have h:=h.place;have h:=YA (YA (YA h));have hdp:=FM hst;have hrq:(yy t.1.pod).1.reqs=t.1.pod.reqs:=by rw[hdp]
   have h4:(yy t.1.pod).1.st=4→t.1.pod.reqs = []:=by
    rw[hdp];simp only;intro h;apply Classical.byContradiction;intro hne;simp[hne]at h
   have hwth:∀q,zr mW q=(Zu (YJ F2.l t.1.id λp=>(yy p).1) q).map (·.id):=λq=>by
    rw[hr.wth,nQ ok.pw (YS hx).1 hrq h4]
   have fin:∀{s w},FlS b (qD rev F2) s→St w0 (s::s2::sv::Zv E i) w→L.new [I t.1.id] zx (λb31=>
     L.sem Pr (.one (.one .slice)) (Builtin.append_ #[ZS,ZS] ZS #[.slice v2.a v2.len v2.cap,.slice (some ⟨b31,0,none⟩) 1 1]) λ(s32:Sl)=>
     again (⟨s32.a,s32.len,s32.cap⟩,Wi ((ZA F2.l rev:Nat)-1),())) w:=by
    intro s w hf h;refine nw h ?_;clear h;intro b31 w h;refine Rw.app Yy elI h 1 rfl hv2 t.1.id rfl (by omega) (by omega) λv' s' w hv' h=>?_;refine hag q' _ w (by omega) ⟨qD rev F2,gone++[t.1.id],v',s',s,?_,?_,?_,hf,hv',?_,?_,h⟩
    ·rw[wr (by omega) (by omega)];congr 2;omega
    ·unfold xo;omega
    ·simp only[List.length_append,List.length_singleton];omega
    ·exact hF
    ·rw[List.append_assoc,hid];exact hG
   refine aK (t:=({ t.1 with pod:=(yy t.1.pod).1 },t.2.1,s')) h hA hg hp' (λh4'=>?_) λh4' sA' w hA' h=>?_
   ·refine fin (s:=flB b rA rW F2++(sA++(sW++((A++({ t.1 with pod:=(yy t.1.pod).1 },t.2.1,s')::B).map trS).flatten))) ⟨okd,rA,rW,mA,mW,sA,sW,_,hA,hW,?_,rfl⟩ (h.eq (by simp));have:=hr.upd ok (λp=>(yy p).1) hp' h4' hwth;unfold qD;rw[←hid];exact this
   ·refine fin (s:=flB b rA rW F2++(sA'++(sW++((A++B).map trS).flatten))) ⟨okd,rA,rW,_,mW,sA',sW,_,hA',hW,?_,rfl⟩ (h.eq (by simp));have:=hr.del ok (λp=>(yy p).1) h4' hwth;unfold qD;rw[←hid];exact this
  ·have e0:q=0:=by split at hc<;>omega
   subst e0;have e1:F2=(Ys F rev conc want).1:=hF;have e2:gone=(Ys F rev conc want).2:=by rw[←hG];simp[shrink]
   refine gG h (hv.rd Yy h 2 rfl) (by omega) (Rw.nil_of Yy hv) λv1 s1 w hr1 _ h=>?_;refine gG h (hv2.rd Yy h 2 rfl) (by omega) (Rw.nil_of Yy hv2) λv3 s3 w hr3 _ h=>?_;refine⟨_,rfl,hk v1 v3 s s1 s3 w (by rw[←e1];exact hf) hr1 (by rw[←e2];exact hr3) ?_⟩;have h:=VP (ko h);have h:=ZL (yO (yO h));exact St.back (i+2) (E:=s3::s1::E) hi h
end Go.Proofs.YtimahgbgejngiaaGreatDoor
namespace Go.Proofs.YtimahgbgejngiaaGreatDoor
open Go.Dm
attribute [local irreducible] L.load L.store L.chk L.new L.nonnil L.guard L.ite L.draw L.idx L.sem L.semR L.semU L.chkSem L.next L.call L.callV L.join L.alts L.loop L.begin L.endRound L.range
variable {w0 w:World}{E:List Seg}
def eC(p:Int×Int):List Value:=[I p.1,I p.2]
def UD:Enc eC 2:=⟨λ_=>rfl,λ_=>rfl,by decide⟩
def elC:El Pr yi zz 2 16 (.agg #[I 0,I 0]):=gB (by kernel_rfl) (by kernel_rfl) rfl (by decide)
def Rw.stC{v:Sl}{l:List (Int×Int)}{s:Seg}{e:Nat}(h:St w0 E w)(k:Nat)(hi:nth E k=some s)(hr:Rw eC e 2 v l s){i:Nat}{a:Addr}(ha:ElA v 2 i a)(hx:i<l.length)(y:Int×Int){kk:PT}
  (hk:∀s' w',Rw eC e 2 v (l.set i y) s'→St w0 (zd E k s') w'→kk w'):L.store a [I y.1,I y.2] kk w:=by
 obtain⟨a0,hv,rfl⟩:=ha;have hx0:l[i]? = some l[i]:=List.getElem?_eq_getElem hx;generalize l[i]=x at hx0;have e1:zd (fl eC l) (i*2+0) (I y.1)=fl eC (l.set i (y.1,x.2)):=Lb UD hx0 (by decide) rfl;have e2:zd (fl eC (l.set i (y.1,x.2))) (i*2+1) (I y.2)=fl eC ((l.set i (y.1,x.2)).set i y):=Lb UD (x:=(y.1,x.2)) (by simp[hx]) (by decide) rfl;rw[List.set_set]at e2;have hset:zd (zd (fl eC l) (i*2+0) (I y.1)) (i*2+1) (I y.2)=fl eC (l.set i y):=by rw[e1,e2]
 have hlt:i*2+1<(fl eC l).length:=by rw[Qn UD];omega
 unfold Rw at hr hk;rw[←hset]at hk;have hlen2:(zd (zd (fl eC l) (i*2+0) (I y.1)) (i*2+1) (I y.2)).length=(fl eC l).length:=by rw[YG,YG];simp
 have hlen1:(zd (fl eC l) (i*2+0) (I y.1)).length=(fl eC l).length:=by rw[YG];simp
 generalize fl eC l=xs at *
 cases hr with
 | nil=>cases hv
 | mk g n cap pre xs spare post h1 h2 h3 h4=>
  cases hv
  rw[jM];have hn:∀j,j≤1→∃c,nth (pre++(xs++(spare++post))) (pre.length+(i*2+j))=some c:=λj hj=>by
   rw[xH,uR (by omega),zP];exact⟨_,List.getElem?_eq_getElem (by omega)⟩
  refine stx [I y.1,I y.2] h k hi ?_ rfl λw' h=>hk _ w' (Row.mk g n cap pre _ spare post (by rw[hlen2];exact h1) (by rw[hlen2];exact h2) h3 h4) ?_
  ·obtain⟨c0,hc0⟩:=hn 0 (by omega);obtain⟨c1,hc1⟩:=hn 1 (by omega);simp only[Nat.add_zero]at hc0;simp[cC,hc0,hc1,Nat.add_assoc]
  ·simp only[zJ]at h;have q1:zd (xs++(spare++post)) (i*2+0) (I y.1)=zd xs (i*2+0) (I y.1)++(spare++post):=VF (by omega);have q2:zd (zd xs (i*2+0) (I y.1)++(spare++post)) (i*2+1) (I y.2)=zd (zd xs (i*2+0) (I y.1)) (i*2+1) (I y.2)++(spare++post):=VF (by omega);rw[show pre.length+i*2=pre.length+(i*2+0)from rfl,UL,q1,show pre.length+(i*2+0)+1=pre.length+(i*2+1)by omega,UL,q2]at h;exact h
def KZ(x:Int×Int):List (Int×Int)→List (Int×Int)
 | []=>[x]
 | y::l=>if x.1<y.1 then x::y::l else y::KZ x l
def YM(l:List (Int×Int)):List (Int×Int):=l.foldl (λa x=>KZ x a) []
def KG(x:Int×Int)(l:List (Int×Int)):(KZ x l).Perm (x::l):=by
 induction l with
 | nil=>exact .refl _
 | cons y l ih=>
  simp only[KZ];split
  ·exact .refl _
  ·exact(ih.cons y).trans (.swap ..)
def AH{x:Int×Int}:∀{l:List (Int×Int)},l.Pairwise (λa b=>a.1≤b.1)→(KZ x l).Pairwise (λa b=>a.1≤b.1)
 | [],_=>by simp[KZ]
 | y::l,h=>by
  rw[List.pairwise_cons]at h;simp only[KZ];split
  ·rename_i hy;rw[List.pairwise_cons];refine⟨λz hz=>?_,List.pairwise_cons.2 h⟩;rcases List.mem_cons.1 hz with rfl | hz
   ·omega
   ·have:=h.1 z hz;omega
  ·rename_i hy;rw[List.pairwise_cons];refine⟨λz hz=>?_,AH h.2⟩;rcases List.mem_cons.1 ((KG x l).mem_iff.1 hz)with rfl | hz
   ·omega
   ·exact h.1 z hz
def ap{l:List (Int×Int)}{i:Nat}{x:Int×Int}(h:l[i]? = some x):YM (l.take (i+1))=KZ x (YM (l.take i)):=by
 unfold YM;rw[List.take_add_one,h,List.foldl_append];rfl
def js(l:List (Int×Int)):(YM l).length=l.length:=by
 suffices ∀(l a:List (Int×Int)),(l.foldl (λa x=>KZ x a) a).length=a.length+l.length by
  have:=this l [];simpa [YM]using this
 intro l
 induction l with
 | nil=>simp
 | cons x l ih=>intro a;rw[List.foldl_cons,ih,(KG x a).length_eq];simp;omega
def bu(l:List (Int×Int)):(YM l).Pairwise (λa b=>a.1≤b.1):=by
 suffices ∀(l a:List (Int×Int)),a.Pairwise (λa b=>a.1≤b.1)→(l.foldl (λa x=>KZ x a) a).Pairwise (λa b=>a.1≤b.1)from this l [] .nil
 intro l
 induction l with
 | nil=>exact λa h=>h
 | cons x l ih=>exact λa h=>ih _ (AH h)
def AI{x:Int×Int}:∀{A B:List (Int×Int)},(∀y∈A,¬x.1<y.1)→(∀y∈B,x.1<y.1)→KZ x (A++B)=A++x::B
 | [],[],_,_=>rfl
 | [],y::B,_,h=>by simp only[List.nil_append,KZ];rw[if_pos (h y (by simp))]
 | y::A,B,h1,h2=>by
  simp only[List.cons_append,KZ];rw[if_neg (h1 y (by simp)),AI (λz hz=>h1 z (by simp[hz])) h2]
def uL{E:List Seg}{i:Nat}{s s':Seg}(hi:nth E i=some s):nth (zd E i s') i=some s':=by
 rw[zP]at *
 rw[YG,List.getElem?_set_self];exact(List.getElem?_eq_some_iff.1 hi).1
def qL{E:List Seg}{i:Nat}{s s':Seg}:zd (zd E i s) i s'=zd E i s':=by
 rw[YG,YG,YG,List.set_set]
abbrev dC:Value:=.func (.func Zj) #[] #[]
def IA(h:St w0 E w){a b c d:Int}(h1: -4611686018427387904<a∧a<4611686018427387904)(h2: -4611686018427387904<c∧c<4611686018427387904){k:Int→PT}(hk:∀w',St w0 E w'→k (a-c) w') :
  L.callV Pr dC [.agg #[I a,I b],.agg #[I c,I d]] (.one (.one (.int .i64))) k w:=by
 refine jK (fs:=#[]) (cs:=#[]) my (mK (a,b,()) (c,d,())) ?_;unfold VX;refine nw h ?_;clear h;intro b1 w h;refine nw h ?_;clear h;intro b2 w h
 (dsimp only[zd,List.cons_append,List.nil_append]at h;refine ldC h ?_;refine ldC h ?_)
 refine⟨_,rfl,?_⟩
 (try dsimp only)
 rw[wr (by omega) (by omega)];exact hk w (zm (zm h))
def z3b{α:Type}{Q T:List α}{z x:α}:(Q++z::x::T)[Q.length]? = some z∧(Q++z::x::T)[Q.length+1]? = some x∧((Q++z::x::T).set (Q.length+1) z).set Q.length x=Q++x::z::T:=by
 refine⟨by simp,by simp,by simp[List.set_append]⟩
def Nf(h:St w0 E w)(i:Nat){s:Seg}(hi:nth E i=some s){v:Sl}{P M R:List (Int×Int)}(hr:Rw eC zz 2 v (P++(M++R)) s)(hn:(P++(M++R)).length<1000000000)
  (hb:∀x∈M,-4611686018427387904<x.1∧x.1<4611686018427387904) {a b:Int} (ha:a=P.length) (hbb:b=P.length+M.length) {k:Unit→PT} (hk:∀s' w',Rw eC zz 2 v (P++(YM M++R)) s'→St w0 (zd E i s') w'→k () w') :
  L.call Pr ZV [.slice v.a v.len v.cap,I a,I b,dC] (.tup []) k w:=by
 subst ha hbb;refine za (qe _ _ _ ⟨.func Zj,#[],#[]⟩) ?_;unfold jm;have hlen:=Rw.len UD hr;simp only[List.length_append]at hn hlen;rw[wr (by omega) (by omega)];have hcb:∀m,∀x∈YM (M.take m),x∈M:=λm x hx=>by
  have:(YM (M.take m)).Perm (M.take m):=by
   suffices ∀(l a:List (Int×Int)),(l.foldl (λa x=>KZ x a) a).Perm (a++l)from by simpa [YM]using this (M.take m) []
   intro l
   induction l with
   | nil=>intro a;simp
   | cons y l ih=>
    intro a;refine(ih _).trans (((KG y a).append_right l).trans ?_);exact(List.perm_middle (a:=y) (l₁:=a) (l₂:=l)).symm
  exact List.mem_of_mem_take (this.mem_iff.1 hx)
 have h1:YM (M.take 1)=M.take 1:=by cases M<;>rfl
 refine zT (λq y w=>∃(m:Nat)(s:Seg),y=(((P.length+m:Nat):Int),())∧1≤m∧q+m=max 1 M.length∧Rw eC zz 2 v (P++(YM (M.take m)++(M.drop m++R))) s∧St w0 (zd E i s) w) (max 1 M.length-1)
  ⟨1,s,rfl,by omega,by omega,by rw[h1,←List.append_assoc (M.take 1),List.take_append_drop];exact hr,by rwa [yM hi]⟩ ?_
 clear hr;clear h;rintro q y w ⟨m,s,rfl,hm,hq,hr,h⟩ again hag
 (try dsimp only)
 refine it (λhc=>?_) (λhc=>?_)<;>(try simp only[zB]at hc)
 ·have hm2:m<M.length:=by omega
  have hx:M[m]? = some M[m]:=List.getElem?_eq_getElem hm2;have hxm:M[m]∈M:=List.getElem_mem hm2;have hdrop:M.drop m=M[m]::M.drop (m+1):=List.drop_eq_getElem_cons hm2;have hct:=ap hx;have hcl:=js (M.take m);rw[List.length_take,Nat.min_eq_left (by omega)]at hcl;have hpw:=bu (M.take m);generalize M[m]=x at *
  rw[hdrop]at hr;have hnT:(M.drop (m+1)).length=M.length-(m+1):=List.length_drop ..;refine Zz (λz w=>∃s,Rw eC zz 2 v (P++(YM (M.take (m+1))++(M.drop (m+1)++R))) s∧St w0 (zd E i s) w) (λk3 hk3=>?_) (λz w ⟨s,hr,h⟩=>?_)
  ·refine zT (λq y w=>∃(A B:List (Int×Int))(s:Seg),y=(((P.length+A.length:Nat):Int),())∧q=A.length∧A++B=YM (M.take m)∧(∀y∈B,x.1<y.1)∧Rw eC zz 2 v ((P++A)++x::(B++(M.drop (m+1)++R))) s∧St w0 (zd E i s) w) m
    ⟨YM (M.take m),[],s,by rw[hcl],hcl.symm,by simp,by simp,by simpa [List.append_assoc]using hr,h⟩ ?_
   clear hr;clear h;rintro q2 y w ⟨A,B,s,rfl,hq2,hAB,hB,hr,h⟩ again2 hag2
   (try dsimp only)
   have stop:∀{w},(∀y∈A,¬x.1<y.1)→St w0 (zd E i s) w→k3 () w:=by
    intro w hA h;refine hk3 _ w ⟨s,?_,h⟩;rw[hct,←hAB,AI hA hB];simpa [List.append_assoc]using hr
   have hsi:nth (zd E i s) i=some s:=uL hi;refine dr h λw h=>?_;refine it (λhd=>?_) (λhd=>?_)<;>(try simp only[zB]at hd)
   ·have hA0:A≠[]:=λe=>by subst e;simp at hd
    obtain⟨A',z,rfl⟩:∃A' z,A=A'++[z]:=⟨A.dropLast,A.getLast hA0,(List.dropLast_concat_getLast hA0).symm⟩;have eL:(P++(A'++[z]))++x::(B++(M.drop (m+1)++R))=(P++A')++z::x::(B++(M.drop (m+1)++R)):=by simp
    rw[eL]at hr;obtain⟨g1,g2,g3⟩:=z3b (Q:=P++A') (z:=z) (x:=x) (T:=B++(M.drop (m+1)++R));have hlA:(P++A').length=P.length+A'.length:=List.length_append ..;have hl2:=congrArg List.length hAB;simp only[List.length_append,List.length_singleton,hcl]at hl2 hd hq2 ⊢;have hzM:z∈M:=hcb m z (by rw[←hAB];simp);have ix1:((P.length+(A'.length+1):Nat):Int).toNat=(P++A').length+1:=by rw[Int.toNat_natCast];omega
    have ix0:(((P.length+(A'.length+1):Nat):Int)-1).toNat=(P++A').length:=by omega
    have lt1:(P++A').length+1<((P++A')++z::x::(B++(M.drop (m+1)++R))).length:=by simp only[List.length_append,List.length_cons];omega
    rw[wr (n:=((P.length+(A'.length+1):Nat):Int)-1) (by omega) (by omega)];refine Rw.ix UD hr (by omega) (by rw[ix1];exact lt1) λa ha=>?_;rw[ix1]at ha;refine Rw.lda UD h i hsi hr ha g2 rfl ?_;refine Rw.ix UD hr (by omega) (by rw[ix0];omega) λa2 ha2=>?_;rw[ix0]at ha2;refine Rw.lda UD h i hsi hr ha2 g1 rfl ?_;refine IA h (hb x hxm) (hb z hzM) λw h=>?_;refine it (λhe=>?_) (λhe=>?_)<;>(try simp only[zB]at he)
    ·refine dr h λw h=>?_;refine Rw.ix UD hr (by omega) (by rw[ix0];omega) λa3 ha3=>?_;rw[ix0]at ha3;refine Rw.lda UD h i hsi hr ha3 g1 rfl ?_;refine Rw.ix UD hr (by omega) (by rw[ix1];exact lt1) λa4 ha4=>?_;rw[ix1]at ha4;refine Rw.lda UD h i hsi hr ha4 g2 rfl ?_;refine Rw.ix UD hr (by omega) (by rw[ix1];exact lt1) λa5 ha5=>?_;rw[ix1]at ha5;refine Rw.stC h i hsi hr ha5 lt1 z λs1 w hr1 h=>?_;have hs1:nth (zd (zd E i s) i s1) i=some s1:=uL hsi;refine Rw.ix UD hr1 (by omega) (by rw[ix0,List.length_set];omega) λa6 ha6=>?_;rw[ix0]at ha6;refine Rw.stC h i hs1 hr1 ha6 (by rw[List.length_set];omega) x λs2 w hr2 h=>?_;rw[g3]at hr2;refine hag2 (q2-1) _ w (by omega) ⟨A',z::B,s2,?_,by omega,by simpa using hAB,?_,by simpa using hr2,?_⟩
     ·congr 1;omega
     ·intro y hy;rcases List.mem_cons.1 hy with rfl | hy
      ·omega
      ·exact hB y hy
     ·rwa [qL,qL]at h
    ·refine stop (λy hy=>?_) h;rw[←hAB,List.pairwise_append]at hpw;have hpw:=hpw.1;rw[List.pairwise_append]at hpw;rcases List.mem_append.1 hy with hy | hy
     ·have:=hpw.2.2 y hy z (by simp);omega
     ·simp at hy;subst hy;omega
   ·have:A = []:=List.eq_nil_of_length_eq_zero (by omega);subst this;exact stop (by simp) h
  ·refine hag (q-1) _ w (by omega) ⟨m+1,s,?_,by omega,by omega,hr,h⟩;rw[wr (by omega) (by omega)];congr 1
 ·have e:M.drop m = []:=List.drop_eq_nil_of_le (by omega);have e2:M.take m=M:=List.take_of_length_le (by omega);rw[e,e2,List.nil_append]at hr;exact⟨(),rfl,hk s w hr h⟩
def z0u{a b:Int}(ha:0≤a)(hb:0≤b)(h:a+b<4611686018427387904):Wi (Int.fdiv (IntKind.wrap .u64 (Wi (a+b))) (2 ^ (min (Int.toNat 1) 64)))=(a+b)/2:=by
 rw[wr (n:=a+b) (by omega) (by omega)];have e:IntKind.wrap .u64 (a+b)=a+b:=by
  unfold IntKind.wrap;have h1:(IntKind.u64.signed)=false:=rfl;have h2:(2 ^ IntKind.u64.bits:Int)=18446744073709551616:=by decide
  rw[h1,h2];simp only[Bool.false_and,Bool.false_eq_true,if_false];omega
 rw[e];have e2:(2 ^ (min (Int.toNat 1) 64):Int)=2:=by decide
 rw[e2,Int.fdiv_eq_ediv_of_nonneg _ (by decide),wr (by omega) (by omega)]
def Bc{α:Type}{Q T U:List α}{x y:α}:(Q++x::(T++y::U))[Q.length]? = some x∧(Q++x::(T++y::U))[Q.length+(1+T.length)]? = some y∧
  ((Q++x::(T++y::U)).set Q.length y).set (Q.length+(1+T.length)) x=Q++y::(T++x::U)∧((Q++x::(T++y::U)).set (Q.length+(1+T.length)) x).set Q.length y=Q++y::(T++x::U):=by
 have e:(1+T.length)=T.length+1:=by omega
 rw[e];refine⟨by simp,?_,?_,?_⟩
 ·rw[List.getElem?_append_right (by omega)];simp
 ·simp[List.set_append]
 ·simp[List.set_append]
def Ic{l:List (Int×Int)}(h:St w0 E w)(i:Nat){s:Seg}(hi:nth E i=some s){v:Sl}(hr:Rw eC zz 2 v l s){p q:Int}{x y:Int×Int}(p0:0≤p)(q0:0≤q)(hx:l[p.toNat]? = some x)(hy:l[q.toNat]? = some y){k:PT}
  (hk:∀s' w',Rw eC zz 2 v ((l.set p.toNat y).set q.toNat x) s'→St w0 (zd E i s') w'→k w') :
  (L.draw<| L.idx v.a q v.len 2 λa3=>L.load (.agg [.int .i64,.int .i64]) a3 λ(x4:Int×Int×Unit)=>L.idx v.a p v.len 2 λa5=>L.load (.agg [.int .i64,.int .i64]) a5 λ(x6:Int×Int×Unit)=>
   L.idx v.a p v.len 2 λa7=>L.store a7 [.int .i64 x4.1,.int .i64 x4.2.1]<| L.idx v.a q v.len 2 λa8=>L.store a8 [.int .i64 x6.1,.int .i64 x6.2.1] k) w:=by
 have hp:=(List.getElem?_eq_some_iff.1 hx).1;have hq:=(List.getElem?_eq_some_iff.1 hy).1;refine dr h λw h=>?_;refine Rw.ix UD hr q0 hq λa ha=>?_;refine Rw.lda UD h i hi hr ha hy (y:=(y.1,y.2,())) rfl ?_;refine Rw.ix UD hr p0 hp λa2 ha2=>?_;refine Rw.lda UD h i hi hr ha2 hx (y:=(x.1,x.2,())) rfl ?_;refine Rw.ix UD hr p0 hp λa3 ha3=>?_;refine Rw.stC h i hi hr ha3 hp y λs1 w hr1 h=>?_;refine Rw.ix UD hr1 q0 (by rw[List.length_set];exact hq) λa6 ha6=>?_;refine Rw.stC h i (uL hi) hr1 ha6 (by rw[List.length_set];exact hq) x λs2 w hr2 h=>?_;rw[qL]at h;exact hk s2 w hr2 h
def Lo(h:St w0 E w)(i:Nat){s:Seg}(hi:nth E i=some s){v:Sl}{P A M B R:List (Int×Int)}(hr:Rw eC zz 2 v (P++(A++(M++(B++R)))) s)(hn:(P++(A++(M++(B++R)))).length<1000000000)(hAB:A.length=B.length)
  {a b n:Int} (ha:a=P.length) (hb:b=P.length+(A.length+M.length)) (hnn:n=A.length) {k:Unit→PT} (hk:∀s' w',Rw eC zz 2 v (P++(B++(M++(A++R)))) s'→St w0 (zd E i s') w'→k () w') :
  L.call Pr ZP [.slice v.a v.len v.cap,I a,I b,I n,dC] (.tup []) k w:=by
 subst ha hb hnn;refine za (QB _ _ _ _ ⟨.func Zj,#[],#[]⟩) ?_;unfold Jh;simp only[List.length_append]at hn
 refine zT (λq y w=>∃(j:Nat)(s:Seg),y=((j:Int),())∧q+j=A.length∧Rw eC zz 2 v (P++((B.take j++A.drop j)++(M++((A.take j++B.drop j)++R)))) s∧St w0 (zd E i s) w) A.length
  ⟨0,s,rfl,rfl,by simpa using hr,by rwa [yM hi]⟩ ?_
 clear hr;clear h;rintro q y w ⟨j,s,rfl,hq,hr,h⟩ again hag
 (try dsimp only)
 have hsi:nth (zd E i s) i=some s:=uL hi;refine it (λhc=>?_) (λhc=>?_)<;>(try simp only[zB]at hc)
 ·have hA:A.drop j=A[j]::A.drop (j+1):=List.drop_eq_getElem_cons (by omega);have hB:B.drop j=B[j]::B.drop (j+1):=List.drop_eq_getElem_cons (by omega);have tA:A.take (j+1)=A.take j++[A[j]]:=by rw[List.take_add_one,List.getElem?_eq_getElem (by omega)];rfl
  have tB:B.take (j+1)=B.take j++[B[j]]:=by rw[List.take_add_one,List.getElem?_eq_getElem (by omega)];rfl
  have lA:(A.take j).length=j:=by rw[List.length_take];omega
  have lB:(B.take j).length=j:=by rw[List.length_take];omega
  have dA:(A.drop (j+1)).length=A.length-(j+1):=List.length_drop ..;generalize A[j]=x at *
  generalize B[j]=y at *
  have eD:P++((B.take j++A.drop j)++(M++((A.take j++B.drop j)++R)))=(P++B.take j)++x::((A.drop (j+1)++(M++A.take j))++y::(B.drop (j+1)++R)):=by rw[hA,hB];simp
  have eD2:(P++B.take j)++y::((A.drop (j+1)++(M++A.take j))++x::(B.drop (j+1)++R))=P++((B.take (j+1)++A.drop (j+1))++(M++((A.take (j+1)++B.drop (j+1))++R))):=by rw[tA,tB];simp
  rw[eD]at hr;obtain⟨g1,g2,g3,-⟩:=Bc (Q:=P++B.take j) (T:=A.drop (j+1)++(M++A.take j)) (U:=B.drop (j+1)++R) (x:=x) (y:=y);rw[eD2]at g3;have l1:(P++B.take j).length=P.length+j:=by rw[List.length_append,lB]
  have l2:(P++B.take j).length+(1+(A.drop (j+1)++(M++A.take j)).length)=P.length+(A.length+M.length)+j:=by rw[l1];simp only[List.length_append,dA,lA];omega
  rw[l2]at g2 g3;rw[l1]at g1 g3;rw[wr (n:=(P.length:Int)+(A.length+M.length)+j) (by omega) (by omega),wr (n:=(P.length:Int)+j) (by omega) (by omega)];have i1:((P.length:Int)+j).toNat=P.length+j:=by omega
  have i2:((P.length:Int)+(A.length+M.length)+j).toNat=P.length+(A.length+M.length)+j:=by omega
  refine Ic h i hsi hr (p:=(P.length:Int)+j) (q:=(P.length:Int)+(A.length+M.length)+j) (by omega) (by omega) (by rw[i1];exact g1) (by rw[i2];exact g2) λs' w hr h=>?_;rw[i1,i2,g3]at hr;rw[qL]at h;refine hag (q-1) _ w (by omega) ⟨j+1,s',?_,by omega,hr,h⟩;rw[wr (by omega) (by omega)];rfl
 ·have e1:A.drop j = []:=List.drop_eq_nil_of_le (by omega);have e2:A.take j=A:=List.take_of_length_le (by omega);have e3:B.drop j = []:=List.drop_eq_nil_of_le (by omega);have e4:B.take j=B:=List.take_of_length_le (by omega);rw[e1,e2,e3,e4,List.append_nil,List.append_nil]at hr;exact⟨(),rfl,hk s w hr h⟩
def z3o(h:St w0 E w)(i:Nat){s:Seg}(hi:nth E i=some s){v:Sl}{P A B R:List (Int×Int)}(hr:Rw eC zz 2 v (P++(A++(B++R))) s)(hn:(P++(A++(B++R))).length<1000000000)(hA:A≠[])(hB:B≠[])
  {a m b:Int} (ha:a=P.length) (hm:m=P.length+A.length) (hb:b=P.length+(A.length+B.length)) {k:Unit→PT} (hk:∀s' w',Rw eC zz 2 v (P++(B++(A++R))) s'→St w0 (zd E i s') w'→k () w') :
  L.call Pr YI [.slice v.a v.len v.cap,I a,I m,I b,dC] (.tup []) k w:=by
 subst ha hm hb;refine za (uE _ _ _ _ ⟨.func Zj,#[],#[]⟩) ?_;unfold JO;simp only[List.length_append]at hn;rw[wr (n:=(P.length:Int)+A.length-P.length) (by omega) (by omega),wr (n:=(P.length:Int)+(A.length+B.length)-(P.length+A.length)) (by omega) (by omega)];have hA1:=List.length_pos_iff.2 hA;have hB1:=List.length_pos_iff.2 hB
 refine zT (λq y w=>∃(X A' B' Y:List (Int×Int))(s:Seg),y=((A'.length:Int),(B'.length:Int),())∧q=A'.length+B'.length∧0<A'.length∧0<B'.length∧X.length+A'.length=A.length∧Y.length+B'.length=B.length∧X++(B'++(A'++Y))=B++A∧
  Rw eC zz 2 v (P++(X++(A'++(B'++(Y++R))))) s∧St w0 (zd E i s) w) (A.length+B.length)
  ⟨[],A,B,[],s,by simp;omega,rfl,hA1,hB1,by simp,by simp,by simp,by simpa using hr,by rwa [yM hi]⟩ ?_
 clear hr;clear h;rintro q y w ⟨X,A',B',Y,s,rfl,hq,hA',hB',hX,hY,hXY,hr,h⟩ again hag
 (try dsimp only)
 have hsi:nth (zd E i s) i=some s:=uL hi;have hnn:(P++(X++(A'++(B'++(Y++R))))).length<1000000000:=by simp only[List.length_append];omega
 refine it (λhc=>?_) (λhc=>?_)<;>(try simp only[zB]at hc)
 ·refine it (λhd=>?_) (λhd=>?_)<;>(try simp only[zB]at hd)
  ·obtain⟨A1,A2,rfl,l1⟩:∃A1 A2,A'=A1++A2∧A1.length=B'.length:=⟨A'.take B'.length,A'.drop B'.length,(List.take_append_drop ..).symm,by rw[List.length_take];omega⟩;simp only[List.length_append]at hX hq hd hA' hnn ⊢;rw[wr (n:=(P.length:Int)+A.length-((A1.length+A2.length:Nat):Int)) (by omega) (by omega)];refine Lo (P:=P++X) (A:=A1) (M:=A2) (B:=B') (R:=Y++R) h i hsi (by simpa using hr) (by simp only[List.length_append];omega) l1 (by rw[List.length_append];omega) (by rw[List.length_append];omega) (by omega) λs' w hr h=>?_;rw[qL]at h;rw[wr (by omega) (by omega)];refine hag (A2.length+A1.length) _ w (by omega) ⟨X++B',A2,A1,Y,s',?_,rfl,by omega,by omega,by rw[List.length_append];omega,by omega,by rw[←hXY];simp,by simpa using hr,h⟩;rw[l1]
   congr 1
   omega
  ·obtain⟨B1,B2,rfl,l1⟩:∃B1 B2,B'=B1++B2∧B2.length=A'.length:=⟨B'.take (B'.length-A'.length),B'.drop (B'.length-A'.length),(List.take_append_drop ..).symm,by rw[List.length_drop];omega⟩;simp only[List.length_append]at hY hq hd hB' hnn hc ⊢;rw[wr (n:=(P.length:Int)+A.length-(A'.length:Int)) (by omega) (by omega),wr (n:=(P.length:Int)+A.length+((B1.length+B2.length:Nat):Int)) (by omega) (by omega),wr (n:=(P.length:Int)+A.length+((B1.length+B2.length:Nat):Int)-(A'.length:Int)) (by omega) (by omega)];refine Lo (P:=P++X) (A:=A') (M:=B1) (B:=B2) (R:=Y++R) h i hsi (by simpa using hr) (by simp only[List.length_append];omega) l1.symm (by rw[List.length_append];omega) (by rw[List.length_append];omega) (by omega) λs' w hr h=>?_;rw[qL]at h;rw[wr (by omega) (by omega)];refine hag (B2.length+B1.length) _ w (by omega) ⟨X,B2,B1,A'++Y,s',?_,rfl,by omega,by omega,by omega,by rw[List.length_append];omega,by rw[←hXY];simp,by simpa using hr,h⟩;rw[←l1]
   congr 2
   omega
 ·rw[wr (n:=(P.length:Int)+A.length-(A'.length:Int)) (by omega) (by omega)];refine Lo (P:=P++X) (A:=A') (M:=[]) (B:=B') (R:=Y++R) h i hsi (by simpa using hr) (by simp only[List.length_append,List.length_nil];omega) (by omega) (by rw[List.length_append];omega) (by rw[List.length_append,List.length_nil];omega) rfl λs' w hr h=>?_;rw[qL]at h;refine⟨(),rfl,hk s' w ?_ h⟩;have e:P++(B++(A++R))=(P++X)++(B'++([]++(A'++(Y++R)))):=by
   have:=congrArg (λz=>P++(z++R)) hXY;simpa using this.symm
  rw[e];exact hr
def nu(x y:Int×Int):Prop:=x.1<y.1∨(x.1=y.1∧x.2<y.2)
abbrev Ls(l:List (Int×Int)):Prop:=l.Pairwise nu
def RP{x:Int×Int}:∀{l:List (Int×Int)},Ls l→(∀y∈l,y.2<x.2)→Ls (KZ x l)
 | [],_,_=>by simp[KZ]
 | y::l,h,hx=>by
  have h:=List.pairwise_cons.1 h;simp only[KZ];split
  ·rename_i hy;refine List.pairwise_cons.2 ⟨λz hz=>?_,List.pairwise_cons.2 h⟩;rcases List.mem_cons.1 hz with rfl | hz
   ·exact .inl hy
   ·rcases h.1 z hz with h | h
    ·exact .inl (by omega)
    ·exact .inl (by omega)
  ·rename_i hy;refine List.pairwise_cons.2 ⟨λz hz=>?_,RP h.2 λz hz=>hx z (by simp[hz])⟩;rcases List.mem_cons.1 ((KG x l).mem_iff.1 hz)with rfl | hz
   ·have:=hx y (by simp);by_cases he:y.1=z.1
    ·exact .inr ⟨he,this⟩
    ·exact .inl (by omega)
   ·exact h.1 z hz
def Qo(l:List (Int×Int)):(YM l).Perm l:=by
 suffices ∀(l a:List (Int×Int)),(l.foldl (λa x=>KZ x a) a).Perm (a++l)from by simpa [YM]using this l []
 intro l
 induction l with
 | nil=>intro a;simp
 | cons y l ih=>
  intro a;refine(ih _).trans (((KG y a).append_right l).trans ?_);exact(List.perm_middle (a:=y) (l₁:=a) (l₂:=l)).symm
def cL{l:List (Int×Int)}(h:l.Pairwise λa b=>a.2<b.2):Ls (YM l):=by
 suffices ∀(l a:List (Int×Int)),(a++l).Pairwise (λa b=>a.2<b.2)∨True→Ls a→l.Pairwise (λa b=>a.2<b.2)→(∀x∈a,∀y∈l,x.2<y.2)→Ls (l.foldl (λa x=>KZ x a) a) from
  this l [] (.inr trivial) .nil h (by simp)
 intro l
 induction l with
 | nil=>exact λa _ h _ _=>h
 | cons y l ih=>
  intro a _ ha hl hal;rw[List.pairwise_cons]at hl;refine ih _ (.inr trivial) (RP ha λx hx=>hal x hx y (by simp)) hl.2 λx hx z hz=>?_;rcases List.mem_cons.1 ((KG y a).mem_iff.1 hx)with rfl | hx
  ·exact hl.1 z hz
  ·exact hal x hx z (by simp[hz])
def RG:∀{l1 l2:List (Int×Int)},Ls l1→Ls l2→l1.Perm l2→l1=l2
 | [],l2,_,_,p=>p.nil_eq
 | x::l1,[],_,_,p=>by have:=p.length_eq;simp at this
 | x::l1,y::l2,h1,h2,p=>by
  have h1:=List.pairwise_cons.1 h1;have h2:=List.pairwise_cons.1 h2;have e:x=y:=by
   rcases List.mem_cons.1 (p.mem_iff.1 (by simp:x∈x::l1))with e | hx
   ·exact e
   ·rcases List.mem_cons.1 (p.mem_iff.2 (by simp:y∈y::l2))with e | hy
    ·exact e.symm
    ·have q1:=h1.1 y hy;have q2:=h2.1 x hx;unfold nu at q1 q2;omega
  subst e;rw[RG h1.2 h2.2 p.cons_inv]
def fh{l:List (Int×Int)}(h:Ls l){i j:Nat}{x y:Int×Int}(hij:i≤j)(hi:l[i]? = some x)(hj:l[j]? = some y):x.1≤y.1:=by
 rcases Nat.lt_or_ge i j with hlt | hge
 ·obtain⟨i1,rfl⟩:=List.getElem?_eq_some_iff.1 hi;obtain⟨j1,rfl⟩:=List.getElem?_eq_some_iff.1 hj;have:=List.pairwise_iff_getElem.1 h i j i1 j1 hlt;unfold nu at this;omega
 ·have:i=j:=by omega
  subst this;rw[hi]at hj;cases hj;omega
def lX{l:List (Int×Int)}{c:Nat}{z:Int×Int}(h:z∈l.take c):∃i,i<c∧l[i]? = some z:=by
 obtain⟨i,hi⟩:=List.mem_iff_getElem?.1 h;rw[List.getElem?_take]at hi;split at hi
 ·exact⟨i,by assumption,hi⟩
 ·cases hi
def lY{l:List (Int×Int)}{c:Nat}{z:Int×Int}(h:z∈l.drop c):∃i,c≤i∧l[i]? = some z:=by
 obtain⟨i,hi⟩:=List.mem_iff_getElem?.1 h;rw[List.getElem?_drop]at hi;exact⟨c+i,by omega,hi⟩
def Ly{l:List (Int×Int)}(h:St w0 E w)(i:Nat){s:Seg}(hi:nth E i=some s){v:Sl}(hr:Rw eC zz 2 v l s){p q:Int}{x y:Int×Int}(p0:0≤p)(q0:0≤q)(hx:l[p.toNat]? = some x)(hy:l[q.toNat]? = some y)
  (h1: -4611686018427387904<x.1∧x.1<4611686018427387904) (h2: -4611686018427387904<y.1∧y.1<4611686018427387904) {k:Int→PT} (hk:∀w',St w0 E w'→k (x.1-y.1) w') :
  (L.draw<| L.idx v.a p v.len 2 λa3=>L.load (.agg [.int .i64,.int .i64]) a3 λ(x4:Int×Int×Unit)=>L.idx v.a q v.len 2 λa5=>L.load (.agg [.int .i64,.int .i64]) a5 λ(x6:Int×Int×Unit)=>
   L.callV Pr dC [.agg #[.int .i64 x4.1,.int .i64 x4.2.1],.agg #[.int .i64 x6.1,.int .i64 x6.2.1]] (.one (.one (.int .i64))) k) w:=by
 have hp:=(List.getElem?_eq_some_iff.1 hx).1;have hq:=(List.getElem?_eq_some_iff.1 hy).1;refine dr h λw h=>?_;refine Rw.ix UD hr p0 hp λa ha=>?_;refine Rw.lda UD h i hi hr ha hx (y:=(x.1,x.2,())) rfl ?_;refine Rw.ix UD hr q0 hq λa2 ha2=>?_;refine Rw.lda UD h i hi hr ha2 hy (y:=(y.1,y.2,())) rfl ?_;exact IA h h1 h2 hk
def z3l(h:St w0 E w)(i:Nat){s:Seg}(hi:nth E i=some s){v:Sl}{P B R:List (Int×Int)}{x:Int×Int}(hr:Rw eC zz 2 v (P++(x::(B++R))) s)(hn:(P++(x::(B++R))).length<1000000000)(sB:Ls B)(hx2:∀y∈B,x.2<y.2)
  (hbx: -4611686018427387904<x.1∧x.1<4611686018427387904) (hb:∀y∈B,-4611686018427387904<y.1∧y.1<4611686018427387904) {a m b:Int} (ha:a=P.length) (hm:m=P.length+1) (hbb:b=P.length+(1+B.length))
  {k:Unit→PT} (hk:∀S s' w',Ls S→S.Perm (x::B)→Rw eC zz 2 v (P++(S++R)) s'→St w0 (zd E i s') w'→k () w') :
  L.call Pr zN [.slice v.a v.len v.cap,I a,I m,I b,dC] (.tup []) k w:=by
 subst ha hm hbb;refine za (Yt _ _ _ _ ⟨.func Zj,#[],#[]⟩) ?_;unfold yq;simp only[List.length_append,List.length_cons]at hn;rw[wr (n:=(P.length:Int)+1-P.length) (by omega) (by omega)];refine itT (by simp;omega) ?_
 refine zT (λq y w=>∃c d:Nat,y=((P.length:Int)+1+c,(P.length:Int)+1+d,())∧q+c=d∧c≤d∧d≤B.length∧(∀(i:Nat) z,B[i]? = some z→i<c→z.1<x.1)∧(∀(i:Nat) z,B[i]? = some z→d≤i→¬z.1<x.1)∧St w0 E w) B.length
  ⟨0,B.length,by simp;omega,by omega,by omega,by omega,by intros;omega,by
   intro i z hz hi;have:=(List.getElem?_eq_some_iff.1 hz).1;omega,h⟩ ?_
 clear h;rintro q y w ⟨c,d,rfl,hq,hcd,hd,h1,h2,h⟩ again hag
 (try dsimp only)
 have ix:((P.length:Int)).toNat=P.length:=by omega
 have g0:(P++(x::(B++R)))[((P.length:Int)).toNat]? = some x:=by rw[ix];simp
 refine it (λhc=>?_) (λhc=>?_)<;>(try simp only[zB]at hc)
 ·have he:((P.length:Int)+1+c+((P.length:Int)+1+d))/2=(P.length:Int)+1+(((c+d)/2:Nat):Int):=by omega
  rw[z0u (by omega) (by omega) (by omega),he];obtain⟨e,hee⟩:∃e,e=(c+d)/2:=⟨_,rfl⟩;rw[←hee];have hel:e<B.length:=by omega
  have hz:B[e]? = some B[e]:=List.getElem?_eq_getElem hel;have hzm:B[e]∈B:=List.getElem_mem hel;generalize B[e]=z at hz hzm;have g1:(P++(x::(B++R)))[((P.length:Int)+1+(e:Int)).toNat]? = some z:=by
   have e1:((P.length:Int)+1+(e:Int)).toNat=P.length+(e+1):=by omega
   rw[e1,List.getElem?_append_right (by omega)];have e2:P.length+(e+1)-P.length=e+1:=by omega
   rw[e2,List.getElem?_cons_succ,List.getElem?_append_left hel,hz]
  refine gd (by decide) ?_;refine Ly h i hi hr (by omega) (by omega) g1 g0 (hb z hzm) hbx λw h=>?_;refine it (λhl=>?_) (λhl=>?_)<;>(try simp only[zB]at hl)
  ·refine hag (d-(e+1)) _ w (by omega) ⟨e+1,d,?_,by omega,by omega,hd,λi z' hz' hi=>?_,h2,h⟩
   ·rw[wr (by omega) (by omega)];congr 1
   ·have:=fh sB (by omega) hz' hz;omega
  ·refine hag (e-c) _ w (by omega) ⟨c,e,rfl,by omega,by omega,by omega,h1,λi z' hz' hi=>?_,h⟩;have:=fh sB hi hz hz';omega
 ·have e:d=c:=by omega
  subst e;refine zT (λq y w=>∃(j:Nat)(s:Seg),y=((P.length:Int)+j,())∧q+j=d∧Rw eC zz 2 v (P++(B.take j++x::(B.drop j++R))) s∧St w0 (zd E i s) w) d ⟨0,s,by simp,by omega,by simpa using hr,by rwa [yM hi]⟩ ?_;clear hr g0;clear h;rintro q y w ⟨j,s,rfl,hq,hr,h⟩ again hag
  (try dsimp only)
  have hsi:nth (zd E i s) i=some s:=uL hi;rw[wr (n:=(P.length:Int)+1+d-1) (by omega) (by omega)];refine it (λhc=>?_) (λhc=>?_)<;>(try simp only[zB]at hc)
  ·have hj:j<B.length:=by omega
   have hB:B.drop j=B[j]::B.drop (j+1):=List.drop_eq_getElem_cons hj;have tB:B.take (j+1)=B.take j++[B[j]]:=by rw[List.take_add_one,List.getElem?_eq_getElem hj];rfl
   have lB:(B.take j).length=j:=by rw[List.length_take];omega
   generalize B[j]=z at hB tB;have eD:P++(B.take j++x::(B.drop j++R))=(P++B.take j)++x::([]++z::(B.drop (j+1)++R)):=by rw[hB];simp
   have eD2:(P++B.take j)++z::([]++x::(B.drop (j+1)++R))=P++(B.take (j+1)++x::(B.drop (j+1)++R)):=by rw[tB];simp
   rw[eD]at hr;obtain⟨g1,g2,g3,-⟩:=Bc (Q:=P++B.take j) (T:=[]) (U:=B.drop (j+1)++R) (x:=x) (y:=z);have l1:(P++B.take j).length=P.length+j:=by rw[List.length_append,lB]
   have l2:(P++B.take j).length+(1+([]:List (Int×Int)).length)=P.length+j+1:=by rw[l1];rfl
   rw[eD2,l2,l1]at g3;rw[l2]at g2;rw[l1]at g1;have i1:((P.length:Int)+j).toNat=P.length+j:=by omega
   have i2:((P.length:Int)+j+1).toNat=P.length+j+1:=by omega
   rw[wr (n:=(P.length:Int)+j+1) (by omega) (by omega)];refine Ic h i hsi hr (by omega) (by omega) (by rw[i1];exact g1) (by rw[i2];exact g2) λs' w hr h=>?_;rw[i1,i2,g3]at hr;rw[qL]at h;exact hag (q-1) _ w (by omega) ⟨j+1,s',by congr 1,by omega,hr,h⟩
  ·have e:j=d:=by omega
   subst e;refine⟨(),rfl,hk (B.take j++x::B.drop j) s w ?_ ?_ (by simpa using hr) h⟩
   ·have sB':=sB;rw[←List.take_append_drop j B]at sB';have sB':=List.pairwise_append.1 sB';refine List.pairwise_append.2 ⟨sB'.1,List.pairwise_cons.2 ⟨λz hz=>?_,sB'.2.1⟩,λz hz y hy=>?_⟩
    ·obtain⟨i,hi,hz'⟩:=lY hz;have q1:=h2 i z hz' hi;have q2:=hx2 z (List.mem_of_mem_drop hz);unfold nu;omega
    ·rcases List.mem_cons.1 hy with rfl | hy
     ·obtain⟨i,hi,hz'⟩:=lX hz;exact .inl (h1 i z hz' hi)
     ·exact sB'.2.2 z hz y hy
   ·refine List.perm_middle.trans ?_;rw[List.take_append_drop]
def z3k(h:St w0 E w)(i:Nat){s:Seg}(hi:nth E i=some s){v:Sl}{P A R:List (Int×Int)}{y:Int×Int}(hr:Rw eC zz 2 v (P++(A++(y::R))) s)(hn:(P++(A++(y::R))).length<1000000000)(hA1:A.length≠1)(sA:Ls A)(hy2:∀x∈A,x.2<y.2)
  (hby: -4611686018427387904<y.1∧y.1<4611686018427387904) (hb:∀x∈A,-4611686018427387904<x.1∧x.1<4611686018427387904) {a m b:Int} (ha:a=P.length) (hm:m=P.length+A.length) (hbb:b=P.length+(A.length+1))
  {k:Unit→PT} (hk:∀S s' w',Ls S→S.Perm (A++[y])→Rw eC zz 2 v (P++(S++R)) s'→St w0 (zd E i s') w'→k () w') :
  L.call Pr zN [.slice v.a v.len v.cap,I a,I m,I b,dC] (.tup []) k w:=by
 subst ha hm hbb;refine za (Yt _ _ _ _ ⟨.func Zj,#[],#[]⟩) ?_;unfold yq;simp only[List.length_append,List.length_cons]at hn;rw[wr (n:=(P.length:Int)+A.length-P.length) (by omega) (by omega),wr (n:=(P.length:Int)+(A.length+1)-(P.length+A.length)) (by omega) (by omega)];refine itF (by simp;omega) ?_;refine itT (by simp;omega) ?_
 refine zT (λq z w=>∃c d:Nat,z=((P.length:Int)+c,(P.length:Int)+d,())∧q+c=d∧c≤d∧d≤A.length∧(∀(i:Nat) z,A[i]? = some z→i<c→¬y.1<z.1)∧(∀(i:Nat) z,A[i]? = some z→d≤i→y.1<z.1)∧St w0 E w) A.length
  ⟨0,A.length,by simp,by omega,by omega,by omega,by intros;omega,by
   intro i z hz hi;have:=(List.getElem?_eq_some_iff.1 hz).1;omega,h⟩ ?_
 clear h;rintro q z w ⟨c,d,rfl,hq,hcd,hd,h1,h2,h⟩ again hag
 (try dsimp only)
 have g0:(P++(A++(y::R)))[((P.length:Int)+A.length).toNat]? = some y:=by
  have e1:((P.length:Int)+A.length).toNat=P.length+A.length:=by omega
  rw[e1,←List.append_assoc,List.getElem?_append_right (by simp)];simp
 refine it (λhc=>?_) (λhc=>?_)<;>(try simp only[zB]at hc)
 ·have he:((P.length:Int)+c+((P.length:Int)+d))/2=(P.length:Int)+(((c+d)/2:Nat):Int):=by omega
  rw[z0u (by omega) (by omega) (by omega),he];obtain⟨e,hee⟩:∃e,e=(c+d)/2:=⟨_,rfl⟩;rw[←hee];have hel:e<A.length:=by omega
  have hz:A[e]? = some A[e]:=List.getElem?_eq_getElem hel;have hzm:A[e]∈A:=List.getElem_mem hel;generalize A[e]=z at hz hzm;have g1:(P++(A++(y::R)))[((P.length:Int)+(e:Int)).toNat]? = some z:=by
   have e1:((P.length:Int)+(e:Int)).toNat=P.length+e:=by omega
   rw[e1,List.getElem?_append_right (by omega)];have e2:P.length+e-P.length=e:=by omega
   rw[e2,List.getElem?_append_left hel,hz]
  refine gd (by decide) ?_;refine Ly h i hi hr (by omega) (by omega) g0 g1 hby (hb z hzm) λw h=>?_;refine it (λhl=>?_) (λhl=>?_)<;>(try simp only[zB]at hl)
  ·refine hag (d-(e+1)) _ w (by omega) ⟨e+1,d,?_,by omega,by omega,hd,λi z' hz' hi=>?_,h2,h⟩
   ·rw[wr (by omega) (by omega)];congr 1
   ·have:=fh sA (by omega) hz' hz;omega
  ·refine hag (e-c) _ w (by omega) ⟨c,e,rfl,by omega,by omega,by omega,h1,λi z' hz' hi=>?_,h⟩;have:=fh sA hi hz hz';omega
 ·have e:d=c:=by omega
  subst e;refine zT (λq z w=>∃(j:Nat)(s:Seg),z=((P.length:Int)+j,())∧q+d=j∧j≤A.length∧Rw eC zz 2 v (P++(A.take j++y::(A.drop j++R))) s∧St w0 (zd E i s) w) (A.length-d) ⟨A.length,s,by simp,by omega,by omega,by simpa using hr,by rwa [yM hi]⟩ ?_;clear hr g0;clear h;rintro q z w ⟨j,s,rfl,hq,hj,hr,h⟩ again hag
  (try dsimp only)
  have hsi:nth (zd E i s) i=some s:=uL hi;refine it (λhc=>?_) (λhc=>?_)<;>(try simp only[zB]at hc)
  ·obtain⟨j,rfl⟩:∃j',j=j'+1:=⟨j-1,by omega⟩;have hA:A.drop j=A[j]::A.drop (j+1):=List.drop_eq_getElem_cons (by omega);have tA:A.take (j+1)=A.take j++[A[j]]:=by rw[List.take_add_one,List.getElem?_eq_getElem (by omega)];rfl
   have lA:(A.take j).length=j:=by rw[List.length_take];omega
   generalize A[j]=x at hA tA;have eD:P++(A.take (j+1)++y::(A.drop (j+1)++R))=(P++A.take j)++x::([]++y::(A.drop (j+1)++R)):=by rw[tA];simp
   have eD2:(P++A.take j)++y::([]++x::(A.drop (j+1)++R))=P++(A.take j++y::(A.drop j++R)):=by rw[hA];simp
   rw[eD]at hr;obtain⟨g1,g2,-,g3⟩:=Bc (Q:=P++A.take j) (T:=[]) (U:=A.drop (j+1)++R) (x:=x) (y:=y);have l1:(P++A.take j).length=P.length+j:=by rw[List.length_append,lA]
   have l2:(P++A.take j).length+(1+([]:List (Int×Int)).length)=P.length+j+1:=by rw[l1];rfl
   rw[eD2,l2,l1]at g3;rw[l2]at g2;rw[l1]at g1;have i0:(P.length:Int)+((j+1:Nat):Int)-1=(P.length:Int)+j:=by omega
   have i1:((P.length:Int)+j).toNat=P.length+j:=by omega
   have i2:((P.length:Int)+((j+1:Nat):Int)).toNat=P.length+j+1:=by omega
   rw[wr (n:=(P.length:Int)+((j+1:Nat):Int)-1) (by omega) (by omega),i0];refine Ic h i hsi hr (by omega) (by omega) (by rw[i2];exact g2) (by rw[i1];exact g1) λs' w hr h=>?_;rw[i1,i2,g3]at hr;rw[qL]at h;exact hag (q-1) _ w (by omega) ⟨j,s',rfl,by omega,by omega,hr,h⟩
  ·have e:j=d:=by omega
   subst e;refine⟨(),rfl,hk (A.take j++y::A.drop j) s w ?_ ?_ (by simpa using hr) h⟩
   ·have sA':=sA;rw[←List.take_append_drop j A]at sA';have sA':=List.pairwise_append.1 sA';refine List.pairwise_append.2 ⟨sA'.1,List.pairwise_cons.2 ⟨λz hz=>?_,sA'.2.1⟩,λx hx z hz=>?_⟩
    ·obtain⟨i,hi,hz'⟩:=lY hz;exact .inl (h2 i z hz' hi)
    ·rcases List.mem_cons.1 hz with rfl | hz
     ·obtain⟨i,hi,hz'⟩:=lX hx;have q1:=h1 i x hz' hi;have q2:=hy2 x (List.mem_of_mem_take hx);unfold nu;omega
     ·exact sA'.2.2 x hx z hz
   ·refine List.perm_middle.trans ?_;rw[List.take_append_drop];exact(List.perm_append_singleton y A).symm
def z1h(h:St w0 E w)(i:Nat){s:Seg}(hi:nth E i=some s){v:Sl}{M:List (Int×Int)}(hr:Rw eC zz 2 v M s)(hn:M.length≤20)
  (hb:∀x∈M,-4611686018427387904<x.1∧x.1<4611686018427387904) {k:Unit→PT} (hk:∀s' w',Rw eC zz 2 v (YM M) s'→St w0 (zd E i s') w'→k () w') :
  L.call Pr ZF [.slice v.a v.len v.cap,dC] (.tup []) k w:=by
 refine za (Yn _ ⟨.func Zj,#[],#[]⟩) ?_;unfold ye;refine za (JQ _ _ ⟨.func Zj,#[],#[]⟩) ?_;unfold YK;have hlen:=Rw.len UD hr;have hr0:Rw eC zz 2 v ([]++(M++[])) s:=by simpa using hr
 have fin:∀{s' w},Rw eC zz 2 v (YM M) s'→St w0 (zd E i s') w→L.loop (Y:=Int×Unit) (20,()) (λy5 again6=>
   L.ite (decide (y5.1<((v.len:Nat):Int))) (
    L.loop (Y:=Int×Int×Unit) (0,Wi (2*y5.1),()) λy7 again8=>
    L.ite (decide (y7.2.1≤((v.len:Nat):Int))) (
     L.call Pr zN [.slice v.a v.len v.cap,.int .i64 y7.1,.int .i64 (Wi (y7.1+y5.1)),.int .i64 y7.2.1,dC] (.tup []) λ(x9:Unit)=>
     again8 (y7.2.1,Wi (y7.2.1+(Wi (2*y5.1))),()))<|
    L.join (Y:=Unit) (λk10=>
     L.ite (decide ((Wi (y7.1+y5.1))<((v.len:Nat):Int))) (
      L.call Pr zN [.slice v.a v.len v.cap,.int .i64 y7.1,.int .i64 (Wi (y7.1+y5.1)),.int .i64 ((v.len:Nat):Int),dC] (.tup []) λ(x12:Unit)=>
      k10 (()))<|
     k10 (())) λz11=>
    again6 (Wi (y5.1*2),()))<|
   λw=>∃x:Unit,Value.tuple #[]=RT.val (.tup []) x∧∃y:Unit,Value.tuple #[]=RT.val (.tup []) y∧k y w) w:=by
  intro s' w hr h;refine zT (λq y w'=>y=(20,())∧w'=w) 0 ⟨rfl,rfl⟩ ?_;rintro q y w' ⟨rfl,rfl⟩ again hag;refine itF (decide_eq_false (by dsimp only;omega)) ?_;exact⟨(),rfl,(),rfl,hk s' _ hr h⟩
 refine zT (λq y w=>(q=1∧y=(0,20,())∧St w0 E w)∨(q=0∧y=(20,40,())∧M.length=20∧∃s',Rw eC zz 2 v (YM M) s'∧St w0 (zd E i s') w)) 1 (.inl ⟨rfl,rfl,h⟩) ?_;clear h;rintro q y w (⟨rfl,rfl,h⟩ | ⟨rfl,rfl,h20,s',hr',h⟩) again hag<;>dsimp only
 ·refine it (λhc=>?_) (λhc=>?_)<;>(try simp only[zB]at hc)
  ·refine Nf (P:=[]) (M:=M) (R:=[]) h i hi hr0 (by simp;omega) hb (by rfl) (by simp;omega) λs' w hr' h=>?_;rw[wr (by omega) (by omega)];exact hag 0 _ w (by omega) (.inr ⟨rfl,rfl,by omega,s',by simpa using hr',h⟩)
  ·refine Nf (P:=[]) (M:=M) (R:=[]) h i hi hr0 (by simp;omega) hb (by rfl) (by simp;omega) λs' w hr' h=>?_;exact fin (by simpa using hr') h
 ·refine itF (decide_eq_false (by omega)) ?_;refine Nf (P:=YM M) (M:=[]) (R:=[]) h i (uL hi) (by simpa using hr') (by simp[js];omega) (by simp) (by rw[js];omega) (by rw[js];simp;omega) λs' w hr' h=>?_;rw[qL]at h;exact fin (by simpa [YM]using hr') h
def WP{p:Int×Int→Bool}{c:Int×Int}:∀{l:List (Int×Int)},l.Pairwise (λa b=>a.1≤b.1)→
  (KZ c l).find? p=match l.find? p with | none=>if p c=true then some c else none | some y=>if p c=true∧c.1<y.1 then some c else some y
 | [],_=>by by_cases h:p c=true<;>simp[KZ,h]
 | y::l,hp=>by
  rw[List.pairwise_cons]at hp;simp only[KZ];split
  ·rename_i hlt;by_cases h:p c=true
   ·rw[List.find?_cons_of_pos h]
    cases hf:(y::l).find? p with
    | none=>simp[h]
    | some z=>
     have hz:c.1<z.1:=by
      rcases List.mem_cons.1 (List.mem_of_find?_eq_some hf)with rfl | hz
      ·exact hlt
      ·have:=hp.1 z hz;omega
     simp[h,hz]
   ·rw[List.find?_cons_of_neg h]
    cases hf:(y::l).find? p<;>simp[h]
  ·rename_i hlt;by_cases hy:p y=true
   ·rw[List.find?_cons_of_pos hy,List.find?_cons_of_pos hy];simp[hlt]
   ·rw[List.find?_cons_of_neg hy,List.find?_cons_of_neg hy];exact WP hp.2
def can(x:Zg):Bool:=decide (x.pod.st=2∧(x.pod.reqs.length:Int)<x.pod.conc)
def Qb(b:Option Zg)(x:Zg):Option Zg:=match b with
 | none=>if can x=true then some x else none
 | some y=>if can x=true∧x.pod.reqs.length<y.pod.reqs.length then some x else some y
def CT(l:List Zg)(rev:B0):Option Zg:=(revs l rev).foldl Qb none
def key(x:Zg):Int×Int:=(x.pod.reqs.length,x.id)
def WO{p:Int×Int→Bool}:∀(n:Nat){R:List Zg},R.length=n→(∀x∈R,p (key x)=can x)→(YM (R.map key)).find? p=(R.foldl Qb none).map key
 | 0,R,hn,_=>by
  have:=List.eq_nil_of_length_eq_zero hn;subst this;rfl
 | n+1,R,hn,h=>by
  obtain⟨R',x,rfl⟩:∃R' x,R=R'++[x]:=⟨R.dropLast,R.getLast (by intro e;subst e;simp at hn),(List.dropLast_concat_getLast _).symm⟩;have ih:=WO (p:=p) n (R:=R') (by simpa using hn) λy hy=>h y (by simp[hy]);have hx:=h x (by simp);have e:YM ((R'++[x]).map key)=KZ (key x) (YM (R'.map key)):=by simp[YM,List.foldl_append]
  rw[e,WP (bu _),ih,List.foldl_append];simp only[List.foldl_cons,List.foldl_nil]
  cases R'.foldl Qb none with
  | none=>simp only[Option.map_none,Qb,hx];split<;>rfl
  | some y=>
   simp only[Option.map_some,Qb,hx];by_cases hc:can x=true∧x.pod.reqs.length<y.pod.reqs.length
   ·rw[if_pos hc,if_pos ⟨hc.1,by simp only[key];omega⟩];rfl
   ·rw[if_neg hc,if_neg (λhh=>hc ⟨hh.1,by have:=hh.2;simp only[key]at this;omega⟩)];rfl
def ze.Ok.where_upd{F:ze}(ok:F.Ok){id:Int}{x:Zg}(hx:Xd F.l id=some x)(g:YZ→YZ)(hq:∀q∈(g x.pod).reqs,q∈x.pod.reqs∨Zu F.l q=none)
  (h4:(g x.pod).st=4→(g x.pod).reqs = []) (q:Int):(Zu (YJ F.l id g) q).map (·.id)=if q∈(g x.pod).reqs then some id else if q∈x.pod.reqs then none else(Zu F.l q).map (·.id):=by
 obtain⟨hm,rfl⟩:=YS hx;obtain⟨A,B,hl⟩:=List.append_of_mem hm;have pw:=ok.pw;have once:=ok.once;have hno:Zu F.l q=none→∀y∈A++x::B,q∉y.pod.reqs:=λh=>by rw[hl]at h;exact xN h
 have hq:=hq q;rw[hl]at pw once ⊢;rw[List.pairwise_append,List.pairwise_cons]at once;rw[Mf pw];have hA:(q∈x.pod.reqs∨q∈(g x.pod).reqs)→∀y∈A,q∉y.pod.reqs:=λh y hy hqy=>by
  have h:q∈x.pod.reqs∨Zu F.l q=none:=h.elim .inl λh=>hq h;rcases h with h | h
  ·exact once.2.2 y hy x (by simp) q hqy h
  ·exact hno h y (by simp[hy]) hqy
 have hB:(q∈x.pod.reqs∨q∈(g x.pod).reqs)→∀y∈B,q∉y.pod.reqs:=λh y hy hqy=>by
  have h:q∈x.pod.reqs∨Zu F.l q=none:=h.elim .inl λh=>hq h;rcases h with h | h
  ·exact once.2.1.1 y hy q h hqy
  ·exact hno h y (by simp[hy]) hqy
 have fn:∀{l:List Zg},(∀y∈l,q∉y.pod.reqs)→List.find? (λx=>decide (q∈x.pod.reqs)) l=none:=λh=>by
  rw[List.find?_eq_none];exact λy hy=>by simpa using h y hy
 unfold Zu;simp only[List.find?_append];by_cases h1:q∈(g x.pod).reqs
 ·rw[if_pos h1,fn (hA (.inr h1)),Option.none_or];have:(g x.pod).st≠4:=λe=>by rw[h4 e]at h1;simp at h1
  rw[if_neg this,List.find?_cons_of_pos (by simpa using h1)];rfl
 ·rw[if_neg h1];have hg:List.find? (λx=>decide (q∈x.pod.reqs)) (if(g x.pod).st=4 then []else [{ x with pod:=g x.pod }])=none:=by
   split
   ·rfl
   ·rw[List.find?_cons_of_neg (by simpa using h1)];rfl
  rw[hg,Option.none_or];by_cases h2:q∈x.pod.reqs
  ·rw[if_pos h2,fn (hA (.inl h2)),fn (hB (.inl h2))];rfl
  ·rw[if_neg h2,List.find?_cons_of_neg (by simpa using h2)]
structure Cut(p q h:Nat)(A B:List (Int×Int))(c:Nat):Prop where
 c1:c≤p
 c2:c≤h
 c3:h-c≤q
 lo:∀x∈A.take c,∀y∈B.drop (h-c),x.1≤y.1
 hi:∀y∈B.take (h-c),∀x∈A.drop c,y.1<x.1
def z39{p q h c c0 d0:Nat}{A B:List (Int×Int)}(hp:p=A.length)(hq:q=B.length)(hh:h=(p+q)/2)(sA:Ls A)(sB:Ls B)(h0:(p≤h∧c0=0∧d0=p)∨(h<p∧c0+q=h∧d0=h))(hc0:c0≤c)(hc1:c≤d0)
  (hT:∀e x y,c0≤e→e<c→A[e]? = some x→B[h-1-e]? = some y→¬y.1<x.1) (hF:∀e x y,c≤e→e<d0→A[e]? = some x→B[h-1-e]? = some y→y.1<x.1):Cut p q h A B c:=by
 subst hp hq;refine⟨by omega,by omega,by omega,λx hx y hy=>?_,λy hy x hx=>?_⟩
 ·obtain⟨i,hi,hx⟩:=lX hx;obtain⟨j,hj,hy⟩:=lY hy;have hil:=(List.getElem?_eq_some_iff.1 hx).1;have hjl:=(List.getElem?_eq_some_iff.1 hy).1;have hcc:c0<c:=by omega
  have a1:A[c-1]? = some A[c-1]:=List.getElem?_eq_getElem (by omega);have b1:B[h-1-(c-1)]? = some B[h-1-(c-1)]:=List.getElem?_eq_getElem (by omega);have q1:=hT (c-1) _ _ (by omega) (by omega) a1 b1;have q2:=fh sA (by omega) hx a1;have q3:=fh sB (by omega) b1 hy;omega
 ·obtain⟨i,hi,hx⟩:=lY hx;obtain⟨j,hj,hy⟩:=lX hy;have hil:=(List.getElem?_eq_some_iff.1 hx).1;have hjl:=(List.getElem?_eq_some_iff.1 hy).1;have hcc:c<d0:=by omega
  have a1:A[c]? = some A[c]:=List.getElem?_eq_getElem (by omega);have b1:B[h-1-c]? = some B[h-1-c]:=List.getElem?_eq_getElem (by omega);have q1:=hF c _ _ (by omega) hcc a1 b1;have q2:=fh sA (by omega) a1 hx;have q3:=fh sB (by omega) hy b1;omega
abbrev bdC(x:Int×Int):Prop:=-4611686018427387904<x.1∧x.1<4611686018427387904
def z3m:∀(N:Nat){w:World}{E:List Seg}(_:St w0 E w)(i:Nat){s:Seg}(_:nth E i=some s){v:Sl}{P A B R:List (Int×Int)}(_:Rw eC zz 2 v (P++(A++(B++R))) s)(_:(P++(A++(B++R))).length<1000000000)(_:A.length+B.length≤N)(_:A≠[])(_:B≠[])
  (_:Ls A) (_:Ls B) (_:∀x∈A,∀y∈B,x.2<y.2) (_:∀x∈A,bdC x) (_:∀x∈B,bdC x) {a m b:Int} (_:a=P.length) (_:m=P.length+A.length) (_:b=P.length+(A.length+B.length))
  {k:Unit→PT} (_:∀S s' w',Ls S→S.Perm (A++B)→Rw eC zz 2 v (P++(S++R)) s'→St w0 (zd E i s') w'→k () w'),
  L.call Pr zN [.slice v.a v.len v.cap,I a,I m,I b,dC] (.tup []) k w:=by
 intro N
 induction N with
 | zero=>
  intro w E h i s hi v P A B R hr hn hN hA hB;have:=List.length_pos_iff.2 hA;omega
 | succ N ih=>
 intro w E h i s hi v P A B R hr hn hN hA hB sA sB hAB bA bB a m b ha hm hbb k hk;have hA1:=List.length_pos_iff.2 hA;have hB1:=List.length_pos_iff.2 hB;by_cases cA:A.length=1
 ·obtain⟨x,rfl⟩:∃x,A = [x]:=List.length_eq_one_iff.1 cA;exact z3l (P:=P) (x:=x) (B:=B) (R:=R) h i hi hr hn sB (hAB x (by simp)) (bA x (by simp)) bB ha (by simpa using hm) (by simpa using hbb) hk
 by_cases cB:B.length=1
 ·obtain⟨y,rfl⟩:∃y,B = [y]:=List.length_eq_one_iff.1 cB;exact z3k h i hi hr hn cA sA (λx hx=>hAB x hx y (by simp)) (bB y (by simp)) bA ha hm (by simpa using hbb) hk
 subst ha hm hbb;refine za (Yt _ _ _ _ ⟨.func Zj,#[],#[]⟩) ?_;unfold yq;simp only[List.length_append]at hn;rw[wr (n:=(P.length:Int)+A.length-P.length) (by omega) (by omega),wr (n:=(P.length:Int)+(A.length+B.length)-(P.length+A.length)) (by omega) (by omega)];refine itF (by simp;omega) ?_;refine itF (by simp;omega) ?_;refine gd (by decide) ?_;obtain⟨hh,hhe⟩:∃hh,hh=(A.length+B.length)/2:=⟨_,rfl⟩;have he:((P.length:Int)+((P.length:Int)+(A.length+B.length)))/2=(P.length:Int)+(hh:Int):=by omega
 rw[z0u (a:=(P.length:Int)) (b:=(P.length:Int)+(A.length+B.length)) (by omega) (by omega) (by omega),he];refine Zz (λz w'=>(∃c0 d0:Nat,z=((P.length:Int)+c0,(P.length:Int)+d0,())∧c0≤d0∧((A.length≤hh∧c0=0∧d0=A.length)∨(hh<A.length∧c0+B.length=hh∧d0=hh)))∧w'=w) (λk' hk'=>?_) ?_
 ·refine it (λhc=>?_) (λhc=>?_)<;>(try simp only[zB]at hc)
  ·refine hk' _ _ ⟨⟨hh-B.length,hh,?_,by omega,.inr ⟨by omega,by omega,rfl⟩⟩,rfl⟩;rw[wr (n:=(P.length:Int)+hh+(P.length+A.length)) (by omega) (by omega),wr (by omega) (by omega)]
   congr 1
   omega
  ·exact hk' _ _ ⟨⟨0,A.length,by simp,by omega,.inl ⟨by omega,rfl,rfl⟩⟩,rfl⟩
 rintro z w' ⟨⟨c0,d0,rfl,hcd0,h0⟩,rfl⟩;dsimp only
 refine zT (λq z w=>∃c d:Nat,z=((P.length:Int)+c,(P.length:Int)+d,())∧q+c=d∧c0≤c∧c≤d∧d≤d0∧(∀e x y,c0≤e→e<c→A[e]? = some x→B[hh-1-e]? = some y→¬y.1<x.1)∧
  (∀e x y,d≤e→e<d0→A[e]? = some x→B[hh-1-e]? = some y→y.1<x.1)∧St w0 E w) (d0-c0) ⟨c0,d0,rfl,by omega,by omega,by omega,by omega,by intros;omega,by intros;omega,h⟩ ?_
 clear h;rintro q z w ⟨c,d,rfl,hq,hc0,hcd,hd,h1,h2,h⟩ again hag
 (try dsimp only)
 refine it (λhc=>?_) (λhc=>?_)<;>(try simp only[zB]at hc)
 ·have he2:((P.length:Int)+c+((P.length:Int)+d))/2=(P.length:Int)+(((c+d)/2:Nat):Int):=by omega
  rw[z0u (a:=(P.length:Int)+c) (by omega) (by omega) (by omega),he2];obtain⟨e,hee⟩:∃e,e=(c+d)/2:=⟨_,rfl⟩;rw[←hee];have hel:e<A.length:=by omega
  have hel2:hh-1-e<B.length:=by omega
  have hx:A[e]? = some A[e]:=List.getElem?_eq_getElem hel;have hxm:A[e]∈A:=List.getElem_mem hel;have hy:B[hh-1-e]? = some B[hh-1-e]:=List.getElem?_eq_getElem hel2;have hym:B[hh-1-e]∈B:=List.getElem_mem hel2;generalize A[e]=x at hx hxm;generalize B[hh-1-e]=y at hy hym;have g1:(P++(A++(B++R)))[((P.length:Int)+(e:Int)).toNat]? = some x:=by
   have e1:((P.length:Int)+(e:Int)).toNat=P.length+e:=by omega
   rw[e1,List.getElem?_append_right (by omega)];have e2:P.length+e-P.length=e:=by omega
   rw[e2,List.getElem?_append_left hel,hx]
  rw[wr (n:=(P.length:Int)+hh+(P.length+A.length)) (by omega) (by omega),wr (n:=(P.length:Int)+hh+(P.length+A.length)-1) (by omega) (by omega),wr (n:=(P.length:Int)+hh+(P.length+A.length)-1-(P.length+e)) (by omega) (by omega)];have g0:(P++(A++(B++R)))[((P.length:Int)+hh+(P.length+A.length)-1-(P.length+e)).toNat]? = some y:=by
   have e1:((P.length:Int)+hh+(P.length+A.length)-1-(P.length+e)).toNat=P.length+(A.length+(hh-1-e)):=by omega
   rw[e1,List.getElem?_append_right (by omega)];have e2:P.length+(A.length+(hh-1-e))-P.length=A.length+(hh-1-e):=by omega
   rw[e2,List.getElem?_append_right (by omega)];have e3:A.length+(hh-1-e)-A.length=hh-1-e:=by omega
   rw[e3,List.getElem?_append_left hel2,hy]
  refine gd (by decide) ?_;refine Ly h i hi hr (by omega) (by omega) g0 g1 (bB y hym) (bA x hxm) λw h=>?_;refine it (λhl=>?_) (λhl=>?_)<;>(try simp only[zB]at hl)
  ·refine hag (d-(e+1)) _ w (by omega) ⟨e+1,d,?_,by omega,by omega,by omega,hd,λe' x' y' he1 he2 hx' hy'=>?_,h2,h⟩
   ·rw[wr (by omega) (by omega)];congr 1
   ·have q1:=fh sA (by omega) hx' hx;have q2:=fh sB (by omega) hy hy';omega
  ·refine hag (e-c) _ w (by omega) ⟨c,e,rfl,by omega,by omega,by omega,by omega,h1,λe' x' y' he1 he2 hx' hy'=>?_,h⟩;have q1:=fh sA he1 hx hx';have q2:=fh sB (by omega) hy' hy;omega
 clear hag;have e:d=c:=by omega
 subst e;have C:=z39 rfl rfl hhe sA sB h0 hc0 hd h1 h2;clear h1 h2 h0 hc0 hd hcd;obtain⟨A1,A2,rfl,lA1⟩:∃A1 A2,A=A1++A2∧A1.length=d:=⟨A.take d,A.drop d,(List.take_append_drop ..).symm,by rw[List.length_take];have:=C.c1;omega⟩;obtain⟨B1,B2,rfl,lB1⟩:∃B1 B2,B=B1++B2∧B1.length=hh-d:=⟨B.take (hh-d),B.drop (hh-d),(List.take_append_drop ..).symm,by rw[List.length_take];have:=C.c3;omega⟩;have tA:(A1++A2).take d=A1:=by rw[←lA1,List.take_left]
 have dA:(A1++A2).drop d=A2:=by rw[←lA1,List.drop_left]
 have tB:(B1++B2).take (hh-d)=B1:=by rw[←lB1,List.take_left]
 have dB:(B1++B2).drop (hh-d)=B2:=by rw[←lB1,List.drop_left]
 have hlo:=C.lo;have hhi:=C.hi;have hc2:=C.c2;rw[tA,dB]at hlo;rw[tB,dA]at hhi;clear tA dA tB dB C;have pA:=List.pairwise_append.1 sA;have pB:=List.pairwise_append.1 sB;simp only[List.length_append]at *
 rw[wr (n:=(P.length:Int)+hh+(P.length+((A1.length+A2.length:Nat):Int))) (by omega) (by omega),wr (n:=(P.length:Int)+hh+(P.length+((A1.length+A2.length:Nat):Int))-(P.length+(d:Int))) (by omega) (by omega)];have hend:(P.length:Int)+hh+(P.length+((A1.length+A2.length:Nat):Int))-(P.length+(d:Int))=(P.length:Int)+((hh+A2.length:Nat):Int):=by omega
 rw[hend];have lo2:∀x∈A1,∀y∈B2,nu x y:=λx hx y hy=>by
  have q1:=hlo x hx y hy;have q2:=hAB x (by simp[hx]) y (by simp[hy]);unfold nu;omega
 refine Zz (λ_ w=>∃s,Rw eC zz 2 v (P++(A1++(B1++(A2++(B2++R))))) s∧St w0 (zd E i s) w) (λk' hk'=>?_) ?_
 ·have stay:(A2 = []∨B1 = [])→k' () w:=λhh=>hk' () w ⟨s,by
   have e:P++(A1++(B1++(A2++(B2++R))))=P++((A1++A2)++((B1++B2)++R)):=by rcases hh with rfl | rfl<;>simp
   rw[e];exact hr,by rwa [yM hi]⟩
  refine it (λhc1=>?_) (λhc1=>?_)<;>(try simp only[zB]at hc1)
  ·refine it (λhc3=>?_) (λhc3=>?_)<;>(try simp only[zB]at hc3)
   ·refine z3o (P:=P++A1) (A:=A2) (B:=B1) (R:=B2++R) h i hi (by simpa using hr) (by simp only[List.length_append];omega) (List.length_pos_iff.1 (by omega)) (List.length_pos_iff.1 (by omega)) (by rw[List.length_append];omega) (by rw[List.length_append];omega) (by rw[List.length_append];omega) λs' w hr h=>?_;exact hk' () w ⟨s',by simpa using hr,h⟩
   ·exact stay (.inr (List.eq_nil_of_length_eq_zero (by omega)))
  ·exact stay (.inl (List.eq_nil_of_length_eq_zero (by omega)))
 clear hr;clear h;rintro _ w ⟨s,hr,h⟩
 (try dsimp only)
 refine Zz (λ_ w=>∃S1 s,Ls S1∧S1.Perm (A1++B1)∧Rw eC zz 2 v (P++(S1++(A2++(B2++R)))) s∧St w0 (zd E i s) w) (λk' hk'=>?_) ?_
 ·have stay:(A1 = []∨B1 = [])→k' () w:=λhh=>hk' () w ⟨A1++B1,s,by
   rcases hh with rfl | rfl
   ·simpa using pB.1
   ·simpa using pA.1,.refl _,by simpa using hr,h⟩
  refine it (λhc1=>?_) (λhc1=>?_)<;>(try simp only[zB]at hc1)
  ·refine it (λhc3=>?_) (λhc3=>?_)<;>(try simp only[zB]at hc3)
   ·refine ih (P:=P) (A:=A1) (B:=B1) (R:=A2++(B2++R)) h i (uL hi) hr (by simp only[List.length_append];omega) (by omega) (List.length_pos_iff.1 (by omega)) (List.length_pos_iff.1 (by omega)) pA.1 pB.1 (λx hx y hy=>hAB x (by simp[hx]) y (by simp[hy]))
     (λx hx=>bA x (by simp[hx])) (λx hx=>bB x (by simp[hx])) rfl (by omega) (by omega) λS1 s' w l1 p1 hr h=>?_
    rw[qL]at h;exact hk' () w ⟨S1,s',l1,p1,hr,h⟩
   ·exact stay (.inr (List.eq_nil_of_length_eq_zero (by omega)))
  ·exact stay (.inl (List.eq_nil_of_length_eq_zero (by omega)))
 clear hr;clear h;rintro _ w ⟨S1,s,l1,p1,hr,h⟩
 (try dsimp only)
 have lS1:S1.length=hh:=by rw[p1.length_eq,List.length_append];omega
 have fin:∀S2 s' w',Ls S2→S2.Perm (A2++B2)→Rw eC zz 2 v ((P++S1)++(S2++R)) s'→St w0 (zd E i s') w'→k () w':=λS2 s' w' l2 p2 hr h=>by
  refine hk (S1++S2) s' w' (List.pairwise_append.2 ⟨l1,l2,λx hx y hy=>?_⟩) ?_ (by simpa using hr) h
  ·rcases List.mem_append.1 (p1.mem_iff.1 hx)with hx | hx<;>rcases List.mem_append.1 (p2.mem_iff.1 hy)with hy | hy
   ·exact pA.2.2 x hx y hy
   ·exact lo2 x hx y hy
   ·exact .inl (hhi x hx y hy)
   ·exact pB.2.2 x hx y hy
  ·refine(p1.append p2).trans ?_;rw[List.append_assoc,List.append_assoc];refine List.Perm.append_left _ ?_;rw[←List.append_assoc,←List.append_assoc];exact List.Perm.append_right _ List.perm_append_comm
 have stay:(A2 = []∨B2 = [])→k () w:=λhh=>fin (A2++B2) s w (by
   rcases hh with rfl | rfl
   ·simpa using pB.2.1
   ·simpa using pA.2.1) (.refl _) (by simpa using hr) h
 refine it (λhc1=>?_) (λhc1=>?_)<;>(try simp only[zB]at hc1)
 ·refine it (λhc3=>?_) (λhc3=>?_)<;>(try simp only[zB]at hc3)
  ·refine ih (P:=P++S1) (A:=A2) (B:=B2) (R:=R) h i (uL hi) (by simpa using hr) (by simp only[List.length_append];omega) (by omega) (List.length_pos_iff.1 (by omega)) (List.length_pos_iff.1 (by omega)) pA.2.1 pB.2.1 (λx hx y hy=>hAB x (by simp[hx]) y (by simp[hy]))
    (λx hx=>bA x (by simp[hx])) (λx hx=>bB x (by simp[hx])) (by rw[List.length_append];omega) (by rw[List.length_append];omega) (by rw[List.length_append];omega) λS2 s' w l2 p2 hr h=>?_
   rw[qL]at h;exact⟨(),rfl,fin S2 s' w l2 p2 hr h⟩
  ·exact⟨(),rfl,stay (.inr (List.eq_nil_of_length_eq_zero (by omega)))⟩
 ·exact⟨(),rfl,stay (.inl (List.eq_nil_of_length_eq_zero (by omega)))⟩
def Ig(h:St w0 E w)(i:Nat){s:Seg}(hi:nth E i=some s){v:Sl}{M:List (Int×Int)}(hr:Rw eC zz 2 v M s)(hn:M.length<40)(hid:M.Pairwise λa b=>a.2<b.2)
  (hb:∀x∈M,bdC x) {k:Unit→PT} (hk:∀s' w',Rw eC zz 2 v (YM M) s'→St w0 (zd E i s') w'→k () w') :
  L.call Pr ZF [.slice v.a v.len v.cap,dC] (.tup []) k w:=by
 by_cases h20:M.length≤20
 ·exact z1h h i hi hr h20 hb hk
 refine za (Yn _ ⟨.func Zj,#[],#[]⟩) ?_;unfold ye;refine za (JQ _ _ ⟨.func Zj,#[],#[]⟩) ?_;unfold YK;have hlen:=Rw.len UD hr;obtain⟨M1,M2,rfl,l1⟩:∃M1 M2,M=M1++M2∧M1.length=20:=⟨M.take 20,M.drop 20,(List.take_append_drop ..).symm,by rw[List.length_take];omega⟩;have p12:=List.pairwise_append.1 hid;rw[List.length_append]at hn h20 hlen;have hb1:∀x∈YM M1,bdC x:=λx hx=>hb x (by simp[(Qo M1).mem_iff.1 hx]);have hb2:∀x∈YM M2,bdC x:=λx hx=>hb x (by simp[(Qo M2).mem_iff.1 hx]);refine zT (λq y w=>(q=1∧y=(0,20,())∧St w0 E w)∨(q=0∧y=(20,40,())∧∃s',Rw eC zz 2 v (YM M1++(M2++[])) s'∧St w0 (zd E i s') w)) 1 (.inl ⟨rfl,rfl,h⟩) ?_;clear h;rintro q y w (⟨rfl,rfl,h⟩ | ⟨rfl,rfl,s',hr',h⟩) again hag<;>dsimp only
 ·refine itT (decide_eq_true (by omega)) ?_;refine Nf (P:=[]) (M:=M1) (R:=M2) h i hi (by simpa using hr) (by simp;omega) (λx hx=>hb x (by simp[hx])) (by rfl) (by simp;omega) λs' w hr' h=>?_;rw[wr (by omega) (by omega)];exact hag 0 _ w (by omega) (.inr ⟨rfl,rfl,s',by simpa using hr',h⟩)
 ·refine itF (decide_eq_false (by omega)) ?_;refine Nf (P:=YM M1) (M:=M2) (R:=[]) h i (uL hi) hr' (by simp[js];omega) (λx hx=>hb x (by simp[hx])) (by rw[js];omega) (by rw[js];omega) λs' w hr' h=>?_;rw[qL]at h;refine zT (λq y w=>(q=1∧y=(20,())∧∃s',Rw eC zz 2 v (YM M1++(YM M2++[])) s'∧St w0 (zd E i s') w)∨(q=0∧y=(40,())∧∃s',Rw eC zz 2 v (YM (M1++M2)) s'∧St w0 (zd E i s') w)) 1 (.inl ⟨rfl,rfl,s',hr',h⟩) ?_;clear hr';clear h;rintro q y w (⟨rfl,rfl,s',hr',h⟩ | ⟨rfl,rfl,s',hr',h⟩) again hag<;>dsimp only
  ·refine itT (decide_eq_true (by omega)) ?_;rw[wr (n:=2*20) (by omega) (by omega)];refine zT (λq y w'=>y=(0,2*20,())∧w'=w) 0 ⟨rfl,rfl⟩ ?_;rintro q y w' ⟨rfl,rfl⟩ again2 hag2;dsimp only;refine itF (decide_eq_false (by omega)) ?_;refine Zz (λ_ w=>∃s',Rw eC zz 2 v (YM (M1++M2)) s'∧St w0 (zd E i s') w) (λk' hk'=>?_) ?_
   ·rw[wr (n:=0+20) (by omega) (by omega)];refine itT (decide_eq_true (by omega)) ?_
    refine z3m (M1.length+M2.length) (P:=[]) (A:=YM M1) (B:=YM M2) (R:=[]) h i (uL hi) hr' (by simp[js];omega) (by rw[js,js];omega) (List.length_pos_iff.1 (by rw[js];omega)) (List.length_pos_iff.1 (by rw[js];omega)) (cL p12.1) (cL p12.2.1)
     (λx hx y hy=>p12.2.2 x ((Qo M1).mem_iff.1 hx) y ((Qo M2).mem_iff.1 hy)) hb1 hb2 (by rfl) (by rw[js];simp;omega) (by rw[js,js];simp;omega) λS s'' w lS pS hr'' h=>?_
    rw[qL]at h;have e:S=YM (M1++M2):=RG lS (cL hid) ((pS.trans ((Qo M1).append (Qo M2))).trans (Qo _).symm);subst e;exact hk' () w ⟨s'',by simpa using hr'',h⟩
   ·clear hr';rintro _ w'' ⟨s'',hr'',h⟩
    (try dsimp only)
    rw[wr (n:=20*2) (by omega) (by omega)];exact hag 0 _ w'' (by omega) (.inr ⟨rfl,rfl,s'',hr'',h⟩)
  ·refine itF (decide_eq_false (by omega)) ?_;exact⟨(),rfl,(),rfl,hk s' w hr' h⟩
def ZM(F:ze)(rev:B0)(q:Int):ze×Int×Bool:=
 if(Zu F.l q).isSome then(F,0,false)else match CT F.l rev with
 | none=>(F,0,false)
 | some x=>({ F with l:=YJ F.l x.id λp=>(yj p q).1 },x.id,true)
def Az:∀{R:List Zg}{b x:Option Zg},R.foldl Qb b=x→(∀y,b=some y→can y=true)→∀y,x=some y→can y=true∧(y∈R∨b=some y)
 | [],b,x,h,hb,y,hy=>by subst h;exact⟨hb y hy,.inr hy⟩
 | z::R,b,x,h,hb,y,hy=>by
  rw[List.foldl_cons]at h;have hz:∀y,Qb b z=some y→can y=true∧(y=z∨b=some y):=by
   intro y hy;unfold Qb at hy
   cases b with
   | none=>simp only at hy;split at hy<;>simp at hy;subst hy;exact⟨by assumption,.inl rfl⟩
   | some u=>
    simp only at hy;split at hy
    ·simp at hy;subst hy;rename_i h;exact⟨h.1,.inl rfl⟩
    ·simp at hy;subst hy;exact⟨hb u rfl,.inr rfl⟩
  have:=Az h (λy hy=>(hz y hy).1) y hy;refine⟨this.1,?_⟩;rcases this.2 with h | h
  ·left;simp[h]
  ·rcases(hz y h).2 with e | e
   ·left;simp[e]
   ·right;exact e
def gu{l:List Zg}{rev:B0}{x:Zg}(h:CT l rev=some x):x∈l∧x.rev=rev∧can x=true:=by
 have:=Az h (by simp) x rfl;rcases this.2 with h2 | h2
 ·exact⟨(List.mem_filter.1 h2).1,of_decide_eq_true (List.mem_filter.1 h2).2,this.1⟩
 ·cases h2
def Gp{x:Zg}(hc:can x=true){q:Int}(hq:q∉x.pod.reqs):yj x.pod q=({ x.pod with reqs:=Mo q x.pod.reqs },0):=by
 have:=of_decide_eq_true hc;unfold yj;rw[if_neg (by omega),if_neg hq,if_neg (by omega)]
def IX{x:Zg}(hc:¬can x=true){q:Int}(hq:q∉x.pod.reqs):(yj x.pod q).1=x.pod∧(yj x.pod q).2≠0:=by
 have:¬(x.pod.st=2∧(x.pod.reqs.length:Int)<x.pod.conc):=λh=>hc (decide_eq_true h);unfold yj;by_cases h:x.pod.st≠2
 ·rw[if_pos h];exact⟨rfl,by simp⟩
 ·rw[if_neg h,if_neg hq,if_pos (by omega)];exact⟨rfl,by simp⟩
def xF{l:List Zg}(once:l.Pairwise (λx y=>∀q∈x.pod.reqs,q∉y.pod.reqs)){x:Zg}(hx:x∈l){q:Int}(hq:q∈x.pod.reqs):Zu l q=some x:=by
 unfold Zu
 induction l with
 | nil=>simp at hx
 | cons y l ih=>
  rw[List.pairwise_cons]at once;rcases List.mem_cons.1 hx with rfl | hx
  ·rw[List.find?_cons_of_pos (by simpa using hq)]
  ·rw[List.find?_cons_of_neg (by simpa using λh=>once.1 x hx q h hq)];exact ih once.2 hx
def nT{F:ze}(ok:F.Ok)(rev:B0)(q:Int):(ZM F rev q).1.Ok:=by
 unfold ZM;split
 ·exact ok
 ·rename_i hw;split
  ·exact ok
  ·rename_i x hp;obtain⟨hx,-,hc⟩:=gu hp;have hn:Zu F.l q=none:=by cases h:Zu F.l q<;>simp[h]at hw ⊢
   have ht:=Gp hc (xN hn x hx);have hcc:=of_decide_eq_true hc;refine ok.upd (XA ok.pw hx) _ ?_ ?_
   ·rw[ht];simp only;omega
   ·rw[ht];intro q2 h2;rcases Qk.1 h2 with rfl | h2
    ·exact .inr hn
    ·exact .inl h2
def z1b(h:St w0 E w)(i:Nat){A B:List Tr}{t:Tr}(hi:nth E i=some ((A++t::B).map trS).flatten)(hp:kq t.2.1 t.1.pod t.2.2)(hfew:t.1.pod.reqs.length<10000000){q:Int}{k:Int→PT}
  (hk:∀s' w',kq t.2.1 (yj t.1.pod q).1 s'→St w0 (zd E i ((A++({ t.1 with pod:=(yj t.1.pod q).1 },t.2.1,s')::B).map trS).flatten) w'→k (yj t.1.pod q).2 w') :
  L.call Pr UT [.pointer (some ⟨t.2.1,0,none⟩),I q] (.one (.one (.int .i64))) k w:=by
 refine z1n (h.front i hi).pick 0 rfl hp hfew λs' w hp' h=>hk s' w hp' ?_;have h:St w0 (trS ({ t.1 with pod:=(yj t.1.pod q).1 },t.2.1,s')::((A++B).map trS).flatten::Zv E i) w:=h;exact St.back i hi h.place
def FlR.same{F:ze}{A B:List Tr}{t:Tr}{mA mW}(hr:FlR F (A++t::B) mA mW){s':Seg}(hp:kq t.2.1 t.1.pod s'):FlR F (A++(t.1,t.2.1,s')::B) mA mW:=by
 refine⟨by rw[hr.l];simp,λy hy=>?_,by have:=hr.all;simp only[List.map_append,List.map_cons]at this ⊢;exact this,hr.wth⟩;rcases List.mem_append.1 hy with hy | hy
 ·exact hr.ps y (by simp[hy])
 ·rcases List.mem_cons.1 hy with rfl | hy
  ·exact hp
  ·exact hr.ps y (by simp[hy])
def FlR.getW{F:ze}{L:List Tr}{mA mW}(hr:FlR F L mA mW)(q:Int):(zr mW q).isSome=(Zu F.l q).isSome:=by rw[hr.wth];cases Zu F.l q<;>rfl
def z1E(h:St w0 E w)(i:Nat){b:Nat}{F:ze}{s:Seg}(hi:nth E i=some s)(hf:FlS b F s){rev:B0}{q:Int}(h20:(revs F.l rev).length≤30)(hfew:∀x∈F.l,x.pod.reqs.length<10000000){k:Int×Bool×Unit→PT}
  (hk:∀s' w',FlS b (ZM F rev q).1 s'→St w0 (zd E i s') w'→k ((ZM F rev q).2.1,(ZM F rev q).2.2,()) w') :
  L.call Pr Ua [pO b,.string rev,I q] (.tup [.one (.int .i64),.one .bool]) k w:=by
 have hf0:=hf;obtain⟨ok,rA,rW,mA,mW,sA,sW,L,hA,hW,hr,rfl⟩:=hf;refine za (PA _ _ _) ?_;unfold oF;have hll:L.length=F.l.length:=by rw[hr.l];simp
 have hcount:=ok.few;have h:St w0 (flB b rA rW F::sA::sW::(L.map trS).flatten::Zv E i) w:=(h.front i hi).eq (by simp)
 (refine nn ?_;refine ldC h ?_)
 refine MpS.get2 mkI xA zi (λx:Int=>x) (λ_=>rfl) h 2 rfl hW ?_;rw[hr.getW];refine it (λhc=>?_) (λhc=>?_)<;>(try simp only[zB]at hc)
 ·have e:ZM F rev q=(F,0,false):=by unfold ZM;rw[if_pos hc]
  rw[e]at hk;exact⟨(0,false,()),rfl,hk _ w hf0 (St.back i hi (h.eq (by simp)))⟩
 have hn:Zu F.l q=none:=by cases h:Zu F.l q<;>simp[h]at hc ⊢
 have hno:=xN hn;refine nw h ?_;clear h;intro b4 w h;refine z1r h λc0 c1 w h=>?_;have h:=YA (YA (Yh (Yh h)));have h:St w0 ([[Cl c1 zc [.string rev]],[Cl c0 ZO [.pointer (some ⟨b,0,none⟩)]],flB b rA rW F,sA]++[Cl b4 yi [SlV ⟨none,0,0⟩]]::[]::sW::(L.map trS).flatten::Zv E i) w:=h.eq (by simp);have hR:=hr.revs rev;have hlR:(L.filter (qz rev)).length≤30:=by rw[hR,List.length_map]at h20;exact h20
 refine qu (A:=[_,_,_,_]) (z0X ok hA hr) h (λm G=>∃v sv,Rw eC zz 2 v (((L.filter (qz rev)).take m).map λt=>key t.1) sv∧G = [Cl b4 yi [SlV v]]::sv::sW::(L.map trS).flatten::Zv E i) (λj G=>False) ⟨_,_,Rw.nil,rfl⟩ ?_ ?_ ?_
 ·rintro m G X w lv lp d R hm ⟨v,sv,hv,rfl⟩ h hN hE;have hx:=List.getElem?_eq_getElem hm;have h:St w0 ([Rec lv lp .busy none]::[DfM d]::[Cl c1 zc [.string rev]]::[Cl c0 ZO [.pointer (some ⟨b,0,none⟩)]]::flB b rA rW F::sA::[Cl b4 yi [SlV v]]::sv::sW::(L.map trS).flatten::(Zv E i++X)) w:=h;rw[Dw hm]
  (try dsimp only)
  have hmem:=np hm;have hps:=hr.ps _ hmem
  (refine dr h ?_;clear h;intro w h;refine ldC h ?_)
  refine Td h 9 rfl hmem hps ?_
  (refine ckC h ?_)
  refine nw h ?_;clear h;intro b11 w h
  (refine ckC h ?_)
  refine Rw.app UD elC h 7 rfl hv (key (L.filter (qz rev))[m].1) rfl (by simp;omega) (by simp;omega) λv' s' w hv h=>?_
  (dsimp only[zd,List.cons_append,List.nil_append]at h;refine stC h ?_;clear h;intro w h;dsimp only[zJ,zd]at h)
  refine hN _ w ⟨v',s',?_,rfl⟩ h;rw[List.take_add_one,hx,List.map_append];exact hv
 ·rintro d G w ⟨v,sv,hv,rfl⟩ h;have h:St w0 ([DfM d]::[Cl c1 zc [.string rev]]::[Cl c0 ZO [.pointer (some ⟨b,0,none⟩)]]::flB b rA rW F::sA::[Cl b4 yi [SlV v]]::sv::sW::(L.map trS).flatten::Zv E i) w:=h;rw[List.take_length]at hv;have e:(L.filter (qz rev)).map (λt=>key t.1)=(revs F.l rev).map key:=by rw[hR,List.map_map];rfl
  rw[e]at hv;have h:=Yf (VQ h);refine vC ?_
  (refine ldC h ?_)
  refine Ig h 4 rfl hv (by rw[List.length_map];omega) (by
   rw[List.pairwise_map];exact(ok.pw.filter _).imp λhxy=>hxy) (λc hc=>by
   obtain⟨x,hx,rfl⟩:=List.mem_map.1 hc;have:=hfew x (List.mem_filter.1 hx).1;simp only[key];omega) λsv w hv h=>?_
  have hfp:=WO (p:=λc=>((Xd F.l c.2).map can).getD false) _ (R:=revs F.l rev) rfl λx hx=>by
   have:=XA ok.pw (List.mem_filter.1 hx).1;show((Xd F.l x.id).map can).getD false=_;rw[this];rfl
  have hcm:∀c∈YM ((revs F.l rev).map key),∃x∈F.l,c=key x:=λc hc=>by
   obtain⟨x,hx,rfl⟩:=List.mem_map.1 ((Qo _).mem_iff.1 hc);exact⟨x,(List.mem_filter.1 hx).1,rfl⟩
  have hpk:CT F.l rev=(revs F.l rev).foldl Qb none:=rfl;rw[←hpk]at hfp;have hcl:(YM ((revs F.l rev).map key)).length≤30:=by rw[js,List.length_map];exact h20
  have hlv:=Rw.len UD hv;generalize YM ((revs F.l rev).map key)=cs at hv hfp hcm hcl hlv
  (dsimp only[zd,List.cons_append,List.nil_append]at h;refine ldC h ?_)
  have h:St w0 ([DfM d]::flB b rA rW F::sA::[Cl b4 yi [SlV v]]::sv::sW::(L.map trS).flatten::Zv E i) w:=h
  refine zT (λp y w=>∃(j:Nat)(L:List Tr),y=((j:Int),())∧p+j=cs.length∧(∀c∈cs.take j,((Xd F.l c.2).map can).getD false=false)∧FlR F L mA mW∧
   St w0 ([DfM d]::flB b rA rW F::sA::[Cl b4 yi [SlV v]]::sv::sW::(L.map trS).flatten::Zv E i) w) cs.length ⟨0,L,rfl,rfl,by simp,hr,h⟩ ?_
  clear hr hf0 hR hlR e hll;clear h;rintro p y w ⟨j,L,rfl,hp,hfn,hr,h⟩ again hag
  (try dsimp only)
  refine it (λhc=>?_) (λhc=>?_)<;>(try simp only[zB]at hc)
  ·have hj:j<cs.length:=by omega
   have hxj:cs[j]? = some cs[j]:=List.getElem?_eq_getElem hj;have hdrop:cs=cs.take j++cs[j]::cs.drop (j+1):=by rw[←List.drop_eq_getElem_cons hj,List.take_append_drop]
   obtain⟨x,hxl,hcx⟩:=hcm _ (List.getElem_mem hj);rw[hcx]at hxj hdrop;have hfx:=XA ok.pw hxl;obtain⟨A,t,B,rfl,rfl,-⟩:=hr.at hfx;have hg:=hr.get ok (t:=t) (by simp);have hps:=hr.ps t (by simp);have hqx:=hno t.1 hxl;refine Rw.ix UD hv (by omega) (by simpa using hj) λa ha=>?_;rw[Int.toNat_natCast]at ha;refine Rw.lda UD h 4 rfl hv ha hxj rfl ?_;refine nw h ?_;clear h;intro b22 w h
   (refine stC h ?_;clear h;intro w h;dsimp only[zJ,zd]at h;refine dr h ?_;clear h;intro w h;refine nn ?_;refine ldC h ?_;refine ldC h ?_)
   refine MpS.get mkI xz zo (λx:B0×Option Addr=>(x.1,x.2,())) (λ_=>rfl) h 3 rfl hA ?_;rw[show zr mA (key t.1).2=_ from hg];simp only[Option.map_some,Option.getD_some];refine z1b h 7 rfl hps (hfew _ hxl) λs' w hps' h=>?_;by_cases hcan:can t.1=true
   ·have ht:=Gp hcan hqx;refine itT (by rw[ht];rfl) ?_;have hfd:CT F.l rev=some t.1:=by
     have:cs.find? (λc=>((Xd F.l c.2).map can).getD false)=some (key t.1):=by
      rw[hdrop,List.find?_append,List.find?_cons_of_pos (by show((Xd F.l t.1.id).map can).getD false=true;rw[hfx];exact hcan)];rw[List.find?_eq_none.2 (λc hc=>by rw[hfn c hc];simp)];rfl
     rw[this]at hfp
     cases hpk:CT F.l rev with
     | none=>rw[hpk]at hfp;cases hfp
     | some y=>
      rw[hpk]at hfp;have hid:y.id=t.1.id:=by simp only[Option.map_some,Option.some.injEq,key,Prod.mk.injEq]at hfp;exact hfp.2.symm
      have h1:=XA ok.pw (gu hpk).1;rw[hid,hfx]at h1;exact h1.symm
    have e:ZM F rev q=({ F with l:=YJ F.l t.1.id λp=>(yj p q).1 },t.1.id,true):=by
     unfold ZM;rw[hn,hfd];rfl
    have okT:=nT ok rev q;rw[e]at hk okT;have hrq:(yj t.1.pod q).1.reqs=Mo q t.1.pod.reqs:=by rw[ht]
    have hst:(yj t.1.pod q).1.st≠4:=by rw[ht];have:=of_decide_eq_true hcan;simp only;omega
    (dsimp only[zd,List.cons_append,List.nil_append]at h;refine dr h ?_;clear h;intro w h;refine nn ?_;refine ldC h ?_;refine ldC h ?_)
    refine MpS.set mkI xA h 6 rfl hW t.1.id rfl λsW' w hW' h=>?_
    (dsimp only[zd,List.cons_append,List.nil_append]at h;refine ldC h ?_)
    (first | refine OF h ?_ | refine OE h ?_ | refine OD h ?_ | refine OC h ?_ | refine OB h ?_ | refine OA h ?_ | refine Oz h ?_ | refine Oy h ?_ | refine Ox h ?_ | refine Ow h ?_ | refine uv h ?_ | refine uu h ?_);clear h;intro w h
    refine⟨(t.1.id,true,()),rfl,hk _ w ⟨okT,rA,rW,mA,_,sA,sW',_,hA,hW',hr.upd ok (λp=>(yj p q).1) hps' hst λq'=>?_,rfl⟩ ?_⟩
    ·rw[ya,ok.where_upd hfx _ (λq2 h2=>by
      rw[hrq]at h2;rcases Qk.1 h2 with rfl | h2
      ·exact .inr hn
      ·exact .inl h2) (λh4=>absurd h4 hst),hrq]
     by_cases eq:q=q'
     ·subst eq;rw[if_pos rfl,if_pos (Qk.2 (.inl rfl))]
     ·rw[if_neg eq];by_cases hq2:q'∈t.1.pod.reqs
      ·rw[if_pos (Qk.2 (.inr hq2)),hr.wth,xF ok.once hxl hq2];rfl
      ·rw[if_neg (λhh=>(Qk.1 hh).elim (λe=>eq e.symm) hq2),if_neg hq2,hr.wth]
    ·refine St.back i hi ?_
     (try dsimp only[zd]at h)
     have h:=zm (VP (ko h));exact h.eq (by simp)
   ·have ht:=IX hcan hqx;refine itF (by simpa using ht.2) ?_;rw[ht.1]at hps';have h:=zm h;refine hag (p-1) _ w (by omega) ⟨j+1,A++(t.1,t.2.1,s')::B,?_,by omega,?_,hr.same hps',?_⟩
    ·rw[wr (by omega) (by omega)];simp
    ·intro c hc;rw[List.take_add_one,hxj]at hc;rcases List.mem_append.1 hc with hc | hc
     ·exact hfn c hc
     ·simp at hc;subst hc;show((Xd F.l t.1.id).map can).getD false=false;rw[hfx];simpa using hcan
    ·have h:St w0 ([DfM d]::flB b rA rW F::sA::[Cl b4 yi [SlV v]]::sv::sW::((A++({ t.1 with pod:=(yj t.1.pod q).1 },t.2.1,s')::B).map trS).flatten::Zv E i) w:=h;rw[ht.1]at h;exact h
  ·have hj:j=cs.length:=by omega
   subst hj;rw[List.take_length]at hfn;have hfd:CT F.l rev=none:=by
    rw[List.find?_eq_none.2 (λc hc=>by rw[hfn c hc];simp)]at hfp
    cases hpk:CT F.l rev with
    | none=>rfl
    | some y=>rw[hpk]at hfp;cases hfp
   have e:ZM F rev q=(F,0,false):=by unfold ZM;rw[hn,hfd];rfl
   rw[e]at hk
   (first | refine OF h ?_ | refine OE h ?_ | refine OD h ?_ | refine OC h ?_ | refine OB h ?_ | refine OA h ?_ | refine Oz h ?_ | refine Oy h ?_ | refine Ox h ?_ | refine Ow h ?_ | refine uv h ?_ | refine uu h ?_);clear h;intro w h
   refine⟨(0,false,()),rfl,hk _ w ⟨ok,rA,rW,mA,mW,sA,sW,L,hA,hW,hr,rfl⟩ (St.back i hi ?_)⟩;have h:=VQ (VP h);exact h.eq (by simp)
 ·rintro d j G w hf;exact hf.elim
def ZU(F:ze)(q:Int):ze×B0×Int:=match Zu F.l q with
 | none=>(F,s_,6)
 | some x=>({ F with l:=YJ F.l x.id λp=>(yg p q).1 },x.rev,0)
def Jt(F:ze)(id:Int):ze×List Int×Int:=match Xd F.l id with
 | none=>(F,[],6)
 | some x=>({ F with l:=YJ F.l id λp=>(yk p).1 },x.pod.reqs,0)
def VO{l:List Zg}{q:Int}{x:Zg}(h:Zu l q=some x):x∈l∧q∈x.pod.reqs:=⟨List.mem_of_find?_eq_some h,by simpa using List.find?_some h⟩
def Dp{p:YZ}{q:Int}(h:q∈p.reqs):yg p q=({ p with reqs:=p.reqs.erase q,st:=if p.st=3∧p.reqs.erase q = []then 4 else p.st },0):=by
 unfold yg;rw[if_pos h]
def AE{p:YZ}(h:p.st≠4):yk p=({ p with st:=4,reqs:=[] },p.reqs,0):=by
 unfold yk;rw[if_neg h]
def z1d(h:St w0 E w)(i:Nat){A B:List Tr}{t:Tr}(hi:nth E i=some ((A++t::B).map trS).flatten)(hp:kq t.2.1 t.1.pod t.2.2){q:Int}{k:Int→PT}
  (hk:∀s' w',kq t.2.1 (yg t.1.pod q).1 s'→St w0 (zd E i ((A++({ t.1 with pod:=(yg t.1.pod q).1 },t.2.1,s')::B).map trS).flatten) w'→k (yg t.1.pod q).2 w') :
  L.call Pr UV [.pointer (some ⟨t.2.1,0,none⟩),I q] (.one (.one (.int .i64))) k w:=by
 refine z1q (h.front i hi).pick 0 rfl hp λs' w hp' h=>hk s' w hp' ?_;have h:St w0 (trS ({ t.1 with pod:=(yg t.1.pod q).1 },t.2.1,s')::((A++B).map trS).flatten::Zv E i) w:=h;exact St.back i hi h.place
def z1G(h:St w0 E w)(i:Nat){b:Nat}{F:ze}{s:Seg}(hi:nth E i=some s)(hf:FlS b F s){q:Int}{k:B0×Int×Unit→PT}
  (hk:∀s' w',FlS b (ZU F q).1 s'→St w0 (zd E i s') w'→k ((ZU F q).2.1,(ZU F q).2.2,()) w') :
  L.call Pr Ud [pO b,I q] (.tup [.one .str,.one (.int .i64)]) k w:=by
 have hf0:=hf;obtain⟨ok,rA,rW,mA,mW,sA,sW,L,hA,hW,hr,rfl⟩:=hf;refine za (PD _ _) ?_;unfold oI;have h:St w0 (flB b rA rW F::sA::sW::(L.map trS).flatten::Zv E i) w:=(h.front i hi).eq (by simp)
 (refine nn ?_;refine ldC h ?_)
 refine MpS.get2 mkI xA zi (λx:Int=>x) (λ_=>rfl) h 2 rfl hW ?_;have hwt:=hr.wth q
 cases hfw:Zu F.l q with
 | none=>
  rw[hfw]at hwt;rw[hwt];have e:ZU F q=(F,s_,6):=by unfold ZU;rw[hfw]
  rw[e]at hk;refine itT rfl ?_;exact⟨(s_,6,()),rfl,hk _ w hf0 (St.back i hi (h.eq (by simp)))⟩
 | some x=>
  rw[hfw]at hwt;rw[hwt];refine itF rfl ?_;obtain⟨hxl,hqx⟩:=VO hfw;have hfx:=XA ok.pw hxl;have e:ZU F q=({ F with l:=YJ F.l x.id λp=>(yg p q).1 },x.rev,0):=by unfold ZU;rw[hfw]
  rw[e]at hk;obtain⟨A,t,B,rfl,rfl,-⟩:=hr.at hfx;have hg:=hr.get ok (t:=t) (by simp);have hps:=hr.ps t (by simp);simp only[Option.map_some,Option.getD_some]
  (refine nn ?_;refine ldC h ?_)
  refine MpS.get mkI xz zo (λx:B0×Option Addr=>(x.1,x.2,())) (λ_=>rfl) h 1 rfl hA ?_;rw[hg];simp only[Option.map_some,Option.getD_some];refine nw h ?_;clear h;intro b7 w h
  (refine stC h ?_;clear h;intro w h;dsimp only[zJ,zd]at h;refine ldC h ?_)
  refine z1d h 4 rfl hps λs' w hps' h=>?_
  (try dsimp only[zd]at h)
  (refine nn ?_;refine ldC h ?_)
  refine MpS.del mkI xA h 3 rfl hW λsW' w hW' h=>?_
  (try dsimp only[zd]at h)
  have hgv:=Dp hqx;have hlv:=ok.live t.1 hxl;have hnd:t.1.pod.reqs.Nodup:=hps.1.pw.imp λh=>by omega
  have hrq:(yg t.1.pod q).1.reqs=t.1.pod.reqs.erase q:=by rw[hgv]
  have hq2:∀q2∈(yg t.1.pod q).1.reqs,q2∈t.1.pod.reqs∨Zu F.l q2=none:=λq2 h2=>.inl (by rw[hrq]at h2;exact List.mem_of_mem_erase h2);have h4:(yg t.1.pod q).1.st=4→(yg t.1.pod q).1.reqs = []:=by
   rw[hgv];simp only;split
   ·rename_i h;exact λ_=>h.2
   ·intro h;omega
  have okG:=ok.upd hfx (λp=>(yg p q).1) (by rw[hgv];simp only;split<;>omega) hq2;have hwth:∀q',zr (Kk mW q) q'=(Zu (YJ F.l t.1.id λp=>(yg p q).1) q').map (·.id):=λq'=>by
   rw[mZ _ _ hW.nd,ok.where_upd hfx _ hq2 h4,hrq];by_cases eq:q=q'
   ·subst eq;rw[if_pos rfl,if_neg (by rw[List.Nodup.mem_erase_iff hnd];simp),if_pos hqx]
   ·rw[if_neg eq];by_cases h2:q'∈t.1.pod.reqs
    ·rw[if_pos ((List.Nodup.mem_erase_iff hnd).2 ⟨λe=>eq e.symm,h2⟩),hr.wth,xF ok.once hxl h2];rfl
    ·rw[if_neg (λhh=>h2 (List.mem_of_mem_erase hh)),if_neg h2,hr.wth]
  have h:=Yh (Yh (Yh (Yh h)));refine aK (t:=({ t.1 with pod:=(yg t.1.pod q).1 },t.2.1,s')) h hA hg hps' (λh4'=>?_) λh4' sA' w hA' h=>?_
  ·(refine ldC h ?_)
   refine⟨(t.1.rev,0,()),rfl,hk _ w ⟨okG,rA,rW,mA,_,sA,sW',_,hA,hW',hr.upd ok (λp=>(yg p q).1) hps' h4' hwth,rfl⟩ (St.back i hi ?_)⟩;have h:=ko h;exact h.eq (by simp)
  ·(refine ldC h ?_)
   refine⟨(t.1.rev,0,()),rfl,hk _ w ⟨okG,rA,rW,_,_,sA',sW',_,hA',hW',hr.del ok (λp=>(yg p q).1) h4' hwth,rfl⟩ (St.back i hi ?_)⟩;have h:=ko h;exact h.eq (by simp)
def z1c(h:St w0 E w)(i:Nat){A B:List Tr}{t:Tr}(hi:nth E i=some ((A++t::B).map trS).flatten)(hp:kq t.2.1 t.1.pod t.2.2){k:Sl×Int×Unit→PT}
  (hk:∀v s' s2 w',kq t.2.1 (yk t.1.pod).1 s'→Rw eI zx 1 v (yk t.1.pod).2.1 s2→St w0 (s2::zd E i ((A++({ t.1 with pod:=(yk t.1.pod).1 },t.2.1,s')::B).map trS).flatten) w'→k (v,(yk t.1.pod).2.2,()) w') :
  L.call Pr UU [.pointer (some ⟨t.2.1,0,none⟩)] (.tup [.one .slice,.one (.int .i64)]) k w:=by
 refine z1p (h.front i hi).pick 0 rfl hp λv s' s2 w hp' hr h=>hk v s' s2 w hp' hr ?_;have h:St w0 (s2::trS ({ t.1 with pod:=(yk t.1.pod).1 },t.2.1,s')::((A++B).map trS).flatten::Zv E i) w:=h;have h:=ZL (ZL h);have h:=h.place;exact St.back (i+1) (E:=s2::E) hi h
def z1F(h:St w0 E w)(i:Nat){b:Nat}{F:ze}{s:Seg}(hi:nth E i=some s)(hf:FlS b F s){id:Int}{k:Sl×Int×Unit→PT}
  (hk:∀v s' s2 w',FlS b (Jt F id).1 s'→Rw eI zx 1 v (Jt F id).2.1 s2→St w0 (s2::zd E i s') w'→k (v,(Jt F id).2.2,()) w') :
  L.call Pr Uc [pO b,I id] (.tup [.one .slice,.one (.int .i64)]) k w:=by
 have hf0:=hf;obtain⟨ok,rA,rW,mA,mW,sA,sW,L,hA,hW,hr,rfl⟩:=hf;refine za (PC _ _) ?_;unfold oH;have h:St w0 (flB b rA rW F::sA::sW::(L.map trS).flatten::Zv E i) w:=(h.front i hi).eq (by simp)
 (refine nn ?_;refine ldC h ?_)
 refine MpS.get2 mkI xz zo (λx:B0×Option Addr=>(x.1,x.2,())) (λ_=>rfl) h 1 rfl hA ?_
 cases hfd:Xd F.l id with
 | none=>
  rw[hr.get0 hfd];have e:Jt F id=(F,[],6):=by unfold Jt;rw[hfd]
  rw[e]at hk;simp only[Option.map_none,Option.getD_none,Option.isSome_none];refine nw h ?_;clear h;intro b4 w h
  (refine stC h ?_;clear h;intro w h;dsimp only[zJ,zd]at h)
  refine itT rfl ?_;have h:=zm h;have h:=St.back i hi (s':=flB b rA rW F++(sA++(sW++(L.map trS).flatten))) (h.eq (by simp));exact⟨(⟨none,0,0⟩,6,()),rfl,hk ⟨none,0,0⟩ _ [] w hf0 Rw.nil (h.eq (by simp))⟩
 | some x=>
  obtain⟨hxl,hxid⟩:=YS hfd;have e:Jt F id=({ F with l:=YJ F.l id λp=>(yk p).1 },x.pod.reqs,0):=by unfold Jt;rw[hfd]
  rw[e]at hk;obtain⟨A,t,B,rfl,rfl,-⟩:=hr.at hfd;subst hxid;have hg:=hr.get ok (t:=t) (by simp);have hps:=hr.ps t (by simp);have hlv:=ok.live t.1 hxl;have hkl:=AE (p:=t.1.pod) (by omega);have hfew:=hps.1.few;rw[hg];simp only[Option.map_some,Option.getD_some,Option.isSome_some];refine nw h ?_;clear h;intro b4 w h
  (refine stC h ?_;clear h;intro w h;dsimp only[zJ,zd]at h)
  refine itF rfl ?_
  (refine ldC h ?_)
  have h:=zm h;refine z1c h 3 rfl hps λv s' s2 w hps' hrow h=>?_
  (try dsimp only[zd]at h)
  rw[hkl]at hrow;rw[show(yk t.1.pod).2.2=0 by rw[hkl]];dsimp only at hrow ⊢;have hlen:=Rw.len Yy hrow;have hst4:(yk t.1.pod).1.st=4:=by rw[hkl]
  have hq2:∀q2∈(yk t.1.pod).1.reqs,q2∈t.1.pod.reqs∨Zu F.l q2=none:=λq2 h2=>by rw[hkl]at h2;simp at h2
  have okG:=ok.upd hfd (λp=>(yk p).1) (by rw[hkl];simp) hq2;have hwu:=ok.where_upd hfd (λp=>(yk p).1) hq2 (λ_=>by rw[hkl]);have hw0:=hr.wth
  refine zT (λq y w=>∃(j:Nat)(mW:List (Int×Int))(sW:Seg),y=((j:Int),())∧q+j=t.1.pod.reqs.length∧MpS KI KI rW mW sW∧(∀q',zr mW q'=if q'∈t.1.pod.reqs.take j then none else(Zu F.l q').map (·.id))∧
   St w0 (s2::flB b rA rW F::sA::sW::((A++({ t.1 with pod:=(yk t.1.pod).1 },t.2.1,s')::B).map trS).flatten::Zv E i) w) t.1.pod.reqs.length ⟨0,mW,sW,rfl,rfl,hW,by simpa using hw0,h⟩ ?_
  clear hW hf0;clear h;rintro q y w ⟨j,mW',sW',rfl,hq,hW,hmw,h⟩ again hag
  (try dsimp only)
  refine it (λhc=>?_) (λhc=>?_)<;>(try simp only[zB]at hc)
  ·have hj:j<t.1.pod.reqs.length:=by omega
   have hx:t.1.pod.reqs[j]? = some t.1.pod.reqs[j]:=List.getElem?_eq_getElem hj;generalize t.1.pod.reqs[j]=z at hx;refine Rw.ix Yy hrow (by omega) (by simpa using hj) λa ha=>?_;rw[Int.toNat_natCast]at ha;refine Rw.ld0 Yy h 0 rfl hrow ha hx rfl rfl ?_
   (dsimp only[zd,List.cons_append,List.nil_append]at h;refine nn ?_;refine ldC h ?_)
   refine MpS.del mkI xA h 3 rfl hW λsW2 w hW2 h=>?_;refine hag (q-1) _ w (by omega) ⟨j+1,_,sW2,?_,by omega,hW2,λq'=>?_,h⟩
   ·rw[wr (by omega) (by omega)];simp
   ·rw[mZ _ _ hW.nd,hmw,List.take_add_one,hx];by_cases eq:z=q'
    ·subst eq;simp
    ·have:¬q'=z:=λe=>eq e.symm;simp[eq,this]
  ·have hj:j=t.1.pod.reqs.length:=by omega
   subst hj;rw[List.take_length]at hmw;have h:=Yh (Yh (Yh (Yh h)));refine aK (t:=({ t.1 with pod:=(yk t.1.pod).1 },t.2.1,s')) h hA hg hps' (λh4'=>absurd hst4 h4') λh4' sA' w hA' h=>?_;refine⟨(v,0,()),rfl,hk v (flB b rA rW F++(sA'++(sW'++((A++B).map trS).flatten))) s2 w ⟨okG,rA,rW,_,_,sA',sW',_,hA',hW,hr.del ok (λp=>(yk p).1) h4' (λq'=>?_),rfl⟩ hrow ?_⟩
   ·rw[hmw,hwu,if_neg (c:=q'∈(yk t.1.pod).1.reqs) (by rw[hkl];simp)]
   ·exact St.back (i+1) (E:=s2::E) hi (h.eq (by simp[Zv]))
def eH(p:Int×Int):List Value:=[I p.1,I p.2]
def bn:Enc eH 2:=⟨λ_=>rfl,λ_=>rfl,by decide⟩
def elH:El Pr yE jx 2 16 (.agg #[I 0,I 0]):=gB (by kernel_rfl) (by kernel_rfl) rfl (by decide)
def LnS(b:Nat)(room:Int)(l:List (Int×Int))(s:Seg):Prop:=∃v sr,Rw eH jx 2 v l sr∧s = [Cl b Uw [SlV v,I room]]++sr
def cz(l:List (Int×Int))(id:Int):Bool:=l.any λx=>x.1 == id
def vg(room:Int)(l:List (Int×Int))(id u:Int):List (Int×Int)×Int:=
 if cz l id then(l,5)else if(l.length:Int)≥room then(l,8)else(l++[(id,u)],0)
def z2O:List (Int×Int)→List (Int×Int)×Int×Bool
 | []=>([],0,false)
 | x::l=>(l,x.1,true)
def jc(l:List (Int×Int))(now:Int):List Int:=(l.filter λx=>x.2≤now).map (·.1)
def gx(l:List (Int×Int))(now:Int):List (Int×Int):=l.filter λx=>!decide (x.2≤now)
def z3j(h:St w0 E w){room:Int}{k:Option Addr→PT}(hk:∀b s w',LnS b room [] s→St w0 (s::E) w'→k (some ⟨b,0,none⟩) w'):L.call Pr pL [I room] (.one (.one .ptr)) k w:=by
 refine za (aU _) ?_;unfold Nk;refine nw h ?_;clear h;intro b w h;exact⟨_,rfl,hk b _ w ⟨⟨none,0,0⟩,[],Rw.nil,rfl⟩ (h.eq (by simp))⟩
def aA(h:St w0 E w)(i:Nat){b:Nat}{room:Int}{l:List (Int×Int)}{s:Seg}(hi:nth E i=some s)(hl:LnS b room l s){k:Int→PT}(hk:k l.length w):L.call Pr qi [pO b] (.one (.one (.int .i64))) k w:=by
 obtain⟨v,sr,hr,rfl⟩:=hl;refine za (dL _) ?_;unfold fA;have h:=(h.front i hi).split
 (refine nn ?_;refine ldC h ?_)
 refine⟨_,rfl,?_⟩;rw[Rw.len bn hr];exact hk
def Lx(h:St w0 E w){b:Nat}{k:FV→PT}(hk:∀c w',St w0 ([Cl c XC [.pointer (some ⟨b,0,none⟩)]]::E) w'→k ⟨.func jF,#[],#[.pointer (some ⟨c,0,none⟩)]⟩ w') :
  L.call Pr jq [pO b] (.one (.one .func)) k w:=by
 refine za (Mt _) ?_;unfold kK;refine nw h ?_;clear h;intro c w h;exact⟨_,rfl,hk c w h⟩
def iZ(l:List (Int×Int))(m:Nat):TT [.one (.int .i64),.one (.int .i64)]:=(((l[m]?).getD (0,0)).1,((l[m]?).getD (0,0)).2,())
def Ln{b c T:Nat}{rm:Value}{v:Sl}{l:List (Int×Int)}{sr:Seg}(hr:Rw eH jx 2 v l sr)(hn:l.length<1000000000) :
  Yld Pr w0 [[Cl c XC [.pointer (some ⟨b,0,none⟩)]],[Cl b T [SlV v,rm]],sr] (.func (.func jF) #[] #[.pointer (some ⟨c,0,none⟩)]) l.length λm=>TV _ (iZ l m):=by
 intro yv R J Jd F w h hJ step fin fin2;have hlen:=Rw.len bn hr;refine⟨fQ,fV yv ⟨c,0,none⟩ ?_⟩;unfold vD
 (dsimp only[zd,List.cons_append,List.nil_append]at h;refine ldC h ?_;refine nn ?_;refine ldC h ?_)
 refine zT (λq y w=>∃(m:Nat)(F:List Seg),@Eq Int y.1 m∧q+m=l.length∧J m F∧St w0 ([Cl c XC [.pointer (some ⟨b,0,none⟩)]]::[Cl b T [SlV v,rm]]::sr::F) w) l.length ⟨0,F,rfl,rfl,hJ,h⟩ ?_;rintro q ⟨y,⟨⟩⟩ w ⟨m,F,hy,hq,hJ,h⟩ again hag;simp only at hy;subst hy;refine it (λhb=>?_) (λhb=>?_)<;>(try simp only[zB]at hb)
 ·have hm:m<l.length:=by omega
  have hx:l[m]? = some l[m]:=List.getElem?_eq_getElem hm;refine Rw.ix bn hr (by omega) (by simpa using hm) λa ha=>?_;refine Rw.lda bn h 2 rfl hr ha (x:=l[m]) (by simpa using hx) rfl ?_;refine nw h ?_;clear h;intro b2 w h
  (refine stC h ?_;clear h;intro w h;dsimp only[zJ,zd]at h;refine ldC h ?_;refine ldC h ?_)
  have h:=zm h;have ea:TV _ (iZ l m) = [I l[m].1,I l[m].2]:=by simp[iZ,hx];rfl
  have step:=step m F w hm hJ h;simp only[ea]at step;refine cv (Jw.mono step λu w' hu=>?_);rcases hu with ⟨rfl,F',h,hJ⟩ | ⟨rfl,hd⟩
  ·refine⟨true,rfl,itF rfl (hag (q-1) _ _ (by omega) ⟨m+1,F',?_,by omega,hJ,h⟩)⟩;show Wi _=_;rw[wr (by omega) (by omega)];omega
  ·exact⟨false,rfl,itT rfl (fin2 w' hd)⟩
 ·have e:m=l.length:=by omega
  subst e;exact fin F w hJ h
def Dx{l:List (Int×Int)}{m:Nat}{x:Int×Int}(hx:l[m]? = some x):iZ l m=(x.1,x.2,()):=by simp[iZ,hx]
def SE{l:List (Int×Int)}{id:Int}{m:Nat}{x:Int×Int}(hx:l[m]? = some x):cz (l.take (m+1)) id=(cz (l.take m) id||x.1 == id):=by
 simp[cz,List.take_add_one,hx]
def z0n{l:List (Int×Int)}{id:Int}{m:Nat}{x:Int×Int}(hx:l[m]? = some x)(h:x.1=id):cz l id=true:=by
 simp only[cz,List.any_eq_true];exact⟨x,List.mem_of_getElem? hx,by simpa using h⟩
def z5y(h:St w0 E w)(i:Nat){b:Nat}{room:Int}{l:List (Int×Int)}{s:Seg}(hi:nth E i=some s)(hl:LnS b room l s)(hn:l.length<1000000000){id:Int}{k:Bool→PT}(hk:∀w',St w0 E w'→k (cz l id) w') :
  L.call Pr uS [pO b,I id] (.one (.one .bool)) k w:=by
 obtain⟨v,sr,hr,rfl⟩:=hl;refine za (Pk _ _) ?_;unfold ol;have h:=(h.front i hi).split;refine nw h ?_;clear h;intro b1 w h;refine nw h ?_;clear h;intro b2 w h;refine Lx h λc w h=>?_;have h:=ZL (Yh (Yh h))
 refine Fu (Ln hr hn) h (λm F=>F = [Cl b2 yP [.bool (cz (l.take m) id)]]::[Cl b1 zx [I id]]::Zv E i∧cz (l.take m) id=false)
  (λj G=>∃s0 s1,G=s0::[Cl b Uw [SlV v,I room]]::sr::[Cl b2 yP [.bool true]]::s1::Zv E i∧cz l id=true∧j = .ret) ⟨rfl,rfl⟩ ?_ ?_ ?_
 ·rintro m F w lv lp d R hm ⟨rfl,hf⟩ h hN hE;have hx:l[m]? = some l[m]:=List.getElem?_eq_getElem hm;rw[Dx hx];have ht:=SE (id:=id) hx
  (dsimp only[zd,List.cons_append,List.nil_append]at h;refine ldC h ?_)
  refine it (λhb=>?_) (λhb=>?_)<;>(try simp only[zB]at hb)
  ·(refine stC h ?_;clear h;intro w h;dsimp only[zJ,zd]at h)
   exact hE _ _ w ⟨_,_,rfl,z0n hx hb,rfl⟩ h
  ·refine hN _ w ⟨rfl,?_⟩ ?_
   ·rw[ht,hf];simpa using hb
   ·rw[ht,hf];have:(false||l[m].1 == id)=false:=by simpa using hb
    rw[this,←hf];exact h
 ·rintro d F w ⟨rfl,hf⟩ h;refine vC ?_;rw[List.take_length]at hf h
  (dsimp only[zd,List.cons_append,List.nil_append]at h;refine stC h ?_;clear h;intro w h;dsimp only[zJ,zd]at h)
  (first | refine OF h ?_ | refine OE h ?_ | refine OD h ?_ | refine OC h ?_ | refine OB h ?_ | refine OA h ?_ | refine Oz h ?_ | refine Oy h ?_ | refine Ox h ?_ | refine Ow h ?_ | refine uv h ?_ | refine uu h ?_);clear h;intro w h
  (refine ldC h ?_)
  refine⟨_,rfl,?_⟩;rw[←hf];refine hk w ?_;have h:=zm (VP (ko h));have h:=St.back i hi h.glue
  rwa [yM hi]at h
 ·rintro d j F w ⟨_,_,rfl,hf,rfl⟩ h;refine z1X ?_
  (first | refine OF h ?_ | refine OE h ?_ | refine OD h ?_ | refine OC h ?_ | refine OB h ?_ | refine OA h ?_ | refine Oz h ?_ | refine Oy h ?_ | refine Ox h ?_ | refine Ow h ?_ | refine uv h ?_ | refine uu h ?_);clear h;intro w h
  (refine ldC h ?_)
  refine⟨_,rfl,?_⟩;rw[←hf];refine hk w ?_;have h:=zm (VP (ko h));have h:=St.back i hi h.glue
  rwa [yM hi]at h
def St.setN_same{s:Seg}(i:Nat)(hi:nth E i=some s)(h:St w0 (zd E i s) w):St w0 E w:=by rwa [yM hi]at h
def z3J(h:St w0 E w)(i:Nat){b:Nat}{room:Int}{l:List (Int×Int)}{s:Seg}(hi:nth E i=some s)(hl:LnS b room l s)(hn:l.length<1000000000){id u:Int}{k:Int→PT}
  (hk:∀s' w',LnS b room (vg room l id u).1 s'→St w0 (zd E i s') w'→k (vg room l id u).2 w'):L.call Pr QJ [pO b,I id,I u] (.one (.one (.int .i64))) k w:=by
 refine za (cV _ _ _) ?_;unfold gH
 (refine nn ?_)
 refine z5y h i hi hl hn λw h=>?_;refine it (λhb=>?_) (λhb=>?_)<;>(try simp only[zB]at hb)
 ·have e:vg room l id u=(l,5):=by simp[vg,hb]
  rw[e]at hk;exact⟨_,rfl,hk s w hl (by rwa [yM hi])⟩
 have hl':=hl;obtain⟨v,sr,hr,rfl⟩:=hl
 (refine dr h ?_;clear h;intro w h;refine nn ?_)
 have h:=(h.front i hi).split;refine ldx h 0 rfl rfl rfl ?_;have h:St w0 E w:=by have h:=St.back i hi h.glue;rwa [yM hi]at h
 refine aA h i hi hl' ?_;have h:=(h.front i hi).split
 (refine ckC h ?_)
 refine it (λhc=>?_) (λhc=>?_)<;>(try simp only[zB]at hc)
 ·have e:vg room l id u=(l,8):=by simp only[vg,hb];rw[if_neg (by simp),if_pos hc]
  rw[e]at hk;exact⟨_,rfl,hk _ w hl' (St.back i hi h.glue)⟩
 have e:vg room l id u=(l++[(id,u)],0):=by simp only[vg,hb];rw[if_neg (by simp),if_neg hc]
 rw[e]at hk
 (refine nn ?_;refine ldC h ?_)
 refine nw h ?_;clear h;intro b8 w h;refine Rw.app bn elH h 1 rfl hr (id,u) rfl (by omega) (by omega) λv' s' w hr h=>?_
 (dsimp only[zd,List.cons_append,List.nil_append]at h;refine nn ?_;refine stC h ?_;clear h;intro w h;dsimp only[zJ,zd]at h)
 exact⟨_,rfl,hk _ w ⟨v',s',hr,rfl⟩ (St.back i hi h.glue)⟩
def z5K(h:St w0 E w)(i:Nat){b:Nat}{room:Int}{l:List (Int×Int)}{s:Seg}(hi:nth E i=some s)(hl:LnS b room l s)(hn:l.length<1000000000){k:Int×Bool×Unit→PT}
  (hk:∀s' w',LnS b room (z2O l).1 s'→St w0 (zd E i s') w'→k ((z2O l).2.1,(z2O l).2.2,()) w'):L.call Pr kf [pO b] (.tup [.one (.int .i64),.one .bool]) k w:=by
 obtain⟨v,sr,hr,rfl⟩:=hl;refine za (dK _) ?_;unfold fx;have h:=(h.front i hi).split;refine nw h ?_;clear h;intro b1 w h;refine nw h ?_;clear h;intro b2 w h;refine nw h ?_;clear h;intro b3 w h
 (refine ldC h ?_;refine nn ?_)
 refine Lx h λc w h=>?_;have h:=ZL (Js (Js h));have hlen:=Rw.len bn hr;have hY:=(Ln (w0:=w0) (b:=b) (c:=c) (T:=Uw) (rm:=I room) hr hn)
 cases l with
 | nil=>
  refine Fu hY h (λm F=>F = [Cl b3 yP [.bool false]]::[Cl b2 zx [I 0]]::[Cl b1 Xa [.pointer (some ⟨b,0,none⟩)]]::Zv E i) (λj F=>False) rfl ?_ ?_ ?_
  ·intro m F w lv lp d R hm;simp at hm
  ·rintro d F w rfl h;refine vC ?_
   (dsimp only[zd,List.cons_append,List.nil_append]at h;refine stC h ?_;clear h;intro w h;dsimp only[zJ,zd]at h;refine stC h ?_;clear h;intro w h;dsimp only[zJ,zd]at h)
   (first | refine OF h ?_ | refine OE h ?_ | refine OD h ?_ | refine OC h ?_ | refine OB h ?_ | refine OA h ?_ | refine Oz h ?_ | refine Oy h ?_ | refine Ox h ?_ | refine Ow h ?_ | refine uv h ?_ | refine uu h ?_);clear h;intro w h
   (refine ldC h ?_;refine ldC h ?_)
   refine⟨(0,false,()),rfl,hk _ w ⟨v,sr,hr,rfl⟩ ?_⟩;have h:=zm (VP (ko (Pc h)));exact St.back i hi h.glue
  ·rintro d j F w hf;exact hf.elim
 | cons x l=>
  have hr':=Rw.behind bn hr 1 (by simp);have hc:=hr.cap
  refine Fu hY h (λm F=>m=0∧F = [Cl b3 yP [.bool false]]::[Cl b2 zx [I 0]]::[Cl b1 Xa [.pointer (some ⟨b,0,none⟩)]]::Zv E i)
   (λj G=>j = .ret∧∃s0 s1 v',Rw eH jx 2 v' l sr∧G=s0::[Cl b Uw [SlV v',I room]]::sr::[Cl b3 yP [.bool true]]::[Cl b2 zx [I x.1]]::s1::Zv E i) ⟨rfl,rfl⟩ ?_ ?_ ?_
  ·rintro m F w lv lp d R hm ⟨rfl,rfl⟩ h hN hE;rw[Dx (x:=x) rfl]
   (dsimp only[zd,List.cons_append,List.nil_append]at h;refine dr h ?_;clear h;intro w h;refine ldC h ?_;refine ldC h ?_;refine nn ?_;refine ldC h ?_)
   simp only[List.length_cons]at hlen;refine gd (by(try dsimp only);omega) ?_
   (refine nn ?_;refine stC h ?_;clear h;intro w h;dsimp only[zJ,zd]at h;refine stC h ?_;clear h;intro w h;dsimp only[zJ,zd]at h;refine stC h ?_;clear h;intro w h;dsimp only[zJ,zd]at h)
   simp only[Int.toNat_natCast,show Int.toNat 1=1 from rfl]at h;refine hE _ _ w ?_ h;exact⟨rfl,_,_,_,hr',rfl⟩
  ·rintro d F w ⟨hm,-⟩;simp at hm
  ·rintro d j G w ⟨rfl,_,_,v',hr',rfl⟩ h;refine z1X ?_
   (first | refine OF h ?_ | refine OE h ?_ | refine OD h ?_ | refine OC h ?_ | refine OB h ?_ | refine OA h ?_ | refine Oz h ?_ | refine Oy h ?_ | refine Ox h ?_ | refine Ow h ?_ | refine uv h ?_ | refine uu h ?_);clear h;intro w h
   (refine ldC h ?_;refine ldC h ?_)
   refine⟨(x.1,true,()),rfl,hk _ w ⟨v',sr,hr',rfl⟩ ?_⟩;have h:=zm (VP (ko (Pc h)));exact St.back i hi h.glue
def z2i(h:St w0 E w)(i:Nat){b:Nat}{room:Int}{l:List (Int×Int)}{s:Seg}(hi:nth E i=some s)(hl:LnS b room l s)(hn:l.length<1000000000){k:Sl→PT}
  (hk:∀v s' w',Rw eI zx 1 v (l.map (·.1)) s'→St w0 (s'::E) w'→k v w'):L.call Pr uM [pO b] (.one (.one .slice)) k w:=by
 have hl':=hl;obtain⟨v,sr,hr,rfl⟩:=hl;refine za (dM _) ?_;unfold fB;refine aA h i hi hl' ?_;refine mk0 elI Yy h (by omega) (by omega) (by omega) λv2 s2 w hr2 h=>?_;refine nw h ?_;clear h;intro b3 w h
 (refine stC h ?_;clear h;intro w h;dsimp only[zJ,zd]at h;refine nn ?_)
 refine Lx h λc w h=>?_;have h:=(h.front (i+3) hi).split;have h:=ZL (yO (yO h))
 refine Fu (Ln hr hn) h (λm F=>∃v2 s2,F = [Cl b3 ZS [SlV v2]]::s2::Zv E i∧Rw eI zx 1 v2 ((l.take m).map (·.1)) s2)
  (λj G=>False) ⟨_,_,rfl,hr2⟩ ?_ ?_ ?_
 ·rintro m F w lv lp d R hm ⟨v2,s2,rfl,hr2⟩ h hN hE;have hx:l[m]? = some l[m]:=List.getElem?_eq_getElem hm;rw[Dx hx]
  (dsimp only[zd,List.cons_append,List.nil_append]at h;refine ldC h ?_)
  refine nw h ?_;clear h;intro b12 w h;refine Rw.app Yy elI h 6 rfl hr2 l[m].1 rfl (by simp;omega) (by simp;omega) λv' s' w hr h=>?_
  (dsimp only[zd,List.cons_append,List.nil_append]at h;refine stC h ?_;clear h;intro w h;dsimp only[zJ,zd]at h)
  refine hN _ w ⟨v',s',rfl,?_⟩ h;rw[List.take_add_one,hx,List.map_append];exact hr
 ·rintro d F w ⟨v2,s2,rfl,hr2⟩ h;refine vC ?_
  (dsimp only[zd,List.cons_append,List.nil_append]at h;refine ldC h ?_)
  (first | refine OF h ?_ | refine OE h ?_ | refine OD h ?_ | refine OC h ?_ | refine OB h ?_ | refine OA h ?_ | refine Oz h ?_ | refine Oy h ?_ | refine Ox h ?_ | refine Ow h ?_ | refine uv h ?_ | refine uu h ?_);clear h;intro w h
  rw[List.take_length]at hr2;refine⟨v2,rfl,hk _ s2 w hr2 ?_⟩;have h:=YA (YA (Yh h));have h:=VP (ko h);have h:=St.back (i+1) (E:=s2::E) hi h.glue;have h:=St.setN_same (i+1) (E:=s2::E) hi h;exact h
 ·rintro d j F w hf;exact hf.elim
def ny{l:List (Int×Int)}{now:Int}{m:Nat}{x:Int×Int}(hx:l[m]? = some x):jc (l.take (m+1)) now=jc (l.take m) now++(if x.2≤now then [x.1]else []):=by
 simp only[jc,List.take_add_one,hx,List.filter_append,List.map_append]
 congr 1
 by_cases h:x.2≤now<;>simp[h]
def nv{l:List (Int×Int)}{now:Int}{m:Nat}{x:Int×Int}(hx:l[m]? = some x):gx (l.take (m+1)) now=gx (l.take m) now++(if x.2≤now then []else [x]):=by
 simp only[gx,List.take_add_one,hx,List.filter_append]
 congr 1
 by_cases h:x.2≤now<;>simp[h]
def WC(l:List (Int×Int))(now:Int):(jc l now).length≤l.length:=by
 unfold jc;rw[List.length_map];exact List.length_filter_le ..
def WB(l:List (Int×Int))(now:Int):(gx l now).length≤l.length:=List.length_filter_le ..
def z3L(h:St w0 E w)(i:Nat){b:Nat}{room:Int}{l:List (Int×Int)}{s:Seg}(hi:nth E i=some s)(hl:LnS b room l s)(hn:l.length<1000000000){now:Int}{k:Sl→PT}
  (hk:∀v s' s2 w',LnS b room (gx l now) s'→Rw eI zx 1 v (jc l now) s2→St w0 (s2::zd E i s') w'→k v w'):L.call Pr vV [pO b,I now] (.one (.one .slice)) k w:=by
 obtain⟨v,sr,hr,rfl⟩:=hl;refine za (cX _ _) ?_;unfold gI
 (refine nn ?_)
 refine za (Ms _ _) ?_;unfold kJ;have h:=(h.front i hi).split;refine nw h ?_;clear h;intro b1 w h;refine nw h ?_;clear h;intro b2 w h;refine nw h ?_;clear h;intro b3 w h;refine Lx h λc w h=>?_;have h:=ZL (Js (Js h));have h:St w0 ([Cl c XC [.pointer (some ⟨b,0,none⟩)]]::[Cl b Uw [SlV v,I room]]::sr::[Cl b3 yE [SlV ⟨none,0,0⟩]]::[]::[Cl b2 ZS [SlV ⟨none,0,0⟩]]::[]::[Cl b1 zx [I now]]::Zv E i) w:=h.eq (by simp)
 refine Fu (Ln hr hn) h (λm F=>∃v2 s2 v3 s3,F = [Cl b3 yE [SlV v3]]::s3::[Cl b2 ZS [SlV v2]]::s2::[Cl b1 zx [I now]]::Zv E i∧Rw eI zx 1 v2 (jc (l.take m) now) s2∧Rw eH jx 2 v3 (gx (l.take m) now) s3)
  (λj G=>False) ⟨_,_,_,_,rfl,Rw.nil,Rw.nil⟩ ?_ ?_ ?_
 ·rintro m F w lv lp d R hm ⟨v2,s2,v3,s3,rfl,hr2,hr3⟩ h hN hE;have hx:l[m]? = some l[m]:=List.getElem?_eq_getElem hm;have n2:=WC (l.take m) now;have n3:=WB (l.take m) now;simp only[List.length_take]at n2 n3;rw[Dx hx]
  (dsimp only[zd,List.cons_append,List.nil_append]at h;refine ldC h ?_)
  refine it (λhb=>?_) (λhb=>?_)<;>(try simp only[zB]at hb)
  ·(refine ldC h ?_)
   refine nw h ?_;clear h;intro b12 w h;refine Rw.app Yy elI h 8 rfl hr2 l[m].1 rfl (by omega) (by omega) λv' s' w hr' h=>?_
   (dsimp only[zd,List.cons_append,List.nil_append]at h;refine stC h ?_;clear h;intro w h;dsimp only[zJ,zd]at h)
   refine hN _ w ⟨v',s',v3,s3,rfl,?_,?_⟩ h
   ·rw[ny hx,if_pos hb];exact hr'
   ·rw[nv hx,if_pos hb,List.append_nil];exact hr3
  ·(refine ldC h ?_)
   refine nw h ?_;clear h;intro b15 w h;refine Rw.app bn elH h 6 rfl hr3 l[m] rfl (by omega) (by omega) λv' s' w hr' h=>?_
   (dsimp only[zd,List.cons_append,List.nil_append]at h;refine stC h ?_;clear h;intro w h;dsimp only[zJ,zd]at h)
   refine hN _ w ⟨v2,s2,v',s',rfl,?_,?_⟩ h
   ·rw[ny hx,if_neg hb,List.append_nil];exact hr2
   ·rw[nv hx,if_neg hb];exact hr'
 ·rintro d F w ⟨v2,s2,v3,s3,rfl,hr2,hr3⟩ h;refine vC ?_;rw[List.take_length]at hr2 hr3;have n2:=WC l now
  (dsimp only[zd,List.cons_append,List.nil_append]at h;refine ldC h ?_;refine nn ?_;refine stC h ?_;clear h;intro w h;dsimp only[zJ,zd]at h;refine ldC h ?_)
  refine gG h (hr2.rd Yy h 7 rfl) (by omega) (Rw.nil_of Yy hr2) λv' s' w hr' _ h=>?_
  (first | refine OF h ?_ | refine OE h ?_ | refine OD h ?_ | refine OC h ?_ | refine OB h ?_ | refine OA h ?_ | refine Oz h ?_ | refine Oy h ?_ | refine Ox h ?_ | refine Ow h ?_ | refine uv h ?_ | refine uu h ?_);clear h;intro w h
  refine⟨v',rfl,v',rfl,hk v' _ s' w ⟨v3,s3,hr3,rfl⟩ hr' ?_⟩;have h:=YA (Js h);have h:=VP (ko (Pc (nX (z5n (z35 h)))));exact St.back (i+1) (E:=s'::E) hi h.glue
 ·rintro d j F w hf;exact hf.elim
def Fl(x:B0×Int):Value:=.agg #[.string x.1,I x.2]
abbrev yr:=HT [.int .i64,.int .i64,.int .i64,.str]
abbrev CU:E1:=.agg [.int .i64,.int .i64,.int .i64,.str]
abbrev yr.cells(f:yr):List Value:=[I f.1,I f.2.1,I f.2.2.1,.string f.2.2.2.1]
def GJ:Enc yr.cells 4:=⟨λ_=>rfl,λ_=>rfl,by decide⟩
def elF:El Pr zI zD 4 40 (.agg #[I 0,I 0,I 0,.string s_]):=gB (by kernel_rfl) (by kernel_rfl) rfl (by decide)
structure Ze where
 all:List (Int×(B0×Int))
 lines:List (B0×List (Int×Int))
 room:Int
 pat:Int
structure Ze.Ok(G:Ze):Prop where
 few:G.all.length<100000000
 lo:0≤G.room
 hi:G.room≤1000000
 ln:∀x∈G.lines,(x.2.length:Int)≤G.room
 nd:(G.lines.map (·.1)).Nodup
 nda:(G.all.map (·.1)).Nodup
 fl:G.lines.length<100000000
structure LnE where
 k:B0
 b:Nat
 l:List (Int×Int)
 sg:Seg
abbrev LnE.kp(x:LnE):B0×Option Addr:=(x.k,some ⟨x.b,0,none⟩)
abbrev LnE.ka(x:LnE):B0×List (Int×Int):=(x.k,x.l)
abbrev gtB(b bf rA rL c:Nat)(room pat:Int):Seg:=[Cl b da [.pointer (some ⟨bf,0,none⟩),.map (some rA),.map (some rL),.func (.func Ki) #[] #[.pointer (some ⟨c,0,none⟩)],I room,I pat]]
structure GtR(G:Ze)(rA rL:Nat)(sA sL:Seg)(Q:List LnE):Prop where
 all:MpS KI Fl rA G.all sA
 lns:MpS Value.string Value.pointer rL (Q.map LnE.kp) sL
 each:∀x∈Q,LnS x.b G.room x.l x.sg
 abs:G.lines=Q.map LnE.ka
def GtS(b bf:Nat)(G:Ze)(s:Seg):Prop:=G.Ok∧∃rA rL c sA sL,∃Q:List LnE,GtR G rA rL sA sL Q∧
 s=gtB b bf rA rL c G.room G.pat++([Cl c zx [I G.room]]++(sA++(sL++(Q.map LnE.sg).flatten)))
def mR:Pr.underlying yn=some (.map zx Zw):=by kernel_rfl
def Gm:Pr.underlying ZB=some (.map zc Xa):=by kernel_rfl
def rk:Pr.underlying zc=some .string:=by kernel_rfl
def Sz:MK Pr zc Value.string:=BN rk
def z3T(w:World):(zeroValue Zw).run Pr w = .ok ((E1.agg [.str,.int .i64]).val (s_,0,())) w:=by
 have h:(Pr.info? Zw).map (·.zero)=some (some (.agg #[.string s_,I 0])):=by kernel_rfl
 cases hi:Pr.info? Zw with
 | none=>rw[hi]at h;cases h
 | some i=>rw[hi]at h;simp only[Option.map_some,Option.some.injEq]at h;exact zv hi h w
def zln(w:World):(zeroValue Xa).run Pr w = .ok ((E1.one .ptr).val none) w:=by
 have h:(Pr.info? Xa).map (·.zero)=some (some (.pointer none)):=by kernel_rfl
 cases hi:Pr.info? Xa with
 | none=>rw[hi]at h;cases h
 | some i=>rw[hi]at h;simp only[Option.map_some,Option.some.injEq]at h;exact zv hi h w
def z3x(h:St w0 E w){bf:Nat}{room pat:Int}(h0:0≤room)(h1:room≤1000000){k:Option Addr→PT}(hk:∀b s w',GtS b bf ⟨[],[],room,pat⟩ s→St w0 (s::E) w'→k (some ⟨b,0,none⟩) w') :
  L.call Pr pQ [pO bf,I room,I pat] (.one (.one .ptr)) k w:=by
 refine za (Ab _ _ _) ?_;unfold Nr;refine nw h ?_;clear h;intro c w h;refine MpS.new h KI Fl λrA sA w hA h=>?_;refine MpS.new h Value.string Value.pointer λrL sL w hL h=>?_
 (refine ldC h ?_)
 refine nw h ?_;clear h;intro b w h;refine⟨_,rfl,hk b _ w ⟨⟨by simp,h0,h1,by simp,by simp,by simp,by simp⟩,rA,rL,c,sA,sL,[],⟨hA,hL,by simp,rfl⟩,rfl⟩ ?_⟩;have h:=YA (YA (ZL (yO h)));exact h.eq (by simp)
def z2Q(f:yr)(id:Int):yr:=(id,f.2.1,f.2.2.1,f.2.2.2.1,())
def cQ{b bf rA rL c:Nat}{room pat:Int}{sA:Seg}{all:List (Int×(B0×Int))}(hA:MpS KI Fl rA all sA)(h:St w0 (gtB b bf rA rL c room pat::sA::E) w){id:Int}{rev:B0}{f:yr}{k:CU.T→PT}
  (hk:∀sA' w',MpS KI Fl rA (zX all id (rev,f.2.1)) sA'→St w0 (gtB b bf rA rL c room pat::sA'::E) w'→k (z2Q f id) w') :
  L.call Pr yw [pO b,I id,.string rev,.agg (yr.cells f).toArray] (.one CU) k w:=by
 refine za (dQ _ _ _ f) ?_;unfold fF;refine nw h ?_;clear h;intro b1 w h;refine nw h ?_;clear h;intro b2 w h
 (refine stC h ?_;clear h;intro w h;dsimp only[zJ,zd]at h;refine dr h ?_;clear h;intro w h;refine nn ?_;refine ldC h ?_;refine ldC h ?_)
 refine MpS.set mkI mR h 3 rfl hA (rev,f.2.1) rfl λsA' w hA' h=>?_;have h:St w0 ([Cl b2 zD [I 0,I 0,I 0,.string s_]]::[Cl b1 zD [I id,I f.2.1,I f.2.2.1,.string f.2.2.2.1]]::gtB b bf rA rL c room pat::sA'::E) w:=h
 (refine laC h ?_;refine stC h ?_;clear h;intro w h;dsimp only[zJ,zd]at h;refine laC h ?_)
 exact⟨z2Q f id,rfl,hk sA' w hA' (zm (zm h))⟩
def Ng(h:St w0 E w){s:B0}{k:CU.T→PT}(hk:∀w',St w0 E w'→k (0,4,0,s,()) w'):L.call Pr Qh [.string s] (.one CU) k w:=by
 refine za (Aa _) ?_;unfold Nq;refine nw h ?_;clear h;intro b1 w h
 (refine stC h ?_;clear h;intro w h;dsimp only[zJ,zd]at h;refine laC h ?_)
 exact⟨_,rfl,hk w (zm h)⟩
def ij(all:List (Int×(B0×Int)))(id:Int):Bool:=(zr all id).isSome
def z1z{b bf rA rL c:Nat}{room pat:Int}{sA:Seg}{all:List (Int×(B0×Int))}(hA:MpS KI Fl rA all sA)(h:St w0 (gtB b bf rA rL c room pat::sA::E) w){id:Int}{k:Bool→PT}
  (hk:∀w',St w0 (gtB b bf rA rL c room pat::sA::E) w'→k (ij all id) w') :
  L.call Pr vY [pO b,I id] (.one (.one .bool)) k w:=by
 refine za (Cf _ _) ?_;unfold gQ
 (refine nn ?_;refine ldC h ?_)
 refine MpS.get2 mkI mR z3T (λx:B0×Int=>(x.1,x.2,())) (λ_=>rfl) h 1 rfl hA ?_;refine nw h ?_;clear h;intro b4 w h
 (refine stC h ?_;clear h;intro w h;dsimp only[zJ,zd]at h)
 exact⟨_,rfl,hk w (zm h)⟩
def gA(F:ze)(all:List (Int×(B0×Int)))(id:Int)(rev:B0):ze×List (Int×(B0×Int))×yr×Bool:=
 if(ZM F rev id).2.2=true then((ZM F rev id).1,zX all id (rev,1),(id,1,(ZM F rev id).2.1,s_,()),true)else((ZM F rev id).1,all,(0,0,0,s_,()),false)
def sq{b bf rA rL c:Nat}{room pat:Int}{sA sf:Seg}{all:List (Int×(B0×Int))}{F:ze}(hA:MpS KI Fl rA all sA)(hf:FlS bf F sf)(h20:F.l.length≤30)(hfew:∀x∈F.l,x.pod.reqs.length<10000000)(h:St w0 (gtB b bf rA rL c room pat::sA::sf::E) w){id:Int}{rev:B0}{k:CU.T×Bool×Unit→PT}
  (hk:∀sA' sf' w',MpS KI Fl rA (gA F all id rev).2.1 sA'→FlS bf (gA F all id rev).1 sf'→St w0 (gtB b bf rA rL c room pat::sA'::sf'::E) w'→k ((gA F all id rev).2.2.1,(gA F all id rev).2.2.2,()) w') :
  L.call Pr QL [pO b,I id,.string rev] (.tup [CU,.one .bool]) k w:=by
 refine za (Cd _ _ _) ?_;unfold gO;unfold gA at hk;refine nw h ?_;clear h;intro b1 w h
 (refine nn ?_;refine ldC h ?_)
 have hrl:(revs F.l rev).length≤30:=Nat.le_trans (List.length_filter_le ..) h20;refine z1E h 3 rfl hf hrl hfew λsf' w hf' h=>?_;have h:St w0 ([Cl b1 zD [I 0,I 0,I 0,.string s_]]::gtB b bf rA rL c room pat::sA::sf'::E) w:=h;refine it (λhc=>?_) (λhc=>?_)<;>(try simp only[zB]at hc)
 ·rw[if_neg (by simp[hc])]at hk
  (refine stC h ?_;clear h;intro w h;dsimp only[zJ,zd]at h;refine laC h ?_)
  exact⟨(_,false,()),rfl,hk sA sf' w hA hf' (zm h)⟩
 ·rw[if_pos hc]at hk;have h:=ZL (ZL h);refine cQ (f:=(0,1,(ZM F rev id).2.1,s_,())) hA h λsA' w hA' h=>?_
  (refine stC h ?_;clear h;intro w h;dsimp only[zJ,zd]at h;refine laC h ?_)
  refine⟨((id,1,(ZM F rev id).2.1,s_,()),true,()),rfl,hk sA' sf' w hA' hf' ?_⟩;have h:=VQ h;exact h
def Ql{G:Ze}{b bf rA rL c:Nat}{sA sL:Seg}{Q:List LnE}(ok:G.Ok)(hr:GtR G rA rL sA sL Q)(h:St w0 (gtB b bf rA rL c G.room G.pat::[Cl c zx [I G.room]]::sA::sL::(Q.map LnE.sg).flatten::E) w) :
  ∃s,GtS b bf G s∧St w0 (s::E) w:=⟨_,⟨ok,rA,rL,c,sA,sL,Q,hr,rfl⟩,h.glue5⟩
def zu(ls:List (B0×List (Int×Int)))(rev:B0):List (Int×Int):=(zr ls rev).getD []
def tJ{Q:List LnE}{rev:B0}:zr (Q.map LnE.kp) rev=(Us LnE.k Q rev).map λx=>some ⟨x.b,0,none⟩:=QS (key:=LnE.k) (λx:LnE=>(some ⟨x.b,0,none⟩:Option Addr)) rev Q
def tK{Q:List LnE}{rev:B0}:zr (Q.map LnE.ka) rev=(Us LnE.k Q rev).map LnE.l:=QS (key:=LnE.k) LnE.l rev Q
def z2f{b bf rA rL c:Nat}{room pat:Int}{sL:Seg}{Q:List LnE}(hL:MpS Value.string Value.pointer rL (Q.map LnE.kp) sL)(hQ:∀x∈Q,LnS x.b room x.l x.sg)
  (h:St w0 (gtB b bf rA rL c room pat::[Cl c zx [I room]]::sL::(Q.map LnE.sg).flatten::E) w) {rev:B0} {a:Addr} (ha:a=⟨b,2,none⟩) {k:Option Addr→PT}
  (hk:∀sL' A x B w',(∀y∈A++x::B,LnS y.b room y.l y.sg)→MpS Value.string Value.pointer rL ((A++x::B).map LnE.kp) sL'→x.k=rev→x.l=zu (Q.map LnE.ka) rev→(A++x::B).map LnE.ka=zX (Q.map LnE.ka) rev (zu (Q.map LnE.ka) rev)→
   St w0 (gtB b bf rA rL c room pat::[Cl c zx [I room]]::sL'::((A++x::B).map LnE.sg).flatten::E) w'→k (some ⟨x.b,0,none⟩) w') :
  L.call Pr jY [.pointer (some a),.string rev] (.one (.one .ptr)) k w:=by
 subst ha;refine za (OX _ _) ?_;unfold uC;refine jd ?_
 (refine nn ?_;refine ldC h ?_)
 refine MpS.get2 Sz Gm zln (λx:Option Addr=>x) (λ_=>rfl) h 2 rfl hL ?_
 (try dsimp only)
 cases hf:Us LnE.k Q rev with
 | some x=>
  have e1:=tJ (Q:=Q) (rev:=rev);have e2:=tK (Q:=Q) (rev:=rev);rw[hf]at e1 e2;simp only[Option.map_some]at e1 e2;rw[e1];refine itF rfl ?_
  (refine nn ?_;refine ldC h ?_)
  refine MpS.get Sz Gm zln (λx:Option Addr=>x) (λ_=>rfl) h 2 rfl hL ?_;rw[e1];obtain⟨A,B,e,hx⟩:=KX hf;subst e;refine⟨_,rfl,hk sL A x B w hQ hL hx ?_ ?_ h⟩
  ·unfold zu;rw[e2];rfl
  ·unfold zu;rw[e2];exact(cj e2).symm
 | none=>
  have e1:=tJ (Q:=Q) (rev:=rev);have e2:=tK (Q:=Q) (rev:=rev);rw[hf]at e1 e2;simp only[Option.map_none]at e1 e2;rw[e1];refine itT rfl ?_
  (refine dr h ?_;clear h;intro w h;refine nn ?_;refine ldC h ?_;refine nn ?_;refine ldC h ?_)
  refine jK (fs:=#[]) (cs:=#[.pointer (some ⟨c,0,none⟩)]) LD (LR ⟨c,0,none⟩) ?_;unfold Tu
  (refine ldC h ?_)
  refine z3j h λb2 s2 w hl h=>⟨_,rfl,?_⟩;have h:=Yh (Yh (Yh (Yh h)))
  (refine ckC h ?_)
  refine MpS.set Sz Gm h 2 rfl hL (some ⟨b2,0,none⟩) rfl λsL' w hL' h=>?_;rw[Xy e1]at hL';have h:St w0 (gtB b bf rA rL c room pat::[Cl c zx [I room]]::sL'::(Q.map LnE.sg).flatten::s2::E) w:=h;have ekp:Q.map LnE.kp++[(rev,some (⟨b2,0,none⟩:Addr))]=(Q++[(⟨rev,b2,[],s2⟩:LnE)]).map LnE.kp:=by simp
  rw[ekp]at hL'
  (refine nn ?_;refine ldC h ?_)
  refine MpS.get Sz Gm zln (λx:Option Addr=>x) (λ_=>rfl) h 2 rfl hL' ?_;have e3:zr ((Q++[(⟨rev,b2,[],s2⟩:LnE)]).map LnE.kp) rev=some (some ⟨b2,0,none⟩):=by
   rw[←ekp,←Xy e1,ya,if_pos rfl]
  rw[e3];refine⟨_,rfl,hk sL' Q ⟨rev,b2,[],s2⟩ [] w ?_ hL' rfl ?_ ?_ ?_⟩
  ·intro y hy;rcases List.mem_append.1 hy with hy | hy
   ·exact hQ y hy
   ·simp at hy;subst hy;exact hl
  ·unfold zu;rw[e2];rfl
  ·unfold zu;rw[e2,Xy e2];simp
  ·exact h.eq (by simp)
def bm{F:ze}{rev:B0}{q:Int}(h:(ZM F rev q).2.2=false):(ZM F rev q).1=F:=by
 unfold ZM at *
 split
 ·rfl
 ·rename_i hw;rw[if_neg hw]at h;split at h
  ·rename_i hp;simp[hp]
  ·cases h
def HK{room:Int}{l:List (Int×Int)}{id u:Int}(h:(vg room l id u).2≠0):(vg room l id u).1=l:=by
 unfold vg at *;split
 ·rfl
 ·split
  ·rfl
  ·rename_i h1 h2;rw[if_neg h1,if_neg h2]at h;simp at h
def SD{room:Int}{l:List (Int×Int)}{id u:Int}(h:(l.length:Int)≤room):((vg room l id u).1.length:Int)≤room:=by
 unfold vg;split
 ·exact h
 ·split
  ·exact h
  ·simp only[List.length_append,List.length_cons,List.length_nil];omega
def Jn{G:Ze}(ok:G.Ok)(rev:B0):((zu G.lines rev).length:Int)≤G.room:=by
 unfold zu
 cases h:zr G.lines rev with
 | none=>simp;exact ok.lo
 | some l=>exact ok.ln _ (yK h)
def Ze.Ok.line{G:Ze}(ok:G.Ok)(hl:G.lines.length<90000000)(rev:B0){l:List (Int×Int)}(h:(l.length:Int)≤G.room):({ G with lines:=zX G.lines rev l }:Ze).Ok:=by
 refine⟨ok.few,ok.lo,ok.hi,λx hx=>?_,QQ ok.nd,ok.nda,?_⟩
 ·rcases Zp hx with rfl | hx
  ·exact h
  ·exact ok.ln x hx
 ·have:=xg G.lines rev l;simp only;omega
def Ze.Ok.req{G:Ze}(ok:G.Ok)(hn:G.all.length<90000000)(id:Int)(x:B0×Int):({ G with all:=zX G.all id x }:Ze).Ok:=by
 refine⟨?_,ok.lo,ok.hi,ok.ln,ok.nd,QQ ok.nda,ok.fl⟩;have:=xg G.all id x;simp only;omega
def Ze.Ok.reqIn{G:Ze}(ok:G.Ok){id:Int}(h:(zr G.all id).isSome=true)(x:B0×Int):({ G with all:=zX G.all id x }:Ze).Ok:=by
 refine⟨?_,ok.lo,ok.hi,ok.ln,ok.nd,QQ ok.nda,ok.fl⟩
 cases hg:zr G.all id with
 | none=>rw[hg]at h;cases h
 | some v=>simp only;rw[tG hg];exact ok.few
def ki(F:ze)(G:Ze)(id:Int)(rev:B0)(now:Int):ze×Ze×yr:=
 if ij G.all id=true then(F,G,(id,4,0,th,()))
 else if rev=s_ then(F,{ G with all:=zX G.all id (s_,4) },(id,4,0,Gu,()))
 else if(zu G.lines rev).length=0∧(ZM F rev id).2.2=true then
  ((ZM F rev id).1,{ G with all:=zX G.all id (rev,1),lines:=zX G.lines rev (zu G.lines rev) },(id,1,(ZM F rev id).2.1,s_,()))
 else if(vg G.room (zu G.lines rev) id (now+G.pat)).2≠0 then
  (F,{ G with all:=zX G.all id (rev,4),lines:=zX G.lines rev (zu G.lines rev) },(id,4,0,KM,()))
 else(F,{ G with all:=zX G.all id (rev,2),lines:=zX G.lines rev (vg G.room (zu G.lines rev) id (now+G.pat)).1 },(id,2,0,s_,()))
abbrev xG:Int:=30
structure Jq(F:ze):Prop where
 r:F.room≤xG
 l:(F.l.length:Int)≤max F.room 0
 q:∀x∈F.l,x.pod.reqs.length≤1000∧x.pod.conc≤1000
def Jq.l20{F:ze}(h:Jq F):F.l.length≤30:=by have:=h.r;have:=h.l;unfold xG at *;omega
def Jq.q7{F:ze}(h:Jq F):∀x∈F.l,x.pod.reqs.length<10000000:=λx hx=>by have:=(h.q x hx).1;omega
def nS{l:List Zg}{id:Int}{g:YZ→YZ}{y:Zg}(h:y∈YJ l id g):y∈l∨∃x∈l,x.id=id∧y = { x with pod:=g x.pod }:=by
 unfold YJ at h;obtain⟨x,hx,hy⟩:=List.mem_filterMap.1 h;split at hy
 ·rename_i e;split at hy
  ·cases hy
  ·cases hy;exact .inr ⟨x,hx,e,rfl⟩
 ·cases hy;exact .inl hx
def FL(l:List Zg)(id:Int)(g:YZ→YZ):(YJ l id g).length≤l.length:=List.length_filterMap_le ..
def Jq.upd{F:ze}(h:Jq F)(id:Int)(g:YZ→YZ)(hg:∀x∈F.l,x.id=id→(g x.pod).reqs.length≤1000∧(g x.pod).conc≤1000):Jq { F with l:=YJ F.l id g }:=by
 refine⟨h.r,?_,λy hy=>?_⟩
 ·have:=h.l;have:=FL F.l id g;simp only;omega
 ·rcases nS hy with hy | ⟨x,hx,hid,rfl⟩
  ·exact h.q y hy
  ·exact hg x hx hid
def Rc{p:YZ}{q:Int}(h:p.reqs.length≤1000∧p.conc≤1000):(yj p q).1.reqs.length≤1000∧(yj p q).1.conc≤1000:=by
 unfold yj;split
 ·exact h
 ·split
  ·exact h
  ·split
   ·exact h
   ·rename_i h3;have:=(Ve q p.reqs).length_eq;simp only[List.length_cons]at this;refine⟨?_,h.2⟩;simp only;omega
def Jq.take{F:ze}(h:Jq F)(rev:B0)(q:Int):Jq (ZM F rev q).1:=by
 unfold ZM;split
 ·exact h
 ·split
  ·exact h
  ·exact h.upd _ _ λx hx _=>Rc (h.q x hx)
def Rg{p:YZ}{q:Int}(h:p.reqs.length≤1000∧p.conc≤1000):(yg p q).1.reqs.length≤1000∧(yg p q).1.conc≤1000:=by
 unfold yg;split
 ·have:=(List.erase_sublist (a:=q) (l:=p.reqs)).length_le;exact⟨by simp only;omega,h.2⟩
 ·exact h
def Jq.give{F:ze}(h:Jq F)(q:Int):Jq (ZU F q).1:=by
 unfold ZU;split
 ·exact h
 ·exact h.upd _ _ λx hx _=>Rg (h.q x hx)
def Jq.kill{F:ze}(h:Jq F)(id:Int):Jq (Jt F id).1:=by
 unfold Jt;split
 ·exact h
 ·refine h.upd _ _ λx hx _=>?_;unfold yk;split
  ·exact h.q x hx
  ·exact⟨by simp,(h.q x hx).2⟩
def Jq.up{F:ze}(h:Jq F)(id:Int):Jq { F with l:=YJ F.l id λp=>(Yl p).1 }:=by
 refine h.upd _ _ λx hx _=>?_;unfold Yl;split<;>exact h.q x hx
def Jq.drain{F:ze}(h:Jq F)(rev:B0):Jq (qD rev F):=by
 refine h.upd _ _ λx hx _=>?_;unfold yy;split<;>exact h.q x hx
def Jq.shrink(rev:B0):∀(n:Nat){F:ze},Jq F→Jq (YtimahgbgejngiaaGreatDoor.shrink rev n F).1
 | 0,_,h=>h
 | n+1,F,h=>Jq.shrink rev n (h.drain rev)
def Jq.grow1{F:ze}(h:Jq F)(rev:B0){conc:Int}(hc:conc≤1000)(hl:(F.l.length:Int)+1≤max F.room 0):Jq (YtimahgbgejngiaaGreatDoor.grow1 rev conc F):=by
 refine⟨h.r,?_,λx hx=>?_⟩
 ·simp only[YtimahgbgejngiaaGreatDoor.grow1,List.length_append,List.length_cons,List.length_nil];omega
 ·rcases List.mem_append.1 hx with hx | hx
  ·exact h.q x hx
  ·simp at hx;subst hx;exact⟨by simp,hc⟩
def Jq.grow(rev:B0){conc:Int}(hc:conc≤1000):∀(n:Nat){F:ze},Jq F→(F.l.length:Int)+n≤max F.room 0→Jq (YtimahgbgejngiaaGreatDoor.grow rev conc n F)
 | 0,_,h,_=>h
 | n+1,F,h,hl=>by
  have h1:=Jq.grow rev hc n h (by omega);refine h1.grow1 rev hc ?_;rw[VM,gy];omega
def Jq.scale{F:ze}(h:Jq F)(rev:B0){conc:Int}(hc:conc≤1000)(want:Int):Jq (Ys F rev conc want).1:=by
 refine Jq.shrink rev _ (Jq.grow rev hc _ h ?_);have:=h.l;unfold qM;omega
def WS{f:yr}{b:Nat}:Rw yr.cells zD 4 ⟨some ⟨b,0,none⟩,1,1⟩ [f] [Cl b zD (yr.cells f)]:=Rw.lit b [f] GJ (by simp[fl]) rfl (by simp[maxLen])
def cw{A B:List LnE}{x:LnE}{s':Seg}{l':List (Int×Int)}{ls:List (B0×List (Int×Int))}{rev:B0}{l:List (Int×Int)}(e:(A++x::B).map LnE.ka=zX ls rev l)(hx:x.k=rev)(hnd:((A++x::B).map LnE.ka).map (·.1) |>.Nodup) :
  (A++(⟨x.k,x.b,l',s'⟩:LnE)::B).map LnE.ka=zX ls rev l':=by
 have h1:zr ((A++x::B).map LnE.ka) rev=some x.l:=VL hnd (by rw[←hx];exact List.mem_map_of_mem (f:=LnE.ka) (by simp));have h2:zX ((A++x::B).map LnE.ka) rev l'=(A++(⟨x.k,x.b,l',s'⟩:LnE)::B).map LnE.ka:=by
  clear e h1
  induction A with
  | nil=>simp[zX,hx]
  | cons y A ih=>
   have hne:y.k≠rev:=by
    intro e;have:=hnd;simp only[List.cons_append,List.map_cons,List.nodup_cons]at this;refine this.1 ?_;rw[e,←hx];simp
   simp only[List.cons_append,List.map_cons,zX];rw[if_neg hne]
   congr 1
   refine ih ?_;have:=hnd;simp only[List.cons_append,List.map_cons,List.nodup_cons]at this;exact this.2
 rw[←h2,e,cm]
def z3y{sg sf:Seg}(h:St w0 (sg::sf::E) w){b bf:Nat}{G:Ze}{F:ze}(hg:GtS b bf G sg)(hf:FlS bf F sf)(hfew:Jq F)(hn:G.all.length<90000000)(hl:G.lines.length<90000000){id:Int}{rev:B0}{now:Int}(hnow: -1000000000000<now+G.pat∧now+G.pat<1000000000000){k:Sl→PT}
  (hk:∀v sv sg' sf' w',Rw yr.cells zD 4 v [(ki F G id rev now).2.2] sv→GtS b bf (ki F G id rev now).2.1 sg'→FlS bf (ki F G id rev now).1 sf'→St w0 (sv::sg'::sf'::E) w'→k v w') :
  L.call Pr uZ [pO b,I id,.string rev,I now] (.one (.one .slice)) k w:=by
 obtain⟨ok,rA,rL,c,sA,sL,Q,hr,rfl⟩:=hg;refine za (Py _ _ _ _) ?_;unfold oD;unfold ki at hk;have h:=h.split5;have h:=yO (ZL h);refine z1z hr.all h λw h=>?_;refine it (λhs=>?_) (λhs=>?_)<;>(try simp only[zB]at hs)
 ·rw[if_pos hs]at hk;refine Ng h λw h=>?_;refine nw h ?_;clear h;intro b3 w h
  (refine stC h ?_;clear h;intro w h;dsimp only[zJ,zd]at h;refine stC h ?_;clear h;intro w h;dsimp only[zJ,zd]at h;refine laC h ?_)
  refine nw h ?_;clear h;intro b5 w h;have h:=Yf h;have h:=jB (jB (Js (jB (jB (jB h)))));obtain⟨sg,hg,h⟩:=Ql ok hr h;have h:=ZL (yO (yO h));exact⟨_,rfl,hk _ _ sg sf w WS hg hf h⟩
 ·rw[if_neg (by simp[hs])]at hk;rw[JW];refine it (λhe=>?_) (λhe=>?_)<;>(try simp only[zB]at he)
  ·rw[if_pos he]at hk;refine Ng h λw h=>?_;refine cQ (f:=(0,4,0,Gu,())) hr.all h λsA' w hA' h=>?_;refine nw h ?_;clear h;intro b8 w h;have h:=jB (jB (Js (jB (jB (jB h)))));obtain⟨sg,hg,h⟩:=Ql (ok.req hn id (s_,4)) (Q:=Q) ⟨hA',hr.lns,hr.each,hr.abs⟩ h;have h:=ZL (yO (yO h));exact⟨_,rfl,hk _ _ sg sf w WS hg hf h⟩
  ·rw[if_neg he]at hk;have h:=YA (Yh (Yh (Yh h)))
   (refine nn ?_)
   refine z2f (rev:=rev) hr.lns hr.each h rfl λsL' A x B w hQ' hL' hxk hxl hab h=>?_;rw[←hr.abs]at hxl hab;have hlen:=Jn ok rev;have hnd:(((A++x::B).map LnE.ka).map (·.1)).Nodup:=by rw[hab];exact QQ ok.nd
   have hx:LnS x.b G.room x.l x.sg:=hQ' x (by simp);have ok1:=ok.line hl rev hlen;have hhi:=ok.hi;have hll:x.l.length<1000000000:=by rw[hxl];omega
   have h:=YA (ZL (ZL (ZL h)));have h:=h.pick
   have close:∀{G':Ze}{sA' sx':Seg}{l':List (Int×Int)}{w},G'.Ok→G'.room=G.room→G'.pat=G.pat→MpS KI Fl rA G'.all sA'→LnS x.b G.room l' sx'→G'.lines=zX G.lines rev l'→
     ∀{E},St w0 (gtB b bf rA rL c G.room G.pat::sA'::sx'::((A++B).map LnE.sg).flatten::[Cl c zx [I G.room]]::sL'::E) w→∃s,GtS b bf G' s∧St w0 (s::E) w:=by
    intro G' sA' sx' l' w ok' e1 e2 hA' hl' e3 E h;have h:=Js (Js (YA (Js (ZL (Js h)))));have h:St w0 (LnE.sg ⟨x.k,x.b,l',sx'⟩::((A++B).map LnE.sg).flatten::gtB b bf rA rL c G.room G.pat::[Cl c zx [I G.room]]::sA'::sL'::E) w:=h;have h:=h.place;have h:=Yh (Yh (Yh (Yh h)));rw[←e1,←e2]at h;refine Ql ok' ⟨hA',?_,?_,?_⟩ h
    ·simpa using hL'
    ·intro y hy;rw[e1];rcases List.mem_append.1 hy with hy | hy
     ·exact hQ' y (by simp[hy])
     ·rcases List.mem_cons.1 hy with rfl | hy
      ·exact hl'
      ·exact hQ' y (by simp[hy])
    ·rw[e3];exact(cw hab hxk hnd).symm
   have push:∀{w}{k11:Unit→PT},¬((zu G.lines rev).length=0∧(ZM F rev id).2.2=true)→∀{sA sf},MpS KI Fl rA G.all sA→FlS bf F sf→
     St w0 (gtB b bf rA rL c G.room G.pat::sA::x.sg::((A++B).map LnE.sg).flatten::[Cl c zx [I G.room]]::sL'::sf::E) w→
     (L.nonnil (some ⟨b,0,none⟩) λa18=>L.load (.one (.int .i64)) (a18.add 5) λ(x19:Int)=>
      L.call Pr QJ [.pointer (some ⟨x.b,0,none⟩),.int .i64 id,.int .i64 (Wi (now+x19))] (.one (.one (.int .i64))) λ(x20:Int)=>
      L.ite (x20 != 0) (
       L.call Pr Qh [.string KM] (.one (.agg [.int .i64,.int .i64,.int .i64,.str])) λ(x21:Int×Int×Int×B0×Unit)=>
       L.call Pr yw [pO b,.int .i64 id,.string rev,.agg #[.int .i64 x21.1,.int .i64 x21.2.1,.int .i64 x21.2.2.1,.string x21.2.2.2.1]] (.one (.agg [.int .i64,.int .i64,.int .i64,.str])) λ(x22:Int×Int×Int×B0×Unit)=>
       L.new [.int .i64 x22.1,.int .i64 x22.2.1,.int .i64 x22.2.2.1,.string x22.2.2.2.1] zD λb23=>
       λw'=>∃y,Value.slice (some ⟨b23,0,none⟩) 1 1=RT.val (.one (.one .slice)) y∧k y w')<|
      L.call Pr yw [pO b,.int .i64 id,.string rev,.agg #[.int .i64 0,.int .i64 2,.int .i64 0,.string s_]] (.one (.agg [.int .i64,.int .i64,.int .i64,.str])) λ(x24:Int×Int×Int×B0×Unit)=>
      L.new [.int .i64 x24.1,.int .i64 x24.2.1,.int .i64 x24.2.2.1,.string x24.2.2.2.1] zD λb25=>
      λw'=>∃y,Value.slice (some ⟨b25,0,none⟩) 1 1=RT.val (.one (.one .slice)) y∧k y w') w:=by
    intro w k11 hno sA sf hA hf h;rw[if_neg hno]at hk
    (refine nn ?_;refine ldC h ?_)
    rw[wr (by omega) (by omega)];refine z3J h 2 rfl hx hll λsx' w hx' h=>?_;rw[hxl]at hx' ⊢;have h:St w0 (gtB b bf rA rL c G.room G.pat::sA::sx'::((A++B).map LnE.sg).flatten::[Cl c zx [I G.room]]::sL'::sf::E) w:=h;refine it (λhp=>?_) (λhp=>?_)<;>(try simp only[zB]at hp)
    ·rw[if_pos hp]at hk;rw[HK hp]at hx';refine Ng h λw h=>?_;refine cQ (f:=(0,4,0,KM,())) hA h λsA' w hA' h=>?_;refine nw h ?_;clear h;intro b23 w h;have h:=Xz (Xz (Xz (Xz (Xz (Xz (Xz h))))));obtain⟨sg,hg,h⟩:=close (G':={ G with all:=zX G.all id (rev,4),lines:=zX G.lines rev (zu G.lines rev) }) (ok1.req hn id (rev,4)) rfl rfl hA' hx' rfl h;have h:=ZL (yO (yO h));exact⟨_,rfl,hk _ _ sg sf w WS hg hf h⟩
    ·rw[if_neg (by simpa using hp)]at hk;refine cQ (f:=(0,2,0,s_,())) hA h λsA' w hA' h=>?_;refine nw h ?_;clear h;intro b23 w h;have h:=Xz (Xz (Xz (Xz (Xz (Xz (Xz h))))));obtain⟨sg,hg,h⟩:=close (G':={ G with all:=zX G.all id (rev,2),lines:=zX G.lines rev (vg G.room (zu G.lines rev) id (now+G.pat)).1 }) ((ok.line hl rev (SD hlen)).req hn id (rev,2)) rfl rfl hA' hx' rfl h;have h:=ZL (yO (yO h));exact⟨_,rfl,hk _ _ sg sf w WS hg hf h⟩
   refine jd ?_;refine aA h 0 rfl hx ?_;rw[hxl];have h:St w0 (x.sg::((A++B).map LnE.sg).flatten::gtB b bf rA rL c G.room G.pat::[Cl c zx [I G.room]]::sL'::sA::sf::E) w:=h;refine it (λh0=>?_) (λh0=>?_)<;>(try simp only[zB]at h0)
   ·have h:=Yh (jB (jB h));refine sq hr.all hf hfew.l20 hfew.q7 h λsA' sf' w hA' hf' h=>?_
    cases ht:(ZM F rev id).2.2 with
    | true=>
     have e:gA F G.all id rev=((ZM F rev id).1,zX G.all id (rev,1),(id,1,(ZM F rev id).2.1,s_,()),true):=by unfold gA;rw[if_pos ht]
     rw[e]at hA' hf' ⊢;rw[if_pos ⟨by omega,ht⟩]at hk;refine nw h ?_;clear h;intro b15 w h
     (refine stC h ?_;clear h;intro w h;dsimp only[zJ,zd]at h)
     refine itT rfl ?_
     (refine laC h ?_)
     refine nw h ?_;clear h;intro b17 w h;have h:=Yf h;have h:=Xz (Xz (Xz (Xz (Xz (Xz (YA h))))));obtain⟨sg,hg,h⟩:=close (G':={ G with all:=zX G.all id (rev,1),lines:=zX G.lines rev (zu G.lines rev) }) (ok1.req hn id (rev,1)) rfl rfl hA' (hxl▸hx) rfl h;have h:=ZL (yO (yO h));exact⟨_,rfl,hk _ _ sg sf' w WS hg hf' h⟩
    | false=>
     have e:gA F G.all id rev=((ZM F rev id).1,G.all,(0,0,0,s_,()),false):=by unfold gA;rw[if_neg (by simp[ht])]
     rw[e]at hA' hf' ⊢;dsimp only at hf';rw[bm ht]at hf';refine nw h ?_;clear h;intro b15 w h
     (refine stC h ?_;clear h;intro w h;dsimp only[zJ,zd]at h)
     refine itF rfl ?_;have h:=zm h;have h:=jB (jB (jB (jB (jB (jB (ZL h))))));exact push (k11:=λ_ _=>True) (by simp[ht]) hA' hf' h
   ·have h:=jB (jB (Yh (Yh (Js (Js (jB h))))));exact push (k11:=λ_ _=>True) (λhh=>h0 (by omega)) hr.all hf h
abbrev jO:=List (Int×(B0×Int))
def yt(rev:B0):List (Int×Int)→ze→jO→List yr→ze×jO×List (Int×Int)×List yr
 | [],F,all,out=>(F,all,[],out)
 | x::l,F,all,out=>if(ZM F rev x.1).2.2=true then yt rev l (ZM F rev x.1).1 (zX all x.1 (rev,1)) (out++[(x.1,1,(ZM F rev x.1).2.1,s_,())])else(F,all,x::l,out)
def Ut{rev:B0}:∀{l:List (Int×Int)}{F:ze}{all:jO}{out:List yr},(yt rev l F all out).2.1.length≤all.length+l.length∧(yt rev l F all out).2.2.1.length≤l.length∧(yt rev l F all out).2.2.2.length≤out.length+l.length
 | [],_,_,_=>by simp[yt]
 | x::l,F,all,out=>by
  unfold yt;split
  ·have:=Ut (rev:=rev) (l:=l) (F:=(ZM F rev x.1).1) (all:=zX all x.1 (rev,1)) (out:=out++[(x.1,1,(ZM F rev x.1).2.1,s_,())]);have h2:=xg all x.1 (rev,(1:Int));simp only[List.length_append,List.length_cons,List.length_nil]at this ⊢;omega
  ·simp
def bb{rev:B0}:∀{l:List (Int×Int)}{F:ze}{all:jO}{out:List yr},(all.map (·.1)).Nodup→((yt rev l F all out).2.1.map (·.1)).Nodup
 | [],_,_,_,h=>h
 | x::l,F,all,out,h=>by
  unfold yt;split
  ·exact bb (QQ h)
  ·exact h
def yX(F:ze)(G:Ze)(rev:B0):ze×Ze×List yr:=
 ((yt rev (zu G.lines rev) F G.all []).1,{ G with all:=(yt rev (zu G.lines rev) F G.all []).2.1,lines:=zX G.lines rev (yt rev (zu G.lines rev) F G.all []).2.2.1 },(yt rev (zu G.lines rev) F G.all []).2.2.2)
def Nh(h:St w0 E w){v:Sl}{l:List yr}(r:Rd w yr.cells v l)(hn:l.length<1000000000)(h64:v.a=none→l = []){k:Sl→PT}
  (hk:∀v' s' w',Rw yr.cells zD 4 v' l s'→St w0 (s'::E) w'→k v' w'):L.call Pr yb [SlV v] (.one (.one .slice)) k w:=by
 refine za (Ui v) ?_;unfold xl;exact Qp (K:=λv w'=>∃x,v=RT.val (.one (.one .slice)) x∧k x w') GJ elF h r (by omega) (by omega) h64 λv' s' w' h1 h2 h3=>⟨v',rfl,hk v' s' w' h1 h3⟩
def ik{F:ze}{G:Ze}(ok:G.Ok)(hn:G.all.length<90000000)(hl:G.lines.length<90000000)(rev:B0):(yX F G rev).2.1.Ok:=by
 have hlen:=Jn ok rev;have h1:=Ut (rev:=rev) (l:=zu G.lines rev) (F:=F) (all:=G.all) (out:=[]);have hhi:=ok.hi;unfold yX;refine⟨by simp only;omega,ok.lo,ok.hi,λx hx=>?_,QQ ok.nd,bb ok.nda,?_⟩
 ·rcases Zp hx with rfl | hx
  ·simp only;omega
  ·exact ok.ln x hx
 ·have:=xg G.lines rev (yt rev (zu G.lines rev) F G.all []).2.2.1;simp only;omega
def Lu{sg sf:Seg}(h:St w0 (sg::sf::E) w){b bf:Nat}{G:Ze}{F:ze}(hg:GtS b bf G sg)(hf:FlS bf F sf)(hfew:Jq F)(hn:G.all.length<90000000)(hl:G.lines.length<90000000){rev:B0}{k:Sl→PT}
  (hk:∀v sv sg' sf' w',Rw yr.cells zD 4 v (yX F G rev).2.2 sv→GtS b bf (yX F G rev).2.1 sg'→FlS bf (yX F G rev).1 sf'→St w0 (sv::sg'::sf'::E) w'→k v w') :
  L.call Pr Xv [pO b,.string rev] (.one (.one .slice)) k w:=by
 have ok':=ik (F:=F) hg.1 hn hl rev;obtain⟨ok,rA,rL,c,sA,sL,Q,hr,rfl⟩:=hg;refine za (Ch _ _) ?_;unfold gS;have h:=h.split5;have h:=YA (YA (Yh (Yh h)))
 (refine nn ?_)
 refine z2f (rev:=rev) hr.lns hr.each h rfl λsL' A x B w hQ' hL' hxk hxl hab h=>?_;rw[←hr.abs]at hxl hab;have hlen:=Jn ok rev;have hnd:(((A++x::B).map LnE.ka).map (·.1)).Nodup:=by rw[hab];exact QQ ok.nd
 have hx:LnS x.b G.room x.l x.sg:=hQ' x (by simp);have hhi:=ok.hi;have hfl:=Ut (rev:=rev) (l:=zu G.lines rev) (F:=F) (all:=G.all) (out:=[]);have hll:x.l.length<1000000000:=by rw[hxl];omega
 have h:=YA (ZL (ZL (ZL h)));have h:=h.pick
 refine Zz (λz w=>∃v sv sA' sx' sf',z=(v,())∧Rw yr.cells zD 4 v (yX F G rev).2.2 sv∧MpS KI Fl rA (yX F G rev).2.1.all sA'∧LnS x.b G.room (yt rev (zu G.lines rev) F G.all []).2.2.1 sx'∧FlS bf (yX F G rev).1 sf'∧
   St w0 (gtB b bf rA rL c G.room G.pat::sA'::sf'::sx'::sv::((A++B).map LnE.sg).flatten::[Cl c zx [I G.room]]::sL'::E) w) (λk3 hk3=>?_) (λz w ⟨v,sv,sA',sx',sf',hz,hrv,hA',hx',hf',h⟩=>?_)
 ·refine z2i h 0 rfl hx hll λv5 s5 w hr5 h=>?_;rw[hxl]at hr5 hx;have hl5:=Rw.len Yy hr5;rw[List.length_map]at hl5;have h:St w0 (s5::x.sg::((A++B).map LnE.sg).flatten::gtB b bf rA rL c G.room G.pat::[Cl c zx [I G.room]]::sL'::sA::sf::E) w:=h;have h:=Js (Xz (Xz (yO h)))
  refine zT (λq y w=>∃(j:Nat)(F':ze)(all':jO)(out:List yr)(v:Sl)(sv sA' sx' sf':Seg),y=(v,(j:Int),())∧q+j=(zu G.lines rev).length∧Jq F'∧out.length=j∧
    yt rev ((zu G.lines rev).drop j) F' all' out=yt rev (zu G.lines rev) F G.all []∧Rw yr.cells zD 4 v out sv∧MpS KI Fl rA all' sA'∧LnS x.b G.room ((zu G.lines rev).drop j) sx'∧FlS bf F' sf'∧
    St w0 (sv::gtB b bf rA rL c G.room G.pat::sA'::sf'::sx'::s5::((A++B).map LnE.sg).flatten::[Cl c zx [I G.room]]::sL'::E) w) (zu G.lines rev).length
    ⟨0,F,G.all,[],_,[],sA,x.sg,sf,rfl,rfl,hfew,rfl,rfl,Rw.nil,hr.all,hx,hf,h.nil⟩ ?_
  clear h;rintro q y w ⟨j,F',all',out,v,sv,sA',sx',sf',rfl,hq,hfew',hol,hfa,hrv,hA',hx',hf',h⟩ again hag
  (try dsimp only)
  have done:∀{l':List (Int×Int)}{F2:ze}{all2:jO}{sA2 sx2 sf2:Seg}{w},yt rev (zu G.lines rev) F G.all []=(F2,all2,l',out)→MpS KI Fl rA all2 sA2→LnS x.b G.room l' sx2→FlS bf F2 sf2→
    St w0 (sv::gtB b bf rA rL c G.room G.pat::sA2::sf2::sx2::s5::((A++B).map LnE.sg).flatten::[Cl c zx [I G.room]]::sL'::E) w→k3 (⟨v.a,v.len,v.cap⟩,()) w:=by
   intro l' F2 all2 sA2 sx2 sf2 w e h1 h2 h3 h;have h:=Pc h;have h:=Yh (Yh (Yh (Yh h)));refine hk3 _ w ⟨v,sv,sA2,sx2,sf2,rfl,?_,?_,?_,?_,h⟩
   ·unfold yX;rw[e];exact hrv
   ·unfold yX;rw[e];exact h1
   ·rw[e];exact h2
   ·unfold yX;rw[e];exact h3
  refine it (λhb=>?_) (λhb=>?_)<;>(try simp only[zB]at hb)
  ·have hj:j<(zu G.lines rev).length:=by omega
   have hxj:(zu G.lines rev)[j]? = some (zu G.lines rev)[j]:=List.getElem?_eq_getElem hj;have hdr:(zu G.lines rev).drop j=(zu G.lines rev)[j]::(zu G.lines rev).drop (j+1):=List.drop_eq_getElem_cons hj;generalize (zu G.lines rev)[j]=y at hxj hdr;refine rd1 (Rw.rd Yy h 5 rfl hr5) Yy (lf:=.int .i64) (λx=>x) (λx=>⟨_,rfl,rfl⟩) (by omega) hb λy' hy'=>?_;simp only[Int.toNat_natCast,List.getElem?_map,hxj,Option.map_some,Option.some.injEq]at hy';subst hy';have h:=YA (YA (YA h));refine sq hA' hf' hfew'.l20 hfew'.q7 h λsA2 sf2 w hA2 hf2 h=>?_
   cases ht:(ZM F' rev y.1).2.2 with
   | false=>
    have e:gA F' all' y.1 rev=((ZM F' rev y.1).1,all',(0,0,0,s_,()),false):=by unfold gA;rw[if_neg (by simp[ht])]
    rw[e]at hA2 hf2 ⊢;dsimp only at hf2;rw[bm ht]at hf2;refine nw h ?_;clear h;intro b11 w h
    (refine stC h ?_;clear h;intro w h;dsimp only[zJ,zd]at h)
    refine itT rfl ?_;have h:=zm h;have h:=YA (ZL (ZL (ZL h)));refine done ?_ hA2 hx' hf2 h;rw[←hfa,hdr,yt,if_neg (by simp[ht])]
   | true=>
    have e:gA F' all' y.1 rev=((ZM F' rev y.1).1,zX all' y.1 (rev,1),(y.1,1,(ZM F' rev y.1).2.1,s_,()),true):=by unfold gA;rw[if_pos ht]
    rw[e]at hA2 hf2 ⊢;refine nw h ?_;clear h;intro b11 w h
    (refine stC h ?_;clear h;intro w h;dsimp only[zJ,zd]at h)
    refine itF rfl ?_;have hx2:=hx';refine z5K h 5 rfl hx2 (by rw[List.length_drop];omega) λsx3 w hx3 h=>?_;rw[hdr]at hx3;have h:St w0 ([Cl b11 zD [I y.1,I 1,I (ZM F' rev y.1).2.1,.string s_]]::gtB b bf rA rL c G.room G.pat::sA2::sf2::sv::sx3::s5::((A++B).map LnE.sg).flatten::[Cl c zx [I G.room]]::sL'::E) w:=h
    (refine laC h ?_)
    refine nw h ?_;clear h;intro b14 w h;refine Rw.app (l:=out) GJ elF h 4 rfl hrv (y.1,1,(ZM F' rev y.1).2.1,s_,()) rfl (by omega) (by omega) λv' sv' w hrv' h=>?_;have h:St w0 ([Cl b11 zD [I y.1,I 1,I (ZM F' rev y.1).2.1,.string s_]]::gtB b bf rA rL c G.room G.pat::sA2::sf2::sv'::sx3::s5::((A++B).map LnE.sg).flatten::[Cl c zx [I G.room]]::sL'::E) w:=h;have h:=zm h;have h:=YA (ZL (ZL (ZL h)));rw[wr (by omega) (by omega)];refine hag (q-1) _ w (by omega) ⟨j+1,(ZM F' rev y.1).1,zX all' y.1 (rev,1),out++[(y.1,1,(ZM F' rev y.1).2.1,s_,())],v',sv',sA2,sx3,sf2,by simp,by omega,hfew'.take rev y.1,by simp[hol],?_,hrv',hA2,hx3,hf2,h⟩;rw[←hfa,hdr,yt,if_pos ht]
  ·have e:(zu G.lines rev).drop j = []:=List.drop_of_length_le (by omega);rw[e]at hfa hx';exact done (l':=[]) (by rw[←hfa];rfl) hA' hx' hf' h
 ·subst hz;have hlo:(yX F G rev).2.2.length<1000000000:=by show(yt rev (zu G.lines rev) F G.all []).2.2.2.length<1000000000;simp only[List.length_nil]at hfl;omega
  refine Nh h (Rw.rd GJ h 4 rfl hrv) hlo (λh0=>Rw.nil_of GJ hrv h0) λv' sv' w hrv' h=>⟨v',rfl,?_⟩;have h:=Pc h;have h:=Xz (Xz (Js (Xz (Yh (Xz (yO (YA h)))))));have h:St w0 (LnE.sg ⟨x.k,x.b,(yt rev (zu G.lines rev) F G.all []).2.2.1,sx'⟩::((A++B).map LnE.sg).flatten::gtB b bf rA rL c G.room G.pat::[Cl c zx [I G.room]]::sA'::sL'::sv'::sf'::E) w:=h;have h:=h.place;have h:=jB (jB (jB (jB (ZL (jB (jB h))))));have heach:∀y∈A++(⟨x.k,x.b,(yt rev (zu G.lines rev) F G.all []).2.2.1,sx'⟩:LnE)::B,LnS y.b G.room y.l y.sg:=by
   intro y hy;rcases List.mem_append.1 hy with hy | hy
   ·exact hQ' y (by simp[hy])
   ·rcases List.mem_cons.1 hy with rfl | hy
    ·exact hx'
    ·exact hQ' y (by simp[hy])
  obtain⟨sg,hg,h⟩:=Ql (G:=(yX F G rev).2.1) (c:=c) ok' ⟨hA',by simpa using hL',heach,(cw hab hxk hnd).symm⟩ h;have h:=ZL (yO (ZL h));exact hk v' sv' sg sf' w hrv' hg hf' h
def tQ{b bf:Nat}{G:Ze}{sg:Seg}(hg:GtS b bf G sg)(h:St w0 (sg::E) w):∃rA rL c sA sL,∃Q:List LnE,GtR G rA rL sA sL Q∧St w0 (gtB b bf rA rL c G.room G.pat::[Cl c zx [I G.room]]::sA::sL::(Q.map LnE.sg).flatten::E) w:=by
 obtain⟨ok,rA,rL,c,sA,sL,Q,hr,rfl⟩:=hg;exact⟨rA,rL,c,sA,sL,Q,hr,h.split5⟩
def sn{sg:Seg}(h:St w0 (sg::E) w){b bf:Nat}{G:Ze}(hg:GtS b bf G sg){id:Int}{rev:B0}{f:yr}(ok':({ G with all:=zX G.all id (rev,f.2.1) }:Ze).Ok){k:CU.T→PT}
  (hk:∀sg' w',GtS b bf { G with all:=zX G.all id (rev,f.2.1) } sg'→St w0 (sg'::E) w'→k (z2Q f id) w') :
  L.call Pr yw [pO b,I id,.string rev,.agg (yr.cells f).toArray] (.one CU) k w:=by
 obtain⟨rA,rL,c,sA,sL,Q,hr,h⟩:=tQ hg h;have h:=yO (ZL h);refine cQ (f:=f) hr.all h λsA' w hA' h=>?_;have h:=ZL (ZL (yO h));obtain⟨sg',hg',h⟩:=Ql ok' (Q:=Q) ⟨hA',hr.lns,hr.each,hr.abs⟩ h;exact hk sg' w hg' h
def Yu(F:ze)(G:Ze)(id:Int):ze×Ze×List yr×Int:=
 if(ZU F id).2.2≠0 then((ZU F id).1,G,[],(ZU F id).2.2)
 else((yX (ZU F id).1 { G with all:=zX G.all id ((ZU F id).2.1,3) } (ZU F id).2.1).1,(yX (ZU F id).1 { G with all:=zX G.all id ((ZU F id).2.1,3) } (ZU F id).2.1).2.1,
  (id,3,0,s_,())::(yX (ZU F id).1 { G with all:=zX G.all id ((ZU F id).2.1,3) } (ZU F id).2.1).2.2,0)
def cD{F:ze}{G:Ze}(ok:G.Ok)(rev:B0):((yX F G rev).2.2.length:Int)≤G.room∧((yX F G rev).2.1.all.length:Int)≤G.all.length+G.room∧(yX F G rev).2.1.lines.length≤G.lines.length+1:=by
 have hlen:=Jn ok rev;have h1:=Ut (rev:=rev) (l:=zu G.lines rev) (F:=F) (all:=G.all) (out:=[]);simp only[List.length_nil]at h1;have h2:=xg G.lines rev (yt rev (zu G.lines rev) F G.all []).2.2.1;refine⟨?_,?_,h2⟩
 ·show((yt rev (zu G.lines rev) F G.all []).2.2.2.length:Int)≤_;omega
 ·show((yt rev (zu G.lines rev) F G.all []).2.1.length:Int)≤_;omega
def z1D{sg sf:Seg}(h:St w0 (sg::sf::E) w){b bf:Nat}{G:Ze}{F:ze}(hg:GtS b bf G sg)(hf:FlS bf F sf)(hfew:Jq F)(hn:G.all.length<80000000)(hl:G.lines.length<90000000){id:Int}{k:Sl×Int×Unit→PT}
  (hk:∀v sv sg' sf' w',Rw yr.cells zD 4 v (Yu F G id).2.2.1 sv→GtS b bf (Yu F G id).2.1 sg'→FlS bf (Yu F G id).1 sf'→St w0 (sv::sg'::sf'::E) w'→k (v,(Yu F G id).2.2.2,()) w') :
  L.call Pr vZ [pO b,I id] (.tup [.one .slice,.one (.int .i64)]) k w:=by
 have ok:=hg.1;have hhi:=ok.hi;refine za (Ci _ _) ?_;unfold gT;unfold Yu at hk;obtain⟨rA,rL,c,sA,sL,Q,hr,h⟩:=tQ hg h
 (refine nn ?_;refine ldC h ?_)
 refine z1G h 5 rfl hf λsf' w hf' h=>?_;obtain⟨sg,hg,h⟩:=Ql (E:=sf'::E) ok hr h;refine it (λhe=>?_) (λhe=>?_)<;>(try simp only[zB]at he)
 ·rw[if_pos he]at hk;exact⟨(⟨none,0,0⟩,(ZU F id).2.2,()),rfl,hk _ [] sg sf' w Rw.nil hg hf' h.nil⟩
 ·rw[if_neg (by simpa using he)]at hk;have hf1:=hfew.give id;generalize (ZU F id).1=F1 at *
  generalize (ZU F id).2.1=rev at *
  have ok1:=ok.req (by omega) id (rev,3);refine sn (f:=(0,3,0,s_,())) h hg ok1 λsg w hg h=>?_;refine nw h ?_;clear h;intro b5 w h
  (refine stC h ?_;clear h;intro w h;dsimp only[zJ,zd]at h)
  have hm:=xg G.all id (rev,(3:Int));have hfl:=cD (F:=F1) ok1 rev;dsimp only at hfl;refine Zz (λz w=>∃v sv sg' sf',z=(v,0,())∧Rw yr.cells zD 4 v ((id,3,0,s_,())::(yX F1 { G with all:=zX G.all id (rev,3) } rev).2.2) sv∧GtS b bf (yX F1 { G with all:=zX G.all id (rev,3) } rev).2.1 sg'∧FlS bf (yX F1 { G with all:=zX G.all id (rev,3) } rev).1 sf'∧St w0 (sv::sg'::sf'::E) w) (λk6 hk6=>?_) (λz w ⟨v,sv,sg',sf',hz,hv,hg',hf',h⟩=>?_)
  ·have app:∀{b9:Nat}{v10:Sl}{sv sg' sf':Seg}{w},Rw yr.cells zD 4 v10 (yX F1 { G with all:=zX G.all id (rev,3) } rev).2.2 sv→GtS b bf (yX F1 { G with all:=zX G.all id (rev,3) } rev).2.1 sg'→FlS bf (yX F1 { G with all:=zX G.all id (rev,3) } rev).1 sf'→
     St w0 ([Cl b9 zD [I id,I 3,I 0,.string s_]]::sv::sg'::sf'::E) w→
     (L.sem Pr (.one (.one .slice)) (Builtin.append_ #[zI,zI] zI #[.slice (some ⟨b9,0,none⟩) 1 1,.slice v10.a v10.len v10.cap]) λ(s11:Sl)=>k6 (⟨s11.a,s11.len,s11.cap⟩,0,())) w:=by
    intro b9 v10 sv sg' sf' w hv hg' hf' h;have hr1:Rw yr.cells zD 4 ⟨some ⟨b9,0,none⟩,1,1⟩ [((id,3,0,s_,()):yr)] [Cl b9 zD [I id,I 3,I 0,.string s_]]:=WS;refine Rw.appRd (v:=⟨some ⟨b9,0,none⟩,1,1⟩) (l:=[((id,3,0,s_,()):yr)]) GJ elF h 0 rfl hr1 (Rw.rd GJ h 1 rfl hv) (by simp only[List.length_cons,List.length_nil];omega) (by simp only[List.length_cons,List.length_nil];omega) λv' s' w hv' _ _ h=>?_;have h:St w0 (s'::sv::sg'::sf'::E) w:=h;have h:=Yf h;exact hk6 _ w ⟨v',s',sg',sf',rfl,hv',hg',hf',h⟩
   (refine dr h ?_;clear h;intro w h;refine laC h ?_)
   refine kI ?_ ?_
   ·refine nw h ?_;clear h;intro b9 w h;have h:=YA (YA (yO (yO h)));refine Lu h hg hf' hf1 (by simp only;omega) hl λv10 sv sg' sf' w hv hg' hf' h=>?_
    (dsimp only[zd,List.cons_append,List.nil_append]at h;refine ckC h ?_)
    have h:=ko h;have h:=YA h;exact app hv hg' hf' h
   ·have h:=ZL (ZL h);refine Lu h hg hf' hf1 (by simp only;omega) hl λv10 sv sg' sf' w hv hg' hf' h=>?_
    (refine ckC h ?_)
    refine nw h ?_;clear h;intro b9 w h;have h:=ko h;exact app hv hg' hf' h
  ·subst hz;exact⟨(v,0,()),rfl,hk v sv sg' sf' w hv hg' hf' h⟩
def Up(all:jO)(id:Int):B0×Int:=(zr all id).getD (s_,0)
def jV:List Int→jO→List yr→jO×List yr
 | [],all,out=>(all,out)
 | id::l,all,out=>if(Up all id).2=1 then jV l (zX all id ((Up all id).1,4)) (out++[(id,4,0,vR,())])else jV l all out
def Kc(a b:B0×Int):Bool:=(a.1 == b.1)&&((a.2 == b.2)&&true)
def iG(a b:B0×Int)(w:World):(Op.equalIn 10000 Zw (.agg #[.string a.1,I a.2]) (.agg #[.string b.1,I b.2])).run Pr w = .ok (Kc a b) w:=by
 have hS:Pr.underlying Zw=some (.struct (Pr.fieldsOf Zw)):=by kernel_rfl
 have hp:Pr.stoodInHeld Zw=false:=by kernel_rfl
 obtain⟨a1,a2⟩:=a;obtain⟨b1,b2⟩:=b;rw[show(10000:Nat)=9999+1 from rfl,run_equalIn_agg w 9999 Zw _ _ hS hp];have u3:=Tryz.underlying3;have i3:=Tryz.isAgg3;have z3:=Tryz.sizeOf3;have u9:=Tryz.underlying9;have i9:=Tryz.isAgg9;have z9:=Tryz.sizeOf9;simp only[Program.fieldsOf,Tryz.underlying220]
 go_simp
 have e:(ByteArray.toList a1=ByteArray.toList b1)↔(@BEq.beq B0 _ a1 b1)=true:=by rw[beq_toListBytes];simp
 unfold Kc;by_cases h1:(@BEq.beq B0 _ a1 b1)=true
 ·rw[if_pos (e.2 h1)];simp only[show(a1 == b1)=true from h1,Bool.true_and];by_cases h2: @Eq Int a2 b2
  ·cases h2;simp
  ·simp[h2]
 ·rw[if_neg (λh=>h1 (e.1 h))];have:(a1 == b1)=false:=by simpa using h1
  simp[this]
def Oc(a b:B0×Int):Kc a b=true↔a=b:=by
 obtain⟨a1,a2⟩:=a;obtain⟨b1,b2⟩:=b;have e:(@BEq.beq B0 _ a1 b1)=true↔a1=b1:=cO;unfold Kc;simp only[Bool.and_eq_true,beq_iff_eq,and_true,Prod.mk.injEq];exact and_congr e Iff.rfl
def iJ(a b:B0×Int)(w:World):(do eqGuard .eql Zw (.tmp 0) (.tmp 0) (.agg #[.string a.1,I a.2]) (.agg #[.string b.1,I b.2]);binOp .eql Zw (.agg #[.string a.1,I a.2]) (.agg #[.string b.1,I b.2]):Sem Value).run Pr w = .ok (.bool (Kc a b)) w:=
 ah (by kernel_rfl) (iG a b w)
def gv:∀{l:List Int}{all:jO}{out:List yr},(jV l all out).2.length≤out.length+l.length∧(jV l all out).1.length≤all.length+l.length
 | [],_,_=>by simp[jV]
 | id::l,all,out=>by
  unfold jV;split
  ·have:=gv (l:=l) (all:=zX all id ((Up all id).1,4)) (out:=out++[(id,4,0,vR,())]);have h2:=xg all id ((Up all id).1,(4:Int));simp only[List.length_append,List.length_cons,List.length_nil]at this ⊢;omega
  ·have:=gv (l:=l) (all:=all) (out:=out);simp only[List.length_cons];omega
def Oj(G:Ze)(ids:List Int):Ze×List yr:=({ G with all:=(jV ids G.all []).1 },(jV ids G.all []).2)
def cu:∀{l m:List Int}{all:jO}{out:List yr},jV (l++m) all out=jV m (jV l all out).1 (jV l all out).2
 | [],m,all,out=>rfl
 | id::l,m,all,out=>by
  rw[List.cons_append,jV];split
  ·rename_i h;rw[cu];conv=>rhs;rw[jV,if_pos h]
  ·rename_i h;rw[cu];conv=>rhs;rw[jV,if_neg h]
def su{sg si:Seg}(h:St w0 (sg::si::E) w){b bf:Nat}{G:Ze}(hg:GtS b bf G sg){v0:Sl}{ids:List Int}(hi:Rw eI zx 1 v0 ids si)(hn:ids.length<1000000){k:Sl→PT}
  (hk:∀v sv sg' w',Rw yr.cells zD 4 v (Oj G ids).2 sv→GtS b bf (Oj G ids).1 sg'→St w0 (sv::sg'::si::E) w'→k v w') :
  L.call Pr QM [pO b,.slice v0.a v0.len v0.cap] (.one (.one .slice)) k w:=by
 have ok:=hg.1;refine za (Cg _ v0) ?_;unfold gR;have hl0:=Rw.len Yy hi
 refine zT (λq y w=>∃(j:Nat)(all':jO)(out:List yr)(v:Sl)(sv sg':Seg),y=(v,(j:Int),())∧q+j=ids.length∧jV (ids.take j) G.all []=(all',out)∧Rw yr.cells zD 4 v out sv∧GtS b bf { G with all:=all' } sg'∧St w0 (sg'::sv::si::E) w) ids.length
  ⟨0,G.all,[],_,[],sg,rfl,rfl,rfl,Rw.nil,hg,h.eq (by simp)⟩ ?_
 clear h;rintro q y w ⟨j,all',out,v,sv,sg',rfl,hq,hla,hv,hg',h⟩ again hag
 (try dsimp only)
 have hll:=gv (l:=ids.take j) (all:=G.all) (out:=[]);rw[hla]at hll;simp only[List.length_nil,List.length_take]at hll;refine it (λhb=>?_) (λhb=>?_)<;>(try simp only[zB]at hb)
 ·have hj:j<ids.length:=by omega
  have hx:ids[j]? = some ids[j]:=List.getElem?_eq_getElem hj;generalize ids[j]=id at hx;have htk:ids.take (j+1)=ids.take j++[id]:=by rw[List.take_add_one,hx];rfl
  have next:∀{all2 out2 v sv sg2 w},jV [id] all' out=(all2,out2)→Rw yr.cells zD 4 v out2 sv→GtS b bf { G with all:=all2 } sg2→St w0 (sg2::sv::si::E) w→again (v,Wi ((j:Int)+1),()) w:=by
   intro all2 out2 v sv sg2 w e hv hg2 h;rw[wr (by omega) (by omega)];refine hag (q-1) _ w (by omega) ⟨j+1,all2,out2,v,sv,sg2,by simp,by omega,?_,hv,hg2,h⟩;rw[htk,cu,hla];exact e
  refine jd ?_;refine rd1 (Rw.rd Yy h 2 rfl hi) Yy (lf:=.int .i64) (λx=>x) (λx=>⟨_,rfl,rfl⟩) (by omega) hb λy' hy'=>?_;simp only[Int.toNat_natCast,hx,Option.some.injEq]at hy';subst hy';have ok2:=hg'.1;obtain⟨rA,rL,c,sA,sL,Q,hr,h⟩:=tQ hg' h
  (dsimp only[zd,List.cons_append,List.nil_append]at h;refine nn ?_;refine ldC h ?_)
  refine MpS.get mkI mR z3T (λx:B0×Int=>(x.1,x.2,())) (λ_=>rfl) h 2 rfl hr.all ?_;have er:((zr all' id).map λx:B0×Int=>(x.1,x.2,())).getD (s_,0,())=((Up all' id).1,(Up all' id).2,()):=by
   unfold Up;cases zr all' id<;>rfl
  (try dsimp only)
  rw[er];refine nw h ?_;clear h;intro b10 w h
  (refine stC h ?_;clear h;intro w h;dsimp only[zJ,zd]at h;refine laC h ?_;refine ldC h ?_)
  unfold L.chkSem;refine⟨iJ (Up all' id) ((Up all' id).1,1) w,?_⟩;refine it (λhc=>?_) (λhc=>?_)
  ·have hc:(Up all' id).2=1:=by
    have:=(Oc (Up all' id) ((Up all' id).1,1)).1 hc;rw[this]
   (refine dr h ?_;clear h;intro w h;refine ldC h ?_)
   refine Ng h λw h=>?_
   (refine ckC h ?_)
   have h:=zm h;obtain⟨sg2,hg2,h⟩:=Ql (G:={ G with all:=all' }) ok2 hr h;have hin:(zr all' id).isSome=true:=by
    cases hg:zr all' id with
    | none=>unfold Up at hc;rw[hg]at hc;cases hc
    | some x=>rfl
   refine sn (f:=(0,4,0,vR,())) h hg2 (ok2.reqIn hin _) λsg2 w hg2 h=>?_;refine nw h ?_;clear h;intro b16 w h;refine Rw.app (l:=out) GJ elF h 1 rfl hv (id,4,0,vR,()) rfl (by omega) (by omega) λv' sv' w hv' h=>?_;refine next (v:=v') ?_ hv' hg2 h
   simp only[jV];rw[if_pos hc]
  ·have hc:¬(Up all' id).2=1:=λe=>by
    have:Kc (Up all' id) ((Up all' id).1,1)=true:=(Oc _ _).2 (by rw[←e]);unfold Kc at this;rw[this]at hc;cases hc
   have h:=zm h;obtain⟨sg2,hg2,h⟩:=Ql (G:={ G with all:=all' }) ok2 hr h;refine next (v:=v) ?_ hv hg2 h
   simp only[jV];rw[if_neg hc]
 ·have e:ids.take j=ids:=List.take_of_length_le (by omega);rw[e]at hla;refine Nh h (Rw.rd GJ h 1 rfl hv) (by omega) (λh0=>Rw.nil_of GJ hv h0) λv' sv' w hv' h=>⟨v',rfl,?_⟩;have h:=VQ h;refine hk v' sv' sg' w ?_ ?_ h
  ·unfold Oj;rw[hla];exact hv'
  ·unfold Oj;rw[hla];exact hg'
def jI(all:jO)(rev:B0):List Int:=Oi ((all.filter λp=>decide (p.2=(rev,1))).map (·.1))
def VN(G:Ze)(rev:B0):List Int:=(zu G.lines rev).map (·.1)
def z1O:Value→B0×Int
 | .agg ⟨.string s:: .int _ n::_⟩=>(s,n)
 | _=>(s_,0)
def li{sg:Seg}(h:St w0 (sg::E) w){b bf:Nat}{G:Ze}(hg:GtS b bf G sg){rev:B0}{k:Sl×Sl×Unit→PT}
  (hk:∀v1 v2 s1 s2 sg' w',Rw eI zx 1 v1 (VN G rev) s1→Rw eI zx 1 v2 (jI G.all rev) s2→GtS b bf G sg'→St w0 (s1::s2::sg'::E) w'→k (v1,v2,()) w') :
  L.call Pr XV [pO b,.string rev] (.tup [.one .slice,.one .slice]) k w:=by
 have ok:=hg.1;have hfew:=ok.few;refine za (Pw _ _) ?_;unfold oB;obtain⟨rA,rL,c,sA,sL,Q,hr,h⟩:=tQ hg h
 (refine nn ?_;refine ldC h ?_)
 have h:=ZL h;have h:St w0 (sA::[]::gtB b bf rA rL c G.room G.pat::[Cl c zx [I G.room]]::sL::(Q.map LnE.sg).flatten::E) w:=h.eq (by simp)
 refine Rx (kv:=KI) (vv:=Fl) unI (λ_=>rfl) z1O (λ_=>rfl) mR (lk:=.int .i64) (ev:=.agg [.str,.int .i64]) (λx=>x) (λ_=>rfl) (λx:B0×Int=>(x.1,x.2,())) (λ_=>rfl) hr.all h
  (λseen y F=>∃v sv,y=(v,())∧Rw eI zx 1 v ((seen.filter λp=>decide (p.2=(rev,(1:Int)))).map (·.1)) sv∧F=sv::gtB b bf rA rL c G.room G.pat::[Cl c zx [I G.room]]::sL::(Q.map LnE.sg).flatten::E)
  (y0:=(⟨none,0,0⟩,())) ⟨_,[],rfl,Rw.nil,rfl⟩ ?_ ?_
 ·rintro seen id x y F X w again hsl hmem hnew ⟨v,sv,rfl,hv,rfl⟩ h hN;have hfl:=List.length_filter_le (λp:Int×(B0×Int)=>decide (p.2=(rev,1))) seen;have h:St w0 (sA::sv::(gtB b bf rA rL c G.room G.pat::[Cl c zx [I G.room]]::sL::(Q.map LnE.sg).flatten::E++X)) w:=h;refine nw h ?_;clear h;intro b16 w h
  (dsimp only[zd,List.cons_append,List.nil_append]at h;refine stC h ?_;clear h;intro w h;dsimp only[zJ,zd]at h;refine laC h ?_)
  unfold L.chkSem;refine⟨iJ x (rev,1) w,?_⟩;refine it (λhc=>?_) (λhc=>?_)
  ·have hc:x=(rev,1):=(Oc x (rev,1)).1 hc;refine nw h ?_;clear h;intro b18 w h;refine Rw.app (l:=(seen.filter λp=>decide (p.2=(rev,(1:Int)))).map (·.1)) Yy elI h 2 rfl hv id rfl (by rw[List.length_map];omega) (by rw[List.length_map];omega) λv' sv' w hv' h=>?_;have h:St w0 ([Cl b16 Zw [.string x.1,I x.2]]::sA::sv'::(gtB b bf rA rL c G.room G.pat::[Cl c zx [I G.room]]::sL::(Q.map LnE.sg).flatten::E++X)) w:=h;refine hN (v',()) _ w ⟨v',sv',rfl,?_,rfl⟩ (zm h);rw[List.filter_append,List.map_append];simpa [hc]using hv'
  ·have hc:¬x=(rev,1):=λe=>by
    have:Kc x (rev,1)=true:=(Oc _ _).2 e;unfold Kc at this;rw[this]at hc;cases hc
   refine hN (v,()) _ w ⟨v,sv,rfl,?_,rfl⟩ (zm h);rw[List.filter_append,List.map_append];simpa [hc]using hv
 ·rintro seen y F w hp ⟨v,sv,rfl,hv,rfl⟩ h;have hfl:=List.length_filter_le (λp:Int×(B0×Int)=>decide (p.2=(rev,1))) seen;rw[hp.length_eq]at hfl
  (try dsimp only)
  refine sG h 1 rfl hv (by rw[List.length_map];omega) λsv w hv h=>?_;have e1:Oi ((seen.filter λp=>decide (p.2=(rev,(1:Int)))).map (·.1))=jI G.all rev:=RN ((hp.filter _).map _);rw[e1]at hv;have h:St w0 (sA::sv::gtB b bf rA rL c G.room G.pat::[Cl c zx [I G.room]]::sL::(Q.map LnE.sg).flatten::E) w:=h;have hgl:(jI G.all rev).length<1000000000:=by
   rw[←e1,KF,List.length_map];omega
  have fin:∀{v1:Sl}{s1:Seg}{w},Rw eI zx 1 v1 (VN G rev) s1→St w0 (s1::sA::sv::gtB b bf rA rL c G.room G.pat::[Cl c zx [I G.room]]::sL::(Q.map LnE.sg).flatten::E) w→
    L.call Pr ZX [.slice v.a v.len v.cap] (.one (.one .slice)) (λx14 w'=>∃z,Value.tuple #[.slice v1.a v1.len v1.cap,.slice x14.a x14.len x14.cap]=RT.val (.tup [.one .slice,.one .slice]) z∧k z w') w:=by
   intro v1 s1 w h1 h;refine gG h (Rw.rd Yy h 2 rfl hv) (by omega) (λh0=>Rw.nil_of Yy hv h0) λv2 s2 w h2 _ h=>⟨(v1,v2,()),rfl,?_⟩;have h:=VP h;have h:=jB (jB (Yh (jB (jB (yO h)))));obtain⟨sg',hg',h⟩:=Ql ok hr h;have h:=ZL (ZL h);exact hk v1 v2 s1 s2 sg' w h1 h2 hg' h
  refine jd ?_
  (refine nn ?_;refine ldC h ?_)
  refine MpS.get2 Sz Gm zln (λx:Option Addr=>x) (λ_=>rfl) h 4 rfl hr.lns ?_
  (try dsimp only)
  have e2:=tJ (Q:=Q) (rev:=rev);have e3:=tK (Q:=Q) (rev:=rev);rw[←hr.abs]at e3
  cases hf:Us LnE.k Q rev with
  | none=>
   rw[hf]at e2 e3;simp only[Option.map_none]at e2 e3;rw[e2];refine itF rfl ?_;refine fin (v1:=⟨none,0,0⟩) (s1:=[]) ?_ h.nil;unfold VN zu;rw[e3];exact Rw.nil
  | some x=>
   rw[hf]at e2 e3;simp only[Option.map_some]at e2 e3;rw[e2];refine itT rfl ?_;obtain⟨A,B,rfl,hx⟩:=KX hf;have hlx:=hr.each x (by simp);have hlen:=Jn ok rev;have hhi:=ok.hi;have elo:zu G.lines rev=x.l:=by unfold zu;rw[e3];rfl
   rw[elo]at hlen;have h:=Js h;have h:=h.pick;refine z2i h 0 rfl hlx (by omega) λv1 s1 w h1 h=>?_;have h:St w0 (s1::x.sg::((A++B).map LnE.sg).flatten::sA::sv::gtB b bf rA rL c G.room G.pat::[Cl c zx [I G.room]]::sL::E) w:=h;have h:=ZL (ZL h);have h:St w0 (LnE.sg x::((A++B).map LnE.sg).flatten::s1::sA::sv::gtB b bf rA rL c G.room G.pat::[Cl c zx [I G.room]]::sL::E) w:=h;have h:=h.place;have h:=jB (jB (jB (jB (jB (jB h)))));refine fin (v1:=v1) ?_ h;unfold VN;rw[elo];exact h1
def sw{sg:Seg}(h:St w0 (sg::E) w){b bf:Nat}{G:Ze}(hg:GtS b bf G sg){rev:B0}{k:Int→PT}
  (hk:∀sg' w',GtS b bf G sg'→St w0 (sg'::E) w'→k (((VN G rev).length:Int)+(jI G.all rev).length) w') :
  L.call Pr QN [pO b,.string rev] (.one (.one (.int .i64))) k w:=by
 have ok:=hg.1;refine za (Cj _ _) ?_;unfold gU;refine li h hg λv1 v2 s1 s2 sg' w h1 h2 hg' h=>?_;have e1:=Rw.len Yy h1;have e2:=Rw.len Yy h2;have hlen:=Jn ok rev;have hhi:=ok.hi;have hfew:=ok.few;have h3:(VN G rev).length=(zu G.lines rev).length:=List.length_map ..;have h4:(jI G.all rev).length≤G.all.length:=by unfold jI;rw[KF,List.length_map];exact List.length_filter_le ..
 refine⟨_,rfl,?_⟩
 (try dsimp only)
 rw[e1,e2,wr (by omega) (by omega)];exact hk sg' w hg' (zm (zm h))
end Go.Proofs.YtimahgbgejngiaaGreatDoor
namespace Go.Proofs.YtimahgbgejngiaaGreatDoor
open Go.Dm
def z02{P:Program}{r:RT}{s:Sem Value}{k:r.T→PT}{w:World}(x:r.T)(h:s.run P w = .ok (r.val x) w)(hk:k x w):L.semR P r s k w:=⟨x,h,hk⟩
attribute [local irreducible] L.load L.store L.chk L.new L.nonnil L.guard L.ite L.draw L.idx L.sem L.semR L.semU L.chkSem L.next L.call L.callV L.join L.alts L.loop L.begin L.endRound L.range
variable {w0 w:World}{E:List Seg}
def z2q(n:Int)(w:World):(Instr.typeAssert (.iface zx (I n)) FS zc true).run Pr w = .ok (.tuple #[.string s_,.bool false]) w:=by
 have hz:=z3S w;have hz:(zeroValue zc).run Pr w = .ok (.string s_) w:=hz;simp only[Instr.typeAssert];rw[Sem.run_bind,run_underlying QG];simp only[Result.andThen_ok];rw[if_neg (by decide)];simp only[if_true];rw[Sem.run_bind,hz];rfl
def Zy(word:B0)(l:List B0):B0:=kH (word::l)
def RC{word:B0}{l:List B0}(h:∀x∈word::l,x.size≤100000000)(hl:l.length≤1000):(Zy word l).size<1000000000000:=by
 have:=tM 100000000 (word::l) h;unfold Zy;simp only[List.length_cons]at this;have e:(l.length+1)*(100000000+1)≤1001*(100000000+1):=Nat.mul_le_mul_right _ (by omega);omega
def WU:∀(k:Nat)(g:Nat),g<10 ^ (k+1)→(Lib.decDigits g).length≤k+1
 | 0,g,h=>by rw[Lib.decDigits_one (by simpa using h)];simp
 | k+1,g,h=>by
  by_cases h1:g<10
  ·rw[Lib.decDigits_one h1];simp
  ·rw[Lib.decDigits,dif_neg h1,List.length_append];have:=WU k (g/10) (by rw[Nat.div_lt_iff_lt_mul (by decide)];rw[Nat.pow_succ]at h;exact h);simp only[List.length_singleton];omega
def Lj{x:Int}(h0:0≤x)(h1:x≤9000000000000000000):(ju x.toNat).size≤100:=by
 have:=WU 18 x.toNat (by have:(10:Nat) ^ (18+1)=10000000000000000000:=by decide
                         omega)
 have e:(ju x.toNat).size=(Lib.decDigits x.toNat).length:=by rw[←Xn,eB]
 omega
def se(h:St w0 E w){word:B0}{v:Sl}{l:List B0}(r:RdE w0 E eS v l)(hl:l.length≤1000)(hs:∀x∈word::l,x.size≤100000000){k:B0→PT}(hk:∀w',St w0 E w'→k (Zy word l) w') :
  L.call Pr zQ [.string word,SlV v] (.one (.one .str)) k w:=by
 refine za (mz _ v) ?_;unfold VS;have hlen:=Rd.len (r w h);refine nw h ?_;clear h;intro b1 w h;refine zT (λq y w=>∃(j:Nat)(s1:Seg),@Eq Int y.2.1 j∧q+j=l.length∧Rw eS zc 1 y.1 (word::l.take j) s1∧St w0 (s1::E) w) l.length ⟨0,_,rfl,rfl,Rw.lit b1 [word] yh rfl rfl (by decide),h⟩ ?_;clear h;rintro q ⟨vo,y,⟨⟩⟩ w ⟨j,s1,hy,hq,r1,h⟩ again hag
 (try dsimp only)
 simp only at hy r1;subst hy;refine it (λhb=>?_) (λhb=>?_)<;>(try simp only[zB]at hb)
 ·have hj:j<l.length:=by omega
  have hx:l[j]? = some l[j]:=List.getElem?_eq_getElem hj;have et:l.take (j+1)=l.take j++[l[j]]:=by rw[List.take_succ,hx];rfl
  have rr:=r w (zm h);generalize l[j]=x at hx et;refine jd ?_;refine rr.ix yh (by omega) (by simpa using hj) λa ha=>?_;refine rr.ld0 yh ha (by simpa using hx) rfl rfl ?_;refine itT rfl ?_;refine nw h ?_;clear h;intro b8 w h;refine Rw.app yh elS h 0 rfl r1 x rfl (by simp;omega) (by simp;omega) λv' s1' w r1' h=>?_;refine hag (q-1) _ w (by omega) ⟨j+1,s1',?_,by omega,by rw[et];exact r1',h⟩;show Wi _=_;rw[wr (by omega) (by omega)];omega
 ·have e:l.take j=l:=List.take_of_length_le (by omega);rw[e]at r1;refine Lz h 0 rfl r1 (by simp;omega) (RC hs hl) λw h=>⟨_,rfl,hk w (zm h)⟩
def sj [xi w0](h:St w0 E w){word:B0}{v:Sl}{l:List Int}(r:RdE w0 E eI v l)(hl:l.length≤1000)(hw:word.size≤100000000)(hs:∀x∈l,0≤x∧x≤9000000000000000000){k:B0→PT}(hk:∀w',St w0 E w'→k (Zy word (l.map λx=>ju x.toNat)) w') :
  L.call Pr zR [.string word,SlV v] (.one (.one .str)) k w:=by
 refine za (Tz _ v) ?_;unfold Om;have hlen:=Rd.len (r w h)
 let f:Int→B0:=λx=>ju x.toNat
 refine nw h ?_;clear h;intro b1 w h;refine zT (λq y w=>∃(j:Nat)(s1:Seg),@Eq Int y.2.1 j∧q+j=l.length∧Rw eS zc 1 y.1 (word::(l.take j).map f) s1∧St w0 (s1::E) w) l.length ⟨0,_,rfl,rfl,Rw.lit b1 [word] yh rfl rfl (by decide),h⟩ ?_;clear h;rintro q ⟨vo,y,⟨⟩⟩ w ⟨j,s1,hy,hq,r1,h⟩ again hag
 (try dsimp only)
 simp only at hy r1;subst hy;refine it (λhb=>?_) (λhb=>?_)<;>(try simp only[zB]at hb)
 ·have hj:j<l.length:=by omega
  have hx:l[j]? = some l[j]:=List.getElem?_eq_getElem hj;have et:(l.take (j+1)).map f=(l.take j).map f++[f l[j]]:=by rw[List.take_succ,hx,List.map_append];rfl
  have hxs:=hs l[j] (List.getElem_mem hj);have rr:=r w (zm h);generalize l[j]=x at hx et hxs;refine jd ?_;refine rr.ix Yy (by omega) (by simpa using hj) λa ha=>?_;refine rr.ld0 Yy ha (by simpa using hx) rfl rfl ?_;refine z02 (s_,false,()) (z2q x w) ?_;refine itF rfl (itT rfl ?_);refine sH h hxs.1 (by omega) λw h=>?_;refine nw h ?_;clear h;intro b8 w h;refine Rw.app yh elS h 0 rfl r1 (f x) rfl (by simp;omega) (by simp;omega) λv' s1' w r1' h=>?_;refine hag (q-1) _ w (by omega) ⟨j+1,s1',?_,by omega,by rw[et];exact r1',h⟩;show Wi _=_;rw[wr (by omega) (by omega)];omega
 ·have e:l.take j=l:=List.take_of_length_le (by omega);rw[e]at r1;refine Lz h 0 rfl r1 (by simp;omega) (RC (λx hx=>?_) (by simpa using hl)) λw h=>⟨_,rfl,hk w (zm h)⟩;rcases List.mem_cons.1 hx with rfl | hx
  ·exact hw
  ·obtain⟨y,hy,rfl⟩:=List.mem_map.1 hx;have:=Lj (hs y hy).1 (hs y hy).2;show(ju y.toNat).size≤_;omega
end Go.Proofs.YtimahgbgejngiaaGreatDoor
namespace Go.Proofs.YtimahgbgejngiaaGreatDoor
open Go.Dm
attribute [local irreducible] L.load L.store L.chk L.new L.nonnil L.guard L.ite L.draw L.idx L.sem L.semR L.semU L.chkSem L.next L.call L.callV L.join L.alts L.loop L.begin L.endRound L.range
variable {w0 w:World}{E:List Seg}
def af(e:Int):B0:=
 if e=0 then z4Y else if e=1 then EZ else if e=2 then z1T else if e=3 then hO else if e=4 then z1R else if e=5 then th else if e=6 then EY else if e≤6 then Di
 else if e=7 then Au else if e=8 then Ha else if e=9 then At else if e=10 then z1S else if e=11 then hI else if e=12 then hU else Di
def HN{c:Prop}[Decidable c]{a b:B0}{n:Nat}(h1:a.size≤n)(h2:b.size≤n):(if c then a else b).size≤n:=by split<;>assumption
def z0E(e:Int):(af e).size≤100:=by
 unfold af
 repeat' (first | (show ByteArray.size _≤_;decide) | apply HN)
def sD{e:Int}{k:B0→PT}(hk:k (af e) w):L.call Pr xL [I e] (.one (.one .str)) k w:=by
 refine za (TH e) ?_;unfold Ov;unfold af at hk;refine it (λh1=>?_) (λh1=>?_)
 ·have h1:e≤6:=by simpa using h1
  refine za (Ba e) ?_;unfold du
  repeat' (first | refine it (λhc=>?_) (λhc=>?_))
  all_goals refine⟨_,rfl,_,rfl,?_⟩
  all_goals exact eqk hk (by clear hk;simp_all)
 ·have h1:¬e≤6:=by simpa using h1
  refine za (Ad e) ?_;unfold Nu;have n0:¬e=0:=by omega
  have n1:¬e=1:=by omega
  have n2:¬e=2:=by omega
  have n3:¬e=3:=by omega
  have n4:¬e=4:=by omega
  have n5:¬e=5:=by omega
  have n6:¬e=6:=by omega
  rw[if_neg n0,if_neg n1,if_neg n2,if_neg n3,if_neg n4,if_neg n5,if_neg n6,if_neg h1]at hk
  repeat' (first | refine it (λhc=>?_) (λhc=>?_))
  all_goals refine⟨_,rfl,_,rfl,?_⟩
  all_goals exact eqk hk (by clear hk;simp_all)
def vf{b:Nat}{x word:B0}(h:St w0 ([Cl b zc [.string x]]::E) w)(h1:word.size≤100000000)(h2:x.size≤100000000){k:B0→PT}(hk:∀w',St w0 E w'→k (Zy word [x]) w') :
  L.call Pr zQ [.string word,.slice (some ⟨b,0,none⟩) 1 1] (.one (.one .str)) k w:=
 se (v:=⟨some ⟨b,0,none⟩,1,1⟩) (l:=[x]) h (Rw.re yh 0 rfl (Rw.lit b [x] yh rfl rfl (by decide))) (by simp) (λy hy=>by
  rcases List.mem_cons.1 hy with rfl | hy
  ·exact h1
  ·rw[List.mem_singleton.1 hy];exact h2) λw h=>hk w (zm h)
def z2I{b:Nat}{x y word:B0}(h:St w0 ([Cl b zc [.string x,.string y]]::E) w)(h1:word.size≤100000000)(h2:x.size≤100000000)(h3:y.size≤100000000){k:B0→PT}(hk:∀w',St w0 E w'→k (Zy word [x,y]) w') :
  L.call Pr zQ [.string word,.slice (some ⟨b,0,none⟩) 2 2] (.one (.one .str)) k w:=
 se (v:=⟨some ⟨b,0,none⟩,2,2⟩) (l:=[x,y]) h (Rw.re yh 0 rfl (Rw.lit b [x,y] yh rfl rfl (by decide))) (by simp) (λz hz=>by
  rcases List.mem_cons.1 hz with rfl | hz
  ·exact h1
  ·rcases List.mem_cons.1 hz with rfl | hz
   ·exact h2
   ·rw[List.mem_singleton.1 hz];exact h3) λw h=>hk w (zm h)
def Qj [xi w0]{b:Nat}{x:Int}{word:B0}(h:St w0 ([Cl b zx [I x]]::E) w)(h1:word.size≤100000000)(h0:0≤x)(h2:x≤9000000000000000000){k:B0→PT}(hk:∀w',St w0 E w'→k (Zy word [ju x.toNat]) w') :
  L.call Pr zR [.string word,.slice (some ⟨b,0,none⟩) 1 1] (.one (.one .str)) k w:=
 sj (v:=⟨some ⟨b,0,none⟩,1,1⟩) (l:=[x]) h (Rw.re Yy 0 rfl (Rw.lit b [x] Yy rfl rfl (by decide))) (by simp) h1 (λy hy=>by rw[List.mem_singleton.1 hy];exact⟨h0,h2⟩) λw h=>hk w (zm h)
def z2J [xi w0]{b:Nat}{x y:Int}{word:B0}(h:St w0 ([Cl b zx [I x,I y]]::E) w)(h1:word.size≤100000000)(h0:0≤x∧x≤9000000000000000000)(h2:0≤y∧y≤9000000000000000000){k:B0→PT}(hk:∀w',St w0 E w'→k (Zy word [ju x.toNat,ju y.toNat]) w') :
  L.call Pr zR [.string word,.slice (some ⟨b,0,none⟩) 2 2] (.one (.one .str)) k w:=
 sj (v:=⟨some ⟨b,0,none⟩,2,2⟩) (l:=[x,y]) h (Rw.re Yy 0 rfl (Rw.lit b [x,y] Yy rfl rfl (by decide))) (by simp) h1 (λz hz=>by
  rcases List.mem_cons.1 hz with rfl | hz
  ·exact h0
  ·rw[List.mem_singleton.1 hz];exact h2) λw h=>hk w (zm h)
def Xo(e:Int):List B0:=[Zy Uo [af e]]
def XD(h:St w0 E w){e:Int}{k:Sl→PT}(hk:∀v s' w',Rw eS zc 1 v (Xo e) s'→St w0 (s'::E) w'→k v w'):L.call Pr ZZ [I e] (.one (.one .slice)) k w:=by
 refine za (cY e) ?_;unfold gJ;refine sD ?_;refine nw h ?_;clear h;intro b2 w h;refine vf h (by decide) (by have:=z0E e;omega) λw h=>?_;refine nw h ?_;clear h;intro b4 w h;exact⟨⟨some ⟨b4,0,none⟩,1,1⟩,rfl,hk _ _ w (Rw.lit b4 [_] yh rfl rfl (by decide)) h⟩
def Vc{word x:B0}:(Zy word [x]).size=word.size+1+x.size:=by
 unfold Zy;rw[nA,WD,ByteArray.size_append,ByteArray.size_append];rfl
def Hl(word name:B0)(ver no:Int):List B0:=if no=0 then [Zy (Zy word [name]) [ju ver.toNat]]else Xo no
def z2d [xi w0](h:St w0 E w){word name:B0}{ver no:Int}(h1:word.size≤1000)(h2:name.size≤1000000)(h3:0≤ver∧ver≤9000000000000000000){k:Sl→PT}(hk:∀v s' w',Rw eS zc 1 v (Hl word name ver no) s'→St w0 (s'::E) w'→k v w') :
  L.call Pr Kh [.string word,.string name,I ver,I no] (.one (.one .slice)) k w:=by
 refine za (LJ _ _ _ _) ?_;unfold Tl;unfold Hl at hk;refine it (λhc=>?_) (λhc=>?_)
 ·have hc:¬no=0:=by simpa using hc
  rw[if_neg hc]at hk;exact XD h λv s w r h=>⟨v,rfl,hk v s w r h⟩
 ·have hc:no=0:=by simpa using hc
  rw[if_pos hc]at hk;refine nw h ?_;clear h;intro b2 w h;refine vf h (by omega) (by omega) λw h=>?_;refine nw h ?_;clear h;intro b4 w h;refine Qj h (by rw[Vc];omega) h3.1 h3.2 λw h=>?_;refine nw h ?_;clear h;intro b6 w h;exact⟨⟨some ⟨b6,0,none⟩,1,1⟩,rfl,hk _ _ w (Rw.lit b6 [_] yh rfl rfl (by decide)) h⟩
def XL(f:yr):B0:=
 if f.2.1=1 then Zy By [ju (@id Int f.1).toNat,ju (@id Int f.2.2.1).toNat]else if f.2.1=2 then Zy Ar [ju (@id Int f.1).toNat]else if f.2.1=3 then Zy Bz [ju (@id Int f.1).toNat]
 else Zy (Zy Uo [ju (@id Int f.1).toNat]) [f.2.2.2.1]
structure yr.Ok(f:yr):Prop where
 id:0≤@id Int f.1∧@id Int f.1≤9000000000000000000
 pod:0≤@_root_.id Int f.2.2.1∧@_root_.id Int f.2.2.1≤9000000000000000000
 why:f.2.2.2.1.size≤1000
def z3z [xi w0](h:St w0 E w){f:yr}(ok:f.Ok){k:B0→PT}(hk:∀w',St w0 E w'→k (XL f) w'):L.call Pr OK [.agg f.cells.toArray] (.one (.one .str)) k w:=by
 obtain⟨fi,fw,fp,fy,⟨⟩⟩:=f;obtain⟨o1,o2,o3⟩:=ok;simp only[id]at o1 o2;refine za (wn (fi,fw,fp,fy,())) ?_;unfold pg;unfold XL at hk;refine nw h ?_;clear h;intro b1 w h
 (dsimp only[zd,List.cons_append,List.nil_append]at h;refine ldC h ?_)
 refine it (λh1=>?_) (λh1=>?_)
 ·rw[if_pos (by simpa using h1)]at hk
  (refine ldC h ?_;refine ldC h ?_)
  refine nw h ?_;clear h;intro b5 w h;exact z2J h (by decide) o1 o2 λw h=>⟨_,rfl,hk w (zm h)⟩
 rw[if_neg (by simpa using h1)]at hk;refine it (λh2=>?_) (λh2=>?_)
 ·rw[if_pos (by simpa using h2)]at hk
  (refine ldC h ?_)
  refine nw h ?_;clear h;intro b5 w h;exact Qj h (by decide) o1.1 o1.2 λw h=>⟨_,rfl,hk w (zm h)⟩
 rw[if_neg (by simpa using h2)]at hk;refine it (λh3=>?_) (λh3=>?_)
 ·rw[if_pos (by simpa using h3)]at hk
  (refine ldC h ?_)
  refine nw h ?_;clear h;intro b5 w h;exact Qj h (by decide) o1.1 o1.2 λw h=>⟨_,rfl,hk w (zm h)⟩
 rw[if_neg (by simpa using h3)]at hk;have hd:=Lj o1.1 o1.2;have hb:(Zy Uo [ju (@id Int fi).toNat]).size≤100000000:=by rw[Vc];have:Uo.size=7:=rfl;simp only[id];omega
 dsimp only at o3;refine jd ?_
 (refine dr h ?_;clear h;intro w h;refine ldC h ?_;refine ldC h ?_)
 refine kI ?_ ?_
 ·refine nw h ?_;clear h;intro b17 w h
  (refine ckC h ?_)
  refine kI ?_ ?_
  ·refine Qj h (by decide) o1.1 o1.2 λw h=>?_
   (refine ckC h ?_)
   refine nw h ?_;clear h;intro b19 w h
   (refine ckC h ?_)
   exact vf h hb (by omega) λw h=>⟨_,rfl,hk w (zm h)⟩
  ·refine nw h ?_;clear h;intro b21 w h
   (refine ckC h ?_)
   have h:=yO h;refine Qj h (by decide) o1.1 o1.2 λw h=>?_
   (refine ckC h ?_)
   exact vf h hb (by omega) λw h=>⟨_,rfl,hk w (zm h)⟩
 ·refine nw h ?_;clear h;intro b24 w h
  (refine ckC h ?_)
  refine nw h ?_;clear h;intro b25 w h
  (refine ckC h ?_)
  refine Qj h (by decide) o1.1 o1.2 λw h=>?_
  (refine ckC h ?_)
  exact vf h hb (by omega) λw h=>⟨_,rfl,hk w (zm h)⟩
def z0Y [xi w0]{c:Nat}{v:Sl}{fs:List yr}{sv:Seg}(hr:Rw yr.cells zD 4 v fs sv)(hok:∀f∈fs,f.Ok)(hn:fs.length<1000000000) :
  wb Pr w0 [[Cl c zI [SlV v]],sv] (.func (.func Xq) #[] #[.pointer (some ⟨c,0,none⟩)]) (fs.map XL).length λi=>TV _ (z3c (fs.map XL) i):=by
 intro yv R J Jd G w h hJ step fin fin2;refine⟨cR,cZ yv ⟨c,0,none⟩ ?_⟩;unfold gL;have h:St w0 ([Cl c zI [SlV v]]::sv::G) w:=h;have hlen:=Rw.len GJ hr
 (refine ldC h ?_)
 refine zT (λq y w=>∃(j:Nat)(G:List Seg),@Eq Int y.1 j∧q+j=fs.length∧J j G∧St w0 ([Cl c zI [SlV v]]::sv::G) w) fs.length ⟨0,G,rfl,rfl,hJ,h⟩ ?_;clear hJ;clear h;rintro q ⟨y,⟨⟩⟩ w ⟨j,G,hy,hq,hJ,h⟩ again hag
 (try dsimp only)
 simp only at hy;subst hy;refine it (λhb=>?_) (λhb=>?_)<;>(try simp only[zB]at hb)
 ·have hj:j<fs.length:=by omega
  have hx:fs[j]? = some fs[j]:=List.getElem?_eq_getElem hj;have ho:=hok fs[j] (List.getElem_mem hj);generalize fs[j]=x at hx ho;have next:∀{G w},J (j+1) G→St w0 ([Cl c zI [SlV v]]::sv::G) w→again (Wi ((j:Int)+1),()) w:=by
   intro G w hJ h;refine hag (q-1) _ w (by omega) ⟨j+1,G,?_,by omega,hJ,h⟩;show Wi _=_;rw[wr (by omega) (by omega)];omega
  refine Rw.ix GJ hr (by omega) (by simpa using hj) λa ha=>?_;refine Rw.lda GJ h 1 rfl hr ha (x:=x) (by simpa using hx) rfl ?_;refine nw h ?_;clear h;intro b6 w h
  (refine stC h ?_;clear h;intro w h;dsimp only[zJ,zd]at h;refine laC h ?_)
  refine z3z (f:=x) h ho λw h=>?_;have h:=zm h;have hat:(fs.map XL)[j]? = some (XL x):=by rw[List.getElem?_map,hx];rfl
  have step:=step j G [] w (by simpa using hj) hJ (by simpa using h);simp only[AS hat]at step;refine cv (Jw.mono step λu w' hu=>?_);rcases hu with ⟨rfl,G',h,hJ⟩ | ⟨rfl,hd⟩
  ·exact⟨true,rfl,itF rfl (next hJ (by simpa using h))⟩
  ·exact⟨false,rfl,itT rfl (fin2 w' hd)⟩
 ·have e:j=fs.length:=by omega
  subst e;exact fin G w (by simpa using hJ) h
def cP [xi w0]{s2 sv:Seg}(h:St w0 (s2::sv::E) w){v1 v2:Sl}{fs:List yr}{l:List B0}(hr:Rw yr.cells zD 4 v1 fs sv)(hok:∀f∈fs,f.Ok)(hn:fs.length<100000000)(hl:l.length<100000000)(h2:Rw eS zc 1 v2 l s2){k:Sl→PT}
  (hk:∀v s w',Rw eS zc 1 v (l++fs.map XL) s→St w0 (s::sv::E) w'→k v w'):L.call Pr JI [SlV v1,SlV v2] (.one (.one .slice)) k w:=by
 refine za (wm v1 v2) ?_;unfold pf;refine nw h ?_;clear h;intro b1 w h;refine za (NC v1) ?_;unfold mb;refine nw h ?_;clear h;intro c w h;refine⟨⟨.func Xq,#[],#[.pointer (some ⟨c,0,none⟩)]⟩,rfl,?_⟩;have h:St w0 ([[Cl c zI [SlV v1]],sv]++([Cl b1 zj [SlV v2]]::s2::E)) w:=by
  have h:=YA (YA (ZL (ZL h)));exact h
 refine qu (z0Y hr hok (by omega)) h (λm G=>∃vv s,G = [Cl b1 zj [SlV vv]]::s::E∧Rw eS zc 1 vv (l++(fs.map XL).take m) s) (λj G=>False) ⟨v2,s2,rfl,by simpa using h2⟩ ?_ ?_ ?_
 ·rintro m G X w lv lp d R hm ⟨vv,so,rfl,hr2⟩ h hN hE;have hx:(fs.map XL)[m]? = some (fs.map XL)[m]:=List.getElem?_eq_getElem hm;have h:St w0 ([Rec lv lp .busy none]::[DfM d]::[Cl c zI [SlV v1]]::sv::[Cl b1 zj [SlV vv]]::so::(E++X)) w:=h;have et:l++(fs.map XL).take (m+1)=(l++(fs.map XL).take m)++[(fs.map XL)[m]]:=by rw[List.take_add_one,hx,Option.toList_some,List.append_assoc]
  have hlm:(l++(fs.map XL).take m).length<300000000:=by rw[List.length_append,List.length_take,List.length_map];omega
  rw[AS hx];generalize (fs.map XL)[m]=x at et hx;dsimp only
  (refine ldC h ?_)
  refine nw h ?_;clear h;intro b9 w h;refine Rw.app yh elS h 5 rfl hr2 x rfl (by omega) (by omega) λv' s' w hr' h=>?_
  (dsimp only[zd,List.cons_append,List.nil_append]at h;refine stC h ?_;clear h;intro w h;dsimp only[zJ,zd]at h)
  exact hN _ w ⟨v',s',rfl,by rw[et];exact hr'⟩ h
 ·rintro d G w ⟨vv,so,rfl,hr2⟩ h;rw[List.take_length]at hr2;have h:St w0 ([DfM d]::[Cl c zI [SlV v1]]::sv::[Cl b1 zj [SlV vv]]::so::E) w:=h;refine vC ?_
  (refine ldC h ?_)
  refine Tf h (Rw.rd yh h 4 rfl hr2) (by rw[List.length_append,List.length_map];omega) (Rw.nil0 yh hr2) λv' s' w hr' hi h=>?_
  (first | refine OF h ?_ | refine OE h ?_ | refine OD h ?_ | refine OC h ?_ | refine OB h ?_ | refine OA h ?_ | refine Oz h ?_ | refine Oy h ?_ | refine Ox h ?_ | refine Ow h ?_ | refine uv h ?_ | refine uu h ?_);clear h;intro w h
  refine⟨v',rfl,hk v' s' w hr' ?_⟩;have h:=Yf (VP (ko h));exact h
 ·rintro d j G w hf;exact hf.elim
def uz(all:jO)(q:Int):Nat:=(all.filter λp=>decide (p.2.2=q)).length
def Ea{sg:Seg}(h:St w0 (sg::E) w){b bf:Nat}{G:Ze}(hg:GtS b bf G sg){k:Int×Int×Int×Int×Unit→PT}
  (hk:∀sg' w',GtS b bf G sg'→St w0 (sg'::E) w'→k ((G.all.length:Int),(uz G.all 2:Int),(uz G.all 1:Int),(uz G.all 3:Int)+uz G.all 4,()) w') :
  L.call Pr uY [pO b] (.tup [.one (.int .i64),.one (.int .i64),.one (.int .i64),.one (.int .i64)]) k w:=by
 have ok:=hg.1;have hfew:=ok.few;refine za (Px _) ?_;unfold oC;refine MpS.new h KI KI λrM sM w hM h=>?_;have h:=yO h;obtain⟨rA,rL,c,sA,sL,Q,hr,h⟩:=tQ hg h
 (refine nn ?_;refine ldC h ?_)
 have h:=YA (Js h)
 refine Rx (kv:=KI) (vv:=Fl) unI (λ_=>rfl) z1O (λ_=>rfl) mR (lk:=.int .i64) (ev:=.agg [.str,.int .i64]) (λx=>x) (λ_=>rfl) (λx:B0×Int=>(x.1,x.2,())) (λ_=>rfl) hr.all h
  (λseen y F=>∃mm sm,MpS KI KI rM mm sm∧(∀q,(zr mm q).getD 0=((uz seen q:Nat):Int))∧F=sm::gtB b bf rA rL c G.room G.pat::[Cl c zx [I G.room]]::sL::(Q.map LnE.sg).flatten::E)
  (y0:=()) ⟨[],sM,hM,λq=>rfl,rfl⟩ ?_ ?_
 ·rintro seen id x ⟨⟩ F X w again hsl hmem hnew ⟨mm,sm,hm,hc,rfl⟩ h hN;have h:St w0 (sA::sm::(gtB b bf rA rL c G.room G.pat::[Cl c zx [I G.room]]::sL::(Q.map LnE.sg).flatten::E++X)) w:=h;refine nw h ?_;clear h;intro b16 w h
  (dsimp only[zd,List.cons_append,List.nil_append]at h;refine stC h ?_;clear h;intro w h;dsimp only[zJ,zd]at h;refine ldC h ?_)
  refine MpS.get mkI xA zi (λx:Int=>x) (λ_=>rfl) h 2 rfl hm ?_;have hcx:=hc x.2;have hle:uz seen x.2≤seen.length:=List.length_filter_le ..;have e:((zr mm x.2).map λx:Int=>x).getD 0=((uz seen x.2:Nat):Int):=by rw[←hcx];cases zr mm x.2<;>rfl
  rw[e,wr (by omega) (by omega)];refine MpS.set mkI xA h 2 rfl hm (((uz seen x.2:Nat):Int)+1) rfl λsm' w hm' h=>?_;refine hN () _ w ⟨_,sm',hm',λq=>?_,rfl⟩ (zm h);rw[ya];unfold uz;rw[List.filter_append,List.length_append];by_cases hq:x.2=q
  ·subst hq;simp[uz]
  ·rw[if_neg hq];have:=hc q;unfold uz at this;simp[hq,this]
 ·rintro seen ⟨⟩ F w hp ⟨mm,sm,hm,hc,rfl⟩ h;have hcc:∀q,uz seen q=uz G.all q:=λq=>(hp.filter _).length_eq;have hle3:uz G.all 3≤G.all.length:=List.length_filter_le ..;have hle4:uz G.all 4≤G.all.length:=List.length_filter_le ..;have eg:∀q:Int,((zr mm q).map λx:Int=>x).getD 0=((uz G.all q:Nat):Int):=λq=>by rw[←hcc,←hc q];cases zr mm q<;>rfl
  have ev:∀q:Int,((zr mm q).map KI).getD (I 0)=I ((uz G.all q:Nat):Int):=λq=>by rw[←eg q];cases zr mm q<;>rfl
  have h:St w0 (sA::sm::gtB b bf rA rL c G.room G.pat::[Cl c zx [I G.room]]::sL::(Q.map LnE.sg).flatten::E) w:=h
  (refine dr h ?_;clear h;intro w h;refine nn ?_;refine ldC h ?_)
  refine MpS.len mR h 0 rfl hr.all ?_;refine MpS.get mkI xA zi (λx:Int=>x) (λ_=>rfl) h 1 rfl hm ?_;rw[eg];refine MpS.get mkI xA zi (λx:Int=>x) (λ_=>rfl) h 1 rfl hm ?_;rw[eg];refine MpS.get mkI xA zi (λx:Int=>x) (λ_=>rfl) h 1 rfl hm ?_;rw[eg];refine MpS.get mkI xA zi (λx:Int=>x) (λ_=>rfl) h 1 rfl hm ?_;rw[eg]
  (repeat refine MpS.chk mkI xA zi h 1 rfl hm (ev _) ?_)
  rw[wr (by omega) (by omega)];have h:=Js (Js (YA (Js (Js (yO h)))));have h:=h;obtain⟨sg',hg',h⟩:=Ql ok hr h;exact⟨(_,_,_,_,()),rfl,hk sg' w hg' (Yf h)⟩
def FK(F:ze)(rev:B0)(want:Int):(qM F rev want:Int)=max 0 (min (want-ZA F.l rev) (F.room-F.l.length)):=by unfold qM;omega
def Bp(F:ze)(rev:B0)(want:Int):(xo F rev want:Int)=max 0 ((ZA F.l rev:Int)-max want 0):=by unfold xo;omega
def jJ(F:ze)(id:Int):ze×Int:=match Xd F.l id with
 | none=>(F,6)
 | some x=>({ F with l:=YJ F.l id λp=>(Yl p).1 },(Yl x.pod).2)
def z3A(h:St w0 E w)(i:Nat){b:Nat}{F:ze}{s:Seg}(hi:nth E i=some s)(hf:FlS b F s){id:Int}{k:Int→PT}
  (hk:∀s' w',FlS b (jJ F id).1 s'→St w0 (zd E i s') w'→k (jJ F id).2 w') :
  L.call Pr QO [pO b,I id] (.one (.one (.int .i64))) k w:=by
 refine z5A h i hi hf (λhn w h=>?_) (λx hx s' w hf h=>?_)
 ·have e:jJ F id=(F,6):=by unfold jJ;rw[hn]
  rw[e]at hk;exact hk s w hf (by rwa [yM hi])
 ·have e:jJ F id=({ F with l:=YJ F.l id λp=>(Yl p).1 },(Yl x.pod).2):=by unfold jJ;rw[hx]
  rw[e]at hk;exact hk s' w hf h
def tab{α:Type}(n:Nat)(f:Nat→α):List α:=(List.range n).map f
def sk(l:List Zg):List (Int×B0):=l.map λx=>(x.id,x.rev)
def Kj{l:List Zg}{id:Int}{g:YZ→YZ}{x:Zg}(h:x∈YJ l id g):∃y∈l,(y.id≠id∧x=y)∨(y.id=id∧x = { y with pod:=g y.pod }∧(g y.pod).st≠4):=by
 obtain⟨y,hy,he⟩:=List.mem_filterMap.1 h;refine⟨y,hy,?_⟩;split at he
 ·split at he
  ·cases he
  ·cases he;right;refine⟨by assumption,rfl,by assumption⟩
 ·cases he;left;exact⟨by assumption,rfl⟩
def ER{id:Int}{g:YZ→YZ}:∀{l:List Zg},(∀x∈l,x.id=id→(g x.pod).st≠4)→sk (YJ l id g)=sk l
 | [],_=>rfl
 | x::l,h=>by
  have ih:=ER (l:=l) λy hy=>h y (by simp[hy]);unfold YJ at *
  rw[List.filterMap_cons];by_cases e:x.id=id
  ·rw[if_pos e,if_neg (h x (by simp) e)];simp only[sk,List.map_cons]at *
   rw[ih]
  ·rw[if_neg e];simp only[sk,List.map_cons]at *
   rw[ih]
def z2t{l m:List Zg}(h:sk l=sk m):l.length=m.length:=by
 have:=congrArg List.length h;simpa [sk]using this
def Am(p:YZ)(q:Int):(yj p q).1.st=p.st∧(yj p q).1.conc=p.conc:=by
 unfold yj;split
 ·exact⟨rfl,rfl⟩
 ·split
  ·exact⟨rfl,rfl⟩
  ·split<;>exact⟨rfl,rfl⟩
def z01{F:ze}(ok:F.Ok)(rev:B0)(q:Int):sk (ZM F rev q).1.l=sk F.l:=by
 unfold ZM;split
 ·rfl
 ·split
  ·rfl
  ·dsimp only;refine ER λx hx _=>?_;have:=ok.live x hx;rw[(Am _ _).1];omega
def Bl{F:ze}(ok:F.Ok)(rev:B0)(q q':Int) :
  (Zu (ZM F rev q).1.l q').map (·.id)=if(ZM F rev q).2.2=true∧q'=q then some (ZM F rev q).2.1 else(Zu F.l q').map (·.id):=by
 unfold ZM;split
 ·simp
 ·rename_i hw;have hn:Zu F.l q=none:=by cases h:Zu F.l q<;>simp[h]at hw ⊢
  split
  ·simp
  ·rename_i x hp;obtain⟨hx,-,hc⟩:=gu hp;have ht:=Gp hc (xN hn x hx);have hrq:(yj x.pod q).1.reqs=Mo q x.pod.reqs:=by rw[ht]
   have hst:(yj x.pod q).1.st≠4:=by rw[(Am _ _).1];have:=ok.live x hx;omega
   simp only[true_and];rw[ok.where_upd (XA ok.pw hx) _ (λq2 h2=>by
      rw[hrq]at h2;rcases Qk.1 h2 with rfl | h2
      ·exact .inr hn
      ·exact .inl h2) (λh4=>absurd h4 hst),hrq]
   by_cases eq:q'=q
   ·subst eq;rw[if_pos rfl,if_pos (Qk.2 (.inl rfl))]
   ·rw[if_neg eq];by_cases hq2:q'∈x.pod.reqs
    ·rw[if_pos (Qk.2 (.inr hq2)),xF ok.once hx hq2];rfl
    ·rw[if_neg (λhh=>(Qk.1 hh).elim eq hq2),if_neg hq2]
def AK{F:ze}(ok:F.Ok)(q:Int):(ZU F q).1.Ok:=by
 unfold ZU;split
 ·exact ok
 ·rename_i x hw;obtain⟨hx,hq⟩:=VO hw;have hgv:=Dp hq;have:=ok.live x hx;refine ok.upd (XA ok.pw hx) _ ?_ ?_
  ·rw[hgv];simp only;split<;>omega
  ·rw[hgv];exact λq2 h2=>.inl (List.mem_of_mem_erase h2)
def BY{F:ze}(ok:F.Ok)(nd:∀x∈F.l,x.pod.reqs.Nodup)(q q':Int):(Zu (ZU F q).1.l q').map (·.id)=if q'=q then none else(Zu F.l q').map (·.id):=by
 unfold ZU;split
 ·rename_i hw;split
  ·rename_i e;subst e;rw[hw];rfl
  ·rfl
 ·rename_i x hw;obtain⟨hx,hq⟩:=VO hw;have hgv:=Dp hq;have hlv:=ok.live x hx;have hrq:(yg x.pod q).1.reqs=x.pod.reqs.erase q:=by rw[hgv]
  rw[ok.where_upd (XA ok.pw hx) (λp=>(yg p q).1) (λq2 h2=>.inl (by rw[hrq]at h2;exact List.mem_of_mem_erase h2)) (by
   rw[hgv];simp only;split
   ·rename_i h;exact λ_=>h.2
   ·intro h;omega),hrq]
  by_cases eq:q'=q
  ·subst eq;rw[if_neg (by rw[List.Nodup.mem_erase_iff (nd x hx)];simp),if_pos hq,if_pos rfl]
  ·rw[if_neg eq];by_cases h2:q'∈x.pod.reqs
   ·rw[if_pos ((List.Nodup.mem_erase_iff (nd x hx)).2 ⟨eq,h2⟩),xF ok.once hx h2];rfl
   ·rw[if_neg (λhh=>h2 (List.mem_of_mem_erase hh)),if_neg h2]
def FlS.nd{b:Nat}{F:ze}{s:Seg}(hf:FlS b F s):∀x∈F.l,x.pod.reqs.Pairwise (· < ·):=by
 obtain⟨-,_,_,_,_,_,_,L,-,-,hr,-⟩:=hf;intro x hx;rw[hr.l]at hx;obtain⟨t,ht,rfl⟩:=List.mem_map.1 hx;exact(hr.ps t ht).1.pw
def tot(rs:Nat→List Int):Nat→Nat
 | 0=>0
 | n+1=>tot rs n+(rs n).length
structure TL(n c m:Nat)(B:Int)(ready:Nat→Bool)(rs:Nat→List Int):Prop where
 len:∀i,i<n→(rs i).length≤c
 nr:∀i,i<n→ready i=false→rs i = []
 tot:tot rs n=m
 b:∀i,i<n→∀q∈rs i,1≤q∧q≤B
def TL.fresh{n c m:Nat}{B q:Int}{ready:Nat→Bool}{rs:Nat→List Int}(t:TL n c m B ready rs)(hq:B<q):∀i,i<n→q∉rs i:=λi hi h=>by have:=t.b i hi q h;omega
def gw(rev:B0)(l:List Int)(all:jO):jO:=l.foldl (λa q=>zX a q (rev,4)) all
def vB(l:List Int):List yr:=l.map λq=>(q,4,0,KC,())
def GH{rev:B0}:∀{l:List Int}{all:jO},(∀q∈l,(zr all q).isSome=true)→(gw rev l all).map (·.1)=all.map (·.1)
 | [],_,_=>rfl
 | q::l,all,h=>by
  obtain⟨v,hv⟩:=Option.isSome_iff_exists.1 (h q (by simp));have e:=QR (u:=(rev,(4:Int))) hv;refine(GH (l:=l) (all:=zX all q (rev,4)) λq2 h2=>?_).trans e;rw[ya];split
  ·rfl
  ·exact h q2 (by simp[h2])
def sY{A B:jO}(h:A.map (·.1)=B.map (·.1))(q:Int):(zr A q).isSome=(zr B q).isSome:=by
 cases ha:zr A q with
 | none=>
  have:=YE.1 ha;rw[h]at this;rw[YE.2 this]
 | some v=>
  cases hb:zr B q with
  | none=>
   have:=YE.1 hb;rw[←h]at this;rw[YE.2 this]at ha;cases ha
  | some u=>rfl
def tick1(now:Int)(k:B0)(G:Ze):Ze:={ G with all:=gw k (jc (zu G.lines k) now) G.all,lines:=zX G.lines k (gx (zu G.lines k) now) }
def UG(now:Int):List B0→Ze→List yr→Ze×List yr
 | [],G,out=>(G,out)
 | k::ks,G,out=>UG now ks (tick1 now k G) (out++vB (jc (zu G.lines k) now))
def Qm(G:Ze)(now:Int):Ze×List yr:=UG now (yZ (G.lines.map (·.1))) G []
def GWk(G:Ze):Prop:=∀x∈G.lines,∀y∈x.2,(zr G.all y.1).isSome=true
def ru{now:Int}:∀{ks:List B0}{G:Ze}{out:List yr},out.length≤(UG now ks G out).2.length
 | [],_,_=>Nat.le_refl _
 | k::ks,G,out=>by
  have:=ru (now:=now) (ks:=ks) (G:=tick1 now k G) (out:=out++vB (jc (zu G.lines k) now));simp only[UG,List.length_append]at this ⊢;omega
def GWk.line{G:Ze}(h:GWk G)(k:B0):∀y∈zu G.lines k,(zr G.all y.1).isSome=true:=by
 intro y hy;unfold zu at hy
 cases hm:zr G.lines k with
 | none=>rw[hm]at hy;simp at hy
 | some l=>rw[hm]at hy;exact h _ (yK hm) y hy
def GWk.late{G:Ze}(h:GWk G)(k:B0)(now:Int):∀q∈jc (zu G.lines k) now,(zr G.all q).isSome=true:=by
 intro q hq;obtain⟨y,hy,rfl⟩:=List.mem_map.1 hq;exact h.line k y (List.mem_filter.1 hy).1
def GWk.tick1{G:Ze}(h:GWk G)(k:B0)(now:Int):GWk (YtimahgbgejngiaaGreatDoor.tick1 now k G):=by
 intro x hx y hy;have e:=GH (rev:=k) (h.late k now);show(zr (gw k (jc (zu G.lines k) now) G.all) y.1).isSome=true;rw[sY e];rcases Zp hx with rfl | hx
 ·exact h.line k y (List.mem_filter.1 hy).1
 ·exact h x hx y hy
def Ze.Ok.tick1{G:Ze}(ok:G.Ok)(h:GWk G){k:B0}(hk:(zr G.lines k).isSome=true)(now:Int):(YtimahgbgejngiaaGreatDoor.tick1 now k G).Ok:=by
 have e:=GH (rev:=k) (h.late k now);have e2:(gw k (jc (zu G.lines k) now) G.all).length=G.all.length:=by
  have:=congrArg List.length e;simpa using this
 obtain⟨v,hv⟩:=Option.isSome_iff_exists.1 hk;refine⟨by show(gw k _ _).length<_;rw[e2];exact ok.few,ok.lo,ok.hi,λx hx=>?_,QQ ok.nd,by show((gw k _ _).map _).Nodup;rw[e];exact ok.nda,?_⟩
 ·rcases Zp hx with rfl | hx
  ·have:=Jn ok k;have:=WB (zu G.lines k) now;simp only;show _≤G.room;omega
  ·exact ok.ln x hx
 ·show(zX G.lines k _).length<_;rw[tG hv];exact ok.fl
def Cz{G:Ze}{k:B0}(hk:(zr G.lines k).isSome=true)(now:Int):(tick1 now k G).lines.map (·.1)=G.lines.map (·.1):=by
 obtain⟨v,hv⟩:=Option.isSome_iff_exists.1 hk;exact QR hv
abbrev KPt:=List (B0×Option Addr)
def z0T(m:KPt)(l:List B0)(i:Nat):TT [.one .str,.one .ptr]:=match l[i]? with | some k=>(k,(zr m k).getD none,()) | none=>(s_,none,())
def AU{m:KPt}{l:List B0}{i:Nat}{k:B0}(h:l[i]? = some k):z0T m l i=(k,(zr m k).getD none,()):=by unfold z0T;rw[h]
def z0S{m:KPt}{l:List B0}{i:Nat}{k:B0}(h:l[i]? = some k):TV _ (z0T m l i) = [.string k,.pointer ((zr m k).getD none)]:=by rw[AU h];rfl
def z3M(h:St w0 E w)(i:Nat){s:Seg}(hi:nth E i=some s){r:Nat}{m:KPt}(hm:MpS Value.string Value.pointer r m s)(hn:m.length<1000000000){k:Sl→PT}
  (hk:∀v s' w',Rw eS zc 1 v (yZ (m.map (·.1))) s'→St w0 (s'::E) w'→k v w') :
  L.call Pr yd [.map (some r)] (.one (.one .func)) (λx5=>L.call Pr ZW [.func x5.fn x5.fs x5.cs] (.one (.one .slice)) k) w:=by
 refine za (xu _) ?_;unfold Ym;have h:=h.front i hi;refine nw h ?_;clear h;intro c w h;refine⟨⟨.func zV,#[],#[.pointer (some ⟨c,0,none⟩)]⟩,rfl,?_⟩;have hY:nZ Pr w0 [[Cl c ZB [.map (some r)]],s] (.func (.func zV) #[] #[.pointer (some ⟨c,0,none⟩)]) (m.map (·.1)) Value.string:=by
  intro yv R J Jd F w h hJ step fin fin2;refine⟨JT,JU yv ⟨c,0,none⟩ ?_⟩;unfold Yg;exact Mb (kv:=Value.string) (vv:=Value.pointer) unS (λ_=>rfl) Gm (lk:=.str) (ev:=.one .ptr) (λx=>x) (λ_=>rfl) (λx:Option Addr=>x) (λ_=>rfl) J Jd hm h hJ (λseen k F X w hl hJ h=>step seen k F X w (by simpa using hl) hJ h) fin fin2
 refine VB (fv:=⟨.func zV,#[],#[.pointer (some ⟨c,0,none⟩)]⟩) hY h (by simpa using hn) λv s' w hr h=>hk v s' w hr ?_;have h:=yO h;exact St.again (i+1) (E:=s'::E) hi h
def z3h{c b bf rA rL cc:Nat}{room pat:Int}{m:KPt}{sL:Seg}(hL:MpS Value.string Value.pointer rL m sL)(hn:m.length<1000000000) :
  wb Pr w0 [[Cl c Zs [.pointer (some ⟨b,2,none⟩)]],gtB b bf rA rL cc room pat,sL]
   (.func (.func yR) #[] #[.pointer (some ⟨c,0,none⟩)]) (yZ (m.map (·.1))).length λi=>TV _ (z0T m (yZ (m.map (·.1))) i):=by
 intro yv R J Jd G w h hJ step fin fin2;refine⟨kw,ky yv ⟨c,0,none⟩ ?_⟩;unfold qr;have h:St w0 ([Cl c Zs [.pointer (some ⟨b,2,none⟩)]]::gtB b bf rA rL cc room pat::sL::G) w:=h
 (refine ldC h ?_;refine nn ?_;refine ldC h ?_)
 refine z3M h 2 rfl hL hn λv s w hrow h=>?_;have hlen:=Rw.len yh hrow;have hl:(yZ (m.map (·.1))).length<1000000000:=by rw[jp,List.length_map];exact hn
 generalize yZ (m.map (·.1))=l at *
 refine zT (λq y w=>∃(j:Nat)(G:List Seg),@Eq Int y.1 j∧q+j=l.length∧J j G∧
  St w0 (s::[Cl c Zs [.pointer (some ⟨b,2,none⟩)]]::gtB b bf rA rL cc room pat::sL::G) w) l.length ⟨0,G,rfl,rfl,hJ,h⟩ ?_
 clear hJ;clear h;rintro q ⟨y,⟨⟩⟩ w ⟨j,G,hy,hq,hJ,h⟩ again hag;simp only at hy;subst hy;refine it (λhb=>?_) (λhb=>?_)<;>(try simp only[zB]at hb)
 ·have hj:j<l.length:=by omega
  have hx:l[j]? = some l[j]:=List.getElem?_eq_getElem hj;refine Rw.ix yh hrow (by omega) (by simpa using hj) λa ha=>?_;refine Rw.ld0 yh h 0 rfl hrow ha (x:=l[j]) (by simp[hj]) rfl rfl ?_
  (refine ldC h ?_;refine nn ?_;refine ldC h ?_)
  refine MpS.get Sz Gm zln (λx:Option Addr=>x) (λ_=>rfl) h 3 rfl hL ?_;have step:=step _ G [s] w hj hJ (St.toEnd (X:=[s]) (A:=[_,_,_]) h);simp only[z0S hx]at step;simp only[Option.map_id'];refine cv (Jw.mono step λu w' hu=>?_);rcases hu with ⟨rfl,G',h,hJ⟩ | ⟨rfl,hd⟩
  ·refine⟨true,rfl,itF rfl ?_⟩;refine hag (q-1) _ w' (by omega) ⟨j+1,G',?_,by omega,hJ,St.ofEnd (X:=[s]) (A:=[_,_,_]) h⟩;show Wi _=_;rw[wr (by omega) (by omega)];omega
  ·exact⟨false,rfl,itT rfl (fin2 w' hd)⟩
 ·have e:j=l.length:=by omega
  subst e;exact fin G w hJ (zm h)
def BQ{rev:B0}{l:List Int}{j:Nat}{q:Int}{all:jO}(h:l[j]? = some q):gw rev (l.take (j+1)) all=zX (gw rev (l.take j) all) q (rev,4):=by
 unfold gw;rw[List.take_add_one,h,Option.toList_some,List.foldl_append];rfl
def BR{l:List Int}{j:Nat}{q:Int}(h:l[j]? = some q):vB (l.take (j+1))=vB (l.take j)++[(q,4,0,KC,())]:=by
 unfold vB;rw[List.take_add_one,h,Option.toList_some,List.map_append];rfl
def Ma(l:List Int):(vB l).length=l.length:=List.length_map ..
def z1C{sg:Seg}(h:St w0 (sg::E) w){b bf:Nat}{G:Ze}(hg:GtS b bf G sg)(hw:GWk G){now:Int}(ho:(Qm G now).2.length<90000000){k:Sl→PT}
  (hk:∀v sv sg' w',Rw yr.cells zD 4 v (Qm G now).2 sv→GtS b bf (Qm G now).1 sg'→St w0 (sv::sg'::E) w'→k v w') :
  L.call Pr vX [pO b,I now] (.one (.one .slice)) k w:=by
 obtain⟨ok,rA,rL,c,sA,sL,Q,hr,rfl⟩:=hg;refine za (Ce _ _) ?_;unfold gP;have h:=h.split5;refine nw h ?_;clear h;intro b1 w h;refine nw h ?_;clear h;intro b2 w h;refine nw h ?_;clear h;intro b3 w h
 (refine ldC h ?_;refine nn ?_)
 refine za (oQ _) ?_;unfold QA;refine nw h ?_;clear h;intro cc w h;refine⟨⟨.func yR,#[],#[.pointer (some ⟨cc,0,none⟩)]⟩,rfl,?_⟩;have h:=YA (Js (Xz (yO h)));have h:=h.nil;have h:=Yh (Yh (Yh (Yh h)));have h:St w0 ([[Cl cc Zs [.pointer (some ⟨b,2,none⟩)]],gtB b bf rA rL c G.room G.pat,sL]++([Cl b3 zI [SlV ⟨none,0,0⟩]]::[]::[Cl b2 zx [I now]]::[Cl b1 JM [.pointer (some ⟨b,0,none⟩)]]::[Cl c zx [I G.room]]::sA::(Q.map LnE.sg).flatten::E)) w:=h;have enm:(Q.map LnE.kp).map (·.1)=G.lines.map (·.1):=by rw[hr.abs];simp[List.map_map,Function.comp_def]
 have hn:(Q.map LnE.kp).length<1000000000:=by
  have:=congrArg List.length enm;have:=ok.fl;simp only[List.length_map]at *;omega
 have hkeys:yZ ((Q.map LnE.kp).map (·.1))=yZ (G.lines.map (·.1)):=by rw[enm]
 have hkm:∀k∈yZ ((Q.map LnE.kp).map (·.1)),k∈G.lines.map (·.1):=λk hk=>by rw[hkeys]at hk;exact vO.1 hk
 have hgt:UG now (yZ ((Q.map LnE.kp).map (·.1))) G []=Qm G now:=by rw[hkeys];rfl
 refine qu (z3h (c:=cc) (b:=b) (bf:=bf) (rA:=rA) (cc:=c) (room:=G.room) (pat:=G.pat) hr.lns hn) h
  (λm F=>∃(v:Sl)(sv sA':Seg)(Q':List LnE)(G':Ze)(out:List yr),F = [Cl b3 zI [SlV v]]::sv::[Cl b2 zx [I now]]::[Cl b1 JM [.pointer (some ⟨b,0,none⟩)]]::[Cl c zx [I G.room]]::sA'::(Q'.map LnE.sg).flatten::E∧
   Q'.map LnE.kp=Q.map LnE.kp∧(∀x∈Q',LnS x.b G.room x.l x.sg)∧G'.lines=Q'.map LnE.ka∧G'.Ok∧G'.room=G.room∧G'.pat=G.pat∧GWk G'∧MpS KI Fl rA G'.all sA'∧Rw yr.cells zD 4 v out sv∧
   UG now ((yZ ((Q.map LnE.kp).map (·.1))).drop m) G' out=Qm G now)
  (λj G=>False) ⟨_,_,sA,Q,G,[],rfl,rfl,hr.each,hr.abs,ok,rfl,rfl,hw,hr.all,Rw.nil,hgt⟩ ?_ ?_ ?_
 ·rintro m F X w lv lp d R hm ⟨v,sv,sA',Q',G',out,rfl,hkp,hQ',hln,ok',er,ep,hw',hA',hv,hT⟩ h hN hE;have hx:(yZ ((Q.map LnE.kp).map (·.1)))[m]? = some (yZ ((Q.map LnE.kp).map (·.1)))[m]:=List.getElem?_eq_getElem hm;have hdr:=List.drop_eq_getElem_cons hm;have hmem:=hkm _ (List.mem_of_getElem? hx);generalize (yZ ((Q.map LnE.kp).map (·.1)))[m]=key at hx hdr hmem;rw[AU hx];rw[hdr]at hT;have enm':G'.lines.map (·.1)=G.lines.map (·.1):=by
   rw[hln,←enm,←hkp];simp[List.map_map,Function.comp_def]
  rw[←enm',hln]at hmem;have e1:=tJ (Q:=Q') (rev:=key);have e2:=tK (Q:=Q') (rev:=key)
  cases hf:Us LnE.k Q' key with
  | none=>rw[hf]at e2;exact absurd hmem (YE.1 e2)
  | some x=>
   rw[hf]at e1 e2;simp only[Option.map_some]at e1 e2;rw[hkp]at e1;rw[e1];obtain⟨A,B,e,hxk⟩:=KX hf;subst e;rw[←hln]at e2;have hlo:zu G'.lines key=x.l:=by unfold zu;rw[e2];rfl
   have hsm:(zr G'.lines key).isSome=true:=by rw[e2];rfl
   have hll:=Jn ok' key;rw[hlo]at hll;have hhi:=ok'.hi;have h:St w0 ([Rec lv lp .busy none]::[DfM d]::[Cl cc Zs [.pointer (some ⟨b,2,none⟩)]]::gtB b bf rA rL c G.room G.pat::sL::[Cl b3 zI [SlV v]]::sv::[Cl b2 zx [I now]]::[Cl b1 JM [.pointer (some ⟨b,0,none⟩)]]::[Cl c zx [I G.room]]::sA'::((A++x::B).map LnE.sg).flatten::(E++X)) w:=h
   (refine ldC h ?_)
   have h:=nH (Xz (uA (Xz (Xz (Jo h)))));have h:=h.pick;refine z3L h 0 rfl (hQ' x (by simp)) (by omega) λv13 s' s2 w hl' hr2 h=>?_;have h:St w0 (s2::s'::((A++B).map LnE.sg).flatten::gtB b bf rA rL c G.room G.pat::sA'::[Cl b3 zI [SlV v]]::sv::[Cl b1 JM [.pointer (some ⟨b,0,none⟩)]]::[Rec lv lp .busy none]::[DfM d]::[Cl cc Zs [.pointer (some ⟨b,2,none⟩)]]::sL::[Cl b2 zx [I now]]::[Cl c zx [I G.room]]::(E++X)) w:=h;have h:=Xz (Xz (Xz (Xz (Xz h))));obtain⟨RR,hRR⟩:∃RR,RR=s'::((A++B).map LnE.sg).flatten::[Rec lv lp .busy none]::[DfM d]::[Cl cc Zs [.pointer (some ⟨b,2,none⟩)]]::sL::[Cl b2 zx [I now]]::[Cl c zx [I G.room]]::(E++X):=⟨_,rfl⟩;rw[←hRR]at h;have hge:=ru (now:=now) (ks:=(yZ ((Q.map LnE.kp).map (·.1))).drop (m+1)) (G:=tick1 now key G') (out:=out++vB (jc (zu G'.lines key) now));have hT:UG now ((yZ ((Q.map LnE.kp).map (·.1))).drop (m+1)) (tick1 now key G') (out++vB (jc (zu G'.lines key) now))=Qm G now:=hT;rw[hT,List.length_append,Ma,hlo]at hge;have hll2:=Rw.len Yy hr2
   refine zT (λq y w=>∃(j:Nat)(v:Sl)(sv sA':Seg),y=((j:Int),())∧q+j=(jc x.l now).length∧MpS KI Fl rA (gw key ((jc x.l now).take j) G'.all) sA'∧Rw yr.cells zD 4 v (out++vB ((jc x.l now).take j)) sv∧
    St w0 (gtB b bf rA rL c G.room G.pat::sA'::[Cl b3 zI [SlV v]]::sv::[Cl b1 JM [.pointer (some ⟨b,0,none⟩)]]::s2::RR) w) (jc x.l now).length
    ⟨0,v,sv,sA',rfl,rfl,hA',by simpa [vB]using hv,h⟩ ?_
   clear hA' hv;clear h;rintro q y w ⟨j,v,sv,sA',rfl,hq,hA',hv,h⟩ again hag
   (try dsimp only)
   refine it (λhb=>?_) (λhb=>?_)<;>(try simp only[zB]at hb)
   ·have hj:j<(jc x.l now).length:=by omega
    have hxj:(jc x.l now)[j]? = some (jc x.l now)[j]:=List.getElem?_eq_getElem hj;generalize (jc x.l now)[j]=id at hxj;refine rd1 (Rw.rd Yy h 5 rfl hr2) Yy (lf:=.int .i64) (λx=>x) (λx=>⟨_,rfl,rfl⟩) (by omega) hb λy' hy'=>?_;simp only[Int.toNat_natCast,hxj,Option.some.injEq]at hy';subst hy'
    (refine dr h ?_;clear h;intro w h;refine ldC h ?_;refine ldC h ?_)
    refine Ng h λw h=>?_
    (refine ckC h ?_;refine ckC h ?_)
    refine cQ (f:=(0,4,0,KC,())) hA' h λsA2 w hA2 h=>?_
    (refine ckC h ?_)
    refine nw h ?_;clear h;intro b22 w h
    (refine ckC h ?_)
    refine Rw.app (l:=out++vB ((jc x.l now).take j)) GJ elF h 3 rfl hv (id,4,0,KC,()) rfl (by rw[List.length_append,Ma,List.length_take];omega) (by rw[List.length_append,Ma,List.length_take];omega) λv' sv' w hv' h=>?_
    (dsimp only[zd,List.cons_append,List.nil_append]at h;refine stC h ?_;clear h;intro w h;dsimp only[zJ,zd]at h)
    rw[wr (by omega) (by omega)];refine hag (q-1) _ w (by omega) ⟨j+1,v',sv',sA2,by simp,by omega,?_,?_,h⟩
    ·rw[BQ hxj];exact hA2
    ·rw[BR hxj,←List.append_assoc];exact hv'
   ·have e:(jc x.l now).take j=jc x.l now:=List.take_of_length_le (by omega);rw[e]at hA' hv;subst hRR;have h:=Pc h;have h:=jB (jB h);have h:St w0 (LnE.sg ⟨x.k,x.b,gx x.l now,s'⟩::((A++B).map LnE.sg).flatten::gtB b bf rA rL c G.room G.pat::sA'::[Cl b3 zI [SlV v]]::sv::[Cl b1 JM [.pointer (some ⟨b,0,none⟩)]]::[Rec lv lp .busy none]::[DfM d]::[Cl cc Zs [.pointer (some ⟨b,2,none⟩)]]::sL::[Cl b2 zx [I now]]::[Cl c zx [I G.room]]::(E++X)) w:=h;have h:=h.place;have h:=nH (nH (nH (Jo (nH (Xz (Xz (nH (jB (nH (ZL h))))))))));have hnd:(((A++x::B).map LnE.ka).map (·.1)).Nodup:=by rw[←hln];exact ok'.nd
    refine hN _ w ⟨v,sv,sA',A++(⟨x.k,x.b,gx x.l now,s'⟩:LnE)::B,tick1 now key G',out++vB (jc (zu G'.lines key) now),rfl,?_,?_,?_,ok'.tick1 hw' hsm now,er,ep,hw'.tick1 key now,?_,?_,hT⟩ h
    ·rw[←hkp];simp
    ·intro y hy;rcases List.mem_append.1 hy with hy | hy
     ·exact hQ' y (by simp[hy])
     ·rcases List.mem_cons.1 hy with rfl | hy
      ·exact hl'
      ·exact hQ' y (by simp[hy])
    ·show zX G'.lines key (gx (zu G'.lines key) now)=_;rw[hlo];exact(cw (ls:=G'.lines) (by rw[←hln,cj e2]) hxk hnd).symm
    ·show MpS KI Fl rA (gw key (jc (zu G'.lines key) now) G'.all) sA';rw[hlo];exact hA'
    ·rw[hlo];exact hv
 ·rintro d F w ⟨v,sv,sA',Q',G',out,rfl,hkp,hQ',hln,ok',er,ep,hw',hA',hv,hT⟩ h;have h:St w0 ([DfM d]::[Cl cc Zs [.pointer (some ⟨b,2,none⟩)]]::gtB b bf rA rL c G.room G.pat::sL::[Cl b3 zI [SlV v]]::sv::[Cl b2 zx [I now]]::[Cl b1 JM [.pointer (some ⟨b,0,none⟩)]]::[Cl c zx [I G.room]]::sA'::(Q'.map LnE.sg).flatten::E) w:=h;rw[List.drop_of_length_le (Nat.le_refl _)]at hT;have hT:(G',out)=Qm G now:=hT;rw[←hT]at hk ho;refine vC ?_
  (refine ldC h ?_)
  refine Nh h (Rw.rd GJ h 5 rfl hv) (by simp only at ho;omega) (λh0=>Rw.nil_of GJ hv h0) λv' sv' w hv' h=>?_
  (first | refine OF h ?_ | refine OE h ?_ | refine OD h ?_ | refine OC h ?_ | refine OB h ?_ | refine OA h ?_ | refine Oz h ?_ | refine Oy h ?_ | refine Ox h ?_ | refine Ow h ?_ | refine uv h ?_ | refine uu h ?_);clear h;intro w h
  refine⟨v',rfl,?_⟩;have h:=jB (uA (uA (Yh (uA h))));rw[←er,←ep]at h;have h:=nX (nX (nX (nX (nX h))));obtain⟨sg,hg,h⟩:=Ql ok' (Q:=Q') ⟨hA',by rw[hkp];exact hr.lns,λx hx=>by rw[er];exact hQ' x hx,hln⟩ h;have h:=yO h;exact hk v' sv' sg w hv' hg h
 ·rintro d j F w hf;exact hf.elim
def RtE.rde{Q:List RtE}{x:RtE}(hx:x∈Q)(ok:x.ok)(i:Nat)(hi:nth E i=some (Q.map RtE.sg).flatten):RdE w0 E eT x.t.2.2.1 x.ts:=by
 obtain⟨A,B,rfl⟩:=List.append_of_mem hx;intro w h;exact Rw.rd od (St.pick (g:=RtE.sg) (h.front i hi)) 0 rfl ok
def RD{Q:List RtE}{n:B0}(h:(FJ Q n).t.is=true):FJ Q n∈Q:=by
 unfold FJ at *
 cases hf:Us RtE.k Q n with
 | none=>rw[hf]at h;cases h
 | some x=>exact List.mem_of_find?_eq_some hf
instance :DecidableEq Tgt:=inferInstanceAs (DecidableEq (B0×B0×Int×Unit))
instance :DecidableEq ARt:=λa b=>decidable_of_iff (a.name=b.name∧a.cfg=b.cfg∧a.ts=b.ts∧a.roll=b.roll) ⟨λ⟨h1,h2,h3,h4⟩=>by cases a;cases b;simp_all,λh=>by subst h;exact⟨rfl,rfl,rfl,rfl⟩⟩
def RS(t:MN)(r:ARt):Int:=if t.is=true∧t.r=r then t.gen else Wi (t.gen+1)
def Wp(m:List (B0×MN))(n:B0)(r:ARt)(ver:Int):List (B0×MN):=zX m n ⟨r,ver,RS (Kd m n) r,true⟩
def bj{Q:List RtE}(hQ:∀x∈Q,x.ts.length<1000000000)(n:B0):(FJ Q n).ts.length<1000000000:=by
 unfold FJ
 cases hf:Us RtE.k Q n with
 | none=>simp
 | some x=>exact hQ _ (List.mem_of_find?_eq_some hf)
def z3p{sv:Seg}(h:St w0 (sv::E) w)(i:Nat){b:Nat}{m:List (B0×MN)}{s:Seg}(hi:nth E i=some s)(hs:de b m s)(few:∀x∈m,x.2.r.ts.length<1000000000){n:B0}{a:ARt}{v:Sl}(hr:Rw eT zG 3 v a.ts sv){ver:Int}{k:Unit→PT}
  (hk:∀s' w',de b (Wp m n a ver) s'→St w0 (zd E i s') w'→k () w') :
  L.call Pr xc [pO b,.string n,.agg #[.string a.name,.string a.cfg,.slice v.a v.len v.cap,I a.roll],I ver] (.tup []) k w:=by
 obtain⟨r,sm,Q,hm,hQ,rfl,rfl⟩:=hs;refine za (oN _ _ (a.name,a.cfg,v,a.roll,()) _) ?_;unfold Qx;unfold Wp at hk;rw[BO]at hk;have fewQ:∀x∈Q,x.ts.length<1000000000:=λx hx=>few _ (List.mem_map_of_mem hx);have h:=h.front (i+1) hi;have h:=h.split3;have h:St w0 ([Cl b Zn [.map (some r),.func (.func Zt) #[] #[]]]::sm::(Q.map RtE.sg).flatten::sv::Zv E i) w:=h;refine nw h ?_;clear h;intro b1 w h
 (dsimp only[zd,List.cons_append,List.nil_append]at h;refine nn ?_;refine ldC h ?_)
 refine Hc h 2 rfl hm ?_;have hin:=λhh=>RD (Q:=Q) (n:=n) hh;have hfew:=bj fewQ n;generalize FJ Q n=t at hk hin hfew;refine nw h ?_;clear h;intro b5 w h
 (refine stC h ?_;clear h;intro w h;dsimp only[zJ,zd]at h)
 refine Zz (λz w=>St w0 ([Cl b5 zY [.string t.t.1,.string t.t.2.1,.slice t.t.2.2.1.a t.t.2.2.1.len t.t.2.2.1.cap,I t.t.2.2.2.1,I t.t.2.2.2.2.1,I (RS t.abs a),.bool t.t.2.2.2.2.2.2.1]]::[Cl b1 Zb (rtC a v)]::[Cl b Zn [.map (some r),.func (.func Zt) #[] #[]]]::sm::(Q.map RtE.sg).flatten::sv::Zv E i) w) (λk6 hk6=>?_) (λz w h=>?_)
 ·have more:∀{w},¬(t.abs.is=true∧t.abs.r=a)→St w0 ([Cl b5 zY [.string t.t.1,.string t.t.2.1,.slice t.t.2.2.1.a t.t.2.2.1.len t.t.2.2.1.cap,I t.t.2.2.2.1,I t.t.2.2.2.2.1,I t.t.gen,.bool t.t.2.2.2.2.2.2.1]]::[Cl b1 Zb (rtC a v)]::[Cl b Zn [.map (some r),.func (.func Zt) #[] #[]]]::sm::(Q.map RtE.sg).flatten::sv::Zv E i) w→
    L.load (.one (.int .i64)) ((⟨b5,0,none⟩:Addr).add 5) (λ(x9:Int)=>
     L.store ((⟨b5,0,none⟩:Addr).add 5) [.int .i64 (Wi (x9+1))]<| k6 (())) w:=by
   intro w hn h
   (refine ldC h ?_;refine stC h ?_;clear h;intro w h;dsimp only[zJ,zd]at h)
   refine hk6 _ w ?_;unfold RS;rw[if_neg hn];exact h
  (refine dr h ?_;clear h;intro w h;refine ldC h ?_)
  refine it (λh1=>?_) (λh1=>?_)<;>(try simp only[zB]at h1)
  ·exact more (λhh=>by have:=hh.1;simp only[RtE.abs,Thr.is]at this;rw[h1]at this;cases this) h
  ·have h1:t.t.is=true:=by simpa using h1
   have hx:=hin h1
   (refine nn ?_;refine ldC h ?_;refine laC h ?_;refine laC h ?_)
   have rr:RdE w0 ([Cl b5 zY [.string t.t.1,.string t.t.2.1,.slice t.t.2.2.1.a t.t.2.2.1.len t.t.2.2.1.cap,I t.t.2.2.2.1,I t.t.2.2.2.2.1,I t.t.2.2.2.2.2.1,.bool t.t.2.2.2.2.2.2.1]]::[Cl b1 Zb (rtC a v)]::[Cl b Zn [.map (some r),.func (.func Zt) #[] #[]]]::sm::(Q.map RtE.sg).flatten::sv::Zv E i) eT t.t.2.2.1 t.ts:=RtE.rde hx (hQ _ hx) 4 rfl;refine z1l (a:=t.abs.r) (b:=a) h rr (Rw.re od 5 rfl hr) hfew λc w hc h=>?_;refine it (λh2=>?_) (λh2=>?_)
   ·have h2:c=false:=by simpa using h2
    exact more (λhh=>by rw[hc.2 hh.2]at h2;cases h2) h
   ·have h2:c=true:=by simpa using h2
    refine hk6 _ w ?_;unfold RS;rw[if_pos ⟨h1,hc.1 h2⟩];exact h
 ·(refine dr h ?_;clear h;intro w h;refine nn ?_;refine ldC h ?_;refine laC h ?_;refine ldC h ?_)
  refine MpS.set mkS wX h 3 rfl hm (a.name,a.cfg,v,a.roll,ver,RS t.abs a,true,()) rfl λsm' w hm' h=>?_;have h:St w0 ([Cl b5 zY [.string t.t.1,.string t.t.2.1,.slice t.t.2.2.1.a t.t.2.2.1.len t.t.2.2.1.cap,I t.t.2.2.2.1,I t.t.2.2.2.2.1,I (RS t.abs a),.bool t.t.2.2.2.2.2.2.1]]::[Cl b1 Zb (rtC a v)]::[Cl b Zn [.map (some r),.func (.func Zt) #[] #[]]]::sm'::(Q.map RtE.sg).flatten::sv::Zv E i) w:=h;have h:=zm (zm h);have h:=YA (ZL (yO (yO h)));obtain⟨s',hs',h⟩:=de.put (E:=Zv E i) ⟨n,(a.name,a.cfg,v,a.roll,ver,RS t.abs a,true,()),a.ts,sv⟩ hr hQ hm' h;exact⟨(),rfl,hk s' w hs' (St.back i hi h)⟩
def z3v(h:St w0 E w)(i:Nat){r:Nat}{b:Nat}{Q:List RtE}{sm:Seg}(hi:nth E i=some ([Cl b Zn [.map (some r),.func (.func Zt) #[] #[]]]++(sm++(Q.map RtE.sg).flatten)))(hm:MpS Value.string Es r (Q.map RtE.kt) sm){n:B0}{k:SZ.T×Bool×Unit→PT}(hk:∀w',St w0 E w'→k ((FJ Q n).t,(FJ Q n).t.is,()) w') :
  L.call Pr xe [pO b,.string n] (.tup [SZ,.one .bool]) k w:=by
 refine za (oP _ _) ?_;unfold Qz;have h:=(h.front i hi).split3;refine nw h ?_;clear h;intro b1 w h
 (refine nn ?_;refine ldC h ?_)
 refine Hc h 2 rfl hm ?_;generalize FJ Q n=t at hk;refine nw h ?_;clear h;intro b5 w h
 (refine stC h ?_;clear h;intro w h;dsimp only[zJ,zd]at h;refine dr h ?_;clear h;intro w h;refine laC h ?_;refine ldC h ?_;refine stC h ?_;clear h;intro w h;dsimp only[zJ,zd]at h;refine ckC h ?_;refine laC h ?_)
 exact⟨(t.t,t.t.is,()),rfl,hk w (St.again i hi (zm (zm h)).glue3)⟩
def uQ(a:jb)(r:ARt)(ver:Int):jb×Int×Int:=
 if gg r≠0 then(a,0,gg r)else if SA (Kd a.r r.name).is (Kd a.r r.name).ver ver true≠0 then(a,0,SA (Kd a.r r.name).is (Kd a.r r.name).ver ver true)else(⟨a.m,Wp a.r r.name r (a.n+1),a.n+1⟩,a.n+1,0)
def TU{a:ARt}(h:gg a=0):a.ts.length≤6:=by
 unfold gg at h;split at h
 ·split at h
  ·split at h
   ·rename_i h3;exact h3.2
   ·cases h
  ·cases h
 ·cases h
def jb.Few(a:jb):Prop:=∀x∈a.r,x.2.r.ts.length≤6
def Ii(h:St w0 E w)(i:Nat){b:Nat}{a:jb}{s:Seg}(hi:nth E i=some s)(hs:ShS b a s)(hfew:a.Few)(hn:a.n<900000000){r:ARt}{v:Sl}(rd:RdE w0 (Zv E i) eT v r.ts)(hvc:v.len≤v.cap)(h0:v.a=none→r.ts = [])(hrv:∀t∈r.ts,VG t.1){ver:Int}{k:Int×Int×Unit→PT}
  (hk:∀s' w',ShS b (uQ a r ver).1 s'→St w0 (zd E i s') w'→k ((uQ a r ver).2.1,(uQ a r ver).2.2,()) w') :
  L.call Pr XQ [pO b,.agg #[.string r.name,.string r.cfg,.slice v.a v.len v.cap,I r.roll],I ver] (.tup [.one (.int .i64),.one (.int .i64)]) k w:=by
 have hs0:=hs;obtain⟨ok,bc,br,sc,sr,hC,hR,rfl⟩:=hs;have hlo:=ok.lo;refine za (GY _ (r.name,r.cfg,v,r.roll,()) _) ?_;unfold vu;have h:=(h.front i hi).split3;refine nw h ?_;clear h;intro b1 w h
 (dsimp only[zd,List.cons_append,List.nil_append]at h;refine laC h ?_)
 refine AW (a:=r) h (λw h=>rd w (zm (zm (zm (zm h))))) hvc hrv λw h=>?_;unfold uQ at hk;refine jd ?_;refine it (λhe=>?_) (λhe=>?_)<;>(try simp only[zB]at he)
 ·rw[if_neg (by simpa using he)]at hk;have hl6:=TU he
  (refine dr h ?_;clear h;intro w h;refine nn ?_;refine ldC h ?_;refine ldC h ?_)
  refine z3t h 3 rfl hR λw h=>?_;refine it (λhm=>?_) (λhm=>?_)<;>(try simp only[zB]at hm)
  ·rw[if_pos hm]at hk;exact⟨_,rfl,hk _ w hs0 (St.back i hi (zm h).glue3)⟩
  ·rw[if_neg (by simpa using hm)]at hk
   (refine nn ?_;refine ldC h ?_;refine nn ?_;refine stC h ?_;clear h;intro w h;dsimp only[zJ,zd]at h;refine dr h ?_;clear h;intro w h;refine nn ?_;refine ldC h ?_;refine ldC h ?_;refine laC h ?_;refine nn ?_;refine ldC h ?_)
   rw[wr (by omega) (by omega)]at h ⊢;have h:St w0 ([Cl b1 Zb (rtC r v)]::shB b bc br (a.n+1)::sc::sr::Zv E i) w:=h;refine z2e (a:=r) h (λw h=>rd w (zm (zm (zm (zm h))))) (by omega) h0 λv' sv w hrv' h=>?_
   (refine ckC h ?_;refine ckC h ?_;refine ckC h ?_)
   refine z3p (a:=r) h 3 rfl hR (λx hx=>by have:=hfew x hx;omega) hrv' λsr' w hR' h=>?_;have h:St w0 ([Cl b1 Zb (rtC r v)]::shB b bc br (a.n+1)::sc::sr'::Zv E i) w:=h
   (refine nn ?_;refine ldC h ?_)
   refine⟨(a.n+1,0,()),rfl,hk _ w ⟨⟨by simp only;omega,by simp only;omega,λx=>?_,?_,?_⟩,bc,br,sc,sr',hC,hR',rfl⟩ (St.back i hi (zm h).glue3)⟩
   ·have hx:=ok.gen x;simp only;omega
   ·have:=ok.fm;simp only;omega
   ·have:=ok.fr;have:=tH a.r r.name ⟨r,a.n+1,RS (Kd a.r r.name) r,true⟩;simp only[Wp];omega
 ·refine it (λhm=>?_) (λhm=>?_)<;>(try simp only[zB]at hm)
  ·rw[if_pos he]at hk;exact⟨_,rfl,hk _ w hs0 (St.back i hi (zm h).glue3)⟩
  ·exact(he hm).elim
def z61:ARt:=⟨s_,s_,[],0⟩
def ud(a:jb)(n:B0):ARt×Int×Bool:=if(Kd a.r n).is=true then((Kd a.r n).r,(Kd a.r n).ver,true)else(z61,0,false)
def lc(h:St w0 E w)(i:Nat){b:Nat}{a:jb}{s:Seg}(hi:nth E i=some s)(hs:ShS b a s)(hfew:a.Few){n:B0}{k:eRt.T×Int×Bool×Unit→PT}
  (hk:∀v sv w',Rw eT zG 3 v (ud a n).1.ts sv→St w0 (sv::E) w'→k (((ud a n).1.name,(ud a n).1.cfg,v,(ud a n).1.roll,()),(ud a n).2.1,(ud a n).2.2,()) w') :
  L.call Pr Xl [pO b,.string n] (.tup [eRt,.one (.int .i64),.one .bool]) k w:=by
 obtain⟨ok,bc,br,sc,sr,hC,⟨r,sm,Q,hm,hQ,hq,rfl⟩,rfl⟩:=hs;refine za (My _ _) ?_;unfold kP;unfold ud at hk;rw[hq,BO]at hk;have fewQ:∀x∈Q,x.ts.length<1000000000:=λx hx=>by
  have:=hfew x.ka (by rw[hq];exact List.mem_map_of_mem hx);have:x.ts.length≤6:=this;omega
 have h:=(h.front i hi).split3;refine nw h ?_;clear h;intro b1 w h
 (dsimp only[zd,List.cons_append,List.nil_append]at h;refine nn ?_;refine ldC h ?_)
 refine z3v h 3 rfl hm λw h=>?_;have hin:=λhh=>RD (Q:=Q) (n:=n) hh;have hlf:=bj fewQ n;generalize FJ Q n=t at hk hin hlf;refine nw h ?_;clear h;intro b5 w h
 (refine stC h ?_;clear h;intro w h;dsimp only[zJ,zd]at h)
 refine it (λhc=>?_) (λhc=>?_)<;>(try simp only[zB]at hc)
 ·(refine stC h ?_;clear h;intro w h;dsimp only[zJ,zd]at h;refine laC h ?_)
  have hc:¬t.abs.is=true:=by have:t.t.is=false:=hc;simp[RtE.abs,this]
  rw[if_neg hc]at hk;refine⟨((s_,s_,⟨none,0,0⟩,0,()),0,false,()),rfl,hk ⟨none,0,0⟩ [] w Rw.nil ?_⟩;exact(St.again i hi (zm (zm h)).glue3).nil
 ·have hc:t.t.is=true:=by simpa using hc
  have hx:=hin hc;have hca:t.abs.is=true:=hc;rw[if_pos hca]at hk
  (refine dr h ?_;clear h;intro w h;refine laC h ?_;refine ldC h ?_)
  have h:St w0 ([Cl b5 zY [.string t.t.1,.string t.t.2.1,.slice t.t.2.2.1.a t.t.2.2.1.len t.t.2.2.1.cap,I t.t.2.2.2.1,I t.t.2.2.2.2.1,I t.t.2.2.2.2.2.1,.bool t.t.2.2.2.2.2.2.1]]::[Cl b1 Zb [.string s_,.string s_,.slice none 0 0,I 0]]::shB b bc br a.n::sc::[Cl br Zn [.map (some r),.func (.func Zt) #[] #[]]]::sm::(Q.map RtE.sg).flatten::Zv E i) w:=h.eq (by simp);refine z2e (a:=t.abs.r) h (RtE.rde hx (hQ _ hx) 6 rfl) hlf (Rw.nil0 od (hQ _ hx)) λv' sv w hrv' h=>?_
  (refine ckC h ?_;refine stC h ?_;clear h;intro w h;dsimp only[zJ,zd]at h;refine ckC h ?_;refine laC h ?_)
  refine⟨((t.abs.r.name,t.abs.r.cfg,v',t.abs.r.roll,()),t.t.ver,true,()),rfl,hk v' sv w hrv' ?_⟩;have h:=Yf (Yf h);have h:St w0 ((shB b bc br a.n++(sc++([Cl br Zn [.map (some r),.func (.func Zt) #[] #[]]]++(sm++(Q.map RtE.sg).flatten))))::sv::Zv E i) w:=by
   have h:St w0 (sv::shB b bc br a.n::sc::[Cl br Zn [.map (some r),.func (.func Zt) #[] #[]]]::sm::(Q.map RtE.sg).flatten::Zv E i) w:=h;have h:=Js (Js (Js (Js (Js h))));exact h.eq (by simp)
  exact St.again (i+1) (E:=sv::E) hi h
def Bs{a:jb}(h:a.Few)(r:ARt)(ver:Int):(uQ a r ver).1.Few:=by
 unfold uQ;split
 ·exact h
 ·rename_i h1;split
  ·exact h
  ·intro x hx;simp only[Wp]at hx;rcases Zp hx with rfl | hx
   ·exact TU (by simpa using h1)
   ·exact h x hx
def sX{a:jb}(h:a.Few)(c:Cfg)(ver:Int):(VE a c ver).1.Few:=by
 unfold VE;split
 ·exact h
 ·split<;>exact h
end Go.Proofs.YtimahgbgejngiaaGreatDoor
namespace Go.Proofs.YtimahgbgejngiaaGreatDoor
open Go.Dm
variable {w0 w:World}{E:List Seg}
def gc(l:List Int)(n:Int)(r:List Value):List Value:=l.map I++I n::r
def ig{l:List Int}{n:Int}{r:List Value}(hl:l.length=60):nth (gc l n r) 60=some (I n):=by
 have:=xH (A:=l.map I) (B:=I n::r) (i:=0);rw[List.length_map,hl]at this;exact this
def z0v{l:List Int}{n:Int}{r:List Value}(hl:l.length=60)(j:Nat):nth (gc l n r) (61+j)=nth r j:=by
 have:=xH (A:=l.map I) (B:=I n::r) (i:=1+j);rw[List.length_map,hl]at this;have e:61+j=60+(1+j):=by omega
 rw[e];refine Eq.trans this ?_;rw[Nat.add_comm 1 j];rfl
def z5f{l:List Int}{n:Int}{r:List Value}{j:Nat}{x:Int}(hj:l[j]? = some x):nth (gc l n r) j=some (I x):=by
 rw[gc,uR (by have:=(List.getElem?_eq_some_iff.1 hj).1;simpa using this),zP,List.getElem?_map,hj];rfl
def ie{l:List Int}{n:Int}{r:List Value}{j:Nat}{x:Int}(hj:j<l.length):zd (gc l n r) j (I x)=gc (l.set j x) n r:=by
 rw[YG,gc,gc,List.set_append_left _ _ (by simpa using hj),List.map_set]
def ib{l:List Int}{n m:Int}{r:List Value}(hl:l.length=60):zd (gc l n r) 60 (I m)=gc l m r:=by
 rw[YG,gc,gc,List.set_append_right _ _ (by simp[hl])];simp[hl]
def RU{l:List Int}{n:Int}{r:List Value}{v:Value}(hl:l.length=60)(j:Nat):zd (gc l n r) (61+j) v=gc l n (zd r j v):=by
 rw[YG,gc,gc,YG,List.set_append_right _ _ (by simp[hl];omega)];have e:61+j-(List.map I l).length=j+1:=by simp[hl];omega
 rw[e];rfl
def aI(h:St w0 E w)(i:Nat){b T:Nat}{l:List Int}{n:Int}{r:List Value}{x:Int}(hi:nth E i=some [Cl b T (gc l n r)])(hl:l.length=60)(h0:0≤n)(hn:n<4611686018427387904){k:Unit→PT}
  (hk:∀w',St w0 (zd E i [Cl b T (gc (l.set (n.toNat%60) x) (n+1) r)]) w'→k () w'):L.call Pr Qg [pO b,I x] (.tup []) k w:=by
 refine za (mJ _ _) ?_;unfold VW;refine dr h λw h=>nn ?_;refine ld h i hi (x:=n) (ig hl) (gd (by omega) (nn ?_));have em:Int.tmod n 60=((n.toNat%60:Nat):Int):=by rw[Int.tmod_eq_emod];simp[h0];omega
 have hlt:n.toNat%60<60:=Nat.mod_lt _ (by omega);refine ix (by rw[em];omega) (by rw[em];omega) ?_;rw[em,Int.toNat_natCast,Nat.mul_one,qx,jM,Nat.zero_add];refine st1 h i hi (z5f (List.getElem?_eq_getElem (by omega))) rfl λw h=>?_;have hi2:nth (zd E i [Cl b T (zd (gc l n r) (n.toNat%60) (I x))]) i=some [Cl b T (gc (l.set (n.toNat%60) x) n r)]:=by
  rw[ie (by omega)];exact Fx hi
 refine nn (ld h i hi2 (x:=n) (ig (by simpa using hl)) (nn ?_));rw[wr (by omega) (by omega)];refine st1 h i hi2 (ig (by simpa using hl)) rfl λw h=>⟨(),rfl,hk w ?_⟩;rw[ib (by simpa using hl),gi]at h;exact h
def tz(xs:List Int):Nat:=(xs.reverse.takeWhile (· == 0)).length
structure GOk(l:List Int)(n d:Int)(xs:List Int):Prop where
 len:l.length=60
 n:n=xs.length
 pos:∀k,k<xs.length→xs.length≤k+60→l[k%60]? = xs[k]?
 idle:d=tz xs
def Ek(b:Nat)(xs:List Int)(s:Seg):Prop:=∃l n d,GOk l n d xs∧s = [Cl b Xb (gc l n [I d])]
def z1A(h:St w0 E w){k:Option Addr→PT}(hk:∀b s w',Ek b [] s→St w0 (s::E) w'→k (some ⟨b,0,none⟩) w'):L.call Pr FD [] (.one (.one .ptr)) k w:=by
 refine za bX ?_;unfold dp;refine nw h λb w h=>⟨_,rfl,hk b _ w ⟨List.replicate 60 0,0,0,⟨rfl,rfl,λk hk=>by simp at hk,rfl⟩,rfl⟩ h⟩
def IS(xs:List Int)(x:Int):tz (xs++[x])=if x=0 then tz xs+1 else 0:=by
 unfold tz;rw[List.reverse_append];by_cases h:x=0
 ·subst h;simp
 ·simp[h]
def z3X(xs:List Int):tz xs≤xs.length:=by
 unfold tz;have:=(List.takeWhile_sublist (l:=xs.reverse) (λx=>x == 0)).length_le;simpa using this
def GOk.add{l:List Int}{n d:Int}{xs:List Int}(g:GOk l n d xs)(x:Int):GOk (l.set (n.toNat%60) x) (n+1) (if x=0 then d+1 else 0) (xs++[x]):=by
 have hn:n.toNat=xs.length:=by rw[g.n];simp
 refine⟨by simpa using g.len,by rw[g.n];simp,λk hk hk2=>?_,?_⟩
 ·simp only[List.length_append,List.length_cons,List.length_nil]at hk hk2;rw[hn,List.getElem?_set];by_cases e:k=xs.length
  ·subst e;rw[if_pos rfl,if_pos (by rw[g.len];omega)];simp
  ·rw[if_neg (by omega),g.pos k (by omega) (by omega),List.getElem?_append_left (by omega)]
 ·rw[IS,g.idle];split<;>simp
def z1B(h:St w0 E w)(i:Nat){b:Nat}{xs:List Int}{s:Seg}(hi:nth E i=some s)(hg:Ek b xs s)(hn:xs.length<2305843009213693952){x:Int}{k:Unit→PT}
  (hk:∀s' w',Ek b (xs++[if 0>x then 0 else x]) s'→St w0 (zd E i s') w'→k () w'):L.call Pr UZ [pO b,I x] (.tup []) k w:=by
 obtain⟨l,n,d,g,rfl⟩:=hg;have hl:=g.len;have hn1:=g.n;have hd:=g.idle;have hz:=z3X xs;refine za (TB _ _) ?_;unfold Oo;generalize hy:(if 0>x then 0 else x)=y at *
 have hy0:0≤y:=by rw[←hy];split<;>omega
 have hl2:(l.set (n.toNat%60) y).length=60:=by simpa using hl
 refine nn (aI h i hi hl (by omega) (by omega) λw h=>?_);have hi2:=Fx (y:=[Cl b Xb (gc (l.set (n.toNat%60) y) (n+1) [I d])]) hi;refine nn (ld h i hi2 (x:=d) (z0v hl2 0) (nn ?_));rw[wr (by omega) (by omega)];refine st1 h i hi2 (z0v hl2 0) rfl λw h=>?_;have e1:zd (gc (l.set (n.toNat%60) y) (n+1) [I d]) 61 (I (d+1))=gc (l.set (n.toNat%60) y) (n+1) [I (d+1)]:=RU hl2 0;simp only[gi]at h;have h:St w0 (zd E i [Cl b Xb (gc (l.set (n.toNat%60) y) (n+1) [I (d+1)])]) w:=by rw[←e1];exact h
 have ga:=g.add y;refine it (λhb=>?_) (λhb=>?_)
 ·simp only[decide_eq_true_eq]at hb;have hi3:=Fx (y:=[Cl b Xb (gc (l.set (n.toNat%60) y) (n+1) [I (d+1)])]) hi;refine nn (st1 h i hi3 (z0v hl2 0) rfl λw h=>⟨(),rfl,hk _ w ⟨_,_,_,ga,rfl⟩ ?_⟩);have e1:zd (gc (l.set (n.toNat%60) y) (n+1) [I (d+1)]) 61 (I 0)=gc (l.set (n.toNat%60) y) (n+1) [I 0]:=RU hl2 0;simp only[gi]at h;rw[if_neg (by omega),←e1];exact h
 ·simp only[decide_eq_false_iff_not]at hb;have:y=0:=by omega
  refine⟨(),rfl,hk _ w ⟨_,_,_,ga,rfl⟩ ?_⟩;rw[if_pos this];exact h
def It(h:St w0 E w)(i:Nat){b:Nat}{xs:List Int}{s:Seg}(hi:nth E i=some s)(hg:Ek b xs s){k:Int→PT}(hk:k (tz xs) w):L.call Pr uX [pO b] (.one (.one (.int .i64))) k w:=by
 obtain⟨l,n,d,g,rfl⟩:=hg;refine za (Pu _) ?_;unfold oA;refine nn (ld h i hi (x:=d) (z0v g.len 0) ⟨d,rfl,?_⟩);rw[g.idle];exact hk
def z5T{z:Int}(h:0≤z):Int.tmod z 60=((z.toNat%60:Nat):Int):=by
 rw[Int.tmod_eq_emod_of_nonneg h];omega
def Is(h:St w0 E w){p:Option Addr}{k:FV→PT}(hk:∀c w',St w0 ([Cl c Uf [.pointer p]]::E) w'→k ⟨.func YY,#[],#[.pointer (some ⟨c,0,none⟩)]⟩ w') :
  L.call Pr qC [.pointer p] (.one (.one .func)) k w:=by
 refine za (Fe _) ?_;unfold vJ;exact nw h λc w h=>⟨_,rfl,hk c w h⟩
def eZ{c b T T2:Nat}{l:List Int}{n:Int}{r:List Value}{F:List Seg}(hl:l.length=60)(h0:0≤n)(hn:n<2305843009213693952){yv:FV}{R:Value→PT}(J:Nat→List Seg→Prop)(Jd:List Seg→Prop)
  (h:St w0 ([Cl c T2 [.pointer (some ⟨b,0,none⟩)]]::[Cl b T (gc l n r)]::F) w) (hJ:J 0 F)
  (step:∀(m:Nat) F w,(m:Int)<min 60 n→J m F→St w0 ([Cl c T2 [.pointer (some ⟨b,0,none⟩)]]::[Cl b T (gc l n r)]::F) w→∀x,l[(n-(m+1)).toNat%60]? = some x→
   Jw Pr yv.val [I x] w λv w'=>∃q F',v = .bool q∧St w0 ([Cl c T2 [.pointer (some ⟨b,0,none⟩)]]::[Cl b T (gc l n r)]::F') w'∧(q=true→J (m+1) F')∧(q=false→Jd F'))
  (fin:∀F w,J (min 60 n).toNat F∨Jd F→St w0 ([Cl c T2 [.pointer (some ⟨b,0,none⟩)]]::[Cl b T (gc l n r)]::F) w→R (.tuple #[]) w) :
  oK Pr (.func (.func YY) #[] #[.pointer (some ⟨c,0,none⟩)]) [yv.val] w R:=by
 refine⟨Gc,Gh yv ⟨c,0,none⟩ ?_⟩;unfold UB;refine zT (λq y w=>∃(m:Nat)(F:List Seg),@Eq Int y.1 (m+1)∧q+m=60∧(m:Int)≤min 60 n∧J m F∧St w0 ([Cl c T2 [.pointer (some ⟨b,0,none⟩)]]::[Cl b T (gc l n r)]::F) w) 60 ⟨0,F,rfl,rfl,by omega,hJ,h⟩ ?_;rintro q ⟨y,⟨⟩⟩ w ⟨m,F,hy,hq,hm,hJ,h⟩ again hag;simp only at hy;subst hy
 (try dsimp only)
 refine ld h 0 rfl (l:=.ptr) (x:=some ⟨b,0,none⟩) rfl (nn ?_);refine ld h 1 rfl (x:=n) (ig hl) ?_;have hmin:(if 60<n then 60 else n)=min 60 n:=by omega
 rw[hmin];refine it (λhb=>?_) (λhb=>?_)
 ·have hb:(m:Int)+1≤min 60 n:=of_decide_eq_true hb;refine dr h λw h=>?_;refine ld h 0 rfl (l:=.ptr) (x:=some ⟨b,0,none⟩) rfl ?_;refine ld h 0 rfl (l:=.ptr) (x:=some ⟨b,0,none⟩) rfl (nn ?_);refine ld h 1 rfl (x:=n) (ig hl) (gd (by omega) (nn ?_));rw[wr (by omega) (by omega)];have em:Int.tmod (n-(m+1)) 60=(((n-(m+1)).toNat%60:Nat):Int):=z5T (by omega);have hlt:(n-(m+1)).toNat%60<60:=Nat.mod_lt _ (by omega);refine ix (by rw[em];omega) (by rw[em];omega) ?_;rw[em,Int.toNat_natCast,Nat.mul_one,qx,jM,Nat.zero_add];have hx:l[(n-(m+1)).toNat%60]? = some l[(n-(m+1)).toNat%60]:=List.getElem?_eq_getElem (by omega);refine ld h 1 rfl (x:=l[(n-(m+1)).toNat%60]) (z5f hx) ?_;refine Jw.mono (step m F w (by omega) hJ h _ hx) λv w' ⟨q',F',hv,h,h1,h2⟩=>⟨q',hv,?_⟩
  cases q' with
  | true=>
   refine itF rfl (hag (q-1) _ _ (by omega) ⟨m+1,F',?_,by omega,by omega,h1 rfl,h⟩);show Wi _=_;rw[wr (by omega) (by omega)];omega
  | false=>exact itT rfl (fin F' w' (.inr (h2 rfl)) h)
 ·have hb:¬(m:Int)+1≤min 60 n:=of_decide_eq_false hb;have e:m=(min 60 n).toNat:=by omega
  exact fin F w (.inl (by rw[←e];exact hJ)) h
def oW:List Int→Int
 | []=>0
 | x::l=>x+oW l
def RL(a b:List Int):oW (a++b)=oW a+oW b:=by
 induction a with
 | nil=>simp[oW]
 | cons x a ih=>simp only[List.cons_append,oW,ih];omega
def HO(a:List Int):oW a.reverse=oW a:=by
 induction a with
 | nil=>rfl
 | cons x a ih=>rw[List.reverse_cons,RL,ih];simp only[oW];omega
def z2j(a b:Int):Wi (Wi a+b)=Wi (a+b):=by
 simp only[IntKind.wrap_i64];omega
def QY(xs:List Int)(m:Nat):Int:=oW (xs.reverse.take m)
def BS{xs:List Int}{m:Nat}{x:Int}(h:xs.reverse[m]? = some x):QY xs (m+1)=QY xs m+x:=by
 unfold QY;rw[List.take_add_one,h,RL];simp[oW]
def BT(xs:List Int)(m:Nat):QY xs m=oW (xs.drop (xs.length-m)):=by
 unfold QY;rw[List.take_reverse,HO]
def KY(xs:List Int)(p:Int):Nat:=min (min 60 xs.length) (max p 0).toNat
def GOk.back{l:List Int}{n d:Int}{xs:List Int}(g:GOk l n d xs){m:Nat}(hm:(m:Int)<min 60 n){x:Int}(hx:l[(n-(m+1)).toNat%60]? = some x):xs.reverse[m]? = some x:=by
 have hn:=g.n;have e:(n-(m+1)).toNat=xs.length-1-m:=by omega
 rw[e,g.pos _ (by omega) (by omega)]at hx;rw[List.getElem?_reverse (by omega)];exact hx
def bM(h:St w0 E w)(i:Nat){b:Nat}{xs:List Int}{s:Seg}(hi:nth E i=some s)(hg:Ek b xs s)(hn:xs.length<2305843009213693952){p:Int}{k:Int×Int×Unit→PT}
  (hk:∀w',St w0 E w'→k (Wi (QY xs (KY xs p)),((KY xs p:Nat):Int),()) w') :
  L.call Pr XU [pO b,I p] (.tup [(.one (.int .i64)),(.one (.int .i64))]) k w:=by
 obtain⟨l,n,d,g,rfl⟩:=hg;have hl:=g.len;have hn1:=g.n;refine za (Pt _ _) ?_;unfold oz;refine nw h λb1 w h=>nw h λb2 w h=>nw h λb3 w h=>nn (Is h λc w h=>?_);refine rng h λdd lv lp w h hy=>?_;have h:=h.front (i+6) (s:=[Cl b Xb (gc l n [I d])]) hi;have h:=h.front 3 rfl
 have fin:∀(st:LoopState)(m:Nat) w,m=KY xs p→St w0 ([Cl c Uf [.pointer (some ⟨b,0,none⟩)]]::[Cl b Xb (gc l n [I d])]::[DfM dd]::[Cl b3 zx [I m]]::[Cl b2 zx [I (Wi (QY xs m))]]::[Cl b1 zx [I p]]::Zv E i) w→
   (L.draw<|
    L.load (.one (.int .i64)) (⟨b2,0,none⟩) λx15=>
    L.load (.one (.int .i64)) (⟨b3,0,none⟩) λx16=>
    L.store (⟨b2,0,none⟩) [.int .i64 x15]<|
    L.chk (⟨b3,0,none⟩) [.int .i64 x16]<|
    L.store (⟨b3,0,none⟩) [.int .i64 x16]<|
    L.unmark Pr ([dd]++[])<|
    L.load (.one (.int .i64)) (⟨b2,0,none⟩) λx17=>
    L.load (.one (.int .i64)) (⟨b3,0,none⟩) λx18=>
    λw'=>∃x,(Value.tuple #[.int .i64 x17,.int .i64 x18])=RT.val (.tup [(.one (.int .i64)),(.one (.int .i64))]) x∧k x w') w:=by
  intro st m w hm h;refine dr h λw h=>?_;refine ld h 4 rfl (l:=.int .i64) (x:=Wi (QY xs m)) rfl ?_;refine ld h 3 rfl (l:=.int .i64) (x:=(m:Int)) rfl ?_;refine st1 h 4 rfl rfl rfl λw h=>?_;refine ck h 3 rfl rfl ?_;refine st1 h 3 rfl rfl rfl λw h=>?_;refine um h 2 rfl λw h=>?_;refine ld h 4 rfl (l:=.int .i64) (x:=Wi (QY xs m)) rfl ?_;refine ld h 3 rfl (l:=.int .i64) (x:=(m:Int)) rfl ?_;refine⟨(Wi (QY xs m),(m:Int),()),rfl,?_⟩;subst hm;refine hk w ?_;have h:=h.tail.front 0 rfl;have h:=h.del 1 rfl;have h:=h.del 1 rfl;have h:=h.del 1 rfl;have h:=h.del 1 rfl;have h:=St.back i hi h;rw[yM hi]at h;exact h
 refine eZ hl (by omega) (by omega) (yv:=⟨.yield lv,#[],#[]⟩)
  (λm F=>F = [Rec lv lp .ready none]::[DfM dd]::[Cl b3 zx [I m]]::[Cl b2 zx [I (Wi (QY xs m))]]::[Cl b1 zx [I p]]::Zv E i∧(m:Int)≤max p 0)
  (λF=>∃m:Nat,F = [Rec lv lp .done (some (.exit 0))]::[DfM dd]::[Cl b3 zx [I m]]::[Cl b2 zx [I (Wi (QY xs m))]]::[Cl b1 zx [I p]]::Zv E i∧(m:Int)=max p 0∧(m:Int)≤min 60 n)
  h ⟨rfl,by omega⟩ ?_ ?_
 ·rintro m F w hm ⟨rfl,hmp⟩ h x hx;have hrec:=(h.at 2 rfl).2;refine hy (x,()) .ready none w _ hrec ?_;refine bgn h 2 rfl λw h=>?_;refine ld h 4 rfl (l:=.int .i64) (x:=(m:Int)) rfl ?_;refine ld h 6 rfl (l:=.int .i64) (x:=p) rfl ?_;refine it (λhb=>?_) (λhb=>?_)
  ·have hb:(m:Int)≥p:=of_decide_eq_true hb;refine z0F h 2 rfl λw h=>⟨false,_,rfl,h,λhx=>Bool.noConfusion hx,λ_=>⟨m,rfl,?_,by omega⟩⟩;omega
  ·have hb:¬(m:Int)≥p:=of_decide_eq_false hb;refine ld h 5 rfl (l:=.int .i64) (x:=Wi (QY xs m)) rfl ?_;refine st1 h 5 rfl rfl rfl λw h=>?_;refine ld h 4 rfl (l:=.int .i64) (x:=(m:Int)) rfl ?_;refine st1 h 4 rfl rfl rfl λw h=>?_;refine SY h 2 rfl λw h=>⟨true,_,rfl,h,λ_=>⟨?_,by omega⟩,λhx=>Bool.noConfusion hx⟩;have e1:Wi ((m:Int)+1)=((m+1:Nat):Int):=by rw[wr (by omega) (by omega)];omega
   have e2:Wi (Wi (QY xs m)+x)=Wi (QY xs (m+1)):=by rw[z2j,BS (g.back hm hx)]
   (try dsimp only)
   rw[e1,e2];rfl
 ·rintro F w hF h;rcases hF with ⟨rfl,hmp⟩ | ⟨m,rfl,hmp,hmn⟩
  ·refine NX h 2 rfl (by simp) λw h=>?_;refine fin .ready _ w ?_ h;unfold KY;omega
  ·refine NX h 2 rfl (by simp) λw h=>?_;refine fin .done m w ?_ h;unfold KY;omega
end Go.Proofs.YtimahgbgejngiaaGreatDoor
namespace Go.Proofs.YtimahgbgejngiaaGreatDoor
open Go.Dm
attribute [local irreducible] L.load L.store L.chk L.new L.nonnil L.guard L.ite L.draw L.idx L.sem L.semR L.semU L.chkSem L.next L.call L.callV L.join L.alts L.loop L.begin L.endRound L.range
variable {w0 w:World}{E:List Seg}
structure OZ where
 xs:List Int
 want:Int
 left:Int
structure zK where
 sh:jb
 bk:yY
 ro:oV
 fl:ze
 gt:Ze
 by':List (B0×OZ)
 now:Int
structure BsE where
 k:B0
 b:Nat
 g:Nat
 x:OZ
 sgg:Seg
abbrev BsE.cell(x:BsE):Seg:=[Cl x.b qp [.pointer (some ⟨x.g,0,none⟩),I x.x.want,I x.x.left]]
abbrev BsE.sg(x:BsE):Seg:=x.cell++x.sgg
abbrev BsE.kp(x:BsE):B0×Option Addr:=(x.k,some ⟨x.b,0,none⟩)
abbrev BsE.ka(x:BsE):B0×OZ:=(x.k,x.x)
def BsE.ok(x:BsE):Prop:=Ek x.g x.x.xs x.sgg
structure Bls where
 s:Nat
 k:Nat
 r:Nat
 f:Nat
 g:Nat
 m:Nat
abbrev VD(b:Nat)(p:Bls)(now:Int):Seg:=[Cl b ft [.pointer (some ⟨p.s,0,none⟩),.pointer (some ⟨p.k,0,none⟩),.pointer (some ⟨p.r,0,none⟩),.pointer (some ⟨p.f,0,none⟩),.pointer (some ⟨p.g,0,none⟩),.map (some p.m),I now]]
structure z6e(a:zK)(p:Bls)(sg sf ss sk sr sm:Seg)(Q:List BsE):Prop where
 gt:GtS p.g p.f a.gt sg
 fl:FlS p.f a.fl sf
 sh:ShS p.s a.sh ss
 bk:BkS p.k a.bk sk
 ro:II p.r a.ro sr
 mp:MpS Value.string Value.pointer p.m (Q.map BsE.kp) sm
 ea:∀x∈Q,x.ok
 ab:a.by'=Q.map BsE.ka
abbrev z4X(b:Nat)(a:zK)(p:Bls)(sg sf ss sk sr sm:Seg)(Q:List BsE):Seg:=VD b p a.now++(sg++(sf++(ss++(sk++(sr++(sm++(Q.map BsE.sg).flatten))))))
def yV(b:Nat)(a:zK)(s:Seg):Prop:=∃(p:Bls)(sg sf ss sk sr sm:Seg)(Q:List BsE),z6e a p sg sf ss sk sr sm Q∧s=z4X b a p sg sf ss sk sr sm Q
def _root_.Go.Dm.St.split8{a b c d e f g i:Seg}(h:St w0 ((a++(b++(c++(d++(e++(f++(g++i)))))))::E) w):St w0 (a::b::c::d::e::f::g::i::E) w:=h.eq (by simp)
def _root_.Go.Dm.St.glue8{a b c d e f g i:Seg}(h:St w0 (a::b::c::d::e::f::g::i::E) w):St w0 ((a++(b++(c++(d++(e++(f++(g++i)))))))::E) w:=h.eq (by simp)
def jC{sv a b c d e f g j s:Seg}(i:Nat)(hi:nth E i=some s)(h:St w0 (sv::a::b::c::d::e::f::g::j::Zv E i) w):St w0 (sv::zd E i (a++(b++(c++(d++(e++(f++(g++j)))))))) w:=by
 have h:=Jo (Jo (Jo (Jo (Jo (Jo (Jo (Jo h)))))));have h:=h.glue8;exact St.back (E:=sv::E) (i+1) hi h
def TO:Pr.underlying ZJ=some (.map zc qP):=by kernel_rfl
abbrev slK(k:Sl→PT):Value→PT:=λv w'=>∃x,v=RT.val (.one (.one .slice)) x∧k x w'
abbrev Hk(w0:World)(E:List Seg)(i b:Nat)(r:zK×List B0)(k:Sl→PT):Prop:=∀v sv s' w',Rw eS zc 1 v r.2 sv→yV b r.1 s'→St w0 (sv::zd E i s') w'→k v w'
def vM(a:zK)(e:AEv):zK×List B0:=({ a with sh:=(VE a.sh e.c e.n).1 },Hl DR e.c.1 (VE a.sh e.c e.n).2.1 (VE a.sh e.c e.n).2.2)
def sU(a:jb)(c:Cfg)(ver:Int)(h0:0≤a.n)(h1:a.n<900000000):0≤(VE a c ver).2.1∧(VE a c ver).2.1≤9000000000000000000:=by
 unfold VE;split
 ·exact⟨Int.le_refl 0,by show(0:Int)≤_;decide⟩
 ·split
  ·exact⟨Int.le_refl 0,by show(0:Int)≤_;decide⟩
  ·dsimp only;omega
def bI [xi w0](h:St w0 E w)(i:Nat){b:Nat}{a:zK}{s:Seg}(hi:nth E i=some s)(hs:yV b a s){e:AEv}(hn:a.sh.n<900000000)(hsz:e.c.1.size≤1000000){k:Sl→PT}(hk:Hk w0 E i b (vM a e) k) :
  qb (some ⟨b,0,none⟩) e.t (slK k) w:=by
 obtain⟨p,sg,sf,ss,sk,sr,sm,Q,R,rfl⟩:=hs;have hlo:=R.sh.1.lo;unfold qb;have h:=(h.front i hi).split8;refine nw h ?_;clear h;intro b1 w h
 (dsimp only[zd,List.cons_append,List.nil_append]at h;refine dr h ?_;clear h;intro w h;refine nn ?_;refine ldC h ?_;refine laC h ?_;refine ldC h ?_;rw[JF])
 refine z1i (c:=e.c) h 4 rfl R.sh hn λss' w hS h=>?_;dsimp only[zd]at h
 (refine ldC h ?_)
 have hv:=sU a.sh e.c e.n hlo hn;refine z2d h (by decide) hsz hv λv sv w r h=>?_;refine⟨v,rfl,hk v sv _ w r ⟨p,sg,sf,ss',sk,sr,sm,Q,⟨R.gt,R.fl,hS,R.bk,R.ro,R.mp,R.ea,R.ab⟩,rfl⟩ ?_⟩;exact jC i hi (Yf h)
def ge(a:zK)(e:AEv):zK×List B0:=({ a with sh:=(uQ a.sh e.r e.n).1 },Hl Av e.r.name (uQ a.sh e.r e.n).2.1 (uQ a.sh e.r e.n).2.2)
def Bq(a:jb)(r:ARt)(ver:Int)(h0:0≤a.n)(h1:a.n<900000000):0≤(uQ a r ver).2.1∧(uQ a r ver).2.1≤9000000000000000000:=by
 unfold uQ;split
 ·exact⟨Int.le_refl 0,by show(0:Int)≤_;decide⟩
 ·split
  ·exact⟨Int.le_refl 0,by show(0:Int)≤_;decide⟩
  ·dsimp only;omega
def aE [xi w0](h:St w0 E w)(i:Nat){b:Nat}{a:zK}{s:Seg}(hi:nth E i=some s)(hs:yV b a s){e:AEv}(hn:a.sh.n<900000000)(hsz:e.r.name.size≤1000000)(hfew:a.sh.Few)(rd:RdE w0 (Zv E i) eT e.v e.r.ts)(hvc:e.v.len≤e.v.cap)(h0:e.v.a=none→e.r.ts = [])(hrv:∀t∈e.r.ts,VG t.1)
  {k:Sl→PT} (hk:Hk w0 E i b (ge a e) k):qG (some ⟨b,0,none⟩) e.t (slK k) w:=by
 obtain⟨p,sg,sf,ss,sk,sr,sm,Q,R,rfl⟩:=hs;have hlo:=R.sh.1.lo;unfold qG;have h:=(h.front i hi).split8;refine nw h ?_;clear h;intro b1 w h
 (dsimp only[zd,List.cons_append,List.nil_append]at h;refine dr h ?_;clear h;intro w h;refine nn ?_;refine ldC h ?_;refine laC h ?_;refine ldC h ?_;rw[JF])
 refine Ii (r:=e.r) (v:=e.v) h 4 rfl R.sh hfew hn (λw h=>?_) hvc h0 hrv λss' w hS h=>?_
 ·exact rd w (zm (zm (zm (zm (zm (zm (zm (zm h))))))))
 dsimp only[zd]at h
 (refine ldC h ?_)
 have hv:=Bq a.sh e.r e.n hlo hn;refine z2d h (by decide) hsz hv λv sv w r h=>?_;exact⟨v,rfl,hk v sv _ w r ⟨p,sg,sf,ss',sk,sr,sm,Q,⟨R.gt,R.fl,hS,R.bk,R.ro,R.mp,R.ea,R.ab⟩,rfl⟩ (jC i hi (Yf h))⟩
def Vs(a:zK)(e:AEv):zK×List B0:=
 ({ a with gt:=(Yu a.fl a.gt e.n).2.1,fl:=(Yu a.fl a.gt e.n).1 },if(Yu a.fl a.gt e.n).2.2.2≠0 then Xo (Yu a.fl a.gt e.n).2.2.2 else(Yu a.fl a.gt e.n).2.2.1.map XL)
def eW [xi w0](h:St w0 E w)(i:Nat){b:Nat}{a:zK}{s:Seg}(hi:nth E i=some s)(hs:yV b a s){e:AEv}(hfew:Jq a.fl)(hn:a.gt.all.length<80000000)(hl:a.gt.lines.length<90000000)(hf:∀f∈(Yu a.fl a.gt e.n).2.2.1,f.Ok)(hfl:(Yu a.fl a.gt e.n).2.2.1.length<100000000)
  {k:Sl→PT} (hk:Hk w0 E i b (Vs a e) k):Qt (some ⟨b,0,none⟩) e.t (slK k) w:=by
 obtain⟨p,sg,sf,ss,sk,sr,sm,Q,R,rfl⟩:=hs;unfold Qt;have h:=(h.front i hi).split8;refine nw h ?_;clear h;intro b1 w h
 (dsimp only[zd,List.cons_append,List.nil_append]at h;refine dr h ?_;clear h;intro w h;refine nn ?_;refine ldC h ?_;refine ldC h ?_)
 have h:=YA (YA h);refine z1D h R.gt R.fl hfew hn hl λv sv sg' sf' w hr hG hF h=>?_;unfold Vs at hk;refine it (λhc=>?_) (λhc=>?_)
 ·have hc:(Yu a.fl a.gt e.n).2.2.2≠0:=by simpa using hc
  rw[if_pos hc]at hk;refine XD h λv s w r h=>?_;refine⟨v,rfl,hk v s _ w r ⟨p,sg',sf',ss,sk,sr,sm,Q,⟨hG,hF,R.sh,R.bk,R.ro,R.mp,R.ea,R.ab⟩,rfl⟩ ?_⟩;have h:=Yf (ko h);have h:=YA (YA (ZL (ZL h)));exact jC i hi h
 ·have hc:¬(Yu a.fl a.gt e.n).2.2.2≠0:=by simpa using hc
  rw[if_neg hc]at hk;refine cP h.nil (l:=[]) hr hf hfl (by decide) Rw.nil λv s w r h=>?_;refine⟨v,rfl,hk v s _ w (by simpa using r) ⟨p,sg',sf',ss,sk,sr,sm,Q,⟨hG,hF,R.sh,R.bk,R.ro,R.mp,R.ea,R.ab⟩,rfl⟩ ?_⟩;have h:=Yf (ko h);have h:=YA (YA (ZL (ZL h)));exact jC i hi h
end Go.Proofs.YtimahgbgejngiaaGreatDoor
