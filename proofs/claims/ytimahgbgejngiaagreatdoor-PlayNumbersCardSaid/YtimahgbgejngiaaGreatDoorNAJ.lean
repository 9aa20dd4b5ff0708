/- What is proved on the way to a statement of the seat, pressed (text AJ). No conditions beyond those its theorems state. -/
import Derived.Test.YtimahgbgejngiaaGreatDoorNAI
set_option linter.all false
namespace Go.Proofs.YtimahgbgejngiaaGreatDoor
open Go.Dm
attribute [local irreducible] L.load L.store L.chk L.new L.nonnil L.guard L.ite L.draw L.idx L.sem L.semR L.semU L.chkSem L.next L.call L.callV L.join L.alts L.loop L.begin L.endRound L.range
variable {w0 w:World}{E:List Seg}
def Ot(h:St w0 E w){v:Sl}{l:List Int}(r:Rd w eI v l)(hn:l.length<1000000000000)(h64:v.a=none→l = []){k:Sl→PT}
  (hk:∀(v':Sl) s' w',Rw eI zp 1 v' l s'→(v'.a=none↔v.a=none)→St w0 (s'::E) w'→k v' w'):L.call Pr ZN [SlV v] (.one (.one .slice)) k w:=by
 refine za (UC _) ?_;unfold Xv;exact qD (K:=λv w'=>∃x,v=RT.val (.one (.one .slice)) x∧k x w') YI elI h r (by omega) hn h64 λv' s' w' h1 h2 h3=>⟨v',rfl,hk v' s' w' h1 h2 h3⟩
def Rw.nil_of{α:Type}{enc:α→List Value}{e size:Nat}{v:Sl}{l:List α}{s:Seg}(hE:Enc enc size)(hr:Rw enc e size v l s)(h:v.a=none):l = []:=by
 have:=Rw.len hE hr;unfold Rw at hr;generalize fl enc l=cs at hr
 cases hr with
 | nil=>simpa using this.symm
 | mk=>cases h
def HX(h:St w0 E w)(i:Nat){b:Nat}{p:js}{s:Seg}(hi:nth E i=some s)(hp:Vp b p s){k:Sl×Int×Unit→PT}
  (hk:∀v s' s2 w',Vp b (yQ p).1 s'→Rw eI zp 1 v (yQ p).2.1 s2→St w0 (s2::zd E i s') w'→k (v,(yQ p).2.2,()) w') :
  L.call Pr Un [pO b] (.tup [.one .slice,.one (.int .i64)]) k w:=by
 have hp':=hp;obtain⟨ok,r,m,sm,hm,hb,rfl⟩:=hp;refine za (DO _) ?_;unfold Fc;have h:=(h.front i hi).split
 (refine nn ?_;refine ldC h ?_)
 refine it (λhc=>?_) (λhc=>?_)<;>(try simp only[zB]at hc)
 ·have e:yQ p=(p,[],9):=by simp only[yQ];rw[if_pos hc]
  rw[e]at hk;have h:=St.back i hi h.glue;exact⟨(⟨none,0,0⟩,9,()),rfl,hk ⟨none,0,0⟩ _ [] w hp' Rw.nil (h.eq (by simp))⟩
 have e:yQ p=({ p with st:=4,reqs:=[] },p.reqs,0):=by simp only[yQ];rw[if_neg hc]
 rw[e]at hk;have hl:=hb.len;have hfew:=ok.few
 (refine nn ?_;refine ldC h ?_)
 refine z2F h 1 rfl hm (by omega) λv1 s1 w hr1 h=>?_;rw[Lh hb.2 (ok.pw.imp (λh=>by omega))]at hr1;refine Ot h (hr1.rd YI h 0 rfl) (by omega) (Rw.nil_of YI hr1) λv2 s2 w hr2 _ h=>?_;have h:=yw h;have hlen:=Rw.len YI hr2;refine zX (λq y w=>∃(j:Nat)(m:List (Int×Bool))(sm:Seg),y=((j:Int),())∧q+j=p.reqs.length∧MpS KI Value.bool r m sm∧KR m (p.reqs.drop j)∧St w0 (s2::[Cl b kM [I p.st,.map (some r),I p.conc]]::sm::Zi E i) w) p.reqs.length ⟨0,m,sm,rfl,rfl,hm,hb,h⟩ ?_;clear hm hb hp';(clear h);rintro q y w ⟨j,m,sm,rfl,hq,hm,hb,h⟩ again hag
 (try dsimp only)
 refine it (λhd=>?_) (λhd=>?_)<;>(try simp only[zB]at hd)
 ·have hj:j<p.reqs.length:=by omega
  have ed:p.reqs.drop j=p.reqs[j]::p.reqs.drop (j+1):=List.drop_eq_getElem_cons hj;refine Rw.ix YI hr2 (by omega) (by simpa using hj) λa ha=>?_;refine Rw.ld0 YI h 0 rfl hr2 ha (x:=p.reqs[j]) (by simp[hj]) rfl rfl ?_;refine nn ?_;have h:=Zm (Zm h);refine wm (pre:=[I p.st]) (o:=0) (post:=[I p.conc]) rfl hm hb h λm' sm' w hm hb h=>?_;refine hag (q-1) _ w (by omega) ⟨j+1,m',sm',?_,by omega,hm,?_,?_⟩
  ·rw[wr (by omega) (by omega)];simp
  ·rw[ed,List.erase_cons_head]at hb;exact hb
  ·have h:=Zm (yL (yL h));exact h
 ·have e:j=p.reqs.length:=by omega
  subst e;rw[List.drop_length]at hb
  (refine nn ?_;refine stC h ?_;clear h;intro w h;dsimp only[zE,zd]at h)
  refine⟨(v2,0,()),rfl,hk v2 _ s2 w ⟨⟨by simp,by simp,by simp,by simp⟩,r,m,sm,hm,hb,rfl⟩ hr2 ?_⟩;have h:=Zm (Zm h);exact St.back (i+1) (E:=s2::E) hi h.glue
structure ZJ where
 id:Int
 rev:B0
 pod:js
structure zk where
 room:Int
 last:Int
 l:List ZJ
structure zk.Ok(f:zk):Prop where
 pw:f.l.Pairwise (λx y=>x.id<y.id)
 rng:∀x∈f.l,0<x.id∧x.id≤f.last
 live:∀x∈f.l,x.pod.st=1∨x.pod.st=2∨x.pod.st=3
 once:f.l.Pairwise (λx y=>∀q∈x.pod.reqs,q∉y.pod.reqs)
 few:f.l.length<100000000
 lo:0≤f.last
 hi:f.last<4611686018427387904
abbrev Tr:=ZJ×Nat×Seg
abbrev trS(t:Tr):Seg:=t.2.2
def ent(t:Tr):Int×(B0×Option Addr):=(t.1.id,t.1.rev,some ⟨t.2.1,0,none⟩)
def qd(l:List ZJ)(id:Int):Option ZJ:=l.find? λx=>decide (x.id=id)
def yN(l:List ZJ)(q:Int):Option ZJ:=l.find? λx=>decide (q∈x.pod.reqs)
structure FlR(F:zk)(L:List Tr)(mA:List (Int×(B0×Option Addr)))(mW:List (Int×Int)):Prop where
 l:F.l=L.map (·.1)
 ps:∀t∈L,Vp t.2.1 t.1.pod t.2.2
 all:mA.Perm (L.map ent)
 wth:∀q,zA mW q=(yN F.l q).map (·.id)
abbrev flB(b:Nat)(rA rW:Nat)(F:zk):Seg:=[Cl b Mc [.map (some rA),.map (some rW),I F.room,I F.last]]
def FlS(b:Nat)(F:zk)(s:Seg):Prop:=F.Ok∧∃rA rW mA mW sA sW L,MpS KI rE rA mA sA∧MpS KI KI rW mW sW∧FlR F L mA mW∧s=flB b rA rW F++(sA++(sW++(L.map trS).flatten))
def FlR.ids{F:zk}{L:List Tr}{mA mW}(hr:FlR F L mA mW)(ok:F.Ok):L.Pairwise (λx y=>x.1.id<y.1.id):=by
 have:=ok.pw;rw[hr.l,List.pairwise_map]at this;exact this
def FlR.keys{F:zk}{L:List Tr}{mA mW}(hr:FlR F L mA mW)(ok:F.Ok):oq (mA.map (·.1))=L.map (·.1.id):=by
 refine Lh ?_ ?_
 ·have:=hr.all.map (·.1);rw[List.map_map]at this;exact this
 ·rw[List.pairwise_map];exact(hr.ids ok).imp λh=>by omega
def FlR.len{F:zk}{L:List Tr}{mA mW}(hr:FlR F L mA mW):mA.length=F.l.length:=by rw[hr.all.length_eq,hr.l];simp
def FlR.nd{F:zk}{L:List Tr}{mA mW}(hr:FlR F L mA mW)(ok:F.Ok):(mA.map (·.1)).Nodup:=by
 have:=hr.all.map (·.1);rw[List.map_map]at this;rw[this.nodup_iff];have h:=(hr.ids ok).imp (S:=λx y=>x.1.id≠y.1.id) λh=>by omega
 exact List.pairwise_map.2 h
def FlR.get{F:zk}{L:List Tr}{mA mW}(hr:FlR F L mA mW)(ok:F.Ok){t:Tr}(ht:t∈L):zA mA t.1.id=some (t.1.rev,some ⟨t.2.1,0,none⟩):=
 fF (hr.nd ok) (hr.all.mem_iff.2 (List.mem_map_of_mem (f:=ent) ht))
def FlR.get0{F:zk}{L:List Tr}{mA mW}(hr:FlR F L mA mW){id:Int}(h:qd F.l id=none):zA mA id=none:=by
 refine Yn.2 λhm=>?_;have:=(hr.all.map (·.1)).mem_iff.1 hm;rw[List.map_map]at this;obtain⟨t,ht,e⟩:=List.mem_map.1 this;have e:t.1.id=id:=e;have h2:=List.find?_eq_none.1 h t.1 (by rw[hr.l];exact List.mem_map_of_mem (f:=(·.1)) ht);simp[e]at h2
def FlR.at{F:zk}{L:List Tr}{mA mW}(hr:FlR F L mA mW){id:Int}{x:ZJ}(h:qd F.l id=some x):∃A t B,L=A++t::B∧t.1=x∧x.id=id:=by
 have h1:=List.mem_of_find?_eq_some h;have h2:=List.find?_some h;rw[hr.l]at h1;obtain⟨t,ht,rfl⟩:=List.mem_map.1 h1;obtain⟨A,B,e⟩:=List.append_of_mem ht;exact⟨A,t,B,e,rfl,by simpa using h2⟩
def z0r(h:St w0 E w){room:Int}{k:Option Addr→PT}(hk:∀b s w',FlS b ⟨room,0,[]⟩ s→St w0 (s::E) w'→k (some ⟨b,0,none⟩) w'):L.call Pr fC [I room] (.one (.one .ptr)) k w:=by
 refine za (rp _) ?_;unfold cP;refine MpS.new h KI rE λr1 s1 w hm1 h=>?_;refine MpS.new h KI KI λr2 s2 w hm2 h=>?_;refine nw h ?_;clear h;intro b w h;refine⟨_,rfl,hk b _ w ⟨⟨by simp,by simp,by simp,by simp,by simp,by simp,by simp⟩,r1,r2,[],[],s1,s2,[],hm1,hm2,⟨rfl,by simp,.refl _,λq=>rfl⟩,rfl⟩ ?_⟩;have h:=Zm (Zm (yL h));exact h.eq (by simp)
def fOf(l:List ZJ)(id:Int):B0:=((qd l id).map (·.rev)).getD s_
def z2t(h:St w0 E w)(i:Nat){b:Nat}{F:zk}{s:Seg}(hi:nth E i=some s)(hf:FlS b F s){id:Int}{k:B0→PT}(hk:k (fOf F.l id) w):L.call Pr vk [pO b,I id] (.one (.one .str)) k w:=by
 obtain⟨ok,rA,rW,mA,mW,sA,sW,L,hA,hW,hr,rfl⟩:=hf;refine za (TN _ _) ?_;unfold OL;have h:St w0 (flB b rA rW F::sA::sW::(L.map trS).flatten::Zi E i) w:=(h.front i hi).eq (by simp)
 (refine nn ?_;refine ldC h ?_)
 refine MpS.get mkI JS zo (λx:B0×Option Addr=>(x.1,x.2,())) (λ_=>rfl) h 1 rfl hA ⟨_,rfl,?_⟩;unfold fOf at hk
 cases hfd:qd F.l id with
 | none=>rw[hfd]at hk;rw[hr.get0 hfd];exact hk
 | some x=>
  obtain⟨A,t,B,hL,rfl,hid⟩:=hr.at hfd;have hg:=hr.get ok (t:=t) (by rw[hL];simp);rw[hid]at hg;rw[hfd]at hk;rw[hg];exact hk
def HZ(h:St w0 E w){p:Option Addr}{rev:B0}{k:FV→PT}(hk:∀c0 c1 w',St w0 ([Cl c1 zc [.string rev]]::[Cl c0 ZB [.pointer p]]::E) w'→
  k ⟨.func Jz,#[],#[.pointer (some ⟨c0,0,none⟩),.pointer (some ⟨c1,0,none⟩)]⟩ w'):L.call Pr Jp [.pointer p,.string rev] (.one (.one .func)) k w:=by
 refine za (TK _ _) ?_;unfold OJ;refine nw h ?_;clear h;intro c0 w h;refine nw h ?_;clear h;intro c1 w h;exact⟨_,rfl,hk c0 c1 w h⟩
def eu(l:List Tr)(m:Nat):TT [.one (.int .i64),.one .ptr]:=match l[m]? with
 | some t=>(t.1.id,some ⟨t.2.1,0,none⟩,())
 | none=>(0,none,())
abbrev XO(rev:B0)(t:Tr):Bool:=decide (t.1.rev=rev)
def HE{c0 c1 b rA rW:Nat}{F:zk}{L:List Tr}{mA mW}{sA:Seg}{rev:B0}(ok:F.Ok)(hA:MpS KI rE rA mA sA)(hr:FlR F L mA mW) :
  LL Pr w0 [[Cl c1 zc [.string rev]],[Cl c0 ZB [.pointer (some ⟨b,0,none⟩)]],flB b rA rW F,sA]
   (.func (.func Jz) #[] #[.pointer (some ⟨c0,0,none⟩),.pointer (some ⟨c1,0,none⟩)]) (L.filter (XO rev)).length λm=>TV _ (eu (L.filter (XO rev)) m):=by
 intro yv R J Jd G w h hJ step fin fin2;have hll:L.length=F.l.length:=by rw[hr.l];simp
 have hfew:=ok.few;refine⟨pg,pD yv ⟨c0,0,none⟩ ⟨c1,0,none⟩ ?_⟩;unfold KF;have h:St w0 ([Cl c1 zc [.string rev]]::[Cl c0 ZB [.pointer (some ⟨b,0,none⟩)]]::flB b rA rW F::sA::G) w:=h
 (refine ldC h ?_;refine nn ?_;refine ldC h ?_)
 refine z2E h 3 rfl hA (by rw[hr.len];omega) λv s w hrow h=>?_;rw[hr.keys ok]at hrow;have hlen:=Rw.len YI hrow;rw[List.length_map]at hlen
 refine zX (λq y w=>∃(j:Nat)(G:List Seg),@Eq Int y.1 j∧q+j=L.length∧J ((L.take j).filter (XO rev)).length G∧
  St w0 (s::[Cl c1 zc [.string rev]]::[Cl c0 ZB [.pointer (some ⟨b,0,none⟩)]]::flB b rA rW F::sA::G) w) L.length ⟨0,G,rfl,rfl,hJ,h⟩ ?_
 clear hJ;clear h;rintro q ⟨y,⟨⟩⟩ w ⟨j,G,hy,hq,hJ,h⟩ again hag;simp only at hy;subst hy;refine it (λhb=>?_) (λhb=>?_)<;>(try simp only[zB]at hb)
 ·have hj:j<L.length:=by omega
  have hx:L[j]? = some L[j]:=List.getElem?_eq_getElem hj;have hft:=NT (p:=XO rev) hx;refine ZC (λz w=>∃G,J ((L.take (j+1)).filter (XO rev)).length G∧St w0 (s::[Cl c1 zc [.string rev]]::[Cl c0 ZB [.pointer (some ⟨b,0,none⟩)]]::flB b rA rW F::sA::G) w) (λk8 hk8=>?_) (λz w ⟨G,hJ,h⟩=>?_)
  ·refine Rw.ix YI hrow (by omega) (by simpa using hj) λa ha=>?_;refine Rw.ld0 YI h 0 rfl hrow ha (x:=L[j].1.id) (by simp[hj]) rfl rfl ?_
   (refine ldC h ?_;refine nn ?_;refine ldC h ?_)
   refine MpS.get mkI JS zo (λx:B0×Option Addr=>(x.1,x.2,())) (λ_=>rfl) h 4 rfl hA ?_;rw[hr.get ok (List.getElem_mem hj)];simp only[Option.map_some,Option.getD_some];refine nw h ?_;clear h;intro b16 w h
   (refine stC h ?_;clear h;intro w h;dsimp only[zE,zd]at h;refine ldC h ?_;refine ldC h ?_)
   rw[jN];refine it (λhc=>?_) (λhc=>?_)<;>(try simp only[zB]at hc)
   ·(refine ldC h ?_)
    have h:=zj h;have hp:XO rev L[j]=true:=decide_eq_true hc;rw[if_pos hp]at hft;rw[hft]at hk8;have hat:=Bp (p:=XO rev) hx hp;have ea:TV _ (eu (L.filter (XO rev)) ((L.take j).filter (XO rev)).length) = [I L[j].1.id,.pointer (some ⟨L[j].2.1,0,none⟩)]:=by simp only[eu,hat];rfl
    have hlt:((L.take j).filter (XO rev)).length<(L.filter (XO rev)).length:=by
     rcases Nat.lt_or_ge ((L.take j).filter (XO rev)).length (L.filter (XO rev)).length with h | h
     ·exact h
     ·rw[List.getElem?_eq_none h]at hat;cases hat
    have step:=step _ G [s] w hlt hJ (St.toEnd (X:=[s]) (A:=[_,_,_,_]) h);simp only[ea]at step;refine cv (xw.mono step λu w' hu=>?_);rcases hu with ⟨rfl,G',h,hJ⟩ | ⟨rfl,hd⟩
    ·exact⟨true,rfl,itF rfl (hk8 () w' ⟨G',hJ,St.ofEnd (X:=[s]) (A:=[_,_,_,_]) h⟩)⟩
    ·exact⟨false,rfl,itT rfl (fin2 w' hd)⟩
   ·have h:=zj h;have hp:¬XO rev L[j]=true:=λe=>hc (of_decide_eq_true e);rw[if_neg hp]at hft;rw[Nat.add_zero]at hft;rw[hft]at hk8;exact hk8 () w ⟨G,hJ,h⟩
  ·refine hag (q-1) _ w (by omega) ⟨j+1,G,?_,by omega,hJ,h⟩;show Wi _=_;rw[wr (by omega) (by omega)];omega
 ·have e:j=L.length:=by omega
  subst e;rw[List.take_length]at hJ;exact fin G w hJ (zj h)
def vW(h:St w0 E w)(i:Nat){Q:List Tr}(hi:nth E i=some (Q.map trS).flatten){t:Tr}(ht:t∈Q)(hp:Vp t.2.1 t.1.pod t.2.2){k:Int→PT}(hk:k t.1.pod.st w) :
  L.call Pr yA [.pointer (some ⟨t.2.1,0,none⟩)] (.one (.one (.int .i64))) k w:=by
 obtain⟨A,B,rfl⟩:=List.append_of_mem ht;exact Ed (h.front i hi).pick 0 rfl hp hk
def PQ(h:St w0 E w)(i:Nat){Q:List Tr}(hi:nth E i=some (Q.map trS).flatten){t:Tr}(ht:t∈Q)(hp:Vp t.2.1 t.1.pod t.2.2){k:Int→PT}(hk:k t.1.pod.reqs.length w) :
  L.call Pr YS [.pointer (some ⟨t.2.1,0,none⟩)] (.one (.one (.int .i64))) k w:=by
 obtain⟨A,B,rfl⟩:=List.append_of_mem ht;exact HW (h.front i hi).pick 0 rfl hp hk
def revs(l:List ZJ)(rev:B0):List ZJ:=l.filter λx=>decide (x.rev=rev)
def FlR.revs{F:zk}{L:List Tr}{mA mW}(hr:FlR F L mA mW)(rev:B0):revs F.l rev=(L.filter (XO rev)).map (·.1):=by
 unfold YtimahgbgejngiaaGreatDoor.revs;rw[hr.l,List.filter_map];rfl
def CO{l:List Tr}{m:Nat}(hm:m<l.length):eu l m=(l[m].1.id,some ⟨l[m].2.1,0,none⟩,()):=by
 simp[eu,List.getElem?_eq_getElem hm]
def dS{L:List Tr}{rev:B0}{m:Nat}(hm:m<(L.filter (XO rev)).length):(L.filter (XO rev))[m]∈L:=(List.mem_filter.1 (List.getElem_mem hm)).1
def fH(x:ZJ):Bool:=decide (x.pod.st≠3)
def yD(l:List ZJ)(rev:B0):Nat:=((revs l rev).filter fH).length
def z2r(h:St w0 E w)(i:Nat){b:Nat}{F:zk}{s:Seg}(hi:nth E i=some s)(hf:FlS b F s){rev:B0}{k:Int→PT}(hk:∀w',St w0 E w'→k (yD F.l rev) w') :
  L.call Pr vj [pO b,.string rev] (.one (.one (.int .i64))) k w:=by
 obtain⟨ok,rA,rW,mA,mW,sA,sW,L,hA,hW,hr,rfl⟩:=hf;refine za (TH _ _) ?_;unfold OI;have hll:L.length=F.l.length:=by rw[hr.l];simp
 have hfew:=ok.few;have h:St w0 (flB b rA rW F::sA::sW::(L.map trS).flatten::Zi E i) w:=(h.front i hi).eq (by simp);refine nw h ?_;clear h;intro b1 w h
 (refine stC h ?_;clear h;intro w h;dsimp only[zE,zd]at h)
 refine HZ h λc0 c1 w h=>?_;have h:=Ys (Ys (yM (yM h)));refine qZ (A:=[_,_,_,_]) (HE ok hA hr) h (λm G=>G = [Cl b1 zp [I ((((L.filter (XO rev)).take m).filter λt=>fH t.1).length:Nat)]]::sW::(L.map trS).flatten::Zi E i) (λj G=>False) rfl ?_ ?_ ?_
 ·rintro m G X w lv lp d R hm rfl h hN hE;have hx:=List.getElem?_eq_getElem hm;have hft:=NT (p:=λt:Tr=>fH t.1) hx;have hlt:=List.length_filter_le (XO rev) L;have hl2:=List.length_filter_le (λt:Tr=>fH t.1) ((L.filter (XO rev)).take m);rw[List.length_take]at hl2;have h:St w0 ([Rec lv lp .busy none]::[DfM d]::[Cl c1 zc [.string rev]]::[Cl c0 ZB [.pointer (some ⟨b,0,none⟩)]]::flB b rA rW F::sA::[Cl b1 zp [I ((((L.filter (XO rev)).take m).filter λt=>fH t.1).length:Nat)]]::sW::(L.map trS).flatten::(Zi E i++X)) w:=h;rw[CO hm]
  (try dsimp only)
  refine vW h 8 rfl (dS hm) (hr.ps _ (dS hm)) ?_;refine it (λhc=>?_) (λhc=>?_)<;>(try simp only[zB]at hc)
  ·have hp:fH (L.filter (XO rev))[m].1=true:=decide_eq_true hc;rw[if_pos hp]at hft
   (refine ldC h ?_;refine stC h ?_;clear h;intro w h;dsimp only[zE,zd]at h)
   rw[wr (by omega) (by omega)]at h;refine hN _ w rfl ?_;rw[hft];exact h
  ·have hp:¬fH (L.filter (XO rev))[m].1=true:=λe=>(of_decide_eq_true e) hc;rw[if_neg hp]at hft;refine hN _ w rfl ?_;rw[hft];exact h
 ·rintro d G w rfl h;have h:St w0 ([DfM d]::[Cl c1 zc [.string rev]]::[Cl c0 ZB [.pointer (some ⟨b,0,none⟩)]]::flB b rA rW F::sA::[Cl b1 zp [I ((((L.filter (XO rev)).take (L.filter (XO rev)).length).filter λt=>fH t.1).length:Nat)]]::sW::(L.map trS).flatten::Zi E i) w:=h;refine VA ?_
  (refine ldC h ?_)
  (first | refine gu h ?_ | refine gq h ?_ | refine gp h ?_ | refine gm h ?_ | refine gk h ?_ | refine gj h ?_ | refine gi h ?_ | refine gh h ?_ | refine gg h ?_ | refine gf h ?_ | refine Ua h ?_ | refine uZ h ?_);clear h;intro w h
  rw[List.take_length];have e:yD F.l rev=((L.filter (XO rev)).filter λt=>fH t.1).length:=by
   unfold yD;rw[hr.revs,List.filter_map,List.length_map];rfl
  refine⟨_,rfl,?_⟩;rw[←e];refine hk w (St.setN_same' i hi (St.back i hi (s':=flB b rA rW F++(sA++(sW++(L.map trS).flatten))) ?_));have h:=zj (yw (uU h));exact h.eq (by simp)
 ·rintro d j G w hf;exact hf.elim
def gv(a:Int×Int×Int)(x:ZJ):Int×Int×Int:=
 if x.pod.st=3 then a else if x.pod.st<a.2.1∨(x.pod.st=a.2.1∧(x.pod.reqs.length:Int)≤a.2.2)then(x.id,x.pod.st,x.pod.reqs.length)else a
def fL(l:List ZJ)(rev:B0):Int:=((revs l rev).foldl gv (0,3,0)).1
def Ek(h:St w0 E w)(i:Nat){b:Nat}{F:zk}{s:Seg}(hi:nth E i=some s)(hf:FlS b F s){rev:B0}{k:Int→PT}(hk:∀w',St w0 E w'→k (fL F.l rev) w') :
  L.call Pr QB [pO b,.string rev] (.one (.one (.int .i64))) k w:=by
 obtain⟨ok,rA,rW,mA,mW,sA,sW,L,hA,hW,hr,rfl⟩:=hf;refine za (mH _ _) ?_;unfold VM;have hll:L.length=F.l.length:=by rw[hr.l];simp
 have hfew:=ok.few;have h:St w0 (flB b rA rW F::sA::sW::(L.map trS).flatten::Zi E i) w:=(h.front i hi).eq (by simp);refine nw h ?_;clear h;intro b1 w h;refine nw h ?_;clear h;intro b2 w h;refine nw h ?_;clear h;intro b3 w h
 (refine stC h ?_;clear h;intro w h;dsimp only[zE,zd]at h;refine stC h ?_;clear h;intro w h;dsimp only[zE,zd]at h;refine stC h ?_;clear h;intro w h;dsimp only[zE,zd]at h)
 refine HZ h λc0 c1 w h=>?_;have h:=Ys (Ys (jS (jS h)));refine qZ (A:=[_,_,_,_]) (HE ok hA hr) h (λm G=>∃a:Int×Int×Int,a=(((L.filter (XO rev)).take m).map (·.1)).foldl gv (0,3,0)∧G = [Cl b3 zp [I a.2.2]]::[Cl b2 zp [I a.2.1]]::[Cl b1 zp [I a.1]]::sW::(L.map trS).flatten::Zi E i) (λj G=>False) ⟨_,rfl,rfl⟩ ?_ ?_ ?_
 ·rintro m G X w lv lp d R hm ⟨⟨a1,a2,a3⟩,ha,rfl⟩ h hN hE;have hx:=List.getElem?_eq_getElem hm;have hft:gv (a1,a2,a3) (L.filter (XO rev))[m].1=(((L.filter (XO rev)).take (m+1)).map (·.1)).foldl gv (0,3,0):=by
   rw[List.take_add_one,hx,List.map_append,List.foldl_append,←ha];rfl
  have h:St w0 ([Rec lv lp .busy none]::[DfM d]::[Cl c1 zc [.string rev]]::[Cl c0 ZB [.pointer (some ⟨b,0,none⟩)]]::flB b rA rW F::sA::[Cl b3 zp [I a3]]::[Cl b2 zp [I a2]]::[Cl b1 zp [I a1]]::sW::(L.map trS).flatten::(Zi E i++X)) w:=h;rw[CO hm]
  (try dsimp only)
  have hmem:=dS hm;have hps:=hr.ps _ hmem;refine vW h 10 rfl hmem hps ?_;refine it (λhc=>?_) (λhc=>?_)<;>(try simp only[zB]at hc)
  ·simp only[gv]at hft;rw[if_pos hc]at hft;exact hN _ w ⟨_,hft,rfl⟩ h
  simp only[gv]at hft;rw[if_neg hc]at hft
  (refine dr h ?_;clear h;intro w h;refine ldC h ?_)
  refine vW h 10 rfl hmem hps ?_
  (refine ckC h ?_)
  refine it (λhd=>?_) (λhd=>?_)<;>(try simp only[zB]at hd)
  ·rw[if_pos (.inl hd)]at hft;refine vW h 10 rfl hmem hps ?_;refine PQ h 10 rfl hmem hps ?_
   (refine stC h ?_;clear h;intro w h;dsimp only[zE,zd]at h;refine stC h ?_;clear h;intro w h;dsimp only[zE,zd]at h;refine stC h ?_;clear h;intro w h;dsimp only[zE,zd]at h)
   exact hN _ w ⟨_,hft,rfl⟩ h
  (refine ldC h ?_)
  refine vW h 10 rfl hmem hps ?_
  (refine ckC h ?_)
  refine it (λhe=>?_) (λhe=>?_)<;>(try simp only[zB]at he)
  ·(refine ldC h ?_)
   refine PQ h 10 rfl hmem hps ?_
   (refine ckC h ?_)
   refine it (λhg=>?_) (λhg=>?_)<;>(try simp only[zB]at hg)
   ·rw[if_pos (.inr ⟨he,hg⟩)]at hft;refine vW h 10 rfl hmem hps ?_;refine PQ h 10 rfl hmem hps ?_
    (refine stC h ?_;clear h;intro w h;dsimp only[zE,zd]at h;refine stC h ?_;clear h;intro w h;dsimp only[zE,zd]at h;refine stC h ?_;clear h;intro w h;dsimp only[zE,zd]at h)
    exact hN _ w ⟨_,hft,rfl⟩ h
   ·rw[if_neg (λhh=>hh.elim hd λhh=>hg hh.2)]at hft;exact hN _ w ⟨_,hft,rfl⟩ h
  ·rw[if_neg (λhh=>hh.elim hd λhh=>he hh.1)]at hft;exact hN _ w ⟨_,hft,rfl⟩ h
 ·rintro d G w ⟨a,ha,rfl⟩ h;have h:St w0 ([DfM d]::[Cl c1 zc [.string rev]]::[Cl c0 ZB [.pointer (some ⟨b,0,none⟩)]]::flB b rA rW F::sA::[Cl b3 zp [I a.2.2]]::[Cl b2 zp [I a.2.1]]::[Cl b1 zp [I a.1]]::sW::(L.map trS).flatten::Zi E i) w:=h;refine VA ?_
  (refine ldC h ?_)
  (first | refine gu h ?_ | refine gq h ?_ | refine gp h ?_ | refine gm h ?_ | refine gk h ?_ | refine gj h ?_ | refine gi h ?_ | refine gh h ?_ | refine gg h ?_ | refine gf h ?_ | refine Ua h ?_ | refine uZ h ?_);clear h;intro w h
  rw[List.take_length]at ha;have e:fL F.l rev=a.1:=by unfold fL;rw[hr.revs,ha]
  refine⟨_,rfl,?_⟩;rw[←e];refine hk w (St.setN_same' i hi (St.back i hi (s':=flB b rA rW F++(sA++(sW++(L.map trS).flatten))) ?_));have h:=zj (yw (uU (PL (nk h))));exact h.eq (by simp)
 ·rintro d j G w hf;exact hf.elim
def eK(x:Int×Int×Int):List Value:=[I x.1,I x.2.1,I x.2.2]
def RJ:Enc eK 3:=⟨λ_=>rfl,λ_=>rfl,by decide⟩
def elK:El Pr yE Xs 3 24 (.agg #[I 0,I 0,I 0]):=Gj (by kernel_rfl) (by kernel_rfl) rfl (by decide)
def Ez(h:St w0 E w){v:Sl}{l:List (Int×Int×Int)}(r:Rd w eK v l)(hn:l.length<1000000000)(h64:v.a=none→l = []){k:Sl→PT}
  (hk:∀(v':Sl) s' w',Rw eK Xs 3 v' l s'→St w0 (s'::E) w'→k v' w'):L.call Pr Yf [SlV v] (.one (.one .slice)) k w:=by
 refine za (QF _) ?_;unfold jT;exact qD (K:=λv w'=>∃x,v=RT.val (.one (.one .slice)) x∧k x w') RJ elK h r (by omega) (by omega) h64 λv' s' w' h1 h2 h3=>⟨v',rfl,hk v' s' w' h1 h3⟩
def wM(x:ZJ):Int×Int×Int:=(x.id,x.pod.st,x.pod.reqs.length)
def qc(l:List ZJ)(rev:B0):List (Int×Int×Int):=(revs l rev).map wM
def iv(h:St w0 E w)(i:Nat){b:Nat}{F:zk}{s:Seg}(hi:nth E i=some s)(hf:FlS b F s){rev:B0}{k:Sl→PT}(hk:∀v s' w',Rw eK Xs 3 v (qc F.l rev) s'→St w0 (s'::E) w'→k v w') :
  L.call Pr uo [pO b,.string rev] (.one (.one .slice)) k w:=by
 obtain⟨ok,rA,rW,mA,mW,sA,sW,L,hA,hW,hr,rfl⟩:=hf;refine za (pF _ _) ?_;unfold KH;have hll:L.length=F.l.length:=by rw[hr.l];simp
 have hfew:=ok.few;have hlt:=List.length_filter_le (XO rev) L;have h:St w0 (flB b rA rW F::sA::sW::(L.map trS).flatten::Zi E i) w:=(h.front i hi).eq (by simp);refine nw h ?_;clear h;intro b1 w h;refine HZ h λc0 c1 w h=>?_;have h:=Ys (Ys (yM (yM h)));have h:St w0 ([[Cl c1 zc [.string rev]],[Cl c0 ZB [.pointer (some ⟨b,0,none⟩)]],flB b rA rW F,sA]++[Cl b1 yE [SlV ⟨none,0,0⟩]]::[]::sW::(L.map trS).flatten::Zi E i) w:=h.eq (by simp);refine qZ (A:=[_,_,_,_]) (HE ok hA hr) h (λm G=>∃v sv,Rw eK Xs 3 v (((L.filter (XO rev)).take m).map λt=>wM t.1) sv∧G = [Cl b1 yE [SlV v]]::sv::sW::(L.map trS).flatten::Zi E i) (λj G=>False) ⟨_,_,Rw.nil,rfl⟩ ?_ ?_ ?_
 ·rintro m G X w lv lp d R hm ⟨v,sv,hv,rfl⟩ h hN hE;have hx:=List.getElem?_eq_getElem hm;have h:St w0 ([Rec lv lp .busy none]::[DfM d]::[Cl c1 zc [.string rev]]::[Cl c0 ZB [.pointer (some ⟨b,0,none⟩)]]::flB b rA rW F::sA::[Cl b1 yE [SlV v]]::sv::sW::(L.map trS).flatten::(Zi E i++X)) w:=h;rw[CO hm]
  (try dsimp only)
  have hmem:=dS hm;have hps:=hr.ps _ hmem
  (refine dr h ?_;clear h;intro w h;refine ldC h ?_)
  refine vW h 9 rfl hmem hps ?_
  (refine ckC h ?_)
  refine PQ h 9 rfl hmem hps ?_
  (refine ckC h ?_)
  refine nw h ?_;clear h;intro b11 w h
  (refine ckC h ?_)
  refine Rw.app RJ elK h 7 rfl hv (wM (L.filter (XO rev))[m].1) rfl (by simp;omega) (by simp;omega) λv' s' w hv h=>?_
  (dsimp only[zd,List.cons_append,List.nil_append]at h;refine stC h ?_;clear h;intro w h;dsimp only[zE,zd]at h)
  refine hN _ w ⟨v',s',?_,rfl⟩ h;rw[List.take_add_one,hx,List.map_append];exact hv
 ·rintro d G w ⟨v,sv,hv,rfl⟩ h;have h:St w0 ([DfM d]::[Cl c1 zc [.string rev]]::[Cl c0 ZB [.pointer (some ⟨b,0,none⟩)]]::flB b rA rW F::sA::[Cl b1 yE [SlV v]]::sv::sW::(L.map trS).flatten::Zi E i) w:=h;rw[List.take_length]at hv;have e:qc F.l rev=(L.filter (XO rev)).map λt=>wM t.1:=by unfold qc;rw[hr.revs,List.map_map];rfl
  rw[←e]at hv;have hle:(qc F.l rev).length≤L.length:=by rw[e,List.length_map];exact hlt
  refine VA ?_
  (refine ldC h ?_)
  refine Ez h (hv.rd RJ h 6 rfl) (by omega) (Rw.nil_of RJ hv) λv' s' w hv' h=>?_
  (first | refine gu h ?_ | refine gq h ?_ | refine gp h ?_ | refine gm h ?_ | refine gk h ?_ | refine gj h ?_ | refine gi h ?_ | refine gh h ?_ | refine gg h ?_ | refine gf h ?_ | refine Ua h ?_ | refine uZ h ?_);clear h;intro w h
  refine⟨_,rfl,hk v' s' w hv' ?_⟩;have h:=yw (uV (PL (nk h)));have h:=yM (yM (yM (yM h)));have h:=St.back (i+1) (E:=s'::E) hi (s':=flB b rA rW F++(sA++(sW++(L.map trS).flatten))) (h.eq (by simp[Zi]));exact St.setN_same' (i+1) (E:=s'::E) hi h
 ·rintro d j G w hf;exact hf.elim
def xm(l:List ZJ)(id:Int)(g:js→js):List ZJ:=l.filterMap λx=>if x.id=id then(if(g x.pod).st=4 then none else some { x with pod:=g x.pod })else some x
def Di{l:List ZJ}{id:Int}{g:js→js}(h:∀y∈l,y.id≠id):xm l id g=l:=by
 unfold xm
 induction l with
 | nil=>rfl
 | cons y l ih=>
  rw[List.filterMap_cons,if_neg (h y (by simp))];simp only;rw[ih λz hz=>h z (by simp[hz])]
def me{A B:List ZJ}{x:ZJ}{g:js→js}(h:(A++x::B).Pairwise (λx y=>x.id<y.id)):xm (A++x::B) x.id g=A++((if(g x.pod).st=4 then []else [{ x with pod:=g x.pod }])++B):=by
 rw[List.pairwise_append,List.pairwise_cons]at h;have hA:xm A x.id g=A:=Di λy hy=>by have:=h.2.2 y hy x (by simp);omega
 have hB:xm B x.id g=B:=Di λy hy=>by have:=h.2.1.1 y hy;omega
 unfold xm at *
 rw[List.filterMap_append,hA,List.filterMap_cons,if_pos rfl]
 congr 1
 split<;>rename_i hc
 ·split at hc
  ·rename_i h4;rw[if_pos h4,hB];rfl
  ·cases hc
 ·split at hc
  ·cases hc
  ·rename_i h4;cases hc;rw[if_neg h4,hB];rfl
def JE{l:List ZJ}{id:Int}{x:ZJ}(h:qd l id=some x):x∈l∧x.id=id:=⟨List.mem_of_find?_eq_some h,by simpa using List.find?_some h⟩
def Ki{l:List ZJ}(pw:l.Pairwise (λx y=>x.id<y.id)){x:ZJ}(hx:x∈l):qd l x.id=some x:=by
 unfold qd
 induction l with
 | nil=>simp at hx
 | cons y l ih=>
  rw[List.pairwise_cons]at pw;rcases List.mem_cons.1 hx with rfl | hx
  ·simp
  ·have:=pw.1 x hx;rw[List.find?_cons_of_neg (by simp;omega)];exact ih pw.2 hx
def ou{l:List ZJ}{q:Int}(h:yN l q=none):∀x∈l,q∉x.pod.reqs:=λx hx=>by simpa using List.find?_eq_none.1 h x hx
def zk.Ok.upd{F:zk}(ok:F.Ok){id:Int}{x:ZJ}(hx:qd F.l id=some x)(g:js→js)(hst:(g x.pod).st=1∨(g x.pod).st=2∨(g x.pod).st=3∨(g x.pod).st=4)
  (hq:∀q∈(g x.pod).reqs,q∈x.pod.reqs∨yN F.l q=none):({ F with l:=xm F.l id g }:zk).Ok:=by
 obtain⟨hm,rfl⟩:=JE hx;obtain⟨A,B,hl⟩:=List.append_of_mem hm;have pw:=ok.pw;have rng:=ok.rng;have live:=ok.live;have once:=ok.once;have few:=ok.few;have hno:∀q,yN F.l q=none→∀y∈A++x::B,q∉y.pod.reqs:=λq h=>by rw[hl]at h;exact ou h
 rw[hl]at pw rng live once few;have e:xm F.l x.id g=A++((if(g x.pod).st=4 then []else [{ x with pod:=g x.pod }])++B):=by rw[hl];exact me pw
 by_cases h4:(g x.pod).st=4
 ·rw[if_pos h4,List.nil_append]at e;have hs:(A++B).Sublist (A++x::B):=List.Sublist.append (List.Sublist.refl _) (List.sublist_cons_self ..);refine⟨?_,?_,?_,?_,?_,ok.lo,ok.hi⟩
  ·rw[show({ F with l:=xm F.l x.id g }:zk).l=A++B from e];exact pw.sublist hs
  ·rw[show({ F with l:=xm F.l x.id g }:zk).l=A++B from e];exact λy hy=>rng y (hs.subset hy)
  ·rw[show({ F with l:=xm F.l x.id g }:zk).l=A++B from e];exact λy hy=>live y (hs.subset hy)
  ·rw[show({ F with l:=xm F.l x.id g }:zk).l=A++B from e];exact once.sublist hs
  ·rw[show({ F with l:=xm F.l x.id g }:zk).l=A++B from e];exact Nat.lt_of_le_of_lt hs.length_le few
 ·rw[if_neg h4,List.singleton_append]at e;have e:({ F with l:=xm F.l x.id g }:zk).l=A++ { x with pod:=g x.pod } :: B:=e;refine⟨?_,?_,?_,?_,?_,ok.lo,ok.hi⟩
  ·rw[e];rw[List.pairwise_append,List.pairwise_cons]at pw ⊢;exact⟨pw.1,pw.2.1,λa ha b hb=>by
    rcases List.mem_cons.1 hb with rfl | hb
    ·exact pw.2.2 a ha x (by simp)
    ·exact pw.2.2 a ha b (by simp[hb])⟩
  ·rw[e];intro y hy;rcases List.mem_append.1 hy with hy | hy
   ·exact rng y (by simp[hy])
   ·rcases List.mem_cons.1 hy with rfl | hy
    ·exact rng x (by simp)
    ·exact rng y (by simp[hy])
  ·rw[e];intro y hy;rcases List.mem_append.1 hy with hy | hy
   ·exact live y (by simp[hy])
   ·rcases List.mem_cons.1 hy with rfl | hy
    ·simp only;omega
    ·exact live y (by simp[hy])
  ·rw[e];rw[List.pairwise_append,List.pairwise_cons]at once ⊢;refine⟨once.1,⟨λb hb q hq1 hq2=>?_,once.2.1.2⟩,λa ha b hb q hq1 hq2=>?_⟩
   ·rcases hq q hq1 with h | h
    ·exact once.2.1.1 b hb q h hq2
    ·exact hno q h b (by simp[hb]) hq2
   ·rcases List.mem_cons.1 hb with rfl | hb
    ·rcases hq q hq2 with h | h
     ·exact once.2.2 a ha x (by simp) q hq1 h
     ·exact hno q h a (by simp[ha]) hq1
    ·exact once.2.2 a ha b (by simp[hb]) q hq1 hq2
  ·rw[e];simp only[List.length_append,List.length_cons]at few ⊢;exact few
def lU:∀{m:List (Int×(B0×Option Addr))}{k:Int},(m.map (·.1)).Nodup→UF m k=m.filter λp=>decide (p.1≠k)
 | [],k,_=>rfl
 | p::m,k,h=>by
  rw[List.map_cons,List.nodup_cons]at h;simp only[UF];by_cases e:p.1=k
  ·rw[if_pos e,List.filter_cons_of_neg (by simp[e])]
   symm
   rw[List.filter_eq_self];intro y hy;have:y.1≠k:=λe2=>h.1 (by rw[e,←e2];exact List.mem_map_of_mem (f:=(·.1)) hy);simpa using this
  ·rw[if_neg e,List.filter_cons_of_pos (by simpa using e),lU h.2]
def FlR.upd{F:zk}{A B:List Tr}{t:Tr}{mA mW mW'}(hr:FlR F (A++t::B) mA mW)(ok:F.Ok)(g:js→js){s':Seg}(hp:Vp t.2.1 (g t.1.pod) s')(h4:(g t.1.pod).st≠4)
  (hW:∀q,zA mW' q=(yN (xm F.l t.1.id g) q).map (·.id)):FlR { F with l:=xm F.l t.1.id g } (A++({ t.1 with pod:=g t.1.pod },t.2.1,s')::B) mA mW':=by
 have pw:=ok.pw;rw[hr.l,List.map_append,List.map_cons]at pw;refine⟨?_,?_,?_,hW⟩
 ·show xm F.l t.1.id g=_;rw[hr.l,List.map_append,List.map_cons,me pw,if_neg h4];simp
 ·intro y hy;rcases List.mem_append.1 hy with hy | hy
  ·exact hr.ps y (by simp[hy])
  ·rcases List.mem_cons.1 hy with rfl | hy
   ·exact hp
   ·exact hr.ps y (by simp[hy])
 ·have:=hr.all;simp only[List.map_append,List.map_cons]at this ⊢;exact this
def FlR.del{F:zk}{A B:List Tr}{t:Tr}{mA mW mW'}(hr:FlR F (A++t::B) mA mW)(ok:F.Ok)(g:js→js)(h4:(g t.1.pod).st=4)
  (hW:∀q,zA mW' q=(yN (xm F.l t.1.id g) q).map (·.id)):FlR { F with l:=xm F.l t.1.id g } (A++B) (UF mA t.1.id) mW':=by
 have pw:=ok.pw;have ids:=hr.ids ok;rw[hr.l,List.map_append,List.map_cons]at pw;refine⟨?_,?_,?_,hW⟩
 ·show xm F.l t.1.id g=_;rw[hr.l,List.map_append,List.map_cons,me pw,if_pos h4];simp
 ·intro y hy;rcases List.mem_append.1 hy with hy | hy
  ·exact hr.ps y (by simp[hy])
  ·exact hr.ps y (by simp[hy])
 ·rw[lU (hr.nd ok)];refine(hr.all.filter _).trans ?_;rw[List.pairwise_append,List.pairwise_cons]at ids;rw[List.map_append,List.map_cons,List.filter_append,List.filter_cons_of_neg (by simp[ent]),List.map_append];have fa:∀{l:List Tr},(∀y∈l,y.1.id≠t.1.id)→(l.map ent).filter (λp=>decide (p.1≠t.1.id))=l.map ent:=λ{l} h=>by
   rw[List.filter_eq_self];intro p hp;obtain⟨y,hy,rfl⟩:=List.mem_map.1 hp;exact decide_eq_true (h y hy)
  rw[fa (λy hy=>by have:=ids.2.2 y hy t (by simp);omega),fa (λy hy=>by have:=ids.2.1.1 y hy;omega)]
def Dh{l:List ZJ}(pw:l.Pairwise (λx y=>x.id<y.id)){x:ZJ}(hx:x∈l){g:js→js}(hrq:(g x.pod).reqs=x.pod.reqs)(h4:(g x.pod).st=4→x.pod.reqs = [])(q:Int) :
  (yN (xm l x.id g) q).map (·.id)=(yN l q).map (·.id):=by
 obtain⟨A,B,rfl⟩:=List.append_of_mem hx;rw[me pw];unfold yN;simp only[List.find?_append]
 cases List.find? (λx=>decide (q∈x.pod.reqs)) A with
 | some y=>rfl
 | none=>
  simp only[Option.none_or];by_cases h:(g x.pod).st=4
  ·rw[if_pos h,List.find?_nil,Option.none_or,List.find?_cons_of_neg (by simp[h4 h])]
  ·rw[if_neg h];by_cases hq:q∈x.pod.reqs
   ·rw[List.find?_cons_of_pos (by simp[hrq,hq]),List.find?_cons_of_pos (by simp[hq])];rfl
   ·rw[List.find?_cons_of_neg (by simp[hrq,hq]),List.find?_cons_of_neg (by simp[hq]),List.find?_nil,Option.none_or]
def bj{b rA rW:Nat}{F:zk}{A B:List Tr}{t:Tr}{mA:List (Int×(B0×Option Addr))}{sA sW:Seg}{D:List Seg}{rev:B0}(h:St w0 (flB b rA rW F::sA::sW::((A++t::B).map trS).flatten::D) w)
  (hA:MpS KI rE rA mA sA) (hg:zA mA t.1.id=some (rev,some ⟨t.2.1,0,none⟩)) (hp:Vp t.2.1 t.1.pod t.2.2) {k:Unit→PT} (hk1:t.1.pod.st≠4→k () w)
  (hk2:t.1.pod.st=4→∀sA' w',MpS KI rE rA (UF mA t.1.id) sA'→St w0 (flB b rA rW F::sA'::sW::((A++B).map trS).flatten::D) w'→k () w') :
  L.call Pr JY [pO b,I t.1.id] (.tup []) k w:=by
 refine za (tq _ _) ?_;unfold oE
 (refine nn ?_;refine ldC h ?_)
 refine MpS.get mkI JS zo (λx:B0×Option Addr=>(x.1,x.2,())) (λ_=>rfl) h 1 rfl hA ?_;rw[hg];simp only[Option.map_some,Option.getD_some];refine vW h 3 rfl (t:=t) (by simp) hp ?_;refine it (λhc=>?_) (λhc=>?_)<;>(try simp only[zB]at hc)
 ·(refine nn ?_;refine ldC h ?_)
  refine MpS.del mkI JS h 1 rfl hA λsA' w hA' h=>⟨(),rfl,hk2 hc sA' w hA' ?_⟩;have h:St w0 (flB b rA rW F::sA'::sW::((A++t::B).map trS).flatten::D) w:=h;have h:=Ys h;have h:=h.pick;have h:=zj h;have h:=Ys (Ys (Ys h));exact h
 ·exact⟨(),rfl,hk1 hc⟩
def z2s(h:St w0 E w)(i:Nat){b:Nat}{F:zk}{s:Seg}(hi:nth E i=some s)(hf:FlS b F s){id:Int}{k:Int→PT}
  (hk0:qd F.l id=none→∀w',St w0 E w'→k 6 w')
  (hk1:∀x,qd F.l id=some x→∀s' w',FlS b { F with l:=xm F.l id λp=>(Xc p).1 } s'→St w0 (zd E i s') w'→k (Xc x.pod).2 w') :
  L.call Pr Qg [pO b,I id] (.one (.one (.int .i64))) k w:=by
 obtain⟨ok,rA,rW,mA,mW,sA,sW,L,hA,hW,hr,rfl⟩:=hf;refine za (TM _ _) ?_;unfold OK;have h:St w0 (flB b rA rW F::sA::sW::(L.map trS).flatten::Zi E i) w:=(h.front i hi).eq (by simp)
 (refine nn ?_;refine ldC h ?_)
 refine MpS.get2 mkI JS zo (λx:B0×Option Addr=>(x.1,x.2,())) (λ_=>rfl) h 1 rfl hA ?_
 cases hfd:qd F.l id with
 | none=>
  rw[hr.get0 hfd];simp only[Option.map_none,Option.getD_none,Option.isSome_none];refine nw h ?_;clear h;intro b4 w h
  (refine stC h ?_;clear h;intro w h;dsimp only[zE,zd]at h)
  refine it (λhc=>?_) (λhc=>?_)<;>(try simp only[zB]at hc)
  ·refine⟨_,rfl,hk0 hfd w (St.setN_same' i hi (St.back i hi (s':=flB b rA rW F++(sA++(sW++(L.map trS).flatten))) ?_))⟩;have h:=zj h;exact h.eq (by simp)
  ·cases hc
 | some x=>
  obtain⟨A,t,B,rfl,rfl,hid⟩:=hr.at hfd;have hg:=hr.get ok (t:=t) (by simp);have hp:=hr.ps t (by simp);rw[hid]at hg;rw[hg];simp only[Option.map_some,Option.getD_some,Option.isSome_some];refine nw h ?_;clear h;intro b4 w h
  (refine stC h ?_;clear h;intro w h;dsimp only[zE,zd]at h)
  refine it (λhc=>?_) (λhc=>?_)<;>(try simp only[zB]at hc)
  ·cases hc
  (refine ldC h ?_)
  have h:=zj h;have h:=Ys h;have h:=h.pick;refine z2p h 0 rfl hp λs' w hp' h=>⟨_,rfl,?_⟩;have h:St w0 (trS ({ t.1 with pod:=(Xc t.1.pod).1 },t.2.1,s')::((A++B).map trS).flatten::flB b rA rW F::sA::sW::Zi E i) w:=h;have h:=h.place;have hst:=ok.live t.1 (JE hfd).1;have h4:(Xc t.1.pod).1.st≠4:=by unfold Xc;split<;>simp<;>omega
  have hrq:(Xc t.1.pod).1.reqs=t.1.pod.reqs:=by unfold Xc;split<;>rfl
  refine hk1 _ hfd (flB b rA rW { F with l:=xm F.l id λp=>(Xc p).1 } ++ (sA++(sW++((A++({ t.1 with pod:=(Xc t.1.pod).1 },t.2.1,s')::B).map trS).flatten))) w ⟨?_,rA,rW,mA,mW,sA,sW,_,hA,hW,?_,rfl⟩ (St.back i hi ?_)
  ·refine ok.upd hfd _ ?_ λq hq=>.inl (by rw[←hrq];exact hq);unfold Xc;split<;>simp<;>omega
  ·subst hid;refine hr.upd ok (λp=>(Xc p).1) hp' h4 λq=>?_;rw[hr.wth];rw[Dh ok.pw (JE hfd).1 hrq (λe=>absurd e h4)]
  ·have h:=Ys (Ys (Ys h));exact h.eq (by simp)
def grow1(rev:B0)(conc:Int)(F:zk):zk:={ F with l:=F.l++[⟨F.last+1,rev,⟨1,conc,[]⟩⟩],last:=F.last+1 }
def grow(rev:B0)(conc:Int):Nat→zk→zk
 | 0,F=>F
 | n+1,F=>grow1 rev conc (grow rev conc n F)
def Kk(rev:B0)(F:zk):zk:={ F with l:=xm F.l (fL F.l rev) λp=>(Yq p).1 }
def shrink(rev:B0):Nat→zk→zk×List Int
 | 0,F=>(F,[])
 | n+1,F=>((shrink rev n (Kk rev F)).1,fL F.l rev::(shrink rev n (Kk rev F)).2)
def uK(F:zk)(rev:B0)(want:Int):Nat:=(min (want-yD F.l rev) (F.room-F.l.length)).toNat
def Ue(F:zk)(rev:B0)(want:Int):Nat:=((yD F.l rev:Int)-max want 0).toNat
def Xo(F:zk)(rev:B0)(conc want:Int):zk:=grow rev conc (uK F rev want) F
def ov(F:zk)(rev:B0)(want:Int):List Int:=(List.range (uK F rev want)).map λj:Nat=>F.last+1+(j:Int)
def xn(F:zk)(rev:B0)(conc want:Int):zk×List Int:=shrink rev (Ue (Xo F rev conc want) rev want) (Xo F rev conc want)
section
variable {F:zk}{rev:B0}{conc:Int}
def FY(n:Nat):(grow rev conc n F).last=F.last+n:=by
 induction n with
 | zero=>simp[grow]
 | succ n ih=>simp only[grow,grow1,ih];omega
def FX(n:Nat):(grow rev conc n F).room=F.room:=by
 induction n with
 | zero=>rfl
 | succ n ih=>simp only[grow,grow1,ih]
def fI(n:Nat):(grow rev conc n F).l.length=F.l.length+n:=by
 induction n with
 | zero=>rfl
 | succ n ih=>simp only[grow,grow1,List.length_append,ih,List.length_singleton];omega
def sw(a b:List ZJ):revs (a++b) rev=revs a rev++revs b rev:=List.filter_append ..
def Kj(a b:List ZJ):yD (a++b) rev=yD a rev+yD b rev:=by
 unfold yD;rw[sw,List.filter_append,List.length_append]
def mf(l:List ZJ):yD l rev≤l.length:=Nat.le_trans (List.length_filter_le ..) (List.length_filter_le ..)
def RC(n:Nat):yD (grow rev conc n F).l rev=yD F.l rev+n:=by
 induction n with
 | zero=>rfl
 | succ n ih=>
  simp only[grow,grow1];rw[Kj,ih];have:yD [(⟨(grow rev conc n F).last+1,rev,⟨1,conc,[]⟩⟩:ZJ)] rev=1:=by simp[yD,revs,fH]
  rw[this];rfl
def Lm(ok:F.Ok)(h1:F.l.length+1<100000000)(h2:F.last+1<4611686018427387904):(grow1 rev conc F).Ok:=by
 have lo:=ok.lo;refine⟨?_,?_,?_,?_,?_,?_,h2⟩
 ·simp only[grow1,List.pairwise_append,List.pairwise_singleton,List.mem_singleton];exact⟨ok.pw,trivial,λa ha b hb=>by subst hb;have:=(ok.rng a ha).2;simp only;omega⟩
 ·intro x hx;simp only[grow1,List.mem_append,List.mem_singleton]at hx ⊢;rcases hx with hx | rfl
  ·have:=ok.rng x hx;omega
  ·simp only;omega
 ·intro x hx;simp only[grow1,List.mem_append,List.mem_singleton]at hx;rcases hx with hx | rfl
  ·exact ok.live x hx
  ·simp
 ·simp only[grow1,List.pairwise_append,List.pairwise_singleton,List.mem_singleton];exact⟨ok.once,trivial,λa ha b hb q hq1 hq2=>by subst hb;simp at hq2⟩
 ·simp only[grow1,List.length_append,List.length_singleton];exact h1
 ·simp only[grow1];omega
def RD(l:List ZJ)(x:ZJ)(hx:x.pod.reqs = [])(q:Int):yN (l++[x]) q=yN l q:=by
 unfold yN;rw[List.find?_append,List.find?_cons_of_neg (by simp[hx])];simp
def LM(l:List ZJ)(a:Int×Int×Int):Prop:=(a=(0,3,0)∧∀y∈l,fH y=false)∨∃x∈l,a=(x.id,x.pod.st,(x.pod.reqs.length:Int))∧fH x=true
def LM.step{l:List ZJ}{a:Int×Int×Int}{x:ZJ}(h:LM l a)(hx:x.pod.st=1∨x.pod.st=2∨x.pod.st=3):LM (l++[x]) (gv a x):=by
 unfold gv;by_cases h3:x.pod.st=3
 ·rw[if_pos h3];rcases h with ⟨rfl,h⟩ | ⟨y,hy,h⟩
  ·refine .inl ⟨rfl,λy hy=>?_⟩;rcases List.mem_append.1 hy with hy | hy
   ·exact h y hy
   ·simp at hy;subst hy;simp[fH,h3]
  ·exact .inr ⟨y,by simp[hy],h⟩
 ·rw[if_neg h3];have hup:fH x=true:=by simp[fH,h3]
  by_cases hc:x.pod.st<a.2.1∨(x.pod.st=a.2.1∧(x.pod.reqs.length:Int)≤a.2.2)
  ·rw[if_pos hc];exact .inr ⟨x,by simp,rfl,hup⟩
  ·rw[if_neg hc];rcases h with ⟨rfl,h⟩ | ⟨y,hy,h⟩
   ·exact absurd (.inl (by simp only;omega)) hc
   ·exact .inr ⟨y,by simp[hy],h⟩
def LM.all:∀{l2 l1:List ZJ}{a:Int×Int×Int},LM l1 a→(∀x∈l2,x.pod.st=1∨x.pod.st=2∨x.pod.st=3)→LM (l1++l2) (l2.foldl gv a)
 | [],l1,a,h,_=>by simpa using h
 | x::l2,l1,a,h,hx=>by
  have:=LM.all (l2:=l2) (h.step (hx x (by simp))) (λy hy=>hx y (by simp[hy]));simpa using this
def FQ(ok:F.Ok)(hc:0<yD F.l rev):∃x,qd F.l (fL F.l rev)=some x∧x.rev=rev∧(x.pod.st=1∨x.pod.st=2):=by
 have hr:∀x∈revs F.l rev,x∈F.l∧x.rev=rev:=λx hx=>⟨(List.mem_filter.1 hx).1,of_decide_eq_true (List.mem_filter.1 hx).2⟩;have h:=LM.all (l1:=[]) (a:=(0,3,0)) (l2:=revs F.l rev) (.inl ⟨rfl,by simp⟩) λx hx=>ok.live x (hr x hx).1;rw[List.nil_append]at h;rcases h with ⟨-,h⟩ | ⟨x,hx,ha,hup⟩
 ·exfalso;unfold yD at hc;rw[List.filter_eq_nil_iff.2 (λy hy=>by simp[h y hy])]at hc;simp at hc
 ·refine⟨x,?_,(hr x hx).2,?_⟩
  ·unfold fL;rw[ha];exact Ki ok.pw (hr x hx).1
  ·have:=ok.live x (hr x hx).1;have:x.pod.st≠3:=of_decide_eq_true hup;omega
def PJ{p:js}(h:p.st=1∨p.st=2):(Yq p).1 = { p with st:=if p.reqs = []then 4 else 3 }:=by
 unfold Yq;rw[if_neg (by omega)]
def NW(ok:F.Ok)(hc:0<yD F.l rev):(Kk rev F).Ok:=by
 obtain⟨x,hx,-,hst⟩:=FQ ok hc;refine ok.upd hx _ ?_ ?_
 ·rw[PJ hst];simp only;split<;>simp
 ·rw[PJ hst];exact λq hq=>.inl hq
def PK(ok:F.Ok)(hc:0<yD F.l rev):yD (Kk rev F).l rev+1=yD F.l rev:=by
 obtain⟨x,hx,hrev,hst⟩:=FQ ok hc;obtain⟨hm,hid⟩:=JE hx;obtain⟨A,B,hl⟩:=List.append_of_mem hm;have pw:=ok.pw;show yD (xm F.l (fL F.l rev) λp=>(Yq p).1) rev+1=_;rw[←hid];rw[hl]at pw ⊢;rw[me pw,Kj,Kj,Kj,show x::B = [x]++B from rfl,Kj,PJ hst];have h1:yD [x] rev=1:=by
  have:x.pod.st≠3:=by omega
  simp[yD,revs,fH,hrev,this]
 have h2:yD (if(if x.pod.reqs = []then(4:Int)else 3)=4 then []else [({ x with pod:={ x.pod with st:=if x.pod.reqs = []then 4 else 3 } }:ZJ)]) rev=0:=by
  by_cases hq:x.pod.reqs = []
  ·simp[hq,yD,revs]
  ·simp[hq,yD,revs,hrev,fH]
 simp only at h2 ⊢;rw[h1,h2];omega
end
def Em(h:St w0 E w)(i:Nat){b:Nat}{F:zk}{s:Seg}(hi:nth E i=some s)(hf:FlS b F s){rev:B0}{conc want:Int}(hroom:F.room<100000000)(hlast:F.last+F.room<4611686018427387904){k:Sl×Sl×Unit→PT}
  (hk:∀v1 v2 s' s1 s2 w',FlS b (xn F rev conc want).1 s'→Rw eI zp 1 v1 (ov F rev want) s1→Rw eI zp 1 v2 (xn F rev conc want).2 s2→St w0 (s2::s1::zd E i s') w'→k (v1,v2,()) w') :
  L.call Pr QC [pO b,.string rev,I conc,I want] (.tup [.one .slice,.one .slice]) k w:=by
 have hfew:=hf.1.few;have hcl:=mf F.l (rev:=rev);refine za (mI _ _ _ _) ?_;unfold VN;refine z2r h i hi hf λw h=>?_;have h:=h.front i hi;have hg:(uK F rev want:Int)=max 0 (min (want-yD F.l rev) (F.room-F.l.length)):=by unfold uK;omega
 refine ZC (λz w=>∃v sv s,z=(v,((yD F.l rev+uK F rev want:Nat):Int),())∧FlS b (Xo F rev conc want) s∧Rw eI zp 1 v (ov F rev want) sv∧St w0 (s::sv::Zi E i) w) (λk2 hk2=>?_) ?_
 ·refine zX (λq y w=>∃(j:Nat)(v:Sl)(sv s:Seg),y=(v,((yD F.l rev+j:Nat):Int),())∧q+j=uK F rev want∧FlS b (grow rev conc j F) s∧Rw eI zp 1 v ((List.range j).map λj:Nat=>F.last+1+(j:Int)) sv∧St w0 (s::sv::Zi E i) w)
   (uK F rev want) ⟨0,⟨none,0,0⟩,[],s,rfl,rfl,hf,Rw.nil,h.eq (by simp)⟩ ?_
  clear hf;clear h;rintro q y w ⟨j,v,sv,s,rfl,hq,hf,hv,h⟩ again hag
  (try dsimp only)
  have hf':=hf;obtain⟨ok,rA,rW,mA,mW,sA,sW,L,hA,hW,hr,rfl⟩:=hf;have hlj:=fI (F:=F) (rev:=rev) (conc:=conc) j;have hla:=FY (F:=F) (rev:=rev) (conc:=conc) j;have hro:=FX (F:=F) (rev:=rev) (conc:=conc) j;have lo:=ok.lo;have h:St w0 (flB b rA rW (grow rev conc j F)::sA::sW::(L.map trS).flatten::sv::Zi E i) w:=h.eq (by simp);have stop:∀{w},j=uK F rev want→St w0 (flB b rA rW (grow rev conc j F)::sA::sW::(L.map trS).flatten::sv::Zi E i) w→k2 (v,((yD F.l rev+j:Nat):Int),()) w:=by
   rintro w rfl h;exact hk2 _ w ⟨v,sv,_,rfl,hf',hv,h.eq (by simp)⟩
  (refine dr h ?_;clear h;intro w h)
  refine it (λhc=>?_) (λhc=>?_)<;>(try simp only[zB]at hc)
  ·(refine nn ?_;refine ldC h ?_)
   refine MpS.len JS h 1 rfl hA ?_;rw[hr.len,hlj]
   (refine nn ?_;refine ldC h ?_)
   refine it (λhd=>?_) (λhd=>?_)<;>(try simp only[zB]at hd)
   ·(refine nn ?_;refine ldC h ?_;refine nn ?_;refine stC h ?_;clear h;intro w h;dsimp only[zE,zd]at h;refine dr h ?_;clear h;intro w h;refine nn ?_;refine ldC h ?_;refine nn ?_;refine ldC h ?_)
    refine z0k h λb' s' w hp h=>?_;rw[wr (by omega) (by omega)]at h;rw[wr (by omega) (by omega)]
    (refine ckC h ?_;refine ckC h ?_)
    refine MpS.set mkI JS h 2 rfl hA (rev,some ⟨b',0,none⟩) rfl λsA' w hA' h=>?_
    (dsimp only[zd,List.cons_append,List.nil_append]at h;refine nn ?_;refine ldC h ?_)
    refine nw h ?_;clear h;intro b21 w h;refine Rw.app YI elI h 5 rfl hv (F.last+1+(j:Int)) (by rw[hla,eI];congr 2;omega) (by simp;omega) (by simp;omega) λv' sv' w hv' h=>?_;have hg0:zA mA ((grow rev conc j F).last+1)=none:=hr.get0 (by
     unfold qd;rw[List.find?_eq_none];intro x hx;have:=(ok.rng x hx).2;simp;omega)
    refine hag (q-1) _ w (by omega) ⟨j+1,v',sv',flB b rA rW (grow rev conc (j+1) F)++(sA'++(sW++((L++[((⟨(grow rev conc j F).last+1,rev,⟨1,conc,[]⟩⟩:ZJ),b',s')]).map trS).flatten)),?_,by omega,⟨?_,rA,rW,_,mW,sA',sW,L++[((⟨(grow rev conc j F).last+1,rev,⟨1,conc,[]⟩⟩:ZJ),b',s')],hA',hW,⟨?_,?_,?_,?_⟩,rfl⟩,?_,?_⟩
    ·rw[wr (by omega) (by omega)];congr 2
    ·exact Lm ok (by omega) (by omega)
    ·simp only[grow,grow1,List.map_append,hr.l];rfl
    ·intro t ht;rcases List.mem_append.1 ht with ht | ht
     ·exact hr.ps t ht
     ·simp only[List.mem_singleton]at ht;subst ht;exact hp
    ·rw[xU hg0,List.map_append];exact hr.all.append_right _
    ·intro q;rw[hr.wth];simp only[grow,grow1];rw[RD _ _ rfl]
    ·rw[List.range_succ,List.map_append];exact hv'
    ·have h:=yL (yM h);have h:=St.addEnd (g:=trS) (t:=((⟨(grow rev conc j F).last+1,rev,⟨1,conc,[]⟩⟩:ZJ),b',s')) h;have h:=yM (yM (yM (yL (yM h))));exact h.eq (by simp[grow,grow1])
   ·exact stop (by omega) h
  ·exact stop (by omega) h
 ·rintro z w ⟨v,sv,s,rfl,hf,hv,h⟩
  (try dsimp only)
  have hlg:=fI (F:=F) (rev:=rev) (conc:=conc) (uK F rev want);have hmade:(ov F rev want).length=uK F rev want:=by simp[ov]
  have hcg:=RC (F:=F) (rev:=rev) (conc:=conc) (uK F rev want);rw[←hcg];have hcle:=mf (grow rev conc (uK F rev want) F).l (rev:=rev)
  refine zX (λq y w=>∃(F2:zk)(gone:List Int)(v2:Sl)(s2 s:Seg),y=(v2,((yD F2.l rev:Nat):Int),())∧q=Ue F2 rev want∧gone.length+q=Ue (Xo F rev conc want) rev want∧FlS b F2 s∧Rw eI zp 1 v2 gone s2∧
   (shrink rev q F2).1=(xn F rev conc want).1∧gone++(shrink rev q F2).2=(xn F rev conc want).2∧St w0 (s::s2::sv::Zi E i) w)
   (Ue (Xo F rev conc want) rev want) ⟨Xo F rev conc want,[],⟨none,0,0⟩,[],s,rfl,rfl,by simp,hf,Rw.nil,rfl,rfl,h.eq (by simp)⟩ ?_
  clear hf;clear h;rintro q y w ⟨F2,gone,v2,s2,s,rfl,hq,hgl,hf,hv2,hF,hG,h⟩ again hag
  (try dsimp only)
  have hcl2:=mf F2.l (rev:=rev);have hq':(q:Int)=max 0 ((yD F2.l rev:Int)-max want 0):=by rw[hq];unfold Ue;omega
  have hgn:(Ue (Xo F rev conc want) rev want:Int)≤F.l.length+uK F rev want:=by unfold Ue Xo;omega
  have hfew2:=hf.1.few;refine it (λhc=>?_) (λhc=>?_)<;>(try simp only[zB]at hc)
  ·have hc0:max want 0<(yD F2.l rev:Int):=by split at hc<;>omega
   obtain⟨q',rfl⟩:∃q',q=q'+1:=⟨q-1,by omega⟩;refine Ek h 0 rfl hf λw h=>?_;obtain⟨x,hx,hrev,hst⟩:=FQ hf.1 (rev:=rev) (by omega);have okd:=NW hf.1 (rev:=rev) (by omega);have hcd:=PK hf.1 (rev:=rev) (by omega);obtain⟨ok,rA,rW,mA,mW,sA,sW,L,hA,hW,hr,rfl⟩:=hf;obtain⟨A,t,B,rfl,rfl,hid⟩:=hr.at hx;have h:St w0 (flB b rA rW F2::sA::sW::((A++t::B).map trS).flatten::s2::sv::Zi E i) w:=h.eq (by simp)
   (refine nn ?_;refine ldC h ?_)
   refine MpS.get mkI JS zo (λx:B0×Option Addr=>(x.1,x.2,())) (λ_=>rfl) h 1 rfl hA ?_;have hg:=hr.get ok (t:=t) (by simp);have hp:=hr.ps t (by simp);rw[←hid,hg];simp only[Option.map_some,Option.getD_some];have h:=Ys h;have h:=h.pick;refine Ef h 0 rfl hp λs' w hp' h=>?_;have h:St w0 (trS ({ t.1 with pod:=(Yq t.1.pod).1 },t.2.1,s')::((A++B).map trS).flatten::flB b rA rW F2::sA::sW::s2::sv::Zi E i) w:=h;have h:=h.place;have h:=Ys (Ys (Ys h));have hdp:=PJ hst;have hrq:(Yq t.1.pod).1.reqs=t.1.pod.reqs:=by rw[hdp]
   have h4:(Yq t.1.pod).1.st=4→t.1.pod.reqs = []:=by
    rw[hdp];simp only;intro h;apply Classical.byContradiction;intro hne;simp[hne]at h
   have hwth:∀q,zA mW q=(yN (xm F2.l t.1.id λp=>(Yq p).1) q).map (·.id):=λq=>by
    rw[hr.wth,Dh ok.pw (JE hx).1 hrq h4]
   have fin:∀{s w},FlS b (Kk rev F2) s→St w0 (s::s2::sv::Zi E i) w→L.new [I t.1.id] zp (λb31=>
     L.sem Pr (.one (.one .slice)) (Builtin.append_ #[ZS,ZS] ZS #[.slice v2.a v2.len v2.cap,.slice (some ⟨b31,0,none⟩) 1 1]) λ(s32:Sl)=>
     again (⟨s32.a,s32.len,s32.cap⟩,Wi ((yD F2.l rev:Nat)-1),())) w:=by
    intro s w hf h;refine nw h ?_;clear h;intro b31 w h;refine Rw.app YI elI h 1 rfl hv2 t.1.id rfl (by omega) (by omega) λv' s' w hv' h=>?_;refine hag q' _ w (by omega) ⟨Kk rev F2,gone++[t.1.id],v',s',s,?_,?_,?_,hf,hv',?_,?_,h⟩
    ·rw[wr (by omega) (by omega)];congr 2;omega
    ·unfold Ue;omega
    ·simp only[List.length_append,List.length_singleton];omega
    ·exact hF
    ·rw[List.append_assoc,hid];exact hG
   refine bj (t:=({ t.1 with pod:=(Yq t.1.pod).1 },t.2.1,s')) h hA hg hp' (λh4'=>?_) λh4' sA' w hA' h=>?_
   ·refine fin (s:=flB b rA rW F2++(sA++(sW++((A++({ t.1 with pod:=(Yq t.1.pod).1 },t.2.1,s')::B).map trS).flatten))) ⟨okd,rA,rW,mA,mW,sA,sW,_,hA,hW,?_,rfl⟩ (h.eq (by simp));have:=hr.upd ok (λp=>(Yq p).1) hp' h4' hwth;unfold Kk;rw[←hid];exact this
   ·refine fin (s:=flB b rA rW F2++(sA'++(sW++((A++B).map trS).flatten))) ⟨okd,rA,rW,_,mW,sA',sW,_,hA',hW,?_,rfl⟩ (h.eq (by simp));have:=hr.del ok (λp=>(Yq p).1) h4' hwth;unfold Kk;rw[←hid];exact this
  ·have e0:q=0:=by split at hc<;>omega
   subst e0;have e1:F2=(xn F rev conc want).1:=hF;have e2:gone=(xn F rev conc want).2:=by rw[←hG];simp[shrink]
   refine Ot h (hv.rd YI h 2 rfl) (by omega) (Rw.nil_of YI hv) λv1 s1 w hr1 _ h=>?_;refine Ot h (hv2.rd YI h 2 rfl) (by omega) (Rw.nil_of YI hv2) λv3 s3 w hr3 _ h=>?_;refine⟨_,rfl,hk v1 v3 s s1 s3 w (by rw[←e1];exact hf) hr1 (by rw[←e2];exact hr3) ?_⟩;have h:=Qj (uU h);have h:=Zm (yL (yL h));exact St.back (i+2) (E:=s3::s1::E) hi h
end Go.Proofs.YtimahgbgejngiaaGreatDoor
namespace Go.Proofs.YtimahgbgejngiaaGreatDoor
open Go.Dm
attribute [local irreducible] L.load L.store L.chk L.new L.nonnil L.guard L.ite L.draw L.idx L.sem L.semR L.semU L.chkSem L.next L.call L.callV L.join L.alts L.loop L.begin L.endRound L.range
variable {w0 w:World}{E:List Seg}
def eC(p:Int×Int):List Value:=[I p.1,I p.2]
def uT:Enc eC 2:=⟨λ_=>rfl,λ_=>rfl,by decide⟩
def elC:El Pr ZY zr 2 16 (.agg #[I 0,I 0]):=Gj (by kernel_rfl) (by kernel_rfl) rfl (by decide)
def Rw.stC{v:Sl}{l:List (Int×Int)}{s:Seg}{e:Nat}(h:St w0 E w)(k:Nat)(hi:nth E k=some s)(hr:Rw eC e 2 v l s){i:Nat}{a:Addr}(ha:ElA v 2 i a)(hx:i<l.length)(y:Int×Int){kk:PT}
  (hk:∀s' w',Rw eC e 2 v (l.set i y) s'→St w0 (zd E k s') w'→kk w'):L.store a [I y.1,I y.2] kk w:=by
 obtain⟨a0,hv,rfl⟩:=ha;have hx0:l[i]? = some l[i]:=List.getElem?_eq_getElem hx;generalize l[i]=x at hx0;have e1:zd (fl eC l) (i*2+0) (I y.1)=fl eC (l.set i (y.1,x.2)):=wS uT hx0 (by decide) rfl;have e2:zd (fl eC (l.set i (y.1,x.2))) (i*2+1) (I y.2)=fl eC ((l.set i (y.1,x.2)).set i y):=wS uT (x:=(y.1,x.2)) (by simp[hx]) (by decide) rfl;rw[List.set_set]at e2;have hset:zd (zd (fl eC l) (i*2+0) (I y.1)) (i*2+1) (I y.2)=fl eC (l.set i y):=by rw[e1,e2]
 have hlt:i*2+1<(fl eC l).length:=by rw[qB uT];omega
 unfold Rw at hr hk;rw[←hset]at hk;have hlen2:(zd (zd (fl eC l) (i*2+0) (I y.1)) (i*2+1) (I y.2)).length=(fl eC l).length:=by rw[Yo,Yo];simp
 have hlen1:(zd (fl eC l) (i*2+0) (I y.1)).length=(fl eC l).length:=by rw[Yo];simp
 generalize fl eC l=xs at *
 cases hr with
 | nil=>cases hv
 | mk g n cap pre xs spare post h1 h2 h3 h4=>
  cases hv
  rw[ji];have hn:∀j,j≤1→∃c,nth (pre++(xs++(spare++post))) (pre.length+(i*2+j))=some c:=λj hj=>by
   rw[JV,ua (by omega),zN];exact⟨_,List.getElem?_eq_getElem (by omega)⟩
  refine stx [I y.1,I y.2] h k hi ?_ rfl λw' h=>hk _ w' (Row.mk g n cap pre _ spare post (by rw[hlen2];exact h1) (by rw[hlen2];exact h2) h3 h4) ?_
  ·obtain⟨c0,hc0⟩:=hn 0 (by omega);obtain⟨c1,hc1⟩:=hn 1 (by omega);simp only[Nat.add_zero]at hc0;simp[Ta,hc0,hc1,Nat.add_assoc]
  ·simp only[zE]at h;have q1:zd (xs++(spare++post)) (i*2+0) (I y.1)=zd xs (i*2+0) (I y.1)++(spare++post):=vN (by omega);have q2:zd (zd xs (i*2+0) (I y.1)++(spare++post)) (i*2+1) (I y.2)=zd (zd xs (i*2+0) (I y.1)) (i*2+1) (I y.2)++(spare++post):=vN (by omega);rw[show pre.length+i*2=pre.length+(i*2+0)from rfl,Ug,q1,show pre.length+(i*2+0)+1=pre.length+(i*2+1)by omega,Ug,q2]at h;exact h
def Kf(x:Int×Int):List (Int×Int)→List (Int×Int)
 | []=>[x]
 | y::l=>if x.1<y.1 then x::y::l else y::Kf x l
def Yw(l:List (Int×Int)):List (Int×Int):=l.foldl (λa x=>Kf x a) []
def kK(x:Int×Int)(l:List (Int×Int)):(Kf x l).Perm (x::l):=by
 induction l with
 | nil=>exact .refl _
 | cons y l ih=>
  simp only[Kf];split
  ·exact .refl _
  ·exact(ih.cons y).trans (.swap ..)
def Bl{x:Int×Int}:∀{l:List (Int×Int)},l.Pairwise (λa b=>a.1≤b.1)→(Kf x l).Pairwise (λa b=>a.1≤b.1)
 | [],_=>by simp[Kf]
 | y::l,h=>by
  rw[List.pairwise_cons]at h;simp only[Kf];split
  ·rename_i hy;rw[List.pairwise_cons];refine⟨λz hz=>?_,List.pairwise_cons.2 h⟩;rcases List.mem_cons.1 hz with rfl | hz
   ·omega
   ·have:=h.1 z hz;omega
  ·rename_i hy;rw[List.pairwise_cons];refine⟨λz hz=>?_,Bl h.2⟩;rcases List.mem_cons.1 ((kK x l).mem_iff.1 hz)with rfl | hz
   ·omega
   ·exact h.1 z hz
def RL{l:List (Int×Int)}{i:Nat}{x:Int×Int}(h:l[i]? = some x):Yw (l.take (i+1))=Kf x (Yw (l.take i)):=by
 unfold Yw;rw[List.take_add_one,h,List.foldl_append];rfl
def YZ(l:List (Int×Int)):(Yw l).length=l.length:=by
 suffices ∀(l a:List (Int×Int)),(l.foldl (λa x=>Kf x a) a).length=a.length+l.length by
  have:=this l [];simpa [Yw]using this
 intro l
 induction l with
 | nil=>simp
 | cons x l ih=>intro a;rw[List.foldl_cons,ih,(kK x a).length_eq];simp;omega
def LC(l:List (Int×Int)):(Yw l).Pairwise (λa b=>a.1≤b.1):=by
 suffices ∀(l a:List (Int×Int)),a.Pairwise (λa b=>a.1≤b.1)→(l.foldl (λa x=>Kf x a) a).Pairwise (λa b=>a.1≤b.1)from this l [] .nil
 intro l
 induction l with
 | nil=>exact λa h=>h
 | cons x l ih=>exact λa h=>ih _ (Bl h)
def Bm{x:Int×Int}:∀{A B:List (Int×Int)},(∀y∈A,¬x.1<y.1)→(∀y∈B,x.1<y.1)→Kf x (A++B)=A++x::B
 | [],[],_,_=>rfl
 | [],y::B,_,h=>by simp only[List.nil_append,Kf];rw[if_pos (h y (by simp))]
 | y::A,B,h1,h2=>by
  simp only[List.cons_append,Kf];rw[if_neg (h1 y (by simp)),Bm (λz hz=>h1 z (by simp[hz])) h2]
def QU{E:List Seg}{i:Nat}{s s':Seg}(hi:nth E i=some s):nth (zd E i s') i=some s':=by
 rw[zN]at *
 rw[Yo,List.getElem?_set_self];exact(List.getElem?_eq_some_iff.1 hi).1
def qa{E:List Seg}{i:Nat}{s s':Seg}:zd (zd E i s) i s'=zd E i s':=by
 rw[Yo,Yo,Yo,List.set_set]
abbrev Cb:Value:=.func (.func Zf) #[] #[]
def Ev(h:St w0 E w){a b c d:Int}(h1: -4611686018427387904<a∧a<4611686018427387904)(h2: -4611686018427387904<c∧c<4611686018427387904){k:Int→PT}(hk:∀w',St w0 E w'→k (a-c) w') :
  L.callV Pr Cb [.agg #[I a,I b],.agg #[I c,I d]] (.one (.one (.int .i64))) k w:=by
 refine xd (fs:=#[]) (cs:=#[]) Fp (FC (a,b,()) (c,d,())) ?_;unfold Vd;refine nw h ?_;clear h;intro b1 w h;refine nw h ?_;clear h;intro b2 w h
 (dsimp only[zd,List.cons_append,List.nil_append]at h;refine ldC h ?_;refine ldC h ?_)
 refine⟨_,rfl,?_⟩
 (try dsimp only)
 rw[wr (by omega) (by omega)];exact hk w (zj (zj h))
def z06{α:Type}{Q T:List α}{z x:α}:(Q++z::x::T)[Q.length]? = some z∧(Q++z::x::T)[Q.length+1]? = some x∧((Q++z::x::T).set (Q.length+1) z).set Q.length x=Q++x::z::T:=by
 refine⟨by simp,by simp,by simp[List.set_append]⟩
def Dw(h:St w0 E w)(i:Nat){s:Seg}(hi:nth E i=some s){v:Sl}{P M R:List (Int×Int)}(hr:Rw eC zr 2 v (P++(M++R)) s)(hn:(P++(M++R)).length<1000000000)
  (hb:∀x∈M,-4611686018427387904<x.1∧x.1<4611686018427387904) {a b:Int} (ha:a=P.length) (hbb:b=P.length+M.length) {k:Unit→PT} (hk:∀s' w',Rw eC zr 2 v (P++(Yw M++R)) s'→St w0 (zd E i s') w'→k () w') :
  L.call Pr ZL [.slice v.a v.len v.cap,I a,I b,Cb] (.tup []) k w:=by
 subst ha hbb;refine za (Xw _ _ _ ⟨.func Zf,#[],#[]⟩) ?_;unfold YU;have hlen:=Rw.len uT hr;simp only[List.length_append]at hn hlen;rw[wr (by omega) (by omega)];have hcb:∀m,∀x∈Yw (M.take m),x∈M:=λm x hx=>by
  have:(Yw (M.take m)).Perm (M.take m):=by
   suffices ∀(l a:List (Int×Int)),(l.foldl (λa x=>Kf x a) a).Perm (a++l)from by simpa [Yw]using this (M.take m) []
   intro l
   induction l with
   | nil=>intro a;simp
   | cons y l ih=>
    intro a;refine(ih _).trans (((kK y a).append_right l).trans ?_);exact(List.perm_middle (a:=y) (l₁:=a) (l₂:=l)).symm
  exact List.mem_of_mem_take (this.mem_iff.1 hx)
 have h1:Yw (M.take 1)=M.take 1:=by cases M<;>rfl
 refine zX (λq y w=>∃(m:Nat)(s:Seg),y=(((P.length+m:Nat):Int),())∧1≤m∧q+m=max 1 M.length∧Rw eC zr 2 v (P++(Yw (M.take m)++(M.drop m++R))) s∧St w0 (zd E i s) w) (max 1 M.length-1)
  ⟨1,s,rfl,by omega,by omega,by rw[h1,←List.append_assoc (M.take 1),List.take_append_drop];exact hr,by rwa [yy hi]⟩ ?_
 clear hr;clear h;rintro q y w ⟨m,s,rfl,hm,hq,hr,h⟩ again hag
 (try dsimp only)
 refine it (λhc=>?_) (λhc=>?_)<;>(try simp only[zB]at hc)
 ·have hm2:m<M.length:=by omega
  have hx:M[m]? = some M[m]:=List.getElem?_eq_getElem hm2;have hxm:M[m]∈M:=List.getElem_mem hm2;have hdrop:M.drop m=M[m]::M.drop (m+1):=List.drop_eq_getElem_cons hm2;have hct:=RL hx;have hcl:=YZ (M.take m);rw[List.length_take,Nat.min_eq_left (by omega)]at hcl;have hpw:=LC (M.take m);generalize M[m]=x at *
  rw[hdrop]at hr;have hnT:(M.drop (m+1)).length=M.length-(m+1):=List.length_drop ..;refine ZC (λz w=>∃s,Rw eC zr 2 v (P++(Yw (M.take (m+1))++(M.drop (m+1)++R))) s∧St w0 (zd E i s) w) (λk3 hk3=>?_) (λz w ⟨s,hr,h⟩=>?_)
  ·refine zX (λq y w=>∃(A B:List (Int×Int))(s:Seg),y=(((P.length+A.length:Nat):Int),())∧q=A.length∧A++B=Yw (M.take m)∧(∀y∈B,x.1<y.1)∧Rw eC zr 2 v ((P++A)++x::(B++(M.drop (m+1)++R))) s∧St w0 (zd E i s) w) m
    ⟨Yw (M.take m),[],s,by rw[hcl],hcl.symm,by simp,by simp,by simpa [List.append_assoc]using hr,h⟩ ?_
   clear hr;clear h;rintro q2 y w ⟨A,B,s,rfl,hq2,hAB,hB,hr,h⟩ again2 hag2
   (try dsimp only)
   have stop:∀{w},(∀y∈A,¬x.1<y.1)→St w0 (zd E i s) w→k3 () w:=by
    intro w hA h;refine hk3 _ w ⟨s,?_,h⟩;rw[hct,←hAB,Bm hA hB];simpa [List.append_assoc]using hr
   have hsi:nth (zd E i s) i=some s:=QU hi;refine dr h λw h=>?_;refine it (λhd=>?_) (λhd=>?_)<;>(try simp only[zB]at hd)
   ·have hA0:A≠[]:=λe=>by subst e;simp at hd
    obtain⟨A',z,rfl⟩:∃A' z,A=A'++[z]:=⟨A.dropLast,A.getLast hA0,(List.dropLast_concat_getLast hA0).symm⟩;have eL:(P++(A'++[z]))++x::(B++(M.drop (m+1)++R))=(P++A')++z::x::(B++(M.drop (m+1)++R)):=by simp
    rw[eL]at hr;obtain⟨g1,g2,g3⟩:=z06 (Q:=P++A') (z:=z) (x:=x) (T:=B++(M.drop (m+1)++R));have hlA:(P++A').length=P.length+A'.length:=List.length_append ..;have hl2:=congrArg List.length hAB;simp only[List.length_append,List.length_singleton,hcl]at hl2 hd hq2 ⊢;have hzM:z∈M:=hcb m z (by rw[←hAB];simp);have ix1:((P.length+(A'.length+1):Nat):Int).toNat=(P++A').length+1:=by rw[Int.toNat_natCast];omega
    have ix0:(((P.length+(A'.length+1):Nat):Int)-1).toNat=(P++A').length:=by omega
    have lt1:(P++A').length+1<((P++A')++z::x::(B++(M.drop (m+1)++R))).length:=by simp only[List.length_append,List.length_cons];omega
    rw[wr (n:=((P.length+(A'.length+1):Nat):Int)-1) (by omega) (by omega)];refine Rw.ix uT hr (by omega) (by rw[ix1];exact lt1) λa ha=>?_;rw[ix1]at ha;refine Rw.lda uT h i hsi hr ha g2 rfl ?_;refine Rw.ix uT hr (by omega) (by rw[ix0];omega) λa2 ha2=>?_;rw[ix0]at ha2;refine Rw.lda uT h i hsi hr ha2 g1 rfl ?_;refine Ev h (hb x hxm) (hb z hzM) λw h=>?_;refine it (λhe=>?_) (λhe=>?_)<;>(try simp only[zB]at he)
    ·refine dr h λw h=>?_;refine Rw.ix uT hr (by omega) (by rw[ix0];omega) λa3 ha3=>?_;rw[ix0]at ha3;refine Rw.lda uT h i hsi hr ha3 g1 rfl ?_;refine Rw.ix uT hr (by omega) (by rw[ix1];exact lt1) λa4 ha4=>?_;rw[ix1]at ha4;refine Rw.lda uT h i hsi hr ha4 g2 rfl ?_;refine Rw.ix uT hr (by omega) (by rw[ix1];exact lt1) λa5 ha5=>?_;rw[ix1]at ha5;refine Rw.stC h i hsi hr ha5 lt1 z λs1 w hr1 h=>?_;have hs1:nth (zd (zd E i s) i s1) i=some s1:=QU hsi;refine Rw.ix uT hr1 (by omega) (by rw[ix0,List.length_set];omega) λa6 ha6=>?_;rw[ix0]at ha6;refine Rw.stC h i hs1 hr1 ha6 (by rw[List.length_set];omega) x λs2 w hr2 h=>?_;rw[g3]at hr2;refine hag2 (q2-1) _ w (by omega) ⟨A',z::B,s2,?_,by omega,by simpa using hAB,?_,by simpa using hr2,?_⟩
     ·congr 1;omega
     ·intro y hy;rcases List.mem_cons.1 hy with rfl | hy
      ·omega
      ·exact hB y hy
     ·rwa [qa,qa]at h
    ·refine stop (λy hy=>?_) h;rw[←hAB,List.pairwise_append]at hpw;have hpw:=hpw.1;rw[List.pairwise_append]at hpw;rcases List.mem_append.1 hy with hy | hy
     ·have:=hpw.2.2 y hy z (by simp);omega
     ·simp at hy;subst hy;omega
   ·have:A = []:=List.eq_nil_of_length_eq_zero (by omega);subst this;exact stop (by simp) h
  ·refine hag (q-1) _ w (by omega) ⟨m+1,s,?_,by omega,by omega,hr,h⟩;rw[wr (by omega) (by omega)];congr 1
 ·have e:M.drop m = []:=List.drop_eq_nil_of_le (by omega);have e2:M.take m=M:=List.take_of_length_le (by omega);rw[e,e2,List.nil_append]at hr;exact⟨(),rfl,hk s w hr h⟩
def Hm{a b:Int}(ha:0≤a)(hb:0≤b)(h:a+b<4611686018427387904):Wi (Int.fdiv (IntKind.wrap .u64 (Wi (a+b))) (2 ^ (min (Int.toNat 1) 64)))=(a+b)/2:=by
 rw[wr (n:=a+b) (by omega) (by omega)];have e:IntKind.wrap .u64 (a+b)=a+b:=by
  unfold IntKind.wrap;have h1:(IntKind.u64.signed)=false:=rfl;have h2:(2 ^ IntKind.u64.bits:Int)=18446744073709551616:=by decide
  rw[h1,h2];simp only[Bool.false_and,Bool.false_eq_true,if_false];omega
 rw[e];have e2:(2 ^ (min (Int.toNat 1) 64):Int)=2:=by decide
 rw[e2,Int.fdiv_eq_ediv_of_nonneg _ (by decide),wr (by omega) (by omega)]
def rC{α:Type}{Q T U:List α}{x y:α}:(Q++x::(T++y::U))[Q.length]? = some x∧(Q++x::(T++y::U))[Q.length+(1+T.length)]? = some y∧
  ((Q++x::(T++y::U)).set Q.length y).set (Q.length+(1+T.length)) x=Q++y::(T++x::U)∧((Q++x::(T++y::U)).set (Q.length+(1+T.length)) x).set Q.length y=Q++y::(T++x::U):=by
 have e:(1+T.length)=T.length+1:=by omega
 rw[e];refine⟨by simp,?_,?_,?_⟩
 ·rw[List.getElem?_append_right (by omega)];simp
 ·simp[List.set_append]
 ·simp[List.set_append]
def eA{l:List (Int×Int)}(h:St w0 E w)(i:Nat){s:Seg}(hi:nth E i=some s){v:Sl}(hr:Rw eC zr 2 v l s){p q:Int}{x y:Int×Int}(p0:0≤p)(q0:0≤q)(hx:l[p.toNat]? = some x)(hy:l[q.toNat]? = some y){k:PT}
  (hk:∀s' w',Rw eC zr 2 v ((l.set p.toNat y).set q.toNat x) s'→St w0 (zd E i s') w'→k w') :
  (L.draw<| L.idx v.a q v.len 2 λa3=>L.load (.agg [.int .i64,.int .i64]) a3 λ(x4:Int×Int×Unit)=>L.idx v.a p v.len 2 λa5=>L.load (.agg [.int .i64,.int .i64]) a5 λ(x6:Int×Int×Unit)=>
   L.idx v.a p v.len 2 λa7=>L.store a7 [.int .i64 x4.1,.int .i64 x4.2.1]<| L.idx v.a q v.len 2 λa8=>L.store a8 [.int .i64 x6.1,.int .i64 x6.2.1] k) w:=by
 have hp:=(List.getElem?_eq_some_iff.1 hx).1;have hq:=(List.getElem?_eq_some_iff.1 hy).1;refine dr h λw h=>?_;refine Rw.ix uT hr q0 hq λa ha=>?_;refine Rw.lda uT h i hi hr ha hy (y:=(y.1,y.2,())) rfl ?_;refine Rw.ix uT hr p0 hp λa2 ha2=>?_;refine Rw.lda uT h i hi hr ha2 hx (y:=(x.1,x.2,())) rfl ?_;refine Rw.ix uT hr p0 hp λa3 ha3=>?_;refine Rw.stC h i hi hr ha3 hp y λs1 w hr1 h=>?_;refine Rw.ix uT hr1 q0 (by rw[List.length_set];exact hq) λa6 ha6=>?_;refine Rw.stC h i (QU hi) hr1 ha6 (by rw[List.length_set];exact hq) x λs2 w hr2 h=>?_;rw[qa]at h;exact hk s2 w hr2 h
def Wg(h:St w0 E w)(i:Nat){s:Seg}(hi:nth E i=some s){v:Sl}{P A M B R:List (Int×Int)}(hr:Rw eC zr 2 v (P++(A++(M++(B++R)))) s)(hn:(P++(A++(M++(B++R)))).length<1000000000)(hAB:A.length=B.length)
  {a b n:Int} (ha:a=P.length) (hb:b=P.length+(A.length+M.length)) (hnn:n=A.length) {k:Unit→PT} (hk:∀s' w',Rw eC zr 2 v (P++(B++(M++(A++R)))) s'→St w0 (zd E i s') w'→k () w') :
  L.call Pr ZD [.slice v.a v.len v.cap,I a,I b,I n,Cb] (.tup []) k w:=by
 subst ha hb hnn;refine za (qS _ _ _ _ ⟨.func Zf,#[],#[]⟩) ?_;unfold jH;simp only[List.length_append]at hn
 refine zX (λq y w=>∃(j:Nat)(s:Seg),y=((j:Int),())∧q+j=A.length∧Rw eC zr 2 v (P++((B.take j++A.drop j)++(M++((A.take j++B.drop j)++R)))) s∧St w0 (zd E i s) w) A.length
  ⟨0,s,rfl,rfl,by simpa using hr,by rwa [yy hi]⟩ ?_
 clear hr;clear h;rintro q y w ⟨j,s,rfl,hq,hr,h⟩ again hag
 (try dsimp only)
 have hsi:nth (zd E i s) i=some s:=QU hi;refine it (λhc=>?_) (λhc=>?_)<;>(try simp only[zB]at hc)
 ·have hA:A.drop j=A[j]::A.drop (j+1):=List.drop_eq_getElem_cons (by omega);have hB:B.drop j=B[j]::B.drop (j+1):=List.drop_eq_getElem_cons (by omega);have tA:A.take (j+1)=A.take j++[A[j]]:=by rw[List.take_add_one,List.getElem?_eq_getElem (by omega)];rfl
  have tB:B.take (j+1)=B.take j++[B[j]]:=by rw[List.take_add_one,List.getElem?_eq_getElem (by omega)];rfl
  have lA:(A.take j).length=j:=by rw[List.length_take];omega
  have lB:(B.take j).length=j:=by rw[List.length_take];omega
  have dA:(A.drop (j+1)).length=A.length-(j+1):=List.length_drop ..;generalize A[j]=x at *
  generalize B[j]=y at *
  have eD:P++((B.take j++A.drop j)++(M++((A.take j++B.drop j)++R)))=(P++B.take j)++x::((A.drop (j+1)++(M++A.take j))++y::(B.drop (j+1)++R)):=by rw[hA,hB];simp
  have eD2:(P++B.take j)++y::((A.drop (j+1)++(M++A.take j))++x::(B.drop (j+1)++R))=P++((B.take (j+1)++A.drop (j+1))++(M++((A.take (j+1)++B.drop (j+1))++R))):=by rw[tA,tB];simp
  rw[eD]at hr;obtain⟨g1,g2,g3,-⟩:=rC (Q:=P++B.take j) (T:=A.drop (j+1)++(M++A.take j)) (U:=B.drop (j+1)++R) (x:=x) (y:=y);rw[eD2]at g3;have l1:(P++B.take j).length=P.length+j:=by rw[List.length_append,lB]
  have l2:(P++B.take j).length+(1+(A.drop (j+1)++(M++A.take j)).length)=P.length+(A.length+M.length)+j:=by rw[l1];simp only[List.length_append,dA,lA];omega
  rw[l2]at g2 g3;rw[l1]at g1 g3;rw[wr (n:=(P.length:Int)+(A.length+M.length)+j) (by omega) (by omega),wr (n:=(P.length:Int)+j) (by omega) (by omega)];have i1:((P.length:Int)+j).toNat=P.length+j:=by omega
  have i2:((P.length:Int)+(A.length+M.length)+j).toNat=P.length+(A.length+M.length)+j:=by omega
  refine eA h i hsi hr (p:=(P.length:Int)+j) (q:=(P.length:Int)+(A.length+M.length)+j) (by omega) (by omega) (by rw[i1];exact g1) (by rw[i2];exact g2) λs' w hr h=>?_;rw[i1,i2,g3]at hr;rw[qa]at h;refine hag (q-1) _ w (by omega) ⟨j+1,s',?_,by omega,hr,h⟩;rw[wr (by omega) (by omega)];rfl
 ·have e1:A.drop j = []:=List.drop_eq_nil_of_le (by omega);have e2:A.take j=A:=List.take_of_length_le (by omega);have e3:B.drop j = []:=List.drop_eq_nil_of_le (by omega);have e4:B.take j=B:=List.take_of_length_le (by omega);rw[e1,e2,e3,e4,List.append_nil,List.append_nil]at hr;exact⟨(),rfl,hk s w hr h⟩
def z0h(h:St w0 E w)(i:Nat){s:Seg}(hi:nth E i=some s){v:Sl}{P A B R:List (Int×Int)}(hr:Rw eC zr 2 v (P++(A++(B++R))) s)(hn:(P++(A++(B++R))).length<1000000000)(hA:A≠[])(hB:B≠[])
  {a m b:Int} (ha:a=P.length) (hm:m=P.length+A.length) (hb:b=P.length+(A.length+B.length)) {k:Unit→PT} (hk:∀s' w',Rw eC zr 2 v (P++(B++(A++R))) s'→St w0 (zd E i s') w'→k () w') :
  L.call Pr Yr [.slice v.a v.len v.cap,I a,I m,I b,Cb] (.tup []) k w:=by
 subst ha hm hb;refine za (QO _ _ _ _ ⟨.func Zf,#[],#[]⟩) ?_;unfold Jm;simp only[List.length_append]at hn;rw[wr (n:=(P.length:Int)+A.length-P.length) (by omega) (by omega),wr (n:=(P.length:Int)+(A.length+B.length)-(P.length+A.length)) (by omega) (by omega)];have hA1:=List.length_pos_iff.2 hA;have hB1:=List.length_pos_iff.2 hB
 refine zX (λq y w=>∃(X A' B' Y:List (Int×Int))(s:Seg),y=((A'.length:Int),(B'.length:Int),())∧q=A'.length+B'.length∧0<A'.length∧0<B'.length∧X.length+A'.length=A.length∧Y.length+B'.length=B.length∧X++(B'++(A'++Y))=B++A∧
  Rw eC zr 2 v (P++(X++(A'++(B'++(Y++R))))) s∧St w0 (zd E i s) w) (A.length+B.length)
  ⟨[],A,B,[],s,by simp;omega,rfl,hA1,hB1,by simp,by simp,by simp,by simpa using hr,by rwa [yy hi]⟩ ?_
 clear hr;clear h;rintro q y w ⟨X,A',B',Y,s,rfl,hq,hA',hB',hX,hY,hXY,hr,h⟩ again hag
 (try dsimp only)
 have hsi:nth (zd E i s) i=some s:=QU hi;have hnn:(P++(X++(A'++(B'++(Y++R))))).length<1000000000:=by simp only[List.length_append];omega
 refine it (λhc=>?_) (λhc=>?_)<;>(try simp only[zB]at hc)
 ·refine it (λhd=>?_) (λhd=>?_)<;>(try simp only[zB]at hd)
  ·obtain⟨A1,A2,rfl,l1⟩:∃A1 A2,A'=A1++A2∧A1.length=B'.length:=⟨A'.take B'.length,A'.drop B'.length,(List.take_append_drop ..).symm,by rw[List.length_take];omega⟩;simp only[List.length_append]at hX hq hd hA' hnn ⊢;rw[wr (n:=(P.length:Int)+A.length-((A1.length+A2.length:Nat):Int)) (by omega) (by omega)];refine Wg (P:=P++X) (A:=A1) (M:=A2) (B:=B') (R:=Y++R) h i hsi (by simpa using hr) (by simp only[List.length_append];omega) l1 (by rw[List.length_append];omega) (by rw[List.length_append];omega) (by omega) λs' w hr h=>?_;rw[qa]at h;rw[wr (by omega) (by omega)];refine hag (A2.length+A1.length) _ w (by omega) ⟨X++B',A2,A1,Y,s',?_,rfl,by omega,by omega,by rw[List.length_append];omega,by omega,by rw[←hXY];simp,by simpa using hr,h⟩;rw[l1]
   congr 1
   omega
  ·obtain⟨B1,B2,rfl,l1⟩:∃B1 B2,B'=B1++B2∧B2.length=A'.length:=⟨B'.take (B'.length-A'.length),B'.drop (B'.length-A'.length),(List.take_append_drop ..).symm,by rw[List.length_drop];omega⟩;simp only[List.length_append]at hY hq hd hB' hnn hc ⊢;rw[wr (n:=(P.length:Int)+A.length-(A'.length:Int)) (by omega) (by omega),wr (n:=(P.length:Int)+A.length+((B1.length+B2.length:Nat):Int)) (by omega) (by omega),wr (n:=(P.length:Int)+A.length+((B1.length+B2.length:Nat):Int)-(A'.length:Int)) (by omega) (by omega)];refine Wg (P:=P++X) (A:=A') (M:=B1) (B:=B2) (R:=Y++R) h i hsi (by simpa using hr) (by simp only[List.length_append];omega) l1.symm (by rw[List.length_append];omega) (by rw[List.length_append];omega) (by omega) λs' w hr h=>?_;rw[qa]at h;rw[wr (by omega) (by omega)];refine hag (B2.length+B1.length) _ w (by omega) ⟨X,B2,B1,A'++Y,s',?_,rfl,by omega,by omega,by omega,by rw[List.length_append];omega,by rw[←hXY];simp,by simpa using hr,h⟩;rw[←l1]
   congr 2
   omega
 ·rw[wr (n:=(P.length:Int)+A.length-(A'.length:Int)) (by omega) (by omega)];refine Wg (P:=P++X) (A:=A') (M:=[]) (B:=B') (R:=Y++R) h i hsi (by simpa using hr) (by simp only[List.length_append,List.length_nil];omega) (by omega) (by rw[List.length_append];omega) (by rw[List.length_append,List.length_nil];omega) rfl λs' w hr h=>?_;rw[qa]at h;refine⟨(),rfl,hk s' w ?_ h⟩;have e:P++(B++(A++R))=(P++X)++(B'++([]++(A'++(Y++R)))):=by
   have:=congrArg (λz=>P++(z++R)) hXY;simpa using this.symm
  rw[e];exact hr
def dT(x y:Int×Int):Prop:=x.1<y.1∨(x.1=y.1∧x.2<y.2)
abbrev Ls(l:List (Int×Int)):Prop:=l.Pairwise dT
def Ll{x:Int×Int}:∀{l:List (Int×Int)},Ls l→(∀y∈l,y.2<x.2)→Ls (Kf x l)
 | [],_,_=>by simp[Kf]
 | y::l,h,hx=>by
  have h:=List.pairwise_cons.1 h;simp only[Kf];split
  ·rename_i hy;refine List.pairwise_cons.2 ⟨λz hz=>?_,List.pairwise_cons.2 h⟩;rcases List.mem_cons.1 hz with rfl | hz
   ·exact .inl hy
   ·rcases h.1 z hz with h | h
    ·exact .inl (by omega)
    ·exact .inl (by omega)
  ·rename_i hy;refine List.pairwise_cons.2 ⟨λz hz=>?_,Ll h.2 λz hz=>hx z (by simp[hz])⟩;rcases List.mem_cons.1 ((kK x l).mem_iff.1 hz)with rfl | hz
   ·have:=hx y (by simp);by_cases he:y.1=z.1
    ·exact .inr ⟨he,this⟩
    ·exact .inl (by omega)
   ·exact h.1 z hz
def qC(l:List (Int×Int)):(Yw l).Perm l:=by
 suffices ∀(l a:List (Int×Int)),(l.foldl (λa x=>Kf x a) a).Perm (a++l)from by simpa [Yw]using this l []
 intro l
 induction l with
 | nil=>intro a;simp
 | cons y l ih=>
  intro a;refine(ih _).trans (((kK y a).append_right l).trans ?_);exact(List.perm_middle (a:=y) (l₁:=a) (l₂:=l)).symm
def Ti{l:List (Int×Int)}(h:l.Pairwise λa b=>a.2<b.2):Ls (Yw l):=by
 suffices ∀(l a:List (Int×Int)),(a++l).Pairwise (λa b=>a.2<b.2)∨True→Ls a→l.Pairwise (λa b=>a.2<b.2)→(∀x∈a,∀y∈l,x.2<y.2)→Ls (l.foldl (λa x=>Kf x a) a) from
  this l [] (.inr trivial) .nil h (by simp)
 intro l
 induction l with
 | nil=>exact λa _ h _ _=>h
 | cons y l ih=>
  intro a _ ha hl hal;rw[List.pairwise_cons]at hl;refine ih _ (.inr trivial) (Ll ha λx hx=>hal x hx y (by simp)) hl.2 λx hx z hz=>?_;rcases List.mem_cons.1 ((kK y a).mem_iff.1 hx)with rfl | hx
  ·exact hl.1 z hz
  ·exact hal x hx z (by simp[hz])
def Lb:∀{l1 l2:List (Int×Int)},Ls l1→Ls l2→l1.Perm l2→l1=l2
 | [],l2,_,_,p=>p.nil_eq
 | x::l1,[],_,_,p=>by have:=p.length_eq;simp at this
 | x::l1,y::l2,h1,h2,p=>by
  have h1:=List.pairwise_cons.1 h1;have h2:=List.pairwise_cons.1 h2;have e:x=y:=by
   rcases List.mem_cons.1 (p.mem_iff.1 (by simp:x∈x::l1))with e | hx
   ·exact e
   ·rcases List.mem_cons.1 (p.mem_iff.2 (by simp:y∈y::l2))with e | hy
    ·exact e.symm
    ·have q1:=h1.1 y hy;have q2:=h2.1 x hx;unfold dT at q1 q2;omega
  subst e;rw[Lb h1.2 h2.2 p.cons_inv]
def Gf{l:List (Int×Int)}(h:Ls l){i j:Nat}{x y:Int×Int}(hij:i≤j)(hi:l[i]? = some x)(hj:l[j]? = some y):x.1≤y.1:=by
 rcases Nat.lt_or_ge i j with hlt | hge
 ·obtain⟨i1,rfl⟩:=List.getElem?_eq_some_iff.1 hi;obtain⟨j1,rfl⟩:=List.getElem?_eq_some_iff.1 hj;have:=List.pairwise_iff_getElem.1 h i j i1 j1 hlt;unfold dT at this;omega
 ·have:i=j:=by omega
  subst this;rw[hi]at hj;cases hj;omega
def wK{l:List (Int×Int)}{c:Nat}{z:Int×Int}(h:z∈l.take c):∃i,i<c∧l[i]? = some z:=by
 obtain⟨i,hi⟩:=List.mem_iff_getElem?.1 h;rw[List.getElem?_take]at hi;split at hi
 ·exact⟨i,by assumption,hi⟩
 ·cases hi
def wL{l:List (Int×Int)}{c:Nat}{z:Int×Int}(h:z∈l.drop c):∃i,c≤i∧l[i]? = some z:=by
 obtain⟨i,hi⟩:=List.mem_iff_getElem?.1 h;rw[List.getElem?_drop]at hi;exact⟨c+i,by omega,hi⟩
def Wn{l:List (Int×Int)}(h:St w0 E w)(i:Nat){s:Seg}(hi:nth E i=some s){v:Sl}(hr:Rw eC zr 2 v l s){p q:Int}{x y:Int×Int}(p0:0≤p)(q0:0≤q)(hx:l[p.toNat]? = some x)(hy:l[q.toNat]? = some y)
  (h1: -4611686018427387904<x.1∧x.1<4611686018427387904) (h2: -4611686018427387904<y.1∧y.1<4611686018427387904) {k:Int→PT} (hk:∀w',St w0 E w'→k (x.1-y.1) w') :
  (L.draw<| L.idx v.a p v.len 2 λa3=>L.load (.agg [.int .i64,.int .i64]) a3 λ(x4:Int×Int×Unit)=>L.idx v.a q v.len 2 λa5=>L.load (.agg [.int .i64,.int .i64]) a5 λ(x6:Int×Int×Unit)=>
   L.callV Pr Cb [.agg #[.int .i64 x4.1,.int .i64 x4.2.1],.agg #[.int .i64 x6.1,.int .i64 x6.2.1]] (.one (.one (.int .i64))) k) w:=by
 have hp:=(List.getElem?_eq_some_iff.1 hx).1;have hq:=(List.getElem?_eq_some_iff.1 hy).1;refine dr h λw h=>?_;refine Rw.ix uT hr p0 hp λa ha=>?_;refine Rw.lda uT h i hi hr ha hx (y:=(x.1,x.2,())) rfl ?_;refine Rw.ix uT hr q0 hq λa2 ha2=>?_;refine Rw.lda uT h i hi hr ha2 hy (y:=(y.1,y.2,())) rfl ?_;exact Ev h h1 h2 hk
def z0f(h:St w0 E w)(i:Nat){s:Seg}(hi:nth E i=some s){v:Sl}{P B R:List (Int×Int)}{x:Int×Int}(hr:Rw eC zr 2 v (P++(x::(B++R))) s)(hn:(P++(x::(B++R))).length<1000000000)(sB:Ls B)(hx2:∀y∈B,x.2<y.2)
  (hbx: -4611686018427387904<x.1∧x.1<4611686018427387904) (hb:∀y∈B,-4611686018427387904<y.1∧y.1<4611686018427387904) {a m b:Int} (ha:a=P.length) (hm:m=P.length+1) (hbb:b=P.length+(1+B.length))
  {k:Unit→PT} (hk:∀S s' w',Ls S→S.Perm (x::B)→Rw eC zr 2 v (P++(S++R)) s'→St w0 (zd E i s') w'→k () w') :
  L.call Pr zI [.slice v.a v.len v.cap,I a,I m,I b,Cb] (.tup []) k w:=by
 subst ha hm hbb;refine za (Yc _ _ _ _ ⟨.func Zf,#[],#[]⟩) ?_;unfold yc;simp only[List.length_append,List.length_cons]at hn;rw[wr (n:=(P.length:Int)+1-P.length) (by omega) (by omega)];refine itT (by simp;omega) ?_
 refine zX (λq y w=>∃c d:Nat,y=((P.length:Int)+1+c,(P.length:Int)+1+d,())∧q+c=d∧c≤d∧d≤B.length∧(∀(i:Nat) z,B[i]? = some z→i<c→z.1<x.1)∧(∀(i:Nat) z,B[i]? = some z→d≤i→¬z.1<x.1)∧St w0 E w) B.length
  ⟨0,B.length,by simp;omega,by omega,by omega,by omega,by intros;omega,by
   intro i z hz hi;have:=(List.getElem?_eq_some_iff.1 hz).1;omega,h⟩ ?_
 clear h;rintro q y w ⟨c,d,rfl,hq,hcd,hd,h1,h2,h⟩ again hag
 (try dsimp only)
 have ix:((P.length:Int)).toNat=P.length:=by omega
 have g0:(P++(x::(B++R)))[((P.length:Int)).toNat]? = some x:=by rw[ix];simp
 refine it (λhc=>?_) (λhc=>?_)<;>(try simp only[zB]at hc)
 ·have he:((P.length:Int)+1+c+((P.length:Int)+1+d))/2=(P.length:Int)+1+(((c+d)/2:Nat):Int):=by omega
  rw[Hm (by omega) (by omega) (by omega),he];obtain⟨e,hee⟩:∃e,e=(c+d)/2:=⟨_,rfl⟩;rw[←hee];have hel:e<B.length:=by omega
  have hz:B[e]? = some B[e]:=List.getElem?_eq_getElem hel;have hzm:B[e]∈B:=List.getElem_mem hel;generalize B[e]=z at hz hzm;have g1:(P++(x::(B++R)))[((P.length:Int)+1+(e:Int)).toNat]? = some z:=by
   have e1:((P.length:Int)+1+(e:Int)).toNat=P.length+(e+1):=by omega
   rw[e1,List.getElem?_append_right (by omega)];have e2:P.length+(e+1)-P.length=e+1:=by omega
   rw[e2,List.getElem?_cons_succ,List.getElem?_append_left hel,hz]
  refine gd (by decide) ?_;refine Wn h i hi hr (by omega) (by omega) g1 g0 (hb z hzm) hbx λw h=>?_;refine it (λhl=>?_) (λhl=>?_)<;>(try simp only[zB]at hl)
  ·refine hag (d-(e+1)) _ w (by omega) ⟨e+1,d,?_,by omega,by omega,hd,λi z' hz' hi=>?_,h2,h⟩
   ·rw[wr (by omega) (by omega)];congr 1
   ·have:=Gf sB (by omega) hz' hz;omega
  ·refine hag (e-c) _ w (by omega) ⟨c,e,rfl,by omega,by omega,by omega,h1,λi z' hz' hi=>?_,h⟩;have:=Gf sB hi hz hz';omega
 ·have e:d=c:=by omega
  subst e;refine zX (λq y w=>∃(j:Nat)(s:Seg),y=((P.length:Int)+j,())∧q+j=d∧Rw eC zr 2 v (P++(B.take j++x::(B.drop j++R))) s∧St w0 (zd E i s) w) d ⟨0,s,by simp,by omega,by simpa using hr,by rwa [yy hi]⟩ ?_;clear hr g0;clear h;rintro q y w ⟨j,s,rfl,hq,hr,h⟩ again hag
  (try dsimp only)
  have hsi:nth (zd E i s) i=some s:=QU hi;rw[wr (n:=(P.length:Int)+1+d-1) (by omega) (by omega)];refine it (λhc=>?_) (λhc=>?_)<;>(try simp only[zB]at hc)
  ·have hj:j<B.length:=by omega
   have hB:B.drop j=B[j]::B.drop (j+1):=List.drop_eq_getElem_cons hj;have tB:B.take (j+1)=B.take j++[B[j]]:=by rw[List.take_add_one,List.getElem?_eq_getElem hj];rfl
   have lB:(B.take j).length=j:=by rw[List.length_take];omega
   generalize B[j]=z at hB tB;have eD:P++(B.take j++x::(B.drop j++R))=(P++B.take j)++x::([]++z::(B.drop (j+1)++R)):=by rw[hB];simp
   have eD2:(P++B.take j)++z::([]++x::(B.drop (j+1)++R))=P++(B.take (j+1)++x::(B.drop (j+1)++R)):=by rw[tB];simp
   rw[eD]at hr;obtain⟨g1,g2,g3,-⟩:=rC (Q:=P++B.take j) (T:=[]) (U:=B.drop (j+1)++R) (x:=x) (y:=z);have l1:(P++B.take j).length=P.length+j:=by rw[List.length_append,lB]
   have l2:(P++B.take j).length+(1+([]:List (Int×Int)).length)=P.length+j+1:=by rw[l1];rfl
   rw[eD2,l2,l1]at g3;rw[l2]at g2;rw[l1]at g1;have i1:((P.length:Int)+j).toNat=P.length+j:=by omega
   have i2:((P.length:Int)+j+1).toNat=P.length+j+1:=by omega
   rw[wr (n:=(P.length:Int)+j+1) (by omega) (by omega)];refine eA h i hsi hr (by omega) (by omega) (by rw[i1];exact g1) (by rw[i2];exact g2) λs' w hr h=>?_;rw[i1,i2,g3]at hr;rw[qa]at h;exact hag (q-1) _ w (by omega) ⟨j+1,s',by congr 1,by omega,hr,h⟩
  ·have e:j=d:=by omega
   subst e;refine⟨(),rfl,hk (B.take j++x::B.drop j) s w ?_ ?_ (by simpa using hr) h⟩
   ·have sB':=sB;rw[←List.take_append_drop j B]at sB';have sB':=List.pairwise_append.1 sB';refine List.pairwise_append.2 ⟨sB'.1,List.pairwise_cons.2 ⟨λz hz=>?_,sB'.2.1⟩,λz hz y hy=>?_⟩
    ·obtain⟨i,hi,hz'⟩:=wL hz;have q1:=h2 i z hz' hi;have q2:=hx2 z (List.mem_of_mem_drop hz);unfold dT;omega
    ·rcases List.mem_cons.1 hy with rfl | hy
     ·obtain⟨i,hi,hz'⟩:=wK hz;exact .inl (h1 i z hz' hi)
     ·exact sB'.2.2 z hz y hy
   ·refine List.perm_middle.trans ?_;rw[List.take_append_drop]
def z0e(h:St w0 E w)(i:Nat){s:Seg}(hi:nth E i=some s){v:Sl}{P A R:List (Int×Int)}{y:Int×Int}(hr:Rw eC zr 2 v (P++(A++(y::R))) s)(hn:(P++(A++(y::R))).length<1000000000)(hA1:A.length≠1)(sA:Ls A)(hy2:∀x∈A,x.2<y.2)
  (hby: -4611686018427387904<y.1∧y.1<4611686018427387904) (hb:∀x∈A,-4611686018427387904<x.1∧x.1<4611686018427387904) {a m b:Int} (ha:a=P.length) (hm:m=P.length+A.length) (hbb:b=P.length+(A.length+1))
  {k:Unit→PT} (hk:∀S s' w',Ls S→S.Perm (A++[y])→Rw eC zr 2 v (P++(S++R)) s'→St w0 (zd E i s') w'→k () w') :
  L.call Pr zI [.slice v.a v.len v.cap,I a,I m,I b,Cb] (.tup []) k w:=by
 subst ha hm hbb;refine za (Yc _ _ _ _ ⟨.func Zf,#[],#[]⟩) ?_;unfold yc;simp only[List.length_append,List.length_cons]at hn;rw[wr (n:=(P.length:Int)+A.length-P.length) (by omega) (by omega),wr (n:=(P.length:Int)+(A.length+1)-(P.length+A.length)) (by omega) (by omega)];refine itF (by simp;omega) ?_;refine itT (by simp;omega) ?_
 refine zX (λq z w=>∃c d:Nat,z=((P.length:Int)+c,(P.length:Int)+d,())∧q+c=d∧c≤d∧d≤A.length∧(∀(i:Nat) z,A[i]? = some z→i<c→¬y.1<z.1)∧(∀(i:Nat) z,A[i]? = some z→d≤i→y.1<z.1)∧St w0 E w) A.length
  ⟨0,A.length,by simp,by omega,by omega,by omega,by intros;omega,by
   intro i z hz hi;have:=(List.getElem?_eq_some_iff.1 hz).1;omega,h⟩ ?_
 clear h;rintro q z w ⟨c,d,rfl,hq,hcd,hd,h1,h2,h⟩ again hag
 (try dsimp only)
 have g0:(P++(A++(y::R)))[((P.length:Int)+A.length).toNat]? = some y:=by
  have e1:((P.length:Int)+A.length).toNat=P.length+A.length:=by omega
  rw[e1,←List.append_assoc,List.getElem?_append_right (by simp)];simp
 refine it (λhc=>?_) (λhc=>?_)<;>(try simp only[zB]at hc)
 ·have he:((P.length:Int)+c+((P.length:Int)+d))/2=(P.length:Int)+(((c+d)/2:Nat):Int):=by omega
  rw[Hm (by omega) (by omega) (by omega),he];obtain⟨e,hee⟩:∃e,e=(c+d)/2:=⟨_,rfl⟩;rw[←hee];have hel:e<A.length:=by omega
  have hz:A[e]? = some A[e]:=List.getElem?_eq_getElem hel;have hzm:A[e]∈A:=List.getElem_mem hel;generalize A[e]=z at hz hzm;have g1:(P++(A++(y::R)))[((P.length:Int)+(e:Int)).toNat]? = some z:=by
   have e1:((P.length:Int)+(e:Int)).toNat=P.length+e:=by omega
   rw[e1,List.getElem?_append_right (by omega)];have e2:P.length+e-P.length=e:=by omega
   rw[e2,List.getElem?_append_left hel,hz]
  refine gd (by decide) ?_;refine Wn h i hi hr (by omega) (by omega) g0 g1 hby (hb z hzm) λw h=>?_;refine it (λhl=>?_) (λhl=>?_)<;>(try simp only[zB]at hl)
  ·refine hag (d-(e+1)) _ w (by omega) ⟨e+1,d,?_,by omega,by omega,hd,λi z' hz' hi=>?_,h2,h⟩
   ·rw[wr (by omega) (by omega)];congr 1
   ·have:=Gf sA (by omega) hz' hz;omega
  ·refine hag (e-c) _ w (by omega) ⟨c,e,rfl,by omega,by omega,by omega,h1,λi z' hz' hi=>?_,h⟩;have:=Gf sA hi hz hz';omega
 ·have e:d=c:=by omega
  subst e;refine zX (λq z w=>∃(j:Nat)(s:Seg),z=((P.length:Int)+j,())∧q+d=j∧j≤A.length∧Rw eC zr 2 v (P++(A.take j++y::(A.drop j++R))) s∧St w0 (zd E i s) w) (A.length-d) ⟨A.length,s,by simp,by omega,by omega,by simpa using hr,by rwa [yy hi]⟩ ?_;clear hr g0;clear h;rintro q z w ⟨j,s,rfl,hq,hj,hr,h⟩ again hag
  (try dsimp only)
  have hsi:nth (zd E i s) i=some s:=QU hi;refine it (λhc=>?_) (λhc=>?_)<;>(try simp only[zB]at hc)
  ·obtain⟨j,rfl⟩:∃j',j=j'+1:=⟨j-1,by omega⟩;have hA:A.drop j=A[j]::A.drop (j+1):=List.drop_eq_getElem_cons (by omega);have tA:A.take (j+1)=A.take j++[A[j]]:=by rw[List.take_add_one,List.getElem?_eq_getElem (by omega)];rfl
   have lA:(A.take j).length=j:=by rw[List.length_take];omega
   generalize A[j]=x at hA tA;have eD:P++(A.take (j+1)++y::(A.drop (j+1)++R))=(P++A.take j)++x::([]++y::(A.drop (j+1)++R)):=by rw[tA];simp
   have eD2:(P++A.take j)++y::([]++x::(A.drop (j+1)++R))=P++(A.take j++y::(A.drop j++R)):=by rw[hA];simp
   rw[eD]at hr;obtain⟨g1,g2,-,g3⟩:=rC (Q:=P++A.take j) (T:=[]) (U:=A.drop (j+1)++R) (x:=x) (y:=y);have l1:(P++A.take j).length=P.length+j:=by rw[List.length_append,lA]
   have l2:(P++A.take j).length+(1+([]:List (Int×Int)).length)=P.length+j+1:=by rw[l1];rfl
   rw[eD2,l2,l1]at g3;rw[l2]at g2;rw[l1]at g1;have i0:(P.length:Int)+((j+1:Nat):Int)-1=(P.length:Int)+j:=by omega
   have i1:((P.length:Int)+j).toNat=P.length+j:=by omega
   have i2:((P.length:Int)+((j+1:Nat):Int)).toNat=P.length+j+1:=by omega
   rw[wr (n:=(P.length:Int)+((j+1:Nat):Int)-1) (by omega) (by omega),i0];refine eA h i hsi hr (by omega) (by omega) (by rw[i2];exact g2) (by rw[i1];exact g1) λs' w hr h=>?_;rw[i1,i2,g3]at hr;rw[qa]at h;exact hag (q-1) _ w (by omega) ⟨j,s',rfl,by omega,by omega,hr,h⟩
  ·have e:j=d:=by omega
   subst e;refine⟨(),rfl,hk (A.take j++y::A.drop j) s w ?_ ?_ (by simpa using hr) h⟩
   ·have sA':=sA;rw[←List.take_append_drop j A]at sA';have sA':=List.pairwise_append.1 sA';refine List.pairwise_append.2 ⟨sA'.1,List.pairwise_cons.2 ⟨λz hz=>?_,sA'.2.1⟩,λx hx z hz=>?_⟩
    ·obtain⟨i,hi,hz'⟩:=wL hz;exact .inl (h2 i z hz' hi)
    ·rcases List.mem_cons.1 hz with rfl | hz
     ·obtain⟨i,hi,hz'⟩:=wK hx;have q1:=h1 i x hz' hi;have q2:=hy2 x (List.mem_of_mem_take hx);unfold dT;omega
     ·exact sA'.2.2 x hx z hz
   ·refine List.perm_middle.trans ?_;rw[List.take_append_drop];exact(List.perm_append_singleton y A).symm
def HN(h:St w0 E w)(i:Nat){s:Seg}(hi:nth E i=some s){v:Sl}{M:List (Int×Int)}(hr:Rw eC zr 2 v M s)(hn:M.length≤20)
  (hb:∀x∈M,-4611686018427387904<x.1∧x.1<4611686018427387904) {k:Unit→PT} (hk:∀s' w',Rw eC zr 2 v (Yw M) s'→St w0 (zd E i s') w'→k () w') :
  L.call Pr Zw [.slice v.a v.len v.cap,Cb] (.tup []) k w:=by
 refine za (yX _ ⟨.func Zf,#[],#[]⟩) ?_;unfold ZV;refine za (Jo _ _ ⟨.func Zf,#[],#[]⟩) ?_;unfold Yt;have hlen:=Rw.len uT hr;have hr0:Rw eC zr 2 v ([]++(M++[])) s:=by simpa using hr
 have fin:∀{s' w},Rw eC zr 2 v (Yw M) s'→St w0 (zd E i s') w→L.loop (Y:=Int×Unit) (20,()) (λy5 again6=>
   L.ite (decide (y5.1<((v.len:Nat):Int))) (
    L.loop (Y:=Int×Int×Unit) (0,Wi (2*y5.1),()) λy7 again8=>
    L.ite (decide (y7.2.1≤((v.len:Nat):Int))) (
     L.call Pr zI [.slice v.a v.len v.cap,.int .i64 y7.1,.int .i64 (Wi (y7.1+y5.1)),.int .i64 y7.2.1,Cb] (.tup []) λ(x9:Unit)=>
     again8 (y7.2.1,Wi (y7.2.1+(Wi (2*y5.1))),()))<|
    L.join (Y:=Unit) (λk10=>
     L.ite (decide ((Wi (y7.1+y5.1))<((v.len:Nat):Int))) (
      L.call Pr zI [.slice v.a v.len v.cap,.int .i64 y7.1,.int .i64 (Wi (y7.1+y5.1)),.int .i64 ((v.len:Nat):Int),Cb] (.tup []) λ(x12:Unit)=>
      k10 (()))<|
     k10 (())) λz11=>
    again6 (Wi (y5.1*2),()))<|
   λw=>∃x:Unit,Value.tuple #[]=RT.val (.tup []) x∧∃y:Unit,Value.tuple #[]=RT.val (.tup []) y∧k y w) w:=by
  intro s' w hr h;refine zX (λq y w'=>y=(20,())∧w'=w) 0 ⟨rfl,rfl⟩ ?_;rintro q y w' ⟨rfl,rfl⟩ again hag;refine itF (decide_eq_false (by dsimp only;omega)) ?_;exact⟨(),rfl,(),rfl,hk s' _ hr h⟩
 refine zX (λq y w=>(q=1∧y=(0,20,())∧St w0 E w)∨(q=0∧y=(20,40,())∧M.length=20∧∃s',Rw eC zr 2 v (Yw M) s'∧St w0 (zd E i s') w)) 1 (.inl ⟨rfl,rfl,h⟩) ?_;clear h;rintro q y w (⟨rfl,rfl,h⟩ | ⟨rfl,rfl,h20,s',hr',h⟩) again hag<;>dsimp only
 ·refine it (λhc=>?_) (λhc=>?_)<;>(try simp only[zB]at hc)
  ·refine Dw (P:=[]) (M:=M) (R:=[]) h i hi hr0 (by simp;omega) hb (by rfl) (by simp;omega) λs' w hr' h=>?_;rw[wr (by omega) (by omega)];exact hag 0 _ w (by omega) (.inr ⟨rfl,rfl,by omega,s',by simpa using hr',h⟩)
  ·refine Dw (P:=[]) (M:=M) (R:=[]) h i hi hr0 (by simp;omega) hb (by rfl) (by simp;omega) λs' w hr' h=>?_;exact fin (by simpa using hr') h
 ·refine itF (decide_eq_false (by omega)) ?_;refine Dw (P:=Yw M) (M:=[]) (R:=[]) h i (QU hi) (by simpa using hr') (by simp[YZ];omega) (by simp) (by rw[YZ];omega) (by rw[YZ];simp;omega) λs' w hr' h=>?_;rw[qa]at h;exact fin (by simpa [Yw]using hr') h
def NR{p:Int×Int→Bool}{c:Int×Int}:∀{l:List (Int×Int)},l.Pairwise (λa b=>a.1≤b.1)→
  (Kf c l).find? p=match l.find? p with | none=>if p c=true then some c else none | some y=>if p c=true∧c.1<y.1 then some c else some y
 | [],_=>by by_cases h:p c=true<;>simp[Kf,h]
 | y::l,hp=>by
  rw[List.pairwise_cons]at hp;simp only[Kf];split
  ·rename_i hlt;by_cases h:p c=true
   ·rw[List.find?_cons_of_pos h]
    cases hf:(y::l).find? p with
    | none=>simp[h]
    | some z=>
     have hz:c.1<z.1:=by
      rcases List.mem_cons.1 (List.mem_of_find?_eq_some hf)with rfl | hz
      ·exact hlt
      ·have:=hp.1 z hz;omega
     simp[h,hz]
   ·rw[List.find?_cons_of_neg h]
    cases hf:(y::l).find? p<;>simp[h]
  ·rename_i hlt;by_cases hy:p y=true
   ·rw[List.find?_cons_of_pos hy,List.find?_cons_of_pos hy];simp[hlt]
   ·rw[List.find?_cons_of_neg hy,List.find?_cons_of_neg hy];exact NR hp.2
def can(x:ZJ):Bool:=decide (x.pod.st=2∧(x.pod.reqs.length:Int)<x.pod.conc)
def Uk(b:Option ZJ)(x:ZJ):Option ZJ:=match b with
 | none=>if can x=true then some x else none
 | some y=>if can x=true∧x.pod.reqs.length<y.pod.reqs.length then some x else some y
def Dk(l:List ZJ)(rev:B0):Option ZJ:=(revs l rev).foldl Uk none
def key(x:ZJ):Int×Int:=(x.pod.reqs.length,x.id)
def NQ{p:Int×Int→Bool}:∀(n:Nat){R:List ZJ},R.length=n→(∀x∈R,p (key x)=can x)→(Yw (R.map key)).find? p=(R.foldl Uk none).map key
 | 0,R,hn,_=>by
  have:=List.eq_nil_of_length_eq_zero hn;subst this;rfl
 | n+1,R,hn,h=>by
  obtain⟨R',x,rfl⟩:∃R' x,R=R'++[x]:=⟨R.dropLast,R.getLast (by intro e;subst e;simp at hn),(List.dropLast_concat_getLast _).symm⟩;have ih:=NQ (p:=p) n (R:=R') (by simpa using hn) λy hy=>h y (by simp[hy]);have hx:=h x (by simp);have e:Yw ((R'++[x]).map key)=Kf (key x) (Yw (R'.map key)):=by simp[Yw,List.foldl_append]
  rw[e,NR (LC _),ih,List.foldl_append];simp only[List.foldl_cons,List.foldl_nil]
  cases R'.foldl Uk none with
  | none=>simp only[Option.map_none,Uk,hx];split<;>rfl
  | some y=>
   simp only[Option.map_some,Uk,hx];by_cases hc:can x=true∧x.pod.reqs.length<y.pod.reqs.length
   ·rw[if_pos hc,if_pos ⟨hc.1,by simp only[key];omega⟩];rfl
   ·rw[if_neg hc,if_neg (λhh=>hc ⟨hh.1,by have:=hh.2;simp only[key]at this;omega⟩)];rfl
def zk.Ok.where_upd{F:zk}(ok:F.Ok){id:Int}{x:ZJ}(hx:qd F.l id=some x)(g:js→js)(hq:∀q∈(g x.pod).reqs,q∈x.pod.reqs∨yN F.l q=none)
  (h4:(g x.pod).st=4→(g x.pod).reqs = []) (q:Int):(yN (xm F.l id g) q).map (·.id)=if q∈(g x.pod).reqs then some id else if q∈x.pod.reqs then none else(yN F.l q).map (·.id):=by
 obtain⟨hm,rfl⟩:=JE hx;obtain⟨A,B,hl⟩:=List.append_of_mem hm;have pw:=ok.pw;have once:=ok.once;have hno:yN F.l q=none→∀y∈A++x::B,q∉y.pod.reqs:=λh=>by rw[hl]at h;exact ou h
 have hq:=hq q;rw[hl]at pw once ⊢;rw[List.pairwise_append,List.pairwise_cons]at once;rw[me pw];have hA:(q∈x.pod.reqs∨q∈(g x.pod).reqs)→∀y∈A,q∉y.pod.reqs:=λh y hy hqy=>by
  have h:q∈x.pod.reqs∨yN F.l q=none:=h.elim .inl λh=>hq h;rcases h with h | h
  ·exact once.2.2 y hy x (by simp) q hqy h
  ·exact hno h y (by simp[hy]) hqy
 have hB:(q∈x.pod.reqs∨q∈(g x.pod).reqs)→∀y∈B,q∉y.pod.reqs:=λh y hy hqy=>by
  have h:q∈x.pod.reqs∨yN F.l q=none:=h.elim .inl λh=>hq h;rcases h with h | h
  ·exact once.2.1.1 y hy q h hqy
  ·exact hno h y (by simp[hy]) hqy
 have fn:∀{l:List ZJ},(∀y∈l,q∉y.pod.reqs)→List.find? (λx=>decide (q∈x.pod.reqs)) l=none:=λh=>by
  rw[List.find?_eq_none];exact λy hy=>by simpa using h y hy
 unfold yN;simp only[List.find?_append];by_cases h1:q∈(g x.pod).reqs
 ·rw[if_pos h1,fn (hA (.inr h1)),Option.none_or];have:(g x.pod).st≠4:=λe=>by rw[h4 e]at h1;simp at h1
  rw[if_neg this,List.find?_cons_of_pos (by simpa using h1)];rfl
 ·rw[if_neg h1];have hg:List.find? (λx=>decide (q∈x.pod.reqs)) (if(g x.pod).st=4 then []else [{ x with pod:=g x.pod }])=none:=by
   split
   ·rfl
   ·rw[List.find?_cons_of_neg (by simpa using h1)];rfl
  rw[hg,Option.none_or];by_cases h2:q∈x.pod.reqs
  ·rw[if_pos h2,fn (hA (.inl h2)),fn (hB (.inl h2))];rfl
  ·rw[if_neg h2,List.find?_cons_of_neg (by simpa using h2)]
structure Cut(p q h:Nat)(A B:List (Int×Int))(c:Nat):Prop where
 c1:c≤p
 c2:c≤h
 c3:h-c≤q
 lo:∀x∈A.take c,∀y∈B.drop (h-c),x.1≤y.1
 hi:∀y∈B.take (h-c),∀x∈A.drop c,y.1<x.1
def z04{p q h c c0 d0:Nat}{A B:List (Int×Int)}(hp:p=A.length)(hq:q=B.length)(hh:h=(p+q)/2)(sA:Ls A)(sB:Ls B)(h0:(p≤h∧c0=0∧d0=p)∨(h<p∧c0+q=h∧d0=h))(hc0:c0≤c)(hc1:c≤d0)
  (hT:∀e x y,c0≤e→e<c→A[e]? = some x→B[h-1-e]? = some y→¬y.1<x.1) (hF:∀e x y,c≤e→e<d0→A[e]? = some x→B[h-1-e]? = some y→y.1<x.1):Cut p q h A B c:=by
 subst hp hq;refine⟨by omega,by omega,by omega,λx hx y hy=>?_,λy hy x hx=>?_⟩
 ·obtain⟨i,hi,hx⟩:=wK hx;obtain⟨j,hj,hy⟩:=wL hy;have hil:=(List.getElem?_eq_some_iff.1 hx).1;have hjl:=(List.getElem?_eq_some_iff.1 hy).1;have hcc:c0<c:=by omega
  have a1:A[c-1]? = some A[c-1]:=List.getElem?_eq_getElem (by omega);have b1:B[h-1-(c-1)]? = some B[h-1-(c-1)]:=List.getElem?_eq_getElem (by omega);have q1:=hT (c-1) _ _ (by omega) (by omega) a1 b1;have q2:=Gf sA (by omega) hx a1;have q3:=Gf sB (by omega) b1 hy;omega
 ·obtain⟨i,hi,hx⟩:=wL hx;obtain⟨j,hj,hy⟩:=wK hy;have hil:=(List.getElem?_eq_some_iff.1 hx).1;have hjl:=(List.getElem?_eq_some_iff.1 hy).1;have hcc:c<d0:=by omega
  have a1:A[c]? = some A[c]:=List.getElem?_eq_getElem (by omega);have b1:B[h-1-c]? = some B[h-1-c]:=List.getElem?_eq_getElem (by omega);have q1:=hF c _ _ (by omega) hcc a1 b1;have q2:=Gf sA (by omega) a1 hx;have q3:=Gf sB (by omega) hy b1;omega
abbrev bdC(x:Int×Int):Prop:=-4611686018427387904<x.1∧x.1<4611686018427387904
def z0g:∀(N:Nat){w:World}{E:List Seg}(_:St w0 E w)(i:Nat){s:Seg}(_:nth E i=some s){v:Sl}{P A B R:List (Int×Int)}(_:Rw eC zr 2 v (P++(A++(B++R))) s)(_:(P++(A++(B++R))).length<1000000000)(_:A.length+B.length≤N)(_:A≠[])(_:B≠[])
  (_:Ls A) (_:Ls B) (_:∀x∈A,∀y∈B,x.2<y.2) (_:∀x∈A,bdC x) (_:∀x∈B,bdC x) {a m b:Int} (_:a=P.length) (_:m=P.length+A.length) (_:b=P.length+(A.length+B.length))
  {k:Unit→PT} (_:∀S s' w',Ls S→S.Perm (A++B)→Rw eC zr 2 v (P++(S++R)) s'→St w0 (zd E i s') w'→k () w'),
  L.call Pr zI [.slice v.a v.len v.cap,I a,I m,I b,Cb] (.tup []) k w:=by
 intro N
 induction N with
 | zero=>
  intro w E h i s hi v P A B R hr hn hN hA hB;have:=List.length_pos_iff.2 hA;omega
 | succ N ih=>
 intro w E h i s hi v P A B R hr hn hN hA hB sA sB hAB bA bB a m b ha hm hbb k hk;have hA1:=List.length_pos_iff.2 hA;have hB1:=List.length_pos_iff.2 hB;by_cases cA:A.length=1
 ·obtain⟨x,rfl⟩:∃x,A = [x]:=List.length_eq_one_iff.1 cA;exact z0f (P:=P) (x:=x) (B:=B) (R:=R) h i hi hr hn sB (hAB x (by simp)) (bA x (by simp)) bB ha (by simpa using hm) (by simpa using hbb) hk
 by_cases cB:B.length=1
 ·obtain⟨y,rfl⟩:∃y,B = [y]:=List.length_eq_one_iff.1 cB;exact z0e h i hi hr hn cA sA (λx hx=>hAB x hx y (by simp)) (bB y (by simp)) bA ha hm (by simpa using hbb) hk
 subst ha hm hbb;refine za (Yc _ _ _ _ ⟨.func Zf,#[],#[]⟩) ?_;unfold yc;simp only[List.length_append]at hn;rw[wr (n:=(P.length:Int)+A.length-P.length) (by omega) (by omega),wr (n:=(P.length:Int)+(A.length+B.length)-(P.length+A.length)) (by omega) (by omega)];refine itF (by simp;omega) ?_;refine itF (by simp;omega) ?_;refine gd (by decide) ?_;obtain⟨hh,hhe⟩:∃hh,hh=(A.length+B.length)/2:=⟨_,rfl⟩;have he:((P.length:Int)+((P.length:Int)+(A.length+B.length)))/2=(P.length:Int)+(hh:Int):=by omega
 rw[Hm (a:=(P.length:Int)) (b:=(P.length:Int)+(A.length+B.length)) (by omega) (by omega) (by omega),he];refine ZC (λz w'=>(∃c0 d0:Nat,z=((P.length:Int)+c0,(P.length:Int)+d0,())∧c0≤d0∧((A.length≤hh∧c0=0∧d0=A.length)∨(hh<A.length∧c0+B.length=hh∧d0=hh)))∧w'=w) (λk' hk'=>?_) ?_
 ·refine it (λhc=>?_) (λhc=>?_)<;>(try simp only[zB]at hc)
  ·refine hk' _ _ ⟨⟨hh-B.length,hh,?_,by omega,.inr ⟨by omega,by omega,rfl⟩⟩,rfl⟩;rw[wr (n:=(P.length:Int)+hh+(P.length+A.length)) (by omega) (by omega),wr (by omega) (by omega)]
   congr 1
   omega
  ·exact hk' _ _ ⟨⟨0,A.length,by simp,by omega,.inl ⟨by omega,rfl,rfl⟩⟩,rfl⟩
 rintro z w' ⟨⟨c0,d0,rfl,hcd0,h0⟩,rfl⟩;dsimp only
 refine zX (λq z w=>∃c d:Nat,z=((P.length:Int)+c,(P.length:Int)+d,())∧q+c=d∧c0≤c∧c≤d∧d≤d0∧(∀e x y,c0≤e→e<c→A[e]? = some x→B[hh-1-e]? = some y→¬y.1<x.1)∧
  (∀e x y,d≤e→e<d0→A[e]? = some x→B[hh-1-e]? = some y→y.1<x.1)∧St w0 E w) (d0-c0) ⟨c0,d0,rfl,by omega,by omega,by omega,by omega,by intros;omega,by intros;omega,h⟩ ?_
 clear h;rintro q z w ⟨c,d,rfl,hq,hc0,hcd,hd,h1,h2,h⟩ again hag
 (try dsimp only)
 refine it (λhc=>?_) (λhc=>?_)<;>(try simp only[zB]at hc)
 ·have he2:((P.length:Int)+c+((P.length:Int)+d))/2=(P.length:Int)+(((c+d)/2:Nat):Int):=by omega
  rw[Hm (a:=(P.length:Int)+c) (by omega) (by omega) (by omega),he2];obtain⟨e,hee⟩:∃e,e=(c+d)/2:=⟨_,rfl⟩;rw[←hee];have hel:e<A.length:=by omega
  have hel2:hh-1-e<B.length:=by omega
  have hx:A[e]? = some A[e]:=List.getElem?_eq_getElem hel;have hxm:A[e]∈A:=List.getElem_mem hel;have hy:B[hh-1-e]? = some B[hh-1-e]:=List.getElem?_eq_getElem hel2;have hym:B[hh-1-e]∈B:=List.getElem_mem hel2;generalize A[e]=x at hx hxm;generalize B[hh-1-e]=y at hy hym;have g1:(P++(A++(B++R)))[((P.length:Int)+(e:Int)).toNat]? = some x:=by
   have e1:((P.length:Int)+(e:Int)).toNat=P.length+e:=by omega
   rw[e1,List.getElem?_append_right (by omega)];have e2:P.length+e-P.length=e:=by omega
   rw[e2,List.getElem?_append_left hel,hx]
  rw[wr (n:=(P.length:Int)+hh+(P.length+A.length)) (by omega) (by omega),wr (n:=(P.length:Int)+hh+(P.length+A.length)-1) (by omega) (by omega),wr (n:=(P.length:Int)+hh+(P.length+A.length)-1-(P.length+e)) (by omega) (by omega)];have g0:(P++(A++(B++R)))[((P.length:Int)+hh+(P.length+A.length)-1-(P.length+e)).toNat]? = some y:=by
   have e1:((P.length:Int)+hh+(P.length+A.length)-1-(P.length+e)).toNat=P.length+(A.length+(hh-1-e)):=by omega
   rw[e1,List.getElem?_append_right (by omega)];have e2:P.length+(A.length+(hh-1-e))-P.length=A.length+(hh-1-e):=by omega
   rw[e2,List.getElem?_append_right (by omega)];have e3:A.length+(hh-1-e)-A.length=hh-1-e:=by omega
   rw[e3,List.getElem?_append_left hel2,hy]
  refine gd (by decide) ?_;refine Wn h i hi hr (by omega) (by omega) g0 g1 (bB y hym) (bA x hxm) λw h=>?_;refine it (λhl=>?_) (λhl=>?_)<;>(try simp only[zB]at hl)
  ·refine hag (d-(e+1)) _ w (by omega) ⟨e+1,d,?_,by omega,by omega,by omega,hd,λe' x' y' he1 he2 hx' hy'=>?_,h2,h⟩
   ·rw[wr (by omega) (by omega)];congr 1
   ·have q1:=Gf sA (by omega) hx' hx;have q2:=Gf sB (by omega) hy hy';omega
  ·refine hag (e-c) _ w (by omega) ⟨c,e,rfl,by omega,by omega,by omega,by omega,h1,λe' x' y' he1 he2 hx' hy'=>?_,h⟩;have q1:=Gf sA he1 hx hx';have q2:=Gf sB (by omega) hy' hy;omega
 clear hag;have e:d=c:=by omega
 subst e;have C:=z04 rfl rfl hhe sA sB h0 hc0 hd h1 h2;clear h1 h2 h0 hc0 hd hcd;obtain⟨A1,A2,rfl,lA1⟩:∃A1 A2,A=A1++A2∧A1.length=d:=⟨A.take d,A.drop d,(List.take_append_drop ..).symm,by rw[List.length_take];have:=C.c1;omega⟩;obtain⟨B1,B2,rfl,lB1⟩:∃B1 B2,B=B1++B2∧B1.length=hh-d:=⟨B.take (hh-d),B.drop (hh-d),(List.take_append_drop ..).symm,by rw[List.length_take];have:=C.c3;omega⟩;have tA:(A1++A2).take d=A1:=by rw[←lA1,List.take_left]
 have dA:(A1++A2).drop d=A2:=by rw[←lA1,List.drop_left]
 have tB:(B1++B2).take (hh-d)=B1:=by rw[←lB1,List.take_left]
 have dB:(B1++B2).drop (hh-d)=B2:=by rw[←lB1,List.drop_left]
 have hlo:=C.lo;have hhi:=C.hi;have hc2:=C.c2;rw[tA,dB]at hlo;rw[tB,dA]at hhi;clear tA dA tB dB C;have pA:=List.pairwise_append.1 sA;have pB:=List.pairwise_append.1 sB;simp only[List.length_append]at *
 rw[wr (n:=(P.length:Int)+hh+(P.length+((A1.length+A2.length:Nat):Int))) (by omega) (by omega),wr (n:=(P.length:Int)+hh+(P.length+((A1.length+A2.length:Nat):Int))-(P.length+(d:Int))) (by omega) (by omega)];have hend:(P.length:Int)+hh+(P.length+((A1.length+A2.length:Nat):Int))-(P.length+(d:Int))=(P.length:Int)+((hh+A2.length:Nat):Int):=by omega
 rw[hend];have lo2:∀x∈A1,∀y∈B2,dT x y:=λx hx y hy=>by
  have q1:=hlo x hx y hy;have q2:=hAB x (by simp[hx]) y (by simp[hy]);unfold dT;omega
 refine ZC (λ_ w=>∃s,Rw eC zr 2 v (P++(A1++(B1++(A2++(B2++R))))) s∧St w0 (zd E i s) w) (λk' hk'=>?_) ?_
 ·have stay:(A2 = []∨B1 = [])→k' () w:=λhh=>hk' () w ⟨s,by
   have e:P++(A1++(B1++(A2++(B2++R))))=P++((A1++A2)++((B1++B2)++R)):=by rcases hh with rfl | rfl<;>simp
   rw[e];exact hr,by rwa [yy hi]⟩
  refine it (λhc1=>?_) (λhc1=>?_)<;>(try simp only[zB]at hc1)
  ·refine it (λhc3=>?_) (λhc3=>?_)<;>(try simp only[zB]at hc3)
   ·refine z0h (P:=P++A1) (A:=A2) (B:=B1) (R:=B2++R) h i hi (by simpa using hr) (by simp only[List.length_append];omega) (List.length_pos_iff.1 (by omega)) (List.length_pos_iff.1 (by omega)) (by rw[List.length_append];omega) (by rw[List.length_append];omega) (by rw[List.length_append];omega) λs' w hr h=>?_;exact hk' () w ⟨s',by simpa using hr,h⟩
   ·exact stay (.inr (List.eq_nil_of_length_eq_zero (by omega)))
  ·exact stay (.inl (List.eq_nil_of_length_eq_zero (by omega)))
 clear hr;clear h;rintro _ w ⟨s,hr,h⟩
 (try dsimp only)
 refine ZC (λ_ w=>∃S1 s,Ls S1∧S1.Perm (A1++B1)∧Rw eC zr 2 v (P++(S1++(A2++(B2++R)))) s∧St w0 (zd E i s) w) (λk' hk'=>?_) ?_
 ·have stay:(A1 = []∨B1 = [])→k' () w:=λhh=>hk' () w ⟨A1++B1,s,by
   rcases hh with rfl | rfl
   ·simpa using pB.1
   ·simpa using pA.1,.refl _,by simpa using hr,h⟩
  refine it (λhc1=>?_) (λhc1=>?_)<;>(try simp only[zB]at hc1)
  ·refine it (λhc3=>?_) (λhc3=>?_)<;>(try simp only[zB]at hc3)
   ·refine ih (P:=P) (A:=A1) (B:=B1) (R:=A2++(B2++R)) h i (QU hi) hr (by simp only[List.length_append];omega) (by omega) (List.length_pos_iff.1 (by omega)) (List.length_pos_iff.1 (by omega)) pA.1 pB.1 (λx hx y hy=>hAB x (by simp[hx]) y (by simp[hy]))
     (λx hx=>bA x (by simp[hx])) (λx hx=>bB x (by simp[hx])) rfl (by omega) (by omega) λS1 s' w l1 p1 hr h=>?_
    rw[qa]at h;exact hk' () w ⟨S1,s',l1,p1,hr,h⟩
   ·exact stay (.inr (List.eq_nil_of_length_eq_zero (by omega)))
  ·exact stay (.inl (List.eq_nil_of_length_eq_zero (by omega)))
 clear hr;clear h;rintro _ w ⟨S1,s,l1,p1,hr,h⟩
 (try dsimp only)
 have lS1:S1.length=hh:=by rw[p1.length_eq,List.length_append];omega
 have fin:∀S2 s' w',Ls S2→S2.Perm (A2++B2)→Rw eC zr 2 v ((P++S1)++(S2++R)) s'→St w0 (zd E i s') w'→k () w':=λS2 s' w' l2 p2 hr h=>by
  refine hk (S1++S2) s' w' (List.pairwise_append.2 ⟨l1,l2,λx hx y hy=>?_⟩) ?_ (by simpa using hr) h
  ·rcases List.mem_append.1 (p1.mem_iff.1 hx)with hx | hx<;>rcases List.mem_append.1 (p2.mem_iff.1 hy)with hy | hy
   ·exact pA.2.2 x hx y hy
   ·exact lo2 x hx y hy
   ·exact .inl (hhi x hx y hy)
   ·exact pB.2.2 x hx y hy
  ·refine(p1.append p2).trans ?_;rw[List.append_assoc,List.append_assoc];refine List.Perm.append_left _ ?_;rw[←List.append_assoc,←List.append_assoc];exact List.Perm.append_right _ List.perm_append_comm
 have stay:(A2 = []∨B2 = [])→k () w:=λhh=>fin (A2++B2) s w (by
   rcases hh with rfl | rfl
   ·simpa using pB.2.1
   ·simpa using pA.2.1) (.refl _) (by simpa using hr) h
 refine it (λhc1=>?_) (λhc1=>?_)<;>(try simp only[zB]at hc1)
 ·refine it (λhc3=>?_) (λhc3=>?_)<;>(try simp only[zB]at hc3)
  ·refine ih (P:=P++S1) (A:=A2) (B:=B2) (R:=R) h i (QU hi) (by simpa using hr) (by simp only[List.length_append];omega) (by omega) (List.length_pos_iff.1 (by omega)) (List.length_pos_iff.1 (by omega)) pA.2.1 pB.2.1 (λx hx y hy=>hAB x (by simp[hx]) y (by simp[hy]))
    (λx hx=>bA x (by simp[hx])) (λx hx=>bB x (by simp[hx])) (by rw[List.length_append];omega) (by rw[List.length_append];omega) (by rw[List.length_append];omega) λS2 s' w l2 p2 hr h=>?_
   rw[qa]at h;exact⟨(),rfl,fin S2 s' w l2 p2 hr h⟩
  ·exact⟨(),rfl,stay (.inr (List.eq_nil_of_length_eq_zero (by omega)))⟩
 ·exact⟨(),rfl,stay (.inl (List.eq_nil_of_length_eq_zero (by omega)))⟩
def eM(h:St w0 E w)(i:Nat){s:Seg}(hi:nth E i=some s){v:Sl}{M:List (Int×Int)}(hr:Rw eC zr 2 v M s)(hn:M.length<40)(hid:M.Pairwise λa b=>a.2<b.2)
  (hb:∀x∈M,bdC x) {k:Unit→PT} (hk:∀s' w',Rw eC zr 2 v (Yw M) s'→St w0 (zd E i s') w'→k () w') :
  L.call Pr Zw [.slice v.a v.len v.cap,Cb] (.tup []) k w:=by
 by_cases h20:M.length≤20
 ·exact HN h i hi hr h20 hb hk
 refine za (yX _ ⟨.func Zf,#[],#[]⟩) ?_;unfold ZV;refine za (Jo _ _ ⟨.func Zf,#[],#[]⟩) ?_;unfold Yt;have hlen:=Rw.len uT hr;obtain⟨M1,M2,rfl,l1⟩:∃M1 M2,M=M1++M2∧M1.length=20:=⟨M.take 20,M.drop 20,(List.take_append_drop ..).symm,by rw[List.length_take];omega⟩;have p12:=List.pairwise_append.1 hid;rw[List.length_append]at hn h20 hlen;have hb1:∀x∈Yw M1,bdC x:=λx hx=>hb x (by simp[(qC M1).mem_iff.1 hx]);have hb2:∀x∈Yw M2,bdC x:=λx hx=>hb x (by simp[(qC M2).mem_iff.1 hx]);refine zX (λq y w=>(q=1∧y=(0,20,())∧St w0 E w)∨(q=0∧y=(20,40,())∧∃s',Rw eC zr 2 v (Yw M1++(M2++[])) s'∧St w0 (zd E i s') w)) 1 (.inl ⟨rfl,rfl,h⟩) ?_;clear h;rintro q y w (⟨rfl,rfl,h⟩ | ⟨rfl,rfl,s',hr',h⟩) again hag<;>dsimp only
 ·refine itT (decide_eq_true (by omega)) ?_;refine Dw (P:=[]) (M:=M1) (R:=M2) h i hi (by simpa using hr) (by simp;omega) (λx hx=>hb x (by simp[hx])) (by rfl) (by simp;omega) λs' w hr' h=>?_;rw[wr (by omega) (by omega)];exact hag 0 _ w (by omega) (.inr ⟨rfl,rfl,s',by simpa using hr',h⟩)
 ·refine itF (decide_eq_false (by omega)) ?_;refine Dw (P:=Yw M1) (M:=M2) (R:=[]) h i (QU hi) hr' (by simp[YZ];omega) (λx hx=>hb x (by simp[hx])) (by rw[YZ];omega) (by rw[YZ];omega) λs' w hr' h=>?_;rw[qa]at h;refine zX (λq y w=>(q=1∧y=(20,())∧∃s',Rw eC zr 2 v (Yw M1++(Yw M2++[])) s'∧St w0 (zd E i s') w)∨(q=0∧y=(40,())∧∃s',Rw eC zr 2 v (Yw (M1++M2)) s'∧St w0 (zd E i s') w)) 1 (.inl ⟨rfl,rfl,s',hr',h⟩) ?_;clear hr';clear h;rintro q y w (⟨rfl,rfl,s',hr',h⟩ | ⟨rfl,rfl,s',hr',h⟩) again hag<;>dsimp only
  ·refine itT (decide_eq_true (by omega)) ?_;rw[wr (n:=2*20) (by omega) (by omega)];refine zX (λq y w'=>y=(0,2*20,())∧w'=w) 0 ⟨rfl,rfl⟩ ?_;rintro q y w' ⟨rfl,rfl⟩ again2 hag2;dsimp only;refine itF (decide_eq_false (by omega)) ?_;refine ZC (λ_ w=>∃s',Rw eC zr 2 v (Yw (M1++M2)) s'∧St w0 (zd E i s') w) (λk' hk'=>?_) ?_
   ·rw[wr (n:=0+20) (by omega) (by omega)];refine itT (decide_eq_true (by omega)) ?_
    refine z0g (M1.length+M2.length) (P:=[]) (A:=Yw M1) (B:=Yw M2) (R:=[]) h i (QU hi) hr' (by simp[YZ];omega) (by rw[YZ,YZ];omega) (List.length_pos_iff.1 (by rw[YZ];omega)) (List.length_pos_iff.1 (by rw[YZ];omega)) (Ti p12.1) (Ti p12.2.1)
     (λx hx y hy=>p12.2.2 x ((qC M1).mem_iff.1 hx) y ((qC M2).mem_iff.1 hy)) hb1 hb2 (by rfl) (by rw[YZ];simp;omega) (by rw[YZ,YZ];simp;omega) λS s'' w lS pS hr'' h=>?_
    rw[qa]at h;have e:S=Yw (M1++M2):=Lb lS (Ti hid) ((pS.trans ((qC M1).append (qC M2))).trans (qC _).symm);subst e;exact hk' () w ⟨s'',by simpa using hr'',h⟩
   ·clear hr';rintro _ w'' ⟨s'',hr'',h⟩
    (try dsimp only)
    rw[wr (n:=20*2) (by omega) (by omega)];exact hag 0 _ w'' (by omega) (.inr ⟨rfl,rfl,s'',hr'',h⟩)
  ·refine itF (decide_eq_false (by omega)) ?_;exact⟨(),rfl,(),rfl,hk s' w hr' h⟩
def yt(F:zk)(rev:B0)(q:Int):zk×Int×Bool:=
 if(yN F.l q).isSome then(F,0,false)else match Dk F.l rev with
 | none=>(F,0,false)
 | some x=>({ F with l:=xm F.l x.id λp=>(yF p q).1 },x.id,true)
def Bf:∀{R:List ZJ}{b x:Option ZJ},R.foldl Uk b=x→(∀y,b=some y→can y=true)→∀y,x=some y→can y=true∧(y∈R∨b=some y)
 | [],b,x,h,hb,y,hy=>by subst h;exact⟨hb y hy,.inr hy⟩
 | z::R,b,x,h,hb,y,hy=>by
  rw[List.foldl_cons]at h;have hz:∀y,Uk b z=some y→can y=true∧(y=z∨b=some y):=by
   intro y hy;unfold Uk at hy
   cases b with
   | none=>simp only at hy;split at hy<;>simp at hy;subst hy;exact⟨by assumption,.inl rfl⟩
   | some u=>
    simp only at hy;split at hy
    ·simp at hy;subst hy;rename_i h;exact⟨h.1,.inl rfl⟩
    ·simp at hy;subst hy;exact⟨hb u rfl,.inr rfl⟩
  have:=Bf h (λy hy=>(hz y hy).1) y hy;refine⟨this.1,?_⟩;rcases this.2 with h | h
  ·left;simp[h]
  ·rcases(hz y h).2 with e | e
   ·left;simp[e]
   ·right;exact e
def dE{l:List ZJ}{rev:B0}{x:ZJ}(h:Dk l rev=some x):x∈l∧x.rev=rev∧can x=true:=by
 have:=Bf h (by simp) x rfl;rcases this.2 with h2 | h2
 ·exact⟨(List.mem_filter.1 h2).1,of_decide_eq_true (List.mem_filter.1 h2).2,this.1⟩
 ·cases h2
def bP{x:ZJ}(hc:can x=true){q:Int}(hq:q∉x.pod.reqs):yF x.pod q=({ x.pod with reqs:=PD q x.pod.reqs },0):=by
 have:=of_decide_eq_true hc;unfold yF;rw[if_neg (by omega),if_neg hq,if_neg (by omega)]
def EM{x:ZJ}(hc:¬can x=true){q:Int}(hq:q∉x.pod.reqs):(yF x.pod q).1=x.pod∧(yF x.pod q).2≠0:=by
 have:¬(x.pod.st=2∧(x.pod.reqs.length:Int)<x.pod.conc):=λh=>hc (decide_eq_true h);unfold yF;by_cases h:x.pod.st≠2
 ·rw[if_pos h];exact⟨rfl,by simp⟩
 ·rw[if_neg h,if_neg hq,if_pos (by omega)];exact⟨rfl,by simp⟩
def NV{l:List ZJ}(once:l.Pairwise (λx y=>∀q∈x.pod.reqs,q∉y.pod.reqs)){x:ZJ}(hx:x∈l){q:Int}(hq:q∈x.pod.reqs):yN l q=some x:=by
 unfold yN
 induction l with
 | nil=>simp at hx
 | cons y l ih=>
  rw[List.pairwise_cons]at once;rcases List.mem_cons.1 hx with rfl | hx
  ·rw[List.find?_cons_of_pos (by simpa using hq)]
  ·rw[List.find?_cons_of_neg (by simpa using λh=>once.1 x hx q h hq)];exact ih once.2 hx
def Lw{F:zk}(ok:F.Ok)(rev:B0)(q:Int):(yt F rev q).1.Ok:=by
 unfold yt;split
 ·exact ok
 ·rename_i hw;split
  ·exact ok
  ·rename_i x hp;obtain⟨hx,-,hc⟩:=dE hp;have hn:yN F.l q=none:=by cases h:yN F.l q<;>simp[h]at hw ⊢
   have ht:=bP hc (ou hn x hx);have hcc:=of_decide_eq_true hc;refine ok.upd (Ki ok.pw hx) _ ?_ ?_
   ·rw[ht];simp only;omega
   ·rw[ht];intro q2 h2;rcases Om.1 h2 with rfl | h2
    ·exact .inr hn
    ·exact .inl h2
def HI(h:St w0 E w)(i:Nat){A B:List Tr}{t:Tr}(hi:nth E i=some ((A++t::B).map trS).flatten)(hp:Vp t.2.1 t.1.pod t.2.2)(hfew:t.1.pod.reqs.length<10000000){q:Int}{k:Int→PT}
  (hk:∀s' w',Vp t.2.1 (yF t.1.pod q).1 s'→St w0 (zd E i ((A++({ t.1 with pod:=(yF t.1.pod q).1 },t.2.1,s')::B).map trS).flatten) w'→k (yF t.1.pod q).2 w') :
  L.call Pr Um [.pointer (some ⟨t.2.1,0,none⟩),I q] (.one (.one (.int .i64))) k w:=by
 refine HU (h.front i hi).pick 0 rfl hp hfew λs' w hp' h=>hk s' w hp' ?_;have h:St w0 (trS ({ t.1 with pod:=(yF t.1.pod q).1 },t.2.1,s')::((A++B).map trS).flatten::Zi E i) w:=h;exact St.back i hi h.place
def FlR.same{F:zk}{A B:List Tr}{t:Tr}{mA mW}(hr:FlR F (A++t::B) mA mW){s':Seg}(hp:Vp t.2.1 t.1.pod s'):FlR F (A++(t.1,t.2.1,s')::B) mA mW:=by
 refine⟨by rw[hr.l];simp,λy hy=>?_,by have:=hr.all;simp only[List.map_append,List.map_cons]at this ⊢;exact this,hr.wth⟩;rcases List.mem_append.1 hy with hy | hy
 ·exact hr.ps y (by simp[hy])
 ·rcases List.mem_cons.1 hy with rfl | hy
  ·exact hp
  ·exact hr.ps y (by simp[hy])
def FlR.getW{F:zk}{L:List Tr}{mA mW}(hr:FlR F L mA mW)(q:Int):(zA mW q).isSome=(yN F.l q).isSome:=by rw[hr.wth];cases yN F.l q<;>rfl
def iu(h:St w0 E w)(i:Nat){b:Nat}{F:zk}{s:Seg}(hi:nth E i=some s)(hf:FlS b F s){rev:B0}{q:Int}(h20:(revs F.l rev).length≤30)(hfew:∀x∈F.l,x.pod.reqs.length<10000000){k:Int×Bool×Unit→PT}
  (hk:∀s' w',FlS b (yt F rev q).1 s'→St w0 (zd E i s') w'→k ((yt F rev q).2.1,(yt F rev q).2.2,()) w') :
  L.call Pr ul [pO b,.string rev,I q] (.tup [.one (.int .i64),.one .bool]) k w:=by
 have hf0:=hf;obtain⟨ok,rA,rW,mA,mW,sA,sW,L,hA,hW,hr,rfl⟩:=hf;refine za (pE _ _ _) ?_;unfold KG;have hll:L.length=F.l.length:=by rw[hr.l];simp
 have hcount:=ok.few;have h:St w0 (flB b rA rW F::sA::sW::(L.map trS).flatten::Zi E i) w:=(h.front i hi).eq (by simp)
 (refine nn ?_;refine ldC h ?_)
 refine MpS.get2 mkI Oe zi (λx:Int=>x) (λ_=>rfl) h 2 rfl hW ?_;rw[hr.getW];refine it (λhc=>?_) (λhc=>?_)<;>(try simp only[zB]at hc)
 ·have e:yt F rev q=(F,0,false):=by unfold yt;rw[if_pos hc]
  rw[e]at hk;exact⟨(0,false,()),rfl,hk _ w hf0 (St.back i hi (h.eq (by simp)))⟩
 have hn:yN F.l q=none:=by cases h:yN F.l q<;>simp[h]at hc ⊢
 have hno:=ou hn;refine nw h ?_;clear h;intro b4 w h;refine HZ h λc0 c1 w h=>?_;have h:=Ys (Ys (yM (yM h)));have h:St w0 ([[Cl c1 zc [.string rev]],[Cl c0 ZB [.pointer (some ⟨b,0,none⟩)]],flB b rA rW F,sA]++[Cl b4 ZY [SlV ⟨none,0,0⟩]]::[]::sW::(L.map trS).flatten::Zi E i) w:=h.eq (by simp);have hR:=hr.revs rev;have hlR:(L.filter (XO rev)).length≤30:=by rw[hR,List.length_map]at h20;exact h20
 refine qZ (A:=[_,_,_,_]) (HE ok hA hr) h (λm G=>∃v sv,Rw eC zr 2 v (((L.filter (XO rev)).take m).map λt=>key t.1) sv∧G = [Cl b4 ZY [SlV v]]::sv::sW::(L.map trS).flatten::Zi E i) (λj G=>False) ⟨_,_,Rw.nil,rfl⟩ ?_ ?_ ?_
 ·rintro m G X w lv lp d R hm ⟨v,sv,hv,rfl⟩ h hN hE;have hx:=List.getElem?_eq_getElem hm;have h:St w0 ([Rec lv lp .busy none]::[DfM d]::[Cl c1 zc [.string rev]]::[Cl c0 ZB [.pointer (some ⟨b,0,none⟩)]]::flB b rA rW F::sA::[Cl b4 ZY [SlV v]]::sv::sW::(L.map trS).flatten::(Zi E i++X)) w:=h;rw[CO hm]
  (try dsimp only)
  have hmem:=dS hm;have hps:=hr.ps _ hmem
  (refine dr h ?_;clear h;intro w h;refine ldC h ?_)
  refine PQ h 9 rfl hmem hps ?_
  (refine ckC h ?_)
  refine nw h ?_;clear h;intro b11 w h
  (refine ckC h ?_)
  refine Rw.app uT elC h 7 rfl hv (key (L.filter (XO rev))[m].1) rfl (by simp;omega) (by simp;omega) λv' s' w hv h=>?_
  (dsimp only[zd,List.cons_append,List.nil_append]at h;refine stC h ?_;clear h;intro w h;dsimp only[zE,zd]at h)
  refine hN _ w ⟨v',s',?_,rfl⟩ h;rw[List.take_add_one,hx,List.map_append];exact hv
 ·rintro d G w ⟨v,sv,hv,rfl⟩ h;have h:St w0 ([DfM d]::[Cl c1 zc [.string rev]]::[Cl c0 ZB [.pointer (some ⟨b,0,none⟩)]]::flB b rA rW F::sA::[Cl b4 ZY [SlV v]]::sv::sW::(L.map trS).flatten::Zi E i) w:=h;rw[List.take_length]at hv;have e:(L.filter (XO rev)).map (λt=>key t.1)=(revs F.l rev).map key:=by rw[hR,List.map_map];rfl
  rw[e]at hv;have h:=yw (uV h);refine VA ?_
  (refine ldC h ?_)
  refine eM h 4 rfl hv (by rw[List.length_map];omega) (by
   rw[List.pairwise_map];exact(ok.pw.filter _).imp λhxy=>hxy) (λc hc=>by
   obtain⟨x,hx,rfl⟩:=List.mem_map.1 hc;have:=hfew x (List.mem_filter.1 hx).1;simp only[key];omega) λsv w hv h=>?_
  have hfp:=NQ (p:=λc=>((qd F.l c.2).map can).getD false) _ (R:=revs F.l rev) rfl λx hx=>by
   have:=Ki ok.pw (List.mem_filter.1 hx).1;show((qd F.l x.id).map can).getD false=_;rw[this];rfl
  have hcm:∀c∈Yw ((revs F.l rev).map key),∃x∈F.l,c=key x:=λc hc=>by
   obtain⟨x,hx,rfl⟩:=List.mem_map.1 ((qC _).mem_iff.1 hc);exact⟨x,(List.mem_filter.1 hx).1,rfl⟩
  have hpk:Dk F.l rev=(revs F.l rev).foldl Uk none:=rfl;rw[←hpk]at hfp;have hcl:(Yw ((revs F.l rev).map key)).length≤30:=by rw[YZ,List.length_map];exact h20
  have hlv:=Rw.len uT hv;generalize Yw ((revs F.l rev).map key)=cs at hv hfp hcm hcl hlv
  (dsimp only[zd,List.cons_append,List.nil_append]at h;refine ldC h ?_)
  have h:St w0 ([DfM d]::flB b rA rW F::sA::[Cl b4 ZY [SlV v]]::sv::sW::(L.map trS).flatten::Zi E i) w:=h
  refine zX (λp y w=>∃(j:Nat)(L:List Tr),y=((j:Int),())∧p+j=cs.length∧(∀c∈cs.take j,((qd F.l c.2).map can).getD false=false)∧FlR F L mA mW∧
   St w0 ([DfM d]::flB b rA rW F::sA::[Cl b4 ZY [SlV v]]::sv::sW::(L.map trS).flatten::Zi E i) w) cs.length ⟨0,L,rfl,rfl,by simp,hr,h⟩ ?_
  clear hr hf0 hR hlR e hll;clear h;rintro p y w ⟨j,L,rfl,hp,hfn,hr,h⟩ again hag
  (try dsimp only)
  refine it (λhc=>?_) (λhc=>?_)<;>(try simp only[zB]at hc)
  ·have hj:j<cs.length:=by omega
   have hxj:cs[j]? = some cs[j]:=List.getElem?_eq_getElem hj;have hdrop:cs=cs.take j++cs[j]::cs.drop (j+1):=by rw[←List.drop_eq_getElem_cons hj,List.take_append_drop]
   obtain⟨x,hxl,hcx⟩:=hcm _ (List.getElem_mem hj);rw[hcx]at hxj hdrop;have hfx:=Ki ok.pw hxl;obtain⟨A,t,B,rfl,rfl,-⟩:=hr.at hfx;have hg:=hr.get ok (t:=t) (by simp);have hps:=hr.ps t (by simp);have hqx:=hno t.1 hxl;refine Rw.ix uT hv (by omega) (by simpa using hj) λa ha=>?_;rw[Int.toNat_natCast]at ha;refine Rw.lda uT h 4 rfl hv ha hxj rfl ?_;refine nw h ?_;clear h;intro b22 w h
   (refine stC h ?_;clear h;intro w h;dsimp only[zE,zd]at h;refine dr h ?_;clear h;intro w h;refine nn ?_;refine ldC h ?_;refine ldC h ?_)
   refine MpS.get mkI JS zo (λx:B0×Option Addr=>(x.1,x.2,())) (λ_=>rfl) h 3 rfl hA ?_;rw[show zA mA (key t.1).2=_ from hg];simp only[Option.map_some,Option.getD_some];refine HI h 7 rfl hps (hfew _ hxl) λs' w hps' h=>?_;by_cases hcan:can t.1=true
   ·have ht:=bP hcan hqx;refine itT (by rw[ht];rfl) ?_;have hfd:Dk F.l rev=some t.1:=by
     have:cs.find? (λc=>((qd F.l c.2).map can).getD false)=some (key t.1):=by
      rw[hdrop,List.find?_append,List.find?_cons_of_pos (by show((qd F.l t.1.id).map can).getD false=true;rw[hfx];exact hcan)];rw[List.find?_eq_none.2 (λc hc=>by rw[hfn c hc];simp)];rfl
     rw[this]at hfp
     cases hpk:Dk F.l rev with
     | none=>rw[hpk]at hfp;cases hfp
     | some y=>
      rw[hpk]at hfp;have hid:y.id=t.1.id:=by simp only[Option.map_some,Option.some.injEq,key,Prod.mk.injEq]at hfp;exact hfp.2.symm
      have h1:=Ki ok.pw (dE hpk).1;rw[hid,hfx]at h1;exact h1.symm
    have e:yt F rev q=({ F with l:=xm F.l t.1.id λp=>(yF p q).1 },t.1.id,true):=by
     unfold yt;rw[hn,hfd];rfl
    have okT:=Lw ok rev q;rw[e]at hk okT;have hrq:(yF t.1.pod q).1.reqs=PD q t.1.pod.reqs:=by rw[ht]
    have hst:(yF t.1.pod q).1.st≠4:=by rw[ht];have:=of_decide_eq_true hcan;simp only;omega
    (dsimp only[zd,List.cons_append,List.nil_append]at h;refine dr h ?_;clear h;intro w h;refine nn ?_;refine ldC h ?_;refine ldC h ?_)
    refine MpS.set mkI Oe h 6 rfl hW t.1.id rfl λsW' w hW' h=>?_
    (dsimp only[zd,List.cons_append,List.nil_append]at h;refine ldC h ?_)
    (first | refine gu h ?_ | refine gq h ?_ | refine gp h ?_ | refine gm h ?_ | refine gk h ?_ | refine gj h ?_ | refine gi h ?_ | refine gh h ?_ | refine gg h ?_ | refine gf h ?_ | refine Ua h ?_ | refine uZ h ?_);clear h;intro w h
    refine⟨(t.1.id,true,()),rfl,hk _ w ⟨okT,rA,rW,mA,_,sA,sW',_,hA,hW',hr.upd ok (λp=>(yF p q).1) hps' hst λq'=>?_,rfl⟩ ?_⟩
    ·rw[XL,ok.where_upd hfx _ (λq2 h2=>by
      rw[hrq]at h2;rcases Om.1 h2 with rfl | h2
      ·exact .inr hn
      ·exact .inl h2) (λh4=>absurd h4 hst),hrq]
     by_cases eq:q=q'
     ·subst eq;rw[if_pos rfl,if_pos (Om.2 (.inl rfl))]
     ·rw[if_neg eq];by_cases hq2:q'∈t.1.pod.reqs
      ·rw[if_pos (Om.2 (.inr hq2)),hr.wth,NV ok.once hxl hq2];rfl
      ·rw[if_neg (λhh=>(Om.1 hh).elim (λe=>eq e.symm) hq2),if_neg hq2,hr.wth]
    ·refine St.back i hi ?_
     (try dsimp only[zd]at h)
     have h:=zj (Qj (uU h));exact h.eq (by simp)
   ·have ht:=EM hcan hqx;refine itF (by simpa using ht.2) ?_;rw[ht.1]at hps';have h:=zj h;refine hag (p-1) _ w (by omega) ⟨j+1,A++(t.1,t.2.1,s')::B,?_,by omega,?_,hr.same hps',?_⟩
    ·rw[wr (by omega) (by omega)];simp
    ·intro c hc;rw[List.take_add_one,hxj]at hc;rcases List.mem_append.1 hc with hc | hc
     ·exact hfn c hc
     ·simp at hc;subst hc;show((qd F.l t.1.id).map can).getD false=false;rw[hfx];simpa using hcan
    ·have h:St w0 ([DfM d]::flB b rA rW F::sA::[Cl b4 ZY [SlV v]]::sv::sW::((A++({ t.1 with pod:=(yF t.1.pod q).1 },t.2.1,s')::B).map trS).flatten::Zi E i) w:=h;rw[ht.1]at h;exact h
  ·have hj:j=cs.length:=by omega
   subst hj;rw[List.take_length]at hfn;have hfd:Dk F.l rev=none:=by
    rw[List.find?_eq_none.2 (λc hc=>by rw[hfn c hc];simp)]at hfp
    cases hpk:Dk F.l rev with
    | none=>rfl
    | some y=>rw[hpk]at hfp;cases hfp
   have e:yt F rev q=(F,0,false):=by unfold yt;rw[hn,hfd];rfl
   rw[e]at hk
   (first | refine gu h ?_ | refine gq h ?_ | refine gp h ?_ | refine gm h ?_ | refine gk h ?_ | refine gj h ?_ | refine gi h ?_ | refine gh h ?_ | refine gg h ?_ | refine gf h ?_ | refine Ua h ?_ | refine uZ h ?_);clear h;intro w h
   refine⟨(0,false,()),rfl,hk _ w ⟨ok,rA,rW,mA,mW,sA,sW,L,hA,hW,hr,rfl⟩ (St.back i hi ?_)⟩;have h:=uV (Qj h);exact h.eq (by simp)
 ·rintro d j G w hf;exact hf.elim
def Yd(F:zk)(q:Int):zk×B0×Int:=match yN F.l q with
 | none=>(F,s_,6)
 | some x=>({ F with l:=xm F.l x.id λp=>(Yi p q).1 },x.rev,0)
def Xd(F:zk)(id:Int):zk×List Int×Int:=match qd F.l id with
 | none=>(F,[],6)
 | some x=>({ F with l:=xm F.l id λp=>(yQ p).1 },x.pod.reqs,0)
def cz{l:List ZJ}{q:Int}{x:ZJ}(h:yN l q=some x):x∈l∧q∈x.pod.reqs:=⟨List.mem_of_find?_eq_some h,by simpa using List.find?_some h⟩
def Bo{p:js}{q:Int}(h:q∈p.reqs):Yi p q=({ p with reqs:=p.reqs.erase q,st:=if p.st=3∧p.reqs.erase q = []then 4 else p.st },0):=by
 unfold Yi;rw[if_pos h]
def Hl{p:js}(h:p.st≠4):yQ p=({ p with st:=4,reqs:=[] },p.reqs,0):=by
 unfold yQ;rw[if_neg h]
def HK(h:St w0 E w)(i:Nat){A B:List Tr}{t:Tr}(hi:nth E i=some ((A++t::B).map trS).flatten)(hp:Vp t.2.1 t.1.pod t.2.2){q:Int}{k:Int→PT}
  (hk:∀s' w',Vp t.2.1 (Yi t.1.pod q).1 s'→St w0 (zd E i ((A++({ t.1 with pod:=(Yi t.1.pod q).1 },t.2.1,s')::B).map trS).flatten) w'→k (Yi t.1.pod q).2 w') :
  L.call Pr Uo [.pointer (some ⟨t.2.1,0,none⟩),I q] (.one (.one (.int .i64))) k w:=by
 refine HY (h.front i hi).pick 0 rfl hp λs' w hp' h=>hk s' w hp' ?_;have h:St w0 (trS ({ t.1 with pod:=(Yi t.1.pod q).1 },t.2.1,s')::((A++B).map trS).flatten::Zi E i) w:=h;exact St.back i hi h.place
def iy(h:St w0 E w)(i:Nat){b:Nat}{F:zk}{s:Seg}(hi:nth E i=some s)(hf:FlS b F s){q:Int}{k:B0×Int×Unit→PT}
  (hk:∀s' w',FlS b (Yd F q).1 s'→St w0 (zd E i s') w'→k ((Yd F q).2.1,(Yd F q).2.2,()) w') :
  L.call Pr ur [pO b,I q] (.tup [.one .str,.one (.int .i64)]) k w:=by
 have hf0:=hf;obtain⟨ok,rA,rW,mA,mW,sA,sW,L,hA,hW,hr,rfl⟩:=hf;refine za (pH _ _) ?_;unfold KK;have h:St w0 (flB b rA rW F::sA::sW::(L.map trS).flatten::Zi E i) w:=(h.front i hi).eq (by simp)
 (refine nn ?_;refine ldC h ?_)
 refine MpS.get2 mkI Oe zi (λx:Int=>x) (λ_=>rfl) h 2 rfl hW ?_;have hwt:=hr.wth q
 cases hfw:yN F.l q with
 | none=>
  rw[hfw]at hwt;rw[hwt];have e:Yd F q=(F,s_,6):=by unfold Yd;rw[hfw]
  rw[e]at hk;refine itT rfl ?_;exact⟨(s_,6,()),rfl,hk _ w hf0 (St.back i hi (h.eq (by simp)))⟩
 | some x=>
  rw[hfw]at hwt;rw[hwt];refine itF rfl ?_;obtain⟨hxl,hqx⟩:=cz hfw;have hfx:=Ki ok.pw hxl;have e:Yd F q=({ F with l:=xm F.l x.id λp=>(Yi p q).1 },x.rev,0):=by unfold Yd;rw[hfw]
  rw[e]at hk;obtain⟨A,t,B,rfl,rfl,-⟩:=hr.at hfx;have hg:=hr.get ok (t:=t) (by simp);have hps:=hr.ps t (by simp);simp only[Option.map_some,Option.getD_some]
  (refine nn ?_;refine ldC h ?_)
  refine MpS.get mkI JS zo (λx:B0×Option Addr=>(x.1,x.2,())) (λ_=>rfl) h 1 rfl hA ?_;rw[hg];simp only[Option.map_some,Option.getD_some];refine nw h ?_;clear h;intro b7 w h
  (refine stC h ?_;clear h;intro w h;dsimp only[zE,zd]at h;refine ldC h ?_)
  refine HK h 4 rfl hps λs' w hps' h=>?_
  (try dsimp only[zd]at h)
  (refine nn ?_;refine ldC h ?_)
  refine MpS.del mkI Oe h 3 rfl hW λsW' w hW' h=>?_
  (try dsimp only[zd]at h)
  have hgv:=Bo hqx;have hlv:=ok.live t.1 hxl;have hnd:t.1.pod.reqs.Nodup:=hps.1.pw.imp λh=>by omega
  have hrq:(Yi t.1.pod q).1.reqs=t.1.pod.reqs.erase q:=by rw[hgv]
  have hq2:∀q2∈(Yi t.1.pod q).1.reqs,q2∈t.1.pod.reqs∨yN F.l q2=none:=λq2 h2=>.inl (by rw[hrq]at h2;exact List.mem_of_mem_erase h2);have h4:(Yi t.1.pod q).1.st=4→(Yi t.1.pod q).1.reqs = []:=by
   rw[hgv];simp only;split
   ·rename_i h;exact λ_=>h.2
   ·intro h;omega
  have okG:=ok.upd hfx (λp=>(Yi p q).1) (by rw[hgv];simp only;split<;>omega) hq2;have hwth:∀q',zA (UF mW q) q'=(yN (xm F.l t.1.id λp=>(Yi p q).1) q').map (·.id):=λq'=>by
   rw[FS _ _ hW.nd,ok.where_upd hfx _ hq2 h4,hrq];by_cases eq:q=q'
   ·subst eq;rw[if_pos rfl,if_neg (by rw[List.Nodup.mem_erase_iff hnd];simp),if_pos hqx]
   ·rw[if_neg eq];by_cases h2:q'∈t.1.pod.reqs
    ·rw[if_pos ((List.Nodup.mem_erase_iff hnd).2 ⟨λe=>eq e.symm,h2⟩),hr.wth,NV ok.once hxl h2];rfl
    ·rw[if_neg (λhh=>h2 (List.mem_of_mem_erase hh)),if_neg h2,hr.wth]
  have h:=yM (yM (yM (yM h)));refine bj (t:=({ t.1 with pod:=(Yi t.1.pod q).1 },t.2.1,s')) h hA hg hps' (λh4'=>?_) λh4' sA' w hA' h=>?_
  ·(refine ldC h ?_)
   refine⟨(t.1.rev,0,()),rfl,hk _ w ⟨okG,rA,rW,mA,_,sA,sW',_,hA,hW',hr.upd ok (λp=>(Yi p q).1) hps' h4' hwth,rfl⟩ (St.back i hi ?_)⟩;have h:=uU h;exact h.eq (by simp)
  ·(refine ldC h ?_)
   refine⟨(t.1.rev,0,()),rfl,hk _ w ⟨okG,rA,rW,_,_,sA',sW',_,hA',hW',hr.del ok (λp=>(Yi p q).1) h4' hwth,rfl⟩ (St.back i hi ?_)⟩;have h:=uU h;exact h.eq (by simp)
def HJ(h:St w0 E w)(i:Nat){A B:List Tr}{t:Tr}(hi:nth E i=some ((A++t::B).map trS).flatten)(hp:Vp t.2.1 t.1.pod t.2.2){k:Sl×Int×Unit→PT}
  (hk:∀v s' s2 w',Vp t.2.1 (yQ t.1.pod).1 s'→Rw eI zp 1 v (yQ t.1.pod).2.1 s2→St w0 (s2::zd E i ((A++({ t.1 with pod:=(yQ t.1.pod).1 },t.2.1,s')::B).map trS).flatten) w'→k (v,(yQ t.1.pod).2.2,()) w') :
  L.call Pr Un [.pointer (some ⟨t.2.1,0,none⟩)] (.tup [.one .slice,.one (.int .i64)]) k w:=by
 refine HX (h.front i hi).pick 0 rfl hp λv s' s2 w hp' hr h=>hk v s' s2 w hp' hr ?_;have h:St w0 (s2::trS ({ t.1 with pod:=(yQ t.1.pod).1 },t.2.1,s')::((A++B).map trS).flatten::Zi E i) w:=h;have h:=Zm (Zm h);have h:=h.place;exact St.back (i+1) (E:=s2::E) hi h
def iw(h:St w0 E w)(i:Nat){b:Nat}{F:zk}{s:Seg}(hi:nth E i=some s)(hf:FlS b F s){id:Int}{k:Sl×Int×Unit→PT}
  (hk:∀v s' s2 w',FlS b (Xd F id).1 s'→Rw eI zp 1 v (Xd F id).2.1 s2→St w0 (s2::zd E i s') w'→k (v,(Xd F id).2.2,()) w') :
  L.call Pr uq [pO b,I id] (.tup [.one .slice,.one (.int .i64)]) k w:=by
 have hf0:=hf;obtain⟨ok,rA,rW,mA,mW,sA,sW,L,hA,hW,hr,rfl⟩:=hf;refine za (pG _ _) ?_;unfold KJ;have h:St w0 (flB b rA rW F::sA::sW::(L.map trS).flatten::Zi E i) w:=(h.front i hi).eq (by simp)
 (refine nn ?_;refine ldC h ?_)
 refine MpS.get2 mkI JS zo (λx:B0×Option Addr=>(x.1,x.2,())) (λ_=>rfl) h 1 rfl hA ?_
 cases hfd:qd F.l id with
 | none=>
  rw[hr.get0 hfd];have e:Xd F id=(F,[],6):=by unfold Xd;rw[hfd]
  rw[e]at hk;simp only[Option.map_none,Option.getD_none,Option.isSome_none];refine nw h ?_;clear h;intro b4 w h
  (refine stC h ?_;clear h;intro w h;dsimp only[zE,zd]at h)
  refine itT rfl ?_;have h:=zj h;have h:=St.back i hi (s':=flB b rA rW F++(sA++(sW++(L.map trS).flatten))) (h.eq (by simp));exact⟨(⟨none,0,0⟩,6,()),rfl,hk ⟨none,0,0⟩ _ [] w hf0 Rw.nil (h.eq (by simp))⟩
 | some x=>
  obtain⟨hxl,hxid⟩:=JE hfd;have e:Xd F id=({ F with l:=xm F.l id λp=>(yQ p).1 },x.pod.reqs,0):=by unfold Xd;rw[hfd]
  rw[e]at hk;obtain⟨A,t,B,rfl,rfl,-⟩:=hr.at hfd;subst hxid;have hg:=hr.get ok (t:=t) (by simp);have hps:=hr.ps t (by simp);have hlv:=ok.live t.1 hxl;have hkl:=Hl (p:=t.1.pod) (by omega);have hfew:=hps.1.few;rw[hg];simp only[Option.map_some,Option.getD_some,Option.isSome_some];refine nw h ?_;clear h;intro b4 w h
  (refine stC h ?_;clear h;intro w h;dsimp only[zE,zd]at h)
  refine itF rfl ?_
  (refine ldC h ?_)
  have h:=zj h;refine HJ h 3 rfl hps λv s' s2 w hps' hrow h=>?_
  (try dsimp only[zd]at h)
  rw[hkl]at hrow;rw[show(yQ t.1.pod).2.2=0 by rw[hkl]];dsimp only at hrow ⊢;have hlen:=Rw.len YI hrow;have hst4:(yQ t.1.pod).1.st=4:=by rw[hkl]
  have hq2:∀q2∈(yQ t.1.pod).1.reqs,q2∈t.1.pod.reqs∨yN F.l q2=none:=λq2 h2=>by rw[hkl]at h2;simp at h2
  have okG:=ok.upd hfd (λp=>(yQ p).1) (by rw[hkl];simp) hq2;have hwu:=ok.where_upd hfd (λp=>(yQ p).1) hq2 (λ_=>by rw[hkl]);have hw0:=hr.wth
  refine zX (λq y w=>∃(j:Nat)(mW:List (Int×Int))(sW:Seg),y=((j:Int),())∧q+j=t.1.pod.reqs.length∧MpS KI KI rW mW sW∧(∀q',zA mW q'=if q'∈t.1.pod.reqs.take j then none else(yN F.l q').map (·.id))∧
   St w0 (s2::flB b rA rW F::sA::sW::((A++({ t.1 with pod:=(yQ t.1.pod).1 },t.2.1,s')::B).map trS).flatten::Zi E i) w) t.1.pod.reqs.length ⟨0,mW,sW,rfl,rfl,hW,by simpa using hw0,h⟩ ?_
  clear hW hf0;clear h;rintro q y w ⟨j,mW',sW',rfl,hq,hW,hmw,h⟩ again hag
  (try dsimp only)
  refine it (λhc=>?_) (λhc=>?_)<;>(try simp only[zB]at hc)
  ·have hj:j<t.1.pod.reqs.length:=by omega
   have hx:t.1.pod.reqs[j]? = some t.1.pod.reqs[j]:=List.getElem?_eq_getElem hj;generalize t.1.pod.reqs[j]=z at hx;refine Rw.ix YI hrow (by omega) (by simpa using hj) λa ha=>?_;rw[Int.toNat_natCast]at ha;refine Rw.ld0 YI h 0 rfl hrow ha hx rfl rfl ?_
   (dsimp only[zd,List.cons_append,List.nil_append]at h;refine nn ?_;refine ldC h ?_)
   refine MpS.del mkI Oe h 3 rfl hW λsW2 w hW2 h=>?_;refine hag (q-1) _ w (by omega) ⟨j+1,_,sW2,?_,by omega,hW2,λq'=>?_,h⟩
   ·rw[wr (by omega) (by omega)];simp
   ·rw[FS _ _ hW.nd,hmw,List.take_add_one,hx];by_cases eq:z=q'
    ·subst eq;simp
    ·have:¬q'=z:=λe=>eq e.symm;simp[eq,this]
  ·have hj:j=t.1.pod.reqs.length:=by omega
   subst hj;rw[List.take_length]at hmw;have h:=yM (yM (yM (yM h)));refine bj (t:=({ t.1 with pod:=(yQ t.1.pod).1 },t.2.1,s')) h hA hg hps' (λh4'=>absurd hst4 h4') λh4' sA' w hA' h=>?_;refine⟨(v,0,()),rfl,hk v (flB b rA rW F++(sA'++(sW'++((A++B).map trS).flatten))) s2 w ⟨okG,rA,rW,_,_,sA',sW',_,hA',hW,hr.del ok (λp=>(yQ p).1) h4' (λq'=>?_),rfl⟩ hrow ?_⟩
   ·rw[hmw,hwu,if_neg (c:=q'∈(yQ t.1.pod).1.reqs) (by rw[hkl];simp)]
   ·exact St.back (i+1) (E:=s2::E) hi (h.eq (by simp[Zi]))
def eH(p:Int×Int):List Value:=[I p.1,I p.2]
def Ly:Enc eH 2:=⟨λ_=>rfl,λ_=>rfl,by decide⟩
def elH:El Pr yk jc 2 16 (.agg #[I 0,I 0]):=Gj (by kernel_rfl) (by kernel_rfl) rfl (by decide)
def LnS(b:Nat)(room:Int)(l:List (Int×Int))(s:Seg):Prop:=∃v sr,Rw eH jc 2 v l sr∧s = [Cl b uL [SlV v,I room]]++sr
def nj(l:List (Int×Int))(id:Int):Bool:=l.any λx=>x.1 == id
def vU(room:Int)(l:List (Int×Int))(id u:Int):List (Int×Int)×Int:=
 if nj l id then(l,5)else if(l.length:Int)≥room then(l,8)else(l++[(id,u)],0)
def IQ:List (Int×Int)→List (Int×Int)×Int×Bool
 | []=>([],0,false)
 | x::l=>(l,x.1,true)
def jC(l:List (Int×Int))(now:Int):List Int:=(l.filter λx=>x.2≤now).map (·.1)
def mZ(l:List (Int×Int))(now:Int):List (Int×Int):=l.filter λx=>!decide (x.2≤now)
def z0d(h:St w0 E w){room:Int}{k:Option Addr→PT}(hk:∀b s w',LnS b room [] s→St w0 (s::E) w'→k (some ⟨b,0,none⟩) w'):L.call Pr MF [I room] (.one (.one .ptr)) k w:=by
 refine za (bz _) ?_;unfold DB;refine nw h ?_;clear h;intro b w h;exact⟨_,rfl,hk b _ w ⟨⟨none,0,0⟩,[],Rw.nil,rfl⟩ (h.eq (by simp))⟩
def RW(h:St w0 E w)(i:Nat){b:Nat}{room:Int}{l:List (Int×Int)}{s:Seg}(hi:nth E i=some s)(hl:LnS b room l s){k:Int→PT}(hk:k l.length w):L.call Pr Xz [pO b] (.one (.one (.int .i64))) k w:=by
 obtain⟨v,sr,hr,rfl⟩:=hl;refine za (Cf _) ?_;unfold Gp;have h:=(h.front i hi).split
 (refine nn ?_;refine ldC h ?_)
 refine⟨_,rfl,?_⟩;rw[Rw.len Ly hr];exact hk
def Wm(h:St w0 E w){b:Nat}{k:FV→PT}(hk:∀c w',St w0 ([Cl c xV [.pointer (some ⟨b,0,none⟩)]]::E) w'→k ⟨.func jg,#[],#[.pointer (some ⟨c,0,none⟩)]⟩ w') :
  L.call Pr YX [pO b] (.one (.one .func)) k w:=by
 refine za (mz _) ?_;unfold VF;refine nw h ?_;clear h;intro c w h;exact⟨_,rfl,hk c w h⟩
def ey(l:List (Int×Int))(m:Nat):TT [.one (.int .i64),.one (.int .i64)]:=(((l[m]?).getD (0,0)).1,((l[m]?).getD (0,0)).2,())
def Wf{b c T:Nat}{rm:Value}{v:Sl}{l:List (Int×Int)}{sr:Seg}(hr:Rw eH jc 2 v l sr)(hn:l.length<1000000000) :
  Yld Pr w0 [[Cl c xV [.pointer (some ⟨b,0,none⟩)]],[Cl b T [SlV v,rm]],sr] (.func (.func jg) #[] #[.pointer (some ⟨c,0,none⟩)]) l.length λm=>TV _ (ey l m):=by
 intro yv R J Jd F w h hJ step fin fin2;have hlen:=Rw.len Ly hr;refine⟨Gz,GE yv ⟨c,0,none⟩ ?_⟩;unfold UI
 (dsimp only[zd,List.cons_append,List.nil_append]at h;refine ldC h ?_;refine nn ?_;refine ldC h ?_)
 refine zX (λq y w=>∃(m:Nat)(F:List Seg),@Eq Int y.1 m∧q+m=l.length∧J m F∧St w0 ([Cl c xV [.pointer (some ⟨b,0,none⟩)]]::[Cl b T [SlV v,rm]]::sr::F) w) l.length ⟨0,F,rfl,rfl,hJ,h⟩ ?_;rintro q ⟨y,⟨⟩⟩ w ⟨m,F,hy,hq,hJ,h⟩ again hag;simp only at hy;subst hy;refine it (λhb=>?_) (λhb=>?_)<;>(try simp only[zB]at hb)
 ·have hm:m<l.length:=by omega
  have hx:l[m]? = some l[m]:=List.getElem?_eq_getElem hm;refine Rw.ix Ly hr (by omega) (by simpa using hm) λa ha=>?_;refine Rw.lda Ly h 2 rfl hr ha (x:=l[m]) (by simpa using hx) rfl ?_;refine nw h ?_;clear h;intro b2 w h
  (refine stC h ?_;clear h;intro w h;dsimp only[zE,zd]at h;refine ldC h ?_;refine ldC h ?_)
  have h:=zj h;have ea:TV _ (ey l m) = [I l[m].1,I l[m].2]:=by simp[ey,hx];rfl
  have step:=step m F w hm hJ h;simp only[ea]at step;refine cv (xw.mono step λu w' hu=>?_);rcases hu with ⟨rfl,F',h,hJ⟩ | ⟨rfl,hd⟩
  ·refine⟨true,rfl,itF rfl (hag (q-1) _ _ (by omega) ⟨m+1,F',?_,by omega,hJ,h⟩)⟩;show Wi _=_;rw[wr (by omega) (by omega)];omega
  ·exact⟨false,rfl,itT rfl (fin2 w' hd)⟩
 ·have e:m=l.length:=by omega
  subst e;exact fin F w hJ h
def CP{l:List (Int×Int)}{m:Nat}{x:Int×Int}(hx:l[m]? = some x):ey l m=(x.1,x.2,()):=by simp[ey,hx]
def aF{l:List (Int×Int)}{id:Int}{m:Nat}{x:Int×Int}(hx:l[m]? = some x):nj (l.take (m+1)) id=(nj (l.take m) id||x.1 == id):=by
 simp[nj,List.take_add_one,hx]
def Hi{l:List (Int×Int)}{id:Int}{m:Nat}{x:Int×Int}(hx:l[m]? = some x)(h:x.1=id):nj l id=true:=by
 simp only[nj,List.any_eq_true];exact⟨x,List.mem_of_getElem? hx,by simpa using h⟩
def z2q(h:St w0 E w)(i:Nat){b:Nat}{room:Int}{l:List (Int×Int)}{s:Seg}(hi:nth E i=some s)(hl:LnS b room l s)(hn:l.length<1000000000){id:Int}{k:Bool→PT}(hk:∀w',St w0 E w'→k (nj l id) w') :
  L.call Pr ub [pO b,I id] (.one (.one .bool)) k w:=by
 obtain⟨v,sr,hr,rfl⟩:=hl;refine za (ph _ _) ?_;unfold Kq;have h:=(h.front i hi).split;refine nw h ?_;clear h;intro b1 w h;refine nw h ?_;clear h;intro b2 w h;refine Wm h λc w h=>?_;have h:=Zm (yM (yM h))
 refine fg (Wf hr hn) h (λm F=>F = [Cl b2 qG [.bool (nj (l.take m) id)]]::[Cl b1 zp [I id]]::Zi E i∧nj (l.take m) id=false)
  (λj G=>∃s0 s1,G=s0::[Cl b uL [SlV v,I room]]::sr::[Cl b2 qG [.bool true]]::s1::Zi E i∧nj l id=true∧j = .ret) ⟨rfl,rfl⟩ ?_ ?_ ?_
 ·rintro m F w lv lp d R hm ⟨rfl,hf⟩ h hN hE;have hx:l[m]? = some l[m]:=List.getElem?_eq_getElem hm;rw[CP hx];have ht:=aF (id:=id) hx
  (dsimp only[zd,List.cons_append,List.nil_append]at h;refine ldC h ?_)
  refine it (λhb=>?_) (λhb=>?_)<;>(try simp only[zB]at hb)
  ·(refine stC h ?_;clear h;intro w h;dsimp only[zE,zd]at h)
   exact hE _ _ w ⟨_,_,rfl,Hi hx hb,rfl⟩ h
  ·refine hN _ w ⟨rfl,?_⟩ ?_
   ·rw[ht,hf];simpa using hb
   ·rw[ht,hf];have:(false||l[m].1 == id)=false:=by simpa using hb
    rw[this,←hf];exact h
 ·rintro d F w ⟨rfl,hf⟩ h;refine VA ?_;rw[List.take_length]at hf h
  (dsimp only[zd,List.cons_append,List.nil_append]at h;refine stC h ?_;clear h;intro w h;dsimp only[zE,zd]at h)
  (first | refine gu h ?_ | refine gq h ?_ | refine gp h ?_ | refine gm h ?_ | refine gk h ?_ | refine gj h ?_ | refine gi h ?_ | refine gh h ?_ | refine gg h ?_ | refine gf h ?_ | refine Ua h ?_ | refine uZ h ?_);clear h;intro w h
  (refine ldC h ?_)
  refine⟨_,rfl,?_⟩;rw[←hf];refine hk w ?_;have h:=zj (Qj (uU h));have h:=St.back i hi h.glue
  rwa [yy hi]at h
 ·rintro d j F w ⟨_,_,rfl,hf,rfl⟩ h;refine iT ?_
  (first | refine gu h ?_ | refine gq h ?_ | refine gp h ?_ | refine gm h ?_ | refine gk h ?_ | refine gj h ?_ | refine gi h ?_ | refine gh h ?_ | refine gg h ?_ | refine gf h ?_ | refine Ua h ?_ | refine uZ h ?_);clear h;intro w h
  (refine ldC h ?_)
  refine⟨_,rfl,?_⟩;rw[←hf];refine hk w ?_;have h:=zj (Qj (uU h));have h:=St.back i hi h.glue
  rwa [yy hi]at h
def St.setN_same{s:Seg}(i:Nat)(hi:nth E i=some s)(h:St w0 (zd E i s) w):St w0 E w:=by rwa [yy hi]at h
def z0x(h:St w0 E w)(i:Nat){b:Nat}{room:Int}{l:List (Int×Int)}{s:Seg}(hi:nth E i=some s)(hl:LnS b room l s)(hn:l.length<1000000000){id u:Int}{k:Int→PT}
  (hk:∀s' w',LnS b room (vU room l id u).1 s'→St w0 (zd E i s') w'→k (vU room l id u).2 w'):L.call Pr Qb [pO b,I id,I u] (.one (.one (.int .i64))) k w:=by
 refine za (Ts _ _ _) ?_;unfold Ov
 (refine nn ?_)
 refine z2q h i hi hl hn λw h=>?_;refine it (λhb=>?_) (λhb=>?_)<;>(try simp only[zB]at hb)
 ·have e:vU room l id u=(l,5):=by simp[vU,hb]
  rw[e]at hk;exact⟨_,rfl,hk s w hl (by rwa [yy hi])⟩
 have hl':=hl;obtain⟨v,sr,hr,rfl⟩:=hl
 (refine dr h ?_;clear h;intro w h;refine nn ?_)
 have h:=(h.front i hi).split;refine ldx h 0 rfl rfl rfl ?_;have h:St w0 E w:=by have h:=St.back i hi h.glue;rwa [yy hi]at h
 refine RW h i hi hl' ?_;have h:=(h.front i hi).split
 (refine ckC h ?_)
 refine it (λhc=>?_) (λhc=>?_)<;>(try simp only[zB]at hc)
 ·have e:vU room l id u=(l,8):=by simp only[vU,hb];rw[if_neg (by simp),if_pos hc]
  rw[e]at hk;exact⟨_,rfl,hk _ w hl' (St.back i hi h.glue)⟩
 have e:vU room l id u=(l++[(id,u)],0):=by simp only[vU,hb];rw[if_neg (by simp),if_neg hc]
 rw[e]at hk
 (refine nn ?_;refine ldC h ?_)
 refine nw h ?_;clear h;intro b8 w h;refine Rw.app Ly elH h 1 rfl hr (id,u) rfl (by omega) (by omega) λv' s' w hr h=>?_
 (dsimp only[zd,List.cons_append,List.nil_append]at h;refine nn ?_;refine stC h ?_;clear h;intro w h;dsimp only[zE,zd]at h)
 exact⟨_,rfl,hk _ w ⟨v',s',hr,rfl⟩ (St.back i hi h.glue)⟩
def z2D(h:St w0 E w)(i:Nat){b:Nat}{room:Int}{l:List (Int×Int)}{s:Seg}(hi:nth E i=some s)(hl:LnS b room l s)(hn:l.length<1000000000){k:Int×Bool×Unit→PT}
  (hk:∀s' w',LnS b room (IQ l).1 s'→St w0 (zd E i s') w'→k ((IQ l).2.1,(IQ l).2.2,()) w'):L.call Pr Vl [pO b] (.tup [.one (.int .i64),.one .bool]) k w:=by
 obtain⟨v,sr,hr,rfl⟩:=hl;refine za (Ce _) ?_;unfold Gn;have h:=(h.front i hi).split;refine nw h ?_;clear h;intro b1 w h;refine nw h ?_;clear h;intro b2 w h;refine nw h ?_;clear h;intro b3 w h
 (refine ldC h ?_;refine nn ?_)
 refine Wm h λc w h=>?_;have h:=Zm (JR (JR h));have hlen:=Rw.len Ly hr;have hY:=(Wf (w0:=w0) (b:=b) (c:=c) (T:=uL) (rm:=I room) hr hn)
 cases l with
 | nil=>
  refine fg hY h (λm F=>F = [Cl b3 qG [.bool false]]::[Cl b2 zp [I 0]]::[Cl b1 xp [.pointer (some ⟨b,0,none⟩)]]::Zi E i) (λj F=>False) rfl ?_ ?_ ?_
  ·intro m F w lv lp d R hm;simp at hm
  ·rintro d F w rfl h;refine VA ?_
   (dsimp only[zd,List.cons_append,List.nil_append]at h;refine stC h ?_;clear h;intro w h;dsimp only[zE,zd]at h;refine stC h ?_;clear h;intro w h;dsimp only[zE,zd]at h)
   (first | refine gu h ?_ | refine gq h ?_ | refine gp h ?_ | refine gm h ?_ | refine gk h ?_ | refine gj h ?_ | refine gi h ?_ | refine gh h ?_ | refine gg h ?_ | refine gf h ?_ | refine Ua h ?_ | refine uZ h ?_);clear h;intro w h
   (refine ldC h ?_;refine ldC h ?_)
   refine⟨(0,false,()),rfl,hk _ w ⟨v,sr,hr,rfl⟩ ?_⟩;have h:=zj (Qj (uU (PL h)));exact St.back i hi h.glue
  ·rintro d j F w hf;exact hf.elim
 | cons x l=>
  have hr':=Rw.behind Ly hr 1 (by simp);have hc:=hr.cap
  refine fg hY h (λm F=>m=0∧F = [Cl b3 qG [.bool false]]::[Cl b2 zp [I 0]]::[Cl b1 xp [.pointer (some ⟨b,0,none⟩)]]::Zi E i)
   (λj G=>j = .ret∧∃s0 s1 v',Rw eH jc 2 v' l sr∧G=s0::[Cl b uL [SlV v',I room]]::sr::[Cl b3 qG [.bool true]]::[Cl b2 zp [I x.1]]::s1::Zi E i) ⟨rfl,rfl⟩ ?_ ?_ ?_
  ·rintro m F w lv lp d R hm ⟨rfl,rfl⟩ h hN hE;rw[CP (x:=x) rfl]
   (dsimp only[zd,List.cons_append,List.nil_append]at h;refine dr h ?_;clear h;intro w h;refine ldC h ?_;refine ldC h ?_;refine nn ?_;refine ldC h ?_)
   simp only[List.length_cons]at hlen;refine gd (by(try dsimp only);omega) ?_
   (refine nn ?_;refine stC h ?_;clear h;intro w h;dsimp only[zE,zd]at h;refine stC h ?_;clear h;intro w h;dsimp only[zE,zd]at h;refine stC h ?_;clear h;intro w h;dsimp only[zE,zd]at h)
   simp only[Int.toNat_natCast,show Int.toNat 1=1 from rfl]at h;refine hE _ _ w ?_ h;exact⟨rfl,_,_,_,hr',rfl⟩
  ·rintro d F w ⟨hm,-⟩;simp at hm
  ·rintro d j G w ⟨rfl,_,_,v',hr',rfl⟩ h;refine iT ?_
   (first | refine gu h ?_ | refine gq h ?_ | refine gp h ?_ | refine gm h ?_ | refine gk h ?_ | refine gj h ?_ | refine gi h ?_ | refine gh h ?_ | refine gg h ?_ | refine gf h ?_ | refine Ua h ?_ | refine uZ h ?_);clear h;intro w h
   (refine ldC h ?_;refine ldC h ?_)
   refine⟨(x.1,true,()),rfl,hk _ w ⟨v',sr,hr',rfl⟩ ?_⟩;have h:=zj (Qj (uU (PL h)));exact St.back i hi h.glue
def Ih(h:St w0 E w)(i:Nat){b:Nat}{room:Int}{l:List (Int×Int)}{s:Seg}(hi:nth E i=some s)(hl:LnS b room l s)(hn:l.length<1000000000){k:Sl→PT}
  (hk:∀v s' w',Rw eI zp 1 v (l.map (·.1)) s'→St w0 (s'::E) w'→k v w'):L.call Pr QV [pO b] (.one (.one .slice)) k w:=by
 have hl':=hl;obtain⟨v,sr,hr,rfl⟩:=hl;refine za (Cg _) ?_;unfold Gq;refine RW h i hi hl' ?_;refine mk0 elI YI h (by omega) (by omega) (by omega) λv2 s2 w hr2 h=>?_;refine nw h ?_;clear h;intro b3 w h
 (refine stC h ?_;clear h;intro w h;dsimp only[zE,zd]at h;refine nn ?_)
 refine Wm h λc w h=>?_;have h:=(h.front (i+3) hi).split;have h:=Zm (yL (yL h))
 refine fg (Wf hr hn) h (λm F=>∃v2 s2,F = [Cl b3 ZS [SlV v2]]::s2::Zi E i∧Rw eI zp 1 v2 ((l.take m).map (·.1)) s2)
  (λj G=>False) ⟨_,_,rfl,hr2⟩ ?_ ?_ ?_
 ·rintro m F w lv lp d R hm ⟨v2,s2,rfl,hr2⟩ h hN hE;have hx:l[m]? = some l[m]:=List.getElem?_eq_getElem hm;rw[CP hx]
  (dsimp only[zd,List.cons_append,List.nil_append]at h;refine ldC h ?_)
  refine nw h ?_;clear h;intro b12 w h;refine Rw.app YI elI h 6 rfl hr2 l[m].1 rfl (by simp;omega) (by simp;omega) λv' s' w hr h=>?_
  (dsimp only[zd,List.cons_append,List.nil_append]at h;refine stC h ?_;clear h;intro w h;dsimp only[zE,zd]at h)
  refine hN _ w ⟨v',s',rfl,?_⟩ h;rw[List.take_add_one,hx,List.map_append];exact hr
 ·rintro d F w ⟨v2,s2,rfl,hr2⟩ h;refine VA ?_
  (dsimp only[zd,List.cons_append,List.nil_append]at h;refine ldC h ?_)
  (first | refine gu h ?_ | refine gq h ?_ | refine gp h ?_ | refine gm h ?_ | refine gk h ?_ | refine gj h ?_ | refine gi h ?_ | refine gh h ?_ | refine gg h ?_ | refine gf h ?_ | refine Ua h ?_ | refine uZ h ?_);clear h;intro w h
  rw[List.take_length]at hr2;refine⟨v2,rfl,hk _ s2 w hr2 ?_⟩;have h:=Ys (Ys (yM h));have h:=Qj (uU h);have h:=St.back (i+1) (E:=s2::E) hi h.glue;have h:=St.setN_same (i+1) (E:=s2::E) hi h;exact h
 ·rintro d j F w hf;exact hf.elim
def dW{l:List (Int×Int)}{now:Int}{m:Nat}{x:Int×Int}(hx:l[m]? = some x):jC (l.take (m+1)) now=jC (l.take m) now++(if x.2≤now then [x.1]else []):=by
 simp only[jC,List.take_add_one,hx,List.filter_append,List.map_append]
 congr 1
 by_cases h:x.2≤now<;>simp[h]
def dV{l:List (Int×Int)}{now:Int}{m:Nat}{x:Int×Int}(hx:l[m]? = some x):mZ (l.take (m+1)) now=mZ (l.take m) now++(if x.2≤now then []else [x]):=by
 simp only[mZ,List.take_add_one,hx,List.filter_append]
 congr 1
 by_cases h:x.2≤now<;>simp[h]
def NG(l:List (Int×Int))(now:Int):(jC l now).length≤l.length:=by
 unfold jC;rw[List.length_map];exact List.length_filter_le ..
def NF(l:List (Int×Int))(now:Int):(mZ l now).length≤l.length:=List.length_filter_le ..
def z0z(h:St w0 E w)(i:Nat){b:Nat}{room:Int}{l:List (Int×Int)}{s:Seg}(hi:nth E i=some s)(hl:LnS b room l s)(hn:l.length<1000000000){now:Int}{k:Sl→PT}
  (hk:∀v s' s2 w',LnS b room (mZ l now) s'→Rw eI zp 1 v (jC l now) s2→St w0 (s2::zd E i s') w'→k v w'):L.call Pr vd [pO b,I now] (.one (.one .slice)) k w:=by
 obtain⟨v,sr,hr,rfl⟩:=hl;refine za (Tt _ _) ?_;unfold Ow
 (refine nn ?_)
 refine za (my _ _) ?_;unfold VE;have h:=(h.front i hi).split;refine nw h ?_;clear h;intro b1 w h;refine nw h ?_;clear h;intro b2 w h;refine nw h ?_;clear h;intro b3 w h;refine Wm h λc w h=>?_;have h:=Zm (JR (JR h));have h:St w0 ([Cl c xV [.pointer (some ⟨b,0,none⟩)]]::[Cl b uL [SlV v,I room]]::sr::[Cl b3 yk [SlV ⟨none,0,0⟩]]::[]::[Cl b2 ZS [SlV ⟨none,0,0⟩]]::[]::[Cl b1 zp [I now]]::Zi E i) w:=h.eq (by simp)
 refine fg (Wf hr hn) h (λm F=>∃v2 s2 v3 s3,F = [Cl b3 yk [SlV v3]]::s3::[Cl b2 ZS [SlV v2]]::s2::[Cl b1 zp [I now]]::Zi E i∧Rw eI zp 1 v2 (jC (l.take m) now) s2∧Rw eH jc 2 v3 (mZ (l.take m) now) s3)
  (λj G=>False) ⟨_,_,_,_,rfl,Rw.nil,Rw.nil⟩ ?_ ?_ ?_
 ·rintro m F w lv lp d R hm ⟨v2,s2,v3,s3,rfl,hr2,hr3⟩ h hN hE;have hx:l[m]? = some l[m]:=List.getElem?_eq_getElem hm;have n2:=NG (l.take m) now;have n3:=NF (l.take m) now;simp only[List.length_take]at n2 n3;rw[CP hx]
  (dsimp only[zd,List.cons_append,List.nil_append]at h;refine ldC h ?_)
  refine it (λhb=>?_) (λhb=>?_)<;>(try simp only[zB]at hb)
  ·(refine ldC h ?_)
   refine nw h ?_;clear h;intro b12 w h;refine Rw.app YI elI h 8 rfl hr2 l[m].1 rfl (by omega) (by omega) λv' s' w hr' h=>?_
   (dsimp only[zd,List.cons_append,List.nil_append]at h;refine stC h ?_;clear h;intro w h;dsimp only[zE,zd]at h)
   refine hN _ w ⟨v',s',v3,s3,rfl,?_,?_⟩ h
   ·rw[dW hx,if_pos hb];exact hr'
   ·rw[dV hx,if_pos hb,List.append_nil];exact hr3
  ·(refine ldC h ?_)
   refine nw h ?_;clear h;intro b15 w h;refine Rw.app Ly elH h 6 rfl hr3 l[m] rfl (by omega) (by omega) λv' s' w hr' h=>?_
   (dsimp only[zd,List.cons_append,List.nil_append]at h;refine stC h ?_;clear h;intro w h;dsimp only[zE,zd]at h)
   refine hN _ w ⟨v2,s2,v',s',rfl,?_,?_⟩ h
   ·rw[dW hx,if_neg hb,List.append_nil];exact hr2
   ·rw[dV hx,if_neg hb];exact hr'
 ·rintro d F w ⟨v2,s2,v3,s3,rfl,hr2,hr3⟩ h;refine VA ?_;rw[List.take_length]at hr2 hr3;have n2:=NG l now
  (dsimp only[zd,List.cons_append,List.nil_append]at h;refine ldC h ?_;refine nn ?_;refine stC h ?_;clear h;intro w h;dsimp only[zE,zd]at h;refine ldC h ?_)
  refine Ot h (hr2.rd YI h 7 rfl) (by omega) (Rw.nil_of YI hr2) λv' s' w hr' _ h=>?_
  (first | refine gu h ?_ | refine gq h ?_ | refine gp h ?_ | refine gm h ?_ | refine gk h ?_ | refine gj h ?_ | refine gi h ?_ | refine gh h ?_ | refine gg h ?_ | refine gf h ?_ | refine Ua h ?_ | refine uZ h ?_);clear h;intro w h
  refine⟨v',rfl,v',rfl,hk v' _ s' w ⟨v3,s3,hr3,rfl⟩ hr' ?_⟩;have h:=Ys (JR h);have h:=Qj (uU (PL (nk (z2i (z2h h)))));exact St.back (i+1) (E:=s'::E) hi h.glue
 ·rintro d j F w hf;exact hf.elim
def mo(x:B0×Int):Value:=.agg #[.string x.1,I x.2]
abbrev yG:=HT [.int .i64,.int .i64,.int .i64,.str]
abbrev cC:E1:=.agg [.int .i64,.int .i64,.int .i64,.str]
abbrev yG.cells(f:yG):List Value:=[I f.1,I f.2.1,I f.2.2.1,.string f.2.2.2.1]
def oU:Enc yG.cells 4:=⟨λ_=>rfl,λ_=>rfl,by decide⟩
def elF:El Pr zC zz 4 40 (.agg #[I 0,I 0,I 0,.string s_]):=Gj (by kernel_rfl) (by kernel_rfl) rfl (by decide)
structure Zq where
 all:List (Int×(B0×Int))
 lines:List (B0×List (Int×Int))
 room:Int
 pat:Int
structure Zq.Ok(G:Zq):Prop where
 few:G.all.length<100000000
 lo:0≤G.room
 hi:G.room≤1000000
 ln:∀x∈G.lines,(x.2.length:Int)≤G.room
 nd:(G.lines.map (·.1)).Nodup
 nda:(G.all.map (·.1)).Nodup
 fl:G.lines.length<100000000
structure LnE where
 k:B0
 b:Nat
 l:List (Int×Int)
 sg:Seg
abbrev LnE.kp(x:LnE):B0×Option Addr:=(x.k,some ⟨x.b,0,none⟩)
abbrev LnE.ka(x:LnE):B0×List (Int×Int):=(x.k,x.l)
abbrev gtB(b bf rA rL c:Nat)(room pat:Int):Seg:=[Cl b cH [.pointer (some ⟨bf,0,none⟩),.map (some rA),.map (some rL),.func (.func kf) #[] #[.pointer (some ⟨c,0,none⟩)],I room,I pat]]
structure GtR(G:Zq)(rA rL:Nat)(sA sL:Seg)(Q:List LnE):Prop where
 all:MpS KI mo rA G.all sA
 lns:MpS Value.string Value.pointer rL (Q.map LnE.kp) sL
 each:∀x∈Q,LnS x.b G.room x.l x.sg
 abs:G.lines=Q.map LnE.ka
def GtS(b bf:Nat)(G:Zq)(s:Seg):Prop:=G.Ok∧∃rA rL c sA sL,∃Q:List LnE,GtR G rA rL sA sL Q∧
 s=gtB b bf rA rL c G.room G.pat++([Cl c zp [I G.room]]++(sA++(sL++(Q.map LnE.sg).flatten)))
def Cs:Pr.underlying Yb=some (.map zp Zu):=by kernel_rfl
def ge:Pr.underlying Zr=some (.map zc xp):=by kernel_rfl
def Ay:Pr.underlying zc=some .string:=by kernel_rfl
def aB:MK Pr zc Value.string:=Rt Ay
def z0I(w:World):(zeroValue Zu).run Pr w = .ok ((E1.agg [.str,.int .i64]).val (s_,0,())) w:=by
 have h:(Pr.info? Zu).map (·.zero)=some (some (.agg #[.string s_,I 0])):=by kernel_rfl
 cases hi:Pr.info? Zu with
 | none=>rw[hi]at h;cases h
 | some i=>rw[hi]at h;simp only[Option.map_some,Option.some.injEq]at h;exact zv hi h w
def zln(w:World):(zeroValue xp).run Pr w = .ok ((E1.one .ptr).val none) w:=by
 have h:(Pr.info? xp).map (·.zero)=some (some (.pointer none)):=by kernel_rfl
 cases hi:Pr.info? xp with
 | none=>rw[hi]at h;cases h
 | some i=>rw[hi]at h;simp only[Option.map_some,Option.some.injEq]at h;exact zv hi h w
def z0n(h:St w0 E w){bf:Nat}{room pat:Int}(h0:0≤room)(h1:room≤1000000){k:Option Addr→PT}(hk:∀b s w',GtS b bf ⟨[],[],room,pat⟩ s→St w0 (s::E) w'→k (some ⟨b,0,none⟩) w') :
  L.call Pr MI [pO bf,I room,I pat] (.one (.one .ptr)) k w:=by
 refine za (bH _ _ _) ?_;unfold DH;refine nw h ?_;clear h;intro c w h;refine MpS.new h KI mo λrA sA w hA h=>?_;refine MpS.new h Value.string Value.pointer λrL sL w hL h=>?_
 (refine ldC h ?_)
 refine nw h ?_;clear h;intro b w h;refine⟨_,rfl,hk b _ w ⟨⟨by simp,h0,h1,by simp,by simp,by simp,by simp⟩,rA,rL,c,sA,sL,[],⟨hA,hL,by simp,rfl⟩,rfl⟩ ?_⟩;have h:=Ys (Ys (Zm (yL h)));exact h.eq (by simp)
def IS(f:yG)(id:Int):yG:=(id,f.2.1,f.2.2.1,f.2.2.2.1,())
def Tm{b bf rA rL c:Nat}{room pat:Int}{sA:Seg}{all:List (Int×(B0×Int))}(hA:MpS KI mo rA all sA)(h:St w0 (gtB b bf rA rL c room pat::sA::E) w){id:Int}{rev:B0}{f:yG}{k:cC.T→PT}
  (hk:∀sA' w',MpS KI mo rA (Zp all id (rev,f.2.1)) sA'→St w0 (gtB b bf rA rL c room pat::sA'::E) w'→k (IS f id) w') :
  L.call Pr yf [pO b,I id,.string rev,.agg (yG.cells f).toArray] (.one cC) k w:=by
 refine za (Ck _ _ _ f) ?_;unfold Gu;refine nw h ?_;clear h;intro b1 w h;refine nw h ?_;clear h;intro b2 w h
 (refine stC h ?_;clear h;intro w h;dsimp only[zE,zd]at h;refine dr h ?_;clear h;intro w h;refine nn ?_;refine ldC h ?_;refine ldC h ?_)
 refine MpS.set mkI Cs h 3 rfl hA (rev,f.2.1) rfl λsA' w hA' h=>?_;have h:St w0 ([Cl b2 zz [I 0,I 0,I 0,.string s_]]::[Cl b1 zz [I id,I f.2.1,I f.2.2.1,.string f.2.2.2.1]]::gtB b bf rA rL c room pat::sA'::E) w:=h
 (refine laC h ?_;refine stC h ?_;clear h;intro w h;dsimp only[zE,zd]at h;refine laC h ?_)
 exact⟨IS f id,rfl,hk sA' w hA' (zj (zj h))⟩
def Dx(h:St w0 E w){s:B0}{k:cC.T→PT}(hk:∀w',St w0 E w'→k (0,4,0,s,()) w'):L.call Pr qx [.string s] (.one cC) k w:=by
 refine za (bG _) ?_;unfold DG;refine nw h ?_;clear h;intro b1 w h
 (refine stC h ?_;clear h;intro w h;dsimp only[zE,zd]at h;refine laC h ?_)
 exact⟨_,rfl,hk w (zj h)⟩
def iX(all:List (Int×(B0×Int)))(id:Int):Bool:=(zA all id).isSome
def il{b bf rA rL c:Nat}{room pat:Int}{sA:Seg}{all:List (Int×(B0×Int))}(hA:MpS KI mo rA all sA)(h:St w0 (gtB b bf rA rL c room pat::sA::E) w){id:Int}{k:Bool→PT}
  (hk:∀w',St w0 (gtB b bf rA rL c room pat::sA::E) w'→k (iX all id) w') :
  L.call Pr vh [pO b,I id] (.one (.one .bool)) k w:=by
 refine za (TB _ _) ?_;unfold OD
 (refine nn ?_;refine ldC h ?_)
 refine MpS.get2 mkI Cs z0I (λx:B0×Int=>(x.1,x.2,())) (λ_=>rfl) h 1 rfl hA ?_;refine nw h ?_;clear h;intro b4 w h
 (refine stC h ?_;clear h;intro w h;dsimp only[zE,zd]at h)
 exact⟨_,rfl,hk w (zj h)⟩
def On(F:zk)(all:List (Int×(B0×Int)))(id:Int)(rev:B0):zk×List (Int×(B0×Int))×yG×Bool:=
 if(yt F rev id).2.2=true then((yt F rev id).1,Zp all id (rev,1),(id,1,(yt F rev id).2.1,s_,()),true)else((yt F rev id).1,all,(0,0,0,s_,()),false)
def BH{b bf rA rL c:Nat}{room pat:Int}{sA sf:Seg}{all:List (Int×(B0×Int))}{F:zk}(hA:MpS KI mo rA all sA)(hf:FlS bf F sf)(h20:F.l.length≤30)(hfew:∀x∈F.l,x.pod.reqs.length<10000000)(h:St w0 (gtB b bf rA rL c room pat::sA::sf::E) w){id:Int}{rev:B0}{k:cC.T×Bool×Unit→PT}
  (hk:∀sA' sf' w',MpS KI mo rA (On F all id rev).2.1 sA'→FlS bf (On F all id rev).1 sf'→St w0 (gtB b bf rA rL c room pat::sA'::sf'::E) w'→k ((On F all id rev).2.2.1,(On F all id rev).2.2.2,()) w') :
  L.call Pr Qd [pO b,I id,.string rev] (.tup [cC,.one .bool]) k w:=by
 refine za (Tz _ _ _) ?_;unfold OB;unfold On at hk;refine nw h ?_;clear h;intro b1 w h
 (refine nn ?_;refine ldC h ?_)
 have hrl:(revs F.l rev).length≤30:=Nat.le_trans (List.length_filter_le ..) h20;refine iu h 3 rfl hf hrl hfew λsf' w hf' h=>?_;have h:St w0 ([Cl b1 zz [I 0,I 0,I 0,.string s_]]::gtB b bf rA rL c room pat::sA::sf'::E) w:=h;refine it (λhc=>?_) (λhc=>?_)<;>(try simp only[zB]at hc)
 ·rw[if_neg (by simp[hc])]at hk
  (refine stC h ?_;clear h;intro w h;dsimp only[zE,zd]at h;refine laC h ?_)
  exact⟨(_,false,()),rfl,hk sA sf' w hA hf' (zj h)⟩
 ·rw[if_pos hc]at hk;have h:=Zm (Zm h);refine Tm (f:=(0,1,(yt F rev id).2.1,s_,())) hA h λsA' w hA' h=>?_
  (refine stC h ?_;clear h;intro w h;dsimp only[zE,zd]at h;refine laC h ?_)
  refine⟨((id,1,(yt F rev id).2.1,s_,()),true,()),rfl,hk sA' sf' w hA' hf' ?_⟩;have h:=uV h;exact h
def QJ{G:Zq}{b bf rA rL c:Nat}{sA sL:Seg}{Q:List LnE}(ok:G.Ok)(hr:GtR G rA rL sA sL Q)(h:St w0 (gtB b bf rA rL c G.room G.pat::[Cl c zp [I G.room]]::sA::sL::(Q.map LnE.sg).flatten::E) w) :
  ∃s,GtS b bf G s∧St w0 (s::E) w:=⟨_,⟨ok,rA,rL,c,sA,sL,Q,hr,rfl⟩,h.glue5⟩
def zS(ls:List (B0×List (Int×Int)))(rev:B0):List (Int×Int):=(zA ls rev).getD []
def Pu{Q:List LnE}{rev:B0}:zA (Q.map LnE.kp) rev=(uI LnE.k Q rev).map λx=>some ⟨x.b,0,none⟩:=Qi (key:=LnE.k) (λx:LnE=>(some ⟨x.b,0,none⟩:Option Addr)) rev Q
def Pw{Q:List LnE}{rev:B0}:zA (Q.map LnE.ka) rev=(uI LnE.k Q rev).map LnE.l:=Qi (key:=LnE.k) LnE.l rev Q
def Ic{b bf rA rL c:Nat}{room pat:Int}{sL:Seg}{Q:List LnE}(hL:MpS Value.string Value.pointer rL (Q.map LnE.kp) sL)(hQ:∀x∈Q,LnS x.b room x.l x.sg)
  (h:St w0 (gtB b bf rA rL c room pat::[Cl c zp [I room]]::sL::(Q.map LnE.sg).flatten::E) w) {rev:B0} {a:Addr} (ha:a=⟨b,2,none⟩) {k:Option Addr→PT}
  (hk:∀sL' A x B w',(∀y∈A++x::B,LnS y.b room y.l y.sg)→MpS Value.string Value.pointer rL ((A++x::B).map LnE.kp) sL'→x.k=rev→x.l=zS (Q.map LnE.ka) rev→(A++x::B).map LnE.ka=Zp (Q.map LnE.ka) rev (zS (Q.map LnE.ka) rev)→
   St w0 (gtB b bf rA rL c room pat::[Cl c zp [I room]]::sL'::((A++x::B).map LnE.sg).flatten::E) w'→k (some ⟨x.b,0,none⟩) w') :
  L.call Pr jv [.pointer (some a),.string rev] (.one (.one .ptr)) k w:=by
 subst ha;refine za (oZ _ _) ?_;unfold QM;refine jd ?_
 (refine nn ?_;refine ldC h ?_)
 refine MpS.get2 aB ge zln (λx:Option Addr=>x) (λ_=>rfl) h 2 rfl hL ?_
 (try dsimp only)
 cases hf:uI LnE.k Q rev with
 | some x=>
  have e1:=Pu (Q:=Q) (rev:=rev);have e2:=Pw (Q:=Q) (rev:=rev);rw[hf]at e1 e2;simp only[Option.map_some]at e1 e2;rw[e1];refine itF rfl ?_
  (refine nn ?_;refine ldC h ?_)
  refine MpS.get aB ge zln (λx:Option Addr=>x) (λ_=>rfl) h 2 rfl hL ?_;rw[e1];obtain⟨A,B,e,hx⟩:=Kc hf;subst e;refine⟨_,rfl,hk sL A x B w hQ hL hx ?_ ?_ h⟩
  ·unfold zS;rw[e2];rfl
  ·unfold zS;rw[e2];exact(tU e2).symm
 | none=>
  have e1:=Pu (Q:=Q) (rev:=rev);have e2:=Pw (Q:=Q) (rev:=rev);rw[hf]at e1 e2;simp only[Option.map_none]at e1 e2;rw[e1];refine itT rfl ?_
  (refine dr h ?_;clear h;intro w h;refine nn ?_;refine ldC h ?_;refine nn ?_;refine ldC h ?_)
  refine xd (fs:=#[]) (cs:=#[.pointer (some ⟨c,0,none⟩)]) Wu (WG ⟨c,0,none⟩) ?_;unfold tj
  (refine ldC h ?_)
  refine z0d h λb2 s2 w hl h=>⟨_,rfl,?_⟩;have h:=yM (yM (yM (yM h)))
  (refine ckC h ?_)
  refine MpS.set aB ge h 2 rfl hL (some ⟨b2,0,none⟩) rfl λsL' w hL' h=>?_;rw[xU e1]at hL';have h:St w0 (gtB b bf rA rL c room pat::[Cl c zp [I room]]::sL'::(Q.map LnE.sg).flatten::s2::E) w:=h;have ekp:Q.map LnE.kp++[(rev,some (⟨b2,0,none⟩:Addr))]=(Q++[(⟨rev,b2,[],s2⟩:LnE)]).map LnE.kp:=by simp
  rw[ekp]at hL'
  (refine nn ?_;refine ldC h ?_)
  refine MpS.get aB ge zln (λx:Option Addr=>x) (λ_=>rfl) h 2 rfl hL' ?_;have e3:zA ((Q++[(⟨rev,b2,[],s2⟩:LnE)]).map LnE.kp) rev=some (some ⟨b2,0,none⟩):=by
   rw[←ekp,←xU e1,XL,if_pos rfl]
  rw[e3];refine⟨_,rfl,hk sL' Q ⟨rev,b2,[],s2⟩ [] w ?_ hL' rfl ?_ ?_ ?_⟩
  ·intro y hy;rcases List.mem_append.1 hy with hy | hy
   ·exact hQ y hy
   ·simp at hy;subst hy;exact hl
  ·unfold zS;rw[e2];rfl
  ·unfold zS;rw[e2,xU e2];simp
  ·exact h.eq (by simp)
def Lx{F:zk}{rev:B0}{q:Int}(h:(yt F rev q).2.2=false):(yt F rev q).1=F:=by
 unfold yt at *
 split
 ·rfl
 ·rename_i hw;rw[if_neg hw]at h;split at h
  ·rename_i hp;simp[hp]
  ·cases h
def So{room:Int}{l:List (Int×Int)}{id u:Int}(h:(vU room l id u).2≠0):(vU room l id u).1=l:=by
 unfold vU at *;split
 ·rfl
 ·split
  ·rfl
  ·rename_i h1 h2;rw[if_neg h1,if_neg h2]at h;simp at h
def aE{room:Int}{l:List (Int×Int)}{id u:Int}(h:(l.length:Int)≤room):((vU room l id u).1.length:Int)≤room:=by
 unfold vU;split
 ·exact h
 ·split
  ·exact h
  ·simp only[List.length_append,List.length_cons,List.length_nil];omega
def JB{G:Zq}(ok:G.Ok)(rev:B0):((zS G.lines rev).length:Int)≤G.room:=by
 unfold zS
 cases h:zA G.lines rev with
 | none=>simp;exact ok.lo
 | some l=>exact ok.ln _ (jB h)
def Zq.Ok.line{G:Zq}(ok:G.Ok)(hl:G.lines.length<90000000)(rev:B0){l:List (Int×Int)}(h:(l.length:Int)≤G.room):({ G with lines:=Zp G.lines rev l }:Zq).Ok:=by
 refine⟨ok.few,ok.lo,ok.hi,λx hx=>?_,om ok.nd,ok.nda,?_⟩
 ·rcases yr hx with rfl | hx
  ·exact h
  ·exact ok.ln x hx
 ·have:=JA G.lines rev l;simp only;omega
def Zq.Ok.req{G:Zq}(ok:G.Ok)(hn:G.all.length<90000000)(id:Int)(x:B0×Int):({ G with all:=Zp G.all id x }:Zq).Ok:=by
 refine⟨?_,ok.lo,ok.hi,ok.ln,ok.nd,om ok.nda,ok.fl⟩;have:=JA G.all id x;simp only;omega
def Zq.Ok.reqIn{G:Zq}(ok:G.Ok){id:Int}(h:(zA G.all id).isSome=true)(x:B0×Int):({ G with all:=Zp G.all id x }:Zq).Ok:=by
 refine⟨?_,ok.lo,ok.hi,ok.ln,ok.nd,om ok.nda,ok.fl⟩
 cases hg:zA G.all id with
 | none=>rw[hg]at h;cases h
 | some v=>simp only;rw[fE hg];exact ok.few
def Dd(F:zk)(G:Zq)(id:Int)(rev:B0)(now:Int):zk×Zq×yG:=
 if iX G.all id=true then(F,G,(id,4,0,Pe,()))
 else if rev=s_ then(F,{ G with all:=Zp G.all id (s_,4) },(id,4,0,gx,()))
 else if(zS G.lines rev).length=0∧(yt F rev id).2.2=true then
  ((yt F rev id).1,{ G with all:=Zp G.all id (rev,1),lines:=Zp G.lines rev (zS G.lines rev) },(id,1,(yt F rev id).2.1,s_,()))
 else if(vU G.room (zS G.lines rev) id (now+G.pat)).2≠0 then
  (F,{ G with all:=Zp G.all id (rev,4),lines:=Zp G.lines rev (zS G.lines rev) },(id,4,0,kQ,()))
 else(F,{ G with all:=Zp G.all id (rev,2),lines:=Zp G.lines rev (vU G.room (zS G.lines rev) id (now+G.pat)).1 },(id,2,0,s_,()))
abbrev jy:Int:=30
structure jQ(F:zk):Prop where
 r:F.room≤jy
 l:(F.l.length:Int)≤max F.room 0
 q:∀x∈F.l,x.pod.reqs.length≤1000∧x.pod.conc≤1000
def jQ.l20{F:zk}(h:jQ F):F.l.length≤30:=by have:=h.r;have:=h.l;unfold jy at *;omega
def jQ.q7{F:zk}(h:jQ F):∀x∈F.l,x.pod.reqs.length<10000000:=λx hx=>by have:=(h.q x hx).1;omega
def Dj{l:List ZJ}{id:Int}{g:js→js}{y:ZJ}(h:y∈xm l id g):y∈l∨∃x∈l,x.id=id∧y = { x with pod:=g x.pod }:=by
 unfold xm at h;obtain⟨x,hx,hy⟩:=List.mem_filterMap.1 h;split at hy
 ·rename_i e;split at hy
  ·cases hy
  ·cases hy;exact .inr ⟨x,hx,e,rfl⟩
 ·cases hy;exact .inl hx
def SL(l:List ZJ)(id:Int)(g:js→js):(xm l id g).length≤l.length:=List.length_filterMap_le ..
def jQ.upd{F:zk}(h:jQ F)(id:Int)(g:js→js)(hg:∀x∈F.l,x.id=id→(g x.pod).reqs.length≤1000∧(g x.pod).conc≤1000):jQ { F with l:=xm F.l id g }:=by
 refine⟨h.r,?_,λy hy=>?_⟩
 ·have:=h.l;have:=SL F.l id g;simp only;omega
 ·rcases Dj hy with hy | ⟨x,hx,hid,rfl⟩
  ·exact h.q y hy
  ·exact hg x hx hid
def lD{p:js}{q:Int}(h:p.reqs.length≤1000∧p.conc≤1000):(yF p q).1.reqs.length≤1000∧(yF p q).1.conc≤1000:=by
 unfold yF;split
 ·exact h
 ·split
  ·exact h
  ·split
   ·exact h
   ·rename_i h3;have:=(Ol q p.reqs).length_eq;simp only[List.length_cons]at this;refine⟨?_,h.2⟩;simp only;omega
def jQ.take{F:zk}(h:jQ F)(rev:B0)(q:Int):jQ (yt F rev q).1:=by
 unfold yt;split
 ·exact h
 ·split
  ·exact h
  ·exact h.upd _ _ λx hx _=>lD (h.q x hx)
def lG{p:js}{q:Int}(h:p.reqs.length≤1000∧p.conc≤1000):(Yi p q).1.reqs.length≤1000∧(Yi p q).1.conc≤1000:=by
 unfold Yi;split
 ·have:=(List.erase_sublist (a:=q) (l:=p.reqs)).length_le;exact⟨by simp only;omega,h.2⟩
 ·exact h
def jQ.give{F:zk}(h:jQ F)(q:Int):jQ (Yd F q).1:=by
 unfold Yd;split
 ·exact h
 ·exact h.upd _ _ λx hx _=>lG (h.q x hx)
def jQ.kill{F:zk}(h:jQ F)(id:Int):jQ (Xd F id).1:=by
 unfold Xd;split
 ·exact h
 ·refine h.upd _ _ λx hx _=>?_;unfold yQ;split
  ·exact h.q x hx
  ·exact⟨by simp,(h.q x hx).2⟩
def jQ.up{F:zk}(h:jQ F)(id:Int):jQ { F with l:=xm F.l id λp=>(Xc p).1 }:=by
 refine h.upd _ _ λx hx _=>?_;unfold Xc;split<;>exact h.q x hx
def jQ.drain{F:zk}(h:jQ F)(rev:B0):jQ (Kk rev F):=by
 refine h.upd _ _ λx hx _=>?_;unfold Yq;split<;>exact h.q x hx
def jQ.shrink(rev:B0):∀(n:Nat){F:zk},jQ F→jQ (YtimahgbgejngiaaGreatDoor.shrink rev n F).1
 | 0,_,h=>h
 | n+1,F,h=>jQ.shrink rev n (h.drain rev)
def jQ.grow1{F:zk}(h:jQ F)(rev:B0){conc:Int}(hc:conc≤1000)(hl:(F.l.length:Int)+1≤max F.room 0):jQ (YtimahgbgejngiaaGreatDoor.grow1 rev conc F):=by
 refine⟨h.r,?_,λx hx=>?_⟩
 ·simp only[YtimahgbgejngiaaGreatDoor.grow1,List.length_append,List.length_cons,List.length_nil];omega
 ·rcases List.mem_append.1 hx with hx | hx
  ·exact h.q x hx
  ·simp at hx;subst hx;exact⟨by simp,hc⟩
def jQ.grow(rev:B0){conc:Int}(hc:conc≤1000):∀(n:Nat){F:zk},jQ F→(F.l.length:Int)+n≤max F.room 0→jQ (YtimahgbgejngiaaGreatDoor.grow rev conc n F)
 | 0,_,h,_=>h
 | n+1,F,h,hl=>by
  have h1:=jQ.grow rev hc n h (by omega);refine h1.grow1 rev hc ?_;rw[fI,FX];omega
def jQ.scale{F:zk}(h:jQ F)(rev:B0){conc:Int}(hc:conc≤1000)(want:Int):jQ (xn F rev conc want).1:=by
 refine jQ.shrink rev _ (jQ.grow rev hc _ h ?_);have:=h.l;unfold uK;omega
def NU{f:yG}{b:Nat}:Rw yG.cells zz 4 ⟨some ⟨b,0,none⟩,1,1⟩ [f] [Cl b zz (yG.cells f)]:=Rw.lit b [f] oU (by simp[fl]) rfl (by simp[maxLen])
def tY{A B:List LnE}{x:LnE}{s':Seg}{l':List (Int×Int)}{ls:List (B0×List (Int×Int))}{rev:B0}{l:List (Int×Int)}(e:(A++x::B).map LnE.ka=Zp ls rev l)(hx:x.k=rev)(hnd:((A++x::B).map LnE.ka).map (·.1) |>.Nodup) :
  (A++(⟨x.k,x.b,l',s'⟩:LnE)::B).map LnE.ka=Zp ls rev l':=by
 have h1:zA ((A++x::B).map LnE.ka) rev=some x.l:=fF hnd (by rw[←hx];exact List.mem_map_of_mem (f:=LnE.ka) (by simp));have h2:Zp ((A++x::B).map LnE.ka) rev l'=(A++(⟨x.k,x.b,l',s'⟩:LnE)::B).map LnE.ka:=by
  clear e h1
  induction A with
  | nil=>simp[Zp,hx]
  | cons y A ih=>
   have hne:y.k≠rev:=by
    intro e;have:=hnd;simp only[List.cons_append,List.map_cons,List.nodup_cons]at this;refine this.1 ?_;rw[e,←hx];simp
   simp only[List.cons_append,List.map_cons,Zp];rw[if_neg hne]
   congr 1
   refine ih ?_;have:=hnd;simp only[List.cons_append,List.map_cons,List.nodup_cons]at this;exact this.2
 rw[←h2,e,Nz]
def z0o{sg sf:Seg}(h:St w0 (sg::sf::E) w){b bf:Nat}{G:Zq}{F:zk}(hg:GtS b bf G sg)(hf:FlS bf F sf)(hfew:jQ F)(hn:G.all.length<90000000)(hl:G.lines.length<90000000){id:Int}{rev:B0}{now:Int}(hnow: -1000000000000<now+G.pat∧now+G.pat<1000000000000){k:Sl→PT}
  (hk:∀v sv sg' sf' w',Rw yG.cells zz 4 v [(Dd F G id rev now).2.2] sv→GtS b bf (Dd F G id rev now).2.1 sg'→FlS bf (Dd F G id rev now).1 sf'→St w0 (sv::sg'::sf'::E) w'→k v w') :
  L.call Pr uk [pO b,I id,.string rev,I now] (.one (.one .slice)) k w:=by
 obtain⟨ok,rA,rL,c,sA,sL,Q,hr,rfl⟩:=hg;refine za (pC _ _ _ _) ?_;unfold KE;unfold Dd at hk;have h:=h.split5;have h:=yL (Zm h);refine il hr.all h λw h=>?_;refine it (λhs=>?_) (λhs=>?_)<;>(try simp only[zB]at hs)
 ·rw[if_pos hs]at hk;refine Dx h λw h=>?_;refine nw h ?_;clear h;intro b3 w h
  (refine stC h ?_;clear h;intro w h;dsimp only[zE,zd]at h;refine stC h ?_;clear h;intro w h;dsimp only[zE,zd]at h;refine laC h ?_)
  refine nw h ?_;clear h;intro b5 w h;have h:=yw h;have h:=jS (jS (JR (jS (jS (jS h)))));obtain⟨sg,hg,h⟩:=QJ ok hr h;have h:=Zm (yL (yL h));exact⟨_,rfl,hk _ _ sg sf w NU hg hf h⟩
 ·rw[if_neg (by simp[hs])]at hk;rw[jN];refine it (λhe=>?_) (λhe=>?_)<;>(try simp only[zB]at he)
  ·rw[if_pos he]at hk;refine Dx h λw h=>?_;refine Tm (f:=(0,4,0,gx,())) hr.all h λsA' w hA' h=>?_;refine nw h ?_;clear h;intro b8 w h;have h:=jS (jS (JR (jS (jS (jS h)))));obtain⟨sg,hg,h⟩:=QJ (ok.req hn id (s_,4)) (Q:=Q) ⟨hA',hr.lns,hr.each,hr.abs⟩ h;have h:=Zm (yL (yL h));exact⟨_,rfl,hk _ _ sg sf w NU hg hf h⟩
  ·rw[if_neg he]at hk;have h:=Ys (yM (yM (yM h)))
   (refine nn ?_)
   refine Ic (rev:=rev) hr.lns hr.each h rfl λsL' A x B w hQ' hL' hxk hxl hab h=>?_;rw[←hr.abs]at hxl hab;have hlen:=JB ok rev;have hnd:(((A++x::B).map LnE.ka).map (·.1)).Nodup:=by rw[hab];exact om ok.nd
   have hx:LnS x.b G.room x.l x.sg:=hQ' x (by simp);have ok1:=ok.line hl rev hlen;have hhi:=ok.hi;have hll:x.l.length<1000000000:=by rw[hxl];omega
   have h:=Ys (Zm (Zm (Zm h)));have h:=h.pick
   have close:∀{G':Zq}{sA' sx':Seg}{l':List (Int×Int)}{w},G'.Ok→G'.room=G.room→G'.pat=G.pat→MpS KI mo rA G'.all sA'→LnS x.b G.room l' sx'→G'.lines=Zp G.lines rev l'→
     ∀{E},St w0 (gtB b bf rA rL c G.room G.pat::sA'::sx'::((A++B).map LnE.sg).flatten::[Cl c zp [I G.room]]::sL'::E) w→∃s,GtS b bf G' s∧St w0 (s::E) w:=by
    intro G' sA' sx' l' w ok' e1 e2 hA' hl' e3 E h;have h:=JR (JR (Ys (JR (Zm (JR h)))));have h:St w0 (LnE.sg ⟨x.k,x.b,l',sx'⟩::((A++B).map LnE.sg).flatten::gtB b bf rA rL c G.room G.pat::[Cl c zp [I G.room]]::sA'::sL'::E) w:=h;have h:=h.place;have h:=yM (yM (yM (yM h)));rw[←e1,←e2]at h;refine QJ ok' ⟨hA',?_,?_,?_⟩ h
    ·simpa using hL'
    ·intro y hy;rw[e1];rcases List.mem_append.1 hy with hy | hy
     ·exact hQ' y (by simp[hy])
     ·rcases List.mem_cons.1 hy with rfl | hy
      ·exact hl'
      ·exact hQ' y (by simp[hy])
    ·rw[e3];exact(tY hab hxk hnd).symm
   have push:∀{w}{k11:Unit→PT},¬((zS G.lines rev).length=0∧(yt F rev id).2.2=true)→∀{sA sf},MpS KI mo rA G.all sA→FlS bf F sf→
     St w0 (gtB b bf rA rL c G.room G.pat::sA::x.sg::((A++B).map LnE.sg).flatten::[Cl c zp [I G.room]]::sL'::sf::E) w→
     (L.nonnil (some ⟨b,0,none⟩) λa18=>L.load (.one (.int .i64)) (a18.add 5) λ(x19:Int)=>
      L.call Pr Qb [.pointer (some ⟨x.b,0,none⟩),.int .i64 id,.int .i64 (Wi (now+x19))] (.one (.one (.int .i64))) λ(x20:Int)=>
      L.ite (x20 != 0) (
       L.call Pr qx [.string kQ] (.one (.agg [.int .i64,.int .i64,.int .i64,.str])) λ(x21:Int×Int×Int×B0×Unit)=>
       L.call Pr yf [pO b,.int .i64 id,.string rev,.agg #[.int .i64 x21.1,.int .i64 x21.2.1,.int .i64 x21.2.2.1,.string x21.2.2.2.1]] (.one (.agg [.int .i64,.int .i64,.int .i64,.str])) λ(x22:Int×Int×Int×B0×Unit)=>
       L.new [.int .i64 x22.1,.int .i64 x22.2.1,.int .i64 x22.2.2.1,.string x22.2.2.2.1] zz λb23=>
       λw'=>∃y,Value.slice (some ⟨b23,0,none⟩) 1 1=RT.val (.one (.one .slice)) y∧k y w')<|
      L.call Pr yf [pO b,.int .i64 id,.string rev,.agg #[.int .i64 0,.int .i64 2,.int .i64 0,.string s_]] (.one (.agg [.int .i64,.int .i64,.int .i64,.str])) λ(x24:Int×Int×Int×B0×Unit)=>
      L.new [.int .i64 x24.1,.int .i64 x24.2.1,.int .i64 x24.2.2.1,.string x24.2.2.2.1] zz λb25=>
      λw'=>∃y,Value.slice (some ⟨b25,0,none⟩) 1 1=RT.val (.one (.one .slice)) y∧k y w') w:=by
    intro w k11 hno sA sf hA hf h;rw[if_neg hno]at hk
    (refine nn ?_;refine ldC h ?_)
    rw[wr (by omega) (by omega)];refine z0x h 2 rfl hx hll λsx' w hx' h=>?_;rw[hxl]at hx' ⊢;have h:St w0 (gtB b bf rA rL c G.room G.pat::sA::sx'::((A++B).map LnE.sg).flatten::[Cl c zp [I G.room]]::sL'::sf::E) w:=h;refine it (λhp=>?_) (λhp=>?_)<;>(try simp only[zB]at hp)
    ·rw[if_pos hp]at hk;rw[So hp]at hx';refine Dx h λw h=>?_;refine Tm (f:=(0,4,0,kQ,())) hA h λsA' w hA' h=>?_;refine nw h ?_;clear h;intro b23 w h;have h:=xY (xY (xY (xY (xY (xY (xY h))))));obtain⟨sg,hg,h⟩:=close (G':={ G with all:=Zp G.all id (rev,4),lines:=Zp G.lines rev (zS G.lines rev) }) (ok1.req hn id (rev,4)) rfl rfl hA' hx' rfl h;have h:=Zm (yL (yL h));exact⟨_,rfl,hk _ _ sg sf w NU hg hf h⟩
    ·rw[if_neg (by simpa using hp)]at hk;refine Tm (f:=(0,2,0,s_,())) hA h λsA' w hA' h=>?_;refine nw h ?_;clear h;intro b23 w h;have h:=xY (xY (xY (xY (xY (xY (xY h))))));obtain⟨sg,hg,h⟩:=close (G':={ G with all:=Zp G.all id (rev,2),lines:=Zp G.lines rev (vU G.room (zS G.lines rev) id (now+G.pat)).1 }) ((ok.line hl rev (aE hlen)).req hn id (rev,2)) rfl rfl hA' hx' rfl h;have h:=Zm (yL (yL h));exact⟨_,rfl,hk _ _ sg sf w NU hg hf h⟩
   refine jd ?_;refine RW h 0 rfl hx ?_;rw[hxl];have h:St w0 (x.sg::((A++B).map LnE.sg).flatten::gtB b bf rA rL c G.room G.pat::[Cl c zp [I G.room]]::sL'::sA::sf::E) w:=h;refine it (λh0=>?_) (λh0=>?_)<;>(try simp only[zB]at h0)
   ·have h:=yM (jS (jS h));refine BH hr.all hf hfew.l20 hfew.q7 h λsA' sf' w hA' hf' h=>?_
    cases ht:(yt F rev id).2.2 with
    | true=>
     have e:On F G.all id rev=((yt F rev id).1,Zp G.all id (rev,1),(id,1,(yt F rev id).2.1,s_,()),true):=by unfold On;rw[if_pos ht]
     rw[e]at hA' hf' ⊢;rw[if_pos ⟨by omega,ht⟩]at hk;refine nw h ?_;clear h;intro b15 w h
     (refine stC h ?_;clear h;intro w h;dsimp only[zE,zd]at h)
     refine itT rfl ?_
     (refine laC h ?_)
     refine nw h ?_;clear h;intro b17 w h;have h:=yw h;have h:=xY (xY (xY (xY (xY (xY (Ys h))))));obtain⟨sg,hg,h⟩:=close (G':={ G with all:=Zp G.all id (rev,1),lines:=Zp G.lines rev (zS G.lines rev) }) (ok1.req hn id (rev,1)) rfl rfl hA' (hxl▸hx) rfl h;have h:=Zm (yL (yL h));exact⟨_,rfl,hk _ _ sg sf' w NU hg hf' h⟩
    | false=>
     have e:On F G.all id rev=((yt F rev id).1,G.all,(0,0,0,s_,()),false):=by unfold On;rw[if_neg (by simp[ht])]
     rw[e]at hA' hf' ⊢;dsimp only at hf';rw[Lx ht]at hf';refine nw h ?_;clear h;intro b15 w h
     (refine stC h ?_;clear h;intro w h;dsimp only[zE,zd]at h)
     refine itF rfl ?_;have h:=zj h;have h:=jS (jS (jS (jS (jS (jS (Zm h))))));exact push (k11:=λ_ _=>True) (by simp[ht]) hA' hf' h
   ·have h:=jS (jS (yM (yM (JR (JR (jS h))))));exact push (k11:=λ_ _=>True) (λhh=>h0 (by omega)) hr.all hf h
abbrev uA:=List (Int×(B0×Int))
def jD(rev:B0):List (Int×Int)→zk→uA→List yG→zk×uA×List (Int×Int)×List yG
 | [],F,all,out=>(F,all,[],out)
 | x::l,F,all,out=>if(yt F rev x.1).2.2=true then jD rev l (yt F rev x.1).1 (Zp all x.1 (rev,1)) (out++[(x.1,1,(yt F rev x.1).2.1,s_,())])else(F,all,x::l,out)
def Oq{rev:B0}:∀{l:List (Int×Int)}{F:zk}{all:uA}{out:List yG},(jD rev l F all out).2.1.length≤all.length+l.length∧(jD rev l F all out).2.2.1.length≤l.length∧(jD rev l F all out).2.2.2.length≤out.length+l.length
 | [],_,_,_=>by simp[jD]
 | x::l,F,all,out=>by
  unfold jD;split
  ·have:=Oq (rev:=rev) (l:=l) (F:=(yt F rev x.1).1) (all:=Zp all x.1 (rev,1)) (out:=out++[(x.1,1,(yt F rev x.1).2.1,s_,())]);have h2:=JA all x.1 (rev,(1:Int));simp only[List.length_append,List.length_cons,List.length_nil]at this ⊢;omega
  ·simp
def Lr{rev:B0}:∀{l:List (Int×Int)}{F:zk}{all:uA}{out:List yG},(all.map (·.1)).Nodup→((jD rev l F all out).2.1.map (·.1)).Nodup
 | [],_,_,_,h=>h
 | x::l,F,all,out,h=>by
  unfold jD;split
  ·exact Lr (om h)
  ·exact h
def JD(F:zk)(G:Zq)(rev:B0):zk×Zq×List yG:=
 ((jD rev (zS G.lines rev) F G.all []).1,{ G with all:=(jD rev (zS G.lines rev) F G.all []).2.1,lines:=Zp G.lines rev (jD rev (zS G.lines rev) F G.all []).2.2.1 },(jD rev (zS G.lines rev) F G.all []).2.2.2)
def Dy(h:St w0 E w){v:Sl}{l:List yG}(r:Rd w yG.cells v l)(hn:l.length<1000000000)(h64:v.a=none→l = []){k:Sl→PT}
  (hk:∀v' s' w',Rw yG.cells zz 4 v' l s'→St w0 (s'::E) w'→k v' w'):L.call Pr ZR [SlV v] (.one (.one .slice)) k w:=by
 refine za (ux v) ?_;unfold JI;exact qD (K:=λv w'=>∃x,v=RT.val (.one (.one .slice)) x∧k x w') oU elF h r (by omega) (by omega) h64 λv' s' w' h1 h2 h3=>⟨v',rfl,hk v' s' w' h1 h3⟩
def SG{F:zk}{G:Zq}(ok:G.Ok)(hn:G.all.length<90000000)(hl:G.lines.length<90000000)(rev:B0):(JD F G rev).2.1.Ok:=by
 have hlen:=JB ok rev;have h1:=Oq (rev:=rev) (l:=zS G.lines rev) (F:=F) (all:=G.all) (out:=[]);have hhi:=ok.hi;unfold JD;refine⟨by simp only;omega,ok.lo,ok.hi,λx hx=>?_,om ok.nd,Lr ok.nda,?_⟩
 ·rcases yr hx with rfl | hx
  ·simp only;omega
  ·exact ok.ln x hx
 ·have:=JA G.lines rev (jD rev (zS G.lines rev) F G.all []).2.2.1;simp only;omega
def Wl{sg sf:Seg}(h:St w0 (sg::sf::E) w){b bf:Nat}{G:Zq}{F:zk}(hg:GtS b bf G sg)(hf:FlS bf F sf)(hfew:jQ F)(hn:G.all.length<90000000)(hl:G.lines.length<90000000){rev:B0}{k:Sl→PT}
  (hk:∀v sv sg' sf' w',Rw yG.cells zz 4 v (JD F G rev).2.2 sv→GtS b bf (JD F G rev).2.1 sg'→FlS bf (JD F G rev).1 sf'→St w0 (sv::sg'::sf'::E) w'→k v w') :
  L.call Pr xR [pO b,.string rev] (.one (.one .slice)) k w:=by
 have ok':=SG (F:=F) hg.1 hn hl rev;obtain⟨ok,rA,rL,c,sA,sL,Q,hr,rfl⟩:=hg;refine za (TE _ _) ?_;unfold OF;have h:=h.split5;have h:=Ys (Ys (yM (yM h)))
 (refine nn ?_)
 refine Ic (rev:=rev) hr.lns hr.each h rfl λsL' A x B w hQ' hL' hxk hxl hab h=>?_;rw[←hr.abs]at hxl hab;have hlen:=JB ok rev;have hnd:(((A++x::B).map LnE.ka).map (·.1)).Nodup:=by rw[hab];exact om ok.nd
 have hx:LnS x.b G.room x.l x.sg:=hQ' x (by simp);have hhi:=ok.hi;have hfl:=Oq (rev:=rev) (l:=zS G.lines rev) (F:=F) (all:=G.all) (out:=[]);have hll:x.l.length<1000000000:=by rw[hxl];omega
 have h:=Ys (Zm (Zm (Zm h)));have h:=h.pick
 refine ZC (λz w=>∃v sv sA' sx' sf',z=(v,())∧Rw yG.cells zz 4 v (JD F G rev).2.2 sv∧MpS KI mo rA (JD F G rev).2.1.all sA'∧LnS x.b G.room (jD rev (zS G.lines rev) F G.all []).2.2.1 sx'∧FlS bf (JD F G rev).1 sf'∧
   St w0 (gtB b bf rA rL c G.room G.pat::sA'::sf'::sx'::sv::((A++B).map LnE.sg).flatten::[Cl c zp [I G.room]]::sL'::E) w) (λk3 hk3=>?_) (λz w ⟨v,sv,sA',sx',sf',hz,hrv,hA',hx',hf',h⟩=>?_)
 ·refine Ih h 0 rfl hx hll λv5 s5 w hr5 h=>?_;rw[hxl]at hr5 hx;have hl5:=Rw.len YI hr5;rw[List.length_map]at hl5;have h:St w0 (s5::x.sg::((A++B).map LnE.sg).flatten::gtB b bf rA rL c G.room G.pat::[Cl c zp [I G.room]]::sL'::sA::sf::E) w:=h;have h:=JR (xY (xY (yL h)))
  refine zX (λq y w=>∃(j:Nat)(F':zk)(all':uA)(out:List yG)(v:Sl)(sv sA' sx' sf':Seg),y=(v,(j:Int),())∧q+j=(zS G.lines rev).length∧jQ F'∧out.length=j∧
    jD rev ((zS G.lines rev).drop j) F' all' out=jD rev (zS G.lines rev) F G.all []∧Rw yG.cells zz 4 v out sv∧MpS KI mo rA all' sA'∧LnS x.b G.room ((zS G.lines rev).drop j) sx'∧FlS bf F' sf'∧
    St w0 (sv::gtB b bf rA rL c G.room G.pat::sA'::sf'::sx'::s5::((A++B).map LnE.sg).flatten::[Cl c zp [I G.room]]::sL'::E) w) (zS G.lines rev).length
    ⟨0,F,G.all,[],_,[],sA,x.sg,sf,rfl,rfl,hfew,rfl,rfl,Rw.nil,hr.all,hx,hf,h.nil⟩ ?_
  clear h;rintro q y w ⟨j,F',all',out,v,sv,sA',sx',sf',rfl,hq,hfew',hol,hfa,hrv,hA',hx',hf',h⟩ again hag
  (try dsimp only)
  have done:∀{l':List (Int×Int)}{F2:zk}{all2:uA}{sA2 sx2 sf2:Seg}{w},jD rev (zS G.lines rev) F G.all []=(F2,all2,l',out)→MpS KI mo rA all2 sA2→LnS x.b G.room l' sx2→FlS bf F2 sf2→
    St w0 (sv::gtB b bf rA rL c G.room G.pat::sA2::sf2::sx2::s5::((A++B).map LnE.sg).flatten::[Cl c zp [I G.room]]::sL'::E) w→k3 (⟨v.a,v.len,v.cap⟩,()) w:=by
   intro l' F2 all2 sA2 sx2 sf2 w e h1 h2 h3 h;have h:=PL h;have h:=yM (yM (yM (yM h)));refine hk3 _ w ⟨v,sv,sA2,sx2,sf2,rfl,?_,?_,?_,?_,h⟩
   ·unfold JD;rw[e];exact hrv
   ·unfold JD;rw[e];exact h1
   ·rw[e];exact h2
   ·unfold JD;rw[e];exact h3
  refine it (λhb=>?_) (λhb=>?_)<;>(try simp only[zB]at hb)
  ·have hj:j<(zS G.lines rev).length:=by omega
   have hxj:(zS G.lines rev)[j]? = some (zS G.lines rev)[j]:=List.getElem?_eq_getElem hj;have hdr:(zS G.lines rev).drop j=(zS G.lines rev)[j]::(zS G.lines rev).drop (j+1):=List.drop_eq_getElem_cons hj;generalize (zS G.lines rev)[j]=y at hxj hdr;refine rd1 (Rw.rd YI h 5 rfl hr5) YI (lf:=.int .i64) (λx=>x) (λx=>⟨_,rfl,rfl⟩) (by omega) hb λy' hy'=>?_;simp only[Int.toNat_natCast,List.getElem?_map,hxj,Option.map_some,Option.some.injEq]at hy';subst hy';have h:=Ys (Ys (Ys h));refine BH hA' hf' hfew'.l20 hfew'.q7 h λsA2 sf2 w hA2 hf2 h=>?_
   cases ht:(yt F' rev y.1).2.2 with
   | false=>
    have e:On F' all' y.1 rev=((yt F' rev y.1).1,all',(0,0,0,s_,()),false):=by unfold On;rw[if_neg (by simp[ht])]
    rw[e]at hA2 hf2 ⊢;dsimp only at hf2;rw[Lx ht]at hf2;refine nw h ?_;clear h;intro b11 w h
    (refine stC h ?_;clear h;intro w h;dsimp only[zE,zd]at h)
    refine itT rfl ?_;have h:=zj h;have h:=Ys (Zm (Zm (Zm h)));refine done ?_ hA2 hx' hf2 h;rw[←hfa,hdr,jD,if_neg (by simp[ht])]
   | true=>
    have e:On F' all' y.1 rev=((yt F' rev y.1).1,Zp all' y.1 (rev,1),(y.1,1,(yt F' rev y.1).2.1,s_,()),true):=by unfold On;rw[if_pos ht]
    rw[e]at hA2 hf2 ⊢;refine nw h ?_;clear h;intro b11 w h
    (refine stC h ?_;clear h;intro w h;dsimp only[zE,zd]at h)
    refine itF rfl ?_;have hx2:=hx';refine z2D h 5 rfl hx2 (by rw[List.length_drop];omega) λsx3 w hx3 h=>?_;rw[hdr]at hx3;have h:St w0 ([Cl b11 zz [I y.1,I 1,I (yt F' rev y.1).2.1,.string s_]]::gtB b bf rA rL c G.room G.pat::sA2::sf2::sv::sx3::s5::((A++B).map LnE.sg).flatten::[Cl c zp [I G.room]]::sL'::E) w:=h
    (refine laC h ?_)
    refine nw h ?_;clear h;intro b14 w h;refine Rw.app (l:=out) oU elF h 4 rfl hrv (y.1,1,(yt F' rev y.1).2.1,s_,()) rfl (by omega) (by omega) λv' sv' w hrv' h=>?_;have h:St w0 ([Cl b11 zz [I y.1,I 1,I (yt F' rev y.1).2.1,.string s_]]::gtB b bf rA rL c G.room G.pat::sA2::sf2::sv'::sx3::s5::((A++B).map LnE.sg).flatten::[Cl c zp [I G.room]]::sL'::E) w:=h;have h:=zj h;have h:=Ys (Zm (Zm (Zm h)));rw[wr (by omega) (by omega)];refine hag (q-1) _ w (by omega) ⟨j+1,(yt F' rev y.1).1,Zp all' y.1 (rev,1),out++[(y.1,1,(yt F' rev y.1).2.1,s_,())],v',sv',sA2,sx3,sf2,by simp,by omega,hfew'.take rev y.1,by simp[hol],?_,hrv',hA2,hx3,hf2,h⟩;rw[←hfa,hdr,jD,if_pos ht]
  ·have e:(zS G.lines rev).drop j = []:=List.drop_of_length_le (by omega);rw[e]at hfa hx';exact done (l':=[]) (by rw[←hfa];rfl) hA' hx' hf' h
 ·subst hz;have hlo:(JD F G rev).2.2.length<1000000000:=by show(jD rev (zS G.lines rev) F G.all []).2.2.2.length<1000000000;simp only[List.length_nil]at hfl;omega
  refine Dy h (Rw.rd oU h 4 rfl hrv) hlo (λh0=>Rw.nil_of oU hrv h0) λv' sv' w hrv' h=>⟨v',rfl,?_⟩;have h:=PL h;have h:=xY (xY (JR (xY (yM (xY (yL (Ys h)))))));have h:St w0 (LnE.sg ⟨x.k,x.b,(jD rev (zS G.lines rev) F G.all []).2.2.1,sx'⟩::((A++B).map LnE.sg).flatten::gtB b bf rA rL c G.room G.pat::[Cl c zp [I G.room]]::sA'::sL'::sv'::sf'::E) w:=h;have h:=h.place;have h:=jS (jS (jS (jS (Zm (jS (jS h))))));have heach:∀y∈A++(⟨x.k,x.b,(jD rev (zS G.lines rev) F G.all []).2.2.1,sx'⟩:LnE)::B,LnS y.b G.room y.l y.sg:=by
   intro y hy;rcases List.mem_append.1 hy with hy | hy
   ·exact hQ' y (by simp[hy])
   ·rcases List.mem_cons.1 hy with rfl | hy
    ·exact hx'
    ·exact hQ' y (by simp[hy])
  obtain⟨sg,hg,h⟩:=QJ (G:=(JD F G rev).2.1) (c:=c) ok' ⟨hA',by simpa using hL',heach,(tY hab hxk hnd).symm⟩ h;have h:=Zm (yL (Zm h));exact hk v' sv' sg sf' w hrv' hg hf' h
def CK{b bf:Nat}{G:Zq}{sg:Seg}(hg:GtS b bf G sg)(h:St w0 (sg::E) w):∃rA rL c sA sL,∃Q:List LnE,GtR G rA rL sA sL Q∧St w0 (gtB b bf rA rL c G.room G.pat::[Cl c zp [I G.room]]::sA::sL::(Q.map LnE.sg).flatten::E) w:=by
 obtain⟨ok,rA,rL,c,sA,sL,Q,hr,rfl⟩:=hg;exact⟨rA,rL,c,sA,sL,Q,hr,h.split5⟩
def BG{sg:Seg}(h:St w0 (sg::E) w){b bf:Nat}{G:Zq}(hg:GtS b bf G sg){id:Int}{rev:B0}{f:yG}(ok':({ G with all:=Zp G.all id (rev,f.2.1) }:Zq).Ok){k:cC.T→PT}
  (hk:∀sg' w',GtS b bf { G with all:=Zp G.all id (rev,f.2.1) } sg'→St w0 (sg'::E) w'→k (IS f id) w') :
  L.call Pr yf [pO b,I id,.string rev,.agg (yG.cells f).toArray] (.one cC) k w:=by
 obtain⟨rA,rL,c,sA,sL,Q,hr,h⟩:=CK hg h;have h:=yL (Zm h);refine Tm (f:=f) hr.all h λsA' w hA' h=>?_;have h:=Zm (Zm (yL h));obtain⟨sg',hg',h⟩:=QJ ok' (Q:=Q) ⟨hA',hr.lns,hr.each,hr.abs⟩ h;exact hk sg' w hg' h
def qb(F:zk)(G:Zq)(id:Int):zk×Zq×List yG×Int:=
 if(Yd F id).2.2≠0 then((Yd F id).1,G,[],(Yd F id).2.2)
 else((JD (Yd F id).1 { G with all:=Zp G.all id ((Yd F id).2.1,3) } (Yd F id).2.1).1,(JD (Yd F id).1 { G with all:=Zp G.all id ((Yd F id).2.1,3) } (Yd F id).2.1).2.1,
  (id,3,0,s_,())::(JD (Yd F id).1 { G with all:=Zp G.all id ((Yd F id).2.1,3) } (Yd F id).2.1).2.2,0)
def mb{F:zk}{G:Zq}(ok:G.Ok)(rev:B0):((JD F G rev).2.2.length:Int)≤G.room∧((JD F G rev).2.1.all.length:Int)≤G.all.length+G.room∧(JD F G rev).2.1.lines.length≤G.lines.length+1:=by
 have hlen:=JB ok rev;have h1:=Oq (rev:=rev) (l:=zS G.lines rev) (F:=F) (all:=G.all) (out:=[]);simp only[List.length_nil]at h1;have h2:=JA G.lines rev (jD rev (zS G.lines rev) F G.all []).2.2.1;refine⟨?_,?_,h2⟩
 ·show((jD rev (zS G.lines rev) F G.all []).2.2.2.length:Int)≤_;omega
 ·show((jD rev (zS G.lines rev) F G.all []).2.1.length:Int)≤_;omega
def ir{sg sf:Seg}(h:St w0 (sg::sf::E) w){b bf:Nat}{G:Zq}{F:zk}(hg:GtS b bf G sg)(hf:FlS bf F sf)(hfew:jQ F)(hn:G.all.length<80000000)(hl:G.lines.length<90000000){id:Int}{k:Sl×Int×Unit→PT}
  (hk:∀v sv sg' sf' w',Rw yG.cells zz 4 v (qb F G id).2.2.1 sv→GtS b bf (qb F G id).2.1 sg'→FlS bf (qb F G id).1 sf'→St w0 (sv::sg'::sf'::E) w'→k (v,(qb F G id).2.2.2,()) w') :
  L.call Pr vi [pO b,I id] (.tup [.one .slice,.one (.int .i64)]) k w:=by
 have ok:=hg.1;have hhi:=ok.hi;refine za (TF _ _) ?_;unfold OG;unfold qb at hk;obtain⟨rA,rL,c,sA,sL,Q,hr,h⟩:=CK hg h
 (refine nn ?_;refine ldC h ?_)
 refine iy h 5 rfl hf λsf' w hf' h=>?_;obtain⟨sg,hg,h⟩:=QJ (E:=sf'::E) ok hr h;refine it (λhe=>?_) (λhe=>?_)<;>(try simp only[zB]at he)
 ·rw[if_pos he]at hk;exact⟨(⟨none,0,0⟩,(Yd F id).2.2,()),rfl,hk _ [] sg sf' w Rw.nil hg hf' h.nil⟩
 ·rw[if_neg (by simpa using he)]at hk;have hf1:=hfew.give id;generalize (Yd F id).1=F1 at *
  generalize (Yd F id).2.1=rev at *
  have ok1:=ok.req (by omega) id (rev,3);refine BG (f:=(0,3,0,s_,())) h hg ok1 λsg w hg h=>?_;refine nw h ?_;clear h;intro b5 w h
  (refine stC h ?_;clear h;intro w h;dsimp only[zE,zd]at h)
  have hm:=JA G.all id (rev,(3:Int));have hfl:=mb (F:=F1) ok1 rev;dsimp only at hfl;refine ZC (λz w=>∃v sv sg' sf',z=(v,0,())∧Rw yG.cells zz 4 v ((id,3,0,s_,())::(JD F1 { G with all:=Zp G.all id (rev,3) } rev).2.2) sv∧GtS b bf (JD F1 { G with all:=Zp G.all id (rev,3) } rev).2.1 sg'∧FlS bf (JD F1 { G with all:=Zp G.all id (rev,3) } rev).1 sf'∧St w0 (sv::sg'::sf'::E) w) (λk6 hk6=>?_) (λz w ⟨v,sv,sg',sf',hz,hv,hg',hf',h⟩=>?_)
  ·have app:∀{b9:Nat}{v10:Sl}{sv sg' sf':Seg}{w},Rw yG.cells zz 4 v10 (JD F1 { G with all:=Zp G.all id (rev,3) } rev).2.2 sv→GtS b bf (JD F1 { G with all:=Zp G.all id (rev,3) } rev).2.1 sg'→FlS bf (JD F1 { G with all:=Zp G.all id (rev,3) } rev).1 sf'→
     St w0 ([Cl b9 zz [I id,I 3,I 0,.string s_]]::sv::sg'::sf'::E) w→
     (L.sem Pr (.one (.one .slice)) (Builtin.append_ #[zC,zC] zC #[.slice (some ⟨b9,0,none⟩) 1 1,.slice v10.a v10.len v10.cap]) λ(s11:Sl)=>k6 (⟨s11.a,s11.len,s11.cap⟩,0,())) w:=by
    intro b9 v10 sv sg' sf' w hv hg' hf' h;have hr1:Rw yG.cells zz 4 ⟨some ⟨b9,0,none⟩,1,1⟩ [((id,3,0,s_,()):yG)] [Cl b9 zz [I id,I 3,I 0,.string s_]]:=NU;refine Rw.appRd (v:=⟨some ⟨b9,0,none⟩,1,1⟩) (l:=[((id,3,0,s_,()):yG)]) oU elF h 0 rfl hr1 (Rw.rd oU h 1 rfl hv) (by simp only[List.length_cons,List.length_nil];omega) (by simp only[List.length_cons,List.length_nil];omega) λv' s' w hv' _ _ h=>?_;have h:St w0 (s'::sv::sg'::sf'::E) w:=h;have h:=yw h;exact hk6 _ w ⟨v',s',sg',sf',rfl,hv',hg',hf',h⟩
   (refine dr h ?_;clear h;intro w h;refine laC h ?_)
   refine VD ?_ ?_
   ·refine nw h ?_;clear h;intro b9 w h;have h:=Ys (Ys (yL (yL h)));refine Wl h hg hf' hf1 (by simp only;omega) hl λv10 sv sg' sf' w hv hg' hf' h=>?_
    (dsimp only[zd,List.cons_append,List.nil_append]at h;refine ckC h ?_)
    have h:=uU h;have h:=Ys h;exact app hv hg' hf' h
   ·have h:=Zm (Zm h);refine Wl h hg hf' hf1 (by simp only;omega) hl λv10 sv sg' sf' w hv hg' hf' h=>?_
    (refine ckC h ?_)
    refine nw h ?_;clear h;intro b9 w h;have h:=uU h;exact app hv hg' hf' h
  ·subst hz;exact⟨(v,0,()),rfl,hk v sv sg' sf' w hv hg' hf' h⟩
def Vw(all:uA)(id:Int):B0×Int:=(zA all id).getD (s_,0)
def XC:List Int→uA→List yG→uA×List yG
 | [],all,out=>(all,out)
 | id::l,all,out=>if(Vw all id).2=1 then XC l (Zp all id ((Vw all id).1,4)) (out++[(id,4,0,UX,())])else XC l all out
def VZ(a b:B0×Int):Bool:=(a.1 == b.1)&&((a.2 == b.2)&&true)
def SN(a b:B0×Int)(w:World):(Op.equalIn 10000 Zu (.agg #[.string a.1,I a.2]) (.agg #[.string b.1,I b.2])).run Pr w = .ok (VZ a b) w:=by
 have hS:Pr.underlying Zu=some (.struct (Pr.fieldsOf Zu)):=by kernel_rfl
 have hp:Pr.stoodInHeld Zu=false:=by kernel_rfl
 obtain⟨a1,a2⟩:=a;obtain⟨b1,b2⟩:=b;rw[show(10000:Nat)=9999+1 from rfl,run_equalIn_agg w 9999 Zu _ _ hS hp];have u3:=Tryz.underlying3;have i3:=Tryz.isAgg3;have z3:=Tryz.sizeOf3;have u9:=Tryz.underlying9;have i9:=Tryz.isAgg9;have z9:=Tryz.sizeOf9;simp only[Program.fieldsOf,Tryz.underlying220]
 go_simp
 have e:(ByteArray.toList a1=ByteArray.toList b1)↔(@BEq.beq B0 _ a1 b1)=true:=by rw[beq_toListBytes];simp
 unfold VZ;by_cases h1:(@BEq.beq B0 _ a1 b1)=true
 ·rw[if_pos (e.2 h1)];simp only[show(a1 == b1)=true from h1,Bool.true_and];by_cases h2: @Eq Int a2 b2
  ·cases h2;simp
  ·simp[h2]
 ·rw[if_neg (λh=>h1 (e.1 h))];have:(a1 == b1)=false:=by simpa using h1
  simp[this]
def od(a b:B0×Int):VZ a b=true↔a=b:=by
 obtain⟨a1,a2⟩:=a;obtain⟨b1,b2⟩:=b;have e:(@BEq.beq B0 _ a1 b1)=true↔a1=b1:=Tk;unfold VZ;simp only[Bool.and_eq_true,beq_iff_eq,and_true,Prod.mk.injEq];exact and_congr e Iff.rfl
def SQ(a b:B0×Int)(w:World):(do eqGuard .eql Zu (.tmp 0) (.tmp 0) (.agg #[.string a.1,I a.2]) (.agg #[.string b.1,I b.2]);binOp .eql Zu (.agg #[.string a.1,I a.2]) (.agg #[.string b.1,I b.2]):Sem Value).run Pr w = .ok (.bool (VZ a b)) w:=
 RF (by kernel_rfl) (SN a b w)
def kJ:∀{l:List Int}{all:uA}{out:List yG},(XC l all out).2.length≤out.length+l.length∧(XC l all out).1.length≤all.length+l.length
 | [],_,_=>by simp[XC]
 | id::l,all,out=>by
  unfold XC;split
  ·have:=kJ (l:=l) (all:=Zp all id ((Vw all id).1,4)) (out:=out++[(id,4,0,UX,())]);have h2:=JA all id ((Vw all id).1,(4:Int));simp only[List.length_append,List.length_cons,List.length_nil]at this ⊢;omega
  ·have:=kJ (l:=l) (all:=all) (out:=out);simp only[List.length_cons];omega
def Oo(G:Zq)(ids:List Int):Zq×List yG:=({ G with all:=(XC ids G.all []).1 },(XC ids G.all []).2)
def tX:∀{l m:List Int}{all:uA}{out:List yG},XC (l++m) all out=XC m (XC l all out).1 (XC l all out).2
 | [],m,all,out=>rfl
 | id::l,m,all,out=>by
  rw[List.cons_append,XC];split
  ·rename_i h;rw[tX];conv=>rhs;rw[XC,if_pos h]
  ·rename_i h;rw[tX];conv=>rhs;rw[XC,if_neg h]
def BI{sg si:Seg}(h:St w0 (sg::si::E) w){b bf:Nat}{G:Zq}(hg:GtS b bf G sg){v0:Sl}{ids:List Int}(hi:Rw eI zp 1 v0 ids si)(hn:ids.length<1000000){k:Sl→PT}
  (hk:∀v sv sg' w',Rw yG.cells zz 4 v (Oo G ids).2 sv→GtS b bf (Oo G ids).1 sg'→St w0 (sv::sg'::si::E) w'→k v w') :
  L.call Pr Qe [pO b,.slice v0.a v0.len v0.cap] (.one (.one .slice)) k w:=by
 have ok:=hg.1;refine za (TC _ v0) ?_;unfold OE;have hl0:=Rw.len YI hi
 refine zX (λq y w=>∃(j:Nat)(all':uA)(out:List yG)(v:Sl)(sv sg':Seg),y=(v,(j:Int),())∧q+j=ids.length∧XC (ids.take j) G.all []=(all',out)∧Rw yG.cells zz 4 v out sv∧GtS b bf { G with all:=all' } sg'∧St w0 (sg'::sv::si::E) w) ids.length
  ⟨0,G.all,[],_,[],sg,rfl,rfl,rfl,Rw.nil,hg,h.eq (by simp)⟩ ?_
 clear h;rintro q y w ⟨j,all',out,v,sv,sg',rfl,hq,hla,hv,hg',h⟩ again hag
 (try dsimp only)
 have hll:=kJ (l:=ids.take j) (all:=G.all) (out:=[]);rw[hla]at hll;simp only[List.length_nil,List.length_take]at hll;refine it (λhb=>?_) (λhb=>?_)<;>(try simp only[zB]at hb)
 ·have hj:j<ids.length:=by omega
  have hx:ids[j]? = some ids[j]:=List.getElem?_eq_getElem hj;generalize ids[j]=id at hx;have htk:ids.take (j+1)=ids.take j++[id]:=by rw[List.take_add_one,hx];rfl
  have next:∀{all2 out2 v sv sg2 w},XC [id] all' out=(all2,out2)→Rw yG.cells zz 4 v out2 sv→GtS b bf { G with all:=all2 } sg2→St w0 (sg2::sv::si::E) w→again (v,Wi ((j:Int)+1),()) w:=by
   intro all2 out2 v sv sg2 w e hv hg2 h;rw[wr (by omega) (by omega)];refine hag (q-1) _ w (by omega) ⟨j+1,all2,out2,v,sv,sg2,by simp,by omega,?_,hv,hg2,h⟩;rw[htk,tX,hla];exact e
  refine jd ?_;refine rd1 (Rw.rd YI h 2 rfl hi) YI (lf:=.int .i64) (λx=>x) (λx=>⟨_,rfl,rfl⟩) (by omega) hb λy' hy'=>?_;simp only[Int.toNat_natCast,hx,Option.some.injEq]at hy';subst hy';have ok2:=hg'.1;obtain⟨rA,rL,c,sA,sL,Q,hr,h⟩:=CK hg' h
  (dsimp only[zd,List.cons_append,List.nil_append]at h;refine nn ?_;refine ldC h ?_)
  refine MpS.get mkI Cs z0I (λx:B0×Int=>(x.1,x.2,())) (λ_=>rfl) h 2 rfl hr.all ?_;have er:((zA all' id).map λx:B0×Int=>(x.1,x.2,())).getD (s_,0,())=((Vw all' id).1,(Vw all' id).2,()):=by
   unfold Vw;cases zA all' id<;>rfl
  (try dsimp only)
  rw[er];refine nw h ?_;clear h;intro b10 w h
  (refine stC h ?_;clear h;intro w h;dsimp only[zE,zd]at h;refine laC h ?_;refine ldC h ?_)
  unfold L.chkSem;refine⟨SQ (Vw all' id) ((Vw all' id).1,1) w,?_⟩;refine it (λhc=>?_) (λhc=>?_)
  ·have hc:(Vw all' id).2=1:=by
    have:=(od (Vw all' id) ((Vw all' id).1,1)).1 hc;rw[this]
   (refine dr h ?_;clear h;intro w h;refine ldC h ?_)
   refine Dx h λw h=>?_
   (refine ckC h ?_)
   have h:=zj h;obtain⟨sg2,hg2,h⟩:=QJ (G:={ G with all:=all' }) ok2 hr h;have hin:(zA all' id).isSome=true:=by
    cases hg:zA all' id with
    | none=>unfold Vw at hc;rw[hg]at hc;cases hc
    | some x=>rfl
   refine BG (f:=(0,4,0,UX,())) h hg2 (ok2.reqIn hin _) λsg2 w hg2 h=>?_;refine nw h ?_;clear h;intro b16 w h;refine Rw.app (l:=out) oU elF h 1 rfl hv (id,4,0,UX,()) rfl (by omega) (by omega) λv' sv' w hv' h=>?_;refine next (v:=v') ?_ hv' hg2 h
   simp only[XC];rw[if_pos hc]
  ·have hc:¬(Vw all' id).2=1:=λe=>by
    have:VZ (Vw all' id) ((Vw all' id).1,1)=true:=(od _ _).2 (by rw[←e]);unfold VZ at this;rw[this]at hc;cases hc
   have h:=zj h;obtain⟨sg2,hg2,h⟩:=QJ (G:={ G with all:=all' }) ok2 hr h;refine next (v:=v) ?_ hv hg2 h
   simp only[XC];rw[if_neg hc]
 ·have e:ids.take j=ids:=List.take_of_length_le (by omega);rw[e]at hla;refine Dy h (Rw.rd oU h 1 rfl hv) (by omega) (λh0=>Rw.nil_of oU hv h0) λv' sv' w hv' h=>⟨v',rfl,?_⟩;have h:=uV h;refine hk v' sv' sg' w ?_ ?_ h
  ·unfold Oo;rw[hla];exact hv'
  ·unfold Oo;rw[hla];exact hg'
def fK(all:uA)(rev:B0):List Int:=oq ((all.filter λp=>decide (p.2=(rev,1))).map (·.1))
def Ma(G:Zq)(rev:B0):List Int:=(zS G.lines rev).map (·.1)
def z0M:Value→B0×Int
 | .agg ⟨.string s:: .int _ n::_⟩=>(s,n)
 | _=>(s_,0)
def Ak{sg:Seg}(h:St w0 (sg::E) w){b bf:Nat}{G:Zq}(hg:GtS b bf G sg){rev:B0}{k:Sl×Sl×Unit→PT}
  (hk:∀v1 v2 s1 s2 sg' w',Rw eI zp 1 v1 (Ma G rev) s1→Rw eI zp 1 v2 (fK G.all rev) s2→GtS b bf G sg'→St w0 (s1::s2::sg'::E) w'→k (v1,v2,()) w') :
  L.call Pr uj [pO b,.string rev] (.tup [.one .slice,.one .slice]) k w:=by
 have ok:=hg.1;have hfew:=ok.few;refine za (pz _ _) ?_;unfold KD;obtain⟨rA,rL,c,sA,sL,Q,hr,h⟩:=CK hg h
 (refine nn ?_;refine ldC h ?_)
 have h:=Zm h;have h:St w0 (sA::[]::gtB b bf rA rL c G.room G.pat::[Cl c zp [I G.room]]::sL::(Q.map LnE.sg).flatten::E) w:=h.eq (by simp)
 refine Sn (kv:=KI) (vv:=mo) unI (λ_=>rfl) z0M (λ_=>rfl) Cs (lk:=.int .i64) (ev:=.agg [.str,.int .i64]) (λx=>x) (λ_=>rfl) (λx:B0×Int=>(x.1,x.2,())) (λ_=>rfl) hr.all h
  (λseen y F=>∃v sv,y=(v,())∧Rw eI zp 1 v ((seen.filter λp=>decide (p.2=(rev,(1:Int)))).map (·.1)) sv∧F=sv::gtB b bf rA rL c G.room G.pat::[Cl c zp [I G.room]]::sL::(Q.map LnE.sg).flatten::E)
  (y0:=(⟨none,0,0⟩,())) ⟨_,[],rfl,Rw.nil,rfl⟩ ?_ ?_
 ·rintro seen id x y F X w again hsl hmem hnew ⟨v,sv,rfl,hv,rfl⟩ h hN;have hfl:=List.length_filter_le (λp:Int×(B0×Int)=>decide (p.2=(rev,1))) seen;have h:St w0 (sA::sv::(gtB b bf rA rL c G.room G.pat::[Cl c zp [I G.room]]::sL::(Q.map LnE.sg).flatten::E++X)) w:=h;refine nw h ?_;clear h;intro b16 w h
  (dsimp only[zd,List.cons_append,List.nil_append]at h;refine stC h ?_;clear h;intro w h;dsimp only[zE,zd]at h;refine laC h ?_)
  unfold L.chkSem;refine⟨SQ x (rev,1) w,?_⟩;refine it (λhc=>?_) (λhc=>?_)
  ·have hc:x=(rev,1):=(od x (rev,1)).1 hc;refine nw h ?_;clear h;intro b18 w h;refine Rw.app (l:=(seen.filter λp=>decide (p.2=(rev,(1:Int)))).map (·.1)) YI elI h 2 rfl hv id rfl (by rw[List.length_map];omega) (by rw[List.length_map];omega) λv' sv' w hv' h=>?_;have h:St w0 ([Cl b16 Zu [.string x.1,I x.2]]::sA::sv'::(gtB b bf rA rL c G.room G.pat::[Cl c zp [I G.room]]::sL::(Q.map LnE.sg).flatten::E++X)) w:=h;refine hN (v',()) _ w ⟨v',sv',rfl,?_,rfl⟩ (zj h);rw[List.filter_append,List.map_append];simpa [hc]using hv'
  ·have hc:¬x=(rev,1):=λe=>by
    have:VZ x (rev,1)=true:=(od _ _).2 e;unfold VZ at this;rw[this]at hc;cases hc
   refine hN (v,()) _ w ⟨v,sv,rfl,?_,rfl⟩ (zj h);rw[List.filter_append,List.map_append];simpa [hc]using hv
 ·rintro seen y F w hp ⟨v,sv,rfl,hv,rfl⟩ h;have hfl:=List.length_filter_le (λp:Int×(B0×Int)=>decide (p.2=(rev,1))) seen;rw[hp.length_eq]at hfl
  (try dsimp only)
  refine BM h 1 rfl hv (by rw[List.length_map];omega) λsv w hv h=>?_;have e1:oq ((seen.filter λp=>decide (p.2=(rev,(1:Int)))).map (·.1))=fK G.all rev:=Li ((hp.filter _).map _);rw[e1]at hv;have h:St w0 (sA::sv::gtB b bf rA rL c G.room G.pat::[Cl c zp [I G.room]]::sL::(Q.map LnE.sg).flatten::E) w:=h;have hgl:(fK G.all rev).length<1000000000:=by
   rw[←e1,FW,List.length_map];omega
  have fin:∀{v1:Sl}{s1:Seg}{w},Rw eI zp 1 v1 (Ma G rev) s1→St w0 (s1::sA::sv::gtB b bf rA rL c G.room G.pat::[Cl c zp [I G.room]]::sL::(Q.map LnE.sg).flatten::E) w→
    L.call Pr ZN [.slice v.a v.len v.cap] (.one (.one .slice)) (λx14 w'=>∃z,Value.tuple #[.slice v1.a v1.len v1.cap,.slice x14.a x14.len x14.cap]=RT.val (.tup [.one .slice,.one .slice]) z∧k z w') w:=by
   intro v1 s1 w h1 h;refine Ot h (Rw.rd YI h 2 rfl hv) (by omega) (λh0=>Rw.nil_of YI hv h0) λv2 s2 w h2 _ h=>⟨(v1,v2,()),rfl,?_⟩;have h:=Qj h;have h:=jS (jS (yM (jS (jS (yL h)))));obtain⟨sg',hg',h⟩:=QJ ok hr h;have h:=Zm (Zm h);exact hk v1 v2 s1 s2 sg' w h1 h2 hg' h
  refine jd ?_
  (refine nn ?_;refine ldC h ?_)
  refine MpS.get2 aB ge zln (λx:Option Addr=>x) (λ_=>rfl) h 4 rfl hr.lns ?_
  (try dsimp only)
  have e2:=Pu (Q:=Q) (rev:=rev);have e3:=Pw (Q:=Q) (rev:=rev);rw[←hr.abs]at e3
  cases hf:uI LnE.k Q rev with
  | none=>
   rw[hf]at e2 e3;simp only[Option.map_none]at e2 e3;rw[e2];refine itF rfl ?_;refine fin (v1:=⟨none,0,0⟩) (s1:=[]) ?_ h.nil;unfold Ma zS;rw[e3];exact Rw.nil
  | some x=>
   rw[hf]at e2 e3;simp only[Option.map_some]at e2 e3;rw[e2];refine itT rfl ?_;obtain⟨A,B,rfl,hx⟩:=Kc hf;have hlx:=hr.each x (by simp);have hlen:=JB ok rev;have hhi:=ok.hi;have elo:zS G.lines rev=x.l:=by unfold zS;rw[e3];rfl
   rw[elo]at hlen;have h:=JR h;have h:=h.pick;refine Ih h 0 rfl hlx (by omega) λv1 s1 w h1 h=>?_;have h:St w0 (s1::x.sg::((A++B).map LnE.sg).flatten::sA::sv::gtB b bf rA rL c G.room G.pat::[Cl c zp [I G.room]]::sL::E) w:=h;have h:=Zm (Zm h);have h:St w0 (LnE.sg x::((A++B).map LnE.sg).flatten::s1::sA::sv::gtB b bf rA rL c G.room G.pat::[Cl c zp [I G.room]]::sL::E) w:=h;have h:=h.place;have h:=jS (jS (jS (jS (jS (jS h)))));refine fin (v1:=v1) ?_ h;unfold Ma;rw[elo];exact h1
def BJ{sg:Seg}(h:St w0 (sg::E) w){b bf:Nat}{G:Zq}(hg:GtS b bf G sg){rev:B0}{k:Int→PT}
  (hk:∀sg' w',GtS b bf G sg'→St w0 (sg'::E) w'→k (((Ma G rev).length:Int)+(fK G.all rev).length) w') :
  L.call Pr Qf [pO b,.string rev] (.one (.one (.int .i64))) k w:=by
 have ok:=hg.1;refine za (TG _ _) ?_;unfold OH;refine Ak h hg λv1 v2 s1 s2 sg' w h1 h2 hg' h=>?_;have e1:=Rw.len YI h1;have e2:=Rw.len YI h2;have hlen:=JB ok rev;have hhi:=ok.hi;have hfew:=ok.few;have h3:(Ma G rev).length=(zS G.lines rev).length:=List.length_map ..;have h4:(fK G.all rev).length≤G.all.length:=by unfold fK;rw[FW,List.length_map];exact List.length_filter_le ..
 refine⟨_,rfl,?_⟩
 (try dsimp only)
 rw[e1,e2,wr (by omega) (by omega)];exact hk sg' w hg' (zj (zj h))
end Go.Proofs.YtimahgbgejngiaaGreatDoor
namespace Go.Proofs.YtimahgbgejngiaaGreatDoor
open Go.Dm
def EQ{P:Program}{r:RT}{s:Sem Value}{k:r.T→PT}{w:World}(x:r.T)(h:s.run P w = .ok (r.val x) w)(hk:k x w):L.semR P r s k w:=⟨x,h,hk⟩
attribute [local irreducible] L.load L.store L.chk L.new L.nonnil L.guard L.ite L.draw L.idx L.sem L.semR L.semU L.chkSem L.next L.call L.callV L.join L.alts L.loop L.begin L.endRound L.range
variable {w0 w:World}{E:List Seg}
def Ir(n:Int)(w:World):(Instr.typeAssert (.iface zp (I n)) fS zc true).run Pr w = .ok (.tuple #[.string s_,.bool false]) w:=by
 have hz:=z0H w;have hz:(zeroValue zc).run Pr w = .ok (.string s_) w:=hz;simp only[Instr.typeAssert];rw[Sem.run_bind,run_underlying uX];simp only[Result.andThen_ok];rw[if_neg (by decide)];simp only[if_true];rw[Sem.run_bind,hz];rfl
def ZK(word:B0)(l:List B0):B0:=VB (word::l)
def lZ{word:B0}{l:List B0}(h:∀x∈word::l,x.size≤100000000)(hl:l.length≤1000):(ZK word l).size<1000000000000:=by
 have:=Pz 100000000 (word::l) h;unfold ZK;simp only[List.length_cons]at this;have e:(l.length+1)*(100000000+1)≤1001*(100000000+1):=Nat.mul_le_mul_right _ (by omega);omega
def NX:∀(k:Nat)(g:Nat),g<10 ^ (k+1)→(Lib.decDigits g).length≤k+1
 | 0,g,h=>by rw[Lib.decDigits_one (by simpa using h)];simp
 | k+1,g,h=>by
  by_cases h1:g<10
  ·rw[Lib.decDigits_one h1];simp
  ·rw[Lib.decDigits,dif_neg h1,List.length_append];have:=NX k (g/10) (by rw[Nat.div_lt_iff_lt_mul (by decide)];rw[Nat.pow_succ]at h;exact h);simp only[List.length_singleton];omega
def Wb{x:Int}(h0:0≤x)(h1:x≤9000000000000000000):(jw x.toNat).size≤100:=by
 have:=NX 18 x.toNat (by have:(10:Nat) ^ (18+1)=10000000000000000000:=by decide
                         omega)
 have e:(jw x.toNat).size=(Lib.decDigits x.toNat).length:=by rw[←jl,NY]
 omega
def BE(h:St w0 E w){word:B0}{v:Sl}{l:List B0}(r:RdE w0 E eS v l)(hl:l.length≤1000)(hs:∀x∈word::l,x.size≤100000000){k:B0→PT}(hk:∀w',St w0 E w'→k (ZK word l) w') :
  L.call Pr zD [.string word,SlV v] (.one (.one .str)) k w:=by
 refine za (Fq _ v) ?_;unfold vX;have hlen:=Rd.len (r w h);refine nw h ?_;clear h;intro b1 w h;refine zX (λq y w=>∃(j:Nat)(s1:Seg),@Eq Int y.2.1 j∧q+j=l.length∧Rw eS zc 1 y.1 (word::l.take j) s1∧St w0 (s1::E) w) l.length ⟨0,_,rfl,rfl,Rw.lit b1 [word] yu rfl rfl (by decide),h⟩ ?_;clear h;rintro q ⟨vo,y,⟨⟩⟩ w ⟨j,s1,hy,hq,r1,h⟩ again hag
 (try dsimp only)
 simp only at hy r1;subst hy;refine it (λhb=>?_) (λhb=>?_)<;>(try simp only[zB]at hb)
 ·have hj:j<l.length:=by omega
  have hx:l[j]? = some l[j]:=List.getElem?_eq_getElem hj;have et:l.take (j+1)=l.take j++[l[j]]:=by rw[List.take_succ,hx];rfl
  have rr:=r w (zj h);generalize l[j]=x at hx et;refine jd ?_;refine rr.ix yu (by omega) (by simpa using hj) λa ha=>?_;refine rr.ld0 yu ha (by simpa using hx) rfl rfl ?_;refine itT rfl ?_;refine nw h ?_;clear h;intro b8 w h;refine Rw.app yu elS h 0 rfl r1 x rfl (by simp;omega) (by simp;omega) λv' s1' w r1' h=>?_;refine hag (q-1) _ w (by omega) ⟨j+1,s1',?_,by omega,by rw[et];exact r1',h⟩;show Wi _=_;rw[wr (by omega) (by omega)];omega
 ·have e:l.take j=l:=List.take_of_length_le (by omega);rw[e]at r1;refine Wo h 0 rfl r1 (by simp;omega) (lZ hs hl) λw h=>⟨_,rfl,hk w (zj h)⟩
def BF [YB w0](h:St w0 E w){word:B0}{v:Sl}{l:List Int}(r:RdE w0 E eI v l)(hl:l.length≤1000)(hw:word.size≤100000000)(hs:∀x∈l,0≤x∧x≤9000000000000000000){k:B0→PT}(hk:∀w',St w0 E w'→k (ZK word (l.map λx=>jw x.toNat)) w') :
  L.call Pr zL [.string word,SlV v] (.one (.one .str)) k w:=by
 refine za (tl _ v) ?_;unfold oB;have hlen:=Rd.len (r w h)
 let f:Int→B0:=λx=>jw x.toNat
 refine nw h ?_;clear h;intro b1 w h;refine zX (λq y w=>∃(j:Nat)(s1:Seg),@Eq Int y.2.1 j∧q+j=l.length∧Rw eS zc 1 y.1 (word::(l.take j).map f) s1∧St w0 (s1::E) w) l.length ⟨0,_,rfl,rfl,Rw.lit b1 [word] yu rfl rfl (by decide),h⟩ ?_;clear h;rintro q ⟨vo,y,⟨⟩⟩ w ⟨j,s1,hy,hq,r1,h⟩ again hag
 (try dsimp only)
 simp only at hy r1;subst hy;refine it (λhb=>?_) (λhb=>?_)<;>(try simp only[zB]at hb)
 ·have hj:j<l.length:=by omega
  have hx:l[j]? = some l[j]:=List.getElem?_eq_getElem hj;have et:(l.take (j+1)).map f=(l.take j).map f++[f l[j]]:=by rw[List.take_succ,hx,List.map_append];rfl
  have hxs:=hs l[j] (List.getElem_mem hj);have rr:=r w (zj h);generalize l[j]=x at hx et hxs;refine jd ?_;refine rr.ix YI (by omega) (by simpa using hj) λa ha=>?_;refine rr.ld0 YI ha (by simpa using hx) rfl rfl ?_;refine EQ (s_,false,()) (Ir x w) ?_;refine itF rfl (itT rfl ?_);refine Wp h hxs.1 (by omega) λw h=>?_;refine nw h ?_;clear h;intro b8 w h;refine Rw.app yu elS h 0 rfl r1 (f x) rfl (by simp;omega) (by simp;omega) λv' s1' w r1' h=>?_;refine hag (q-1) _ w (by omega) ⟨j+1,s1',?_,by omega,by rw[et];exact r1',h⟩;show Wi _=_;rw[wr (by omega) (by omega)];omega
 ·have e:l.take j=l:=List.take_of_length_le (by omega);rw[e]at r1;refine Wo h 0 rfl r1 (by simp;omega) (lZ (λx hx=>?_) (by simpa using hl)) λw h=>⟨_,rfl,hk w (zj h)⟩;rcases List.mem_cons.1 hx with rfl | hx
  ·exact hw
  ·obtain⟨y,hy,rfl⟩:=List.mem_map.1 hx;have:=Wb (hs y hy).1 (hs y hy).2;show(jw y.toNat).size≤_;omega
end Go.Proofs.YtimahgbgejngiaaGreatDoor
namespace Go.Proofs.YtimahgbgejngiaaGreatDoor
open Go.Dm
attribute [local irreducible] L.load L.store L.chk L.new L.nonnil L.guard L.ite L.draw L.idx L.sem L.semR L.semU L.chkSem L.next L.call L.callV L.join L.alts L.loop L.begin L.endRound L.range
variable {w0 w:World}{E:List Seg}
def Ca(e:Int):B0:=
 if e=0 then z1S else if e=1 then AU else if e=2 then iN else if e=3 then AX else if e=4 then iL else if e=5 then Pe else if e=6 then AS else if e≤6 then CG
 else if e=7 then Ba else if e=8 then sj else if e=9 then bZ else if e=10 then iM else if e=11 then AV else if e=12 then AY else CG
def Sr{c:Prop}[Decidable c]{a b:B0}{n:Nat}(h1:a.size≤n)(h2:b.size≤n):(if c then a else b).size≤n:=by split<;>assumption
def Bq(e:Int):(Ca e).size≤100:=by
 unfold Ca
 repeat' (first | (show ByteArray.size _≤_;decide) | apply Sr)
def BK{e:Int}{k:B0→PT}(hk:k (Ca e) w):L.call Pr JZ [I e] (.one (.one .str)) k w:=by
 refine za (tx e) ?_;unfold oI;unfold Ca at hk;refine it (λh1=>?_) (λh1=>?_)
 ·have h1:e≤6:=by simpa using h1
  refine za (ru e) ?_;unfold cR
  repeat' (first | refine it (λhc=>?_) (λhc=>?_))
  all_goals refine⟨_,rfl,_,rfl,?_⟩
  all_goals exact eqk hk (by clear hk;simp_all)
 ·have h1:¬e≤6:=by simpa using h1
  refine za (bI e) ?_;unfold DI;have n0:¬e=0:=by omega
  have n1:¬e=1:=by omega
  have n2:¬e=2:=by omega
  have n3:¬e=3:=by omega
  have n4:¬e=4:=by omega
  have n5:¬e=5:=by omega
  have n6:¬e=6:=by omega
  rw[if_neg n0,if_neg n1,if_neg n2,if_neg n3,if_neg n4,if_neg n5,if_neg n6,if_neg h1]at hk
  repeat' (first | refine it (λhc=>?_) (λhc=>?_))
  all_goals refine⟨_,rfl,_,rfl,?_⟩
  all_goals exact eqk hk (by clear hk;simp_all)
def ut{b:Nat}{x word:B0}(h:St w0 ([Cl b zc [.string x]]::E) w)(h1:word.size≤100000000)(h2:x.size≤100000000){k:B0→PT}(hk:∀w',St w0 E w'→k (ZK word [x]) w') :
  L.call Pr zD [.string word,.slice (some ⟨b,0,none⟩) 1 1] (.one (.one .str)) k w:=
 BE (v:=⟨some ⟨b,0,none⟩,1,1⟩) (l:=[x]) h (Rw.re yu 0 rfl (Rw.lit b [x] yu rfl rfl (by decide))) (by simp) (λy hy=>by
  rcases List.mem_cons.1 hy with rfl | hy
  ·exact h1
  ·rw[List.mem_singleton.1 hy];exact h2) λw h=>hk w (zj h)
def IJ{b:Nat}{x y word:B0}(h:St w0 ([Cl b zc [.string x,.string y]]::E) w)(h1:word.size≤100000000)(h2:x.size≤100000000)(h3:y.size≤100000000){k:B0→PT}(hk:∀w',St w0 E w'→k (ZK word [x,y]) w') :
  L.call Pr zD [.string word,.slice (some ⟨b,0,none⟩) 2 2] (.one (.one .str)) k w:=
 BE (v:=⟨some ⟨b,0,none⟩,2,2⟩) (l:=[x,y]) h (Rw.re yu 0 rfl (Rw.lit b [x,y] yu rfl rfl (by decide))) (by simp) (λz hz=>by
  rcases List.mem_cons.1 hz with rfl | hz
  ·exact h1
  ·rcases List.mem_cons.1 hz with rfl | hz
   ·exact h2
   ·rw[List.mem_singleton.1 hz];exact h3) λw h=>hk w (zj h)
def qA [YB w0]{b:Nat}{x:Int}{word:B0}(h:St w0 ([Cl b zp [I x]]::E) w)(h1:word.size≤100000000)(h0:0≤x)(h2:x≤9000000000000000000){k:B0→PT}(hk:∀w',St w0 E w'→k (ZK word [jw x.toNat]) w') :
  L.call Pr zL [.string word,.slice (some ⟨b,0,none⟩) 1 1] (.one (.one .str)) k w:=
 BF (v:=⟨some ⟨b,0,none⟩,1,1⟩) (l:=[x]) h (Rw.re YI 0 rfl (Rw.lit b [x] YI rfl rfl (by decide))) (by simp) h1 (λy hy=>by rw[List.mem_singleton.1 hy];exact⟨h0,h2⟩) λw h=>hk w (zj h)
def IK [YB w0]{b:Nat}{x y:Int}{word:B0}(h:St w0 ([Cl b zp [I x,I y]]::E) w)(h1:word.size≤100000000)(h0:0≤x∧x≤9000000000000000000)(h2:0≤y∧y≤9000000000000000000){k:B0→PT}(hk:∀w',St w0 E w'→k (ZK word [jw x.toNat,jw y.toNat]) w') :
  L.call Pr zL [.string word,.slice (some ⟨b,0,none⟩) 2 2] (.one (.one .str)) k w:=
 BF (v:=⟨some ⟨b,0,none⟩,2,2⟩) (l:=[x,y]) h (Rw.re YI 0 rfl (Rw.lit b [x,y] YI rfl rfl (by decide))) (by simp) h1 (λz hz=>by
  rcases List.mem_cons.1 hz with rfl | hz
  ·exact h0
  ·rw[List.mem_singleton.1 hz];exact h2) λw h=>hk w (zj h)
def JU(e:Int):List B0:=[ZK uD [Ca e]]
def JT(h:St w0 E w){e:Int}{k:Sl→PT}(hk:∀v s' w',Rw eS zc 1 v (JU e) s'→St w0 (s'::E) w'→k v w'):L.call Pr ZF [I e] (.one (.one .slice)) k w:=by
 refine za (Tu e) ?_;unfold Ox;refine BK ?_;refine nw h ?_;clear h;intro b2 w h;refine ut h (by decide) (by have:=Bq e;omega) λw h=>?_;refine nw h ?_;clear h;intro b4 w h;exact⟨⟨some ⟨b4,0,none⟩,1,1⟩,rfl,hk _ _ w (Rw.lit b4 [_] yu rfl rfl (by decide)) h⟩
def vl{word x:B0}:(ZK word [x]).size=word.size+1+x.size:=by
 unfold ZK;rw[dY,NH,ByteArray.size_append,ByteArray.size_append];rfl
def al(word name:B0)(ver no:Int):List B0:=if no=0 then [ZK (ZK word [name]) [jw ver.toNat]]else JU no
def Ia [YB w0](h:St w0 E w){word name:B0}{ver no:Int}(h1:word.size≤1000)(h2:name.size≤1000000)(h3:0≤ver∧ver≤9000000000000000000){k:Sl→PT}(hk:∀v s' w',Rw eS zc 1 v (al word name ver no) s'→St w0 (s'::E) w'→k v w') :
  L.call Pr ke [.string word,.string name,I ver,I no] (.one (.one .slice)) k w:=by
 refine za (Wx _ _ _ _) ?_;unfold PW;unfold al at hk;refine it (λhc=>?_) (λhc=>?_)
 ·have hc:¬no=0:=by simpa using hc
  rw[if_neg hc]at hk;exact JT h λv s w r h=>⟨v,rfl,hk v s w r h⟩
 ·have hc:no=0:=by simpa using hc
  rw[if_pos hc]at hk;refine nw h ?_;clear h;intro b2 w h;refine ut h (by omega) (by omega) λw h=>?_;refine nw h ?_;clear h;intro b4 w h;refine qA h (by rw[vl];omega) h3.1 h3.2 λw h=>?_;refine nw h ?_;clear h;intro b6 w h;exact⟨⟨some ⟨b6,0,none⟩,1,1⟩,rfl,hk _ _ w (Rw.lit b6 [_] yu rfl rfl (by decide)) h⟩
def Qt(f:yG):B0:=
 if f.2.1=1 then ZK AQ [jw (@id Int f.1).toNat,jw (@id Int f.2.2.1).toNat]else if f.2.1=2 then ZK bX [jw (@id Int f.1).toNat]else if f.2.1=3 then ZK sn [jw (@id Int f.1).toNat]
 else ZK (ZK uD [jw (@id Int f.1).toNat]) [f.2.2.2.1]
structure yG.Ok(f:yG):Prop where
 id:0≤@id Int f.1∧@id Int f.1≤9000000000000000000
 pod:0≤@_root_.id Int f.2.2.1∧@_root_.id Int f.2.2.1≤9000000000000000000
 why:f.2.2.2.1.size≤1000
def z0p [YB w0](h:St w0 E w){f:yG}(ok:f.Ok){k:B0→PT}(hk:∀w',St w0 E w'→k (Qt f) w'):L.call Pr oN [.agg f.cells.toArray] (.one (.one .str)) k w:=by
 obtain⟨fi,fw,fp,fy,⟨⟩⟩:=f;obtain⟨o1,o2,o3⟩:=ok;simp only[id]at o1 o2;refine za (nB (fi,fw,fp,fy,())) ?_;unfold Mi;unfold Qt at hk;refine nw h ?_;clear h;intro b1 w h
 (dsimp only[zd,List.cons_append,List.nil_append]at h;refine ldC h ?_)
 refine it (λh1=>?_) (λh1=>?_)
 ·rw[if_pos (by simpa using h1)]at hk
  (refine ldC h ?_;refine ldC h ?_)
  refine nw h ?_;clear h;intro b5 w h;exact IK h (by decide) o1 o2 λw h=>⟨_,rfl,hk w (zj h)⟩
 rw[if_neg (by simpa using h1)]at hk;refine it (λh2=>?_) (λh2=>?_)
 ·rw[if_pos (by simpa using h2)]at hk
  (refine ldC h ?_)
  refine nw h ?_;clear h;intro b5 w h;exact qA h (by decide) o1.1 o1.2 λw h=>⟨_,rfl,hk w (zj h)⟩
 rw[if_neg (by simpa using h2)]at hk;refine it (λh3=>?_) (λh3=>?_)
 ·rw[if_pos (by simpa using h3)]at hk
  (refine ldC h ?_)
  refine nw h ?_;clear h;intro b5 w h;exact qA h (by decide) o1.1 o1.2 λw h=>⟨_,rfl,hk w (zj h)⟩
 rw[if_neg (by simpa using h3)]at hk;have hd:=Wb o1.1 o1.2;have hb:(ZK uD [jw (@id Int fi).toNat]).size≤100000000:=by rw[vl];have:uD.size=7:=rfl;simp only[id];omega
 dsimp only at o3;refine jd ?_
 (refine dr h ?_;clear h;intro w h;refine ldC h ?_;refine ldC h ?_)
 refine VD ?_ ?_
 ·refine nw h ?_;clear h;intro b17 w h
  (refine ckC h ?_)
  refine VD ?_ ?_
  ·refine qA h (by decide) o1.1 o1.2 λw h=>?_
   (refine ckC h ?_)
   refine nw h ?_;clear h;intro b19 w h
   (refine ckC h ?_)
   exact ut h hb (by omega) λw h=>⟨_,rfl,hk w (zj h)⟩
  ·refine nw h ?_;clear h;intro b21 w h
   (refine ckC h ?_)
   have h:=yL h;refine qA h (by decide) o1.1 o1.2 λw h=>?_
   (refine ckC h ?_)
   exact ut h hb (by omega) λw h=>⟨_,rfl,hk w (zj h)⟩
 ·refine nw h ?_;clear h;intro b24 w h
  (refine ckC h ?_)
  refine nw h ?_;clear h;intro b25 w h
  (refine ckC h ?_)
  refine qA h (by decide) o1.1 o1.2 λw h=>?_
  (refine ckC h ?_)
  exact ut h hb (by omega) λw h=>⟨_,rfl,hk w (zj h)⟩
def HF [YB w0]{c:Nat}{v:Sl}{fs:List yG}{sv:Seg}(hr:Rw yG.cells zz 4 v fs sv)(hok:∀f∈fs,f.Ok)(hn:fs.length<1000000000) :
  LL Pr w0 [[Cl c zC [SlV v]],sv] (.func (.func xL) #[] #[.pointer (some ⟨c,0,none⟩)]) (fs.map Qt).length λi=>TV _ (z07 (fs.map Qt) i):=by
 intro yv R J Jd G w h hJ step fin fin2;refine⟨To,Tv yv ⟨c,0,none⟩ ?_⟩;unfold Oy;have h:St w0 ([Cl c zC [SlV v]]::sv::G) w:=h;have hlen:=Rw.len oU hr
 (refine ldC h ?_)
 refine zX (λq y w=>∃(j:Nat)(G:List Seg),@Eq Int y.1 j∧q+j=fs.length∧J j G∧St w0 ([Cl c zC [SlV v]]::sv::G) w) fs.length ⟨0,G,rfl,rfl,hJ,h⟩ ?_;clear hJ;clear h;rintro q ⟨y,⟨⟩⟩ w ⟨j,G,hy,hq,hJ,h⟩ again hag
 (try dsimp only)
 simp only at hy;subst hy;refine it (λhb=>?_) (λhb=>?_)<;>(try simp only[zB]at hb)
 ·have hj:j<fs.length:=by omega
  have hx:fs[j]? = some fs[j]:=List.getElem?_eq_getElem hj;have ho:=hok fs[j] (List.getElem_mem hj);generalize fs[j]=x at hx ho;have next:∀{G w},J (j+1) G→St w0 ([Cl c zC [SlV v]]::sv::G) w→again (Wi ((j:Int)+1),()) w:=by
   intro G w hJ h;refine hag (q-1) _ w (by omega) ⟨j+1,G,?_,by omega,hJ,h⟩;show Wi _=_;rw[wr (by omega) (by omega)];omega
  refine Rw.ix oU hr (by omega) (by simpa using hj) λa ha=>?_;refine Rw.lda oU h 1 rfl hr ha (x:=x) (by simpa using hx) rfl ?_;refine nw h ?_;clear h;intro b6 w h
  (refine stC h ?_;clear h;intro w h;dsimp only[zE,zd]at h;refine laC h ?_)
  refine z0p (f:=x) h ho λw h=>?_;have h:=zj h;have hat:(fs.map Qt)[j]? = some (Qt x):=by rw[List.getElem?_map,hx];rfl
  have step:=step j G [] w (by simpa using hj) hJ (by simpa using h);simp only[Bw hat]at step;refine cv (xw.mono step λu w' hu=>?_);rcases hu with ⟨rfl,G',h,hJ⟩ | ⟨rfl,hd⟩
  ·exact⟨true,rfl,itF rfl (next hJ (by simpa using h))⟩
  ·exact⟨false,rfl,itT rfl (fin2 w' hd)⟩
 ·have e:j=fs.length:=by omega
  subst e;exact fin G w (by simpa using hJ) h
def Tl [YB w0]{s2 sv:Seg}(h:St w0 (s2::sv::E) w){v1 v2:Sl}{fs:List yG}{l:List B0}(hr:Rw yG.cells zz 4 v1 fs sv)(hok:∀f∈fs,f.Ok)(hn:fs.length<100000000)(hl:l.length<100000000)(h2:Rw eS zc 1 v2 l s2){k:Sl→PT}
  (hk:∀v s w',Rw eS zc 1 v (l++fs.map Qt) s→St w0 (s::sv::E) w'→k v w'):L.call Pr Jh [SlV v1,SlV v2] (.one (.one .slice)) k w:=by
 refine za (nA v1 v2) ?_;unfold Mh;refine nw h ?_;clear h;intro b1 w h;refine za (DK v1) ?_;unfold fY;refine nw h ?_;clear h;intro c w h;refine⟨⟨.func xL,#[],#[.pointer (some ⟨c,0,none⟩)]⟩,rfl,?_⟩;have h:St w0 ([[Cl c zC [SlV v1]],sv]++([Cl b1 zm [SlV v2]]::s2::E)) w:=by
  have h:=Ys (Ys (Zm (Zm h)));exact h
 refine qZ (HF hr hok (by omega)) h (λm G=>∃vv s,G = [Cl b1 zm [SlV vv]]::s::E∧Rw eS zc 1 vv (l++(fs.map Qt).take m) s) (λj G=>False) ⟨v2,s2,rfl,by simpa using h2⟩ ?_ ?_ ?_
 ·rintro m G X w lv lp d R hm ⟨vv,so,rfl,hr2⟩ h hN hE;have hx:(fs.map Qt)[m]? = some (fs.map Qt)[m]:=List.getElem?_eq_getElem hm;have h:St w0 ([Rec lv lp .busy none]::[DfM d]::[Cl c zC [SlV v1]]::sv::[Cl b1 zm [SlV vv]]::so::(E++X)) w:=h;have et:l++(fs.map Qt).take (m+1)=(l++(fs.map Qt).take m)++[(fs.map Qt)[m]]:=by rw[List.take_add_one,hx,Option.toList_some,List.append_assoc]
  have hlm:(l++(fs.map Qt).take m).length<300000000:=by rw[List.length_append,List.length_take,List.length_map];omega
  rw[Bw hx];generalize (fs.map Qt)[m]=x at et hx;dsimp only
  (refine ldC h ?_)
  refine nw h ?_;clear h;intro b9 w h;refine Rw.app yu elS h 5 rfl hr2 x rfl (by omega) (by omega) λv' s' w hr' h=>?_
  (dsimp only[zd,List.cons_append,List.nil_append]at h;refine stC h ?_;clear h;intro w h;dsimp only[zE,zd]at h)
  exact hN _ w ⟨v',s',rfl,by rw[et];exact hr'⟩ h
 ·rintro d G w ⟨vv,so,rfl,hr2⟩ h;rw[List.take_length]at hr2;have h:St w0 ([DfM d]::[Cl c zC [SlV v1]]::sv::[Cl b1 zm [SlV vv]]::so::E) w:=h;refine VA ?_
  (refine ldC h ?_)
  refine LV h (Rw.rd yu h 4 rfl hr2) (by rw[List.length_append,List.length_map];omega) (Rw.nil0 yu hr2) λv' s' w hr' hi h=>?_
  (first | refine gu h ?_ | refine gq h ?_ | refine gp h ?_ | refine gm h ?_ | refine gk h ?_ | refine gj h ?_ | refine gi h ?_ | refine gh h ?_ | refine gg h ?_ | refine gf h ?_ | refine Ua h ?_ | refine uZ h ?_);clear h;intro w h
  refine⟨v',rfl,hk v' s' w hr' ?_⟩;have h:=yw (Qj (uU h));exact h
 ·rintro d j G w hf;exact hf.elim
def SC(F:zk)(rev:B0)(want:Int):(uK F rev want:Int)=max 0 (min (want-yD F.l rev) (F.room-F.l.length)):=by unfold uK;omega
def rN(F:zk)(rev:B0)(want:Int):(Ue F rev want:Int)=max 0 ((yD F.l rev:Int)-max want 0):=by unfold Ue;omega
def qn(F:zk)(id:Int):zk×Int:=match qd F.l id with
 | none=>(F,6)
 | some x=>({ F with l:=xm F.l id λp=>(Xc p).1 },(Xc x.pod).2)
def z0q(h:St w0 E w)(i:Nat){b:Nat}{F:zk}{s:Seg}(hi:nth E i=some s)(hf:FlS b F s){id:Int}{k:Int→PT}
  (hk:∀s' w',FlS b (qn F id).1 s'→St w0 (zd E i s') w'→k (qn F id).2 w') :
  L.call Pr Qg [pO b,I id] (.one (.one (.int .i64))) k w:=by
 refine z2s h i hi hf (λhn w h=>?_) (λx hx s' w hf h=>?_)
 ·have e:qn F id=(F,6):=by unfold qn;rw[hn]
  rw[e]at hk;exact hk s w hf (by rwa [yy hi])
 ·have e:qn F id=({ F with l:=xm F.l id λp=>(Xc p).1 },(Xc x.pod).2):=by unfold qn;rw[hx]
  rw[e]at hk;exact hk s' w hf h
def tab{α:Type}(n:Nat)(f:Nat→α):List α:=(List.range n).map f
def sk(l:List ZJ):List (Int×B0):=l.map λx=>(x.id,x.rev)
def Hn{F:zk}(ok:F.Ok)(q:Int):(Yd F q).1.Ok:=by
 unfold Yd;split
 ·exact ok
 ·rename_i x hw;obtain⟨hx,hq⟩:=cz hw;have hgv:=Bo hq;have:=ok.live x hx;refine ok.upd (Ki ok.pw hx) _ ?_ ?_
  ·rw[hgv];simp only;split<;>omega
  ·rw[hgv];exact λq2 h2=>.inl (List.mem_of_mem_erase h2)
def FlS.nd{b:Nat}{F:zk}{s:Seg}(hf:FlS b F s):∀x∈F.l,x.pod.reqs.Pairwise (· < ·):=by
 obtain⟨-,_,_,_,_,_,_,L,-,-,hr,-⟩:=hf;intro x hx;rw[hr.l]at hx;obtain⟨t,ht,rfl⟩:=List.mem_map.1 hx;exact(hr.ps t ht).1.pw
def rf{v:Sl}{l:List yG}(r:Rd w yG.cells v l){n:Int}{x:yG}(hx:l[n.toNat]? = some x)(h0:0≤n){f:Nat}{lf:Lf}{u:Value}{y:lf.T}{kk:lf.T→PT}(hu:nth (yG.cells x) f=some u)(hy:un2 lf u=some y)(hk:kk y w) :
  L.idx v.a n v.len 4 (λa=>L.load (.one lf) (a.add f) kk) w:=
 r.ix oU h0 (List.getElem?_eq_some_iff.1 hx).1 λa ha=>r.ld oU ha hx hu hy hk
def tot(rs:Nat→List Int):Nat→Nat
 | 0=>0
 | n+1=>tot rs n+(rs n).length
structure TL(n c m:Nat)(B:Int)(ready:Nat→Bool)(rs:Nat→List Int):Prop where
 len:∀i,i<n→(rs i).length≤c
 nr:∀i,i<n→ready i=false→rs i = []
 tot:tot rs n=m
 b:∀i,i<n→∀q∈rs i,1≤q∧q≤B
def TL.fresh{n c m:Nat}{B q:Int}{ready:Nat→Bool}{rs:Nat→List Int}(t:TL n c m B ready rs)(hq:B<q):∀i,i<n→q∉rs i:=λi hi h=>by have:=t.b i hi q h;omega
def Gg(rev:B0)(l:List Int)(all:uA):uA:=l.foldl (λa q=>Zp a q (rev,4)) all
def Kd(l:List Int):List yG:=l.map λq=>(q,4,0,kF,())
def gK{rev:B0}:∀{l:List Int}{all:uA},(∀q∈l,(zA all q).isSome=true)→(Gg rev l all).map (·.1)=all.map (·.1)
 | [],_,_=>rfl
 | q::l,all,h=>by
  obtain⟨v,hv⟩:=Option.isSome_iff_exists.1 (h q (by simp));have e:=kI (u:=(rev,(4:Int))) hv;refine(gK (l:=l) (all:=Zp all q (rev,4)) λq2 h2=>?_).trans e;rw[XL];split
  ·rfl
  ·exact h q2 (by simp[h2])
def BY{A B:uA}(h:A.map (·.1)=B.map (·.1))(q:Int):(zA A q).isSome=(zA B q).isSome:=by
 cases ha:zA A q with
 | none=>
  have:=Yn.1 ha;rw[h]at this;rw[Yn.2 this]
 | some v=>
  cases hb:zA B q with
  | none=>
   have:=Yn.1 hb;rw[←h]at this;rw[Yn.2 this]at ha;cases ha
  | some u=>rfl
def tick1(now:Int)(k:B0)(G:Zq):Zq:={ G with all:=Gg k (jC (zS G.lines k) now) G.all,lines:=Zp G.lines k (mZ (zS G.lines k) now) }
def oa(now:Int):List B0→Zq→List yG→Zq×List yG
 | [],G,out=>(G,out)
 | k::ks,G,out=>oa now ks (tick1 now k G) (out++Kd (jC (zS G.lines k) now))
def Kg(G:Zq)(now:Int):Zq×List yG:=oa now (yR (G.lines.map (·.1))) G []
def GWk(G:Zq):Prop:=∀x∈G.lines,∀y∈x.2,(zA G.all y.1).isSome=true
def WQ{now:Int}:∀{ks:List B0}{G:Zq}{out:List yG},out.length≤(oa now ks G out).2.length
 | [],_,_=>Nat.le_refl _
 | k::ks,G,out=>by
  have:=WQ (now:=now) (ks:=ks) (G:=tick1 now k G) (out:=out++Kd (jC (zS G.lines k) now));simp only[oa,List.length_append]at this ⊢;omega
def GWk.line{G:Zq}(h:GWk G)(k:B0):∀y∈zS G.lines k,(zA G.all y.1).isSome=true:=by
 intro y hy;unfold zS at hy
 cases hm:zA G.lines k with
 | none=>rw[hm]at hy;simp at hy
 | some l=>rw[hm]at hy;exact h _ (jB hm) y hy
def GWk.late{G:Zq}(h:GWk G)(k:B0)(now:Int):∀q∈jC (zS G.lines k) now,(zA G.all q).isSome=true:=by
 intro q hq;obtain⟨y,hy,rfl⟩:=List.mem_map.1 hq;exact h.line k y (List.mem_filter.1 hy).1
def GWk.tick1{G:Zq}(h:GWk G)(k:B0)(now:Int):GWk (YtimahgbgejngiaaGreatDoor.tick1 now k G):=by
 intro x hx y hy;have e:=gK (rev:=k) (h.late k now);show(zA (Gg k (jC (zS G.lines k) now) G.all) y.1).isSome=true;rw[BY e];rcases yr hx with rfl | hx
 ·exact h.line k y (List.mem_filter.1 hy).1
 ·exact h x hx y hy
def Zq.Ok.tick1{G:Zq}(ok:G.Ok)(h:GWk G){k:B0}(hk:(zA G.lines k).isSome=true)(now:Int):(YtimahgbgejngiaaGreatDoor.tick1 now k G).Ok:=by
 have e:=gK (rev:=k) (h.late k now);have e2:(Gg k (jC (zS G.lines k) now) G.all).length=G.all.length:=by
  have:=congrArg List.length e;simpa using this
 obtain⟨v,hv⟩:=Option.isSome_iff_exists.1 hk;refine⟨by show(Gg k _ _).length<_;rw[e2];exact ok.few,ok.lo,ok.hi,λx hx=>?_,om ok.nd,by show((Gg k _ _).map _).Nodup;rw[e];exact ok.nda,?_⟩
 ·rcases yr hx with rfl | hx
  ·have:=JB ok k;have:=NF (zS G.lines k) now;simp only;show _≤G.room;omega
  ·exact ok.ln x hx
 ·show(Zp G.lines k _).length<_;rw[fE hv];exact ok.fl
def TZ{G:Zq}{k:B0}(hk:(zA G.lines k).isSome=true)(now:Int):(tick1 now k G).lines.map (·.1)=G.lines.map (·.1):=by
 obtain⟨v,hv⟩:=Option.isSome_iff_exists.1 hk;exact kI hv
abbrev KPt:=List (B0×Option Addr)
def HB(m:KPt)(l:List B0)(i:Nat):TT [.one .str,.one .ptr]:=match l[i]? with | some k=>(k,(zA m k).getD none,()) | none=>(s_,none,())
def Bx{m:KPt}{l:List B0}{i:Nat}{k:B0}(h:l[i]? = some k):HB m l i=(k,(zA m k).getD none,()):=by unfold HB;rw[h]
def HA{m:KPt}{l:List B0}{i:Nat}{k:B0}(h:l[i]? = some k):TV _ (HB m l i) = [.string k,.pointer ((zA m k).getD none)]:=by rw[Bx h];rfl
def z0A(h:St w0 E w)(i:Nat){s:Seg}(hi:nth E i=some s){r:Nat}{m:KPt}(hm:MpS Value.string Value.pointer r m s)(hn:m.length<1000000000){k:Sl→PT}
  (hk:∀v s' w',Rw eS zc 1 v (yR (m.map (·.1))) s'→St w0 (s'::E) w'→k v w') :
  L.call Pr ZU [.map (some r)] (.one (.one .func)) (λx5=>L.call Pr ZM [.func x5.fn x5.fs x5.cs] (.one (.one .slice)) k) w:=by
 refine za (JP _) ?_;unfold yW;have h:=h.front i hi;refine nw h ?_;clear h;intro c w h;refine⟨⟨.func zQ,#[],#[.pointer (some ⟨c,0,none⟩)]⟩,rfl,?_⟩;have hY:Ds Pr w0 [[Cl c Zr [.map (some r)]],s] (.func (.func zQ) #[] #[.pointer (some ⟨c,0,none⟩)]) (m.map (·.1)) Value.string:=by
  intro yv R J Jd F w h hJ step fin fin2;refine⟨Jr,Js yv ⟨c,0,none⟩ ?_⟩;unfold yP;exact FU (kv:=Value.string) (vv:=Value.pointer) unS (λ_=>rfl) ge (lk:=.str) (ev:=.one .ptr) (λx=>x) (λ_=>rfl) (λx:Option Addr=>x) (λ_=>rfl) J Jd hm h hJ (λseen k F X w hl hJ h=>step seen k F X w (by simpa using hl) hJ h) fin fin2
 refine vL (fv:=⟨.func zQ,#[],#[.pointer (some ⟨c,0,none⟩)]⟩) hY h (by simpa using hn) λv s' w hr h=>hk v s' w hr ?_;have h:=yL h;exact St.again (i+1) (E:=s'::E) hi h
def z0a{c b bf rA rL cc:Nat}{room pat:Int}{m:KPt}{sL:Seg}(hL:MpS Value.string Value.pointer rL m sL)(hn:m.length<1000000000) :
  LL Pr w0 [[Cl c Zn [.pointer (some ⟨b,2,none⟩)]],gtB b bf rA rL cc room pat,sL]
   (.func (.func yB) #[] #[.pointer (some ⟨c,0,none⟩)]) (yR (m.map (·.1))).length λi=>TV _ (HB m (yR (m.map (·.1))) i):=by
 intro yv R J Jd G w h hJ step fin fin2;refine⟨Vr,Vu yv ⟨c,0,none⟩ ?_⟩;unfold XH;have h:St w0 ([Cl c Zn [.pointer (some ⟨b,2,none⟩)]]::gtB b bf rA rL cc room pat::sL::G) w:=h
 (refine ldC h ?_;refine nn ?_;refine ldC h ?_)
 refine z0A h 2 rfl hL hn λv s w hrow h=>?_;have hlen:=Rw.len yu hrow;have hl:(yR (m.map (·.1))).length<1000000000:=by rw[jk,List.length_map];exact hn
 generalize yR (m.map (·.1))=l at *
 refine zX (λq y w=>∃(j:Nat)(G:List Seg),@Eq Int y.1 j∧q+j=l.length∧J j G∧
  St w0 (s::[Cl c Zn [.pointer (some ⟨b,2,none⟩)]]::gtB b bf rA rL cc room pat::sL::G) w) l.length ⟨0,G,rfl,rfl,hJ,h⟩ ?_
 clear hJ;clear h;rintro q ⟨y,⟨⟩⟩ w ⟨j,G,hy,hq,hJ,h⟩ again hag;simp only at hy;subst hy;refine it (λhb=>?_) (λhb=>?_)<;>(try simp only[zB]at hb)
 ·have hj:j<l.length:=by omega
  have hx:l[j]? = some l[j]:=List.getElem?_eq_getElem hj;refine Rw.ix yu hrow (by omega) (by simpa using hj) λa ha=>?_;refine Rw.ld0 yu h 0 rfl hrow ha (x:=l[j]) (by simp[hj]) rfl rfl ?_
  (refine ldC h ?_;refine nn ?_;refine ldC h ?_)
  refine MpS.get aB ge zln (λx:Option Addr=>x) (λ_=>rfl) h 3 rfl hL ?_;have step:=step _ G [s] w hj hJ (St.toEnd (X:=[s]) (A:=[_,_,_]) h);simp only[HA hx]at step;simp only[Option.map_id'];refine cv (xw.mono step λu w' hu=>?_);rcases hu with ⟨rfl,G',h,hJ⟩ | ⟨rfl,hd⟩
  ·refine⟨true,rfl,itF rfl ?_⟩;refine hag (q-1) _ w' (by omega) ⟨j+1,G',?_,by omega,hJ,St.ofEnd (X:=[s]) (A:=[_,_,_]) h⟩;show Wi _=_;rw[wr (by omega) (by omega)];omega
  ·exact⟨false,rfl,itT rfl (fin2 w' hd)⟩
 ·have e:j=l.length:=by omega
  subst e;exact fin G w hJ (zj h)
def Rx{rev:B0}{l:List Int}{j:Nat}{q:Int}{all:uA}(h:l[j]? = some q):Gg rev (l.take (j+1)) all=Zp (Gg rev (l.take j) all) q (rev,4):=by
 unfold Gg;rw[List.take_add_one,h,Option.toList_some,List.foldl_append];rfl
def Ry{l:List Int}{j:Nat}{q:Int}(h:l[j]? = some q):Kd (l.take (j+1))=Kd (l.take j)++[(q,4,0,kF,())]:=by
 unfold Kd;rw[List.take_add_one,h,Option.toList_some,List.map_append];rfl
def FT(l:List Int):(Kd l).length=l.length:=List.length_map ..
def iq{sg:Seg}(h:St w0 (sg::E) w){b bf:Nat}{G:Zq}(hg:GtS b bf G sg)(hw:GWk G){now:Int}(ho:(Kg G now).2.length<90000000){k:Sl→PT}
  (hk:∀v sv sg' w',Rw yG.cells zz 4 v (Kg G now).2 sv→GtS b bf (Kg G now).1 sg'→St w0 (sv::sg'::E) w'→k v w') :
  L.call Pr vg [pO b,I now] (.one (.one .slice)) k w:=by
 obtain⟨ok,rA,rL,c,sA,sL,Q,hr,rfl⟩:=hg;refine za (TA _ _) ?_;unfold OC;have h:=h.split5;refine nw h ?_;clear h;intro b1 w h;refine nw h ?_;clear h;intro b2 w h;refine nw h ?_;clear h;intro b3 w h
 (refine ldC h ?_;refine nn ?_)
 refine za (KQ _) ?_;unfold qR;refine nw h ?_;clear h;intro cc w h;refine⟨⟨.func yB,#[],#[.pointer (some ⟨cc,0,none⟩)]⟩,rfl,?_⟩;have h:=Ys (JR (xY (yL h)));have h:=h.nil;have h:=yM (yM (yM (yM h)));have h:St w0 ([[Cl cc Zn [.pointer (some ⟨b,2,none⟩)]],gtB b bf rA rL c G.room G.pat,sL]++([Cl b3 zC [SlV ⟨none,0,0⟩]]::[]::[Cl b2 zp [I now]]::[Cl b1 Jk [.pointer (some ⟨b,0,none⟩)]]::[Cl c zp [I G.room]]::sA::(Q.map LnE.sg).flatten::E)) w:=h;have enm:(Q.map LnE.kp).map (·.1)=G.lines.map (·.1):=by rw[hr.abs];simp[List.map_map,Function.comp_def]
 have hn:(Q.map LnE.kp).length<1000000000:=by
  have:=congrArg List.length enm;have:=ok.fl;simp only[List.length_map]at *;omega
 have hkeys:yR ((Q.map LnE.kp).map (·.1))=yR (G.lines.map (·.1)):=by rw[enm]
 have hkm:∀k∈yR ((Q.map LnE.kp).map (·.1)),k∈G.lines.map (·.1):=λk hk=>by rw[hkeys]at hk;exact UV.1 hk
 have hgt:oa now (yR ((Q.map LnE.kp).map (·.1))) G []=Kg G now:=by rw[hkeys];rfl
 refine qZ (z0a (c:=cc) (b:=b) (bf:=bf) (rA:=rA) (cc:=c) (room:=G.room) (pat:=G.pat) hr.lns hn) h
  (λm F=>∃(v:Sl)(sv sA':Seg)(Q':List LnE)(G':Zq)(out:List yG),F = [Cl b3 zC [SlV v]]::sv::[Cl b2 zp [I now]]::[Cl b1 Jk [.pointer (some ⟨b,0,none⟩)]]::[Cl c zp [I G.room]]::sA'::(Q'.map LnE.sg).flatten::E∧
   Q'.map LnE.kp=Q.map LnE.kp∧(∀x∈Q',LnS x.b G.room x.l x.sg)∧G'.lines=Q'.map LnE.ka∧G'.Ok∧G'.room=G.room∧G'.pat=G.pat∧GWk G'∧MpS KI mo rA G'.all sA'∧Rw yG.cells zz 4 v out sv∧
   oa now ((yR ((Q.map LnE.kp).map (·.1))).drop m) G' out=Kg G now)
  (λj G=>False) ⟨_,_,sA,Q,G,[],rfl,rfl,hr.each,hr.abs,ok,rfl,rfl,hw,hr.all,Rw.nil,hgt⟩ ?_ ?_ ?_
 ·rintro m F X w lv lp d R hm ⟨v,sv,sA',Q',G',out,rfl,hkp,hQ',hln,ok',er,ep,hw',hA',hv,hT⟩ h hN hE;have hx:(yR ((Q.map LnE.kp).map (·.1)))[m]? = some (yR ((Q.map LnE.kp).map (·.1)))[m]:=List.getElem?_eq_getElem hm;have hdr:=List.drop_eq_getElem_cons hm;have hmem:=hkm _ (List.mem_of_getElem? hx);generalize (yR ((Q.map LnE.kp).map (·.1)))[m]=key at hx hdr hmem;rw[Bx hx];rw[hdr]at hT;have enm':G'.lines.map (·.1)=G.lines.map (·.1):=by
   rw[hln,←enm,←hkp];simp[List.map_map,Function.comp_def]
  rw[←enm',hln]at hmem;have e1:=Pu (Q:=Q') (rev:=key);have e2:=Pw (Q:=Q') (rev:=key)
  cases hf:uI LnE.k Q' key with
  | none=>rw[hf]at e2;exact absurd hmem (Yn.1 e2)
  | some x=>
   rw[hf]at e1 e2;simp only[Option.map_some]at e1 e2;rw[hkp]at e1;rw[e1];obtain⟨A,B,e,hxk⟩:=Kc hf;subst e;rw[←hln]at e2;have hlo:zS G'.lines key=x.l:=by unfold zS;rw[e2];rfl
   have hsm:(zA G'.lines key).isSome=true:=by rw[e2];rfl
   have hll:=JB ok' key;rw[hlo]at hll;have hhi:=ok'.hi;have h:St w0 ([Rec lv lp .busy none]::[DfM d]::[Cl cc Zn [.pointer (some ⟨b,2,none⟩)]]::gtB b bf rA rL c G.room G.pat::sL::[Cl b3 zC [SlV v]]::sv::[Cl b2 zp [I now]]::[Cl b1 Jk [.pointer (some ⟨b,0,none⟩)]]::[Cl c zp [I G.room]]::sA'::((A++x::B).map LnE.sg).flatten::(E++X)) w:=h
   (refine ldC h ?_)
   have h:=De (xY (ot (xY (xY (xx h)))));have h:=h.pick;refine z0z h 0 rfl (hQ' x (by simp)) (by omega) λv13 s' s2 w hl' hr2 h=>?_;have h:St w0 (s2::s'::((A++B).map LnE.sg).flatten::gtB b bf rA rL c G.room G.pat::sA'::[Cl b3 zC [SlV v]]::sv::[Cl b1 Jk [.pointer (some ⟨b,0,none⟩)]]::[Rec lv lp .busy none]::[DfM d]::[Cl cc Zn [.pointer (some ⟨b,2,none⟩)]]::sL::[Cl b2 zp [I now]]::[Cl c zp [I G.room]]::(E++X)) w:=h;have h:=xY (xY (xY (xY (xY h))));obtain⟨RR,hRR⟩:∃RR,RR=s'::((A++B).map LnE.sg).flatten::[Rec lv lp .busy none]::[DfM d]::[Cl cc Zn [.pointer (some ⟨b,2,none⟩)]]::sL::[Cl b2 zp [I now]]::[Cl c zp [I G.room]]::(E++X):=⟨_,rfl⟩;rw[←hRR]at h;have hge:=WQ (now:=now) (ks:=(yR ((Q.map LnE.kp).map (·.1))).drop (m+1)) (G:=tick1 now key G') (out:=out++Kd (jC (zS G'.lines key) now));have hT:oa now ((yR ((Q.map LnE.kp).map (·.1))).drop (m+1)) (tick1 now key G') (out++Kd (jC (zS G'.lines key) now))=Kg G now:=hT;rw[hT,List.length_append,FT,hlo]at hge;have hll2:=Rw.len YI hr2
   refine zX (λq y w=>∃(j:Nat)(v:Sl)(sv sA':Seg),y=((j:Int),())∧q+j=(jC x.l now).length∧MpS KI mo rA (Gg key ((jC x.l now).take j) G'.all) sA'∧Rw yG.cells zz 4 v (out++Kd ((jC x.l now).take j)) sv∧
    St w0 (gtB b bf rA rL c G.room G.pat::sA'::[Cl b3 zC [SlV v]]::sv::[Cl b1 Jk [.pointer (some ⟨b,0,none⟩)]]::s2::RR) w) (jC x.l now).length
    ⟨0,v,sv,sA',rfl,rfl,hA',by simpa [Kd]using hv,h⟩ ?_
   clear hA' hv;clear h;rintro q y w ⟨j,v,sv,sA',rfl,hq,hA',hv,h⟩ again hag
   (try dsimp only)
   refine it (λhb=>?_) (λhb=>?_)<;>(try simp only[zB]at hb)
   ·have hj:j<(jC x.l now).length:=by omega
    have hxj:(jC x.l now)[j]? = some (jC x.l now)[j]:=List.getElem?_eq_getElem hj;generalize (jC x.l now)[j]=id at hxj;refine rd1 (Rw.rd YI h 5 rfl hr2) YI (lf:=.int .i64) (λx=>x) (λx=>⟨_,rfl,rfl⟩) (by omega) hb λy' hy'=>?_;simp only[Int.toNat_natCast,hxj,Option.some.injEq]at hy';subst hy'
    (refine dr h ?_;clear h;intro w h;refine ldC h ?_;refine ldC h ?_)
    refine Dx h λw h=>?_
    (refine ckC h ?_;refine ckC h ?_)
    refine Tm (f:=(0,4,0,kF,())) hA' h λsA2 w hA2 h=>?_
    (refine ckC h ?_)
    refine nw h ?_;clear h;intro b22 w h
    (refine ckC h ?_)
    refine Rw.app (l:=out++Kd ((jC x.l now).take j)) oU elF h 3 rfl hv (id,4,0,kF,()) rfl (by rw[List.length_append,FT,List.length_take];omega) (by rw[List.length_append,FT,List.length_take];omega) λv' sv' w hv' h=>?_
    (dsimp only[zd,List.cons_append,List.nil_append]at h;refine stC h ?_;clear h;intro w h;dsimp only[zE,zd]at h)
    rw[wr (by omega) (by omega)];refine hag (q-1) _ w (by omega) ⟨j+1,v',sv',sA2,by simp,by omega,?_,?_,h⟩
    ·rw[Rx hxj];exact hA2
    ·rw[Ry hxj,←List.append_assoc];exact hv'
   ·have e:(jC x.l now).take j=jC x.l now:=List.take_of_length_le (by omega);rw[e]at hA' hv;subst hRR;have h:=PL h;have h:=jS (jS h);have h:St w0 (LnE.sg ⟨x.k,x.b,mZ x.l now,s'⟩::((A++B).map LnE.sg).flatten::gtB b bf rA rL c G.room G.pat::sA'::[Cl b3 zC [SlV v]]::sv::[Cl b1 Jk [.pointer (some ⟨b,0,none⟩)]]::[Rec lv lp .busy none]::[DfM d]::[Cl cc Zn [.pointer (some ⟨b,2,none⟩)]]::sL::[Cl b2 zp [I now]]::[Cl c zp [I G.room]]::(E++X)) w:=h;have h:=h.place;have h:=De (De (De (xx (De (xY (xY (De (jS (De (Zm h))))))))));have hnd:(((A++x::B).map LnE.ka).map (·.1)).Nodup:=by rw[←hln];exact ok'.nd
    refine hN _ w ⟨v,sv,sA',A++(⟨x.k,x.b,mZ x.l now,s'⟩:LnE)::B,tick1 now key G',out++Kd (jC (zS G'.lines key) now),rfl,?_,?_,?_,ok'.tick1 hw' hsm now,er,ep,hw'.tick1 key now,?_,?_,hT⟩ h
    ·rw[←hkp];simp
    ·intro y hy;rcases List.mem_append.1 hy with hy | hy
     ·exact hQ' y (by simp[hy])
     ·rcases List.mem_cons.1 hy with rfl | hy
      ·exact hl'
      ·exact hQ' y (by simp[hy])
    ·show Zp G'.lines key (mZ (zS G'.lines key) now)=_;rw[hlo];exact(tY (ls:=G'.lines) (by rw[←hln,tU e2]) hxk hnd).symm
    ·show MpS KI mo rA (Gg key (jC (zS G'.lines key) now) G'.all) sA';rw[hlo];exact hA'
    ·rw[hlo];exact hv
 ·rintro d F w ⟨v,sv,sA',Q',G',out,rfl,hkp,hQ',hln,ok',er,ep,hw',hA',hv,hT⟩ h;have h:St w0 ([DfM d]::[Cl cc Zn [.pointer (some ⟨b,2,none⟩)]]::gtB b bf rA rL c G.room G.pat::sL::[Cl b3 zC [SlV v]]::sv::[Cl b2 zp [I now]]::[Cl b1 Jk [.pointer (some ⟨b,0,none⟩)]]::[Cl c zp [I G.room]]::sA'::(Q'.map LnE.sg).flatten::E) w:=h;rw[List.drop_of_length_le (Nat.le_refl _)]at hT;have hT:(G',out)=Kg G now:=hT;rw[←hT]at hk ho;refine VA ?_
  (refine ldC h ?_)
  refine Dy h (Rw.rd oU h 5 rfl hv) (by simp only at ho;omega) (λh0=>Rw.nil_of oU hv h0) λv' sv' w hv' h=>?_
  (first | refine gu h ?_ | refine gq h ?_ | refine gp h ?_ | refine gm h ?_ | refine gk h ?_ | refine gj h ?_ | refine gi h ?_ | refine gh h ?_ | refine gg h ?_ | refine gf h ?_ | refine Ua h ?_ | refine uZ h ?_);clear h;intro w h
  refine⟨v',rfl,?_⟩;have h:=jS (ot (ot (yM (ot h))));rw[←er,←ep]at h;have h:=nk (nk (nk (nk (nk h))));obtain⟨sg,hg,h⟩:=QJ ok' (Q:=Q') ⟨hA',by rw[hkp];exact hr.lns,λx hx=>by rw[er];exact hQ' x hx,hln⟩ h;have h:=yL h;exact hk v' sv' sg w hv' hg h
 ·rintro d j F w hf;exact hf.elim
def RtE.rde{Q:List RtE}{x:RtE}(hx:x∈Q)(ok:x.ok)(i:Nat)(hi:nth E i=some (Q.map RtE.sg).flatten):RdE w0 E eT x.t.2.2.1 x.ts:=by
 obtain⟨A,B,rfl⟩:=List.append_of_mem hx;intro w h;exact Rw.rd Vn (St.pick (g:=RtE.sg) (h.front i hi)) 0 rfl ok
def La{Q:List RtE}{n:B0}(h:(gJ Q n).t.is=true):gJ Q n∈Q:=by
 unfold gJ at *
 cases hf:uI RtE.k Q n with
 | none=>rw[hf]at h;cases h
 | some x=>exact List.mem_of_find?_eq_some hf
instance :DecidableEq Tgt:=inferInstanceAs (DecidableEq (B0×B0×Int×Unit))
instance :DecidableEq ARt:=λa b=>decidable_of_iff (a.name=b.name∧a.cfg=b.cfg∧a.ts=b.ts∧a.roll=b.roll) ⟨λ⟨h1,h2,h3,h4⟩=>by cases a;cases b;simp_all,λh=>by subst h;exact⟨rfl,rfl,rfl,rfl⟩⟩
def Ln(t:Od)(r:ARt):Int:=if t.is=true∧t.r=r then t.gen else Wi (t.gen+1)
def Nu(m:List (B0×Od))(n:B0)(r:ARt)(ver:Int):List (B0×Od):=Zp m n ⟨r,ver,Ln (QZ m n) r,true⟩
def Lv{Q:List RtE}(hQ:∀x∈Q,x.ts.length<1000000000)(n:B0):(gJ Q n).ts.length<1000000000:=by
 unfold gJ
 cases hf:uI RtE.k Q n with
 | none=>simp
 | some x=>exact hQ _ (List.mem_of_find?_eq_some hf)
def z0i{sv:Seg}(h:St w0 (sv::E) w)(i:Nat){b:Nat}{m:List (B0×Od)}{s:Seg}(hi:nth E i=some s)(hs:Ou b m s)(few:∀x∈m,x.2.r.ts.length<1000000000){n:B0}{a:ARt}{v:Sl}(hr:Rw eT zu 3 v a.ts sv){ver:Int}{k:Unit→PT}
  (hk:∀s' w',Ou b (Nu m n a ver) s'→St w0 (zd E i s') w'→k () w') :
  L.call Pr Jx [pO b,.string n,.agg #[.string a.name,.string a.cfg,.slice v.a v.len v.cap,I a.roll],I ver] (.tup []) k w:=by
 obtain⟨r,sm,Q,hm,hQ,rfl,rfl⟩:=hs;refine za (KN _ _ (a.name,a.cfg,v,a.roll,()) _) ?_;unfold qO;unfold Nu at hk;rw[wN]at hk;have fewQ:∀x∈Q,x.ts.length<1000000000:=λx hx=>few _ (List.mem_map_of_mem hx);have h:=h.front (i+1) hi;have h:=h.split3;have h:St w0 ([Cl b Zj [.map (some r),.func (.func Zo) #[] #[]]]::sm::(Q.map RtE.sg).flatten::sv::Zi E i) w:=h;refine nw h ?_;clear h;intro b1 w h
 (dsimp only[zd,List.cons_append,List.nil_append]at h;refine nn ?_;refine ldC h ?_)
 refine Be h 2 rfl hm ?_;have hin:=λhh=>La (Q:=Q) (n:=n) hh;have hfew:=Lv fewQ n;generalize gJ Q n=t at hk hin hfew;refine nw h ?_;clear h;intro b5 w h
 (refine stC h ?_;clear h;intro w h;dsimp only[zE,zd]at h)
 refine ZC (λz w=>St w0 ([Cl b5 zU [.string t.t.1,.string t.t.2.1,.slice t.t.2.2.1.a t.t.2.2.1.len t.t.2.2.1.cap,I t.t.2.2.2.1,I t.t.2.2.2.2.1,I (Ln t.abs a),.bool t.t.2.2.2.2.2.2.1]]::[Cl b1 zG (rtC a v)]::[Cl b Zj [.map (some r),.func (.func Zo) #[] #[]]]::sm::(Q.map RtE.sg).flatten::sv::Zi E i) w) (λk6 hk6=>?_) (λz w h=>?_)
 ·have more:∀{w},¬(t.abs.is=true∧t.abs.r=a)→St w0 ([Cl b5 zU [.string t.t.1,.string t.t.2.1,.slice t.t.2.2.1.a t.t.2.2.1.len t.t.2.2.1.cap,I t.t.2.2.2.1,I t.t.2.2.2.2.1,I t.t.gen,.bool t.t.2.2.2.2.2.2.1]]::[Cl b1 zG (rtC a v)]::[Cl b Zj [.map (some r),.func (.func Zo) #[] #[]]]::sm::(Q.map RtE.sg).flatten::sv::Zi E i) w→
    L.load (.one (.int .i64)) ((⟨b5,0,none⟩:Addr).add 5) (λ(x9:Int)=>
     L.store ((⟨b5,0,none⟩:Addr).add 5) [.int .i64 (Wi (x9+1))]<| k6 (())) w:=by
   intro w hn h
   (refine ldC h ?_;refine stC h ?_;clear h;intro w h;dsimp only[zE,zd]at h)
   refine hk6 _ w ?_;unfold Ln;rw[if_neg hn];exact h
  (refine dr h ?_;clear h;intro w h;refine ldC h ?_)
  refine it (λh1=>?_) (λh1=>?_)<;>(try simp only[zB]at h1)
  ·exact more (λhh=>by have:=hh.1;simp only[RtE.abs,Thr.is]at this;rw[h1]at this;cases this) h
  ·have h1:t.t.is=true:=by simpa using h1
   have hx:=hin h1
   (refine nn ?_;refine ldC h ?_;refine laC h ?_;refine laC h ?_)
   have rr:RdE w0 ([Cl b5 zU [.string t.t.1,.string t.t.2.1,.slice t.t.2.2.1.a t.t.2.2.1.len t.t.2.2.1.cap,I t.t.2.2.2.1,I t.t.2.2.2.2.1,I t.t.2.2.2.2.2.1,.bool t.t.2.2.2.2.2.2.1]]::[Cl b1 zG (rtC a v)]::[Cl b Zj [.map (some r),.func (.func Zo) #[] #[]]]::sm::(Q.map RtE.sg).flatten::sv::Zi E i) eT t.t.2.2.1 t.ts:=RtE.rde hx (hQ _ hx) 4 rfl;refine HR (a:=t.abs.r) (b:=a) h rr (Rw.re Vn 5 rfl hr) hfew λc w hc h=>?_;refine it (λh2=>?_) (λh2=>?_)
   ·have h2:c=false:=by simpa using h2
    exact more (λhh=>by rw[hc.2 hh.2]at h2;cases h2) h
   ·have h2:c=true:=by simpa using h2
    refine hk6 _ w ?_;unfold Ln;rw[if_pos ⟨h1,hc.1 h2⟩];exact h
 ·(refine dr h ?_;clear h;intro w h;refine nn ?_;refine ldC h ?_;refine laC h ?_;refine ldC h ?_)
  refine MpS.set mkS tD h 3 rfl hm (a.name,a.cfg,v,a.roll,ver,Ln t.abs a,true,()) rfl λsm' w hm' h=>?_;have h:St w0 ([Cl b5 zU [.string t.t.1,.string t.t.2.1,.slice t.t.2.2.1.a t.t.2.2.1.len t.t.2.2.1.cap,I t.t.2.2.2.1,I t.t.2.2.2.2.1,I (Ln t.abs a),.bool t.t.2.2.2.2.2.2.1]]::[Cl b1 zG (rtC a v)]::[Cl b Zj [.map (some r),.func (.func Zo) #[] #[]]]::sm'::(Q.map RtE.sg).flatten::sv::Zi E i) w:=h;have h:=zj (zj h);have h:=Ys (Zm (yL (yL h)));obtain⟨s',hs',h⟩:=Ou.put (E:=Zi E i) ⟨n,(a.name,a.cfg,v,a.roll,ver,Ln t.abs a,true,()),a.ts,sv⟩ hr hQ hm' h;exact⟨(),rfl,hk s' w hs' (St.back i hi h)⟩
def z0l(h:St w0 E w)(i:Nat){r:Nat}{b:Nat}{Q:List RtE}{sm:Seg}(hi:nth E i=some ([Cl b Zj [.map (some r),.func (.func Zo) #[] #[]]]++(sm++(Q.map RtE.sg).flatten)))(hm:MpS Value.string Ax r (Q.map RtE.kt) sm){n:B0}{k:aR.T×Bool×Unit→PT}(hk:∀w',St w0 E w'→k ((gJ Q n).t,(gJ Q n).t.is,()) w') :
  L.call Pr Jy [pO b,.string n] (.tup [aR,.one .bool]) k w:=by
 refine za (KP _ _) ?_;unfold qQ;have h:=(h.front i hi).split3;refine nw h ?_;clear h;intro b1 w h
 (refine nn ?_;refine ldC h ?_)
 refine Be h 2 rfl hm ?_;generalize gJ Q n=t at hk;refine nw h ?_;clear h;intro b5 w h
 (refine stC h ?_;clear h;intro w h;dsimp only[zE,zd]at h;refine dr h ?_;clear h;intro w h;refine laC h ?_;refine ldC h ?_;refine stC h ?_;clear h;intro w h;dsimp only[zE,zd]at h;refine ckC h ?_;refine laC h ?_)
 exact⟨(t.t,t.t.is,()),rfl,hk w (St.again i hi (zj (zj h)).glue3)⟩
def QY(a:Yu)(r:ARt)(ver:Int):Yu×Int×Int:=
 if Gb r≠0 then(a,0,Gb r)else if ni (QZ a.r r.name).is (QZ a.r r.name).ver ver true≠0 then(a,0,ni (QZ a.r r.name).is (QZ a.r r.name).ver ver true)else(⟨a.m,Nu a.r r.name r (a.n+1),a.n+1⟩,a.n+1,0)
def tJ{a:ARt}(h:Gb a=0):a.ts.length≤6:=by
 unfold Gb at h;split at h
 ·split at h
  ·split at h
   ·rename_i h3;exact h3.2
   ·cases h
  ·cases h
 ·cases h
def Yu.Few(a:Yu):Prop:=∀x∈a.r,x.2.r.ts.length≤6
def eO [YB w0](h:St w0 E w)(i:Nat){b:Nat}{a:Yu}{s:Seg}(hi:nth E i=some s)(hs:ShS b a s)(hfew:a.Few)(hn:a.n<900000000){r:ARt}{v:Sl}(rd:RdE w0 (Zi E i) eT v r.ts)(hvc:v.len≤v.cap)(h0:v.a=none→r.ts = [])(hrv:∀t∈r.ts,Qo t.1){ver:Int}{k:Int×Int×Unit→PT}
  (hk:∀s' w',ShS b (QY a r ver).1 s'→St w0 (zd E i s') w'→k ((QY a r ver).2.1,(QY a r ver).2.2,()) w') :
  L.call Pr Xh [pO b,.agg #[.string r.name,.string r.cfg,.slice v.a v.len v.cap,I r.roll],I ver] (.tup [.one (.int .i64),.one (.int .i64)]) k w:=by
 have hs0:=hs;obtain⟨ok,bc,br,sc,sr,hC,hR,rfl⟩:=hs;have hlo:=ok.lo;refine za (gX _ (r.name,r.cfg,v,r.roll,()) _) ?_;unfold UA;have h:=(h.front i hi).split3;refine nw h ?_;clear h;intro b1 w h
 (dsimp only[zd,List.cons_append,List.nil_append]at h;refine laC h ?_)
 refine BA (a:=r) h (λw h=>rd w (zj (zj (zj (zj h))))) hvc hrv λw h=>?_;unfold QY at hk;refine jd ?_;refine it (λhe=>?_) (λhe=>?_)<;>(try simp only[zB]at he)
 ·rw[if_neg (by simpa using he)]at hk;have hl6:=tJ he
  (refine dr h ?_;clear h;intro w h;refine nn ?_;refine ldC h ?_;refine ldC h ?_)
  refine Eg h 3 rfl hR λw h=>?_;refine it (λhm=>?_) (λhm=>?_)<;>(try simp only[zB]at hm)
  ·rw[if_pos hm]at hk;exact⟨_,rfl,hk _ w hs0 (St.back i hi (zj h).glue3)⟩
  ·rw[if_neg (by simpa using hm)]at hk
   (refine nn ?_;refine ldC h ?_;refine nn ?_;refine stC h ?_;clear h;intro w h;dsimp only[zE,zd]at h;refine dr h ?_;clear h;intro w h;refine nn ?_;refine ldC h ?_;refine ldC h ?_;refine laC h ?_;refine nn ?_;refine ldC h ?_)
   rw[wr (by omega) (by omega)]at h ⊢;have h:St w0 ([Cl b1 zG (rtC r v)]::shB b bc br (a.n+1)::sc::sr::Zi E i) w:=h;refine Ib (a:=r) h (λw h=>rd w (zj (zj (zj (zj h))))) (by omega) h0 λv' sv w hrv' h=>?_
   (refine ckC h ?_;refine ckC h ?_;refine ckC h ?_)
   refine z0i (a:=r) h 3 rfl hR (λx hx=>by have:=hfew x hx;omega) hrv' λsr' w hR' h=>?_;have h:St w0 ([Cl b1 zG (rtC r v)]::shB b bc br (a.n+1)::sc::sr'::Zi E i) w:=h
   (refine nn ?_;refine ldC h ?_)
   refine⟨(a.n+1,0,()),rfl,hk _ w ⟨⟨by simp only;omega,by simp only;omega,λx=>?_,?_,?_⟩,bc,br,sc,sr',hC,hR',rfl⟩ (St.back i hi (zj h).glue3)⟩
   ·have hx:=ok.gen x;simp only;omega
   ·have:=ok.fm;simp only;omega
   ·have:=ok.fr;have:=Ps a.r r.name ⟨r,a.n+1,Ln (QZ a.r r.name) r,true⟩;simp only[Nu];omega
 ·refine it (λhm=>?_) (λhm=>?_)<;>(try simp only[zB]at hm)
  ·rw[if_pos he]at hk;exact⟨_,rfl,hk _ w hs0 (St.back i hi (zj h).glue3)⟩
  ·exact(he hm).elim
def z2S:ARt:=⟨s_,s_,[],0⟩
def Qy(a:Yu)(n:B0):ARt×Int×Bool:=if(QZ a.r n).is=true then((QZ a.r n).r,(QZ a.r n).ver,true)else(z2S,0,false)
def wh(h:St w0 E w)(i:Nat){b:Nat}{a:Yu}{s:Seg}(hi:nth E i=some s)(hs:ShS b a s)(hfew:a.Few){n:B0}{k:eRt.T×Int×Bool×Unit→PT}
  (hk:∀v sv w',Rw eT zu 3 v (Qy a n).1.ts sv→St w0 (sv::E) w'→k (((Qy a n).1.name,(Qy a n).1.cfg,v,(Qy a n).1.roll,()),(Qy a n).2.1,(Qy a n).2.2,()) w') :
  L.call Pr xF [pO b,.string n] (.tup [eRt,.one (.int .i64),.one .bool]) k w:=by
 obtain⟨ok,bc,br,sc,sr,hC,⟨r,sm,Q,hm,hQ,hq,rfl⟩,rfl⟩:=hs;refine za (mF _ _) ?_;unfold VK;unfold Qy at hk;rw[hq,wN]at hk;have fewQ:∀x∈Q,x.ts.length<1000000000:=λx hx=>by
  have:=hfew x.ka (by rw[hq];exact List.mem_map_of_mem hx);have:x.ts.length≤6:=this;omega
 have h:=(h.front i hi).split3;refine nw h ?_;clear h;intro b1 w h
 (dsimp only[zd,List.cons_append,List.nil_append]at h;refine nn ?_;refine ldC h ?_)
 refine z0l h 3 rfl hm λw h=>?_;have hin:=λhh=>La (Q:=Q) (n:=n) hh;have hlf:=Lv fewQ n;generalize gJ Q n=t at hk hin hlf;refine nw h ?_;clear h;intro b5 w h
 (refine stC h ?_;clear h;intro w h;dsimp only[zE,zd]at h)
 refine it (λhc=>?_) (λhc=>?_)<;>(try simp only[zB]at hc)
 ·(refine stC h ?_;clear h;intro w h;dsimp only[zE,zd]at h;refine laC h ?_)
  have hc:¬t.abs.is=true:=by have:t.t.is=false:=hc;simp[RtE.abs,this]
  rw[if_neg hc]at hk;refine⟨((s_,s_,⟨none,0,0⟩,0,()),0,false,()),rfl,hk ⟨none,0,0⟩ [] w Rw.nil ?_⟩;exact(St.again i hi (zj (zj h)).glue3).nil
 ·have hc:t.t.is=true:=by simpa using hc
  have hx:=hin hc;have hca:t.abs.is=true:=hc;rw[if_pos hca]at hk
  (refine dr h ?_;clear h;intro w h;refine laC h ?_;refine ldC h ?_)
  have h:St w0 ([Cl b5 zU [.string t.t.1,.string t.t.2.1,.slice t.t.2.2.1.a t.t.2.2.1.len t.t.2.2.1.cap,I t.t.2.2.2.1,I t.t.2.2.2.2.1,I t.t.2.2.2.2.2.1,.bool t.t.2.2.2.2.2.2.1]]::[Cl b1 zG [.string s_,.string s_,.slice none 0 0,I 0]]::shB b bc br a.n::sc::[Cl br Zj [.map (some r),.func (.func Zo) #[] #[]]]::sm::(Q.map RtE.sg).flatten::Zi E i) w:=h.eq (by simp);refine Ib (a:=t.abs.r) h (RtE.rde hx (hQ _ hx) 6 rfl) hlf (Rw.nil0 Vn (hQ _ hx)) λv' sv w hrv' h=>?_
  (refine ckC h ?_;refine stC h ?_;clear h;intro w h;dsimp only[zE,zd]at h;refine ckC h ?_;refine laC h ?_)
  refine⟨((t.abs.r.name,t.abs.r.cfg,v',t.abs.r.roll,()),t.t.ver,true,()),rfl,hk v' sv w hrv' ?_⟩;have h:=yw (yw h);have h:St w0 ((shB b bc br a.n++(sc++([Cl br Zj [.map (some r),.func (.func Zo) #[] #[]]]++(sm++(Q.map RtE.sg).flatten))))::sv::Zi E i) w:=by
   have h:St w0 (sv::shB b bc br a.n::sc::[Cl br Zj [.map (some r),.func (.func Zo) #[] #[]]]::sm::(Q.map RtE.sg).flatten::Zi E i) w:=h;have h:=JR (JR (JR (JR (JR h))));exact h.eq (by simp)
  exact St.again (i+1) (E:=sv::E) hi h
def rR{a:Yu}(h:a.Few)(r:ARt)(ver:Int):(QY a r ver).1.Few:=by
 unfold QY;split
 ·exact h
 ·rename_i h1;split
  ·exact h
  ·intro x hx;simp only[Nu]at hx;rcases yr hx with rfl | hx
   ·exact tJ (by simpa using h1)
   ·exact h x hx
def rU{a:Yu}(h:a.Few)(kind:Int)(n:B0)(ver:Int):(Uf a kind n ver).1.Few:=by
 unfold Uf;split
 ·split<;>exact h
 ·split
  ·split
   ·intro x hx;simp only[MR]at hx;rcases yr hx with rfl | hx
    ·simp
    ·exact h x hx
   ·exact h
  ·exact h
def BX{a:Yu}(h:a.Few)(c:Cfg)(ver:Int):(kO a c ver).1.Few:=by
 unfold kO;split
 ·exact h
 ·split<;>exact h
end Go.Proofs.YtimahgbgejngiaaGreatDoor
namespace Go.Proofs.YtimahgbgejngiaaGreatDoor
open Go.Dm
variable {w0 w:World}{E:List Seg}
def gc(l:List Int)(n:Int)(r:List Value):List Value:=l.map I++I n::r
def SF{l:List Int}{n:Int}{r:List Value}(hl:l.length=60):nth (gc l n r) 60=some (I n):=by
 have:=JV (A:=l.map I) (B:=I n::r) (i:=0);rw[List.length_map,hl]at this;exact this
def Ho{l:List Int}{n:Int}{r:List Value}(hl:l.length=60)(j:Nat):nth (gc l n r) (61+j)=nth r j:=by
 have:=JV (A:=l.map I) (B:=I n::r) (i:=1+j);rw[List.length_map,hl]at this;have e:61+j=60+(1+j):=by omega
 rw[e];refine Eq.trans this ?_;rw[Nat.add_comm 1 j];rfl
def z2d{l:List Int}{n:Int}{r:List Value}{j:Nat}{x:Int}(hj:l[j]? = some x):nth (gc l n r) j=some (I x):=by
 rw[gc,ua (by have:=(List.getElem?_eq_some_iff.1 hj).1;simpa using this),zN,List.getElem?_map,hj];rfl
def SE{l:List Int}{n:Int}{r:List Value}{j:Nat}{x:Int}(hj:j<l.length):zd (gc l n r) j (I x)=gc (l.set j x) n r:=by
 rw[Yo,gc,gc,List.set_append_left _ _ (by simpa using hj),List.map_set]
def SD{l:List Int}{n m:Int}{r:List Value}(hl:l.length=60):zd (gc l n r) 60 (I m)=gc l m r:=by
 rw[Yo,gc,gc,List.set_append_right _ _ (by simp[hl])];simp[hl]
def Lo{l:List Int}{n:Int}{r:List Value}{v:Value}(hl:l.length=60)(j:Nat):zd (gc l n r) (61+j) v=gc l n (zd r j v):=by
 rw[Yo,gc,gc,Yo,List.set_append_right _ _ (by simp[hl];omega)];have e:61+j-(List.map I l).length=j+1:=by simp[hl];omega
 rw[e];rfl
def be(h:St w0 E w)(i:Nat){b T:Nat}{l:List Int}{n:Int}{r:List Value}{x:Int}(hi:nth E i=some [Cl b T (gc l n r)])(hl:l.length=60)(h0:0≤n)(hn:n<4611686018427387904){k:Unit→PT}
  (hk:∀w',St w0 (zd E i [Cl b T (gc (l.set (n.toNat%60) x) (n+1) r)]) w'→k () w'):L.call Pr qw [pO b,I x] (.tup []) k w:=by
 refine za (FB _ _) ?_;unfold Vc;refine dr h λw h=>nn ?_;refine ld h i hi (x:=n) (SF hl) (gd (by omega) (nn ?_));have em:Int.tmod n 60=((n.toNat%60:Nat):Int):=by rw[Int.tmod_eq_emod];simp[h0];omega
 have hlt:n.toNat%60<60:=Nat.mod_lt _ (by omega);refine ix (by rw[em];omega) (by rw[em];omega) ?_;rw[em,Int.toNat_natCast,Nat.mul_one,XM,ji,Nat.zero_add];refine st1 h i hi (z2d (List.getElem?_eq_getElem (by omega))) rfl λw h=>?_;have hi2:nth (zd E i [Cl b T (zd (gc l n r) (n.toNat%60) (I x))]) i=some [Cl b T (gc (l.set (n.toNat%60) x) n r)]:=by
  rw[SE (by omega)];exact fq hi
 refine nn (ld h i hi2 (x:=n) (SF (by simpa using hl)) (nn ?_));rw[wr (by omega) (by omega)];refine st1 h i hi2 (SF (by simpa using hl)) rfl λw h=>⟨(),rfl,hk w ?_⟩;rw[SD (by simpa using hl),Of]at h;exact h
def tz(xs:List Int):Nat:=(xs.reverse.takeWhile (· == 0)).length
structure GOk(l:List Int)(n d:Int)(xs:List Int):Prop where
 len:l.length=60
 n:n=xs.length
 pos:∀k,k<xs.length→xs.length≤k+60→l[k%60]? = xs[k]?
 idle:d=tz xs
def At(b:Nat)(xs:List Int)(s:Seg):Prop:=∃l n d,GOk l n d xs∧s = [Cl b xr (gc l n [I d])]
def io(h:St w0 E w){k:Option Addr→PT}(hk:∀b s w',At b [] s→St w0 (s::E) w'→k (some ⟨b,0,none⟩) w'):L.call Pr fB [] (.one (.one .ptr)) k w:=by
 refine za rl ?_;unfold cO;refine nw h λb w h=>⟨_,rfl,hk b _ w ⟨List.replicate 60 0,0,0,⟨rfl,rfl,λk hk=>by simp at hk,rfl⟩,rfl⟩ h⟩
def EI(xs:List Int)(x:Int):tz (xs++[x])=if x=0 then tz xs+1 else 0:=by
 unfold tz;rw[List.reverse_append];by_cases h:x=0
 ·subst h;simp
 ·simp[h]
def z0N(xs:List Int):tz xs≤xs.length:=by
 unfold tz;have:=(List.takeWhile_sublist (l:=xs.reverse) (λx=>x == 0)).length_le;simpa using this
def GOk.add{l:List Int}{n d:Int}{xs:List Int}(g:GOk l n d xs)(x:Int):GOk (l.set (n.toNat%60) x) (n+1) (if x=0 then d+1 else 0) (xs++[x]):=by
 have hn:n.toNat=xs.length:=by rw[g.n];simp
 refine⟨by simpa using g.len,by rw[g.n];simp,λk hk hk2=>?_,?_⟩
 ·simp only[List.length_append,List.length_cons,List.length_nil]at hk hk2;rw[hn,List.getElem?_set];by_cases e:k=xs.length
  ·subst e;rw[if_pos rfl,if_pos (by rw[g.len];omega)];simp
  ·rw[if_neg (by omega),g.pos k (by omega) (by omega),List.getElem?_append_left (by omega)]
 ·rw[EI,g.idle];split<;>simp
def ip(h:St w0 E w)(i:Nat){b:Nat}{xs:List Int}{s:Seg}(hi:nth E i=some s)(hg:At b xs s)(hn:xs.length<2305843009213693952){x:Int}{k:Unit→PT}
  (hk:∀s' w',At b (xs++[if 0>x then 0 else x]) s'→St w0 (zd E i s') w'→k () w'):L.call Pr Us [pO b,I x] (.tup []) k w:=by
 obtain⟨l,n,d,g,rfl⟩:=hg;have hl:=g.len;have hn1:=g.n;have hd:=g.idle;have hz:=z0N xs;refine za (tn _ _) ?_;unfold oD;generalize hy:(if 0>x then 0 else x)=y at *
 have hy0:0≤y:=by rw[←hy];split<;>omega
 have hl2:(l.set (n.toNat%60) y).length=60:=by simpa using hl
 refine nn (be h i hi hl (by omega) (by omega) λw h=>?_);have hi2:=fq (y:=[Cl b xr (gc (l.set (n.toNat%60) y) (n+1) [I d])]) hi;refine nn (ld h i hi2 (x:=d) (Ho hl2 0) (nn ?_));rw[wr (by omega) (by omega)];refine st1 h i hi2 (Ho hl2 0) rfl λw h=>?_;have e1:zd (gc (l.set (n.toNat%60) y) (n+1) [I d]) 61 (I (d+1))=gc (l.set (n.toNat%60) y) (n+1) [I (d+1)]:=Lo hl2 0;simp only[Of]at h;have h:St w0 (zd E i [Cl b xr (gc (l.set (n.toNat%60) y) (n+1) [I (d+1)])]) w:=by rw[←e1];exact h
 have ga:=g.add y;refine it (λhb=>?_) (λhb=>?_)
 ·simp only[decide_eq_true_eq]at hb;have hi3:=fq (y:=[Cl b xr (gc (l.set (n.toNat%60) y) (n+1) [I (d+1)])]) hi;refine nn (st1 h i hi3 (Ho hl2 0) rfl λw h=>⟨(),rfl,hk _ w ⟨_,_,_,ga,rfl⟩ ?_⟩);have e1:zd (gc (l.set (n.toNat%60) y) (n+1) [I (d+1)]) 61 (I 0)=gc (l.set (n.toNat%60) y) (n+1) [I 0]:=Lo hl2 0;simp only[Of]at h;rw[if_neg (by omega),←e1];exact h
 ·simp only[decide_eq_false_iff_not]at hb;have:y=0:=by omega
  refine⟨(),rfl,hk _ w ⟨_,_,_,ga,rfl⟩ ?_⟩;rw[if_pos this];exact h
def Ej(h:St w0 E w)(i:Nat){b:Nat}{xs:List Int}{s:Seg}(hi:nth E i=some s)(hg:At b xs s){k:Int→PT}(hk:k (tz xs) w):L.call Pr ui [pO b] (.one (.one (.int .i64))) k w:=by
 obtain⟨l,n,d,g,rfl⟩:=hg;refine za (py _) ?_;unfold KC;refine nn (ld h i hi (x:=d) (Ho g.len 0) ⟨d,rfl,?_⟩);rw[g.idle];exact hk
def z2L{z:Int}(h:0≤z):Int.tmod z 60=((z.toNat%60:Nat):Int):=by
 rw[Int.tmod_eq_emod_of_nonneg h];omega
def Ei(h:St w0 E w){p:Option Addr}{k:FV→PT}(hk:∀c w',St w0 ([Cl c uu [.pointer p]]::E) w'→k ⟨.func YH,#[],#[.pointer (some ⟨c,0,none⟩)]⟩ w') :
  L.call Pr XR [.pointer p] (.one (.one .func)) k w:=by
 refine za (GO _) ?_;unfold UO;exact nw h λc w h=>⟨_,rfl,hk c w h⟩
def Aj{c b T T2:Nat}{l:List Int}{n:Int}{r:List Value}{F:List Seg}(hl:l.length=60)(h0:0≤n)(hn:n<2305843009213693952){yv:FV}{R:Value→PT}(J:Nat→List Seg→Prop)(Jd:List Seg→Prop)
  (h:St w0 ([Cl c T2 [.pointer (some ⟨b,0,none⟩)]]::[Cl b T (gc l n r)]::F) w) (hJ:J 0 F)
  (step:∀(m:Nat) F w,(m:Int)<min 60 n→J m F→St w0 ([Cl c T2 [.pointer (some ⟨b,0,none⟩)]]::[Cl b T (gc l n r)]::F) w→∀x,l[(n-(m+1)).toNat%60]? = some x→
   xw Pr yv.val [I x] w λv w'=>∃q F',v = .bool q∧St w0 ([Cl c T2 [.pointer (some ⟨b,0,none⟩)]]::[Cl b T (gc l n r)]::F') w'∧(q=true→J (m+1) F')∧(q=false→Jd F'))
  (fin:∀F w,J (min 60 n).toNat F∨Jd F→St w0 ([Cl c T2 [.pointer (some ⟨b,0,none⟩)]]::[Cl b T (gc l n r)]::F) w→R (.tuple #[]) w) :
  oW Pr (.func (.func YH) #[] #[.pointer (some ⟨c,0,none⟩)]) [yv.val] w R:=by
 refine⟨OP,OV yv ⟨c,0,none⟩ ?_⟩;unfold uR;refine zX (λq y w=>∃(m:Nat)(F:List Seg),@Eq Int y.1 (m+1)∧q+m=60∧(m:Int)≤min 60 n∧J m F∧St w0 ([Cl c T2 [.pointer (some ⟨b,0,none⟩)]]::[Cl b T (gc l n r)]::F) w) 60 ⟨0,F,rfl,rfl,by omega,hJ,h⟩ ?_;rintro q ⟨y,⟨⟩⟩ w ⟨m,F,hy,hq,hm,hJ,h⟩ again hag;simp only at hy;subst hy
 (try dsimp only)
 refine ld h 0 rfl (l:=.ptr) (x:=some ⟨b,0,none⟩) rfl (nn ?_);refine ld h 1 rfl (x:=n) (SF hl) ?_;have hmin:(if 60<n then 60 else n)=min 60 n:=by omega
 rw[hmin];refine it (λhb=>?_) (λhb=>?_)
 ·have hb:(m:Int)+1≤min 60 n:=of_decide_eq_true hb;refine dr h λw h=>?_;refine ld h 0 rfl (l:=.ptr) (x:=some ⟨b,0,none⟩) rfl ?_;refine ld h 0 rfl (l:=.ptr) (x:=some ⟨b,0,none⟩) rfl (nn ?_);refine ld h 1 rfl (x:=n) (SF hl) (gd (by omega) (nn ?_));rw[wr (by omega) (by omega)];have em:Int.tmod (n-(m+1)) 60=(((n-(m+1)).toNat%60:Nat):Int):=z2L (by omega);have hlt:(n-(m+1)).toNat%60<60:=Nat.mod_lt _ (by omega);refine ix (by rw[em];omega) (by rw[em];omega) ?_;rw[em,Int.toNat_natCast,Nat.mul_one,XM,ji,Nat.zero_add];have hx:l[(n-(m+1)).toNat%60]? = some l[(n-(m+1)).toNat%60]:=List.getElem?_eq_getElem (by omega);refine ld h 1 rfl (x:=l[(n-(m+1)).toNat%60]) (z2d hx) ?_;refine xw.mono (step m F w (by omega) hJ h _ hx) λv w' ⟨q',F',hv,h,h1,h2⟩=>⟨q',hv,?_⟩
  cases q' with
  | true=>
   refine itF rfl (hag (q-1) _ _ (by omega) ⟨m+1,F',?_,by omega,by omega,h1 rfl,h⟩);show Wi _=_;rw[wr (by omega) (by omega)];omega
  | false=>exact itT rfl (fin F' w' (.inr (h2 rfl)) h)
 ·have hb:¬(m:Int)+1≤min 60 n:=of_decide_eq_false hb;have e:m=(min 60 n).toNat:=by omega
  exact fin F w (.inl (by rw[←e];exact hJ)) h
def cY:List Int→Int
 | []=>0
 | x::l=>x+cY l
def Ss(a b:List Int):cY (a++b)=cY a+cY b:=by
 induction a with
 | nil=>simp[cY]
 | cons x a ih=>simp only[List.cons_append,cY,ih];omega
def Ii(a b:Int):Wi (Wi a+b)=Wi (a+b):=by
 simp only[IntKind.wrap_i64];omega
def uJ(xs:List Int)(m:Nat):Int:=cY (xs.reverse.take m)
def Rz{xs:List Int}{m:Nat}{x:Int}(h:xs.reverse[m]? = some x):uJ xs (m+1)=uJ xs m+x:=by
 unfold uJ;rw[List.take_add_one,h,Ss];simp[cY]
def Ke(xs:List Int)(p:Int):Nat:=min (min 60 xs.length) (max p 0).toNat
def GOk.back{l:List Int}{n d:Int}{xs:List Int}(g:GOk l n d xs){m:Nat}(hm:(m:Int)<min 60 n){x:Int}(hx:l[(n-(m+1)).toNat%60]? = some x):xs.reverse[m]? = some x:=by
 have hn:=g.n;have e:(n-(m+1)).toNat=xs.length-1-m:=by omega
 rw[e,g.pos _ (by omega) (by omega)]at hx;rw[List.getElem?_reverse (by omega)];exact hx
def LS(h:St w0 E w)(i:Nat){b:Nat}{xs:List Int}{s:Seg}(hi:nth E i=some s)(hg:At b xs s)(hn:xs.length<2305843009213693952){p:Int}{k:Int×Int×Unit→PT}
  (hk:∀w',St w0 E w'→k (Wi (uJ xs (Ke xs p)),((Ke xs p:Nat):Int),()) w') :
  L.call Pr Xl [pO b,I p] (.tup [(.one (.int .i64)),(.one (.int .i64))]) k w:=by
 obtain⟨l,n,d,g,rfl⟩:=hg;have hl:=g.len;have hn1:=g.n;refine za (px _ _) ?_;unfold KB;refine nw h λb1 w h=>nw h λb2 w h=>nw h λb3 w h=>nn (Ei h λc w h=>?_);refine rng h λdd lv lp w h hy=>?_;have h:=h.front (i+6) (s:=[Cl b xr (gc l n [I d])]) hi;have h:=h.front 3 rfl
 have fin:∀(st:LoopState)(m:Nat) w,m=Ke xs p→St w0 ([Cl c uu [.pointer (some ⟨b,0,none⟩)]]::[Cl b xr (gc l n [I d])]::[DfM dd]::[Cl b3 zp [I m]]::[Cl b2 zp [I (Wi (uJ xs m))]]::[Cl b1 zp [I p]]::Zi E i) w→
   (L.draw<|
    L.load (.one (.int .i64)) (⟨b2,0,none⟩) λx15=>
    L.load (.one (.int .i64)) (⟨b3,0,none⟩) λx16=>
    L.store (⟨b2,0,none⟩) [.int .i64 x15]<|
    L.chk (⟨b3,0,none⟩) [.int .i64 x16]<|
    L.store (⟨b3,0,none⟩) [.int .i64 x16]<|
    L.unmark Pr ([dd]++[])<|
    L.load (.one (.int .i64)) (⟨b2,0,none⟩) λx17=>
    L.load (.one (.int .i64)) (⟨b3,0,none⟩) λx18=>
    λw'=>∃x,(Value.tuple #[.int .i64 x17,.int .i64 x18])=RT.val (.tup [(.one (.int .i64)),(.one (.int .i64))]) x∧k x w') w:=by
  intro st m w hm h;refine dr h λw h=>?_;refine ld h 4 rfl (l:=.int .i64) (x:=Wi (uJ xs m)) rfl ?_;refine ld h 3 rfl (l:=.int .i64) (x:=(m:Int)) rfl ?_;refine st1 h 4 rfl rfl rfl λw h=>?_;refine ck h 3 rfl rfl ?_;refine st1 h 3 rfl rfl rfl λw h=>?_;refine um h 2 rfl λw h=>?_;refine ld h 4 rfl (l:=.int .i64) (x:=Wi (uJ xs m)) rfl ?_;refine ld h 3 rfl (l:=.int .i64) (x:=(m:Int)) rfl ?_;refine⟨(Wi (uJ xs m),(m:Int),()),rfl,?_⟩;subst hm;refine hk w ?_;have h:=h.tail.front 0 rfl;have h:=h.del 1 rfl;have h:=h.del 1 rfl;have h:=h.del 1 rfl;have h:=h.del 1 rfl;have h:=St.back i hi h;rw[yy hi]at h;exact h
 refine Aj hl (by omega) (by omega) (yv:=⟨.yield lv,#[],#[]⟩)
  (λm F=>F = [Rec lv lp .ready none]::[DfM dd]::[Cl b3 zp [I m]]::[Cl b2 zp [I (Wi (uJ xs m))]]::[Cl b1 zp [I p]]::Zi E i∧(m:Int)≤max p 0)
  (λF=>∃m:Nat,F = [Rec lv lp .done (some (.exit 0))]::[DfM dd]::[Cl b3 zp [I m]]::[Cl b2 zp [I (Wi (uJ xs m))]]::[Cl b1 zp [I p]]::Zi E i∧(m:Int)=max p 0∧(m:Int)≤min 60 n)
  h ⟨rfl,by omega⟩ ?_ ?_
 ·rintro m F w hm ⟨rfl,hmp⟩ h x hx;have hrec:=(h.at 2 rfl).2;refine hy (x,()) .ready none w _ hrec ?_;refine bgn h 2 rfl λw h=>?_;refine ld h 4 rfl (l:=.int .i64) (x:=(m:Int)) rfl ?_;refine ld h 6 rfl (l:=.int .i64) (x:=p) rfl ?_;refine it (λhb=>?_) (λhb=>?_)
  ·have hb:(m:Int)≥p:=of_decide_eq_true hb;refine Hp h 2 rfl λw h=>⟨false,_,rfl,h,λhx=>Bool.noConfusion hx,λ_=>⟨m,rfl,?_,by omega⟩⟩;omega
  ·have hb:¬(m:Int)≥p:=of_decide_eq_false hb;refine ld h 5 rfl (l:=.int .i64) (x:=Wi (uJ xs m)) rfl ?_;refine st1 h 5 rfl rfl rfl λw h=>?_;refine ld h 4 rfl (l:=.int .i64) (x:=(m:Int)) rfl ?_;refine st1 h 4 rfl rfl rfl λw h=>?_;refine SS h 2 rfl λw h=>⟨true,_,rfl,h,λ_=>⟨?_,by omega⟩,λhx=>Bool.noConfusion hx⟩;have e1:Wi ((m:Int)+1)=((m+1:Nat):Int):=by rw[wr (by omega) (by omega)];omega
   have e2:Wi (Wi (uJ xs m)+x)=Wi (uJ xs (m+1)):=by rw[Ii,Rz (g.back hm hx)]
   (try dsimp only)
   rw[e1,e2];rfl
 ·rintro F w hF h;rcases hF with ⟨rfl,hmp⟩ | ⟨m,rfl,hmp,hmn⟩
  ·refine wW h 2 rfl (by simp) λw h=>?_;refine fin .ready _ w ?_ h;unfold Ke;omega
  ·refine wW h 2 rfl (by simp) λw h=>?_;refine fin .done m w ?_ h;unfold Ke;omega
end Go.Proofs.YtimahgbgejngiaaGreatDoor
