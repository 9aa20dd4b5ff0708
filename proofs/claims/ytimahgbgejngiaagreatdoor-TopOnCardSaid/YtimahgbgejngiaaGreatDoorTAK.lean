/- What is proved on the way to a statement of the seat, pressed (text AK). No conditions beyond those its theorems state. -/
import Derived.Test.YtimahgbgejngiaaGreatDoorTAJ
set_option linter.all false
namespace Go.Proofs.YtimahgbgejngiaaGreatDoor
open Go.Dm
attribute [local irreducible] L.load L.store L.chk L.new L.nonnil L.guard L.ite L.draw L.idx L.sem L.semR L.semU L.chkSem L.next L.call L.callV L.join L.alts L.loop L.begin L.endRound L.range
variable {w0 w:World}{E:List Seg}
def Bf(a:zK)(e:AEv):yY:=if xQ a.bk (fOf (jJ a.fl e.n).1.l e.n)=true then a.bk else(Ko a.bk (fOf (jJ a.fl e.n).1.l e.n)).1
def mQ(a:zK)(e:AEv):List B0:=
 if xQ a.bk (fOf (jJ a.fl e.n).1.l e.n)=true then [Zy lI [ju e.n.toNat]]else [Zy lI [ju e.n.toNat],Zy Fs [fOf (jJ a.fl e.n).1.l e.n]]
abbrev kc(a:zK)(e:AEv):ze×Ze×List yr:=yX (jJ a.fl e.n).1 a.gt (fOf (jJ a.fl e.n).1.l e.n)
def gb(a:zK)(e:AEv):zK×List B0:=
 if(jJ a.fl e.n).2≠0 then({ a with fl:=(jJ a.fl e.n).1 },Xo (jJ a.fl e.n).2)
 else({ a with fl:=(kc a e).1,gt:=(kc a e).2.1,bk:=Bf a e },mQ a e++(kc a e).2.2.map XL)
abbrev eEw (e : AEv) : List Value := [I e.kind, .string e.name, .string e.tag, I e.n, I e.draw, .string e.c.1, I e.c.2.1, I e.c.2.2.1, I e.c.2.2.2.1, I e.c.2.2.2.2.1, I e.c.2.2.2.2.2.1, .string e.r.name, .string e.r.cfg, SlV e.v, I e.r.roll]
def z1e [xi w0](h:St w0 E w)(i:Nat){b:Nat}{a:zK}{s:Seg}(hi:nth E i=some s)(hs:yV b a s){e:AEv}(he:0≤e.n∧e.n≤9000000000000000000)(hrv:(fOf (jJ a.fl e.n).1.l e.n).size≤1000000)(hfew:Jq (jJ a.fl e.n).1)(hn:a.gt.all.length<80000000)(hl:a.gt.lines.length<90000000)
  (hf:∀f∈(kc a e).2.2,f.Ok) (hfl:(kc a e).2.2.length<100000000) {k:Sl→PT} (hk:Hk w0 E i b (gb a e) k):Ug (some ⟨b,0,none⟩) e.t (slK k) w:=by
 obtain⟨p,sg,sf,ss,sk,sr,sm,Q,R,rfl⟩:=hs;unfold Ug;have h:=(h.front i hi).split8;refine nw h ?_;clear h;intro b1 w h
 (dsimp only[zd,List.cons_append,List.nil_append]at h;refine dr h ?_;clear h;intro w h;refine nn ?_;refine ldC h ?_;refine ldC h ?_)
 unfold gb at hk;refine z3A h 3 rfl R.fl λsf' w hF h=>?_;dsimp only[zd]at h;refine it (λhc=>?_) (λhc=>?_)
 ·have hc:(jJ a.fl e.n).2≠0:=by simpa using hc
  rw[if_pos hc]at hk;refine XD h λv s w r h=>?_;exact⟨v,rfl,hk v s _ w r ⟨p,sg,sf',ss,sk,sr,sm,Q,⟨R.gt,hF,R.sh,R.bk,R.ro,R.mp,R.ea,R.ab⟩,rfl⟩ (jC i hi (Yf h))⟩
 have hc:¬(jJ a.fl e.n).2≠0:=by simpa using hc
 rw[if_neg hc]at hk;unfold Bf mQ kc at hk;unfold kc at hf hfl;generalize (jJ a.fl e.n).1=F at *
 (refine dr h ?_;clear h;intro w h;refine nn ?_;refine ldC h ?_;refine ldC h ?_)
 refine z5B h 3 rfl hF ?_;generalize fOf F.l e.n=rev at *
 (refine ldC h ?_)
 refine nw h ?_;clear h;intro b12 w h;refine Qj h (by decide) he.1 he.2 λw h=>?_;have hsu:(Zy lI [ju e.n.toNat]).size≤10000:=by rw[Vc];have:=Lj he.1 he.2;have:lI.size=2:=rfl;omega
 refine nw h ?_;clear h;intro b14 w h
 refine Zz (λ(z:Sl×Unit) w=>∃(s1 sk':Seg),Rw eS zc 1 z.1 (if xQ a.bk rev=true then [Zy lI [ju e.n.toNat]]else [Zy lI [ju e.n.toNat],Zy Fs [rev]]) s1∧BkS p.k (if xQ a.bk rev=true then a.bk else(Ko a.bk rev).1) sk'∧
  St w0 (s1::[Cl b1 zq (eEw e)]::VD b p a.now::sg::sf'::ss::sk'::sr::sm::(Q.map BsE.sg).flatten::Zv E i) w) (λk15 hk15=>?_) ?_
 ·(refine nn ?_;refine ldC h ?_)
  refine Ni h 6 rfl R.bk λw h=>?_
  cases hp:xQ a.bk rev with
  | true=>
   rw[hp]at hk15;refine itF rfl ?_;exact hk15 (_,()) w ⟨_,sk,Rw.lit b14 [_] yh rfl rfl (by decide),R.bk,h⟩
  | false=>
   rw[hp]at hk15;refine itT rfl ?_
   (refine nn ?_;refine ldC h ?_)
   refine Eh h 6 rfl R.bk λsk' w hK h=>?_;dsimp only[zd]at h;refine nw h ?_;clear h;intro b23 w h;refine vf h (by decide) (by omega) λw h=>?_;refine nw h ?_;clear h;intro b25 w h;refine Rw.app yh elS h 0 rfl (Rw.lit b14 [Zy lI [ju e.n.toNat]] yh rfl rfl (by simp[maxLen])) (Zy Fs [rev]) rfl (by simp) (by simp) λv' s' w hr' h=>?_;exact hk15 (_,()) w ⟨s',sk',hr',hK,h⟩
 ·clear h;rintro⟨vo,⟨⟩⟩ w ⟨s1,sk',r1,hK,h⟩
  (refine nn ?_;refine ldC h ?_)
  have h:=Yh (Yh h);refine Lu h R.gt hF hfew (by omega) hl λv sv sg' sf'' w hr hG hF h=>?_;have h:=YA h;refine cP h (v2:=vo) hr hf hfl (by split<;>simp) r1 λv s w r h=>?_;refine⟨v,rfl,hk v s _ w r ⟨p,sg',sf'',ss,sk',sr,sm,Q,⟨hG,hF,R.sh,hK,R.ro,R.mp,R.ea,R.ab⟩,rfl⟩ ?_⟩;have h:=Yf (ko h);have h:=YA (YA (ZL (ZL h)));exact jC i hi h
abbrev Gl(c:Cfg):Int:=if 1 > @id Int c.2.2.2.1 then 1 else @id Int c.2.2.2.1
abbrev stp(a:zK)(n:B0):yY×B0×Bool:=XY a.bk (jZ a.sh n).1 (@id Int (jZ a.sh n).2.2.1).toNat
def VC(a:zK)(e:AEv):zK×List B0:=
 if(jZ a.sh e.name).2.2.2.1=false then(a,Xo 6)else if @id Int (jZ a.sh e.name).2.2.1>999999 then(a,Xo 3)
 else if(stp a e.name).2.2=false then({ a with bk:=(stp a e.name).1 },[Zy EX [(stp a e.name).2.1]])
 else({ a with bk:=(stp a e.name).1,by':=zX a.by' (stp a e.name).2.1 ⟨[],Gl (jZ a.sh e.name).1,0⟩ },[Zy Gt [(stp a e.name).2.1],Zy (Zy Jk [(stp a e.name).2.1]) [ju (Gl (jZ a.sh e.name).1).toNat]])
def z00(a:yY)(c:Cfg)(g:Nat):(XY a c g).2.1=qh c.1 g:=by unfold XY;split<;>rfl
def aC [xi w0](h:St w0 E w)(i:Nat){b:Nat}{a:zK}{s:Seg}(hi:nth E i=some s)(hs:yV b a s){e:AEv}
  (hst:(jZ a.sh e.name).2.2.2.1=true→yp (jZ a.sh e.name).1.1.data.toList 16=true∧1≤@id Int (jZ a.sh e.name).2.2.1∧@id Int (jZ a.sh e.name).2.2.1<100∧@id Int (jZ a.sh e.name).1.2.2.2.1≤1000000) (hf:a.bk.all.length<999999)
  {k:Sl→PT} (hk:Hk w0 E i b (VC a e) k):qE (some ⟨b,0,none⟩) e.t (slK k) w:=by
 have hs0:=hs;obtain⟨p,sg,sf,ss,sk,sr,sm,Q,R,rfl⟩:=hs;unfold qE;unfold VC stp at hk;have h:=(h.front i hi).split8;refine nw h ?_;clear h;intro b1 w h
 refine Zz (λ(z:Addr×Int×Bool×Unit) w=>∃b8:Nat,z=(⟨b8,0,none⟩,(jZ a.sh e.name).2.2.1,(jZ a.sh e.name).2.2.2.1,())∧
  St w0 ([Cl b8 zA (Cfg.cells (jZ a.sh e.name).1)]::VD b p a.now::sg::sf::ss::sk::sr::sm::(Q.map BsE.sg).flatten::Zv E i) w) (λk2 hk2=>?_) ?_
 ·(dsimp only[zd,List.cons_append,List.nil_append]at h;refine dr h ?_;clear h;intro w h;refine nn ?_;refine ldC h ?_;refine ldC h ?_)
  refine kI ?_ ?_
  ·refine Nd h 4 rfl R.sh λw h=>?_;refine nw h ?_;clear h;intro b8 w h
   (refine ckC h ?_;refine ckC h ?_;refine stC h ?_;clear h;intro w h;dsimp only[zJ,zd]at h)
   exact hk2 _ w ⟨b8,rfl,Yf h⟩
  ·refine nw h ?_;clear h;intro b8 w h
   (refine ckC h ?_;refine ckC h ?_)
   refine Nd h 5 rfl R.sh λw h=>?_
   (refine stC h ?_;clear h;intro w h;dsimp only[zJ,zd]at h)
   exact hk2 _ w ⟨b8,rfl,Yf h⟩
 clear h;rintro z w ⟨b8,rfl,h⟩
 (try dsimp only)
 refine it (λhc=>?_) (λhc=>?_)
 ·have hc:(jZ a.sh e.name).2.2.2.1=false:=by simpa using hc
  rw[if_pos hc]at hk;refine XD h λv s w r h=>?_;exact⟨v,rfl,hk v s _ w r hs0 (jC i hi (Yf h))⟩
 have hc:(jZ a.sh e.name).2.2.2.1=true:=by simpa using hc
 rw[if_neg (by simp[hc])]at hk;obtain⟨st1,st2,st3,st4⟩:=hst hc;have hmin:0≤Gl (jZ a.sh e.name).1∧Gl (jZ a.sh e.name).1≤1000000:=by
  unfold Gl;split<;>omega
 unfold Gl at hk hmin;generalize jZ a.sh e.name=z at *
 obtain⟨c,ver,gen,is,⟨⟩⟩:=z;dsimp only at hk hc hmin h st1 ⊢;simp only[id]at st2 st3 st4;refine it (λh2=>?_) (λh2=>?_)
 ·exact absurd (of_decide_eq_true h2) (by simp only[Int.not_lt,gt_iff_lt];omega)
 have hng:¬@id Int gen>999999:=by simp only[id];omega
 rw[if_neg hng]at hk
 (refine dr h ?_;clear h;intro w h;refine nn ?_;refine ldC h ?_;refine laC h ?_)
 obtain⟨g,rfl⟩:∃g:Nat,gen=(g:Int):=⟨@Int.toNat gen,by omega⟩
 have hg1:1≤g:=by have:(1:Int)≤(g:Int):=st2
                  omega
 have hg2:g<100:=by have:(g:Int)<100:=st3
                    omega
 simp only[id,Int.toNat_natCast]at hk hmin;refine Eg (c:=c) h 5 rfl R.bk st1 hg1 hg2 hf λsk' w hK h=>?_;dsimp only[zd]at h;have hrev:=z00 a.bk c g;have hsz:(qh c.1 g).size≤1000000:=by have:=gq c.1 hg2;have:=vP st1;omega
 rw[←hrev]at hsz;clear hrev;generalize (XY a.bk c g).2.1=rev at *
 have hfr:∀x:Bool,(XY a.bk c g).2.2=x→True:=λ_ _=>trivial;generalize (XY a.bk c g).2.2=fr at *
 generalize (XY a.bk c g).1=K at *
 cases fr with
 | false=>
  rw[if_pos rfl]at hk;refine itT rfl ?_;refine nw h ?_;clear h;intro b17 w h;refine vf h (by decide) (by omega) λw h=>?_;refine nw h ?_;clear h;intro b19 w h;exact⟨_,rfl,hk _ _ _ w (Rw.lit b19 [_] yh rfl rfl (by simp[maxLen])) ⟨p,sg,sf,ss,sk',sr,sm,Q,⟨R.gt,R.fl,R.sh,hK,R.ro,R.mp,R.ea,R.ab⟩,rfl⟩ (jC i hi (Yf h))⟩
 | true=>
  rw[if_neg (by decide)]at hk;refine itF rfl ?_
  (refine ldC h ?_;refine dr h ?_;clear h;intro w h;refine nn ?_;refine ldC h ?_)
  refine z1A h λbg sgg w hG h=>?_
  (refine ckC h ?_)
  refine nw h ?_;clear h;intro b24 w h
  (refine ckC h ?_)
  refine MpS.set ve TO h 9 rfl R.mp (some ⟨b24,0,none⟩) rfl λsm' w hm' h=>?_;dsimp only[zd]at h;refine nw h ?_;clear h;intro b25 w h;refine vf h (by decide) (by omega) λw h=>?_;refine nw h ?_;clear h;intro b27 w h;refine vf h (by decide) (by omega) λw h=>?_;have hl:(Zy Jk [rev]).size≤100000000:=by rw[Vc];have:Jk.size=5:=rfl;omega
  refine nw h ?_;clear h;intro b29 w h;refine Qj h hl hmin.1 (by omega) λw h=>?_;refine nw h ?_;clear h;intro b31 w h;have h:St w0 ([Cl b31 zc [.string (Zy Gt [rev]),.string (Zy (Zy Jk [rev]) [ju (if 1 > @id Int c.2.2.2.1 then 1 else @id Int c.2.2.2.1).toNat])]]::[Cl b24 qp [.pointer (some ⟨bg,0,none⟩),I (if 1 > @id Int c.2.2.2.1 then 1 else @id Int c.2.2.2.1),I 0]]::sgg::[Cl b8 zA (Cfg.cells c)]::VD b p a.now::sg::sf::ss::sk'::sr::sm'::(Q.map BsE.sg).flatten::Zv E i) w:=h;have h:=VP h;have h:=ZL (ZL h);have h:=h.glue;have h:=yO (vh h);have h:St w0 (BsE.sg ⟨rev,b24,bg,⟨[],(if 1 > @id Int c.2.2.2.1 then 1 else @id Int c.2.2.2.1),0⟩,sgg⟩::(Q.map BsE.sg).flatten::[Cl b31 zc [.string (Zy Gt [rev]),.string (Zy (Zy Jk [rev]) [ju (if 1 > @id Int c.2.2.2.1 then 1 else @id Int c.2.2.2.1).toNat])]]::VD b p a.now::sg::sf::ss::sk'::sr::sm'::Zv E i) w:=h;have h:=St.lput (key:=BsE.k) h;have h:=Jo (Jo (Jo (Jo (Jo (Jo (Jo (Jo h)))))));have e5:=KW (key:=BsE.k) (λx:BsE=>(some ⟨x.b,0,none⟩:Option Addr)) ⟨rev,b24,bg,⟨[],(if 1 > @id Int c.2.2.2.1 then 1 else @id Int c.2.2.2.1),0⟩,sgg⟩ Q;have e6:=KW (key:=BsE.k) BsE.x ⟨rev,b24,bg,⟨[],(if 1 > @id Int c.2.2.2.1 then 1 else @id Int c.2.2.2.1),0⟩,sgg⟩ Q;refine⟨_,rfl,hk _ _ _ w (Rw.lit b31 [_,_] yh rfl rfl (by simp[maxLen])) ⟨p,sg,sf,ss,sk',sr,sm',_,⟨R.gt,R.fl,R.sh,hK,R.ro,by rw[←e5]at hm';exact hm',λy hy=>?_,?_⟩,rfl⟩ (jC i hi h)⟩
  ·rcases tI hy with rfl | hy
   ·exact hG
   ·exact R.ea y hy
  ·show zX a.by' _ _=_;rw[R.ab];exact e6.symm
abbrev CO(a:zK)(n:B0):Vr×Int:=resolve a.bk (ud a.sh n).1
abbrev Wx(a:zK)(n:B0):Vr:=fg a.ro n (CO a n).1 a.now (ud a.sh n).1.roll
def Oa(a:zK)(e:AEv):zK×List B0:=
 if(ud a.sh e.name).2.2=false then(a,Xo 6)else if(CO a e.name).2≠0 then(a,Xo (CO a e.name).2)
 else({ a with ro:=DU a.ro e.name (CO a e.name).1 a.now (ud a.sh e.name).1.roll },[Zy As [e.name,Dg (Wx a e.name)]])
structure z3i(t:Vr):Prop where
 sh:∀s∈t.sh,(0≤@id Int s.2.1∧@id Int s.2.1≤1000)∧s.1.size≤1000
 tg:∀s∈t.tg,s.1.size≤1000∧s.2.1.size≤1000
 txt:(Dg t).size≤100000000
def eO [xi w0](h:St w0 E w)(i:Nat){b:Nat}{a:zK}{s:Seg}(hi:nth E i=some s)(hs:yV b a s){e:AEv}(hfew:a.sh.Few)(hname:e.name.size≤100000)(hp:∀t∈(ud a.sh e.name).1.ts,0≤pct t∧pct t≤1000)(hl:(ud a.sh e.name).1.ts.length≤1000)
  (hroll:(ud a.sh e.name).1.roll≤1000000) (hok:∀x,zr a.ro e.name=some x→x.Ok) (hsi:∀x,zr a.ro e.name=some x→0≤x.since∧x.since<1000000000) (hnow:0≤a.now∧a.now<1000000000) (hwb:WBd (CO a e.name).1.sh) (hln:(Wx a e.name).sh.length<100000) (htb:z3i (Wx a e.name))
  {k:Sl→PT} (hk:Hk w0 E i b (Oa a e) k):Qr (some ⟨b,0,none⟩) e.t (slK k) w:=by
 have hs0:=hs;obtain⟨p,sg,sf,ss,sk,sr,sm,Q,R,rfl⟩:=hs;unfold Qr;unfold Oa at hk;have h:=(h.front i hi).split8;refine nw h ?_;clear h;intro b1 w h
 refine Zz (λ(z:Addr×Bool×Unit) w=>∃(b8:Nat)(v:Sl)(sv:Seg),z=(⟨b8,0,none⟩,(ud a.sh e.name).2.2,())∧Rw eT zG 3 v (ud a.sh e.name).1.ts sv∧
  St w0 ([Cl b8 Zb [.string (ud a.sh e.name).1.name,.string (ud a.sh e.name).1.cfg,SlV v,I (ud a.sh e.name).1.roll]]::sv::[Cl b1 zq (eEw e)]::VD b p a.now::sg::sf::ss::sk::sr::sm::(Q.map BsE.sg).flatten::Zv E i) w) (λk2 hk2=>?_) ?_
 ·(dsimp only[zd,List.cons_append,List.nil_append]at h;refine dr h ?_;clear h;intro w h;refine nn ?_;refine ldC h ?_;refine ldC h ?_)
  refine kI ?_ ?_
  ·refine lc h 4 rfl R.sh hfew λv sv w r h=>?_;refine nw h ?_;clear h;intro b8 w h
   (refine ckC h ?_;refine ckC h ?_;refine stC h ?_;clear h;intro w h;dsimp only[zJ,zd]at h)
   exact hk2 _ w ⟨b8,v,sv,rfl,r,h⟩
  ·refine nw h ?_;clear h;intro b8 w h
   (refine ckC h ?_;refine ckC h ?_)
   refine lc h 5 rfl R.sh hfew λv sv w r h=>?_
   (refine stC h ?_;clear h;intro w h;dsimp only[zJ,zd]at h)
   have h:=yO h;exact hk2 _ w ⟨b8,v,sv,rfl,r,h⟩
 clear h;rintro z w ⟨b8,v,sv,rfl,rv,h⟩
 (try dsimp only)
 refine it (λhc=>?_) (λhc=>?_)
 ·have hc:(ud a.sh e.name).2.2=false:=by simpa using hc
  rw[if_pos hc]at hk;refine XD h λv s w r h=>?_;exact⟨v,rfl,hk v s _ w r hs0 (jC i hi (Yf (Yf (Yf h))))⟩
 have hc:(ud a.sh e.name).2.2=true:=by simpa using hc
 rw[if_neg (by simp[hc])]at hk;unfold CO Wx at *
 unfold CO at *
 generalize (ud a.sh e.name).1=r at *
 refine Zz (λ(z:Addr×Int×Unit) w=>∃(b18:Nat)(q:HT [.slice,.slice])(sx:Seg),z=(⟨b18,0,none⟩,(resolve a.bk r).2,())∧(∀E',gE w0 (sx::E') q (resolve a.bk r).1)∧
  St w0 (sx::[Cl b18 zp [SlV q.1,SlV q.2.1]]::[Cl b8 Zb [.string r.name,.string r.cfg,SlV v,I r.roll]]::sv::[Cl b1 zq (eEw e)]::VD b p a.now::sg::sf::ss::sk::sr::sm::(Q.map BsE.sg).flatten::Zv E i) w) (λk12 hk12=>?_) ?_
 ·(refine dr h ?_;clear h;intro w h;refine laC h ?_;refine nn ?_;refine ldC h ?_)
  refine kI ?_ ?_
  ·refine lr (r:=r) (v:=v) h 7 rfl R.bk (Rw.re od 1 rfl rv) hl hp λq sx w hq h=>?_;refine nw h ?_;clear h;intro b18 w h
   (refine ckC h ?_;refine ckC h ?_;refine stC h ?_;clear h;intro w h;dsimp only[zJ,zd]at h)
   have h:=yO h;exact hk12 _ w ⟨b18,q,sx,rfl,hq,h⟩
  ·refine nw h ?_;clear h;intro b18 w h
   (refine ckC h ?_;refine ckC h ?_)
   refine lr (r:=r) (v:=v) h 8 rfl R.bk (Rw.re od 2 rfl rv) hl hp λq sx w hq h=>?_
   (refine stC h ?_;clear h;intro w h;dsimp only[zJ,zd]at h)
   exact hk12 _ w ⟨b18,q,sx,rfl,hq,h⟩
 clear h;rintro z w ⟨b18,q,sx,rfl,hq,h⟩
 (try dsimp only)
 refine it (λh2=>?_) (λh2=>?_)
 ·have h2:(resolve a.bk r).2≠0:=by simpa using h2
  rw[if_pos h2]at hk;refine XD h λv s w r h=>?_;exact⟨v,rfl,hk v s _ w r hs0 (jC i hi (Yf (Yf (Yf (Yf (Yf h))))))⟩
 have h2:¬(resolve a.bk r).2≠0:=by simpa using h2
 rw[if_neg h2]at hk
 (refine dr h ?_;clear h;intro w h;refine ldC h ?_;refine nn ?_;refine ldC h ?_;refine ldC h ?_;refine laC h ?_;refine nn ?_;refine ldC h ?_;refine ldC h ?_)
 refine Ik (p:=q) (t:=(resolve a.bk r).1) h 10 rfl R.ro (hq _) hok hwb hnow hsi hroll hln λq2 sy sr' w hR hq2 h=>?_;dsimp only[zd]at h
 (refine ckC h ?_)
 refine z3I (p:=q2) h (hq2 _) htb.sh htb.tg λw h=>?_
 (refine ckC h ?_)
 refine nw h ?_;clear h;intro b32 w h;refine z2I h (by decide) (by omega) htb.txt λw h=>?_;refine nw h ?_;clear h;intro b34 w h;refine⟨_,rfl,hk _ _ _ w (Rw.lit b34 [_] yh rfl rfl (by simp[maxLen])) ⟨p,sg,sf,ss,sk,sr',sm,Q,⟨R.gt,R.fl,R.sh,R.bk,hR,R.mp,R.ea,R.ab⟩,rfl⟩ (jC i hi ?_)⟩;exact Yf (Yf (Yf (Yf (Yf (Yf h)))))
def tZ{rev:B0}{y:OZ}{sgg:Seg}{x:BsE}(hk:x.k=rev){B:List BsE}:∀{A:List BsE},((A++x::B).map BsE.k).Nodup→(A++⟨x.k,x.b,x.g,y,sgg⟩::B).map BsE.ka=zX ((A++x::B).map BsE.ka) rev y
 | [],_=>by
  subst hk;simp[zX]
 | a::A,hn=>by
  have hn2:=hn;rw[List.cons_append,List.map_cons,List.nodup_cons]at hn2;have hne:¬a.k=rev:=λe=>hn2.1 (by rw[e,←hk];simp);have ih:=tZ hk (A:=A) (y:=y) (sgg:=sgg) hn2.2;rw[List.cons_append,List.map_cons,List.cons_append,List.map_cons,ih];simp only[zX];rw[if_neg hne]
def bnd(a:zK)(e:AEv):B0:=if(zr a.ro e.name).isSome=false then s_ else if e.tag=s_ then rE (Od a.ro e.name) e.draw else(DE (Od a.ro e.name).tg e.tag).1
def z1I(h:St w0 E w)(i:Nat){b:Nat}{a:zK}{s:Seg}(hi:nth E i=some s)(hs:yV b a s){e:AEv}(hd:0≤e.draw∧e.draw<4611686018427387904)(hok:∀x,zr a.ro e.name=some x→x.Ok)(hwb:WBd (Od a.ro e.name).sh){k:B0→PT}
  (hk:∀w',St w0 E w'→k (bnd a e) w'):L.call Pr qA [pO b,evV e] (.one (.one .str)) k w:=by
 obtain⟨p,sg,sf,ss,sk,sr,sm,Q,R,rfl⟩:=hs;refine za (Fa _ e.t) ?_;unfold vF;unfold bnd at hk;have h:=(h.front i hi).split8;refine nw h ?_;clear h;intro b1 w h
 (dsimp only[zd,List.cons_append,List.nil_append]at h;refine ldC h ?_)
 refine za (Fb _ _) ?_;unfold vG;refine nw h ?_;clear h;intro b2 w h
 (refine nn ?_;refine ldC h ?_)
 refine eX h 7 rfl R.ro hok λq sx w hq h=>?_
 (refine stC h ?_;clear h;intro w h;dsimp only[zJ,zd]at h;refine laC h ?_)
 refine⟨(q,(zr a.ro e.name).isSome,()),rfl,?_⟩;have fin:∀{w x},(∀w',St w0 E w'→k x w')→St w0 (sx::[Cl b2 zp [SlV q.1,SlV q.2.1]]::[Cl b1 zq (eEw e)]::VD b p a.now::sg::sf::ss::sk::sr::sm::(Q.map BsE.sg).flatten::Zv E i) w→k x w:=by
  intro w x hk h;exact hk w (St.again i hi (zm (zm (zm h))).glue8)
 refine nw h ?_;clear h;intro b4 w h
 (refine stC h ?_;clear h;intro w h;dsimp only[zJ,zd]at h)
 refine it (λhc=>?_) (λhc=>?_)
 ·have hc:(zr a.ro e.name).isSome=false:=by simpa using hc
  rw[if_pos hc]at hk;exact⟨_,rfl,fin hk (zm h)⟩
 have hc:¬(zr a.ro e.name).isSome=false:=λe2=>by
  dsimp only at hc;rw[e2]at hc;exact absurd hc (by decide)
 rw[if_neg hc]at hk
 (refine ldC h ?_)
 rw[JW];refine it (λh2=>?_) (λh2=>?_)<;>(try simp only[zB]at h2)
 ·rw[if_pos h2]at hk
  (refine laC h ?_;refine ldC h ?_)
  exact z3K (p:=q) h (t:=Od a.ro e.name) (by
   have:=hq ([Cl b2 zp [SlV q.1,SlV q.2.1]]::[Cl b1 zq (eEw e)]::VD b p a.now::sg::sf::ss::sk::sr::sm::(Q.map BsE.sg).flatten::Zv E i);exact this.there) hwb hd.1 hd.2 λw h=>⟨_,rfl,fin hk (zm h)⟩
 ·rw[if_neg h2]at hk
  (refine laC h ?_;refine ldC h ?_)
  exact z1L (p:=q) h (t:=Od a.ro e.name) (by
   have:=hq ([Cl b2 zp [SlV q.1,SlV q.2.1]]::[Cl b1 zq (eEw e)]::VD b p a.now::sg::sf::ss::sk::sr::sm::(Q.map BsE.sg).flatten::Zv E i);exact this.there) λw h=>⟨_,rfl,fin hk (zm h)⟩
abbrev arG(a:zK)(e:AEv):ze×Ze×yr:=ki a.fl a.gt e.n (bnd a e) a.now
def Hs(a:zK)(e:AEv):Option OZ:=match zr a.by' (bnd a e) with
 | some x=>if(arG a e).2.2.2.1=2∧x.want=0 then some x else none
 | none=>none
def YU(a:zK)(e:AEv):zK×List B0:=match Hs a e with
 | some x=>({ a with fl:=(arG a e).1,gt:=(arG a e).2.1,by':=zX a.by' (bnd a e) ⟨x.xs,1,x.left⟩ },[XL (arG a e).2.2,Zy (Zy Jk [bnd a e]) [ju 1]])
 | none=>({ a with fl:=(arG a e).1,gt:=(arG a e).2.1 },[XL (arG a e).2.2])
def En(w:World):(zeroValue qP).run Pr w = .ok ((E1.one .ptr).val (none:Option Addr)) w:=by
 have h:(Pr.info? qP).map (·.zero)=some (some (.pointer none)):=by kernel_rfl
 cases hi:Pr.info? qP with
 | none=>rw[hi]at h;cases h
 | some i=>rw[hi]at h;simp only[Option.map_some,Option.some.injEq]at h;exact zv hi h w
def Pf{Q:List BsE}{rev:B0}:zr (Q.map BsE.kp) rev=(Us BsE.k Q rev).map λx=>some ⟨x.b,0,none⟩:=QS (key:=BsE.k) (λx:BsE=>(some ⟨x.b,0,none⟩:Option Addr)) rev Q
def Pg{Q:List BsE}{rev:B0}:zr (Q.map BsE.ka) rev=(Us BsE.k Q rev).map BsE.x:=QS (key:=BsE.k) BsE.x rev Q
def bJ [xi w0](h:St w0 E w)(i:Nat){b:Nat}{a:zK}{s:Seg}(hi:nth E i=some s)(hs:yV b a s){e:AEv}(hd:0≤e.draw∧e.draw<4611686018427387904)(hok:∀x,zr a.ro e.name=some x→x.Ok)(hwb:WBd (Od a.ro e.name).sh)
  (hfew:Jq a.fl) (hn:a.gt.all.length<80000000) (hl:a.gt.lines.length<90000000) (hnow: -1000000000000<a.now+a.gt.pat∧a.now+a.gt.pat<1000000000000) (hf:(arG a e).2.2.Ok) (hrv:(bnd a e).size≤1000000)
  {k:Sl→PT} (hk:Hk w0 E i b (YU a e) k):qc (some ⟨b,0,none⟩) e.t (slK k) w:=by
 have hs0:=hs;obtain⟨p,sg,sf,ss,sk,sr,sm,Q,R,rfl⟩:=hs;unfold qc;refine nw h ?_;clear h;intro b1 w h
 (dsimp only[zd,List.cons_append,List.nil_append]at h;refine laC h ?_)
 refine z1I (e:=e) h (i+1) hi hs0 hd hok hwb λw h=>?_;unfold YU Hs arG at hk;unfold arG at hf;generalize bnd a e=rev at *
 have h:=(h.front (i+1) hi).split8;have h:St w0 (VD b p a.now::sg::sf::ss::sk::sr::sm::(Q.map BsE.sg).flatten::[Cl b1 zq (eEw e)]::Zv E i) w:=h
 (refine dr h ?_;clear h;intro w h;refine nn ?_;refine ldC h ?_;refine ldC h ?_;refine nn ?_;refine ldC h ?_)
 have h:=ZL (ZL h);refine z3y h R.gt R.fl hfew (by omega) hl hnow λv sv sg' sf' w hr hG hF h=>?_;generalize ki a.fl a.gt e.n rev a.now=g at *
 have hone:∀f∈[g.2.2],f.Ok:=λf hff=>by rw[List.mem_singleton.1 hff];exact hf
 have hlen:=Rw.len GJ hr;refine cP h.nil (l:=[]) hr hone (by simp) (by decide) Rw.nil λv2 s2 w r2 h=>?_;simp only[List.nil_append,List.map_cons,List.map_nil]at r2
 (refine nn ?_;refine ldC h ?_)
 refine za (xT _ _) ?_;unfold jl;refine MpS.get2 ve TO En (λx:Option Addr=>x) (λ_=>rfl) h 8 rfl R.mp ?_;rw[R.ab,Pg]at hk;rw[Pf]
 have close:∀{w}{vo:Sl}{so sm':Seg}{Q':List BsE}{by'':List (B0×OZ)}{out:List B0},by''=Q'.map BsE.ka→MpS Value.string Value.pointer p.m (Q'.map BsE.kp) sm'→(∀x∈Q',x.ok)→Rw eS zc 1 vo out so→
   (∀v sv s' w',Rw eS zc 1 v out sv→yV b { a with fl:=g.1,gt:=g.2.1,by':=by'' } s'→St w0 (sv::zd E i s') w'→k v w')→
   St w0 (so::sv::sg'::sf'::VD b p a.now::ss::sk::sr::sm'::(Q'.map BsE.sg).flatten::[Cl b1 zq (eEw e)]::Zv E i) w→
   slK k (.slice vo.a vo.len vo.cap) w:=by
  intro w vo so sm' Q' by'' out e1 hm hq ro hk h;refine⟨vo,rfl,hk vo so _ w ro ⟨p,sg',sf',ss,sk,sr,sm',Q',⟨hG,hF,R.sh,R.bk,R.ro,hm,hq,e1⟩,rfl⟩ ?_⟩;have h:=Yf h;have h:=Jo (Jo (Xz (Xz (Jo (Jo (Jo (Jo (Jo h))))))));exact jC i hi (z5m h)
 cases hf2:Us BsE.k Q rev with
 | none=>
  rw[hf2]at hk;dsimp only[Option.map]at hk ⊢;refine⟨(none,false,()),rfl,?_⟩;refine jd ?_;refine itF rfl ?_;exact close rfl R.mp R.ea r2 hk h
 | some x=>
  have hmk:=R.mp.nd;obtain⟨A,B,rfl,hxk⟩:=KX hf2;rw[hf2]at hk;dsimp only[Option.map]at hk ⊢;refine⟨(some ⟨x.b,0,none⟩,true,()),rfl,?_⟩;refine jd ?_;refine itT rfl ?_;refine itT (by rw[hlen];rfl) ?_;refine Rw.ix GJ hr (by decide) (by simp) λa16 ha=>?_;refine Rw.ld GJ h 1 rfl hr ha (x:=g.2.2) (f:=1) rfl rfl rfl ?_;refine it (λh1=>?_) (λh1=>?_)
  ·have h1:g.2.2.2.1=2:=by simpa using h1
   have h:=vh h;have h:=h.pick;have h:=h.split
   (refine nn ?_;refine ldC h ?_)
   refine it (λh2=>?_) (λh2=>?_)
   ·have h2:x.x.want=0:=by simpa using h2
    rw[if_pos ⟨h1,h2⟩]at hk;dsimp only at hk
    (refine nn ?_;refine stC h ?_;clear h;intro w h;dsimp only[zJ,zd]at h)
    refine nw h ?_;clear h;intro b21 w h;refine vf h (by decide) (by omega) λw h=>?_;refine nw h ?_;clear h;intro b23 w h;refine Qj h (by rw[Vc];have:Jk.size=5:=rfl;omega) (by decide) (by decide) λw h=>?_;refine nw h ?_;clear h;intro b25 w h;refine Rw.app yh elS h 3 rfl r2 (Zy (Zy Jk [rev]) [ju 1]) rfl (by simp) (by simp) λv' s' w r2' h=>?_;dsimp only[zd]at h;have h:=h.glue;have h:St w0 (BsE.sg ⟨x.k,x.b,x.g,⟨x.x.xs,1,x.x.left⟩,x.sgg⟩::((A++B).map BsE.sg).flatten::s'::sv::sg'::sf'::VD b p a.now::ss::sk::sr::sm::[Cl b1 zq (eEw e)]::Zv E i) w:=h;have h:=h.place;have h:=vh (vh (vh (vh (vh (vh (vh (vh (vh h))))))));have et:=tZ (rev:=rev) (y:=⟨x.x.xs,1,x.x.left⟩) (sgg:=x.sgg) hxk (B:=B) (A:=A) (by simpa [List.map_map,Function.comp_def]using hmk);refine close (Q':=A++⟨x.k,x.b,x.g,⟨x.x.xs,1,x.x.left⟩,x.sgg⟩::B) et.symm (by simpa using R.mp) (λy hy=>?_) r2' hk h;rcases List.mem_append.1 hy with hy | hy
    ·exact R.ea y (by simp[hy])
    ·rcases List.mem_cons.1 hy with rfl | hy
     ·exact R.ea x (by simp)
     ·exact R.ea y (by simp[hy])
   ·have h2:¬x.x.want=0:=by simpa using h2
    rw[if_neg (λhh=>h2 hh.2)]at hk;have h:=h.glue;have h:=St.place (g:=BsE.sg) (t:=x) h;have h:=vh (vh (vh (vh (vh (vh (vh (vh (vh h))))))));exact close rfl R.mp R.ea r2 hk h
  ·have h1:¬g.2.2.2.1=2:=by simpa using h1
   rw[if_neg (λhh=>h1 hh.1)]at hk;exact close rfl R.mp R.ea r2 hk h
def Dz(m:List (B0×OZ))(rev:B0):Int:=((zr m rev).map OZ.want).getD 0
def eJ(h:St w0 E w){b:Nat}{p:Bls}{now:Int}{sm:Seg}{Q:List BsE}{i j l:Nat}(hi:nth E i=some (VD b p now))(hj:nth E j=some sm)(hl:nth E l=some (Q.map BsE.sg).flatten)(hm:MpS Value.string Value.pointer p.m (Q.map BsE.kp) sm){rev:B0}{k:Int→PT}(hk:k (Dz (Q.map BsE.ka) rev) w) :
  L.call Pr Qf [pO b,.string rev] (.one (.one (.int .i64))) k w:=by
 refine za (mF _ _) ?_;unfold VT;have h0:=h;have h:=h0.front i hi;unfold Dz at hk;rw[Pg]at hk
 (refine nn ?_;refine ldC h ?_)
 refine za (xT _ _) ?_;unfold jl;refine MpS.get2 ve TO En (λx:Option Addr=>x) (λ_=>rfl) h0 j hj hm ?_;rw[Pf]
 cases hf:Us BsE.k Q rev with
 | none=>
  rw[hf]at hk;refine⟨(none,false,()),rfl,?_⟩;exact itF rfl ⟨_,rfl,hk⟩
 | some x=>
  rw[hf]at hk;obtain⟨A,B,rfl,hxk⟩:=KX hf;refine⟨(some ⟨x.b,0,none⟩,true,()),rfl,?_⟩;refine itT rfl ?_;have h:=((h0.front l hl).pick).split
  (refine nn ?_;refine ldC h ?_)
  exact⟨_,rfl,hk⟩
def cnt(q:Int→Bool)(l:List (Int×Int×Int)):Int:=((l.filter λx=>q x.2.1).length:Int)
def Nc(h:St w0 E w){b:Nat}{p:Bls}{now:Int}{sf:Seg}{F:ze}{i j:Nat}(hi:nth E i=some (VD b p now))(hj:nth E j=some sf)(hf:FlS p.f F sf){rev:B0}{fv:FV}{q:Int→Bool}(hlen:(jW F.l rev).length<1000000)
  (hq:∀{E':List Seg}{w:World}{x:Int}{k:Bool→PT},St w0 E' w→(∀w',St w0 E' w'→k (q x) w')→L.callV Pr (.func fv.fn fv.fs fv.cs) [I x] (.one (.one .bool)) k w) {k:Int→PT} (hk:∀w',St w0 E w'→k (cnt q (jW F.l rev)) w') :
  L.call Pr xp [pO b,.string rev,fv.val] (.one (.one (.int .i64))) k w:=by
 refine za (fZ _ _ fv) ?_;unfold vE;refine za (kb _ _) ?_;unfold Qu;have h0:=h;have h:=h0.front i hi
 (refine nn ?_;refine ldC h ?_)
 refine sC h0 j hj hf λv s w hr h=>⟨v,rfl,?_⟩;clear h0;generalize jW F.l rev=l at *
 have hln:=Rw.len NY hr;refine zT (λm y w=>∃(j:Nat),@Eq Int y.2.1 j∧m+j=l.length∧@Eq Int y.1 (cnt q (l.take j))∧St w0 (s::E) w) l.length ⟨0,rfl,rfl,rfl,h⟩ ?_;clear h;rintro m ⟨n,y,⟨⟩⟩ w ⟨j,hy,hm,hn,h⟩ again hag
 (try dsimp only)
 simp only at hy hn;subst hy;refine it (λhb=>?_) (λhb=>?_)<;>(try simp only[zB]at hb)
 ·have hj:j<l.length:=by omega
  have hx:l[j]? = some l[j]:=List.getElem?_eq_getElem hj;have et:cnt q (l.take (j+1))=cnt q (l.take j)+(if q l[j].2.1=true then 1 else 0):=by
   unfold cnt;rw[List.take_succ,hx,Option.toList_some,List.filter_append,List.length_append];by_cases hc:q l[j].2.1=true
   ·simp[hc]
   ·simp[hc]
  have hle:0≤cnt q (l.take j)∧cnt q (l.take j)≤j:=by
   unfold cnt;have:=List.length_filter_le (λx:Int×Int×Int=>q x.2.1) (l.take j);rw[List.length_take]at this;omega
  generalize l[j]=x at hx et;obtain⟨x1,x2,x3⟩:=x;refine jd ?_;refine Rw.ix NY hr (by omega) (by simpa using hj) λa ha=>?_;refine Rw.lda NY h 0 rfl hr ha (x:=(x1,x2,x3)) (by simpa using hx) rfl ?_;refine nw h ?_;clear h;intro b8 w h
  (refine stC h ?_;clear h;intro w h;dsimp only[zJ,zd]at h;refine ldC h ?_)
  refine hq h λw h=>?_;have h:=zm h;dsimp only at et;refine it (λhc=>?_) (λhc=>?_)
  ·rw[if_pos hc]at et;refine hag (m-1) _ w (by omega) ⟨j+1,?_,by omega,?_,h⟩
   ·show Wi _=_;rw[wr (by omega) (by omega)];omega
   ·show Wi (n+1)=_;rw[et,hn,wr (by omega) (by omega)]
  ·rw[if_neg (by rw[hc];decide)]at et;refine hag (m-1) _ w (by omega) ⟨j+1,?_,by omega,?_,h⟩
   ·show Wi _=_;rw[wr (by omega) (by omega)];omega
   ·show n=_;rw[et,hn];omega
 ·have e:l.take j=l:=List.take_of_length_le (by omega);rw[e]at hn;have:=hk w (zm h);rw[←hn]at this;exact⟨_,rfl,this⟩
abbrev yl(a:zK)(n:B0):Int:=Dz a.by' n
abbrev XN(a:zK)(n:B0):Int:=@id Int (qo a.bk n).2.2.2.2.1
abbrev Ri(a:zK)(n:B0):ze:=(Ys a.fl n (XN a n) (yl a n)).1
abbrev dw(word:B0)(l:List Int):List B0:=l.map λx=>Zy word [ju x.toNat]
def qJ(a:zK)(e:AEv):zK×List B0:=
 if jL a.bk e.name=false then(a,Xo 6)
 else({ a with fl:=Ri a e.name },dw lJ (ob a.fl e.name (yl a e.name))++dw lK (Ys a.fl e.name (XN a e.name) (yl a e.name)).2++[Zy (Zy mY [e.name]) [ju (cnt (λs=>s != 3) (jW (Ri a e.name).l e.name)).toNat]])
def AB [xi w0]{word:B0}{v:Sl}{l:List Int}{X:List B0}{vo:Sl}{si so:Seg}(hr:Rw eI zx 1 v l si)(hl:l.length<1000000)(hX:X.length<1000000)(hb:∀x∈l,0≤x∧x≤9000000000000000000)(hw:word.size≤1000)(ro:Rw eS zc 1 vo X so){k:Sl×Int×Unit→PT}
  (h:St w0 (so::si::E) w) (hk:∀v' s' m w',Rw eS zc 1 v' (X++dw word l) s'→St w0 (s'::si::E) w'→k (v',m,()) w') :
  L.loop (Y:=Sl×Int×Unit) (⟨vo.a,vo.len,vo.cap⟩,0,()) (λy19 again20=>
   L.ite (decide (y19.2.1<((v.len:Nat):Int))) (
    L.idx v.a y19.2.1 v.len 1 λa21=>
    L.load (.one (.int .i64)) a21 λ(x22:Int)=>
    L.new [.int .i64 x22] zx λb23=>
    L.call Pr zR [.string word,.slice (some ⟨b23,0,none⟩) 1 1] (.one (.one (.str))) λ(x24:B0)=>
    L.new [.string x24] zc λb25=>
    L.sem Pr (.one (.one .slice)) (Builtin.append_ #[zj,zj] zj #[.slice y19.1.a y19.1.len y19.1.cap,.slice (some ⟨b25,0,none⟩) 1 1]) λ(s26:Sl)=>
    again20 (⟨s26.a,s26.len,s26.cap⟩,Wi (y19.2.1+1),()))<|
   k y19) w:=by
 have hln:=Rw.len Yy hr;refine zT (λq y w=>∃(j:Nat)(s3:Seg),@Eq Int y.2.1 j∧q+j=l.length∧Rw eS zc 1 y.1 (X++dw word (l.take j)) s3∧St w0 (s3::si::E) w) l.length ⟨0,so,rfl,by simp,by simpa using ro,h⟩ ?_;clear ro;clear h;rintro q ⟨vo,y,⟨⟩⟩ w ⟨j,s3,hy,hq,r3,h⟩ again hag
 (try dsimp only)
 simp only at hy r3;subst hy;refine it (λhb2=>?_) (λhb2=>?_)<;>(try simp only[zB]at hb2)
 ·have hj:j<l.length:=by omega
  have hx:l[j]? = some l[j]:=List.getElem?_eq_getElem hj;have hbx:=hb l[j] (List.getElem_mem hj);have et:dw word (l.take (j+1))=dw word (l.take j)++[Zy word [ju (l[j]).toNat]]:=by unfold dw;rw[List.take_succ,hx,List.map_append];rfl
  generalize l[j]=x at hx et hbx;refine Rw.ix Yy hr (by omega) (by simpa using hj) λa ha=>?_;refine Rw.ld0 Yy h 1 rfl hr ha (x:=x) (by simpa using hx) rfl rfl ?_;refine nw h ?_;clear h;intro b23 w h;refine Qj h (by omega) hbx.1 hbx.2 λw h=>?_;refine nw h ?_;clear h;intro b25 w h;refine Rw.app yh elS h 0 rfl r3 (Zy word [ju x.toNat]) rfl (by simp;omega) (by simp;omega) λv' s3' w r3' h=>?_;refine hag (q-1) _ w (by omega) ⟨j+1,s3',?_,by omega,by rw[et,←List.append_assoc];exact r3',h⟩;show Wi _=_;rw[wr (by omega) (by omega)];omega
 ·have e:l.take j=l:=List.take_of_length_le (by omega);rw[e]at r3;exact hk vo s3 _ w r3 h
def eN [xi w0](h:St w0 E w)(i:Nat){b:Nat}{a:zK}{s:Seg}(hi:nth E i=some s)(hs:yV b a s){e:AEv}(hroom:a.fl.room<1000000)(hlast:a.fl.last+a.fl.room<4611686018427387904)(hname:e.name.size≤100000)
  (hmade:∀x∈ob a.fl e.name (yl a e.name),0≤x∧x≤9000000000000000000) (hmn:(ob a.fl e.name (yl a e.name)).length<100000) (hgone:∀x∈(Ys a.fl e.name (XN a e.name) (yl a e.name)).2,0≤x∧x≤9000000000000000000) (hgn:(Ys a.fl e.name (XN a e.name) (yl a e.name)).2.length<100000)
  (hpn:(jW (Ri a e.name).l e.name).length<1000000) {k:Sl→PT} (hk:Hk w0 E i b (qJ a e) k):Jg (some ⟨b,0,none⟩) e.t (slK k) w:=by
 have hs0:=hs;obtain⟨p,sg,sf,ss,sk,sr,sm,Q,R,rfl⟩:=hs;unfold Jg;unfold qJ at hk;have h:=(h.front i hi).split8;refine nw h ?_;clear h;intro b1 w h
 refine Zz (λ(z:Addr×Bool×Unit) w=>∃b8:Nat,z=(⟨b8,0,none⟩,jL a.bk e.name,())∧
  St w0 ([Cl b8 zU (rvC (qo a.bk e.name))]::[Cl b1 zq (eEw e)]::VD b p a.now::sg::sf::ss::sk::sr::sm::(Q.map BsE.sg).flatten::Zv E i) w) (λk2 hk2=>?_) ?_
 ·(dsimp only[zd,List.cons_append,List.nil_append]at h;refine dr h ?_;clear h;intro w h;refine nn ?_;refine ldC h ?_;refine ldC h ?_)
  refine kI ?_ ?_
  ·refine GM h 5 rfl R.bk λw h=>?_;refine nw h ?_;clear h;intro b8 w h
   (refine ckC h ?_;refine ckC h ?_;refine stC h ?_;clear h;intro w h;dsimp only[zJ,zd]at h)
   exact hk2 _ w ⟨b8,rfl,h⟩
  ·refine nw h ?_;clear h;intro b8 w h
   (refine ckC h ?_;refine ckC h ?_)
   refine GM h 6 rfl R.bk λw h=>?_
   (refine stC h ?_;clear h;intro w h;dsimp only[zJ,zd]at h)
   exact hk2 _ w ⟨b8,rfl,h⟩
 clear h;rintro z w ⟨b8,rfl,h⟩
 (try dsimp only)
 refine it (λhc=>?_) (λhc=>?_)
 ·have hc:jL a.bk e.name=false:=by simpa using hc
  rw[if_pos hc]at hk;refine XD h λv s w r h=>?_;exact⟨v,rfl,hk v s _ w r hs0 (jC i hi (Yf (Yf h)))⟩
 have hc:¬jL a.bk e.name=false:=by simpa using hc
 rw[if_neg hc]at hk
 (refine dr h ?_;clear h;intro w h;refine nn ?_;refine ldC h ?_;refine ldC h ?_;rw[JF];refine ldC h ?_;refine ldC h ?_)
 refine eJ h (i:=2) (j:=8) (l:=9) rfl rfl rfl R.mp ?_
 (refine ckC h ?_;refine ckC h ?_;refine ckC h ?_)
 have ew:Dz (Q.map BsE.ka) e.name=yl a e.name:=by unfold yl;rw[R.ab]
 rw[ew];have hF0:=R.fl;unfold Ri at *
 refine Iv (conc:=XN a e.name) h 4 rfl R.fl (by omega) hlast λv1 v2 sf' s1 s2 w hF r1 r2 h=>?_;dsimp only[zd]at h;generalize Ys a.fl e.name (XN a e.name) (yl a e.name)=g at *
 generalize ob a.fl e.name (yl a e.name)=made at *
 obtain⟨F,gone⟩:=g;dsimp only at *
 have h:=yO h;refine AB (vo:=⟨none,0,0⟩) (X:=[]) r1 (by omega) (by simp) hmade (by decide) Rw.nil h.nil λv3 s3 m w r3 h=>?_;have h:=ZL (ZL (yO h));refine AB r2 (by omega) (by simp[dw];omega) hgone (by decide) r3 h λv4 s4 m w r4 h=>?_
 (refine ldC h ?_)
 refine Nc h (i:=5) (j:=7) rfl rfl hF (fv:=⟨.func Jz,#[],#[]⟩) (q:=λs=>s != 3) hpn (λ{E' w x k} h hk=>?_) λw h=>?_
 ·refine jK (fs:=#[]) (cs:=#[]) GN (GQ x) ?_;unfold vk;exact⟨_,rfl,hk w h⟩
 (refine ldC h ?_)
 have hcn:0≤cnt (λs=>s != 3) (jW F.l e.name)∧cnt (λs=>s != 3) (jW F.l e.name)≤1000000:=by
  unfold cnt;have:=List.length_filter_le (λx:Int×Int×Int=>(λs=>s != 3) x.2.1) (jW F.l e.name);refine⟨Int.natCast_nonneg _,?_⟩;have h2:((jW F.l e.name).filter λx:Int×Int×Int=>(λs=>s != 3) x.2.1).length≤1000000:=by omega
  exact Int.ofNat_le.2 h2
 generalize cnt (λs=>s != 3) (jW F.l e.name)=n at *
 refine nw h ?_;clear h;intro b38 w h;refine vf h (by decide) (by omega) λw h=>?_;refine nw h ?_;clear h;intro b40 w h;refine Qj h (by rw[Vc];have:mY.size=5:=rfl;omega) hcn.1 (by omega) λw h=>?_;refine nw h ?_;clear h;intro b42 w h;refine Rw.app yh elS h 0 rfl r4 (Zy (Zy mY [e.name]) [ju n.toNat]) rfl (by simp[dw];omega) (by simp[dw];omega) λv5 s5 w r5 h=>?_;refine⟨v5,rfl,hk v5 s5 _ w (by simpa using r5) ⟨p,sg,sf',ss,sk,sr,sm,Q,⟨R.gt,hF,R.sh,R.bk,R.ro,R.mp,R.ea,R.ab⟩,rfl⟩ (jC i hi ?_)⟩;exact Yf (Yf (Yf (Yf h)))
def Uu(G:Ze)(rev:B0):Int:=((VN G rev).length:Int)+(jI G.all rev).length
def Gn(G:Ze)(m:List (B0×OZ))(rev:B0):List (B0×OZ):=match zr m rev with
 | some x=>zX m rev ⟨x.xs++[if 0>Uu G rev then 0 else Uu G rev],x.want,x.left⟩
 | none=>m
abbrev tkG(a:zK):Ze×List yr:=Qm a.gt (a.now+1)
def UI(a:zK):zK×List B0:=
 if a.now≥1048576 then(a,Xo 9)
 else({ a with gt:=(tkG a).1,now:=a.now+1,by':=(XB a.bk).foldl (Gn (tkG a).1) a.by' },Zy TY [ju (a.now+1).toNat]::(tkG a).2.map XL)
def eM [xi w0](h:St w0 E w)(i:Nat){b:Nat}{a:zK}{s:Seg}(hi:nth E i=some s)(hs:yV b a s){e:AEv}(hnow:0≤a.now)(hwk:GWk a.gt)(hfl:(tkG a).2.length<90000000)(hf:∀f∈(tkG a).2,f.Ok)
  (hby:∀rev∈XB a.bk,(zr a.by' rev).isSome=true) (hxs:∀x∈a.by',x.2.xs.length<1000000000) (hfb:a.bk.all.length<1000000) {k:Sl→PT} (hk:Hk w0 E i b (UI a) k):Qq (some ⟨b,0,none⟩) e.t (slK k) w:=by
 have hs0:=hs;obtain⟨p,sg,sf,ss,sk,sr,sm,Q,R,rfl⟩:=hs;unfold Qq;unfold UI tkG at hk;unfold tkG at hfl hf;have h:=(h.front i hi).split8;refine nw h ?_;clear h;intro b1 w h
 (dsimp only[zd,List.cons_append,List.nil_append]at h;refine nn ?_;refine ldC h ?_)
 refine it (λhc=>?_) (λhc=>?_)<;>(try simp only[zB]at hc)
 ·rw[if_pos hc]at hk;refine XD h λv s w r h=>?_;exact⟨v,rfl,hk v s _ w r hs0 (jC i hi (Yf h))⟩
 rw[if_neg hc]at hk
 (refine nn ?_;refine ldC h ?_;refine nn ?_;refine stC h ?_;clear h;intro w h;dsimp only[zJ,zd]at h;refine dr h ?_;clear h;intro w h;refine nn ?_;refine ldC h ?_;refine nn ?_;refine ldC h ?_)
 rw[wr (by omega) (by omega)]at h ⊢;have h:=ZL h;refine z1C h R.gt hwk hfl λv sv sg' w hr hG h=>?_;generalize Qm a.gt (a.now+1)=g at *
 refine za (uc _) ?_;unfold xy
 (refine nn ?_;refine ldC h ?_)
 refine sE h 6 rfl R.bk λv2 s2 w r2 h=>⟨v2,rfl,?_⟩;have hnl:(XB a.bk).length<1000000:=by unfold XB;rw[jp,List.length_map];exact hfb
 generalize XB a.bk=l at *
 have hln:=Rw.len yh r2
 let EV:Seg:=[Cl b1 zq (eEw e)]
 refine zT (λm y w=>∃(j:Nat)(sg2:Seg)(Q2:List BsE),@Eq Int y.1 j∧m+j=l.length∧GtS p.g p.f g.1 sg2∧Q2.map BsE.kp=Q.map BsE.kp∧(∀x∈Q2,x.ok)∧Q2.map BsE.ka=(l.take j).foldl (Gn g.1) a.by'∧(∀x∈Q2,x.x.xs.length<1000000000+j)∧
  St w0 (s2::sv::sg2::EV::VD b p (a.now+1)::sf::ss::sk::sr::sm::(Q2.map BsE.sg).flatten::Zv E i) w) l.length ⟨0,sg',Q,rfl,rfl,hG,rfl,R.ea,R.ab.symm,λx hx=>by have:=hxs _ (by rw[R.ab];exact List.mem_map_of_mem hx);simpa using this,h⟩ ?_
 clear h;rintro m ⟨y,⟨⟩⟩ w ⟨j,sg2,Q2,hy,hm,hG2,ekp,ok2,eka,hx2,h⟩ again hag
 (try dsimp only)
 simp only at hy;subst hy;refine it (λhb=>?_) (λhb=>?_)<;>(try simp only[zB]at hb)
 ·have hj:j<l.length:=by omega
  have hx:l[j]? = some l[j]:=List.getElem?_eq_getElem hj;have hin:(zr (Q2.map BsE.ka) l[j]).isSome=true:=by
   have h1:=hby l[j] (List.getElem_mem hj);rw[R.ab,Pg,Option.isSome_map]at h1;have h2:(zr (Q2.map BsE.kp) l[j]).isSome=true:=by rw[ekp,Pf,Option.isSome_map];exact h1
   rw[Pf,Option.isSome_map]at h2;rw[Pg,Option.isSome_map];exact h2
  have et:(l.take (j+1)).foldl (Gn g.1) a.by'=Gn g.1 (Q2.map BsE.ka) l[j]:=by rw[eka,List.take_succ,hx,List.foldl_append];rfl
  generalize l[j]=rev at *
  have hm2:MpS Value.string Value.pointer p.m (Q2.map BsE.kp) sm:=by rw[ekp];exact R.mp
  rw[Pg,Option.isSome_map]at hin;obtain⟨x,hfx⟩:=Option.isSome_iff_exists.1 hin;have hmk:=hm2.nd;refine Rw.ix yh r2 (by omega) (by simpa using hj) λea ha=>?_;refine Rw.ld0 yh h 0 rfl r2 ha (x:=rev) (by simpa using hx) rfl rfl ?_
  (refine dr h ?_;clear h;intro w h;refine nn ?_;refine ldC h ?_)
  have hlk:((zr (Q2.map BsE.kp) rev).map λx:Option Addr=>x).getD none=some ⟨x.b,0,none⟩:=by rw[Pf,hfx];rfl
  refine MpS.get ve TO En (λx:Option Addr=>x) (λ_=>rfl) h 9 rfl hm2 ?_;rw[hlk];obtain⟨A,B,rfl,hxk⟩:=KX hfx;have h:=uA h;have h:=h.pick.split
  (refine nn ?_;refine ldC h ?_;refine nn ?_;refine ldC h ?_)
  have h:=Js h;refine sw h hG2 λsg3 w hG3 h=>?_
  (refine ckC h ?_)
  refine MpS.chk ve TO (z:=.pointer none) En h 12 rfl hm2 (by rw[Pf,hfx];rfl) ?_
  (refine ckC h ?_)
  have hox:=ok2 x (by simp);have hlx:=hx2 x (by simp);refine z1B h 2 rfl hox (by omega) λsgg w hga h=>?_;dsimp only[zd]at h;have hbu:((VN g.1 rev).length:Int)+(jI g.1.all rev).length=Uu g.1 rev:=rfl;rw[hbu]at hga;have h:=ZL (ZL h);have h:=h.glue;have h:=yO (ZL h);have h:St w0 (BsE.sg ⟨x.k,x.b,x.g,⟨x.x.xs++[if 0>Uu g.1 rev then 0 else Uu g.1 rev],x.x.want,x.x.left⟩,sgg⟩::((A++B).map BsE.sg).flatten::sg3::s2::sv::EV::VD b p (a.now+1)::sf::ss::sk::sr::sm::Zv E i) w:=h;have h:=h.place;have et2:=tZ (rev:=rev) (y:=⟨x.x.xs++[if 0>Uu g.1 rev then 0 else Uu g.1 rev],x.x.want,x.x.left⟩) (sgg:=sgg) hxk (B:=B) (A:=A) (by simpa [List.map_map,Function.comp_def]using hmk);refine hag (m-1) _ w (by omega) ⟨j+1,sg3,A++⟨x.k,x.b,x.g,⟨x.x.xs++[if 0>Uu g.1 rev then 0 else Uu g.1 rev],x.x.want,x.x.left⟩,sgg⟩::B,?_,by omega,hG3,?_,?_,?_,?_,?_⟩
  ·show Wi _=_;rw[wr (by omega) (by omega)];omega
  ·rw[←ekp];simp
  ·intro y hy;rcases List.mem_append.1 hy with hy | hy
   ·exact ok2 y (by simp[hy])
   ·rcases List.mem_cons.1 hy with rfl | hy
    ·exact hga
    ·exact ok2 y (by simp[hy])
  ·rw[et,et2];unfold Gn;rw[Pg,hfx];rfl
  ·intro y hy;rcases List.mem_append.1 hy with hy | hy
   ·have:=hx2 y (by simp[hy]);omega
   ·rcases List.mem_cons.1 hy with rfl | hy
    ·simp;omega
    ·have:=hx2 y (by simp[hy]);omega
  ·have h:=uA (uA (Jo (uA (uA (uA (uA (uA (uA (uA h)))))))));exact h
 ·have ej:l.take j=l:=List.take_of_length_le (by omega);rw[ej]at eka
  (refine nn ?_;refine ldC h ?_)
  refine nw h ?_;clear h;intro b29 w h;refine Qj h (by decide) (by omega) (by omega) λw h=>?_;refine nw h ?_;clear h;intro b31 w h;have h:=yO (ZL h);refine cP h (l:=[Zy TY [ju (a.now+1).toNat]]) hr hf (by omega) (by simp) (Rw.lit b31 [_] yh rfl rfl (by simp[maxLen])) λv s w r h=>?_;refine⟨v,rfl,hk v s _ w r ⟨p,sg2,sf,ss,sk,sr,sm,Q2,⟨hG2,R.fl,R.sh,R.bk,R.ro,by rw[ekp];exact R.mp,ok2,eka.symm⟩,rfl⟩ (jC i hi ?_)⟩;have h:=Yf (VQ (ko h));have h:=ZL (ZL (yO h));exact h
end Go.Proofs.YtimahgbgejngiaaGreatDoor
namespace Go.Proofs.YtimahgbgejngiaaGreatDoor
open Go.Dm
def z5d{P:Program}{r:RT}{s:Sem Value}{k:r.T→PT}{w:World}(x:r.T)(h:s.run P w = .ok (r.val x) w)(hk:k x w):L.semR P r s k w:=⟨x,h,hk⟩
def ar{P:Program}{fv:Value}{args:List Value}{r:RT}{k k':r.T→PT}{w:World}(h:L.callV P fv args r k w)(hm:∀x w,k x w→k' x w):L.callV P fv args r k' w:=Jw.mono h λ_ _ ⟨x,e,hk⟩=>⟨x,e,hm x _ hk⟩
attribute [local irreducible] L.load L.store L.chk L.new L.nonnil L.guard L.ite L.draw L.idx L.sem L.semR L.semU L.chkSem L.next L.call L.callV L.join L.alts L.loop L.begin L.endRound L.range
variable {w0 w:World}{E:List Seg}
def mV(b:Nat)(f:FuncId):Value:=.func (.func f) #[.pointer (some ⟨b,0,none⟩)] #[]
def doM:List (Int×FuncId):=[(1,Yp),(2,YD),(3,Qe),(4,Yq),(5,YX),(6,jP),(7,ym),(8,ym),(9,YV),(10,YB),(11,YW),(12,YC),(13,Yi)]
def UF:Pr.underlying zy=some (.map zx jE):=by kernel_rfl
def z5Q(w:World):(zeroValue jE).run Pr w = .ok .nilFunc w:=by
 have h:(Pr.info? jE).map (·.zero)=some (some .nilFunc):=by kernel_rfl
 cases hi:Pr.info? jE with
 | none=>rw[hi]at h;cases h
 | some i=>rw[hi]at h;simp only[Option.map_some,Option.some.injEq]at h;exact zv hi h w
def z6f(h:St w0 E w){b:Nat}{e:AEv}(hb:ZH e=0)(hn:e.kind=12∨e.kind=13→Ph e.name)(rd:RdE w0 E eT e.v e.r.ts)(hvc:e.v.len≤e.v.cap)(hrv:∀t∈e.r.ts,VG t.1){f:FuncId}(hf:zr doM e.kind=some f){k:Sl→PT}
  (hh:∀(s1 s2:Seg) w',St w0 (s1::s2::E) w'→L.callV Pr (.func (.func f) #[.pointer (some ⟨b,0,none⟩)] #[]) [evV e] (.one (.one .slice)) k w'):L.call Pr zl [pO b,evV e] (.one (.one .slice)) k w:=by
 refine za (Pm _ e.t) ?_;unfold om;refine nw h ?_;clear h;intro b1 w h
 (dsimp only[zd,List.cons_append,List.nil_append]at h;refine laC h ?_)
 refine lj (e:=e) h hn (λw h=>rd w (zm h)) hvc hrv λw h=>?_;refine itF (by simpa using hb) ?_;refine MpS.new h KI (mV b) λr s w hm h=>?_;refine MpS.set mkI UF h 0 rfl hm Yp rfl λs w hm h=>?_;refine MpS.set mkI UF h 0 rfl hm YD rfl λs w hm h=>?_;refine MpS.set mkI UF h 0 rfl hm Qe rfl λs w hm h=>?_;refine MpS.set mkI UF h 0 rfl hm Yq rfl λs w hm h=>?_;refine MpS.set mkI UF h 0 rfl hm YX rfl λs w hm h=>?_;refine MpS.set mkI UF h 0 rfl hm jP rfl λs w hm h=>?_;refine MpS.set mkI UF h 0 rfl hm ym rfl λs w hm h=>?_;refine MpS.set mkI UF h 0 rfl hm ym rfl λs w hm h=>?_;refine MpS.set mkI UF h 0 rfl hm YV rfl λs w hm h=>?_;refine MpS.set mkI UF h 0 rfl hm YB rfl λs w hm h=>?_;refine MpS.set mkI UF h 0 rfl hm YW rfl λs w hm h=>?_;refine MpS.set mkI UF h 0 rfl hm YC rfl λs w hm h=>?_;refine MpS.set mkI UF h 0 rfl hm Yi rfl λs w hm h=>?_;have hm:MpS KI (mV b) r doM s:=hm;dsimp only[zd]at h
 (refine ldC h ?_)
 refine z5d ⟨.func f,#[.pointer (some ⟨b,0,none⟩)],#[]⟩ ?_ ?_
 ·rw[MpS.get_run mkI UF (z5Q w) h 0 rfl hm false,hf];rfl
 (refine laC h ?_)
 exact ar (hh s _ w h) λx w hk=>⟨x,rfl,hk⟩
def fu(h:St w0 E w)(i:Nat){b:Nat}{a:zK}{s:Seg}(hi:nth E i=some s)(hs:yV b a s){e:AEv}(hb:ZH e=0)(hn:e.kind=12∨e.kind=13→Ph e.name)(rd:RdE w0 E eT e.v e.r.ts)(hvc:e.v.len≤e.v.cap)(hrv:∀t∈e.r.ts,VG t.1)
  {f:FuncId} (hf:zr doM e.kind=some f) {r:zK×List B0} {F:(Value→PT)→PT} (hE:ZN Pr f) (hC:∀{K:Value→PT}{w:World},F K w→Calls Pr f (#[.pointer (some ⟨b,0,none⟩)]++[evV e].toArray++ #[]) w λe w'=>∃v,e = .returned v∧K v w')
  (hh:∀{E2:List Seg}{i2:Nat}{w:World}{k:Sl→PT},St w0 E2 w→nth E2 i2=some s→(∀w,St w0 (Zv E2 i2) w→St w0 (Zv E i) w)→Hk w0 E2 i2 b r k→F (slK k) w) {k:Sl→PT} (hk:Hk w0 E i b r k) :
  L.call Pr zl [pO b,evV e] (.one (.one .slice)) k w:=by
 refine z6f h hb hn rd hvc hrv hf λs1 s2 w h=>?_;refine jK (F:=F) hE hC ?_;exact hh (E2:=s1::s2::E) (i2:=i+2) h hi (λw h=>zm (zm h)) λv sv s' w' r hs h=>hk v sv s' w' r hs (Yf (Yf h))
end Go.Proofs.YtimahgbgejngiaaGreatDoor
namespace Go.Proofs.YtimahgbgejngiaaGreatDoor
open Go.Dm
attribute [local irreducible] L.load L.store L.chk L.new L.nonnil L.guard L.ite L.draw L.idx L.sem L.semR L.semU L.chkSem L.next L.call L.callV L.join L.alts L.loop L.begin L.endRound L.range
variable {w0 w:World}{E:List Seg}
def KK{p0 p1:Int}(h:0<p1)(hp:p1≤2147483648){k:Int→PT}(hk:k (p0%p1) w):L.call Pr yW [I p0,I p1] (.one (.one (.int .i64))) k w:=by
 refine za (ME p0 p1) ?_;unfold kV;refine gd (by omega) ?_;have h1:=Int.emod_nonneg p0 (by omega:p1≠0);have h2:=Int.emod_lt_of_pos p0 h;have e:=Cy p0 p1 h;refine Zz (λz w'=>z.1=p0%p1∧w'=w) (λk' hk'=>?_) (λy w' ⟨h1,h2⟩=>by subst h2;exact⟨_,rfl,by rw[h1];exact hk⟩);refine it (λhb=>?_) (λhb=>?_)<;>(try simp only[zB]at hb)
 ·refine hk' _ _ ⟨?_,rfl⟩;rw[e]at hb;dsimp only;rw[e];split at hb<;>rename_i hc
  ·omega
  ·rw[if_neg hc,wr]<;>omega
 ·refine hk' _ _ ⟨?_,rfl⟩;rw[e]at hb;dsimp only;rw[e];split at hb<;>rename_i hc
  ·rw[if_pos hc]
  ·omega
def RB(n:Int):B0:=([QV,Wj,Wk][(n%3).toNat]?).getD s_
def SC(c:Cfg)(n:Int):Cfg:=(RB n,c.2.1%256,1+c.2.2.1%8,c.2.2.2.1%(1+c.2.2.2.2.1%10+1),1+c.2.2.2.2.1%10,c.2.2.2.2.2.1%31,())
def eY(h:St w0 E w){c:Cfg}{n:Int}{k:z0I.T→PT}(hk:∀w',St w0 E w'→k (SC c n) w'):L.call Pr uk [.agg (Cfg.cells c).toArray,I n] (.one z0I) k w:=by
 refine za (MF c n) ?_;unfold kW;refine nw h ?_;clear h;intro b1 w h;refine nw h ?_;clear h;intro b2 w h;refine nw h ?_;clear h;intro b3 w h;refine KK (by decide) (by decide) ?_;have h1:=Int.emod_nonneg n (by decide:(3:Int)≠0);have h2:=Int.emod_lt_of_pos n (by decide:(0:Int)<3);have hr:Rw eS zc 1 ⟨some ⟨b3,0,none⟩,3,3⟩ [QV,Wj,Wk] [Cl b3 zc [.string QV,.string Wj,.string Wk]]:=Rw.lit b3 _ yh rfl rfl (by simp[maxLen]);have hx:[QV,Wj,Wk][(n%3).toNat]? = some (RB n):=by
  unfold RB;have:(n%3).toNat<3:=by omega
  rw[List.getElem?_eq_getElem (by simpa using this)];rfl
 refine Rw.ix (v:=⟨some ⟨b3,0,none⟩,3,3⟩) (l:=[QV,Wj,Wk]) yh hr h1 (show(n%3).toNat<3 by omega) λa ha=>?_;refine Rw.ld0 yh h 0 rfl hr ha hx rfl rfl ?_
 (refine stC h ?_;clear h;intro w h;dsimp only[zJ,zd]at h;refine ldC h ?_)
 refine KK (by decide) (by decide) ?_
 (refine stC h ?_;clear h;intro w h;dsimp only[zJ,zd]at h;refine ldC h ?_)
 refine KK (by decide) (by decide) ?_;rw[wr (by omega) (by omega)]
 (refine stC h ?_;clear h;intro w h;dsimp only[zJ,zd]at h;refine ldC h ?_)
 refine KK (by decide) (by decide) ?_;rw[wr (by omega) (by omega)]
 (refine stC h ?_;clear h;intro w h;dsimp only[zJ,zd]at h;refine ldC h ?_;refine ldC h ?_)
 rw[wr (by omega) (by omega)];refine KK (by omega) (by omega) ?_
 (refine stC h ?_;clear h;intro w h;dsimp only[zJ,zd]at h;refine ldC h ?_)
 refine KK (by decide) (by decide) ?_
 (refine stC h ?_;clear h;intro w h;dsimp only[zJ,zd]at h;refine laC h ?_;refine stC h ?_;clear h;intro w h;dsimp only[zJ,zd]at h;refine laC h ?_)
 exact⟨SC c n,rfl,hk w (zm (zm (zm h)))⟩
def HG(n:Int):yp (RB n).data.toList 16=true:=by
 have h1:=Int.emod_nonneg n (by decide:(3:Int)≠0);have h2:=Int.emod_lt_of_pos n (by decide:(0:Int)<3);unfold RB;have:(n%3).toNat=0∨(n%3).toNat=1∨(n%3).toNat=2:=by omega
 rcases this with h | h | h<;>rw[h]<;>decide
def HI{nm:B0}(im co mi ma gr:Int):OT (nm,im%256,1+co%8,mi%(1+ma%10+1),1+ma%10,gr%31,())=true:=by
 have h1:=Int.emod_nonneg mi (show 1+ma%10+1≠0 by omega);have h2:=Int.emod_lt_of_pos mi (show 0<1+ma%10+1 by omega);have e:OT (nm,im%256,1+co%8,mi%(1+ma%10+1),1+ma%10,gr%31,())=(decide (0≤im%256∧im%256≤255)&&(decide (1≤1+co%8∧1+co%8≤8)&&(decide (1≤1+ma%10∧1+ma%10≤10)&&(decide (0≤mi%(1+ma%10+1)∧mi%(1+ma%10+1)≤1+ma%10)&&decide (0≤gr%31∧gr%31≤30))))):=rfl;rw[e];simp only[Bool.and_eq_true,decide_eq_true_eq];omega
def z0m(c:Cfg)(n:Int):XJ (SC c n)=0:=by
 unfold XJ;rw[if_pos (show yp (SC c n).1.data.toList 16=true from HG n),if_pos];exact HI c.2.1 c.2.2.1 c.2.2.2.1 c.2.2.2.2.1 c.2.2.2.2.2.1
def UP(room line pat:Int):zK:=⟨⟨[],[],0⟩,⟨[],[]⟩,[],⟨room,0,[]⟩,⟨[],[],line,pat⟩,[],0⟩
def FU{n a b:Int}{k:Bool→PT}(hk:k (wiB n a b) w):L.call Pr Jr [I n,I a,I b] (.one (.one .bool)) k w:=by
 refine za (Mu n a b) ?_;unfold kL;unfold wiB at hk;refine it (λh1=>?_) (λh1=>?_)
 ·have h1:decide (a≤n)=true:=h1;rw[h1]at hk;exact⟨_,rfl,hk⟩
 ·have h1:decide (a≤n)=false:=h1;rw[h1]at hk;exact⟨_,rfl,hk⟩
def ne(room line pat:Int):Bool:=wiB room 1 30&&(wiB line 0 8&&wiB pat 1 50)
def Nb(h:St w0 E w){room line pat:Int}{k:Option Addr×Int×Unit→PT}(h0:ne room line pat=false→∀w',St w0 E w'→k (none,2,()) w')
  (h1:ne room line pat=true→∀b s w',yV b (UP room line pat) s→St w0 (s::E) w'→k (some ⟨b,0,none⟩,0,()) w'):L.call Pr UR [I room,I line,I pat] (.tup [.one .ptr,.one (.int .i64)]) k w:=by
 refine za (LK _ _ _) ?_;unfold Tm;unfold ne at h0 h1;refine FU ?_
 cases c1:wiB room 1 30 with
 | false=>exact itT rfl ⟨(none,2,()),rfl,h0 (by rw[c1];rfl) w h⟩
 | true=>
 refine itF rfl ?_;refine FU ?_
 cases c2:wiB line 0 8 with
 | false=>exact itT rfl ⟨(none,2,()),rfl,h0 (by rw[c1,c2];rfl) w h⟩
 | true=>
 refine itF rfl ?_;refine FU ?_
 cases c3:wiB pat 1 50 with
 | false=>exact itT rfl ⟨(none,2,()),rfl,h0 (by rw[c1,c2,c3];rfl) w h⟩
 | true=>
 refine itF rfl ?_;have hl:0≤line∧line≤8:=by unfold wiB at c2;simpa using c2
 refine z3B h λbf sf w hF h=>?_;refine z1j h λbs ss w hS h=>?_;refine z1J h λbk sk w hK h=>?_;refine z1m h λbr sr w hR h=>?_;refine z3x h (bf:=bf) hl.1 (by omega) λbg sg w hG h=>?_;refine MpS.new h Value.string Value.pointer λr sm w hm h=>?_;refine nw h ?_;clear h;intro b w h;have h:St w0 (VD b ⟨bs,bk,br,bf,bg,r⟩ 0::sm::sg::sr::sk::ss::sf::E) w:=h;refine⟨(some ⟨b,0,none⟩,0,()),rfl,h1 (by rw[c1,c2,c3];rfl) b _ w ⟨⟨bs,bk,br,bf,bg,r⟩,sg,sf,ss,sk,sr,sm,[],⟨hG,hF,hS,hK,hR,hm,by simp,rfl⟩,rfl⟩ ?_⟩;have h:=jB (jB (jB (Js (Yh (YA (yO h))))));have h:St w0 (VD b ⟨bs,bk,br,bf,bg,r⟩ 0::sg::sf::ss::sk::sr::sm::(([]:List BsE).map BsE.sg).flatten::E) w:=h.eq (by simp);exact h.glue8
def ke:ARt:=⟨s_,s_,[],0⟩
abbrev Rr:Sl:=⟨none,0,0⟩
def Iw [xi w0](h:St w0 E w)(i:Nat){b:Nat}{a:zK}{s:Seg}(hi:nth E i=some s)(hs:yV b a s){e:AEv}(hkd:e.kind=9)(hb:ZH e=0)(rd:RdE w0 E eT e.v e.r.ts)(hvc:e.v.len≤e.v.cap)(hrv:∀t∈e.r.ts,VG t.1)
  (hnow:0≤a.now) (hwk:GWk a.gt) (hfl:(tkG a).2.length<90000000) (hf:∀f∈(tkG a).2,f.Ok)
  (hby:∀rev∈XB a.bk,(zr a.by' rev).isSome=true) (hxs:∀x∈a.by',x.2.xs.length<1000000000) (hfb:a.bk.all.length<1000000) {k:Sl→PT} (hk:Hk w0 E i b (UI a) k) :
  L.call Pr zl [pO b,evV e] (.one (.one .slice)) k w:=
 fu h i hi hs hb (λhh=>by omega) rd hvc hrv (f:=YV) (by rw[hkd];rfl) mq (mB (some ⟨b,0,none⟩) e.t)
  (λh hi _ hk=>eM h _ hi hs hnow hwk hfl hf hby hxs hfb hk) hk
abbrev xx(kind:Int):AEv:=⟨kind,s_,s_,0,0,kC,ke,Rr⟩
def iT:ZH (xx 9)=0:=by decide +kernel
def aM [xi w0](h:St w0 E w)(i:Nat){b:Nat}{a:zK}{s:Seg}(hi:nth E i=some s)(hs:yV b a s){e:AEv}(hkd:e.kind=1)(hb:ZH e=0)(rd:RdE w0 E eT e.v e.r.ts)(hvc:e.v.len≤e.v.cap)(hrv:∀t∈e.r.ts,VG t.1)
  (hn:a.sh.n<900000000) (hsz:e.c.1.size≤1000000) {k:Sl→PT} (hk:Hk w0 E i b (vM a e) k):L.call Pr zl [pO b,evV e] (.one (.one .slice)) k w:=
 fu h i hi hs hb (λhh=>by omega) rd hvc hrv (f:=Yp) (by rw[hkd];rfl) GO (GR (some ⟨b,0,none⟩) e.t) (λh hi _ hk=>bI h _ hi hs hn hsz hk) hk
def Ee [xi w0](h:St w0 E w)(i:Nat){b:Nat}{a:zK}{s:Seg}(hi:nth E i=some s)(hs:yV b a s){e:AEv}(hkd:e.kind=2)(hb:ZH e=0)(rd:RdE w0 (Zv E i) eT e.v e.r.ts)(hvc:e.v.len≤e.v.cap)(h0:e.v.a=none→e.r.ts = [])(hrv:∀t∈e.r.ts,VG t.1)
  (hn:a.sh.n<900000000) (hsz:e.r.name.size≤1000000) (hfew:a.sh.Few) {k:Sl→PT} (hk:Hk w0 E i b (ge a e) k):L.call Pr zl [pO b,evV e] (.one (.one .slice)) k w:=
 fu h i hi hs hb (λhh=>by omega) (λw h=>rd w (h.del i hi)) hvc hrv (f:=YD) (by rw[hkd];rfl) fT (fY (some ⟨b,0,none⟩) e.t) (λh hi hd hk=>aE h _ hi hs hn hsz hfew (λw h=>rd w (hd w h)) hvc h0 hrv hk) hk
def Ed [xi w0](h:St w0 E w)(i:Nat){b:Nat}{a:zK}{s:Seg}(hi:nth E i=some s)(hs:yV b a s){e:AEv}(hkd:e.kind=10)(hb:ZH e=0)(rd:RdE w0 E eT e.v e.r.ts)(hvc:e.v.len≤e.v.cap)(hrv:∀t∈e.r.ts,VG t.1)
  (hst:(jZ a.sh e.name).2.2.2.1=true→yp (jZ a.sh e.name).1.1.data.toList 16=true∧1≤@id Int (jZ a.sh e.name).2.2.1∧@id Int (jZ a.sh e.name).2.2.1<100∧@id Int (jZ a.sh e.name).1.2.2.2.1≤1000000) (hf:a.bk.all.length<999999)
  {k:Sl→PT} (hk:Hk w0 E i b (VC a e) k):L.call Pr zl [pO b,evV e] (.one (.one .slice)) k w:=
 fu h i hi hs hb (λhh=>by omega) rd hvc hrv (f:=YB) (by rw[hkd];rfl) fR (fW (some ⟨b,0,none⟩) e.t) (λh hi _ hk=>aC h _ hi hs hst hf hk) hk
def Iz [xi w0](h:St w0 E w)(i:Nat){b:Nat}{a:zK}{s:Seg}(hi:nth E i=some s)(hs:yV b a s){e:AEv}(hkd:e.kind=5)(hb:ZH e=0)(rd:RdE w0 E eT e.v e.r.ts)(hvc:e.v.len≤e.v.cap)(hrv:∀t∈e.r.ts,VG t.1)
  (hfew:Jq a.fl) (hn:a.gt.all.length<80000000) (hl:a.gt.lines.length<90000000) (hf:∀f∈(Yu a.fl a.gt e.n).2.2.1,f.Ok) (hfl:(Yu a.fl a.gt e.n).2.2.1.length<100000000)
  {k:Sl→PT} (hk:Hk w0 E i b (Vs a e) k):L.call Pr zl [pO b,evV e] (.one (.one .slice)) k w:=
 fu h i hi hs hb (λhh=>by omega) rd hvc hrv (f:=YX) (by rw[hkd];rfl) mw (mE (some ⟨b,0,none⟩) e.t) (λh hi _ hk=>eW h _ hi hs hfew hn hl hf hfl hk) hk
def z3C [xi w0](h:St w0 E w)(i:Nat){b:Nat}{a:zK}{s:Seg}(hi:nth E i=some s)(hs:yV b a s){e:AEv}(hkd:e.kind=6)(hb:ZH e=0)(rd:RdE w0 E eT e.v e.r.ts)(hvc:e.v.len≤e.v.cap)(hrv':∀t∈e.r.ts,VG t.1)
  (he:0≤e.n∧e.n≤9000000000000000000) (hrv:(fOf (jJ a.fl e.n).1.l e.n).size≤1000000) (hfew:Jq (jJ a.fl e.n).1) (hn:a.gt.all.length<80000000) (hl:a.gt.lines.length<90000000)
  (hf:∀f∈(kc a e).2.2,f.Ok) (hfl:(kc a e).2.2.length<100000000) {k:Sl→PT} (hk:Hk w0 E i b (gb a e) k):L.call Pr zl [pO b,evV e] (.one (.one .slice)) k w:=
 fu h i hi hs hb (λhh=>by omega) rd hvc hrv' (f:=jP) (by rw[hkd];rfl) Pi (Pl (some ⟨b,0,none⟩) e.t) (λh hi _ hk=>z1e h _ hi hs he hrv hfew hn hl hf hfl hk) hk
def Iy [xi w0](h:St w0 E w)(i:Nat){b:Nat}{a:zK}{s:Seg}(hi:nth E i=some s)(hs:yV b a s){e:AEv}(hkd:e.kind=11)(hb:ZH e=0)(rd:RdE w0 E eT e.v e.r.ts)(hvc:e.v.len≤e.v.cap)(hrv:∀t∈e.r.ts,VG t.1)
  (hfew:a.sh.Few) (hname:e.name.size≤100000) (hp:∀t∈(ud a.sh e.name).1.ts,0≤pct t∧pct t≤1000) (hl:(ud a.sh e.name).1.ts.length≤1000)
  (hroll:(ud a.sh e.name).1.roll≤1000000) (hok:∀x,zr a.ro e.name=some x→x.Ok) (hsi:∀x,zr a.ro e.name=some x→0≤x.since∧x.since<1000000000) (hnow:0≤a.now∧a.now<1000000000) (hwb:WBd (CO a e.name).1.sh) (hln:(Wx a e.name).sh.length<100000) (htb:z3i (Wx a e.name))
  {k:Sl→PT} (hk:Hk w0 E i b (Oa a e) k):L.call Pr zl [pO b,evV e] (.one (.one .slice)) k w:=
 fu h i hi hs hb (λhh=>by omega) rd hvc hrv (f:=YW) (by rw[hkd];rfl) mr (mC (some ⟨b,0,none⟩) e.t) (λh hi _ hk=>eO h _ hi hs hfew hname hp hl hroll hok hsi hnow hwb hln htb hk) hk
def aN [xi w0](h:St w0 E w)(i:Nat){b:Nat}{a:zK}{s:Seg}(hi:nth E i=some s)(hs:yV b a s){e:AEv}(hkd:e.kind=4)(hb:ZH e=0)(rd:RdE w0 E eT e.v e.r.ts)(hvc:e.v.len≤e.v.cap)(hrv':∀t∈e.r.ts,VG t.1)
  (hd:0≤e.draw∧e.draw<4611686018427387904) (hok:∀x,zr a.ro e.name=some x→x.Ok) (hwb:WBd (Od a.ro e.name).sh)
  (hfew:Jq a.fl) (hn:a.gt.all.length<80000000) (hl:a.gt.lines.length<90000000) (hnow: -1000000000000<a.now+a.gt.pat∧a.now+a.gt.pat<1000000000000) (hf:(arG a e).2.2.Ok) (hrv:(bnd a e).size≤1000000)
  {k:Sl→PT} (hk:Hk w0 E i b (YU a e) k):L.call Pr zl [pO b,evV e] (.one (.one .slice)) k w:=
 fu h i hi hs hb (λhh=>by omega) rd hvc hrv' (f:=Yq) (by rw[hkd];rfl) GP (GT (some ⟨b,0,none⟩) e.t) (λh hi _ hk=>bJ h _ hi hs hd hok hwb hfew hn hl hnow hf hrv hk) hk
def Ix [xi w0](h:St w0 E w)(i:Nat){b:Nat}{a:zK}{s:Seg}(hi:nth E i=some s)(hs:yV b a s){e:AEv}(hkd:e.kind=13)(hnm:Ph e.name)(hb:ZH e=0)(rd:RdE w0 E eT e.v e.r.ts)(hvc:e.v.len≤e.v.cap)(hrv:∀t∈e.r.ts,VG t.1)
  (hroom:a.fl.room<1000000) (hlast:a.fl.last+a.fl.room<4611686018427387904) (hname:e.name.size≤100000)
  (hmade:∀x∈ob a.fl e.name (yl a e.name),0≤x∧x≤9000000000000000000) (hmn:(ob a.fl e.name (yl a e.name)).length<100000) (hgone:∀x∈(Ys a.fl e.name (XN a e.name) (yl a e.name)).2,0≤x∧x≤9000000000000000000) (hgn:(Ys a.fl e.name (XN a e.name) (yl a e.name)).2.length<100000)
  (hpn:(jW (Ri a e.name).l e.name).length<1000000) {k:Sl→PT} (hk:Hk w0 E i b (qJ a e) k):L.call Pr zl [pO b,evV e] (.one (.one .slice)) k w:=
 fu h i hi hs hb (λ_=>hnm) rd hvc hrv (f:=Yi) (by rw[hkd];rfl) VY (VZ (some ⟨b,0,none⟩) e.t) (λh hi _ hk=>eN h _ hi hs hroom hlast hname hmade hmn hgone hgn hpn hk) hk
def Na(h:St w0 E w)(i:Nat){b:Nat}{a:zK}{s:Seg}(hi:nth E i=some s)(hs:yV b a s){k:Sl→PT}(hk:∀v sv w',Rw eS zc 1 v (XB a.bk) sv→St w0 (sv::E) w'→k v w'):L.call Pr jD [pO b] (.one (.one .slice)) k w:=by
 obtain⟨p,sg,sf,ss,sk,sr,sm,Q,R,rfl⟩:=hs;refine za (uc _) ?_;unfold xy;have h:=(h.front i hi).split8
 (refine nn ?_;refine ldC h ?_)
 refine sE h 4 rfl R.bk λv sv w r h=>⟨v,rfl,hk v sv w r ?_⟩;have h:=Jo (Jo (Jo (Jo (Jo (Jo (Jo (Jo h)))))));have h:=h.glue8;exact St.again (E:=sv::E) (i+1) hi h
end Go.Proofs.YtimahgbgejngiaaGreatDoor
namespace Go.Proofs.YtimahgbgejngiaaGreatDoor
open Go.Dm
abbrev idB(x:Int):Prop:=0≤x∧x≤2147483647
structure FlI(k:Nat)(F:ze):Prop where
 few:Jq F
 r1:1≤F.room
 last:F.last≤30*(k:Int)
 rev:∀x∈F.l,Ph x.rev
 req:∀x∈F.l,∀q∈x.pod.reqs,idB q
def FlI.mono{k m:Nat}{F:ze}(h:FlI k F)(hm:k≤m):FlI m F:=⟨h.few,h.r1,by have:=h.last;omega,h.rev,h.req⟩
def FlI.upd{k:Nat}{F:ze}(h:FlI k F){id:Int}{g:YZ→YZ}(hf:Jq { F with l:=YJ F.l id g })(hg:∀x∈F.l,x.id=id→∀q∈(g x.pod).reqs,idB q):FlI k { F with l:=YJ F.l id g }:=
 ⟨hf,h.r1,h.last,λy hy=>by
  rcases nS hy with hy | ⟨x,hx,_,rfl⟩
  ·exact h.rev y hy
  ·exact h.rev x hx,λy hy=>by
  rcases nS hy with hy | ⟨x,hx,hid,rfl⟩
  ·exact h.req y hy
  ·exact hg x hx hid⟩
def Rb{p:YZ}{q z:Int}(h:z∈(yj p q).1.reqs):z∈p.reqs∨z=q:=by
 unfold yj at h;split at h
 ·exact .inl h
 ·split at h
  ·exact .inl h
  ·split at h
   ·exact .inl h
   ·rcases List.mem_cons.1 ((Ve q p.reqs).mem_iff.1 h)with e | e
    ·exact .inr e
    ·exact .inl e
def Rf{p:YZ}{q z:Int}(h:z∈(yg p q).1.reqs):z∈p.reqs:=by
 unfold yg at h;split at h
 ·exact List.erase_subset h
 ·exact h
def Re{p:YZ}{z:Int}(h:z∈(yk p).1.reqs):z∈p.reqs:=by
 unfold yk at h;split at h
 ·exact h
 ·cases h
def Ra(p:YZ):(Yl p).1.reqs=p.reqs:=by unfold Yl;split<;>rfl
def Rh(p:YZ):(yy p).1.reqs=p.reqs:=by unfold yy;split<;>rfl
def FlI.take{k:Nat}{F:ze}(h:FlI k F)(rev:B0){q:Int}(hq:idB q):FlI k (ZM F rev q).1:=by
 have hf:=h.few.take rev q;unfold ZM at hf ⊢;split
 ·exact h
 ·rename_i h1;rw[if_neg h1]at hf;split
  ·exact h
  ·rename_i x hx;rw[hx]at hf;exact h.upd hf λy hy _ z hz=>by
    rcases Rb hz with e | rfl
    ·exact h.req y hy z e
    ·exact hq
def FlI.give{k:Nat}{F:ze}(h:FlI k F)(q:Int):FlI k (ZU F q).1:=by
 have hf:=h.few.give q;unfold ZU at hf ⊢;split
 ·exact h
 ·rename_i x hx;rw[hx]at hf;exact h.upd hf λy hy _ z hz=>h.req y hy z (Rf hz)
def FlI.kill{k:Nat}{F:ze}(h:FlI k F)(id:Int):FlI k (Jt F id).1:=by
 have hf:=h.few.kill id;unfold Jt at hf ⊢;split
 ·exact h
 ·rename_i x hx;rw[hx]at hf;exact h.upd hf λy hy _ z hz=>h.req y hy z (Re hz)
def FlI.up{k:Nat}{F:ze}(h:FlI k F)(id:Int):FlI k (jJ F id).1:=by
 have hf:=h.few.up id;unfold jJ;split
 ·exact h
 ·exact h.upd hf λy hy _ z hz=>h.req y hy z (by rwa [Ra]at hz)
def FlI.drain{k:Nat}{F:ze}(h:FlI k F)(rev:B0):FlI k (qD rev F):=
 h.upd (h.few.drain rev) λy hy _ z hz=>h.req y hy z (by rwa [Rh]at hz)
def FlI.shrink(rev:B0):∀(n:Nat){k:Nat}{F:ze},FlI k F→FlI k (YtimahgbgejngiaaGreatDoor.shrink rev n F).1
 | 0,_,_,h=>h
 | n+1,_,_,h=>FlI.shrink rev n (h.drain rev)
def nE{rev:B0}{conc:Int}:∀(n:Nat){F:ze}{x:Zg},x∈(grow rev conc n F).l→x∈F.l∨(x.rev=rev∧x.pod=⟨1,conc,[]⟩)
 | 0,_,_,h=>.inl h
 | n+1,F,x,h=>by
  unfold grow grow1 at h;rcases List.mem_append.1 h with h | h
  ·exact nE n h
  ·rw[List.mem_singleton]at h;subst h;exact .inr ⟨rfl,rfl⟩
def tR(F:ze)(rev:B0)(want:Int):(qM F rev want:Int)≤max 0 (F.room-F.l.length):=by rw[FK];omega
def FlI.scale{k:Nat}{F:ze}(h:FlI k F){rev:B0}(hr:Ph rev){conc:Int}(hc:conc≤1000)(want:Int):FlI (k+1) (Ys F rev conc want).1:=by
 have hl:=h.few.l;have hr20:=h.few.r;unfold xG at hr20;have hn:=tR F rev want;have hg:FlI (k+1) (yT F rev conc want):=by
  refine⟨Jq.grow rev hc _ h.few (by omega),?_,?_,λx hx=>?_,λx hx q hq=>?_⟩
  ·unfold yT;rw[gy];exact h.r1
  ·unfold yT;rw[KH];have:=h.last;omega
  ·rcases nE _ hx with hx | ⟨e,-⟩
   ·exact h.rev x hx
   ·rw[e];exact hr
  ·rcases nE _ hx with hx | ⟨-,e⟩
   ·exact h.req x hx q hq
   ·rw[e]at hq;cases hq
 exact hg.shrink rev _
def rD{F:ze}(ok:F.Ok)(rev:B0)(q:Int):0≤(ZM F rev q).2.1∧(ZM F rev q).2.1≤F.last:=by
 have:=ok.lo;unfold ZM;split
 ·exact⟨Int.le_refl 0,this⟩
 ·split
  ·exact⟨Int.le_refl 0,this⟩
  ·rename_i x hx;have:=ok.rng x (gu hx).1;dsimp only;omega
def sK(F:ze)(rev:B0)(q:Int):(ZM F rev q).1.last=F.last:=by
 unfold ZM;split
 ·rfl
 ·split<;>rfl
def CR{rev:B0}:∀{l:List (Int×Int)}{F:ze}{all:jO}{out:List yr},F.Ok→F.last≤9000000000000000000→(∀x∈l,idB x.1)→(∀f∈out,f.Ok)→∀f∈(yt rev l F all out).2.2.2,f.Ok
 | [],_,_,_,_,_,_,h=>h
 | x::l,F,all,out,ok,hl,hx,h=>by
  unfold yt;split
  ·have tp:=rD ok rev x.1;have hx1:=hx x (by simp);refine CR (nT ok rev x.1) (by rw[sK];exact hl) (λy hy=>hx y (by simp[hy])) λf hf=>?_;rcases List.mem_append.1 hf with hf | hf
   ·exact h f hf
   ·rw[List.mem_singleton]at hf;subst hf;exact⟨⟨hx1.1,Int.le_trans hx1.2 (by decide)⟩,⟨tp.1,Int.le_trans tp.2 hl⟩,by show s_.size≤1000;decide⟩
  ·exact h
def nO{k:Nat}{rev:B0}:∀{l:List (Int×Int)}{F:ze}{all:jO}{out:List yr},FlI k F→(∀x∈l,idB x.1)→FlI k (yt rev l F all out).1
 | [],_,_,_,h,_=>h
 | x::l,F,all,out,h,hx=>by
  unfold yt;split
  ·exact nO (h.take rev (hx x (by simp))) λy hy=>hx y (by simp[hy])
  ·exact h
def Pa{rev:B0}:∀{l:List (Int×Int)}{F:ze}{all:jO}{out:List yr},∀y∈(yt rev l F all out).2.2.1,y∈l
 | [],_,_,_,y,h=>by cases h
 | x::l,F,all,out,y,h=>by
  unfold yt at h;split at h
  ·exact List.mem_cons_of_mem _ (Pa y h)
  ·exact h
def WN{rev:B0}:∀{l:List (Int×Int)}{F:ze}{all:jO}{out:List yr},(∀x∈all,idB x.1)→(∀x∈l,idB x.1)→∀x∈(yt rev l F all out).2.1,idB x.1
 | [],_,_,_,h,_=>h
 | x::l,F,all,out,h,hx=>by
  unfold yt;split
  ·refine WN (λy hy=>?_) λy hy=>hx y (by simp[hy]);rcases Zp hy with rfl | hy
   ·exact hx x (by simp)
   ·exact h y hy
  ·exact h
def qw{κ υ:Type}[DecidableEq κ](m:List (κ×υ))(a b:κ)(u:υ)(h:(zr m b).isSome=true):(zr (zX m a u) b).isSome=true:=by
 rw[ya];split
 ·rfl
 ·exact h
def pZ{rev:B0}{q:Int}:∀{l:List (Int×Int)}{F:ze}{all:jO}{out:List yr},(zr all q).isSome=true→(zr (yt rev l F all out).2.1 q).isSome=true
 | [],_,_,_,h=>h
 | x::l,F,all,out,h=>by
  unfold yt;split
  ·exact pZ (qw _ _ _ _ h)
  ·exact h
structure GtI(k:Nat)(G:Ze):Prop where
 all:G.all.length≤2000*k
 ids:∀x∈G.all,idB x.1
 lines:G.lines.length≤k
 lid:∀x∈G.lines,∀y∈x.2,idB y.1
 wk:GWk G
 pat:1≤G.pat∧G.pat≤1000
 room:0≤G.room∧G.room≤8
def GtI.mono{k m:Nat}{G:Ze}(h:GtI k G)(hm:k≤m):GtI m G:=⟨by have:=h.all;omega,h.ids,by have:=h.lines;omega,h.lid,h.wk,h.pat,h.room⟩
def GtI.line{k:Nat}{G:Ze}(h:GtI k G)(rev:B0):∀y∈zu G.lines rev,idB y.1:=λy hy=>by
 unfold zu at hy
 cases hg:zr G.lines rev with
 | none=>rw[hg]at hy;cases hy
 | some l=>rw[hg]at hy;exact h.lid _ (yK hg) y hy
def GtI.turn{k m:Nat}{G:Ze}(h:GtI k G){all:jO}{rev:B0}{l:List (Int×Int)}(hm:k+1≤m)(hl:all.length≤2000*m)(hi:∀x∈all,idB x.1)(hs:∀q,(zr G.all q).isSome=true→(zr all q).isSome=true)
  (h1:∀y∈l,idB y.1) (h2:∀y∈l,(zr all y.1).isSome=true):GtI m { G with all:=all,lines:=zX G.lines rev l }:=by
 have:=h.lines;have:=xg G.lines rev l;refine⟨hl,hi,by dsimp only;omega,λx hx y hy=>?_,λx hx y hy=>?_,h.pat,h.room⟩
 ·rcases Zp hx with rfl | hx
  ·exact h1 y hy
  ·exact h.lid x hx y hy
 ·rcases Zp hx with rfl | hx
  ·exact h2 y hy
  ·exact hs _ (h.wk x hx y hy)
def GtI.req{k m:Nat}{G:Ze}(h:GtI k G){all:jO}(hm:k≤m)(hl:all.length≤2000*m)(hi:∀x∈all,idB x.1)(hs:∀q,(zr G.all q).isSome=true→(zr all q).isSome=true):GtI m { G with all:=all }:=
 ⟨hl,hi,by have:=h.lines;dsimp only;omega,h.lid,λx hx y hy=>hs _ (h.wk x hx y hy),h.pat,h.room⟩
def VK{all:jO}{id:Int}{x:B0×Int}(h:∀x∈all,idB x.1)(hi:idB id):∀y∈zX all id x,idB y.1:=λy hy=>by
 rcases Zp hy with rfl | hy
 ·exact hi
 ·exact h y hy
def WK{k:Nat}{F:ze}{G:Ze}(ok:G.Ok)(hF:FlI k F)(hG:GtI k G)(rev:B0):FlI k (yX F G rev).1∧GtI (k+1) (yX F G rev).2.1:=by
 have hl:=Ut (rev:=rev) (l:=zu G.lines rev) (F:=F) (all:=G.all) (out:=[]);have hn:=Jn ok rev;have:=hG.all;have:=hG.room;refine⟨nO hF (hG.line rev),hG.turn (Nat.le_refl _) (by omega) (WN hG.ids (hG.line rev)) (λq=>pZ) (λy hy=>hG.line rev y (Pa y hy)) λy hy=>?_⟩;exact pZ (hG.wk.line rev y (Pa y hy))
def CQ{k:Nat}{F:ze}{G:Ze}(hk:k≤100000)(ok:F.Ok)(hF:FlI k F)(hG:GtI k G)(rev:B0):∀f∈(yX F G rev).2.2,f.Ok:=
 CR ok (by have:=hF.last;omega) (hG.line rev) (by simp)
def z9:(0:Int)≤0∧(0:Int)≤9000000000000000000:=⟨by decide,by decide⟩
def SQ{k:Nat}{F:ze}{G:Ze}(okF:F.Ok)(ok:G.Ok)(hk:k≤10000)(hF:FlI k F)(hG:GtI k G){id:Int}(hid:idB id):FlI k (Yu F G id).1∧GtI (k+2) (Yu F G id).2.1:=by
 have hF':=hF.give id;have hla:=hG.all;have hg:GtI (k+1) { G with all:=zX G.all id ((ZU F id).2.1,3) }:=hG.req (by omega) (by have:=xg G.all id ((ZU F id).2.1,3);omega) (VK hG.ids hid) λq=>qw _ _ _ _;unfold Yu;split
 ·exact⟨hF',hG.mono (by omega)⟩
 ·have okg:({ G with all:=zX G.all id ((ZU F id).2.1,3) }:Ze).Ok:=ok.req (by omega) id _;have:=WK okg (hF'.mono (Nat.le_succ k)) hg (ZU F id).2.1;refine⟨?_,this.2⟩;have h2:=nO (k:=k) (rev:=(ZU F id).2.1) (l:=zu G.lines (ZU F id).2.1) (all:=zX G.all id ((ZU F id).2.1,3)) (out:=[]) hF' (hG.line _);exact h2
def RV{k:Nat}{F:ze}{G:Ze}(okF:F.Ok)(hk:k≤10000)(hF:FlI k F)(hG:GtI k G){id:Int}(hid:idB id):∀f∈(Yu F G id).2.2.1,f.Ok:=by
 have hla:=hG.all;have hg:GtI (k+1) { G with all:=zX G.all id ((ZU F id).2.1,3) }:=hG.req (by omega) (by have:=xg G.all id ((ZU F id).2.1,3);omega) (VK hG.ids hid) λq=>qw _ _ _ _;unfold Yu;split
 ·intro f hf;cases hf
 ·intro f hf;rcases List.mem_cons.1 hf with rfl | hf
  ·exact⟨⟨hid.1,Int.le_trans hid.2 (by decide)⟩,z9,by show s_.size≤1000;decide⟩
  ·exact CQ (by omega:k+1≤100000) (AK okF id) ((hF.give id).mono (Nat.le_succ k)) hg _ f hf
def SP{F:ze}{G:Ze}(ok:G.Ok)(hn:G.all.length<80000000)(hr:G.room≤8)(id:Int):(Yu F G id).2.2.1.length<100000000:=by
 unfold Yu;split
 ·simp
 ·have:=(cD (F:=(ZU F id).1) (ok.req (by omega) id ((ZU F id).2.1,3)) (ZU F id).2.1).1;dsimp only at this ⊢;rw[List.length_cons];omega
def il{k:Nat}{F:ze}{G:Ze}(ok:G.Ok)(hF:FlI k F)(hG:GtI k G){id:Int}(hid:idB id)(rev:B0)(now:Int):FlI k (ki F G id rev now).1∧GtI (k+1) (ki F G id rev now).2.1:=by
 have hla:=hG.all;have hl:∀x:B0×Int,(zX G.all id x).length≤2000*(k+1):=λx=>by have:=xg G.all id x;omega
 have hs:∀(x:B0×Int) q,(zr G.all q).isSome=true→(zr (zX G.all id x) q).isSome=true:=λx q=>qw _ _ _ _;have hln:∀(x:B0×Int),∀y∈zu G.lines rev,(zr (zX G.all id x) y.1).isSome=true:=λx y hy=>hs x _ (hG.wk.line rev y hy);unfold ki;split
 ·exact⟨hF,hG.mono (Nat.le_succ k)⟩
 ·split
  ·exact⟨hF,hG.req (Nat.le_succ k) (hl _) (VK hG.ids hid) (hs _)⟩
  ·split
   ·exact⟨hF.take rev hid,hG.turn (Nat.le_refl _) (hl _) (VK hG.ids hid) (hs _) (hG.line rev) (hln _)⟩
   ·split
    ·exact⟨hF,hG.turn (Nat.le_refl _) (hl _) (VK hG.ids hid) (hs _) (hG.line rev) (hln _)⟩
    ·rename_i h4;refine⟨hF,hG.turn (Nat.le_refl _) (hl _) (VK hG.ids hid) (hs _) (λy hy=>?_) λy hy=>?_⟩ <;>
     ·unfold vg at hy h4;split at hy
      ·rename_i h5;rw[if_pos h5]at h4;exact absurd (show(5:Int)≠0 by decide) h4
      ·rename_i h5;rw[if_neg h5]at h4;split at hy
       ·rename_i h6;rw[if_pos h6]at h4;exact absurd (show(8:Int)≠0 by decide) h4
       ·rcases List.mem_append.1 hy with hy | hy
        ·first | exact hG.line rev y hy | exact hln _ y hy
        ·rw[List.mem_singleton]at hy;subst hy
         first | exact hid | (rw[ya,if_pos rfl];rfl)
def SR{k:Nat}{F:ze}{G:Ze}(hk:k≤10000)(okF:F.Ok)(hF:FlI k F){id:Int}(hid:idB id)(rev:B0)(now:Int):(ki F G id rev now).2.2.Ok:=by
 have hi:0≤id∧id≤9000000000000000000:=⟨hid.1,Int.le_trans hid.2 (by decide)⟩;have hz:(0:Int)≤0∧(0:Int)≤9000000000000000000:=⟨by decide,by decide⟩;unfold ki;split
 ·exact⟨hi,hz,by show th.size≤1000;decide⟩
 ·split
  ·exact⟨hi,hz,by show Gu.size≤1000;decide⟩
  ·split
   ·have:=rD okF rev id;have:=hF.last;exact⟨hi,⟨by show 0≤(ZM F rev id).2.1;omega,by show(ZM F rev id).2.1≤9000000000000000000;omega⟩,by show s_.size≤1000;decide⟩
   ·split
    ·exact⟨hi,hz,by show KM.size≤1000;decide⟩
    ·exact⟨hi,hz,by show s_.size≤1000;decide⟩
def pV{q:Int}:∀{l:List Int}{all:jO}{out:List yr},(zr all q).isSome=true→(zr (jV l all out).1 q).isSome=true
 | [],_,_,h=>h
 | x::l,all,out,h=>by
  unfold jV;split
  ·exact pV (qw _ _ _ _ h)
  ·exact pV h
def cr:∀{l:List Int}{all:jO}{out:List yr},(∀x∈all,idB x.1)→(∀x∈l,idB x)→∀x∈(jV l all out).1,idB x.1
 | [],_,_,h,_=>h
 | x::l,all,out,h,hx=>by
  unfold jV;split
  ·exact cr (VK h (hx x (by simp))) λy hy=>hx y (by simp[hy])
  ·exact cr h λy hy=>hx y (by simp[hy])
def FH:∀{l:List Int}{all:jO}{out:List yr},(∀x∈l,idB x)→(∀f∈out,f.Ok)→∀f∈(jV l all out).2,f.Ok
 | [],_,_,_,h=>h
 | x::l,all,out,hx,h=>by
  unfold jV;have hx1:=hx x (by simp);split
  ·refine FH (λy hy=>hx y (by simp[hy])) λf hf=>?_;rcases List.mem_append.1 hf with hf | hf
   ·exact h f hf
   ·rw[List.mem_singleton]at hf;subst hf;exact⟨⟨hx1.1,Int.le_trans hx1.2 (by decide)⟩,z9,by show vR.size≤1000;decide⟩
  ·exact FH (λy hy=>hx y (by simp[hy])) h
def RJ{k:Nat}{F:ze}(hF:FlI k F)(id:Int):(∀q∈(Jt F id).2.1,idB q)∧(Jt F id).2.1.length≤1000:=by
 unfold Jt;split
 ·exact⟨λq hq=>(by cases hq),Nat.zero_le _⟩
 ·rename_i x hx;have hx:=(YS hx).1;exact⟨hF.req x hx,(hF.few.q x hx).1⟩
def SO{k:Nat}{G:Ze}(hG:GtI k G){l:List Int}(hl:∀q∈l,idB q)(hn:l.length≤1000):GtI (k+1) (Oj G l).1:=by
 have:=hG.all;have h2:=(gv (l:=l) (all:=G.all) (out:=[])).2;exact hG.req (Nat.le_succ k) (by omega) (cr hG.ids hl) λq=>pV
def Wz{rev:B0}:∀{l:List Int}{all:jO},(∀x∈all,idB x.1)→(∀x∈l,idB x)→∀x∈gw rev l all,idB x.1
 | [],_,h,_=>h
 | x::l,all,h,hx=>Wz (l:=l) (VK h (hx x (by simp))) λy hy=>hx y (by simp[hy])
def RI{l:List (Int×Int)}{now q:Int}(h:q∈jc l now):∃y∈l,y.1=q:=by
 unfold jc at h;obtain⟨y,hy,e⟩:=List.mem_map.1 h;exact⟨y,(List.mem_filter.1 hy).1,e⟩
structure TkI(m n:Nat)(G:Ze):Prop where
 all:G.all.length≤m
 ids:∀x∈G.all,idB x.1
 lines:G.lines.length≤n
 lid:∀x∈G.lines,∀y∈x.2,idB y.1
 wk:GWk G
 ok:G.Ok
def TkI.line{m n:Nat}{G:Ze}(h:TkI m n G)(rev:B0):∀y∈zu G.lines rev,idB y.1:=λy hy=>by
 unfold zu at hy
 cases hg:zr G.lines rev with
 | none=>rw[hg]at hy;cases hy
 | some l=>rw[hg]at hy;exact h.lid _ (yK hg) y hy
def TkI.tick1{m n:Nat}{G:Ze}(h:TkI m n G){k:B0}(hk:(zr G.lines k).isSome=true)(now:Int):TkI m n (YtimahgbgejngiaaGreatDoor.tick1 now k G):=by
 refine⟨?_,?_,?_,?_,h.wk.tick1 k now,h.ok.tick1 h.wk hk now⟩
 ·have:=congrArg List.length (GH (rev:=k) (l:=jc (zu G.lines k) now) (all:=G.all) (h.wk.late k now));simp only[List.length_map]at this;have:=h.all;unfold YtimahgbgejngiaaGreatDoor.tick1;dsimp only;omega
 ·refine Wz h.ids λq hq=>?_;obtain⟨y,hy,rfl⟩:=RI hq;exact h.line k y hy
 ·have:=congrArg List.length (Cz (G:=G) hk now);simp only[List.length_map]at this;have:=h.lines;omega
 ·intro x hx y hy;rcases Zp hx with rfl | hx
  ·exact h.line k y (List.mem_filter.1 hy).1
  ·exact h.lid x hx y hy
def TR{m n:Nat}{now:Int}{r:Int}:∀{ks:List B0}{G:Ze}{out:List yr},TkI m n G→G.room=r→(∀k∈ks,(zr G.lines k).isSome=true)→(∀f∈out,f.Ok)→
  TkI m n (UG now ks G out).1∧(∀f∈(UG now ks G out).2,f.Ok)∧((UG now ks G out).2.length:Int)≤out.length+ks.length*max r 0∧(UG now ks G out).1.pat=G.pat∧(UG now ks G out).1.room=G.room
 | [],G,out,h,hr,_,ho=>⟨h,ho,by simp[UG],rfl,rfl⟩
 | k::ks,G,out,h,hr,hk,ho=>by
  have h1:=h.tick1 (hk k (by simp)) now;have hn:=Cz (G:=G) (hk k (by simp)) now;have hks:∀k'∈ks,(zr (tick1 now k G).lines k').isSome=true:=λk' hk'=>by
   have:=hk k' (by simp[hk'])
   cases h3:zr (tick1 now k G).lines k' with
   | some _=>rfl
   | none=>
    rw[YE,hn]at h3
    cases h4:zr G.lines k' with
    | none=>rw[h4]at this;cases this
    | some v=>exact absurd (List.mem_map.2 ⟨_,yK h4,rfl⟩) h3
  have ho':∀f∈out++vB (jc (zu G.lines k) now),f.Ok:=λf hf=>by
   rcases List.mem_append.1 hf with hf | hf
   ·exact ho f hf
   ·unfold vB at hf;obtain⟨q,hq,rfl⟩:=List.mem_map.1 hf;obtain⟨y,hy,rfl⟩:=RI hq;have:=h.line k y hy;exact⟨⟨this.1,Int.le_trans this.2 (by decide)⟩,z9,by show KC.size≤1000;decide⟩
  obtain⟨a,b,c,d,e⟩:=TR (ks:=ks) (r:=r) h1 hr hks ho';refine⟨a,b,?_,d,e⟩;have hll:=Jn h.ok k;rw[hr]at hll;have h5:(jc (zu G.lines k) now).length≤(zu G.lines k).length:=by unfold jc;rw[List.length_map];exact List.length_filter_le ..
  rw[List.length_append,Ma]at c;show((UG now ks (tick1 now k G) (out++vB (jc (zu G.lines k) now))).2.length:Int)≤_;rw[List.length_cons];have:((ks.length+1:Nat):Int)*max r 0=ks.length*max r 0+max r 0:=by rw[Int.natCast_add,Int.add_mul];simp
  rw[this];omega
def WJ{k:Nat}{G:Ze}(ok:G.Ok)(hG:GtI k G)(now:Int):GtI k (Qm G now).1∧(∀f∈(Qm G now).2,f.Ok)∧(Qm G now).2.length≤8*k:=by
 have h:TkI G.all.length G.lines.length G:=⟨Nat.le_refl _,hG.ids,Nat.le_refl _,hG.lid,hG.wk,ok⟩;obtain⟨a,b,c,d,e⟩:=TR (now:=now) (r:=G.room) (ks:=yZ (G.lines.map (·.1))) (out:=[]) h rfl (λk hk=>by
  cases h4:zr G.lines k with
  | none=>rw[YE]at h4;exact absurd (vO.1 hk) h4
  | some v=>rfl) (by simp)
 have r:=hG.room;have hl:=hG.lines;refine⟨⟨Nat.le_trans a.all hG.all,a.ids,Nat.le_trans a.lines hl,a.lid,a.wk,?_,?_⟩,b,?_⟩
 ·unfold Qm;rw[d];exact hG.pat
 ·unfold Qm;rw[e];exact r
 ·rw[jp,List.length_map]at c;have h8:(G.lines.length:Int)*max G.room 0≤G.lines.length*8:=Int.mul_le_mul_of_nonneg_left (by omega) (by omega);unfold Qm;simp only[List.length_nil]at c;omega
structure ShI(k:Nat)(a:jb):Prop where
 n:a.n≤k
 few:a.Few
 cfg:∀n,(JR a.m n).is=true→(fq (JR a.m n)).1=n∧XJ (fq (JR a.m n))=0∧1≤(JR a.m n).gen
 rt:∀n,(Kd a.r n).is=true→(Kd a.r n).r.name=n∧gg (Kd a.r n).r=0
def ShI.mono{k m:Nat}{a:jb}(h:ShI k a)(hm:k≤m):ShI m a:=⟨by have:=h.n;omega,h.few,h.cfg,h.rt⟩
def sV{k:Nat}{a:jb}(ok:a.Ok)(h:ShI k a)(c:Cfg)(ver:Int):ShI (k+1) (VE a c ver).1:=by
 have hf:=sX h.few c ver;unfold VE at hf ⊢;split
 ·exact h.mono (Nat.le_succ k)
 ·rename_i h1;rw[if_neg h1]at hf;split
  ·exact h.mono (Nat.le_succ k)
  ·rename_i h2;rw[if_neg h2]at hf;have hn:=h.n;refine⟨by dsimp only;omega,hf,λn hn2=>?_,h.rt⟩;dsimp only[rX]at hn2 ⊢;rw[rz]at hn2 ⊢;split
   ·rename_i e;have h1':XJ c=0:=by simpa using h1
    refine⟨e,h1',?_⟩;have h3:=ok.gen c.1;show(1:Int)≤(if(JR a.m c.1).is=true∧kB (fq (JR a.m c.1)) c=true then(JR a.m c.1).gen else(JR a.m c.1).gen+1);split
    ·rename_i h4;exact(h.cfg c.1 h4.1).2.2
    ·omega
   ·rename_i e;rw[if_neg e]at hn2;exact h.cfg n hn2
def Br{k:Nat}{a:jb}(h:ShI k a)(r:ARt)(ver:Int):ShI (k+1) (uQ a r ver).1:=by
 have hf:=Bs h.few r ver;unfold uQ at hf ⊢;split
 ·exact h.mono (Nat.le_succ k)
 ·rename_i h1;rw[if_neg h1]at hf;split
  ·exact h.mono (Nat.le_succ k)
  ·rename_i h2;rw[if_neg h2]at hf;have hn:=h.n;refine⟨by dsimp only;omega,hf,h.cfg,λn hn2=>?_⟩;dsimp only[Wp]at hn2 ⊢;rw[Hd]at hn2 ⊢;split
   ·rename_i e;exact⟨e,by simpa using h1⟩
   ·rename_i e;rw[if_neg e]at hn2;exact h.rt n hn2
def QH{c:Cfg}(h:XJ c=0):yp c.1.data.toList 16=true∧(0≤@id Int c.2.1∧@id Int c.2.1≤255)∧(1≤@id Int c.2.2.1∧@id Int c.2.2.1≤8)∧(1≤@id Int c.2.2.2.2.1∧@id Int c.2.2.2.2.1≤10)∧(0≤@id Int c.2.2.2.1∧@id Int c.2.2.2.1≤@id Int c.2.2.2.2.1)∧(0≤@id Int c.2.2.2.2.2.1∧@id Int c.2.2.2.2.2.1≤30):=by
 unfold XJ at h;split at h
 ·rename_i h1;split at h
  ·rename_i h2;unfold OT at h2;simp only[Bool.and_eq_true,decide_eq_true_eq]at h2;exact⟨h1,h2.1,h2.2.1,h2.2.2.1,h2.2.2.2.1,h2.2.2.2.2⟩
  ·cases h
 ·cases h
structure BkI(k:Nat)(a:yY):Prop where
 len:a.all.length≤k
 rev:∀p∈a.all,Ph p.1
 cfg:∀p∈a.all,XJ p.2.cfg=0
def BkI.mono{k m:Nat}{a:yY}(h:BkI k a)(hm:k≤m):BkI m a:=⟨by have:=h.len;omega,h.rev,h.cfg⟩
def BkI.prove{k:Nat}{a:yY}(h:BkI k a)(rev:B0):BkI k (Ko a rev).1:=by
 unfold Ko;split
 ·exact⟨h.len,h.rev,h.cfg⟩
 ·exact h
def BkI.stamp{k:Nat}{a:yY}(h:BkI k a){c:Cfg}(hc:XJ c=0){g:Nat}(h1:1≤g)(hg:g<100):BkI (k+1) (XY a c g).1:=by
 unfold XY;split
 ·exact h.mono (Nat.le_succ k)
 ·have:=h.len;have:=xg a.all (qh c.1 g) (rK (qh c.1 g) g c);refine⟨by dsimp only;omega,λp hp=>?_,λp hp=>?_⟩
  ·rcases Zp hp with rfl | hp
   ·exact⟨c.1,g,(QH hc).1,h1,hg,rfl⟩
   ·exact h.rev p hp
  ·rcases Zp hp with rfl | hp
   ·exact hc
   ·exact h.cfg p hp
def Ph.size{n:B0}(h:Ph n):n.size≤100:=by
 obtain⟨c,g,hc,-,hg,rfl⟩:=h;have:=gq c hg;unfold yp at hc;simp only[Bool.and_eq_true,decide_eq_true_eq]at hc;have h2:(c.data.toList.length:Int)≤16:=hc.2;have h3:c.data.toList.length=c.size:=by rw[Array.length_toList];rfl
 omega
def Uv{a:yY}{rev:B0}(h:jL a rev=true):(rev,qo a rev)∈a.all:=by
 unfold jL at h;unfold qo
 cases h2:zr a.all rev with
 | none=>rw[h2]at h;cases h
 | some v=>exact yK h2
def WZ{a:yY}{rev:B0}(h:rev∈XB a):jL a rev=true:=by
 unfold XB at h;unfold jL
 cases h2:zr a.all rev with
 | none=>rw[YE]at h2;exact absurd (vO.1 h) h2
 | some v=>rfl
def WY{a:yY}(ok:a.Ok){c:B0}{q:B0→Bool}:∀{l:List B0}{t:Rv},(∀x∈l,jL a x=true)→(t.1=s_∨jL a t.1=true)→((l.foldl (GL a c q) t).1=s_∨jL a (l.foldl (GL a c q) t).1=true)
 | [],t,_,h=>h
 | x::l,t,hl,h=>by
  rw[List.foldl_cons];refine WY ok (λy hy=>hl y (by simp[hy])) ?_;have hx:=hl x (by simp);have e:(qo a x).1=x:=(ok.name _ (Uv hx)).1;unfold GL;split
  ·split
   ·split
    ·exact .inr (by rw[e];exact hx)
    ·exact h
   ·exact h
  ·exact h
def bC{a:yY}(ok:a.Ok)(c:B0)(q:B0→Bool):(cN a c q).1=s_∨jL a (cN a c q).1=true:=
 WY ok (λ_ h=>WZ h) (.inl rfl)
def BkI.size{k:Nat}{a:yY}(h:BkI k a){rev:B0}(hr:jL a rev=true):rev.size≤100:=(h.rev _ (Uv hr)).size
def Bj{k:Nat}{a:yY}(ok:a.Ok)(h:BkI k a)(cfg:B0)(t:Tgt):(qY a cfg t).1.size≤100:=by
 have hs:s_.size≤100:=by decide
 unfold qY;split
 ·split
  ·exact hs
  ·rename_i h2;rcases bC ok cfg (xQ a)with e | e
   ·exact absurd e h2
   ·exact h.size e
 ·split
  ·rename_i h2;split
   ·exact h.size h2
   ·exact hs
  ·exact hs
structure ByI(k:Nat)(bk:yY)(m:List (B0×OZ)):Prop where
 has:∀p∈bk.all,(zr m p.1).isSome=true
 xs:∀x∈m,x.2.xs.length≤k
 rng:∀x∈m,∀y∈x.2.xs,0≤y∧y≤100000000
 want:∀x∈m,(0≤x.2.want∧x.2.want≤10)∧(0≤x.2.left∧x.2.left≤1000)
def ByI.mono{k m:Nat}{bk:yY}{b:List (B0×OZ)}(h:ByI k bk b)(hm:k≤m):ByI m bk b:=⟨h.has,λx hx=>by have:=h.xs x hx;omega,h.rng,h.want⟩
def ByI.book{k:Nat}{bk bk':yY}{b:List (B0×OZ)}(h:ByI k bk b)(e:bk'.all=bk.all):ByI k bk' b:=⟨by rw[e];exact h.has,h.xs,h.rng,h.want⟩
def ByI.set{k:Nat}{bk:yY}{b:List (B0×OZ)}(h:ByI k bk b){rev:B0}{x:OZ}(h1:x.xs.length≤k)(h2:∀y∈x.xs,0≤y∧y≤100000000)(h3:(0≤x.want∧x.want≤10)∧(0≤x.left∧x.left≤1000)):ByI k bk (zX b rev x):=
 ⟨λp hp=>qw _ _ _ _ (h.has p hp),λy hy=>by
  rcases Zp hy with rfl | hy
  ·exact h1
  ·exact h.xs y hy,λy hy=>by
  rcases Zp hy with rfl | hy
  ·exact h2
  ·exact h.rng y hy,λy hy=>by
  rcases Zp hy with rfl | hy
  ·exact h3
  ·exact h.want y hy⟩
def ByI.tick{k:Nat}{bk:yY}{G:Ze}(hb:∀rev,Uu G rev≤100000000):∀{l:List B0}{b:List (B0×OZ)},l.Nodup→(∀p∈bk.all,(zr b p.1).isSome=true)→(∀x∈b,x.1∈l→x.2.xs.length≤k)→(∀x∈b,x.2.xs.length≤k+1)→
  (∀x∈b,∀y∈x.2.xs,0≤y∧y≤100000000)→(∀x∈b,(0≤x.2.want∧x.2.want≤10)∧(0≤x.2.left∧x.2.left≤1000))→ByI (k+1) bk (l.foldl (Gn G) b)
 | [],b,_,h1,_,h2,h3,h4=>⟨h1,h2,h3,h4⟩
 | rev::l,b,nd,h1,ha,h2,h3,h4=>by
  rw[List.foldl_cons];rw[List.nodup_cons]at nd;unfold Gn;split
  ·rename_i x hx;have hm:=yK hx;have hxl:x.xs.length≤k:=ha _ hm (by simp);refine ByI.tick hb nd.2 (λp hp=>qw _ _ _ _ (h1 p hp)) (λy hy hl=>?_) (λy hy=>?_) (λy hy=>?_) λy hy=>?_
   ·rcases Zp hy with rfl | hy
    ·exact absurd hl nd.1
    ·exact ha y hy (by simp[hl])
   ·rcases Zp hy with rfl | hy
    ·simp;omega
    ·exact h2 y hy
   ·rcases Zp hy with rfl | hy
    ·intro z hz;rcases List.mem_append.1 hz with hz | hz
     ·exact h3 _ hm z hz
     ·rw[List.mem_singleton]at hz;have:=hb rev;subst hz;split<;>omega
    ·exact h3 y hy
   ·rcases Zp hy with rfl | hy
    ·have:=h4 _ hm;exact this
    ·exact h4 y hy
  ·exact ByI.tick hb nd.2 h1 (λy hy hl=>ha y hy (by simp[hl])) h2 h3 h4
def SN(all:jO)(rev:B0):(jI all rev).length≤all.length:=by
 unfold jI;rw[KF,List.length_map];exact List.length_filter_le ..
def z0Q{k:Nat}{G:Ze}(ok:G.Ok)(hG:GtI k G)(hk:k≤10001)(rev:B0):0≤Uu G rev∧Uu G rev≤100000000:=by
 have h1:=Jn ok rev;have h2:=SN G.all rev;have h3:=hG.all;have h4:=hG.room;unfold Uu VN;rw[List.length_map];omega
structure WyI(k:Nat)(a:wV):Prop where
 fr:WBd a.fr
 to:WBd a.to
 ns:WBd a.ns
 zf:∀s∈a.fr,s.1.size≤100
 zt:∀s∈a.to,s.1.size≤100
 zn:∀s∈a.ns,s.1.size≤100
 zg:∀s∈a.ng,s.1.size≤100∧s.2.1.size≤100
 lf:a.fr.length≤6*k
 lt:a.to.length≤6
 ln:a.ns.length≤6*k
 lg:a.ng.length≤6
 since:0≤a.since∧a.since≤1048576
abbrev RoI(k:Nat)(m:oV):Prop:=∀n x,zr m n=some x→WyI k x
def WyI.mono{k m:Nat}{a:wV}(h:WyI k a)(hm:k≤m):WyI m a:=⟨h.fr,h.to,h.ns,h.zf,h.zt,h.zn,h.zg,by have:=h.lf;omega,h.lt,by have:=h.ln;omega,h.lg,h.since⟩
def WyI.ok{k:Nat}{a:wV}(h:WyI k a)(hk:k≤10000):a.Ok:=⟨h.fr,h.to,h.ns,by have:=h.lf;omega,by have:=h.lt;omega,by have:=h.ln;omega,by have:=h.lg;omega⟩
def bv{α:Type}[Inhabited α][DecidableEq α]{zs:List α}{x:α}(h:x∈Lib.compact zs):x∈zs:=by
 unfold Lib.compact Lib.compactUpTo at h;obtain⟨i,hi,rfl⟩:=List.mem_map.1 h;have hi:=(List.mem_filter.1 hi).1;rw[List.mem_range]at hi;simp[hi]
def sZ{l:List B0}{x:B0}(h:x∈Wh l):x∈l:=by
 unfold Wh at h;obtain⟨y,hy,rfl⟩:=List.mem_map.1 h;obtain⟨z,hz,rfl⟩:=List.mem_map.1 (bv hy);exact hz
def Sx{fr to:List Shr}{x:B0}(h:x∈Vt fr to):(∃s∈fr,s.1=x)∨∃s∈to,s.1=x:=by
 have h:=vO.1 (sZ h);rcases List.mem_append.1 h with h | h
 ·exact .inl (List.mem_map.1 h)
 ·exact .inr (List.mem_map.1 h)
def Sy(fr to:List Shr):(Vt fr to).length≤fr.length+to.length:=by
 have:=Wg (yZ (fr.map (·.1)++to.map (·.1)));rw[jp,List.length_append,List.length_map,List.length_map]at this;exact this
def z3V{fr to:List Shr}{gone whole:Int}(h0:0<gone)(h1:gone<whole)(n:B0):wOf fr n+qy fr to gone whole n≤max (wOf fr n) (wOf to n):=by
 unfold qy;split
 ·rename_i hc;have:(wOf to n-wOf fr n)*gone/whole≤wOf to n-wOf fr n:=Int.ediv_le_of_le_mul (by omega) (Int.mul_le_mul_of_nonneg_left (by omega) (by omega));omega
 ·omega
def Wl{fr to:List Shr}{gone whole:Int}(hf:WBd fr)(ht:WBd to)(h0:0<gone)(h1:gone<whole):∀{l:List B0}{st:Int×List Shr},(∀x∈l,x.size≤100)→0≤st.1→WBd st.2→(∀s∈st.2,s.1.size≤100)→
  WBd (l.foldl (YH fr to gone whole) st).2∧(∀s∈(l.foldl (YH fr to gone whole) st).2,s.1.size≤100)∧(l.foldl (YH fr to gone whole) st).2.length≤st.2.length+l.length
 | [],st,_,_,h3,h4=>⟨h3,h4,Nat.le_refl _⟩
 | n::l,st,hl,h2,h3,h4=>by
  rw[List.foldl_cons];have a:=oZ (r:=n) hf;have b:=oZ (r:=n) ht;have c:=Dc hf ht h0 h1 n;have d:=z3V (fr:=fr) (to:=to) h0 h1 n;have key:0≤(YH fr to gone whole st n).1∧WBd (YH fr to gone whole st n).2∧(∀s∈(YH fr to gone whole st n).2,s.1.size≤100)∧(YH fr to gone whole st n).2.length≤st.2.length+1:=by
   have hv:∀m:Int,wOf fr n+m≤1000→WBd (if 0<wOf fr n+m then st.2++[(n,wOf fr n+m,())]else st.2)∧(∀s∈(if 0<wOf fr n+m then st.2++[(n,wOf fr n+m,())]else st.2),s.1.size≤100)∧(if 0<wOf fr n+m then st.2++[(n,wOf fr n+m,())]else st.2).length≤st.2.length+1:=by
    intro m hm;split
    ·rename_i hp;refine⟨λs hs=>?_,λs hs=>?_,by simp⟩
     ·rcases List.mem_append.1 hs with hs | hs
      ·exact h3 s hs
      ·rw[List.mem_singleton]at hs;subst hs;exact⟨by show(0:Int)≤wOf fr n+m;omega,hm⟩
     ·rcases List.mem_append.1 hs with hs | hs
      ·exact h4 s hs
      ·rw[List.mem_singleton]at hs;subst hs;exact hl n (by simp)
    ·exact⟨h3,h4,Nat.le_succ _⟩
   unfold YH;dsimp only;by_cases hd:0<wOf fr n-wOf to n
   ·simp only[if_pos hd];refine⟨by split<;>omega,hv _ (by split<;>omega)⟩
   ·simp only[if_neg hd];exact⟨h2,hv _ (by omega)⟩
  obtain⟨k1,k2,k3,k4⟩:=key;obtain⟨r1,r2,r3⟩:=Wl hf ht h0 h1 (l:=l) (λx hx=>hl x (by simp[hx])) k1 k2 k3;exact⟨r1,r2,by rw[List.length_cons];omega⟩
def rj{fr to:List Shr}{gone whole:Int}(hf:WBd fr)(ht:WBd to)(h0:0<gone)(h1:gone<whole):∀l:List B0,0≤(l.map (qy fr to gone whole)).sum
 | []=>Int.le_refl 0
 | n::l=>by
  have:=rj hf ht h0 h1 l;have:=(Dc hf ht h0 h1 n).1;rw[List.map_cons,List.sum_cons];omega
def Wf{fr to:List Shr}(hf:WBd fr)(ht:WBd to)(zf:∀s∈fr,s.1.size≤100)(zt:∀s∈to,s.1.size≤100)(gone whole:Int) :
  WBd (ux fr to gone whole)∧(∀s∈ux fr to gone whole,s.1.size≤100)∧(ux fr to gone whole).length≤fr.length+to.length:=by
 unfold ux;split
 ·exact⟨ht,zt,by omega⟩
 ·split
  ·exact⟨hf,zf,by omega⟩
  ·rename_i h1 h2;have:=Wl (gone:=gone) (whole:=whole) hf ht (by omega) (by omega) (l:=Vt fr to) (st:=(((Vt fr to).map (qy fr to gone whole)).sum,[])) (λx hx=>by
    rcases Sx hx with ⟨s,hs,rfl⟩ | ⟨s,hs,rfl⟩
    ·exact zf s hs
    ·exact zt s hs) (rj hf ht (by omega) (by omega) _) (by intro s hs;cases hs) (by intro s hs;cases hs)
   have hn:=Sy fr to;refine⟨this.1,this.2.1,?_⟩;have h3:=this.2.2;simp only[List.length_nil,Nat.zero_add]at h3;exact Nat.le_trans h3 hn
structure z18(t:Vr):Prop where
 w:WBd t.sh
 zs:∀s∈t.sh,s.1.size≤100
 zg:∀s∈t.tg,s.1.size≤100∧s.2.1.size≤100
 ls:t.sh.length≤6
 lg:t.tg.length≤6
def wW{k:Nat}{m:oV}(h:RoI k m)(n:B0){t:Vr}(ht:z18 t){now:Int}(hn:0≤now∧now≤1048576)(whole:Int)(hk:1≤k) :
  WBd (Xc m n t now whole).fr∧WBd (Xc m n t now whole).to∧(∀s∈(Xc m n t now whole).fr,s.1.size≤100)∧(∀s∈(Xc m n t now whole).to,s.1.size≤100)∧(Xc m n t now whole).fr.length≤6*k∧(Xc m n t now whole).to.length≤6∧0≤(Xc m n t now whole).since∧(Xc m n t now whole).since≤1048576:=by
 unfold Xc;have:=ht.ls;split
 ·rename_i a ha;have w:=h n a ha;split
  ·exact⟨w.fr,w.to,w.zf,w.zt,w.lf,w.lt,w.since.1,w.since.2⟩
  ·exact⟨w.ns,ht.w,w.zn,ht.zs,w.ln,ht.ls,hn.1,hn.2⟩
 ·exact⟨ht.w,ht.w,ht.zs,ht.zs,by dsimp only;omega,ht.ls,hn.1,hn.2⟩
def BB{k:Nat}{m:oV}(h:RoI k m)(n:B0){t:Vr}(ht:z18 t){now:Int}(hn:0≤now∧now≤1048576)(whole:Int)(hk:1≤k):RoI (k+1) (DU m n t now whole):=by
 intro n' x hx;unfold DU at hx;rw[ya]at hx;split at hx
 ·obtain⟨a1,a2,a3,a4,a5,a6,a7,a8⟩:=wW h n ht hn whole hk;have s:=Wf a1 a2 a3 a4 (now-(Xc m n t now whole).since) whole
  cases hx
  exact⟨a1,a2,s.1,a3,a4,s.2.1,ht.zg,by dsimp only;omega,a6,by have:=s.2.2;dsimp only[fg];omega,ht.lg,a7,a8⟩
 ·exact(h n' x hx).mono (Nat.le_succ k)
def Sw{k:Nat}{m:oV}(h:RoI k m)(n:B0){t:Vr}(ht:z18 t){now:Int}(hn:0≤now∧now≤1048576)(whole:Int)(hk:1≤k):WBd (fg m n t now whole).sh∧(∀s∈(fg m n t now whole).sh,s.1.size≤100)∧(fg m n t now whole).sh.length≤6*k+6:=by
 obtain⟨a1,a2,a3,a4,a5,a6,-,-⟩:=wW h n ht hn whole hk;have s:=Wf a1 a2 a3 a4 (now-(Xc m n t now whole).since) whole;exact⟨s.1,s.2.1,by have:=s.2.2;dsimp only[fg];omega⟩
def RoI.del{k:Nat}{m:oV}(h:RoI k m)(nd:(m.map (·.1)).Nodup)(n:B0):RoI k (Kk m n):=by
 intro n' x hx;rw[mZ n n' nd]at hx;split at hx
 ·cases hx
 ·exact h n' x hx
structure RgI(j:Nat)(ws:MSI)(ts:MSS):Prop where
 lw:ws.length≤j
 lt:ts.length≤j
 zw:∀x∈ws,x.1.size≤100∧0≤x.2∧x.2≤100*j
 zt:∀x∈ts,x.1.size≤100∧x.2.size≤100
def Wm{k:Nat}{a:yY}(ok:a.Ok)(h:BkI k a)(cfg:B0):∀{l:List Tgt}{j:Nat}{ws:MSI}{ts:MSS},(∀t∈l,(0≤pct t∧pct t≤100)∧t.2.1.size≤100)→RgI j ws ts→RgI (j+l.length) (VH a cfg l ws ts).2.1 (VH a cfg l ws ts).2.2
 | [],_,_,_,_,h=>h
 | t::l,j,ws,ts,hl,hr=>by
  rw[DV];have ht:=hl t (by simp);have hz:=Bj ok h cfg t;have e:j+(t::l).length=(j+1)+l.length:=by rw[List.length_cons];omega
  split
  ·rw[e];refine Wm ok h cfg (λx hx=>hl x (by simp[hx])) ⟨?_,?_,λx hx=>?_,λx hx=>?_⟩
   ·have:=xg ws (qY a cfg t).1 ((zr ws (qY a cfg t).1).getD 0+pct t);have:=hr.lw;omega
   ·have:=hr.lt;split
    ·omega
    ·have:=xg ts t.2.1 (qY a cfg t).1;omega
   ·rcases Zp hx with rfl | hx
    ·refine⟨hz,?_⟩;dsimp only
     cases hg:zr ws (qY a cfg t).1 with
     | none=>simp only[Option.getD_none];omega
     | some v=>have:=(hr.zw _ (yK hg)).2;simp only[Option.getD_some];dsimp only at this;omega
    ·have:=hr.zw x hx;exact⟨this.1,this.2.1,by omega⟩
   ·split at hx
    ·exact hr.zt x hx
    ·rcases Zp hx with rfl | hx
     ·exact⟨ht.2,hz⟩
     ·exact hr.zt x hx
  ·exact⟨by have:=hr.lw;dsimp only;omega,by have:=hr.lt;dsimp only;omega,λx hx=>by have:=hr.zw x hx;exact⟨this.1,this.2.1,by rw[e];omega⟩,hr.zt⟩
def Rj{m:List (B0×Int)}{s:Shr}(h:s∈kd m):(s.1,@id Int s.2.1)∈m:=by
 unfold kd at h;obtain⟨x,hx,rfl⟩:=List.mem_map.1 h;have hx:=vO.1 hx
 cases hg:zr m x with
 | none=>exact absurd hx (YE.1 hg)
 | some v=>exact yK hg
def Ht{m:List (B0×B0)}{s:Tgo}(h:s∈Kg m):(s.1,s.2.1)∈m:=by
 unfold Kg at h;obtain⟨x,hx,rfl⟩:=List.mem_map.1 h;have hx:=vO.1 hx
 cases hg:zr m x with
 | none=>exact absurd hx (YE.1 hg)
 | some v=>exact yK hg
def CJ{k:Nat}{a:yY}(ok:a.Ok)(h:BkI k a){r:ARt}(hl:r.ts.length≤6)(ht:∀t∈r.ts,(0≤pct t∧pct t≤100)∧t.2.1.size≤100):z18 (resolve a r).1:=by
 have hg:=Wm ok h r.cfg (l:=r.ts) (j:=0) (ws:=[]) (ts:=[]) ht ⟨Nat.le_refl _,Nat.le_refl _,by simp,by simp⟩;unfold resolve;split
 ·refine⟨λs hs=>?_,λs hs=>?_,λs hs=>?_,?_,?_⟩
  ·have:=(hg.zw _ (Rj (List.mem_filter.1 hs).1)).2;dsimp only at this;exact⟨this.1,by omega⟩
  ·exact(hg.zw _ (Rj (List.mem_filter.1 hs).1)).1
  ·exact hg.zt _ (Ht hs)
  ·have h1:=List.length_filter_le DX (kd (VH a r.cfg r.ts [] []).2.1);have h2:(kd (VH a r.cfg r.ts [] []).2.1).length=(VH a r.cfg r.ts [] []).2.1.length:=by unfold kd;rw[List.length_map,jp,List.length_map]
   have:=hg.lw;dsimp only;omega
  ·have h2:(Kg (VH a r.cfg r.ts [] []).2.2).length=(VH a r.cfg r.ts [] []).2.2.length:=by unfold Kg;rw[List.length_map,jp,List.length_map]
   have:=hg.lt;dsimp only;omega
 ·exact⟨(by intro s hs;cases hs),(by intro s hs;cases hs),(by intro s hs;cases hs),Nat.zero_le _,Nat.zero_le _⟩
def We{a:ARt}(h:gg a=0):(yp a.name.data.toList 16=true∧yp a.cfg.data.toList 16=true)∧(0≤a.roll∧a.roll≤60)∧a.ts.length≤6∧∀t∈a.ts,(0≤pct t∧pct t≤100)∧t.2.1.size≤100:=by
 have hl:=TU h;unfold gg at h;split at h
 ·rename_i h1;split at h
  ·rename_i h2;split at h
   ·rename_i h3;refine⟨h1,h2,hl,λt ht=>?_⟩;have h4:tgE t=0:=by
     split at h
     ·rename_i x hx;have:=List.find?_some hx;simp only[decide_eq_true_eq]at this;exact absurd h this
     ·rename_i hx;have:=List.find?_eq_none.1 hx t ht;simpa using this
    refine⟨EI h4,?_⟩;unfold tgE at h4;split at h4
    ·cases h4
    ·rename_i h5;unfold Fp at h5;by_cases e:t.2.1=s_
     ·rw[e];decide
     ·have h6:yp t.2.1.data.toList 8=true:=by simpa [e]using h5
      unfold yp at h6;simp only[Bool.and_eq_true,decide_eq_true_eq]at h6;have h7:(t.2.1.data.toList.length:Int)≤8:=h6.2;have h8:t.2.1.data.toList.length=t.2.1.size:=by rw[Array.length_toList];rfl
      omega
   ·cases h
  ·cases h
 ·cases h
def Bm{t:Vr}{m:Nat}(hw:WBd t.sh)(zs:∀s∈t.sh,s.1.size≤100)(zg:∀s∈t.tg,s.1.size≤100∧s.2.1.size≤100)(hl:t.sh.length+t.tg.length≤m)(hm:m≤80000):z3i t:=by
 refine⟨λs hs=>⟨hw s hs,by have:=zs s hs;omega⟩,λs hs=>by have:=zg s hs;omega,?_⟩;have h:=tM 1200 (UH t) (λx hx=>by
  unfold UH at hx;rcases List.mem_append.1 hx with hx | hx
  ·obtain⟨s,hs,rfl⟩:=List.mem_map.1 hx;have h1:=zs s hs;have h2:=Li (@id Int s.2.1).toNat;have h3:=hw s hs;have h4:gk.size=1:=rfl;unfold shT;rw[ByteArray.size_append,ByteArray.size_append];omega
  ·obtain⟨s,hs,rfl⟩:=List.mem_map.1 hx;have h1:=zg s hs;have h4:gj.size=1:=rfl;unfold toT;rw[ByteArray.size_append,ByteArray.size_append];omega)
 unfold Dg;have h2:(UH t).length=t.sh.length+t.tg.length:=by unfold UH;simp
 rw[h2]at h;have:(t.sh.length+t.tg.length)*(1200+1)≤80000*1201:=Nat.mul_le_mul (by omega) (by omega);omega
end Go.Proofs.YtimahgbgejngiaaGreatDoor
namespace Go.Proofs.YtimahgbgejngiaaGreatDoor
open Go.Dm
attribute [local irreducible] L.load L.store L.chk L.new L.nonnil L.guard L.ite L.draw L.idx L.sem L.semR L.semU L.chkSem L.next L.call L.callV L.join L.alts L.loop L.begin L.endRound L.range
variable {w0 w:World}{E:List Seg}
def lG(a:zK)(e:AEv):zK×List B0:=
 if(TX a.sh e.n e.name e.draw).2≠0 then({ a with sh:=(TX a.sh e.n e.name e.draw).1 },Xo (TX a.sh e.n e.name e.draw).2)
 else({ a with sh:=(TX a.sh e.n e.name e.draw).1,ro:=if e.n=2 then Kk a.ro e.name else a.ro },[Zy Se [e.name]])
def UJ(a:zK)(e:AEv):zK×List B0:=
 if(Jt a.fl e.n).2.2≠0 then({ a with fl:=(Jt a.fl e.n).1 },Xo (Jt a.fl e.n).2.2)
 else({ a with fl:=(Jt a.fl e.n).1,gt:=(Oj a.gt (Jt a.fl e.n).2.1).1 },Zy TZ [ju e.n.toNat]::(Oj a.gt (Jt a.fl e.n).2.1).2.map XL)
def eR [xi w0](h:St w0 E w)(i:Nat){b:Nat}{a:zK}{s:Seg}(hi:nth E i=some s)(hs:yV b a s){e:AEv}(he:0≤e.n∧e.n≤9000000000000000000)(hn:(Jt a.fl e.n).2.1.length<1000000)(hf:∀f∈(Oj a.gt (Jt a.fl e.n).2.1).2,f.Ok)
  {k:Sl→PT} (hk:Hk w0 E i b (UJ a e) k):Qs (some ⟨b,0,none⟩) e.t (slK k) w:=by
 obtain⟨p,sg,sf,ss,sk,sr,sm,Q,R,rfl⟩:=hs;have hfl:(Oj a.gt (Jt a.fl e.n).2.1).2.length<100000000:=by
  have:=(gv (l:=(Jt a.fl e.n).2.1) (all:=a.gt.all) (out:=[])).1;unfold Oj;simp only[List.length_nil]at this;dsimp only;omega
 unfold Qs;unfold UJ at hk;have h:=(h.front i hi).split8;refine nw h ?_;clear h;intro b1 w h
 (dsimp only[zd,List.cons_append,List.nil_append]at h;refine dr h ?_;clear h;intro w h;refine nn ?_;refine ldC h ?_;refine ldC h ?_)
 refine z1F h 3 rfl R.fl λv1 sf' s2 w hF r1 h=>?_;dsimp only[zd]at h;generalize Jt a.fl e.n=g at *
 obtain⟨F,ids,no⟩:=g;dsimp only at *
 refine it (λhc=>?_) (λhc=>?_)
 ·rw[if_pos (by simpa using hc)]at hk;refine XD h λv s w r h=>?_;exact⟨v,rfl,hk v s _ w r ⟨p,sg,sf',ss,sk,sr,sm,Q,⟨R.gt,hF,R.sh,R.bk,R.ro,R.mp,R.ea,R.ab⟩,rfl⟩ (jC i hi (Yf (Yf h)))⟩
 rw[if_neg (by simpa using hc)]at hk
 refine Zz (λ(z:Sl×Unit) w=>∃sv sg',GtS p.g p.f (Oj a.gt ids).1 sg'∧Rw eS zc 1 z.1 (Zy TZ [ju e.n.toNat]::(Oj a.gt ids).2.map XL) sv∧
  St w0 (sv::VD b p a.now::sg'::sf'::ss::sk::sr::sm::(Q.map BsE.sg).flatten::Zv E i) w) (λk7 hk7=>?_) ?_
 ·(refine dr h ?_;clear h;intro w h;refine nn ?_;refine ldC h ?_;refine ldC h ?_)
  refine kI ?_ ?_
  ·have h:=YA h;refine su h R.gt r1 hn λv sv sg' w hr hG h=>?_
   (refine ckC h ?_)
   refine nw h ?_;clear h;intro b13 w h
   (refine ckC h ?_)
   refine Qj h (by decide) he.1 (by omega) λw h=>?_;refine nw h ?_;clear h;intro b15 w h;refine cP h (l:=[Zy TZ [ju e.n.toNat]]) hr hf hfl (by simp) (Rw.lit b15 [_] yh rfl rfl (by simp[maxLen])) λv s w r h=>?_;refine hk7 _ w ⟨s,sg',hG,r,?_⟩;have h:=Yf (VP (ko h));have h:=ZL (ZL (yO h));exact h
  ·refine nw h ?_;clear h;intro b17 w h
   (refine ckC h ?_)
   have h:=Yh (yO h);refine su h R.gt r1 hn λv sv sg' w hr hG h=>?_
   (refine ckC h ?_)
   have h:=YA h;refine Qj h (by decide) he.1 (by omega) λw h=>?_;refine nw h ?_;clear h;intro b20 w h;refine cP h (l:=[Zy TZ [ju e.n.toNat]]) hr hf hfl (by simp) (Rw.lit b20 [_] yh rfl rfl (by simp[maxLen])) λv s w r h=>?_;refine hk7 _ w ⟨s,sg',hG,r,?_⟩;have h:=Yf (VP (ko h));have h:=ZL (ZL (yO h));exact h
 clear h;rintro⟨z,⟨⟩⟩ w ⟨sv,sg',hG,r,h⟩;dsimp only at r ⊢;exact⟨z,rfl,hk z sv _ w r ⟨p,sg',sf',ss,sk,sr,sm,Q,⟨hG,hF,R.sh,R.bk,R.ro,R.mp,R.ea,R.ab⟩,rfl⟩ (jC i hi h)⟩
def mn2(a b:Int):Int:=if b<a then b else a
def mx2(a b:Int):Int:=if b>a then b else a
def jz(s n c:Int):Int:=if n≤0 then 0 else if c≤0 then 0 else(s+n*c-1)/(n*c)
def DQ{s n c:Int}(hs:0≤s∧s≤1000000000000)(hn:0≤n∧n≤100)(hc:0≤c∧c≤100):0≤jz s n c∧jz s n c≤1000000000000:=by
 unfold jz;split
 ·exact⟨by decide,by decide⟩
 ·split
  ·exact⟨by decide,by decide⟩
  ·have h1:1≤n*c:=by have:=Int.mul_le_mul (show(1:Int)≤n by omega) (show(1:Int)≤c by omega) (by omega) (by omega);omega
   have h2:n*c≤100*100:=Int.mul_le_mul hn.2 hc.2 (by omega) (by omega);generalize n*c=m at *
   refine⟨Int.ediv_nonneg (by omega) (by omega),Int.ediv_le_of_le_mul (by omega) ?_⟩;have:=Int.mul_le_mul_of_nonneg_left h1 (show(0:Int)≤1000000000000 by decide);omega
def FW{s n c:Int}(hs:0≤s∧s≤1000000000000)(hn:0≤n∧n≤100)(hc:0≤c∧c≤100){k:Int→PT}(hk:k (jz s n c) w):L.call Pr XR [I s,I n,I c] (.one (.one (.int .i64))) k w:=by
 refine za (LN s n c) ?_;unfold Tp;unfold jz at hk;refine it (λh1=>?_) (λh1=>?_)<;>(try simp only[zB]at h1)
 ·rw[if_pos h1]at hk;exact⟨_,rfl,hk⟩
 ·rw[if_neg h1]at hk;refine it (λh2=>?_) (λh2=>?_)<;>(try simp only[zB]at h2)
  ·rw[if_pos h2]at hk;exact⟨_,rfl,hk⟩
  ·rw[if_neg h2]at hk;have h3:1≤n*c:=by have:=Int.mul_le_mul (show(1:Int)≤n by omega) (show(1:Int)≤c by omega) (by omega) (by omega);omega
   have h4:n*c≤100*100:=Int.mul_le_mul hn.2 hc.2 (by omega) (by omega);have e1:Wi (n*c)=n*c:=wr (by omega) (by omega);rw[e1];generalize n*c=m at *
   have e2:Wi (s+m)=s+m:=wr (by omega) (by omega);have e3:Wi (s+m-1)=s+m-1:=wr (by omega) (by omega);rw[e2,e3];refine gd (by omega) ⟨_,rfl,?_⟩;have e4:Int.tdiv (s+m-1) m=(s+m-1)/m:=Int.tdiv_eq_ediv_of_nonneg (by omega);have e5:(s+m-1)/m≤2000000000000:=Int.ediv_le_of_le_mul (by omega) (by
    have:=Int.mul_le_mul_of_nonneg_left h3 (show(0:Int)≤2000000000000 by decide);omega)
   have e6:0≤(s+m-1)/m:=Int.ediv_nonneg (by omega) (by omega);rw[e4,wr (by omega) (by omega)];exact hk
abbrev scM(ready:Int):Int:=if ready>1 then ready else 1
def vQ(left b m:Int):Int:=if b≥2*m then 6 else if 0>left-1 then 0 else left-1
def rH(want left' a b:Int):Int:=if left'>0 then mx2 (mx2 want a) b else a
def Sa(w1 want busy idle grace:Int):Int:=if w1=0∧(busy>0∨(want>0∧idle<grace))then 1 else w1
def CG(w2 ready mi ma:Int):Int:=mn2 (mx2 (mx2 (mn2 w2 (4*scM ready)) (ready/2)) mi) ma
def CH(want left:Int)(c:Cfg)(ready busy st sts sh shs idle:Int):Int×Int:=
 (CG (Sa (rH want (vQ left (jz sh shs c.2.2.1) (scM ready)) (jz st sts c.2.2.1) (jz sh shs c.2.2.1)) want busy idle c.2.2.2.2.2.1) ready c.2.2.2.1 c.2.2.2.2.1,vQ left (jz sh shs c.2.2.1) (scM ready))
def lh(h:St w0 E w){want left b m:Int}(hl:0≤left∧left≤1000)(hm:0≤m∧m≤1000000){k:Int→PT}(hk:∀w',St w0 E w'→k (vQ left b m) w'):L.call Pr xr [.agg #[I want,I left],I b,I m] (.one (.one (.int .i64))) k w:=by
 refine za (Fd (want,left,()) b m) ?_;unfold vI;unfold vQ at hk;have e1:Wi (2*m)=2*m:=wr (by omega) (by omega);have e2:Wi (left-1)=left-1:=wr (by omega) (by omega);dsimp only;rw[e1];refine nw h ?_;clear h;intro b1 w h;refine it (λh1=>?_) (λh1=>?_)<;>(try simp only[zB]at h1)
 ·rw[if_pos h1]at hk;exact⟨_,rfl,hk w (zm h)⟩
 ·rw[if_neg h1]at hk
  (refine ldC h ?_)
  rw[e2];exact⟨_,rfl,hk w (zm h)⟩
def Ij(h:St w0 E w){want left a b:Int}{k:Int→PT}(hk:∀w',St w0 E w'→k (mx2 (mx2 want a) b) w'):L.call Pr uV [.agg #[I want,I left],.agg #[I a,I b]] (.one (.one (.int .i64))) k w:=by
 refine za (Pp (want,left,()) (a,b,())) ?_;unfold ou;refine nw h ?_;clear h;intro b1 w h;refine nw h ?_;clear h;intro b2 w h
 (dsimp only[zd,List.cons_append,List.nil_append]at h;refine ldC h ?_)
 refine ix (by decide) (by decide) ?_
 (refine ldC h ?_)
 refine ix (by decide) (by decide) ?_
 (refine ldC h ?_)
 exact⟨_,rfl,hk w (zm (zm h))⟩
def aH(h:St w0 E w){c:Cfg}{ready m:Int}(hr:0≤ready∧ready≤1000000)(hm:0≤m∧m≤1000000){k:HT [.int .i64,.int .i64,.int .i64,.int .i64]→PT}(hk:∀w',St w0 E w'→k (4*m,ready/2,c.2.2.2.1,c.2.2.2.2.1,()) w') :
  L.call Pr KQ [.agg (Cfg.cells c).toArray,I ready,I m] (.one (.agg [.int .i64,.int .i64,.int .i64,.int .i64])) k w:=by
 refine za (ND c ready m) ?_;unfold mc;have e1:Wi (4*m)=4*m:=wr (by omega) (by omega);have e2:Int.tdiv ready 2=ready/2:=Int.tdiv_eq_ediv_of_nonneg hr.1;have e3:Wi (ready/2)=ready/2:=wr (by omega) (by omega);rw[e1,e2,e3];refine nw h ?_;clear h;intro b1 w h;refine nw h ?_;clear h;intro b2 w h;refine gd (by decide) ?_
 (refine ldC h ?_;refine ldC h ?_;refine stC h ?_;clear h;intro w h;dsimp only[zJ,zd]at h;refine laC h ?_)
 exact⟨(4*m,ready/2,c.2.2.2.1,c.2.2.2.2.1,()),rfl,hk w (zm (zm h))⟩
abbrev z0P(b:Nat)(c:Cfg):Seg:=[Cl b zA (Cfg.cells c)]
def aG(h:St w0 E w){want left:Int}{c:Cfg}{ready busy st sts sh shs idle:Int}(hw:0≤want∧want≤1000)(hl:0≤left∧left≤1000)(hc:0≤@id Int c.2.2.1∧@id Int c.2.2.1≤100)(hr:0≤ready∧ready≤1000000)
  (h1:0≤st∧st≤1000000000000) (h2:0≤sts∧sts≤100) (h3:0≤sh∧sh≤1000000000000) (h4:0≤shs∧shs≤100) {k:HT [.int .i64,.int .i64]→PT} (hk:∀w',St w0 E w'→k ((CH want left c ready busy st sts sh shs idle).1,(CH want left c ready busy st sts sh shs idle).2,()) w') :
  L.call Pr KR [.agg #[I want,I left],.agg (Cfg.cells c).toArray,I ready,I busy,I st,I sts,I sh,I shs,I idle] (.one (.agg [.int .i64,.int .i64])) k w:=by
 refine za (NE (want,left,()) c ready busy st sts sh shs idle) ?_;unfold md;have hm:0≤scM ready∧scM ready≤1000000:=by unfold scM;split<;>omega
 obtain⟨c1,c2,c3,c4,c5,c6,⟨⟩⟩:=c;unfold CH at hk;have ea:=DQ h1 h2 hc;have eb:=DQ h3 h4 hc;change 0≤jz st sts c3∧jz st sts c3≤1000000000000 at ea;change 0≤jz sh shs c3∧jz sh shs c3≤1000000000000 at eb;change 0≤c3∧c3≤100 at hc;dsimp only at hk ⊢;change ∀w',St w0 E w'→k (CG (Sa (rH want (vQ left (jz sh shs c3) (scM ready)) (jz st sts c3) (jz sh shs c3)) want busy idle c6) ready c4 c5,vQ left (jz sh shs c3) (scM ready),()) w' at hk;refine nw h ?_;clear h;intro b1 w h;refine nw h ?_;clear h;intro b2 w h;refine nw h ?_;clear h;intro b3 w h;refine Zz (λ(z:Addr×Unit) w=>∃b,z=(⟨b,0,none⟩,())∧St w0 ([Cl b Ol [I (jz st sts c3),I (jz sh shs c3)]]::[Cl b3 ZY [I 0,I 0]]::z0P b2 (c1,c2,c3,c4,c5,c6,())::[Cl b1 ZY [I want,I left]]::E) w) (λk4 hk4=>?_) ?_
 ·(refine dr h ?_;clear h;intro w h;refine ldC h ?_;refine ldC h ?_)
  refine kI ?_ ?_
  ·refine FW h1 h2 hc ?_
   (refine ckC h ?_)
   refine kI ?_ ?_
   ·refine FW h3 h4 hc ?_;refine nw h ?_;clear h;intro b w h
    (refine ckC h ?_;refine ckC h ?_;refine stC h ?_;clear h;intro w h;dsimp only[zJ,zd]at h)
    exact hk4 _ w ⟨b,rfl,h⟩
   ·refine nw h ?_;clear h;intro b w h
    (refine ckC h ?_;refine ckC h ?_)
    refine FW h3 h4 hc ?_
    (refine stC h ?_;clear h;intro w h;dsimp only[zJ,zd]at h)
    exact hk4 _ w ⟨b,rfl,h⟩
  ·refine nw h ?_;clear h;intro b w h
   (refine ckC h ?_;refine ckC h ?_)
   refine FW h1 h2 hc ?_
   (refine ckC h ?_)
   refine FW h3 h4 hc ?_
   (refine stC h ?_;clear h;intro w h;dsimp only[zJ,zd]at h)
   exact hk4 _ w ⟨b,rfl,h⟩
 generalize jz st sts c3=A at *
 generalize jz sh shs c3=B at *
 clear h;rintro z w ⟨b4,rfl,h⟩
 (try dsimp only)
 refine Zz (λ(z:Addr×Unit) w=>∃b,z=(⟨b,0,none⟩,())∧St w0 ([Cl b ZY [I A,I (vQ left B (scM ready))]]::[Cl b4 Ol [I A,I B]]::[Cl b3 ZY [I 0,I 0]]::z0P b2 (c1,c2,c3,c4,c5,c6,())::[Cl b1 ZY [I want,I left]]::E) w) (λk4 hk4=>?_) ?_
 ·(refine dr h ?_;clear h;intro w h)
  refine ix (by decide) (by decide) ?_
  (refine ldC h ?_;refine laC h ?_)
  refine ix (by decide) (by decide) ?_
  (refine ldC h ?_)
  refine kI ?_ ?_
  ·refine lh h hl hm λw h=>?_
   (refine ckC h ?_)
   refine nw h ?_;clear h;intro b w h
   (refine ckC h ?_;refine ckC h ?_;refine ckC h ?_;refine stC h ?_;clear h;intro w h;dsimp only[zJ,zd]at h)
   exact hk4 _ w ⟨b,rfl,h⟩
  ·refine nw h ?_;clear h;intro b w h
   (refine ckC h ?_;refine ckC h ?_;refine ckC h ?_)
   refine lh h hl hm λw h=>?_
   (refine ckC h ?_;refine stC h ?_;clear h;intro w h;dsimp only[zJ,zd]at h)
   exact hk4 _ w ⟨b,rfl,h⟩
 generalize vQ left B (scM ready)=L1 at *
 clear h;rintro z w ⟨b5,rfl,h⟩
 (try dsimp only)
 refine Zz (λ(_:Unit) w=>St w0 ([Cl b5 ZY [I (rH want L1 A B),I L1]]::[Cl b4 Ol [I A,I B]]::[Cl b3 ZY [I 0,I 0]]::z0P b2 (c1,c2,c3,c4,c5,c6,())::[Cl b1 ZY [I want,I left]]::E) w) (λk4 hk4=>?_) ?_
 ·(refine ldC h ?_)
  unfold rH at hk4;refine it (λhc1=>?_) (λhc1=>?_)<;>(try simp only[zB]at hc1)
  ·rw[if_pos hc1]at hk4
   (refine laC h ?_;refine laC h ?_)
   refine Ij h λw h=>?_
   (refine stC h ?_;clear h;intro w h;dsimp only[zJ,zd]at h)
   exact hk4 _ w h
  ·rw[if_neg hc1]at hk4;exact hk4 _ w h
 generalize rH want L1 A B=W1 at *
 clear h;rintro _ w h
 (try dsimp only)
 refine Zz (λ(_:Unit) w=>St w0 ([Cl b5 ZY [I (Sa W1 want busy idle c6),I L1]]::[Cl b4 Ol [I A,I B]]::[Cl b3 ZY [I 0,I 0]]::z0P b2 (c1,c2,c3,c4,c5,c6,())::[Cl b1 ZY [I want,I left]]::E) w) (λk4 hk4=>?_) ?_
 ·(refine ldC h ?_)
  unfold Sa at hk4;refine it (λd1=>?_) (λd1=>?_)<;>(try simp only[zB]at d1)
  ·subst d1;refine it (λd2=>?_) (λd2=>?_)<;>(try simp only[zB]at d2)
   ·rw[if_pos ⟨rfl,.inl d2⟩]at hk4
    (refine stC h ?_;clear h;intro w h;dsimp only[zJ,zd]at h)
    exact hk4 _ w h
   ·(refine ldC h ?_)
    refine it (λd3=>?_) (λd3=>?_)<;>(try simp only[zB]at d3)
    ·(refine ldC h ?_)
     refine it (λd4=>?_) (λd4=>?_)<;>(try simp only[zB]at d4)
     ·rw[if_pos ⟨rfl,.inr ⟨d3,d4⟩⟩]at hk4
      (refine stC h ?_;clear h;intro w h;dsimp only[zJ,zd]at h)
      exact hk4 _ w h
     ·rw[if_neg (by omega)]at hk4;exact hk4 _ w h
    ·rw[if_neg (by omega)]at hk4;exact hk4 _ w h
  ·rw[if_neg (λhh=>d1 hh.1)]at hk4;exact hk4 _ w h
 generalize Sa W1 want busy idle c6=W2 at *
 clear h;rintro _ w h
 (try dsimp only)
 (refine laC h ?_)
 refine aH (c:=(c1,c2,c3,c4,c5,c6,())) h hr hm λw h=>?_;refine nw h ?_;clear h;intro b40 w h
 (refine stC h ?_;clear h;intro w h;dsimp only[zJ,zd]at h;refine ldC h ?_)
 refine ix (by decide) (by decide) ?_
 (refine ldC h ?_)
 refine ix (by decide) (by decide) ?_
 (refine ldC h ?_)
 refine ix (by decide) (by decide) ?_
 (refine ldC h ?_)
 refine ix (by decide) (by decide) ?_
 (refine ldC h ?_;refine stC h ?_;clear h;intro w h;dsimp only[zJ,zd]at h;refine laC h ?_;refine stC h ?_;clear h;intro w h;dsimp only[zJ,zd]at h;refine laC h ?_)
 exact⟨(_,_,()),rfl,hk w (zm (zm (zm (zm (zm (zm h))))))⟩
def RK{m:Int}:∀{l:List Int},(∀y∈l,0≤y∧y≤m)→0≤oW l∧oW l≤l.length*m
 | [],_=>⟨Int.le_refl 0,by simp[oW]⟩
 | x::l,h=>by
  have a:=RK (l:=l) λy hy=>h y (by simp[hy]);have b:=h x (by simp);unfold oW;have e:((x::l).length:Int)*m=l.length*m+m:=by rw[List.length_cons,Int.natCast_add,Int.add_mul];simp
  rw[e];omega
def WA{xs:List Int}(h:∀y∈xs,0≤y∧y≤100000000){m:Nat}(hm:m≤60):0≤QY xs m∧QY xs m≤6000000000:=by
 have a:=RK (m:=100000000) (l:=xs.reverse.take m) λy hy=>h y (by have:=List.mem_of_mem_take hy;simpa using this);have b:(xs.reverse.take m).length≤m:=by rw[List.length_take];omega
 unfold QY;omega
def tL(xs:List Int)(p:Int):KY xs p≤60:=by unfold KY;omega
def KL(a:zK)(x:OZ)(rev:B0):Int×Int:=
 CH x.want x.left (qo a.bk rev).2.2 (cnt (λs=>s == 2) (jW a.fl.l rev)) (Uu a.gt rev) (QY x.xs (KY x.xs 6)) (KY x.xs 6) (QY x.xs (KY x.xs 2)) (KY x.xs 2) (tz x.xs)
def uw(a:zK)(e:AEv):zK×List B0:=
 if jL a.bk e.name=false then(a,Xo 6)else match zr a.by' e.name with
 | none=>(a,[])
 | some x=>({ a with by':=zX a.by' e.name ⟨x.xs,(KL a x e.name).1,(KL a x e.name).2⟩ },[Zy (Zy Jk [e.name]) [ju (KL a x e.name).1.toNat]])
def aD [xi w0](h:St w0 E w)(i:Nat){b:Nat}{a:zK}{s:Seg}(hi:nth E i=some s)(hs:yV b a s){e:AEv}(hname:e.name.size≤100000)(hby:jL a.bk e.name=true→(zr a.by' e.name).isSome=true)
  (hx:∀x,zr a.by' e.name=some x→((0≤x.want∧x.want≤1000)∧(0≤x.left∧x.left≤1000)∧(∀y∈x.xs,0≤y∧y≤100000000)∧x.xs.length<1000000000)∧0≤(KL a x e.name).1∧(KL a x e.name).1≤1000)
  (hc:jL a.bk e.name=true→0≤@id Int (qo a.bk e.name).2.2.2.2.1∧@id Int (qo a.bk e.name).2.2.2.2.1≤100) (hpn:(jW a.fl.l e.name).length<1000000) {k:Sl→PT} (hk:Hk w0 E i b (uw a e) k) :
  qF (some ⟨b,0,none⟩) e.t (slK k) w:=by
 have hs0:=hs;obtain⟨p,sg,sf,ss,sk,sr,sm,Q,R,rfl⟩:=hs;unfold qF;unfold uw at hk;have h:=(h.front i hi).split8;refine nw h ?_;clear h;intro b1 w h
 refine Zz (λ(z:Addr×Bool×Unit) w=>∃b8:Nat,z=(⟨b8,0,none⟩,jL a.bk e.name,())∧
  St w0 ([Cl b8 zU (rvC (qo a.bk e.name))]::[Cl b1 zq (eEw e)]::VD b p a.now::sg::sf::ss::sk::sr::sm::(Q.map BsE.sg).flatten::Zv E i) w) (λk2 hk2=>?_) ?_
 ·(dsimp only[zd,List.cons_append,List.nil_append]at h;refine dr h ?_;clear h;intro w h;refine nn ?_;refine ldC h ?_;refine ldC h ?_)
  refine kI ?_ ?_
  ·refine GM h 5 rfl R.bk λw h=>?_;refine nw h ?_;clear h;intro b8 w h
   (refine ckC h ?_;refine ckC h ?_;refine stC h ?_;clear h;intro w h;dsimp only[zJ,zd]at h)
   exact hk2 _ w ⟨b8,rfl,h⟩
  ·refine nw h ?_;clear h;intro b8 w h
   (refine ckC h ?_;refine ckC h ?_)
   refine GM h 6 rfl R.bk λw h=>?_
   (refine stC h ?_;clear h;intro w h;dsimp only[zJ,zd]at h)
   exact hk2 _ w ⟨b8,rfl,h⟩
 clear h;rintro z w ⟨b8,rfl,h⟩
 (try dsimp only)
 refine it (λhc1=>?_) (λhc1=>?_)
 ·have hc1:jL a.bk e.name=false:=by simpa using hc1
  rw[if_pos hc1]at hk;refine XD h λv s w r h=>?_;exact⟨v,rfl,hk v s _ w r hs0 (jC i hi (Yf (Yf h)))⟩
 have hc1:jL a.bk e.name=true:=by simpa using hc1
 rw[if_neg (by simp[hc1])]at hk;obtain⟨x,hgx⟩:=Option.isSome_iff_exists.1 (hby hc1);obtain⟨⟨hw,hl,hy,hln⟩,hd⟩:=hx x hgx;have hc:=hc hc1;rw[hgx]at hk;dsimp only at hk;clear hby hx;have hqx:∃q,Us BsE.k Q e.name=some q∧q.x=x:=by
  rw[R.ab,Pg]at hgx
  cases hf:Us BsE.k Q e.name with
  | none=>rw[hf]at hgx;cases hgx
  | some q=>rw[hf]at hgx;exact⟨q,rfl,by simpa using hgx⟩
 obtain⟨q,hfx,rfl⟩:=hqx;have hmk:=R.mp.nd
 (refine dr h ?_;clear h;intro w h;refine nn ?_;refine ldC h ?_;refine ldC h ?_)
 have hlk:((zr (Q.map BsE.kp) e.name).map λx:Option Addr=>x).getD none=some ⟨q.b,0,none⟩:=by rw[Pf,hfx];rfl
 refine MpS.get ve TO En (λx:Option Addr=>x) (λ_=>rfl) h 8 rfl R.mp ?_;rw[hlk];have ea:=R.ea;have hab:=R.ab;have hmp:=R.mp;obtain⟨A,B,eQ,hxk⟩:=KX hfx
 (refine ldC h ?_)
 refine Nc h (i:=2) (j:=4) rfl rfl R.fl (fv:=⟨.func Jl,#[],#[]⟩) (q:=λs=>s == 2) hpn (λ{E' w x k} h hk=>?_) λw h=>?_
 ·refine jK (fs:=#[]) (cs:=#[]) Gb (Gd x) ?_;unfold Ux;exact⟨_,rfl,hk w h⟩
 have hcn:0≤cnt (λs=>s == 2) (jW a.fl.l e.name)∧cnt (λs=>s == 2) (jW a.fl.l e.name)≤1000000:=by
  unfold cnt;have:=List.length_filter_le (λx:Int×Int×Int=>(λs=>s == 2) x.2.1) (jW a.fl.l e.name);refine⟨Int.natCast_nonneg _,?_⟩;have h2:((jW a.fl.l e.name).filter λx:Int×Int×Int=>(λs=>s == 2) x.2.1).length≤1000000:=by omega
  exact Int.ofNat_le.2 h2
 have hdd:(KL a q.x e.name)=CH q.x.want q.x.left (qo a.bk e.name).2.2 (cnt (λs=>s == 2) (jW a.fl.l e.name)) (Uu a.gt e.name) (QY q.x.xs (KY q.x.xs 6)) (KY q.x.xs 6) (QY q.x.xs (KY q.x.xs 2)) (KY q.x.xs 2) (tz q.x.xs):=rfl;subst eQ;have h:=vh h;have h:=h.pick.split;have hox:=ea q (by simp);have hr6:=WA hy (tL q.x.xs 6);have hr2:=WA hy (tL q.x.xs 2);have hn6:=tL q.x.xs 6;have hn2:=tL q.x.xs 2
 (refine nn ?_;refine ldC h ?_)
 refine bM h 1 rfl hox (by omega) λw h=>?_;rw[wr (by omega) (by omega)]
 (refine nn ?_;refine ldC h ?_)
 refine bM h 1 rfl hox (by omega) λw h=>?_;rw[wr (by omega) (by omega)]
 (refine dr h ?_;clear h;intro w h;refine nn ?_;refine laC h ?_;refine laC h ?_;refine nn ?_;refine ldC h ?_;refine ldC h ?_;refine nn ?_;refine ldC h ?_)
 have h:=jB h;refine sw h R.gt λsg' w hG h=>?_
 (refine ckC h ?_;refine ckC h ?_;refine ckC h ?_)
 refine It h 2 rfl hox ?_
 (refine ckC h ?_;refine ckC h ?_)
 have hbu:((VN a.gt e.name).length:Int)+(jI a.gt.all e.name).length=Uu a.gt e.name:=rfl;rw[hbu];refine aG (c:=(qo a.bk e.name).2.2) h hw hl hc hcn (by dsimp only;omega) (by dsimp only;omega) (by dsimp only;omega) (by dsimp only;omega) λw h=>?_;rw[←hdd];clear hdd;generalize KL a q.x e.name=d at *
 obtain⟨d1,d2⟩:=d;dsimp only at hd hk ⊢
 (refine nn ?_;refine stC h ?_;clear h;intro w h;dsimp only[zJ,zd]at h)
 refine Zz (λ(z:Sl×Unit) w=>∃sv,Rw eS zc 1 z.1 [Zy (Zy Jk [e.name]) [ju d1.toNat]] sv∧
  St w0 (sv::[Cl q.b qp [.pointer (some ⟨q.g,0,none⟩),I d1,I d2]]::q.sgg::((A++B).map BsE.sg).flatten::VD b p a.now::sg'::sf::ss::sk::sr::sm::Zv E i) w) (λk7 hk7=>?_) ?_
 ·have fin:∀{w b2},St w0 ([Cl b2 zc [.string (Zy (Zy Jk [e.name]) [ju d1.toNat])]]::sg'::[Cl q.b qp [.pointer (some ⟨q.g,0,none⟩),I d1,I d2]]::q.sgg::((A++B).map BsE.sg).flatten::[Cl b8 zU (rvC (qo a.bk e.name))]::[Cl b1 zq (eEw e)]::VD b p a.now::sf::ss::sk::sr::sm::Zv E i) w→k7 (⟨some ⟨b2,0,none⟩,1,1⟩,()) w:=by
   intro w b2 h;refine hk7 _ w ⟨_,Rw.lit b2 [_] yh rfl rfl (by simp[maxLen]),?_⟩;have h:=Pc (nX h);have h:=Js (Js (Js (Js (Js (yO h)))));exact h
  have sz:(Zy Jk [e.name]).size≤100000000:=by rw[Vc];have:Jk.size=5:=rfl;omega
  (refine dr h ?_;clear h;intro w h;refine ldC h ?_;refine nn ?_;refine ldC h ?_;rw[JF])
  refine kI ?_ ?_
  ·refine nw h ?_;clear h;intro b41 w h
   (refine ckC h ?_)
   refine kI ?_ ?_
   ·refine vf h (by decide) (by omega) λw h=>?_
    (refine ckC h ?_)
    refine nw h ?_;clear h;intro b43 w h
    (refine ckC h ?_)
    refine Qj h sz hd.1 (by omega) λw h=>?_;refine nw h ?_;clear h;intro b45 w h;exact fin h
   ·refine nw h ?_;clear h;intro b46 w h
    (refine ckC h ?_)
    have h:=yO h;refine vf h (by decide) (by omega) λw h=>?_
    (refine ckC h ?_)
    refine Qj h sz hd.1 (by omega) λw h=>?_;refine nw h ?_;clear h;intro b49 w h;exact fin h
  ·refine nw h ?_;clear h;intro b50 w h
   (refine ckC h ?_)
   refine nw h ?_;clear h;intro b51 w h
   (refine ckC h ?_)
   refine vf h (by decide) (by omega) λw h=>?_
   (refine ckC h ?_)
   refine Qj h sz hd.1 (by omega) λw h=>?_;refine nw h ?_;clear h;intro b54 w h;exact fin h
 clear h;rintro⟨z,⟨⟩⟩ w ⟨sv,r,h⟩;dsimp only at r ⊢;have et2:=tZ (rev:=e.name) (y:=⟨q.x.xs,d1,d2⟩) (sgg:=q.sgg) hxk (B:=B) (A:=A) (by simpa [List.map_map,Function.comp_def]using hmk);refine⟨z,rfl,hk z sv (z4X b { a with by':=zX a.by' e.name ⟨q.x.xs,d1,d2⟩ } p sg' sf ss sk sr sm (A++⟨q.k,q.b,q.g,⟨q.x.xs,d1,d2⟩,q.sgg⟩::B)) w r ⟨p,sg',sf,ss,sk,sr,sm,A++⟨q.k,q.b,q.g,⟨q.x.xs,d1,d2⟩,q.sgg⟩::B,⟨hG,R.fl,R.sh,R.bk,R.ro,?_,?_,?_⟩,rfl⟩ (jC i hi ?_)⟩
 ·have:(A++(⟨q.k,q.b,q.g,⟨q.x.xs,d1,d2⟩,q.sgg⟩:BsE)::B).map BsE.kp=(A++q::B).map BsE.kp:=by simp
  rw[this];exact hmp
 ·intro y hy;rcases List.mem_append.1 hy with hy | hy
  ·exact ea y (by simp[hy])
  ·rcases List.mem_cons.1 hy with rfl | hy
   ·exact hox
   ·exact ea y (by simp[hy])
 ·rw[et2];show zX a.by' e.name _=_;rw[hab]
 ·have h:=ZL (ZL h);have h:=h.glue;have h:=yO (ZL h);have h:St w0 (BsE.sg ⟨q.k,q.b,q.g,⟨q.x.xs,d1,d2⟩,q.sgg⟩::((A++B).map BsE.sg).flatten::sv::VD b p a.now::sg'::sf::ss::sk::sr::sm::Zv E i) w:=h;have h:=h.place;have h:=Jo (Jo (Jo (Jo (Jo (Jo (Jo (Jo h)))))));exact h
end Go.Proofs.YtimahgbgejngiaaGreatDoor
namespace Go.Proofs.YtimahgbgejngiaaGreatDoor
open Go.Dm
structure yI(k:Nat)(a:zK):Prop where
 fl:FlI k a.fl
 gt:GtI k a.gt
 sh:ShI k a.sh
 bk:BkI k a.bk
 ro:RoI k a.ro
 by':ByI k a.bk a.by'
 now:0≤a.now∧a.now≤1048576
structure SOk(a:zK):Prop where
 fl:a.fl.Ok
 gt:a.gt.Ok
 sh:a.sh.Ok
 bk:a.bk.Ok
 ro:(a.ro.map (·.1)).Nodup
 nd:(a.bk.all.map (·.1)).Nodup
def yV.ok{b:Nat}{a:zK}{s:Seg}(h:yV b a s):SOk a:=by
 obtain⟨p,sg,sf,ss,sk,sr,sm,Q,R,-⟩:=h;refine⟨R.fl.1,R.gt.1,R.sh.1,R.bk.1,?_,?_⟩
 ·obtain⟨r,sm,P,Q,hm,-,e,-⟩:=R.ro;rw[e];have:=hm.nd;simpa [List.map_map,Function.comp_def]using this
 ·obtain⟨-,rA,rP,sA,sP,hA,-⟩:=R.bk;exact hA.nd
def yI.mono{k m:Nat}{a:zK}(h:yI k a)(hm:k≤m):yI m a:=⟨h.fl.mono hm,h.gt.mono hm,h.sh.mono hm,h.bk.mono hm,λn x hx=>(h.ro n x hx).mono hm,h.by'.mono hm,h.now⟩
def lW{room line pat:Int}(h:ne room line pat=true)(hr:room≤30):yI 0 (UP room line pat):=by
 unfold ne wiB at h;simp only[Bool.and_eq_true,decide_eq_true_eq]at h;obtain⟨⟨r1,r2⟩,⟨l1,l2⟩,p1,p2⟩:=h;refine⟨⟨⟨hr,?_,?_⟩,r1,Int.le_refl 0,?_,?_⟩,⟨Nat.le_refl _,?_,Nat.le_refl _,?_,?_,⟨p1,by show pat≤1000;omega⟩,l1,l2⟩,⟨Int.le_refl 0,?_,?_,?_⟩,⟨Nat.le_refl _,?_,?_⟩,?_,⟨?_,?_,?_,?_⟩,Int.le_refl 0,by show(0:Int)≤1048576;decide⟩
 ·show((0:Nat):Int)≤max room 0;omega
 all_goals first | (intro x hx;cases hx;done) | skip
 intro n x h;cases h
def zE(a:zK)(e:AEv):zK×List B0:=
 if ZH e≠0 then(a,[Zy Hb [af (ZH e)]])
 else if e.kind=1 then vM a e else if e.kind=2 then ge a e else if e.kind=3 then lG a e else if e.kind=4 then YU a e else if e.kind=5 then Vs a e else if e.kind=6 then gb a e
 else if e.kind=9 then UI a else if e.kind=10 then VC a e else if e.kind=11 then Oa a e else if e.kind=12 then uw a e else if e.kind=13 then qJ a e else UJ a e
def bw{e:AEv}(h:ZH e=0):(shp e.kind).2=true∧bx (shp e.kind).1 e=0:=by
 unfold ZH at h;split at h
 ·cases h
 ·rename_i h1;exact⟨by simpa using h1,h⟩
def gD{e:AEv}(h:ZH e=0):((shp e.kind).1.1=true→tC e=true)∧((shp e.kind).1.2.1=true→Fy e=true)∧((shp e.kind).1.2.2.2.1=true→wiB e.draw 0 2147483647=true)∧((shp e.kind).1.2.2.2.2.1=true→XJ e.c=0)∧((shp e.kind).1.2.2.2.2.2.1=true→(shp e.kind).1.2.2.2.2.1=false→gg e.r=0):=by
 have h:=(bw h).2;generalize (shp e.kind).1=s at h ⊢;obtain⟨s1,s2,s3,s4,s5,s6,⟨⟩⟩:=s;unfold bx at h;dsimp only at h ⊢;split at h
 ·cases h
 ·split at h
  ·cases h
  ·rename_i h1;split at h
   ·cases h
   ·rename_i h2;split at h
    ·cases h
    ·split at h
     ·cases h
     ·rename_i h3;refine⟨λe1=>?_,λe1=>?_,λe1=>?_,λe1=>?_,λe1 e2=>?_⟩
      ·cases hn:tC e with
       | true=>rfl
       | false=>exact absurd ⟨e1,hn⟩ h1
      ·cases hn:Fy e with
       | true=>rfl
       | false=>exact absurd ⟨e1,hn⟩ h2
      ·cases hn:wiB e.draw 0 2147483647 with
       | true=>rfl
       | false=>exact absurd ⟨e1,hn⟩ h3
      ·rw[if_pos e1]at h;exact h
      ·rw[if_neg (by simp[e2]),if_pos e1]at h;exact h
def BV{e:AEv}(h:ZH e=0):e.kind=1∨e.kind=2∨e.kind=3∨e.kind=4∨e.kind=5∨e.kind=6∨e.kind=7∨e.kind=8∨e.kind=9∨e.kind=10∨e.kind=11∨e.kind=12∨e.kind=13:=by
 have h:=(bw h).1;unfold shp at h
 repeat' (split at h)
 all_goals first | omega | (cases h;done)
def cM{e:AEv}(h:ZH e=0)(hk:e.kind=4∨e.kind=5∨e.kind=6∨e.kind=7∨e.kind=8):idB e.n∧1≤e.n:=by
 have h1:=(gD h).1 (by rcases hk with e | e | e | e | e<;>rw[e]<;>rfl);unfold tC wiB at h1;rw[if_neg (by omega),if_neg (by omega)]at h1;simp only[Bool.and_eq_true,decide_eq_true_eq]at h1;exact⟨⟨by omega,h1.2⟩,h1.1⟩
def iQ{e:AEv}(h:ZH e=0)(hk:e.kind=3∨e.kind=4∨e.kind=10∨e.kind=11):((e.name.size:Nat):Int)≤16:=by
 have h1:=(gD h).2.1 (by rcases hk with e | e | e | e<;>rw[e]<;>rfl);unfold Fy at h1;rw[if_neg (by omega)]at h1;exact vP h1
def iR{e:AEv}(h:ZH e=0)(hk:e.kind=4):0≤e.draw∧e.draw≤2147483647:=by
 have h1:=(gD h).2.2.1 (by rw[hk];rfl);unfold wiB at h1;simpa using h1
def z5q{e:AEv}(h:ZH e=0)(hk:e.kind=1):XJ e.c=0:=(gD h).2.2.2.1 (by rw[hk];rfl)
def z5p{e:AEv}(h:ZH e=0)(hk:e.kind=2):gg e.r=0:=(gD h).2.2.2.2 (by rw[hk];rfl) (by rw[hk];rfl)
def BW{k:Nat}{a:zK}(ok:SOk a)(h:yI k a)(e:AEv):yI (k+1) (vM a e).1:=
 ⟨h.fl.mono (Nat.le_succ k),h.gt.mono (Nat.le_succ k),sV ok.sh h.sh e.c e.n,h.bk.mono (Nat.le_succ k),λn x hx=>(h.ro n x hx).mono (Nat.le_succ k),h.by'.mono (Nat.le_succ k),h.now⟩
def SI{k:Nat}{a:zK}(h:yI k a)(e:AEv):yI (k+1) (ge a e).1:=
 ⟨h.fl.mono (Nat.le_succ k),h.gt.mono (Nat.le_succ k),Br h.sh e.r e.n,h.bk.mono (Nat.le_succ k),λn x hx=>(h.ro n x hx).mono (Nat.le_succ k),h.by'.mono (Nat.le_succ k),h.now⟩
def BX{k:Nat}{a:zK}(ok:SOk a)(h:yI k a){e:AEv}(he:idB e.n):yI (k+1) (YU a e).1:=by
 have hg:=il ok.gt h.fl h.gt he (bnd a e) a.now;have h1:yI (k+1) { a with fl:=(arG a e).1,gt:=(arG a e).2.1 }:=⟨hg.1.mono (Nat.le_succ k),hg.2,h.sh.mono (Nat.le_succ k),h.bk.mono (Nat.le_succ k),λn x hx=>(h.ro n x hx).mono (Nat.le_succ k),h.by'.mono (Nat.le_succ k),h.now⟩;unfold YU;split
 ·rename_i x hx;have hm:(bnd a e,x)∈a.by':=by
   unfold Hs at hx;split at hx
   ·rename_i y hy;split at hx
    ·cases hx;exact yK hy
    ·cases hx
   ·cases hx
  refine⟨h1.fl,h1.gt,h1.sh,h1.bk,h1.ro,?_,h1.now⟩;exact h1.by'.set (h1.by'.xs _ hm) (h1.by'.rng _ hm) ⟨⟨by show(0:Int)≤1;decide,by show(1:Int)≤10;decide⟩,(h1.by'.want _ hm).2⟩
 ·exact h1
def HU{k:Nat}{a:zK}(ok:SOk a)(h:yI k a)(hk:k≤10000){e:AEv}(he:idB e.n):yI (k+2) (Vs a e).1:=by
 have hg:=SQ ok.fl ok.gt hk h.fl h.gt he;unfold Vs;exact⟨hg.1.mono (by omega),hg.2,h.sh.mono (by omega),h.bk.mono (by omega),λn x hx=>(h.ro n x hx).mono (by omega),h.by'.mono (by omega),h.now⟩
def z2P{k:Nat}{a:zK}(ok:SOk a)(h:yI k a)(e:AEv):yI (k+1) (gb a e).1:=by
 have hu:=h.fl.up e.n;have hg:=WK ok.gt hu h.gt (fOf (jJ a.fl e.n).1.l e.n);unfold gb;split
 ·exact⟨hu.mono (Nat.le_succ k),h.gt.mono (Nat.le_succ k),h.sh.mono (Nat.le_succ k),h.bk.mono (Nat.le_succ k),λn x hx=>(h.ro n x hx).mono (Nat.le_succ k),h.by'.mono (Nat.le_succ k),h.now⟩
 ·refine⟨hg.1.mono (Nat.le_succ k),hg.2,h.sh.mono (Nat.le_succ k),?_,λn x hx=>(h.ro n x hx).mono (Nat.le_succ k),?_,h.now⟩
  ·dsimp only;unfold Bf;split
   ·exact h.bk.mono (Nat.le_succ k)
   ·exact(h.bk.prove _).mono (Nat.le_succ k)
  ·dsimp only;unfold Bf;split
   ·exact h.by'.mono (Nat.le_succ k)
   ·refine(h.by'.mono (Nat.le_succ k)).book ?_;unfold Ko;split<;>rfl
def HS{k:Nat}{a:zK}(h:yI k a)(e:AEv):yI (k+1) (UJ a e).1:=by
 have hu:=h.fl.kill e.n;have hi:=RJ h.fl e.n;have hl:=SO h.gt hi.1 hi.2;unfold UJ;split
 ·exact⟨hu.mono (Nat.le_succ k),h.gt.mono (Nat.le_succ k),h.sh.mono (Nat.le_succ k),h.bk.mono (Nat.le_succ k),λn x hx=>(h.ro n x hx).mono (Nat.le_succ k),h.by'.mono (Nat.le_succ k),h.now⟩
 ·exact⟨hu.mono (Nat.le_succ k),hl,h.sh.mono (Nat.le_succ k),h.bk.mono (Nat.le_succ k),λn x hx=>(h.ro n x hx).mono (Nat.le_succ k),h.by'.mono (Nat.le_succ k),h.now⟩
def iW{a:yY}(nd:(a.all.map (·.1)).Nodup):(XB a).Nodup:=(vN _).nodup_iff.2 nd
def HP{k:Nat}{a:zK}(ok:SOk a)(nd:(a.bk.all.map (·.1)).Nodup)(h:yI k a)(hk:k≤10000):yI (k+1) (UI a).1:=by
 have hg:=WJ ok.gt h.gt (a.now+1);have hG:(tkG a).1.Ok:=by
  have:=TR (m:=a.gt.all.length) (n:=a.gt.lines.length) (now:=a.now+1) (r:=a.gt.room) (ks:=yZ (a.gt.lines.map (·.1))) (G:=a.gt) (out:=[]) ⟨Nat.le_refl _,h.gt.ids,Nat.le_refl _,h.gt.lid,h.gt.wk,ok.gt⟩ rfl (λk hk=>by
   cases h4:zr a.gt.lines k with
   | none=>rw[YE]at h4;exact absurd (vO.1 hk) h4
   | some v=>rfl) (by simp)
  exact this.1.ok
 unfold UI;split
 ·exact h.mono (Nat.le_succ k)
 ·rename_i hc;refine⟨h.fl.mono (Nat.le_succ k),hg.1.mono (Nat.le_succ k),h.sh.mono (Nat.le_succ k),h.bk.mono (Nat.le_succ k),λn x hx=>(h.ro n x hx).mono (Nat.le_succ k),?_,?_⟩
  ·exact ByI.tick (λrev=>(z0Q hG hg.1 (by omega) rev).2) (iW nd) h.by'.has (λx hx _=>h.by'.xs x hx) (λx hx=>Nat.le_succ_of_le (h.by'.xs x hx)) h.by'.rng h.by'.want
  ·have:=h.now;dsimp only;omega
def CF{k:Nat}{a:jb}(ok:a.Ok)(h:ShI k a){n:B0}(hi:(jZ a n).2.2.2.1=true):XJ (jZ a n).1=0∧1≤@id Int (jZ a n).2.2.1∧@id Int (jZ a n).2.2.1≤a.n:=by
 unfold jZ at hi ⊢;split
 ·rename_i h1;have:=h.cfg n h1;exact⟨this.2.1,this.2.2,(ok.gen n).2⟩
 ·rename_i h1;rw[if_neg h1]at hi
  cases hi
def SG{k:Nat}{a:zK}(ok:SOk a)(h:yI k a)(hn:a.sh.n<100)(e:AEv):yI (k+1) (VC a e).1:=by
 have hm:=h.mono (Nat.le_succ k);unfold VC;split
 ·exact hm
 ·rename_i h1;have hc:=CF ok.sh h.sh (n:=e.name) (by simpa using h1);split
  ·exact hm
  ·have hb:=h.bk.stamp (c:=(jZ a.sh e.name).1) hc.1 (g:=(@id Int (jZ a.sh e.name).2.2.1).toNat) (by omega) (by omega);have hw:=(QH hc.1).2.2.2;split
   ·rename_i h3;refine⟨hm.fl,hm.gt,hm.sh,hb,hm.ro,hm.by'.book ?_,hm.now⟩;dsimp only[stp]at h3 ⊢;unfold XY at h3 ⊢;split
    ·rfl
    ·rename_i h4;rw[if_neg h4]at h3;cases h3
   ·rename_i h3;refine⟨hm.fl,hm.gt,hm.sh,hb,hm.ro,⟨λp hp=>?_,?_,?_,?_⟩,hm.now⟩
    ·dsimp only[stp]at h3 hp ⊢;rw[ya];split
     ·rfl
     ·rename_i h5;unfold XY at hp h5;split at hp
      ·exact h.by'.has p hp
      ·rename_i h6;rw[if_neg h6]at h5;rcases Zp hp with rfl | hp
       ·exact absurd rfl h5
       ·exact h.by'.has p hp
    all_goals
     intro y hy;rcases Zp hy with rfl | hy
    ·exact Nat.zero_le _
    ·exact hm.by'.xs y hy
    ·intro z hz;cases hz
    ·exact hm.by'.rng y hy
    ·refine⟨?_,Int.le_refl 0,by show(0:Int)≤1000;decide⟩;show 0≤Gl (jZ a.sh e.name).1∧Gl (jZ a.sh e.name).1≤10;unfold Gl;split<;>omega
    ·exact hm.by'.want y hy
def DN{k:Nat}{a:jb}(h:ShI k a)(n:B0):(ud a n).1.ts.length≤6∧(∀t∈(ud a n).1.ts,(0≤pct t∧pct t≤100)∧t.2.1.size≤100)∧0≤(ud a n).1.roll∧(ud a n).1.roll≤60:=by
 unfold ud;split
 ·rename_i h1;have:=We (h.rt n h1).2;exact⟨this.2.2.1,this.2.2.2,this.2.1.1,this.2.1.2⟩
 ·exact⟨Nat.zero_le _,(by intro t ht;cases ht),(show(0:Int)≤0 by decide),(show(0:Int)≤60 by decide)⟩
def HR{k:Nat}{a:zK}(ok:SOk a)(h:yI k a)(e:AEv):yI (k+2) (Oa a e).1:=by
 have hm:=h.mono (Nat.le_add_right k 2);have hr:=DN h.sh e.name;unfold Oa;split
 ·exact hm
 ·split
  ·exact hm
  ·refine⟨hm.fl,hm.gt,hm.sh,hm.bk,?_,hm.by',hm.now⟩;exact BB (k:=k+1) (h.mono (Nat.le_succ k)).ro e.name (CJ ok.bk h.bk hr.1 hr.2.1) h.now _ (by omega)
def HQ{k:Nat}{a:zK}(h:yI k a)(e:AEv):yI (k+1) (qJ a e).1:=by
 have hm:=h.mono (Nat.le_succ k);unfold qJ;split
 ·exact hm
 ·rename_i h1;have h1:jL a.bk e.name=true:=by simpa using h1
  have hb:=Uv h1;have hc:=(QH (h.bk.cfg _ hb)).2.2.1;refine⟨?_,hm.gt,hm.sh,hm.bk,hm.ro,hm.by',hm.now⟩;exact h.fl.scale (h.bk.rev _ hb) (Int.le_trans hc.2 (by decide)) _
def Sc{w ready mi ma:Int}(h1:0≤mi)(h2:1≤ma∧ma≤10):0≤CG w ready mi ma∧CG w ready mi ma≤10:=by
 unfold CG;generalize mx2 (mn2 w (4*scM ready)) (ready/2)=x;unfold mn2 mx2;constructor<;>repeat' split
 all_goals omega
def Bx{left b m:Int}(h:0≤left∧left≤1000):0≤vQ left b m∧vQ left b m≤1000:=by
 unfold vQ
 repeat' split
 all_goals omega
def DP{k:Nat}{a:zK}(h:yI k a){rev:B0}(hb:jL a.bk rev=true){x:OZ}(hx:0≤x.left∧x.left≤1000):(0≤(KL a x rev).1∧(KL a x rev).1≤10)∧(0≤(KL a x rev).2∧(KL a x rev).2≤1000):=by
 have hc:=(QH (h.bk.cfg _ (Uv hb))).2.2.2;exact⟨Sc hc.2.1.1 hc.1,Bx hx⟩
def SH{k:Nat}{a:zK}(h:yI k a)(e:AEv):yI (k+1) (uw a e).1:=by
 have hm:=h.mono (Nat.le_succ k);unfold uw;split
 ·exact hm
 ·rename_i h1;have h1:jL a.bk e.name=true:=by simpa using h1
  split
  ·exact hm
  ·rename_i x hx;have hxm:=yK hx;refine⟨hm.fl,hm.gt,hm.sh,hm.bk,hm.ro,hm.by'.set (hm.by'.xs _ hxm) (hm.by'.rng _ hxm) ?_,hm.now⟩;exact DP h h1 (hm.by'.want _ hxm).2
def Wd{a:zK}{e:AEv}(h:ZH e≠0):zE a e=(a,[Zy Hb [af (ZH e)]]):=by unfold zE;rw[if_pos h]
def Dh{a:zK}{e:AEv}(h:ZH e=0)(hk:e.kind=1):zE a e=vM a e:=by unfold zE;rw[if_neg (by simp[h]),if_pos hk]
def lH{a:zK}{e:AEv}(h:ZH e=0)(hk:e.kind=2):zE a e=ge a e:=by unfold zE;rw[if_neg (by simp[h]),if_neg (by omega),if_pos hk]
def IZ{a:zK}{e:AEv}(h:ZH e=0)(hk:e.kind=3):zE a e=lG a e:=by unfold zE;rw[if_neg (by simp[h]),if_neg (by omega),if_neg (by omega),if_pos hk]
def PY{a:zK}{e:AEv}(h:ZH e=0)(hk:e.kind=4):zE a e=YU a e:=by unfold zE;rw[if_neg (by simp[h]),if_neg (by omega),if_neg (by omega),if_neg (by omega),if_pos hk]
def PX{a:zK}{e:AEv}(h:ZH e=0)(hk:e.kind=5):zE a e=Vs a e:=by unfold zE;rw[if_neg (by simp[h]),if_neg (by omega),if_neg (by omega),if_neg (by omega),if_neg (by omega),if_pos hk]
def Gq{a:zK}{e:AEv}(h:ZH e=0)(hk:e.kind=6):zE a e=gb a e:=by unfold zE;rw[if_neg (by simp[h]),if_neg (by omega),if_neg (by omega),if_neg (by omega),if_neg (by omega),if_neg (by omega),if_pos hk]
def mU{a:zK}{e:AEv}(h:ZH e=0)(hk:e.kind=7∨e.kind=8):zE a e=UJ a e:=by
 unfold zE;rw[if_neg (by simp[h]),if_neg (by omega),if_neg (by omega),if_neg (by omega),if_neg (by omega),if_neg (by omega),if_neg (by omega),if_neg (by omega),if_neg (by omega),if_neg (by omega),if_neg (by omega),if_neg (by omega)]
def PW{a:zK}{e:AEv}(h:ZH e=0)(hk:e.kind=9):zE a e=UI a:=by unfold zE;rw[if_neg (by simp[h]),if_neg (by omega),if_neg (by omega),if_neg (by omega),if_neg (by omega),if_neg (by omega),if_neg (by omega),if_pos hk]
def DG{a:zK}{e:AEv}(h:ZH e=0)(hk:e.kind=10):zE a e=VC a e:=by unfold zE;rw[if_neg (by simp[h]),if_neg (by omega),if_neg (by omega),if_neg (by omega),if_neg (by omega),if_neg (by omega),if_neg (by omega),if_neg (by omega),if_pos hk]
def DF{a:zK}{e:AEv}(h:ZH e=0)(hk:e.kind=11):zE a e=Oa a e:=by unfold zE;rw[if_neg (by simp[h]),if_neg (by omega),if_neg (by omega),if_neg (by omega),if_neg (by omega),if_neg (by omega),if_neg (by omega),if_neg (by omega),if_neg (by omega),if_pos hk]
def Fq{a:zK}{e:AEv}(h:ZH e=0)(hk:e.kind=12):zE a e=uw a e:=by unfold zE;rw[if_neg (by simp[h]),if_neg (by omega),if_neg (by omega),if_neg (by omega),if_neg (by omega),if_neg (by omega),if_neg (by omega),if_neg (by omega),if_neg (by omega),if_neg (by omega),if_pos hk]
def gf{a:zK}{e:AEv}(h:ZH e=0)(hk:e.kind=13):zE a e=qJ a e:=by unfold zE;rw[if_neg (by simp[h]),if_neg (by omega),if_neg (by omega),if_neg (by omega),if_neg (by omega),if_neg (by omega),if_neg (by omega),if_neg (by omega),if_neg (by omega),if_neg (by omega),if_neg (by omega),if_pos hk]
end Go.Proofs.YtimahgbgejngiaaGreatDoor
namespace Go.Proofs.YtimahgbgejngiaaGreatDoor
open Go.Dm
attribute [local irreducible] L.load L.store L.chk L.new L.nonnil L.guard L.ite L.draw L.idx L.sem L.semR L.semU L.chkSem L.next L.call L.callV L.join L.alts L.loop L.begin L.endRound L.range
variable {w0 w:World}{E:List Seg}
def Et{F:ze}(ok:F.Ok)(id:Int):(jJ F id).1.Ok:=by
 unfold jJ;split
 ·exact ok
 ·rename_i x hx;refine ok.upd hx _ ?_ λq hq=>.inl (by rwa [Ra]at hq);have:=ok.live x (YS hx).1;unfold Yl;split
  ·dsimp only;omega
  ·exact .inr (.inl rfl)
def Aq(rev:B0):∀{n:Nat}{F:ze},(shrink rev n F).1.last=F.last∧(shrink rev n F).1.room=F.room
 | 0,F=>⟨rfl,rfl⟩
 | n+1,F=>by simp only[shrink];exact Aq rev (n:=n) (F:=qD rev F)
def Bu(F:ze)(rev:B0)(conc want:Int):(Ys F rev conc want).1.room=F.room:=by
 unfold Ys yT;rw[(Aq rev).2,gy]
def ia{F:ze}{rev:B0}{conc:Int}(n:Nat)(ok:F.Ok)(h1:F.l.length+n<100000000)(h2:F.last+n<4611686018427387904):(grow rev conc n F).Ok:=by
 induction n with
 | zero=>exact ok
 | succ n ih=>
  refine nG (ih (by omega) (by omega)) ?_ ?_
  ·rw[VM];omega
  ·rw[KH];omega
def CE{rev:B0}:∀{n:Nat}{F:ze},F.Ok→n≤ZA F.l rev→(∀x∈(shrink rev n F).2,0≤x∧x≤F.last)∧(shrink rev n F).2.length=n
 | 0,F,_,_=>⟨(by intro x hx;cases hx),rfl⟩
 | n+1,F,ok,h=>by
  have h1:=cJ ok (rev:=rev) (by omega);have h2:=GK ok (rev:=rev) (by omega);obtain⟨a,b⟩:=CE (rev:=rev) (n:=n) h1 (by omega);obtain⟨y,hy,-,-⟩:=gh (rev:=rev) ok (by omega);obtain⟨hm,hid⟩:=YS hy;have hr:=ok.rng y hm;simp only[shrink];refine⟨λx hx=>?_,by rw[List.length_cons,b]⟩;rcases List.mem_cons.1 hx with rfl | hx
  ·rw[←hid];omega
  ·exact a x hx
def Bw{F:ze}(ok:F.Ok){rev:B0}{conc want:Int}(hl:(F.l.length:Int)≤1000)(hr:F.room≤1000)(hla:F.last≤1000000000):(∀x∈(Ys F rev conc want).2,0≤x∧x≤F.last+1000)∧(Ys F rev conc want).2.length≤2000:=by
 have hn:=tR F rev want;have okg:(yT F rev conc want).Ok:=ia _ ok (by omega) (by omega);have hsn:xo (yT F rev conc want) rev want≤ZA (yT F rev conc want).l rev:=by
  have:=Bp (yT F rev conc want) rev want;omega
 have hs:=CE okg hsn;have hll:(yT F rev conc want).last=F.last+qM F rev want:=KH ..;have hcl:=Mg (yT F rev conc want).l (rev:=rev);have hgl:(yT F rev conc want).l.length=F.l.length+qM F rev want:=VM ..;unfold Ys;refine⟨λx hx=>?_,?_⟩
 ·have:=hs.1 x hx;omega
 ·rw[hs.2];omega
def aJ [xi w0](h:St w0 E w)(i:Nat){b:Nat}{a:zK}{s:Seg}(hi:nth E i=some s)(hs:yV b a s){e:AEv}(hn:jL a.bk e.name=false){k:Sl→PT}(hk:Hk w0 E i b (qJ a e) k):Jg (some ⟨b,0,none⟩) e.t (slK k) w:=by
 have hs0:=hs;obtain⟨p,sg,sf,ss,sk,sr,sm,Q,R,rfl⟩:=hs;unfold Jg;unfold qJ at hk;have h:=(h.front i hi).split8;refine nw h ?_;clear h;intro b1 w h;refine Zz (λ(z:Addr×Bool×Unit) w=>∃b8:Nat,z=(⟨b8,0,none⟩,jL a.bk e.name,())∧St w0 (VD b p a.now::sg::sf::ss::sk::sr::sm::(Q.map BsE.sg).flatten::Zv E i) w) (λk2 hk2=>?_) ?_
 ·(dsimp only[zd,List.cons_append,List.nil_append]at h;refine dr h ?_;clear h;intro w h;refine nn ?_;refine ldC h ?_;refine ldC h ?_)
  refine kI ?_ ?_
  ·refine GM h 5 rfl R.bk λw h=>?_;refine nw h ?_;clear h;intro b8 w h
   (refine ckC h ?_;refine ckC h ?_;refine stC h ?_;clear h;intro w h;dsimp only[zJ,zd]at h)
   exact hk2 _ w ⟨b8,rfl,zm (zm h)⟩
  ·refine nw h ?_;clear h;intro b8 w h
   (refine ckC h ?_;refine ckC h ?_)
   refine GM h 6 rfl R.bk λw h=>?_
   (refine stC h ?_;clear h;intro w h;dsimp only[zJ,zd]at h)
   exact hk2 _ w ⟨b8,rfl,zm (zm h)⟩
 clear h;rintro z w ⟨b8,rfl,h⟩
 (try dsimp only)
 refine itT (by simp[hn]) ?_;rw[if_pos hn]at hk;refine XD h λv s w r h=>?_;exact⟨v,rfl,hk v s _ w r hs0 (jC i hi h)⟩
structure uq(w0:World)(E:List Seg)(i:Nat)(e:AEv):Prop where
 rd:RdE w0 (Zv E i) eT e.v e.r.ts
 hvc:e.v.len≤e.v.cap
 h0:e.v.a=none→e.r.ts = []
 hrv:∀t∈e.r.ts,VG t.1
 hn:e.kind=12∨e.kind=13→Ph e.name
def uq.plain{i:Nat}{e:AEv}(hv:e.v=Rr)(hr:e.r=ke)(hk:e.kind=12∨e.kind=13→Ph e.name):uq w0 E i e:=by
 refine⟨λ_ _=>?_,?_,λ_=>?_,?_,hk⟩
 ·rw[hv,hr];exact Rd.nil
 ·rw[hv];exact Nat.le_refl 0
 ·rw[hr];rfl
 ·rw[hr];intro t ht;cases ht
abbrev HkI(w0:World)(E:List Seg)(i b k0:Nat)(r:zK×List B0)(k:Sl→PT):Prop:=
 ∀v sv s' w',Rw eS zc 1 v r.2 sv→yV b r.1 s'→yI k0 r.1→St w0 (sv::zd E i s') w'→k v w'
def z5J [xi w0](h:St w0 E w)(i:Nat){b:Nat}{a:zK}{s:Seg}(hi:nth E i=some s)(hs:yV b a s){e:AEv}(hb:ZH e=0)(hc:e.kind=1)(ev:uq w0 E i e){k0:Nat}(inv:yI k0 a)(hk0:k0≤9000)(hn:a.sh.n<99){k:Sl→PT}(hk:HkI w0 E i b (k0+2) (zE a e) k) :
  L.call Pr zl [pO b,evV e] (.one (.one .slice)) k w:=by
 have ok:=hs.ok;have rd':RdE w0 E eT e.v e.r.ts:=λw h=>ev.rd w (h.del i hi);have i2:yI (k0+2) (zE a e).1:=by rw[Dh hb hc];exact(BW ok inv e).mono (Nat.le_succ _)
 have hkk:Hk w0 E i b (zE a e) k:=λv sv s' w' r hs' h=>hk v sv s' w' r hs' i2 h;clear hk;have hlast:=inv.fl.last;have hlen:=inv.fl.few.l;have hroom:=inv.fl.few.r;unfold xG at hroom;have hall:=inv.gt.all;have hlines:=inv.gt.lines;have hgr:=inv.gt.room;have hpat:=inv.gt.pat;have hnow:=inv.now;have hbl:=inv.bk.len;have hr1:=inv.fl.r1;have rn:=ev.hn;rw[Dh hb hc]at hkk;exact aM h i hi hs hc hb rd' ev.hvc ev.hrv (by omega) (by have:=vP (QH (z5q hb hc)).1;omega) hkk
def z5I [xi w0](h:St w0 E w)(i:Nat){b:Nat}{a:zK}{s:Seg}(hi:nth E i=some s)(hs:yV b a s){e:AEv}(hb:ZH e=0)(hc:e.kind=2)(ev:uq w0 E i e){k0:Nat}(inv:yI k0 a)(hk0:k0≤9000)(hn:a.sh.n<99){k:Sl→PT}(hk:HkI w0 E i b (k0+2) (zE a e) k) :
  L.call Pr zl [pO b,evV e] (.one (.one .slice)) k w:=by
 have ok:=hs.ok;have rd':RdE w0 E eT e.v e.r.ts:=λw h=>ev.rd w (h.del i hi);have i2:yI (k0+2) (zE a e).1:=by rw[lH hb hc];exact(SI inv e).mono (Nat.le_succ _)
 have hkk:Hk w0 E i b (zE a e) k:=λv sv s' w' r hs' h=>hk v sv s' w' r hs' i2 h;clear hk;have hlast:=inv.fl.last;have hlen:=inv.fl.few.l;have hroom:=inv.fl.few.r;unfold xG at hroom;have hall:=inv.gt.all;have hlines:=inv.gt.lines;have hgr:=inv.gt.room;have hpat:=inv.gt.pat;have hnow:=inv.now;have hbl:=inv.bk.len;have hr1:=inv.fl.r1;have rn:=ev.hn;rw[lH hb hc]at hkk;exact Ee h i hi hs hc hb ev.rd ev.hvc ev.h0 ev.hrv (by omega) (by have:=vP (We (z5p hb hc)).1.1;omega) inv.sh.few hkk
def z5H [xi w0](h:St w0 E w)(i:Nat){b:Nat}{a:zK}{s:Seg}(hi:nth E i=some s)(hs:yV b a s){e:AEv}(hb:ZH e=0)(hc:e.kind=4)(ev:uq w0 E i e){k0:Nat}(inv:yI k0 a)(hk0:k0≤9000)(hn:a.sh.n<99){k:Sl→PT}(hk:HkI w0 E i b (k0+2) (zE a e) k) :
  L.call Pr zl [pO b,evV e] (.one (.one .slice)) k w:=by
 have ok:=hs.ok;have rd':RdE w0 E eT e.v e.r.ts:=λw h=>ev.rd w (h.del i hi);have i2:yI (k0+2) (zE a e).1:=by rw[PY hb hc];exact(BX ok inv (cM hb (by omega)).1).mono (Nat.le_succ _)
 have hkk:Hk w0 E i b (zE a e) k:=λv sv s' w' r hs' h=>hk v sv s' w' r hs' i2 h;clear hk;have hlast:=inv.fl.last;have hlen:=inv.fl.few.l;have hroom:=inv.fl.few.r;unfold xG at hroom;have hall:=inv.gt.all;have hlines:=inv.gt.lines;have hgr:=inv.gt.room;have hpat:=inv.gt.pat;have hnow:=inv.now;have hbl:=inv.bk.len;have hr1:=inv.fl.r1;have rn:=ev.hn;rw[PY hb hc]at hkk;have hid:=(cM hb (by omega)).1;have hd:=iR hb hc;refine aN h i hi hs hc hb rd' ev.hvc ev.hrv (by omega) (λx hx=>(inv.ro _ x hx).ok (by omega)) ?_ inv.fl.few (by omega) (by omega) (by omega) (SR (by omega) ok.fl inv.fl hid _ _) ?_ hkk
 ·unfold Od
  cases hg:zr a.ro e.name with
  | none=>intro s hs;cases hs
  | some x=>exact(inv.ro _ x hg).ns
 ·unfold bnd;split
  ·decide
  ·cases hg:zr a.ro e.name with
   | none=>rename_i hh;rw[hg]at hh;exact absurd rfl hh
   | some x=>
    have w:=inv.ro _ x hg;split
    ·unfold rE Od;rw[hg];have:∀(l:List Shr)(d:Int),(∀s∈l,s.1.size≤100)→(tu l d).size≤100:=by
      intro l
      induction l with
      | nil=>intro d _;show s_.size≤100;decide
      | cons s l ih=>
       intro d hl;unfold tu;split
       ·exact hl s (by simp)
       ·exact ih _ λy hy=>hl y (by simp[hy])
     have:=this x.ns (e.draw%100) w.zn;dsimp only;omega
    ·unfold Od;rw[hg];have:∀(l:List Tgo),(∀s∈l,s.1.size≤100∧s.2.1.size≤100)→(DE l e.tag).1.size≤100:=by
      intro l
      induction l with
      | nil=>intro _;show s_.size≤100;decide
      | cons s l ih=>
       intro hl;unfold DE;split
       ·exact(hl s (by simp)).2
       ·exact ih λy hy=>hl y (by simp[hy])
     have:=this x.ng w.zg;dsimp only;omega
def z5G [xi w0](h:St w0 E w)(i:Nat){b:Nat}{a:zK}{s:Seg}(hi:nth E i=some s)(hs:yV b a s){e:AEv}(hb:ZH e=0)(hc:e.kind=5)(ev:uq w0 E i e){k0:Nat}(inv:yI k0 a)(hk0:k0≤9000)(hn:a.sh.n<99){k:Sl→PT}(hk:HkI w0 E i b (k0+2) (zE a e) k) :
  L.call Pr zl [pO b,evV e] (.one (.one .slice)) k w:=by
 have ok:=hs.ok;have rd':RdE w0 E eT e.v e.r.ts:=λw h=>ev.rd w (h.del i hi);have i2:yI (k0+2) (zE a e).1:=by rw[PX hb hc];exact HU ok inv (by omega) (cM hb (by omega)).1
 have hkk:Hk w0 E i b (zE a e) k:=λv sv s' w' r hs' h=>hk v sv s' w' r hs' i2 h;clear hk;have hlast:=inv.fl.last;have hlen:=inv.fl.few.l;have hroom:=inv.fl.few.r;unfold xG at hroom;have hall:=inv.gt.all;have hlines:=inv.gt.lines;have hgr:=inv.gt.room;have hpat:=inv.gt.pat;have hnow:=inv.now;have hbl:=inv.bk.len;have hr1:=inv.fl.r1;have rn:=ev.hn;rw[PX hb hc]at hkk;have hid:=(cM hb (by omega)).1;exact Iz h i hi hs hc hb rd' ev.hvc ev.hrv inv.fl.few (by omega) (by omega) (RV ok.fl (by omega) inv.fl inv.gt hid) (SP ok.gt (by omega) hgr.2 _) hkk
def z5F [xi w0](h:St w0 E w)(i:Nat){b:Nat}{a:zK}{s:Seg}(hi:nth E i=some s)(hs:yV b a s){e:AEv}(hb:ZH e=0)(hc:e.kind=6)(ev:uq w0 E i e){k0:Nat}(inv:yI k0 a)(hk0:k0≤9000)(hn:a.sh.n<99){k:Sl→PT}(hk:HkI w0 E i b (k0+2) (zE a e) k) :
  L.call Pr zl [pO b,evV e] (.one (.one .slice)) k w:=by
 have ok:=hs.ok;have rd':RdE w0 E eT e.v e.r.ts:=λw h=>ev.rd w (h.del i hi);have i2:yI (k0+2) (zE a e).1:=by rw[Gq hb hc];exact(z2P ok inv e).mono (Nat.le_succ _)
 have hkk:Hk w0 E i b (zE a e) k:=λv sv s' w' r hs' h=>hk v sv s' w' r hs' i2 h;clear hk;have hlast:=inv.fl.last;have hlen:=inv.fl.few.l;have hroom:=inv.fl.few.r;unfold xG at hroom;have hall:=inv.gt.all;have hlines:=inv.gt.lines;have hgr:=inv.gt.room;have hpat:=inv.gt.pat;have hnow:=inv.now;have hbl:=inv.bk.len;have hr1:=inv.fl.r1;have rn:=ev.hn;rw[Gq hb hc]at hkk;have hid:=(cM hb (by omega)).1;have hu:=inv.fl.up e.n;have hsz:(fOf (jJ a.fl e.n).1.l e.n).size≤100:=by
  unfold fOf
  cases hf:Xd (jJ a.fl e.n).1.l e.n with
  | none=>show s_.size≤100;decide
  | some x=>exact(hu.rev x (YS hf).1).size
 have hu':(jJ a.fl e.n).1.Ok:=Et ok.fl e.n;refine z3C h i hi hs hc hb rd' ev.hvc ev.hrv ⟨by omega,by omega⟩ (by omega) hu.few (by omega) (by omega) (CQ (by omega) hu' hu inv.gt _) ?_ hkk;have:=(cD (F:=(jJ a.fl e.n).1) ok.gt (fOf (jJ a.fl e.n).1.l e.n)).1;show(yX (jJ a.fl e.n).1 a.gt (fOf (jJ a.fl e.n).1.l e.n)).2.2.length<100000000;omega
def z5E [xi w0](h:St w0 E w)(i:Nat){b:Nat}{a:zK}{s:Seg}(hi:nth E i=some s)(hs:yV b a s){e:AEv}(hb:ZH e=0)(hc:e.kind=7)(ev:uq w0 E i e){k0:Nat}(inv:yI k0 a)(hk0:k0≤9000)(hn:a.sh.n<99){k:Sl→PT}(hk:HkI w0 E i b (k0+2) (zE a e) k) :
  L.call Pr zl [pO b,evV e] (.one (.one .slice)) k w:=by
 have ok:=hs.ok;have rd':RdE w0 E eT e.v e.r.ts:=λw h=>ev.rd w (h.del i hi);have i2:yI (k0+2) (zE a e).1:=by rw[mU hb (.inl hc)];exact(HS inv e).mono (Nat.le_succ _)
 have hkk:Hk w0 E i b (zE a e) k:=λv sv s' w' r hs' h=>hk v sv s' w' r hs' i2 h;clear hk;have hlast:=inv.fl.last;have hlen:=inv.fl.few.l;have hroom:=inv.fl.few.r;unfold xG at hroom;have hall:=inv.gt.all;have hlines:=inv.gt.lines;have hgr:=inv.gt.room;have hpat:=inv.gt.pat;have hnow:=inv.now;have hbl:=inv.bk.len;have hr1:=inv.fl.r1;have rn:=ev.hn;rw[mU hb (.inl hc)]at hkk;have hid:=(cM hb (by omega)).1;have hki:=RJ inv.fl e.n;exact fu h i hi hs hb rn rd' ev.hvc ev.hrv (f:=ym) (by rw[hc];rfl) mu (mD (some ⟨b,0,none⟩) e.t) (λh hi _ hk=>eR h _ hi hs ⟨by omega,by omega⟩ (by omega) (FH hki.1 (by simp)) hk) hkk
def z5D [xi w0](h:St w0 E w)(i:Nat){b:Nat}{a:zK}{s:Seg}(hi:nth E i=some s)(hs:yV b a s){e:AEv}(hb:ZH e=0)(hc:e.kind=9)(ev:uq w0 E i e){k0:Nat}(inv:yI k0 a)(hk0:k0≤9000)(hn:a.sh.n<99){k:Sl→PT}(hk:HkI w0 E i b (k0+2) (zE a e) k) :
  L.call Pr zl [pO b,evV e] (.one (.one .slice)) k w:=by
 have ok:=hs.ok;have rd':RdE w0 E eT e.v e.r.ts:=λw h=>ev.rd w (h.del i hi);have i2:yI (k0+2) (zE a e).1:=by rw[PW hb hc];exact(HP ok ok.nd inv (by omega)).mono (Nat.le_succ _)
 have hkk:Hk w0 E i b (zE a e) k:=λv sv s' w' r hs' h=>hk v sv s' w' r hs' i2 h;clear hk;have hlast:=inv.fl.last;have hlen:=inv.fl.few.l;have hroom:=inv.fl.few.r;unfold xG at hroom;have hall:=inv.gt.all;have hlines:=inv.gt.lines;have hgr:=inv.gt.room;have hpat:=inv.gt.pat;have hnow:=inv.now;have hbl:=inv.bk.len;have hr1:=inv.fl.r1;have rn:=ev.hn;rw[PW hb hc]at hkk;have hg:=WJ ok.gt inv.gt (a.now+1);refine Iw h i hi hs hc hb rd' ev.hvc ev.hrv hnow.1 inv.gt.wk (by have:=hg.2.2;unfold tkG;omega) hg.2.1 (λrev hr=>?_) (λx hx=>by have:=inv.by'.xs x hx;omega) (by omega) hkk;have:=inv.by'.has _ (Uv (WZ hr));exact this
def z3G [xi w0](h:St w0 E w)(i:Nat){b:Nat}{a:zK}{s:Seg}(hi:nth E i=some s)(hs:yV b a s){e:AEv}(hb:ZH e=0)(hc:e.kind=10)(ev:uq w0 E i e){k0:Nat}(inv:yI k0 a)(hk0:k0≤9000)(hn:a.sh.n<99){k:Sl→PT}(hk:HkI w0 E i b (k0+2) (zE a e) k) :
  L.call Pr zl [pO b,evV e] (.one (.one .slice)) k w:=by
 have ok:=hs.ok;have rd':RdE w0 E eT e.v e.r.ts:=λw h=>ev.rd w (h.del i hi);have i2:yI (k0+2) (zE a e).1:=by rw[DG hb hc];exact(SG ok inv (by omega) e).mono (Nat.le_succ _)
 have hkk:Hk w0 E i b (zE a e) k:=λv sv s' w' r hs' h=>hk v sv s' w' r hs' i2 h;clear hk;have hlast:=inv.fl.last;have hlen:=inv.fl.few.l;have hroom:=inv.fl.few.r;unfold xG at hroom;have hall:=inv.gt.all;have hlines:=inv.gt.lines;have hgr:=inv.gt.room;have hpat:=inv.gt.pat;have hnow:=inv.now;have hbl:=inv.bk.len;have hr1:=inv.fl.r1;have rn:=ev.hn;rw[DG hb hc]at hkk;refine Ed h i hi hs hc hb rd' ev.hvc ev.hrv (λhh=>?_) (by omega) hkk;have hs:=CF ok.sh inv.sh hh;have hnum:=QH hs.1;exact⟨hnum.1,hs.2.1,by omega,by omega⟩
def z3F [xi w0](h:St w0 E w)(i:Nat){b:Nat}{a:zK}{s:Seg}(hi:nth E i=some s)(hs:yV b a s){e:AEv}(hb:ZH e=0)(hc:e.kind=11)(ev:uq w0 E i e){k0:Nat}(inv:yI k0 a)(hk0:k0≤9000)(hn:a.sh.n<99){k:Sl→PT}(hk:HkI w0 E i b (k0+2) (zE a e) k) :
  L.call Pr zl [pO b,evV e] (.one (.one .slice)) k w:=by
 have ok:=hs.ok;have rd':RdE w0 E eT e.v e.r.ts:=λw h=>ev.rd w (h.del i hi);have i2:yI (k0+2) (zE a e).1:=by rw[DF hb hc];exact HR ok inv e
 have hkk:Hk w0 E i b (zE a e) k:=λv sv s' w' r hs' h=>hk v sv s' w' r hs' i2 h;clear hk;have hlast:=inv.fl.last;have hlen:=inv.fl.few.l;have hroom:=inv.fl.few.r;unfold xG at hroom;have hall:=inv.gt.all;have hlines:=inv.gt.lines;have hgr:=inv.gt.room;have hpat:=inv.gt.pat;have hnow:=inv.now;have hbl:=inv.bk.len;have hr1:=inv.fl.r1;have rn:=ev.hn;rw[DF hb hc]at hkk;have hr:=DN inv.sh e.name;have ht:=CJ ok.bk inv.bk hr.1 hr.2.1;have hno:=Sw (k:=k0+1) (inv.mono (Nat.le_succ k0)).ro e.name ht hnow (ud a.sh e.name).1.roll (by omega);refine Iy h i hi hs hc hb rd' ev.hvc ev.hrv inv.sh.few (by have:=iQ hb (by omega);omega) (λt ht=>by have:=(hr.2.1 t ht).1;omega) (by omega) (by omega) (λx hx=>(inv.ro _ x hx).ok (by omega)) (λx hx=>by have:=(inv.ro _ x hx).since;omega) (by omega) ht.w (by have:=hno.2.2;show(fg a.ro e.name (resolve a.bk (ud a.sh e.name).1).1 a.now (ud a.sh e.name).1.roll).sh.length<100000;omega) ?_ hkk;exact Bm hno.1 hno.2.1 ht.zg (Nat.add_le_add hno.2.2 ht.lg) (by omega)
def z3E [xi w0](h:St w0 E w)(i:Nat){b:Nat}{a:zK}{s:Seg}(hi:nth E i=some s)(hs:yV b a s){e:AEv}(hb:ZH e=0)(hc:e.kind=12)(ev:uq w0 E i e){k0:Nat}(inv:yI k0 a)(hk0:k0≤9000)(hn:a.sh.n<99){k:Sl→PT}(hk:HkI w0 E i b (k0+2) (zE a e) k) :
  L.call Pr zl [pO b,evV e] (.one (.one .slice)) k w:=by
 have ok:=hs.ok;have rd':RdE w0 E eT e.v e.r.ts:=λw h=>ev.rd w (h.del i hi);have i2:yI (k0+2) (zE a e).1:=by rw[Fq hb hc];exact(SH inv e).mono (Nat.le_succ _)
 have hkk:Hk w0 E i b (zE a e) k:=λv sv s' w' r hs' h=>hk v sv s' w' r hs' i2 h;clear hk;have hlast:=inv.fl.last;have hlen:=inv.fl.few.l;have hroom:=inv.fl.few.r;unfold xG at hroom;have hall:=inv.gt.all;have hlines:=inv.gt.lines;have hgr:=inv.gt.room;have hpat:=inv.gt.pat;have hnow:=inv.now;have hbl:=inv.bk.len;have hr1:=inv.fl.r1;have rn:=ev.hn;rw[Fq hb hc]at hkk;have hnm:=(rn (.inl hc)).size;refine fu h i hi hs hb rn rd' ev.hvc ev.hrv (f:=YC) (by rw[hc];rfl) fS (fX (some ⟨b,0,none⟩) e.t) (λh hi _ hk=>aD h _ hi hs (by omega) (λhh=>inv.by'.has _ (Uv hh)) (λx hx=>?_) (λhh=>?_) ?_ hk) hkk
 ·have hm:=yK hx;have hw:=inv.by'.want _ hm;refine⟨⟨⟨hw.1.1,by have:=hw.1.2;dsimp only at this;omega⟩,hw.2,inv.by'.rng _ hm,by have:=inv.by'.xs _ hm;dsimp only at this;omega⟩,?_⟩;by_cases hh:jL a.bk e.name=true
  ·have:=(DP inv hh hw.2).1;dsimp only at this;omega
  ·have e1:qo a.bk e.name=fM:=by
    unfold jL at hh;unfold qo
    cases hg:zr a.bk.all e.name with
    | none=>rfl
    | some v=>rw[hg]at hh;exact absurd rfl hh
   have e2:(qo a.bk e.name).2.2.2.2.2.1=(0:Int)∧(qo a.bk e.name).2.2.2.2.2.2.1=(0:Int):=by rw[e1];exact⟨rfl,rfl⟩
   unfold KL CH CG;rw[e2.1,e2.2];generalize mx2 (mn2 _ _) _=y;unfold mn2 mx2;constructor<;>repeat' split
   all_goals omega
 ·have hc2:=(QH (inv.bk.cfg _ (Uv hh))).2.2.1;exact⟨Int.le_trans (by decide) hc2.1,Int.le_trans hc2.2 (by decide)⟩
 ·unfold jW;rw[List.length_map];have:(revs a.fl.l e.name).length≤a.fl.l.length:=List.length_filter_le ..;omega
def z3D [xi w0](h:St w0 E w)(i:Nat){b:Nat}{a:zK}{s:Seg}(hi:nth E i=some s)(hs:yV b a s){e:AEv}(hb:ZH e=0)(hc:e.kind=13)(ev:uq w0 E i e){k0:Nat}(inv:yI k0 a)(hk0:k0≤9000)(hn:a.sh.n<99){k:Sl→PT}(hk:HkI w0 E i b (k0+2) (zE a e) k) :
  L.call Pr zl [pO b,evV e] (.one (.one .slice)) k w:=by
 have ok:=hs.ok;have rd':RdE w0 E eT e.v e.r.ts:=λw h=>ev.rd w (h.del i hi);have i2:yI (k0+2) (zE a e).1:=by rw[gf hb hc];exact(HQ inv e).mono (Nat.le_succ _)
 have hkk:Hk w0 E i b (zE a e) k:=λv sv s' w' r hs' h=>hk v sv s' w' r hs' i2 h;clear hk;have hlast:=inv.fl.last;have hlen:=inv.fl.few.l;have hroom:=inv.fl.few.r;unfold xG at hroom;have hall:=inv.gt.all;have hlines:=inv.gt.lines;have hgr:=inv.gt.room;have hpat:=inv.gt.pat;have hnow:=inv.now;have hbl:=inv.bk.len;have hr1:=inv.fl.r1;have rn:=ev.hn;rw[gf hb hc]at hkk;have hnm:=rn (.inr hc);by_cases hh:jL a.bk e.name=true
 ·have hc2:=(QH (inv.bk.cfg _ (Uv hh))).2.2.1;have hcc:XN a e.name≤1000:=Int.le_trans hc2.2 (by decide);have hsc:=inv.fl.scale hnm hcc (yl a e.name);have hgl:=hsc.few.l;have hgr2:(Ys a.fl e.name (XN a e.name) (yl a e.name)).1.room=a.fl.room:=Bu ..;have hgo:=Bw ok.fl (rev:=e.name) (conc:=XN a e.name) (want:=yl a e.name) (by omega) (by omega) (by omega);refine Ix h i hi hs hc hnm hb rd' ev.hvc ev.hrv (by omega) (by omega) (by have:=hnm.size;omega) (λx hx=>?_) ?_ (λx hx=>?_) ?_ ?_ hkk
  ·unfold ob at hx;obtain⟨j,hj,rfl⟩:=List.mem_map.1 hx;rw[List.mem_range]at hj;have:=tR a.fl e.name (yl a e.name);have:=ok.fl.lo;omega
  ·unfold ob;rw[List.length_map,List.length_range];have:=tR a.fl e.name (yl a e.name);omega
  ·have:=hgo.1 x hx;omega
  ·have:=hgo.2;omega
  ·unfold jW;rw[List.length_map];have:(revs (Ri a e.name).l e.name).length≤(Ri a e.name).l.length:=List.length_filter_le ..;unfold Ri at this ⊢;omega
 ·exact fu h i hi hs hb rn rd' ev.hvc ev.hrv (f:=Yi) (by rw[hc];rfl) VY (VZ (some ⟨b,0,none⟩) e.t) (λh hi _ hk=>aJ h _ hi hs (by simpa using hh) hk) hkk
class Kn(w0:World)(ks:Int→Bool):Prop where
 dos:∀{E:List Seg}{w:World},St w0 E w→∀(i:Nat){b:Nat}{a:zK}{s:Seg},nth E i=some s→yV b a s→∀{e:AEv},ks e.kind=true→ZH e=0→uq w0 E i e→∀{k0:Nat},yI k0 a→k0≤9000→a.sh.n<99→∀{k:Sl→PT},HkI w0 E i b (k0+2) (zE a e) k→
  L.call Pr zl [pO b,evV e] (.one (.one .slice)) k w
def bN{ks:Int→Bool}[K:Kn w0 ks](h:St w0 E w)(i:Nat){b:Nat}{a:zK}{s:Seg}(hi:nth E i=some s)(hs:yV b a s){e:AEv}(hks:ks e.kind=true)(hb:ZH e=0)(ev:uq w0 E i e){k0:Nat}(inv:yI k0 a)(hk0:k0≤9000)(hn:a.sh.n<99){k:Sl→PT}(hk:HkI w0 E i b (k0+2) (zE a e) k) :
  L.call Pr zl [pO b,evV e] (.one (.one .slice)) k w:=K.dos h i hi hs hks hb ev inv hk0 hn hk
end Go.Proofs.YtimahgbgejngiaaGreatDoor
namespace Go.Proofs.YtimahgbgejngiaaGreatDoor
open Go.Dm
def cW(k:Int):Cfg:=(QV,k,1,0,1,0,())
structure GI(a:zK)(ver gen:Nat)(last:Int):Prop where
 n:a.sh.n=ver
 sh:(ver=0∧gen=0∧last = -1∧(JR a.sh.m QV).is=false∧(JR a.sh.m QV).gen=0)∨(0<ver∧0≤last∧0<gen∧JR a.sh.m QV=CA (cW last) ver gen true)
 gl:gen≤ver
 bk:∀g,1≤g→g<100→(jL a.bk (qh QV g)=true↔g≤gen)
 len:a.bk.all.length=gen
def z2w{a:jb}{c:Cfg}{ver:Int}(h1:XJ c=0)(h2:pU (JR a.m c.1) ver true=0):VE a c ver=(⟨rX a.m c.1 c (a.n+1),a.r,a.n+1⟩,a.n+1,0):=by
 unfold VE;rw[if_neg (by simpa using h1),if_neg (by simpa using h2)]
end Go.Proofs.YtimahgbgejngiaaGreatDoor
namespace Go.Proofs.YtimahgbgejngiaaGreatDoor
open Go.Dm
attribute [local irreducible] L.load L.store L.chk L.new L.nonnil L.guard L.ite L.draw L.idx L.sem L.semR L.semU L.chkSem L.next L.call L.callV L.join L.alts L.loop L.begin L.endRound L.range
variable {w0 w:World}{E:List Seg}
def eEv(e:AEv):List Value:=[I e.kind,.string e.name,.string e.tag,I e.n,I e.draw,.string e.c.1,I e.c.2.1,I e.c.2.2.1,I e.c.2.2.2.1,I e.c.2.2.2.2.1,I e.c.2.2.2.2.2.1,.string e.r.name,.string e.r.cfg,.slice e.v.a e.v.len e.v.cap,I e.r.roll]
def MW:Enc eEv 15:=⟨λ_=>rfl,λ_=>rfl,by decide⟩
def zF(a:zK)(l:List AEv):zK:=l.foldl (λa e=>(zE a e).1) a
def Yo:zK→List AEv→List (List B0)
 | _,[]=>[]
 | a,e::l=>(zE a e).2::Yo (zE a e).1 l
def Un(a:zK)(e:AEv)(l:List AEv):zF a (e::l)=zF (zE a e).1 l:=rfl
def pF(a:zK):zF a []=a:=rfl
def Kb(a:zK)(e:AEv)(l:List AEv):Yo a (e::l)=(zE a e).2::Yo (zE a e).1 l:=rfl
def CB{a:zK}{l:List AEv}{j:Nat}{e:AEv}(h:l[j]? = some e):zF a (l.take (j+1))=(zE (zF a (l.take j)) e).1:=by
 unfold zF;rw[List.take_succ,h,Option.toList_some,List.foldl_append];rfl
def ET(a:jb)(kind:Int)(n:B0)(v:Int):(TX a kind n v).1.n≤a.n+1:=by
 unfold TX
 repeat' split
 all_goals dsimp only;omega
def IY(a:zK)(e:AEv):(zE a e).1.sh.n≤a.sh.n+1:=by
 by_cases hb:ZH e=0
 ·rcases BV hb with hc | hc | hc | hc | hc | hc | hc | hc | hc | hc | hc | hc | hc
  ·rw[Dh hb hc];unfold vM VE;repeat' split
   all_goals dsimp only;omega
  ·rw[lH hb hc];unfold ge uQ;repeat' split
   all_goals dsimp only;omega
  ·rw[IZ hb hc];unfold lG;have:=ET a.sh e.n e.name e.draw;split<;>exact this
  ·rw[PY hb hc];unfold YU;split<;>(dsimp only;omega)
  ·rw[PX hb hc];unfold Vs;dsimp only;omega
  ·rw[Gq hb hc];unfold gb;split<;>(dsimp only;omega)
  ·rw[mU hb (.inl hc)];unfold UJ;split<;>(dsimp only;omega)
  ·rw[mU hb (.inr hc)];unfold UJ;split<;>(dsimp only;omega)
  ·rw[PW hb hc];unfold UI;split<;>(dsimp only;omega)
  ·rw[DG hb hc];unfold VC;repeat' split
   all_goals dsimp only;omega
  ·rw[DF hb hc];unfold Oa;repeat' split
   all_goals dsimp only;omega
  ·rw[Fq hb hc];unfold uw;repeat' split
   all_goals dsimp only;omega
  ·rw[gf hb hc];unfold qJ;split<;>(dsimp only;omega)
 ·rw[Wd hb];dsimp only;omega
def rF:∀(l:List AEv)(a:zK),(zF a l).sh.n≤a.sh.n+l.length
 | [],a=>by simp[zF]
 | e::l,a=>by
  have h1:=rF l (zE a e).1;have h2:=IY a e;rw[Un,List.length_cons];omega
abbrev evW(x:EvT):Value:=.agg #[.int .i64 x.1,.string x.2.1,.string x.2.2.1,.int .i64 x.2.2.2.1,.int .i64 x.2.2.2.2.1,.string x.2.2.2.2.2.1,.int .i64 x.2.2.2.2.2.2.1,.int .i64 x.2.2.2.2.2.2.2.1,.int .i64 x.2.2.2.2.2.2.2.2.1,.int .i64 x.2.2.2.2.2.2.2.2.2.1,.int .i64 x.2.2.2.2.2.2.2.2.2.2.1,.string x.2.2.2.2.2.2.2.2.2.2.2.1,.string x.2.2.2.2.2.2.2.2.2.2.2.2.1,.slice x.2.2.2.2.2.2.2.2.2.2.2.2.2.1.a x.2.2.2.2.2.2.2.2.2.2.2.2.2.1.len x.2.2.2.2.2.2.2.2.2.2.2.2.2.1.cap,.int .i64 x.2.2.2.2.2.2.2.2.2.2.2.2.2.2.1]
abbrev ae:List Lf:=[.int .i64,.str,.str,.int .i64,.int .i64,.str,.int .i64,.int .i64,.int .i64,.int .i64,.int .i64,.str,.str,.slice,.int .i64]
abbrev evB(b:Nat)(l:List AEv):Seg:=[Cl b zq (fl eEv l)]
def Ie{ks:Int→Bool}[Kn w0 ks]{b5 sb n:Nat}{l:List AEv}(hn:n=l.length)(hm:n≤1000){j:Nat}{e:AEv}(he:l[j]? = some e){a:zK}{s:Seg}(h:St w0 (s::evB b5 l::E) w)(hs:yV sb a s)(hke:ks e.kind=true∧ZH e=0)(ev:uq w0 (s::evB b5 l::E) 0 e)
  {k0:Nat} (inv:yI k0 a) (hk0:k0≤9000) (hsh:a.sh.n<99) {k:Sl→PT} (hk:∀v sv s' w',Rw eS zc 1 v (zE a e).2 sv→yV sb (zE a e).1 s'→yI (k0+2) (zE a e).1→St w0 (sv::s'::evB b5 l::E) w'→k v w') :
  L.idx (some ⟨b5,0,none⟩) (j:Int) n 15 (λa8=>L.load (.agg ae) a8 λ(x:EvT)=>L.call Pr zl [pO sb,evW x] (.one (.one .slice)) k) w:=by
 have hj:j<l.length:=by
  rcases Nat.lt_or_ge j l.length with h | h
  ·exact h
  ·rw[List.getElem?_eq_none h]at he;cases he
 have r:Rw eEv zq 15 ⟨some ⟨b5,0,none⟩,n,n⟩ l (evB b5 l):=Rw.lit b5 l MW rfl hn (Nat.le_trans hm (by decide));refine Rw.ix MW r (n:=(j:Int)) (by omega) (by rw[Int.toNat_natCast];exact hj) λa8 ha=>?_;rw[Int.toNat_natCast]at ha;refine Rw.lda MW h 1 rfl r ha he (y:=e.t) rfl ?_;exact bN h 0 rfl hs hke.1 hke.2 ev inv hk0 hsh λv sv s' w r hs i2 h=>hk v sv s' w r hs i2 h
def Bo{ks:Int→Bool}[Kn w0 ks]{b5 sb n:Nat}{l:List AEv}(hn:n=l.length)(hm:n≤1000){a:zK}{s:Seg}(h:St w0 (s::evB b5 l::E) w)(hs:yV sb a s)(hke:∀e∈l,ks e.kind=true∧ZH e=0)(ev:∀e∈l,∀s,uq w0 (s::evB b5 l::E) 0 e)
  {k0:Nat} (inv:yI k0 a) (hk0:k0+2*n≤9000) (hsh:a.sh.n+n<99) {rest:PT} (hr:∀s' w',yV sb (zF a l) s'→yI (k0+2*n) (zF a l)→St w0 (s'::evB b5 l::E) w'→rest w') :
  L.loop (Y:=Int×Unit) (0,()) (λy again=>L.ite (decide (y.1<((n:Nat):Int))) (L.idx (some ⟨b5,0,none⟩) y.1 n 15 (λa8=>L.load (.agg ae) a8 λ(x:EvT)=>L.call Pr zl [pO sb,evW x] (.one (.one .slice)) λ_=>again (Wi (y.1+1),()))) rest) w:=by
 refine zT (λq y w=>∃(j:Nat)(s:Seg),@Eq Int y.1 j∧q+j=n∧yV sb (zF a (l.take j)) s∧yI (k0+2*j) (zF a (l.take j))∧St w0 (s::evB b5 l::E) w) n ⟨0,s,rfl,rfl,hs,inv,h⟩ ?_;clear hs inv;clear h;rintro q ⟨y,⟨⟩⟩ w ⟨j,s,hy,hq,hs,inv,h⟩ again hag
 (try dsimp only)
 simp only at hy;subst hy;refine it (λhb=>?_) (λhb=>?_)<;>(try simp only[zB]at hb)
 ·have hj:j<l.length:=by omega
  have hx:l[j]? = some l[j]:=List.getElem?_eq_getElem hj;have hnn:=rF (l.take j) a;have hlt:(l.take j).length≤j:=by rw[List.length_take];omega
  refine Ie hn hm hx h hs (hke _ (List.getElem_mem hj)) (ev _ (List.getElem_mem hj) s) inv (by omega) (by omega) λv sv s' w r hs i2 h=>?_;refine hag (q-1) _ w (by omega) ⟨j+1,s',?_,by omega,?_,?_,zm h⟩
  ·show Wi _=_;rw[wr (by omega) (by omega)];omega
  ·rw[CB hx];exact hs
  ·rw[CB hx];exact i2
 ·have ej:l.take j=l:=List.take_of_length_le (by omega);have e:j=n:=by omega
  rw[ej]at hs inv;subst e;exact hr s w hs inv h
abbrev evC(ver:Int)(c:Cfg):AEv:=⟨1,s_,s_,ver,0,c,ke,Rr⟩
abbrev evR(ver:Int)(r:ARt)(v:Sl):AEv:=⟨2,s_,s_,ver,0,kC,r,v⟩
abbrev OS(n:Int)(name tag:B0)(draw:Int):AEv:=⟨4,name,tag,n,draw,kC,ke,Rr⟩
abbrev evN(kind n:Int):AEv:=⟨kind,s_,s_,n,0,kC,ke,Rr⟩
abbrev xP(kind:Int)(name:B0):AEv:=⟨kind,name,s_,0,0,kC,ke,Rr⟩
def z2c{ver:Int}{c:Cfg}(hv:0≤ver∧ver≤2147483647)(hc:XJ c=0):ZH (evC ver c)=0:=by
 have hn:MU (true,false,false,false,true,false,()) (evC ver c)=true:=by simp[MU,la,ke]
 have hm:tC (evC ver c)=true:=by
  simp only[tC,wiB];rw[if_pos (.inl trivial)];simp only[Bool.and_eq_true,decide_eq_true_eq];omega
 unfold ZH;have hp:shp 1=((true,false,false,false,true,false,()),true):=rfl;simp only[hp];rw[if_neg (by decide)];unfold bx;rw[hn,hm];simp[hc]
def z5r{ver:Int}{r:ARt}{v:Sl}(hv:0≤ver∧ver≤2147483647)(hr:gg r=0):ZH (evR ver r v)=0:=by
 have hn:MU (true,false,false,false,false,true,()) (evR ver r v)=true:=by
  have:kB kC kC=true:=by decide
  simp[MU,this]
 have hm:tC (evR ver r v)=true:=by
  simp only[tC,wiB];rw[if_pos (.inr trivial)];simp only[Bool.and_eq_true,decide_eq_true_eq];omega
 unfold ZH;have hp:shp 2=((true,false,false,false,false,true,()),true):=rfl;simp only[hp];rw[if_neg (by decide)];unfold bx;rw[hn,hm];simp[hr]
def tY{kind n:Int}(hk:kind=5∨kind=6∨kind=7∨kind=8)(hv:1≤n∧n≤2147483647):ZH (evN kind n)=0:=by
 have hn:MU (true,false,false,false,false,false,()) (evN kind n)=true:=by
  have:kB kC kC=true:=by decide
  simp[MU,la,ke,this]
 have hm:tC (evN kind n)=true:=by
  simp only[tC,wiB];rw[if_neg (by omega),if_neg (by omega)];simp only[Bool.and_eq_true,decide_eq_true_eq];omega
 have hp:shp kind=((true,false,false,false,false,false,()),true):=by rcases hk with rfl | rfl | rfl | rfl<;>rfl
 unfold ZH;simp only[hp];rw[if_neg (by decide)];unfold bx;rw[hn,hm];simp
def iS{n draw:Int}{name tag:B0}(hnm:yp name.data.toList 16=true)(ht:tag=s_∨yp tag.data.toList 8=true)(hv:1≤n∧n≤2147483647)(hd:0≤draw∧draw≤2147483647):ZH (OS n name tag draw)=0:=by
 have hn:MU (true,true,true,true,false,false,()) (OS n name tag draw)=true:=by
  have:kB kC kC=true:=by decide
  simp[MU,la,ke,this]
 have hm:tC (OS n name tag draw)=true:=by
  simp only[tC,wiB];rw[if_neg (by decide),if_neg (by decide)];simp only[Bool.and_eq_true,decide_eq_true_eq];omega
 have hnn:Fy (OS n name tag draw)=true:=by unfold Fy;rw[if_neg (show ¬((4:Int)=12∨(4:Int)=13)by decide)];exact hnm
 have hdd:wiB draw 0 2147483647=true:=by unfold wiB;simp;omega
 have htt:¬(tag≠s_∧yp tag.data.toList 8=false):=by
  rintro⟨h1,h2⟩;rcases ht with e | e
  ·exact h1 e
  ·rw[e]at h2;cases h2
 unfold ZH;have hp:shp 4=((true,true,true,true,false,false,()),true):=rfl;simp only[hp];rw[if_neg (by decide)];unfold bx;rw[hn,hm,hnn,hdd];simp only[reduceCtorEq,if_false,and_false,true_and,if_neg htt]
def gp:Ph Gs:=⟨QV,1,by decide,by decide,by decide,by decide +kernel⟩
end Go.Proofs.YtimahgbgejngiaaGreatDoor
namespace Go.Dm
section
variable {P:Program}{D:Tb}{a:AT}{c:Act}{w:World}{Q:Exit→Act→World→Prop}{ro:Option Nat}
def tn(T:XZ P D){K:AT→PT}{N id:Nat}{sm:Bool}{ops:Array Oper}{ds:List Deferred}(hin:inB N (.region id ops false)=true)(h:Vg P D ops.toList ⟨yS ops.toList,sm⟩ (jA 0 ops.toList) a K w)
  (hok:ok a c) (hN:c.tmps.size=N) (hds:c.defers=ds)
  (hQ:∀a' c' w',K a' w'→ok a' c'→c'.tmps.size=N→c'.defers=ds→Q .normal c' w'):(Code.region id ops false).wpIn (FR ro) 0 P Q c w:=by
 refine wpIn_region ?_
 have:=cK (ro:=ro) T (Q:=Q) (Fr:=λ_=>True) (λ_ _ _ _ _ _=>trivial) (λc w ⟨a,hk,ho,hn,hd⟩ _=>hQ a c w hk ho hn hd) (jA 0 ops.toList) a c w trivial
  (λx hx=>by have:=(Xp _ _ _ hx).2;rw[Nat.sub_zero,Array.getElem?_toList]at this;exact this)
  (λx hx=>by have:=(Xp _ _ _ hx).2;rw[Nat.sub_zero,Array.getElem?_toList]at this;exact Do hin _ _ this) h hok hN hds
 rw[Ws]at this;simpa using this
def Sg(T:XZ P D){K0:AT→PT}{K:AT→FuncId→Array Value→Array Value→PT}{N id t:Nat}{mk df:Oper}{ct:Call}{ds:List Deferred}(hin:inB N (.region id #[mk,df] false)=true)
  (hdf:df.op = .defer ct) (hct:ct.callee = .value (.tmp t)) (hca:ct.args = #[]) (hdd:df.dst=none) (hg:df.guard=none) (hmg:mk.guard=none)
  (h:zh P D mk a K0 w) (hK:∀a' w',K0 a' w'→∃f fs cs,a'.get t=some (.v (.func (.func f) fs cs))∧K a' f fs cs w') (hmd:Dst mk c) (hok:ok a c) (hN:c.tmps.size=N) (hds:c.defers=ds)
  (hQ:∀a' c' w' f fs cs,K a' f fs cs w'→ok a' c'→c'.tmps.size=N→c'.defers = { target:=.fn (.func f) cs,args:=fs } :: ds→Q .normal c' w'):(Code.region id #[mk,df] false).wpIn (FR none) 0 P Q c w:=by
 refine wpIn_region ?_;have e2:List.range (#[mk,df]:Array Oper).size = [0,1]:=rfl;rw[e2];simp only[wpOpsIn];have w0:∀ys,Region.wanted mk ys=true:=λys=>by simp[Region.wanted,hmg]
 have w1:∀ys,Region.wanted df ys=true:=λys=>by simp[Region.wanted,hg]
 show(if Region.wanted mk _=true then _ else _);rw[if_pos (w0 _)];refine kY (nb h) ((tX T hok hmd h).mono λc1 w1' hn=>?_);obtain⟨a',hk0,ho,hs,hd⟩:=hn;obtain⟨f,fs,cs,hv,hk⟩:=hK _ _ hk0;show(if Region.wanted df _=true then _ else _);rw[if_pos (w1 _)];show Oper.wpIn (FR none) 0 P df c1 w1' (λx x_1=>Q Exit.normal x x_1) Q;refine⟨λ_ _=>trivial,?_⟩;have hvt:=ho t _ hv;have hsem:(df.semAt (FR none).round c1.eval).run P w1' = .ok (.defer { target:=.fn (.func f) cs,args:=fs }) w1':=by
  have hev:c1.eval (.tmp t) = .func (.func f) fs cs:=by
   show c1.tmps.getD t undef=_;rw[Array.getD_eq_getD_getElem?,hvt];rfl
  show(df.semAt none c1.eval).run P w1'=_;unfold Oper.semAt;simp only[execOp,hdf,resolve,hct,hca,Array.map_empty,hev,Deferred.ofValue,Array.append_empty];rfl
 rw[hsem];show Q .normal (Act.put { c1 with defers:={ target:=.fn (.func f) cs,args:=fs } :: c1.defers } df.dst undef) w1';rw[hdd];exact hQ a' _ w1' f fs cs hk (λt s h=>ho t s h) (hs.trans hN) (by show _::c1.defers=_;rw[hd,hds])
def iO(T:XZ P D){f:FuncId}{fn:Func}{an:Ann}{args:List SV}{K:Value→PT}{w:World}{u:FrameMode}{cd:Code}(hf:P.funcs[f]? = some fn)(hb:fn.body=some cd)(hr:yf cd=false)(hin:okF args.length fn=true)(h:NZ P D fn an args K w) :
  CallsDIn (FR none) 0 P f (Jx args).toArray u w λe u' w'=>u'=u∧∃v,e = .returned v∧K v w':=by
 unfold okF at hin;unfold NZ at h;rw[hb]at h hin;simp only[Bool.and_eq_true,Nat.ble_eq]at hin;dsimp only at h;refine callsDIn_of_wp hf hb trivial (wpIn_mono (iN T cd an none _ [] _ fn.ntmps w _ hin.1 h ?_ ?_ rfl) ?_)
 ·intro t s hs;obtain⟨_,h2⟩:=Ta args 0 t s hs;rw[Nat.sub_zero]at h2;simp only;rw[Array.getElem?_append_left (by simpa using(List.getElem?_eq_some_iff.1 h2).1)];simpa using h2
 ·have:=PU args;simp;omega
 ·intro e c' w' hq;obtain⟨a',ds',hk,ho',hN',hd',-,h0⟩:=hq;have hd0:=h0 hr;rw[hd0]at hd';have hds:ds' = []:=by
   cases ds' with
   | nil=>rfl
   | cons d r=>simp[kG]at hd'
  subst hds;have key:(L.unmark P [] (FO D a' fn.results.toList λvs=>K (TP vs)) w')→∃v,(results fn c'.tmps).run P w' = .ok v w'∧∃v2,Ending.returned v = .returned v2∧K v2 w':=λhk=>by
   obtain⟨vs,hr,hk⟩:=Mi T ho' _ _ hk;refine⟨TP vs,?_,_,rfl,hk⟩;rw[pH,←wY,Sem.run_bind];have e:fn.results.mapM (Ft c'.tmps)=(do let l ←fn.results.toList.mapM (Ft c'.tmps);pure l.toArray):=by
    rw[Array.mapM_eq_mapM_toList];rfl
   rw[e,Sem.run_bind,hr];simp
  cases e with
  | normal=>exact⟨hd0,key hk⟩
  | ret=>exact⟨hd0,key hk⟩
  | _=>exact hk.elim
def tP{N:Nat}{x y:Code}(h:inB N (.seq x y)=true):inB N x=true∧inB N y=true:=by
 simpa only[inB,Bool.and_eq_true]using h
def HX{N:Nat}{v:Operand}{x y:Code}(h:inB N (.cond v x y)=true):inB N x=true∧inB N y=true:=by
 simpa only[inB,Bool.and_eq_true]using h
def Lk(s:Option SV):Option (FuncId×Value×Value):=match s with
 | some (.v (.func (.func g) fs cs))=>match fs.toList,cs.toList with
  | [],[x,y]=>some (g,x,y)
  | _,_=>none
 | _=>none
def bz{s:Option SV}{g:FuncId}{x y:Value}(h:Lk s=some (g,x,y)):s=some (.v (.func (.func g) #[] #[x,y])):=by
 unfold Lk at h;split at h
 ·rename_i g' fs cs;split at h
  ·rename_i h1 h2
   cases h
   obtain⟨fs⟩:=fs;obtain⟨cs⟩:=cs;simp only at h1 h2;subst h1 h2;rfl
  ·cases h
 ·cases h
def z5o(P:Program)(D:Tb)(r0 r1 r2:List Oper)(mk:Oper)(t:Nat)(r4:List Oper)(v:Operand)(r5:List Oper)(g:FuncId)(gn:Func)(gan:Ann)(a0:AT)(K:Value→PT):PT:=
 Vg P D r0 ⟨yS r0,false⟩ (jA 0 r0) a0 λa1=>
 Vg P D r1 ⟨yS r1,false⟩ (jA 0 r1) a1 λa2=>
 Vg P D r2 ⟨yS r2,false⟩ (jA 0 r2) a2 λa3=>
 zh P D mk a3 λa4=>match Lk (a4.get t) with
  | some (g',x,y)=>if g'=g then
    Vg P D r4 ⟨yS r4,false⟩ (jA 0 r4) a4 λa5=>match a5.ev v with
     | some (.v (.bool b))=>L.ite b (Vg P D r5 ⟨yS r5,false⟩ (jA 0 r5) a5 λ_=>NZ P D gn gan [.v x,.v y] λ_=>K (.tuple #[])) (NZ P D gn gan [.v x,.v y] λ_=>K (.tuple #[]))
     | _=>bad
   else bad
  | _=>bad
def z0O(T:XZ P D){f g:FuncId}{fn gn:Func}{gc:Code}{gan:Ann}{r0 r1 r2 r4 r5:Array Oper}{i0 i1 i2 i3 i4 i5 t:Nat}{mk df:Oper}{ct:Call}{v:Operand}{args:List SV}{K:Value→PT}(hf:P.funcs[f]? = some fn)
  (hb:fn.body=some (.seq (.region i0 r0 false) (.seq (.region i1 r1 false) (.seq (.region i2 r2 false) (.seq (.region i3 #[mk,df] false) (.seq (.region i4 r4 false) (.cond v (.region i5 r5 false) .skip))))))) (hres:fn.results = #[])
  (hdf:df.op = .defer ct) (hct:ct.callee = .value (.tmp t)) (hca:ct.args = #[]) (hdd:df.dst=none) (hdg:df.guard=none) (hmg:mk.guard=none) (hmt:mk.dst=some t)
  (hin:okF args.length fn=true) (hg:P.funcs[g]? = some gn) (hgb:gn.body=some gc) (hgr:yf gc=false) (hgin:okF 2 gn=true) (hE:ZN P g)
  (h:z5o P D r0.toList r1.toList r2.toList mk t r4.toList v r5.toList g gn gan (lb 0 args) K w):Calls P f (Jx args).toArray w λe w'=>∃v,e = .returned v∧K v w':=by
 unfold okF at hin;rw[hb]at hin;simp only[Bool.and_eq_true,Nat.ble_eq]at hin;obtain⟨hin,hlen⟩:=hin;obtain⟨n0,hin⟩:=tP hin;obtain⟨n1,hin⟩:=tP hin;obtain⟨n2,hin⟩:=tP hin;obtain⟨n3,hin⟩:=tP hin;obtain⟨n4,hin⟩:=tP hin;obtain⟨n5,-⟩:=HX hin
 suffices h0:CallsIn (FR none) 0 P f (Jx args).toArray w λe w'=>∃v,e = .returned v∧K v w' from callsIn_wide.1 h0
 refine callsIn_of_wp_marks hf hb trivial ?_;have hok0:ok (lb 0 args) { tmps:=(Jx args).toArray++Array.replicate (fn.ntmps-(Jx args).toArray.size) undef,defers:=[] }:=by
  intro t s hs;obtain⟨_,h2⟩:=Ta args 0 t s hs;rw[Nat.sub_zero]at h2;simp only;rw[Array.getElem?_append_left (by simpa using(List.getElem?_eq_some_iff.1 h2).1)];simpa using h2
 have hN0:((Jx args).toArray++Array.replicate (fn.ntmps-(Jx args).toArray.size) undef).size=fn.ntmps:=by
  have:=PU args;simp;omega
 unfold z5o at h;refine wpIn_seq (tn T n0 h hok0 hN0 rfl λa1 c1 w1 h ok1 N1 d1=>?_);refine wpIn_seq (tn T n1 h ok1 N1 d1 λa2 c2 w2 h ok2 N2 d2=>?_);refine wpIn_seq (tn T n2 h ok2 N2 d2 λa3 c3 w3 h ok3 N3 d3=>?_);have hmd:Dst mk c3:=λt' ht=>by
  rw[N3];exact Do n3 0 mk rfl t' ht
 refine wpIn_seq ?_
 refine Sg (K:=λa4 f fs cs w4=>f=g∧∃x y,fs = #[]∧cs = #[x,y]∧(Vg P D r4.toList ⟨yS r4.toList,false⟩ (jA 0 r4.toList) a4 λa5=>match a5.ev v with
     | some (.v (.bool b))=>L.ite b (Vg P D r5.toList ⟨yS r5.toList,false⟩ (jA 0 r5.toList) a5 λ_=>NZ P D gn gan [.v x,.v y] λ_=>K (.tuple #[])) (NZ P D gn gan [.v x,.v y] λ_=>K (.tuple #[]))
     | _=>bad) w4) T n3 hdf hct hca hdd hdg hmg h (λa' w' h9=>?_) hmd ok3 N3 d3 λa4 c4 w4 f' fs cs h ok4 N4 d4=>?_
 ·cases hcp:Lk (a'.get t) with
  | none=>rw[hcp]at h9;exact h9.elim
  | some p=>
   obtain⟨g',x,y⟩:=p;rw[hcp]at h9;dsimp only at h9;have hv:=bz hcp;by_cases hgg:g'=g
   ·rw[if_pos hgg]at h9;subst hgg;exact⟨_,_,_,hv,rfl,x,y,rfl,rfl,h9⟩
   ·rw[if_neg hgg]at h9;exact h9.elim
 obtain⟨hfg,x,y,rfl,rfl,h⟩:=h;rw[hfg]at d4;clear hfg;refine wpIn_seq (tn T n4 h ok4 N4 d4 λa5 c5 w5 h ok5 N5 d5=>?_)
 have fin:∀(c6:Act)(w6:World),c6.defers = [{ target:=.fn (.func g) #[x,y],args:=#[] }]→NZ P D gn gan [.v x,.v y] (λ_=>K (.tuple #[])) w6→
   LeavesInM (FR none) 0 P fn c6.tmps (λe w'=>∃v,e = .returned v∧K v w') c6.defers .returning w6:=λc6 w6 d6 hk=>by
  rw[d6];refine⟨by simp,.inr ⟨λh=>by simp[FR]at h,.func g,#[x,y],g,#[x,y],rfl,?_,λ_ _=>trivial,?_⟩⟩
  ·simp[invoke,hE _ _]
  ·refine(iO (args:=[.v x,.v y]) T hg hgb hgr hgin hk).mono ?_;rintro e u' w' ⟨rfl,v,rfl,hk⟩;refine⟨.tuple #[],?_,_,rfl,hk⟩;rw[pH,hres];simp
 (try dsimp only at h)
 cases hev:a5.ev v with
 | none=>rw[hev]at h;exact h.elim
 | some s=>
  rw[hev]at h;have he:=Ja ok5 hev
  cases s with
  | v q=>
   cases q with
   | bool b=>
    refine wpIn_cond_split he (λhb=>?_) (λhb=>?_)
    ·exact tn T n5 (h.1 hb) ok5 N5 d5 λa6 c6 w6 h ok6 N6 d6=>fin c6 w6 d6 h
    ·exact wpIn_skip (fin c5 w5 d5 (h.2 hb))
   | _=>exact h.elim
  | _=>exact h.elim
end
end Go.Dm
namespace Go.Proofs.YtimahgbgejngiaaGreatDoor
open Go.Dm
def aR(p0 p1:Option Addr)(p2:Sl)(K:Value→PT):PT:=
 L.new [.pointer p0] jh λb1=>
 L.call Pr OQ [.slice p2.a p2.len p2.cap] (.tup [.agg ae,.one (.int .i64)]) λ(x2:EvT×Int×Unit)=>
 L.new [.int .i64 0,.string s_,.string s_,.int .i64 0,.int .i64 0,.string s_,.int .i64 0,.int .i64 0,.int .i64 0,.int .i64 0,.int .i64 0,.string s_,.string s_,.slice none 0 0,.int .i64 0] zq λb3=>
 L.store ⟨b3,0,none⟩ [.int .i64 x2.1.1,.string x2.1.2.1,.string x2.1.2.2.1,.int .i64 x2.1.2.2.2.1,.int .i64 x2.1.2.2.2.2.1,.string x2.1.2.2.2.2.2.1,.int .i64 x2.1.2.2.2.2.2.2.1,.int .i64 x2.1.2.2.2.2.2.2.2.1,.int .i64 x2.1.2.2.2.2.2.2.2.2.1,.int .i64 x2.1.2.2.2.2.2.2.2.2.2.1,.int .i64 x2.1.2.2.2.2.2.2.2.2.2.2.1,.string x2.1.2.2.2.2.2.2.2.2.2.2.2.1,.string x2.1.2.2.2.2.2.2.2.2.2.2.2.2.1,.slice x2.1.2.2.2.2.2.2.2.2.2.2.2.2.2.1.a x2.1.2.2.2.2.2.2.2.2.2.2.2.2.2.1.len x2.1.2.2.2.2.2.2.2.2.2.2.2.2.2.1.cap,.int .i64 x2.1.2.2.2.2.2.2.2.2.2.2.2.2.2.2.1]<|
 L.call Pr xL [.int .i64 x2.2.1] (.one (.one .str)) λ(x4:B0)=>
 L.guard (((CI.size+x4.size:Nat):Int)≤Ue)<|
 L.new [.string (CI++x4)] zc λb5=>
 L.new [.slice none 0 0] zj λb6=>
 L.store ⟨b6,0,none⟩ [.slice (some ⟨b5,0,none⟩) 1 1]<|
 L.ite (x2.2.1 == 0) (
  L.load (.agg ae) ⟨b3,0,none⟩ λ(x7:EvT)=>
  L.call Pr zl [.pointer p1,evW x7] (.one (.one .slice)) λ(x8:Sl)=>
  L.store ⟨b6,0,none⟩ [.slice x8.a x8.len x8.cap]<|
  uo ⟨b1,0,none⟩ ⟨b6,0,none⟩ λ_=>K (.tuple #[])) (
  uo ⟨b1,0,none⟩ ⟨b6,0,none⟩ λ_=>K (.tuple #[]))
def z0d(p0 p1:Option Addr)(p2:Sl){K:Value→PT}{w:World}(h:aR p0 p1 p2 K w):Calls Pr UW [.pointer p0,.pointer p1,.slice p2.a p2.len p2.cap].toArray w λe w2=>∃v,e = .returned v∧K v w2:=
 z0O (args:=[.v (.pointer p0),.v (.pointer p1),.v (.slice p2.a p2.len p2.cap)]) (fn:=Tryz.f48) (gn:=Tryz.f122) (gan:=.auto) Tok (by kernel_rfl) rfl rfl rfl rfl rfl rfl rfl rfl rfl (by kernel_rfl) (by kernel_rfl) rfl (by kernel_rfl) (by kernel_rfl) Mr
  ((congrFun (by kernel_rfl:_=aR p0 p1 p2 K) w).mpr h)
end Go.Proofs.YtimahgbgejngiaaGreatDoor
