/- What is proved on the way to a statement of the seat, pressed (text AJ). No conditions beyond those its theorems state. -/
import Derived.Test.YtdcdhcgmeahfmaaGreatDoorFAI
set_option linter.all false
namespace Go.Proofs.YtdcdhcgmeahfmaaGreatDoor
open Go.Dm
attribute [local irreducible] L.load L.store L.chk L.new L.nonnil L.guard L.ite L.draw L.idx L.sem L.semR L.semU L.chkSem L.next L.call L.callV L.join L.alts L.loop L.begin L.endRound L.range
variable {w0 w:World}{E:List Seg}
structure Oa where
 xs:List Int
 want:Int
 left:Int
structure zK where
 sh:YV
 bk:yW
 ro:oi
 fl:ze
 gt:Ze
 by':List (B0×Oa)
 now:Int
structure BsE where
 k:B0
 b:Nat
 g:Nat
 x:Oa
 sgg:Seg
abbrev BsE.cell(x:BsE):Seg:=[Cl x.b XY [.pointer (some ⟨x.g,0,none⟩),I x.x.want,I x.x.left]]
abbrev BsE.sg(x:BsE):Seg:=x.cell++x.sgg
abbrev BsE.kp(x:BsE):B0×Option Addr:=(x.k,some ⟨x.b,0,none⟩)
abbrev BsE.ka(x:BsE):B0×Oa:=(x.k,x.x)
def BsE.ok(x:BsE):Prop:=AZ x.g x.x.xs x.sgg
structure Bls where
 s:Nat
 k:Nat
 r:Nat
 f:Nat
 g:Nat
 m:Nat
abbrev vY(b:Nat)(p:Bls)(now:Int):Seg:=[Cl b Gs [.pointer (some ⟨p.s,0,none⟩),.pointer (some ⟨p.k,0,none⟩),.pointer (some ⟨p.r,0,none⟩),.pointer (some ⟨p.f,0,none⟩),.pointer (some ⟨p.g,0,none⟩),.map (some p.m),I now]]
structure z3H(a:zK)(p:Bls)(sg sf ss sk sr sm:Seg)(Q:List BsE):Prop where
 gt:GtS p.g p.f a.gt sg
 fl:FlS p.f a.fl sf
 sh:ShS p.s a.sh ss
 bk:BkS p.k a.bk sk
 ro:Hd p.r a.ro sr
 mp:MpS Value.string Value.pointer p.m (Q.map BsE.kp) sm
 ea:∀x∈Q,x.ok
 ab:a.by'=Q.map BsE.ka
abbrev z2q(b:Nat)(a:zK)(p:Bls)(sg sf ss sk sr sm:Seg)(Q:List BsE):Seg:=vY b p a.now++(sg++(sf++(ss++(sk++(sr++(sm++(Q.map BsE.sg).flatten))))))
def yN(b:Nat)(a:zK)(s:Seg):Prop:=∃(p:Bls)(sg sf ss sk sr sm:Seg)(Q:List BsE),z3H a p sg sf ss sk sr sm Q∧s=z2q b a p sg sf ss sk sr sm Q
def _root_.Go.Dm.St.split8{a b c d e f g i:Seg}(h:St w0 ((a++(b++(c++(d++(e++(f++(g++i)))))))::E) w):St w0 (a::b::c::d::e::f::g::i::E) w:=h.eq (by simp)
def _root_.Go.Dm.St.glue8{a b c d e f g i:Seg}(h:St w0 (a::b::c::d::e::f::g::i::E) w):St w0 ((a++(b++(c++(d++(e++(f++(g++i)))))))::E) w:=h.eq (by simp)
def jt{sv a b c d e f g j s:Seg}(i:Nat)(hi:nth E i=some s)(h:St w0 (sv::a::b::c::d::e::f::g::j::Zx E i) w):St w0 (sv::zd E i (a++(b++(c++(d++(e++(f++(g++j)))))))) w:=by
 have h:=Jk (Jk (Jk (Jk (Jk (Jk (Jk (Jk h)))))))
 have h:=h.glue8
 exact St.back (E:=sv::E) (i+1) hi h
def PW:Pr.underlying ZG=some (.map zc qz):=by kernel_rfl
abbrev slK(k:Sl→PT):Value→PT:=λv w'=>∃x,v=RT.val (.one (.one .slice)) x∧k x w'
abbrev Hk(w0:World)(E:List Seg)(i b:Nat)(r:zK×List B0)(k:Sl→PT):Prop:=∀v sv s' w',Rw eS zc 1 v r.2 sv→yN b r.1 s'→St w0 (sv::zd E i s') w'→k v w'
def ve(a:zK)(e:AEv):zK×List B0:=({ a with sh:=(vZ a.sh e.c e.n).1 },Ss CR e.c.1 (vZ a.sh e.c e.n).2.1 (vZ a.sh e.c e.n).2.2)
def af(a:YV)(c:Cfg)(ver:Int)(h0:0≤a.n)(h1:a.n<900000000):0≤(vZ a c ver).2.1∧(vZ a c ver).2.1≤9000000000000000000:=by
 unfold vZ
 split
 ·exact⟨Int.le_refl 0,by show(0:Int)≤_;decide⟩
 ·split
  ·exact⟨Int.le_refl 0,by show(0:Int)≤_;decide⟩
  ·dsimp only;omega
def LN [Jp w0](h:St w0 E w)(i:Nat){b:Nat}{a:zK}{s:Seg}(hi:nth E i=some s)(hs:yN b a s){e:AEv}(hn:a.sh.n<900000000)(hsz:e.c.1.size≤1000000){k:Sl→PT}(hk:Hk w0 E i b (ve a e) k) :
  XN (some ⟨b,0,none⟩) e.t (slK k) w:=by
 obtain⟨p,sg,sf,ss,sk,sr,sm,Q,R,rfl⟩:=hs
 have hlo:=R.sh.1.lo
 unfold XN
 have h:=(h.front i hi).split8
 refine nw h ?_;clear h;intro b1 w h
 (dsimp only[zd,List.cons_append,List.nil_append]at h;refine dr h ?_;clear h;intro w h;refine nn ?_;refine ldC h ?_;refine laC h ?_;refine ldC h ?_;rw[JB])
 refine iU (c:=e.c) h 4 rfl R.sh hn λss' w hS h=>?_
 dsimp only[zd]at h
 (refine ldC h ?_)
 have hv:=af a.sh e.c e.n hlo hn
 refine IS h (by decide) hsz hv λv sv w r h=>?_
 refine⟨v,rfl,hk v sv _ w r ⟨p,sg,sf,ss',sk,sr,sm,Q,⟨R.gt,R.fl,hS,R.bk,R.ro,R.mp,R.ea,R.ab⟩,rfl⟩ ?_⟩
 exact jt i hi (Yf h)
def Oc(a:zK)(e:AEv):zK×List B0:=({ a with sh:=(uk a.sh e.r e.n).1 },Ss bY e.r.name (uk a.sh e.r e.n).2.1 (uk a.sh e.r e.n).2.2)
def rK(a:YV)(r:ARt)(ver:Int)(h0:0≤a.n)(h1:a.n<900000000):0≤(uk a r ver).2.1∧(uk a r ver).2.1≤9000000000000000000:=by
 unfold uk
 split
 ·exact⟨Int.le_refl 0,by show(0:Int)≤_;decide⟩
 ·split
  ·exact⟨Int.le_refl 0,by show(0:Int)≤_;decide⟩
  ·dsimp only;omega
def RZ [Jp w0](h:St w0 E w)(i:Nat){b:Nat}{a:zK}{s:Seg}(hi:nth E i=some s)(hs:yN b a s){e:AEv}(hn:a.sh.n<900000000)(hsz:e.r.name.size≤1000000)(hfew:a.sh.Few)(rd:RdE w0 (Zx E i) eT e.v e.r.ts)(hvc:e.v.len≤e.v.cap)(h0:e.v.a=none→e.r.ts = [])(hrv:∀t∈e.r.ts,UR t.1)
  {k:Sl→PT} (hk:Hk w0 E i b (Oc a e) k):qp (some ⟨b,0,none⟩) e.t (slK k) w:=by
 obtain⟨p,sg,sf,ss,sk,sr,sm,Q,R,rfl⟩:=hs
 have hlo:=R.sh.1.lo
 unfold qp
 have h:=(h.front i hi).split8
 refine nw h ?_;clear h;intro b1 w h
 (dsimp only[zd,List.cons_append,List.nil_append]at h;refine dr h ?_;clear h;intro w h;refine nn ?_;refine ldC h ?_;refine laC h ?_;refine ldC h ?_;rw[JB])
 refine EM (r:=e.r) (v:=e.v) h 4 rfl R.sh hfew hn (λw h=>?_) hvc h0 hrv λss' w hS h=>?_
 ·exact rd w (zl (zl (zl (zl (zl (zl (zl (zl h))))))))
 dsimp only[zd]at h
 (refine ldC h ?_)
 have hv:=rK a.sh e.r e.n hlo hn
 refine IS h (by decide) hsz hv λv sv w r h=>?_
 exact⟨v,rfl,hk v sv _ w r ⟨p,sg,sf,ss',sk,sr,sm,Q,⟨R.gt,R.fl,hS,R.bk,R.ro,R.mp,R.ea,R.ab⟩,rfl⟩ (jt i hi (Yf h))⟩
def vP(a:zK)(e:AEv):zK×List B0:=
 ({ a with gt:=(Yp a.fl a.gt e.n).2.1,fl:=(Yp a.fl a.gt e.n).1 },if(Yp a.fl a.gt e.n).2.2.2≠0 then Xd (Yp a.fl a.gt e.n).2.2.2 else(Yp a.fl a.gt e.n).2.2.1.map Xx)
def AK [Jp w0](h:St w0 E w)(i:Nat){b:Nat}{a:zK}{s:Seg}(hi:nth E i=some s)(hs:yN b a s){e:AEv}(hfew:Jl a.fl)(hn:a.gt.all.length<80000000)(hl:a.gt.lines.length<90000000)(hf:∀f∈(Yp a.fl a.gt e.n).2.2.1,f.Ok)(hfl:(Yp a.fl a.gt e.n).2.2.1.length<100000000)
  {k:Sl→PT} (hk:Hk w0 E i b (vP a e) k):Qb (some ⟨b,0,none⟩) e.t (slK k) w:=by
 obtain⟨p,sg,sf,ss,sk,sr,sm,Q,R,rfl⟩:=hs
 unfold Qb
 have h:=(h.front i hi).split8
 refine nw h ?_;clear h;intro b1 w h
 (dsimp only[zd,List.cons_append,List.nil_append]at h;refine dr h ?_;clear h;intro w h;refine nn ?_;refine ldC h ?_;refine ldC h ?_)
 have h:=Yv (Yv h)
 refine Ip h R.gt R.fl hfew hn hl λv sv sg' sf' w hr hG hF h=>?_
 unfold vP at hk
 refine it (λhc=>?_) (λhc=>?_)
 ·have hc:(Yp a.fl a.gt e.n).2.2.2≠0:=by simpa using hc
  rw[if_pos hc]at hk
  refine Xp h λv s w r h=>?_
  refine⟨v,rfl,hk v s _ w r ⟨p,sg',sf',ss,sk,sr,sm,Q,⟨hG,hF,R.sh,R.bk,R.ro,R.mp,R.ea,R.ab⟩,rfl⟩ ?_⟩
  have h:=Yf (kH h)
  have h:=Yv (Yv (ZM (ZM h)))
  exact jt i hi h
 ·have hc:¬(Yp a.fl a.gt e.n).2.2.2≠0:=by simpa using hc
  rw[if_neg hc]at hk
  refine tX h.nil (l:=[]) hr hf hfl (by decide) Rw.nil λv s w r h=>?_
  refine⟨v,rfl,hk v s _ w (by simpa using r) ⟨p,sg',sf',ss,sk,sr,sm,Q,⟨hG,hF,R.sh,R.bk,R.ro,R.mp,R.ea,R.ab⟩,rfl⟩ ?_⟩
  have h:=Yf (kH h)
  have h:=Yv (Yv (ZM (ZM h)))
  exact jt i hi h
def rq(a:zK)(e:AEv):yW:=if xH a.bk (fOf (jR a.fl e.n).1.l e.n)=true then a.bk else(kJ a.bk (fOf (jR a.fl e.n).1.l e.n)).1
def FP(a:zK)(e:AEv):List B0:=
 if xH a.bk (fOf (jR a.fl e.n).1.l e.n)=true then [Zv wj [jo e.n.toNat]]else [Zv wj [jo e.n.toNat],Zv fB [fOf (jR a.fl e.n).1.l e.n]]
abbrev Kb(a:zK)(e:AEv):ze×Ze×List yo:=yV (jR a.fl e.n).1 a.gt (fOf (jR a.fl e.n).1.l e.n)
def fu(a:zK)(e:AEv):zK×List B0:=
 if(jR a.fl e.n).2≠0 then({ a with fl:=(jR a.fl e.n).1 },Xd (jR a.fl e.n).2)
 else({ a with fl:=(Kb a e).1,gt:=(Kb a e).2.1,bk:=rq a e },FP a e++(Kb a e).2.2.map Xx)
abbrev eEw (e : AEv) : List Value := [I e.kind, .string e.name, .string e.tag, I e.n, I e.draw, .string e.c.1, I e.c.2.1, I e.c.2.2.1, I e.c.2.2.2.1, I e.c.2.2.2.2.1, I e.c.2.2.2.2.2.1, .string e.r.name, .string e.r.cfg, SlV e.v, I e.r.roll]
def iP [Jp w0](h:St w0 E w)(i:Nat){b:Nat}{a:zK}{s:Seg}(hi:nth E i=some s)(hs:yN b a s){e:AEv}(he:0≤e.n∧e.n≤9000000000000000000)(hrv:(fOf (jR a.fl e.n).1.l e.n).size≤1000000)(hfew:Jl (jR a.fl e.n).1)(hn:a.gt.all.length<80000000)(hl:a.gt.lines.length<90000000)
  (hf:∀f∈(Kb a e).2.2,f.Ok) (hfl:(Kb a e).2.2.length<100000000) {k:Sl→PT} (hk:Hk w0 E i b (fu a e) k):uE (some ⟨b,0,none⟩) e.t (slK k) w:=by
 obtain⟨p,sg,sf,ss,sk,sr,sm,Q,R,rfl⟩:=hs
 unfold uE
 have h:=(h.front i hi).split8
 refine nw h ?_;clear h;intro b1 w h
 (dsimp only[zd,List.cons_append,List.nil_append]at h;refine dr h ?_;clear h;intro w h;refine nn ?_;refine ldC h ?_;refine ldC h ?_)
 unfold fu at hk
 refine z1g h 3 rfl R.fl λsf' w hF h=>?_
 dsimp only[zd]at h
 refine it (λhc=>?_) (λhc=>?_)
 ·have hc:(jR a.fl e.n).2≠0:=by simpa using hc
  rw[if_pos hc]at hk
  refine Xp h λv s w r h=>?_
  exact⟨v,rfl,hk v s _ w r ⟨p,sg,sf',ss,sk,sr,sm,Q,⟨R.gt,hF,R.sh,R.bk,R.ro,R.mp,R.ea,R.ab⟩,rfl⟩ (jt i hi (Yf h))⟩
 have hc:¬(jR a.fl e.n).2≠0:=by simpa using hc
 rw[if_neg hc]at hk
 unfold rq FP Kb at hk
 unfold Kb at hf hfl
 generalize (jR a.fl e.n).1=F at *
 (refine dr h ?_;clear h;intro w h;refine nn ?_;refine ldC h ?_;refine ldC h ?_)
 refine z36 h 3 rfl hF ?_
 generalize fOf F.l e.n=rev at *
 (refine ldC h ?_)
 refine nw h ?_;clear h;intro b12 w h
 refine qP h (by decide) he.1 he.2 λw h=>?_
 have hsu:(Zv wj [jo e.n.toNat]).size≤10000:=by rw[vA];have:=wP he.1 he.2;have:wj.size=2:=rfl;omega
 refine nw h ?_;clear h;intro b14 w h
 refine ZU (λ(z:Sl×Unit) w=>∃(s1 sk':Seg),Rw eS zc 1 z.1 (if xH a.bk rev=true then [Zv wj [jo e.n.toNat]]else [Zv wj [jo e.n.toNat],Zv fB [rev]]) s1∧BkS p.k (if xH a.bk rev=true then a.bk else(kJ a.bk rev).1) sk'∧
  St w0 (s1::[Cl b1 zC (eEw e)]::vY b p a.now::sg::sf'::ss::sk'::sr::sm::(Q.map BsE.sg).flatten::Zx E i) w) (λk15 hk15=>?_) ?_
 ·(refine nn ?_;refine ldC h ?_)
  refine Dj h 6 rfl R.bk λw h=>?_
  cases hp:xH a.bk rev with
  | true=>
   rw[hp]at hk15
   refine itF rfl ?_
   exact hk15 (_,()) w ⟨_,sk,Rw.lit b14 [_] ya rfl rfl (by decide),R.bk,h⟩
  | false=>
   rw[hp]at hk15
   refine itT rfl ?_
   (refine nn ?_;refine ldC h ?_)
   refine AW h 6 rfl R.bk λsk' w hK h=>?_
   dsimp only[zd]at h
   refine nw h ?_;clear h;intro b23 w h
   refine uC h (by decide) (by omega) λw h=>?_
   refine nw h ?_;clear h;intro b25 w h
   refine Rw.app ya elS h 0 rfl (Rw.lit b14 [Zv wj [jo e.n.toNat]] ya rfl rfl (by simp[maxLen])) (Zv fB [rev]) rfl (by simp) (by simp) λv' s' w hr' h=>?_
   exact hk15 (_,()) w ⟨s',sk',hr',hK,h⟩
 ·clear h
  rintro⟨vo,⟨⟩⟩ w ⟨s1,sk',r1,hK,h⟩
  (refine nn ?_;refine ldC h ?_)
  have h:=Ym (Ym h)
  refine wX h R.gt hF hfew (by omega) hl λv sv sg' sf'' w hr hG hF h=>?_
  have h:=Yv h
  refine tX h (v2:=vo) hr hf hfl (by split<;>simp) r1 λv s w r h=>?_
  refine⟨v,rfl,hk v s _ w r ⟨p,sg',sf'',ss,sk',sr,sm,Q,⟨hG,hF,R.sh,hK,R.ro,R.mp,R.ea,R.ab⟩,rfl⟩ ?_⟩
  have h:=Yf (kH h)
  have h:=Yv (Yv (ZM (ZM h)))
  exact jt i hi h
abbrev gg(c:Cfg):Int:=if 1 > @id Int c.2.2.2.1 then 1 else @id Int c.2.2.2.1
abbrev stp(a:zK)(n:B0):yW×B0×Bool:=XL a.bk (jO a.sh n).1 (@id Int (jO a.sh n).2.2.1).toNat
def vX(a:zK)(e:AEv):zK×List B0:=
 if(jO a.sh e.name).2.2.2.1=false then(a,Xd 6)else if @id Int (jO a.sh e.name).2.2.1>999999 then(a,Xd 3)
 else if(stp a e.name).2.2=false then({ a with bk:=(stp a e.name).1 },[Zv Sb [(stp a e.name).2.1]])
 else({ a with bk:=(stp a e.name).1,by':=zX a.by' (stp a e.name).2.1 ⟨[],gg (jO a.sh e.name).1,0⟩ },[Zv gB [(stp a e.name).2.1],Zv (Zv jY [(stp a e.name).2.1]) [jo (gg (jO a.sh e.name).1).toNat]])
def Ht(a:yW)(c:Cfg)(g:Nat):(XL a c g).2.1=qi c.1 g:=by unfold XL;split<;>rfl
def RX [Jp w0](h:St w0 E w)(i:Nat){b:Nat}{a:zK}{s:Seg}(hi:nth E i=some s)(hs:yN b a s){e:AEv}
  (hst:(jO a.sh e.name).2.2.2.1=true→yn (jO a.sh e.name).1.1.data.toList 16=true∧1≤@id Int (jO a.sh e.name).2.2.1∧@id Int (jO a.sh e.name).2.2.1<100∧@id Int (jO a.sh e.name).1.2.2.2.1≤1000000) (hf:a.bk.all.length<999999)
  {k:Sl→PT} (hk:Hk w0 E i b (vX a e) k):qn (some ⟨b,0,none⟩) e.t (slK k) w:=by
 have hs0:=hs
 obtain⟨p,sg,sf,ss,sk,sr,sm,Q,R,rfl⟩:=hs
 unfold qn
 unfold vX stp at hk
 have h:=(h.front i hi).split8
 refine nw h ?_;clear h;intro b1 w h
 refine ZU (λ(z:Addr×Int×Bool×Unit) w=>∃b8:Nat,z=(⟨b8,0,none⟩,(jO a.sh e.name).2.2.1,(jO a.sh e.name).2.2.2.1,())∧
  St w0 ([Cl b8 zx (Cfg.cells (jO a.sh e.name).1)]::vY b p a.now::sg::sf::ss::sk::sr::sm::(Q.map BsE.sg).flatten::Zx E i) w) (λk2 hk2=>?_) ?_
 ·(dsimp only[zd,List.cons_append,List.nil_append]at h;refine dr h ?_;clear h;intro w h;refine nn ?_;refine ldC h ?_;refine ldC h ?_)
  refine KA ?_ ?_
  ·refine Df h 4 rfl R.sh λw h=>?_
   refine nw h ?_;clear h;intro b8 w h
   (refine ckC h ?_;refine ckC h ?_;refine stC h ?_;clear h;intro w h;dsimp only[zP,zd]at h)
   exact hk2 _ w ⟨b8,rfl,Yf h⟩
  ·refine nw h ?_;clear h;intro b8 w h
   (refine ckC h ?_;refine ckC h ?_)
   refine Df h 5 rfl R.sh λw h=>?_
   (refine stC h ?_;clear h;intro w h;dsimp only[zP,zd]at h)
   exact hk2 _ w ⟨b8,rfl,Yf h⟩
 clear h
 rintro z w ⟨b8,rfl,h⟩
 (try dsimp only)
 refine it (λhc=>?_) (λhc=>?_)
 ·have hc:(jO a.sh e.name).2.2.2.1=false:=by simpa using hc
  rw[if_pos hc]at hk
  refine Xp h λv s w r h=>?_
  exact⟨v,rfl,hk v s _ w r hs0 (jt i hi (Yf h))⟩
 have hc:(jO a.sh e.name).2.2.2.1=true:=by simpa using hc
 rw[if_neg (by simp[hc])]at hk
 obtain⟨st1,st2,st3,st4⟩:=hst hc
 have hmin:0≤gg (jO a.sh e.name).1∧gg (jO a.sh e.name).1≤1000000:=by
  unfold gg
  split<;>omega
 unfold gg at hk hmin
 generalize jO a.sh e.name=z at *
 obtain⟨c,ver,gen,is,⟨⟩⟩:=z
 dsimp only at hk hc hmin h st1 ⊢
 simp only[id]at st2 st3 st4
 refine it (λh2=>?_) (λh2=>?_)
 ·exact absurd (of_decide_eq_true h2) (by simp only[Int.not_lt,gt_iff_lt];omega)
 have hng:¬@id Int gen>999999:=by simp only[id];omega
 rw[if_neg hng]at hk
 (refine dr h ?_;clear h;intro w h;refine nn ?_;refine ldC h ?_;refine laC h ?_)
 obtain⟨g,rfl⟩:∃g:Nat,gen=(g:Int):=⟨@Int.toNat gen,by omega⟩
 have hg1:1≤g:=by have:(1:Int)≤(g:Int):=st2
                  omega
 have hg2:g<100:=by have:(g:Int)<100:=st3
                    omega
 simp only[id,Int.toNat_natCast]at hk hmin
 refine AV (c:=c) h 5 rfl R.bk st1 hg1 hg2 hf λsk' w hK h=>?_
 dsimp only[zd]at h
 have hrev:=Ht a.bk c g
 have hsz:(qi c.1 g).size≤1000000:=by have:=Om c.1 hg2;have:=vh st1;omega
 rw[←hrev]at hsz
 clear hrev
 generalize (XL a.bk c g).2.1=rev at *
 have hfr:∀x:Bool,(XL a.bk c g).2.2=x→True:=λ_ _=>trivial
 generalize (XL a.bk c g).2.2=fr at *
 generalize (XL a.bk c g).1=K at *
 cases fr with
 | false=>
  rw[if_pos rfl]at hk
  refine itT rfl ?_
  refine nw h ?_;clear h;intro b17 w h
  refine uC h (by decide) (by omega) λw h=>?_
  refine nw h ?_;clear h;intro b19 w h
  exact⟨_,rfl,hk _ _ _ w (Rw.lit b19 [_] ya rfl rfl (by simp[maxLen])) ⟨p,sg,sf,ss,sk',sr,sm,Q,⟨R.gt,R.fl,R.sh,hK,R.ro,R.mp,R.ea,R.ab⟩,rfl⟩ (jt i hi (Yf h))⟩
 | true=>
  rw[if_neg (by decide)]at hk
  refine itF rfl ?_
  (refine ldC h ?_;refine dr h ?_;clear h;intro w h;refine nn ?_;refine ldC h ?_)
  refine Im h λbg sgg w hG h=>?_
  (refine ckC h ?_)
  refine nw h ?_;clear h;intro b24 w h
  (refine ckC h ?_)
  refine MpS.set UA PW h 9 rfl R.mp (some ⟨b24,0,none⟩) rfl λsm' w hm' h=>?_
  dsimp only[zd]at h
  refine nw h ?_;clear h;intro b25 w h
  refine uC h (by decide) (by omega) λw h=>?_
  refine nw h ?_;clear h;intro b27 w h
  refine uC h (by decide) (by omega) λw h=>?_
  have hl:(Zv jY [rev]).size≤100000000:=by rw[vA];have:jY.size=5:=rfl;omega
  refine nw h ?_;clear h;intro b29 w h
  refine qP h hl hmin.1 (by omega) λw h=>?_
  refine nw h ?_;clear h;intro b31 w h
  have h:St w0 ([Cl b31 zc [.string (Zv gB [rev]),.string (Zv (Zv jY [rev]) [jo (if 1 > @id Int c.2.2.2.1 then 1 else @id Int c.2.2.2.1).toNat])]]::[Cl b24 XY [.pointer (some ⟨bg,0,none⟩),I (if 1 > @id Int c.2.2.2.1 then 1 else @id Int c.2.2.2.1),I 0]]::sgg::[Cl b8 zx (Cfg.cells c)]::vY b p a.now::sg::sf::ss::sk'::sr::sm'::(Q.map BsE.sg).flatten::Zx E i) w:=h
  have h:=ol h
  have h:=ZM (ZM h)
  have h:=h.glue
  have h:=Yb (UQ h)
  have h:St w0 (BsE.sg ⟨rev,b24,bg,⟨[],(if 1 > @id Int c.2.2.2.1 then 1 else @id Int c.2.2.2.1),0⟩,sgg⟩::(Q.map BsE.sg).flatten::[Cl b31 zc [.string (Zv gB [rev]),.string (Zv (Zv jY [rev]) [jo (if 1 > @id Int c.2.2.2.1 then 1 else @id Int c.2.2.2.1).toNat])]]::vY b p a.now::sg::sf::ss::sk'::sr::sm'::Zx E i) w:=h
  have h:=St.lput (key:=BsE.k) h
  have h:=Jk (Jk (Jk (Jk (Jk (Jk (Jk (Jk h)))))))
  have e5:=Ko (key:=BsE.k) (λx:BsE=>(some ⟨x.b,0,none⟩:Option Addr)) ⟨rev,b24,bg,⟨[],(if 1 > @id Int c.2.2.2.1 then 1 else @id Int c.2.2.2.1),0⟩,sgg⟩ Q
  have e6:=Ko (key:=BsE.k) BsE.x ⟨rev,b24,bg,⟨[],(if 1 > @id Int c.2.2.2.1 then 1 else @id Int c.2.2.2.1),0⟩,sgg⟩ Q
  refine⟨_,rfl,hk _ _ _ w (Rw.lit b31 [_,_] ya rfl rfl (by simp[maxLen])) ⟨p,sg,sf,ss,sk',sr,sm',_,⟨R.gt,R.fl,R.sh,hK,R.ro,by rw[←e5]at hm';exact hm',λy hy=>?_,?_⟩,rfl⟩ (jt i hi h)⟩
  ·rcases Ph hy with rfl | hy
   ·exact hG
   ·exact R.ea y hy
  ·show zX a.by' _ _=_
   rw[R.ab];exact e6.symm
abbrev TX(a:zK)(n:B0):vO×Int:=resolve a.bk (QH a.sh n).1
abbrev Nh(a:zK)(n:B0):vO:=Gm a.ro n (TX a n).1 a.now (QH a.sh n).1.roll
def oq(a:zK)(e:AEv):zK×List B0:=
 if(QH a.sh e.name).2.2=false then(a,Xd 6)else if(TX a e.name).2≠0 then(a,Xd (TX a e.name).2)
 else({ a with ro:=CU a.ro e.name (TX a e.name).1 a.now (QH a.sh e.name).1.roll },[Zv bV [e.name,Co (Nh a e.name)]])
structure z0T(t:vO):Prop where
 sh:∀s∈t.sh,(0≤@id Int s.2.1∧@id Int s.2.1≤1000)∧s.1.size≤1000
 tg:∀s∈t.tg,s.1.size≤1000∧s.2.1.size≤1000
 txt:(Co t).size≤100000000
def AI [Jp w0](h:St w0 E w)(i:Nat){b:Nat}{a:zK}{s:Seg}(hi:nth E i=some s)(hs:yN b a s){e:AEv}(hfew:a.sh.Few)(hname:e.name.size≤100000)(hp:∀t∈(QH a.sh e.name).1.ts,0≤pct t∧pct t≤1000)(hl:(QH a.sh e.name).1.ts.length≤1000)
  (hroll:(QH a.sh e.name).1.roll≤1000000) (hok:∀x,zm a.ro e.name=some x→x.Ok) (hsi:∀x,zm a.ro e.name=some x→0≤x.since∧x.since<1000000000) (hnow:0≤a.now∧a.now<1000000000) (hwb:WBd (TX a e.name).1.sh) (hln:(Nh a e.name).sh.length<100000) (htb:z0T (Nh a e.name))
  {k:Sl→PT} (hk:Hk w0 E i b (oq a e) k):qZ (some ⟨b,0,none⟩) e.t (slK k) w:=by
 have hs0:=hs
 obtain⟨p,sg,sf,ss,sk,sr,sm,Q,R,rfl⟩:=hs
 unfold qZ
 unfold oq at hk
 have h:=(h.front i hi).split8
 refine nw h ?_;clear h;intro b1 w h
 refine ZU (λ(z:Addr×Bool×Unit) w=>∃(b8:Nat)(v:Sl)(sv:Seg),z=(⟨b8,0,none⟩,(QH a.sh e.name).2.2,())∧Rw eT zH 3 v (QH a.sh e.name).1.ts sv∧
  St w0 ([Cl b8 Zb [.string (QH a.sh e.name).1.name,.string (QH a.sh e.name).1.cfg,SlV v,I (QH a.sh e.name).1.roll]]::sv::[Cl b1 zC (eEw e)]::vY b p a.now::sg::sf::ss::sk::sr::sm::(Q.map BsE.sg).flatten::Zx E i) w) (λk2 hk2=>?_) ?_
 ·(dsimp only[zd,List.cons_append,List.nil_append]at h;refine dr h ?_;clear h;intro w h;refine nn ?_;refine ldC h ?_;refine ldC h ?_)
  refine KA ?_ ?_
  ·refine NO h 4 rfl R.sh hfew λv sv w r h=>?_
   refine nw h ?_;clear h;intro b8 w h
   (refine ckC h ?_;refine ckC h ?_;refine stC h ?_;clear h;intro w h;dsimp only[zP,zd]at h)
   exact hk2 _ w ⟨b8,v,sv,rfl,r,h⟩
  ·refine nw h ?_;clear h;intro b8 w h
   (refine ckC h ?_;refine ckC h ?_)
   refine NO h 5 rfl R.sh hfew λv sv w r h=>?_
   (refine stC h ?_;clear h;intro w h;dsimp only[zP,zd]at h)
   have h:=Yb h
   exact hk2 _ w ⟨b8,v,sv,rfl,r,h⟩
 clear h
 rintro z w ⟨b8,v,sv,rfl,rv,h⟩
 (try dsimp only)
 refine it (λhc=>?_) (λhc=>?_)
 ·have hc:(QH a.sh e.name).2.2=false:=by simpa using hc
  rw[if_pos hc]at hk
  refine Xp h λv s w r h=>?_
  exact⟨v,rfl,hk v s _ w r hs0 (jt i hi (Yf (Yf (Yf h))))⟩
 have hc:(QH a.sh e.name).2.2=true:=by simpa using hc
 rw[if_neg (by simp[hc])]at hk
 unfold TX Nh at *
 unfold TX at *
 generalize (QH a.sh e.name).1=r at *
 refine ZU (λ(z:Addr×Int×Unit) w=>∃(b18:Nat)(q:HT [.slice,.slice])(sx:Seg),z=(⟨b18,0,none⟩,(resolve a.bk r).2,())∧(∀E',Oy w0 (sx::E') q (resolve a.bk r).1)∧
  St w0 (sx::[Cl b18 zr [SlV q.1,SlV q.2.1]]::[Cl b8 Zb [.string r.name,.string r.cfg,SlV v,I r.roll]]::sv::[Cl b1 zC (eEw e)]::vY b p a.now::sg::sf::ss::sk::sr::sm::(Q.map BsE.sg).flatten::Zx E i) w) (λk12 hk12=>?_) ?_
 ·(refine dr h ?_;clear h;intro w h;refine laC h ?_;refine nn ?_;refine ldC h ?_)
  refine KA ?_ ?_
  ·refine NU (r:=r) (v:=v) h 7 rfl R.bk (Rw.re Kw 1 rfl rv) hl hp λq sx w hq h=>?_
   refine nw h ?_;clear h;intro b18 w h
   (refine ckC h ?_;refine ckC h ?_;refine stC h ?_;clear h;intro w h;dsimp only[zP,zd]at h)
   have h:=Yb h
   exact hk12 _ w ⟨b18,q,sx,rfl,hq,h⟩
  ·refine nw h ?_;clear h;intro b18 w h
   (refine ckC h ?_;refine ckC h ?_)
   refine NU (r:=r) (v:=v) h 8 rfl R.bk (Rw.re Kw 2 rfl rv) hl hp λq sx w hq h=>?_
   (refine stC h ?_;clear h;intro w h;dsimp only[zP,zd]at h)
   exact hk12 _ w ⟨b18,q,sx,rfl,hq,h⟩
 clear h
 rintro z w ⟨b18,q,sx,rfl,hq,h⟩
 (try dsimp only)
 refine it (λh2=>?_) (λh2=>?_)
 ·have h2:(resolve a.bk r).2≠0:=by simpa using h2
  rw[if_pos h2]at hk
  refine Xp h λv s w r h=>?_
  exact⟨v,rfl,hk v s _ w r hs0 (jt i hi (Yf (Yf (Yf (Yf (Yf h))))))⟩
 have h2:¬(resolve a.bk r).2≠0:=by simpa using h2
 rw[if_neg h2]at hk
 (refine dr h ?_;clear h;intro w h;refine ldC h ?_;refine nn ?_;refine ldC h ?_;refine ldC h ?_;refine laC h ?_;refine nn ?_;refine ldC h ?_;refine ldC h ?_)
 refine EO (p:=q) (t:=(resolve a.bk r).1) h 10 rfl R.ro (hq _) hok hwb hnow hsi hroll hln λq2 sy sr' w hR hq2 h=>?_
 dsimp only[zd]at h
 (refine ckC h ?_)
 refine z1o (p:=q2) h (hq2 _) htb.sh htb.tg λw h=>?_
 (refine ckC h ?_)
 refine nw h ?_;clear h;intro b32 w h
 refine z0p h (by decide) (by omega) htb.txt λw h=>?_
 refine nw h ?_;clear h;intro b34 w h
 refine⟨_,rfl,hk _ _ _ w (Rw.lit b34 [_] ya rfl rfl (by simp[maxLen])) ⟨p,sg,sf,ss,sk,sr',sm,Q,⟨R.gt,R.fl,R.sh,R.bk,hR,R.mp,R.ea,R.ab⟩,rfl⟩ (jt i hi ?_)⟩
 exact Yf (Yf (Yf (Yf (Yf (Yf h)))))
def Pv{rev:B0}{y:Oa}{sgg:Seg}{x:BsE}(hk:x.k=rev){B:List BsE}:∀{A:List BsE},((A++x::B).map BsE.k).Nodup→(A++⟨x.k,x.b,x.g,y,sgg⟩::B).map BsE.ka=zX ((A++x::B).map BsE.ka) rev y
 | [],_=>by
  subst hk
  simp[zX]
 | a::A,hn=>by
  have hn2:=hn
  rw[List.cons_append,List.map_cons,List.nodup_cons]at hn2
  have hne:¬a.k=rev:=λe=>hn2.1 (by rw[e,←hk];simp)
  have ih:=Pv hk (A:=A) (y:=y) (sgg:=sgg) hn2.2
  rw[List.cons_append,List.map_cons,List.cons_append,List.map_cons,ih]
  simp only[zX]
  rw[if_neg hne]
def bnd(a:zK)(e:AEv):B0:=if(zm a.ro e.name).isSome=false then s_ else if e.tag=s_ then WO (ou a.ro e.name) e.draw else(CG (ou a.ro e.name).tg e.tag).1
def Iw(h:St w0 E w)(i:Nat){b:Nat}{a:zK}{s:Seg}(hi:nth E i=some s)(hs:yN b a s){e:AEv}(hd:0≤e.draw∧e.draw<4611686018427387904)(hok:∀x,zm a.ro e.name=some x→x.Ok)(hwb:WBd (ou a.ro e.name).sh){k:B0→PT}
  (hk:∀w',St w0 E w'→k (bnd a e) w'):L.call Pr qj [pO b,evV e] (.one (.one .str)) k w:=by
 obtain⟨p,sg,sf,ss,sk,sr,sm,Q,R,rfl⟩:=hs
 refine za (GX _ e.t) ?_
 unfold UW
 unfold bnd at hk
 have h:=(h.front i hi).split8
 refine nw h ?_;clear h;intro b1 w h
 (dsimp only[zd,List.cons_append,List.nil_append]at h;refine ldC h ?_)
 refine za (GY _ _) ?_
 unfold UX
 refine nw h ?_;clear h;intro b2 w h
 (refine nn ?_;refine ldC h ?_)
 refine AL h 7 rfl R.ro hok λq sx w hq h=>?_
 (refine stC h ?_;clear h;intro w h;dsimp only[zP,zd]at h;refine laC h ?_)
 refine⟨(q,(zm a.ro e.name).isSome,()),rfl,?_⟩
 have fin:∀{w x},(∀w',St w0 E w'→k x w')→St w0 (sx::[Cl b2 zr [SlV q.1,SlV q.2.1]]::[Cl b1 zC (eEw e)]::vY b p a.now::sg::sf::ss::sk::sr::sm::(Q.map BsE.sg).flatten::Zx E i) w→k x w:=by
  intro w x hk h
  exact hk w (St.again i hi (zl (zl (zl h))).glue8)
 refine nw h ?_;clear h;intro b4 w h
 (refine stC h ?_;clear h;intro w h;dsimp only[zP,zd]at h)
 refine it (λhc=>?_) (λhc=>?_)
 ·have hc:(zm a.ro e.name).isSome=false:=by simpa using hc
  rw[if_pos hc]at hk
  exact⟨_,rfl,fin hk (zl h)⟩
 have hc:¬(zm a.ro e.name).isSome=false:=λe2=>by
  dsimp only at hc
  rw[e2]at hc
  exact absurd hc (by decide)
 rw[if_neg hc]at hk
 (refine ldC h ?_)
 rw[JR]
 refine it (λh2=>?_) (λh2=>?_)<;>(try simp only[zB]at h2)
 ·rw[if_pos h2]at hk
  (refine laC h ?_;refine ldC h ?_)
  exact z1q (p:=q) h (t:=ou a.ro e.name) (by
   have:=hq ([Cl b2 zr [SlV q.1,SlV q.2.1]]::[Cl b1 zC (eEw e)]::vY b p a.now::sg::sf::ss::sk::sr::sm::(Q.map BsE.sg).flatten::Zx E i)
   exact this.there) hwb hd.1 hd.2 λw h=>⟨_,rfl,fin hk (zl h)⟩
 ·rw[if_neg h2]at hk
  (refine laC h ?_;refine ldC h ?_)
  exact Iy (p:=q) h (t:=ou a.ro e.name) (by
   have:=hq ([Cl b2 zr [SlV q.1,SlV q.2.1]]::[Cl b1 zC (eEw e)]::vY b p a.now::sg::sf::ss::sk::sr::sm::(Q.map BsE.sg).flatten::Zx E i)
   exact this.there) λw h=>⟨_,rfl,fin hk (zl h)⟩
abbrev arG(a:zK)(e:AEv):ze×Ze×yo:=VB a.fl a.gt e.n (bnd a e) a.now
def SA(a:zK)(e:AEv):Option Oa:=match zm a.by' (bnd a e) with
 | some x=>if(arG a e).2.2.2.1=2∧x.want=0 then some x else none
 | none=>none
def YN(a:zK)(e:AEv):zK×List B0:=match SA a e with
 | some x=>({ a with fl:=(arG a e).1,gt:=(arG a e).2.1,by':=zX a.by' (bnd a e) ⟨x.xs,1,x.left⟩ },[Xx (arG a e).2.2,Zv (Zv jY [bnd a e]) [jo 1]])
 | none=>({ a with fl:=(arG a e).1,gt:=(arG a e).2.1 },[Xx (arG a e).2.2])
def sj(w:World):(zeroValue qz).run Pr w = .ok ((E1.one .ptr).val (none:Option Addr)) w:=by
 have h:(Pr.info? qz).map (·.zero)=some (some (.pointer none)):=by kernel_rfl
 cases hi:Pr.info? qz with
 | none=>rw[hi]at h;cases h
 | some i=>rw[hi]at h;simp only[Option.map_some,Option.some.injEq]at h;exact zv hi h w
def MU{Q:List BsE}{rev:B0}:zm (Q.map BsE.kp) rev=(uU BsE.k Q rev).map λx=>some ⟨x.b,0,none⟩:=Qz (key:=BsE.k) (λx:BsE=>(some ⟨x.b,0,none⟩:Option Addr)) rev Q
def MV{Q:List BsE}{rev:B0}:zm (Q.map BsE.ka) rev=(uU BsE.k Q rev).map BsE.x:=Qz (key:=BsE.k) BsE.x rev Q
def LO [Jp w0](h:St w0 E w)(i:Nat){b:Nat}{a:zK}{s:Seg}(hi:nth E i=some s)(hs:yN b a s){e:AEv}(hd:0≤e.draw∧e.draw<4611686018427387904)(hok:∀x,zm a.ro e.name=some x→x.Ok)(hwb:WBd (ou a.ro e.name).sh)
  (hfew:Jl a.fl) (hn:a.gt.all.length<80000000) (hl:a.gt.lines.length<90000000) (hnow: -1000000000000<a.now+a.gt.pat∧a.now+a.gt.pat<1000000000000) (hf:(arG a e).2.2.Ok) (hrv:(bnd a e).size≤1000000)
  {k:Sl→PT} (hk:Hk w0 E i b (YN a e) k):XO (some ⟨b,0,none⟩) e.t (slK k) w:=by
 have hs0:=hs
 obtain⟨p,sg,sf,ss,sk,sr,sm,Q,R,rfl⟩:=hs
 unfold XO
 refine nw h ?_;clear h;intro b1 w h
 (dsimp only[zd,List.cons_append,List.nil_append]at h;refine laC h ?_)
 refine Iw (e:=e) h (i+1) hi hs0 hd hok hwb λw h=>?_
 unfold YN SA arG at hk
 unfold arG at hf
 generalize bnd a e=rev at *
 have h:=(h.front (i+1) hi).split8
 have h:St w0 (vY b p a.now::sg::sf::ss::sk::sr::sm::(Q.map BsE.sg).flatten::[Cl b1 zC (eEw e)]::Zx E i) w:=h
 (refine dr h ?_;clear h;intro w h;refine nn ?_;refine ldC h ?_;refine ldC h ?_;refine nn ?_;refine ldC h ?_)
 have h:=ZM (ZM h)
 refine z1e h R.gt R.fl hfew (by omega) hl hnow λv sv sg' sf' w hr hG hF h=>?_
 generalize VB a.fl a.gt e.n rev a.now=g at *
 have hone:∀f∈[g.2.2],f.Ok:=λf hff=>by rw[List.mem_singleton.1 hff];exact hf
 have hlen:=Rw.len gQ hr
 refine tX h.nil (l:=[]) hr hone (by simp) (by decide) Rw.nil λv2 s2 w r2 h=>?_
 simp only[List.nil_append,List.map_cons,List.map_nil]at r2
 (refine nn ?_;refine ldC h ?_)
 refine za (xK _ _) ?_
 unfold jg
 refine MpS.get2 UA PW sj (λx:Option Addr=>x) (λ_=>rfl) h 8 rfl R.mp ?_
 rw[R.ab,MV]at hk
 rw[MU]
 have close:∀{w}{vo:Sl}{so sm':Seg}{Q':List BsE}{by'':List (B0×Oa)}{out:List B0},by''=Q'.map BsE.ka→MpS Value.string Value.pointer p.m (Q'.map BsE.kp) sm'→(∀x∈Q',x.ok)→Rw eS zc 1 vo out so→
   (∀v sv s' w',Rw eS zc 1 v out sv→yN b { a with fl:=g.1,gt:=g.2.1,by':=by'' } s'→St w0 (sv::zd E i s') w'→k v w')→
   St w0 (so::sv::sg'::sf'::vY b p a.now::ss::sk::sr::sm'::(Q'.map BsE.sg).flatten::[Cl b1 zC (eEw e)]::Zx E i) w→
   slK k (.slice vo.a vo.len vo.cap) w:=by
  intro w vo so sm' Q' by'' out e1 hm hq ro hk h
  refine⟨vo,rfl,hk vo so _ w ro ⟨p,sg',sf',ss,sk,sr,sm',Q',⟨hG,hF,R.sh,R.bk,R.ro,hm,hq,e1⟩,rfl⟩ ?_⟩
  have h:=Yf h
  have h:=Jk (Jk (Xs (Xs (Jk (Jk (Jk (Jk (Jk h))))))))
  exact jt i hi (z3G h)
 cases hf2:uU BsE.k Q rev with
 | none=>
  rw[hf2]at hk
  dsimp only[Option.map]at hk ⊢
  refine⟨(none,false,()),rfl,?_⟩
  refine jd ?_
  refine itF rfl ?_
  exact close rfl R.mp R.ea r2 hk h
 | some x=>
  have hmk:=R.mp.nd
  obtain⟨A,B,rfl,hxk⟩:=Kp hf2
  rw[hf2]at hk
  dsimp only[Option.map]at hk ⊢
  refine⟨(some ⟨x.b,0,none⟩,true,()),rfl,?_⟩
  refine jd ?_
  refine itT rfl ?_
  refine itT (by rw[hlen];rfl) ?_
  refine Rw.ix gQ hr (by decide) (by simp) λa16 ha=>?_
  refine Rw.ld gQ h 1 rfl hr ha (x:=g.2.2) (f:=1) rfl rfl rfl ?_
  refine it (λh1=>?_) (λh1=>?_)
  ·have h1:g.2.2.2.1=2:=by simpa using h1
   have h:=UQ h
   have h:=h.pick
   have h:=h.split
   (refine nn ?_;refine ldC h ?_)
   refine it (λh2=>?_) (λh2=>?_)
   ·have h2:x.x.want=0:=by simpa using h2
    rw[if_pos ⟨h1,h2⟩]at hk
    dsimp only at hk
    (refine nn ?_;refine stC h ?_;clear h;intro w h;dsimp only[zP,zd]at h)
    refine nw h ?_;clear h;intro b21 w h
    refine uC h (by decide) (by omega) λw h=>?_
    refine nw h ?_;clear h;intro b23 w h
    refine qP h (by rw[vA];have:jY.size=5:=rfl;omega) (by decide) (by decide) λw h=>?_
    refine nw h ?_;clear h;intro b25 w h
    refine Rw.app ya elS h 3 rfl r2 (Zv (Zv jY [rev]) [jo 1]) rfl (by simp) (by simp) λv' s' w r2' h=>?_
    dsimp only[zd]at h
    have h:=h.glue
    have h:St w0 (BsE.sg ⟨x.k,x.b,x.g,⟨x.x.xs,1,x.x.left⟩,x.sgg⟩::((A++B).map BsE.sg).flatten::s'::sv::sg'::sf'::vY b p a.now::ss::sk::sr::sm::[Cl b1 zC (eEw e)]::Zx E i) w:=h
    have h:=h.place
    have h:=UQ (UQ (UQ (UQ (UQ (UQ (UQ (UQ (UQ h))))))))
    have et:=Pv (rev:=rev) (y:=⟨x.x.xs,1,x.x.left⟩) (sgg:=x.sgg) hxk (B:=B) (A:=A) (by simpa [List.map_map,Function.comp_def]using hmk)
    refine close (Q':=A++⟨x.k,x.b,x.g,⟨x.x.xs,1,x.x.left⟩,x.sgg⟩::B) et.symm (by simpa using R.mp) (λy hy=>?_) r2' hk h
    rcases List.mem_append.1 hy with hy | hy
    ·exact R.ea y (by simp[hy])
    ·rcases List.mem_cons.1 hy with rfl | hy
     ·exact R.ea x (by simp)
     ·exact R.ea y (by simp[hy])
   ·have h2:¬x.x.want=0:=by simpa using h2
    rw[if_neg (λhh=>h2 hh.2)]at hk
    have h:=h.glue
    have h:=St.place (g:=BsE.sg) (t:=x) h
    have h:=UQ (UQ (UQ (UQ (UQ (UQ (UQ (UQ (UQ h))))))))
    exact close rfl R.mp R.ea r2 hk h
  ·have h1:¬g.2.2.2.1=2:=by simpa using h1
   rw[if_neg (λhh=>h1 hh.1)]at hk
   exact close rfl R.mp R.ea r2 hk h
def CA(m:List (B0×Oa))(rev:B0):Int:=((zm m rev).map Oa.want).getD 0
def AF(h:St w0 E w){b:Nat}{p:Bls}{now:Int}{sm:Seg}{Q:List BsE}{i j l:Nat}(hi:nth E i=some (vY b p now))(hj:nth E j=some sm)(hl:nth E l=some (Q.map BsE.sg).flatten)(hm:MpS Value.string Value.pointer p.m (Q.map BsE.kp) sm){rev:B0}{k:Int→PT}(hk:k (CA (Q.map BsE.ka) rev) w) :
  L.call Pr qL [pO b,.string rev] (.one (.one (.int .i64))) k w:=by
 refine za (Fz _ _) ?_
 unfold Vn
 have h0:=h
 have h:=h0.front i hi
 unfold CA at hk
 rw[MV]at hk
 (refine nn ?_;refine ldC h ?_)
 refine za (xK _ _) ?_
 unfold jg
 refine MpS.get2 UA PW sj (λx:Option Addr=>x) (λ_=>rfl) h0 j hj hm ?_
 rw[MU]
 cases hf:uU BsE.k Q rev with
 | none=>
  rw[hf]at hk
  refine⟨(none,false,()),rfl,?_⟩
  exact itF rfl ⟨_,rfl,hk⟩
 | some x=>
  rw[hf]at hk
  obtain⟨A,B,rfl,hxk⟩:=Kp hf
  refine⟨(some ⟨x.b,0,none⟩,true,()),rfl,?_⟩
  refine itT rfl ?_
  have h:=((h0.front l hl).pick).split
  (refine nn ?_;refine ldC h ?_)
  exact⟨_,rfl,hk⟩
def cnt(q:Int→Bool)(l:List (Int×Int×Int)):Int:=((l.filter λx=>q x.2.1).length:Int)
def De(h:St w0 E w){b:Nat}{p:Bls}{now:Int}{sf:Seg}{F:ze}{i j:Nat}(hi:nth E i=some (vY b p now))(hj:nth E j=some sf)(hf:FlS p.f F sf){rev:B0}{fv:FV}{q:Int→Bool}(hlen:(jL F.l rev).length<1000000)
  (hq:∀{E':List Seg}{w:World}{x:Int}{k:Bool→PT},St w0 E' w→(∀w',St w0 E' w'→k (q x) w')→L.callV Pr (.func fv.fn fv.fs fv.cs) [I x] (.one (.one .bool)) k w) {k:Int→PT} (hk:∀w',St w0 E w'→k (cnt q (jL F.l rev)) w') :
  L.call Pr xl [pO b,.string rev,fv.val] (.one (.one (.int .i64))) k w:=by
 refine za (GW _ _ fv) ?_
 unfold UV
 refine za (Vw _ _) ?_
 unfold Qc
 have h0:=h
 have h:=h0.front i hi
 (refine nn ?_;refine ldC h ?_)
 refine BL h0 j hj hf λv s w hr h=>⟨v,rfl,?_⟩
 clear h0
 generalize jL F.l rev=l at *
 have hln:=Rw.len DT hr
 refine zW (λm y w=>∃(j:Nat),@Eq Int y.2.1 j∧m+j=l.length∧@Eq Int y.1 (cnt q (l.take j))∧St w0 (s::E) w) l.length ⟨0,rfl,rfl,rfl,h⟩ ?_
 clear h
 rintro m ⟨n,y,⟨⟩⟩ w ⟨j,hy,hm,hn,h⟩ again hag
 (try dsimp only)
 simp only at hy hn
 subst hy
 refine it (λhb=>?_) (λhb=>?_)<;>(try simp only[zB]at hb)
 ·have hj:j<l.length:=by omega
  have hx:l[j]? = some l[j]:=List.getElem?_eq_getElem hj
  have et:cnt q (l.take (j+1))=cnt q (l.take j)+(if q l[j].2.1=true then 1 else 0):=by
   unfold cnt
   rw[List.take_succ,hx,Option.toList_some,List.filter_append,List.length_append]
   by_cases hc:q l[j].2.1=true
   ·simp[hc]
   ·simp[hc]
  have hle:0≤cnt q (l.take j)∧cnt q (l.take j)≤j:=by
   unfold cnt
   have:=List.length_filter_le (λx:Int×Int×Int=>q x.2.1) (l.take j)
   rw[List.length_take]at this
   omega
  generalize l[j]=x at hx et
  obtain⟨x1,x2,x3⟩:=x
  refine jd ?_
  refine Rw.ix DT hr (by omega) (by simpa using hj) λa ha=>?_
  refine Rw.lda DT h 0 rfl hr ha (x:=(x1,x2,x3)) (by simpa using hx) rfl ?_
  refine nw h ?_;clear h;intro b8 w h
  (refine stC h ?_;clear h;intro w h;dsimp only[zP,zd]at h;refine ldC h ?_)
  refine hq h λw h=>?_
  have h:=zl h
  dsimp only at et
  refine it (λhc=>?_) (λhc=>?_)
  ·rw[if_pos hc]at et
   refine hag (m-1) _ w (by omega) ⟨j+1,?_,by omega,?_,h⟩
   ·show Wi _=_
    rw[wr (by omega) (by omega)];omega
   ·show Wi (n+1)=_
    rw[et,hn,wr (by omega) (by omega)]
  ·rw[if_neg (by rw[hc];decide)]at et
   refine hag (m-1) _ w (by omega) ⟨j+1,?_,by omega,?_,h⟩
   ·show Wi _=_
    rw[wr (by omega) (by omega)];omega
   ·show n=_
    rw[et,hn];omega
 ·have e:l.take j=l:=List.take_of_length_le (by omega)
  rw[e]at hn
  have:=hk w (zl h)
  rw[←hn]at this
  exact⟨_,rfl,this⟩
abbrev yj(a:zK)(n:B0):Int:=CA a.by' n
abbrev Xz(a:zK)(n:B0):Int:=@id Int (XX a.bk n).2.2.2.2.1
abbrev ly(a:zK)(n:B0):ze:=(Yn a.fl n (Xz a n) (yj a n)).1
abbrev cJ(word:B0)(l:List Int):List B0:=l.map λx=>Zv word [jo x.toNat]
def qt(a:zK)(e:AEv):zK×List B0:=
 if jA a.bk e.name=false then(a,Xd 6)
 else({ a with fl:=ly a e.name },cJ wl (Kt a.fl e.name (yj a e.name))++cJ wm (Yn a.fl e.name (Xz a e.name) (yj a e.name)).2++[Zv (Zv FY [e.name]) [jo (cnt (λs=>s != 3) (jL (ly a e.name).l e.name)).toNat]])
def Be [Jp w0]{word:B0}{v:Sl}{l:List Int}{X:List B0}{vo:Sl}{si so:Seg}(hr:Rw eI zu 1 v l si)(hl:l.length<1000000)(hX:X.length<1000000)(hb:∀x∈l,0≤x∧x≤9000000000000000000)(hw:word.size≤1000)(ro:Rw eS zc 1 vo X so){k:Sl×Int×Unit→PT}
  (h:St w0 (so::si::E) w) (hk:∀v' s' m w',Rw eS zc 1 v' (X++cJ word l) s'→St w0 (s'::si::E) w'→k (v',m,()) w') :
  L.loop (Y:=Sl×Int×Unit) (⟨vo.a,vo.len,vo.cap⟩,0,()) (λy19 again20=>
   L.ite (decide (y19.2.1<((v.len:Nat):Int))) (
    L.idx v.a y19.2.1 v.len 1 λa21=>
    L.load (.one (.int .i64)) a21 λ(x22:Int)=>
    L.new [.int .i64 x22] zu λb23=>
    L.call Pr zS [.string word,.slice (some ⟨b23,0,none⟩) 1 1] (.one (.one (.str))) λ(x24:B0)=>
    L.new [.string x24] zc λb25=>
    L.sem Pr (.one (.one .slice)) (Builtin.append_ #[zj,zj] zj #[.slice y19.1.a y19.1.len y19.1.cap,.slice (some ⟨b25,0,none⟩) 1 1]) λ(s26:Sl)=>
    again20 (⟨s26.a,s26.len,s26.cap⟩,Wi (y19.2.1+1),()))<|
   k y19) w:=by
 have hln:=Rw.len Yt hr
 refine zW (λq y w=>∃(j:Nat)(s3:Seg),@Eq Int y.2.1 j∧q+j=l.length∧Rw eS zc 1 y.1 (X++cJ word (l.take j)) s3∧St w0 (s3::si::E) w) l.length ⟨0,so,rfl,by simp,by simpa using ro,h⟩ ?_
 clear ro
 clear h
 rintro q ⟨vo,y,⟨⟩⟩ w ⟨j,s3,hy,hq,r3,h⟩ again hag
 (try dsimp only)
 simp only at hy r3
 subst hy
 refine it (λhb2=>?_) (λhb2=>?_)<;>(try simp only[zB]at hb2)
 ·have hj:j<l.length:=by omega
  have hx:l[j]? = some l[j]:=List.getElem?_eq_getElem hj
  have hbx:=hb l[j] (List.getElem_mem hj)
  have et:cJ word (l.take (j+1))=cJ word (l.take j)++[Zv word [jo (l[j]).toNat]]:=by unfold cJ;rw[List.take_succ,hx,List.map_append];rfl
  generalize l[j]=x at hx et hbx
  refine Rw.ix Yt hr (by omega) (by simpa using hj) λa ha=>?_
  refine Rw.ld0 Yt h 1 rfl hr ha (x:=x) (by simpa using hx) rfl rfl ?_
  refine nw h ?_;clear h;intro b23 w h
  refine qP h (by omega) hbx.1 hbx.2 λw h=>?_
  refine nw h ?_;clear h;intro b25 w h
  refine Rw.app ya elS h 0 rfl r3 (Zv word [jo x.toNat]) rfl (by simp;omega) (by simp;omega) λv' s3' w r3' h=>?_
  refine hag (q-1) _ w (by omega) ⟨j+1,s3',?_,by omega,by rw[et,←List.append_assoc];exact r3',h⟩
  show Wi _=_
  rw[wr (by omega) (by omega)];omega
 ·have e:l.take j=l:=List.take_of_length_le (by omega)
  rw[e]at r3
  exact hk vo s3 _ w r3 h
def AH [Jp w0](h:St w0 E w)(i:Nat){b:Nat}{a:zK}{s:Seg}(hi:nth E i=some s)(hs:yN b a s){e:AEv}(hroom:a.fl.room<1000000)(hlast:a.fl.last+a.fl.room<4611686018427387904)(hname:e.name.size≤100000)
  (hmade:∀x∈Kt a.fl e.name (yj a e.name),0≤x∧x≤9000000000000000000) (hmn:(Kt a.fl e.name (yj a e.name)).length<100000) (hgone:∀x∈(Yn a.fl e.name (Xz a e.name) (yj a e.name)).2,0≤x∧x≤9000000000000000000) (hgn:(Yn a.fl e.name (Xz a e.name) (yj a e.name)).2.length<100000)
  (hpn:(jL (ly a e.name).l e.name).length<1000000) {k:Sl→PT} (hk:Hk w0 E i b (qt a e) k):jU (some ⟨b,0,none⟩) e.t (slK k) w:=by
 have hs0:=hs
 obtain⟨p,sg,sf,ss,sk,sr,sm,Q,R,rfl⟩:=hs
 unfold jU
 unfold qt at hk
 have h:=(h.front i hi).split8
 refine nw h ?_;clear h;intro b1 w h
 refine ZU (λ(z:Addr×Bool×Unit) w=>∃b8:Nat,z=(⟨b8,0,none⟩,jA a.bk e.name,())∧
  St w0 ([Cl b8 zU (rvC (XX a.bk e.name))]::[Cl b1 zC (eEw e)]::vY b p a.now::sg::sf::ss::sk::sr::sm::(Q.map BsE.sg).flatten::Zx E i) w) (λk2 hk2=>?_) ?_
 ·(dsimp only[zd,List.cons_append,List.nil_append]at h;refine dr h ?_;clear h;intro w h;refine nn ?_;refine ldC h ?_;refine ldC h ?_)
  refine KA ?_ ?_
  ·refine gU h 5 rfl R.bk λw h=>?_
   refine nw h ?_;clear h;intro b8 w h
   (refine ckC h ?_;refine ckC h ?_;refine stC h ?_;clear h;intro w h;dsimp only[zP,zd]at h)
   exact hk2 _ w ⟨b8,rfl,h⟩
  ·refine nw h ?_;clear h;intro b8 w h
   (refine ckC h ?_;refine ckC h ?_)
   refine gU h 6 rfl R.bk λw h=>?_
   (refine stC h ?_;clear h;intro w h;dsimp only[zP,zd]at h)
   exact hk2 _ w ⟨b8,rfl,h⟩
 clear h
 rintro z w ⟨b8,rfl,h⟩
 (try dsimp only)
 refine it (λhc=>?_) (λhc=>?_)
 ·have hc:jA a.bk e.name=false:=by simpa using hc
  rw[if_pos hc]at hk
  refine Xp h λv s w r h=>?_
  exact⟨v,rfl,hk v s _ w r hs0 (jt i hi (Yf (Yf h)))⟩
 have hc:¬jA a.bk e.name=false:=by simpa using hc
 rw[if_neg hc]at hk
 (refine dr h ?_;clear h;intro w h;refine nn ?_;refine ldC h ?_;refine ldC h ?_;rw[JB];refine ldC h ?_;refine ldC h ?_)
 refine AF h (i:=2) (j:=8) (l:=9) rfl rfl rfl R.mp ?_
 (refine ckC h ?_;refine ckC h ?_;refine ckC h ?_)
 have ew:CA (Q.map BsE.ka) e.name=yj a e.name:=by unfold yj;rw[R.ab]
 rw[ew]
 have hF0:=R.fl
 unfold ly at *
 refine EW (conc:=Xz a e.name) h 4 rfl R.fl (by omega) hlast λv1 v2 sf' s1 s2 w hF r1 r2 h=>?_
 dsimp only[zd]at h
 generalize Yn a.fl e.name (Xz a e.name) (yj a e.name)=g at *
 generalize Kt a.fl e.name (yj a e.name)=made at *
 obtain⟨F,gone⟩:=g
 dsimp only at *
 have h:=Yb h
 refine Be (vo:=⟨none,0,0⟩) (X:=[]) r1 (by omega) (by simp) hmade (by decide) Rw.nil h.nil λv3 s3 m w r3 h=>?_
 have h:=ZM (ZM (Yb h))
 refine Be r2 (by omega) (by simp[cJ];omega) hgone (by decide) r3 h λv4 s4 m w r4 h=>?_
 (refine ldC h ?_)
 refine De h (i:=5) (j:=7) rfl rfl hF (fv:=⟨.func Jt,#[],#[]⟩) (q:=λs=>s != 3) hpn (λ{E' w x k} h hk=>?_) λw h=>?_
 ·refine jz (fs:=#[]) (cs:=#[]) gW (gZ x) ?_
  unfold UF
  exact⟨_,rfl,hk w h⟩
 (refine ldC h ?_)
 have hcn:0≤cnt (λs=>s != 3) (jL F.l e.name)∧cnt (λs=>s != 3) (jL F.l e.name)≤1000000:=by
  unfold cnt
  have:=List.length_filter_le (λx:Int×Int×Int=>(λs=>s != 3) x.2.1) (jL F.l e.name)
  refine⟨Int.natCast_nonneg _,?_⟩
  have h2:((jL F.l e.name).filter λx:Int×Int×Int=>(λs=>s != 3) x.2.1).length≤1000000:=by omega
  exact Int.ofNat_le.2 h2
 generalize cnt (λs=>s != 3) (jL F.l e.name)=n at *
 refine nw h ?_;clear h;intro b38 w h
 refine uC h (by decide) (by omega) λw h=>?_
 refine nw h ?_;clear h;intro b40 w h
 refine qP h (by rw[vA];have:FY.size=5:=rfl;omega) hcn.1 (by omega) λw h=>?_
 refine nw h ?_;clear h;intro b42 w h
 refine Rw.app ya elS h 0 rfl r4 (Zv (Zv FY [e.name]) [jo n.toNat]) rfl (by simp[cJ];omega) (by simp[cJ];omega) λv5 s5 w r5 h=>?_
 refine⟨v5,rfl,hk v5 s5 _ w (by simpa using r5) ⟨p,sg,sf',ss,sk,sr,sm,Q,⟨R.gt,hF,R.sh,R.bk,R.ro,R.mp,R.ea,R.ab⟩,rfl⟩ (jt i hi ?_)⟩
 exact Yf (Yf (Yf (Yf h)))
def uW(G:Ze)(rev:B0):Int:=((Vi G rev).length:Int)+(jy G.all rev).length
def gx(G:Ze)(m:List (B0×Oa))(rev:B0):List (B0×Oa):=match zm m rev with
 | some x=>zX m rev ⟨x.xs++[if 0>uW G rev then 0 else uW G rev],x.want,x.left⟩
 | none=>m
abbrev tkG(a:zK):Ze×List yo:=qS a.gt (a.now+1)
def xZ(a:zK):zK×List B0:=
 if a.now≥1048576 then(a,Xd 9)
 else({ a with gt:=(tkG a).1,now:=a.now+1,by':=(xd a.bk).foldl (gx (tkG a).1) a.by' },Zv th [jo (a.now+1).toNat]::(tkG a).2.map Xx)
def AG [Jp w0](h:St w0 E w)(i:Nat){b:Nat}{a:zK}{s:Seg}(hi:nth E i=some s)(hs:yN b a s){e:AEv}(hnow:0≤a.now)(hwk:GWk a.gt)(hfl:(tkG a).2.length<90000000)(hf:∀f∈(tkG a).2,f.Ok)
  (hby:∀rev∈xd a.bk,(zm a.by' rev).isSome=true) (hxs:∀x∈a.by',x.2.xs.length<1000000000) (hfb:a.bk.all.length<1000000) {k:Sl→PT} (hk:Hk w0 E i b (xZ a) k):qY (some ⟨b,0,none⟩) e.t (slK k) w:=by
 have hs0:=hs
 obtain⟨p,sg,sf,ss,sk,sr,sm,Q,R,rfl⟩:=hs
 unfold qY
 unfold xZ tkG at hk
 unfold tkG at hfl hf
 have h:=(h.front i hi).split8
 refine nw h ?_;clear h;intro b1 w h
 (dsimp only[zd,List.cons_append,List.nil_append]at h;refine nn ?_;refine ldC h ?_)
 refine it (λhc=>?_) (λhc=>?_)<;>(try simp only[zB]at hc)
 ·rw[if_pos hc]at hk
  refine Xp h λv s w r h=>?_
  exact⟨v,rfl,hk v s _ w r hs0 (jt i hi (Yf h))⟩
 rw[if_neg hc]at hk
 (refine nn ?_;refine ldC h ?_;refine nn ?_;refine stC h ?_;clear h;intro w h;dsimp only[zP,zd]at h;refine dr h ?_;clear h;intro w h;refine nn ?_;refine ldC h ?_;refine nn ?_;refine ldC h ?_)
 rw[wr (by omega) (by omega)]at h ⊢
 have h:=ZM h
 refine Io h R.gt hwk hfl λv sv sg' w hr hG h=>?_
 generalize qS a.gt (a.now+1)=g at *
 refine za (QG _) ?_
 unfold xq
 (refine nn ?_;refine ldC h ?_)
 refine BO h 6 rfl R.bk λv2 s2 w r2 h=>⟨v2,rfl,?_⟩
 have hnl:(xd a.bk).length<1000000:=by unfold xd;rw[jk,List.length_map];exact hfb
 generalize xd a.bk=l at *
 have hln:=Rw.len ya r2
 let EV:Seg:=[Cl b1 zC (eEw e)]
 refine zW (λm y w=>∃(j:Nat)(sg2:Seg)(Q2:List BsE),@Eq Int y.1 j∧m+j=l.length∧GtS p.g p.f g.1 sg2∧Q2.map BsE.kp=Q.map BsE.kp∧(∀x∈Q2,x.ok)∧Q2.map BsE.ka=(l.take j).foldl (gx g.1) a.by'∧(∀x∈Q2,x.x.xs.length<1000000000+j)∧
  St w0 (s2::sv::sg2::EV::vY b p (a.now+1)::sf::ss::sk::sr::sm::(Q2.map BsE.sg).flatten::Zx E i) w) l.length ⟨0,sg',Q,rfl,rfl,hG,rfl,R.ea,R.ab.symm,λx hx=>by have:=hxs _ (by rw[R.ab];exact List.mem_map_of_mem hx);simpa using this,h⟩ ?_
 clear h
 rintro m ⟨y,⟨⟩⟩ w ⟨j,sg2,Q2,hy,hm,hG2,ekp,ok2,eka,hx2,h⟩ again hag
 (try dsimp only)
 simp only at hy
 subst hy
 refine it (λhb=>?_) (λhb=>?_)<;>(try simp only[zB]at hb)
 ·have hj:j<l.length:=by omega
  have hx:l[j]? = some l[j]:=List.getElem?_eq_getElem hj
  have hin:(zm (Q2.map BsE.ka) l[j]).isSome=true:=by
   have h1:=hby l[j] (List.getElem_mem hj)
   rw[R.ab,MV,Option.isSome_map]at h1
   have h2:(zm (Q2.map BsE.kp) l[j]).isSome=true:=by rw[ekp,MU,Option.isSome_map];exact h1
   rw[MU,Option.isSome_map]at h2
   rw[MV,Option.isSome_map];exact h2
  have et:(l.take (j+1)).foldl (gx g.1) a.by'=gx g.1 (Q2.map BsE.ka) l[j]:=by rw[eka,List.take_succ,hx,List.foldl_append];rfl
  generalize l[j]=rev at *
  have hm2:MpS Value.string Value.pointer p.m (Q2.map BsE.kp) sm:=by rw[ekp];exact R.mp
  rw[MV,Option.isSome_map]at hin
  obtain⟨x,hfx⟩:=Option.isSome_iff_exists.1 hin
  have hmk:=hm2.nd
  refine Rw.ix ya r2 (by omega) (by simpa using hj) λea ha=>?_
  refine Rw.ld0 ya h 0 rfl r2 ha (x:=rev) (by simpa using hx) rfl rfl ?_
  (refine dr h ?_;clear h;intro w h;refine nn ?_;refine ldC h ?_)
  have hlk:((zm (Q2.map BsE.kp) rev).map λx:Option Addr=>x).getD none=some ⟨x.b,0,none⟩:=by rw[MU,hfx];rfl
  refine MpS.get UA PW sj (λx:Option Addr=>x) (λ_=>rfl) h 9 rfl hm2 ?_
  rw[hlk]
  obtain⟨A,B,rfl,hxk⟩:=Kp hfx
  have h:=oB h
  have h:=h.pick.split
  (refine nn ?_;refine ldC h ?_;refine nn ?_;refine ldC h ?_)
  have h:=Jn h
  refine BK h hG2 λsg3 w hG3 h=>?_
  (refine ckC h ?_)
  refine MpS.chk UA PW (z:=.pointer none) sj h 12 rfl hm2 (by rw[MU,hfx];rfl) ?_
  (refine ckC h ?_)
  have hox:=ok2 x (by simp)
  have hlx:=hx2 x (by simp)
  refine In h 2 rfl hox (by omega) λsgg w hga h=>?_
  dsimp only[zd]at h
  have hbu:((Vi g.1 rev).length:Int)+(jy g.1.all rev).length=uW g.1 rev:=rfl
  rw[hbu]at hga
  have h:=ZM (ZM h)
  have h:=h.glue
  have h:=Yb (ZM h)
  have h:St w0 (BsE.sg ⟨x.k,x.b,x.g,⟨x.x.xs++[if 0>uW g.1 rev then 0 else uW g.1 rev],x.x.want,x.x.left⟩,sgg⟩::((A++B).map BsE.sg).flatten::sg3::s2::sv::EV::vY b p (a.now+1)::sf::ss::sk::sr::sm::Zx E i) w:=h
  have h:=h.place
  have et2:=Pv (rev:=rev) (y:=⟨x.x.xs++[if 0>uW g.1 rev then 0 else uW g.1 rev],x.x.want,x.x.left⟩) (sgg:=sgg) hxk (B:=B) (A:=A) (by simpa [List.map_map,Function.comp_def]using hmk)
  refine hag (m-1) _ w (by omega) ⟨j+1,sg3,A++⟨x.k,x.b,x.g,⟨x.x.xs++[if 0>uW g.1 rev then 0 else uW g.1 rev],x.x.want,x.x.left⟩,sgg⟩::B,?_,by omega,hG3,?_,?_,?_,?_,?_⟩
  ·show Wi _=_
   rw[wr (by omega) (by omega)];omega
  ·rw[←ekp];simp
  ·intro y hy
   rcases List.mem_append.1 hy with hy | hy
   ·exact ok2 y (by simp[hy])
   ·rcases List.mem_cons.1 hy with rfl | hy
    ·exact hga
    ·exact ok2 y (by simp[hy])
  ·rw[et,et2]
   unfold gx
   rw[MV,hfx]
   rfl
  ·intro y hy
   rcases List.mem_append.1 hy with hy | hy
   ·have:=hx2 y (by simp[hy]);omega
   ·rcases List.mem_cons.1 hy with rfl | hy
    ·simp;omega
    ·have:=hx2 y (by simp[hy]);omega
  ·have h:=oB (oB (Jk (oB (oB (oB (oB (oB (oB (oB h)))))))))
   exact h
 ·have ej:l.take j=l:=List.take_of_length_le (by omega)
  rw[ej]at eka
  (refine nn ?_;refine ldC h ?_)
  refine nw h ?_;clear h;intro b29 w h
  refine qP h (by decide) (by omega) (by omega) λw h=>?_
  refine nw h ?_;clear h;intro b31 w h
  have h:=Yb (ZM h)
  refine tX h (l:=[Zv th [jo (a.now+1).toNat]]) hr hf (by omega) (by simp) (Rw.lit b31 [_] ya rfl rfl (by simp[maxLen])) λv s w r h=>?_
  refine⟨v,rfl,hk v s _ w r ⟨p,sg2,sf,ss,sk,sr,sm,Q2,⟨hG2,R.fl,R.sh,R.bk,R.ro,by rw[ekp];exact R.mp,ok2,eka.symm⟩,rfl⟩ (jt i hi ?_)⟩
  have h:=Yf (oS (kH h))
  have h:=ZM (ZM (Yb h))
  exact h
end Go.Proofs.YtdcdhcgmeahfmaaGreatDoor
namespace Go.Proofs.YtdcdhcgmeahfmaaGreatDoor
open Go.Dm
def z2F{P:Program}{r:RT}{s:Sem Value}{k:r.T→PT}{w:World}(x:r.T)(h:s.run P w = .ok (r.val x) w)(hk:k x w):L.semR P r s k w:=⟨x,h,hk⟩
def RN{P:Program}{fv:Value}{args:List Value}{r:RT}{k k':r.T→PT}{w:World}(h:L.callV P fv args r k w)(hm:∀x w,k x w→k' x w):L.callV P fv args r k' w:=xj.mono h λ_ _ ⟨x,e,hk⟩=>⟨x,e,hm x _ hk⟩
attribute [local irreducible] L.load L.store L.chk L.new L.nonnil L.guard L.ite L.draw L.idx L.sem L.semR L.semU L.chkSem L.next L.call L.callV L.join L.alts L.loop L.begin L.endRound L.range
variable {w0 w:World}{E:List Seg}
def mV(b:Nat)(f:FuncId):Value:=.func (.func f) #[.pointer (some ⟨b,0,none⟩)] #[]
def doM:List (Int×FuncId):=[(1,Yj),(2,Yy),(3,qK),(4,Yk),(5,YQ),(6,jE),(7,yk),(8,yk),(9,YO),(10,Yw),(11,YP),(12,Yx),(13,Yc)]
def Uh:Pr.underlying zy=some (.map zu jv):=by kernel_rfl
def z3m(w:World):(zeroValue jv).run Pr w = .ok .nilFunc w:=by
 have h:(Pr.info? jv).map (·.zero)=some (some .nilFunc):=by kernel_rfl
 cases hi:Pr.info? jv with
 | none=>rw[hi]at h;cases h
 | some i=>rw[hi]at h;simp only[Option.map_some,Option.some.injEq]at h;exact zv hi h w
def Iu(h:St w0 E w){b:Nat}{e:AEv}(hb:Zy e≠0)(hn:e.kind=12∨e.kind=13→Fc e.name)(rd:RdE w0 E eT e.v e.r.ts)(hvc:e.v.len≤e.v.cap)(hrv:∀t∈e.r.ts,UR t.1){k:Sl→PT}
  (hk:∀v sv w',Rw eS zc 1 v [Zv bZ [Lx (Zy e)]] sv→St w0 (sv::E) w'→k v w'):L.call Pr zq [pO b,evV e] (.one (.one .slice)) k w:=by
 refine za (KX _ e.t) ?_
 unfold uF
 refine nw h ?_;clear h;intro b1 w h
 (dsimp only[zd,List.cons_append,List.nil_append]at h;refine laC h ?_)
 refine NR (e:=e) h hn (λw h=>rd w (zl h)) hvc hrv λw h=>?_
 refine itT (by simpa using hb) ?_
 refine BM ?_
 refine nw h ?_;clear h;intro b5 w h
 have:=Bt (Zy e)
 refine uC h (by decide) (by omega) λw h=>?_
 refine nw h ?_;clear h;intro b7 w h
 exact⟨_,rfl,hk _ _ w (Rw.lit b7 [_] ya rfl rfl (by simp[maxLen])) (Yf h)⟩
def z3I(h:St w0 E w){b:Nat}{e:AEv}(hb:Zy e=0)(hn:e.kind=12∨e.kind=13→Fc e.name)(rd:RdE w0 E eT e.v e.r.ts)(hvc:e.v.len≤e.v.cap)(hrv:∀t∈e.r.ts,UR t.1){f:FuncId}(hf:zm doM e.kind=some f){k:Sl→PT}
  (hh:∀(s1 s2:Seg) w',St w0 (s1::s2::E) w'→L.callV Pr (.func (.func f) #[.pointer (some ⟨b,0,none⟩)] #[]) [evV e] (.one (.one .slice)) k w'):L.call Pr zq [pO b,evV e] (.one (.one .slice)) k w:=by
 refine za (KX _ e.t) ?_
 unfold uF
 refine nw h ?_;clear h;intro b1 w h
 (dsimp only[zd,List.cons_append,List.nil_append]at h;refine laC h ?_)
 refine NR (e:=e) h hn (λw h=>rd w (zl h)) hvc hrv λw h=>?_
 refine itF (by simpa using hb) ?_
 refine MpS.new h KI (mV b) λr s w hm h=>?_
 refine MpS.set mkI Uh h 0 rfl hm Yj rfl λs w hm h=>?_
 refine MpS.set mkI Uh h 0 rfl hm Yy rfl λs w hm h=>?_
 refine MpS.set mkI Uh h 0 rfl hm qK rfl λs w hm h=>?_
 refine MpS.set mkI Uh h 0 rfl hm Yk rfl λs w hm h=>?_
 refine MpS.set mkI Uh h 0 rfl hm YQ rfl λs w hm h=>?_
 refine MpS.set mkI Uh h 0 rfl hm jE rfl λs w hm h=>?_
 refine MpS.set mkI Uh h 0 rfl hm yk rfl λs w hm h=>?_
 refine MpS.set mkI Uh h 0 rfl hm yk rfl λs w hm h=>?_
 refine MpS.set mkI Uh h 0 rfl hm YO rfl λs w hm h=>?_
 refine MpS.set mkI Uh h 0 rfl hm Yw rfl λs w hm h=>?_
 refine MpS.set mkI Uh h 0 rfl hm YP rfl λs w hm h=>?_
 refine MpS.set mkI Uh h 0 rfl hm Yx rfl λs w hm h=>?_
 refine MpS.set mkI Uh h 0 rfl hm Yc rfl λs w hm h=>?_
 have hm:MpS KI (mV b) r doM s:=hm
 dsimp only[zd]at h
 (refine ldC h ?_)
 refine z2F ⟨.func f,#[.pointer (some ⟨b,0,none⟩)],#[]⟩ ?_ ?_
 ·rw[MpS.get_run mkI Uh (z3m w) h 0 rfl hm false,hf];rfl
 (refine laC h ?_)
 exact RN (hh s _ w h) λx w hk=>⟨x,rfl,hk⟩
def Gt(h:St w0 E w)(i:Nat){b:Nat}{a:zK}{s:Seg}(hi:nth E i=some s)(hs:yN b a s){e:AEv}(hb:Zy e=0)(hn:e.kind=12∨e.kind=13→Fc e.name)(rd:RdE w0 E eT e.v e.r.ts)(hvc:e.v.len≤e.v.cap)(hrv:∀t∈e.r.ts,UR t.1)
  {f:FuncId} (hf:zm doM e.kind=some f) {r:zK×List B0} {F:(Value→PT)→PT} (hE:ZV Pr f) (hC:∀{K:Value→PT}{w:World},F K w→Calls Pr f (#[.pointer (some ⟨b,0,none⟩)]++[evV e].toArray++ #[]) w λe w'=>∃v,e = .returned v∧K v w')
  (hh:∀{E2:List Seg}{i2:Nat}{w:World}{k:Sl→PT},St w0 E2 w→nth E2 i2=some s→(∀w,St w0 (Zx E2 i2) w→St w0 (Zx E i) w)→Hk w0 E2 i2 b r k→F (slK k) w) {k:Sl→PT} (hk:Hk w0 E i b r k) :
  L.call Pr zq [pO b,evV e] (.one (.one .slice)) k w:=by
 refine z3I h hb hn rd hvc hrv hf λs1 s2 w h=>?_
 refine jz (F:=F) hE hC ?_
 exact hh (E2:=s1::s2::E) (i2:=i+2) h hi (λw h=>zl (zl h)) λv sv s' w' r hs h=>hk v sv s' w' r hs (Yf (Yf h))
end Go.Proofs.YtdcdhcgmeahfmaaGreatDoor
namespace Go.Proofs.YtdcdhcgmeahfmaaGreatDoor
open Go.Dm
attribute [local irreducible] L.load L.store L.chk L.new L.nonnil L.guard L.ite L.draw L.idx L.sem L.semR L.semU L.chkSem L.next L.call L.callV L.join L.alts L.loop L.begin L.endRound L.range
variable {w0 w:World}{E:List Seg}
def Ka{p0 p1:Int}(h:0<p1)(hp:p1≤2147483648){k:Int→PT}(hk:k (p0%p1) w):L.call Pr yU [I p0,I p1] (.one (.one (.int .i64))) k w:=by
 refine za (mJ p0 p1) ?_
 unfold ke
 refine gd (by omega) ?_
 have h1:=Int.emod_nonneg p0 (by omega:p1≠0)
 have h2:=Int.emod_lt_of_pos p0 h
 have e:=TE p0 p1 h
 refine ZU (λz w'=>z.1=p0%p1∧w'=w) (λk' hk'=>?_) (λy w' ⟨h1,h2⟩=>by subst h2;exact⟨_,rfl,by rw[h1];exact hk⟩)
 refine it (λhb=>?_) (λhb=>?_)<;>(try simp only[zB]at hb)
 ·refine hk' _ _ ⟨?_,rfl⟩
  rw[e]at hb
  dsimp only
  rw[e]
  split at hb<;>rename_i hc
  ·omega
  ·rw[if_neg hc,wr]<;>omega
 ·refine hk' _ _ ⟨?_,rfl⟩
  rw[e]at hb
  dsimp only
  rw[e]
  split at hb<;>rename_i hc
  ·rw[if_pos hc]
  ·omega
def lR(n:Int):B0:=([uO,nT,nU][(n%3).toNat]?).getD s_
def aO(c:Cfg)(n:Int):Cfg:=(lR n,c.2.1%256,1+c.2.2.1%8,c.2.2.2.1%(1+c.2.2.2.2.1%10+1),1+c.2.2.2.2.1%10,c.2.2.2.2.2.1%31,())
def AM(h:St w0 E w){c:Cfg}{n:Int}{k:ir.T→PT}(hk:∀w',St w0 E w'→k (aO c n) w'):L.call Pr QN [.agg (Cfg.cells c).toArray,I n] (.one ir) k w:=by
 refine za (mK c n) ?_
 unfold kf
 refine nw h ?_;clear h;intro b1 w h
 refine nw h ?_;clear h;intro b2 w h
 refine nw h ?_;clear h;intro b3 w h
 refine Ka (by decide) (by decide) ?_
 have h1:=Int.emod_nonneg n (by decide:(3:Int)≠0)
 have h2:=Int.emod_lt_of_pos n (by decide:(0:Int)<3)
 have hr:Rw eS zc 1 ⟨some ⟨b3,0,none⟩,3,3⟩ [uO,nT,nU] [Cl b3 zc [.string uO,.string nT,.string nU]]:=Rw.lit b3 _ ya rfl rfl (by simp[maxLen])
 have hx:[uO,nT,nU][(n%3).toNat]? = some (lR n):=by
  unfold lR
  have:(n%3).toNat<3:=by omega
  rw[List.getElem?_eq_getElem (by simpa using this)];rfl
 refine Rw.ix (v:=⟨some ⟨b3,0,none⟩,3,3⟩) (l:=[uO,nT,nU]) ya hr h1 (show(n%3).toNat<3 by omega) λa ha=>?_
 refine Rw.ld0 ya h 0 rfl hr ha hx rfl rfl ?_
 (refine stC h ?_;clear h;intro w h;dsimp only[zP,zd]at h;refine ldC h ?_)
 refine Ka (by decide) (by decide) ?_
 (refine stC h ?_;clear h;intro w h;dsimp only[zP,zd]at h;refine ldC h ?_)
 refine Ka (by decide) (by decide) ?_
 rw[wr (by omega) (by omega)]
 (refine stC h ?_;clear h;intro w h;dsimp only[zP,zd]at h;refine ldC h ?_)
 refine Ka (by decide) (by decide) ?_
 rw[wr (by omega) (by omega)]
 (refine stC h ?_;clear h;intro w h;dsimp only[zP,zd]at h;refine ldC h ?_;refine ldC h ?_)
 rw[wr (by omega) (by omega)]
 refine Ka (by omega) (by omega) ?_
 (refine stC h ?_;clear h;intro w h;dsimp only[zP,zd]at h;refine ldC h ?_)
 refine Ka (by decide) (by decide) ?_
 (refine stC h ?_;clear h;intro w h;dsimp only[zP,zd]at h;refine laC h ?_;refine stC h ?_;clear h;intro w h;dsimp only[zP,zd]at h;refine laC h ?_)
 exact⟨aO c n,rfl,hk w (zl (zl (zl h)))⟩
def SO(n:Int):yn (lR n).data.toList 16=true:=by
 have h1:=Int.emod_nonneg n (by decide:(3:Int)≠0)
 have h2:=Int.emod_lt_of_pos n (by decide:(0:Int)<3)
 unfold lR
 have:(n%3).toNat=0∨(n%3).toNat=1∨(n%3).toNat=2:=by omega
 rcases this with h | h | h<;>rw[h]<;>decide
def SQ{nm:B0}(im co mi ma gr:Int):oT (nm,im%256,1+co%8,mi%(1+ma%10+1),1+ma%10,gr%31,())=true:=by
 have h1:=Int.emod_nonneg mi (show 1+ma%10+1≠0 by omega)
 have h2:=Int.emod_lt_of_pos mi (show 0<1+ma%10+1 by omega)
 have e:oT (nm,im%256,1+co%8,mi%(1+ma%10+1),1+ma%10,gr%31,())=(decide (0≤im%256∧im%256≤255)&&(decide (1≤1+co%8∧1+co%8≤8)&&(decide (1≤1+ma%10∧1+ma%10≤10)&&(decide (0≤mi%(1+ma%10+1)∧mi%(1+ma%10+1)≤1+ma%10)&&decide (0≤gr%31∧gr%31≤30))))):=rfl
 rw[e]
 simp only[Bool.and_eq_true,decide_eq_true_eq]
 omega
def HP(c:Cfg)(n:Int):Xw (aO c n)=0:=by
 unfold Xw
 rw[if_pos (show yn (aO c n).1.data.toList 16=true from SO n),if_pos]
 exact SQ c.2.1 c.2.2.1 c.2.2.2.1 c.2.2.2.2.1 c.2.2.2.2.2.1
def vq(room line pat:Int):zK:=⟨⟨[],[],0⟩,⟨[],[]⟩,[],⟨room,0,[]⟩,⟨[],[],line,pat⟩,[],0⟩
def fY{n a b:Int}{k:Bool→PT}(hk:k (wiB n a b) w):L.call Pr Jm [I n,I a,I b] (.one (.one .bool)) k w:=by
 refine za (mz n a b) ?_
 unfold VU
 unfold wiB at hk
 refine it (λh1=>?_) (λh1=>?_)
 ·have h1:decide (a≤n)=true:=h1
  rw[h1]at hk
  exact⟨_,rfl,hk⟩
 ·have h1:decide (a≤n)=false:=h1
  rw[h1]at hk
  exact⟨_,rfl,hk⟩
def de(room line pat:Int):Bool:=wiB room 1 30&&(wiB line 0 8&&wiB pat 1 50)
def LM(h:St w0 E w){room line pat:Int}{k:Option Addr×Int×Unit→PT}(h0:de room line pat=false→∀w',St w0 E w'→k (none,2,()) w')
  (h1:de room line pat=true→∀b s w',yN b (vq room line pat) s→St w0 (s::E) w'→k (some ⟨b,0,none⟩,0,()) w'):L.call Pr kB [I room,I line,I pat] (.tup [.one .ptr,.one (.int .i64)]) k w:=by
 refine za (Wn _ _ _) ?_
 unfold PC
 unfold de at h0 h1
 refine fY ?_
 cases c1:wiB room 1 30 with
 | false=>exact itT rfl ⟨(none,2,()),rfl,h0 (by rw[c1];rfl) w h⟩
 | true=>
 refine itF rfl ?_
 refine fY ?_
 cases c2:wiB line 0 8 with
 | false=>exact itT rfl ⟨(none,2,()),rfl,h0 (by rw[c1,c2];rfl) w h⟩
 | true=>
 refine itF rfl ?_
 refine fY ?_
 cases c3:wiB pat 1 50 with
 | false=>exact itT rfl ⟨(none,2,()),rfl,h0 (by rw[c1,c2,c3];rfl) w h⟩
 | true=>
 refine itF rfl ?_
 have hl:0≤line∧line≤8:=by unfold wiB at c2;simpa using c2
 refine z1h h λbf sf w hF h=>?_
 refine iV h λbs ss w hS h=>?_
 refine Ix h λbk sk w hK h=>?_
 refine iY h λbr sr w hR h=>?_
 refine z1d h (bf:=bf) hl.1 (by omega) λbg sg w hG h=>?_
 refine MpS.new h Value.string Value.pointer λr sm w hm h=>?_
 refine nw h ?_;clear h;intro b w h
 have h:St w0 (vY b ⟨bs,bk,br,bf,bg,r⟩ 0::sm::sg::sr::sk::ss::sf::E) w:=h
 refine⟨(some ⟨b,0,none⟩,0,()),rfl,h1 (by rw[c1,c2,c3];rfl) b _ w ⟨⟨bs,bk,br,bf,bg,r⟩,sg,sf,ss,sk,sr,sm,[],⟨hG,hF,hS,hK,hR,hm,by simp,rfl⟩,rfl⟩ ?_⟩
 have h:=JA (JA (JA (Jn (Ym (Yv (Yb h))))))
 have h:St w0 (vY b ⟨bs,bk,br,bf,bg,r⟩ 0::sg::sf::ss::sk::sr::sm::(([]:List BsE).map BsE.sg).flatten::E) w:=h.eq (by simp)
 exact h.glue8
def vp:ARt:=⟨s_,s_,[],0⟩
abbrev wC:Sl:=⟨none,0,0⟩
def LR [Jp w0](h:St w0 E w)(i:Nat){b:Nat}{a:zK}{s:Seg}(hi:nth E i=some s)(hs:yN b a s){e:AEv}(hkd:e.kind=9)(hb:Zy e=0)(rd:RdE w0 E eT e.v e.r.ts)(hvc:e.v.len≤e.v.cap)(hrv:∀t∈e.r.ts,UR t.1)
  (hnow:0≤a.now) (hwk:GWk a.gt) (hfl:(tkG a).2.length<90000000) (hf:∀f∈(tkG a).2,f.Ok)
  (hby:∀rev∈xd a.bk,(zm a.by' rev).isSome=true) (hxs:∀x∈a.by',x.2.xs.length<1000000000) (hfb:a.bk.all.length<1000000) {k:Sl→PT} (hk:Hk w0 E i b (xZ a) k) :
  L.call Pr zq [pO b,evV e] (.one (.one .slice)) k w:=
 Gt h i hi hs hb (λhh=>by omega) rd hvc hrv (f:=YO) (by rw[hkd];rfl) Fo (Fv (some ⟨b,0,none⟩) e.t)
  (λh hi _ hk=>AG h _ hi hs hnow hwk hfl hf hby hxs hfb hk) hk
abbrev kG(kind:Int):AEv:=⟨kind,s_,s_,0,0,VN,vp,wC⟩
def iA:Zy (kG 9)=0:=by decide +kernel
def bn [Jp w0](h:St w0 E w)(i:Nat){b:Nat}{a:zK}{s:Seg}(hi:nth E i=some s)(hs:yN b a s){e:AEv}(hkd:e.kind=1)(hb:Zy e=0)(rd:RdE w0 E eT e.v e.r.ts)(hvc:e.v.len≤e.v.cap)(hrv:∀t∈e.r.ts,UR t.1)
  (hn:a.sh.n<900000000) (hsz:e.c.1.size≤1000000) {k:Sl→PT} (hk:Hk w0 E i b (ve a e) k):L.call Pr zq [pO b,evV e] (.one (.one .slice)) k w:=
 Gt h i hi hs hb (λhh=>by omega) rd hvc hrv (f:=Yj) (by rw[hkd];rfl) gX (Ga (some ⟨b,0,none⟩) e.t) (λh hi _ hk=>LN h _ hi hs hn hsz hk) hk
def AU [Jp w0](h:St w0 E w)(i:Nat){b:Nat}{a:zK}{s:Seg}(hi:nth E i=some s)(hs:yN b a s){e:AEv}(hkd:e.kind=2)(hb:Zy e=0)(rd:RdE w0 (Zx E i) eT e.v e.r.ts)(hvc:e.v.len≤e.v.cap)(h0:e.v.a=none→e.r.ts = [])(hrv:∀t∈e.r.ts,UR t.1)
  (hn:a.sh.n<900000000) (hsz:e.r.name.size≤1000000) (hfew:a.sh.Few) {k:Sl→PT} (hk:Hk w0 E i b (Oc a e) k):L.call Pr zq [pO b,evV e] (.one (.one .slice)) k w:=
 Gt h i hi hs hb (λhh=>by omega) (λw h=>rd w (h.del i hi)) hvc hrv (f:=Yy) (by rw[hkd];rfl) GP (GV (some ⟨b,0,none⟩) e.t) (λh hi hd hk=>RZ h _ hi hs hn hsz hfew (λw h=>rd w (hd w h)) hvc h0 hrv hk) hk
def AS [Jp w0](h:St w0 E w)(i:Nat){b:Nat}{a:zK}{s:Seg}(hi:nth E i=some s)(hs:yN b a s){e:AEv}(hkd:e.kind=10)(hb:Zy e=0)(rd:RdE w0 E eT e.v e.r.ts)(hvc:e.v.len≤e.v.cap)(hrv:∀t∈e.r.ts,UR t.1)
  (hst:(jO a.sh e.name).2.2.2.1=true→yn (jO a.sh e.name).1.1.data.toList 16=true∧1≤@id Int (jO a.sh e.name).2.2.1∧@id Int (jO a.sh e.name).2.2.1<100∧@id Int (jO a.sh e.name).1.2.2.2.1≤1000000) (hf:a.bk.all.length<999999)
  {k:Sl→PT} (hk:Hk w0 E i b (vX a e) k):L.call Pr zq [pO b,evV e] (.one (.one .slice)) k w:=
 Gt h i hi hs hb (λhh=>by omega) rd hvc hrv (f:=Yw) (by rw[hkd];rfl) GN (GT (some ⟨b,0,none⟩) e.t) (λh hi _ hk=>RX h _ hi hs hst hf hk) hk
def hI [Jp w0](h:St w0 E w)(i:Nat){b:Nat}{a:zK}{s:Seg}(hi:nth E i=some s)(hs:yN b a s){e:AEv}(hkd:e.kind=5)(hb:Zy e=0)(rd:RdE w0 E eT e.v e.r.ts)(hvc:e.v.len≤e.v.cap)(hrv:∀t∈e.r.ts,UR t.1)
  (hfew:Jl a.fl) (hn:a.gt.all.length<80000000) (hl:a.gt.lines.length<90000000) (hf:∀f∈(Yp a.fl a.gt e.n).2.2.1,f.Ok) (hfl:(Yp a.fl a.gt e.n).2.2.1.length<100000000)
  {k:Sl→PT} (hk:Hk w0 E i b (vP a e) k):L.call Pr zq [pO b,evV e] (.one (.one .slice)) k w:=
 Gt h i hi hs hb (λhh=>by omega) rd hvc hrv (f:=YQ) (by rw[hkd];rfl) Fs (Fy (some ⟨b,0,none⟩) e.t) (λh hi _ hk=>AK h _ hi hs hfew hn hl hf hfl hk) hk
def z1i [Jp w0](h:St w0 E w)(i:Nat){b:Nat}{a:zK}{s:Seg}(hi:nth E i=some s)(hs:yN b a s){e:AEv}(hkd:e.kind=6)(hb:Zy e=0)(rd:RdE w0 E eT e.v e.r.ts)(hvc:e.v.len≤e.v.cap)(hrv':∀t∈e.r.ts,UR t.1)
  (he:0≤e.n∧e.n≤9000000000000000000) (hrv:(fOf (jR a.fl e.n).1.l e.n).size≤1000000) (hfew:Jl (jR a.fl e.n).1) (hn:a.gt.all.length<80000000) (hl:a.gt.lines.length<90000000)
  (hf:∀f∈(Kb a e).2.2,f.Ok) (hfl:(Kb a e).2.2.length<100000000) {k:Sl→PT} (hk:Hk w0 E i b (fu a e) k):L.call Pr zq [pO b,evV e] (.one (.one .slice)) k w:=
 Gt h i hi hs hb (λhh=>by omega) rd hvc hrv' (f:=jE) (by rw[hkd];rfl) MW (MZ (some ⟨b,0,none⟩) e.t) (λh hi _ hk=>iP h _ hi hs he hrv hfew hn hl hf hfl hk) hk
def EY [Jp w0](h:St w0 E w)(i:Nat){b:Nat}{a:zK}{s:Seg}(hi:nth E i=some s)(hs:yN b a s){e:AEv}(hkd:e.kind=11)(hb:Zy e=0)(rd:RdE w0 E eT e.v e.r.ts)(hvc:e.v.len≤e.v.cap)(hrv:∀t∈e.r.ts,UR t.1)
  (hfew:a.sh.Few) (hname:e.name.size≤100000) (hp:∀t∈(QH a.sh e.name).1.ts,0≤pct t∧pct t≤1000) (hl:(QH a.sh e.name).1.ts.length≤1000)
  (hroll:(QH a.sh e.name).1.roll≤1000000) (hok:∀x,zm a.ro e.name=some x→x.Ok) (hsi:∀x,zm a.ro e.name=some x→0≤x.since∧x.since<1000000000) (hnow:0≤a.now∧a.now<1000000000) (hwb:WBd (TX a e.name).1.sh) (hln:(Nh a e.name).sh.length<100000) (htb:z0T (Nh a e.name))
  {k:Sl→PT} (hk:Hk w0 E i b (oq a e) k):L.call Pr zq [pO b,evV e] (.one (.one .slice)) k w:=
 Gt h i hi hs hb (λhh=>by omega) rd hvc hrv (f:=YP) (by rw[hkd];rfl) Fp (Fw (some ⟨b,0,none⟩) e.t) (λh hi _ hk=>AI h _ hi hs hfew hname hp hl hroll hok hsi hnow hwb hln htb hk) hk
def bo [Jp w0](h:St w0 E w)(i:Nat){b:Nat}{a:zK}{s:Seg}(hi:nth E i=some s)(hs:yN b a s){e:AEv}(hkd:e.kind=4)(hb:Zy e=0)(rd:RdE w0 E eT e.v e.r.ts)(hvc:e.v.len≤e.v.cap)(hrv':∀t∈e.r.ts,UR t.1)
  (hd:0≤e.draw∧e.draw<4611686018427387904) (hok:∀x,zm a.ro e.name=some x→x.Ok) (hwb:WBd (ou a.ro e.name).sh)
  (hfew:Jl a.fl) (hn:a.gt.all.length<80000000) (hl:a.gt.lines.length<90000000) (hnow: -1000000000000<a.now+a.gt.pat∧a.now+a.gt.pat<1000000000000) (hf:(arG a e).2.2.Ok) (hrv:(bnd a e).size≤1000000)
  {k:Sl→PT} (hk:Hk w0 E i b (YN a e) k):L.call Pr zq [pO b,evV e] (.one (.one .slice)) k w:=
 Gt h i hi hs hb (λhh=>by omega) rd hvc hrv' (f:=Yk) (by rw[hkd];rfl) gY (Gb (some ⟨b,0,none⟩) e.t) (λh hi _ hk=>LO h _ hi hs hd hok hwb hfew hn hl hnow hf hrv hk) hk
def EX [Jp w0](h:St w0 E w)(i:Nat){b:Nat}{a:zK}{s:Seg}(hi:nth E i=some s)(hs:yN b a s){e:AEv}(hkd:e.kind=13)(hnm:Fc e.name)(hb:Zy e=0)(rd:RdE w0 E eT e.v e.r.ts)(hvc:e.v.len≤e.v.cap)(hrv:∀t∈e.r.ts,UR t.1)
  (hroom:a.fl.room<1000000) (hlast:a.fl.last+a.fl.room<4611686018427387904) (hname:e.name.size≤100000)
  (hmade:∀x∈Kt a.fl e.name (yj a e.name),0≤x∧x≤9000000000000000000) (hmn:(Kt a.fl e.name (yj a e.name)).length<100000) (hgone:∀x∈(Yn a.fl e.name (Xz a e.name) (yj a e.name)).2,0≤x∧x≤9000000000000000000) (hgn:(Yn a.fl e.name (Xz a e.name) (yj a e.name)).2.length<100000)
  (hpn:(jL (ly a e.name).l e.name).length<1000000) {k:Sl→PT} (hk:Hk w0 E i b (qt a e) k):L.call Pr zq [pO b,evV e] (.one (.one .slice)) k w:=
 Gt h i hi hs hb (λ_=>hnm) rd hvc hrv (f:=Yc) (by rw[hkd];rfl) Vu (Vv (some ⟨b,0,none⟩) e.t) (λh hi _ hk=>AH h _ hi hs hroom hlast hname hmade hmn hgone hgn hpn hk) hk
def fZ(h:St w0 E w)(i:Nat){b:Nat}{a:zK}{s:Seg}(hi:nth E i=some s)(hs:yN b a s){k:Sl→PT}(hk:∀v sv w',Rw eS zc 1 v (xd a.bk) sv→St w0 (sv::E) w'→k v w'):L.call Pr ju [pO b] (.one (.one .slice)) k w:=by
 obtain⟨p,sg,sf,ss,sk,sr,sm,Q,R,rfl⟩:=hs
 refine za (QG _) ?_
 unfold xq
 have h:=(h.front i hi).split8
 (refine nn ?_;refine ldC h ?_)
 refine BO h 4 rfl R.bk λv sv w r h=>⟨v,rfl,hk v sv w r ?_⟩
 have h:=Jk (Jk (Jk (Jk (Jk (Jk (Jk (Jk h)))))))
 have h:=h.glue8
 exact St.again (E:=sv::E) (i+1) hi h
end Go.Proofs.YtdcdhcgmeahfmaaGreatDoor
namespace Go.Proofs.YtdcdhcgmeahfmaaGreatDoor
open Go.Dm
abbrev idB(x:Int):Prop:=0≤x∧x≤2147483647
structure FlI(k:Nat)(F:ze):Prop where
 few:Jl F
 r1:1≤F.room
 last:F.last≤30*(k:Int)
 rev:∀x∈F.l,Fc x.rev
 req:∀x∈F.l,∀q∈x.pod.reqs,idB q
def FlI.mono{k m:Nat}{F:ze}(h:FlI k F)(hm:k≤m):FlI m F:=⟨h.few,h.r1,by have:=h.last;omega,h.rev,h.req⟩
def FlI.upd{k:Nat}{F:ze}(h:FlI k F){id:Int}{g:YT→YT}(hf:Jl { F with l:=YL F.l id g })(hg:∀x∈F.l,x.id=id→∀q∈(g x.pod).reqs,idB q):FlI k { F with l:=YL F.l id g }:=
 ⟨hf,h.r1,h.last,λy hy=>by
  rcases dS hy with hy | ⟨x,hx,_,rfl⟩
  ·exact h.rev y hy
  ·exact h.rev x hx,λy hy=>by
  rcases dS hy with hy | ⟨x,hx,hid,rfl⟩
  ·exact h.req y hy
  ·exact hg x hx hid⟩
def lj{p:YT}{q z:Int}(h:z∈(yh p q).1.reqs):z∈p.reqs∨z=q:=by
 unfold yh at h
 split at h
 ·exact .inl h
 ·split at h
  ·exact .inl h
  ·split at h
   ·exact .inl h
   ·rcases List.mem_cons.1 ((vC q p.reqs).mem_iff.1 h)with e | e
    ·exact .inr e
    ·exact .inl e
def lr{p:YT}{q z:Int}(h:z∈(ye p q).1.reqs):z∈p.reqs:=by
 unfold ye at h
 split at h
 ·exact List.erase_subset h
 ·exact h
def lq{p:YT}{z:Int}(h:z∈(yi p).1.reqs):z∈p.reqs:=by
 unfold yi at h
 split at h
 ·exact h
 ·cases h
def li(p:YT):(YW p).1.reqs=p.reqs:=by unfold YW;split<;>rfl
def lx(p:YT):(yy p).1.reqs=p.reqs:=by unfold yy;split<;>rfl
def FlI.take{k:Nat}{F:ze}(h:FlI k F)(rev:B0){q:Int}(hq:idB q):FlI k (ZI F rev q).1:=by
 have hf:=h.few.take rev q
 unfold ZI at hf ⊢
 split
 ·exact h
 ·rename_i h1
  rw[if_neg h1]at hf
  split
  ·exact h
  ·rename_i x hx
   rw[hx]at hf
   exact h.upd hf λy hy _ z hz=>by
    rcases lj hz with e | rfl
    ·exact h.req y hy z e
    ·exact hq
def FlI.give{k:Nat}{F:ze}(h:FlI k F)(q:Int):FlI k (ZQ F q).1:=by
 have hf:=h.few.give q
 unfold ZQ at hf ⊢
 split
 ·exact h
 ·rename_i x hx
  rw[hx]at hf
  exact h.upd hf λy hy _ z hz=>h.req y hy z (lr hz)
def FlI.kill{k:Nat}{F:ze}(h:FlI k F)(id:Int):FlI k (Jo F id).1:=by
 have hf:=h.few.kill id
 unfold Jo at hf ⊢
 split
 ·exact h
 ·rename_i x hx
  rw[hx]at hf
  exact h.upd hf λy hy _ z hz=>h.req y hy z (lq hz)
def FlI.up{k:Nat}{F:ze}(h:FlI k F)(id:Int):FlI k (jR F id).1:=by
 have hf:=h.few.up id
 unfold jR
 split
 ·exact h
 ·exact h.upd hf λy hy _ z hz=>h.req y hy z (by rwa [li]at hz)
def FlI.drain{k:Nat}{F:ze}(h:FlI k F)(rev:B0):FlI k (qm rev F):=
 h.upd (h.few.drain rev) λy hy _ z hz=>h.req y hy z (by rwa [lx]at hz)
def FlI.shrink(rev:B0):∀(n:Nat){k:Nat}{F:ze},FlI k F→FlI k (YtdcdhcgmeahfmaaGreatDoor.shrink rev n F).1
 | 0,_,_,h=>h
 | n+1,_,_,h=>FlI.shrink rev n (h.drain rev)
def dE{rev:B0}{conc:Int}:∀(n:Nat){F:ze}{x:Zh},x∈(grow rev conc n F).l→x∈F.l∨(x.rev=rev∧x.pod=⟨1,conc,[]⟩)
 | 0,_,_,h=>.inl h
 | n+1,F,x,h=>by
  unfold grow grow1 at h
  rcases List.mem_append.1 h with h | h
  ·exact dE n h
  ·rw[List.mem_singleton]at h
   subst h
   exact .inr ⟨rfl,rfl⟩
def Pp(F:ze)(rev:B0)(want:Int):(qx F rev want:Int)≤max 0 (F.room-F.l.length):=by rw[fQ];omega
def FlI.scale{k:Nat}{F:ze}(h:FlI k F){rev:B0}(hr:Fc rev){conc:Int}(hc:conc≤1000)(want:Int):FlI (k+1) (Yn F rev conc want).1:=by
 have hl:=h.few.l
 have hr20:=h.few.r
 unfold JT at hr20
 have hn:=Pp F rev want
 have hg:FlI (k+1) (yQ F rev conc want):=by
  refine⟨Jl.grow rev hc _ h.few (by omega),?_,?_,λx hx=>?_,λx hx q hq=>?_⟩
  ·unfold yQ;rw[Ot];exact h.r1
  ·unfold yQ;rw[kY];have:=h.last;omega
  ·rcases dE _ hx with hx | ⟨e,-⟩
   ·exact h.rev x hx
   ·rw[e];exact hr
  ·rcases dE _ hx with hx | ⟨-,e⟩
   ·exact h.req x hx q hq
   ·rw[e]at hq;cases hq
 exact hg.shrink rev _
def WN{F:ze}(ok:F.Ok)(rev:B0)(q:Int):0≤(ZI F rev q).2.1∧(ZI F rev q).2.1≤F.last:=by
 have:=ok.lo
 unfold ZI
 split
 ·exact⟨Int.le_refl 0,this⟩
 ·split
  ·exact⟨Int.le_refl 0,this⟩
  ·rename_i x hx
   have:=ok.rng x (On hx).1
   dsimp only;omega
def BV(F:ze)(rev:B0)(q:Int):(ZI F rev q).1.last=F.last:=by
 unfold ZI
 split
 ·rfl
 ·split<;>rfl
def ca{rev:B0}:∀{l:List (Int×Int)}{F:ze}{all:jD}{out:List yo},F.Ok→F.last≤9000000000000000000→(∀x∈l,idB x.1)→(∀f∈out,f.Ok)→∀f∈(yr rev l F all out).2.2.2,f.Ok
 | [],_,_,_,_,_,_,h=>h
 | x::l,F,all,out,ok,hl,hx,h=>by
  unfold yr
  split
  ·have tp:=WN ok rev x.1
   have hx1:=hx x (by simp)
   refine ca (dT ok rev x.1) (by rw[BV];exact hl) (λy hy=>hx y (by simp[hy])) λf hf=>?_
   rcases List.mem_append.1 hf with hf | hf
   ·exact h f hf
   ·rw[List.mem_singleton]at hf
    subst hf
    exact⟨⟨hx1.1,Int.le_trans hx1.2 (by decide)⟩,⟨tp.1,Int.le_trans tp.2 hl⟩,by show s_.size≤1000;decide⟩
  ·exact h
def dO{k:Nat}{rev:B0}:∀{l:List (Int×Int)}{F:ze}{all:jD}{out:List yo},FlI k F→(∀x∈l,idB x.1)→FlI k (yr rev l F all out).1
 | [],_,_,_,h,_=>h
 | x::l,F,all,out,h,hx=>by
  unfold yr
  split
  ·exact dO (h.take rev (hx x (by simp))) λy hy=>hx y (by simp[hy])
  ·exact h
def MP{rev:B0}:∀{l:List (Int×Int)}{F:ze}{all:jD}{out:List yo},∀y∈(yr rev l F all out).2.2.1,y∈l
 | [],_,_,_,y,h=>by cases h
 | x::l,F,all,out,y,h=>by
  unfold yr at h
  split at h
  ·exact List.mem_cons_of_mem _ (MP y h)
  ·exact h
def Ny{rev:B0}:∀{l:List (Int×Int)}{F:ze}{all:jD}{out:List yo},(∀x∈all,idB x.1)→(∀x∈l,idB x.1)→∀x∈(yr rev l F all out).2.1,idB x.1
 | [],_,_,_,h,_=>h
 | x::l,F,all,out,h,hx=>by
  unfold yr
  split
  ·refine Ny (λy hy=>?_) λy hy=>hx y (by simp[hy])
   rcases Zq hy with rfl | hy
   ·exact hx x (by simp)
   ·exact h y hy
  ·exact h
def qe{κ υ:Type}[DecidableEq κ](m:List (κ×υ))(a b:κ)(u:υ)(h:(zm m b).isSome=true):(zm (zX m a u) b).isSome=true:=by
 rw[ZY];split
 ·rfl
 ·exact h
def MO{rev:B0}{q:Int}:∀{l:List (Int×Int)}{F:ze}{all:jD}{out:List yo},(zm all q).isSome=true→(zm (yr rev l F all out).2.1 q).isSome=true
 | [],_,_,_,h=>h
 | x::l,F,all,out,h=>by
  unfold yr
  split
  ·exact MO (qe _ _ _ _ h)
  ·exact h
structure GtI(k:Nat)(G:Ze):Prop where
 all:G.all.length≤2000*k
 ids:∀x∈G.all,idB x.1
 lines:G.lines.length≤k
 lid:∀x∈G.lines,∀y∈x.2,idB y.1
 wk:GWk G
 pat:1≤G.pat∧G.pat≤1000
 room:0≤G.room∧G.room≤8
def GtI.mono{k m:Nat}{G:Ze}(h:GtI k G)(hm:k≤m):GtI m G:=⟨by have:=h.all;omega,h.ids,by have:=h.lines;omega,h.lid,h.wk,h.pat,h.room⟩
def GtI.line{k:Nat}{G:Ze}(h:GtI k G)(rev:B0):∀y∈zp G.lines rev,idB y.1:=λy hy=>by
 unfold zp at hy
 cases hg:zm G.lines rev with
 | none=>rw[hg]at hy;cases hy
 | some l=>rw[hg]at hy;exact h.lid _ (yK hg) y hy
def GtI.turn{k m:Nat}{G:Ze}(h:GtI k G){all:jD}{rev:B0}{l:List (Int×Int)}(hm:k+1≤m)(hl:all.length≤2000*m)(hi:∀x∈all,idB x.1)(hs:∀q,(zm G.all q).isSome=true→(zm all q).isSome=true)
  (h1:∀y∈l,idB y.1) (h2:∀y∈l,(zm all y.1).isSome=true):GtI m { G with all:=all,lines:=zX G.lines rev l }:=by
 have:=h.lines
 have:=JZ G.lines rev l
 refine⟨hl,hi,by dsimp only;omega,λx hx y hy=>?_,λx hx y hy=>?_,h.pat,h.room⟩
 ·rcases Zq hx with rfl | hx
  ·exact h1 y hy
  ·exact h.lid x hx y hy
 ·rcases Zq hx with rfl | hx
  ·exact h2 y hy
  ·exact hs _ (h.wk x hx y hy)
def GtI.req{k m:Nat}{G:Ze}(h:GtI k G){all:jD}(hm:k≤m)(hl:all.length≤2000*m)(hi:∀x∈all,idB x.1)(hs:∀q,(zm G.all q).isSome=true→(zm all q).isSome=true):GtI m { G with all:=all }:=
 ⟨hl,hi,by have:=h.lines;dsimp only;omega,h.lid,λx hx y hy=>hs _ (h.wk x hx y hy),h.pat,h.room⟩
def Vf{all:jD}{id:Int}{x:B0×Int}(h:∀x∈all,idB x.1)(hi:idB id):∀y∈zX all id x,idB y.1:=λy hy=>by
 rcases Zq hy with rfl | hy
 ·exact hi
 ·exact h y hy
def Nu{k:Nat}{F:ze}{G:Ze}(ok:G.Ok)(hF:FlI k F)(hG:GtI k G)(rev:B0):FlI k (yV F G rev).1∧GtI (k+1) (yV F G rev).2.1:=by
 have hl:=uV (rev:=rev) (l:=zp G.lines rev) (F:=F) (all:=G.all) (out:=[])
 have hn:=Jj ok rev
 have:=hG.all
 have:=hG.room
 refine⟨dO hF (hG.line rev),hG.turn (Nat.le_refl _) (by omega) (Ny hG.ids (hG.line rev)) (λq=>MO) (λy hy=>hG.line rev y (MP y hy)) λy hy=>?_⟩
 exact MO (hG.wk.line rev y (MP y hy))
def TZ{k:Nat}{F:ze}{G:Ze}(hk:k≤100000)(ok:F.Ok)(hF:FlI k F)(hG:GtI k G)(rev:B0):∀f∈(yV F G rev).2.2,f.Ok:=
 ca ok (by have:=hF.last;omega) (hG.line rev) (by simp)
def z9:(0:Int)≤0∧(0:Int)≤9000000000000000000:=⟨by decide,by decide⟩
def Ac{k:Nat}{F:ze}{G:Ze}(okF:F.Ok)(ok:G.Ok)(hk:k≤10000)(hF:FlI k F)(hG:GtI k G){id:Int}(hid:idB id):FlI k (Yp F G id).1∧GtI (k+2) (Yp F G id).2.1:=by
 have hF':=hF.give id
 have hla:=hG.all
 have hg:GtI (k+1) { G with all:=zX G.all id ((ZQ F id).2.1,3) }:=hG.req (by omega) (by have:=JZ G.all id ((ZQ F id).2.1,3);omega) (Vf hG.ids hid) λq=>qe _ _ _ _
 unfold Yp
 split
 ·exact⟨hF',hG.mono (by omega)⟩
 ·have okg:({ G with all:=zX G.all id ((ZQ F id).2.1,3) }:Ze).Ok:=ok.req (by omega) id _
  have:=Nu okg (hF'.mono (Nat.le_succ k)) hg (ZQ F id).2.1
  refine⟨?_,this.2⟩
  have h2:=dO (k:=k) (rev:=(ZQ F id).2.1) (l:=zp G.lines (ZQ F id).2.1) (all:=zX G.all id ((ZQ F id).2.1,3)) (out:=[]) hF' (hG.line _)
  exact h2
def Lj{k:Nat}{F:ze}{G:Ze}(okF:F.Ok)(hk:k≤10000)(hF:FlI k F)(hG:GtI k G){id:Int}(hid:idB id):∀f∈(Yp F G id).2.2.1,f.Ok:=by
 have hla:=hG.all
 have hg:GtI (k+1) { G with all:=zX G.all id ((ZQ F id).2.1,3) }:=hG.req (by omega) (by have:=JZ G.all id ((ZQ F id).2.1,3);omega) (Vf hG.ids hid) λq=>qe _ _ _ _
 unfold Yp
 split
 ·intro f hf;cases hf
 ·intro f hf
  rcases List.mem_cons.1 hf with rfl | hf
  ·exact⟨⟨hid.1,Int.le_trans hid.2 (by decide)⟩,z9,by show s_.size≤1000;decide⟩
  ·exact TZ (by omega:k+1≤100000) (Bo okF id) ((hF.give id).mono (Nat.le_succ k)) hg _ f hf
def Ab{F:ze}{G:Ze}(ok:G.Ok)(hn:G.all.length<80000000)(hr:G.room≤8)(id:Int):(Yp F G id).2.2.1.length<100000000:=by
 unfold Yp
 split
 ·simp
 ·have:=(tK (F:=(ZQ F id).1) (ok.req (by omega) id ((ZQ F id).2.1,3)) (ZQ F id).2.1).1
  dsimp only at this ⊢
  rw[List.length_cons]
  omega
def eN{k:Nat}{F:ze}{G:Ze}(ok:G.Ok)(hF:FlI k F)(hG:GtI k G){id:Int}(hid:idB id)(rev:B0)(now:Int):FlI k (VB F G id rev now).1∧GtI (k+1) (VB F G id rev now).2.1:=by
 have hla:=hG.all
 have hl:∀x:B0×Int,(zX G.all id x).length≤2000*(k+1):=λx=>by have:=JZ G.all id x;omega
 have hs:∀(x:B0×Int) q,(zm G.all q).isSome=true→(zm (zX G.all id x) q).isSome=true:=λx q=>qe _ _ _ _
 have hln:∀(x:B0×Int),∀y∈zp G.lines rev,(zm (zX G.all id x) y.1).isSome=true:=λx y hy=>hs x _ (hG.wk.line rev y hy)
 unfold VB
 split
 ·exact⟨hF,hG.mono (Nat.le_succ k)⟩
 ·split
  ·exact⟨hF,hG.req (Nat.le_succ k) (hl _) (Vf hG.ids hid) (hs _)⟩
  ·split
   ·exact⟨hF.take rev hid,hG.turn (Nat.le_refl _) (hl _) (Vf hG.ids hid) (hs _) (hG.line rev) (hln _)⟩
   ·split
    ·exact⟨hF,hG.turn (Nat.le_refl _) (hl _) (Vf hG.ids hid) (hs _) (hG.line rev) (hln _)⟩
    ·rename_i h4
     refine⟨hF,hG.turn (Nat.le_refl _) (hl _) (Vf hG.ids hid) (hs _) (λy hy=>?_) λy hy=>?_⟩ <;>
     ·unfold UC at hy h4
      split at hy
      ·rename_i h5;rw[if_pos h5]at h4;exact absurd (show(5:Int)≠0 by decide) h4
      ·rename_i h5
       rw[if_neg h5]at h4
       split at hy
       ·rename_i h6;rw[if_pos h6]at h4;exact absurd (show(8:Int)≠0 by decide) h4
       ·rcases List.mem_append.1 hy with hy | hy
        ·first | exact hG.line rev y hy | exact hln _ y hy
        ·rw[List.mem_singleton]at hy
         subst hy
         first | exact hid | (rw[ZY,if_pos rfl];rfl)
def Ad{k:Nat}{F:ze}{G:Ze}(hk:k≤10000)(okF:F.Ok)(hF:FlI k F){id:Int}(hid:idB id)(rev:B0)(now:Int):(VB F G id rev now).2.2.Ok:=by
 have hi:0≤id∧id≤9000000000000000000:=⟨hid.1,Int.le_trans hid.2 (by decide)⟩
 have hz:(0:Int)≤0∧(0:Int)≤9000000000000000000:=⟨by decide,by decide⟩
 unfold VB
 split
 ·exact⟨hi,hz,by show pV.size≤1000;decide⟩
 ·split
  ·exact⟨hi,hz,by show gC.size≤1000;decide⟩
  ·split
   ·have:=WN okF rev id
    have:=hF.last
    exact⟨hi,⟨by show 0≤(ZI F rev id).2.1;omega,by show(ZI F rev id).2.1≤9000000000000000000;omega⟩,by show s_.size≤1000;decide⟩
   ·split
    ·exact⟨hi,hz,by show Kd.size≤1000;decide⟩
    ·exact⟨hi,hz,by show s_.size≤1000;decide⟩
def MJ{q:Int}:∀{l:List Int}{all:jD}{out:List yo},(zm all q).isSome=true→(zm (jK l all out).1 q).isSome=true
 | [],_,_,h=>h
 | x::l,all,out,h=>by
  unfold jK
  split
  ·exact MJ (qe _ _ _ _ h)
  ·exact MJ h
def tD:∀{l:List Int}{all:jD}{out:List yo},(∀x∈all,idB x.1)→(∀x∈l,idB x)→∀x∈(jK l all out).1,idB x.1
 | [],_,_,h,_=>h
 | x::l,all,out,h,hx=>by
  unfold jK
  split
  ·exact tD (Vf h (hx x (by simp))) λy hy=>hx y (by simp[hy])
  ·exact tD h λy hy=>hx y (by simp[hy])
def fO:∀{l:List Int}{all:jD}{out:List yo},(∀x∈l,idB x)→(∀f∈out,f.Ok)→∀f∈(jK l all out).2,f.Ok
 | [],_,_,_,h=>h
 | x::l,all,out,hx,h=>by
  unfold jK
  have hx1:=hx x (by simp)
  split
  ·refine fO (λy hy=>hx y (by simp[hy])) λf hf=>?_
   rcases List.mem_append.1 hf with hf | hf
   ·exact h f hf
   ·rw[List.mem_singleton]at hf
    subst hf
    exact⟨⟨hx1.1,Int.le_trans hx1.2 (by decide)⟩,z9,by show vj.size≤1000;decide⟩
  ·exact fO (λy hy=>hx y (by simp[hy])) h
def lY{k:Nat}{F:ze}(hF:FlI k F)(id:Int):(∀q∈(Jo F id).2.1,idB q)∧(Jo F id).2.1.length≤1000:=by
 unfold Jo
 split
 ·exact⟨λq hq=>(by cases hq),Nat.zero_le _⟩
 ·rename_i x hx
  have hx:=(jf hx).1
  exact⟨hF.req x hx,(hF.few.q x hx).1⟩
def Aa{k:Nat}{G:Ze}(hG:GtI k G){l:List Int}(hl:∀q∈l,idB q)(hn:l.length≤1000):GtI (k+1) (oA G l).1:=by
 have:=hG.all
 have h2:=(Oo (l:=l) (all:=G.all) (out:=[])).2
 exact hG.req (Nat.le_succ k) (by omega) (tD hG.ids hl) λq=>MJ
def Ni{rev:B0}:∀{l:List Int}{all:jD},(∀x∈all,idB x.1)→(∀x∈l,idB x)→∀x∈Oq rev l all,idB x.1
 | [],_,h,_=>h
 | x::l,all,h,hx=>Ni (l:=l) (Vf h (hx x (by simp))) λy hy=>hx y (by simp[hy])
def lX{l:List (Int×Int)}{now q:Int}(h:q∈YX l now):∃y∈l,y.1=q:=by
 unfold YX at h
 obtain⟨y,hy,e⟩:=List.mem_map.1 h
 exact⟨y,(List.mem_filter.1 hy).1,e⟩
structure TkI(m n:Nat)(G:Ze):Prop where
 all:G.all.length≤m
 ids:∀x∈G.all,idB x.1
 lines:G.lines.length≤n
 lid:∀x∈G.lines,∀y∈x.2,idB y.1
 wk:GWk G
 ok:G.Ok
def TkI.line{m n:Nat}{G:Ze}(h:TkI m n G)(rev:B0):∀y∈zp G.lines rev,idB y.1:=λy hy=>by
 unfold zp at hy
 cases hg:zm G.lines rev with
 | none=>rw[hg]at hy;cases hy
 | some l=>rw[hg]at hy;exact h.lid _ (yK hg) y hy
def TkI.tick1{m n:Nat}{G:Ze}(h:TkI m n G){k:B0}(hk:(zm G.lines k).isSome=true)(now:Int):TkI m n (YtdcdhcgmeahfmaaGreatDoor.tick1 now k G):=by
 refine⟨?_,?_,?_,?_,h.wk.tick1 k now,h.ok.tick1 h.wk hk now⟩
 ·have:=congrArg List.length (gP (rev:=k) (l:=YX (zp G.lines k) now) (all:=G.all) (h.wk.late k now))
  simp only[List.length_map]at this
  have:=h.all
  unfold YtdcdhcgmeahfmaaGreatDoor.tick1;dsimp only;omega
 ·refine Ni h.ids λq hq=>?_
  obtain⟨y,hy,rfl⟩:=lX hq
  exact h.line k y hy
 ·have:=congrArg List.length (TF (G:=G) hk now)
  simp only[List.length_map]at this
  have:=h.lines
  omega
 ·intro x hx y hy
  rcases Zq hx with rfl | hx
  ·exact h.line k y (List.mem_filter.1 hy).1
  ·exact h.lid x hx y hy
def PY{m n:Nat}{now:Int}{r:Int}:∀{ks:List B0}{G:Ze}{out:List yo},TkI m n G→G.room=r→(∀k∈ks,(zm G.lines k).isSome=true)→(∀f∈out,f.Ok)→
  TkI m n (uM now ks G out).1∧(∀f∈(uM now ks G out).2,f.Ok)∧((uM now ks G out).2.length:Int)≤out.length+ks.length*max r 0∧(uM now ks G out).1.pat=G.pat∧(uM now ks G out).1.room=G.room
 | [],G,out,h,hr,_,ho=>⟨h,ho,by simp[uM],rfl,rfl⟩
 | k::ks,G,out,h,hr,hk,ho=>by
  have h1:=h.tick1 (hk k (by simp)) now
  have hn:=TF (G:=G) (hk k (by simp)) now
  have hks:∀k'∈ks,(zm (tick1 now k G).lines k').isSome=true:=λk' hk'=>by
   have:=hk k' (by simp[hk'])
   cases h3:zm (tick1 now k G).lines k' with
   | some _=>rfl
   | none=>
    rw[Yz,hn]at h3
    cases h4:zm G.lines k' with
    | none=>rw[h4]at this;cases this
    | some v=>exact absurd (List.mem_map.2 ⟨_,yK h4,rfl⟩) h3
  have ho':∀f∈out++UT (YX (zp G.lines k) now),f.Ok:=λf hf=>by
   rcases List.mem_append.1 hf with hf | hf
   ·exact ho f hf
   ·unfold UT at hf
    obtain⟨q,hq,rfl⟩:=List.mem_map.1 hf
    obtain⟨y,hy,rfl⟩:=lX hq
    have:=h.line k y hy
    exact⟨⟨this.1,Int.le_trans this.2 (by decide)⟩,z9,by show kT.size≤1000;decide⟩
  obtain⟨a,b,c,d,e⟩:=PY (ks:=ks) (r:=r) h1 hr hks ho'
  refine⟨a,b,?_,d,e⟩
  have hll:=Jj h.ok k
  rw[hr]at hll
  have h5:(YX (zp G.lines k) now).length≤(zp G.lines k).length:=by unfold YX;rw[List.length_map];exact List.length_filter_le ..
  rw[List.length_append,mb]at c
  show((uM now ks (tick1 now k G) (out++UT (YX (zp G.lines k) now))).2.length:Int)≤_
  rw[List.length_cons]
  have:((ks.length+1:Nat):Int)*max r 0=ks.length*max r 0+max r 0:=by rw[Int.natCast_add,Int.add_mul];simp
  rw[this]
  omega
def Nt{k:Nat}{G:Ze}(ok:G.Ok)(hG:GtI k G)(now:Int):GtI k (qS G now).1∧(∀f∈(qS G now).2,f.Ok)∧(qS G now).2.length≤8*k:=by
 have h:TkI G.all.length G.lines.length G:=⟨Nat.le_refl _,hG.ids,Nat.le_refl _,hG.lid,hG.wk,ok⟩
 obtain⟨a,b,c,d,e⟩:=PY (now:=now) (r:=G.room) (ks:=yT (G.lines.map (·.1))) (out:=[]) h rfl (λk hk=>by
  cases h4:zm G.lines k with
  | none=>rw[Yz]at h4;exact absurd (vg.1 hk) h4
  | some v=>rfl) (by simp)
 have r:=hG.room
 have hl:=hG.lines
 refine⟨⟨Nat.le_trans a.all hG.all,a.ids,Nat.le_trans a.lines hl,a.lid,a.wk,?_,?_⟩,b,?_⟩
 ·unfold qS;rw[d];exact hG.pat
 ·unfold qS;rw[e];exact r
 ·rw[jk,List.length_map]at c
  have h8:(G.lines.length:Int)*max G.room 0≤G.lines.length*8:=Int.mul_le_mul_of_nonneg_left (by omega) (by omega)
  unfold qS
  simp only[List.length_nil]at c
  omega
structure ShI(k:Nat)(a:YV):Prop where
 n:a.n≤k
 few:a.Few
 cfg:∀n,(JM a.m n).is=true→(Gr (JM a.m n)).1=n∧Xw (Gr (JM a.m n))=0∧1≤(JM a.m n).gen
 rt:∀n,(kw a.r n).is=true→(kw a.r n).r.name=n∧Of (kw a.r n).r=0
def ShI.mono{k m:Nat}{a:YV}(h:ShI k a)(hm:k≤m):ShI m a:=⟨by have:=h.n;omega,h.few,h.cfg,h.rt⟩
def ah{k:Nat}{a:YV}(ok:a.Ok)(h:ShI k a)(c:Cfg)(ver:Int):ShI (k+1) (vZ a c ver).1:=by
 have hf:=ai h.few c ver
 unfold vZ at hf ⊢
 split
 ·exact h.mono (Nat.le_succ k)
 ·rename_i h1
  rw[if_neg h1]at hf
  split
  ·exact h.mono (Nat.le_succ k)
  ·rename_i h2
   rw[if_neg h2]at hf
   have hn:=h.n
   refine⟨by dsimp only;omega,hf,λn hn2=>?_,h.rt⟩
   dsimp only[lb]at hn2 ⊢
   rw[WL]at hn2 ⊢
   split
   ·rename_i e
    have h1':Xw c=0:=by simpa using h1
    refine⟨e,h1',?_⟩
    have h3:=ok.gen c.1
    show(1:Int)≤(if(JM a.m c.1).is=true∧VM (Gr (JM a.m c.1)) c=true then(JM a.m c.1).gen else(JM a.m c.1).gen+1)
    split
    ·rename_i h4;exact(h.cfg c.1 h4.1).2.2
    ·omega
   ·rename_i e;rw[if_neg e]at hn2;exact h.cfg n hn2
def rN{k:Nat}{a:YV}(h:ShI k a)(r:ARt)(ver:Int):ShI (k+1) (uk a r ver).1:=by
 have hf:=rO h.few r ver
 unfold uk at hf ⊢
 split
 ·exact h.mono (Nat.le_succ k)
 ·rename_i h1
  rw[if_neg h1]at hf
  split
  ·exact h.mono (Nat.le_succ k)
  ·rename_i h2
   rw[if_neg h2]at hf
   have hn:=h.n
   refine⟨by dsimp only;omega,hf,h.cfg,λn hn2=>?_⟩
   dsimp only[nZ]at hn2 ⊢
   rw[Sk]at hn2 ⊢
   split
   ·rename_i e
    exact⟨e,by simpa using h1⟩
   ·rename_i e;rw[if_neg e]at hn2;exact h.rt n hn2
def Qo{c:Cfg}(h:Xw c=0):yn c.1.data.toList 16=true∧(0≤@id Int c.2.1∧@id Int c.2.1≤255)∧(1≤@id Int c.2.2.1∧@id Int c.2.2.1≤8)∧(1≤@id Int c.2.2.2.2.1∧@id Int c.2.2.2.2.1≤10)∧(0≤@id Int c.2.2.2.1∧@id Int c.2.2.2.1≤@id Int c.2.2.2.2.1)∧(0≤@id Int c.2.2.2.2.2.1∧@id Int c.2.2.2.2.2.1≤30):=by
 unfold Xw at h
 split at h
 ·rename_i h1
  split at h
  ·rename_i h2
   unfold oT at h2
   simp only[Bool.and_eq_true,decide_eq_true_eq]at h2
   exact⟨h1,h2.1,h2.2.1,h2.2.2.1,h2.2.2.2.1,h2.2.2.2.2⟩
  ·cases h
 ·cases h
structure BkI(k:Nat)(a:yW):Prop where
 len:a.all.length≤k
 rev:∀p∈a.all,Fc p.1
 cfg:∀p∈a.all,Xw p.2.cfg=0
def BkI.mono{k m:Nat}{a:yW}(h:BkI k a)(hm:k≤m):BkI m a:=⟨by have:=h.len;omega,h.rev,h.cfg⟩
def BkI.prove{k:Nat}{a:yW}(h:BkI k a)(rev:B0):BkI k (kJ a rev).1:=by
 unfold kJ
 split
 ·exact⟨h.len,h.rev,h.cfg⟩
 ·exact h
def BkI.stamp{k:Nat}{a:yW}(h:BkI k a){c:Cfg}(hc:Xw c=0){g:Nat}(h1:1≤g)(hg:g<100):BkI (k+1) (XL a c g).1:=by
 unfold XL
 split
 ·exact h.mono (Nat.le_succ k)
 ·have:=h.len
  have:=JZ a.all (qi c.1 g) (WT (qi c.1 g) g c)
  refine⟨by dsimp only;omega,λp hp=>?_,λp hp=>?_⟩
  ·rcases Zq hp with rfl | hp
   ·exact⟨c.1,g,(Qo hc).1,h1,hg,rfl⟩
   ·exact h.rev p hp
  ·rcases Zq hp with rfl | hp
   ·exact hc
   ·exact h.cfg p hp
def Fc.size{n:B0}(h:Fc n):n.size≤100:=by
 obtain⟨c,g,hc,-,hg,rfl⟩:=h
 have:=Om c hg
 unfold yn at hc
 simp only[Bool.and_eq_true,decide_eq_true_eq]at hc
 have h2:(c.data.toList.length:Int)≤16:=hc.2
 have h3:c.data.toList.length=c.size:=by rw[Array.length_toList];rfl
 omega
def uX{a:yW}{rev:B0}(h:jA a rev=true):(rev,XX a rev)∈a.all:=by
 unfold jA at h
 unfold XX
 cases h2:zm a.all rev with
 | none=>rw[h2]at h;cases h
 | some v=>exact yK h2
def NM{a:yW}{rev:B0}(h:rev∈xd a):jA a rev=true:=by
 unfold xd at h
 unfold jA
 cases h2:zm a.all rev with
 | none=>rw[Yz]at h2;exact absurd (vg.1 h) h2
 | some v=>rfl
def NL{a:yW}(ok:a.Ok){c:B0}{q:B0→Bool}:∀{l:List B0}{t:Rv},(∀x∈l,jA a x=true)→(t.1=s_∨jA a t.1=true)→((l.foldl (gS a c q) t).1=s_∨jA a (l.foldl (gS a c q) t).1=true)
 | [],t,_,h=>h
 | x::l,t,hl,h=>by
  rw[List.foldl_cons]
  refine NL ok (λy hy=>hl y (by simp[hy])) ?_
  have hx:=hl x (by simp)
  have e:(XX a x).1=x:=(ok.name _ (uX hx)).1
  unfold gS
  split
  ·split
   ·split
    ·exact .inr (by rw[e];exact hx)
    ·exact h
   ·exact h
  ·exact h
def LG{a:yW}(ok:a.Ok)(c:B0)(q:B0→Bool):(tV a c q).1=s_∨jA a (tV a c q).1=true:=
 NL ok (λ_ h=>NM h) (.inl rfl)
def BkI.size{k:Nat}{a:yW}(h:BkI k a){rev:B0}(hr:jA a rev=true):rev.size≤100:=(h.rev _ (uX hr)).size
def rC{k:Nat}{a:yW}(ok:a.Ok)(h:BkI k a)(cfg:B0)(t:Tgt):(qH a cfg t).1.size≤100:=by
 have hs:s_.size≤100:=by decide
 unfold qH
 split
 ·split
  ·exact hs
  ·rename_i h2
   rcases LG ok cfg (xH a)with e | e
   ·exact absurd e h2
   ·exact h.size e
 ·split
  ·rename_i h2
   split
   ·exact h.size h2
   ·exact hs
  ·exact hs
structure ByI(k:Nat)(bk:yW)(m:List (B0×Oa)):Prop where
 has:∀p∈bk.all,(zm m p.1).isSome=true
 xs:∀x∈m,x.2.xs.length≤k
 rng:∀x∈m,∀y∈x.2.xs,0≤y∧y≤100000000
 want:∀x∈m,(0≤x.2.want∧x.2.want≤10)∧(0≤x.2.left∧x.2.left≤1000)
def ByI.mono{k m:Nat}{bk:yW}{b:List (B0×Oa)}(h:ByI k bk b)(hm:k≤m):ByI m bk b:=⟨h.has,λx hx=>by have:=h.xs x hx;omega,h.rng,h.want⟩
def ByI.book{k:Nat}{bk bk':yW}{b:List (B0×Oa)}(h:ByI k bk b)(e:bk'.all=bk.all):ByI k bk' b:=⟨by rw[e];exact h.has,h.xs,h.rng,h.want⟩
def ByI.set{k:Nat}{bk:yW}{b:List (B0×Oa)}(h:ByI k bk b){rev:B0}{x:Oa}(h1:x.xs.length≤k)(h2:∀y∈x.xs,0≤y∧y≤100000000)(h3:(0≤x.want∧x.want≤10)∧(0≤x.left∧x.left≤1000)):ByI k bk (zX b rev x):=
 ⟨λp hp=>qe _ _ _ _ (h.has p hp),λy hy=>by
  rcases Zq hy with rfl | hy
  ·exact h1
  ·exact h.xs y hy,λy hy=>by
  rcases Zq hy with rfl | hy
  ·exact h2
  ·exact h.rng y hy,λy hy=>by
  rcases Zq hy with rfl | hy
  ·exact h3
  ·exact h.want y hy⟩
def ByI.tick{k:Nat}{bk:yW}{G:Ze}(hb:∀rev,uW G rev≤100000000):∀{l:List B0}{b:List (B0×Oa)},l.Nodup→(∀p∈bk.all,(zm b p.1).isSome=true)→(∀x∈b,x.1∈l→x.2.xs.length≤k)→(∀x∈b,x.2.xs.length≤k+1)→
  (∀x∈b,∀y∈x.2.xs,0≤y∧y≤100000000)→(∀x∈b,(0≤x.2.want∧x.2.want≤10)∧(0≤x.2.left∧x.2.left≤1000))→ByI (k+1) bk (l.foldl (gx G) b)
 | [],b,_,h1,_,h2,h3,h4=>⟨h1,h2,h3,h4⟩
 | rev::l,b,nd,h1,ha,h2,h3,h4=>by
  rw[List.foldl_cons]
  rw[List.nodup_cons]at nd
  unfold gx
  split
  ·rename_i x hx
   have hm:=yK hx
   have hxl:x.xs.length≤k:=ha _ hm (by simp)
   refine ByI.tick hb nd.2 (λp hp=>qe _ _ _ _ (h1 p hp)) (λy hy hl=>?_) (λy hy=>?_) (λy hy=>?_) λy hy=>?_
   ·rcases Zq hy with rfl | hy
    ·exact absurd hl nd.1
    ·exact ha y hy (by simp[hl])
   ·rcases Zq hy with rfl | hy
    ·simp;omega
    ·exact h2 y hy
   ·rcases Zq hy with rfl | hy
    ·intro z hz
     rcases List.mem_append.1 hz with hz | hz
     ·exact h3 _ hm z hz
     ·rw[List.mem_singleton]at hz
      have:=hb rev
      subst hz
      split<;>omega
    ·exact h3 y hy
   ·rcases Zq hy with rfl | hy
    ·have:=h4 _ hm
     exact this
    ·exact h4 y hy
  ·exact ByI.tick hb nd.2 h1 (λy hy hl=>ha y hy (by simp[hl])) h2 h3 h4
def aZ(all:jD)(rev:B0):(jy all rev).length≤all.length:=by
 unfold jy
 rw[kW,List.length_map]
 exact List.length_filter_le ..
def iC{k:Nat}{G:Ze}(ok:G.Ok)(hG:GtI k G)(hk:k≤10001)(rev:B0):0≤uW G rev∧uW G rev≤100000000:=by
 have h1:=Jj ok rev
 have h2:=aZ G.all rev
 have h3:=hG.all
 have h4:=hG.room
 unfold uW Vi
 rw[List.length_map]
 omega
structure WyI(k:Nat)(a:nI):Prop where
 fr:WBd a.fr
 to:WBd a.to
 ns:WBd a.ns
 zf:∀s∈a.fr,s.1.size≤100
 zt:∀s∈a.to,s.1.size≤100
 zn:∀s∈a.ns,s.1.size≤100
 zg:∀s∈a.ng,s.1.size≤100∧s.2.1.size≤100
 lf:a.fr.length≤6*k
 lt:a.to.length≤6
 ln:a.ns.length≤6*k
 lg:a.ng.length≤6
 since:0≤a.since∧a.since≤1048576
abbrev RoI(k:Nat)(m:oi):Prop:=∀n x,zm m n=some x→WyI k x
def WyI.mono{k m:Nat}{a:nI}(h:WyI k a)(hm:k≤m):WyI m a:=⟨h.fr,h.to,h.ns,h.zf,h.zt,h.zn,h.zg,by have:=h.lf;omega,h.lt,by have:=h.ln;omega,h.lg,h.since⟩
def WyI.ok{k:Nat}{a:nI}(h:WyI k a)(hk:k≤10000):a.Ok:=⟨h.fr,h.to,h.ns,by have:=h.lf;omega,by have:=h.lt;omega,by have:=h.ln;omega,by have:=h.lg;omega⟩
def LD{α:Type}[Inhabited α][DecidableEq α]{zs:List α}{x:α}(h:x∈Lib.compact zs):x∈zs:=by
 unfold Lib.compact Lib.compactUpTo at h
 obtain⟨i,hi,rfl⟩:=List.mem_map.1 h
 have hi:=(List.mem_filter.1 hi).1
 rw[List.mem_range]at hi
 simp[hi]
def ak{l:List B0}{x:B0}(h:x∈nS l):x∈l:=by
 unfold nS at h
 obtain⟨y,hy,rfl⟩:=List.mem_map.1 h
 obtain⟨z,hz,rfl⟩:=List.mem_map.1 (LD hy)
 exact hz
def aJ{fr to:List Shr}{x:B0}(h:x∈vQ fr to):(∃s∈fr,s.1=x)∨∃s∈to,s.1=x:=by
 have h:=vg.1 (ak h)
 rcases List.mem_append.1 h with h | h
 ·exact .inl (List.mem_map.1 h)
 ·exact .inr (List.mem_map.1 h)
def aK(fr to:List Shr):(vQ fr to).length≤fr.length+to.length:=by
 have:=nR (yT (fr.map (·.1)++to.map (·.1)))
 rw[jk,List.length_append,List.length_map,List.length_map]at this
 exact this
def z1A{fr to:List Shr}{gone whole:Int}(h0:0<gone)(h1:gone<whole)(n:B0):wOf fr n+qg fr to gone whole n≤max (wOf fr n) (wOf to n):=by
 unfold qg
 split
 ·rename_i hc
  have:(wOf to n-wOf fr n)*gone/whole≤wOf to n-wOf fr n:=Int.ediv_le_of_le_mul (by omega) (Int.mul_le_mul_of_nonneg_left (by omega) (by omega))
  omega
 ·omega
def nV{fr to:List Shr}{gone whole:Int}(hf:WBd fr)(ht:WBd to)(h0:0<gone)(h1:gone<whole):∀{l:List B0}{st:Int×List Shr},(∀x∈l,x.size≤100)→0≤st.1→WBd st.2→(∀s∈st.2,s.1.size≤100)→
  WBd (l.foldl (YC fr to gone whole) st).2∧(∀s∈(l.foldl (YC fr to gone whole) st).2,s.1.size≤100)∧(l.foldl (YC fr to gone whole) st).2.length≤st.2.length+l.length
 | [],st,_,_,h3,h4=>⟨h3,h4,Nat.le_refl _⟩
 | n::l,st,hl,h2,h3,h4=>by
  rw[List.foldl_cons]
  have a:=oo (r:=n) hf
  have b:=oo (r:=n) ht
  have c:=Cj hf ht h0 h1 n
  have d:=z1A (fr:=fr) (to:=to) h0 h1 n
  have key:0≤(YC fr to gone whole st n).1∧WBd (YC fr to gone whole st n).2∧(∀s∈(YC fr to gone whole st n).2,s.1.size≤100)∧(YC fr to gone whole st n).2.length≤st.2.length+1:=by
   have hv:∀m:Int,wOf fr n+m≤1000→WBd (if 0<wOf fr n+m then st.2++[(n,wOf fr n+m,())]else st.2)∧(∀s∈(if 0<wOf fr n+m then st.2++[(n,wOf fr n+m,())]else st.2),s.1.size≤100)∧(if 0<wOf fr n+m then st.2++[(n,wOf fr n+m,())]else st.2).length≤st.2.length+1:=by
    intro m hm
    split
    ·rename_i hp
     refine⟨λs hs=>?_,λs hs=>?_,by simp⟩
     ·rcases List.mem_append.1 hs with hs | hs
      ·exact h3 s hs
      ·rw[List.mem_singleton]at hs;subst hs;exact⟨by show(0:Int)≤wOf fr n+m;omega,hm⟩
     ·rcases List.mem_append.1 hs with hs | hs
      ·exact h4 s hs
      ·rw[List.mem_singleton]at hs;subst hs;exact hl n (by simp)
    ·exact⟨h3,h4,Nat.le_succ _⟩
   unfold YC
   dsimp only
   by_cases hd:0<wOf fr n-wOf to n
   ·simp only[if_pos hd]
    refine⟨by split<;>omega,hv _ (by split<;>omega)⟩
   ·simp only[if_neg hd]
    exact⟨h2,hv _ (by omega)⟩
  obtain⟨k1,k2,k3,k4⟩:=key
  obtain⟨r1,r2,r3⟩:=nV hf ht h0 h1 (l:=l) (λx hx=>hl x (by simp[hx])) k1 k2 k3
  exact⟨r1,r2,by rw[List.length_cons];omega⟩
def WH{fr to:List Shr}{gone whole:Int}(hf:WBd fr)(ht:WBd to)(h0:0<gone)(h1:gone<whole):∀l:List B0,0≤(l.map (qg fr to gone whole)).sum
 | []=>Int.le_refl 0
 | n::l=>by
  have:=WH hf ht h0 h1 l
  have:=(Cj hf ht h0 h1 n).1
  rw[List.map_cons,List.sum_cons];omega
def nQ{fr to:List Shr}(hf:WBd fr)(ht:WBd to)(zf:∀s∈fr,s.1.size≤100)(zt:∀s∈to,s.1.size≤100)(gone whole:Int) :
  WBd (QT fr to gone whole)∧(∀s∈QT fr to gone whole,s.1.size≤100)∧(QT fr to gone whole).length≤fr.length+to.length:=by
 unfold QT
 split
 ·exact⟨ht,zt,by omega⟩
 ·split
  ·exact⟨hf,zf,by omega⟩
  ·rename_i h1 h2
   have:=nV (gone:=gone) (whole:=whole) hf ht (by omega) (by omega) (l:=vQ fr to) (st:=(((vQ fr to).map (qg fr to gone whole)).sum,[])) (λx hx=>by
    rcases aJ hx with ⟨s,hs,rfl⟩ | ⟨s,hs,rfl⟩
    ·exact zf s hs
    ·exact zt s hs) (WH hf ht (by omega) (by omega) _) (by intro s hs;cases hs) (by intro s hs;cases hs)
   have hn:=aK fr to
   refine⟨this.1,this.2.1,?_⟩
   have h3:=this.2.2
   simp only[List.length_nil,Nat.zero_add]at h3
   exact Nat.le_trans h3 hn
structure iK(t:vO):Prop where
 w:WBd t.sh
 zs:∀s∈t.sh,s.1.size≤100
 zg:∀s∈t.tg,s.1.size≤100∧s.2.1.size≤100
 ls:t.sh.length≤6
 lg:t.tg.length≤6
def nJ{k:Nat}{m:oi}(h:RoI k m)(n:B0){t:vO}(ht:iK t){now:Int}(hn:0≤now∧now≤1048576)(whole:Int)(hk:1≤k) :
  WBd (xR m n t now whole).fr∧WBd (xR m n t now whole).to∧(∀s∈(xR m n t now whole).fr,s.1.size≤100)∧(∀s∈(xR m n t now whole).to,s.1.size≤100)∧(xR m n t now whole).fr.length≤6*k∧(xR m n t now whole).to.length≤6∧0≤(xR m n t now whole).since∧(xR m n t now whole).since≤1048576:=by
 unfold xR
 have:=ht.ls
 split
 ·rename_i a ha
  have w:=h n a ha
  split
  ·exact⟨w.fr,w.to,w.zf,w.zt,w.lf,w.lt,w.since.1,w.since.2⟩
  ·exact⟨w.ns,ht.w,w.zn,ht.zs,w.ln,ht.ls,hn.1,hn.2⟩
 ·exact⟨ht.w,ht.w,ht.zs,ht.zs,by dsimp only;omega,ht.ls,hn.1,hn.2⟩
def Ra{k:Nat}{m:oi}(h:RoI k m)(n:B0){t:vO}(ht:iK t){now:Int}(hn:0≤now∧now≤1048576)(whole:Int)(hk:1≤k):RoI (k+1) (CU m n t now whole):=by
 intro n' x hx
 unfold CU at hx
 rw[ZY]at hx
 split at hx
 ·obtain⟨a1,a2,a3,a4,a5,a6,a7,a8⟩:=nJ h n ht hn whole hk
  have s:=nQ a1 a2 a3 a4 (now-(xR m n t now whole).since) whole
  cases hx
  exact⟨a1,a2,s.1,a3,a4,s.2.1,ht.zg,by dsimp only;omega,a6,by have:=s.2.2;dsimp only[Gm];omega,ht.lg,a7,a8⟩
 ·exact(h n' x hx).mono (Nat.le_succ k)
def aI{k:Nat}{m:oi}(h:RoI k m)(n:B0){t:vO}(ht:iK t){now:Int}(hn:0≤now∧now≤1048576)(whole:Int)(hk:1≤k):WBd (Gm m n t now whole).sh∧(∀s∈(Gm m n t now whole).sh,s.1.size≤100)∧(Gm m n t now whole).sh.length≤6*k+6:=by
 obtain⟨a1,a2,a3,a4,a5,a6,-,-⟩:=nJ h n ht hn whole hk
 have s:=nQ a1 a2 a3 a4 (now-(xR m n t now whole).since) whole
 exact⟨s.1,s.2.1,by have:=s.2.2;dsimp only[Gm];omega⟩
def RoI.del{k:Nat}{m:oi}(h:RoI k m)(nd:(m.map (·.1)).Nodup)(n:B0):RoI k (kE m n):=by
 intro n' x hx
 rw[FZ n n' nd]at hx
 split at hx
 ·cases hx
 ·exact h n' x hx
structure RgI(j:Nat)(ws:MSI)(ts:MSS):Prop where
 lw:ws.length≤j
 lt:ts.length≤j
 zw:∀x∈ws,x.1.size≤100∧0≤x.2∧x.2≤100*j
 zt:∀x∈ts,x.1.size≤100∧x.2.size≤100
def nW{k:Nat}{a:yW}(ok:a.Ok)(h:BkI k a)(cfg:B0):∀{l:List Tgt}{j:Nat}{ws:MSI}{ts:MSS},(∀t∈l,(0≤pct t∧pct t≤100)∧t.2.1.size≤100)→RgI j ws ts→RgI (j+l.length) (Vb a cfg l ws ts).2.1 (Vb a cfg l ws ts).2.2
 | [],_,_,_,_,h=>h
 | t::l,j,ws,ts,hl,hr=>by
  rw[CW]
  have ht:=hl t (by simp)
  have hz:=rC ok h cfg t
  have e:j+(t::l).length=(j+1)+l.length:=by rw[List.length_cons];omega
  split
  ·rw[e]
   refine nW ok h cfg (λx hx=>hl x (by simp[hx])) ⟨?_,?_,λx hx=>?_,λx hx=>?_⟩
   ·have:=JZ ws (qH a cfg t).1 ((zm ws (qH a cfg t).1).getD 0+pct t);have:=hr.lw;omega
   ·have:=hr.lt
    split
    ·omega
    ·have:=JZ ts t.2.1 (qH a cfg t).1;omega
   ·rcases Zq hx with rfl | hx
    ·refine⟨hz,?_⟩
     dsimp only
     cases hg:zm ws (qH a cfg t).1 with
     | none=>simp only[Option.getD_none];omega
     | some v=>have:=(hr.zw _ (yK hg)).2;simp only[Option.getD_some];dsimp only at this;omega
    ·have:=hr.zw x hx
     exact⟨this.1,this.2.1,by omega⟩
   ·split at hx
    ·exact hr.zt x hx
    ·rcases Zq hx with rfl | hx
     ·exact⟨ht.2,hz⟩
     ·exact hr.zt x hx
  ·exact⟨by have:=hr.lw;dsimp only;omega,by have:=hr.lt;dsimp only;omega,λx hx=>by have:=hr.zw x hx;exact⟨this.1,this.2.1,by rw[e];omega⟩,hr.zt⟩
def lz{m:List (B0×Int)}{s:Shr}(h:s∈Vy m):(s.1,@id Int s.2.1)∈m:=by
 unfold Vy at h
 obtain⟨x,hx,rfl⟩:=List.mem_map.1 h
 have hx:=vg.1 hx
 cases hg:zm m x with
 | none=>exact absurd hx (Yz.1 hg)
 | some v=>exact yK hg
def SB{m:List (B0×B0)}{s:Tgo}(h:s∈kz m):(s.1,s.2.1)∈m:=by
 unfold kz at h
 obtain⟨x,hx,rfl⟩:=List.mem_map.1 h
 have hx:=vg.1 hx
 cases hg:zm m x with
 | none=>exact absurd hx (Yz.1 hg)
 | some v=>exact yK hg
def TQ{k:Nat}{a:yW}(ok:a.Ok)(h:BkI k a){r:ARt}(hl:r.ts.length≤6)(ht:∀t∈r.ts,(0≤pct t∧pct t≤100)∧t.2.1.size≤100):iK (resolve a r).1:=by
 have hg:=nW ok h r.cfg (l:=r.ts) (j:=0) (ws:=[]) (ts:=[]) ht ⟨Nat.le_refl _,Nat.le_refl _,by simp,by simp⟩
 unfold resolve
 split
 ·refine⟨λs hs=>?_,λs hs=>?_,λs hs=>?_,?_,?_⟩
  ·have:=(hg.zw _ (lz (List.mem_filter.1 hs).1)).2
   dsimp only at this
   exact⟨this.1,by omega⟩
  ·exact(hg.zw _ (lz (List.mem_filter.1 hs).1)).1
  ·exact hg.zt _ (SB hs)
  ·have h1:=List.length_filter_le CY (Vy (Vb a r.cfg r.ts [] []).2.1)
   have h2:(Vy (Vb a r.cfg r.ts [] []).2.1).length=(Vb a r.cfg r.ts [] []).2.1.length:=by unfold Vy;rw[List.length_map,jk,List.length_map]
   have:=hg.lw
   dsimp only;omega
  ·have h2:(kz (Vb a r.cfg r.ts [] []).2.2).length=(Vb a r.cfg r.ts [] []).2.2.length:=by unfold kz;rw[List.length_map,jk,List.length_map]
   have:=hg.lt
   dsimp only;omega
 ·exact⟨(by intro s hs;cases hs),(by intro s hs;cases hs),(by intro s hs;cases hs),Nat.zero_le _,Nat.zero_le _⟩
def nP{a:ARt}(h:Of a=0):(yn a.name.data.toList 16=true∧yn a.cfg.data.toList 16=true)∧(0≤a.roll∧a.roll≤60)∧a.ts.length≤6∧∀t∈a.ts,(0≤pct t∧pct t≤100)∧t.2.1.size≤100:=by
 have hl:=ta h
 unfold Of at h
 split at h
 ·rename_i h1
  split at h
  ·rename_i h2
   split at h
   ·rename_i h3
    refine⟨h1,h2,hl,λt ht=>?_⟩
    have h4:tgE t=0:=by
     split at h
     ·rename_i x hx
      have:=List.find?_some hx
      simp only[decide_eq_true_eq]at this
      exact absurd h this
     ·rename_i hx
      have:=List.find?_eq_none.1 hx t ht
      simpa using this
    refine⟨sJ h4,?_⟩
    unfold tgE at h4
    split at h4
    ·cases h4
    ·rename_i h5
     unfold ft at h5
     by_cases e:t.2.1=s_
     ·rw[e];decide
     ·have h6:yn t.2.1.data.toList 8=true:=by simpa [e]using h5
      unfold yn at h6
      simp only[Bool.and_eq_true,decide_eq_true_eq]at h6
      have h7:(t.2.1.data.toList.length:Int)≤8:=h6.2
      have h8:t.2.1.data.toList.length=t.2.1.size:=by rw[Array.length_toList];rfl
      omega
   ·cases h
  ·cases h
 ·cases h
def rF{t:vO}{m:Nat}(hw:WBd t.sh)(zs:∀s∈t.sh,s.1.size≤100)(zg:∀s∈t.tg,s.1.size≤100∧s.2.1.size≤100)(hl:t.sh.length+t.tg.length≤m)(hm:m≤80000):z0T t:=by
 refine⟨λs hs=>⟨hw s hs,by have:=zs s hs;omega⟩,λs hs=>by have:=zg s hs;omega,?_⟩
 have h:=Pl 1200 (Uk t) (λx hx=>by
  unfold Uk at hx
  rcases List.mem_append.1 hx with hx | hx
  ·obtain⟨s,hs,rfl⟩:=List.mem_map.1 hx
   have h1:=zs s hs
   have h2:=wO (@id Int s.2.1).toNat
   have h3:=hw s hs
   have h4:Oj.size=1:=rfl
   unfold shT
   rw[ByteArray.size_append,ByteArray.size_append]
   omega
  ·obtain⟨s,hs,rfl⟩:=List.mem_map.1 hx
   have h1:=zg s hs
   have h4:Oi.size=1:=rfl
   unfold toT
   rw[ByteArray.size_append,ByteArray.size_append]
   omega)
 unfold Co
 have h2:(Uk t).length=t.sh.length+t.tg.length:=by unfold Uk;simp
 rw[h2]at h
 have:(t.sh.length+t.tg.length)*(1200+1)≤80000*1201:=Nat.mul_le_mul (by omega) (by omega)
 omega
end Go.Proofs.YtdcdhcgmeahfmaaGreatDoor
namespace Go.Proofs.YtdcdhcgmeahfmaaGreatDoor
open Go.Dm
attribute [local irreducible] L.load L.store L.chk L.new L.nonnil L.guard L.ite L.draw L.idx L.sem L.semR L.semU L.chkSem L.next L.call L.callV L.join L.alts L.loop L.begin L.endRound L.range
variable {w0 w:World}{E:List Seg}
def wg(a:zK)(e:AEv):zK×List B0:=
 if(tc a.sh e.n e.name e.draw).2≠0 then({ a with sh:=(tc a.sh e.n e.name e.draw).1 },Xd (tc a.sh e.n e.name e.draw).2)
 else({ a with sh:=(tc a.sh e.n e.name e.draw).1,ro:=if e.n=2 then kE a.ro e.name else a.ro },[Zv ar [e.name]])
def Ul(a:zK)(e:AEv):zK×List B0:=
 if(Jo a.fl e.n).2.2≠0 then({ a with fl:=(Jo a.fl e.n).1 },Xd (Jo a.fl e.n).2.2)
 else({ a with fl:=(Jo a.fl e.n).1,gt:=(oA a.gt (Jo a.fl e.n).2.1).1 },Zv tj [jo e.n.toNat]::(oA a.gt (Jo a.fl e.n).2.1).2.map Xx)
def AJ [Jp w0](h:St w0 E w)(i:Nat){b:Nat}{a:zK}{s:Seg}(hi:nth E i=some s)(hs:yN b a s){e:AEv}(he:0≤e.n∧e.n≤9000000000000000000)(hn:(Jo a.fl e.n).2.1.length<1000000)(hf:∀f∈(oA a.gt (Jo a.fl e.n).2.1).2,f.Ok)
  {k:Sl→PT} (hk:Hk w0 E i b (Ul a e) k):Qa (some ⟨b,0,none⟩) e.t (slK k) w:=by
 obtain⟨p,sg,sf,ss,sk,sr,sm,Q,R,rfl⟩:=hs
 have hfl:(oA a.gt (Jo a.fl e.n).2.1).2.length<100000000:=by
  have:=(Oo (l:=(Jo a.fl e.n).2.1) (all:=a.gt.all) (out:=[])).1
  unfold oA
  simp only[List.length_nil]at this
  dsimp only;omega
 unfold Qa
 unfold Ul at hk
 have h:=(h.front i hi).split8
 refine nw h ?_;clear h;intro b1 w h
 (dsimp only[zd,List.cons_append,List.nil_append]at h;refine dr h ?_;clear h;intro w h;refine nn ?_;refine ldC h ?_;refine ldC h ?_)
 refine Ir h 3 rfl R.fl λv1 sf' s2 w hF r1 h=>?_
 dsimp only[zd]at h
 generalize Jo a.fl e.n=g at *
 obtain⟨F,ids,no⟩:=g
 dsimp only at *
 refine it (λhc=>?_) (λhc=>?_)
 ·rw[if_pos (by simpa using hc)]at hk
  refine Xp h λv s w r h=>?_
  exact⟨v,rfl,hk v s _ w r ⟨p,sg,sf',ss,sk,sr,sm,Q,⟨R.gt,hF,R.sh,R.bk,R.ro,R.mp,R.ea,R.ab⟩,rfl⟩ (jt i hi (Yf (Yf h)))⟩
 rw[if_neg (by simpa using hc)]at hk
 refine ZU (λ(z:Sl×Unit) w=>∃sv sg',GtS p.g p.f (oA a.gt ids).1 sg'∧Rw eS zc 1 z.1 (Zv tj [jo e.n.toNat]::(oA a.gt ids).2.map Xx) sv∧
  St w0 (sv::vY b p a.now::sg'::sf'::ss::sk::sr::sm::(Q.map BsE.sg).flatten::Zx E i) w) (λk7 hk7=>?_) ?_
 ·(refine dr h ?_;clear h;intro w h;refine nn ?_;refine ldC h ?_;refine ldC h ?_)
  refine KA ?_ ?_
  ·have h:=Yv h
   refine BJ h R.gt r1 hn λv sv sg' w hr hG h=>?_
   (refine ckC h ?_)
   refine nw h ?_;clear h;intro b13 w h
   (refine ckC h ?_)
   refine qP h (by decide) he.1 (by omega) λw h=>?_
   refine nw h ?_;clear h;intro b15 w h
   refine tX h (l:=[Zv tj [jo e.n.toNat]]) hr hf hfl (by simp) (Rw.lit b15 [_] ya rfl rfl (by simp[maxLen])) λv s w r h=>?_
   refine hk7 _ w ⟨s,sg',hG,r,?_⟩
   have h:=Yf (ol (kH h))
   have h:=ZM (ZM (Yb h))
   exact h
  ·refine nw h ?_;clear h;intro b17 w h
   (refine ckC h ?_)
   have h:=Ym (Yb h)
   refine BJ h R.gt r1 hn λv sv sg' w hr hG h=>?_
   (refine ckC h ?_)
   have h:=Yv h
   refine qP h (by decide) he.1 (by omega) λw h=>?_
   refine nw h ?_;clear h;intro b20 w h
   refine tX h (l:=[Zv tj [jo e.n.toNat]]) hr hf hfl (by simp) (Rw.lit b20 [_] ya rfl rfl (by simp[maxLen])) λv s w r h=>?_
   refine hk7 _ w ⟨s,sg',hG,r,?_⟩
   have h:=Yf (ol (kH h))
   have h:=ZM (ZM (Yb h))
   exact h
 clear h
 rintro⟨z,⟨⟩⟩ w ⟨sv,sg',hG,r,h⟩
 dsimp only at r ⊢
 exact⟨z,rfl,hk z sv _ w r ⟨p,sg',sf',ss,sk,sr,sm,Q,⟨hG,hF,R.sh,R.bk,R.ro,R.mp,R.ea,R.ab⟩,rfl⟩ (jt i hi h)⟩
def mn2(a b:Int):Int:=if b<a then b else a
def mx2(a b:Int):Int:=if b>a then b else a
def js(s n c:Int):Int:=if n≤0 then 0 else if c≤0 then 0 else(s+n*c-1)/(n*c)
def CQ{s n c:Int}(hs:0≤s∧s≤1000000000000)(hn:0≤n∧n≤100)(hc:0≤c∧c≤100):0≤js s n c∧js s n c≤1000000000000:=by
 unfold js
 split
 ·exact⟨by decide,by decide⟩
 ·split
  ·exact⟨by decide,by decide⟩
  ·have h1:1≤n*c:=by have:=Int.mul_le_mul (show(1:Int)≤n by omega) (show(1:Int)≤c by omega) (by omega) (by omega);omega
   have h2:n*c≤100*100:=Int.mul_le_mul hn.2 hc.2 (by omega) (by omega)
   generalize n*c=m at *
   refine⟨Int.ediv_nonneg (by omega) (by omega),Int.ediv_le_of_le_mul (by omega) ?_⟩
   have:=Int.mul_le_mul_of_nonneg_left h1 (show(0:Int)≤1000000000000 by decide)
   omega
def Fa{s n c:Int}(hs:0≤s∧s≤1000000000000)(hn:0≤n∧n≤100)(hc:0≤c∧c≤100){k:Int→PT}(hk:k (js s n c) w):L.call Pr XD [I s,I n,I c] (.one (.one (.int .i64))) k w:=by
 refine za (Wq s n c) ?_
 unfold PF
 unfold js at hk
 refine it (λh1=>?_) (λh1=>?_)<;>(try simp only[zB]at h1)
 ·rw[if_pos h1]at hk;exact⟨_,rfl,hk⟩
 ·rw[if_neg h1]at hk
  refine it (λh2=>?_) (λh2=>?_)<;>(try simp only[zB]at h2)
  ·rw[if_pos h2]at hk;exact⟨_,rfl,hk⟩
  ·rw[if_neg h2]at hk
   have h3:1≤n*c:=by have:=Int.mul_le_mul (show(1:Int)≤n by omega) (show(1:Int)≤c by omega) (by omega) (by omega);omega
   have h4:n*c≤100*100:=Int.mul_le_mul hn.2 hc.2 (by omega) (by omega)
   have e1:Wi (n*c)=n*c:=wr (by omega) (by omega)
   rw[e1]
   generalize n*c=m at *
   have e2:Wi (s+m)=s+m:=wr (by omega) (by omega)
   have e3:Wi (s+m-1)=s+m-1:=wr (by omega) (by omega)
   rw[e2,e3]
   refine gd (by omega) ⟨_,rfl,?_⟩
   have e4:Int.tdiv (s+m-1) m=(s+m-1)/m:=Int.tdiv_eq_ediv_of_nonneg (by omega)
   have e5:(s+m-1)/m≤2000000000000:=Int.ediv_le_of_le_mul (by omega) (by
    have:=Int.mul_le_mul_of_nonneg_left h3 (show(0:Int)≤2000000000000 by decide)
    omega)
   have e6:0≤(s+m-1)/m:=Int.ediv_nonneg (by omega) (by omega)
   rw[e4,wr (by omega) (by omega)]
   exact hk
abbrev scM(ready:Int):Int:=if ready>1 then ready else 1
def vi(left b m:Int):Int:=if b≥2*m then 6 else if 0>left-1 then 0 else left-1
def WR(want left' a b:Int):Int:=if left'>0 then mx2 (mx2 want a) b else a
def al(w1 want busy idle grace:Int):Int:=if w1=0∧(busy>0∨(want>0∧idle<grace))then 1 else w1
def TO(w2 ready mi ma:Int):Int:=mn2 (mx2 (mx2 (mn2 w2 (4*scM ready)) (ready/2)) mi) ma
def TP(want left:Int)(c:Cfg)(ready busy st sts sh shs idle:Int):Int×Int:=
 (TO (al (WR want (vi left (js sh shs c.2.2.1) (scM ready)) (js st sts c.2.2.1) (js sh shs c.2.2.1)) want busy idle c.2.2.2.2.2.1) ready c.2.2.2.1 c.2.2.2.2.1,vi left (js sh shs c.2.2.1) (scM ready))
def NP(h:St w0 E w){want left b m:Int}(hl:0≤left∧left≤1000)(hm:0≤m∧m≤1000000){k:Int→PT}(hk:∀w',St w0 E w'→k (vi left b m) w'):L.call Pr xn [.agg #[I want,I left],I b,I m] (.one (.one (.int .i64))) k w:=by
 refine za (fb (want,left,()) b m) ?_
 unfold UZ
 unfold vi at hk
 have e1:Wi (2*m)=2*m:=wr (by omega) (by omega)
 have e2:Wi (left-1)=left-1:=wr (by omega) (by omega)
 dsimp only
 rw[e1]
 refine nw h ?_;clear h;intro b1 w h
 refine it (λh1=>?_) (λh1=>?_)<;>(try simp only[zB]at h1)
 ·rw[if_pos h1]at hk;exact⟨_,rfl,hk w (zl h)⟩
 ·rw[if_neg h1]at hk
  (refine ldC h ?_)
  rw[e2]
  exact⟨_,rfl,hk w (zl h)⟩
def EN(h:St w0 E w){want left a b:Int}{k:Int→PT}(hk:∀w',St w0 E w'→k (mx2 (mx2 want a) b) w'):L.call Pr ut [.agg #[I want,I left],.agg #[I a,I b]] (.one (.one (.int .i64))) k w:=by
 refine za (pc (want,left,()) (a,b,())) ?_
 unfold KH
 refine nw h ?_;clear h;intro b1 w h
 refine nw h ?_;clear h;intro b2 w h
 (dsimp only[zd,List.cons_append,List.nil_append]at h;refine ldC h ?_)
 refine ix (by decide) (by decide) ?_
 (refine ldC h ?_)
 refine ix (by decide) (by decide) ?_
 (refine ldC h ?_)
 exact⟨_,rfl,hk w (zl (zl h))⟩
def be(h:St w0 E w){c:Cfg}{ready m:Int}(hr:0≤ready∧ready≤1000000)(hm:0≤m∧m≤1000000){k:HT [.int .i64,.int .i64,.int .i64,.int .i64]→PT}(hk:∀w',St w0 E w'→k (4*m,ready/2,c.2.2.2.1,c.2.2.2.2.1,()) w') :
  L.call Pr Kh [.agg (Cfg.cells c).toArray,I ready,I m] (.one (.agg [.int .i64,.int .i64,.int .i64,.int .i64])) k w:=by
 refine za (DB c ready m) ?_
 unfold Fe
 have e1:Wi (4*m)=4*m:=wr (by omega) (by omega)
 have e2:Int.tdiv ready 2=ready/2:=Int.tdiv_eq_ediv_of_nonneg hr.1
 have e3:Wi (ready/2)=ready/2:=wr (by omega) (by omega)
 rw[e1,e2,e3]
 refine nw h ?_;clear h;intro b1 w h
 refine nw h ?_;clear h;intro b2 w h
 refine gd (by decide) ?_
 (refine ldC h ?_;refine ldC h ?_;refine stC h ?_;clear h;intro w h;dsimp only[zP,zd]at h;refine laC h ?_)
 exact⟨(4*m,ready/2,c.2.2.2.1,c.2.2.2.2.1,()),rfl,hk w (zl (zl h))⟩
abbrev iB(b:Nat)(c:Cfg):Seg:=[Cl b zx (Cfg.cells c)]
def bb(h:St w0 E w){want left:Int}{c:Cfg}{ready busy st sts sh shs idle:Int}(hw:0≤want∧want≤1000)(hl:0≤left∧left≤1000)(hc:0≤@id Int c.2.2.1∧@id Int c.2.2.1≤100)(hr:0≤ready∧ready≤1000000)
  (h1:0≤st∧st≤1000000000000) (h2:0≤sts∧sts≤100) (h3:0≤sh∧sh≤1000000000000) (h4:0≤shs∧shs≤100) {k:HT [.int .i64,.int .i64]→PT} (hk:∀w',St w0 E w'→k ((TP want left c ready busy st sts sh shs idle).1,(TP want left c ready busy st sts sh shs idle).2,()) w') :
  L.call Pr Ki [.agg #[I want,I left],.agg (Cfg.cells c).toArray,I ready,I busy,I st,I sts,I sh,I shs,I idle] (.one (.agg [.int .i64,.int .i64])) k w:=by
 refine za (DC (want,left,()) c ready busy st sts sh shs idle) ?_
 unfold Ff
 have hm:0≤scM ready∧scM ready≤1000000:=by unfold scM;split<;>omega
 obtain⟨c1,c2,c3,c4,c5,c6,⟨⟩⟩:=c
 unfold TP at hk
 have ea:=CQ h1 h2 hc
 have eb:=CQ h3 h4 hc
 change 0≤js st sts c3∧js st sts c3≤1000000000000 at ea
 change 0≤js sh shs c3∧js sh shs c3≤1000000000000 at eb
 change 0≤c3∧c3≤100 at hc
 dsimp only at hk ⊢
 change ∀w',St w0 E w'→k (TO (al (WR want (vi left (js sh shs c3) (scM ready)) (js st sts c3) (js sh shs c3)) want busy idle c6) ready c4 c5,vi left (js sh shs c3) (scM ready),()) w' at hk
 refine nw h ?_;clear h;intro b1 w h
 refine nw h ?_;clear h;intro b2 w h
 refine nw h ?_;clear h;intro b3 w h
 refine ZU (λ(z:Addr×Unit) w=>∃b,z=(⟨b,0,none⟩,())∧St w0 ([Cl b oC [I (js st sts c3),I (js sh shs c3)]]::[Cl b3 ZW [I 0,I 0]]::iB b2 (c1,c2,c3,c4,c5,c6,())::[Cl b1 ZW [I want,I left]]::E) w) (λk4 hk4=>?_) ?_
 ·(refine dr h ?_;clear h;intro w h;refine ldC h ?_;refine ldC h ?_)
  refine KA ?_ ?_
  ·refine Fa h1 h2 hc ?_
   (refine ckC h ?_)
   refine KA ?_ ?_
   ·refine Fa h3 h4 hc ?_
    refine nw h ?_;clear h;intro b w h
    (refine ckC h ?_;refine ckC h ?_;refine stC h ?_;clear h;intro w h;dsimp only[zP,zd]at h)
    exact hk4 _ w ⟨b,rfl,h⟩
   ·refine nw h ?_;clear h;intro b w h
    (refine ckC h ?_;refine ckC h ?_)
    refine Fa h3 h4 hc ?_
    (refine stC h ?_;clear h;intro w h;dsimp only[zP,zd]at h)
    exact hk4 _ w ⟨b,rfl,h⟩
  ·refine nw h ?_;clear h;intro b w h
   (refine ckC h ?_;refine ckC h ?_)
   refine Fa h1 h2 hc ?_
   (refine ckC h ?_)
   refine Fa h3 h4 hc ?_
   (refine stC h ?_;clear h;intro w h;dsimp only[zP,zd]at h)
   exact hk4 _ w ⟨b,rfl,h⟩
 generalize js st sts c3=A at *
 generalize js sh shs c3=B at *
 clear h
 rintro z w ⟨b4,rfl,h⟩
 (try dsimp only)
 refine ZU (λ(z:Addr×Unit) w=>∃b,z=(⟨b,0,none⟩,())∧St w0 ([Cl b ZW [I A,I (vi left B (scM ready))]]::[Cl b4 oC [I A,I B]]::[Cl b3 ZW [I 0,I 0]]::iB b2 (c1,c2,c3,c4,c5,c6,())::[Cl b1 ZW [I want,I left]]::E) w) (λk4 hk4=>?_) ?_
 ·(refine dr h ?_;clear h;intro w h)
  refine ix (by decide) (by decide) ?_
  (refine ldC h ?_;refine laC h ?_)
  refine ix (by decide) (by decide) ?_
  (refine ldC h ?_)
  refine KA ?_ ?_
  ·refine NP h hl hm λw h=>?_
   (refine ckC h ?_)
   refine nw h ?_;clear h;intro b w h
   (refine ckC h ?_;refine ckC h ?_;refine ckC h ?_;refine stC h ?_;clear h;intro w h;dsimp only[zP,zd]at h)
   exact hk4 _ w ⟨b,rfl,h⟩
  ·refine nw h ?_;clear h;intro b w h
   (refine ckC h ?_;refine ckC h ?_;refine ckC h ?_)
   refine NP h hl hm λw h=>?_
   (refine ckC h ?_;refine stC h ?_;clear h;intro w h;dsimp only[zP,zd]at h)
   exact hk4 _ w ⟨b,rfl,h⟩
 generalize vi left B (scM ready)=L1 at *
 clear h
 rintro z w ⟨b5,rfl,h⟩
 (try dsimp only)
 refine ZU (λ(_:Unit) w=>St w0 ([Cl b5 ZW [I (WR want L1 A B),I L1]]::[Cl b4 oC [I A,I B]]::[Cl b3 ZW [I 0,I 0]]::iB b2 (c1,c2,c3,c4,c5,c6,())::[Cl b1 ZW [I want,I left]]::E) w) (λk4 hk4=>?_) ?_
 ·(refine ldC h ?_)
  unfold WR at hk4
  refine it (λhc1=>?_) (λhc1=>?_)<;>(try simp only[zB]at hc1)
  ·rw[if_pos hc1]at hk4
   (refine laC h ?_;refine laC h ?_)
   refine EN h λw h=>?_
   (refine stC h ?_;clear h;intro w h;dsimp only[zP,zd]at h)
   exact hk4 _ w h
  ·rw[if_neg hc1]at hk4
   exact hk4 _ w h
 generalize WR want L1 A B=W1 at *
 clear h
 rintro _ w h
 (try dsimp only)
 refine ZU (λ(_:Unit) w=>St w0 ([Cl b5 ZW [I (al W1 want busy idle c6),I L1]]::[Cl b4 oC [I A,I B]]::[Cl b3 ZW [I 0,I 0]]::iB b2 (c1,c2,c3,c4,c5,c6,())::[Cl b1 ZW [I want,I left]]::E) w) (λk4 hk4=>?_) ?_
 ·(refine ldC h ?_)
  unfold al at hk4
  refine it (λd1=>?_) (λd1=>?_)<;>(try simp only[zB]at d1)
  ·subst d1
   refine it (λd2=>?_) (λd2=>?_)<;>(try simp only[zB]at d2)
   ·rw[if_pos ⟨rfl,.inl d2⟩]at hk4
    (refine stC h ?_;clear h;intro w h;dsimp only[zP,zd]at h)
    exact hk4 _ w h
   ·(refine ldC h ?_)
    refine it (λd3=>?_) (λd3=>?_)<;>(try simp only[zB]at d3)
    ·(refine ldC h ?_)
     refine it (λd4=>?_) (λd4=>?_)<;>(try simp only[zB]at d4)
     ·rw[if_pos ⟨rfl,.inr ⟨d3,d4⟩⟩]at hk4
      (refine stC h ?_;clear h;intro w h;dsimp only[zP,zd]at h)
      exact hk4 _ w h
     ·rw[if_neg (by omega)]at hk4
      exact hk4 _ w h
    ·rw[if_neg (by omega)]at hk4
     exact hk4 _ w h
  ·rw[if_neg (λhh=>d1 hh.1)]at hk4
   exact hk4 _ w h
 generalize al W1 want busy idle c6=W2 at *
 clear h
 rintro _ w h
 (try dsimp only)
 (refine laC h ?_)
 refine be (c:=(c1,c2,c3,c4,c5,c6,())) h hr hm λw h=>?_
 refine nw h ?_;clear h;intro b40 w h
 (refine stC h ?_;clear h;intro w h;dsimp only[zP,zd]at h;refine ldC h ?_)
 refine ix (by decide) (by decide) ?_
 (refine ldC h ?_)
 refine ix (by decide) (by decide) ?_
 (refine ldC h ?_)
 refine ix (by decide) (by decide) ?_
 (refine ldC h ?_)
 refine ix (by decide) (by decide) ?_
 (refine ldC h ?_;refine stC h ?_;clear h;intro w h;dsimp only[zP,zd]at h;refine laC h ?_;refine stC h ?_;clear h;intro w h;dsimp only[zP,zd]at h;refine laC h ?_)
 exact⟨(_,_,()),rfl,hk w (zl (zl (zl (zl (zl (zl h))))))⟩
def lZ{m:Int}:∀{l:List Int},(∀y∈l,0≤y∧y≤m)→0≤oj l∧oj l≤l.length*m
 | [],_=>⟨Int.le_refl 0,by simp[oj]⟩
 | x::l,h=>by
  have a:=lZ (l:=l) λy hy=>h y (by simp[hy])
  have b:=h x (by simp)
  unfold oj
  have e:((x::l).length:Int)*m=l.length*m+m:=by rw[List.length_cons,Int.natCast_add,Int.add_mul];simp
  rw[e]
  omega
def Nj{xs:List Int}(h:∀y∈xs,0≤y∧y≤100000000){m:Nat}(hm:m≤60):0≤QD xs m∧QD xs m≤6000000000:=by
 have a:=lZ (m:=100000000) (l:=xs.reverse.take m) λy hy=>h y (by have:=List.mem_of_mem_take hy;simpa using this)
 have b:(xs.reverse.take m).length≤m:=by rw[List.length_take];omega
 unfold QD
 omega
def Pk(xs:List Int)(p:Int):Kq xs p≤60:=by unfold Kq;omega
def Kc(a:zK)(x:Oa)(rev:B0):Int×Int:=
 TP x.want x.left (XX a.bk rev).2.2 (cnt (λs=>s == 2) (jL a.fl.l rev)) (uW a.gt rev) (QD x.xs (Kq x.xs 6)) (Kq x.xs 6) (QD x.xs (Kq x.xs 2)) (Kq x.xs 2) (tz x.xs)
def QS(a:zK)(e:AEv):zK×List B0:=
 if jA a.bk e.name=false then(a,Xd 6)else match zm a.by' e.name with
 | none=>(a,[])
 | some x=>({ a with by':=zX a.by' e.name ⟨x.xs,(Kc a x e.name).1,(Kc a x e.name).2⟩ },[Zv (Zv jY [e.name]) [jo (Kc a x e.name).1.toNat]])
def RY [Jp w0](h:St w0 E w)(i:Nat){b:Nat}{a:zK}{s:Seg}(hi:nth E i=some s)(hs:yN b a s){e:AEv}(hname:e.name.size≤100000)(hby:jA a.bk e.name=true→(zm a.by' e.name).isSome=true)
  (hx:∀x,zm a.by' e.name=some x→((0≤x.want∧x.want≤1000)∧(0≤x.left∧x.left≤1000)∧(∀y∈x.xs,0≤y∧y≤100000000)∧x.xs.length<1000000000)∧0≤(Kc a x e.name).1∧(Kc a x e.name).1≤1000)
  (hc:jA a.bk e.name=true→0≤@id Int (XX a.bk e.name).2.2.2.2.1∧@id Int (XX a.bk e.name).2.2.2.2.1≤100) (hpn:(jL a.fl.l e.name).length<1000000) {k:Sl→PT} (hk:Hk w0 E i b (QS a e) k) :
  qo (some ⟨b,0,none⟩) e.t (slK k) w:=by
 have hs0:=hs
 obtain⟨p,sg,sf,ss,sk,sr,sm,Q,R,rfl⟩:=hs
 unfold qo
 unfold QS at hk
 have h:=(h.front i hi).split8
 refine nw h ?_;clear h;intro b1 w h
 refine ZU (λ(z:Addr×Bool×Unit) w=>∃b8:Nat,z=(⟨b8,0,none⟩,jA a.bk e.name,())∧
  St w0 ([Cl b8 zU (rvC (XX a.bk e.name))]::[Cl b1 zC (eEw e)]::vY b p a.now::sg::sf::ss::sk::sr::sm::(Q.map BsE.sg).flatten::Zx E i) w) (λk2 hk2=>?_) ?_
 ·(dsimp only[zd,List.cons_append,List.nil_append]at h;refine dr h ?_;clear h;intro w h;refine nn ?_;refine ldC h ?_;refine ldC h ?_)
  refine KA ?_ ?_
  ·refine gU h 5 rfl R.bk λw h=>?_
   refine nw h ?_;clear h;intro b8 w h
   (refine ckC h ?_;refine ckC h ?_;refine stC h ?_;clear h;intro w h;dsimp only[zP,zd]at h)
   exact hk2 _ w ⟨b8,rfl,h⟩
  ·refine nw h ?_;clear h;intro b8 w h
   (refine ckC h ?_;refine ckC h ?_)
   refine gU h 6 rfl R.bk λw h=>?_
   (refine stC h ?_;clear h;intro w h;dsimp only[zP,zd]at h)
   exact hk2 _ w ⟨b8,rfl,h⟩
 clear h
 rintro z w ⟨b8,rfl,h⟩
 (try dsimp only)
 refine it (λhc1=>?_) (λhc1=>?_)
 ·have hc1:jA a.bk e.name=false:=by simpa using hc1
  rw[if_pos hc1]at hk
  refine Xp h λv s w r h=>?_
  exact⟨v,rfl,hk v s _ w r hs0 (jt i hi (Yf (Yf h)))⟩
 have hc1:jA a.bk e.name=true:=by simpa using hc1
 rw[if_neg (by simp[hc1])]at hk
 obtain⟨x,hgx⟩:=Option.isSome_iff_exists.1 (hby hc1)
 obtain⟨⟨hw,hl,hy,hln⟩,hd⟩:=hx x hgx
 have hc:=hc hc1
 rw[hgx]at hk
 dsimp only at hk
 clear hby hx
 have hqx:∃q,uU BsE.k Q e.name=some q∧q.x=x:=by
  rw[R.ab,MV]at hgx
  cases hf:uU BsE.k Q e.name with
  | none=>rw[hf]at hgx;cases hgx
  | some q=>rw[hf]at hgx;exact⟨q,rfl,by simpa using hgx⟩
 obtain⟨q,hfx,rfl⟩:=hqx
 have hmk:=R.mp.nd
 (refine dr h ?_;clear h;intro w h;refine nn ?_;refine ldC h ?_;refine ldC h ?_)
 have hlk:((zm (Q.map BsE.kp) e.name).map λx:Option Addr=>x).getD none=some ⟨q.b,0,none⟩:=by rw[MU,hfx];rfl
 refine MpS.get UA PW sj (λx:Option Addr=>x) (λ_=>rfl) h 8 rfl R.mp ?_
 rw[hlk]
 have ea:=R.ea
 have hab:=R.ab
 have hmp:=R.mp
 obtain⟨A,B,eQ,hxk⟩:=Kp hfx
 (refine ldC h ?_)
 refine De h (i:=2) (j:=4) rfl rfl R.fl (fv:=⟨.func Ja,#[],#[]⟩) (q:=λs=>s == 2) hpn (λ{E' w x k} h hk=>?_) λw h=>?_
 ·refine jz (fs:=#[]) (cs:=#[]) OS (OU x) ?_
  unfold uZ
  exact⟨_,rfl,hk w h⟩
 have hcn:0≤cnt (λs=>s == 2) (jL a.fl.l e.name)∧cnt (λs=>s == 2) (jL a.fl.l e.name)≤1000000:=by
  unfold cnt
  have:=List.length_filter_le (λx:Int×Int×Int=>(λs=>s == 2) x.2.1) (jL a.fl.l e.name)
  refine⟨Int.natCast_nonneg _,?_⟩
  have h2:((jL a.fl.l e.name).filter λx:Int×Int×Int=>(λs=>s == 2) x.2.1).length≤1000000:=by omega
  exact Int.ofNat_le.2 h2
 have hdd:(Kc a q.x e.name)=TP q.x.want q.x.left (XX a.bk e.name).2.2 (cnt (λs=>s == 2) (jL a.fl.l e.name)) (uW a.gt e.name) (QD q.x.xs (Kq q.x.xs 6)) (Kq q.x.xs 6) (QD q.x.xs (Kq q.x.xs 2)) (Kq q.x.xs 2) (tz q.x.xs):=rfl
 subst eQ
 have h:=UQ h
 have h:=h.pick.split
 have hox:=ea q (by simp)
 have hr6:=Nj hy (Pk q.x.xs 6)
 have hr2:=Nj hy (Pk q.x.xs 2)
 have hn6:=Pk q.x.xs 6
 have hn2:=Pk q.x.xs 2
 (refine nn ?_;refine ldC h ?_)
 refine LQ h 1 rfl hox (by omega) λw h=>?_
 rw[wr (by omega) (by omega)]
 (refine nn ?_;refine ldC h ?_)
 refine LQ h 1 rfl hox (by omega) λw h=>?_
 rw[wr (by omega) (by omega)]
 (refine dr h ?_;clear h;intro w h;refine nn ?_;refine laC h ?_;refine laC h ?_;refine nn ?_;refine ldC h ?_;refine ldC h ?_;refine nn ?_;refine ldC h ?_)
 have h:=JA h
 refine BK h R.gt λsg' w hG h=>?_
 (refine ckC h ?_;refine ckC h ?_;refine ckC h ?_)
 refine ET h 2 rfl hox ?_
 (refine ckC h ?_;refine ckC h ?_)
 have hbu:((Vi a.gt e.name).length:Int)+(jy a.gt.all e.name).length=uW a.gt e.name:=rfl
 rw[hbu]
 refine bb (c:=(XX a.bk e.name).2.2) h hw hl hc hcn (by dsimp only;omega) (by dsimp only;omega) (by dsimp only;omega) (by dsimp only;omega) λw h=>?_
 rw[←hdd]
 clear hdd
 generalize Kc a q.x e.name=d at *
 obtain⟨d1,d2⟩:=d
 dsimp only at hd hk ⊢
 (refine nn ?_;refine stC h ?_;clear h;intro w h;dsimp only[zP,zd]at h)
 refine ZU (λ(z:Sl×Unit) w=>∃sv,Rw eS zc 1 z.1 [Zv (Zv jY [e.name]) [jo d1.toNat]] sv∧
  St w0 (sv::[Cl q.b XY [.pointer (some ⟨q.g,0,none⟩),I d1,I d2]]::q.sgg::((A++B).map BsE.sg).flatten::vY b p a.now::sg'::sf::ss::sk::sr::sm::Zx E i) w) (λk7 hk7=>?_) ?_
 ·have fin:∀{w b2},St w0 ([Cl b2 zc [.string (Zv (Zv jY [e.name]) [jo d1.toNat])]]::sg'::[Cl q.b XY [.pointer (some ⟨q.g,0,none⟩),I d1,I d2]]::q.sgg::((A++B).map BsE.sg).flatten::[Cl b8 zU (rvC (XX a.bk e.name))]::[Cl b1 zC (eEw e)]::vY b p a.now::sf::ss::sk::sr::sm::Zx E i) w→k7 (⟨some ⟨b2,0,none⟩,1,1⟩,()) w:=by
   intro w b2 h
   refine hk7 _ w ⟨_,Rw.lit b2 [_] ya rfl rfl (by simp[maxLen]),?_⟩
   have h:=tR (dY h)
   have h:=Jn (Jn (Jn (Jn (Jn (Yb h)))))
   exact h
  have sz:(Zv jY [e.name]).size≤100000000:=by rw[vA];have:jY.size=5:=rfl;omega
  (refine dr h ?_;clear h;intro w h;refine ldC h ?_;refine nn ?_;refine ldC h ?_;rw[JB])
  refine KA ?_ ?_
  ·refine nw h ?_;clear h;intro b41 w h
   (refine ckC h ?_)
   refine KA ?_ ?_
   ·refine uC h (by decide) (by omega) λw h=>?_
    (refine ckC h ?_)
    refine nw h ?_;clear h;intro b43 w h
    (refine ckC h ?_)
    refine qP h sz hd.1 (by omega) λw h=>?_
    refine nw h ?_;clear h;intro b45 w h
    exact fin h
   ·refine nw h ?_;clear h;intro b46 w h
    (refine ckC h ?_)
    have h:=Yb h
    refine uC h (by decide) (by omega) λw h=>?_
    (refine ckC h ?_)
    refine qP h sz hd.1 (by omega) λw h=>?_
    refine nw h ?_;clear h;intro b49 w h
    exact fin h
  ·refine nw h ?_;clear h;intro b50 w h
   (refine ckC h ?_)
   refine nw h ?_;clear h;intro b51 w h
   (refine ckC h ?_)
   refine uC h (by decide) (by omega) λw h=>?_
   (refine ckC h ?_)
   refine qP h sz hd.1 (by omega) λw h=>?_
   refine nw h ?_;clear h;intro b54 w h
   exact fin h
 clear h
 rintro⟨z,⟨⟩⟩ w ⟨sv,r,h⟩
 dsimp only at r ⊢
 have et2:=Pv (rev:=e.name) (y:=⟨q.x.xs,d1,d2⟩) (sgg:=q.sgg) hxk (B:=B) (A:=A) (by simpa [List.map_map,Function.comp_def]using hmk)
 refine⟨z,rfl,hk z sv (z2q b { a with by':=zX a.by' e.name ⟨q.x.xs,d1,d2⟩ } p sg' sf ss sk sr sm (A++⟨q.k,q.b,q.g,⟨q.x.xs,d1,d2⟩,q.sgg⟩::B)) w r ⟨p,sg',sf,ss,sk,sr,sm,A++⟨q.k,q.b,q.g,⟨q.x.xs,d1,d2⟩,q.sgg⟩::B,⟨hG,R.fl,R.sh,R.bk,R.ro,?_,?_,?_⟩,rfl⟩ (jt i hi ?_)⟩
 ·have:(A++(⟨q.k,q.b,q.g,⟨q.x.xs,d1,d2⟩,q.sgg⟩:BsE)::B).map BsE.kp=(A++q::B).map BsE.kp:=by simp
  rw[this];exact hmp
 ·intro y hy
  rcases List.mem_append.1 hy with hy | hy
  ·exact ea y (by simp[hy])
  ·rcases List.mem_cons.1 hy with rfl | hy
   ·exact hox
   ·exact ea y (by simp[hy])
 ·rw[et2]
  show zX a.by' e.name _=_
  rw[hab]
 ·have h:=ZM (ZM h)
  have h:=h.glue
  have h:=Yb (ZM h)
  have h:St w0 (BsE.sg ⟨q.k,q.b,q.g,⟨q.x.xs,d1,d2⟩,q.sgg⟩::((A++B).map BsE.sg).flatten::sv::vY b p a.now::sg'::sf::ss::sk::sr::sm::Zx E i) w:=h
  have h:=h.place
  have h:=Jk (Jk (Jk (Jk (Jk (Jk (Jk (Jk h)))))))
  exact h
end Go.Proofs.YtdcdhcgmeahfmaaGreatDoor
namespace Go.Proofs.YtdcdhcgmeahfmaaGreatDoor
open Go.Dm
structure yI(k:Nat)(a:zK):Prop where
 fl:FlI k a.fl
 gt:GtI k a.gt
 sh:ShI k a.sh
 bk:BkI k a.bk
 ro:RoI k a.ro
 by':ByI k a.bk a.by'
 now:0≤a.now∧a.now≤1048576
structure SOk(a:zK):Prop where
 fl:a.fl.Ok
 gt:a.gt.Ok
 sh:a.sh.Ok
 bk:a.bk.Ok
 ro:(a.ro.map (·.1)).Nodup
 nd:(a.bk.all.map (·.1)).Nodup
def yN.ok{b:Nat}{a:zK}{s:Seg}(h:yN b a s):SOk a:=by
 obtain⟨p,sg,sf,ss,sk,sr,sm,Q,R,-⟩:=h
 refine⟨R.fl.1,R.gt.1,R.sh.1,R.bk.1,?_,?_⟩
 ·obtain⟨r,sm,P,Q,hm,-,e,-⟩:=R.ro
  rw[e]
  have:=hm.nd
  simpa [List.map_map,Function.comp_def]using this
 ·obtain⟨-,rA,rP,sA,sP,hA,-⟩:=R.bk
  exact hA.nd
def yI.mono{k m:Nat}{a:zK}(h:yI k a)(hm:k≤m):yI m a:=⟨h.fl.mono hm,h.gt.mono hm,h.sh.mono hm,h.bk.mono hm,λn x hx=>(h.ro n x hx).mono hm,h.by'.mono hm,h.now⟩
def HN{room line pat:Int}(h:de room line pat=true)(hr:room≤30):yI 0 (vq room line pat):=by
 unfold de wiB at h
 simp only[Bool.and_eq_true,decide_eq_true_eq]at h
 obtain⟨⟨r1,r2⟩,⟨l1,l2⟩,p1,p2⟩:=h
 refine⟨⟨⟨hr,?_,?_⟩,r1,Int.le_refl 0,?_,?_⟩,⟨Nat.le_refl _,?_,Nat.le_refl _,?_,?_,⟨p1,by show pat≤1000;omega⟩,l1,l2⟩,⟨Int.le_refl 0,?_,?_,?_⟩,⟨Nat.le_refl _,?_,?_⟩,?_,⟨?_,?_,?_,?_⟩,Int.le_refl 0,by show(0:Int)≤1048576;decide⟩
 ·show((0:Nat):Int)≤max room 0;omega
 all_goals first | (intro x hx;cases hx;done) | skip
 intro n x h;cases h
def zG(a:zK)(e:AEv):zK×List B0:=
 if Zy e≠0 then(a,[Zv bZ [Lx (Zy e)]])
 else if e.kind=1 then ve a e else if e.kind=2 then Oc a e else if e.kind=3 then wg a e else if e.kind=4 then YN a e else if e.kind=5 then vP a e else if e.kind=6 then fu a e
 else if e.kind=9 then xZ a else if e.kind=10 then vX a e else if e.kind=11 then oq a e else if e.kind=12 then QS a e else if e.kind=13 then qt a e else Ul a e
def LF{e:AEv}(h:Zy e=0):(shp e.kind).2=true∧wQ (shp e.kind).1 e=0:=by
 unfold Zy at h
 split at h
 ·cases h
 ·rename_i h1;exact⟨by simpa using h1,h⟩
def Ox{e:AEv}(h:Zy e=0):((shp e.kind).1.1=true→Pd e=true)∧((shp e.kind).1.2.1=true→fH e=true)∧((shp e.kind).1.2.2.2.1=true→wiB e.draw 0 2147483647=true)∧((shp e.kind).1.2.2.2.2.1=true→Xw e.c=0)∧((shp e.kind).1.2.2.2.2.2.1=true→(shp e.kind).1.2.2.2.2.1=false→Of e.r=0):=by
 have h:=(LF h).2
 generalize (shp e.kind).1=s at h ⊢
 obtain⟨s1,s2,s3,s4,s5,s6,⟨⟩⟩:=s
 unfold wQ at h
 dsimp only at h ⊢
 split at h
 ·cases h
 ·split at h
  ·cases h
  ·rename_i h1
   split at h
   ·cases h
   ·rename_i h2
    split at h
    ·cases h
    ·split at h
     ·cases h
     ·rename_i h3
      refine⟨λe1=>?_,λe1=>?_,λe1=>?_,λe1=>?_,λe1 e2=>?_⟩
      ·cases hn:Pd e with
       | true=>rfl
       | false=>exact absurd ⟨e1,hn⟩ h1
      ·cases hn:fH e with
       | true=>rfl
       | false=>exact absurd ⟨e1,hn⟩ h2
      ·cases hn:wiB e.draw 0 2147483647 with
       | true=>rfl
       | false=>exact absurd ⟨e1,hn⟩ h3
      ·rw[if_pos e1]at h;exact h
      ·rw[if_neg (by simp[e2]),if_pos e1]at h;exact h
def Ry{e:AEv}(h:Zy e=0):e.kind=1∨e.kind=2∨e.kind=3∨e.kind=4∨e.kind=5∨e.kind=6∨e.kind=7∨e.kind=8∨e.kind=9∨e.kind=10∨e.kind=11∨e.kind=12∨e.kind=13:=by
 have h:=(LF h).1
 unfold shp at h
 repeat' (split at h)
 all_goals first | omega | (cases h;done)
def tU{e:AEv}(h:Zy e=0)(hk:e.kind=4∨e.kind=5∨e.kind=6∨e.kind=7∨e.kind=8):idB e.n∧1≤e.n:=by
 have h1:=(Ox h).1 (by rcases hk with e | e | e | e | e<;>rw[e]<;>rfl)
 unfold Pd wiB at h1
 rw[if_neg (by omega),if_neg (by omega)]at h1
 simp only[Bool.and_eq_true,decide_eq_true_eq]at h1
 exact⟨⟨by omega,h1.2⟩,h1.1⟩
def Eu{e:AEv}(h:Zy e=0)(hk:e.kind=3∨e.kind=4∨e.kind=10∨e.kind=11):((e.name.size:Nat):Int)≤16:=by
 have h1:=(Ox h).2.1 (by rcases hk with e | e | e | e<;>rw[e]<;>rfl)
 unfold fH at h1
 rw[if_neg (by omega)]at h1
 exact vh h1
def Ev{e:AEv}(h:Zy e=0)(hk:e.kind=4):0≤e.draw∧e.draw≤2147483647:=by
 have h1:=(Ox h).2.2.1 (by rw[hk];rfl)
 unfold wiB at h1
 simpa using h1
def z2S{e:AEv}(h:Zy e=0)(hk:e.kind=1):Xw e.c=0:=(Ox h).2.2.2.1 (by rw[hk];rfl)
def z2R{e:AEv}(h:Zy e=0)(hk:e.kind=2):Of e.r=0:=(Ox h).2.2.2.2 (by rw[hk];rfl) (by rw[hk];rfl)
def Rz{k:Nat}{a:zK}(ok:SOk a)(h:yI k a)(e:AEv):yI (k+1) (ve a e).1:=
 ⟨h.fl.mono (Nat.le_succ k),h.gt.mono (Nat.le_succ k),ah ok.sh h.sh e.c e.n,h.bk.mono (Nat.le_succ k),λn x hx=>(h.ro n x hx).mono (Nat.le_succ k),h.by'.mono (Nat.le_succ k),h.now⟩
def aU{k:Nat}{a:zK}(h:yI k a)(e:AEv):yI (k+1) (Oc a e).1:=
 ⟨h.fl.mono (Nat.le_succ k),h.gt.mono (Nat.le_succ k),rN h.sh e.r e.n,h.bk.mono (Nat.le_succ k),λn x hx=>(h.ro n x hx).mono (Nat.le_succ k),h.by'.mono (Nat.le_succ k),h.now⟩
def RA{k:Nat}{a:zK}(ok:SOk a)(h:yI k a){e:AEv}(he:idB e.n):yI (k+1) (YN a e).1:=by
 have hg:=eN ok.gt h.fl h.gt he (bnd a e) a.now
 have h1:yI (k+1) { a with fl:=(arG a e).1,gt:=(arG a e).2.1 }:=⟨hg.1.mono (Nat.le_succ k),hg.2,h.sh.mono (Nat.le_succ k),h.bk.mono (Nat.le_succ k),λn x hx=>(h.ro n x hx).mono (Nat.le_succ k),h.by'.mono (Nat.le_succ k),h.now⟩
 unfold YN
 split
 ·rename_i x hx
  have hm:(bnd a e,x)∈a.by':=by
   unfold SA at hx
   split at hx
   ·rename_i y hy
    split at hx
    ·cases hx;exact yK hy
    ·cases hx
   ·cases hx
  refine⟨h1.fl,h1.gt,h1.sh,h1.bk,h1.ro,?_,h1.now⟩
  exact h1.by'.set (h1.by'.xs _ hm) (h1.by'.rng _ hm) ⟨⟨by show(0:Int)≤1;decide,by show(1:Int)≤10;decide⟩,(h1.by'.want _ hm).2⟩
 ·exact h1
def eo{k:Nat}{a:zK}(ok:SOk a)(h:yI k a)(hk:k≤10000){e:AEv}(he:idB e.n):yI (k+2) (vP a e).1:=by
 have hg:=Ac ok.fl ok.gt hk h.fl h.gt he
 unfold vP
 exact⟨hg.1.mono (by omega),hg.2,h.sh.mono (by omega),h.bk.mono (by omega),λn x hx=>(h.ro n x hx).mono (by omega),h.by'.mono (by omega),h.now⟩
def z0w{k:Nat}{a:zK}(ok:SOk a)(h:yI k a)(e:AEv):yI (k+1) (fu a e).1:=by
 have hu:=h.fl.up e.n
 have hg:=Nu ok.gt hu h.gt (fOf (jR a.fl e.n).1.l e.n)
 unfold fu
 split
 ·exact⟨hu.mono (Nat.le_succ k),h.gt.mono (Nat.le_succ k),h.sh.mono (Nat.le_succ k),h.bk.mono (Nat.le_succ k),λn x hx=>(h.ro n x hx).mono (Nat.le_succ k),h.by'.mono (Nat.le_succ k),h.now⟩
 ·refine⟨hg.1.mono (Nat.le_succ k),hg.2,h.sh.mono (Nat.le_succ k),?_,λn x hx=>(h.ro n x hx).mono (Nat.le_succ k),?_,h.now⟩
  ·dsimp only;unfold rq
   split
   ·exact h.bk.mono (Nat.le_succ k)
   ·exact(h.bk.prove _).mono (Nat.le_succ k)
  ·dsimp only;unfold rq
   split
   ·exact h.by'.mono (Nat.le_succ k)
   ·refine(h.by'.mono (Nat.le_succ k)).book ?_
    unfold kJ
    split<;>rfl
def eh{k:Nat}{a:zK}(h:yI k a)(e:AEv):yI (k+1) (Ul a e).1:=by
 have hu:=h.fl.kill e.n
 have hi:=lY h.fl e.n
 have hl:=Aa h.gt hi.1 hi.2
 unfold Ul
 split
 ·exact⟨hu.mono (Nat.le_succ k),h.gt.mono (Nat.le_succ k),h.sh.mono (Nat.le_succ k),h.bk.mono (Nat.le_succ k),λn x hx=>(h.ro n x hx).mono (Nat.le_succ k),h.by'.mono (Nat.le_succ k),h.now⟩
 ·exact⟨hu.mono (Nat.le_succ k),hl,h.sh.mono (Nat.le_succ k),h.bk.mono (Nat.le_succ k),λn x hx=>(h.ro n x hx).mono (Nat.le_succ k),h.by'.mono (Nat.le_succ k),h.now⟩
def EA{a:yW}(nd:(a.all.map (·.1)).Nodup):(xd a).Nodup:=(vf _).nodup_iff.2 nd
def SZ{k:Nat}{a:zK}(ok:SOk a)(nd:(a.bk.all.map (·.1)).Nodup)(h:yI k a)(hk:k≤10000):yI (k+1) (xZ a).1:=by
 have hg:=Nt ok.gt h.gt (a.now+1)
 have hG:(tkG a).1.Ok:=by
  have:=PY (m:=a.gt.all.length) (n:=a.gt.lines.length) (now:=a.now+1) (r:=a.gt.room) (ks:=yT (a.gt.lines.map (·.1))) (G:=a.gt) (out:=[]) ⟨Nat.le_refl _,h.gt.ids,Nat.le_refl _,h.gt.lid,h.gt.wk,ok.gt⟩ rfl (λk hk=>by
   cases h4:zm a.gt.lines k with
   | none=>rw[Yz]at h4;exact absurd (vg.1 hk) h4
   | some v=>rfl) (by simp)
  exact this.1.ok
 unfold xZ
 split
 ·exact h.mono (Nat.le_succ k)
 ·rename_i hc
  refine⟨h.fl.mono (Nat.le_succ k),hg.1.mono (Nat.le_succ k),h.sh.mono (Nat.le_succ k),h.bk.mono (Nat.le_succ k),λn x hx=>(h.ro n x hx).mono (Nat.le_succ k),?_,?_⟩
  ·exact ByI.tick (λrev=>(iC hG hg.1 (by omega) rev).2) (EA nd) h.by'.has (λx hx _=>h.by'.xs x hx) (λx hx=>Nat.le_succ_of_le (h.by'.xs x hx)) h.by'.rng h.by'.want
  ·have:=h.now;dsimp only;omega
def TN{k:Nat}{a:YV}(ok:a.Ok)(h:ShI k a){n:B0}(hi:(jO a n).2.2.2.1=true):Xw (jO a n).1=0∧1≤@id Int (jO a n).2.2.1∧@id Int (jO a n).2.2.1≤a.n:=by
 unfold jO at hi ⊢
 split
 ·rename_i h1
  have:=h.cfg n h1
  exact⟨this.2.1,this.2.2,(ok.gen n).2⟩
 ·rename_i h1
  rw[if_neg h1]at hi
  cases hi
def aS{k:Nat}{a:zK}(ok:SOk a)(h:yI k a)(hn:a.sh.n<100)(e:AEv):yI (k+1) (vX a e).1:=by
 have hm:=h.mono (Nat.le_succ k)
 unfold vX
 split
 ·exact hm
 ·rename_i h1
  have hc:=TN ok.sh h.sh (n:=e.name) (by simpa using h1)
  split
  ·exact hm
  ·have hb:=h.bk.stamp (c:=(jO a.sh e.name).1) hc.1 (g:=(@id Int (jO a.sh e.name).2.2.1).toNat) (by omega) (by omega)
   have hw:=(Qo hc.1).2.2.2
   split
   ·rename_i h3
    refine⟨hm.fl,hm.gt,hm.sh,hb,hm.ro,hm.by'.book ?_,hm.now⟩
    dsimp only[stp]at h3 ⊢
    unfold XL at h3 ⊢
    split
    ·rfl
    ·rename_i h4;rw[if_neg h4]at h3;cases h3
   ·rename_i h3
    refine⟨hm.fl,hm.gt,hm.sh,hb,hm.ro,⟨λp hp=>?_,?_,?_,?_⟩,hm.now⟩
    ·dsimp only[stp]at h3 hp ⊢
     rw[ZY]
     split
     ·rfl
     ·rename_i h5
      unfold XL at hp h5
      split at hp
      ·exact h.by'.has p hp
      ·rename_i h6
       rw[if_neg h6]at h5
       rcases Zq hp with rfl | hp
       ·exact absurd rfl h5
       ·exact h.by'.has p hp
    all_goals
     intro y hy
     rcases Zq hy with rfl | hy
    ·exact Nat.zero_le _
    ·exact hm.by'.xs y hy
    ·intro z hz;cases hz
    ·exact hm.by'.rng y hy
    ·refine⟨?_,Int.le_refl 0,by show(0:Int)≤1000;decide⟩
     show 0≤gg (jO a.sh e.name).1∧gg (jO a.sh e.name).1≤10
     unfold gg
     split<;>omega
    ·exact hm.by'.want y hy
def CN{k:Nat}{a:YV}(h:ShI k a)(n:B0):(QH a n).1.ts.length≤6∧(∀t∈(QH a n).1.ts,(0≤pct t∧pct t≤100)∧t.2.1.size≤100)∧0≤(QH a n).1.roll∧(QH a n).1.roll≤60:=by
 unfold QH
 split
 ·rename_i h1
  have:=nP (h.rt n h1).2
  exact⟨this.2.2.1,this.2.2.2,this.2.1.1,this.2.1.2⟩
 ·exact⟨Nat.zero_le _,(by intro t ht;cases ht),(show(0:Int)≤0 by decide),(show(0:Int)≤60 by decide)⟩
def ef{k:Nat}{a:zK}(ok:SOk a)(h:yI k a)(e:AEv):yI (k+2) (oq a e).1:=by
 have hm:=h.mono (Nat.le_add_right k 2)
 have hr:=CN h.sh e.name
 unfold oq
 split
 ·exact hm
 ·split
  ·exact hm
  ·refine⟨hm.fl,hm.gt,hm.sh,hm.bk,?_,hm.by',hm.now⟩
   exact Ra (k:=k+1) (h.mono (Nat.le_succ k)).ro e.name (TQ ok.bk h.bk hr.1 hr.2.1) h.now _ (by omega)
def ee{k:Nat}{a:zK}(h:yI k a)(e:AEv):yI (k+1) (qt a e).1:=by
 have hm:=h.mono (Nat.le_succ k)
 unfold qt
 split
 ·exact hm
 ·rename_i h1
  have h1:jA a.bk e.name=true:=by simpa using h1
  have hb:=uX h1
  have hc:=(Qo (h.bk.cfg _ hb)).2.2.1
  refine⟨?_,hm.gt,hm.sh,hm.bk,hm.ro,hm.by',hm.now⟩
  exact h.fl.scale (h.bk.rev _ hb) (Int.le_trans hc.2 (by decide)) _
def ap{w ready mi ma:Int}(h1:0≤mi)(h2:1≤ma∧ma≤10):0≤TO w ready mi ma∧TO w ready mi ma≤10:=by
 unfold TO
 generalize mx2 (mn2 w (4*scM ready)) (ready/2)=x
 unfold mn2 mx2
 constructor<;>repeat' split
 all_goals omega
def rV{left b m:Int}(h:0≤left∧left≤1000):0≤vi left b m∧vi left b m≤1000:=by
 unfold vi
 repeat' split
 all_goals omega
def CP{k:Nat}{a:zK}(h:yI k a){rev:B0}(hb:jA a.bk rev=true){x:Oa}(hx:0≤x.left∧x.left≤1000):(0≤(Kc a x rev).1∧(Kc a x rev).1≤10)∧(0≤(Kc a x rev).2∧(Kc a x rev).2≤1000):=by
 have hc:=(Qo (h.bk.cfg _ (uX hb))).2.2.2
 exact⟨ap hc.2.1.1 hc.1,rV hx⟩
def aT{k:Nat}{a:zK}(h:yI k a)(e:AEv):yI (k+1) (QS a e).1:=by
 have hm:=h.mono (Nat.le_succ k)
 unfold QS
 split
 ·exact hm
 ·rename_i h1
  have h1:jA a.bk e.name=true:=by simpa using h1
  split
  ·exact hm
  ·rename_i x hx
   have hxm:=yK hx
   refine⟨hm.fl,hm.gt,hm.sh,hm.bk,hm.ro,hm.by'.set (hm.by'.xs _ hxm) (hm.by'.rng _ hxm) ?_,hm.now⟩
   exact CP h h1 (hm.by'.want _ hxm).2
def Od{a:zK}{e:AEv}(h:Zy e≠0):zG a e=(a,[Zv bZ [Lx (Zy e)]]):=by unfold zG;rw[if_pos h]
def Cp{a:zK}{e:AEv}(h:Zy e=0)(hk:e.kind=1):zG a e=ve a e:=by unfold zG;rw[if_neg (by simp[h]),if_pos hk]
def wi{a:zK}{e:AEv}(h:Zy e=0)(hk:e.kind=2):zG a e=Oc a e:=by unfold zG;rw[if_neg (by simp[h]),if_neg (by omega),if_pos hk]
def Hs{a:zK}{e:AEv}(h:Zy e=0)(hk:e.kind=3):zG a e=wg a e:=by unfold zG;rw[if_neg (by simp[h]),if_neg (by omega),if_neg (by omega),if_pos hk]
def pN{a:zK}{e:AEv}(h:Zy e=0)(hk:e.kind=4):zG a e=YN a e:=by unfold zG;rw[if_neg (by simp[h]),if_neg (by omega),if_neg (by omega),if_neg (by omega),if_pos hk]
def pM{a:zK}{e:AEv}(h:Zy e=0)(hk:e.kind=5):zG a e=vP a e:=by unfold zG;rw[if_neg (by simp[h]),if_neg (by omega),if_neg (by omega),if_neg (by omega),if_neg (by omega),if_pos hk]
def pL{a:zK}{e:AEv}(h:Zy e=0)(hk:e.kind=6):zG a e=fu a e:=by unfold zG;rw[if_neg (by simp[h]),if_neg (by omega),if_neg (by omega),if_neg (by omega),if_neg (by omega),if_neg (by omega),if_pos hk]
def FW{a:zK}{e:AEv}(h:Zy e=0)(hk:e.kind=7∨e.kind=8):zG a e=Ul a e:=by
 unfold zG;rw[if_neg (by simp[h]),if_neg (by omega),if_neg (by omega),if_neg (by omega),if_neg (by omega),if_neg (by omega),if_neg (by omega),if_neg (by omega),if_neg (by omega),if_neg (by omega),if_neg (by omega),if_neg (by omega)]
def FU{a:zK}{e:AEv}(h:Zy e=0)(hk:e.kind=9):zG a e=xZ a:=by unfold zG;rw[if_neg (by simp[h]),if_neg (by omega),if_neg (by omega),if_neg (by omega),if_neg (by omega),if_neg (by omega),if_neg (by omega),if_pos hk]
def CI{a:zK}{e:AEv}(h:Zy e=0)(hk:e.kind=10):zG a e=vX a e:=by unfold zG;rw[if_neg (by simp[h]),if_neg (by omega),if_neg (by omega),if_neg (by omega),if_neg (by omega),if_neg (by omega),if_neg (by omega),if_neg (by omega),if_pos hk]
def CH{a:zK}{e:AEv}(h:Zy e=0)(hk:e.kind=11):zG a e=oq a e:=by unfold zG;rw[if_neg (by simp[h]),if_neg (by omega),if_neg (by omega),if_neg (by omega),if_neg (by omega),if_neg (by omega),if_neg (by omega),if_neg (by omega),if_neg (by omega),if_pos hk]
def fx{a:zK}{e:AEv}(h:Zy e=0)(hk:e.kind=12):zG a e=QS a e:=by unfold zG;rw[if_neg (by simp[h]),if_neg (by omega),if_neg (by omega),if_neg (by omega),if_neg (by omega),if_neg (by omega),if_neg (by omega),if_neg (by omega),if_neg (by omega),if_neg (by omega),if_pos hk]
def Oe{a:zK}{e:AEv}(h:Zy e=0)(hk:e.kind=13):zG a e=qt a e:=by unfold zG;rw[if_neg (by simp[h]),if_neg (by omega),if_neg (by omega),if_neg (by omega),if_neg (by omega),if_neg (by omega),if_neg (by omega),if_neg (by omega),if_neg (by omega),if_neg (by omega),if_neg (by omega),if_pos hk]
end Go.Proofs.YtdcdhcgmeahfmaaGreatDoor
namespace Go.Proofs.YtdcdhcgmeahfmaaGreatDoor
open Go.Dm
attribute [local irreducible] L.load L.store L.chk L.new L.nonnil L.guard L.ite L.draw L.idx L.sem L.semR L.semU L.chkSem L.next L.call L.callV L.join L.alts L.loop L.begin L.endRound L.range
variable {w0 w:World}{E:List Seg}
def sC{F:ze}(ok:F.Ok)(id:Int):(jR F id).1.Ok:=by
 unfold jR
 split
 ·exact ok
 ·rename_i x hx
  refine ok.upd hx _ ?_ λq hq=>.inl (by rwa [li]at hq)
  have:=ok.live x (jf hx).1
  unfold YW
  split
  ·dsimp only;omega
  ·exact .inr (.inl rfl)
def bT(rev:B0):∀{n:Nat}{F:ze},(shrink rev n F).1.last=F.last∧(shrink rev n F).1.room=F.room
 | 0,F=>⟨rfl,rfl⟩
 | n+1,F=>by simp only[shrink];exact bT rev (n:=n) (F:=qm rev F)
def rR(F:ze)(rev:B0)(conc want:Int):(Yn F rev conc want).1.room=F.room:=by
 unfold Yn yQ
 rw[(bT rev).2,Ot]
def eB{F:ze}{rev:B0}{conc:Int}(n:Nat)(ok:F.Ok)(h1:F.l.length+n<100000000)(h2:F.last+n<4611686018427387904):(grow rev conc n F).Ok:=by
 induction n with
 | zero=>exact ok
 | succ n ih=>
  refine dG (ih (by omega) (by omega)) ?_ ?_
  ·rw[Vh];omega
  ·rw[kY];omega
def TM{rev:B0}:∀{n:Nat}{F:ze},F.Ok→n≤ZA F.l rev→(∀x∈(shrink rev n F).2,0≤x∧x≤F.last)∧(shrink rev n F).2.length=n
 | 0,F,_,_=>⟨(by intro x hx;cases hx),rfl⟩
 | n+1,F,ok,h=>by
  have h1:=tQ ok (rev:=rev) (by omega)
  have h2:=gR ok (rev:=rev) (by omega)
  obtain⟨a,b⟩:=TM (rev:=rev) (n:=n) h1 (by omega)
  obtain⟨y,hy,-,-⟩:=Og (rev:=rev) ok (by omega)
  obtain⟨hm,hid⟩:=jf hy
  have hr:=ok.rng y hm
  simp only[shrink]
  refine⟨λx hx=>?_,by rw[List.length_cons,b]⟩
  rcases List.mem_cons.1 hx with rfl | hx
  ·rw[←hid];omega
  ·exact a x hx
def rU{F:ze}(ok:F.Ok){rev:B0}{conc want:Int}(hl:(F.l.length:Int)≤1000)(hr:F.room≤1000)(hla:F.last≤1000000000):(∀x∈(Yn F rev conc want).2,0≤x∧x≤F.last+1000)∧(Yn F rev conc want).2.length≤2000:=by
 have hn:=Pp F rev want
 have okg:(yQ F rev conc want).Ok:=eB _ ok (by omega) (by omega)
 have hsn:xk (yQ F rev conc want) rev want≤ZA (yQ F rev conc want).l rev:=by
  have:=rJ (yQ F rev conc want) rev want
  omega
 have hs:=TM okg hsn
 have hll:(yQ F rev conc want).last=F.last+qx F rev want:=kY ..
 have hcl:=mh (yQ F rev conc want).l (rev:=rev)
 have hgl:(yQ F rev conc want).l.length=F.l.length+qx F rev want:=Vh ..
 unfold Yn
 refine⟨λx hx=>?_,?_⟩
 ·have:=hs.1 x hx
  omega
 ·rw[hs.2];omega
def bi [Jp w0](h:St w0 E w)(i:Nat){b:Nat}{a:zK}{s:Seg}(hi:nth E i=some s)(hs:yN b a s){e:AEv}(hn:jA a.bk e.name=false){k:Sl→PT}(hk:Hk w0 E i b (qt a e) k):jU (some ⟨b,0,none⟩) e.t (slK k) w:=by
 have hs0:=hs
 obtain⟨p,sg,sf,ss,sk,sr,sm,Q,R,rfl⟩:=hs
 unfold jU
 unfold qt at hk
 have h:=(h.front i hi).split8
 refine nw h ?_;clear h;intro b1 w h
 refine ZU (λ(z:Addr×Bool×Unit) w=>∃b8:Nat,z=(⟨b8,0,none⟩,jA a.bk e.name,())∧St w0 (vY b p a.now::sg::sf::ss::sk::sr::sm::(Q.map BsE.sg).flatten::Zx E i) w) (λk2 hk2=>?_) ?_
 ·(dsimp only[zd,List.cons_append,List.nil_append]at h;refine dr h ?_;clear h;intro w h;refine nn ?_;refine ldC h ?_;refine ldC h ?_)
  refine KA ?_ ?_
  ·refine gU h 5 rfl R.bk λw h=>?_
   refine nw h ?_;clear h;intro b8 w h
   (refine ckC h ?_;refine ckC h ?_;refine stC h ?_;clear h;intro w h;dsimp only[zP,zd]at h)
   exact hk2 _ w ⟨b8,rfl,zl (zl h)⟩
  ·refine nw h ?_;clear h;intro b8 w h
   (refine ckC h ?_;refine ckC h ?_)
   refine gU h 6 rfl R.bk λw h=>?_
   (refine stC h ?_;clear h;intro w h;dsimp only[zP,zd]at h)
   exact hk2 _ w ⟨b8,rfl,zl (zl h)⟩
 clear h
 rintro z w ⟨b8,rfl,h⟩
 (try dsimp only)
 refine itT (by simp[hn]) ?_
 rw[if_pos hn]at hk
 refine Xp h λv s w r h=>?_
 exact⟨v,rfl,hk v s _ w r hs0 (jt i hi h)⟩
structure UL(w0:World)(E:List Seg)(i:Nat)(e:AEv):Prop where
 rd:RdE w0 (Zx E i) eT e.v e.r.ts
 hvc:e.v.len≤e.v.cap
 h0:e.v.a=none→e.r.ts = []
 hrv:∀t∈e.r.ts,UR t.1
 hn:e.kind=12∨e.kind=13→Fc e.name
def UL.plain{i:Nat}{e:AEv}(hv:e.v=wC)(hr:e.r=vp)(hk:e.kind=12∨e.kind=13→Fc e.name):UL w0 E i e:=by
 refine⟨λ_ _=>?_,?_,λ_=>?_,?_,hk⟩
 ·rw[hv,hr];exact Rd.nil
 ·rw[hv];exact Nat.le_refl 0
 ·rw[hr];rfl
 ·rw[hr];intro t ht;cases ht
abbrev HkI(w0:World)(E:List Seg)(i b k0:Nat)(r:zK×List B0)(k:Sl→PT):Prop:=
 ∀v sv s' w',Rw eS zc 1 v r.2 sv→yN b r.1 s'→yI k0 r.1→St w0 (sv::zd E i s') w'→k v w'
def z3f [Jp w0](h:St w0 E w)(i:Nat){b:Nat}{a:zK}{s:Seg}(hi:nth E i=some s)(hs:yN b a s){e:AEv}(hb:Zy e=0)(hc:e.kind=1)(ev:UL w0 E i e){k0:Nat}(inv:yI k0 a)(hk0:k0≤9000)(hn:a.sh.n<99){k:Sl→PT}(hk:HkI w0 E i b (k0+2) (zG a e) k) :
  L.call Pr zq [pO b,evV e] (.one (.one .slice)) k w:=by
 have ok:=hs.ok
 have rd':RdE w0 E eT e.v e.r.ts:=λw h=>ev.rd w (h.del i hi)
 have i2:yI (k0+2) (zG a e).1:=by rw[Cp hb hc];exact(Rz ok inv e).mono (Nat.le_succ _)
 have hkk:Hk w0 E i b (zG a e) k:=λv sv s' w' r hs' h=>hk v sv s' w' r hs' i2 h
 clear hk
 have hlast:=inv.fl.last
 have hlen:=inv.fl.few.l
 have hroom:=inv.fl.few.r
 unfold JT at hroom
 have hall:=inv.gt.all
 have hlines:=inv.gt.lines
 have hgr:=inv.gt.room
 have hpat:=inv.gt.pat
 have hnow:=inv.now
 have hbl:=inv.bk.len
 have hr1:=inv.fl.r1
 have rn:=ev.hn
 rw[Cp hb hc]at hkk
 exact bn h i hi hs hc hb rd' ev.hvc ev.hrv (by omega) (by have:=vh (Qo (z2S hb hc)).1;omega) hkk
def z3e [Jp w0](h:St w0 E w)(i:Nat){b:Nat}{a:zK}{s:Seg}(hi:nth E i=some s)(hs:yN b a s){e:AEv}(hb:Zy e=0)(hc:e.kind=2)(ev:UL w0 E i e){k0:Nat}(inv:yI k0 a)(hk0:k0≤9000)(hn:a.sh.n<99){k:Sl→PT}(hk:HkI w0 E i b (k0+2) (zG a e) k) :
  L.call Pr zq [pO b,evV e] (.one (.one .slice)) k w:=by
 have ok:=hs.ok
 have rd':RdE w0 E eT e.v e.r.ts:=λw h=>ev.rd w (h.del i hi)
 have i2:yI (k0+2) (zG a e).1:=by rw[wi hb hc];exact(aU inv e).mono (Nat.le_succ _)
 have hkk:Hk w0 E i b (zG a e) k:=λv sv s' w' r hs' h=>hk v sv s' w' r hs' i2 h
 clear hk
 have hlast:=inv.fl.last
 have hlen:=inv.fl.few.l
 have hroom:=inv.fl.few.r
 unfold JT at hroom
 have hall:=inv.gt.all
 have hlines:=inv.gt.lines
 have hgr:=inv.gt.room
 have hpat:=inv.gt.pat
 have hnow:=inv.now
 have hbl:=inv.bk.len
 have hr1:=inv.fl.r1
 have rn:=ev.hn
 rw[wi hb hc]at hkk
 exact AU h i hi hs hc hb ev.rd ev.hvc ev.h0 ev.hrv (by omega) (by have:=vh (nP (z2R hb hc)).1.1;omega) inv.sh.few hkk
def z3d [Jp w0](h:St w0 E w)(i:Nat){b:Nat}{a:zK}{s:Seg}(hi:nth E i=some s)(hs:yN b a s){e:AEv}(hb:Zy e=0)(hc:e.kind=4)(ev:UL w0 E i e){k0:Nat}(inv:yI k0 a)(hk0:k0≤9000)(hn:a.sh.n<99){k:Sl→PT}(hk:HkI w0 E i b (k0+2) (zG a e) k) :
  L.call Pr zq [pO b,evV e] (.one (.one .slice)) k w:=by
 have ok:=hs.ok
 have rd':RdE w0 E eT e.v e.r.ts:=λw h=>ev.rd w (h.del i hi)
 have i2:yI (k0+2) (zG a e).1:=by rw[pN hb hc];exact(RA ok inv (tU hb (by omega)).1).mono (Nat.le_succ _)
 have hkk:Hk w0 E i b (zG a e) k:=λv sv s' w' r hs' h=>hk v sv s' w' r hs' i2 h
 clear hk
 have hlast:=inv.fl.last
 have hlen:=inv.fl.few.l
 have hroom:=inv.fl.few.r
 unfold JT at hroom
 have hall:=inv.gt.all
 have hlines:=inv.gt.lines
 have hgr:=inv.gt.room
 have hpat:=inv.gt.pat
 have hnow:=inv.now
 have hbl:=inv.bk.len
 have hr1:=inv.fl.r1
 have rn:=ev.hn
 rw[pN hb hc]at hkk
 have hid:=(tU hb (by omega)).1
 have hd:=Ev hb hc
 refine bo h i hi hs hc hb rd' ev.hvc ev.hrv (by omega) (λx hx=>(inv.ro _ x hx).ok (by omega)) ?_ inv.fl.few (by omega) (by omega) (by omega) (Ad (by omega) ok.fl inv.fl hid _ _) ?_ hkk
 ·unfold ou
  cases hg:zm a.ro e.name with
  | none=>intro s hs;cases hs
  | some x=>exact(inv.ro _ x hg).ns
 ·unfold bnd
  split
  ·decide
  ·cases hg:zm a.ro e.name with
   | none=>rename_i hh;rw[hg]at hh;exact absurd rfl hh
   | some x=>
    have w:=inv.ro _ x hg
    split
    ·unfold WO ou
     rw[hg]
     have:∀(l:List Shr)(d:Int),(∀s∈l,s.1.size≤100)→(Pb l d).size≤100:=by
      intro l
      induction l with
      | nil=>intro d _;show s_.size≤100;decide
      | cons s l ih=>
       intro d hl
       unfold Pb
       split
       ·exact hl s (by simp)
       ·exact ih _ λy hy=>hl y (by simp[hy])
     have:=this x.ns (e.draw%100) w.zn
     dsimp only;omega
    ·unfold ou
     rw[hg]
     have:∀(l:List Tgo),(∀s∈l,s.1.size≤100∧s.2.1.size≤100)→(CG l e.tag).1.size≤100:=by
      intro l
      induction l with
      | nil=>intro _;show s_.size≤100;decide
      | cons s l ih=>
       intro hl
       unfold CG
       split
       ·exact(hl s (by simp)).2
       ·exact ih λy hy=>hl y (by simp[hy])
     have:=this x.ng w.zg
     dsimp only;omega
def z3c [Jp w0](h:St w0 E w)(i:Nat){b:Nat}{a:zK}{s:Seg}(hi:nth E i=some s)(hs:yN b a s){e:AEv}(hb:Zy e=0)(hc:e.kind=5)(ev:UL w0 E i e){k0:Nat}(inv:yI k0 a)(hk0:k0≤9000)(hn:a.sh.n<99){k:Sl→PT}(hk:HkI w0 E i b (k0+2) (zG a e) k) :
  L.call Pr zq [pO b,evV e] (.one (.one .slice)) k w:=by
 have ok:=hs.ok
 have rd':RdE w0 E eT e.v e.r.ts:=λw h=>ev.rd w (h.del i hi)
 have i2:yI (k0+2) (zG a e).1:=by rw[pM hb hc];exact eo ok inv (by omega) (tU hb (by omega)).1
 have hkk:Hk w0 E i b (zG a e) k:=λv sv s' w' r hs' h=>hk v sv s' w' r hs' i2 h
 clear hk
 have hlast:=inv.fl.last
 have hlen:=inv.fl.few.l
 have hroom:=inv.fl.few.r
 unfold JT at hroom
 have hall:=inv.gt.all
 have hlines:=inv.gt.lines
 have hgr:=inv.gt.room
 have hpat:=inv.gt.pat
 have hnow:=inv.now
 have hbl:=inv.bk.len
 have hr1:=inv.fl.r1
 have rn:=ev.hn
 rw[pM hb hc]at hkk
 have hid:=(tU hb (by omega)).1
 exact hI h i hi hs hc hb rd' ev.hvc ev.hrv inv.fl.few (by omega) (by omega) (Lj ok.fl (by omega) inv.fl inv.gt hid) (Ab ok.gt (by omega) hgr.2 _) hkk
def z3b [Jp w0](h:St w0 E w)(i:Nat){b:Nat}{a:zK}{s:Seg}(hi:nth E i=some s)(hs:yN b a s){e:AEv}(hb:Zy e=0)(hc:e.kind=6)(ev:UL w0 E i e){k0:Nat}(inv:yI k0 a)(hk0:k0≤9000)(hn:a.sh.n<99){k:Sl→PT}(hk:HkI w0 E i b (k0+2) (zG a e) k) :
  L.call Pr zq [pO b,evV e] (.one (.one .slice)) k w:=by
 have ok:=hs.ok
 have rd':RdE w0 E eT e.v e.r.ts:=λw h=>ev.rd w (h.del i hi)
 have i2:yI (k0+2) (zG a e).1:=by rw[pL hb hc];exact(z0w ok inv e).mono (Nat.le_succ _)
 have hkk:Hk w0 E i b (zG a e) k:=λv sv s' w' r hs' h=>hk v sv s' w' r hs' i2 h
 clear hk
 have hlast:=inv.fl.last
 have hlen:=inv.fl.few.l
 have hroom:=inv.fl.few.r
 unfold JT at hroom
 have hall:=inv.gt.all
 have hlines:=inv.gt.lines
 have hgr:=inv.gt.room
 have hpat:=inv.gt.pat
 have hnow:=inv.now
 have hbl:=inv.bk.len
 have hr1:=inv.fl.r1
 have rn:=ev.hn
 rw[pL hb hc]at hkk
 have hid:=(tU hb (by omega)).1
 have hu:=inv.fl.up e.n
 have hsz:(fOf (jR a.fl e.n).1.l e.n).size≤100:=by
  unfold fOf
  cases hf:Xn (jR a.fl e.n).1.l e.n with
  | none=>show s_.size≤100;decide
  | some x=>exact(hu.rev x (jf hf).1).size
 have hu':(jR a.fl e.n).1.Ok:=sC ok.fl e.n
 refine z1i h i hi hs hc hb rd' ev.hvc ev.hrv ⟨by omega,by omega⟩ (by omega) hu.few (by omega) (by omega) (TZ (by omega) hu' hu inv.gt _) ?_ hkk
 have:=(tK (F:=(jR a.fl e.n).1) ok.gt (fOf (jR a.fl e.n).1.l e.n)).1
 show(yV (jR a.fl e.n).1 a.gt (fOf (jR a.fl e.n).1.l e.n)).2.2.length<100000000
 omega
def z3a [Jp w0](h:St w0 E w)(i:Nat){b:Nat}{a:zK}{s:Seg}(hi:nth E i=some s)(hs:yN b a s){e:AEv}(hb:Zy e=0)(hc:e.kind=8)(ev:UL w0 E i e){k0:Nat}(inv:yI k0 a)(hk0:k0≤9000)(hn:a.sh.n<99){k:Sl→PT}(hk:HkI w0 E i b (k0+2) (zG a e) k) :
  L.call Pr zq [pO b,evV e] (.one (.one .slice)) k w:=by
 have ok:=hs.ok
 have rd':RdE w0 E eT e.v e.r.ts:=λw h=>ev.rd w (h.del i hi)
 have i2:yI (k0+2) (zG a e).1:=by rw[FW hb (.inr hc)];exact(eh inv e).mono (Nat.le_succ _)
 have hkk:Hk w0 E i b (zG a e) k:=λv sv s' w' r hs' h=>hk v sv s' w' r hs' i2 h
 clear hk
 have hlast:=inv.fl.last
 have hlen:=inv.fl.few.l
 have hroom:=inv.fl.few.r
 unfold JT at hroom
 have hall:=inv.gt.all
 have hlines:=inv.gt.lines
 have hgr:=inv.gt.room
 have hpat:=inv.gt.pat
 have hnow:=inv.now
 have hbl:=inv.bk.len
 have hr1:=inv.fl.r1
 have rn:=ev.hn
 rw[FW hb (.inr hc)]at hkk
 have hid:=(tU hb (by omega)).1
 have hki:=lY inv.fl e.n
 exact Gt h i hi hs hb rn rd' ev.hvc ev.hrv (f:=yk) (by rw[hc];rfl) Fq (Fx (some ⟨b,0,none⟩) e.t) (λh hi _ hk=>AJ h _ hi hs ⟨by omega,by omega⟩ (by omega) (fO hki.1 (by simp)) hk) hkk
def z39 [Jp w0](h:St w0 E w)(i:Nat){b:Nat}{a:zK}{s:Seg}(hi:nth E i=some s)(hs:yN b a s){e:AEv}(hb:Zy e=0)(hc:e.kind=9)(ev:UL w0 E i e){k0:Nat}(inv:yI k0 a)(hk0:k0≤9000)(hn:a.sh.n<99){k:Sl→PT}(hk:HkI w0 E i b (k0+2) (zG a e) k) :
  L.call Pr zq [pO b,evV e] (.one (.one .slice)) k w:=by
 have ok:=hs.ok
 have rd':RdE w0 E eT e.v e.r.ts:=λw h=>ev.rd w (h.del i hi)
 have i2:yI (k0+2) (zG a e).1:=by rw[FU hb hc];exact(SZ ok ok.nd inv (by omega)).mono (Nat.le_succ _)
 have hkk:Hk w0 E i b (zG a e) k:=λv sv s' w' r hs' h=>hk v sv s' w' r hs' i2 h
 clear hk
 have hlast:=inv.fl.last
 have hlen:=inv.fl.few.l
 have hroom:=inv.fl.few.r
 unfold JT at hroom
 have hall:=inv.gt.all
 have hlines:=inv.gt.lines
 have hgr:=inv.gt.room
 have hpat:=inv.gt.pat
 have hnow:=inv.now
 have hbl:=inv.bk.len
 have hr1:=inv.fl.r1
 have rn:=ev.hn
 rw[FU hb hc]at hkk
 have hg:=Nt ok.gt inv.gt (a.now+1)
 refine LR h i hi hs hc hb rd' ev.hvc ev.hrv hnow.1 inv.gt.wk (by have:=hg.2.2;unfold tkG;omega) hg.2.1 (λrev hr=>?_) (λx hx=>by have:=inv.by'.xs x hx;omega) (by omega) hkk
 have:=inv.by'.has _ (uX (NM hr))
 exact this
def z1m [Jp w0](h:St w0 E w)(i:Nat){b:Nat}{a:zK}{s:Seg}(hi:nth E i=some s)(hs:yN b a s){e:AEv}(hb:Zy e=0)(hc:e.kind=10)(ev:UL w0 E i e){k0:Nat}(inv:yI k0 a)(hk0:k0≤9000)(hn:a.sh.n<99){k:Sl→PT}(hk:HkI w0 E i b (k0+2) (zG a e) k) :
  L.call Pr zq [pO b,evV e] (.one (.one .slice)) k w:=by
 have ok:=hs.ok
 have rd':RdE w0 E eT e.v e.r.ts:=λw h=>ev.rd w (h.del i hi)
 have i2:yI (k0+2) (zG a e).1:=by rw[CI hb hc];exact(aS ok inv (by omega) e).mono (Nat.le_succ _)
 have hkk:Hk w0 E i b (zG a e) k:=λv sv s' w' r hs' h=>hk v sv s' w' r hs' i2 h
 clear hk
 have hlast:=inv.fl.last
 have hlen:=inv.fl.few.l
 have hroom:=inv.fl.few.r
 unfold JT at hroom
 have hall:=inv.gt.all
 have hlines:=inv.gt.lines
 have hgr:=inv.gt.room
 have hpat:=inv.gt.pat
 have hnow:=inv.now
 have hbl:=inv.bk.len
 have hr1:=inv.fl.r1
 have rn:=ev.hn
 rw[CI hb hc]at hkk
 refine AS h i hi hs hc hb rd' ev.hvc ev.hrv (λhh=>?_) (by omega) hkk
 have hs:=TN ok.sh inv.sh hh
 have hnum:=Qo hs.1
 exact⟨hnum.1,hs.2.1,by omega,by omega⟩
def z1l [Jp w0](h:St w0 E w)(i:Nat){b:Nat}{a:zK}{s:Seg}(hi:nth E i=some s)(hs:yN b a s){e:AEv}(hb:Zy e=0)(hc:e.kind=11)(ev:UL w0 E i e){k0:Nat}(inv:yI k0 a)(hk0:k0≤9000)(hn:a.sh.n<99){k:Sl→PT}(hk:HkI w0 E i b (k0+2) (zG a e) k) :
  L.call Pr zq [pO b,evV e] (.one (.one .slice)) k w:=by
 have ok:=hs.ok
 have rd':RdE w0 E eT e.v e.r.ts:=λw h=>ev.rd w (h.del i hi)
 have i2:yI (k0+2) (zG a e).1:=by rw[CH hb hc];exact ef ok inv e
 have hkk:Hk w0 E i b (zG a e) k:=λv sv s' w' r hs' h=>hk v sv s' w' r hs' i2 h
 clear hk
 have hlast:=inv.fl.last
 have hlen:=inv.fl.few.l
 have hroom:=inv.fl.few.r
 unfold JT at hroom
 have hall:=inv.gt.all
 have hlines:=inv.gt.lines
 have hgr:=inv.gt.room
 have hpat:=inv.gt.pat
 have hnow:=inv.now
 have hbl:=inv.bk.len
 have hr1:=inv.fl.r1
 have rn:=ev.hn
 rw[CH hb hc]at hkk
 have hr:=CN inv.sh e.name
 have ht:=TQ ok.bk inv.bk hr.1 hr.2.1
 have hno:=aI (k:=k0+1) (inv.mono (Nat.le_succ k0)).ro e.name ht hnow (QH a.sh e.name).1.roll (by omega)
 refine EY h i hi hs hc hb rd' ev.hvc ev.hrv inv.sh.few (by have:=Eu hb (by omega);omega) (λt ht=>by have:=(hr.2.1 t ht).1;omega) (by omega) (by omega) (λx hx=>(inv.ro _ x hx).ok (by omega)) (λx hx=>by have:=(inv.ro _ x hx).since;omega) (by omega) ht.w (by have:=hno.2.2;show(Gm a.ro e.name (resolve a.bk (QH a.sh e.name).1).1 a.now (QH a.sh e.name).1.roll).sh.length<100000;omega) ?_ hkk
 exact rF hno.1 hno.2.1 ht.zg (Nat.add_le_add hno.2.2 ht.lg) (by omega)
def z1k [Jp w0](h:St w0 E w)(i:Nat){b:Nat}{a:zK}{s:Seg}(hi:nth E i=some s)(hs:yN b a s){e:AEv}(hb:Zy e=0)(hc:e.kind=12)(ev:UL w0 E i e){k0:Nat}(inv:yI k0 a)(hk0:k0≤9000)(hn:a.sh.n<99){k:Sl→PT}(hk:HkI w0 E i b (k0+2) (zG a e) k) :
  L.call Pr zq [pO b,evV e] (.one (.one .slice)) k w:=by
 have ok:=hs.ok
 have rd':RdE w0 E eT e.v e.r.ts:=λw h=>ev.rd w (h.del i hi)
 have i2:yI (k0+2) (zG a e).1:=by rw[fx hb hc];exact(aT inv e).mono (Nat.le_succ _)
 have hkk:Hk w0 E i b (zG a e) k:=λv sv s' w' r hs' h=>hk v sv s' w' r hs' i2 h
 clear hk
 have hlast:=inv.fl.last
 have hlen:=inv.fl.few.l
 have hroom:=inv.fl.few.r
 unfold JT at hroom
 have hall:=inv.gt.all
 have hlines:=inv.gt.lines
 have hgr:=inv.gt.room
 have hpat:=inv.gt.pat
 have hnow:=inv.now
 have hbl:=inv.bk.len
 have hr1:=inv.fl.r1
 have rn:=ev.hn
 rw[fx hb hc]at hkk
 have hnm:=(rn (.inl hc)).size
 refine Gt h i hi hs hb rn rd' ev.hvc ev.hrv (f:=Yx) (by rw[hc];rfl) GO (GU (some ⟨b,0,none⟩) e.t) (λh hi _ hk=>RY h _ hi hs (by omega) (λhh=>inv.by'.has _ (uX hh)) (λx hx=>?_) (λhh=>?_) ?_ hk) hkk
 ·have hm:=yK hx
  have hw:=inv.by'.want _ hm
  refine⟨⟨⟨hw.1.1,by have:=hw.1.2;dsimp only at this;omega⟩,hw.2,inv.by'.rng _ hm,by have:=inv.by'.xs _ hm;dsimp only at this;omega⟩,?_⟩
  by_cases hh:jA a.bk e.name=true
  ·have:=(CP inv hh hw.2).1
   dsimp only at this;omega
  ·have e1:XX a.bk e.name=GJ:=by
    unfold jA at hh
    unfold XX
    cases hg:zm a.bk.all e.name with
    | none=>rfl
    | some v=>rw[hg]at hh;exact absurd rfl hh
   have e2:(XX a.bk e.name).2.2.2.2.2.1=(0:Int)∧(XX a.bk e.name).2.2.2.2.2.2.1=(0:Int):=by rw[e1];exact⟨rfl,rfl⟩
   unfold Kc TP TO
   rw[e2.1,e2.2]
   generalize mx2 (mn2 _ _) _=y
   unfold mn2 mx2
   constructor<;>repeat' split
   all_goals omega
 ·have hc2:=(Qo (inv.bk.cfg _ (uX hh))).2.2.1
  exact⟨Int.le_trans (by decide) hc2.1,Int.le_trans hc2.2 (by decide)⟩
 ·unfold jL
  rw[List.length_map]
  have:(revs a.fl.l e.name).length≤a.fl.l.length:=List.length_filter_le ..
  omega
def z1j [Jp w0](h:St w0 E w)(i:Nat){b:Nat}{a:zK}{s:Seg}(hi:nth E i=some s)(hs:yN b a s){e:AEv}(hb:Zy e=0)(hc:e.kind=13)(ev:UL w0 E i e){k0:Nat}(inv:yI k0 a)(hk0:k0≤9000)(hn:a.sh.n<99){k:Sl→PT}(hk:HkI w0 E i b (k0+2) (zG a e) k) :
  L.call Pr zq [pO b,evV e] (.one (.one .slice)) k w:=by
 have ok:=hs.ok
 have rd':RdE w0 E eT e.v e.r.ts:=λw h=>ev.rd w (h.del i hi)
 have i2:yI (k0+2) (zG a e).1:=by rw[Oe hb hc];exact(ee inv e).mono (Nat.le_succ _)
 have hkk:Hk w0 E i b (zG a e) k:=λv sv s' w' r hs' h=>hk v sv s' w' r hs' i2 h
 clear hk
 have hlast:=inv.fl.last
 have hlen:=inv.fl.few.l
 have hroom:=inv.fl.few.r
 unfold JT at hroom
 have hall:=inv.gt.all
 have hlines:=inv.gt.lines
 have hgr:=inv.gt.room
 have hpat:=inv.gt.pat
 have hnow:=inv.now
 have hbl:=inv.bk.len
 have hr1:=inv.fl.r1
 have rn:=ev.hn
 rw[Oe hb hc]at hkk
 have hnm:=rn (.inr hc)
 by_cases hh:jA a.bk e.name=true
 ·have hc2:=(Qo (inv.bk.cfg _ (uX hh))).2.2.1
  have hcc:Xz a e.name≤1000:=Int.le_trans hc2.2 (by decide)
  have hsc:=inv.fl.scale hnm hcc (yj a e.name)
  have hgl:=hsc.few.l
  have hgr2:(Yn a.fl e.name (Xz a e.name) (yj a e.name)).1.room=a.fl.room:=rR ..
  have hgo:=rU ok.fl (rev:=e.name) (conc:=Xz a e.name) (want:=yj a e.name) (by omega) (by omega) (by omega)
  refine EX h i hi hs hc hnm hb rd' ev.hvc ev.hrv (by omega) (by omega) (by have:=hnm.size;omega) (λx hx=>?_) ?_ (λx hx=>?_) ?_ ?_ hkk
  ·unfold Kt at hx
   obtain⟨j,hj,rfl⟩:=List.mem_map.1 hx
   rw[List.mem_range]at hj
   have:=Pp a.fl e.name (yj a e.name)
   have:=ok.fl.lo
   omega
  ·unfold Kt
   rw[List.length_map,List.length_range]
   have:=Pp a.fl e.name (yj a e.name)
   omega
  ·have:=hgo.1 x hx;omega
  ·have:=hgo.2;omega
  ·unfold jL
   rw[List.length_map]
   have:(revs (ly a e.name).l e.name).length≤(ly a e.name).l.length:=List.length_filter_le ..
   unfold ly at this ⊢
   omega
 ·exact Gt h i hi hs hb rn rd' ev.hvc ev.hrv (f:=Yc) (by rw[hc];rfl) Vu (Vv (some ⟨b,0,none⟩) e.t) (λh hi _ hk=>bi h _ hi hs (by simpa using hh) hk) hkk
def Iv [Jp w0](h:St w0 E w)(i:Nat){b:Nat}{a:zK}{s:Seg}(hi:nth E i=some s)(hs:yN b a s){e:AEv}(hb:Zy e≠0)(ev:UL w0 E i e){k0:Nat}(inv:yI k0 a)(hk0:k0≤9000)(hn:a.sh.n<99){k:Sl→PT}(hk:HkI w0 E i b (k0+2) (zG a e) k) :
  L.call Pr zq [pO b,evV e] (.one (.one .slice)) k w:=by
 have ok:=hs.ok
 have rd':RdE w0 E eT e.v e.r.ts:=λw h=>ev.rd w (h.del i hi)
 have i2:yI (k0+2) (zG a e).1:=by rw[Od hb];exact inv.mono (Nat.le_add_right k0 2)
 have hkk:Hk w0 E i b (zG a e) k:=λv sv s' w' r hs' h=>hk v sv s' w' r hs' i2 h
 clear hk
 have hlast:=inv.fl.last
 have hlen:=inv.fl.few.l
 have hroom:=inv.fl.few.r
 unfold JT at hroom
 have hall:=inv.gt.all
 have hlines:=inv.gt.lines
 have hgr:=inv.gt.room
 have hpat:=inv.gt.pat
 have hnow:=inv.now
 have hbl:=inv.bk.len
 have hr1:=inv.fl.r1
 rw[Od hb]at hkk
 refine Iu h hb ev.hn rd' ev.hvc ev.hrv λv sv w r h=>hkk v sv s w r hs ?_
 rw[yw hi];exact h
class Kn(w0:World)(ks:Int→Bool):Prop where
 dos:∀{E:List Seg}{w:World},St w0 E w→∀(i:Nat){b:Nat}{a:zK}{s:Seg},nth E i=some s→yN b a s→∀{e:AEv},ks e.kind=true→Zy e=0→UL w0 E i e→∀{k0:Nat},yI k0 a→k0≤9000→a.sh.n<99→∀{k:Sl→PT},HkI w0 E i b (k0+2) (zG a e) k→
  L.call Pr zq [pO b,evV e] (.one (.one .slice)) k w
def EZ{ks:Int→Bool}[K:Kn w0 ks](h:St w0 E w)(i:Nat){b:Nat}{a:zK}{s:Seg}(hi:nth E i=some s)(hs:yN b a s){e:AEv}(hks:ks e.kind=true)(hb:Zy e=0)(ev:UL w0 E i e){k0:Nat}(inv:yI k0 a)(hk0:k0≤9000)(hn:a.sh.n<99){k:Sl→PT}(hk:HkI w0 E i b (k0+2) (zG a e) k) :
  L.call Pr zq [pO b,evV e] (.one (.one .slice)) k w:=K.dos h i hi hs hks hb ev inv hk0 hn hk
end Go.Proofs.YtdcdhcgmeahfmaaGreatDoor
namespace Go.Proofs.YtdcdhcgmeahfmaaGreatDoor
open Go.Dm
def cW(k:Int):Cfg:=(uO,k,1,0,1,0,())
structure GI(a:zK)(ver gen:Nat)(last:Int):Prop where
 n:a.sh.n=ver
 sh:(ver=0∧gen=0∧last = -1∧(JM a.sh.m uO).is=false∧(JM a.sh.m uO).gen=0)∨(0<ver∧0≤last∧0<gen∧JM a.sh.m uO=CC (cW last) ver gen true)
 gl:gen≤ver
 bk:∀g,1≤g→g<100→(jA a.bk (qi uO g)=true↔g≤gen)
 len:a.bk.all.length=gen
def z0c{a:YV}{c:Cfg}{ver:Int}(h1:Xw c=0)(h2:MI (JM a.m c.1) ver true=0):vZ a c ver=(⟨lb a.m c.1 c (a.n+1),a.r,a.n+1⟩,a.n+1,0):=by
 unfold vZ;rw[if_neg (by simpa using h1),if_neg (by simpa using h2)]
end Go.Proofs.YtdcdhcgmeahfmaaGreatDoor
namespace Go.Proofs.YtdcdhcgmeahfmaaGreatDoor
open Go.Dm
attribute [local irreducible] L.load L.store L.chk L.new L.nonnil L.guard L.ite L.draw L.idx L.sem L.semR L.semU L.chkSem L.next L.call L.callV L.join L.alts L.loop L.begin L.endRound L.range
variable {w0 w:World}{E:List Seg}
def eEv(e:AEv):List Value:=[I e.kind,.string e.name,.string e.tag,I e.n,I e.draw,.string e.c.1,I e.c.2.1,I e.c.2.2.1,I e.c.2.2.2.1,I e.c.2.2.2.2.1,I e.c.2.2.2.2.2.1,.string e.r.name,.string e.r.cfg,.slice e.v.a e.v.len e.v.cap,I e.r.roll]
def Mb:Enc eEv 15:=⟨λ_=>rfl,λ_=>rfl,by decide⟩
def zE(a:zK)(l:List AEv):zK:=l.foldl (λa e=>(zG a e).1) a
def Yi:zK→List AEv→List (List B0)
 | _,[]=>[]
 | a,e::l=>(zG a e).2::Yi (zG a e).1 l
def uN(a:zK)(e:AEv)(l:List AEv):zE a (e::l)=zE (zG a e).1 l:=rfl
def Mx(a:zK):zE a []=a:=rfl
def kq(a:zK)(e:AEv)(l:List AEv):Yi a (e::l)=(zG a e).2::Yi (zG a e).1 l:=rfl
def TG{a:zK}{l:List AEv}{j:Nat}{e:AEv}(h:l[j]? = some e):zE a (l.take (j+1))=(zG (zE a (l.take j)) e).1:=by
 unfold zE
 rw[List.take_succ,h,Option.toList_some,List.foldl_append]
 rfl
def sY(a:YV)(kind:Int)(n:B0)(v:Int):(tc a kind n v).1.n≤a.n+1:=by
 unfold tc
 repeat' split
 all_goals dsimp only;omega
def Hr(a:zK)(e:AEv):(zG a e).1.sh.n≤a.sh.n+1:=by
 by_cases hb:Zy e=0
 ·rcases Ry hb with hc | hc | hc | hc | hc | hc | hc | hc | hc | hc | hc | hc | hc
  ·rw[Cp hb hc];unfold ve vZ;repeat' split
   all_goals dsimp only;omega
  ·rw[wi hb hc];unfold Oc uk;repeat' split
   all_goals dsimp only;omega
  ·rw[Hs hb hc];unfold wg;have:=sY a.sh e.n e.name e.draw;split<;>exact this
  ·rw[pN hb hc];unfold YN;split<;>(dsimp only;omega)
  ·rw[pM hb hc];unfold vP;dsimp only;omega
  ·rw[pL hb hc];unfold fu;split<;>(dsimp only;omega)
  ·rw[FW hb (.inl hc)];unfold Ul;split<;>(dsimp only;omega)
  ·rw[FW hb (.inr hc)];unfold Ul;split<;>(dsimp only;omega)
  ·rw[FU hb hc];unfold xZ;split<;>(dsimp only;omega)
  ·rw[CI hb hc];unfold vX;repeat' split
   all_goals dsimp only;omega
  ·rw[CH hb hc];unfold oq;repeat' split
   all_goals dsimp only;omega
  ·rw[fx hb hc];unfold QS;repeat' split
   all_goals dsimp only;omega
  ·rw[Oe hb hc];unfold qt;split<;>(dsimp only;omega)
 ·rw[Od hb];dsimp only;omega
def WP:∀(l:List AEv)(a:zK),(zE a l).sh.n≤a.sh.n+l.length
 | [],a=>by simp[zE]
 | e::l,a=>by
  have h1:=WP l (zG a e).1
  have h2:=Hr a e
  rw[uN,List.length_cons]
  omega
abbrev evW(x:EvT):Value:=.agg #[.int .i64 x.1,.string x.2.1,.string x.2.2.1,.int .i64 x.2.2.2.1,.int .i64 x.2.2.2.2.1,.string x.2.2.2.2.2.1,.int .i64 x.2.2.2.2.2.2.1,.int .i64 x.2.2.2.2.2.2.2.1,.int .i64 x.2.2.2.2.2.2.2.2.1,.int .i64 x.2.2.2.2.2.2.2.2.2.1,.int .i64 x.2.2.2.2.2.2.2.2.2.2.1,.string x.2.2.2.2.2.2.2.2.2.2.2.1,.string x.2.2.2.2.2.2.2.2.2.2.2.2.1,.slice x.2.2.2.2.2.2.2.2.2.2.2.2.2.1.a x.2.2.2.2.2.2.2.2.2.2.2.2.2.1.len x.2.2.2.2.2.2.2.2.2.2.2.2.2.1.cap,.int .i64 x.2.2.2.2.2.2.2.2.2.2.2.2.2.2.1]
abbrev Aq:List Lf:=[.int .i64,.str,.str,.int .i64,.int .i64,.str,.int .i64,.int .i64,.int .i64,.int .i64,.int .i64,.str,.str,.slice,.int .i64]
abbrev evB(b:Nat)(l:List AEv):Seg:=[Cl b zC (fl eEv l)]
def EI{ks:Int→Bool}[Kn w0 ks]{b5 sb n:Nat}{l:List AEv}(hn:n=l.length)(hm:n≤1000){j:Nat}{e:AEv}(he:l[j]? = some e){a:zK}{s:Seg}(h:St w0 (s::evB b5 l::E) w)(hs:yN sb a s)(hke:ks e.kind=true∧Zy e=0)(ev:UL w0 (s::evB b5 l::E) 0 e)
  {k0:Nat} (inv:yI k0 a) (hk0:k0≤9000) (hsh:a.sh.n<99) {k:Sl→PT} (hk:∀v sv s' w',Rw eS zc 1 v (zG a e).2 sv→yN sb (zG a e).1 s'→yI (k0+2) (zG a e).1→St w0 (sv::s'::evB b5 l::E) w'→k v w') :
  L.idx (some ⟨b5,0,none⟩) (j:Int) n 15 (λa8=>L.load (.agg Aq) a8 λ(x:EvT)=>L.call Pr zq [pO sb,evW x] (.one (.one .slice)) k) w:=by
 have hj:j<l.length:=by
  rcases Nat.lt_or_ge j l.length with h | h
  ·exact h
  ·rw[List.getElem?_eq_none h]at he;cases he
 have r:Rw eEv zC 15 ⟨some ⟨b5,0,none⟩,n,n⟩ l (evB b5 l):=Rw.lit b5 l Mb rfl hn (Nat.le_trans hm (by decide))
 refine Rw.ix Mb r (n:=(j:Int)) (by omega) (by rw[Int.toNat_natCast];exact hj) λa8 ha=>?_
 rw[Int.toNat_natCast]at ha
 refine Rw.lda Mb h 1 rfl r ha he (y:=e.t) rfl ?_
 exact EZ h 0 rfl hs hke.1 hke.2 ev inv hk0 hsh λv sv s' w r hs i2 h=>hk v sv s' w r hs i2 h
def rH{ks:Int→Bool}[Kn w0 ks]{b5 sb n:Nat}{l:List AEv}(hn:n=l.length)(hm:n≤1000){a:zK}{s:Seg}(h:St w0 (s::evB b5 l::E) w)(hs:yN sb a s)(hke:∀e∈l,ks e.kind=true∧Zy e=0)(ev:∀e∈l,∀s,UL w0 (s::evB b5 l::E) 0 e)
  {k0:Nat} (inv:yI k0 a) (hk0:k0+2*n≤9000) (hsh:a.sh.n+n<99) {rest:PT} (hr:∀s' w',yN sb (zE a l) s'→yI (k0+2*n) (zE a l)→St w0 (s'::evB b5 l::E) w'→rest w') :
  L.loop (Y:=Int×Unit) (0,()) (λy again=>L.ite (decide (y.1<((n:Nat):Int))) (L.idx (some ⟨b5,0,none⟩) y.1 n 15 (λa8=>L.load (.agg Aq) a8 λ(x:EvT)=>L.call Pr zq [pO sb,evW x] (.one (.one .slice)) λ_=>again (Wi (y.1+1),()))) rest) w:=by
 refine zW (λq y w=>∃(j:Nat)(s:Seg),@Eq Int y.1 j∧q+j=n∧yN sb (zE a (l.take j)) s∧yI (k0+2*j) (zE a (l.take j))∧St w0 (s::evB b5 l::E) w) n ⟨0,s,rfl,rfl,hs,inv,h⟩ ?_
 clear hs inv
 clear h;(try clear w)
 rintro q ⟨y,⟨⟩⟩ w ⟨j,s,hy,hq,hs,inv,h⟩ again hag
 (try dsimp only)
 simp only at hy
 subst hy
 refine it (λhb=>?_) (λhb=>?_)<;>(try simp only[zB]at hb)
 ·have hj:j<l.length:=by omega
  have hx:l[j]? = some l[j]:=List.getElem?_eq_getElem hj
  have hnn:=WP (l.take j) a
  have hlt:(l.take j).length≤j:=by rw[List.length_take];omega
  refine EI hn hm hx h hs (hke _ (List.getElem_mem hj)) (ev _ (List.getElem_mem hj) s) inv (by omega) (by omega) λv sv s' w r hs i2 h=>?_
  refine hag (q-1) _ w (by omega) ⟨j+1,s',?_,by omega,?_,?_,zl h⟩
  ·show Wi _=_
   rw[wr (by omega) (by omega)];omega
  ·rw[TG hx];exact hs
  ·rw[TG hx];exact i2
 ·have ej:l.take j=l:=List.take_of_length_le (by omega)
  have e:j=n:=by omega
  rw[ej]at hs inv
  subst e
  exact hr s w hs inv h
abbrev evC(ver:Int)(c:Cfg):AEv:=⟨1,s_,s_,ver,0,c,vp,wC⟩
abbrev evR(ver:Int)(r:ARt)(v:Sl):AEv:=⟨2,s_,s_,ver,0,VN,r,v⟩
abbrev Kv(n:Int)(name tag:B0)(draw:Int):AEv:=⟨4,name,tag,n,draw,VN,vp,wC⟩
abbrev evN(kind n:Int):AEv:=⟨kind,s_,s_,n,0,VN,vp,wC⟩
abbrev xG(kind:Int)(name:B0):AEv:=⟨kind,name,s_,0,0,VN,vp,wC⟩
def IP{ver:Int}{c:Cfg}(hv:0≤ver∧ver≤2147483647)(hc:Xw c=0):Zy (evC ver c)=0:=by
 have hn:mZ (true,false,false,false,true,false,()) (evC ver c)=true:=by simp[mZ,NN,vp]
 have hm:Pd (evC ver c)=true:=by
  simp only[Pd,wiB]
  rw[if_pos (.inl trivial)]
  simp only[Bool.and_eq_true,decide_eq_true_eq]
  omega
 unfold Zy
 have hp:shp 1=((true,false,false,false,true,false,()),true):=rfl
 simp only[hp]
 rw[if_neg (by decide)]
 unfold wQ
 rw[hn,hm]
 simp[hc]
def z2T{ver:Int}{r:ARt}{v:Sl}(hv:0≤ver∧ver≤2147483647)(hr:Of r=0):Zy (evR ver r v)=0:=by
 have hn:mZ (true,false,false,false,false,true,()) (evR ver r v)=true:=by
  have:VM VN VN=true:=by decide
  simp[mZ,this]
 have hm:Pd (evR ver r v)=true:=by
  simp only[Pd,wiB]
  rw[if_pos (.inr trivial)]
  simp only[Bool.and_eq_true,decide_eq_true_eq]
  omega
 unfold Zy
 have hp:shp 2=((true,false,false,false,false,true,()),true):=rfl
 simp only[hp]
 rw[if_neg (by decide)]
 unfold wQ
 rw[hn,hm]
 simp[hr]
def NH{kind n:Int}(hk:kind=5∨kind=6∨kind=7∨kind=8)(hv:1≤n∧n≤2147483647):Zy (evN kind n)=0:=by
 have hn:mZ (true,false,false,false,false,false,()) (evN kind n)=true:=by
  have:VM VN VN=true:=by decide
  simp[mZ,NN,vp,this]
 have hm:Pd (evN kind n)=true:=by
  simp only[Pd,wiB]
  rw[if_neg (by omega),if_neg (by omega)]
  simp only[Bool.and_eq_true,decide_eq_true_eq]
  omega
 have hp:shp kind=((true,false,false,false,false,false,()),true):=by rcases hk with rfl | rfl | rfl | rfl<;>rfl
 unfold Zy
 simp only[hp]
 rw[if_neg (by decide)]
 unfold wQ
 rw[hn,hm]
 simp
def IQ{n draw:Int}{name tag:B0}(hnm:yn name.data.toList 16=true)(ht:tag=s_∨yn tag.data.toList 8=true)(hv:1≤n∧n≤2147483647)(hd:0≤draw∧draw≤2147483647):Zy (Kv n name tag draw)=0:=by
 have hn:mZ (true,true,true,true,false,false,()) (Kv n name tag draw)=true:=by
  have:VM VN VN=true:=by decide
  simp[mZ,NN,vp,this]
 have hm:Pd (Kv n name tag draw)=true:=by
  simp only[Pd,wiB]
  rw[if_neg (by decide),if_neg (by decide)]
  simp only[Bool.and_eq_true,decide_eq_true_eq]
  omega
 have hnn:fH (Kv n name tag draw)=true:=by unfold fH;rw[if_neg (show ¬((4:Int)=12∨(4:Int)=13)by decide)];exact hnm
 have hdd:wiB draw 0 2147483647=true:=by unfold wiB;simp;omega
 have htt:¬(tag≠s_∧yn tag.data.toList 8=false):=by
  rintro⟨h1,h2⟩
  rcases ht with e | e
  ·exact h1 e
  ·rw[e]at h2;cases h2
 unfold Zy
 have hp:shp 4=((true,true,true,true,false,false,()),true):=rfl
 simp only[hp]
 rw[if_neg (by decide)]
 unfold wQ
 rw[hn,hm,hnn,hdd]
 simp only[reduceCtorEq,if_false,and_false,true_and,if_neg htt]
def fC:Fc gA:=⟨uO,1,by decide,by decide,by decide,by decide +kernel⟩
end Go.Proofs.YtdcdhcgmeahfmaaGreatDoor
