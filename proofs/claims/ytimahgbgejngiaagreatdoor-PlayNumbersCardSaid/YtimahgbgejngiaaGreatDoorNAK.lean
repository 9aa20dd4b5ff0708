/- What is proved on the way to a statement of the seat, pressed (text AK). No conditions beyond those its theorems state. -/
import Derived.Test.YtimahgbgejngiaaGreatDoorNAJ
set_option linter.all false
namespace Go.Proofs.YtimahgbgejngiaaGreatDoor
open Go.Dm
attribute [local irreducible] L.load L.store L.chk L.new L.nonnil L.guard L.ite L.draw L.idx L.sem L.semR L.semU L.chkSem L.next L.call L.callV L.join L.alts L.loop L.begin L.endRound L.range
variable {w0 w:World}{E:List Seg}
structure GY where
 xs:List Int
 want:Int
 left:Int
structure Zd where
 sh:Yu
 bk:yH
 ro:VT
 fl:zk
 gt:Zq
 by':List (B0×GY)
 now:Int
structure BsE where
 k:B0
 b:Nat
 g:Nat
 x:GY
 sgg:Seg
abbrev BsE.cell(x:BsE):Seg:=[Cl x.b XE [.pointer (some ⟨x.g,0,none⟩),I x.x.want,I x.x.left]]
abbrev BsE.sg(x:BsE):Seg:=x.cell++x.sgg
abbrev BsE.kp(x:BsE):B0×Option Addr:=(x.k,some ⟨x.b,0,none⟩)
abbrev BsE.ka(x:BsE):B0×GY:=(x.k,x.x)
def BsE.ok(x:BsE):Prop:=At x.g x.x.xs x.sgg
structure Bls where
 s:Nat
 k:Nat
 r:Nat
 f:Nat
 g:Nat
 m:Nat
abbrev UT(b:Nat)(p:Bls)(now:Int):Seg:=[Cl b Gm [.pointer (some ⟨p.s,0,none⟩),.pointer (some ⟨p.k,0,none⟩),.pointer (some ⟨p.r,0,none⟩),.pointer (some ⟨p.f,0,none⟩),.pointer (some ⟨p.g,0,none⟩),.map (some p.m),I now]]
structure z3a(a:Zd)(p:Bls)(sg sf ss sk sr sm:Seg)(Q:List BsE):Prop where
 gt:GtS p.g p.f a.gt sg
 fl:FlS p.f a.fl sf
 sh:ShS p.s a.sh ss
 bk:BkS p.k a.bk sk
 ro:LW p.r a.ro sr
 mp:MpS Value.string Value.pointer p.m (Q.map BsE.kp) sm
 ea:∀x∈Q,x.ok
 ab:a.by'=Q.map BsE.ka
abbrev z1R(b:Nat)(a:Zd)(p:Bls)(sg sf ss sk sr sm:Seg)(Q:List BsE):Seg:=UT b p a.now++(sg++(sf++(ss++(sk++(sr++(sm++(Q.map BsE.sg).flatten))))))
def Jq(b:Nat)(a:Zd)(s:Seg):Prop:=∃(p:Bls)(sg sf ss sk sr sm:Seg)(Q:List BsE),z3a a p sg sf ss sk sr sm Q∧s=z1R b a p sg sf ss sk sr sm Q
def _root_.Go.Dm.St.split8{a b c d e f g i:Seg}(h:St w0 ((a++(b++(c++(d++(e++(f++(g++i)))))))::E) w):St w0 (a::b::c::d::e::f::g::i::E) w:=h.eq (by simp)
def _root_.Go.Dm.St.glue8{a b c d e f g i:Seg}(h:St w0 (a::b::c::d::e::f::g::i::E) w):St w0 ((a++(b++(c++(d++(e++(f++(g++i)))))))::E) w:=h.eq (by simp)
def YJ{sv a b c d e f g j s:Seg}(i:Nat)(hi:nth E i=some s)(h:St w0 (sv::a::b::c::d::e::f::g::j::Zi E i) w):St w0 (sv::zd E i (a++(b++(c++(d++(e++(f++(g++j)))))))) w:=by
 have h:=xx (xx (xx (xx (xx (xx (xx (xx h)))))));have h:=h.glue8;exact St.back (E:=sv::E) (i+1) hi h
def tE:Pr.underlying Zx=some (.map zc qf):=by kernel_rfl
abbrev slK(k:Sl→PT):Value→PT:=λv w'=>∃x,v=RT.val (.one (.one .slice)) x∧k x w'
abbrev Hk(w0:World)(E:List Seg)(i b:Nat)(r:Zd×List B0)(k:Sl→PT):Prop:=∀v sv s' w',Rw eS zc 1 v r.2 sv→Jq b r.1 s'→St w0 (sv::zd E i s') w'→k v w'
def US(a:Zd)(e:AEv):Zd×List B0:=({ a with sh:=(kO a.sh e.c e.n).1 },al la e.c.1 (kO a.sh e.c e.n).2.1 (kO a.sh e.c e.n).2.2)
def BV(a:Yu)(c:Cfg)(ver:Int)(h0:0≤a.n)(h1:a.n<900000000):0≤(kO a c ver).2.1∧(kO a c ver).2.1≤9000000000000000000:=by
 unfold kO;split
 ·exact⟨Int.le_refl 0,by show(0:Int)≤_;decide⟩
 ·split
  ·exact⟨Int.le_refl 0,by show(0:Int)≤_;decide⟩
  ·dsimp only;omega
def LO [YB w0](h:St w0 E w)(i:Nat){b:Nat}{a:Zd}{s:Seg}(hi:nth E i=some s)(hs:Jq b a s){e:AEv}(hn:a.sh.n<900000000)(hsz:e.c.1.size≤1000000){k:Sl→PT}(hk:Hk w0 E i b (US a e) k) :
  Xt (some ⟨b,0,none⟩) e.t (slK k) w:=by
 obtain⟨p,sg,sf,ss,sk,sr,sm,Q,R,rfl⟩:=hs;have hlo:=R.sh.1.lo;unfold Xt;have h:=(h.front i hi).split8;refine nw h ?_;clear h;intro b1 w h
 (dsimp only[zd,List.cons_append,List.nil_append]at h;refine dr h ?_;clear h;intro w h;refine nn ?_;refine ldC h ?_;refine laC h ?_;refine ldC h ?_;rw[Je])
 refine HO (c:=e.c) h 4 rfl R.sh hn λss' w hS h=>?_;dsimp only[zd]at h
 (refine ldC h ?_)
 have hv:=BV a.sh e.c e.n hlo hn;refine Ia h (by decide) hsz hv λv sv w r h=>?_;refine⟨v,rfl,hk v sv _ w r ⟨p,sg,sf,ss',sk,sr,sm,Q,⟨R.gt,R.fl,hS,R.bk,R.ro,R.mp,R.ea,R.ab⟩,rfl⟩ ?_⟩;exact YJ i hi (yw h)
def kN(a:Zd)(e:AEv):Zd×List B0:=({ a with sh:=(QY a.sh e.r e.n).1 },al Bb e.r.name (QY a.sh e.r e.n).2.1 (QY a.sh e.r e.n).2.2)
def rO(a:Yu)(r:ARt)(ver:Int)(h0:0≤a.n)(h1:a.n<900000000):0≤(QY a r ver).2.1∧(QY a r ver).2.1≤9000000000000000000:=by
 unfold QY;split
 ·exact⟨Int.le_refl 0,by show(0:Int)≤_;decide⟩
 ·split
  ·exact⟨Int.le_refl 0,by show(0:Int)≤_;decide⟩
  ·dsimp only;omega
def RZ [YB w0](h:St w0 E w)(i:Nat){b:Nat}{a:Zd}{s:Seg}(hi:nth E i=some s)(hs:Jq b a s){e:AEv}(hn:a.sh.n<900000000)(hsz:e.r.name.size≤1000000)(hfew:a.sh.Few)(rd:RdE w0 (Zi E i) eT e.v e.r.ts)(hvc:e.v.len≤e.v.cap)(h0:e.v.a=none→e.r.ts = [])(hrv:∀t∈e.r.ts,Qo t.1)
  {k:Sl→PT} (hk:Hk w0 E i b (kN a e) k):XW (some ⟨b,0,none⟩) e.t (slK k) w:=by
 obtain⟨p,sg,sf,ss,sk,sr,sm,Q,R,rfl⟩:=hs;have hlo:=R.sh.1.lo;unfold XW;have h:=(h.front i hi).split8;refine nw h ?_;clear h;intro b1 w h
 (dsimp only[zd,List.cons_append,List.nil_append]at h;refine dr h ?_;clear h;intro w h;refine nn ?_;refine ldC h ?_;refine laC h ?_;refine ldC h ?_;rw[Je])
 refine eO (r:=e.r) (v:=e.v) h 4 rfl R.sh hfew hn (λw h=>?_) hvc h0 hrv λss' w hS h=>?_
 ·exact rd w (zj (zj (zj (zj (zj (zj (zj (zj h))))))))
 dsimp only[zd]at h
 (refine ldC h ?_)
 have hv:=rO a.sh e.r e.n hlo hn;refine Ia h (by decide) hsz hv λv sv w r h=>?_;exact⟨v,rfl,hk v sv _ w r ⟨p,sg,sf,ss',sk,sr,sm,Q,⟨R.gt,R.fl,hS,R.bk,R.ro,R.mp,R.ea,R.ab⟩,rfl⟩ (YJ i hi (yw h))⟩
def VY(a:Zd)(e:AEv):Zd×List B0:=
 ({ a with gt:=(qb a.fl a.gt e.n).2.1,fl:=(qb a.fl a.gt e.n).1 },if(qb a.fl a.gt e.n).2.2.2≠0 then JU (qb a.fl a.gt e.n).2.2.2 else(qb a.fl a.gt e.n).2.2.1.map Qt)
def Af [YB w0](h:St w0 E w)(i:Nat){b:Nat}{a:Zd}{s:Seg}(hi:nth E i=some s)(hs:Jq b a s){e:AEv}(hfew:jQ a.fl)(hn:a.gt.all.length<80000000)(hl:a.gt.lines.length<90000000)(hf:∀f∈(qb a.fl a.gt e.n).2.2.1,f.Ok)(hfl:(qb a.fl a.gt e.n).2.2.1.length<100000000)
  {k:Sl→PT} (hk:Hk w0 E i b (VY a e) k):qL (some ⟨b,0,none⟩) e.t (slK k) w:=by
 obtain⟨p,sg,sf,ss,sk,sr,sm,Q,R,rfl⟩:=hs;unfold qL;have h:=(h.front i hi).split8;refine nw h ?_;clear h;intro b1 w h
 (dsimp only[zd,List.cons_append,List.nil_append]at h;refine dr h ?_;clear h;intro w h;refine nn ?_;refine ldC h ?_;refine ldC h ?_)
 have h:=Ys (Ys h);refine ir h R.gt R.fl hfew hn hl λv sv sg' sf' w hr hG hF h=>?_;unfold VY at hk;refine it (λhc=>?_) (λhc=>?_)
 ·have hc:(qb a.fl a.gt e.n).2.2.2≠0:=by simpa using hc
  rw[if_pos hc]at hk;refine JT h λv s w r h=>?_;refine⟨v,rfl,hk v s _ w r ⟨p,sg',sf',ss,sk,sr,sm,Q,⟨hG,hF,R.sh,R.bk,R.ro,R.mp,R.ea,R.ab⟩,rfl⟩ ?_⟩;have h:=yw (uU h);have h:=Ys (Ys (Zm (Zm h)));exact YJ i hi h
 ·have hc:¬(qb a.fl a.gt e.n).2.2.2≠0:=by simpa using hc
  rw[if_neg hc]at hk;refine Tl h.nil (l:=[]) hr hf hfl (by decide) Rw.nil λv s w r h=>?_;refine⟨v,rfl,hk v s _ w (by simpa using r) ⟨p,sg',sf',ss,sk,sr,sm,Q,⟨hG,hF,R.sh,R.bk,R.ro,R.mp,R.ea,R.ab⟩,rfl⟩ ?_⟩;have h:=yw (uU h);have h:=Ys (Ys (Zm (Zm h)));exact YJ i hi h
def EF(a:Zd)(e:AEv):yH:=if xe a.bk (fOf (qn a.fl e.n).1.l e.n)=true then a.bk else(ox a.bk (fOf (qn a.fl e.n).1.l e.n)).1
def Cr(a:Zd)(e:AEv):List B0:=
 if xe a.bk (fOf (qn a.fl e.n).1.l e.n)=true then [ZK WZ [jw e.n.toNat]]else [ZK WZ [jw e.n.toNat],ZK Pf [fOf (qn a.fl e.n).1.l e.n]]
abbrev oJ(a:Zd)(e:AEv):zk×Zq×List yG:=JD (qn a.fl e.n).1 a.gt (fOf (qn a.fl e.n).1.l e.n)
def pY(a:Zd)(e:AEv):Zd×List B0:=
 if(qn a.fl e.n).2≠0 then({ a with fl:=(qn a.fl e.n).1 },JU (qn a.fl e.n).2)
 else({ a with fl:=(oJ a e).1,gt:=(oJ a e).2.1,bk:=EF a e },Cr a e++(oJ a e).2.2.map Qt)
abbrev eEw (e : AEv) : List Value := [I e.kind, .string e.name, .string e.tag, I e.n, I e.draw, .string e.c.1, I e.c.2.1, I e.c.2.2.1, I e.c.2.2.2.1, I e.c.2.2.2.2.1, I e.c.2.2.2.2.2.1, .string e.r.name, .string e.r.cfg, SlV e.v, I e.r.roll]
def HL [YB w0](h:St w0 E w)(i:Nat){b:Nat}{a:Zd}{s:Seg}(hi:nth E i=some s)(hs:Jq b a s){e:AEv}(he:0≤e.n∧e.n≤9000000000000000000)(hrv:(fOf (qn a.fl e.n).1.l e.n).size≤1000000)(hfew:jQ (qn a.fl e.n).1)(hn:a.gt.all.length<80000000)(hl:a.gt.lines.length<90000000)
  (hf:∀f∈(oJ a e).2.2,f.Ok) (hfl:(oJ a e).2.2.length<100000000) {k:Sl→PT} (hk:Hk w0 E i b (pY a e) k):uv (some ⟨b,0,none⟩) e.t (slK k) w:=by
 obtain⟨p,sg,sf,ss,sk,sr,sm,Q,R,rfl⟩:=hs;unfold uv;have h:=(h.front i hi).split8;refine nw h ?_;clear h;intro b1 w h
 (dsimp only[zd,List.cons_append,List.nil_append]at h;refine dr h ?_;clear h;intro w h;refine nn ?_;refine ldC h ?_;refine ldC h ?_)
 unfold pY at hk;refine z0q h 3 rfl R.fl λsf' w hF h=>?_;dsimp only[zd]at h;refine it (λhc=>?_) (λhc=>?_)
 ·have hc:(qn a.fl e.n).2≠0:=by simpa using hc
  rw[if_pos hc]at hk;refine JT h λv s w r h=>?_;exact⟨v,rfl,hk v s _ w r ⟨p,sg,sf',ss,sk,sr,sm,Q,⟨R.gt,hF,R.sh,R.bk,R.ro,R.mp,R.ea,R.ab⟩,rfl⟩ (YJ i hi (yw h))⟩
 have hc:¬(qn a.fl e.n).2≠0:=by simpa using hc
 rw[if_neg hc]at hk;unfold EF Cr oJ at hk;unfold oJ at hf hfl;generalize (qn a.fl e.n).1=F at *
 (refine dr h ?_;clear h;intro w h;refine nn ?_;refine ldC h ?_;refine ldC h ?_)
 refine z2t h 3 rfl hF ?_;generalize fOf F.l e.n=rev at *
 (refine ldC h ?_)
 refine nw h ?_;clear h;intro b12 w h;refine qA h (by decide) he.1 he.2 λw h=>?_;have hsu:(ZK WZ [jw e.n.toNat]).size≤10000:=by rw[vl];have:=Wb he.1 he.2;have:WZ.size=2:=rfl;omega
 refine nw h ?_;clear h;intro b14 w h
 refine ZC (λ(z:Sl×Unit) w=>∃(s1 sk':Seg),Rw eS zc 1 z.1 (if xe a.bk rev=true then [ZK WZ [jw e.n.toNat]]else [ZK WZ [jw e.n.toNat],ZK Pf [rev]]) s1∧BkS p.k (if xe a.bk rev=true then a.bk else(ox a.bk rev).1) sk'∧
  St w0 (s1::[Cl b1 zP (eEw e)]::UT b p a.now::sg::sf'::ss::sk'::sr::sm::(Q.map BsE.sg).flatten::Zi E i) w) (λk15 hk15=>?_) ?_
 ·(refine nn ?_;refine ldC h ?_)
  refine Dz h 6 rfl R.bk λw h=>?_
  cases hp:xe a.bk rev with
  | true=>
   rw[hp]at hk15;refine itF rfl ?_;exact hk15 (_,()) w ⟨_,sk,Rw.lit b14 [_] yu rfl rfl (by decide),R.bk,h⟩
  | false=>
   rw[hp]at hk15;refine itT rfl ?_
   (refine nn ?_;refine ldC h ?_)
   refine Aq h 6 rfl R.bk λsk' w hK h=>?_;dsimp only[zd]at h;refine nw h ?_;clear h;intro b23 w h;refine ut h (by decide) (by omega) λw h=>?_;refine nw h ?_;clear h;intro b25 w h;refine Rw.app yu elS h 0 rfl (Rw.lit b14 [ZK WZ [jw e.n.toNat]] yu rfl rfl (by simp[maxLen])) (ZK Pf [rev]) rfl (by simp) (by simp) λv' s' w hr' h=>?_;exact hk15 (_,()) w ⟨s',sk',hr',hK,h⟩
 ·clear h;rintro⟨vo,⟨⟩⟩ w ⟨s1,sk',r1,hK,h⟩
  (refine nn ?_;refine ldC h ?_)
  have h:=yM (yM h);refine Wl h R.gt hF hfew (by omega) hl λv sv sg' sf'' w hr hG hF h=>?_;have h:=Ys h;refine Tl h (v2:=vo) hr hf hfl (by split<;>simp) r1 λv s w r h=>?_;refine⟨v,rfl,hk v s _ w r ⟨p,sg',sf'',ss,sk',sr,sm,Q,⟨hG,hF,R.sh,hK,R.ro,R.mp,R.ea,R.ab⟩,rfl⟩ ?_⟩;have h:=yw (uU h);have h:=Ys (Ys (Zm (Zm h)));exact YJ i hi h
abbrev gb(c:Cfg):Int:=if 1 > @id Int c.2.2.2.1 then 1 else @id Int c.2.2.2.1
abbrev stp(a:Zd)(n:B0):yH×B0×Bool:=Xp a.bk (jx a.sh n).1 (@id Int (jx a.sh n).2.2.1).toNat
def Uc(a:Zd)(e:AEv):Zd×List B0:=
 if(jx a.sh e.name).2.2.2.1=false then(a,JU 6)else if @id Int (jx a.sh e.name).2.2.1>999999 then(a,JU 3)
 else if(stp a e.name).2.2=false then({ a with bk:=(stp a e.name).1 },[ZK AR [(stp a e.name).2.1]])
 else({ a with bk:=(stp a e.name).1,by':=Zp a.by' (stp a e.name).2.1 ⟨[],gb (jx a.sh e.name).1,0⟩ },[ZK gw [(stp a e.name).2.1],ZK (ZK JL [(stp a e.name).2.1]) [jw (gb (jx a.sh e.name).1).toNat]])
def EP(a:yH)(c:Cfg)(g:Nat):(Xp a c g).2.1=qm c.1 g:=by unfold Xp;split<;>rfl
def RX [YB w0](h:St w0 E w)(i:Nat){b:Nat}{a:Zd}{s:Seg}(hi:nth E i=some s)(hs:Jq b a s){e:AEv}
  (hst:(jx a.sh e.name).2.2.2.1=true→ZZ (jx a.sh e.name).1.1.data.toList 16=true∧1≤@id Int (jx a.sh e.name).2.2.1∧@id Int (jx a.sh e.name).2.2.1<100∧@id Int (jx a.sh e.name).1.2.2.2.1≤1000000) (hf:a.bk.all.length<999999)
  {k:Sl→PT} (hk:Hk w0 E i b (Uc a e) k):XU (some ⟨b,0,none⟩) e.t (slK k) w:=by
 have hs0:=hs;obtain⟨p,sg,sf,ss,sk,sr,sm,Q,R,rfl⟩:=hs;unfold XU;unfold Uc stp at hk;have h:=(h.front i hi).split8;refine nw h ?_;clear h;intro b1 w h
 refine ZC (λ(z:Addr×Int×Bool×Unit) w=>∃b8:Nat,z=(⟨b8,0,none⟩,(jx a.sh e.name).2.2.1,(jx a.sh e.name).2.2.2.1,())∧
  St w0 ([Cl b8 zF (Cfg.cells (jx a.sh e.name).1)]::UT b p a.now::sg::sf::ss::sk::sr::sm::(Q.map BsE.sg).flatten::Zi E i) w) (λk2 hk2=>?_) ?_
 ·(dsimp only[zd,List.cons_append,List.nil_append]at h;refine dr h ?_;clear h;intro w h;refine nn ?_;refine ldC h ?_;refine ldC h ?_)
  refine VD ?_ ?_
  ·refine Dv h 4 rfl R.sh λw h=>?_;refine nw h ?_;clear h;intro b8 w h
   (refine ckC h ?_;refine ckC h ?_;refine stC h ?_;clear h;intro w h;dsimp only[zE,zd]at h)
   exact hk2 _ w ⟨b8,rfl,yw h⟩
  ·refine nw h ?_;clear h;intro b8 w h
   (refine ckC h ?_;refine ckC h ?_)
   refine Dv h 5 rfl R.sh λw h=>?_
   (refine stC h ?_;clear h;intro w h;dsimp only[zE,zd]at h)
   exact hk2 _ w ⟨b8,rfl,yw h⟩
 clear h;rintro z w ⟨b8,rfl,h⟩
 (try dsimp only)
 refine it (λhc=>?_) (λhc=>?_)
 ·have hc:(jx a.sh e.name).2.2.2.1=false:=by simpa using hc
  rw[if_pos hc]at hk;refine JT h λv s w r h=>?_;exact⟨v,rfl,hk v s _ w r hs0 (YJ i hi (yw h))⟩
 have hc:(jx a.sh e.name).2.2.2.1=true:=by simpa using hc
 rw[if_neg (by simp[hc])]at hk;obtain⟨st1,st2,st3,st4⟩:=hst hc;have hmin:0≤gb (jx a.sh e.name).1∧gb (jx a.sh e.name).1≤1000000:=by
  unfold gb;split<;>omega
 unfold gb at hk hmin;generalize jx a.sh e.name=z at *
 obtain⟨c,ver,gen,is,⟨⟩⟩:=z;dsimp only at hk hc hmin h st1 ⊢;simp only[id]at st2 st3 st4;refine it (λh2=>?_) (λh2=>?_)
 ·exact absurd (of_decide_eq_true h2) (by simp only[Int.not_lt,gt_iff_lt];omega)
 have hng:¬@id Int gen>999999:=by simp only[id];omega
 rw[if_neg hng]at hk
 (refine dr h ?_;clear h;intro w h;refine nn ?_;refine ldC h ?_;refine laC h ?_)
 obtain⟨g,rfl⟩:∃g:Nat,gen=(g:Int):=⟨@Int.toNat gen,by omega⟩
 have hg1:1≤g:=by have:(1:Int)≤(g:Int):=st2
                  omega
 have hg2:g<100:=by have:(g:Int)<100:=st3
                    omega
 simp only[id,Int.toNat_natCast]at hk hmin;refine Ap (c:=c) h 5 rfl R.bk st1 hg1 hg2 hf λsk' w hK h=>?_;dsimp only[zd]at h;have hrev:=EP a.bk c g;have hsz:(qm c.1 g).size≤1000000:=by have:=dj c.1 hg2;have:=UW st1;omega
 rw[←hrev]at hsz;clear hrev;generalize (Xp a.bk c g).2.1=rev at *
 have hfr:∀x:Bool,(Xp a.bk c g).2.2=x→True:=λ_ _=>trivial;generalize (Xp a.bk c g).2.2=fr at *
 generalize (Xp a.bk c g).1=K at *
 cases fr with
 | false=>
  rw[if_pos rfl]at hk;refine itT rfl ?_;refine nw h ?_;clear h;intro b17 w h;refine ut h (by decide) (by omega) λw h=>?_;refine nw h ?_;clear h;intro b19 w h;exact⟨_,rfl,hk _ _ _ w (Rw.lit b19 [_] yu rfl rfl (by simp[maxLen])) ⟨p,sg,sf,ss,sk',sr,sm,Q,⟨R.gt,R.fl,R.sh,hK,R.ro,R.mp,R.ea,R.ab⟩,rfl⟩ (YJ i hi (yw h))⟩
 | true=>
  rw[if_neg (by decide)]at hk;refine itF rfl ?_
  (refine ldC h ?_;refine dr h ?_;clear h;intro w h;refine nn ?_;refine ldC h ?_)
  refine io h λbg sgg w hG h=>?_
  (refine ckC h ?_)
  refine nw h ?_;clear h;intro b24 w h
  (refine ckC h ?_)
  refine MpS.set uH tE h 9 rfl R.mp (some ⟨b24,0,none⟩) rfl λsm' w hm' h=>?_;dsimp only[zd]at h;refine nw h ?_;clear h;intro b25 w h;refine ut h (by decide) (by omega) λw h=>?_;refine nw h ?_;clear h;intro b27 w h;refine ut h (by decide) (by omega) λw h=>?_;have hl:(ZK JL [rev]).size≤100000000:=by rw[vl];have:JL.size=5:=rfl;omega
  refine nw h ?_;clear h;intro b29 w h;refine qA h hl hmin.1 (by omega) λw h=>?_;refine nw h ?_;clear h;intro b31 w h;have h:St w0 ([Cl b31 zc [.string (ZK gw [rev]),.string (ZK (ZK JL [rev]) [jw (if 1 > @id Int c.2.2.2.1 then 1 else @id Int c.2.2.2.1).toNat])]]::[Cl b24 XE [.pointer (some ⟨bg,0,none⟩),I (if 1 > @id Int c.2.2.2.1 then 1 else @id Int c.2.2.2.1),I 0]]::sgg::[Cl b8 zF (Cfg.cells c)]::UT b p a.now::sg::sf::ss::sk'::sr::sm'::(Q.map BsE.sg).flatten::Zi E i) w:=h;have h:=Qj h;have h:=Zm (Zm h);have h:=h.glue;have h:=yL (oT h);have h:St w0 (BsE.sg ⟨rev,b24,bg,⟨[],(if 1 > @id Int c.2.2.2.1 then 1 else @id Int c.2.2.2.1),0⟩,sgg⟩::(Q.map BsE.sg).flatten::[Cl b31 zc [.string (ZK gw [rev]),.string (ZK (ZK JL [rev]) [jw (if 1 > @id Int c.2.2.2.1 then 1 else @id Int c.2.2.2.1).toNat])]]::UT b p a.now::sg::sf::ss::sk'::sr::sm'::Zi E i) w:=h;have h:=St.lput (key:=BsE.k) h;have h:=xx (xx (xx (xx (xx (xx (xx (xx h)))))));have e5:=Kb (key:=BsE.k) (λx:BsE=>(some ⟨x.b,0,none⟩:Option Addr)) ⟨rev,b24,bg,⟨[],(if 1 > @id Int c.2.2.2.1 then 1 else @id Int c.2.2.2.1),0⟩,sgg⟩ Q;have e6:=Kb (key:=BsE.k) BsE.x ⟨rev,b24,bg,⟨[],(if 1 > @id Int c.2.2.2.1 then 1 else @id Int c.2.2.2.1),0⟩,sgg⟩ Q;refine⟨_,rfl,hk _ _ _ w (Rw.lit b31 [_,_] yu rfl rfl (by simp[maxLen])) ⟨p,sg,sf,ss,sk',sr,sm',_,⟨R.gt,R.fl,R.sh,hK,R.ro,by rw[←e5]at hm';exact hm',λy hy=>?_,?_⟩,rfl⟩ (YJ i hi h)⟩
  ·rcases Pt hy with rfl | hy
   ·exact hG
   ·exact R.ea y hy
  ·show Zp a.by' _ _=_;rw[R.ab];exact e6.symm
abbrev cr(a:Zd)(n:B0):vC×Int:=resolve a.bk (Qy a.sh n).1
abbrev NB(a:Zd)(n:B0):vC:=Ge a.ro n (cr a n).1 a.now (Qy a.sh n).1.roll
def VX(a:Zd)(e:AEv):Zd×List B0:=
 if(Qy a.sh e.name).2.2=false then(a,JU 6)else if(cr a e.name).2≠0 then(a,JU (cr a e.name).2)
 else({ a with ro:=di a.ro e.name (cr a e.name).1 a.now (Qy a.sh e.name).1.roll },[ZK bY [e.name,Cx (NB a e.name)]])
structure z0b(t:vC):Prop where
 sh:∀s∈t.sh,(0≤@id Int s.2.1∧@id Int s.2.1≤1000)∧s.1.size≤1000
 tg:∀s∈t.tg,s.1.size≤1000∧s.2.1.size≤1000
 txt:(Cx t).size≤100000000
def Ad [YB w0](h:St w0 E w)(i:Nat){b:Nat}{a:Zd}{s:Seg}(hi:nth E i=some s)(hs:Jq b a s){e:AEv}(hfew:a.sh.Few)(hname:e.name.size≤100000)(hp:∀t∈(Qy a.sh e.name).1.ts,0≤pct t∧pct t≤1000)(hl:(Qy a.sh e.name).1.ts.length≤1000)
  (hroll:(Qy a.sh e.name).1.roll≤1000000) (hok:∀x,zA a.ro e.name=some x→x.Ok) (hsi:∀x,zA a.ro e.name=some x→0≤x.since∧x.since<1000000000) (hnow:0≤a.now∧a.now<1000000000) (hwb:WBd (cr a e.name).1.sh) (hln:(NB a e.name).sh.length<100000) (htb:z0b (NB a e.name))
  {k:Sl→PT} (hk:Hk w0 E i b (VX a e) k):qI (some ⟨b,0,none⟩) e.t (slK k) w:=by
 have hs0:=hs;obtain⟨p,sg,sf,ss,sk,sr,sm,Q,R,rfl⟩:=hs;unfold qI;unfold VX at hk;have h:=(h.front i hi).split8;refine nw h ?_;clear h;intro b1 w h
 refine ZC (λ(z:Addr×Bool×Unit) w=>∃(b8:Nat)(v:Sl)(sv:Seg),z=(⟨b8,0,none⟩,(Qy a.sh e.name).2.2,())∧Rw eT zu 3 v (Qy a.sh e.name).1.ts sv∧
  St w0 ([Cl b8 zG [.string (Qy a.sh e.name).1.name,.string (Qy a.sh e.name).1.cfg,SlV v,I (Qy a.sh e.name).1.roll]]::sv::[Cl b1 zP (eEw e)]::UT b p a.now::sg::sf::ss::sk::sr::sm::(Q.map BsE.sg).flatten::Zi E i) w) (λk2 hk2=>?_) ?_
 ·(dsimp only[zd,List.cons_append,List.nil_append]at h;refine dr h ?_;clear h;intro w h;refine nn ?_;refine ldC h ?_;refine ldC h ?_)
  refine VD ?_ ?_
  ·refine wh h 4 rfl R.sh hfew λv sv w r h=>?_;refine nw h ?_;clear h;intro b8 w h
   (refine ckC h ?_;refine ckC h ?_;refine stC h ?_;clear h;intro w h;dsimp only[zE,zd]at h)
   exact hk2 _ w ⟨b8,v,sv,rfl,r,h⟩
  ·refine nw h ?_;clear h;intro b8 w h
   (refine ckC h ?_;refine ckC h ?_)
   refine wh h 5 rfl R.sh hfew λv sv w r h=>?_
   (refine stC h ?_;clear h;intro w h;dsimp only[zE,zd]at h)
   have h:=yL h;exact hk2 _ w ⟨b8,v,sv,rfl,r,h⟩
 clear h;rintro z w ⟨b8,v,sv,rfl,rv,h⟩
 (try dsimp only)
 refine it (λhc=>?_) (λhc=>?_)
 ·have hc:(Qy a.sh e.name).2.2=false:=by simpa using hc
  rw[if_pos hc]at hk;refine JT h λv s w r h=>?_;exact⟨v,rfl,hk v s _ w r hs0 (YJ i hi (yw (yw (yw h))))⟩
 have hc:(Qy a.sh e.name).2.2=true:=by simpa using hc
 rw[if_neg (by simp[hc])]at hk;unfold cr NB at *
 unfold cr at *
 generalize (Qy a.sh e.name).1=r at *
 refine ZC (λ(z:Addr×Int×Unit) w=>∃(b18:Nat)(q:HT [.slice,.slice])(sx:Seg),z=(⟨b18,0,none⟩,(resolve a.bk r).2,())∧(∀E',Or w0 (sx::E') q (resolve a.bk r).1)∧
  St w0 (sx::[Cl b18 zl [SlV q.1,SlV q.2.1]]::[Cl b8 zG [.string r.name,.string r.cfg,SlV v,I r.roll]]::sv::[Cl b1 zP (eEw e)]::UT b p a.now::sg::sf::ss::sk::sr::sm::(Q.map BsE.sg).flatten::Zi E i) w) (λk12 hk12=>?_) ?_
 ·(refine dr h ?_;clear h;intro w h;refine laC h ?_;refine nn ?_;refine ldC h ?_)
  refine VD ?_ ?_
  ·refine wn (r:=r) (v:=v) h 7 rfl R.bk (Rw.re Vn 1 rfl rv) hl hp λq sx w hq h=>?_;refine nw h ?_;clear h;intro b18 w h
   (refine ckC h ?_;refine ckC h ?_;refine stC h ?_;clear h;intro w h;dsimp only[zE,zd]at h)
   have h:=yL h;exact hk12 _ w ⟨b18,q,sx,rfl,hq,h⟩
  ·refine nw h ?_;clear h;intro b18 w h
   (refine ckC h ?_;refine ckC h ?_)
   refine wn (r:=r) (v:=v) h 8 rfl R.bk (Rw.re Vn 2 rfl rv) hl hp λq sx w hq h=>?_
   (refine stC h ?_;clear h;intro w h;dsimp only[zE,zd]at h)
   exact hk12 _ w ⟨b18,q,sx,rfl,hq,h⟩
 clear h;rintro z w ⟨b18,q,sx,rfl,hq,h⟩
 (try dsimp only)
 refine it (λh2=>?_) (λh2=>?_)
 ·have h2:(resolve a.bk r).2≠0:=by simpa using h2
  rw[if_pos h2]at hk;refine JT h λv s w r h=>?_;exact⟨v,rfl,hk v s _ w r hs0 (YJ i hi (yw (yw (yw (yw (yw h))))))⟩
 have h2:¬(resolve a.bk r).2≠0:=by simpa using h2
 rw[if_neg h2]at hk
 (refine dr h ?_;clear h;intro w h;refine ldC h ?_;refine nn ?_;refine ldC h ?_;refine ldC h ?_;refine laC h ?_;refine nn ?_;refine ldC h ?_;refine ldC h ?_)
 refine eY (p:=q) (t:=(resolve a.bk r).1) h 10 rfl R.ro (hq _) hok hwb hnow hsi hroll hln λq2 sy sr' w hR hq2 h=>?_;dsimp only[zd]at h
 (refine ckC h ?_)
 refine z0v (p:=q2) h (hq2 _) htb.sh htb.tg λw h=>?_
 (refine ckC h ?_)
 refine nw h ?_;clear h;intro b32 w h;refine IJ h (by decide) (by omega) htb.txt λw h=>?_;refine nw h ?_;clear h;intro b34 w h;refine⟨_,rfl,hk _ _ _ w (Rw.lit b34 [_] yu rfl rfl (by simp[maxLen])) ⟨p,sg,sf,ss,sk,sr',sm,Q,⟨R.gt,R.fl,R.sh,R.bk,hR,R.mp,R.ea,R.ab⟩,rfl⟩ (YJ i hi ?_)⟩;exact yw (yw (yw (yw (yw (yw h)))))
def PN{rev:B0}{y:GY}{sgg:Seg}{x:BsE}(hk:x.k=rev){B:List BsE}:∀{A:List BsE},((A++x::B).map BsE.k).Nodup→(A++⟨x.k,x.b,x.g,y,sgg⟩::B).map BsE.ka=Zp ((A++x::B).map BsE.ka) rev y
 | [],_=>by
  subst hk;simp[Zp]
 | a::A,hn=>by
  have hn2:=hn;rw[List.cons_append,List.map_cons,List.nodup_cons]at hn2;have hne:¬a.k=rev:=λe=>hn2.1 (by rw[e,←hk];simp);have ih:=PN hk (A:=A) (y:=y) (sgg:=sgg) hn2.2;rw[List.cons_append,List.map_cons,List.cons_append,List.map_cons,ih];simp only[Zp];rw[if_neg hne]
def bnd(a:Zd)(e:AEv):B0:=if(zA a.ro e.name).isSome=false then s_ else if e.tag=s_ then bQ (Gd a.ro e.name) e.draw else(na (Gd a.ro e.name).tg e.tag).1
def iB(h:St w0 E w)(i:Nat){b:Nat}{a:Zd}{s:Seg}(hi:nth E i=some s)(hs:Jq b a s){e:AEv}(hd:0≤e.draw∧e.draw<4611686018427387904)(hok:∀x,zA a.ro e.name=some x→x.Ok)(hwb:WBd (Gd a.ro e.name).sh){k:B0→PT}
  (hk:∀w',St w0 E w'→k (bnd a e) w'):L.call Pr XP [pO b,evV e] (.one (.one .str)) k w:=by
 obtain⟨p,sg,sf,ss,sk,sr,sm,Q,R,rfl⟩:=hs;refine za (GK _ e.t) ?_;unfold UK;unfold bnd at hk;have h:=(h.front i hi).split8;refine nw h ?_;clear h;intro b1 w h
 (dsimp only[zd,List.cons_append,List.nil_append]at h;refine ldC h ?_)
 refine za (GL _ _) ?_;unfold UL;refine nw h ?_;clear h;intro b2 w h
 (refine nn ?_;refine ldC h ?_)
 refine Ag h 7 rfl R.ro hok λq sx w hq h=>?_
 (refine stC h ?_;clear h;intro w h;dsimp only[zE,zd]at h;refine laC h ?_)
 refine⟨(q,(zA a.ro e.name).isSome,()),rfl,?_⟩;have fin:∀{w x},(∀w',St w0 E w'→k x w')→St w0 (sx::[Cl b2 zl [SlV q.1,SlV q.2.1]]::[Cl b1 zP (eEw e)]::UT b p a.now::sg::sf::ss::sk::sr::sm::(Q.map BsE.sg).flatten::Zi E i) w→k x w:=by
  intro w x hk h;exact hk w (St.again i hi (zj (zj (zj h))).glue8)
 refine nw h ?_;clear h;intro b4 w h
 (refine stC h ?_;clear h;intro w h;dsimp only[zE,zd]at h)
 refine it (λhc=>?_) (λhc=>?_)
 ·have hc:(zA a.ro e.name).isSome=false:=by simpa using hc
  rw[if_pos hc]at hk;exact⟨_,rfl,fin hk (zj h)⟩
 have hc:¬(zA a.ro e.name).isSome=false:=λe2=>by
  dsimp only at hc;rw[e2]at hc;exact absurd hc (by decide)
 rw[if_neg hc]at hk
 (refine ldC h ?_)
 rw[jN];refine it (λh2=>?_) (λh2=>?_)<;>(try simp only[zB]at h2)
 ·rw[if_pos h2]at hk
  (refine laC h ?_;refine ldC h ?_)
  exact z0y (p:=q) h (t:=Gd a.ro e.name) (by
   have:=hq ([Cl b2 zl [SlV q.1,SlV q.2.1]]::[Cl b1 zP (eEw e)]::UT b p a.now::sg::sf::ss::sk::sr::sm::(Q.map BsE.sg).flatten::Zi E i);exact this.there) hwb hd.1 hd.2 λw h=>⟨_,rfl,fin hk (zj h)⟩
 ·rw[if_neg h2]at hk
  (refine laC h ?_;refine ldC h ?_)
  exact iF (p:=q) h (t:=Gd a.ro e.name) (by
   have:=hq ([Cl b2 zl [SlV q.1,SlV q.2.1]]::[Cl b1 zP (eEw e)]::UT b p a.now::sg::sf::ss::sk::sr::sm::(Q.map BsE.sg).flatten::Zi E i);exact this.there) λw h=>⟨_,rfl,fin hk (zj h)⟩
abbrev arG(a:Zd)(e:AEv):zk×Zq×yG:=Dd a.fl a.gt e.n (bnd a e) a.now
def sQ(a:Zd)(e:AEv):Option GY:=match zA a.by' (bnd a e) with
 | some x=>if(arG a e).2.2.2.1=2∧x.want=0 then some x else none
 | none=>none
def qX(a:Zd)(e:AEv):Zd×List B0:=match sQ a e with
 | some x=>({ a with fl:=(arG a e).1,gt:=(arG a e).2.1,by':=Zp a.by' (bnd a e) ⟨x.xs,1,x.left⟩ },[Qt (arG a e).2.2,ZK (ZK JL [bnd a e]) [jw 1]])
 | none=>({ a with fl:=(arG a e).1,gt:=(arG a e).2.1 },[Qt (arG a e).2.2])
def Av(w:World):(zeroValue qf).run Pr w = .ok ((E1.one .ptr).val (none:Option Addr)) w:=by
 have h:(Pr.info? qf).map (·.zero)=some (some (.pointer none)):=by kernel_rfl
 cases hi:Pr.info? qf with
 | none=>rw[hi]at h;cases h
 | some i=>rw[hi]at h;simp only[Option.map_some,Option.some.injEq]at h;exact zv hi h w
def MU{Q:List BsE}{rev:B0}:zA (Q.map BsE.kp) rev=(uI BsE.k Q rev).map λx=>some ⟨x.b,0,none⟩:=Qi (key:=BsE.k) (λx:BsE=>(some ⟨x.b,0,none⟩:Option Addr)) rev Q
def MV{Q:List BsE}{rev:B0}:zA (Q.map BsE.ka) rev=(uI BsE.k Q rev).map BsE.x:=Qi (key:=BsE.k) BsE.x rev Q
def LP [YB w0](h:St w0 E w)(i:Nat){b:Nat}{a:Zd}{s:Seg}(hi:nth E i=some s)(hs:Jq b a s){e:AEv}(hd:0≤e.draw∧e.draw<4611686018427387904)(hok:∀x,zA a.ro e.name=some x→x.Ok)(hwb:WBd (Gd a.ro e.name).sh)
  (hfew:jQ a.fl) (hn:a.gt.all.length<80000000) (hl:a.gt.lines.length<90000000) (hnow: -1000000000000<a.now+a.gt.pat∧a.now+a.gt.pat<1000000000000) (hf:(arG a e).2.2.Ok) (hrv:(bnd a e).size≤1000000)
  {k:Sl→PT} (hk:Hk w0 E i b (qX a e) k):Xu (some ⟨b,0,none⟩) e.t (slK k) w:=by
 have hs0:=hs;obtain⟨p,sg,sf,ss,sk,sr,sm,Q,R,rfl⟩:=hs;unfold Xu;refine nw h ?_;clear h;intro b1 w h
 (dsimp only[zd,List.cons_append,List.nil_append]at h;refine laC h ?_)
 refine iB (e:=e) h (i+1) hi hs0 hd hok hwb λw h=>?_;unfold qX sQ arG at hk;unfold arG at hf;generalize bnd a e=rev at *
 have h:=(h.front (i+1) hi).split8;have h:St w0 (UT b p a.now::sg::sf::ss::sk::sr::sm::(Q.map BsE.sg).flatten::[Cl b1 zP (eEw e)]::Zi E i) w:=h
 (refine dr h ?_;clear h;intro w h;refine nn ?_;refine ldC h ?_;refine ldC h ?_;refine nn ?_;refine ldC h ?_)
 have h:=Zm (Zm h);refine z0o h R.gt R.fl hfew (by omega) hl hnow λv sv sg' sf' w hr hG hF h=>?_;generalize Dd a.fl a.gt e.n rev a.now=g at *
 have hone:∀f∈[g.2.2],f.Ok:=λf hff=>by rw[List.mem_singleton.1 hff];exact hf
 have hlen:=Rw.len oU hr;refine Tl h.nil (l:=[]) hr hone (by simp) (by decide) Rw.nil λv2 s2 w r2 h=>?_;simp only[List.nil_append,List.map_cons,List.map_nil]at r2
 (refine nn ?_;refine ldC h ?_)
 refine za (xh _ _) ?_;unfold YT;refine MpS.get2 uH tE Av (λx:Option Addr=>x) (λ_=>rfl) h 8 rfl R.mp ?_;rw[R.ab,MV]at hk;rw[MU]
 have close:∀{w}{vo:Sl}{so sm':Seg}{Q':List BsE}{by'':List (B0×GY)}{out:List B0},by''=Q'.map BsE.ka→MpS Value.string Value.pointer p.m (Q'.map BsE.kp) sm'→(∀x∈Q',x.ok)→Rw eS zc 1 vo out so→
   (∀v sv s' w',Rw eS zc 1 v out sv→Jq b { a with fl:=g.1,gt:=g.2.1,by':=by'' } s'→St w0 (sv::zd E i s') w'→k v w')→
   St w0 (so::sv::sg'::sf'::UT b p a.now::ss::sk::sr::sm'::(Q'.map BsE.sg).flatten::[Cl b1 zP (eEw e)]::Zi E i) w→
   slK k (.slice vo.a vo.len vo.cap) w:=by
  intro w vo so sm' Q' by'' out e1 hm hq ro hk h;refine⟨vo,rfl,hk vo so _ w ro ⟨p,sg',sf',ss,sk,sr,sm',Q',⟨hG,hF,R.sh,R.bk,R.ro,hm,hq,e1⟩,rfl⟩ ?_⟩;have h:=yw h;have h:=xx (xx (xY (xY (xx (xx (xx (xx (xx h))))))));exact YJ i hi (z38 h)
 cases hf2:uI BsE.k Q rev with
 | none=>
  rw[hf2]at hk;dsimp only[Option.map]at hk ⊢;refine⟨(none,false,()),rfl,?_⟩;refine jd ?_;refine itF rfl ?_;exact close rfl R.mp R.ea r2 hk h
 | some x=>
  have hmk:=R.mp.nd;obtain⟨A,B,rfl,hxk⟩:=Kc hf2;rw[hf2]at hk;dsimp only[Option.map]at hk ⊢;refine⟨(some ⟨x.b,0,none⟩,true,()),rfl,?_⟩;refine jd ?_;refine itT rfl ?_;refine itT (by rw[hlen];rfl) ?_;refine Rw.ix oU hr (by decide) (by simp) λa16 ha=>?_;refine Rw.ld oU h 1 rfl hr ha (x:=g.2.2) (f:=1) rfl rfl rfl ?_;refine it (λh1=>?_) (λh1=>?_)
  ·have h1:g.2.2.2.1=2:=by simpa using h1
   have h:=oT h;have h:=h.pick;have h:=h.split
   (refine nn ?_;refine ldC h ?_)
   refine it (λh2=>?_) (λh2=>?_)
   ·have h2:x.x.want=0:=by simpa using h2
    rw[if_pos ⟨h1,h2⟩]at hk;dsimp only at hk
    (refine nn ?_;refine stC h ?_;clear h;intro w h;dsimp only[zE,zd]at h)
    refine nw h ?_;clear h;intro b21 w h;refine ut h (by decide) (by omega) λw h=>?_;refine nw h ?_;clear h;intro b23 w h;refine qA h (by rw[vl];have:JL.size=5:=rfl;omega) (by decide) (by decide) λw h=>?_;refine nw h ?_;clear h;intro b25 w h;refine Rw.app yu elS h 3 rfl r2 (ZK (ZK JL [rev]) [jw 1]) rfl (by simp) (by simp) λv' s' w r2' h=>?_;dsimp only[zd]at h;have h:=h.glue;have h:St w0 (BsE.sg ⟨x.k,x.b,x.g,⟨x.x.xs,1,x.x.left⟩,x.sgg⟩::((A++B).map BsE.sg).flatten::s'::sv::sg'::sf'::UT b p a.now::ss::sk::sr::sm::[Cl b1 zP (eEw e)]::Zi E i) w:=h;have h:=h.place;have h:=oT (oT (oT (oT (oT (oT (oT (oT (oT h))))))));have et:=PN (rev:=rev) (y:=⟨x.x.xs,1,x.x.left⟩) (sgg:=x.sgg) hxk (B:=B) (A:=A) (by simpa [List.map_map,Function.comp_def]using hmk);refine close (Q':=A++⟨x.k,x.b,x.g,⟨x.x.xs,1,x.x.left⟩,x.sgg⟩::B) et.symm (by simpa using R.mp) (λy hy=>?_) r2' hk h;rcases List.mem_append.1 hy with hy | hy
    ·exact R.ea y (by simp[hy])
    ·rcases List.mem_cons.1 hy with rfl | hy
     ·exact R.ea x (by simp)
     ·exact R.ea y (by simp[hy])
   ·have h2:¬x.x.want=0:=by simpa using h2
    rw[if_neg (λhh=>h2 hh.2)]at hk;have h:=h.glue;have h:=St.place (g:=BsE.sg) (t:=x) h;have h:=oT (oT (oT (oT (oT (oT (oT (oT (oT h))))))));exact close rfl R.mp R.ea r2 hk h
  ·have h1:¬g.2.2.2.1=2:=by simpa using h1
   rw[if_neg (λhh=>h1 hh.1)]at hk;exact close rfl R.mp R.ea r2 hk h
def bL(m:List (B0×GY))(rev:B0):Int:=((zA m rev).map GY.want).getD 0
def Aa(h:St w0 E w){b:Nat}{p:Bls}{now:Int}{sm:Seg}{Q:List BsE}{i j l:Nat}(hi:nth E i=some (UT b p now))(hj:nth E j=some sm)(hl:nth E l=some (Q.map BsE.sg).flatten)(hm:MpS Value.string Value.pointer p.m (Q.map BsE.kp) sm){rev:B0}{k:Int→PT}(hk:k (bL (Q.map BsE.ka) rev) w) :
  L.call Pr qu [pO b,.string rev] (.one (.one (.int .i64))) k w:=by
 refine za (Fw _ _) ?_;unfold vY;have h0:=h;have h:=h0.front i hi;unfold bL at hk;rw[MV]at hk
 (refine nn ?_;refine ldC h ?_)
 refine za (xh _ _) ?_;unfold YT;refine MpS.get2 uH tE Av (λx:Option Addr=>x) (λ_=>rfl) h0 j hj hm ?_;rw[MU]
 cases hf:uI BsE.k Q rev with
 | none=>
  rw[hf]at hk;refine⟨(none,false,()),rfl,?_⟩;exact itF rfl ⟨_,rfl,hk⟩
 | some x=>
  rw[hf]at hk;obtain⟨A,B,rfl,hxk⟩:=Kc hf;refine⟨(some ⟨x.b,0,none⟩,true,()),rfl,?_⟩;refine itT rfl ?_;have h:=((h0.front l hl).pick).split
  (refine nn ?_;refine ldC h ?_)
  exact⟨_,rfl,hk⟩
def cnt(q:Int→Bool)(l:List (Int×Int×Int)):Int:=((l.filter λx=>q x.2.1).length:Int)
def Du(h:St w0 E w){b:Nat}{p:Bls}{now:Int}{sf:Seg}{F:zk}{i j:Nat}(hi:nth E i=some (UT b p now))(hj:nth E j=some sf)(hf:FlS p.f F sf){rev:B0}{fv:FV}{q:Int→Bool}(hlen:(qc F.l rev).length<1000000)
  (hq:∀{E':List Seg}{w:World}{x:Int}{k:Bool→PT},St w0 E' w→(∀w',St w0 E' w'→k (q x) w')→L.callV Pr (.func fv.fn fv.fs fv.cs) [I x] (.one (.one .bool)) k w) {k:Int→PT} (hk:∀w',St w0 E w'→k (cnt q (qc F.l rev)) w') :
  L.call Pr JM [pO b,.string rev,fv.val] (.one (.one (.int .i64))) k w:=by
 refine za (GJ _ _ fv) ?_;unfold UJ;refine za (Fx _ _) ?_;unfold vZ;have h0:=h;have h:=h0.front i hi
 (refine nn ?_;refine ldC h ?_)
 refine iv h0 j hj hf λv s w hr h=>⟨v,rfl,?_⟩;clear h0;generalize qc F.l rev=l at *
 have hln:=Rw.len RJ hr;refine zX (λm y w=>∃(j:Nat),@Eq Int y.2.1 j∧m+j=l.length∧@Eq Int y.1 (cnt q (l.take j))∧St w0 (s::E) w) l.length ⟨0,rfl,rfl,rfl,h⟩ ?_;clear h;rintro m ⟨n,y,⟨⟩⟩ w ⟨j,hy,hm,hn,h⟩ again hag
 (try dsimp only)
 simp only at hy hn;subst hy;refine it (λhb=>?_) (λhb=>?_)<;>(try simp only[zB]at hb)
 ·have hj:j<l.length:=by omega
  have hx:l[j]? = some l[j]:=List.getElem?_eq_getElem hj;have et:cnt q (l.take (j+1))=cnt q (l.take j)+(if q l[j].2.1=true then 1 else 0):=by
   unfold cnt;rw[List.take_succ,hx,Option.toList_some,List.filter_append,List.length_append];by_cases hc:q l[j].2.1=true
   ·simp[hc]
   ·simp[hc]
  have hle:0≤cnt q (l.take j)∧cnt q (l.take j)≤j:=by
   unfold cnt;have:=List.length_filter_le (λx:Int×Int×Int=>q x.2.1) (l.take j);rw[List.length_take]at this;omega
  generalize l[j]=x at hx et;obtain⟨x1,x2,x3⟩:=x;refine jd ?_;refine Rw.ix RJ hr (by omega) (by simpa using hj) λa ha=>?_;refine Rw.lda RJ h 0 rfl hr ha (x:=(x1,x2,x3)) (by simpa using hx) rfl ?_;refine nw h ?_;clear h;intro b8 w h
  (refine stC h ?_;clear h;intro w h;dsimp only[zE,zd]at h;refine ldC h ?_)
  refine hq h λw h=>?_;have h:=zj h;dsimp only at et;refine it (λhc=>?_) (λhc=>?_)
  ·rw[if_pos hc]at et;refine hag (m-1) _ w (by omega) ⟨j+1,?_,by omega,?_,h⟩
   ·show Wi _=_;rw[wr (by omega) (by omega)];omega
   ·show Wi (n+1)=_;rw[et,hn,wr (by omega) (by omega)]
  ·rw[if_neg (by rw[hc];decide)]at et;refine hag (m-1) _ w (by omega) ⟨j+1,?_,by omega,?_,h⟩
   ·show Wi _=_;rw[wr (by omega) (by omega)];omega
   ·show n=_;rw[et,hn];omega
 ·have e:l.take j=l:=List.take_of_length_le (by omega);rw[e]at hn;have:=hk w (zj h);rw[←hn]at this;exact⟨_,rfl,this⟩
abbrev jX(a:Zd)(n:B0):Int:=bL a.by' n
abbrev UZ(a:Zd)(n:B0):Int:=@id Int (qF a.bk n).2.2.2.2.1
abbrev lI(a:Zd)(n:B0):zk:=(xn a.fl n (UZ a n) (jX a n)).1
abbrev dJ(word:B0)(l:List Int):List B0:=l.map λx=>ZK word [jw x.toNat]
def Ud(a:Zd)(e:AEv):Zd×List B0:=
 if jt a.bk e.name=false then(a,JU 6)
 else({ a with fl:=lI a e.name },dJ AW (ov a.fl e.name (jX a e.name))++dJ AZ (xn a.fl e.name (UZ a e.name) (jX a e.name)).2++[ZK (ZK CF [e.name]) [jw (cnt (λs=>s != 3) (qc (lI a e.name).l e.name)).toNat]])
def Bh [YB w0]{word:B0}{v:Sl}{l:List Int}{X:List B0}{vo:Sl}{si so:Seg}(hr:Rw eI zp 1 v l si)(hl:l.length<1000000)(hX:X.length<1000000)(hb:∀x∈l,0≤x∧x≤9000000000000000000)(hw:word.size≤1000)(ro:Rw eS zc 1 vo X so){k:Sl×Int×Unit→PT}
  (h:St w0 (so::si::E) w) (hk:∀v' s' m w',Rw eS zc 1 v' (X++dJ word l) s'→St w0 (s'::si::E) w'→k (v',m,()) w') :
  L.loop (Y:=Sl×Int×Unit) (⟨vo.a,vo.len,vo.cap⟩,0,()) (λy19 again20=>
   L.ite (decide (y19.2.1<((v.len:Nat):Int))) (
    L.idx v.a y19.2.1 v.len 1 λa21=>
    L.load (.one (.int .i64)) a21 λ(x22:Int)=>
    L.new [.int .i64 x22] zp λb23=>
    L.call Pr zL [.string word,.slice (some ⟨b23,0,none⟩) 1 1] (.one (.one (.str))) λ(x24:B0)=>
    L.new [.string x24] zc λb25=>
    L.sem Pr (.one (.one .slice)) (Builtin.append_ #[zm,zm] zm #[.slice y19.1.a y19.1.len y19.1.cap,.slice (some ⟨b25,0,none⟩) 1 1]) λ(s26:Sl)=>
    again20 (⟨s26.a,s26.len,s26.cap⟩,Wi (y19.2.1+1),()))<|
   k y19) w:=by
 have hln:=Rw.len YI hr;refine zX (λq y w=>∃(j:Nat)(s3:Seg),@Eq Int y.2.1 j∧q+j=l.length∧Rw eS zc 1 y.1 (X++dJ word (l.take j)) s3∧St w0 (s3::si::E) w) l.length ⟨0,so,rfl,by simp,by simpa using ro,h⟩ ?_;clear ro;clear h;rintro q ⟨vo,y,⟨⟩⟩ w ⟨j,s3,hy,hq,r3,h⟩ again hag
 (try dsimp only)
 simp only at hy r3;subst hy;refine it (λhb2=>?_) (λhb2=>?_)<;>(try simp only[zB]at hb2)
 ·have hj:j<l.length:=by omega
  have hx:l[j]? = some l[j]:=List.getElem?_eq_getElem hj;have hbx:=hb l[j] (List.getElem_mem hj);have et:dJ word (l.take (j+1))=dJ word (l.take j)++[ZK word [jw (l[j]).toNat]]:=by unfold dJ;rw[List.take_succ,hx,List.map_append];rfl
  generalize l[j]=x at hx et hbx;refine Rw.ix YI hr (by omega) (by simpa using hj) λa ha=>?_;refine Rw.ld0 YI h 1 rfl hr ha (x:=x) (by simpa using hx) rfl rfl ?_;refine nw h ?_;clear h;intro b23 w h;refine qA h (by omega) hbx.1 hbx.2 λw h=>?_;refine nw h ?_;clear h;intro b25 w h;refine Rw.app yu elS h 0 rfl r3 (ZK word [jw x.toNat]) rfl (by simp;omega) (by simp;omega) λv' s3' w r3' h=>?_;refine hag (q-1) _ w (by omega) ⟨j+1,s3',?_,by omega,by rw[et,←List.append_assoc];exact r3',h⟩;show Wi _=_;rw[wr (by omega) (by omega)];omega
 ·have e:l.take j=l:=List.take_of_length_le (by omega);rw[e]at r3;exact hk vo s3 _ w r3 h
def Ac [YB w0](h:St w0 E w)(i:Nat){b:Nat}{a:Zd}{s:Seg}(hi:nth E i=some s)(hs:Jq b a s){e:AEv}(hroom:a.fl.room<1000000)(hlast:a.fl.last+a.fl.room<4611686018427387904)(hname:e.name.size≤100000)
  (hmade:∀x∈ov a.fl e.name (jX a e.name),0≤x∧x≤9000000000000000000) (hmn:(ov a.fl e.name (jX a e.name)).length<100000) (hgone:∀x∈(xn a.fl e.name (UZ a e.name) (jX a e.name)).2,0≤x∧x≤9000000000000000000) (hgn:(xn a.fl e.name (UZ a e.name) (jX a e.name)).2.length<100000)
  (hpn:(qc (lI a e.name).l e.name).length<1000000) {k:Sl→PT} (hk:Hk w0 E i b (Ud a e) k):jG (some ⟨b,0,none⟩) e.t (slK k) w:=by
 have hs0:=hs;obtain⟨p,sg,sf,ss,sk,sr,sm,Q,R,rfl⟩:=hs;unfold jG;unfold Ud at hk;have h:=(h.front i hi).split8;refine nw h ?_;clear h;intro b1 w h
 refine ZC (λ(z:Addr×Bool×Unit) w=>∃b8:Nat,z=(⟨b8,0,none⟩,jt a.bk e.name,())∧
  St w0 ([Cl b8 zO (rvC (qF a.bk e.name))]::[Cl b1 zP (eEw e)]::UT b p a.now::sg::sf::ss::sk::sr::sm::(Q.map BsE.sg).flatten::Zi E i) w) (λk2 hk2=>?_) ?_
 ·(dsimp only[zd,List.cons_append,List.nil_append]at h;refine dr h ?_;clear h;intro w h;refine nn ?_;refine ldC h ?_;refine ldC h ?_)
  refine VD ?_ ?_
  ·refine gO h 5 rfl R.bk λw h=>?_;refine nw h ?_;clear h;intro b8 w h
   (refine ckC h ?_;refine ckC h ?_;refine stC h ?_;clear h;intro w h;dsimp only[zE,zd]at h)
   exact hk2 _ w ⟨b8,rfl,h⟩
  ·refine nw h ?_;clear h;intro b8 w h
   (refine ckC h ?_;refine ckC h ?_)
   refine gO h 6 rfl R.bk λw h=>?_
   (refine stC h ?_;clear h;intro w h;dsimp only[zE,zd]at h)
   exact hk2 _ w ⟨b8,rfl,h⟩
 clear h;rintro z w ⟨b8,rfl,h⟩
 (try dsimp only)
 refine it (λhc=>?_) (λhc=>?_)
 ·have hc:jt a.bk e.name=false:=by simpa using hc
  rw[if_pos hc]at hk;refine JT h λv s w r h=>?_;exact⟨v,rfl,hk v s _ w r hs0 (YJ i hi (yw (yw h)))⟩
 have hc:¬jt a.bk e.name=false:=by simpa using hc
 rw[if_neg hc]at hk
 (refine dr h ?_;clear h;intro w h;refine nn ?_;refine ldC h ?_;refine ldC h ?_;rw[Je];refine ldC h ?_;refine ldC h ?_)
 refine Aa h (i:=2) (j:=8) (l:=9) rfl rfl rfl R.mp ?_
 (refine ckC h ?_;refine ckC h ?_;refine ckC h ?_)
 have ew:bL (Q.map BsE.ka) e.name=jX a e.name:=by unfold jX;rw[R.ab]
 rw[ew];have hF0:=R.fl;unfold lI at *
 refine Em (conc:=UZ a e.name) h 4 rfl R.fl (by omega) hlast λv1 v2 sf' s1 s2 w hF r1 r2 h=>?_;dsimp only[zd]at h;generalize xn a.fl e.name (UZ a e.name) (jX a e.name)=g at *
 generalize ov a.fl e.name (jX a e.name)=made at *
 obtain⟨F,gone⟩:=g;dsimp only at *
 have h:=yL h;refine Bh (vo:=⟨none,0,0⟩) (X:=[]) r1 (by omega) (by simp) hmade (by decide) Rw.nil h.nil λv3 s3 m w r3 h=>?_;have h:=Zm (Zm (yL h));refine Bh r2 (by omega) (by simp[dJ];omega) hgone (by decide) r3 h λv4 s4 m w r4 h=>?_
 (refine ldC h ?_)
 refine Du h (i:=5) (j:=7) rfl rfl hF (fv:=⟨.func jY,#[],#[]⟩) (q:=λs=>s != 3) hpn (λ{E' w x k} h hk=>?_) λw h=>?_
 ·refine xd (fs:=#[]) (cs:=#[]) gP (gS x) ?_;unfold Ux;exact⟨_,rfl,hk w h⟩
 (refine ldC h ?_)
 have hcn:0≤cnt (λs=>s != 3) (qc F.l e.name)∧cnt (λs=>s != 3) (qc F.l e.name)≤1000000:=by
  unfold cnt;have:=List.length_filter_le (λx:Int×Int×Int=>(λs=>s != 3) x.2.1) (qc F.l e.name);refine⟨Int.natCast_nonneg _,?_⟩;have h2:((qc F.l e.name).filter λx:Int×Int×Int=>(λs=>s != 3) x.2.1).length≤1000000:=by omega
  exact Int.ofNat_le.2 h2
 generalize cnt (λs=>s != 3) (qc F.l e.name)=n at *
 refine nw h ?_;clear h;intro b38 w h;refine ut h (by decide) (by omega) λw h=>?_;refine nw h ?_;clear h;intro b40 w h;refine qA h (by rw[vl];have:CF.size=5:=rfl;omega) hcn.1 (by omega) λw h=>?_;refine nw h ?_;clear h;intro b42 w h;refine Rw.app yu elS h 0 rfl r4 (ZK (ZK CF [e.name]) [jw n.toNat]) rfl (by simp[dJ];omega) (by simp[dJ];omega) λv5 s5 w r5 h=>?_;refine⟨v5,rfl,hk v5 s5 _ w (by simpa using r5) ⟨p,sg,sf',ss,sk,sr,sm,Q,⟨R.gt,hF,R.sh,R.bk,R.ro,R.mp,R.ea,R.ab⟩,rfl⟩ (YJ i hi ?_)⟩;exact yw (yw (yw (yw h)))
def VC(G:Zq)(rev:B0):Int:=((Ma G rev).length:Int)+(fK G.all rev).length
def Mx(G:Zq)(m:List (B0×GY))(rev:B0):List (B0×GY):=match zA m rev with
 | some x=>Zp m rev ⟨x.xs++[if 0>VC G rev then 0 else VC G rev],x.want,x.left⟩
 | none=>m
abbrev tkG(a:Zd):Zq×List yG:=Kg a.gt (a.now+1)
def VW(a:Zd):Zd×List B0:=
 if a.now≥1048576 then(a,JU 9)
 else({ a with gt:=(tkG a).1,now:=a.now+1,by':=(Gl a.bk).foldl (Mx (tkG a).1) a.by' },ZK Ra [jw (a.now+1).toNat]::(tkG a).2.map Qt)
def Ab [YB w0](h:St w0 E w)(i:Nat){b:Nat}{a:Zd}{s:Seg}(hi:nth E i=some s)(hs:Jq b a s){e:AEv}(hnow:0≤a.now)(hwk:GWk a.gt)(hfl:(tkG a).2.length<90000000)(hf:∀f∈(tkG a).2,f.Ok)
  (hby:∀rev∈Gl a.bk,(zA a.by' rev).isSome=true) (hxs:∀x∈a.by',x.2.xs.length<1000000000) (hfb:a.bk.all.length<1000000) {k:Sl→PT} (hk:Hk w0 E i b (VW a) k):qH (some ⟨b,0,none⟩) e.t (slK k) w:=by
 have hs0:=hs;obtain⟨p,sg,sf,ss,sk,sr,sm,Q,R,rfl⟩:=hs;unfold qH;unfold VW tkG at hk;unfold tkG at hfl hf;have h:=(h.front i hi).split8;refine nw h ?_;clear h;intro b1 w h
 (dsimp only[zd,List.cons_append,List.nil_append]at h;refine nn ?_;refine ldC h ?_)
 refine it (λhc=>?_) (λhc=>?_)<;>(try simp only[zB]at hc)
 ·rw[if_pos hc]at hk;refine JT h λv s w r h=>?_;exact⟨v,rfl,hk v s _ w r hs0 (YJ i hi (yw h))⟩
 rw[if_neg hc]at hk
 (refine nn ?_;refine ldC h ?_;refine nn ?_;refine stC h ?_;clear h;intro w h;dsimp only[zE,zd]at h;refine dr h ?_;clear h;intro w h;refine nn ?_;refine ldC h ?_;refine nn ?_;refine ldC h ?_)
 rw[wr (by omega) (by omega)]at h ⊢;have h:=Zm h;refine iq h R.gt hwk hfl λv sv sg' w hr hG h=>?_;generalize Kg a.gt (a.now+1)=g at *
 refine za (KV _) ?_;unfold Qu
 (refine nn ?_;refine ldC h ?_)
 refine iD h 6 rfl R.bk λv2 s2 w r2 h=>⟨v2,rfl,?_⟩;have hnl:(Gl a.bk).length<1000000:=by unfold Gl;rw[jk,List.length_map];exact hfb
 generalize Gl a.bk=l at *
 have hln:=Rw.len yu r2
 let EV:Seg:=[Cl b1 zP (eEw e)]
 refine zX (λm y w=>∃(j:Nat)(sg2:Seg)(Q2:List BsE),@Eq Int y.1 j∧m+j=l.length∧GtS p.g p.f g.1 sg2∧Q2.map BsE.kp=Q.map BsE.kp∧(∀x∈Q2,x.ok)∧Q2.map BsE.ka=(l.take j).foldl (Mx g.1) a.by'∧(∀x∈Q2,x.x.xs.length<1000000000+j)∧
  St w0 (s2::sv::sg2::EV::UT b p (a.now+1)::sf::ss::sk::sr::sm::(Q2.map BsE.sg).flatten::Zi E i) w) l.length ⟨0,sg',Q,rfl,rfl,hG,rfl,R.ea,R.ab.symm,λx hx=>by have:=hxs _ (by rw[R.ab];exact List.mem_map_of_mem hx);simpa using this,h⟩ ?_
 clear h;rintro m ⟨y,⟨⟩⟩ w ⟨j,sg2,Q2,hy,hm,hG2,ekp,ok2,eka,hx2,h⟩ again hag
 (try dsimp only)
 simp only at hy;subst hy;refine it (λhb=>?_) (λhb=>?_)<;>(try simp only[zB]at hb)
 ·have hj:j<l.length:=by omega
  have hx:l[j]? = some l[j]:=List.getElem?_eq_getElem hj;have hin:(zA (Q2.map BsE.ka) l[j]).isSome=true:=by
   have h1:=hby l[j] (List.getElem_mem hj);rw[R.ab,MV,Option.isSome_map]at h1;have h2:(zA (Q2.map BsE.kp) l[j]).isSome=true:=by rw[ekp,MU,Option.isSome_map];exact h1
   rw[MU,Option.isSome_map]at h2;rw[MV,Option.isSome_map];exact h2
  have et:(l.take (j+1)).foldl (Mx g.1) a.by'=Mx g.1 (Q2.map BsE.ka) l[j]:=by rw[eka,List.take_succ,hx,List.foldl_append];rfl
  generalize l[j]=rev at *
  have hm2:MpS Value.string Value.pointer p.m (Q2.map BsE.kp) sm:=by rw[ekp];exact R.mp
  rw[MV,Option.isSome_map]at hin;obtain⟨x,hfx⟩:=Option.isSome_iff_exists.1 hin;have hmk:=hm2.nd;refine Rw.ix yu r2 (by omega) (by simpa using hj) λea ha=>?_;refine Rw.ld0 yu h 0 rfl r2 ha (x:=rev) (by simpa using hx) rfl rfl ?_
  (refine dr h ?_;clear h;intro w h;refine nn ?_;refine ldC h ?_)
  have hlk:((zA (Q2.map BsE.kp) rev).map λx:Option Addr=>x).getD none=some ⟨x.b,0,none⟩:=by rw[MU,hfx];rfl
  refine MpS.get uH tE Av (λx:Option Addr=>x) (λ_=>rfl) h 9 rfl hm2 ?_;rw[hlk];obtain⟨A,B,rfl,hxk⟩:=Kc hfx;have h:=ot h;have h:=h.pick.split
  (refine nn ?_;refine ldC h ?_;refine nn ?_;refine ldC h ?_)
  have h:=JR h;refine BJ h hG2 λsg3 w hG3 h=>?_
  (refine ckC h ?_)
  refine MpS.chk uH tE (z:=.pointer none) Av h 12 rfl hm2 (by rw[MU,hfx];rfl) ?_
  (refine ckC h ?_)
  have hox:=ok2 x (by simp);have hlx:=hx2 x (by simp);refine ip h 2 rfl hox (by omega) λsgg w hga h=>?_;dsimp only[zd]at h;have hbu:((Ma g.1 rev).length:Int)+(fK g.1.all rev).length=VC g.1 rev:=rfl;rw[hbu]at hga;have h:=Zm (Zm h);have h:=h.glue;have h:=yL (Zm h);have h:St w0 (BsE.sg ⟨x.k,x.b,x.g,⟨x.x.xs++[if 0>VC g.1 rev then 0 else VC g.1 rev],x.x.want,x.x.left⟩,sgg⟩::((A++B).map BsE.sg).flatten::sg3::s2::sv::EV::UT b p (a.now+1)::sf::ss::sk::sr::sm::Zi E i) w:=h;have h:=h.place;have et2:=PN (rev:=rev) (y:=⟨x.x.xs++[if 0>VC g.1 rev then 0 else VC g.1 rev],x.x.want,x.x.left⟩) (sgg:=sgg) hxk (B:=B) (A:=A) (by simpa [List.map_map,Function.comp_def]using hmk);refine hag (m-1) _ w (by omega) ⟨j+1,sg3,A++⟨x.k,x.b,x.g,⟨x.x.xs++[if 0>VC g.1 rev then 0 else VC g.1 rev],x.x.want,x.x.left⟩,sgg⟩::B,?_,by omega,hG3,?_,?_,?_,?_,?_⟩
  ·show Wi _=_;rw[wr (by omega) (by omega)];omega
  ·rw[←ekp];simp
  ·intro y hy;rcases List.mem_append.1 hy with hy | hy
   ·exact ok2 y (by simp[hy])
   ·rcases List.mem_cons.1 hy with rfl | hy
    ·exact hga
    ·exact ok2 y (by simp[hy])
  ·rw[et,et2];unfold Mx;rw[MV,hfx];rfl
  ·intro y hy;rcases List.mem_append.1 hy with hy | hy
   ·have:=hx2 y (by simp[hy]);omega
   ·rcases List.mem_cons.1 hy with rfl | hy
    ·simp;omega
    ·have:=hx2 y (by simp[hy]);omega
  ·have h:=ot (ot (xx (ot (ot (ot (ot (ot (ot (ot h)))))))));exact h
 ·have ej:l.take j=l:=List.take_of_length_le (by omega);rw[ej]at eka
  (refine nn ?_;refine ldC h ?_)
  refine nw h ?_;clear h;intro b29 w h;refine qA h (by decide) (by omega) (by omega) λw h=>?_;refine nw h ?_;clear h;intro b31 w h;have h:=yL (Zm h);refine Tl h (l:=[ZK Ra [jw (a.now+1).toNat]]) hr hf (by omega) (by simp) (Rw.lit b31 [_] yu rfl rfl (by simp[maxLen])) λv s w r h=>?_;refine⟨v,rfl,hk v s _ w r ⟨p,sg2,sf,ss,sk,sr,sm,Q2,⟨hG2,R.fl,R.sh,R.bk,R.ro,by rw[ekp];exact R.mp,ok2,eka.symm⟩,rfl⟩ (YJ i hi ?_)⟩;have h:=yw (uV (uU h));have h:=Zm (Zm (yL h));exact h
end Go.Proofs.YtimahgbgejngiaaGreatDoor
namespace Go.Proofs.YtimahgbgejngiaaGreatDoor
open Go.Dm
def z2b{P:Program}{r:RT}{s:Sem Value}{k:r.T→PT}{w:World}(x:r.T)(h:s.run P w = .ok (r.val x) w)(hk:k x w):L.semR P r s k w:=⟨x,h,hk⟩
def RN{P:Program}{fv:Value}{args:List Value}{r:RT}{k k':r.T→PT}{w:World}(h:L.callV P fv args r k w)(hm:∀x w,k x w→k' x w):L.callV P fv args r k' w:=xw.mono h λ_ _ ⟨x,e,hk⟩=>⟨x,e,hm x _ hk⟩
attribute [local irreducible] L.load L.store L.chk L.new L.nonnil L.guard L.ite L.draw L.idx L.sem L.semR L.semU L.chkSem L.next L.call L.callV L.join L.alts L.loop L.begin L.endRound L.range
variable {w0 w:World}{E:List Seg}
def mV(b:Nat)(f:FuncId):Value:=.func (.func f) #[.pointer (some ⟨b,0,none⟩)] #[]
def doM:List (Int×FuncId):=[(1,yY),(2,Ym),(3,YF),(4,yZ),(5,YG),(6,jm),(7,ZP),(8,ZP),(9,YD),(10,Yk),(11,YE),(12,Yl),(13,yS)]
def uY:Pr.underlying zq=some (.map zp jf):=by kernel_rfl
def z2J(w:World):(zeroValue jf).run Pr w = .ok .nilFunc w:=by
 have h:(Pr.info? jf).map (·.zero)=some (some .nilFunc):=by kernel_rfl
 cases hi:Pr.info? jf with
 | none=>rw[hi]at h;cases h
 | some i=>rw[hi]at h;simp only[Option.map_some,Option.some.injEq]at h;exact zv hi h w
def z3b [YB w0](h:St w0 E w){b:Nat}{e:AEv}(hb:Zz e=0)(hn:e.kind=12∨e.kind=13→e.name.size≤1000000)(rd:RdE w0 E eT e.v e.r.ts)(hvc:e.v.len≤e.v.cap)(hrv:∀t∈e.r.ts,Qo t.1){f:FuncId}(hf:zA doM e.kind=some f){k:Sl→PT}
  (hh:∀(s1 s2:Seg) w',St w0 (s1::s2::E) w'→L.callV Pr (.func (.func f) #[.pointer (some ⟨b,0,none⟩)] #[]) [evV e] (.one (.one .slice)) k w'):L.call Pr zx [pO b,evV e] (.one (.one .slice)) k w:=by
 refine za (pj _ e.t) ?_;unfold Kr;refine nw h ?_;clear h;intro b1 w h
 (dsimp only[zd,List.cons_append,List.nil_append]at h;refine laC h ?_)
 refine wj (e:=e) h hn (λw h=>rd w (zj h)) hvc hrv λw h=>?_;refine itF (by simpa using hb) ?_;refine MpS.new h KI (mV b) λr s w hm h=>?_;refine MpS.set mkI uY h 0 rfl hm yY rfl λs w hm h=>?_;refine MpS.set mkI uY h 0 rfl hm Ym rfl λs w hm h=>?_;refine MpS.set mkI uY h 0 rfl hm YF rfl λs w hm h=>?_;refine MpS.set mkI uY h 0 rfl hm yZ rfl λs w hm h=>?_;refine MpS.set mkI uY h 0 rfl hm YG rfl λs w hm h=>?_;refine MpS.set mkI uY h 0 rfl hm jm rfl λs w hm h=>?_;refine MpS.set mkI uY h 0 rfl hm ZP rfl λs w hm h=>?_;refine MpS.set mkI uY h 0 rfl hm ZP rfl λs w hm h=>?_;refine MpS.set mkI uY h 0 rfl hm YD rfl λs w hm h=>?_;refine MpS.set mkI uY h 0 rfl hm Yk rfl λs w hm h=>?_;refine MpS.set mkI uY h 0 rfl hm YE rfl λs w hm h=>?_;refine MpS.set mkI uY h 0 rfl hm Yl rfl λs w hm h=>?_;refine MpS.set mkI uY h 0 rfl hm yS rfl λs w hm h=>?_;have hm:MpS KI (mV b) r doM s:=hm;dsimp only[zd]at h
 (refine ldC h ?_)
 refine z2b ⟨.func f,#[.pointer (some ⟨b,0,none⟩)],#[]⟩ ?_ ?_
 ·rw[MpS.get_run mkI uY (z2J w) h 0 rfl hm false,hf];rfl
 (refine laC h ?_)
 exact RN (hh s _ w h) λx w hk=>⟨x,rfl,hk⟩
def oA [YB w0](h:St w0 E w)(i:Nat){b:Nat}{a:Zd}{s:Seg}(hi:nth E i=some s)(hs:Jq b a s){e:AEv}(hb:Zz e=0)(hn:e.kind=12∨e.kind=13→e.name.size≤1000000)(rd:RdE w0 E eT e.v e.r.ts)(hvc:e.v.len≤e.v.cap)(hrv:∀t∈e.r.ts,Qo t.1)
  {f:FuncId} (hf:zA doM e.kind=some f) {r:Zd×List B0} {F:(Value→PT)→PT} (hE:ZO Pr f) (hC:∀{K:Value→PT}{w:World},F K w→Calls Pr f (#[.pointer (some ⟨b,0,none⟩)]++[evV e].toArray++ #[]) w λe w'=>∃v,e = .returned v∧K v w')
  (hh:∀{E2:List Seg}{i2:Nat}{w:World}{k:Sl→PT},St w0 E2 w→nth E2 i2=some s→(∀w,St w0 (Zi E2 i2) w→St w0 (Zi E i) w)→Hk w0 E2 i2 b r k→F (slK k) w) {k:Sl→PT} (hk:Hk w0 E i b r k) :
  L.call Pr zx [pO b,evV e] (.one (.one .slice)) k w:=by
 refine z3b h hb hn rd hvc hrv hf λs1 s2 w h=>?_;refine xd (F:=F) hE hC ?_;exact hh (E2:=s1::s2::E) (i2:=i+2) h hi (λw h=>zj (zj h)) λv sv s' w' r hs h=>hk v sv s' w' r hs (yw (yw h))
end Go.Proofs.YtimahgbgejngiaaGreatDoor
namespace Go.Proofs.YtimahgbgejngiaaGreatDoor
open Go.Dm
attribute [local irreducible] L.load L.store L.chk L.new L.nonnil L.guard L.ite L.draw L.idx L.sem L.semR L.semU L.chkSem L.next L.call L.callV L.join L.alts L.loop L.begin L.endRound L.range
variable {w0 w:World}{E:List Seg}
def Xf(room line pat:Int):Zd:=⟨⟨[],[],0⟩,⟨[],[]⟩,[],⟨room,0,[]⟩,⟨[],[],line,pat⟩,[],0⟩
def fW{n a b:Int}{k:Bool→PT}(hk:k (wiB n a b) w):L.call Pr jR [I n,I a,I b] (.one (.one .bool)) k w:=by
 refine za (mB n a b) ?_;unfold VG;unfold wiB at hk;refine it (λh1=>?_) (λh1=>?_)
 ·have h1:decide (a≤n)=true:=h1;rw[h1]at hk;exact⟨_,rfl,hk⟩
 ·have h1:decide (a≤n)=false:=h1;rw[h1]at hk;exact⟨_,rfl,hk⟩
def og(room line pat:Int):Bool:=wiB room 1 30&&(wiB line 0 8&&wiB pat 1 50)
def LN(h:St w0 E w){room line pat:Int}{k:Option Addr×Int×Unit→PT}(h0:og room line pat=false→∀w',St w0 E w'→k (none,2,()) w')
  (h1:og room line pat=true→∀b s w',Jq b (Xf room line pat) s→St w0 (s::E) w'→k (some ⟨b,0,none⟩,0,()) w'):L.call Pr gD [I room,I line,I pat] (.tup [.one .ptr,.one (.int .i64)]) k w:=by
 refine za (Wz _ _ _) ?_;unfold PX;unfold og at h0 h1;refine fW ?_
 cases c1:wiB room 1 30 with
 | false=>exact itT rfl ⟨(none,2,()),rfl,h0 (by rw[c1];rfl) w h⟩
 | true=>
 refine itF rfl ?_;refine fW ?_
 cases c2:wiB line 0 8 with
 | false=>exact itT rfl ⟨(none,2,()),rfl,h0 (by rw[c1,c2];rfl) w h⟩
 | true=>
 refine itF rfl ?_;refine fW ?_
 cases c3:wiB pat 1 50 with
 | false=>exact itT rfl ⟨(none,2,()),rfl,h0 (by rw[c1,c2,c3];rfl) w h⟩
 | true=>
 refine itF rfl ?_;have hl:0≤line∧line≤8:=by unfold wiB at c2;simpa using c2
 refine z0r h λbf sf w hF h=>?_;refine HP h λbs ss w hS h=>?_;refine iC h λbk sk w hK h=>?_;refine HS h λbr sr w hR h=>?_;refine z0n h (bf:=bf) hl.1 (by omega) λbg sg w hG h=>?_;refine MpS.new h Value.string Value.pointer λr sm w hm h=>?_;refine nw h ?_;clear h;intro b w h;have h:St w0 (UT b ⟨bs,bk,br,bf,bg,r⟩ 0::sm::sg::sr::sk::ss::sf::E) w:=h;refine⟨(some ⟨b,0,none⟩,0,()),rfl,h1 (by rw[c1,c2,c3];rfl) b _ w ⟨⟨bs,bk,br,bf,bg,r⟩,sg,sf,ss,sk,sr,sm,[],⟨hG,hF,hS,hK,hR,hm,by simp,rfl⟩,rfl⟩ ?_⟩;have h:=jS (jS (jS (JR (yM (Ys (yL h))))));have h:St w0 (UT b ⟨bs,bk,br,bf,bg,r⟩ 0::sg::sf::ss::sk::sr::sm::(([]:List BsE).map BsE.sg).flatten::E) w:=h.eq (by simp);exact h.glue8
def wJ:ARt:=⟨s_,s_,[],0⟩
abbrev lR:Sl:=⟨none,0,0⟩
def En [YB w0](h:St w0 E w)(i:Nat){b:Nat}{a:Zd}{s:Seg}(hi:nth E i=some s)(hs:Jq b a s){e:AEv}(hkd:e.kind=9)(hb:Zz e=0)(rd:RdE w0 E eT e.v e.r.ts)(hvc:e.v.len≤e.v.cap)(hrv:∀t∈e.r.ts,Qo t.1)
  (hnow:0≤a.now) (hwk:GWk a.gt) (hfl:(tkG a).2.length<90000000) (hf:∀f∈(tkG a).2,f.Ok)
  (hby:∀rev∈Gl a.bk,(zA a.by' rev).isSome=true) (hxs:∀x∈a.by',x.2.xs.length<1000000000) (hfb:a.bk.all.length<1000000) {k:Sl→PT} (hk:Hk w0 E i b (VW a) k) :
  L.call Pr zx [pO b,evV e] (.one (.one .slice)) k w:=
 oA h i hi hs hb (λhh=>by omega) rd hvc hrv (f:=YD) (by rw[hkd];rfl) Fk (Fs (some ⟨b,0,none⟩) e.t)
  (λh hi _ hk=>Ab h _ hi hs hnow hwk hfl hf hby hxs hfb hk) hk
abbrev cZ(kind:Int):AEv:=⟨kind,s_,s_,0,0,oe,wJ,lR⟩
def bn [YB w0](h:St w0 E w)(i:Nat){b:Nat}{a:Zd}{s:Seg}(hi:nth E i=some s)(hs:Jq b a s){e:AEv}(hkd:e.kind=1)(hb:Zz e=0)(rd:RdE w0 E eT e.v e.r.ts)(hvc:e.v.len≤e.v.cap)(hrv:∀t∈e.r.ts,Qo t.1)
  (hn:a.sh.n<900000000) (hsz:e.c.1.size≤1000000) {k:Sl→PT} (hk:Hk w0 E i b (US a e) k):L.call Pr zx [pO b,evV e] (.one (.one .slice)) k w:=
 oA h i hi hs hb (λhh=>by omega) rd hvc hrv (f:=yY) (by rw[hkd];rfl) gQ (gT (some ⟨b,0,none⟩) e.t) (λh hi _ hk=>LO h _ hi hs hn hsz hk) hk
def An [YB w0](h:St w0 E w)(i:Nat){b:Nat}{a:Zd}{s:Seg}(hi:nth E i=some s)(hs:Jq b a s){e:AEv}(hkd:e.kind=2)(hb:Zz e=0)(rd:RdE w0 (Zi E i) eT e.v e.r.ts)(hvc:e.v.len≤e.v.cap)(h0:e.v.a=none→e.r.ts = [])(hrv:∀t∈e.r.ts,Qo t.1)
  (hn:a.sh.n<900000000) (hsz:e.r.name.size≤1000000) (hfew:a.sh.Few) {k:Sl→PT} (hk:Hk w0 E i b (kN a e) k):L.call Pr zx [pO b,evV e] (.one (.one .slice)) k w:=
 oA h i hi hs hb (λhh=>by omega) (λw h=>rd w (h.del i hi)) hvc hrv (f:=Ym) (by rw[hkd];rfl) GC (GH (some ⟨b,0,none⟩) e.t) (λh hi hd hk=>RZ h _ hi hs hn hsz hfew (λw h=>rd w (hd w h)) hvc h0 hrv hk) hk
def Am [YB w0](h:St w0 E w)(i:Nat){b:Nat}{a:Zd}{s:Seg}(hi:nth E i=some s)(hs:Jq b a s){e:AEv}(hkd:e.kind=10)(hb:Zz e=0)(rd:RdE w0 E eT e.v e.r.ts)(hvc:e.v.len≤e.v.cap)(hrv:∀t∈e.r.ts,Qo t.1)
  (hst:(jx a.sh e.name).2.2.2.1=true→ZZ (jx a.sh e.name).1.1.data.toList 16=true∧1≤@id Int (jx a.sh e.name).2.2.1∧@id Int (jx a.sh e.name).2.2.1<100∧@id Int (jx a.sh e.name).1.2.2.2.1≤1000000) (hf:a.bk.all.length<999999)
  {k:Sl→PT} (hk:Hk w0 E i b (Uc a e) k):L.call Pr zx [pO b,evV e] (.one (.one .slice)) k w:=
 oA h i hi hs hb (λhh=>by omega) rd hvc hrv (f:=Yk) (by rw[hkd];rfl) GA (GF (some ⟨b,0,none⟩) e.t) (λh hi _ hk=>RX h _ hi hs hst hf hk) hk
def Er [YB w0](h:St w0 E w)(i:Nat){b:Nat}{a:Zd}{s:Seg}(hi:nth E i=some s)(hs:Jq b a s){e:AEv}(hkd:e.kind=5)(hb:Zz e=0)(rd:RdE w0 E eT e.v e.r.ts)(hvc:e.v.len≤e.v.cap)(hrv:∀t∈e.r.ts,Qo t.1)
  (hfew:jQ a.fl) (hn:a.gt.all.length<80000000) (hl:a.gt.lines.length<90000000) (hf:∀f∈(qb a.fl a.gt e.n).2.2.1,f.Ok) (hfl:(qb a.fl a.gt e.n).2.2.1.length<100000000)
  {k:Sl→PT} (hk:Hk w0 E i b (VY a e) k):L.call Pr zx [pO b,evV e] (.one (.one .slice)) k w:=
 oA h i hi hs hb (λhh=>by omega) rd hvc hrv (f:=YG) (by rw[hkd];rfl) Fo (Fv (some ⟨b,0,none⟩) e.t) (λh hi _ hk=>Af h _ hi hs hfew hn hl hf hfl hk) hk
def z0s [YB w0](h:St w0 E w)(i:Nat){b:Nat}{a:Zd}{s:Seg}(hi:nth E i=some s)(hs:Jq b a s){e:AEv}(hkd:e.kind=6)(hb:Zz e=0)(rd:RdE w0 E eT e.v e.r.ts)(hvc:e.v.len≤e.v.cap)(hrv':∀t∈e.r.ts,Qo t.1)
  (he:0≤e.n∧e.n≤9000000000000000000) (hrv:(fOf (qn a.fl e.n).1.l e.n).size≤1000000) (hfew:jQ (qn a.fl e.n).1) (hn:a.gt.all.length<80000000) (hl:a.gt.lines.length<90000000)
  (hf:∀f∈(oJ a e).2.2,f.Ok) (hfl:(oJ a e).2.2.length<100000000) {k:Sl→PT} (hk:Hk w0 E i b (pY a e) k):L.call Pr zx [pO b,evV e] (.one (.one .slice)) k w:=
 oA h i hi hs hb (λhh=>by omega) rd hvc hrv' (f:=jm) (by rw[hkd];rfl) pf (pi (some ⟨b,0,none⟩) e.t) (λh hi _ hk=>HL h _ hi hs he hrv hfew hn hl hf hfl hk) hk
def Ep [YB w0](h:St w0 E w)(i:Nat){b:Nat}{a:Zd}{s:Seg}(hi:nth E i=some s)(hs:Jq b a s){e:AEv}(hkd:e.kind=11)(hb:Zz e=0)(rd:RdE w0 E eT e.v e.r.ts)(hvc:e.v.len≤e.v.cap)(hrv:∀t∈e.r.ts,Qo t.1)
  (hfew:a.sh.Few) (hname:e.name.size≤100000) (hp:∀t∈(Qy a.sh e.name).1.ts,0≤pct t∧pct t≤1000) (hl:(Qy a.sh e.name).1.ts.length≤1000)
  (hroll:(Qy a.sh e.name).1.roll≤1000000) (hok:∀x,zA a.ro e.name=some x→x.Ok) (hsi:∀x,zA a.ro e.name=some x→0≤x.since∧x.since<1000000000) (hnow:0≤a.now∧a.now<1000000000) (hwb:WBd (cr a e.name).1.sh) (hln:(NB a e.name).sh.length<100000) (htb:z0b (NB a e.name))
  {k:Sl→PT} (hk:Hk w0 E i b (VX a e) k):L.call Pr zx [pO b,evV e] (.one (.one .slice)) k w:=
 oA h i hi hs hb (λhh=>by omega) rd hvc hrv (f:=YE) (by rw[hkd];rfl) Fl (Ft (some ⟨b,0,none⟩) e.t) (λh hi _ hk=>Ad h _ hi hs hfew hname hp hl hroll hok hsi hnow hwb hln htb hk) hk
def bo [YB w0](h:St w0 E w)(i:Nat){b:Nat}{a:Zd}{s:Seg}(hi:nth E i=some s)(hs:Jq b a s){e:AEv}(hkd:e.kind=4)(hb:Zz e=0)(rd:RdE w0 E eT e.v e.r.ts)(hvc:e.v.len≤e.v.cap)(hrv':∀t∈e.r.ts,Qo t.1)
  (hd:0≤e.draw∧e.draw<4611686018427387904) (hok:∀x,zA a.ro e.name=some x→x.Ok) (hwb:WBd (Gd a.ro e.name).sh)
  (hfew:jQ a.fl) (hn:a.gt.all.length<80000000) (hl:a.gt.lines.length<90000000) (hnow: -1000000000000<a.now+a.gt.pat∧a.now+a.gt.pat<1000000000000) (hf:(arG a e).2.2.Ok) (hrv:(bnd a e).size≤1000000)
  {k:Sl→PT} (hk:Hk w0 E i b (qX a e) k):L.call Pr zx [pO b,evV e] (.one (.one .slice)) k w:=
 oA h i hi hs hb (λhh=>by omega) rd hvc hrv' (f:=yZ) (by rw[hkd];rfl) gR (gU (some ⟨b,0,none⟩) e.t) (λh hi _ hk=>LP h _ hi hs hd hok hwb hfew hn hl hnow hf hrv hk) hk
def Eo [YB w0](h:St w0 E w)(i:Nat){b:Nat}{a:Zd}{s:Seg}(hi:nth E i=some s)(hs:Jq b a s){e:AEv}(hkd:e.kind=13)(hnm:Ws e.name)(hb:Zz e=0)(rd:RdE w0 E eT e.v e.r.ts)(hvc:e.v.len≤e.v.cap)(hrv:∀t∈e.r.ts,Qo t.1)
  (hroom:a.fl.room<1000000) (hlast:a.fl.last+a.fl.room<4611686018427387904) (hname:e.name.size≤100000)
  (hmade:∀x∈ov a.fl e.name (jX a e.name),0≤x∧x≤9000000000000000000) (hmn:(ov a.fl e.name (jX a e.name)).length<100000) (hgone:∀x∈(xn a.fl e.name (UZ a e.name) (jX a e.name)).2,0≤x∧x≤9000000000000000000) (hgn:(xn a.fl e.name (UZ a e.name) (jX a e.name)).2.length<100000)
  (hpn:(qc (lI a e.name).l e.name).length<1000000) {k:Sl→PT} (hk:Hk w0 E i b (Ud a e) k):L.call Pr zx [pO b,evV e] (.one (.one .slice)) k w:=
 oA h i hi hs hb (λ_=>by omega) rd hvc hrv (f:=yS) (by rw[hkd];rfl) Vg (Vi (some ⟨b,0,none⟩) e.t) (λh hi _ hk=>Ac h _ hi hs hroom hlast hname hmade hmn hgone hgn hpn hk) hk
end Go.Proofs.YtimahgbgejngiaaGreatDoor
namespace Go.Proofs.YtimahgbgejngiaaGreatDoor
open Go.Dm
abbrev idB(x:Int):Prop:=0≤x∧x≤2147483647
structure FlI(k:Nat)(F:zk):Prop where
 few:jQ F
 r1:1≤F.room
 last:F.last≤30*(k:Int)
 rev:∀x∈F.l,Ws x.rev
 req:∀x∈F.l,∀q∈x.pod.reqs,idB q
def FlI.mono{k m:Nat}{F:zk}(h:FlI k F)(hm:k≤m):FlI m F:=⟨h.few,h.r1,by have:=h.last;omega,h.rev,h.req⟩
def FlI.upd{k:Nat}{F:zk}(h:FlI k F){id:Int}{g:js→js}(hf:jQ { F with l:=xm F.l id g })(hg:∀x∈F.l,x.id=id→∀q∈(g x.pod).reqs,idB q):FlI k { F with l:=xm F.l id g }:=
 ⟨hf,h.r1,h.last,λy hy=>by
  rcases Dj hy with hy | ⟨x,hx,_,rfl⟩
  ·exact h.rev y hy
  ·exact h.rev x hx,λy hy=>by
  rcases Dj hy with hy | ⟨x,hx,hid,rfl⟩
  ·exact h.req y hy
  ·exact hg x hx hid⟩
def lC{p:js}{q z:Int}(h:z∈(yF p q).1.reqs):z∈p.reqs∨z=q:=by
 unfold yF at h;split at h
 ·exact .inl h
 ·split at h
  ·exact .inl h
  ·split at h
   ·exact .inl h
   ·rcases List.mem_cons.1 ((Ol q p.reqs).mem_iff.1 h)with e | e
    ·exact .inr e
    ·exact .inl e
def lF{p:js}{q z:Int}(h:z∈(Yi p q).1.reqs):z∈p.reqs:=by
 unfold Yi at h;split at h
 ·exact List.erase_subset h
 ·exact h
def lE{p:js}{z:Int}(h:z∈(yQ p).1.reqs):z∈p.reqs:=by
 unfold yQ at h;split at h
 ·exact h
 ·cases h
def lz(p:js):(Xc p).1.reqs=p.reqs:=by unfold Xc;split<;>rfl
def lH(p:js):(Yq p).1.reqs=p.reqs:=by unfold Yq;split<;>rfl
def FlI.take{k:Nat}{F:zk}(h:FlI k F)(rev:B0){q:Int}(hq:idB q):FlI k (yt F rev q).1:=by
 have hf:=h.few.take rev q;unfold yt at hf ⊢;split
 ·exact h
 ·rename_i h1;rw[if_neg h1]at hf;split
  ·exact h
  ·rename_i x hx;rw[hx]at hf;exact h.upd hf λy hy _ z hz=>by
    rcases lC hz with e | rfl
    ·exact h.req y hy z e
    ·exact hq
def FlI.give{k:Nat}{F:zk}(h:FlI k F)(q:Int):FlI k (Yd F q).1:=by
 have hf:=h.few.give q;unfold Yd at hf ⊢;split
 ·exact h
 ·rename_i x hx;rw[hx]at hf;exact h.upd hf λy hy _ z hz=>h.req y hy z (lF hz)
def FlI.kill{k:Nat}{F:zk}(h:FlI k F)(id:Int):FlI k (Xd F id).1:=by
 have hf:=h.few.kill id;unfold Xd at hf ⊢;split
 ·exact h
 ·rename_i x hx;rw[hx]at hf;exact h.upd hf λy hy _ z hz=>h.req y hy z (lE hz)
def FlI.up{k:Nat}{F:zk}(h:FlI k F)(id:Int):FlI k (qn F id).1:=by
 have hf:=h.few.up id;unfold qn;split
 ·exact h
 ·exact h.upd hf λy hy _ z hz=>h.req y hy z (by rwa [lz]at hz)
def FlI.drain{k:Nat}{F:zk}(h:FlI k F)(rev:B0):FlI k (Kk rev F):=
 h.upd (h.few.drain rev) λy hy _ z hz=>h.req y hy z (by rwa [lH]at hz)
def FlI.shrink(rev:B0):∀(n:Nat){k:Nat}{F:zk},FlI k F→FlI k (YtimahgbgejngiaaGreatDoor.shrink rev n F).1
 | 0,_,_,h=>h
 | n+1,_,_,h=>FlI.shrink rev n (h.drain rev)
def Dc{rev:B0}{conc:Int}:∀(n:Nat){F:zk}{x:ZJ},x∈(grow rev conc n F).l→x∈F.l∨(x.rev=rev∧x.pod=⟨1,conc,[]⟩)
 | 0,_,_,h=>.inl h
 | n+1,F,x,h=>by
  unfold grow grow1 at h;rcases List.mem_append.1 h with h | h
  ·exact Dc n h
  ·rw[List.mem_singleton]at h;subst h;exact .inr ⟨rfl,rfl⟩
def fJ(F:zk)(rev:B0)(want:Int):(uK F rev want:Int)≤max 0 (F.room-F.l.length):=by rw[SC];omega
def FlI.scale{k:Nat}{F:zk}(h:FlI k F){rev:B0}(hr:Ws rev){conc:Int}(hc:conc≤1000)(want:Int):FlI (k+1) (xn F rev conc want).1:=by
 have hl:=h.few.l;have hr20:=h.few.r;unfold jy at hr20;have hn:=fJ F rev want;have hg:FlI (k+1) (Xo F rev conc want):=by
  refine⟨jQ.grow rev hc _ h.few (by omega),?_,?_,λx hx=>?_,λx hx q hq=>?_⟩
  ·unfold Xo;rw[FX];exact h.r1
  ·unfold Xo;rw[FY];have:=h.last;omega
  ·rcases Dc _ hx with hx | ⟨e,-⟩
   ·exact h.rev x hx
   ·rw[e];exact hr
  ·rcases Dc _ hx with hx | ⟨-,e⟩
   ·exact h.req x hx q hq
   ·rw[e]at hq;cases hq
 exact hg.shrink rev _
def WT{F:zk}(ok:F.Ok)(rev:B0)(q:Int):0≤(yt F rev q).2.1∧(yt F rev q).2.1≤F.last:=by
 have:=ok.lo;unfold yt;split
 ·exact⟨Int.le_refl 0,this⟩
 ·split
  ·exact⟨Int.le_refl 0,this⟩
  ·rename_i x hx;have:=ok.rng x (dE hx).1;dsimp only;omega
def BP(F:zk)(rev:B0)(q:Int):(yt F rev q).1.last=F.last:=by
 unfold yt;split
 ·rfl
 ·split<;>rfl
def cx{rev:B0}:∀{l:List (Int×Int)}{F:zk}{all:uA}{out:List yG},F.Ok→F.last≤9000000000000000000→(∀x∈l,idB x.1)→(∀f∈out,f.Ok)→∀f∈(jD rev l F all out).2.2.2,f.Ok
 | [],_,_,_,_,_,_,h=>h
 | x::l,F,all,out,ok,hl,hx,h=>by
  unfold jD;split
  ·have tp:=WT ok rev x.1;have hx1:=hx x (by simp);refine cx (Lw ok rev x.1) (by rw[BP];exact hl) (λy hy=>hx y (by simp[hy])) λf hf=>?_;rcases List.mem_append.1 hf with hf | hf
   ·exact h f hf
   ·rw[List.mem_singleton]at hf;subst hf;exact⟨⟨hx1.1,Int.le_trans hx1.2 (by decide)⟩,⟨tp.1,Int.le_trans tp.2 hl⟩,by show s_.size≤1000;decide⟩
  ·exact h
def Dg{k:Nat}{rev:B0}:∀{l:List (Int×Int)}{F:zk}{all:uA}{out:List yG},FlI k F→(∀x∈l,idB x.1)→FlI k (jD rev l F all out).1
 | [],_,_,_,h,_=>h
 | x::l,F,all,out,h,hx=>by
  unfold jD;split
  ·exact Dg (h.take rev (hx x (by simp))) λy hy=>hx y (by simp[hy])
  ·exact h
def MQ{rev:B0}:∀{l:List (Int×Int)}{F:zk}{all:uA}{out:List yG},∀y∈(jD rev l F all out).2.2.1,y∈l
 | [],_,_,_,y,h=>by cases h
 | x::l,F,all,out,y,h=>by
  unfold jD at h;split at h
  ·exact List.mem_cons_of_mem _ (MQ y h)
  ·exact h
def NP{rev:B0}:∀{l:List (Int×Int)}{F:zk}{all:uA}{out:List yG},(∀x∈all,idB x.1)→(∀x∈l,idB x.1)→∀x∈(jD rev l F all out).2.1,idB x.1
 | [],_,_,_,h,_=>h
 | x::l,F,all,out,h,hx=>by
  unfold jD;split
  ·refine NP (λy hy=>?_) λy hy=>hx y (by simp[hy]);rcases yr hy with rfl | hy
   ·exact hx x (by simp)
   ·exact h y hy
  ·exact h
def uG{κ υ:Type}[DecidableEq κ](m:List (κ×υ))(a b:κ)(u:υ)(h:(zA m b).isSome=true):(zA (Zp m a u) b).isSome=true:=by
 rw[XL];split
 ·rfl
 ·exact h
def MP{rev:B0}{q:Int}:∀{l:List (Int×Int)}{F:zk}{all:uA}{out:List yG},(zA all q).isSome=true→(zA (jD rev l F all out).2.1 q).isSome=true
 | [],_,_,_,h=>h
 | x::l,F,all,out,h=>by
  unfold jD;split
  ·exact MP (uG _ _ _ _ h)
  ·exact h
structure GtI(k:Nat)(G:Zq):Prop where
 all:G.all.length≤2000*k
 ids:∀x∈G.all,idB x.1
 lines:G.lines.length≤k
 lid:∀x∈G.lines,∀y∈x.2,idB y.1
 wk:GWk G
 pat:1≤G.pat∧G.pat≤1000
 room:0≤G.room∧G.room≤8
def GtI.mono{k m:Nat}{G:Zq}(h:GtI k G)(hm:k≤m):GtI m G:=⟨by have:=h.all;omega,h.ids,by have:=h.lines;omega,h.lid,h.wk,h.pat,h.room⟩
def GtI.line{k:Nat}{G:Zq}(h:GtI k G)(rev:B0):∀y∈zS G.lines rev,idB y.1:=λy hy=>by
 unfold zS at hy
 cases hg:zA G.lines rev with
 | none=>rw[hg]at hy;cases hy
 | some l=>rw[hg]at hy;exact h.lid _ (jB hg) y hy
def GtI.turn{k m:Nat}{G:Zq}(h:GtI k G){all:uA}{rev:B0}{l:List (Int×Int)}(hm:k+1≤m)(hl:all.length≤2000*m)(hi:∀x∈all,idB x.1)(hs:∀q,(zA G.all q).isSome=true→(zA all q).isSome=true)
  (h1:∀y∈l,idB y.1) (h2:∀y∈l,(zA all y.1).isSome=true):GtI m { G with all:=all,lines:=Zp G.lines rev l }:=by
 have:=h.lines;have:=JA G.lines rev l;refine⟨hl,hi,by dsimp only;omega,λx hx y hy=>?_,λx hx y hy=>?_,h.pat,h.room⟩
 ·rcases yr hx with rfl | hx
  ·exact h1 y hy
  ·exact h.lid x hx y hy
 ·rcases yr hx with rfl | hx
  ·exact h2 y hy
  ·exact hs _ (h.wk x hx y hy)
def GtI.req{k m:Nat}{G:Zq}(h:GtI k G){all:uA}(hm:k≤m)(hl:all.length≤2000*m)(hi:∀x∈all,idB x.1)(hs:∀q,(zA G.all q).isSome=true→(zA all q).isSome=true):GtI m { G with all:=all }:=
 ⟨hl,hi,by have:=h.lines;dsimp only;omega,h.lid,λx hx y hy=>hs _ (h.wk x hx y hy),h.pat,h.room⟩
def Uu{all:uA}{id:Int}{x:B0×Int}(h:∀x∈all,idB x.1)(hi:idB id):∀y∈Zp all id x,idB y.1:=λy hy=>by
 rcases yr hy with rfl | hy
 ·exact hi
 ·exact h y hy
def NN{k:Nat}{F:zk}{G:Zq}(ok:G.Ok)(hF:FlI k F)(hG:GtI k G)(rev:B0):FlI k (JD F G rev).1∧GtI (k+1) (JD F G rev).2.1:=by
 have hl:=Oq (rev:=rev) (l:=zS G.lines rev) (F:=F) (all:=G.all) (out:=[]);have hn:=JB ok rev;have:=hG.all;have:=hG.room;refine⟨Dg hF (hG.line rev),hG.turn (Nat.le_refl _) (by omega) (NP hG.ids (hG.line rev)) (λq=>MP) (λy hy=>hG.line rev y (MQ y hy)) λy hy=>?_⟩;exact MP (hG.wk.line rev y (MQ y hy))
def cw{k:Nat}{F:zk}{G:Zq}(hk:k≤100000)(ok:F.Ok)(hF:FlI k F)(hG:GtI k G)(rev:B0):∀f∈(JD F G rev).2.2,f.Ok:=
 cx ok (by have:=hF.last;omega) (hG.line rev) (by simp)
def z9:(0:Int)≤0∧(0:Int)≤9000000000000000000:=⟨by decide,by decide⟩
def aP{k:Nat}{F:zk}{G:Zq}(okF:F.Ok)(ok:G.Ok)(hk:k≤10000)(hF:FlI k F)(hG:GtI k G){id:Int}(hid:idB id):FlI k (qb F G id).1∧GtI (k+2) (qb F G id).2.1:=by
 have hF':=hF.give id;have hla:=hG.all;have hg:GtI (k+1) { G with all:=Zp G.all id ((Yd F id).2.1,3) }:=hG.req (by omega) (by have:=JA G.all id ((Yd F id).2.1,3);omega) (Uu hG.ids hid) λq=>uG _ _ _ _;unfold qb;split
 ·exact⟨hF',hG.mono (by omega)⟩
 ·have okg:({ G with all:=Zp G.all id ((Yd F id).2.1,3) }:Zq).Ok:=ok.req (by omega) id _;have:=NN okg (hF'.mono (Nat.le_succ k)) hg (Yd F id).2.1;refine⟨?_,this.2⟩;have h2:=Dg (k:=k) (rev:=(Yd F id).2.1) (l:=zS G.lines (Yd F id).2.1) (all:=Zp G.all id ((Yd F id).2.1,3)) (out:=[]) hF' (hG.line _);exact h2
def Lq{k:Nat}{F:zk}{G:Zq}(okF:F.Ok)(hk:k≤10000)(hF:FlI k F)(hG:GtI k G){id:Int}(hid:idB id):∀f∈(qb F G id).2.2.1,f.Ok:=by
 have hla:=hG.all;have hg:GtI (k+1) { G with all:=Zp G.all id ((Yd F id).2.1,3) }:=hG.req (by omega) (by have:=JA G.all id ((Yd F id).2.1,3);omega) (Uu hG.ids hid) λq=>uG _ _ _ _;unfold qb;split
 ·intro f hf;cases hf
 ·intro f hf;rcases List.mem_cons.1 hf with rfl | hf
  ·exact⟨⟨hid.1,Int.le_trans hid.2 (by decide)⟩,z9,by show s_.size≤1000;decide⟩
  ·exact cw (by omega:k+1≤100000) (Hn okF id) ((hF.give id).mono (Nat.le_succ k)) hg _ f hf
def aO{F:zk}{G:Zq}(ok:G.Ok)(hn:G.all.length<80000000)(hr:G.room≤8)(id:Int):(qb F G id).2.2.1.length<100000000:=by
 unfold qb;split
 ·simp
 ·have:=(mb (F:=(Yd F id).1) (ok.req (by omega) id ((Yd F id).2.1,3)) (Yd F id).2.1).1;dsimp only at this ⊢;rw[List.length_cons];omega
def SH{k:Nat}{F:zk}{G:Zq}(ok:G.Ok)(hF:FlI k F)(hG:GtI k G){id:Int}(hid:idB id)(rev:B0)(now:Int):FlI k (Dd F G id rev now).1∧GtI (k+1) (Dd F G id rev now).2.1:=by
 have hla:=hG.all;have hl:∀x:B0×Int,(Zp G.all id x).length≤2000*(k+1):=λx=>by have:=JA G.all id x;omega
 have hs:∀(x:B0×Int) q,(zA G.all q).isSome=true→(zA (Zp G.all id x) q).isSome=true:=λx q=>uG _ _ _ _;have hln:∀(x:B0×Int),∀y∈zS G.lines rev,(zA (Zp G.all id x) y.1).isSome=true:=λx y hy=>hs x _ (hG.wk.line rev y hy);unfold Dd;split
 ·exact⟨hF,hG.mono (Nat.le_succ k)⟩
 ·split
  ·exact⟨hF,hG.req (Nat.le_succ k) (hl _) (Uu hG.ids hid) (hs _)⟩
  ·split
   ·exact⟨hF.take rev hid,hG.turn (Nat.le_refl _) (hl _) (Uu hG.ids hid) (hs _) (hG.line rev) (hln _)⟩
   ·split
    ·exact⟨hF,hG.turn (Nat.le_refl _) (hl _) (Uu hG.ids hid) (hs _) (hG.line rev) (hln _)⟩
    ·rename_i h4;refine⟨hF,hG.turn (Nat.le_refl _) (hl _) (Uu hG.ids hid) (hs _) (λy hy=>?_) λy hy=>?_⟩ <;>
     ·unfold vU at hy h4;split at hy
      ·rename_i h5;rw[if_pos h5]at h4;exact absurd (show(5:Int)≠0 by decide) h4
      ·rename_i h5;rw[if_neg h5]at h4;split at hy
       ·rename_i h6;rw[if_pos h6]at h4;exact absurd (show(8:Int)≠0 by decide) h4
       ·rcases List.mem_append.1 hy with hy | hy
        ·first | exact hG.line rev y hy | exact hln _ y hy
        ·rw[List.mem_singleton]at hy;subst hy
         first | exact hid | (rw[XL,if_pos rfl];rfl)
def aQ{k:Nat}{F:zk}{G:Zq}(hk:k≤10000)(okF:F.Ok)(hF:FlI k F){id:Int}(hid:idB id)(rev:B0)(now:Int):(Dd F G id rev now).2.2.Ok:=by
 have hi:0≤id∧id≤9000000000000000000:=⟨hid.1,Int.le_trans hid.2 (by decide)⟩;have hz:(0:Int)≤0∧(0:Int)≤9000000000000000000:=⟨by decide,by decide⟩;unfold Dd;split
 ·exact⟨hi,hz,by show Pe.size≤1000;decide⟩
 ·split
  ·exact⟨hi,hz,by show gx.size≤1000;decide⟩
  ·split
   ·have:=WT okF rev id;have:=hF.last;exact⟨hi,⟨by show 0≤(yt F rev id).2.1;omega,by show(yt F rev id).2.1≤9000000000000000000;omega⟩,by show s_.size≤1000;decide⟩
   ·split
    ·exact⟨hi,hz,by show kQ.size≤1000;decide⟩
    ·exact⟨hi,hz,by show s_.size≤1000;decide⟩
def ML{q:Int}:∀{l:List Int}{all:uA}{out:List yG},(zA all q).isSome=true→(zA (XC l all out).1 q).isSome=true
 | [],_,_,h=>h
 | x::l,all,out,h=>by
  unfold XC;split
  ·exact ML (uG _ _ _ _ h)
  ·exact ML h
def tW:∀{l:List Int}{all:uA}{out:List yG},(∀x∈all,idB x.1)→(∀x∈l,idB x)→∀x∈(XC l all out).1,idB x.1
 | [],_,_,h,_=>h
 | x::l,all,out,h,hx=>by
  unfold XC;split
  ·exact tW (Uu h (hx x (by simp))) λy hy=>hx y (by simp[hy])
  ·exact tW h λy hy=>hx y (by simp[hy])
def oo:∀{l:List Int}{all:uA}{out:List yG},(∀x∈l,idB x)→(∀f∈out,f.Ok)→∀f∈(XC l all out).2,f.Ok
 | [],_,_,_,h=>h
 | x::l,all,out,hx,h=>by
  unfold XC;have hx1:=hx x (by simp);split
  ·refine oo (λy hy=>hx y (by simp[hy])) λf hf=>?_;rcases List.mem_append.1 hf with hf | hf
   ·exact h f hf
   ·rw[List.mem_singleton]at hf;subst hf;exact⟨⟨hx1.1,Int.le_trans hx1.2 (by decide)⟩,z9,by show UX.size≤1000;decide⟩
  ·exact oo (λy hy=>hx y (by simp[hy])) h
def Py{k:Nat}{F:zk}(hF:FlI k F)(id:Int):(∀q∈(Xd F id).2.1,idB q)∧(Xd F id).2.1.length≤1000:=by
 unfold Xd;split
 ·exact⟨λq hq=>(by cases hq),Nat.zero_le _⟩
 ·rename_i x hx;have hx:=(JE hx).1;exact⟨hF.req x hx,(hF.few.q x hx).1⟩
def aN{k:Nat}{G:Zq}(hG:GtI k G){l:List Int}(hl:∀q∈l,idB q)(hn:l.length≤1000):GtI (k+1) (Oo G l).1:=by
 have:=hG.all;have h2:=(kJ (l:=l) (all:=G.all) (out:=[])).2;exact hG.req (Nat.le_succ k) (by omega) (tW hG.ids hl) λq=>ML
def NC{rev:B0}:∀{l:List Int}{all:uA},(∀x∈all,idB x.1)→(∀x∈l,idB x)→∀x∈Gg rev l all,idB x.1
 | [],_,h,_=>h
 | x::l,all,h,hx=>NC (l:=l) (Uu h (hx x (by simp))) λy hy=>hx y (by simp[hy])
def Le{l:List (Int×Int)}{now q:Int}(h:q∈jC l now):∃y∈l,y.1=q:=by
 unfold jC at h;obtain⟨y,hy,e⟩:=List.mem_map.1 h;exact⟨y,(List.mem_filter.1 hy).1,e⟩
structure TkI(m n:Nat)(G:Zq):Prop where
 all:G.all.length≤m
 ids:∀x∈G.all,idB x.1
 lines:G.lines.length≤n
 lid:∀x∈G.lines,∀y∈x.2,idB y.1
 wk:GWk G
 ok:G.Ok
def TkI.line{m n:Nat}{G:Zq}(h:TkI m n G)(rev:B0):∀y∈zS G.lines rev,idB y.1:=λy hy=>by
 unfold zS at hy
 cases hg:zA G.lines rev with
 | none=>rw[hg]at hy;cases hy
 | some l=>rw[hg]at hy;exact h.lid _ (jB hg) y hy
def TkI.tick1{m n:Nat}{G:Zq}(h:TkI m n G){k:B0}(hk:(zA G.lines k).isSome=true)(now:Int):TkI m n (YtimahgbgejngiaaGreatDoor.tick1 now k G):=by
 refine⟨?_,?_,?_,?_,h.wk.tick1 k now,h.ok.tick1 h.wk hk now⟩
 ·have:=congrArg List.length (gK (rev:=k) (l:=jC (zS G.lines k) now) (all:=G.all) (h.wk.late k now));simp only[List.length_map]at this;have:=h.all;unfold YtimahgbgejngiaaGreatDoor.tick1;dsimp only;omega
 ·refine NC h.ids λq hq=>?_;obtain⟨y,hy,rfl⟩:=Le hq;exact h.line k y hy
 ·have:=congrArg List.length (TZ (G:=G) hk now);simp only[List.length_map]at this;have:=h.lines;omega
 ·intro x hx y hy;rcases yr hx with rfl | hx
  ·exact h.line k y (List.mem_filter.1 hy).1
  ·exact h.lid x hx y hy
def tH{m n:Nat}{now:Int}{r:Int}:∀{ks:List B0}{G:Zq}{out:List yG},TkI m n G→G.room=r→(∀k∈ks,(zA G.lines k).isSome=true)→(∀f∈out,f.Ok)→
  TkI m n (oa now ks G out).1∧(∀f∈(oa now ks G out).2,f.Ok)∧((oa now ks G out).2.length:Int)≤out.length+ks.length*max r 0∧(oa now ks G out).1.pat=G.pat∧(oa now ks G out).1.room=G.room
 | [],G,out,h,hr,_,ho=>⟨h,ho,by simp[oa],rfl,rfl⟩
 | k::ks,G,out,h,hr,hk,ho=>by
  have h1:=h.tick1 (hk k (by simp)) now;have hn:=TZ (G:=G) (hk k (by simp)) now;have hks:∀k'∈ks,(zA (tick1 now k G).lines k').isSome=true:=λk' hk'=>by
   have:=hk k' (by simp[hk'])
   cases h3:zA (tick1 now k G).lines k' with
   | some _=>rfl
   | none=>
    rw[Yn,hn]at h3
    cases h4:zA G.lines k' with
    | none=>rw[h4]at this;cases this
    | some v=>exact absurd (List.mem_map.2 ⟨_,jB h4,rfl⟩) h3
  have ho':∀f∈out++Kd (jC (zS G.lines k) now),f.Ok:=λf hf=>by
   rcases List.mem_append.1 hf with hf | hf
   ·exact ho f hf
   ·unfold Kd at hf;obtain⟨q,hq,rfl⟩:=List.mem_map.1 hf;obtain⟨y,hy,rfl⟩:=Le hq;have:=h.line k y hy;exact⟨⟨this.1,Int.le_trans this.2 (by decide)⟩,z9,by show kF.size≤1000;decide⟩
  obtain⟨a,b,c,d,e⟩:=tH (ks:=ks) (r:=r) h1 hr hks ho';refine⟨a,b,?_,d,e⟩;have hll:=JB h.ok k;rw[hr]at hll;have h5:(jC (zS G.lines k) now).length≤(zS G.lines k).length:=by unfold jC;rw[List.length_map];exact List.length_filter_le ..
  rw[List.length_append,FT]at c;show((oa now ks (tick1 now k G) (out++Kd (jC (zS G.lines k) now))).2.length:Int)≤_;rw[List.length_cons];have:((ks.length+1:Nat):Int)*max r 0=ks.length*max r 0+max r 0:=by rw[Int.natCast_add,Int.add_mul];simp
  rw[this];omega
def Tc{k:Nat}{G:Zq}(ok:G.Ok)(hG:GtI k G)(now:Int):GtI k (Kg G now).1∧(∀f∈(Kg G now).2,f.Ok)∧(Kg G now).2.length≤8*k:=by
 have h:TkI G.all.length G.lines.length G:=⟨Nat.le_refl _,hG.ids,Nat.le_refl _,hG.lid,hG.wk,ok⟩;obtain⟨a,b,c,d,e⟩:=tH (now:=now) (r:=G.room) (ks:=yR (G.lines.map (·.1))) (out:=[]) h rfl (λk hk=>by
  cases h4:zA G.lines k with
  | none=>rw[Yn]at h4;exact absurd (UV.1 hk) h4
  | some v=>rfl) (by simp)
 have r:=hG.room;have hl:=hG.lines;refine⟨⟨Nat.le_trans a.all hG.all,a.ids,Nat.le_trans a.lines hl,a.lid,a.wk,?_,?_⟩,b,?_⟩
 ·unfold Kg;rw[d];exact hG.pat
 ·unfold Kg;rw[e];exact r
 ·rw[jk,List.length_map]at c;have h8:(G.lines.length:Int)*max G.room 0≤G.lines.length*8:=Int.mul_le_mul_of_nonneg_left (by omega) (by omega);unfold Kg;simp only[List.length_nil]at c;omega
structure ShI(k:Nat)(a:Yu):Prop where
 n:a.n≤k
 few:a.Few
 cfg:∀n,(jK a.m n).is=true→(Gk (jK a.m n)).1=n∧UG (Gk (jK a.m n))=0∧1≤(jK a.m n).gen
 rt:∀n,(QZ a.r n).is=true→(QZ a.r n).r.name=n∧Gb (QZ a.r n).r=0
def ShI.mono{k m:Nat}{a:Yu}(h:ShI k a)(hm:k≤m):ShI m a:=⟨by have:=h.n;omega,h.few,h.cfg,h.rt⟩
def BW{k:Nat}{a:Yu}(ok:a.Ok)(h:ShI k a)(c:Cfg)(ver:Int):ShI (k+1) (kO a c ver).1:=by
 have hf:=BX h.few c ver;unfold kO at hf ⊢;split
 ·exact h.mono (Nat.le_succ k)
 ·rename_i h1;rw[if_neg h1]at hf;split
  ·exact h.mono (Nat.le_succ k)
  ·rename_i h2;rw[if_neg h2]at hf;have hn:=h.n;refine⟨by dsimp only;omega,hf,λn hn2=>?_,h.rt⟩;dsimp only[ak]at hn2 ⊢;rw[pX]at hn2 ⊢;split
   ·rename_i e;have h1':UG c=0:=by simpa using h1
    refine⟨e,h1',?_⟩;have h3:=ok.gen c.1;show(1:Int)≤(if(jK a.m c.1).is=true∧Og (Gk (jK a.m c.1)) c=true then(jK a.m c.1).gen else(jK a.m c.1).gen+1);split
    ·rename_i h4;exact(h.cfg c.1 h4.1).2.2
    ·omega
   ·rename_i e;rw[if_neg e]at hn2;exact h.cfg n hn2
def rQ{k:Nat}{a:Yu}(h:ShI k a)(r:ARt)(ver:Int):ShI (k+1) (QY a r ver).1:=by
 have hf:=rR h.few r ver;unfold QY at hf ⊢;split
 ·exact h.mono (Nat.le_succ k)
 ·rename_i h1;rw[if_neg h1]at hf;split
  ·exact h.mono (Nat.le_succ k)
  ·rename_i h2;rw[if_neg h2]at hf;have hn:=h.n;refine⟨by dsimp only;omega,hf,h.cfg,λn hn2=>?_⟩;dsimp only[Nu]at hn2 ⊢;rw[lm]at hn2 ⊢;split
   ·rename_i e;exact⟨e,by simpa using h1⟩
   ·rename_i e;rw[if_neg e]at hn2;exact h.rt n hn2
def rT{k:Nat}{a:Yu}(h:ShI k a)(kind:Int)(n:B0)(ver:Int):ShI (k+1) (Uf a kind n ver).1:=by
 have hf:=rU h.few kind n ver;have hn:=h.n;unfold Uf at hf ⊢;split
 ·rename_i h1;rw[if_pos h1]at hf;split
  ·rename_i h2;rw[if_pos h2]at hf;refine⟨by dsimp only;omega,hf,λx hx=>?_,h.rt⟩;dsimp only[Lz]at hx ⊢;rw[pX]at hx ⊢;split
   ·rename_i e;rw[if_pos e]at hx;cases hx
   ·rename_i e;rw[if_neg e]at hx;exact h.cfg x hx
  ·exact h.mono (Nat.le_succ k)
 ·rename_i h0;rw[if_neg h0]at hf;split
  ·rename_i h1;rw[if_pos h1]at hf;split
   ·rename_i h2;rw[if_pos h2]at hf;refine⟨by dsimp only;omega,hf,h.cfg,λx hx=>?_⟩;dsimp only[MR]at hx ⊢;rw[lm]at hx ⊢;split
    ·rename_i e;rw[if_pos e]at hx;cases hx
    ·rename_i e;rw[if_neg e]at hx;exact h.rt x hx
   ·exact h.mono (Nat.le_succ k)
  ·exact h.mono (Nat.le_succ k)
def qY{c:Cfg}(h:UG c=0):ZZ c.1.data.toList 16=true∧(0≤@id Int c.2.1∧@id Int c.2.1≤255)∧(1≤@id Int c.2.2.1∧@id Int c.2.2.1≤8)∧(1≤@id Int c.2.2.2.2.1∧@id Int c.2.2.2.2.1≤10)∧(0≤@id Int c.2.2.2.1∧@id Int c.2.2.2.1≤@id Int c.2.2.2.2.1)∧(0≤@id Int c.2.2.2.2.2.1∧@id Int c.2.2.2.2.2.1≤30):=by
 unfold UG at h;split at h
 ·rename_i h1;split at h
  ·rename_i h2;unfold fP at h2;simp only[Bool.and_eq_true,decide_eq_true_eq]at h2;exact⟨h1,h2.1,h2.2.1,h2.2.2.1,h2.2.2.2.1,h2.2.2.2.2⟩
  ·cases h
 ·cases h
structure BkI(k:Nat)(a:yH):Prop where
 len:a.all.length≤k
 rev:∀p∈a.all,Ws p.1
 cfg:∀p∈a.all,UG p.2.cfg=0
def BkI.mono{k m:Nat}{a:yH}(h:BkI k a)(hm:k≤m):BkI m a:=⟨by have:=h.len;omega,h.rev,h.cfg⟩
def BkI.prove{k:Nat}{a:yH}(h:BkI k a)(rev:B0):BkI k (ox a rev).1:=by
 unfold ox;split
 ·exact⟨h.len,h.rev,h.cfg⟩
 ·exact h
def BkI.stamp{k:Nat}{a:yH}(h:BkI k a){c:Cfg}(hc:UG c=0){g:Nat}(h1:1≤g)(hg:g<100):BkI (k+1) (Xp a c g).1:=by
 unfold Xp;split
 ·exact h.mono (Nat.le_succ k)
 ·have:=h.len;have:=JA a.all (qm c.1 g) (su (qm c.1 g) g c);refine⟨by dsimp only;omega,λp hp=>?_,λp hp=>?_⟩
  ·rcases yr hp with rfl | hp
   ·exact⟨c.1,g,(qY hc).1,h1,by omega,rfl⟩
   ·exact h.rev p hp
  ·rcases yr hp with rfl | hp
   ·exact hc
   ·exact h.cfg p hp
def Qk{a:yH}{rev:B0}(h:jt a rev=true):(rev,qF a rev)∈a.all:=by
 unfold jt at h;unfold qF
 cases h2:zA a.all rev with
 | none=>rw[h2]at h;cases h
 | some v=>exact jB h2
def wd{a:yH}{rev:B0}(h:rev∈Gl a):jt a rev=true:=by
 unfold Gl at h;unfold jt
 cases h2:zA a.all rev with
 | none=>rw[Yn]at h2;exact absurd (UV.1 h) h2
 | some v=>rfl
def wc{a:yH}(ok:a.Ok){c:B0}{q:B0→Bool}:∀{l:List B0}{t:Rv},(∀x∈l,jt a x=true)→(t.1=s_∨jt a t.1=true)→((l.foldl (gN a c q) t).1=s_∨jt a (l.foldl (gN a c q) t).1=true)
 | [],t,_,h=>h
 | x::l,t,hl,h=>by
  rw[List.foldl_cons];refine wc ok (λy hy=>hl y (by simp[hy])) ?_;have hx:=hl x (by simp);have e:(qF a x).1=x:=(ok.name _ (Qk hx)).1;unfold gN;split
  ·split
   ·split
    ·exact .inr (by rw[e];exact hx)
    ·exact h
   ·exact h
  ·exact h
def LH{a:yH}(ok:a.Ok)(c:B0)(q:B0→Bool):(Tj a c q).1=s_∨jt a (Tj a c q).1=true:=
 wc ok (λ_ h=>wd h) (.inl rfl)
def BkI.size{k:Nat}{a:yH}(h:BkI k a){rev:B0}(hr:jt a rev=true):rev.size≤100:=(h.rev _ (Qk hr)).size
def rH{k:Nat}{a:yH}(ok:a.Ok)(h:BkI k a)(cfg:B0)(t:Tgt):(qr a cfg t).1.size≤100:=by
 have hs:s_.size≤100:=by decide
 unfold qr;split
 ·split
  ·exact hs
  ·rename_i h2;rcases LH ok cfg (xe a)with e | e
   ·exact absurd e h2
   ·exact h.size e
 ·split
  ·rename_i h2;split
   ·exact h.size h2
   ·exact hs
  ·exact hs
structure ByI(k:Nat)(bk:yH)(m:List (B0×GY)):Prop where
 has:∀p∈bk.all,(zA m p.1).isSome=true
 xs:∀x∈m,x.2.xs.length≤k
 rng:∀x∈m,∀y∈x.2.xs,0≤y∧y≤100000000
 want:∀x∈m,(0≤x.2.want∧x.2.want≤10)∧(0≤x.2.left∧x.2.left≤1000)
def ByI.mono{k m:Nat}{bk:yH}{b:List (B0×GY)}(h:ByI k bk b)(hm:k≤m):ByI m bk b:=⟨h.has,λx hx=>by have:=h.xs x hx;omega,h.rng,h.want⟩
def ByI.book{k:Nat}{bk bk':yH}{b:List (B0×GY)}(h:ByI k bk b)(e:bk'.all=bk.all):ByI k bk' b:=⟨by rw[e];exact h.has,h.xs,h.rng,h.want⟩
def ByI.set{k:Nat}{bk:yH}{b:List (B0×GY)}(h:ByI k bk b){rev:B0}{x:GY}(h1:x.xs.length≤k)(h2:∀y∈x.xs,0≤y∧y≤100000000)(h3:(0≤x.want∧x.want≤10)∧(0≤x.left∧x.left≤1000)):ByI k bk (Zp b rev x):=
 ⟨λp hp=>uG _ _ _ _ (h.has p hp),λy hy=>by
  rcases yr hy with rfl | hy
  ·exact h1
  ·exact h.xs y hy,λy hy=>by
  rcases yr hy with rfl | hy
  ·exact h2
  ·exact h.rng y hy,λy hy=>by
  rcases yr hy with rfl | hy
  ·exact h3
  ·exact h.want y hy⟩
def ByI.tick{k:Nat}{bk:yH}{G:Zq}(hb:∀rev,VC G rev≤100000000):∀{l:List B0}{b:List (B0×GY)},l.Nodup→(∀p∈bk.all,(zA b p.1).isSome=true)→(∀x∈b,x.1∈l→x.2.xs.length≤k)→(∀x∈b,x.2.xs.length≤k+1)→
  (∀x∈b,∀y∈x.2.xs,0≤y∧y≤100000000)→(∀x∈b,(0≤x.2.want∧x.2.want≤10)∧(0≤x.2.left∧x.2.left≤1000))→ByI (k+1) bk (l.foldl (Mx G) b)
 | [],b,_,h1,_,h2,h3,h4=>⟨h1,h2,h3,h4⟩
 | rev::l,b,nd,h1,ha,h2,h3,h4=>by
  rw[List.foldl_cons];rw[List.nodup_cons]at nd;unfold Mx;split
  ·rename_i x hx;have hm:=jB hx;have hxl:x.xs.length≤k:=ha _ hm (by simp);refine ByI.tick hb nd.2 (λp hp=>uG _ _ _ _ (h1 p hp)) (λy hy hl=>?_) (λy hy=>?_) (λy hy=>?_) λy hy=>?_
   ·rcases yr hy with rfl | hy
    ·exact absurd hl nd.1
    ·exact ha y hy (by simp[hl])
   ·rcases yr hy with rfl | hy
    ·simp;omega
    ·exact h2 y hy
   ·rcases yr hy with rfl | hy
    ·intro z hz;rcases List.mem_append.1 hz with hz | hz
     ·exact h3 _ hm z hz
     ·rw[List.mem_singleton]at hz;have:=hb rev;subst hz;split<;>omega
    ·exact h3 y hy
   ·rcases yr hy with rfl | hy
    ·have:=h4 _ hm;exact this
    ·exact h4 y hy
  ·exact ByI.tick hb nd.2 h1 (λy hy hl=>ha y hy (by simp[hl])) h2 h3 h4
def aM(all:uA)(rev:B0):(fK all rev).length≤all.length:=by
 unfold fK;rw[FW,List.length_map];exact List.length_filter_le ..
def Hy{k:Nat}{G:Zq}(ok:G.Ok)(hG:GtI k G)(hk:k≤10001)(rev:B0):0≤VC G rev∧VC G rev≤100000000:=by
 have h1:=JB ok rev;have h2:=aM G.all rev;have h3:=hG.all;have h4:=hG.room;unfold VC Ma;rw[List.length_map];omega
structure WyI(k:Nat)(a:Nd):Prop where
 fr:WBd a.fr
 to:WBd a.to
 ns:WBd a.ns
 zf:∀s∈a.fr,s.1.size≤100
 zt:∀s∈a.to,s.1.size≤100
 zn:∀s∈a.ns,s.1.size≤100
 zg:∀s∈a.ng,s.1.size≤100∧s.2.1.size≤100
 lf:a.fr.length≤6*k
 lt:a.to.length≤6
 ln:a.ns.length≤6*k
 lg:a.ng.length≤6
 since:0≤a.since∧a.since≤1048576
abbrev RoI(k:Nat)(m:VT):Prop:=∀n x,zA m n=some x→WyI k x
def WyI.mono{k m:Nat}{a:Nd}(h:WyI k a)(hm:k≤m):WyI m a:=⟨h.fr,h.to,h.ns,h.zf,h.zt,h.zn,h.zg,by have:=h.lf;omega,h.lt,by have:=h.ln;omega,h.lg,h.since⟩
def WyI.ok{k:Nat}{a:Nd}(h:WyI k a)(hk:k≤10000):a.Ok:=⟨h.fr,h.to,h.ns,by have:=h.lf;omega,by have:=h.lt;omega,by have:=h.ln;omega,by have:=h.lg;omega⟩
def LD{α:Type}[Inhabited α][DecidableEq α]{zs:List α}{x:α}(h:x∈Lib.compact zs):x∈zs:=by
 unfold Lib.compact Lib.compactUpTo at h;obtain⟨i,hi,rfl⟩:=List.mem_map.1 h;have hi:=(List.mem_filter.1 hi).1;rw[List.mem_range]at hi;simp[hi]
def BZ{l:List B0}{x:B0}(h:x∈Nm l):x∈l:=by
 unfold Nm at h;obtain⟨y,hy,rfl⟩:=List.mem_map.1 h;obtain⟨z,hz,rfl⟩:=List.mem_map.1 (LD hy);exact hz
def az{fr to:List Shr}{x:B0}(h:x∈vE fr to):(∃s∈fr,s.1=x)∨∃s∈to,s.1=x:=by
 have h:=UV.1 (BZ h);rcases List.mem_append.1 h with h | h
 ·exact .inl (List.mem_map.1 h)
 ·exact .inr (List.mem_map.1 h)
def aA(fr to:List Shr):(vE fr to).length≤fr.length+to.length:=by
 have:=Nl (yR (fr.map (·.1)++to.map (·.1)));rw[jk,List.length_append,List.length_map,List.length_map]at this;exact this
def z0K{fr to:List Shr}{gone whole:Int}(h0:0<gone)(h1:gone<whole)(n:B0):wOf fr n+XN fr to gone whole n≤max (wOf fr n) (wOf to n):=by
 unfold XN;split
 ·rename_i hc;have:(wOf to n-wOf fr n)*gone/whole≤wOf to n-wOf fr n:=Int.ediv_le_of_le_mul (by omega) (Int.mul_le_mul_of_nonneg_left (by omega) (by omega));omega
 ·omega
def Np{fr to:List Shr}{gone whole:Int}(hf:WBd fr)(ht:WBd to)(h0:0<gone)(h1:gone<whole):∀{l:List B0}{st:Int×List Shr},(∀x∈l,x.size≤100)→0≤st.1→WBd st.2→(∀s∈st.2,s.1.size≤100)→
  WBd (l.foldl (Yp fr to gone whole) st).2∧(∀s∈(l.foldl (Yp fr to gone whole) st).2,s.1.size≤100)∧(l.foldl (Yp fr to gone whole) st).2.length≤st.2.length+l.length
 | [],st,_,_,h3,h4=>⟨h3,h4,Nat.le_refl _⟩
 | n::l,st,hl,h2,h3,h4=>by
  rw[List.foldl_cons];have a:=KZ (r:=n) hf;have b:=KZ (r:=n) ht;have c:=Cq hf ht h0 h1 n;have d:=z0K (fr:=fr) (to:=to) h0 h1 n;have key:0≤(Yp fr to gone whole st n).1∧WBd (Yp fr to gone whole st n).2∧(∀s∈(Yp fr to gone whole st n).2,s.1.size≤100)∧(Yp fr to gone whole st n).2.length≤st.2.length+1:=by
   have hv:∀m:Int,wOf fr n+m≤1000→WBd (if 0<wOf fr n+m then st.2++[(n,wOf fr n+m,())]else st.2)∧(∀s∈(if 0<wOf fr n+m then st.2++[(n,wOf fr n+m,())]else st.2),s.1.size≤100)∧(if 0<wOf fr n+m then st.2++[(n,wOf fr n+m,())]else st.2).length≤st.2.length+1:=by
    intro m hm;split
    ·rename_i hp;refine⟨λs hs=>?_,λs hs=>?_,by simp⟩
     ·rcases List.mem_append.1 hs with hs | hs
      ·exact h3 s hs
      ·rw[List.mem_singleton]at hs;subst hs;exact⟨by show(0:Int)≤wOf fr n+m;omega,hm⟩
     ·rcases List.mem_append.1 hs with hs | hs
      ·exact h4 s hs
      ·rw[List.mem_singleton]at hs;subst hs;exact hl n (by simp)
    ·exact⟨h3,h4,Nat.le_succ _⟩
   unfold Yp;dsimp only;by_cases hd:0<wOf fr n-wOf to n
   ·simp only[if_pos hd];refine⟨by split<;>omega,hv _ (by split<;>omega)⟩
   ·simp only[if_neg hd];exact⟨h2,hv _ (by omega)⟩
  obtain⟨k1,k2,k3,k4⟩:=key;obtain⟨r1,r2,r3⟩:=Np hf ht h0 h1 (l:=l) (λx hx=>hl x (by simp[hx])) k1 k2 k3;exact⟨r1,r2,by rw[List.length_cons];omega⟩
def WM{fr to:List Shr}{gone whole:Int}(hf:WBd fr)(ht:WBd to)(h0:0<gone)(h1:gone<whole):∀l:List B0,0≤(l.map (XN fr to gone whole)).sum
 | []=>Int.le_refl 0
 | n::l=>by
  have:=WM hf ht h0 h1 l;have:=(Cq hf ht h0 h1 n).1;rw[List.map_cons,List.sum_cons];omega
def Nk{fr to:List Shr}(hf:WBd fr)(ht:WBd to)(zf:∀s∈fr,s.1.size≤100)(zt:∀s∈to,s.1.size≤100)(gone whole:Int) :
  WBd (QH fr to gone whole)∧(∀s∈QH fr to gone whole,s.1.size≤100)∧(QH fr to gone whole).length≤fr.length+to.length:=by
 unfold QH;split
 ·exact⟨ht,zt,by omega⟩
 ·split
  ·exact⟨hf,zf,by omega⟩
  ·rename_i h1 h2;have:=Np (gone:=gone) (whole:=whole) hf ht (by omega) (by omega) (l:=vE fr to) (st:=(((vE fr to).map (XN fr to gone whole)).sum,[])) (λx hx=>by
    rcases az hx with ⟨s,hs,rfl⟩ | ⟨s,hs,rfl⟩
    ·exact zf s hs
    ·exact zt s hs) (WM hf ht (by omega) (by omega) _) (by intro s hs;cases hs) (by intro s hs;cases hs)
   have hn:=aA fr to;refine⟨this.1,this.2.1,?_⟩;have h3:=this.2.2;simp only[List.length_nil,Nat.zero_add]at h3;exact Nat.le_trans h3 hn
structure HG(t:vC):Prop where
 w:WBd t.sh
 zs:∀s∈t.sh,s.1.size≤100
 zg:∀s∈t.tg,s.1.size≤100∧s.2.1.size≤100
 ls:t.sh.length≤6
 lg:t.tg.length≤6
def Nf{k:Nat}{m:VT}(h:RoI k m)(n:B0){t:vC}(ht:HG t){now:Int}(hn:0≤now∧now≤1048576)(whole:Int)(hk:1≤k) :
  WBd (xu m n t now whole).fr∧WBd (xu m n t now whole).to∧(∀s∈(xu m n t now whole).fr,s.1.size≤100)∧(∀s∈(xu m n t now whole).to,s.1.size≤100)∧(xu m n t now whole).fr.length≤6*k∧(xu m n t now whole).to.length≤6∧0≤(xu m n t now whole).since∧(xu m n t now whole).since≤1048576:=by
 unfold xu;have:=ht.ls;split
 ·rename_i a ha;have w:=h n a ha;split
  ·exact⟨w.fr,w.to,w.zf,w.zt,w.lf,w.lt,w.since.1,w.since.2⟩
  ·exact⟨w.ns,ht.w,w.zn,ht.zs,w.ln,ht.ls,hn.1,hn.2⟩
 ·exact⟨ht.w,ht.w,ht.zs,ht.zs,by dsimp only;omega,ht.ls,hn.1,hn.2⟩
def Rc{k:Nat}{m:VT}(h:RoI k m)(n:B0){t:vC}(ht:HG t){now:Int}(hn:0≤now∧now≤1048576)(whole:Int)(hk:1≤k):RoI (k+1) (di m n t now whole):=by
 intro n' x hx;unfold di at hx;rw[XL]at hx;split at hx
 ·obtain⟨a1,a2,a3,a4,a5,a6,a7,a8⟩:=Nf h n ht hn whole hk;have s:=Nk a1 a2 a3 a4 (now-(xu m n t now whole).since) whole
  cases hx
  exact⟨a1,a2,s.1,a3,a4,s.2.1,ht.zg,by dsimp only;omega,a6,by have:=s.2.2;dsimp only[Ge];omega,ht.lg,a7,a8⟩
 ·exact(h n' x hx).mono (Nat.le_succ k)
def ay{k:Nat}{m:VT}(h:RoI k m)(n:B0){t:vC}(ht:HG t){now:Int}(hn:0≤now∧now≤1048576)(whole:Int)(hk:1≤k):WBd (Ge m n t now whole).sh∧(∀s∈(Ge m n t now whole).sh,s.1.size≤100)∧(Ge m n t now whole).sh.length≤6*k+6:=by
 obtain⟨a1,a2,a3,a4,a5,a6,-,-⟩:=Nf h n ht hn whole hk;have s:=Nk a1 a2 a3 a4 (now-(xu m n t now whole).since) whole;exact⟨s.1,s.2.1,by have:=s.2.2;dsimp only[Ge];omega⟩
def RoI.del{k:Nat}{m:VT}(h:RoI k m)(nd:(m.map (·.1)).Nodup)(n:B0):RoI k (UF m n):=by
 intro n' x hx;rw[FS n n' nd]at hx;split at hx
 ·cases hx
 ·exact h n' x hx
structure RgI(j:Nat)(ws:MSI)(ts:MSS):Prop where
 lw:ws.length≤j
 lt:ts.length≤j
 zw:∀x∈ws,x.1.size≤100∧0≤x.2∧x.2≤100*j
 zt:∀x∈ts,x.1.size≤100∧x.2.size≤100
def Nq{k:Nat}{a:yH}(ok:a.Ok)(h:BkI k a)(cfg:B0):∀{l:List Tgt}{j:Nat}{ws:MSI}{ts:MSS},(∀t∈l,(0≤pct t∧pct t≤100)∧t.2.1.size≤100)→RgI j ws ts→RgI (j+l.length) (vO a cfg l ws ts).2.1 (vO a cfg l ws ts).2.2
 | [],_,_,_,_,h=>h
 | t::l,j,ws,ts,hl,hr=>by
  rw[dk];have ht:=hl t (by simp);have hz:=rH ok h cfg t;have e:j+(t::l).length=(j+1)+l.length:=by rw[List.length_cons];omega
  split
  ·rw[e];refine Nq ok h cfg (λx hx=>hl x (by simp[hx])) ⟨?_,?_,λx hx=>?_,λx hx=>?_⟩
   ·have:=JA ws (qr a cfg t).1 ((zA ws (qr a cfg t).1).getD 0+pct t);have:=hr.lw;omega
   ·have:=hr.lt;split
    ·omega
    ·have:=JA ts t.2.1 (qr a cfg t).1;omega
   ·rcases yr hx with rfl | hx
    ·refine⟨hz,?_⟩;dsimp only
     cases hg:zA ws (qr a cfg t).1 with
     | none=>simp only[Option.getD_none];omega
     | some v=>have:=(hr.zw _ (jB hg)).2;simp only[Option.getD_some];dsimp only at this;omega
    ·have:=hr.zw x hx;exact⟨this.1,this.2.1,by omega⟩
   ·split at hx
    ·exact hr.zt x hx
    ·rcases yr hx with rfl | hx
     ·exact⟨ht.2,hz⟩
     ·exact hr.zt x hx
  ·exact⟨by have:=hr.lw;dsimp only;omega,by have:=hr.lt;dsimp only;omega,λx hx=>by have:=hr.zw x hx;exact⟨this.1,this.2.1,by rw[e];omega⟩,hr.zt⟩
def lJ{m:List (B0×Int)}{s:Shr}(h:s∈Vk m):(s.1,@id Int s.2.1)∈m:=by
 unfold Vk at h;obtain⟨x,hx,rfl⟩:=List.mem_map.1 h;have hx:=UV.1 hx
 cases hg:zA m x with
 | none=>exact absurd hx (Yn.1 hg)
 | some v=>exact jB hg
def sT{m:List (B0×B0)}{s:Tgo}(h:s∈kd m):(s.1,s.2.1)∈m:=by
 unfold kd at h;obtain⟨x,hx,rfl⟩:=List.mem_map.1 h;have hx:=UV.1 hx
 cases hg:zA m x with
 | none=>exact absurd hx (Yn.1 hg)
 | some v=>exact jB hg
def cg{k:Nat}{a:yH}(ok:a.Ok)(h:BkI k a){r:ARt}(hl:r.ts.length≤6)(ht:∀t∈r.ts,(0≤pct t∧pct t≤100)∧t.2.1.size≤100):HG (resolve a r).1:=by
 have hg:=Nq ok h r.cfg (l:=r.ts) (j:=0) (ws:=[]) (ts:=[]) ht ⟨Nat.le_refl _,Nat.le_refl _,by simp,by simp⟩;unfold resolve;split
 ·refine⟨λs hs=>?_,λs hs=>?_,λs hs=>?_,?_,?_⟩
  ·have:=(hg.zw _ (lJ (List.mem_filter.1 hs).1)).2;dsimp only at this;exact⟨this.1,by omega⟩
  ·exact(hg.zw _ (lJ (List.mem_filter.1 hs).1)).1
  ·exact hg.zt _ (sT hs)
  ·have h1:=List.length_filter_le dm (Vk (vO a r.cfg r.ts [] []).2.1);have h2:(Vk (vO a r.cfg r.ts [] []).2.1).length=(vO a r.cfg r.ts [] []).2.1.length:=by unfold Vk;rw[List.length_map,jk,List.length_map]
   have:=hg.lw;dsimp only;omega
  ·have h2:(kd (vO a r.cfg r.ts [] []).2.2).length=(vO a r.cfg r.ts [] []).2.2.length:=by unfold kd;rw[List.length_map,jk,List.length_map]
   have:=hg.lt;dsimp only;omega
 ·exact⟨(by intro s hs;cases hs),(by intro s hs;cases hs),(by intro s hs;cases hs),Nat.zero_le _,Nat.zero_le _⟩
def Nj{a:ARt}(h:Gb a=0):(ZZ a.name.data.toList 16=true∧ZZ a.cfg.data.toList 16=true)∧(0≤a.roll∧a.roll≤60)∧a.ts.length≤6∧∀t∈a.ts,(0≤pct t∧pct t≤100)∧t.2.1.size≤100:=by
 have hl:=tJ h;unfold Gb at h;split at h
 ·rename_i h1;split at h
  ·rename_i h2;split at h
   ·rename_i h3;refine⟨h1,h2,hl,λt ht=>?_⟩;have h4:tgE t=0:=by
     split at h
     ·rename_i x hx;have:=List.find?_some hx;simp only[decide_eq_true_eq]at this;exact absurd h this
     ·rename_i hx;have:=List.find?_eq_none.1 hx t ht;simpa using this
    refine⟨AB h4,?_⟩;unfold tgE at h4;split at h4
    ·cases h4
    ·rename_i h5;have h5:¬fc t.2.1=true:=λhh=>h5 (by rw[hh,Bool.or_true]);unfold fc at h5;by_cases e:t.2.1=s_
     ·rw[e];decide
     ·have h6:ZZ t.2.1.data.toList 8=true:=by simpa [e]using h5
      unfold ZZ at h6;simp only[Bool.and_eq_true,decide_eq_true_eq]at h6;have h7:(t.2.1.data.toList.length:Int)≤8:=h6.2;have h8:t.2.1.data.toList.length=t.2.1.size:=by rw[Array.length_toList];rfl
      omega
   ·cases h
  ·cases h
 ·cases h
def rK{t:vC}{m:Nat}(hw:WBd t.sh)(zs:∀s∈t.sh,s.1.size≤100)(zg:∀s∈t.tg,s.1.size≤100∧s.2.1.size≤100)(hl:t.sh.length+t.tg.length≤m)(hm:m≤80000):z0b t:=by
 refine⟨λs hs=>⟨hw s hs,by have:=zs s hs;omega⟩,λs hs=>by have:=zg s hs;omega,?_⟩;have h:=Pz 1200 (Ub t) (λx hx=>by
  unfold Ub at hx;rcases List.mem_append.1 hx with hx | hx
  ·obtain⟨s,hs,rfl⟩:=List.mem_map.1 hx;have h1:=zs s hs;have h2:=Wa (@id Int s.2.1).toNat;have h3:=hw s hs;have h4:Oi.size=1:=rfl;unfold shT;rw[ByteArray.size_append,ByteArray.size_append];omega
  ·obtain⟨s,hs,rfl⟩:=List.mem_map.1 hx;have h1:=zg s hs;have h4:Oh.size=1:=rfl;unfold toT;rw[ByteArray.size_append,ByteArray.size_append];omega)
 unfold Cx;have h2:(Ub t).length=t.sh.length+t.tg.length:=by unfold Ub;simp
 rw[h2]at h;have:(t.sh.length+t.tg.length)*(1200+1)≤80000*1201:=Nat.mul_le_mul (by omega) (by omega);omega
end Go.Proofs.YtimahgbgejngiaaGreatDoor
namespace Go.Proofs.YtimahgbgejngiaaGreatDoor
open Go.Dm
attribute [local irreducible] L.load L.store L.chk L.new L.nonnil L.guard L.ite L.draw L.idx L.sem L.semR L.semU L.chkSem L.next L.call L.callV L.join L.alts L.loop L.begin L.endRound L.range
variable {w0 w:World}{E:List Seg}
def ob(a:Zd)(e:AEv):Zd×List B0:=
 if(Uf a.sh e.n e.name e.draw).2≠0 then({ a with sh:=(Uf a.sh e.n e.name e.draw).1 },JU (Uf a.sh e.n e.name e.draw).2)
 else({ a with sh:=(Uf a.sh e.n e.name e.draw).1,ro:=if e.n=2 then UF a.ro e.name else a.ro },[ZK tL [e.name]])
def Ae(h:St w0 E w)(i:Nat){b:Nat}{a:Zd}{s:Seg}(hi:nth E i=some s)(hs:Jq b a s){e:AEv}(hn:a.sh.n<900000000)(hsz:e.name.size≤1000000){k:Sl→PT}(hk:Hk w0 E i b (ob a e) k) :
  qJ (some ⟨b,0,none⟩) e.t (slK k) w:=by
 obtain⟨p,sg,sf,ss,sk,sr,sm,Q,R,rfl⟩:=hs;unfold qJ;unfold ob at hk;have h:=(h.front i hi).split8;refine nw h ?_;clear h;intro b1 w h
 (dsimp only[zd,List.cons_append,List.nil_append]at h;refine dr h ?_;clear h;intro w h;refine nn ?_;refine ldC h ?_;refine ldC h ?_;refine ldC h ?_;refine ldC h ?_)
 refine eR h 4 rfl R.sh hn λss' w hS h=>?_;dsimp only[zd]at h;refine it (λhc=>?_) (λhc=>?_)
 ·rw[if_pos (by simpa using hc)]at hk;refine JT h λv s w r h=>?_;exact⟨v,rfl,hk v s _ w r ⟨p,sg,sf,ss',sk,sr,sm,Q,⟨R.gt,R.fl,hS,R.bk,R.ro,R.mp,R.ea,R.ab⟩,rfl⟩ (YJ i hi (yw h))⟩
 rw[if_neg (by simpa using hc)]at hk
 have fin:∀{sr':Seg}{ro':VT}{w:World},LW p.r ro' sr'→ro'=(if e.n=2 then UF a.ro e.name else a.ro)→
   St w0 ([Cl b1 zP (eEw e)]::UT b p a.now::sg::sf::ss'::sk::sr'::sm::(Q.map BsE.sg).flatten::Zi E i) w→
   (L.load (.one (.str)) ((⟨b1,0,none⟩:Addr).add 1) λ(x16:B0)=>
    L.new [.string x16] zc λb17=>
    L.call Pr zD [.string tL,.slice (some ⟨b17,0,none⟩) 1 1] (.one (.one (.str))) λ(x18:B0)=>
    L.new [.string x18] zc λb19=>λw'=>∃x,Value.slice (some ⟨b19,0,none⟩) 1 1=RT.val (.one (.one .slice)) x∧k x w') w:=by
  intro sr' ro' w hR e2 h
  (refine ldC h ?_)
  refine nw h ?_;clear h;intro b17 w h;refine ut h (by decide) (by omega) λw h=>?_;refine nw h ?_;clear h;intro b19 w h;refine⟨⟨some ⟨b19,0,none⟩,1,1⟩,rfl,hk _ _ _ w (Rw.lit b19 [_] yu rfl rfl (by simp[maxLen])) ⟨p,sg,sf,ss',sk,sr',sm,Q,⟨R.gt,R.fl,hS,R.bk,?_,R.mp,R.ea,R.ab⟩,rfl⟩ (YJ i hi (yw h))⟩;rw[←e2];exact hR
 refine jd ?_
 (refine ldC h ?_)
 refine it (λh2=>?_) (λh2=>?_)
 ·(refine dr h ?_;clear h;intro w h;refine nn ?_;refine ldC h ?_;refine ldC h ?_)
  refine Ea h 6 rfl R.ro λsr' w hR h=>?_;dsimp only[zd]at h;exact fin hR (by rw[if_pos (by simpa using h2)]) h
 ·exact fin R.ro (by rw[if_neg (by simpa using h2)]) h
def vD(a:Zd)(e:AEv):Zd×List B0:=
 if(Xd a.fl e.n).2.2≠0 then({ a with fl:=(Xd a.fl e.n).1 },JU (Xd a.fl e.n).2.2)
 else({ a with fl:=(Xd a.fl e.n).1,gt:=(Oo a.gt (Xd a.fl e.n).2.1).1 },ZK tM [jw e.n.toNat]::(Oo a.gt (Xd a.fl e.n).2.1).2.map Qt)
def wg [YB w0](h:St w0 E w)(i:Nat){b:Nat}{a:Zd}{s:Seg}(hi:nth E i=some s)(hs:Jq b a s){e:AEv}(he:0≤e.n∧e.n≤9000000000000000000)(hn:(Xd a.fl e.n).2.1.length<1000000)(hf:∀f∈(Oo a.gt (Xd a.fl e.n).2.1).2,f.Ok)
  {k:Sl→PT} (hk:Hk w0 E i b (vD a e) k):qK (some ⟨b,0,none⟩) e.t (slK k) w:=by
 obtain⟨p,sg,sf,ss,sk,sr,sm,Q,R,rfl⟩:=hs;have hfl:(Oo a.gt (Xd a.fl e.n).2.1).2.length<100000000:=by
  have:=(kJ (l:=(Xd a.fl e.n).2.1) (all:=a.gt.all) (out:=[])).1;unfold Oo;simp only[List.length_nil]at this;dsimp only;omega
 unfold qK;unfold vD at hk;have h:=(h.front i hi).split8;refine nw h ?_;clear h;intro b1 w h
 (dsimp only[zd,List.cons_append,List.nil_append]at h;refine dr h ?_;clear h;intro w h;refine nn ?_;refine ldC h ?_;refine ldC h ?_)
 refine iw h 3 rfl R.fl λv1 sf' s2 w hF r1 h=>?_;dsimp only[zd]at h;generalize Xd a.fl e.n=g at *
 obtain⟨F,ids,no⟩:=g;dsimp only at *
 refine it (λhc=>?_) (λhc=>?_)
 ·rw[if_pos (by simpa using hc)]at hk;refine JT h λv s w r h=>?_;exact⟨v,rfl,hk v s _ w r ⟨p,sg,sf',ss,sk,sr,sm,Q,⟨R.gt,hF,R.sh,R.bk,R.ro,R.mp,R.ea,R.ab⟩,rfl⟩ (YJ i hi (yw (yw h)))⟩
 rw[if_neg (by simpa using hc)]at hk
 refine ZC (λ(z:Sl×Unit) w=>∃sv sg',GtS p.g p.f (Oo a.gt ids).1 sg'∧Rw eS zc 1 z.1 (ZK tM [jw e.n.toNat]::(Oo a.gt ids).2.map Qt) sv∧
  St w0 (sv::UT b p a.now::sg'::sf'::ss::sk::sr::sm::(Q.map BsE.sg).flatten::Zi E i) w) (λk7 hk7=>?_) ?_
 ·(refine dr h ?_;clear h;intro w h;refine nn ?_;refine ldC h ?_;refine ldC h ?_)
  refine VD ?_ ?_
  ·have h:=Ys h;refine BI h R.gt r1 hn λv sv sg' w hr hG h=>?_
   (refine ckC h ?_)
   refine nw h ?_;clear h;intro b13 w h
   (refine ckC h ?_)
   refine qA h (by decide) he.1 (by omega) λw h=>?_;refine nw h ?_;clear h;intro b15 w h;refine Tl h (l:=[ZK tM [jw e.n.toNat]]) hr hf hfl (by simp) (Rw.lit b15 [_] yu rfl rfl (by simp[maxLen])) λv s w r h=>?_;refine hk7 _ w ⟨s,sg',hG,r,?_⟩;have h:=yw (Qj (uU h));have h:=Zm (Zm (yL h));exact h
  ·refine nw h ?_;clear h;intro b17 w h
   (refine ckC h ?_)
   have h:=yM (yL h);refine BI h R.gt r1 hn λv sv sg' w hr hG h=>?_
   (refine ckC h ?_)
   have h:=Ys h;refine qA h (by decide) he.1 (by omega) λw h=>?_;refine nw h ?_;clear h;intro b20 w h;refine Tl h (l:=[ZK tM [jw e.n.toNat]]) hr hf hfl (by simp) (Rw.lit b20 [_] yu rfl rfl (by simp[maxLen])) λv s w r h=>?_;refine hk7 _ w ⟨s,sg',hG,r,?_⟩;have h:=yw (Qj (uU h));have h:=Zm (Zm (yL h));exact h
 clear h;rintro⟨z,⟨⟩⟩ w ⟨sv,sg',hG,r,h⟩;dsimp only at r ⊢;exact⟨z,rfl,hk z sv _ w r ⟨p,sg',sf',ss,sk,sr,sm,Q,⟨hG,hF,R.sh,R.bk,R.ro,R.mp,R.ea,R.ab⟩,rfl⟩ (YJ i hi h)⟩
def mn2(a b:Int):Int:=if b<a then b else a
def mx2(a b:Int):Int:=if b>a then b else a
def xi(s n c:Int):Int:=if n≤0 then 0 else if c≤0 then 0 else(s+n*c-1)/(n*c)
def de{s n c:Int}(hs:0≤s∧s≤1000000000000)(hn:0≤n∧n≤100)(hc:0≤c∧c≤100):0≤xi s n c∧xi s n c≤1000000000000:=by
 unfold xi;split
 ·exact⟨by decide,by decide⟩
 ·split
  ·exact⟨by decide,by decide⟩
  ·have h1:1≤n*c:=by have:=Int.mul_le_mul (show(1:Int)≤n by omega) (show(1:Int)≤c by omega) (by omega) (by omega);omega
   have h2:n*c≤100*100:=Int.mul_le_mul hn.2 hc.2 (by omega) (by omega);generalize n*c=m at *
   refine⟨Int.ediv_nonneg (by omega) (by omega),Int.ediv_le_of_le_mul (by omega) ?_⟩;have:=Int.mul_le_mul_of_nonneg_left h1 (show(0:Int)≤1000000000000 by decide);omega
def fX{s n c:Int}(hs:0≤s∧s≤1000000000000)(hn:0≤n∧n≤100)(hc:0≤c∧c≤100){k:Int→PT}(hk:k (xi s n c) w):L.call Pr Xi [I s,I n,I c] (.one (.one (.int .i64))) k w:=by
 refine za (WC s n c) ?_;unfold ta;unfold xi at hk;refine it (λh1=>?_) (λh1=>?_)<;>(try simp only[zB]at h1)
 ·rw[if_pos h1]at hk;exact⟨_,rfl,hk⟩
 ·rw[if_neg h1]at hk;refine it (λh2=>?_) (λh2=>?_)<;>(try simp only[zB]at h2)
  ·rw[if_pos h2]at hk;exact⟨_,rfl,hk⟩
  ·rw[if_neg h2]at hk;have h3:1≤n*c:=by have:=Int.mul_le_mul (show(1:Int)≤n by omega) (show(1:Int)≤c by omega) (by omega) (by omega);omega
   have h4:n*c≤100*100:=Int.mul_le_mul hn.2 hc.2 (by omega) (by omega);have e1:Wi (n*c)=n*c:=wr (by omega) (by omega);rw[e1];generalize n*c=m at *
   have e2:Wi (s+m)=s+m:=wr (by omega) (by omega);have e3:Wi (s+m-1)=s+m-1:=wr (by omega) (by omega);rw[e2,e3];refine gd (by omega) ⟨_,rfl,?_⟩;have e4:Int.tdiv (s+m-1) m=(s+m-1)/m:=Int.tdiv_eq_ediv_of_nonneg (by omega);have e5:(s+m-1)/m≤2000000000000:=Int.ediv_le_of_le_mul (by omega) (by
    have:=Int.mul_le_mul_of_nonneg_left h3 (show(0:Int)≤2000000000000 by decide);omega)
   have e6:0≤(s+m-1)/m:=Int.ediv_nonneg (by omega) (by omega);rw[e4,wr (by omega) (by omega)];exact hk
abbrev scM(ready:Int):Int:=if ready>1 then ready else 1
def kP(left b m:Int):Int:=if b≥2*m then 6 else if 0>left-1 then 0 else left-1
def AP(want left' a b:Int):Int:=if left'>0 then mx2 (mx2 want a) b else a
def AO(w1 want busy idle grace:Int):Int:=if w1=0∧(busy>0∨(want>0∧idle<grace))then 1 else w1
def Nn(w2 ready mi ma:Int):Int:=mn2 (mx2 (mx2 (mn2 w2 (4*scM ready)) (ready/2)) mi) ma
def No(want left:Int)(c:Cfg)(ready busy st sts sh shs idle:Int):Int×Int:=
 (Nn (AO (AP want (kP left (xi sh shs c.2.2.1) (scM ready)) (xi st sts c.2.2.1) (xi sh shs c.2.2.1)) want busy idle c.2.2.2.2.2.1) ready c.2.2.2.1 c.2.2.2.2.1,kP left (xi sh shs c.2.2.1) (scM ready))
def wi(h:St w0 E w){want left b m:Int}(hl:0≤left∧left≤1000)(hm:0≤m∧m≤1000000){k:Int→PT}(hk:∀w',St w0 E w'→k (kP left b m) w'):L.call Pr JO [.agg #[I want,I left],I b,I m] (.one (.one (.int .i64))) k w:=by
 refine za (GN (want,left,()) b m) ?_;unfold UN;unfold kP at hk;have e1:Wi (2*m)=2*m:=wr (by omega) (by omega);have e2:Wi (left-1)=left-1:=wr (by omega) (by omega);dsimp only;rw[e1];refine nw h ?_;clear h;intro b1 w h;refine it (λh1=>?_) (λh1=>?_)<;>(try simp only[zB]at h1)
 ·rw[if_pos h1]at hk;exact⟨_,rfl,hk w (zj h)⟩
 ·rw[if_neg h1]at hk
  (refine ldC h ?_)
  rw[e2];exact⟨_,rfl,hk w (zj h)⟩
def eW(h:St w0 E w){want left a b:Int}{k:Int→PT}(hk:∀w',St w0 E w'→k (mx2 (mx2 want a) b) w'):L.call Pr uf [.agg #[I want,I left],.agg #[I a,I b]] (.one (.one (.int .i64))) k w:=by
 refine za (pp (want,left,()) (a,b,())) ?_;unfold Kv;refine nw h ?_;clear h;intro b1 w h;refine nw h ?_;clear h;intro b2 w h
 (dsimp only[zd,List.cons_append,List.nil_append]at h;refine ldC h ?_)
 refine ix (by decide) (by decide) ?_
 (refine ldC h ?_)
 refine ix (by decide) (by decide) ?_
 (refine ldC h ?_)
 exact⟨_,rfl,hk w (zj (zj h))⟩
def bb(h:St w0 E w){c:Cfg}{ready m:Int}(hr:0≤ready∧ready≤1000000)(hm:0≤m∧m≤1000000){k:HT [.int .i64,.int .i64,.int .i64,.int .i64]→PT}(hk:∀w',St w0 E w'→k (4*m,ready/2,c.2.2.2.1,c.2.2.2.2.1,()) w') :
  L.call Pr kV [.agg (Cfg.cells c).toArray,I ready,I m] (.one (.agg [.int .i64,.int .i64,.int .i64,.int .i64])) k w:=by
 refine za (DL c ready m) ?_;unfold fZ;have e1:Wi (4*m)=4*m:=wr (by omega) (by omega);have e2:Int.tdiv ready 2=ready/2:=Int.tdiv_eq_ediv_of_nonneg hr.1;have e3:Wi (ready/2)=ready/2:=wr (by omega) (by omega);rw[e1,e2,e3];refine nw h ?_;clear h;intro b1 w h;refine nw h ?_;clear h;intro b2 w h;refine gd (by decide) ?_
 (refine ldC h ?_;refine ldC h ?_;refine stC h ?_;clear h;intro w h;dsimp only[zE,zd]at h;refine laC h ?_)
 exact⟨(4*m,ready/2,c.2.2.2.1,c.2.2.2.2.1,()),rfl,hk w (zj (zj h))⟩
abbrev Hx(b:Nat)(c:Cfg):Seg:=[Cl b zF (Cfg.cells c)]
def ba(h:St w0 E w){want left:Int}{c:Cfg}{ready busy st sts sh shs idle:Int}(hw:0≤want∧want≤1000)(hl:0≤left∧left≤1000)(hc:0≤@id Int c.2.2.1∧@id Int c.2.2.1≤100)(hr:0≤ready∧ready≤1000000)
  (h1:0≤st∧st≤1000000000000) (h2:0≤sts∧sts≤100) (h3:0≤sh∧sh≤1000000000000) (h4:0≤shs∧shs≤100) {k:HT [.int .i64,.int .i64]→PT} (hk:∀w',St w0 E w'→k ((No want left c ready busy st sts sh shs idle).1,(No want left c ready busy st sts sh shs idle).2,()) w') :
  L.call Pr kW [.agg #[I want,I left],.agg (Cfg.cells c).toArray,I ready,I busy,I st,I sts,I sh,I shs,I idle] (.one (.agg [.int .i64,.int .i64])) k w:=by
 refine za (DM (want,left,()) c ready busy st sts sh shs idle) ?_;unfold Fa;have hm:0≤scM ready∧scM ready≤1000000:=by unfold scM;split<;>omega
 obtain⟨c1,c2,c3,c4,c5,c6,⟨⟩⟩:=c;unfold No at hk;have ea:=de h1 h2 hc;have eb:=de h3 h4 hc;change 0≤xi st sts c3∧xi st sts c3≤1000000000000 at ea;change 0≤xi sh shs c3∧xi sh shs c3≤1000000000000 at eb;change 0≤c3∧c3≤100 at hc;dsimp only at hk ⊢;change ∀w',St w0 E w'→k (Nn (AO (AP want (kP left (xi sh shs c3) (scM ready)) (xi st sts c3) (xi sh shs c3)) want busy idle c6) ready c4 c5,kP left (xi sh shs c3) (scM ready),()) w' at hk;refine nw h ?_;clear h;intro b1 w h;refine nw h ?_;clear h;intro b2 w h;refine nw h ?_;clear h;intro b3 w h;refine ZC (λ(z:Addr×Unit) w=>∃b,z=(⟨b,0,none⟩,())∧St w0 ([Cl b oz [I (xi st sts c3),I (xi sh shs c3)]]::[Cl b3 ZQ [I 0,I 0]]::Hx b2 (c1,c2,c3,c4,c5,c6,())::[Cl b1 ZQ [I want,I left]]::E) w) (λk4 hk4=>?_) ?_
 ·(refine dr h ?_;clear h;intro w h;refine ldC h ?_;refine ldC h ?_)
  refine VD ?_ ?_
  ·refine fX h1 h2 hc ?_
   (refine ckC h ?_)
   refine VD ?_ ?_
   ·refine fX h3 h4 hc ?_;refine nw h ?_;clear h;intro b w h
    (refine ckC h ?_;refine ckC h ?_;refine stC h ?_;clear h;intro w h;dsimp only[zE,zd]at h)
    exact hk4 _ w ⟨b,rfl,h⟩
   ·refine nw h ?_;clear h;intro b w h
    (refine ckC h ?_;refine ckC h ?_)
    refine fX h3 h4 hc ?_
    (refine stC h ?_;clear h;intro w h;dsimp only[zE,zd]at h)
    exact hk4 _ w ⟨b,rfl,h⟩
  ·refine nw h ?_;clear h;intro b w h
   (refine ckC h ?_;refine ckC h ?_)
   refine fX h1 h2 hc ?_
   (refine ckC h ?_)
   refine fX h3 h4 hc ?_
   (refine stC h ?_;clear h;intro w h;dsimp only[zE,zd]at h)
   exact hk4 _ w ⟨b,rfl,h⟩
 generalize xi st sts c3=A at *
 generalize xi sh shs c3=B at *
 clear h;rintro z w ⟨b4,rfl,h⟩
 (try dsimp only)
 refine ZC (λ(z:Addr×Unit) w=>∃b,z=(⟨b,0,none⟩,())∧St w0 ([Cl b ZQ [I A,I (kP left B (scM ready))]]::[Cl b4 oz [I A,I B]]::[Cl b3 ZQ [I 0,I 0]]::Hx b2 (c1,c2,c3,c4,c5,c6,())::[Cl b1 ZQ [I want,I left]]::E) w) (λk4 hk4=>?_) ?_
 ·(refine dr h ?_;clear h;intro w h)
  refine ix (by decide) (by decide) ?_
  (refine ldC h ?_;refine laC h ?_)
  refine ix (by decide) (by decide) ?_
  (refine ldC h ?_)
  refine VD ?_ ?_
  ·refine wi h hl hm λw h=>?_
   (refine ckC h ?_)
   refine nw h ?_;clear h;intro b w h
   (refine ckC h ?_;refine ckC h ?_;refine ckC h ?_;refine stC h ?_;clear h;intro w h;dsimp only[zE,zd]at h)
   exact hk4 _ w ⟨b,rfl,h⟩
  ·refine nw h ?_;clear h;intro b w h
   (refine ckC h ?_;refine ckC h ?_;refine ckC h ?_)
   refine wi h hl hm λw h=>?_
   (refine ckC h ?_;refine stC h ?_;clear h;intro w h;dsimp only[zE,zd]at h)
   exact hk4 _ w ⟨b,rfl,h⟩
 generalize kP left B (scM ready)=L1 at *
 clear h;rintro z w ⟨b5,rfl,h⟩
 (try dsimp only)
 refine ZC (λ(_:Unit) w=>St w0 ([Cl b5 ZQ [I (AP want L1 A B),I L1]]::[Cl b4 oz [I A,I B]]::[Cl b3 ZQ [I 0,I 0]]::Hx b2 (c1,c2,c3,c4,c5,c6,())::[Cl b1 ZQ [I want,I left]]::E) w) (λk4 hk4=>?_) ?_
 ·(refine ldC h ?_)
  unfold AP at hk4;refine it (λhc1=>?_) (λhc1=>?_)<;>(try simp only[zB]at hc1)
  ·rw[if_pos hc1]at hk4
   (refine laC h ?_;refine laC h ?_)
   refine eW h λw h=>?_
   (refine stC h ?_;clear h;intro w h;dsimp only[zE,zd]at h)
   exact hk4 _ w h
  ·rw[if_neg hc1]at hk4;exact hk4 _ w h
 generalize AP want L1 A B=W1 at *
 clear h;rintro _ w h
 (try dsimp only)
 refine ZC (λ(_:Unit) w=>St w0 ([Cl b5 ZQ [I (AO W1 want busy idle c6),I L1]]::[Cl b4 oz [I A,I B]]::[Cl b3 ZQ [I 0,I 0]]::Hx b2 (c1,c2,c3,c4,c5,c6,())::[Cl b1 ZQ [I want,I left]]::E) w) (λk4 hk4=>?_) ?_
 ·(refine ldC h ?_)
  unfold AO at hk4;refine it (λd1=>?_) (λd1=>?_)<;>(try simp only[zB]at d1)
  ·subst d1;refine it (λd2=>?_) (λd2=>?_)<;>(try simp only[zB]at d2)
   ·rw[if_pos ⟨rfl,.inl d2⟩]at hk4
    (refine stC h ?_;clear h;intro w h;dsimp only[zE,zd]at h)
    exact hk4 _ w h
   ·(refine ldC h ?_)
    refine it (λd3=>?_) (λd3=>?_)<;>(try simp only[zB]at d3)
    ·(refine ldC h ?_)
     refine it (λd4=>?_) (λd4=>?_)<;>(try simp only[zB]at d4)
     ·rw[if_pos ⟨rfl,.inr ⟨d3,d4⟩⟩]at hk4
      (refine stC h ?_;clear h;intro w h;dsimp only[zE,zd]at h)
      exact hk4 _ w h
     ·rw[if_neg (by omega)]at hk4;exact hk4 _ w h
    ·rw[if_neg (by omega)]at hk4;exact hk4 _ w h
  ·rw[if_neg (λhh=>d1 hh.1)]at hk4;exact hk4 _ w h
 generalize AO W1 want busy idle c6=W2 at *
 clear h;rintro _ w h
 (try dsimp only)
 (refine laC h ?_)
 refine bb (c:=(c1,c2,c3,c4,c5,c6,())) h hr hm λw h=>?_;refine nw h ?_;clear h;intro b40 w h
 (refine stC h ?_;clear h;intro w h;dsimp only[zE,zd]at h;refine ldC h ?_)
 refine ix (by decide) (by decide) ?_
 (refine ldC h ?_)
 refine ix (by decide) (by decide) ?_
 (refine ldC h ?_)
 refine ix (by decide) (by decide) ?_
 (refine ldC h ?_)
 refine ix (by decide) (by decide) ?_
 (refine ldC h ?_;refine stC h ?_;clear h;intro w h;dsimp only[zE,zd]at h;refine laC h ?_;refine stC h ?_;clear h;intro w h;dsimp only[zE,zd]at h;refine laC h ?_)
 exact⟨(_,_,()),rfl,hk w (zj (zj (zj (zj (zj (zj h))))))⟩
def Lg{m:Int}:∀{l:List Int},(∀y∈l,0≤y∧y≤m)→0≤cY l∧cY l≤l.length*m
 | [],_=>⟨Int.le_refl 0,by simp[cY]⟩
 | x::l,h=>by
  have a:=Lg (l:=l) λy hy=>h y (by simp[hy]);have b:=h x (by simp);unfold cY;have e:((x::l).length:Int)*m=l.length*m+m:=by rw[List.length_cons,Int.natCast_add,Int.add_mul];simp
  rw[e];omega
def NE{xs:List Int}(h:∀y∈xs,0≤y∧y≤100000000){m:Nat}(hm:m≤60):0≤uJ xs m∧uJ xs m≤6000000000:=by
 have a:=Lg (m:=100000000) (l:=xs.reverse.take m) λy hy=>h y (by have:=List.mem_of_mem_take hy;simpa using this);have b:(xs.reverse.take m).length≤m:=by rw[List.length_take];omega
 unfold uJ;omega
def Px(xs:List Int)(p:Int):Ke xs p≤60:=by unfold Ke;omega
def cU(a:Zd)(x:GY)(rev:B0):Int×Int:=
 No x.want x.left (qF a.bk rev).2.2 (cnt (λs=>s == 2) (qc a.fl.l rev)) (VC a.gt rev) (uJ x.xs (Ke x.xs 6)) (Ke x.xs 6) (uJ x.xs (Ke x.xs 2)) (Ke x.xs 2) (tz x.xs)
def vM(a:Zd)(e:AEv):Zd×List B0:=
 if jt a.bk e.name=false then(a,JU 6)else match zA a.by' e.name with
 | none=>(a,[])
 | some x=>({ a with by':=Zp a.by' e.name ⟨x.xs,(cU a x e.name).1,(cU a x e.name).2⟩ },[ZK (ZK JL [e.name]) [jw (cU a x e.name).1.toNat]])
def RY [YB w0](h:St w0 E w)(i:Nat){b:Nat}{a:Zd}{s:Seg}(hi:nth E i=some s)(hs:Jq b a s){e:AEv}(hname:e.name.size≤100000)(hby:jt a.bk e.name=true→(zA a.by' e.name).isSome=true)
  (hx:∀x,zA a.by' e.name=some x→((0≤x.want∧x.want≤1000)∧(0≤x.left∧x.left≤1000)∧(∀y∈x.xs,0≤y∧y≤100000000)∧x.xs.length<1000000000)∧0≤(cU a x e.name).1∧(cU a x e.name).1≤1000)
  (hc:jt a.bk e.name=true→0≤@id Int (qF a.bk e.name).2.2.2.2.1∧@id Int (qF a.bk e.name).2.2.2.2.1≤100) (hpn:(qc a.fl.l e.name).length<1000000) {k:Sl→PT} (hk:Hk w0 E i b (vM a e) k) :
  XV (some ⟨b,0,none⟩) e.t (slK k) w:=by
 have hs0:=hs;obtain⟨p,sg,sf,ss,sk,sr,sm,Q,R,rfl⟩:=hs;unfold XV;unfold vM at hk;have h:=(h.front i hi).split8;refine nw h ?_;clear h;intro b1 w h
 refine ZC (λ(z:Addr×Bool×Unit) w=>∃b8:Nat,z=(⟨b8,0,none⟩,jt a.bk e.name,())∧
  St w0 ([Cl b8 zO (rvC (qF a.bk e.name))]::[Cl b1 zP (eEw e)]::UT b p a.now::sg::sf::ss::sk::sr::sm::(Q.map BsE.sg).flatten::Zi E i) w) (λk2 hk2=>?_) ?_
 ·(dsimp only[zd,List.cons_append,List.nil_append]at h;refine dr h ?_;clear h;intro w h;refine nn ?_;refine ldC h ?_;refine ldC h ?_)
  refine VD ?_ ?_
  ·refine gO h 5 rfl R.bk λw h=>?_;refine nw h ?_;clear h;intro b8 w h
   (refine ckC h ?_;refine ckC h ?_;refine stC h ?_;clear h;intro w h;dsimp only[zE,zd]at h)
   exact hk2 _ w ⟨b8,rfl,h⟩
  ·refine nw h ?_;clear h;intro b8 w h
   (refine ckC h ?_;refine ckC h ?_)
   refine gO h 6 rfl R.bk λw h=>?_
   (refine stC h ?_;clear h;intro w h;dsimp only[zE,zd]at h)
   exact hk2 _ w ⟨b8,rfl,h⟩
 clear h;rintro z w ⟨b8,rfl,h⟩
 (try dsimp only)
 refine it (λhc1=>?_) (λhc1=>?_)
 ·have hc1:jt a.bk e.name=false:=by simpa using hc1
  rw[if_pos hc1]at hk;refine JT h λv s w r h=>?_;exact⟨v,rfl,hk v s _ w r hs0 (YJ i hi (yw (yw h)))⟩
 have hc1:jt a.bk e.name=true:=by simpa using hc1
 rw[if_neg (by simp[hc1])]at hk;obtain⟨x,hgx⟩:=Option.isSome_iff_exists.1 (hby hc1);obtain⟨⟨hw,hl,hy,hln⟩,hd⟩:=hx x hgx;have hc:=hc hc1;rw[hgx]at hk;dsimp only at hk;clear hby hx;have hqx:∃q,uI BsE.k Q e.name=some q∧q.x=x:=by
  rw[R.ab,MV]at hgx
  cases hf:uI BsE.k Q e.name with
  | none=>rw[hf]at hgx;cases hgx
  | some q=>rw[hf]at hgx;exact⟨q,rfl,by simpa using hgx⟩
 obtain⟨q,hfx,rfl⟩:=hqx;have hmk:=R.mp.nd
 (refine dr h ?_;clear h;intro w h;refine nn ?_;refine ldC h ?_;refine ldC h ?_)
 have hlk:((zA (Q.map BsE.kp) e.name).map λx:Option Addr=>x).getD none=some ⟨q.b,0,none⟩:=by rw[MU,hfx];rfl
 refine MpS.get uH tE Av (λx:Option Addr=>x) (λ_=>rfl) h 8 rfl R.mp ?_;rw[hlk];have ea:=R.ea;have hab:=R.ab;have hmp:=R.mp;obtain⟨A,B,eQ,hxk⟩:=Kc hfx
 (refine ldC h ?_)
 refine Du h (i:=2) (j:=4) rfl rfl R.fl (fv:=⟨.func jL,#[],#[]⟩) (q:=λs=>s == 2) hpn (λ{E' w x k} h hk=>?_) λw h=>?_
 ·refine xd (fs:=#[]) (cs:=#[]) OO (OQ x) ?_;unfold uM;exact⟨_,rfl,hk w h⟩
 have hcn:0≤cnt (λs=>s == 2) (qc a.fl.l e.name)∧cnt (λs=>s == 2) (qc a.fl.l e.name)≤1000000:=by
  unfold cnt;have:=List.length_filter_le (λx:Int×Int×Int=>(λs=>s == 2) x.2.1) (qc a.fl.l e.name);refine⟨Int.natCast_nonneg _,?_⟩;have h2:((qc a.fl.l e.name).filter λx:Int×Int×Int=>(λs=>s == 2) x.2.1).length≤1000000:=by omega
  exact Int.ofNat_le.2 h2
 have hdd:(cU a q.x e.name)=No q.x.want q.x.left (qF a.bk e.name).2.2 (cnt (λs=>s == 2) (qc a.fl.l e.name)) (VC a.gt e.name) (uJ q.x.xs (Ke q.x.xs 6)) (Ke q.x.xs 6) (uJ q.x.xs (Ke q.x.xs 2)) (Ke q.x.xs 2) (tz q.x.xs):=rfl;subst eQ;have h:=oT h;have h:=h.pick.split;have hox:=ea q (by simp);have hr6:=NE hy (Px q.x.xs 6);have hr2:=NE hy (Px q.x.xs 2);have hn6:=Px q.x.xs 6;have hn2:=Px q.x.xs 2
 (refine nn ?_;refine ldC h ?_)
 refine LS h 1 rfl hox (by omega) λw h=>?_;rw[wr (by omega) (by omega)]
 (refine nn ?_;refine ldC h ?_)
 refine LS h 1 rfl hox (by omega) λw h=>?_;rw[wr (by omega) (by omega)]
 (refine dr h ?_;clear h;intro w h;refine nn ?_;refine laC h ?_;refine laC h ?_;refine nn ?_;refine ldC h ?_;refine ldC h ?_;refine nn ?_;refine ldC h ?_)
 have h:=jS h;refine BJ h R.gt λsg' w hG h=>?_
 (refine ckC h ?_;refine ckC h ?_;refine ckC h ?_)
 refine Ej h 2 rfl hox ?_
 (refine ckC h ?_;refine ckC h ?_)
 have hbu:((Ma a.gt e.name).length:Int)+(fK a.gt.all e.name).length=VC a.gt e.name:=rfl;rw[hbu];refine ba (c:=(qF a.bk e.name).2.2) h hw hl hc hcn (by dsimp only;omega) (by dsimp only;omega) (by dsimp only;omega) (by dsimp only;omega) λw h=>?_;rw[←hdd];clear hdd;generalize cU a q.x e.name=d at *
 obtain⟨d1,d2⟩:=d;dsimp only at hd hk ⊢
 (refine nn ?_;refine stC h ?_;clear h;intro w h;dsimp only[zE,zd]at h)
 refine ZC (λ(z:Sl×Unit) w=>∃sv,Rw eS zc 1 z.1 [ZK (ZK JL [e.name]) [jw d1.toNat]] sv∧
  St w0 (sv::[Cl q.b XE [.pointer (some ⟨q.g,0,none⟩),I d1,I d2]]::q.sgg::((A++B).map BsE.sg).flatten::UT b p a.now::sg'::sf::ss::sk::sr::sm::Zi E i) w) (λk7 hk7=>?_) ?_
 ·have fin:∀{w b2},St w0 ([Cl b2 zc [.string (ZK (ZK JL [e.name]) [jw d1.toNat])]]::sg'::[Cl q.b XE [.pointer (some ⟨q.g,0,none⟩),I d1,I d2]]::q.sgg::((A++B).map BsE.sg).flatten::[Cl b8 zO (rvC (qF a.bk e.name))]::[Cl b1 zP (eEw e)]::UT b p a.now::sf::ss::sk::sr::sm::Zi E i) w→k7 (⟨some ⟨b2,0,none⟩,1,1⟩,()) w:=by
   intro w b2 h;refine hk7 _ w ⟨_,Rw.lit b2 [_] yu rfl rfl (by simp[maxLen]),?_⟩;have h:=PL (nk h);have h:=JR (JR (JR (JR (JR (yL h)))));exact h
  have sz:(ZK JL [e.name]).size≤100000000:=by rw[vl];have:JL.size=5:=rfl;omega
  (refine dr h ?_;clear h;intro w h;refine ldC h ?_;refine nn ?_;refine ldC h ?_;rw[Je])
  refine VD ?_ ?_
  ·refine nw h ?_;clear h;intro b41 w h
   (refine ckC h ?_)
   refine VD ?_ ?_
   ·refine ut h (by decide) (by omega) λw h=>?_
    (refine ckC h ?_)
    refine nw h ?_;clear h;intro b43 w h
    (refine ckC h ?_)
    refine qA h sz hd.1 (by omega) λw h=>?_;refine nw h ?_;clear h;intro b45 w h;exact fin h
   ·refine nw h ?_;clear h;intro b46 w h
    (refine ckC h ?_)
    have h:=yL h;refine ut h (by decide) (by omega) λw h=>?_
    (refine ckC h ?_)
    refine qA h sz hd.1 (by omega) λw h=>?_;refine nw h ?_;clear h;intro b49 w h;exact fin h
  ·refine nw h ?_;clear h;intro b50 w h
   (refine ckC h ?_)
   refine nw h ?_;clear h;intro b51 w h
   (refine ckC h ?_)
   refine ut h (by decide) (by omega) λw h=>?_
   (refine ckC h ?_)
   refine qA h sz hd.1 (by omega) λw h=>?_;refine nw h ?_;clear h;intro b54 w h;exact fin h
 clear h;rintro⟨z,⟨⟩⟩ w ⟨sv,r,h⟩;dsimp only at r ⊢;have et2:=PN (rev:=e.name) (y:=⟨q.x.xs,d1,d2⟩) (sgg:=q.sgg) hxk (B:=B) (A:=A) (by simpa [List.map_map,Function.comp_def]using hmk);refine⟨z,rfl,hk z sv (z1R b { a with by':=Zp a.by' e.name ⟨q.x.xs,d1,d2⟩ } p sg' sf ss sk sr sm (A++⟨q.k,q.b,q.g,⟨q.x.xs,d1,d2⟩,q.sgg⟩::B)) w r ⟨p,sg',sf,ss,sk,sr,sm,A++⟨q.k,q.b,q.g,⟨q.x.xs,d1,d2⟩,q.sgg⟩::B,⟨hG,R.fl,R.sh,R.bk,R.ro,?_,?_,?_⟩,rfl⟩ (YJ i hi ?_)⟩
 ·have:(A++(⟨q.k,q.b,q.g,⟨q.x.xs,d1,d2⟩,q.sgg⟩:BsE)::B).map BsE.kp=(A++q::B).map BsE.kp:=by simp
  rw[this];exact hmp
 ·intro y hy;rcases List.mem_append.1 hy with hy | hy
  ·exact ea y (by simp[hy])
  ·rcases List.mem_cons.1 hy with rfl | hy
   ·exact hox
   ·exact ea y (by simp[hy])
 ·rw[et2];show Zp a.by' e.name _=_;rw[hab]
 ·have h:=Zm (Zm h);have h:=h.glue;have h:=yL (Zm h);have h:St w0 (BsE.sg ⟨q.k,q.b,q.g,⟨q.x.xs,d1,d2⟩,q.sgg⟩::((A++B).map BsE.sg).flatten::sv::UT b p a.now::sg'::sf::ss::sk::sr::sm::Zi E i) w:=h;have h:=h.place;have h:=xx (xx (xx (xx (xx (xx (xx (xx h)))))));exact h
end Go.Proofs.YtimahgbgejngiaaGreatDoor
namespace Go.Proofs.YtimahgbgejngiaaGreatDoor
open Go.Dm
structure Yj(k:Nat)(a:Zd):Prop where
 fl:FlI k a.fl
 gt:GtI k a.gt
 sh:ShI k a.sh
 bk:BkI k a.bk
 ro:RoI k a.ro
 by':ByI k a.bk a.by'
 now:0≤a.now∧a.now≤1048576
structure SOk(a:Zd):Prop where
 fl:a.fl.Ok
 gt:a.gt.Ok
 sh:a.sh.Ok
 bk:a.bk.Ok
 ro:(a.ro.map (·.1)).Nodup
 nd:(a.bk.all.map (·.1)).Nodup
def Jq.ok{b:Nat}{a:Zd}{s:Seg}(h:Jq b a s):SOk a:=by
 obtain⟨p,sg,sf,ss,sk,sr,sm,Q,R,-⟩:=h;refine⟨R.fl.1,R.gt.1,R.sh.1,R.bk.1,?_,?_⟩
 ·obtain⟨r,sm,P,Q,hm,-,e,-⟩:=R.ro;rw[e];have:=hm.nd;simpa [List.map_map,Function.comp_def]using this
 ·obtain⟨-,rA,rP,sA,sP,hA,-⟩:=R.bk;exact hA.nd
def Yj.mono{k m:Nat}{a:Zd}(h:Yj k a)(hm:k≤m):Yj m a:=⟨h.fl.mono hm,h.gt.mono hm,h.sh.mono hm,h.bk.mono hm,λn x hx=>(h.ro n x hx).mono hm,h.by'.mono hm,h.now⟩
def He{room line pat:Int}(h:og room line pat=true)(hr:room≤30):Yj 0 (Xf room line pat):=by
 unfold og wiB at h;simp only[Bool.and_eq_true,decide_eq_true_eq]at h;obtain⟨⟨r1,r2⟩,⟨l1,l2⟩,p1,p2⟩:=h;refine⟨⟨⟨hr,?_,?_⟩,r1,Int.le_refl 0,?_,?_⟩,⟨Nat.le_refl _,?_,Nat.le_refl _,?_,?_,⟨p1,by show pat≤1000;omega⟩,l1,l2⟩,⟨Int.le_refl 0,?_,?_,?_⟩,⟨Nat.le_refl _,?_,?_⟩,?_,⟨?_,?_,?_,?_⟩,Int.le_refl 0,by show(0:Int)≤1048576;decide⟩
 ·show((0:Nat):Int)≤max room 0;omega
 all_goals first | (intro x hx;cases hx;done) | skip
 intro n x h;cases h
def ZA(a:Zd)(e:AEv):Zd×List B0:=
 if Zz e≠0 then(a,[ZK sq [Ca (Zz e)]])
 else if e.kind=1 then US a e else if e.kind=2 then kN a e else if e.kind=3 then ob a e else if e.kind=4 then qX a e else if e.kind=5 then VY a e else if e.kind=6 then pY a e
 else if e.kind=9 then VW a else if e.kind=10 then Uc a e else if e.kind=11 then VX a e else if e.kind=12 then vM a e else if e.kind=13 then Ud a e else vD a e
def LF{e:AEv}(h:Zz e=0):(shp e.kind).2=true∧ee (shp e.kind).1 e=0:=by
 unfold Zz at h;split at h
 ·cases h
 ·rename_i h1;exact⟨by simpa using h1,h⟩
def kL{e:AEv}(h:Zz e=0):((shp e.kind).1.1=true→ax e=true)∧((shp e.kind).1.2.1=true→ME e=true)∧((shp e.kind).1.2.2.2.1=true→wiB e.draw 0 2147483647=true)∧((shp e.kind).1.2.2.2.2.1=true→UG e.c=0)∧((shp e.kind).1.2.2.2.2.2.1=true→(shp e.kind).1.2.2.2.2.1=false→Gb e.r=0):=by
 have h:=(LF h).2;generalize (shp e.kind).1=s at h ⊢;obtain⟨s1,s2,s3,s4,s5,s6,⟨⟩⟩:=s;unfold ee at h;dsimp only at h ⊢;split at h
 ·cases h
 ·split at h
  ·cases h
  ·rename_i h1;split at h
   ·cases h
   ·rename_i h2;split at h
    ·cases h
    ·split at h
     ·cases h
     ·rename_i h3;refine⟨λe1=>?_,λe1=>?_,λe1=>?_,λe1=>?_,λe1 e2=>?_⟩
      ·cases hn:ax e with
       | true=>rfl
       | false=>exact absurd ⟨e1,hn⟩ h1
      ·cases hn:ME e with
       | true=>rfl
       | false=>exact absurd ⟨e1,hn⟩ h2
      ·cases hn:wiB e.draw 0 2147483647 with
       | true=>rfl
       | false=>exact absurd ⟨e1,hn⟩ h3
      ·rw[if_pos e1]at h;exact h
      ·rw[if_neg (by simp[e2]),if_pos e1]at h;exact h
def MO{e:AEv}(h:Zz e=0):e.kind=1∨e.kind=2∨e.kind=3∨e.kind=4∨e.kind=5∨e.kind=6∨e.kind=7∨e.kind=8∨e.kind=9∨e.kind=10∨e.kind=11∨e.kind=12∨e.kind=13:=by
 have h:=(LF h).1;unfold shp at h
 repeat' (split at h)
 all_goals first | omega | (cases h;done)
def fO{e:AEv}(h:Zz e=0)(hk:e.kind=4∨e.kind=5∨e.kind=6∨e.kind=7∨e.kind=8):idB e.n∧1≤e.n:=by
 have h1:=(kL h).1 (by rcases hk with e | e | e | e | e<;>rw[e]<;>rfl);unfold ax wiB at h1;rw[if_neg (by omega),if_neg (by omega)]at h1;simp only[Bool.and_eq_true,decide_eq_true_eq]at h1;exact⟨⟨by omega,h1.2⟩,h1.1⟩
def LE{e:AEv}(h:Zz e=0)(hk:e.kind=3∨e.kind=4∨e.kind=10∨e.kind=11):((e.name.size:Nat):Int)≤16:=by
 have h1:=(kL h).2.1 (by rcases hk with e | e | e | e<;>rw[e]<;>rfl);unfold ME at h1;rw[if_neg (by omega)]at h1;exact UW h1
def Bu{e:AEv}(h:Zz e=0)(hk:e.kind=12∨e.kind=13):Ws e.name:=by
 have h1:=(kL h).2.1 (by rcases hk with e | e<;>rw[e]<;>rfl);unfold ME at h1;rw[if_pos hk]at h1;exact PA.1 h1
def SZ{e:AEv}(h:Zz e=0)(hk:e.kind=4):0≤e.draw∧e.draw≤2147483647:=by
 have h1:=(kL h).2.2.1 (by rw[hk];rfl);unfold wiB at h1;simpa using h1
def z2m{e:AEv}(h:Zz e=0)(hk:e.kind=1):UG e.c=0:=(kL h).2.2.2.1 (by rw[hk];rfl)
def z2l{e:AEv}(h:Zz e=0)(hk:e.kind=2):Gb e.r=0:=(kL h).2.2.2.2 (by rw[hk];rfl) (by rw[hk];rfl)
def RA{k:Nat}{a:Zd}(ok:SOk a)(h:Yj k a)(e:AEv):Yj (k+1) (US a e).1:=
 ⟨h.fl.mono (Nat.le_succ k),h.gt.mono (Nat.le_succ k),BW ok.sh h.sh e.c e.n,h.bk.mono (Nat.le_succ k),λn x hx=>(h.ro n x hx).mono (Nat.le_succ k),h.by'.mono (Nat.le_succ k),h.now⟩
def aJ{k:Nat}{a:Zd}(h:Yj k a)(e:AEv):Yj (k+1) (kN a e).1:=
 ⟨h.fl.mono (Nat.le_succ k),h.gt.mono (Nat.le_succ k),rQ h.sh e.r e.n,h.bk.mono (Nat.le_succ k),λn x hx=>(h.ro n x hx).mono (Nat.le_succ k),h.by'.mono (Nat.le_succ k),h.now⟩
def Sx{k:Nat}{a:Zd}(ok:SOk a)(h:Yj k a)(e:AEv):Yj (k+1) (ob a e).1:=by
 have hs:=rT h.sh e.n e.name e.draw;have h1:Yj (k+1) { a with sh:=(Uf a.sh e.n e.name e.draw).1 }:=⟨h.fl.mono (Nat.le_succ k),h.gt.mono (Nat.le_succ k),hs,h.bk.mono (Nat.le_succ k),λn x hx=>(h.ro n x hx).mono (Nat.le_succ k),h.by'.mono (Nat.le_succ k),h.now⟩;unfold ob;split
 ·exact h1
 ·refine⟨h1.fl,h1.gt,h1.sh,h1.bk,?_,h1.by',h1.now⟩;dsimp only;split
  ·exact RoI.del h1.ro ok.ro e.name
  ·exact h1.ro
def RB{k:Nat}{a:Zd}(ok:SOk a)(h:Yj k a){e:AEv}(he:idB e.n):Yj (k+1) (qX a e).1:=by
 have hg:=SH ok.gt h.fl h.gt he (bnd a e) a.now;have h1:Yj (k+1) { a with fl:=(arG a e).1,gt:=(arG a e).2.1 }:=⟨hg.1.mono (Nat.le_succ k),hg.2,h.sh.mono (Nat.le_succ k),h.bk.mono (Nat.le_succ k),λn x hx=>(h.ro n x hx).mono (Nat.le_succ k),h.by'.mono (Nat.le_succ k),h.now⟩;unfold qX;split
 ·rename_i x hx;have hm:(bnd a e,x)∈a.by':=by
   unfold sQ at hx;split at hx
   ·rename_i y hy;split at hx
    ·cases hx;exact jB hy
    ·cases hx
   ·cases hx
  refine⟨h1.fl,h1.gt,h1.sh,h1.bk,h1.ro,?_,h1.now⟩;exact h1.by'.set (h1.by'.xs _ hm) (h1.by'.rng _ hm) ⟨⟨by show(0:Int)≤1;decide,by show(1:Int)≤10;decide⟩,(h1.by'.want _ hm).2⟩
 ·exact h1
def Sy{k:Nat}{a:Zd}(ok:SOk a)(h:Yj k a)(hk:k≤10000){e:AEv}(he:idB e.n):Yj (k+2) (VY a e).1:=by
 have hg:=aP ok.fl ok.gt hk h.fl h.gt he;unfold VY;exact⟨hg.1.mono (by omega),hg.2,h.sh.mono (by omega),h.bk.mono (by omega),λn x hx=>(h.ro n x hx).mono (by omega),h.by'.mono (by omega),h.now⟩
def IR{k:Nat}{a:Zd}(ok:SOk a)(h:Yj k a)(e:AEv):Yj (k+1) (pY a e).1:=by
 have hu:=h.fl.up e.n;have hg:=NN ok.gt hu h.gt (fOf (qn a.fl e.n).1.l e.n);unfold pY;split
 ·exact⟨hu.mono (Nat.le_succ k),h.gt.mono (Nat.le_succ k),h.sh.mono (Nat.le_succ k),h.bk.mono (Nat.le_succ k),λn x hx=>(h.ro n x hx).mono (Nat.le_succ k),h.by'.mono (Nat.le_succ k),h.now⟩
 ·refine⟨hg.1.mono (Nat.le_succ k),hg.2,h.sh.mono (Nat.le_succ k),?_,λn x hx=>(h.ro n x hx).mono (Nat.le_succ k),?_,h.now⟩
  ·dsimp only;unfold EF;split
   ·exact h.bk.mono (Nat.le_succ k)
   ·exact(h.bk.prove _).mono (Nat.le_succ k)
  ·dsimp only;unfold EF;split
   ·exact h.by'.mono (Nat.le_succ k)
   ·refine(h.by'.mono (Nat.le_succ k)).book ?_;unfold ox;split<;>rfl
def Lj{k:Nat}{a:Zd}(h:Yj k a)(e:AEv):Yj (k+1) (vD a e).1:=by
 have hu:=h.fl.kill e.n;have hi:=Py h.fl e.n;have hl:=aN h.gt hi.1 hi.2;unfold vD;split
 ·exact⟨hu.mono (Nat.le_succ k),h.gt.mono (Nat.le_succ k),h.sh.mono (Nat.le_succ k),h.bk.mono (Nat.le_succ k),λn x hx=>(h.ro n x hx).mono (Nat.le_succ k),h.by'.mono (Nat.le_succ k),h.now⟩
 ·exact⟨hu.mono (Nat.le_succ k),hl,h.sh.mono (Nat.le_succ k),h.bk.mono (Nat.le_succ k),λn x hx=>(h.ro n x hx).mono (Nat.le_succ k),h.by'.mono (Nat.le_succ k),h.now⟩
def eh{a:yH}(nd:(a.all.map (·.1)).Nodup):(Gl a).Nodup:=(UU _).nodup_iff.2 nd
def Su{k:Nat}{a:Zd}(ok:SOk a)(nd:(a.bk.all.map (·.1)).Nodup)(h:Yj k a)(hk:k≤10000):Yj (k+1) (VW a).1:=by
 have hg:=Tc ok.gt h.gt (a.now+1);have hG:(tkG a).1.Ok:=by
  have:=tH (m:=a.gt.all.length) (n:=a.gt.lines.length) (now:=a.now+1) (r:=a.gt.room) (ks:=yR (a.gt.lines.map (·.1))) (G:=a.gt) (out:=[]) ⟨Nat.le_refl _,h.gt.ids,Nat.le_refl _,h.gt.lid,h.gt.wk,ok.gt⟩ rfl (λk hk=>by
   cases h4:zA a.gt.lines k with
   | none=>rw[Yn]at h4;exact absurd (UV.1 hk) h4
   | some v=>rfl) (by simp)
  exact this.1.ok
 unfold VW;split
 ·exact h.mono (Nat.le_succ k)
 ·rename_i hc;refine⟨h.fl.mono (Nat.le_succ k),hg.1.mono (Nat.le_succ k),h.sh.mono (Nat.le_succ k),h.bk.mono (Nat.le_succ k),λn x hx=>(h.ro n x hx).mono (Nat.le_succ k),?_,?_⟩
  ·exact ByI.tick (λrev=>(Hy hG hg.1 (by omega) rev).2) (eh nd) h.by'.has (λx hx _=>h.by'.xs x hx) (λx hx=>Nat.le_succ_of_le (h.by'.xs x hx)) h.by'.rng h.by'.want
  ·have:=h.now;dsimp only;omega
def ce{k:Nat}{a:Yu}(ok:a.Ok)(h:ShI k a){n:B0}(hi:(jx a n).2.2.2.1=true):UG (jx a n).1=0∧1≤@id Int (jx a n).2.2.1∧@id Int (jx a n).2.2.1≤a.n:=by
 unfold jx at hi ⊢;split
 ·rename_i h1;have:=h.cfg n h1;exact⟨this.2.1,this.2.2,(ok.gen n).2⟩
 ·rename_i h1;rw[if_neg h1]at hi
  cases hi
def aH{k:Nat}{a:Zd}(ok:SOk a)(h:Yj k a)(hn:a.sh.n<100)(e:AEv):Yj (k+1) (Uc a e).1:=by
 have hm:=h.mono (Nat.le_succ k);unfold Uc;split
 ·exact hm
 ·rename_i h1;have hc:=ce ok.sh h.sh (n:=e.name) (by simpa using h1);split
  ·exact hm
  ·have hb:=h.bk.stamp (c:=(jx a.sh e.name).1) hc.1 (g:=(@id Int (jx a.sh e.name).2.2.1).toNat) (by omega) (by omega);have hw:=(qY hc.1).2.2.2;split
   ·rename_i h3;refine⟨hm.fl,hm.gt,hm.sh,hb,hm.ro,hm.by'.book ?_,hm.now⟩;dsimp only[stp]at h3 ⊢;unfold Xp at h3 ⊢;split
    ·rfl
    ·rename_i h4;rw[if_neg h4]at h3;cases h3
   ·rename_i h3;refine⟨hm.fl,hm.gt,hm.sh,hb,hm.ro,⟨λp hp=>?_,?_,?_,?_⟩,hm.now⟩
    ·dsimp only[stp]at h3 hp ⊢;rw[XL];split
     ·rfl
     ·rename_i h5;unfold Xp at hp h5;split at hp
      ·exact h.by'.has p hp
      ·rename_i h6;rw[if_neg h6]at h5;rcases yr hp with rfl | hp
       ·exact absurd rfl h5
       ·exact h.by'.has p hp
    all_goals
     intro y hy;rcases yr hy with rfl | hy
    ·exact Nat.zero_le _
    ·exact hm.by'.xs y hy
    ·intro z hz;cases hz
    ·exact hm.by'.rng y hy
    ·refine⟨?_,Int.le_refl 0,by show(0:Int)≤1000;decide⟩;show 0≤gb (jx a.sh e.name).1∧gb (jx a.sh e.name).1≤10;unfold gb;split<;>omega
    ·exact hm.by'.want y hy
def da{k:Nat}{a:Yu}(h:ShI k a)(n:B0):(Qy a n).1.ts.length≤6∧(∀t∈(Qy a n).1.ts,(0≤pct t∧pct t≤100)∧t.2.1.size≤100)∧0≤(Qy a n).1.roll∧(Qy a n).1.roll≤60:=by
 unfold Qy;split
 ·rename_i h1;have:=Nj (h.rt n h1).2;exact⟨this.2.2.1,this.2.2.2,this.2.1.1,this.2.1.2⟩
 ·exact⟨Nat.zero_le _,(by intro t ht;cases ht),(show(0:Int)≤0 by decide),(show(0:Int)≤60 by decide)⟩
def Sw{k:Nat}{a:Zd}(ok:SOk a)(h:Yj k a)(e:AEv):Yj (k+2) (VX a e).1:=by
 have hm:=h.mono (Nat.le_add_right k 2);have hr:=da h.sh e.name;unfold VX;split
 ·exact hm
 ·split
  ·exact hm
  ·refine⟨hm.fl,hm.gt,hm.sh,hm.bk,?_,hm.by',hm.now⟩;exact Rc (k:=k+1) (h.mono (Nat.le_succ k)).ro e.name (cg ok.bk h.bk hr.1 hr.2.1) h.now _ (by omega)
def Sv{k:Nat}{a:Zd}(h:Yj k a)(e:AEv):Yj (k+1) (Ud a e).1:=by
 have hm:=h.mono (Nat.le_succ k);unfold Ud;split
 ·exact hm
 ·rename_i h1;have h1:jt a.bk e.name=true:=by simpa using h1
  have hb:=Qk h1;have hc:=(qY (h.bk.cfg _ hb)).2.2.1;refine⟨?_,hm.gt,hm.sh,hm.bk,hm.ro,hm.by',hm.now⟩;exact h.fl.scale (h.bk.rev _ hb) (Int.le_trans hc.2 (by decide)) _
def aa{w ready mi ma:Int}(h1:0≤mi)(h2:1≤ma∧ma≤10):0≤Nn w ready mi ma∧Nn w ready mi ma≤10:=by
 unfold Nn;generalize mx2 (mn2 w (4*scM ready)) (ready/2)=x;unfold mn2 mx2;constructor<;>repeat' split
 all_goals omega
def rZ{left b m:Int}(h:0≤left∧left≤1000):0≤kP left b m∧kP left b m≤1000:=by
 unfold kP
 repeat' split
 all_goals omega
def WW{k:Nat}{a:Zd}(h:Yj k a){rev:B0}(hb:jt a.bk rev=true){x:GY}(hx:0≤x.left∧x.left≤1000):(0≤(cU a x rev).1∧(cU a x rev).1≤10)∧(0≤(cU a x rev).2∧(cU a x rev).2≤1000):=by
 have hc:=(qY (h.bk.cfg _ (Qk hb))).2.2.2;exact⟨aa hc.2.1.1 hc.1,rZ hx⟩
def aI{k:Nat}{a:Zd}(h:Yj k a)(e:AEv):Yj (k+1) (vM a e).1:=by
 have hm:=h.mono (Nat.le_succ k);unfold vM;split
 ·exact hm
 ·rename_i h1;have h1:jt a.bk e.name=true:=by simpa using h1
  split
  ·exact hm
  ·rename_i x hx;have hxm:=jB hx;refine⟨hm.fl,hm.gt,hm.sh,hm.bk,hm.ro,hm.by'.set (hm.by'.xs _ hxm) (hm.by'.rng _ hxm) ?_,hm.now⟩;exact WW h h1 (hm.by'.want _ hxm).2
def Ni{a:Zd}{e:AEv}(h:Zz e≠0):ZA a e=(a,[ZK sq [Ca (Zz e)]]):=by unfold ZA;rw[if_pos h]
def CE{a:Zd}{e:AEv}(h:Zz e=0)(hk:e.kind=1):ZA a e=US a e:=by unfold ZA;rw[if_neg (by simp[h]),if_pos hk]
def CD{a:Zd}{e:AEv}(h:Zz e=0)(hk:e.kind=2):ZA a e=kN a e:=by unfold ZA;rw[if_neg (by simp[h]),if_neg (by omega),if_pos hk]
def CC{a:Zd}{e:AEv}(h:Zz e=0)(hk:e.kind=3):ZA a e=ob a e:=by unfold ZA;rw[if_neg (by simp[h]),if_neg (by omega),if_neg (by omega),if_pos hk]
def CB{a:Zd}{e:AEv}(h:Zz e=0)(hk:e.kind=4):ZA a e=qX a e:=by unfold ZA;rw[if_neg (by simp[h]),if_neg (by omega),if_neg (by omega),if_neg (by omega),if_pos hk]
def CA{a:Zd}{e:AEv}(h:Zz e=0)(hk:e.kind=5):ZA a e=VY a e:=by unfold ZA;rw[if_neg (by simp[h]),if_neg (by omega),if_neg (by omega),if_neg (by omega),if_neg (by omega),if_pos hk]
def Cz{a:Zd}{e:AEv}(h:Zz e=0)(hk:e.kind=6):ZA a e=pY a e:=by unfold ZA;rw[if_neg (by simp[h]),if_neg (by omega),if_neg (by omega),if_neg (by omega),if_neg (by omega),if_neg (by omega),if_pos hk]
def oc{a:Zd}{e:AEv}(h:Zz e=0)(hk:e.kind=7∨e.kind=8):ZA a e=vD a e:=by
 unfold ZA;rw[if_neg (by simp[h]),if_neg (by omega),if_neg (by omega),if_neg (by omega),if_neg (by omega),if_neg (by omega),if_neg (by omega),if_neg (by omega),if_neg (by omega),if_neg (by omega),if_neg (by omega),if_neg (by omega)]
def Cy{a:Zd}{e:AEv}(h:Zz e=0)(hk:e.kind=9):ZA a e=VW a:=by unfold ZA;rw[if_neg (by simp[h]),if_neg (by omega),if_neg (by omega),if_neg (by omega),if_neg (by omega),if_neg (by omega),if_neg (by omega),if_pos hk]
def Pc{a:Zd}{e:AEv}(h:Zz e=0)(hk:e.kind=10):ZA a e=Uc a e:=by unfold ZA;rw[if_neg (by simp[h]),if_neg (by omega),if_neg (by omega),if_neg (by omega),if_neg (by omega),if_neg (by omega),if_neg (by omega),if_neg (by omega),if_pos hk]
def Pb{a:Zd}{e:AEv}(h:Zz e=0)(hk:e.kind=11):ZA a e=VX a e:=by unfold ZA;rw[if_neg (by simp[h]),if_neg (by omega),if_neg (by omega),if_neg (by omega),if_neg (by omega),if_neg (by omega),if_neg (by omega),if_neg (by omega),if_neg (by omega),if_pos hk]
def Pa{a:Zd}{e:AEv}(h:Zz e=0)(hk:e.kind=12):ZA a e=vM a e:=by unfold ZA;rw[if_neg (by simp[h]),if_neg (by omega),if_neg (by omega),if_neg (by omega),if_neg (by omega),if_neg (by omega),if_neg (by omega),if_neg (by omega),if_neg (by omega),if_neg (by omega),if_pos hk]
def pZ{a:Zd}{e:AEv}(h:Zz e=0)(hk:e.kind=13):ZA a e=Ud a e:=by unfold ZA;rw[if_neg (by simp[h]),if_neg (by omega),if_neg (by omega),if_neg (by omega),if_neg (by omega),if_neg (by omega),if_neg (by omega),if_neg (by omega),if_neg (by omega),if_neg (by omega),if_neg (by omega),if_pos hk]
end Go.Proofs.YtimahgbgejngiaaGreatDoor
namespace Go.Proofs.YtimahgbgejngiaaGreatDoor
open Go.Dm
attribute [local irreducible] L.load L.store L.chk L.new L.nonnil L.guard L.ite L.draw L.idx L.sem L.semR L.semU L.chkSem L.next L.call L.callV L.join L.alts L.loop L.begin L.endRound L.range
variable {w0 w:World}{E:List Seg}
def Ik{F:zk}(ok:F.Ok)(id:Int):(qn F id).1.Ok:=by
 unfold qn;split
 ·exact ok
 ·rename_i x hx;refine ok.upd hx _ ?_ λq hq=>.inl (by rwa [lz]at hq);have:=ok.live x (JE hx).1;unfold Xc;split
  ·dsimp only;omega
  ·exact .inr (.inl rfl)
def bU(rev:B0):∀{n:Nat}{F:zk},(shrink rev n F).1.last=F.last∧(shrink rev n F).1.room=F.room
 | 0,F=>⟨rfl,rfl⟩
 | n+1,F=>by simp only[shrink];exact bU rev (n:=n) (F:=Kk rev F)
def rY(F:zk)(rev:B0)(conc want:Int):(xn F rev conc want).1.room=F.room:=by
 unfold xn Xo;rw[(bU rev).2,FX]
def SB{F:zk}{rev:B0}{conc:Int}(n:Nat)(ok:F.Ok)(h1:F.l.length+n<100000000)(h2:F.last+n<4611686018427387904):(grow rev conc n F).Ok:=by
 induction n with
 | zero=>exact ok
 | succ n ih=>
  refine Lm (ih (by omega) (by omega)) ?_ ?_
  ·rw[fI];omega
  ·rw[FY];omega
def cb{rev:B0}:∀{n:Nat}{F:zk},F.Ok→n≤yD F.l rev→(∀x∈(shrink rev n F).2,0≤x∧x≤F.last)∧(shrink rev n F).2.length=n
 | 0,F,_,_=>⟨(by intro x hx;cases hx),rfl⟩
 | n+1,F,ok,h=>by
  have h1:=NW ok (rev:=rev) (by omega);have h2:=PK ok (rev:=rev) (by omega);obtain⟨a,b⟩:=cb (rev:=rev) (n:=n) h1 (by omega);obtain⟨y,hy,-,-⟩:=FQ (rev:=rev) ok (by omega);obtain⟨hm,hid⟩:=JE hy;have hr:=ok.rng y hm;simp only[shrink];refine⟨λx hx=>?_,by rw[List.length_cons,b]⟩;rcases List.mem_cons.1 hx with rfl | hx
  ·rw[←hid];omega
  ·exact a x hx
def dc{F:zk}(ok:F.Ok){rev:B0}{conc want:Int}(hl:(F.l.length:Int)≤1000)(hr:F.room≤1000)(hla:F.last≤1000000000):(∀x∈(xn F rev conc want).2,0≤x∧x≤F.last+1000)∧(xn F rev conc want).2.length≤2000:=by
 have hn:=fJ F rev want;have okg:(Xo F rev conc want).Ok:=SB _ ok (by omega) (by omega);have hsn:Ue (Xo F rev conc want) rev want≤yD (Xo F rev conc want).l rev:=by
  have:=rN (Xo F rev conc want) rev want;omega
 have hs:=cb okg hsn;have hll:(Xo F rev conc want).last=F.last+uK F rev want:=FY ..;have hcl:=mf (Xo F rev conc want).l (rev:=rev);have hgl:(Xo F rev conc want).l.length=F.l.length+uK F rev want:=fI ..;unfold xn;refine⟨λx hx=>?_,?_⟩
 ·have:=hs.1 x hx;omega
 ·rw[hs.2];omega
def bi [YB w0](h:St w0 E w)(i:Nat){b:Nat}{a:Zd}{s:Seg}(hi:nth E i=some s)(hs:Jq b a s){e:AEv}(hn:jt a.bk e.name=false){k:Sl→PT}(hk:Hk w0 E i b (Ud a e) k):jG (some ⟨b,0,none⟩) e.t (slK k) w:=by
 have hs0:=hs;obtain⟨p,sg,sf,ss,sk,sr,sm,Q,R,rfl⟩:=hs;unfold jG;unfold Ud at hk;have h:=(h.front i hi).split8;refine nw h ?_;clear h;intro b1 w h;refine ZC (λ(z:Addr×Bool×Unit) w=>∃b8:Nat,z=(⟨b8,0,none⟩,jt a.bk e.name,())∧St w0 (UT b p a.now::sg::sf::ss::sk::sr::sm::(Q.map BsE.sg).flatten::Zi E i) w) (λk2 hk2=>?_) ?_
 ·(dsimp only[zd,List.cons_append,List.nil_append]at h;refine dr h ?_;clear h;intro w h;refine nn ?_;refine ldC h ?_;refine ldC h ?_)
  refine VD ?_ ?_
  ·refine gO h 5 rfl R.bk λw h=>?_;refine nw h ?_;clear h;intro b8 w h
   (refine ckC h ?_;refine ckC h ?_;refine stC h ?_;clear h;intro w h;dsimp only[zE,zd]at h)
   exact hk2 _ w ⟨b8,rfl,zj (zj h)⟩
  ·refine nw h ?_;clear h;intro b8 w h
   (refine ckC h ?_;refine ckC h ?_)
   refine gO h 6 rfl R.bk λw h=>?_
   (refine stC h ?_;clear h;intro w h;dsimp only[zE,zd]at h)
   exact hk2 _ w ⟨b8,rfl,zj (zj h)⟩
 clear h;rintro z w ⟨b8,rfl,h⟩
 (try dsimp only)
 refine itT (by simp[hn]) ?_;rw[if_pos hn]at hk;refine JT h λv s w r h=>?_;exact⟨v,rfl,hk v s _ w r hs0 (YJ i hi h)⟩
structure pc(w0:World)(E:List Seg)(i:Nat)(e:AEv):Prop where
 rd:RdE w0 (Zi E i) eT e.v e.r.ts
 hvc:e.v.len≤e.v.cap
 h0:e.v.a=none→e.r.ts = []
 hrv:∀t∈e.r.ts,Qo t.1
 hn:e.kind=12∨e.kind=13→e.name.size≤1000000
abbrev HkI(w0:World)(E:List Seg)(i b k0:Nat)(r:Zd×List B0)(k:Sl→PT):Prop:=
 ∀v sv s' w',Rw eS zc 1 v r.2 sv→Jq b r.1 s'→Yj k0 r.1→St w0 (sv::zd E i s') w'→k v w'
def If [YB w0](h:St w0 E w)(i:Nat){b:Nat}{a:Zd}{s:Seg}(hi:nth E i=some s)(hs:Jq b a s){e:AEv}(hb:Zz e=0)(hc:e.kind=1)(ev:pc w0 E i e){k0:Nat}(inv:Yj k0 a)(hk0:k0≤9000)(hn:a.sh.n<99){k:Sl→PT}(hk:HkI w0 E i b (k0+2) (ZA a e) k) :
  L.call Pr zx [pO b,evV e] (.one (.one .slice)) k w:=by
 have ok:=hs.ok;have rd':RdE w0 E eT e.v e.r.ts:=λw h=>ev.rd w (h.del i hi);have i2:Yj (k0+2) (ZA a e).1:=by rw[CE hb hc];exact(RA ok inv e).mono (Nat.le_succ _)
 have hkk:Hk w0 E i b (ZA a e) k:=λv sv s' w' r hs' h=>hk v sv s' w' r hs' i2 h;clear hk;have hlast:=inv.fl.last;have hlen:=inv.fl.few.l;have hroom:=inv.fl.few.r;unfold jy at hroom;have hall:=inv.gt.all;have hlines:=inv.gt.lines;have hgr:=inv.gt.room;have hpat:=inv.gt.pat;have hnow:=inv.now;have hbl:=inv.bk.len;have hr1:=inv.fl.r1;have rn:=ev.hn;rw[CE hb hc]at hkk;exact bn h i hi hs hc hb rd' ev.hvc ev.hrv (by omega) (by have:=UW (qY (z2m hb hc)).1;omega) hkk
def z2B [YB w0](h:St w0 E w)(i:Nat){b:Nat}{a:Zd}{s:Seg}(hi:nth E i=some s)(hs:Jq b a s){e:AEv}(hb:Zz e=0)(hc:e.kind=2)(ev:pc w0 E i e){k0:Nat}(inv:Yj k0 a)(hk0:k0≤9000)(hn:a.sh.n<99){k:Sl→PT}(hk:HkI w0 E i b (k0+2) (ZA a e) k) :
  L.call Pr zx [pO b,evV e] (.one (.one .slice)) k w:=by
 have ok:=hs.ok;have rd':RdE w0 E eT e.v e.r.ts:=λw h=>ev.rd w (h.del i hi);have i2:Yj (k0+2) (ZA a e).1:=by rw[CD hb hc];exact(aJ inv e).mono (Nat.le_succ _)
 have hkk:Hk w0 E i b (ZA a e) k:=λv sv s' w' r hs' h=>hk v sv s' w' r hs' i2 h;clear hk;have hlast:=inv.fl.last;have hlen:=inv.fl.few.l;have hroom:=inv.fl.few.r;unfold jy at hroom;have hall:=inv.gt.all;have hlines:=inv.gt.lines;have hgr:=inv.gt.room;have hpat:=inv.gt.pat;have hnow:=inv.now;have hbl:=inv.bk.len;have hr1:=inv.fl.r1;have rn:=ev.hn;rw[CD hb hc]at hkk;exact An h i hi hs hc hb ev.rd ev.hvc ev.h0 ev.hrv (by omega) (by have:=UW (Nj (z2l hb hc)).1.1;omega) inv.sh.few hkk
def z2A [YB w0](h:St w0 E w)(i:Nat){b:Nat}{a:Zd}{s:Seg}(hi:nth E i=some s)(hs:Jq b a s){e:AEv}(hb:Zz e=0)(hc:e.kind=3)(ev:pc w0 E i e){k0:Nat}(inv:Yj k0 a)(hk0:k0≤9000)(hn:a.sh.n<99){k:Sl→PT}(hk:HkI w0 E i b (k0+2) (ZA a e) k) :
  L.call Pr zx [pO b,evV e] (.one (.one .slice)) k w:=by
 have ok:=hs.ok;have rd':RdE w0 E eT e.v e.r.ts:=λw h=>ev.rd w (h.del i hi);have i2:Yj (k0+2) (ZA a e).1:=by rw[CC hb hc];exact(Sx ok inv e).mono (Nat.le_succ _)
 have hkk:Hk w0 E i b (ZA a e) k:=λv sv s' w' r hs' h=>hk v sv s' w' r hs' i2 h;clear hk;have hlast:=inv.fl.last;have hlen:=inv.fl.few.l;have hroom:=inv.fl.few.r;unfold jy at hroom;have hall:=inv.gt.all;have hlines:=inv.gt.lines;have hgr:=inv.gt.room;have hpat:=inv.gt.pat;have hnow:=inv.now;have hbl:=inv.bk.len;have hr1:=inv.fl.r1;have rn:=ev.hn;rw[CC hb hc]at hkk;exact oA h i hi hs hb rn rd' ev.hvc ev.hrv (f:=YF) (by rw[hc];rfl) Fm (Fu (some ⟨b,0,none⟩) e.t) (λh hi _ hk=>Ae h _ hi hs (by omega) (by have:=LE hb (by omega);omega) hk) hkk
def Ie [YB w0](h:St w0 E w)(i:Nat){b:Nat}{a:Zd}{s:Seg}(hi:nth E i=some s)(hs:Jq b a s){e:AEv}(hb:Zz e=0)(hc:e.kind=4)(ev:pc w0 E i e){k0:Nat}(inv:Yj k0 a)(hk0:k0≤9000)(hn:a.sh.n<99){k:Sl→PT}(hk:HkI w0 E i b (k0+2) (ZA a e) k) :
  L.call Pr zx [pO b,evV e] (.one (.one .slice)) k w:=by
 have ok:=hs.ok;have rd':RdE w0 E eT e.v e.r.ts:=λw h=>ev.rd w (h.del i hi);have i2:Yj (k0+2) (ZA a e).1:=by rw[CB hb hc];exact(RB ok inv (fO hb (by omega)).1).mono (Nat.le_succ _)
 have hkk:Hk w0 E i b (ZA a e) k:=λv sv s' w' r hs' h=>hk v sv s' w' r hs' i2 h;clear hk;have hlast:=inv.fl.last;have hlen:=inv.fl.few.l;have hroom:=inv.fl.few.r;unfold jy at hroom;have hall:=inv.gt.all;have hlines:=inv.gt.lines;have hgr:=inv.gt.room;have hpat:=inv.gt.pat;have hnow:=inv.now;have hbl:=inv.bk.len;have hr1:=inv.fl.r1;have rn:=ev.hn;rw[CB hb hc]at hkk;have hid:=(fO hb (by omega)).1;have hd:=SZ hb hc;refine bo h i hi hs hc hb rd' ev.hvc ev.hrv (by omega) (λx hx=>(inv.ro _ x hx).ok (by omega)) ?_ inv.fl.few (by omega) (by omega) (by omega) (aQ (by omega) ok.fl inv.fl hid _ _) ?_ hkk
 ·unfold Gd
  cases hg:zA a.ro e.name with
  | none=>intro s hs;cases hs
  | some x=>exact(inv.ro _ x hg).ns
 ·unfold bnd;split
  ·decide
  ·cases hg:zA a.ro e.name with
   | none=>rename_i hh;rw[hg]at hh;exact absurd rfl hh
   | some x=>
    have w:=inv.ro _ x hg;split
    ·unfold bQ Gd;rw[hg];have:∀(l:List Shr)(d:Int),(∀s∈l,s.1.size≤100)→(Po l d).size≤100:=by
      intro l
      induction l with
      | nil=>intro d _;show s_.size≤100;decide
      | cons s l ih=>
       intro d hl;unfold Po;split
       ·exact hl s (by simp)
       ·exact ih _ λy hy=>hl y (by simp[hy])
     have:=this x.ns (e.draw%100) w.zn;dsimp only;omega
    ·unfold Gd;rw[hg];have:∀(l:List Tgo),(∀s∈l,s.1.size≤100∧s.2.1.size≤100)→(na l e.tag).1.size≤100:=by
      intro l
      induction l with
      | nil=>intro _;show s_.size≤100;decide
      | cons s l ih=>
       intro hl;unfold na;split
       ·exact(hl s (by simp)).2
       ·exact ih λy hy=>hl y (by simp[hy])
     have:=this x.ng w.zg;dsimp only;omega
def z2z [YB w0](h:St w0 E w)(i:Nat){b:Nat}{a:Zd}{s:Seg}(hi:nth E i=some s)(hs:Jq b a s){e:AEv}(hb:Zz e=0)(hc:e.kind=5)(ev:pc w0 E i e){k0:Nat}(inv:Yj k0 a)(hk0:k0≤9000)(hn:a.sh.n<99){k:Sl→PT}(hk:HkI w0 E i b (k0+2) (ZA a e) k) :
  L.call Pr zx [pO b,evV e] (.one (.one .slice)) k w:=by
 have ok:=hs.ok;have rd':RdE w0 E eT e.v e.r.ts:=λw h=>ev.rd w (h.del i hi);have i2:Yj (k0+2) (ZA a e).1:=by rw[CA hb hc];exact Sy ok inv (by omega) (fO hb (by omega)).1
 have hkk:Hk w0 E i b (ZA a e) k:=λv sv s' w' r hs' h=>hk v sv s' w' r hs' i2 h;clear hk;have hlast:=inv.fl.last;have hlen:=inv.fl.few.l;have hroom:=inv.fl.few.r;unfold jy at hroom;have hall:=inv.gt.all;have hlines:=inv.gt.lines;have hgr:=inv.gt.room;have hpat:=inv.gt.pat;have hnow:=inv.now;have hbl:=inv.bk.len;have hr1:=inv.fl.r1;have rn:=ev.hn;rw[CA hb hc]at hkk;have hid:=(fO hb (by omega)).1;exact Er h i hi hs hc hb rd' ev.hvc ev.hrv inv.fl.few (by omega) (by omega) (Lq ok.fl (by omega) inv.fl inv.gt hid) (aO ok.gt (by omega) hgr.2 _) hkk
def z2y [YB w0](h:St w0 E w)(i:Nat){b:Nat}{a:Zd}{s:Seg}(hi:nth E i=some s)(hs:Jq b a s){e:AEv}(hb:Zz e=0)(hc:e.kind=6)(ev:pc w0 E i e){k0:Nat}(inv:Yj k0 a)(hk0:k0≤9000)(hn:a.sh.n<99){k:Sl→PT}(hk:HkI w0 E i b (k0+2) (ZA a e) k) :
  L.call Pr zx [pO b,evV e] (.one (.one .slice)) k w:=by
 have ok:=hs.ok;have rd':RdE w0 E eT e.v e.r.ts:=λw h=>ev.rd w (h.del i hi);have i2:Yj (k0+2) (ZA a e).1:=by rw[Cz hb hc];exact(IR ok inv e).mono (Nat.le_succ _)
 have hkk:Hk w0 E i b (ZA a e) k:=λv sv s' w' r hs' h=>hk v sv s' w' r hs' i2 h;clear hk;have hlast:=inv.fl.last;have hlen:=inv.fl.few.l;have hroom:=inv.fl.few.r;unfold jy at hroom;have hall:=inv.gt.all;have hlines:=inv.gt.lines;have hgr:=inv.gt.room;have hpat:=inv.gt.pat;have hnow:=inv.now;have hbl:=inv.bk.len;have hr1:=inv.fl.r1;have rn:=ev.hn;rw[Cz hb hc]at hkk;have hid:=(fO hb (by omega)).1;have hu:=inv.fl.up e.n;have hsz:(fOf (qn a.fl e.n).1.l e.n).size≤100:=by
  unfold fOf
  cases hf:qd (qn a.fl e.n).1.l e.n with
  | none=>show s_.size≤100;decide
  | some x=>exact(hu.rev x (JE hf).1).size
 have hu':(qn a.fl e.n).1.Ok:=Ik ok.fl e.n;refine z0s h i hi hs hc hb rd' ev.hvc ev.hrv ⟨by omega,by omega⟩ (by omega) hu.few (by omega) (by omega) (cw (by omega) hu' hu inv.gt _) ?_ hkk;have:=(mb (F:=(qn a.fl e.n).1) ok.gt (fOf (qn a.fl e.n).1.l e.n)).1;show(JD (qn a.fl e.n).1 a.gt (fOf (qn a.fl e.n).1.l e.n)).2.2.length<100000000;omega
def z2x [YB w0](h:St w0 E w)(i:Nat){b:Nat}{a:Zd}{s:Seg}(hi:nth E i=some s)(hs:Jq b a s){e:AEv}(hb:Zz e=0)(hc:e.kind=7)(ev:pc w0 E i e){k0:Nat}(inv:Yj k0 a)(hk0:k0≤9000)(hn:a.sh.n<99){k:Sl→PT}(hk:HkI w0 E i b (k0+2) (ZA a e) k) :
  L.call Pr zx [pO b,evV e] (.one (.one .slice)) k w:=by
 have ok:=hs.ok;have rd':RdE w0 E eT e.v e.r.ts:=λw h=>ev.rd w (h.del i hi);have i2:Yj (k0+2) (ZA a e).1:=by rw[oc hb (.inl hc)];exact(Lj inv e).mono (Nat.le_succ _)
 have hkk:Hk w0 E i b (ZA a e) k:=λv sv s' w' r hs' h=>hk v sv s' w' r hs' i2 h;clear hk;have hlast:=inv.fl.last;have hlen:=inv.fl.few.l;have hroom:=inv.fl.few.r;unfold jy at hroom;have hall:=inv.gt.all;have hlines:=inv.gt.lines;have hgr:=inv.gt.room;have hpat:=inv.gt.pat;have hnow:=inv.now;have hbl:=inv.bk.len;have hr1:=inv.fl.r1;have rn:=ev.hn;rw[oc hb (.inl hc)]at hkk;have hid:=(fO hb (by omega)).1;have hki:=Py inv.fl e.n;exact oA h i hi hs hb rn rd' ev.hvc ev.hrv (f:=ZP) (by rw[hc];rfl) Vh (Vj (some ⟨b,0,none⟩) e.t) (λh hi _ hk=>wg h _ hi hs ⟨by omega,by omega⟩ (by omega) (oo hki.1 (by simp)) hk) hkk
def z2w [YB w0](h:St w0 E w)(i:Nat){b:Nat}{a:Zd}{s:Seg}(hi:nth E i=some s)(hs:Jq b a s){e:AEv}(hb:Zz e=0)(hc:e.kind=8)(ev:pc w0 E i e){k0:Nat}(inv:Yj k0 a)(hk0:k0≤9000)(hn:a.sh.n<99){k:Sl→PT}(hk:HkI w0 E i b (k0+2) (ZA a e) k) :
  L.call Pr zx [pO b,evV e] (.one (.one .slice)) k w:=by
 have ok:=hs.ok;have rd':RdE w0 E eT e.v e.r.ts:=λw h=>ev.rd w (h.del i hi);have i2:Yj (k0+2) (ZA a e).1:=by rw[oc hb (.inr hc)];exact(Lj inv e).mono (Nat.le_succ _)
 have hkk:Hk w0 E i b (ZA a e) k:=λv sv s' w' r hs' h=>hk v sv s' w' r hs' i2 h;clear hk;have hlast:=inv.fl.last;have hlen:=inv.fl.few.l;have hroom:=inv.fl.few.r;unfold jy at hroom;have hall:=inv.gt.all;have hlines:=inv.gt.lines;have hgr:=inv.gt.room;have hpat:=inv.gt.pat;have hnow:=inv.now;have hbl:=inv.bk.len;have hr1:=inv.fl.r1;have rn:=ev.hn;rw[oc hb (.inr hc)]at hkk;have hid:=(fO hb (by omega)).1;have hki:=Py inv.fl e.n;exact oA h i hi hs hb rn rd' ev.hvc ev.hrv (f:=ZP) (by rw[hc];rfl) Vh (Vj (some ⟨b,0,none⟩) e.t) (λh hi _ hk=>wg h _ hi hs ⟨by omega,by omega⟩ (by omega) (oo hki.1 (by simp)) hk) hkk
def Id [YB w0](h:St w0 E w)(i:Nat){b:Nat}{a:Zd}{s:Seg}(hi:nth E i=some s)(hs:Jq b a s){e:AEv}(hb:Zz e=0)(hc:e.kind=9)(ev:pc w0 E i e){k0:Nat}(inv:Yj k0 a)(hk0:k0≤9000)(hn:a.sh.n<99){k:Sl→PT}(hk:HkI w0 E i b (k0+2) (ZA a e) k) :
  L.call Pr zx [pO b,evV e] (.one (.one .slice)) k w:=by
 have ok:=hs.ok;have rd':RdE w0 E eT e.v e.r.ts:=λw h=>ev.rd w (h.del i hi);have i2:Yj (k0+2) (ZA a e).1:=by rw[Cy hb hc];exact(Su ok ok.nd inv (by omega)).mono (Nat.le_succ _)
 have hkk:Hk w0 E i b (ZA a e) k:=λv sv s' w' r hs' h=>hk v sv s' w' r hs' i2 h;clear hk;have hlast:=inv.fl.last;have hlen:=inv.fl.few.l;have hroom:=inv.fl.few.r;unfold jy at hroom;have hall:=inv.gt.all;have hlines:=inv.gt.lines;have hgr:=inv.gt.room;have hpat:=inv.gt.pat;have hnow:=inv.now;have hbl:=inv.bk.len;have hr1:=inv.fl.r1;have rn:=ev.hn;rw[Cy hb hc]at hkk;have hg:=Tc ok.gt inv.gt (a.now+1);refine En h i hi hs hc hb rd' ev.hvc ev.hrv hnow.1 inv.gt.wk (by have:=hg.2.2;unfold tkG;omega) hg.2.1 (λrev hr=>?_) (λx hx=>by have:=inv.by'.xs x hx;omega) (by omega) hkk;have:=inv.by'.has _ (Qk (wd hr));exact this
def Eu [YB w0](h:St w0 E w)(i:Nat){b:Nat}{a:Zd}{s:Seg}(hi:nth E i=some s)(hs:Jq b a s){e:AEv}(hb:Zz e=0)(hc:e.kind=10)(ev:pc w0 E i e){k0:Nat}(inv:Yj k0 a)(hk0:k0≤9000)(hn:a.sh.n<99){k:Sl→PT}(hk:HkI w0 E i b (k0+2) (ZA a e) k) :
  L.call Pr zx [pO b,evV e] (.one (.one .slice)) k w:=by
 have ok:=hs.ok;have rd':RdE w0 E eT e.v e.r.ts:=λw h=>ev.rd w (h.del i hi);have i2:Yj (k0+2) (ZA a e).1:=by rw[Pc hb hc];exact(aH ok inv (by omega) e).mono (Nat.le_succ _)
 have hkk:Hk w0 E i b (ZA a e) k:=λv sv s' w' r hs' h=>hk v sv s' w' r hs' i2 h;clear hk;have hlast:=inv.fl.last;have hlen:=inv.fl.few.l;have hroom:=inv.fl.few.r;unfold jy at hroom;have hall:=inv.gt.all;have hlines:=inv.gt.lines;have hgr:=inv.gt.room;have hpat:=inv.gt.pat;have hnow:=inv.now;have hbl:=inv.bk.len;have hr1:=inv.fl.r1;have rn:=ev.hn;rw[Pc hb hc]at hkk;refine Am h i hi hs hc hb rd' ev.hvc ev.hrv (λhh=>?_) (by omega) hkk;have hs:=ce ok.sh inv.sh hh;have hnum:=qY hs.1;exact⟨hnum.1,hs.2.1,by omega,by omega⟩
def z0t [YB w0](h:St w0 E w)(i:Nat){b:Nat}{a:Zd}{s:Seg}(hi:nth E i=some s)(hs:Jq b a s){e:AEv}(hb:Zz e=0)(hc:e.kind=11)(ev:pc w0 E i e){k0:Nat}(inv:Yj k0 a)(hk0:k0≤9000)(hn:a.sh.n<99){k:Sl→PT}(hk:HkI w0 E i b (k0+2) (ZA a e) k) :
  L.call Pr zx [pO b,evV e] (.one (.one .slice)) k w:=by
 have ok:=hs.ok;have rd':RdE w0 E eT e.v e.r.ts:=λw h=>ev.rd w (h.del i hi);have i2:Yj (k0+2) (ZA a e).1:=by rw[Pb hb hc];exact Sw ok inv e
 have hkk:Hk w0 E i b (ZA a e) k:=λv sv s' w' r hs' h=>hk v sv s' w' r hs' i2 h;clear hk;have hlast:=inv.fl.last;have hlen:=inv.fl.few.l;have hroom:=inv.fl.few.r;unfold jy at hroom;have hall:=inv.gt.all;have hlines:=inv.gt.lines;have hgr:=inv.gt.room;have hpat:=inv.gt.pat;have hnow:=inv.now;have hbl:=inv.bk.len;have hr1:=inv.fl.r1;have rn:=ev.hn;rw[Pb hb hc]at hkk;have hr:=da inv.sh e.name;have ht:=cg ok.bk inv.bk hr.1 hr.2.1;have hno:=ay (k:=k0+1) (inv.mono (Nat.le_succ k0)).ro e.name ht hnow (Qy a.sh e.name).1.roll (by omega);refine Ep h i hi hs hc hb rd' ev.hvc ev.hrv inv.sh.few (by have:=LE hb (by omega);omega) (λt ht=>by have:=(hr.2.1 t ht).1;omega) (by omega) (by omega) (λx hx=>(inv.ro _ x hx).ok (by omega)) (λx hx=>by have:=(inv.ro _ x hx).since;omega) (by omega) ht.w (by have:=hno.2.2;show(Ge a.ro e.name (resolve a.bk (Qy a.sh e.name).1).1 a.now (Qy a.sh e.name).1.roll).sh.length<100000;omega) ?_ hkk;exact rK hno.1 hno.2.1 ht.zg (Nat.add_le_add hno.2.2 ht.lg) (by omega)
def Et [YB w0](h:St w0 E w)(i:Nat){b:Nat}{a:Zd}{s:Seg}(hi:nth E i=some s)(hs:Jq b a s){e:AEv}(hb:Zz e=0)(hc:e.kind=12)(ev:pc w0 E i e){k0:Nat}(inv:Yj k0 a)(hk0:k0≤9000)(hn:a.sh.n<99){k:Sl→PT}(hk:HkI w0 E i b (k0+2) (ZA a e) k) :
  L.call Pr zx [pO b,evV e] (.one (.one .slice)) k w:=by
 have ok:=hs.ok;have rd':RdE w0 E eT e.v e.r.ts:=λw h=>ev.rd w (h.del i hi);have i2:Yj (k0+2) (ZA a e).1:=by rw[Pa hb hc];exact(aI inv e).mono (Nat.le_succ _)
 have hkk:Hk w0 E i b (ZA a e) k:=λv sv s' w' r hs' h=>hk v sv s' w' r hs' i2 h;clear hk;have hlast:=inv.fl.last;have hlen:=inv.fl.few.l;have hroom:=inv.fl.few.r;unfold jy at hroom;have hall:=inv.gt.all;have hlines:=inv.gt.lines;have hgr:=inv.gt.room;have hpat:=inv.gt.pat;have hnow:=inv.now;have hbl:=inv.bk.len;have hr1:=inv.fl.r1;have rn:=ev.hn;rw[Pa hb hc]at hkk;have hnm:=(Bu hb (.inl hc)).size;refine oA h i hi hs hb rn rd' ev.hvc ev.hrv (f:=Yl) (by rw[hc];rfl) GB (GG (some ⟨b,0,none⟩) e.t) (λh hi _ hk=>RY h _ hi hs (by omega) (λhh=>inv.by'.has _ (Qk hh)) (λx hx=>?_) (λhh=>?_) ?_ hk) hkk
 ·have hm:=jB hx;have hw:=inv.by'.want _ hm;refine⟨⟨⟨hw.1.1,by have:=hw.1.2;dsimp only at this;omega⟩,hw.2,inv.by'.rng _ hm,by have:=inv.by'.xs _ hm;dsimp only at this;omega⟩,?_⟩;by_cases hh:jt a.bk e.name=true
  ·have:=(WW inv hh hw.2).1;dsimp only at this;omega
  ·have e1:qF a.bk e.name=Gw:=by
    unfold jt at hh;unfold qF
    cases hg:zA a.bk.all e.name with
    | none=>rfl
    | some v=>rw[hg]at hh;exact absurd rfl hh
   have e2:(qF a.bk e.name).2.2.2.2.2.1=(0:Int)∧(qF a.bk e.name).2.2.2.2.2.2.1=(0:Int):=by rw[e1];exact⟨rfl,rfl⟩
   unfold cU No Nn;rw[e2.1,e2.2];generalize mx2 (mn2 _ _) _=y;unfold mn2 mx2;constructor<;>repeat' split
   all_goals omega
 ·have hc2:=(qY (inv.bk.cfg _ (Qk hh))).2.2.1;exact⟨Int.le_trans (by decide) hc2.1,Int.le_trans hc2.2 (by decide)⟩
 ·unfold qc;rw[List.length_map];have:(revs a.fl.l e.name).length≤a.fl.l.length:=List.length_filter_le ..;omega
def Es [YB w0](h:St w0 E w)(i:Nat){b:Nat}{a:Zd}{s:Seg}(hi:nth E i=some s)(hs:Jq b a s){e:AEv}(hb:Zz e=0)(hc:e.kind=13)(ev:pc w0 E i e){k0:Nat}(inv:Yj k0 a)(hk0:k0≤9000)(hn:a.sh.n<99){k:Sl→PT}(hk:HkI w0 E i b (k0+2) (ZA a e) k) :
  L.call Pr zx [pO b,evV e] (.one (.one .slice)) k w:=by
 have ok:=hs.ok;have rd':RdE w0 E eT e.v e.r.ts:=λw h=>ev.rd w (h.del i hi);have i2:Yj (k0+2) (ZA a e).1:=by rw[pZ hb hc];exact(Sv inv e).mono (Nat.le_succ _)
 have hkk:Hk w0 E i b (ZA a e) k:=λv sv s' w' r hs' h=>hk v sv s' w' r hs' i2 h;clear hk;have hlast:=inv.fl.last;have hlen:=inv.fl.few.l;have hroom:=inv.fl.few.r;unfold jy at hroom;have hall:=inv.gt.all;have hlines:=inv.gt.lines;have hgr:=inv.gt.room;have hpat:=inv.gt.pat;have hnow:=inv.now;have hbl:=inv.bk.len;have hr1:=inv.fl.r1;have rn:=ev.hn;rw[pZ hb hc]at hkk;have hnm:=Bu hb (.inr hc);by_cases hh:jt a.bk e.name=true
 ·have hc2:=(qY (inv.bk.cfg _ (Qk hh))).2.2.1;have hcc:UZ a e.name≤1000:=Int.le_trans hc2.2 (by decide);have hsc:=inv.fl.scale hnm hcc (jX a e.name);have hgl:=hsc.few.l;have hgr2:(xn a.fl e.name (UZ a e.name) (jX a e.name)).1.room=a.fl.room:=rY ..;have hgo:=dc ok.fl (rev:=e.name) (conc:=UZ a e.name) (want:=jX a e.name) (by omega) (by omega) (by omega);refine Eo h i hi hs hc hnm hb rd' ev.hvc ev.hrv (by omega) (by omega) (by have:=hnm.size;omega) (λx hx=>?_) ?_ (λx hx=>?_) ?_ ?_ hkk
  ·unfold ov at hx;obtain⟨j,hj,rfl⟩:=List.mem_map.1 hx;rw[List.mem_range]at hj;have:=fJ a.fl e.name (jX a e.name);have:=ok.fl.lo;omega
  ·unfold ov;rw[List.length_map,List.length_range];have:=fJ a.fl e.name (jX a e.name);omega
  ·have:=hgo.1 x hx;omega
  ·have:=hgo.2;omega
  ·unfold qc;rw[List.length_map];have:(revs (lI a e.name).l e.name).length≤(lI a e.name).l.length:=List.length_filter_le ..;unfold lI at this ⊢;omega
 ·exact oA h i hi hs hb rn rd' ev.hvc ev.hrv (f:=yS) (by rw[hc];rfl) Vg (Vi (some ⟨b,0,none⟩) e.t) (λh hi _ hk=>bi h _ hi hs (by simpa using hh) hk) hkk
class Kn(w0:World)(ks:Int→Bool):Prop where
 dos:∀{E:List Seg}{w:World},St w0 E w→∀(i:Nat){b:Nat}{a:Zd}{s:Seg},nth E i=some s→Jq b a s→∀{e:AEv},ks e.kind=true→Zz e=0→pc w0 E i e→∀{k0:Nat},Yj k0 a→k0≤9000→a.sh.n<99→∀{k:Sl→PT},HkI w0 E i b (k0+2) (ZA a e) k→
  L.call Pr zx [pO b,evV e] (.one (.one .slice)) k w
def z2v{ks:Int→Bool}[K:Kn w0 ks](h:St w0 E w)(i:Nat){b:Nat}{a:Zd}{s:Seg}(hi:nth E i=some s)(hs:Jq b a s){e:AEv}(hks:ks e.kind=true)(hb:Zz e=0)(ev:pc w0 E i e){k0:Nat}(inv:Yj k0 a)(hk0:k0≤9000)(hn:a.sh.n<99){k:Sl→PT}(hk:HkI w0 E i b (k0+2) (ZA a e) k) :
  L.call Pr zx [pO b,evV e] (.one (.one .slice)) k w:=K.dos h i hi hs hks hb ev inv hk0 hn hk
end Go.Proofs.YtimahgbgejngiaaGreatDoor
namespace Go.Proofs.YtimahgbgejngiaaGreatDoor
open Go.Dm
def cW(k:Int):Cfg:=(WY,k,1,0,1,0,())
structure GI(a:Zd)(ver gen:Nat)(last:Int):Prop where
 n:a.sh.n=ver
 sh:(ver=0∧gen=0∧last = -1∧(jK a.sh.m WY).is=false∧(jK a.sh.m WY).gen=0)∨(0<ver∧0≤last∧0<gen∧jK a.sh.m WY=WR (cW last) ver gen true)
 gl:gen≤ver
 bk:∀g,1≤g→g<100→(jt a.bk (qm WY g)=true↔g≤gen)
 len:a.bk.all.length=gen
end Go.Proofs.YtimahgbgejngiaaGreatDoor
namespace Go.Proofs.YtimahgbgejngiaaGreatDoor
open Go.Dm
attribute [local irreducible] L.load L.store L.chk L.new L.nonnil L.guard L.ite L.draw L.idx L.sem L.semR L.semU L.chkSem L.next L.call L.callV L.join L.alts L.loop L.begin L.endRound L.range
variable {w0 w:World}{E:List Seg}
def eEv(e:AEv):List Value:=[I e.kind,.string e.name,.string e.tag,I e.n,I e.draw,.string e.c.1,I e.c.2.1,I e.c.2.2.1,I e.c.2.2.2.1,I e.c.2.2.2.2.1,I e.c.2.2.2.2.2.1,.string e.r.name,.string e.r.cfg,.slice e.v.a e.v.len e.v.cap,I e.r.roll]
def AJ(a:Yu)(kind:Int)(n:B0)(v:Int):(Uf a kind n v).1.n≤a.n+1:=by
 unfold Uf
 repeat' split
 all_goals dsimp only;omega
def EO(a:Zd)(e:AEv):(ZA a e).1.sh.n≤a.sh.n+1:=by
 by_cases hb:Zz e=0
 ·rcases MO hb with hc | hc | hc | hc | hc | hc | hc | hc | hc | hc | hc | hc | hc
  ·rw[CE hb hc];unfold US kO;repeat' split
   all_goals dsimp only;omega
  ·rw[CD hb hc];unfold kN QY;repeat' split
   all_goals dsimp only;omega
  ·rw[CC hb hc];unfold ob;have:=AJ a.sh e.n e.name e.draw;split<;>exact this
  ·rw[CB hb hc];unfold qX;split<;>(dsimp only;omega)
  ·rw[CA hb hc];unfold VY;dsimp only;omega
  ·rw[Cz hb hc];unfold pY;split<;>(dsimp only;omega)
  ·rw[oc hb (.inl hc)];unfold vD;split<;>(dsimp only;omega)
  ·rw[oc hb (.inr hc)];unfold vD;split<;>(dsimp only;omega)
  ·rw[Cy hb hc];unfold VW;split<;>(dsimp only;omega)
  ·rw[Pc hb hc];unfold Uc;repeat' split
   all_goals dsimp only;omega
  ·rw[Pb hb hc];unfold VX;repeat' split
   all_goals dsimp only;omega
  ·rw[Pa hb hc];unfold vM;repeat' split
   all_goals dsimp only;omega
  ·rw[pZ hb hc];unfold Ud;split<;>(dsimp only;omega)
 ·rw[Ni hb];dsimp only;omega
abbrev evW(x:EvT):Value:=.agg #[.int .i64 x.1,.string x.2.1,.string x.2.2.1,.int .i64 x.2.2.2.1,.int .i64 x.2.2.2.2.1,.string x.2.2.2.2.2.1,.int .i64 x.2.2.2.2.2.2.1,.int .i64 x.2.2.2.2.2.2.2.1,.int .i64 x.2.2.2.2.2.2.2.2.1,.int .i64 x.2.2.2.2.2.2.2.2.2.1,.int .i64 x.2.2.2.2.2.2.2.2.2.2.1,.string x.2.2.2.2.2.2.2.2.2.2.2.1,.string x.2.2.2.2.2.2.2.2.2.2.2.2.1,.slice x.2.2.2.2.2.2.2.2.2.2.2.2.2.1.a x.2.2.2.2.2.2.2.2.2.2.2.2.2.1.len x.2.2.2.2.2.2.2.2.2.2.2.2.2.1.cap,.int .i64 x.2.2.2.2.2.2.2.2.2.2.2.2.2.2.1]
abbrev IU:List Lf:=[.int .i64,.str,.str,.int .i64,.int .i64,.str,.int .i64,.int .i64,.int .i64,.int .i64,.int .i64,.str,.str,.slice,.int .i64]
end Go.Proofs.YtimahgbgejngiaaGreatDoor
namespace Go.Dm
section
variable {P:Program}{D:Tb}{a:AT}{c:Act}{w:World}{Q:Exit→Act→World→Prop}{ro:Option Nat}
def Pk(T:Xq P D){K:AT→PT}{N id:Nat}{sm:Bool}{ops:Array Oper}{ds:List Deferred}(hin:inB N (.region id ops false)=true)(h:vm P D ops.toList ⟨yC ops.toList,sm⟩ (je 0 ops.toList) a K w)
  (hok:ok a c) (hN:c.tmps.size=N) (hds:c.defers=ds)
  (hQ:∀a' c' w',K a' w'→ok a' c'→c'.tmps.size=N→c'.defers=ds→Q .normal c' w'):(Code.region id ops false).wpIn (FR ro) 0 P Q c w:=by
 refine wpIn_region ?_
 have:=Th (ro:=ro) T (Q:=Q) (Fr:=λ_=>True) (λ_ _ _ _ _ _=>trivial) (λc w ⟨a,hk,ho,hn,hd⟩ _=>hQ a c w hk ho hn hd) (je 0 ops.toList) a c w trivial
  (λx hx=>by have:=(xK _ _ _ hx).2;rw[Nat.sub_zero,Array.getElem?_toList]at this;exact this)
  (λx hx=>by have:=(xK _ _ _ hx).2;rw[Nat.sub_zero,Array.getElem?_toList]at this;exact CJ hin _ _ this) h hok hN hds
 rw[Nw]at this;simpa using this
def ah(T:Xq P D){K0:AT→PT}{K:AT→FuncId→Array Value→Array Value→PT}{N id t:Nat}{mk df:Oper}{ct:Call}{ds:List Deferred}(hin:inB N (.region id #[mk,df] false)=true)
  (hdf:df.op = .defer ct) (hct:ct.callee = .value (.tmp t)) (hca:ct.args = #[]) (hdd:df.dst=none) (hg:df.guard=none) (hmg:mk.guard=none)
  (h:ze P D mk a K0 w) (hK:∀a' w',K0 a' w'→∃f fs cs,a'.get t=some (.v (.func (.func f) fs cs))∧K a' f fs cs w') (hmd:Dst mk c) (hok:ok a c) (hN:c.tmps.size=N) (hds:c.defers=ds)
  (hQ:∀a' c' w' f fs cs,K a' f fs cs w'→ok a' c'→c'.tmps.size=N→c'.defers = { target:=.fn (.func f) cs,args:=fs } :: ds→Q .normal c' w'):(Code.region id #[mk,df] false).wpIn (FR none) 0 P Q c w:=by
 refine wpIn_region ?_;have e2:List.range (#[mk,df]:Array Oper).size = [0,1]:=rfl;rw[e2];simp only[wpOpsIn];have w0:∀ys,Region.wanted mk ys=true:=λys=>by simp[Region.wanted,hmg]
 have w1:∀ys,Region.wanted df ys=true:=λys=>by simp[Region.wanted,hg]
 show(if Region.wanted mk _=true then _ else _);rw[if_pos (w0 _)];refine VU (dL h) ((PM T hok hmd h).mono λc1 w1' hn=>?_);obtain⟨a',hk0,ho,hs,hd⟩:=hn;obtain⟨f,fs,cs,hv,hk⟩:=hK _ _ hk0;show(if Region.wanted df _=true then _ else _);rw[if_pos (w1 _)];show Oper.wpIn (FR none) 0 P df c1 w1' (λx x_1=>Q Exit.normal x x_1) Q;refine⟨λ_ _=>trivial,?_⟩;have hvt:=ho t _ hv;have hsem:(df.semAt (FR none).round c1.eval).run P w1' = .ok (.defer { target:=.fn (.func f) cs,args:=fs }) w1':=by
  have hev:c1.eval (.tmp t) = .func (.func f) fs cs:=by
   show c1.tmps.getD t undef=_;rw[Array.getD_eq_getD_getElem?,hvt];rfl
  show(df.semAt none c1.eval).run P w1'=_;unfold Oper.semAt;simp only[execOp,hdf,resolve,hct,hca,Array.map_empty,hev,Deferred.ofValue,Array.append_empty];rfl
 rw[hsem];show Q .normal (Act.put { c1 with defers:={ target:=.fn (.func f) cs,args:=fs } :: c1.defers } df.dst undef) w1';rw[hdd];exact hQ a' _ w1' f fs cs hk (λt s h=>ho t s h) (hs.trans hN) (by show _::c1.defers=_;rw[hd,hds])
def SW(T:Xq P D){f:FuncId}{fn:Func}{an:Ann}{args:List SV}{K:Value→PT}{w:World}{u:FrameMode}{cd:Code}(hf:P.funcs[f]? = some fn)(hb:fn.body=some cd)(hr:ZW cd=false)(hin:okF args.length fn=true)(h:nl P D fn an args K w) :
  CallsDIn (FR none) 0 P f (jV args).toArray u w λe u' w'=>u'=u∧∃v,e = .returned v∧K v w':=by
 unfold okF at hin;unfold nl at h;rw[hb]at h hin;simp only[Bool.and_eq_true,Nat.ble_eq]at hin;dsimp only at h;refine callsDIn_of_wp hf hb trivial (wpIn_mono (SU T cd an none _ [] _ fn.ntmps w _ hin.1 h ?_ ?_ rfl) ?_)
 ·intro t s hs;obtain⟨_,h2⟩:=PO args 0 t s hs;rw[Nat.sub_zero]at h2;simp only;rw[Array.getElem?_append_left (by simpa using(List.getElem?_eq_some_iff.1 h2).1)];simpa using h2
 ·have:=pV args;simp;omega
 ·intro e c' w' hq;obtain⟨a',ds',hk,ho',hN',hd',-,h0⟩:=hq;have hd0:=h0 hr;rw[hd0]at hd';have hds:ds' = []:=by
   cases ds' with
   | nil=>rfl
   | cons d r=>simp[Vz]at hd'
  subst hds;have key:(L.unmark P [] (fN D a' fn.results.toList λvs=>K (tF vs)) w')→∃v,(results fn c'.tmps).run P w' = .ok v w'∧∃v2,Ending.returned v = .returned v2∧K v2 w':=λhk=>by
   obtain⟨vs,hr,hk⟩:=mh T ho' _ _ hk;refine⟨tF vs,?_,_,rfl,hk⟩;rw[Mz,←Ng,Sem.run_bind];have e:fn.results.mapM (ff c'.tmps)=(do let l ←fn.results.toList.mapM (ff c'.tmps);pure l.toArray):=by
    rw[Array.mapM_eq_mapM_toList];rfl
   rw[e,Sem.run_bind,hr];simp
  cases e with
  | normal=>exact⟨hd0,key hk⟩
  | ret=>exact⟨hd0,key hk⟩
  | _=>exact hk.elim
def PE{N:Nat}{x y:Code}(h:inB N (.seq x y)=true):inB N x=true∧inB N y=true:=by
 simpa only[inB,Bool.and_eq_true]using h
def SA{N:Nat}{v:Operand}{x y:Code}(h:inB N (.cond v x y)=true):inB N x=true∧inB N y=true:=by
 simpa only[inB,Bool.and_eq_true]using h
def Wc(s:Option SV):Option (FuncId×Value×Value):=match s with
 | some (.v (.func (.func g) fs cs))=>match fs.toList,cs.toList with
  | [],[x,y]=>some (g,x,y)
  | _,_=>none
 | _=>none
def LG{s:Option SV}{g:FuncId}{x y:Value}(h:Wc s=some (g,x,y)):s=some (.v (.func (.func g) #[] #[x,y])):=by
 unfold Wc at h;split at h
 ·rename_i g' fs cs;split at h
  ·rename_i h1 h2
   cases h
   obtain⟨fs⟩:=fs;obtain⟨cs⟩:=cs;simp only at h1 h2;subst h1 h2;rfl
  ·cases h
 ·cases h
def z2j(P:Program)(D:Tb)(r0 r1 r2:List Oper)(mk:Oper)(t:Nat)(r4:List Oper)(v:Operand)(r5:List Oper)(g:FuncId)(gn:Func)(gan:Ann)(a0:AT)(K:Value→PT):PT:=
 vm P D r0 ⟨yC r0,false⟩ (je 0 r0) a0 λa1=>
 vm P D r1 ⟨yC r1,false⟩ (je 0 r1) a1 λa2=>
 vm P D r2 ⟨yC r2,false⟩ (je 0 r2) a2 λa3=>
 ze P D mk a3 λa4=>match Wc (a4.get t) with
  | some (g',x,y)=>if g'=g then
    vm P D r4 ⟨yC r4,false⟩ (je 0 r4) a4 λa5=>match a5.ev v with
     | some (.v (.bool b))=>L.ite b (vm P D r5 ⟨yC r5,false⟩ (je 0 r5) a5 λ_=>nl P D gn gan [.v x,.v y] λ_=>K (.tuple #[])) (nl P D gn gan [.v x,.v y] λ_=>K (.tuple #[]))
     | _=>bad
   else bad
  | _=>bad
def Hu(T:Xq P D){f g:FuncId}{fn gn:Func}{gc:Code}{gan:Ann}{r0 r1 r2 r4 r5:Array Oper}{i0 i1 i2 i3 i4 i5 t:Nat}{mk df:Oper}{ct:Call}{v:Operand}{args:List SV}{K:Value→PT}(hf:P.funcs[f]? = some fn)
  (hb:fn.body=some (.seq (.region i0 r0 false) (.seq (.region i1 r1 false) (.seq (.region i2 r2 false) (.seq (.region i3 #[mk,df] false) (.seq (.region i4 r4 false) (.cond v (.region i5 r5 false) .skip))))))) (hres:fn.results = #[])
  (hdf:df.op = .defer ct) (hct:ct.callee = .value (.tmp t)) (hca:ct.args = #[]) (hdd:df.dst=none) (hdg:df.guard=none) (hmg:mk.guard=none) (hmt:mk.dst=some t)
  (hin:okF args.length fn=true) (hg:P.funcs[g]? = some gn) (hgb:gn.body=some gc) (hgr:ZW gc=false) (hgin:okF 2 gn=true) (hE:ZO P g)
  (h:z2j P D r0.toList r1.toList r2.toList mk t r4.toList v r5.toList g gn gan (we 0 args) K w):Calls P f (jV args).toArray w λe w'=>∃v,e = .returned v∧K v w':=by
 unfold okF at hin;rw[hb]at hin;simp only[Bool.and_eq_true,Nat.ble_eq]at hin;obtain⟨hin,hlen⟩:=hin;obtain⟨n0,hin⟩:=PE hin;obtain⟨n1,hin⟩:=PE hin;obtain⟨n2,hin⟩:=PE hin;obtain⟨n3,hin⟩:=PE hin;obtain⟨n4,hin⟩:=PE hin;obtain⟨n5,-⟩:=SA hin
 suffices h0:CallsIn (FR none) 0 P f (jV args).toArray w λe w'=>∃v,e = .returned v∧K v w' from callsIn_wide.1 h0
 refine callsIn_of_wp_marks hf hb trivial ?_;have hok0:ok (we 0 args) { tmps:=(jV args).toArray++Array.replicate (fn.ntmps-(jV args).toArray.size) undef,defers:=[] }:=by
  intro t s hs;obtain⟨_,h2⟩:=PO args 0 t s hs;rw[Nat.sub_zero]at h2;simp only;rw[Array.getElem?_append_left (by simpa using(List.getElem?_eq_some_iff.1 h2).1)];simpa using h2
 have hN0:((jV args).toArray++Array.replicate (fn.ntmps-(jV args).toArray.size) undef).size=fn.ntmps:=by
  have:=pV args;simp;omega
 unfold z2j at h;refine wpIn_seq (Pk T n0 h hok0 hN0 rfl λa1 c1 w1 h ok1 N1 d1=>?_);refine wpIn_seq (Pk T n1 h ok1 N1 d1 λa2 c2 w2 h ok2 N2 d2=>?_);refine wpIn_seq (Pk T n2 h ok2 N2 d2 λa3 c3 w3 h ok3 N3 d3=>?_);have hmd:Dst mk c3:=λt' ht=>by
  rw[N3];exact CJ n3 0 mk rfl t' ht
 refine wpIn_seq ?_
 refine ah (K:=λa4 f fs cs w4=>f=g∧∃x y,fs = #[]∧cs = #[x,y]∧(vm P D r4.toList ⟨yC r4.toList,false⟩ (je 0 r4.toList) a4 λa5=>match a5.ev v with
     | some (.v (.bool b))=>L.ite b (vm P D r5.toList ⟨yC r5.toList,false⟩ (je 0 r5.toList) a5 λ_=>nl P D gn gan [.v x,.v y] λ_=>K (.tuple #[])) (nl P D gn gan [.v x,.v y] λ_=>K (.tuple #[]))
     | _=>bad) w4) T n3 hdf hct hca hdd hdg hmg h (λa' w' h9=>?_) hmd ok3 N3 d3 λa4 c4 w4 f' fs cs h ok4 N4 d4=>?_
 ·cases hcp:Wc (a'.get t) with
  | none=>rw[hcp]at h9;exact h9.elim
  | some p=>
   obtain⟨g',x,y⟩:=p;rw[hcp]at h9;dsimp only at h9;have hv:=LG hcp;by_cases hgg:g'=g
   ·rw[if_pos hgg]at h9;subst hgg;exact⟨_,_,_,hv,rfl,x,y,rfl,rfl,h9⟩
   ·rw[if_neg hgg]at h9;exact h9.elim
 obtain⟨hfg,x,y,rfl,rfl,h⟩:=h;rw[hfg]at d4;clear hfg;refine wpIn_seq (Pk T n4 h ok4 N4 d4 λa5 c5 w5 h ok5 N5 d5=>?_)
 have fin:∀(c6:Act)(w6:World),c6.defers = [{ target:=.fn (.func g) #[x,y],args:=#[] }]→nl P D gn gan [.v x,.v y] (λ_=>K (.tuple #[])) w6→
   LeavesInM (FR none) 0 P fn c6.tmps (λe w'=>∃v,e = .returned v∧K v w') c6.defers .returning w6:=λc6 w6 d6 hk=>by
  rw[d6];refine⟨by simp,.inr ⟨λh=>by simp[FR]at h,.func g,#[x,y],g,#[x,y],rfl,?_,λ_ _=>trivial,?_⟩⟩
  ·simp[invoke,hE _ _]
  ·refine(SW (args:=[.v x,.v y]) T hg hgb hgr hgin hk).mono ?_;rintro e u' w' ⟨rfl,v,rfl,hk⟩;refine⟨.tuple #[],?_,_,rfl,hk⟩;rw[Mz,hres];simp
 (try dsimp only at h)
 cases hev:a5.ev v with
 | none=>rw[hev]at h;exact h.elim
 | some s=>
  rw[hev]at h;have he:=jz ok5 hev
  cases s with
  | v q=>
   cases q with
   | bool b=>
    refine wpIn_cond_split he (λhb=>?_) (λhb=>?_)
    ·exact Pk T n5 (h.1 hb) ok5 N5 d5 λa6 c6 w6 h ok6 N6 d6=>fin c6 w6 d6 h
    ·exact wpIn_skip (fin c5 w5 d5 (h.2 hb))
   | _=>exact h.elim
  | _=>exact h.elim
end
end Go.Dm
namespace Go.Proofs.YtimahgbgejngiaaGreatDoor
open Go.Dm
def bv(p0 p1:Option Addr)(p2:Sl)(K:Value→PT):PT:=
 L.new [.pointer p0] yV λb1=>
 L.call Pr oS [.slice p2.a p2.len p2.cap] (.tup [.agg IU,.one (.int .i64)]) λ(x2:EvT×Int×Unit)=>
 L.new [.int .i64 0,.string s_,.string s_,.int .i64 0,.int .i64 0,.string s_,.int .i64 0,.int .i64 0,.int .i64 0,.int .i64 0,.int .i64 0,.string s_,.string s_,.slice none 0 0,.int .i64 0] zP λb3=>
 L.store ⟨b3,0,none⟩ [.int .i64 x2.1.1,.string x2.1.2.1,.string x2.1.2.2.1,.int .i64 x2.1.2.2.2.1,.int .i64 x2.1.2.2.2.2.1,.string x2.1.2.2.2.2.2.1,.int .i64 x2.1.2.2.2.2.2.2.1,.int .i64 x2.1.2.2.2.2.2.2.2.1,.int .i64 x2.1.2.2.2.2.2.2.2.2.1,.int .i64 x2.1.2.2.2.2.2.2.2.2.2.1,.int .i64 x2.1.2.2.2.2.2.2.2.2.2.2.1,.string x2.1.2.2.2.2.2.2.2.2.2.2.2.1,.string x2.1.2.2.2.2.2.2.2.2.2.2.2.2.1,.slice x2.1.2.2.2.2.2.2.2.2.2.2.2.2.2.1.a x2.1.2.2.2.2.2.2.2.2.2.2.2.2.2.1.len x2.1.2.2.2.2.2.2.2.2.2.2.2.2.2.1.cap,.int .i64 x2.1.2.2.2.2.2.2.2.2.2.2.2.2.2.2.1]<|
 L.call Pr JZ [.int .i64 x2.2.1] (.one (.one .str)) λ(x4:B0)=>
 L.guard (((qt.size+x4.size:Nat):Int)≤XT)<|
 L.new [.string (qt++x4)] zc λb5=>
 L.new [.slice none 0 0] zm λb6=>
 L.store ⟨b6,0,none⟩ [.slice (some ⟨b5,0,none⟩) 1 1]<|
 L.ite (x2.2.1 == 0) (
  L.load (.agg IU) ⟨b3,0,none⟩ λ(x7:EvT)=>
  L.call Pr zx [.pointer p1,evW x7] (.one (.one .slice)) λ(x8:Sl)=>
  L.store ⟨b6,0,none⟩ [.slice x8.a x8.len x8.cap]<|
  xI ⟨b1,0,none⟩ ⟨b6,0,none⟩ λ_=>K (.tuple #[])) (
  xI ⟨b1,0,none⟩ ⟨b6,0,none⟩ λ_=>K (.tuple #[]))
def EZ(p0 p1:Option Addr)(p2:Sl){K:Value→PT}{w:World}(h:bv p0 p1 p2 K w):Calls Pr Up [.pointer p0,.pointer p1,.slice p2.a p2.len p2.cap].toArray w λe w2=>∃v,e = .returned v∧K v w2:=
 Hu (args:=[.v (.pointer p0),.v (.pointer p1),.v (.slice p2.a p2.len p2.cap)]) (fn:=Tryz.f48) (gn:=Tryz.f122) (gan:=.auto) Tok (by kernel_rfl) rfl rfl rfl rfl rfl rfl rfl rfl rfl (by kernel_rfl) (by kernel_rfl) rfl (by kernel_rfl) (by kernel_rfl) mw
  ((congrFun (by kernel_rfl:_=bv p0 p1 p2 K) w).mpr h)
end Go.Proofs.YtimahgbgejngiaaGreatDoor
