/- What is proved on the way to a statement of the seat, pressed (text AK). No conditions beyond those its theorems state. -/
import Derived.Test.YtdcdhcgmeahfmaaGreatDoorDAJ
set_option linter.all false
namespace Go.Proofs.YtdcdhcgmeahfmaaGreatDoor
open Go.Dm
attribute [local irreducible] L.load L.store L.chk L.new L.nonnil L.guard L.ite L.draw L.idx L.sem L.semR L.semU L.chkSem L.next L.call L.callV L.join L.alts L.loop L.begin L.endRound L.range
variable {w0 w:World}{E:List Seg}
def upBk(a:ASys)(e:AEv):ABook:=if bkProved a.bk (fOf (fUpp a.fl e.n).1.l e.n)=true then a.bk else(bkProve a.bk (fOf (fUpp a.fl e.n).1.l e.n)).1
def upFirst(a:ASys)(e:AEv):List ByteArray:=
 if bkProved a.bk (fOf (fUpp a.fl e.n).1.l e.n)=true then [lineB s_up [decD e.n.toNat]]else [lineB s_up [decD e.n.toNat],lineB zeT [fOf (fUpp a.fl e.n).1.l e.n]]
abbrev upFlow(a:ASys)(e:AEv):AFleet×AGate×List Fate:=gFlow (fUpp a.fl e.n).1 a.gt (fOf (fUpp a.fl e.n).1.l e.n)
def sysUp(a:ASys)(e:AEv):ASys×List ByteArray:=
 if(fUpp a.fl e.n).2≠0 then({ a with fl:=(fUpp a.fl e.n).1 },refusedB (fUpp a.fl e.n).2)
 else({ a with fl:=(upFlow a e).1,gt:=(upFlow a e).2.1,bk:=upBk a e },upFirst a e++(upFlow a e).2.2.map fateB)
abbrev eEw (e : AEv) : List Value := [I e.kind, .string e.name, .string e.tag, I e.n, I e.draw, .string e.c.1, I e.c.2.1, I e.c.2.2.1, I e.c.2.2.2.1, I e.c.2.2.2.2.1, I e.c.2.2.2.2.2.1, .string e.r.name, .string e.r.cfg, SlV e.v, I e.r.roll]
theorem zr4 [bTab w0](h:St w0 E w)(i:Nat){b:Nat}{a:ASys}{s:Seg}(hi:nth E i=some s)(hs:SysS b a s){e:AEv}(he:0≤e.n∧e.n≤9000000000000000000)(hrv:(fOf (fUpp a.fl e.n).1.l e.n).size≤1000000)(hfew:FFew (fUpp a.fl e.n).1)(hn:a.gt.all.length<80000000)(hl:a.gt.lines.length<90000000)
  (hf:∀f∈(upFlow a e).2.2,f.Ok) (hfl:(upFlow a e).2.2.length<100000000) {k:Sl→PT} (hk:Hk w0 E i b (sysUp a e) k):z6e (some ⟨b,0,none⟩) e.t (slK k) w:=by
 obtain⟨p,sg,sf,ss,sk,sr,sm,Q,R,rfl⟩:=hs
 unfold z6e
 have h:=(h.front i hi).split8
 refine nw h ?_;clear h;(try clear w);intro b1 w h
 (dsimp only[setN,List.cons_append,List.nil_append]at h;refine dr h ?_;clear h;(try clear w);intro w h;refine nn ?_;refine ldC h ?_;refine ldC h ?_)
 unfold sysUp at hk
 refine zsK h 3 rfl R.fl fun sf' w hF h=>?_
 dsimp only[setN]at h
 refine it (fun hc=>?_) (fun hc=>?_)
 ·have hc:(fUpp a.fl e.n).2≠0:=by simpa using hc
  rw[if_pos hc]at hk
  refine z6d h fun v s w r h=>?_
  exact⟨v,rfl,hk v s _ w r ⟨p,sg,sf',ss,sk,sr,sm,Q,⟨R.gt,hF,R.sh,R.bk,R.ro,R.mp,R.ea,R.ab⟩,rfl⟩ (sysBack i hi (dl1_ h))⟩
 have hc:¬(fUpp a.fl e.n).2≠0:=by simpa using hc
 rw[if_neg hc]at hk
 unfold upBk upFirst upFlow at hk
 unfold upFlow at hf hfl
 generalize (fUpp a.fl e.n).1=F at *
 (refine dr h ?_;clear h;(try clear w);intro w h;refine nn ?_;refine ldC h ?_;refine ldC h ?_)
 refine ztl h 3 rfl hF ?_
 generalize fOf F.l e.n=rev at *
 (refine ldC h ?_)
 refine nw h ?_;clear h;(try clear w);intro b12 w h
 refine lineI1 h (by decide) he.1 he.2 fun w h=>?_
 have hsu:(lineB s_up [decD e.n.toNat]).size≤10000:=by rw[z9a];have:=zhG he.1 he.2;have:s_up.size=2:=rfl;omega
 refine nw h ?_;clear h;(try clear w);intro b14 w h
 refine z1h (fun(z:Sl×Unit) w=>∃(s1 sk':Seg),Rw eS z00 1 z.1 (if bkProved a.bk rev=true then [lineB s_up [decD e.n.toNat]]else [lineB s_up [decD e.n.toNat],lineB zeT [rev]]) s1∧BkS p.k (if bkProved a.bk rev=true then a.bk else(bkProve a.bk rev).1) sk'∧
  St w0 (s1::[Cl b1 z0c (eEw e)]::sysC b p a.now::sg::sf'::ss::sk'::sr::sm::(Q.map BsE.sg).flatten::delN E i) w) (fun k15 hk15=>?_) ?_
 ·(refine nn ?_;refine ldC h ?_)
  refine zgZ h 6 rfl R.bk fun w h=>?_
  cases hp:bkProved a.bk rev with
  | true=>
   rw[hp]at hk15
   refine itF rfl ?_
   exact hk15 (_,()) w ⟨_,sk,Rw.lit b14 [_] encS rfl rfl (by decide),R.bk,h⟩
  | false=>
   rw[hp]at hk15
   refine itT rfl ?_
   (refine nn ?_;refine ldC h ?_)
   refine zon h 6 rfl R.bk fun sk' w hK h=>?_
   dsimp only[setN]at h
   refine nw h ?_;clear h;(try clear w);intro b23 w h
   refine lineS1 h (by decide) (by omega) fun w h=>?_
   refine nw h ?_;clear h;(try clear w);intro b25 w h
   refine Rw.app encS elS h 0 rfl (Rw.lit b14 [lineB s_up [decD e.n.toNat]] encS rfl rfl (by simp[maxLen])) (lineB zeT [rev]) rfl (by simp) (by simp) fun v' s' w hr' h=>?_
   exact hk15 (_,()) w ⟨s',sk',hr',hK,h⟩
 ·clear h;(try clear w)
  rintro⟨vo,⟨⟩⟩ w ⟨s1,sk',r1,hK,h⟩
  (refine nn ?_;refine ldC h ?_)
  have h:=fr4_ (fr4_ h)
  refine zkt h R.gt hF hfew (by omega) hl fun v sv sg' sf'' w hr hG hF h=>?_
  have h:=fr3_ h
  refine zlv h (v2:=vo) hr hf hfl (by split<;>simp) r1 fun v s w r h=>?_
  refine⟨v,rfl,hk v s _ w r ⟨p,sg',sf'',ss,sk',sr,sm,Q,⟨hG,hF,R.sh,hK,R.ro,R.mp,R.ea,R.ab⟩,rfl⟩ ?_⟩
  have h:=dl1_ (dl4_ h)
  have h:=fr3_ (fr3_ (fr2_ (fr2_ h)))
  exact sysBack i hi h
abbrev wantOf(c:Cfg):Int:=if 1 > @id Int c.2.2.2.1 then 1 else @id Int c.2.2.2.1
abbrev stp(a:ASys)(n:ByteArray):ABook×ByteArray×Bool:=bkStamp a.bk (shCfg a.sh n).1 (@id Int (shCfg a.sh n).2.2.1).toNat
def sysStamp(a:ASys)(e:AEv):ASys×List ByteArray:=
 if(shCfg a.sh e.name).2.2.2.1=false then(a,refusedB 6)else if @id Int (shCfg a.sh e.name).2.2.1>999999 then(a,refusedB 3)
 else if(stp a e.name).2.2=false then({ a with bk:=(stp a e.name).1 },[lineB zq1 [(stp a e.name).2.1]])
 else({ a with bk:=(stp a e.name).1,by':=mset a.by' (stp a e.name).2.1 ⟨[],wantOf (shCfg a.sh e.name).1,0⟩ },[lineB zb4 [(stp a e.name).2.1],lineB (lineB s_scale [(stp a e.name).2.1]) [decD (wantOf (shCfg a.sh e.name).1).toNat]])
theorem zqt(a:ABook)(c:Cfg)(g:Nat):(bkStamp a c g).2.1=revB c.1 g:=by unfold bkStamp;split<;>rfl
theorem zmo [bTab w0](h:St w0 E w)(i:Nat){b:Nat}{a:ASys}{s:Seg}(hi:nth E i=some s)(hs:SysS b a s){e:AEv}
  (hst:(shCfg a.sh e.name).2.2.2.1=true→shortB (shCfg a.sh e.name).1.1.data.toList 16=true∧1≤@id Int (shCfg a.sh e.name).2.2.1∧@id Int (shCfg a.sh e.name).2.2.1<100∧@id Int (shCfg a.sh e.name).1.2.2.2.1≤1000000) (hf:a.bk.all.length<999999)
  {k:Sl→PT} (hk:Hk w0 E i b (sysStamp a e) k):z4H (some ⟨b,0,none⟩) e.t (slK k) w:=by
 have hs0:=hs
 obtain⟨p,sg,sf,ss,sk,sr,sm,Q,R,rfl⟩:=hs
 unfold z4H
 unfold sysStamp stp at hk
 have h:=(h.front i hi).split8
 refine nw h ?_;clear h;(try clear w);intro b1 w h
 refine z1h (fun(z:Addr×Int×Bool×Unit) w=>∃b8:Nat,z=(⟨b8,0,none⟩,(shCfg a.sh e.name).2.2.1,(shCfg a.sh e.name).2.2.2.1,())∧
  St w0 ([Cl b8 z0t (Cfg.cells (shCfg a.sh e.name).1)]::sysC b p a.now::sg::sf::ss::sk::sr::sm::(Q.map BsE.sg).flatten::delN E i) w) (fun k2 hk2=>?_) ?_
 ·(dsimp only[setN,List.cons_append,List.nil_append]at h;refine dr h ?_;clear h;(try clear w);intro w h;refine nn ?_;refine ldC h ?_;refine ldC h ?_)
  refine alts2 ?_ ?_
  ·refine zgX h 4 rfl R.sh fun w h=>?_
   refine nw h ?_;clear h;(try clear w);intro b8 w h
   (refine ckC h ?_;refine ckC h ?_;refine stC h ?_;clear h;(try clear w);intro w h;dsimp only[putN,setN]at h)
   exact hk2 _ w ⟨b8,rfl,dl1_ h⟩
  ·refine nw h ?_;clear h;(try clear w);intro b8 w h
   (refine ckC h ?_;refine ckC h ?_)
   refine zgX h 5 rfl R.sh fun w h=>?_
   (refine stC h ?_;clear h;(try clear w);intro w h;dsimp only[putN,setN]at h)
   exact hk2 _ w ⟨b8,rfl,dl1_ h⟩
 clear h;(try clear w)
 rintro z w ⟨b8,rfl,h⟩
 (try dsimp only)
 refine it (fun hc=>?_) (fun hc=>?_)
 ·have hc:(shCfg a.sh e.name).2.2.2.1=false:=by simpa using hc
  rw[if_pos hc]at hk
  refine z6d h fun v s w r h=>?_
  exact⟨v,rfl,hk v s _ w r hs0 (sysBack i hi (dl1_ h))⟩
 have hc:(shCfg a.sh e.name).2.2.2.1=true:=by simpa using hc
 rw[if_neg (by simp[hc])]at hk
 obtain⟨st1,st2,st3,st4⟩:=hst hc
 have hmin:0≤wantOf (shCfg a.sh e.name).1∧wantOf (shCfg a.sh e.name).1≤1000000:=by
  unfold wantOf
  split<;>omega
 unfold wantOf at hk hmin
 generalize shCfg a.sh e.name=z at *
 obtain⟨c,ver,gen,is,⟨⟩⟩:=z
 dsimp only at hk hc hmin h st1 ⊢
 simp only[id]at st2 st3 st4
 refine it (fun h2=>?_) (fun h2=>?_)
 ·exact absurd (of_decide_eq_true h2) (by simp only[Int.not_lt,gt_iff_lt];omega)
 have hng:¬@id Int gen>999999:=by simp only[id];omega
 rw[if_neg hng]at hk
 (refine dr h ?_;clear h;(try clear w);intro w h;refine nn ?_;refine ldC h ?_;refine laC h ?_)
 obtain⟨g,rfl⟩:∃g:Nat,gen=(g:Int):=⟨@Int.toNat gen,by omega⟩
 have hg1:1≤g:=by have:(1:Int)≤(g:Int):=st2
                  omega
 have hg2:g<100:=by have:(g:Int)<100:=st3
                    omega
 simp only[id,Int.toNat_natCast]at hk hmin
 refine zom (c:=c) h 5 rfl R.bk st1 hg1 hg2 hf fun sk' w hK h=>?_
 dsimp only[setN]at h
 have hrev:=zqt a.bk c g
 have hsz:(revB c.1 g).size≤1000000:=by have:=zb6 c.1 hg2;have:=z7G st1;omega
 rw[←hrev]at hsz
 clear hrev
 generalize (bkStamp a.bk c g).2.1=rev at *
 have hfr:∀x:Bool,(bkStamp a.bk c g).2.2=x→True:=fun _ _=>trivial
 generalize (bkStamp a.bk c g).2.2=fr at *
 generalize (bkStamp a.bk c g).1=K at *
 cases fr with
 | false=>
  rw[if_pos rfl]at hk
  refine itT rfl ?_
  refine nw h ?_;clear h;(try clear w);intro b17 w h
  refine lineS1 h (by decide) (by omega) fun w h=>?_
  refine nw h ?_;clear h;(try clear w);intro b19 w h
  exact⟨_,rfl,hk _ _ _ w (Rw.lit b19 [_] encS rfl rfl (by simp[maxLen])) ⟨p,sg,sf,ss,sk',sr,sm,Q,⟨R.gt,R.fl,R.sh,hK,R.ro,R.mp,R.ea,R.ab⟩,rfl⟩ (sysBack i hi (dl1_ h))⟩
 | true=>
  rw[if_neg (by decide)]at hk
  refine itF rfl ?_
  (refine ldC h ?_;refine dr h ?_;clear h;(try clear w);intro w h;refine nn ?_;refine ldC h ?_)
  refine zrp h fun bg sgg w hG h=>?_
  (refine ckC h ?_)
  refine nw h ?_;clear h;(try clear w);intro b24 w h
  (refine ckC h ?_)
  refine MpS.set mkStr zio h 9 rfl R.mp (some ⟨b24,0,none⟩) rfl fun sm' w hm' h=>?_
  dsimp only[setN]at h
  refine nw h ?_;clear h;(try clear w);intro b25 w h
  refine lineS1 h (by decide) (by omega) fun w h=>?_
  refine nw h ?_;clear h;(try clear w);intro b27 w h
  refine lineS1 h (by decide) (by omega) fun w h=>?_
  have hl:(lineB s_scale [rev]).size≤100000000:=by rw[z9a];have:s_scale.size=5:=rfl;omega
  refine nw h ?_;clear h;(try clear w);intro b29 w h
  refine lineI1 h hl hmin.1 (by omega) fun w h=>?_
  refine nw h ?_;clear h;(try clear w);intro b31 w h
  have h:St w0 ([Cl b31 z00 [.string (lineB zb4 [rev]),.string (lineB (lineB s_scale [rev]) [decD (if 1 > @id Int c.2.2.2.1 then 1 else @id Int c.2.2.2.1).toNat])]]::[Cl b24 z7V [.pointer (some ⟨bg,0,none⟩),I (if 1 > @id Int c.2.2.2.1 then 1 else @id Int c.2.2.2.1),I 0]]::sgg::[Cl b8 z0t (Cfg.cells c)]::sysC b p a.now::sg::sf::ss::sk'::sr::sm'::(Q.map BsE.sg).flatten::delN E i) w:=h
  have h:=dl3_ h
  have h:=fr2_ (fr2_ h)
  have h:=h.glue
  have h:=fr1_ (fr9_ h)
  have h:St w0 (BsE.sg ⟨rev,b24,bg,⟨[],(if 1 > @id Int c.2.2.2.1 then 1 else @id Int c.2.2.2.1),0⟩,sgg⟩::(Q.map BsE.sg).flatten::[Cl b31 z00 [.string (lineB zb4 [rev]),.string (lineB (lineB s_scale [rev]) [decD (if 1 > @id Int c.2.2.2.1 then 1 else @id Int c.2.2.2.1).toNat])]]::sysC b p a.now::sg::sf::ss::sk'::sr::sm'::delN E i) w:=h
  have h:=St.lput (key:=BsE.k) h
  have h:=fr8_ (fr8_ (fr8_ (fr8_ (fr8_ (fr8_ (fr8_ (fr8_ h)))))))
  have e5:=z9E (key:=BsE.k) (fun x:BsE=>(some ⟨x.b,0,none⟩:Option Addr)) ⟨rev,b24,bg,⟨[],(if 1 > @id Int c.2.2.2.1 then 1 else @id Int c.2.2.2.1),0⟩,sgg⟩ Q
  have e6:=z9E (key:=BsE.k) BsE.x ⟨rev,b24,bg,⟨[],(if 1 > @id Int c.2.2.2.1 then 1 else @id Int c.2.2.2.1),0⟩,sgg⟩ Q
  refine⟨_,rfl,hk _ _ _ w (Rw.lit b31 [_,_] encS rfl rfl (by simp[maxLen])) ⟨p,sg,sf,ss,sk',sr,sm',_,⟨R.gt,R.fl,R.sh,hK,R.ro,by rw[←e5]at hm';exact hm',fun y hy=>?_,?_⟩,rfl⟩ (sysBack i hi h)⟩
  ·rcases zeV hy with rfl | hy
   ·exact hG
   ·exact R.ea y hy
  ·show mset a.by' _ _=_
   rw[R.ab];exact e6.symm
abbrev ldTab(a:ASys)(n:ByteArray):ATab×Int:=resolve a.bk (shRt a.sh n).1
abbrev ldNow(a:ASys)(n:ByteArray):ATab:=nowOf a.ro n (ldTab a n).1 a.now (shRt a.sh n).1.roll
def sysLead(a:ASys)(e:AEv):ASys×List ByteArray:=
 if(shRt a.sh e.name).2.2=false then(a,refusedB 6)else if(ldTab a e.name).2≠0 then(a,refusedB (ldTab a e.name).2)
 else({ a with ro:=roTurn a.ro e.name (ldTab a e.name).1 a.now (shRt a.sh e.name).1.roll },[lineB znc [e.name,tabText (ldNow a e.name)]])
structure TabB(t:ATab):Prop where
 sh:∀s∈t.sh,(0≤@id Int s.2.1∧@id Int s.2.1≤1000)∧s.1.size≤1000
 tg:∀s∈t.tg,s.1.size≤1000∧s.2.1.size≤1000
 txt:(tabText t).size≤100000000
theorem zo6 [bTab w0](h:St w0 E w)(i:Nat){b:Nat}{a:ASys}{s:Seg}(hi:nth E i=some s)(hs:SysS b a s){e:AEv}(hfew:a.sh.Few)(hname:e.name.size≤100000)(hp:∀t∈(shRt a.sh e.name).1.ts,0≤pct t∧pct t≤1000)(hl:(shRt a.sh e.name).1.ts.length≤1000)
  (hroll:(shRt a.sh e.name).1.roll≤1000000) (hok:∀x,mget a.ro e.name=some x→x.Ok) (hsi:∀x,mget a.ro e.name=some x→0≤x.since∧x.since<1000000000) (hnow:0≤a.now∧a.now<1000000000) (hwb:WBd (ldTab a e.name).1.sh) (hln:(ldNow a e.name).sh.length<100000) (htb:TabB (ldNow a e.name))
  {k:Sl→PT} (hk:Hk w0 E i b (sysLead a e) k):z5f (some ⟨b,0,none⟩) e.t (slK k) w:=by
 have hs0:=hs
 obtain⟨p,sg,sf,ss,sk,sr,sm,Q,R,rfl⟩:=hs
 unfold z5f
 unfold sysLead at hk
 have h:=(h.front i hi).split8
 refine nw h ?_;clear h;(try clear w);intro b1 w h
 refine z1h (fun(z:Addr×Bool×Unit) w=>∃(b8:Nat)(v:Sl)(sv:Seg),z=(⟨b8,0,none⟩,(shRt a.sh e.name).2.2,())∧Rw eT z08 3 v (shRt a.sh e.name).1.ts sv∧
  St w0 ([Cl b8 z0s [.string (shRt a.sh e.name).1.name,.string (shRt a.sh e.name).1.cfg,SlV v,I (shRt a.sh e.name).1.roll]]::sv::[Cl b1 z0c (eEw e)]::sysC b p a.now::sg::sf::ss::sk::sr::sm::(Q.map BsE.sg).flatten::delN E i) w) (fun k2 hk2=>?_) ?_
 ·(dsimp only[setN,List.cons_append,List.nil_append]at h;refine dr h ?_;clear h;(try clear w);intro w h;refine nn ?_;refine ldC h ?_;refine ldC h ?_)
  refine alts2 ?_ ?_
  ·refine zjn h 4 rfl R.sh hfew fun v sv w r h=>?_
   refine nw h ?_;clear h;(try clear w);intro b8 w h
   (refine ckC h ?_;refine ckC h ?_;refine stC h ?_;clear h;(try clear w);intro w h;dsimp only[putN,setN]at h)
   exact hk2 _ w ⟨b8,v,sv,rfl,r,h⟩
  ·refine nw h ?_;clear h;(try clear w);intro b8 w h
   (refine ckC h ?_;refine ckC h ?_)
   refine zjn h 5 rfl R.sh hfew fun v sv w r h=>?_
   (refine stC h ?_;clear h;(try clear w);intro w h;dsimp only[putN,setN]at h)
   have h:=fr1_ h
   exact hk2 _ w ⟨b8,v,sv,rfl,r,h⟩
 clear h;(try clear w)
 rintro z w ⟨b8,v,sv,rfl,rv,h⟩
 (try dsimp only)
 refine it (fun hc=>?_) (fun hc=>?_)
 ·have hc:(shRt a.sh e.name).2.2=false:=by simpa using hc
  rw[if_pos hc]at hk
  refine z6d h fun v s w r h=>?_
  exact⟨v,rfl,hk v s _ w r hs0 (sysBack i hi (dl1_ (dl1_ (dl1_ h))))⟩
 have hc:(shRt a.sh e.name).2.2=true:=by simpa using hc
 rw[if_neg (by simp[hc])]at hk
 unfold ldTab ldNow at *
 unfold ldTab at *
 generalize (shRt a.sh e.name).1=r at *
 refine z1h (fun(z:Addr×Int×Unit) w=>∃(b18:Nat)(q:HT [.slice,.slice])(sx:Seg),z=(⟨b18,0,none⟩,(resolve a.bk r).2,())∧(∀E',TabR w0 (sx::E') q (resolve a.bk r).1)∧
  St w0 (sx::[Cl b18 z02 [SlV q.1,SlV q.2.1]]::[Cl b8 z0s [.string r.name,.string r.cfg,SlV v,I r.roll]]::sv::[Cl b1 z0c (eEw e)]::sysC b p a.now::sg::sf::ss::sk::sr::sm::(Q.map BsE.sg).flatten::delN E i) w) (fun k12 hk12=>?_) ?_
 ·(refine dr h ?_;clear h;(try clear w);intro w h;refine laC h ?_;refine nn ?_;refine ldC h ?_)
  refine alts2 ?_ ?_
  ·refine zjv (r:=r) (v:=v) h 7 rfl R.bk (Rw.re encT 1 rfl rv) hl hp fun q sx w hq h=>?_
   refine nw h ?_;clear h;(try clear w);intro b18 w h
   (refine ckC h ?_;refine ckC h ?_;refine stC h ?_;clear h;(try clear w);intro w h;dsimp only[putN,setN]at h)
   have h:=fr1_ h
   exact hk12 _ w ⟨b18,q,sx,rfl,hq,h⟩
  ·refine nw h ?_;clear h;(try clear w);intro b18 w h
   (refine ckC h ?_;refine ckC h ?_)
   refine zjv (r:=r) (v:=v) h 8 rfl R.bk (Rw.re encT 2 rfl rv) hl hp fun q sx w hq h=>?_
   (refine stC h ?_;clear h;(try clear w);intro w h;dsimp only[putN,setN]at h)
   exact hk12 _ w ⟨b18,q,sx,rfl,hq,h⟩
 clear h;(try clear w)
 rintro z w ⟨b18,q,sx,rfl,hq,h⟩
 (try dsimp only)
 refine it (fun h2=>?_) (fun h2=>?_)
 ·have h2:(resolve a.bk r).2≠0:=by simpa using h2
  rw[if_pos h2]at hk
  refine z6d h fun v s w r h=>?_
  exact⟨v,rfl,hk v s _ w r hs0 (sysBack i hi (dl1_ (dl1_ (dl1_ (dl1_ (dl1_ h))))))⟩
 have h2:¬(resolve a.bk r).2≠0:=by simpa using h2
 rw[if_neg h2]at hk
 (refine dr h ?_;clear h;(try clear w);intro w h;refine ldC h ?_;refine nn ?_;refine ldC h ?_;refine ldC h ?_;refine laC h ?_;refine nn ?_;refine ldC h ?_;refine ldC h ?_)
 refine zpF (p:=q) (t:=(resolve a.bk r).1) h 10 rfl R.ro (hq _) hok hwb hnow hsi hroll hln fun q2 sy sr' w hR hq2 h=>?_
 dsimp only[setN]at h
 (refine ckC h ?_)
 refine zsR (p:=q2) h (hq2 _) htb.sh htb.tg fun w h=>?_
 (refine ckC h ?_)
 refine nw h ?_;clear h;(try clear w);intro b32 w h
 refine lineS2 h (by decide) (by omega) htb.txt fun w h=>?_
 refine nw h ?_;clear h;(try clear w);intro b34 w h
 refine⟨_,rfl,hk _ _ _ w (Rw.lit b34 [_] encS rfl rfl (by simp[maxLen])) ⟨p,sg,sf,ss,sk,sr',sm,Q,⟨R.gt,R.fl,R.sh,R.bk,hR,R.mp,R.ea,R.ab⟩,rfl⟩ (sysBack i hi ?_)⟩
 exact dl1_ (dl1_ (dl1_ (dl1_ (dl1_ (dl1_ h)))))
theorem zhJ{rev:ByteArray}{y:ABes}{sgg:Seg}{x:BsE}(hk:x.k=rev){B:List BsE}:∀{A:List BsE},((A++x::B).map BsE.k).Nodup→(A++⟨x.k,x.b,x.g,y,sgg⟩::B).map BsE.ka=mset ((A++x::B).map BsE.ka) rev y
 | [],_=>by
  subst hk
  simp[mset]
 | a::A,hn=>by
  have hn2:=hn
  rw[List.cons_append,List.map_cons,List.nodup_cons]at hn2
  have hne:¬a.k=rev:=fun e=>hn2.1 (by rw[e,←hk];simp)
  have ih:=zhJ hk (A:=A) (y:=y) (sgg:=sgg) hn2.2
  rw[List.cons_append,List.map_cons,List.cons_append,List.map_cons,ih]
  simp only[mset]
  rw[if_neg hne]
def bnd(a:ASys)(e:AEv):ByteArray:=if(mget a.ro e.name).isSome=false then s_ else if e.tag=s_ then tPick (roTab a.ro e.name) e.draw else(tagL (roTab a.ro e.name).tg e.tag).1
theorem zry(h:St w0 E w)(i:Nat){b:Nat}{a:ASys}{s:Seg}(hi:nth E i=some s)(hs:SysS b a s){e:AEv}(hd:0≤e.draw∧e.draw<4611686018427387904)(hok:∀x,mget a.ro e.name=some x→x.Ok)(hwb:WBd (roTab a.ro e.name).sh){k:ByteArray→PT}
  (hk:∀w',St w0 E w'→k (bnd a e) w'):L.call Pr z4B [.pointer (some ⟨b,0,none⟩),evV e] (.one (.one .str)) k w:=by
 obtain⟨p,sg,sf,ss,sk,sr,sm,Q,R,rfl⟩:=hs
 refine z01 (zaT _ e.t) ?_
 unfold z6P
 unfold bnd at hk
 have h:=(h.front i hi).split8
 refine nw h ?_;clear h;(try clear w);intro b1 w h
 (dsimp only[setN,List.cons_append,List.nil_append]at h;refine ldC h ?_)
 refine z01 (zaU _ _) ?_
 unfold z6Q
 refine nw h ?_;clear h;(try clear w);intro b2 w h
 (refine nn ?_;refine ldC h ?_)
 refine zoc h 7 rfl R.ro hok fun q sx w hq h=>?_
 (refine stC h ?_;clear h;(try clear w);intro w h;dsimp only[putN,setN]at h;refine laC h ?_)
 refine⟨(q,(mget a.ro e.name).isSome,()),rfl,?_⟩
 have fin:∀{w x},(∀w',St w0 E w'→k x w')→St w0 (sx::[Cl b2 z02 [SlV q.1,SlV q.2.1]]::[Cl b1 z0c (eEw e)]::sysC b p a.now::sg::sf::ss::sk::sr::sm::(Q.map BsE.sg).flatten::delN E i) w→k x w:=by
  intro w x hk h
  exact hk w (St.again i hi (dl0_ (dl0_ (dl0_ h))).glue8)
 refine nw h ?_;clear h;(try clear w);intro b4 w h
 (refine stC h ?_;clear h;(try clear w);intro w h;dsimp only[putN,setN]at h)
 refine it (fun hc=>?_) (fun hc=>?_)
 ·have hc:(mget a.ro e.name).isSome=false:=by simpa using hc
  rw[if_pos hc]at hk
  exact⟨_,rfl,fin hk (dl0_ h)⟩
 have hc:¬(mget a.ro e.name).isSome=false:=fun e2=>by
  dsimp only at hc
  rw[e2]at hc
  exact absurd hc (by decide)
 rw[if_neg hc]at hk
 (refine ldC h ?_)
 rw[z3Z]
 refine it (fun h2=>?_) (fun h2=>?_)<;>(try simp only[zB]at h2)
 ·rw[if_pos h2]at hk
  (refine laC h ?_;refine ldC h ?_)
  exact zsV (p:=q) h (t:=roTab a.ro e.name) (by
   have:=hq ([Cl b2 z02 [SlV q.1,SlV q.2.1]]::[Cl b1 z0c (eEw e)]::sysC b p a.now::sg::sf::ss::sk::sr::sm::(Q.map BsE.sg).flatten::delN E i)
   exact this.there) hwb hd.1 hd.2 fun w h=>⟨_,rfl,fin hk (dl0_ h)⟩
 ·rw[if_neg h2]at hk
  (refine laC h ?_;refine ldC h ?_)
  exact zrC (p:=q) h (t:=roTab a.ro e.name) (by
   have:=hq ([Cl b2 z02 [SlV q.1,SlV q.2.1]]::[Cl b1 z0c (eEw e)]::sysC b p a.now::sg::sf::ss::sk::sr::sm::(Q.map BsE.sg).flatten::delN E i)
   exact this.there) fun w h=>⟨_,rfl,fin hk (dl0_ h)⟩
abbrev arG(a:ASys)(e:AEv):AFleet×AGate×Fate:=gArr a.fl a.gt e.n (bnd a e) a.now
def pokes(a:ASys)(e:AEv):Option ABes:=match mget a.by' (bnd a e) with
 | some x=>if(arG a e).2.2.2.1=2∧x.want=0 then some x else none
 | none=>none
def sysArrive(a:ASys)(e:AEv):ASys×List ByteArray:=match pokes a e with
 | some x=>({ a with fl:=(arG a e).1,gt:=(arG a e).2.1,by':=mset a.by' (bnd a e) ⟨x.xs,1,x.left⟩ },[fateB (arG a e).2.2,lineB (lineB s_scale [bnd a e]) [decD 1]])
 | none=>({ a with fl:=(arG a e).1,gt:=(arG a e).2.1 },[fateB (arG a e).2.2])
theorem zptr(w:World):(zeroValue z4X).run Pr w = .ok ((E1.one .ptr).val (none:Option Addr)) w:=by
 have h:(Pr.info? z4X).map (·.zero)=some (some (.pointer none)):=by kernel_rfl
 cases hi:Pr.info? z4X with
 | none=>rw[hi]at h;cases h
 | some i=>rw[hi]at h;simp only[Option.map_some,Option.some.injEq]at h;exact zv hi h w
theorem zgU{Q:List BsE}{rev:ByteArray}:mget (Q.map BsE.kp) rev=(lfind BsE.k Q rev).map fun x=>some ⟨x.b,0,none⟩:=z69 (key:=BsE.k) (fun x:BsE=>(some ⟨x.b,0,none⟩:Option Addr)) rev Q
theorem zgV{Q:List BsE}{rev:ByteArray}:mget (Q.map BsE.ka) rev=(lfind BsE.k Q rev).map BsE.x:=z69 (key:=BsE.k) BsE.x rev Q
theorem zkr [bTab w0](h:St w0 E w)(i:Nat){b:Nat}{a:ASys}{s:Seg}(hi:nth E i=some s)(hs:SysS b a s){e:AEv}(hd:0≤e.draw∧e.draw<4611686018427387904)(hok:∀x,mget a.ro e.name=some x→x.Ok)(hwb:WBd (roTab a.ro e.name).sh)
  (hfew:FFew a.fl) (hn:a.gt.all.length<80000000) (hl:a.gt.lines.length<90000000) (hnow: -1000000000000<a.now+a.gt.pat∧a.now+a.gt.pat<1000000000000) (hf:(arG a e).2.2.Ok) (hrv:(bnd a e).size≤1000000)
  {k:Sl→PT} (hk:Hk w0 E i b (sysArrive a e) k):z4j (some ⟨b,0,none⟩) e.t (slK k) w:=by
 have hs0:=hs
 obtain⟨p,sg,sf,ss,sk,sr,sm,Q,R,rfl⟩:=hs
 unfold z4j
 refine nw h ?_;clear h;(try clear w);intro b1 w h
 (dsimp only[setN,List.cons_append,List.nil_append]at h;refine laC h ?_)
 refine zry (e:=e) h (i+1) hi hs0 hd hok hwb fun w h=>?_
 unfold sysArrive pokes arG at hk
 unfold arG at hf
 generalize bnd a e=rev at *
 have h:=(h.front (i+1) hi).split8
 have h:St w0 (sysC b p a.now::sg::sf::ss::sk::sr::sm::(Q.map BsE.sg).flatten::[Cl b1 z0c (eEw e)]::delN E i) w:=h
 (refine dr h ?_;clear h;(try clear w);intro w h;refine nn ?_;refine ldC h ?_;refine ldC h ?_;refine nn ?_;refine ldC h ?_)
 have h:=fr2_ (fr2_ h)
 refine zsI h R.gt R.fl hfew (by omega) hl hnow fun v sv sg' sf' w hr hG hF h=>?_
 generalize gArr a.fl a.gt e.n rev a.now=g at *
 have hone:∀f∈[g.2.2],f.Ok:=fun f hff=>by rw[List.mem_singleton.1 hff];exact hf
 have hlen:=Rw.len encF hr
 refine zlv h.nil (l:=[]) hr hone (by simp) (by decide) Rw.nil fun v2 s2 w r2 h=>?_
 simp only[List.nil_append,List.map_cons,List.map_nil]at r2
 (refine nn ?_;refine ldC h ?_)
 refine z01 (z3u _ _) ?_
 unfold z2g
 refine MpS.get2 mkStr zio zptr (fun x:Option Addr=>x) (fun _=>rfl) h 8 rfl R.mp ?_
 rw[R.ab,zgV]at hk
 rw[zgU]
 have close:∀{w}{vo:Sl}{so sm':Seg}{Q':List BsE}{by'':List (ByteArray×ABes)}{out:List ByteArray},by''=Q'.map BsE.ka→MpS Value.string Value.pointer p.m (Q'.map BsE.kp) sm'→(∀x∈Q',x.ok)→Rw eS z00 1 vo out so→
   (∀v sv s' w',Rw eS z00 1 v out sv→SysS b { a with fl:=g.1,gt:=g.2.1,by':=by'' } s'→St w0 (sv::setN E i s') w'→k v w')→
   St w0 (so::sv::sg'::sf'::sysC b p a.now::ss::sk::sr::sm'::(Q'.map BsE.sg).flatten::[Cl b1 z0c (eEw e)]::delN E i) w→
   slK k (.slice vo.a vo.len vo.cap) w:=by
  intro w vo so sm' Q' by'' out e1 hm hq ro hk h
  refine⟨vo,rfl,hk vo so _ w ro ⟨p,sg',sf',ss,sk,sr,sm',Q',⟨hG,hF,R.sh,R.bk,R.ro,hm,hq,e1⟩,rfl⟩ ?_⟩
  have h:=dl1_ h
  have h:=fr8_ (fr8_ (fr7_ (fr7_ (fr8_ (fr8_ (fr8_ (fr8_ (fr8_ h))))))))
  exact sysBack i hi (dl9_ h)
 cases hf2:lfind BsE.k Q rev with
 | none=>
  rw[hf2]at hk
  dsimp only[Option.map]at hk ⊢
  refine⟨(none,false,()),rfl,?_⟩
  refine jd ?_
  refine itF rfl ?_
  exact close rfl R.mp R.ea r2 hk h
 | some x=>
  have hmk:=R.mp.nd
  obtain⟨A,B,rfl,hxk⟩:=zb9 hf2
  rw[hf2]at hk
  dsimp only[Option.map]at hk ⊢
  refine⟨(some ⟨x.b,0,none⟩,true,()),rfl,?_⟩
  refine jd ?_
  refine itT rfl ?_
  refine itT (by rw[hlen];rfl) ?_
  refine Rw.ix encF hr (by decide) (by simp) fun a16 ha=>?_
  refine Rw.ld encF h 1 rfl hr ha (x:=g.2.2) (f:=1) rfl rfl rfl ?_
  refine it (fun h1=>?_) (fun h1=>?_)
  ·have h1:g.2.2.2.1=2:=by simpa using h1
   have h:=fr9_ h
   have h:=h.pick
   have h:=h.split
   (refine nn ?_;refine ldC h ?_)
   refine it (fun h2=>?_) (fun h2=>?_)
   ·have h2:x.x.want=0:=by simpa using h2
    rw[if_pos ⟨h1,h2⟩]at hk
    dsimp only at hk
    (refine nn ?_;refine stC h ?_;clear h;(try clear w);intro w h;dsimp only[putN,setN]at h)
    refine nw h ?_;clear h;(try clear w);intro b21 w h
    refine lineS1 h (by decide) (by omega) fun w h=>?_
    refine nw h ?_;clear h;(try clear w);intro b23 w h
    refine lineI1 h (by rw[z9a];have:s_scale.size=5:=rfl;omega) (by decide) (by decide) fun w h=>?_
    refine nw h ?_;clear h;(try clear w);intro b25 w h
    refine Rw.app encS elS h 3 rfl r2 (lineB (lineB s_scale [rev]) [decD 1]) rfl (by simp) (by simp) fun v' s' w r2' h=>?_
    dsimp only[setN]at h
    have h:=h.glue
    have h:St w0 (BsE.sg ⟨x.k,x.b,x.g,⟨x.x.xs,1,x.x.left⟩,x.sgg⟩::((A++B).map BsE.sg).flatten::s'::sv::sg'::sf'::sysC b p a.now::ss::sk::sr::sm::[Cl b1 z0c (eEw e)]::delN E i) w:=h
    have h:=h.place
    have h:=fr9_ (fr9_ (fr9_ (fr9_ (fr9_ (fr9_ (fr9_ (fr9_ (fr9_ h))))))))
    have et:=zhJ (rev:=rev) (y:=⟨x.x.xs,1,x.x.left⟩) (sgg:=x.sgg) hxk (B:=B) (A:=A) (by simpa [List.map_map,Function.comp_def]using hmk)
    refine close (Q':=A++⟨x.k,x.b,x.g,⟨x.x.xs,1,x.x.left⟩,x.sgg⟩::B) et.symm (by simpa using R.mp) (fun y hy=>?_) r2' hk h
    rcases List.mem_append.1 hy with hy | hy
    ·exact R.ea y (by simp[hy])
    ·rcases List.mem_cons.1 hy with rfl | hy
     ·exact R.ea x (by simp)
     ·exact R.ea y (by simp[hy])
   ·have h2:¬x.x.want=0:=by simpa using h2
    rw[if_neg (fun hh=>h2 hh.2)]at hk
    have h:=h.glue
    have h:=St.place (g:=BsE.sg) (t:=x) h
    have h:=fr9_ (fr9_ (fr9_ (fr9_ (fr9_ (fr9_ (fr9_ (fr9_ (fr9_ h))))))))
    exact close rfl R.mp R.ea r2 hk h
  ·have h1:¬g.2.2.2.1=2:=by simpa using h1
   rw[if_neg (fun hh=>h1 hh.1)]at hk
   exact close rfl R.mp R.ea r2 hk h
def wantB(m:List (ByteArray×ABes))(rev:ByteArray):Int:=((mget m rev).map ABes.want).getD 0
theorem zo3(h:St w0 E w){b:Nat}{p:Bls}{now:Int}{sm:Seg}{Q:List BsE}{i j l:Nat}(hi:nth E i=some (sysC b p now))(hj:nth E j=some sm)(hl:nth E l=some (Q.map BsE.sg).flatten)(hm:MpS Value.string Value.pointer p.m (Q.map BsE.kp) sm){rev:ByteArray}{k:Int→PT}(hk:k (wantB (Q.map BsE.ka) rev) w) :
  L.call Pr z5c [.pointer (some ⟨b,0,none⟩),.string rev] (.one (.one (.int .i64))) k w:=by
 refine z01 (zbm _ _) ?_
 unfold z7j
 have h0:=h
 have h:=h0.front i hi
 unfold wantB at hk
 rw[zgV]at hk
 (refine nn ?_;refine ldC h ?_)
 refine z01 (z3u _ _) ?_
 unfold z2g
 refine MpS.get2 mkStr zio zptr (fun x:Option Addr=>x) (fun _=>rfl) h0 j hj hm ?_
 rw[zgU]
 cases hf:lfind BsE.k Q rev with
 | none=>
  rw[hf]at hk
  refine⟨(none,false,()),rfl,?_⟩
  exact itF rfl ⟨_,rfl,hk⟩
 | some x=>
  rw[hf]at hk
  obtain⟨A,B,rfl,hxk⟩:=zb9 hf
  refine⟨(some ⟨x.b,0,none⟩,true,()),rfl,?_⟩
  refine itT rfl ?_
  have h:=((h0.front l hl).pick).split
  (refine nn ?_;refine ldC h ?_)
  exact⟨_,rfl,hk⟩
def cnt(q:Int→Bool)(l:List (Int×Int×Int)):Int:=((l.filter fun x=>q x.2.1).length:Int)
theorem zmq(h:St w0 E w){b:Nat}{p:Bls}{now:Int}{sf:Seg}{F:AFleet}{i j:Nat}(hi:nth E i=some (sysC b p now))(hj:nth E j=some sf)(hf:FlS p.f F sf){rev:ByteArray}{fv:FV}{q:Int→Bool}(hlen:(fPods F.l rev).length<1000000)
  (hq:∀{E':List Seg}{w:World}{x:Int}{k:Bool→PT},St w0 E' w→(∀w',St w0 E' w'→k (q x) w')→L.callV Pr (.func fv.fn fv.fs fv.cs) [I x] (.one (.one .bool)) k w) {k:Int→PT} (hk:∀w',St w0 E w'→k (cnt q (fPods F.l rev)) w') :
  L.call Pr z4A [.pointer (some ⟨b,0,none⟩),.string rev,fv.val] (.one (.one (.int .i64))) k w:=by
 refine z01 (zaS _ _ fv) ?_
 unfold z6O
 refine z01 (zbn _ _) ?_
 unfold z7k
 have h0:=h
 have h:=h0.front i hi
 (refine nn ?_;refine ldC h ?_)
 refine zrw h0 j hj hf fun v s w hr h=>⟨v,rfl,?_⟩
 clear h0
 generalize fPods F.l rev=l at *
 have hln:=Rw.len encK hr
 refine z0u (fun m y w=>∃(j:Nat),@Eq Int y.2.1 j∧m+j=l.length∧@Eq Int y.1 (cnt q (l.take j))∧St w0 (s::E) w) l.length ⟨0,rfl,rfl,rfl,h⟩ ?_
 clear h;(try clear w)
 rintro m ⟨n,y,⟨⟩⟩ w ⟨j,hy,hm,hn,h⟩ again hag
 (try dsimp only)
 simp only at hy hn
 subst hy
 refine it (fun hb=>?_) (fun hb=>?_)<;>(try simp only[zB]at hb)
 ·have hj:j<l.length:=by omega
  have hx:l[j]? = some l[j]:=List.getElem?_eq_getElem hj
  have et:cnt q (l.take (j+1))=cnt q (l.take j)+(if q l[j].2.1=true then 1 else 0):=by
   unfold cnt
   rw[List.take_succ,hx,Option.toList_some,List.filter_append,List.length_append]
   by_cases hc:q l[j].2.1=true
   ·simp[hc]
   ·simp[hc]
  have hle:0≤cnt q (l.take j)∧cnt q (l.take j)≤j:=by
   unfold cnt
   have:=List.length_filter_le (fun x:Int×Int×Int=>q x.2.1) (l.take j)
   rw[List.length_take]at this
   omega
  generalize l[j]=x at hx et
  obtain⟨x1,x2,x3⟩:=x
  refine jd ?_
  refine Rw.ix encK hr (by omega) (by simpa using hj) fun a ha=>?_
  refine Rw.lda encK h 0 rfl hr ha (x:=(x1,x2,x3)) (by simpa using hx) rfl ?_
  refine nw h ?_;clear h;(try clear w);intro b8 w h
  (refine stC h ?_;clear h;(try clear w);intro w h;dsimp only[putN,setN]at h;refine ldC h ?_)
  refine hq h fun w h=>?_
  have h:=dl0_ h
  dsimp only at et
  refine it (fun hc=>?_) (fun hc=>?_)
  ·rw[if_pos hc]at et
   refine hag (m-1) _ w (by omega) ⟨j+1,?_,by omega,?_,h⟩
   ·show IntKind.wrap .i64 _=_
    rw[wr (by omega) (by omega)];omega
   ·show IntKind.wrap .i64 (n+1)=_
    rw[et,hn,wr (by omega) (by omega)]
  ·rw[if_neg (by rw[hc];decide)]at et
   refine hag (m-1) _ w (by omega) ⟨j+1,?_,by omega,?_,h⟩
   ·show IntKind.wrap .i64 _=_
    rw[wr (by omega) (by omega)];omega
   ·show n=_
    rw[et,hn];omega
 ·have e:l.take j=l:=List.take_of_length_le (by omega)
  rw[e]at hn
  have:=hk w (dl0_ h)
  rw[←hn]at this
  exact⟨_,rfl,this⟩
abbrev pdWant(a:ASys)(n:ByteArray):Int:=wantB a.by' n
abbrev pdConc(a:ASys)(n:ByteArray):Int:=@id Int (bkGet a.bk n).2.2.2.2.1
abbrev pdFl(a:ASys)(n:ByteArray):AFleet:=(fScale a.fl n (pdConc a n) (pdWant a n)).1
abbrev numL(word:ByteArray)(l:List Int):List ByteArray:=l.map fun x=>lineB word [decD x.toNat]
def sysPods(a:ASys)(e:AEv):ASys×List ByteArray:=
 if bkHas a.bk e.name=false then(a,refusedB 6)
 else({ a with fl:=pdFl a e.name },numL zq5 (fMade a.fl e.name (pdWant a e.name))++numL zq8 (fScale a.fl e.name (pdConc a e.name) (pdWant a e.name)).2++[lineB (lineB s_fleet [e.name]) [decD (cnt (fun s=>s != 3) (fPods (pdFl a e.name).l e.name)).toNat]])
theorem znq [bTab w0]{word:ByteArray}{v:Sl}{l:List Int}{X:List ByteArray}{vo:Sl}{si so:Seg}(hr:Rw eI z0h 1 v l si)(hl:l.length<1000000)(hX:X.length<1000000)(hb:∀x∈l,0≤x∧x≤9000000000000000000)(hw:word.size≤1000)(ro:Rw eS z00 1 vo X so){k:Sl×Int×Unit→PT}
  (h:St w0 (so::si::E) w) (hk:∀v' s' m w',Rw eS z00 1 v' (X++numL word l) s'→St w0 (s'::si::E) w'→k (v',m,()) w') :
  L.loop (Y:=Sl×Int×Unit) (⟨vo.a,vo.len,vo.cap⟩,0,()) (fun y19 again20=>
   L.ite (decide (y19.2.1<((v.len:Nat):Int))) (
    L.idx v.a y19.2.1 v.len 1 fun a21=>
    L.load (.one (.int .i64)) a21 fun(x22:Int)=>
    L.new [.int .i64 x22] z0h fun b23=>
    L.call Pr z0q [.string word,.slice (some ⟨b23,0,none⟩) 1 1] (.one (.one (.str))) fun(x24:ByteArray)=>
    L.new [.string x24] z00 fun b25=>
    L.sem Pr (.one (.one .slice)) (Builtin.append_ #[z07,z07] z07 #[.slice y19.1.a y19.1.len y19.1.cap,.slice (some ⟨b25,0,none⟩) 1 1]) fun(s26:Sl)=>
    again20 (⟨s26.a,s26.len,s26.cap⟩,IntKind.wrap .i64 (y19.2.1+1),()))<|
   k y19) w:=by
 have hln:=Rw.len encI hr
 refine z0u (fun q y w=>∃(j:Nat)(s3:Seg),@Eq Int y.2.1 j∧q+j=l.length∧Rw eS z00 1 y.1 (X++numL word (l.take j)) s3∧St w0 (s3::si::E) w) l.length ⟨0,so,rfl,by simp,by simpa using ro,h⟩ ?_
 clear ro
 clear h;(try clear w)
 rintro q ⟨vo,y,⟨⟩⟩ w ⟨j,s3,hy,hq,r3,h⟩ again hag
 (try dsimp only)
 simp only at hy r3
 subst hy
 refine it (fun hb2=>?_) (fun hb2=>?_)<;>(try simp only[zB]at hb2)
 ·have hj:j<l.length:=by omega
  have hx:l[j]? = some l[j]:=List.getElem?_eq_getElem hj
  have hbx:=hb l[j] (List.getElem_mem hj)
  have et:numL word (l.take (j+1))=numL word (l.take j)++[lineB word [decD (l[j]).toNat]]:=by unfold numL;rw[List.take_succ,hx,List.map_append];rfl
  generalize l[j]=x at hx et hbx
  refine Rw.ix encI hr (by omega) (by simpa using hj) fun a ha=>?_
  refine Rw.ld0 encI h 1 rfl hr ha (x:=x) (by simpa using hx) rfl rfl ?_
  refine nw h ?_;clear h;(try clear w);intro b23 w h
  refine lineI1 h (by omega) hbx.1 hbx.2 fun w h=>?_
  refine nw h ?_;clear h;(try clear w);intro b25 w h
  refine Rw.app encS elS h 0 rfl r3 (lineB word [decD x.toNat]) rfl (by simp;omega) (by simp;omega) fun v' s3' w r3' h=>?_
  refine hag (q-1) _ w (by omega) ⟨j+1,s3',?_,by omega,by rw[et,←List.append_assoc];exact r3',h⟩
  show IntKind.wrap .i64 _=_
  rw[wr (by omega) (by omega)];omega
 ·have e:l.take j=l:=List.take_of_length_le (by omega)
  rw[e]at r3
  exact hk vo s3 _ w r3 h
theorem zo5 [bTab w0](h:St w0 E w)(i:Nat){b:Nat}{a:ASys}{s:Seg}(hi:nth E i=some s)(hs:SysS b a s){e:AEv}(hroom:a.fl.room<1000000)(hlast:a.fl.last+a.fl.room<4611686018427387904)(hname:e.name.size≤100000)
  (hmade:∀x∈fMade a.fl e.name (pdWant a e.name),0≤x∧x≤9000000000000000000) (hmn:(fMade a.fl e.name (pdWant a e.name)).length<100000) (hgone:∀x∈(fScale a.fl e.name (pdConc a e.name) (pdWant a e.name)).2,0≤x∧x≤9000000000000000000) (hgn:(fScale a.fl e.name (pdConc a e.name) (pdWant a e.name)).2.length<100000)
  (hpn:(fPods (pdFl a e.name).l e.name).length<1000000) {k:Sl→PT} (hk:Hk w0 E i b (sysPods a e) k):z2L (some ⟨b,0,none⟩) e.t (slK k) w:=by
 have hs0:=hs
 obtain⟨p,sg,sf,ss,sk,sr,sm,Q,R,rfl⟩:=hs
 unfold z2L
 unfold sysPods at hk
 have h:=(h.front i hi).split8
 refine nw h ?_;clear h;(try clear w);intro b1 w h
 refine z1h (fun(z:Addr×Bool×Unit) w=>∃b8:Nat,z=(⟨b8,0,none⟩,bkHas a.bk e.name,())∧
  St w0 ([Cl b8 z0p (rvC (bkGet a.bk e.name))]::[Cl b1 z0c (eEw e)]::sysC b p a.now::sg::sf::ss::sk::sr::sm::(Q.map BsE.sg).flatten::delN E i) w) (fun k2 hk2=>?_) ?_
 ·(dsimp only[setN,List.cons_append,List.nil_append]at h;refine dr h ?_;clear h;(try clear w);intro w h;refine nn ?_;refine ldC h ?_;refine ldC h ?_)
  refine alts2 ?_ ?_
  ·refine zfQ h 5 rfl R.bk fun w h=>?_
   refine nw h ?_;clear h;(try clear w);intro b8 w h
   (refine ckC h ?_;refine ckC h ?_;refine stC h ?_;clear h;(try clear w);intro w h;dsimp only[putN,setN]at h)
   exact hk2 _ w ⟨b8,rfl,h⟩
  ·refine nw h ?_;clear h;(try clear w);intro b8 w h
   (refine ckC h ?_;refine ckC h ?_)
   refine zfQ h 6 rfl R.bk fun w h=>?_
   (refine stC h ?_;clear h;(try clear w);intro w h;dsimp only[putN,setN]at h)
   exact hk2 _ w ⟨b8,rfl,h⟩
 clear h;(try clear w)
 rintro z w ⟨b8,rfl,h⟩
 (try dsimp only)
 refine it (fun hc=>?_) (fun hc=>?_)
 ·have hc:bkHas a.bk e.name=false:=by simpa using hc
  rw[if_pos hc]at hk
  refine z6d h fun v s w r h=>?_
  exact⟨v,rfl,hk v s _ w r hs0 (sysBack i hi (dl1_ (dl1_ h)))⟩
 have hc:¬bkHas a.bk e.name=false:=by simpa using hc
 rw[if_neg hc]at hk
 (refine dr h ?_;clear h;(try clear w);intro w h;refine nn ?_;refine ldC h ?_;refine ldC h ?_;rw[z4F];refine ldC h ?_;refine ldC h ?_)
 refine zo3 h (i:=2) (j:=8) (l:=9) rfl rfl rfl R.mp ?_
 (refine ckC h ?_;refine ckC h ?_;refine ckC h ?_)
 have ew:wantB (Q.map BsE.ka) e.name=pdWant a e.name:=by unfold pdWant;rw[R.ab]
 rw[ew]
 have hF0:=R.fl
 unfold pdFl at *
 refine zpN (conc:=pdConc a e.name) h 4 rfl R.fl (by omega) hlast fun v1 v2 sf' s1 s2 w hF r1 r2 h=>?_
 dsimp only[setN]at h
 generalize fScale a.fl e.name (pdConc a e.name) (pdWant a e.name)=g at *
 generalize fMade a.fl e.name (pdWant a e.name)=made at *
 obtain⟨F,gone⟩:=g
 dsimp only at *
 have h:=fr1_ h
 refine znq (vo:=⟨none,0,0⟩) (X:=[]) r1 (by omega) (by simp) hmade (by decide) Rw.nil h.nil fun v3 s3 m w r3 h=>?_
 have h:=fr2_ (fr2_ (fr1_ h))
 refine znq r2 (by omega) (by simp[numL];omega) hgone (by decide) r3 h fun v4 s4 m w r4 h=>?_
 (refine ldC h ?_)
 refine zmq h (i:=5) (j:=7) rfl rfl hF (fv:=⟨.func z36,#[],#[]⟩) (q:=fun s=>s != 3) hpn (fun{E' w x k} h hk=>?_) fun w h=>?_
 ·refine z4W (fs:=#[]) (cs:=#[]) za9 (zac x) ?_
  unfold z6m
  exact⟨_,rfl,hk w h⟩
 (refine ldC h ?_)
 have hcn:0≤cnt (fun s=>s != 3) (fPods F.l e.name)∧cnt (fun s=>s != 3) (fPods F.l e.name)≤1000000:=by
  unfold cnt
  have:=List.length_filter_le (fun x:Int×Int×Int=>(fun s=>s != 3) x.2.1) (fPods F.l e.name)
  refine⟨Int.natCast_nonneg _,?_⟩
  have h2:((fPods F.l e.name).filter fun x:Int×Int×Int=>(fun s=>s != 3) x.2.1).length≤1000000:=by omega
  exact Int.ofNat_le.2 h2
 generalize cnt (fun s=>s != 3) (fPods F.l e.name)=n at *
 refine nw h ?_;clear h;(try clear w);intro b38 w h
 refine lineS1 h (by decide) (by omega) fun w h=>?_
 refine nw h ?_;clear h;(try clear w);intro b40 w h
 refine lineI1 h (by rw[z9a];have:s_fleet.size=5:=rfl;omega) hcn.1 (by omega) fun w h=>?_
 refine nw h ?_;clear h;(try clear w);intro b42 w h
 refine Rw.app encS elS h 0 rfl r4 (lineB (lineB s_fleet [e.name]) [decD n.toNat]) rfl (by simp[numL];omega) (by simp[numL];omega) fun v5 s5 w r5 h=>?_
 refine⟨v5,rfl,hk v5 s5 _ w (by simpa using r5) ⟨p,sg,sf',ss,sk,sr,sm,Q,⟨R.gt,hF,R.sh,R.bk,R.ro,R.mp,R.ea,R.ab⟩,rfl⟩ (sysBack i hi ?_)⟩
 exact dl1_ (dl1_ (dl1_ (dl1_ h)))
def busyB(G:AGate)(rev:ByteArray):Int:=((gWait G rev).length:Int)+(gWith G.all rev).length
def tkStep(G:AGate)(m:List (ByteArray×ABes))(rev:ByteArray):List (ByteArray×ABes):=match mget m rev with
 | some x=>mset m rev ⟨x.xs++[if 0>busyB G rev then 0 else busyB G rev],x.want,x.left⟩
 | none=>m
abbrev tkG(a:ASys):AGate×List Fate:=gTick a.gt (a.now+1)
def sysTick(a:ASys):ASys×List ByteArray:=
 if a.now≥1048576 then(a,refusedB 9)
 else({ a with gt:=(tkG a).1,now:=a.now+1,by':=(bkAll a.bk).foldl (tkStep (tkG a).1) a.by' },lineB znb [decD (a.now+1).toNat]::(tkG a).2.map fateB)
theorem zo4 [bTab w0](h:St w0 E w)(i:Nat){b:Nat}{a:ASys}{s:Seg}(hi:nth E i=some s)(hs:SysS b a s){e:AEv}(hnow:0≤a.now)(hwk:GWk a.gt)(hfl:(tkG a).2.length<90000000)(hf:∀f∈(tkG a).2,f.Ok)
  (hby:∀rev∈bkAll a.bk,(mget a.by' rev).isSome=true) (hxs:∀x∈a.by',x.2.xs.length<1000000000) (hfb:a.bk.all.length<1000000) {k:Sl→PT} (hk:Hk w0 E i b (sysTick a) k):z5e (some ⟨b,0,none⟩) e.t (slK k) w:=by
 have hs0:=hs
 obtain⟨p,sg,sf,ss,sk,sr,sm,Q,R,rfl⟩:=hs
 unfold z5e
 unfold sysTick tkG at hk
 unfold tkG at hfl hf
 have h:=(h.front i hi).split8
 refine nw h ?_;clear h;(try clear w);intro b1 w h
 (dsimp only[setN,List.cons_append,List.nil_append]at h;refine nn ?_;refine ldC h ?_)
 refine it (fun hc=>?_) (fun hc=>?_)<;>(try simp only[zB]at hc)
 ·rw[if_pos hc]at hk
  refine z6d h fun v s w r h=>?_
  exact⟨v,rfl,hk v s _ w r hs0 (sysBack i hi (dl1_ h))⟩
 rw[if_neg hc]at hk
 (refine nn ?_;refine ldC h ?_;refine nn ?_;refine stC h ?_;clear h;(try clear w);intro w h;dsimp only[putN,setN]at h;refine dr h ?_;clear h;(try clear w);intro w h;refine nn ?_;refine ldC h ?_;refine nn ?_;refine ldC h ?_)
 rw[wr (by omega) (by omega)]at h ⊢
 have h:=fr2_ h
 refine zrr h R.gt hwk hfl fun v sv sg' w hr hG h=>?_
 generalize gTick a.gt (a.now+1)=g at *
 refine z01 (z8Y _) ?_
 unfold z5p
 (refine nn ?_;refine ldC h ?_)
 refine zrA h 6 rfl R.bk fun v2 s2 w r2 h=>⟨v2,rfl,?_⟩
 have hnl:(bkAll a.bk).length<1000000:=by unfold bkAll;rw[z2R,List.length_map];exact hfb
 generalize bkAll a.bk=l at *
 have hln:=Rw.len encS r2
 let EV:Seg:=[Cl b1 z0c (eEw e)]
 refine z0u (fun m y w=>∃(j:Nat)(sg2:Seg)(Q2:List BsE),@Eq Int y.1 j∧m+j=l.length∧GtS p.g p.f g.1 sg2∧Q2.map BsE.kp=Q.map BsE.kp∧(∀x∈Q2,x.ok)∧Q2.map BsE.ka=(l.take j).foldl (tkStep g.1) a.by'∧(∀x∈Q2,x.x.xs.length<1000000000+j)∧
  St w0 (s2::sv::sg2::EV::sysC b p (a.now+1)::sf::ss::sk::sr::sm::(Q2.map BsE.sg).flatten::delN E i) w) l.length ⟨0,sg',Q,rfl,rfl,hG,rfl,R.ea,R.ab.symm,fun x hx=>by have:=hxs _ (by rw[R.ab];exact List.mem_map_of_mem hx);simpa using this,h⟩ ?_
 clear h;(try clear w)
 rintro m ⟨y,⟨⟩⟩ w ⟨j,sg2,Q2,hy,hm,hG2,ekp,ok2,eka,hx2,h⟩ again hag
 (try dsimp only)
 simp only at hy
 subst hy
 refine it (fun hb=>?_) (fun hb=>?_)<;>(try simp only[zB]at hb)
 ·have hj:j<l.length:=by omega
  have hx:l[j]? = some l[j]:=List.getElem?_eq_getElem hj
  have hin:(mget (Q2.map BsE.ka) l[j]).isSome=true:=by
   have h1:=hby l[j] (List.getElem_mem hj)
   rw[R.ab,zgV,Option.isSome_map]at h1
   have h2:(mget (Q2.map BsE.kp) l[j]).isSome=true:=by rw[ekp,zgU,Option.isSome_map];exact h1
   rw[zgU,Option.isSome_map]at h2
   rw[zgV,Option.isSome_map];exact h2
  have et:(l.take (j+1)).foldl (tkStep g.1) a.by'=tkStep g.1 (Q2.map BsE.ka) l[j]:=by rw[eka,List.take_succ,hx,List.foldl_append];rfl
  generalize l[j]=rev at *
  have hm2:MpS Value.string Value.pointer p.m (Q2.map BsE.kp) sm:=by rw[ekp];exact R.mp
  rw[zgV,Option.isSome_map]at hin
  obtain⟨x,hfx⟩:=Option.isSome_iff_exists.1 hin
  have hmk:=hm2.nd
  refine Rw.ix encS r2 (by omega) (by simpa using hj) fun ea ha=>?_
  refine Rw.ld0 encS h 0 rfl r2 ha (x:=rev) (by simpa using hx) rfl rfl ?_
  (refine dr h ?_;clear h;(try clear w);intro w h;refine nn ?_;refine ldC h ?_)
  have hlk:((mget (Q2.map BsE.kp) rev).map fun x:Option Addr=>x).getD none=some ⟨x.b,0,none⟩:=by rw[zgU,hfx];rfl
  refine MpS.get mkStr zio zptr (fun x:Option Addr=>x) (fun _=>rfl) h 9 rfl hm2 ?_
  rw[hlk]
  obtain⟨A,B,rfl,hxk⟩:=zb9 hfx
  have h:=z8W h
  have h:=h.pick.split
  (refine nn ?_;refine ldC h ?_;refine nn ?_;refine ldC h ?_)
  have h:=fr5_ h
  refine zrt h hG2 fun sg3 w hG3 h=>?_
  (refine ckC h ?_)
  refine MpS.chk mkStr zio (z:=.pointer none) zptr h 12 rfl hm2 (by rw[zgU,hfx];rfl) ?_
  (refine ckC h ?_)
  have hox:=ok2 x (by simp)
  have hlx:=hx2 x (by simp)
  refine zrq h 2 rfl hox (by omega) fun sgg w hga h=>?_
  dsimp only[setN]at h
  have hbu:((gWait g.1 rev).length:Int)+(gWith g.1.all rev).length=busyB g.1 rev:=rfl
  rw[hbu]at hga
  have h:=fr2_ (fr2_ h)
  have h:=h.glue
  have h:=fr1_ (fr2_ h)
  have h:St w0 (BsE.sg ⟨x.k,x.b,x.g,⟨x.x.xs++[if 0>busyB g.1 rev then 0 else busyB g.1 rev],x.x.want,x.x.left⟩,sgg⟩::((A++B).map BsE.sg).flatten::sg3::s2::sv::EV::sysC b p (a.now+1)::sf::ss::sk::sr::sm::delN E i) w:=h
  have h:=h.place
  have et2:=zhJ (rev:=rev) (y:=⟨x.x.xs++[if 0>busyB g.1 rev then 0 else busyB g.1 rev],x.x.want,x.x.left⟩) (sgg:=sgg) hxk (B:=B) (A:=A) (by simpa [List.map_map,Function.comp_def]using hmk)
  refine hag (m-1) _ w (by omega) ⟨j+1,sg3,A++⟨x.k,x.b,x.g,⟨x.x.xs++[if 0>busyB g.1 rev then 0 else busyB g.1 rev],x.x.want,x.x.left⟩,sgg⟩::B,?_,by omega,hG3,?_,?_,?_,?_,?_⟩
  ·show IntKind.wrap .i64 _=_
   rw[wr (by omega) (by omega)];omega
  ·rw[←ekp];simp
  ·intro y hy
   rcases List.mem_append.1 hy with hy | hy
   ·exact ok2 y (by simp[hy])
   ·rcases List.mem_cons.1 hy with rfl | hy
    ·exact hga
    ·exact ok2 y (by simp[hy])
  ·rw[et,et2]
   unfold tkStep
   rw[zgV,hfx]
   rfl
  ·intro y hy
   rcases List.mem_append.1 hy with hy | hy
   ·have:=hx2 y (by simp[hy]);omega
   ·rcases List.mem_cons.1 hy with rfl | hy
    ·simp;omega
    ·have:=hx2 y (by simp[hy]);omega
  ·have h:=z8W (z8W (fr8_ (z8W (z8W (z8W (z8W (z8W (z8W (z8W h)))))))))
   exact h
 ·have ej:l.take j=l:=List.take_of_length_le (by omega)
  rw[ej]at eka
  (refine nn ?_;refine ldC h ?_)
  refine nw h ?_;clear h;(try clear w);intro b29 w h
  refine lineI1 h (by decide) (by omega) (by omega) fun w h=>?_
  refine nw h ?_;clear h;(try clear w);intro b31 w h
  have h:=fr1_ (fr2_ h)
  refine zlv h (l:=[lineB znb [decD (a.now+1).toNat]]) hr hf (by omega) (by simp) (Rw.lit b31 [_] encS rfl rfl (by simp[maxLen])) fun v s w r h=>?_
  refine⟨v,rfl,hk v s _ w r ⟨p,sg2,sf,ss,sk,sr,sm,Q2,⟨hG2,R.fl,R.sh,R.bk,R.ro,by rw[ekp];exact R.mp,ok2,eka.symm⟩,rfl⟩ (sysBack i hi ?_)⟩
  have h:=dl1_ (dl2_ (dl4_ h))
  have h:=fr2_ (fr2_ (fr1_ h))
  exact h
end Go.Proofs.YtdcdhcgmeahfmaaGreatDoor
namespace Go.Proofs.YtdcdhcgmeahfmaaGreatDoor
open Go.Dm
theorem zta{P:Program}{r:RT}{s:Sem Value}{k:r.T→PT}{w:World}(x:r.T)(h:s.run P w = .ok (r.val x) w)(hk:k x w):L.semR P r s k w:=⟨x,h,hk⟩
theorem zmi{P:Program}{fv:Value}{args:List Value}{r:RT}{k k':r.T→PT}{w:World}(h:L.callV P fv args r k w)(hm:∀x w,k x w→k' x w):L.callV P fv args r k' w:=FCall.mono h fun _ _ ⟨x,e,hk⟩=>⟨x,e,hm x _ hk⟩
attribute [local irreducible] L.load L.store L.chk L.new L.nonnil L.guard L.ite L.draw L.idx L.sem L.semR L.semU L.chkSem L.next L.call L.callV L.join L.alts L.loop L.begin L.endRound L.range
variable {w0 w:World}{E:List Seg}
def mV(b:Nat)(f:FuncId):Value:=.func (.func f) #[.pointer (some ⟨b,0,none⟩)] #[]
def doM:List (Int×FuncId):=[(1,z1G),(2,z1P),(3,z5b),(4,z1H),(5,z27),(6,z2C),(7,z22),(8,z22),(9,z1Y),(10,z1O),(11,z1Z),(12,z4z),(13,z1C)]
theorem z8z:Pr.underlying z03=some (.map z0h z2s):=by kernel_rfl
theorem zfun(w:World):(zeroValue z2s).run Pr w = .ok .nilFunc w:=by
 have h:(Pr.info? z2s).map (·.zero)=some (some .nilFunc):=by kernel_rfl
 cases hi:Pr.info? z2s with
 | none=>rw[hi]at h;cases h
 | some i=>rw[hi]at h;simp only[Option.map_some,Option.some.injEq]at h;exact zv hi h w
theorem S_do(h:St w0 E w){b:Nat}{e:AEv}(hb:chkEv e=0)(hn:e.kind=12∨e.kind=13→RevN e.name)(rd:RdE w0 E eT e.v e.r.ts)(hvc:e.v.len≤e.v.cap)(hrv:∀t∈e.r.ts,revOk t.1){f:FuncId}(hf:mget doM e.kind=some f){k:Sl→PT}
  (hh:∀(s1 s2:Seg) w',St w0 (s1::s2::E) w'→L.callV Pr (.func (.func f) #[.pointer (some ⟨b,0,none⟩)] #[]) [evV e] (.one (.one .slice)) k w'):L.call Pr z04 [.pointer (some ⟨b,0,none⟩),evV e] (.one (.one .slice)) k w:=by
 refine z01 (zd5 _ e.t) ?_
 unfold z8H
 refine nw h ?_;clear h;(try clear w);intro b1 w h
 (dsimp only[setN,List.cons_append,List.nil_append]at h;refine laC h ?_)
 refine zjt (e:=e) h hn (fun w h=>rd w (dl0_ h)) hvc hrv fun w h=>?_
 refine itF (by simpa using hb) ?_
 refine MpS.new h KI (mV b) fun r s w hm h=>?_
 refine MpS.set mkI z8z h 0 rfl hm z1G rfl fun s w hm h=>?_
 refine MpS.set mkI z8z h 0 rfl hm z1P rfl fun s w hm h=>?_
 refine MpS.set mkI z8z h 0 rfl hm z5b rfl fun s w hm h=>?_
 refine MpS.set mkI z8z h 0 rfl hm z1H rfl fun s w hm h=>?_
 refine MpS.set mkI z8z h 0 rfl hm z27 rfl fun s w hm h=>?_
 refine MpS.set mkI z8z h 0 rfl hm z2C rfl fun s w hm h=>?_
 refine MpS.set mkI z8z h 0 rfl hm z22 rfl fun s w hm h=>?_
 refine MpS.set mkI z8z h 0 rfl hm z22 rfl fun s w hm h=>?_
 refine MpS.set mkI z8z h 0 rfl hm z1Y rfl fun s w hm h=>?_
 refine MpS.set mkI z8z h 0 rfl hm z1O rfl fun s w hm h=>?_
 refine MpS.set mkI z8z h 0 rfl hm z1Z rfl fun s w hm h=>?_
 refine MpS.set mkI z8z h 0 rfl hm z4z rfl fun s w hm h=>?_
 refine MpS.set mkI z8z h 0 rfl hm z1C rfl fun s w hm h=>?_
 have hm:MpS KI (mV b) r doM s:=hm
 dsimp only[setN]at h
 (refine ldC h ?_)
 refine zta ⟨.func f,#[.pointer (some ⟨b,0,none⟩)],#[]⟩ ?_ ?_
 ·rw[MpS.get_run mkI z8z (zfun w) h 0 rfl hm false,hf];rfl
 (refine laC h ?_)
 exact zmi (hh s _ w h) fun x w hk=>⟨x,rfl,hk⟩
theorem zgg(h:St w0 E w)(i:Nat){b:Nat}{a:ASys}{s:Seg}(hi:nth E i=some s)(hs:SysS b a s){e:AEv}(hb:chkEv e=0)(hn:e.kind=12∨e.kind=13→RevN e.name)(rd:RdE w0 E eT e.v e.r.ts)(hvc:e.v.len≤e.v.cap)(hrv:∀t∈e.r.ts,revOk t.1)
  {f:FuncId} (hf:mget doM e.kind=some f) {r:ASys×List ByteArray} {F:(Value→PT)→PT} (hE:Enters Pr f) (hC:∀{K:Value→PT}{w:World},F K w→Calls Pr f (#[.pointer (some ⟨b,0,none⟩)]++[evV e].toArray++ #[]) w fun e w'=>∃v,e = .returned v∧K v w')
  (hh:∀{E2:List Seg}{i2:Nat}{w:World}{k:Sl→PT},St w0 E2 w→nth E2 i2=some s→(∀w,St w0 (delN E2 i2) w→St w0 (delN E i) w)→Hk w0 E2 i2 b r k→F (slK k) w) {k:Sl→PT} (hk:Hk w0 E i b r k) :
  L.call Pr z04 [.pointer (some ⟨b,0,none⟩),evV e] (.one (.one .slice)) k w:=by
 refine S_do h hb hn rd hvc hrv hf fun s1 s2 w h=>?_
 refine z4W (F:=F) hE hC ?_
 exact hh (E2:=s1::s2::E) (i2:=i+2) h hi (fun w h=>dl0_ (dl0_ h)) fun v sv s' w' r hs h=>hk v sv s' w' r hs (dl1_ (dl1_ h))
end Go.Proofs.YtdcdhcgmeahfmaaGreatDoor
namespace Go.Proofs.YtdcdhcgmeahfmaaGreatDoor
open Go.Dm
attribute [local irreducible] L.load L.store L.chk L.new L.nonnil L.guard L.ite L.draw L.idx L.sem L.semR L.semU L.chkSem L.next L.call L.callV L.join L.alts L.loop L.begin L.endRound L.range
variable {w0 w:World}{E:List Seg}
def newSys(room line pat:Int):ASys:=⟨⟨[],[],0⟩,⟨[],[]⟩,[],⟨room,0,[]⟩,⟨[],[],line,pat⟩,[],0⟩
theorem zc0{n a b:Int}{k:Bool→PT}(hk:k (wiB n a b) w):L.call Pr z2S [I n,I a,I b] (.one (.one .bool)) k w:=by
 refine z01 (zc5 n a b) ?_
 unfold z7Z
 unfold wiB at hk
 refine it (fun h1=>?_) (fun h1=>?_)
 ·have h1:decide (a≤n)=true:=h1
  rw[h1]at hk
  exact⟨_,rfl,hk⟩
 ·have h1:decide (a≤n)=false:=h1
  rw[h1]at hk
  exact⟨_,rfl,hk⟩
def newOk(room line pat:Int):Bool:=wiB room 1 30&&(wiB line 0 8&&wiB pat 1 50)
theorem zhM(h:St w0 E w){room line pat:Int}{k:Option Addr×Int×Unit→PT}(h0:newOk room line pat=false→∀w',St w0 E w'→k (none,2,()) w')
  (h1:newOk room line pat=true→∀b s w',SysS b (newSys room line pat) s→St w0 (s::E) w'→k (some ⟨b,0,none⟩,0,()) w'):L.call Pr z6L [I room,I line,I pat] (.tup [.one .ptr,.one (.int .i64)]) k w:=by
 refine z01 (zjI _ _ _) ?_
 unfold ze9
 unfold newOk at h0 h1
 refine zc0 ?_
 cases c1:wiB room 1 30 with
 | false=>exact itT rfl ⟨(none,2,()),rfl,h0 (by rw[c1];rfl) w h⟩
 | true=>
 refine itF rfl ?_
 refine zc0 ?_
 cases c2:wiB line 0 8 with
 | false=>exact itT rfl ⟨(none,2,()),rfl,h0 (by rw[c1,c2];rfl) w h⟩
 | true=>
 refine itF rfl ?_
 refine zc0 ?_
 cases c3:wiB pat 1 50 with
 | false=>exact itT rfl ⟨(none,2,()),rfl,h0 (by rw[c1,c2,c3];rfl) w h⟩
 | true=>
 refine itF rfl ?_
 have hl:0≤line∧line≤8:=by unfold wiB at c2;simpa using c2
 refine zsL h fun bf sf w hF h=>?_
 refine zr8 h fun bs ss w hS h=>?_
 refine zrz h fun bk sk w hK h=>?_
 refine zrb h fun br sr w hR h=>?_
 refine zsH h (bf:=bf) hl.1 (by omega) fun bg sg w hG h=>?_
 refine MpS.new h Value.string Value.pointer fun r sm w hm h=>?_
 refine nw h ?_;clear h;(try clear w);intro b w h
 have h:St w0 (sysC b ⟨bs,bk,br,bf,bg,r⟩ 0::sm::sg::sr::sk::ss::sf::E) w:=h
 refine⟨(some ⟨b,0,none⟩,0,()),rfl,h1 (by rw[c1,c2,c3];rfl) b _ w ⟨⟨bs,bk,br,bf,bg,r⟩,sg,sf,ss,sk,sr,sm,[],⟨hG,hF,hS,hK,hR,hm,by simp,rfl⟩,rfl⟩ ?_⟩
 have h:=fr6_ (fr6_ (fr6_ (fr5_ (fr4_ (fr3_ (fr1_ h))))))
 have h:St w0 (sysC b ⟨bs,bk,br,bf,bg,r⟩ 0::sg::sf::ss::sk::sr::sm::(([]:List BsE).map BsE.sg).flatten::E) w:=h.eq (by simp)
 exact h.glue8
def noRt15:ARt:=⟨s_,s_,[],0⟩
abbrev noSl:Sl:=⟨none,0,0⟩
theorem zpO [bTab w0](h:St w0 E w)(i:Nat){b:Nat}{a:ASys}{s:Seg}(hi:nth E i=some s)(hs:SysS b a s){e:AEv}(hkd:e.kind=9)(hb:chkEv e=0)(rd:RdE w0 E eT e.v e.r.ts)(hvc:e.v.len≤e.v.cap)(hrv:∀t∈e.r.ts,revOk t.1)
  (hnow:0≤a.now) (hwk:GWk a.gt) (hfl:(tkG a).2.length<90000000) (hf:∀f∈(tkG a).2,f.Ok)
  (hby:∀rev∈bkAll a.bk,(mget a.by' rev).isSome=true) (hxs:∀x∈a.by',x.2.xs.length<1000000000) (hfb:a.bk.all.length<1000000) {k:Sl→PT} (hk:Hk w0 E i b (sysTick a) k) :
  L.call Pr z04 [.pointer (some ⟨b,0,none⟩),evV e] (.one (.one .slice)) k w:=
 zgg h i hi hs hb (fun hh=>by omega) rd hvc hrv (f:=z1Y) (by rw[hkd];rfl) zbe (zbj (some ⟨b,0,none⟩) e.t)
  (fun h hi _ hk=>zo4 h _ hi hs hnow hwk hfl hf hby hxs hfb hk) hk
abbrev evT0(kind:Int):AEv:=⟨kind,s_,s_,0,0,noCfg,noRt15,noSl⟩
theorem chk9:chkEv (evT0 9)=0:=by decide +kernel
theorem zmv [bTab w0](h:St w0 E w)(i:Nat){b:Nat}{a:ASys}{s:Seg}(hi:nth E i=some s)(hs:SysS b a s){e:AEv}(hkd:e.kind=1)(hb:chkEv e=0)(rd:RdE w0 E eT e.v e.r.ts)(hvc:e.v.len≤e.v.cap)(hrv:∀t∈e.r.ts,revOk t.1)
  (hn:a.sh.n<900000000) (hsz:e.c.1.size≤1000000) {k:Sl→PT} (hk:Hk w0 E i b (sysConfig a e) k):L.call Pr z04 [.pointer (some ⟨b,0,none⟩),evV e] (.one (.one .slice)) k w:=
 zgg h i hi hs hb (fun hh=>by omega) rd hvc hrv (f:=z1G) (by rw[hkd];rfl) zaa (zad (some ⟨b,0,none⟩) e.t) (fun h hi _ hk=>zkq h _ hi hs hn hsz hk) hk
theorem zok [bTab w0](h:St w0 E w)(i:Nat){b:Nat}{a:ASys}{s:Seg}(hi:nth E i=some s)(hs:SysS b a s){e:AEv}(hkd:e.kind=2)(hb:chkEv e=0)(rd:RdE w0 (delN E i) eT e.v e.r.ts)(hvc:e.v.len≤e.v.cap)(h0:e.v.a=none→e.r.ts = [])(hrv:∀t∈e.r.ts,revOk t.1)
  (hn:a.sh.n<900000000) (hsz:e.r.name.size≤1000000) (hfew:a.sh.Few) {k:Sl→PT} (hk:Hk w0 E i b (sysRoute a e) k):L.call Pr z04 [.pointer (some ⟨b,0,none⟩),evV e] (.one (.one .slice)) k w:=
 zgg h i hi hs hb (fun hh=>by omega) (fun w h=>rd w (h.del i hi)) hvc hrv (f:=z1P) (by rw[hkd];rfl) zaN (zaR (some ⟨b,0,none⟩) e.t) (fun h hi hd hk=>zmp h _ hi hs hn hsz hfew (fun w h=>rd w (hd w h)) hvc h0 hrv hk) hk
theorem zoj [bTab w0](h:St w0 E w)(i:Nat){b:Nat}{a:ASys}{s:Seg}(hi:nth E i=some s)(hs:SysS b a s){e:AEv}(hkd:e.kind=10)(hb:chkEv e=0)(rd:RdE w0 E eT e.v e.r.ts)(hvc:e.v.len≤e.v.cap)(hrv:∀t∈e.r.ts,revOk t.1)
  (hst:(shCfg a.sh e.name).2.2.2.1=true→shortB (shCfg a.sh e.name).1.1.data.toList 16=true∧1≤@id Int (shCfg a.sh e.name).2.2.1∧@id Int (shCfg a.sh e.name).2.2.1<100∧@id Int (shCfg a.sh e.name).1.2.2.2.1≤1000000) (hf:a.bk.all.length<999999)
  {k:Sl→PT} (hk:Hk w0 E i b (sysStamp a e) k):L.call Pr z04 [.pointer (some ⟨b,0,none⟩),evV e] (.one (.one .slice)) k w:=
 zgg h i hi hs hb (fun hh=>by omega) rd hvc hrv (f:=z1O) (by rw[hkd];rfl) zaM (zaQ (some ⟨b,0,none⟩) e.t) (fun h hi _ hk=>zmo h _ hi hs hst hf hk) hk
theorem zpR [bTab w0](h:St w0 E w)(i:Nat){b:Nat}{a:ASys}{s:Seg}(hi:nth E i=some s)(hs:SysS b a s){e:AEv}(hkd:e.kind=5)(hb:chkEv e=0)(rd:RdE w0 E eT e.v e.r.ts)(hvc:e.v.len≤e.v.cap)(hrv:∀t∈e.r.ts,revOk t.1)
  (hfew:FFew a.fl) (hn:a.gt.all.length<80000000) (hl:a.gt.lines.length<90000000) (hf:∀f∈(gDone a.fl a.gt e.n).2.2.1,f.Ok) (hfl:(gDone a.fl a.gt e.n).2.2.1.length<100000000)
  {k:Sl→PT} (hk:Hk w0 E i b (sysDone a e) k):L.call Pr z04 [.pointer (some ⟨b,0,none⟩),evV e] (.one (.one .slice)) k w:=
 zgg h i hi hs hb (fun hh=>by omega) rd hvc hrv (f:=z27) (by rw[hkd];rfl) zbg (zbl (some ⟨b,0,none⟩) e.t) (fun h hi _ hk=>zo7 h _ hi hs hfew hn hl hf hfl hk) hk
theorem zsM [bTab w0](h:St w0 E w)(i:Nat){b:Nat}{a:ASys}{s:Seg}(hi:nth E i=some s)(hs:SysS b a s){e:AEv}(hkd:e.kind=6)(hb:chkEv e=0)(rd:RdE w0 E eT e.v e.r.ts)(hvc:e.v.len≤e.v.cap)(hrv':∀t∈e.r.ts,revOk t.1)
  (he:0≤e.n∧e.n≤9000000000000000000) (hrv:(fOf (fUpp a.fl e.n).1.l e.n).size≤1000000) (hfew:FFew (fUpp a.fl e.n).1) (hn:a.gt.all.length<80000000) (hl:a.gt.lines.length<90000000)
  (hf:∀f∈(upFlow a e).2.2,f.Ok) (hfl:(upFlow a e).2.2.length<100000000) {k:Sl→PT} (hk:Hk w0 E i b (sysUp a e) k):L.call Pr z04 [.pointer (some ⟨b,0,none⟩),evV e] (.one (.one .slice)) k w:=
 zgg h i hi hs hb (fun hh=>by omega) rd hvc hrv' (f:=z2C) (by rw[hkd];rfl) zd1 (zd4 (some ⟨b,0,none⟩) e.t) (fun h hi _ hk=>zr4 h _ hi hs he hrv hfew hn hl hf hfl hk) hk
theorem zpQ [bTab w0](h:St w0 E w)(i:Nat){b:Nat}{a:ASys}{s:Seg}(hi:nth E i=some s)(hs:SysS b a s){e:AEv}(hkd:e.kind=11)(hb:chkEv e=0)(rd:RdE w0 E eT e.v e.r.ts)(hvc:e.v.len≤e.v.cap)(hrv:∀t∈e.r.ts,revOk t.1)
  (hfew:a.sh.Few) (hname:e.name.size≤100000) (hp:∀t∈(shRt a.sh e.name).1.ts,0≤pct t∧pct t≤1000) (hl:(shRt a.sh e.name).1.ts.length≤1000)
  (hroll:(shRt a.sh e.name).1.roll≤1000000) (hok:∀x,mget a.ro e.name=some x→x.Ok) (hsi:∀x,mget a.ro e.name=some x→0≤x.since∧x.since<1000000000) (hnow:0≤a.now∧a.now<1000000000) (hwb:WBd (ldTab a e.name).1.sh) (hln:(ldNow a e.name).sh.length<100000) (htb:TabB (ldNow a e.name))
  {k:Sl→PT} (hk:Hk w0 E i b (sysLead a e) k):L.call Pr z04 [.pointer (some ⟨b,0,none⟩),evV e] (.one (.one .slice)) k w:=
 zgg h i hi hs hb (fun hh=>by omega) rd hvc hrv (f:=z1Z) (by rw[hkd];rfl) zbf (zbk (some ⟨b,0,none⟩) e.t) (fun h hi _ hk=>zo6 h _ hi hs hfew hname hp hl hroll hok hsi hnow hwb hln htb hk) hk
theorem zmw [bTab w0](h:St w0 E w)(i:Nat){b:Nat}{a:ASys}{s:Seg}(hi:nth E i=some s)(hs:SysS b a s){e:AEv}(hkd:e.kind=4)(hb:chkEv e=0)(rd:RdE w0 E eT e.v e.r.ts)(hvc:e.v.len≤e.v.cap)(hrv':∀t∈e.r.ts,revOk t.1)
  (hd:0≤e.draw∧e.draw<4611686018427387904) (hok:∀x,mget a.ro e.name=some x→x.Ok) (hwb:WBd (roTab a.ro e.name).sh)
  (hfew:FFew a.fl) (hn:a.gt.all.length<80000000) (hl:a.gt.lines.length<90000000) (hnow: -1000000000000<a.now+a.gt.pat∧a.now+a.gt.pat<1000000000000) (hf:(arG a e).2.2.Ok) (hrv:(bnd a e).size≤1000000)
  {k:Sl→PT} (hk:Hk w0 E i b (sysArrive a e) k):L.call Pr z04 [.pointer (some ⟨b,0,none⟩),evV e] (.one (.one .slice)) k w:=
 zgg h i hi hs hb (fun hh=>by omega) rd hvc hrv' (f:=z1H) (by rw[hkd];rfl) zab (zae (some ⟨b,0,none⟩) e.t) (fun h hi _ hk=>zkr h _ hi hs hd hok hwb hfew hn hl hnow hf hrv hk) hk
theorem zpP [bTab w0](h:St w0 E w)(i:Nat){b:Nat}{a:ASys}{s:Seg}(hi:nth E i=some s)(hs:SysS b a s){e:AEv}(hkd:e.kind=13)(hnm:RevN e.name)(hb:chkEv e=0)(rd:RdE w0 E eT e.v e.r.ts)(hvc:e.v.len≤e.v.cap)(hrv:∀t∈e.r.ts,revOk t.1)
  (hroom:a.fl.room<1000000) (hlast:a.fl.last+a.fl.room<4611686018427387904) (hname:e.name.size≤100000)
  (hmade:∀x∈fMade a.fl e.name (pdWant a e.name),0≤x∧x≤9000000000000000000) (hmn:(fMade a.fl e.name (pdWant a e.name)).length<100000) (hgone:∀x∈(fScale a.fl e.name (pdConc a e.name) (pdWant a e.name)).2,0≤x∧x≤9000000000000000000) (hgn:(fScale a.fl e.name (pdConc a e.name) (pdWant a e.name)).2.length<100000)
  (hpn:(fPods (pdFl a e.name).l e.name).length<1000000) {k:Sl→PT} (hk:Hk w0 E i b (sysPods a e) k):L.call Pr z04 [.pointer (some ⟨b,0,none⟩),evV e] (.one (.one .slice)) k w:=
 zgg h i hi hs hb (fun _=>hnm) rd hvc hrv (f:=z1C) (by rw[hkd];rfl) z7p (z7q (some ⟨b,0,none⟩) e.t) (fun h hi _ hk=>zo5 h _ hi hs hroom hlast hname hmade hmn hgone hgn hpn hk) hk
end Go.Proofs.YtdcdhcgmeahfmaaGreatDoor
namespace Go.Proofs.YtdcdhcgmeahfmaaGreatDoor
open Go.Dm
abbrev idB(x:Int):Prop:=0≤x∧x≤2147483647
structure FlI(k:Nat)(F:AFleet):Prop where
 few:FFew F
 r1:1≤F.room
 last:F.last≤30*(k:Int)
 rev:∀x∈F.l,RevN x.rev
 req:∀x∈F.l,∀q∈x.pod.reqs,idB q
theorem FlI.mono{k m:Nat}{F:AFleet}(h:FlI k F)(hm:k≤m):FlI m F:=⟨h.few,h.r1,by have:=h.last;omega,h.rev,h.req⟩
theorem FlI.upd{k:Nat}{F:AFleet}(h:FlI k F){id:Int}{g:APod→APod}(hf:FFew { F with l:=fUpd F.l id g })(hg:∀x∈F.l,x.id=id→∀q∈(g x.pod).reqs,idB q):FlI k { F with l:=fUpd F.l id g }:=
 ⟨hf,h.r1,h.last,fun y hy=>by
  rcases zf1 hy with hy | ⟨x,hx,_,rfl⟩
  ·exact h.rev y hy
  ·exact h.rev x hx,fun y hy=>by
  rcases zf1 hy with hy | ⟨x,hx,hid,rfl⟩
  ·exact h.req y hy
  ·exact hg x hx hid⟩
theorem zk3{p:APod}{q z:Int}(h:z∈(podTake p q).1.reqs):z∈p.reqs∨z=q:=by
 unfold podTake at h
 split at h
 ·exact .inl h
 ·split at h
  ·exact .inl h
  ·split at h
   ·exact .inl h
   ·rcases List.mem_cons.1 ((zav q p.reqs).mem_iff.1 h)with e | e
    ·exact .inr e
    ·exact .inl e
theorem zk6{p:APod}{q z:Int}(h:z∈(podGive p q).1.reqs):z∈p.reqs:=by
 unfold podGive at h
 split at h
 ·exact List.erase_subset h
 ·exact h
theorem zk5{p:APod}{z:Int}(h:z∈(podKill p).1.reqs):z∈p.reqs:=by
 unfold podKill at h
 split at h
 ·exact h
 ·cases h
theorem zkZ(p:APod):(podUp p).1.reqs=p.reqs:=by unfold podUp;split<;>rfl
theorem zk8(p:APod):(podDrain p).1.reqs=p.reqs:=by unfold podDrain;split<;>rfl
theorem FlI.take{k:Nat}{F:AFleet}(h:FlI k F)(rev:ByteArray){q:Int}(hq:idB q):FlI k (fTake F rev q).1:=by
 have hf:=h.few.take rev q
 unfold fTake at hf ⊢
 split
 ·exact h
 ·rename_i h1
  rw[if_neg h1]at hf
  split
  ·exact h
  ·rename_i x hx
   rw[hx]at hf
   exact h.upd hf fun y hy _ z hz=>by
    rcases zk3 hz with e | rfl
    ·exact h.req y hy z e
    ·exact hq
theorem FlI.give{k:Nat}{F:AFleet}(h:FlI k F)(q:Int):FlI k (fGive F q).1:=by
 have hf:=h.few.give q
 unfold fGive at hf ⊢
 split
 ·exact h
 ·rename_i x hx
  rw[hx]at hf
  exact h.upd hf fun y hy _ z hz=>h.req y hy z (zk6 hz)
theorem FlI.kill{k:Nat}{F:AFleet}(h:FlI k F)(id:Int):FlI k (fKill F id).1:=by
 have hf:=h.few.kill id
 unfold fKill at hf ⊢
 split
 ·exact h
 ·rename_i x hx
  rw[hx]at hf
  exact h.upd hf fun y hy _ z hz=>h.req y hy z (zk5 hz)
theorem FlI.up{k:Nat}{F:AFleet}(h:FlI k F)(id:Int):FlI k (fUpp F id).1:=by
 have hf:=h.few.up id
 unfold fUpp
 split
 ·exact h
 ·exact h.upd hf fun y hy _ z hz=>h.req y hy z (by rwa [zkZ]at hz)
theorem FlI.drain{k:Nat}{F:AFleet}(h:FlI k F)(rev:ByteArray):FlI k (drain1 rev F):=
 h.upd (h.few.drain rev) fun y hy _ z hz=>h.req y hy z (by rwa [zk8]at hz)
theorem FlI.shrink(rev:ByteArray):∀(n:Nat){k:Nat}{F:AFleet},FlI k F→FlI k (YtdcdhcgmeahfmaaGreatDoor.shrink rev n F).1
 | 0,_,_,h=>h
 | n+1,_,_,h=>FlI.shrink rev n (h.drain rev)
theorem zhD{rev:ByteArray}{conc:Int}:∀(n:Nat){F:AFleet}{x:AHeld},x∈(grow rev conc n F).l→x∈F.l∨(x.rev=rev∧x.pod=⟨1,conc,[]⟩)
 | 0,_,_,h=>.inl h
 | n+1,F,x,h=>by
  unfold grow grow1 at h
  rcases List.mem_append.1 h with h | h
  ·exact zhD n h
  ·rw[List.mem_singleton]at h
   subst h
   exact .inr ⟨rfl,rfl⟩
theorem zeZ(F:AFleet)(rev:ByteArray)(want:Int):(growN F rev want:Int)≤max 0 (F.room-F.l.length):=by rw[zph];omega
theorem FlI.scale{k:Nat}{F:AFleet}(h:FlI k F){rev:ByteArray}(hr:RevN rev){conc:Int}(hc:conc≤1000)(want:Int):FlI (k+1) (fScale F rev conc want).1:=by
 have hl:=h.few.l
 have hr20:=h.few.r
 unfold podsMost at hr20
 have hn:=zeZ F rev want
 have hg:FlI (k+1) (fGrown F rev conc want):=by
  refine⟨FFew.grow rev hc _ h.few (by omega),?_,?_,fun x hx=>?_,fun x hx q hq=>?_⟩
  ·unfold fGrown;rw[zcv];exact h.r1
  ·unfold fGrown;rw[zcx];have:=h.last;omega
  ·rcases zhD _ hx with hx | ⟨e,-⟩
   ·exact h.rev x hx
   ·rw[e];exact hr
  ·rcases zhD _ hx with hx | ⟨-,e⟩
   ·exact h.req x hx q hq
   ·rw[e]at hq;cases hq
 exact hg.shrink rev _
theorem zkP{F:AFleet}(ok:F.Ok)(rev:ByteArray)(q:Int):0≤(fTake F rev q).2.1∧(fTake F rev q).2.1≤F.last:=by
 have:=ok.lo
 unfold fTake
 split
 ·exact⟨Int.le_refl 0,this⟩
 ·split
  ·exact⟨Int.le_refl 0,this⟩
  ·rename_i x hx
   have:=ok.rng x (zhq hx).1
   dsimp only;omega
theorem zmT(F:AFleet)(rev:ByteArray)(q:Int):(fTake F rev q).1.last=F.last:=by
 unfold fTake
 split
 ·rfl
 ·split<;>rfl
theorem zfD{rev:ByteArray}:∀{l:List (Int×Int)}{F:AFleet}{all:Alls}{out:List Fate},F.Ok→F.last≤9000000000000000000→(∀x∈l,idB x.1)→(∀f∈out,f.Ok)→∀f∈(flowA rev l F all out).2.2.2,f.Ok
 | [],_,_,_,_,_,_,h=>h
 | x::l,F,all,out,ok,hl,hx,h=>by
  unfold flowA
  split
  ·have tp:=zkP ok rev x.1
   have hx1:=hx x (by simp)
   refine zfD (zlp ok rev x.1) (by rw[zmT];exact hl) (fun y hy=>hx y (by simp[hy])) fun f hf=>?_
   rcases List.mem_append.1 hf with hf | hf
   ·exact h f hf
   ·rw[List.mem_singleton]at hf
    subst hf
    exact⟨⟨hx1.1,Int.le_trans hx1.2 (by decide)⟩,⟨tp.1,Int.le_trans tp.2 hl⟩,by show s_.size≤1000;decide⟩
  ·exact h
theorem zhE{k:Nat}{rev:ByteArray}:∀{l:List (Int×Int)}{F:AFleet}{all:Alls}{out:List Fate},FlI k F→(∀x∈l,idB x.1)→FlI k (flowA rev l F all out).1
 | [],_,_,_,h,_=>h
 | x::l,F,all,out,h,hx=>by
  unfold flowA
  split
  ·exact zhE (h.take rev (hx x (by simp))) fun y hy=>hx y (by simp[hy])
  ·exact h
theorem zdH{rev:ByteArray}:∀{l:List (Int×Int)}{F:AFleet}{all:Alls}{out:List Fate},∀y∈(flowA rev l F all out).2.2.1,y∈l
 | [],_,_,_,y,h=>by cases h
 | x::l,F,all,out,y,h=>by
  unfold flowA at h
  split at h
  ·exact List.mem_cons_of_mem _ (zdH y h)
  ·exact h
theorem zj8{rev:ByteArray}:∀{l:List (Int×Int)}{F:AFleet}{all:Alls}{out:List Fate},(∀x∈all,idB x.1)→(∀x∈l,idB x.1)→∀x∈(flowA rev l F all out).2.1,idB x.1
 | [],_,_,_,h,_=>h
 | x::l,F,all,out,h,hx=>by
  unfold flowA
  split
  ·refine zj8 (fun y hy=>?_) fun y hy=>hx y (by simp[hy])
   rcases z1F hy with rfl | hy
   ·exact hx x (by simp)
   ·exact h y hy
  ·exact h
theorem z98{κ υ:Type}[DecidableEq κ](m:List (κ×υ))(a b:κ)(u:υ)(h:(mget m b).isSome=true):(mget (mset m a u) b).isSome=true:=by
 rw[z47];split
 ·rfl
 ·exact h
theorem zdG{rev:ByteArray}{q:Int}:∀{l:List (Int×Int)}{F:AFleet}{all:Alls}{out:List Fate},(mget all q).isSome=true→(mget (flowA rev l F all out).2.1 q).isSome=true
 | [],_,_,_,h=>h
 | x::l,F,all,out,h=>by
  unfold flowA
  split
  ·exact zdG (z98 _ _ _ _ h)
  ·exact h
structure GtI(k:Nat)(G:AGate):Prop where
 all:G.all.length≤2000*k
 ids:∀x∈G.all,idB x.1
 lines:G.lines.length≤k
 lid:∀x∈G.lines,∀y∈x.2,idB y.1
 wk:GWk G
 pat:1≤G.pat∧G.pat≤1000
 room:0≤G.room∧G.room≤8
theorem GtI.mono{k m:Nat}{G:AGate}(h:GtI k G)(hm:k≤m):GtI m G:=⟨by have:=h.all;omega,h.ids,by have:=h.lines;omega,h.lid,h.wk,h.pat,h.room⟩
theorem GtI.line{k:Nat}{G:AGate}(h:GtI k G)(rev:ByteArray):∀y∈lineOf G.lines rev,idB y.1:=fun y hy=>by
 unfold lineOf at hy
 cases hg:mget G.lines rev with
 | none=>rw[hg]at hy;cases hy
 | some l=>rw[hg]at hy;exact h.lid _ (z3R hg) y hy
theorem GtI.turn{k m:Nat}{G:AGate}(h:GtI k G){all:Alls}{rev:ByteArray}{l:List (Int×Int)}(hm:k+1≤m)(hl:all.length≤2000*m)(hi:∀x∈all,idB x.1)(hs:∀q,(mget G.all q).isSome=true→(mget all q).isSome=true)
  (h1:∀y∈l,idB y.1) (h2:∀y∈l,(mget all y.1).isSome=true):GtI m { G with all:=all,lines:=mset G.lines rev l }:=by
 have:=h.lines
 have:=z4U G.lines rev l
 refine⟨hl,hi,by dsimp only;omega,fun x hx y hy=>?_,fun x hx y hy=>?_,h.pat,h.room⟩
 ·rcases z1F hx with rfl | hx
  ·exact h1 y hy
  ·exact h.lid x hx y hy
 ·rcases z1F hx with rfl | hx
  ·exact h2 y hy
  ·exact hs _ (h.wk x hx y hy)
theorem GtI.req{k m:Nat}{G:AGate}(h:GtI k G){all:Alls}(hm:k≤m)(hl:all.length≤2000*m)(hi:∀x∈all,idB x.1)(hs:∀q,(mget G.all q).isSome=true→(mget all q).isSome=true):GtI m { G with all:=all }:=
 ⟨hl,hi,by have:=h.lines;dsimp only;omega,h.lid,fun x hx y hy=>hs _ (h.wk x hx y hy),h.pat,h.room⟩
theorem z9B{all:Alls}{id:Int}{x:ByteArray×Int}(h:∀x∈all,idB x.1)(hi:idB id):∀y∈mset all id x,idB y.1:=fun y hy=>by
 rcases z1F hy with rfl | hy
 ·exact hi
 ·exact h y hy
theorem zj6{k:Nat}{F:AFleet}{G:AGate}(ok:G.Ok)(hF:FlI k F)(hG:GtI k G)(rev:ByteArray):FlI k (gFlow F G rev).1∧GtI (k+1) (gFlow F G rev).2.1:=by
 have hl:=zaw (rev:=rev) (l:=lineOf G.lines rev) (F:=F) (all:=G.all) (out:=[])
 have hn:=z3y ok rev
 have:=hG.all
 have:=hG.room
 refine⟨zhE hF (hG.line rev),hG.turn (Nat.le_refl _) (by omega) (zj8 hG.ids (hG.line rev)) (fun q=>zdG) (fun y hy=>hG.line rev y (zdH y hy)) fun y hy=>?_⟩
 exact zdG (hG.wk.line rev y (zdH y hy))
theorem zfB{k:Nat}{F:AFleet}{G:AGate}(hk:k≤100000)(ok:F.Ok)(hF:FlI k F)(hG:GtI k G)(rev:ByteArray):∀f∈(gFlow F G rev).2.2,f.Ok:=
 zfD ok (by have:=hF.last;omega) (hG.line rev) (by simp)
theorem z9:(0:Int)≤0∧(0:Int)≤9000000000000000000:=⟨by decide,by decide⟩
theorem znK{k:Nat}{F:AFleet}{G:AGate}(okF:F.Ok)(ok:G.Ok)(hk:k≤10000)(hF:FlI k F)(hG:GtI k G){id:Int}(hid:idB id):FlI k (gDone F G id).1∧GtI (k+2) (gDone F G id).2.1:=by
 have hF':=hF.give id
 have hla:=hG.all
 have hg:GtI (k+1) { G with all:=mset G.all id ((fGive F id).2.1,3) }:=hG.req (by omega) (by have:=z4U G.all id ((fGive F id).2.1,3);omega) (z9B hG.ids hid) fun q=>z98 _ _ _ _
 unfold gDone
 split
 ·exact⟨hF',hG.mono (by omega)⟩
 ·have okg:({ G with all:=mset G.all id ((fGive F id).2.1,3) }:AGate).Ok:=ok.req (by omega) id _
  have:=zj6 okg (hF'.mono (Nat.le_succ k)) hg (fGive F id).2.1
  refine⟨?_,this.2⟩
  have h2:=zhE (k:=k) (rev:=(fGive F id).2.1) (l:=lineOf G.lines (fGive F id).2.1) (all:=mset G.all id ((fGive F id).2.1,3)) (out:=[]) hF' (hG.line _)
  exact h2
theorem zkg{k:Nat}{F:AFleet}{G:AGate}(okF:F.Ok)(hk:k≤10000)(hF:FlI k F)(hG:GtI k G){id:Int}(hid:idB id):∀f∈(gDone F G id).2.2.1,f.Ok:=by
 have hla:=hG.all
 have hg:GtI (k+1) { G with all:=mset G.all id ((fGive F id).2.1,3) }:=hG.req (by omega) (by have:=z4U G.all id ((fGive F id).2.1,3);omega) (z9B hG.ids hid) fun q=>z98 _ _ _ _
 unfold gDone
 split
 ·intro f hf;cases hf
 ·intro f hf
  rcases List.mem_cons.1 hf with rfl | hf
  ·exact⟨⟨hid.1,Int.le_trans hid.2 (by decide)⟩,z9,by show s_.size≤1000;decide⟩
  ·exact zfB (by omega:k+1≤100000) (zqM okF id) ((hF.give id).mono (Nat.le_succ k)) hg _ f hf
theorem znJ{F:AFleet}{G:AGate}(ok:G.Ok)(hn:G.all.length<80000000)(hr:G.room≤8)(id:Int):(gDone F G id).2.2.1.length<100000000:=by
 unfold gDone
 split
 ·simp
 ·have:=(zfA (F:=(fGive F id).1) (ok.req (by omega) id ((fGive F id).2.1,3)) (fGive F id).2.1).1
  dsimp only at this ⊢
  rw[List.length_cons]
  omega
theorem zpl{k:Nat}{F:AFleet}{G:AGate}(ok:G.Ok)(hF:FlI k F)(hG:GtI k G){id:Int}(hid:idB id)(rev:ByteArray)(now:Int):FlI k (gArr F G id rev now).1∧GtI (k+1) (gArr F G id rev now).2.1:=by
 have hla:=hG.all
 have hl:∀x:ByteArray×Int,(mset G.all id x).length≤2000*(k+1):=fun x=>by have:=z4U G.all id x;omega
 have hs:∀(x:ByteArray×Int) q,(mget G.all q).isSome=true→(mget (mset G.all id x) q).isSome=true:=fun x q=>z98 _ _ _ _
 have hln:∀(x:ByteArray×Int),∀y∈lineOf G.lines rev,(mget (mset G.all id x) y.1).isSome=true:=fun x y hy=>hs x _ (hG.wk.line rev y hy)
 unfold gArr
 split
 ·exact⟨hF,hG.mono (Nat.le_succ k)⟩
 ·split
  ·exact⟨hF,hG.req (Nat.le_succ k) (hl _) (z9B hG.ids hid) (hs _)⟩
  ·split
   ·exact⟨hF.take rev hid,hG.turn (Nat.le_refl _) (hl _) (z9B hG.ids hid) (hs _) (hG.line rev) (hln _)⟩
   ·split
    ·exact⟨hF,hG.turn (Nat.le_refl _) (hl _) (z9B hG.ids hid) (hs _) (hG.line rev) (hln _)⟩
    ·rename_i h4
     refine⟨hF,hG.turn (Nat.le_refl _) (hl _) (z9B hG.ids hid) (hs _) (fun y hy=>?_) fun y hy=>?_⟩ <;>
     ·unfold lPush at hy h4
      split at hy
      ·rename_i h5;rw[if_pos h5]at h4;exact absurd (show(5:Int)≠0 by decide) h4
      ·rename_i h5
       rw[if_neg h5]at h4
       split at hy
       ·rename_i h6;rw[if_pos h6]at h4;exact absurd (show(8:Int)≠0 by decide) h4
       ·rcases List.mem_append.1 hy with hy | hy
        ·first | exact hG.line rev y hy | exact hln _ y hy
        ·rw[List.mem_singleton]at hy
         subst hy
         first | exact hid | (rw[z47,if_pos rfl];rfl)
theorem znL{k:Nat}{F:AFleet}{G:AGate}(hk:k≤10000)(okF:F.Ok)(hF:FlI k F){id:Int}(hid:idB id)(rev:ByteArray)(now:Int):(gArr F G id rev now).2.2.Ok:=by
 have hi:0≤id∧id≤9000000000000000000:=⟨hid.1,Int.le_trans hid.2 (by decide)⟩
 have hz:(0:Int)≤0∧(0:Int)≤9000000000000000000:=⟨by decide,by decide⟩
 unfold gArr
 split
 ·exact⟨hi,hz,by show s_twice.size≤1000;decide⟩
 ·split
  ·exact⟨hi,hz,by show s_no_route.size≤1000;decide⟩
  ·split
   ·have:=zkP okF rev id
    have:=hF.last
    exact⟨hi,⟨by show 0≤(fTake F rev id).2.1;omega,by show(fTake F rev id).2.1≤9000000000000000000;omega⟩,by show s_.size≤1000;decide⟩
   ·split
    ·exact⟨hi,hz,by show s_overflow.size≤1000;decide⟩
    ·exact⟨hi,hz,by show s_.size≤1000;decide⟩
theorem ziW{rev:ByteArray}:∀{l:List Int}{all:Alls},(∀x∈all,idB x.1)→(∀x∈l,idB x)→∀x∈lateS rev l all,idB x.1
 | [],_,h,_=>h
 | x::l,all,h,hx=>ziW (l:=l) (z9B h (hx x (by simp))) fun y hy=>hx y (by simp[hy])
theorem zlc{l:List (Int×Int)}{now q:Int}(h:q∈lLate l now):∃y∈l,y.1=q:=by
 unfold lLate at h
 obtain⟨y,hy,e⟩:=List.mem_map.1 h
 exact⟨y,(List.mem_filter.1 hy).1,e⟩
structure TkI(m n:Nat)(G:AGate):Prop where
 all:G.all.length≤m
 ids:∀x∈G.all,idB x.1
 lines:G.lines.length≤n
 lid:∀x∈G.lines,∀y∈x.2,idB y.1
 wk:GWk G
 ok:G.Ok
theorem TkI.line{m n:Nat}{G:AGate}(h:TkI m n G)(rev:ByteArray):∀y∈lineOf G.lines rev,idB y.1:=fun y hy=>by
 unfold lineOf at hy
 cases hg:mget G.lines rev with
 | none=>rw[hg]at hy;cases hy
 | some l=>rw[hg]at hy;exact h.lid _ (z3R hg) y hy
theorem TkI.tick1{m n:Nat}{G:AGate}(h:TkI m n G){k:ByteArray}(hk:(mget G.lines k).isSome=true)(now:Int):TkI m n (YtdcdhcgmeahfmaaGreatDoor.tick1 now k G):=by
 refine⟨?_,?_,?_,?_,h.wk.tick1 k now,h.ok.tick1 h.wk hk now⟩
 ·have:=congrArg List.length (zba (rev:=k) (l:=lLate (lineOf G.lines k) now) (all:=G.all) (h.wk.late k now))
  simp only[List.length_map]at this
  have:=h.all
  unfold YtdcdhcgmeahfmaaGreatDoor.tick1;dsimp only;omega
 ·refine ziW h.ids fun q hq=>?_
  obtain⟨y,hy,rfl⟩:=zlc hq
  exact h.line k y hy
 ·have:=congrArg List.length (zf9 (G:=G) hk now)
  simp only[List.length_map]at this
  have:=h.lines
  omega
 ·intro x hx y hy
  rcases z1F hx with rfl | hx
  ·exact h.line k y (List.mem_filter.1 hy).1
  ·exact h.lid x hx y hy
theorem zf8{m n:Nat}{now:Int}{r:Int}:∀{ks:List ByteArray}{G:AGate}{out:List Fate},TkI m n G→G.room=r→(∀k∈ks,(mget G.lines k).isSome=true)→(∀f∈out,f.Ok)→
  TkI m n (tickA now ks G out).1∧(∀f∈(tickA now ks G out).2,f.Ok)∧((tickA now ks G out).2.length:Int)≤out.length+ks.length*max r 0∧(tickA now ks G out).1.pat=G.pat∧(tickA now ks G out).1.room=G.room
 | [],G,out,h,hr,_,ho=>⟨h,ho,by simp[tickA],rfl,rfl⟩
 | k::ks,G,out,h,hr,hk,ho=>by
  have h1:=h.tick1 (hk k (by simp)) now
  have hn:=zf9 (G:=G) (hk k (by simp)) now
  have hks:∀k'∈ks,(mget (tick1 now k G).lines k').isSome=true:=fun k' hk'=>by
   have:=hk k' (by simp[hk'])
   cases h3:mget (tick1 now k G).lines k' with
   | some _=>rfl
   | none=>
    rw[z2i,hn]at h3
    cases h4:mget G.lines k' with
    | none=>rw[h4]at this;cases this
    | some v=>exact absurd (List.mem_map.2 ⟨_,z3R h4,rfl⟩) h3
  have ho':∀f∈out++lateF (lLate (lineOf G.lines k) now),f.Ok:=fun f hf=>by
   rcases List.mem_append.1 hf with hf | hf
   ·exact ho f hf
   ·unfold lateF at hf
    obtain⟨q,hq,rfl⟩:=List.mem_map.1 hf
    obtain⟨y,hy,rfl⟩:=zlc hq
    have:=h.line k y hy
    exact⟨⟨this.1,Int.le_trans this.2 (by decide)⟩,z9,by show s_timeout.size≤1000;decide⟩
  obtain⟨a,b,c,d,e⟩:=zf8 (ks:=ks) (r:=r) h1 hr hks ho'
  refine⟨a,b,?_,d,e⟩
  have hll:=z3y h.ok k
  rw[hr]at hll
  have h5:(lLate (lineOf G.lines k) now).length≤(lineOf G.lines k).length:=by unfold lLate;rw[List.length_map];exact List.length_filter_le ..
  rw[List.length_append,zcu]at c
  show((tickA now ks (tick1 now k G) (out++lateF (lLate (lineOf G.lines k) now))).2.length:Int)≤_
  rw[List.length_cons]
  have:((ks.length+1:Nat):Int)*max r 0=ks.length*max r 0+max r 0:=by rw[Int.natCast_add,Int.add_mul];simp
  rw[this]
  omega
theorem zj5{k:Nat}{G:AGate}(ok:G.Ok)(hG:GtI k G)(now:Int):GtI k (gTick G now).1∧(∀f∈(gTick G now).2,f.Ok)∧(gTick G now).2.length≤8*k:=by
 have h:TkI G.all.length G.lines.length G:=⟨Nat.le_refl _,hG.ids,Nat.le_refl _,hG.lid,hG.wk,ok⟩
 obtain⟨a,b,c,d,e⟩:=zf8 (now:=now) (r:=G.room) (ks:=ssort (G.lines.map (·.1))) (out:=[]) h rfl (fun k hk=>by
  cases h4:mget G.lines k with
  | none=>rw[z2i]at h4;exact absurd (z7K.1 hk) h4
  | some v=>rfl) (by simp)
 have r:=hG.room
 have hl:=hG.lines
 refine⟨⟨Nat.le_trans a.all hG.all,a.ids,Nat.le_trans a.lines hl,a.lid,a.wk,?_,?_⟩,b,?_⟩
 ·unfold gTick;rw[d];exact hG.pat
 ·unfold gTick;rw[e];exact r
 ·rw[z2R,List.length_map]at c
  have h8:(G.lines.length:Int)*max G.room 0≤G.lines.length*8:=Int.mul_le_mul_of_nonneg_left (by omega) (by omega)
  unfold gTick
  simp only[List.length_nil]at c
  omega
structure ShI(k:Nat)(a:AShelf):Prop where
 n:a.n≤k
 few:a.Few
 cfg:∀n,(tget a.m n).is=true→(cfgOf (tget a.m n)).1=n∧specC (cfgOf (tget a.m n))=0∧1≤(tget a.m n).gen
 rt:∀n,(rget a.r n).is=true→(rget a.r n).r.name=n∧specE (rget a.r n).r=0
theorem ShI.mono{k m:Nat}{a:AShelf}(h:ShI k a)(hm:k≤m):ShI m a:=⟨by have:=h.n;omega,h.few,h.cfg,h.rt⟩
theorem zn5{k:Nat}{a:AShelf}(ok:a.Ok)(h:ShI k a)(c:Cfg)(ver:Int):ShI (k+1) (shPut a c ver).1:=by
 have hf:=zn6 h.few c ver
 unfold shPut at hf ⊢
 split
 ·exact h.mono (Nat.le_succ k)
 ·rename_i h1
  rw[if_neg h1]at hf
  split
  ·exact h.mono (Nat.le_succ k)
  ·rename_i h2
   rw[if_neg h2]at hf
   have hn:=h.n
   refine⟨by dsimp only;omega,hf,fun n hn2=>?_,h.rt⟩
   dsimp only[putC]at hn2 ⊢
   rw[zkN]at hn2 ⊢
   split
   ·rename_i e
    have h1':specC c=0:=by simpa using h1
    refine⟨e,h1',?_⟩
    have h3:=ok.gen c.1
    show(1:Int)≤(if(tget a.m c.1).is=true∧sameC (cfgOf (tget a.m c.1)) c=true then(tget a.m c.1).gen else(tget a.m c.1).gen+1)
    split
    ·rename_i h4;exact(h.cfg c.1 h4.1).2.2
    ·omega
   ·rename_i e;rw[if_neg e]at hn2;exact h.cfg n hn2
theorem zlL{k:Nat}{a:AShelf}(h:ShI k a)(r:ARt)(ver:Int):ShI (k+1) (shPutR a r ver).1:=by
 have hf:=zlM h.few r ver
 unfold shPutR at hf ⊢
 split
 ·exact h.mono (Nat.le_succ k)
 ·rename_i h1
  rw[if_neg h1]at hf
  split
  ·exact h.mono (Nat.le_succ k)
  ·rename_i h2
   rw[if_neg h2]at hf
   have hn:=h.n
   refine⟨by dsimp only;omega,hf,h.cfg,fun n hn2=>?_⟩
   dsimp only[putRt]at hn2 ⊢
   rw[zoI]at hn2 ⊢
   split
   ·rename_i e
    exact⟨e,by simpa using h1⟩
   ·rename_i e;rw[if_neg e]at hn2;exact h.rt n hn2
theorem z93{c:Cfg}(h:specC c=0):shortB c.1.data.toList 16=true∧(0≤@id Int c.2.1∧@id Int c.2.1≤255)∧(1≤@id Int c.2.2.1∧@id Int c.2.2.1≤8)∧(1≤@id Int c.2.2.2.2.1∧@id Int c.2.2.2.2.1≤10)∧(0≤@id Int c.2.2.2.1∧@id Int c.2.2.2.1≤@id Int c.2.2.2.2.1)∧(0≤@id Int c.2.2.2.2.2.1∧@id Int c.2.2.2.2.2.1≤30):=by
 unfold specC at h
 split at h
 ·rename_i h1
  split at h
  ·rename_i h2
   unfold cfgNum at h2
   simp only[Bool.and_eq_true,decide_eq_true_eq]at h2
   exact⟨h1,h2.1,h2.2.1,h2.2.2.1,h2.2.2.2.1,h2.2.2.2.2⟩
  ·cases h
 ·cases h
structure BkI(k:Nat)(a:ABook):Prop where
 len:a.all.length≤k
 rev:∀p∈a.all,RevN p.1
 cfg:∀p∈a.all,specC p.2.cfg=0
theorem BkI.mono{k m:Nat}{a:ABook}(h:BkI k a)(hm:k≤m):BkI m a:=⟨by have:=h.len;omega,h.rev,h.cfg⟩
theorem BkI.prove{k:Nat}{a:ABook}(h:BkI k a)(rev:ByteArray):BkI k (bkProve a rev).1:=by
 unfold bkProve
 split
 ·exact⟨h.len,h.rev,h.cfg⟩
 ·exact h
theorem BkI.stamp{k:Nat}{a:ABook}(h:BkI k a){c:Cfg}(hc:specC c=0){g:Nat}(h1:1≤g)(hg:g<100):BkI (k+1) (bkStamp a c g).1:=by
 unfold bkStamp
 split
 ·exact h.mono (Nat.le_succ k)
 ·have:=h.len
  have:=z4U a.all (revB c.1 g) (rvOf (revB c.1 g) g c)
  refine⟨by dsimp only;omega,fun p hp=>?_,fun p hp=>?_⟩
  ·rcases z1F hp with rfl | hp
   ·exact⟨c.1,g,(z93 hc).1,h1,hg,rfl⟩
   ·exact h.rev p hp
  ·rcases z1F hp with rfl | hp
   ·exact hc
   ·exact h.cfg p hp
theorem RevN.size{n:ByteArray}(h:RevN n):n.size≤100:=by
 obtain⟨c,g,hc,-,hg,rfl⟩:=h
 have:=zb6 c hg
 unfold shortB at hc
 simp only[Bool.and_eq_true,decide_eq_true_eq]at hc
 have h2:(c.data.toList.length:Int)≤16:=hc.2
 have h3:c.data.toList.length=c.size:=by rw[Array.length_toList];rfl
 omega
theorem zaB{a:ABook}{rev:ByteArray}(h:bkHas a rev=true):(rev,bkGet a rev)∈a.all:=by
 unfold bkHas at h
 unfold bkGet
 cases h2:mget a.all rev with
 | none=>rw[h2]at h;cases h
 | some v=>exact z3R h2
theorem zjl{a:ABook}{rev:ByteArray}(h:rev∈bkAll a):bkHas a rev=true:=by
 unfold bkAll at h
 unfold bkHas
 cases h2:mget a.all rev with
 | none=>rw[z2i]at h2;exact absurd (z7K.1 h) h2
 | some v=>rfl
theorem zjk{a:ABook}(ok:a.Ok){c:ByteArray}{q:ByteArray→Bool}:∀{l:List ByteArray}{t:Rv},(∀x∈l,bkHas a x=true)→(t.1=s_∨bkHas a t.1=true)→((l.foldl (bkStep a c q) t).1=s_∨bkHas a (l.foldl (bkStep a c q) t).1=true)
 | [],t,_,h=>h
 | x::l,t,hl,h=>by
  rw[List.foldl_cons]
  refine zjk ok (fun y hy=>hl y (by simp[hy])) ?_
  have hx:=hl x (by simp)
  have e:(bkGet a x).1=x:=(ok.name _ (zaB hx)).1
  unfold bkStep
  split
  ·split
   ·split
    ·exact .inr (by rw[e];exact hx)
    ·exact h
   ·exact h
  ·exact h
theorem zkm{a:ABook}(ok:a.Ok)(c:ByteArray)(q:ByteArray→Bool):(bkBest a c q).1=s_∨bkHas a (bkBest a c q).1=true:=
 zjk ok (fun _ h=>zjl h) (.inl rfl)
theorem BkI.size{k:Nat}{a:ABook}(h:BkI k a){rev:ByteArray}(hr:bkHas a rev=true):rev.size≤100:=(h.rev _ (zaB hr)).size
theorem zlF{k:Nat}{a:ABook}(ok:a.Ok)(h:BkI k a)(cfg:ByteArray)(t:Tgt):(tgtOf a cfg t).1.size≤100:=by
 have hs:s_.size≤100:=by decide
 unfold tgtOf
 split
 ·split
  ·exact hs
  ·rename_i h2
   rcases zkm ok cfg (bkProved a)with e | e
   ·exact absurd e h2
   ·exact h.size e
 ·split
  ·rename_i h2
   split
   ·exact h.size h2
   ·exact hs
  ·exact hs
structure ByI(k:Nat)(bk:ABook)(m:List (ByteArray×ABes)):Prop where
 has:∀p∈bk.all,(mget m p.1).isSome=true
 xs:∀x∈m,x.2.xs.length≤k
 rng:∀x∈m,∀y∈x.2.xs,0≤y∧y≤100000000
 want:∀x∈m,(0≤x.2.want∧x.2.want≤10)∧(0≤x.2.left∧x.2.left≤1000)
theorem ByI.mono{k m:Nat}{bk:ABook}{b:List (ByteArray×ABes)}(h:ByI k bk b)(hm:k≤m):ByI m bk b:=⟨h.has,fun x hx=>by have:=h.xs x hx;omega,h.rng,h.want⟩
theorem ByI.book{k:Nat}{bk bk':ABook}{b:List (ByteArray×ABes)}(h:ByI k bk b)(e:bk'.all=bk.all):ByI k bk' b:=⟨by rw[e];exact h.has,h.xs,h.rng,h.want⟩
theorem ByI.set{k:Nat}{bk:ABook}{b:List (ByteArray×ABes)}(h:ByI k bk b){rev:ByteArray}{x:ABes}(h1:x.xs.length≤k)(h2:∀y∈x.xs,0≤y∧y≤100000000)(h3:(0≤x.want∧x.want≤10)∧(0≤x.left∧x.left≤1000)):ByI k bk (mset b rev x):=
 ⟨fun p hp=>z98 _ _ _ _ (h.has p hp),fun y hy=>by
  rcases z1F hy with rfl | hy
  ·exact h1
  ·exact h.xs y hy,fun y hy=>by
  rcases z1F hy with rfl | hy
  ·exact h2
  ·exact h.rng y hy,fun y hy=>by
  rcases z1F hy with rfl | hy
  ·exact h3
  ·exact h.want y hy⟩
theorem ByI.tick{k:Nat}{bk:ABook}{G:AGate}(hb:∀rev,busyB G rev≤100000000):∀{l:List ByteArray}{b:List (ByteArray×ABes)},l.Nodup→(∀p∈bk.all,(mget b p.1).isSome=true)→(∀x∈b,x.1∈l→x.2.xs.length≤k)→(∀x∈b,x.2.xs.length≤k+1)→
  (∀x∈b,∀y∈x.2.xs,0≤y∧y≤100000000)→(∀x∈b,(0≤x.2.want∧x.2.want≤10)∧(0≤x.2.left∧x.2.left≤1000))→ByI (k+1) bk (l.foldl (tkStep G) b)
 | [],b,_,h1,_,h2,h3,h4=>⟨h1,h2,h3,h4⟩
 | rev::l,b,nd,h1,ha,h2,h3,h4=>by
  rw[List.foldl_cons]
  rw[List.nodup_cons]at nd
  unfold tkStep
  split
  ·rename_i x hx
   have hm:=z3R hx
   have hxl:x.xs.length≤k:=ha _ hm (by simp)
   refine ByI.tick hb nd.2 (fun p hp=>z98 _ _ _ _ (h1 p hp)) (fun y hy hl=>?_) (fun y hy=>?_) (fun y hy=>?_) fun y hy=>?_
   ·rcases z1F hy with rfl | hy
    ·exact absurd hl nd.1
    ·exact ha y hy (by simp[hl])
   ·rcases z1F hy with rfl | hy
    ·simp;omega
    ·exact h2 y hy
   ·rcases z1F hy with rfl | hy
    ·intro z hz
     rcases List.mem_append.1 hz with hz | hz
     ·exact h3 _ hm z hz
     ·rw[List.mem_singleton]at hz
      have:=hb rev
      subst hz
      split<;>omega
    ·exact h3 y hy
   ·rcases z1F hy with rfl | hy
    ·have:=h4 _ hm
     exact this
    ·exact h4 y hy
  ·exact ByI.tick hb nd.2 h1 (fun y hy hl=>ha y hy (by simp[hl])) h2 h3 h4
theorem znI(all:Alls)(rev:ByteArray):(gWith all rev).length≤all.length:=by
 unfold gWith
 rw[z7T,List.length_map]
 exact List.length_filter_le ..
theorem zqT{k:Nat}{G:AGate}(ok:G.Ok)(hG:GtI k G)(hk:k≤10001)(rev:ByteArray):0≤busyB G rev∧busyB G rev≤100000000:=by
 have h1:=z3y ok rev
 have h2:=znI G.all rev
 have h3:=hG.all
 have h4:=hG.room
 unfold busyB gWait
 rw[List.length_map]
 omega
structure WyI(k:Nat)(a:AWay):Prop where
 fr:WBd a.fr
 to:WBd a.to
 ns:WBd a.ns
 zf:∀s∈a.fr,s.1.size≤100
 zt:∀s∈a.to,s.1.size≤100
 zn:∀s∈a.ns,s.1.size≤100
 zg:∀s∈a.ng,s.1.size≤100∧s.2.1.size≤100
 lf:a.fr.length≤6*k
 lt:a.to.length≤6
 ln:a.ns.length≤6*k
 lg:a.ng.length≤6
 since:0≤a.since∧a.since≤1048576
abbrev RoI(k:Nat)(m:ARoll):Prop:=∀n x,mget m n=some x→WyI k x
theorem WyI.mono{k m:Nat}{a:AWay}(h:WyI k a)(hm:k≤m):WyI m a:=⟨h.fr,h.to,h.ns,h.zf,h.zt,h.zn,h.zg,by have:=h.lf;omega,h.lt,by have:=h.ln;omega,h.lg,h.since⟩
theorem WyI.ok{k:Nat}{a:AWay}(h:WyI k a)(hk:k≤10000):a.Ok:=⟨h.fr,h.to,h.ns,by have:=h.lf;omega,by have:=h.lt;omega,by have:=h.ln;omega,by have:=h.lg;omega⟩
theorem zkk{α:Type}[Inhabited α][DecidableEq α]{zs:List α}{x:α}(h:x∈Lib.compact zs):x∈zs:=by
 unfold Lib.compact Lib.compactUpTo at h
 obtain⟨i,hi,rfl⟩:=List.mem_map.1 h
 have hi:=(List.mem_filter.1 hi).1
 rw[List.mem_range]at hi
 simp[hi]
theorem zn8{l:List ByteArray}{x:ByteArray}(h:x∈scomp l):x∈l:=by
 unfold scomp at h
 obtain⟨y,hy,rfl⟩:=List.mem_map.1 h
 obtain⟨z,hz,rfl⟩:=List.mem_map.1 (zkk hy)
 exact hz
theorem zns{fr to:List Shr}{x:ByteArray}(h:x∈namesOf fr to):(∃s∈fr,s.1=x)∨∃s∈to,s.1=x:=by
 have h:=z7K.1 (zn8 h)
 rcases List.mem_append.1 h with h | h
 ·exact .inl (List.mem_map.1 h)
 ·exact .inr (List.mem_map.1 h)
theorem znt(fr to:List Shr):(namesOf fr to).length≤fr.length+to.length:=by
 have:=ziC (ssort (fr.map (·.1)++to.map (·.1)))
 rw[z2R,List.length_append,List.length_map,List.length_map]at this
 exact this
theorem zt3{fr to:List Shr}{gone whole:Int}(h0:0<gone)(h1:gone<whole)(n:ByteArray):wOf fr n+upOf fr to gone whole n≤max (wOf fr n) (wOf to n):=by
 unfold upOf
 split
 ·rename_i hc
  have:(wOf to n-wOf fr n)*gone/whole≤wOf to n-wOf fr n:=Int.ediv_le_of_le_mul (by omega) (Int.mul_le_mul_of_nonneg_left (by omega) (by omega))
  omega
 ·omega
theorem ziF{fr to:List Shr}{gone whole:Int}(hf:WBd fr)(ht:WBd to)(h0:0<gone)(h1:gone<whole):∀{l:List ByteArray}{st:Int×List Shr},(∀x∈l,x.size≤100)→0≤st.1→WBd st.2→(∀s∈st.2,s.1.size≤100)→
  WBd (l.foldl (rollStep fr to gone whole) st).2∧(∀s∈(l.foldl (rollStep fr to gone whole) st).2,s.1.size≤100)∧(l.foldl (rollStep fr to gone whole) st).2.length≤st.2.length+l.length
 | [],st,_,_,h3,h4=>⟨h3,h4,Nat.le_refl _⟩
 | n::l,st,hl,h2,h3,h4=>by
  rw[List.foldl_cons]
  have a:=zam (r:=n) hf
  have b:=zam (r:=n) ht
  have c:=zha hf ht h0 h1 n
  have d:=zt3 (fr:=fr) (to:=to) h0 h1 n
  have key:0≤(rollStep fr to gone whole st n).1∧WBd (rollStep fr to gone whole st n).2∧(∀s∈(rollStep fr to gone whole st n).2,s.1.size≤100)∧(rollStep fr to gone whole st n).2.length≤st.2.length+1:=by
   have hv:∀m:Int,wOf fr n+m≤1000→WBd (if 0<wOf fr n+m then st.2++[(n,wOf fr n+m,())]else st.2)∧(∀s∈(if 0<wOf fr n+m then st.2++[(n,wOf fr n+m,())]else st.2),s.1.size≤100)∧(if 0<wOf fr n+m then st.2++[(n,wOf fr n+m,())]else st.2).length≤st.2.length+1:=by
    intro m hm
    split
    ·rename_i hp
     refine⟨fun s hs=>?_,fun s hs=>?_,by simp⟩
     ·rcases List.mem_append.1 hs with hs | hs
      ·exact h3 s hs
      ·rw[List.mem_singleton]at hs;subst hs;exact⟨by show(0:Int)≤wOf fr n+m;omega,hm⟩
     ·rcases List.mem_append.1 hs with hs | hs
      ·exact h4 s hs
      ·rw[List.mem_singleton]at hs;subst hs;exact hl n (by simp)
    ·exact⟨h3,h4,Nat.le_succ _⟩
   unfold rollStep
   dsimp only
   by_cases hd:0<wOf fr n-wOf to n
   ·simp only[if_pos hd]
    refine⟨by split<;>omega,hv _ (by split<;>omega)⟩
   ·simp only[if_neg hd]
    exact⟨h2,hv _ (by omega)⟩
  obtain⟨k1,k2,k3,k4⟩:=key
  obtain⟨r1,r2,r3⟩:=ziF hf ht h0 h1 (l:=l) (fun x hx=>hl x (by simp[hx])) k1 k2 k3
  exact⟨r1,r2,by rw[List.length_cons];omega⟩
theorem zkJ{fr to:List Shr}{gone whole:Int}(hf:WBd fr)(ht:WBd to)(h0:0<gone)(h1:gone<whole):∀l:List ByteArray,0≤(l.map (upOf fr to gone whole)).sum
 | []=>Int.le_refl 0
 | n::l=>by
  have:=zkJ hf ht h0 h1 l
  have:=(zha hf ht h0 h1 n).1
  rw[List.map_cons,List.sum_cons];omega
theorem ziB{fr to:List Shr}(hf:WBd fr)(ht:WBd to)(zf:∀s∈fr,s.1.size≤100)(zt:∀s∈to,s.1.size≤100)(gone whole:Int) :
  WBd (sharesOf fr to gone whole)∧(∀s∈sharesOf fr to gone whole,s.1.size≤100)∧(sharesOf fr to gone whole).length≤fr.length+to.length:=by
 unfold sharesOf
 split
 ·exact⟨ht,zt,by omega⟩
 ·split
  ·exact⟨hf,zf,by omega⟩
  ·rename_i h1 h2
   have:=ziF (gone:=gone) (whole:=whole) hf ht (by omega) (by omega) (l:=namesOf fr to) (st:=(((namesOf fr to).map (upOf fr to gone whole)).sum,[])) (fun x hx=>by
    rcases zns hx with ⟨s,hs,rfl⟩ | ⟨s,hs,rfl⟩
    ·exact zf s hs
    ·exact zt s hs) (zkJ hf ht (by omega) (by omega) _) (by intro s hs;cases hs) (by intro s hs;cases hs)
   have hn:=znt fr to
   refine⟨this.1,this.2.1,?_⟩
   have h3:=this.2.2
   simp only[List.length_nil,Nat.zero_add]at h3
   exact Nat.le_trans h3 hn
structure TabI(t:ATab):Prop where
 w:WBd t.sh
 zs:∀s∈t.sh,s.1.size≤100
 zg:∀s∈t.tg,s.1.size≤100∧s.2.1.size≤100
 ls:t.sh.length≤6
 lg:t.tg.length≤6
theorem zim{k:Nat}{m:ARoll}(h:RoI k m)(n:ByteArray){t:ATab}(ht:TabI t){now:Int}(hn:0≤now∧now≤1048576)(whole:Int)(hk:1≤k) :
  WBd (wayOf m n t now whole).fr∧WBd (wayOf m n t now whole).to∧(∀s∈(wayOf m n t now whole).fr,s.1.size≤100)∧(∀s∈(wayOf m n t now whole).to,s.1.size≤100)∧(wayOf m n t now whole).fr.length≤6*k∧(wayOf m n t now whole).to.length≤6∧0≤(wayOf m n t now whole).since∧(wayOf m n t now whole).since≤1048576:=by
 unfold wayOf
 have:=ht.ls
 split
 ·rename_i a ha
  have w:=h n a ha
  split
  ·exact⟨w.fr,w.to,w.zf,w.zt,w.lf,w.lt,w.since.1,w.since.2⟩
  ·exact⟨w.ns,ht.w,w.zn,ht.zs,w.ln,ht.ls,hn.1,hn.2⟩
 ·exact⟨ht.w,ht.w,ht.zs,ht.zs,by dsimp only;omega,ht.ls,hn.1,hn.2⟩
theorem zlS{k:Nat}{m:ARoll}(h:RoI k m)(n:ByteArray){t:ATab}(ht:TabI t){now:Int}(hn:0≤now∧now≤1048576)(whole:Int)(hk:1≤k):RoI (k+1) (roTurn m n t now whole):=by
 intro n' x hx
 unfold roTurn at hx
 rw[z47]at hx
 split at hx
 ·obtain⟨a1,a2,a3,a4,a5,a6,a7,a8⟩:=zim h n ht hn whole hk
  have s:=ziB a1 a2 a3 a4 (now-(wayOf m n t now whole).since) whole
  cases hx
  exact⟨a1,a2,s.1,a3,a4,s.2.1,ht.zg,by dsimp only;omega,a6,by have:=s.2.2;dsimp only[nowOf];omega,ht.lg,a7,a8⟩
 ·exact(h n' x hx).mono (Nat.le_succ k)
theorem znr{k:Nat}{m:ARoll}(h:RoI k m)(n:ByteArray){t:ATab}(ht:TabI t){now:Int}(hn:0≤now∧now≤1048576)(whole:Int)(hk:1≤k):WBd (nowOf m n t now whole).sh∧(∀s∈(nowOf m n t now whole).sh,s.1.size≤100)∧(nowOf m n t now whole).sh.length≤6*k+6:=by
 obtain⟨a1,a2,a3,a4,a5,a6,-,-⟩:=zim h n ht hn whole hk
 have s:=ziB a1 a2 a3 a4 (now-(wayOf m n t now whole).since) whole
 exact⟨s.1,s.2.1,by have:=s.2.2;dsimp only[nowOf];omega⟩
theorem RoI.del{k:Nat}{m:ARoll}(h:RoI k m)(nd:(m.map (·.1)).Nodup)(n:ByteArray):RoI k (mdel m n):=by
 intro n' x hx
 rw[zft n n' nd]at hx
 split at hx
 ·cases hx
 ·exact h n' x hx
structure RgI(j:Nat)(ws:MSI)(ts:MSS):Prop where
 lw:ws.length≤j
 lt:ts.length≤j
 zw:∀x∈ws,x.1.size≤100∧0≤x.2∧x.2≤100*j
 zt:∀x∈ts,x.1.size≤100∧x.2.size≤100
theorem ziG{k:Nat}{a:ABook}(ok:a.Ok)(h:BkI k a)(cfg:ByteArray):∀{l:List Tgt}{j:Nat}{ws:MSI}{ts:MSS},(∀t∈l,(0≤pct t∧pct t≤100)∧t.2.1.size≤100)→RgI j ws ts→RgI (j+l.length) (resGo a cfg l ws ts).2.1 (resGo a cfg l ws ts).2.2
 | [],_,_,_,_,h=>h
 | t::l,j,ws,ts,hl,hr=>by
  rw[zgD]
  have ht:=hl t (by simp)
  have hz:=zlF ok h cfg t
  have e:j+(t::l).length=(j+1)+l.length:=by rw[List.length_cons];omega
  split
  ·rw[e]
   refine ziG ok h cfg (fun x hx=>hl x (by simp[hx])) ⟨?_,?_,fun x hx=>?_,fun x hx=>?_⟩
   ·have:=z4U ws (tgtOf a cfg t).1 ((mget ws (tgtOf a cfg t).1).getD 0+pct t);have:=hr.lw;omega
   ·have:=hr.lt
    split
    ·omega
    ·have:=z4U ts t.2.1 (tgtOf a cfg t).1;omega
   ·rcases z1F hx with rfl | hx
    ·refine⟨hz,?_⟩
     dsimp only
     cases hg:mget ws (tgtOf a cfg t).1 with
     | none=>simp only[Option.getD_none];omega
     | some v=>have:=(hr.zw _ (z3R hg)).2;simp only[Option.getD_some];dsimp only at this;omega
    ·have:=hr.zw x hx
     exact⟨this.1,this.2.1,by omega⟩
   ·split at hx
    ·exact hr.zt x hx
    ·rcases z1F hx with rfl | hx
     ·exact⟨ht.2,hz⟩
     ·exact hr.zt x hx
  ·exact⟨by have:=hr.lw;dsimp only;omega,by have:=hr.lt;dsimp only;omega,fun x hx=>by have:=hr.zw x hx;exact⟨this.1,this.2.1,by rw[e];omega⟩,hr.zt⟩
theorem zl0{m:List (ByteArray×Int)}{s:Shr}(h:s∈ordI m):(s.1,@id Int s.2.1)∈m:=by
 unfold ordI at h
 obtain⟨x,hx,rfl⟩:=List.mem_map.1 h
 have hx:=z7K.1 hx
 cases hg:mget m x with
 | none=>exact absurd hx (z2i.1 hg)
 | some v=>exact z3R hg
theorem zoT{m:List (ByteArray×ByteArray)}{s:Tgo}(h:s∈ordS m):(s.1,s.2.1)∈m:=by
 unfold ordS at h
 obtain⟨x,hx,rfl⟩:=List.mem_map.1 h
 have hx:=z7K.1 hx
 cases hg:mget m x with
 | none=>exact absurd hx (z2i.1 hg)
 | some v=>exact z3R hg
theorem zfl{k:Nat}{a:ABook}(ok:a.Ok)(h:BkI k a){r:ARt}(hl:r.ts.length≤6)(ht:∀t∈r.ts,(0≤pct t∧pct t≤100)∧t.2.1.size≤100):TabI (resolve a r).1:=by
 have hg:=ziG ok h r.cfg (l:=r.ts) (j:=0) (ws:=[]) (ts:=[]) ht ⟨Nat.le_refl _,Nat.le_refl _,by simp,by simp⟩
 unfold resolve
 split
 ·refine⟨fun s hs=>?_,fun s hs=>?_,fun s hs=>?_,?_,?_⟩
  ·have:=(hg.zw _ (zl0 (List.mem_filter.1 hs).1)).2
   dsimp only at this
   exact⟨this.1,by omega⟩
  ·exact(hg.zw _ (zl0 (List.mem_filter.1 hs).1)).1
  ·exact hg.zt _ (zoT hs)
  ·have h1:=List.length_filter_le posW (ordI (resGo a r.cfg r.ts [] []).2.1)
   have h2:(ordI (resGo a r.cfg r.ts [] []).2.1).length=(resGo a r.cfg r.ts [] []).2.1.length:=by unfold ordI;rw[List.length_map,z2R,List.length_map]
   have:=hg.lw
   dsimp only;omega
  ·have h2:(ordS (resGo a r.cfg r.ts [] []).2.2).length=(resGo a r.cfg r.ts [] []).2.2.length:=by unfold ordS;rw[List.length_map,z2R,List.length_map]
   have:=hg.lt
   dsimp only;omega
 ·exact⟨(by intro s hs;cases hs),(by intro s hs;cases hs),(by intro s hs;cases hs),Nat.zero_le _,Nat.zero_le _⟩
theorem ziA{a:ARt}(h:specE a=0):(shortB a.name.data.toList 16=true∧shortB a.cfg.data.toList 16=true)∧(0≤a.roll∧a.roll≤60)∧a.ts.length≤6∧∀t∈a.ts,(0≤pct t∧pct t≤100)∧t.2.1.size≤100:=by
 have hl:=zff h
 unfold specE at h
 split at h
 ·rename_i h1
  split at h
  ·rename_i h2
   split at h
   ·rename_i h3
    refine⟨h1,h2,hl,fun t ht=>?_⟩
    have h4:tgE t=0:=by
     split at h
     ·rename_i x hx
      have:=List.find?_some hx
      simp only[decide_eq_true_eq]at this
      exact absurd h this
     ·rename_i hx
      have:=List.find?_eq_none.1 hx t ht
      simpa using this
    refine⟨zq0 h4,?_⟩
    unfold tgE at h4
    split at h4
    ·cases h4
    ·rename_i h5
     unfold tagBad at h5
     by_cases e:t.2.1=s_
     ·rw[e];decide
     ·have h6:shortB t.2.1.data.toList 8=true:=by simpa [e]using h5
      unfold shortB at h6
      simp only[Bool.and_eq_true,decide_eq_true_eq]at h6
      have h7:(t.2.1.data.toList.length:Int)≤8:=h6.2
      have h8:t.2.1.data.toList.length=t.2.1.size:=by rw[Array.length_toList];rfl
      omega
   ·cases h
  ·cases h
 ·cases h
theorem zlH{t:ATab}{m:Nat}(hw:WBd t.sh)(zs:∀s∈t.sh,s.1.size≤100)(zg:∀s∈t.tg,s.1.size≤100∧s.2.1.size≤100)(hl:t.sh.length+t.tg.length≤m)(hm:m≤80000):TabB t:=by
 refine⟨fun s hs=>⟨hw s hs,by have:=zs s hs;omega⟩,fun s hs=>by have:=zg s hs;omega,?_⟩
 have h:=zeY 1200 (tabParts t) (fun x hx=>by
  unfold tabParts at hx
  rcases List.mem_append.1 hx with hx | hx
  ·obtain⟨s,hs,rfl⟩:=List.mem_map.1 hx
   have h1:=zs s hs
   have h2:=zfI (@id Int s.2.1).toNat
   have h3:=hw s hs
   have h4:s___b5df.size=1:=rfl
   unfold shT
   rw[ByteArray.size_append,ByteArray.size_append]
   omega
  ·obtain⟨s,hs,rfl⟩:=List.mem_map.1 hx
   have h1:=zg s hs
   have h4:s___b5e2.size=1:=rfl
   unfold toT
   rw[ByteArray.size_append,ByteArray.size_append]
   omega)
 unfold tabText
 have h2:(tabParts t).length=t.sh.length+t.tg.length:=by unfold tabParts;simp
 rw[h2]at h
 have:(t.sh.length+t.tg.length)*(1200+1)≤80000*1201:=Nat.mul_le_mul (by omega) (by omega)
 omega
end Go.Proofs.YtdcdhcgmeahfmaaGreatDoor
namespace Go.Proofs.YtdcdhcgmeahfmaaGreatDoor
open Go.Dm
attribute [local irreducible] L.load L.store L.chk L.new L.nonnil L.guard L.ite L.draw L.idx L.sem L.semR L.semU L.chkSem L.next L.call L.callV L.join L.alts L.loop L.begin L.endRound L.range
variable {w0 w:World}{E:List Seg}
def sysDrop(a:ASys)(e:AEv):ASys×List ByteArray:=
 if(shDrop a.sh e.n e.name e.draw).2≠0 then({ a with sh:=(shDrop a.sh e.n e.name e.draw).1 },refusedB (shDrop a.sh e.n e.name e.draw).2)
 else({ a with sh:=(shDrop a.sh e.n e.name e.draw).1,ro:=if e.n=2 then mdel a.ro e.name else a.ro },[lineB zng [e.name]])
def sysDown(a:ASys)(e:AEv):ASys×List ByteArray:=
 if(fKill a.fl e.n).2.2≠0 then({ a with fl:=(fKill a.fl e.n).1 },refusedB (fKill a.fl e.n).2.2)
 else({ a with fl:=(fKill a.fl e.n).1,gt:=(gLost a.gt (fKill a.fl e.n).2.1).1 },lineB zrR [decD e.n.toNat]::(gLost a.gt (fKill a.fl e.n).2.1).2.map fateB)
def mn2(a b:Int):Int:=if b<a then b else a
def mx2(a b:Int):Int:=if b>a then b else a
def scNeed(s n c:Int):Int:=if n≤0 then 0 else if c≤0 then 0 else(s+n*c-1)/(n*c)
abbrev scM(ready:Int):Int:=if ready>1 then ready else 1
def scLeft(left b m:Int):Int:=if b≥2*m then 6 else if 0>left-1 then 0 else left-1
def scW1(want left' a b:Int):Int:=if left'>0 then mx2 (mx2 want a) b else a
def scW2(w1 want busy idle grace:Int):Int:=if w1=0∧(busy>0∨(want>0∧idle<grace))then 1 else w1
def scEnd(w2 ready mi ma:Int):Int:=mn2 (mx2 (mx2 (mn2 w2 (4*scM ready)) (ready/2)) mi) ma
def scDec(want left:Int)(c:Cfg)(ready busy st sts sh shs idle:Int):Int×Int:=
 (scEnd (scW2 (scW1 want (scLeft left (scNeed sh shs c.2.2.1) (scM ready)) (scNeed st sts c.2.2.1) (scNeed sh shs c.2.2.1)) want busy idle c.2.2.2.2.2.1) ready c.2.2.2.1 c.2.2.2.2.1,scLeft left (scNeed sh shs c.2.2.1) (scM ready))
def scOf(a:ASys)(x:ABes)(rev:ByteArray):Int×Int:=
 scDec x.want x.left (bkGet a.bk rev).2.2 (cnt (fun s=>s == 2) (fPods a.fl.l rev)) (busyB a.gt rev) (lastS x.xs (lastN x.xs 6)) (lastN x.xs 6) (lastS x.xs (lastN x.xs 2)) (lastN x.xs 2) (tz x.xs)
def sysScale(a:ASys)(e:AEv):ASys×List ByteArray:=
 if bkHas a.bk e.name=false then(a,refusedB 6)else match mget a.by' e.name with
 | none=>(a,[])
 | some x=>({ a with by':=mset a.by' e.name ⟨x.xs,(scOf a x e.name).1,(scOf a x e.name).2⟩ },[lineB (lineB s_scale [e.name]) [decD (scOf a x e.name).1.toNat]])
end Go.Proofs.YtdcdhcgmeahfmaaGreatDoor
namespace Go.Proofs.YtdcdhcgmeahfmaaGreatDoor
open Go.Dm
structure SInv(k:Nat)(a:ASys):Prop where
 fl:FlI k a.fl
 gt:GtI k a.gt
 sh:ShI k a.sh
 bk:BkI k a.bk
 ro:RoI k a.ro
 by':ByI k a.bk a.by'
 now:0≤a.now∧a.now≤1048576
structure SOk(a:ASys):Prop where
 fl:a.fl.Ok
 gt:a.gt.Ok
 sh:a.sh.Ok
 bk:a.bk.Ok
 ro:(a.ro.map (·.1)).Nodup
 nd:(a.bk.all.map (·.1)).Nodup
theorem SysS.ok{b:Nat}{a:ASys}{s:Seg}(h:SysS b a s):SOk a:=by
 obtain⟨p,sg,sf,ss,sk,sr,sm,Q,R,-⟩:=h
 refine⟨R.fl.1,R.gt.1,R.sh.1,R.bk.1,?_,?_⟩
 ·obtain⟨r,sm,P,Q,hm,-,e,-⟩:=R.ro
  rw[e]
  have:=hm.nd
  simpa [List.map_map,Function.comp_def]using this
 ·obtain⟨-,rA,rP,sA,sP,hA,-⟩:=R.bk
  exact hA.nd
theorem SInv.mono{k m:Nat}{a:ASys}(h:SInv k a)(hm:k≤m):SInv m a:=⟨h.fl.mono hm,h.gt.mono hm,h.sh.mono hm,h.bk.mono hm,fun n x hx=>(h.ro n x hx).mono hm,h.by'.mono hm,h.now⟩
theorem zkd{room line pat:Int}(h:newOk room line pat=true)(hr:room≤30):SInv 0 (newSys room line pat):=by
 unfold newOk wiB at h
 simp only[Bool.and_eq_true,decide_eq_true_eq]at h
 obtain⟨⟨r1,r2⟩,⟨l1,l2⟩,p1,p2⟩:=h
 refine⟨⟨⟨hr,?_,?_⟩,r1,Int.le_refl 0,?_,?_⟩,⟨Nat.le_refl _,?_,Nat.le_refl _,?_,?_,⟨p1,by show pat≤1000;omega⟩,l1,l2⟩,⟨Int.le_refl 0,?_,?_,?_⟩,⟨Nat.le_refl _,?_,?_⟩,?_,⟨?_,?_,?_,?_⟩,Int.le_refl 0,by show(0:Int)≤1048576;decide⟩
 ·show((0:Nat):Int)≤max room 0;omega
 all_goals first | (intro x hx;cases hx;done) | skip
 intro n x h;cases h
def sysDo(a:ASys)(e:AEv):ASys×List ByteArray:=
 if chkEv e≠0 then(a,[lineB zqv [errB (chkEv e)]])
 else if e.kind=1 then sysConfig a e else if e.kind=2 then sysRoute a e else if e.kind=3 then sysDrop a e else if e.kind=4 then sysArrive a e else if e.kind=5 then sysDone a e else if e.kind=6 then sysUp a e
 else if e.kind=9 then sysTick a else if e.kind=10 then sysStamp a e else if e.kind=11 then sysLead a e else if e.kind=12 then sysScale a e else if e.kind=13 then sysPods a e else sysDown a e
theorem zls{e:AEv}(h:chkEv e=0):(shp e.kind).2=true∧chkS (shp e.kind).1 e=0:=by
 unfold chkEv at h
 split at h
 ·cases h
 ·rename_i h1;exact⟨by simpa using h1,h⟩
theorem zaA{e:AEv}(h:chkEv e=0):((shp e.kind).1.1=true→numE e=true)∧((shp e.kind).1.2.1=true→namedE e=true)∧((shp e.kind).1.2.2.2.1=true→wiB e.draw 0 2147483647=true)∧((shp e.kind).1.2.2.2.2.1=true→specC e.c=0)∧((shp e.kind).1.2.2.2.2.2.1=true→(shp e.kind).1.2.2.2.2.1=false→specE e.r=0):=by
 have h:=(zls h).2
 generalize (shp e.kind).1=s at h ⊢
 obtain⟨s1,s2,s3,s4,s5,s6,⟨⟩⟩:=s
 unfold chkS at h
 dsimp only at h ⊢
 split at h
 ·cases h
 ·split at h
  ·cases h
  ·rename_i h1
   split at h
   ·cases h
   ·rename_i h2
    split at h
    ·cases h
    ·split at h
     ·cases h
     ·rename_i h3
      refine⟨fun e1=>?_,fun e1=>?_,fun e1=>?_,fun e1=>?_,fun e1 e2=>?_⟩
      ·cases hn:numE e with
       | true=>rfl
       | false=>exact absurd ⟨e1,hn⟩ h1
      ·cases hn:namedE e with
       | true=>rfl
       | false=>exact absurd ⟨e1,hn⟩ h2
      ·cases hn:wiB e.draw 0 2147483647 with
       | true=>rfl
       | false=>exact absurd ⟨e1,hn⟩ h3
      ·rw[if_pos e1]at h;exact h
      ·rw[if_neg (by simp[e2]),if_pos e1]at h;exact h
theorem zm7{e:AEv}(h:chkEv e=0):e.kind=1∨e.kind=2∨e.kind=3∨e.kind=4∨e.kind=5∨e.kind=6∨e.kind=7∨e.kind=8∨e.kind=9∨e.kind=10∨e.kind=11∨e.kind=12∨e.kind=13:=by
 have h:=(zls h).1
 unfold shp at h
 repeat' (split at h)
 all_goals first | omega | (cases h;done)
theorem zjg{e:AEv}(h:chkEv e=0)(hk:e.kind=4∨e.kind=5∨e.kind=6∨e.kind=7∨e.kind=8):idB e.n∧1≤e.n:=by
 have h1:=(zaA h).1 (by rcases hk with e | e | e | e | e<;>rw[e]<;>rfl)
 unfold numE wiB at h1
 rw[if_neg (by omega),if_neg (by omega)]at h1
 simp only[Bool.and_eq_true,decide_eq_true_eq]at h1
 exact⟨⟨by omega,h1.2⟩,h1.1⟩
theorem zpv{e:AEv}(h:chkEv e=0)(hk:e.kind=3∨e.kind=4∨e.kind=10∨e.kind=11):((e.name.size:Nat):Int)≤16:=by
 have h1:=(zaA h).2.1 (by rcases hk with e | e | e | e<;>rw[e]<;>rfl)
 unfold namedE at h1
 rw[if_neg (by omega)]at h1
 exact z7G h1
theorem zpw{e:AEv}(h:chkEv e=0)(hk:e.kind=4):0≤e.draw∧e.draw≤2147483647:=by
 have h1:=(zaA h).2.2.1 (by rw[hk];rfl)
 unfold wiB at h1
 simpa using h1
theorem ztc{e:AEv}(h:chkEv e=0)(hk:e.kind=1):specC e.c=0:=(zaA h).2.2.2.1 (by rw[hk];rfl)
theorem ztb{e:AEv}(h:chkEv e=0)(hk:e.kind=2):specE e.r=0:=(zaA h).2.2.2.2 (by rw[hk];rfl) (by rw[hk];rfl)
theorem zm8{k:Nat}{a:ASys}(ok:SOk a)(h:SInv k a)(e:AEv):SInv (k+1) (sysConfig a e).1:=
 ⟨h.fl.mono (Nat.le_succ k),h.gt.mono (Nat.le_succ k),zn5 ok.sh h.sh e.c e.n,h.bk.mono (Nat.le_succ k),fun n x hx=>(h.ro n x hx).mono (Nat.le_succ k),h.by'.mono (Nat.le_succ k),h.now⟩
theorem znB{k:Nat}{a:ASys}(h:SInv k a)(e:AEv):SInv (k+1) (sysRoute a e).1:=
 ⟨h.fl.mono (Nat.le_succ k),h.gt.mono (Nat.le_succ k),zlL h.sh e.r e.n,h.bk.mono (Nat.le_succ k),fun n x hx=>(h.ro n x hx).mono (Nat.le_succ k),h.by'.mono (Nat.le_succ k),h.now⟩
theorem zm9{k:Nat}{a:ASys}(ok:SOk a)(h:SInv k a){e:AEv}(he:idB e.n):SInv (k+1) (sysArrive a e).1:=by
 have hg:=zpl ok.gt h.fl h.gt he (bnd a e) a.now
 have h1:SInv (k+1) { a with fl:=(arG a e).1,gt:=(arG a e).2.1 }:=⟨hg.1.mono (Nat.le_succ k),hg.2,h.sh.mono (Nat.le_succ k),h.bk.mono (Nat.le_succ k),fun n x hx=>(h.ro n x hx).mono (Nat.le_succ k),h.by'.mono (Nat.le_succ k),h.now⟩
 unfold sysArrive
 split
 ·rename_i x hx
  have hm:(bnd a e,x)∈a.by':=by
   unfold pokes at hx
   split at hx
   ·rename_i y hy
    split at hx
    ·cases hx;exact z3R hy
    ·cases hx
   ·cases hx
  refine⟨h1.fl,h1.gt,h1.sh,h1.bk,h1.ro,?_,h1.now⟩
  exact h1.by'.set (h1.by'.xs _ hm) (h1.by'.rng _ hm) ⟨⟨by show(0:Int)≤1;decide,by show(1:Int)≤10;decide⟩,(h1.by'.want _ hm).2⟩
 ·exact h1
theorem zpe{k:Nat}{a:ASys}(ok:SOk a)(h:SInv k a)(hk:k≤10000){e:AEv}(he:idB e.n):SInv (k+2) (sysDone a e).1:=by
 have hg:=znK ok.fl ok.gt hk h.fl h.gt he
 unfold sysDone
 exact⟨hg.1.mono (by omega),hg.2,h.sh.mono (by omega),h.bk.mono (by omega),fun n x hx=>(h.ro n x hx).mono (by omega),h.by'.mono (by omega),h.now⟩
theorem zs7{k:Nat}{a:ASys}(ok:SOk a)(h:SInv k a)(e:AEv):SInv (k+1) (sysUp a e).1:=by
 have hu:=h.fl.up e.n
 have hg:=zj6 ok.gt hu h.gt (fOf (fUpp a.fl e.n).1.l e.n)
 unfold sysUp
 split
 ·exact⟨hu.mono (Nat.le_succ k),h.gt.mono (Nat.le_succ k),h.sh.mono (Nat.le_succ k),h.bk.mono (Nat.le_succ k),fun n x hx=>(h.ro n x hx).mono (Nat.le_succ k),h.by'.mono (Nat.le_succ k),h.now⟩
 ·refine⟨hg.1.mono (Nat.le_succ k),hg.2,h.sh.mono (Nat.le_succ k),?_,fun n x hx=>(h.ro n x hx).mono (Nat.le_succ k),?_,h.now⟩
  ·dsimp only;unfold upBk
   split
   ·exact h.bk.mono (Nat.le_succ k)
   ·exact(h.bk.prove _).mono (Nat.le_succ k)
  ·dsimp only;unfold upBk
   split
   ·exact h.by'.mono (Nat.le_succ k)
   ·refine(h.by'.mono (Nat.le_succ k)).book ?_
    unfold bkProve
    split<;>rfl
theorem zpy{a:ABook}(nd:(a.all.map (·.1)).Nodup):(bkAll a).Nodup:=(z7F _).nodup_iff.2 nd
theorem zpb{k:Nat}{a:ASys}(ok:SOk a)(nd:(a.bk.all.map (·.1)).Nodup)(h:SInv k a)(hk:k≤10000):SInv (k+1) (sysTick a).1:=by
 have hg:=zj5 ok.gt h.gt (a.now+1)
 have hG:(tkG a).1.Ok:=by
  have:=zf8 (m:=a.gt.all.length) (n:=a.gt.lines.length) (now:=a.now+1) (r:=a.gt.room) (ks:=ssort (a.gt.lines.map (·.1))) (G:=a.gt) (out:=[]) ⟨Nat.le_refl _,h.gt.ids,Nat.le_refl _,h.gt.lid,h.gt.wk,ok.gt⟩ rfl (fun k hk=>by
   cases h4:mget a.gt.lines k with
   | none=>rw[z2i]at h4;exact absurd (z7K.1 hk) h4
   | some v=>rfl) (by simp)
  exact this.1.ok
 unfold sysTick
 split
 ·exact h.mono (Nat.le_succ k)
 ·rename_i hc
  refine⟨h.fl.mono (Nat.le_succ k),hg.1.mono (Nat.le_succ k),h.sh.mono (Nat.le_succ k),h.bk.mono (Nat.le_succ k),fun n x hx=>(h.ro n x hx).mono (Nat.le_succ k),?_,?_⟩
  ·exact ByI.tick (fun rev=>(zqT hG hg.1 (by omega) rev).2) (zpy nd) h.by'.has (fun x hx _=>h.by'.xs x hx) (fun x hx=>Nat.le_succ_of_le (h.by'.xs x hx)) h.by'.rng h.by'.want
  ·have:=h.now;dsimp only;omega
theorem zfi{k:Nat}{a:AShelf}(ok:a.Ok)(h:ShI k a){n:ByteArray}(hi:(shCfg a n).2.2.2.1=true):specC (shCfg a n).1=0∧1≤@id Int (shCfg a n).2.2.1∧@id Int (shCfg a n).2.2.1≤a.n:=by
 unfold shCfg at hi ⊢
 split
 ·rename_i h1
  have:=h.cfg n h1
  exact⟨this.2.1,this.2.2,(ok.gen n).2⟩
 ·rename_i h1
  rw[if_neg h1]at hi
  cases hi
theorem znA{k:Nat}{a:ASys}(ok:SOk a)(h:SInv k a)(hn:a.sh.n<100)(e:AEv):SInv (k+1) (sysStamp a e).1:=by
 have hm:=h.mono (Nat.le_succ k)
 unfold sysStamp
 split
 ·exact hm
 ·rename_i h1
  have hc:=zfi ok.sh h.sh (n:=e.name) (by simpa using h1)
  split
  ·exact hm
  ·have hb:=h.bk.stamp (c:=(shCfg a.sh e.name).1) hc.1 (g:=(@id Int (shCfg a.sh e.name).2.2.1).toNat) (by omega) (by omega)
   have hw:=(z93 hc.1).2.2.2
   split
   ·rename_i h3
    refine⟨hm.fl,hm.gt,hm.sh,hb,hm.ro,hm.by'.book ?_,hm.now⟩
    dsimp only[stp]at h3 ⊢
    unfold bkStamp at h3 ⊢
    split
    ·rfl
    ·rename_i h4;rw[if_neg h4]at h3;cases h3
   ·rename_i h3
    refine⟨hm.fl,hm.gt,hm.sh,hb,hm.ro,⟨fun p hp=>?_,?_,?_,?_⟩,hm.now⟩
    ·dsimp only[stp]at h3 hp ⊢
     rw[z47]
     split
     ·rfl
     ·rename_i h5
      unfold bkStamp at hp h5
      split at hp
      ·exact h.by'.has p hp
      ·rename_i h6
       rw[if_neg h6]at h5
       rcases z1F hp with rfl | hp
       ·exact absurd rfl h5
       ·exact h.by'.has p hp
    all_goals
     intro y hy
     rcases z1F hy with rfl | hy
    ·exact Nat.zero_le _
    ·exact hm.by'.xs y hy
    ·intro z hz;cases hz
    ·exact hm.by'.rng y hy
    ·refine⟨?_,Int.le_refl 0,by show(0:Int)≤1000;decide⟩
     show 0≤wantOf (shCfg a.sh e.name).1∧wantOf (shCfg a.sh e.name).1≤10
     unfold wantOf
     split<;>omega
    ·exact hm.by'.want y hy
theorem zgz{k:Nat}{a:AShelf}(h:ShI k a)(n:ByteArray):(shRt a n).1.ts.length≤6∧(∀t∈(shRt a n).1.ts,(0≤pct t∧pct t≤100)∧t.2.1.size≤100)∧0≤(shRt a n).1.roll∧(shRt a n).1.roll≤60:=by
 unfold shRt
 split
 ·rename_i h1
  have:=ziA (h.rt n h1).2
  exact⟨this.2.2.1,this.2.2.2,this.2.1.1,this.2.1.2⟩
 ·exact⟨Nat.zero_le _,(by intro t ht;cases ht),(show(0:Int)≤0 by decide),(show(0:Int)≤60 by decide)⟩
theorem zpd{k:Nat}{a:ASys}(ok:SOk a)(h:SInv k a)(e:AEv):SInv (k+2) (sysLead a e).1:=by
 have hm:=h.mono (Nat.le_add_right k 2)
 have hr:=zgz h.sh e.name
 unfold sysLead
 split
 ·exact hm
 ·split
  ·exact hm
  ·refine⟨hm.fl,hm.gt,hm.sh,hm.bk,?_,hm.by',hm.now⟩
   exact zlS (k:=k+1) (h.mono (Nat.le_succ k)).ro e.name (zfl ok.bk h.bk hr.1 hr.2.1) h.now _ (by omega)
theorem zpc{k:Nat}{a:ASys}(h:SInv k a)(e:AEv):SInv (k+1) (sysPods a e).1:=by
 have hm:=h.mono (Nat.le_succ k)
 unfold sysPods
 split
 ·exact hm
 ·rename_i h1
  have h1:bkHas a.bk e.name=true:=by simpa using h1
  have hb:=zaB h1
  have hc:=(z93 (h.bk.cfg _ hb)).2.2.1
  refine⟨?_,hm.gt,hm.sh,hm.bk,hm.ro,hm.by',hm.now⟩
  exact h.fl.scale (h.bk.rev _ hb) (Int.le_trans hc.2 (by decide)) _
theorem zmX{a:ASys}{e:AEv}(h:chkEv e≠0):sysDo a e=(a,[lineB zqv [errB (chkEv e)]]):=by unfold sysDo;rw[if_pos h]
theorem zfd{a:ASys}{e:AEv}(h:chkEv e=0)(hk:e.kind=1):sysDo a e=sysConfig a e:=by unfold sysDo;rw[if_neg (by simp[h]),if_pos hk]
theorem zjY{a:ASys}{e:AEv}(h:chkEv e=0)(hk:e.kind=2):sysDo a e=sysRoute a e:=by unfold sysDo;rw[if_neg (by simp[h]),if_neg (by omega),if_pos hk]
theorem zqs{a:ASys}{e:AEv}(h:chkEv e=0)(hk:e.kind=3):sysDo a e=sysDrop a e:=by unfold sysDo;rw[if_neg (by simp[h]),if_neg (by omega),if_neg (by omega),if_pos hk]
theorem zhh{a:ASys}{e:AEv}(h:chkEv e=0)(hk:e.kind=4):sysDo a e=sysArrive a e:=by unfold sysDo;rw[if_neg (by simp[h]),if_neg (by omega),if_neg (by omega),if_neg (by omega),if_pos hk]
theorem zhg{a:ASys}{e:AEv}(h:chkEv e=0)(hk:e.kind=5):sysDo a e=sysDone a e:=by unfold sysDo;rw[if_neg (by simp[h]),if_neg (by omega),if_neg (by omega),if_neg (by omega),if_neg (by omega),if_pos hk]
theorem zjX{a:ASys}{e:AEv}(h:chkEv e=0)(hk:e.kind=6):sysDo a e=sysUp a e:=by unfold sysDo;rw[if_neg (by simp[h]),if_neg (by omega),if_neg (by omega),if_neg (by omega),if_neg (by omega),if_neg (by omega),if_pos hk]
theorem zmY{a:ASys}{e:AEv}(h:chkEv e=0)(hk:e.kind=7∨e.kind=8):sysDo a e=sysDown a e:=by
 unfold sysDo;rw[if_neg (by simp[h]),if_neg (by omega),if_neg (by omega),if_neg (by omega),if_neg (by omega),if_neg (by omega),if_neg (by omega),if_neg (by omega),if_neg (by omega),if_neg (by omega),if_neg (by omega),if_neg (by omega)]
theorem zjW{a:ASys}{e:AEv}(h:chkEv e=0)(hk:e.kind=9):sysDo a e=sysTick a:=by unfold sysDo;rw[if_neg (by simp[h]),if_neg (by omega),if_neg (by omega),if_neg (by omega),if_neg (by omega),if_neg (by omega),if_neg (by omega),if_pos hk]
theorem zhk{a:ASys}{e:AEv}(h:chkEv e=0)(hk:e.kind=10):sysDo a e=sysStamp a e:=by unfold sysDo;rw[if_neg (by simp[h]),if_neg (by omega),if_neg (by omega),if_neg (by omega),if_neg (by omega),if_neg (by omega),if_neg (by omega),if_neg (by omega),if_pos hk]
theorem zhj{a:ASys}{e:AEv}(h:chkEv e=0)(hk:e.kind=11):sysDo a e=sysLead a e:=by unfold sysDo;rw[if_neg (by simp[h]),if_neg (by omega),if_neg (by omega),if_neg (by omega),if_neg (by omega),if_neg (by omega),if_neg (by omega),if_neg (by omega),if_neg (by omega),if_pos hk]
theorem zoB{a:ASys}{e:AEv}(h:chkEv e=0)(hk:e.kind=12):sysDo a e=sysScale a e:=by unfold sysDo;rw[if_neg (by simp[h]),if_neg (by omega),if_neg (by omega),if_neg (by omega),if_neg (by omega),if_neg (by omega),if_neg (by omega),if_neg (by omega),if_neg (by omega),if_neg (by omega),if_pos hk]
theorem zhi{a:ASys}{e:AEv}(h:chkEv e=0)(hk:e.kind=13):sysDo a e=sysPods a e:=by unfold sysDo;rw[if_neg (by simp[h]),if_neg (by omega),if_neg (by omega),if_neg (by omega),if_neg (by omega),if_neg (by omega),if_neg (by omega),if_neg (by omega),if_neg (by omega),if_neg (by omega),if_neg (by omega),if_pos hk]
end Go.Proofs.YtdcdhcgmeahfmaaGreatDoor
namespace Go.Proofs.YtdcdhcgmeahfmaaGreatDoor
open Go.Dm
attribute [local irreducible] L.load L.store L.chk L.new L.nonnil L.guard L.ite L.draw L.idx L.sem L.semR L.semU L.chkSem L.next L.call L.callV L.join L.alts L.loop L.begin L.endRound L.range
variable {w0 w:World}{E:List Seg}
theorem zrF{F:AFleet}(ok:F.Ok)(id:Int):(fUpp F id).1.Ok:=by
 unfold fUpp
 split
 ·exact ok
 ·rename_i x hx
  refine ok.upd hx _ ?_ fun q hq=>.inl (by rwa [zkZ]at hq)
  have:=ok.live x (z4V hx).1
  unfold podUp
  split
  ·dsimp only;omega
  ·exact .inr (.inl rfl)
theorem shrinkR(rev:ByteArray):∀{n:Nat}{F:AFleet},(shrink rev n F).1.last=F.last∧(shrink rev n F).1.room=F.room
 | 0,F=>⟨rfl,rfl⟩
 | n+1,F=>by simp only[shrink];exact shrinkR rev (n:=n) (F:=drain1 rev F)
theorem zlO(F:AFleet)(rev:ByteArray)(conc want:Int):(fScale F rev conc want).1.room=F.room:=by
 unfold fScale fGrown
 rw[(shrinkR rev).2,zcv]
theorem zpg{F:AFleet}{rev:ByteArray}{conc:Int}(n:Nat)(ok:F.Ok)(h1:F.l.length+n<100000000)(h2:F.last+n<4611686018427387904):(grow rev conc n F).Ok:=by
 induction n with
 | zero=>exact ok
 | succ n ih=>
  refine zlh (ih (by omega) (by omega)) ?_ ?_
  ·rw[zcw];omega
  ·rw[zcx];omega
theorem zfh{rev:ByteArray}:∀{n:Nat}{F:AFleet},F.Ok→n≤fCount F.l rev→(∀x∈(shrink rev n F).2,0≤x∧x≤F.last)∧(shrink rev n F).2.length=n
 | 0,F,_,_=>⟨(by intro x hx;cases hx),rfl⟩
 | n+1,F,ok,h=>by
  have h1:=zje ok (rev:=rev) (by omega)
  have h2:=ze2 ok (rev:=rev) (by omega)
  obtain⟨a,b⟩:=zfh (rev:=rev) (n:=n) h1 (by omega)
  obtain⟨y,hy,-,-⟩:=zcn (rev:=rev) ok (by omega)
  obtain⟨hm,hid⟩:=z4V hy
  have hr:=ok.rng y hm
  simp only[shrink]
  refine⟨fun x hx=>?_,by rw[List.length_cons,b]⟩
  rcases List.mem_cons.1 hx with rfl | hx
  ·rw[←hid];omega
  ·exact a x hx
theorem zlP{F:AFleet}(ok:F.Ok){rev:ByteArray}{conc want:Int}(hl:(F.l.length:Int)≤1000)(hr:F.room≤1000)(hla:F.last≤1000000000):(∀x∈(fScale F rev conc want).2,0≤x∧x≤F.last+1000)∧(fScale F rev conc want).2.length≤2000:=by
 have hn:=zeZ F rev want
 have okg:(fGrown F rev conc want).Ok:=zpg _ ok (by omega) (by omega)
 have hsn:shrinkN (fGrown F rev conc want) rev want≤fCount (fGrown F rev conc want).l rev:=by
  have:=zlJ (fGrown F rev conc want) rev want
  omega
 have hs:=zfh okg hsn
 have hll:(fGrown F rev conc want).last=F.last+growN F rev want:=zcx ..
 have hcl:=zcA (fGrown F rev conc want).l (rev:=rev)
 have hgl:(fGrown F rev conc want).l.length=F.l.length+growN F rev want:=zcw ..
 unfold fScale
 refine⟨fun x hx=>?_,?_⟩
 ·have:=hs.1 x hx
  omega
 ·rw[hs.2];omega
theorem zms [bTab w0](h:St w0 E w)(i:Nat){b:Nat}{a:ASys}{s:Seg}(hi:nth E i=some s)(hs:SysS b a s){e:AEv}(hn:bkHas a.bk e.name=false){k:Sl→PT}(hk:Hk w0 E i b (sysPods a e) k):z2L (some ⟨b,0,none⟩) e.t (slK k) w:=by
 have hs0:=hs
 obtain⟨p,sg,sf,ss,sk,sr,sm,Q,R,rfl⟩:=hs
 unfold z2L
 unfold sysPods at hk
 have h:=(h.front i hi).split8
 refine nw h ?_;clear h;(try clear w);intro b1 w h
 refine z1h (fun(z:Addr×Bool×Unit) w=>∃b8:Nat,z=(⟨b8,0,none⟩,bkHas a.bk e.name,())∧St w0 (sysC b p a.now::sg::sf::ss::sk::sr::sm::(Q.map BsE.sg).flatten::delN E i) w) (fun k2 hk2=>?_) ?_
 ·(dsimp only[setN,List.cons_append,List.nil_append]at h;refine dr h ?_;clear h;(try clear w);intro w h;refine nn ?_;refine ldC h ?_;refine ldC h ?_)
  refine alts2 ?_ ?_
  ·refine zfQ h 5 rfl R.bk fun w h=>?_
   refine nw h ?_;clear h;(try clear w);intro b8 w h
   (refine ckC h ?_;refine ckC h ?_;refine stC h ?_;clear h;(try clear w);intro w h;dsimp only[putN,setN]at h)
   exact hk2 _ w ⟨b8,rfl,dl0_ (dl0_ h)⟩
  ·refine nw h ?_;clear h;(try clear w);intro b8 w h
   (refine ckC h ?_;refine ckC h ?_)
   refine zfQ h 6 rfl R.bk fun w h=>?_
   (refine stC h ?_;clear h;(try clear w);intro w h;dsimp only[putN,setN]at h)
   exact hk2 _ w ⟨b8,rfl,dl0_ (dl0_ h)⟩
 clear h;(try clear w)
 rintro z w ⟨b8,rfl,h⟩
 (try dsimp only)
 refine itT (by simp[hn]) ?_
 rw[if_pos hn]at hk
 refine z6d h fun v s w r h=>?_
 exact⟨v,rfl,hk v s _ w r hs0 (sysBack i hi h)⟩
structure EvIn(w0:World)(E:List Seg)(i:Nat)(e:AEv):Prop where
 rd:RdE w0 (delN E i) eT e.v e.r.ts
 hvc:e.v.len≤e.v.cap
 h0:e.v.a=none→e.r.ts = []
 hrv:∀t∈e.r.ts,revOk t.1
 hn:e.kind=12∨e.kind=13→RevN e.name
theorem EvIn.plain{i:Nat}{e:AEv}(hv:e.v=noSl)(hr:e.r=noRt15)(hk:e.kind=12∨e.kind=13→RevN e.name):EvIn w0 E i e:=by
 refine⟨fun _ _=>?_,?_,fun _=>?_,?_,hk⟩
 ·rw[hv,hr];exact Rd.nil
 ·rw[hv];exact Nat.le_refl 0
 ·rw[hr];rfl
 ·rw[hr];intro t ht;cases ht
abbrev HkI(w0:World)(E:List Seg)(i b k0:Nat)(r:ASys×List ByteArray)(k:Sl→PT):Prop:=
 ∀v sv s' w',Rw eS z00 1 v r.2 sv→SysS b r.1 s'→SInv k0 r.1→St w0 (sv::setN E i s') w'→k v w'
theorem zts [bTab w0](h:St w0 E w)(i:Nat){b:Nat}{a:ASys}{s:Seg}(hi:nth E i=some s)(hs:SysS b a s){e:AEv}(hb:chkEv e=0)(hc:e.kind=1)(ev:EvIn w0 E i e){k0:Nat}(inv:SInv k0 a)(hk0:k0≤9000)(hn:a.sh.n<99){k:Sl→PT}(hk:HkI w0 E i b (k0+2) (sysDo a e) k) :
  L.call Pr z04 [.pointer (some ⟨b,0,none⟩),evV e] (.one (.one .slice)) k w:=by
 have ok:=hs.ok
 have rd':RdE w0 E eT e.v e.r.ts:=fun w h=>ev.rd w (h.del i hi)
 have i2:SInv (k0+2) (sysDo a e).1:=by rw[zfd hb hc];exact(zm8 ok inv e).mono (Nat.le_succ _)
 have hkk:Hk w0 E i b (sysDo a e) k:=fun v sv s' w' r hs' h=>hk v sv s' w' r hs' i2 h
 clear hk
 have hlast:=inv.fl.last
 have hlen:=inv.fl.few.l
 have hroom:=inv.fl.few.r
 unfold podsMost at hroom
 have hall:=inv.gt.all
 have hlines:=inv.gt.lines
 have hgr:=inv.gt.room
 have hpat:=inv.gt.pat
 have hnow:=inv.now
 have hbl:=inv.bk.len
 have hr1:=inv.fl.r1
 have rn:=ev.hn
 rw[zfd hb hc]at hkk
 exact zmv h i hi hs hc hb rd' ev.hvc ev.hrv (by omega) (by have:=z7G (z93 (ztc hb hc)).1;omega) hkk
theorem ztr [bTab w0](h:St w0 E w)(i:Nat){b:Nat}{a:ASys}{s:Seg}(hi:nth E i=some s)(hs:SysS b a s){e:AEv}(hb:chkEv e=0)(hc:e.kind=2)(ev:EvIn w0 E i e){k0:Nat}(inv:SInv k0 a)(hk0:k0≤9000)(hn:a.sh.n<99){k:Sl→PT}(hk:HkI w0 E i b (k0+2) (sysDo a e) k) :
  L.call Pr z04 [.pointer (some ⟨b,0,none⟩),evV e] (.one (.one .slice)) k w:=by
 have ok:=hs.ok
 have rd':RdE w0 E eT e.v e.r.ts:=fun w h=>ev.rd w (h.del i hi)
 have i2:SInv (k0+2) (sysDo a e).1:=by rw[zjY hb hc];exact(znB inv e).mono (Nat.le_succ _)
 have hkk:Hk w0 E i b (sysDo a e) k:=fun v sv s' w' r hs' h=>hk v sv s' w' r hs' i2 h
 clear hk
 have hlast:=inv.fl.last
 have hlen:=inv.fl.few.l
 have hroom:=inv.fl.few.r
 unfold podsMost at hroom
 have hall:=inv.gt.all
 have hlines:=inv.gt.lines
 have hgr:=inv.gt.room
 have hpat:=inv.gt.pat
 have hnow:=inv.now
 have hbl:=inv.bk.len
 have hr1:=inv.fl.r1
 have rn:=ev.hn
 rw[zjY hb hc]at hkk
 exact zok h i hi hs hc hb ev.rd ev.hvc ev.h0 ev.hrv (by omega) (by have:=z7G (ziA (ztb hb hc)).1.1;omega) inv.sh.few hkk
theorem ztq [bTab w0](h:St w0 E w)(i:Nat){b:Nat}{a:ASys}{s:Seg}(hi:nth E i=some s)(hs:SysS b a s){e:AEv}(hb:chkEv e=0)(hc:e.kind=4)(ev:EvIn w0 E i e){k0:Nat}(inv:SInv k0 a)(hk0:k0≤9000)(hn:a.sh.n<99){k:Sl→PT}(hk:HkI w0 E i b (k0+2) (sysDo a e) k) :
  L.call Pr z04 [.pointer (some ⟨b,0,none⟩),evV e] (.one (.one .slice)) k w:=by
 have ok:=hs.ok
 have rd':RdE w0 E eT e.v e.r.ts:=fun w h=>ev.rd w (h.del i hi)
 have i2:SInv (k0+2) (sysDo a e).1:=by rw[zhh hb hc];exact(zm9 ok inv (zjg hb (by omega)).1).mono (Nat.le_succ _)
 have hkk:Hk w0 E i b (sysDo a e) k:=fun v sv s' w' r hs' h=>hk v sv s' w' r hs' i2 h
 clear hk
 have hlast:=inv.fl.last
 have hlen:=inv.fl.few.l
 have hroom:=inv.fl.few.r
 unfold podsMost at hroom
 have hall:=inv.gt.all
 have hlines:=inv.gt.lines
 have hgr:=inv.gt.room
 have hpat:=inv.gt.pat
 have hnow:=inv.now
 have hbl:=inv.bk.len
 have hr1:=inv.fl.r1
 have rn:=ev.hn
 rw[zhh hb hc]at hkk
 have hid:=(zjg hb (by omega)).1
 have hd:=zpw hb hc
 refine zmw h i hi hs hc hb rd' ev.hvc ev.hrv (by omega) (fun x hx=>(inv.ro _ x hx).ok (by omega)) ?_ inv.fl.few (by omega) (by omega) (by omega) (znL (by omega) ok.fl inv.fl hid _ _) ?_ hkk
 ·unfold roTab
  cases hg:mget a.ro e.name with
  | none=>intro s hs;cases hs
  | some x=>exact(inv.ro _ x hg).ns
 ·unfold bnd
  split
  ·decide
  ·cases hg:mget a.ro e.name with
   | none=>rename_i hh;rw[hg]at hh;exact absurd rfl hh
   | some x=>
    have w:=inv.ro _ x hg
    split
    ·unfold tPick roTab
     rw[hg]
     have:∀(l:List Shr)(d:Int),(∀s∈l,s.1.size≤100)→(pickL l d).size≤100:=by
      intro l
      induction l with
      | nil=>intro d _;show s_.size≤100;decide
      | cons s l ih=>
       intro d hl
       unfold pickL
       split
       ·exact hl s (by simp)
       ·exact ih _ fun y hy=>hl y (by simp[hy])
     have:=this x.ns (e.draw%100) w.zn
     dsimp only;omega
    ·unfold roTab
     rw[hg]
     have:∀(l:List Tgo),(∀s∈l,s.1.size≤100∧s.2.1.size≤100)→(tagL l e.tag).1.size≤100:=by
      intro l
      induction l with
      | nil=>intro _;show s_.size≤100;decide
      | cons s l ih=>
       intro hl
       unfold tagL
       split
       ·exact(hl s (by simp)).2
       ·exact ih fun y hy=>hl y (by simp[hy])
     have:=this x.ng w.zg
     dsimp only;omega
theorem ztp [bTab w0](h:St w0 E w)(i:Nat){b:Nat}{a:ASys}{s:Seg}(hi:nth E i=some s)(hs:SysS b a s){e:AEv}(hb:chkEv e=0)(hc:e.kind=5)(ev:EvIn w0 E i e){k0:Nat}(inv:SInv k0 a)(hk0:k0≤9000)(hn:a.sh.n<99){k:Sl→PT}(hk:HkI w0 E i b (k0+2) (sysDo a e) k) :
  L.call Pr z04 [.pointer (some ⟨b,0,none⟩),evV e] (.one (.one .slice)) k w:=by
 have ok:=hs.ok
 have rd':RdE w0 E eT e.v e.r.ts:=fun w h=>ev.rd w (h.del i hi)
 have i2:SInv (k0+2) (sysDo a e).1:=by rw[zhg hb hc];exact zpe ok inv (by omega) (zjg hb (by omega)).1
 have hkk:Hk w0 E i b (sysDo a e) k:=fun v sv s' w' r hs' h=>hk v sv s' w' r hs' i2 h
 clear hk
 have hlast:=inv.fl.last
 have hlen:=inv.fl.few.l
 have hroom:=inv.fl.few.r
 unfold podsMost at hroom
 have hall:=inv.gt.all
 have hlines:=inv.gt.lines
 have hgr:=inv.gt.room
 have hpat:=inv.gt.pat
 have hnow:=inv.now
 have hbl:=inv.bk.len
 have hr1:=inv.fl.r1
 have rn:=ev.hn
 rw[zhg hb hc]at hkk
 have hid:=(zjg hb (by omega)).1
 exact zpR h i hi hs hc hb rd' ev.hvc ev.hrv inv.fl.few (by omega) (by omega) (zkg ok.fl (by omega) inv.fl inv.gt hid) (znJ ok.gt (by omega) hgr.2 _) hkk
theorem zto [bTab w0](h:St w0 E w)(i:Nat){b:Nat}{a:ASys}{s:Seg}(hi:nth E i=some s)(hs:SysS b a s){e:AEv}(hb:chkEv e=0)(hc:e.kind=6)(ev:EvIn w0 E i e){k0:Nat}(inv:SInv k0 a)(hk0:k0≤9000)(hn:a.sh.n<99){k:Sl→PT}(hk:HkI w0 E i b (k0+2) (sysDo a e) k) :
  L.call Pr z04 [.pointer (some ⟨b,0,none⟩),evV e] (.one (.one .slice)) k w:=by
 have ok:=hs.ok
 have rd':RdE w0 E eT e.v e.r.ts:=fun w h=>ev.rd w (h.del i hi)
 have i2:SInv (k0+2) (sysDo a e).1:=by rw[zjX hb hc];exact(zs7 ok inv e).mono (Nat.le_succ _)
 have hkk:Hk w0 E i b (sysDo a e) k:=fun v sv s' w' r hs' h=>hk v sv s' w' r hs' i2 h
 clear hk
 have hlast:=inv.fl.last
 have hlen:=inv.fl.few.l
 have hroom:=inv.fl.few.r
 unfold podsMost at hroom
 have hall:=inv.gt.all
 have hlines:=inv.gt.lines
 have hgr:=inv.gt.room
 have hpat:=inv.gt.pat
 have hnow:=inv.now
 have hbl:=inv.bk.len
 have hr1:=inv.fl.r1
 have rn:=ev.hn
 rw[zjX hb hc]at hkk
 have hid:=(zjg hb (by omega)).1
 have hu:=inv.fl.up e.n
 have hsz:(fOf (fUpp a.fl e.n).1.l e.n).size≤100:=by
  unfold fOf
  cases hf:fFind (fUpp a.fl e.n).1.l e.n with
  | none=>show s_.size≤100;decide
  | some x=>exact(hu.rev x (z4V hf).1).size
 have hu':(fUpp a.fl e.n).1.Ok:=zrF ok.fl e.n
 refine zsM h i hi hs hc hb rd' ev.hvc ev.hrv ⟨by omega,by omega⟩ (by omega) hu.few (by omega) (by omega) (zfB (by omega) hu' hu inv.gt _) ?_ hkk
 have:=(zfA (F:=(fUpp a.fl e.n).1) ok.gt (fOf (fUpp a.fl e.n).1.l e.n)).1
 show(gFlow (fUpp a.fl e.n).1 a.gt (fOf (fUpp a.fl e.n).1.l e.n)).2.2.length<100000000
 omega
theorem ztn [bTab w0](h:St w0 E w)(i:Nat){b:Nat}{a:ASys}{s:Seg}(hi:nth E i=some s)(hs:SysS b a s){e:AEv}(hb:chkEv e=0)(hc:e.kind=9)(ev:EvIn w0 E i e){k0:Nat}(inv:SInv k0 a)(hk0:k0≤9000)(hn:a.sh.n<99){k:Sl→PT}(hk:HkI w0 E i b (k0+2) (sysDo a e) k) :
  L.call Pr z04 [.pointer (some ⟨b,0,none⟩),evV e] (.one (.one .slice)) k w:=by
 have ok:=hs.ok
 have rd':RdE w0 E eT e.v e.r.ts:=fun w h=>ev.rd w (h.del i hi)
 have i2:SInv (k0+2) (sysDo a e).1:=by rw[zjW hb hc];exact(zpb ok ok.nd inv (by omega)).mono (Nat.le_succ _)
 have hkk:Hk w0 E i b (sysDo a e) k:=fun v sv s' w' r hs' h=>hk v sv s' w' r hs' i2 h
 clear hk
 have hlast:=inv.fl.last
 have hlen:=inv.fl.few.l
 have hroom:=inv.fl.few.r
 unfold podsMost at hroom
 have hall:=inv.gt.all
 have hlines:=inv.gt.lines
 have hgr:=inv.gt.room
 have hpat:=inv.gt.pat
 have hnow:=inv.now
 have hbl:=inv.bk.len
 have hr1:=inv.fl.r1
 have rn:=ev.hn
 rw[zjW hb hc]at hkk
 have hg:=zj5 ok.gt inv.gt (a.now+1)
 refine zpO h i hi hs hc hb rd' ev.hvc ev.hrv hnow.1 inv.gt.wk (by have:=hg.2.2;unfold tkG;omega) hg.2.1 (fun rev hr=>?_) (fun x hx=>by have:=inv.by'.xs x hx;omega) (by omega) hkk
 have:=inv.by'.has _ (zaB (zjl hr))
 exact this
theorem zsP [bTab w0](h:St w0 E w)(i:Nat){b:Nat}{a:ASys}{s:Seg}(hi:nth E i=some s)(hs:SysS b a s){e:AEv}(hb:chkEv e=0)(hc:e.kind=10)(ev:EvIn w0 E i e){k0:Nat}(inv:SInv k0 a)(hk0:k0≤9000)(hn:a.sh.n<99){k:Sl→PT}(hk:HkI w0 E i b (k0+2) (sysDo a e) k) :
  L.call Pr z04 [.pointer (some ⟨b,0,none⟩),evV e] (.one (.one .slice)) k w:=by
 have ok:=hs.ok
 have rd':RdE w0 E eT e.v e.r.ts:=fun w h=>ev.rd w (h.del i hi)
 have i2:SInv (k0+2) (sysDo a e).1:=by rw[zhk hb hc];exact(znA ok inv (by omega) e).mono (Nat.le_succ _)
 have hkk:Hk w0 E i b (sysDo a e) k:=fun v sv s' w' r hs' h=>hk v sv s' w' r hs' i2 h
 clear hk
 have hlast:=inv.fl.last
 have hlen:=inv.fl.few.l
 have hroom:=inv.fl.few.r
 unfold podsMost at hroom
 have hall:=inv.gt.all
 have hlines:=inv.gt.lines
 have hgr:=inv.gt.room
 have hpat:=inv.gt.pat
 have hnow:=inv.now
 have hbl:=inv.bk.len
 have hr1:=inv.fl.r1
 have rn:=ev.hn
 rw[zhk hb hc]at hkk
 refine zoj h i hi hs hc hb rd' ev.hvc ev.hrv (fun hh=>?_) (by omega) hkk
 have hs:=zfi ok.sh inv.sh hh
 have hnum:=z93 hs.1
 exact⟨hnum.1,hs.2.1,by omega,by omega⟩
theorem zsO [bTab w0](h:St w0 E w)(i:Nat){b:Nat}{a:ASys}{s:Seg}(hi:nth E i=some s)(hs:SysS b a s){e:AEv}(hb:chkEv e=0)(hc:e.kind=11)(ev:EvIn w0 E i e){k0:Nat}(inv:SInv k0 a)(hk0:k0≤9000)(hn:a.sh.n<99){k:Sl→PT}(hk:HkI w0 E i b (k0+2) (sysDo a e) k) :
  L.call Pr z04 [.pointer (some ⟨b,0,none⟩),evV e] (.one (.one .slice)) k w:=by
 have ok:=hs.ok
 have rd':RdE w0 E eT e.v e.r.ts:=fun w h=>ev.rd w (h.del i hi)
 have i2:SInv (k0+2) (sysDo a e).1:=by rw[zhj hb hc];exact zpd ok inv e
 have hkk:Hk w0 E i b (sysDo a e) k:=fun v sv s' w' r hs' h=>hk v sv s' w' r hs' i2 h
 clear hk
 have hlast:=inv.fl.last
 have hlen:=inv.fl.few.l
 have hroom:=inv.fl.few.r
 unfold podsMost at hroom
 have hall:=inv.gt.all
 have hlines:=inv.gt.lines
 have hgr:=inv.gt.room
 have hpat:=inv.gt.pat
 have hnow:=inv.now
 have hbl:=inv.bk.len
 have hr1:=inv.fl.r1
 have rn:=ev.hn
 rw[zhj hb hc]at hkk
 have hr:=zgz inv.sh e.name
 have ht:=zfl ok.bk inv.bk hr.1 hr.2.1
 have hno:=znr (k:=k0+1) (inv.mono (Nat.le_succ k0)).ro e.name ht hnow (shRt a.sh e.name).1.roll (by omega)
 refine zpQ h i hi hs hc hb rd' ev.hvc ev.hrv inv.sh.few (by have:=zpv hb (by omega);omega) (fun t ht=>by have:=(hr.2.1 t ht).1;omega) (by omega) (by omega) (fun x hx=>(inv.ro _ x hx).ok (by omega)) (fun x hx=>by have:=(inv.ro _ x hx).since;omega) (by omega) ht.w (by have:=hno.2.2;show(nowOf a.ro e.name (resolve a.bk (shRt a.sh e.name).1).1 a.now (shRt a.sh e.name).1.roll).sh.length<100000;omega) ?_ hkk
 exact zlH hno.1 hno.2.1 ht.zg (Nat.add_le_add hno.2.2 ht.lg) (by omega)
theorem zsN [bTab w0](h:St w0 E w)(i:Nat){b:Nat}{a:ASys}{s:Seg}(hi:nth E i=some s)(hs:SysS b a s){e:AEv}(hb:chkEv e=0)(hc:e.kind=13)(ev:EvIn w0 E i e){k0:Nat}(inv:SInv k0 a)(hk0:k0≤9000)(hn:a.sh.n<99){k:Sl→PT}(hk:HkI w0 E i b (k0+2) (sysDo a e) k) :
  L.call Pr z04 [.pointer (some ⟨b,0,none⟩),evV e] (.one (.one .slice)) k w:=by
 have ok:=hs.ok
 have rd':RdE w0 E eT e.v e.r.ts:=fun w h=>ev.rd w (h.del i hi)
 have i2:SInv (k0+2) (sysDo a e).1:=by rw[zhi hb hc];exact(zpc inv e).mono (Nat.le_succ _)
 have hkk:Hk w0 E i b (sysDo a e) k:=fun v sv s' w' r hs' h=>hk v sv s' w' r hs' i2 h
 clear hk
 have hlast:=inv.fl.last
 have hlen:=inv.fl.few.l
 have hroom:=inv.fl.few.r
 unfold podsMost at hroom
 have hall:=inv.gt.all
 have hlines:=inv.gt.lines
 have hgr:=inv.gt.room
 have hpat:=inv.gt.pat
 have hnow:=inv.now
 have hbl:=inv.bk.len
 have hr1:=inv.fl.r1
 have rn:=ev.hn
 rw[zhi hb hc]at hkk
 have hnm:=rn (.inr hc)
 by_cases hh:bkHas a.bk e.name=true
 ·have hc2:=(z93 (inv.bk.cfg _ (zaB hh))).2.2.1
  have hcc:pdConc a e.name≤1000:=Int.le_trans hc2.2 (by decide)
  have hsc:=inv.fl.scale hnm hcc (pdWant a e.name)
  have hgl:=hsc.few.l
  have hgr2:(fScale a.fl e.name (pdConc a e.name) (pdWant a e.name)).1.room=a.fl.room:=zlO ..
  have hgo:=zlP ok.fl (rev:=e.name) (conc:=pdConc a e.name) (want:=pdWant a e.name) (by omega) (by omega) (by omega)
  refine zpP h i hi hs hc hnm hb rd' ev.hvc ev.hrv (by omega) (by omega) (by have:=hnm.size;omega) (fun x hx=>?_) ?_ (fun x hx=>?_) ?_ ?_ hkk
  ·unfold fMade at hx
   obtain⟨j,hj,rfl⟩:=List.mem_map.1 hx
   rw[List.mem_range]at hj
   have:=zeZ a.fl e.name (pdWant a e.name)
   have:=ok.fl.lo
   omega
  ·unfold fMade
   rw[List.length_map,List.length_range]
   have:=zeZ a.fl e.name (pdWant a e.name)
   omega
  ·have:=hgo.1 x hx;omega
  ·have:=hgo.2;omega
  ·unfold fPods
   rw[List.length_map]
   have:(revs (pdFl a e.name).l e.name).length≤(pdFl a e.name).l.length:=List.length_filter_le ..
   unfold pdFl at this ⊢
   omega
 ·exact zgg h i hi hs hb rn rd' ev.hvc ev.hrv (f:=z1C) (by rw[hc];rfl) z7p (z7q (some ⟨b,0,none⟩) e.t) (fun h hi _ hk=>zms h _ hi hs (by simpa using hh) hk) hkk
class Kn(w0:World)(ks:Int→Bool):Prop where
 dos:∀{E:List Seg}{w:World},St w0 E w→∀(i:Nat){b:Nat}{a:ASys}{s:Seg},nth E i=some s→SysS b a s→∀{e:AEv},ks e.kind=true→chkEv e=0→EvIn w0 E i e→∀{k0:Nat},SInv k0 a→k0≤9000→a.sh.n<99→∀{k:Sl→PT},HkI w0 E i b (k0+2) (sysDo a e) k→
  L.call Pr z04 [.pointer (some ⟨b,0,none⟩),evV e] (.one (.one .slice)) k w
theorem zmu{ks:Int→Bool}[K:Kn w0 ks](h:St w0 E w)(i:Nat){b:Nat}{a:ASys}{s:Seg}(hi:nth E i=some s)(hs:SysS b a s){e:AEv}(hks:ks e.kind=true)(hb:chkEv e=0)(ev:EvIn w0 E i e){k0:Nat}(inv:SInv k0 a)(hk0:k0≤9000)(hn:a.sh.n<99){k:Sl→PT}(hk:HkI w0 E i b (k0+2) (sysDo a e) k) :
  L.call Pr z04 [.pointer (some ⟨b,0,none⟩),evV e] (.one (.one .slice)) k w:=K.dos h i hi hs hks hb ev inv hk0 hn hk
theorem zrH:Pr.underlying z2j=some (.slice z3T):=by kernel_rfl
theorem zrG:Pr.underlying z3T=some (.int .u8):=by kernel_rfl
theorem zpX(n:Nat):∀{g:Nat}{E:List Seg}{w:World}{k:ByteArray→PT},g≤n→g≤9000000000000000000→St w0 E w→(∀w',St w0 E w'→k (decD g) w')→L.call Pr z1M [I g] (.one (.one .str)) k w:=by
 induction n using Nat.strongRecOn with
 | _ n ih=>
  intro g E w k hgn hg h hk
  refine z01 (zcf _) ?_
  unfold z8b
  refine itF (decide_eq_false (by omega)) ?_
  refine it (fun hc=>?_) (fun hc=>?_)
  ·have hc:10≤g:=by have:=of_decide_eq_true hc;omega
   have e1:IntKind.wrap .i64 (Int.tdiv (g:Int) 10)=((g/10:Nat):Int):=by
    rw[Int.tdiv_eq_ediv_of_nonneg (by omega),wr (by omega) (by omega)];rfl
   have e2:Int.tmod (g:Int) 10=((g%10:Nat):Int):=by
    rw[Int.tmod_eq_emod_of_nonneg (by omega)];rfl
   rw[e1,e2]
   have s1:=zfI (g%10)
   have s2:(decD (g/10)).size≤100:=by
    have:=zhG (x:=((g/10:Nat):Int)) (by omega) (by omega)
    rw[Int.toNat_natCast]at this
    exact this
   refine gd (by decide) ?_
   refine ih (g/10) (by omega) (Nat.le_refl _) (by omega) h fun w h=>?_
   refine gd (by decide) ?_
   refine ih (g%10) (by omega) (Nat.le_refl _) (by omega) h fun w h=>?_
   refine gd (by simp only[maxI64];omega) ?_
   refine⟨_,rfl,?_⟩
   rw[←znW hc]
   exact hk w h
  ·have hc:g<10:=by have:=of_decide_eq_false hc;omega
   refine nw h ?_;clear h;(try clear w);intro b4 w h
   have e1:IntKind.wrap .u8 (IntKind.wrap .i64 (48+(g:Int)))=((48+g:Nat):Int):=by
    have:g=0∨g=1∨g=2∨g=3∨g=4∨g=5∨g=6∨g=7∨g=8∨g=9:=by omega
    rcases this with rfl | rfl | rfl | rfl | rfl | rfl | rfl | rfl | rfl | rfl<;>rfl
   rw[e1]at h
   have hr:Rw eU z3T 1 ⟨some ⟨b4,0,none⟩,1,1⟩ [UInt8.ofNat (48+g)] [Cl b4 z3T [.int .u8 ((48+g:Nat):Int)]]:=by
    refine Rw.lit b4 [UInt8.ofNat (48+g)] encU ?_ rfl (by simp[maxLen])
    have:g=0∨g=1∨g=2∨g=3∨g=4∨g=5∨g=6∨g=7∨g=8∨g=9:=by omega
    rcases this with rfl | rfl | rfl | rfl | rfl | rfl | rfl | rfl | rfl | rfl<;>rfl
   refine cvBS zrH zrG z5T (Rw.rd encU h 0 rfl hr) ?_
   refine⟨_,rfl,?_⟩
   have e2:(⟨[UInt8.ofNat (48+g)].toArray⟩:ByteArray)=decD g:=by unfold decD;rw[Lib.decDigits_one hc]
   rw[e2]
   exact hk w (dl0_ h)
theorem zot(h:St w0 E w){x:Int}(h0:0≤x)(h1:x≤9000000000000000000){k:ByteArray→PT}(hk:∀w',St w0 E w'→k (decD x.toNat) w'):L.call Pr z1M [I x] (.one (.one .str)) k w:=by
 obtain⟨g,rfl⟩:∃g:Nat,x=(g:Int):=⟨x.toNat,by omega⟩
 rw[Int.toNat_natCast]at hk
 exact zpX g (Nat.le_refl _) (by omega) h hk
end Go.Proofs.YtdcdhcgmeahfmaaGreatDoor
namespace Go.Proofs.YtdcdhcgmeahfmaaGreatDoor
open Go.Dm
def cW(k:Int):Cfg:=(zbO,k,1,0,1,0,())
structure GI(a:ASys)(ver gen:Nat)(last:Int):Prop where
 n:a.sh.n=ver
 sh:(ver=0∧gen=0∧last = -1∧(tget a.sh.m zbO).is=false∧(tget a.sh.m zbO).gen=0)∨(0<ver∧0≤last∧0<gen∧tget a.sh.m zbO=thgOf (cW last) ver gen true)
 gl:gen≤ver
 bk:∀g,1≤g→g<100→(bkHas a.bk (revB zbO g)=true↔g≤gen)
 len:a.bk.all.length=gen
theorem zrV{a:AShelf}{c:Cfg}{ver:Int}(h1:specC c=0)(h2:mayC (tget a.m c.1) ver true=0):shPut a c ver=(⟨putC a.m c.1 c (a.n+1),a.r,a.n+1⟩,a.n+1,0):=by
 unfold shPut;rw[if_neg (by simpa using h1),if_neg (by simpa using h2)]
end Go.Proofs.YtdcdhcgmeahfmaaGreatDoor
namespace Go.Proofs.YtdcdhcgmeahfmaaGreatDoor
open Go.Dm
attribute [local irreducible] L.load L.store L.chk L.new L.nonnil L.guard L.ite L.draw L.idx L.sem L.semR L.semU L.chkSem L.next L.call L.callV L.join L.alts L.loop L.begin L.endRound L.range
variable {w0 w:World}{E:List Seg}
def eEv(e:AEv):List Value:=[I e.kind,.string e.name,.string e.tag,I e.n,I e.draw,.string e.c.1,I e.c.2.1,I e.c.2.2.1,I e.c.2.2.2.1,I e.c.2.2.2.2.1,I e.c.2.2.2.2.2.1,.string e.r.name,.string e.r.cfg,.slice e.v.a e.v.len e.v.cap,I e.r.roll]
theorem encEv:Enc eEv 15:=⟨fun _=>rfl,fun _=>rfl,by decide⟩
def sysRun(a:ASys)(l:List AEv):ASys:=l.foldl (fun a e=>(sysDo a e).1) a
def sysOuts:ASys→List AEv→List (List ByteArray)
 | _,[]=>[]
 | a,e::l=>(sysDo a e).2::sysOuts (sysDo a e).1 l
theorem zfb(a:ASys)(e:AEv)(l:List AEv):sysRun a (e::l)=sysRun (sysDo a e).1 l:=rfl
theorem ziz(a:ASys)(e:AEv)(l:List AEv):sysOuts a (e::l)=(sysDo a e).2::sysOuts (sysDo a e).1 l:=rfl
theorem zfa{a:ASys}{l:List AEv}{j:Nat}{e:AEv}(h:l[j]? = some e):sysRun a (l.take (j+1))=(sysDo (sysRun a (l.take j)) e).1:=by
 unfold sysRun
 rw[List.take_succ,h,Option.toList_some,List.foldl_append]
 rfl
theorem zfc:∀{l:List AEv}{a:ASys}{j:Nat}{e:AEv},l[j]? = some e→(sysOuts a l)[j]? = some (sysDo (sysRun a (l.take j)) e).2
 | [],_,_,_,h=>by simp at h
 | x::l,a,0,e,h=>by
  simp only[List.getElem?_cons_zero,Option.some.injEq]at h
  subst h;rfl
 | x::l,a,j+1,e,h=>by
  simp only[List.getElem?_cons_succ]at h
  rw[ziz,List.getElem?_cons_succ,zfc h]
  rfl
theorem zoF(a:AShelf)(kind:Int)(n:ByteArray)(v:Int):(shDrop a kind n v).1.n≤a.n+1:=by
 unfold shDrop
 repeat' split
 all_goals dsimp only;omega
theorem zmW(a:ASys)(e:AEv):(sysDo a e).1.sh.n≤a.sh.n+1:=by
 by_cases hb:chkEv e=0
 ·rcases zm7 hb with hc | hc | hc | hc | hc | hc | hc | hc | hc | hc | hc | hc | hc
  ·rw[zfd hb hc];unfold sysConfig shPut;repeat' split
   all_goals dsimp only;omega
  ·rw[zjY hb hc];unfold sysRoute shPutR;repeat' split
   all_goals dsimp only;omega
  ·rw[zqs hb hc];unfold sysDrop;have:=zoF a.sh e.n e.name e.draw;split<;>exact this
  ·rw[zhh hb hc];unfold sysArrive;split<;>(dsimp only;omega)
  ·rw[zhg hb hc];unfold sysDone;dsimp only;omega
  ·rw[zjX hb hc];unfold sysUp;split<;>(dsimp only;omega)
  ·rw[zmY hb (.inl hc)];unfold sysDown;split<;>(dsimp only;omega)
  ·rw[zmY hb (.inr hc)];unfold sysDown;split<;>(dsimp only;omega)
  ·rw[zjW hb hc];unfold sysTick;split<;>(dsimp only;omega)
  ·rw[zhk hb hc];unfold sysStamp;repeat' split
   all_goals dsimp only;omega
  ·rw[zhj hb hc];unfold sysLead;repeat' split
   all_goals dsimp only;omega
  ·rw[zoB hb hc];unfold sysScale;repeat' split
   all_goals dsimp only;omega
  ·rw[zhi hb hc];unfold sysPods;split<;>(dsimp only;omega)
 ·rw[zmX hb];dsimp only;omega
theorem zkQ:∀(l:List AEv)(a:ASys),(sysRun a l).sh.n≤a.sh.n+l.length
 | [],a=>by simp[sysRun]
 | e::l,a=>by
  have h1:=zkQ l (sysDo a e).1
  have h2:=zmW a e
  rw[zfb,List.length_cons]
  omega
abbrev evW(x:EvT):Value:=.agg #[.int .i64 x.1,.string x.2.1,.string x.2.2.1,.int .i64 x.2.2.2.1,.int .i64 x.2.2.2.2.1,.string x.2.2.2.2.2.1,.int .i64 x.2.2.2.2.2.2.1,.int .i64 x.2.2.2.2.2.2.2.1,.int .i64 x.2.2.2.2.2.2.2.2.1,.int .i64 x.2.2.2.2.2.2.2.2.2.1,.int .i64 x.2.2.2.2.2.2.2.2.2.2.1,.string x.2.2.2.2.2.2.2.2.2.2.2.1,.string x.2.2.2.2.2.2.2.2.2.2.2.2.1,.slice x.2.2.2.2.2.2.2.2.2.2.2.2.2.1.a x.2.2.2.2.2.2.2.2.2.2.2.2.2.1.len x.2.2.2.2.2.2.2.2.2.2.2.2.2.1.cap,.int .i64 x.2.2.2.2.2.2.2.2.2.2.2.2.2.2.1]
abbrev evLs:List Lf:=[.int .i64,.str,.str,.int .i64,.int .i64,.str,.int .i64,.int .i64,.int .i64,.int .i64,.int .i64,.str,.str,.slice,.int .i64]
abbrev evB(b:Nat)(l:List AEv):Seg:=[Cl b z0c (fl eEv l)]
theorem zpB{ks:Int→Bool}[Kn w0 ks]{b5 sb n:Nat}{l:List AEv}(hn:n=l.length)(hm:n≤1000){j:Nat}{e:AEv}(he:l[j]? = some e){a:ASys}{s:Seg}(h:St w0 (s::evB b5 l::E) w)(hs:SysS sb a s)(hke:ks e.kind=true∧chkEv e=0)(ev:EvIn w0 (s::evB b5 l::E) 0 e)
  {k0:Nat} (inv:SInv k0 a) (hk0:k0≤9000) (hsh:a.sh.n<99) {k:Sl→PT} (hk:∀v sv s' w',Rw eS z00 1 v (sysDo a e).2 sv→SysS sb (sysDo a e).1 s'→SInv (k0+2) (sysDo a e).1→St w0 (sv::s'::evB b5 l::E) w'→k v w') :
  L.idx (some ⟨b5,0,none⟩) (j:Int) n 15 (fun a8=>L.load (.agg evLs) a8 fun(x:EvT)=>L.call Pr z04 [.pointer (some ⟨sb,0,none⟩),evW x] (.one (.one .slice)) k) w:=by
 have hj:j<l.length:=by
  rcases Nat.lt_or_ge j l.length with h | h
  ·exact h
  ·rw[List.getElem?_eq_none h]at he;cases he
 have r:Rw eEv z0c 15 ⟨some ⟨b5,0,none⟩,n,n⟩ l (evB b5 l):=Rw.lit b5 l encEv rfl hn (Nat.le_trans hm (by decide))
 refine Rw.ix encEv r (n:=(j:Int)) (by omega) (by rw[Int.toNat_natCast];exact hj) fun a8 ha=>?_
 rw[Int.toNat_natCast]at ha
 refine Rw.lda encEv h 1 rfl r ha he (y:=e.t) rfl ?_
 exact zmu h 0 rfl hs hke.1 hke.2 ev inv hk0 hsh fun v sv s' w r hs i2 h=>hk v sv s' w r hs i2 h
theorem zlI{ks:Int→Bool}[Kn w0 ks]{b5 sb n:Nat}{l:List AEv}(hn:n=l.length)(hm:n≤1000){a:ASys}{s:Seg}(h:St w0 (s::evB b5 l::E) w)(hs:SysS sb a s)(hke:∀e∈l,ks e.kind=true∧chkEv e=0)(ev:∀e∈l,∀s,EvIn w0 (s::evB b5 l::E) 0 e)
  {k0:Nat} (inv:SInv k0 a) (hk0:k0+2*n≤9000) (hsh:a.sh.n+n<99) {rest:PT} (hr:∀s' w',SysS sb (sysRun a l) s'→SInv (k0+2*n) (sysRun a l)→St w0 (s'::evB b5 l::E) w'→rest w') :
  L.loop (Y:=Int×Unit) (0,()) (fun y again=>L.ite (decide (y.1<((n:Nat):Int))) (L.idx (some ⟨b5,0,none⟩) y.1 n 15 (fun a8=>L.load (.agg evLs) a8 fun(x:EvT)=>L.call Pr z04 [.pointer (some ⟨sb,0,none⟩),evW x] (.one (.one .slice)) fun _=>again (IntKind.wrap .i64 (y.1+1),()))) rest) w:=by
 refine z0u (fun q y w=>∃(j:Nat)(s:Seg),@Eq Int y.1 j∧q+j=n∧SysS sb (sysRun a (l.take j)) s∧SInv (k0+2*j) (sysRun a (l.take j))∧St w0 (s::evB b5 l::E) w) n ⟨0,s,rfl,rfl,hs,inv,h⟩ ?_
 clear hs inv
 clear h;(try clear w)
 rintro q ⟨y,⟨⟩⟩ w ⟨j,s,hy,hq,hs,inv,h⟩ again hag
 (try dsimp only)
 simp only at hy
 subst hy
 refine it (fun hb=>?_) (fun hb=>?_)<;>(try simp only[zB]at hb)
 ·have hj:j<l.length:=by omega
  have hx:l[j]? = some l[j]:=List.getElem?_eq_getElem hj
  have hnn:=zkQ (l.take j) a
  have hlt:(l.take j).length≤j:=by rw[List.length_take];omega
  refine zpB hn hm hx h hs (hke _ (List.getElem_mem hj)) (ev _ (List.getElem_mem hj) s) inv (by omega) (by omega) fun v sv s' w r hs i2 h=>?_
  refine hag (q-1) _ w (by omega) ⟨j+1,s',?_,by omega,?_,?_,dl0_ h⟩
  ·show IntKind.wrap .i64 _=_
   rw[wr (by omega) (by omega)];omega
  ·rw[zfa hx];exact hs
  ·rw[zfa hx];exact i2
 ·have ej:l.take j=l:=List.take_of_length_le (by omega)
  have e:j=n:=by omega
  rw[ej]at hs inv
  subst e
  exact hr s w hs inv h
abbrev evC(ver:Int)(c:Cfg):AEv:=⟨1,s_,s_,ver,0,c,noRt15,noSl⟩
abbrev evR(ver:Int)(r:ARt)(v:Sl):AEv:=⟨2,s_,s_,ver,0,noCfg,r,v⟩
abbrev evAr(n:Int)(name tag:ByteArray)(draw:Int):AEv:=⟨4,name,tag,n,draw,noCfg,noRt15,noSl⟩
abbrev evN(kind n:Int):AEv:=⟨kind,s_,s_,n,0,noCfg,noRt15,noSl⟩
abbrev evNm(kind:Int)(name:ByteArray):AEv:=⟨kind,name,s_,0,0,noCfg,noRt15,noSl⟩
theorem zqS{ver:Int}{c:Cfg}(hv:0≤ver∧ver≤2147483647)(hc:specC c=0):chkEv (evC ver c)=0:=by
 have hn:noneE (true,false,false,false,true,false,()) (evC ver c)=true:=by simp[noneE,bareE,noRt15]
 have hm:numE (evC ver c)=true:=by
  simp only[numE,wiB]
  rw[if_pos (.inl trivial)]
  simp only[Bool.and_eq_true,decide_eq_true_eq]
  omega
 unfold chkEv
 have hp:shp 1=((true,false,false,false,true,false,()),true):=rfl
 simp only[hp]
 rw[if_neg (by decide)]
 unfold chkS
 rw[hn,hm]
 simp[hc]
theorem ztd{ver:Int}{r:ARt}{v:Sl}(hv:0≤ver∧ver≤2147483647)(hr:specE r=0):chkEv (evR ver r v)=0:=by
 have hn:noneE (true,false,false,false,false,true,()) (evR ver r v)=true:=by
  have:sameC noCfg noCfg=true:=by decide
  simp[noneE,this]
 have hm:numE (evR ver r v)=true:=by
  simp only[numE,wiB]
  rw[if_pos (.inr trivial)]
  simp only[Bool.and_eq_true,decide_eq_true_eq]
  omega
 unfold chkEv
 have hp:shp 2=((true,false,false,false,false,true,()),true):=rfl
 simp only[hp]
 rw[if_neg (by decide)]
 unfold chkS
 rw[hn,hm]
 simp[hr]
theorem zsk{kind n:Int}(hk:kind=5∨kind=6∨kind=7∨kind=8)(hv:1≤n∧n≤2147483647):chkEv (evN kind n)=0:=by
 have hn:noneE (true,false,false,false,false,false,()) (evN kind n)=true:=by
  have:sameC noCfg noCfg=true:=by decide
  simp[noneE,bareE,noRt15,this]
 have hm:numE (evN kind n)=true:=by
  simp only[numE,wiB]
  rw[if_neg (by omega),if_neg (by omega)]
  simp only[Bool.and_eq_true,decide_eq_true_eq]
  omega
 have hp:shp kind=((true,false,false,false,false,false,()),true):=by rcases hk with rfl | rfl | rfl | rfl<;>rfl
 unfold chkEv
 simp only[hp]
 rw[if_neg (by decide)]
 unfold chkS
 rw[hn,hm]
 simp
theorem zte{n draw:Int}{name tag:ByteArray}(hnm:shortB name.data.toList 16=true)(ht:tag=s_∨shortB tag.data.toList 8=true)(hv:1≤n∧n≤2147483647)(hd:0≤draw∧draw≤2147483647):chkEv (evAr n name tag draw)=0:=by
 have hn:noneE (true,true,true,true,false,false,()) (evAr n name tag draw)=true:=by
  have:sameC noCfg noCfg=true:=by decide
  simp[noneE,bareE,noRt15,this]
 have hm:numE (evAr n name tag draw)=true:=by
  simp only[numE,wiB]
  rw[if_neg (by decide),if_neg (by decide)]
  simp only[Bool.and_eq_true,decide_eq_true_eq]
  omega
 have hnn:namedE (evAr n name tag draw)=true:=by unfold namedE;rw[if_neg (show ¬((4:Int)=12∨(4:Int)=13)by decide)];exact hnm
 have hdd:wiB draw 0 2147483647=true:=by unfold wiB;simp;omega
 have htt:¬(tag≠s_∧shortB tag.data.toList 8=false):=by
  rintro⟨h1,h2⟩
  rcases ht with e | e
  ·exact h1 e
  ·rw[e]at h2;cases h2
 unfold chkEv
 have hp:shp 4=((true,true,true,true,false,false,()),true):=rfl
 simp only[hp]
 rw[if_neg (by decide)]
 unfold chkS
 rw[hn,hm,hnn,hdd]
 simp only[reduceCtorEq,if_false,and_false,true_and,if_neg htt]
theorem zoK:RevN zhn:=⟨zbO,1,by decide,by decide,by decide,by decide +kernel⟩
end Go.Proofs.YtdcdhcgmeahfmaaGreatDoor
namespace Go.Dm
section
variable {P:Program}{D:Tb}{a:AT}{c:Act}{w:World}{Q:Exit→Act→World→Prop}{ro:Option Nat}
theorem zfm(T:TbOk P D){K:AT→PT}{N id:Nat}{sm:Bool}{ops:Array Oper}{ds:List Deferred}(hin:inB N (.region id ops false)=true)(h:denSeq P D ops.toList ⟨guardsOf ops.toList,sm⟩ (number 0 ops.toList) a K w)
  (hok:ok a c) (hN:c.tmps.size=N) (hds:c.defers=ds)
  (hQ:∀a' c' w',K a' w'→ok a' c'→c'.tmps.size=N→c'.defers=ds→Q .normal c' w'):(Code.region id ops false).wpIn (FR ro) 0 P Q c w:=by
 refine wpIn_region ?_
 have:=zfH (ro:=ro) T (Q:=Q) (Fr:=fun _=>True) (fun _ _ _ _ _ _=>trivial) (fun c w ⟨a,hk,ho,hn,hd⟩ _=>hQ a c w hk ho hn hd) (number 0 ops.toList) a c w trivial
  (fun x hx=>by have:=(z4c _ _ _ hx).2;rw[Nat.sub_zero,Array.getElem?_toList]at this;exact this)
  (fun x hx=>by have:=(z4c _ _ _ hx).2;rw[Nat.sub_zero,Array.getElem?_toList]at this;exact zhB hin _ _ this) h hok hN hds
 rw[ziR]at this
 simpa using this
theorem zni(T:TbOk P D){K0:AT→PT}{K:AT→FuncId→Array Value→Array Value→PT}{N id t:Nat}{mk df:Oper}{ct:Call}{ds:List Deferred}(hin:inB N (.region id #[mk,df] false)=true)
  (hdf:df.op = .defer ct) (hct:ct.callee = .value (.tmp t)) (hca:ct.args = #[]) (hdd:df.dst=none) (hg:df.guard=none) (hmg:mk.guard=none)
  (h:denOp P D mk a K0 w) (hK:∀a' w',K0 a' w'→∃f fs cs,a'.get t=some (.v (.func (.func f) fs cs))∧K a' f fs cs w') (hmd:Dst mk c) (hok:ok a c) (hN:c.tmps.size=N) (hds:c.defers=ds)
  (hQ:∀a' c' w' f fs cs,K a' f fs cs w'→ok a' c'→c'.tmps.size=N→c'.defers = { target:=.fn (.func f) cs,args:=fs } :: ds→Q .normal c' w'):(Code.region id #[mk,df] false).wpIn (FR none) 0 P Q c w:=by
 refine wpIn_region ?_
 have e2:List.range (#[mk,df]:Array Oper).size = [0,1]:=rfl
 rw[e2]
 simp only[wpOpsIn]
 have w0:∀ys,Region.wanted mk ys=true:=fun ys=>by simp[Region.wanted,hmg]
 have w1:∀ys,Region.wanted df ys=true:=fun ys=>by simp[Region.wanted,hg]
 show(if Region.wanted mk _=true then _ else _)
 rw[if_pos (w0 _)]
 refine z8x (zhx h) ((zf3 T hok hmd h).mono fun c1 w1' hn=>?_)
 obtain⟨a',hk0,ho,hs,hd⟩:=hn
 obtain⟨f,fs,cs,hv,hk⟩:=hK _ _ hk0
 show(if Region.wanted df _=true then _ else _)
 rw[if_pos (w1 _)]
 show Oper.wpIn (FR none) 0 P df c1 w1' (fun x x_1=>Q Exit.normal x x_1) Q
 refine⟨fun _ _=>trivial,?_⟩
 have hvt:=ho t _ hv
 have hsem:(df.semAt (FR none).round c1.eval).run P w1' = .ok (.defer { target:=.fn (.func f) cs,args:=fs }) w1':=by
  have hev:c1.eval (.tmp t) = .func (.func f) fs cs:=by
   show c1.tmps.getD t undef=_
   rw[Array.getD_eq_getD_getElem?,hvt];rfl
  show(df.semAt none c1.eval).run P w1'=_
  unfold Oper.semAt
  simp only[execOp,hdf,resolve,hct,hca,Array.map_empty,hev,Deferred.ofValue,Array.append_empty]
  rfl
 rw[hsem]
 show Q .normal (Act.put { c1 with defers:={ target:=.fn (.func f) cs,args:=fs } :: c1.defers } df.dst undef) w1'
 rw[hdd]
 exact hQ a' _ w1' f fs cs hk (fun t s h=>ho t s h) (hs.trans hN) (by show _::c1.defers=_;rw[hd,hds])
theorem zpu(T:TbOk P D){f:FuncId}{fn:Func}{an:Ann}{args:List SV}{K:Value→PT}{w:World}{u:FrameMode}{cd:Code}(hf:P.funcs[f]? = some fn)(hb:fn.body=some cd)(hr:hasRange cd=false)(hin:okF args.length fn=true)(h:denF P D fn an args K w) :
  CallsDIn (FR none) 0 P f (vals args).toArray u w fun e u' w'=>u'=u∧∃v,e = .returned v∧K v w':=by
 unfold okF at hin
 unfold denF at h
 rw[hb]at h hin
 simp only[Bool.and_eq_true,Nat.ble_eq]at hin
 dsimp only at h
 refine callsDIn_of_wp hf hb trivial (wpIn_mono (zqe T cd an none _ [] _ fn.ntmps w _ hin.1 h ?_ ?_ rfl) ?_)
 ·intro t s hs
  obtain⟨_,h2⟩:=zf4 args 0 t s hs
  rw[Nat.sub_zero]at h2
  simp only
  rw[Array.getElem?_append_left (by simpa using(List.getElem?_eq_some_iff.1 h2).1)]
  simpa using h2
 ·have:=zeR args
  simp;omega
 ·intro e c' w' hq
  obtain⟨a',ds',hk,ho',hN',hd',-,h0⟩:=hq
  have hd0:=h0 hr
  rw[hd0]at hd'
  have hds:ds' = []:=by
   cases ds' with
   | nil=>rfl
   | cons d r=>simp[marks]at hd'
  subst hds
  have key:(L.unmark P [] (denRes D a' fn.results.toList fun vs=>K (tupled vs)) w')→∃v,(results fn c'.tmps).run P w' = .ok v w'∧∃v2,Ending.returned v = .returned v2∧K v2 w':=fun hk=>by
   obtain⟨vs,hr,hk⟩:=zcC T ho' _ _ hk
   refine⟨tupled vs,?_,_,rfl,hk⟩
   rw[zdu,←ziq,Sem.run_bind]
   have e:fn.results.mapM (resOne c'.tmps)=(do let l ←fn.results.toList.mapM (resOne c'.tmps);pure l.toArray):=by
    rw[Array.mapM_eq_mapM_toList];rfl
   rw[e,Sem.run_bind,hr]
   simp
  cases e with
  | normal=>exact⟨hd0,key hk⟩
  | ret=>exact⟨hd0,key hk⟩
  | _=>exact hk.elim
theorem zfy{N:Nat}{x y:Code}(h:inB N (.seq x y)=true):inB N x=true∧inB N y=true:=by
 simpa only[inB,Bool.and_eq_true]using h
theorem zpf{N:Nat}{v:Operand}{x y:Code}(h:inB N (.cond v x y)=true):inB N x=true∧inB N y=true:=by
 simpa only[inB,Bool.and_eq_true]using h
def capsOf(s:Option SV):Option (FuncId×Value×Value):=match s with
 | some (.v (.func (.func g) fs cs))=>match fs.toList,cs.toList with
  | [],[x,y]=>some (g,x,y)
  | _,_=>none
 | _=>none
theorem zkl{s:Option SV}{g:FuncId}{x y:Value}(h:capsOf s=some (g,x,y)):s=some (.v (.func (.func g) #[] #[x,y])):=by
 unfold capsOf at h
 split at h
 ·rename_i g' fs cs
  split at h
  ·rename_i h1 h2
   cases h
   obtain⟨fs⟩:=fs
   obtain⟨cs⟩:=cs
   simp only at h1 h2
   subst h1 h2
   rfl
  ·cases h
 ·cases h
def denD(P:Program)(D:Tb)(r0 r1 r2:List Oper)(mk:Oper)(t:Nat)(r4:List Oper)(v:Operand)(r5:List Oper)(g:FuncId)(gn:Func)(gan:Ann)(a0:AT)(K:Value→PT):PT:=
 denSeq P D r0 ⟨guardsOf r0,false⟩ (number 0 r0) a0 fun a1=>
 denSeq P D r1 ⟨guardsOf r1,false⟩ (number 0 r1) a1 fun a2=>
 denSeq P D r2 ⟨guardsOf r2,false⟩ (number 0 r2) a2 fun a3=>
 denOp P D mk a3 fun a4=>match capsOf (a4.get t) with
  | some (g',x,y)=>if g'=g then
    denSeq P D r4 ⟨guardsOf r4,false⟩ (number 0 r4) a4 fun a5=>match a5.ev v with
     | some (.v (.bool b))=>L.ite b (denSeq P D r5 ⟨guardsOf r5,false⟩ (number 0 r5) a5 fun _=>denF P D gn gan [.v x,.v y] fun _=>K (.tuple #[])) (denF P D gn gan [.v x,.v y] fun _=>K (.tuple #[]))
     | _=>bad
   else bad
  | _=>bad
theorem zqR(T:TbOk P D){f g:FuncId}{fn gn:Func}{gc:Code}{gan:Ann}{r0 r1 r2 r4 r5:Array Oper}{i0 i1 i2 i3 i4 i5 t:Nat}{mk df:Oper}{ct:Call}{v:Operand}{args:List SV}{K:Value→PT}(hf:P.funcs[f]? = some fn)
  (hb:fn.body=some (.seq (.region i0 r0 false) (.seq (.region i1 r1 false) (.seq (.region i2 r2 false) (.seq (.region i3 #[mk,df] false) (.seq (.region i4 r4 false) (.cond v (.region i5 r5 false) .skip))))))) (hres:fn.results = #[])
  (hdf:df.op = .defer ct) (hct:ct.callee = .value (.tmp t)) (hca:ct.args = #[]) (hdd:df.dst=none) (hdg:df.guard=none) (hmg:mk.guard=none) (hmt:mk.dst=some t)
  (hin:okF args.length fn=true) (hg:P.funcs[g]? = some gn) (hgb:gn.body=some gc) (hgr:hasRange gc=false) (hgin:okF 2 gn=true) (hE:Enters P g)
  (h:denD P D r0.toList r1.toList r2.toList mk t r4.toList v r5.toList g gn gan (argsT 0 args) K w):Calls P f (vals args).toArray w fun e w'=>∃v,e = .returned v∧K v w':=by
 unfold okF at hin
 rw[hb]at hin
 simp only[Bool.and_eq_true,Nat.ble_eq]at hin
 obtain⟨hin,hlen⟩:=hin
 obtain⟨n0,hin⟩:=zfy hin
 obtain⟨n1,hin⟩:=zfy hin
 obtain⟨n2,hin⟩:=zfy hin
 obtain⟨n3,hin⟩:=zfy hin
 obtain⟨n4,hin⟩:=zfy hin
 obtain⟨n5,-⟩:=zpf hin
 suffices h0:CallsIn (FR none) 0 P f (vals args).toArray w fun e w'=>∃v,e = .returned v∧K v w' from callsIn_wide.1 h0
 refine callsIn_of_wp_marks hf hb trivial ?_
 have hok0:ok (argsT 0 args) { tmps:=(vals args).toArray++Array.replicate (fn.ntmps-(vals args).toArray.size) undef,defers:=[] }:=by
  intro t s hs
  obtain⟨_,h2⟩:=zf4 args 0 t s hs
  rw[Nat.sub_zero]at h2
  simp only
  rw[Array.getElem?_append_left (by simpa using(List.getElem?_eq_some_iff.1 h2).1)]
  simpa using h2
 have hN0:((vals args).toArray++Array.replicate (fn.ntmps-(vals args).toArray.size) undef).size=fn.ntmps:=by
  have:=zeR args
  simp;omega
 unfold denD at h
 refine wpIn_seq (zfm T n0 h hok0 hN0 rfl fun a1 c1 w1 h ok1 N1 d1=>?_)
 refine wpIn_seq (zfm T n1 h ok1 N1 d1 fun a2 c2 w2 h ok2 N2 d2=>?_)
 refine wpIn_seq (zfm T n2 h ok2 N2 d2 fun a3 c3 w3 h ok3 N3 d3=>?_)
 have hmd:Dst mk c3:=fun t' ht=>by
  rw[N3]
  exact zhB n3 0 mk rfl t' ht
 refine wpIn_seq ?_
 refine zni (K:=fun a4 f fs cs w4=>f=g∧∃x y,fs = #[]∧cs = #[x,y]∧(denSeq P D r4.toList ⟨guardsOf r4.toList,false⟩ (number 0 r4.toList) a4 fun a5=>match a5.ev v with
     | some (.v (.bool b))=>L.ite b (denSeq P D r5.toList ⟨guardsOf r5.toList,false⟩ (number 0 r5.toList) a5 fun _=>denF P D gn gan [.v x,.v y] fun _=>K (.tuple #[])) (denF P D gn gan [.v x,.v y] fun _=>K (.tuple #[]))
     | _=>bad) w4) T n3 hdf hct hca hdd hdg hmg h (fun a' w' h9=>?_) hmd ok3 N3 d3 fun a4 c4 w4 f' fs cs h ok4 N4 d4=>?_
 ·cases hcp:capsOf (a'.get t) with
  | none=>rw[hcp]at h9;exact h9.elim
  | some p=>
   obtain⟨g',x,y⟩:=p
   rw[hcp]at h9
   dsimp only at h9
   have hv:=zkl hcp
   by_cases hgg:g'=g
   ·rw[if_pos hgg]at h9
    subst hgg
    exact⟨_,_,_,hv,rfl,x,y,rfl,rfl,h9⟩
   ·rw[if_neg hgg]at h9;exact h9.elim
 obtain⟨hfg,x,y,rfl,rfl,h⟩:=h
 rw[hfg]at d4
 clear hfg
 refine wpIn_seq (zfm T n4 h ok4 N4 d4 fun a5 c5 w5 h ok5 N5 d5=>?_)
 have fin:∀(c6:Act)(w6:World),c6.defers = [{ target:=.fn (.func g) #[x,y],args:=#[] }]→denF P D gn gan [.v x,.v y] (fun _=>K (.tuple #[])) w6→
   LeavesInM (FR none) 0 P fn c6.tmps (fun e w'=>∃v,e = .returned v∧K v w') c6.defers .returning w6:=fun c6 w6 d6 hk=>by
  rw[d6]
  refine⟨by simp,.inr ⟨fun h=>by simp[FR]at h,.func g,#[x,y],g,#[x,y],rfl,?_,fun _ _=>trivial,?_⟩⟩
  ·simp[invoke,hE _ _]
  ·refine(zpu (args:=[.v x,.v y]) T hg hgb hgr hgin hk).mono ?_
   rintro e u' w' ⟨rfl,v,rfl,hk⟩
   refine⟨.tuple #[],?_,_,rfl,hk⟩
   rw[zdu,hres]
   simp
 (try dsimp only at h)
 cases hev:a5.ev v with
 | none=>rw[hev]at h;exact h.elim
 | some s=>
  rw[hev]at h
  have he:=z4x ok5 hev
  cases s with
  | v q=>
   cases q with
   | bool b=>
    refine wpIn_cond_split he (fun hb=>?_) (fun hb=>?_)
    ·exact zfm T n5 (h.1 hb) ok5 N5 d5 fun a6 c6 w6 h ok6 N6 d6=>fin c6 w6 d6 h
    ·exact wpIn_skip (fin c5 w5 d5 (h.2 hb))
   | _=>exact h.elim
  | _=>exact h.elim
end
end Go.Dm
namespace Go.Proofs.YtdcdhcgmeahfmaaGreatDoor
open Go.Dm
def PieceF(p0 p1:Option Addr)(p2:Sl)(K:Value→PT):PT:=
 L.new [.pointer p0] z2r fun b1=>
 L.call Pr z9A [.slice p2.a p2.len p2.cap] (.tup [.agg evLs,.one (.int .i64)]) fun(x2:EvT×Int×Unit)=>
 L.new [.int .i64 0,.string s_,.string s_,.int .i64 0,.int .i64 0,.string s_,.int .i64 0,.int .i64 0,.int .i64 0,.int .i64 0,.int .i64 0,.string s_,.string s_,.slice none 0 0,.int .i64 0] z0c fun b3=>
 L.store ⟨b3,0,none⟩ [.int .i64 x2.1.1,.string x2.1.2.1,.string x2.1.2.2.1,.int .i64 x2.1.2.2.2.1,.int .i64 x2.1.2.2.2.2.1,.string x2.1.2.2.2.2.2.1,.int .i64 x2.1.2.2.2.2.2.2.1,.int .i64 x2.1.2.2.2.2.2.2.2.1,.int .i64 x2.1.2.2.2.2.2.2.2.2.1,.int .i64 x2.1.2.2.2.2.2.2.2.2.2.1,.int .i64 x2.1.2.2.2.2.2.2.2.2.2.2.1,.string x2.1.2.2.2.2.2.2.2.2.2.2.2.1,.string x2.1.2.2.2.2.2.2.2.2.2.2.2.2.1,.slice x2.1.2.2.2.2.2.2.2.2.2.2.2.2.2.1.a x2.1.2.2.2.2.2.2.2.2.2.2.2.2.2.1.len x2.1.2.2.2.2.2.2.2.2.2.2.2.2.2.1.cap,.int .i64 x2.1.2.2.2.2.2.2.2.2.2.2.2.2.2.2.1]<|
 L.call Pr z3x [.int .i64 x2.2.1] (.one (.one .str)) fun(x4:ByteArray)=>
 L.guard (((s_bad__764c.size+x4.size:Nat):Int)≤maxI64)<|
 L.new [.string (s_bad__764c++x4)] z00 fun b5=>
 L.new [.slice none 0 0] z07 fun b6=>
 L.store ⟨b6,0,none⟩ [.slice (some ⟨b5,0,none⟩) 1 1]<|
 L.ite (x2.2.1 == 0) (
  L.load (.agg evLs) ⟨b3,0,none⟩ fun(x7:EvT)=>
  L.call Pr z04 [.pointer p1,evW x7] (.one (.one .slice)) fun(x8:Sl)=>
  L.store ⟨b6,0,none⟩ [.slice x8.a x8.len x8.cap]<|
  z5F ⟨b1,0,none⟩ ⟨b6,0,none⟩ fun _=>K (.tuple #[])) (
  z5F ⟨b1,0,none⟩ ⟨b6,0,none⟩ fun _=>K (.tuple #[]))
theorem zqD(p0 p1:Option Addr)(p2:Sl){K:Value→PT}{w:World}(h:PieceF p0 p1 p2 K w):Calls Pr z6u [.pointer p0,.pointer p1,.slice p2.a p2.len p2.cap].toArray w fun e w2=>∃v,e = .returned v∧K v w2:=
 zqR (args:=[.v (.pointer p0),.v (.pointer p1),.v (.slice p2.a p2.len p2.cap)]) (fn:=Tryz.f127) (gn:=Tryz.f207) (gan:=.auto) Tok (by kernel_rfl) rfl rfl rfl rfl rfl rfl rfl rfl rfl (by kernel_rfl) (by kernel_rfl) rfl (by kernel_rfl) (by kernel_rfl) zc2
  ((congrFun (by kernel_rfl:_=PieceF p0 p1 p2 K) w).mpr h)
end Go.Proofs.YtdcdhcgmeahfmaaGreatDoor
