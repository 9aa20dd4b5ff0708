/- What is proved on the way to a statement of the seat, pressed (text AK). No conditions beyond those its theorems state. -/
import Derived.Test.YtdcdhcgmeahfmaaGreatDoorBAJ
set_option linter.all false
namespace Go.Proofs.YtdcdhcgmeahfmaaGreatDoor
open Go.Dm
attribute [local irreducible] L.load L.store L.chk L.new L.nonnil L.guard L.ite L.draw L.idx L.sem L.semR L.semU L.chkSem L.next L.call L.callV L.join L.alts L.loop L.begin L.endRound L.range
variable {w0 w:World}{E:List Seg}
def upBk(a:ASys)(e:AEv):ABook:=if bkProved a.bk (fOf (fUpp a.fl e.n).1.l e.n)=true then a.bk else(bkProve a.bk (fOf (fUpp a.fl e.n).1.l e.n)).1
def upFirst(a:ASys)(e:AEv):List ByteArray:=
 if bkProved a.bk (fOf (fUpp a.fl e.n).1.l e.n)=true then [lineB s_up [decD e.n.toNat]]else [lineB s_up [decD e.n.toNat],lineB zcw [fOf (fUpp a.fl e.n).1.l e.n]]
abbrev upFlow(a:ASys)(e:AEv):AFleet×AGate×List Fate:=gFlow (fUpp a.fl e.n).1 a.gt (fOf (fUpp a.fl e.n).1.l e.n)
def sysUp(a:ASys)(e:AEv):ASys×List ByteArray:=
 if(fUpp a.fl e.n).2≠0 then({ a with fl:=(fUpp a.fl e.n).1 },refusedB (fUpp a.fl e.n).2)
 else({ a with fl:=(upFlow a e).1,gt:=(upFlow a e).2.1,bk:=upBk a e },upFirst a e++(upFlow a e).2.2.map fateB)
abbrev eEw (e : AEv) : List Value := [I e.kind, .string e.name, .string e.tag, I e.n, I e.draw, .string e.c.1, I e.c.2.1, I e.c.2.2.1, I e.c.2.2.2.1, I e.c.2.2.2.2.1, I e.c.2.2.2.2.2.1, .string e.r.name, .string e.r.cfg, SlV e.v, I e.r.roll]
theorem zrb [bTab w0](h:St w0 E w)(i:Nat){b:Nat}{a:ASys}{s:Seg}(hi:nth E i=some s)(hs:SysS b a s){e:AEv}(he:0≤e.n∧e.n≤9000000000000000000)(hrv:(fOf (fUpp a.fl e.n).1.l e.n).size≤1000000)(hfew:FFew (fUpp a.fl e.n).1)(hn:a.gt.all.length<80000000)(hl:a.gt.lines.length<90000000)
  (hf:∀f∈(upFlow a e).2.2,f.Ok) (hfl:(upFlow a e).2.2.length<100000000) {k:Sl→PT} (hk:Hk w0 E i b (sysUp a e) k):z6e (some ⟨b,0,none⟩) e.t (slK k) w:=by
 obtain⟨p,sg,sf,ss,sk,sr,sm,Q,R,rfl⟩:=hs
 unfold z6e
 have h:=(h.front i hi).split8
 refine nw h ?_;clear h;(try clear w);intro b1 w h
 (dsimp only[setN,List.cons_append,List.nil_append]at h;refine dr h ?_;clear h;(try clear w);intro w h;refine nn ?_;refine ldC h ?_;refine ldC h ?_)
 unfold sysUp at hk
 refine zsU h 3 rfl R.fl fun sf' w hF h=>?_
 dsimp only[setN]at h
 refine it (fun hc=>?_) (fun hc=>?_)
 ·have hc:(fUpp a.fl e.n).2≠0:=by simpa using hc
  rw[if_pos hc]at hk
  refine z5p h fun v s w r h=>?_
  exact⟨v,rfl,hk v s _ w r ⟨p,sg,sf',ss,sk,sr,sm,Q,⟨R.gt,hF,R.sh,R.bk,R.ro,R.mp,R.ea,R.ab⟩,rfl⟩ (sysBack i hi (dl1_ h))⟩
 have hc:¬(fUpp a.fl e.n).2≠0:=by simpa using hc
 rw[if_neg hc]at hk
 unfold upBk upFirst upFlow at hk
 unfold upFlow at hf hfl
 generalize (fUpp a.fl e.n).1=F at *
 (refine dr h ?_;clear h;(try clear w);intro w h;refine nn ?_;refine ldC h ?_;refine ldC h ?_)
 refine ztv h 3 rfl hF ?_
 generalize fOf F.l e.n=rev at *
 (refine ldC h ?_)
 refine nw h ?_;clear h;(try clear w);intro b12 w h
 refine lineI1 h (by decide) he.1 he.2 fun w h=>?_
 have hsu:(lineB s_up [decD e.n.toNat]).size≤10000:=by rw[z7Q];have:=zhH he.1 he.2;have:s_up.size=2:=rfl;omega
 refine nw h ?_;clear h;(try clear w);intro b14 w h
 refine z18 (fun(z:Sl×Unit) w=>∃(s1 sk':Seg),Rw eS z01 1 z.1 (if bkProved a.bk rev=true then [lineB s_up [decD e.n.toNat]]else [lineB s_up [decD e.n.toNat],lineB zcw [rev]]) s1∧BkS p.k (if bkProved a.bk rev=true then a.bk else(bkProve a.bk rev).1) sk'∧
  St w0 (s1::[Cl b1 z0w (eEw e)]::sysC b p a.now::sg::sf'::ss::sk'::sr::sm::(Q.map BsE.sg).flatten::delN E i) w) (fun k15 hk15=>?_) ?_
 ·(refine nn ?_;refine ldC h ?_)
  refine zh4 h 6 rfl R.bk fun w h=>?_
  cases hp:bkProved a.bk rev with
  | true=>
   rw[hp]at hk15
   refine itF rfl ?_
   exact hk15 (_,()) w ⟨_,sk,Rw.lit b14 [_] encS rfl rfl (by decide),R.bk,h⟩
  | false=>
   rw[hp]at hk15
   refine itT rfl ?_
   (refine nn ?_;refine ldC h ?_)
   refine zot h 6 rfl R.bk fun sk' w hK h=>?_
   dsimp only[setN]at h
   refine nw h ?_;clear h;(try clear w);intro b23 w h
   refine lineS1 h (by decide) (by omega) fun w h=>?_
   refine nw h ?_;clear h;(try clear w);intro b25 w h
   refine Rw.app encS elS h 0 rfl (Rw.lit b14 [lineB s_up [decD e.n.toNat]] encS rfl rfl (by simp[maxLen])) (lineB zcw [rev]) rfl (by simp) (by simp) fun v' s' w hr' h=>?_
   exact hk15 (_,()) w ⟨s',sk',hr',hK,h⟩
 ·clear h;(try clear w)
  rintro⟨vo,⟨⟩⟩ w ⟨s1,sk',r1,hK,h⟩
  (refine nn ?_;refine ldC h ?_)
  have h:=fr4_ (fr4_ h)
  refine zkb h R.gt hF hfew (by omega) hl fun v sv sg' sf'' w hr hG hF h=>?_
  have h:=fr3_ h
  refine zlh h (v2:=vo) hr hf hfl (by split<;>simp) r1 fun v s w r h=>?_
  refine⟨v,rfl,hk v s _ w r ⟨p,sg',sf'',ss,sk',sr,sm,Q,⟨hG,hF,R.sh,hK,R.ro,R.mp,R.ea,R.ab⟩,rfl⟩ ?_⟩
  have h:=dl1_ (dl4_ h)
  have h:=fr3_ (fr3_ (fr2_ (fr2_ h)))
  exact sysBack i hi h
abbrev wantOf(c:Cfg):Int:=if 1 > @id Int c.2.2.2.1 then 1 else @id Int c.2.2.2.1
abbrev stp(a:ASys)(n:ByteArray):ABook×ByteArray×Bool:=bkStamp a.bk (shCfg a.sh n).1 (@id Int (shCfg a.sh n).2.2.1).toNat
def sysStamp(a:ASys)(e:AEv):ASys×List ByteArray:=
 if(shCfg a.sh e.name).2.2.2.1=false then(a,refusedB 6)else if @id Int (shCfg a.sh e.name).2.2.1>999999 then(a,refusedB 3)
 else if(stp a e.name).2.2=false then({ a with bk:=(stp a e.name).1 },[lineB zq8 [(stp a e.name).2.1]])
 else({ a with bk:=(stp a e.name).1,by':=mset a.by' (stp a e.name).2.1 ⟨[],wantOf (shCfg a.sh e.name).1,0⟩ },[lineB z91 [(stp a e.name).2.1],lineB (lineB s_scale [(stp a e.name).2.1]) [decD (wantOf (shCfg a.sh e.name).1).toNat]])
theorem zqx(a:ABook)(c:Cfg)(g:Nat):(bkStamp a c g).2.1=revB c.1 g:=by unfold bkStamp;split<;>rfl
theorem zmh [bTab w0](h:St w0 E w)(i:Nat){b:Nat}{a:ASys}{s:Seg}(hi:nth E i=some s)(hs:SysS b a s){e:AEv}
  (hst:(shCfg a.sh e.name).2.2.2.1=true→shortB (shCfg a.sh e.name).1.1.data.toList 16=true∧1≤@id Int (shCfg a.sh e.name).2.2.1∧@id Int (shCfg a.sh e.name).2.2.1<100∧@id Int (shCfg a.sh e.name).1.2.2.2.1≤1000000) (hf:a.bk.all.length<999999)
  {k:Sl→PT} (hk:Hk w0 E i b (sysStamp a e) k):z4F (some ⟨b,0,none⟩) e.t (slK k) w:=by
 have hs0:=hs
 obtain⟨p,sg,sf,ss,sk,sr,sm,Q,R,rfl⟩:=hs
 unfold z4F
 unfold sysStamp stp at hk
 have h:=(h.front i hi).split8
 refine nw h ?_;clear h;(try clear w);intro b1 w h
 refine z18 (fun(z:Addr×Int×Bool×Unit) w=>∃b8:Nat,z=(⟨b8,0,none⟩,(shCfg a.sh e.name).2.2.1,(shCfg a.sh e.name).2.2.2.1,())∧
  St w0 ([Cl b8 z05 (Cfg.cells (shCfg a.sh e.name).1)]::sysC b p a.now::sg::sf::ss::sk::sr::sm::(Q.map BsE.sg).flatten::delN E i) w) (fun k2 hk2=>?_) ?_
 ·(dsimp only[setN,List.cons_append,List.nil_append]at h;refine dr h ?_;clear h;(try clear w);intro w h;refine nn ?_;refine ldC h ?_;refine ldC h ?_)
  refine alts2 ?_ ?_
  ·refine zh2 h 4 rfl R.sh fun w h=>?_
   refine nw h ?_;clear h;(try clear w);intro b8 w h
   (refine ckC h ?_;refine ckC h ?_;refine stC h ?_;clear h;(try clear w);intro w h;dsimp only[putN,setN]at h)
   exact hk2 _ w ⟨b8,rfl,dl1_ h⟩
  ·refine nw h ?_;clear h;(try clear w);intro b8 w h
   (refine ckC h ?_;refine ckC h ?_)
   refine zh2 h 5 rfl R.sh fun w h=>?_
   (refine stC h ?_;clear h;(try clear w);intro w h;dsimp only[putN,setN]at h)
   exact hk2 _ w ⟨b8,rfl,dl1_ h⟩
 clear h;(try clear w)
 rintro z w ⟨b8,rfl,h⟩
 (try dsimp only)
 refine it (fun hc=>?_) (fun hc=>?_)
 ·have hc:(shCfg a.sh e.name).2.2.2.1=false:=by simpa using hc
  rw[if_pos hc]at hk
  refine z5p h fun v s w r h=>?_
  exact⟨v,rfl,hk v s _ w r hs0 (sysBack i hi (dl1_ h))⟩
 have hc:(shCfg a.sh e.name).2.2.2.1=true:=by simpa using hc
 rw[if_neg (by simp[hc])]at hk
 obtain⟨st1,st2,st3,st4⟩:=hst hc
 have hmin:0≤wantOf (shCfg a.sh e.name).1∧wantOf (shCfg a.sh e.name).1≤1000000:=by
  unfold wantOf
  split<;>omega
 unfold wantOf at hk hmin
 generalize shCfg a.sh e.name=z at *
 obtain⟨c,ver,gen,is,⟨⟩⟩:=z
 dsimp only at hk hc hmin h st1 ⊢
 simp only[id]at st2 st3 st4
 refine it (fun h2=>?_) (fun h2=>?_)
 ·exact absurd (of_decide_eq_true h2) (by simp only[Int.not_lt,gt_iff_lt];omega)
 have hng:¬@id Int gen>999999:=by simp only[id];omega
 rw[if_neg hng]at hk
 (refine dr h ?_;clear h;(try clear w);intro w h;refine nn ?_;refine ldC h ?_;refine laC h ?_)
 obtain⟨g,rfl⟩:∃g:Nat,gen=(g:Int):=⟨@Int.toNat gen,by omega⟩
 have hg1:1≤g:=by have:(1:Int)≤(g:Int):=st2
                  omega
 have hg2:g<100:=by have:(g:Int)<100:=st3
                    omega
 simp only[id,Int.toNat_natCast]at hk hmin
 refine zos (c:=c) h 5 rfl R.bk st1 hg1 hg2 hf fun sk' w hK h=>?_
 dsimp only[setN]at h
 have hrev:=zqx a.bk c g
 have hsz:(revB c.1 g).size≤1000000:=by have:=zba c.1 hg2;have:=z7E st1;omega
 rw[←hrev]at hsz
 clear hrev
 generalize (bkStamp a.bk c g).2.1=rev at *
 have hfr:∀x:Bool,(bkStamp a.bk c g).2.2=x→True:=fun _ _=>trivial
 generalize (bkStamp a.bk c g).2.2=fr at *
 generalize (bkStamp a.bk c g).1=K at *
 cases fr with
 | false=>
  rw[if_pos rfl]at hk
  refine itT rfl ?_
  refine nw h ?_;clear h;(try clear w);intro b17 w h
  refine lineS1 h (by decide) (by omega) fun w h=>?_
  refine nw h ?_;clear h;(try clear w);intro b19 w h
  exact⟨_,rfl,hk _ _ _ w (Rw.lit b19 [_] encS rfl rfl (by simp[maxLen])) ⟨p,sg,sf,ss,sk',sr,sm,Q,⟨R.gt,R.fl,R.sh,hK,R.ro,R.mp,R.ea,R.ab⟩,rfl⟩ (sysBack i hi (dl1_ h))⟩
 | true=>
  rw[if_neg (by decide)]at hk
  refine itF rfl ?_
  (refine ldC h ?_;refine dr h ?_;clear h;(try clear w);intro w h;refine nn ?_;refine ldC h ?_)
  refine zry h fun bg sgg w hG h=>?_
  (refine ckC h ?_)
  refine nw h ?_;clear h;(try clear w);intro b24 w h
  (refine ckC h ?_)
  refine MpS.set mkStr zgx h 9 rfl R.mp (some ⟨b24,0,none⟩) rfl fun sm' w hm' h=>?_
  dsimp only[setN]at h
  refine nw h ?_;clear h;(try clear w);intro b25 w h
  refine lineS1 h (by decide) (by omega) fun w h=>?_
  refine nw h ?_;clear h;(try clear w);intro b27 w h
  refine lineS1 h (by decide) (by omega) fun w h=>?_
  have hl:(lineB s_scale [rev]).size≤100000000:=by rw[z7Q];have:s_scale.size=5:=rfl;omega
  refine nw h ?_;clear h;(try clear w);intro b29 w h
  refine lineI1 h hl hmin.1 (by omega) fun w h=>?_
  refine nw h ?_;clear h;(try clear w);intro b31 w h
  have h:St w0 ([Cl b31 z01 [.string (lineB z91 [rev]),.string (lineB (lineB s_scale [rev]) [decD (if 1 > @id Int c.2.2.2.1 then 1 else @id Int c.2.2.2.1).toNat])]]::[Cl b24 z4E [.pointer (some ⟨bg,0,none⟩),I (if 1 > @id Int c.2.2.2.1 then 1 else @id Int c.2.2.2.1),I 0]]::sgg::[Cl b8 z05 (Cfg.cells c)]::sysC b p a.now::sg::sf::ss::sk'::sr::sm'::(Q.map BsE.sg).flatten::delN E i) w:=h
  have h:=dl3_ h
  have h:=fr2_ (fr2_ h)
  have h:=h.glue
  have h:=fr1_ (fr9_ h)
  have h:St w0 (BsE.sg ⟨rev,b24,bg,⟨[],(if 1 > @id Int c.2.2.2.1 then 1 else @id Int c.2.2.2.1),0⟩,sgg⟩::(Q.map BsE.sg).flatten::[Cl b31 z01 [.string (lineB z91 [rev]),.string (lineB (lineB s_scale [rev]) [decD (if 1 > @id Int c.2.2.2.1 then 1 else @id Int c.2.2.2.1).toNat])]]::sysC b p a.now::sg::sf::ss::sk'::sr::sm'::delN E i) w:=h
  have h:=St.lput (key:=BsE.k) h
  have h:=fr8_ (fr8_ (fr8_ (fr8_ (fr8_ (fr8_ (fr8_ (fr8_ h)))))))
  have e5:=z9A (key:=BsE.k) (fun x:BsE=>(some ⟨x.b,0,none⟩:Option Addr)) ⟨rev,b24,bg,⟨[],(if 1 > @id Int c.2.2.2.1 then 1 else @id Int c.2.2.2.1),0⟩,sgg⟩ Q
  have e6:=z9A (key:=BsE.k) BsE.x ⟨rev,b24,bg,⟨[],(if 1 > @id Int c.2.2.2.1 then 1 else @id Int c.2.2.2.1),0⟩,sgg⟩ Q
  refine⟨_,rfl,hk _ _ _ w (Rw.lit b31 [_,_] encS rfl rfl (by simp[maxLen])) ⟨p,sg,sf,ss,sk',sr,sm',_,⟨R.gt,R.fl,R.sh,hK,R.ro,by rw[←e5]at hm';exact hm',fun y hy=>?_,?_⟩,rfl⟩ (sysBack i hi h)⟩
  ·rcases zeW hy with rfl | hy
   ·exact hG
   ·exact R.ea y hy
  ·show mset a.by' _ _=_
   rw[R.ab];exact e6.symm
abbrev ldTab(a:ASys)(n:ByteArray):ATab×Int:=resolve a.bk (shRt a.sh n).1
abbrev ldNow(a:ASys)(n:ByteArray):ATab:=nowOf a.ro n (ldTab a n).1 a.now (shRt a.sh n).1.roll
def sysLead(a:ASys)(e:AEv):ASys×List ByteArray:=
 if(shRt a.sh e.name).2.2=false then(a,refusedB 6)else if(ldTab a e.name).2≠0 then(a,refusedB (ldTab a e.name).2)
 else({ a with ro:=roTurn a.ro e.name (ldTab a e.name).1 a.now (shRt a.sh e.name).1.roll },[lineB zn9 [e.name,tabText (ldNow a e.name)]])
structure TabB(t:ATab):Prop where
 sh:∀s∈t.sh,(0≤@id Int s.2.1∧@id Int s.2.1≤1000)∧s.1.size≤1000
 tg:∀s∈t.tg,s.1.size≤1000∧s.2.1.size≤1000
 txt:(tabText t).size≤100000000
theorem zo7 [bTab w0](h:St w0 E w)(i:Nat){b:Nat}{a:ASys}{s:Seg}(hi:nth E i=some s)(hs:SysS b a s){e:AEv}(hfew:a.sh.Few)(hname:e.name.size≤100000)(hp:∀t∈(shRt a.sh e.name).1.ts,0≤pct t∧pct t≤1000)(hl:(shRt a.sh e.name).1.ts.length≤1000)
  (hroll:(shRt a.sh e.name).1.roll≤1000000) (hok:∀x,mget a.ro e.name=some x→x.Ok) (hsi:∀x,mget a.ro e.name=some x→0≤x.since∧x.since<1000000000) (hnow:0≤a.now∧a.now<1000000000) (hwb:WBd (ldTab a e.name).1.sh) (hln:(ldNow a e.name).sh.length<100000) (htb:TabB (ldNow a e.name))
  {k:Sl→PT} (hk:Hk w0 E i b (sysLead a e) k):z5h (some ⟨b,0,none⟩) e.t (slK k) w:=by
 have hs0:=hs
 obtain⟨p,sg,sf,ss,sk,sr,sm,Q,R,rfl⟩:=hs
 unfold z5h
 unfold sysLead at hk
 have h:=(h.front i hi).split8
 refine nw h ?_;clear h;(try clear w);intro b1 w h
 refine z18 (fun(z:Addr×Bool×Unit) w=>∃(b8:Nat)(v:Sl)(sv:Seg),z=(⟨b8,0,none⟩,(shRt a.sh e.name).2.2,())∧Rw eT z09 3 v (shRt a.sh e.name).1.ts sv∧
  St w0 ([Cl b8 z0r [.string (shRt a.sh e.name).1.name,.string (shRt a.sh e.name).1.cfg,SlV v,I (shRt a.sh e.name).1.roll]]::sv::[Cl b1 z0w (eEw e)]::sysC b p a.now::sg::sf::ss::sk::sr::sm::(Q.map BsE.sg).flatten::delN E i) w) (fun k2 hk2=>?_) ?_
 ·(dsimp only[setN,List.cons_append,List.nil_append]at h;refine dr h ?_;clear h;(try clear w);intro w h;refine nn ?_;refine ldC h ?_;refine ldC h ?_)
  refine alts2 ?_ ?_
  ·refine zjc h 4 rfl R.sh hfew fun v sv w r h=>?_
   refine nw h ?_;clear h;(try clear w);intro b8 w h
   (refine ckC h ?_;refine ckC h ?_;refine stC h ?_;clear h;(try clear w);intro w h;dsimp only[putN,setN]at h)
   exact hk2 _ w ⟨b8,v,sv,rfl,r,h⟩
  ·refine nw h ?_;clear h;(try clear w);intro b8 w h
   (refine ckC h ?_;refine ckC h ?_)
   refine zjc h 5 rfl R.sh hfew fun v sv w r h=>?_
   (refine stC h ?_;clear h;(try clear w);intro w h;dsimp only[putN,setN]at h)
   have h:=fr1_ h
   exact hk2 _ w ⟨b8,v,sv,rfl,r,h⟩
 clear h;(try clear w)
 rintro z w ⟨b8,v,sv,rfl,rv,h⟩
 (try dsimp only)
 refine it (fun hc=>?_) (fun hc=>?_)
 ·have hc:(shRt a.sh e.name).2.2=false:=by simpa using hc
  rw[if_pos hc]at hk
  refine z5p h fun v s w r h=>?_
  exact⟨v,rfl,hk v s _ w r hs0 (sysBack i hi (dl1_ (dl1_ (dl1_ h))))⟩
 have hc:(shRt a.sh e.name).2.2=true:=by simpa using hc
 rw[if_neg (by simp[hc])]at hk
 unfold ldTab ldNow at *
 unfold ldTab at *
 generalize (shRt a.sh e.name).1=r at *
 refine z18 (fun(z:Addr×Int×Unit) w=>∃(b18:Nat)(q:HT [.slice,.slice])(sx:Seg),z=(⟨b18,0,none⟩,(resolve a.bk r).2,())∧(∀E',TabR w0 (sx::E') q (resolve a.bk r).1)∧
  St w0 (sx::[Cl b18 z04 [SlV q.1,SlV q.2.1]]::[Cl b8 z0r [.string r.name,.string r.cfg,SlV v,I r.roll]]::sv::[Cl b1 z0w (eEw e)]::sysC b p a.now::sg::sf::ss::sk::sr::sm::(Q.map BsE.sg).flatten::delN E i) w) (fun k12 hk12=>?_) ?_
 ·(refine dr h ?_;clear h;(try clear w);intro w h;refine laC h ?_;refine nn ?_;refine ldC h ?_)
  refine alts2 ?_ ?_
  ·refine zjk (r:=r) (v:=v) h 7 rfl R.bk (Rw.re encT 1 rfl rv) hl hp fun q sx w hq h=>?_
   refine nw h ?_;clear h;(try clear w);intro b18 w h
   (refine ckC h ?_;refine ckC h ?_;refine stC h ?_;clear h;(try clear w);intro w h;dsimp only[putN,setN]at h)
   have h:=fr1_ h
   exact hk12 _ w ⟨b18,q,sx,rfl,hq,h⟩
  ·refine nw h ?_;clear h;(try clear w);intro b18 w h
   (refine ckC h ?_;refine ckC h ?_)
   refine zjk (r:=r) (v:=v) h 8 rfl R.bk (Rw.re encT 2 rfl rv) hl hp fun q sx w hq h=>?_
   (refine stC h ?_;clear h;(try clear w);intro w h;dsimp only[putN,setN]at h)
   exact hk12 _ w ⟨b18,q,sx,rfl,hq,h⟩
 clear h;(try clear w)
 rintro z w ⟨b18,q,sx,rfl,hq,h⟩
 (try dsimp only)
 refine it (fun h2=>?_) (fun h2=>?_)
 ·have h2:(resolve a.bk r).2≠0:=by simpa using h2
  rw[if_pos h2]at hk
  refine z5p h fun v s w r h=>?_
  exact⟨v,rfl,hk v s _ w r hs0 (sysBack i hi (dl1_ (dl1_ (dl1_ (dl1_ (dl1_ h))))))⟩
 have h2:¬(resolve a.bk r).2≠0:=by simpa using h2
 rw[if_neg h2]at hk
 (refine dr h ?_;clear h;(try clear w);intro w h;refine ldC h ?_;refine nn ?_;refine ldC h ?_;refine ldC h ?_;refine laC h ?_;refine nn ?_;refine ldC h ?_;refine ldC h ?_)
 refine zpR (p:=q) (t:=(resolve a.bk r).1) h 10 rfl R.ro (hq _) hok hwb hnow hsi hroll hln fun q2 sy sr' w hR hq2 h=>?_
 dsimp only[setN]at h
 (refine ckC h ?_)
 refine zt2 (p:=q2) h (hq2 _) htb.sh htb.tg fun w h=>?_
 (refine ckC h ?_)
 refine nw h ?_;clear h;(try clear w);intro b32 w h
 refine lineS2 h (by decide) (by omega) htb.txt fun w h=>?_
 refine nw h ?_;clear h;(try clear w);intro b34 w h
 refine⟨_,rfl,hk _ _ _ w (Rw.lit b34 [_] encS rfl rfl (by simp[maxLen])) ⟨p,sg,sf,ss,sk,sr',sm,Q,⟨R.gt,R.fl,R.sh,R.bk,hR,R.mp,R.ea,R.ab⟩,rfl⟩ (sysBack i hi ?_)⟩
 exact dl1_ (dl1_ (dl1_ (dl1_ (dl1_ (dl1_ h)))))
theorem zf4{rev:ByteArray}{y:ABes}{sgg:Seg}{x:BsE}(hk:x.k=rev){B:List BsE}:∀{A:List BsE},((A++x::B).map BsE.k).Nodup→(A++⟨x.k,x.b,x.g,y,sgg⟩::B).map BsE.ka=mset ((A++x::B).map BsE.ka) rev y
 | [],_=>by
  subst hk
  simp[mset]
 | a::A,hn=>by
  have hn2:=hn
  rw[List.cons_append,List.map_cons,List.nodup_cons]at hn2
  have hne:¬a.k=rev:=fun e=>hn2.1 (by rw[e,←hk];simp)
  have ih:=zf4 hk (A:=A) (y:=y) (sgg:=sgg) hn2.2
  rw[List.cons_append,List.map_cons,List.cons_append,List.map_cons,ih]
  simp only[mset]
  rw[if_neg hne]
def bnd(a:ASys)(e:AEv):ByteArray:=if(mget a.ro e.name).isSome=false then s_ else if e.tag=s_ then tPick (roTab a.ro e.name) e.draw else(tagL (roTab a.ro e.name).tg e.tag).1
theorem zrF(h:St w0 E w)(i:Nat){b:Nat}{a:ASys}{s:Seg}(hi:nth E i=some s)(hs:SysS b a s){e:AEv}(hd:0≤e.draw∧e.draw<4611686018427387904)(hok:∀x,mget a.ro e.name=some x→x.Ok)(hwb:WBd (roTab a.ro e.name).sh){k:ByteArray→PT}
  (hk:∀w',St w0 E w'→k (bnd a e) w'):L.call Pr z4y [.pointer (some ⟨b,0,none⟩),evV e] (.one (.one .str)) k w:=by
 obtain⟨p,sg,sf,ss,sk,sr,sm,Q,R,rfl⟩:=hs
 refine z00 (zaX _ e.t) ?_
 unfold z6S
 unfold bnd at hk
 have h:=(h.front i hi).split8
 refine nw h ?_;clear h;(try clear w);intro b1 w h
 (dsimp only[setN,List.cons_append,List.nil_append]at h;refine ldC h ?_)
 refine z00 (zaY _ _) ?_
 unfold z6T
 refine nw h ?_;clear h;(try clear w);intro b2 w h
 (refine nn ?_;refine ldC h ?_)
 refine zod h 7 rfl R.ro hok fun q sx w hq h=>?_
 (refine stC h ?_;clear h;(try clear w);intro w h;dsimp only[putN,setN]at h;refine laC h ?_)
 refine⟨(q,(mget a.ro e.name).isSome,()),rfl,?_⟩
 have fin:∀{w x},(∀w',St w0 E w'→k x w')→St w0 (sx::[Cl b2 z04 [SlV q.1,SlV q.2.1]]::[Cl b1 z0w (eEw e)]::sysC b p a.now::sg::sf::ss::sk::sr::sm::(Q.map BsE.sg).flatten::delN E i) w→k x w:=by
  intro w x hk h
  exact hk w (St.again i hi (dl0_ (dl0_ (dl0_ h))).glue8)
 refine nw h ?_;clear h;(try clear w);intro b4 w h
 (refine stC h ?_;clear h;(try clear w);intro w h;dsimp only[putN,setN]at h)
 refine it (fun hc=>?_) (fun hc=>?_)
 ·have hc:(mget a.ro e.name).isSome=false:=by simpa using hc
  rw[if_pos hc]at hk
  exact⟨_,rfl,fin hk (dl0_ h)⟩
 have hc:¬(mget a.ro e.name).isSome=false:=fun e2=>by
  dsimp only at hc
  rw[e2]at hc
  exact absurd hc (by decide)
 rw[if_neg hc]at hk
 (refine ldC h ?_)
 rw[z40]
 refine it (fun h2=>?_) (fun h2=>?_)<;>(try simp only[zB]at h2)
 ·rw[if_pos h2]at hk
  (refine laC h ?_;refine ldC h ?_)
  exact zt6 (p:=q) h (t:=roTab a.ro e.name) (by
   have:=hq ([Cl b2 z04 [SlV q.1,SlV q.2.1]]::[Cl b1 z0w (eEw e)]::sysC b p a.now::sg::sf::ss::sk::sr::sm::(Q.map BsE.sg).flatten::delN E i)
   exact this.there) hwb hd.1 hd.2 fun w h=>⟨_,rfl,fin hk (dl0_ h)⟩
 ·rw[if_neg h2]at hk
  (refine laC h ?_;refine ldC h ?_)
  exact zrI (p:=q) h (t:=roTab a.ro e.name) (by
   have:=hq ([Cl b2 z04 [SlV q.1,SlV q.2.1]]::[Cl b1 z0w (eEw e)]::sysC b p a.now::sg::sf::ss::sk::sr::sm::(Q.map BsE.sg).flatten::delN E i)
   exact this.there) fun w h=>⟨_,rfl,fin hk (dl0_ h)⟩
abbrev arG(a:ASys)(e:AEv):AFleet×AGate×Fate:=gArr a.fl a.gt e.n (bnd a e) a.now
def pokes(a:ASys)(e:AEv):Option ABes:=match mget a.by' (bnd a e) with
 | some x=>if(arG a e).2.2.2.1=2∧x.want=0 then some x else none
 | none=>none
def sysArrive(a:ASys)(e:AEv):ASys×List ByteArray:=match pokes a e with
 | some x=>({ a with fl:=(arG a e).1,gt:=(arG a e).2.1,by':=mset a.by' (bnd a e) ⟨x.xs,1,x.left⟩ },[fateB (arG a e).2.2,lineB (lineB s_scale [bnd a e]) [decD 1]])
 | none=>({ a with fl:=(arG a e).1,gt:=(arG a e).2.1 },[fateB (arG a e).2.2])
theorem zptr(w:World):(zeroValue z4X).run Pr w = .ok ((E1.one .ptr).val (none:Option Addr)) w:=by
 have h:(Pr.info? z4X).map (·.zero)=some (some (.pointer none)):=by kernel_rfl
 cases hi:Pr.info? z4X with
 | none=>rw[hi]at h;cases h
 | some i=>rw[hi]at h;simp only[Option.map_some,Option.some.injEq]at h;exact zv hi h w
theorem zfP{Q:List BsE}{rev:ByteArray}:mget (Q.map BsE.kp) rev=(lfind BsE.k Q rev).map fun x=>some ⟨x.b,0,none⟩:=z6c (key:=BsE.k) (fun x:BsE=>(some ⟨x.b,0,none⟩:Option Addr)) rev Q
theorem zfQ{Q:List BsE}{rev:ByteArray}:mget (Q.map BsE.ka) rev=(lfind BsE.k Q rev).map BsE.x:=z6c (key:=BsE.k) BsE.x rev Q
theorem zk9 [bTab w0](h:St w0 E w)(i:Nat){b:Nat}{a:ASys}{s:Seg}(hi:nth E i=some s)(hs:SysS b a s){e:AEv}(hd:0≤e.draw∧e.draw<4611686018427387904)(hok:∀x,mget a.ro e.name=some x→x.Ok)(hwb:WBd (roTab a.ro e.name).sh)
  (hfew:FFew a.fl) (hn:a.gt.all.length<80000000) (hl:a.gt.lines.length<90000000) (hnow: -1000000000000<a.now+a.gt.pat∧a.now+a.gt.pat<1000000000000) (hf:(arG a e).2.2.Ok) (hrv:(bnd a e).size≤1000000)
  {k:Sl→PT} (hk:Hk w0 E i b (sysArrive a e) k):z4g (some ⟨b,0,none⟩) e.t (slK k) w:=by
 have hs0:=hs
 obtain⟨p,sg,sf,ss,sk,sr,sm,Q,R,rfl⟩:=hs
 unfold z4g
 refine nw h ?_;clear h;(try clear w);intro b1 w h
 (dsimp only[setN,List.cons_append,List.nil_append]at h;refine laC h ?_)
 refine zrF (e:=e) h (i+1) hi hs0 hd hok hwb fun w h=>?_
 unfold sysArrive pokes arG at hk
 unfold arG at hf
 generalize bnd a e=rev at *
 have h:=(h.front (i+1) hi).split8
 have h:St w0 (sysC b p a.now::sg::sf::ss::sk::sr::sm::(Q.map BsE.sg).flatten::[Cl b1 z0w (eEw e)]::delN E i) w:=h
 (refine dr h ?_;clear h;(try clear w);intro w h;refine nn ?_;refine ldC h ?_;refine ldC h ?_;refine nn ?_;refine ldC h ?_)
 have h:=fr2_ (fr2_ h)
 refine zsS h R.gt R.fl hfew (by omega) hl hnow fun v sv sg' sf' w hr hG hF h=>?_
 generalize gArr a.fl a.gt e.n rev a.now=g at *
 have hone:∀f∈[g.2.2],f.Ok:=fun f hff=>by rw[List.mem_singleton.1 hff];exact hf
 have hlen:=Rw.len encF hr
 refine zlh h.nil (l:=[]) hr hone (by simp) (by decide) Rw.nil fun v2 s2 w r2 h=>?_
 simp only[List.nil_append,List.map_cons,List.map_nil]at r2
 (refine nn ?_;refine ldC h ?_)
 refine z00 (z3w _ _) ?_
 unfold z2g
 refine MpS.get2 mkStr zgx zptr (fun x:Option Addr=>x) (fun _=>rfl) h 8 rfl R.mp ?_
 rw[R.ab,zfQ]at hk
 rw[zfP]
 have close:∀{w}{vo:Sl}{so sm':Seg}{Q':List BsE}{by'':List (ByteArray×ABes)}{out:List ByteArray},by''=Q'.map BsE.ka→MpS Value.string Value.pointer p.m (Q'.map BsE.kp) sm'→(∀x∈Q',x.ok)→Rw eS z01 1 vo out so→
   (∀v sv s' w',Rw eS z01 1 v out sv→SysS b { a with fl:=g.1,gt:=g.2.1,by':=by'' } s'→St w0 (sv::setN E i s') w'→k v w')→
   St w0 (so::sv::sg'::sf'::sysC b p a.now::ss::sk::sr::sm'::(Q'.map BsE.sg).flatten::[Cl b1 z0w (eEw e)]::delN E i) w→
   slK k (.slice vo.a vo.len vo.cap) w:=by
  intro w vo so sm' Q' by'' out e1 hm hq ro hk h
  refine⟨vo,rfl,hk vo so _ w ro ⟨p,sg',sf',ss,sk,sr,sm',Q',⟨hG,hF,R.sh,R.bk,R.ro,hm,hq,e1⟩,rfl⟩ ?_⟩
  have h:=dl1_ h
  have h:=fr8_ (fr8_ (fr7_ (fr7_ (fr8_ (fr8_ (fr8_ (fr8_ (fr8_ h))))))))
  exact sysBack i hi (dl9_ h)
 cases hf2:lfind BsE.k Q rev with
 | none=>
  rw[hf2]at hk
  dsimp only[Option.map]at hk ⊢
  refine⟨(none,false,()),rfl,?_⟩
  refine jd ?_
  refine itF rfl ?_
  exact close rfl R.mp R.ea r2 hk h
 | some x=>
  have hmk:=R.mp.nd
  obtain⟨A,B,rfl,hxk⟩:=z9B hf2
  rw[hf2]at hk
  dsimp only[Option.map]at hk ⊢
  refine⟨(some ⟨x.b,0,none⟩,true,()),rfl,?_⟩
  refine jd ?_
  refine itT rfl ?_
  refine itT (by rw[hlen];rfl) ?_
  refine Rw.ix encF hr (by decide) (by simp) fun a16 ha=>?_
  refine Rw.ld encF h 1 rfl hr ha (x:=g.2.2) (f:=1) rfl rfl rfl ?_
  refine it (fun h1=>?_) (fun h1=>?_)
  ·have h1:g.2.2.2.1=2:=by simpa using h1
   have h:=fr9_ h
   have h:=h.pick
   have h:=h.split
   (refine nn ?_;refine ldC h ?_)
   refine it (fun h2=>?_) (fun h2=>?_)
   ·have h2:x.x.want=0:=by simpa using h2
    rw[if_pos ⟨h1,h2⟩]at hk
    dsimp only at hk
    (refine nn ?_;refine stC h ?_;clear h;(try clear w);intro w h;dsimp only[putN,setN]at h)
    refine nw h ?_;clear h;(try clear w);intro b21 w h
    refine lineS1 h (by decide) (by omega) fun w h=>?_
    refine nw h ?_;clear h;(try clear w);intro b23 w h
    refine lineI1 h (by rw[z7Q];have:s_scale.size=5:=rfl;omega) (by decide) (by decide) fun w h=>?_
    refine nw h ?_;clear h;(try clear w);intro b25 w h
    refine Rw.app encS elS h 3 rfl r2 (lineB (lineB s_scale [rev]) [decD 1]) rfl (by simp) (by simp) fun v' s' w r2' h=>?_
    dsimp only[setN]at h
    have h:=h.glue
    have h:St w0 (BsE.sg ⟨x.k,x.b,x.g,⟨x.x.xs,1,x.x.left⟩,x.sgg⟩::((A++B).map BsE.sg).flatten::s'::sv::sg'::sf'::sysC b p a.now::ss::sk::sr::sm::[Cl b1 z0w (eEw e)]::delN E i) w:=h
    have h:=h.place
    have h:=fr9_ (fr9_ (fr9_ (fr9_ (fr9_ (fr9_ (fr9_ (fr9_ (fr9_ h))))))))
    have et:=zf4 (rev:=rev) (y:=⟨x.x.xs,1,x.x.left⟩) (sgg:=x.sgg) hxk (B:=B) (A:=A) (by simpa [List.map_map,Function.comp_def]using hmk)
    refine close (Q':=A++⟨x.k,x.b,x.g,⟨x.x.xs,1,x.x.left⟩,x.sgg⟩::B) et.symm (by simpa using R.mp) (fun y hy=>?_) r2' hk h
    rcases List.mem_append.1 hy with hy | hy
    ·exact R.ea y (by simp[hy])
    ·rcases List.mem_cons.1 hy with rfl | hy
     ·exact R.ea x (by simp)
     ·exact R.ea y (by simp[hy])
   ·have h2:¬x.x.want=0:=by simpa using h2
    rw[if_neg (fun hh=>h2 hh.2)]at hk
    have h:=h.glue
    have h:=St.place (g:=BsE.sg) (t:=x) h
    have h:=fr9_ (fr9_ (fr9_ (fr9_ (fr9_ (fr9_ (fr9_ (fr9_ (fr9_ h))))))))
    exact close rfl R.mp R.ea r2 hk h
  ·have h1:¬g.2.2.2.1=2:=by simpa using h1
   rw[if_neg (fun hh=>h1 hh.1)]at hk
   exact close rfl R.mp R.ea r2 hk h
def wantB(m:List (ByteArray×ABes))(rev:ByteArray):Int:=((mget m rev).map ABes.want).getD 0
theorem zjb(h:St w0 E w){b:Nat}{p:Bls}{now:Int}{sm:Seg}{Q:List BsE}{i j l:Nat}(hi:nth E i=some (sysC b p now))(hj:nth E j=some sm)(hl:nth E l=some (Q.map BsE.sg).flatten)(hm:MpS Value.string Value.pointer p.m (Q.map BsE.kp) sm){rev:ByteArray}{k:Int→PT}(hk:k (wantB (Q.map BsE.ka) rev) w) :
  L.call Pr z2J [.pointer (some ⟨b,0,none⟩),.string rev] (.one (.one (.int .i64))) k w:=by
 refine z00 (zbn _ _) ?_
 unfold z7i
 have h0:=h
 have h:=h0.front i hi
 unfold wantB at hk
 rw[zfQ]at hk
 (refine nn ?_;refine ldC h ?_)
 refine z00 (z3w _ _) ?_
 unfold z2g
 refine MpS.get2 mkStr zgx zptr (fun x:Option Addr=>x) (fun _=>rfl) h0 j hj hm ?_
 rw[zfP]
 cases hf:lfind BsE.k Q rev with
 | none=>
  rw[hf]at hk
  refine⟨(none,false,()),rfl,?_⟩
  exact itF rfl ⟨_,rfl,hk⟩
 | some x=>
  rw[hf]at hk
  obtain⟨A,B,rfl,hxk⟩:=z9B hf
  refine⟨(some ⟨x.b,0,none⟩,true,()),rfl,?_⟩
  refine itT rfl ?_
  have h:=((h0.front l hl).pick).split
  (refine nn ?_;refine ldC h ?_)
  exact⟨_,rfl,hk⟩
def cnt(q:Int→Bool)(l:List (Int×Int×Int)):Int:=((l.filter fun x=>q x.2.1).length:Int)
theorem zh1(h:St w0 E w){b:Nat}{p:Bls}{now:Int}{sf:Seg}{F:AFleet}{i j:Nat}(hi:nth E i=some (sysC b p now))(hj:nth E j=some sf)(hf:FlS p.f F sf){rev:ByteArray}{fv:FV}{q:Int→Bool}(hlen:(fPods F.l rev).length<1000000)
  (hq:∀{E':List Seg}{w:World}{x:Int}{k:Bool→PT},St w0 E' w→(∀w',St w0 E' w'→k (q x) w')→L.callV Pr (.func fv.fn fv.fs fv.cs) [I x] (.one (.one .bool)) k w) {k:Int→PT} (hk:∀w',St w0 E w'→k (cnt q (fPods F.l rev)) w') :
  L.call Pr z3l [.pointer (some ⟨b,0,none⟩),.string rev,fv.val] (.one (.one (.int .i64))) k w:=by
 refine z00 (zaW _ _ fv) ?_
 unfold z6R
 refine z00 (z7r _ _) ?_
 unfold z5j
 have h0:=h
 have h:=h0.front i hi
 (refine nn ?_;refine ldC h ?_)
 refine zon h0 j hj hf fun v s w hr h=>⟨v,rfl,?_⟩
 clear h0
 generalize fPods F.l rev=l at *
 have hln:=Rw.len encK hr
 refine z0D (fun m y w=>∃(j:Nat),@Eq Int y.2.1 j∧m+j=l.length∧@Eq Int y.1 (cnt q (l.take j))∧St w0 (s::E) w) l.length ⟨0,rfl,rfl,rfl,h⟩ ?_
 clear h;(try clear w)
 rintro m ⟨n,y,⟨⟩⟩ w ⟨j,hy,hm,hn,h⟩ again hag
 (try dsimp only)
 simp only at hy hn
 subst hy
 refine it (fun hb=>?_) (fun hb=>?_)<;>(try simp only[zB]at hb)
 ·have hj:j<l.length:=by omega
  have hx:l[j]? = some l[j]:=List.getElem?_eq_getElem hj
  have et:cnt q (l.take (j+1))=cnt q (l.take j)+(if q l[j].2.1=true then 1 else 0):=by
   unfold cnt
   rw[List.take_succ,hx,Option.toList_some,List.filter_append,List.length_append]
   by_cases hc:q l[j].2.1=true
   ·simp[hc]
   ·simp[hc]
  have hle:0≤cnt q (l.take j)∧cnt q (l.take j)≤j:=by
   unfold cnt
   have:=List.length_filter_le (fun x:Int×Int×Int=>q x.2.1) (l.take j)
   rw[List.length_take]at this
   omega
  generalize l[j]=x at hx et
  obtain⟨x1,x2,x3⟩:=x
  refine jd ?_
  refine Rw.ix encK hr (by omega) (by simpa using hj) fun a ha=>?_
  refine Rw.lda encK h 0 rfl hr ha (x:=(x1,x2,x3)) (by simpa using hx) rfl ?_
  refine nw h ?_;clear h;(try clear w);intro b8 w h
  (refine stC h ?_;clear h;(try clear w);intro w h;dsimp only[putN,setN]at h;refine ldC h ?_)
  refine hq h fun w h=>?_
  have h:=dl0_ h
  dsimp only at et
  refine it (fun hc=>?_) (fun hc=>?_)
  ·rw[if_pos hc]at et
   refine hag (m-1) _ w (by omega) ⟨j+1,?_,by omega,?_,h⟩
   ·show IntKind.wrap .i64 _=_
    rw[wr (by omega) (by omega)];omega
   ·show IntKind.wrap .i64 (n+1)=_
    rw[et,hn,wr (by omega) (by omega)]
  ·rw[if_neg (by rw[hc];decide)]at et
   refine hag (m-1) _ w (by omega) ⟨j+1,?_,by omega,?_,h⟩
   ·show IntKind.wrap .i64 _=_
    rw[wr (by omega) (by omega)];omega
   ·show n=_
    rw[et,hn];omega
 ·have e:l.take j=l:=List.take_of_length_le (by omega)
  rw[e]at hn
  have:=hk w (dl0_ h)
  rw[←hn]at this
  exact⟨_,rfl,this⟩
abbrev pdWant(a:ASys)(n:ByteArray):Int:=wantB a.by' n
abbrev pdConc(a:ASys)(n:ByteArray):Int:=@id Int (bkGet a.bk n).2.2.2.2.1
abbrev pdFl(a:ASys)(n:ByteArray):AFleet:=(fScale a.fl n (pdConc a n) (pdWant a n)).1
abbrev numL(word:ByteArray)(l:List Int):List ByteArray:=l.map fun x=>lineB word [decD x.toNat]
def sysPods(a:ASys)(e:AEv):ASys×List ByteArray:=
 if bkHas a.bk e.name=false then(a,refusedB 6)
 else({ a with fl:=pdFl a e.name },numL znc (fMade a.fl e.name (pdWant a e.name))++numL zqe (fScale a.fl e.name (pdConc a e.name) (pdWant a e.name)).2++[lineB (lineB s_fleet [e.name]) [decD (cnt (fun s=>s != 3) (fPods (pdFl a e.name).l e.name)).toNat]])
theorem znn [bTab w0]{word:ByteArray}{v:Sl}{l:List Int}{X:List ByteArray}{vo:Sl}{si so:Seg}(hr:Rw eI z0g 1 v l si)(hl:l.length<1000000)(hX:X.length<1000000)(hb:∀x∈l,0≤x∧x≤9000000000000000000)(hw:word.size≤1000)(ro:Rw eS z01 1 vo X so){k:Sl×Int×Unit→PT}
  (h:St w0 (so::si::E) w) (hk:∀v' s' m w',Rw eS z01 1 v' (X++numL word l) s'→St w0 (s'::si::E) w'→k (v',m,()) w') :
  L.loop (Y:=Sl×Int×Unit) (⟨vo.a,vo.len,vo.cap⟩,0,()) (fun y19 again20=>
   L.ite (decide (y19.2.1<((v.len:Nat):Int))) (
    L.idx v.a y19.2.1 v.len 1 fun a21=>
    L.load (.one (.int .i64)) a21 fun(x22:Int)=>
    L.new [.int .i64 x22] z0g fun b23=>
    L.call Pr z0k [.string word,.slice (some ⟨b23,0,none⟩) 1 1] (.one (.one (.str))) fun(x24:ByteArray)=>
    L.new [.string x24] z01 fun b25=>
    L.sem Pr (.one (.one .slice)) (Builtin.append_ #[z08,z08] z08 #[.slice y19.1.a y19.1.len y19.1.cap,.slice (some ⟨b25,0,none⟩) 1 1]) fun(s26:Sl)=>
    again20 (⟨s26.a,s26.len,s26.cap⟩,IntKind.wrap .i64 (y19.2.1+1),()))<|
   k y19) w:=by
 have hln:=Rw.len encI hr
 refine z0D (fun q y w=>∃(j:Nat)(s3:Seg),@Eq Int y.2.1 j∧q+j=l.length∧Rw eS z01 1 y.1 (X++numL word (l.take j)) s3∧St w0 (s3::si::E) w) l.length ⟨0,so,rfl,by simp,by simpa using ro,h⟩ ?_
 clear ro
 clear h;(try clear w)
 rintro q ⟨vo,y,⟨⟩⟩ w ⟨j,s3,hy,hq,r3,h⟩ again hag
 (try dsimp only)
 simp only at hy r3
 subst hy
 refine it (fun hb2=>?_) (fun hb2=>?_)<;>(try simp only[zB]at hb2)
 ·have hj:j<l.length:=by omega
  have hx:l[j]? = some l[j]:=List.getElem?_eq_getElem hj
  have hbx:=hb l[j] (List.getElem_mem hj)
  have et:numL word (l.take (j+1))=numL word (l.take j)++[lineB word [decD (l[j]).toNat]]:=by unfold numL;rw[List.take_succ,hx,List.map_append];rfl
  generalize l[j]=x at hx et hbx
  refine Rw.ix encI hr (by omega) (by simpa using hj) fun a ha=>?_
  refine Rw.ld0 encI h 1 rfl hr ha (x:=x) (by simpa using hx) rfl rfl ?_
  refine nw h ?_;clear h;(try clear w);intro b23 w h
  refine lineI1 h (by omega) hbx.1 hbx.2 fun w h=>?_
  refine nw h ?_;clear h;(try clear w);intro b25 w h
  refine Rw.app encS elS h 0 rfl r3 (lineB word [decD x.toNat]) rfl (by simp;omega) (by simp;omega) fun v' s3' w r3' h=>?_
  refine hag (q-1) _ w (by omega) ⟨j+1,s3',?_,by omega,by rw[et,←List.append_assoc];exact r3',h⟩
  show IntKind.wrap .i64 _=_
  rw[wr (by omega) (by omega)];omega
 ·have e:l.take j=l:=List.take_of_length_le (by omega)
  rw[e]at r3
  exact hk vo s3 _ w r3 h
theorem zo6 [bTab w0](h:St w0 E w)(i:Nat){b:Nat}{a:ASys}{s:Seg}(hi:nth E i=some s)(hs:SysS b a s){e:AEv}(hroom:a.fl.room<1000000)(hlast:a.fl.last+a.fl.room<4611686018427387904)(hname:e.name.size≤100000)
  (hmade:∀x∈fMade a.fl e.name (pdWant a e.name),0≤x∧x≤9000000000000000000) (hmn:(fMade a.fl e.name (pdWant a e.name)).length<100000) (hgone:∀x∈(fScale a.fl e.name (pdConc a e.name) (pdWant a e.name)).2,0≤x∧x≤9000000000000000000) (hgn:(fScale a.fl e.name (pdConc a e.name) (pdWant a e.name)).2.length<100000)
  (hpn:(fPods (pdFl a e.name).l e.name).length<1000000) {k:Sl→PT} (hk:Hk w0 E i b (sysPods a e) k):z2M (some ⟨b,0,none⟩) e.t (slK k) w:=by
 have hs0:=hs
 obtain⟨p,sg,sf,ss,sk,sr,sm,Q,R,rfl⟩:=hs
 unfold z2M
 unfold sysPods at hk
 have h:=(h.front i hi).split8
 refine nw h ?_;clear h;(try clear w);intro b1 w h
 refine z18 (fun(z:Addr×Bool×Unit) w=>∃b8:Nat,z=(⟨b8,0,none⟩,bkHas a.bk e.name,())∧
  St w0 ([Cl b8 z0j (rvC (bkGet a.bk e.name))]::[Cl b1 z0w (eEw e)]::sysC b p a.now::sg::sf::ss::sk::sr::sm::(Q.map BsE.sg).flatten::delN E i) w) (fun k2 hk2=>?_) ?_
 ·(dsimp only[setN,List.cons_append,List.nil_append]at h;refine dr h ?_;clear h;(try clear w);intro w h;refine nn ?_;refine ldC h ?_;refine ldC h ?_)
  refine alts2 ?_ ?_
  ·refine zc2 h 5 rfl R.bk fun w h=>?_
   refine nw h ?_;clear h;(try clear w);intro b8 w h
   (refine ckC h ?_;refine ckC h ?_;refine stC h ?_;clear h;(try clear w);intro w h;dsimp only[putN,setN]at h)
   exact hk2 _ w ⟨b8,rfl,h⟩
  ·refine nw h ?_;clear h;(try clear w);intro b8 w h
   (refine ckC h ?_;refine ckC h ?_)
   refine zc2 h 6 rfl R.bk fun w h=>?_
   (refine stC h ?_;clear h;(try clear w);intro w h;dsimp only[putN,setN]at h)
   exact hk2 _ w ⟨b8,rfl,h⟩
 clear h;(try clear w)
 rintro z w ⟨b8,rfl,h⟩
 (try dsimp only)
 refine it (fun hc=>?_) (fun hc=>?_)
 ·have hc:bkHas a.bk e.name=false:=by simpa using hc
  rw[if_pos hc]at hk
  refine z5p h fun v s w r h=>?_
  exact⟨v,rfl,hk v s _ w r hs0 (sysBack i hi (dl1_ (dl1_ h)))⟩
 have hc:¬bkHas a.bk e.name=false:=by simpa using hc
 rw[if_neg hc]at hk
 (refine dr h ?_;clear h;(try clear w);intro w h;refine nn ?_;refine ldC h ?_;refine ldC h ?_;rw[z3T];refine ldC h ?_;refine ldC h ?_)
 refine zjb h (i:=2) (j:=8) (l:=9) rfl rfl rfl R.mp ?_
 (refine ckC h ?_;refine ckC h ?_;refine ckC h ?_)
 have ew:wantB (Q.map BsE.ka) e.name=pdWant a e.name:=by unfold pdWant;rw[R.ab]
 rw[ew]
 have hF0:=R.fl
 unfold pdFl at *
 refine zpX (conc:=pdConc a e.name) h 4 rfl R.fl (by omega) hlast fun v1 v2 sf' s1 s2 w hF r1 r2 h=>?_
 dsimp only[setN]at h
 generalize fScale a.fl e.name (pdConc a e.name) (pdWant a e.name)=g at *
 generalize fMade a.fl e.name (pdWant a e.name)=made at *
 obtain⟨F,gone⟩:=g
 dsimp only at *
 have h:=fr1_ h
 refine znn (vo:=⟨none,0,0⟩) (X:=[]) r1 (by omega) (by simp) hmade (by decide) Rw.nil h.nil fun v3 s3 m w r3 h=>?_
 have h:=fr2_ (fr2_ (fr1_ h))
 refine znn r2 (by omega) (by simp[numL];omega) hgone (by decide) r3 h fun v4 s4 m w r4 h=>?_
 (refine ldC h ?_)
 refine zh1 h (i:=5) (j:=7) rfl rfl hF (fv:=⟨.func z38,#[],#[]⟩) (q:=fun s=>s != 3) hpn (fun{E' w x k} h hk=>?_) fun w h=>?_
 ·refine z4n (fs:=#[]) (cs:=#[]) za9 (zac x) ?_
  unfold z6p
  exact⟨_,rfl,hk w h⟩
 (refine ldC h ?_)
 have hcn:0≤cnt (fun s=>s != 3) (fPods F.l e.name)∧cnt (fun s=>s != 3) (fPods F.l e.name)≤1000000:=by
  unfold cnt
  have:=List.length_filter_le (fun x:Int×Int×Int=>(fun s=>s != 3) x.2.1) (fPods F.l e.name)
  refine⟨Int.natCast_nonneg _,?_⟩
  have h2:((fPods F.l e.name).filter fun x:Int×Int×Int=>(fun s=>s != 3) x.2.1).length≤1000000:=by omega
  exact Int.ofNat_le.2 h2
 generalize cnt (fun s=>s != 3) (fPods F.l e.name)=n at *
 refine nw h ?_;clear h;(try clear w);intro b38 w h
 refine lineS1 h (by decide) (by omega) fun w h=>?_
 refine nw h ?_;clear h;(try clear w);intro b40 w h
 refine lineI1 h (by rw[z7Q];have:s_fleet.size=5:=rfl;omega) hcn.1 (by omega) fun w h=>?_
 refine nw h ?_;clear h;(try clear w);intro b42 w h
 refine Rw.app encS elS h 0 rfl r4 (lineB (lineB s_fleet [e.name]) [decD n.toNat]) rfl (by simp[numL];omega) (by simp[numL];omega) fun v5 s5 w r5 h=>?_
 refine⟨v5,rfl,hk v5 s5 _ w (by simpa using r5) ⟨p,sg,sf',ss,sk,sr,sm,Q,⟨R.gt,hF,R.sh,R.bk,R.ro,R.mp,R.ea,R.ab⟩,rfl⟩ (sysBack i hi ?_)⟩
 exact dl1_ (dl1_ (dl1_ (dl1_ h)))
def busyB(G:AGate)(rev:ByteArray):Int:=((gWait G rev).length:Int)+(gWith G.all rev).length
def tkStep(G:AGate)(m:List (ByteArray×ABes))(rev:ByteArray):List (ByteArray×ABes):=match mget m rev with
 | some x=>mset m rev ⟨x.xs++[if 0>busyB G rev then 0 else busyB G rev],x.want,x.left⟩
 | none=>m
abbrev tkG(a:ASys):AGate×List Fate:=gTick a.gt (a.now+1)
def sysTick(a:ASys):ASys×List ByteArray:=
 if a.now≥1048576 then(a,refusedB 9)
 else({ a with gt:=(tkG a).1,now:=a.now+1,by':=(bkAll a.bk).foldl (tkStep (tkG a).1) a.by' },lineB zn8 [decD (a.now+1).toNat]::(tkG a).2.map fateB)
theorem zo5 [bTab w0](h:St w0 E w)(i:Nat){b:Nat}{a:ASys}{s:Seg}(hi:nth E i=some s)(hs:SysS b a s){e:AEv}(hnow:0≤a.now)(hwk:GWk a.gt)(hfl:(tkG a).2.length<90000000)(hf:∀f∈(tkG a).2,f.Ok)
  (hby:∀rev∈bkAll a.bk,(mget a.by' rev).isSome=true) (hxs:∀x∈a.by',x.2.xs.length<1000000000) (hfb:a.bk.all.length<1000000) {k:Sl→PT} (hk:Hk w0 E i b (sysTick a) k):z5g (some ⟨b,0,none⟩) e.t (slK k) w:=by
 have hs0:=hs
 obtain⟨p,sg,sf,ss,sk,sr,sm,Q,R,rfl⟩:=hs
 unfold z5g
 unfold sysTick tkG at hk
 unfold tkG at hfl hf
 have h:=(h.front i hi).split8
 refine nw h ?_;clear h;(try clear w);intro b1 w h
 (dsimp only[setN,List.cons_append,List.nil_append]at h;refine nn ?_;refine ldC h ?_)
 refine it (fun hc=>?_) (fun hc=>?_)<;>(try simp only[zB]at hc)
 ·rw[if_pos hc]at hk
  refine z5p h fun v s w r h=>?_
  exact⟨v,rfl,hk v s _ w r hs0 (sysBack i hi (dl1_ h))⟩
 rw[if_neg hc]at hk
 (refine nn ?_;refine ldC h ?_;refine nn ?_;refine stC h ?_;clear h;(try clear w);intro w h;dsimp only[putN,setN]at h;refine dr h ?_;clear h;(try clear w);intro w h;refine nn ?_;refine ldC h ?_;refine nn ?_;refine ldC h ?_)
 rw[wr (by omega) (by omega)]at h ⊢
 have h:=fr2_ h
 refine zrA h R.gt hwk hfl fun v sv sg' w hr hG h=>?_
 generalize gTick a.gt (a.now+1)=g at *
 refine z00 (z8Y _) ?_
 unfold z5q
 (refine nn ?_;refine ldC h ?_)
 refine zrH h 6 rfl R.bk fun v2 s2 w r2 h=>⟨v2,rfl,?_⟩
 have hnl:(bkAll a.bk).length<1000000:=by unfold bkAll;rw[z2I,List.length_map];exact hfb
 generalize bkAll a.bk=l at *
 have hln:=Rw.len encS r2
 let EV:Seg:=[Cl b1 z0w (eEw e)]
 refine z0D (fun m y w=>∃(j:Nat)(sg2:Seg)(Q2:List BsE),@Eq Int y.1 j∧m+j=l.length∧GtS p.g p.f g.1 sg2∧Q2.map BsE.kp=Q.map BsE.kp∧(∀x∈Q2,x.ok)∧Q2.map BsE.ka=(l.take j).foldl (tkStep g.1) a.by'∧(∀x∈Q2,x.x.xs.length<1000000000+j)∧
  St w0 (s2::sv::sg2::EV::sysC b p (a.now+1)::sf::ss::sk::sr::sm::(Q2.map BsE.sg).flatten::delN E i) w) l.length ⟨0,sg',Q,rfl,rfl,hG,rfl,R.ea,R.ab.symm,fun x hx=>by have:=hxs _ (by rw[R.ab];exact List.mem_map_of_mem hx);simpa using this,h⟩ ?_
 clear h;(try clear w)
 rintro m ⟨y,⟨⟩⟩ w ⟨j,sg2,Q2,hy,hm,hG2,ekp,ok2,eka,hx2,h⟩ again hag
 (try dsimp only)
 simp only at hy
 subst hy
 refine it (fun hb=>?_) (fun hb=>?_)<;>(try simp only[zB]at hb)
 ·have hj:j<l.length:=by omega
  have hx:l[j]? = some l[j]:=List.getElem?_eq_getElem hj
  have hin:(mget (Q2.map BsE.ka) l[j]).isSome=true:=by
   have h1:=hby l[j] (List.getElem_mem hj)
   rw[R.ab,zfQ,Option.isSome_map]at h1
   have h2:(mget (Q2.map BsE.kp) l[j]).isSome=true:=by rw[ekp,zfP,Option.isSome_map];exact h1
   rw[zfP,Option.isSome_map]at h2
   rw[zfQ,Option.isSome_map];exact h2
  have et:(l.take (j+1)).foldl (tkStep g.1) a.by'=tkStep g.1 (Q2.map BsE.ka) l[j]:=by rw[eka,List.take_succ,hx,List.foldl_append];rfl
  generalize l[j]=rev at *
  have hm2:MpS Value.string Value.pointer p.m (Q2.map BsE.kp) sm:=by rw[ekp];exact R.mp
  rw[zfQ,Option.isSome_map]at hin
  obtain⟨x,hfx⟩:=Option.isSome_iff_exists.1 hin
  have hmk:=hm2.nd
  refine Rw.ix encS r2 (by omega) (by simpa using hj) fun ea ha=>?_
  refine Rw.ld0 encS h 0 rfl r2 ha (x:=rev) (by simpa using hx) rfl rfl ?_
  (refine dr h ?_;clear h;(try clear w);intro w h;refine nn ?_;refine ldC h ?_)
  have hlk:((mget (Q2.map BsE.kp) rev).map fun x:Option Addr=>x).getD none=some ⟨x.b,0,none⟩:=by rw[zfP,hfx];rfl
  refine MpS.get mkStr zgx zptr (fun x:Option Addr=>x) (fun _=>rfl) h 9 rfl hm2 ?_
  rw[hlk]
  obtain⟨A,B,rfl,hxk⟩:=z9B hfx
  have h:=zcI h
  have h:=h.pick.split
  (refine nn ?_;refine ldC h ?_;refine nn ?_;refine ldC h ?_)
  have h:=fr5_ h
  refine zom h hG2 fun sg3 w hG3 h=>?_
  (refine ckC h ?_)
  refine MpS.chk mkStr zgx (z:=.pointer none) zptr h 12 rfl hm2 (by rw[zfP,hfx];rfl) ?_
  (refine ckC h ?_)
  have hox:=ok2 x (by simp)
  have hlx:=hx2 x (by simp)
  refine zrz h 2 rfl hox (by omega) fun sgg w hga h=>?_
  dsimp only[setN]at h
  have hbu:((gWait g.1 rev).length:Int)+(gWith g.1.all rev).length=busyB g.1 rev:=rfl
  rw[hbu]at hga
  have h:=fr2_ (fr2_ h)
  have h:=h.glue
  have h:=fr1_ (fr2_ h)
  have h:St w0 (BsE.sg ⟨x.k,x.b,x.g,⟨x.x.xs++[if 0>busyB g.1 rev then 0 else busyB g.1 rev],x.x.want,x.x.left⟩,sgg⟩::((A++B).map BsE.sg).flatten::sg3::s2::sv::EV::sysC b p (a.now+1)::sf::ss::sk::sr::sm::delN E i) w:=h
  have h:=h.place
  have et2:=zf4 (rev:=rev) (y:=⟨x.x.xs++[if 0>busyB g.1 rev then 0 else busyB g.1 rev],x.x.want,x.x.left⟩) (sgg:=sgg) hxk (B:=B) (A:=A) (by simpa [List.map_map,Function.comp_def]using hmk)
  refine hag (m-1) _ w (by omega) ⟨j+1,sg3,A++⟨x.k,x.b,x.g,⟨x.x.xs++[if 0>busyB g.1 rev then 0 else busyB g.1 rev],x.x.want,x.x.left⟩,sgg⟩::B,?_,by omega,hG3,?_,?_,?_,?_,?_⟩
  ·show IntKind.wrap .i64 _=_
   rw[wr (by omega) (by omega)];omega
  ·rw[←ekp];simp
  ·intro y hy
   rcases List.mem_append.1 hy with hy | hy
   ·exact ok2 y (by simp[hy])
   ·rcases List.mem_cons.1 hy with rfl | hy
    ·exact hga
    ·exact ok2 y (by simp[hy])
  ·rw[et,et2]
   unfold tkStep
   rw[zfQ,hfx]
   rfl
  ·intro y hy
   rcases List.mem_append.1 hy with hy | hy
   ·have:=hx2 y (by simp[hy]);omega
   ·rcases List.mem_cons.1 hy with rfl | hy
    ·simp;omega
    ·have:=hx2 y (by simp[hy]);omega
  ·have h:=zcI (zcI (fr8_ (zcI (zcI (zcI (zcI (zcI (zcI (zcI h)))))))))
   exact h
 ·have ej:l.take j=l:=List.take_of_length_le (by omega)
  rw[ej]at eka
  (refine nn ?_;refine ldC h ?_)
  refine nw h ?_;clear h;(try clear w);intro b29 w h
  refine lineI1 h (by decide) (by omega) (by omega) fun w h=>?_
  refine nw h ?_;clear h;(try clear w);intro b31 w h
  have h:=fr1_ (fr2_ h)
  refine zlh h (l:=[lineB zn8 [decD (a.now+1).toNat]]) hr hf (by omega) (by simp) (Rw.lit b31 [_] encS rfl rfl (by simp[maxLen])) fun v s w r h=>?_
  refine⟨v,rfl,hk v s _ w r ⟨p,sg2,sf,ss,sk,sr,sm,Q2,⟨hG2,R.fl,R.sh,R.bk,R.ro,by rw[ekp];exact R.mp,ok2,eka.symm⟩,rfl⟩ (sysBack i hi ?_)⟩
  have h:=dl1_ (dl2_ (dl4_ h))
  have h:=fr2_ (fr2_ (fr1_ h))
  exact h
end Go.Proofs.YtdcdhcgmeahfmaaGreatDoor
namespace Go.Proofs.YtdcdhcgmeahfmaaGreatDoor
open Go.Dm
theorem ztk{P:Program}{r:RT}{s:Sem Value}{k:r.T→PT}{w:World}(x:r.T)(h:s.run P w = .ok (r.val x) w)(hk:k x w):L.semR P r s k w:=⟨x,h,hk⟩
theorem zmb{P:Program}{fv:Value}{args:List Value}{r:RT}{k k':r.T→PT}{w:World}(h:L.callV P fv args r k w)(hm:∀x w,k x w→k' x w):L.callV P fv args r k' w:=FCall.mono h fun _ _ ⟨x,e,hk⟩=>⟨x,e,hm x _ hk⟩
attribute [local irreducible] L.load L.store L.chk L.new L.nonnil L.guard L.ite L.draw L.idx L.sem L.semR L.semU L.chkSem L.next L.call L.callV L.join L.alts L.loop L.begin L.endRound L.range
variable {w0 w:World}{E:List Seg}
def mV(b:Nat)(f:FuncId):Value:=.func (.func f) #[.pointer (some ⟨b,0,none⟩)] #[]
def doM:List (Int×FuncId):=[(1,z1D),(2,z1N),(3,z5d),(4,z1E),(5,z27),(6,z2A),(7,z25),(8,z25),(9,z1Z),(10,z1L),(11,z23),(12,z1M),(13,z1z)]
theorem z8w:Pr.underlying z03=some (.map z0g z2r):=by kernel_rfl
theorem zfun(w:World):(zeroValue z2r).run Pr w = .ok .nilFunc w:=by
 have h:(Pr.info? z2r).map (·.zero)=some (some .nilFunc):=by kernel_rfl
 cases hi:Pr.info? z2r with
 | none=>rw[hi]at h;cases h
 | some i=>rw[hi]at h;simp only[Option.map_some,Option.some.injEq]at h;exact zv hi h w
theorem zrE(h:St w0 E w){b:Nat}{e:AEv}(hb:chkEv e≠0)(hn:e.kind=12∨e.kind=13→RevN e.name)(rd:RdE w0 E eT e.v e.r.ts)(hvc:e.v.len≤e.v.cap)(hrv:∀t∈e.r.ts,revOk t.1){k:Sl→PT}
  (hk:∀v sv w',Rw eS z01 1 v [lineB zne [errB (chkEv e)]] sv→St w0 (sv::E) w'→k v w'):L.call Pr z02 [.pointer (some ⟨b,0,none⟩),evV e] (.one (.one .slice)) k w:=by
 refine z00 (z8T _ e.t) ?_
 unfold z6g
 refine nw h ?_;clear h;(try clear w);intro b1 w h
 (dsimp only[setN,List.cons_append,List.nil_append]at h;refine laC h ?_)
 refine zji (e:=e) h hn (fun w h=>rd w (dl0_ h)) hvc hrv fun w h=>?_
 refine itT (by simpa using hb) ?_
 refine zop ?_
 refine nw h ?_;clear h;(try clear w);intro b5 w h
 have:=znP (chkEv e)
 refine lineS1 h (by decide) (by omega) fun w h=>?_
 refine nw h ?_;clear h;(try clear w);intro b7 w h
 exact⟨_,rfl,hk _ _ w (Rw.lit b7 [_] encS rfl rfl (by simp[maxLen])) (dl1_ h)⟩
theorem S_do(h:St w0 E w){b:Nat}{e:AEv}(hb:chkEv e=0)(hn:e.kind=12∨e.kind=13→RevN e.name)(rd:RdE w0 E eT e.v e.r.ts)(hvc:e.v.len≤e.v.cap)(hrv:∀t∈e.r.ts,revOk t.1){f:FuncId}(hf:mget doM e.kind=some f){k:Sl→PT}
  (hh:∀(s1 s2:Seg) w',St w0 (s1::s2::E) w'→L.callV Pr (.func (.func f) #[.pointer (some ⟨b,0,none⟩)] #[]) [evV e] (.one (.one .slice)) k w'):L.call Pr z02 [.pointer (some ⟨b,0,none⟩),evV e] (.one (.one .slice)) k w:=by
 refine z00 (z8T _ e.t) ?_
 unfold z6g
 refine nw h ?_;clear h;(try clear w);intro b1 w h
 (dsimp only[setN,List.cons_append,List.nil_append]at h;refine laC h ?_)
 refine zji (e:=e) h hn (fun w h=>rd w (dl0_ h)) hvc hrv fun w h=>?_
 refine itF (by simpa using hb) ?_
 refine MpS.new h KI (mV b) fun r s w hm h=>?_
 refine MpS.set mkI z8w h 0 rfl hm z1D rfl fun s w hm h=>?_
 refine MpS.set mkI z8w h 0 rfl hm z1N rfl fun s w hm h=>?_
 refine MpS.set mkI z8w h 0 rfl hm z5d rfl fun s w hm h=>?_
 refine MpS.set mkI z8w h 0 rfl hm z1E rfl fun s w hm h=>?_
 refine MpS.set mkI z8w h 0 rfl hm z27 rfl fun s w hm h=>?_
 refine MpS.set mkI z8w h 0 rfl hm z2A rfl fun s w hm h=>?_
 refine MpS.set mkI z8w h 0 rfl hm z25 rfl fun s w hm h=>?_
 refine MpS.set mkI z8w h 0 rfl hm z25 rfl fun s w hm h=>?_
 refine MpS.set mkI z8w h 0 rfl hm z1Z rfl fun s w hm h=>?_
 refine MpS.set mkI z8w h 0 rfl hm z1L rfl fun s w hm h=>?_
 refine MpS.set mkI z8w h 0 rfl hm z23 rfl fun s w hm h=>?_
 refine MpS.set mkI z8w h 0 rfl hm z1M rfl fun s w hm h=>?_
 refine MpS.set mkI z8w h 0 rfl hm z1z rfl fun s w hm h=>?_
 have hm:MpS KI (mV b) r doM s:=hm
 dsimp only[setN]at h
 (refine ldC h ?_)
 refine ztk ⟨.func f,#[.pointer (some ⟨b,0,none⟩)],#[]⟩ ?_ ?_
 ·rw[MpS.get_run mkI z8w (zfun w) h 0 rfl hm false,hf];rfl
 (refine laC h ?_)
 exact zmb (hh s _ w h) fun x w hk=>⟨x,rfl,hk⟩
theorem zfW(h:St w0 E w)(i:Nat){b:Nat}{a:ASys}{s:Seg}(hi:nth E i=some s)(hs:SysS b a s){e:AEv}(hb:chkEv e=0)(hn:e.kind=12∨e.kind=13→RevN e.name)(rd:RdE w0 E eT e.v e.r.ts)(hvc:e.v.len≤e.v.cap)(hrv:∀t∈e.r.ts,revOk t.1)
  {f:FuncId} (hf:mget doM e.kind=some f) {r:ASys×List ByteArray} {F:(Value→PT)→PT} (hE:Enters Pr f) (hC:∀{K:Value→PT}{w:World},F K w→Calls Pr f (#[.pointer (some ⟨b,0,none⟩)]++[evV e].toArray++ #[]) w fun e w'=>∃v,e = .returned v∧K v w')
  (hh:∀{E2:List Seg}{i2:Nat}{w:World}{k:Sl→PT},St w0 E2 w→nth E2 i2=some s→(∀w,St w0 (delN E2 i2) w→St w0 (delN E i) w)→Hk w0 E2 i2 b r k→F (slK k) w) {k:Sl→PT} (hk:Hk w0 E i b r k) :
  L.call Pr z02 [.pointer (some ⟨b,0,none⟩),evV e] (.one (.one .slice)) k w:=by
 refine S_do h hb hn rd hvc hrv hf fun s1 s2 w h=>?_
 refine z4n (F:=F) hE hC ?_
 exact hh (E2:=s1::s2::E) (i2:=i+2) h hi (fun w h=>dl0_ (dl0_ h)) fun v sv s' w' r hs h=>hk v sv s' w' r hs (dl1_ (dl1_ h))
end Go.Proofs.YtdcdhcgmeahfmaaGreatDoor
namespace Go.Proofs.YtdcdhcgmeahfmaaGreatDoor
open Go.Dm
attribute [local irreducible] L.load L.store L.chk L.new L.nonnil L.guard L.ite L.draw L.idx L.sem L.semR L.semU L.chkSem L.next L.call L.callV L.join L.alts L.loop L.begin L.endRound L.range
variable {w0 w:World}{E:List Seg}
theorem z9d{p0 p1:Int}(h:0<p1)(hp:p1≤2147483648){k:Int→PT}(hk:k (p0%p1) w):L.call Pr z1u [I p0,I p1] (.one (.one (.int .i64))) k w:=by
 refine z00 (zch p0 p1) ?_
 unfold z88
 refine gd (by omega) ?_
 have h1:=Int.emod_nonneg p0 (by omega:p1≠0)
 have h2:=Int.emod_lt_of_pos p0 h
 have e:=zf6 p0 p1 h
 refine z18 (fun z w'=>z.1=p0%p1∧w'=w) (fun k' hk'=>?_) (fun y w' ⟨h1,h2⟩=>by subst h2;exact⟨_,rfl,by rw[h1];exact hk⟩)
 refine it (fun hb=>?_) (fun hb=>?_)<;>(try simp only[zB]at hb)
 ·refine hk' _ _ ⟨?_,rfl⟩
  rw[e]at hb
  dsimp only
  rw[e]
  split at hb<;>rename_i hc
  ·omega
  ·rw[if_neg hc,wr]<;>omega
 ·refine hk' _ _ ⟨?_,rfl⟩
  rw[e]at hb
  dsimp only
  rw[e]
  split at hb<;>rename_i hc
  ·rw[if_pos hc]
  ·omega
def lname(n:Int):ByteArray:=([s_web,zlH,zlI][(n%3).toNat]?).getD s_
def lcfg(c:Cfg)(n:Int):Cfg:=(lname n,c.2.1%256,1+c.2.2.1%8,c.2.2.2.1%(1+c.2.2.2.2.1%10+1),1+c.2.2.2.2.1%10,c.2.2.2.2.2.1%31,())
theorem zoi(h:St w0 E w){c:Cfg}{n:Int}{k:eCfg.T→PT}(hk:∀w',St w0 E w'→k (lcfg c n) w'):L.call Pr z5E [.agg (Cfg.cells c).toArray,I n] (.one eCfg) k w:=by
 refine z00 (zci c n) ?_
 unfold z89
 refine nw h ?_;clear h;(try clear w);intro b1 w h
 refine nw h ?_;clear h;(try clear w);intro b2 w h
 refine nw h ?_;clear h;(try clear w);intro b3 w h
 refine z9d (by decide) (by decide) ?_
 have h1:=Int.emod_nonneg n (by decide:(3:Int)≠0)
 have h2:=Int.emod_lt_of_pos n (by decide:(0:Int)<3)
 have hr:Rw eS z01 1 ⟨some ⟨b3,0,none⟩,3,3⟩ [s_web,zlH,zlI] [Cl b3 z01 [.string s_web,.string zlH,.string zlI]]:=Rw.lit b3 _ encS rfl rfl (by simp[maxLen])
 have hx:[s_web,zlH,zlI][(n%3).toNat]? = some (lname n):=by
  unfold lname
  have:(n%3).toNat<3:=by omega
  rw[List.getElem?_eq_getElem (by simpa using this)];rfl
 refine Rw.ix (v:=⟨some ⟨b3,0,none⟩,3,3⟩) (l:=[s_web,zlH,zlI]) encS hr h1 (show(n%3).toNat<3 by omega) fun a ha=>?_
 refine Rw.ld0 encS h 0 rfl hr ha hx rfl rfl ?_
 (refine stC h ?_;clear h;(try clear w);intro w h;dsimp only[putN,setN]at h;refine ldC h ?_)
 refine z9d (by decide) (by decide) ?_
 (refine stC h ?_;clear h;(try clear w);intro w h;dsimp only[putN,setN]at h;refine ldC h ?_)
 refine z9d (by decide) (by decide) ?_
 rw[wr (by omega) (by omega)]
 (refine stC h ?_;clear h;(try clear w);intro w h;dsimp only[putN,setN]at h;refine ldC h ?_)
 refine z9d (by decide) (by decide) ?_
 rw[wr (by omega) (by omega)]
 (refine stC h ?_;clear h;(try clear w);intro w h;dsimp only[putN,setN]at h;refine ldC h ?_;refine ldC h ?_)
 rw[wr (by omega) (by omega)]
 refine z9d (by omega) (by omega) ?_
 (refine stC h ?_;clear h;(try clear w);intro w h;dsimp only[putN,setN]at h;refine ldC h ?_)
 refine z9d (by decide) (by decide) ?_
 (refine stC h ?_;clear h;(try clear w);intro w h;dsimp only[putN,setN]at h;refine laC h ?_;refine stC h ?_;clear h;(try clear w);intro w h;dsimp only[putN,setN]at h;refine laC h ?_)
 exact⟨lcfg c n,rfl,hk w (dl0_ (dl0_ (dl0_ h)))⟩
theorem zpd(n:Int):shortB (lname n).data.toList 16=true:=by
 have h1:=Int.emod_nonneg n (by decide:(3:Int)≠0)
 have h2:=Int.emod_lt_of_pos n (by decide:(0:Int)<3)
 unfold lname
 have:(n%3).toNat=0∨(n%3).toNat=1∨(n%3).toNat=2:=by omega
 rcases this with h | h | h<;>rw[h]<;>decide
theorem zpe{nm:ByteArray}(im co mi ma gr:Int):cfgNum (nm,im%256,1+co%8,mi%(1+ma%10+1),1+ma%10,gr%31,())=true:=by
 have h1:=Int.emod_nonneg mi (show 1+ma%10+1≠0 by omega)
 have h2:=Int.emod_lt_of_pos mi (show 0<1+ma%10+1 by omega)
 have e:cfgNum (nm,im%256,1+co%8,mi%(1+ma%10+1),1+ma%10,gr%31,())=(decide (0≤im%256∧im%256≤255)&&(decide (1≤1+co%8∧1+co%8≤8)&&(decide (1≤1+ma%10∧1+ma%10≤10)&&(decide (0≤mi%(1+ma%10+1)∧mi%(1+ma%10+1)≤1+ma%10)&&decide (0≤gr%31∧gr%31≤30))))):=rfl
 rw[e]
 simp only[Bool.and_eq_true,decide_eq_true_eq]
 omega
theorem zqV(c:Cfg)(n:Int):specC (lcfg c n)=0:=by
 unfold specC
 rw[if_pos (show shortB (lcfg c n).1.data.toList 16=true from zpd n),if_pos]
 exact zpe c.2.1 c.2.2.1 c.2.2.2.1 c.2.2.2.2.1 c.2.2.2.2.2.1
def newSys(room line pat:Int):ASys:=⟨⟨[],[],0⟩,⟨[],[]⟩,[],⟨room,0,[]⟩,⟨[],[],line,pat⟩,[],0⟩
theorem zc0{n a b:Int}{k:Bool→PT}(hk:k (wiB n a b) w):L.call Pr z2T [I n,I a,I b] (.one (.one .bool)) k w:=by
 refine z00 (zc6 n a b) ?_
 unfold z7V
 unfold wiB at hk
 refine it (fun h1=>?_) (fun h1=>?_)
 ·have h1:decide (a≤n)=true:=h1
  rw[h1]at hk
  exact⟨_,rfl,hk⟩
 ·have h1:decide (a≤n)=false:=h1
  rw[h1]at hk
  exact⟨_,rfl,hk⟩
def newOk(room line pat:Int):Bool:=wiB room 1 30&&(wiB line 0 8&&wiB pat 1 50)
theorem zli(h:St w0 E w){room line pat:Int}{k:Option Addr×Int×Unit→PT}(h0:newOk room line pat=false→∀w',St w0 E w'→k (none,2,()) w')
  (h1:newOk room line pat=true→∀b s w',SysS b (newSys room line pat) s→St w0 (s::E) w'→k (some ⟨b,0,none⟩,0,()) w'):L.call Pr z8z [I room,I line,I pat] (.tup [.one .ptr,.one (.int .i64)]) k w:=by
 refine z00 (zjv _ _ _) ?_
 unfold zef
 unfold newOk at h0 h1
 refine zc0 ?_
 cases c1:wiB room 1 30 with
 | false=>exact itT rfl ⟨(none,2,()),rfl,h0 (by rw[c1];rfl) w h⟩
 | true=>
 refine itF rfl ?_
 refine zc0 ?_
 cases c2:wiB line 0 8 with
 | false=>exact itT rfl ⟨(none,2,()),rfl,h0 (by rw[c1,c2];rfl) w h⟩
 | true=>
 refine itF rfl ?_
 refine zc0 ?_
 cases c3:wiB pat 1 50 with
 | false=>exact itT rfl ⟨(none,2,()),rfl,h0 (by rw[c1,c2,c3];rfl) w h⟩
 | true=>
 refine itF rfl ?_
 have hl:0≤line∧line≤8:=by unfold wiB at c2;simpa using c2
 refine zsV h fun bf sf w hF h=>?_
 refine zrg h fun bs ss w hS h=>?_
 refine zrG h fun bk sk w hK h=>?_
 refine zrj h fun br sr w hR h=>?_
 refine zsR h (bf:=bf) hl.1 (by omega) fun bg sg w hG h=>?_
 refine MpS.new h Value.string Value.pointer fun r sm w hm h=>?_
 refine nw h ?_;clear h;(try clear w);intro b w h
 have h:St w0 (sysC b ⟨bs,bk,br,bf,bg,r⟩ 0::sm::sg::sr::sk::ss::sf::E) w:=h
 refine⟨(some ⟨b,0,none⟩,0,()),rfl,h1 (by rw[c1,c2,c3];rfl) b _ w ⟨⟨bs,bk,br,bf,bg,r⟩,sg,sf,ss,sk,sr,sm,[],⟨hG,hF,hS,hK,hR,hm,by simp,rfl⟩,rfl⟩ ?_⟩
 have h:=fr6_ (fr6_ (fr6_ (fr5_ (fr4_ (fr3_ (fr1_ h))))))
 have h:St w0 (sysC b ⟨bs,bk,br,bf,bg,r⟩ 0::sg::sf::ss::sk::sr::sm::(([]:List BsE).map BsE.sg).flatten::E) w:=h.eq (by simp)
 exact h.glue8
theorem zpL(h:St w0 E w)(i:Nat){b:Nat}{a:ASys}{s:Seg}(hi:nth E i=some s)(hs:SysS b a s){k:Int→PT}(hk:k a.now w):L.call Pr z5z [.pointer (some ⟨b,0,none⟩)] (.one (.one (.int .i64))) k w:=by
 obtain⟨p,sg,sf,ss,sk,sr,sm,Q,R,rfl⟩:=hs
 refine z00 (zc7 _) ?_
 unfold z7W
 have h:=(h.front i hi).split8
 (refine nn ?_;refine ldC h ?_)
 exact⟨_,rfl,hk⟩
theorem zdV{p0 p1:Int}(h:0<p1)(hp:p1≤2147483648){k:Int→PT}(hk:k (p0%p1) w):L.call Pr z2K [I p0,I p1] (.one (.one (.int .i64))) k w:=by
 refine z00 (zbt p0 p1) ?_
 unfold z7o
 refine gd (by omega) ?_
 have h1:=Int.emod_nonneg p0 (by omega:p1≠0)
 have h2:=Int.emod_lt_of_pos p0 h
 have e:=zf6 p0 p1 h
 refine z18 (fun z w'=>z.1=p0%p1∧w'=w) (fun k' hk'=>?_) (fun y w' ⟨h1,h2⟩=>by subst h2;exact⟨_,rfl,by rw[h1];exact hk⟩)
 refine it (fun hb=>?_) (fun hb=>?_)<;>(try simp only[zB]at hb)
 ·refine hk' _ _ ⟨?_,rfl⟩
  rw[e]at hb
  dsimp only
  rw[e]
  split at hb<;>rename_i hc
  ·omega
  ·rw[if_neg hc,wr]<;>omega
 ·refine hk' _ _ ⟨?_,rfl⟩
  rw[e]at hb
  dsimp only
  rw[e]
  split at hb<;>rename_i hc
  ·rw[if_pos hc]
  ·omega
def noRt15:ARt:=⟨s_,s_,[],0⟩
abbrev noSl:Sl:=⟨none,0,0⟩
theorem zlo [bTab w0](h:St w0 E w)(i:Nat){b:Nat}{a:ASys}{s:Seg}(hi:nth E i=some s)(hs:SysS b a s){e:AEv}(hkd:e.kind=9)(hb:chkEv e=0)(rd:RdE w0 E eT e.v e.r.ts)(hvc:e.v.len≤e.v.cap)(hrv:∀t∈e.r.ts,revOk t.1)
  (hnow:0≤a.now) (hwk:GWk a.gt) (hfl:(tkG a).2.length<90000000) (hf:∀f∈(tkG a).2,f.Ok)
  (hby:∀rev∈bkAll a.bk,(mget a.by' rev).isSome=true) (hxs:∀x∈a.by',x.2.xs.length<1000000000) (hfb:a.bk.all.length<1000000) {k:Sl→PT} (hk:Hk w0 E i b (sysTick a) k) :
  L.call Pr z02 [.pointer (some ⟨b,0,none⟩),evV e] (.one (.one .slice)) k w:=
 zfW h i hi hs hb (fun hh=>by omega) rd hvc hrv (f:=z1Z) (by rw[hkd];rfl) zbf (zbk (some ⟨b,0,none⟩) e.t)
  (fun h hi _ hk=>zo5 h _ hi hs hnow hwk hfl hf hby hxs hfb hk) hk
abbrev evT0(kind:Int):AEv:=⟨kind,s_,s_,0,0,noCfg,noRt15,noSl⟩
theorem chk0:chkEv (evT0 0)=12:=by decide
theorem chk9:chkEv (evT0 9)=0:=by decide +kernel
theorem zkv:(tkG (newSys 3 2 5)).2 = []:=by decide +kernel
theorem zqY:GWk (newSys 3 2 5).gt:=fun x hx=>by cases hx
theorem zoj [bTab w0](h:St w0 E w){k:Bool→PT}(hk:∀w',St w0 E w'→k true w'):L.call Pr z5G [] (.one (.one .bool)) k w:=by
 refine z00 zck ?_
 unfold z8b
 refine zli h (fun hh=>absurd hh (by decide)) fun _ b s w hs h=>?_
 refine itF rfl (itF rfl ?_)
 refine zrE (e:=evT0 0) h (by rw[chk0];decide) (fun hh=>by rcases hh with hh | hh<;>cases hh) (fun _ _=>Rd.nil) (by decide) (by simp[noRt15]) fun v2 s2 w r2 h=>?_
 refine zlo h 1 rfl hs (e:=evT0 9) rfl chk9 (fun _ _=>Rd.nil) (by decide) (by simp[noRt15]) (by decide) zqY (by rw[zkv];decide) (by rw[zkv];simp) (by simp[newSys,bkAll,zmT]) (by simp[newSys]) (by decide) fun v3 s3 s' w r3 hs h=>?_
 have e2:[lineB zne [errB (chkEv (evT0 0))]] = [s_bad_kind]:=by decide +kernel
 have e3:(sysTick (newSys 3 2 5)).2 = [s_tick_1]:=by decide +kernel
 have e4:(sysTick (newSys 3 2 5)).1.now=1:=by decide +kernel
 rw[e2]at r2
 rw[e3]at r3
 have l2:=Rw.len encS r2
 have l3:=Rw.len encS r3
 refine itT (by rw[l2];rfl) ?_
 refine Rw.ix encS r2 (by decide) (by decide) fun a ha=>?_
 refine Rw.ld0 encS h 1 rfl r2 ha (x:=s_bad_kind) rfl rfl rfl ?_
 refine itT (by rw[z40];decide) ?_
 refine itT (by rw[l3];rfl) ?_
 refine Rw.ix encS r3 (by decide) (by decide) fun a ha=>?_
 refine Rw.ld0 encS h 0 rfl r3 ha (x:=s_tick_1) rfl rfl rfl ?_
 refine itT (by rw[z40];decide) ?_
 refine zpL h 2 rfl hs ?_
 rw[e4]
 exact⟨true,rfl,hk w (dl0_ (dl0_ (dl0_ h)))⟩
theorem zmq [bTab w0](h:St w0 E w)(i:Nat){b:Nat}{a:ASys}{s:Seg}(hi:nth E i=some s)(hs:SysS b a s){e:AEv}(hkd:e.kind=1)(hb:chkEv e=0)(rd:RdE w0 E eT e.v e.r.ts)(hvc:e.v.len≤e.v.cap)(hrv:∀t∈e.r.ts,revOk t.1)
  (hn:a.sh.n<900000000) (hsz:e.c.1.size≤1000000) {k:Sl→PT} (hk:Hk w0 E i b (sysConfig a e) k):L.call Pr z02 [.pointer (some ⟨b,0,none⟩),evV e] (.one (.one .slice)) k w:=
 zfW h i hi hs hb (fun hh=>by omega) rd hvc hrv (f:=z1D) (by rw[hkd];rfl) zaa (zad (some ⟨b,0,none⟩) e.t) (fun h hi _ hk=>zk8 h _ hi hs hn hsz hk) hk
theorem zor [bTab w0](h:St w0 E w)(i:Nat){b:Nat}{a:ASys}{s:Seg}(hi:nth E i=some s)(hs:SysS b a s){e:AEv}(hkd:e.kind=2)(hb:chkEv e=0)(rd:RdE w0 (delN E i) eT e.v e.r.ts)(hvc:e.v.len≤e.v.cap)(h0:e.v.a=none→e.r.ts = [])(hrv:∀t∈e.r.ts,revOk t.1)
  (hn:a.sh.n<900000000) (hsz:e.r.name.size≤1000000) (hfew:a.sh.Few) {k:Sl→PT} (hk:Hk w0 E i b (sysRoute a e) k):L.call Pr z02 [.pointer (some ⟨b,0,none⟩),evV e] (.one (.one .slice)) k w:=
 zfW h i hi hs hb (fun hh=>by omega) (fun w h=>rd w (h.del i hi)) hvc hrv (f:=z1N) (by rw[hkd];rfl) zaQ (zaV (some ⟨b,0,none⟩) e.t) (fun h hi hd hk=>zmj h _ hi hs hn hsz hfew (fun w h=>rd w (hd w h)) hvc h0 hrv hk) hk
theorem zoq [bTab w0](h:St w0 E w)(i:Nat){b:Nat}{a:ASys}{s:Seg}(hi:nth E i=some s)(hs:SysS b a s){e:AEv}(hkd:e.kind=10)(hb:chkEv e=0)(rd:RdE w0 E eT e.v e.r.ts)(hvc:e.v.len≤e.v.cap)(hrv:∀t∈e.r.ts,revOk t.1)
  (hst:(shCfg a.sh e.name).2.2.2.1=true→shortB (shCfg a.sh e.name).1.1.data.toList 16=true∧1≤@id Int (shCfg a.sh e.name).2.2.1∧@id Int (shCfg a.sh e.name).2.2.1<100∧@id Int (shCfg a.sh e.name).1.2.2.2.1≤1000000) (hf:a.bk.all.length<999999)
  {k:Sl→PT} (hk:Hk w0 E i b (sysStamp a e) k):L.call Pr z02 [.pointer (some ⟨b,0,none⟩),evV e] (.one (.one .slice)) k w:=
 zfW h i hi hs hb (fun hh=>by omega) rd hvc hrv (f:=z1L) (by rw[hkd];rfl) zaO (zaT (some ⟨b,0,none⟩) e.t) (fun h hi _ hk=>zmh h _ hi hs hst hf hk) hk
theorem zq0 [bTab w0](h:St w0 E w)(i:Nat){b:Nat}{a:ASys}{s:Seg}(hi:nth E i=some s)(hs:SysS b a s){e:AEv}(hkd:e.kind=5)(hb:chkEv e=0)(rd:RdE w0 E eT e.v e.r.ts)(hvc:e.v.len≤e.v.cap)(hrv:∀t∈e.r.ts,revOk t.1)
  (hfew:FFew a.fl) (hn:a.gt.all.length<80000000) (hl:a.gt.lines.length<90000000) (hf:∀f∈(gDone a.fl a.gt e.n).2.2.1,f.Ok) (hfl:(gDone a.fl a.gt e.n).2.2.1.length<100000000)
  {k:Sl→PT} (hk:Hk w0 E i b (sysDone a e) k):L.call Pr z02 [.pointer (some ⟨b,0,none⟩),evV e] (.one (.one .slice)) k w:=
 zfW h i hi hs hb (fun hh=>by omega) rd hvc hrv (f:=z27) (by rw[hkd];rfl) zbh (zbm (some ⟨b,0,none⟩) e.t) (fun h hi _ hk=>zo8 h _ hi hs hfew hn hl hf hfl hk) hk
theorem zsW [bTab w0](h:St w0 E w)(i:Nat){b:Nat}{a:ASys}{s:Seg}(hi:nth E i=some s)(hs:SysS b a s){e:AEv}(hkd:e.kind=6)(hb:chkEv e=0)(rd:RdE w0 E eT e.v e.r.ts)(hvc:e.v.len≤e.v.cap)(hrv':∀t∈e.r.ts,revOk t.1)
  (he:0≤e.n∧e.n≤9000000000000000000) (hrv:(fOf (fUpp a.fl e.n).1.l e.n).size≤1000000) (hfew:FFew (fUpp a.fl e.n).1) (hn:a.gt.all.length<80000000) (hl:a.gt.lines.length<90000000)
  (hf:∀f∈(upFlow a e).2.2,f.Ok) (hfl:(upFlow a e).2.2.length<100000000) {k:Sl→PT} (hk:Hk w0 E i b (sysUp a e) k):L.call Pr z02 [.pointer (some ⟨b,0,none⟩),evV e] (.one (.one .slice)) k w:=
 zfW h i hi hs hb (fun hh=>by omega) rd hvc hrv' (f:=z2A) (by rw[hkd];rfl) zd8 (zdb (some ⟨b,0,none⟩) e.t) (fun h hi _ hk=>zrb h _ hi hs he hrv hfew hn hl hf hfl hk) hk
theorem zpZ [bTab w0](h:St w0 E w)(i:Nat){b:Nat}{a:ASys}{s:Seg}(hi:nth E i=some s)(hs:SysS b a s){e:AEv}(hkd:e.kind=11)(hb:chkEv e=0)(rd:RdE w0 E eT e.v e.r.ts)(hvc:e.v.len≤e.v.cap)(hrv:∀t∈e.r.ts,revOk t.1)
  (hfew:a.sh.Few) (hname:e.name.size≤100000) (hp:∀t∈(shRt a.sh e.name).1.ts,0≤pct t∧pct t≤1000) (hl:(shRt a.sh e.name).1.ts.length≤1000)
  (hroll:(shRt a.sh e.name).1.roll≤1000000) (hok:∀x,mget a.ro e.name=some x→x.Ok) (hsi:∀x,mget a.ro e.name=some x→0≤x.since∧x.since<1000000000) (hnow:0≤a.now∧a.now<1000000000) (hwb:WBd (ldTab a e.name).1.sh) (hln:(ldNow a e.name).sh.length<100000) (htb:TabB (ldNow a e.name))
  {k:Sl→PT} (hk:Hk w0 E i b (sysLead a e) k):L.call Pr z02 [.pointer (some ⟨b,0,none⟩),evV e] (.one (.one .slice)) k w:=
 zfW h i hi hs hb (fun hh=>by omega) rd hvc hrv (f:=z23) (by rw[hkd];rfl) zbg (zbl (some ⟨b,0,none⟩) e.t) (fun h hi _ hk=>zo7 h _ hi hs hfew hname hp hl hroll hok hsi hnow hwb hln htb hk) hk
theorem zmr [bTab w0](h:St w0 E w)(i:Nat){b:Nat}{a:ASys}{s:Seg}(hi:nth E i=some s)(hs:SysS b a s){e:AEv}(hkd:e.kind=4)(hb:chkEv e=0)(rd:RdE w0 E eT e.v e.r.ts)(hvc:e.v.len≤e.v.cap)(hrv':∀t∈e.r.ts,revOk t.1)
  (hd:0≤e.draw∧e.draw<4611686018427387904) (hok:∀x,mget a.ro e.name=some x→x.Ok) (hwb:WBd (roTab a.ro e.name).sh)
  (hfew:FFew a.fl) (hn:a.gt.all.length<80000000) (hl:a.gt.lines.length<90000000) (hnow: -1000000000000<a.now+a.gt.pat∧a.now+a.gt.pat<1000000000000) (hf:(arG a e).2.2.Ok) (hrv:(bnd a e).size≤1000000)
  {k:Sl→PT} (hk:Hk w0 E i b (sysArrive a e) k):L.call Pr z02 [.pointer (some ⟨b,0,none⟩),evV e] (.one (.one .slice)) k w:=
 zfW h i hi hs hb (fun hh=>by omega) rd hvc hrv' (f:=z1E) (by rw[hkd];rfl) zab (zae (some ⟨b,0,none⟩) e.t) (fun h hi _ hk=>zk9 h _ hi hs hd hok hwb hfew hn hl hnow hf hrv hk) hk
theorem zpY [bTab w0](h:St w0 E w)(i:Nat){b:Nat}{a:ASys}{s:Seg}(hi:nth E i=some s)(hs:SysS b a s){e:AEv}(hkd:e.kind=13)(hnm:RevN e.name)(hb:chkEv e=0)(rd:RdE w0 E eT e.v e.r.ts)(hvc:e.v.len≤e.v.cap)(hrv:∀t∈e.r.ts,revOk t.1)
  (hroom:a.fl.room<1000000) (hlast:a.fl.last+a.fl.room<4611686018427387904) (hname:e.name.size≤100000)
  (hmade:∀x∈fMade a.fl e.name (pdWant a e.name),0≤x∧x≤9000000000000000000) (hmn:(fMade a.fl e.name (pdWant a e.name)).length<100000) (hgone:∀x∈(fScale a.fl e.name (pdConc a e.name) (pdWant a e.name)).2,0≤x∧x≤9000000000000000000) (hgn:(fScale a.fl e.name (pdConc a e.name) (pdWant a e.name)).2.length<100000)
  (hpn:(fPods (pdFl a e.name).l e.name).length<1000000) {k:Sl→PT} (hk:Hk w0 E i b (sysPods a e) k):L.call Pr z02 [.pointer (some ⟨b,0,none⟩),evV e] (.one (.one .slice)) k w:=
 zfW h i hi hs hb (fun _=>hnm) rd hvc hrv (f:=z1z) (by rw[hkd];rfl) z7p (z7q (some ⟨b,0,none⟩) e.t) (fun h hi _ hk=>zo6 h _ hi hs hroom hlast hname hmade hmn hgone hgn hpn hk) hk
end Go.Proofs.YtdcdhcgmeahfmaaGreatDoor
namespace Go.Proofs.YtdcdhcgmeahfmaaGreatDoor
open Go.Dm
abbrev idB(x:Int):Prop:=0≤x∧x≤2147483647
structure FlI(k:Nat)(F:AFleet):Prop where
 few:FFew F
 r1:1≤F.room
 last:F.last≤30*(k:Int)
 rev:∀x∈F.l,RevN x.rev
 req:∀x∈F.l,∀q∈x.pod.reqs,idB q
theorem FlI.mono{k m:Nat}{F:AFleet}(h:FlI k F)(hm:k≤m):FlI m F:=⟨h.few,h.r1,by have:=h.last;omega,h.rev,h.req⟩
theorem FlI.upd{k:Nat}{F:AFleet}(h:FlI k F){id:Int}{g:APod→APod}(hf:FFew { F with l:=fUpd F.l id g })(hg:∀x∈F.l,x.id=id→∀q∈(g x.pod).reqs,idB q):FlI k { F with l:=fUpd F.l id g }:=
 ⟨hf,h.r1,h.last,fun y hy=>by
  rcases zhE hy with hy | ⟨x,hx,_,rfl⟩
  ·exact h.rev y hy
  ·exact h.rev x hx,fun y hy=>by
  rcases zhE hy with hy | ⟨x,hx,hid,rfl⟩
  ·exact h.req y hy
  ·exact hg x hx hid⟩
theorem zjQ{p:APod}{q z:Int}(h:z∈(podTake p q).1.reqs):z∈p.reqs∨z=q:=by
 unfold podTake at h
 split at h
 ·exact .inl h
 ·split at h
  ·exact .inl h
  ·split at h
   ·exact .inl h
   ·rcases List.mem_cons.1 ((zaw q p.reqs).mem_iff.1 h)with e | e
    ·exact .inr e
    ·exact .inl e
theorem zjT{p:APod}{q z:Int}(h:z∈(podGive p q).1.reqs):z∈p.reqs:=by
 unfold podGive at h
 split at h
 ·exact List.erase_subset h
 ·exact h
theorem zjS{p:APod}{z:Int}(h:z∈(podKill p).1.reqs):z∈p.reqs:=by
 unfold podKill at h
 split at h
 ·exact h
 ·cases h
theorem zkH(p:APod):(podUp p).1.reqs=p.reqs:=by unfold podUp;split<;>rfl
theorem zjV(p:APod):(podDrain p).1.reqs=p.reqs:=by unfold podDrain;split<;>rfl
theorem FlI.take{k:Nat}{F:AFleet}(h:FlI k F)(rev:ByteArray){q:Int}(hq:idB q):FlI k (fTake F rev q).1:=by
 have hf:=h.few.take rev q
 unfold fTake at hf ⊢
 split
 ·exact h
 ·rename_i h1
  rw[if_neg h1]at hf
  split
  ·exact h
  ·rename_i x hx
   rw[hx]at hf
   exact h.upd hf fun y hy _ z hz=>by
    rcases zjQ hz with e | rfl
    ·exact h.req y hy z e
    ·exact hq
theorem FlI.give{k:Nat}{F:AFleet}(h:FlI k F)(q:Int):FlI k (fGive F q).1:=by
 have hf:=h.few.give q
 unfold fGive at hf ⊢
 split
 ·exact h
 ·rename_i x hx
  rw[hx]at hf
  exact h.upd hf fun y hy _ z hz=>h.req y hy z (zjT hz)
theorem FlI.kill{k:Nat}{F:AFleet}(h:FlI k F)(id:Int):FlI k (fKill F id).1:=by
 have hf:=h.few.kill id
 unfold fKill at hf ⊢
 split
 ·exact h
 ·rename_i x hx
  rw[hx]at hf
  exact h.upd hf fun y hy _ z hz=>h.req y hy z (zjS hz)
theorem FlI.up{k:Nat}{F:AFleet}(h:FlI k F)(id:Int):FlI k (fUpp F id).1:=by
 have hf:=h.few.up id
 unfold fUpp
 split
 ·exact h
 ·exact h.upd hf fun y hy _ z hz=>h.req y hy z (by rwa [zkH]at hz)
theorem FlI.drain{k:Nat}{F:AFleet}(h:FlI k F)(rev:ByteArray):FlI k (drain1 rev F):=
 h.upd (h.few.drain rev) fun y hy _ z hz=>h.req y hy z (by rwa [zjV]at hz)
theorem FlI.shrink(rev:ByteArray):∀(n:Nat){k:Nat}{F:AFleet},FlI k F→FlI k (YtdcdhcgmeahfmaaGreatDoor.shrink rev n F).1
 | 0,_,_,h=>h
 | n+1,_,_,h=>FlI.shrink rev n (h.drain rev)
theorem zhC{rev:ByteArray}{conc:Int}:∀(n:Nat){F:AFleet}{x:AHeld},x∈(grow rev conc n F).l→x∈F.l∨(x.rev=rev∧x.pod=⟨1,conc,[]⟩)
 | 0,_,_,h=>.inl h
 | n+1,F,x,h=>by
  unfold grow grow1 at h
  rcases List.mem_append.1 h with h | h
  ·exact zhC n h
  ·rw[List.mem_singleton]at h
   subst h
   exact .inr ⟨rfl,rfl⟩
theorem zf1(F:AFleet)(rev:ByteArray)(want:Int):(growN F rev want:Int)≤max 0 (F.room-F.l.length):=by rw[zpr];omega
theorem FlI.scale{k:Nat}{F:AFleet}(h:FlI k F){rev:ByteArray}(hr:RevN rev){conc:Int}(hc:conc≤1000)(want:Int):FlI (k+1) (fScale F rev conc want).1:=by
 have hl:=h.few.l
 have hr20:=h.few.r
 unfold podsMost at hr20
 have hn:=zf1 F rev want
 have hg:FlI (k+1) (fGrown F rev conc want):=by
  refine⟨FFew.grow rev hc _ h.few (by omega),?_,?_,fun x hx=>?_,fun x hx q hq=>?_⟩
  ·unfold fGrown;rw[zcF];exact h.r1
  ·unfold fGrown;rw[zcH];have:=h.last;omega
  ·rcases zhC _ hx with hx | ⟨e,-⟩
   ·exact h.rev x hx
   ·rw[e];exact hr
  ·rcases zhC _ hx with hx | ⟨-,e⟩
   ·exact h.req x hx q hq
   ·rw[e]at hq;cases hq
 exact hg.shrink rev _
theorem zkz{F:AFleet}(ok:F.Ok)(rev:ByteArray)(q:Int):0≤(fTake F rev q).2.1∧(fTake F rev q).2.1≤F.last:=by
 have:=ok.lo
 unfold fTake
 split
 ·exact⟨Int.le_refl 0,this⟩
 ·split
  ·exact⟨Int.le_refl 0,this⟩
  ·rename_i x hx
   have:=ok.rng x (zhr hx).1
   dsimp only;omega
theorem zmM(F:AFleet)(rev:ByteArray)(q:Int):(fTake F rev q).1.last=F.last:=by
 unfold fTake
 split
 ·rfl
 ·split<;>rfl
theorem zfH{rev:ByteArray}:∀{l:List (Int×Int)}{F:AFleet}{all:Alls}{out:List Fate},F.Ok→F.last≤9000000000000000000→(∀x∈l,idB x.1)→(∀f∈out,f.Ok)→∀f∈(flowA rev l F all out).2.2.2,f.Ok
 | [],_,_,_,_,_,_,h=>h
 | x::l,F,all,out,ok,hl,hx,h=>by
  unfold flowA
  split
  ·have tp:=zkz ok rev x.1
   have hx1:=hx x (by simp)
   refine zfH (zl9 ok rev x.1) (by rw[zmM];exact hl) (fun y hy=>hx y (by simp[hy])) fun f hf=>?_
   rcases List.mem_append.1 hf with hf | hf
   ·exact h f hf
   ·rw[List.mem_singleton]at hf
    subst hf
    exact⟨⟨hx1.1,Int.le_trans hx1.2 (by decide)⟩,⟨tp.1,Int.le_trans tp.2 hl⟩,by show s_.size≤1000;decide⟩
  ·exact h
theorem zhD{k:Nat}{rev:ByteArray}:∀{l:List (Int×Int)}{F:AFleet}{all:Alls}{out:List Fate},FlI k F→(∀x∈l,idB x.1)→FlI k (flowA rev l F all out).1
 | [],_,_,_,h,_=>h
 | x::l,F,all,out,h,hx=>by
  unfold flowA
  split
  ·exact zhD (h.take rev (hx x (by simp))) fun y hy=>hx y (by simp[hy])
  ·exact h
theorem zdR{rev:ByteArray}:∀{l:List (Int×Int)}{F:AFleet}{all:Alls}{out:List Fate},∀y∈(flowA rev l F all out).2.2.1,y∈l
 | [],_,_,_,y,h=>by cases h
 | x::l,F,all,out,y,h=>by
  unfold flowA at h
  split at h
  ·exact List.mem_cons_of_mem _ (zdR y h)
  ·exact h
theorem ziU{rev:ByteArray}:∀{l:List (Int×Int)}{F:AFleet}{all:Alls}{out:List Fate},(∀x∈all,idB x.1)→(∀x∈l,idB x.1)→∀x∈(flowA rev l F all out).2.1,idB x.1
 | [],_,_,_,h,_=>h
 | x::l,F,all,out,h,hx=>by
  unfold flowA
  split
  ·refine ziU (fun y hy=>?_) fun y hy=>hx y (by simp[hy])
   rcases z1C hy with rfl | hy
   ·exact hx x (by simp)
   ·exact h y hy
  ·exact h
theorem z6L{κ υ:Type}[DecidableEq κ](m:List (κ×υ))(a b:κ)(u:υ)(h:(mget m b).isSome=true):(mget (mset m a u) b).isSome=true:=by
 rw[z47];split
 ·rfl
 ·exact h
theorem zdQ{rev:ByteArray}{q:Int}:∀{l:List (Int×Int)}{F:AFleet}{all:Alls}{out:List Fate},(mget all q).isSome=true→(mget (flowA rev l F all out).2.1 q).isSome=true
 | [],_,_,_,h=>h
 | x::l,F,all,out,h=>by
  unfold flowA
  split
  ·exact zdQ (z6L _ _ _ _ h)
  ·exact h
structure GtI(k:Nat)(G:AGate):Prop where
 all:G.all.length≤2000*k
 ids:∀x∈G.all,idB x.1
 lines:G.lines.length≤k
 lid:∀x∈G.lines,∀y∈x.2,idB y.1
 wk:GWk G
 pat:1≤G.pat∧G.pat≤1000
 room:0≤G.room∧G.room≤8
theorem GtI.mono{k m:Nat}{G:AGate}(h:GtI k G)(hm:k≤m):GtI m G:=⟨by have:=h.all;omega,h.ids,by have:=h.lines;omega,h.lid,h.wk,h.pat,h.room⟩
theorem GtI.line{k:Nat}{G:AGate}(h:GtI k G)(rev:ByteArray):∀y∈lineOf G.lines rev,idB y.1:=fun y hy=>by
 unfold lineOf at hy
 cases hg:mget G.lines rev with
 | none=>rw[hg]at hy;cases hy
 | some l=>rw[hg]at hy;exact h.lid _ (z3p hg) y hy
theorem GtI.turn{k m:Nat}{G:AGate}(h:GtI k G){all:Alls}{rev:ByteArray}{l:List (Int×Int)}(hm:k+1≤m)(hl:all.length≤2000*m)(hi:∀x∈all,idB x.1)(hs:∀q,(mget G.all q).isSome=true→(mget all q).isSome=true)
  (h1:∀y∈l,idB y.1) (h2:∀y∈l,(mget all y.1).isSome=true):GtI m { G with all:=all,lines:=mset G.lines rev l }:=by
 have:=h.lines
 have:=z4m G.lines rev l
 refine⟨hl,hi,by dsimp only;omega,fun x hx y hy=>?_,fun x hx y hy=>?_,h.pat,h.room⟩
 ·rcases z1C hx with rfl | hx
  ·exact h1 y hy
  ·exact h.lid x hx y hy
 ·rcases z1C hx with rfl | hx
  ·exact h2 y hy
  ·exact hs _ (h.wk x hx y hy)
theorem GtI.req{k m:Nat}{G:AGate}(h:GtI k G){all:Alls}(hm:k≤m)(hl:all.length≤2000*m)(hi:∀x∈all,idB x.1)(hs:∀q,(mget G.all q).isSome=true→(mget all q).isSome=true):GtI m { G with all:=all }:=
 ⟨hl,hi,by have:=h.lines;dsimp only;omega,h.lid,fun x hx y hy=>hs _ (h.wk x hx y hy),h.pat,h.room⟩
theorem z9y{all:Alls}{id:Int}{x:ByteArray×Int}(h:∀x∈all,idB x.1)(hi:idB id):∀y∈mset all id x,idB y.1:=fun y hy=>by
 rcases z1C hy with rfl | hy
 ·exact hi
 ·exact h y hy
theorem ziS{k:Nat}{F:AFleet}{G:AGate}(ok:G.Ok)(hF:FlI k F)(hG:GtI k G)(rev:ByteArray):FlI k (gFlow F G rev).1∧GtI (k+1) (gFlow F G rev).2.1:=by
 have hl:=zax (rev:=rev) (l:=lineOf G.lines rev) (F:=F) (all:=G.all) (out:=[])
 have hn:=z3k ok rev
 have:=hG.all
 have:=hG.room
 refine⟨zhD hF (hG.line rev),hG.turn (Nat.le_refl _) (by omega) (ziU hG.ids (hG.line rev)) (fun q=>zdQ) (fun y hy=>hG.line rev y (zdR y hy)) fun y hy=>?_⟩
 exact zdQ (hG.wk.line rev y (zdR y hy))
theorem zfF{k:Nat}{F:AFleet}{G:AGate}(hk:k≤100000)(ok:F.Ok)(hF:FlI k F)(hG:GtI k G)(rev:ByteArray):∀f∈(gFlow F G rev).2.2,f.Ok:=
 zfH ok (by have:=hF.last;omega) (hG.line rev) (by simp)
theorem z9:(0:Int)≤0∧(0:Int)≤9000000000000000000:=⟨by decide,by decide⟩
theorem znL{k:Nat}{F:AFleet}{G:AGate}(okF:F.Ok)(ok:G.Ok)(hk:k≤10000)(hF:FlI k F)(hG:GtI k G){id:Int}(hid:idB id):FlI k (gDone F G id).1∧GtI (k+2) (gDone F G id).2.1:=by
 have hF':=hF.give id
 have hla:=hG.all
 have hg:GtI (k+1) { G with all:=mset G.all id ((fGive F id).2.1,3) }:=hG.req (by omega) (by have:=z4m G.all id ((fGive F id).2.1,3);omega) (z9y hG.ids hid) fun q=>z6L _ _ _ _
 unfold gDone
 split
 ·exact⟨hF',hG.mono (by omega)⟩
 ·have okg:({ G with all:=mset G.all id ((fGive F id).2.1,3) }:AGate).Ok:=ok.req (by omega) id _
  have:=ziS okg (hF'.mono (Nat.le_succ k)) hg (fGive F id).2.1
  refine⟨?_,this.2⟩
  have h2:=zhD (k:=k) (rev:=(fGive F id).2.1) (l:=lineOf G.lines (fGive F id).2.1) (all:=mset G.all id ((fGive F id).2.1,3)) (out:=[]) hF' (hG.line _)
  exact h2
theorem zk2{k:Nat}{F:AFleet}{G:AGate}(okF:F.Ok)(hk:k≤10000)(hF:FlI k F)(hG:GtI k G){id:Int}(hid:idB id):∀f∈(gDone F G id).2.2.1,f.Ok:=by
 have hla:=hG.all
 have hg:GtI (k+1) { G with all:=mset G.all id ((fGive F id).2.1,3) }:=hG.req (by omega) (by have:=z4m G.all id ((fGive F id).2.1,3);omega) (z9y hG.ids hid) fun q=>z6L _ _ _ _
 unfold gDone
 split
 ·intro f hf;cases hf
 ·intro f hf
  rcases List.mem_cons.1 hf with rfl | hf
  ·exact⟨⟨hid.1,Int.le_trans hid.2 (by decide)⟩,z9,by show s_.size≤1000;decide⟩
  ·exact zfF (by omega:k+1≤100000) (zqZ okF id) ((hF.give id).mono (Nat.le_succ k)) hg _ f hf
theorem znK{F:AFleet}{G:AGate}(ok:G.Ok)(hn:G.all.length<80000000)(hr:G.room≤8)(id:Int):(gDone F G id).2.2.1.length<100000000:=by
 unfold gDone
 split
 ·simp
 ·have:=(zfE (F:=(fGive F id).1) (ok.req (by omega) id ((fGive F id).2.1,3)) (fGive F id).2.1).1
  dsimp only at this ⊢
  rw[List.length_cons]
  omega
theorem zpv{k:Nat}{F:AFleet}{G:AGate}(ok:G.Ok)(hF:FlI k F)(hG:GtI k G){id:Int}(hid:idB id)(rev:ByteArray)(now:Int):FlI k (gArr F G id rev now).1∧GtI (k+1) (gArr F G id rev now).2.1:=by
 have hla:=hG.all
 have hl:∀x:ByteArray×Int,(mset G.all id x).length≤2000*(k+1):=fun x=>by have:=z4m G.all id x;omega
 have hs:∀(x:ByteArray×Int) q,(mget G.all q).isSome=true→(mget (mset G.all id x) q).isSome=true:=fun x q=>z6L _ _ _ _
 have hln:∀(x:ByteArray×Int),∀y∈lineOf G.lines rev,(mget (mset G.all id x) y.1).isSome=true:=fun x y hy=>hs x _ (hG.wk.line rev y hy)
 unfold gArr
 split
 ·exact⟨hF,hG.mono (Nat.le_succ k)⟩
 ·split
  ·exact⟨hF,hG.req (Nat.le_succ k) (hl _) (z9y hG.ids hid) (hs _)⟩
  ·split
   ·exact⟨hF.take rev hid,hG.turn (Nat.le_refl _) (hl _) (z9y hG.ids hid) (hs _) (hG.line rev) (hln _)⟩
   ·split
    ·exact⟨hF,hG.turn (Nat.le_refl _) (hl _) (z9y hG.ids hid) (hs _) (hG.line rev) (hln _)⟩
    ·rename_i h4
     refine⟨hF,hG.turn (Nat.le_refl _) (hl _) (z9y hG.ids hid) (hs _) (fun y hy=>?_) fun y hy=>?_⟩ <;>
     ·unfold lPush at hy h4
      split at hy
      ·rename_i h5;rw[if_pos h5]at h4;exact absurd (show(5:Int)≠0 by decide) h4
      ·rename_i h5
       rw[if_neg h5]at h4
       split at hy
       ·rename_i h6;rw[if_pos h6]at h4;exact absurd (show(8:Int)≠0 by decide) h4
       ·rcases List.mem_append.1 hy with hy | hy
        ·first | exact hG.line rev y hy | exact hln _ y hy
        ·rw[List.mem_singleton]at hy
         subst hy
         first | exact hid | (rw[z47,if_pos rfl];rfl)
theorem znN{k:Nat}{F:AFleet}{G:AGate}(hk:k≤10000)(okF:F.Ok)(hF:FlI k F){id:Int}(hid:idB id)(rev:ByteArray)(now:Int):(gArr F G id rev now).2.2.Ok:=by
 have hi:0≤id∧id≤9000000000000000000:=⟨hid.1,Int.le_trans hid.2 (by decide)⟩
 have hz:(0:Int)≤0∧(0:Int)≤9000000000000000000:=⟨by decide,by decide⟩
 unfold gArr
 split
 ·exact⟨hi,hz,by show s_twice.size≤1000;decide⟩
 ·split
  ·exact⟨hi,hz,by show s_no_route.size≤1000;decide⟩
  ·split
   ·have:=zkz okF rev id
    have:=hF.last
    exact⟨hi,⟨by show 0≤(fTake F rev id).2.1;omega,by show(fTake F rev id).2.1≤9000000000000000000;omega⟩,by show s_.size≤1000;decide⟩
   ·split
    ·exact⟨hi,hz,by show s_overflow.size≤1000;decide⟩
    ·exact⟨hi,hz,by show s_.size≤1000;decide⟩
theorem ziG{rev:ByteArray}:∀{l:List Int}{all:Alls},(∀x∈all,idB x.1)→(∀x∈l,idB x)→∀x∈lateS rev l all,idB x.1
 | [],_,h,_=>h
 | x::l,all,h,hx=>ziG (l:=l) (z9y h (hx x (by simp))) fun y hy=>hx y (by simp[hy])
theorem zkW{l:List (Int×Int)}{now q:Int}(h:q∈lLate l now):∃y∈l,y.1=q:=by
 unfold lLate at h
 obtain⟨y,hy,e⟩:=List.mem_map.1 h
 exact⟨y,(List.mem_filter.1 hy).1,e⟩
structure TkI(m n:Nat)(G:AGate):Prop where
 all:G.all.length≤m
 ids:∀x∈G.all,idB x.1
 lines:G.lines.length≤n
 lid:∀x∈G.lines,∀y∈x.2,idB y.1
 wk:GWk G
 ok:G.Ok
theorem TkI.line{m n:Nat}{G:AGate}(h:TkI m n G)(rev:ByteArray):∀y∈lineOf G.lines rev,idB y.1:=fun y hy=>by
 unfold lineOf at hy
 cases hg:mget G.lines rev with
 | none=>rw[hg]at hy;cases hy
 | some l=>rw[hg]at hy;exact h.lid _ (z3p hg) y hy
theorem TkI.tick1{m n:Nat}{G:AGate}(h:TkI m n G){k:ByteArray}(hk:(mget G.lines k).isSome=true)(now:Int):TkI m n (YtdcdhcgmeahfmaaGreatDoor.tick1 now k G):=by
 refine⟨?_,?_,?_,?_,h.wk.tick1 k now,h.ok.tick1 h.wk hk now⟩
 ·have:=congrArg List.length (z96 (rev:=k) (l:=lLate (lineOf G.lines k) now) (all:=G.all) (h.wk.late k now))
  simp only[List.length_map]at this
  have:=h.all
  unfold YtdcdhcgmeahfmaaGreatDoor.tick1;dsimp only;omega
 ·refine ziG h.ids fun q hq=>?_
  obtain⟨y,hy,rfl⟩:=zkW hq
  exact h.line k y hy
 ·have:=congrArg List.length (zf8 (G:=G) hk now)
  simp only[List.length_map]at this
  have:=h.lines
  omega
 ·intro x hx y hy
  rcases z1C hx with rfl | hx
  ·exact h.line k y (List.mem_filter.1 hy).1
  ·exact h.lid x hx y hy
theorem zf7{m n:Nat}{now:Int}{r:Int}:∀{ks:List ByteArray}{G:AGate}{out:List Fate},TkI m n G→G.room=r→(∀k∈ks,(mget G.lines k).isSome=true)→(∀f∈out,f.Ok)→
  TkI m n (tickA now ks G out).1∧(∀f∈(tickA now ks G out).2,f.Ok)∧((tickA now ks G out).2.length:Int)≤out.length+ks.length*max r 0∧(tickA now ks G out).1.pat=G.pat∧(tickA now ks G out).1.room=G.room
 | [],G,out,h,hr,_,ho=>⟨h,ho,by simp[tickA],rfl,rfl⟩
 | k::ks,G,out,h,hr,hk,ho=>by
  have h1:=h.tick1 (hk k (by simp)) now
  have hn:=zf8 (G:=G) (hk k (by simp)) now
  have hks:∀k'∈ks,(mget (tick1 now k G).lines k').isSome=true:=fun k' hk'=>by
   have:=hk k' (by simp[hk'])
   cases h3:mget (tick1 now k G).lines k' with
   | some _=>rfl
   | none=>
    rw[z1V,hn]at h3
    cases h4:mget G.lines k' with
    | none=>rw[h4]at this;cases this
    | some v=>exact absurd (List.mem_map.2 ⟨_,z3p h4,rfl⟩) h3
  have ho':∀f∈out++lateF (lLate (lineOf G.lines k) now),f.Ok:=fun f hf=>by
   rcases List.mem_append.1 hf with hf | hf
   ·exact ho f hf
   ·unfold lateF at hf
    obtain⟨q,hq,rfl⟩:=List.mem_map.1 hf
    obtain⟨y,hy,rfl⟩:=zkW hq
    have:=h.line k y hy
    exact⟨⟨this.1,Int.le_trans this.2 (by decide)⟩,z9,by show s_timeout.size≤1000;decide⟩
  obtain⟨a,b,c,d,e⟩:=zf7 (ks:=ks) (r:=r) h1 hr hks ho'
  refine⟨a,b,?_,d,e⟩
  have hll:=z3k h.ok k
  rw[hr]at hll
  have h5:(lLate (lineOf G.lines k) now).length≤(lineOf G.lines k).length:=by unfold lLate;rw[List.length_map];exact List.length_filter_le ..
  rw[List.length_append,zcE]at c
  show((tickA now ks (tick1 now k G) (out++lateF (lLate (lineOf G.lines k) now))).2.length:Int)≤_
  rw[List.length_cons]
  have:((ks.length+1:Nat):Int)*max r 0=ks.length*max r 0+max r 0:=by rw[Int.natCast_add,Int.add_mul];simp
  rw[this]
  omega
theorem ziQ{k:Nat}{G:AGate}(ok:G.Ok)(hG:GtI k G)(now:Int):GtI k (gTick G now).1∧(∀f∈(gTick G now).2,f.Ok)∧(gTick G now).2.length≤8*k:=by
 have h:TkI G.all.length G.lines.length G:=⟨Nat.le_refl _,hG.ids,Nat.le_refl _,hG.lid,hG.wk,ok⟩
 obtain⟨a,b,c,d,e⟩:=zf7 (now:=now) (r:=G.room) (ks:=ssort (G.lines.map (·.1))) (out:=[]) h rfl (fun k hk=>by
  cases h4:mget G.lines k with
  | none=>rw[z1V]at h4;exact absurd (z7H.1 hk) h4
  | some v=>rfl) (by simp)
 have r:=hG.room
 have hl:=hG.lines
 refine⟨⟨Nat.le_trans a.all hG.all,a.ids,Nat.le_trans a.lines hl,a.lid,a.wk,?_,?_⟩,b,?_⟩
 ·unfold gTick;rw[d];exact hG.pat
 ·unfold gTick;rw[e];exact r
 ·rw[z2I,List.length_map]at c
  have h8:(G.lines.length:Int)*max G.room 0≤G.lines.length*8:=Int.mul_le_mul_of_nonneg_left (by omega) (by omega)
  unfold gTick
  simp only[List.length_nil]at c
  omega
structure ShI(k:Nat)(a:AShelf):Prop where
 n:a.n≤k
 few:a.Few
 cfg:∀n,(tget a.m n).is=true→(cfgOf (tget a.m n)).1=n∧specC (cfgOf (tget a.m n))=0∧1≤(tget a.m n).gen
 rt:∀n,(rget a.r n).is=true→(rget a.r n).r.name=n∧specE (rget a.r n).r=0
theorem ShI.mono{k m:Nat}{a:AShelf}(h:ShI k a)(hm:k≤m):ShI m a:=⟨by have:=h.n;omega,h.few,h.cfg,h.rt⟩
theorem zmY{k:Nat}{a:AShelf}(ok:a.Ok)(h:ShI k a)(c:Cfg)(ver:Int):ShI (k+1) (shPut a c ver).1:=by
 have hf:=zmZ h.few c ver
 unfold shPut at hf ⊢
 split
 ·exact h.mono (Nat.le_succ k)
 ·rename_i h1
  rw[if_neg h1]at hf
  split
  ·exact h.mono (Nat.le_succ k)
  ·rename_i h2
   rw[if_neg h2]at hf
   have hn:=h.n
   refine⟨by dsimp only;omega,hf,fun n hn2=>?_,h.rt⟩
   dsimp only[putC]at hn2 ⊢
   rw[zkx]at hn2 ⊢
   split
   ·rename_i e
    have h1':specC c=0:=by simpa using h1
    refine⟨e,h1',?_⟩
    have h3:=ok.gen c.1
    show(1:Int)≤(if(tget a.m c.1).is=true∧sameC (cfgOf (tget a.m c.1)) c=true then(tget a.m c.1).gen else(tget a.m c.1).gen+1)
    split
    ·rename_i h4;exact(h.cfg c.1 h4.1).2.2
    ·omega
   ·rename_i e;rw[if_neg e]at hn2;exact h.cfg n hn2
theorem zlz{k:Nat}{a:AShelf}(h:ShI k a)(r:ARt)(ver:Int):ShI (k+1) (shPutR a r ver).1:=by
 have hf:=zlA h.few r ver
 unfold shPutR at hf ⊢
 split
 ·exact h.mono (Nat.le_succ k)
 ·rename_i h1
  rw[if_neg h1]at hf
  split
  ·exact h.mono (Nat.le_succ k)
  ·rename_i h2
   rw[if_neg h2]at hf
   have hn:=h.n
   refine⟨by dsimp only;omega,hf,h.cfg,fun n hn2=>?_⟩
   dsimp only[putRt]at hn2 ⊢
   rw[zoS]at hn2 ⊢
   split
   ·rename_i e
    exact⟨e,by simpa using h1⟩
   ·rename_i e;rw[if_neg e]at hn2;exact h.rt n hn2
theorem z5W{c:Cfg}(h:specC c=0):shortB c.1.data.toList 16=true∧(0≤@id Int c.2.1∧@id Int c.2.1≤255)∧(1≤@id Int c.2.2.1∧@id Int c.2.2.1≤8)∧(1≤@id Int c.2.2.2.2.1∧@id Int c.2.2.2.2.1≤10)∧(0≤@id Int c.2.2.2.1∧@id Int c.2.2.2.1≤@id Int c.2.2.2.2.1)∧(0≤@id Int c.2.2.2.2.2.1∧@id Int c.2.2.2.2.2.1≤30):=by
 unfold specC at h
 split at h
 ·rename_i h1
  split at h
  ·rename_i h2
   unfold cfgNum at h2
   simp only[Bool.and_eq_true,decide_eq_true_eq]at h2
   exact⟨h1,h2.1,h2.2.1,h2.2.2.1,h2.2.2.2.1,h2.2.2.2.2⟩
  ·cases h
 ·cases h
structure BkI(k:Nat)(a:ABook):Prop where
 len:a.all.length≤k
 rev:∀p∈a.all,RevN p.1
 cfg:∀p∈a.all,specC p.2.cfg=0
theorem BkI.mono{k m:Nat}{a:ABook}(h:BkI k a)(hm:k≤m):BkI m a:=⟨by have:=h.len;omega,h.rev,h.cfg⟩
theorem BkI.prove{k:Nat}{a:ABook}(h:BkI k a)(rev:ByteArray):BkI k (bkProve a rev).1:=by
 unfold bkProve
 split
 ·exact⟨h.len,h.rev,h.cfg⟩
 ·exact h
theorem BkI.stamp{k:Nat}{a:ABook}(h:BkI k a){c:Cfg}(hc:specC c=0){g:Nat}(h1:1≤g)(hg:g<100):BkI (k+1) (bkStamp a c g).1:=by
 unfold bkStamp
 split
 ·exact h.mono (Nat.le_succ k)
 ·have:=h.len
  have:=z4m a.all (revB c.1 g) (rvOf (revB c.1 g) g c)
  refine⟨by dsimp only;omega,fun p hp=>?_,fun p hp=>?_⟩
  ·rcases z1C hp with rfl | hp
   ·exact⟨c.1,g,(z5W hc).1,h1,hg,rfl⟩
   ·exact h.rev p hp
  ·rcases z1C hp with rfl | hp
   ·exact hc
   ·exact h.cfg p hp
theorem RevN.size{n:ByteArray}(h:RevN n):n.size≤100:=by
 obtain⟨c,g,hc,-,hg,rfl⟩:=h
 have:=zba c hg
 unfold shortB at hc
 simp only[Bool.and_eq_true,decide_eq_true_eq]at hc
 have h2:(c.data.toList.length:Int)≤16:=hc.2
 have h3:c.data.toList.length=c.size:=by rw[Array.length_toList];rfl
 omega
theorem z6O{a:ABook}{rev:ByteArray}(h:bkHas a rev=true):(rev,bkGet a rev)∈a.all:=by
 unfold bkHas at h
 unfold bkGet
 cases h2:mget a.all rev with
 | none=>rw[h2]at h;cases h
 | some v=>exact z3p h2
theorem zj9{a:ABook}{rev:ByteArray}(h:rev∈bkAll a):bkHas a rev=true:=by
 unfold bkAll at h
 unfold bkHas
 cases h2:mget a.all rev with
 | none=>rw[z1V]at h2;exact absurd (z7H.1 h) h2
 | some v=>rfl
theorem zj8{a:ABook}(ok:a.Ok){c:ByteArray}{q:ByteArray→Bool}:∀{l:List ByteArray}{t:Rv},(∀x∈l,bkHas a x=true)→(t.1=s_∨bkHas a t.1=true)→((l.foldl (bkStep a c q) t).1=s_∨bkHas a (l.foldl (bkStep a c q) t).1=true)
 | [],t,_,h=>h
 | x::l,t,hl,h=>by
  rw[List.foldl_cons]
  refine zj8 ok (fun y hy=>hl y (by simp[hy])) ?_
  have hx:=hl x (by simp)
  have e:(bkGet a x).1=x:=(ok.name _ (z6O hx)).1
  unfold bkStep
  split
  ·split
   ·split
    ·exact .inr (by rw[e];exact hx)
    ·exact h
   ·exact h
  ·exact h
theorem zk7{a:ABook}(ok:a.Ok)(c:ByteArray)(q:ByteArray→Bool):(bkBest a c q).1=s_∨bkHas a (bkBest a c q).1=true:=
 zj8 ok (fun _ h=>zj9 h) (.inl rfl)
theorem BkI.size{k:Nat}{a:ABook}(h:BkI k a){rev:ByteArray}(hr:bkHas a rev=true):rev.size≤100:=(h.rev _ (z6O hr)).size
theorem zlu{k:Nat}{a:ABook}(ok:a.Ok)(h:BkI k a)(cfg:ByteArray)(t:Tgt):(tgtOf a cfg t).1.size≤100:=by
 have hs:s_.size≤100:=by decide
 unfold tgtOf
 split
 ·split
  ·exact hs
  ·rename_i h2
   rcases zk7 ok cfg (bkProved a)with e | e
   ·exact absurd e h2
   ·exact h.size e
 ·split
  ·rename_i h2
   split
   ·exact h.size h2
   ·exact hs
  ·exact hs
structure ByI(k:Nat)(bk:ABook)(m:List (ByteArray×ABes)):Prop where
 has:∀p∈bk.all,(mget m p.1).isSome=true
 xs:∀x∈m,x.2.xs.length≤k
 rng:∀x∈m,∀y∈x.2.xs,0≤y∧y≤100000000
 want:∀x∈m,(0≤x.2.want∧x.2.want≤10)∧(0≤x.2.left∧x.2.left≤1000)
theorem ByI.mono{k m:Nat}{bk:ABook}{b:List (ByteArray×ABes)}(h:ByI k bk b)(hm:k≤m):ByI m bk b:=⟨h.has,fun x hx=>by have:=h.xs x hx;omega,h.rng,h.want⟩
theorem ByI.book{k:Nat}{bk bk':ABook}{b:List (ByteArray×ABes)}(h:ByI k bk b)(e:bk'.all=bk.all):ByI k bk' b:=⟨by rw[e];exact h.has,h.xs,h.rng,h.want⟩
theorem ByI.set{k:Nat}{bk:ABook}{b:List (ByteArray×ABes)}(h:ByI k bk b){rev:ByteArray}{x:ABes}(h1:x.xs.length≤k)(h2:∀y∈x.xs,0≤y∧y≤100000000)(h3:(0≤x.want∧x.want≤10)∧(0≤x.left∧x.left≤1000)):ByI k bk (mset b rev x):=
 ⟨fun p hp=>z6L _ _ _ _ (h.has p hp),fun y hy=>by
  rcases z1C hy with rfl | hy
  ·exact h1
  ·exact h.xs y hy,fun y hy=>by
  rcases z1C hy with rfl | hy
  ·exact h2
  ·exact h.rng y hy,fun y hy=>by
  rcases z1C hy with rfl | hy
  ·exact h3
  ·exact h.want y hy⟩
theorem ByI.tick{k:Nat}{bk:ABook}{G:AGate}(hb:∀rev,busyB G rev≤100000000):∀{l:List ByteArray}{b:List (ByteArray×ABes)},l.Nodup→(∀p∈bk.all,(mget b p.1).isSome=true)→(∀x∈b,x.1∈l→x.2.xs.length≤k)→(∀x∈b,x.2.xs.length≤k+1)→
  (∀x∈b,∀y∈x.2.xs,0≤y∧y≤100000000)→(∀x∈b,(0≤x.2.want∧x.2.want≤10)∧(0≤x.2.left∧x.2.left≤1000))→ByI (k+1) bk (l.foldl (tkStep G) b)
 | [],b,_,h1,_,h2,h3,h4=>⟨h1,h2,h3,h4⟩
 | rev::l,b,nd,h1,ha,h2,h3,h4=>by
  rw[List.foldl_cons]
  rw[List.nodup_cons]at nd
  unfold tkStep
  split
  ·rename_i x hx
   have hm:=z3p hx
   have hxl:x.xs.length≤k:=ha _ hm (by simp)
   refine ByI.tick hb nd.2 (fun p hp=>z6L _ _ _ _ (h1 p hp)) (fun y hy hl=>?_) (fun y hy=>?_) (fun y hy=>?_) fun y hy=>?_
   ·rcases z1C hy with rfl | hy
    ·exact absurd hl nd.1
    ·exact ha y hy (by simp[hl])
   ·rcases z1C hy with rfl | hy
    ·simp;omega
    ·exact h2 y hy
   ·rcases z1C hy with rfl | hy
    ·intro z hz
     rcases List.mem_append.1 hz with hz | hz
     ·exact h3 _ hm z hz
     ·rw[List.mem_singleton]at hz
      have:=hb rev
      subst hz
      split<;>omega
    ·exact h3 y hy
   ·rcases z1C hy with rfl | hy
    ·have:=h4 _ hm
     exact this
    ·exact h4 y hy
  ·exact ByI.tick hb nd.2 h1 (fun y hy hl=>ha y hy (by simp[hl])) h2 h3 h4
theorem znI(all:Alls)(rev:ByteArray):(gWith all rev).length≤all.length:=by
 unfold gWith
 rw[z98,List.length_map]
 exact List.length_filter_le ..
theorem zr2{k:Nat}{G:AGate}(ok:G.Ok)(hG:GtI k G)(hk:k≤10001)(rev:ByteArray):0≤busyB G rev∧busyB G rev≤100000000:=by
 have h1:=z3k ok rev
 have h2:=znI G.all rev
 have h3:=hG.all
 have h4:=hG.room
 unfold busyB gWait
 rw[List.length_map]
 omega
structure WyI(k:Nat)(a:AWay):Prop where
 fr:WBd a.fr
 to:WBd a.to
 ns:WBd a.ns
 zf:∀s∈a.fr,s.1.size≤100
 zt:∀s∈a.to,s.1.size≤100
 zn:∀s∈a.ns,s.1.size≤100
 zg:∀s∈a.ng,s.1.size≤100∧s.2.1.size≤100
 lf:a.fr.length≤6*k
 lt:a.to.length≤6
 ln:a.ns.length≤6*k
 lg:a.ng.length≤6
 since:0≤a.since∧a.since≤1048576
abbrev RoI(k:Nat)(m:ARoll):Prop:=∀n x,mget m n=some x→WyI k x
theorem WyI.mono{k m:Nat}{a:AWay}(h:WyI k a)(hm:k≤m):WyI m a:=⟨h.fr,h.to,h.ns,h.zf,h.zt,h.zn,h.zg,by have:=h.lf;omega,h.lt,by have:=h.ln;omega,h.lg,h.since⟩
theorem WyI.ok{k:Nat}{a:AWay}(h:WyI k a)(hk:k≤10000):a.Ok:=⟨h.fr,h.to,h.ns,by have:=h.lf;omega,by have:=h.lt;omega,by have:=h.ln;omega,by have:=h.lg;omega⟩
theorem zk6{α:Type}[Inhabited α][DecidableEq α]{zs:List α}{x:α}(h:x∈Lib.compact zs):x∈zs:=by
 unfold Lib.compact Lib.compactUpTo at h
 obtain⟨i,hi,rfl⟩:=List.mem_map.1 h
 have hi:=(List.mem_filter.1 hi).1
 rw[List.mem_range]at hi
 simp[hi]
theorem zn1{l:List ByteArray}{x:ByteArray}(h:x∈scomp l):x∈l:=by
 unfold scomp at h
 obtain⟨y,hy,rfl⟩:=List.mem_map.1 h
 obtain⟨z,hz,rfl⟩:=List.mem_map.1 (zk6 hy)
 exact hz
theorem znp{fr to:List Shr}{x:ByteArray}(h:x∈namesOf fr to):(∃s∈fr,s.1=x)∨∃s∈to,s.1=x:=by
 have h:=z7H.1 (zn1 h)
 rcases List.mem_append.1 h with h | h
 ·exact .inl (List.mem_map.1 h)
 ·exact .inr (List.mem_map.1 h)
theorem znq(fr to:List Shr):(namesOf fr to).length≤fr.length+to.length:=by
 have:=zil (ssort (fr.map (·.1)++to.map (·.1)))
 rw[z2I,List.length_append,List.length_map,List.length_map]at this
 exact this
theorem ztd{fr to:List Shr}{gone whole:Int}(h0:0<gone)(h1:gone<whole)(n:ByteArray):wOf fr n+upOf fr to gone whole n≤max (wOf fr n) (wOf to n):=by
 unfold upOf
 split
 ·rename_i hc
  have:(wOf to n-wOf fr n)*gone/whole≤wOf to n-wOf fr n:=Int.ediv_le_of_le_mul (by omega) (Int.mul_le_mul_of_nonneg_left (by omega) (by omega))
  omega
 ·omega
theorem ziq{fr to:List Shr}{gone whole:Int}(hf:WBd fr)(ht:WBd to)(h0:0<gone)(h1:gone<whole):∀{l:List ByteArray}{st:Int×List Shr},(∀x∈l,x.size≤100)→0≤st.1→WBd st.2→(∀s∈st.2,s.1.size≤100)→
  WBd (l.foldl (rollStep fr to gone whole) st).2∧(∀s∈(l.foldl (rollStep fr to gone whole) st).2,s.1.size≤100)∧(l.foldl (rollStep fr to gone whole) st).2.length≤st.2.length+l.length
 | [],st,_,_,h3,h4=>⟨h3,h4,Nat.le_refl _⟩
 | n::l,st,hl,h2,h3,h4=>by
  rw[List.foldl_cons]
  have a:=zam (r:=n) hf
  have b:=zam (r:=n) ht
  have c:=zhe hf ht h0 h1 n
  have d:=ztd (fr:=fr) (to:=to) h0 h1 n
  have key:0≤(rollStep fr to gone whole st n).1∧WBd (rollStep fr to gone whole st n).2∧(∀s∈(rollStep fr to gone whole st n).2,s.1.size≤100)∧(rollStep fr to gone whole st n).2.length≤st.2.length+1:=by
   have hv:∀m:Int,wOf fr n+m≤1000→WBd (if 0<wOf fr n+m then st.2++[(n,wOf fr n+m,())]else st.2)∧(∀s∈(if 0<wOf fr n+m then st.2++[(n,wOf fr n+m,())]else st.2),s.1.size≤100)∧(if 0<wOf fr n+m then st.2++[(n,wOf fr n+m,())]else st.2).length≤st.2.length+1:=by
    intro m hm
    split
    ·rename_i hp
     refine⟨fun s hs=>?_,fun s hs=>?_,by simp⟩
     ·rcases List.mem_append.1 hs with hs | hs
      ·exact h3 s hs
      ·rw[List.mem_singleton]at hs;subst hs;exact⟨by show(0:Int)≤wOf fr n+m;omega,hm⟩
     ·rcases List.mem_append.1 hs with hs | hs
      ·exact h4 s hs
      ·rw[List.mem_singleton]at hs;subst hs;exact hl n (by simp)
    ·exact⟨h3,h4,Nat.le_succ _⟩
   unfold rollStep
   dsimp only
   by_cases hd:0<wOf fr n-wOf to n
   ·simp only[if_pos hd]
    refine⟨by split<;>omega,hv _ (by split<;>omega)⟩
   ·simp only[if_neg hd]
    exact⟨h2,hv _ (by omega)⟩
  obtain⟨k1,k2,k3,k4⟩:=key
  obtain⟨r1,r2,r3⟩:=ziq hf ht h0 h1 (l:=l) (fun x hx=>hl x (by simp[hx])) k1 k2 k3
  exact⟨r1,r2,by rw[List.length_cons];omega⟩
theorem zkt{fr to:List Shr}{gone whole:Int}(hf:WBd fr)(ht:WBd to)(h0:0<gone)(h1:gone<whole):∀l:List ByteArray,0≤(l.map (upOf fr to gone whole)).sum
 | []=>Int.le_refl 0
 | n::l=>by
  have:=zkt hf ht h0 h1 l
  have:=(zhe hf ht h0 h1 n).1
  rw[List.map_cons,List.sum_cons];omega
theorem zik{fr to:List Shr}(hf:WBd fr)(ht:WBd to)(zf:∀s∈fr,s.1.size≤100)(zt:∀s∈to,s.1.size≤100)(gone whole:Int) :
  WBd (sharesOf fr to gone whole)∧(∀s∈sharesOf fr to gone whole,s.1.size≤100)∧(sharesOf fr to gone whole).length≤fr.length+to.length:=by
 unfold sharesOf
 split
 ·exact⟨ht,zt,by omega⟩
 ·split
  ·exact⟨hf,zf,by omega⟩
  ·rename_i h1 h2
   have:=ziq (gone:=gone) (whole:=whole) hf ht (by omega) (by omega) (l:=namesOf fr to) (st:=(((namesOf fr to).map (upOf fr to gone whole)).sum,[])) (fun x hx=>by
    rcases znp hx with ⟨s,hs,rfl⟩ | ⟨s,hs,rfl⟩
    ·exact zf s hs
    ·exact zt s hs) (zkt hf ht (by omega) (by omega) _) (by intro s hs;cases hs) (by intro s hs;cases hs)
   have hn:=znq fr to
   refine⟨this.1,this.2.1,?_⟩
   have h3:=this.2.2
   simp only[List.length_nil,Nat.zero_add]at h3
   exact Nat.le_trans h3 hn
structure TabI(t:ATab):Prop where
 w:WBd t.sh
 zs:∀s∈t.sh,s.1.size≤100
 zg:∀s∈t.tg,s.1.size≤100∧s.2.1.size≤100
 ls:t.sh.length≤6
 lg:t.tg.length≤6
theorem zie{k:Nat}{m:ARoll}(h:RoI k m)(n:ByteArray){t:ATab}(ht:TabI t){now:Int}(hn:0≤now∧now≤1048576)(whole:Int)(hk:1≤k) :
  WBd (wayOf m n t now whole).fr∧WBd (wayOf m n t now whole).to∧(∀s∈(wayOf m n t now whole).fr,s.1.size≤100)∧(∀s∈(wayOf m n t now whole).to,s.1.size≤100)∧(wayOf m n t now whole).fr.length≤6*k∧(wayOf m n t now whole).to.length≤6∧0≤(wayOf m n t now whole).since∧(wayOf m n t now whole).since≤1048576:=by
 unfold wayOf
 have:=ht.ls
 split
 ·rename_i a ha
  have w:=h n a ha
  split
  ·exact⟨w.fr,w.to,w.zf,w.zt,w.lf,w.lt,w.since.1,w.since.2⟩
  ·exact⟨w.ns,ht.w,w.zn,ht.zs,w.ln,ht.ls,hn.1,hn.2⟩
 ·exact⟨ht.w,ht.w,ht.zs,ht.zs,by dsimp only;omega,ht.ls,hn.1,hn.2⟩
theorem zlK{k:Nat}{m:ARoll}(h:RoI k m)(n:ByteArray){t:ATab}(ht:TabI t){now:Int}(hn:0≤now∧now≤1048576)(whole:Int)(hk:1≤k):RoI (k+1) (roTurn m n t now whole):=by
 intro n' x hx
 unfold roTurn at hx
 rw[z47]at hx
 split at hx
 ·obtain⟨a1,a2,a3,a4,a5,a6,a7,a8⟩:=zie h n ht hn whole hk
  have s:=zik a1 a2 a3 a4 (now-(wayOf m n t now whole).since) whole
  cases hx
  exact⟨a1,a2,s.1,a3,a4,s.2.1,ht.zg,by dsimp only;omega,a6,by have:=s.2.2;dsimp only[nowOf];omega,ht.lg,a7,a8⟩
 ·exact(h n' x hx).mono (Nat.le_succ k)
theorem zno{k:Nat}{m:ARoll}(h:RoI k m)(n:ByteArray){t:ATab}(ht:TabI t){now:Int}(hn:0≤now∧now≤1048576)(whole:Int)(hk:1≤k):WBd (nowOf m n t now whole).sh∧(∀s∈(nowOf m n t now whole).sh,s.1.size≤100)∧(nowOf m n t now whole).sh.length≤6*k+6:=by
 obtain⟨a1,a2,a3,a4,a5,a6,-,-⟩:=zie h n ht hn whole hk
 have s:=zik a1 a2 a3 a4 (now-(wayOf m n t now whole).since) whole
 exact⟨s.1,s.2.1,by have:=s.2.2;dsimp only[nowOf];omega⟩
theorem RoI.del{k:Nat}{m:ARoll}(h:RoI k m)(nd:(m.map (·.1)).Nodup)(n:ByteArray):RoI k (mdel m n):=by
 intro n' x hx
 rw[zfy n n' nd]at hx
 split at hx
 ·cases hx
 ·exact h n' x hx
structure RgI(j:Nat)(ws:MSI)(ts:MSS):Prop where
 lw:ws.length≤j
 lt:ts.length≤j
 zw:∀x∈ws,x.1.size≤100∧0≤x.2∧x.2≤100*j
 zt:∀x∈ts,x.1.size≤100∧x.2.size≤100
theorem zir{k:Nat}{a:ABook}(ok:a.Ok)(h:BkI k a)(cfg:ByteArray):∀{l:List Tgt}{j:Nat}{ws:MSI}{ts:MSS},(∀t∈l,(0≤pct t∧pct t≤100)∧t.2.1.size≤100)→RgI j ws ts→RgI (j+l.length) (resGo a cfg l ws ts).2.1 (resGo a cfg l ws ts).2.2
 | [],_,_,_,_,h=>h
 | t::l,j,ws,ts,hl,hr=>by
  rw[zgE]
  have ht:=hl t (by simp)
  have hz:=zlu ok h cfg t
  have e:j+(t::l).length=(j+1)+l.length:=by rw[List.length_cons];omega
  split
  ·rw[e]
   refine zir ok h cfg (fun x hx=>hl x (by simp[hx])) ⟨?_,?_,fun x hx=>?_,fun x hx=>?_⟩
   ·have:=z4m ws (tgtOf a cfg t).1 ((mget ws (tgtOf a cfg t).1).getD 0+pct t);have:=hr.lw;omega
   ·have:=hr.lt
    split
    ·omega
    ·have:=z4m ts t.2.1 (tgtOf a cfg t).1;omega
   ·rcases z1C hx with rfl | hx
    ·refine⟨hz,?_⟩
     dsimp only
     cases hg:mget ws (tgtOf a cfg t).1 with
     | none=>simp only[Option.getD_none];omega
     | some v=>have:=(hr.zw _ (z3p hg)).2;simp only[Option.getD_some];dsimp only at this;omega
    ·have:=hr.zw x hx
     exact⟨this.1,this.2.1,by omega⟩
   ·split at hx
    ·exact hr.zt x hx
    ·rcases z1C hx with rfl | hx
     ·exact⟨ht.2,hz⟩
     ·exact hr.zt x hx
  ·exact⟨by have:=hr.lw;dsimp only;omega,by have:=hr.lt;dsimp only;omega,fun x hx=>by have:=hr.zw x hx;exact⟨this.1,this.2.1,by rw[e];omega⟩,hr.zt⟩
theorem zkI{m:List (ByteArray×Int)}{s:Shr}(h:s∈ordI m):(s.1,@id Int s.2.1)∈m:=by
 unfold ordI at h
 obtain⟨x,hx,rfl⟩:=List.mem_map.1 h
 have hx:=z7H.1 hx
 cases hg:mget m x with
 | none=>exact absurd hx (z1V.1 hg)
 | some v=>exact z3p hg
theorem zp2{m:List (ByteArray×ByteArray)}{s:Tgo}(h:s∈ordS m):(s.1,s.2.1)∈m:=by
 unfold ordS at h
 obtain⟨x,hx,rfl⟩:=List.mem_map.1 h
 have hx:=z7H.1 hx
 cases hg:mget m x with
 | none=>exact absurd hx (z1V.1 hg)
 | some v=>exact z3p hg
theorem zfr{k:Nat}{a:ABook}(ok:a.Ok)(h:BkI k a){r:ARt}(hl:r.ts.length≤6)(ht:∀t∈r.ts,(0≤pct t∧pct t≤100)∧t.2.1.size≤100):TabI (resolve a r).1:=by
 have hg:=zir ok h r.cfg (l:=r.ts) (j:=0) (ws:=[]) (ts:=[]) ht ⟨Nat.le_refl _,Nat.le_refl _,by simp,by simp⟩
 unfold resolve
 split
 ·refine⟨fun s hs=>?_,fun s hs=>?_,fun s hs=>?_,?_,?_⟩
  ·have:=(hg.zw _ (zkI (List.mem_filter.1 hs).1)).2
   dsimp only at this
   exact⟨this.1,by omega⟩
  ·exact(hg.zw _ (zkI (List.mem_filter.1 hs).1)).1
  ·exact hg.zt _ (zp2 hs)
  ·have h1:=List.length_filter_le posW (ordI (resGo a r.cfg r.ts [] []).2.1)
   have h2:(ordI (resGo a r.cfg r.ts [] []).2.1).length=(resGo a r.cfg r.ts [] []).2.1.length:=by unfold ordI;rw[List.length_map,z2I,List.length_map]
   have:=hg.lw
   dsimp only;omega
  ·have h2:(ordS (resGo a r.cfg r.ts [] []).2.2).length=(resGo a r.cfg r.ts [] []).2.2.length:=by unfold ordS;rw[List.length_map,z2I,List.length_map]
   have:=hg.lt
   dsimp only;omega
 ·exact⟨(by intro s hs;cases hs),(by intro s hs;cases hs),(by intro s hs;cases hs),Nat.zero_le _,Nat.zero_le _⟩
theorem zij{a:ARt}(h:specE a=0):(shortB a.name.data.toList 16=true∧shortB a.cfg.data.toList 16=true)∧(0≤a.roll∧a.roll≤60)∧a.ts.length≤6∧∀t∈a.ts,(0≤pct t∧pct t≤100)∧t.2.1.size≤100:=by
 have hl:=zfm h
 unfold specE at h
 split at h
 ·rename_i h1
  split at h
  ·rename_i h2
   split at h
   ·rename_i h3
    refine⟨h1,h2,hl,fun t ht=>?_⟩
    have h4:tgE t=0:=by
     split at h
     ·rename_i x hx
      have:=List.find?_some hx
      simp only[decide_eq_true_eq]at this
      exact absurd h this
     ·rename_i hx
      have:=List.find?_eq_none.1 hx t ht
      simpa using this
    refine⟨zq6 h4,?_⟩
    unfold tgE at h4
    split at h4
    ·cases h4
    ·rename_i h5
     unfold tagBad at h5
     by_cases e:t.2.1=s_
     ·rw[e];decide
     ·have h6:shortB t.2.1.data.toList 8=true:=by simpa [e]using h5
      unfold shortB at h6
      simp only[Bool.and_eq_true,decide_eq_true_eq]at h6
      have h7:(t.2.1.data.toList.length:Int)≤8:=h6.2
      have h8:t.2.1.data.toList.length=t.2.1.size:=by rw[Array.length_toList];rfl
      omega
   ·cases h
  ·cases h
 ·cases h
theorem zlw{t:ATab}{m:Nat}(hw:WBd t.sh)(zs:∀s∈t.sh,s.1.size≤100)(zg:∀s∈t.tg,s.1.size≤100∧s.2.1.size≤100)(hl:t.sh.length+t.tg.length≤m)(hm:m≤80000):TabB t:=by
 refine⟨fun s hs=>⟨hw s hs,by have:=zs s hs;omega⟩,fun s hs=>by have:=zg s hs;omega,?_⟩
 have h:=zf0 1200 (tabParts t) (fun x hx=>by
  unfold tabParts at hx
  rcases List.mem_append.1 hx with hx | hx
  ·obtain⟨s,hs,rfl⟩:=List.mem_map.1 hx
   have h1:=zs s hs
   have h2:=zfM (@id Int s.2.1).toNat
   have h3:=hw s hs
   have h4:s___b5df.size=1:=rfl
   unfold shT
   rw[ByteArray.size_append,ByteArray.size_append]
   omega
  ·obtain⟨s,hs,rfl⟩:=List.mem_map.1 hx
   have h1:=zg s hs
   have h4:s___b5e2.size=1:=rfl
   unfold toT
   rw[ByteArray.size_append,ByteArray.size_append]
   omega)
 unfold tabText
 have h2:(tabParts t).length=t.sh.length+t.tg.length:=by unfold tabParts;simp
 rw[h2]at h
 have:(t.sh.length+t.tg.length)*(1200+1)≤80000*1201:=Nat.mul_le_mul (by omega) (by omega)
 omega
end Go.Proofs.YtdcdhcgmeahfmaaGreatDoor
namespace Go.Proofs.YtdcdhcgmeahfmaaGreatDoor
open Go.Dm
attribute [local irreducible] L.load L.store L.chk L.new L.nonnil L.guard L.ite L.draw L.idx L.sem L.semR L.semU L.chkSem L.next L.call L.callV L.join L.alts L.loop L.begin L.endRound L.range
variable {w0 w:World}{E:List Seg}
def sysDrop(a:ASys)(e:AEv):ASys×List ByteArray:=
 if(shDrop a.sh e.n e.name e.draw).2≠0 then({ a with sh:=(shDrop a.sh e.n e.name e.draw).1 },refusedB (shDrop a.sh e.n e.name e.draw).2)
 else({ a with sh:=(shDrop a.sh e.n e.name e.draw).1,ro:=if e.n=2 then mdel a.ro e.name else a.ro },[lineB znd [e.name]])
def sysDown(a:ASys)(e:AEv):ASys×List ByteArray:=
 if(fKill a.fl e.n).2.2≠0 then({ a with fl:=(fKill a.fl e.n).1 },refusedB (fKill a.fl e.n).2.2)
 else({ a with fl:=(fKill a.fl e.n).1,gt:=(gLost a.gt (fKill a.fl e.n).2.1).1 },lineB zs2 [decD e.n.toNat]::(gLost a.gt (fKill a.fl e.n).2.1).2.map fateB)
def mn2(a b:Int):Int:=if b<a then b else a
def mx2(a b:Int):Int:=if b>a then b else a
def scNeed(s n c:Int):Int:=if n≤0 then 0 else if c≤0 then 0 else(s+n*c-1)/(n*c)
theorem zgB{s n c:Int}(hs:0≤s∧s≤1000000000000)(hn:0≤n∧n≤100)(hc:0≤c∧c≤100):0≤scNeed s n c∧scNeed s n c≤1000000000000:=by
 unfold scNeed
 split
 ·exact⟨by decide,by decide⟩
 ·split
  ·exact⟨by decide,by decide⟩
  ·have h1:1≤n*c:=by have:=Int.mul_le_mul (show(1:Int)≤n by omega) (show(1:Int)≤c by omega) (by omega) (by omega);omega
   have h2:n*c≤100*100:=Int.mul_le_mul hn.2 hc.2 (by omega) (by omega)
   generalize n*c=m at *
   refine⟨Int.ediv_nonneg (by omega) (by omega),Int.ediv_le_of_le_mul (by omega) ?_⟩
   have:=Int.mul_le_mul_of_nonneg_left h1 (show(0:Int)≤1000000000000 by decide)
   omega
theorem zcQ{s n c:Int}(hs:0≤s∧s≤1000000000000)(hn:0≤n∧n≤100)(hc:0≤c∧c≤100){k:Int→PT}(hk:k (scNeed s n c) w):L.call Pr z4A [I s,I n,I c] (.one (.one (.int .i64))) k w:=by
 refine z00 (zjy s n c) ?_
 unfold zei
 unfold scNeed at hk
 refine it (fun h1=>?_) (fun h1=>?_)<;>(try simp only[zB]at h1)
 ·rw[if_pos h1]at hk;exact⟨_,rfl,hk⟩
 ·rw[if_neg h1]at hk
  refine it (fun h2=>?_) (fun h2=>?_)<;>(try simp only[zB]at h2)
  ·rw[if_pos h2]at hk;exact⟨_,rfl,hk⟩
  ·rw[if_neg h2]at hk
   have h3:1≤n*c:=by have:=Int.mul_le_mul (show(1:Int)≤n by omega) (show(1:Int)≤c by omega) (by omega) (by omega);omega
   have h4:n*c≤100*100:=Int.mul_le_mul hn.2 hc.2 (by omega) (by omega)
   have e1:IntKind.wrap .i64 (n*c)=n*c:=wr (by omega) (by omega)
   rw[e1]
   generalize n*c=m at *
   have e2:IntKind.wrap .i64 (s+m)=s+m:=wr (by omega) (by omega)
   have e3:IntKind.wrap .i64 (s+m-1)=s+m-1:=wr (by omega) (by omega)
   rw[e2,e3]
   refine gd (by omega) ⟨_,rfl,?_⟩
   have e4:Int.tdiv (s+m-1) m=(s+m-1)/m:=Int.tdiv_eq_ediv_of_nonneg (by omega)
   have e5:(s+m-1)/m≤2000000000000:=Int.ediv_le_of_le_mul (by omega) (by
    have:=Int.mul_le_mul_of_nonneg_left h3 (show(0:Int)≤2000000000000 by decide)
    omega)
   have e6:0≤(s+m-1)/m:=Int.ediv_nonneg (by omega) (by omega)
   rw[e4,wr (by omega) (by omega)]
   exact hk
abbrev scM(ready:Int):Int:=if ready>1 then ready else 1
def scLeft(left b m:Int):Int:=if b≥2*m then 6 else if 0>left-1 then 0 else left-1
def scW1(want left' a b:Int):Int:=if left'>0 then mx2 (mx2 want a) b else a
def scW2(w1 want busy idle grace:Int):Int:=if w1=0∧(busy>0∨(want>0∧idle<grace))then 1 else w1
def scEnd(w2 ready mi ma:Int):Int:=mn2 (mx2 (mx2 (mn2 w2 (4*scM ready)) (ready/2)) mi) ma
def scDec(want left:Int)(c:Cfg)(ready busy st sts sh shs idle:Int):Int×Int:=
 (scEnd (scW2 (scW1 want (scLeft left (scNeed sh shs c.2.2.1) (scM ready)) (scNeed st sts c.2.2.1) (scNeed sh shs c.2.2.1)) want busy idle c.2.2.2.2.2.1) ready c.2.2.2.1 c.2.2.2.2.1,scLeft left (scNeed sh shs c.2.2.1) (scM ready))
theorem zjd(h:St w0 E w){want left b m:Int}(hl:0≤left∧left≤1000)(hm:0≤m∧m≤1000000){k:Int→PT}(hk:∀w',St w0 E w'→k (scLeft left b m) w'):L.call Pr z3n [.agg #[I want,I left],I b,I m] (.one (.one (.int .i64))) k w:=by
 refine z00 (zb1 (want,left,()) b m) ?_
 unfold z6V
 unfold scLeft at hk
 have e1:IntKind.wrap .i64 (2*m)=2*m:=wr (by omega) (by omega)
 have e2:IntKind.wrap .i64 (left-1)=left-1:=wr (by omega) (by omega)
 dsimp only
 rw[e1]
 refine nw h ?_;clear h;(try clear w);intro b1 w h
 refine it (fun h1=>?_) (fun h1=>?_)<;>(try simp only[zB]at h1)
 ·rw[if_pos h1]at hk;exact⟨_,rfl,hk w (dl0_ h)⟩
 ·rw[if_neg h1]at hk
  (refine ldC h ?_)
  rw[e2]
  exact⟨_,rfl,hk w (dl0_ h)⟩
theorem zpQ(h:St w0 E w){want left a b:Int}{k:Int→PT}(hk:∀w',St w0 E w'→k (mx2 (mx2 want a) b) w'):L.call Pr z63 [.agg #[I want,I left],.agg #[I a,I b]] (.one (.one (.int .i64))) k w:=by
 refine z00 (zde (want,left,()) (a,b,())) ?_
 unfold z8H
 refine nw h ?_;clear h;(try clear w);intro b1 w h
 refine nw h ?_;clear h;(try clear w);intro b2 w h
 (dsimp only[setN,List.cons_append,List.nil_append]at h;refine ldC h ?_)
 refine ix (by decide) (by decide) ?_
 (refine ldC h ?_)
 refine ix (by decide) (by decide) ?_
 (refine ldC h ?_)
 exact⟨_,rfl,hk w (dl0_ (dl0_ h))⟩
theorem zmm(h:St w0 E w){c:Cfg}{ready m:Int}(hr:0≤ready∧ready≤1000000)(hm:0≤m∧m≤1000000){k:HT [.int .i64,.int .i64,.int .i64,.int .i64]→PT}(hk:∀w',St w0 E w'→k (4*m,ready/2,c.2.2.2.1,c.2.2.2.2.1,()) w') :
  L.call Pr z8U [.agg (Cfg.cells c).toArray,I ready,I m] (.one (.agg [.int .i64,.int .i64,.int .i64,.int .i64])) k w:=by
 refine z00 (zgm c ready m) ?_
 unfold zbD
 have e1:IntKind.wrap .i64 (4*m)=4*m:=wr (by omega) (by omega)
 have e2:Int.tdiv ready 2=ready/2:=Int.tdiv_eq_ediv_of_nonneg hr.1
 have e3:IntKind.wrap .i64 (ready/2)=ready/2:=wr (by omega) (by omega)
 rw[e1,e2,e3]
 refine nw h ?_;clear h;(try clear w);intro b1 w h
 refine nw h ?_;clear h;(try clear w);intro b2 w h
 refine gd (by decide) ?_
 (refine ldC h ?_;refine ldC h ?_;refine stC h ?_;clear h;(try clear w);intro w h;dsimp only[putN,setN]at h;refine laC h ?_)
 exact⟨(4*m,ready/2,c.2.2.2.1,c.2.2.2.2.1,()),rfl,hk w (dl0_ (dl0_ h))⟩
abbrev cfgB(b:Nat)(c:Cfg):Seg:=[Cl b z05 (Cfg.cells c)]
theorem zml(h:St w0 E w){want left:Int}{c:Cfg}{ready busy st sts sh shs idle:Int}(hw:0≤want∧want≤1000)(hl:0≤left∧left≤1000)(hc:0≤@id Int c.2.2.1∧@id Int c.2.2.1≤100)(hr:0≤ready∧ready≤1000000)
  (h1:0≤st∧st≤1000000000000) (h2:0≤sts∧sts≤100) (h3:0≤sh∧sh≤1000000000000) (h4:0≤shs∧shs≤100) {k:HT [.int .i64,.int .i64]→PT} (hk:∀w',St w0 E w'→k ((scDec want left c ready busy st sts sh shs idle).1,(scDec want left c ready busy st sts sh shs idle).2,()) w') :
  L.call Pr z8V [.agg #[I want,I left],.agg (Cfg.cells c).toArray,I ready,I busy,I st,I sts,I sh,I shs,I idle] (.one (.agg [.int .i64,.int .i64])) k w:=by
 refine z00 (zgn (want,left,()) c ready busy st sts sh shs idle) ?_
 unfold zbE
 have hm:0≤scM ready∧scM ready≤1000000:=by unfold scM;split<;>omega
 obtain⟨c1,c2,c3,c4,c5,c6,⟨⟩⟩:=c
 unfold scDec at hk
 have ea:=zgB h1 h2 hc
 have eb:=zgB h3 h4 hc
 change 0≤scNeed st sts c3∧scNeed st sts c3≤1000000000000 at ea
 change 0≤scNeed sh shs c3∧scNeed sh shs c3≤1000000000000 at eb
 change 0≤c3∧c3≤100 at hc
 dsimp only at hk ⊢
 change ∀w',St w0 E w'→k (scEnd (scW2 (scW1 want (scLeft left (scNeed sh shs c3) (scM ready)) (scNeed st sts c3) (scNeed sh shs c3)) want busy idle c6) ready c4 c5,scLeft left (scNeed sh shs c3) (scM ready),()) w' at hk
 refine nw h ?_;clear h;(try clear w);intro b1 w h
 refine nw h ?_;clear h;(try clear w);intro b2 w h
 refine nw h ?_;clear h;(try clear w);intro b3 w h
 refine z18 (fun(z:Addr×Unit) w=>∃b,z=(⟨b,0,none⟩,())∧St w0 ([Cl b zaF [I (scNeed st sts c3),I (scNeed sh shs c3)]]::[Cl b3 z0X [I 0,I 0]]::cfgB b2 (c1,c2,c3,c4,c5,c6,())::[Cl b1 z0X [I want,I left]]::E) w) (fun k4 hk4=>?_) ?_
 ·(refine dr h ?_;clear h;(try clear w);intro w h;refine ldC h ?_;refine ldC h ?_)
  refine alts2 ?_ ?_
  ·refine zcQ h1 h2 hc ?_
   (refine ckC h ?_)
   refine alts2 ?_ ?_
   ·refine zcQ h3 h4 hc ?_
    refine nw h ?_;clear h;(try clear w);intro b w h
    (refine ckC h ?_;refine ckC h ?_;refine stC h ?_;clear h;(try clear w);intro w h;dsimp only[putN,setN]at h)
    exact hk4 _ w ⟨b,rfl,h⟩
   ·refine nw h ?_;clear h;(try clear w);intro b w h
    (refine ckC h ?_;refine ckC h ?_)
    refine zcQ h3 h4 hc ?_
    (refine stC h ?_;clear h;(try clear w);intro w h;dsimp only[putN,setN]at h)
    exact hk4 _ w ⟨b,rfl,h⟩
  ·refine nw h ?_;clear h;(try clear w);intro b w h
   (refine ckC h ?_;refine ckC h ?_)
   refine zcQ h1 h2 hc ?_
   (refine ckC h ?_)
   refine zcQ h3 h4 hc ?_
   (refine stC h ?_;clear h;(try clear w);intro w h;dsimp only[putN,setN]at h)
   exact hk4 _ w ⟨b,rfl,h⟩
 generalize scNeed st sts c3=A at *
 generalize scNeed sh shs c3=B at *
 clear h;(try clear w)
 rintro z w ⟨b4,rfl,h⟩
 (try dsimp only)
 refine z18 (fun(z:Addr×Unit) w=>∃b,z=(⟨b,0,none⟩,())∧St w0 ([Cl b z0X [I A,I (scLeft left B (scM ready))]]::[Cl b4 zaF [I A,I B]]::[Cl b3 z0X [I 0,I 0]]::cfgB b2 (c1,c2,c3,c4,c5,c6,())::[Cl b1 z0X [I want,I left]]::E) w) (fun k4 hk4=>?_) ?_
 ·(refine dr h ?_;clear h;(try clear w);intro w h)
  refine ix (by decide) (by decide) ?_
  (refine ldC h ?_;refine laC h ?_)
  refine ix (by decide) (by decide) ?_
  (refine ldC h ?_)
  refine alts2 ?_ ?_
  ·refine zjd h hl hm fun w h=>?_
   (refine ckC h ?_)
   refine nw h ?_;clear h;(try clear w);intro b w h
   (refine ckC h ?_;refine ckC h ?_;refine ckC h ?_;refine stC h ?_;clear h;(try clear w);intro w h;dsimp only[putN,setN]at h)
   exact hk4 _ w ⟨b,rfl,h⟩
  ·refine nw h ?_;clear h;(try clear w);intro b w h
   (refine ckC h ?_;refine ckC h ?_;refine ckC h ?_)
   refine zjd h hl hm fun w h=>?_
   (refine ckC h ?_;refine stC h ?_;clear h;(try clear w);intro w h;dsimp only[putN,setN]at h)
   exact hk4 _ w ⟨b,rfl,h⟩
 generalize scLeft left B (scM ready)=L1 at *
 clear h;(try clear w)
 rintro z w ⟨b5,rfl,h⟩
 (try dsimp only)
 refine z18 (fun(_:Unit) w=>St w0 ([Cl b5 z0X [I (scW1 want L1 A B),I L1]]::[Cl b4 zaF [I A,I B]]::[Cl b3 z0X [I 0,I 0]]::cfgB b2 (c1,c2,c3,c4,c5,c6,())::[Cl b1 z0X [I want,I left]]::E) w) (fun k4 hk4=>?_) ?_
 ·(refine ldC h ?_)
  unfold scW1 at hk4
  refine it (fun hc1=>?_) (fun hc1=>?_)<;>(try simp only[zB]at hc1)
  ·rw[if_pos hc1]at hk4
   (refine laC h ?_;refine laC h ?_)
   refine zpQ h fun w h=>?_
   (refine stC h ?_;clear h;(try clear w);intro w h;dsimp only[putN,setN]at h)
   exact hk4 _ w h
  ·rw[if_neg hc1]at hk4
   exact hk4 _ w h
 generalize scW1 want L1 A B=W1 at *
 clear h;(try clear w)
 rintro _ w h
 (try dsimp only)
 refine z18 (fun(_:Unit) w=>St w0 ([Cl b5 z0X [I (scW2 W1 want busy idle c6),I L1]]::[Cl b4 zaF [I A,I B]]::[Cl b3 z0X [I 0,I 0]]::cfgB b2 (c1,c2,c3,c4,c5,c6,())::[Cl b1 z0X [I want,I left]]::E) w) (fun k4 hk4=>?_) ?_
 ·(refine ldC h ?_)
  unfold scW2 at hk4
  refine it (fun d1=>?_) (fun d1=>?_)<;>(try simp only[zB]at d1)
  ·subst d1
   refine it (fun d2=>?_) (fun d2=>?_)<;>(try simp only[zB]at d2)
   ·rw[if_pos ⟨rfl,.inl d2⟩]at hk4
    (refine stC h ?_;clear h;(try clear w);intro w h;dsimp only[putN,setN]at h)
    exact hk4 _ w h
   ·(refine ldC h ?_)
    refine it (fun d3=>?_) (fun d3=>?_)<;>(try simp only[zB]at d3)
    ·(refine ldC h ?_)
     refine it (fun d4=>?_) (fun d4=>?_)<;>(try simp only[zB]at d4)
     ·rw[if_pos ⟨rfl,.inr ⟨d3,d4⟩⟩]at hk4
      (refine stC h ?_;clear h;(try clear w);intro w h;dsimp only[putN,setN]at h)
      exact hk4 _ w h
     ·rw[if_neg (by omega)]at hk4
      exact hk4 _ w h
    ·rw[if_neg (by omega)]at hk4
     exact hk4 _ w h
  ·rw[if_neg (fun hh=>d1 hh.1)]at hk4
   exact hk4 _ w h
 generalize scW2 W1 want busy idle c6=W2 at *
 clear h;(try clear w)
 rintro _ w h
 (try dsimp only)
 (refine laC h ?_)
 refine zmm (c:=(c1,c2,c3,c4,c5,c6,())) h hr hm fun w h=>?_
 refine nw h ?_;clear h;(try clear w);intro b40 w h
 (refine stC h ?_;clear h;(try clear w);intro w h;dsimp only[putN,setN]at h;refine ldC h ?_)
 refine ix (by decide) (by decide) ?_
 (refine ldC h ?_)
 refine ix (by decide) (by decide) ?_
 (refine ldC h ?_)
 refine ix (by decide) (by decide) ?_
 (refine ldC h ?_)
 refine ix (by decide) (by decide) ?_
 (refine ldC h ?_;refine stC h ?_;clear h;(try clear w);intro w h;dsimp only[putN,setN]at h;refine laC h ?_;refine stC h ?_;clear h;(try clear w);intro w h;dsimp only[putN,setN]at h;refine laC h ?_)
 exact⟨(_,_,()),rfl,hk w (dl0_ (dl0_ (dl0_ (dl0_ (dl0_ (dl0_ h))))))⟩
theorem zkX{m:Int}:∀{l:List Int},(∀y∈l,0≤y∧y≤m)→0≤isum l∧isum l≤l.length*m
 | [],_=>⟨Int.le_refl 0,by simp[isum]⟩
 | x::l,h=>by
  have a:=zkX (l:=l) fun y hy=>h y (by simp[hy])
  have b:=h x (by simp)
  unfold isum
  have e:((x::l).length:Int)*m=l.length*m+m:=by rw[List.length_cons,Int.natCast_add,Int.add_mul];simp
  rw[e]
  omega
theorem ziH{xs:List Int}(h:∀y∈xs,0≤y∧y≤100000000){m:Nat}(hm:m≤60):0≤lastS xs m∧lastS xs m≤6000000000:=by
 have a:=zkX (m:=100000000) (l:=xs.reverse.take m) fun y hy=>h y (by have:=List.mem_of_mem_take hy;simpa using this)
 have b:(xs.reverse.take m).length≤m:=by rw[List.length_take];omega
 unfold lastS
 omega
theorem zeZ(xs:List Int)(p:Int):lastN xs p≤60:=by unfold lastN;omega
def scOf(a:ASys)(x:ABes)(rev:ByteArray):Int×Int:=
 scDec x.want x.left (bkGet a.bk rev).2.2 (cnt (fun s=>s == 2) (fPods a.fl.l rev)) (busyB a.gt rev) (lastS x.xs (lastN x.xs 6)) (lastN x.xs 6) (lastS x.xs (lastN x.xs 2)) (lastN x.xs 2) (tz x.xs)
def sysScale(a:ASys)(e:AEv):ASys×List ByteArray:=
 if bkHas a.bk e.name=false then(a,refusedB 6)else match mget a.by' e.name with
 | none=>(a,[])
 | some x=>({ a with by':=mset a.by' e.name ⟨x.xs,(scOf a x e.name).1,(scOf a x e.name).2⟩ },[lineB (lineB s_scale [e.name]) [decD (scOf a x e.name).1.toNat]])
theorem zmi [bTab w0](h:St w0 E w)(i:Nat){b:Nat}{a:ASys}{s:Seg}(hi:nth E i=some s)(hs:SysS b a s){e:AEv}(hname:e.name.size≤100000)(hby:bkHas a.bk e.name=true→(mget a.by' e.name).isSome=true)
  (hx:∀x,mget a.by' e.name=some x→((0≤x.want∧x.want≤1000)∧(0≤x.left∧x.left≤1000)∧(∀y∈x.xs,0≤y∧y≤100000000)∧x.xs.length<1000000000)∧0≤(scOf a x e.name).1∧(scOf a x e.name).1≤1000)
  (hc:bkHas a.bk e.name=true→0≤@id Int (bkGet a.bk e.name).2.2.2.2.1∧@id Int (bkGet a.bk e.name).2.2.2.2.1≤100) (hpn:(fPods a.fl.l e.name).length<1000000) {k:Sl→PT} (hk:Hk w0 E i b (sysScale a e) k) :
  z4G (some ⟨b,0,none⟩) e.t (slK k) w:=by
 have hs0:=hs
 obtain⟨p,sg,sf,ss,sk,sr,sm,Q,R,rfl⟩:=hs
 unfold z4G
 unfold sysScale at hk
 have h:=(h.front i hi).split8
 refine nw h ?_;clear h;(try clear w);intro b1 w h
 refine z18 (fun(z:Addr×Bool×Unit) w=>∃b8:Nat,z=(⟨b8,0,none⟩,bkHas a.bk e.name,())∧
  St w0 ([Cl b8 z0j (rvC (bkGet a.bk e.name))]::[Cl b1 z0w (eEw e)]::sysC b p a.now::sg::sf::ss::sk::sr::sm::(Q.map BsE.sg).flatten::delN E i) w) (fun k2 hk2=>?_) ?_
 ·(dsimp only[setN,List.cons_append,List.nil_append]at h;refine dr h ?_;clear h;(try clear w);intro w h;refine nn ?_;refine ldC h ?_;refine ldC h ?_)
  refine alts2 ?_ ?_
  ·refine zc2 h 5 rfl R.bk fun w h=>?_
   refine nw h ?_;clear h;(try clear w);intro b8 w h
   (refine ckC h ?_;refine ckC h ?_;refine stC h ?_;clear h;(try clear w);intro w h;dsimp only[putN,setN]at h)
   exact hk2 _ w ⟨b8,rfl,h⟩
  ·refine nw h ?_;clear h;(try clear w);intro b8 w h
   (refine ckC h ?_;refine ckC h ?_)
   refine zc2 h 6 rfl R.bk fun w h=>?_
   (refine stC h ?_;clear h;(try clear w);intro w h;dsimp only[putN,setN]at h)
   exact hk2 _ w ⟨b8,rfl,h⟩
 clear h;(try clear w)
 rintro z w ⟨b8,rfl,h⟩
 (try dsimp only)
 refine it (fun hc1=>?_) (fun hc1=>?_)
 ·have hc1:bkHas a.bk e.name=false:=by simpa using hc1
  rw[if_pos hc1]at hk
  refine z5p h fun v s w r h=>?_
  exact⟨v,rfl,hk v s _ w r hs0 (sysBack i hi (dl1_ (dl1_ h)))⟩
 have hc1:bkHas a.bk e.name=true:=by simpa using hc1
 rw[if_neg (by simp[hc1])]at hk
 obtain⟨x,hgx⟩:=Option.isSome_iff_exists.1 (hby hc1)
 obtain⟨⟨hw,hl,hy,hln⟩,hd⟩:=hx x hgx
 have hc:=hc hc1
 rw[hgx]at hk
 dsimp only at hk
 clear hby hx
 have hqx:∃q,lfind BsE.k Q e.name=some q∧q.x=x:=by
  rw[R.ab,zfQ]at hgx
  cases hf:lfind BsE.k Q e.name with
  | none=>rw[hf]at hgx;cases hgx
  | some q=>rw[hf]at hgx;exact⟨q,rfl,by simpa using hgx⟩
 obtain⟨q,hfx,rfl⟩:=hqx
 have hmk:=R.mp.nd
 (refine dr h ?_;clear h;(try clear w);intro w h;refine nn ?_;refine ldC h ?_;refine ldC h ?_)
 have hlk:((mget (Q.map BsE.kp) e.name).map fun x:Option Addr=>x).getD none=some ⟨q.b,0,none⟩:=by rw[zfP,hfx];rfl
 refine MpS.get mkStr zgx zptr (fun x:Option Addr=>x) (fun _=>rfl) h 8 rfl R.mp ?_
 rw[hlk]
 have ea:=R.ea
 have hab:=R.ab
 have hmp:=R.mp
 obtain⟨A,B,eQ,hxk⟩:=z9B hfx
 (refine ldC h ?_)
 refine zh1 h (i:=2) (j:=4) rfl rfl R.fl (fv:=⟨.func z2P,#[],#[]⟩) (q:=fun s=>s == 2) hpn (fun{E' w x k} h hk=>?_) fun w h=>?_
 ·refine z4n (fs:=#[]) (cs:=#[]) z9I (z9K x) ?_
  unfold z6f
  exact⟨_,rfl,hk w h⟩
 have hcn:0≤cnt (fun s=>s == 2) (fPods a.fl.l e.name)∧cnt (fun s=>s == 2) (fPods a.fl.l e.name)≤1000000:=by
  unfold cnt
  have:=List.length_filter_le (fun x:Int×Int×Int=>(fun s=>s == 2) x.2.1) (fPods a.fl.l e.name)
  refine⟨Int.natCast_nonneg _,?_⟩
  have h2:((fPods a.fl.l e.name).filter fun x:Int×Int×Int=>(fun s=>s == 2) x.2.1).length≤1000000:=by omega
  exact Int.ofNat_le.2 h2
 have hdd:(scOf a q.x e.name)=scDec q.x.want q.x.left (bkGet a.bk e.name).2.2 (cnt (fun s=>s == 2) (fPods a.fl.l e.name)) (busyB a.gt e.name) (lastS q.x.xs (lastN q.x.xs 6)) (lastN q.x.xs 6) (lastS q.x.xs (lastN q.x.xs 2)) (lastN q.x.xs 2) (tz q.x.xs):=rfl
 subst eQ
 have h:=fr9_ h
 have h:=h.pick.split
 have hox:=ea q (by simp)
 have hr6:=ziH hy (zeZ q.x.xs 6)
 have hr2:=ziH hy (zeZ q.x.xs 2)
 have hn6:=zeZ q.x.xs 6
 have hn2:=zeZ q.x.xs 2
 (refine nn ?_;refine ldC h ?_)
 refine zll h 1 rfl hox (by omega) fun w h=>?_
 rw[wr (by omega) (by omega)]
 (refine nn ?_;refine ldC h ?_)
 refine zll h 1 rfl hox (by omega) fun w h=>?_
 rw[wr (by omega) (by omega)]
 (refine dr h ?_;clear h;(try clear w);intro w h;refine nn ?_;refine laC h ?_;refine laC h ?_;refine nn ?_;refine ldC h ?_;refine ldC h ?_;refine nn ?_;refine ldC h ?_)
 have h:=fr6_ h
 refine zom h R.gt fun sg' w hG h=>?_
 (refine ckC h ?_;refine ckC h ?_;refine ckC h ?_)
 refine zpV h 2 rfl hox ?_
 (refine ckC h ?_;refine ckC h ?_)
 have hbu:((gWait a.gt e.name).length:Int)+(gWith a.gt.all e.name).length=busyB a.gt e.name:=rfl
 rw[hbu]
 refine zml (c:=(bkGet a.bk e.name).2.2) h hw hl hc hcn (by dsimp only;omega) (by dsimp only;omega) (by dsimp only;omega) (by dsimp only;omega) fun w h=>?_
 rw[←hdd]
 clear hdd
 generalize scOf a q.x e.name=d at *
 obtain⟨d1,d2⟩:=d
 dsimp only at hd hk ⊢
 (refine nn ?_;refine stC h ?_;clear h;(try clear w);intro w h;dsimp only[putN,setN]at h)
 refine z18 (fun(z:Sl×Unit) w=>∃sv,Rw eS z01 1 z.1 [lineB (lineB s_scale [e.name]) [decD d1.toNat]] sv∧
  St w0 (sv::[Cl q.b z4E [.pointer (some ⟨q.g,0,none⟩),I d1,I d2]]::q.sgg::((A++B).map BsE.sg).flatten::sysC b p a.now::sg'::sf::ss::sk::sr::sm::delN E i) w) (fun k7 hk7=>?_) ?_
 ·have fin:∀{w b2},St w0 ([Cl b2 z01 [.string (lineB (lineB s_scale [e.name]) [decD d1.toNat])]]::sg'::[Cl q.b z4E [.pointer (some ⟨q.g,0,none⟩),I d1,I d2]]::q.sgg::((A++B).map BsE.sg).flatten::[Cl b8 z0j (rvC (bkGet a.bk e.name))]::[Cl b1 z0w (eEw e)]::sysC b p a.now::sf::ss::sk::sr::sm::delN E i) w→k7 (⟨some ⟨b2,0,none⟩,1,1⟩,()) w:=by
   intro w b2 h
   refine hk7 _ w ⟨_,Rw.lit b2 [_] encS rfl rfl (by simp[maxLen]),?_⟩
   have h:=dl5_ (dl6_ h)
   have h:=fr5_ (fr5_ (fr5_ (fr5_ (fr5_ (fr1_ h)))))
   exact h
  have sz:(lineB s_scale [e.name]).size≤100000000:=by rw[z7Q];have:s_scale.size=5:=rfl;omega
  (refine dr h ?_;clear h;(try clear w);intro w h;refine ldC h ?_;refine nn ?_;refine ldC h ?_;rw[z3T])
  refine alts2 ?_ ?_
  ·refine nw h ?_;clear h;(try clear w);intro b41 w h
   (refine ckC h ?_)
   refine alts2 ?_ ?_
   ·refine lineS1 h (by decide) (by omega) fun w h=>?_
    (refine ckC h ?_)
    refine nw h ?_;clear h;(try clear w);intro b43 w h
    (refine ckC h ?_)
    refine lineI1 h sz hd.1 (by omega) fun w h=>?_
    refine nw h ?_;clear h;(try clear w);intro b45 w h
    exact fin h
   ·refine nw h ?_;clear h;(try clear w);intro b46 w h
    (refine ckC h ?_)
    have h:=fr1_ h
    refine lineS1 h (by decide) (by omega) fun w h=>?_
    (refine ckC h ?_)
    refine lineI1 h sz hd.1 (by omega) fun w h=>?_
    refine nw h ?_;clear h;(try clear w);intro b49 w h
    exact fin h
  ·refine nw h ?_;clear h;(try clear w);intro b50 w h
   (refine ckC h ?_)
   refine nw h ?_;clear h;(try clear w);intro b51 w h
   (refine ckC h ?_)
   refine lineS1 h (by decide) (by omega) fun w h=>?_
   (refine ckC h ?_)
   refine lineI1 h sz hd.1 (by omega) fun w h=>?_
   refine nw h ?_;clear h;(try clear w);intro b54 w h
   exact fin h
 clear h;(try clear w)
 rintro⟨z,⟨⟩⟩ w ⟨sv,r,h⟩
 dsimp only at r ⊢
 have et2:=zf4 (rev:=e.name) (y:=⟨q.x.xs,d1,d2⟩) (sgg:=q.sgg) hxk (B:=B) (A:=A) (by simpa [List.map_map,Function.comp_def]using hmk)
 refine⟨z,rfl,hk z sv (sys8 b { a with by':=mset a.by' e.name ⟨q.x.xs,d1,d2⟩ } p sg' sf ss sk sr sm (A++⟨q.k,q.b,q.g,⟨q.x.xs,d1,d2⟩,q.sgg⟩::B)) w r ⟨p,sg',sf,ss,sk,sr,sm,A++⟨q.k,q.b,q.g,⟨q.x.xs,d1,d2⟩,q.sgg⟩::B,⟨hG,R.fl,R.sh,R.bk,R.ro,?_,?_,?_⟩,rfl⟩ (sysBack i hi ?_)⟩
 ·have:(A++(⟨q.k,q.b,q.g,⟨q.x.xs,d1,d2⟩,q.sgg⟩:BsE)::B).map BsE.kp=(A++q::B).map BsE.kp:=by simp
  rw[this];exact hmp
 ·intro y hy
  rcases List.mem_append.1 hy with hy | hy
  ·exact ea y (by simp[hy])
  ·rcases List.mem_cons.1 hy with rfl | hy
   ·exact hox
   ·exact ea y (by simp[hy])
 ·rw[et2]
  show mset a.by' e.name _=_
  rw[hab]
 ·have h:=fr2_ (fr2_ h)
  have h:=h.glue
  have h:=fr1_ (fr2_ h)
  have h:St w0 (BsE.sg ⟨q.k,q.b,q.g,⟨q.x.xs,d1,d2⟩,q.sgg⟩::((A++B).map BsE.sg).flatten::sv::sysC b p a.now::sg'::sf::ss::sk::sr::sm::delN E i) w:=h
  have h:=h.place
  have h:=fr8_ (fr8_ (fr8_ (fr8_ (fr8_ (fr8_ (fr8_ (fr8_ h)))))))
  exact h
end Go.Proofs.YtdcdhcgmeahfmaaGreatDoor
namespace Go.Proofs.YtdcdhcgmeahfmaaGreatDoor
open Go.Dm
structure SInv(k:Nat)(a:ASys):Prop where
 fl:FlI k a.fl
 gt:GtI k a.gt
 sh:ShI k a.sh
 bk:BkI k a.bk
 ro:RoI k a.ro
 by':ByI k a.bk a.by'
 now:0≤a.now∧a.now≤1048576
structure SOk(a:ASys):Prop where
 fl:a.fl.Ok
 gt:a.gt.Ok
 sh:a.sh.Ok
 bk:a.bk.Ok
 ro:(a.ro.map (·.1)).Nodup
 nd:(a.bk.all.map (·.1)).Nodup
theorem SysS.ok{b:Nat}{a:ASys}{s:Seg}(h:SysS b a s):SOk a:=by
 obtain⟨p,sg,sf,ss,sk,sr,sm,Q,R,-⟩:=h
 refine⟨R.fl.1,R.gt.1,R.sh.1,R.bk.1,?_,?_⟩
 ·obtain⟨r,sm,P,Q,hm,-,e,-⟩:=R.ro
  rw[e]
  have:=hm.nd
  simpa [List.map_map,Function.comp_def]using this
 ·obtain⟨-,rA,rP,sA,sP,hA,-⟩:=R.bk
  exact hA.nd
theorem SInv.mono{k m:Nat}{a:ASys}(h:SInv k a)(hm:k≤m):SInv m a:=⟨h.fl.mono hm,h.gt.mono hm,h.sh.mono hm,h.bk.mono hm,fun n x hx=>(h.ro n x hx).mono hm,h.by'.mono hm,h.now⟩
theorem zqU{room line pat:Int}(h:newOk room line pat=true)(hr:room≤30):SInv 0 (newSys room line pat):=by
 unfold newOk wiB at h
 simp only[Bool.and_eq_true,decide_eq_true_eq]at h
 obtain⟨⟨r1,r2⟩,⟨l1,l2⟩,p1,p2⟩:=h
 refine⟨⟨⟨hr,?_,?_⟩,r1,Int.le_refl 0,?_,?_⟩,⟨Nat.le_refl _,?_,Nat.le_refl _,?_,?_,⟨p1,by show pat≤1000;omega⟩,l1,l2⟩,⟨Int.le_refl 0,?_,?_,?_⟩,⟨Nat.le_refl _,?_,?_⟩,?_,⟨?_,?_,?_,?_⟩,Int.le_refl 0,by show(0:Int)≤1048576;decide⟩
 ·show((0:Nat):Int)≤max room 0;omega
 all_goals first | (intro x hx;cases hx;done) | skip
 intro n x h;cases h
def sysDo(a:ASys)(e:AEv):ASys×List ByteArray:=
 if chkEv e≠0 then(a,[lineB zne [errB (chkEv e)]])
 else if e.kind=1 then sysConfig a e else if e.kind=2 then sysRoute a e else if e.kind=3 then sysDrop a e else if e.kind=4 then sysArrive a e else if e.kind=5 then sysDone a e else if e.kind=6 then sysUp a e
 else if e.kind=9 then sysTick a else if e.kind=10 then sysStamp a e else if e.kind=11 then sysLead a e else if e.kind=12 then sysScale a e else if e.kind=13 then sysPods a e else sysDown a e
theorem zlc{e:AEv}(h:chkEv e=0):(shp e.kind).2=true∧chkS (shp e.kind).1 e=0:=by
 unfold chkEv at h
 split at h
 ·cases h
 ·rename_i h1;exact⟨by simpa using h1,h⟩
theorem zaC{e:AEv}(h:chkEv e=0):((shp e.kind).1.1=true→numE e=true)∧((shp e.kind).1.2.1=true→namedE e=true)∧((shp e.kind).1.2.2.2.1=true→wiB e.draw 0 2147483647=true)∧((shp e.kind).1.2.2.2.2.1=true→specC e.c=0)∧((shp e.kind).1.2.2.2.2.2.1=true→(shp e.kind).1.2.2.2.2.1=false→specE e.r=0):=by
 have h:=(zlc h).2
 generalize (shp e.kind).1=s at h ⊢
 obtain⟨s1,s2,s3,s4,s5,s6,⟨⟩⟩:=s
 unfold chkS at h
 dsimp only at h ⊢
 split at h
 ·cases h
 ·split at h
  ·cases h
  ·rename_i h1
   split at h
   ·cases h
   ·rename_i h2
    split at h
    ·cases h
    ·split at h
     ·cases h
     ·rename_i h3
      refine⟨fun e1=>?_,fun e1=>?_,fun e1=>?_,fun e1=>?_,fun e1 e2=>?_⟩
      ·cases hn:numE e with
       | true=>rfl
       | false=>exact absurd ⟨e1,hn⟩ h1
      ·cases hn:namedE e with
       | true=>rfl
       | false=>exact absurd ⟨e1,hn⟩ h2
      ·cases hn:wiB e.draw 0 2147483647 with
       | true=>rfl
       | false=>exact absurd ⟨e1,hn⟩ h3
      ·rw[if_pos e1]at h;exact h
      ·rw[if_neg (by simp[e2]),if_pos e1]at h;exact h
theorem zgQ{e:AEv}(h:chkEv e=0):e.kind=1∨e.kind=2∨e.kind=3∨e.kind=4∨e.kind=5∨e.kind=6∨e.kind=7∨e.kind=8∨e.kind=9∨e.kind=10∨e.kind=11∨e.kind=12∨e.kind=13:=by
 have h:=(zlc h).1
 unfold shp at h
 repeat' (split at h)
 all_goals first | omega | (cases h;done)
theorem zj4{e:AEv}(h:chkEv e=0)(hk:e.kind=4∨e.kind=5∨e.kind=6∨e.kind=7∨e.kind=8):idB e.n∧1≤e.n:=by
 have h1:=(zaC h).1 (by rcases hk with e | e | e | e | e<;>rw[e]<;>rfl)
 unfold numE wiB at h1
 rw[if_neg (by omega),if_neg (by omega)]at h1
 simp only[Bool.and_eq_true,decide_eq_true_eq]at h1
 exact⟨⟨by omega,h1.2⟩,h1.1⟩
theorem zpG{e:AEv}(h:chkEv e=0)(hk:e.kind=3∨e.kind=4∨e.kind=10∨e.kind=11):((e.name.size:Nat):Int)≤16:=by
 have h1:=(zaC h).2.1 (by rcases hk with e | e | e | e<;>rw[e]<;>rfl)
 unfold namedE at h1
 rw[if_neg (by omega)]at h1
 exact z7E h1
theorem zpH{e:AEv}(h:chkEv e=0)(hk:e.kind=4):0≤e.draw∧e.draw≤2147483647:=by
 have h1:=(zaC h).2.2.1 (by rw[hk];rfl)
 unfold wiB at h1
 simpa using h1
theorem ztm{e:AEv}(h:chkEv e=0)(hk:e.kind=1):specC e.c=0:=(zaC h).2.2.2.1 (by rw[hk];rfl)
theorem ztl{e:AEv}(h:chkEv e=0)(hk:e.kind=2):specE e.r=0:=(zaC h).2.2.2.2 (by rw[hk];rfl) (by rw[hk];rfl)
theorem zm1{k:Nat}{a:ASys}(ok:SOk a)(h:SInv k a)(e:AEv):SInv (k+1) (sysConfig a e).1:=
 ⟨h.fl.mono (Nat.le_succ k),h.gt.mono (Nat.le_succ k),zmY ok.sh h.sh e.c e.n,h.bk.mono (Nat.le_succ k),fun n x hx=>(h.ro n x hx).mono (Nat.le_succ k),h.by'.mono (Nat.le_succ k),h.now⟩
theorem znz{k:Nat}{a:ASys}(h:SInv k a)(e:AEv):SInv (k+1) (sysRoute a e).1:=
 ⟨h.fl.mono (Nat.le_succ k),h.gt.mono (Nat.le_succ k),zlz h.sh e.r e.n,h.bk.mono (Nat.le_succ k),fun n x hx=>(h.ro n x hx).mono (Nat.le_succ k),h.by'.mono (Nat.le_succ k),h.now⟩
theorem zm2{k:Nat}{a:ASys}(ok:SOk a)(h:SInv k a){e:AEv}(he:idB e.n):SInv (k+1) (sysArrive a e).1:=by
 have hg:=zpv ok.gt h.fl h.gt he (bnd a e) a.now
 have h1:SInv (k+1) { a with fl:=(arG a e).1,gt:=(arG a e).2.1 }:=⟨hg.1.mono (Nat.le_succ k),hg.2,h.sh.mono (Nat.le_succ k),h.bk.mono (Nat.le_succ k),fun n x hx=>(h.ro n x hx).mono (Nat.le_succ k),h.by'.mono (Nat.le_succ k),h.now⟩
 unfold sysArrive
 split
 ·rename_i x hx
  have hm:(bnd a e,x)∈a.by':=by
   unfold pokes at hx
   split at hx
   ·rename_i y hy
    split at hx
    ·cases hx;exact z3p hy
    ·cases hx
   ·cases hx
  refine⟨h1.fl,h1.gt,h1.sh,h1.bk,h1.ro,?_,h1.now⟩
  exact h1.by'.set (h1.by'.xs _ hm) (h1.by'.rng _ hm) ⟨⟨by show(0:Int)≤1;decide,by show(1:Int)≤10;decide⟩,(h1.by'.want _ hm).2⟩
 ·exact h1
theorem zpp{k:Nat}{a:ASys}(ok:SOk a)(h:SInv k a)(hk:k≤10000){e:AEv}(he:idB e.n):SInv (k+2) (sysDone a e).1:=by
 have hg:=znL ok.fl ok.gt hk h.fl h.gt he
 unfold sysDone
 exact⟨hg.1.mono (by omega),hg.2,h.sh.mono (by omega),h.bk.mono (by omega),fun n x hx=>(h.ro n x hx).mono (by omega),h.by'.mono (by omega),h.now⟩
theorem zsk{k:Nat}{a:ASys}(ok:SOk a)(h:SInv k a)(e:AEv):SInv (k+1) (sysUp a e).1:=by
 have hu:=h.fl.up e.n
 have hg:=ziS ok.gt hu h.gt (fOf (fUpp a.fl e.n).1.l e.n)
 unfold sysUp
 split
 ·exact⟨hu.mono (Nat.le_succ k),h.gt.mono (Nat.le_succ k),h.sh.mono (Nat.le_succ k),h.bk.mono (Nat.le_succ k),fun n x hx=>(h.ro n x hx).mono (Nat.le_succ k),h.by'.mono (Nat.le_succ k),h.now⟩
 ·refine⟨hg.1.mono (Nat.le_succ k),hg.2,h.sh.mono (Nat.le_succ k),?_,fun n x hx=>(h.ro n x hx).mono (Nat.le_succ k),?_,h.now⟩
  ·dsimp only;unfold upBk
   split
   ·exact h.bk.mono (Nat.le_succ k)
   ·exact(h.bk.prove _).mono (Nat.le_succ k)
  ·dsimp only;unfold upBk
   split
   ·exact h.by'.mono (Nat.le_succ k)
   ·refine(h.by'.mono (Nat.le_succ k)).book ?_
    unfold bkProve
    split<;>rfl
theorem zpJ{a:ABook}(nd:(a.all.map (·.1)).Nodup):(bkAll a).Nodup:=(z7D _).nodup_iff.2 nd
theorem zpm{k:Nat}{a:ASys}(ok:SOk a)(nd:(a.bk.all.map (·.1)).Nodup)(h:SInv k a)(hk:k≤10000):SInv (k+1) (sysTick a).1:=by
 have hg:=ziQ ok.gt h.gt (a.now+1)
 have hG:(tkG a).1.Ok:=by
  have:=zf7 (m:=a.gt.all.length) (n:=a.gt.lines.length) (now:=a.now+1) (r:=a.gt.room) (ks:=ssort (a.gt.lines.map (·.1))) (G:=a.gt) (out:=[]) ⟨Nat.le_refl _,h.gt.ids,Nat.le_refl _,h.gt.lid,h.gt.wk,ok.gt⟩ rfl (fun k hk=>by
   cases h4:mget a.gt.lines k with
   | none=>rw[z1V]at h4;exact absurd (z7H.1 hk) h4
   | some v=>rfl) (by simp)
  exact this.1.ok
 unfold sysTick
 split
 ·exact h.mono (Nat.le_succ k)
 ·rename_i hc
  refine⟨h.fl.mono (Nat.le_succ k),hg.1.mono (Nat.le_succ k),h.sh.mono (Nat.le_succ k),h.bk.mono (Nat.le_succ k),fun n x hx=>(h.ro n x hx).mono (Nat.le_succ k),?_,?_⟩
  ·exact ByI.tick (fun rev=>(zr2 hG hg.1 (by omega) rev).2) (zpJ nd) h.by'.has (fun x hx _=>h.by'.xs x hx) (fun x hx=>Nat.le_succ_of_le (h.by'.xs x hx)) h.by'.rng h.by'.want
  ·have:=h.now;dsimp only;omega
theorem zfp{k:Nat}{a:AShelf}(ok:a.Ok)(h:ShI k a){n:ByteArray}(hi:(shCfg a n).2.2.2.1=true):specC (shCfg a n).1=0∧1≤@id Int (shCfg a n).2.2.1∧@id Int (shCfg a n).2.2.1≤a.n:=by
 unfold shCfg at hi ⊢
 split
 ·rename_i h1
  have:=h.cfg n h1
  exact⟨this.2.1,this.2.2,(ok.gen n).2⟩
 ·rename_i h1
  rw[if_neg h1]at hi
  cases hi
theorem znx{k:Nat}{a:ASys}(ok:SOk a)(h:SInv k a)(hn:a.sh.n<100)(e:AEv):SInv (k+1) (sysStamp a e).1:=by
 have hm:=h.mono (Nat.le_succ k)
 unfold sysStamp
 split
 ·exact hm
 ·rename_i h1
  have hc:=zfp ok.sh h.sh (n:=e.name) (by simpa using h1)
  split
  ·exact hm
  ·have hb:=h.bk.stamp (c:=(shCfg a.sh e.name).1) hc.1 (g:=(@id Int (shCfg a.sh e.name).2.2.1).toNat) (by omega) (by omega)
   have hw:=(z5W hc.1).2.2.2
   split
   ·rename_i h3
    refine⟨hm.fl,hm.gt,hm.sh,hb,hm.ro,hm.by'.book ?_,hm.now⟩
    dsimp only[stp]at h3 ⊢
    unfold bkStamp at h3 ⊢
    split
    ·rfl
    ·rename_i h4;rw[if_neg h4]at h3;cases h3
   ·rename_i h3
    refine⟨hm.fl,hm.gt,hm.sh,hb,hm.ro,⟨fun p hp=>?_,?_,?_,?_⟩,hm.now⟩
    ·dsimp only[stp]at h3 hp ⊢
     rw[z47]
     split
     ·rfl
     ·rename_i h5
      unfold bkStamp at hp h5
      split at hp
      ·exact h.by'.has p hp
      ·rename_i h6
       rw[if_neg h6]at h5
       rcases z1C hp with rfl | hp
       ·exact absurd rfl h5
       ·exact h.by'.has p hp
    all_goals
     intro y hy
     rcases z1C hy with rfl | hy
    ·exact Nat.zero_le _
    ·exact hm.by'.xs y hy
    ·intro z hz;cases hz
    ·exact hm.by'.rng y hy
    ·refine⟨?_,Int.le_refl 0,by show(0:Int)≤1000;decide⟩
     show 0≤wantOf (shCfg a.sh e.name).1∧wantOf (shCfg a.sh e.name).1≤10
     unfold wantOf
     split<;>omega
    ·exact hm.by'.want y hy
theorem zgz{k:Nat}{a:AShelf}(h:ShI k a)(n:ByteArray):(shRt a n).1.ts.length≤6∧(∀t∈(shRt a n).1.ts,(0≤pct t∧pct t≤100)∧t.2.1.size≤100)∧0≤(shRt a n).1.roll∧(shRt a n).1.roll≤60:=by
 unfold shRt
 split
 ·rename_i h1
  have:=zij (h.rt n h1).2
  exact⟨this.2.2.1,this.2.2.2,this.2.1.1,this.2.1.2⟩
 ·exact⟨Nat.zero_le _,(by intro t ht;cases ht),(show(0:Int)≤0 by decide),(show(0:Int)≤60 by decide)⟩
theorem zpo{k:Nat}{a:ASys}(ok:SOk a)(h:SInv k a)(e:AEv):SInv (k+2) (sysLead a e).1:=by
 have hm:=h.mono (Nat.le_add_right k 2)
 have hr:=zgz h.sh e.name
 unfold sysLead
 split
 ·exact hm
 ·split
  ·exact hm
  ·refine⟨hm.fl,hm.gt,hm.sh,hm.bk,?_,hm.by',hm.now⟩
   exact zlK (k:=k+1) (h.mono (Nat.le_succ k)).ro e.name (zfr ok.bk h.bk hr.1 hr.2.1) h.now _ (by omega)
theorem zpn{k:Nat}{a:ASys}(h:SInv k a)(e:AEv):SInv (k+1) (sysPods a e).1:=by
 have hm:=h.mono (Nat.le_succ k)
 unfold sysPods
 split
 ·exact hm
 ·rename_i h1
  have h1:bkHas a.bk e.name=true:=by simpa using h1
  have hb:=z6O h1
  have hc:=(z5W (h.bk.cfg _ hb)).2.2.1
  refine⟨?_,hm.gt,hm.sh,hm.bk,hm.ro,hm.by',hm.now⟩
  exact h.fl.scale (h.bk.rev _ hb) (Int.le_trans hc.2 (by decide)) _
theorem zn5{w ready mi ma:Int}(h1:0≤mi)(h2:1≤ma∧ma≤10):0≤scEnd w ready mi ma∧scEnd w ready mi ma≤10:=by
 unfold scEnd
 generalize mx2 (mn2 w (4*scM ready)) (ready/2)=x
 unfold mn2 mx2
 constructor<;>repeat' split
 all_goals omega
theorem zlF{left b m:Int}(h:0≤left∧left≤1000):0≤scLeft left b m∧scLeft left b m≤1000:=by
 unfold scLeft
 repeat' split
 all_goals omega
theorem zho{k:Nat}{a:ASys}(h:SInv k a){rev:ByteArray}(hb:bkHas a.bk rev=true){x:ABes}(hx:0≤x.left∧x.left≤1000):(0≤(scOf a x rev).1∧(scOf a x rev).1≤10)∧(0≤(scOf a x rev).2∧(scOf a x rev).2≤1000):=by
 have hc:=(z5W (h.bk.cfg _ (z6O hb))).2.2.2
 exact⟨zn5 hc.2.1.1 hc.1,zlF hx⟩
theorem zny{k:Nat}{a:ASys}(h:SInv k a)(e:AEv):SInv (k+1) (sysScale a e).1:=by
 have hm:=h.mono (Nat.le_succ k)
 unfold sysScale
 split
 ·exact hm
 ·rename_i h1
  have h1:bkHas a.bk e.name=true:=by simpa using h1
  split
  ·exact hm
  ·rename_i x hx
   have hxm:=z3p hx
   refine⟨hm.fl,hm.gt,hm.sh,hm.bk,hm.ro,hm.by'.set (hm.by'.xs _ hxm) (hm.by'.rng _ hxm) ?_,hm.now⟩
   exact zho h h1 (hm.by'.want _ hxm).2
theorem zii{a:ASys}{e:AEv}(h:chkEv e≠0):sysDo a e=(a,[lineB zne [errB (chkEv e)]]):=by unfold sysDo;rw[if_pos h]
theorem zfk{a:ASys}{e:AEv}(h:chkEv e=0)(hk:e.kind=1):sysDo a e=sysConfig a e:=by unfold sysDo;rw[if_neg (by simp[h]),if_pos hk]
theorem zhl{a:ASys}{e:AEv}(h:chkEv e=0)(hk:e.kind=2):sysDo a e=sysRoute a e:=by unfold sysDo;rw[if_neg (by simp[h]),if_neg (by omega),if_pos hk]
theorem zmP{a:ASys}{e:AEv}(h:chkEv e=0)(hk:e.kind=3):sysDo a e=sysDrop a e:=by unfold sysDo;rw[if_neg (by simp[h]),if_neg (by omega),if_neg (by omega),if_pos hk]
theorem zdF{a:ASys}{e:AEv}(h:chkEv e=0)(hk:e.kind=4):sysDo a e=sysArrive a e:=by unfold sysDo;rw[if_neg (by simp[h]),if_neg (by omega),if_neg (by omega),if_neg (by omega),if_pos hk]
theorem zdE{a:ASys}{e:AEv}(h:chkEv e=0)(hk:e.kind=5):sysDo a e=sysDone a e:=by unfold sysDo;rw[if_neg (by simp[h]),if_neg (by omega),if_neg (by omega),if_neg (by omega),if_neg (by omega),if_pos hk]
theorem zdD{a:ASys}{e:AEv}(h:chkEv e=0)(hk:e.kind=6):sysDo a e=sysUp a e:=by unfold sysDo;rw[if_neg (by simp[h]),if_neg (by omega),if_neg (by omega),if_neg (by omega),if_neg (by omega),if_neg (by omega),if_pos hk]
theorem zhk{a:ASys}{e:AEv}(h:chkEv e=0)(hk:e.kind=7∨e.kind=8):sysDo a e=sysDown a e:=by
 unfold sysDo;rw[if_neg (by simp[h]),if_neg (by omega),if_neg (by omega),if_neg (by omega),if_neg (by omega),if_neg (by omega),if_neg (by omega),if_neg (by omega),if_neg (by omega),if_neg (by omega),if_neg (by omega),if_neg (by omega)]
theorem zdC{a:ASys}{e:AEv}(h:chkEv e=0)(hk:e.kind=9):sysDo a e=sysTick a:=by unfold sysDo;rw[if_neg (by simp[h]),if_neg (by omega),if_neg (by omega),if_neg (by omega),if_neg (by omega),if_neg (by omega),if_neg (by omega),if_pos hk]
theorem zeT{a:ASys}{e:AEv}(h:chkEv e=0)(hk:e.kind=10):sysDo a e=sysStamp a e:=by unfold sysDo;rw[if_neg (by simp[h]),if_neg (by omega),if_neg (by omega),if_neg (by omega),if_neg (by omega),if_neg (by omega),if_neg (by omega),if_neg (by omega),if_pos hk]
theorem zeS{a:ASys}{e:AEv}(h:chkEv e=0)(hk:e.kind=11):sysDo a e=sysLead a e:=by unfold sysDo;rw[if_neg (by simp[h]),if_neg (by omega),if_neg (by omega),if_neg (by omega),if_neg (by omega),if_neg (by omega),if_neg (by omega),if_neg (by omega),if_neg (by omega),if_pos hk]
theorem zb8{a:ASys}{e:AEv}(h:chkEv e=0)(hk:e.kind=12):sysDo a e=sysScale a e:=by unfold sysDo;rw[if_neg (by simp[h]),if_neg (by omega),if_neg (by omega),if_neg (by omega),if_neg (by omega),if_neg (by omega),if_neg (by omega),if_neg (by omega),if_neg (by omega),if_neg (by omega),if_pos hk]
theorem zb7{a:ASys}{e:AEv}(h:chkEv e=0)(hk:e.kind=13):sysDo a e=sysPods a e:=by unfold sysDo;rw[if_neg (by simp[h]),if_neg (by omega),if_neg (by omega),if_neg (by omega),if_neg (by omega),if_neg (by omega),if_neg (by omega),if_neg (by omega),if_neg (by omega),if_neg (by omega),if_neg (by omega),if_pos hk]
end Go.Proofs.YtdcdhcgmeahfmaaGreatDoor
namespace Go.Proofs.YtdcdhcgmeahfmaaGreatDoor
open Go.Dm
attribute [local irreducible] L.load L.store L.chk L.new L.nonnil L.guard L.ite L.draw L.idx L.sem L.semR L.semU L.chkSem L.next L.call L.callV L.join L.alts L.loop L.begin L.endRound L.range
variable {w0 w:World}{E:List Seg}
theorem zrM{F:AFleet}(ok:F.Ok)(id:Int):(fUpp F id).1.Ok:=by
 unfold fUpp
 split
 ·exact ok
 ·rename_i x hx
  refine ok.upd hx _ ?_ fun q hq=>.inl (by rwa [zkH]at hq)
  have:=ok.live x (z4W hx).1
  unfold podUp
  split
  ·dsimp only;omega
  ·exact .inr (.inl rfl)
theorem shrinkR(rev:ByteArray):∀{n:Nat}{F:AFleet},(shrink rev n F).1.last=F.last∧(shrink rev n F).1.room=F.room
 | 0,F=>⟨rfl,rfl⟩
 | n+1,F=>by simp only[shrink];exact shrinkR rev (n:=n) (F:=drain1 rev F)
theorem zlD(F:AFleet)(rev:ByteArray)(conc want:Int):(fScale F rev conc want).1.room=F.room:=by
 unfold fScale fGrown
 rw[(shrinkR rev).2,zcF]
theorem zpq{F:AFleet}{rev:ByteArray}{conc:Int}(n:Nat)(ok:F.Ok)(h1:F.l.length+n<100000000)(h2:F.last+n<4611686018427387904):(grow rev conc n F).Ok:=by
 induction n with
 | zero=>exact ok
 | succ n ih=>
  refine zl2 (ih (by omega) (by omega)) ?_ ?_
  ·rw[zcG];omega
  ·rw[zcH];omega
theorem zfo{rev:ByteArray}:∀{n:Nat}{F:AFleet},F.Ok→n≤fCount F.l rev→(∀x∈(shrink rev n F).2,0≤x∧x≤F.last)∧(shrink rev n F).2.length=n
 | 0,F,_,_=>⟨(by intro x hx;cases hx),rfl⟩
 | n+1,F,ok,h=>by
  have h1:=zj1 ok (rev:=rev) (by omega)
  have h2:=zea ok (rev:=rev) (by omega)
  obtain⟨a,b⟩:=zfo (rev:=rev) (n:=n) h1 (by omega)
  obtain⟨y,hy,-,-⟩:=zcv (rev:=rev) ok (by omega)
  obtain⟨hm,hid⟩:=z4W hy
  have hr:=ok.rng y hm
  simp only[shrink]
  refine⟨fun x hx=>?_,by rw[List.length_cons,b]⟩
  rcases List.mem_cons.1 hx with rfl | hx
  ·rw[←hid];omega
  ·exact a x hx
theorem zlE{F:AFleet}(ok:F.Ok){rev:ByteArray}{conc want:Int}(hl:(F.l.length:Int)≤1000)(hr:F.room≤1000)(hla:F.last≤1000000000):(∀x∈(fScale F rev conc want).2,0≤x∧x≤F.last+1000)∧(fScale F rev conc want).2.length≤2000:=by
 have hn:=zf1 F rev want
 have okg:(fGrown F rev conc want).Ok:=zpq _ ok (by omega) (by omega)
 have hsn:shrinkN (fGrown F rev conc want) rev want≤fCount (fGrown F rev conc want).l rev:=by
  have:=zlx (fGrown F rev conc want) rev want
  omega
 have hs:=zfo okg hsn
 have hll:(fGrown F rev conc want).last=F.last+growN F rev want:=zcH ..
 have hcl:=zcL (fGrown F rev conc want).l (rev:=rev)
 have hgl:(fGrown F rev conc want).l.length=F.l.length+growN F rev want:=zcG ..
 unfold fScale
 refine⟨fun x hx=>?_,?_⟩
 ·have:=hs.1 x hx
  omega
 ·rw[hs.2];omega
theorem zmo [bTab w0](h:St w0 E w)(i:Nat){b:Nat}{a:ASys}{s:Seg}(hi:nth E i=some s)(hs:SysS b a s){e:AEv}(hn:bkHas a.bk e.name=false){k:Sl→PT}(hk:Hk w0 E i b (sysPods a e) k):z2M (some ⟨b,0,none⟩) e.t (slK k) w:=by
 have hs0:=hs
 obtain⟨p,sg,sf,ss,sk,sr,sm,Q,R,rfl⟩:=hs
 unfold z2M
 unfold sysPods at hk
 have h:=(h.front i hi).split8
 refine nw h ?_;clear h;(try clear w);intro b1 w h
 refine z18 (fun(z:Addr×Bool×Unit) w=>∃b8:Nat,z=(⟨b8,0,none⟩,bkHas a.bk e.name,())∧St w0 (sysC b p a.now::sg::sf::ss::sk::sr::sm::(Q.map BsE.sg).flatten::delN E i) w) (fun k2 hk2=>?_) ?_
 ·(dsimp only[setN,List.cons_append,List.nil_append]at h;refine dr h ?_;clear h;(try clear w);intro w h;refine nn ?_;refine ldC h ?_;refine ldC h ?_)
  refine alts2 ?_ ?_
  ·refine zc2 h 5 rfl R.bk fun w h=>?_
   refine nw h ?_;clear h;(try clear w);intro b8 w h
   (refine ckC h ?_;refine ckC h ?_;refine stC h ?_;clear h;(try clear w);intro w h;dsimp only[putN,setN]at h)
   exact hk2 _ w ⟨b8,rfl,dl0_ (dl0_ h)⟩
  ·refine nw h ?_;clear h;(try clear w);intro b8 w h
   (refine ckC h ?_;refine ckC h ?_)
   refine zc2 h 6 rfl R.bk fun w h=>?_
   (refine stC h ?_;clear h;(try clear w);intro w h;dsimp only[putN,setN]at h)
   exact hk2 _ w ⟨b8,rfl,dl0_ (dl0_ h)⟩
 clear h;(try clear w)
 rintro z w ⟨b8,rfl,h⟩
 (try dsimp only)
 refine itT (by simp[hn]) ?_
 rw[if_pos hn]at hk
 refine z5p h fun v s w r h=>?_
 exact⟨v,rfl,hk v s _ w r hs0 (sysBack i hi h)⟩
structure EvIn(w0:World)(E:List Seg)(i:Nat)(e:AEv):Prop where
 rd:RdE w0 (delN E i) eT e.v e.r.ts
 hvc:e.v.len≤e.v.cap
 h0:e.v.a=none→e.r.ts = []
 hrv:∀t∈e.r.ts,revOk t.1
 hn:e.kind=12∨e.kind=13→RevN e.name
theorem EvIn.plain{i:Nat}{e:AEv}(hv:e.v=noSl)(hr:e.r=noRt15)(hk:e.kind=12∨e.kind=13→RevN e.name):EvIn w0 E i e:=by
 refine⟨fun _ _=>?_,?_,fun _=>?_,?_,hk⟩
 ·rw[hv,hr];exact Rd.nil
 ·rw[hv];exact Nat.le_refl 0
 ·rw[hr];rfl
 ·rw[hr];intro t ht;cases ht
abbrev HkI(w0:World)(E:List Seg)(i b k0:Nat)(r:ASys×List ByteArray)(k:Sl→PT):Prop:=
 ∀v sv s' w',Rw eS z01 1 v r.2 sv→SysS b r.1 s'→SInv k0 r.1→St w0 (sv::setN E i s') w'→k v w'
theorem ztC [bTab w0](h:St w0 E w)(i:Nat){b:Nat}{a:ASys}{s:Seg}(hi:nth E i=some s)(hs:SysS b a s){e:AEv}(hb:chkEv e=0)(hc:e.kind=1)(ev:EvIn w0 E i e){k0:Nat}(inv:SInv k0 a)(hk0:k0≤9000)(hn:a.sh.n<99){k:Sl→PT}(hk:HkI w0 E i b (k0+2) (sysDo a e) k) :
  L.call Pr z02 [.pointer (some ⟨b,0,none⟩),evV e] (.one (.one .slice)) k w:=by
 have ok:=hs.ok
 have rd':RdE w0 E eT e.v e.r.ts:=fun w h=>ev.rd w (h.del i hi)
 have i2:SInv (k0+2) (sysDo a e).1:=by rw[zfk hb hc];exact(zm1 ok inv e).mono (Nat.le_succ _)
 have hkk:Hk w0 E i b (sysDo a e) k:=fun v sv s' w' r hs' h=>hk v sv s' w' r hs' i2 h
 clear hk
 have hlast:=inv.fl.last
 have hlen:=inv.fl.few.l
 have hroom:=inv.fl.few.r
 unfold podsMost at hroom
 have hall:=inv.gt.all
 have hlines:=inv.gt.lines
 have hgr:=inv.gt.room
 have hpat:=inv.gt.pat
 have hnow:=inv.now
 have hbl:=inv.bk.len
 have hr1:=inv.fl.r1
 have rn:=ev.hn
 rw[zfk hb hc]at hkk
 exact zmq h i hi hs hc hb rd' ev.hvc ev.hrv (by omega) (by have:=z7E (z5W (ztm hb hc)).1;omega) hkk
theorem ztB [bTab w0](h:St w0 E w)(i:Nat){b:Nat}{a:ASys}{s:Seg}(hi:nth E i=some s)(hs:SysS b a s){e:AEv}(hb:chkEv e=0)(hc:e.kind=2)(ev:EvIn w0 E i e){k0:Nat}(inv:SInv k0 a)(hk0:k0≤9000)(hn:a.sh.n<99){k:Sl→PT}(hk:HkI w0 E i b (k0+2) (sysDo a e) k) :
  L.call Pr z02 [.pointer (some ⟨b,0,none⟩),evV e] (.one (.one .slice)) k w:=by
 have ok:=hs.ok
 have rd':RdE w0 E eT e.v e.r.ts:=fun w h=>ev.rd w (h.del i hi)
 have i2:SInv (k0+2) (sysDo a e).1:=by rw[zhl hb hc];exact(znz inv e).mono (Nat.le_succ _)
 have hkk:Hk w0 E i b (sysDo a e) k:=fun v sv s' w' r hs' h=>hk v sv s' w' r hs' i2 h
 clear hk
 have hlast:=inv.fl.last
 have hlen:=inv.fl.few.l
 have hroom:=inv.fl.few.r
 unfold podsMost at hroom
 have hall:=inv.gt.all
 have hlines:=inv.gt.lines
 have hgr:=inv.gt.room
 have hpat:=inv.gt.pat
 have hnow:=inv.now
 have hbl:=inv.bk.len
 have hr1:=inv.fl.r1
 have rn:=ev.hn
 rw[zhl hb hc]at hkk
 exact zor h i hi hs hc hb ev.rd ev.hvc ev.h0 ev.hrv (by omega) (by have:=z7E (zij (ztl hb hc)).1.1;omega) inv.sh.few hkk
theorem ztA [bTab w0](h:St w0 E w)(i:Nat){b:Nat}{a:ASys}{s:Seg}(hi:nth E i=some s)(hs:SysS b a s){e:AEv}(hb:chkEv e=0)(hc:e.kind=4)(ev:EvIn w0 E i e){k0:Nat}(inv:SInv k0 a)(hk0:k0≤9000)(hn:a.sh.n<99){k:Sl→PT}(hk:HkI w0 E i b (k0+2) (sysDo a e) k) :
  L.call Pr z02 [.pointer (some ⟨b,0,none⟩),evV e] (.one (.one .slice)) k w:=by
 have ok:=hs.ok
 have rd':RdE w0 E eT e.v e.r.ts:=fun w h=>ev.rd w (h.del i hi)
 have i2:SInv (k0+2) (sysDo a e).1:=by rw[zdF hb hc];exact(zm2 ok inv (zj4 hb (by omega)).1).mono (Nat.le_succ _)
 have hkk:Hk w0 E i b (sysDo a e) k:=fun v sv s' w' r hs' h=>hk v sv s' w' r hs' i2 h
 clear hk
 have hlast:=inv.fl.last
 have hlen:=inv.fl.few.l
 have hroom:=inv.fl.few.r
 unfold podsMost at hroom
 have hall:=inv.gt.all
 have hlines:=inv.gt.lines
 have hgr:=inv.gt.room
 have hpat:=inv.gt.pat
 have hnow:=inv.now
 have hbl:=inv.bk.len
 have hr1:=inv.fl.r1
 have rn:=ev.hn
 rw[zdF hb hc]at hkk
 have hid:=(zj4 hb (by omega)).1
 have hd:=zpH hb hc
 refine zmr h i hi hs hc hb rd' ev.hvc ev.hrv (by omega) (fun x hx=>(inv.ro _ x hx).ok (by omega)) ?_ inv.fl.few (by omega) (by omega) (by omega) (znN (by omega) ok.fl inv.fl hid _ _) ?_ hkk
 ·unfold roTab
  cases hg:mget a.ro e.name with
  | none=>intro s hs;cases hs
  | some x=>exact(inv.ro _ x hg).ns
 ·unfold bnd
  split
  ·decide
  ·cases hg:mget a.ro e.name with
   | none=>rename_i hh;rw[hg]at hh;exact absurd rfl hh
   | some x=>
    have w:=inv.ro _ x hg
    split
    ·unfold tPick roTab
     rw[hg]
     have:∀(l:List Shr)(d:Int),(∀s∈l,s.1.size≤100)→(pickL l d).size≤100:=by
      intro l
      induction l with
      | nil=>intro d _;show s_.size≤100;decide
      | cons s l ih=>
       intro d hl
       unfold pickL
       split
       ·exact hl s (by simp)
       ·exact ih _ fun y hy=>hl y (by simp[hy])
     have:=this x.ns (e.draw%100) w.zn
     dsimp only;omega
    ·unfold roTab
     rw[hg]
     have:∀(l:List Tgo),(∀s∈l,s.1.size≤100∧s.2.1.size≤100)→(tagL l e.tag).1.size≤100:=by
      intro l
      induction l with
      | nil=>intro _;show s_.size≤100;decide
      | cons s l ih=>
       intro hl
       unfold tagL
       split
       ·exact(hl s (by simp)).2
       ·exact ih fun y hy=>hl y (by simp[hy])
     have:=this x.ng w.zg
     dsimp only;omega
theorem ztz [bTab w0](h:St w0 E w)(i:Nat){b:Nat}{a:ASys}{s:Seg}(hi:nth E i=some s)(hs:SysS b a s){e:AEv}(hb:chkEv e=0)(hc:e.kind=5)(ev:EvIn w0 E i e){k0:Nat}(inv:SInv k0 a)(hk0:k0≤9000)(hn:a.sh.n<99){k:Sl→PT}(hk:HkI w0 E i b (k0+2) (sysDo a e) k) :
  L.call Pr z02 [.pointer (some ⟨b,0,none⟩),evV e] (.one (.one .slice)) k w:=by
 have ok:=hs.ok
 have rd':RdE w0 E eT e.v e.r.ts:=fun w h=>ev.rd w (h.del i hi)
 have i2:SInv (k0+2) (sysDo a e).1:=by rw[zdE hb hc];exact zpp ok inv (by omega) (zj4 hb (by omega)).1
 have hkk:Hk w0 E i b (sysDo a e) k:=fun v sv s' w' r hs' h=>hk v sv s' w' r hs' i2 h
 clear hk
 have hlast:=inv.fl.last
 have hlen:=inv.fl.few.l
 have hroom:=inv.fl.few.r
 unfold podsMost at hroom
 have hall:=inv.gt.all
 have hlines:=inv.gt.lines
 have hgr:=inv.gt.room
 have hpat:=inv.gt.pat
 have hnow:=inv.now
 have hbl:=inv.bk.len
 have hr1:=inv.fl.r1
 have rn:=ev.hn
 rw[zdE hb hc]at hkk
 have hid:=(zj4 hb (by omega)).1
 exact zq0 h i hi hs hc hb rd' ev.hvc ev.hrv inv.fl.few (by omega) (by omega) (zk2 ok.fl (by omega) inv.fl inv.gt hid) (znK ok.gt (by omega) hgr.2 _) hkk
theorem zty [bTab w0](h:St w0 E w)(i:Nat){b:Nat}{a:ASys}{s:Seg}(hi:nth E i=some s)(hs:SysS b a s){e:AEv}(hb:chkEv e=0)(hc:e.kind=6)(ev:EvIn w0 E i e){k0:Nat}(inv:SInv k0 a)(hk0:k0≤9000)(hn:a.sh.n<99){k:Sl→PT}(hk:HkI w0 E i b (k0+2) (sysDo a e) k) :
  L.call Pr z02 [.pointer (some ⟨b,0,none⟩),evV e] (.one (.one .slice)) k w:=by
 have ok:=hs.ok
 have rd':RdE w0 E eT e.v e.r.ts:=fun w h=>ev.rd w (h.del i hi)
 have i2:SInv (k0+2) (sysDo a e).1:=by rw[zdD hb hc];exact(zsk ok inv e).mono (Nat.le_succ _)
 have hkk:Hk w0 E i b (sysDo a e) k:=fun v sv s' w' r hs' h=>hk v sv s' w' r hs' i2 h
 clear hk
 have hlast:=inv.fl.last
 have hlen:=inv.fl.few.l
 have hroom:=inv.fl.few.r
 unfold podsMost at hroom
 have hall:=inv.gt.all
 have hlines:=inv.gt.lines
 have hgr:=inv.gt.room
 have hpat:=inv.gt.pat
 have hnow:=inv.now
 have hbl:=inv.bk.len
 have hr1:=inv.fl.r1
 have rn:=ev.hn
 rw[zdD hb hc]at hkk
 have hid:=(zj4 hb (by omega)).1
 have hu:=inv.fl.up e.n
 have hsz:(fOf (fUpp a.fl e.n).1.l e.n).size≤100:=by
  unfold fOf
  cases hf:fFind (fUpp a.fl e.n).1.l e.n with
  | none=>show s_.size≤100;decide
  | some x=>exact(hu.rev x (z4W hf).1).size
 have hu':(fUpp a.fl e.n).1.Ok:=zrM ok.fl e.n
 refine zsW h i hi hs hc hb rd' ev.hvc ev.hrv ⟨by omega,by omega⟩ (by omega) hu.few (by omega) (by omega) (zfF (by omega) hu' hu inv.gt _) ?_ hkk
 have:=(zfE (F:=(fUpp a.fl e.n).1) ok.gt (fOf (fUpp a.fl e.n).1.l e.n)).1
 show(gFlow (fUpp a.fl e.n).1 a.gt (fOf (fUpp a.fl e.n).1.l e.n)).2.2.length<100000000
 omega
theorem ztx [bTab w0](h:St w0 E w)(i:Nat){b:Nat}{a:ASys}{s:Seg}(hi:nth E i=some s)(hs:SysS b a s){e:AEv}(hb:chkEv e=0)(hc:e.kind=9)(ev:EvIn w0 E i e){k0:Nat}(inv:SInv k0 a)(hk0:k0≤9000)(hn:a.sh.n<99){k:Sl→PT}(hk:HkI w0 E i b (k0+2) (sysDo a e) k) :
  L.call Pr z02 [.pointer (some ⟨b,0,none⟩),evV e] (.one (.one .slice)) k w:=by
 have ok:=hs.ok
 have rd':RdE w0 E eT e.v e.r.ts:=fun w h=>ev.rd w (h.del i hi)
 have i2:SInv (k0+2) (sysDo a e).1:=by rw[zdC hb hc];exact(zpm ok ok.nd inv (by omega)).mono (Nat.le_succ _)
 have hkk:Hk w0 E i b (sysDo a e) k:=fun v sv s' w' r hs' h=>hk v sv s' w' r hs' i2 h
 clear hk
 have hlast:=inv.fl.last
 have hlen:=inv.fl.few.l
 have hroom:=inv.fl.few.r
 unfold podsMost at hroom
 have hall:=inv.gt.all
 have hlines:=inv.gt.lines
 have hgr:=inv.gt.room
 have hpat:=inv.gt.pat
 have hnow:=inv.now
 have hbl:=inv.bk.len
 have hr1:=inv.fl.r1
 have rn:=ev.hn
 rw[zdC hb hc]at hkk
 have hg:=ziQ ok.gt inv.gt (a.now+1)
 refine zlo h i hi hs hc hb rd' ev.hvc ev.hrv hnow.1 inv.gt.wk (by have:=hg.2.2;unfold tkG;omega) hg.2.1 (fun rev hr=>?_) (fun x hx=>by have:=inv.by'.xs x hx;omega) (by omega) hkk
 have:=inv.by'.has _ (z6O (zj9 hr))
 exact this
theorem zt0 [bTab w0](h:St w0 E w)(i:Nat){b:Nat}{a:ASys}{s:Seg}(hi:nth E i=some s)(hs:SysS b a s){e:AEv}(hb:chkEv e=0)(hc:e.kind=10)(ev:EvIn w0 E i e){k0:Nat}(inv:SInv k0 a)(hk0:k0≤9000)(hn:a.sh.n<99){k:Sl→PT}(hk:HkI w0 E i b (k0+2) (sysDo a e) k) :
  L.call Pr z02 [.pointer (some ⟨b,0,none⟩),evV e] (.one (.one .slice)) k w:=by
 have ok:=hs.ok
 have rd':RdE w0 E eT e.v e.r.ts:=fun w h=>ev.rd w (h.del i hi)
 have i2:SInv (k0+2) (sysDo a e).1:=by rw[zeT hb hc];exact(znx ok inv (by omega) e).mono (Nat.le_succ _)
 have hkk:Hk w0 E i b (sysDo a e) k:=fun v sv s' w' r hs' h=>hk v sv s' w' r hs' i2 h
 clear hk
 have hlast:=inv.fl.last
 have hlen:=inv.fl.few.l
 have hroom:=inv.fl.few.r
 unfold podsMost at hroom
 have hall:=inv.gt.all
 have hlines:=inv.gt.lines
 have hgr:=inv.gt.room
 have hpat:=inv.gt.pat
 have hnow:=inv.now
 have hbl:=inv.bk.len
 have hr1:=inv.fl.r1
 have rn:=ev.hn
 rw[zeT hb hc]at hkk
 refine zoq h i hi hs hc hb rd' ev.hvc ev.hrv (fun hh=>?_) (by omega) hkk
 have hs:=zfp ok.sh inv.sh hh
 have hnum:=z5W hs.1
 exact⟨hnum.1,hs.2.1,by omega,by omega⟩
theorem zsZ [bTab w0](h:St w0 E w)(i:Nat){b:Nat}{a:ASys}{s:Seg}(hi:nth E i=some s)(hs:SysS b a s){e:AEv}(hb:chkEv e=0)(hc:e.kind=11)(ev:EvIn w0 E i e){k0:Nat}(inv:SInv k0 a)(hk0:k0≤9000)(hn:a.sh.n<99){k:Sl→PT}(hk:HkI w0 E i b (k0+2) (sysDo a e) k) :
  L.call Pr z02 [.pointer (some ⟨b,0,none⟩),evV e] (.one (.one .slice)) k w:=by
 have ok:=hs.ok
 have rd':RdE w0 E eT e.v e.r.ts:=fun w h=>ev.rd w (h.del i hi)
 have i2:SInv (k0+2) (sysDo a e).1:=by rw[zeS hb hc];exact zpo ok inv e
 have hkk:Hk w0 E i b (sysDo a e) k:=fun v sv s' w' r hs' h=>hk v sv s' w' r hs' i2 h
 clear hk
 have hlast:=inv.fl.last
 have hlen:=inv.fl.few.l
 have hroom:=inv.fl.few.r
 unfold podsMost at hroom
 have hall:=inv.gt.all
 have hlines:=inv.gt.lines
 have hgr:=inv.gt.room
 have hpat:=inv.gt.pat
 have hnow:=inv.now
 have hbl:=inv.bk.len
 have hr1:=inv.fl.r1
 have rn:=ev.hn
 rw[zeS hb hc]at hkk
 have hr:=zgz inv.sh e.name
 have ht:=zfr ok.bk inv.bk hr.1 hr.2.1
 have hno:=zno (k:=k0+1) (inv.mono (Nat.le_succ k0)).ro e.name ht hnow (shRt a.sh e.name).1.roll (by omega)
 refine zpZ h i hi hs hc hb rd' ev.hvc ev.hrv inv.sh.few (by have:=zpG hb (by omega);omega) (fun t ht=>by have:=(hr.2.1 t ht).1;omega) (by omega) (by omega) (fun x hx=>(inv.ro _ x hx).ok (by omega)) (fun x hx=>by have:=(inv.ro _ x hx).since;omega) (by omega) ht.w (by have:=hno.2.2;show(nowOf a.ro e.name (resolve a.bk (shRt a.sh e.name).1).1 a.now (shRt a.sh e.name).1.roll).sh.length<100000;omega) ?_ hkk
 exact zlw hno.1 hno.2.1 ht.zg (Nat.add_le_add hno.2.2 ht.lg) (by omega)
theorem zsY [bTab w0](h:St w0 E w)(i:Nat){b:Nat}{a:ASys}{s:Seg}(hi:nth E i=some s)(hs:SysS b a s){e:AEv}(hb:chkEv e=0)(hc:e.kind=12)(ev:EvIn w0 E i e){k0:Nat}(inv:SInv k0 a)(hk0:k0≤9000)(hn:a.sh.n<99){k:Sl→PT}(hk:HkI w0 E i b (k0+2) (sysDo a e) k) :
  L.call Pr z02 [.pointer (some ⟨b,0,none⟩),evV e] (.one (.one .slice)) k w:=by
 have ok:=hs.ok
 have rd':RdE w0 E eT e.v e.r.ts:=fun w h=>ev.rd w (h.del i hi)
 have i2:SInv (k0+2) (sysDo a e).1:=by rw[zb8 hb hc];exact(zny inv e).mono (Nat.le_succ _)
 have hkk:Hk w0 E i b (sysDo a e) k:=fun v sv s' w' r hs' h=>hk v sv s' w' r hs' i2 h
 clear hk
 have hlast:=inv.fl.last
 have hlen:=inv.fl.few.l
 have hroom:=inv.fl.few.r
 unfold podsMost at hroom
 have hall:=inv.gt.all
 have hlines:=inv.gt.lines
 have hgr:=inv.gt.room
 have hpat:=inv.gt.pat
 have hnow:=inv.now
 have hbl:=inv.bk.len
 have hr1:=inv.fl.r1
 have rn:=ev.hn
 rw[zb8 hb hc]at hkk
 have hnm:=(rn (.inl hc)).size
 refine zfW h i hi hs hb rn rd' ev.hvc ev.hrv (f:=z1M) (by rw[hc];rfl) zaP (zaU (some ⟨b,0,none⟩) e.t) (fun h hi _ hk=>zmi h _ hi hs (by omega) (fun hh=>inv.by'.has _ (z6O hh)) (fun x hx=>?_) (fun hh=>?_) ?_ hk) hkk
 ·have hm:=z3p hx
  have hw:=inv.by'.want _ hm
  refine⟨⟨⟨hw.1.1,by have:=hw.1.2;dsimp only at this;omega⟩,hw.2,inv.by'.rng _ hm,by have:=inv.by'.xs _ hm;dsimp only at this;omega⟩,?_⟩
  by_cases hh:bkHas a.bk e.name=true
  ·have:=(zho inv hh hw.2).1
   dsimp only at this;omega
  ·have e1:bkGet a.bk e.name=noRv:=by
    unfold bkHas at hh
    unfold bkGet
    cases hg:mget a.bk.all e.name with
    | none=>rfl
    | some v=>rw[hg]at hh;exact absurd rfl hh
   have e2:(bkGet a.bk e.name).2.2.2.2.2.1=(0:Int)∧(bkGet a.bk e.name).2.2.2.2.2.2.1=(0:Int):=by rw[e1];exact⟨rfl,rfl⟩
   unfold scOf scDec scEnd
   rw[e2.1,e2.2]
   generalize mx2 (mn2 _ _) _=y
   unfold mn2 mx2
   constructor<;>repeat' split
   all_goals omega
 ·have hc2:=(z5W (inv.bk.cfg _ (z6O hh))).2.2.1
  exact⟨Int.le_trans (by decide) hc2.1,Int.le_trans hc2.2 (by decide)⟩
 ·unfold fPods
  rw[List.length_map]
  have:(revs a.fl.l e.name).length≤a.fl.l.length:=List.length_filter_le ..
  omega
theorem zsX [bTab w0](h:St w0 E w)(i:Nat){b:Nat}{a:ASys}{s:Seg}(hi:nth E i=some s)(hs:SysS b a s){e:AEv}(hb:chkEv e=0)(hc:e.kind=13)(ev:EvIn w0 E i e){k0:Nat}(inv:SInv k0 a)(hk0:k0≤9000)(hn:a.sh.n<99){k:Sl→PT}(hk:HkI w0 E i b (k0+2) (sysDo a e) k) :
  L.call Pr z02 [.pointer (some ⟨b,0,none⟩),evV e] (.one (.one .slice)) k w:=by
 have ok:=hs.ok
 have rd':RdE w0 E eT e.v e.r.ts:=fun w h=>ev.rd w (h.del i hi)
 have i2:SInv (k0+2) (sysDo a e).1:=by rw[zb7 hb hc];exact(zpn inv e).mono (Nat.le_succ _)
 have hkk:Hk w0 E i b (sysDo a e) k:=fun v sv s' w' r hs' h=>hk v sv s' w' r hs' i2 h
 clear hk
 have hlast:=inv.fl.last
 have hlen:=inv.fl.few.l
 have hroom:=inv.fl.few.r
 unfold podsMost at hroom
 have hall:=inv.gt.all
 have hlines:=inv.gt.lines
 have hgr:=inv.gt.room
 have hpat:=inv.gt.pat
 have hnow:=inv.now
 have hbl:=inv.bk.len
 have hr1:=inv.fl.r1
 have rn:=ev.hn
 rw[zb7 hb hc]at hkk
 have hnm:=rn (.inr hc)
 by_cases hh:bkHas a.bk e.name=true
 ·have hc2:=(z5W (inv.bk.cfg _ (z6O hh))).2.2.1
  have hcc:pdConc a e.name≤1000:=Int.le_trans hc2.2 (by decide)
  have hsc:=inv.fl.scale hnm hcc (pdWant a e.name)
  have hgl:=hsc.few.l
  have hgr2:(fScale a.fl e.name (pdConc a e.name) (pdWant a e.name)).1.room=a.fl.room:=zlD ..
  have hgo:=zlE ok.fl (rev:=e.name) (conc:=pdConc a e.name) (want:=pdWant a e.name) (by omega) (by omega) (by omega)
  refine zpY h i hi hs hc hnm hb rd' ev.hvc ev.hrv (by omega) (by omega) (by have:=hnm.size;omega) (fun x hx=>?_) ?_ (fun x hx=>?_) ?_ ?_ hkk
  ·unfold fMade at hx
   obtain⟨j,hj,rfl⟩:=List.mem_map.1 hx
   rw[List.mem_range]at hj
   have:=zf1 a.fl e.name (pdWant a e.name)
   have:=ok.fl.lo
   omega
  ·unfold fMade
   rw[List.length_map,List.length_range]
   have:=zf1 a.fl e.name (pdWant a e.name)
   omega
  ·have:=hgo.1 x hx;omega
  ·have:=hgo.2;omega
  ·unfold fPods
   rw[List.length_map]
   have:(revs (pdFl a e.name).l e.name).length≤(pdFl a e.name).l.length:=List.length_filter_le ..
   unfold pdFl at this ⊢
   omega
 ·exact zfW h i hi hs hb rn rd' ev.hvc ev.hrv (f:=z1z) (by rw[hc];rfl) z7p (z7q (some ⟨b,0,none⟩) e.t) (fun h hi _ hk=>zmo h _ hi hs (by simpa using hh) hk) hkk
class Kn(w0:World)(ks:Int→Bool):Prop where
 dos:∀{E:List Seg}{w:World},St w0 E w→∀(i:Nat){b:Nat}{a:ASys}{s:Seg},nth E i=some s→SysS b a s→∀{e:AEv},ks e.kind=true→chkEv e=0→EvIn w0 E i e→∀{k0:Nat},SInv k0 a→k0≤9000→a.sh.n<99→∀{k:Sl→PT},HkI w0 E i b (k0+2) (sysDo a e) k→
  L.call Pr z02 [.pointer (some ⟨b,0,none⟩),evV e] (.one (.one .slice)) k w
theorem zkc{ks:Int→Bool}[K:Kn w0 ks](h:St w0 E w)(i:Nat){b:Nat}{a:ASys}{s:Seg}(hi:nth E i=some s)(hs:SysS b a s){e:AEv}(hks:ks e.kind=true)(hb:chkEv e=0)(ev:EvIn w0 E i e){k0:Nat}(inv:SInv k0 a)(hk0:k0≤9000)(hn:a.sh.n<99){k:Sl→PT}(hk:HkI w0 E i b (k0+2) (sysDo a e) k) :
  L.call Pr z02 [.pointer (some ⟨b,0,none⟩),evV e] (.one (.one .slice)) k w:=K.dos h i hi hs hks hb ev inv hk0 hn hk
theorem zrO:Pr.underlying zja=some (.slice zfR):=by kernel_rfl
theorem zrN:Pr.underlying zfR=some (.int .u8):=by kernel_rfl
theorem zq3(n:Nat):∀{g:Nat}{E:List Seg}{w:World}{k:ByteArray→PT},g≤n→g≤9000000000000000000→St w0 E w→(∀w',St w0 E w'→k (decD g) w')→L.call Pr z1J [I g] (.one (.one .str)) k w:=by
 induction n using Nat.strongRecOn with
 | _ n ih=>
  intro g E w k hgn hg h hk
  refine z00 (zcg _) ?_
  unfold z87
  refine itF (decide_eq_false (by omega)) ?_
  refine it (fun hc=>?_) (fun hc=>?_)
  ·have hc:10≤g:=by have:=of_decide_eq_true hc;omega
   have e1:IntKind.wrap .i64 (Int.tdiv (g:Int) 10)=((g/10:Nat):Int):=by
    rw[Int.tdiv_eq_ediv_of_nonneg (by omega),wr (by omega) (by omega)];rfl
   have e2:Int.tmod (g:Int) 10=((g%10:Nat):Int):=by
    rw[Int.tmod_eq_emod_of_nonneg (by omega)];rfl
   rw[e1,e2]
   have s1:=zfM (g%10)
   have s2:(decD (g/10)).size≤100:=by
    have:=zhH (x:=((g/10:Nat):Int)) (by omega) (by omega)
    rw[Int.toNat_natCast]at this
    exact this
   refine gd (by decide) ?_
   refine ih (g/10) (by omega) (Nat.le_refl _) (by omega) h fun w h=>?_
   refine gd (by decide) ?_
   refine ih (g%10) (by omega) (Nat.le_refl _) (by omega) h fun w h=>?_
   refine gd (by simp only[maxI64];omega) ?_
   refine⟨_,rfl,?_⟩
   rw[←znZ hc]
   exact hk w h
  ·have hc:g<10:=by have:=of_decide_eq_false hc;omega
   refine nw h ?_;clear h;(try clear w);intro b4 w h
   have e1:IntKind.wrap .u8 (IntKind.wrap .i64 (48+(g:Int)))=((48+g:Nat):Int):=by
    have:g=0∨g=1∨g=2∨g=3∨g=4∨g=5∨g=6∨g=7∨g=8∨g=9:=by omega
    rcases this with rfl | rfl | rfl | rfl | rfl | rfl | rfl | rfl | rfl | rfl<;>rfl
   rw[e1]at h
   have hr:Rw eU zfR 1 ⟨some ⟨b4,0,none⟩,1,1⟩ [UInt8.ofNat (48+g)] [Cl b4 zfR [.int .u8 ((48+g:Nat):Int)]]:=by
    refine Rw.lit b4 [UInt8.ofNat (48+g)] encU ?_ rfl (by simp[maxLen])
    have:g=0∨g=1∨g=2∨g=3∨g=4∨g=5∨g=6∨g=7∨g=8∨g=9:=by omega
    rcases this with rfl | rfl | rfl | rfl | rfl | rfl | rfl | rfl | rfl | rfl<;>rfl
   refine cvBS zrO zrN z5V (Rw.rd encU h 0 rfl hr) ?_
   refine⟨_,rfl,?_⟩
   have e2:(⟨[UInt8.ofNat (48+g)].toArray⟩:ByteArray)=decD g:=by unfold decD;rw[Lib.decDigits_one hc]
   rw[e2]
   exact hk w (dl0_ h)
theorem zoz(h:St w0 E w){x:Int}(h0:0≤x)(h1:x≤9000000000000000000){k:ByteArray→PT}(hk:∀w',St w0 E w'→k (decD x.toNat) w'):L.call Pr z1J [I x] (.one (.one .str)) k w:=by
 obtain⟨g,rfl⟩:∃g:Nat,x=(g:Int):=⟨x.toNat,by omega⟩
 rw[Int.toNat_natCast]at hk
 exact zq3 g (Nat.le_refl _) (by omega) h hk
end Go.Proofs.YtdcdhcgmeahfmaaGreatDoor
namespace Go.Proofs.YtdcdhcgmeahfmaaGreatDoor
open Go.Dm
def cW(k:Int):Cfg:=(s_web,k,1,0,1,0,())
structure GI(a:ASys)(ver gen:Nat)(last:Int):Prop where
 n:a.sh.n=ver
 sh:(ver=0∧gen=0∧last = -1∧(tget a.sh.m s_web).is=false∧(tget a.sh.m s_web).gen=0)∨(0<ver∧0≤last∧0<gen∧tget a.sh.m s_web=thgOf (cW last) ver gen true)
 gl:gen≤ver
 bk:∀g,1≤g→g<100→(bkHas a.bk (revB s_web g)=true↔g≤gen)
 len:a.bk.all.length=gen
theorem zs7{a:AShelf}{c:Cfg}{ver:Int}(h1:specC c=0)(h2:mayC (tget a.m c.1) ver true=0):shPut a c ver=(⟨putC a.m c.1 c (a.n+1),a.r,a.n+1⟩,a.n+1,0):=by
 unfold shPut;rw[if_neg (by simpa using h1),if_neg (by simpa using h2)]
end Go.Proofs.YtdcdhcgmeahfmaaGreatDoor
namespace Go.Proofs.YtdcdhcgmeahfmaaGreatDoor
open Go.Dm
attribute [local irreducible] L.load L.store L.chk L.new L.nonnil L.guard L.ite L.draw L.idx L.sem L.semR L.semU L.chkSem L.next L.call L.callV L.join L.alts L.loop L.begin L.endRound L.range
variable {w0 w:World}{E:List Seg}
def eEv(e:AEv):List Value:=[I e.kind,.string e.name,.string e.tag,I e.n,I e.draw,.string e.c.1,I e.c.2.1,I e.c.2.2.1,I e.c.2.2.2.1,I e.c.2.2.2.2.1,I e.c.2.2.2.2.2.1,.string e.r.name,.string e.r.cfg,.slice e.v.a e.v.len e.v.cap,I e.r.roll]
theorem encEv:Enc eEv 15:=⟨fun _=>rfl,fun _=>rfl,by decide⟩
def sysRun(a:ASys)(l:List AEv):ASys:=l.foldl (fun a e=>(sysDo a e).1) a
def sysOuts:ASys→List AEv→List (List ByteArray)
 | _,[]=>[]
 | a,e::l=>(sysDo a e).2::sysOuts (sysDo a e).1 l
theorem zfi(a:ASys)(e:AEv)(l:List AEv):sysRun a (e::l)=sysRun (sysDo a e).1 l:=rfl
theorem ze4(a:ASys)(e:AEv)(l:List AEv):sysOuts a (e::l)=(sysDo a e).2::sysOuts (sysDo a e).1 l:=rfl
theorem zfh{a:ASys}{l:List AEv}{j:Nat}{e:AEv}(h:l[j]? = some e):sysRun a (l.take (j+1))=(sysDo (sysRun a (l.take j)) e).1:=by
 unfold sysRun
 rw[List.take_succ,h,Option.toList_some,List.foldl_append]
 rfl
theorem zfj:∀{l:List AEv}{a:ASys}{j:Nat}{e:AEv},l[j]? = some e→(sysOuts a l)[j]? = some (sysDo (sysRun a (l.take j)) e).2
 | [],_,_,_,h=>by simp at h
 | x::l,a,0,e,h=>by
  simp only[List.getElem?_cons_zero,Option.some.injEq]at h
  subst h;rfl
 | x::l,a,j+1,e,h=>by
  simp only[List.getElem?_cons_succ]at h
  rw[ze4,List.getElem?_cons_succ,zfj h]
  rfl
theorem zoL(a:AShelf)(kind:Int)(n:ByteArray)(v:Int):(shDrop a kind n v).1.n≤a.n+1:=by
 unfold shDrop
 repeat' split
 all_goals dsimp only;omega
theorem zqw(a:ASys)(e:AEv):(sysDo a e).1.sh.n≤a.sh.n+1:=by
 by_cases hb:chkEv e=0
 ·rcases zgQ hb with hc | hc | hc | hc | hc | hc | hc | hc | hc | hc | hc | hc | hc
  ·rw[zfk hb hc];unfold sysConfig shPut;repeat' split
   all_goals dsimp only;omega
  ·rw[zhl hb hc];unfold sysRoute shPutR;repeat' split
   all_goals dsimp only;omega
  ·rw[zmP hb hc];unfold sysDrop;have:=zoL a.sh e.n e.name e.draw;split<;>exact this
  ·rw[zdF hb hc];unfold sysArrive;split<;>(dsimp only;omega)
  ·rw[zdE hb hc];unfold sysDone;dsimp only;omega
  ·rw[zdD hb hc];unfold sysUp;split<;>(dsimp only;omega)
  ·rw[zhk hb (.inl hc)];unfold sysDown;split<;>(dsimp only;omega)
  ·rw[zhk hb (.inr hc)];unfold sysDown;split<;>(dsimp only;omega)
  ·rw[zdC hb hc];unfold sysTick;split<;>(dsimp only;omega)
  ·rw[zeT hb hc];unfold sysStamp;repeat' split
   all_goals dsimp only;omega
  ·rw[zeS hb hc];unfold sysLead;repeat' split
   all_goals dsimp only;omega
  ·rw[zb8 hb hc];unfold sysScale;repeat' split
   all_goals dsimp only;omega
  ·rw[zb7 hb hc];unfold sysPods;split<;>(dsimp only;omega)
 ·rw[zii hb];dsimp only;omega
theorem zkA:∀(l:List AEv)(a:ASys),(sysRun a l).sh.n≤a.sh.n+l.length
 | [],a=>by simp[sysRun]
 | e::l,a=>by
  have h1:=zkA l (sysDo a e).1
  have h2:=zqw a e
  rw[zfi,List.length_cons]
  omega
abbrev evW(x:EvT):Value:=.agg #[.int .i64 x.1,.string x.2.1,.string x.2.2.1,.int .i64 x.2.2.2.1,.int .i64 x.2.2.2.2.1,.string x.2.2.2.2.2.1,.int .i64 x.2.2.2.2.2.2.1,.int .i64 x.2.2.2.2.2.2.2.1,.int .i64 x.2.2.2.2.2.2.2.2.1,.int .i64 x.2.2.2.2.2.2.2.2.2.1,.int .i64 x.2.2.2.2.2.2.2.2.2.2.1,.string x.2.2.2.2.2.2.2.2.2.2.2.1,.string x.2.2.2.2.2.2.2.2.2.2.2.2.1,.slice x.2.2.2.2.2.2.2.2.2.2.2.2.2.1.a x.2.2.2.2.2.2.2.2.2.2.2.2.2.1.len x.2.2.2.2.2.2.2.2.2.2.2.2.2.1.cap,.int .i64 x.2.2.2.2.2.2.2.2.2.2.2.2.2.2.1]
abbrev evLs:List Lf:=[.int .i64,.str,.str,.int .i64,.int .i64,.str,.int .i64,.int .i64,.int .i64,.int .i64,.int .i64,.str,.str,.slice,.int .i64]
abbrev evB(b:Nat)(l:List AEv):Seg:=[Cl b z0w (fl eEv l)]
theorem zpM{ks:Int→Bool}[Kn w0 ks]{b5 sb n:Nat}{l:List AEv}(hn:n=l.length)(hm:n≤1000){j:Nat}{e:AEv}(he:l[j]? = some e){a:ASys}{s:Seg}(h:St w0 (s::evB b5 l::E) w)(hs:SysS sb a s)(hke:ks e.kind=true∧chkEv e=0)(ev:EvIn w0 (s::evB b5 l::E) 0 e)
  {k0:Nat} (inv:SInv k0 a) (hk0:k0≤9000) (hsh:a.sh.n<99) {k:Sl→PT} (hk:∀v sv s' w',Rw eS z01 1 v (sysDo a e).2 sv→SysS sb (sysDo a e).1 s'→SInv (k0+2) (sysDo a e).1→St w0 (sv::s'::evB b5 l::E) w'→k v w') :
  L.idx (some ⟨b5,0,none⟩) (j:Int) n 15 (fun a8=>L.load (.agg evLs) a8 fun(x:EvT)=>L.call Pr z02 [.pointer (some ⟨sb,0,none⟩),evW x] (.one (.one .slice)) k) w:=by
 have hj:j<l.length:=by
  rcases Nat.lt_or_ge j l.length with h | h
  ·exact h
  ·rw[List.getElem?_eq_none h]at he;cases he
 have r:Rw eEv z0w 15 ⟨some ⟨b5,0,none⟩,n,n⟩ l (evB b5 l):=Rw.lit b5 l encEv rfl hn (Nat.le_trans hm (by decide))
 refine Rw.ix encEv r (n:=(j:Int)) (by omega) (by rw[Int.toNat_natCast];exact hj) fun a8 ha=>?_
 rw[Int.toNat_natCast]at ha
 refine Rw.lda encEv h 1 rfl r ha he (y:=e.t) rfl ?_
 exact zkc h 0 rfl hs hke.1 hke.2 ev inv hk0 hsh fun v sv s' w r hs i2 h=>hk v sv s' w r hs i2 h
abbrev evC(ver:Int)(c:Cfg):AEv:=⟨1,s_,s_,ver,0,c,noRt15,noSl⟩
abbrev evR(ver:Int)(r:ARt)(v:Sl):AEv:=⟨2,s_,s_,ver,0,noCfg,r,v⟩
abbrev evAr(n:Int)(name tag:ByteArray)(draw:Int):AEv:=⟨4,name,tag,n,draw,noCfg,noRt15,noSl⟩
abbrev evN(kind n:Int):AEv:=⟨kind,s_,s_,n,0,noCfg,noRt15,noSl⟩
abbrev evNm(kind:Int)(name:ByteArray):AEv:=⟨kind,name,s_,0,0,noCfg,noRt15,noSl⟩
theorem zsx{ver:Int}{c:Cfg}(hv:0≤ver∧ver≤2147483647)(hc:specC c=0):chkEv (evC ver c)=0:=by
 have hn:noneE (true,false,false,false,true,false,()) (evC ver c)=true:=by simp[noneE,bareE,noRt15]
 have hm:numE (evC ver c)=true:=by
  simp only[numE,wiB]
  rw[if_pos (.inl trivial)]
  simp only[Bool.and_eq_true,decide_eq_true_eq]
  omega
 unfold chkEv
 have hp:shp 1=((true,false,false,false,true,false,()),true):=rfl
 simp only[hp]
 rw[if_neg (by decide)]
 unfold chkS
 rw[hn,hm]
 simp[hc]
theorem ztn{ver:Int}{r:ARt}{v:Sl}(hv:0≤ver∧ver≤2147483647)(hr:specE r=0):chkEv (evR ver r v)=0:=by
 have hn:noneE (true,false,false,false,false,true,()) (evR ver r v)=true:=by
  have:sameC noCfg noCfg=true:=by decide
  simp[noneE,this]
 have hm:numE (evR ver r v)=true:=by
  simp only[numE,wiB]
  rw[if_pos (.inr trivial)]
  simp only[Bool.and_eq_true,decide_eq_true_eq]
  omega
 unfold chkEv
 have hp:shp 2=((true,false,false,false,false,true,()),true):=rfl
 simp only[hp]
 rw[if_neg (by decide)]
 unfold chkS
 rw[hn,hm]
 simp[hr]
theorem zsw{kind n:Int}(hk:kind=5∨kind=6∨kind=7∨kind=8)(hv:1≤n∧n≤2147483647):chkEv (evN kind n)=0:=by
 have hn:noneE (true,false,false,false,false,false,()) (evN kind n)=true:=by
  have:sameC noCfg noCfg=true:=by decide
  simp[noneE,bareE,noRt15,this]
 have hm:numE (evN kind n)=true:=by
  simp only[numE,wiB]
  rw[if_neg (by omega),if_neg (by omega)]
  simp only[Bool.and_eq_true,decide_eq_true_eq]
  omega
 have hp:shp kind=((true,false,false,false,false,false,()),true):=by rcases hk with rfl | rfl | rfl | rfl<;>rfl
 unfold chkEv
 simp only[hp]
 rw[if_neg (by decide)]
 unfold chkS
 rw[hn,hm]
 simp
theorem zto{n draw:Int}{name tag:ByteArray}(hnm:shortB name.data.toList 16=true)(ht:tag=s_∨shortB tag.data.toList 8=true)(hv:1≤n∧n≤2147483647)(hd:0≤draw∧draw≤2147483647):chkEv (evAr n name tag draw)=0:=by
 have hn:noneE (true,true,true,true,false,false,()) (evAr n name tag draw)=true:=by
  have:sameC noCfg noCfg=true:=by decide
  simp[noneE,bareE,noRt15,this]
 have hm:numE (evAr n name tag draw)=true:=by
  simp only[numE,wiB]
  rw[if_neg (by decide),if_neg (by decide)]
  simp only[Bool.and_eq_true,decide_eq_true_eq]
  omega
 have hnn:namedE (evAr n name tag draw)=true:=by unfold namedE;rw[if_neg (show ¬((4:Int)=12∨(4:Int)=13)by decide)];exact hnm
 have hdd:wiB draw 0 2147483647=true:=by unfold wiB;simp;omega
 have htt:¬(tag≠s_∧shortB tag.data.toList 8=false):=by
  rintro⟨h1,h2⟩
  rcases ht with e | e
  ·exact h1 e
  ·rw[e]at h2;cases h2
 unfold chkEv
 have hp:shp 4=((true,true,true,true,false,false,()),true):=rfl
 simp only[hp]
 rw[if_neg (by decide)]
 unfold chkS
 rw[hn,hm,hnn,hdd]
 simp only[reduceCtorEq,if_false,and_false,true_and,if_neg htt]
theorem zhq:RevN z2O:=⟨s_web,1,by decide,by decide,by decide,by decide +kernel⟩
abbrev cfgW(img conc min max grace:Int):Cfg:=(s_web,img,conc,min,max,grace,())
abbrev rtF:ARt:=⟨z2j,s_web,[(s_,s_,(100:Int),())],0⟩
abbrev rdyEvs(b4:Nat)(c:Cfg):List AEv:=[evC 0 c,evR 0 rtF ⟨some ⟨b4,0,none⟩,1,1⟩,evNm 10 s_web,evNm 13 z2O,evN 6 1,evNm 11 z2j]
abbrev rdyA(room line pat:Int)(c:Cfg):ASys:=
 ⟨⟨[(s_web,thgOf c 1 1 true)],[(z2j,⟨rtF,2,1,true⟩)],2⟩,⟨[(z2O,rvOf z2O 1 c)],[(z2O,true)]⟩,
  [(z2j,⟨[(z2O,(100:Int),())],[(z2O,(100:Int),())],0,0,[(z2O,(100:Int),())],[]⟩)],⟨room,1,[⟨1,z2O,⟨2,c.2.2.1,[]⟩⟩]⟩,⟨[],[(z2O,[])],line,pat⟩,[(z2O,⟨[],1,0⟩)],0⟩
abbrev rdyOuts:List (List ByteArray):=[[lineB (lineB zcx [s_web]) [decD 1]],[lineB (lineB zjL [z2j]) [decD 2]],[lineB z91 [z2O],lineB (lineB s_scale [z2O]) [decD 1]],
 [lineB znc [decD 1],lineB (lineB s_fleet [z2O]) [decD 1]],[lineB s_up [decD 1],lineB zcw [z2O]],[s_table_front_web_1_100]]
theorem do_C{a:ASys}{ver:Int}{c:Cfg}(hv:0≤ver∧ver≤2147483647)(hc:specC c=0)(hm:mayC (tget a.sh.m c.1) ver true=0) :
  sysDo a (evC ver c)=({ a with sh:=⟨putC a.sh.m c.1 c (a.sh.n+1),a.sh.r,a.sh.n+1⟩ },[lineB (lineB zcx [c.1]) [decD (a.sh.n+1).toNat]]):=by
 rw[zfk (zsx hv hc) rfl]
 unfold sysConfig
 dsimp only
 rw[zs7 hc hm]
 dsimp only
 unfold putB
 rw[if_pos rfl]
abbrev rdy1(room line pat:Int)(c:Cfg):ASys:={ newSys room line pat with sh:=⟨[(s_web,thgOf c 1 1 true)],[],1⟩ }
abbrev webC(c:Cfg):Cfg:=(s_web,c.2)
theorem zs6{b4 b5:Nat}{c:Cfg}{s:Seg}:∀e∈rdyEvs b4 c,EvIn w0 (s::evB b5 (rdyEvs b4 c)::[Cl b4 z09 [.string s_,.string s_,I 100]]::E) 0 e:=by
 intro e he
 simp only[rdyEvs,List.mem_cons,List.not_mem_nil,or_false]at he
 rcases he with rfl | rfl | rfl | rfl | rfl | rfl
 ·exact EvIn.plain rfl rfl fun h=>absurd h (show ¬((1:Int)=12∨(1:Int)=13)by decide)
 ·refine⟨?_,Nat.le_refl 1,(fun h=>by cases h),(fun t ht=>?_),fun h=>absurd h (show ¬((2:Int)=12∨(2:Int)=13)by decide)⟩
  ·exact Rw.re encT 1 rfl (Rw.lit b4 rtF.ts encT rfl rfl (by decide))
  ·rw[List.mem_singleton]at ht
   subst ht
   exact .inl rfl
 ·exact EvIn.plain rfl rfl fun h=>absurd h (show ¬((10:Int)=12∨(10:Int)=13)by decide)
 ·exact EvIn.plain rfl rfl fun _=>zhq
 ·exact EvIn.plain rfl rfl fun h=>absurd h (show ¬((6:Int)=12∨(6:Int)=13)by decide)
 ·exact EvIn.plain rfl rfl fun h=>absurd h (show ¬((11:Int)=12∨(11:Int)=13)by decide)
abbrev RdyOk(room line pat:Int)(c:Cfg):Prop:=∀b4,(sysRun (rdy1 room line pat c) (rdyEvs b4 c).tail,sysOuts (rdy1 room line pat c) (rdyEvs b4 c).tail)=(rdyA room line pat c,rdyOuts.tail)
theorem zqJ{room line pat:Int}{c:Cfg}(hc:specC (webC c)=0)(hr:RdyOk room line pat (webC c))(b4:Nat):sysRun (newSys room line pat) (rdyEvs b4 (webC c))=rdyA room line pat (webC c)∧sysOuts (newSys room line pat) (rdyEvs b4 (webC c))=rdyOuts:=by
 have h1:=do_C (a:=newSys room line pat) (ver:=0) ⟨by decide,by decide⟩ hc (by rfl)
 have h2:=hr b4
 simp only[Prod.mk.injEq]at h2
 have e:(sysDo (newSys room line pat) (evC 0 (webC c))).1=rdy1 room line pat (webC c):=by rw[h1];rfl
 have e2:(sysDo (newSys room line pat) (evC 0 (webC c))).2 = [lineB (lineB zcx [s_web]) [decD 1]]:=by rw[h1];rfl
 constructor
 ·show sysRun (newSys room line pat) (evC 0 (webC c)::(rdyEvs b4 (webC c)).tail)=_
  rw[zfi,e,h2.1]
 ·show sysOuts (newSys room line pat) (evC 0 (webC c)::(rdyEvs b4 (webC c)).tail)=_
  rw[ze4,e,e2,h2.2]
  rfl
theorem zti{ks:Int→Bool}(hks:(ks 1&&ks 2&&ks 10&&ks 13&&ks 6&&ks 11)=true){b4:Nat}{c:Cfg}(hc:specC c=0):∀e∈rdyEvs b4 c,ks e.kind=true∧chkEv e=0:=by
 simp only[Bool.and_eq_true]at hks
 obtain⟨⟨⟨⟨⟨k1,k2⟩,k10⟩,k13⟩,k6⟩,k11⟩:=hks
 intro e he
 simp only[rdyEvs,List.mem_cons,List.not_mem_nil,or_false]at he
 rcases he with rfl | rfl | rfl | rfl | rfl | rfl
 ·exact⟨k1,zsx ⟨by decide,by decide⟩ hc⟩
 ·exact⟨k2,ztn ⟨by decide,by decide⟩ (by decide +kernel)⟩
 ·exact⟨k10,by decide +kernel⟩
 ·exact⟨k13,by decide +kernel⟩
 ·exact⟨k6,by decide +kernel⟩
 ·exact⟨k11,by decide +kernel⟩
theorem zrk{ks:Int→Bool}[Kn w0 ks](hks:(ks 1&&ks 2&&ks 10&&ks 13&&ks 6&&ks 11)=true)(h:St w0 E w){c:Cfg}{room line pat:Int}(hc:specC (webC c)=0)(hnew:newOk room line pat=true)(hroom:room≤30)(hr:RdyOk room line pat (webC c)){k:Option Addr×Bool×Unit→PT}
  (hk:∀b s w',SysS b (rdyA room line pat (webC c)) s→SInv 12 (rdyA room line pat (webC c))→St w0 (s::E) w'→k (some ⟨b,0,none⟩,true,()) w') :
  L.call Pr z5F [.agg (Cfg.cells c).toArray,I room,I line,I pat] (.tup [.one .ptr,.one .bool]) k w:=by
 refine z00 (zcj c room line pat) ?_
 unfold z8a
 refine nw h ?_;clear h;(try clear w);intro b1 w h
 refine zli h (fun hh=>by rw[hnew]at hh;cases hh) fun _ b s w hs h=>?_
 refine itF rfl (itF rfl ?_)
 (refine stC h ?_;clear h;(try clear w);intro w h;dsimp only[putN,setN]at h;refine laC h ?_)
 refine nw h ?_;clear h;(try clear w);intro b4 w h
 refine nw h ?_;clear h;(try clear w);intro b5 w h
 obtain⟨er,eo⟩:=zqJ hc hr b4
 have inv0:=zqU hnew hroom
 have h:St w0 (evB b5 (rdyEvs b4 (webC c))::[Cl b4 z09 [.string s_,.string s_,I 100]]::s::[Cl b1 z05 (Cfg.cells (webC c))]::E) w:=h
 have h:=fr2_ h
 have hke:=zti hks (b4:=b4) hc
 have ev:=fun s=>zs6 (w0:=w0) (b4:=b4) (b5:=b5) (c:=webC c) (s:=s) (E:=[Cl b1 z05 (Cfg.cells (webC c))]::E)
 generalize hl:rdyEvs b4 (webC c)=l at *
 have h6:l.length=6:=by rw[←hl];rfl
 refine z0D (fun q y w=>∃(j:Nat)(s:Seg),@Eq Int y.2.1 j∧q+j=6∧SysS b (sysRun (newSys room line pat) (l.take j)) s∧SInv (0+2*j) (sysRun (newSys room line pat) (l.take j))∧
  (j=0∨∃o,(sysOuts (newSys room line pat) l)[j-1]? = some o∧o.getLast? = some y.1)∧St w0 (s::evB b5 l::[Cl b4 z09 [.string s_,.string s_,I 100]]::[Cl b1 z05 (Cfg.cells (webC c))]::E) w) 6 ⟨0,s,rfl,rfl,hs,inv0,.inl rfl,h⟩ ?_
 clear hs inv0
 clear h;(try clear w)
 rintro q ⟨la,y,⟨⟩⟩ w ⟨j,s,hy,hq,hs,inv,hla,h⟩ again hag
 (try dsimp only)
 simp only at hy hla
 subst hy
 refine it (fun hb=>?_) (fun hb=>?_)<;>(try simp only[zB]at hb)
 ·have hj:j<l.length:=by omega
  have hx:l[j]? = some l[j]:=List.getElem?_eq_getElem hj
  have hnn:=zkA (l.take j) (newSys room line pat)
  have hn0:(newSys room line pat).sh.n=0:=rfl
  have hlt:(l.take j).length≤j:=by rw[List.length_take];omega
  have ho:=zfj (a:=newSys room line pat) hx
  refine zpM (ks:=ks) h6.symm (by decide) hx h hs (hke _ (List.getElem_mem hj)) (ev s _ (List.getElem_mem hj)) inv (by omega) (by omega) fun v sv s' w r hs i2 h=>?_
  have hne:∃z zs,(sysDo (sysRun (newSys room line pat) (l.take j)) l[j]).2=zs++[z]:=by
   rw[eo]at ho
   have:j=0∨j=1∨j=2∨j=3∨j=4∨j=5:=by omega
   rcases this with rfl | rfl | rfl | rfl | rfl | rfl<;>(simp only[rdyOuts,List.getElem?_cons_zero,List.getElem?_cons_succ,Option.some.injEq]at ho;rw[←ho])
   ·exact⟨_,[],rfl⟩
   ·exact⟨_,[],rfl⟩
   ·exact⟨_,[_],rfl⟩
   ·exact⟨_,[_],rfl⟩
   ·exact⟨_,[_],rfl⟩
   ·exact⟨_,[],rfl⟩
  obtain⟨z,zs,ez⟩:=hne
  have hlen:=Rw.len encS r
  rw[ez]at hlen ho
  simp only[List.length_append,List.length_cons,List.length_nil]at hlen
  have hsm:=Rw.cap r
  have hml:maxLen=9223372036854775807:=rfl
  refine itF (by rw[hlen];simp;omega) ?_
  have ew:IntKind.wrap .i64 (((v.len:Nat):Int)-1)=((zs.length:Nat):Int):=by rw[hlen,wr (by omega) (by omega)];omega
  rw[ew]
  refine Rw.ix encS r (by omega) (by rw[ez,Int.toNat_natCast];simp) fun a11 ha=>?_
  rw[Int.toNat_natCast]at ha
  refine Rw.ld0 encS h 0 rfl r ha (x:=z) (by rw[ez];simp) rfl rfl ?_
  refine hag (q-1) _ w (by omega) ⟨j+1,s',?_,by omega,?_,?_,.inr ⟨_,ho,by simp⟩,dl0_ h⟩
  ·show IntKind.wrap .i64 _=_
   rw[wr (by omega) (by omega)];omega
  ·rw[zfh hx];exact hs
  ·rw[zfh hx];exact i2
 ·have ej:l.take j=l:=List.take_of_length_le (by omega)
  have e:j=6:=by omega
  rw[ej]at hs inv
  subst e
  rcases hla with e0 | ⟨o,ho,hlo⟩
  ·cases e0
  ·rw[eo]at ho
   have e1:o = [s_table_front_web_1_100]:=by simpa [rdyOuts]using ho.symm
   rw[e1]at hlo
   have e2:la=s_table_front_web_1_100:=by simpa using hlo.symm
   rw[er]at hs inv
   refine⟨(some ⟨b,0,none⟩,true,()),?_,hk b s w hs inv (dl1_ (dl1_ (dl1_ h)))⟩
   rw[e2]
   show Value.tuple #[_,.bool (s_table_front_web_1_100.toList == s_table_front_web_1_100.toList)]=_
   simp
   rfl
theorem zmg(h:St w0 E w)(i:Nat){b:Nat}{a:ASys}{s:Seg}(hi:nth E i=some s)(hs:SysS b a s){rev:ByteArray}{k:Int→PT}(hk:k (wantB a.by' rev) w):L.call Pr z2J [.pointer (some ⟨b,0,none⟩),.string rev] (.one (.one (.int .i64))) k w:=by
 obtain⟨p,sg,sf,ss,sk,sr,sm,Q,R,rfl⟩:=hs
 have h:=(h.front i hi).split8
 rw[R.ab]at hk
 exact zjb h (i:=0) (j:=6) (l:=7) rfl rfl rfl R.mp hk
theorem zc1(h:St w0 E w)(i:Nat){b:Nat}{a:ASys}{s:Seg}(hi:nth E i=some s)(hs:SysS b a s){rev:ByteArray}{k:Sl×Sl×Unit→PT}
  (hk:∀v1 v2 s1 s2 s' w',Rw eI z0g 1 v1 (gWait a.gt rev) s1→Rw eI z0g 1 v2 (gWith a.gt.all rev) s2→SysS b a s'→St w0 (s1::s2::setN E i s') w'→k (v1,v2,()) w') :
  L.call Pr z2h [.pointer (some ⟨b,0,none⟩),.string rev] (.tup [.one .slice,.one .slice]) k w:=by
 obtain⟨p,sg,sf,ss,sk,sr,sm,Q,R,rfl⟩:=hs
 refine z00 (zaf _ _) ?_
 unfold z6q
 have h:=(h.front i hi).split8
 (refine nn ?_;refine ldC h ?_)
 have h:=fr1_ h
 refine zjh h R.gt fun v1 v2 s1 s2 sg' w r1 r2 hG h=>?_
 refine⟨(v1,v2,()),rfl,hk v1 v2 s1 s2 _ w r1 r2 ⟨p,sg',sf,ss,sk,sr,sm,Q,⟨hG,R.fl,R.sh,R.bk,R.ro,R.mp,R.ea,R.ab⟩,rfl⟩ ?_⟩
 have h:=fr9_ (fr8_ (fr9_ (fr9_ (fr9_ (fr9_ (fr9_ (fr9_ (fr1_ (fr1_ h)))))))))
 exact St.back (E:=s1::s2::E) (i+2) hi h.glue8
theorem zoe{s n c:Int}(hs:0≤s∧s≤1000000000)(hn:0≤n∧n≤1000)(hc:1≤c∧c≤1000){k:Int→PT}(hk:k (scNeed s n c) w):L.call Pr z4l [I s,I n,I c] (.one (.one (.int .i64))) k w:=by
 refine z00 (zdq s n c) ?_
 unfold z8S
 unfold scNeed at hk
 have h0:0≤n*c:=Int.mul_nonneg hn.1 (by omega)
 have h1:n*c≤1000*1000:=Int.mul_le_mul hn.2 hc.2 (by omega) (by omega)
 refine it (fun hb=>?_) (fun hb=>?_)<;>(try simp only[zB]at hb)
 ·rw[if_pos (by omega)]at hk
  exact⟨_,rfl,hk⟩
 ·rw[if_neg (by omega),if_neg (by omega)]at hk
  have h2:0<n*c:=Int.mul_pos (by omega) (by omega)
  generalize n*c=p at *
  have e1:IntKind.wrap .i64 p=p:=wr (by omega) (by omega)
  have e2:IntKind.wrap .i64 (s+p)=s+p:=wr (by omega) (by omega)
  have e3:IntKind.wrap .i64 (s+p-1)=s+p-1:=wr (by omega) (by omega)
  rw[e1,e2,e3]
  refine gd (by omega) ?_
  have e4:Int.tdiv (s+p-1) p=(s+p-1)/p:=Int.tdiv_eq_ediv_of_nonneg (by omega)
  have e5:(s+p-1)/p≤s+p-1:=Int.ediv_le_self _ (by omega)
  have e6:0≤(s+p-1)/p:=Int.ediv_nonneg (by omega) (by omega)
  refine⟨_,rfl,?_⟩
  rw[e4,wr (by omega) (by omega)]
  exact hk
theorem zim{s n c:Int}(hs:0≤s∧s≤1000000000)(hn:0≤n∧n≤1000)(hc:1≤c∧c≤1000):0≤scNeed s n c∧scNeed s n c≤2000000000:=by
 unfold scNeed
 have h0:0≤n*c:=Int.mul_nonneg hn.1 (by omega)
 have h1:n*c≤1000*1000:=Int.mul_le_mul hn.2 hc.2 (by omega) (by omega)
 split
 ·omega
 rw[if_neg (by omega)]
 rename_i hb
 have h2:0<n*c:=Int.mul_pos (by omega) (by omega)
 generalize n*c=p at *
 have e5:(s+p-1)/p≤s+p-1:=Int.ediv_le_self _ (by omega)
 have e6:0≤(s+p-1)/p:=Int.ediv_nonneg (by omega) (by omega)
 omega
theorem zsf(x a b:Int):mx2 (mx2 x a) b=(if x>(if b>a then b else a)then x else(if b>a then b else a)):=by
 unfold mx2
 by_cases p:b>a
 ·by_cases q:a>x
  ·rw[if_pos q,if_pos p,if_neg (by omega)]
  ·rw[if_neg q,if_pos p];split<;>split<;>omega
 ·by_cases q:a>x
  ·rw[if_pos q,if_neg p,if_neg (by omega)]
  ·rw[if_neg q,if_neg p];split<;>split<;>omega
theorem zof(h:St w0 E w){want left:Int}{cn:ByteArray}{img conc mi ma gr ready busy st sts sh shs idle:Int}(hl:0≤left∧left≤1000)(hc:1≤conc∧conc≤1000)(hr:0≤ready∧ready≤1000000)
  (h1:0≤st∧st≤1000000000) (h2:0≤sts∧sts≤1000) (h3:0≤sh∧sh≤1000000000) (h4:0≤shs∧shs≤1000) {k:Int×Int×Unit→PT}
  (hk:∀w',St w0 E w'→k ((scDec want left (cn,img,conc,mi,ma,gr,()) ready busy st sts sh shs idle).1,(scDec want left (cn,img,conc,mi,ma,gr,()) ready busy st sts sh shs idle).2,()) w') :
  L.call Pr z5f [.agg #[I want,I left],.agg #[.string cn,I img,I conc,I mi,I ma,I gr],I ready,I busy,I st,I sts,I sh,I shs,I idle] (.one (.agg [.int .i64,.int .i64])) k w:=by
 refine z00 (zbs (want,left,()) (cn,img,conc,mi,ma,gr,()) ready busy st sts sh shs idle) ?_
 unfold z7n
 unfold scDec at hk
 dsimp only at hk ⊢
 refine nw h ?_;clear h;(try clear w);intro b1 w h
 refine nw h ?_;clear h;(try clear w);intro b2 w h
 refine nw h ?_;clear h;(try clear w);intro b3 w h
 (refine dr h ?_;clear h;(try clear w);intro w h;refine ldC h ?_;refine ldC h ?_)
 refine zoe h1 h2 hc ?_
 (refine ckC h ?_)
 refine zoe h3 h4 hc ?_
 have na:=zim h1 h2 hc
 have nb:=zim h3 h4 hc
 generalize scNeed st sts conc=a at *
 generalize scNeed sh shs conc=b at *
 have hm:=(show 1≤scM ready∧scM ready≤1000000 by unfold scM;split<;>omega)
 have em:(if ready>1 then ready else 1)=scM ready:=rfl
 rw[em]
 have e1:IntKind.wrap .i64 (2*scM ready)=2*scM ready:=wr (by omega) (by omega)
 have e2:IntKind.wrap .i64 (4*scM ready)=4*scM ready:=wr (by omega) (by omega)
 have e3:IntKind.wrap .i64 (left-1)=left-1:=wr (by omega) (by omega)
 rw[e1,e2]
 generalize scM ready=m at *
 (refine ldC h ?_)
 rw[e3]
 refine nw h ?_;clear h;(try clear w);intro b9 w h
 (refine stC h ?_;clear h;(try clear w);intro w h;dsimp only[putN,setN]at h)
 refine z18 (fun _ w=>St w0 ([Cl b9 z0G [I a,I (scLeft left b m)]]::[Cl b3 z0G [I 0,I 0]]::[Cl b2 z05 [.string cn,I img,I conc,I mi,I ma,I gr]]::[Cl b1 z0G [I want,I left]]::E) w) (fun k' hk'=>?_) ?_
 ·unfold scLeft at hk'
  refine it (fun hb=>?_) (fun hb=>?_)<;>(try simp only[zB]at hb)
  ·rw[if_pos hb]at hk'
   (refine stC h ?_;clear h;(try clear w);intro w h;dsimp only[putN,setN]at h)
   exact hk' () w h
  ·rw[if_neg hb]at hk'
   have e4:(if 0>left-1 then 0 else left-1)=(if left-1>0 then left-1 else 0):=by split<;>split<;>omega
   rw[e4]at hk'
   exact hk' () w h
 generalize scLeft left b m=l' at *
 clear h;(try clear w)
 rintro-w h
 (try dsimp only)
 refine z18 (fun _ w=>St w0 ([Cl b9 z0G [I (scW1 want l' a b),I l']]::[Cl b3 z0G [I 0,I 0]]::[Cl b2 z05 [.string cn,I img,I conc,I mi,I ma,I gr]]::[Cl b1 z0G [I want,I left]]::E) w) (fun k' hk'=>?_) ?_
 ·unfold scW1 at hk'
  (refine ldC h ?_)
  refine it (fun hb=>?_) (fun hb=>?_)<;>(try simp only[zB]at hb)
  ·rw[if_pos hb]at hk'
   (refine ldC h ?_;refine stC h ?_;clear h;(try clear w);intro w h;dsimp only[putN,setN]at h)
   have e4:=zsf want a b
   rw[e4]at hk'
   exact hk' () w h
  ·rw[if_neg hb]at hk'
   exact hk' () w h
 generalize hw1:scW1 want l' a b=w1 at *
 clear h;(try clear w)
 rintro-w h
 (try dsimp only)
 refine z18 (fun _ w=>St w0 ([Cl b9 z0G [I (scW2 w1 want busy idle gr),I l']]::[Cl b3 z0G [I 0,I 0]]::[Cl b2 z05 [.string cn,I img,I conc,I mi,I ma,I gr]]::[Cl b1 z0G [I want,I left]]::E) w) (fun k' hk'=>?_) ?_
 ·unfold scW2 at hk'
  (refine ldC h ?_)
  refine it (fun hb=>?_) (fun hb=>?_)<;>(try simp only[zB]at hb)
  ·refine it (fun hb2=>?_) (fun hb2=>?_)<;>(try simp only[zB]at hb2)
   ·rw[if_pos ⟨hb,.inl hb2⟩]at hk'
    (refine stC h ?_;clear h;(try clear w);intro w h;dsimp only[putN,setN]at h)
    exact hk' () w h
   ·(refine ldC h ?_)
    refine it (fun hb3=>?_) (fun hb3=>?_)<;>(try simp only[zB]at hb3)
    ·(refine ldC h ?_)
     refine it (fun hb4=>?_) (fun hb4=>?_)<;>(try simp only[zB]at hb4)
     ·rw[if_pos ⟨hb,.inr ⟨hb3,hb4⟩⟩]at hk'
      (refine stC h ?_;clear h;(try clear w);intro w h;dsimp only[putN,setN]at h)
      exact hk' () w h
     ·rw[if_neg (by omega)]at hk'
      exact hk' () w h
    ·rw[if_neg (by omega)]at hk'
     exact hk' () w h
  ·rw[if_neg (fun hh=>hb hh.1)]at hk'
   exact hk' () w h
 generalize scW2 w1 want busy idle gr=w2 at *
 clear h;(try clear w)
 rintro-w h
 (try dsimp only)
 (refine ldC h ?_;refine stC h ?_;clear h;(try clear w);intro w h;dsimp only[putN,setN]at h;refine ldC h ?_)
 refine gd (by decide) ?_
 (refine stC h ?_;clear h;(try clear w);intro w h;dsimp only[putN,setN]at h;refine ldC h ?_;refine ldC h ?_;refine stC h ?_;clear h;(try clear w);intro w h;dsimp only[putN,setN]at h;refine ldC h ?_;refine ldC h ?_;refine stC h ?_;clear h;(try clear w);intro w h;dsimp only[putN,setN]at h;refine laC h ?_;refine stC h ?_;clear h;(try clear w);intro w h;dsimp only[putN,setN]at h;refine laC h ?_)
 have e5:Int.tdiv ready 2=ready/2:=Int.tdiv_eq_ediv_of_nonneg hr.1
 have e6:IntKind.wrap .i64 (Int.tdiv ready 2)=ready/2:=by rw[e5];exact wr (by omega) (by omega)
 rw[e6]
 refine⟨(_,_,()),rfl,?_⟩
 have e7:scEnd w2 ready mi ma=(if ma<(if mi>(if ready/2>(if 4*m<w2 then 4*m else w2)then ready/2 else(if 4*m<w2 then 4*m else w2))then mi else(if ready/2>(if 4*m<w2 then 4*m else w2)then ready/2 else(if 4*m<w2 then 4*m else w2)))then ma else(if mi>(if ready/2>(if 4*m<w2 then 4*m else w2)then ready/2 else(if 4*m<w2 then 4*m else w2))then mi else(if ready/2>(if 4*m<w2 then 4*m else w2)then ready/2 else(if 4*m<w2 then 4*m else w2)))):=by
  rw[←em];rfl
 rw[e7]at hk
 refine hk w ?_
 have h:=dl0_ (dl1_ (dl2_ (dl3_ h)))
 exact h
theorem zk0{B:Int}(hB:0≤B):∀{l:List Int},(∀x∈l,0≤x∧x≤B)→0≤isum l∧isum l≤B*l.length
 | [],_=>by simp[isum]
 | x::l,h=>by
  have h1:=h x (by simp)
  have h2:=zk0 hB (l:=l) fun y hy=>h y (by simp[hy])
  have e:isum (x::l)=x+isum l:=by simp[isum]
  rw[e,List.length_cons]
  have e2:B*((l.length+1:Nat):Int)=B*l.length+B:=by push_cast;rw[Int.mul_add];omega
  rw[e2]
  omega
theorem zo9(h:St w0 E w)(i:Nat){s:Seg}(hi:nth E i=some s){v:Sl}{l:List Int}(hr:Rw eI z0g 1 v l s)(hl:l.length≤1000)(hb:∀x∈l,0≤x∧x≤1000000){n:Nat}(hn:n≤60){k:Int×Int×Unit→PT}
  (hk:k (lastS l (min l.length n),((min l.length n:Nat):Int),()) w):L.call Pr z4U [SlV v,I n] (.tup [.one (.int .i64),.one (.int .i64)]) k w:=by
 refine z00 (ze0 v n) ?_
 unfold z9j
 have hlen:=Rw.len encI hr
 have em:(if((v.len:Nat):Int)<(n:Int)then((v.len:Nat):Int)else(n:Int))=((min l.length n:Nat):Int):=by rw[hlen];split<;>omega
 rw[em]
 rw[zgN]at hk
 obtain⟨d,hd⟩:∃d,d=l.length-min l.length n:=⟨_,rfl⟩
 rw[←hd]at hk
 have e1:IntKind.wrap .i64 (((v.len:Nat):Int)-((min l.length n:Nat):Int))=(d:Int):=by rw[wr (by omega) (by omega)];omega
 rw[e1]
 refine z0D (fun q y w'=>∃j:Nat,y=(isum ((l.drop d).take j),((d+j:Nat):Int),())∧q+j=l.length-d∧St w0 E w'∧w'=w) (l.length-d) ⟨0,by simp[isum],by omega,h,rfl⟩ ?_
 rintro q y w' ⟨j,rfl,hq,h',rfl⟩ again hag
 (try dsimp only)
 refine it (fun hc=>?_) (fun hc=>?_)<;>(try simp only[zB]at hc)
 ·have hj:d+j<l.length:=by omega
  have hx:l[d+j]? = some l[d+j]:=List.getElem?_eq_getElem hj
  have hxm:=hb l[d+j] (List.getElem_mem hj)
  generalize l[d+j]=x at hx hxm
  refine Rw.ix encI hr (by omega) (by omega) fun a ha=>?_
  rw[Int.toNat_natCast]at ha
  refine Rw.ld0 encI h' i hi hr ha (x:=x) hx rfl rfl ?_
  have ht:(l.drop d).take (j+1)=(l.drop d).take j++[x]:=by rw[List.take_add_one,List.getElem?_drop,hx];rfl
  have hs:isum ((l.drop d).take (j+1))=isum ((l.drop d).take j)+x:=by rw[ht,zhA];simp[isum]
  have hbd:=zk0 (B:=1000000) (by decide) (l:=(l.drop d).take j) fun y hy=>hb y (List.mem_of_mem_drop (List.mem_of_mem_take hy))
  have hlj:(((l.drop d).take j).length:Int)≤1000:=by
   rw[List.length_take,List.length_drop];omega
  have hbd2:isum ((l.drop d).take j)≤1000000*1000:=Int.le_trans hbd.2 (Int.mul_le_mul_of_nonneg_left hlj (by decide))
  refine hag (q-1) _ w' (by omega) ⟨j+1,?_,by omega,h',rfl⟩
  rw[hs,wr (by omega) (by omega),wr (by omega) (by omega)]
  rfl
 ·have e:(l.drop d).take j=l.drop d:=List.take_of_length_le (by rw[List.length_drop];omega)
  rw[e]
  exact⟨(_,_,()),rfl,hk⟩
theorem zrY(img conc max grace:Int):RdyOk 30 8 50 (cfgW img conc 0 max grace):=fun b4=>by kernel_rfl
abbrev wv:ByteArray:=z2O
abbrev ftR:ARoll:=[(z2j,⟨[(wv,(100:Int),())],[(wv,(100:Int),())],0,0,[(wv,(100:Int),())],[]⟩)]
structure ScI(c:Cfg)(xs:List Int)(want left:Int)(a:ASys):Prop where
 bk:a.bk.all = [(wv,rvOf wv 1 c)]
 by':a.by' = [(wv,⟨xs,want,left⟩)]
 ro:a.ro=ftR
 sh:a.sh.n=2
abbrev lnW(a:ASys):List (Int×Int):=lineOf a.gt.lines wv
abbrev Wt(want0 want:Int)(a:ASys):Prop:=want=if want0=0∧lnW a≠[]then 1 else want0
theorem zs0{c:Cfg}{xs:List Int}{want left:Int}{a:ASys}(I:ScI c xs want left a)(n:Int):bnd a (evAr n z2j s_ 0)=wv:=by
 unfold bnd
 dsimp only
 rw[I.ro]
 exact(show(if(mget ftR z2j).isSome=false then s_ else if s_=s_ then tPick (roTab ftR z2j) 0 else(tagL (roTab ftR z2j).tg s_).1)=wv by decide +kernel)
theorem z7P(ls:List (ByteArray×List (Int×Int)))(rev:ByteArray)(l:List (Int×Int)):lineOf (mset ls rev l) rev=l:=by
 unfold lineOf
 rw[z47,if_pos rfl];rfl
theorem znM(F:AFleet)(G:AGate)(id:Int){rev:ByteArray}(hr:rev≠s_)(now:Int) :
  ((gArr F G id rev now).2.2.2.1=2∧lineOf (gArr F G id rev now).2.1.lines rev≠[])∨((gArr F G id rev now).2.2.2.1≠2∧lineOf (gArr F G id rev now).2.1.lines rev=lineOf G.lines rev):=by
 unfold gArr
 split
 ·exact .inr ⟨by simp,rfl⟩
 split
 ·exact .inr ⟨by simp,z7P ..⟩
 split
 ·exact .inr ⟨by simp,z7P ..⟩
 ·rename_i h
  refine .inl ⟨rfl,?_⟩
  dsimp only
  rw[z7P]
  unfold lPush at h ⊢
  split
  ·rename_i h1;rw[if_pos h1]at h;simp at h
  ·rename_i h1
   rw[if_neg h1]at h
   split
   ·rename_i h2;rw[if_pos h2]at h;simp at h
   ·simp
theorem zn3{c:Cfg}{xs:List Int}{want0 want left n:Int}{a:ASys}(I:ScI c xs want left a)(W:Wt want0 want a)(hb:chkEv (evAr n z2j s_ 0)=0):∃want',ScI c xs want' left (sysDo a (evAr n z2j s_ 0)).1∧Wt want0 want' (sysDo a (evAr n z2j s_ 0)).1:=by
 rw[zdF hb rfl]
 have hg:=znM a.fl a.gt n (rev:=wv) (by decide) a.now
 unfold sysArrive pokes arG
 rw[zs0 I n,I.by']
 have e1:mget [(wv,(⟨xs,want,left⟩:ABes))] wv=some ⟨xs,want,left⟩:=by unfold mget;rw[if_pos rfl]
 rw[e1]
 dsimp only
 have e2:∀y:ABes,mset [(wv,(⟨xs,want,left⟩:ABes))] wv y = [(wv,y)]:=fun y=>by unfold mset;rw[if_pos rfl]
 rcases hg with ⟨g1,g2⟩ | ⟨g1,g2⟩
 ·by_cases hw:want=0
  ·rw[if_pos ⟨g1,hw⟩]
   dsimp only
   rw[e2]
   refine⟨1,⟨I.bk,rfl,I.ro,I.sh⟩,?_⟩
   show(1:Int)=if want0=0∧lineOf (gArr a.fl a.gt n wv a.now).2.1.lines wv≠[]then 1 else want0
   by_cases h0:want0=0
   ·rw[if_pos ⟨h0,g2⟩]
   ·rw[if_neg (fun hh=>h0 hh.1)]
    unfold Wt at W
    rw[if_neg (fun hh=>h0 hh.1)]at W
    exact absurd (W.symm.trans hw) h0
  ·rw[if_neg (fun hh=>hw hh.2)]
   dsimp only
   refine⟨want,⟨I.bk,rfl,I.ro,I.sh⟩,?_⟩
   show want=if want0=0∧lineOf (gArr a.fl a.gt n wv a.now).2.1.lines wv≠[]then 1 else want0
   unfold Wt at W
   by_cases h0:want0=0
   ·rw[if_pos ⟨h0,g2⟩]
    split at W
    ·exact W
    ·exact absurd (W.trans h0) hw
   ·rw[if_neg (fun hh=>h0 hh.1)]
    rw[if_neg (fun hh=>h0 hh.1)]at W
    exact W
 ·rw[if_neg (fun hh=>g1 hh.1)]
  dsimp only
  refine⟨want,⟨I.bk,rfl,I.ro,I.sh⟩,?_⟩
  show want=if want0=0∧lineOf (gArr a.fl a.gt n wv a.now).2.1.lines wv≠[]then 1 else want0
  rw[g2]
  exact W
theorem zqz{c:Cfg}{xs:List Int}{want left:Int}{a:ASys}(I:ScI c xs want left a)(ht:a.now<1048576):ScI c (xs++[if 0>busyB (sysDo a (evT0 9)).1.gt wv then 0 else busyB (sysDo a (evT0 9)).1.gt wv]) want left (sysDo a (evT0 9)).1:=by
 rw[zdC chk9 rfl]
 unfold sysTick
 rw[if_neg (show ¬a.now≥1048576 by omega)]
 refine⟨I.bk,?_,I.ro,I.sh⟩
 dsimp only
 have e:bkAll a.bk = [wv]:=by unfold bkAll;rw[I.bk];exact zmS _
 rw[e,I.by',List.foldl_cons,List.foldl_nil]
 unfold tkStep
 have e1:mget [(wv,(⟨xs,want,left⟩:ABes))] wv=some ⟨xs,want,left⟩:=by unfold mget;rw[if_pos rfl]
 rw[e1]
 dsimp only
 unfold mset
 rw[if_pos rfl]
theorem zqD{c:Cfg}{xs:List Int}{want left n:Int}{a:ASys}(I:ScI c xs want left a)(hb:chkEv (evN 5 n)=0):ScI c xs want left (sysDo a (evN 5 n)).1:=by
 rw[zdE hb rfl]
 unfold sysDone
 exact⟨I.bk,I.by',I.ro,I.sh⟩
theorem zth{c:Cfg}{xs:List Int}{want left n:Int}{a:ASys}(I:ScI c xs want left a)(hb:chkEv (evN 6 n)=0):ScI c xs want left (sysDo a (evN 6 n)).1:=by
 rw[zdD hb rfl]
 unfold sysUp
 split
 ·exact⟨I.bk,I.by',I.ro,I.sh⟩
 ·refine⟨?_,I.by',I.ro,I.sh⟩
  dsimp only
  have e:(upBk a (evN 6 n)).all=a.bk.all:=by
   unfold upBk bkProve
   repeat' split
   all_goals rfl
  rw[e]
  exact I.bk
theorem zqB{c:Cfg}{xs:List Int}{want left:Int}{a:ASys}(I:ScI c xs want left a)(hb:chkEv (evNm 13 wv)=0):ScI c xs want left (sysDo a (evNm 13 wv)).1:=by
 rw[zb7 hb rfl]
 unfold sysPods
 split
 ·exact I
 ·exact⟨I.bk,I.by',I.ro,I.sh⟩
theorem zoR{c:Cfg}{xs:List Int}{want left:Int}{a:ASys}(I:ScI c xs want left a)(hb:chkEv (evNm 12 wv)=0):ScI c xs (scOf a ⟨xs,want,left⟩ wv).1 (scOf a ⟨xs,want,left⟩ wv).2 (sysDo a (evNm 12 wv)).1∧
  (sysDo a (evNm 12 wv)).2 = [lineB (lineB s_scale [wv]) [decD (scOf a ⟨xs,want,left⟩ wv).1.toNat]]:=by
 rw[zb8 hb rfl]
 unfold sysScale
 have h1:bkHas a.bk wv=true:=by unfold bkHas;rw[I.bk];unfold mget;rw[if_pos rfl];rfl
 have e1:mget a.by' wv=some ⟨xs,want,left⟩:=by rw[I.by'];unfold mget;rw[if_pos rfl]
 dsimp only
 rw[h1,e1]
 dsimp only
 rw[if_neg (by decide)]
 refine⟨⟨I.bk,?_,I.ro,I.sh⟩,rfl⟩
 dsimp only
 rw[I.by']
 unfold mset
 rw[if_pos rfl]
abbrev gK(a:ASys):List Int:=a.gt.all.map (·.1)
theorem zgV{rev:ByteArray}:∀{l:List (Int×Int)}{F:AFleet}{all:Alls}{out:List Fate},(∀y∈l,(mget all y.1).isSome=true)→(flowA rev l F all out).2.1.map (·.1)=all.map (·.1)
 | [],_,_,_,_=>rfl
 | x::l,F,all,out,h=>by
  unfold flowA
  split
  ·obtain⟨v,hv⟩:=Option.isSome_iff_exists.1 (h x (by simp))
   exact(zgV (l:=l) fun y hy=>z6L _ _ _ _ (h y (by simp[hy]))).trans (z6M hv)
  ·rfl
theorem zgT{F:AFleet}{G:AGate}(wk:GWk G)(rev:ByteArray):(gFlow F G rev).2.1.all.map (·.1)=G.all.map (·.1):=zgV (wk.line rev)
theorem zm4{F:AFleet}{G:AGate}(wk:GWk G){id:Int}(h:(mget G.all id).isSome=true):(gDone F G id).2.1.all.map (·.1)=G.all.map (·.1):=by
 unfold gDone
 split
 ·rfl
 ·obtain⟨v,hv⟩:=Option.isSome_iff_exists.1 h
  exact(zgT (G:={ G with all:=mset G.all id ((fGive F id).2.1,3) }) (fun x hx y hy=>z6L _ _ _ _ (wk x hx y hy)) _).trans (z6M hv)
theorem zgy{now:Int}:∀{ks:List ByteArray}{G:AGate}{out:List Fate},GWk G→(tickA now ks G out).1.all.map (·.1)=G.all.map (·.1)
 | [],_,_,_=>rfl
 | k::ks,G,out,wk=>(zgy (ks:=ks) (wk.tick1 k now)).trans (z96 (wk.late k now))
theorem ziF{ls:List (ByteArray×List (Int×Int))}{rev r:ByteArray}{l:List (Int×Int)}(h:r≠rev):lineOf (mset ls rev l) r=lineOf ls r:=by
 unfold lineOf
 rw[z47,if_neg (fun e=>h e.symm)]
theorem ziR{F:AFleet}{G:AGate}{rev r:ByteArray}(h:lineOf G.lines r = []):lineOf (gFlow F G rev).2.1.lines r = []:=by
 show lineOf (mset G.lines rev (flowA rev (lineOf G.lines rev) F G.all []).2.2.1) r = []
 by_cases e:r=rev
 ·subst e
  rw[z7P,h];rfl
 ·rw[ziF e];exact h
theorem znJ{F:AFleet}{G:AGate}{id:Int}{r:ByteArray}(h:lineOf G.lines r = []):lineOf (gDone F G id).2.1.lines r = []:=by
 unfold gDone
 split
 ·exact h
 ·exact ziR (G:={ G with all:=mset G.all id ((fGive F id).2.1,3) }) h
theorem zih{now:Int}{r:ByteArray}:∀{ks:List ByteArray}{G:AGate}{out:List Fate},lineOf G.lines r = []→lineOf (tickA now ks G out).1.lines r = []
 | [],_,_,h=>h
 | k::ks,G,out,h=>by
  refine zih (ks:=ks) (G:=tick1 now k G) ?_
  show lineOf (mset G.lines k (lRest (lineOf G.lines k) now)) r = []
  by_cases e:r=k
  ·subst e
   rw[z7P,h];rfl
  ·rw[ziF e];exact h
structure ScE(a b:ASys):Prop where
 keys:gK b=gK a
 nil:lnW a = []→lnW b = []
theorem ScE.refl(a:ASys):ScE a a:=⟨rfl,id⟩
theorem ScE.trans{a b c:ASys}(h:ScE a b)(g:ScE b c):ScE a c:=⟨g.keys.trans h.keys,fun e=>g.nil (h.nil e)⟩
theorem zoP{k:Nat}{a:ASys}(inv:SInv k a){n:Int}(hs:(mget a.gt.all n).isSome=true)(hb:chkEv (evN 5 n)=0):ScE a (sysDo a (evN 5 n)).1:=by
 rw[zdE hb rfl]
 exact⟨zm4 inv.gt.wk hs,znJ⟩
theorem zrX{k:Nat}{a:ASys}(inv:SInv k a){n:Int}(hb:chkEv (evN 6 n)=0):ScE a (sysDo a (evN 6 n)).1:=by
 rw[zdD hb rfl]
 unfold sysUp
 split
 ·exact⟨rfl,id⟩
 ·exact⟨zgT inv.gt.wk _,ziR⟩
theorem zoN{k:Nat}{a:ASys}(inv:SInv k a):ScE a (sysDo a (evT0 9)).1:=by
 rw[zdC chk9 rfl]
 unfold sysTick
 split
 ·exact⟨rfl,id⟩
 ·exact⟨zgy inv.gt.wk,zih⟩
theorem zn2{a:ASys}(hb:chkEv (evNm 12 wv)=0):ScE a (sysDo a (evNm 12 wv)).1:=by
 rw[zb8 hb rfl]
 unfold sysScale
 repeat' split
 all_goals exact⟨rfl,id⟩
theorem zoO{a:ASys}(hb:chkEv (evNm 13 wv)=0):ScE a (sysDo a (evNm 13 wv)).1:=by
 rw[zb7 hb rfl]
 unfold sysPods
 repeat' split
 all_goals exact⟨rfl,id⟩
structure ScK(n:Nat)(a:ASys):Prop where
 len:(gK a).length≤n
 ids:∀q∈gK a,1≤q∧q≤n
theorem ScK.keep{n:Nat}{a b:ASys}(h:ScK n a)(e:ScE a b):ScK n b:=⟨by rw[e.keys];exact h.len,by rw[e.keys];exact h.ids⟩
theorem zpw(F:AFleet)(G:AGate)(id:Int)(rev:ByteArray)(now:Int):(gArr F G id rev now).2.1.all=G.all∨∃x,(gArr F G id rev now).2.1.all=mset G.all id x:=by
 unfold gArr
 split
 ·exact .inl rfl
 split
 ·exact .inr ⟨_,rfl⟩
 split
 ·exact .inr ⟨_,rfl⟩
 split
 ·exact .inr ⟨_,rfl⟩
 ·exact .inr ⟨_,rfl⟩
theorem zlC{n:Nat}{a:ASys}(h:ScK n a)(hb:chkEv (evAr ((n+1:Nat):Int) z2j s_ 0)=0):ScK (n+1) (sysDo a (evAr ((n+1:Nat):Int) z2j s_ 0)).1:=by
 rw[zdF hb rfl]
 have e:(sysArrive a (evAr ((n+1:Nat):Int) z2j s_ 0)).1.gt=(arG a (evAr ((n+1:Nat):Int) z2j s_ 0)).2.1:=by
  unfold sysArrive
  split<;>rfl
 have h1:=h.len
 have h2:=h.ids
 have g:(arG a (evAr ((n+1:Nat):Int) z2j s_ 0)).2.1.all=a.gt.all∨∃x,(arG a (evAr ((n+1:Nat):Int) z2j s_ 0)).2.1.all=mset a.gt.all ((n+1:Nat):Int) x:=zpw ..
 have k:gK (sysArrive a (evAr ((n+1:Nat):Int) z2j s_ 0)).1=(arG a (evAr ((n+1:Nat):Int) z2j s_ 0)).2.1.all.map (·.1):=by unfold gK;rw[e]
 refine⟨?_,?_⟩
 ·rw[k]
  rcases g with g | ⟨x,g⟩
  ·rw[g];exact Nat.le_succ_of_le h1
  ·rw[g,List.length_map]
   have:=z4m a.gt.all ((n+1:Nat):Int) x
   rw[List.length_map]at h1
   omega
 ·rw[k]
  intro q hq
  rcases g with g | ⟨x,g⟩
  ·rw[g]at hq
   have:=h2 q hq
   omega
  ·rw[g]at hq
   obtain⟨y,hy,rfl⟩:=List.mem_map.1 hq
   rcases z1C hy with rfl | hy
   ·dsimp only;omega
   ·have:=h2 y.1 (List.mem_map.2 ⟨y,hy,rfl⟩)
    omega
theorem zjK{a:ASys}{q:Int}(h:q∈gK a):(mget a.gt.all q).isSome=true:=by
 cases hm:mget a.gt.all q with
 | none=>exact absurd h (by simpa [gK]using z1V.1 hm)
 | some v=>rfl
theorem zoC{a:ASys}{rev:ByteArray}{q:Int}(h:q∈gWith a.gt.all rev):q∈gK a:=by
 unfold gWith at h
 rw[(z97 _).mem_iff]at h
 obtain⟨y,hy,rfl⟩:=List.mem_map.1 h
 exact List.mem_map.2 ⟨y,(List.mem_filter.1 hy).1,rfl⟩
theorem zkq(a:ASys)(rev:ByteArray):(gWith a.gt.all rev).length≤(gK a).length:=by
 unfold gWith gK
 rw[z98,List.length_map,List.length_map]
 exact List.length_filter_le ..
theorem zoD{k:Nat}{a:ASys}(inv:SInv k a)(ok:a.gt.Ok)(rev:ByteArray):(gWait a.gt rev).length≤8:=by
 unfold gWait
 rw[List.length_map]
 have h1:=z3k ok rev
 have h2:=inv.gt.room.2
 omega
theorem zr3(a:ASys)(rev:ByteArray):(if 0>busyB a.gt rev then 0 else busyB a.gt rev)=(((gWait a.gt rev).length+(gWith a.gt.all rev).length:Nat):Int):=by
 unfold busyB
 rw[if_neg (by omega)];omega
theorem zqF{w2 r mi ma:Int}(h2:scEnd w2 r mi ma=0)(hma:1≤ma):w2≤0:=by
 unfold scEnd at h2
 have hm:1≤scM r:=by unfold scM;split<;>omega
 generalize scM r=m at *
 unfold mn2 mx2 at h2
 repeat' split at h2
 all_goals omega
theorem zqE{want l a b:Int}(hw:0≤want)(ha:0≤a):0≤scW1 want l a b:=by
 unfold scW1 mx2
 repeat' split
 all_goals omega
theorem zn4{s n c:Int}(hs:0≤s):0≤scNeed s n c:=by
 unfold scNeed
 split
 ·omega
 split
 ·omega
 ·have h:0<n*c:=Int.mul_pos (by omega) (by omega)
  exact Int.ediv_nonneg (by omega) (by omega)
theorem zqG{want left:Int}{c:Cfg}{ready busy st sts sh shs idle:Int}(hma:1≤@id Int c.2.2.2.2.1)(hw:0≤want)(hst:0≤st)(h:(scDec want left c ready busy st sts sh shs idle).1=0):busy≤0:=by
 unfold scDec at h
 dsimp only at h
 have h1:=zqF h hma
 have h2:=zqE (l:=scLeft left (scNeed sh shs c.2.2.1) (scM ready)) (b:=scNeed sh shs c.2.2.1) hw (zn4 (n:=sts) (c:=c.2.2.1) hst)
 generalize scW1 want (scLeft left (scNeed sh shs c.2.2.1) (scM ready)) (scNeed st sts c.2.2.1) (scNeed sh shs c.2.2.1)=w1 at *
 unfold scW2 at h1
 by_cases hh:busy>0
 ·split at h1
  ·omega
  ·rename_i hn
   exact absurd ⟨by omega,.inl hh⟩ hn
 ·omega
theorem z90(a:ASys)(e:AEv):(sysDo a e).1.now≤a.now+1:=by
 by_cases hb:chkEv e=0
 ·rcases zgQ hb with hc | hc | hc | hc | hc | hc | hc | hc | hc | hc | hc | hc | hc
  ·rw[zfk hb hc];unfold sysConfig;repeat' split
   all_goals dsimp only;omega
  ·rw[zhl hb hc];unfold sysRoute;repeat' split
   all_goals dsimp only;omega
  ·rw[zmP hb hc];unfold sysDrop;split<;>(dsimp only;omega)
  ·rw[zdF hb hc];unfold sysArrive;split<;>(dsimp only;omega)
  ·rw[zdE hb hc];unfold sysDone;dsimp only;omega
  ·rw[zdD hb hc];unfold sysUp;split<;>(dsimp only;omega)
  ·rw[zhk hb (.inl hc)];unfold sysDown;split<;>(dsimp only;omega)
  ·rw[zhk hb (.inr hc)];unfold sysDown;split<;>(dsimp only;omega)
  ·rw[zdC hb hc];unfold sysTick;split<;>(dsimp only;omega)
  ·rw[zeT hb hc];unfold sysStamp;repeat' split
   all_goals dsimp only;omega
  ·rw[zeS hb hc];unfold sysLead;repeat' split
   all_goals dsimp only;omega
  ·rw[zb8 hb hc];unfold sysScale;repeat' split
   all_goals dsimp only;omega
  ·rw[zb7 hb hc];unfold sysPods;split<;>(dsimp only;omega)
 ·rw[zii hb];dsimp only;omega
abbrev ksSc(k:Int):Bool:=k == 1||k == 2||k == 4||k == 5||k == 6||k == 9||k == 10||k == 11||k == 12||k == 13
instance knSc [bTab w0]:Kn w0 ksSc:=⟨by
 intro E w h i b a s hi hs e hks hb ev k0 inv hk0 hn k hk
 have hc:e.kind=1∨e.kind=2∨e.kind=4∨e.kind=5∨e.kind=6∨e.kind=9∨e.kind=10∨e.kind=11∨e.kind=12∨e.kind=13:=by simpa [ksSc,or_assoc]using hks
 rcases hc with hc | hc | hc | hc | hc | hc | hc | hc | hc | hc
 ·exact ztC h i hi hs hb hc ev inv hk0 hn hk
 ·exact ztB h i hi hs hb hc ev inv hk0 hn hk
 ·exact ztA h i hi hs hb hc ev inv hk0 hn hk
 ·exact ztz h i hi hs hb hc ev inv hk0 hn hk
 ·exact zty h i hi hs hb hc ev inv hk0 hn hk
 ·exact ztx h i hi hs hb hc ev inv hk0 hn hk
 ·exact zt0 h i hi hs hb hc ev inv hk0 hn hk
 ·exact zsZ h i hi hs hb hc ev inv hk0 hn hk
 ·exact zsY h i hi hs hb hc ev inv hk0 hn hk
 ·exact zsX h i hi hs hb hc ev inv hk0 hn hk⟩
theorem zpF{q:Int→Bool}{l:List (Int×Int×Int)}{t:Nat}{x:Int×Int×Int}(h:l[t]? = some x):cnt q (l.take (t+1))=cnt q (l.take t)+if q x.2.1=true then 1 else 0:=by
 unfold cnt
 rw[List.take_add_one,h,Option.toList_some,List.filter_append,List.length_append]
 by_cases hq:q x.2.1=true
 ·rw[if_pos hq,List.filter_cons,if_pos hq];simp
 ·rw[if_neg hq,List.filter_cons,if_neg hq];simp
theorem ztg{xs:List Int}{t:Nat}{x:Int}(h0:∀y∈xs.reverse.take t,y=0)(hx:xs.reverse[t]? = some x)(hne:x≠0):tz xs=t:=by
 unfold tz
 have ht:t<xs.reverse.length:=by
  rcases Nat.lt_or_ge t xs.reverse.length with h | h
  ·exact h
  ·rw[List.getElem?_eq_none h]at hx;cases hx
 have hd:xs.reverse.drop t=x::xs.reverse.drop (t+1):=by
  rw[List.drop_eq_getElem_cons ht]
  rw[List.getElem?_eq_getElem ht]at hx
  rw[Option.some.inj hx]
 have e:xs.reverse=xs.reverse.take t++x::xs.reverse.drop (t+1):=by rw[←hd,List.take_append_drop]
 rw[e,List.takeWhile_append_of_pos (fun y hy=>by simpa using h0 y hy),List.takeWhile_cons_of_neg (by simpa using hne),List.append_nil,List.length_take]
 omega
theorem zrR{xs:List Int}(h0:∀y∈xs.reverse.take xs.length,y=0):tz xs=xs.length:=by
 unfold tz
 rw[List.take_of_length_le (by simp)]at h0
 have:xs.reverse.takeWhile (· == 0)=xs.reverse:=by
  have:=List.takeWhile_append_of_pos (p:=(· == (0:Int))) (l₁:=xs.reverse) (l₂:=[]) (fun y hy=>by simpa using h0 y hy)
  simpa using this
 rw[this,List.length_reverse]
structure ScL(c:Cfg)(j n k0:Nat)(xs:List Int)(want left:Int)(a:ASys):Prop where
 I:ScI c xs want left a
 K:ScK n a
 z:want=0→lnW a = []
 n3:n≤3*j
 k:k0≤12+240*j
 now:a.now≤k0
 len:xs.length=j
 xr:∀x∈xs,0≤x∧x≤1000
theorem zoQ(img conc max grace:Int):ScL (cfgW img conc 0 max grace) 0 0 12 [] 1 0 (rdyA 30 8 50 (cfgW img conc 0 max grace)):=
 ⟨⟨rfl,rfl,rfl,rfl⟩,⟨Nat.le_refl 0,fun q hq=>by cases hq⟩,fun h=>absurd h (by decide),by decide,by decide,show(0:Int)≤((12:Nat):Int)by decide,rfl,fun x hx=>by cases hx⟩
theorem zqA{img conc ma gr:Int}(h:(0≤img∧img≤255)∧(1≤conc∧conc≤8)∧(1≤ma∧ma≤10)∧(0≤gr∧gr≤30)):specC (cfgW img conc 0 ma gr)=0:=by
 unfold specC
 rw[if_pos (show shortB s_web.data.toList 16=true by decide +kernel),if_pos]
 have e:cfgNum (cfgW img conc 0 ma gr)=(decide (0≤img∧img≤255)&&(decide (1≤conc∧conc≤8)&&(decide (1≤ma∧ma≤10)&&(decide ((0:Int)≤0∧0≤ma)&&decide (0≤gr∧gr≤30))))):=rfl
 rw[e]
 simp only[Bool.and_eq_true,decide_eq_true_eq]
 omega
theorem zrZ{c:Cfg}{xs:List Int}{want left:Int}{a:ASys}(I:ScI c xs want left a):(bkGet a.bk wv).2.2=c:=by
 unfold bkGet
 rw[I.bk]
 unfold mget
 rw[if_pos rfl];rfl
theorem zqC(d:ByteArray):lineB (lineB s_scale [wv]) [d]=s_scale_web_1__1ec9++d:=by
 have e2:lineB s_scale [wv]++z9n=s_scale_web_1__1ec9:=by decide +kernel
 have e3:=congrArg (fun x:ByteArray=>x.data.toList) e2
 refine zld ?_
 simp only[ByteArray.data_append,Array.toList_append]at e3 ⊢
 rw[←e3]
 unfold lineB
 rw[z9b]
 simp[Lib.join]
 rfl
theorem zmk(h:St w0 E w)(i:Nat){b:Nat}{a:ASys}{s:Seg}(hi:nth E i=some s)(hs:SysS b a s){rev:ByteArray}{k:Sl→PT}(hk:∀v sv w',Rw eK z3G 3 v (fPods a.fl.l rev) sv→St w0 (sv::E) w'→k v w'):L.call Pr z3x [.pointer (some ⟨b,0,none⟩),.string rev] (.one (.one .slice)) k w:=by
 obtain⟨p,sg,sf,ss,sk,sr,sm,Q,R,rfl⟩:=hs
 refine z00 (z7r _ _) ?_
 unfold z5j
 have h:=(h.front i hi).split8
 (refine nn ?_;refine ldC h ?_)
 refine zon h 2 rfl R.fl fun v s w hr h=>⟨v,rfl,hk v s w hr ?_⟩
 have h:=fr8_ (fr8_ (fr8_ (fr8_ (fr8_ (fr8_ (fr8_ (fr8_ h)))))))
 have h:=h.glue8
 exact St.again (i+1) (E:=s::E) hi h
def upEvs(l:List (Int×Int×Int)):List AEv:=(l.filter fun x=>x.2.1 == 1).map fun x=>evN 6 x.1
def doneEvs(l:List Int):List AEv:=l.map fun q=>evN 5 q
def revEvs(k:Nat)(a:ASys)(rev:ByteArray):List AEv:=
 if k=0 then [evNm 12 rev]else if k=1 then [evNm 13 rev]else if k=2 then upEvs (fPods a.fl.l rev)else doneEvs (gWith a.gt.all rev)
def seqRev(k:Nat):ASys→List ByteArray→List AEv
 | _,[]=>[]
 | a,r::rs=>revEvs k a r++seqRev k (sysRun a (revEvs k a r)) rs
def seqStep:List Nat→ASys→List AEv
 | [],_=>[]
 | k::ks,a=>seqRev k a (bkAll a.bk)++seqStep ks (sysRun a (seqRev k a (bkAll a.bk)))
def rdEvs(a:ASys):List AEv:=seqStep [0,1,2,3] a++[evT0 9]
structure FewR(a:ASys):Prop where
 bk:(bkAll a.bk).length<1000000
 ins:∀rev,(fPods a.fl.l rev).length<1000000∧(gWith a.gt.all rev).length<100000000
theorem FewR.rev{a:ASys}(h:FewR a)(k:Nat)(rev:ByteArray):(revEvs k a rev).length<1000000000:=by
 obtain⟨h1,h2⟩:=h.ins rev
 unfold revEvs
 split
 ·simp
 split
 ·simp
 split
 ·unfold upEvs
  rw[List.length_map]
  have:=List.length_filter_le (fun x:Int×Int×Int=>x.2.1 == 1) (fPods a.fl.l rev)
  omega
 ·unfold doneEvs
  rw[List.length_map]
  omega
theorem FewR.of_inv{k:Nat}{a:ASys}(inv:SInv k a)(hk:k≤9000):FewR a:=by
 refine⟨?_,fun rev=>⟨?_,?_⟩⟩
 ·unfold bkAll
  rw[z2I,List.length_map]
  have:=inv.bk.len;omega
 ·unfold fPods revs
  rw[List.length_map]
  have:=List.length_filter_le (fun x:AHeld=>decide (x.rev=rev)) a.fl.l
  have h2:=inv.fl.few.l20
  exact Nat.lt_of_le_of_lt (Nat.le_trans (List.length_filter_le ..) h2) (by decide)
 ·unfold gWith
  rw[z98,List.length_map]
  have h2:=inv.gt.all
  exact Nat.lt_of_le_of_lt (List.length_filter_le ..) (by omega)
structure RdOk(ks:Int→Bool)(a:ASys):Prop where
 ev:∀e∈rdEvs a,ks e.kind=true∧chkEv e=0∧e.v=noSl∧e.r=noRt15∧(e.kind=12∨e.kind=13→RevN e.name)∧(e.kind=5∨e.kind=6∨e.kind=9∨e.kind=12∨e.kind=13)
 out:∀pre more,rdEvs a=pre++more→((sysOuts a pre).flatten).length≤1000000
 len:(rdEvs a).length≤40
abbrev scSt(b:Nat)(want left:Int):Seg:=[Cl b z0G [I want,I left]]
abbrev scCf(b:Nat)(img conc max grace:Int):Seg:=[Cl b z05 [.string s_web,I img,I conc,I 0,I max,I grace]]
set_option maxRecDepth 20000 in
theorem zgk [bTab w0](c:Cfg)(p1:Sl)(x2:Int){ls:List Int}(o:Old w0 eI p1 ls):Calls Pr z56 #[.agg (Cfg.cells c).toArray,SlV p1,I x2] w0 fun e w'=>e = .returned (.bool true)∧St w0 [] w':=by
 refine zsj (args:=[.agg (Cfg.cells c).toArray,SlV p1,I x2]) (z8q c p1 x2) ?_
 unfold z5c
 have h:=St.init w0
 refine nw h ?_;clear h;(try clear w);intro b1 w h
 refine zoj h fun w h=>itF rfl ?_
 (refine laC h ?_)
 refine zoi (c:=c) (n:=0) h fun w h=>?_
 have hcc:=zqV c 0
 have hcn:(lcfg c 0).1=s_web:=rfl
 generalize lcfg c 0=d at *
 obtain⟨dn,img,conc,dmi,max,grace,⟨⟩⟩:=d
 simp only at hcn
 subst hcn
 have hnum:=(z5W hcc).2
 change (0≤img∧img≤255)∧(1≤conc∧conc≤8)∧(1≤max∧max≤10)∧(0≤dmi∧dmi≤max)∧(0≤grace∧grace≤30)at hnum
 have hsp:specC (cfgW img conc 0 max grace)=0:=zqA ⟨hnum.1,hnum.2.1,hnum.2.2.1,hnum.2.2.2.2⟩
 refine nw h ?_;clear h;(try clear w);intro b5 w h
 (refine stC h ?_;clear h;(try clear w);intro w h;dsimp only[putN,setN]at h;refine stC h ?_;clear h;(try clear w);intro w h;dsimp only[putN,setN]at h;refine laC h ?_)
 refine zrk (ks:=ksSc) rfl (c:=(s_web,img,conc,(0:Int),max,grace,())) h hsp (by decide) (by decide) (zrY img conc max grace) fun b s w hs inv h=>?_
 refine itF rfl (itF rfl ?_)
 have L0:=zoQ img conc max grace
 change SysS b (rdyA 30 8 50 (cfgW img conc 0 max grace)) s at hs
 change SInv 12 (rdyA 30 8 50 (cfgW img conc 0 max grace))at inv
 generalize rdyA 30 8 50 (cfgW img conc 0 max grace)=a0 at *
 refine nw h ?_;clear h;(try clear w);intro b8 w h
 (refine stC h ?_;clear h;(try clear w);intro w h;dsimp only[putN,setN]at h)
 refine z18 (fun _ w=>∃E,St w0 E w) (fun k9 hk9=>?_) ?_
 rotate_left
 ·rintro-w ⟨E,h⟩
  exact⟨rfl,h.fin⟩
 have h:=fr1_ h
 have h:St w0 (s::scSt b8 1 0::scCf b5 img conc max grace::[Cl b1 z05 (Cfg.cells c)]::[]) w:=h
 have h:St w0 (s::[]::scSt b8 1 0::scCf b5 img conc max grace::[Cl b1 z05 (Cfg.cells c)]::[]) w:=h.eq (by simp)
 generalize [Cl b1 z05 (Cfg.cells c)]::[]=E0 at *
 have hc1:=hnum.2.1
 have hma:=hnum.2.2.1
 generalize hcq:cfgW img conc 0 max grace=cq at *
 refine z0D (fun q y w=>∃(j n k0:Nat)(xs:List Int)(want left:Int)(a:ASys)(v:Sl)(s sx:Seg),y=(v,((n+1:Nat):Int),1,(j:Int),())∧q+j=30∧ScL cq j n k0 xs want left a∧SysS b a s∧SInv k0 a∧Rw eI z0g 1 v xs sx∧
  St w0 (s::sx::scSt b8 want left::scCf b5 img conc max grace::E0) w) 30 ⟨0,0,12,[],1,0,a0,⟨none,0,0⟩,s,[],rfl,rfl,L0,hs,inv,Rw.nil,h⟩ ?_
 clear hs inv L0
 clear h;(try clear w)
 rintro q y w ⟨j,n0,k0,xs,want0,left,a,v,s,sx,rfl,hq,L,hs,inv,hr,h⟩ again hag
 (try dsimp only)
 have done:k9 () w:=hk9 () w ⟨_,h⟩
 refine it (fun hb=>?_) (fun _=>done)
 refine it (fun hb2=>?_) (fun _=>done)
 clear done
 have hj:j<30:=by have:=of_decide_eq_true hb2;omega
 have hjl:(j:Int)<p1.len:=by simpa using hb
 clear hb hb2
 obtain⟨I0,K0,hz0,hn3,hk0,hnow,hlen,hxr⟩:=L
 have plainEv:∀{E:List Seg}{i:Nat}{e:AEv},e.v=noSl→e.r=noRt15→¬(e.kind=12∨e.kind=13)→EvIn w0 E i e:=fun hv hr hk=>EvIn.plain hv hr fun h=>absurd h hk
 refine z18 (fun(z:Sl×Int×Int×Unit) w=>∃(n k0:Nat)(xs:List Int)(want left:Int)(a:ASys)(v:Sl)(s sx:Seg),z=(v,((n+1:Nat):Int),1,())∧ScL cq (j+1) n k0 xs want left a∧SysS b a s∧SInv k0 a∧Rw eI z0g 1 v xs sx∧
  St w0 (s::sx::scSt b8 want left::scCf b5 img conc max grace::E0) w) (fun k13 hk13=>?_) ?_
 rotate_left
 ·clear hs inv hr I0 K0 hz0 hxr
  clear h;(try clear w)
  rintro z w ⟨n,k0,xs,want,left,a,v,s,sx,rfl,L,hs,inv,hr,h⟩
  refine hag (q-1) _ w (by omega) ⟨j+1,n,k0,xs,want,left,a,v,s,sx,?_,by omega,L,hs,inv,hr,h⟩
  have e:IntKind.wrap .i64 ((j:Int)+1)=((j+1:Nat):Int):=by rw[wr (by omega) (by omega)];omega
  show(_,_,_,IntKind.wrap .i64 ((j:Int)+1),())=_
  rw[e]
 clear hag hk9
 refine z0D (fun q2 y w=>∃(i n k1:Nat)(want:Int)(a:ASys)(s:Seg),y=(((n+1:Nat):Int),(i:Int),())∧q2+i=4∧i≤3∧n≤3*j+i∧k1≤12+240*j+2*i∧a.now≤k1∧ScI cq xs want left a∧Wt want0 want a∧ScK n a∧SysS b a s∧SInv k1 a∧
  St w0 (s::sx::scSt b8 want0 left::scCf b5 img conc max grace::E0) w) 4 ⟨0,n0,k0,want0,a,s,rfl,rfl,by decide,by omega,by omega,hnow,I0,?_,K0,hs,inv,h⟩ ?_
 ·unfold Wt
  by_cases hw:want0=0
  ·rw[if_neg (fun hh=>hh.2 (hz0 hw))]
  ·rw[if_neg (fun hh=>hw hh.1)]
 clear hs inv I0 K0 hz0 hnow hk0 hn3 a
 clear h;(try clear w)
 rintro q2 y w ⟨i,n,k1,want,a,s,rfl,hq2,hi3,hn3,hk1,hnow,I1,W,K1,hs,inv,h⟩ again2 hag2
 (try dsimp only)
 refine oldI o h (by omega) (by(try dsimp only);omega) fun x18 hx18=>?_
 refine zdV (by decide) (by decide) ?_
 have h4:0≤x18%4∧x18%4<4:=by omega
 have hsh:a.sh.n<99:=by rw[I1.sh];decide
 refine it (fun hc=>?_) (fun hc=>?_)
 ·have hc:(i:Int)<x18%4:=of_decide_eq_true hc
  have hch:chkEv (evAr ((n+1:Nat):Int) z2j s_ 0)=0:=zto (by decide +kernel) (.inl rfl) ⟨by omega,by omega⟩ ⟨by decide,by decide⟩
  refine zkc (ks:=ksSc) (e:=evAr ((n+1:Nat):Int) z2j s_ 0) h 0 rfl hs rfl hch (plainEv rfl rfl (show ¬((4:Int)=12∨(4:Int)=13)by decide)) inv (by omega) hsh fun v' sv s' w r hs inv h=>?_
  obtain⟨want',I2,W2⟩:=zn3 I1 W hch
  have K2:=zlC K1 hch
  have hno:=z90 a (evAr ((n+1:Nat):Int) z2j s_ 0)
  refine hag2 (q2-1) _ w (by omega) ⟨i+1,n+1,k1+2,want',_,s',?_,by omega,by omega,by omega,by omega,by omega,I2,W2,K2,hs,inv,dl0_ h⟩
  have e1:IntKind.wrap .i64 (((n+1:Nat):Int)+1)=((n+1+1:Nat):Int):=by rw[wr (by omega) (by omega)];omega
  have e2:IntKind.wrap .i64 ((i:Int)+1)=((i+1:Nat):Int):=by rw[wr (by omega) (by omega)];omega
  rw[e1,e2]
 clear hag2 hq2 hc h4 hx18
 refine z18 (fun _ w=>∃s:Seg,SysS b a s∧St w0 (s::sx::scSt b8 want left::scCf b5 img conc max grace::E0) w) (fun k21 hk21=>?_) ?_
 ·(refine ldC h ?_)
  refine it (fun h0=>?_) (fun h0=>?_)<;>(try simp only[zB]at h0)
  ·subst h0
   refine zc1 h 0 rfl hs fun v1 v2 s1 s2 s' w r1 r2 hs h=>?_
   dsimp only[setN]at h
   have l1:=Rw.len encI r1
   have l1':(gWait a.gt wv).length=(lnW a).length:=List.length_map ..
   rw[l1']at l1
   unfold Wt at W
   refine it (fun h2=>?_) (fun h2=>?_)<;>(try simp only[zB]at h2)
   ·have hne:lnW a≠[]:=fun e=>by rw[e]at l1;simp at l1;omega
    rw[if_pos ⟨rfl,hne⟩]at W
    subst W
    have h:=dl0_ (dl1_ h)
    (refine stC h ?_;clear h;(try clear w);intro w h;dsimp only[putN,setN]at h)
    exact hk21 () w ⟨s',hs,h⟩
   ·have hne:lnW a = []:=List.length_eq_zero_iff.1 (by omega)
    rw[if_neg (fun hh=>hh.2 hne)]at W
    subst W
    have h:=dl0_ (dl1_ h)
    exact hk21 () w ⟨s',hs,h⟩
  ·unfold Wt at W
   rw[if_neg (fun hh=>h0 hh.1)]at W
   subst W
   exact hk21 () w ⟨s,hs,h⟩
 have hz1:want=0→lnW a = []:=fun hw=>by
  unfold Wt at W
  by_cases hln:lnW a = []
  ·exact hln
  ·by_cases hw0:want0=0
   ·rw[if_pos ⟨hw0,hln⟩]at W;omega
   ·rw[if_neg (fun hh=>hw0 hh.1)]at W;omega
 clear h;(try clear w)
 clear hs W
 rintro-w ⟨s,hs,h⟩
 (try dsimp only)
 have hk1':k1≤12+240*j+6:=by omega
 have hn90:n≤90:=by omega
 have hn4:n≤3*(j+1):=by omega
 clear hk1 hi3
 refine z18 (fun _ w=>∃(k2:Nat)(a2:ASys)(s:Seg),k2≤12+240*j+186∧a2.now≤k2∧ScI cq xs want left a2∧ScK n a2∧(want=0→lnW a2 = [])∧SysS b a2 s∧SInv k2 a2∧St w0 (s::sx::scSt b8 want left::scCf b5 img conc max grace::E0) w) (fun k25 hk25=>?_) ?_
 ·refine oldI o h (by omega) (by(try dsimp only);omega) fun x28 hx28=>?_
  refine gd (by decide) ?_
  refine zdV (by decide) (by decide) ?_
  refine it (fun hc=>?_) (fun hc=>?_)
  ·refine zc1 h 0 rfl hs fun v1 v2 s1 s2 s' w r1 r2 hs h=>?_
   dsimp only[setN]at h
   have h:=dl0_ h
   have l2:=Rw.len encI r2
   have wl:=zkq a wv
   have kl:=K1.len
   have hkeys:∀q∈gWith a.gt.all wv,q∈gK a:=fun q hq=>zoC hq
   obtain⟨ids,hids⟩:∃ids,ids=gWith a.gt.all wv:=⟨_,rfl⟩
   rw[←hids]at r2 l2 wl hkeys
   refine z0D (fun q y w=>∃(t:Nat)(a2:ASys)(s:Seg),y=((t:Int),())∧q+t=ids.length∧a2.now≤((k1+2*t:Nat):Int)∧ScI cq xs want left a2∧ScE a a2∧SysS b a2 s∧SInv (k1+2*t) a2∧St w0 (s2::s::sx::scSt b8 want left::scCf b5 img conc max grace::E0) w) ids.length ⟨0,a,s',rfl,rfl,hnow,I1,ScE.refl a,hs,inv,h⟩ ?_
   clear hs inv r1 hc hx28
   clear h;(try clear w)
   rintro q2 y w ⟨t,a2,s,rfl,hq2,hnow2,I2,e2,hs,inv,h⟩ again2 hag2
   (try dsimp only)
   refine it (fun hb=>?_) (fun hb=>?_)<;>(try simp only[zB]at hb)
   ·have ht:t<ids.length:=by omega
    have hx:ids[t]? = some ids[t]:=List.getElem?_eq_getElem ht
    have hmem:=hkeys _ (List.getElem_mem ht)
    generalize ids[t]=x at hx hmem
    have hid:=K1.ids x hmem
    refine Rw.ix encI r2 (by omega) (by simpa using ht) fun a33 ha=>?_
    simp only[Int.toNat_natCast]at ha
    refine Rw.ld0 encI h 0 rfl r2 ha (x:=x) hx rfl rfl ?_
    have hch:chkEv (evN 5 x)=0:=zsw (.inl rfl) ⟨hid.1,by omega⟩
    have hsn:(mget a2.gt.all x).isSome=true:=zjK (a:=a2) (by rw[e2.keys];exact hmem)
    have e3:=zoP inv hsn hch
    have I3:=zqD I2 hch
    have hno:=z90 a2 (evN 5 x)
    refine zkc (ks:=ksSc) (e:=evN 5 x) h 1 rfl hs rfl hch (plainEv rfl rfl (show ¬((5:Int)=12∨(5:Int)=13)by decide)) inv (by omega) (by rw[I2.sh];decide) fun v' sv s' w r hs inv h=>?_
    dsimp only[setN]at h
    refine hag2 (q2-1) _ w (by omega) ⟨t+1,_,s',?_,by omega,by omega,I3,e2.trans e3,hs,inv,dl0_ h⟩
    have e2:IntKind.wrap .i64 ((t:Int)+1)=((t+1:Nat):Int):=by rw[wr (by omega) (by omega)];omega
    rw[e2]
   ·exact hk25 () w ⟨k1+2*t,a2,s,by omega,hnow2,I2,K1.keep e2,fun hw=>e2.nil (hz1 hw),hs,inv,dl0_ h⟩
  ·exact hk25 () w ⟨k1,a,s,by omega,hnow,I1,K1,hz1,hs,inv,h⟩
 clear h;(try clear w)
 clear hs inv I1 K1 hz1 hnow hk1'
 rintro-w ⟨k2,a,s,hk2,hnow,I1,K1,hz1,hs,inv,h⟩
 (try dsimp only)
 have It:=zqz I1 (by omega)
 have et:=zoN inv
 have hno:=z90 a (evT0 9)
 refine zkc (ks:=ksSc) (e:=evT0 9) h 0 rfl hs rfl chk9 (plainEv rfl rfl (show ¬((9:Int)=12∨(9:Int)=13)by decide)) inv (by omega) (by rw[I1.sh];decide) fun v' sv s' w r hs inv h=>?_
 dsimp only[setN]at h
 have h:=dl0_ h
 have hz2:want=0→lnW (sysDo a (evT0 9)).1 = []:=fun hw=>et.nil (hz1 hw)
 have K2:=K1.keep et
 have hnow2:(sysDo a (evT0 9)).1.now≤((k2+2:Nat):Int):=by omega
 clear I1 K1 hz1 r et hno hnow
 generalize (sysDo a (evT0 9)).1=a2 at *
 rw[zr3]at It
 have wl:=zkq a2 wv
 have kl:=K2.len
 refine zc1 h 0 rfl hs fun v1 v2 s1 s2 s'' w r1 r2 hs h=>?_
 dsimp only[setN]at h
 have wtl:=zoD inv hs.ok.gt wv
 change Rw eI z0g 1 v1 (gWait a2.gt wv) s1 at r1
 change Rw eI z0g 1 v2 (gWith a2.gt.all wv) s2 at r2
 have l1:=Rw.len encI r1
 have l2:=Rw.len encI r2
 have h:=dl0_ (dl1_ h)
 have hbz:gWait a2.gt wv = []→lnW a2 = []:=fun e=>by
  have:(lnW a2).map (·.1) = []:=e
  simpa using this
 have hbl:(gWait a2.gt wv).length=0→gWait a2.gt wv = []:=fun e=>List.length_eq_zero_iff.1 e
 have hbusy:busyB a2.gt wv=(((gWait a2.gt wv).length+(gWith a2.gt.all wv).length:Nat):Int):=by unfold busyB;omega
 have ew:IntKind.wrap .i64 (((v1.len:Nat):Int)+((v2.len:Nat):Int))=(((gWait a2.gt wv).length+(gWith a2.gt.all wv).length:Nat):Int):=by rw[wr (by omega) (by omega)];omega
 rw[ew]
 obtain⟨A,hA⟩:∃A,A=(gWait a2.gt wv).length:=⟨_,rfl⟩
 obtain⟨B,hB⟩:∃B,B=(gWith a2.gt.all wv).length:=⟨_,rfl⟩
 rw[←hA,←hB]at It hbusy ⊢
 rw[←hA]at wtl hbl
 rw[←hB]at wl
 clear r1 r2 l1 l2 ew
 refine nw h ?_;clear h;(try clear w);intro b38 w h
 refine Rw.app encI elI h 1 rfl hr (((A+B:Nat)):Int) rfl (by omega) (by omega) fun v' sx' w hr h=>?_
 dsimp only[setN]at h
 have hlen':(xs++[((A+B:Nat):Int)]).length=j+1:=by rw[List.length_append,hlen];rfl
 have hxr':∀x∈xs++[((A+B:Nat):Int)],0≤x∧x≤1000:=fun x hx=>by
  rcases List.mem_append.1 hx with hx | hx
  ·exact hxr x hx
  ·rw[List.mem_singleton]at hx;subst hx;omega
 generalize hxs:xs++[((A+B:Nat):Int)]=xs2 at *
 refine zdV (by decide) (by decide) ?_
 refine gd (by decide) ?_
 refine it (fun hc=>?_) (fun hc=>?_)
 ·exact hk13 _ w ⟨n,k2+2,xs2,want,left,a2,v',s'',sx',rfl,⟨It,K2,hz2,by omega,by omega,hnow2,hlen',hxr'⟩,hs,inv,hr,h⟩
 clear hc
 refine zmk h 0 rfl hs fun vp sp w rp h=>?_
 have hpn:(fPods a2.fl.l wv).length<1000000:=((FewR.of_inv inv (by omega)).ins wv).1
 obtain⟨pl,hpl⟩:∃pl,pl=fPods a2.fl.l wv:=⟨_,rfl⟩
 rw[←hpl]at rp hpn
 have lp:=Rw.len encK rp
 refine z0D (fun q y w=>∃(t:Nat),y=(cnt (fun s=>s == 2) (pl.take t),(t:Int),())∧q+t=pl.length∧St w0 (sp::s''::sx'::scSt b8 want left::scCf b5 img conc max grace::E0) w) pl.length ⟨0,rfl,rfl,h⟩ ?_
 clear h;(try clear w)
 rintro q2 y w ⟨t,rfl,hq2,h⟩ again2 hag2
 (try dsimp only)
 have hcl:0≤cnt (fun s=>s == 2) (pl.take t)∧cnt (fun s=>s == 2) (pl.take t)≤pl.length:=by
  unfold cnt
  have:=List.length_filter_le (fun x:Int×Int×Int=>(fun s:Int=>s == 2) x.2.1) (pl.take t)
  rw[List.length_take]at this
  omega
 refine it (fun hb=>?_) (fun hb=>?_)<;>(try simp only[zB]at hb)
 ·have ht:t<pl.length:=by omega
  have hx:pl[t]? = some pl[t]:=List.getElem?_eq_getElem ht
  generalize pl[t]=x at hx
  have hct:=zpF (q:=fun s=>s == 2) hx
  refine z18 (fun(z:Int×Unit) w=>z.1=cnt (fun s=>s == 2) (pl.take (t+1))∧St w0 (sp::s''::sx'::scSt b8 want left::scCf b5 img conc max grace::E0) w) (fun k44 hk44=>?_) ?_
  ·refine Rw.ix encK rp (by omega) (by simpa using ht) fun a46 ha=>?_
   simp only[Int.toNat_natCast]at ha
   refine Rw.ld encK h 0 rfl rp ha hx (f:=1) (y:=x.2.1) rfl rfl ?_
   refine it (fun hc=>?_) (fun hc=>?_)
   ·rw[if_pos hc]at hct
    refine hk44 _ w ⟨?_,h⟩
    show IntKind.wrap .i64 _=_
    rw[hct,wr (by omega) (by omega)]
   ·rw[if_neg (by rw[hc];decide)]at hct
    exact hk44 _ w ⟨by rw[hct];simp,h⟩
  ·clear h;(try clear w)
   rintro⟨z,⟨⟩⟩ w ⟨hz,h⟩
   simp only at hz
   subst hz
   refine hag2 (q2-1) _ w (by omega) ⟨t+1,?_,by omega,h⟩
   have e2:IntKind.wrap .i64 ((t:Int)+1)=((t+1:Nat):Int):=by rw[wr (by omega) (by omega)];omega
   show(_,IntKind.wrap .i64 ((t:Int)+1),())=_
   rw[e2]
 have ht:t=pl.length:=by omega
 subst ht
 rw[List.take_length]at hcl ⊢
 clear hag2 hb hq2
 generalize hcn:cnt (fun s=>s == 2) pl=cn at *
 have h:=dl0_ h
 have hb6:∀x∈xs2,0≤x∧x≤1000000:=fun x hx=>by have:=hxr' x hx;omega
 refine zo9 h 1 rfl hr (by omega) hb6 (n:=6) (by decide) ?_
 refine zo9 h 1 rfl hr (by omega) hb6 (n:=2) (by decide) ?_
 have hlr:=Rw.len encI hr
 refine z18 (fun(z:Int×Unit) w=>z.1=(tz xs2:Nat)∧St w0 (s''::sx'::scSt b8 want left::scCf b5 img conc max grace::E0) w) (fun k50 hk50=>?_) ?_
 ·refine z0D (fun q y w=>∃(t:Nat),y=((t:Int),())∧q+t=xs2.length∧(∀y∈xs2.reverse.take t,y=0)∧St w0 (s''::sx'::scSt b8 want left::scCf b5 img conc max grace::E0) w) xs2.length ⟨0,rfl,rfl,fun y hy=>(by simp at hy),h⟩ ?_
  clear h;(try clear w)
  rintro q2 y w ⟨t,rfl,hq2,h0,h⟩ again2 hag2
  (try dsimp only)
  refine it (fun hb=>?_) (fun hb=>?_)<;>(try simp only[zB]at hb)
  ·have ht:t<xs2.length:=by omega
   have ht':xs2.length-1-t<xs2.length:=by omega
   have hx:xs2[xs2.length-1-t]? = some xs2[xs2.length-1-t]:=List.getElem?_eq_getElem ht'
   generalize xs2[xs2.length-1-t]=x at hx
   have hxr3:xs2.reverse[t]? = some x:=by rw[List.getElem?_reverse ht];exact hx
   have e1:IntKind.wrap .i64 (IntKind.wrap .i64 (((v'.len:Nat):Int)-1)-(t:Int))=((xs2.length-1-t:Nat):Int):=by
    rw[wr (n:=((v'.len:Nat):Int)-1) (by omega) (by omega),wr (by omega) (by omega)];omega
   rw[e1]
   refine Rw.ix encI hr (by omega) (by rw[Int.toNat_natCast];exact ht') fun a54 ha=>?_
   rw[Int.toNat_natCast]at ha
   refine Rw.ld0 encI h 1 rfl hr ha (x:=x) hx rfl rfl ?_
   refine it (fun hc=>?_) (fun hc=>?_)
   ·have hc:x=0:=by simpa using hc
    refine hag2 (q2-1) _ w (by omega) ⟨t+1,?_,by omega,fun y hy=>?_,h⟩
    ·have e2:IntKind.wrap .i64 ((t:Int)+1)=((t+1:Nat):Int):=by rw[wr (by omega) (by omega)];omega
     rw[e2]
    ·rw[List.take_add_one,hxr3]at hy
     rcases List.mem_append.1 hy with hy | hy
     ·exact h0 y hy
     ·have:y=x:=by simpa using hy
      rw[this,hc]
   ·exact hk50 _ w ⟨by rw[ztg h0 hxr3 (by simpa using hc)],h⟩
  ·have ht:t=xs2.length:=by omega
   subst ht
   exact hk50 _ w ⟨by rw[zrR h0],h⟩
 clear h;(try clear w)
 rintro⟨z,⟨⟩⟩ w ⟨hz,h⟩
 simp only at hz
 subst hz
 (try dsimp only)
 subst hcq
 have hsum:∀m,0≤lastS xs2 m∧lastS xs2 m≤1000000000:=fun m=>by
  rw[zgN]
  have h1:=zk0 (B:=1000) (by decide) (l:=xs2.drop (xs2.length-m)) (fun x hx=>hxr' x (List.mem_of_mem_drop hx))
  have h2:(xs2.drop (xs2.length-m)).length≤30:=by rw[List.length_drop];omega
  omega
 have hwl:=inv.by'.want (wv,⟨xs2,want,left⟩) (by rw[It.by'];simp)
 change (0≤want∧want≤10)∧(0≤left∧left≤1000)at hwl
 have hN6:lastN xs2 6=min xs2.length 6:=by
  show min (min 60 xs2.length) 6=_
  omega
 have hN2:lastN xs2 2=min xs2.length 2:=by
  show min (min 60 xs2.length) 2=_
  omega
 have hsc:scOf a2 ⟨xs2,want,left⟩ wv=scDec want left (cfgW img conc 0 max grace) cn ((A+B:Nat):Int) (lastS xs2 (min xs2.length 6)) ((min xs2.length 6:Nat):Int) (lastS xs2 (min xs2.length 2)) ((min xs2.length 2:Nat):Int) ((tz xs2:Nat):Int):=by
  unfold scOf
  rw[zrZ It,←hpl,hcn,hbusy,hN6,hN2]
 have hD0:(scDec want left (cfgW img conc 0 max grace) cn ((A+B:Nat):Int) (lastS xs2 (min xs2.length 6)) ((min xs2.length 6:Nat):Int) (lastS xs2 (min xs2.length 2)) ((min xs2.length 2:Nat):Int) ((tz xs2:Nat):Int)).1=0→lnW a2 = []:=fun e=>by
  have:=zqG (c:=cfgW img conc 0 max grace) hma.1 hwl.1.1 (hsum _).1 e
  exact hbz (hbl (by omega))
 have hDr:=(zho inv (rev:=wv) (by unfold bkHas;rw[It.bk];unfold mget;rw[if_pos rfl];rfl) (x:=⟨xs2,want,left⟩) hwl.2).1
 rw[hsc]at hDr
 (refine laC h ?_;refine laC h ?_)
 refine zof h hwl.2 ⟨hc1.1,Int.le_trans hc1.2 (by decide)⟩ (by omega) (hsum _) (by omega) (hsum _) (by omega) fun w h=>?_
 have hch:chkEv (evNm 12 wv)=0:=by decide +kernel
 obtain⟨I3,hl⟩:=zoR It hch
 have e3:=zn2 (a:=a2) hch
 rw[hsc]at I3 hl
 rw[zqC]at hl
 generalize scDec want left (cfgW img conc 0 max grace) cn ((A+B:Nat):Int) (lastS xs2 (min xs2.length 6)) ((min xs2.length 6:Nat):Int) (lastS xs2 (min xs2.length 2)) ((min xs2.length 2:Nat):Int) ((tz xs2:Nat):Int)=D at *
 obtain⟨D1,D2⟩:=D
 dsimp only at hD0 hDr I3 hl ⊢
 (refine stC h ?_;clear h;(try clear w);intro w h;dsimp only[putN,setN]at h)
 have hno:=z90 a2 (evNm 12 wv)
 refine zkc (ks:=ksSc) (e:=evNm 12 wv) h 0 rfl hs rfl hch (EvIn.plain rfl rfl fun _=>zhq) inv (by omega) (by rw[It.sh];decide) fun v3 sv s3 w r hs inv h=>?_
 dsimp only[setN]at h
 rw[hl]at r
 have hz3:D1=0→lnW (sysDo a2 (evNm 12 wv)).1 = []:=fun hw=>e3.nil (hD0 hw)
 have K3:=K2.keep e3
 have hnow3:(sysDo a2 (evNm 12 wv)).1.now≤((k2+4:Nat):Int):=by omega
 clear hl e3 hno hsc hD0 It K2 hz2 hnow2 hbz hbl hbusy hsum hN6 hN2 hpl hcn hwl hcl rp lp
 generalize (sysDo a2 (evNm 12 wv)).1=a3 at *
 have hl3:=Rw.len encS r
 (refine dr h ?_;clear h;(try clear w);intro w h)
 refine itF (by rw[hl3];rfl) ?_
 refine Rw.ix encS r (by decide) (by simp) fun a60 ha=>?_
 refine Rw.ld0 encS h 0 rfl r ha rfl rfl rfl ?_
 (refine ldC h ?_)
 refine zoz h hDr.1 (by omega) fun w h=>?_
 refine Rw.cka encS h 0 rfl r ha rfl rfl ?_
 have d3:=zfM D1.toNat
 have q4:s_scale_web_1__1ec9.size=12:=rfl
 refine gd (by simp only[maxI64];omega) ?_
 refine itF (by rw[z40];simp) ?_
 have h:=dl0_ h
 (refine ldC h ?_)
 refine zmg h 0 rfl hs ?_
 have hw3:wantB a3.by' wv=D1:=by
  unfold wantB
  rw[I3.by']
  unfold mget
  rw[if_pos rfl];rfl
 rw[hw3]
 (refine ckC h ?_)
 refine itF (by simp) ?_
 have hch2:chkEv (evNm 13 wv)=0:=by decide +kernel
 have hno:=z90 a3 (evNm 13 wv)
 have I4:=zqB I3 hch2
 have e4:=zoO (a:=a3) hch2
 refine zkc (ks:=ksSc) (e:=evNm 13 wv) h 0 rfl hs rfl hch2 (EvIn.plain rfl rfl fun _=>zhq) inv (by omega) (by rw[I3.sh];decide) fun v4 sv4 s4 w r4 hs inv h=>?_
 dsimp only[setN]at h
 have h:=dl0_ h
 have hz4:D1=0→lnW (sysDo a3 (evNm 13 wv)).1 = []:=fun hw=>e4.nil (hz3 hw)
 have K4:=K3.keep e4
 have hnow4:(sysDo a3 (evNm 13 wv)).1.now≤((k2+6:Nat):Int):=by omega
 clear r r4 hno e4 I3 K3 hz3 hnow3 ha hl3 hw3
 generalize (sysDo a3 (evNm 13 wv)).1=a4 at *
 refine z0D (fun q y w=>∃(t:Nat)(a:ASys)(s:Seg),y=(((t+1:Nat):Int),(t:Int),())∧q+t=12∧a.now≤((k2+6+2*t:Nat):Int)∧ScI (cfgW img conc 0 max grace) xs2 D1 D2 a∧ScE a4 a∧SysS b a s∧SInv (k2+2+2+2+2*t) a∧
  St w0 (s::sx'::scSt b8 D1 D2::scCf b5 img conc max grace::E0) w) 12 ⟨0,a4,s4,rfl,rfl,hnow4,I4,ScE.refl a4,hs,inv,h⟩ ?_
 clear hs inv I4 hnow4
 clear h;(try clear w)
 rintro q2 y w ⟨t,a,s,rfl,hq2,hnow,I5,e5,hs,inv,h⟩ again2 hag2
 (try dsimp only)
 refine it (fun hb=>?_) (fun hb=>?_)<;>(try simp only[zB]at hb)
 ·have hch3:chkEv (evN 6 ((t+2:Nat):Int))=0:=zsw (.inr (.inl rfl)) ⟨by omega,by omega⟩
  have e1:IntKind.wrap .i64 (((t+1:Nat):Int)+1)=((t+2:Nat):Int):=by rw[wr (by omega) (by omega)];omega
  rw[e1]
  have I6:=zth I5 hch3
  have e6:=zrX inv hch3
  have hno:=z90 a (evN 6 ((t+2:Nat):Int))
  refine zkc (ks:=ksSc) (e:=evN 6 ((t+2:Nat):Int)) h 0 rfl hs rfl hch3 (plainEv rfl rfl (show ¬((6:Int)=12∨(6:Int)=13)by decide)) inv (by omega) (by rw[I5.sh];decide) fun v5 sv5 s5 w r5 hs inv h=>?_
  dsimp only[setN]at h
  refine hag2 (q2-1) _ w (by omega) ⟨t+1,_,s5,?_,by omega,by omega,I6,e5.trans e6,hs,inv,dl0_ h⟩
  have e2:IntKind.wrap .i64 ((t:Int)+1)=((t+1:Nat):Int):=by rw[wr (by omega) (by omega)];omega
  rw[e2]
 ·have ht:t=12:=by omega
  subst ht
  exact hk13 _ w ⟨n,k2+2+2+2+2*12,xs2,D1,D2,a,v',s,sx',rfl,⟨I5,K4.keep e5,fun hw=>e5.nil (hz4 hw),by omega,by omega,by omega,hlen',hxr'⟩,hs,inv,hr,h⟩
end Go.Proofs.YtdcdhcgmeahfmaaGreatDoor
