/- What is proved on the way to a statement of the seat, pressed (text AK). No conditions beyond those its theorems state. -/
import Derived.Test.YtkebppklbobjcaaGreatDoorFAJ
set_option linter.all false
namespace Go.Proofs.YtkebppklbobjcaaGreatDoor
open Go.Dm
attribute [local irreducible] L.load L.store L.chk L.new L.nonnil L.guard L.ite L.draw L.idx L.sem L.semR L.semU L.chkSem L.next L.call L.callV L.join L.alts L.loop L.begin L.endRound L.range
variable {w0 w : World} {E : List Seg}
def upBk (a : ASys) (e : AEv) : ABook := if bkProved a.bk (fOf (fUpp a.fl e.n).1.l e.n) = true then a.bk else (bkProve a.bk (fOf (fUpp a.fl e.n).1.l e.n)).1
def upFirst (a : ASys) (e : AEv) : List ByteArray :=
 if bkProved a.bk (fOf (fUpp a.fl e.n).1.l e.n) = true then [lineB s_up [decD e.n.toNat]] else [lineB s_up [decD e.n.toNat], lineB z8y [fOf (fUpp a.fl e.n).1.l e.n]]
abbrev upFlow (a : ASys) (e : AEv) : AFleet × AGate × List Fate := gFlow (fUpp a.fl e.n).1 a.gt (fOf (fUpp a.fl e.n).1.l e.n)
def sysUp (a : ASys) (e : AEv) : ASys × List ByteArray :=
 if (fUpp a.fl e.n).2 ≠ 0 then ({ a with fl := (fUpp a.fl e.n).1 }, refusedB (fUpp a.fl e.n).2)
 else ({ a with fl := (upFlow a e).1, gt := (upFlow a e).2.1, bk := upBk a e }, upFirst a e ++ (upFlow a e).2.2.map fateB)
abbrev eEw (e : AEv) : List Value := [I e.kind, .string e.name, .string e.tag, I e.n, I e.draw, .string e.c.1, I e.c.2.1, I e.c.2.2.1, I e.c.2.2.2.1, I e.c.2.2.2.2.1, I e.c.2.2.2.2.2.1, .string e.r.name, .string e.r.cfg, SlV e.v, I e.r.roll]
theorem zoW [bTab w0] (h : St w0 E w) (i : Nat) {b : Nat} {a : ASys} {s : Seg} (hi : nth E i = some s) (hs : SysS b a s) {e : AEv} (he : 0 ≤ e.n ∧ e.n ≤ 9000000000000000000) (hrv : (fOf (fUpp a.fl e.n).1.l e.n).size ≤ 1000000) (hfew : FFew (fUpp a.fl e.n).1) (hn : a.gt.all.length < 80000000) (hl : a.gt.lines.length < 90000000)
  (hf : ∀ f ∈ (upFlow a e).2.2, f.Ok) (hfl : (upFlow a e).2.2.length < 100000000) {k : Sl → PT} (hk : Hk w0 E i b (sysUp a e) k) : z5D (some ⟨b, 0, none⟩) e.t (slK k) w := by
 obtain ⟨p, sg, sf, ss, sk, sr, sm, Q, R, rfl⟩ := hs
 unfold z5D
 have h := (h.front i hi).split8
 refine nw h ?_; clear h; (try clear w); intro b1 w h
 (dsimp only [setN, List.cons_append, List.nil_append] at h; refine dr h ?_; clear h; (try clear w); intro w h; refine nn ?_; refine ldC h ?_; refine ldC h ?_)
 unfold sysUp at hk
 refine zqt h 3 rfl R.fl fun sf' w hF h => ?_
 dsimp only [setN] at h
 refine it (fun hc => ?_) (fun hc => ?_)
 ·have hc : (fUpp a.fl e.n).2 ≠ 0 := by simpa using hc
  rw [if_pos hc] at hk
  refine z5C h fun v s w r h => ?_
  exact ⟨v, rfl, hk v s _ w r ⟨p, sg, sf', ss, sk, sr, sm, Q, ⟨R.gt, hF, R.sh, R.bk, R.ro, R.mp, R.ea, R.ab⟩, rfl⟩ (sysBack i hi (dl1_ h))⟩
 have hc : ¬ (fUpp a.fl e.n).2 ≠ 0 := by simpa using hc
 rw [if_neg hc] at hk
 unfold upBk upFirst upFlow at hk
 unfold upFlow at hf hfl
 generalize (fUpp a.fl e.n).1 = F at *
 (refine dr h ?_; clear h; (try clear w); intro w h; refine nn ?_; refine ldC h ?_; refine ldC h ?_)
 refine zr2 h 3 rfl hF ?_
 generalize fOf F.l e.n = rev at *
 (refine ldC h ?_)
 refine nw h ?_; clear h; (try clear w); intro b12 w h
 refine lineI1 h (by decide) he.1 he.2 fun w h => ?_
 have hsu : (lineB s_up [decD e.n.toNat]).size ≤ 10000 := by rw [z8j]; have := zge he.1 he.2; have : s_up.size = 2 := rfl; omega
 refine nw h ?_; clear h; (try clear w); intro b14 w h
 refine z22 (fun (z : Sl × Unit) w => ∃ (s1 sk' : Seg), Rw eS z00 1 z.1 (if bkProved a.bk rev = true then [lineB s_up [decD e.n.toNat]] else [lineB s_up [decD e.n.toNat], lineB z8y [rev]]) s1 ∧ BkS p.k (if bkProved a.bk rev = true then a.bk else (bkProve a.bk rev).1) sk' ∧
  St w0 (s1 :: [Cl b1 z0B (eEw e)] :: sysC b p a.now :: sg :: sf' :: ss :: sk' :: sr :: sm :: (Q.map BsE.sg).flatten :: delN E i) w) (fun k15 hk15 => ?_) ?_
 ·(refine nn ?_; refine ldC h ?_)
  refine zfz h 6 rfl R.bk fun w h => ?_
  cases hp : bkProved a.bk rev with
  | true =>
   rw [hp] at hk15
   refine itF rfl ?_
   exact hk15 (_, ()) w ⟨_, sk, Rw.lit b14 [_] encS rfl rfl (by decide), R.bk, h⟩
  | false =>
   rw [hp] at hk15
   refine itT rfl ?_
   (refine nn ?_; refine ldC h ?_)
   refine zmw h 6 rfl R.bk fun sk' w hK h => ?_
   dsimp only [setN] at h
   refine nw h ?_; clear h; (try clear w); intro b23 w h
   refine lineS1 h (by decide) (by omega) fun w h => ?_
   refine nw h ?_; clear h; (try clear w); intro b25 w h
   refine Rw.app encS elS h 0 rfl (Rw.lit b14 [lineB s_up [decD e.n.toNat]] encS rfl rfl (by simp [maxLen])) (lineB z8y [rev]) rfl (by simp) (by simp) fun v' s' w hr' h => ?_
   exact hk15 (_, ()) w ⟨s', sk', hr', hK, h⟩
 ·clear h; (try clear w)
  rintro ⟨vo, ⟨⟩⟩ w ⟨s1, sk', r1, hK, h⟩
  (refine nn ?_; refine ldC h ?_)
  have h := fr4_ (fr4_ h)
  refine ziD h R.gt hF hfew (by omega) hl fun v sv sg' sf'' w hr hG hF h => ?_
  have h := fr3_ h
  refine zjA h (v2 := vo) hr hf hfl (by split <;> simp) r1 fun v s w r h => ?_
  refine ⟨v, rfl, hk v s _ w r ⟨p, sg', sf'', ss, sk', sr, sm, Q, ⟨hG, hF, R.sh, hK, R.ro, R.mp, R.ea, R.ab⟩, rfl⟩ ?_⟩
  have h := dl1_ (dl4_ h)
  have h := fr3_ (fr3_ (fr2_ (fr2_ h)))
  exact sysBack i hi h
abbrev wantOf (c : Cfg) : Int := if 1 > @id Int c.2.2.2.1 then 1 else @id Int c.2.2.2.1
abbrev stp (a : ASys) (n : ByteArray) : ABook × ByteArray × Bool := bkStamp a.bk (shCfg a.sh n).1 (@id Int (shCfg a.sh n).2.2.1).toNat
def sysStamp (a : ASys) (e : AEv) : ASys × List ByteArray :=
 if (shCfg a.sh e.name).2.2.2.1 = false then (a, refusedB 6) else if @id Int (shCfg a.sh e.name).2.2.1 > 999999 then (a, refusedB 3)
 else if (stp a e.name).2.2 = false then ({ a with bk := (stp a e.name).1 }, [lineB zo0 [(stp a e.name).2.1]])
 else ({ a with bk := (stp a e.name).1, by' := mset a.by' (stp a e.name).2.1 ⟨[], wantOf (shCfg a.sh e.name).1, 0⟩ }, [lineB z5R [(stp a e.name).2.1], lineB (lineB s_scale [(stp a e.name).2.1]) [decD (wantOf (shCfg a.sh e.name).1).toNat]])
theorem zoo (a : ABook) (c : Cfg) (g : Nat) : (bkStamp a c g).2.1 = revB c.1 g := by unfold bkStamp; split <;> rfl
theorem zku [bTab w0] (h : St w0 E w) (i : Nat) {b : Nat} {a : ASys} {s : Seg} (hi : nth E i = some s) (hs : SysS b a s) {e : AEv}
  (hst : (shCfg a.sh e.name).2.2.2.1 = true → shortB (shCfg a.sh e.name).1.1.data.toList 16 = true ∧ 1 ≤ @id Int (shCfg a.sh e.name).2.2.1 ∧ @id Int (shCfg a.sh e.name).2.2.1 < 100 ∧ @id Int (shCfg a.sh e.name).1.2.2.2.1 ≤ 1000000) (hf : a.bk.all.length < 999999)
  {k : Sl → PT} (hk : Hk w0 E i b (sysStamp a e) k) : z49 (some ⟨b, 0, none⟩) e.t (slK k) w := by
 have hs0 := hs
 obtain ⟨p, sg, sf, ss, sk, sr, sm, Q, R, rfl⟩ := hs
 unfold z49
 unfold sysStamp stp at hk
 have h := (h.front i hi).split8
 refine nw h ?_; clear h; (try clear w); intro b1 w h
 refine z22 (fun (z : Addr × Int × Bool × Unit) w => ∃ b8 : Nat, z = (⟨b8, 0, none⟩, (shCfg a.sh e.name).2.2.1, (shCfg a.sh e.name).2.2.2.1, ()) ∧
  St w0 ([Cl b8 z05 (Cfg.cells (shCfg a.sh e.name).1)] :: sysC b p a.now :: sg :: sf :: ss :: sk :: sr :: sm :: (Q.map BsE.sg).flatten :: delN E i) w) (fun k2 hk2 => ?_) ?_
 ·(dsimp only [setN, List.cons_append, List.nil_append] at h; refine dr h ?_; clear h; (try clear w); intro w h; refine nn ?_; refine ldC h ?_; refine ldC h ?_)
  refine alts2 ?_ ?_
  ·refine zfx h 4 rfl R.sh fun w h => ?_
   refine nw h ?_; clear h; (try clear w); intro b8 w h
   (refine ckC h ?_; refine ckC h ?_; refine stC h ?_; clear h; (try clear w); intro w h; dsimp only [putN, setN] at h)
   exact hk2 _ w ⟨b8, rfl, dl1_ h⟩
  ·refine nw h ?_; clear h; (try clear w); intro b8 w h
   (refine ckC h ?_; refine ckC h ?_)
   refine zfx h 5 rfl R.sh fun w h => ?_
   (refine stC h ?_; clear h; (try clear w); intro w h; dsimp only [putN, setN] at h)
   exact hk2 _ w ⟨b8, rfl, dl1_ h⟩
 clear h; (try clear w)
 rintro z w ⟨b8, rfl, h⟩
 (try dsimp only)
 refine it (fun hc => ?_) (fun hc => ?_)
 ·have hc : (shCfg a.sh e.name).2.2.2.1 = false := by simpa using hc
  rw [if_pos hc] at hk
  refine z5C h fun v s w r h => ?_
  exact ⟨v, rfl, hk v s _ w r hs0 (sysBack i hi (dl1_ h))⟩
 have hc : (shCfg a.sh e.name).2.2.2.1 = true := by simpa using hc
 rw [if_neg (by simp [hc])] at hk
 obtain ⟨st1, st2, st3, st4⟩ := hst hc
 have hmin : 0 ≤ wantOf (shCfg a.sh e.name).1 ∧ wantOf (shCfg a.sh e.name).1 ≤ 1000000 := by
  unfold wantOf
  split <;> omega
 unfold wantOf at hk hmin
 generalize shCfg a.sh e.name = z at *
 obtain ⟨c, ver, gen, is, ⟨⟩⟩ := z
 dsimp only at hk hc hmin h st1 ⊢
 simp only [id] at st2 st3 st4
 refine it (fun h2 => ?_) (fun h2 => ?_)
 ·exact absurd (of_decide_eq_true h2) (by simp only [Int.not_lt, gt_iff_lt]; omega)
 have hng : ¬ @id Int gen > 999999 := by simp only [id]; omega
 rw [if_neg hng] at hk
 (refine dr h ?_; clear h; (try clear w); intro w h; refine nn ?_; refine ldC h ?_; refine laC h ?_)
 obtain ⟨g, rfl⟩ : ∃ g : Nat, gen = (g : Int) := ⟨@Int.toNat gen, by omega⟩
 have hg1 : 1 ≤ g := by have : (1 : Int) ≤ (g : Int) := st2
                        omega
 have hg2 : g < 100 := by have : (g : Int) < 100 := st3
                          omega
 simp only [id, Int.toNat_natCast] at hk hmin
 refine zmv (c := c) h 5 rfl R.bk st1 hg1 hg2 hf fun sk' w hK h => ?_
 dsimp only [setN] at h
 have hrev := zoo a.bk c g
 have hsz : (revB c.1 g).size ≤ 1000000 := by have := zac c.1 hg2; have := z6S st1; omega
 rw [← hrev] at hsz
 clear hrev
 generalize (bkStamp a.bk c g).2.1 = rev at *
 have hfr : ∀ x : Bool, (bkStamp a.bk c g).2.2 = x → True := fun _ _ => trivial
 generalize (bkStamp a.bk c g).2.2 = fr at *
 generalize (bkStamp a.bk c g).1 = K at *
 cases fr with
 | false =>
  rw [if_pos rfl] at hk
  refine itT rfl ?_
  refine nw h ?_; clear h; (try clear w); intro b17 w h
  refine lineS1 h (by decide) (by omega) fun w h => ?_
  refine nw h ?_; clear h; (try clear w); intro b19 w h
  exact ⟨_, rfl, hk _ _ _ w (Rw.lit b19 [_] encS rfl rfl (by simp [maxLen])) ⟨p, sg, sf, ss, sk', sr, sm, Q, ⟨R.gt, R.fl, R.sh, hK, R.ro, R.mp, R.ea, R.ab⟩, rfl⟩ (sysBack i hi (dl1_ h))⟩
 | true =>
  rw [if_neg (by decide)] at hk
  refine itF rfl ?_
  (refine ldC h ?_; refine dr h ?_; clear h; (try clear w); intro w h; refine nn ?_; refine ldC h ?_)
  refine zph h fun bg sgg w hG h => ?_
  (refine ckC h ?_)
  refine nw h ?_; clear h; (try clear w); intro b24 w h
  (refine ckC h ?_)
  refine MpS.set mkStr zgP h 9 rfl R.mp (some ⟨b24, 0, none⟩) rfl fun sm' w hm' h => ?_
  dsimp only [setN] at h
  refine nw h ?_; clear h; (try clear w); intro b25 w h
  refine lineS1 h (by decide) (by omega) fun w h => ?_
  refine nw h ?_; clear h; (try clear w); intro b27 w h
  refine lineS1 h (by decide) (by omega) fun w h => ?_
  have hl : (lineB s_scale [rev]).size ≤ 100000000 := by rw [z8j]; have : s_scale.size = 5 := rfl; omega
  refine nw h ?_; clear h; (try clear w); intro b29 w h
  refine lineI1 h hl hmin.1 (by omega) fun w h => ?_
  refine nw h ?_; clear h; (try clear w); intro b31 w h
  have h : St w0 ([Cl b31 z00 [.string (lineB z5R [rev]), .string (lineB (lineB s_scale [rev]) [decD (if 1 > @id Int c.2.2.2.1 then 1 else @id Int c.2.2.2.1).toNat])]] :: [Cl b24 z79 [.pointer (some ⟨bg, 0, none⟩), I (if 1 > @id Int c.2.2.2.1 then 1 else @id Int c.2.2.2.1), I 0]] :: sgg :: [Cl b8 z05 (Cfg.cells c)] :: sysC b p a.now :: sg :: sf :: ss :: sk' :: sr :: sm' :: (Q.map BsE.sg).flatten :: delN E i) w := h
  have h := dl3_ h
  have h := fr2_ (fr2_ h)
  have h := h.glue
  have h := fr1_ (fr9_ h)
  have h : St w0 (BsE.sg ⟨rev, b24, bg, ⟨[], (if 1 > @id Int c.2.2.2.1 then 1 else @id Int c.2.2.2.1), 0⟩, sgg⟩ :: (Q.map BsE.sg).flatten :: [Cl b31 z00 [.string (lineB z5R [rev]), .string (lineB (lineB s_scale [rev]) [decD (if 1 > @id Int c.2.2.2.1 then 1 else @id Int c.2.2.2.1).toNat])]] :: sysC b p a.now :: sg :: sf :: ss :: sk' :: sr :: sm' :: delN E i) w := h
  have h := St.lput (key := BsE.k) h
  have h := fr8_ (fr8_ (fr8_ (fr8_ (fr8_ (fr8_ (fr8_ (fr8_ h)))))))
  have e5 := z8L (key := BsE.k) (fun x : BsE => (some ⟨x.b, 0, none⟩ : Option Addr)) ⟨rev, b24, bg, ⟨[], (if 1 > @id Int c.2.2.2.1 then 1 else @id Int c.2.2.2.1), 0⟩, sgg⟩ Q
  have e6 := z8L (key := BsE.k) BsE.x ⟨rev, b24, bg, ⟨[], (if 1 > @id Int c.2.2.2.1 then 1 else @id Int c.2.2.2.1), 0⟩, sgg⟩ Q
  refine ⟨_, rfl, hk _ _ _ w (Rw.lit b31 [_, _] encS rfl rfl (by simp [maxLen])) ⟨p, sg, sf, ss, sk', sr, sm', _, ⟨R.gt, R.fl, R.sh, hK, R.ro, by rw [← e5] at hm'; exact hm', fun y hy => ?_, ?_⟩, rfl⟩ (sysBack i hi h)⟩
  ·rcases zdH hy with rfl | hy
   ·exact hG
   ·exact R.ea y hy
  ·show mset a.by' _ _ = _
   rw [R.ab]; exact e6.symm
abbrev ldTab (a : ASys) (n : ByteArray) : ATab × Int := resolve a.bk (shRt a.sh n).1
abbrev ldNow (a : ASys) (n : ByteArray) : ATab := nowOf a.ro n (ldTab a n).1 a.now (shRt a.sh n).1.roll
def sysLead (a : ASys) (e : AEv) : ASys × List ByteArray :=
 if (shRt a.sh e.name).2.2 = false then (a, refusedB 6) else if (ldTab a e.name).2 ≠ 0 then (a, refusedB (ldTab a e.name).2)
 else ({ a with ro := roTurn a.ro e.name (ldTab a e.name).1 a.now (shRt a.sh e.name).1.roll }, [lineB zlf [e.name, tabText (ldNow a e.name)]])
structure TabB (t : ATab) : Prop where
 sh : ∀ s ∈ t.sh, (0 ≤ @id Int s.2.1 ∧ @id Int s.2.1 ≤ 1000) ∧ s.1.size ≤ 1000
 tg : ∀ s ∈ t.tg, s.1.size ≤ 1000 ∧ s.2.1.size ≤ 1000
 txt : (tabText t).size ≤ 100000000
theorem zme [bTab w0] (h : St w0 E w) (i : Nat) {b : Nat} {a : ASys} {s : Seg} (hi : nth E i = some s) (hs : SysS b a s) {e : AEv} (hfew : a.sh.Few) (hname : e.name.size ≤ 100000) (hp : ∀ t ∈ (shRt a.sh e.name).1.ts, 0 ≤ pct t ∧ pct t ≤ 1000) (hl : (shRt a.sh e.name).1.ts.length ≤ 1000)
  (hroll : (shRt a.sh e.name).1.roll ≤ 1000000) (hok : ∀ x, mget a.ro e.name = some x → x.Ok) (hsi : ∀ x, mget a.ro e.name = some x → 0 ≤ x.since ∧ x.since < 1000000000) (hnow : 0 ≤ a.now ∧ a.now < 1000000000) (hwb : WBd (ldTab a e.name).1.sh) (hln : (ldNow a e.name).sh.length < 100000) (htb : TabB (ldNow a e.name))
  {k : Sl → PT} (hk : Hk w0 E i b (sysLead a e) k) : z4H (some ⟨b, 0, none⟩) e.t (slK k) w := by
 have hs0 := hs
 obtain ⟨p, sg, sf, ss, sk, sr, sm, Q, R, rfl⟩ := hs
 unfold z4H
 unfold sysLead at hk
 have h := (h.front i hi).split8
 refine nw h ?_; clear h; (try clear w); intro b1 w h
 refine z22 (fun (z : Addr × Bool × Unit) w => ∃ (b8 : Nat) (v : Sl) (sv : Seg), z = (⟨b8, 0, none⟩, (shRt a.sh e.name).2.2, ()) ∧ Rw eT z07 3 v (shRt a.sh e.name).1.ts sv ∧
  St w0 ([Cl b8 z0o [.string (shRt a.sh e.name).1.name, .string (shRt a.sh e.name).1.cfg, SlV v, I (shRt a.sh e.name).1.roll]] :: sv :: [Cl b1 z0B (eEw e)] :: sysC b p a.now :: sg :: sf :: ss :: sk :: sr :: sm :: (Q.map BsE.sg).flatten :: delN E i) w) (fun k2 hk2 => ?_) ?_
 ·(dsimp only [setN, List.cons_append, List.nil_append] at h; refine dr h ?_; clear h; (try clear w); intro w h; refine nn ?_; refine ldC h ?_; refine ldC h ?_)
  refine alts2 ?_ ?_
  ·refine zhE h 4 rfl R.sh hfew fun v sv w r h => ?_
   refine nw h ?_; clear h; (try clear w); intro b8 w h
   (refine ckC h ?_; refine ckC h ?_; refine stC h ?_; clear h; (try clear w); intro w h; dsimp only [putN, setN] at h)
   exact hk2 _ w ⟨b8, v, sv, rfl, r, h⟩
  ·refine nw h ?_; clear h; (try clear w); intro b8 w h
   (refine ckC h ?_; refine ckC h ?_)
   refine zhE h 5 rfl R.sh hfew fun v sv w r h => ?_
   (refine stC h ?_; clear h; (try clear w); intro w h; dsimp only [putN, setN] at h)
   have h := fr1_ h
   exact hk2 _ w ⟨b8, v, sv, rfl, r, h⟩
 clear h; (try clear w)
 rintro z w ⟨b8, v, sv, rfl, rv, h⟩
 (try dsimp only)
 refine it (fun hc => ?_) (fun hc => ?_)
 ·have hc : (shRt a.sh e.name).2.2 = false := by simpa using hc
  rw [if_pos hc] at hk
  refine z5C h fun v s w r h => ?_
  exact ⟨v, rfl, hk v s _ w r hs0 (sysBack i hi (dl1_ (dl1_ (dl1_ h))))⟩
 have hc : (shRt a.sh e.name).2.2 = true := by simpa using hc
 rw [if_neg (by simp [hc])] at hk
 unfold ldTab ldNow at *
 unfold ldTab at *
 generalize (shRt a.sh e.name).1 = r at *
 refine z22 (fun (z : Addr × Int × Unit) w => ∃ (b18 : Nat) (q : HT [.slice, .slice]) (sx : Seg), z = (⟨b18, 0, none⟩, (resolve a.bk r).2, ()) ∧ (∀ E', TabR w0 (sx :: E') q (resolve a.bk r).1) ∧
  St w0 (sx :: [Cl b18 z03 [SlV q.1, SlV q.2.1]] :: [Cl b8 z0o [.string r.name, .string r.cfg, SlV v, I r.roll]] :: sv :: [Cl b1 z0B (eEw e)] :: sysC b p a.now :: sg :: sf :: ss :: sk :: sr :: sm :: (Q.map BsE.sg).flatten :: delN E i) w) (fun k12 hk12 => ?_) ?_
 ·(refine dr h ?_; clear h; (try clear w); intro w h; refine laC h ?_; refine nn ?_; refine ldC h ?_)
  refine alts2 ?_ ?_
  ·refine zhJ (r := r) (v := v) h 7 rfl R.bk (Rw.re encT 1 rfl rv) hl hp fun q sx w hq h => ?_
   refine nw h ?_; clear h; (try clear w); intro b18 w h
   (refine ckC h ?_; refine ckC h ?_; refine stC h ?_; clear h; (try clear w); intro w h; dsimp only [putN, setN] at h)
   have h := fr1_ h
   exact hk12 _ w ⟨b18, q, sx, rfl, hq, h⟩
  ·refine nw h ?_; clear h; (try clear w); intro b18 w h
   (refine ckC h ?_; refine ckC h ?_)
   refine zhJ (r := r) (v := v) h 8 rfl R.bk (Rw.re encT 2 rfl rv) hl hp fun q sx w hq h => ?_
   (refine stC h ?_; clear h; (try clear w); intro w h; dsimp only [putN, setN] at h)
   exact hk12 _ w ⟨b18, q, sx, rfl, hq, h⟩
 clear h; (try clear w)
 rintro z w ⟨b18, q, sx, rfl, hq, h⟩
 (try dsimp only)
 refine it (fun h2 => ?_) (fun h2 => ?_)
 ·have h2 : (resolve a.bk r).2 ≠ 0 := by simpa using h2
  rw [if_pos h2] at hk
  refine z5C h fun v s w r h => ?_
  exact ⟨v, rfl, hk v s _ w r hs0 (sysBack i hi (dl1_ (dl1_ (dl1_ (dl1_ (dl1_ h))))))⟩
 have h2 : ¬ (resolve a.bk r).2 ≠ 0 := by simpa using h2
 rw [if_neg h2] at hk
 (refine dr h ?_; clear h; (try clear w); intro w h; refine ldC h ?_; refine nn ?_; refine ldC h ?_; refine ldC h ?_; refine laC h ?_; refine nn ?_; refine ldC h ?_; refine ldC h ?_)
 refine znL (p := q) (t := (resolve a.bk r).1) h 10 rfl R.ro (hq _) hok hwb hnow hsi hroll hln fun q2 sy sr' w hR hq2 h => ?_
 dsimp only [setN] at h
 (refine ckC h ?_)
 refine zqB (p := q2) h (hq2 _) htb.sh htb.tg fun w h => ?_
 (refine ckC h ?_)
 refine nw h ?_; clear h; (try clear w); intro b32 w h
 refine lineS2 h (by decide) (by omega) htb.txt fun w h => ?_
 refine nw h ?_; clear h; (try clear w); intro b34 w h
 refine ⟨_, rfl, hk _ _ _ w (Rw.lit b34 [_] encS rfl rfl (by simp [maxLen])) ⟨p, sg, sf, ss, sk, sr', sm, Q, ⟨R.gt, R.fl, R.sh, R.bk, hR, R.mp, R.ea, R.ab⟩, rfl⟩ (sysBack i hi ?_)⟩
 exact dl1_ (dl1_ (dl1_ (dl1_ (dl1_ (dl1_ h)))))
theorem zgh {rev : ByteArray} {y : ABes} {sgg : Seg} {x : BsE} (hk : x.k = rev) {B : List BsE} : ∀ {A : List BsE}, ((A ++ x :: B).map BsE.k).Nodup → (A ++ ⟨x.k, x.b, x.g, y, sgg⟩ :: B).map BsE.ka = mset ((A ++ x :: B).map BsE.ka) rev y
 | [], _ => by
  subst hk
  simp [mset]
 | a :: A, hn => by
  have hn2 := hn
  rw [List.cons_append, List.map_cons, List.nodup_cons] at hn2
  have hne : ¬ a.k = rev := fun e => hn2.1 (by rw [e, ← hk]; simp)
  have ih := zgh hk (A := A) (y := y) (sgg := sgg) hn2.2
  rw [List.cons_append, List.map_cons, List.cons_append, List.map_cons, ih]
  simp only [mset]
  rw [if_neg hne]
def bnd (a : ASys) (e : AEv) : ByteArray := if (mget a.ro e.name).isSome = false then s_ else if e.tag = s_ then tPick (roTab a.ro e.name) e.draw else (tagL (roTab a.ro e.name).tg e.tag).1
theorem zpq (h : St w0 E w) (i : Nat) {b : Nat} {a : ASys} {s : Seg} (hi : nth E i = some s) (hs : SysS b a s) {e : AEv} (hd : 0 ≤ e.draw ∧ e.draw < 4611686018427387904) (hok : ∀ x, mget a.ro e.name = some x → x.Ok) (hwb : WBd (roTab a.ro e.name).sh) {k : ByteArray → PT}
  (hk : ∀ w', St w0 E w' → k (bnd a e) w') : L.call Pr z43 [.pointer (some ⟨b, 0, none⟩), evV e] (.one (.one .str)) k w := by
 obtain ⟨p, sg, sf, ss, sk, sr, sm, Q, R, rfl⟩ := hs
 refine z01 (za3 _ e.t) ?_
 unfold z6d
 unfold bnd at hk
 have h := (h.front i hi).split8
 refine nw h ?_; clear h; (try clear w); intro b1 w h
 (dsimp only [setN, List.cons_append, List.nil_append] at h; refine ldC h ?_)
 refine z01 (za4 _ _) ?_
 unfold z6e
 refine nw h ?_; clear h; (try clear w); intro b2 w h
 (refine nn ?_; refine ldC h ?_)
 refine zmj h 7 rfl R.ro hok fun q sx w hq h => ?_
 (refine stC h ?_; clear h; (try clear w); intro w h; dsimp only [putN, setN] at h; refine laC h ?_)
 refine ⟨(q, (mget a.ro e.name).isSome, ()), rfl, ?_⟩
 have fin : ∀ {w x}, (∀ w', St w0 E w' → k x w') → St w0 (sx :: [Cl b2 z03 [SlV q.1, SlV q.2.1]] :: [Cl b1 z0B (eEw e)] :: sysC b p a.now :: sg :: sf :: ss :: sk :: sr :: sm :: (Q.map BsE.sg).flatten :: delN E i) w → k x w := by
  intro w x hk h
  exact hk w (St.again i hi (dl0_ (dl0_ (dl0_ h))).glue8)
 refine nw h ?_; clear h; (try clear w); intro b4 w h
 (refine stC h ?_; clear h; (try clear w); intro w h; dsimp only [putN, setN] at h)
 refine it (fun hc => ?_) (fun hc => ?_)
 ·have hc : (mget a.ro e.name).isSome = false := by simpa using hc
  rw [if_pos hc] at hk
  exact ⟨_, rfl, fin hk (dl0_ h)⟩
 have hc : ¬ (mget a.ro e.name).isSome = false := fun e2 => by
  dsimp only at hc
  rw [e2] at hc
  exact absurd hc (by decide)
 rw [if_neg hc] at hk
 (refine ldC h ?_)
 rw [z39]
 refine it (fun h2 => ?_) (fun h2 => ?_) <;> (try simp only [zB] at h2)
 ·rw [if_pos h2] at hk
  (refine laC h ?_; refine ldC h ?_)
  exact zqF (p := q) h (t := roTab a.ro e.name) (by
   have := hq ([Cl b2 z03 [SlV q.1, SlV q.2.1]] :: [Cl b1 z0B (eEw e)] :: sysC b p a.now :: sg :: sf :: ss :: sk :: sr :: sm :: (Q.map BsE.sg).flatten :: delN E i)
   exact this.there) hwb hd.1 hd.2 fun w h => ⟨_, rfl, fin hk (dl0_ h)⟩
 ·rw [if_neg h2] at hk
  (refine laC h ?_; refine ldC h ?_)
  exact zpt (p := q) h (t := roTab a.ro e.name) (by
   have := hq ([Cl b2 z03 [SlV q.1, SlV q.2.1]] :: [Cl b1 z0B (eEw e)] :: sysC b p a.now :: sg :: sf :: ss :: sk :: sr :: sm :: (Q.map BsE.sg).flatten :: delN E i)
   exact this.there) fun w h => ⟨_, rfl, fin hk (dl0_ h)⟩
abbrev arG (a : ASys) (e : AEv) : AFleet × AGate × Fate := gArr a.fl a.gt e.n (bnd a e) a.now
def pokes (a : ASys) (e : AEv) : Option ABes := match mget a.by' (bnd a e) with
 | some x => if (arG a e).2.2.2.1 = 2 ∧ x.want = 0 then some x else none
 | none => none
def sysArrive (a : ASys) (e : AEv) : ASys × List ByteArray := match pokes a e with
 | some x => ({ a with fl := (arG a e).1, gt := (arG a e).2.1, by' := mset a.by' (bnd a e) ⟨x.xs, 1, x.left⟩ }, [fateB (arG a e).2.2, lineB (lineB s_scale [bnd a e]) [decD 1]])
 | none => ({ a with fl := (arG a e).1, gt := (arG a e).2.1 }, [fateB (arG a e).2.2])
theorem zptr (w : World) : (zeroValue z4t).run Pr w = .ok ((E1.one .ptr).val (none : Option Addr)) w := by
 have h : (Pr.info? z4t).map (·.zero) = some (some (.pointer none)) := by kernel_rfl
 cases hi : Pr.info? z4t with
 | none => rw [hi] at h; cases h
 | some i => rw [hi] at h; simp only [Option.map_some, Option.some.injEq] at h; exact zv hi h w
theorem zfu {Q : List BsE} {rev : ByteArray} : mget (Q.map BsE.kp) rev = (lfind BsE.k Q rev).map fun x => some ⟨x.b, 0, none⟩ := z5z (key := BsE.k) (fun x : BsE => (some ⟨x.b, 0, none⟩ : Option Addr)) rev Q
theorem zfv {Q : List BsE} {rev : ByteArray} : mget (Q.map BsE.ka) rev = (lfind BsE.k Q rev).map BsE.x := z5z (key := BsE.k) BsE.x rev Q
theorem ziC [bTab w0] (h : St w0 E w) (i : Nat) {b : Nat} {a : ASys} {s : Seg} (hi : nth E i = some s) (hs : SysS b a s) {e : AEv} (hd : 0 ≤ e.draw ∧ e.draw < 4611686018427387904) (hok : ∀ x, mget a.ro e.name = some x → x.Ok) (hwb : WBd (roTab a.ro e.name).sh)
  (hfew : FFew a.fl) (hn : a.gt.all.length < 80000000) (hl : a.gt.lines.length < 90000000) (hnow : -1000000000000 < a.now + a.gt.pat ∧ a.now + a.gt.pat < 1000000000000) (hf : (arG a e).2.2.Ok) (hrv : (bnd a e).size ≤ 1000000)
  {k : Sl → PT} (hk : Hk w0 E i b (sysArrive a e) k) : z3N (some ⟨b, 0, none⟩) e.t (slK k) w := by
 have hs0 := hs
 obtain ⟨p, sg, sf, ss, sk, sr, sm, Q, R, rfl⟩ := hs
 unfold z3N
 refine nw h ?_; clear h; (try clear w); intro b1 w h
 (dsimp only [setN, List.cons_append, List.nil_append] at h; refine laC h ?_)
 refine zpq (e := e) h (i + 1) hi hs0 hd hok hwb fun w h => ?_
 unfold sysArrive pokes arG at hk
 unfold arG at hf
 generalize bnd a e = rev at *
 have h := (h.front (i + 1) hi).split8
 have h : St w0 (sysC b p a.now :: sg :: sf :: ss :: sk :: sr :: sm :: (Q.map BsE.sg).flatten :: [Cl b1 z0B (eEw e)] :: delN E i) w := h
 (refine dr h ?_; clear h; (try clear w); intro w h; refine nn ?_; refine ldC h ?_; refine ldC h ?_; refine nn ?_; refine ldC h ?_)
 have h := fr2_ (fr2_ h)
 refine zqr h R.gt R.fl hfew (by omega) hl hnow fun v sv sg' sf' w hr hG hF h => ?_
 generalize gArr a.fl a.gt e.n rev a.now = g at *
 have hone : ∀ f ∈ [g.2.2], f.Ok := fun f hff => by rw [List.mem_singleton.1 hff]; exact hf
 have hlen := Rw.len encF hr
 refine zjA h.nil (l := []) hr hone (by simp) (by decide) Rw.nil fun v2 s2 w r2 h => ?_
 simp only [List.nil_append, List.map_cons, List.map_nil] at r2
 (refine nn ?_; refine ldC h ?_)
 refine z01 (z36 _ _) ?_
 unfold z1W
 refine MpS.get2 mkStr zgP zptr (fun x : Option Addr => x) (fun _ => rfl) h 8 rfl R.mp ?_
 rw [R.ab, zfv] at hk
 rw [zfu]
 have close : ∀ {w} {vo : Sl} {so sm' : Seg} {Q' : List BsE} {by'' : List (ByteArray × ABes)} {out : List ByteArray}, by'' = Q'.map BsE.ka → MpS Value.string Value.pointer p.m (Q'.map BsE.kp) sm' → (∀ x ∈ Q', x.ok) → Rw eS z00 1 vo out so →
   (∀ v sv s' w', Rw eS z00 1 v out sv → SysS b { a with fl := g.1, gt := g.2.1, by' := by'' } s' → St w0 (sv :: setN E i s') w' → k v w') →
   St w0 (so :: sv :: sg' :: sf' :: sysC b p a.now :: ss :: sk :: sr :: sm' :: (Q'.map BsE.sg).flatten :: [Cl b1 z0B (eEw e)] :: delN E i) w →
   slK k (.slice vo.a vo.len vo.cap) w := by
  intro w vo so sm' Q' by'' out e1 hm hq ro hk h
  refine ⟨vo, rfl, hk vo so _ w ro ⟨p, sg', sf', ss, sk, sr, sm', Q', ⟨hG, hF, R.sh, R.bk, R.ro, hm, hq, e1⟩, rfl⟩ ?_⟩
  have h := dl1_ h
  have h := fr8_ (fr8_ (fr7_ (fr7_ (fr8_ (fr8_ (fr8_ (fr8_ (fr8_ h))))))))
  exact sysBack i hi (dl9_ h)
 cases hf2 : lfind BsE.k Q rev with
 | none =>
  rw [hf2] at hk
  dsimp only [Option.map] at hk ⊢
  refine ⟨(none, false, ()), rfl, ?_⟩
  refine jd ?_
  refine itF rfl ?_
  exact close rfl R.mp R.ea r2 hk h
 | some x =>
  have hmk := R.mp.nd
  obtain ⟨A, B, rfl, hxk⟩ := zaf hf2
  rw [hf2] at hk
  dsimp only [Option.map] at hk ⊢
  refine ⟨(some ⟨x.b, 0, none⟩, true, ()), rfl, ?_⟩
  refine jd ?_
  refine itT rfl ?_
  refine itT (by rw [hlen]; rfl) ?_
  refine Rw.ix encF hr (by decide) (by simp) fun a16 ha => ?_
  refine Rw.ld encF h 1 rfl hr ha (x := g.2.2) (f := 1) rfl rfl rfl ?_
  refine it (fun h1 => ?_) (fun h1 => ?_)
  ·have h1 : g.2.2.2.1 = 2 := by simpa using h1
   have h := fr9_ h
   have h := h.pick
   have h := h.split
   (refine nn ?_; refine ldC h ?_)
   refine it (fun h2 => ?_) (fun h2 => ?_)
   ·have h2 : x.x.want = 0 := by simpa using h2
    rw [if_pos ⟨h1, h2⟩] at hk
    dsimp only at hk
    (refine nn ?_; refine stC h ?_; clear h; (try clear w); intro w h; dsimp only [putN, setN] at h)
    refine nw h ?_; clear h; (try clear w); intro b21 w h
    refine lineS1 h (by decide) (by omega) fun w h => ?_
    refine nw h ?_; clear h; (try clear w); intro b23 w h
    refine lineI1 h (by rw [z8j]; have : s_scale.size = 5 := rfl; omega) (by decide) (by decide) fun w h => ?_
    refine nw h ?_; clear h; (try clear w); intro b25 w h
    refine Rw.app encS elS h 3 rfl r2 (lineB (lineB s_scale [rev]) [decD 1]) rfl (by simp) (by simp) fun v' s' w r2' h => ?_
    dsimp only [setN] at h
    have h := h.glue
    have h : St w0 (BsE.sg ⟨x.k, x.b, x.g, ⟨x.x.xs, 1, x.x.left⟩, x.sgg⟩ :: ((A ++ B).map BsE.sg).flatten :: s' :: sv :: sg' :: sf' :: sysC b p a.now :: ss :: sk :: sr :: sm :: [Cl b1 z0B (eEw e)] :: delN E i) w := h
    have h := h.place
    have h := fr9_ (fr9_ (fr9_ (fr9_ (fr9_ (fr9_ (fr9_ (fr9_ (fr9_ h))))))))
    have et := zgh (rev := rev) (y := ⟨x.x.xs, 1, x.x.left⟩) (sgg := x.sgg) hxk (B := B) (A := A) (by simpa [List.map_map, Function.comp_def] using hmk)
    refine close (Q' := A ++ ⟨x.k, x.b, x.g, ⟨x.x.xs, 1, x.x.left⟩, x.sgg⟩ :: B) et.symm (by simpa using R.mp) (fun y hy => ?_) r2' hk h
    rcases List.mem_append.1 hy with hy | hy
    ·exact R.ea y (by simp [hy])
    ·rcases List.mem_cons.1 hy with rfl | hy
     ·exact R.ea x (by simp)
     ·exact R.ea y (by simp [hy])
   ·have h2 : ¬ x.x.want = 0 := by simpa using h2
    rw [if_neg (fun hh => h2 hh.2)] at hk
    have h := h.glue
    have h := St.place (g := BsE.sg) (t := x) h
    have h := fr9_ (fr9_ (fr9_ (fr9_ (fr9_ (fr9_ (fr9_ (fr9_ (fr9_ h))))))))
    exact close rfl R.mp R.ea r2 hk h
  ·have h1 : ¬ g.2.2.2.1 = 2 := by simpa using h1
   rw [if_neg (fun hh => h1 hh.1)] at hk
   exact close rfl R.mp R.ea r2 hk h
def wantB (m : List (ByteArray × ABes)) (rev : ByteArray) : Int := ((mget m rev).map ABes.want).getD 0
theorem zmb (h : St w0 E w) {b : Nat} {p : Bls} {now : Int} {sm : Seg} {Q : List BsE} {i j l : Nat} (hi : nth E i = some (sysC b p now)) (hj : nth E j = some sm) (hl : nth E l = some (Q.map BsE.sg).flatten) (hm : MpS Value.string Value.pointer p.m (Q.map BsE.kp) sm) {rev : ByteArray} {k : Int → PT} (hk : k (wantB (Q.map BsE.ka) rev) w) :
  L.call Pr z4E [.pointer (some ⟨b, 0, none⟩), .string rev] (.one (.one (.int .i64))) k w := by
 refine z01 (zaw _ _) ?_
 unfold z6y
 have h0 := h
 have h := h0.front i hi
 unfold wantB at hk
 rw [zfv] at hk
 (refine nn ?_; refine ldC h ?_)
 refine z01 (z36 _ _) ?_
 unfold z1W
 refine MpS.get2 mkStr zgP zptr (fun x : Option Addr => x) (fun _ => rfl) h0 j hj hm ?_
 rw [zfu]
 cases hf : lfind BsE.k Q rev with
 | none =>
  rw [hf] at hk
  refine ⟨(none, false, ()), rfl, ?_⟩
  exact itF rfl ⟨_, rfl, hk⟩
 | some x =>
  rw [hf] at hk
  obtain ⟨A, B, rfl, hxk⟩ := zaf hf
  refine ⟨(some ⟨x.b, 0, none⟩, true, ()), rfl, ?_⟩
  refine itT rfl ?_
  have h := ((h0.front l hl).pick).split
  (refine nn ?_; refine ldC h ?_)
  exact ⟨_, rfl, hk⟩
def cnt (q : Int → Bool) (l : List (Int × Int × Int)) : Int := ((l.filter fun x => q x.2.1).length : Int)
theorem zkw (h : St w0 E w) {b : Nat} {p : Bls} {now : Int} {sf : Seg} {F : AFleet} {i j : Nat} (hi : nth E i = some (sysC b p now)) (hj : nth E j = some sf) (hf : FlS p.f F sf) {rev : ByteArray} {fv : FV} {q : Int → Bool} (hlen : (fPods F.l rev).length < 1000000)
  (hq : ∀ {E' : List Seg} {w : World} {x : Int} {k : Bool → PT}, St w0 E' w → (∀ w', St w0 E' w' → k (q x) w') → L.callV Pr (.func fv.fn fv.fs fv.cs) [I x] (.one (.one .bool)) k w) {k : Int → PT} (hk : ∀ w', St w0 E w' → k (cnt q (fPods F.l rev)) w') :
  L.call Pr z42 [.pointer (some ⟨b, 0, none⟩), .string rev, fv.val] (.one (.one (.int .i64))) k w := by
 refine z01 (za2 _ _ fv) ?_
 unfold z6c
 refine z01 (zax _ _) ?_
 unfold z6z
 have h0 := h
 have h := h0.front i hi
 (refine nn ?_; refine ldC h ?_)
 refine zpn h0 j hj hf fun v s w hr h => ⟨v, rfl, ?_⟩
 clear h0
 generalize fPods F.l rev = l at *
 have hln := Rw.len encK hr
 refine z0U (fun m y w => ∃ (j : Nat), @Eq Int y.2.1 j ∧ m + j = l.length ∧ @Eq Int y.1 (cnt q (l.take j)) ∧ St w0 (s :: E) w) l.length ⟨0, rfl, rfl, rfl, h⟩ ?_
 clear h; (try clear w)
 rintro m ⟨n, y, ⟨⟩⟩ w ⟨j, hy, hm, hn, h⟩ again hag
 (try dsimp only)
 simp only at hy hn
 subst hy
 refine it (fun hb => ?_) (fun hb => ?_) <;> (try simp only [zB] at hb)
 ·have hj : j < l.length := by omega
  have hx : l[j]? = some l[j] := List.getElem?_eq_getElem hj
  have et : cnt q (l.take (j + 1)) = cnt q (l.take j) + (if q l[j].2.1 = true then 1 else 0) := by
   unfold cnt
   rw [List.take_succ, hx, Option.toList_some, List.filter_append, List.length_append]
   by_cases hc : q l[j].2.1 = true
   ·simp [hc]
   ·simp [hc]
  have hle : 0 ≤ cnt q (l.take j) ∧ cnt q (l.take j) ≤ j := by
   unfold cnt
   have := List.length_filter_le (fun x : Int × Int × Int => q x.2.1) (l.take j)
   rw [List.length_take] at this
   omega
  generalize l[j] = x at hx et
  obtain ⟨x1, x2, x3⟩ := x
  refine jd ?_
  refine Rw.ix encK hr (by omega) (by simpa using hj) fun a ha => ?_
  refine Rw.lda encK h 0 rfl hr ha (x := (x1, x2, x3)) (by simpa using hx) rfl ?_
  refine nw h ?_; clear h; (try clear w); intro b8 w h
  (refine stC h ?_; clear h; (try clear w); intro w h; dsimp only [putN, setN] at h; refine ldC h ?_)
  refine hq h fun w h => ?_
  have h := dl0_ h
  dsimp only at et
  refine it (fun hc => ?_) (fun hc => ?_)
  ·rw [if_pos hc] at et
   refine hag (m - 1) _ w (by omega) ⟨j + 1, ?_, by omega, ?_, h⟩
   ·show IntKind.wrap .i64 _ = _
    rw [wr (by omega) (by omega)]; omega
   ·show IntKind.wrap .i64 (n + 1) = _
    rw [et, hn, wr (by omega) (by omega)]
  ·rw [if_neg (by rw [hc]; decide)] at et
   refine hag (m - 1) _ w (by omega) ⟨j + 1, ?_, by omega, ?_, h⟩
   ·show IntKind.wrap .i64 _ = _
    rw [wr (by omega) (by omega)]; omega
   ·show n = _
    rw [et, hn]; omega
 ·have e : l.take j = l := List.take_of_length_le (by omega)
  rw [e] at hn
  have := hk w (dl0_ h)
  rw [← hn] at this
  exact ⟨_, rfl, this⟩
abbrev pdWant (a : ASys) (n : ByteArray) : Int := wantB a.by' n
abbrev pdConc (a : ASys) (n : ByteArray) : Int := @id Int (bkGet a.bk n).2.2.2.2.1
abbrev pdFl (a : ASys) (n : ByteArray) : AFleet := (fScale a.fl n (pdConc a n) (pdWant a n)).1
abbrev numL (word : ByteArray) (l : List Int) : List ByteArray := l.map fun x => lineB word [decD x.toNat]
def sysPods (a : ASys) (e : AEv) : ASys × List ByteArray :=
 if bkHas a.bk e.name = false then (a, refusedB 6)
 else ({ a with fl := pdFl a e.name }, numL s_made (fMade a.fl e.name (pdWant a e.name)) ++ numL zo6 (fScale a.fl e.name (pdConc a e.name) (pdWant a e.name)).2 ++ [lineB (lineB s_fleet [e.name]) [decD (cnt (fun s => s != 3) (fPods (pdFl a e.name).l e.name)).toNat]])
theorem zlw [bTab w0] {word : ByteArray} {v : Sl} {l : List Int} {X : List ByteArray} {vo : Sl} {si so : Seg} (hr : Rw eI z0h 1 v l si) (hl : l.length < 1000000) (hX : X.length < 1000000) (hb : ∀ x ∈ l, 0 ≤ x ∧ x ≤ 9000000000000000000) (hw : word.size ≤ 1000) (ro : Rw eS z00 1 vo X so) {k : Sl × Int × Unit → PT}
  (h : St w0 (so :: si :: E) w) (hk : ∀ v' s' m w', Rw eS z00 1 v' (X ++ numL word l) s' → St w0 (s' :: si :: E) w' → k (v', m, ()) w') :
  L.loop (Y := Sl × Int × Unit) (⟨vo.a, vo.len, vo.cap⟩, 0, ()) (fun y19 again20 =>
   L.ite (decide (y19.2.1 < ((v.len : Nat) : Int))) (
    L.idx v.a y19.2.1 v.len 1 fun a21 =>
    L.load (.one (.int .i64)) a21 fun (x22 : Int) =>
    L.new [.int .i64 x22] z0h fun b23 =>
    L.call Pr z0m [.string word, .slice (some ⟨b23, 0, none⟩) 1 1] (.one (.one (.str))) fun (x24 : ByteArray) =>
    L.new [.string x24] z00 fun b25 =>
    L.sem Pr (.one (.one .slice)) (Builtin.append_ #[z06, z06] z06 #[.slice y19.1.a y19.1.len y19.1.cap, .slice (some ⟨b25, 0, none⟩) 1 1]) fun (s26 : Sl) =>
    again20 (⟨s26.a, s26.len, s26.cap⟩, IntKind.wrap .i64 (y19.2.1 + 1), ())) <|
   k y19) w := by
 have hln := Rw.len encI hr
 refine z0U (fun q y w => ∃ (j : Nat) (s3 : Seg), @Eq Int y.2.1 j ∧ q + j = l.length ∧ Rw eS z00 1 y.1 (X ++ numL word (l.take j)) s3 ∧ St w0 (s3 :: si :: E) w) l.length ⟨0, so, rfl, by simp, by simpa using ro, h⟩ ?_
 clear ro
 clear h; (try clear w)
 rintro q ⟨vo, y, ⟨⟩⟩ w ⟨j, s3, hy, hq, r3, h⟩ again hag
 (try dsimp only)
 simp only at hy r3
 subst hy
 refine it (fun hb2 => ?_) (fun hb2 => ?_) <;> (try simp only [zB] at hb2)
 ·have hj : j < l.length := by omega
  have hx : l[j]? = some l[j] := List.getElem?_eq_getElem hj
  have hbx := hb l[j] (List.getElem_mem hj)
  have et : numL word (l.take (j + 1)) = numL word (l.take j) ++ [lineB word [decD (l[j]).toNat]] := by unfold numL; rw [List.take_succ, hx, List.map_append]; rfl
  generalize l[j] = x at hx et hbx
  refine Rw.ix encI hr (by omega) (by simpa using hj) fun a ha => ?_
  refine Rw.ld0 encI h 1 rfl hr ha (x := x) (by simpa using hx) rfl rfl ?_
  refine nw h ?_; clear h; (try clear w); intro b23 w h
  refine lineI1 h (by omega) hbx.1 hbx.2 fun w h => ?_
  refine nw h ?_; clear h; (try clear w); intro b25 w h
  refine Rw.app encS elS h 0 rfl r3 (lineB word [decD x.toNat]) rfl (by simp; omega) (by simp; omega) fun v' s3' w r3' h => ?_
  refine hag (q - 1) _ w (by omega) ⟨j + 1, s3', ?_, by omega, by rw [et, ← List.append_assoc]; exact r3', h⟩
  show IntKind.wrap .i64 _ = _
  rw [wr (by omega) (by omega)]; omega
 ·have e : l.take j = l := List.take_of_length_le (by omega)
  rw [e] at r3
  exact hk vo s3 _ w r3 h
theorem zmd [bTab w0] (h : St w0 E w) (i : Nat) {b : Nat} {a : ASys} {s : Seg} (hi : nth E i = some s) (hs : SysS b a s) {e : AEv} (hroom : a.fl.room < 1000000) (hlast : a.fl.last + a.fl.room < 4611686018427387904) (hname : e.name.size ≤ 100000)
  (hmade : ∀ x ∈ fMade a.fl e.name (pdWant a e.name), 0 ≤ x ∧ x ≤ 9000000000000000000) (hmn : (fMade a.fl e.name (pdWant a e.name)).length < 100000) (hgone : ∀ x ∈ (fScale a.fl e.name (pdConc a e.name) (pdWant a e.name)).2, 0 ≤ x ∧ x ≤ 9000000000000000000) (hgn : (fScale a.fl e.name (pdConc a e.name) (pdWant a e.name)).2.length < 100000)
  (hpn : (fPods (pdFl a e.name).l e.name).length < 1000000) {k : Sl → PT} (hk : Hk w0 E i b (sysPods a e) k) : z2t (some ⟨b, 0, none⟩) e.t (slK k) w := by
 have hs0 := hs
 obtain ⟨p, sg, sf, ss, sk, sr, sm, Q, R, rfl⟩ := hs
 unfold z2t
 unfold sysPods at hk
 have h := (h.front i hi).split8
 refine nw h ?_; clear h; (try clear w); intro b1 w h
 refine z22 (fun (z : Addr × Bool × Unit) w => ∃ b8 : Nat, z = (⟨b8, 0, none⟩, bkHas a.bk e.name, ()) ∧
  St w0 ([Cl b8 z0l (rvC (bkGet a.bk e.name))] :: [Cl b1 z0B (eEw e)] :: sysC b p a.now :: sg :: sf :: ss :: sk :: sr :: sm :: (Q.map BsE.sg).flatten :: delN E i) w) (fun k2 hk2 => ?_) ?_
 ·(dsimp only [setN, List.cons_append, List.nil_append] at h; refine dr h ?_; clear h; (try clear w); intro w h; refine nn ?_; refine ldC h ?_; refine ldC h ?_)
  refine alts2 ?_ ?_
  ·refine zer h 5 rfl R.bk fun w h => ?_
   refine nw h ?_; clear h; (try clear w); intro b8 w h
   (refine ckC h ?_; refine ckC h ?_; refine stC h ?_; clear h; (try clear w); intro w h; dsimp only [putN, setN] at h)
   exact hk2 _ w ⟨b8, rfl, h⟩
  ·refine nw h ?_; clear h; (try clear w); intro b8 w h
   (refine ckC h ?_; refine ckC h ?_)
   refine zer h 6 rfl R.bk fun w h => ?_
   (refine stC h ?_; clear h; (try clear w); intro w h; dsimp only [putN, setN] at h)
   exact hk2 _ w ⟨b8, rfl, h⟩
 clear h; (try clear w)
 rintro z w ⟨b8, rfl, h⟩
 (try dsimp only)
 refine it (fun hc => ?_) (fun hc => ?_)
 ·have hc : bkHas a.bk e.name = false := by simpa using hc
  rw [if_pos hc] at hk
  refine z5C h fun v s w r h => ?_
  exact ⟨v, rfl, hk v s _ w r hs0 (sysBack i hi (dl1_ (dl1_ h)))⟩
 have hc : ¬ bkHas a.bk e.name = false := by simpa using hc
 rw [if_neg hc] at hk
 (refine dr h ?_; clear h; (try clear w); intro w h; refine nn ?_; refine ldC h ?_; refine ldC h ?_; rw [z3L]; refine ldC h ?_; refine ldC h ?_)
 refine zmb h (i := 2) (j := 8) (l := 9) rfl rfl rfl R.mp ?_
 (refine ckC h ?_; refine ckC h ?_; refine ckC h ?_)
 have ew : wantB (Q.map BsE.ka) e.name = pdWant a e.name := by unfold pdWant; rw [R.ab]
 rw [ew]
 have hF0 := R.fl
 unfold pdFl at *
 refine znP (conc := pdConc a e.name) h 4 rfl R.fl (by omega) hlast fun v1 v2 sf' s1 s2 w hF r1 r2 h => ?_
 dsimp only [setN] at h
 generalize fScale a.fl e.name (pdConc a e.name) (pdWant a e.name) = g at *
 generalize fMade a.fl e.name (pdWant a e.name) = made at *
 obtain ⟨F, gone⟩ := g
 dsimp only at *
 have h := fr1_ h
 refine zlw (vo := ⟨none, 0, 0⟩) (X := []) r1 (by omega) (by simp) hmade (by decide) Rw.nil h.nil fun v3 s3 m w r3 h => ?_
 have h := fr2_ (fr2_ (fr1_ h))
 refine zlw r2 (by omega) (by simp [numL]; omega) hgone (by decide) r3 h fun v4 s4 m w r4 h => ?_
 (refine ldC h ?_)
 refine zkw h (i := 5) (j := 7) rfl rfl hF (fv := ⟨.func z2J, #[], #[]⟩) (q := fun s => s != 3) hpn (fun {E' w x k} h hk => ?_) fun w h => ?_
 ·refine z4s (fs := #[]) (cs := #[]) z9f (z9i x) ?_
  unfold z5M
  exact ⟨_, rfl, hk w h⟩
 (refine ldC h ?_)
 have hcn : 0 ≤ cnt (fun s => s != 3) (fPods F.l e.name) ∧ cnt (fun s => s != 3) (fPods F.l e.name) ≤ 1000000 := by
  unfold cnt
  have := List.length_filter_le (fun x : Int × Int × Int => (fun s => s != 3) x.2.1) (fPods F.l e.name)
  refine ⟨Int.natCast_nonneg _, ?_⟩
  have h2 : ((fPods F.l e.name).filter fun x : Int × Int × Int => (fun s => s != 3) x.2.1).length ≤ 1000000 := by omega
  exact Int.ofNat_le.2 h2
 generalize cnt (fun s => s != 3) (fPods F.l e.name) = n at *
 refine nw h ?_; clear h; (try clear w); intro b38 w h
 refine lineS1 h (by decide) (by omega) fun w h => ?_
 refine nw h ?_; clear h; (try clear w); intro b40 w h
 refine lineI1 h (by rw [z8j]; have : s_fleet.size = 5 := rfl; omega) hcn.1 (by omega) fun w h => ?_
 refine nw h ?_; clear h; (try clear w); intro b42 w h
 refine Rw.app encS elS h 0 rfl r4 (lineB (lineB s_fleet [e.name]) [decD n.toNat]) rfl (by simp [numL]; omega) (by simp [numL]; omega) fun v5 s5 w r5 h => ?_
 refine ⟨v5, rfl, hk v5 s5 _ w (by simpa using r5) ⟨p, sg, sf', ss, sk, sr, sm, Q, ⟨R.gt, hF, R.sh, R.bk, R.ro, R.mp, R.ea, R.ab⟩, rfl⟩ (sysBack i hi ?_)⟩
 exact dl1_ (dl1_ (dl1_ (dl1_ h)))
def busyB (G : AGate) (rev : ByteArray) : Int := ((gWait G rev).length : Int) + (gWith G.all rev).length
def tkStep (G : AGate) (m : List (ByteArray × ABes)) (rev : ByteArray) : List (ByteArray × ABes) := match mget m rev with
 | some x => mset m rev ⟨x.xs ++ [if 0 > busyB G rev then 0 else busyB G rev], x.want, x.left⟩
 | none => m
abbrev tkG (a : ASys) : AGate × List Fate := gTick a.gt (a.now + 1)
def sysTick (a : ASys) : ASys × List ByteArray :=
 if a.now ≥ 1048576 then (a, refusedB 9)
 else ({ a with gt := (tkG a).1, now := a.now + 1, by' := (bkAll a.bk).foldl (tkStep (tkG a).1) a.by' }, lineB zle [decD (a.now + 1).toNat] :: (tkG a).2.map fateB)
theorem zmc [bTab w0] (h : St w0 E w) (i : Nat) {b : Nat} {a : ASys} {s : Seg} (hi : nth E i = some s) (hs : SysS b a s) {e : AEv} (hnow : 0 ≤ a.now) (hwk : GWk a.gt) (hfl : (tkG a).2.length < 90000000) (hf : ∀ f ∈ (tkG a).2, f.Ok)
  (hby : ∀ rev ∈ bkAll a.bk, (mget a.by' rev).isSome = true) (hxs : ∀ x ∈ a.by', x.2.xs.length < 1000000000) (hfb : a.bk.all.length < 1000000) {k : Sl → PT} (hk : Hk w0 E i b (sysTick a) k) : z4G (some ⟨b, 0, none⟩) e.t (slK k) w := by
 have hs0 := hs
 obtain ⟨p, sg, sf, ss, sk, sr, sm, Q, R, rfl⟩ := hs
 unfold z4G
 unfold sysTick tkG at hk
 unfold tkG at hfl hf
 have h := (h.front i hi).split8
 refine nw h ?_; clear h; (try clear w); intro b1 w h
 (dsimp only [setN, List.cons_append, List.nil_append] at h; refine nn ?_; refine ldC h ?_)
 refine it (fun hc => ?_) (fun hc => ?_) <;> (try simp only [zB] at hc)
 ·rw [if_pos hc] at hk
  refine z5C h fun v s w r h => ?_
  exact ⟨v, rfl, hk v s _ w r hs0 (sysBack i hi (dl1_ h))⟩
 rw [if_neg hc] at hk
 (refine nn ?_; refine ldC h ?_; refine nn ?_; refine stC h ?_; clear h; (try clear w); intro w h; dsimp only [putN, setN] at h; refine dr h ?_; clear h; (try clear w); intro w h; refine nn ?_; refine ldC h ?_; refine nn ?_; refine ldC h ?_)
 rw [wr (by omega) (by omega)] at h ⊢
 have h := fr2_ h
 refine zpj h R.gt hwk hfl fun v sv sg' w hr hG h => ?_
 generalize gTick a.gt (a.now + 1) = g at *
 refine z01 (z89 _) ?_
 unfold z4N
 (refine nn ?_; refine ldC h ?_)
 refine zps h 6 rfl R.bk fun v2 s2 w r2 h => ⟨v2, rfl, ?_⟩
 have hnl : (bkAll a.bk).length < 1000000 := by unfold bkAll; rw [z2V, List.length_map]; exact hfb
 generalize bkAll a.bk = l at *
 have hln := Rw.len encS r2
 let EV : Seg := [Cl b1 z0B (eEw e)]
 refine z0U (fun m y w => ∃ (j : Nat) (sg2 : Seg) (Q2 : List BsE), @Eq Int y.1 j ∧ m + j = l.length ∧ GtS p.g p.f g.1 sg2 ∧ Q2.map BsE.kp = Q.map BsE.kp ∧ (∀ x ∈ Q2, x.ok) ∧ Q2.map BsE.ka = (l.take j).foldl (tkStep g.1) a.by' ∧ (∀ x ∈ Q2, x.x.xs.length < 1000000000 + j) ∧
  St w0 (s2 :: sv :: sg2 :: EV :: sysC b p (a.now + 1) :: sf :: ss :: sk :: sr :: sm :: (Q2.map BsE.sg).flatten :: delN E i) w) l.length ⟨0, sg', Q, rfl, rfl, hG, rfl, R.ea, R.ab.symm, fun x hx => by have := hxs _ (by rw [R.ab]; exact List.mem_map_of_mem hx); simpa using this, h⟩ ?_
 clear h; (try clear w)
 rintro m ⟨y, ⟨⟩⟩ w ⟨j, sg2, Q2, hy, hm, hG2, ekp, ok2, eka, hx2, h⟩ again hag
 (try dsimp only)
 simp only at hy
 subst hy
 refine it (fun hb => ?_) (fun hb => ?_) <;> (try simp only [zB] at hb)
 ·have hj : j < l.length := by omega
  have hx : l[j]? = some l[j] := List.getElem?_eq_getElem hj
  have hin : (mget (Q2.map BsE.ka) l[j]).isSome = true := by
   have h1 := hby l[j] (List.getElem_mem hj)
   rw [R.ab, zfv, Option.isSome_map] at h1
   have h2 : (mget (Q2.map BsE.kp) l[j]).isSome = true := by rw [ekp, zfu, Option.isSome_map]; exact h1
   rw [zfu, Option.isSome_map] at h2
   rw [zfv, Option.isSome_map]; exact h2
  have et : (l.take (j + 1)).foldl (tkStep g.1) a.by' = tkStep g.1 (Q2.map BsE.ka) l[j] := by rw [eka, List.take_succ, hx, List.foldl_append]; rfl
  generalize l[j] = rev at *
  have hm2 : MpS Value.string Value.pointer p.m (Q2.map BsE.kp) sm := by rw [ekp]; exact R.mp
  rw [zfv, Option.isSome_map] at hin
  obtain ⟨x, hfx⟩ := Option.isSome_iff_exists.1 hin
  have hmk := hm2.nd
  refine Rw.ix encS r2 (by omega) (by simpa using hj) fun ea ha => ?_
  refine Rw.ld0 encS h 0 rfl r2 ha (x := rev) (by simpa using hx) rfl rfl ?_
  (refine dr h ?_; clear h; (try clear w); intro w h; refine nn ?_; refine ldC h ?_)
  have hlk : ((mget (Q2.map BsE.kp) rev).map fun x : Option Addr => x).getD none = some ⟨x.b, 0, none⟩ := by rw [zfu, hfx]; rfl
  refine MpS.get mkStr zgP zptr (fun x : Option Addr => x) (fun _ => rfl) h 9 rfl hm2 ?_
  rw [hlk]
  obtain ⟨A, B, rfl, hxk⟩ := zaf hfx
  have h := zbI h
  have h := h.pick.split
  (refine nn ?_; refine ldC h ?_; refine nn ?_; refine ldC h ?_)
  have h := fr5_ h
  refine zpl h hG2 fun sg3 w hG3 h => ?_
  (refine ckC h ?_)
  refine MpS.chk mkStr zgP (z := .pointer none) zptr h 12 rfl hm2 (by rw [zfu, hfx]; rfl) ?_
  (refine ckC h ?_)
  have hox := ok2 x (by simp)
  have hlx := hx2 x (by simp)
  refine zpi h 2 rfl hox (by omega) fun sgg w hga h => ?_
  dsimp only [setN] at h
  have hbu : ((gWait g.1 rev).length : Int) + (gWith g.1.all rev).length = busyB g.1 rev := rfl
  rw [hbu] at hga
  have h := fr2_ (fr2_ h)
  have h := h.glue
  have h := fr1_ (fr2_ h)
  have h : St w0 (BsE.sg ⟨x.k, x.b, x.g, ⟨x.x.xs ++ [if 0 > busyB g.1 rev then 0 else busyB g.1 rev], x.x.want, x.x.left⟩, sgg⟩ :: ((A ++ B).map BsE.sg).flatten :: sg3 :: s2 :: sv :: EV :: sysC b p (a.now + 1) :: sf :: ss :: sk :: sr :: sm :: delN E i) w := h
  have h := h.place
  have et2 := zgh (rev := rev) (y := ⟨x.x.xs ++ [if 0 > busyB g.1 rev then 0 else busyB g.1 rev], x.x.want, x.x.left⟩) (sgg := sgg) hxk (B := B) (A := A) (by simpa [List.map_map, Function.comp_def] using hmk)
  refine hag (m - 1) _ w (by omega) ⟨j + 1, sg3, A ++ ⟨x.k, x.b, x.g, ⟨x.x.xs ++ [if 0 > busyB g.1 rev then 0 else busyB g.1 rev], x.x.want, x.x.left⟩, sgg⟩ :: B, ?_, by omega, hG3, ?_, ?_, ?_, ?_, ?_⟩
  ·show IntKind.wrap .i64 _ = _
   rw [wr (by omega) (by omega)]; omega
  ·rw [← ekp]; simp
  ·intro y hy
   rcases List.mem_append.1 hy with hy | hy
   ·exact ok2 y (by simp [hy])
   ·rcases List.mem_cons.1 hy with rfl | hy
    ·exact hga
    ·exact ok2 y (by simp [hy])
  ·rw [et, et2]
   unfold tkStep
   rw [zfv, hfx]
   rfl
  ·intro y hy
   rcases List.mem_append.1 hy with hy | hy
   ·have := hx2 y (by simp [hy]); omega
   ·rcases List.mem_cons.1 hy with rfl | hy
    ·simp; omega
    ·have := hx2 y (by simp [hy]); omega
  ·have h := zbI (zbI (fr8_ (zbI (zbI (zbI (zbI (zbI (zbI (zbI h)))))))))
   exact h
 ·have ej : l.take j = l := List.take_of_length_le (by omega)
  rw [ej] at eka
  (refine nn ?_; refine ldC h ?_)
  refine nw h ?_; clear h; (try clear w); intro b29 w h
  refine lineI1 h (by decide) (by omega) (by omega) fun w h => ?_
  refine nw h ?_; clear h; (try clear w); intro b31 w h
  have h := fr1_ (fr2_ h)
  refine zjA h (l := [lineB zle [decD (a.now + 1).toNat]]) hr hf (by omega) (by simp) (Rw.lit b31 [_] encS rfl rfl (by simp [maxLen])) fun v s w r h => ?_
  refine ⟨v, rfl, hk v s _ w r ⟨p, sg2, sf, ss, sk, sr, sm, Q2, ⟨hG2, R.fl, R.sh, R.bk, R.ro, by rw [ekp]; exact R.mp, ok2, eka.symm⟩, rfl⟩ (sysBack i hi ?_)⟩
  have h := dl1_ (dl2_ (dl4_ h))
  have h := fr2_ (fr2_ (fr1_ h))
  exact h
end Go.Proofs.YtkebppklbobjcaaGreatDoor
namespace Go.Proofs.YtkebppklbobjcaaGreatDoor
open Go.Dm
theorem zqS {P : Program} {r : RT} {s : Sem Value} {k : r.T → PT} {w : World} (x : r.T) (h : s.run P w = .ok (r.val x) w) (hk : k x w) : L.semR P r s k w := ⟨x, h, hk⟩
theorem zkp {P : Program} {fv : Value} {args : List Value} {r : RT} {k k' : r.T → PT} {w : World} (h : L.callV P fv args r k w) (hm : ∀ x w, k x w → k' x w) : L.callV P fv args r k' w := FCall.mono h fun _ _ ⟨x, e, hk⟩ => ⟨x, e, hm x _ hk⟩
attribute [local irreducible] L.load L.store L.chk L.new L.nonnil L.guard L.ite L.draw L.idx L.sem L.semR L.semU L.chkSem L.next L.call L.callV L.join L.alts L.loop L.begin L.endRound L.range
variable {w0 w : World} {E : List Seg}
def mV (b : Nat) (f : FuncId) : Value := .func (.func f) #[.pointer (some ⟨b, 0, none⟩)] #[]
def doM : List (Int × FuncId) := [(1, z1w), (2, z1C), (3, z4D), (4, z1x), (5, z1P), (6, z2m), (7, z1O), (8, z1O), (9, z1M), (10, z1B), (11, z1N), (12, z41), (13, z1t)]
theorem z7K : Pr.underlying z02 = some (.map z0h z2d) := by kernel_rfl
theorem zfun (w : World) : (zeroValue z2d).run Pr w = .ok .nilFunc w := by
 have h : (Pr.info? z2d).map (·.zero) = some (some .nilFunc) := by kernel_rfl
 cases hi : Pr.info? z2d with
 | none => rw [hi] at h; cases h
 | some i => rw [hi] at h; simp only [Option.map_some, Option.some.injEq] at h; exact zv hi h w
theorem zpp (h : St w0 E w) {b : Nat} {e : AEv} (hb : chkEv e ≠ 0) (hn : e.kind = 12 ∨ e.kind = 13 → RevN e.name) (rd : RdE w0 E eT e.v e.r.ts) (hvc : e.v.len ≤ e.v.cap) (hrv : ∀ t ∈ e.r.ts, revOk t.1) {k : Sl → PT}
  (hk : ∀ v sv w', Rw eS z00 1 v [lineB zlm [errB (chkEv e)]] sv → St w0 (sv :: E) w' → k v w') : L.call Pr z08 [.pointer (some ⟨b, 0, none⟩), evV e] (.one (.one .slice)) k w := by
 refine z01 (z86 _ e.t) ?_
 unfold z5E
 refine nw h ?_; clear h; (try clear w); intro b1 w h
 (dsimp only [setN, List.cons_append, List.nil_append] at h; refine laC h ?_)
 refine zhH (e := e) h hn (fun w h => rd w (dl0_ h)) hvc hrv fun w h => ?_
 refine itT (by simpa using hb) ?_
 refine zms ?_
 refine nw h ?_; clear h; (try clear w); intro b5 w h
 have := zlU (chkEv e)
 refine lineS1 h (by decide) (by omega) fun w h => ?_
 refine nw h ?_; clear h; (try clear w); intro b7 w h
 exact ⟨_, rfl, hk _ _ w (Rw.lit b7 [_] encS rfl rfl (by simp [maxLen])) (dl1_ h)⟩
theorem S_do (h : St w0 E w) {b : Nat} {e : AEv} (hb : chkEv e = 0) (hn : e.kind = 12 ∨ e.kind = 13 → RevN e.name) (rd : RdE w0 E eT e.v e.r.ts) (hvc : e.v.len ≤ e.v.cap) (hrv : ∀ t ∈ e.r.ts, revOk t.1) {f : FuncId} (hf : mget doM e.kind = some f) {k : Sl → PT}
  (hh : ∀ (s1 s2 : Seg) w', St w0 (s1 :: s2 :: E) w' → L.callV Pr (.func (.func f) #[.pointer (some ⟨b, 0, none⟩)] #[]) [evV e] (.one (.one .slice)) k w') : L.call Pr z08 [.pointer (some ⟨b, 0, none⟩), evV e] (.one (.one .slice)) k w := by
 refine z01 (z86 _ e.t) ?_
 unfold z5E
 refine nw h ?_; clear h; (try clear w); intro b1 w h
 (dsimp only [setN, List.cons_append, List.nil_append] at h; refine laC h ?_)
 refine zhH (e := e) h hn (fun w h => rd w (dl0_ h)) hvc hrv fun w h => ?_
 refine itF (by simpa using hb) ?_
 refine MpS.new h KI (mV b) fun r s w hm h => ?_
 refine MpS.set mkI z7K h 0 rfl hm z1w rfl fun s w hm h => ?_
 refine MpS.set mkI z7K h 0 rfl hm z1C rfl fun s w hm h => ?_
 refine MpS.set mkI z7K h 0 rfl hm z4D rfl fun s w hm h => ?_
 refine MpS.set mkI z7K h 0 rfl hm z1x rfl fun s w hm h => ?_
 refine MpS.set mkI z7K h 0 rfl hm z1P rfl fun s w hm h => ?_
 refine MpS.set mkI z7K h 0 rfl hm z2m rfl fun s w hm h => ?_
 refine MpS.set mkI z7K h 0 rfl hm z1O rfl fun s w hm h => ?_
 refine MpS.set mkI z7K h 0 rfl hm z1O rfl fun s w hm h => ?_
 refine MpS.set mkI z7K h 0 rfl hm z1M rfl fun s w hm h => ?_
 refine MpS.set mkI z7K h 0 rfl hm z1B rfl fun s w hm h => ?_
 refine MpS.set mkI z7K h 0 rfl hm z1N rfl fun s w hm h => ?_
 refine MpS.set mkI z7K h 0 rfl hm z41 rfl fun s w hm h => ?_
 refine MpS.set mkI z7K h 0 rfl hm z1t rfl fun s w hm h => ?_
 have hm : MpS KI (mV b) r doM s := hm
 dsimp only [setN] at h
 (refine ldC h ?_)
 refine zqS ⟨.func f, #[.pointer (some ⟨b, 0, none⟩)], #[]⟩ ?_ ?_
 ·rw [MpS.get_run mkI z7K (zfun w) h 0 rfl hm false, hf]; rfl
 (refine laC h ?_)
 exact zkp (hh s _ w h) fun x w hk => ⟨x, rfl, hk⟩
theorem zeX (h : St w0 E w) (i : Nat) {b : Nat} {a : ASys} {s : Seg} (hi : nth E i = some s) (hs : SysS b a s) {e : AEv} (hb : chkEv e = 0) (hn : e.kind = 12 ∨ e.kind = 13 → RevN e.name) (rd : RdE w0 E eT e.v e.r.ts) (hvc : e.v.len ≤ e.v.cap) (hrv : ∀ t ∈ e.r.ts, revOk t.1)
  {f : FuncId} (hf : mget doM e.kind = some f) {r : ASys × List ByteArray} {F : (Value → PT) → PT} (hE : Enters Pr f) (hC : ∀ {K : Value → PT} {w : World}, F K w → Calls Pr f (#[.pointer (some ⟨b, 0, none⟩)] ++ [evV e].toArray ++ #[]) w fun e w' => ∃ v, e = .returned v ∧ K v w')
  (hh : ∀ {E2 : List Seg} {i2 : Nat} {w : World} {k : Sl → PT}, St w0 E2 w → nth E2 i2 = some s → (∀ w, St w0 (delN E2 i2) w → St w0 (delN E i) w) → Hk w0 E2 i2 b r k → F (slK k) w) {k : Sl → PT} (hk : Hk w0 E i b r k) :
  L.call Pr z08 [.pointer (some ⟨b, 0, none⟩), evV e] (.one (.one .slice)) k w := by
 refine S_do h hb hn rd hvc hrv hf fun s1 s2 w h => ?_
 refine z4s (F := F) hE hC ?_
 exact hh (E2 := s1 :: s2 :: E) (i2 := i + 2) h hi (fun w h => dl0_ (dl0_ h)) fun v sv s' w' r hs h => hk v sv s' w' r hs (dl1_ (dl1_ h))
end Go.Proofs.YtkebppklbobjcaaGreatDoor
namespace Go.Proofs.YtkebppklbobjcaaGreatDoor
open Go.Dm
attribute [local irreducible] L.load L.store L.chk L.new L.nonnil L.guard L.ite L.draw L.idx L.sem L.semR L.semU L.chkSem L.next L.call L.callV L.join L.alts L.loop L.begin L.endRound L.range
variable {w0 w : World} {E : List Seg}
theorem z8n {p0 p1 : Int} (h : 0 < p1) (hp : p1 ≤ 2147483648) {k : Int → PT} (hk : k (p0 % p1) w) : L.call Pr z1n [I p0, I p1] (.one (.one (.int .i64))) k w := by
 refine z01 (zbk p0 p1) ?_
 unfold z7p
 refine gd (by omega) ?_
 have h1 := Int.emod_nonneg p0 (by omega : p1 ≠ 0)
 have h2 := Int.emod_lt_of_pos p0 h
 have e := zdP p0 p1 h
 refine z22 (fun z w' => z.1 = p0 % p1 ∧ w' = w) (fun k' hk' => ?_) (fun y w' ⟨h1, h2⟩ => by subst h2; exact ⟨_, rfl, by rw [h1]; exact hk⟩)
 refine it (fun hb => ?_) (fun hb => ?_) <;> (try simp only [zB] at hb)
 ·refine hk' _ _ ⟨?_, rfl⟩
  rw [e] at hb
  dsimp only
  rw [e]
  split at hb <;> rename_i hc
  ·omega
  ·rw [if_neg hc, wr] <;> omega
 ·refine hk' _ _ ⟨?_, rfl⟩
  rw [e] at hb
  dsimp only
  rw [e]
  split at hb <;> rename_i hc
  ·rw [if_pos hc]
  ·omega
def lname (n : Int) : ByteArray := ([z3k, zjV, zjW][(n % 3).toNat]?).getD s_
def lcfg (c : Cfg) (n : Int) : Cfg := (lname n, c.2.1 % 256, 1 + c.2.2.1 % 8, c.2.2.2.1 % (1 + c.2.2.2.2.1 % 10 + 1), 1 + c.2.2.2.2.1 % 10, c.2.2.2.2.2.1 % 31, ())
theorem zmm (h : St w0 E w) {c : Cfg} {n : Int} {k : eCfg.T → PT} (hk : ∀ w', St w0 E w' → k (lcfg c n) w') : L.call Pr z55 [.agg (Cfg.cells c).toArray, I n] (.one eCfg) k w := by
 refine z01 (zbl c n) ?_
 unfold z7q
 refine nw h ?_; clear h; (try clear w); intro b1 w h
 refine nw h ?_; clear h; (try clear w); intro b2 w h
 refine nw h ?_; clear h; (try clear w); intro b3 w h
 refine z8n (by decide) (by decide) ?_
 have h1 := Int.emod_nonneg n (by decide : (3 : Int) ≠ 0)
 have h2 := Int.emod_lt_of_pos n (by decide : (0 : Int) < 3)
 have hr : Rw eS z00 1 ⟨some ⟨b3, 0, none⟩, 3, 3⟩ [z3k, zjV, zjW] [Cl b3 z00 [.string z3k, .string zjV, .string zjW]] := Rw.lit b3 _ encS rfl rfl (by simp [maxLen])
 have hx : [z3k, zjV, zjW][(n % 3).toNat]? = some (lname n) := by
  unfold lname
  have : (n % 3).toNat < 3 := by omega
  rw [List.getElem?_eq_getElem (by simpa using this)]; rfl
 refine Rw.ix (v := ⟨some ⟨b3, 0, none⟩, 3, 3⟩) (l := [z3k, zjV, zjW]) encS hr h1 (show (n % 3).toNat < 3 by omega) fun a ha => ?_
 refine Rw.ld0 encS h 0 rfl hr ha hx rfl rfl ?_
 (refine stC h ?_; clear h; (try clear w); intro w h; dsimp only [putN, setN] at h; refine ldC h ?_)
 refine z8n (by decide) (by decide) ?_
 (refine stC h ?_; clear h; (try clear w); intro w h; dsimp only [putN, setN] at h; refine ldC h ?_)
 refine z8n (by decide) (by decide) ?_
 rw [wr (by omega) (by omega)]
 (refine stC h ?_; clear h; (try clear w); intro w h; dsimp only [putN, setN] at h; refine ldC h ?_)
 refine z8n (by decide) (by decide) ?_
 rw [wr (by omega) (by omega)]
 (refine stC h ?_; clear h; (try clear w); intro w h; dsimp only [putN, setN] at h; refine ldC h ?_; refine ldC h ?_)
 rw [wr (by omega) (by omega)]
 refine z8n (by omega) (by omega) ?_
 (refine stC h ?_; clear h; (try clear w); intro w h; dsimp only [putN, setN] at h; refine ldC h ?_)
 refine z8n (by decide) (by decide) ?_
 (refine stC h ?_; clear h; (try clear w); intro w h; dsimp only [putN, setN] at h; refine laC h ?_; refine stC h ?_; clear h; (try clear w); intro w h; dsimp only [putN, setN] at h; refine laC h ?_)
 exact ⟨lcfg c n, rfl, hk w (dl0_ (dl0_ (dl0_ h)))⟩
theorem zna (n : Int) : shortB (lname n).data.toList 16 = true := by
 have h1 := Int.emod_nonneg n (by decide : (3 : Int) ≠ 0)
 have h2 := Int.emod_lt_of_pos n (by decide : (0 : Int) < 3)
 unfold lname
 have : (n % 3).toNat = 0 ∨ (n % 3).toNat = 1 ∨ (n % 3).toNat = 2 := by omega
 rcases this with h | h | h <;> rw [h] <;> decide
theorem znb {nm : ByteArray} (im co mi ma gr : Int) : cfgNum (nm, im % 256, 1 + co % 8, mi % (1 + ma % 10 + 1), 1 + ma % 10, gr % 31, ()) = true := by
 have h1 := Int.emod_nonneg mi (show 1 + ma % 10 + 1 ≠ 0 by omega)
 have h2 := Int.emod_lt_of_pos mi (show 0 < 1 + ma % 10 + 1 by omega)
 have e : cfgNum (nm, im % 256, 1 + co % 8, mi % (1 + ma % 10 + 1), 1 + ma % 10, gr % 31, ()) = (decide (0 ≤ im % 256 ∧ im % 256 ≤ 255) && (decide (1 ≤ 1 + co % 8 ∧ 1 + co % 8 ≤ 8) && (decide (1 ≤ 1 + ma % 10 ∧ 1 + ma % 10 ≤ 10) && (decide (0 ≤ mi % (1 + ma % 10 + 1) ∧ mi % (1 + ma % 10 + 1) ≤ 1 + ma % 10) && decide (0 ≤ gr % 31 ∧ gr % 31 ≤ 30))))) := rfl
 rw [e]
 simp only [Bool.and_eq_true, decide_eq_true_eq]
 omega
theorem zoD (c : Cfg) (n : Int) : specC (lcfg c n) = 0 := by
 unfold specC
 rw [if_pos (show shortB (lcfg c n).1.data.toList 16 = true from zna n), if_pos]
 exact znb c.2.1 c.2.2.1 c.2.2.2.1 c.2.2.2.2.1 c.2.2.2.2.2.1
def newSys (room line pat : Int) : ASys := ⟨⟨[], [], 0⟩, ⟨[], []⟩, [], ⟨room, 0, []⟩, ⟨[], [], line, pat⟩, [], 0⟩
theorem zb5 {n a b : Int} {k : Bool → PT} (hk : k (wiB n a b) w) : L.call Pr z2y [I n, I a, I b] (.one (.one .bool)) k w := by
 refine z01 (zb9 n a b) ?_
 unfold z7d
 unfold wiB at hk
 refine it (fun h1 => ?_) (fun h1 => ?_)
 ·have h1 : decide (a ≤ n) = true := h1
  rw [h1] at hk
  exact ⟨_, rfl, hk⟩
 ·have h1 : decide (a ≤ n) = false := h1
  rw [h1] at hk
  exact ⟨_, rfl, hk⟩
def newOk (room line pat : Int) : Bool := wiB room 1 30 && (wiB line 0 8 && wiB pat 1 50)
theorem zjB (h : St w0 E w) {room line pat : Int} {k : Option Addr × Int × Unit → PT} (h0 : newOk room line pat = false → ∀ w', St w0 E w' → k (none, 2, ()) w')
  (h1 : newOk room line pat = true → ∀ b s w', SysS b (newSys room line pat) s → St w0 (s :: E) w' → k (some ⟨b, 0, none⟩, 0, ()) w') : L.call Pr z7P [I room, I line, I pat] (.tup [.one .ptr, .one (.int .i64)]) k w := by
 refine z01 (zhU _ _ _) ?_
 unfold zd4
 unfold newOk at h0 h1
 refine zb5 ?_
 cases c1 : wiB room 1 30 with
 | false => exact itT rfl ⟨(none, 2, ()), rfl, h0 (by rw [c1]; rfl) w h⟩
 | true =>
 refine itF rfl ?_
 refine zb5 ?_
 cases c2 : wiB line 0 8 with
 | false => exact itT rfl ⟨(none, 2, ()), rfl, h0 (by rw [c1, c2]; rfl) w h⟩
 | true =>
 refine itF rfl ?_
 refine zb5 ?_
 cases c3 : wiB pat 1 50 with
 | false => exact itT rfl ⟨(none, 2, ()), rfl, h0 (by rw [c1, c2, c3]; rfl) w h⟩
 | true =>
 refine itF rfl ?_
 have hl : 0 ≤ line ∧ line ≤ 8 := by unfold wiB at c2; simpa using c2
 refine zqu h fun bf sf w hF h => ?_
 refine zp1 h fun bs ss w hS h => ?_
 refine zpr h fun bk sk w hK h => ?_
 refine zp4 h fun br sr w hR h => ?_
 refine zqq h (bf := bf) hl.1 (by omega) fun bg sg w hG h => ?_
 refine MpS.new h Value.string Value.pointer fun r sm w hm h => ?_
 refine nw h ?_; clear h; (try clear w); intro b w h
 have h : St w0 (sysC b ⟨bs, bk, br, bf, bg, r⟩ 0 :: sm :: sg :: sr :: sk :: ss :: sf :: E) w := h
 refine ⟨(some ⟨b, 0, none⟩, 0, ()), rfl, h1 (by rw [c1, c2, c3]; rfl) b _ w ⟨⟨bs, bk, br, bf, bg, r⟩, sg, sf, ss, sk, sr, sm, [], ⟨hG, hF, hS, hK, hR, hm, by simp, rfl⟩, rfl⟩ ?_⟩
 have h := fr6_ (fr6_ (fr6_ (fr5_ (fr4_ (fr3_ (fr1_ h))))))
 have h : St w0 (sysC b ⟨bs, bk, br, bf, bg, r⟩ 0 :: sg :: sf :: ss :: sk :: sr :: sm :: (([] : List BsE).map BsE.sg).flatten :: E) w := h.eq (by simp)
 exact h.glue8
theorem znH (h : St w0 E w) (i : Nat) {b : Nat} {a : ASys} {s : Seg} (hi : nth E i = some s) (hs : SysS b a s) {k : Int → PT} (hk : k a.now w) : L.call Pr z4Y [.pointer (some ⟨b, 0, none⟩)] (.one (.one (.int .i64))) k w := by
 obtain ⟨p, sg, sf, ss, sk, sr, sm, Q, R, rfl⟩ := hs
 refine z01 (zba _) ?_
 unfold z7e
 have h := (h.front i hi).split8
 (refine nn ?_; refine ldC h ?_)
 exact ⟨_, rfl, hk⟩
theorem zcN {p0 p1 : Int} (h : 0 < p1) (hp : p1 ≤ 2147483648) {k : Int → PT} (hk : k (p0 % p1) w) : L.call Pr z2s [I p0, I p1] (.one (.one (.int .i64))) k w := by
 refine z01 (zaC p0 p1) ?_
 unfold z6E
 refine gd (by omega) ?_
 have h1 := Int.emod_nonneg p0 (by omega : p1 ≠ 0)
 have h2 := Int.emod_lt_of_pos p0 h
 have e := zdP p0 p1 h
 refine z22 (fun z w' => z.1 = p0 % p1 ∧ w' = w) (fun k' hk' => ?_) (fun y w' ⟨h1, h2⟩ => by subst h2; exact ⟨_, rfl, by rw [h1]; exact hk⟩)
 refine it (fun hb => ?_) (fun hb => ?_) <;> (try simp only [zB] at hb)
 ·refine hk' _ _ ⟨?_, rfl⟩
  rw [e] at hb
  dsimp only
  rw [e]
  split at hb <;> rename_i hc
  ·omega
  ·rw [if_neg hc, wr] <;> omega
 ·refine hk' _ _ ⟨?_, rfl⟩
  rw [e] at hb
  dsimp only
  rw [e]
  split at hb <;> rename_i hc
  ·rw [if_pos hc]
  ·omega
def noRt15 : ARt := ⟨s_, s_, [], 0⟩
abbrev noSl : Sl := ⟨none, 0, 0⟩
theorem znQ [bTab w0] (h : St w0 E w) (i : Nat) {b : Nat} {a : ASys} {s : Seg} (hi : nth E i = some s) (hs : SysS b a s) {e : AEv} (hkd : e.kind = 9) (hb : chkEv e = 0) (rd : RdE w0 E eT e.v e.r.ts) (hvc : e.v.len ≤ e.v.cap) (hrv : ∀ t ∈ e.r.ts, revOk t.1)
  (hnow : 0 ≤ a.now) (hwk : GWk a.gt) (hfl : (tkG a).2.length < 90000000) (hf : ∀ f ∈ (tkG a).2, f.Ok)
  (hby : ∀ rev ∈ bkAll a.bk, (mget a.by' rev).isSome = true) (hxs : ∀ x ∈ a.by', x.2.xs.length < 1000000000) (hfb : a.bk.all.length < 1000000) {k : Sl → PT} (hk : Hk w0 E i b (sysTick a) k) :
  L.call Pr z08 [.pointer (some ⟨b, 0, none⟩), evV e] (.one (.one .slice)) k w :=
 zeX h i hi hs hb (fun hh => by omega) rd hvc hrv (f := z1M) (by rw [hkd]; rfl) zao (zat (some ⟨b, 0, none⟩) e.t)
  (fun h hi _ hk => zmc h _ hi hs hnow hwk hfl hf hby hxs hfb hk) hk
abbrev evT0 (kind : Int) : AEv := ⟨kind, s_, s_, 0, 0, noCfg, noRt15, noSl⟩
theorem chk0 : chkEv (evT0 0) = 12 := by decide
theorem chk9 : chkEv (evT0 9) = 0 := by decide +kernel
theorem ziU : (tkG (newSys 3 2 5)).2 = [] := by decide +kernel
theorem zoF : GWk (newSys 3 2 5).gt := fun x hx => by cases hx
theorem zmn [bTab w0] (h : St w0 E w) {k : Bool → PT} (hk : ∀ w', St w0 E w' → k true w') : L.call Pr z56 [] (.one (.one .bool)) k w := by
 refine z01 zbm ?_
 unfold z7r
 refine zjB h (fun hh => absurd hh (by decide)) fun _ b s w hs h => ?_
 refine itF rfl (itF rfl ?_)
 refine zpp (e := evT0 0) h (by rw [chk0]; decide) (fun hh => by rcases hh with hh | hh <;> cases hh) (fun _ _ => Rd.nil) (by decide) (by simp [noRt15]) fun v2 s2 w r2 h => ?_
 refine znQ h 1 rfl hs (e := evT0 9) rfl chk9 (fun _ _ => Rd.nil) (by decide) (by simp [noRt15]) (by decide) zoF (by rw [ziU]; decide) (by rw [ziU]; simp) (by simp [newSys, bkAll, zl3]) (by simp [newSys]) (by decide) fun v3 s3 s' w r3 hs h => ?_
 have e2 : [lineB zlm [errB (chkEv (evT0 0))]] = [s_bad_kind] := by decide +kernel
 have e3 : (sysTick (newSys 3 2 5)).2 = [s_tick_1] := by decide +kernel
 have e4 : (sysTick (newSys 3 2 5)).1.now = 1 := by decide +kernel
 rw [e2] at r2
 rw [e3] at r3
 have l2 := Rw.len encS r2
 have l3 := Rw.len encS r3
 refine itT (by rw [l2]; rfl) ?_
 refine Rw.ix encS r2 (by decide) (by decide) fun a ha => ?_
 refine Rw.ld0 encS h 1 rfl r2 ha (x := s_bad_kind) rfl rfl rfl ?_
 refine itT (by rw [z39]; decide) ?_
 refine itT (by rw [l3]; rfl) ?_
 refine Rw.ix encS r3 (by decide) (by decide) fun a ha => ?_
 refine Rw.ld0 encS h 0 rfl r3 ha (x := s_tick_1) rfl rfl rfl ?_
 refine itT (by rw [z39]; decide) ?_
 refine znH h 2 rfl hs ?_
 rw [e4]
 exact ⟨true, rfl, hk w (dl0_ (dl0_ (dl0_ h)))⟩
theorem zkA [bTab w0] (h : St w0 E w) (i : Nat) {b : Nat} {a : ASys} {s : Seg} (hi : nth E i = some s) (hs : SysS b a s) {e : AEv} (hkd : e.kind = 1) (hb : chkEv e = 0) (rd : RdE w0 E eT e.v e.r.ts) (hvc : e.v.len ≤ e.v.cap) (hrv : ∀ t ∈ e.r.ts, revOk t.1)
  (hn : a.sh.n < 900000000) (hsz : e.c.1.size ≤ 1000000) {k : Sl → PT} (hk : Hk w0 E i b (sysConfig a e) k) : L.call Pr z08 [.pointer (some ⟨b, 0, none⟩), evV e] (.one (.one .slice)) k w :=
 zeX h i hi hs hb (fun hh => by omega) rd hvc hrv (f := z1w) (by rw [hkd]; rfl) z9g (z9j (some ⟨b, 0, none⟩) e.t) (fun h hi _ hk => ziB h _ hi hs hn hsz hk) hk
theorem zmu [bTab w0] (h : St w0 E w) (i : Nat) {b : Nat} {a : ASys} {s : Seg} (hi : nth E i = some s) (hs : SysS b a s) {e : AEv} (hkd : e.kind = 2) (hb : chkEv e = 0) (rd : RdE w0 (delN E i) eT e.v e.r.ts) (hvc : e.v.len ≤ e.v.cap) (h0 : e.v.a = none → e.r.ts = []) (hrv : ∀ t ∈ e.r.ts, revOk t.1)
  (hn : a.sh.n < 900000000) (hsz : e.r.name.size ≤ 1000000) (hfew : a.sh.Few) {k : Sl → PT} (hk : Hk w0 E i b (sysRoute a e) k) : L.call Pr z08 [.pointer (some ⟨b, 0, none⟩), evV e] (.one (.one .slice)) k w :=
 zeX h i hi hs hb (fun hh => by omega) (fun w h => rd w (h.del i hi)) hvc hrv (f := z1C) (by rw [hkd]; rfl) z9X (za1 (some ⟨b, 0, none⟩) e.t) (fun h hi hd hk => zkv h _ hi hs hn hsz hfew (fun w h => rd w (hd w h)) hvc h0 hrv hk) hk
theorem zmt [bTab w0] (h : St w0 E w) (i : Nat) {b : Nat} {a : ASys} {s : Seg} (hi : nth E i = some s) (hs : SysS b a s) {e : AEv} (hkd : e.kind = 10) (hb : chkEv e = 0) (rd : RdE w0 E eT e.v e.r.ts) (hvc : e.v.len ≤ e.v.cap) (hrv : ∀ t ∈ e.r.ts, revOk t.1)
  (hst : (shCfg a.sh e.name).2.2.2.1 = true → shortB (shCfg a.sh e.name).1.1.data.toList 16 = true ∧ 1 ≤ @id Int (shCfg a.sh e.name).2.2.1 ∧ @id Int (shCfg a.sh e.name).2.2.1 < 100 ∧ @id Int (shCfg a.sh e.name).1.2.2.2.1 ≤ 1000000) (hf : a.bk.all.length < 999999)
  {k : Sl → PT} (hk : Hk w0 E i b (sysStamp a e) k) : L.call Pr z08 [.pointer (some ⟨b, 0, none⟩), evV e] (.one (.one .slice)) k w :=
 zeX h i hi hs hb (fun hh => by omega) rd hvc hrv (f := z1B) (by rw [hkd]; rfl) z9W (za0 (some ⟨b, 0, none⟩) e.t) (fun h hi _ hk => zku h _ hi hs hst hf hk) hk
theorem znT [bTab w0] (h : St w0 E w) (i : Nat) {b : Nat} {a : ASys} {s : Seg} (hi : nth E i = some s) (hs : SysS b a s) {e : AEv} (hkd : e.kind = 5) (hb : chkEv e = 0) (rd : RdE w0 E eT e.v e.r.ts) (hvc : e.v.len ≤ e.v.cap) (hrv : ∀ t ∈ e.r.ts, revOk t.1)
  (hfew : FFew a.fl) (hn : a.gt.all.length < 80000000) (hl : a.gt.lines.length < 90000000) (hf : ∀ f ∈ (gDone a.fl a.gt e.n).2.2.1, f.Ok) (hfl : (gDone a.fl a.gt e.n).2.2.1.length < 100000000)
  {k : Sl → PT} (hk : Hk w0 E i b (sysDone a e) k) : L.call Pr z08 [.pointer (some ⟨b, 0, none⟩), evV e] (.one (.one .slice)) k w :=
 zeX h i hi hs hb (fun hh => by omega) rd hvc hrv (f := z1P) (by rw [hkd]; rfl) zaq (zav (some ⟨b, 0, none⟩) e.t) (fun h hi _ hk => zmf h _ hi hs hfew hn hl hf hfl hk) hk
theorem zqv [bTab w0] (h : St w0 E w) (i : Nat) {b : Nat} {a : ASys} {s : Seg} (hi : nth E i = some s) (hs : SysS b a s) {e : AEv} (hkd : e.kind = 6) (hb : chkEv e = 0) (rd : RdE w0 E eT e.v e.r.ts) (hvc : e.v.len ≤ e.v.cap) (hrv' : ∀ t ∈ e.r.ts, revOk t.1)
  (he : 0 ≤ e.n ∧ e.n ≤ 9000000000000000000) (hrv : (fOf (fUpp a.fl e.n).1.l e.n).size ≤ 1000000) (hfew : FFew (fUpp a.fl e.n).1) (hn : a.gt.all.length < 80000000) (hl : a.gt.lines.length < 90000000)
  (hf : ∀ f ∈ (upFlow a e).2.2, f.Ok) (hfl : (upFlow a e).2.2.length < 100000000) {k : Sl → PT} (hk : Hk w0 E i b (sysUp a e) k) : L.call Pr z08 [.pointer (some ⟨b, 0, none⟩), evV e] (.one (.one .slice)) k w :=
 zeX h i hi hs hb (fun hh => by omega) rd hvc hrv' (f := z2m) (by rw [hkd]; rfl) zc8 (zcb (some ⟨b, 0, none⟩) e.t) (fun h hi _ hk => zoW h _ hi hs he hrv hfew hn hl hf hfl hk) hk
theorem znS [bTab w0] (h : St w0 E w) (i : Nat) {b : Nat} {a : ASys} {s : Seg} (hi : nth E i = some s) (hs : SysS b a s) {e : AEv} (hkd : e.kind = 11) (hb : chkEv e = 0) (rd : RdE w0 E eT e.v e.r.ts) (hvc : e.v.len ≤ e.v.cap) (hrv : ∀ t ∈ e.r.ts, revOk t.1)
  (hfew : a.sh.Few) (hname : e.name.size ≤ 100000) (hp : ∀ t ∈ (shRt a.sh e.name).1.ts, 0 ≤ pct t ∧ pct t ≤ 1000) (hl : (shRt a.sh e.name).1.ts.length ≤ 1000)
  (hroll : (shRt a.sh e.name).1.roll ≤ 1000000) (hok : ∀ x, mget a.ro e.name = some x → x.Ok) (hsi : ∀ x, mget a.ro e.name = some x → 0 ≤ x.since ∧ x.since < 1000000000) (hnow : 0 ≤ a.now ∧ a.now < 1000000000) (hwb : WBd (ldTab a e.name).1.sh) (hln : (ldNow a e.name).sh.length < 100000) (htb : TabB (ldNow a e.name))
  {k : Sl → PT} (hk : Hk w0 E i b (sysLead a e) k) : L.call Pr z08 [.pointer (some ⟨b, 0, none⟩), evV e] (.one (.one .slice)) k w :=
 zeX h i hi hs hb (fun hh => by omega) rd hvc hrv (f := z1N) (by rw [hkd]; rfl) zap (zau (some ⟨b, 0, none⟩) e.t) (fun h hi _ hk => zme h _ hi hs hfew hname hp hl hroll hok hsi hnow hwb hln htb hk) hk
theorem zkB [bTab w0] (h : St w0 E w) (i : Nat) {b : Nat} {a : ASys} {s : Seg} (hi : nth E i = some s) (hs : SysS b a s) {e : AEv} (hkd : e.kind = 4) (hb : chkEv e = 0) (rd : RdE w0 E eT e.v e.r.ts) (hvc : e.v.len ≤ e.v.cap) (hrv' : ∀ t ∈ e.r.ts, revOk t.1)
  (hd : 0 ≤ e.draw ∧ e.draw < 4611686018427387904) (hok : ∀ x, mget a.ro e.name = some x → x.Ok) (hwb : WBd (roTab a.ro e.name).sh)
  (hfew : FFew a.fl) (hn : a.gt.all.length < 80000000) (hl : a.gt.lines.length < 90000000) (hnow : -1000000000000 < a.now + a.gt.pat ∧ a.now + a.gt.pat < 1000000000000) (hf : (arG a e).2.2.Ok) (hrv : (bnd a e).size ≤ 1000000)
  {k : Sl → PT} (hk : Hk w0 E i b (sysArrive a e) k) : L.call Pr z08 [.pointer (some ⟨b, 0, none⟩), evV e] (.one (.one .slice)) k w :=
 zeX h i hi hs hb (fun hh => by omega) rd hvc hrv' (f := z1x) (by rw [hkd]; rfl) z9h (z9k (some ⟨b, 0, none⟩) e.t) (fun h hi _ hk => ziC h _ hi hs hd hok hwb hfew hn hl hnow hf hrv hk) hk
theorem znR [bTab w0] (h : St w0 E w) (i : Nat) {b : Nat} {a : ASys} {s : Seg} (hi : nth E i = some s) (hs : SysS b a s) {e : AEv} (hkd : e.kind = 13) (hnm : RevN e.name) (hb : chkEv e = 0) (rd : RdE w0 E eT e.v e.r.ts) (hvc : e.v.len ≤ e.v.cap) (hrv : ∀ t ∈ e.r.ts, revOk t.1)
  (hroom : a.fl.room < 1000000) (hlast : a.fl.last + a.fl.room < 4611686018427387904) (hname : e.name.size ≤ 100000)
  (hmade : ∀ x ∈ fMade a.fl e.name (pdWant a e.name), 0 ≤ x ∧ x ≤ 9000000000000000000) (hmn : (fMade a.fl e.name (pdWant a e.name)).length < 100000) (hgone : ∀ x ∈ (fScale a.fl e.name (pdConc a e.name) (pdWant a e.name)).2, 0 ≤ x ∧ x ≤ 9000000000000000000) (hgn : (fScale a.fl e.name (pdConc a e.name) (pdWant a e.name)).2.length < 100000)
  (hpn : (fPods (pdFl a e.name).l e.name).length < 1000000) {k : Sl → PT} (hk : Hk w0 E i b (sysPods a e) k) : L.call Pr z08 [.pointer (some ⟨b, 0, none⟩), evV e] (.one (.one .slice)) k w :=
 zeX h i hi hs hb (fun _ => hnm) rd hvc hrv (f := z1t) (by rw [hkd]; rfl) z6F (z6G (some ⟨b, 0, none⟩) e.t) (fun h hi _ hk => zmd h _ hi hs hroom hlast hname hmade hmn hgone hgn hpn hk) hk
end Go.Proofs.YtkebppklbobjcaaGreatDoor
namespace Go.Proofs.YtkebppklbobjcaaGreatDoor
open Go.Dm
abbrev idB (x : Int) : Prop := 0 ≤ x ∧ x ≤ 2147483647
structure FlI (k : Nat) (F : AFleet) : Prop where
 few : FFew F
 r1 : 1 ≤ F.room
 last : F.last ≤ 20 * (k : Int)
 rev : ∀ x ∈ F.l, RevN x.rev
 req : ∀ x ∈ F.l, ∀ q ∈ x.pod.reqs, idB q
theorem FlI.mono {k m : Nat} {F : AFleet} (h : FlI k F) (hm : k ≤ m) : FlI m F := ⟨h.few, h.r1, by have := h.last; omega, h.rev, h.req⟩
theorem FlI.upd {k : Nat} {F : AFleet} (h : FlI k F) {id : Int} {g : APod → APod} (hf : FFew { F with l := fUpd F.l id g }) (hg : ∀ x ∈ F.l, x.id = id → ∀ q ∈ (g x.pod).reqs, idB q) : FlI k { F with l := fUpd F.l id g } :=
 ⟨hf, h.r1, h.last, fun y hy => by
  rcases zgb hy with hy | ⟨x, hx, _, rfl⟩
  ·exact h.rev y hy
  ·exact h.rev x hx, fun y hy => by
  rcases zgb hy with hy | ⟨x, hx, hid, rfl⟩
  ·exact h.req y hy
  ·exact hg x hx hid⟩
theorem zii {p : APod} {q z : Int} (h : z ∈ (podTake p q).1.reqs) : z ∈ p.reqs ∨ z = q := by
 unfold podTake at h
 split at h
 ·exact .inl h
 ·split at h
  ·exact .inl h
  ·split at h
   ·exact .inl h
   ·rcases List.mem_cons.1 ((z9E q p.reqs).mem_iff.1 h) with e | e
    ·exact .inr e
    ·exact .inl e
theorem zil {p : APod} {q z : Int} (h : z ∈ (podGive p q).1.reqs) : z ∈ p.reqs := by
 unfold podGive at h
 split at h
 ·exact List.erase_subset h
 ·exact h
theorem zik {p : APod} {z : Int} (h : z ∈ (podKill p).1.reqs) : z ∈ p.reqs := by
 unfold podKill at h
 split at h
 ·exact h
 ·cases h
theorem zj7 (p : APod) : (podUp p).1.reqs = p.reqs := by unfold podUp; split <;> rfl
theorem zin (p : APod) : (podDrain p).1.reqs = p.reqs := by unfold podDrain; split <;> rfl
theorem FlI.take {k : Nat} {F : AFleet} (h : FlI k F) (rev : ByteArray) {q : Int} (hq : idB q) : FlI k (fTake F rev q).1 := by
 have hf := h.few.take rev q
 unfold fTake at hf ⊢
 split
 ·exact h
 ·rename_i h1
  rw [if_neg h1] at hf
  split
  ·exact h
  ·rename_i x hx
   rw [hx] at hf
   exact h.upd hf fun y hy _ z hz => by
    rcases zii hz with e | rfl
    ·exact h.req y hy z e
    ·exact hq
theorem FlI.give {k : Nat} {F : AFleet} (h : FlI k F) (q : Int) : FlI k (fGive F q).1 := by
 have hf := h.few.give q
 unfold fGive at hf ⊢
 split
 ·exact h
 ·rename_i x hx
  rw [hx] at hf
  exact h.upd hf fun y hy _ z hz => h.req y hy z (zil hz)
theorem FlI.kill {k : Nat} {F : AFleet} (h : FlI k F) (id : Int) : FlI k (fKill F id).1 := by
 have hf := h.few.kill id
 unfold fKill at hf ⊢
 split
 ·exact h
 ·rename_i x hx
  rw [hx] at hf
  exact h.upd hf fun y hy _ z hz => h.req y hy z (zik hz)
theorem FlI.up {k : Nat} {F : AFleet} (h : FlI k F) (id : Int) : FlI k (fUpp F id).1 := by
 have hf := h.few.up id
 unfold fUpp
 split
 ·exact h
 ·exact h.upd hf fun y hy _ z hz => h.req y hy z (by rwa [zj7] at hz)
theorem FlI.drain {k : Nat} {F : AFleet} (h : FlI k F) (rev : ByteArray) : FlI k (drain1 rev F) :=
 h.upd (h.few.drain rev) fun y hy _ z hz => h.req y hy z (by rwa [zin] at hz)
theorem FlI.shrink (rev : ByteArray) : ∀ (n : Nat) {k : Nat} {F : AFleet}, FlI k F → FlI k (YtkebppklbobjcaaGreatDoor.shrink rev n F).1
 | 0, _, _, h => h
 | n + 1, _, _, h => FlI.shrink rev n (h.drain rev)
theorem zg9 {rev : ByteArray} {conc : Int} : ∀ (n : Nat) {F : AFleet} {x : AHeld}, x ∈ (grow rev conc n F).l → x ∈ F.l ∨ (x.rev = rev ∧ x.pod = ⟨1, conc, []⟩)
 | 0, _, _, h => .inl h
 | n + 1, F, x, h => by
  unfold grow grow1 at h
  rcases List.mem_append.1 h with h | h
  ·exact zg9 n h
  ·rw [List.mem_singleton] at h
   subst h
   exact .inr ⟨rfl, rfl⟩
theorem zdL (F : AFleet) (rev : ByteArray) (want : Int) : (growN F rev want : Int) ≤ max 0 (F.room - F.l.length) := by rw [znn]; omega
theorem FlI.scale {k : Nat} {F : AFleet} (h : FlI k F) {rev : ByteArray} (hr : RevN rev) {conc : Int} (hc : conc ≤ 1000) (want : Int) : FlI (k + 1) (fScale F rev conc want).1 := by
 have hl := h.few.l
 have hr20 := h.few.r
 unfold podsMost at hr20
 have hn := zdL F rev want
 have hg : FlI (k + 1) (fGrown F rev conc want) := by
  refine ⟨FFew.grow rev hc _ h.few (by omega), ?_, ?_, fun x hx => ?_, fun x hx q hq => ?_⟩
  ·unfold fGrown; rw [zbF]; exact h.r1
  ·unfold fGrown; rw [zbH]; have := h.last; omega
  ·rcases zg9 _ hx with hx | ⟨e, -⟩
   ·exact h.rev x hx
   ·rw [e]; exact hr
  ·rcases zg9 _ hx with hx | ⟨-, e⟩
   ·exact h.req x hx q hq
   ·rw [e] at hq; cases hq
 exact hg.shrink rev _
theorem ziY {F : AFleet} (ok : F.Ok) (rev : ByteArray) (q : Int) : 0 ≤ (fTake F rev q).2.1 ∧ (fTake F rev q).2.1 ≤ F.last := by
 have := ok.lo
 unfold fTake
 split
 ·exact ⟨Int.le_refl 0, this⟩
 ·split
  ·exact ⟨Int.le_refl 0, this⟩
  ·rename_i x hx
   have := ok.rng x (zfZ hx).1
   dsimp only; omega
theorem zkV (F : AFleet) (rev : ByteArray) (q : Int) : (fTake F rev q).1.last = F.last := by
 unfold fTake
 split
 ·rfl
 ·split <;> rfl
theorem zeg {rev : ByteArray} : ∀ {l : List (Int × Int)} {F : AFleet} {all : Alls} {out : List Fate}, F.Ok → F.last ≤ 9000000000000000000 → (∀ x ∈ l, idB x.1) → (∀ f ∈ out, f.Ok) → ∀ f ∈ (flowA rev l F all out).2.2.2, f.Ok
 | [], _, _, _, _, _, _, h => h
 | x :: l, F, all, out, ok, hl, hx, h => by
  unfold flowA
  split
  ·have tp := ziY ok rev x.1
   have hx1 := hx x (by simp)
   refine zeg (zjt ok rev x.1) (by rw [zkV]; exact hl) (fun y hy => hx y (by simp [hy])) fun f hf => ?_
   rcases List.mem_append.1 hf with hf | hf
   ·exact h f hf
   ·rw [List.mem_singleton] at hf
    subst hf
    exact ⟨⟨hx1.1, Int.le_trans hx1.2 (by decide)⟩, ⟨tp.1, Int.le_trans tp.2 hl⟩, by show s_.size ≤ 1000; decide⟩
  ·exact h
theorem zga {k : Nat} {rev : ByteArray} : ∀ {l : List (Int × Int)} {F : AFleet} {all : Alls} {out : List Fate}, FlI k F → (∀ x ∈ l, idB x.1) → FlI k (flowA rev l F all out).1
 | [], _, _, _, h, _ => h
 | x :: l, F, all, out, h, hx => by
  unfold flowA
  split
  ·exact zga (h.take rev (hx x (by simp))) fun y hy => hx y (by simp [hy])
  ·exact h
theorem zcJ {rev : ByteArray} : ∀ {l : List (Int × Int)} {F : AFleet} {all : Alls} {out : List Fate}, ∀ y ∈ (flowA rev l F all out).2.2.1, y ∈ l
 | [], _, _, _, y, h => by cases h
 | x :: l, F, all, out, y, h => by
  unfold flowA at h
  split at h
  ·exact List.mem_cons_of_mem _ (zcJ y h)
  ·exact h
theorem zhm {rev : ByteArray} : ∀ {l : List (Int × Int)} {F : AFleet} {all : Alls} {out : List Fate}, (∀ x ∈ all, idB x.1) → (∀ x ∈ l, idB x.1) → ∀ x ∈ (flowA rev l F all out).2.1, idB x.1
 | [], _, _, _, h, _ => h
 | x :: l, F, all, out, h, hx => by
  unfold flowA
  split
  ·refine zhm (fun y hy => ?_) fun y hy => hx y (by simp [hy])
   rcases z2c hy with rfl | hy
   ·exact hx x (by simp)
   ·exact h y hy
  ·exact h
theorem z9D {κ υ : Type} [DecidableEq κ] (m : List (κ × υ)) (a b : κ) (u : υ) (h : (mget m b).isSome = true) : (mget (mset m a u) b).isSome = true := by
 rw [z3D]; split
 ·rfl
 ·exact h
theorem zcI {rev : ByteArray} {q : Int} : ∀ {l : List (Int × Int)} {F : AFleet} {all : Alls} {out : List Fate}, (mget all q).isSome = true → (mget (flowA rev l F all out).2.1 q).isSome = true
 | [], _, _, _, h => h
 | x :: l, F, all, out, h => by
  unfold flowA
  split
  ·exact zcI (z9D _ _ _ _ h)
  ·exact h
structure GtI (k : Nat) (G : AGate) : Prop where
 all : G.all.length ≤ 2000 * k
 ids : ∀ x ∈ G.all, idB x.1
 lines : G.lines.length ≤ k
 lid : ∀ x ∈ G.lines, ∀ y ∈ x.2, idB y.1
 wk : GWk G
 pat : 1 ≤ G.pat ∧ G.pat ≤ 1000
 room : 0 ≤ G.room ∧ G.room ≤ 8
theorem GtI.mono {k m : Nat} {G : AGate} (h : GtI k G) (hm : k ≤ m) : GtI m G := ⟨by have := h.all; omega, h.ids, by have := h.lines; omega, h.lid, h.wk, h.pat, h.room⟩
theorem GtI.line {k : Nat} {G : AGate} (h : GtI k G) (rev : ByteArray) : ∀ y ∈ lineOf G.lines rev, idB y.1 := fun y hy => by
 unfold lineOf at hy
 cases hg : mget G.lines rev with
 | none => rw [hg] at hy; cases hy
 | some l => rw [hg] at hy; exact h.lid _ (z4p hg) y hy
theorem GtI.turn {k m : Nat} {G : AGate} (h : GtI k G) {all : Alls} {rev : ByteArray} {l : List (Int × Int)} (hm : k + 1 ≤ m) (hl : all.length ≤ 2000 * m) (hi : ∀ x ∈ all, idB x.1) (hs : ∀ q, (mget G.all q).isSome = true → (mget all q).isSome = true)
  (h1 : ∀ y ∈ l, idB y.1) (h2 : ∀ y ∈ l, (mget all y.1).isSome = true) : GtI m { G with all := all, lines := mset G.lines rev l } := by
 have := h.lines
 have := z4o G.lines rev l
 refine ⟨hl, hi, by dsimp only; omega, fun x hx y hy => ?_, fun x hx y hy => ?_, h.pat, h.room⟩
 ·rcases z2c hx with rfl | hx
  ·exact h1 y hy
  ·exact h.lid x hx y hy
 ·rcases z2c hx with rfl | hx
  ·exact h2 y hy
  ·exact hs _ (h.wk x hx y hy)
theorem GtI.req {k m : Nat} {G : AGate} (h : GtI k G) {all : Alls} (hm : k ≤ m) (hl : all.length ≤ 2000 * m) (hi : ∀ x ∈ all, idB x.1) (hs : ∀ q, (mget G.all q).isSome = true → (mget all q).isSome = true) : GtI m { G with all := all } :=
 ⟨hl, hi, by have := h.lines; dsimp only; omega, h.lid, fun x hx y hy => hs _ (h.wk x hx y hy), h.pat, h.room⟩
theorem z8J {all : Alls} {id : Int} {x : ByteArray × Int} (h : ∀ x ∈ all, idB x.1) (hi : idB id) : ∀ y ∈ mset all id x, idB y.1 := fun y hy => by
 rcases z2c hy with rfl | hy
 ·exact hi
 ·exact h y hy
theorem zhj {k : Nat} {F : AFleet} {G : AGate} (ok : G.Ok) (hF : FlI k F) (hG : GtI k G) (rev : ByteArray) : FlI k (gFlow F G rev).1 ∧ GtI (k + 1) (gFlow F G rev).2.1 := by
 have hl := z9F (rev := rev) (l := lineOf G.lines rev) (F := F) (all := G.all) (out := [])
 have hn := z4q ok rev
 have := hG.all
 have := hG.room
 refine ⟨zga hF (hG.line rev), hG.turn (Nat.le_refl _) (by omega) (zhm hG.ids (hG.line rev)) (fun q => zcI) (fun y hy => hG.line rev y (zcJ y hy)) fun y hy => ?_⟩
 exact zcI (hG.wk.line rev y (zcJ y hy))
theorem zee {k : Nat} {F : AFleet} {G : AGate} (hk : k ≤ 100000) (ok : F.Ok) (hF : FlI k F) (hG : GtI k G) (rev : ByteArray) : ∀ f ∈ (gFlow F G rev).2.2, f.Ok :=
 zeg ok (by have := hF.last; omega) (hG.line rev) (by simp)
theorem z9 : (0 : Int) ≤ 0 ∧ (0 : Int) ≤ 9000000000000000000 := ⟨by decide, by decide⟩
theorem zlR {k : Nat} {F : AFleet} {G : AGate} (okF : F.Ok) (ok : G.Ok) (hk : k ≤ 10000) (hF : FlI k F) (hG : GtI k G) {id : Int} (hid : idB id) : FlI k (gDone F G id).1 ∧ GtI (k + 2) (gDone F G id).2.1 := by
 have hF' := hF.give id
 have hla := hG.all
 have hg : GtI (k + 1) { G with all := mset G.all id ((fGive F id).2.1, 3) } := hG.req (by omega) (by have := z4o G.all id ((fGive F id).2.1, 3); omega) (z8J hG.ids hid) fun q => z9D _ _ _ _
 unfold gDone
 split
 ·exact ⟨hF', hG.mono (by omega)⟩
 ·have okg : ({ G with all := mset G.all id ((fGive F id).2.1, 3) } : AGate).Ok := ok.req (by omega) id _
  have := zhj okg (hF'.mono (Nat.le_succ k)) hg (fGive F id).2.1
  refine ⟨?_, this.2⟩
  have h2 := zga (k := k) (rev := (fGive F id).2.1) (l := lineOf G.lines (fGive F id).2.1) (all := mset G.all id ((fGive F id).2.1, 3)) (out := []) hF' (hG.line _)
  exact h2
theorem ziv {k : Nat} {F : AFleet} {G : AGate} (okF : F.Ok) (hk : k ≤ 10000) (hF : FlI k F) (hG : GtI k G) {id : Int} (hid : idB id) : ∀ f ∈ (gDone F G id).2.2.1, f.Ok := by
 have hla := hG.all
 have hg : GtI (k + 1) { G with all := mset G.all id ((fGive F id).2.1, 3) } := hG.req (by omega) (by have := z4o G.all id ((fGive F id).2.1, 3); omega) (z8J hG.ids hid) fun q => z9D _ _ _ _
 unfold gDone
 split
 ·intro f hf; cases hf
 ·intro f hf
  rcases List.mem_cons.1 hf with rfl | hf
  ·exact ⟨⟨hid.1, Int.le_trans hid.2 (by decide)⟩, z9, by show s_.size ≤ 1000; decide⟩
  ·exact zee (by omega : k + 1 ≤ 100000) (zoG okF id) ((hF.give id).mono (Nat.le_succ k)) hg _ f hf
theorem zlQ {F : AFleet} {G : AGate} (ok : G.Ok) (hn : G.all.length < 80000000) (hr : G.room ≤ 8) (id : Int) : (gDone F G id).2.2.1.length < 100000000 := by
 unfold gDone
 split
 ·simp
 ·have := (zed (F := (fGive F id).1) (ok.req (by omega) id ((fGive F id).2.1, 3)) (fGive F id).2.1).1
  dsimp only at this ⊢
  rw [List.length_cons]
  omega
theorem znr {k : Nat} {F : AFleet} {G : AGate} (ok : G.Ok) (hF : FlI k F) (hG : GtI k G) {id : Int} (hid : idB id) (rev : ByteArray) (now : Int) : FlI k (gArr F G id rev now).1 ∧ GtI (k + 1) (gArr F G id rev now).2.1 := by
 have hla := hG.all
 have hl : ∀ x : ByteArray × Int, (mset G.all id x).length ≤ 2000 * (k + 1) := fun x => by have := z4o G.all id x; omega
 have hs : ∀ (x : ByteArray × Int) q, (mget G.all q).isSome = true → (mget (mset G.all id x) q).isSome = true := fun x q => z9D _ _ _ _
 have hln : ∀ (x : ByteArray × Int), ∀ y ∈ lineOf G.lines rev, (mget (mset G.all id x) y.1).isSome = true := fun x y hy => hs x _ (hG.wk.line rev y hy)
 unfold gArr
 split
 ·exact ⟨hF, hG.mono (Nat.le_succ k)⟩
 ·split
  ·exact ⟨hF, hG.req (Nat.le_succ k) (hl _) (z8J hG.ids hid) (hs _)⟩
  ·split
   ·exact ⟨hF.take rev hid, hG.turn (Nat.le_refl _) (hl _) (z8J hG.ids hid) (hs _) (hG.line rev) (hln _)⟩
   ·split
    ·exact ⟨hF, hG.turn (Nat.le_refl _) (hl _) (z8J hG.ids hid) (hs _) (hG.line rev) (hln _)⟩
    ·rename_i h4
     refine ⟨hF, hG.turn (Nat.le_refl _) (hl _) (z8J hG.ids hid) (hs _) (fun y hy => ?_) fun y hy => ?_⟩ <;>
     ·unfold lPush at hy h4
      split at hy
      ·rename_i h5; rw [if_pos h5] at h4; exact absurd (show (5 : Int) ≠ 0 by decide) h4
      ·rename_i h5
       rw [if_neg h5] at h4
       split at hy
       ·rename_i h6; rw [if_pos h6] at h4; exact absurd (show (8 : Int) ≠ 0 by decide) h4
       ·rcases List.mem_append.1 hy with hy | hy
        ·first | exact hG.line rev y hy | exact hln _ y hy
        ·rw [List.mem_singleton] at hy
         subst hy
         first | exact hid | (rw [z3D, if_pos rfl]; rfl)
theorem zlS {k : Nat} {F : AFleet} {G : AGate} (hk : k ≤ 10000) (okF : F.Ok) (hF : FlI k F) {id : Int} (hid : idB id) (rev : ByteArray) (now : Int) : (gArr F G id rev now).2.2.Ok := by
 have hi : 0 ≤ id ∧ id ≤ 9000000000000000000 := ⟨hid.1, Int.le_trans hid.2 (by decide)⟩
 have hz : (0 : Int) ≤ 0 ∧ (0 : Int) ≤ 9000000000000000000 := ⟨by decide, by decide⟩
 unfold gArr
 split
 ·exact ⟨hi, hz, by show s_twice.size ≤ 1000; decide⟩
 ·split
  ·exact ⟨hi, hz, by show s_no_route.size ≤ 1000; decide⟩
  ·split
   ·have := ziY okF rev id
    have := hF.last
    exact ⟨hi, ⟨by show 0 ≤ (fTake F rev id).2.1; omega, by show (fTake F rev id).2.1 ≤ 9000000000000000000; omega⟩, by show s_.size ≤ 1000; decide⟩
   ·split
    ·exact ⟨hi, hz, by show s_overflow.size ≤ 1000; decide⟩
    ·exact ⟨hi, hz, by show s_.size ≤ 1000; decide⟩
theorem zhb {rev : ByteArray} : ∀ {l : List Int} {all : Alls}, (∀ x ∈ all, idB x.1) → (∀ x ∈ l, idB x) → ∀ x ∈ lateS rev l all, idB x.1
 | [], _, h, _ => h
 | x :: l, all, h, hx => zhb (l := l) (z8J h (hx x (by simp))) fun y hy => hx y (by simp [hy])
theorem znc {l : List (Int × Int)} {now q : Int} (h : q ∈ lLate l now) : ∃ y ∈ l, y.1 = q := by
 unfold lLate at h
 obtain ⟨y, hy, e⟩ := List.mem_map.1 h
 exact ⟨y, (List.mem_filter.1 hy).1, e⟩
structure TkI (m n : Nat) (G : AGate) : Prop where
 all : G.all.length ≤ m
 ids : ∀ x ∈ G.all, idB x.1
 lines : G.lines.length ≤ n
 lid : ∀ x ∈ G.lines, ∀ y ∈ x.2, idB y.1
 wk : GWk G
 ok : G.Ok
theorem TkI.line {m n : Nat} {G : AGate} (h : TkI m n G) (rev : ByteArray) : ∀ y ∈ lineOf G.lines rev, idB y.1 := fun y hy => by
 unfold lineOf at hy
 cases hg : mget G.lines rev with
 | none => rw [hg] at hy; cases hy
 | some l => rw [hg] at hy; exact h.lid _ (z4p hg) y hy
theorem TkI.tick1 {m n : Nat} {G : AGate} (h : TkI m n G) {k : ByteArray} (hk : (mget G.lines k).isSome = true) (now : Int) : TkI m n (YtkebppklbobjcaaGreatDoor.tick1 now k G) := by
 refine ⟨?_, ?_, ?_, ?_, h.wk.tick1 k now, h.ok.tick1 h.wk hk now⟩
 ·have := congrArg List.length (zag (rev := k) (l := lLate (lineOf G.lines k) now) (all := G.all) (h.wk.late k now))
  simp only [List.length_map] at this
  have := h.all
  unfold YtkebppklbobjcaaGreatDoor.tick1; dsimp only; omega
 ·refine zhb h.ids fun q hq => ?_
  obtain ⟨y, hy, rfl⟩ := znc hq
  exact h.line k y hy
 ·have := congrArg List.length (zi8 (G := G) hk now)
  simp only [List.length_map] at this
  have := h.lines
  omega
 ·intro x hx y hy
  rcases z2c hx with rfl | hx
  ·exact h.line k y (List.mem_filter.1 hy).1
  ·exact h.lid x hx y hy
structure ShI (k : Nat) (a : AShelf) : Prop where
 n : a.n ≤ k
 few : a.Few
 cfg : ∀ n, (tget a.m n).is = true → (cfgOf (tget a.m n)).1 = n ∧ specC (cfgOf (tget a.m n)) = 0 ∧ 1 ≤ (tget a.m n).gen
 rt : ∀ n, (rget a.r n).is = true → (rget a.r n).r.name = n ∧ specE (rget a.r n).r = 0
theorem ShI.mono {k m : Nat} {a : AShelf} (h : ShI k a) (hm : k ≤ m) : ShI m a := ⟨by have := h.n; omega, h.few, h.cfg, h.rt⟩
theorem zl8 {k : Nat} {a : AShelf} (ok : a.Ok) (h : ShI k a) (c : Cfg) (ver : Int) : ShI (k + 1) (shPut a c ver).1 := by
 have hf := zl9 h.few c ver
 unfold shPut at hf ⊢
 split
 ·exact h.mono (Nat.le_succ k)
 ·rename_i h1
  rw [if_neg h1] at hf
  split
  ·exact h.mono (Nat.le_succ k)
  ·rename_i h2
   rw [if_neg h2] at hf
   have hn := h.n
   refine ⟨by dsimp only; omega, hf, fun n hn2 => ?_, h.rt⟩
   dsimp only [putC] at hn2 ⊢
   rw [ziW] at hn2 ⊢
   split
   ·rename_i e
    have h1' : specC c = 0 := by simpa using h1
    refine ⟨e, h1', ?_⟩
    have h3 := ok.gen c.1
    show (1 : Int) ≤ (if (tget a.m c.1).is = true ∧ sameC (cfgOf (tget a.m c.1)) c = true then (tget a.m c.1).gen else (tget a.m c.1).gen + 1)
    split
    ·rename_i h4; exact (h.cfg c.1 h4.1).2.2
    ·omega
   ·rename_i e; rw [if_neg e] at hn2; exact h.cfg n hn2
theorem zjP {k : Nat} {a : AShelf} (h : ShI k a) (r : ARt) (ver : Int) : ShI (k + 1) (shPutR a r ver).1 := by
 have hf := zjQ h.few r ver
 unfold shPutR at hf ⊢
 split
 ·exact h.mono (Nat.le_succ k)
 ·rename_i h1
  rw [if_neg h1] at hf
  split
  ·exact h.mono (Nat.le_succ k)
  ·rename_i h2
   rw [if_neg h2] at hf
   have hn := h.n
   refine ⟨by dsimp only; omega, hf, h.cfg, fun n hn2 => ?_⟩
   dsimp only [putRt] at hn2 ⊢
   rw [zmP] at hn2 ⊢
   split
   ·rename_i e
    exact ⟨e, by simpa using h1⟩
   ·rename_i e; rw [if_neg e] at hn2; exact h.rt n hn2
theorem z6W {c : Cfg} (h : specC c = 0) : shortB c.1.data.toList 16 = true ∧ (0 ≤ @id Int c.2.1 ∧ @id Int c.2.1 ≤ 255) ∧ (1 ≤ @id Int c.2.2.1 ∧ @id Int c.2.2.1 ≤ 8) ∧ (1 ≤ @id Int c.2.2.2.2.1 ∧ @id Int c.2.2.2.2.1 ≤ 10) ∧ (0 ≤ @id Int c.2.2.2.1 ∧ @id Int c.2.2.2.1 ≤ @id Int c.2.2.2.2.1) ∧ (0 ≤ @id Int c.2.2.2.2.2.1 ∧ @id Int c.2.2.2.2.2.1 ≤ 30) := by
 unfold specC at h
 split at h
 ·rename_i h1
  split at h
  ·rename_i h2
   unfold cfgNum at h2
   simp only [Bool.and_eq_true, decide_eq_true_eq] at h2
   exact ⟨h1, h2.1, h2.2.1, h2.2.2.1, h2.2.2.2.1, h2.2.2.2.2⟩
  ·cases h
 ·cases h
structure BkI (k : Nat) (a : ABook) : Prop where
 len : a.all.length ≤ k
 rev : ∀ p ∈ a.all, RevN p.1
 cfg : ∀ p ∈ a.all, specC p.2.cfg = 0
theorem BkI.mono {k m : Nat} {a : ABook} (h : BkI k a) (hm : k ≤ m) : BkI m a := ⟨by have := h.len; omega, h.rev, h.cfg⟩
theorem BkI.prove {k : Nat} {a : ABook} (h : BkI k a) (rev : ByteArray) : BkI k (bkProve a rev).1 := by
 unfold bkProve
 split
 ·exact ⟨h.len, h.rev, h.cfg⟩
 ·exact h
theorem BkI.stamp {k : Nat} {a : ABook} (h : BkI k a) {c : Cfg} (hc : specC c = 0) {g : Nat} (h1 : 1 ≤ g) (hg : g < 100) : BkI (k + 1) (bkStamp a c g).1 := by
 unfold bkStamp
 split
 ·exact h.mono (Nat.le_succ k)
 ·have := h.len
  have := z4o a.all (revB c.1 g) (rvOf (revB c.1 g) g c)
  refine ⟨by dsimp only; omega, fun p hp => ?_, fun p hp => ?_⟩
  ·rcases z2c hp with rfl | hp
   ·exact ⟨c.1, g, (z6W hc).1, h1, hg, rfl⟩
   ·exact h.rev p hp
  ·rcases z2c hp with rfl | hp
   ·exact hc
   ·exact h.cfg p hp
theorem RevN.size {n : ByteArray} (h : RevN n) : n.size ≤ 100 := by
 obtain ⟨c, g, hc, -, hg, rfl⟩ := h
 have := zac c hg
 unfold shortB at hc
 simp only [Bool.and_eq_true, decide_eq_true_eq] at hc
 have h2 : (c.data.toList.length : Int) ≤ 16 := hc.2
 have h3 : c.data.toList.length = c.size := by rw [Array.length_toList]; rfl
 omega
theorem zbO {a : ABook} {rev : ByteArray} (h : bkHas a rev = true) : (rev, bkGet a rev) ∈ a.all := by
 unfold bkHas at h
 unfold bkGet
 cases h2 : mget a.all rev with
 | none => rw [h2] at h; cases h
 | some v => exact z4p h2
theorem zm6 {a : ABook} {rev : ByteArray} (h : rev ∈ bkAll a) : bkHas a rev = true := by
 unfold bkAll at h
 unfold bkHas
 cases h2 : mget a.all rev with
 | none => rw [z2E] at h2; exact absurd (z9u.1 h) h2
 | some v => rfl
theorem zhC {a : ABook} (ok : a.Ok) {c : ByteArray} {q : ByteArray → Bool} : ∀ {l : List ByteArray} {t : Rv}, (∀ x ∈ l, bkHas a x = true) → (t.1 = s_ ∨ bkHas a t.1 = true) → ((l.foldl (bkStep a c q) t).1 = s_ ∨ bkHas a (l.foldl (bkStep a c q) t).1 = true)
 | [], t, _, h => h
 | x :: l, t, hl, h => by
  rw [List.foldl_cons]
  refine zhC ok (fun y hy => hl y (by simp [hy])) ?_
  have hx := hl x (by simp)
  have e : (bkGet a x).1 = x := (ok.name _ (zbO hx)).1
  unfold bkStep
  split
  ·split
   ·split
    ·exact .inr (by rw [e]; exact hx)
    ·exact h
   ·exact h
  ·exact h
theorem ziA {a : ABook} (ok : a.Ok) (c : ByteArray) (q : ByteArray → Bool) : (bkBest a c q).1 = s_ ∨ bkHas a (bkBest a c q).1 = true :=
 zhC ok (fun _ h => zm6 h) (.inl rfl)
theorem BkI.size {k : Nat} {a : ABook} (h : BkI k a) {rev : ByteArray} (hr : bkHas a rev = true) : rev.size ≤ 100 := (h.rev _ (zbO hr)).size
theorem zjK {k : Nat} {a : ABook} (ok : a.Ok) (h : BkI k a) (cfg : ByteArray) (t : Tgt) : (tgtOf a cfg t).1.size ≤ 100 := by
 have hs : s_.size ≤ 100 := by decide
 unfold tgtOf
 split
 ·split
  ·exact hs
  ·rename_i h2
   rcases ziA ok cfg (bkProved a) with e | e
   ·exact absurd e h2
   ·exact h.size e
 ·split
  ·rename_i h2
   split
   ·exact h.size h2
   ·exact hs
  ·exact hs
structure ByI (k : Nat) (bk : ABook) (m : List (ByteArray × ABes)) : Prop where
 has : ∀ p ∈ bk.all, (mget m p.1).isSome = true
 xs : ∀ x ∈ m, x.2.xs.length ≤ k
 rng : ∀ x ∈ m, ∀ y ∈ x.2.xs, 0 ≤ y ∧ y ≤ 100000000
 want : ∀ x ∈ m, (0 ≤ x.2.want ∧ x.2.want ≤ 10) ∧ (0 ≤ x.2.left ∧ x.2.left ≤ 1000)
theorem ByI.mono {k m : Nat} {bk : ABook} {b : List (ByteArray × ABes)} (h : ByI k bk b) (hm : k ≤ m) : ByI m bk b := ⟨h.has, fun x hx => by have := h.xs x hx; omega, h.rng, h.want⟩
theorem ByI.book {k : Nat} {bk bk' : ABook} {b : List (ByteArray × ABes)} (h : ByI k bk b) (e : bk'.all = bk.all) : ByI k bk' b := ⟨by rw [e]; exact h.has, h.xs, h.rng, h.want⟩
theorem ByI.set {k : Nat} {bk : ABook} {b : List (ByteArray × ABes)} (h : ByI k bk b) {rev : ByteArray} {x : ABes} (h1 : x.xs.length ≤ k) (h2 : ∀ y ∈ x.xs, 0 ≤ y ∧ y ≤ 100000000) (h3 : (0 ≤ x.want ∧ x.want ≤ 10) ∧ (0 ≤ x.left ∧ x.left ≤ 1000)) : ByI k bk (mset b rev x) :=
 ⟨fun p hp => z9D _ _ _ _ (h.has p hp), fun y hy => by
  rcases z2c hy with rfl | hy
  ·exact h1
  ·exact h.xs y hy, fun y hy => by
  rcases z2c hy with rfl | hy
  ·exact h2
  ·exact h.rng y hy, fun y hy => by
  rcases z2c hy with rfl | hy
  ·exact h3
  ·exact h.want y hy⟩
structure WyI (k : Nat) (a : AWay) : Prop where
 fr : WBd a.fr
 to : WBd a.to
 ns : WBd a.ns
 zf : ∀ s ∈ a.fr, s.1.size ≤ 100
 zt : ∀ s ∈ a.to, s.1.size ≤ 100
 zn : ∀ s ∈ a.ns, s.1.size ≤ 100
 zg : ∀ s ∈ a.ng, s.1.size ≤ 100 ∧ s.2.1.size ≤ 100
 lf : a.fr.length ≤ 6 * k
 lt : a.to.length ≤ 6
 ln : a.ns.length ≤ 6 * k
 lg : a.ng.length ≤ 6
 since : 0 ≤ a.since ∧ a.since ≤ 1048576
abbrev RoI (k : Nat) (m : ARoll) : Prop := ∀ n x, mget m n = some x → WyI k x
theorem WyI.mono {k m : Nat} {a : AWay} (h : WyI k a) (hm : k ≤ m) : WyI m a := ⟨h.fr, h.to, h.ns, h.zf, h.zt, h.zn, h.zg, by have := h.lf; omega, h.lt, by have := h.ln; omega, h.lg, h.since⟩
theorem WyI.ok {k : Nat} {a : AWay} (h : WyI k a) (hk : k ≤ 10000) : a.Ok := ⟨h.fr, h.to, h.ns, by have := h.lf; omega, by have := h.lt; omega, by have := h.ln; omega, by have := h.lg; omega⟩
theorem ziz {α : Type} [Inhabited α] [DecidableEq α] {zs : List α} {x : α} (h : x ∈ Lib.compact zs) : x ∈ zs := by
 unfold Lib.compact Lib.compactUpTo at h
 obtain ⟨i, hi, rfl⟩ := List.mem_map.1 h
 have hi := (List.mem_filter.1 hi).1
 rw [List.mem_range] at hi
 simp [hi]
theorem zlb {l : List ByteArray} {x : ByteArray} (h : x ∈ scomp l) : x ∈ l := by
 unfold scomp at h
 obtain ⟨y, hy, rfl⟩ := List.mem_map.1 h
 obtain ⟨z, hz, rfl⟩ := List.mem_map.1 (ziz hy)
 exact hz
theorem zly {fr to : List Shr} {x : ByteArray} (h : x ∈ namesOf fr to) : (∃ s ∈ fr, s.1 = x) ∨ ∃ s ∈ to, s.1 = x := by
 have h := z9u.1 (zlb h)
 rcases List.mem_append.1 h with h | h
 ·exact .inl (List.mem_map.1 h)
 ·exact .inr (List.mem_map.1 h)
theorem zlz (fr to : List Shr) : (namesOf fr to).length ≤ fr.length + to.length := by
 have := zgT (ssort (fr.map (·.1) ++ to.map (·.1)))
 rw [z2V, List.length_append, List.length_map, List.length_map] at this
 exact this
theorem zqM {fr to : List Shr} {gone whole : Int} (h0 : 0 < gone) (h1 : gone < whole) (n : ByteArray) : wOf fr n + upOf fr to gone whole n ≤ max (wOf fr n) (wOf to n) := by
 unfold upOf
 split
 ·rename_i hc
  have : (wOf to n - wOf fr n) * gone / whole ≤ wOf to n - wOf fr n := Int.ediv_le_of_le_mul (by omega) (Int.mul_le_mul_of_nonneg_left (by omega) (by omega))
  omega
 ·omega
theorem zgW {fr to : List Shr} {gone whole : Int} (hf : WBd fr) (ht : WBd to) (h0 : 0 < gone) (h1 : gone < whole) : ∀ {l : List ByteArray} {st : Int × List Shr}, (∀ x ∈ l, x.size ≤ 100) → 0 ≤ st.1 → WBd st.2 → (∀ s ∈ st.2, s.1.size ≤ 100) →
  WBd (l.foldl (rollStep fr to gone whole) st).2 ∧ (∀ s ∈ (l.foldl (rollStep fr to gone whole) st).2, s.1.size ≤ 100) ∧ (l.foldl (rollStep fr to gone whole) st).2.length ≤ st.2.length + l.length
 | [], st, _, _, h3, h4 => ⟨h3, h4, Nat.le_refl _⟩
 | n :: l, st, hl, h2, h3, h4 => by
  rw [List.foldl_cons]
  have a := z9r (r := n) hf
  have b := z9r (r := n) ht
  have c := zfJ hf ht h0 h1 n
  have d := zqM (fr := fr) (to := to) h0 h1 n
  have key : 0 ≤ (rollStep fr to gone whole st n).1 ∧ WBd (rollStep fr to gone whole st n).2 ∧ (∀ s ∈ (rollStep fr to gone whole st n).2, s.1.size ≤ 100) ∧ (rollStep fr to gone whole st n).2.length ≤ st.2.length + 1 := by
   have hv : ∀ m : Int, wOf fr n + m ≤ 1000 → WBd (if 0 < wOf fr n + m then st.2 ++ [(n, wOf fr n + m, ())] else st.2) ∧ (∀ s ∈ (if 0 < wOf fr n + m then st.2 ++ [(n, wOf fr n + m, ())] else st.2), s.1.size ≤ 100) ∧ (if 0 < wOf fr n + m then st.2 ++ [(n, wOf fr n + m, ())] else st.2).length ≤ st.2.length + 1 := by
    intro m hm
    split
    ·rename_i hp
     refine ⟨fun s hs => ?_, fun s hs => ?_, by simp⟩
     ·rcases List.mem_append.1 hs with hs | hs
      ·exact h3 s hs
      ·rw [List.mem_singleton] at hs; subst hs; exact ⟨by show (0 : Int) ≤ wOf fr n + m; omega, hm⟩
     ·rcases List.mem_append.1 hs with hs | hs
      ·exact h4 s hs
      ·rw [List.mem_singleton] at hs; subst hs; exact hl n (by simp)
    ·exact ⟨h3, h4, Nat.le_succ _⟩
   unfold rollStep
   dsimp only
   by_cases hd : 0 < wOf fr n - wOf to n
   ·simp only [if_pos hd]
    refine ⟨by split <;> omega, hv _ (by split <;> omega)⟩
   ·simp only [if_neg hd]
    exact ⟨h2, hv _ (by omega)⟩
  obtain ⟨k1, k2, k3, k4⟩ := key
  obtain ⟨r1, r2, r3⟩ := zgW hf ht h0 h1 (l := l) (fun x hx => hl x (by simp [hx])) k1 k2 k3
  exact ⟨r1, r2, by rw [List.length_cons]; omega⟩
theorem ziS {fr to : List Shr} {gone whole : Int} (hf : WBd fr) (ht : WBd to) (h0 : 0 < gone) (h1 : gone < whole) : ∀ l : List ByteArray, 0 ≤ (l.map (upOf fr to gone whole)).sum
 | [] => Int.le_refl 0
 | n :: l => by
  have := ziS hf ht h0 h1 l
  have := (zfJ hf ht h0 h1 n).1
  rw [List.map_cons, List.sum_cons]; omega
theorem zgS {fr to : List Shr} (hf : WBd fr) (ht : WBd to) (zf : ∀ s ∈ fr, s.1.size ≤ 100) (zt : ∀ s ∈ to, s.1.size ≤ 100) (gone whole : Int) :
  WBd (sharesOf fr to gone whole) ∧ (∀ s ∈ sharesOf fr to gone whole, s.1.size ≤ 100) ∧ (sharesOf fr to gone whole).length ≤ fr.length + to.length := by
 unfold sharesOf
 split
 ·exact ⟨ht, zt, by omega⟩
 ·split
  ·exact ⟨hf, zf, by omega⟩
  ·rename_i h1 h2
   have := zgW (gone := gone) (whole := whole) hf ht (by omega) (by omega) (l := namesOf fr to) (st := (((namesOf fr to).map (upOf fr to gone whole)).sum, [])) (fun x hx => by
    rcases zly hx with ⟨s, hs, rfl⟩ | ⟨s, hs, rfl⟩
    ·exact zf s hs
    ·exact zt s hs) (ziS hf ht (by omega) (by omega) _) (by intro s hs; cases hs) (by intro s hs; cases hs)
   have hn := zlz fr to
   refine ⟨this.1, this.2.1, ?_⟩
   have h3 := this.2.2
   simp only [List.length_nil, Nat.zero_add] at h3
   exact Nat.le_trans h3 hn
structure TabI (t : ATab) : Prop where
 w : WBd t.sh
 zs : ∀ s ∈ t.sh, s.1.size ≤ 100
 zg : ∀ s ∈ t.tg, s.1.size ≤ 100 ∧ s.2.1.size ≤ 100
 ls : t.sh.length ≤ 6
 lg : t.tg.length ≤ 6
theorem zgN {k : Nat} {m : ARoll} (h : RoI k m) (n : ByteArray) {t : ATab} (ht : TabI t) {now : Int} (hn : 0 ≤ now ∧ now ≤ 1048576) (whole : Int) (hk : 1 ≤ k) :
  WBd (wayOf m n t now whole).fr ∧ WBd (wayOf m n t now whole).to ∧ (∀ s ∈ (wayOf m n t now whole).fr, s.1.size ≤ 100) ∧ (∀ s ∈ (wayOf m n t now whole).to, s.1.size ≤ 100) ∧ (wayOf m n t now whole).fr.length ≤ 6 * k ∧ (wayOf m n t now whole).to.length ≤ 6 ∧ 0 ≤ (wayOf m n t now whole).since ∧ (wayOf m n t now whole).since ≤ 1048576 := by
 unfold wayOf
 have := ht.ls
 split
 ·rename_i a ha
  have w := h n a ha
  split
  ·exact ⟨w.fr, w.to, w.zf, w.zt, w.lf, w.lt, w.since.1, w.since.2⟩
  ·exact ⟨w.ns, ht.w, w.zn, ht.zs, w.ln, ht.ls, hn.1, hn.2⟩
 ·exact ⟨ht.w, ht.w, ht.zs, ht.zs, by dsimp only; omega, ht.ls, hn.1, hn.2⟩
theorem zjY {k : Nat} {m : ARoll} (h : RoI k m) (n : ByteArray) {t : ATab} (ht : TabI t) {now : Int} (hn : 0 ≤ now ∧ now ≤ 1048576) (whole : Int) (hk : 1 ≤ k) : RoI (k + 1) (roTurn m n t now whole) := by
 intro n' x hx
 unfold roTurn at hx
 rw [z3D] at hx
 split at hx
 ·obtain ⟨a1, a2, a3, a4, a5, a6, a7, a8⟩ := zgN h n ht hn whole hk
  have s := zgS a1 a2 a3 a4 (now - (wayOf m n t now whole).since) whole
  cases hx
  exact ⟨a1, a2, s.1, a3, a4, s.2.1, ht.zg, by dsimp only; omega, a6, by have := s.2.2; dsimp only [nowOf]; omega, ht.lg, a7, a8⟩
 ·exact (h n' x hx).mono (Nat.le_succ k)
theorem zlx {k : Nat} {m : ARoll} (h : RoI k m) (n : ByteArray) {t : ATab} (ht : TabI t) {now : Int} (hn : 0 ≤ now ∧ now ≤ 1048576) (whole : Int) (hk : 1 ≤ k) : WBd (nowOf m n t now whole).sh ∧ (∀ s ∈ (nowOf m n t now whole).sh, s.1.size ≤ 100) ∧ (nowOf m n t now whole).sh.length ≤ 6 * k + 6 := by
 obtain ⟨a1, a2, a3, a4, a5, a6, -, -⟩ := zgN h n ht hn whole hk
 have s := zgS a1 a2 a3 a4 (now - (wayOf m n t now whole).since) whole
 exact ⟨s.1, s.2.1, by have := s.2.2; dsimp only [nowOf]; omega⟩
theorem RoI.del {k : Nat} {m : ARoll} (h : RoI k m) (nd : (m.map (·.1)).Nodup) (n : ByteArray) : RoI k (mdel m n) := by
 intro n' x hx
 rw [ze5 n n' nd] at hx
 split at hx
 ·cases hx
 ·exact h n' x hx
structure RgI (j : Nat) (ws : MSI) (ts : MSS) : Prop where
 lw : ws.length ≤ j
 lt : ts.length ≤ j
 zw : ∀ x ∈ ws, x.1.size ≤ 100 ∧ 0 ≤ x.2 ∧ x.2 ≤ 100 * j
 zt : ∀ x ∈ ts, x.1.size ≤ 100 ∧ x.2.size ≤ 100
theorem zgX {k : Nat} {a : ABook} (ok : a.Ok) (h : BkI k a) (cfg : ByteArray) : ∀ {l : List Tgt} {j : Nat} {ws : MSI} {ts : MSS}, (∀ t ∈ l, (0 ≤ pct t ∧ pct t ≤ 100) ∧ t.2.1.size ≤ 100) → RgI j ws ts → RgI (j + l.length) (resGo a cfg l ws ts).2.1 (resGo a cfg l ws ts).2.2
 | [], _, _, _, _, h => h
 | t :: l, j, ws, ts, hl, hr => by
  rw [zfc]
  have ht := hl t (by simp)
  have hz := zjK ok h cfg t
  have e : j + (t :: l).length = (j + 1) + l.length := by rw [List.length_cons]; omega
  split
  ·rw [e]
   refine zgX ok h cfg (fun x hx => hl x (by simp [hx])) ⟨?_, ?_, fun x hx => ?_, fun x hx => ?_⟩
   ·have := z4o ws (tgtOf a cfg t).1 ((mget ws (tgtOf a cfg t).1).getD 0 + pct t); have := hr.lw; omega
   ·have := hr.lt
    split
    ·omega
    ·have := z4o ts t.2.1 (tgtOf a cfg t).1; omega
   ·rcases z2c hx with rfl | hx
    ·refine ⟨hz, ?_⟩
     dsimp only
     cases hg : mget ws (tgtOf a cfg t).1 with
     | none => simp only [Option.getD_none]; omega
     | some v => have := (hr.zw _ (z4p hg)).2; simp only [Option.getD_some]; dsimp only at this; omega
    ·have := hr.zw x hx
     exact ⟨this.1, this.2.1, by omega⟩
   ·split at hx
    ·exact hr.zt x hx
    ·rcases z2c hx with rfl | hx
     ·exact ⟨ht.2, hz⟩
     ·exact hr.zt x hx
  ·exact ⟨by have := hr.lw; dsimp only; omega, by have := hr.lt; dsimp only; omega, fun x hx => by have := hr.zw x hx; exact ⟨this.1, this.2.1, by rw [e]; omega⟩, hr.zt⟩
theorem zj8 {m : List (ByteArray × Int)} {s : Shr} (h : s ∈ ordI m) : (s.1, @id Int s.2.1) ∈ m := by
 unfold ordI at h
 obtain ⟨x, hx, rfl⟩ := List.mem_map.1 h
 have hx := z9u.1 hx
 cases hg : mget m x with
 | none => exact absurd hx (z2E.1 hg)
 | some v => exact z4p hg
theorem zn0 {m : List (ByteArray × ByteArray)} {s : Tgo} (h : s ∈ ordS m) : (s.1, s.2.1) ∈ m := by
 unfold ordS at h
 obtain ⟨x, hx, rfl⟩ := List.mem_map.1 h
 have hx := z9u.1 hx
 cases hg : mget m x with
 | none => exact absurd hx (z2E.1 hg)
 | some v => exact z4p hg
theorem zdY {k : Nat} {a : ABook} (ok : a.Ok) (h : BkI k a) {r : ARt} (hl : r.ts.length ≤ 6) (ht : ∀ t ∈ r.ts, (0 ≤ pct t ∧ pct t ≤ 100) ∧ t.2.1.size ≤ 100) : TabI (resolve a r).1 := by
 have hg := zgX ok h r.cfg (l := r.ts) (j := 0) (ws := []) (ts := []) ht ⟨Nat.le_refl _, Nat.le_refl _, by simp, by simp⟩
 unfold resolve
 split
 ·refine ⟨fun s hs => ?_, fun s hs => ?_, fun s hs => ?_, ?_, ?_⟩
  ·have := (hg.zw _ (zj8 (List.mem_filter.1 hs).1)).2
   dsimp only at this
   exact ⟨this.1, by omega⟩
  ·exact (hg.zw _ (zj8 (List.mem_filter.1 hs).1)).1
  ·exact hg.zt _ (zn0 hs)
  ·have h1 := List.length_filter_le posW (ordI (resGo a r.cfg r.ts [] []).2.1)
   have h2 : (ordI (resGo a r.cfg r.ts [] []).2.1).length = (resGo a r.cfg r.ts [] []).2.1.length := by unfold ordI; rw [List.length_map, z2V, List.length_map]
   have := hg.lw
   dsimp only; omega
  ·have h2 : (ordS (resGo a r.cfg r.ts [] []).2.2).length = (resGo a r.cfg r.ts [] []).2.2.length := by unfold ordS; rw [List.length_map, z2V, List.length_map]
   have := hg.lt
   dsimp only; omega
 ·exact ⟨(by intro s hs; cases hs), (by intro s hs; cases hs), (by intro s hs; cases hs), Nat.zero_le _, Nat.zero_le _⟩
theorem zgR {a : ARt} (h : specE a = 0) : (shortB a.name.data.toList 16 = true ∧ shortB a.cfg.data.toList 16 = true) ∧ (0 ≤ a.roll ∧ a.roll ≤ 60) ∧ a.ts.length ≤ 6 ∧ ∀ t ∈ a.ts, (0 ≤ pct t ∧ pct t ≤ 100) ∧ t.2.1.size ≤ 100 := by
 have hl := zdT h
 unfold specE at h
 split at h
 ·rename_i h1
  split at h
  ·rename_i h2
   split at h
   ·rename_i h3
    refine ⟨h1, h2, hl, fun t ht => ?_⟩
    have h4 : tgE t = 0 := by
     split at h
     ·rename_i x hx
      have := List.find?_some hx
      simp only [decide_eq_true_eq] at this
      exact absurd h this
     ·rename_i hx
      have := List.find?_eq_none.1 hx t ht
      simpa using this
    refine ⟨znZ h4, ?_⟩
    unfold tgE at h4
    split at h4
    ·cases h4
    ·rename_i h5
     unfold tagBad at h5
     by_cases e : t.2.1 = s_
     ·rw [e]; decide
     ·have h6 : shortB t.2.1.data.toList 8 = true := by simpa [e] using h5
      unfold shortB at h6
      simp only [Bool.and_eq_true, decide_eq_true_eq] at h6
      have h7 : (t.2.1.data.toList.length : Int) ≤ 8 := h6.2
      have h8 : t.2.1.data.toList.length = t.2.1.size := by rw [Array.length_toList]; rfl
      omega
   ·cases h
  ·cases h
 ·cases h
theorem zjM {t : ATab} {m : Nat} (hw : WBd t.sh) (zs : ∀ s ∈ t.sh, s.1.size ≤ 100) (zg : ∀ s ∈ t.tg, s.1.size ≤ 100 ∧ s.2.1.size ≤ 100) (hl : t.sh.length + t.tg.length ≤ m) (hm : m ≤ 80000) : TabB t := by
 refine ⟨fun s hs => ⟨hw s hs, by have := zs s hs; omega⟩, fun s hs => by have := zg s hs; omega, ?_⟩
 have h := zdK 1200 (tabParts t) (fun x hx => by
  unfold tabParts at hx
  rcases List.mem_append.1 hx with hx | hx
  ·obtain ⟨s, hs, rfl⟩ := List.mem_map.1 hx
   have h1 := zs s hs
   have h2 := z8P (@id Int s.2.1).toNat
   have h3 := hw s hs
   have h4 : s___b5df.size = 1 := rfl
   unfold shT
   rw [ByteArray.size_append, ByteArray.size_append]
   omega
  ·obtain ⟨s, hs, rfl⟩ := List.mem_map.1 hx
   have h1 := zg s hs
   have h4 : s___b5e2.size = 1 := rfl
   unfold toT
   rw [ByteArray.size_append, ByteArray.size_append]
   omega)
 unfold tabText
 have h2 : (tabParts t).length = t.sh.length + t.tg.length := by unfold tabParts; simp
 rw [h2] at h
 have : (t.sh.length + t.tg.length) * (1200 + 1) ≤ 80000 * 1201 := Nat.mul_le_mul (by omega) (by omega)
 omega
end Go.Proofs.YtkebppklbobjcaaGreatDoor
namespace Go.Proofs.YtkebppklbobjcaaGreatDoor
open Go.Dm
attribute [local irreducible] L.load L.store L.chk L.new L.nonnil L.guard L.ite L.draw L.idx L.sem L.semR L.semU L.chkSem L.next L.call L.callV L.join L.alts L.loop L.begin L.endRound L.range
variable {w0 w : World} {E : List Seg}
def sysDrop (a : ASys) (e : AEv) : ASys × List ByteArray :=
 if (shDrop a.sh e.n e.name e.draw).2 ≠ 0 then ({ a with sh := (shDrop a.sh e.n e.name e.draw).1 }, refusedB (shDrop a.sh e.n e.name e.draw).2)
 else ({ a with sh := (shDrop a.sh e.n e.name e.draw).1, ro := if e.n = 2 then mdel a.ro e.name else a.ro }, [lineB zlk [e.name]])
def sysDown (a : ASys) (e : AEv) : ASys × List ByteArray :=
 if (fKill a.fl e.n).2.2 ≠ 0 then ({ a with fl := (fKill a.fl e.n).1 }, refusedB (fKill a.fl e.n).2.2)
 else ({ a with fl := (fKill a.fl e.n).1, gt := (gLost a.gt (fKill a.fl e.n).2.1).1 }, lineB zpH [decD e.n.toNat] :: (gLost a.gt (fKill a.fl e.n).2.1).2.map fateB)
def mn2 (a b : Int) : Int := if b < a then b else a
def mx2 (a b : Int) : Int := if b > a then b else a
def scNeed (s n c : Int) : Int := if n ≤ 0 then 0 else if c ≤ 0 then 0 else (s + n * c - 1) / (n * c)
abbrev scM (ready : Int) : Int := if ready > 1 then ready else 1
def scLeft (left b m : Int) : Int := if b ≥ 2 * m then 6 else if 0 > left - 1 then 0 else left - 1
def scW1 (want left' a b : Int) : Int := if left' > 0 then mx2 (mx2 want a) b else a
def scW2 (w1 want busy idle grace : Int) : Int := if w1 = 0 ∧ (busy > 0 ∨ (want > 0 ∧ idle < grace)) then 1 else w1
def scEnd (w2 ready mi ma : Int) : Int := mn2 (mx2 (mx2 (mn2 w2 (4 * scM ready)) (ready / 2)) mi) ma
def scDec (want left : Int) (c : Cfg) (ready busy st sts sh shs idle : Int) : Int × Int :=
 (scEnd (scW2 (scW1 want (scLeft left (scNeed sh shs c.2.2.1) (scM ready)) (scNeed st sts c.2.2.1) (scNeed sh shs c.2.2.1)) want busy idle c.2.2.2.2.2.1) ready c.2.2.2.1 c.2.2.2.2.1, scLeft left (scNeed sh shs c.2.2.1) (scM ready))
def scOf (a : ASys) (x : ABes) (rev : ByteArray) : Int × Int :=
 scDec x.want x.left (bkGet a.bk rev).2.2 (cnt (fun s => s == 2) (fPods a.fl.l rev)) (busyB a.gt rev) (lastS x.xs (lastN x.xs 6)) (lastN x.xs 6) (lastS x.xs (lastN x.xs 2)) (lastN x.xs 2) (tz x.xs)
def sysScale (a : ASys) (e : AEv) : ASys × List ByteArray :=
 if bkHas a.bk e.name = false then (a, refusedB 6) else match mget a.by' e.name with
 | none => (a, [])
 | some x => ({ a with by' := mset a.by' e.name ⟨x.xs, (scOf a x e.name).1, (scOf a x e.name).2⟩ }, [lineB (lineB s_scale [e.name]) [decD (scOf a x e.name).1.toNat]])
end Go.Proofs.YtkebppklbobjcaaGreatDoor
namespace Go.Proofs.YtkebppklbobjcaaGreatDoor
open Go.Dm
structure SInv (k : Nat) (a : ASys) : Prop where
 fl : FlI k a.fl
 gt : GtI k a.gt
 sh : ShI k a.sh
 bk : BkI k a.bk
 ro : RoI k a.ro
 by' : ByI k a.bk a.by'
 now : 0 ≤ a.now ∧ a.now ≤ 1048576
structure SOk (a : ASys) : Prop where
 fl : a.fl.Ok
 gt : a.gt.Ok
 sh : a.sh.Ok
 bk : a.bk.Ok
 ro : (a.ro.map (·.1)).Nodup
 nd : (a.bk.all.map (·.1)).Nodup
theorem SysS.ok {b : Nat} {a : ASys} {s : Seg} (h : SysS b a s) : SOk a := by
 obtain ⟨p, sg, sf, ss, sk, sr, sm, Q, R, -⟩ := h
 refine ⟨R.fl.1, R.gt.1, R.sh.1, R.bk.1, ?_, ?_⟩
 ·obtain ⟨r, sm, P, Q, hm, -, e, -⟩ := R.ro
  rw [e]
  have := hm.nd
  simpa [List.map_map, Function.comp_def] using this
 ·obtain ⟨-, rA, rP, sA, sP, hA, -⟩ := R.bk
  exact hA.nd
theorem SInv.mono {k m : Nat} {a : ASys} (h : SInv k a) (hm : k ≤ m) : SInv m a := ⟨h.fl.mono hm, h.gt.mono hm, h.sh.mono hm, h.bk.mono hm, fun n x hx => (h.ro n x hx).mono hm, h.by'.mono hm, h.now⟩
theorem zoC {room line pat : Int} (h : newOk room line pat = true) (hr : room ≤ 20) : SInv 0 (newSys room line pat) := by
 unfold newOk wiB at h
 simp only [Bool.and_eq_true, decide_eq_true_eq] at h
 obtain ⟨⟨r1, r2⟩, ⟨l1, l2⟩, p1, p2⟩ := h
 refine ⟨⟨⟨hr, ?_, ?_⟩, r1, Int.le_refl 0, ?_, ?_⟩, ⟨Nat.le_refl _, ?_, Nat.le_refl _, ?_, ?_, ⟨p1, by show pat ≤ 1000; omega⟩, l1, l2⟩, ⟨Int.le_refl 0, ?_, ?_, ?_⟩, ⟨Nat.le_refl _, ?_, ?_⟩, ?_, ⟨?_, ?_, ?_, ?_⟩, Int.le_refl 0, by show (0 : Int) ≤ 1048576; decide⟩
 ·show ((0 : Nat) : Int) ≤ max room 0; omega
 all_goals first | (intro x hx; cases hx; done) | skip
 intro n x h; cases h
def sysDo (a : ASys) (e : AEv) : ASys × List ByteArray :=
 if chkEv e ≠ 0 then (a, [lineB zlm [errB (chkEv e)]])
 else if e.kind = 1 then sysConfig a e else if e.kind = 2 then sysRoute a e else if e.kind = 3 then sysDrop a e else if e.kind = 4 then sysArrive a e else if e.kind = 5 then sysDone a e else if e.kind = 6 then sysUp a e
 else if e.kind = 9 then sysTick a else if e.kind = 10 then sysStamp a e else if e.kind = 11 then sysLead a e else if e.kind = 12 then sysScale a e else if e.kind = 13 then sysPods a e else sysDown a e
theorem zjw {e : AEv} (h : chkEv e = 0) : (shp e.kind).2 = true ∧ chkS (shp e.kind).1 e = 0 := by
 unfold chkEv at h
 split at h
 ·cases h
 ·rename_i h1; exact ⟨by simpa using h1, h⟩
theorem z9L {e : AEv} (h : chkEv e = 0) : ((shp e.kind).1.1 = true → numE e = true) ∧ ((shp e.kind).1.2.1 = true → namedE e = true) ∧ ((shp e.kind).1.2.2.2.1 = true → wiB e.draw 0 2147483647 = true) ∧ ((shp e.kind).1.2.2.2.2.1 = true → specC e.c = 0) ∧ ((shp e.kind).1.2.2.2.2.2.1 = true → (shp e.kind).1.2.2.2.2.1 = false → specE e.r = 0) := by
 have h := (zjw h).2
 generalize (shp e.kind).1 = s at h ⊢
 obtain ⟨s1, s2, s3, s4, s5, s6, ⟨⟩⟩ := s
 unfold chkS at h
 dsimp only at h ⊢
 split at h
 ·cases h
 ·split at h
  ·cases h
  ·rename_i h1
   split at h
   ·cases h
   ·rename_i h2
    split at h
    ·cases h
    ·split at h
     ·cases h
     ·rename_i h3
      refine ⟨fun e1 => ?_, fun e1 => ?_, fun e1 => ?_, fun e1 => ?_, fun e1 e2 => ?_⟩
      ·cases hn : numE e with
       | true => rfl
       | false => exact absurd ⟨e1, hn⟩ h1
      ·cases hn : namedE e with
       | true => rfl
       | false => exact absurd ⟨e1, hn⟩ h2
      ·cases hn : wiB e.draw 0 2147483647 with
       | true => rfl
       | false => exact absurd ⟨e1, hn⟩ h3
      ·rw [if_pos e1] at h; exact h
      ·rw [if_neg (by simp [e2]), if_pos e1] at h; exact h
theorem zke {e : AEv} (h : chkEv e = 0) : e.kind = 1 ∨ e.kind = 2 ∨ e.kind = 3 ∨ e.kind = 4 ∨ e.kind = 5 ∨ e.kind = 6 ∨ e.kind = 7 ∨ e.kind = 8 ∨ e.kind = 9 ∨ e.kind = 10 ∨ e.kind = 11 ∨ e.kind = 12 ∨ e.kind = 13 := by
 have h := (zjw h).1
 unfold shp at h
 repeat' (split at h)
 all_goals first | omega | (cases h; done)
theorem zhx {e : AEv} (h : chkEv e = 0) (hk : e.kind = 4 ∨ e.kind = 5 ∨ e.kind = 6 ∨ e.kind = 7 ∨ e.kind = 8) : idB e.n ∧ 1 ≤ e.n := by
 have h1 := (z9L h).1 (by rcases hk with e | e | e | e | e <;> rw [e] <;> rfl)
 unfold numE wiB at h1
 rw [if_neg (by omega), if_neg (by omega)] at h1
 simp only [Bool.and_eq_true, decide_eq_true_eq] at h1
 exact ⟨⟨by omega, h1.2⟩, h1.1⟩
theorem znB {e : AEv} (h : chkEv e = 0) (hk : e.kind = 3 ∨ e.kind = 4 ∨ e.kind = 10 ∨ e.kind = 11) : ((e.name.size : Nat) : Int) ≤ 16 := by
 have h1 := (z9L h).2.1 (by rcases hk with e | e | e | e <;> rw [e] <;> rfl)
 unfold namedE at h1
 rw [if_neg (by omega)] at h1
 exact z6S h1
theorem znC {e : AEv} (h : chkEv e = 0) (hk : e.kind = 4) : 0 ≤ e.draw ∧ e.draw ≤ 2147483647 := by
 have h1 := (z9L h).2.2.1 (by rw [hk]; rfl)
 unfold wiB at h1
 simpa using h1
theorem zqV {e : AEv} (h : chkEv e = 0) (hk : e.kind = 1) : specC e.c = 0 := (z9L h).2.2.2.1 (by rw [hk]; rfl)
theorem zqU {e : AEv} (h : chkEv e = 0) (hk : e.kind = 2) : specE e.r = 0 := (z9L h).2.2.2.2 (by rw [hk]; rfl) (by rw [hk]; rfl)
theorem zkf {k : Nat} {a : ASys} (ok : SOk a) (h : SInv k a) (e : AEv) : SInv (k + 1) (sysConfig a e).1 :=
 ⟨h.fl.mono (Nat.le_succ k), h.gt.mono (Nat.le_succ k), zl8 ok.sh h.sh e.c e.n, h.bk.mono (Nat.le_succ k), fun n x hx => (h.ro n x hx).mono (Nat.le_succ k), h.by'.mono (Nat.le_succ k), h.now⟩
theorem zlH {k : Nat} {a : ASys} (h : SInv k a) (e : AEv) : SInv (k + 1) (sysRoute a e).1 :=
 ⟨h.fl.mono (Nat.le_succ k), h.gt.mono (Nat.le_succ k), zjP h.sh e.r e.n, h.bk.mono (Nat.le_succ k), fun n x hx => (h.ro n x hx).mono (Nat.le_succ k), h.by'.mono (Nat.le_succ k), h.now⟩
theorem zkg {k : Nat} {a : ASys} (ok : SOk a) (h : SInv k a) {e : AEv} (he : idB e.n) : SInv (k + 1) (sysArrive a e).1 := by
 have hg := znr ok.gt h.fl h.gt he (bnd a e) a.now
 have h1 : SInv (k + 1) { a with fl := (arG a e).1, gt := (arG a e).2.1 } := ⟨hg.1.mono (Nat.le_succ k), hg.2, h.sh.mono (Nat.le_succ k), h.bk.mono (Nat.le_succ k), fun n x hx => (h.ro n x hx).mono (Nat.le_succ k), h.by'.mono (Nat.le_succ k), h.now⟩
 unfold sysArrive
 split
 ·rename_i x hx
  have hm : (bnd a e, x) ∈ a.by' := by
   unfold pokes at hx
   split at hx
   ·rename_i y hy
    split at hx
    ·cases hx; exact z4p hy
    ·cases hx
   ·cases hx
  refine ⟨h1.fl, h1.gt, h1.sh, h1.bk, h1.ro, ?_, h1.now⟩
  exact h1.by'.set (h1.by'.xs _ hm) (h1.by'.rng _ hm) ⟨⟨by show (0 : Int) ≤ 1; decide, by show (1 : Int) ≤ 10; decide⟩, (h1.by'.want _ hm).2⟩
 ·exact h1
theorem znl {k : Nat} {a : ASys} (ok : SOk a) (h : SInv k a) (hk : k ≤ 10000) {e : AEv} (he : idB e.n) : SInv (k + 2) (sysDone a e).1 := by
 have hg := zlR ok.fl ok.gt hk h.fl h.gt he
 unfold sysDone
 exact ⟨hg.1.mono (by omega), hg.2, h.sh.mono (by omega), h.bk.mono (by omega), fun n x hx => (h.ro n x hx).mono (by omega), h.by'.mono (by omega), h.now⟩
theorem zpX {k : Nat} {a : ASys} (ok : SOk a) (h : SInv k a) (e : AEv) : SInv (k + 1) (sysUp a e).1 := by
 have hu := h.fl.up e.n
 have hg := zhj ok.gt hu h.gt (fOf (fUpp a.fl e.n).1.l e.n)
 unfold sysUp
 split
 ·exact ⟨hu.mono (Nat.le_succ k), h.gt.mono (Nat.le_succ k), h.sh.mono (Nat.le_succ k), h.bk.mono (Nat.le_succ k), fun n x hx => (h.ro n x hx).mono (Nat.le_succ k), h.by'.mono (Nat.le_succ k), h.now⟩
 ·refine ⟨hg.1.mono (Nat.le_succ k), hg.2, h.sh.mono (Nat.le_succ k), ?_, fun n x hx => (h.ro n x hx).mono (Nat.le_succ k), ?_, h.now⟩
  ·dsimp only; unfold upBk
   split
   ·exact h.bk.mono (Nat.le_succ k)
   ·exact (h.bk.prove _).mono (Nat.le_succ k)
  ·dsimp only; unfold upBk
   split
   ·exact h.by'.mono (Nat.le_succ k)
   ·refine (h.by'.mono (Nat.le_succ k)).book ?_
    unfold bkProve
    split <;> rfl
theorem zdW {k : Nat} {a : AShelf} (ok : a.Ok) (h : ShI k a) {n : ByteArray} (hi : (shCfg a n).2.2.2.1 = true) : specC (shCfg a n).1 = 0 ∧ 1 ≤ @id Int (shCfg a n).2.2.1 ∧ @id Int (shCfg a n).2.2.1 ≤ a.n := by
 unfold shCfg at hi ⊢
 split
 ·rename_i h1
  have := h.cfg n h1
  exact ⟨this.2.1, this.2.2, (ok.gen n).2⟩
 ·rename_i h1
  rw [if_neg h1] at hi
  cases hi
theorem zlG {k : Nat} {a : ASys} (ok : SOk a) (h : SInv k a) (hn : a.sh.n < 100) (e : AEv) : SInv (k + 1) (sysStamp a e).1 := by
 have hm := h.mono (Nat.le_succ k)
 unfold sysStamp
 split
 ·exact hm
 ·rename_i h1
  have hc := zdW ok.sh h.sh (n := e.name) (by simpa using h1)
  split
  ·exact hm
  ·have hb := h.bk.stamp (c := (shCfg a.sh e.name).1) hc.1 (g := (@id Int (shCfg a.sh e.name).2.2.1).toNat) (by omega) (by omega)
   have hw := (z6W hc.1).2.2.2
   split
   ·rename_i h3
    refine ⟨hm.fl, hm.gt, hm.sh, hb, hm.ro, hm.by'.book ?_, hm.now⟩
    dsimp only [stp] at h3 ⊢
    unfold bkStamp at h3 ⊢
    split
    ·rfl
    ·rename_i h4; rw [if_neg h4] at h3; cases h3
   ·rename_i h3
    refine ⟨hm.fl, hm.gt, hm.sh, hb, hm.ro, ⟨fun p hp => ?_, ?_, ?_, ?_⟩, hm.now⟩
    ·dsimp only [stp] at h3 hp ⊢
     rw [z3D]
     split
     ·rfl
     ·rename_i h5
      unfold bkStamp at hp h5
      split at hp
      ·exact h.by'.has p hp
      ·rename_i h6
       rw [if_neg h6] at h5
       rcases z2c hp with rfl | hp
       ·exact absurd rfl h5
       ·exact h.by'.has p hp
    all_goals
     intro y hy
     rcases z2c hy with rfl | hy
    ·exact Nat.zero_le _
    ·exact hm.by'.xs y hy
    ·intro z hz; cases hz
    ·exact hm.by'.rng y hy
    ·refine ⟨?_, Int.le_refl 0, by show (0 : Int) ≤ 1000; decide⟩
     show 0 ≤ wantOf (shCfg a.sh e.name).1 ∧ wantOf (shCfg a.sh e.name).1 ≤ 10
     unfold wantOf
     split <;> omega
    ·exact hm.by'.want y hy
theorem zf8 {k : Nat} {a : AShelf} (h : ShI k a) (n : ByteArray) : (shRt a n).1.ts.length ≤ 6 ∧ (∀ t ∈ (shRt a n).1.ts, (0 ≤ pct t ∧ pct t ≤ 100) ∧ t.2.1.size ≤ 100) ∧ 0 ≤ (shRt a n).1.roll ∧ (shRt a n).1.roll ≤ 60 := by
 unfold shRt
 split
 ·rename_i h1
  have := zgR (h.rt n h1).2
  exact ⟨this.2.2.1, this.2.2.2, this.2.1.1, this.2.1.2⟩
 ·exact ⟨Nat.zero_le _, (by intro t ht; cases ht), (show (0 : Int) ≤ 0 by decide), (show (0 : Int) ≤ 60 by decide)⟩
theorem znk {k : Nat} {a : ASys} (ok : SOk a) (h : SInv k a) (e : AEv) : SInv (k + 2) (sysLead a e).1 := by
 have hm := h.mono (Nat.le_add_right k 2)
 have hr := zf8 h.sh e.name
 unfold sysLead
 split
 ·exact hm
 ·split
  ·exact hm
  ·refine ⟨hm.fl, hm.gt, hm.sh, hm.bk, ?_, hm.by', hm.now⟩
   exact zjY (k := k + 1) (h.mono (Nat.le_succ k)).ro e.name (zdY ok.bk h.bk hr.1 hr.2.1) h.now _ (by omega)
theorem znj {k : Nat} {a : ASys} (h : SInv k a) (e : AEv) : SInv (k + 1) (sysPods a e).1 := by
 have hm := h.mono (Nat.le_succ k)
 unfold sysPods
 split
 ·exact hm
 ·rename_i h1
  have h1 : bkHas a.bk e.name = true := by simpa using h1
  have hb := zbO h1
  have hc := (z6W (h.bk.cfg _ hb)).2.2.1
  refine ⟨?_, hm.gt, hm.sh, hm.bk, hm.ro, hm.by', hm.now⟩
  exact h.fl.scale (h.bk.rev _ hb) (Int.le_trans hc.2 (by decide)) _
theorem zkZ {a : ASys} {e : AEv} (h : chkEv e ≠ 0) : sysDo a e = (a, [lineB zlm [errB (chkEv e)]]) := by unfold sysDo; rw [if_pos h]
theorem zfS {a : ASys} {e : AEv} (h : chkEv e = 0) (hk : e.kind = 1) : sysDo a e = sysConfig a e := by unfold sysDo; rw [if_neg (by simp [h]), if_pos hk]
theorem zic {a : ASys} {e : AEv} (h : chkEv e = 0) (hk : e.kind = 2) : sysDo a e = sysRoute a e := by unfold sysDo; rw [if_neg (by simp [h]), if_neg (by omega), if_pos hk]
theorem zon {a : ASys} {e : AEv} (h : chkEv e = 0) (hk : e.kind = 3) : sysDo a e = sysDrop a e := by unfold sysDo; rw [if_neg (by simp [h]), if_neg (by omega), if_neg (by omega), if_pos hk]
theorem zcx {a : ASys} {e : AEv} (h : chkEv e = 0) (hk : e.kind = 4) : sysDo a e = sysArrive a e := by unfold sysDo; rw [if_neg (by simp [h]), if_neg (by omega), if_neg (by omega), if_neg (by omega), if_pos hk]
theorem zdR {a : ASys} {e : AEv} (h : chkEv e = 0) (hk : e.kind = 5) : sysDo a e = sysDone a e := by unfold sysDo; rw [if_neg (by simp [h]), if_neg (by omega), if_neg (by omega), if_neg (by omega), if_neg (by omega), if_pos hk]
theorem zib {a : ASys} {e : AEv} (h : chkEv e = 0) (hk : e.kind = 6) : sysDo a e = sysUp a e := by unfold sysDo; rw [if_neg (by simp [h]), if_neg (by omega), if_neg (by omega), if_neg (by omega), if_neg (by omega), if_neg (by omega), if_pos hk]
theorem zl0 {a : ASys} {e : AEv} (h : chkEv e = 0) (hk : e.kind = 7 ∨ e.kind = 8) : sysDo a e = sysDown a e := by
 unfold sysDo; rw [if_neg (by simp [h]), if_neg (by omega), if_neg (by omega), if_neg (by omega), if_neg (by omega), if_neg (by omega), if_neg (by omega), if_neg (by omega), if_neg (by omega), if_neg (by omega), if_neg (by omega), if_neg (by omega)]
theorem zom {a : ASys} {e : AEv} (h : chkEv e = 0) (hk : e.kind = 9) : sysDo a e = sysTick a := by unfold sysDo; rw [if_neg (by simp [h]), if_neg (by omega), if_neg (by omega), if_neg (by omega), if_neg (by omega), if_neg (by omega), if_neg (by omega), if_pos hk]
theorem zfR {a : ASys} {e : AEv} (h : chkEv e = 0) (hk : e.kind = 10) : sysDo a e = sysStamp a e := by unfold sysDo; rw [if_neg (by simp [h]), if_neg (by omega), if_neg (by omega), if_neg (by omega), if_neg (by omega), if_neg (by omega), if_neg (by omega), if_neg (by omega), if_pos hk]
theorem zfQ {a : ASys} {e : AEv} (h : chkEv e = 0) (hk : e.kind = 11) : sysDo a e = sysLead a e := by unfold sysDo; rw [if_neg (by simp [h]), if_neg (by omega), if_neg (by omega), if_neg (by omega), if_neg (by omega), if_neg (by omega), if_neg (by omega), if_neg (by omega), if_neg (by omega), if_pos hk]
theorem zmJ {a : ASys} {e : AEv} (h : chkEv e = 0) (hk : e.kind = 12) : sysDo a e = sysScale a e := by unfold sysDo; rw [if_neg (by simp [h]), if_neg (by omega), if_neg (by omega), if_neg (by omega), if_neg (by omega), if_neg (by omega), if_neg (by omega), if_neg (by omega), if_neg (by omega), if_neg (by omega), if_pos hk]
theorem zfP {a : ASys} {e : AEv} (h : chkEv e = 0) (hk : e.kind = 13) : sysDo a e = sysPods a e := by unfold sysDo; rw [if_neg (by simp [h]), if_neg (by omega), if_neg (by omega), if_neg (by omega), if_neg (by omega), if_neg (by omega), if_neg (by omega), if_neg (by omega), if_neg (by omega), if_neg (by omega), if_neg (by omega), if_pos hk]
end Go.Proofs.YtkebppklbobjcaaGreatDoor
namespace Go.Proofs.YtkebppklbobjcaaGreatDoor
open Go.Dm
attribute [local irreducible] L.load L.store L.chk L.new L.nonnil L.guard L.ite L.draw L.idx L.sem L.semR L.semU L.chkSem L.next L.call L.callV L.join L.alts L.loop L.begin L.endRound L.range
variable {w0 w : World} {E : List Seg}
theorem zpw {F : AFleet} (ok : F.Ok) (id : Int) : (fUpp F id).1.Ok := by
 unfold fUpp
 split
 ·exact ok
 ·rename_i x hx
  refine ok.upd hx _ ?_ fun q hq => .inl (by rwa [zj7] at hq)
  have := ok.live x (z4r hx).1
  unfold podUp
  split
  ·dsimp only; omega
  ·exact .inr (.inl rfl)
theorem shrinkR (rev : ByteArray) : ∀ {n : Nat} {F : AFleet}, (shrink rev n F).1.last = F.last ∧ (shrink rev n F).1.room = F.room
 | 0, F => ⟨rfl, rfl⟩
 | n + 1, F => by simp only [shrink]; exact shrinkR rev (n := n) (F := drain1 rev F)
theorem zjS (F : AFleet) (rev : ByteArray) (conc want : Int) : (fScale F rev conc want).1.room = F.room := by
 unfold fScale fGrown
 rw [(shrinkR rev).2, zbF]
theorem znm {F : AFleet} {rev : ByteArray} {conc : Int} (n : Nat) (ok : F.Ok) (h1 : F.l.length + n < 100000000) (h2 : F.last + n < 4611686018427387904) : (grow rev conc n F).Ok := by
 induction n with
 | zero => exact ok
 | succ n ih =>
  refine zjm (ih (by omega) (by omega)) ?_ ?_
  ·rw [zbG]; omega
  ·rw [zbH]; omega
theorem zdV {rev : ByteArray} : ∀ {n : Nat} {F : AFleet}, F.Ok → n ≤ fCount F.l rev → (∀ x ∈ (shrink rev n F).2, 0 ≤ x ∧ x ≤ F.last) ∧ (shrink rev n F).2.length = n
 | 0, F, _, _ => ⟨(by intro x hx; cases hx), rfl⟩
 | n + 1, F, ok, h => by
  have h1 := zhu ok (rev := rev) (by omega)
  have h2 := zcZ ok (rev := rev) (by omega)
  obtain ⟨a, b⟩ := zdV (rev := rev) (n := n) h1 (by omega)
  obtain ⟨y, hy, -, -⟩ := zbw (rev := rev) ok (by omega)
  obtain ⟨hm, hid⟩ := z4r hy
  have hr := ok.rng y hm
  simp only [shrink]
  refine ⟨fun x hx => ?_, by rw [List.length_cons, b]⟩
  rcases List.mem_cons.1 hx with rfl | hx
  ·rw [← hid]; omega
  ·exact a x hx
theorem zjT {F : AFleet} (ok : F.Ok) {rev : ByteArray} {conc want : Int} (hl : (F.l.length : Int) ≤ 1000) (hr : F.room ≤ 1000) (hla : F.last ≤ 1000000000) : (∀ x ∈ (fScale F rev conc want).2, 0 ≤ x ∧ x ≤ F.last + 1000) ∧ (fScale F rev conc want).2.length ≤ 2000 := by
 have hn := zdL F rev want
 have okg : (fGrown F rev conc want).Ok := znm _ ok (by omega) (by omega)
 have hsn : shrinkN (fGrown F rev conc want) rev want ≤ fCount (fGrown F rev conc want).l rev := by
  have := zjN (fGrown F rev conc want) rev want
  omega
 have hs := zdV okg hsn
 have hll : (fGrown F rev conc want).last = F.last + growN F rev want := zbH ..
 have hcl := zbL (fGrown F rev conc want).l (rev := rev)
 have hgl : (fGrown F rev conc want).l.length = F.l.length + growN F rev want := zbG ..
 unfold fScale
 refine ⟨fun x hx => ?_, ?_⟩
 ·have := hs.1 x hx
  omega
 ·rw [hs.2]; omega
theorem zky [bTab w0] (h : St w0 E w) (i : Nat) {b : Nat} {a : ASys} {s : Seg} (hi : nth E i = some s) (hs : SysS b a s) {e : AEv} (hn : bkHas a.bk e.name = false) {k : Sl → PT} (hk : Hk w0 E i b (sysPods a e) k) : z2t (some ⟨b, 0, none⟩) e.t (slK k) w := by
 have hs0 := hs
 obtain ⟨p, sg, sf, ss, sk, sr, sm, Q, R, rfl⟩ := hs
 unfold z2t
 unfold sysPods at hk
 have h := (h.front i hi).split8
 refine nw h ?_; clear h; (try clear w); intro b1 w h
 refine z22 (fun (z : Addr × Bool × Unit) w => ∃ b8 : Nat, z = (⟨b8, 0, none⟩, bkHas a.bk e.name, ()) ∧ St w0 (sysC b p a.now :: sg :: sf :: ss :: sk :: sr :: sm :: (Q.map BsE.sg).flatten :: delN E i) w) (fun k2 hk2 => ?_) ?_
 ·(dsimp only [setN, List.cons_append, List.nil_append] at h; refine dr h ?_; clear h; (try clear w); intro w h; refine nn ?_; refine ldC h ?_; refine ldC h ?_)
  refine alts2 ?_ ?_
  ·refine zer h 5 rfl R.bk fun w h => ?_
   refine nw h ?_; clear h; (try clear w); intro b8 w h
   (refine ckC h ?_; refine ckC h ?_; refine stC h ?_; clear h; (try clear w); intro w h; dsimp only [putN, setN] at h)
   exact hk2 _ w ⟨b8, rfl, dl0_ (dl0_ h)⟩
  ·refine nw h ?_; clear h; (try clear w); intro b8 w h
   (refine ckC h ?_; refine ckC h ?_)
   refine zer h 6 rfl R.bk fun w h => ?_
   (refine stC h ?_; clear h; (try clear w); intro w h; dsimp only [putN, setN] at h)
   exact hk2 _ w ⟨b8, rfl, dl0_ (dl0_ h)⟩
 clear h; (try clear w)
 rintro z w ⟨b8, rfl, h⟩
 (try dsimp only)
 refine itT (by simp [hn]) ?_
 rw [if_pos hn] at hk
 refine z5C h fun v s w r h => ?_
 exact ⟨v, rfl, hk v s _ w r hs0 (sysBack i hi h)⟩
structure EvIn (w0 : World) (E : List Seg) (i : Nat) (e : AEv) : Prop where
 rd : RdE w0 (delN E i) eT e.v e.r.ts
 hvc : e.v.len ≤ e.v.cap
 h0 : e.v.a = none → e.r.ts = []
 hrv : ∀ t ∈ e.r.ts, revOk t.1
 hn : e.kind = 12 ∨ e.kind = 13 → RevN e.name
theorem EvIn.plain {i : Nat} {e : AEv} (hv : e.v = noSl) (hr : e.r = noRt15) (hk : e.kind = 12 ∨ e.kind = 13 → RevN e.name) : EvIn w0 E i e := by
 refine ⟨fun _ _ => ?_, ?_, fun _ => ?_, ?_, hk⟩
 ·rw [hv, hr]; exact Rd.nil
 ·rw [hv]; exact Nat.le_refl 0
 ·rw [hr]; rfl
 ·rw [hr]; intro t ht; cases ht
abbrev HkI (w0 : World) (E : List Seg) (i b k0 : Nat) (r : ASys × List ByteArray) (k : Sl → PT) : Prop :=
 ∀ v sv s' w', Rw eS z00 1 v r.2 sv → SysS b r.1 s' → SInv k0 r.1 → St w0 (sv :: setN E i s') w' → k v w'
theorem zr9 [bTab w0] (h : St w0 E w) (i : Nat) {b : Nat} {a : ASys} {s : Seg} (hi : nth E i = some s) (hs : SysS b a s) {e : AEv} (hb : chkEv e = 0) (hc : e.kind = 1) (ev : EvIn w0 E i e) {k0 : Nat} (inv : SInv k0 a) (hk0 : k0 ≤ 9000) (hn : a.sh.n < 99) {k : Sl → PT} (hk : HkI w0 E i b (k0 + 2) (sysDo a e) k) :
  L.call Pr z08 [.pointer (some ⟨b, 0, none⟩), evV e] (.one (.one .slice)) k w := by
 have ok := hs.ok
 have rd' : RdE w0 E eT e.v e.r.ts := fun w h => ev.rd w (h.del i hi)
 have i2 : SInv (k0 + 2) (sysDo a e).1 := by rw [zfS hb hc]; exact (zkf ok inv e).mono (Nat.le_succ _)
 have hkk : Hk w0 E i b (sysDo a e) k := fun v sv s' w' r hs' h => hk v sv s' w' r hs' i2 h
 clear hk
 have hlast := inv.fl.last
 have hlen := inv.fl.few.l
 have hroom := inv.fl.few.r
 unfold podsMost at hroom
 have hall := inv.gt.all
 have hlines := inv.gt.lines
 have hgr := inv.gt.room
 have hpat := inv.gt.pat
 have hnow := inv.now
 have hbl := inv.bk.len
 have hr1 := inv.fl.r1
 have rn := ev.hn
 rw [zfS hb hc] at hkk
 exact zkA h i hi hs hc hb rd' ev.hvc ev.hrv (by omega) (by have := z6S (z6W (zqV hb hc)).1; omega) hkk
theorem zr8 [bTab w0] (h : St w0 E w) (i : Nat) {b : Nat} {a : ASys} {s : Seg} (hi : nth E i = some s) (hs : SysS b a s) {e : AEv} (hb : chkEv e = 0) (hc : e.kind = 2) (ev : EvIn w0 E i e) {k0 : Nat} (inv : SInv k0 a) (hk0 : k0 ≤ 9000) (hn : a.sh.n < 99) {k : Sl → PT} (hk : HkI w0 E i b (k0 + 2) (sysDo a e) k) :
  L.call Pr z08 [.pointer (some ⟨b, 0, none⟩), evV e] (.one (.one .slice)) k w := by
 have ok := hs.ok
 have rd' : RdE w0 E eT e.v e.r.ts := fun w h => ev.rd w (h.del i hi)
 have i2 : SInv (k0 + 2) (sysDo a e).1 := by rw [zic hb hc]; exact (zlH inv e).mono (Nat.le_succ _)
 have hkk : Hk w0 E i b (sysDo a e) k := fun v sv s' w' r hs' h => hk v sv s' w' r hs' i2 h
 clear hk
 have hlast := inv.fl.last
 have hlen := inv.fl.few.l
 have hroom := inv.fl.few.r
 unfold podsMost at hroom
 have hall := inv.gt.all
 have hlines := inv.gt.lines
 have hgr := inv.gt.room
 have hpat := inv.gt.pat
 have hnow := inv.now
 have hbl := inv.bk.len
 have hr1 := inv.fl.r1
 have rn := ev.hn
 rw [zic hb hc] at hkk
 exact zmu h i hi hs hc hb ev.rd ev.hvc ev.h0 ev.hrv (by omega) (by have := z6S (zgR (zqU hb hc)).1.1; omega) inv.sh.few hkk
theorem zr7 [bTab w0] (h : St w0 E w) (i : Nat) {b : Nat} {a : ASys} {s : Seg} (hi : nth E i = some s) (hs : SysS b a s) {e : AEv} (hb : chkEv e = 0) (hc : e.kind = 4) (ev : EvIn w0 E i e) {k0 : Nat} (inv : SInv k0 a) (hk0 : k0 ≤ 9000) (hn : a.sh.n < 99) {k : Sl → PT} (hk : HkI w0 E i b (k0 + 2) (sysDo a e) k) :
  L.call Pr z08 [.pointer (some ⟨b, 0, none⟩), evV e] (.one (.one .slice)) k w := by
 have ok := hs.ok
 have rd' : RdE w0 E eT e.v e.r.ts := fun w h => ev.rd w (h.del i hi)
 have i2 : SInv (k0 + 2) (sysDo a e).1 := by rw [zcx hb hc]; exact (zkg ok inv (zhx hb (by omega)).1).mono (Nat.le_succ _)
 have hkk : Hk w0 E i b (sysDo a e) k := fun v sv s' w' r hs' h => hk v sv s' w' r hs' i2 h
 clear hk
 have hlast := inv.fl.last
 have hlen := inv.fl.few.l
 have hroom := inv.fl.few.r
 unfold podsMost at hroom
 have hall := inv.gt.all
 have hlines := inv.gt.lines
 have hgr := inv.gt.room
 have hpat := inv.gt.pat
 have hnow := inv.now
 have hbl := inv.bk.len
 have hr1 := inv.fl.r1
 have rn := ev.hn
 rw [zcx hb hc] at hkk
 have hid := (zhx hb (by omega)).1
 have hd := znC hb hc
 refine zkB h i hi hs hc hb rd' ev.hvc ev.hrv (by omega) (fun x hx => (inv.ro _ x hx).ok (by omega)) ?_ inv.fl.few (by omega) (by omega) (by omega) (zlS (by omega) ok.fl inv.fl hid _ _) ?_ hkk
 ·unfold roTab
  cases hg : mget a.ro e.name with
  | none => intro s hs; cases hs
  | some x => exact (inv.ro _ x hg).ns
 ·unfold bnd
  split
  ·decide
  ·cases hg : mget a.ro e.name with
   | none => rename_i hh; rw [hg] at hh; exact absurd rfl hh
   | some x =>
    have w := inv.ro _ x hg
    split
    ·unfold tPick roTab
     rw [hg]
     have : ∀ (l : List Shr) (d : Int), (∀ s ∈ l, s.1.size ≤ 100) → (pickL l d).size ≤ 100 := by
      intro l
      induction l with
      | nil => intro d _; show s_.size ≤ 100; decide
      | cons s l ih =>
       intro d hl
       unfold pickL
       split
       ·exact hl s (by simp)
       ·exact ih _ fun y hy => hl y (by simp [hy])
     have := this x.ns (e.draw % 100) w.zn
     dsimp only; omega
    ·unfold roTab
     rw [hg]
     have : ∀ (l : List Tgo), (∀ s ∈ l, s.1.size ≤ 100 ∧ s.2.1.size ≤ 100) → (tagL l e.tag).1.size ≤ 100 := by
      intro l
      induction l with
      | nil => intro _; show s_.size ≤ 100; decide
      | cons s l ih =>
       intro hl
       unfold tagL
       split
       ·exact (hl s (by simp)).2
       ·exact ih fun y hy => hl y (by simp [hy])
     have := this x.ng w.zg
     dsimp only; omega
theorem zr6 [bTab w0] (h : St w0 E w) (i : Nat) {b : Nat} {a : ASys} {s : Seg} (hi : nth E i = some s) (hs : SysS b a s) {e : AEv} (hb : chkEv e = 0) (hc : e.kind = 5) (ev : EvIn w0 E i e) {k0 : Nat} (inv : SInv k0 a) (hk0 : k0 ≤ 9000) (hn : a.sh.n < 99) {k : Sl → PT} (hk : HkI w0 E i b (k0 + 2) (sysDo a e) k) :
  L.call Pr z08 [.pointer (some ⟨b, 0, none⟩), evV e] (.one (.one .slice)) k w := by
 have ok := hs.ok
 have rd' : RdE w0 E eT e.v e.r.ts := fun w h => ev.rd w (h.del i hi)
 have i2 : SInv (k0 + 2) (sysDo a e).1 := by rw [zdR hb hc]; exact znl ok inv (by omega) (zhx hb (by omega)).1
 have hkk : Hk w0 E i b (sysDo a e) k := fun v sv s' w' r hs' h => hk v sv s' w' r hs' i2 h
 clear hk
 have hlast := inv.fl.last
 have hlen := inv.fl.few.l
 have hroom := inv.fl.few.r
 unfold podsMost at hroom
 have hall := inv.gt.all
 have hlines := inv.gt.lines
 have hgr := inv.gt.room
 have hpat := inv.gt.pat
 have hnow := inv.now
 have hbl := inv.bk.len
 have hr1 := inv.fl.r1
 have rn := ev.hn
 rw [zdR hb hc] at hkk
 have hid := (zhx hb (by omega)).1
 exact znT h i hi hs hc hb rd' ev.hvc ev.hrv inv.fl.few (by omega) (by omega) (ziv ok.fl (by omega) inv.fl inv.gt hid) (zlQ ok.gt (by omega) hgr.2 _) hkk
theorem zr5 [bTab w0] (h : St w0 E w) (i : Nat) {b : Nat} {a : ASys} {s : Seg} (hi : nth E i = some s) (hs : SysS b a s) {e : AEv} (hb : chkEv e = 0) (hc : e.kind = 6) (ev : EvIn w0 E i e) {k0 : Nat} (inv : SInv k0 a) (hk0 : k0 ≤ 9000) (hn : a.sh.n < 99) {k : Sl → PT} (hk : HkI w0 E i b (k0 + 2) (sysDo a e) k) :
  L.call Pr z08 [.pointer (some ⟨b, 0, none⟩), evV e] (.one (.one .slice)) k w := by
 have ok := hs.ok
 have rd' : RdE w0 E eT e.v e.r.ts := fun w h => ev.rd w (h.del i hi)
 have i2 : SInv (k0 + 2) (sysDo a e).1 := by rw [zib hb hc]; exact (zpX ok inv e).mono (Nat.le_succ _)
 have hkk : Hk w0 E i b (sysDo a e) k := fun v sv s' w' r hs' h => hk v sv s' w' r hs' i2 h
 clear hk
 have hlast := inv.fl.last
 have hlen := inv.fl.few.l
 have hroom := inv.fl.few.r
 unfold podsMost at hroom
 have hall := inv.gt.all
 have hlines := inv.gt.lines
 have hgr := inv.gt.room
 have hpat := inv.gt.pat
 have hnow := inv.now
 have hbl := inv.bk.len
 have hr1 := inv.fl.r1
 have rn := ev.hn
 rw [zib hb hc] at hkk
 have hid := (zhx hb (by omega)).1
 have hu := inv.fl.up e.n
 have hsz : (fOf (fUpp a.fl e.n).1.l e.n).size ≤ 100 := by
  unfold fOf
  cases hf : fFind (fUpp a.fl e.n).1.l e.n with
  | none => show s_.size ≤ 100; decide
  | some x => exact (hu.rev x (z4r hf).1).size
 have hu' : (fUpp a.fl e.n).1.Ok := zpw ok.fl e.n
 refine zqv h i hi hs hc hb rd' ev.hvc ev.hrv ⟨by omega, by omega⟩ (by omega) hu.few (by omega) (by omega) (zee (by omega) hu' hu inv.gt _) ?_ hkk
 have := (zed (F := (fUpp a.fl e.n).1) ok.gt (fOf (fUpp a.fl e.n).1.l e.n)).1
 show (gFlow (fUpp a.fl e.n).1 a.gt (fOf (fUpp a.fl e.n).1.l e.n)).2.2.length < 100000000
 omega
theorem zqy [bTab w0] (h : St w0 E w) (i : Nat) {b : Nat} {a : ASys} {s : Seg} (hi : nth E i = some s) (hs : SysS b a s) {e : AEv} (hb : chkEv e = 0) (hc : e.kind = 10) (ev : EvIn w0 E i e) {k0 : Nat} (inv : SInv k0 a) (hk0 : k0 ≤ 9000) (hn : a.sh.n < 99) {k : Sl → PT} (hk : HkI w0 E i b (k0 + 2) (sysDo a e) k) :
  L.call Pr z08 [.pointer (some ⟨b, 0, none⟩), evV e] (.one (.one .slice)) k w := by
 have ok := hs.ok
 have rd' : RdE w0 E eT e.v e.r.ts := fun w h => ev.rd w (h.del i hi)
 have i2 : SInv (k0 + 2) (sysDo a e).1 := by rw [zfR hb hc]; exact (zlG ok inv (by omega) e).mono (Nat.le_succ _)
 have hkk : Hk w0 E i b (sysDo a e) k := fun v sv s' w' r hs' h => hk v sv s' w' r hs' i2 h
 clear hk
 have hlast := inv.fl.last
 have hlen := inv.fl.few.l
 have hroom := inv.fl.few.r
 unfold podsMost at hroom
 have hall := inv.gt.all
 have hlines := inv.gt.lines
 have hgr := inv.gt.room
 have hpat := inv.gt.pat
 have hnow := inv.now
 have hbl := inv.bk.len
 have hr1 := inv.fl.r1
 have rn := ev.hn
 rw [zfR hb hc] at hkk
 refine zmt h i hi hs hc hb rd' ev.hvc ev.hrv (fun hh => ?_) (by omega) hkk
 have hs := zdW ok.sh inv.sh hh
 have hnum := z6W hs.1
 exact ⟨hnum.1, hs.2.1, by omega, by omega⟩
theorem zqx [bTab w0] (h : St w0 E w) (i : Nat) {b : Nat} {a : ASys} {s : Seg} (hi : nth E i = some s) (hs : SysS b a s) {e : AEv} (hb : chkEv e = 0) (hc : e.kind = 11) (ev : EvIn w0 E i e) {k0 : Nat} (inv : SInv k0 a) (hk0 : k0 ≤ 9000) (hn : a.sh.n < 99) {k : Sl → PT} (hk : HkI w0 E i b (k0 + 2) (sysDo a e) k) :
  L.call Pr z08 [.pointer (some ⟨b, 0, none⟩), evV e] (.one (.one .slice)) k w := by
 have ok := hs.ok
 have rd' : RdE w0 E eT e.v e.r.ts := fun w h => ev.rd w (h.del i hi)
 have i2 : SInv (k0 + 2) (sysDo a e).1 := by rw [zfQ hb hc]; exact znk ok inv e
 have hkk : Hk w0 E i b (sysDo a e) k := fun v sv s' w' r hs' h => hk v sv s' w' r hs' i2 h
 clear hk
 have hlast := inv.fl.last
 have hlen := inv.fl.few.l
 have hroom := inv.fl.few.r
 unfold podsMost at hroom
 have hall := inv.gt.all
 have hlines := inv.gt.lines
 have hgr := inv.gt.room
 have hpat := inv.gt.pat
 have hnow := inv.now
 have hbl := inv.bk.len
 have hr1 := inv.fl.r1
 have rn := ev.hn
 rw [zfQ hb hc] at hkk
 have hr := zf8 inv.sh e.name
 have ht := zdY ok.bk inv.bk hr.1 hr.2.1
 have hno := zlx (k := k0 + 1) (inv.mono (Nat.le_succ k0)).ro e.name ht hnow (shRt a.sh e.name).1.roll (by omega)
 refine znS h i hi hs hc hb rd' ev.hvc ev.hrv inv.sh.few (by have := znB hb (by omega); omega) (fun t ht => by have := (hr.2.1 t ht).1; omega) (by omega) (by omega) (fun x hx => (inv.ro _ x hx).ok (by omega)) (fun x hx => by have := (inv.ro _ x hx).since; omega) (by omega) ht.w (by have := hno.2.2; show (nowOf a.ro e.name (resolve a.bk (shRt a.sh e.name).1).1 a.now (shRt a.sh e.name).1.roll).sh.length < 100000; omega) ?_ hkk
 exact zjM hno.1 hno.2.1 ht.zg (Nat.add_le_add hno.2.2 ht.lg) (by omega)
theorem zqw [bTab w0] (h : St w0 E w) (i : Nat) {b : Nat} {a : ASys} {s : Seg} (hi : nth E i = some s) (hs : SysS b a s) {e : AEv} (hb : chkEv e = 0) (hc : e.kind = 13) (ev : EvIn w0 E i e) {k0 : Nat} (inv : SInv k0 a) (hk0 : k0 ≤ 9000) (hn : a.sh.n < 99) {k : Sl → PT} (hk : HkI w0 E i b (k0 + 2) (sysDo a e) k) :
  L.call Pr z08 [.pointer (some ⟨b, 0, none⟩), evV e] (.one (.one .slice)) k w := by
 have ok := hs.ok
 have rd' : RdE w0 E eT e.v e.r.ts := fun w h => ev.rd w (h.del i hi)
 have i2 : SInv (k0 + 2) (sysDo a e).1 := by rw [zfP hb hc]; exact (znj inv e).mono (Nat.le_succ _)
 have hkk : Hk w0 E i b (sysDo a e) k := fun v sv s' w' r hs' h => hk v sv s' w' r hs' i2 h
 clear hk
 have hlast := inv.fl.last
 have hlen := inv.fl.few.l
 have hroom := inv.fl.few.r
 unfold podsMost at hroom
 have hall := inv.gt.all
 have hlines := inv.gt.lines
 have hgr := inv.gt.room
 have hpat := inv.gt.pat
 have hnow := inv.now
 have hbl := inv.bk.len
 have hr1 := inv.fl.r1
 have rn := ev.hn
 rw [zfP hb hc] at hkk
 have hnm := rn (.inr hc)
 by_cases hh : bkHas a.bk e.name = true
 ·have hc2 := (z6W (inv.bk.cfg _ (zbO hh))).2.2.1
  have hcc : pdConc a e.name ≤ 1000 := Int.le_trans hc2.2 (by decide)
  have hsc := inv.fl.scale hnm hcc (pdWant a e.name)
  have hgl := hsc.few.l
  have hgr2 : (fScale a.fl e.name (pdConc a e.name) (pdWant a e.name)).1.room = a.fl.room := zjS ..
  have hgo := zjT ok.fl (rev := e.name) (conc := pdConc a e.name) (want := pdWant a e.name) (by omega) (by omega) (by omega)
  refine znR h i hi hs hc hnm hb rd' ev.hvc ev.hrv (by omega) (by omega) (by have := hnm.size; omega) (fun x hx => ?_) ?_ (fun x hx => ?_) ?_ ?_ hkk
  ·unfold fMade at hx
   obtain ⟨j, hj, rfl⟩ := List.mem_map.1 hx
   rw [List.mem_range] at hj
   have := zdL a.fl e.name (pdWant a e.name)
   have := ok.fl.lo
   omega
  ·unfold fMade
   rw [List.length_map, List.length_range]
   have := zdL a.fl e.name (pdWant a e.name)
   omega
  ·have := hgo.1 x hx; omega
  ·have := hgo.2; omega
  ·unfold fPods
   rw [List.length_map]
   have : (revs (pdFl a e.name).l e.name).length ≤ (pdFl a e.name).l.length := List.length_filter_le ..
   unfold pdFl at this ⊢
   omega
 ·exact zeX h i hi hs hb rn rd' ev.hvc ev.hrv (f := z1t) (by rw [hc]; rfl) z6F (z6G (some ⟨b, 0, none⟩) e.t) (fun h hi _ hk => zky h _ hi hs (by simpa using hh) hk) hkk
class Kn (w0 : World) (ks : Int → Bool) : Prop where
 dos : ∀ {E : List Seg} {w : World}, St w0 E w → ∀ (i : Nat) {b : Nat} {a : ASys} {s : Seg}, nth E i = some s → SysS b a s → ∀ {e : AEv}, ks e.kind = true → chkEv e = 0 → EvIn w0 E i e → ∀ {k0 : Nat}, SInv k0 a → k0 ≤ 9000 → a.sh.n < 99 → ∀ {k : Sl → PT}, HkI w0 E i b (k0 + 2) (sysDo a e) k →
  L.call Pr z08 [.pointer (some ⟨b, 0, none⟩), evV e] (.one (.one .slice)) k w
theorem zr4 {ks : Int → Bool} [K : Kn w0 ks] (h : St w0 E w) (i : Nat) {b : Nat} {a : ASys} {s : Seg} (hi : nth E i = some s) (hs : SysS b a s) {e : AEv} (hks : ks e.kind = true) (hb : chkEv e = 0) (ev : EvIn w0 E i e) {k0 : Nat} (inv : SInv k0 a) (hk0 : k0 ≤ 9000) (hn : a.sh.n < 99) {k : Sl → PT} (hk : HkI w0 E i b (k0 + 2) (sysDo a e) k) :
  L.call Pr z08 [.pointer (some ⟨b, 0, none⟩), evV e] (.one (.one .slice)) k w := K.dos h i hi hs hks hb ev inv hk0 hn hk
theorem zpy : Pr.underlying zhD = some (.slice zem) := by kernel_rfl
theorem zpx : Pr.underlying zem = some (.int .u8) := by kernel_rfl
theorem znW (n : Nat) : ∀ {g : Nat} {E : List Seg} {w : World} {k : ByteArray → PT}, g ≤ n → g ≤ 9000000000000000000 → St w0 E w → (∀ w', St w0 E w' → k (decD g) w') → L.call Pr z0I [I g] (.one (.one .str)) k w := by
 induction n using Nat.strongRecOn with
 | _ n ih =>
  intro g E w k hgn hg h hk
  refine z01 (zbj _) ?_
  unfold z7o
  refine itF (decide_eq_false (by omega)) ?_
  refine it (fun hc => ?_) (fun hc => ?_)
  ·have hc : 10 ≤ g := by have := of_decide_eq_true hc; omega
   have e1 : IntKind.wrap .i64 (Int.tdiv (g : Int) 10) = ((g / 10 : Nat) : Int) := by
    rw [Int.tdiv_eq_ediv_of_nonneg (by omega), wr (by omega) (by omega)]; rfl
   have e2 : Int.tmod (g : Int) 10 = ((g % 10 : Nat) : Int) := by
    rw [Int.tmod_eq_emod_of_nonneg (by omega)]; rfl
   rw [e1, e2]
   have s1 := z8P (g % 10)
   have s2 : (decD (g / 10)).size ≤ 100 := by
    have := zge (x := ((g / 10 : Nat) : Int)) (by omega) (by omega)
    rw [Int.toNat_natCast] at this
    exact this
   refine gd (by decide) ?_
   refine ih (g / 10) (by omega) (Nat.le_refl _) (by omega) h fun w h => ?_
   refine gd (by decide) ?_
   refine ih (g % 10) (by omega) (Nat.le_refl _) (by omega) h fun w h => ?_
   refine gd (by simp only [maxI64]; omega) ?_
   refine ⟨_, rfl, ?_⟩
   rw [← zm4 hc]
   exact hk w h
  ·have hc : g < 10 := by have := of_decide_eq_false hc; omega
   refine nw h ?_; clear h; (try clear w); intro b4 w h
   have e1 : IntKind.wrap .u8 (IntKind.wrap .i64 (48 + (g : Int))) = ((48 + g : Nat) : Int) := by
    have : g = 0 ∨ g = 1 ∨ g = 2 ∨ g = 3 ∨ g = 4 ∨ g = 5 ∨ g = 6 ∨ g = 7 ∨ g = 8 ∨ g = 9 := by omega
    rcases this with rfl | rfl | rfl | rfl | rfl | rfl | rfl | rfl | rfl | rfl <;> rfl
   rw [e1] at h
   have hr : Rw eU zem 1 ⟨some ⟨b4, 0, none⟩, 1, 1⟩ [UInt8.ofNat (48 + g)] [Cl b4 zem [.int .u8 ((48 + g : Nat) : Int)]] := by
    refine Rw.lit b4 [UInt8.ofNat (48 + g)] encU ?_ rfl (by simp [maxLen])
    have : g = 0 ∨ g = 1 ∨ g = 2 ∨ g = 3 ∨ g = 4 ∨ g = 5 ∨ g = 6 ∨ g = 7 ∨ g = 8 ∨ g = 9 := by omega
    rcases this with rfl | rfl | rfl | rfl | rfl | rfl | rfl | rfl | rfl | rfl <;> rfl
   refine cvBS zpy zpx z5j (Rw.rd encU h 0 rfl hr) ?_
   refine ⟨_, rfl, ?_⟩
   have e2 : (⟨[UInt8.ofNat (48 + g)].toArray⟩ : ByteArray) = decD g := by unfold decD; rw [Lib.decDigits_one hc]
   rw [e2]
   exact hk w (dl0_ h)
theorem z8p (h : St w0 E w) {x : Int} (h0 : 0 ≤ x) (h1 : x ≤ 9000000000000000000) {k : ByteArray → PT} (hk : ∀ w', St w0 E w' → k (decD x.toNat) w') : L.call Pr z0I [I x] (.one (.one .str)) k w := by
 obtain ⟨g, rfl⟩ : ∃ g : Nat, x = (g : Int) := ⟨x.toNat, by omega⟩
 rw [Int.toNat_natCast] at hk
 exact znW g (Nat.le_refl _) (by omega) h hk
end Go.Proofs.YtkebppklbobjcaaGreatDoor
namespace Go.Proofs.YtkebppklbobjcaaGreatDoor
open Go.Dm
def cW (k : Int) : Cfg := (z3k, k, 1, 0, 1, 0, ())
structure GI (a : ASys) (ver gen : Nat) (last : Int) : Prop where
 n : a.sh.n = ver
 sh : (ver = 0 ∧ gen = 0 ∧ last = -1 ∧ (tget a.sh.m z3k).is = false ∧ (tget a.sh.m z3k).gen = 0) ∨ (0 < ver ∧ 0 ≤ last ∧ 0 < gen ∧ tget a.sh.m z3k = thgOf (cW last) ver gen true)
 gl : gen ≤ ver
 bk : ∀ g, 1 ≤ g → g < 100 → (bkHas a.bk (revB z3k g) = true ↔ g ≤ gen)
 len : a.bk.all.length = gen
theorem zpL {a : AShelf} {c : Cfg} {ver : Int} (h1 : specC c = 0) (h2 : mayC (tget a.m c.1) ver true = 0) : shPut a c ver = (⟨putC a.m c.1 c (a.n + 1), a.r, a.n + 1⟩, a.n + 1, 0) := by
 unfold shPut; rw [if_neg (by simpa using h1), if_neg (by simpa using h2)]
theorem z4W (w x : ByteArray) : lineB w [x] = (w ++ spB) ++ x := by unfold lineB; rw [z8k, zbD]
end Go.Proofs.YtkebppklbobjcaaGreatDoor
namespace Go.Proofs.YtkebppklbobjcaaGreatDoor
open Go.Dm
attribute [local irreducible] L.load L.store L.chk L.new L.nonnil L.guard L.ite L.draw L.idx L.sem L.semR L.semU L.chkSem L.next L.call L.callV L.join L.alts L.loop L.begin L.endRound L.range
variable {w0 w : World} {E : List Seg}
def eEv (e : AEv) : List Value := [I e.kind, .string e.name, .string e.tag, I e.n, I e.draw, .string e.c.1, I e.c.2.1, I e.c.2.2.1, I e.c.2.2.2.1, I e.c.2.2.2.2.1, I e.c.2.2.2.2.2.1, .string e.r.name, .string e.r.cfg, .slice e.v.a e.v.len e.v.cap, I e.r.roll]
theorem encEv : Enc eEv 15 := ⟨fun _ => rfl, fun _ => rfl, by decide⟩
def sysRun (a : ASys) (l : List AEv) : ASys := l.foldl (fun a e => (sysDo a e).1) a
def sysOuts : ASys → List AEv → List (List ByteArray)
 | _, [] => []
 | a, e :: l => (sysDo a e).2 :: sysOuts (sysDo a e).1 l
theorem z8x (a : ASys) (e : AEv) (l : List AEv) : sysRun a (e :: l) = sysRun (sysDo a e).1 l := rfl
theorem zf7 (a : ASys) : sysRun a [] = a := rfl
theorem z7L (a : ASys) (e : AEv) (l : List AEv) : sysOuts a (e :: l) = (sysDo a e).2 :: sysOuts (sysDo a e).1 l := rfl
theorem zia (a : ASys) : sysOuts a [] = [] := rfl
theorem zi9 {a : ASys} {l : List AEv} {j : Nat} {e : AEv} (h : l[j]? = some e) : sysRun a (l.take (j + 1)) = (sysDo (sysRun a (l.take j)) e).1 := by
 unfold sysRun
 rw [List.take_succ, h, Option.toList_some, List.foldl_append]
 rfl
theorem zdQ : ∀ {l : List AEv} {a : ASys} {j : Nat} {e : AEv}, l[j]? = some e → (sysOuts a l)[j]? = some (sysDo (sysRun a (l.take j)) e).2
 | [], _, _, _, h => by simp at h
 | x :: l, a, 0, e, h => by
  simp only [List.getElem?_cons_zero, Option.some.injEq] at h
  subst h; rfl
 | x :: l, a, j + 1, e, h => by
  simp only [List.getElem?_cons_succ] at h
  rw [z7L, List.getElem?_cons_succ, zdQ h]
  rfl
theorem zmN (a : AShelf) (kind : Int) (n : ByteArray) (v : Int) : (shDrop a kind n v).1.n ≤ a.n + 1 := by
 unfold shDrop
 repeat' split
 all_goals dsimp only; omega
theorem zol (a : ASys) (e : AEv) : (sysDo a e).1.sh.n ≤ a.sh.n + 1 := by
 by_cases hb : chkEv e = 0
 ·rcases zke hb with hc | hc | hc | hc | hc | hc | hc | hc | hc | hc | hc | hc | hc
  ·rw [zfS hb hc]; unfold sysConfig shPut; repeat' split
   all_goals dsimp only; omega
  ·rw [zic hb hc]; unfold sysRoute shPutR; repeat' split
   all_goals dsimp only; omega
  ·rw [zon hb hc]; unfold sysDrop; have := zmN a.sh e.n e.name e.draw; split <;> exact this
  ·rw [zcx hb hc]; unfold sysArrive; split <;> (dsimp only; omega)
  ·rw [zdR hb hc]; unfold sysDone; dsimp only; omega
  ·rw [zib hb hc]; unfold sysUp; split <;> (dsimp only; omega)
  ·rw [zl0 hb (.inl hc)]; unfold sysDown; split <;> (dsimp only; omega)
  ·rw [zl0 hb (.inr hc)]; unfold sysDown; split <;> (dsimp only; omega)
  ·rw [zom hb hc]; unfold sysTick; split <;> (dsimp only; omega)
  ·rw [zfR hb hc]; unfold sysStamp; repeat' split
   all_goals dsimp only; omega
  ·rw [zfQ hb hc]; unfold sysLead; repeat' split
   all_goals dsimp only; omega
  ·rw [zmJ hb hc]; unfold sysScale; repeat' split
   all_goals dsimp only; omega
  ·rw [zfP hb hc]; unfold sysPods; split <;> (dsimp only; omega)
 ·rw [zkZ hb]; dsimp only; omega
theorem zj0 : ∀ (l : List AEv) (a : ASys), (sysRun a l).sh.n ≤ a.sh.n + l.length
 | [], a => by simp [sysRun]
 | e :: l, a => by
  have h1 := zj0 l (sysDo a e).1
  have h2 := zol a e
  rw [z8x, List.length_cons]
  omega
abbrev evW (x : EvT) : Value := .agg #[.int .i64 x.1, .string x.2.1, .string x.2.2.1, .int .i64 x.2.2.2.1, .int .i64 x.2.2.2.2.1, .string x.2.2.2.2.2.1, .int .i64 x.2.2.2.2.2.2.1, .int .i64 x.2.2.2.2.2.2.2.1, .int .i64 x.2.2.2.2.2.2.2.2.1, .int .i64 x.2.2.2.2.2.2.2.2.2.1, .int .i64 x.2.2.2.2.2.2.2.2.2.2.1, .string x.2.2.2.2.2.2.2.2.2.2.2.1, .string x.2.2.2.2.2.2.2.2.2.2.2.2.1, .slice x.2.2.2.2.2.2.2.2.2.2.2.2.2.1.a x.2.2.2.2.2.2.2.2.2.2.2.2.2.1.len x.2.2.2.2.2.2.2.2.2.2.2.2.2.1.cap, .int .i64 x.2.2.2.2.2.2.2.2.2.2.2.2.2.2.1]
abbrev evLs : List Lf := [.int .i64, .str, .str, .int .i64, .int .i64, .str, .int .i64, .int .i64, .int .i64, .int .i64, .int .i64, .str, .str, .slice, .int .i64]
abbrev evB (b : Nat) (l : List AEv) : Seg := [Cl b z0B (fl eEv l)]
theorem znI {ks : Int → Bool} [Kn w0 ks] {b5 sb n : Nat} {l : List AEv} (hn : n = l.length) (hm : n ≤ 1000) {j : Nat} {e : AEv} (he : l[j]? = some e) {a : ASys} {s : Seg} (h : St w0 (s :: evB b5 l :: E) w) (hs : SysS sb a s) (hke : ks e.kind = true ∧ chkEv e = 0) (ev : EvIn w0 (s :: evB b5 l :: E) 0 e)
  {k0 : Nat} (inv : SInv k0 a) (hk0 : k0 ≤ 9000) (hsh : a.sh.n < 99) {k : Sl → PT} (hk : ∀ v sv s' w', Rw eS z00 1 v (sysDo a e).2 sv → SysS sb (sysDo a e).1 s' → SInv (k0 + 2) (sysDo a e).1 → St w0 (sv :: s' :: evB b5 l :: E) w' → k v w') :
  L.idx (some ⟨b5, 0, none⟩) (j : Int) n 15 (fun a8 => L.load (.agg evLs) a8 fun (x : EvT) => L.call Pr z08 [.pointer (some ⟨sb, 0, none⟩), evW x] (.one (.one .slice)) k) w := by
 have hj : j < l.length := by
  rcases Nat.lt_or_ge j l.length with h | h
  ·exact h
  ·rw [List.getElem?_eq_none h] at he; cases he
 have r : Rw eEv z0B 15 ⟨some ⟨b5, 0, none⟩, n, n⟩ l (evB b5 l) := Rw.lit b5 l encEv rfl hn (Nat.le_trans hm (by decide))
 refine Rw.ix encEv r (n := (j : Int)) (by omega) (by rw [Int.toNat_natCast]; exact hj) fun a8 ha => ?_
 rw [Int.toNat_natCast] at ha
 refine Rw.lda encEv h 1 rfl r ha he (y := e.t) rfl ?_
 exact zr4 h 0 rfl hs hke.1 hke.2 ev inv hk0 hsh fun v sv s' w r hs i2 h => hk v sv s' w r hs i2 h
abbrev evC (ver : Int) (c : Cfg) : AEv := ⟨1, s_, s_, ver, 0, c, noRt15, noSl⟩
abbrev evR (ver : Int) (r : ARt) (v : Sl) : AEv := ⟨2, s_, s_, ver, 0, noCfg, r, v⟩
abbrev evAr (n : Int) (name tag : ByteArray) (draw : Int) : AEv := ⟨4, name, tag, n, draw, noCfg, noRt15, noSl⟩
abbrev evN (kind n : Int) : AEv := ⟨kind, s_, s_, n, 0, noCfg, noRt15, noSl⟩
abbrev evNm (kind : Int) (name : ByteArray) : AEv := ⟨kind, name, s_, 0, 0, noCfg, noRt15, noSl⟩
theorem zqa {ver : Int} {c : Cfg} (hv : 0 ≤ ver ∧ ver ≤ 2147483647) (hc : specC c = 0) : chkEv (evC ver c) = 0 := by
 have hn : noneE (true, false, false, false, true, false, ()) (evC ver c) = true := by simp [noneE, bareE, noRt15]
 have hm : numE (evC ver c) = true := by
  simp only [numE, wiB]
  rw [if_pos (.inl trivial)]
  simp only [Bool.and_eq_true, decide_eq_true_eq]
  omega
 unfold chkEv
 have hp : shp 1 = ((true, false, false, false, true, false, ()), true) := rfl
 simp only [hp]
 rw [if_neg (by decide)]
 unfold chkS
 rw [hn, hm]
 simp [hc]
theorem zqW {ver : Int} {r : ARt} {v : Sl} (hv : 0 ≤ ver ∧ ver ≤ 2147483647) (hr : specE r = 0) : chkEv (evR ver r v) = 0 := by
 have hn : noneE (true, false, false, false, false, true, ()) (evR ver r v) = true := by
  have : sameC noCfg noCfg = true := by decide
  simp [noneE, this]
 have hm : numE (evR ver r v) = true := by
  simp only [numE, wiB]
  rw [if_pos (.inr trivial)]
  simp only [Bool.and_eq_true, decide_eq_true_eq]
  omega
 unfold chkEv
 have hp : shp 2 = ((true, false, false, false, false, true, ()), true) := rfl
 simp only [hp]
 rw [if_neg (by decide)]
 unfold chkS
 rw [hn, hm]
 simp [hr]
theorem zoO {kind n : Int} (hk : kind = 5 ∨ kind = 6 ∨ kind = 7 ∨ kind = 8) (hv : 1 ≤ n ∧ n ≤ 2147483647) : chkEv (evN kind n) = 0 := by
 have hn : noneE (true, false, false, false, false, false, ()) (evN kind n) = true := by
  have : sameC noCfg noCfg = true := by decide
  simp [noneE, bareE, noRt15, this]
 have hm : numE (evN kind n) = true := by
  simp only [numE, wiB]
  rw [if_neg (by omega), if_neg (by omega)]
  simp only [Bool.and_eq_true, decide_eq_true_eq]
  omega
 have hp : shp kind = ((true, false, false, false, false, false, ()), true) := by rcases hk with rfl | rfl | rfl | rfl <;> rfl
 unfold chkEv
 simp only [hp]
 rw [if_neg (by decide)]
 unfold chkS
 rw [hn, hm]
 simp
theorem zhy {n draw : Int} {name tag : ByteArray} (hnm : shortB name.data.toList 16 = true) (ht : tag = s_ ∨ shortB tag.data.toList 8 = true) (hv : 1 ≤ n ∧ n ≤ 2147483647) (hd : 0 ≤ draw ∧ draw ≤ 2147483647) : chkEv (evAr n name tag draw) = 0 := by
 have hn : noneE (true, true, true, true, false, false, ()) (evAr n name tag draw) = true := by
  have : sameC noCfg noCfg = true := by decide
  simp [noneE, bareE, noRt15, this]
 have hm : numE (evAr n name tag draw) = true := by
  simp only [numE, wiB]
  rw [if_neg (by decide), if_neg (by decide)]
  simp only [Bool.and_eq_true, decide_eq_true_eq]
  omega
 have hnn : namedE (evAr n name tag draw) = true := by unfold namedE; rw [if_neg (show ¬ ((4 : Int) = 12 ∨ (4 : Int) = 13) by decide)]; exact hnm
 have hdd : wiB draw 0 2147483647 = true := by unfold wiB; simp; omega
 have htt : ¬ (tag ≠ s_ ∧ shortB tag.data.toList 8 = false) := by
  rintro ⟨h1, h2⟩
  rcases ht with e | e
  ·exact h1 e
  ·rw [e] at h2; cases h2
 unfold chkEv
 have hp : shp 4 = ((true, true, true, true, false, false, ()), true) := rfl
 simp only [hp]
 rw [if_neg (by decide)]
 unfold chkS
 rw [hn, hm, hnn, hdd]
 simp only [reduceCtorEq, if_false, and_false, true_and, if_neg htt]
theorem zmR : RevN s_web_1 := ⟨z3k, 1, by decide, by decide, by decide, by decide +kernel⟩
theorem do_C {a : ASys} {ver : Int} {c : Cfg} (hv : 0 ≤ ver ∧ ver ≤ 2147483647) (hc : specC c = 0) (hm : mayC (tget a.sh.m c.1) ver true = 0) :
  sysDo a (evC ver c) = ({ a with sh := ⟨putC a.sh.m c.1 c (a.sh.n + 1), a.sh.r, a.sh.n + 1⟩ }, [lineB (lineB zfY [c.1]) [decD (a.sh.n + 1).toNat]]) := by
 rw [zfS (zqa hv hc) rfl]
 unfold sysConfig
 dsimp only
 rw [zpL hc hm]
 dsimp only
 unfold putB
 rw [if_pos rfl]
end Go.Proofs.YtkebppklbobjcaaGreatDoor
namespace Go.Proofs.YtkebppklbobjcaaGreatDoor
open Go.Dm
abbrev spF (R1 R2 : List Int) : AFleet := ⟨20, 2, [⟨1, s_web_1, ⟨2, 8, R1⟩⟩, ⟨2, zfW, ⟨2, 8, R2⟩⟩]⟩
abbrev spG (all : Alls) : AGate := ⟨all, [(s_web_1, []), (zfW, [])], 8, 50⟩
def spSh (p : Nat) : List Shr := (if 0 < p then [(s_web_1, (p : Int), ())] else []) ++ (if p < 100 then [(zfW, 100 - (p : Int), ())] else [])
abbrev spTg : List Tgo := [(zqQ, zfW, ()), (zqP, s_web_1, ())]
structure SplI (p i : Nat) (a : ASys) : Prop where
 ro : roTab a.ro z0G = ⟨spSh p, spTg⟩
 is : (mget a.ro z0G).isSome = true
 fl : ∃ R1 R2 : List Int, a.fl = spF R1 R2 ∧ R1.length + R2.length = i ∧ (∀ q ∈ R1, q ≤ i) ∧ ∀ q ∈ R2, q ≤ i
 gt : ∃ all, a.gt = spG all ∧ ∀ q : Int, i < q → mget all q = none
 n : a.sh.n = 4
theorem znE {F F' : AFleet} {G : AGate} {id now pod : Int} {rev : ByteArray} (hs : mget G.all id = none) (hr : rev ≠ s_) (hl : lineOf G.lines rev = []) (ht : fTake F rev id = (F', pod, true)) :
  gArr F G id rev now = (F', { G with all := mset G.all id (rev, 1), lines := mset G.lines rev [] }, (id, 1, pod, s_, ())) := by
 unfold gArr gSeen
 rw [hs, if_neg (by simp), if_neg hr, hl, ht, if_pos ⟨rfl, rfl⟩]
theorem zmI {a : ASys} {e : AEv} {F' : AFleet} {pod : Int} (he : chkEv e = 0) (hk : e.kind = 4) (hs : mget a.gt.all e.n = none) (hr : bnd a e ≠ s_) (hl : lineOf a.gt.lines (bnd a e) = []) (ht : fTake a.fl (bnd a e) e.n = (F', pod, true)) :
  sysDo a e = ({ a with fl := F', gt := { a.gt with all := mset a.gt.all e.n (bnd a e, 1), lines := mset a.gt.lines (bnd a e) [] } }, [fateB (e.n, 1, pod, s_, ())]) := by
 have hg := znE (now := a.now) hs hr hl ht
 rw [zcx he hk]
 have hp : pokes a e = none := by
  unfold pokes arG
  split
  ·rw [hg]
   exact if_neg fun hh => absurd hh.1 (show ¬ (1 : Int) = 2 by decide)
  ·rfl
 unfold sysArrive
 rw [hp]
 unfold arG
 rw [hg]
end Go.Proofs.YtkebppklbobjcaaGreatDoor
namespace Go.Proofs.YtkebppklbobjcaaGreatDoor
open Go.Dm
attribute [local irreducible] L.load L.store L.chk L.new L.nonnil L.guard L.ite L.draw L.idx L.sem L.semR L.semU L.chkSem L.next L.call L.callV L.join L.alts L.loop L.begin L.endRound L.range
variable {w0 w : World} {E : List Seg}
theorem zoP {a : ASys} {n : Int} (hi : (mget a.ro z0G).isSome = true) (hs : (roTab a.ro z0G).sh = [(s_web_1, (100 : Int), ())]) (d : Int) : bnd a (evAr n z0G s_ d) = s_web_1 := by
 unfold bnd
 dsimp only
 rw [hi, if_neg (by decide), if_pos rfl]
 unfold tPick
 rw [hs]
 unfold pickL
 rw [if_pos (show d % 100 < 100 by omega)]
end Go.Proofs.YtkebppklbobjcaaGreatDoor
namespace Go.Proofs.YtkebppklbobjcaaGreatDoor
open Go.Dm
abbrev rtT : ARt := ⟨z0G, z3k, [(s_, s_t, (100 : Int), ())], 0⟩
abbrev fsEvs (b : Nat) (d : Cfg) (n draw : Int) : List AEv :=
 [evNm 10 z3k, evC 0 d, evNm 10 z3k, evNm 10 z3k, evR 0 rtT ⟨some ⟨b, 0, none⟩, 1, 1⟩, evNm 11 z0G, evAr n z0G s_ 0, evNm 13 s_web_1, evN 6 1, evNm 11 z0G, evAr (n + 1) z0G s_ draw, evAr (n + 1) z0G s_ 0, evAr (n + 2) z0G s_u 0, evN 5 (n + 1), evN 5 (n + 1)]
abbrev fs0 : ASys := newSys 20 3 9
abbrev mx1 (mi : Int) : Int := if 1 > mi then 1 else mi
abbrev fsSH (d : Cfg) : AShelf := ⟨[(z3k, thgOf d 1 1 true)], [(z0G, ⟨rtT, 2, 1, true⟩)], 2⟩
abbrev fsBK (d : Cfg) (pv : List (ByteArray × Bool)) : ABook := ⟨[(s_web_1, rvOf s_web_1 1 d)], pv⟩
abbrev fsBY (mi : Int) : List (ByteArray × ABes) := [(s_web_1, ⟨[], mx1 mi, 0⟩)]
abbrev fsA (d : Cfg) (mi : Int) (all : Alls) : ASys := ⟨fsSH d, fsBK d [], [], ⟨20, 0, []⟩, ⟨all, [], 3, 9⟩, fsBY mi, 0⟩
abbrev fsRO : ARoll := [(z0G, ⟨[(s_web_1, (100 : Int), ())], [(s_web_1, (100 : Int), ())], 0, 0, [(s_web_1, (100 : Int), ())], [(s_t, s_web_1, ())]⟩)]
def fsRest (conc : Int) (m : Nat) : List AHeld := (List.range m).map fun j : Nat => ⟨(j : Int) + 2, s_web_1, ⟨1, conc, []⟩⟩
abbrev fsF (conc : Int) (m : Nat) (R : List Int) : AFleet := ⟨20, (m : Int) + 1, ⟨1, s_web_1, ⟨2, conc, R⟩⟩ :: fsRest conc m⟩
abbrev fsB (d : Cfg) (conc mi : Int) (m : Nat) (R : List Int) (all : Alls) : ASys := ⟨fsSH d, fsBK d [(s_web_1, true)], fsRO, fsF conc m R, ⟨all, [(s_web_1, [])], 3, 9⟩, fsBY mi, 0⟩
abbrev fsC (img conc mi max grace : Int) : Cfg := (z3k, img, conc, mi, max, grace, ())
def fsM (mi : Nat) : Nat := mi - 1
theorem zpY (img conc max grace : Int) (b : Nat) : ((List.range 11).map fun mi : Nat => let a : ASys := { fs0 with sh := ⟨[(z3k, thgOf (fsC img conc mi max grace) 1 1 true)], [], 1⟩ }
  (sysRun a [evNm 10 z3k, evNm 10 z3k, evR 0 rtT ⟨some ⟨b, 0, none⟩, 1, 1⟩, evNm 11 z0G], sysOuts a [evNm 10 z3k, evNm 10 z3k, evR 0 rtT ⟨some ⟨b, 0, none⟩, 1, 1⟩, evNm 11 z0G])) =
  (List.range 11).map fun mi : Nat => (fsA (fsC img conc mi max grace) mi [], [[lineB z5R [s_web_1], lineB (lineB s_scale [s_web_1]) [decD (mx1 mi).toNat]], [z7M], [z5k], [z5l]]) := by kernel_rfl
theorem zpZ (img conc max grace : Int) (all : Alls) : ((List.range 11).map fun mi : Nat =>
  (sysRun (fsA (fsC img conc mi max grace) mi all) [evNm 13 s_web_1, evN 6 1, evNm 11 z0G], sysOuts (fsA (fsC img conc mi max grace) mi all) [evNm 13 s_web_1, evN 6 1, evNm 11 z0G])) =
  (List.range 11).map fun mi : Nat => (fsB (fsC img conc mi max grace) conc mi (fsM mi) [] all, [numL s_made ((List.range (fsM mi + 1)).map fun j : Nat => (j : Int) + 1) ++ [lineB (lineB s_fleet [s_web_1]) [decD (mx1 mi).toNat]], [lineB s_up [decD 1], lineB z8y [s_web_1]], [z1q]]) := by kernel_rfl
theorem zaj {conc : Int} {m : Nat} : ∀ y ∈ fsRest conc m, y.id ≠ 1 ∧ y.pod.reqs = [] ∧ can y = false := by
 intro y hy
 unfold fsRest at hy
 obtain ⟨j, -, rfl⟩ := List.mem_map.1 hy
 refine ⟨by show (j : Int) + 2 ≠ 1; omega, rfl, ?_⟩
 unfold can
 simp
theorem zoI {conc : Int} (hc : 1 ≤ conc) {m : Nat} : fPick (fsF conc m []).l s_web_1 = some ⟨1, s_web_1, ⟨2, conc, []⟩⟩ := by
 have hc1 : can ⟨1, s_web_1, ⟨2, conc, []⟩⟩ = true := by unfold can; simp; omega
 have key : ∀ (l : List AHeld) (b : AHeld), (∀ y ∈ l, can y = false) → l.foldl pickStep (some b) = some b := by
  intro l
  induction l with
  | nil => intro b _; rfl
  | cons y l ih =>
   intro b h
   rw [List.foldl_cons]
   have hy := h y (by simp)
   have e : pickStep (some b) y = some b := by unfold pickStep; simp [hy]
   rw [e]
   exact ih b fun z hz => h z (by simp [hz])
 unfold fPick revs
 rw [List.filter_cons_of_pos (by simp), List.foldl_cons]
 have e0 : pickStep none ⟨1, s_web_1, ⟨2, conc, []⟩⟩ = some ⟨1, s_web_1, ⟨2, conc, []⟩⟩ := by unfold pickStep; simp [hc1]
 rw [e0]
 exact key _ _ fun y hy => (zaj y (List.mem_filter.1 hy).1).2.2
theorem zhk {conc : Int} {m : Nat} {q : Int} : fWhere (fsF conc m []).l q = none := by
 unfold fWhere
 rw [List.find?_eq_none]
 intro y hy
 rcases List.mem_cons.1 hy with rfl | hy
 ·simp
 ·rw [(zaj y hy).2.1]; simp
theorem zoH {conc : Int} (hc : 1 ≤ conc) {m : Nat} {q : Int} : fTake (fsF conc m []) s_web_1 q = (fsF conc m [q], 1, true) := by
 unfold fTake
 rw [zhk, if_neg (by simp), zoI hc]
 have ht : podTake ⟨2, conc, []⟩ q = (⟨2, conc, [q]⟩, 0) := by
  unfold podTake
  rw [if_neg (by simp), if_neg (by simp), if_neg (by simp; omega)]
  rfl
 have hu : fUpd (fsF conc m []).l 1 (fun p => (podTake p q).1) = (fsF conc m [q]).l := by
  show fUpd (⟨1, s_web_1, ⟨2, conc, []⟩⟩ :: fsRest conc m) 1 _ = _
  have h2 := zal (l := fsRest conc m) (id := 1) (g := fun p => (podTake p q).1) fun y hy => (zaj y hy).1
  unfold fUpd at h2 ⊢
  rw [List.filterMap_cons, h2]
  simp [ht]
 dsimp only
 rw [hu]
theorem zoL {conc : Int} {m : Nat} {q : Int} : fGive (fsF conc m [q]) q = (fsF conc m [], s_web_1, 0) := by
 have hw : fWhere (fsF conc m [q]).l q = some ⟨1, s_web_1, ⟨2, conc, [q]⟩⟩ := by
  unfold fWhere
  rw [List.find?_cons_of_pos (by simp)]
 have ht : podGive ⟨2, conc, [q]⟩ q = (⟨2, conc, []⟩, 0) := by
  unfold podGive
  rw [if_pos (by simp)]
  simp
 have hu : fUpd (fsF conc m [q]).l 1 (fun p => (podGive p q).1) = (fsF conc m []).l := by
  show fUpd (⟨1, s_web_1, ⟨2, conc, [q]⟩⟩ :: fsRest conc m) 1 _ = _
  have h2 := zal (l := fsRest conc m) (id := 1) (g := fun p => (podGive p q).1) fun y hy => (zaj y hy).1
  unfold fUpd at h2 ⊢
  rw [List.filterMap_cons, h2]
  simp [ht]
 unfold fGive
 rw [hw]
 dsimp only
 rw [hu]
theorem zns {conc : Int} {m : Nat} {q : Int} : fGive (fsF conc m []) q = (fsF conc m [], s_, 6) := by
 unfold fGive
 rw [zhk]
theorem znF {F : AFleet} {G : AGate} {id now : Int} (hs : mget G.all id = none) : gArr F G id s_ now = (F, { G with all := mset G.all id (s_, 4) }, (id, 4, 0, s_no_route, ())) := by
 unfold gArr gSeen
 rw [hs, if_neg (by simp), if_pos rfl]
theorem ziZ {a : ASys} {e : AEv} (he : chkEv e = 0) (hk : e.kind = 4) (hs : mget a.gt.all e.n = none) (hr : bnd a e = s_) : sysDo a e = ({ a with gt := { a.gt with all := mset a.gt.all e.n (s_, 4) } }, [fateB (e.n, 4, 0, s_no_route, ())]) := by
 have hg := znF (F := a.fl) (G := a.gt) (now := a.now) hs
 rw [zcx he hk]
 have hp : pokes a e = none := by
  unfold pokes arG
  rw [hr]
  split
  ·rw [hg]
   exact if_neg fun hh => absurd hh.1 (show ¬ (4 : Int) = 2 by decide)
  ·rfl
 unfold sysArrive
 rw [hp]
 unfold arG
 rw [hr, hg]
theorem zkY {a : ASys} {e : AEv} (he : chkEv e = 0) (hk : e.kind = 4) (hs : (mget a.gt.all e.n).isSome = true) : sysDo a e = (a, [fateB (e.n, 4, 0, s_twice, ())]) := by
 have hg : arG a e = (a.fl, a.gt, (e.n, 4, 0, s_twice, ())) := by
  unfold arG gArr gSeen
  rw [if_pos hs]
 rw [zcx he hk]
 have hp : pokes a e = none := by
  unfold pokes
  rw [hg]
  split
  ·exact if_neg fun hh => absurd hh.1 (show ¬ (4 : Int) = 2 by decide)
  ·rfl
 unfold sysArrive
 rw [hp]
 dsimp only
 rw [hg]
theorem z6V : ∀ (l m : List AEv) (a : ASys), sysOuts a (l ++ m) = sysOuts a l ++ sysOuts (sysRun a l) m
 | [], m, a => rfl
 | e :: l, m, a => by rw [List.cons_append, z7L, z6V l m, z7L, z8x]; rfl
abbrev fsO7 (mi : Nat) : List ByteArray := numL s_made ((List.range (fsM mi + 1)).map fun j : Nat => (j : Int) + 1) ++ [lineB (lineB s_fleet [s_web_1]) [decD (mx1 mi).toNat]]
abbrev fsOuts (mi : Nat) (n : Int) : List (List ByteArray) :=
 [[z1I], [z5W], [lineB z5R [s_web_1], lineB (lineB s_scale [s_web_1]) [decD (mx1 mi).toNat]], [z7M], [z5k], [z5l], [fateB (n, 4, 0, s_no_route, ())], fsO7 mi, [lineB s_up [decD 1], lineB z8y [s_web_1]], [z1q],
  [fateB (n + 1, 1, 1, s_, ())], [fateB (n + 1, 4, 0, s_twice, ())], [fateB (n + 2, 4, 0, s_no_route, ())], [fateB (n + 1, 3, 0, s_, ())], [z1I]]
theorem mget1 {k q : Int} {v : ByteArray × Int} (h : q ≠ k) : mget [(k, v)] q = none := by
 simp only [mget]
 rw [if_neg (Ne.symm h)]
theorem zoJ {img conc max grace : Int} {mi : Nat} (hm : mi < 11) (hc : 1 ≤ conc) (hspec : specC (fsC img conc mi max grace) = 0) (b : Nat) {n draw : Int} (hn : 1 ≤ n ∧ n ≤ 1000) (hd : 0 ≤ draw ∧ draw < 2147483648) :
  sysOuts fs0 (fsEvs b (fsC img conc mi max grace) n draw) = fsOuts mi n := by
 have e0 : sysDo fs0 (evNm 10 z3k) = (fs0, [z1I]) := by kernel_rfl
 have e1 : sysDo fs0 (evC 0 (fsC img conc mi max grace)) = ({ fs0 with sh := ⟨[(z3k, thgOf (fsC img conc mi max grace) 1 1 true)], [], 1⟩ }, [z5W]) := by
  rw [do_C (a := fs0) ⟨by decide, by decide⟩ hspec (by rfl)]
  kernel_rfl
 have em := List.map_eq_map_iff.1 (zpY img conc max grace b) mi (List.mem_range.2 hm)
 simp only [Prod.mk.injEq] at em
 have ef := List.map_eq_map_iff.1 (zpZ img conc max grace [(n, (s_, 4))]) mi (List.mem_range.2 hm)
 simp only [Prod.mk.injEq] at ef
 generalize hdd : fsC img conc mi max grace = d at *
 have k6 : chkEv (evAr n z0G s_ 0) = 0 := zhy (by decide +kernel) (.inl rfl) ⟨hn.1, by omega⟩ ⟨by decide, by decide⟩
 have e6 : sysDo (fsA d mi []) (evAr n z0G s_ 0) = (fsA d mi [(n, (s_, 4))], [fateB (n, 4, 0, s_no_route, ())]) := ziZ (a := fsA d mi []) k6 rfl rfl (by unfold bnd; exact if_pos rfl)
 have hro : (mget fsRO z0G).isSome = true := by kernel_rfl
 have hsh : (roTab fsRO z0G).sh = [(s_web_1, (100 : Int), ())] := by kernel_rfl
 have htg : (tagL (roTab fsRO z0G).tg s_u).1 = s_ := by kernel_rfl
 have hms : mset [(s_web_1, ([] : List (Int × Int)))] s_web_1 [] = [(s_web_1, [])] := by kernel_rfl
 have hln : lineOf [(s_web_1, ([] : List (Int × Int)))] s_web_1 = [] := by kernel_rfl
 have k10 : chkEv (evAr (n + 1) z0G s_ draw) = 0 := zhy (by decide +kernel) (.inl rfl) ⟨by omega, by omega⟩ ⟨hd.1, by omega⟩
 let all1 : Alls := mset [(n, (s_, 4))] (n + 1) (s_web_1, 1)
 have e10 : sysDo (fsB d conc mi (fsM mi) [] [(n, (s_, 4))]) (evAr (n + 1) z0G s_ draw) = (fsB d conc mi (fsM mi) [n + 1] all1, [fateB (n + 1, 1, 1, s_, ())]) := by
  have hb : bnd (fsB d conc mi (fsM mi) [] [(n, (s_, 4))]) (evAr (n + 1) z0G s_ draw) = s_web_1 := zoP hro hsh draw
  rw [zmI (F' := fsF conc (fsM mi) [n + 1]) (pod := 1) k10 rfl (mget1 (show n + 1 ≠ n by omega)) (by rw [hb]; decide) (by rw [hb]; exact hln) (by rw [hb]; exact zoH hc), hb]
  show (({ fsB d conc mi (fsM mi) [] [(n, (s_, 4))] with fl := _, gt := ⟨_, mset [(s_web_1, ([] : List (Int × Int)))] s_web_1 [], 3, 9⟩ } : ASys), _) = _
  rw [hms]
 have k11 : chkEv (evAr (n + 1) z0G s_ 0) = 0 := zhy (by decide +kernel) (.inl rfl) ⟨by omega, by omega⟩ ⟨by decide, by decide⟩
 have e11 : sysDo (fsB d conc mi (fsM mi) [n + 1] all1) (evAr (n + 1) z0G s_ 0) = (fsB d conc mi (fsM mi) [n + 1] all1, [fateB (n + 1, 4, 0, s_twice, ())]) :=
  zkY (a := fsB d conc mi (fsM mi) [n + 1] all1) k11 rfl (by show (mget all1 (n + 1)).isSome = true; show (mget (mset _ _ _) _).isSome = true; rw [z3D, if_pos rfl]; rfl)
 have k12 : chkEv (evAr (n + 2) z0G s_u 0) = 0 := zhy (by decide +kernel) (.inr (by decide +kernel)) ⟨by omega, by omega⟩ ⟨by decide, by decide⟩
 let all2 : Alls := mset all1 (n + 2) (s_, 4)
 have hb12 : bnd (fsB d conc mi (fsM mi) [n + 1] all1) (evAr (n + 2) z0G s_u 0) = s_ := by
  unfold bnd
  dsimp only
  rw [hro, if_neg (by decide), if_neg (by decide)]
  exact htg
 have e12 : sysDo (fsB d conc mi (fsM mi) [n + 1] all1) (evAr (n + 2) z0G s_u 0) = (fsB d conc mi (fsM mi) [n + 1] all2, [fateB (n + 2, 4, 0, s_no_route, ())]) :=
  ziZ (a := fsB d conc mi (fsM mi) [n + 1] all1) k12 rfl (by show mget (mset [(n, (s_, 4))] (n + 1) (s_web_1, 1)) (n + 2) = none; rw [z3D, if_neg (by omega)]; exact mget1 (by omega)) hb12
 have k13 : chkEv (evN 5 (n + 1)) = 0 := zoO (.inl rfl) ⟨by omega, by omega⟩
 let all3 : Alls := mset all2 (n + 1) (s_web_1, 3)
 have e13 : sysDo (fsB d conc mi (fsM mi) [n + 1] all2) (evN 5 (n + 1)) = (fsB d conc mi (fsM mi) [] all3, [fateB (n + 1, 3, 0, s_, ())]) := by
  have hg : gDone (fsF conc (fsM mi) [n + 1]) ⟨all2, [(s_web_1, [])], 3, 9⟩ (n + 1) = (fsF conc (fsM mi) [], ⟨all3, [(s_web_1, [])], 3, 9⟩, [(n + 1, 3, 0, s_, ())], 0) := by
   unfold gDone
   rw [zoL]
   dsimp only
   rw [if_neg (by simp)]
   unfold gFlow
   dsimp only
   rw [hln]
   unfold flowA
   dsimp only
   rw [hms]
  rw [zdR k13 rfl]
  unfold sysDone
  dsimp only
  rw [hg]
  rfl
 have e14 : (sysDo (fsB d conc mi (fsM mi) [] all3) (evN 5 (n + 1))).2 = [z1I] := by
  have hg : gDone (fsF conc (fsM mi) []) ⟨all3, [(s_web_1, [])], 3, 9⟩ (n + 1) = (fsF conc (fsM mi) [], ⟨all3, [(s_web_1, [])], 3, 9⟩, [], 6) := by
   unfold gDone
   rw [zns]
   rw [if_pos (show (6 : Int) ≠ 0 by decide)]
  rw [zdR k13 rfl]
  unfold sysDone
  dsimp only
  rw [hg]
  show (if (6 : Int) ≠ 0 then refusedB 6 else ([] : List Fate).map fateB) = [z1I]
  rw [if_pos (show (6 : Int) ≠ 0 by decide)]
  show refusedB 6 = [z1I]
  kernel_rfl
 have ha : fsEvs b d n draw = [evNm 10 z3k, evC 0 d] ++ ([evNm 10 z3k, evNm 10 z3k, evR 0 rtT ⟨some ⟨b, 0, none⟩, 1, 1⟩, evNm 11 z0G] ++ ([evAr n z0G s_ 0] ++ ([evNm 13 s_web_1, evN 6 1, evNm 11 z0G] ++
   [evAr (n + 1) z0G s_ draw, evAr (n + 1) z0G s_ 0, evAr (n + 2) z0G s_u 0, evN 5 (n + 1), evN 5 (n + 1)]))) := rfl
 rw [ha, z6V, z6V, z6V, z6V]
 have r1 : sysRun fs0 [evNm 10 z3k, evC 0 d] = { fs0 with sh := ⟨[(z3k, thgOf d 1 1 true)], [], 1⟩ } := by simp only [z8x, zf7, e0, e1]
 rw [r1, em.1, em.2]
 have r2 : sysRun (fsA d mi []) [evAr n z0G s_ 0] = fsA d mi [(n, (s_, 4))] := by simp only [z8x, zf7, e6]
 rw [r2, ef.1, ef.2]
 simp only [z7L, zia, e0, e1, e6, e10, e11, e12, e13, e14]
 rfl
end Go.Proofs.YtkebppklbobjcaaGreatDoor
namespace Go.Proofs.YtkebppklbobjcaaGreatDoor
open Go.Dm
attribute [local irreducible] L.load L.store L.chk L.new L.nonnil L.guard L.ite L.draw L.idx L.sem L.semR L.semU L.chkSem L.next L.call L.callV L.join L.alts L.loop L.begin L.endRound L.range
variable {w0 w : World} {E : List Seg}
def joinS (o : List ByteArray) : Nat → ByteArray
 | 0 => s_
 | k + 1 => (if 0 < k then joinS o k ++ s__ else joinS o k) ++ (o[k]?).getD s_
abbrev fsLines (M : Nat) (n : Nat) : List ByteArray :=
 [z1I, z5W, s_revision_web_1_scale_web_1__a3af ++ decD M, z7M, z5k, z5l, (s_refused__3bb3 ++ decD n) ++ s__no_route_67fe, s_, z4X, z1q, (s_sent__475f ++ decD (n + 1)) ++ s__1_6e96, (s_refused__3bb3 ++ decD (n + 1)) ++ s__twice_4041, (s_refused__3bb3 ++ decD (n + 2)) ++ s__no_route_67fe, s_done__51ab ++ decD (n + 1), z1I]
theorem join1 (x : ByteArray) : joinS [x] 1 = x := by
 unfold joinS joinS
 simp
 have : s_ ++ x = x := ByteArray.empty_append ..
 exact this
theorem join2 (x y : ByteArray) : joinS [x, y] 2 = (x ++ s__) ++ y := by
 have h1 : joinS [x, y] 1 = x := by
  unfold joinS joinS
  simp
  exact (ByteArray.empty_append .. : s_ ++ x = x)
 show (if 0 < 1 then joinS [x, y] 1 ++ s__ else joinS [x, y] 1) ++ ([x, y][1]?).getD s_ = _
 rw [if_pos (by decide), h1]
 rfl
theorem zak {n : Int} {why : ByteArray} : fateB (n, 4, 0, why, ()) = ((s_refused__3bb3 ++ decD n.toNat) ++ spB) ++ why := by
 unfold fateB
 dsimp only
 rw [if_neg (show ¬ (4 : Int) = 1 by decide), if_neg (show ¬ (4 : Int) = 2 by decide), if_neg (show ¬ (4 : Int) = 3 by decide)]
 rw [z4W, z4W]
 have e1 : s_refused__3bb3 = s_refused ++ spB := by decide
 rw [e1]
 rfl
theorem zhr {n : Int} : fateB (n, 3, 0, s_, ()) = s_done__51ab ++ decD n.toNat := by
 unfold fateB
 dsimp only
 rw [if_neg (show ¬ (3 : Int) = 1 by decide), if_neg (show ¬ (3 : Int) = 2 by decide), if_pos rfl, z4W]
 have e1 : s_done__51ab = zll ++ spB := by decide
 rw [e1]
 rfl
theorem zfr {n : Int} : fateB (n, 1, 1, s_, ()) = (s_sent__475f ++ decD n.toNat) ++ s__1_6e96 := by
 unfold fateB
 dsimp only
 rw [if_pos rfl]
 unfold lineB
 rw [z8k, z8k, zbD]
 have e1 : s_sent__475f = zli ++ spB := by decide
 have e2 : s__1_6e96 = spB ++ decD 1 := by decide +kernel
 rw [e1, e2]
 simp only [ByteArray.append_assoc]
 rfl
theorem zoK {mi : Nat} {n : Nat} {j : Nat} (hj : j < 15) (h7 : j ≠ 7) {o : List ByteArray} (ho : (fsOuts mi n)[j]? = some o) : some (joinS o o.length) = (fsLines (mx1 mi).toNat n)[j]? ∧ 1 ≤ o.length ∧ o.length ≤ 2 := by
 have t1 : ((n : Int) + 1).toNat = n + 1 := by omega
 have t2 : ((n : Int) + 2).toNat = n + 2 := by omega
 have q1 : s__no_route_67fe = spB ++ s_no_route := by decide
 have q2 : s__twice_4041 = spB ++ s_twice := by decide
 have : j = 0 ∨ j = 1 ∨ j = 2 ∨ j = 3 ∨ j = 4 ∨ j = 5 ∨ j = 6 ∨ j = 8 ∨ j = 9 ∨ j = 10 ∨ j = 11 ∨ j = 12 ∨ j = 13 ∨ j = 14 := by omega
 rcases this with rfl | rfl | rfl | rfl | rfl | rfl | rfl | rfl | rfl | rfl | rfl | rfl | rfl | rfl <;> (simp only [fsOuts, List.getElem?_cons_zero, List.getElem?_cons_succ, Option.some.injEq] at ho; subst ho; refine ⟨?_, by simp, by simp⟩)
 ·exact congrArg some (join1 _)
 ·exact congrArg some (join1 _)
 ·refine congrArg some ((join2 _ _).trans ?_)
  rw [z4W, z4W, z4W]
  have e : s_revision_web_1_scale_web_1__a3af = (((z5R ++ spB) ++ s_web_1) ++ s__) ++ ((s_scale ++ spB) ++ s_web_1) ++ spB := by decide +kernel
  rw [e]
  simp only [ByteArray.append_assoc]
 ·exact congrArg some (join1 _)
 ·exact congrArg some (join1 _)
 ·exact congrArg some (join1 _)
 ·refine congrArg some ((join1 _).trans ?_)
  rw [zak, Int.toNat_natCast, q1]
  simp only [ByteArray.append_assoc]
 ·refine congrArg some ((join2 _ _).trans ?_)
  show (lineB s_up [decD 1] ++ s__) ++ lineB z8y [s_web_1] = z4X
  decide +kernel
 ·exact congrArg some (join1 _)
 ·refine congrArg some ((join1 _).trans ?_)
  rw [zfr, t1]
 ·refine congrArg some ((join1 _).trans ?_)
  rw [zak, t1, q2]
  simp only [ByteArray.append_assoc]
 ·refine congrArg some ((join1 _).trans ?_)
  rw [zak, t2, q1]
  simp only [ByteArray.append_assoc]
 ·refine congrArg some ((join1 _).trans ?_)
  rw [zhr, t1]
 ·exact congrArg some (join1 _)
theorem zfn {o : List ByteArray} {m : Nat} (h : ∀ x ∈ o, x.size ≤ m) : ∀ k, (joinS o k).size ≤ k * (m + 1)
 | 0 => by show s_.size ≤ _; simp; rfl
 | k + 1 => by
  have ih := zfn h k
  have hs : s__.size = 1 := rfl
  have hx : ((o[k]?).getD s_).size ≤ m := by
   cases hk : o[k]? with
   | none => show s_.size ≤ m; exact Nat.zero_le m
   | some x => exact h x (List.mem_of_getElem? hk)
  have e : (k + 1) * (m + 1) = k * (m + 1) + (m + 1) := by rw [Nat.add_mul]; omega
  unfold joinS
  rw [ByteArray.size_append, e]
  split
  ·rw [ByteArray.size_append, hs]; omega
  ·omega
theorem zqT {b b5 : Nat} {d : Cfg} {n dr : Int} {s : Seg} : ∀ e ∈ fsEvs b d n dr, EvIn w0 (s :: evB b5 (fsEvs b d n dr) :: [Cl b z07 [.string s_, .string s_t, I 100]] :: E) 0 e := by
 intro e he
 simp only [fsEvs, List.mem_cons, List.not_mem_nil, or_false] at he
 rcases he with rfl | rfl | rfl | rfl | rfl | rfl | rfl | rfl | rfl | rfl | rfl | rfl | rfl | rfl | rfl
 ·exact EvIn.plain rfl rfl fun h => absurd h (show ¬ ((10 : Int) = 12 ∨ (10 : Int) = 13) by decide)
 ·exact EvIn.plain rfl rfl fun h => absurd h (show ¬ ((1 : Int) = 12 ∨ (1 : Int) = 13) by decide)
 ·exact EvIn.plain rfl rfl fun h => absurd h (show ¬ ((10 : Int) = 12 ∨ (10 : Int) = 13) by decide)
 ·exact EvIn.plain rfl rfl fun h => absurd h (show ¬ ((10 : Int) = 12 ∨ (10 : Int) = 13) by decide)
 ·refine ⟨?_, Nat.le_refl 1, (fun h => by cases h), (fun t ht => ?_), fun h => absurd h (show ¬ ((2 : Int) = 12 ∨ (2 : Int) = 13) by decide)⟩
  ·exact Rw.re encT 1 rfl (Rw.lit b rtT.ts encT rfl rfl (by decide))
  ·rw [List.mem_singleton] at ht
   subst ht
   exact .inl rfl
 ·exact EvIn.plain rfl rfl fun h => absurd h (show ¬ ((11 : Int) = 12 ∨ (11 : Int) = 13) by decide)
 ·exact EvIn.plain rfl rfl fun h => absurd h (show ¬ ((4 : Int) = 12 ∨ (4 : Int) = 13) by decide)
 ·exact EvIn.plain rfl rfl fun _ => zmR
 ·exact EvIn.plain rfl rfl fun h => absurd h (show ¬ ((6 : Int) = 12 ∨ (6 : Int) = 13) by decide)
 ·exact EvIn.plain rfl rfl fun h => absurd h (show ¬ ((11 : Int) = 12 ∨ (11 : Int) = 13) by decide)
 ·exact EvIn.plain rfl rfl fun h => absurd h (show ¬ ((4 : Int) = 12 ∨ (4 : Int) = 13) by decide)
 ·exact EvIn.plain rfl rfl fun h => absurd h (show ¬ ((4 : Int) = 12 ∨ (4 : Int) = 13) by decide)
 ·exact EvIn.plain rfl rfl fun h => absurd h (show ¬ ((4 : Int) = 12 ∨ (4 : Int) = 13) by decide)
 ·exact EvIn.plain rfl rfl fun h => absurd h (show ¬ ((5 : Int) = 12 ∨ (5 : Int) = 13) by decide)
 ·exact EvIn.plain rfl rfl fun h => absurd h (show ¬ ((5 : Int) = 12 ∨ (5 : Int) = 13) by decide)
abbrev ksFs (k : Int) : Bool := k == 1 || k == 2 || k == 4 || k == 5 || k == 6 || k == 10 || k == 11 || k == 13
instance knFs [bTab w0] : Kn w0 ksFs := ⟨by
 intro E w h i b a s hi hs e hks hb ev k0 inv hk0 hn k hk
 have hc : e.kind = 1 ∨ e.kind = 2 ∨ e.kind = 4 ∨ e.kind = 5 ∨ e.kind = 6 ∨ e.kind = 10 ∨ e.kind = 11 ∨ e.kind = 13 := by simpa [ksFs, or_assoc] using hks
 rcases hc with hc | hc | hc | hc | hc | hc | hc | hc
 ·exact zr9 h i hi hs hb hc ev inv hk0 hn hk
 ·exact zr8 h i hi hs hb hc ev inv hk0 hn hk
 ·exact zr7 h i hi hs hb hc ev inv hk0 hn hk
 ·exact zr6 h i hi hs hb hc ev inv hk0 hn hk
 ·exact zr5 h i hi hs hb hc ev inv hk0 hn hk
 ·exact zqy h i hi hs hb hc ev inv hk0 hn hk
 ·exact zqx h i hi hs hb hc ev inv hk0 hn hk
 ·exact zqw h i hi hs hb hc ev inv hk0 hn hk⟩
theorem fs_k {b : Nat} {d : Cfg} (hd : specC d = 0) {n dr : Int} (hn : 1 ≤ n ∧ n ≤ 1000) (hdr : 0 ≤ dr ∧ dr < 2147483648) : ∀ e ∈ fsEvs b d n dr, ksFs e.kind = true ∧ chkEv e = 0 := by
 intro e he
 simp only [fsEvs, List.mem_cons, List.not_mem_nil, or_false] at he
 rcases he with rfl | rfl | rfl | rfl | rfl | rfl | rfl | rfl | rfl | rfl | rfl | rfl | rfl | rfl | rfl
 ·exact ⟨rfl, by decide +kernel⟩
 ·exact ⟨rfl, zqa ⟨by decide, by decide⟩ hd⟩
 ·exact ⟨rfl, by decide +kernel⟩
 ·exact ⟨rfl, by decide +kernel⟩
 ·exact ⟨rfl, zqW ⟨by decide, by decide⟩ (by decide +kernel)⟩
 ·exact ⟨rfl, by decide +kernel⟩
 ·exact ⟨rfl, zhy (by decide +kernel) (.inl rfl) ⟨hn.1, by omega⟩ ⟨by decide, by decide⟩⟩
 ·exact ⟨rfl, by decide +kernel⟩
 ·exact ⟨rfl, by decide +kernel⟩
 ·exact ⟨rfl, by decide +kernel⟩
 ·exact ⟨rfl, zhy (by decide +kernel) (.inl rfl) ⟨by omega, by omega⟩ ⟨hdr.1, by omega⟩⟩
 ·exact ⟨rfl, zhy (by decide +kernel) (.inl rfl) ⟨by omega, by omega⟩ ⟨by decide, by decide⟩⟩
 ·exact ⟨rfl, zhy (by decide +kernel) (.inr (by decide +kernel)) ⟨by omega, by omega⟩ ⟨by decide, by decide⟩⟩
 ·exact ⟨rfl, zoO (.inl rfl) ⟨by omega, by omega⟩⟩
 ·exact ⟨rfl, zoO (.inl rfl) ⟨by omega, by omega⟩⟩
set_option maxRecDepth 20000 in
theorem zgk [bTab w0] (c : Cfg) (x1 x2 : Int) : Calls Pr z4M #[.agg (Cfg.cells c).toArray, I x1, I x2] w0 fun e w' => e = .returned (.bool true) ∧ St w0 [] w' := by
 refine zpW (args := [.agg (Cfg.cells c).toArray, I x1, I x2]) (z8b c x1 x2) ?_
 unfold z4P
 have h := St.init w0
 refine nw h ?_; clear h; (try clear w); intro b1 w h
 refine zmn h fun w h => itF rfl ?_
 (refine laC h ?_)
 refine zmm (c := c) (n := 0) h fun w h => ?_
 have hcc := zoD c 0
 have hcn : (lcfg c 0).1 = z3k := rfl
 generalize lcfg c 0 = d at *
 obtain ⟨dn, img, conc, dmi, max, grace, ⟨⟩⟩ := d
 simp only at hcn
 subst hcn
 have hnum := (z6W hcc).2
 change (0 ≤ img ∧ img ≤ 255) ∧ (1 ≤ conc ∧ conc ≤ 8) ∧ (1 ≤ max ∧ max ≤ 10) ∧ (0 ≤ dmi ∧ dmi ≤ max) ∧ (0 ≤ grace ∧ grace ≤ 30) at hnum
 have hdm : ∃ mi : Nat, @Eq Int dmi (mi : Int) := ⟨Int.toNat dmi, (Int.toNat_of_nonneg hnum.2.2.2.1.1).symm⟩
 obtain ⟨mi, hdm⟩ := hdm
 subst hdm
 have hmi : mi < 11 := by
  have h1 : (mi : Int) ≤ 10 := Int.le_trans hnum.2.2.2.1.2 hnum.2.2.1.2
  omega
 refine nw h ?_; clear h; (try clear w); intro b5 w h
 (refine stC h ?_; clear h; (try clear w); intro w h; dsimp only [putN, setN] at h)
 refine zjB h (fun hh => absurd hh (by decide)) fun _ b s w hs h => itF rfl (itF rfl ?_)
 refine zcN (by decide) (by decide) ?_
 obtain ⟨m, hm⟩ : ∃ m : Nat, x1 % 1000 = m := ⟨(x1 % 1000).toNat, by omega⟩
 have hm1000 : m < 1000 := by omega
 rw [hm]
 have en : IntKind.wrap .i64 (1 + (m : Int)) = ((m + 1 : Nat) : Int) := by rw [wr (by omega) (by omega)]; omega
 have en1 : IntKind.wrap .i64 (((m + 1 : Nat) : Int) + 1) = ((m + 1 : Nat) : Int) + 1 := wr (by omega) (by omega)
 have en2 : IntKind.wrap .i64 (((m + 1 : Nat) : Int) + 2) = ((m + 1 : Nat) : Int) + 2 := wr (by omega) (by omega)
 rw [en, en1, en2]
 have hn : 1 ≤ ((m + 1 : Nat) : Int) ∧ ((m + 1 : Nat) : Int) ≤ 1000 := by omega
 have hnN : m + 1 ≤ 1000 := by omega
 generalize m + 1 = n at *
 (refine ldC h ?_)
 have hM : (if (1 : Int) > (mi : Int) then 1 else (mi : Int)) = ((fsM mi + 1 : Nat) : Int) := by unfold fsM; split <;> omega
 have hMt : (mx1 mi).toNat = fsM mi + 1 := by unfold mx1 fsM; split <;> omega
 have hM10 : fsM mi + 1 ≤ 10 := by unfold fsM; omega
 rw [hM]
 refine z8p h (by omega) (by omega) fun w h => ?_
 rw [Int.toNat_natCast]
 refine z22 (fun (z : Sl × Unit) w => ∃ (bt be : Nat) (dr : Int), (0 ≤ dr ∧ dr < 2147483648) ∧ z.1 = ⟨some ⟨be, 0, none⟩, 15, 15⟩ ∧
  St w0 (evB be (fsEvs bt (fsC img conc mi max grace) n dr) :: [Cl bt z07 [.string s_, .string s_t, I 100]] :: s :: [Cl b5 z05 (Cfg.cells (fsC img conc mi max grace))] :: [Cl b1 z05 (Cfg.cells c)] :: []) w) (fun k10 hk10 => ?_) ?_
 ·(refine dr h ?_; clear h; (try clear w); intro w h; refine laC h ?_)
  have hd : 0 ≤ x2 % 2147483648 ∧ x2 % 2147483648 < 2147483648 := by omega
  refine alts2 ?_ ?_
  ·refine nw h ?_; clear h; (try clear w); intro b13 w h
   (refine ckC h ?_)
   refine zcN (by decide) (by decide) ?_
   (refine ckC h ?_)
   refine nw h ?_; clear h; (try clear w); intro b15 w h
   exact hk10 _ w ⟨b13, b15, _, hd, rfl, h⟩
  ·refine zcN (by decide) (by decide) ?_
   (refine ckC h ?_)
   refine nw h ?_; clear h; (try clear w); intro b17 w h
   (refine ckC h ?_)
   refine nw h ?_; clear h; (try clear w); intro b18 w h
   exact hk10 _ w ⟨b17, b18, _, hd, rfl, h⟩
 clear h; (try clear w)
 rintro ⟨z, ⟨⟩⟩ w ⟨bt, be, dr, hdr, hz, h⟩
 dsimp only at hz ⊢
 subst hz
 have dM := z8P (fsM mi + 1)
 have dn0 := z8P n
 have dn1 := z8P (n + 1)
 have dn2 := z8P (n + 2)
 have t1 : ((n : Int) + 1).toNat = n + 1 := by omega
 have t2 : ((n : Int) + 2).toNat = n + 2 := by omega
 have q1 : s_revision_web_1_scale_web_1__a3af.size = 27 := rfl
 have q2 : s_refused__3bb3.size = 8 := rfl
 have q3 : s__no_route_67fe.size = 9 := rfl
 have q4 : s_sent__475f.size = 5 := rfl
 have q5 : s__1_6e96.size = 2 := rfl
 have q6 : s__twice_4041.size = 6 := rfl
 have q7 : s_done__51ab.size = 5 := rfl
 have q8 : s_fleet_web_1__66d1.size = 12 := rfl
 refine gd (by simp only [maxI64]; omega) ?_
 refine z8p h (by omega) (by omega) fun w h => ?_
 rw [Int.toNat_natCast]
 refine gd (by simp only [maxI64]; omega) ?_
 refine gd (by rw [ByteArray.size_append]; simp only [maxI64]; omega) ?_
 refine z8p h (by omega) (by omega) fun w h => ?_
 rw [t1]
 refine gd (by simp only [maxI64]; omega) ?_
 refine gd (by rw [ByteArray.size_append]; simp only [maxI64]; omega) ?_
 refine z8p h (by omega) (by omega) fun w h => ?_
 rw [t1]
 refine gd (by simp only [maxI64]; omega) ?_
 refine gd (by rw [ByteArray.size_append]; simp only [maxI64]; omega) ?_
 refine z8p h (by omega) (by omega) fun w h => ?_
 rw [t2]
 refine gd (by simp only [maxI64]; omega) ?_
 refine gd (by rw [ByteArray.size_append]; simp only [maxI64]; omega) ?_
 refine z8p h (by omega) (by omega) fun w h => ?_
 rw [t1]
 refine gd (by simp only [maxI64]; omega) ?_
 refine nw h ?_; clear h; (try clear w); intro b24 w h
 have ho := zoJ hmi hnum.2.1.1 hcc bt hn hdr
 have hls : fsLines (fsM mi + 1) n = fsLines (mx1 mi).toNat n := by rw [hMt]
 have h : St w0 ([Cl b24 z00 (fl eS (fsLines (fsM mi + 1) n))] :: evB be (fsEvs bt (fsC img conc mi max grace) n dr) :: [Cl bt z07 [.string s_, .string s_t, I 100]] :: s :: [Cl b5 z05 (Cfg.cells (fsC img conc mi max grace))] :: [Cl b1 z05 (Cfg.cells c)] :: []) w := h
 have r24 : Rw eS z00 1 ⟨some ⟨b24, 0, none⟩, 15, 15⟩ (fsLines (fsM mi + 1) n) [Cl b24 z00 (fl eS (fsLines (fsM mi + 1) n))] := Rw.lit b24 (fsLines (fsM mi + 1) n) encS rfl rfl (by show 15 ≤ maxLen; decide)
 have hke := fs_k (b := bt) hcc hn hdr
 have hev := fun s => zqT (w0 := w0) (b := bt) (b5 := be) (d := fsC img conc mi max grace) (n := (n : Int)) (dr := dr) (s := s) (E := [Cl b24 z00 (fl eS (fsLines (fsM mi + 1) n))] :: [Cl b5 z05 (Cfg.cells (fsC img conc mi max grace))] :: [Cl b1 z05 (Cfg.cells c)] :: [])
 have inv : SInv 0 fs0 := zoC (by decide) (by decide)
 have hl15 : (fsEvs bt (fsC img conc mi max grace) n dr).length = 15 := rfl
 generalize fsEvs bt (fsC img conc mi max grace) n dr = l at *
 have h := fr3_ (fr2_ (fr2_ h))
 refine z0U (fun q y w => ∃ (j : Nat) (s : Seg), q + j = 15 ∧ @Eq Int y.1 j ∧ SysS b (sysRun fs0 (l.take j)) s ∧ SInv (0 + 2 * j) (sysRun fs0 (l.take j)) ∧ St w0 (s :: evB be l :: [Cl bt z07 [.string s_, .string s_t, I 100]] :: [Cl b24 z00 (fl eS (fsLines (fsM mi + 1) n))] :: [Cl b5 z05 (Cfg.cells (fsC img conc mi max grace))] :: [Cl b1 z05 (Cfg.cells c)] :: []) w) 15 ⟨0, s, rfl, rfl, hs, inv, h⟩ ?_
 clear hs inv h
 rintro q ⟨y, ⟨⟩⟩ w ⟨j, s, hq, hy, hs, inv, h⟩ again hag
 (try dsimp only)
 simp only at hy
 subst hy
 refine it (fun hb => ?_) (fun hb => ⟨rfl, (dl0_ (dl0_ (dl0_ (dl0_ (dl0_ (dl0_ h)))))).fin⟩)
 have hb : (j : Int) < ((15 : Nat) : Int) := of_decide_eq_true hb
 have hj15 : j < 15 := by omega
 have hj : j < l.length := by omega
 have hx : l[j]? = some l[j] := List.getElem?_eq_getElem hj
 have hnn := zj0 (l.take j) fs0
 have hn0 : fs0.sh.n = 0 := rfl
 have hlt : (l.take j).length ≤ j := by rw [List.length_take]; omega
 have hoj := zdQ (a := fs0) hx
 rw [ho] at hoj
 refine z22 (fun (_ : Unit) w => ∃ s', SysS b (sysRun fs0 (l.take (j + 1))) s' ∧ SInv (0 + 2 * (j + 1)) (sysRun fs0 (l.take (j + 1))) ∧ St w0 (s' :: evB be l :: [Cl bt z07 [.string s_, .string s_t, I 100]] :: [Cl b24 z00 (fl eS (fsLines (fsM mi + 1) n))] :: [Cl b5 z05 (Cfg.cells (fsC img conc mi max grace))] :: [Cl b1 z05 (Cfg.cells c)] :: []) w) (fun k27 hk27 => ?_) ?_
 ·refine znI (ks := ksFs) hl15.symm (by decide) hx h hs (hke _ (List.getElem_mem hj)) (hev s _ (List.getElem_mem hj)) inv (by omega) (by omega) fun v sv s' w r hs i2 h => ?_
  rw [← zi9 hx] at hs i2
  have done : ∀ {w}, St w0 (sv :: s' :: evB be l :: [Cl bt z07 [.string s_, .string s_t, I 100]] :: [Cl b24 z00 (fl eS (fsLines (fsM mi + 1) n))] :: [Cl b5 z05 (Cfg.cells (fsC img conc mi max grace))] :: [Cl b1 z05 (Cfg.cells c)] :: []) w → k27 () w := fun h => hk27 _ _ ⟨s', hs, i2, dl0_ h⟩
  generalize (sysDo (sysRun fs0 (l.take j)) l[j]).2 = o at *
  have hlen := Rw.len encS r
  refine it (fun h7 => ?_) (fun h7 => ?_)
  ·have h7 : j = 7 := by have : (j : Int) = 7 := by simpa using h7
                         omega
   subst h7
   have hoe : o = fsO7 mi := by simpa [fsOuts] using hoj.symm
   have hol : o.length = fsM mi + 2 := by rw [hoe]; unfold fsO7 numL; simp
   (refine ldC h ?_)
   rw [hM]
   have ew : IntKind.wrap .i64 (((fsM mi + 1 : Nat) : Int) + 1) = ((fsM mi + 2 : Nat) : Int) := by rw [wr (by omega) (by omega)]; omega
   rw [ew]
   refine itF (by rw [hlen, hol]; simp) ?_
   have hfirst : o[0]? = some s_made_1 := by
    rw [hoe]
    unfold fsO7 numL
    rw [List.range_succ_eq_map]
    show some (lineB s_made [decD 1]) = some s_made_1
    refine congrArg some ?_
    decide +kernel
   have hlast : o[fsM mi + 1]? = some (s_fleet_web_1__66d1 ++ decD (fsM mi + 1)) := by
    rw [hoe]
    unfold fsO7 numL
    rw [List.getElem?_append_right (by simp)]
    simp only [List.length_map, List.length_range, Nat.sub_self, List.getElem?_cons_zero, hMt, z4W, Option.some.injEq]
    have e : s_fleet_web_1__66d1 = ((s_fleet ++ spB) ++ s_web_1) ++ spB := by decide +kernel
    rw [e]
   refine Rw.ix encS r (by decide) (by rw [hol]; simp) fun a33 ha => ?_
   refine Rw.ld0 encS h 0 rfl r ha hfirst rfl rfl ?_
   refine itF (by rw [z39]; simp) ?_
   have ew2 : IntKind.wrap .i64 (((v.len : Nat) : Int) - 1) = ((fsM mi + 1 : Nat) : Int) := by rw [hlen, hol, wr (by omega) (by omega)]; omega
   rw [ew2]
   refine Rw.ix encS r (by omega) (by rw [hol, Int.toNat_natCast]; omega) fun a35 ha => ?_
   rw [Int.toNat_natCast] at ha
   refine Rw.ld0 encS h 0 rfl r ha hlast rfl rfl ?_
   refine gd (by simp only [maxI64]; omega) ?_
   refine itF (by rw [z39]; simp) ?_
   exact done h
  ·have h7 : j ≠ 7 := by have : ¬ (j : Int) = 7 := by simpa using h7
                         omega
   obtain ⟨hjo, hl1, hl2⟩ := zoK hj15 h7 hoj
   have hsz : ∀ x ∈ o, x.size ≤ 10000 := by
    have hall : ∀ o ∈ fsOuts mi n, ∀ x ∈ o, x.size ≤ 10000 := by
     intro o ho x hx
     have t1 : ((n : Int) + 1).toNat = n + 1 := by omega
     have t2 : ((n : Int) + 2).toNat = n + 2 := by omega
     have s1 : spB.size = 1 := rfl
     have z1 : s_no_route.size = 8 := rfl
     have z2 : s_twice.size = 5 := rfl
     have z3 : s_scale.size = 5 := rfl
     have z4 : s_web_1.size = 5 := rfl
     have z5 : s_made.size = 4 := rfl
     have z6 : s_fleet.size = 5 := rfl
     simp only [fsOuts, List.mem_cons, List.not_mem_nil, or_false] at ho
     rcases ho with rfl | rfl | rfl | rfl | rfl | rfl | rfl | rfl | rfl | rfl | rfl | rfl | rfl | rfl | rfl
     ·rw [List.mem_singleton] at hx; subst hx; decide
     ·rw [List.mem_singleton] at hx; subst hx; decide
     ·simp only [List.mem_cons, List.not_mem_nil, or_false] at hx
      rcases hx with rfl | rfl
      ·decide
      ·rw [z4W, z4W, hMt]; simp only [ByteArray.size_append]; omega
     ·rw [List.mem_singleton] at hx; subst hx; decide
     ·rw [List.mem_singleton] at hx; subst hx; decide
     ·rw [List.mem_singleton] at hx; subst hx; decide
     ·rw [List.mem_singleton] at hx; subst hx; rw [zak, Int.toNat_natCast]; simp only [ByteArray.size_append]; omega
     ·unfold fsO7 numL at hx
      rcases List.mem_append.1 hx with hx | hx
      ·simp only [List.mem_map, List.mem_range] at hx
       obtain ⟨_, ⟨k, hk, rfl⟩, rfl⟩ := hx
       have dk := z8P ((k : Int) + 1).toNat
       rw [z4W]; simp only [ByteArray.size_append]; omega
      ·rw [List.mem_singleton] at hx; subst hx; rw [z4W, z4W, hMt]; simp only [ByteArray.size_append]; omega
     ·simp only [List.mem_cons, List.not_mem_nil, or_false] at hx
      rcases hx with rfl | rfl <;> decide +kernel
     ·rw [List.mem_singleton] at hx; subst hx; decide
     ·rw [List.mem_singleton] at hx; subst hx; rw [zfr, t1]; simp only [ByteArray.size_append]; omega
     ·rw [List.mem_singleton] at hx; subst hx; rw [zak, t1]; simp only [ByteArray.size_append]; omega
     ·rw [List.mem_singleton] at hx; subst hx; rw [zak, t2]; simp only [ByteArray.size_append]; omega
     ·rw [List.mem_singleton] at hx; subst hx; rw [zhr, t1]; simp only [ByteArray.size_append]; omega
     ·rw [List.mem_singleton] at hx; subst hx; decide
    exact hall o (List.mem_of_getElem? hoj)
   rw [← hls] at hjo
   refine z0U (fun q y w => ∃ (k : Nat), q + k = o.length ∧ @Eq Int y.2.1 k ∧ y.1 = joinS o k ∧ St w0 (sv :: s' :: evB be l :: [Cl bt z07 [.string s_, .string s_t, I 100]] :: [Cl b24 z00 (fl eS (fsLines (fsM mi + 1) n))] :: [Cl b5 z05 (Cfg.cells (fsC img conc mi max grace))] :: [Cl b1 z05 (Cfg.cells c)] :: []) w) o.length ⟨0, rfl, rfl, rfl, h⟩ ?_
   clear h
   rintro q2 ⟨t, y, ⟨⟩⟩ w ⟨k, hq2, hy, ht, h⟩ again2 hag2
   (try dsimp only)
   simp only at hy ht
   subst hy ht
   have hjs := zfn hsz k
   have qs : s__.size = 1 := rfl
   refine it (fun hb => ?_) (fun hb => ?_)
   ·have hb : (k : Int) < (v.len : Int) := of_decide_eq_true hb
    have hk : k < o.length := by omega
    have hk2 : k * (10000 + 1) ≤ 2 * 10001 := Nat.mul_le_mul (by omega) (Nat.le_refl _)
    have hxk : o[k]? = some o[k] := List.getElem?_eq_getElem hk
    have hsk := hsz _ (List.getElem_mem hk)
    refine z22 (fun (z : ByteArray × Unit) w' => z.1 = (if 0 < k then joinS o k ++ s__ else joinS o k) ∧ w' = w) (fun k39 hk39 => ?_) ?_
    ·refine it (fun hc => ?_) (fun hc => ?_)
     ·have hc : (k : Int) > 0 := of_decide_eq_true hc
      refine gd (by simp only [maxI64]; omega) ?_
      exact hk39 _ _ ⟨by rw [if_pos (by omega)], rfl⟩
     ·have hc : ¬ (k : Int) > 0 := of_decide_eq_false hc
      exact hk39 _ _ ⟨by rw [if_neg (by omega)], rfl⟩
    rintro ⟨z, ⟨⟩⟩ w' ⟨hz, rfl⟩
    dsimp only at hz ⊢
    subst hz
    refine Rw.ix encS r (by omega) (by rw [Int.toNat_natCast]; exact hk) fun a41 ha => ?_
    rw [Int.toNat_natCast] at ha
    refine Rw.ld0 encS h 0 rfl r ha hxk rfl rfl ?_
    refine gd (by split <;> simp only [ByteArray.size_append, maxI64, qs] <;> omega) ?_
    refine hag2 (q2 - 1) _ _ (by omega) ⟨k + 1, by omega, ?_, ?_, h⟩
    ·show IntKind.wrap .i64 _ = _
     rw [wr (by omega) (by omega)]; omega
    ·show _ = (if 0 < k then joinS o k ++ s__ else joinS o k) ++ (o[k]?).getD s_
     rw [hxk]
     rfl
   ·have hb : ¬ (k : Int) < (v.len : Int) := of_decide_eq_false hb
    have hk : k = o.length := by omega
    subst hk
    have hj24 : j < (fsLines (fsM mi + 1) n).length := by show j < 15; omega
    refine Rw.ix encS r24 (by omega) (by rw [Int.toNat_natCast]; exact hj24) fun a43 ha => ?_
    rw [Int.toNat_natCast] at ha
    refine Rw.ld0 encS h 4 rfl r24 ha hjo.symm rfl rfl ?_
    refine itF (by rw [z39]; simp) ?_
    exact done h
 clear h hs inv
 clear w s
 rintro _ w ⟨s, hs, inv, h⟩
 (try dsimp only)
 refine hag (q - 1) _ w (by omega) ⟨j + 1, s, by omega, ?_, hs, inv, h⟩
 show IntKind.wrap .i64 _ = _
 rw [wr (by omega) (by omega)]; omega
end Go.Proofs.YtkebppklbobjcaaGreatDoor
