/- What is proved on the way to a statement of the seat, pressed (text AK). No conditions beyond those its theorems state. -/
import Derived.Test.YtmbidnhdfdnihaaGreatDoorVAJ
set_option linter.all false
namespace Go.Proofs.YtmbidnhdfdnihaaGreatDoor
open Go.Dm
attribute [local irreducible] L.load L.store L.chk L.new L.nonnil L.guard L.ite L.draw L.idx L.sem L.semR L.semU L.chkSem L.next L.call L.callV L.join L.alts L.loop L.begin L.endRound L.range
variable {w0 w : World} {E : List Seg}
structure ABes where
 xs : List Int
 want : Int
 left : Int
structure ASys where
 sh : AShelf
 bk : ABook
 ro : ARoll
 fl : AFleet
 gt : AGate
 by' : List (ByteArray × ABes)
 now : Int
structure BsE where
 k : ByteArray
 b : Nat
 g : Nat
 x : ABes
 sgg : Seg
abbrev BsE.cell (x : BsE) : Seg := [Cl x.b z7b [.pointer (some ⟨x.g, 0, none⟩), I x.x.want, I x.x.left]]
abbrev BsE.sg (x : BsE) : Seg := x.cell ++ x.sgg
abbrev BsE.kp (x : BsE) : ByteArray × Option Addr := (x.k, some ⟨x.b, 0, none⟩)
abbrev BsE.ka (x : BsE) : ByteArray × ABes := (x.k, x.x)
def BsE.ok (x : BsE) : Prop := GauS x.g x.x.xs x.sgg
structure Bls where
 s : Nat
 k : Nat
 r : Nat
 f : Nat
 g : Nat
 m : Nat
abbrev sysC (b : Nat) (p : Bls) (now : Int) : Seg := [Cl b z9K [.pointer (some ⟨p.s, 0, none⟩), .pointer (some ⟨p.k, 0, none⟩), .pointer (some ⟨p.r, 0, none⟩), .pointer (some ⟨p.f, 0, none⟩), .pointer (some ⟨p.g, 0, none⟩), .map (some p.m), I now]]
structure SysR (a : ASys) (p : Bls) (sg sf ss sk sr sm : Seg) (Q : List BsE) : Prop where
 gt : GtS p.g p.f a.gt sg
 fl : FlS p.f a.fl sf
 sh : ShS p.s a.sh ss
 bk : BkS p.k a.bk sk
 ro : RolS p.r a.ro sr
 mp : MpS Value.string Value.pointer p.m (Q.map BsE.kp) sm
 ea : ∀ x ∈ Q, x.ok
 ab : a.by' = Q.map BsE.ka
abbrev sys8 (b : Nat) (a : ASys) (p : Bls) (sg sf ss sk sr sm : Seg) (Q : List BsE) : Seg := sysC b p a.now ++ (sg ++ (sf ++ (ss ++ (sk ++ (sr ++ (sm ++ (Q.map BsE.sg).flatten))))))
def SysS (b : Nat) (a : ASys) (s : Seg) : Prop := ∃ (p : Bls) (sg sf ss sk sr sm : Seg) (Q : List BsE), SysR a p sg sf ss sk sr sm Q ∧ s = sys8 b a p sg sf ss sk sr sm Q
theorem _root_.Go.Dm.St.split8 {a b c d e f g i : Seg} (h : St w0 ((a ++ (b ++ (c ++ (d ++ (e ++ (f ++ (g ++ i))))))) :: E) w) : St w0 (a :: b :: c :: d :: e :: f :: g :: i :: E) w := h.eq (by simp)
theorem _root_.Go.Dm.St.glue8 {a b c d e f g i : Seg} (h : St w0 (a :: b :: c :: d :: e :: f :: g :: i :: E) w) : St w0 ((a ++ (b ++ (c ++ (d ++ (e ++ (f ++ (g ++ i))))))) :: E) w := h.eq (by simp)
theorem sysBack {sv a b c d e f g j s : Seg} (i : Nat) (hi : nth E i = some s) (h : St w0 (sv :: a :: b :: c :: d :: e :: f :: g :: j :: delN E i) w) : St w0 (sv :: setN E i (a ++ (b ++ (c ++ (d ++ (e ++ (f ++ (g ++ j)))))))) w := by
 have h := fr8_ (fr8_ (fr8_ (fr8_ (fr8_ (fr8_ (fr8_ (fr8_ h)))))))
 have h := h.glue8
 exact St.back (E := sv :: E) (i + 1) hi h
theorem zgS : Pr.underlying z0O = some (.map z00 z4q) := by kernel_rfl
abbrev slK (k : Sl → PT) : Value → PT := fun v w' => ∃ x, v = RT.val (.one (.one .slice)) x ∧ k x w'
abbrev Hk (w0 : World) (E : List Seg) (i b : Nat) (r : ASys × List ByteArray) (k : Sl → PT) : Prop := ∀ v sv s' w', Rw eS z00 1 v r.2 sv → SysS b r.1 s' → St w0 (sv :: setN E i s') w' → k v w'
def sysConfig (a : ASys) (e : AEv) : ASys × List ByteArray := ({ a with sh := (shPut a.sh e.c e.n).1 }, putB zbt e.c.1 (shPut a.sh e.c e.n).2.1 (shPut a.sh e.c e.n).2.2)
theorem zl2 (a : AShelf) (c : Cfg) (ver : Int) (h0 : 0 ≤ a.n) (h1 : a.n < 900000000) : 0 ≤ (shPut a c ver).2.1 ∧ (shPut a c ver).2.1 ≤ 9000000000000000000 := by
 unfold shPut
 split
 ·exact ⟨Int.le_refl 0, by show (0 : Int) ≤ _; decide⟩
 ·split
  ·exact ⟨Int.le_refl 0, by show (0 : Int) ≤ _; decide⟩
  ·dsimp only; omega
theorem ziA [bTab w0] (h : St w0 E w) (i : Nat) {b : Nat} {a : ASys} {s : Seg} (hi : nth E i = some s) (hs : SysS b a s) {e : AEv} (hn : a.sh.n < 900000000) (hsz : e.c.1.size ≤ 1000000) {k : Sl → PT} (hk : Hk w0 E i b (sysConfig a e) k) :
  z3O (some ⟨b, 0, none⟩) e.t (slK k) w := by
 obtain ⟨p, sg, sf, ss, sk, sr, sm, Q, R, rfl⟩ := hs
 have hlo := R.sh.1.lo
 unfold z3O
 have h := (h.front i hi).split8
 refine nw h ?_; clear h; (try clear w); intro b1 w h
 (dsimp only [setN, List.cons_append, List.nil_append] at h; refine dr h ?_; clear h; (try clear w); intro w h; refine nn ?_; refine ldC h ?_; refine laC h ?_; refine ldC h ?_; rw [z2E])
 refine zoS (c := e.c) h 4 rfl R.sh hn fun ss' w hS h => ?_
 dsimp only [setN] at h
 (refine ldC h ?_)
 have hv := zl2 a.sh e.c e.n hlo hn
 refine zq9 h (by decide) hsz hv fun v sv w r h => ?_
 refine ⟨v, rfl, hk v sv _ w r ⟨p, sg, sf, ss', sk, sr, sm, Q, ⟨R.gt, R.fl, hS, R.bk, R.ro, R.mp, R.ea, R.ab⟩, rfl⟩ ?_⟩
 exact sysBack i hi (dl1_ h)
def sysRoute (a : ASys) (e : AEv) : ASys × List ByteArray := ({ a with sh := (shPutR a.sh e.r e.n).1 }, putB zid e.r.name (shPutR a.sh e.r e.n).2.1 (shPutR a.sh e.r e.n).2.2)
theorem zjN (a : AShelf) (r : ARt) (ver : Int) (h0 : 0 ≤ a.n) (h1 : a.n < 900000000) : 0 ≤ (shPutR a r ver).2.1 ∧ (shPutR a r ver).2.1 ≤ 9000000000000000000 := by
 unfold shPutR
 split
 ·exact ⟨Int.le_refl 0, by show (0 : Int) ≤ _; decide⟩
 ·split
  ·exact ⟨Int.le_refl 0, by show (0 : Int) ≤ _; decide⟩
  ·dsimp only; omega
theorem zks [bTab w0] (h : St w0 E w) (i : Nat) {b : Nat} {a : ASys} {s : Seg} (hi : nth E i = some s) (hs : SysS b a s) {e : AEv} (hn : a.sh.n < 900000000) (hsz : e.r.name.size ≤ 1000000) (hfew : a.sh.Few) (rd : RdE w0 (delN E i) eT e.v e.r.ts) (hvc : e.v.len ≤ e.v.cap) (h0 : e.v.a = none → e.r.ts = []) (hrv : ∀ t ∈ e.r.ts, revOk t.1)
  {k : Sl → PT} (hk : Hk w0 E i b (sysRoute a e) k) : z4c (some ⟨b, 0, none⟩) e.t (slK k) w := by
 obtain ⟨p, sg, sf, ss, sk, sr, sm, Q, R, rfl⟩ := hs
 have hlo := R.sh.1.lo
 unfold z4c
 have h := (h.front i hi).split8
 refine nw h ?_; clear h; (try clear w); intro b1 w h
 (dsimp only [setN, List.cons_append, List.nil_append] at h; refine dr h ?_; clear h; (try clear w); intro w h; refine nn ?_; refine ldC h ?_; refine laC h ?_; refine ldC h ?_; rw [z2E])
 refine znD (r := e.r) (v := e.v) h 4 rfl R.sh hfew hn (fun w h => ?_) hvc h0 hrv fun ss' w hS h => ?_
 ·exact rd w (dl0_ (dl0_ (dl0_ (dl0_ (dl0_ (dl0_ (dl0_ (dl0_ h))))))))
 dsimp only [setN] at h
 (refine ldC h ?_)
 have hv := zjN a.sh e.r e.n hlo hn
 refine zq9 h (by decide) hsz hv fun v sv w r h => ?_
 exact ⟨v, rfl, hk v sv _ w r ⟨p, sg, sf, ss', sk, sr, sm, Q, ⟨R.gt, R.fl, hS, R.bk, R.ro, R.mp, R.ea, R.ab⟩, rfl⟩ (sysBack i hi (dl1_ h))⟩
def sysDone (a : ASys) (e : AEv) : ASys × List ByteArray :=
 ({ a with gt := (gDone a.fl a.gt e.n).2.1, fl := (gDone a.fl a.gt e.n).1 }, if (gDone a.fl a.gt e.n).2.2.2 ≠ 0 then refusedB (gDone a.fl a.gt e.n).2.2.2 else (gDone a.fl a.gt e.n).2.2.1.map fateB)
def upBk (a : ASys) (e : AEv) : ABook := if bkProved a.bk (fOf (fUpp a.fl e.n).1.l e.n) = true then a.bk else (bkProve a.bk (fOf (fUpp a.fl e.n).1.l e.n)).1
def upFirst (a : ASys) (e : AEv) : List ByteArray :=
 if bkProved a.bk (fOf (fUpp a.fl e.n).1.l e.n) = true then [lineB s_up [decD e.n.toNat]] else [lineB s_up [decD e.n.toNat], lineB zbs [fOf (fUpp a.fl e.n).1.l e.n]]
abbrev upFlow (a : ASys) (e : AEv) : AFleet × AGate × List Fate := gFlow (fUpp a.fl e.n).1 a.gt (fOf (fUpp a.fl e.n).1.l e.n)
def sysUp (a : ASys) (e : AEv) : ASys × List ByteArray :=
 if (fUpp a.fl e.n).2 ≠ 0 then ({ a with fl := (fUpp a.fl e.n).1 }, refusedB (fUpp a.fl e.n).2)
 else ({ a with fl := (upFlow a e).1, gt := (upFlow a e).2.1, bk := upBk a e }, upFirst a e ++ (upFlow a e).2.2.map fateB)
abbrev eEw (e : AEv) : List Value := [I e.kind, .string e.name, .string e.tag, I e.n, I e.draw, .string e.c.1, I e.c.2.1, I e.c.2.2.1, I e.c.2.2.2.1, I e.c.2.2.2.2.1, I e.c.2.2.2.2.2.1, .string e.r.name, .string e.r.cfg, SlV e.v, I e.r.roll]
theorem zoO [bTab w0] (h : St w0 E w) (i : Nat) {b : Nat} {a : ASys} {s : Seg} (hi : nth E i = some s) (hs : SysS b a s) {e : AEv} (he : 0 ≤ e.n ∧ e.n ≤ 9000000000000000000) (hrv : (fOf (fUpp a.fl e.n).1.l e.n).size ≤ 1000000) (hfew : FFew (fUpp a.fl e.n).1) (hn : a.gt.all.length < 80000000) (hl : a.gt.lines.length < 90000000)
  (hf : ∀ f ∈ (upFlow a e).2.2, f.Ok) (hfl : (upFlow a e).2.2.length < 100000000) {k : Sl → PT} (hk : Hk w0 E i b (sysUp a e) k) : z5G (some ⟨b, 0, none⟩) e.t (slK k) w := by
 obtain ⟨p, sg, sf, ss, sk, sr, sm, Q, R, rfl⟩ := hs
 unfold z5G
 have h := (h.front i hi).split8
 refine nw h ?_; clear h; (try clear w); intro b1 w h
 (dsimp only [setN, List.cons_append, List.nil_append] at h; refine dr h ?_; clear h; (try clear w); intro w h; refine nn ?_; refine ldC h ?_; refine ldC h ?_)
 unfold sysUp at hk
 refine zql h 3 rfl R.fl fun sf' w hF h => ?_
 dsimp only [setN] at h
 refine it (fun hc => ?_) (fun hc => ?_)
 ·have hc : (fUpp a.fl e.n).2 ≠ 0 := by simpa using hc
  rw [if_pos hc] at hk
  refine z5F h fun v s w r h => ?_
  exact ⟨v, rfl, hk v s _ w r ⟨p, sg, sf', ss, sk, sr, sm, Q, ⟨R.gt, hF, R.sh, R.bk, R.ro, R.mp, R.ea, R.ab⟩, rfl⟩ (sysBack i hi (dl1_ h))⟩
 have hc : ¬ (fUpp a.fl e.n).2 ≠ 0 := by simpa using hc
 rw [if_neg hc] at hk
 unfold upBk upFirst upFlow at hk
 unfold upFlow at hf hfl
 generalize (fUpp a.fl e.n).1 = F at *
 (refine dr h ?_; clear h; (try clear w); intro w h; refine nn ?_; refine ldC h ?_; refine ldC h ?_)
 refine zqT h 3 rfl hF ?_
 generalize fOf F.l e.n = rev at *
 (refine ldC h ?_)
 refine nw h ?_; clear h; (try clear w); intro b12 w h
 refine lineI1 h (by decide) he.1 he.2 fun w h => ?_
 have hsu : (lineB s_up [decD e.n.toNat]).size ≤ 10000 := by rw [z8h]; have := zgi he.1 he.2; have : s_up.size = 2 := rfl; omega
 refine nw h ?_; clear h; (try clear w); intro b14 w h
 refine z2u (fun (z : Sl × Unit) w => ∃ (s1 sk' : Seg), Rw eS z00 1 z.1 (if bkProved a.bk rev = true then [lineB s_up [decD e.n.toNat]] else [lineB s_up [decD e.n.toNat], lineB zbs [rev]]) s1 ∧ BkS p.k (if bkProved a.bk rev = true then a.bk else (bkProve a.bk rev).1) sk' ∧
  St w0 (s1 :: [Cl b1 z0D (eEw e)] :: sysC b p a.now :: sg :: sf' :: ss :: sk' :: sr :: sm :: (Q.map BsE.sg).flatten :: delN E i) w) (fun k15 hk15 => ?_) ?_
 ·(refine nn ?_; refine ldC h ?_)
  refine zfu h 6 rfl R.bk fun w h => ?_
  cases hp : bkProved a.bk rev with
  | true =>
   rw [hp] at hk15
   refine itF rfl ?_
   exact hk15 (_, ()) w ⟨_, sk, Rw.lit b14 [_] encS rfl rfl (by decide), R.bk, h⟩
  | false =>
   rw [hp] at hk15
   refine itT rfl ?_
   (refine nn ?_; refine ldC h ?_)
   refine zmu h 6 rfl R.bk fun sk' w hK h => ?_
   dsimp only [setN] at h
   refine nw h ?_; clear h; (try clear w); intro b23 w h
   refine lineS1 h (by decide) (by omega) fun w h => ?_
   refine nw h ?_; clear h; (try clear w); intro b25 w h
   refine Rw.app encS elS h 0 rfl (Rw.lit b14 [lineB s_up [decD e.n.toNat]] encS rfl rfl (by simp [maxLen])) (lineB zbs [rev]) rfl (by simp) (by simp) fun v' s' w hr' h => ?_
   exact hk15 (_, ()) w ⟨s', sk', hr', hK, h⟩
 ·clear h; (try clear w)
  rintro ⟨vo, ⟨⟩⟩ w ⟨s1, sk', r1, hK, h⟩
  (refine nn ?_; refine ldC h ?_)
  have h := fr4_ (fr4_ h)
  refine zpd h R.gt hF hfew (by omega) hl fun v sv sg' sf'' w hr hG hF h => ?_
  have h := fr3_ h
  refine zhE h (v2 := vo) hr hf hfl (by split <;> simp) r1 fun v s w r h => ?_
  refine ⟨v, rfl, hk v s _ w r ⟨p, sg', sf'', ss, sk', sr, sm, Q, ⟨hG, hF, R.sh, hK, R.ro, R.mp, R.ea, R.ab⟩, rfl⟩ ?_⟩
  have h := dl1_ (dl4_ h)
  have h := fr3_ (fr3_ (fr2_ (fr2_ h)))
  exact sysBack i hi h
abbrev wantOf (c : Cfg) : Int := if 1 > @id Int c.2.2.2.1 then 1 else @id Int c.2.2.2.1
abbrev stp (a : ASys) (n : ByteArray) : ABook × ByteArray × Bool := bkStamp a.bk (shCfg a.sh n).1 (@id Int (shCfg a.sh n).2.2.1).toNat
def sysStamp (a : ASys) (e : AEv) : ASys × List ByteArray :=
 if (shCfg a.sh e.name).2.2.2.1 = false then (a, refusedB 6) else if @id Int (shCfg a.sh e.name).2.2.1 > 999999 then (a, refusedB 3)
 else if (stp a e.name).2.2 = false then ({ a with bk := (stp a e.name).1 }, [lineB znT [(stp a e.name).2.1]])
 else ({ a with bk := (stp a e.name).1, by' := mset a.by' (stp a e.name).2.1 ⟨[], wantOf (shCfg a.sh e.name).1, 0⟩ }, [lineB z8b [(stp a e.name).2.1], lineB (lineB s_scale [(stp a e.name).2.1]) [decD (wantOf (shCfg a.sh e.name).1).toNat]])
theorem zoj (a : ABook) (c : Cfg) (g : Nat) : (bkStamp a c g).2.1 = revB c.1 g := by unfold bkStamp; split <;> rfl
theorem zkr [bTab w0] (h : St w0 E w) (i : Nat) {b : Nat} {a : ASys} {s : Seg} (hi : nth E i = some s) (hs : SysS b a s) {e : AEv}
  (hst : (shCfg a.sh e.name).2.2.2.1 = true → shortB (shCfg a.sh e.name).1.1.data.toList 16 = true ∧ 1 ≤ @id Int (shCfg a.sh e.name).2.2.1 ∧ @id Int (shCfg a.sh e.name).2.2.1 < 100 ∧ @id Int (shCfg a.sh e.name).1.2.2.2.1 ≤ 1000000) (hf : a.bk.all.length < 999999)
  {k : Sl → PT} (hk : Hk w0 E i b (sysStamp a e) k) : z4b (some ⟨b, 0, none⟩) e.t (slK k) w := by
 have hs0 := hs
 obtain ⟨p, sg, sf, ss, sk, sr, sm, Q, R, rfl⟩ := hs
 unfold z4b
 unfold sysStamp stp at hk
 have h := (h.front i hi).split8
 refine nw h ?_; clear h; (try clear w); intro b1 w h
 refine z2u (fun (z : Addr × Int × Bool × Unit) w => ∃ b8 : Nat, z = (⟨b8, 0, none⟩, (shCfg a.sh e.name).2.2.1, (shCfg a.sh e.name).2.2.2.1, ()) ∧
  St w0 ([Cl b8 z0g (Cfg.cells (shCfg a.sh e.name).1)] :: sysC b p a.now :: sg :: sf :: ss :: sk :: sr :: sm :: (Q.map BsE.sg).flatten :: delN E i) w) (fun k2 hk2 => ?_) ?_
 ·(dsimp only [setN, List.cons_append, List.nil_append] at h; refine dr h ?_; clear h; (try clear w); intro w h; refine nn ?_; refine ldC h ?_; refine ldC h ?_)
  refine alts2 ?_ ?_
  ·refine zfs h 4 rfl R.sh fun w h => ?_
   refine nw h ?_; clear h; (try clear w); intro b8 w h
   (refine ckC h ?_; refine ckC h ?_; refine stC h ?_; clear h; (try clear w); intro w h; dsimp only [putN, setN] at h)
   exact hk2 _ w ⟨b8, rfl, dl1_ h⟩
  ·refine nw h ?_; clear h; (try clear w); intro b8 w h
   (refine ckC h ?_; refine ckC h ?_)
   refine zfs h 5 rfl R.sh fun w h => ?_
   (refine stC h ?_; clear h; (try clear w); intro w h; dsimp only [putN, setN] at h)
   exact hk2 _ w ⟨b8, rfl, dl1_ h⟩
 clear h; (try clear w)
 rintro z w ⟨b8, rfl, h⟩
 (try dsimp only)
 refine it (fun hc => ?_) (fun hc => ?_)
 ·have hc : (shCfg a.sh e.name).2.2.2.1 = false := by simpa using hc
  rw [if_pos hc] at hk
  refine z5F h fun v s w r h => ?_
  exact ⟨v, rfl, hk v s _ w r hs0 (sysBack i hi (dl1_ h))⟩
 have hc : (shCfg a.sh e.name).2.2.2.1 = true := by simpa using hc
 rw [if_neg (by simp [hc])] at hk
 obtain ⟨st1, st2, st3, st4⟩ := hst hc
 have hmin : 0 ≤ wantOf (shCfg a.sh e.name).1 ∧ wantOf (shCfg a.sh e.name).1 ≤ 1000000 := by
  unfold wantOf
  split <;> omega
 unfold wantOf at hk hmin
 generalize shCfg a.sh e.name = z at *
 obtain ⟨c, ver, gen, is, ⟨⟩⟩ := z
 dsimp only at hk hc hmin h st1 ⊢
 simp only [id] at st2 st3 st4
 refine it (fun h2 => ?_) (fun h2 => ?_)
 ·exact absurd (of_decide_eq_true h2) (by simp only [Int.not_lt, gt_iff_lt]; omega)
 have hng : ¬ @id Int gen > 999999 := by simp only [id]; omega
 rw [if_neg hng] at hk
 (refine dr h ?_; clear h; (try clear w); intro w h; refine nn ?_; refine ldC h ?_; refine laC h ?_)
 obtain ⟨g, rfl⟩ : ∃ g : Nat, gen = (g : Int) := ⟨@Int.toNat gen, by omega⟩
 have hg1 : 1 ≤ g := by have : (1 : Int) ≤ (g : Int) := st2
                        omega
 have hg2 : g < 100 := by have : (g : Int) < 100 := st3
                          omega
 simp only [id, Int.toNat_natCast] at hk hmin
 refine zmt (c := c) h 5 rfl R.bk st1 hg1 hg2 hf fun sk' w hK h => ?_
 dsimp only [setN] at h
 have hrev := zoj a.bk c g
 have hsz : (revB c.1 g).size ≤ 1000000 := by have := zaa c.1 hg2; have := z6W st1; omega
 rw [← hrev] at hsz
 clear hrev
 generalize (bkStamp a.bk c g).2.1 = rev at *
 have hfr : ∀ x : Bool, (bkStamp a.bk c g).2.2 = x → True := fun _ _ => trivial
 generalize (bkStamp a.bk c g).2.2 = fr at *
 generalize (bkStamp a.bk c g).1 = K at *
 cases fr with
 | false =>
  rw [if_pos rfl] at hk
  refine itT rfl ?_
  refine nw h ?_; clear h; (try clear w); intro b17 w h
  refine lineS1 h (by decide) (by omega) fun w h => ?_
  refine nw h ?_; clear h; (try clear w); intro b19 w h
  exact ⟨_, rfl, hk _ _ _ w (Rw.lit b19 [_] encS rfl rfl (by simp [maxLen])) ⟨p, sg, sf, ss, sk', sr, sm, Q, ⟨R.gt, R.fl, R.sh, hK, R.ro, R.mp, R.ea, R.ab⟩, rfl⟩ (sysBack i hi (dl1_ h))⟩
 | true =>
  rw [if_neg (by decide)] at hk
  refine itF rfl ?_
  (refine ldC h ?_; refine dr h ?_; clear h; (try clear w); intro w h; refine nn ?_; refine ldC h ?_)
  refine zpa h fun bg sgg w hG h => ?_
  (refine ckC h ?_)
  refine nw h ?_; clear h; (try clear w); intro b24 w h
  (refine ckC h ?_)
  refine MpS.set mkStr zgS h 9 rfl R.mp (some ⟨b24, 0, none⟩) rfl fun sm' w hm' h => ?_
  dsimp only [setN] at h
  refine nw h ?_; clear h; (try clear w); intro b25 w h
  refine lineS1 h (by decide) (by omega) fun w h => ?_
  refine nw h ?_; clear h; (try clear w); intro b27 w h
  refine lineS1 h (by decide) (by omega) fun w h => ?_
  have hl : (lineB s_scale [rev]).size ≤ 100000000 := by rw [z8h]; have : s_scale.size = 5 := rfl; omega
  refine nw h ?_; clear h; (try clear w); intro b29 w h
  refine lineI1 h hl hmin.1 (by omega) fun w h => ?_
  refine nw h ?_; clear h; (try clear w); intro b31 w h
  have h : St w0 ([Cl b31 z00 [.string (lineB z8b [rev]), .string (lineB (lineB s_scale [rev]) [decD (if 1 > @id Int c.2.2.2.1 then 1 else @id Int c.2.2.2.1).toNat])]] :: [Cl b24 z7b [.pointer (some ⟨bg, 0, none⟩), I (if 1 > @id Int c.2.2.2.1 then 1 else @id Int c.2.2.2.1), I 0]] :: sgg :: [Cl b8 z0g (Cfg.cells c)] :: sysC b p a.now :: sg :: sf :: ss :: sk' :: sr :: sm' :: (Q.map BsE.sg).flatten :: delN E i) w := h
  have h := dl3_ h
  have h := fr2_ (fr2_ h)
  have h := h.glue
  have h := fr1_ (fr9_ h)
  have h : St w0 (BsE.sg ⟨rev, b24, bg, ⟨[], (if 1 > @id Int c.2.2.2.1 then 1 else @id Int c.2.2.2.1), 0⟩, sgg⟩ :: (Q.map BsE.sg).flatten :: [Cl b31 z00 [.string (lineB z8b [rev]), .string (lineB (lineB s_scale [rev]) [decD (if 1 > @id Int c.2.2.2.1 then 1 else @id Int c.2.2.2.1).toNat])]] :: sysC b p a.now :: sg :: sf :: ss :: sk' :: sr :: sm' :: delN E i) w := h
  have h := St.lput (key := BsE.k) h
  have h := fr8_ (fr8_ (fr8_ (fr8_ (fr8_ (fr8_ (fr8_ (fr8_ h)))))))
  have e5 := z8J (key := BsE.k) (fun x : BsE => (some ⟨x.b, 0, none⟩ : Option Addr)) ⟨rev, b24, bg, ⟨[], (if 1 > @id Int c.2.2.2.1 then 1 else @id Int c.2.2.2.1), 0⟩, sgg⟩ Q
  have e6 := z8J (key := BsE.k) BsE.x ⟨rev, b24, bg, ⟨[], (if 1 > @id Int c.2.2.2.1 then 1 else @id Int c.2.2.2.1), 0⟩, sgg⟩ Q
  refine ⟨_, rfl, hk _ _ _ w (Rw.lit b31 [_, _] encS rfl rfl (by simp [maxLen])) ⟨p, sg, sf, ss, sk', sr, sm', _, ⟨R.gt, R.fl, R.sh, hK, R.ro, by rw [← e5] at hm'; exact hm', fun y hy => ?_, ?_⟩, rfl⟩ (sysBack i hi h)⟩
  ·rcases zdN hy with rfl | hy
   ·exact hG
   ·exact R.ea y hy
  ·show mset a.by' _ _ = _
   rw [R.ab]; exact e6.symm
abbrev ldTab (a : ASys) (n : ByteArray) : ATab × Int := resolve a.bk (shRt a.sh n).1
abbrev ldNow (a : ASys) (n : ByteArray) : ATab := nowOf a.ro n (ldTab a n).1 a.now (shRt a.sh n).1.roll
def sysLead (a : ASys) (e : AEv) : ASys × List ByteArray :=
 if (shRt a.sh e.name).2.2 = false then (a, refusedB 6) else if (ldTab a e.name).2 ≠ 0 then (a, refusedB (ldTab a e.name).2)
 else ({ a with ro := roTurn a.ro e.name (ldTab a e.name).1 a.now (shRt a.sh e.name).1.roll }, [lineB zla [e.name, tabText (ldNow a e.name)]])
structure TabB (t : ATab) : Prop where
 sh : ∀ s ∈ t.sh, (0 ≤ @id Int s.2.1 ∧ @id Int s.2.1 ≤ 1000) ∧ s.1.size ≤ 1000
 tg : ∀ s ∈ t.tg, s.1.size ≤ 1000 ∧ s.2.1.size ≤ 1000
 txt : (tabText t).size ≤ 100000000
theorem zmb [bTab w0] (h : St w0 E w) (i : Nat) {b : Nat} {a : ASys} {s : Seg} (hi : nth E i = some s) (hs : SysS b a s) {e : AEv} (hfew : a.sh.Few) (hname : e.name.size ≤ 100000) (hp : ∀ t ∈ (shRt a.sh e.name).1.ts, 0 ≤ pct t ∧ pct t ≤ 1000) (hl : (shRt a.sh e.name).1.ts.length ≤ 1000)
  (hroll : (shRt a.sh e.name).1.roll ≤ 1000000) (hok : ∀ x, mget a.ro e.name = some x → x.Ok) (hsi : ∀ x, mget a.ro e.name = some x → 0 ≤ x.since ∧ x.since < 1000000000) (hnow : 0 ≤ a.now ∧ a.now < 1000000000) (hwb : WBd (ldTab a e.name).1.sh) (hln : (ldNow a e.name).sh.length < 100000) (htb : TabB (ldNow a e.name))
  {k : Sl → PT} (hk : Hk w0 E i b (sysLead a e) k) : z4G (some ⟨b, 0, none⟩) e.t (slK k) w := by
 have hs0 := hs
 obtain ⟨p, sg, sf, ss, sk, sr, sm, Q, R, rfl⟩ := hs
 unfold z4G
 unfold sysLead at hk
 have h := (h.front i hi).split8
 refine nw h ?_; clear h; (try clear w); intro b1 w h
 refine z2u (fun (z : Addr × Bool × Unit) w => ∃ (b8 : Nat) (v : Sl) (sv : Seg), z = (⟨b8, 0, none⟩, (shRt a.sh e.name).2.2, ()) ∧ Rw eT z07 3 v (shRt a.sh e.name).1.ts sv ∧
  St w0 ([Cl b8 z0p [.string (shRt a.sh e.name).1.name, .string (shRt a.sh e.name).1.cfg, SlV v, I (shRt a.sh e.name).1.roll]] :: sv :: [Cl b1 z0D (eEw e)] :: sysC b p a.now :: sg :: sf :: ss :: sk :: sr :: sm :: (Q.map BsE.sg).flatten :: delN E i) w) (fun k2 hk2 => ?_) ?_
 ·(dsimp only [setN, List.cons_append, List.nil_append] at h; refine dr h ?_; clear h; (try clear w); intro w h; refine nn ?_; refine ldC h ?_; refine ldC h ?_)
  refine alts2 ?_ ?_
  ·refine zhF h 4 rfl R.sh hfew fun v sv w r h => ?_
   refine nw h ?_; clear h; (try clear w); intro b8 w h
   (refine ckC h ?_; refine ckC h ?_; refine stC h ?_; clear h; (try clear w); intro w h; dsimp only [putN, setN] at h)
   exact hk2 _ w ⟨b8, v, sv, rfl, r, h⟩
  ·refine nw h ?_; clear h; (try clear w); intro b8 w h
   (refine ckC h ?_; refine ckC h ?_)
   refine zhF h 5 rfl R.sh hfew fun v sv w r h => ?_
   (refine stC h ?_; clear h; (try clear w); intro w h; dsimp only [putN, setN] at h)
   have h := fr1_ h
   exact hk2 _ w ⟨b8, v, sv, rfl, r, h⟩
 clear h; (try clear w)
 rintro z w ⟨b8, v, sv, rfl, rv, h⟩
 (try dsimp only)
 refine it (fun hc => ?_) (fun hc => ?_)
 ·have hc : (shRt a.sh e.name).2.2 = false := by simpa using hc
  rw [if_pos hc] at hk
  refine z5F h fun v s w r h => ?_
  exact ⟨v, rfl, hk v s _ w r hs0 (sysBack i hi (dl1_ (dl1_ (dl1_ h))))⟩
 have hc : (shRt a.sh e.name).2.2 = true := by simpa using hc
 rw [if_neg (by simp [hc])] at hk
 unfold ldTab ldNow at *
 unfold ldTab at *
 generalize (shRt a.sh e.name).1 = r at *
 refine z2u (fun (z : Addr × Int × Unit) w => ∃ (b18 : Nat) (q : HT [.slice, .slice]) (sx : Seg), z = (⟨b18, 0, none⟩, (resolve a.bk r).2, ()) ∧ (∀ E', TabR w0 (sx :: E') q (resolve a.bk r).1) ∧
  St w0 (sx :: [Cl b18 z03 [SlV q.1, SlV q.2.1]] :: [Cl b8 z0p [.string r.name, .string r.cfg, SlV v, I r.roll]] :: sv :: [Cl b1 z0D (eEw e)] :: sysC b p a.now :: sg :: sf :: ss :: sk :: sr :: sm :: (Q.map BsE.sg).flatten :: delN E i) w) (fun k12 hk12 => ?_) ?_
 ·(refine dr h ?_; clear h; (try clear w); intro w h; refine laC h ?_; refine nn ?_; refine ldC h ?_)
  refine alts2 ?_ ?_
  ·refine zhL (r := r) (v := v) h 7 rfl R.bk (Rw.re encT 1 rfl rv) hl hp fun q sx w hq h => ?_
   refine nw h ?_; clear h; (try clear w); intro b18 w h
   (refine ckC h ?_; refine ckC h ?_; refine stC h ?_; clear h; (try clear w); intro w h; dsimp only [putN, setN] at h)
   have h := fr1_ h
   exact hk12 _ w ⟨b18, q, sx, rfl, hq, h⟩
  ·refine nw h ?_; clear h; (try clear w); intro b18 w h
   (refine ckC h ?_; refine ckC h ?_)
   refine zhL (r := r) (v := v) h 8 rfl R.bk (Rw.re encT 2 rfl rv) hl hp fun q sx w hq h => ?_
   (refine stC h ?_; clear h; (try clear w); intro w h; dsimp only [putN, setN] at h)
   exact hk12 _ w ⟨b18, q, sx, rfl, hq, h⟩
 clear h; (try clear w)
 rintro z w ⟨b18, q, sx, rfl, hq, h⟩
 (try dsimp only)
 refine it (fun h2 => ?_) (fun h2 => ?_)
 ·have h2 : (resolve a.bk r).2 ≠ 0 := by simpa using h2
  rw [if_pos h2] at hk
  refine z5F h fun v s w r h => ?_
  exact ⟨v, rfl, hk v s _ w r hs0 (sysBack i hi (dl1_ (dl1_ (dl1_ (dl1_ (dl1_ h))))))⟩
 have h2 : ¬ (resolve a.bk r).2 ≠ 0 := by simpa using h2
 rw [if_neg h2] at hk
 (refine dr h ?_; clear h; (try clear w); intro w h; refine ldC h ?_; refine nn ?_; refine ldC h ?_; refine ldC h ?_; refine laC h ?_; refine nn ?_; refine ldC h ?_; refine ldC h ?_)
 refine znE (p := q) (t := (resolve a.bk r).1) h 10 rfl R.ro (hq _) hok hwb hnow hsi hroll hln fun q2 sy sr' w hR hq2 h => ?_
 dsimp only [setN] at h
 (refine ckC h ?_)
 refine zqt (p := q2) h (hq2 _) htb.sh htb.tg fun w h => ?_
 (refine ckC h ?_)
 refine nw h ?_; clear h; (try clear w); intro b32 w h
 refine lineS2 h (by decide) (by omega) htb.txt fun w h => ?_
 refine nw h ?_; clear h; (try clear w); intro b34 w h
 refine ⟨_, rfl, hk _ _ _ w (Rw.lit b34 [_] encS rfl rfl (by simp [maxLen])) ⟨p, sg, sf, ss, sk, sr', sm, Q, ⟨R.gt, R.fl, R.sh, R.bk, hR, R.mp, R.ea, R.ab⟩, rfl⟩ (sysBack i hi ?_)⟩
 exact dl1_ (dl1_ (dl1_ (dl1_ (dl1_ (dl1_ h)))))
theorem zgl {rev : ByteArray} {y : ABes} {sgg : Seg} {x : BsE} (hk : x.k = rev) {B : List BsE} : ∀ {A : List BsE}, ((A ++ x :: B).map BsE.k).Nodup → (A ++ ⟨x.k, x.b, x.g, y, sgg⟩ :: B).map BsE.ka = mset ((A ++ x :: B).map BsE.ka) rev y
 | [], _ => by
  subst hk
  simp [mset]
 | a :: A, hn => by
  have hn2 := hn
  rw [List.cons_append, List.map_cons, List.nodup_cons] at hn2
  have hne : ¬ a.k = rev := fun e => hn2.1 (by rw [e, ← hk]; simp)
  have ih := zgl hk (A := A) (y := y) (sgg := sgg) hn2.2
  rw [List.cons_append, List.map_cons, List.cons_append, List.map_cons, ih]
  simp only [mset]
  rw [if_neg hne]
def bnd (a : ASys) (e : AEv) : ByteArray := if (mget a.ro e.name).isSome = false then s_ else if e.tag = s_ then tPick (roTab a.ro e.name) e.draw else (tagL (roTab a.ro e.name).tg e.tag).1
theorem zpj (h : St w0 E w) (i : Nat) {b : Nat} {a : ASys} {s : Seg} (hi : nth E i = some s) (hs : SysS b a s) {e : AEv} (hd : 0 ≤ e.draw ∧ e.draw < 4611686018427387904) (hok : ∀ x, mget a.ro e.name = some x → x.Ok) (hwb : WBd (roTab a.ro e.name).sh) {k : ByteArray → PT}
  (hk : ∀ w', St w0 E w' → k (bnd a e) w') : L.call Pr z44 [.pointer (some ⟨b, 0, none⟩), evV e] (.one (.one .str)) k w := by
 obtain ⟨p, sg, sf, ss, sk, sr, sm, Q, R, rfl⟩ := hs
 refine z01 (za0 _ e.t) ?_
 unfold z6g
 unfold bnd at hk
 have h := (h.front i hi).split8
 refine nw h ?_; clear h; (try clear w); intro b1 w h
 (dsimp only [setN, List.cons_append, List.nil_append] at h; refine ldC h ?_)
 refine z01 (za1 _ _) ?_
 unfold z6h
 refine nw h ?_; clear h; (try clear w); intro b2 w h
 (refine nn ?_; refine ldC h ?_)
 refine zmg h 7 rfl R.ro hok fun q sx w hq h => ?_
 (refine stC h ?_; clear h; (try clear w); intro w h; dsimp only [putN, setN] at h; refine laC h ?_)
 refine ⟨(q, (mget a.ro e.name).isSome, ()), rfl, ?_⟩
 have fin : ∀ {w x}, (∀ w', St w0 E w' → k x w') → St w0 (sx :: [Cl b2 z03 [SlV q.1, SlV q.2.1]] :: [Cl b1 z0D (eEw e)] :: sysC b p a.now :: sg :: sf :: ss :: sk :: sr :: sm :: (Q.map BsE.sg).flatten :: delN E i) w → k x w := by
  intro w x hk h
  exact hk w (St.again i hi (dl0_ (dl0_ (dl0_ h))).glue8)
 refine nw h ?_; clear h; (try clear w); intro b4 w h
 (refine stC h ?_; clear h; (try clear w); intro w h; dsimp only [putN, setN] at h)
 refine it (fun hc => ?_) (fun hc => ?_)
 ·have hc : (mget a.ro e.name).isSome = false := by simpa using hc
  rw [if_pos hc] at hk
  exact ⟨_, rfl, fin hk (dl0_ h)⟩
 have hc : ¬ (mget a.ro e.name).isSome = false := fun e2 => by
  dsimp only at hc
  rw [e2] at hc
  exact absurd hc (by decide)
 rw [if_neg hc] at hk
 (refine ldC h ?_)
 rw [z3k]
 refine it (fun h2 => ?_) (fun h2 => ?_) <;> (try simp only [zB] at h2)
 ·rw [if_pos h2] at hk
  (refine laC h ?_; refine ldC h ?_)
  exact zqx (p := q) h (t := roTab a.ro e.name) (by
   have := hq ([Cl b2 z03 [SlV q.1, SlV q.2.1]] :: [Cl b1 z0D (eEw e)] :: sysC b p a.now :: sg :: sf :: ss :: sk :: sr :: sm :: (Q.map BsE.sg).flatten :: delN E i)
   exact this.there) hwb hd.1 hd.2 fun w h => ⟨_, rfl, fin hk (dl0_ h)⟩
 ·rw [if_neg h2] at hk
  (refine laC h ?_; refine ldC h ?_)
  exact zpm (p := q) h (t := roTab a.ro e.name) (by
   have := hq ([Cl b2 z03 [SlV q.1, SlV q.2.1]] :: [Cl b1 z0D (eEw e)] :: sysC b p a.now :: sg :: sf :: ss :: sk :: sr :: sm :: (Q.map BsE.sg).flatten :: delN E i)
   exact this.there) fun w h => ⟨_, rfl, fin hk (dl0_ h)⟩
abbrev arG (a : ASys) (e : AEv) : AFleet × AGate × Fate := gArr a.fl a.gt e.n (bnd a e) a.now
def pokes (a : ASys) (e : AEv) : Option ABes := match mget a.by' (bnd a e) with
 | some x => if (arG a e).2.2.2.1 = 2 ∧ x.want = 0 then some x else none
 | none => none
def sysArrive (a : ASys) (e : AEv) : ASys × List ByteArray := match pokes a e with
 | some x => ({ a with fl := (arG a e).1, gt := (arG a e).2.1, by' := mset a.by' (bnd a e) ⟨x.xs, 1, x.left⟩ }, [fateB (arG a e).2.2, lineB (lineB s_scale [bnd a e]) [decD 1]])
 | none => ({ a with fl := (arG a e).1, gt := (arG a e).2.1 }, [fateB (arG a e).2.2])
theorem zptr (w : World) : (zeroValue z4q).run Pr w = .ok ((E1.one .ptr).val (none : Option Addr)) w := by
 have h : (Pr.info? z4q).map (·.zero) = some (some (.pointer none)) := by kernel_rfl
 cases hi : Pr.info? z4q with
 | none => rw [hi] at h; cases h
 | some i => rw [hi] at h; simp only [Option.map_some, Option.some.injEq] at h; exact zv hi h w
theorem zfo {Q : List BsE} {rev : ByteArray} : mget (Q.map BsE.kp) rev = (lfind BsE.k Q rev).map fun x => some ⟨x.b, 0, none⟩ := z5C (key := BsE.k) (fun x : BsE => (some ⟨x.b, 0, none⟩ : Option Addr)) rev Q
theorem zfp {Q : List BsE} {rev : ByteArray} : mget (Q.map BsE.ka) rev = (lfind BsE.k Q rev).map BsE.x := z5C (key := BsE.k) BsE.x rev Q
theorem ziB [bTab w0] (h : St w0 E w) (i : Nat) {b : Nat} {a : ASys} {s : Seg} (hi : nth E i = some s) (hs : SysS b a s) {e : AEv} (hd : 0 ≤ e.draw ∧ e.draw < 4611686018427387904) (hok : ∀ x, mget a.ro e.name = some x → x.Ok) (hwb : WBd (roTab a.ro e.name).sh)
  (hfew : FFew a.fl) (hn : a.gt.all.length < 80000000) (hl : a.gt.lines.length < 90000000) (hnow : -1000000000000 < a.now + a.gt.pat ∧ a.now + a.gt.pat < 1000000000000) (hf : (arG a e).2.2.Ok) (hrv : (bnd a e).size ≤ 1000000)
  {k : Sl → PT} (hk : Hk w0 E i b (sysArrive a e) k) : z3P (some ⟨b, 0, none⟩) e.t (slK k) w := by
 have hs0 := hs
 obtain ⟨p, sg, sf, ss, sk, sr, sm, Q, R, rfl⟩ := hs
 unfold z3P
 refine nw h ?_; clear h; (try clear w); intro b1 w h
 (dsimp only [setN, List.cons_append, List.nil_append] at h; refine laC h ?_)
 refine zpj (e := e) h (i + 1) hi hs0 hd hok hwb fun w h => ?_
 unfold sysArrive pokes arG at hk
 unfold arG at hf
 generalize bnd a e = rev at *
 have h := (h.front (i + 1) hi).split8
 have h : St w0 (sysC b p a.now :: sg :: sf :: ss :: sk :: sr :: sm :: (Q.map BsE.sg).flatten :: [Cl b1 z0D (eEw e)] :: delN E i) w := h
 (refine dr h ?_; clear h; (try clear w); intro w h; refine nn ?_; refine ldC h ?_; refine ldC h ?_; refine nn ?_; refine ldC h ?_)
 have h := fr2_ (fr2_ h)
 refine zqj h R.gt R.fl hfew (by omega) hl hnow fun v sv sg' sf' w hr hG hF h => ?_
 generalize gArr a.fl a.gt e.n rev a.now = g at *
 have hone : ∀ f ∈ [g.2.2], f.Ok := fun f hff => by rw [List.mem_singleton.1 hff]; exact hf
 have hlen := Rw.len encF hr
 refine zhE h.nil (l := []) hr hone (by simp) (by decide) Rw.nil fun v2 s2 w r2 h => ?_
 simp only [List.nil_append, List.map_cons, List.map_nil] at r2
 (refine nn ?_; refine ldC h ?_)
 refine z01 (z38 _ _) ?_
 unfold z1X
 refine MpS.get2 mkStr zgS zptr (fun x : Option Addr => x) (fun _ => rfl) h 8 rfl R.mp ?_
 rw [R.ab, zfp] at hk
 rw [zfo]
 have close : ∀ {w} {vo : Sl} {so sm' : Seg} {Q' : List BsE} {by'' : List (ByteArray × ABes)} {out : List ByteArray}, by'' = Q'.map BsE.ka → MpS Value.string Value.pointer p.m (Q'.map BsE.kp) sm' → (∀ x ∈ Q', x.ok) → Rw eS z00 1 vo out so →
   (∀ v sv s' w', Rw eS z00 1 v out sv → SysS b { a with fl := g.1, gt := g.2.1, by' := by'' } s' → St w0 (sv :: setN E i s') w' → k v w') →
   St w0 (so :: sv :: sg' :: sf' :: sysC b p a.now :: ss :: sk :: sr :: sm' :: (Q'.map BsE.sg).flatten :: [Cl b1 z0D (eEw e)] :: delN E i) w →
   slK k (.slice vo.a vo.len vo.cap) w := by
  intro w vo so sm' Q' by'' out e1 hm hq ro hk h
  refine ⟨vo, rfl, hk vo so _ w ro ⟨p, sg', sf', ss, sk, sr, sm', Q', ⟨hG, hF, R.sh, R.bk, R.ro, hm, hq, e1⟩, rfl⟩ ?_⟩
  have h := dl1_ h
  have h := fr8_ (fr8_ (fr7_ (fr7_ (fr8_ (fr8_ (fr8_ (fr8_ (fr8_ h))))))))
  exact sysBack i hi (dl9_ h)
 cases hf2 : lfind BsE.k Q rev with
 | none =>
  rw [hf2] at hk
  dsimp only [Option.map] at hk ⊢
  refine ⟨(none, false, ()), rfl, ?_⟩
  refine jd ?_
  refine itF rfl ?_
  exact close rfl R.mp R.ea r2 hk h
 | some x =>
  have hmk := R.mp.nd
  obtain ⟨A, B, rfl, hxk⟩ := zae hf2
  rw [hf2] at hk
  dsimp only [Option.map] at hk ⊢
  refine ⟨(some ⟨x.b, 0, none⟩, true, ()), rfl, ?_⟩
  refine jd ?_
  refine itT rfl ?_
  refine itT (by rw [hlen]; rfl) ?_
  refine Rw.ix encF hr (by decide) (by simp) fun a16 ha => ?_
  refine Rw.ld encF h 1 rfl hr ha (x := g.2.2) (f := 1) rfl rfl rfl ?_
  refine it (fun h1 => ?_) (fun h1 => ?_)
  ·have h1 : g.2.2.2.1 = 2 := by simpa using h1
   have h := fr9_ h
   have h := h.pick
   have h := h.split
   (refine nn ?_; refine ldC h ?_)
   refine it (fun h2 => ?_) (fun h2 => ?_)
   ·have h2 : x.x.want = 0 := by simpa using h2
    rw [if_pos ⟨h1, h2⟩] at hk
    dsimp only at hk
    (refine nn ?_; refine stC h ?_; clear h; (try clear w); intro w h; dsimp only [putN, setN] at h)
    refine nw h ?_; clear h; (try clear w); intro b21 w h
    refine lineS1 h (by decide) (by omega) fun w h => ?_
    refine nw h ?_; clear h; (try clear w); intro b23 w h
    refine lineI1 h (by rw [z8h]; have : s_scale.size = 5 := rfl; omega) (by decide) (by decide) fun w h => ?_
    refine nw h ?_; clear h; (try clear w); intro b25 w h
    refine Rw.app encS elS h 3 rfl r2 (lineB (lineB s_scale [rev]) [decD 1]) rfl (by simp) (by simp) fun v' s' w r2' h => ?_
    dsimp only [setN] at h
    have h := h.glue
    have h : St w0 (BsE.sg ⟨x.k, x.b, x.g, ⟨x.x.xs, 1, x.x.left⟩, x.sgg⟩ :: ((A ++ B).map BsE.sg).flatten :: s' :: sv :: sg' :: sf' :: sysC b p a.now :: ss :: sk :: sr :: sm :: [Cl b1 z0D (eEw e)] :: delN E i) w := h
    have h := h.place
    have h := fr9_ (fr9_ (fr9_ (fr9_ (fr9_ (fr9_ (fr9_ (fr9_ (fr9_ h))))))))
    have et := zgl (rev := rev) (y := ⟨x.x.xs, 1, x.x.left⟩) (sgg := x.sgg) hxk (B := B) (A := A) (by simpa [List.map_map, Function.comp_def] using hmk)
    refine close (Q' := A ++ ⟨x.k, x.b, x.g, ⟨x.x.xs, 1, x.x.left⟩, x.sgg⟩ :: B) et.symm (by simpa using R.mp) (fun y hy => ?_) r2' hk h
    rcases List.mem_append.1 hy with hy | hy
    ·exact R.ea y (by simp [hy])
    ·rcases List.mem_cons.1 hy with rfl | hy
     ·exact R.ea x (by simp)
     ·exact R.ea y (by simp [hy])
   ·have h2 : ¬ x.x.want = 0 := by simpa using h2
    rw [if_neg (fun hh => h2 hh.2)] at hk
    have h := h.glue
    have h := St.place (g := BsE.sg) (t := x) h
    have h := fr9_ (fr9_ (fr9_ (fr9_ (fr9_ (fr9_ (fr9_ (fr9_ (fr9_ h))))))))
    exact close rfl R.mp R.ea r2 hk h
  ·have h1 : ¬ g.2.2.2.1 = 2 := by simpa using h1
   rw [if_neg (fun hh => h1 hh.1)] at hk
   exact close rfl R.mp R.ea r2 hk h
def wantB (m : List (ByteArray × ABes)) (rev : ByteArray) : Int := ((mget m rev).map ABes.want).getD 0
theorem zm8 (h : St w0 E w) {b : Nat} {p : Bls} {now : Int} {sm : Seg} {Q : List BsE} {i j l : Nat} (hi : nth E i = some (sysC b p now)) (hj : nth E j = some sm) (hl : nth E l = some (Q.map BsE.sg).flatten) (hm : MpS Value.string Value.pointer p.m (Q.map BsE.kp) sm) {rev : ByteArray} {k : Int → PT} (hk : k (wantB (Q.map BsE.ka) rev) w) :
  L.call Pr z4D [.pointer (some ⟨b, 0, none⟩), .string rev] (.one (.one (.int .i64))) k w := by
 refine z01 (zat _ _) ?_
 unfold z6C
 have h0 := h
 have h := h0.front i hi
 unfold wantB at hk
 rw [zfp] at hk
 (refine nn ?_; refine ldC h ?_)
 refine z01 (z38 _ _) ?_
 unfold z1X
 refine MpS.get2 mkStr zgS zptr (fun x : Option Addr => x) (fun _ => rfl) h0 j hj hm ?_
 rw [zfo]
 cases hf : lfind BsE.k Q rev with
 | none =>
  rw [hf] at hk
  refine ⟨(none, false, ()), rfl, ?_⟩
  exact itF rfl ⟨_, rfl, hk⟩
 | some x =>
  rw [hf] at hk
  obtain ⟨A, B, rfl, hxk⟩ := zae hf
  refine ⟨(some ⟨x.b, 0, none⟩, true, ()), rfl, ?_⟩
  refine itT rfl ?_
  have h := ((h0.front l hl).pick).split
  (refine nn ?_; refine ldC h ?_)
  exact ⟨_, rfl, hk⟩
def cnt (q : Int → Bool) (l : List (Int × Int × Int)) : Int := ((l.filter fun x => q x.2.1).length : Int)
theorem zkt (h : St w0 E w) {b : Nat} {p : Bls} {now : Int} {sf : Seg} {F : AFleet} {i j : Nat} (hi : nth E i = some (sysC b p now)) (hj : nth E j = some sf) (hf : FlS p.f F sf) {rev : ByteArray} {fv : FV} {q : Int → Bool} (hlen : (fPods F.l rev).length < 1000000)
  (hq : ∀ {E' : List Seg} {w : World} {x : Int} {k : Bool → PT}, St w0 E' w → (∀ w', St w0 E' w' → k (q x) w') → L.callV Pr (.func fv.fn fv.fs fv.cs) [I x] (.one (.one .bool)) k w) {k : Int → PT} (hk : ∀ w', St w0 E w' → k (cnt q (fPods F.l rev)) w') :
  L.call Pr z43 [.pointer (some ⟨b, 0, none⟩), .string rev, fv.val] (.one (.one (.int .i64))) k w := by
 refine z01 (z9Z _ _ fv) ?_
 unfold z6f
 refine z01 (zau _ _) ?_
 unfold z6D
 have h0 := h
 have h := h0.front i hi
 (refine nn ?_; refine ldC h ?_)
 refine zpg h0 j hj hf fun v s w hr h => ⟨v, rfl, ?_⟩
 clear h0
 generalize fPods F.l rev = l at *
 have hln := Rw.len encK hr
 refine z0N (fun m y w => ∃ (j : Nat), @Eq Int y.2.1 j ∧ m + j = l.length ∧ @Eq Int y.1 (cnt q (l.take j)) ∧ St w0 (s :: E) w) l.length ⟨0, rfl, rfl, rfl, h⟩ ?_
 clear h; (try clear w)
 rintro m ⟨n, y, ⟨⟩⟩ w ⟨j, hy, hm, hn, h⟩ again hag
 (try dsimp only)
 simp only at hy hn
 subst hy
 refine it (fun hb => ?_) (fun hb => ?_) <;> (try simp only [zB] at hb)
 ·have hj : j < l.length := by omega
  have hx : l[j]? = some l[j] := List.getElem?_eq_getElem hj
  have et : cnt q (l.take (j + 1)) = cnt q (l.take j) + (if q l[j].2.1 = true then 1 else 0) := by
   unfold cnt
   rw [List.take_succ, hx, Option.toList_some, List.filter_append, List.length_append]
   by_cases hc : q l[j].2.1 = true
   ·simp [hc]
   ·simp [hc]
  have hle : 0 ≤ cnt q (l.take j) ∧ cnt q (l.take j) ≤ j := by
   unfold cnt
   have := List.length_filter_le (fun x : Int × Int × Int => q x.2.1) (l.take j)
   rw [List.length_take] at this
   omega
  generalize l[j] = x at hx et
  obtain ⟨x1, x2, x3⟩ := x
  refine jd ?_
  refine Rw.ix encK hr (by omega) (by simpa using hj) fun a ha => ?_
  refine Rw.lda encK h 0 rfl hr ha (x := (x1, x2, x3)) (by simpa using hx) rfl ?_
  refine nw h ?_; clear h; (try clear w); intro b8 w h
  (refine stC h ?_; clear h; (try clear w); intro w h; dsimp only [putN, setN] at h; refine ldC h ?_)
  refine hq h fun w h => ?_
  have h := dl0_ h
  dsimp only at et
  refine it (fun hc => ?_) (fun hc => ?_)
  ·rw [if_pos hc] at et
   refine hag (m - 1) _ w (by omega) ⟨j + 1, ?_, by omega, ?_, h⟩
   ·show IntKind.wrap .i64 _ = _
    rw [wr (by omega) (by omega)]; omega
   ·show IntKind.wrap .i64 (n + 1) = _
    rw [et, hn, wr (by omega) (by omega)]
  ·rw [if_neg (by rw [hc]; decide)] at et
   refine hag (m - 1) _ w (by omega) ⟨j + 1, ?_, by omega, ?_, h⟩
   ·show IntKind.wrap .i64 _ = _
    rw [wr (by omega) (by omega)]; omega
   ·show n = _
    rw [et, hn]; omega
 ·have e : l.take j = l := List.take_of_length_le (by omega)
  rw [e] at hn
  have := hk w (dl0_ h)
  rw [← hn] at this
  exact ⟨_, rfl, this⟩
abbrev pdWant (a : ASys) (n : ByteArray) : Int := wantB a.by' n
abbrev pdConc (a : ASys) (n : ByteArray) : Int := @id Int (bkGet a.bk n).2.2.2.2.1
abbrev pdFl (a : ASys) (n : ByteArray) : AFleet := (fScale a.fl n (pdConc a n) (pdWant a n)).1
abbrev numL (word : ByteArray) (l : List Int) : List ByteArray := l.map fun x => lineB word [decD x.toNat]
def sysPods (a : ASys) (e : AEv) : ASys × List ByteArray :=
 if bkHas a.bk e.name = false then (a, refusedB 6)
 else ({ a with fl := pdFl a e.name }, numL zld (fMade a.fl e.name (pdWant a e.name)) ++ numL znZ (fScale a.fl e.name (pdConc a e.name) (pdWant a e.name)).2 ++ [lineB (lineB s_fleet [e.name]) [decD (cnt (fun s => s != 3) (fPods (pdFl a e.name).l e.name)).toNat]])
theorem zlq [bTab w0] {word : ByteArray} {v : Sl} {l : List Int} {X : List ByteArray} {vo : Sl} {si so : Seg} (hr : Rw eI z0d 1 v l si) (hl : l.length < 1000000) (hX : X.length < 1000000) (hb : ∀ x ∈ l, 0 ≤ x ∧ x ≤ 9000000000000000000) (hw : word.size ≤ 1000) (ro : Rw eS z00 1 vo X so) {k : Sl × Int × Unit → PT}
  (h : St w0 (so :: si :: E) w) (hk : ∀ v' s' m w', Rw eS z00 1 v' (X ++ numL word l) s' → St w0 (s' :: si :: E) w' → k (v', m, ()) w') :
  L.loop (Y := Sl × Int × Unit) (⟨vo.a, vo.len, vo.cap⟩, 0, ()) (fun y19 again20 =>
   L.ite (decide (y19.2.1 < ((v.len : Nat) : Int))) (
    L.idx v.a y19.2.1 v.len 1 fun a21 =>
    L.load (.one (.int .i64)) a21 fun (x22 : Int) =>
    L.new [.int .i64 x22] z0d fun b23 =>
    L.call Pr z0e [.string word, .slice (some ⟨b23, 0, none⟩) 1 1] (.one (.one (.str))) fun (x24 : ByteArray) =>
    L.new [.string x24] z00 fun b25 =>
    L.sem Pr (.one (.one .slice)) (Builtin.append_ #[z06, z06] z06 #[.slice y19.1.a y19.1.len y19.1.cap, .slice (some ⟨b25, 0, none⟩) 1 1]) fun (s26 : Sl) =>
    again20 (⟨s26.a, s26.len, s26.cap⟩, IntKind.wrap .i64 (y19.2.1 + 1), ())) <|
   k y19) w := by
 have hln := Rw.len encI hr
 refine z0N (fun q y w => ∃ (j : Nat) (s3 : Seg), @Eq Int y.2.1 j ∧ q + j = l.length ∧ Rw eS z00 1 y.1 (X ++ numL word (l.take j)) s3 ∧ St w0 (s3 :: si :: E) w) l.length ⟨0, so, rfl, by simp, by simpa using ro, h⟩ ?_
 clear ro
 clear h; (try clear w)
 rintro q ⟨vo, y, ⟨⟩⟩ w ⟨j, s3, hy, hq, r3, h⟩ again hag
 (try dsimp only)
 simp only at hy r3
 subst hy
 refine it (fun hb2 => ?_) (fun hb2 => ?_) <;> (try simp only [zB] at hb2)
 ·have hj : j < l.length := by omega
  have hx : l[j]? = some l[j] := List.getElem?_eq_getElem hj
  have hbx := hb l[j] (List.getElem_mem hj)
  have et : numL word (l.take (j + 1)) = numL word (l.take j) ++ [lineB word [decD (l[j]).toNat]] := by unfold numL; rw [List.take_succ, hx, List.map_append]; rfl
  generalize l[j] = x at hx et hbx
  refine Rw.ix encI hr (by omega) (by simpa using hj) fun a ha => ?_
  refine Rw.ld0 encI h 1 rfl hr ha (x := x) (by simpa using hx) rfl rfl ?_
  refine nw h ?_; clear h; (try clear w); intro b23 w h
  refine lineI1 h (by omega) hbx.1 hbx.2 fun w h => ?_
  refine nw h ?_; clear h; (try clear w); intro b25 w h
  refine Rw.app encS elS h 0 rfl r3 (lineB word [decD x.toNat]) rfl (by simp; omega) (by simp; omega) fun v' s3' w r3' h => ?_
  refine hag (q - 1) _ w (by omega) ⟨j + 1, s3', ?_, by omega, by rw [et, ← List.append_assoc]; exact r3', h⟩
  show IntKind.wrap .i64 _ = _
  rw [wr (by omega) (by omega)]; omega
 ·have e : l.take j = l := List.take_of_length_le (by omega)
  rw [e] at r3
  exact hk vo s3 _ w r3 h
theorem zma [bTab w0] (h : St w0 E w) (i : Nat) {b : Nat} {a : ASys} {s : Seg} (hi : nth E i = some s) (hs : SysS b a s) {e : AEv} (hroom : a.fl.room < 1000000) (hlast : a.fl.last + a.fl.room < 4611686018427387904) (hname : e.name.size ≤ 100000)
  (hmade : ∀ x ∈ fMade a.fl e.name (pdWant a e.name), 0 ≤ x ∧ x ≤ 9000000000000000000) (hmn : (fMade a.fl e.name (pdWant a e.name)).length < 100000) (hgone : ∀ x ∈ (fScale a.fl e.name (pdConc a e.name) (pdWant a e.name)).2, 0 ≤ x ∧ x ≤ 9000000000000000000) (hgn : (fScale a.fl e.name (pdConc a e.name) (pdWant a e.name)).2.length < 100000)
  (hpn : (fPods (pdFl a e.name).l e.name).length < 1000000) {k : Sl → PT} (hk : Hk w0 E i b (sysPods a e) k) : z2s (some ⟨b, 0, none⟩) e.t (slK k) w := by
 have hs0 := hs
 obtain ⟨p, sg, sf, ss, sk, sr, sm, Q, R, rfl⟩ := hs
 unfold z2s
 unfold sysPods at hk
 have h := (h.front i hi).split8
 refine nw h ?_; clear h; (try clear w); intro b1 w h
 refine z2u (fun (z : Addr × Bool × Unit) w => ∃ b8 : Nat, z = (⟨b8, 0, none⟩, bkHas a.bk e.name, ()) ∧
  St w0 ([Cl b8 z0m (rvC (bkGet a.bk e.name))] :: [Cl b1 z0D (eEw e)] :: sysC b p a.now :: sg :: sf :: ss :: sk :: sr :: sm :: (Q.map BsE.sg).flatten :: delN E i) w) (fun k2 hk2 => ?_) ?_
 ·(dsimp only [setN, List.cons_append, List.nil_append] at h; refine dr h ?_; clear h; (try clear w); intro w h; refine nn ?_; refine ldC h ?_; refine ldC h ?_)
  refine alts2 ?_ ?_
  ·refine zeu h 5 rfl R.bk fun w h => ?_
   refine nw h ?_; clear h; (try clear w); intro b8 w h
   (refine ckC h ?_; refine ckC h ?_; refine stC h ?_; clear h; (try clear w); intro w h; dsimp only [putN, setN] at h)
   exact hk2 _ w ⟨b8, rfl, h⟩
  ·refine nw h ?_; clear h; (try clear w); intro b8 w h
   (refine ckC h ?_; refine ckC h ?_)
   refine zeu h 6 rfl R.bk fun w h => ?_
   (refine stC h ?_; clear h; (try clear w); intro w h; dsimp only [putN, setN] at h)
   exact hk2 _ w ⟨b8, rfl, h⟩
 clear h; (try clear w)
 rintro z w ⟨b8, rfl, h⟩
 (try dsimp only)
 refine it (fun hc => ?_) (fun hc => ?_)
 ·have hc : bkHas a.bk e.name = false := by simpa using hc
  rw [if_pos hc] at hk
  refine z5F h fun v s w r h => ?_
  exact ⟨v, rfl, hk v s _ w r hs0 (sysBack i hi (dl1_ (dl1_ h)))⟩
 have hc : ¬ bkHas a.bk e.name = false := by simpa using hc
 rw [if_neg hc] at hk
 (refine dr h ?_; clear h; (try clear w); intro w h; refine nn ?_; refine ldC h ?_; refine ldC h ?_; rw [z2E]; refine ldC h ?_; refine ldC h ?_)
 refine zm8 h (i := 2) (j := 8) (l := 9) rfl rfl rfl R.mp ?_
 (refine ckC h ?_; refine ckC h ?_; refine ckC h ?_)
 have ew : wantB (Q.map BsE.ka) e.name = pdWant a e.name := by unfold pdWant; rw [R.ab]
 rw [ew]
 have hF0 := R.fl
 unfold pdFl at *
 refine znI (conc := pdConc a e.name) h 4 rfl R.fl (by omega) hlast fun v1 v2 sf' s1 s2 w hF r1 r2 h => ?_
 dsimp only [setN] at h
 generalize fScale a.fl e.name (pdConc a e.name) (pdWant a e.name) = g at *
 generalize fMade a.fl e.name (pdWant a e.name) = made at *
 obtain ⟨F, gone⟩ := g
 dsimp only at *
 have h := fr1_ h
 refine zlq (vo := ⟨none, 0, 0⟩) (X := []) r1 (by omega) (by simp) hmade (by decide) Rw.nil h.nil fun v3 s3 m w r3 h => ?_
 have h := fr2_ (fr2_ (fr1_ h))
 refine zlq r2 (by omega) (by simp [numL]; omega) hgone (by decide) r3 h fun v4 s4 m w r4 h => ?_
 (refine ldC h ?_)
 refine zkt h (i := 5) (j := 7) rfl rfl hF (fv := ⟨.func z2K, #[], #[]⟩) (q := fun s => s != 3) hpn (fun {E' w x k} h hk => ?_) fun w h => ?_
 ·refine z4p (fs := #[]) (cs := #[]) z9b (z9e x) ?_
  unfold z5Q
  exact ⟨_, rfl, hk w h⟩
 (refine ldC h ?_)
 have hcn : 0 ≤ cnt (fun s => s != 3) (fPods F.l e.name) ∧ cnt (fun s => s != 3) (fPods F.l e.name) ≤ 1000000 := by
  unfold cnt
  have := List.length_filter_le (fun x : Int × Int × Int => (fun s => s != 3) x.2.1) (fPods F.l e.name)
  refine ⟨Int.natCast_nonneg _, ?_⟩
  have h2 : ((fPods F.l e.name).filter fun x : Int × Int × Int => (fun s => s != 3) x.2.1).length ≤ 1000000 := by omega
  exact Int.ofNat_le.2 h2
 generalize cnt (fun s => s != 3) (fPods F.l e.name) = n at *
 refine nw h ?_; clear h; (try clear w); intro b38 w h
 refine lineS1 h (by decide) (by omega) fun w h => ?_
 refine nw h ?_; clear h; (try clear w); intro b40 w h
 refine lineI1 h (by rw [z8h]; have : s_fleet.size = 5 := rfl; omega) hcn.1 (by omega) fun w h => ?_
 refine nw h ?_; clear h; (try clear w); intro b42 w h
 refine Rw.app encS elS h 0 rfl r4 (lineB (lineB s_fleet [e.name]) [decD n.toNat]) rfl (by simp [numL]; omega) (by simp [numL]; omega) fun v5 s5 w r5 h => ?_
 refine ⟨v5, rfl, hk v5 s5 _ w (by simpa using r5) ⟨p, sg, sf', ss, sk, sr, sm, Q, ⟨R.gt, hF, R.sh, R.bk, R.ro, R.mp, R.ea, R.ab⟩, rfl⟩ (sysBack i hi ?_)⟩
 exact dl1_ (dl1_ (dl1_ (dl1_ h)))
def busyB (G : AGate) (rev : ByteArray) : Int := ((gWait G rev).length : Int) + (gWith G.all rev).length
def tkStep (G : AGate) (m : List (ByteArray × ABes)) (rev : ByteArray) : List (ByteArray × ABes) := match mget m rev with
 | some x => mset m rev ⟨x.xs ++ [if 0 > busyB G rev then 0 else busyB G rev], x.want, x.left⟩
 | none => m
abbrev tkG (a : ASys) : AGate × List Fate := gTick a.gt (a.now + 1)
def sysTick (a : ASys) : ASys × List ByteArray :=
 if a.now ≥ 1048576 then (a, refusedB 9)
 else ({ a with gt := (tkG a).1, now := a.now + 1, by' := (bkAll a.bk).foldl (tkStep (tkG a).1) a.by' }, lineB zl9 [decD (a.now + 1).toNat] :: (tkG a).2.map fateB)
theorem zm9 [bTab w0] (h : St w0 E w) (i : Nat) {b : Nat} {a : ASys} {s : Seg} (hi : nth E i = some s) (hs : SysS b a s) {e : AEv} (hnow : 0 ≤ a.now) (hwk : GWk a.gt) (hfl : (tkG a).2.length < 90000000) (hf : ∀ f ∈ (tkG a).2, f.Ok)
  (hby : ∀ rev ∈ bkAll a.bk, (mget a.by' rev).isSome = true) (hxs : ∀ x ∈ a.by', x.2.xs.length < 1000000000) (hfb : a.bk.all.length < 1000000) {k : Sl → PT} (hk : Hk w0 E i b (sysTick a) k) : z4F (some ⟨b, 0, none⟩) e.t (slK k) w := by
 have hs0 := hs
 obtain ⟨p, sg, sf, ss, sk, sr, sm, Q, R, rfl⟩ := hs
 unfold z4F
 unfold sysTick tkG at hk
 unfold tkG at hfl hf
 have h := (h.front i hi).split8
 refine nw h ?_; clear h; (try clear w); intro b1 w h
 (dsimp only [setN, List.cons_append, List.nil_append] at h; refine nn ?_; refine ldC h ?_)
 refine it (fun hc => ?_) (fun hc => ?_) <;> (try simp only [zB] at hc)
 ·rw [if_pos hc] at hk
  refine z5F h fun v s w r h => ?_
  exact ⟨v, rfl, hk v s _ w r hs0 (sysBack i hi (dl1_ h))⟩
 rw [if_neg hc] at hk
 (refine nn ?_; refine ldC h ?_; refine nn ?_; refine stC h ?_; clear h; (try clear w); intro w h; dsimp only [putN, setN] at h; refine dr h ?_; clear h; (try clear w); intro w h; refine nn ?_; refine ldC h ?_; refine nn ?_; refine ldC h ?_)
 rw [wr (by omega) (by omega)] at h ⊢
 have h := fr2_ h
 refine zpc h R.gt hwk hfl fun v sv sg' w hr hG h => ?_
 generalize gTick a.gt (a.now + 1) = g at *
 refine z01 (z88 _) ?_
 unfold z4M
 (refine nn ?_; refine ldC h ?_)
 refine zpl h 6 rfl R.bk fun v2 s2 w r2 h => ⟨v2, rfl, ?_⟩
 have hnl : (bkAll a.bk).length < 1000000 := by unfold bkAll; rw [z2x, List.length_map]; exact hfb
 generalize bkAll a.bk = l at *
 have hln := Rw.len encS r2
 let EV : Seg := [Cl b1 z0D (eEw e)]
 refine z0N (fun m y w => ∃ (j : Nat) (sg2 : Seg) (Q2 : List BsE), @Eq Int y.1 j ∧ m + j = l.length ∧ GtS p.g p.f g.1 sg2 ∧ Q2.map BsE.kp = Q.map BsE.kp ∧ (∀ x ∈ Q2, x.ok) ∧ Q2.map BsE.ka = (l.take j).foldl (tkStep g.1) a.by' ∧ (∀ x ∈ Q2, x.x.xs.length < 1000000000 + j) ∧
  St w0 (s2 :: sv :: sg2 :: EV :: sysC b p (a.now + 1) :: sf :: ss :: sk :: sr :: sm :: (Q2.map BsE.sg).flatten :: delN E i) w) l.length ⟨0, sg', Q, rfl, rfl, hG, rfl, R.ea, R.ab.symm, fun x hx => by have := hxs _ (by rw [R.ab]; exact List.mem_map_of_mem hx); simpa using this, h⟩ ?_
 clear h; (try clear w)
 rintro m ⟨y, ⟨⟩⟩ w ⟨j, sg2, Q2, hy, hm, hG2, ekp, ok2, eka, hx2, h⟩ again hag
 (try dsimp only)
 simp only at hy
 subst hy
 refine it (fun hb => ?_) (fun hb => ?_) <;> (try simp only [zB] at hb)
 ·have hj : j < l.length := by omega
  have hx : l[j]? = some l[j] := List.getElem?_eq_getElem hj
  have hin : (mget (Q2.map BsE.ka) l[j]).isSome = true := by
   have h1 := hby l[j] (List.getElem_mem hj)
   rw [R.ab, zfp, Option.isSome_map] at h1
   have h2 : (mget (Q2.map BsE.kp) l[j]).isSome = true := by rw [ekp, zfo, Option.isSome_map]; exact h1
   rw [zfo, Option.isSome_map] at h2
   rw [zfp, Option.isSome_map]; exact h2
  have et : (l.take (j + 1)).foldl (tkStep g.1) a.by' = tkStep g.1 (Q2.map BsE.ka) l[j] := by rw [eka, List.take_succ, hx, List.foldl_append]; rfl
  generalize l[j] = rev at *
  have hm2 : MpS Value.string Value.pointer p.m (Q2.map BsE.kp) sm := by rw [ekp]; exact R.mp
  rw [zfp, Option.isSome_map] at hin
  obtain ⟨x, hfx⟩ := Option.isSome_iff_exists.1 hin
  have hmk := hm2.nd
  refine Rw.ix encS r2 (by omega) (by simpa using hj) fun ea ha => ?_
  refine Rw.ld0 encS h 0 rfl r2 ha (x := rev) (by simpa using hx) rfl rfl ?_
  (refine dr h ?_; clear h; (try clear w); intro w h; refine nn ?_; refine ldC h ?_)
  have hlk : ((mget (Q2.map BsE.kp) rev).map fun x : Option Addr => x).getD none = some ⟨x.b, 0, none⟩ := by rw [zfo, hfx]; rfl
  refine MpS.get mkStr zgS zptr (fun x : Option Addr => x) (fun _ => rfl) h 9 rfl hm2 ?_
  rw [hlk]
  obtain ⟨A, B, rfl, hxk⟩ := zae hfx
  have h := zbG h
  have h := h.pick.split
  (refine nn ?_; refine ldC h ?_; refine nn ?_; refine ldC h ?_)
  have h := fr5_ h
  refine zpe h hG2 fun sg3 w hG3 h => ?_
  (refine ckC h ?_)
  refine MpS.chk mkStr zgS (z := .pointer none) zptr h 12 rfl hm2 (by rw [zfo, hfx]; rfl) ?_
  (refine ckC h ?_)
  have hox := ok2 x (by simp)
  have hlx := hx2 x (by simp)
  refine zpb h 2 rfl hox (by omega) fun sgg w hga h => ?_
  dsimp only [setN] at h
  have hbu : ((gWait g.1 rev).length : Int) + (gWith g.1.all rev).length = busyB g.1 rev := rfl
  rw [hbu] at hga
  have h := fr2_ (fr2_ h)
  have h := h.glue
  have h := fr1_ (fr2_ h)
  have h : St w0 (BsE.sg ⟨x.k, x.b, x.g, ⟨x.x.xs ++ [if 0 > busyB g.1 rev then 0 else busyB g.1 rev], x.x.want, x.x.left⟩, sgg⟩ :: ((A ++ B).map BsE.sg).flatten :: sg3 :: s2 :: sv :: EV :: sysC b p (a.now + 1) :: sf :: ss :: sk :: sr :: sm :: delN E i) w := h
  have h := h.place
  have et2 := zgl (rev := rev) (y := ⟨x.x.xs ++ [if 0 > busyB g.1 rev then 0 else busyB g.1 rev], x.x.want, x.x.left⟩) (sgg := sgg) hxk (B := B) (A := A) (by simpa [List.map_map, Function.comp_def] using hmk)
  refine hag (m - 1) _ w (by omega) ⟨j + 1, sg3, A ++ ⟨x.k, x.b, x.g, ⟨x.x.xs ++ [if 0 > busyB g.1 rev then 0 else busyB g.1 rev], x.x.want, x.x.left⟩, sgg⟩ :: B, ?_, by omega, hG3, ?_, ?_, ?_, ?_, ?_⟩
  ·show IntKind.wrap .i64 _ = _
   rw [wr (by omega) (by omega)]; omega
  ·rw [← ekp]; simp
  ·intro y hy
   rcases List.mem_append.1 hy with hy | hy
   ·exact ok2 y (by simp [hy])
   ·rcases List.mem_cons.1 hy with rfl | hy
    ·exact hga
    ·exact ok2 y (by simp [hy])
  ·rw [et, et2]
   unfold tkStep
   rw [zfp, hfx]
   rfl
  ·intro y hy
   rcases List.mem_append.1 hy with hy | hy
   ·have := hx2 y (by simp [hy]); omega
   ·rcases List.mem_cons.1 hy with rfl | hy
    ·simp; omega
    ·have := hx2 y (by simp [hy]); omega
  ·have h := zbG (zbG (fr8_ (zbG (zbG (zbG (zbG (zbG (zbG (zbG h)))))))))
   exact h
 ·have ej : l.take j = l := List.take_of_length_le (by omega)
  rw [ej] at eka
  (refine nn ?_; refine ldC h ?_)
  refine nw h ?_; clear h; (try clear w); intro b29 w h
  refine lineI1 h (by decide) (by omega) (by omega) fun w h => ?_
  refine nw h ?_; clear h; (try clear w); intro b31 w h
  have h := fr1_ (fr2_ h)
  refine zhE h (l := [lineB zl9 [decD (a.now + 1).toNat]]) hr hf (by omega) (by simp) (Rw.lit b31 [_] encS rfl rfl (by simp [maxLen])) fun v s w r h => ?_
  refine ⟨v, rfl, hk v s _ w r ⟨p, sg2, sf, ss, sk, sr, sm, Q2, ⟨hG2, R.fl, R.sh, R.bk, R.ro, by rw [ekp]; exact R.mp, ok2, eka.symm⟩, rfl⟩ (sysBack i hi ?_)⟩
  have h := dl1_ (dl2_ (dl4_ h))
  have h := fr2_ (fr2_ (fr1_ h))
  exact h
end Go.Proofs.YtmbidnhdfdnihaaGreatDoor
namespace Go.Proofs.YtmbidnhdfdnihaaGreatDoor
open Go.Dm
theorem zqJ {P : Program} {r : RT} {s : Sem Value} {k : r.T → PT} {w : World} (x : r.T) (h : s.run P w = .ok (r.val x) w) (hk : k x w) : L.semR P r s k w := ⟨x, h, hk⟩
theorem zkn {P : Program} {fv : Value} {args : List Value} {r : RT} {k k' : r.T → PT} {w : World} (h : L.callV P fv args r k w) (hm : ∀ x w, k x w → k' x w) : L.callV P fv args r k' w := FCall.mono h fun _ _ ⟨x, e, hk⟩ => ⟨x, e, hm x _ hk⟩
attribute [local irreducible] L.load L.store L.chk L.new L.nonnil L.guard L.ite L.draw L.idx L.sem L.semR L.semU L.chkSem L.next L.call L.callV L.join L.alts L.loop L.begin L.endRound L.range
variable {w0 w : World} {E : List Seg}
def mV (b : Nat) (f : FuncId) : Value := .func (.func f) #[.pointer (some ⟨b, 0, none⟩)] #[]
def doM : List (Int × FuncId) := [(1, z1x), (2, z1F), (3, z4B), (4, z1y), (5, z4C), (6, z2m), (7, z0Y), (8, z0Y), (9, z1P), (10, z1E), (11, z1Q), (12, z42), (13, z1u)]
theorem z7L : Pr.underlying z02 = some (.map z0d z2d) := by kernel_rfl
theorem zfun (w : World) : (zeroValue z2d).run Pr w = .ok .nilFunc w := by
 have h : (Pr.info? z2d).map (·.zero) = some (some .nilFunc) := by kernel_rfl
 cases hi : Pr.info? z2d with
 | none => rw [hi] at h; cases h
 | some i => rw [hi] at h; simp only [Option.map_some, Option.some.injEq] at h; exact zv hi h w
theorem zpi (h : St w0 E w) {b : Nat} {e : AEv} (hb : chkEv e ≠ 0) (hn : e.kind = 12 ∨ e.kind = 13 → RevN e.name) (rd : RdE w0 E eT e.v e.r.ts) (hvc : e.v.len ≤ e.v.cap) (hrv : ∀ t ∈ e.r.ts, revOk t.1) {k : Sl → PT}
  (hk : ∀ v sv w', Rw eS z00 1 v [lineB zlf [errB (chkEv e)]] sv → St w0 (sv :: E) w' → k v w') : L.call Pr z05 [.pointer (some ⟨b, 0, none⟩), evV e] (.one (.one .slice)) k w := by
 refine z01 (z84 _ e.t) ?_
 unfold z5H
 refine nw h ?_; clear h; (try clear w); intro b1 w h
 (dsimp only [setN, List.cons_append, List.nil_append] at h; refine laC h ?_)
 refine zhJ (e := e) h hn (fun w h => rd w (dl0_ h)) hvc hrv fun w h => ?_
 refine itT (by simpa using hb) ?_
 refine zmq ?_
 refine nw h ?_; clear h; (try clear w); intro b5 w h
 have := zlR (chkEv e)
 refine lineS1 h (by decide) (by omega) fun w h => ?_
 refine nw h ?_; clear h; (try clear w); intro b7 w h
 exact ⟨_, rfl, hk _ _ w (Rw.lit b7 [_] encS rfl rfl (by simp [maxLen])) (dl1_ h)⟩
theorem S_do (h : St w0 E w) {b : Nat} {e : AEv} (hb : chkEv e = 0) (hn : e.kind = 12 ∨ e.kind = 13 → RevN e.name) (rd : RdE w0 E eT e.v e.r.ts) (hvc : e.v.len ≤ e.v.cap) (hrv : ∀ t ∈ e.r.ts, revOk t.1) {f : FuncId} (hf : mget doM e.kind = some f) {k : Sl → PT}
  (hh : ∀ (s1 s2 : Seg) w', St w0 (s1 :: s2 :: E) w' → L.callV Pr (.func (.func f) #[.pointer (some ⟨b, 0, none⟩)] #[]) [evV e] (.one (.one .slice)) k w') : L.call Pr z05 [.pointer (some ⟨b, 0, none⟩), evV e] (.one (.one .slice)) k w := by
 refine z01 (z84 _ e.t) ?_
 unfold z5H
 refine nw h ?_; clear h; (try clear w); intro b1 w h
 (dsimp only [setN, List.cons_append, List.nil_append] at h; refine laC h ?_)
 refine zhJ (e := e) h hn (fun w h => rd w (dl0_ h)) hvc hrv fun w h => ?_
 refine itF (by simpa using hb) ?_
 refine MpS.new h KI (mV b) fun r s w hm h => ?_
 refine MpS.set mkI z7L h 0 rfl hm z1x rfl fun s w hm h => ?_
 refine MpS.set mkI z7L h 0 rfl hm z1F rfl fun s w hm h => ?_
 refine MpS.set mkI z7L h 0 rfl hm z4B rfl fun s w hm h => ?_
 refine MpS.set mkI z7L h 0 rfl hm z1y rfl fun s w hm h => ?_
 refine MpS.set mkI z7L h 0 rfl hm z4C rfl fun s w hm h => ?_
 refine MpS.set mkI z7L h 0 rfl hm z2m rfl fun s w hm h => ?_
 refine MpS.set mkI z7L h 0 rfl hm z0Y rfl fun s w hm h => ?_
 refine MpS.set mkI z7L h 0 rfl hm z0Y rfl fun s w hm h => ?_
 refine MpS.set mkI z7L h 0 rfl hm z1P rfl fun s w hm h => ?_
 refine MpS.set mkI z7L h 0 rfl hm z1E rfl fun s w hm h => ?_
 refine MpS.set mkI z7L h 0 rfl hm z1Q rfl fun s w hm h => ?_
 refine MpS.set mkI z7L h 0 rfl hm z42 rfl fun s w hm h => ?_
 refine MpS.set mkI z7L h 0 rfl hm z1u rfl fun s w hm h => ?_
 have hm : MpS KI (mV b) r doM s := hm
 dsimp only [setN] at h
 (refine ldC h ?_)
 refine zqJ ⟨.func f, #[.pointer (some ⟨b, 0, none⟩)], #[]⟩ ?_ ?_
 ·rw [MpS.get_run mkI z7L (zfun w) h 0 rfl hm false, hf]; rfl
 (refine laC h ?_)
 exact zkn (hh s _ w h) fun x w hk => ⟨x, rfl, hk⟩
theorem zeS (h : St w0 E w) (i : Nat) {b : Nat} {a : ASys} {s : Seg} (hi : nth E i = some s) (hs : SysS b a s) {e : AEv} (hb : chkEv e = 0) (hn : e.kind = 12 ∨ e.kind = 13 → RevN e.name) (rd : RdE w0 E eT e.v e.r.ts) (hvc : e.v.len ≤ e.v.cap) (hrv : ∀ t ∈ e.r.ts, revOk t.1)
  {f : FuncId} (hf : mget doM e.kind = some f) {r : ASys × List ByteArray} {F : (Value → PT) → PT} (hE : Enters Pr f) (hC : ∀ {K : Value → PT} {w : World}, F K w → Calls Pr f (#[.pointer (some ⟨b, 0, none⟩)] ++ [evV e].toArray ++ #[]) w fun e w' => ∃ v, e = .returned v ∧ K v w')
  (hh : ∀ {E2 : List Seg} {i2 : Nat} {w : World} {k : Sl → PT}, St w0 E2 w → nth E2 i2 = some s → (∀ w, St w0 (delN E2 i2) w → St w0 (delN E i) w) → Hk w0 E2 i2 b r k → F (slK k) w) {k : Sl → PT} (hk : Hk w0 E i b r k) :
  L.call Pr z05 [.pointer (some ⟨b, 0, none⟩), evV e] (.one (.one .slice)) k w := by
 refine S_do h hb hn rd hvc hrv hf fun s1 s2 w h => ?_
 refine z4p (F := F) hE hC ?_
 exact hh (E2 := s1 :: s2 :: E) (i2 := i + 2) h hi (fun w h => dl0_ (dl0_ h)) fun v sv s' w' r hs h => hk v sv s' w' r hs (dl1_ (dl1_ h))
end Go.Proofs.YtmbidnhdfdnihaaGreatDoor
namespace Go.Proofs.YtmbidnhdfdnihaaGreatDoor
open Go.Dm
attribute [local irreducible] L.load L.store L.chk L.new L.nonnil L.guard L.ite L.draw L.idx L.sem L.semR L.semU L.chkSem L.next L.call L.callV L.join L.alts L.loop L.begin L.endRound L.range
variable {w0 w : World} {E : List Seg}
def newSys (room line pat : Int) : ASys := ⟨⟨[], [], 0⟩, ⟨[], []⟩, [], ⟨room, 0, []⟩, ⟨[], [], line, pat⟩, [], 0⟩
theorem zb3 {n a b : Int} {k : Bool → PT} (hk : k (wiB n a b) w) : L.call Pr z2y [I n, I a, I b] (.one (.one .bool)) k w := by
 refine z01 (zb7 n a b) ?_
 unfold z7f
 unfold wiB at hk
 refine it (fun h1 => ?_) (fun h1 => ?_)
 ·have h1 : decide (a ≤ n) = true := h1
  rw [h1] at hk
  exact ⟨_, rfl, hk⟩
 ·have h1 : decide (a ≤ n) = false := h1
  rw [h1] at hk
  exact ⟨_, rfl, hk⟩
def newOk (room line pat : Int) : Bool := wiB room 1 30 && (wiB line 0 8 && wiB pat 1 50)
theorem zjB (h : St w0 E w) {room line pat : Int} {k : Option Addr × Int × Unit → PT} (h0 : newOk room line pat = false → ∀ w', St w0 E w' → k (none, 2, ()) w')
  (h1 : newOk room line pat = true → ∀ b s w', SysS b (newSys room line pat) s → St w0 (s :: E) w' → k (some ⟨b, 0, none⟩, 0, ()) w') : L.call Pr z7O [I room, I line, I pat] (.tup [.one .ptr, .one (.int .i64)]) k w := by
 refine z01 (zhX _ _ _) ?_
 unfold zd9
 unfold newOk at h0 h1
 refine zb3 ?_
 cases c1 : wiB room 1 30 with
 | false => exact itT rfl ⟨(none, 2, ()), rfl, h0 (by rw [c1]; rfl) w h⟩
 | true =>
 refine itF rfl ?_
 refine zb3 ?_
 cases c2 : wiB line 0 8 with
 | false => exact itT rfl ⟨(none, 2, ()), rfl, h0 (by rw [c1, c2]; rfl) w h⟩
 | true =>
 refine itF rfl ?_
 refine zb3 ?_
 cases c3 : wiB pat 1 50 with
 | false => exact itT rfl ⟨(none, 2, ()), rfl, h0 (by rw [c1, c2, c3]; rfl) w h⟩
 | true =>
 refine itF rfl ?_
 have hl : 0 ≤ line ∧ line ≤ 8 := by unfold wiB at c2; simpa using c2
 refine zqm h fun bf sf w hF h => ?_
 refine zoT h fun bs ss w hS h => ?_
 refine zpk h fun bk sk w hK h => ?_
 refine zoW h fun br sr w hR h => ?_
 refine zqi h (bf := bf) hl.1 (by omega) fun bg sg w hG h => ?_
 refine MpS.new h Value.string Value.pointer fun r sm w hm h => ?_
 refine nw h ?_; clear h; (try clear w); intro b w h
 have h : St w0 (sysC b ⟨bs, bk, br, bf, bg, r⟩ 0 :: sm :: sg :: sr :: sk :: ss :: sf :: E) w := h
 refine ⟨(some ⟨b, 0, none⟩, 0, ()), rfl, h1 (by rw [c1, c2, c3]; rfl) b _ w ⟨⟨bs, bk, br, bf, bg, r⟩, sg, sf, ss, sk, sr, sm, [], ⟨hG, hF, hS, hK, hR, hm, by simp, rfl⟩, rfl⟩ ?_⟩
 have h := fr6_ (fr6_ (fr6_ (fr5_ (fr4_ (fr3_ (fr1_ h))))))
 have h : St w0 (sysC b ⟨bs, bk, br, bf, bg, r⟩ 0 :: sg :: sf :: ss :: sk :: sr :: sm :: (([] : List BsE).map BsE.sg).flatten :: E) w := h.eq (by simp)
 exact h.glue8
theorem znA (h : St w0 E w) (i : Nat) {b : Nat} {a : ASys} {s : Seg} (hi : nth E i = some s) (hs : SysS b a s) {k : Int → PT} (hk : k a.now w) : L.call Pr z4V [.pointer (some ⟨b, 0, none⟩)] (.one (.one (.int .i64))) k w := by
 obtain ⟨p, sg, sf, ss, sk, sr, sm, Q, R, rfl⟩ := hs
 refine z01 (zb8 _) ?_
 unfold z7g
 have h := (h.front i hi).split8
 (refine nn ?_; refine ldC h ?_)
 exact ⟨_, rfl, hk⟩
theorem zfr {p0 p1 : Int} (h : 0 < p1) (hp : p1 ≤ 2147483648) {k : Int → PT} (hk : k (p0 % p1) w) : L.call Pr z3a [I p0, I p1] (.one (.one (.int .i64))) k w := by
 refine z01 (zaz p0 p1) ?_
 unfold z6I
 refine gd (by omega) ?_
 have h1 := Int.emod_nonneg p0 (by omega : p1 ≠ 0)
 have h2 := Int.emod_lt_of_pos p0 h
 have e := zia p0 p1 h
 refine z2u (fun z w' => z.1 = p0 % p1 ∧ w' = w) (fun k' hk' => ?_) (fun y w' ⟨h1, h2⟩ => by subst h2; exact ⟨_, rfl, by rw [h1]; exact hk⟩)
 refine it (fun hb => ?_) (fun hb => ?_) <;> (try simp only [zB] at hb)
 ·refine hk' _ _ ⟨?_, rfl⟩
  rw [e] at hb
  dsimp only
  rw [e]
  split at hb <;> rename_i hc
  ·omega
  ·rw [if_neg hc, wr] <;> omega
 ·refine hk' _ _ ⟨?_, rfl⟩
  rw [e] at hb
  dsimp only
  rw [e]
  split at hb <;> rename_i hc
  ·rw [if_pos hc]
  ·omega
def noRt15 : ARt := ⟨s_, s_, [], 0⟩
abbrev noSl : Sl := ⟨none, 0, 0⟩
theorem zjE [bTab w0] (h : St w0 E w) (i : Nat) {b : Nat} {a : ASys} {s : Seg} (hi : nth E i = some s) (hs : SysS b a s) {e : AEv} (hkd : e.kind = 9) (hb : chkEv e = 0) (rd : RdE w0 E eT e.v e.r.ts) (hvc : e.v.len ≤ e.v.cap) (hrv : ∀ t ∈ e.r.ts, revOk t.1)
  (hnow : 0 ≤ a.now) (hwk : GWk a.gt) (hfl : (tkG a).2.length < 90000000) (hf : ∀ f ∈ (tkG a).2, f.Ok)
  (hby : ∀ rev ∈ bkAll a.bk, (mget a.by' rev).isSome = true) (hxs : ∀ x ∈ a.by', x.2.xs.length < 1000000000) (hfb : a.bk.all.length < 1000000) {k : Sl → PT} (hk : Hk w0 E i b (sysTick a) k) :
  L.call Pr z05 [.pointer (some ⟨b, 0, none⟩), evV e] (.one (.one .slice)) k w :=
 zeS h i hi hs hb (fun hh => by omega) rd hvc hrv (f := z1P) (by rw [hkd]; rfl) zal (zaq (some ⟨b, 0, none⟩) e.t)
  (fun h hi _ hk => zm9 h _ hi hs hnow hwk hfl hf hby hxs hfb hk) hk
abbrev evT0 (kind : Int) : AEv := ⟨kind, s_, s_, 0, 0, noCfg, noRt15, noSl⟩
theorem chk0 : chkEv (evT0 0) = 12 := by decide
theorem chk9 : chkEv (evT0 9) = 0 := by decide +kernel
theorem ziS : (tkG (newSys 3 2 5)).2 = [] := by decide +kernel
theorem zoE : GWk (newSys 3 2 5).gt := fun x hx => by cases hx
theorem zmj [bTab w0] (h : St w0 E w) {k : Bool → PT} (hk : ∀ w', St w0 E w' → k true w') : L.call Pr z52 [] (.one (.one .bool)) k w := by
 refine z01 zbj ?_
 unfold z7s
 refine zjB h (fun hh => absurd hh (by decide)) fun _ b s w hs h => ?_
 refine itF rfl (itF rfl ?_)
 refine zpi (e := evT0 0) h (by rw [chk0]; decide) (fun hh => by rcases hh with hh | hh <;> cases hh) (fun _ _ => Rd.nil) (by decide) (by simp [noRt15]) fun v2 s2 w r2 h => ?_
 refine zjE h 1 rfl hs (e := evT0 9) rfl chk9 (fun _ _ => Rd.nil) (by decide) (by simp [noRt15]) (by decide) zoE (by rw [ziS]; decide) (by rw [ziS]; simp) (by simp [newSys, bkAll, zkY]) (by simp [newSys]) (by decide) fun v3 s3 s' w r3 hs h => ?_
 have e2 : [lineB zlf [errB (chkEv (evT0 0))]] = [s_bad_kind] := by decide +kernel
 have e3 : (sysTick (newSys 3 2 5)).2 = [s_tick_1] := by decide +kernel
 have e4 : (sysTick (newSys 3 2 5)).1.now = 1 := by decide +kernel
 rw [e2] at r2
 rw [e3] at r3
 have l2 := Rw.len encS r2
 have l3 := Rw.len encS r3
 refine itT (by rw [l2]; rfl) ?_
 refine Rw.ix encS r2 (by decide) (by decide) fun a ha => ?_
 refine Rw.ld0 encS h 1 rfl r2 ha (x := s_bad_kind) rfl rfl rfl ?_
 refine itT (by rw [z3k]; decide) ?_
 refine itT (by rw [l3]; rfl) ?_
 refine Rw.ix encS r3 (by decide) (by decide) fun a ha => ?_
 refine Rw.ld0 encS h 0 rfl r3 ha (x := s_tick_1) rfl rfl rfl ?_
 refine itT (by rw [z3k]; decide) ?_
 refine znA h 2 rfl hs ?_
 rw [e4]
 exact ⟨true, rfl, hk w (dl0_ (dl0_ (dl0_ h)))⟩
theorem zkx [bTab w0] (h : St w0 E w) (i : Nat) {b : Nat} {a : ASys} {s : Seg} (hi : nth E i = some s) (hs : SysS b a s) {e : AEv} (hkd : e.kind = 1) (hb : chkEv e = 0) (rd : RdE w0 E eT e.v e.r.ts) (hvc : e.v.len ≤ e.v.cap) (hrv : ∀ t ∈ e.r.ts, revOk t.1)
  (hn : a.sh.n < 900000000) (hsz : e.c.1.size ≤ 1000000) {k : Sl → PT} (hk : Hk w0 E i b (sysConfig a e) k) : L.call Pr z05 [.pointer (some ⟨b, 0, none⟩), evV e] (.one (.one .slice)) k w :=
 zeS h i hi hs hb (fun hh => by omega) rd hvc hrv (f := z1x) (by rw [hkd]; rfl) z9c (z9f (some ⟨b, 0, none⟩) e.t) (fun h hi _ hk => ziA h _ hi hs hn hsz hk) hk
theorem zms [bTab w0] (h : St w0 E w) (i : Nat) {b : Nat} {a : ASys} {s : Seg} (hi : nth E i = some s) (hs : SysS b a s) {e : AEv} (hkd : e.kind = 2) (hb : chkEv e = 0) (rd : RdE w0 (delN E i) eT e.v e.r.ts) (hvc : e.v.len ≤ e.v.cap) (h0 : e.v.a = none → e.r.ts = []) (hrv : ∀ t ∈ e.r.ts, revOk t.1)
  (hn : a.sh.n < 900000000) (hsz : e.r.name.size ≤ 1000000) (hfew : a.sh.Few) {k : Sl → PT} (hk : Hk w0 E i b (sysRoute a e) k) : L.call Pr z05 [.pointer (some ⟨b, 0, none⟩), evV e] (.one (.one .slice)) k w :=
 zeS h i hi hs hb (fun hh => by omega) (fun w h => rd w (h.del i hi)) hvc hrv (f := z1F) (by rw [hkd]; rfl) z9U (z9Y (some ⟨b, 0, none⟩) e.t) (fun h hi hd hk => zks h _ hi hs hn hsz hfew (fun w h => rd w (hd w h)) hvc h0 hrv hk) hk
theorem zmr [bTab w0] (h : St w0 E w) (i : Nat) {b : Nat} {a : ASys} {s : Seg} (hi : nth E i = some s) (hs : SysS b a s) {e : AEv} (hkd : e.kind = 10) (hb : chkEv e = 0) (rd : RdE w0 E eT e.v e.r.ts) (hvc : e.v.len ≤ e.v.cap) (hrv : ∀ t ∈ e.r.ts, revOk t.1)
  (hst : (shCfg a.sh e.name).2.2.2.1 = true → shortB (shCfg a.sh e.name).1.1.data.toList 16 = true ∧ 1 ≤ @id Int (shCfg a.sh e.name).2.2.1 ∧ @id Int (shCfg a.sh e.name).2.2.1 < 100 ∧ @id Int (shCfg a.sh e.name).1.2.2.2.1 ≤ 1000000) (hf : a.bk.all.length < 999999)
  {k : Sl → PT} (hk : Hk w0 E i b (sysStamp a e) k) : L.call Pr z05 [.pointer (some ⟨b, 0, none⟩), evV e] (.one (.one .slice)) k w :=
 zeS h i hi hs hb (fun hh => by omega) rd hvc hrv (f := z1E) (by rw [hkd]; rfl) z9T (z9X (some ⟨b, 0, none⟩) e.t) (fun h hi _ hk => zkr h _ hi hs hst hf hk) hk
theorem zqn [bTab w0] (h : St w0 E w) (i : Nat) {b : Nat} {a : ASys} {s : Seg} (hi : nth E i = some s) (hs : SysS b a s) {e : AEv} (hkd : e.kind = 6) (hb : chkEv e = 0) (rd : RdE w0 E eT e.v e.r.ts) (hvc : e.v.len ≤ e.v.cap) (hrv' : ∀ t ∈ e.r.ts, revOk t.1)
  (he : 0 ≤ e.n ∧ e.n ≤ 9000000000000000000) (hrv : (fOf (fUpp a.fl e.n).1.l e.n).size ≤ 1000000) (hfew : FFew (fUpp a.fl e.n).1) (hn : a.gt.all.length < 80000000) (hl : a.gt.lines.length < 90000000)
  (hf : ∀ f ∈ (upFlow a e).2.2, f.Ok) (hfl : (upFlow a e).2.2.length < 100000000) {k : Sl → PT} (hk : Hk w0 E i b (sysUp a e) k) : L.call Pr z05 [.pointer (some ⟨b, 0, none⟩), evV e] (.one (.one .slice)) k w :=
 zeS h i hi hs hb (fun hh => by omega) rd hvc hrv' (f := z2m) (by rw [hkd]; rfl) zc6 (zc9 (some ⟨b, 0, none⟩) e.t) (fun h hi _ hk => zoO h _ hi hs he hrv hfew hn hl hf hfl hk) hk
theorem znK [bTab w0] (h : St w0 E w) (i : Nat) {b : Nat} {a : ASys} {s : Seg} (hi : nth E i = some s) (hs : SysS b a s) {e : AEv} (hkd : e.kind = 11) (hb : chkEv e = 0) (rd : RdE w0 E eT e.v e.r.ts) (hvc : e.v.len ≤ e.v.cap) (hrv : ∀ t ∈ e.r.ts, revOk t.1)
  (hfew : a.sh.Few) (hname : e.name.size ≤ 100000) (hp : ∀ t ∈ (shRt a.sh e.name).1.ts, 0 ≤ pct t ∧ pct t ≤ 1000) (hl : (shRt a.sh e.name).1.ts.length ≤ 1000)
  (hroll : (shRt a.sh e.name).1.roll ≤ 1000000) (hok : ∀ x, mget a.ro e.name = some x → x.Ok) (hsi : ∀ x, mget a.ro e.name = some x → 0 ≤ x.since ∧ x.since < 1000000000) (hnow : 0 ≤ a.now ∧ a.now < 1000000000) (hwb : WBd (ldTab a e.name).1.sh) (hln : (ldNow a e.name).sh.length < 100000) (htb : TabB (ldNow a e.name))
  {k : Sl → PT} (hk : Hk w0 E i b (sysLead a e) k) : L.call Pr z05 [.pointer (some ⟨b, 0, none⟩), evV e] (.one (.one .slice)) k w :=
 zeS h i hi hs hb (fun hh => by omega) rd hvc hrv (f := z1Q) (by rw [hkd]; rfl) zam (zar (some ⟨b, 0, none⟩) e.t) (fun h hi _ hk => zmb h _ hi hs hfew hname hp hl hroll hok hsi hnow hwb hln htb hk) hk
theorem zky [bTab w0] (h : St w0 E w) (i : Nat) {b : Nat} {a : ASys} {s : Seg} (hi : nth E i = some s) (hs : SysS b a s) {e : AEv} (hkd : e.kind = 4) (hb : chkEv e = 0) (rd : RdE w0 E eT e.v e.r.ts) (hvc : e.v.len ≤ e.v.cap) (hrv' : ∀ t ∈ e.r.ts, revOk t.1)
  (hd : 0 ≤ e.draw ∧ e.draw < 4611686018427387904) (hok : ∀ x, mget a.ro e.name = some x → x.Ok) (hwb : WBd (roTab a.ro e.name).sh)
  (hfew : FFew a.fl) (hn : a.gt.all.length < 80000000) (hl : a.gt.lines.length < 90000000) (hnow : -1000000000000 < a.now + a.gt.pat ∧ a.now + a.gt.pat < 1000000000000) (hf : (arG a e).2.2.Ok) (hrv : (bnd a e).size ≤ 1000000)
  {k : Sl → PT} (hk : Hk w0 E i b (sysArrive a e) k) : L.call Pr z05 [.pointer (some ⟨b, 0, none⟩), evV e] (.one (.one .slice)) k w :=
 zeS h i hi hs hb (fun hh => by omega) rd hvc hrv' (f := z1y) (by rw [hkd]; rfl) z9d (z9g (some ⟨b, 0, none⟩) e.t) (fun h hi _ hk => ziB h _ hi hs hd hok hwb hfew hn hl hnow hf hrv hk) hk
theorem znJ [bTab w0] (h : St w0 E w) (i : Nat) {b : Nat} {a : ASys} {s : Seg} (hi : nth E i = some s) (hs : SysS b a s) {e : AEv} (hkd : e.kind = 13) (hnm : RevN e.name) (hb : chkEv e = 0) (rd : RdE w0 E eT e.v e.r.ts) (hvc : e.v.len ≤ e.v.cap) (hrv : ∀ t ∈ e.r.ts, revOk t.1)
  (hroom : a.fl.room < 1000000) (hlast : a.fl.last + a.fl.room < 4611686018427387904) (hname : e.name.size ≤ 100000)
  (hmade : ∀ x ∈ fMade a.fl e.name (pdWant a e.name), 0 ≤ x ∧ x ≤ 9000000000000000000) (hmn : (fMade a.fl e.name (pdWant a e.name)).length < 100000) (hgone : ∀ x ∈ (fScale a.fl e.name (pdConc a e.name) (pdWant a e.name)).2, 0 ≤ x ∧ x ≤ 9000000000000000000) (hgn : (fScale a.fl e.name (pdConc a e.name) (pdWant a e.name)).2.length < 100000)
  (hpn : (fPods (pdFl a e.name).l e.name).length < 1000000) {k : Sl → PT} (hk : Hk w0 E i b (sysPods a e) k) : L.call Pr z05 [.pointer (some ⟨b, 0, none⟩), evV e] (.one (.one .slice)) k w :=
 zeS h i hi hs hb (fun _ => hnm) rd hvc hrv (f := z1u) (by rw [hkd]; rfl) z6J (z6K (some ⟨b, 0, none⟩) e.t) (fun h hi _ hk => zma h _ hi hs hroom hlast hname hmade hmn hgone hgn hpn hk) hk
end Go.Proofs.YtmbidnhdfdnihaaGreatDoor
namespace Go.Proofs.YtmbidnhdfdnihaaGreatDoor
open Go.Dm
abbrev idB (x : Int) : Prop := 0 ≤ x ∧ x ≤ 2147483647
structure FlI (k : Nat) (F : AFleet) : Prop where
 few : FFew F
 r1 : 1 ≤ F.room
 last : F.last ≤ 20 * (k : Int)
 rev : ∀ x ∈ F.l, RevN x.rev
 req : ∀ x ∈ F.l, ∀ q ∈ x.pod.reqs, idB q
theorem FlI.mono {k m : Nat} {F : AFleet} (h : FlI k F) (hm : k ≤ m) : FlI m F := ⟨h.few, h.r1, by have := h.last; omega, h.rev, h.req⟩
theorem FlI.upd {k : Nat} {F : AFleet} (h : FlI k F) {id : Int} {g : APod → APod} (hf : FFew { F with l := fUpd F.l id g }) (hg : ∀ x ∈ F.l, x.id = id → ∀ q ∈ (g x.pod).reqs, idB q) : FlI k { F with l := fUpd F.l id g } :=
 ⟨hf, h.r1, h.last, fun y hy => by
  rcases zgf hy with hy | ⟨x, hx, _, rfl⟩
  ·exact h.rev y hy
  ·exact h.rev x hx, fun y hy => by
  rcases zgf hy with hy | ⟨x, hx, hid, rfl⟩
  ·exact h.req y hy
  ·exact hg x hx hid⟩
theorem zij {p : APod} {q z : Int} (h : z ∈ (podTake p q).1.reqs) : z ∈ p.reqs ∨ z = q := by
 unfold podTake at h
 split at h
 ·exact .inl h
 ·split at h
  ·exact .inl h
  ·split at h
   ·exact .inl h
   ·rcases List.mem_cons.1 ((z9C q p.reqs).mem_iff.1 h) with e | e
    ·exact .inr e
    ·exact .inl e
theorem zil {p : APod} {z : Int} (h : z ∈ (podKill p).1.reqs) : z ∈ p.reqs := by
 unfold podKill at h
 split at h
 ·exact h
 ·cases h
theorem zj4 (p : APod) : (podUp p).1.reqs = p.reqs := by unfold podUp; split <;> rfl
theorem zim (p : APod) : (podDrain p).1.reqs = p.reqs := by unfold podDrain; split <;> rfl
theorem FlI.take {k : Nat} {F : AFleet} (h : FlI k F) (rev : ByteArray) {q : Int} (hq : idB q) : FlI k (fTake F rev q).1 := by
 have hf := h.few.take rev q
 unfold fTake at hf ⊢
 split
 ·exact h
 ·rename_i h1
  rw [if_neg h1] at hf
  split
  ·exact h
  ·rename_i x hx
   rw [hx] at hf
   exact h.upd hf fun y hy _ z hz => by
    rcases zij hz with e | rfl
    ·exact h.req y hy z e
    ·exact hq
theorem FlI.kill {k : Nat} {F : AFleet} (h : FlI k F) (id : Int) : FlI k (fKill F id).1 := by
 have hf := h.few.kill id
 unfold fKill at hf ⊢
 split
 ·exact h
 ·rename_i x hx
  rw [hx] at hf
  exact h.upd hf fun y hy _ z hz => h.req y hy z (zil hz)
theorem FlI.up {k : Nat} {F : AFleet} (h : FlI k F) (id : Int) : FlI k (fUpp F id).1 := by
 have hf := h.few.up id
 unfold fUpp
 split
 ·exact h
 ·exact h.upd hf fun y hy _ z hz => h.req y hy z (by rwa [zj4] at hz)
theorem FlI.drain {k : Nat} {F : AFleet} (h : FlI k F) (rev : ByteArray) : FlI k (drain1 rev F) :=
 h.upd (h.few.drain rev) fun y hy _ z hz => h.req y hy z (by rwa [zim] at hz)
theorem FlI.shrink (rev : ByteArray) : ∀ (n : Nat) {k : Nat} {F : AFleet}, FlI k F → FlI k (YtmbidnhdfdnihaaGreatDoor.shrink rev n F).1
 | 0, _, _, h => h
 | n + 1, _, _, h => FlI.shrink rev n (h.drain rev)
theorem zge {rev : ByteArray} {conc : Int} : ∀ (n : Nat) {F : AFleet} {x : AHeld}, x ∈ (grow rev conc n F).l → x ∈ F.l ∨ (x.rev = rev ∧ x.pod = ⟨1, conc, []⟩)
 | 0, _, _, h => .inl h
 | n + 1, F, x, h => by
  unfold grow grow1 at h
  rcases List.mem_append.1 h with h | h
  ·exact zge n h
  ·rw [List.mem_singleton] at h
   subst h
   exact .inr ⟨rfl, rfl⟩
theorem zdR (F : AFleet) (rev : ByteArray) (want : Int) : (growN F rev want : Int) ≤ max 0 (F.room - F.l.length) := by rw [zni]; omega
theorem FlI.scale {k : Nat} {F : AFleet} (h : FlI k F) {rev : ByteArray} (hr : RevN rev) {conc : Int} (hc : conc ≤ 1000) (want : Int) : FlI (k + 1) (fScale F rev conc want).1 := by
 have hl := h.few.l
 have hr20 := h.few.r
 unfold podsMost at hr20
 have hn := zdR F rev want
 have hg : FlI (k + 1) (fGrown F rev conc want) := by
  refine ⟨FFew.grow rev hc _ h.few (by omega), ?_, ?_, fun x hx => ?_, fun x hx q hq => ?_⟩
  ·unfold fGrown; rw [zbD]; exact h.r1
  ·unfold fGrown; rw [zbF]; have := h.last; omega
  ·rcases zge _ hx with hx | ⟨e, -⟩
   ·exact h.rev x hx
   ·rw [e]; exact hr
  ·rcases zge _ hx with hx | ⟨-, e⟩
   ·exact h.req x hx q hq
   ·rw [e] at hq; cases hq
 exact hg.shrink rev _
theorem ziW {F : AFleet} (ok : F.Ok) (rev : ByteArray) (q : Int) : 0 ≤ (fTake F rev q).2.1 ∧ (fTake F rev q).2.1 ≤ F.last := by
 have := ok.lo
 unfold fTake
 split
 ·exact ⟨Int.le_refl 0, this⟩
 ·split
  ·exact ⟨Int.le_refl 0, this⟩
  ·rename_i x hx
   have := ok.rng x (zg4 hx).1
   dsimp only; omega
theorem zkS (F : AFleet) (rev : ByteArray) (q : Int) : (fTake F rev q).1.last = F.last := by
 unfold fTake
 split
 ·rfl
 ·split <;> rfl
theorem zek {rev : ByteArray} : ∀ {l : List (Int × Int)} {F : AFleet} {all : Alls} {out : List Fate}, F.Ok → F.last ≤ 9000000000000000000 → (∀ x ∈ l, idB x.1) → (∀ f ∈ out, f.Ok) → ∀ f ∈ (flowA rev l F all out).2.2.2, f.Ok
 | [], _, _, _, _, _, _, h => h
 | x :: l, F, all, out, ok, hl, hx, h => by
  unfold flowA
  split
  ·have tp := ziW ok rev x.1
   have hx1 := hx x (by simp)
   refine zek (zjt ok rev x.1) (by rw [zkS]; exact hl) (fun y hy => hx y (by simp [hy])) fun f hf => ?_
   rcases List.mem_append.1 hf with hf | hf
   ·exact h f hf
   ·rw [List.mem_singleton] at hf
    subst hf
    exact ⟨⟨hx1.1, Int.le_trans hx1.2 (by decide)⟩, ⟨tp.1, Int.le_trans tp.2 hl⟩, by show s_.size ≤ 1000; decide⟩
  ·exact h
theorem zjo {k : Nat} {rev : ByteArray} : ∀ {l : List (Int × Int)} {F : AFleet} {all : Alls} {out : List Fate}, FlI k F → (∀ x ∈ l, idB x.1) → FlI k (flowA rev l F all out).1
 | [], _, _, _, h, _ => h
 | x :: l, F, all, out, h, hx => by
  unfold flowA
  split
  ·exact zjo (h.take rev (hx x (by simp))) fun y hy => hx y (by simp [hy])
  ·exact h
theorem zcN {rev : ByteArray} : ∀ {l : List (Int × Int)} {F : AFleet} {all : Alls} {out : List Fate}, ∀ y ∈ (flowA rev l F all out).2.2.1, y ∈ l
 | [], _, _, _, y, h => by cases h
 | x :: l, F, all, out, y, h => by
  unfold flowA at h
  split at h
  ·exact List.mem_cons_of_mem _ (zcN y h)
  ·exact h
theorem zhp {rev : ByteArray} : ∀ {l : List (Int × Int)} {F : AFleet} {all : Alls} {out : List Fate}, (∀ x ∈ all, idB x.1) → (∀ x ∈ l, idB x.1) → ∀ x ∈ (flowA rev l F all out).2.1, idB x.1
 | [], _, _, _, h, _ => h
 | x :: l, F, all, out, h, hx => by
  unfold flowA
  split
  ·refine zhp (fun y hy => ?_) fun y hy => hx y (by simp [hy])
   rcases z1C hy with rfl | hy
   ·exact hx x (by simp)
   ·exact h y hy
  ·exact h
theorem z9z {κ υ : Type} [DecidableEq κ] (m : List (κ × υ)) (a b : κ) (u : υ) (h : (mget m b).isSome = true) : (mget (mset m a u) b).isSome = true := by
 rw [z49]; split
 ·rfl
 ·exact h
theorem zcM {rev : ByteArray} {q : Int} : ∀ {l : List (Int × Int)} {F : AFleet} {all : Alls} {out : List Fate}, (mget all q).isSome = true → (mget (flowA rev l F all out).2.1 q).isSome = true
 | [], _, _, _, h => h
 | x :: l, F, all, out, h => by
  unfold flowA
  split
  ·exact zcM (z9z _ _ _ _ h)
  ·exact h
structure GtI (k : Nat) (G : AGate) : Prop where
 all : G.all.length ≤ 2000 * k
 ids : ∀ x ∈ G.all, idB x.1
 lines : G.lines.length ≤ k
 lid : ∀ x ∈ G.lines, ∀ y ∈ x.2, idB y.1
 wk : GWk G
 pat : 1 ≤ G.pat ∧ G.pat ≤ 1000
 room : 0 ≤ G.room ∧ G.room ≤ 8
theorem GtI.mono {k m : Nat} {G : AGate} (h : GtI k G) (hm : k ≤ m) : GtI m G := ⟨by have := h.all; omega, h.ids, by have := h.lines; omega, h.lid, h.wk, h.pat, h.room⟩
theorem GtI.line {k : Nat} {G : AGate} (h : GtI k G) (rev : ByteArray) : ∀ y ∈ lineOf G.lines rev, idB y.1 := fun y hy => by
 unfold lineOf at hy
 cases hg : mget G.lines rev with
 | none => rw [hg] at hy; cases hy
 | some l => rw [hg] at hy; exact h.lid _ (z3x hg) y hy
theorem GtI.turn {k m : Nat} {G : AGate} (h : GtI k G) {all : Alls} {rev : ByteArray} {l : List (Int × Int)} (hm : k + 1 ≤ m) (hl : all.length ≤ 2000 * m) (hi : ∀ x ∈ all, idB x.1) (hs : ∀ q, (mget G.all q).isSome = true → (mget all q).isSome = true)
  (h1 : ∀ y ∈ l, idB y.1) (h2 : ∀ y ∈ l, (mget all y.1).isSome = true) : GtI m { G with all := all, lines := mset G.lines rev l } := by
 have := h.lines
 have := z5B G.lines rev l
 refine ⟨hl, hi, by dsimp only; omega, fun x hx y hy => ?_, fun x hx y hy => ?_, h.pat, h.room⟩
 ·rcases z1C hx with rfl | hx
  ·exact h1 y hy
  ·exact h.lid x hx y hy
 ·rcases z1C hx with rfl | hx
  ·exact h2 y hy
  ·exact hs _ (h.wk x hx y hy)
theorem GtI.req {k m : Nat} {G : AGate} (h : GtI k G) {all : Alls} (hm : k ≤ m) (hl : all.length ≤ 2000 * m) (hi : ∀ x ∈ all, idB x.1) (hs : ∀ q, (mget G.all q).isSome = true → (mget all q).isSome = true) : GtI m { G with all := all } :=
 ⟨hl, hi, by have := h.lines; dsimp only; omega, h.lid, fun x hx y hy => hs _ (h.wk x hx y hy), h.pat, h.room⟩
theorem zac {all : Alls} {id : Int} {x : ByteArray × Int} (h : ∀ x ∈ all, idB x.1) (hi : idB id) : ∀ y ∈ mset all id x, idB y.1 := fun y hy => by
 rcases z1C hy with rfl | hy
 ·exact hi
 ·exact h y hy
theorem zlN {k : Nat} {F : AFleet} {G : AGate} (ok : G.Ok) (hF : FlI k F) (hG : GtI k G) (rev : ByteArray) : FlI k (gFlow F G rev).1 ∧ GtI (k + 1) (gFlow F G rev).2.1 := by
 have hl := z9D (rev := rev) (l := lineOf G.lines rev) (F := F) (all := G.all) (out := [])
 have hn := z3c ok rev
 have := hG.all
 have := hG.room
 refine ⟨zjo hF (hG.line rev), hG.turn (Nat.le_refl _) (by omega) (zhp hG.ids (hG.line rev)) (fun q => zcM) (fun y hy => hG.line rev y (zcN y hy)) fun y hy => ?_⟩
 exact zcM (hG.wk.line rev y (zcN y hy))
theorem zit {k : Nat} {F : AFleet} {G : AGate} (hk : k ≤ 100000) (ok : F.Ok) (hF : FlI k F) (hG : GtI k G) (rev : ByteArray) : ∀ f ∈ (gFlow F G rev).2.2, f.Ok :=
 zek ok (by have := hF.last; omega) (hG.line rev) (by simp)
theorem z9 : (0 : Int) ≤ 0 ∧ (0 : Int) ≤ 9000000000000000000 := ⟨by decide, by decide⟩
theorem znm {k : Nat} {F : AFleet} {G : AGate} (ok : G.Ok) (hF : FlI k F) (hG : GtI k G) {id : Int} (hid : idB id) (rev : ByteArray) (now : Int) : FlI k (gArr F G id rev now).1 ∧ GtI (k + 1) (gArr F G id rev now).2.1 := by
 have hla := hG.all
 have hl : ∀ x : ByteArray × Int, (mset G.all id x).length ≤ 2000 * (k + 1) := fun x => by have := z5B G.all id x; omega
 have hs : ∀ (x : ByteArray × Int) q, (mget G.all q).isSome = true → (mget (mset G.all id x) q).isSome = true := fun x q => z9z _ _ _ _
 have hln : ∀ (x : ByteArray × Int), ∀ y ∈ lineOf G.lines rev, (mget (mset G.all id x) y.1).isSome = true := fun x y hy => hs x _ (hG.wk.line rev y hy)
 unfold gArr
 split
 ·exact ⟨hF, hG.mono (Nat.le_succ k)⟩
 ·split
  ·exact ⟨hF, hG.req (Nat.le_succ k) (hl _) (zac hG.ids hid) (hs _)⟩
  ·split
   ·exact ⟨hF.take rev hid, hG.turn (Nat.le_refl _) (hl _) (zac hG.ids hid) (hs _) (hG.line rev) (hln _)⟩
   ·split
    ·exact ⟨hF, hG.turn (Nat.le_refl _) (hl _) (zac hG.ids hid) (hs _) (hG.line rev) (hln _)⟩
    ·rename_i h4
     refine ⟨hF, hG.turn (Nat.le_refl _) (hl _) (zac hG.ids hid) (hs _) (fun y hy => ?_) fun y hy => ?_⟩ <;>
     ·unfold lPush at hy h4
      split at hy
      ·rename_i h5; rw [if_pos h5] at h4; exact absurd (show (5 : Int) ≠ 0 by decide) h4
      ·rename_i h5
       rw [if_neg h5] at h4
       split at hy
       ·rename_i h6; rw [if_pos h6] at h4; exact absurd (show (8 : Int) ≠ 0 by decide) h4
       ·rcases List.mem_append.1 hy with hy | hy
        ·first | exact hG.line rev y hy | exact hln _ y hy
        ·rw [List.mem_singleton] at hy
         subst hy
         first | exact hid | (rw [z49, if_pos rfl]; rfl)
theorem zlO {k : Nat} {F : AFleet} {G : AGate} (hk : k ≤ 10000) (okF : F.Ok) (hF : FlI k F) {id : Int} (hid : idB id) (rev : ByteArray) (now : Int) : (gArr F G id rev now).2.2.Ok := by
 have hi : 0 ≤ id ∧ id ≤ 9000000000000000000 := ⟨hid.1, Int.le_trans hid.2 (by decide)⟩
 have hz : (0 : Int) ≤ 0 ∧ (0 : Int) ≤ 9000000000000000000 := ⟨by decide, by decide⟩
 unfold gArr
 split
 ·exact ⟨hi, hz, by show s_twice.size ≤ 1000; decide⟩
 ·split
  ·exact ⟨hi, hz, by show s_no_route.size ≤ 1000; decide⟩
  ·split
   ·have := ziW okF rev id
    have := hF.last
    exact ⟨hi, ⟨by show 0 ≤ (fTake F rev id).2.1; omega, by show (fTake F rev id).2.1 ≤ 9000000000000000000; omega⟩, by show s_.size ≤ 1000; decide⟩
   ·split
    ·exact ⟨hi, hz, by show s_overflow.size ≤ 1000; decide⟩
    ·exact ⟨hi, hz, by show s_.size ≤ 1000; decide⟩
theorem zcG {q : Int} : ∀ {l : List Int} {all : Alls} {out : List Fate}, (mget all q).isSome = true → (mget (lostA l all out).1 q).isSome = true
 | [], _, _, h => h
 | x :: l, all, out, h => by
  unfold lostA
  split
  ·exact zcG (z9z _ _ _ _ h)
  ·exact zcG h
theorem zee : ∀ {l : List Int} {all : Alls} {out : List Fate}, (∀ x ∈ all, idB x.1) → (∀ x ∈ l, idB x) → ∀ x ∈ (lostA l all out).1, idB x.1
 | [], _, _, h, _ => h
 | x :: l, all, out, h, hx => by
  unfold lostA
  split
  ·exact zee (zac h (hx x (by simp))) fun y hy => hx y (by simp [hy])
  ·exact zee h fun y hy => hx y (by simp [hy])
theorem zb0 : ∀ {l : List Int} {all : Alls} {out : List Fate}, (∀ x ∈ l, idB x) → (∀ f ∈ out, f.Ok) → ∀ f ∈ (lostA l all out).2, f.Ok
 | [], _, _, _, h => h
 | x :: l, all, out, hx, h => by
  unfold lostA
  have hx1 := hx x (by simp)
  split
  ·refine zb0 (fun y hy => hx y (by simp [hy])) fun f hf => ?_
   rcases List.mem_append.1 hf with hf | hf
   ·exact h f hf
   ·rw [List.mem_singleton] at hf
    subst hf
    exact ⟨⟨hx1.1, Int.le_trans hx1.2 (by decide)⟩, z9, by show s_pod_lost.size ≤ 1000; decide⟩
  ·exact zb0 (fun y hy => hx y (by simp [hy])) h
theorem zjg {k : Nat} {F : AFleet} (hF : FlI k F) (id : Int) : (∀ q ∈ (fKill F id).2.1, idB q) ∧ (fKill F id).2.1.length ≤ 1000 := by
 unfold fKill
 split
 ·exact ⟨fun q hq => (by cases hq), Nat.zero_le _⟩
 ·rename_i x hx
  have hx := (z3d hx).1
  exact ⟨hF.req x hx, (hF.few.q x hx).1⟩
theorem zlL {k : Nat} {G : AGate} (hG : GtI k G) {l : List Int} (hl : ∀ q ∈ l, idB q) (hn : l.length ≤ 1000) : GtI (k + 1) (gLost G l).1 := by
 have := hG.all
 have h2 := (z9B (l := l) (all := G.all) (out := [])).2
 exact hG.req (Nat.le_succ k) (by omega) (zee hG.ids hl) fun q => zcG
theorem zhe {rev : ByteArray} : ∀ {l : List Int} {all : Alls}, (∀ x ∈ all, idB x.1) → (∀ x ∈ l, idB x) → ∀ x ∈ lateS rev l all, idB x.1
 | [], _, h, _ => h
 | x :: l, all, h, hx => zhe (l := l) (zac h (hx x (by simp))) fun y hy => hx y (by simp [hy])
theorem zjf {l : List (Int × Int)} {now q : Int} (h : q ∈ lLate l now) : ∃ y ∈ l, y.1 = q := by
 unfold lLate at h
 obtain ⟨y, hy, e⟩ := List.mem_map.1 h
 exact ⟨y, (List.mem_filter.1 hy).1, e⟩
structure TkI (m n : Nat) (G : AGate) : Prop where
 all : G.all.length ≤ m
 ids : ∀ x ∈ G.all, idB x.1
 lines : G.lines.length ≤ n
 lid : ∀ x ∈ G.lines, ∀ y ∈ x.2, idB y.1
 wk : GWk G
 ok : G.Ok
theorem TkI.line {m n : Nat} {G : AGate} (h : TkI m n G) (rev : ByteArray) : ∀ y ∈ lineOf G.lines rev, idB y.1 := fun y hy => by
 unfold lineOf at hy
 cases hg : mget G.lines rev with
 | none => rw [hg] at hy; cases hy
 | some l => rw [hg] at hy; exact h.lid _ (z3x hg) y hy
theorem TkI.tick1 {m n : Nat} {G : AGate} (h : TkI m n G) {k : ByteArray} (hk : (mget G.lines k).isSome = true) (now : Int) : TkI m n (YtmbidnhdfdnihaaGreatDoor.tick1 now k G) := by
 refine ⟨?_, ?_, ?_, ?_, h.wk.tick1 k now, h.ok.tick1 h.wk hk now⟩
 ·have := congrArg List.length (zaf (rev := k) (l := lLate (lineOf G.lines k) now) (all := G.all) (h.wk.late k now))
  simp only [List.length_map] at this
  have := h.all
  unfold YtmbidnhdfdnihaaGreatDoor.tick1; dsimp only; omega
 ·refine zhe h.ids fun q hq => ?_
  obtain ⟨y, hy, rfl⟩ := zjf hq
  exact h.line k y hy
 ·have := congrArg List.length (zdW (G := G) hk now)
  simp only [List.length_map] at this
  have := h.lines
  omega
 ·intro x hx y hy
  rcases z1C hx with rfl | hx
  ·exact h.line k y (List.mem_filter.1 hy).1
  ·exact h.lid x hx y hy
theorem zdV {m n : Nat} {now : Int} {r : Int} : ∀ {ks : List ByteArray} {G : AGate} {out : List Fate}, TkI m n G → G.room = r → (∀ k ∈ ks, (mget G.lines k).isSome = true) → (∀ f ∈ out, f.Ok) →
  TkI m n (tickA now ks G out).1 ∧ (∀ f ∈ (tickA now ks G out).2, f.Ok) ∧ ((tickA now ks G out).2.length : Int) ≤ out.length + ks.length * max r 0 ∧ (tickA now ks G out).1.pat = G.pat ∧ (tickA now ks G out).1.room = G.room
 | [], G, out, h, hr, _, ho => ⟨h, ho, by simp [tickA], rfl, rfl⟩
 | k :: ks, G, out, h, hr, hk, ho => by
  have h1 := h.tick1 (hk k (by simp)) now
  have hn := zdW (G := G) (hk k (by simp)) now
  have hks : ∀ k' ∈ ks, (mget (tick1 now k G).lines k').isSome = true := fun k' hk' => by
   have := hk k' (by simp [hk'])
   cases h3 : mget (tick1 now k G).lines k' with
   | some _ => rfl
   | none =>
    rw [z1Y, hn] at h3
    cases h4 : mget G.lines k' with
    | none => rw [h4] at this; cases this
    | some v => exact absurd (List.mem_map.2 ⟨_, z3x h4, rfl⟩) h3
  have ho' : ∀ f ∈ out ++ lateF (lLate (lineOf G.lines k) now), f.Ok := fun f hf => by
   rcases List.mem_append.1 hf with hf | hf
   ·exact ho f hf
   ·unfold lateF at hf
    obtain ⟨q, hq, rfl⟩ := List.mem_map.1 hf
    obtain ⟨y, hy, rfl⟩ := zjf hq
    have := h.line k y hy
    exact ⟨⟨this.1, Int.le_trans this.2 (by decide)⟩, z9, by show s_timeout.size ≤ 1000; decide⟩
  obtain ⟨a, b, c, d, e⟩ := zdV (ks := ks) (r := r) h1 hr hks ho'
  refine ⟨a, b, ?_, d, e⟩
  have hll := z3c h.ok k
  rw [hr] at hll
  have h5 : (lLate (lineOf G.lines k) now).length ≤ (lineOf G.lines k).length := by unfold lLate; rw [List.length_map]; exact List.length_filter_le ..
  rw [List.length_append, zbA] at c
  show ((tickA now ks (tick1 now k G) (out ++ lateF (lLate (lineOf G.lines k) now))).2.length : Int) ≤ _
  rw [List.length_cons]
  have : ((ks.length + 1 : Nat) : Int) * max r 0 = ks.length * max r 0 + max r 0 := by rw [Int.natCast_add, Int.add_mul]; simp
  rw [this]
  omega
theorem zhn {k : Nat} {G : AGate} (ok : G.Ok) (hG : GtI k G) (now : Int) : GtI k (gTick G now).1 ∧ (∀ f ∈ (gTick G now).2, f.Ok) ∧ (gTick G now).2.length ≤ 8 * k := by
 have h : TkI G.all.length G.lines.length G := ⟨Nat.le_refl _, hG.ids, Nat.le_refl _, hG.lid, hG.wk, ok⟩
 obtain ⟨a, b, c, d, e⟩ := zdV (now := now) (r := G.room) (ks := ssort (G.lines.map (·.1))) (out := []) h rfl (fun k hk => by
  cases h4 : mget G.lines k with
  | none => rw [z1Y] at h4; exact absurd (z6Y.1 hk) h4
  | some v => rfl) (by simp)
 have r := hG.room
 have hl := hG.lines
 refine ⟨⟨Nat.le_trans a.all hG.all, a.ids, Nat.le_trans a.lines hl, a.lid, a.wk, ?_, ?_⟩, b, ?_⟩
 ·unfold gTick; rw [d]; exact hG.pat
 ·unfold gTick; rw [e]; exact r
 ·rw [z2x, List.length_map] at c
  have h8 : (G.lines.length : Int) * max G.room 0 ≤ G.lines.length * 8 := Int.mul_le_mul_of_nonneg_left (by omega) (by omega)
  unfold gTick
  simp only [List.length_nil] at c
  omega
structure ShI (k : Nat) (a : AShelf) : Prop where
 n : a.n ≤ k
 few : a.Few
 cfg : ∀ n, (tget a.m n).is = true → (cfgOf (tget a.m n)).1 = n ∧ specC (cfgOf (tget a.m n)) = 0 ∧ 1 ≤ (tget a.m n).gen
 rt : ∀ n, (rget a.r n).is = true → (rget a.r n).r.name = n ∧ specE (rget a.r n).r = 0
theorem ShI.mono {k m : Nat} {a : AShelf} (h : ShI k a) (hm : k ≤ m) : ShI m a := ⟨by have := h.n; omega, h.few, h.cfg, h.rt⟩
theorem zl3 {k : Nat} {a : AShelf} (ok : a.Ok) (h : ShI k a) (c : Cfg) (ver : Int) : ShI (k + 1) (shPut a c ver).1 := by
 have hf := zl4 h.few c ver
 unfold shPut at hf ⊢
 split
 ·exact h.mono (Nat.le_succ k)
 ·rename_i h1
  rw [if_neg h1] at hf
  split
  ·exact h.mono (Nat.le_succ k)
  ·rename_i h2
   rw [if_neg h2] at hf
   have hn := h.n
   refine ⟨by dsimp only; omega, hf, fun n hn2 => ?_, h.rt⟩
   dsimp only [putC] at hn2 ⊢
   rw [ziU] at hn2 ⊢
   split
   ·rename_i e
    have h1' : specC c = 0 := by simpa using h1
    refine ⟨e, h1', ?_⟩
    have h3 := ok.gen c.1
    show (1 : Int) ≤ (if (tget a.m c.1).is = true ∧ sameC (cfgOf (tget a.m c.1)) c = true then (tget a.m c.1).gen else (tget a.m c.1).gen + 1)
    split
    ·rename_i h4; exact (h.cfg c.1 h4.1).2.2
    ·omega
   ·rename_i e; rw [if_neg e] at hn2; exact h.cfg n hn2
theorem zjO {k : Nat} {a : AShelf} (h : ShI k a) (r : ARt) (ver : Int) : ShI (k + 1) (shPutR a r ver).1 := by
 have hf := zjP h.few r ver
 unfold shPutR at hf ⊢
 split
 ·exact h.mono (Nat.le_succ k)
 ·rename_i h1
  rw [if_neg h1] at hf
  split
  ·exact h.mono (Nat.le_succ k)
  ·rename_i h2
   rw [if_neg h2] at hf
   have hn := h.n
   refine ⟨by dsimp only; omega, hf, h.cfg, fun n hn2 => ?_⟩
   dsimp only [putRt] at hn2 ⊢
   rw [zmN] at hn2 ⊢
   split
   ·rename_i e
    exact ⟨e, by simpa using h1⟩
   ·rename_i e; rw [if_neg e] at hn2; exact h.rt n hn2
theorem z8a {c : Cfg} (h : specC c = 0) : shortB c.1.data.toList 16 = true ∧ (0 ≤ @id Int c.2.1 ∧ @id Int c.2.1 ≤ 255) ∧ (1 ≤ @id Int c.2.2.1 ∧ @id Int c.2.2.1 ≤ 8) ∧ (1 ≤ @id Int c.2.2.2.2.1 ∧ @id Int c.2.2.2.2.1 ≤ 10) ∧ (0 ≤ @id Int c.2.2.2.1 ∧ @id Int c.2.2.2.1 ≤ @id Int c.2.2.2.2.1) ∧ (0 ≤ @id Int c.2.2.2.2.2.1 ∧ @id Int c.2.2.2.2.2.1 ≤ 30) := by
 unfold specC at h
 split at h
 ·rename_i h1
  split at h
  ·rename_i h2
   unfold cfgNum at h2
   simp only [Bool.and_eq_true, decide_eq_true_eq] at h2
   exact ⟨h1, h2.1, h2.2.1, h2.2.2.1, h2.2.2.2.1, h2.2.2.2.2⟩
  ·cases h
 ·cases h
structure BkI (k : Nat) (a : ABook) : Prop where
 len : a.all.length ≤ k
 rev : ∀ p ∈ a.all, RevN p.1
 cfg : ∀ p ∈ a.all, specC p.2.cfg = 0
theorem BkI.mono {k m : Nat} {a : ABook} (h : BkI k a) (hm : k ≤ m) : BkI m a := ⟨by have := h.len; omega, h.rev, h.cfg⟩
theorem BkI.prove {k : Nat} {a : ABook} (h : BkI k a) (rev : ByteArray) : BkI k (bkProve a rev).1 := by
 unfold bkProve
 split
 ·exact ⟨h.len, h.rev, h.cfg⟩
 ·exact h
theorem BkI.stamp {k : Nat} {a : ABook} (h : BkI k a) {c : Cfg} (hc : specC c = 0) {g : Nat} (h1 : 1 ≤ g) (hg : g < 100) : BkI (k + 1) (bkStamp a c g).1 := by
 unfold bkStamp
 split
 ·exact h.mono (Nat.le_succ k)
 ·have := h.len
  have := z5B a.all (revB c.1 g) (rvOf (revB c.1 g) g c)
  refine ⟨by dsimp only; omega, fun p hp => ?_, fun p hp => ?_⟩
  ·rcases z1C hp with rfl | hp
   ·exact ⟨c.1, g, (z8a hc).1, h1, hg, rfl⟩
   ·exact h.rev p hp
  ·rcases z1C hp with rfl | hp
   ·exact hc
   ·exact h.cfg p hp
theorem RevN.size {n : ByteArray} (h : RevN n) : n.size ≤ 100 := by
 obtain ⟨c, g, hc, -, hg, rfl⟩ := h
 have := zaa c hg
 unfold shortB at hc
 simp only [Bool.and_eq_true, decide_eq_true_eq] at hc
 have h2 : (c.data.toList.length : Int) ≤ 16 := hc.2
 have h3 : c.data.toList.length = c.size := by rw [Array.length_toList]; rfl
 omega
theorem z9J {a : ABook} {rev : ByteArray} (h : bkHas a rev = true) : (rev, bkGet a rev) ∈ a.all := by
 unfold bkHas at h
 unfold bkGet
 cases h2 : mget a.all rev with
 | none => rw [h2] at h; cases h
 | some v => exact z3x h2
theorem zhB {a : ABook} {rev : ByteArray} (h : rev ∈ bkAll a) : bkHas a rev = true := by
 unfold bkAll at h
 unfold bkHas
 cases h2 : mget a.all rev with
 | none => rw [z1Y] at h2; exact absurd (z6Y.1 h) h2
 | some v => rfl
theorem zhA {a : ABook} (ok : a.Ok) {c : ByteArray} {q : ByteArray → Bool} : ∀ {l : List ByteArray} {t : Rv}, (∀ x ∈ l, bkHas a x = true) → (t.1 = s_ ∨ bkHas a t.1 = true) → ((l.foldl (bkStep a c q) t).1 = s_ ∨ bkHas a (l.foldl (bkStep a c q) t).1 = true)
 | [], t, _, h => h
 | x :: l, t, hl, h => by
  rw [List.foldl_cons]
  refine zhA ok (fun y hy => hl y (by simp [hy])) ?_
  have hx := hl x (by simp)
  have e : (bkGet a x).1 = x := (ok.name _ (z9J hx)).1
  unfold bkStep
  split
  ·split
   ·split
    ·exact .inr (by rw [e]; exact hx)
    ·exact h
   ·exact h
  ·exact h
theorem ziy {a : ABook} (ok : a.Ok) (c : ByteArray) (q : ByteArray → Bool) : (bkBest a c q).1 = s_ ∨ bkHas a (bkBest a c q).1 = true :=
 zhA ok (fun _ h => zhB h) (.inl rfl)
theorem BkI.size {k : Nat} {a : ABook} (h : BkI k a) {rev : ByteArray} (hr : bkHas a rev = true) : rev.size ≤ 100 := (h.rev _ (z9J hr)).size
theorem zjJ {k : Nat} {a : ABook} (ok : a.Ok) (h : BkI k a) (cfg : ByteArray) (t : Tgt) : (tgtOf a cfg t).1.size ≤ 100 := by
 have hs : s_.size ≤ 100 := by decide
 unfold tgtOf
 split
 ·split
  ·exact hs
  ·rename_i h2
   rcases ziy ok cfg (bkProved a) with e | e
   ·exact absurd e h2
   ·exact h.size e
 ·split
  ·rename_i h2
   split
   ·exact h.size h2
   ·exact hs
  ·exact hs
structure ByI (k : Nat) (bk : ABook) (m : List (ByteArray × ABes)) : Prop where
 has : ∀ p ∈ bk.all, (mget m p.1).isSome = true
 xs : ∀ x ∈ m, x.2.xs.length ≤ k
 rng : ∀ x ∈ m, ∀ y ∈ x.2.xs, 0 ≤ y ∧ y ≤ 100000000
 want : ∀ x ∈ m, (0 ≤ x.2.want ∧ x.2.want ≤ 10) ∧ (0 ≤ x.2.left ∧ x.2.left ≤ 1000)
theorem ByI.mono {k m : Nat} {bk : ABook} {b : List (ByteArray × ABes)} (h : ByI k bk b) (hm : k ≤ m) : ByI m bk b := ⟨h.has, fun x hx => by have := h.xs x hx; omega, h.rng, h.want⟩
theorem ByI.book {k : Nat} {bk bk' : ABook} {b : List (ByteArray × ABes)} (h : ByI k bk b) (e : bk'.all = bk.all) : ByI k bk' b := ⟨by rw [e]; exact h.has, h.xs, h.rng, h.want⟩
theorem ByI.set {k : Nat} {bk : ABook} {b : List (ByteArray × ABes)} (h : ByI k bk b) {rev : ByteArray} {x : ABes} (h1 : x.xs.length ≤ k) (h2 : ∀ y ∈ x.xs, 0 ≤ y ∧ y ≤ 100000000) (h3 : (0 ≤ x.want ∧ x.want ≤ 10) ∧ (0 ≤ x.left ∧ x.left ≤ 1000)) : ByI k bk (mset b rev x) :=
 ⟨fun p hp => z9z _ _ _ _ (h.has p hp), fun y hy => by
  rcases z1C hy with rfl | hy
  ·exact h1
  ·exact h.xs y hy, fun y hy => by
  rcases z1C hy with rfl | hy
  ·exact h2
  ·exact h.rng y hy, fun y hy => by
  rcases z1C hy with rfl | hy
  ·exact h3
  ·exact h.want y hy⟩
theorem ByI.tick {k : Nat} {bk : ABook} {G : AGate} (hb : ∀ rev, busyB G rev ≤ 100000000) : ∀ {l : List ByteArray} {b : List (ByteArray × ABes)}, l.Nodup → (∀ p ∈ bk.all, (mget b p.1).isSome = true) → (∀ x ∈ b, x.1 ∈ l → x.2.xs.length ≤ k) → (∀ x ∈ b, x.2.xs.length ≤ k + 1) →
  (∀ x ∈ b, ∀ y ∈ x.2.xs, 0 ≤ y ∧ y ≤ 100000000) → (∀ x ∈ b, (0 ≤ x.2.want ∧ x.2.want ≤ 10) ∧ (0 ≤ x.2.left ∧ x.2.left ≤ 1000)) → ByI (k + 1) bk (l.foldl (tkStep G) b)
 | [], b, _, h1, _, h2, h3, h4 => ⟨h1, h2, h3, h4⟩
 | rev :: l, b, nd, h1, ha, h2, h3, h4 => by
  rw [List.foldl_cons]
  rw [List.nodup_cons] at nd
  unfold tkStep
  split
  ·rename_i x hx
   have hm := z3x hx
   have hxl : x.xs.length ≤ k := ha _ hm (by simp)
   refine ByI.tick hb nd.2 (fun p hp => z9z _ _ _ _ (h1 p hp)) (fun y hy hl => ?_) (fun y hy => ?_) (fun y hy => ?_) fun y hy => ?_
   ·rcases z1C hy with rfl | hy
    ·exact absurd hl nd.1
    ·exact ha y hy (by simp [hl])
   ·rcases z1C hy with rfl | hy
    ·simp; omega
    ·exact h2 y hy
   ·rcases z1C hy with rfl | hy
    ·intro z hz
     rcases List.mem_append.1 hz with hz | hz
     ·exact h3 _ hm z hz
     ·rw [List.mem_singleton] at hz
      have := hb rev
      subst hz
      split <;> omega
    ·exact h3 y hy
   ·rcases z1C hy with rfl | hy
    ·have := h4 _ hm
     exact this
    ·exact h4 y hy
  ·exact ByI.tick hb nd.2 h1 (fun y hy hl => ha y hy (by simp [hl])) h2 h3 h4
theorem zlK (all : Alls) (rev : ByteArray) : (gWith all rev).length ≤ all.length := by
 unfold gWith
 rw [zbB, List.length_map]
 exact List.length_filter_le ..
theorem zoH {k : Nat} {G : AGate} (ok : G.Ok) (hG : GtI k G) (hk : k ≤ 10001) (rev : ByteArray) : 0 ≤ busyB G rev ∧ busyB G rev ≤ 100000000 := by
 have h1 := z3c ok rev
 have h2 := zlK G.all rev
 have h3 := hG.all
 have h4 := hG.room
 unfold busyB gWait
 rw [List.length_map]
 omega
structure WyI (k : Nat) (a : AWay) : Prop where
 fr : WBd a.fr
 to : WBd a.to
 ns : WBd a.ns
 zf : ∀ s ∈ a.fr, s.1.size ≤ 100
 zt : ∀ s ∈ a.to, s.1.size ≤ 100
 zn : ∀ s ∈ a.ns, s.1.size ≤ 100
 zg : ∀ s ∈ a.ng, s.1.size ≤ 100 ∧ s.2.1.size ≤ 100
 lf : a.fr.length ≤ 6 * k
 lt : a.to.length ≤ 6
 ln : a.ns.length ≤ 6 * k
 lg : a.ng.length ≤ 6
 since : 0 ≤ a.since ∧ a.since ≤ 1048576
abbrev RoI (k : Nat) (m : ARoll) : Prop := ∀ n x, mget m n = some x → WyI k x
theorem WyI.mono {k m : Nat} {a : AWay} (h : WyI k a) (hm : k ≤ m) : WyI m a := ⟨h.fr, h.to, h.ns, h.zf, h.zt, h.zn, h.zg, by have := h.lf; omega, h.lt, by have := h.ln; omega, h.lg, h.since⟩
theorem WyI.ok {k : Nat} {a : AWay} (h : WyI k a) (hk : k ≤ 10000) : a.Ok := ⟨h.fr, h.to, h.ns, by have := h.lf; omega, by have := h.lt; omega, by have := h.ln; omega, by have := h.lg; omega⟩
theorem zix {α : Type} [Inhabited α] [DecidableEq α] {zs : List α} {x : α} (h : x ∈ Lib.compact zs) : x ∈ zs := by
 unfold Lib.compact Lib.compactUpTo at h
 obtain ⟨i, hi, rfl⟩ := List.mem_map.1 h
 have hi := (List.mem_filter.1 hi).1
 rw [List.mem_range] at hi
 simp [hi]
theorem zl6 {l : List ByteArray} {x : ByteArray} (h : x ∈ scomp l) : x ∈ l := by
 unfold scomp at h
 obtain ⟨y, hy, rfl⟩ := List.mem_map.1 h
 obtain ⟨z, hz, rfl⟩ := List.mem_map.1 (zix hy)
 exact hz
theorem zls {fr to : List Shr} {x : ByteArray} (h : x ∈ namesOf fr to) : (∃ s ∈ fr, s.1 = x) ∨ ∃ s ∈ to, s.1 = x := by
 have h := z6Y.1 (zl6 h)
 rcases List.mem_append.1 h with h | h
 ·exact .inl (List.mem_map.1 h)
 ·exact .inr (List.mem_map.1 h)
theorem zlt (fr to : List Shr) : (namesOf fr to).length ≤ fr.length + to.length := by
 have := zgV (ssort (fr.map (·.1) ++ to.map (·.1)))
 rw [z2x, List.length_append, List.length_map, List.length_map] at this
 exact this
theorem zqE {fr to : List Shr} {gone whole : Int} (h0 : 0 < gone) (h1 : gone < whole) (n : ByteArray) : wOf fr n + upOf fr to gone whole n ≤ max (wOf fr n) (wOf to n) := by
 unfold upOf
 split
 ·rename_i hc
  have : (wOf to n - wOf fr n) * gone / whole ≤ wOf to n - wOf fr n := Int.ediv_le_of_le_mul (by omega) (Int.mul_le_mul_of_nonneg_left (by omega) (by omega))
  omega
 ·omega
theorem zgY {fr to : List Shr} {gone whole : Int} (hf : WBd fr) (ht : WBd to) (h0 : 0 < gone) (h1 : gone < whole) : ∀ {l : List ByteArray} {st : Int × List Shr}, (∀ x ∈ l, x.size ≤ 100) → 0 ≤ st.1 → WBd st.2 → (∀ s ∈ st.2, s.1.size ≤ 100) →
  WBd (l.foldl (rollStep fr to gone whole) st).2 ∧ (∀ s ∈ (l.foldl (rollStep fr to gone whole) st).2, s.1.size ≤ 100) ∧ (l.foldl (rollStep fr to gone whole) st).2.length ≤ st.2.length + l.length
 | [], st, _, _, h3, h4 => ⟨h3, h4, Nat.le_refl _⟩
 | n :: l, st, hl, h2, h3, h4 => by
  rw [List.foldl_cons]
  have a := z9o (r := n) hf
  have b := z9o (r := n) ht
  have c := zfE hf ht h0 h1 n
  have d := zqE (fr := fr) (to := to) h0 h1 n
  have key : 0 ≤ (rollStep fr to gone whole st n).1 ∧ WBd (rollStep fr to gone whole st n).2 ∧ (∀ s ∈ (rollStep fr to gone whole st n).2, s.1.size ≤ 100) ∧ (rollStep fr to gone whole st n).2.length ≤ st.2.length + 1 := by
   have hv : ∀ m : Int, wOf fr n + m ≤ 1000 → WBd (if 0 < wOf fr n + m then st.2 ++ [(n, wOf fr n + m, ())] else st.2) ∧ (∀ s ∈ (if 0 < wOf fr n + m then st.2 ++ [(n, wOf fr n + m, ())] else st.2), s.1.size ≤ 100) ∧ (if 0 < wOf fr n + m then st.2 ++ [(n, wOf fr n + m, ())] else st.2).length ≤ st.2.length + 1 := by
    intro m hm
    split
    ·rename_i hp
     refine ⟨fun s hs => ?_, fun s hs => ?_, by simp⟩
     ·rcases List.mem_append.1 hs with hs | hs
      ·exact h3 s hs
      ·rw [List.mem_singleton] at hs; subst hs; exact ⟨by show (0 : Int) ≤ wOf fr n + m; omega, hm⟩
     ·rcases List.mem_append.1 hs with hs | hs
      ·exact h4 s hs
      ·rw [List.mem_singleton] at hs; subst hs; exact hl n (by simp)
    ·exact ⟨h3, h4, Nat.le_succ _⟩
   unfold rollStep
   dsimp only
   by_cases hd : 0 < wOf fr n - wOf to n
   ·simp only [if_pos hd]
    refine ⟨by split <;> omega, hv _ (by split <;> omega)⟩
   ·simp only [if_neg hd]
    exact ⟨h2, hv _ (by omega)⟩
  obtain ⟨k1, k2, k3, k4⟩ := key
  obtain ⟨r1, r2, r3⟩ := zgY hf ht h0 h1 (l := l) (fun x hx => hl x (by simp [hx])) k1 k2 k3
  exact ⟨r1, r2, by rw [List.length_cons]; omega⟩
theorem ziQ {fr to : List Shr} {gone whole : Int} (hf : WBd fr) (ht : WBd to) (h0 : 0 < gone) (h1 : gone < whole) : ∀ l : List ByteArray, 0 ≤ (l.map (upOf fr to gone whole)).sum
 | [] => Int.le_refl 0
 | n :: l => by
  have := ziQ hf ht h0 h1 l
  have := (zfE hf ht h0 h1 n).1
  rw [List.map_cons, List.sum_cons]; omega
theorem zgU {fr to : List Shr} (hf : WBd fr) (ht : WBd to) (zf : ∀ s ∈ fr, s.1.size ≤ 100) (zt : ∀ s ∈ to, s.1.size ≤ 100) (gone whole : Int) :
  WBd (sharesOf fr to gone whole) ∧ (∀ s ∈ sharesOf fr to gone whole, s.1.size ≤ 100) ∧ (sharesOf fr to gone whole).length ≤ fr.length + to.length := by
 unfold sharesOf
 split
 ·exact ⟨ht, zt, by omega⟩
 ·split
  ·exact ⟨hf, zf, by omega⟩
  ·rename_i h1 h2
   have := zgY (gone := gone) (whole := whole) hf ht (by omega) (by omega) (l := namesOf fr to) (st := (((namesOf fr to).map (upOf fr to gone whole)).sum, [])) (fun x hx => by
    rcases zls hx with ⟨s, hs, rfl⟩ | ⟨s, hs, rfl⟩
    ·exact zf s hs
    ·exact zt s hs) (ziQ hf ht (by omega) (by omega) _) (by intro s hs; cases hs) (by intro s hs; cases hs)
   have hn := zlt fr to
   refine ⟨this.1, this.2.1, ?_⟩
   have h3 := this.2.2
   simp only [List.length_nil, Nat.zero_add] at h3
   exact Nat.le_trans h3 hn
structure TabI (t : ATab) : Prop where
 w : WBd t.sh
 zs : ∀ s ∈ t.sh, s.1.size ≤ 100
 zg : ∀ s ∈ t.tg, s.1.size ≤ 100 ∧ s.2.1.size ≤ 100
 ls : t.sh.length ≤ 6
 lg : t.tg.length ≤ 6
theorem zgQ {k : Nat} {m : ARoll} (h : RoI k m) (n : ByteArray) {t : ATab} (ht : TabI t) {now : Int} (hn : 0 ≤ now ∧ now ≤ 1048576) (whole : Int) (hk : 1 ≤ k) :
  WBd (wayOf m n t now whole).fr ∧ WBd (wayOf m n t now whole).to ∧ (∀ s ∈ (wayOf m n t now whole).fr, s.1.size ≤ 100) ∧ (∀ s ∈ (wayOf m n t now whole).to, s.1.size ≤ 100) ∧ (wayOf m n t now whole).fr.length ≤ 6 * k ∧ (wayOf m n t now whole).to.length ≤ 6 ∧ 0 ≤ (wayOf m n t now whole).since ∧ (wayOf m n t now whole).since ≤ 1048576 := by
 unfold wayOf
 have := ht.ls
 split
 ·rename_i a ha
  have w := h n a ha
  split
  ·exact ⟨w.fr, w.to, w.zf, w.zt, w.lf, w.lt, w.since.1, w.since.2⟩
  ·exact ⟨w.ns, ht.w, w.zn, ht.zs, w.ln, ht.ls, hn.1, hn.2⟩
 ·exact ⟨ht.w, ht.w, ht.zs, ht.zs, by dsimp only; omega, ht.ls, hn.1, hn.2⟩
theorem zjV {k : Nat} {m : ARoll} (h : RoI k m) (n : ByteArray) {t : ATab} (ht : TabI t) {now : Int} (hn : 0 ≤ now ∧ now ≤ 1048576) (whole : Int) (hk : 1 ≤ k) : RoI (k + 1) (roTurn m n t now whole) := by
 intro n' x hx
 unfold roTurn at hx
 rw [z49] at hx
 split at hx
 ·obtain ⟨a1, a2, a3, a4, a5, a6, a7, a8⟩ := zgQ h n ht hn whole hk
  have s := zgU a1 a2 a3 a4 (now - (wayOf m n t now whole).since) whole
  cases hx
  exact ⟨a1, a2, s.1, a3, a4, s.2.1, ht.zg, by dsimp only; omega, a6, by have := s.2.2; dsimp only [nowOf]; omega, ht.lg, a7, a8⟩
 ·exact (h n' x hx).mono (Nat.le_succ k)
theorem zlr {k : Nat} {m : ARoll} (h : RoI k m) (n : ByteArray) {t : ATab} (ht : TabI t) {now : Int} (hn : 0 ≤ now ∧ now ≤ 1048576) (whole : Int) (hk : 1 ≤ k) : WBd (nowOf m n t now whole).sh ∧ (∀ s ∈ (nowOf m n t now whole).sh, s.1.size ≤ 100) ∧ (nowOf m n t now whole).sh.length ≤ 6 * k + 6 := by
 obtain ⟨a1, a2, a3, a4, a5, a6, -, -⟩ := zgQ h n ht hn whole hk
 have s := zgU a1 a2 a3 a4 (now - (wayOf m n t now whole).since) whole
 exact ⟨s.1, s.2.1, by have := s.2.2; dsimp only [nowOf]; omega⟩
theorem RoI.del {k : Nat} {m : ARoll} (h : RoI k m) (nd : (m.map (·.1)).Nodup) (n : ByteArray) : RoI k (mdel m n) := by
 intro n' x hx
 rw [zec n n' nd] at hx
 split at hx
 ·cases hx
 ·exact h n' x hx
structure RgI (j : Nat) (ws : MSI) (ts : MSS) : Prop where
 lw : ws.length ≤ j
 lt : ts.length ≤ j
 zw : ∀ x ∈ ws, x.1.size ≤ 100 ∧ 0 ≤ x.2 ∧ x.2 ≤ 100 * j
 zt : ∀ x ∈ ts, x.1.size ≤ 100 ∧ x.2.size ≤ 100
theorem zgZ {k : Nat} {a : ABook} (ok : a.Ok) (h : BkI k a) (cfg : ByteArray) : ∀ {l : List Tgt} {j : Nat} {ws : MSI} {ts : MSS}, (∀ t ∈ l, (0 ≤ pct t ∧ pct t ≤ 100) ∧ t.2.1.size ≤ 100) → RgI j ws ts → RgI (j + l.length) (resGo a cfg l ws ts).2.1 (resGo a cfg l ws ts).2.2
 | [], _, _, _, _, h => h
 | t :: l, j, ws, ts, hl, hr => by
  rw [zf8]
  have ht := hl t (by simp)
  have hz := zjJ ok h cfg t
  have e : j + (t :: l).length = (j + 1) + l.length := by rw [List.length_cons]; omega
  split
  ·rw [e]
   refine zgZ ok h cfg (fun x hx => hl x (by simp [hx])) ⟨?_, ?_, fun x hx => ?_, fun x hx => ?_⟩
   ·have := z5B ws (tgtOf a cfg t).1 ((mget ws (tgtOf a cfg t).1).getD 0 + pct t); have := hr.lw; omega
   ·have := hr.lt
    split
    ·omega
    ·have := z5B ts t.2.1 (tgtOf a cfg t).1; omega
   ·rcases z1C hx with rfl | hx
    ·refine ⟨hz, ?_⟩
     dsimp only
     cases hg : mget ws (tgtOf a cfg t).1 with
     | none => simp only [Option.getD_none]; omega
     | some v => have := (hr.zw _ (z3x hg)).2; simp only [Option.getD_some]; dsimp only at this; omega
    ·have := hr.zw x hx
     exact ⟨this.1, this.2.1, by omega⟩
   ·split at hx
    ·exact hr.zt x hx
    ·rcases z1C hx with rfl | hx
     ·exact ⟨ht.2, hz⟩
     ·exact hr.zt x hx
  ·exact ⟨by have := hr.lw; dsimp only; omega, by have := hr.lt; dsimp only; omega, fun x hx => by have := hr.zw x hx; exact ⟨this.1, this.2.1, by rw [e]; omega⟩, hr.zt⟩
theorem zj5 {m : List (ByteArray × Int)} {s : Shr} (h : s ∈ ordI m) : (s.1, @id Int s.2.1) ∈ m := by
 unfold ordI at h
 obtain ⟨x, hx, rfl⟩ := List.mem_map.1 h
 have hx := z6Y.1 hx
 cases hg : mget m x with
 | none => exact absurd hx (z1Y.1 hg)
 | some v => exact z3x hg
theorem zmY {m : List (ByteArray × ByteArray)} {s : Tgo} (h : s ∈ ordS m) : (s.1, s.2.1) ∈ m := by
 unfold ordS at h
 obtain ⟨x, hx, rfl⟩ := List.mem_map.1 h
 have hx := z6Y.1 hx
 cases hg : mget m x with
 | none => exact absurd hx (z1Y.1 hg)
 | some v => exact z3x hg
theorem ze5 {k : Nat} {a : ABook} (ok : a.Ok) (h : BkI k a) {r : ARt} (hl : r.ts.length ≤ 6) (ht : ∀ t ∈ r.ts, (0 ≤ pct t ∧ pct t ≤ 100) ∧ t.2.1.size ≤ 100) : TabI (resolve a r).1 := by
 have hg := zgZ ok h r.cfg (l := r.ts) (j := 0) (ws := []) (ts := []) ht ⟨Nat.le_refl _, Nat.le_refl _, by simp, by simp⟩
 unfold resolve
 split
 ·refine ⟨fun s hs => ?_, fun s hs => ?_, fun s hs => ?_, ?_, ?_⟩
  ·have := (hg.zw _ (zj5 (List.mem_filter.1 hs).1)).2
   dsimp only at this
   exact ⟨this.1, by omega⟩
  ·exact (hg.zw _ (zj5 (List.mem_filter.1 hs).1)).1
  ·exact hg.zt _ (zmY hs)
  ·have h1 := List.length_filter_le posW (ordI (resGo a r.cfg r.ts [] []).2.1)
   have h2 : (ordI (resGo a r.cfg r.ts [] []).2.1).length = (resGo a r.cfg r.ts [] []).2.1.length := by unfold ordI; rw [List.length_map, z2x, List.length_map]
   have := hg.lw
   dsimp only; omega
  ·have h2 : (ordS (resGo a r.cfg r.ts [] []).2.2).length = (resGo a r.cfg r.ts [] []).2.2.length := by unfold ordS; rw [List.length_map, z2x, List.length_map]
   have := hg.lt
   dsimp only; omega
 ·exact ⟨(by intro s hs; cases hs), (by intro s hs; cases hs), (by intro s hs; cases hs), Nat.zero_le _, Nat.zero_le _⟩
theorem zgT {a : ARt} (h : specE a = 0) : (shortB a.name.data.toList 16 = true ∧ shortB a.cfg.data.toList 16 = true) ∧ (0 ≤ a.roll ∧ a.roll ≤ 60) ∧ a.ts.length ≤ 6 ∧ ∀ t ∈ a.ts, (0 ≤ pct t ∧ pct t ≤ 100) ∧ t.2.1.size ≤ 100 := by
 have hl := ze1 h
 unfold specE at h
 split at h
 ·rename_i h1
  split at h
  ·rename_i h2
   split at h
   ·rename_i h3
    refine ⟨h1, h2, hl, fun t ht => ?_⟩
    have h4 : tgE t = 0 := by
     split at h
     ·rename_i x hx
      have := List.find?_some hx
      simp only [decide_eq_true_eq] at this
      exact absurd h this
     ·rename_i hx
      have := List.find?_eq_none.1 hx t ht
      simpa using this
    refine ⟨znR h4, ?_⟩
    unfold tgE at h4
    split at h4
    ·cases h4
    ·rename_i h5
     unfold tagBad at h5
     by_cases e : t.2.1 = s_
     ·rw [e]; decide
     ·have h6 : shortB t.2.1.data.toList 8 = true := by simpa [e] using h5
      unfold shortB at h6
      simp only [Bool.and_eq_true, decide_eq_true_eq] at h6
      have h7 : (t.2.1.data.toList.length : Int) ≤ 8 := h6.2
      have h8 : t.2.1.data.toList.length = t.2.1.size := by rw [Array.length_toList]; rfl
      omega
   ·cases h
  ·cases h
 ·cases h
theorem zjL {t : ATab} {m : Nat} (hw : WBd t.sh) (zs : ∀ s ∈ t.sh, s.1.size ≤ 100) (zg : ∀ s ∈ t.tg, s.1.size ≤ 100 ∧ s.2.1.size ≤ 100) (hl : t.sh.length + t.tg.length ≤ m) (hm : m ≤ 80000) : TabB t := by
 refine ⟨fun s hs => ⟨hw s hs, by have := zs s hs; omega⟩, fun s hs => by have := zg s hs; omega, ?_⟩
 have h := zdQ 1200 (tabParts t) (fun x hx => by
  unfold tabParts at hx
  rcases List.mem_append.1 hx with hx | hx
  ·obtain ⟨s, hs, rfl⟩ := List.mem_map.1 hx
   have h1 := zs s hs
   have h2 := zcP (@id Int s.2.1).toNat
   have h3 := hw s hs
   have h4 : s___b5df.size = 1 := rfl
   unfold shT
   rw [ByteArray.size_append, ByteArray.size_append]
   omega
  ·obtain ⟨s, hs, rfl⟩ := List.mem_map.1 hx
   have h1 := zg s hs
   have h4 : s___b5e2.size = 1 := rfl
   unfold toT
   rw [ByteArray.size_append, ByteArray.size_append]
   omega)
 unfold tabText
 have h2 : (tabParts t).length = t.sh.length + t.tg.length := by unfold tabParts; simp
 rw [h2] at h
 have : (t.sh.length + t.tg.length) * (1200 + 1) ≤ 80000 * 1201 := Nat.mul_le_mul (by omega) (by omega)
 omega
end Go.Proofs.YtmbidnhdfdnihaaGreatDoor
namespace Go.Proofs.YtmbidnhdfdnihaaGreatDoor
open Go.Dm
attribute [local irreducible] L.load L.store L.chk L.new L.nonnil L.guard L.ite L.draw L.idx L.sem L.semR L.semU L.chkSem L.next L.call L.callV L.join L.alts L.loop L.begin L.endRound L.range
variable {w0 w : World} {E : List Seg}
def sysDrop (a : ASys) (e : AEv) : ASys × List ByteArray :=
 if (shDrop a.sh e.n e.name e.draw).2 ≠ 0 then ({ a with sh := (shDrop a.sh e.n e.name e.draw).1 }, refusedB (shDrop a.sh e.n e.name e.draw).2)
 else ({ a with sh := (shDrop a.sh e.n e.name e.draw).1, ro := if e.n = 2 then mdel a.ro e.name else a.ro }, [lineB zle [e.name]])
def sysDown (a : ASys) (e : AEv) : ASys × List ByteArray :=
 if (fKill a.fl e.n).2.2 ≠ 0 then ({ a with fl := (fKill a.fl e.n).1 }, refusedB (fKill a.fl e.n).2.2)
 else ({ a with fl := (fKill a.fl e.n).1, gt := (gLost a.gt (fKill a.fl e.n).2.1).1 }, lineB zf5 [decD e.n.toNat] :: (gLost a.gt (fKill a.fl e.n).2.1).2.map fateB)
theorem zmc [bTab w0] (h : St w0 E w) (i : Nat) {b : Nat} {a : ASys} {s : Seg} (hi : nth E i = some s) (hs : SysS b a s) {e : AEv} (he : 0 ≤ e.n ∧ e.n ≤ 9000000000000000000) (hn : (fKill a.fl e.n).2.1.length < 1000000) (hf : ∀ f ∈ (gLost a.gt (fKill a.fl e.n).2.1).2, f.Ok)
  {k : Sl → PT} (hk : Hk w0 E i b (sysDown a e) k) : z4H (some ⟨b, 0, none⟩) e.t (slK k) w := by
 obtain ⟨p, sg, sf, ss, sk, sr, sm, Q, R, rfl⟩ := hs
 have hfl : (gLost a.gt (fKill a.fl e.n).2.1).2.length < 100000000 := by
  have := (z9B (l := (fKill a.fl e.n).2.1) (all := a.gt.all) (out := [])).1
  unfold gLost
  simp only [List.length_nil] at this
  dsimp only; omega
 unfold z4H
 unfold sysDown at hk
 have h := (h.front i hi).split8
 refine nw h ?_; clear h; (try clear w); intro b1 w h
 (dsimp only [setN, List.cons_append, List.nil_append] at h; refine dr h ?_; clear h; (try clear w); intro w h; refine nn ?_; refine ldC h ?_; refine ldC h ?_)
 refine zph h 3 rfl R.fl fun v1 sf' s2 w hF r1 h => ?_
 dsimp only [setN] at h
 generalize fKill a.fl e.n = g at *
 obtain ⟨F, ids, no⟩ := g
 dsimp only at *
 refine it (fun hc => ?_) (fun hc => ?_)
 ·rw [if_pos (by simpa using hc)] at hk
  refine z5F h fun v s w r h => ?_
  exact ⟨v, rfl, hk v s _ w r ⟨p, sg, sf', ss, sk, sr, sm, Q, ⟨R.gt, hF, R.sh, R.bk, R.ro, R.mp, R.ea, R.ab⟩, rfl⟩ (sysBack i hi (dl1_ (dl1_ h)))⟩
 rw [if_neg (by simpa using hc)] at hk
 refine z2u (fun (z : Sl × Unit) w => ∃ sv sg', GtS p.g p.f (gLost a.gt ids).1 sg' ∧ Rw eS z00 1 z.1 (lineB zf5 [decD e.n.toNat] :: (gLost a.gt ids).2.map fateB) sv ∧
  St w0 (sv :: sysC b p a.now :: sg' :: sf' :: ss :: sk :: sr :: sm :: (Q.map BsE.sg).flatten :: delN E i) w) (fun k7 hk7 => ?_) ?_
 ·(refine dr h ?_; clear h; (try clear w); intro w h; refine nn ?_; refine ldC h ?_; refine ldC h ?_)
  refine alts2 ?_ ?_
  ·have h := fr3_ h
   refine zmm h R.gt r1 hn fun v sv sg' w hr hG h => ?_
   (refine ckC h ?_)
   refine nw h ?_; clear h; (try clear w); intro b13 w h
   (refine ckC h ?_)
   refine lineI1 h (by decide) he.1 (by omega) fun w h => ?_
   refine nw h ?_; clear h; (try clear w); intro b15 w h
   refine zhE h (l := [lineB zf5 [decD e.n.toNat]]) hr hf hfl (by simp) (Rw.lit b15 [_] encS rfl rfl (by simp [maxLen])) fun v s w r h => ?_
   refine hk7 _ w ⟨s, sg', hG, r, ?_⟩
   have h := dl1_ (dl3_ (dl4_ h))
   have h := fr2_ (fr2_ (fr1_ h))
   exact h
  ·refine nw h ?_; clear h; (try clear w); intro b17 w h
   (refine ckC h ?_)
   have h := fr4_ (fr1_ h)
   refine zmm h R.gt r1 hn fun v sv sg' w hr hG h => ?_
   (refine ckC h ?_)
   have h := fr3_ h
   refine lineI1 h (by decide) he.1 (by omega) fun w h => ?_
   refine nw h ?_; clear h; (try clear w); intro b20 w h
   refine zhE h (l := [lineB zf5 [decD e.n.toNat]]) hr hf hfl (by simp) (Rw.lit b20 [_] encS rfl rfl (by simp [maxLen])) fun v s w r h => ?_
   refine hk7 _ w ⟨s, sg', hG, r, ?_⟩
   have h := dl1_ (dl3_ (dl4_ h))
   have h := fr2_ (fr2_ (fr1_ h))
   exact h
 clear h; (try clear w)
 rintro ⟨z, ⟨⟩⟩ w ⟨sv, sg', hG, r, h⟩
 dsimp only at r ⊢
 exact ⟨z, rfl, hk z sv _ w r ⟨p, sg', sf', ss, sk, sr, sm, Q, ⟨hG, hF, R.sh, R.bk, R.ro, R.mp, R.ea, R.ab⟩, rfl⟩ (sysBack i hi h)⟩
def mn2 (a b : Int) : Int := if b < a then b else a
def mx2 (a b : Int) : Int := if b > a then b else a
def scNeed (s n c : Int) : Int := if n ≤ 0 then 0 else if c ≤ 0 then 0 else (s + n * c - 1) / (n * c)
abbrev scM (ready : Int) : Int := if ready > 1 then ready else 1
def scLeft (left b m : Int) : Int := if b ≥ 2 * m then 6 else if 0 > left - 1 then 0 else left - 1
def scW1 (want left' a b : Int) : Int := if left' > 0 then mx2 (mx2 want a) b else a
def scW2 (w1 want busy idle grace : Int) : Int := if w1 = 0 ∧ (busy > 0 ∨ (want > 0 ∧ idle < grace)) then 1 else w1
def scEnd (w2 ready mi ma : Int) : Int := mn2 (mx2 (mx2 (mn2 w2 (4 * scM ready)) (ready / 2)) mi) ma
def scDec (want left : Int) (c : Cfg) (ready busy st sts sh shs idle : Int) : Int × Int :=
 (scEnd (scW2 (scW1 want (scLeft left (scNeed sh shs c.2.2.1) (scM ready)) (scNeed st sts c.2.2.1) (scNeed sh shs c.2.2.1)) want busy idle c.2.2.2.2.2.1) ready c.2.2.2.1 c.2.2.2.2.1, scLeft left (scNeed sh shs c.2.2.1) (scM ready))
def scOf (a : ASys) (x : ABes) (rev : ByteArray) : Int × Int :=
 scDec x.want x.left (bkGet a.bk rev).2.2 (cnt (fun s => s == 2) (fPods a.fl.l rev)) (busyB a.gt rev) (lastS x.xs (lastN x.xs 6)) (lastN x.xs 6) (lastS x.xs (lastN x.xs 2)) (lastN x.xs 2) (tz x.xs)
def sysScale (a : ASys) (e : AEv) : ASys × List ByteArray :=
 if bkHas a.bk e.name = false then (a, refusedB 6) else match mget a.by' e.name with
 | none => (a, [])
 | some x => ({ a with by' := mset a.by' e.name ⟨x.xs, (scOf a x e.name).1, (scOf a x e.name).2⟩ }, [lineB (lineB s_scale [e.name]) [decD (scOf a x e.name).1.toNat]])
end Go.Proofs.YtmbidnhdfdnihaaGreatDoor
namespace Go.Proofs.YtmbidnhdfdnihaaGreatDoor
open Go.Dm
structure SInv (k : Nat) (a : ASys) : Prop where
 fl : FlI k a.fl
 gt : GtI k a.gt
 sh : ShI k a.sh
 bk : BkI k a.bk
 ro : RoI k a.ro
 by' : ByI k a.bk a.by'
 now : 0 ≤ a.now ∧ a.now ≤ 1048576
structure SOk (a : ASys) : Prop where
 fl : a.fl.Ok
 gt : a.gt.Ok
 sh : a.sh.Ok
 bk : a.bk.Ok
 ro : (a.ro.map (·.1)).Nodup
 nd : (a.bk.all.map (·.1)).Nodup
theorem SysS.ok {b : Nat} {a : ASys} {s : Seg} (h : SysS b a s) : SOk a := by
 obtain ⟨p, sg, sf, ss, sk, sr, sm, Q, R, -⟩ := h
 refine ⟨R.fl.1, R.gt.1, R.sh.1, R.bk.1, ?_, ?_⟩
 ·obtain ⟨r, sm, P, Q, hm, -, e, -⟩ := R.ro
  rw [e]
  have := hm.nd
  simpa [List.map_map, Function.comp_def] using this
 ·obtain ⟨-, rA, rP, sA, sP, hA, -⟩ := R.bk
  exact hA.nd
theorem SInv.mono {k m : Nat} {a : ASys} (h : SInv k a) (hm : k ≤ m) : SInv m a := ⟨h.fl.mono hm, h.gt.mono hm, h.sh.mono hm, h.bk.mono hm, fun n x hx => (h.ro n x hx).mono hm, h.by'.mono hm, h.now⟩
theorem zoy {room line pat : Int} (h : newOk room line pat = true) (hr : room ≤ 20) : SInv 0 (newSys room line pat) := by
 unfold newOk wiB at h
 simp only [Bool.and_eq_true, decide_eq_true_eq] at h
 obtain ⟨⟨r1, r2⟩, ⟨l1, l2⟩, p1, p2⟩ := h
 refine ⟨⟨⟨hr, ?_, ?_⟩, r1, Int.le_refl 0, ?_, ?_⟩, ⟨Nat.le_refl _, ?_, Nat.le_refl _, ?_, ?_, ⟨p1, by show pat ≤ 1000; omega⟩, l1, l2⟩, ⟨Int.le_refl 0, ?_, ?_, ?_⟩, ⟨Nat.le_refl _, ?_, ?_⟩, ?_, ⟨?_, ?_, ?_, ?_⟩, Int.le_refl 0, by show (0 : Int) ≤ 1048576; decide⟩
 ·show ((0 : Nat) : Int) ≤ max room 0; omega
 all_goals first | (intro x hx; cases hx; done) | skip
 intro n x h; cases h
def sysDo (a : ASys) (e : AEv) : ASys × List ByteArray :=
 if chkEv e ≠ 0 then (a, [lineB zlf [errB (chkEv e)]])
 else if e.kind = 1 then sysConfig a e else if e.kind = 2 then sysRoute a e else if e.kind = 3 then sysDrop a e else if e.kind = 4 then sysArrive a e else if e.kind = 5 then sysDone a e else if e.kind = 6 then sysUp a e
 else if e.kind = 9 then sysTick a else if e.kind = 10 then sysStamp a e else if e.kind = 11 then sysLead a e else if e.kind = 12 then sysScale a e else if e.kind = 13 then sysPods a e else sysDown a e
theorem zjw {e : AEv} (h : chkEv e = 0) : (shp e.kind).2 = true ∧ chkS (shp e.kind).1 e = 0 := by
 unfold chkEv at h
 split at h
 ·cases h
 ·rename_i h1; exact ⟨by simpa using h1, h⟩
theorem z9I {e : AEv} (h : chkEv e = 0) : ((shp e.kind).1.1 = true → numE e = true) ∧ ((shp e.kind).1.2.1 = true → namedE e = true) ∧ ((shp e.kind).1.2.2.2.1 = true → wiB e.draw 0 2147483647 = true) ∧ ((shp e.kind).1.2.2.2.2.1 = true → specC e.c = 0) ∧ ((shp e.kind).1.2.2.2.2.2.1 = true → (shp e.kind).1.2.2.2.2.1 = false → specE e.r = 0) := by
 have h := (zjw h).2
 generalize (shp e.kind).1 = s at h ⊢
 obtain ⟨s1, s2, s3, s4, s5, s6, ⟨⟩⟩ := s
 unfold chkS at h
 dsimp only at h ⊢
 split at h
 ·cases h
 ·split at h
  ·cases h
  ·rename_i h1
   split at h
   ·cases h
   ·rename_i h2
    split at h
    ·cases h
    ·split at h
     ·cases h
     ·rename_i h3
      refine ⟨fun e1 => ?_, fun e1 => ?_, fun e1 => ?_, fun e1 => ?_, fun e1 e2 => ?_⟩
      ·cases hn : numE e with
       | true => rfl
       | false => exact absurd ⟨e1, hn⟩ h1
      ·cases hn : namedE e with
       | true => rfl
       | false => exact absurd ⟨e1, hn⟩ h2
      ·cases hn : wiB e.draw 0 2147483647 with
       | true => rfl
       | false => exact absurd ⟨e1, hn⟩ h3
      ·rw [if_pos e1] at h; exact h
      ·rw [if_neg (by simp [e2]), if_pos e1] at h; exact h
theorem zkc {e : AEv} (h : chkEv e = 0) : e.kind = 1 ∨ e.kind = 2 ∨ e.kind = 3 ∨ e.kind = 4 ∨ e.kind = 5 ∨ e.kind = 6 ∨ e.kind = 7 ∨ e.kind = 8 ∨ e.kind = 9 ∨ e.kind = 10 ∨ e.kind = 11 ∨ e.kind = 12 ∨ e.kind = 13 := by
 have h := (zjw h).1
 unfold shp at h
 repeat' (split at h)
 all_goals first | omega | (cases h; done)
theorem zjx {e : AEv} (h : chkEv e = 0) (hk : e.kind = 4 ∨ e.kind = 5 ∨ e.kind = 6 ∨ e.kind = 7 ∨ e.kind = 8) : idB e.n ∧ 1 ≤ e.n := by
 have h1 := (z9I h).1 (by rcases hk with e | e | e | e | e <;> rw [e] <;> rfl)
 unfold numE wiB at h1
 rw [if_neg (by omega), if_neg (by omega)] at h1
 simp only [Bool.and_eq_true, decide_eq_true_eq] at h1
 exact ⟨⟨by omega, h1.2⟩, h1.1⟩
theorem znv {e : AEv} (h : chkEv e = 0) (hk : e.kind = 3 ∨ e.kind = 4 ∨ e.kind = 10 ∨ e.kind = 11) : ((e.name.size : Nat) : Int) ≤ 16 := by
 have h1 := (z9I h).2.1 (by rcases hk with e | e | e | e <;> rw [e] <;> rfl)
 unfold namedE at h1
 rw [if_neg (by omega)] at h1
 exact z6W h1
theorem znw {e : AEv} (h : chkEv e = 0) (hk : e.kind = 4) : 0 ≤ e.draw ∧ e.draw ≤ 2147483647 := by
 have h1 := (z9I h).2.2.1 (by rw [hk]; rfl)
 unfold wiB at h1
 simpa using h1
theorem zqL {e : AEv} (h : chkEv e = 0) (hk : e.kind = 1) : specC e.c = 0 := (z9I h).2.2.2.1 (by rw [hk]; rfl)
theorem zqK {e : AEv} (h : chkEv e = 0) (hk : e.kind = 2) : specE e.r = 0 := (z9I h).2.2.2.2 (by rw [hk]; rfl) (by rw [hk]; rfl)
theorem zkd {k : Nat} {a : ASys} (ok : SOk a) (h : SInv k a) (e : AEv) : SInv (k + 1) (sysConfig a e).1 :=
 ⟨h.fl.mono (Nat.le_succ k), h.gt.mono (Nat.le_succ k), zl3 ok.sh h.sh e.c e.n, h.bk.mono (Nat.le_succ k), fun n x hx => (h.ro n x hx).mono (Nat.le_succ k), h.by'.mono (Nat.le_succ k), h.now⟩
theorem zlC {k : Nat} {a : ASys} (h : SInv k a) (e : AEv) : SInv (k + 1) (sysRoute a e).1 :=
 ⟨h.fl.mono (Nat.le_succ k), h.gt.mono (Nat.le_succ k), zjO h.sh e.r e.n, h.bk.mono (Nat.le_succ k), fun n x hx => (h.ro n x hx).mono (Nat.le_succ k), h.by'.mono (Nat.le_succ k), h.now⟩
theorem zke {k : Nat} {a : ASys} (ok : SOk a) (h : SInv k a) {e : AEv} (he : idB e.n) : SInv (k + 1) (sysArrive a e).1 := by
 have hg := znm ok.gt h.fl h.gt he (bnd a e) a.now
 have h1 : SInv (k + 1) { a with fl := (arG a e).1, gt := (arG a e).2.1 } := ⟨hg.1.mono (Nat.le_succ k), hg.2, h.sh.mono (Nat.le_succ k), h.bk.mono (Nat.le_succ k), fun n x hx => (h.ro n x hx).mono (Nat.le_succ k), h.by'.mono (Nat.le_succ k), h.now⟩
 unfold sysArrive
 split
 ·rename_i x hx
  have hm : (bnd a e, x) ∈ a.by' := by
   unfold pokes at hx
   split at hx
   ·rename_i y hy
    split at hx
    ·cases hx; exact z3x hy
    ·cases hx
   ·cases hx
  refine ⟨h1.fl, h1.gt, h1.sh, h1.bk, h1.ro, ?_, h1.now⟩
  exact h1.by'.set (h1.by'.xs _ hm) (h1.by'.rng _ hm) ⟨⟨by show (0 : Int) ≤ 1; decide, by show (1 : Int) ≤ 10; decide⟩, (h1.by'.want _ hm).2⟩
 ·exact h1
theorem zpR {k : Nat} {a : ASys} (ok : SOk a) (h : SInv k a) (e : AEv) : SInv (k + 1) (sysUp a e).1 := by
 have hu := h.fl.up e.n
 have hg := zlN ok.gt hu h.gt (fOf (fUpp a.fl e.n).1.l e.n)
 unfold sysUp
 split
 ·exact ⟨hu.mono (Nat.le_succ k), h.gt.mono (Nat.le_succ k), h.sh.mono (Nat.le_succ k), h.bk.mono (Nat.le_succ k), fun n x hx => (h.ro n x hx).mono (Nat.le_succ k), h.by'.mono (Nat.le_succ k), h.now⟩
 ·refine ⟨hg.1.mono (Nat.le_succ k), hg.2, h.sh.mono (Nat.le_succ k), ?_, fun n x hx => (h.ro n x hx).mono (Nat.le_succ k), ?_, h.now⟩
  ·dsimp only; unfold upBk
   split
   ·exact h.bk.mono (Nat.le_succ k)
   ·exact (h.bk.prove _).mono (Nat.le_succ k)
  ·dsimp only; unfold upBk
   split
   ·exact h.by'.mono (Nat.le_succ k)
   ·refine (h.by'.mono (Nat.le_succ k)).book ?_
    unfold bkProve
    split <;> rfl
theorem zng {k : Nat} {a : ASys} (h : SInv k a) (e : AEv) : SInv (k + 1) (sysDown a e).1 := by
 have hu := h.fl.kill e.n
 have hi := zjg h.fl e.n
 have hl := zlL h.gt hi.1 hi.2
 unfold sysDown
 split
 ·exact ⟨hu.mono (Nat.le_succ k), h.gt.mono (Nat.le_succ k), h.sh.mono (Nat.le_succ k), h.bk.mono (Nat.le_succ k), fun n x hx => (h.ro n x hx).mono (Nat.le_succ k), h.by'.mono (Nat.le_succ k), h.now⟩
 ·exact ⟨hu.mono (Nat.le_succ k), hl, h.sh.mono (Nat.le_succ k), h.bk.mono (Nat.le_succ k), fun n x hx => (h.ro n x hx).mono (Nat.le_succ k), h.by'.mono (Nat.le_succ k), h.now⟩
theorem zny {a : ABook} (nd : (a.all.map (·.1)).Nodup) : (bkAll a).Nodup := (z6V _).nodup_iff.2 nd
theorem znd {k : Nat} {a : ASys} (ok : SOk a) (nd : (a.bk.all.map (·.1)).Nodup) (h : SInv k a) (hk : k ≤ 10000) : SInv (k + 1) (sysTick a).1 := by
 have hg := zhn ok.gt h.gt (a.now + 1)
 have hG : (tkG a).1.Ok := by
  have := zdV (m := a.gt.all.length) (n := a.gt.lines.length) (now := a.now + 1) (r := a.gt.room) (ks := ssort (a.gt.lines.map (·.1))) (G := a.gt) (out := []) ⟨Nat.le_refl _, h.gt.ids, Nat.le_refl _, h.gt.lid, h.gt.wk, ok.gt⟩ rfl (fun k hk => by
   cases h4 : mget a.gt.lines k with
   | none => rw [z1Y] at h4; exact absurd (z6Y.1 hk) h4
   | some v => rfl) (by simp)
  exact this.1.ok
 unfold sysTick
 split
 ·exact h.mono (Nat.le_succ k)
 ·rename_i hc
  refine ⟨h.fl.mono (Nat.le_succ k), hg.1.mono (Nat.le_succ k), h.sh.mono (Nat.le_succ k), h.bk.mono (Nat.le_succ k), fun n x hx => (h.ro n x hx).mono (Nat.le_succ k), ?_, ?_⟩
  ·exact ByI.tick (fun rev => (zoH hG hg.1 (by omega) rev).2) (zny nd) h.by'.has (fun x hx _ => h.by'.xs x hx) (fun x hx => Nat.le_succ_of_le (h.by'.xs x hx)) h.by'.rng h.by'.want
  ·have := h.now; dsimp only; omega
theorem ze4 {k : Nat} {a : AShelf} (ok : a.Ok) (h : ShI k a) {n : ByteArray} (hi : (shCfg a n).2.2.2.1 = true) : specC (shCfg a n).1 = 0 ∧ 1 ≤ @id Int (shCfg a n).2.2.1 ∧ @id Int (shCfg a n).2.2.1 ≤ a.n := by
 unfold shCfg at hi ⊢
 split
 ·rename_i h1
  have := h.cfg n h1
  exact ⟨this.2.1, this.2.2, (ok.gen n).2⟩
 ·rename_i h1
  rw [if_neg h1] at hi
  cases hi
theorem zlB {k : Nat} {a : ASys} (ok : SOk a) (h : SInv k a) (hn : a.sh.n < 100) (e : AEv) : SInv (k + 1) (sysStamp a e).1 := by
 have hm := h.mono (Nat.le_succ k)
 unfold sysStamp
 split
 ·exact hm
 ·rename_i h1
  have hc := ze4 ok.sh h.sh (n := e.name) (by simpa using h1)
  split
  ·exact hm
  ·have hb := h.bk.stamp (c := (shCfg a.sh e.name).1) hc.1 (g := (@id Int (shCfg a.sh e.name).2.2.1).toNat) (by omega) (by omega)
   have hw := (z8a hc.1).2.2.2
   split
   ·rename_i h3
    refine ⟨hm.fl, hm.gt, hm.sh, hb, hm.ro, hm.by'.book ?_, hm.now⟩
    dsimp only [stp] at h3 ⊢
    unfold bkStamp at h3 ⊢
    split
    ·rfl
    ·rename_i h4; rw [if_neg h4] at h3; cases h3
   ·rename_i h3
    refine ⟨hm.fl, hm.gt, hm.sh, hb, hm.ro, ⟨fun p hp => ?_, ?_, ?_, ?_⟩, hm.now⟩
    ·dsimp only [stp] at h3 hp ⊢
     rw [z49]
     split
     ·rfl
     ·rename_i h5
      unfold bkStamp at hp h5
      split at hp
      ·exact h.by'.has p hp
      ·rename_i h6
       rw [if_neg h6] at h5
       rcases z1C hp with rfl | hp
       ·exact absurd rfl h5
       ·exact h.by'.has p hp
    all_goals
     intro y hy
     rcases z1C hy with rfl | hy
    ·exact Nat.zero_le _
    ·exact hm.by'.xs y hy
    ·intro z hz; cases hz
    ·exact hm.by'.rng y hy
    ·refine ⟨?_, Int.le_refl 0, by show (0 : Int) ≤ 1000; decide⟩
     show 0 ≤ wantOf (shCfg a.sh e.name).1 ∧ wantOf (shCfg a.sh e.name).1 ≤ 10
     unfold wantOf
     split <;> omega
    ·exact hm.by'.want y hy
theorem zf3 {k : Nat} {a : AShelf} (h : ShI k a) (n : ByteArray) : (shRt a n).1.ts.length ≤ 6 ∧ (∀ t ∈ (shRt a n).1.ts, (0 ≤ pct t ∧ pct t ≤ 100) ∧ t.2.1.size ≤ 100) ∧ 0 ≤ (shRt a n).1.roll ∧ (shRt a n).1.roll ≤ 60 := by
 unfold shRt
 split
 ·rename_i h1
  have := zgT (h.rt n h1).2
  exact ⟨this.2.2.1, this.2.2.2, this.2.1.1, this.2.1.2⟩
 ·exact ⟨Nat.zero_le _, (by intro t ht; cases ht), (show (0 : Int) ≤ 0 by decide), (show (0 : Int) ≤ 60 by decide)⟩
theorem znf {k : Nat} {a : ASys} (ok : SOk a) (h : SInv k a) (e : AEv) : SInv (k + 2) (sysLead a e).1 := by
 have hm := h.mono (Nat.le_add_right k 2)
 have hr := zf3 h.sh e.name
 unfold sysLead
 split
 ·exact hm
 ·split
  ·exact hm
  ·refine ⟨hm.fl, hm.gt, hm.sh, hm.bk, ?_, hm.by', hm.now⟩
   exact zjV (k := k + 1) (h.mono (Nat.le_succ k)).ro e.name (ze5 ok.bk h.bk hr.1 hr.2.1) h.now _ (by omega)
theorem zne {k : Nat} {a : ASys} (h : SInv k a) (e : AEv) : SInv (k + 1) (sysPods a e).1 := by
 have hm := h.mono (Nat.le_succ k)
 unfold sysPods
 split
 ·exact hm
 ·rename_i h1
  have h1 : bkHas a.bk e.name = true := by simpa using h1
  have hb := z9J h1
  have hc := (z8a (h.bk.cfg _ hb)).2.2.1
  refine ⟨?_, hm.gt, hm.sh, hm.bk, hm.ro, hm.by', hm.now⟩
  exact h.fl.scale (h.bk.rev _ hb) (Int.le_trans hc.2 (by decide)) _
theorem zkV {a : ASys} {e : AEv} (h : chkEv e ≠ 0) : sysDo a e = (a, [lineB zlf [errB (chkEv e)]]) := by unfold sysDo; rw [if_pos h]
theorem zfY {a : ASys} {e : AEv} (h : chkEv e = 0) (hk : e.kind = 1) : sysDo a e = sysConfig a e := by unfold sysDo; rw [if_neg (by simp [h]), if_pos hk]
theorem zic {a : ASys} {e : AEv} (h : chkEv e = 0) (hk : e.kind = 2) : sysDo a e = sysRoute a e := by unfold sysDo; rw [if_neg (by simp [h]), if_neg (by omega), if_pos hk]
theorem zoi {a : ASys} {e : AEv} (h : chkEv e = 0) (hk : e.kind = 3) : sysDo a e = sysDrop a e := by unfold sysDo; rw [if_neg (by simp [h]), if_neg (by omega), if_neg (by omega), if_pos hk]
theorem zfU {a : ASys} {e : AEv} (h : chkEv e = 0) (hk : e.kind = 4) : sysDo a e = sysArrive a e := by unfold sysDo; rw [if_neg (by simp [h]), if_neg (by omega), if_neg (by omega), if_neg (by omega), if_pos hk]
theorem zoh {a : ASys} {e : AEv} (h : chkEv e = 0) (hk : e.kind = 5) : sysDo a e = sysDone a e := by unfold sysDo; rw [if_neg (by simp [h]), if_neg (by omega), if_neg (by omega), if_neg (by omega), if_neg (by omega), if_pos hk]
theorem zib {a : ASys} {e : AEv} (h : chkEv e = 0) (hk : e.kind = 6) : sysDo a e = sysUp a e := by unfold sysDo; rw [if_neg (by simp [h]), if_neg (by omega), if_neg (by omega), if_neg (by omega), if_neg (by omega), if_neg (by omega), if_pos hk]
theorem zfT {a : ASys} {e : AEv} (h : chkEv e = 0) (hk : e.kind = 7 ∨ e.kind = 8) : sysDo a e = sysDown a e := by
 unfold sysDo; rw [if_neg (by simp [h]), if_neg (by omega), if_neg (by omega), if_neg (by omega), if_neg (by omega), if_neg (by omega), if_neg (by omega), if_neg (by omega), if_neg (by omega), if_neg (by omega), if_neg (by omega), if_neg (by omega)]
theorem zfS {a : ASys} {e : AEv} (h : chkEv e = 0) (hk : e.kind = 9) : sysDo a e = sysTick a := by unfold sysDo; rw [if_neg (by simp [h]), if_neg (by omega), if_neg (by omega), if_neg (by omega), if_neg (by omega), if_neg (by omega), if_neg (by omega), if_pos hk]
theorem zfX {a : ASys} {e : AEv} (h : chkEv e = 0) (hk : e.kind = 10) : sysDo a e = sysStamp a e := by unfold sysDo; rw [if_neg (by simp [h]), if_neg (by omega), if_neg (by omega), if_neg (by omega), if_neg (by omega), if_neg (by omega), if_neg (by omega), if_neg (by omega), if_pos hk]
theorem zfW {a : ASys} {e : AEv} (h : chkEv e = 0) (hk : e.kind = 11) : sysDo a e = sysLead a e := by unfold sysDo; rw [if_neg (by simp [h]), if_neg (by omega), if_neg (by omega), if_neg (by omega), if_neg (by omega), if_neg (by omega), if_neg (by omega), if_neg (by omega), if_neg (by omega), if_pos hk]
theorem zmH {a : ASys} {e : AEv} (h : chkEv e = 0) (hk : e.kind = 12) : sysDo a e = sysScale a e := by unfold sysDo; rw [if_neg (by simp [h]), if_neg (by omega), if_neg (by omega), if_neg (by omega), if_neg (by omega), if_neg (by omega), if_neg (by omega), if_neg (by omega), if_neg (by omega), if_neg (by omega), if_pos hk]
theorem zfV {a : ASys} {e : AEv} (h : chkEv e = 0) (hk : e.kind = 13) : sysDo a e = sysPods a e := by unfold sysDo; rw [if_neg (by simp [h]), if_neg (by omega), if_neg (by omega), if_neg (by omega), if_neg (by omega), if_neg (by omega), if_neg (by omega), if_neg (by omega), if_neg (by omega), if_neg (by omega), if_neg (by omega), if_pos hk]
end Go.Proofs.YtmbidnhdfdnihaaGreatDoor
namespace Go.Proofs.YtmbidnhdfdnihaaGreatDoor
open Go.Dm
attribute [local irreducible] L.load L.store L.chk L.new L.nonnil L.guard L.ite L.draw L.idx L.sem L.semR L.semU L.chkSem L.next L.call L.callV L.join L.alts L.loop L.begin L.endRound L.range
variable {w0 w : World} {E : List Seg}
theorem zpp {F : AFleet} (ok : F.Ok) (id : Int) : (fUpp F id).1.Ok := by
 unfold fUpp
 split
 ·exact ok
 ·rename_i x hx
  refine ok.upd hx _ ?_ fun q hq => .inl (by rwa [zj4] at hq)
  have := ok.live x (z3d hx).1
  unfold podUp
  split
  ·dsimp only; omega
  ·exact .inr (.inl rfl)
theorem shrinkR (rev : ByteArray) : ∀ {n : Nat} {F : AFleet}, (shrink rev n F).1.last = F.last ∧ (shrink rev n F).1.room = F.room
 | 0, F => ⟨rfl, rfl⟩
 | n + 1, F => by simp only [shrink]; exact shrinkR rev (n := n) (F := drain1 rev F)
theorem zjR (F : AFleet) (rev : ByteArray) (conc want : Int) : (fScale F rev conc want).1.room = F.room := by
 unfold fScale fGrown
 rw [(shrinkR rev).2, zbD]
theorem znh {F : AFleet} {rev : ByteArray} {conc : Int} (n : Nat) (ok : F.Ok) (h1 : F.l.length + n < 100000000) (h2 : F.last + n < 4611686018427387904) : (grow rev conc n F).Ok := by
 induction n with
 | zero => exact ok
 | succ n ih =>
  refine zjl (ih (by omega) (by omega)) ?_ ?_
  ·rw [zbE]; omega
  ·rw [zbF]; omega
theorem ze3 {rev : ByteArray} : ∀ {n : Nat} {F : AFleet}, F.Ok → n ≤ fCount F.l rev → (∀ x ∈ (shrink rev n F).2, 0 ≤ x ∧ x ≤ F.last) ∧ (shrink rev n F).2.length = n
 | 0, F, _, _ => ⟨(by intro x hx; cases hx), rfl⟩
 | n + 1, F, ok, h => by
  have h1 := zhu ok (rev := rev) (by omega)
  have h2 := zd4 ok (rev := rev) (by omega)
  obtain ⟨a, b⟩ := ze3 (rev := rev) (n := n) h1 (by omega)
  obtain ⟨y, hy, -, -⟩ := zbr (rev := rev) ok (by omega)
  obtain ⟨hm, hid⟩ := z3d hy
  have hr := ok.rng y hm
  simp only [shrink]
  refine ⟨fun x hx => ?_, by rw [List.length_cons, b]⟩
  rcases List.mem_cons.1 hx with rfl | hx
  ·rw [← hid]; omega
  ·exact a x hx
theorem zjS {F : AFleet} (ok : F.Ok) {rev : ByteArray} {conc want : Int} (hl : (F.l.length : Int) ≤ 1000) (hr : F.room ≤ 1000) (hla : F.last ≤ 1000000000) : (∀ x ∈ (fScale F rev conc want).2, 0 ≤ x ∧ x ≤ F.last + 1000) ∧ (fScale F rev conc want).2.length ≤ 2000 := by
 have hn := zdR F rev want
 have okg : (fGrown F rev conc want).Ok := znh _ ok (by omega) (by omega)
 have hsn : shrinkN (fGrown F rev conc want) rev want ≤ fCount (fGrown F rev conc want).l rev := by
  have := zjM (fGrown F rev conc want) rev want
  omega
 have hs := ze3 okg hsn
 have hll : (fGrown F rev conc want).last = F.last + growN F rev want := zbF ..
 have hcl := zbK (fGrown F rev conc want).l (rev := rev)
 have hgl : (fGrown F rev conc want).l.length = F.l.length + growN F rev want := zbE ..
 unfold fScale
 refine ⟨fun x hx => ?_, ?_⟩
 ·have := hs.1 x hx
  omega
 ·rw [hs.2]; omega
theorem zkv [bTab w0] (h : St w0 E w) (i : Nat) {b : Nat} {a : ASys} {s : Seg} (hi : nth E i = some s) (hs : SysS b a s) {e : AEv} (hn : bkHas a.bk e.name = false) {k : Sl → PT} (hk : Hk w0 E i b (sysPods a e) k) : z2s (some ⟨b, 0, none⟩) e.t (slK k) w := by
 have hs0 := hs
 obtain ⟨p, sg, sf, ss, sk, sr, sm, Q, R, rfl⟩ := hs
 unfold z2s
 unfold sysPods at hk
 have h := (h.front i hi).split8
 refine nw h ?_; clear h; (try clear w); intro b1 w h
 refine z2u (fun (z : Addr × Bool × Unit) w => ∃ b8 : Nat, z = (⟨b8, 0, none⟩, bkHas a.bk e.name, ()) ∧ St w0 (sysC b p a.now :: sg :: sf :: ss :: sk :: sr :: sm :: (Q.map BsE.sg).flatten :: delN E i) w) (fun k2 hk2 => ?_) ?_
 ·(dsimp only [setN, List.cons_append, List.nil_append] at h; refine dr h ?_; clear h; (try clear w); intro w h; refine nn ?_; refine ldC h ?_; refine ldC h ?_)
  refine alts2 ?_ ?_
  ·refine zeu h 5 rfl R.bk fun w h => ?_
   refine nw h ?_; clear h; (try clear w); intro b8 w h
   (refine ckC h ?_; refine ckC h ?_; refine stC h ?_; clear h; (try clear w); intro w h; dsimp only [putN, setN] at h)
   exact hk2 _ w ⟨b8, rfl, dl0_ (dl0_ h)⟩
  ·refine nw h ?_; clear h; (try clear w); intro b8 w h
   (refine ckC h ?_; refine ckC h ?_)
   refine zeu h 6 rfl R.bk fun w h => ?_
   (refine stC h ?_; clear h; (try clear w); intro w h; dsimp only [putN, setN] at h)
   exact hk2 _ w ⟨b8, rfl, dl0_ (dl0_ h)⟩
 clear h; (try clear w)
 rintro z w ⟨b8, rfl, h⟩
 (try dsimp only)
 refine itT (by simp [hn]) ?_
 rw [if_pos hn] at hk
 refine z5F h fun v s w r h => ?_
 exact ⟨v, rfl, hk v s _ w r hs0 (sysBack i hi h)⟩
structure EvIn (w0 : World) (E : List Seg) (i : Nat) (e : AEv) : Prop where
 rd : RdE w0 (delN E i) eT e.v e.r.ts
 hvc : e.v.len ≤ e.v.cap
 h0 : e.v.a = none → e.r.ts = []
 hrv : ∀ t ∈ e.r.ts, revOk t.1
 hn : e.kind = 12 ∨ e.kind = 13 → RevN e.name
theorem EvIn.plain {i : Nat} {e : AEv} (hv : e.v = noSl) (hr : e.r = noRt15) (hk : e.kind = 12 ∨ e.kind = 13 → RevN e.name) : EvIn w0 E i e := by
 refine ⟨fun _ _ => ?_, ?_, fun _ => ?_, ?_, hk⟩
 ·rw [hv, hr]; exact Rd.nil
 ·rw [hv]; exact Nat.le_refl 0
 ·rw [hr]; rfl
 ·rw [hr]; intro t ht; cases ht
abbrev HkI (w0 : World) (E : List Seg) (i b k0 : Nat) (r : ASys × List ByteArray) (k : Sl → PT) : Prop :=
 ∀ v sv s' w', Rw eS z00 1 v r.2 sv → SysS b r.1 s' → SInv k0 r.1 → St w0 (sv :: setN E i s') w' → k v w'
theorem zr0 [bTab w0] (h : St w0 E w) (i : Nat) {b : Nat} {a : ASys} {s : Seg} (hi : nth E i = some s) (hs : SysS b a s) {e : AEv} (hb : chkEv e = 0) (hc : e.kind = 1) (ev : EvIn w0 E i e) {k0 : Nat} (inv : SInv k0 a) (hk0 : k0 ≤ 9000) (hn : a.sh.n < 99) {k : Sl → PT} (hk : HkI w0 E i b (k0 + 2) (sysDo a e) k) :
  L.call Pr z05 [.pointer (some ⟨b, 0, none⟩), evV e] (.one (.one .slice)) k w := by
 have ok := hs.ok
 have rd' : RdE w0 E eT e.v e.r.ts := fun w h => ev.rd w (h.del i hi)
 have i2 : SInv (k0 + 2) (sysDo a e).1 := by rw [zfY hb hc]; exact (zkd ok inv e).mono (Nat.le_succ _)
 have hkk : Hk w0 E i b (sysDo a e) k := fun v sv s' w' r hs' h => hk v sv s' w' r hs' i2 h
 clear hk
 have hlast := inv.fl.last
 have hlen := inv.fl.few.l
 have hroom := inv.fl.few.r
 unfold podsMost at hroom
 have hall := inv.gt.all
 have hlines := inv.gt.lines
 have hgr := inv.gt.room
 have hpat := inv.gt.pat
 have hnow := inv.now
 have hbl := inv.bk.len
 have hr1 := inv.fl.r1
 have rn := ev.hn
 rw [zfY hb hc] at hkk
 exact zkx h i hi hs hc hb rd' ev.hvc ev.hrv (by omega) (by have := z6W (z8a (zqL hb hc)).1; omega) hkk
theorem zqZ [bTab w0] (h : St w0 E w) (i : Nat) {b : Nat} {a : ASys} {s : Seg} (hi : nth E i = some s) (hs : SysS b a s) {e : AEv} (hb : chkEv e = 0) (hc : e.kind = 2) (ev : EvIn w0 E i e) {k0 : Nat} (inv : SInv k0 a) (hk0 : k0 ≤ 9000) (hn : a.sh.n < 99) {k : Sl → PT} (hk : HkI w0 E i b (k0 + 2) (sysDo a e) k) :
  L.call Pr z05 [.pointer (some ⟨b, 0, none⟩), evV e] (.one (.one .slice)) k w := by
 have ok := hs.ok
 have rd' : RdE w0 E eT e.v e.r.ts := fun w h => ev.rd w (h.del i hi)
 have i2 : SInv (k0 + 2) (sysDo a e).1 := by rw [zic hb hc]; exact (zlC inv e).mono (Nat.le_succ _)
 have hkk : Hk w0 E i b (sysDo a e) k := fun v sv s' w' r hs' h => hk v sv s' w' r hs' i2 h
 clear hk
 have hlast := inv.fl.last
 have hlen := inv.fl.few.l
 have hroom := inv.fl.few.r
 unfold podsMost at hroom
 have hall := inv.gt.all
 have hlines := inv.gt.lines
 have hgr := inv.gt.room
 have hpat := inv.gt.pat
 have hnow := inv.now
 have hbl := inv.bk.len
 have hr1 := inv.fl.r1
 have rn := ev.hn
 rw [zic hb hc] at hkk
 exact zms h i hi hs hc hb ev.rd ev.hvc ev.h0 ev.hrv (by omega) (by have := z6W (zgT (zqK hb hc)).1.1; omega) inv.sh.few hkk
theorem zqY [bTab w0] (h : St w0 E w) (i : Nat) {b : Nat} {a : ASys} {s : Seg} (hi : nth E i = some s) (hs : SysS b a s) {e : AEv} (hb : chkEv e = 0) (hc : e.kind = 4) (ev : EvIn w0 E i e) {k0 : Nat} (inv : SInv k0 a) (hk0 : k0 ≤ 9000) (hn : a.sh.n < 99) {k : Sl → PT} (hk : HkI w0 E i b (k0 + 2) (sysDo a e) k) :
  L.call Pr z05 [.pointer (some ⟨b, 0, none⟩), evV e] (.one (.one .slice)) k w := by
 have ok := hs.ok
 have rd' : RdE w0 E eT e.v e.r.ts := fun w h => ev.rd w (h.del i hi)
 have i2 : SInv (k0 + 2) (sysDo a e).1 := by rw [zfU hb hc]; exact (zke ok inv (zjx hb (by omega)).1).mono (Nat.le_succ _)
 have hkk : Hk w0 E i b (sysDo a e) k := fun v sv s' w' r hs' h => hk v sv s' w' r hs' i2 h
 clear hk
 have hlast := inv.fl.last
 have hlen := inv.fl.few.l
 have hroom := inv.fl.few.r
 unfold podsMost at hroom
 have hall := inv.gt.all
 have hlines := inv.gt.lines
 have hgr := inv.gt.room
 have hpat := inv.gt.pat
 have hnow := inv.now
 have hbl := inv.bk.len
 have hr1 := inv.fl.r1
 have rn := ev.hn
 rw [zfU hb hc] at hkk
 have hid := (zjx hb (by omega)).1
 have hd := znw hb hc
 refine zky h i hi hs hc hb rd' ev.hvc ev.hrv (by omega) (fun x hx => (inv.ro _ x hx).ok (by omega)) ?_ inv.fl.few (by omega) (by omega) (by omega) (zlO (by omega) ok.fl inv.fl hid _ _) ?_ hkk
 ·unfold roTab
  cases hg : mget a.ro e.name with
  | none => intro s hs; cases hs
  | some x => exact (inv.ro _ x hg).ns
 ·unfold bnd
  split
  ·decide
  ·cases hg : mget a.ro e.name with
   | none => rename_i hh; rw [hg] at hh; exact absurd rfl hh
   | some x =>
    have w := inv.ro _ x hg
    split
    ·unfold tPick roTab
     rw [hg]
     have : ∀ (l : List Shr) (d : Int), (∀ s ∈ l, s.1.size ≤ 100) → (pickL l d).size ≤ 100 := by
      intro l
      induction l with
      | nil => intro d _; show s_.size ≤ 100; decide
      | cons s l ih =>
       intro d hl
       unfold pickL
       split
       ·exact hl s (by simp)
       ·exact ih _ fun y hy => hl y (by simp [hy])
     have := this x.ns (e.draw % 100) w.zn
     dsimp only; omega
    ·unfold roTab
     rw [hg]
     have : ∀ (l : List Tgo), (∀ s ∈ l, s.1.size ≤ 100 ∧ s.2.1.size ≤ 100) → (tagL l e.tag).1.size ≤ 100 := by
      intro l
      induction l with
      | nil => intro _; show s_.size ≤ 100; decide
      | cons s l ih =>
       intro hl
       unfold tagL
       split
       ·exact (hl s (by simp)).2
       ·exact ih fun y hy => hl y (by simp [hy])
     have := this x.ng w.zg
     dsimp only; omega
theorem zqX [bTab w0] (h : St w0 E w) (i : Nat) {b : Nat} {a : ASys} {s : Seg} (hi : nth E i = some s) (hs : SysS b a s) {e : AEv} (hb : chkEv e = 0) (hc : e.kind = 6) (ev : EvIn w0 E i e) {k0 : Nat} (inv : SInv k0 a) (hk0 : k0 ≤ 9000) (hn : a.sh.n < 99) {k : Sl → PT} (hk : HkI w0 E i b (k0 + 2) (sysDo a e) k) :
  L.call Pr z05 [.pointer (some ⟨b, 0, none⟩), evV e] (.one (.one .slice)) k w := by
 have ok := hs.ok
 have rd' : RdE w0 E eT e.v e.r.ts := fun w h => ev.rd w (h.del i hi)
 have i2 : SInv (k0 + 2) (sysDo a e).1 := by rw [zib hb hc]; exact (zpR ok inv e).mono (Nat.le_succ _)
 have hkk : Hk w0 E i b (sysDo a e) k := fun v sv s' w' r hs' h => hk v sv s' w' r hs' i2 h
 clear hk
 have hlast := inv.fl.last
 have hlen := inv.fl.few.l
 have hroom := inv.fl.few.r
 unfold podsMost at hroom
 have hall := inv.gt.all
 have hlines := inv.gt.lines
 have hgr := inv.gt.room
 have hpat := inv.gt.pat
 have hnow := inv.now
 have hbl := inv.bk.len
 have hr1 := inv.fl.r1
 have rn := ev.hn
 rw [zib hb hc] at hkk
 have hid := (zjx hb (by omega)).1
 have hu := inv.fl.up e.n
 have hsz : (fOf (fUpp a.fl e.n).1.l e.n).size ≤ 100 := by
  unfold fOf
  cases hf : fFind (fUpp a.fl e.n).1.l e.n with
  | none => show s_.size ≤ 100; decide
  | some x => exact (hu.rev x (z3d hf).1).size
 have hu' : (fUpp a.fl e.n).1.Ok := zpp ok.fl e.n
 refine zqn h i hi hs hc hb rd' ev.hvc ev.hrv ⟨by omega, by omega⟩ (by omega) hu.few (by omega) (by omega) (zit (by omega) hu' hu inv.gt _) ?_ hkk
 have := (zlM (F := (fUpp a.fl e.n).1) ok.gt (fOf (fUpp a.fl e.n).1.l e.n)).1
 show (gFlow (fUpp a.fl e.n).1 a.gt (fOf (fUpp a.fl e.n).1.l e.n)).2.2.length < 100000000
 omega
theorem zqW [bTab w0] (h : St w0 E w) (i : Nat) {b : Nat} {a : ASys} {s : Seg} (hi : nth E i = some s) (hs : SysS b a s) {e : AEv} (hb : chkEv e = 0) (hc : e.kind = 8) (ev : EvIn w0 E i e) {k0 : Nat} (inv : SInv k0 a) (hk0 : k0 ≤ 9000) (hn : a.sh.n < 99) {k : Sl → PT} (hk : HkI w0 E i b (k0 + 2) (sysDo a e) k) :
  L.call Pr z05 [.pointer (some ⟨b, 0, none⟩), evV e] (.one (.one .slice)) k w := by
 have ok := hs.ok
 have rd' : RdE w0 E eT e.v e.r.ts := fun w h => ev.rd w (h.del i hi)
 have i2 : SInv (k0 + 2) (sysDo a e).1 := by rw [zfT hb (.inr hc)]; exact (zng inv e).mono (Nat.le_succ _)
 have hkk : Hk w0 E i b (sysDo a e) k := fun v sv s' w' r hs' h => hk v sv s' w' r hs' i2 h
 clear hk
 have hlast := inv.fl.last
 have hlen := inv.fl.few.l
 have hroom := inv.fl.few.r
 unfold podsMost at hroom
 have hall := inv.gt.all
 have hlines := inv.gt.lines
 have hgr := inv.gt.room
 have hpat := inv.gt.pat
 have hnow := inv.now
 have hbl := inv.bk.len
 have hr1 := inv.fl.r1
 have rn := ev.hn
 rw [zfT hb (.inr hc)] at hkk
 have hid := (zjx hb (by omega)).1
 have hki := zjg inv.fl e.n
 exact zeS h i hi hs hb rn rd' ev.hvc ev.hrv (f := z0Y) (by rw [hc]; rfl) zan (zas (some ⟨b, 0, none⟩) e.t) (fun h hi _ hk => zmc h _ hi hs ⟨by omega, by omega⟩ (by omega) (zb0 hki.1 (by simp)) hk) hkk
theorem zqV [bTab w0] (h : St w0 E w) (i : Nat) {b : Nat} {a : ASys} {s : Seg} (hi : nth E i = some s) (hs : SysS b a s) {e : AEv} (hb : chkEv e = 0) (hc : e.kind = 9) (ev : EvIn w0 E i e) {k0 : Nat} (inv : SInv k0 a) (hk0 : k0 ≤ 9000) (hn : a.sh.n < 99) {k : Sl → PT} (hk : HkI w0 E i b (k0 + 2) (sysDo a e) k) :
  L.call Pr z05 [.pointer (some ⟨b, 0, none⟩), evV e] (.one (.one .slice)) k w := by
 have ok := hs.ok
 have rd' : RdE w0 E eT e.v e.r.ts := fun w h => ev.rd w (h.del i hi)
 have i2 : SInv (k0 + 2) (sysDo a e).1 := by rw [zfS hb hc]; exact (znd ok ok.nd inv (by omega)).mono (Nat.le_succ _)
 have hkk : Hk w0 E i b (sysDo a e) k := fun v sv s' w' r hs' h => hk v sv s' w' r hs' i2 h
 clear hk
 have hlast := inv.fl.last
 have hlen := inv.fl.few.l
 have hroom := inv.fl.few.r
 unfold podsMost at hroom
 have hall := inv.gt.all
 have hlines := inv.gt.lines
 have hgr := inv.gt.room
 have hpat := inv.gt.pat
 have hnow := inv.now
 have hbl := inv.bk.len
 have hr1 := inv.fl.r1
 have rn := ev.hn
 rw [zfS hb hc] at hkk
 have hg := zhn ok.gt inv.gt (a.now + 1)
 refine zjE h i hi hs hc hb rd' ev.hvc ev.hrv hnow.1 inv.gt.wk (by have := hg.2.2; unfold tkG; omega) hg.2.1 (fun rev hr => ?_) (fun x hx => by have := inv.by'.xs x hx; omega) (by omega) hkk
 have := inv.by'.has _ (z9J (zhB hr))
 exact this
theorem zqq [bTab w0] (h : St w0 E w) (i : Nat) {b : Nat} {a : ASys} {s : Seg} (hi : nth E i = some s) (hs : SysS b a s) {e : AEv} (hb : chkEv e = 0) (hc : e.kind = 10) (ev : EvIn w0 E i e) {k0 : Nat} (inv : SInv k0 a) (hk0 : k0 ≤ 9000) (hn : a.sh.n < 99) {k : Sl → PT} (hk : HkI w0 E i b (k0 + 2) (sysDo a e) k) :
  L.call Pr z05 [.pointer (some ⟨b, 0, none⟩), evV e] (.one (.one .slice)) k w := by
 have ok := hs.ok
 have rd' : RdE w0 E eT e.v e.r.ts := fun w h => ev.rd w (h.del i hi)
 have i2 : SInv (k0 + 2) (sysDo a e).1 := by rw [zfX hb hc]; exact (zlB ok inv (by omega) e).mono (Nat.le_succ _)
 have hkk : Hk w0 E i b (sysDo a e) k := fun v sv s' w' r hs' h => hk v sv s' w' r hs' i2 h
 clear hk
 have hlast := inv.fl.last
 have hlen := inv.fl.few.l
 have hroom := inv.fl.few.r
 unfold podsMost at hroom
 have hall := inv.gt.all
 have hlines := inv.gt.lines
 have hgr := inv.gt.room
 have hpat := inv.gt.pat
 have hnow := inv.now
 have hbl := inv.bk.len
 have hr1 := inv.fl.r1
 have rn := ev.hn
 rw [zfX hb hc] at hkk
 refine zmr h i hi hs hc hb rd' ev.hvc ev.hrv (fun hh => ?_) (by omega) hkk
 have hs := ze4 ok.sh inv.sh hh
 have hnum := z8a hs.1
 exact ⟨hnum.1, hs.2.1, by omega, by omega⟩
theorem zqp [bTab w0] (h : St w0 E w) (i : Nat) {b : Nat} {a : ASys} {s : Seg} (hi : nth E i = some s) (hs : SysS b a s) {e : AEv} (hb : chkEv e = 0) (hc : e.kind = 11) (ev : EvIn w0 E i e) {k0 : Nat} (inv : SInv k0 a) (hk0 : k0 ≤ 9000) (hn : a.sh.n < 99) {k : Sl → PT} (hk : HkI w0 E i b (k0 + 2) (sysDo a e) k) :
  L.call Pr z05 [.pointer (some ⟨b, 0, none⟩), evV e] (.one (.one .slice)) k w := by
 have ok := hs.ok
 have rd' : RdE w0 E eT e.v e.r.ts := fun w h => ev.rd w (h.del i hi)
 have i2 : SInv (k0 + 2) (sysDo a e).1 := by rw [zfW hb hc]; exact znf ok inv e
 have hkk : Hk w0 E i b (sysDo a e) k := fun v sv s' w' r hs' h => hk v sv s' w' r hs' i2 h
 clear hk
 have hlast := inv.fl.last
 have hlen := inv.fl.few.l
 have hroom := inv.fl.few.r
 unfold podsMost at hroom
 have hall := inv.gt.all
 have hlines := inv.gt.lines
 have hgr := inv.gt.room
 have hpat := inv.gt.pat
 have hnow := inv.now
 have hbl := inv.bk.len
 have hr1 := inv.fl.r1
 have rn := ev.hn
 rw [zfW hb hc] at hkk
 have hr := zf3 inv.sh e.name
 have ht := ze5 ok.bk inv.bk hr.1 hr.2.1
 have hno := zlr (k := k0 + 1) (inv.mono (Nat.le_succ k0)).ro e.name ht hnow (shRt a.sh e.name).1.roll (by omega)
 refine znK h i hi hs hc hb rd' ev.hvc ev.hrv inv.sh.few (by have := znv hb (by omega); omega) (fun t ht => by have := (hr.2.1 t ht).1; omega) (by omega) (by omega) (fun x hx => (inv.ro _ x hx).ok (by omega)) (fun x hx => by have := (inv.ro _ x hx).since; omega) (by omega) ht.w (by have := hno.2.2; show (nowOf a.ro e.name (resolve a.bk (shRt a.sh e.name).1).1 a.now (shRt a.sh e.name).1.roll).sh.length < 100000; omega) ?_ hkk
 exact zjL hno.1 hno.2.1 ht.zg (Nat.add_le_add hno.2.2 ht.lg) (by omega)
theorem zqo [bTab w0] (h : St w0 E w) (i : Nat) {b : Nat} {a : ASys} {s : Seg} (hi : nth E i = some s) (hs : SysS b a s) {e : AEv} (hb : chkEv e = 0) (hc : e.kind = 13) (ev : EvIn w0 E i e) {k0 : Nat} (inv : SInv k0 a) (hk0 : k0 ≤ 9000) (hn : a.sh.n < 99) {k : Sl → PT} (hk : HkI w0 E i b (k0 + 2) (sysDo a e) k) :
  L.call Pr z05 [.pointer (some ⟨b, 0, none⟩), evV e] (.one (.one .slice)) k w := by
 have ok := hs.ok
 have rd' : RdE w0 E eT e.v e.r.ts := fun w h => ev.rd w (h.del i hi)
 have i2 : SInv (k0 + 2) (sysDo a e).1 := by rw [zfV hb hc]; exact (zne inv e).mono (Nat.le_succ _)
 have hkk : Hk w0 E i b (sysDo a e) k := fun v sv s' w' r hs' h => hk v sv s' w' r hs' i2 h
 clear hk
 have hlast := inv.fl.last
 have hlen := inv.fl.few.l
 have hroom := inv.fl.few.r
 unfold podsMost at hroom
 have hall := inv.gt.all
 have hlines := inv.gt.lines
 have hgr := inv.gt.room
 have hpat := inv.gt.pat
 have hnow := inv.now
 have hbl := inv.bk.len
 have hr1 := inv.fl.r1
 have rn := ev.hn
 rw [zfV hb hc] at hkk
 have hnm := rn (.inr hc)
 by_cases hh : bkHas a.bk e.name = true
 ·have hc2 := (z8a (inv.bk.cfg _ (z9J hh))).2.2.1
  have hcc : pdConc a e.name ≤ 1000 := Int.le_trans hc2.2 (by decide)
  have hsc := inv.fl.scale hnm hcc (pdWant a e.name)
  have hgl := hsc.few.l
  have hgr2 : (fScale a.fl e.name (pdConc a e.name) (pdWant a e.name)).1.room = a.fl.room := zjR ..
  have hgo := zjS ok.fl (rev := e.name) (conc := pdConc a e.name) (want := pdWant a e.name) (by omega) (by omega) (by omega)
  refine znJ h i hi hs hc hnm hb rd' ev.hvc ev.hrv (by omega) (by omega) (by have := hnm.size; omega) (fun x hx => ?_) ?_ (fun x hx => ?_) ?_ ?_ hkk
  ·unfold fMade at hx
   obtain ⟨j, hj, rfl⟩ := List.mem_map.1 hx
   rw [List.mem_range] at hj
   have := zdR a.fl e.name (pdWant a e.name)
   have := ok.fl.lo
   omega
  ·unfold fMade
   rw [List.length_map, List.length_range]
   have := zdR a.fl e.name (pdWant a e.name)
   omega
  ·have := hgo.1 x hx; omega
  ·have := hgo.2; omega
  ·unfold fPods
   rw [List.length_map]
   have : (revs (pdFl a e.name).l e.name).length ≤ (pdFl a e.name).l.length := List.length_filter_le ..
   unfold pdFl at this ⊢
   omega
 ·exact zeS h i hi hs hb rn rd' ev.hvc ev.hrv (f := z1u) (by rw [hc]; rfl) z6J (z6K (some ⟨b, 0, none⟩) e.t) (fun h hi _ hk => zkv h _ hi hs (by simpa using hh) hk) hkk
class Kn (w0 : World) (ks : Int → Bool) : Prop where
 dos : ∀ {E : List Seg} {w : World}, St w0 E w → ∀ (i : Nat) {b : Nat} {a : ASys} {s : Seg}, nth E i = some s → SysS b a s → ∀ {e : AEv}, ks e.kind = true → chkEv e = 0 → EvIn w0 E i e → ∀ {k0 : Nat}, SInv k0 a → k0 ≤ 9000 → a.sh.n < 99 → ∀ {k : Sl → PT}, HkI w0 E i b (k0 + 2) (sysDo a e) k →
  L.call Pr z05 [.pointer (some ⟨b, 0, none⟩), evV e] (.one (.one .slice)) k w
theorem znL {ks : Int → Bool} [K : Kn w0 ks] (h : St w0 E w) (i : Nat) {b : Nat} {a : ASys} {s : Seg} (hi : nth E i = some s) (hs : SysS b a s) {e : AEv} (hks : ks e.kind = true) (hb : chkEv e = 0) (ev : EvIn w0 E i e) {k0 : Nat} (inv : SInv k0 a) (hk0 : k0 ≤ 9000) (hn : a.sh.n < 99) {k : Sl → PT} (hk : HkI w0 E i b (k0 + 2) (sysDo a e) k) :
  L.call Pr z05 [.pointer (some ⟨b, 0, none⟩), evV e] (.one (.one .slice)) k w := K.dos h i hi hs hks hb ev inv hk0 hn hk
theorem zpr : Pr.underlying zhD = some (.slice zep) := by kernel_rfl
theorem zpq : Pr.underlying zep = some (.int .u8) := by kernel_rfl
theorem znO (n : Nat) : ∀ {g : Nat} {E : List Seg} {w : World} {k : ByteArray → PT}, g ≤ n → g ≤ 9000000000000000000 → St w0 E w → (∀ w', St w0 E w' → k (decD g) w') → L.call Pr z1p [I g] (.one (.one .str)) k w := by
 induction n using Nat.strongRecOn with
 | _ n ih =>
  intro g E w k hgn hg h hk
  refine z01 (zbh _) ?_
  unfold z7q
  refine itF (decide_eq_false (by omega)) ?_
  refine it (fun hc => ?_) (fun hc => ?_)
  ·have hc : 10 ≤ g := by have := of_decide_eq_true hc; omega
   have e1 : IntKind.wrap .i64 (Int.tdiv (g : Int) 10) = ((g / 10 : Nat) : Int) := by
    rw [Int.tdiv_eq_ediv_of_nonneg (by omega), wr (by omega) (by omega)]; rfl
   have e2 : Int.tmod (g : Int) 10 = ((g % 10 : Nat) : Int) := by
    rw [Int.tmod_eq_emod_of_nonneg (by omega)]; rfl
   rw [e1, e2]
   have s1 := zcP (g % 10)
   have s2 : (decD (g / 10)).size ≤ 100 := by
    have := zgi (x := ((g / 10 : Nat) : Int)) (by omega) (by omega)
    rw [Int.toNat_natCast] at this
    exact this
   refine gd (by decide) ?_
   refine ih (g / 10) (by omega) (Nat.le_refl _) (by omega) h fun w h => ?_
   refine gd (by decide) ?_
   refine ih (g % 10) (by omega) (Nat.le_refl _) (by omega) h fun w h => ?_
   refine gd (by simp only [maxI64]; omega) ?_
   refine ⟨_, rfl, ?_⟩
   rw [← zm1 hc]
   exact hk w h
  ·have hc : g < 10 := by have := of_decide_eq_false hc; omega
   refine nw h ?_; clear h; (try clear w); intro b4 w h
   have e1 : IntKind.wrap .u8 (IntKind.wrap .i64 (48 + (g : Int))) = ((48 + g : Nat) : Int) := by
    have : g = 0 ∨ g = 1 ∨ g = 2 ∨ g = 3 ∨ g = 4 ∨ g = 5 ∨ g = 6 ∨ g = 7 ∨ g = 8 ∨ g = 9 := by omega
    rcases this with rfl | rfl | rfl | rfl | rfl | rfl | rfl | rfl | rfl | rfl <;> rfl
   rw [e1] at h
   have hr : Rw eU zep 1 ⟨some ⟨b4, 0, none⟩, 1, 1⟩ [UInt8.ofNat (48 + g)] [Cl b4 zep [.int .u8 ((48 + g : Nat) : Int)]] := by
    refine Rw.lit b4 [UInt8.ofNat (48 + g)] encU ?_ rfl (by simp [maxLen])
    have : g = 0 ∨ g = 1 ∨ g = 2 ∨ g = 3 ∨ g = 4 ∨ g = 5 ∨ g = 6 ∨ g = 7 ∨ g = 8 ∨ g = 9 := by omega
    rcases this with rfl | rfl | rfl | rfl | rfl | rfl | rfl | rfl | rfl | rfl <;> rfl
   refine cvBS zpr zpq z5m (Rw.rd encU h 0 rfl hr) ?_
   refine ⟨_, rfl, ?_⟩
   have e2 : (⟨[UInt8.ofNat (48 + g)].toArray⟩ : ByteArray) = decD g := by unfold decD; rw [Lib.decDigits_one hc]
   rw [e2]
   exact hk w (dl0_ h)
theorem zhN (h : St w0 E w) {x : Int} (h0 : 0 ≤ x) (h1 : x ≤ 9000000000000000000) {k : ByteArray → PT} (hk : ∀ w', St w0 E w' → k (decD x.toNat) w') : L.call Pr z1p [I x] (.one (.one .str)) k w := by
 obtain ⟨g, rfl⟩ : ∃ g : Nat, x = (g : Int) := ⟨x.toNat, by omega⟩
 rw [Int.toNat_natCast] at hk
 exact znO g (Nat.le_refl _) (by omega) h hk
end Go.Proofs.YtmbidnhdfdnihaaGreatDoor
namespace Go.Proofs.YtmbidnhdfdnihaaGreatDoor
open Go.Dm
def cW (k : Int) : Cfg := (z9s, k, 1, 0, 1, 0, ())
structure GI (a : ASys) (ver gen : Nat) (last : Int) : Prop where
 n : a.sh.n = ver
 sh : (ver = 0 ∧ gen = 0 ∧ last = -1 ∧ (tget a.sh.m z9s).is = false ∧ (tget a.sh.m z9s).gen = 0) ∨ (0 < ver ∧ 0 ≤ last ∧ 0 < gen ∧ tget a.sh.m z9s = thgOf (cW last) ver gen true)
 gl : gen ≤ ver
 bk : ∀ g, 1 ≤ g → g < 100 → (bkHas a.bk (revB z9s g) = true ↔ g ≤ gen)
 len : a.bk.all.length = gen
theorem zpE {a : AShelf} {c : Cfg} {ver : Int} (h1 : specC c = 0) (h2 : mayC (tget a.m c.1) ver true = 0) : shPut a c ver = (⟨putC a.m c.1 c (a.n + 1), a.r, a.n + 1⟩, a.n + 1, 0) := by
 unfold shPut; rw [if_neg (by simpa using h1), if_neg (by simpa using h2)]
end Go.Proofs.YtmbidnhdfdnihaaGreatDoor
namespace Go.Proofs.YtmbidnhdfdnihaaGreatDoor
open Go.Dm
attribute [local irreducible] L.load L.store L.chk L.new L.nonnil L.guard L.ite L.draw L.idx L.sem L.semR L.semU L.chkSem L.next L.call L.callV L.join L.alts L.loop L.begin L.endRound L.range
variable {w0 w : World} {E : List Seg}
def eEv (e : AEv) : List Value := [I e.kind, .string e.name, .string e.tag, I e.n, I e.draw, .string e.c.1, I e.c.2.1, I e.c.2.2.1, I e.c.2.2.2.1, I e.c.2.2.2.2.1, I e.c.2.2.2.2.2.1, .string e.r.name, .string e.r.cfg, .slice e.v.a e.v.len e.v.cap, I e.r.roll]
theorem encEv : Enc eEv 15 := ⟨fun _ => rfl, fun _ => rfl, by decide⟩
def sysRun (a : ASys) (l : List AEv) : ASys := l.foldl (fun a e => (sysDo a e).1) a
def sysOuts : ASys → List AEv → List (List ByteArray)
 | _, [] => []
 | a, e :: l => (sysDo a e).2 :: sysOuts (sysDo a e).1 l
theorem zdZ (a : ASys) (e : AEv) (l : List AEv) : sysRun a (e :: l) = sysRun (sysDo a e).1 l := rfl
theorem zcY (a : ASys) (e : AEv) (l : List AEv) : sysOuts a (e :: l) = (sysDo a e).2 :: sysOuts (sysDo a e).1 l := rfl
theorem zdY {a : ASys} {l : List AEv} {j : Nat} {e : AEv} (h : l[j]? = some e) : sysRun a (l.take (j + 1)) = (sysDo (sysRun a (l.take j)) e).1 := by
 unfold sysRun
 rw [List.take_succ, h, Option.toList_some, List.foldl_append]
 rfl
theorem z8v : ∀ {l : List AEv} {a : ASys} {j : Nat} {e : AEv}, l[j]? = some e → (sysOuts a l)[j]? = some (sysDo (sysRun a (l.take j)) e).2
 | [], _, _, _, h => by simp at h
 | x :: l, a, 0, e, h => by
  simp only [List.getElem?_cons_zero, Option.some.injEq] at h
  subst h; rfl
 | x :: l, a, j + 1, e, h => by
  simp only [List.getElem?_cons_succ] at h
  rw [zcY, List.getElem?_cons_succ, z8v h]
  rfl
theorem zmL (a : AShelf) (kind : Int) (n : ByteArray) (v : Int) : (shDrop a kind n v).1.n ≤ a.n + 1 := by
 unfold shDrop
 repeat' split
 all_goals dsimp only; omega
theorem zog (a : ASys) (e : AEv) : (sysDo a e).1.sh.n ≤ a.sh.n + 1 := by
 by_cases hb : chkEv e = 0
 ·rcases zkc hb with hc | hc | hc | hc | hc | hc | hc | hc | hc | hc | hc | hc | hc
  ·rw [zfY hb hc]; unfold sysConfig shPut; repeat' split
   all_goals dsimp only; omega
  ·rw [zic hb hc]; unfold sysRoute shPutR; repeat' split
   all_goals dsimp only; omega
  ·rw [zoi hb hc]; unfold sysDrop; have := zmL a.sh e.n e.name e.draw; split <;> exact this
  ·rw [zfU hb hc]; unfold sysArrive; split <;> (dsimp only; omega)
  ·rw [zoh hb hc]; unfold sysDone; dsimp only; omega
  ·rw [zib hb hc]; unfold sysUp; split <;> (dsimp only; omega)
  ·rw [zfT hb (.inl hc)]; unfold sysDown; split <;> (dsimp only; omega)
  ·rw [zfT hb (.inr hc)]; unfold sysDown; split <;> (dsimp only; omega)
  ·rw [zfS hb hc]; unfold sysTick; split <;> (dsimp only; omega)
  ·rw [zfX hb hc]; unfold sysStamp; repeat' split
   all_goals dsimp only; omega
  ·rw [zfW hb hc]; unfold sysLead; repeat' split
   all_goals dsimp only; omega
  ·rw [zmH hb hc]; unfold sysScale; repeat' split
   all_goals dsimp only; omega
  ·rw [zfV hb hc]; unfold sysPods; split <;> (dsimp only; omega)
 ·rw [zkV hb]; dsimp only; omega
theorem ziX : ∀ (l : List AEv) (a : ASys), (sysRun a l).sh.n ≤ a.sh.n + l.length
 | [], a => by simp [sysRun]
 | e :: l, a => by
  have h1 := ziX l (sysDo a e).1
  have h2 := zog a e
  rw [zdZ, List.length_cons]
  omega
abbrev evW (x : EvT) : Value := .agg #[.int .i64 x.1, .string x.2.1, .string x.2.2.1, .int .i64 x.2.2.2.1, .int .i64 x.2.2.2.2.1, .string x.2.2.2.2.2.1, .int .i64 x.2.2.2.2.2.2.1, .int .i64 x.2.2.2.2.2.2.2.1, .int .i64 x.2.2.2.2.2.2.2.2.1, .int .i64 x.2.2.2.2.2.2.2.2.2.1, .int .i64 x.2.2.2.2.2.2.2.2.2.2.1, .string x.2.2.2.2.2.2.2.2.2.2.2.1, .string x.2.2.2.2.2.2.2.2.2.2.2.2.1, .slice x.2.2.2.2.2.2.2.2.2.2.2.2.2.1.a x.2.2.2.2.2.2.2.2.2.2.2.2.2.1.len x.2.2.2.2.2.2.2.2.2.2.2.2.2.1.cap, .int .i64 x.2.2.2.2.2.2.2.2.2.2.2.2.2.2.1]
abbrev evLs : List Lf := [.int .i64, .str, .str, .int .i64, .int .i64, .str, .int .i64, .int .i64, .int .i64, .int .i64, .int .i64, .str, .str, .slice, .int .i64]
abbrev evB (b : Nat) (l : List AEv) : Seg := [Cl b z0D (fl eEv l)]
theorem znB {ks : Int → Bool} [Kn w0 ks] {b5 sb n : Nat} {l : List AEv} (hn : n = l.length) (hm : n ≤ 1000) {j : Nat} {e : AEv} (he : l[j]? = some e) {a : ASys} {s : Seg} (h : St w0 (s :: evB b5 l :: E) w) (hs : SysS sb a s) (hke : ks e.kind = true ∧ chkEv e = 0) (ev : EvIn w0 (s :: evB b5 l :: E) 0 e)
  {k0 : Nat} (inv : SInv k0 a) (hk0 : k0 ≤ 9000) (hsh : a.sh.n < 99) {k : Sl → PT} (hk : ∀ v sv s' w', Rw eS z00 1 v (sysDo a e).2 sv → SysS sb (sysDo a e).1 s' → SInv (k0 + 2) (sysDo a e).1 → St w0 (sv :: s' :: evB b5 l :: E) w' → k v w') :
  L.idx (some ⟨b5, 0, none⟩) (j : Int) n 15 (fun a8 => L.load (.agg evLs) a8 fun (x : EvT) => L.call Pr z05 [.pointer (some ⟨sb, 0, none⟩), evW x] (.one (.one .slice)) k) w := by
 have hj : j < l.length := by
  rcases Nat.lt_or_ge j l.length with h | h
  ·exact h
  ·rw [List.getElem?_eq_none h] at he; cases he
 have r : Rw eEv z0D 15 ⟨some ⟨b5, 0, none⟩, n, n⟩ l (evB b5 l) := Rw.lit b5 l encEv rfl hn (Nat.le_trans hm (by decide))
 refine Rw.ix encEv r (n := (j : Int)) (by omega) (by rw [Int.toNat_natCast]; exact hj) fun a8 ha => ?_
 rw [Int.toNat_natCast] at ha
 refine Rw.lda encEv h 1 rfl r ha he (y := e.t) rfl ?_
 exact znL h 0 rfl hs hke.1 hke.2 ev inv hk0 hsh fun v sv s' w r hs i2 h => hk v sv s' w r hs i2 h
abbrev evC (ver : Int) (c : Cfg) : AEv := ⟨1, s_, s_, ver, 0, c, noRt15, noSl⟩
abbrev evR (ver : Int) (r : ARt) (v : Sl) : AEv := ⟨2, s_, s_, ver, 0, noCfg, r, v⟩
abbrev evAr (n : Int) (name tag : ByteArray) (draw : Int) : AEv := ⟨4, name, tag, n, draw, noCfg, noRt15, noSl⟩
abbrev evN (kind n : Int) : AEv := ⟨kind, s_, s_, n, 0, noCfg, noRt15, noSl⟩
abbrev evNm (kind : Int) (name : ByteArray) : AEv := ⟨kind, name, s_, 0, 0, noCfg, noRt15, noSl⟩
theorem zq1 {ver : Int} {c : Cfg} (hv : 0 ≤ ver ∧ ver ≤ 2147483647) (hc : specC c = 0) : chkEv (evC ver c) = 0 := by
 have hn : noneE (true, false, false, false, true, false, ()) (evC ver c) = true := by simp [noneE, bareE, noRt15]
 have hm : numE (evC ver c) = true := by
  simp only [numE, wiB]
  rw [if_pos (.inl trivial)]
  simp only [Bool.and_eq_true, decide_eq_true_eq]
  omega
 unfold chkEv
 have hp : shp 1 = ((true, false, false, false, true, false, ()), true) := rfl
 simp only [hp]
 rw [if_neg (by decide)]
 unfold chkS
 rw [hn, hm]
 simp [hc]
theorem zqM {ver : Int} {r : ARt} {v : Sl} (hv : 0 ≤ ver ∧ ver ≤ 2147483647) (hr : specE r = 0) : chkEv (evR ver r v) = 0 := by
 have hn : noneE (true, false, false, false, false, true, ()) (evR ver r v) = true := by
  have : sameC noCfg noCfg = true := by decide
  simp [noneE, this]
 have hm : numE (evR ver r v) = true := by
  simp only [numE, wiB]
  rw [if_pos (.inr trivial)]
  simp only [Bool.and_eq_true, decide_eq_true_eq]
  omega
 unfold chkEv
 have hp : shp 2 = ((true, false, false, false, false, true, ()), true) := rfl
 simp only [hp]
 rw [if_neg (by decide)]
 unfold chkS
 rw [hn, hm]
 simp [hr]
theorem zqN {n draw : Int} {name tag : ByteArray} (hnm : shortB name.data.toList 16 = true) (ht : tag = s_ ∨ shortB tag.data.toList 8 = true) (hv : 1 ≤ n ∧ n ≤ 2147483647) (hd : 0 ≤ draw ∧ draw ≤ 2147483647) : chkEv (evAr n name tag draw) = 0 := by
 have hn : noneE (true, true, true, true, false, false, ()) (evAr n name tag draw) = true := by
  have : sameC noCfg noCfg = true := by decide
  simp [noneE, bareE, noRt15, this]
 have hm : numE (evAr n name tag draw) = true := by
  simp only [numE, wiB]
  rw [if_neg (by decide), if_neg (by decide)]
  simp only [Bool.and_eq_true, decide_eq_true_eq]
  omega
 have hnn : namedE (evAr n name tag draw) = true := by unfold namedE; rw [if_neg (show ¬ ((4 : Int) = 12 ∨ (4 : Int) = 13) by decide)]; exact hnm
 have hdd : wiB draw 0 2147483647 = true := by unfold wiB; simp; omega
 have htt : ¬ (tag ≠ s_ ∧ shortB tag.data.toList 8 = false) := by
  rintro ⟨h1, h2⟩
  rcases ht with e | e
  ·exact h1 e
  ·rw [e] at h2; cases h2
 unfold chkEv
 have hp : shp 4 = ((true, true, true, true, false, false, ()), true) := rfl
 simp only [hp]
 rw [if_neg (by decide)]
 unfold chkS
 rw [hn, hm, hnn, hdd]
 simp only [reduceCtorEq, if_false, and_false, true_and, if_neg htt]
theorem zmP : RevN z4z := ⟨z9s, 1, by decide, by decide, by decide, by decide +kernel⟩
abbrev cfgW (img conc min max grace : Int) : Cfg := (z9s, img, conc, min, max, grace, ())
abbrev rtF : ARt := ⟨z4A, z9s, [(s_, s_, (100 : Int), ())], 0⟩
abbrev rdyEvs (b4 : Nat) (c : Cfg) : List AEv := [evC 0 c, evR 0 rtF ⟨some ⟨b4, 0, none⟩, 1, 1⟩, evNm 10 z9s, evNm 13 z4z, evN 6 1, evNm 11 z4A]
abbrev rdyA (room line pat : Int) (c : Cfg) : ASys :=
 ⟨⟨[(z9s, thgOf c 1 1 true)], [(z4A, ⟨rtF, 2, 1, true⟩)], 2⟩, ⟨[(z4z, rvOf z4z 1 c)], [(z4z, true)]⟩,
  [(z4A, ⟨[(z4z, (100 : Int), ())], [(z4z, (100 : Int), ())], 0, 0, [(z4z, (100 : Int), ())], []⟩)], ⟨room, 1, [⟨1, z4z, ⟨2, c.2.2.1, []⟩⟩]⟩, ⟨[], [(z4z, [])], line, pat⟩, [(z4z, ⟨[], 1, 0⟩)], 0⟩
abbrev rdyOuts : List (List ByteArray) := [[lineB (lineB zbt [z9s]) [decD 1]], [lineB (lineB zid [z4A]) [decD 2]], [lineB z8b [z4z], lineB (lineB s_scale [z4z]) [decD 1]],
 [lineB zld [decD 1], lineB (lineB s_fleet [z4z]) [decD 1]], [lineB s_up [decD 1], lineB zbs [z4z]], [s_table_front_web_1_100]]
theorem do_C {a : ASys} {ver : Int} {c : Cfg} (hv : 0 ≤ ver ∧ ver ≤ 2147483647) (hc : specC c = 0) (hm : mayC (tget a.sh.m c.1) ver true = 0) :
  sysDo a (evC ver c) = ({ a with sh := ⟨putC a.sh.m c.1 c (a.sh.n + 1), a.sh.r, a.sh.n + 1⟩ }, [lineB (lineB zbt [c.1]) [decD (a.sh.n + 1).toNat]]) := by
 rw [zfY (zq1 hv hc) rfl]
 unfold sysConfig
 dsimp only
 rw [zpE hc hm]
 dsimp only
 unfold putB
 rw [if_pos rfl]
abbrev rdy1 (room line pat : Int) (c : Cfg) : ASys := { newSys room line pat with sh := ⟨[(z9s, thgOf c 1 1 true)], [], 1⟩ }
abbrev webC (c : Cfg) : Cfg := (z9s, c.2)
theorem zpD {b4 b5 : Nat} {c : Cfg} {s : Seg} : ∀ e ∈ rdyEvs b4 c, EvIn w0 (s :: evB b5 (rdyEvs b4 c) :: [Cl b4 z07 [.string s_, .string s_, I 100]] :: E) 0 e := by
 intro e he
 simp only [rdyEvs, List.mem_cons, List.not_mem_nil, or_false] at he
 rcases he with rfl | rfl | rfl | rfl | rfl | rfl
 ·exact EvIn.plain rfl rfl fun h => absurd h (show ¬ ((1 : Int) = 12 ∨ (1 : Int) = 13) by decide)
 ·refine ⟨?_, Nat.le_refl 1, (fun h => by cases h), (fun t ht => ?_), fun h => absurd h (show ¬ ((2 : Int) = 12 ∨ (2 : Int) = 13) by decide)⟩
  ·exact Rw.re encT 1 rfl (Rw.lit b4 rtF.ts encT rfl rfl (by decide))
  ·rw [List.mem_singleton] at ht
   subst ht
   exact .inl rfl
 ·exact EvIn.plain rfl rfl fun h => absurd h (show ¬ ((10 : Int) = 12 ∨ (10 : Int) = 13) by decide)
 ·exact EvIn.plain rfl rfl fun _ => zmP
 ·exact EvIn.plain rfl rfl fun h => absurd h (show ¬ ((6 : Int) = 12 ∨ (6 : Int) = 13) by decide)
 ·exact EvIn.plain rfl rfl fun h => absurd h (show ¬ ((11 : Int) = 12 ∨ (11 : Int) = 13) by decide)
abbrev RdyOk (room line pat : Int) (c : Cfg) : Prop := ∀ b4, (sysRun (rdy1 room line pat c) (rdyEvs b4 c).tail, sysOuts (rdy1 room line pat c) (rdyEvs b4 c).tail) = (rdyA room line pat c, rdyOuts.tail)
theorem zon {room line pat : Int} {c : Cfg} (hc : specC (webC c) = 0) (hr : RdyOk room line pat (webC c)) (b4 : Nat) : sysRun (newSys room line pat) (rdyEvs b4 (webC c)) = rdyA room line pat (webC c) ∧ sysOuts (newSys room line pat) (rdyEvs b4 (webC c)) = rdyOuts := by
 have h1 := do_C (a := newSys room line pat) (ver := 0) ⟨by decide, by decide⟩ hc (by rfl)
 have h2 := hr b4
 simp only [Prod.mk.injEq] at h2
 have e : (sysDo (newSys room line pat) (evC 0 (webC c))).1 = rdy1 room line pat (webC c) := by rw [h1]; rfl
 have e2 : (sysDo (newSys room line pat) (evC 0 (webC c))).2 = [lineB (lineB zbt [z9s]) [decD 1]] := by rw [h1]; rfl
 constructor
 ·show sysRun (newSys room line pat) (evC 0 (webC c) :: (rdyEvs b4 (webC c)).tail) = _
  rw [zdZ, e, h2.1]
 ·show sysOuts (newSys room line pat) (evC 0 (webC c) :: (rdyEvs b4 (webC c)).tail) = _
  rw [zcY, e, e2, h2.2]
  rfl
theorem zqH {ks : Int → Bool} (hks : (ks 1 && ks 2 && ks 10 && ks 13 && ks 6 && ks 11) = true) {b4 : Nat} {c : Cfg} (hc : specC c = 0) : ∀ e ∈ rdyEvs b4 c, ks e.kind = true ∧ chkEv e = 0 := by
 simp only [Bool.and_eq_true] at hks
 obtain ⟨⟨⟨⟨⟨k1, k2⟩, k10⟩, k13⟩, k6⟩, k11⟩ := hks
 intro e he
 simp only [rdyEvs, List.mem_cons, List.not_mem_nil, or_false] at he
 rcases he with rfl | rfl | rfl | rfl | rfl | rfl
 ·exact ⟨k1, zq1 ⟨by decide, by decide⟩ hc⟩
 ·exact ⟨k2, zqM ⟨by decide, by decide⟩ (by decide +kernel)⟩
 ·exact ⟨k10, by decide +kernel⟩
 ·exact ⟨k13, by decide +kernel⟩
 ·exact ⟨k6, by decide +kernel⟩
 ·exact ⟨k11, by decide +kernel⟩
theorem zoX {ks : Int → Bool} [Kn w0 ks] (hks : (ks 1 && ks 2 && ks 10 && ks 13 && ks 6 && ks 11) = true) (h : St w0 E w) {c : Cfg} {room line pat : Int} (hc : specC (webC c) = 0) (hnew : newOk room line pat = true) (hroom : room ≤ 20) (hr : RdyOk room line pat (webC c)) {k : Option Addr × Bool × Unit → PT}
  (hk : ∀ b s w', SysS b (rdyA room line pat (webC c)) s → SInv 12 (rdyA room line pat (webC c)) → St w0 (s :: E) w' → k (some ⟨b, 0, none⟩, true, ()) w') :
  L.call Pr z50 [.agg (Cfg.cells c).toArray, I room, I line, I pat] (.tup [.one .ptr, .one .bool]) k w := by
 refine z01 (zbi c room line pat) ?_
 unfold z7r
 refine nw h ?_; clear h; (try clear w); intro b1 w h
 refine zjB h (fun hh => by rw [hnew] at hh; cases hh) fun _ b s w hs h => ?_
 refine itF rfl (itF rfl ?_)
 (refine stC h ?_; clear h; (try clear w); intro w h; dsimp only [putN, setN] at h; refine laC h ?_)
 refine nw h ?_; clear h; (try clear w); intro b4 w h
 refine nw h ?_; clear h; (try clear w); intro b5 w h
 obtain ⟨er, eo⟩ := zon hc hr b4
 have inv0 := zoy hnew hroom
 have h : St w0 (evB b5 (rdyEvs b4 (webC c)) :: [Cl b4 z07 [.string s_, .string s_, I 100]] :: s :: [Cl b1 z0g (Cfg.cells (webC c))] :: E) w := h
 have h := fr2_ h
 have hke := zqH hks (b4 := b4) hc
 have ev := fun s => zpD (w0 := w0) (b4 := b4) (b5 := b5) (c := webC c) (s := s) (E := [Cl b1 z0g (Cfg.cells (webC c))] :: E)
 generalize hl : rdyEvs b4 (webC c) = l at *
 have h6 : l.length = 6 := by rw [← hl]; rfl
 refine z0N (fun q y w => ∃ (j : Nat) (s : Seg), @Eq Int y.2.1 j ∧ q + j = 6 ∧ SysS b (sysRun (newSys room line pat) (l.take j)) s ∧ SInv (0 + 2 * j) (sysRun (newSys room line pat) (l.take j)) ∧
  (j = 0 ∨ ∃ o, (sysOuts (newSys room line pat) l)[j - 1]? = some o ∧ o.getLast? = some y.1) ∧ St w0 (s :: evB b5 l :: [Cl b4 z07 [.string s_, .string s_, I 100]] :: [Cl b1 z0g (Cfg.cells (webC c))] :: E) w) 6 ⟨0, s, rfl, rfl, hs, inv0, .inl rfl, h⟩ ?_
 clear hs inv0
 clear h; (try clear w)
 rintro q ⟨la, y, ⟨⟩⟩ w ⟨j, s, hy, hq, hs, inv, hla, h⟩ again hag
 (try dsimp only)
 simp only at hy hla
 subst hy
 refine it (fun hb => ?_) (fun hb => ?_) <;> (try simp only [zB] at hb)
 ·have hj : j < l.length := by omega
  have hx : l[j]? = some l[j] := List.getElem?_eq_getElem hj
  have hnn := ziX (l.take j) (newSys room line pat)
  have hn0 : (newSys room line pat).sh.n = 0 := rfl
  have hlt : (l.take j).length ≤ j := by rw [List.length_take]; omega
  have ho := z8v (a := newSys room line pat) hx
  refine znB (ks := ks) h6.symm (by decide) hx h hs (hke _ (List.getElem_mem hj)) (ev s _ (List.getElem_mem hj)) inv (by omega) (by omega) fun v sv s' w r hs i2 h => ?_
  have hne : ∃ z zs, (sysDo (sysRun (newSys room line pat) (l.take j)) l[j]).2 = zs ++ [z] := by
   rw [eo] at ho
   have : j = 0 ∨ j = 1 ∨ j = 2 ∨ j = 3 ∨ j = 4 ∨ j = 5 := by omega
   rcases this with rfl | rfl | rfl | rfl | rfl | rfl <;> (simp only [rdyOuts, List.getElem?_cons_zero, List.getElem?_cons_succ, Option.some.injEq] at ho; rw [← ho])
   ·exact ⟨_, [], rfl⟩
   ·exact ⟨_, [], rfl⟩
   ·exact ⟨_, [_], rfl⟩
   ·exact ⟨_, [_], rfl⟩
   ·exact ⟨_, [_], rfl⟩
   ·exact ⟨_, [], rfl⟩
  obtain ⟨z, zs, ez⟩ := hne
  have hlen := Rw.len encS r
  rw [ez] at hlen ho
  simp only [List.length_append, List.length_cons, List.length_nil] at hlen
  have hsm := Rw.cap r
  have hml : maxLen = 9223372036854775807 := rfl
  refine itF (by rw [hlen]; simp; omega) ?_
  have ew : IntKind.wrap .i64 (((v.len : Nat) : Int) - 1) = ((zs.length : Nat) : Int) := by rw [hlen, wr (by omega) (by omega)]; omega
  rw [ew]
  refine Rw.ix encS r (by omega) (by rw [ez, Int.toNat_natCast]; simp) fun a11 ha => ?_
  rw [Int.toNat_natCast] at ha
  refine Rw.ld0 encS h 0 rfl r ha (x := z) (by rw [ez]; simp) rfl rfl ?_
  refine hag (q - 1) _ w (by omega) ⟨j + 1, s', ?_, by omega, ?_, ?_, .inr ⟨_, ho, by simp⟩, dl0_ h⟩
  ·show IntKind.wrap .i64 _ = _
   rw [wr (by omega) (by omega)]; omega
  ·rw [zdY hx]; exact hs
  ·rw [zdY hx]; exact i2
 ·have ej : l.take j = l := List.take_of_length_le (by omega)
  have e : j = 6 := by omega
  rw [ej] at hs inv
  subst e
  rcases hla with e0 | ⟨o, ho, hlo⟩
  ·cases e0
  ·rw [eo] at ho
   have e1 : o = [s_table_front_web_1_100] := by simpa [rdyOuts] using ho.symm
   rw [e1] at hlo
   have e2 : la = s_table_front_web_1_100 := by simpa using hlo.symm
   rw [er] at hs inv
   refine ⟨(some ⟨b, 0, none⟩, true, ()), ?_, hk b s w hs inv (dl1_ (dl1_ (dl1_ h)))⟩
   rw [e2]
   show Value.tuple #[_, .bool (s_table_front_web_1_100.toList == s_table_front_web_1_100.toList)] = _
   simp
   rfl
theorem ziz (h : St w0 E w) (i : Nat) {b : Nat} {a : ASys} {s : Seg} (hi : nth E i = some s) (hs : SysS b a s) {k : Int × Int × Int × Int × Unit → PT}
  (hk : ∀ s' w', SysS b a s' → St w0 (setN E i s') w' → k ((a.gt.all.length : Int), (gCnt a.gt.all 2 : Int), (gCnt a.gt.all 1 : Int), (gCnt a.gt.all 3 : Int) + gCnt a.gt.all 4, ()) w') :
  L.call Pr z3L [.pointer (some ⟨b, 0, none⟩)] (.tup [.one (.int .i64), .one (.int .i64), .one (.int .i64), .one (.int .i64)]) k w := by
 obtain ⟨p, sg, sf, ss, sk, sr, sm, Q, R, rfl⟩ := hs
 refine z01 (z9h _) ?_
 unfold z5R
 have h := (h.front i hi).split8
 ((try dsimp only [setN, List.cons_append, List.nil_append] at h); repeat (first | refine nn ?_ | (refine dr h ?_; clear h; (try clear w); intro w h) | refine ldC h ?_ | refine laC h ?_ | refine ckC h ?_ | (refine stC h ?_; clear h; (try clear w); intro w h; (try dsimp only [putN, setN] at h)) | rw [z2E]))
 have h := fr1_ h
 refine zmo h R.gt fun sg' w hG h => ?_
 refine ⟨(_, _, _, _, ()), rfl, hk _ w ⟨p, sg', sf, ss, sk, sr, sm, Q, ⟨hG, R.fl, R.sh, R.bk, R.ro, R.mp, R.ea, R.ab⟩, rfl⟩ ?_⟩
 have h := fr1_ h
 exact St.back i hi h.glue8
theorem za8 (a : ASys) (l : List AEv) (e : AEv) : sysRun a (l ++ [e]) = (sysDo (sysRun a l) e).1 := by unfold sysRun; rw [List.foldl_append]; rfl
theorem zg3 (n : Nat) (e : AEv) : List.replicate (n + 1) e = List.replicate n e ++ [e] := List.replicate_succ'
abbrev klEvs (m : Nat) : List AEv := (List.range m).map fun i : Nat => evAr ((i : Int) + 1) z4A s_ 0
theorem zcI (m : Nat) : klEvs (m + 1) = klEvs m ++ [evAr ((m : Int) + 1) z4A s_ 0] := by unfold klEvs; rw [List.range_succ, List.map_append]; rfl
theorem zlg (a : ASys) (e : AEv) (h : chkEv e = 0) (hk : e.kind = 4) : (sysDo a e).1.sh.n = a.sh.n := by
 rw [zfU h hk]
 unfold sysArrive
 split <;> rfl
theorem zm2 {n d : Int} (h : 1 ≤ n ∧ n ≤ 1000) (hd : 0 ≤ d ∧ d ≤ 2147483647) : chkEv (evAr n z4A s_ d) = 0 := zqN (by decide +kernel) (.inl rfl) ⟨h.1, by omega⟩ hd
abbrev lxC : Cfg := cfgW 0 1 0 1 1
abbrev lxK (p : Int) : ASys := sysRun (rdyA 3 3 p lxC) [evN 8 1]
abbrev lxB (p : Int) (m : Nat) : ASys := sysRun (lxK p) (klEvs m)
abbrev tks (n : Nat) : List AEv := List.replicate n (evN 9 0)
def lxLate (i : Nat) : ByteArray := (s_refused__3bb3 ++ decD (i + 1)) ++ s__timeout_d08c
def lxOk (p m : Nat) : Bool :=
 decide ((sysOuts (lxK (1 + (p : Int))) (klEvs (m + 1))).map (·.head?) = (List.range (m + 1)).map fun i => some (s_waits__c0ad ++ decD (i + 1))) &&
 ((sysOuts (lxB (1 + (p : Int)) (m + 1)) (tks (p + 1))).all (fun o => o.length == 1 + (o.drop 1).length) &&
 (decide ((sysOuts (lxB (1 + (p : Int)) (m + 1)) (tks (p + 1))).map (·.drop 1) = List.replicate p [] ++ [(List.range (m + 1)).map lxLate]) &&
 (decide ((lxK (1 + (p : Int))).sh.n = 2) &&
 ((sysRun (lxB (1 + (p : Int)) (m + 1)) (tks (p + 1))).gt.all.length == m + 1 && (gCnt (sysRun (lxB (1 + (p : Int)) (m + 1)) (tks (p + 1))).gt.all 2 == 0 && (gCnt (sysRun (lxB (1 + (p : Int)) (m + 1)) (tks (p + 1))).gt.all 1 == 0 && gCnt (sysRun (lxB (1 + (p : Int)) (m + 1)) (tks (p + 1))).gt.all 3 + gCnt (sysRun (lxB (1 + (p : Int)) (m + 1)) (tks (p + 1))).gt.all 4 == m + 1))))))
theorem zoB : ((List.range 50).all fun p : Nat => lxOk p 0) = true := by decide +kernel
theorem zoA : ((List.range 50).all fun p : Nat => lxOk p 1) = true := by decide +kernel
theorem zoz : ((List.range 50).all fun p : Nat => lxOk p 2) = true := by decide +kernel
theorem zpN (p : Int) : RdyOk 3 3 p lxC := fun b4 => by kernel_rfl
abbrev ksLx (k : Int) : Bool := k == 1 || k == 2 || k == 4 || k == 6 || k == 8 || k == 9 || k == 10 || k == 11 || k == 13
instance knLx [bTab w0] : Kn w0 ksLx := ⟨by
 intro E w h i b a s hi hs e hks hb ev k0 inv hk0 hn k hk
 have hc : e.kind = 1 ∨ e.kind = 2 ∨ e.kind = 4 ∨ e.kind = 6 ∨ e.kind = 8 ∨ e.kind = 9 ∨ e.kind = 10 ∨ e.kind = 11 ∨ e.kind = 13 := by simpa [ksLx, or_assoc] using hks
 rcases hc with hc | hc | hc | hc | hc | hc | hc | hc | hc
 ·exact zr0 h i hi hs hb hc ev inv hk0 hn hk
 ·exact zqZ h i hi hs hb hc ev inv hk0 hn hk
 ·exact zqY h i hi hs hb hc ev inv hk0 hn hk
 ·exact zqX h i hi hs hb hc ev inv hk0 hn hk
 ·exact zqW h i hi hs hb hc ev inv hk0 hn hk
 ·exact zqV h i hi hs hb hc ev inv hk0 hn hk
 ·exact zqq h i hi hs hb hc ev inv hk0 hn hk
 ·exact zqp h i hi hs hb hc ev inv hk0 hn hk
 ·exact zqo h i hi hs hb hc ev inv hk0 hn hk⟩
theorem zjT (a : ASys) : (sysDo a (evN 9 0)).1.sh.n = a.sh.n := by
 rw [zfS (by decide +kernel) rfl]
 unfold sysTick
 split <;> rfl
theorem zkb {m j : Nat} (h : j ≤ m) : (klEvs m).take j = klEvs j := by
 unfold klEvs
 rw [← List.map_take, List.take_range, Nat.min_eq_left h]
theorem zlz {m j : Nat} (h : j < m) : (klEvs m)[j]? = some (evAr ((j : Int) + 1) z4A s_ 0) := by
 unfold klEvs
 rw [List.getElem?_map, List.getElem?_range h]
 rfl
theorem zmD {m j : Nat} (h : j ≤ m) : (tks m).take j = tks j := by
 unfold tks
 rw [List.take_replicate, Nat.min_eq_left h]
theorem zod {m j : Nat} (h : j < m) : (tks m)[j]? = some (evN 9 0) := by
 unfold tks
 rw [List.getElem?_replicate, if_pos h]
theorem zhC [bTab w0] (x0 x1 : Int) : Calls Pr z5e #[I x0, I x1] w0 fun e w' => e = .returned (.bool true) ∧ St w0 [] w' := by
 refine zpQ (args := [I x0, I x1]) (z8s x0 x1) ?_
 unfold z5g
 have h := St.init w0
 refine zmj h fun w h => itF rfl ?_
 refine zfr (by decide) (by decide) ?_
 obtain ⟨p, hp⟩ : ∃ p : Nat, x0 % 50 = p := ⟨(x0 % 50).toNat, by omega⟩
 have hp50 : p < 50 := by omega
 rw [hp]
 have e1 : IntKind.wrap .i64 (1 + (p : Int)) = 1 + (p : Int) := wr (by omega) (by omega)
 rw [e1]
 have hnew : newOk 3 3 (1 + (p : Int)) = true := by unfold newOk wiB; simp; omega
 refine zoX (ks := ksLx) rfl (c := (s_, (0 : Int), (1 : Int), (0 : Int), (1 : Int), (1 : Int), ())) h (by decide +kernel) hnew (by decide) (zpN (1 + (p : Int))) fun b s w hs inv h => ?_
 refine itF rfl (itF rfl ?_)
 change SysS b (rdyA 3 3 (1 + (p : Int)) lxC) s at hs
 change SInv 12 (rdyA 3 3 (1 + (p : Int)) lxC) at inv
 have plainEv : ∀ {E : List Seg} {i : Nat} {e : AEv}, e.v = noSl → e.r = noRt15 → ¬ (e.kind = 12 ∨ e.kind = 13) → EvIn w0 E i e := fun hv hr hk => EvIn.plain hv hr fun h => absurd h hk
 have hka : lxK (1 + (p : Int)) = (sysDo (rdyA 3 3 (1 + (p : Int)) lxC) (evN 8 1)).1 := rfl
 have hn2 : (rdyA 3 3 (1 + (p : Int)) lxC).sh.n = 2 := rfl
 generalize rdyA 3 3 (1 + (p : Int)) lxC = a0 at *
 refine znL (ks := ksLx) (e := evN 8 1) h 0 rfl hs rfl (by decide +kernel) (plainEv rfl rfl (show ¬ ((8 : Int) = 12 ∨ (8 : Int) = 13) by decide)) inv (by decide) (by omega) fun v sv s w r hs inv h => ?_
 rw [← hka] at hs inv
 have h := dl0_ h
 dsimp only [setN] at h
 refine zfr (by decide) (by decide) ?_
 obtain ⟨m, hm⟩ : ∃ m : Nat, x1 % 3 = m := ⟨(x1 % 3).toNat, by omega⟩
 have hm3 : m < 3 := by omega
 rw [hm]
 have e2 : IntKind.wrap .i64 (1 + (m : Int)) = ((m + 1 : Nat) : Int) := by rw [wr (by omega) (by omega)]; omega
 rw [e2]
 have hok : lxOk p m = true := by
  have : m = 0 ∨ m = 1 ∨ m = 2 := by omega
  rcases this with rfl | rfl | rfl
  ·exact List.all_eq_true.1 zoB p (List.mem_range.2 hp50)
  ·exact List.all_eq_true.1 zoA p (List.mem_range.2 hp50)
  ·exact List.all_eq_true.1 zoz p (List.mem_range.2 hp50)
 unfold lxOk at hok
 simp only [Bool.and_eq_true, decide_eq_true_eq, beq_iff_eq] at hok
 obtain ⟨o1, o2, o3, o4, o5, o6, o7, o8⟩ := hok
 have hlb : lxB (1 + (p : Int)) (m + 1) = sysRun (lxK (1 + (p : Int))) (klEvs (m + 1)) := rfl
 rw [hlb] at o2 o3 o5 o6 o7 o8
 generalize lxK (1 + (p : Int)) = a1 at *
 clear hka hn2 hlb
 have tk : ∀ j, j ≤ 4 → (sysRun a1 (klEvs j)).sh.n = 2 := by
  intro j
  induction j with
  | zero => intro _; exact o4
  | succ j ih =>
   intro hj
   rw [zcI, za8, zlg _ _ (zm2 ⟨by omega, by omega⟩ ⟨by decide, by decide⟩) rfl]
   exact ih (by omega)
 have hoa : ∀ j, j < m + 1 → ((sysDo (sysRun a1 (klEvs j)) (evAr ((j : Int) + 1) z4A s_ 0)).2).head? = some (s_waits__c0ad ++ decD (j + 1)) := by
  intro j hj
  have h1 := z8v (a := a1) (zlz hj)
  rw [zkb (by omega)] at h1
  have h2 := congrArg (fun l => l[j]?) o1
  simp only [List.getElem?_map, h1, List.getElem?_range hj, Option.map_some, Option.some.injEq] at h2
  exact h2
 clear o1
 refine z0N (fun q y w => ∃ (j : Nat) (s : Seg), q + j = m + 1 ∧ @Eq Int y.1 ((j : Int) + 1) ∧ SysS b (sysRun a1 (klEvs j)) s ∧ SInv (14 + 2 * j) (sysRun a1 (klEvs j)) ∧ St w0 [s] w) (m + 1) ⟨0, s, rfl, rfl, hs, inv, h⟩ ?_
 clear hs inv h
 rintro q ⟨y, ⟨⟩⟩ w ⟨j, s, hq, hy, hs, inv, h⟩ again hag
 (try dsimp only)
 simp only at hy
 subst hy
 refine it (fun hb => ?_) (fun hb => ?_)
 ·have hb : (j : Int) + 1 ≤ ((m + 1 : Nat) : Int) := of_decide_eq_true hb
  have ht := tk j (by omega)
  have ho := hoa j (by omega)
  refine znL (ks := ksLx) (e := evAr ((j : Int) + 1) z4A s_ 0) h 0 rfl hs rfl (zm2 ⟨by omega, by omega⟩ ⟨by decide, by decide⟩) (plainEv rfl rfl (show ¬ ((4 : Int) = 12 ∨ (4 : Int) = 13) by decide)) inv (by omega) (by omega) fun v sv s' w r hs i2 h => ?_
  have hz : ∃ zs, (sysDo (sysRun a1 (klEvs j)) (evAr ((j : Int) + 1) z4A s_ 0)).2 = (s_waits__c0ad ++ decD (j + 1)) :: zs := by
   cases hd : (sysDo (sysRun a1 (klEvs j)) (evAr ((j : Int) + 1) z4A s_ 0)).2 with
   | nil => rw [hd] at ho; cases ho
   | cons z zs => rw [hd] at ho; exact ⟨zs, by simpa using ho⟩
  obtain ⟨zs, hz⟩ := hz
  rw [hz] at r
  have hl := Rw.len encS r
  rw [List.length_cons] at hl
  ((try dsimp only [setN, List.cons_append, List.nil_append] at h); repeat (first | refine nn ?_ | (refine dr h ?_; clear h; (try clear w); intro w h) | refine ldC h ?_ | refine laC h ?_ | refine ckC h ?_ | (refine stC h ?_; clear h; (try clear w); intro w h; (try dsimp only [putN, setN] at h)) | rw [z2E]))
  refine itF (by rw [hl]; simp; omega) ?_
  refine Rw.ix encS r (by decide) (by simp) fun a9 ha => ?_
  refine Rw.ld0 encS h 0 rfl r ha rfl rfl rfl ?_
  refine zhN h (by omega) (by omega) fun w h => ?_
  have et : ((j : Int) + 1).toNat = j + 1 := by omega
  rw [et]
  refine Rw.cka encS h 0 rfl r ha rfl rfl ?_
  have d3 := zcP (j + 1)
  have q4 : s_waits__c0ad.size = 6 := rfl
  refine gd (by simp only [maxI64]; omega) ?_
  refine itF (by rw [z3k]; simp) ?_
  refine hag (q - 1) _ w (by omega) ⟨j + 1, s', by omega, ?_, ?_, ?_, dl0_ h⟩
  ·show IntKind.wrap .i64 _ = _
   rw [wr (by omega) (by omega)]; omega
  ·rw [zcI, za8]; exact hs
  ·rw [zcI, za8]; exact i2
 have hb : ¬ (j : Int) + 1 ≤ ((m + 1 : Nat) : Int) := of_decide_eq_false hb
 have hj : j = m + 1 := by omega
 subst hj
 have hn3 := tk (m + 1) (by omega)
 clear hag tk hoa
 generalize sysRun a1 (klEvs (m + 1)) = a2 at *
 have tk : ∀ j, (sysRun a2 (tks j)).sh.n = 2 := by
  intro j
  induction j with
  | zero => exact hn3
  | succ j ih =>
   unfold tks
   rw [zg3, za8, zjT]
   exact ih
 have hot : ∀ t, t < p + 1 → ∃ z, (sysDo (sysRun a2 (tks t)) (evN 9 0)).2 = z :: (if t = p then (List.range (m + 1)).map lxLate else []) := by
  intro t ht
  have h1 := z8v (a := a2) (zod ht)
  rw [zmD (by omega)] at h1
  have h2 := congrArg (fun l => l[t]?) o3
  simp only [List.getElem?_map, h1, Option.map_some] at h2
  have h3 := List.all_eq_true.1 o2 _ (List.mem_of_getElem? h1)
  simp only [beq_iff_eq] at h3
  generalize (sysDo (sysRun a2 (tks t)) (evN 9 0)).2 = o at *
  cases o with
  | nil => simp at h3
  | cons z zs =>
   refine ⟨z, ?_⟩
   simp only [List.drop_succ_cons, List.drop_zero] at h2
   congr 1
   by_cases hc : t = p
   ·rw [if_pos hc]
    rw [List.getElem?_append_right (by rw [List.length_replicate]; omega), List.length_replicate, hc, Nat.sub_self] at h2
    simpa using h2
   ·rw [if_neg hc]
    rw [List.getElem?_append_left (by rw [List.length_replicate]; omega), List.getElem?_replicate, if_pos (by omega)] at h2
    simpa using h2
 clear o2 o3
 refine z0N (fun q y w => ∃ (j : Nat) (s : Seg), q + j = p + 1 ∧ @Eq Int y.1 ((j : Int) + 1) ∧ SysS b (sysRun a2 (tks j)) s ∧ SInv (14 + 2 * (m + 1) + 2 * j) (sysRun a2 (tks j)) ∧ St w0 [s] w) (p + 1) ⟨0, s, rfl, rfl, hs, inv, h⟩ ?_
 clear hs inv h
 rintro q ⟨y, ⟨⟩⟩ w ⟨t, s, hq, hy, hs, inv, h⟩ again hag
 (try dsimp only)
 simp only at hy
 subst hy
 refine it (fun hb => ?_) (fun hb => ?_)
 ·have hb : (t : Int) + 1 ≤ 1 + (p : Int) := of_decide_eq_true hb
  have ht := tk t
  obtain ⟨z, hz⟩ := hot t (by omega)
  refine znL (ks := ksLx) (e := evN 9 0) h 0 rfl hs rfl (by decide +kernel) (plainEv rfl rfl (show ¬ ((9 : Int) = 12 ∨ (9 : Int) = 13) by decide)) inv (by omega) (by omega) fun v sv s' w r hs i2 h => ?_
  rw [hz] at r
  have hl := Rw.len encS r
  have e5 : IntKind.wrap .i64 (1 + ((m + 1 : Nat) : Int)) = ((m + 2 : Nat) : Int) := by rw [wr (by omega) (by omega)]; omega
  refine z2u (fun (_ : Unit) w' => w' = w) (fun k15 hk15 => ?_) ?_
  ·rw [e5]
   refine it (fun hc => ?_) (fun hc => ?_)
   ·have hc : (t : Int) + 1 < 1 + (p : Int) := of_decide_eq_true hc
    rw [if_neg (by omega)] at hl
    refine itF (by rw [hl]; rfl) ?_
    refine itF (by simp; omega) ?_
    exact hk15 _ _ rfl
   ·have hc : ¬ (t : Int) + 1 < 1 + (p : Int) := of_decide_eq_false hc
    rw [if_pos (by omega)] at hl
    simp only [List.length_cons, List.length_map, List.length_range] at hl
    refine itT (by simp; omega) ?_
    refine itF (by rw [show v.len = m + 2 from hl]; simp) ?_
    exact hk15 _ _ rfl
  rintro _ w' rfl
  (try dsimp only)
  refine z0N (fun q y w => ∃ (i : Nat), q + i = v.len - 1 ∧ @Eq Int y.1 ((i : Int) + 1) ∧ i + 1 ≤ v.len ∧ St w0 (sv :: setN [s] 0 s') w) (v.len - 1) ⟨0, rfl, rfl, by rw [hl]; simp, h⟩ ?_
  clear h
  rintro q2 ⟨y, ⟨⟩⟩ w ⟨i, hq2, hy, hil, h⟩ again2 hag2
  (try dsimp only)
  simp only at hy
  subst hy
  refine it (fun hb => ?_) (fun hb => ?_)
  ·have hb2 : (i : Int) + 1 < (v.len : Int) := of_decide_eq_true hb
   have htp : t = p := by
    apply Classical.byContradiction
    intro hc
    rw [if_neg hc] at hl
    simp only [List.length_cons, List.length_nil] at hl
    omega
   rw [if_pos htp] at r hl
   simp only [List.length_cons, List.length_map, List.length_range] at hl
   have hi : i < m + 1 := by omega
   ((try dsimp only [setN, List.cons_append, List.nil_append] at h); repeat (first | refine nn ?_ | (refine dr h ?_; clear h; (try clear w); intro w h) | refine ldC h ?_ | refine laC h ?_ | refine ckC h ?_ | (refine stC h ?_; clear h; (try clear w); intro w h; (try dsimp only [putN, setN] at h)) | rw [z2E]))
   refine Rw.ix encS r (by omega) (by simp; omega) fun a19 ha => ?_
   have et : ((i : Int) + 1).toNat = i + 1 := by omega
   rw [et] at ha
   refine Rw.ld0 encS h 0 rfl r ha (x := lxLate i) (by simp [hi]) rfl rfl ?_
   refine zhN h (by omega) (by omega) fun w h => ?_
   rw [et]
   refine Rw.cka encS h 0 rfl r ha (x := lxLate i) (by simp [hi]) rfl ?_
   have d3 := zcP (i + 1)
   have q4 : s_refused__3bb3.size = 8 := rfl
   have q5 : s__timeout_d08c.size = 8 := rfl
   refine gd (by simp only [maxI64]; omega) ?_
   refine gd (by rw [ByteArray.size_append]; simp only [maxI64]; omega) ?_
   refine itF (by rw [z3k]; unfold lxLate; simp) ?_
   refine hag2 (q2 - 1) _ w (by omega) ⟨i + 1, by omega, ?_, by omega, h⟩
   show IntKind.wrap .i64 _ = _
   rw [wr (by omega) (by omega)]; omega
  ·refine hag (q - 1) _ w (by omega) ⟨t + 1, s', by omega, ?_, ?_, ?_, dl0_ h⟩
   ·show IntKind.wrap .i64 _ = _
    rw [wr (by omega) (by omega)]; omega
   ·unfold tks; rw [zg3, za8]; exact hs
   ·unfold tks; rw [zg3, za8]; exact i2
 have hb : ¬ (t : Int) + 1 ≤ 1 + (p : Int) := of_decide_eq_false hb
 have htp : t = p + 1 := by omega
 subst htp
 clear hag hot tk
 refine ziz h 0 rfl hs fun s w hs h => ?_
 rw [o5, o6, o7]
 refine itT (by simp) ?_
 refine itT rfl ?_
 refine itT rfl ?_
 refine ⟨?_, h.fin⟩
 have : ((gCnt (sysRun a2 (tks (p + 1))).gt.all 3 : Int) + gCnt (sysRun a2 (tks (p + 1))).gt.all 4) = ((m + 1 : Nat) : Int) := by omega
 show Value.bool (((gCnt (sysRun a2 (tks (p + 1))).gt.all 3 : Int) + gCnt (sysRun a2 (tks (p + 1))).gt.all 4) == ((m + 1 : Nat) : Int)) = _
 rw [this]
 simp
end Go.Proofs.YtmbidnhdfdnihaaGreatDoor
