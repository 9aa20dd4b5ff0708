/- What is proved on the way to a statement of the seat, pressed (text AK). No conditions beyond those its theorems state. -/
import Derived.Test.YtkmalcoocklikaaGreatDoorZAJ
set_option linter.all false
namespace Go.Proofs.YtkmalcoocklikaaGreatDoor
open Go.Dm
attribute [local irreducible] L.load L.store L.chk L.new L.nonnil L.guard L.ite L.draw L.idx L.sem L.semR L.semU L.chkSem L.next L.call L.callV L.join L.alts L.loop L.begin L.endRound L.range
variable {w0 w : World} {E : List Seg}
theorem zme {F : AFleet} (ok : F.Ok) (id : Int) : (fUpp F id).1.Ok := by
 unfold fUpp
 split
 ·exact ok
 ·rename_i x hx
  refine ok.upd hx _ ?_ fun q hq => .inl (by rwa [zgr] at hq)
  have := ok.live x (z3v hx).1
  unfold podUp
  split
  ·dsimp only; omega
  ·exact .inr (.inl rfl)
theorem shrinkR (rev : ByteArray) : ∀ {n : Nat} {F : AFleet}, (shrink rev n F).1.last = F.last ∧ (shrink rev n F).1.room = F.room
 | 0, F => ⟨rfl, rfl⟩
 | n + 1, F => by simp only [shrink]; exact shrinkR rev (n := n) (F := drain1 rev F)
theorem zh7 (F : AFleet) (rev : ByteArray) (conc want : Int) : (fScale F rev conc want).1.room = F.room := by
 unfold fScale fGrown
 rw [(shrinkR rev).2, z9F]
theorem zka {F : AFleet} {rev : ByteArray} {conc : Int} (n : Nat) (ok : F.Ok) (h1 : F.l.length + n < 100000000) (h2 : F.last + n < 4611686018427387904) : (grow rev conc n F).Ok := by
 induction n with
 | zero => exact ok
 | succ n ih =>
  refine zgM (ih (by omega) (by omega)) ?_ ?_
  ·rw [z9G]; omega
  ·rw [z9H]; omega
theorem zbS {rev : ByteArray} : ∀ {n : Nat} {F : AFleet}, F.Ok → n ≤ fCount F.l rev → (∀ x ∈ (shrink rev n F).2, 0 ≤ x ∧ x ≤ F.last) ∧ (shrink rev n F).2.length = n
 | 0, F, _, _ => ⟨(by intro x hx; cases hx), rfl⟩
 | n + 1, F, ok, h => by
  have h1 := zeR ok (rev := rev) (by omega)
  have h2 := zb1 ok (rev := rev) (by omega)
  obtain ⟨a, b⟩ := zbS (rev := rev) (n := n) h1 (by omega)
  obtain ⟨y, hy, -, -⟩ := z9u (rev := rev) ok (by omega)
  obtain ⟨hm, hid⟩ := z3v hy
  have hr := ok.rng y hm
  simp only [shrink]
  refine ⟨fun x hx => ?_, by rw [List.length_cons, b]⟩
  rcases List.mem_cons.1 hx with rfl | hx
  ·rw [← hid]; omega
  ·exact a x hx
theorem zh8 {F : AFleet} (ok : F.Ok) {rev : ByteArray} {conc want : Int} (hl : (F.l.length : Int) ≤ 1000) (hr : F.room ≤ 1000) (hla : F.last ≤ 1000000000) : (∀ x ∈ (fScale F rev conc want).2, 0 ≤ x ∧ x ≤ F.last + 1000) ∧ (fScale F rev conc want).2.length ≤ 2000 := by
 have hn := zbK F rev want
 have okg : (fGrown F rev conc want).Ok := zka _ ok (by omega) (by omega)
 have hsn : shrinkN (fGrown F rev conc want) rev want ≤ fCount (fGrown F rev conc want).l rev := by
  have := zh5 (fGrown F rev conc want) rev want
  omega
 have hs := zbS okg hsn
 have hll : (fGrown F rev conc want).last = F.last + growN F rev want := z9H ..
 have hcl := z9N (fGrown F rev conc want).l (rev := rev)
 have hgl : (fGrown F rev conc want).l.length = F.l.length + growN F rev want := z9G ..
 unfold fScale
 refine ⟨fun x hx => ?_, ?_⟩
 ·have := hs.1 x hx
  omega
 ·rw [hs.2]; omega
theorem zhM [bTab w0] (h : St w0 E w) (i : Nat) {b : Nat} {a : ASys} {s : Seg} (hi : nth E i = some s) (hs : SysS b a s) {e : AEv} (hn : bkHas a.bk e.name = false) {k : Sl → PT} (hk : Hk w0 E i b (sysPods a e) k) : z1P (some ⟨b, 0, none⟩) e.t (slK k) w := by
 have hs0 := hs
 obtain ⟨p, sg, sf, ss, sk, sr, sm, Q, R, rfl⟩ := hs
 unfold z1P
 unfold sysPods at hk
 have h := (h.front i hi).split8
 refine nw h ?_; clear h; (try clear w); intro b1 w h
 refine z1k (fun (z : Addr × Bool × Unit) w => ∃ b8 : Nat, z = (⟨b8, 0, none⟩, bkHas a.bk e.name, ()) ∧ St w0 (sysC b p a.now :: sg :: sf :: ss :: sk :: sr :: sm :: (Q.map BsE.sg).flatten :: delN E i) w) (fun k2 hk2 => ?_) ?_
 ·(dsimp only [setN, List.cons_append, List.nil_append] at h; refine dr h ?_; clear h; (try clear w); intro w h; refine nn ?_; refine ldC h ?_; refine ldC h ?_)
  refine alts2 ?_ ?_
  ·refine zaO h 5 rfl R.bk fun w h => ?_
   refine nw h ?_; clear h; (try clear w); intro b8 w h
   (refine ckC h ?_; refine ckC h ?_; refine stC h ?_; clear h; (try clear w); intro w h; dsimp only [putN, setN] at h)
   exact hk2 _ w ⟨b8, rfl, dl0_ (dl0_ h)⟩
  ·refine nw h ?_; clear h; (try clear w); intro b8 w h
   (refine ckC h ?_; refine ckC h ?_)
   refine zaO h 6 rfl R.bk fun w h => ?_
   (refine stC h ?_; clear h; (try clear w); intro w h; dsimp only [putN, setN] at h)
   exact hk2 _ w ⟨b8, rfl, dl0_ (dl0_ h)⟩
 clear h; (try clear w)
 rintro z w ⟨b8, rfl, h⟩
 (try dsimp only)
 refine itT (by simp [hn]) ?_
 rw [if_pos hn] at hk
 refine z5I h fun v s w r h => ?_
 exact ⟨v, rfl, hk v s _ w r hs0 (sysBack i hi h)⟩
structure EvIn (w0 : World) (E : List Seg) (i : Nat) (e : AEv) : Prop where
 rd : RdE w0 (delN E i) eT e.v e.r.ts
 hvc : e.v.len ≤ e.v.cap
 h0 : e.v.a = none → e.r.ts = []
 hrv : ∀ t ∈ e.r.ts, revOk t.1
 hn : e.kind = 12 ∨ e.kind = 13 → RevN e.name
theorem EvIn.plain {i : Nat} {e : AEv} (hv : e.v = noSl) (hr : e.r = noRt15) (hk : e.kind = 12 ∨ e.kind = 13 → RevN e.name) : EvIn w0 E i e := by
 refine ⟨fun _ _ => ?_, ?_, fun _ => ?_, ?_, hk⟩
 ·rw [hv, hr]; exact Rd.nil
 ·rw [hv]; exact Nat.le_refl 0
 ·rw [hr]; rfl
 ·rw [hr]; intro t ht; cases ht
abbrev HkI (w0 : World) (E : List Seg) (i b k0 : Nat) (r : ASys × List ByteArray) (k : Sl → PT) : Prop :=
 ∀ v sv s' w', Rw eS z01 1 v r.2 sv → SysS b r.1 s' → SInv k0 r.1 → St w0 (sv :: setN E i s') w' → k v w'
theorem znK [bTab w0] (h : St w0 E w) (i : Nat) {b : Nat} {a : ASys} {s : Seg} (hi : nth E i = some s) (hs : SysS b a s) {e : AEv} (hb : chkEv e = 0) (hc : e.kind = 1) (ev : EvIn w0 E i e) {k0 : Nat} (inv : SInv k0 a) (hk0 : k0 ≤ 9000) (hn : a.sh.n < 99) {k : Sl → PT} (hk : HkI w0 E i b (k0 + 2) (sysDo a e) k) :
  L.call Pr z0g [.pointer (some ⟨b, 0, none⟩), evV e] (.one (.one .slice)) k w := by
 have ok := hs.ok
 have rd' : RdE w0 E eT e.v e.r.ts := fun w h => ev.rd w (h.del i hi)
 have i2 : SInv (k0 + 2) (sysDo a e).1 := by rw [zfu hb hc]; exact (zht ok inv e).mono (Nat.le_succ _)
 have hkk : Hk w0 E i b (sysDo a e) k := fun v sv s' w' r hs' h => hk v sv s' w' r hs' i2 h
 clear hk
 have hlast := inv.fl.last
 have hlen := inv.fl.few.l
 have hroom := inv.fl.few.r
 unfold podsMost at hroom
 have hall := inv.gt.all
 have hlines := inv.gt.lines
 have hgr := inv.gt.room
 have hpat := inv.gt.pat
 have hnow := inv.now
 have hbl := inv.bk.len
 have hr1 := inv.fl.r1
 have rn := ev.hn
 rw [zfu hb hc] at hkk
 exact zhO h i hi hs hc hb rd' ev.hvc ev.hrv (by omega) (by have := z8p (z4P (znz hb hc)).1; omega) hkk
theorem znJ [bTab w0] (h : St w0 E w) (i : Nat) {b : Nat} {a : ASys} {s : Seg} (hi : nth E i = some s) (hs : SysS b a s) {e : AEv} (hb : chkEv e = 0) (hc : e.kind = 6) (ev : EvIn w0 E i e) {k0 : Nat} (inv : SInv k0 a) (hk0 : k0 ≤ 9000) (hn : a.sh.n < 99) {k : Sl → PT} (hk : HkI w0 E i b (k0 + 2) (sysDo a e) k) :
  L.call Pr z0g [.pointer (some ⟨b, 0, none⟩), evV e] (.one (.one .slice)) k w := by
 have ok := hs.ok
 have rd' : RdE w0 E eT e.v e.r.ts := fun w h => ev.rd w (h.del i hi)
 have i2 : SInv (k0 + 2) (sysDo a e).1 := by rw [zft hb hc]; exact (zmB ok inv e).mono (Nat.le_succ _)
 have hkk : Hk w0 E i b (sysDo a e) k := fun v sv s' w' r hs' h => hk v sv s' w' r hs' i2 h
 clear hk
 have hlast := inv.fl.last
 have hlen := inv.fl.few.l
 have hroom := inv.fl.few.r
 unfold podsMost at hroom
 have hall := inv.gt.all
 have hlines := inv.gt.lines
 have hgr := inv.gt.room
 have hpat := inv.gt.pat
 have hnow := inv.now
 have hbl := inv.bk.len
 have hr1 := inv.fl.r1
 have rn := ev.hn
 rw [zft hb hc] at hkk
 have hid := (zmQ hb (by omega)).1
 have hu := inv.fl.up e.n
 have hsz : (fOf (fUpp a.fl e.n).1.l e.n).size ≤ 100 := by
  unfold fOf
  cases hf : fFind (fUpp a.fl e.n).1.l e.n with
  | none => show s_.size ≤ 100; decide
  | some x => exact (hu.rev x (z3v hf).1).size
 have hu' : (fUpp a.fl e.n).1.Ok := zme ok.fl e.n
 refine znc h i hi hs hc hb rd' ev.hvc ev.hrv ⟨by omega, by omega⟩ (by omega) hu.few (by omega) (by omega) (zfJ (by omega) hu' hu inv.gt _) ?_ hkk
 have := (ziS (F := (fUpp a.fl e.n).1) ok.gt (fOf (fUpp a.fl e.n).1.l e.n)).1
 show (gFlow (fUpp a.fl e.n).1 a.gt (fOf (fUpp a.fl e.n).1.l e.n)).2.2.length < 100000000
 omega
theorem znI [bTab w0] (h : St w0 E w) (i : Nat) {b : Nat} {a : ASys} {s : Seg} (hi : nth E i = some s) (hs : SysS b a s) {e : AEv} (hb : chkEv e = 0) (hc : e.kind = 9) (ev : EvIn w0 E i e) {k0 : Nat} (inv : SInv k0 a) (hk0 : k0 ≤ 9000) (hn : a.sh.n < 99) {k : Sl → PT} (hk : HkI w0 E i b (k0 + 2) (sysDo a e) k) :
  L.call Pr z0g [.pointer (some ⟨b, 0, none⟩), evV e] (.one (.one .slice)) k w := by
 have ok := hs.ok
 have rd' : RdE w0 E eT e.v e.r.ts := fun w h => ev.rd w (h.del i hi)
 have i2 : SInv (k0 + 2) (sysDo a e).1 := by rw [zds hb hc]; exact (zk8 ok ok.nd inv (by omega)).mono (Nat.le_succ _)
 have hkk : Hk w0 E i b (sysDo a e) k := fun v sv s' w' r hs' h => hk v sv s' w' r hs' i2 h
 clear hk
 have hlast := inv.fl.last
 have hlen := inv.fl.few.l
 have hroom := inv.fl.few.r
 unfold podsMost at hroom
 have hall := inv.gt.all
 have hlines := inv.gt.lines
 have hgr := inv.gt.room
 have hpat := inv.gt.pat
 have hnow := inv.now
 have hbl := inv.bk.len
 have hr1 := inv.fl.r1
 have rn := ev.hn
 rw [zds hb hc] at hkk
 have hg := zeJ ok.gt inv.gt (a.now + 1)
 refine zh0 h i hi hs hc hb rd' ev.hvc ev.hrv hnow.1 inv.gt.wk (by have := hg.2.2; unfold tkG; omega) hg.2.1 (fun rev hr => ?_) (fun x hx => by have := inv.by'.xs x hx; omega) (by omega) hkk
 have := inv.by'.has _ (z5D (zj7 hr))
 exact this
theorem znf [bTab w0] (h : St w0 E w) (i : Nat) {b : Nat} {a : ASys} {s : Seg} (hi : nth E i = some s) (hs : SysS b a s) {e : AEv} (hb : chkEv e = 0) (hc : e.kind = 10) (ev : EvIn w0 E i e) {k0 : Nat} (inv : SInv k0 a) (hk0 : k0 ≤ 9000) (hn : a.sh.n < 99) {k : Sl → PT} (hk : HkI w0 E i b (k0 + 2) (sysDo a e) k) :
  L.call Pr z0g [.pointer (some ⟨b, 0, none⟩), evV e] (.one (.one .slice)) k w := by
 have ok := hs.ok
 have rd' : RdE w0 E eT e.v e.r.ts := fun w h => ev.rd w (h.del i hi)
 have i2 : SInv (k0 + 2) (sysDo a e).1 := by rw [zgj hb hc]; exact (ziJ ok inv (by omega) e).mono (Nat.le_succ _)
 have hkk : Hk w0 E i b (sysDo a e) k := fun v sv s' w' r hs' h => hk v sv s' w' r hs' i2 h
 clear hk
 have hlast := inv.fl.last
 have hlen := inv.fl.few.l
 have hroom := inv.fl.few.r
 unfold podsMost at hroom
 have hall := inv.gt.all
 have hlines := inv.gt.lines
 have hgr := inv.gt.room
 have hpat := inv.gt.pat
 have hnow := inv.now
 have hbl := inv.bk.len
 have hr1 := inv.fl.r1
 have rn := ev.hn
 rw [zgj hb hc] at hkk
 refine zjq h i hi hs hc hb rd' ev.hvc ev.hrv (fun hh => ?_) (by omega) hkk
 have hs := zbT ok.sh inv.sh hh
 have hnum := z4P hs.1
 exact ⟨hnum.1, hs.2.1, by omega, by omega⟩
theorem zne [bTab w0] (h : St w0 E w) (i : Nat) {b : Nat} {a : ASys} {s : Seg} (hi : nth E i = some s) (hs : SysS b a s) {e : AEv} (hb : chkEv e = 0) (hc : e.kind = 12) (ev : EvIn w0 E i e) {k0 : Nat} (inv : SInv k0 a) (hk0 : k0 ≤ 9000) (hn : a.sh.n < 99) {k : Sl → PT} (hk : HkI w0 E i b (k0 + 2) (sysDo a e) k) :
  L.call Pr z0g [.pointer (some ⟨b, 0, none⟩), evV e] (.one (.one .slice)) k w := by
 have ok := hs.ok
 have rd' : RdE w0 E eT e.v e.r.ts := fun w h => ev.rd w (h.del i hi)
 have i2 : SInv (k0 + 2) (sysDo a e).1 := by rw [zdu hb hc]; exact (ziK inv e).mono (Nat.le_succ _)
 have hkk : Hk w0 E i b (sysDo a e) k := fun v sv s' w' r hs' h => hk v sv s' w' r hs' i2 h
 clear hk
 have hlast := inv.fl.last
 have hlen := inv.fl.few.l
 have hroom := inv.fl.few.r
 unfold podsMost at hroom
 have hall := inv.gt.all
 have hlines := inv.gt.lines
 have hgr := inv.gt.room
 have hpat := inv.gt.pat
 have hnow := inv.now
 have hbl := inv.bk.len
 have hr1 := inv.fl.r1
 have rn := ev.hn
 rw [zdu hb hc] at hkk
 have hnm := (rn (.inl hc)).size
 refine zg4 h i hi hs hb rn rd' ev.hvc ev.hrv (f := z1h) (by rw [hc]; rfl) z89 (z8d (some ⟨b, 0, none⟩) e.t) (fun h hi _ hk => zhI h _ hi hs (by omega) (fun hh => inv.by'.has _ (z5D hh)) (fun x hx => ?_) (fun hh => ?_) ?_ hk) hkk
 ·have hm := z3T hx
  have hw := inv.by'.want _ hm
  refine ⟨⟨⟨hw.1.1, by have := hw.1.2; dsimp only at this; omega⟩, hw.2, inv.by'.rng _ hm, by have := inv.by'.xs _ hm; dsimp only at this; omega⟩, ?_⟩
  by_cases hh : bkHas a.bk e.name = true
  ·have := (zgl inv hh hw.2).1
   dsimp only at this; omega
  ·have e1 : bkGet a.bk e.name = noRv := by
    unfold bkHas at hh
    unfold bkGet
    cases hg : mget a.bk.all e.name with
    | none => rfl
    | some v => rw [hg] at hh; exact absurd rfl hh
   have e2 : (bkGet a.bk e.name).2.2.2.2.2.1 = (0 : Int) ∧ (bkGet a.bk e.name).2.2.2.2.2.2.1 = (0 : Int) := by rw [e1]; exact ⟨rfl, rfl⟩
   unfold scOf scDec scEnd
   rw [e2.1, e2.2]
   generalize mx2 (mn2 _ _) _ = y
   unfold mn2 mx2
   constructor <;> repeat' split
   all_goals omega
 ·have hc2 := (z4P (inv.bk.cfg _ (z5D hh))).2.2.1
  exact ⟨Int.le_trans (by decide) hc2.1, Int.le_trans hc2.2 (by decide)⟩
 ·unfold fPods
  rw [List.length_map]
  have : (revs a.fl.l e.name).length ≤ a.fl.l.length := List.length_filter_le ..
  omega
theorem znd [bTab w0] (h : St w0 E w) (i : Nat) {b : Nat} {a : ASys} {s : Seg} (hi : nth E i = some s) (hs : SysS b a s) {e : AEv} (hb : chkEv e = 0) (hc : e.kind = 13) (ev : EvIn w0 E i e) {k0 : Nat} (inv : SInv k0 a) (hk0 : k0 ≤ 9000) (hn : a.sh.n < 99) {k : Sl → PT} (hk : HkI w0 E i b (k0 + 2) (sysDo a e) k) :
  L.call Pr z0g [.pointer (some ⟨b, 0, none⟩), evV e] (.one (.one .slice)) k w := by
 have ok := hs.ok
 have rd' : RdE w0 E eT e.v e.r.ts := fun w h => ev.rd w (h.del i hi)
 have i2 : SInv (k0 + 2) (sysDo a e).1 := by rw [zdt hb hc]; exact (zk9 inv e).mono (Nat.le_succ _)
 have hkk : Hk w0 E i b (sysDo a e) k := fun v sv s' w' r hs' h => hk v sv s' w' r hs' i2 h
 clear hk
 have hlast := inv.fl.last
 have hlen := inv.fl.few.l
 have hroom := inv.fl.few.r
 unfold podsMost at hroom
 have hall := inv.gt.all
 have hlines := inv.gt.lines
 have hgr := inv.gt.room
 have hpat := inv.gt.pat
 have hnow := inv.now
 have hbl := inv.bk.len
 have hr1 := inv.fl.r1
 have rn := ev.hn
 rw [zdt hb hc] at hkk
 have hnm := rn (.inr hc)
 by_cases hh : bkHas a.bk e.name = true
 ·have hc2 := (z4P (inv.bk.cfg _ (z5D hh))).2.2.1
  have hcc : pdConc a e.name ≤ 1000 := Int.le_trans hc2.2 (by decide)
  have hsc := inv.fl.scale hnm hcc (pdWant a e.name)
  have hgl := hsc.few.l
  have hgr2 : (fScale a.fl e.name (pdConc a e.name) (pdWant a e.name)).1.room = a.fl.room := zh7 ..
  have hgo := zh8 ok.fl (rev := e.name) (conc := pdConc a e.name) (want := pdWant a e.name) (by omega) (by omega) (by omega)
  refine zkC h i hi hs hc hnm hb rd' ev.hvc ev.hrv (by omega) (by omega) (by have := hnm.size; omega) (fun x hx => ?_) ?_ (fun x hx => ?_) ?_ ?_ hkk
  ·unfold fMade at hx
   obtain ⟨j, hj, rfl⟩ := List.mem_map.1 hx
   rw [List.mem_range] at hj
   have := zbK a.fl e.name (pdWant a e.name)
   have := ok.fl.lo
   omega
  ·unfold fMade
   rw [List.length_map, List.length_range]
   have := zbK a.fl e.name (pdWant a e.name)
   omega
  ·have := hgo.1 x hx; omega
  ·have := hgo.2; omega
  ·unfold fPods
   rw [List.length_map]
   have : (revs (pdFl a e.name).l e.name).length ≤ (pdFl a e.name).l.length := List.length_filter_le ..
   unfold pdFl at this ⊢
   omega
 ·exact zg4 h i hi hs hb rn rd' ev.hvc ev.hrv (f := z18) (by rw [hc]; rfl) z5g (z5h (some ⟨b, 0, none⟩) e.t) (fun h hi _ hk => zhM h _ hi hs (by simpa using hh) hk) hkk
class Kn (w0 : World) (ks : Int → Bool) : Prop where
 dos : ∀ {E : List Seg} {w : World}, St w0 E w → ∀ (i : Nat) {b : Nat} {a : ASys} {s : Seg}, nth E i = some s → SysS b a s → ∀ {e : AEv}, ks e.kind = true → chkEv e = 0 → EvIn w0 E i e → ∀ {k0 : Nat}, SInv k0 a → k0 ≤ 9000 → a.sh.n < 99 → ∀ {k : Sl → PT}, HkI w0 E i b (k0 + 2) (sysDo a e) k →
  L.call Pr z0g [.pointer (some ⟨b, 0, none⟩), evV e] (.one (.one .slice)) k w
theorem zm8 {ks : Int → Bool} [K : Kn w0 ks] (h : St w0 E w) (i : Nat) {b : Nat} {a : ASys} {s : Seg} (hi : nth E i = some s) (hs : SysS b a s) {e : AEv} (hks : ks e.kind = true) (hb : chkEv e = 0) (ev : EvIn w0 E i e) {k0 : Nat} (inv : SInv k0 a) (hk0 : k0 ≤ 9000) (hn : a.sh.n < 99) {k : Sl → PT} (hk : HkI w0 E i b (k0 + 2) (sysDo a e) k) :
  L.call Pr z0g [.pointer (some ⟨b, 0, none⟩), evV e] (.one (.one .slice)) k w := K.dos h i hi hs hks hb ev inv hk0 hn hk
end Go.Proofs.YtkmalcoocklikaaGreatDoor
namespace Go.Proofs.YtkmalcoocklikaaGreatDoor
open Go.Dm
def cW (k : Int) : Cfg := (s_web, k, 1, 0, 1, 0, ())
structure GI (a : ASys) (ver gen : Nat) (last : Int) : Prop where
 n : a.sh.n = ver
 sh : (ver = 0 ∧ gen = 0 ∧ last = -1 ∧ (tget a.sh.m s_web).is = false ∧ (tget a.sh.m s_web).gen = 0) ∨ (0 < ver ∧ 0 ≤ last ∧ 0 < gen ∧ tget a.sh.m s_web = thgOf (cW last) ver gen true)
 gl : gen ≤ ver
 bk : ∀ g, 1 ≤ g → g < 100 → (bkHas a.bk (revB s_web g) = true ↔ g ≤ gen)
 len : a.bk.all.length = gen
theorem zmr {a : AShelf} {c : Cfg} {ver : Int} (h1 : specC c = 0) (h2 : mayC (tget a.m c.1) ver true = 0) : shPut a c ver = (⟨putC a.m c.1 c (a.n + 1), a.r, a.n + 1⟩, a.n + 1, 0) := by
 unfold shPut; rw [if_neg (by simpa using h1), if_neg (by simpa using h2)]
end Go.Proofs.YtkmalcoocklikaaGreatDoor
namespace Go.Proofs.YtkmalcoocklikaaGreatDoor
open Go.Dm
attribute [local irreducible] L.load L.store L.chk L.new L.nonnil L.guard L.ite L.draw L.idx L.sem L.semR L.semU L.chkSem L.next L.call L.callV L.join L.alts L.loop L.begin L.endRound L.range
variable {w0 w : World} {E : List Seg}
def eEv (e : AEv) : List Value := [I e.kind, .string e.name, .string e.tag, I e.n, I e.draw, .string e.c.1, I e.c.2.1, I e.c.2.2.1, I e.c.2.2.2.1, I e.c.2.2.2.2.1, I e.c.2.2.2.2.2.1, .string e.r.name, .string e.r.cfg, .slice e.v.a e.v.len e.v.cap, I e.r.roll]
theorem encEv : Enc eEv 15 := ⟨fun _ => rfl, fun _ => rfl, by decide⟩
def sysRun (a : ASys) (l : List AEv) : ASys := l.foldl (fun a e => (sysDo a e).1) a
def sysOuts : ASys → List AEv → List (List ByteArray)
 | _, [] => []
 | a, e :: l => (sysDo a e).2 :: sysOuts (sysDo a e).1 l
theorem z5u (a : ASys) (e : AEv) (l : List AEv) : sysRun a (e :: l) = sysRun (sysDo a e).1 l := rfl
theorem z8n (a : ASys) : sysRun a [] = a := rfl
theorem z4O (a : ASys) (e : AEv) (l : List AEv) : sysOuts a (e :: l) = (sysDo a e).2 :: sysOuts (sysDo a e).1 l := rfl
theorem zfs (a : ASys) : sysOuts a [] = [] := rfl
abbrev evLs : List Lf := [.int .i64, .str, .str, .int .i64, .int .i64, .str, .int .i64, .int .i64, .int .i64, .int .i64, .int .i64, .str, .str, .slice, .int .i64]
abbrev evC (ver : Int) (c : Cfg) : AEv := ⟨1, s_, s_, ver, 0, c, noRt15, noSl⟩
abbrev evN (kind n : Int) : AEv := ⟨kind, s_, s_, n, 0, noCfg, noRt15, noSl⟩
abbrev evNm (kind : Int) (name : ByteArray) : AEv := ⟨kind, name, s_, 0, 0, noCfg, noRt15, noSl⟩
theorem zmR {ver : Int} {c : Cfg} (hv : 0 ≤ ver ∧ ver ≤ 2147483647) (hc : specC c = 0) : chkEv (evC ver c) = 0 := by
 have hn : noneE (true, false, false, false, true, false, ()) (evC ver c) = true := by simp [noneE, bareE, noRt15]
 have hm : numE (evC ver c) = true := by
  simp only [numE, wiB]
  rw [if_pos (.inl trivial)]
  simp only [Bool.and_eq_true, decide_eq_true_eq]
  omega
 unfold chkEv
 have hp : shp 1 = ((true, false, false, false, true, false, ()), true) := rfl
 simp only [hp]
 rw [if_neg (by decide)]
 unfold chkS
 rw [hn, hm]
 simp [hc]
theorem znA {kind n : Int} (hk : kind = 5 ∨ kind = 6 ∨ kind = 7 ∨ kind = 8) (hv : 1 ≤ n ∧ n ≤ 2147483647) : chkEv (evN kind n) = 0 := by
 have hn : noneE (true, false, false, false, false, false, ()) (evN kind n) = true := by
  have : sameC noCfg noCfg = true := by decide
  simp [noneE, bareE, noRt15, this]
 have hm : numE (evN kind n) = true := by
  simp only [numE, wiB]
  rw [if_neg (by omega), if_neg (by omega)]
  simp only [Bool.and_eq_true, decide_eq_true_eq]
  omega
 have hp : shp kind = ((true, false, false, false, false, false, ()), true) := by rcases hk with rfl | rfl | rfl | rfl <;> rfl
 unfold chkEv
 simp only [hp]
 rw [if_neg (by decide)]
 unfold chkS
 rw [hn, hm]
 simp
theorem zgq : RevN zbW := ⟨s_web, 1, by decide, by decide, by decide, by decide +kernel⟩
abbrev cfgW (img conc min max grace : Int) : Cfg := (s_web, img, conc, min, max, grace, ())
theorem do_C {a : ASys} {ver : Int} {c : Cfg} (hv : 0 ≤ ver ∧ ver ≤ 2147483647) (hc : specC c = 0) (hm : mayC (tget a.sh.m c.1) ver true = 0) :
  sysDo a (evC ver c) = ({ a with sh := ⟨putC a.sh.m c.1 c (a.sh.n + 1), a.sh.r, a.sh.n + 1⟩ }, [lineB (lineB zdz [c.1]) [decD (a.sh.n + 1).toNat]]) := by
 rw [zfu (zmR hv hc) rfl]
 unfold sysConfig
 dsimp only
 rw [zmr hc hm]
 dsimp only
 unfold putB
 rw [if_pos rfl]
abbrev rdy1 (room line pat : Int) (c : Cfg) : ASys := { newSys room line pat with sh := ⟨[(s_web, thgOf c 1 1 true)], [], 1⟩ }
theorem zjf (h : St w0 E w) (i : Nat) {b : Nat} {a : ASys} {s : Seg} (hi : nth E i = some s) (hs : SysS b a s) {k : Int → PT} (hk : k a.fl.l.length w) : L.call Pr z3F [.pointer (some ⟨b, 0, none⟩)] (.one (.one (.int .i64))) k w := by
 obtain ⟨p, sg, sf, ss, sk, sr, sm, Q, R, rfl⟩ := hs
 refine z00 (z8G _) ?_
 unfold z5a
 have h := (h.front i hi).split8
 ((try dsimp only [setN, List.cons_append, List.nil_append] at h); repeat (first | refine nn ?_ | (refine dr h ?_; clear h; (try clear w); intro w h) | refine ldC h ?_ | refine laC h ?_ | refine ckC h ?_ | (refine stC h ?_; clear h; (try clear w); intro w h; (try dsimp only [putN, setN] at h)) | rw [z3H]))
 refine zm5 h 2 rfl R.fl ?_
 exact ⟨_, rfl, hk⟩
theorem zhG (h : St w0 E w) (i : Nat) {b : Nat} {a : ASys} {s : Seg} (hi : nth E i = some s) (hs : SysS b a s) {rev : ByteArray} {k : Int → PT} (hk : k (wantB a.by' rev) w) : L.call Pr z1M [.pointer (some ⟨b, 0, none⟩), .string rev] (.one (.one (.int .i64))) k w := by
 obtain ⟨p, sg, sf, ss, sk, sr, sm, Q, R, rfl⟩ := hs
 have h := (h.front i hi).split8
 rw [R.ab] at hk
 exact zeY h (i := 0) (j := 6) (l := 7) rfl rfl rfl R.mp hk
theorem zg0 (h : St w0 E w) (i : Nat) {b : Nat} {a : ASys} {s : Seg} (hi : nth E i = some s) (hs : SysS b a s) {rev : ByteArray} {k : Sl × Sl × Unit → PT}
  (hk : ∀ v1 v2 s1 s2 s' w', Rw eI z0i 1 v1 (gWait a.gt rev) s1 → Rw eI z0i 1 v2 (gWith a.gt.all rev) s2 → SysS b a s' → St w0 (s1 :: s2 :: setN E i s') w' → k (v1, v2, ()) w') :
  L.call Pr z2V [.pointer (some ⟨b, 0, none⟩), .string rev] (.tup [.one .slice, .one .slice]) k w := by
 obtain ⟨p, sg, sf, ss, sk, sr, sm, Q, R, rfl⟩ := hs
 refine z00 (z7w _ _) ?_
 unfold z4A
 have h := (h.front i hi).split8
 ((try dsimp only [setN, List.cons_append, List.nil_append] at h); repeat (first | refine nn ?_ | (refine dr h ?_; clear h; (try clear w); intro w h) | refine ldC h ?_ | refine laC h ?_ | refine ckC h ?_ | (refine stC h ?_; clear h; (try clear w); intro w h; (try dsimp only [putN, setN] at h)) | rw [z3H]))
 have h := fr1_ h
 refine zf1 h R.gt fun v1 v2 s1 s2 sg' w r1 r2 hG h => ?_
 refine ⟨(v1, v2, ()), rfl, hk v1 v2 s1 s2 _ w r1 r2 ⟨p, sg', sf, ss, sk, sr, sm, Q, ⟨hG, R.fl, R.sh, R.bk, R.ro, R.mp, R.ea, R.ab⟩, rfl⟩ ?_⟩
 have h := fr9_ (fr8_ (fr9_ (fr9_ (fr9_ (fr9_ (fr9_ (fr9_ (fr1_ (fr1_ h)))))))))
 exact St.back (E := s1 :: s2 :: E) (i + 2) hi h.glue8
end Go.Proofs.YtkmalcoocklikaaGreatDoor
namespace Go.Dm
def YldG (P : Program) (w0 : World) (G : Nat → List Seg → Prop) (A : List Seg) (fv : Value) (n : Nat) (arg : Nat → List Value) : Prop :=
 ∀ (yv : FV) (R : Value → PT) (J : Nat → List Seg → Prop) (Jd : World → Prop) (F : List Seg) (w : World), (∀ m F, J m F → G m F) → St w0 (A ++ F) w → J 0 F →
  (∀ m F X w, m < n → J m F → St w0 (A ++ (F ++ X)) w → FCall P yv.val (arg m) w fun v w' => (v = .bool true ∧ ∃ F', St w0 (A ++ (F' ++ X)) w' ∧ J (m + 1) F') ∨ (v = .bool false ∧ Jd w')) →
  (∀ F w, J n F → St w0 (A ++ F) w → R (.tuple #[]) w) → (∀ w, Jd w → R (.tuple #[]) w) → FFCall P fv [yv.val] w R
theorem ziw {P : Program} {w0 w : World} {G : Nat → List Seg → Prop} {A F : List Seg} {fv : Value} {n : Nat} {es : List E1} {arg : Nat → TT es} (hY : YldG P w0 G A fv n fun m => TV es (arg m)) (h : St w0 (A ++ F) w) {body : Nat → TT es → (Value → PT) → PT} {K : List Nat → Option Code → PT}
  (Inv : Nat → List Seg → Prop) (Ex : Code → List Seg → Prop) (h0 : Inv 0 F) (hG : ∀ m F s1 s2, Inv m F → G m (s1 :: s2 :: F))
  (hb : ∀ m F X w l lp d (R : Value → PT), m < n → Inv m F → St w0 ([Rec l lp .ready none] :: [DfM d] :: (A ++ (F ++ X))) w →
   (∀ F' w', Inv (m + 1) F' → St w0 ([Rec l lp .busy none] :: [DfM d] :: (A ++ (F' ++ X))) w' → L.endRound P l none R w') →
   (∀ j G w', Ex j G → St w0 ([Rec l lp .busy none] :: [DfM d] :: (G ++ X)) w' → L.endRound P l (some j) R w') → body l (arg m) R w)
  (hc : ∀ d F w, Inv n F → St w0 ([DfM d] :: (A ++ F)) w → K [d] none w)
  (he : ∀ d j G w, Ex j G → St w0 ([DfM d] :: G) w → K [d] (some j) w) : L.range P none fv es body K w := by
 refine rng h fun d l lp w h hy => ?_
 have h : St w0 (A ++ ([[Rec l lp .ready none], [DfM d]] ++ F)) w := St.toFront (G := A) (A := [[Rec l lp .ready none], [DfM d]]) h
 refine hY ⟨.yield l, #[], #[]⟩ _ (fun m G => ∃ F, G = [[Rec l lp .ready none], [DfM d]] ++ F ∧ Inv m F) (fun w => ∃ G j, St w0 ([Rec l lp .done (some j)] :: [DfM d] :: G) w ∧ Ex j G) _ w ?_ h ⟨F, rfl, h0⟩ ?_ ?_ ?_
 ·rintro m _ ⟨F, rfl, hi⟩
  exact hG m F _ _ hi
 ·rintro m G X w hm ⟨F, rfl, hi⟩ h
  have h : St w0 ([Rec l lp .ready none] :: [DfM d] :: (A ++ (F ++ X))) w := St.toFront (A := A) (G := [[Rec l lp .ready none], [DfM d]]) (F := F ++ X) h
  have hrec := (h.at 0 (b := (Rec l lp .ready none).1) (o := (Rec l lp .ready none).2) rfl).2
  refine hy (arg m) .ready none w _ hrec ?_
  refine hb m F X w l lp d _ hm hi h ?_ ?_
  ·intro F' w' hi' h'
   refine endN h' 0 rfl fun w h => .inl ⟨rfl, _, ?_, F', rfl, hi'⟩
   exact St.toFront (G := A) (A := [[Rec l lp .ready none], [DfM d]]) (F := F' ++ X) h
  ·intro j G w' hi' h'
   exact endJ h' 0 rfl fun w h => .inr ⟨rfl, G, j, St.cut (A := [Rec l lp .done (some j)] :: [DfM d] :: G) (X := X) h, hi'⟩
 ·rintro G w ⟨F, rfl, hi⟩ h
  refine endL h.toFront 0 rfl (by simp) fun w h => hc d F w hi h
 ·rintro w ⟨G, j, h, hi⟩
  refine endL h 0 rfl (by simp) fun w h => he d j G w hi h
end Go.Dm
namespace Go.Proofs.YtkmalcoocklikaaGreatDoor
open Go.Dm
attribute [local irreducible] L.load L.store L.chk L.new L.nonnil L.guard L.ite L.draw L.idx L.sem L.semR L.semU L.chkSem L.next L.call L.callV L.join L.alts L.loop L.begin L.endRound L.range
variable {w0 w : World} {E : List Seg}
abbrev fnB (c2 c1 : Nat) : Seg := [Cl c2 z3N [.func (.func z25) #[] #[], .func (.func z24) #[] #[], .func (.func z23) #[] #[.pointer (some ⟨c1, 0, none⟩)], .func (.func z22) #[] #[.pointer (some ⟨c1, 0, none⟩)]]]
theorem zlE {b c1 c2 c3 : Nat} {a : ASys} (hA : bkAll a.bk = []) :
  YldG Pr w0 (fun m F => m = 0 → ∃ i s, nth F i = some s ∧ SysS b a s) [[Cl c3 z07 [.slice (some ⟨c2, 0, none⟩) 4 4]], fnB c2 c1, [Cl c1 z06 [.pointer (some ⟨b, 0, none⟩)]]]
   (.func (.func z1Z) #[] #[.pointer (some ⟨c3, 0, none⟩), .pointer (some ⟨c1, 0, none⟩)]) 1 fun _ => TV [.agg evLs] ((evT0 9).t, ()) := by
 intro yv R J Jd F w hG h hJ step fin fin2
 refine ⟨z8a, z8i yv ⟨c3, 0, none⟩ ⟨c1, 0, none⟩ ?_⟩
 unfold z5R
 obtain ⟨i, s, hi, hs⟩ := hG 0 F hJ rfl
 have h : St w0 ([Cl c3 z07 [.slice (some ⟨c2, 0, none⟩) 4 4]] :: fnB c2 c1 :: [Cl c1 z06 [.pointer (some ⟨b, 0, none⟩)]] :: F) w := h
 (refine ldC h ?_)
 refine z0G (fun q y w => ∃ j : Nat, @Eq Int y.1 j ∧ q + j = 4 ∧ St w0 ([Cl c3 z07 [.slice (some ⟨c2, 0, none⟩) 4 4]] :: fnB c2 c1 :: [Cl c1 z06 [.pointer (some ⟨b, 0, none⟩)]] :: F) w) 4 ⟨0, rfl, rfl, h⟩ ?_
 clear h; (try clear w)
 rintro q ⟨y, ⟨⟩⟩ w ⟨j, hy, hq, h⟩ again hag
 (try dsimp only)
 simp only at hy
 subst hy
 refine it (fun hb => ?_) (fun hb => ?_) <;> (try simp only [zB] at hb)
 ·have hj : j < 4 := by omega
  have hv : ∃ f : FV, nth [Value.func (.func z25) #[] #[], .func (.func z24) #[] #[], .func (.func z23) #[] #[.pointer (some ⟨c1, 0, none⟩)], .func (.func z22) #[] #[.pointer (some ⟨c1, 0, none⟩)]] j = some f.val := by
   rcases j with _ | _ | _ | _ | j
   ·exact ⟨⟨_, _, _⟩, rfl⟩
   ·exact ⟨⟨_, _, _⟩, rfl⟩
   ·exact ⟨⟨_, _, _⟩, rfl⟩
   ·exact ⟨⟨_, _, _⟩, rfl⟩
   ·omega
  obtain ⟨f, hf⟩ := hv
  refine ix (by omega) (by omega) ?_
  have e : (⟨c2, 0, none⟩ : Addr).add ((j : Int).toNat * 1) = ⟨c2, j, none⟩ := by
   unfold Addr.add
   by_cases h0 : j = 0
   ·subst h0; rfl
   ·simp [h0]
  rw [e]
  refine ld h (l := .func) 1 rfl (x := f) hf ?_
  (refine ldC h ?_)
  refine z8S h (i + 3) hi hs fun v sv w r h => ?_
  have l2 := Rw.len encS r
  rw [hA] at l2
  refine z0G (fun q y w => @Eq Int y.1 0 ∧ St w0 (sv :: [Cl c3 z07 [.slice (some ⟨c2, 0, none⟩) 4 4]] :: fnB c2 c1 :: [Cl c1 z06 [.pointer (some ⟨b, 0, none⟩)]] :: F) w) 0 ⟨rfl, h⟩ ?_
  clear h; (try clear w)
  rintro q' ⟨y, ⟨⟩⟩ w ⟨hy, h⟩ again2 hag2
  (try dsimp only)
  simp only at hy
  subst hy
  refine itF (by rw [l2]; rfl) ?_
  refine hag (q - 1) _ w (by omega) ⟨j + 1, ?_, by omega, dl0_ h⟩
  show IntKind.wrap .i64 _ = _
  rw [wr (by omega) (by omega)]; omega
 ·have step := step 0 F [] w (by omega) hJ (by rw [List.append_nil]; exact h)
  refine cv (FCall.mono step fun u w' hu => ?_)
  rcases hu with ⟨rfl, F', h, hJ⟩ | ⟨rfl, hd⟩
  ·exact ⟨true, rfl, fin F' w' hJ (by rw [List.append_nil] at h; exact h)⟩
  ·exact ⟨false, rfl, fin2 w' hd⟩
theorem zf2 [bTab w0] {b : Nat} {a : ASys} {s : Seg} (h : St w0 (s :: E) w) (hs : SysS b a s) (hA : bkAll a.bk = []) (hnow : 0 ≤ a.now) (hwk : GWk a.gt) (htk : (tkG a).2 = []) (hby : a.by' = []) (hl : (sysTick a).2.length < 1000) {k : Sl → PT}
  (hbk : a.bk.all.length < 1000000) (hk : ∀ v sv w', Rw eS z01 1 v (sysTick a).2 sv → St w0 (sv :: E) w' → k v w') : L.call Pr z4R [.pointer (some ⟨b, 0, none⟩)] (.one (.one .slice)) k w := by
 refine z00 (zbf _) ?_
 unfold z86
 refine nw h ?_; clear h; (try clear w); intro b1 w h
 refine nw h ?_; clear h; (try clear w); intro b2 w h
 (refine ldC h ?_)
 refine z00 (zan _) ?_
 unfold z6Y
 refine nw h ?_; clear h; (try clear w); intro c1 w h
 refine nw h ?_; clear h; (try clear w); intro c2 w h
 refine nw h ?_; clear h; (try clear w); intro c3 w h
 (refine stC h ?_; clear h; (try clear w); intro w h; dsimp only [putN, setN] at h)
 refine ⟨⟨.func z1Z, #[], #[.pointer (some ⟨c3, 0, none⟩), .pointer (some ⟨c1, 0, none⟩)]⟩, rfl, ?_⟩
 have h : St w0 ([[Cl c3 z07 [.slice (some ⟨c2, 0, none⟩) 4 4]], fnB c2 c1, [Cl c1 z06 [.pointer (some ⟨b, 0, none⟩)]]] ++ ([] :: [Cl b2 z05 [.slice none 0 0]] :: [Cl b1 z06 [.pointer (some ⟨b, 0, none⟩)]] :: s :: E)) w := h.eq (by simp)
 have hY := zlE (w0 := w0) (b := b) (c1 := c1) (c2 := c2) (c3 := c3) hA
 refine ziw (es := [.agg evLs]) (arg := fun _ => ((evT0 9).t, ())) hY h
  (fun m F => ∃ v sv s', Rw eS z01 1 v (if m = 0 then [] else (sysTick a).2) sv ∧ (m = 0 → SysS b a s') ∧ F = sv :: [Cl b2 z05 [.slice v.a v.len v.cap]] :: [Cl b1 z06 [.pointer (some ⟨b, 0, none⟩)]] :: s' :: E)
  (fun _ _ => False) ⟨⟨none, 0, 0⟩, [], s, Rw.nil, fun _ => hs, rfl⟩ ?_ ?_ ?_ (fun _ _ _ _ hh => hh.elim)
 ·rintro m F s1 s2 ⟨v, sv, s', r, hs', rfl⟩ hm
  exact ⟨5, s', rfl, hs' hm⟩
 ·clear h; (try clear w)
  rintro m F X w l lp d R hm ⟨v, sv, s, r, hs, rfl⟩ h hn -
  have hm0 : m = 0 := by omega
  subst hm0
  rw [if_pos rfl] at r
  have hs := hs rfl
  (try dsimp only)
  refine nw h ?_; clear h; (try clear w); intro b10 w h
  have h : St w0 ([Cl b10 _ _] :: [Rec l lp .ready none] :: [DfM d] :: [Cl c3 z07 [.slice (some ⟨c2, 0, none⟩) 4 4]] :: fnB c2 c1 :: [Cl c1 z06 [.pointer (some ⟨b, 0, none⟩)]] :: sv :: [Cl b2 z05 [.slice v.a v.len v.cap]] :: [Cl b1 z06 [.pointer (some ⟨b, 0, none⟩)]] :: s :: (E ++ X)) w := h
  (refine stC h ?_; clear h; (try clear w); intro w h; (try dsimp only [putN, setN] at h))
  refine bgn h 1 rfl fun w h => ?_
  dsimp only [setN] at h
  (refine dr h ?_; clear h; (try clear w); intro w h; refine ldC h ?_; refine ldC h ?_; refine laC h ?_)
  refine zh0 h 9 rfl hs (e := evT0 9) rfl chk9 (fun _ _ => Rd.nil) (by decide) (by simp [noRt15]) hnow hwk (by rw [htk]; decide) (by rw [htk]; simp) (by rw [hA]; simp) (by rw [hby]; simp) hbk fun v3 s3 s' w r3 hs h => ?_
  dsimp only [setN] at h
  (refine ckC h ?_)
  refine Rw.appRd encS elS h 7 rfl r (Rw.rd encS h 0 rfl r3) (by simp only [List.length_nil]; omega) (by simp only [List.length_nil]; omega) fun v4 s4 w r4 _ _ h => ?_
  dsimp only [setN] at h
  (refine stC h ?_; clear h; (try clear w); intro w h; dsimp only [putN, setN] at h)
  refine hn (s4 :: [Cl b2 z05 [.slice v4.a v4.len v4.cap]] :: [Cl b1 z06 [.pointer (some ⟨b, 0, none⟩)]] :: s' :: E) w ⟨v4, s4, s', by simpa using r4, (by intro hh; omega), rfl⟩ ?_
  exact dl0_ (dl0_ h)
 ·clear h; (try clear w)
  rintro d F w ⟨v, sv, s', r, -, rfl⟩ h
  rw [if_neg (by decide)] at r
  refine jumpN ?_
  have h : St w0 ([DfM d] :: [Cl c3 z07 [.slice (some ⟨c2, 0, none⟩) 4 4]] :: fnB c2 c1 :: [Cl c1 z06 [.pointer (some ⟨b, 0, none⟩)]] :: sv :: [Cl b2 z05 [.slice v.a v.len v.cap]] :: [Cl b1 z06 [.pointer (some ⟨b, 0, none⟩)]] :: s' :: E) w := h
  (refine ldC h ?_)
  refine z9W h (Rw.rd encS h 4 rfl r) (by omega) (Rw.nil0 encS r) fun v' s2 w r2 hi h => ?_
  (first | refine um0_ h ?_ | refine um1_ h ?_ | refine um2_ h ?_ | refine um3_ h ?_ | refine um4_ h ?_ | refine um5_ h ?_ | refine um6_ h ?_ | refine um7_ h ?_ | refine um8_ h ?_ | refine um9_ h ?_ | refine z93 h ?_ | refine z92 h ?_); clear h; (try clear w); intro w h
  refine ⟨v', rfl, hk v' s2 w r2 ?_⟩
  have h := dl1_ (dl2_ (dl3_ (dl4_ (dl5_ (dl6_ (dl7_ h))))))
  exact h
theorem z6C {p0 p1 : Int} (h : 0 < p1) (hp : p1 ≤ 2147483648) {k : Int → PT} (hk : k (p0 % p1) w) : L.call Pr z19 [I p0, I p1] (.one (.one (.int .i64))) k w := by
 refine z00 (z8L p0 p1) ?_
 unfold z5f
 refine gd (by omega) ?_
 have h1 := Int.emod_nonneg p0 (by omega : p1 ≠ 0)
 have h2 := Int.emod_lt_of_pos p0 h
 have e := zfq p0 p1 h
 refine z1k (fun z w' => z.1 = p0 % p1 ∧ w' = w) (fun k' hk' => ?_) (fun y w' ⟨h1, h2⟩ => by subst h2; exact ⟨_, rfl, by rw [h1]; exact hk⟩)
 refine it (fun hb => ?_) (fun hb => ?_) <;> (try simp only [zB] at hb)
 ·refine hk' _ _ ⟨?_, rfl⟩
  rw [e] at hb
  dsimp only
  rw [e]
  split at hb <;> rename_i hc
  ·omega
  ·rw [if_neg hc, wr] <;> omega
 ·refine hk' _ _ ⟨?_, rfl⟩
  rw [e] at hb
  dsimp only
  rw [e]
  split at hb <;> rename_i hc
  ·rw [if_pos hc]
  ·omega
theorem zjj [bTab w0] (h : St w0 E w) {k : Bool → PT} (hk : ∀ w', St w0 E w' → k true w') : L.call Pr z3Y [] (.one (.one .bool)) k w := by
 refine z00 z9n ?_
 unfold z5T
 refine zgX h (fun hh => absurd hh (by decide)) fun _ b s w hs h => ?_
 refine itF rfl ?_
 have e1 : bkAll (newSys 1 0 1).bk = [] := by simp [newSys, bkAll, zie]
 have e2 : (sysTick (newSys 1 0 1)).2 = [s_tick_1] := by decide +kernel
 have e3 : (tkG (newSys 1 0 1)).2 = [] := by decide +kernel
 refine zf2 h hs e1 (by decide) (fun x hx => by cases hx) e3 rfl (by rw [e2]; decide) (by decide) fun v sv w r h => ?_
 rw [e2] at r
 have l2 := Rw.len encS r
 refine z00 (ze4 _ _) ?_
 unfold za4
 refine itF rfl ?_
 refine gd (by decide) ?_
 refine ⟨2, rfl, ?_⟩
 refine itT rfl ?_
 refine itT (by rw [l2]; rfl) ?_
 refine Rw.ix encS r (by decide) (by decide) fun a ha => ?_
 refine Rw.ld0 encS h 0 rfl r ha (x := s_tick_1) rfl rfl rfl ?_
 refine ⟨true, ?_, hk w (dl0_ h)⟩
 show Value.bool (s_tick_1.toList == s_tick_1.toList) = Value.bool true
 rw [beq_self_eq_true]
theorem elEv : El Pr z2H z0p 15 176 (.agg #[I 0, .string s_, .string s_, I 0, I 0, .string s_, I 0, I 0, I 0, I 0, I 0, .string s_, .string s_, .slice none 0 0, I 0]) := zfV (by kernel_rfl) (by kernel_rfl) rfl (by decide)
theorem zaN (h : St w0 E w) (i : Nat) {b : Nat} {a : ASys} {s : Seg} (hi : nth E i = some s) (hs : SysS b a s) {rev : ByteArray} {k : Sl → PT} (hk : ∀ v sv w', Rw eK z0N 3 v (fPods a.fl.l rev) sv → St w0 (sv :: E) w' → k v w') : L.call Pr z1p [.pointer (some ⟨b, 0, none⟩), .string rev] (.one (.one .slice)) k w := by
 obtain ⟨p, sg, sf, ss, sk, sr, sm, Q, R, rfl⟩ := hs
 refine z00 (z5i _ _) ?_
 unfold z3J
 have h := (h.front i hi).split8
 (refine nn ?_; refine ldC h ?_)
 refine zjm h 2 rfl R.fl fun v s w hr h => ⟨v, rfl, hk v s w hr ?_⟩
 have h := fr8_ (fr8_ (fr8_ (fr8_ (fr8_ (fr8_ (fr8_ (fr8_ h)))))))
 have h := h.glue8
 exact St.again (i + 1) (E := s :: E) hi h
def upEvs (l : List (Int × Int × Int)) : List AEv := (l.filter fun x => x.2.1 == 1).map fun x => evN 6 x.1
def doneEvs (l : List Int) : List AEv := l.map fun q => evN 5 q
theorem ziV {α : Type} {p : α → Bool} {l : List α} {j : Nat} {x : α} (h : l[j]? = some x) : (l.take (j + 1)).filter p = (l.take j).filter p ++ (if p x = true then [x] else []) := by
 rw [List.take_add_one, h, List.filter_append]
 congr 1
 by_cases hp : p x = true <;> simp [hp]
theorem znB (h : St w0 E w) (i : Nat) {b : Nat} {a : ASys} {s : Seg} (hi : nth E i = some s) (hs : SysS b a s) {rev : ByteArray} (hn : (fPods a.fl.l rev).length < 1000000) {k : Sl → PT} (hk : ∀ v sv w', Rw eEv z0p 15 v (upEvs (fPods a.fl.l rev)) sv → St w0 (sv :: E) w' → k v w') :
  L.call Pr zaC [.pointer (some ⟨b, 0, none⟩), .string rev] (.one (.one .slice)) k w := by
 refine z00 (zhW _ _) ?_
 unfold zdm
 refine zaN h i hi hs fun v sv w r h => ?_
 generalize fPods a.fl.l rev = l at *
 have hlen := Rw.len encK r
 refine z0G (fun q y w => ∃ (j : Nat) (vv : Sl) (s2 : Seg), y = (vv, (j : Int), ()) ∧ q + j = l.length ∧ Rw eEv z0p 15 vv (upEvs (l.take j)) s2 ∧ St w0 (s2 :: sv :: E) w) l.length ⟨0, ⟨none, 0, 0⟩, [], rfl, rfl, Rw.nil, h.eq (by simp)⟩ ?_
 clear h; (try clear w)
 rintro q y w ⟨j, vv, s2, rfl, hq, r2, h⟩ again hag
 (try dsimp only)
 refine it (fun hc => ?_) (fun hc => ?_) <;> (try simp only [zB] at hc)
 ·have hj : j < l.length := by omega
  have hx : l[j]? = some l[j] := List.getElem?_eq_getElem hj
  have hf := ziV (p := fun x : Int × Int × Int => x.2.1 == 1) hx
  generalize l[j] = x at hx hf
  refine z1k (fun z w => ∃ (vv : Sl) (s2 : Seg), z = (vv, ()) ∧ Rw eEv z0p 15 vv (upEvs (l.take (j + 1))) s2 ∧ St w0 (s2 :: sv :: E) w) (fun k4 hk4 => ?_) ?_
  ·refine Rw.ix encK r (by omega) (by simpa using hj) fun a6 ha => ?_
   simp only [Int.toNat_natCast] at ha
   refine Rw.lda encK h 1 rfl r ha hx (y := (x.1, x.2.1, x.2.2, ())) rfl ?_
   refine nw h ?_; clear h; (try clear w); intro b8 w h
   (refine stC h ?_; clear h; (try clear w); intro w h; dsimp only [putN, setN] at h; refine ldC h ?_)
   refine it (fun hd => ?_) (fun hd => ?_) <;> (try simp only [zB] at hd)
   ·(refine ldC h ?_)
    refine nw h ?_; clear h; (try clear w); intro b11 w h
    have ll : (upEvs (l.take j)).length ≤ 1000000 := by
     unfold upEvs
     rw [List.length_map]
     have := List.length_filter_le (fun x : Int × Int × Int => x.2.1 == 1) (l.take j)
     rw [List.length_take] at this
     omega
    refine Rw.app (l := upEvs (l.take j)) encEv elEv h 1 rfl r2 (evN 6 x.1) rfl (by omega) (by omega) fun v' s' w r3 h => ?_
    dsimp only [setN] at h
    refine hk4 _ w ⟨v', s', rfl, ?_, dl0_ h⟩
    have e : upEvs (l.take (j + 1)) = upEvs (l.take j) ++ [evN 6 x.1] := by
     unfold upEvs
     rw [hf, if_pos (by simpa using hd)]
     simp
    rw [e]; exact r3
   ·refine hk4 _ w ⟨vv, s2, rfl, ?_, dl0_ h⟩
    have e : upEvs (l.take (j + 1)) = upEvs (l.take j) := by
     unfold upEvs
     rw [hf, if_neg (by simpa using hd), List.append_nil]
    rw [e]; exact r2
  ·clear h r2
   rintro z w ⟨vv, s2, rfl, r2, h⟩
   (try dsimp only)
   refine hag (q - 1) _ w (by omega) ⟨j + 1, vv, s2, ?_, by omega, r2, h⟩
   rw [wr (by omega) (by omega)]; congr 1
 ·have e : l.take j = l := List.take_of_length_le (by omega)
  rw [e] at r2
  exact ⟨vv, rfl, hk vv s2 w r2 (dl1_ h)⟩
theorem zm7 (h : St w0 E w) (i : Nat) {b : Nat} {a : ASys} {s : Seg} (hi : nth E i = some s) (hs : SysS b a s) {rev : ByteArray} (hn : (gWith a.gt.all rev).length < 100000000) {k : Sl → PT} (hk : ∀ v sv s' w', Rw eEv z0p 15 v (doneEvs (gWith a.gt.all rev)) sv → SysS b a s' → St w0 (sv :: setN E i s') w' → k v w') :
  L.call Pr z7I [.pointer (some ⟨b, 0, none⟩), .string rev] (.one (.one .slice)) k w := by
 refine z00 (zfj _ _) ?_
 unfold zbc
 refine zg0 h i hi hs fun v1 v2 s1 s2 s' w r1 r hs h => ?_
 generalize gWith a.gt.all rev = l at *
 have h := dl0_ h
 have hlen := Rw.len encI r
 refine z0G (fun q y w => ∃ (j : Nat) (vv : Sl) (s3 : Seg), y = (vv, (j : Int), ()) ∧ q + j = l.length ∧ Rw eEv z0p 15 vv (doneEvs (l.take j)) s3 ∧ St w0 (s3 :: s2 :: setN E i s') w) l.length ⟨0, ⟨none, 0, 0⟩, [], rfl, rfl, Rw.nil, h.eq (by simp)⟩ ?_
 clear h; (try clear w)
 rintro q y w ⟨j, vv, s3, rfl, hq, r2, h⟩ again hag
 (try dsimp only)
 refine it (fun hc => ?_) (fun hc => ?_) <;> (try simp only [zB] at hc)
 ·have hj : j < l.length := by omega
  have hx : l[j]? = some l[j] := List.getElem?_eq_getElem hj
  have ht : l.take (j + 1) = l.take j ++ [l[j]] := by rw [List.take_add_one, hx]; rfl
  generalize l[j] = x at hx ht
  refine Rw.ix encI r (by omega) (by simpa using hj) fun a4 ha => ?_
  simp only [Int.toNat_natCast] at ha
  refine Rw.ld0 encI h 1 rfl r ha (x := x) hx rfl rfl ?_
  refine nw h ?_; clear h; (try clear w); intro b6 w h
  refine Rw.app (l := doneEvs (l.take j)) encEv elEv h 0 rfl r2 (evN 5 x) rfl (by unfold doneEvs; rw [List.length_map, List.length_take]; omega) (by unfold doneEvs; rw [List.length_map, List.length_take]; omega) fun v' s' w r3 h => ?_
  dsimp only [setN] at h
  refine hag (q - 1) _ w (by omega) ⟨j + 1, v', s', ?_, by omega, ?_, h⟩
  ·rw [wr (by omega) (by omega)]; congr 1
  ·have e : doneEvs (l.take (j + 1)) = doneEvs (l.take j) ++ [evN 5 x] := by unfold doneEvs; rw [ht]; simp
   rw [e]; exact r3
 ·have e : l.take j = l := List.take_of_length_le (by omega)
  rw [e] at r2
  exact ⟨vv, rfl, hk vv s3 s' w r2 hs (dl1_ h)⟩
def revEvs (k : Nat) (a : ASys) (rev : ByteArray) : List AEv :=
 if k = 0 then [evNm 12 rev] else if k = 1 then [evNm 13 rev] else if k = 2 then upEvs (fPods a.fl.l rev) else doneEvs (gWith a.gt.all rev)
def seqRev (k : Nat) : ASys → List ByteArray → List AEv
 | _, [] => []
 | a, r :: rs => revEvs k a r ++ seqRev k (sysRun a (revEvs k a r)) rs
def seqStep : List Nat → ASys → List AEv
 | [], _ => []
 | k :: ks, a => seqRev k a (bkAll a.bk) ++ seqStep ks (sysRun a (seqRev k a (bkAll a.bk)))
def rdEvs (a : ASys) : List AEv := seqStep [0, 1, 2, 3] a ++ [evT0 9]
theorem z8o (a : ASys) (l m : List AEv) : sysRun a (l ++ m) = sysRun (sysRun a l) m := by unfold sysRun; rw [List.foldl_append]
structure FewR (a : ASys) : Prop where
 bk : (bkAll a.bk).length < 1000000
 ins : ∀ rev, (fPods a.fl.l rev).length < 1000000 ∧ (gWith a.gt.all rev).length < 100000000
theorem FewR.rev {a : ASys} (h : FewR a) (k : Nat) (rev : ByteArray) : (revEvs k a rev).length < 1000000000 := by
 obtain ⟨h1, h2⟩ := h.ins rev
 unfold revEvs
 split
 ·simp
 split
 ·simp
 split
 ·unfold upEvs
  rw [List.length_map]
  have := List.length_filter_le (fun x : Int × Int × Int => x.2.1 == 1) (fPods a.fl.l rev)
  omega
 ·unfold doneEvs
  rw [List.length_map]
  omega
theorem FewR.of_inv {k : Nat} {a : ASys} (inv : SInv k a) (hk : k ≤ 9000) : FewR a := by
 refine ⟨?_, fun rev => ⟨?_, ?_⟩⟩
 ·unfold bkAll
  rw [z6q, List.length_map]
  have := inv.bk.len; omega
 ·unfold fPods revs
  rw [List.length_map]
  have := List.length_filter_le (fun x : AHeld => decide (x.rev = rev)) a.fl.l
  have h2 := inv.fl.few.l20
  exact Nat.lt_of_le_of_lt (Nat.le_trans (List.length_filter_le ..) h2) (by decide)
 ·unfold gWith
  rw [z7L, List.length_map]
  have h2 := inv.gt.all
  exact Nat.lt_of_le_of_lt (List.length_filter_le ..) (by omega)
def YldS (w0 : World) (b : Nat) (am : Nat → ASys) (A : List Seg) (fv : Value) (n : Nat) (arg : Nat → List Value) : Prop :=
 ∀ (yv : FV) (R : Value → PT) (J : Nat → List Seg → Prop) (Jd : World → Prop) (F : List Seg) (w : World), (∀ m F, J m F → FewR (am m) ∧ ∃ i s, nth F i = some s ∧ SysS b (am m) s ∧ ∀ s', SysS b (am m) s' → J m (setN F i s')) → St w0 (A ++ F) w → J 0 F →
  (∀ m F X w, m < n → J m F → St w0 (A ++ (F ++ X)) w → FCall Pr yv.val (arg m) w fun v w' => (v = .bool true ∧ ∃ F', St w0 (A ++ (F' ++ X)) w' ∧ J (m + 1) F') ∨ (v = .bool false ∧ Jd w')) →
  (∀ F w, J n F → St w0 (A ++ F) w → R (.tuple #[]) w) → (∀ w, Jd w → R (.tuple #[]) w) → FFCall Pr fv [yv.val] w R
theorem ziv {b : Nat} {am : Nat → ASys} {A F : List Seg} {fv : Value} {n : Nat} {es : List E1} {arg : Nat → TT es} (hY : YldS w0 b am A fv n fun m => TV es (arg m)) (h : St w0 (A ++ F) w) {body : Nat → TT es → (Value → PT) → PT} {K : List Nat → Option Code → PT}
  (Inv : Nat → List Seg → Prop) (h0 : Inv 0 F) (hG : ∀ m F, Inv m F → FewR (am m) ∧ ∃ i s, nth F i = some s ∧ SysS b (am m) s ∧ ∀ s', SysS b (am m) s' → Inv m (setN F i s'))
  (hb : ∀ m F X w l lp d (R : Value → PT), m < n → Inv m F → St w0 ([Rec l lp .ready none] :: [DfM d] :: (A ++ (F ++ X))) w →
   (∀ F' w', Inv (m + 1) F' → St w0 ([Rec l lp .busy none] :: [DfM d] :: (A ++ (F' ++ X))) w' → L.endRound Pr l none R w') → body l (arg m) R w)
  (hc : ∀ d F w, Inv n F → St w0 ([DfM d] :: (A ++ F)) w → K [d] none w) : L.range Pr none fv es body K w := by
 refine rng h fun d l lp w h hy => ?_
 have h : St w0 (A ++ ([[Rec l lp .ready none], [DfM d]] ++ F)) w := St.toFront (G := A) (A := [[Rec l lp .ready none], [DfM d]]) h
 refine hY ⟨.yield l, #[], #[]⟩ _ (fun m G => ∃ F, G = [[Rec l lp .ready none], [DfM d]] ++ F ∧ Inv m F) (fun w => False) _ w ?_ h ⟨F, rfl, h0⟩ ?_ ?_ (fun _ hh => hh.elim)
 ·rintro m _ ⟨F, rfl, hi⟩
  obtain ⟨hw, i, s, h1, h2, h3⟩ := hG m F hi
  exact ⟨hw, i + 2, s, h1, h2, fun s' hs' => ⟨setN F i s', rfl, h3 s' hs'⟩⟩
 ·rintro m G X w hm ⟨F, rfl, hi⟩ h
  have h : St w0 ([Rec l lp .ready none] :: [DfM d] :: (A ++ (F ++ X))) w := St.toFront (A := A) (G := [[Rec l lp .ready none], [DfM d]]) (F := F ++ X) h
  have hrec := (h.at 0 (b := (Rec l lp .ready none).1) (o := (Rec l lp .ready none).2) rfl).2
  refine hy (arg m) .ready none w _ hrec ?_
  refine hb m F X w l lp d _ hm hi h ?_
  intro F' w' hi' h'
  refine endN h' 0 rfl fun w h => .inl ⟨rfl, _, ?_, F', rfl, hi'⟩
  exact St.toFront (G := A) (A := [[Rec l lp .ready none], [DfM d]]) (F := F' ++ X) h
 ·rintro G w ⟨F, rfl, hi⟩ h
  refine endL h.toFront 0 rfl (by simp) fun w h => hc d F w hi h
theorem zlI (h : St w0 E w) (i : Nat) {b : Nat} {a : ASys} {s : Seg} (hi : nth E i = some s) (hs : SysS b a s) {c1 ic : Nat} (hc : nth E ic = some [Cl c1 z06 [.pointer (some ⟨b, 0, none⟩)]]) {j : Nat} {f : FV}
  (hf : nth [Value.func (.func z25) #[] #[], .func (.func z24) #[] #[], .func (.func z23) #[] #[.pointer (some ⟨c1, 0, none⟩)], .func (.func z22) #[] #[.pointer (some ⟨c1, 0, none⟩)]] j = some f.val) {rev : ByteArray}
  (hn : (fPods a.fl.l rev).length < 1000000 ∧ (gWith a.gt.all rev).length < 100000000) {k : Sl → PT} (hk : ∀ v sv s' w', Rw eEv z0p 15 v (revEvs j a rev) sv → SysS b a s' → St w0 (sv :: setN E i s') w' → k v w') :
  L.callV Pr (.func f.fn f.fs f.cs) [.string rev] (.one (.one .slice)) k w := by
 obtain ⟨fn, fs, cs⟩ := f
 rcases j with _ | _ | _ | _ | j
 ·cases hf
  refine z3U (fs := #[]) (cs := #[]) zcu (zcE rev) ?_
  unfold z84
  refine nw h ?_; clear h; (try clear w); intro b1 w h
  refine ⟨⟨some ⟨b1, 0, none⟩, 1, 1⟩, rfl, hk _ _ s w (Rw.lit b1 [evNm 12 rev] encEv rfl rfl (by decide)) hs ?_⟩
  rw [z1F hi]
  exact h
 ·cases hf
  refine z3U (fs := #[]) (cs := #[]) zct (zcD rev) ?_
  unfold z83
  refine nw h ?_; clear h; (try clear w); intro b1 w h
  refine ⟨⟨some ⟨b1, 0, none⟩, 1, 1⟩, rfl, hk _ _ s w (Rw.lit b1 [evNm 13 rev] encEv rfl rfl (by decide)) hs ?_⟩
  rw [z1F hi]
  exact h
 ·cases hf
  refine z3U (fs := #[]) (cs := #[.pointer (some ⟨c1, 0, none⟩)]) zcs (zcC rev ⟨c1, 0, none⟩) ?_
  unfold z82
  refine ldx h ic hc (v := .pointer (some ⟨b, 0, none⟩)) rfl rfl ?_
  refine znB h i hi hs hn.1 fun v sv w r h => ?_
  refine ⟨v, rfl, hk v sv s w r hs ?_⟩
  rw [z1F hi]
  exact h
 ·cases hf
  refine z3U (fs := #[]) (cs := #[.pointer (some ⟨c1, 0, none⟩)]) zcr (zcB rev ⟨c1, 0, none⟩) ?_
  unfold z81
  refine ldx h ic hc (v := .pointer (some ⟨b, 0, none⟩)) rfl rfl ?_
  refine zm7 h i hi hs hn.2 fun v sv s' w r hs h => ?_
  exact ⟨v, rfl, hk v sv s' w r hs h⟩
 ·cases hf
abbrev frA (b c1 c2 c3 : Nat) : List Seg := [[Cl c3 z07 [.slice (some ⟨c2, 0, none⟩) 4 4]], fnB c2 c1, [Cl c1 z06 [.pointer (some ⟨b, 0, none⟩)]]]
theorem zmT {b c1 c2 c3 : Nat} {a : ASys} :
  YldS w0 b (fun m => sysRun a ((rdEvs a).take m)) (frA b c1 c2 c3) (.func (.func z1Z) #[] #[.pointer (some ⟨c3, 0, none⟩), .pointer (some ⟨c1, 0, none⟩)]) (rdEvs a).length fun m => TV [.agg evLs] (((rdEvs a)[m]?.getD (evT0 9)).t, ()) := by
 intro yv R J Jd F w hG h hJ step fin fin2
 have amE : ∀ pre more, rdEvs a = pre ++ more → (rdEvs a).take pre.length = pre := fun pre more e => by rw [e, List.take_left]
 have hG : ∀ pre more F, rdEvs a = pre ++ more → J pre.length F → FewR (sysRun a pre) ∧ ∃ i s, nth F i = some s ∧ SysS b (sysRun a pre) s ∧ ∀ s', SysS b (sysRun a pre) s' → J pre.length (setN F i s') := fun pre more F e hJ => by
  have := hG _ _ hJ
  dsimp only at this
  rwa [amE pre more e] at this
 have step : ∀ pre e more F X w, rdEvs a = pre ++ e :: more → J pre.length F → St w0 (frA b c1 c2 c3 ++ (F ++ X)) w → FCall Pr yv.val [evV e] w fun v w' => (v = .bool true ∧ ∃ F', St w0 (frA b c1 c2 c3 ++ (F' ++ X)) w' ∧ J (pre ++ [e]).length F') ∨ (v = .bool false ∧ Jd w') := fun pre e more F X w he hJ h => by
  have := step pre.length F X w (by rw [he]; simp) hJ h
  have e1 : (rdEvs a)[pre.length]? = some e := by rw [he]; simp
  dsimp only at this
  rw [e1] at this
  rw [List.length_append]
  exact this
 refine ⟨z8a, z8i yv ⟨c3, 0, none⟩ ⟨c1, 0, none⟩ ?_⟩
 unfold z5R
 have h : St w0 ([Cl c3 z07 [.slice (some ⟨c2, 0, none⟩) 4 4]] :: fnB c2 c1 :: [Cl c1 z06 [.pointer (some ⟨b, 0, none⟩)]] :: F) w := h
 (refine ldC h ?_)
 refine z0G (fun q y w => ∃ (j : Nat) (pre : List AEv) (F : List Seg), @Eq Int y.1 j ∧ q + j = 4 ∧ rdEvs a = pre ++ (seqStep ([0, 1, 2, 3].drop j) (sysRun a pre) ++ [evT0 9]) ∧ J pre.length F ∧ St w0 ([Cl c3 z07 [.slice (some ⟨c2, 0, none⟩) 4 4]] :: fnB c2 c1 :: [Cl c1 z06 [.pointer (some ⟨b, 0, none⟩)]] :: F) w) 4 ⟨0, [], F, rfl, rfl, rfl, hJ, h⟩ ?_
 clear hJ
 clear h; (try clear w)
 rintro q ⟨y, ⟨⟩⟩ w ⟨j, pre, F, hy, hq, hT, hJ, h⟩ again hag
 (try dsimp only)
 simp only at hy
 subst hy
 refine it (fun hb => ?_) (fun hb => ?_) <;> (try simp only [zB] at hb)
 ·have hj : j < 4 := by omega
  obtain ⟨f, hf⟩ : ∃ f : FV, nth [Value.func (.func z25) #[] #[], .func (.func z24) #[] #[], .func (.func z23) #[] #[.pointer (some ⟨c1, 0, none⟩)], .func (.func z22) #[] #[.pointer (some ⟨c1, 0, none⟩)]] j = some f.val := by
   rcases j with _ | _ | _ | _ | j
   ·exact ⟨⟨_, _, _⟩, rfl⟩
   ·exact ⟨⟨_, _, _⟩, rfl⟩
   ·exact ⟨⟨_, _, _⟩, rfl⟩
   ·exact ⟨⟨_, _, _⟩, rfl⟩
   ·omega
  have hd : [0, 1, 2, 3].drop j = j :: [0, 1, 2, 3].drop (j + 1) := by
   rcases j with _ | _ | _ | _ | j
   ·rfl
   ·rfl
   ·rfl
   ·rfl
   ·omega
  refine ix (by omega) (by omega) ?_
  have e : (⟨c2, 0, none⟩ : Addr).add ((j : Int).toNat * 1) = ⟨c2, j, none⟩ := by
   unfold Addr.add
   by_cases h0 : j = 0
   ·subst h0; rfl
   ·simp [h0]
  rw [e]
  refine ld h (l := .func) 1 rfl (x := f) hf ?_
  (refine ldC h ?_)
  obtain ⟨hfw, i, s, hi, hs, -⟩ := hG pre _ F hT hJ
  refine z8S h (i + 3) hi hs fun v sv w r h => ?_
  clear hs hi
  have hbl := hfw.bk
  rw [hd] at hT
  have hT : rdEvs a = pre ++ (seqRev j (sysRun a pre) (bkAll (sysRun a pre).bk) ++ (seqStep ([0, 1, 2, 3].drop (j + 1)) (sysRun (sysRun a pre) (seqRev j (sysRun a pre) (bkAll (sysRun a pre).bk))) ++ [evT0 9])) := by
   rw [hT]; simp [seqStep]
  generalize bkAll (sysRun a pre).bk = revs at *
  obtain ⟨SS, hSS⟩ : ∃ SS, SS = sysRun (sysRun a pre) (seqRev j (sysRun a pre) revs) := ⟨_, rfl⟩
  rw [← hSS] at hT
  obtain ⟨rest2, hrest⟩ : ∃ rest2, rest2 = seqStep ([0, 1, 2, 3].drop (j + 1)) SS ++ [evT0 9] := ⟨_, rfl⟩
  rw [← hrest] at hT
  have hlen := Rw.len encS r
  refine z0G (fun q y w => ∃ (n : Nat) (pre : List AEv) (F : List Seg), @Eq Int y.1 n ∧ q + n = revs.length ∧ rdEvs a = pre ++ (seqRev j (sysRun a pre) (revs.drop n) ++ rest2) ∧ SS = sysRun (sysRun a pre) (seqRev j (sysRun a pre) (revs.drop n)) ∧ J pre.length F ∧
   St w0 (sv :: [Cl c3 z07 [.slice (some ⟨c2, 0, none⟩) 4 4]] :: fnB c2 c1 :: [Cl c1 z06 [.pointer (some ⟨b, 0, none⟩)]] :: F) w) revs.length ⟨0, pre, F, rfl, rfl, hT, hSS, hJ, h⟩ ?_
  clear hT hSS hJ
  clear h; (try clear w)
  rintro q2 ⟨y, ⟨⟩⟩ w ⟨n, pre, F, hy, hq2, hT, hSS, hJ, h⟩ again2 hag2
  (try dsimp only)
  simp only at hy
  subst hy
  refine it (fun hc => ?_) (fun hc => ?_) <;> (try simp only [zB] at hc)
  ·have hn : n < revs.length := by omega
   have hx : revs[n]? = some revs[n] := List.getElem?_eq_getElem hn
   have hdr : revs.drop n = revs[n] :: revs.drop (n + 1) := List.drop_eq_getElem_cons hn
   generalize revs[n] = rev at hx hdr
   refine Rw.ix encS r (by omega) (by simpa using hn) fun a10 ha => ?_
   simp only [Int.toNat_natCast] at ha
   refine Rw.ld0 encS h 0 rfl r ha (x := rev) hx rfl rfl ?_
   obtain ⟨hfw, i, s, hi, hs, hcl⟩ := hG pre _ F hT hJ
   refine zlI h (i + 4) hi hs (ic := 3) rfl hf (hfw.ins rev) fun v2 sv2 s' w r2 hs h => ?_
   have hJ := hcl s' hs
   clear hcl
   have h : St w0 (sv2 :: sv :: [Cl c3 z07 [.slice (some ⟨c2, 0, none⟩) 4 4]] :: fnB c2 c1 :: [Cl c1 z06 [.pointer (some ⟨b, 0, none⟩)]] :: setN F i s') w := h
   generalize setN F i s' = F at *
   clear hs hi
   have hT : rdEvs a = pre ++ (revEvs j (sysRun a pre) rev ++ (seqRev j (sysRun (sysRun a pre) (revEvs j (sysRun a pre) rev)) (revs.drop (n + 1)) ++ rest2)) := by rw [hT, hdr]; simp [seqRev]
   have hSS : SS = sysRun (sysRun (sysRun a pre) (revEvs j (sysRun a pre) rev)) (seqRev j (sysRun (sysRun a pre) (revEvs j (sysRun a pre) rev)) (revs.drop (n + 1))) := by rw [hSS, hdr, seqRev, z8o]
   have hll := hfw.rev j rev
   generalize revEvs j (sysRun a pre) rev = l at *
   obtain ⟨S3, hS3⟩ : ∃ S3, S3 = sysRun (sysRun a pre) l := ⟨_, rfl⟩
   rw [← hS3] at hT hSS
   have hlen2 := Rw.len encEv r2
   refine z0G (fun q y w => ∃ (t : Nat) (pre : List AEv) (F : List Seg), @Eq Int y.1 t ∧ q + t = l.length ∧ rdEvs a = pre ++ (l.drop t ++ (seqRev j S3 (revs.drop (n + 1)) ++ rest2)) ∧ S3 = sysRun (sysRun a pre) (l.drop t) ∧ J pre.length F ∧
    St w0 (sv2 :: sv :: [Cl c3 z07 [.slice (some ⟨c2, 0, none⟩) 4 4]] :: fnB c2 c1 :: [Cl c1 z06 [.pointer (some ⟨b, 0, none⟩)]] :: F) w) l.length ⟨0, pre, F, rfl, rfl, hT, hS3, hJ, h⟩ ?_
   clear hT hS3 hJ
   clear h; (try clear w)
   rintro q3 ⟨y, ⟨⟩⟩ w ⟨t, pre, F, hy, hq3, hT, hS3, hJ, h⟩ again3 hag3
   (try dsimp only)
   simp only at hy
   subst hy
   refine it (fun hc2 => ?_) (fun hc2 => ?_) <;> (try simp only [zB] at hc2)
   ·have ht : t < l.length := by omega
    have hx : l[t]? = some l[t] := List.getElem?_eq_getElem ht
    have hdr : l.drop t = l[t] :: l.drop (t + 1) := List.drop_eq_getElem_cons ht
    generalize l[t] = e at hx hdr
    rw [hdr] at hT hS3
    refine Rw.ix encEv r2 (by omega) (by simpa using ht) fun a15 ha => ?_
    simp only [Int.toNat_natCast] at ha
    refine Rw.lda encEv h 0 rfl r2 ha hx (y := e.t) rfl ?_
    refine nw h ?_; clear h; (try clear w); intro b17 w h
    (refine stC h ?_; clear h; (try clear w); intro w h; dsimp only [putN, setN] at h; refine laC h ?_)
    have step := step pre e _ F [[Cl b17 z0p (eEv e)], sv2, sv] w hT hJ (St.toEnd (X := [[Cl b17 z0p (eEv e)], sv2, sv]) (A := [_, _, _]) h)
    refine cv (FCall.mono step fun u w' hu => ?_)
    rcases hu with ⟨rfl, F', h, hJ⟩ | ⟨rfl, hd⟩
    ·refine ⟨true, rfl, itF rfl ?_⟩
     have h := St.ofEnd (X := [[Cl b17 z0p (eEv e)], sv2, sv]) (A := [_, _, _]) h
     refine hag3 (q3 - 1) _ w' (by omega) ⟨t + 1, pre ++ [e], F', ?_, by omega, by rw [hT]; simp, ?_, hJ, dl0_ h⟩
     ·show IntKind.wrap .i64 _ = _
      rw [wr (by omega) (by omega)]; omega
     ·rw [hS3, z8o]; rfl
    ·exact ⟨false, rfl, itT rfl (fin2 w' hd)⟩
   ·have et : l.drop t = [] := List.drop_eq_nil_of_le (by omega)
    rw [et] at hT hS3
    refine hag2 (q2 - 1) _ w (by omega) ⟨n + 1, pre, F, ?_, by omega, ?_, ?_, hJ, dl0_ h⟩
    ·show IntKind.wrap .i64 _ = _
     rw [wr (by omega) (by omega)]; omega
    ·rw [hT, hS3, z8n]; simp
    ·rw [hSS, hS3, z8n]
  ·have et : revs.drop n = [] := List.drop_eq_nil_of_le (by omega)
   rw [et] at hT hSS
   refine hag (q - 1) _ w (by omega) ⟨j + 1, pre, F, ?_, by omega, ?_, hJ, dl0_ h⟩
   ·show IntKind.wrap .i64 _ = _
    rw [wr (by omega) (by omega)]; omega
   ·rw [hT, hrest, hSS]; simp [seqRev, z8n]
 ·have ed : [0, 1, 2, 3].drop j = [] := List.drop_eq_nil_of_le (by simp; omega)
  rw [ed] at hT
  have hT : rdEvs a = pre ++ evT0 9 :: [] := by rw [hT]; simp [seqStep]
  have step := step pre (evT0 9) [] F [] w hT hJ (by rw [List.append_nil]; exact h)
  refine cv (FCall.mono step fun u w' hu => ?_)
  rcases hu with ⟨rfl, F', h, hJ⟩ | ⟨rfl, hd⟩
  ·refine ⟨true, rfl, fin F' w' ?_ (by rw [List.append_nil] at h; exact h)⟩
   rw [hT]; exact hJ
  ·exact ⟨false, rfl, fin2 w' hd⟩
theorem z6L : ∀ (a : ASys) (l m : List AEv), sysOuts a (l ++ m) = sysOuts a l ++ sysOuts (sysRun a l) m
 | _, [], _ => rfl
 | a, e :: l, m => by
  rw [List.cons_append, z4O, z6L, z4O, z5u]; rfl
def rnd (a : ASys) : ASys := sysRun a (rdEvs a)
def rndOut (a : ASys) : List ByteArray := (sysOuts a (rdEvs a)).flatten
structure RdOk (ks : Int → Bool) (a : ASys) : Prop where
 ev : ∀ e ∈ rdEvs a, ks e.kind = true ∧ chkEv e = 0 ∧ e.v = noSl ∧ e.r = noRt15 ∧ (e.kind = 12 ∨ e.kind = 13 → RevN e.name) ∧ (e.kind = 5 ∨ e.kind = 6 ∨ e.kind = 9 ∨ e.kind = 12 ∨ e.kind = 13)
 out : ∀ pre more, rdEvs a = pre ++ more → ((sysOuts a pre).flatten).length ≤ 1000000
 len : (rdEvs a).length ≤ 40
theorem zjC {a : ASys} {e : AEv} (h : e.kind = 5 ∨ e.kind = 6 ∨ e.kind = 9 ∨ e.kind = 12 ∨ e.kind = 13) : (sysDo a e).1.sh = a.sh := by
 by_cases hb : chkEv e = 0
 ·rcases h with hc | hc | hc | hc | hc
  ·rw [zl5 hb hc]; unfold sysDone; rfl
  ·rw [zft hb hc]; unfold sysUp; split <;> rfl
  ·rw [zds hb hc]; unfold sysTick; split <;> rfl
  ·rw [zdu hb hc]; unfold sysScale; repeat' split
   all_goals rfl
  ·rw [zdt hb hc]; unfold sysPods; split <;> rfl
 ·rw [zib hb]
theorem zia {l : List AEv} : ∀ {a : ASys}, (∀ e ∈ l, e.kind = 5 ∨ e.kind = 6 ∨ e.kind = 9 ∨ e.kind = 12 ∨ e.kind = 13) → (sysRun a l).sh = a.sh := by
 induction l with
 | nil => intro a _; rfl
 | cons e l ih =>
  intro a h
  rw [z5u, ih fun x hx => h x (by simp [hx]), zjC (h e (by simp))]
theorem zg3 {ks : Int → Bool} [Kn w0 ks] {b : Nat} {a : ASys} {s : Seg} (h : St w0 (s :: E) w) (hs : SysS b a s) (ok : RdOk ks a) {k0 : Nat} (inv : SInv k0 a) (hk0 : k0 + 80 ≤ 9000) (hsh0 : a.sh.n < 99) {k : Sl → PT}
  (hk : ∀ v sv s' w', Rw eS z01 1 v (rndOut a) sv → SysS b (rnd a) s' → SInv (k0 + 80) (rnd a) → St w0 (sv :: s' :: E) w' → k v w') : L.call Pr z4R [.pointer (some ⟨b, 0, none⟩)] (.one (.one .slice)) k w := by
 refine z00 (zbf _) ?_
 unfold z86
 have hlen := ok.len
 refine nw h ?_; clear h; (try clear w); intro b1 w h
 refine nw h ?_; clear h; (try clear w); intro b2 w h
 (refine ldC h ?_)
 refine z00 (zan _) ?_
 unfold z6Y
 refine nw h ?_; clear h; (try clear w); intro c1 w h
 refine nw h ?_; clear h; (try clear w); intro c2 w h
 refine nw h ?_; clear h; (try clear w); intro c3 w h
 (refine stC h ?_; clear h; (try clear w); intro w h; dsimp only [putN, setN] at h)
 refine ⟨⟨.func z1Z, #[], #[.pointer (some ⟨c3, 0, none⟩), .pointer (some ⟨c1, 0, none⟩)]⟩, rfl, ?_⟩
 have h : St w0 (frA b c1 c2 c3 ++ ([] :: [Cl b2 z05 [.slice none 0 0]] :: [Cl b1 z06 [.pointer (some ⟨b, 0, none⟩)]] :: s :: E)) w := h.eq (by simp)
 have hY := zmT (w0 := w0) (b := b) (c1 := c1) (c2 := c2) (c3 := c3) (a := a)
 refine ziv (es := [.agg evLs]) (arg := fun m => (((rdEvs a)[m]?.getD (evT0 9)).t, ())) hY h
  (fun m F => m ≤ 40 ∧ ∃ v sv s', Rw eS z01 1 v (sysOuts a ((rdEvs a).take m)).flatten sv ∧ SysS b (sysRun a ((rdEvs a).take m)) s' ∧ SInv (k0 + 2 * m) (sysRun a ((rdEvs a).take m)) ∧ F = sv :: [Cl b2 z05 [.slice v.a v.len v.cap]] :: [Cl b1 z06 [.pointer (some ⟨b, 0, none⟩)]] :: s' :: E)
  ⟨by omega, ⟨none, 0, 0⟩, [], s, Rw.nil, hs, inv, rfl⟩ ?_ ?_ ?_
 ·rintro m F ⟨h40, v, sv, s', r, hs', hi, rfl⟩
  exact ⟨FewR.of_inv hi (by omega), 3, s', rfl, hs', fun s'' hs'' => ⟨h40, v, sv, s'', r, hs'', hi, rfl⟩⟩
 ·clear h; (try clear w)
  clear hY hs inv
  rintro m F X w l lp d R hm ⟨h40, v, sv, s, r, hs, inv, rfl⟩ h hn
  have hx : (rdEvs a)[m]? = some (rdEvs a)[m] := List.getElem?_eq_getElem hm
  have hmem : (rdEvs a)[m] ∈ rdEvs a := List.getElem_mem hm
  have ht : (rdEvs a).take (m + 1) = (rdEvs a).take m ++ [(rdEvs a)[m]] := by rw [List.take_add_one, hx]; rfl
  have hsp : rdEvs a = (rdEvs a).take m ++ (rdEvs a).drop m := (List.take_append_drop ..).symm
  have hsp1 : rdEvs a = (rdEvs a).take (m + 1) ++ (rdEvs a).drop (m + 1) := (List.take_append_drop ..).symm
  have hsh : (sysRun a ((rdEvs a).take m)).sh.n < 99 := by rw [zia fun e he => (ok.ev e (List.mem_of_mem_take he)).2.2.2.2.2]; exact hsh0
  have ho := ok.out _ _ hsp1
  generalize (rdEvs a)[m] = e at *
  obtain ⟨e1, e2, e3, e4, e5, -⟩ := ok.ev e hmem
  have hro : (sysOuts a ((rdEvs a).take (m + 1))).flatten = (sysOuts a ((rdEvs a).take m)).flatten ++ (sysDo (sysRun a ((rdEvs a).take m)) e).2 := by
   rw [ht, z6L, List.flatten_append]; simp [sysOuts]
  have hrs : sysRun a ((rdEvs a).take (m + 1)) = (sysDo (sysRun a ((rdEvs a).take m)) e).1 := by rw [ht, z8o]; rfl
  rw [hro, List.length_append] at ho
  have hn : ∀ F' w', (∃ v sv s', Rw eS z01 1 v ((sysOuts a ((rdEvs a).take m)).flatten ++ (sysDo (sysRun a ((rdEvs a).take m)) e).2) sv ∧ SysS b (sysDo (sysRun a ((rdEvs a).take m)) e).1 s' ∧ SInv (k0 + 2 * (m + 1)) (sysDo (sysRun a ((rdEvs a).take m)) e).1 ∧ F' = sv :: [Cl b2 z05 [.slice v.a v.len v.cap]] :: [Cl b1 z06 [.pointer (some ⟨b, 0, none⟩)]] :: s' :: E) →
    St w0 ([Rec l lp .busy none] :: [DfM d] :: (frA b c1 c2 c3 ++ (F' ++ X))) w' → L.endRound Pr l none R w' := fun F' w' hi h => hn F' w' ⟨by omega, by rw [hro, hrs]; exact hi⟩ h
  rw [hx, Option.getD_some]
  generalize (sysOuts a ((rdEvs a).take m)).flatten = outs at *
  generalize sysRun a ((rdEvs a).take m) = am at *
  clear hx ht hsp hsp1 hro hrs ok hmem
  (try dsimp only)
  refine nw h ?_; clear h; (try clear w); intro b10 w h
  have h : St w0 ([Cl b10 _ _] :: [Rec l lp .ready none] :: [DfM d] :: [Cl c3 z07 [.slice (some ⟨c2, 0, none⟩) 4 4]] :: fnB c2 c1 :: [Cl c1 z06 [.pointer (some ⟨b, 0, none⟩)]] :: sv :: [Cl b2 z05 [.slice v.a v.len v.cap]] :: [Cl b1 z06 [.pointer (some ⟨b, 0, none⟩)]] :: s :: (E ++ X)) w := h
  (refine stC h ?_; clear h; (try clear w); intro w h; (try dsimp only [putN, setN] at h))
  refine bgn h 1 rfl fun w h => ?_
  dsimp only [setN] at h
  (refine dr h ?_; clear h; (try clear w); intro w h; refine ldC h ?_; refine ldC h ?_; refine laC h ?_)
  refine zm8 (e := e) h 9 rfl hs e1 e2 (EvIn.plain e3 e4 e5) inv (by omega) hsh fun v3 s3 s' w r3 hs inv h => ?_
  dsimp only [setN] at h
  (refine ckC h ?_)
  refine Rw.appRd encS elS h 7 rfl r (Rw.rd encS h 0 rfl r3) (by omega) (by omega) fun v4 s4 w r4 _ _ h => ?_
  dsimp only [setN] at h
  (refine stC h ?_; clear h; (try clear w); intro w h; dsimp only [putN, setN] at h)
  refine hn (s4 :: [Cl b2 z05 [.slice v4.a v4.len v4.cap]] :: [Cl b1 z06 [.pointer (some ⟨b, 0, none⟩)]] :: s' :: E) w ⟨v4, s4, s', r4, hs, inv, rfl⟩ ?_
  exact dl0_ (dl0_ h)
 ·clear h; (try clear w)
  rintro d F w ⟨h40, v, sv, s', r, hs, inv, rfl⟩ h
  rw [List.take_length] at r hs inv
  refine jumpN ?_
  have h : St w0 ([DfM d] :: [Cl c3 z07 [.slice (some ⟨c2, 0, none⟩) 4 4]] :: fnB c2 c1 :: [Cl c1 z06 [.pointer (some ⟨b, 0, none⟩)]] :: sv :: [Cl b2 z05 [.slice v.a v.len v.cap]] :: [Cl b1 z06 [.pointer (some ⟨b, 0, none⟩)]] :: s' :: E) w := h
  (refine ldC h ?_)
  have hol := ok.out _ [] (List.append_nil _).symm
  refine z9W h (Rw.rd encS h 4 rfl r) (by omega) (Rw.nil0 encS r) fun v' s2 w r2 hi h => ?_
  (first | refine um0_ h ?_ | refine um1_ h ?_ | refine um2_ h ?_ | refine um3_ h ?_ | refine um4_ h ?_ | refine um5_ h ?_ | refine um6_ h ?_ | refine um7_ h ?_ | refine um8_ h ?_ | refine um9_ h ?_ | refine z93 h ?_ | refine z92 h ?_); clear h; (try clear w); intro w h
  refine ⟨v', rfl, hk v' s2 s' w r2 hs (inv.mono (by omega)) ?_⟩
  have h := dl1_ (dl2_ (dl3_ (dl4_ (dl5_ (dl6_ h)))))
  exact h
def drvS : Nat → ASys → ASys
 | 0, a => a
 | n + 1, a => rnd (drvS n a)
def drvOut : Nat → ASys → List ByteArray
 | 0, _ => []
 | n + 1, a => drvOut n a ++ rndOut (drvS n a)
theorem zch {ks : Int → Bool} [Kn w0 ks] {b : Nat} {a : ASys} {s : Seg} (h : St w0 (s :: E) w) (hs : SysS b a s) {n : Nat} (ok : ∀ j, j < n → RdOk ks (drvS j a)) {k0 : Nat} (inv : SInv k0 a) (hk0 : k0 + 80 * n ≤ 9000) (hsh : ∀ j, j < n → (drvS j a).sh.n < 99) (hout : ∀ j, j ≤ n → (drvOut j a).length ≤ 1000000) {c : Int} (hc : c = n) {k : Sl → PT}
  (hk : ∀ v sv s' w', Rw eS z01 1 v (drvOut n a) sv → SysS b (drvS n a) s' → SInv (k0 + 80 * n) (drvS n a) → St w0 (sv :: s' :: E) w' → k v w') : L.call Pr z67 [.pointer (some ⟨b, 0, none⟩), I c] (.one (.one .slice)) k w := by
 subst hc
 refine z00 (zfk _ _) ?_
 unfold zbd
 rw [if_neg (by omega)]
 refine z0G (fun q y w => ∃ (j : Nat) (v : Sl) (sv s : Seg), y = (v, (j : Int), ()) ∧ q + j = n ∧ Rw eS z01 1 v (drvOut j a) sv ∧ SysS b (drvS j a) s ∧ SInv (k0 + 80 * j) (drvS j a) ∧ St w0 (s :: sv :: E) w) n ⟨0, ⟨none, 0, 0⟩, [], s, rfl, by omega, Rw.nil, hs, inv, h.eq (by simp)⟩ ?_
 clear hs inv
 clear h; (try clear w)
 rintro q y w ⟨j, v, sv, s, rfl, hq, r, hs, inv, h⟩ again hag
 (try dsimp only)
 refine it (fun hcc => ?_) (fun hcc => ?_) <;> (try simp only [zB] at hcc)
 ·have hj : j < n := by omega
  refine zg3 h hs (ok j hj) inv (by omega) (hsh j hj) fun v2 s2 s' w r2 hs inv h => ?_
  have ho := hout (j + 1) (by omega)
  rw [drvOut, List.length_append] at ho
  refine Rw.appRd encS elS h 2 rfl r (Rw.rd encS h 0 rfl r2) (by omega) (by omega) fun v4 s4 w r4 _ _ h => ?_
  dsimp only [setN] at h
  refine hag (q - 1) _ w (by omega) ⟨j + 1, v4, s4, s', ?_, by omega, r4, hs, inv.mono (by omega), dl0_ h⟩
  rw [wr (by omega) (by omega)]; congr 1
 ·have e : j = n := by omega
  subst e
  have ho := hout j (by omega)
  refine z9W h (Rw.rd encS h 1 rfl r) (by omega) (Rw.nil0 encS r) fun v' s2 w r2 hi h => ?_
  exact ⟨v', rfl, hk v' s2 s w r2 hs inv (dl2_ h)⟩
abbrev w1 : ByteArray := zbW
def frS (conc mi ma gr : Int) (pv : Bool) (xs : List Int) (t want : Int) (F : AFleet) : ASys :=
 ⟨⟨[(s_web, thgOf (cfgW 0 conc mi ma gr) 1 1 true)], [], 1⟩, ⟨[(w1, rvOf w1 1 (cfgW 0 conc mi ma gr))], if pv then [(w1, true)] else []⟩, [], F, ⟨[], if pv then [(w1, [])] else [], 8, 50⟩, [(w1, ⟨xs, want, 0⟩)], t⟩
theorem zkf (conc mi ma gr : Int) : sysRun (rdy1 30 8 50 (cfgW 0 conc mi ma gr)) [evNm 10 s_web] = frS conc mi ma gr false [] 0 (wantOf (cfgW 0 conc mi ma gr)) ⟨30, 0, []⟩ := by kernel_rfl
def fN (conc : Int) (n : Nat) (st : Int) : AFleet := ⟨30, n, (List.range n).map fun i : Nat => ⟨(i : Int) + 1, w1, ⟨st, conc, []⟩⟩⟩
abbrev usN (n : Nat) : List AEv := (List.range n).map fun i : Nat => evN 6 ((i : Int) + 1)
structure MidR (b c d : ASys) (us : List AEv) : Prop where
 s2 : (sysDo b (evNm 13 w1)).1 = c
 hu : upEvs (fPods c.fl.l w1) = us
 s3 : sysRun c us = d
 o2 : Nat.ble (sysDo b (evNm 13 w1)).2.length 20 = true
 o3 : Nat.ble (sysOuts c us).flatten.length 50 = true
theorem znw (conc mi ma gr : Int) (xs : List Int) (t : Int) (n : Nat) (hn : n ≤ 10) :
  MidR (frS conc mi ma gr false xs t n ⟨30, 0, []⟩) (frS conc mi ma gr false xs t n (fN conc n 1)) (frS conc mi ma gr (decide (0 < n)) xs t n (fN conc n 2)) (usN n) := by
 rcases n with _ | _ | _ | _ | _ | _ | _ | _ | _ | _ | _ | n
 all_goals first | omega | exact ⟨by kernel_rfl, by kernel_rfl, by kernel_rfl, by kernel_rfl, by kernel_rfl⟩
theorem zlv (conc mi ma gr : Int) (pv : Bool) (xs : List Int) (t : Int) (n : Nat) (hn : n ≤ 10) :
  MidR (frS conc mi ma gr pv xs t n (fN conc n 2)) (frS conc mi ma gr pv xs t n (fN conc n 2)) (frS conc mi ma gr pv xs t n (fN conc n 2)) [] := by
 rcases n with _ | _ | _ | _ | _ | _ | _ | _ | _ | _ | _ | n
 all_goals first | omega | exact ⟨by kernel_rfl, by kernel_rfl, by kernel_rfl, by kernel_rfl, by kernel_rfl⟩
theorem zlw (conc mi ma gr : Int) (pv : Bool) (xs : List Int) (t : Int) : MidR (frS conc mi ma gr pv xs t 0 (fN conc 1 2)) (frS conc mi ma gr pv xs t 0 ⟨30, 1, []⟩) (frS conc mi ma gr pv xs t 0 ⟨30, 1, []⟩) [] :=
 ⟨by kernel_rfl, by kernel_rfl, by kernel_rfl, by kernel_rfl, by kernel_rfl⟩
theorem zlu (conc mi ma gr : Int) (pv : Bool) (xs : List Int) (t : Int) : MidR (frS conc mi ma gr pv xs t 0 ⟨30, 1, []⟩) (frS conc mi ma gr pv xs t 0 ⟨30, 1, []⟩) (frS conc mi ma gr pv xs t 0 ⟨30, 1, []⟩) [] :=
 ⟨by kernel_rfl, by kernel_rfl, by kernel_rfl, by kernel_rfl, by kernel_rfl⟩
theorem zkh (conc mi ma gr : Int) (pv : Bool) (xs : List Int) (t want : Int) (F : AFleet) : bkAll (frS conc mi ma gr pv xs t want F).bk = [w1] := by kernel_rfl
theorem zkg (conc mi ma gr : Int) (pv : Bool) (xs : List Int) (t want : Int) (F : AFleet) :
  sysDo (frS conc mi ma gr pv xs t want F) (evNm 12 w1) = ({ frS conc mi ma gr pv xs t want F with by' := [(w1, ⟨xs, (scOf (frS conc mi ma gr pv xs t want F) ⟨xs, want, 0⟩ w1).1, (scOf (frS conc mi ma gr pv xs t want F) ⟨xs, want, 0⟩ w1).2⟩)] },
   [lineB (lineB s_scale [w1]) [decD (scOf (frS conc mi ma gr pv xs t want F) ⟨xs, want, 0⟩ w1).1.toNat]]) := by kernel_rfl
theorem zls (conc mi ma gr : Int) (pv : Bool) (xs : List Int) (t want : Int) (F : AFleet) (ht : t < 1048576) :
  (sysDo (frS conc mi ma gr pv xs t want F) (evT0 9)).1 = frS conc mi ma gr pv (xs ++ [0]) (t + 1) want F ∧ (sysDo (frS conc mi ma gr pv xs t want F) (evT0 9)).2.length = 1 := by
 rw [zds chk9 rfl]
 unfold sysTick
 rw [if_neg (show ¬ (frS conc mi ma gr pv xs t want F).now ≥ 1048576 from by show ¬ t ≥ 1048576; omega)]
 cases pv
 ·exact ⟨by kernel_rfl, by kernel_rfl⟩
 ·exact ⟨by kernel_rfl, by kernel_rfl⟩
abbrev zs (T : Nat) : List Int := List.replicate T 0
theorem zgF (T m : Nat) : lastS (zs T) m = 0 := by
 unfold lastS zs
 rw [List.reverse_replicate, List.take_replicate]
 generalize min m T = n
 induction n with
 | zero => rfl
 | succ n ih => rw [List.replicate_succ]; simpa [isum] using ih
theorem znq (T : Nat) : tz (zs T) = T := by
 unfold tz zs
 rw [List.reverse_replicate, List.takeWhile_replicate]
 simp
theorem zgm (n : Int) {c : Int} (hc : 1 ≤ c) : scNeed 0 n c = 0 := by
 unfold scNeed
 split
 ·rfl
 ·rename_i hn
  rw [if_neg (by omega)]
  have : 0 < n * c := Int.mul_pos (by omega) (by omega)
  exact Int.ediv_eq_zero_of_lt (by omega) (by omega)
theorem zmD (conc mi ma gr : Int) (pv : Bool) (xs : List Int) (t want : Int) (F : AFleet) : (bkGet (frS conc mi ma gr pv xs t want F).bk w1).2.2 = cfgW 0 conc mi ma gr := by kernel_rfl
theorem zlx (conc mi ma gr : Int) (pv : Bool) (xs : List Int) (t want : Int) (F : AFleet) : busyB (frS conc mi ma gr pv xs t want F).gt w1 = 0 := by
 cases pv
 ·exact (show busyB (frS conc mi ma gr false xs t want F).gt w1 = 0 by kernel_rfl)
 ·exact (show busyB (frS conc mi ma gr true xs t want F).gt w1 = 0 by kernel_rfl)
theorem zim (r : Int) : 1 ≤ scM r := by unfold scM; split <;> omega
theorem zny (conc mi ma gr : Int) (pv : Bool) (xs : List Int) (t want : Int) (F : AFleet) : gWith (frS conc mi ma gr pv xs t want F).gt.all w1 = [] := by kernel_rfl
theorem zlt {conc mi ma gr : Int} {pv : Bool} {T : Nat} {t want r : Int} {F : AFleet} (hc : 1 ≤ conc) (hr : cnt (fun s => s == 2) (fPods F.l w1) = r) :
  scOf (frS conc mi ma gr pv (zs T) t want F) ⟨zs T, want, 0⟩ w1 = (scEnd (if 0 < want ∧ (T : Int) < gr then 1 else 0) r mi ma, 0) := by
 unfold scOf
 rw [zmD, zlx]
 dsimp only
 have e1 : cnt (fun s => s == 2) (fPods (frS conc mi ma gr pv (zs T) t want F).fl.l w1) = r := hr
 rw [e1, zgF, zgF, znq]
 unfold scDec
 rw [zgm _ hc, zgm _ hc]
 have e2 : scLeft 0 0 (scM r) = 0 := by
  have := zim r
  unfold scLeft
  rw [if_neg (by omega), if_pos (by decide)]
 rw [e2]
 have e3 : scW1 want 0 0 0 = 0 := rfl
 rw [e3]
 have e4 : scW2 0 want 0 (T : Int) gr = if 0 < want ∧ (T : Int) < gr then 1 else 0 := by
  unfold scW2
  by_cases h : 0 < want ∧ (T : Int) < gr
  ·rw [if_pos h, if_pos ⟨rfl, .inr h⟩]
  ·rw [if_neg h, if_neg (fun hh => hh.2.elim (fun h0 => absurd h0 (by decide)) h)]
 dsimp only
 rw [e4]
theorem zl9 {w2 r mi ma : Int} (hw : 0 ≤ w2 ∧ w2 ≤ 1) : scEnd w2 r mi ma = mn2 (mx2 (mx2 w2 (r / 2)) mi) ma := by
 unfold scEnd
 have : mn2 w2 (4 * scM r) = w2 := by
  have := zim r
  unfold mn2
  rw [if_neg (by omega)]
 rw [this]
theorem zns {a b c d : ASys} {us : List AEv} (h0 : bkAll a.bk = [w1]) (s1 : (sysDo a (evNm 12 w1)).1 = b) (hb : bkAll b.bk = [w1]) (M : MidR b c d us) (hc : bkAll c.bk = [w1]) (hd : bkAll d.bk = [w1]) (hg : gWith d.gt.all w1 = []) : rdEvs a = evNm 12 w1 :: evNm 13 w1 :: (us ++ [evT0 9]) := by
 have r1 : sysRun a [evNm 12 w1] = b := s1
 have r2 : sysRun b [evNm 13 w1] = c := M.s2
 have q0 : seqRev 0 a [w1] = [evNm 12 w1] := rfl
 have q1 : seqRev 1 b [w1] = [evNm 13 w1] := rfl
 have q2 : seqRev 2 c [w1] = us := by simp [seqRev, revEvs, M.hu]
 have q3 : seqRev 3 d [w1] = [] := by simp [seqRev, revEvs, hg, doneEvs]
 unfold rdEvs seqStep
 rw [h0, q0, r1]
 unfold seqStep
 rw [hb, q1, r2]
 unfold seqStep
 rw [hc, q2, M.s3]
 unfold seqStep
 rw [hd, q3]
 simp [seqStep]
abbrev ksFr (k : Int) : Bool := k == 1 || k == 6 || k == 9 || k == 10 || k == 12 || k == 13
theorem zfr {a : ASys} {pre more l : List AEv} (h : l = pre ++ more) : (sysOuts a pre).flatten.length ≤ (sysOuts a l).flatten.length := by
 rw [h, z6L, List.flatten_append, List.length_append]; omega
theorem zbL {conc mi ma gr : Int} {pv pv' : Bool} {T : Nat} {want want' : Int} {F F1 F2 : AFleet} {us : List AEv} (hT : T < 1000000) (hsc : scOf (frS conc mi ma gr pv (zs T) T want F) ⟨zs T, want, 0⟩ w1 = (want', 0))
  (M : MidR (frS conc mi ma gr pv (zs T) T want' F) (frS conc mi ma gr pv (zs T) T want' F1) (frS conc mi ma gr pv' (zs T) T want' F2) us) (hus : ∃ n, n ≤ 10 ∧ us = usN n) :
  rnd (frS conc mi ma gr pv (zs T) T want F) = frS conc mi ma gr pv' (zs (T + 1)) ((T + 1 : Nat) : Int) want' F2 ∧ RdOk ksFr (frS conc mi ma gr pv (zs T) T want F) ∧ (rndOut (frS conc mi ma gr pv (zs T) T want F)).length ≤ 100 := by
 have s1 := zkg conc mi ma gr pv (zs T) T want F
 rw [hsc] at s1
 have s1 : sysDo (frS conc mi ma gr pv (zs T) T want F) (evNm 12 w1) = (frS conc mi ma gr pv (zs T) T want' F, [lineB (lineB s_scale [w1]) [decD want'.toNat]]) := s1
 have hrd := zns (zkh conc mi ma gr pv (zs T) T want F) (congrArg Prod.fst s1) (zkh ..) M (zkh ..) (zkh ..) (zny ..)
 obtain ⟨t1, t2⟩ := zls conc mi ma gr pv' (zs T) T want' F2 (by omega)
 have hout : (rndOut (frS conc mi ma gr pv (zs T) T want F)).length ≤ 100 := by
  unfold rndOut
  rw [hrd, z4O, s1, z4O, M.s2, z6L, M.s3]
  have o2 := Nat.le_of_ble_eq_true M.o2
  have o3 := Nat.le_of_ble_eq_true M.o3
  simp only [List.flatten_cons, List.flatten_append, List.length_append, z4O, zfs, List.flatten_nil, List.append_nil, t2, List.length_singleton]
  omega
 refine ⟨?_, ⟨fun e he => ?_, fun pre more hpm => ?_, ?_⟩, hout⟩
 ·unfold rnd
  rw [hrd, z5u, s1, z5u, M.s2, z8o, M.s3, z5u, z8n, t1]
  have e1 : zs T ++ [0] = zs (T + 1) := List.replicate_succ'.symm
  rw [e1]; rfl
 ·rw [hrd] at he
  obtain ⟨n, hn, rfl⟩ := hus
  simp only [List.mem_cons, List.mem_append, List.mem_map, List.mem_range, List.not_mem_nil, or_false] at he
  rcases he with rfl | rfl | ⟨i, hi, rfl⟩ | rfl
  ·exact ⟨rfl, by decide +kernel, rfl, rfl, fun _ => zgq, by decide⟩
  ·exact ⟨rfl, by decide +kernel, rfl, rfl, fun _ => zgq, by decide⟩
  ·exact ⟨rfl, znA (.inr (.inl rfl)) (by omega), rfl, rfl, fun h => absurd h (show ¬ ((6 : Int) = 12 ∨ (6 : Int) = 13) by decide), .inr (.inl rfl)⟩
  ·exact ⟨rfl, chk9, rfl, rfl, fun h => absurd h (show ¬ ((9 : Int) = 12 ∨ (9 : Int) = 13) by decide), .inr (.inr (.inl rfl))⟩
 ·exact Nat.le_trans (zfr hpm) (Nat.le_trans hout (by decide))
 ·rw [hrd]
  obtain ⟨n, hn, rfl⟩ := hus
  simp
  omega
structure FrB (conc mi ma gr : Int) : Prop where
 c : 1 ≤ conc
 m0 : 0 ≤ mi
 mm : mi ≤ ma
 m1 : 1 ≤ ma
 m2 : ma ≤ 10
 g0 : 0 ≤ gr
 g1 : gr ≤ 30
inductive FrI (conc mi ma gr : Int) (T : Nat) (a : ASys) : Prop
 | start (h0 : T = 0) (e : a = frS conc mi ma gr false (zs 0) 0 (wantOf (cfgW 0 conc mi ma gr)) ⟨30, 0, []⟩)
 | run (pv : Bool) (n : Nat) (h1 : 1 ≤ T) (hn : n ≤ 10) (hm : (n : Int) = mi ∨ (mi = 0 ∧ n = 1 ∧ (T : Int) - 1 < gr)) (e : a = frS conc mi ma gr pv (zs T) T n (fN conc n 2))
 | gone (pv : Bool) (h1 : 1 ≤ T) (hm : mi = 0) (e : a = frS conc mi ma gr pv (zs T) T 0 ⟨30, 1, []⟩)
theorem zmP (conc : Int) (n : Nat) (hn : n ≤ 10) : cnt (fun s => s == 2) (fPods (fN conc n 2).l w1) = n := by
 rcases n with _ | _ | _ | _ | _ | _ | _ | _ | _ | _ | _ | n
 all_goals first | omega | exact (by kernel_rfl)
theorem zbU {w2 r mi ma v : Int} (hw : 0 ≤ w2 ∧ w2 ≤ 1) (h1 : w2 ≤ v ∧ r / 2 ≤ v ∧ mi ≤ v) (h2 : v = w2 ∨ v = r / 2 ∨ v = mi) (h3 : v ≤ ma) : scEnd w2 r mi ma = v := by
 rw [zl9 hw]
 unfold mn2 mx2
 repeat' split
 all_goals omega
theorem zfK {conc mi ma gr : Int} {T : Nat} {a : ASys} (B : FrB conc mi ma gr) (I : FrI conc mi ma gr T a) (hT : T < 1000000) : FrI conc mi ma gr (T + 1) (rnd a) ∧ RdOk ksFr a ∧ (rndOut a).length ≤ 100 := by
 obtain ⟨bc, b0, bm, b1, b2, bg, bg1⟩ := B
 cases I with
 | start h0 e =>
  subst h0
  subst e
  have hw : wantOf (cfgW 0 conc mi ma gr) = if 1 > mi then 1 else mi := rfl
  have hsc := zlt (mi := mi) (ma := ma) (gr := gr) (pv := false) (T := 0) (t := 0) (want := wantOf (cfgW 0 conc mi ma gr)) (r := 0) (F := ⟨30, 0, []⟩) bc rfl
  obtain ⟨n, hn10, hn, hv⟩ : ∃ n : Nat, n ≤ 10 ∧ ((n : Int) = mi ∨ (mi = 0 ∧ n = 1 ∧ (0 : Int) < gr)) ∧ scEnd (if 0 < wantOf (cfgW 0 conc mi ma gr) ∧ ((0 : Nat) : Int) < gr then 1 else 0) 0 mi ma = n := by
   by_cases h1 : mi = 0 ∧ 0 < gr
   ·refine ⟨1, by omega, .inr ⟨h1.1, rfl, h1.2⟩, ?_⟩
    rw [hw, if_pos (by rw [if_pos (by omega)]; omega)]
    exact zbU (by omega) (by omega) (by omega) (by omega)
   ·refine ⟨mi.toNat, by omega, .inl (by omega), ?_⟩
    refine zbU (by split <;> omega) ?_ (by omega) (by omega)
    split
    ·rename_i h; rw [hw] at h; split at h <;> omega
    ·omega
  rw [hv] at hsc
  obtain ⟨r1, r2, r3⟩ := zbL (T := 0) (by omega) hsc (znw conc mi ma gr (zs 0) 0 n hn10) ⟨n, hn10, rfl⟩
  exact ⟨.run _ n (by omega) hn10 (hn.imp id fun h => ⟨h.1, h.2.1, by have := h.2.2; omega⟩) r1, r2, r3⟩
 | run pv n h1 hn hm e =>
  subst e
  have hsc := zlt (mi := mi) (ma := ma) (gr := gr) (pv := pv) (T := T) (t := T) (want := n) (r := n) (F := fN conc n 2) bc (zmP conc n hn)
  by_cases hd : mi = 0 ∧ n = 1 ∧ gr ≤ T
  ·have hv : scEnd (if 0 < (n : Int) ∧ (T : Int) < gr then 1 else 0) n mi ma = 0 := by
    rw [if_neg (by omega)]
    exact zbU (by omega) (by omega) (by omega) (by omega)
   rw [hv] at hsc
   obtain ⟨rfl, rfl, hg⟩ := hd
   obtain ⟨r1, r2, r3⟩ := zbL hT hsc (zlw conc 0 ma gr pv (zs T) T) ⟨0, by omega, rfl⟩
   exact ⟨.gone pv (by omega) rfl r1, r2, r3⟩
  ·have hv : scEnd (if 0 < (n : Int) ∧ (T : Int) < gr then 1 else 0) n mi ma = n := by
    refine zbU (by split <;> omega) ?_ ?_ (by omega)
    ·split <;> omega
    ·split <;> omega
   rw [hv] at hsc
   obtain ⟨r1, r2, r3⟩ := zbL hT hsc (zlv conc mi ma gr pv (zs T) T n hn) ⟨0, by omega, rfl⟩
   exact ⟨.run pv n (by omega) hn (by omega) r1, r2, r3⟩
 | gone pv h1 hm e =>
  subst e
  subst hm
  have hsc := zlt (mi := 0) (ma := ma) (gr := gr) (pv := pv) (T := T) (t := T) (want := 0) (r := 0) (F := ⟨30, 1, []⟩) bc rfl
  have hv : scEnd (if 0 < (0 : Int) ∧ (T : Int) < gr then 1 else 0) 0 0 ma = 0 := by
   rw [if_neg (by omega)]
   exact zbU (by omega) (by omega) (by omega) (by omega)
  rw [hv] at hsc
  obtain ⟨r1, r2, r3⟩ := zbL hT hsc (zlu conc 0 ma gr pv (zs T) T) ⟨0, by omega, rfl⟩
  exact ⟨.gone pv (by omega) rfl r1, r2, r3⟩
theorem z9I {conc mi ma gr : Int} {T : Nat} {a : ASys} (B : FrB conc mi ma gr) (I : FrI conc mi ma gr T a) : ∀ (j : Nat), T + j < 1000000 → FrI conc mi ma gr (T + j) (drvS j a) ∧ (drvOut j a).length ≤ 100 * j
 | 0, _ => ⟨I, by simp [drvOut]⟩
 | j + 1, hj => by
  obtain ⟨h1, h2⟩ := z9I B I j (by omega)
  obtain ⟨q1, q2, q3⟩ := zfK B h1 (by omega)
  refine ⟨q1, ?_⟩
  rw [drvOut, List.length_append]
  omega
theorem zmC {conc mi ma gr : Int} {T : Nat} {a : ASys} (I : FrI conc mi ma gr T a) : a.sh.n = 1 := by
 cases I <;> rename_i e <;> subst e <;> rfl
theorem ziU {conc mi ma gr : Int} {T : Nat} {a : ASys} (B : FrB conc mi ma gr) (I : FrI conc mi ma gr T a) (hT : 40 ≤ T) : fPods a.fl.l w1 = fPods (fN conc mi.toNat 2).l w1 ∧ (a.fl.l.length : Int) = mi ∧ wantB a.by' w1 = mi := by
 obtain ⟨bc, b0, bm, b1, b2, bg, bg1⟩ := B
 cases I with
 | start h0 e => omega
 | run pv n h1 hn hm e =>
  subst e
  have hm : (n : Int) = mi := by omega
  subst hm
  refine ⟨by rw [Int.toNat_natCast]; rfl, ?_, by kernel_rfl⟩
  show ((((List.range n).map fun i : Nat => (⟨(i : Int) + 1, w1, ⟨2, conc, []⟩⟩ : AHeld)).length : Nat) : Int) = n
  rw [List.length_map, List.length_range]
 | gone pv h1 hm e =>
  subst e
  subst hm
  exact ⟨by kernel_rfl, rfl, by kernel_rfl⟩
theorem zlq (x y z : Int) (w : World) : (do eqGuard .neq z0N (.tmp 0) (.tmp 0) (.agg #[I x, I y, I z]) (.agg #[I x, I y, I z]); binOp .neq z0N (.agg #[I x, I y, I z]) (.agg #[I x, I y, I z]) : Sem Value).run Pr w = .ok (.bool false) w := by
 refine zkS (r := true) (by kernel_rfl) ?_
 have hS : Pr.underlying z0N = some (.struct (Pr.fieldsOf z0N)) := by kernel_rfl
 have hp : Pr.stoodInHeld z0N = false := by kernel_rfl
 rw [show (10000 : Nat) = 9999 + 1 from rfl, run_equalIn_agg w 9999 z0N _ _ hS hp]
 have u3 := Tryz.underlying3
 have i3 := Tryz.isAgg3
 have z3 := Tryz.sizeOf3
 simp only [Program.fieldsOf, Tryz.underlying45]
 go_simp
theorem zl7 {conc mi ma gr : Int} (B : FrB conc mi ma gr) (hc : conc ≤ 8) : specC (cfgW 0 conc mi ma gr) = 0 := by
 obtain ⟨bc, b0, bm, b1, b2, bg, bg1⟩ := B
 unfold specC
 rw [if_pos (show shortB s_web.data.toList 16 = true by decide +kernel), if_pos]
 have e : cfgNum (cfgW 0 conc mi ma gr) = (decide ((0 : Int) ≤ 0 ∧ (0 : Int) ≤ 255) && (decide (1 ≤ conc ∧ conc ≤ 8) && (decide (1 ≤ ma ∧ ma ≤ 10) && (decide (0 ≤ mi ∧ mi ≤ ma) && decide (0 ≤ gr ∧ gr ≤ 30))))) := rfl
 rw [e]
 simp only [Bool.and_eq_true, decide_eq_true_eq]
 omega
theorem znv (conc : Int) (n : Nat) (hn : n ≤ 10) : ∀ x ∈ fPods (fN conc n 2).l w1, x.2.1 = 2 := by
 intro x hx
 unfold fPods revs fN at hx
 simp only [List.mem_map, List.mem_filter] at hx
 obtain ⟨y, ⟨⟨i, _, rfl⟩, _⟩, rfl⟩ := hx
 rfl
theorem znx (conc : Int) (n : Nat) (hn : n ≤ 10) : (fPods (fN conc n 2).l w1).length = n := by
 rcases n with _ | _ | _ | _ | _ | _ | _ | _ | _ | _ | _ | n
 all_goals first | omega | exact (by kernel_rfl)
instance knFr [bTab w0] : Kn w0 ksFr := ⟨by
 intro E w h i b a s hi hs e hks hb ev k0 inv hk0 hn k hk
 have hc : e.kind = 1 ∨ e.kind = 6 ∨ e.kind = 9 ∨ e.kind = 10 ∨ e.kind = 12 ∨ e.kind = 13 := by simpa [ksFr, or_assoc] using hks
 rcases hc with hc | hc | hc | hc | hc | hc
 ·exact znK h i hi hs hb hc ev inv hk0 hn hk
 ·exact znJ h i hi hs hb hc ev inv hk0 hn hk
 ·exact znI h i hi hs hb hc ev inv hk0 hn hk
 ·exact znf h i hi hs hb hc ev inv hk0 hn hk
 ·exact zne h i hi hs hb hc ev inv hk0 hn hk
 ·exact znd h i hi hs hb hc ev inv hk0 hn hk⟩
theorem zhF [bTab w0] (c : Cfg) (x1 : Int) : Calls Pr z4y #[.agg (Cfg.cells c).toArray, I x1] w0 fun e w' => e = .returned (.bool true) ∧ St w0 [] w' := by
 refine zmA (args := [.agg (Cfg.cells c).toArray, I x1]) (z7z c x1) ?_
 unfold z4D
 obtain ⟨cn, img, co, cmi, cma, cgr, rfl⟩ : ∃ (cn : ByteArray) (img co cmi cma cgr : Int), c = (cn, img, co, cmi, cma, cgr, ()) := ⟨c.1, c.2.1, c.2.2.1, c.2.2.2.1, c.2.2.2.2.1, c.2.2.2.2.2.1, rfl⟩
 have h := St.init w0
 refine nw h ?_; clear h; (try clear w); intro b1 w h
 refine zjj h fun w h => itF rfl ?_
 refine zgX h (fun hh => absurd hh (by decide)) fun _ b s w hs h => itF rfl (itF rfl ?_)
 (dsimp only [setN, List.cons_append, List.nil_append] at h; refine dr h ?_; clear h; (try clear w); intro w h; refine ldC h ?_; refine ldC h ?_)
 refine z6C (by decide) (by decide) ?_
 (refine ckC h ?_)
 refine z6C (by decide) (by decide) ?_
 have e1 : IntKind.wrap .i64 (1 + co % 8) = 1 + co % 8 := wr (by omega) (by omega)
 have e2 : IntKind.wrap .i64 (1 + cma % 10) = 1 + cma % 10 := wr (by omega) (by omega)
 have e3 : IntKind.wrap .i64 (1 + cma % 10 + 1) = 1 + cma % 10 + 1 := wr (by omega) (by omega)
 rw [e1, e2]
 (refine stC h ?_; clear h; (try clear w); intro w h; dsimp only [putN, setN] at h; refine stC h ?_; clear h; (try clear w); intro w h; dsimp only [putN, setN] at h; refine stC h ?_; clear h; (try clear w); intro w h; dsimp only [putN, setN] at h; refine stC h ?_; clear h; (try clear w); intro w h; dsimp only [putN, setN] at h; refine dr h ?_; clear h; (try clear w); intro w h; refine ldC h ?_; refine ldC h ?_; refine ldC h ?_)
 rw [e3]
 refine z6C (by omega) (by omega) ?_
 (refine ckC h ?_)
 refine z6C (by decide) (by decide) ?_
 have hq1 := Int.emod_nonneg cmi (show 1 + cma % 10 + 1 ≠ 0 by omega)
 have hq2 := Int.emod_lt_of_pos cmi (show 0 < 1 + cma % 10 + 1 by omega)
 (refine stC h ?_; clear h; (try clear w); intro w h; dsimp only [putN, setN] at h; refine stC h ?_; clear h; (try clear w); intro w h; dsimp only [putN, setN] at h; refine laC h ?_)
 have B : FrB (1 + co % 8) (cmi % (1 + cma % 10 + 1)) (1 + cma % 10) (cgr % 31) := ⟨by omega, by omega, by omega, by omega, by omega, by omega, by omega⟩
 have hsp := zl7 B (by omega)
 generalize 1 + co % 8 = conc at *
 generalize cmi % (1 + cma % 10 + 1) = mi at *
 generalize 1 + cma % 10 = ma at *
 generalize cgr % 31 = gr at *
 clear e1 e2 e3 hq1 hq2
 have inv0 := zlp (room := 30) (line := 8) (pat := 50) (by decide) (by decide)
 have h1 := do_C (a := newSys 30 8 50) (ver := 0) (c := cfgW 0 conc mi ma gr) ⟨by decide, by decide⟩ hsp (by rfl)
 have e1 : (sysDo (newSys 30 8 50) (evC 0 (cfgW 0 conc mi ma gr))).1 = rdy1 30 8 50 (cfgW 0 conc mi ma gr) := by rw [h1]; rfl
 refine zm8 (ks := ksFr) (e := evC 0 (cfgW 0 conc mi ma gr)) h 0 rfl hs rfl (zmR ⟨by decide, by decide⟩ hsp) (EvIn.plain rfl rfl fun h => absurd h (show ¬ ((1 : Int) = 12 ∨ (1 : Int) = 13) by decide)) inv0 (by decide) (by decide) fun v1 s1 s w r1 hs inv h => ?_
 rw [e1] at hs inv
 refine zm8 (ks := ksFr) (e := evNm 10 s_web) h 1 rfl hs rfl (by decide +kernel) (EvIn.plain rfl rfl fun h => absurd h (show ¬ ((10 : Int) = 12 ∨ (10 : Int) = 13) by decide)) inv (by decide) (show (1 : Int) < 99 by decide) fun v2 s2 s w r2 hs inv h => ?_
 have e4 : (sysDo (rdy1 30 8 50 (cfgW 0 conc mi ma gr)) (evNm 10 s_web)).1 = frS conc mi ma gr false [] 0 (wantOf (cfgW 0 conc mi ma gr)) ⟨30, 0, []⟩ := zkf conc mi ma gr
 rw [e4] at hs inv
 have I0 : FrI conc mi ma gr 0 (frS conc mi ma gr false [] 0 (wantOf (cfgW 0 conc mi ma gr)) ⟨30, 0, []⟩) := .start rfl rfl
 generalize frS conc mi ma gr false [] 0 (wantOf (cfgW 0 conc mi ma gr)) ⟨30, 0, []⟩ = a at *
 refine z6C (by decide) (by decide) ?_
 obtain ⟨m, hm⟩ : ∃ m : Nat, x1 % 10 = m := ⟨(x1 % 10).toNat, by omega⟩
 have hm10 : m < 10 := by omega
 rw [hm]
 have e5 : IntKind.wrap .i64 (40 + (m : Int)) = ((40 + m : Nat) : Int) := by rw [wr (by omega) (by omega)]; omega
 rw [e5]
 dsimp only [setN] at h
 have h := dl0_ h
 have h := fr1_ h
 refine zch (ks := ksFr) (n := 40 + m) h hs (fun j hj => (zfK B (z9I B I0 j (by omega)).1 (by omega)).2.1) inv (by omega) (fun j hj => by rw [zmC (z9I B I0 j (by omega)).1]; decide) (fun j hj => Nat.le_trans (z9I B I0 j (by omega)).2 (by omega)) rfl fun v3 s3 s w r3 hs inv h => ?_
 have I1 := (z9I B I0 (40 + m) (by omega)).1
 rw [Nat.zero_add] at I1
 obtain ⟨p1, p2, p3⟩ := ziU B I1 (by omega)
 generalize drvS (40 + m) a = a1 at *
 have hmi : @Eq Int (mi.toNat : Int) mi := Int.toNat_of_nonneg B.m0
 have hmi10 : mi.toNat ≤ 10 := by have := B.mm; have := B.m2; omega
 have hl0 := znx conc mi.toNat hmi10
 have hst := znv conc mi.toNat hmi10
 refine zaN h 1 rfl hs fun v4 s4 w r4 h => ?_
 rw [p1] at r4
 obtain ⟨pl, hpl⟩ : ∃ pl, pl = fPods (fN conc mi.toNat 2).l w1 := ⟨_, rfl⟩
 rw [← hpl] at r4 hl0 hst
 have l4 := Rw.len encK r4
 (refine dr h ?_; clear h; (try clear w); intro w h; refine ldC h ?_)
 refine itF (by simp only [bne_eq_false_iff_eq]; omega) ?_
 (refine ldC h ?_)
 refine zhG h 2 rfl hs ?_
 rw [p3]
 (refine ckC h ?_)
 refine itF (by simp) ?_
 (refine ldC h ?_)
 refine zjf h 2 rfl hs ?_
 rw [p2]
 (refine ckC h ?_)
 refine itF (by simp) ?_
 have h := fr2_ h
 refine zch (ks := ksFr) (n := 5) h hs (fun j hj => (zfK B (z9I B I1 j (by omega)).1 (by omega)).2.1) inv (by omega) (fun j hj => by rw [zmC (z9I B I1 j (by omega)).1]; decide) (fun j hj => Nat.le_trans (z9I B I1 j (by omega)).2 (by omega)) rfl fun v5 s5 s w r5 hs inv h => ?_
 have I2 := (z9I B I1 5 (by omega)).1
 obtain ⟨q1, q2, q3⟩ := ziU B I2 (by omega)
 refine zaN h 1 rfl hs fun v6 s6 w r6 h => ?_
 rw [q1, ← hpl] at r6
 have l6 := Rw.len encK r6
 refine itF (by rw [l4, l6]; simp) ?_
 refine z0G (fun q y w => ∃ j : Nat, @Eq Int y.1 j ∧ q + j = pl.length ∧ ∃ sx s1x E, St w0 (s6 :: sx :: s1x :: s4 :: E) w) pl.length ⟨0, rfl, rfl, _, _, _, h⟩ ?_
 clear h; (try clear w)
 rintro q ⟨y, ⟨⟩⟩ w ⟨j, hy, hq, sx, s1x, E, h⟩ again hag
 (try dsimp only)
 simp only at hy
 subst hy
 refine it (fun hb => ?_) (fun hb => ?_) <;> (try simp only [zB] at hb)
 ·have hj : j < pl.length := by omega
  have hx : pl[j]? = some pl[j] := List.getElem?_eq_getElem hj
  have hx2 := hst pl[j] (List.getElem_mem hj)
  generalize pl[j] = x at hx hx2
  refine dr h ?_; clear h; clear w; intro w h
  refine Rw.ix encK r4 (by omega) (by simpa using hj) fun a28 ha => ?_
  simp only [Int.toNat_natCast] at ha
  refine Rw.lda encK h 3 rfl r4 ha hx (y := (x.1, x.2.1, x.2.2, ())) rfl ?_
  refine Rw.ix encK r6 (by omega) (by simpa using hj) fun a30 ha2 => ?_
  simp only [Int.toNat_natCast] at ha2
  refine Rw.lda encK h 0 rfl r6 ha2 hx (y := (x.1, x.2.1, x.2.2, ())) rfl ?_
  dsimp only
  have e6 : (!((x.1 == x.1) && ((x.2.1 == x.2.1) && ((x.2.2 == x.2.2) && true)))) = false := by simp
  rw [e6]
  unfold L.chkSem
  refine ⟨zlq x.1 x.2.1 x.2.2 w, ?_⟩
  refine itF rfl ?_
  refine Rw.ix encK r4 (by omega) (by simpa using hj) fun a32 ha3 => ?_
  simp only [Int.toNat_natCast] at ha3
  refine Rw.ld encK h 3 rfl r4 ha3 hx (f := 1) (y := x.2.1) rfl rfl ?_
  refine itF (by rw [hx2]; rfl) ?_
  refine hag (q - 1) _ w (by omega) ⟨j + 1, ?_, by omega, sx, s1x, E, h⟩
  show IntKind.wrap .i64 _ = _
  rw [wr (by omega) (by omega)]; omega
 ·exact ⟨rfl, St.cut (A := []) (X := s6 :: sx :: s1x :: s4 :: E) h⟩
end Go.Proofs.YtkmalcoocklikaaGreatDoor
