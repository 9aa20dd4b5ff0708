/- Contracts of functions, and walks of laws (text Ff). No conditions beyond those its theorems state. -/
import Derived.Test.YtheikjckdnhdhaaFe
set_option linter.all false
namespace Go.Proofs.Ytheikjckdnhdhaa
open Go.Dm
attribute [local irreducible] L.load L.store L.chk L.new L.nonnil L.guard L.ite L.draw L.idx L.sem L.semR L.semU L.chkSem L.next L.call L.callV L.join L.alts L.loop L.begin L.endRound L.range
variable {w0 w : World} {E : List Seg}
section
variable {F : AFleet} {rev : ByteArray} {conc : Int}
/-- none has anything -/
def Idle (l : List AHeld) : Prop := ∀ x ∈ l, x.pod.reqs = [] ∧ x.pod.st ≠ 3
theorem shrink_last : ∀ {n : Nat} {F : AFleet}, (shrink rev n F).1.last = F.last ∧ (shrink rev n F).1.room = F.room
  | 0, F => ⟨rfl, rfl⟩
  | n + 1, F => by simp only [shrink]; exact shrink_last (n := n) (F := drain1 rev F)
theorem shrink_ok : ∀ {n : Nat} {F : AFleet}, F.Ok → n ≤ fCount F.l rev → (shrink rev n F).1.Ok ∧ fCount (shrink rev n F).1.l rev + n = fCount F.l rev
  | 0, F, ok, _ => ⟨ok, rfl⟩
  | n + 1, F, ok, h => by
    have h1 := drain1_ok ok (rev := rev) (by omega)
    have h2 := drain1_count ok (rev := rev) (by omega)
    have := shrink_ok (n := n) h1 (by omega)
    simp only [shrink]
    exact ⟨this.1, by omega⟩
theorem shrink_glen : ∀ {n : Nat} {F : AFleet}, (shrink rev n F).2.length = n
  | 0, F => rfl
  | n + 1, F => by simp only [shrink, List.length_cons]; rw [shrink_glen]
theorem drain1_idle (ok : F.Ok) (hi : Idle F.l) (hc : 0 < fCount F.l rev) : (drain1 rev F).l.Sublist F.l ∧ fFind (drain1 rev F).l (fSpare F.l rev) = none ∧ (drain1 rev F).l.length + 1 = F.l.length := by
  obtain ⟨x, hx, hrev, hst⟩ := spare_mem ok hc
  obtain ⟨hm, hid⟩ := fFind_some hx
  obtain ⟨A, B, hl⟩ := List.append_of_mem hm
  have pw := ok.pw
  have e : (drain1 rev F).l = A ++ B := by
    show (fUpd F.l (fSpare F.l rev) fun p => (podDrain p).1) = _
    rw [← hid]
    rw [hl] at pw ⊢
    rw [fUpd_at pw, drain_eq hst]
    simp only
    rw [if_pos (hi x hm).1, if_pos rfl, List.nil_append]
  rw [e, hl]
  rw [hl] at pw
  refine ⟨List.Sublist.append (List.Sublist.refl _) (List.sublist_cons_self ..), ?_, by simp; omega⟩
  unfold fFind
  rw [List.find?_eq_none]
  intro y hy
  rw [List.pairwise_append, List.pairwise_cons] at pw
  simp only [decide_eq_true_eq]
  rw [← hl, ← hid]
  rcases List.mem_append.1 hy with hy | hy
  · have := pw.2.2 y hy x (by simp); omega
  · have := pw.2.1.1 y hy; omega
theorem shrink_idle : ∀ {n : Nat} {F : AFleet}, F.Ok → Idle F.l → n ≤ fCount F.l rev → (shrink rev n F).1.l.Sublist F.l ∧ (∀ id ∈ (shrink rev n F).2, fFind (shrink rev n F).1.l id = none) ∧ (shrink rev n F).1.l.length + n = F.l.length
  | 0, F, _, _, _ => ⟨.refl _, by simp [shrink], rfl⟩
  | n + 1, F, ok, hi, h => by
    have h1 := drain1_ok ok (rev := rev) (by omega)
    have h2 := drain1_count ok (rev := rev) (by omega)
    obtain ⟨h3, h4, h5⟩ := drain1_idle ok hi (rev := rev) (by omega)
    obtain ⟨i1, i2, i3⟩ := shrink_idle (n := n) h1 (fun x hx => hi x (h3.subset hx)) (by omega)
    simp only [shrink]
    refine ⟨i1.trans h3, fun id hid => ?_, by omega⟩
    rcases List.mem_cons.1 hid with rfl | hid
    · unfold fFind at *
      rw [List.find?_eq_none] at h4 ⊢
      exact fun x hx => h4 x (i1.subset hx)
    · exact i2 id hid
theorem grow_idle (n : Nat) (hi : Idle F.l) : Idle (grow rev conc n F).l := by
  induction n with
  | zero => exact hi
  | succ n ih =>
    intro x hx
    simp only [grow, grow1, List.mem_append, List.mem_singleton] at hx
    rcases hx with hx | rfl
    · exact ih x hx
    · simp
theorem grow_ok (n : Nat) (ok : F.Ok) (h1 : F.l.length + n < 100000000) (h2 : F.last + n < 4611686018427387904) : (grow rev conc n F).Ok := by
  induction n with
  | zero => exact ok
  | succ n ih =>
    refine grow1_ok (ih (by omega) (by omega)) ?_ ?_
    · rw [grow_len]; omega
    · rw [grow_last]; omega
theorem grow_mem : ∀ {n j : Nat}, j < n → (⟨F.last + 1 + (j : Int), rev, ⟨1, conc, []⟩⟩ : AHeld) ∈ (grow rev conc n F).l
  | 0, j, h => by omega
  | n + 1, j, h => by
    simp only [grow, grow1, List.mem_append, List.mem_singleton]
    by_cases e : j = n
    · subst e; right; rw [grow_last]; congr 1; omega
    · left; exact grow_mem (by omega)
theorem growN_eq (F : AFleet) (rev : ByteArray) (want : Int) : (growN F rev want : Int) = max 0 (min (want - fCount F.l rev) (F.room - F.l.length)) := by unfold growN; omega
theorem shrinkN_eq (F : AFleet) (rev : ByteArray) (want : Int) : (shrinkN F rev want : Int) = max 0 ((fCount F.l rev : Int) - max want 0) := by unfold shrinkN; omega
theorem idle_pods {l : List AHeld} (hi : Idle l) : (fPods l rev).length = fCount l rev := by
  unfold fPods fCount
  rw [List.length_map]
  congr 1
  symm
  rw [List.filter_eq_self]
  intro x hx
  exact decide_eq_true (hi x (List.mem_filter.1 hx).1).2
/-- what the law asks of Scale -/
structure RoomOk (F F' : AFleet) (made gone : List Int) (rev : ByteArray) (want : Int) : Prop where
  ok : F'.Ok
  idle : Idle F'.l
  room : F'.room = F.room
  last : F'.last = F.last + made.length
  few : (F'.l.length : Int) ≤ F.room
  one : made = [] ∨ gone = []
  n1 : ((fPods F'.l rev).length : Int) ≤ want
  n2 : ((fPods F'.l rev).length : Int) < want → F.room ≤ F'.l.length
  mad : ∀ (j : Nat) (x : Int), made[j]? = some x → x = F.last + 1 + j ∧ fOf F'.l x = rev
  gon : ∀ x ∈ gone, fOf F'.l x = s_
  glen : gone.length ≤ F.l.length + made.length
theorem scale_room (ok : F.Ok) (hi : Idle F.l) (hf : (F.l.length : Int) ≤ F.room) (hr : F.room < 100000000) (hl : F.last + F.room < 4611686018427387904) {want : Int} (hw : 0 ≤ want) :
    RoomOk F (fScale F rev conc want).1 (fMade F rev want) (fScale F rev conc want).2 rev want := by
  have g := growN_eq F rev want
  have hlen := grow_len (F := F) (rev := rev) (conc := conc) (growN F rev want)
  have hcnt := grow_count (F := F) (rev := rev) (conc := conc) (growN F rev want)
  have hlst := grow_last (F := F) (rev := rev) (conc := conc) (growN F rev want)
  have hroo := grow_room (F := F) (rev := rev) (conc := conc) (growN F rev want)
  have hlo := ok.lo
  have gok : (fGrown F rev conc want).Ok := grow_ok _ ok (by omega) (by omega)
  have gid : Idle (fGrown F rev conc want).l := grow_idle _ hi
  have s := shrinkN_eq (fGrown F rev conc want) rev want
  have e : fGrown F rev conc want = grow rev conc (growN F rev want) F := rfl
  rw [← e] at hlen hcnt hlst hroo
  obtain ⟨s1, s2⟩ := shrink_ok (rev := rev) gok (n := shrinkN (fGrown F rev conc want) rev want) (by omega)
  obtain ⟨s3, s4⟩ := shrink_last (rev := rev) (n := shrinkN (fGrown F rev conc want) rev want) (F := fGrown F rev conc want)
  obtain ⟨s5, s6, s7⟩ := shrink_idle (rev := rev) gok gid (n := shrinkN (fGrown F rev conc want) rev want) (by omega)
  have s8 := shrink_glen (rev := rev) (n := shrinkN (fGrown F rev conc want) rev want) (F := fGrown F rev conc want)
  have hml : (fMade F rev want).length = growN F rev want := by simp [fMade]
  have fi : Idle (fScale F rev conc want).1.l := fun x hx => gid x (s5.subset hx)
  have hp := idle_pods (rev := rev) fi
  unfold fScale at hp ⊢
  refine ⟨s1, fun x hx => gid x (s5.subset hx), by rw [s4, hroo], by rw [s3, hlst, hml], by omega, ?_, by omega, fun h => by omega, fun j x hx => ?_, fun x hx => ?_, by omega⟩
  · by_cases h : growN F rev want = 0
    · left; exact List.eq_nil_of_length_eq_zero (by omega)
    · right; exact List.eq_nil_of_length_eq_zero (by omega)
  · have hj : j < growN F rev want := by
      rcases Nat.lt_or_ge j (growN F rev want) with h | h
      · exact h
      · rw [List.getElem?_eq_none (by omega)] at hx; cases hx
    have ex : x = F.last + 1 + j := by
      simp only [fMade, List.getElem?_map, List.getElem?_range hj, Option.map_some, Option.some.injEq] at hx
      exact hx.symm
    refine ⟨ex, ?_⟩
    have h0 : shrinkN (fGrown F rev conc want) rev want = 0 := by omega
    rw [h0]
    show fOf (fGrown F rev conc want).l x = rev
    have hm : (⟨x, rev, ⟨1, conc, []⟩⟩ : AHeld) ∈ (fGrown F rev conc want).l := by rw [ex]; exact grow_mem hj
    have := fFind_of gok.pw hm
    unfold fOf
    rw [this]; rfl
  · unfold fOf
    rw [s6 x hx]; rfl
end
theorem W_FleetRoom {p0 : Int} {p1 : Sl} {xs : List Int} (o1 : Old w0 eI p1 xs) : Calls Pr n_damperlaw11_FleetRoom [I p0, SlV p1].toArray w0 fun e w' => e = .returned (.bool true) ∧ St w0 [] w' := by
  refine law_of (C_damperlaw11_FleetRoom p0 p1) ?_
  unfold F_damperlaw11_FleetRoom
  refine S_known (St.init w0) fun w h => itF rfl ?_
  refine S_within (by omega) (by omega) ?_
  rw [wr (by omega) (by omega)]
  have hk1 : 1 ≤ 1 + p0 % 30 := by omega
  have hk2 : 1 + p0 % 30 ≤ 30 := by omega
  generalize 1 + p0 % 30 = room at hk1 hk2
  refine S_fNew h fun b s w hf h => itF rfl ?_
  refine join_of (fun z w => St w0 [] w) (fun k4 hk4 => ?_) (fun z w h => ⟨rfl, h⟩)
  refine loop_of (fun q y w => ∃ (m : Nat) (lst : Int) (F : AFleet) (s : Seg), y = (lst, (m : Int), ()) ∧ q + m = 60 ∧ F.room = room ∧ F.last ≤ 30 * m ∧ lst ≤ F.last ∧ Idle F.l ∧ (F.l.length : Int) ≤ room ∧ FlS b F s ∧ St w0 [s] w) 60
    ⟨0, 0, _, s, rfl, rfl, rfl, by simp, by simp, by simp [Idle], by simp; omega, hf, h⟩ ?_
  clear hf; (clear h; (try clear w))
  rintro q y w ⟨m, lst, F, s, rfl, hq, hroom, hlast, hlst, hid, hfew, hf, h⟩ again hag
  dsimp only
  refine it (fun hb => ?_) (fun hb => hk4 _ w h.fin)
  refine it (fun hb2 => ?_) (fun hb => hk4 _ w h.fin)
  simp only [decide_eq_true_eq] at hb hb2
  refine dr h fun w h => ?_
  have hol := o1.rd.len
  have hx : xs[m]? = some xs[m] := List.getElem?_eq_getElem (by omega)
  generalize xs[m] = x at hx
  refine (o1.now h).ix encI (by omega) (by simp; omega) fun a ha => ?_
  rw [Int.toNat_natCast] at ha
  refine (o1.now h).ld0 encI ha hx rfl rfl ?_
  refine S_revs h fun vr sr w hr h => ?_
  refine Rd.ckI (o1.now h) ha hx ?_
  refine S_within (by omega) (by omega) ?_
  have hlr := Rw.len encS hr
  have hx3 : [s_a_1, s_a_2, s_b_1][(x % 3).toNat]? = some [s_a_1, s_a_2, s_b_1][(x % 3).toNat]! := by
    have : x % 3 = 0 ∨ x % 3 = 1 ∨ x % 3 = 2 := by omega
    rcases this with e | e | e <;> rw [e] <;> rfl
  generalize [s_a_1, s_a_2, s_b_1][(x % 3).toNat]! = rev at hx3
  refine Rw.ix encS hr (by omega) (by simp; omega) fun a2 ha2 => ?_
  refine Rw.ld0 encS h 0 rfl hr ha2 hx3 rfl rfl ?_
  refine (o1.now h).ix encI (by omega) (by simp; omega) fun a3 ha3 => ?_
  rw [Int.toNat_natCast] at ha3
  refine (o1.now h).ld0 encI ha3 hx rfl rfl ?_
  refine gd (by omega) ?_
  refine S_within (by omega) (by omega) ?_
  have hw0 : 0 ≤ (IntKind.wrap .i64 (Int.tdiv x 3)) % 11 := by omega
  have hw1 : (IntKind.wrap .i64 (Int.tdiv x 3)) % 11 < 11 := by omega
  generalize (IntKind.wrap .i64 (Int.tdiv x 3)) % 11 = want at hw0 hw1
  have hR := scale_room (F := F) (rev := rev) (conc := 1) hf.1 hid (by omega) (by omega) (by omega) hw0
  refine S_fScale h 1 rfl hf (by omega) (by omega) fun v1 v2 s s1 s2 w hf hr1 hr2 h => ?_
  generalize (fScale F rev 1 want).1 = F' at *
  generalize (fScale F rev 1 want).2 = gone at *
  have hml : ((fMade F rev want).length : Int) ≤ 30 := by
    have := growN_eq F rev want
    simp only [fMade, List.length_map, List.length_range]; omega
  generalize fMade F rev want = made at *
  refine S_fPods h 3 rfl hf fun v3 s3 w hr3 h => ?_
  have hl1 := Rw.len encI hr1
  have hl2 := Rw.len encI hr2
  have hl3 := Rw.len encK hr3
  have r1 := hR.few
  have r2 := hR.n1
  have r3 := hR.n2
  have hmm : (if 0 > want then 0 else want) = want := if_neg (by omega)
  have h : St w0 [s3, s2, s1, sr, s] w := h
  have r4 := hR.one
  have r5 := hR.last
  have r6 := hR.room
  have r7 := hR.glen
  rw [fPods] at hl3
  rw [fPods] at r2 r3
  refine join_of (fun z w => z = (false, ()) ∧ St w0 [s3, s2, s1, sr, s] w) (fun k19 hk19 => ?_) (fun z w ⟨hz, h⟩ => ?_)
  · rw [hmm]
    have key : ∀ {w}, St w0 [s3, s2, s1, sr, s] w → L.call Pr n_fleet_Fleet_Live [.pointer (some ⟨b, 0, none⟩)] (.one (.one (.int .i64))) (fun (x23 : Int) =>
          L.ite (decide (x23 > room)) (
            k19 (true, ())) <|
          L.ite (decide (((v3.len : Nat) : Int) > want)) (
            k19 (true, ())) <|
          L.ite (decide (((v3.len : Nat) : Int) < want)) (
            L.call Pr n_fleet_Fleet_Live [.pointer (some ⟨b, 0, none⟩)] (.one (.one (.int .i64))) fun (x24 : Int) =>
            k19 (decide (x24 < room), ())) <|
          k19 (false, ())) w := by
      intro w h
      refine S_fLive h 4 rfl hf ?_
      refine itF (decide_eq_false (by omega)) (itF (decide_eq_false (by omega)) (it (fun hc => ?_) (fun hc => hk19 _ w ⟨rfl, h⟩)))
      simp only [decide_eq_true_eq] at hc
      refine S_fLive h 4 rfl hf ?_
      rw [decide_eq_false (p := ((F'.l.length : Nat) : Int) < room) (by omega)]
      exact hk19 _ w ⟨rfl, h⟩
    refine it (fun hc => ?_) (fun hc => ?_) <;> (try simp only [decide_eq_true_eq, decide_eq_false_iff_not, beq_iff_eq, bne_iff_ne, beq_eq_false_iff_ne, bne_eq_false_iff_eq, Bool.not_eq_true', Bool.not_eq_false', ne_eq, Bool.not_eq_true, Bool.not_eq_false] at hc)
    · refine itF (decide_eq_false ?_) (key h)
      rcases r4 with e | e
      · rw [e] at hl1; simp at hl1; omega
      · rw [e] at hl2; simp at hl2; show ¬ ((v2.len : Nat) : Int) > 0; omega
    · exact key h
  · subst hz
    dsimp only
    refine itF rfl ?_
    refine loop_of (fun q y w => ∃ (j : Nat), y = (if j = 0 then lst else F.last + j, (j : Int), ()) ∧ q + j = made.length ∧ j ≤ made.length ∧ St w0 [s3, s2, s1, sr, s] w) made.length ⟨0, rfl, rfl, by omega, h⟩ ?_
    clear h; (try clear w)
    rintro q2 y w ⟨j, rfl, hq2, hj, h⟩ again2 hag2
    dsimp only
    refine it (fun hc => ?_) (fun hc => ?_) <;> (try simp only [decide_eq_true_eq, decide_eq_false_iff_not, beq_iff_eq, bne_iff_ne, beq_eq_false_iff_ne, bne_eq_false_iff_eq, Bool.not_eq_true', Bool.not_eq_false', ne_eq, Bool.not_eq_true, Bool.not_eq_false] at hc)
    · have hxj : made[j]? = some made[j] := List.getElem?_eq_getElem (by omega)
      obtain ⟨ex, eo⟩ := hR.mad j _ hxj
      generalize made[j] = y at hxj ex eo
      refine Rw.ix encI hr1 (by omega) (by simp; omega) fun a ha => ?_
      rw [Int.toNat_natCast] at ha
      refine Rw.ld0 encI h 2 rfl hr1 ha hxj rfl rfl ?_
      refine itF (decide_eq_false (by split <;> omega)) ?_
      refine Rw.ix encI hr1 (by omega) (by simp; omega) fun a ha => ?_
      rw [Int.toNat_natCast] at ha
      refine Rw.ld0 encI h 2 rfl hr1 ha hxj rfl rfl ?_
      refine S_fOf h 4 rfl hf ?_
      rw [eo, str_eq]
      refine itF (by simp) ?_
      refine Rw.ix encI hr1 (by omega) (by simp; omega) fun a ha => ?_
      rw [Int.toNat_natCast] at ha
      refine Rw.ld0 encI h 2 rfl hr1 ha hxj rfl rfl ?_
      refine hag2 (q2 - 1) _ w (by omega) ⟨j + 1, ?_, by omega, by omega, h⟩
      rw [wr (by omega) (by omega), if_neg (by omega), ex]; congr 1; omega
    have hje : j = made.length := by omega
    refine loop_of (fun q y w => ∃ (j : Nat), y = ((j : Int), ()) ∧ q + j = gone.length ∧ St w0 [s3, s2, s1, sr, s] w) gone.length ⟨0, rfl, rfl, h⟩ ?_
    clear h; (try clear w)
    rintro q3 y w ⟨i, rfl, hq3, h⟩ again3 hag3
    dsimp only
    refine it (fun hd => ?_) (fun hd => ?_) <;> (try simp only [decide_eq_true_eq, decide_eq_false_iff_not, beq_iff_eq, bne_iff_ne, beq_eq_false_iff_ne, bne_eq_false_iff_eq, Bool.not_eq_true', Bool.not_eq_false', ne_eq, Bool.not_eq_true, Bool.not_eq_false] at hd)
    · have hxj : gone[i]? = some gone[i] := List.getElem?_eq_getElem (by omega)
      have eo := hR.gon _ (List.mem_of_getElem? hxj)
      generalize gone[i] = y at hxj eo
      refine Rw.ix encI hr2 (by omega) (by simp; omega) fun a ha => ?_
      rw [Int.toNat_natCast] at ha
      refine Rw.ld0 encI h 1 rfl hr2 ha hxj rfl rfl ?_
      refine S_fOf h 4 rfl hf ?_
      rw [eo, str_eq]
      refine itF (by simp) ?_
      refine hag3 (q3 - 1) _ w (by omega) ⟨i + 1, ?_, by omega, h⟩
      rw [wr (by omega) (by omega)]; simp
    · refine hag (q - 1) _ w (by omega) ⟨m + 1, if j = 0 then lst else F.last + j, F', s, ?_, by omega, by omega, by omega, ?_, hR.idle, by omega, hf, ?_⟩
      · rw [wr (by omega) (by omega)]; simp
      · split <;> omega
      · have h := dl0_ (dl1_ (dl2_ (dl3_ h)))
        exact h
end Go.Proofs.Ytheikjckdnhdhaa
