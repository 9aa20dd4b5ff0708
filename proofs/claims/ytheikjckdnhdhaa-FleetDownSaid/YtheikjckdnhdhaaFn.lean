/- Contracts of functions, and walks of laws (text Fn). No conditions beyond those its theorems state. -/
import Derived.Test.YtheikjckdnhdhaaFm
set_option linter.all false
namespace Go.Proofs.Ytheikjckdnhdhaa
open Go.Dm
attribute [local irreducible] L.load L.store L.chk L.new L.nonnil L.guard L.ite L.draw L.idx L.sem L.semR L.semU L.chkSem L.next L.call L.callV L.join L.alts L.loop L.begin L.endRound L.range
variable {w0 w : World} {E : List Seg}
/-! ### FleetOnce -/
def onceF (j : Nat) : AFleet := ⟨12, 6, (List.range 6).map fun k : Nat => ⟨(k : Int) + 1, if k < 3 then s_a_1 else s_b_1, ⟨if k < j then 2 else 1, 3, []⟩⟩⟩
def onceA : AFleet := ⟨12, 3, (List.range 3).map fun k : Nat => ⟨(k : Int) + 1, s_a_1, ⟨1, 3, []⟩⟩⟩
theorem o_scale1 : fScale ⟨12, 0, []⟩ s_a_1 3 3 = (onceA, []) := rfl
theorem o_made1 : fMade ⟨12, 0, []⟩ s_a_1 3 = [1, 2, 3] := rfl
theorem o_scale2 : fScale onceA s_b_1 3 3 = (onceF 0, []) := rfl
theorem o_made2 : fMade onceA s_b_1 3 = [4, 5, 6] := rfl
theorem o_up {j : Nat} (h : j < 6) : fUpp (onceF j) ((j : Int) + 1) = (onceF (j + 1), 0) := by
  have : j = 0 ∨ j = 1 ∨ j = 2 ∨ j = 3 ∨ j = 4 ∨ j = 5 := by omega
  rcases this with rfl | rfl | rfl | rfl | rfl | rfl <;> rfl
theorem o_st : ∀ x ∈ (onceF 6).l, x.pod.st = 2 ∧ x.pod.reqs = [] := by
  intro x hx
  obtain ⟨k, hk, rfl⟩ := List.mem_map.1 hx
  simp at hk
  exact ⟨if_pos hk, rfl⟩
/-- who has a request -/
def who (F : AFleet) (q : Int) : Option Int := (fWhere F.l q).map (·.id)
structure OnceI (F : AFleet) (f : Nat → Int) (j : Nat) : Prop where
  sk : sk F.l = sk (onceF 6).l
  st : ∀ x ∈ F.l, x.pod.st = 2
  few : ∀ x ∈ F.l, x.pod.reqs.length ≤ j
  out : ∀ q, q < 1 ∨ 20 ≤ q → who F q = none
  tab : ∀ n : Nat, n < 20 → f n = (who F n).getD 0
theorem OnceI.init : OnceI (onceF 6) (fun _ => 0) 0 := by
  have h : ∀ q, fWhere (onceF 6).l q = none := fun q => List.find?_eq_none.2 fun x hx => by simp [(o_st x hx).2]
  exact ⟨rfl, fun x hx => (o_st x hx).1, fun x hx => by simp [(o_st x hx).2], fun q _ => by rw [who, h]; rfl, fun n _ => by rw [who, h]; rfl⟩
theorem OnceI.take {F : AFleet} {f : Nat → Int} {j : Nat} (I : OnceI F f j) (ok : F.Ok) {rev : ByteArray} {n : Nat} (hn : 1 ≤ n ∧ n < 20) :
    OnceI (fTake F rev n).1 (fun i => if (fTake F rev n).2.2 = true ∧ i = n then (fTake F rev n).2.1 else f i) (j + 1) := by
  refine ⟨(sk_take ok rev n).trans I.sk, fun x hx => ?_, fun x hx => ?_, fun q hq => ?_, fun i hi => ?_⟩
  · obtain ⟨y, hy, -, -, h, -⟩ := mem_take hx; rw [h]; exact I.st y hy
  · obtain ⟨y, hy, -, -, -, -, h⟩ := mem_take hx; have := I.few y hy; omega
  · have := take_where ok rev n q
    unfold who at *
    rw [this, if_neg (by omega)]; exact I.out q hq
  · have := take_where ok rev n i
    have h2 := I.tab i hi
    unfold who at *
    rw [this]
    by_cases hc : (fTake F rev n).2.2 = true ∧ i = n
    · rw [if_pos hc, if_pos ⟨hc.1, by omega⟩]; rfl
    · rw [if_neg hc, if_neg (fun hh => hc ⟨hh.1, by omega⟩)]; exact h2
theorem who_pos {F : AFleet} (ok : F.Ok) {q z : Int} (h : who F q = some z) : ∃ x ∈ F.l, x.id = z ∧ q ∈ x.pod.reqs ∧ 0 < z := by
  unfold who at h
  cases hw : fWhere F.l q with
  | none => rw [hw] at h; cases h
  | some x =>
    rw [hw] at h; cases h
    obtain ⟨h1, h2⟩ := fWhere_some hw
    exact ⟨x, h1, rfl, h2, (ok.rng x h1).1⟩
theorem who_of {F : AFleet} (ok : F.Ok) {x : AHeld} (hx : x ∈ F.l) {q : Int} (hq : q ∈ x.pod.reqs) : who F q = some x.id := by
  unfold who; rw [fWhere_of ok.once hx hq]; rfl
theorem who_iff {F : AFleet} (ok : F.Ok) {x : AHeld} (hx : x ∈ F.l) {q : Int} : who F q = some x.id ↔ q ∈ x.pod.reqs := by
  refine ⟨fun h => ?_, who_of ok hx⟩
  obtain ⟨y, hy, he, hq, -⟩ := who_pos ok h
  have h1 := fFind_of ok.pw hx
  have h2 := fFind_of ok.pw hy
  rw [he, h1] at h2; cases h2; exact hq
def wantL (f : Nat → Int) (k : Int) (i : Nat) : List Int := (rq i).filter fun q => decide (f q.toNat = k)
theorem rq_pw (n : Nat) : (rq n).Pairwise (· < ·) := by
  unfold rq
  rw [List.pairwise_map]
  exact List.pairwise_lt_range.imp fun h => by omega
theorem kill_len {F : AFleet} (ok : F.Ok) {x : AHeld} (hx : x ∈ F.l) : (fUpd F.l x.id fun p => (podKill p).1).length + 1 = F.l.length ∧ fFind (fUpd F.l x.id fun p => (podKill p).1) x.id = none := by
  obtain ⟨A, B, hl⟩ := List.append_of_mem hx
  have pw := ok.pw
  have hlv := ok.live x hx
  rw [hl] at pw ⊢
  rw [fUpd_at pw, kill_eq (by omega), if_pos rfl, List.nil_append]
  rw [List.pairwise_append, List.pairwise_cons] at pw
  refine ⟨by simp; omega, ?_⟩
  unfold fFind
  rw [List.find?_eq_none]
  intro y hy
  simp only [decide_eq_true_eq]
  rcases List.mem_append.1 hy with hy | hy
  · have := pw.2.2 y hy x (by simp); omega
  · have := pw.2.1.1 y hy; omega
theorem W_FleetOnce {p0 : Sl} {p1 : Int} {xs : List Int} (o0 : Old w0 eI p0 xs) : Calls Pr n_damperlaw11_FleetOnce [SlV p0, I p1].toArray w0 fun e w' => e = .returned (.bool true) ∧ St w0 [] w' := by
  refine law_of (C_damperlaw11_FleetOnce p0 p1) ?_
  unfold F_damperlaw11_FleetOnce
  refine S_known (St.init w0) fun w h => itF rfl ?_
  refine S_fNew h fun b s w hf h => itF rfl ?_
  refine S_fScale h 0 rfl hf (by decide) (by decide) fun v1 v2 s s1 s2 w hf hr1 hr2 h => ?_
  rw [o_scale1] at hf
  rw [o_made1] at hr1
  have h : St w0 [s1, s] w := dl0_ h
  refine S_fScale h 1 rfl hf (by decide) (by decide) fun v3 v4 s s3 s4 w hf hr3 hr4 h => ?_
  rw [show (onceA, ([] : List Int)).1 = onceA from rfl] at hr3 hf
  rw [o_scale2] at hf
  rw [o_made2] at hr3
  have h : St w0 [s3, s1, s] w := dl0_ h
  refine nw h ?_; clear h; (try clear w); intro b5 w h
  refine Rw.appRd encI elI h 0 rfl (Rw.lit b5 [] encI rfl rfl (by simp [maxLen])) (hr1.rd encI h 2 rfl) (by simp) (by simp) fun v6 s6 w hr6 _ _ h => ?_
  refine Rw.appRd encI elI h 0 rfl hr6 (hr3.rd encI h 1 rfl) (by simp) (by simp) fun v7 s7 w hr7 _ _ h => ?_
  have h : St w0 [s7, s] w := dl1_ (dl2_ h)
  have hr7 : Rw eI T_int 1 v7 (tab 6 fun i => (i : Int) + 1) s7 := hr7
  have hl7 := Rw.len encI hr7
  rw [tab_len] at hl7
  refine itF (by simp [hl7]) ?_
  refine loop_of (fun q y w => ∃ (j : Nat) (s : Seg), y = ((j : Int), ()) ∧ q + j = 6 ∧ FlS b (onceF j) s ∧ St w0 [s7, s] w) 6 ⟨0, s, rfl, rfl, hf, h⟩ ?_
  clear hf hr6; (clear h; (try clear w))
  rintro q y w ⟨j, s, rfl, hq, hf, h⟩ again hag
  dsimp only
  refine it (fun hd => ?_) (fun hd => ?_) <;> (try simp only [decide_eq_true_eq, decide_eq_false_iff_not, beq_iff_eq, bne_iff_ne, beq_eq_false_iff_ne, bne_eq_false_iff_eq, Bool.not_eq_true', Bool.not_eq_false', ne_eq, Bool.not_eq_true, Bool.not_eq_false] at hd)
  · refine Rw.ix encI hr7 (by omega) (by rw [tab_len]; omega) fun a ha => ?_
    rw [Int.toNat_natCast] at ha
    refine Rw.ld0 encI h 0 rfl hr7 ha (tab_at (by omega)) rfl rfl ?_
    refine S_fUpp h 1 rfl hf fun s w hf h => ?_
    rw [o_up (by omega)] at hf ⊢
    refine itF rfl ?_
    refine hag (q - 1) _ w (by omega) ⟨j + 1, s, ?_, by omega, hf, h⟩
    rw [wr (by omega) (by omega)]; simp
  have hj : j = 6 := by omega
  subst hj
  refine mkN elI encI 0 rfl h (by decide) (by decide) (by decide) fun v13 s13 w hr13 h => ?_
  have hr13 : Rw eI T_int 1 v13 (tab 20 fun _ => 0) s13 := hr13
  refine join_of (fun z w => ∃ (F : AFleet) (f : Nat → Int) (s s13 : Seg), OnceI F f 40 ∧ FlS b F s ∧ Rw eI T_int 1 v13 (tab 20 f) s13 ∧ St w0 [s13, s7, s] w) (fun k14 hk14 => ?_) (fun z w ⟨F, f, s, s13, hI, hf, hr13, h⟩ => ?_)
  · refine loop_of (fun q y w => ∃ (j : Nat) (F : AFleet) (f : Nat → Int) (s s13 : Seg), y = ((j : Int), ()) ∧ q + j = 40 ∧ OnceI F f j ∧ FlS b F s ∧ Rw eI T_int 1 v13 (tab 20 f) s13 ∧ St w0 [s13, s7, s] w) 40 ⟨0, _, _, s, s13, rfl, rfl, OnceI.init, hf, hr13, h⟩ ?_
    clear hf hr13; (clear h; (try clear w))
    rintro q y w ⟨j, F, f, s, s13, rfl, hq, hI, hf, hr13, h⟩ again hag
    dsimp only
    have stop : ∀ {w}, St w0 [s13, s7, s] w → k14 () w := fun h => hk14 _ _ ⟨F, f, s, s13, ⟨hI.sk, hI.st, fun x hx => Nat.le_trans (hI.few x hx) (by omega), hI.out, hI.tab⟩, hf, hr13, h⟩
    refine it (fun hb => ?_) (fun _ => stop h)
    refine it (fun hb2 => ?_) (fun _ => stop h)
    simp only [decide_eq_true_eq] at hb hb2
    have hol := o0.rd.len
    have hx : xs[j]? = some xs[j] := List.getElem?_eq_getElem (by omega)
    generalize xs[j] = x at hx
    refine join_of (fun z w => ∃ (F : AFleet) (f : Nat → Int) (s s13 : Seg), OnceI F f (j + 1) ∧ FlS b F s ∧ Rw eI T_int 1 v13 (tab 20 f) s13 ∧ St w0 [s13, s7, s] w) (fun k18 hk18 => ?_) (fun z w ⟨F, f, s, s13, hI, hf, hr13, h⟩ => ?_)
    · refine (o0.now h).ix encI (by omega) (by simp; omega) fun a ha => ?_
      rw [Int.toNat_natCast] at ha
      refine (o0.now h).ld0 encI ha hx rfl rfl ?_
      refine S_within (by omega) (by omega) ?_
      rw [wr (by omega) (by omega)]
      obtain ⟨n, hn⟩ := Int.eq_ofNat_of_zero_le (show 0 ≤ 1 + x % 19 by omega)
      have hn1 : 1 ≤ n ∧ n < 20 := by omega
      rw [hn]
      refine nw h ?_; clear h; (try clear w); intro b23 w h
      refine (o0.now h).ix encI (by omega) (by simp; omega) fun a2 ha2 => ?_
      rw [Int.toNat_natCast] at ha2
      refine (o0.now h).ld0 encI ha2 hx rfl rfl ?_
      refine gd (by omega) ?_
      refine S_within (by omega) (by omega) ?_
      have hx2 : ∃ rev, [s_a_1, s_b_1][((IntKind.wrap .i64 (Int.tdiv x 19)) % 2).toNat]? = some rev := by
        have : (IntKind.wrap .i64 (Int.tdiv x 19)) % 2 = 0 ∨ (IntKind.wrap .i64 (Int.tdiv x 19)) % 2 = 1 := by omega
        rcases this with e | e <;> rw [e] <;> exact ⟨_, rfl⟩
      obtain ⟨rev, hrev⟩ := hx2
      have hrl : Rw eS T_string 1 ⟨some ⟨b23, 0, none⟩, 2, 2⟩ [s_a_1, s_b_1] [Cl b23 T_string [.string s_a_1, .string s_b_1]] := Rw.lit b23 _ encS rfl rfl (by simp [maxLen])
      refine Rw.ix (v := ⟨some ⟨b23, 0, none⟩, 2, 2⟩) encS hrl (by omega) (by simp; omega) fun a3 ha3 => ?_
      refine Rw.ld0 encS h 0 rfl hrl ha3 hrev rfl rfl ?_
      have h : St w0 [s13, s7, s] w := dl0_ h
      have ok := hf.1
      have h6 := sk_len hI.sk
      have h66 : (onceF 6).l.length = 6 := rfl
      have hcnt : (revs F.l rev).length ≤ 20 := Nat.le_trans (List.length_filter_le ..) (by omega)
      have hT := hI.take ok (rev := rev) hn1
      have hsp := take_spec ok (rev := rev) (q := n)
      have hfn := hI.tab n hn1.2
      have hsk := sk_take ok rev n
      refine S_fTake h 2 rfl hf hcnt (fun y hy => by have := hI.few y hy; omega) fun s w hf h => ?_
      have h : St w0 [s13, s7, s] w := h
      generalize fTake F rev n = r at hf hT hsp hsk
      obtain ⟨F', id, is⟩ := r
      simp only at hf hT hsp hsk
      dsimp only
      cases is with
      | false =>
        refine join_of (fun z w => St w0 [s13, s7, s] w) (fun k30 hk30 => ?_) (fun z w h => ?_)
        · exact itF rfl (itF rfl (hk30 _ w h))
        · simp only [Bool.false_eq_true, false_and, if_false] at hT
          exact itF rfl (hk18 _ w ⟨F', f, s, s13, hT, hf, hr13, h⟩)
      | true =>
        obtain ⟨hw, hof, hpos⟩ := hsp rfl
        have hof : fOf F'.l id = rev := by rw [fOf_sk hsk]; exact hof
        have hfn : f n = 0 := by rw [hfn]; unfold who; rw [hw]; rfl
        refine join_of (fun z w => St w0 [s13, s7, s] w) (fun k30 hk30 => ?_) (fun z w h => ?_)
        · refine itT rfl ?_
          refine Rw.ix encI hr13 (by omega) (by rw [tab_len]; omega) fun a4 ha4 => ?_
          rw [Int.toNat_natCast] at ha4
          refine Rw.ld0 encI h 0 rfl hr13 ha4 (tab_at (by omega)) rfl rfl ?_
          rw [hfn]
          refine itF rfl (itT rfl ?_)
          refine S_fOf h 2 rfl hf ?_
          rw [hof, str_eq]
          exact itF (by simp) (hk30 _ w h)
        · refine itT rfl ?_
          refine Rw.ix encI hr13 (by omega) (by rw [tab_len]; omega) fun a4 ha4 => ?_
          rw [Int.toNat_natCast] at ha4
          refine Rw.stI h 0 rfl hr13 ha4 (by rw [tab_len]; omega) id fun s13 w hr13 h => ?_
          rw [tab_set] at hr13
          simp only [true_and] at hT
          exact hk18 _ w ⟨F', _, s, s13, hT, hf, hr13, h⟩
    · refine hag (q - 1) _ w (by omega) ⟨j + 1, F, f, s, s13, ?_, by omega, hI, hf, hr13, h⟩
      rw [wr (by omega) (by omega)]; simp
  · refine S_within (by omega) (by omega) ?_
    obtain ⟨n, hn⟩ := Int.eq_ofNat_of_zero_le (show 0 ≤ p1 % 6 by omega)
    have hn6 : n < 6 := by omega
    rw [hn]
    refine Rw.ix encI hr7 (by omega) (by rw [tab_len]; omega) fun a ha => ?_
    rw [Int.toNat_natCast] at ha
    refine Rw.ld0 encI h 1 rfl hr7 ha (tab_at hn6) rfl rfl ?_
    have ok := hf.1
    have hnd := hf.nd
    obtain ⟨x, hx, hid⟩ : ∃ x ∈ F.l, x.id = (n : Int) + 1 := by
      have : (((n : Int) + 1, if n < 3 then s_a_1 else s_b_1) : Int × ByteArray) ∈ sk F.l := by
        rw [hI.sk]
        exact List.mem_map.2 ⟨_, List.mem_map.2 ⟨n, by simp [hn6], rfl⟩, rfl⟩
      obtain ⟨x, hx, e⟩ := List.mem_map.1 this
      exact ⟨x, hx, congrArg Prod.fst e⟩
    rw [← hid]
    have hfx := fFind_of ok.pw hx
    have hl6 : F.l.length = 6 := sk_len hI.sk
    refine loop_of (fun q y w => ∃ (i : Nat) (v : Sl) (sw : Seg), y = (v, (i : Int) + 1, ()) ∧ q + i = 19 ∧ Rw eI T_int 1 v (wantL f x.id i) sw ∧ St w0 [sw, s13, s7, s] w) 19 ⟨0, ⟨none, 0, 0⟩, [], rfl, rfl, Rw.nil, h.eq (by simp)⟩ ?_
    clear h; (try clear w)
    rintro q y w ⟨i, v, sw, rfl, hq, hv, h⟩ again hag
    dsimp only
    have hwl : (wantL f x.id i).length ≤ i := by
      have := List.length_filter_le (fun q : Int => decide (f q.toNat = x.id)) (rq i)
      rw [rq_len] at this; exact this
    refine it (fun hd => ?_) (fun hd => ?_) <;> (try simp only [decide_eq_true_eq, decide_eq_false_iff_not, beq_iff_eq, bne_iff_ne, beq_eq_false_iff_ne, bne_eq_false_iff_eq, Bool.not_eq_true', Bool.not_eq_false', ne_eq, Bool.not_eq_true, Bool.not_eq_false] at hd)
    · have ws : wantL f x.id (i + 1) = wantL f x.id i ++ if f (i + 1) = x.id then [(i : Int) + 1] else [] := by
        unfold wantL
        rw [rq_succ, List.filter_append]
        congr 1
        have : ((i : Int) + 1).toNat = i + 1 := by omega
        by_cases e : f (i + 1) = x.id <;> simp [this, e]
      refine join_of (fun z w => ∃ (v : Sl) (sw : Seg), z = (v, ()) ∧ Rw eI T_int 1 v (wantL f x.id (i + 1)) sw ∧ St w0 [sw, s13, s7, s] w) (fun k42 hk42 => ?_) (fun z w ⟨v, sw, hz, hv, h⟩ => ?_)
      · refine Rw.ix encI hr13 (by omega) (by rw [tab_len]; omega) fun a ha => ?_
        rw [show ((i : Int) + 1).toNat = i + 1 by omega] at ha
        refine Rw.ld0 encI h 1 rfl hr13 ha (tab_at (by omega)) rfl rfl ?_
        refine it (fun he => ?_) (fun he => ?_) <;> (try simp only [decide_eq_true_eq, decide_eq_false_iff_not, beq_iff_eq, bne_iff_ne, beq_eq_false_iff_ne, bne_eq_false_iff_eq, Bool.not_eq_true', Bool.not_eq_false', ne_eq, Bool.not_eq_true, Bool.not_eq_false] at he)
        · rw [if_pos he] at ws
          refine nw h ?_; clear h; (try clear w); intro b46 w h
          refine Rw.app encI elI h 0 rfl hv ((i : Int) + 1) rfl (by omega) (by omega) fun v' s' w hv' h => ?_
          exact hk42 _ w ⟨v', s', rfl, by rw [ws]; exact hv', h⟩
        · rw [if_neg he, List.append_nil] at ws
          exact hk42 _ w ⟨v, sw, rfl, by rw [ws]; exact hv, h⟩
      · subst hz
        refine hag (q - 1) _ w (by omega) ⟨i + 1, v, sw, ?_, by omega, hv, h⟩
        rw [wr (by omega) (by omega)]; simp
    have hi19 : i = 19 := by omega
    subst hi19
    have ek : fKill F x.id = ({ F with l := fUpd F.l x.id fun p => (podKill p).1 }, x.pod.reqs, 0) := by unfold fKill; rw [hfx]
    obtain ⟨kl1, kl2⟩ := kill_len ok hx
    have hkl := kill_eq (p := x.pod) (by have := ok.live x hx; omega)
    have hkw : ∀ q, who (fKill F x.id).1 q = if q ∈ x.pod.reqs then none else who F q := fun q => by
      rw [ek]
      unfold who
      rw [ok.where_upd hfx (fun p => (podKill p).1) (fun q2 h2 => by rw [hkl] at h2; simp at h2) (fun _ => by rw [hkl]), if_neg (c := q ∈ (podKill x.pod).1.reqs) (by rw [hkl]; simp)]
    have heq : x.pod.reqs = wantL f x.id 19 := by
      refine eq_of_lt (hnd x hx) ((rq_pw 19).filter _) fun q => ?_
      unfold wantL
      rw [List.mem_filter, rq_mem, decide_eq_true_eq]
      have hxp := (ok.rng x hx).1
      constructor
      · intro hq
        have hw := who_of ok hx hq
        have hr : 1 ≤ q ∧ q < 20 := by
          apply Classical.byContradiction; intro hc
          have := hI.out q (by omega)
          rw [this] at hw; cases hw
        refine ⟨by omega, ?_⟩
        rw [hI.tab q.toNat (by omega), show ((q.toNat : Nat) : Int) = q by omega, hw]; rfl
      · rintro ⟨hr, hq⟩
        rw [hI.tab q.toNat (by omega), show ((q.toNat : Nat) : Int) = q by omega] at hq
        refine (who_iff ok hx).1 ?_
        cases hw : who F q with
        | none => rw [hw] at hq; simp at hq; omega
        | some z => rw [hw] at hq; simp at hq; rw [hq]
    refine S_fKill h 3 rfl hf fun v2 s s2 w hf hr2 h => ?_
    have hok := hf.1
    have hl5 : ((fKill F x.id).1.l.length : Int) = 5 := by rw [ek]; show ((fUpd F.l x.id fun p => (podKill p).1).length : Int) = 5; omega
    have hof : fOf (fKill F x.id).1.l x.id = s_ := by rw [ek]; unfold fOf; rw [show fFind ({ F with l := fUpd F.l x.id fun p => (podKill p).1 } : AFleet).l x.id = none from kl2]; rfl
    have e2 : (fKill F x.id).2 = (x.pod.reqs, 0) := by rw [ek]
    rw [e2] at hr2 ⊢
    generalize (fKill F x.id).1 = F1 at hf hkw hl5 hof hok
    refine itF rfl ?_
    have h : St w0 [s2, sw, s13, s7, s] w := h
    have hfewx := hI.few x hx
    refine S_Ints h (Rw.re encI 0 rfl hr2) (Rw.re encI 1 rfl hv) (by simp only; omega) fun w h => ?_
    rw [decide_eq_true heq]
    refine itF rfl ?_
    refine S_fOf h 4 rfl hf ?_
    rw [hof, str_eq]
    refine itF (by simp) ?_
    refine S_fLive h 4 rfl hf (itF (by rw [hl5]; rfl) ?_)
    have h : St w0 [s13, s7, s] w := dl0_ (dl0_ h)
    refine loop_of (fun q y w => ∃ (i : Nat) (F : AFleet) (s : Seg), y = ((i : Int) + 1, ()) ∧ q + i = 19 ∧ FlS b F s ∧ (∀ q : Int, i < q → who F q = who F1 q) ∧ St w0 [s13, s7, s] w) 19 ⟨0, F1, s, rfl, rfl, hf, fun _ _ => rfl, h⟩ ?_
    clear hf hr2; (clear h; (try clear w))
    rintro q y w ⟨i, F2, s, rfl, hq, hf, hwh, h⟩ again hag
    dsimp only
    refine it (fun hd => ?_) (fun hd => ?_) <;> (try simp only [decide_eq_true_eq, decide_eq_false_iff_not, beq_iff_eq, bne_iff_ne, beq_eq_false_iff_ne, bne_eq_false_iff_eq, Bool.not_eq_true', Bool.not_eq_false', ne_eq, Bool.not_eq_true, Bool.not_eq_false] at hd)
    · have hgw := give_where hf.1 (fun y hy => nodup_of_lt (hf.nd y hy)) ((i : Int) + 1)
      have hgr := give_res F2 ((i : Int) + 1)
      have hwi := hwh ((i : Int) + 1) (by omega)
      have hki := hkw ((i : Int) + 1)
      have hti := hI.tab (i + 1) (by omega)
      have hco : ((i + 1 : Nat) : Int) = (i : Int) + 1 := by omega
      rw [hco] at hti
      have hiff := who_iff ok hx (q := (i : Int) + 1)
      have hpos : ∀ z, who F ((i : Int) + 1) = some z → 0 < z := fun z hz => (who_pos ok hz).choose_spec.2.2.2
      refine join_of (fun z w => ∃ (F : AFleet) (s : Seg), FlS b F s ∧ (∀ q : Int, (i : Int) + 1 < q → who F q = who F1 q) ∧ St w0 [s13, s7, s] w) (fun k54 hk54 => ?_) (fun z w ⟨F, s, hf, hwh, h⟩ => ?_)
      · refine S_fGive h 2 rfl hf fun s w hf h => ?_
        have h : St w0 [s13, s7, s] w := h
        have ok54 : k54 () w := hk54 _ w ⟨_, s, hf, fun q hq => by
          have := hgw q
          unfold who at *
          rw [this, if_neg (by omega)]; exact hwh q (by omega), h⟩
        have he : ((fGive F2 ((i : Int) + 1)).2.2 == 0) = (decide (f (i + 1) > 0) && (f (i + 1) != x.id)) := by
          have hs : (fWhere F2.l ((i : Int) + 1)).isSome = (who F2 ((i : Int) + 1)).isSome := by unfold who; cases fWhere F2.l ((i : Int) + 1) <;> rfl
          rw [hgr, hs, hwi, hki, hti]
          cases hw : who F ((i : Int) + 1) with
          | none => simp
          | some z =>
            have := hpos z hw
            rw [hw] at hiff
            by_cases hq : (i : Int) + 1 ∈ x.pod.reqs
            · have := hiff.2 hq
              cases this
              simp [hq]
            · have : ¬ z = x.id := fun e => hq (hiff.1 (by rw [e]))
              simp [hq, this]; omega
        refine Rw.ix encI hr13 (by omega) (by rw [tab_len]; omega) fun a ha => ?_
        rw [show ((i : Int) + 1).toNat = i + 1 by omega] at ha
        refine Rw.ld0 encI h 0 rfl hr13 ha (tab_at (by omega)) rfl rfl ?_
        refine it (fun hp => ?_) (fun hp => ?_)
        · refine Rw.ix encI hr13 (by omega) (by rw [tab_len]; omega) fun a ha => ?_
          rw [show ((i : Int) + 1).toNat = i + 1 by omega] at ha
          refine Rw.ld0 encI h 0 rfl hr13 ha (tab_at (by omega)) rfl rfl ?_
          rw [hp, Bool.true_and] at he
          exact itF (by simp only; rw [he]; simp) ok54
        · rw [hp, Bool.false_and] at he
          exact itF (by simp only; rw [he]; rfl) ok54
      · refine hag (q - 1) _ w (by omega) ⟨i + 1, F, s, ?_, by omega, hf, fun q hq => hwh q (by omega), h⟩
        rw [wr (by omega) (by omega)]; simp
    · exact ⟨rfl, h.fin⟩
end Go.Proofs.Ytheikjckdnhdhaa
