/- Contracts of functions, and walks of laws (text Fq). No conditions beyond those its theorems state. -/
import Derived.Test.YtheikjckdnhdhaaFp
set_option linter.all false
namespace Go.Proofs.Ytheikjckdnhdhaa
open Go.Dm
attribute [local irreducible] L.load L.store L.chk L.new L.nonnil L.guard L.ite L.draw L.idx L.sem L.semR L.semU L.chkSem L.next L.call L.callV L.join L.alts L.loop L.begin L.endRound L.range
variable {w0 w : World} {E : List Seg}
def eB (x : Bool) : List Value := [.bool x]
theorem encB : Enc eB 1 := ⟨fun _ => rfl, fun _ => rfl, by decide⟩
theorem elB : El Pr T_s_bool T_bool 1 1 (.bool false) := el_of (by kernel_rfl) (by kernel_rfl) rfl (by decide)
theorem Rw.stB {v : Sl} {l : List Bool} {s : Seg} {e : Nat} (h : St w0 E w) (k : Nat) (hi : nth E k = some s) (hr : Rw eB e 1 v l s) {i : Nat} {a : Addr} (ha : ElA v 1 i a) (hx : i < l.length) (y : Bool) {kk : PT}
    (hk : ∀ s' w', Rw eB e 1 v (l.set i y) s' → St w0 (setN E k s') w' → kk w') : L.store a [.bool y] kk w := by
  have := Rw.st encB h k hi hr ha (x := l[i]) (y := y) (List.getElem?_eq_getElem hx) (f := 0) (u := .bool y) (by decide) rfl rfl hk
  rwa [add_zero'] at this
theorem pf_same {n : Nat} {c : Int} {ready : Nat → Bool} {rs : Nat → List Int} (ok : (PF n c ready rs).Ok) {k k' : Nat} (h1 : k < n) (h2 : k' < n) {q : Int} (hq1 : q ∈ rs k) (hq2 : q ∈ rs k') : k = k' := by
  have e1 := fWhere_of ok.once (x := pG c ready rs k) (tab_mem.2 ⟨k, h1, rfl⟩) hq1
  have e2 := fWhere_of ok.once (x := pG c ready rs k') (tab_mem.2 ⟨k', h2, rfl⟩) hq2
  rw [e1] at e2
  have := congrArg AHeld.id (Option.some.inj e2)
  simp only [pG] at this; omega
def bv : Option Nat → Int
  | none => -1
  | some k => k
theorem pick_no {o : Option AHeld} {x : AHeld} (h : ¬ can x = true) : pickStep o x = o := by
  cases o with
  | none => simp only [pickStep]; rw [if_neg h]
  | some y => simp only [pickStep]; rw [if_neg (fun hh => h hh.1)]
structure PickI (n : Nat) (rs : Nat → List Int) (wl : List Int) : Prop where
  rng : ∀ k, k < n → ∀ q ∈ rs k, 1 ≤ q ∧ q ≤ wl.length
  wh : ∀ (i : Nat) (z : Int), wl[i]? = some z → (z = -1 ∧ ∀ k, k < n → (i : Int) + 1 ∉ rs k) ∨ ∃ k : Nat, k < n ∧ z = k ∧ (i : Int) + 1 ∈ rs k
theorem PickI.none {n : Nat} {rs : Nat → List Int} {wl : List Int} (I : PickI n rs wl) : PickI n rs (wl ++ [-1]) := by
  refine ⟨fun k hk q hq => ?_, fun i z hz => ?_⟩
  · have := I.rng k hk q hq; simp; omega
  · rw [List.getElem?_append] at hz
    split at hz
    · exact I.wh i z hz
    · rename_i hlt
      have : i = wl.length := by
        rcases Nat.lt_or_ge i (wl.length + 1) with h | h
        · omega
        · rw [List.getElem?_eq_none (by simp; omega)] at hz; cases hz
      subst this
      simp at hz; subst hz
      refine .inl ⟨rfl, fun k hk hq => ?_⟩
      have := I.rng k hk _ hq; omega
theorem PickI.some {n : Nat} {rs : Nat → List Int} {wl : List Int} (I : PickI n rs wl) {k : Nat} (hk : k < n) : PickI n (fun i => if i = k then insI ((wl.length : Int) + 1) (rs k) else rs i) (wl ++ [(k : Int)]) := by
  refine ⟨fun j hj q hq => ?_, fun i z hz => ?_⟩
  · rw [List.length_append, List.length_singleton]
    split at hq
    · rcases insI_mem.1 hq with rfl | hq
      · omega
      · have := I.rng k hk q hq; omega
    · have := I.rng j hj q hq; omega
  · rw [List.getElem?_append] at hz
    split at hz
    · rename_i hlt
      rcases I.wh i z hz with ⟨rfl, h⟩ | ⟨k', hk', rfl, h⟩
      · refine .inl ⟨rfl, fun j hj hq => ?_⟩
        split at hq
        · rcases insI_mem.1 hq with e | hq
          · omega
          · exact h k hk hq
        · exact h j hj hq
      · refine .inr ⟨k', hk', rfl, ?_⟩
        split
        · rename_i e; subst e; exact insI_mem.2 (.inr h)
        · exact h
    · rename_i hlt
      have : i = wl.length := by
        rcases Nat.lt_or_ge i (wl.length + 1) with h | h
        · omega
        · rw [List.getElem?_eq_none (by simp; omega)] at hz; cases hz
      subst this
      simp at hz; subst hz
      exact .inr ⟨k, hk, rfl, by simp only [if_pos]; exact insI_mem.2 (.inl rfl)⟩
theorem PickI.give {n : Nat} {c : Int} {ready : Nat → Bool} {rs : Nat → List Int} {wl : List Int} (I : PickI n rs wl) (ok : (PF n c ready rs).Ok) (nd : ∀ k, k < n → (rs k).Nodup) {q k : Nat} (hk : k < n) (hq : (q : Int) + 1 ∈ rs k) :
    PickI n (fun i => if i = k then (rs k).erase ((q : Int) + 1) else rs i) (wl.set q (-1)) := by
  refine ⟨fun j hj p hp => ?_, fun i z hz => ?_⟩
  · rw [List.length_set]
    split at hp
    · exact I.rng k hk p (List.mem_of_mem_erase hp)
    · exact I.rng j hj p hp
  · rw [List.getElem?_set] at hz
    split at hz
    · rename_i e; subst e
      split at hz
      · cases hz
        refine .inl ⟨rfl, fun j hj hp => ?_⟩
        split at hp
        · rw [List.Nodup.mem_erase_iff (nd k hk)] at hp; exact hp.1 rfl
        · rename_i hjk; exact hjk (pf_same ok hj hk hp hq)
      · cases hz
    · rename_i hne
      rcases I.wh i z hz with ⟨rfl, h⟩ | ⟨k', hk', rfl, h⟩
      · refine .inl ⟨rfl, fun j hj hp => ?_⟩
        split at hp
        · exact h k hk (List.mem_of_mem_erase hp)
        · exact h j hj hp
      · refine .inr ⟨k', hk', rfl, ?_⟩
        split
        · rename_i e; subst e; exact (List.Nodup.mem_erase_iff (nd k' hk)).2 ⟨by omega, h⟩
        · exact h
theorem W_FleetPicks {p0 p1 : Int} {p2 p3 : Sl} {us : List Bool} {xs : List Int} (o2 : Old w0 eB p2 us) (o3 : Old w0 eI p3 xs) : Calls Pr n_damperlaw11_FleetPicks [I p0, I p1, SlV p2, SlV p3].toArray w0 fun e w' => e = .returned (.bool true) ∧ St w0 [] w' := by
  refine law_of (C_damperlaw11_FleetPicks p0 p1 p2 p3) ?_
  unfold F_damperlaw11_FleetPicks
  refine S_known (St.init w0) fun w h => itF rfl ?_
  refine S_fNew h fun b s w hf h => itF rfl ?_
  refine S_within (by omega) (by omega) ?_
  refine S_within (by omega) (by omega) ?_
  rw [wr (n := 1 + p0 % 8) (by omega) (by omega), wr (n := 1 + p1 % 4) (by omega) (by omega)]
  obtain ⟨n, hn⟩ := Int.eq_ofNat_of_zero_le (show 0 ≤ 1 + p0 % 8 by omega)
  have hn1 : 1 ≤ n ∧ n ≤ 8 := by omega
  rw [hn]
  have hc1 : 1 ≤ 1 + p1 % 4 := by omega
  have hc2 : 1 + p1 % 4 ≤ 4 := by omega
  generalize 1 + p1 % 4 = c at hc1 hc2
  obtain ⟨ps1, ps2⟩ := pf_scale c (n := n) (by omega)
  refine S_fScale h 0 rfl hf (by decide) (by decide) fun v1 v2 s s1 s2 w hf hr1 hr2 h => ?_
  rw [ps1] at hf
  rw [ps2] at hr1
  have h : St w0 [s1, s] w := dl0_ h
  have hl1 := Rw.len encI hr1
  rw [tab_len] at hl1
  refine itF (by simp [hl1]) ?_
  refine mkN elI encI 0 rfl h (by omega) (by omega) (by omega) fun v6 s6 w hr6 h => ?_
  refine mkN elB encB false rfl h (by omega) (by omega) (by omega) fun v7 s7 w hr7 h => ?_
  rw [Int.toNat_natCast] at hr6 hr7
  have rep : ∀ {α : Type} (x : α), List.replicate n x = tab n fun _ => x := fun x => by
    unfold tab; rw [List.map_const', List.length_range]
  rw [rep] at hr6 hr7
  let up : Nat → Bool := fun i => (us[i]?).getD true
  have hlu := o2.rd.len
  have hol := o3.rd.len
  refine loop_of (fun q y w => ∃ (m : Nat) (s s7 : Seg), y = ((m : Int), ()) ∧ q + m = n ∧ FlS b (PF n c (fun i => decide (i < m) && up i) fun _ => []) s ∧ Rw eB T_bool 1 v7 (tab n fun i => decide (i < m) && up i) s7 ∧ St w0 [s7, s6, s1, s] w) n
    ⟨0, s, s7, rfl, rfl, by simpa using hf, by simpa using hr7, h⟩ ?_
  clear hf hr7; (clear h; (try clear w))
  rintro q y w ⟨m, s, s7, rfl, hq, hf, hr7, h⟩ again hag
  dsimp only
  refine it (fun hd => ?_) (fun hd => ?_) <;> (try simp only [decide_eq_true_eq, decide_eq_false_iff_not, beq_iff_eq, bne_iff_ne, beq_eq_false_iff_ne, bne_eq_false_iff_eq, Bool.not_eq_true', Bool.not_eq_false', ne_eq, Bool.not_eq_true, Bool.not_eq_false] at hd)
  · have hm : m < n := by omega
    have e1 : up m = true → (fun i => if i = m then true else decide (i < m) && up i) = fun i => decide (i < m + 1) && up i := fun hu => by
      funext i
      by_cases e : i = m
      · subst e; simp [hu]
      · have : decide (i < m) = decide (i < m + 1) := by by_cases h : i < m <;> simp [h] <;> omega
        simp only [if_neg e, this]
    have e2 : up m = false → (fun i => decide (i < m) && up i) = fun i => decide (i < m + 1) && up i := fun hu => by
      funext i
      by_cases e : i = m
      · subst e; simp [hu]
      · have : decide (i < m) = decide (i < m + 1) := by by_cases h : i < m <;> simp [h] <;> omega
        simp only [this]
    refine join_of (fun z w => ∃ (s s7 : Seg), FlS b (PF n c (fun i => decide (i < m + 1) && up i) fun _ => []) s ∧ Rw eB T_bool 1 v7 (tab n fun i => decide (i < m + 1) && up i) s7 ∧ St w0 [s7, s6, s1, s] w) (fun k10 hk10 => ?_) (fun z w ⟨s, s7, hf, hr7, h⟩ => ?_)
    · have go : up m = true → L.call Pr n_fleet_Fleet_Up [.pointer (some ⟨b, 0, none⟩), .int .i64 (IntKind.wrap .i64 ((m : Int) + 1))] (.one (.one (.int .i64))) (fun (x14 : Int) =>
          L.idx v7.a (m : Int) v7.len 1 fun a15 => L.store a15 [.bool (x14 == 0)] <| k10 (())) w := by
        intro hu
        rw [wr (by omega) (by omega)]
        refine S_fUpp h 3 rfl hf fun s w hf h => ?_
        rw [pf_up hm (by simp)] at hf ⊢
        refine Rw.ix encB hr7 (by omega) (by rw [tab_len]; simpa using hm) fun a ha => ?_
        rw [Int.toNat_natCast] at ha
        refine Rw.stB h 0 rfl hr7 ha (by rw [tab_len]; exact hm) true fun s7 w hr7 h => ?_
        rw [tab_set, e1 hu] at hr7
        simp only at hf
        rw [e1 hu] at hf
        exact hk10 _ w ⟨s, s7, hf, hr7, h⟩
      refine Rw.ix encI hr1 (by omega) (by rw [tab_len]; simpa using hm) fun a ha => ?_
      rw [Int.toNat_natCast] at ha
      refine Rw.ld0 encI h 2 rfl hr1 ha (tab_at hm) rfl rfl ?_
      refine itF (by rw [wr (by omega) (by omega)]; simp) ?_
      refine it (fun he => ?_) (fun he => ?_) <;> (try simp only [decide_eq_true_eq, decide_eq_false_iff_not, beq_iff_eq, bne_iff_ne, beq_eq_false_iff_ne, bne_eq_false_iff_eq, Bool.not_eq_true', Bool.not_eq_false', ne_eq, Bool.not_eq_true, Bool.not_eq_false] at he)
      · exact go (by show (us[m]?).getD true = true; rw [List.getElem?_eq_none (by omega)]; rfl)
      · have hx : us[m]? = some us[m] := List.getElem?_eq_getElem (by omega)
        have hup : up m = us[m] := by show (us[m]?).getD true = _; rw [hx]; rfl
        refine (o2.now h).ix encB (by omega) (by simp; omega) fun a ha => ?_
        rw [Int.toNat_natCast] at ha
        refine (o2.now h).ld0 encB ha hx rfl rfl ?_
        refine it (fun hu => go (by rw [hup]; exact hu)) (fun hu => ?_)
        rw [e2 (by rw [hup]; exact hu)] at hf hr7
        exact hk10 _ w ⟨s, s7, hf, hr7, h⟩
    · refine hag (q - 1) _ w (by omega) ⟨m + 1, s, s7, ?_, by omega, hf, hr7, h⟩
      rw [wr (by omega) (by omega)]; simp
  have hmn : m = n := by omega
  subst hmn
  generalize hrd : (fun i => decide (i < m) && up i) = rd at hf hr7
  have h : St w0 [s7, s6, s] w := dl2_ h
  have fin : ∀ {w : World} {rs : Nat → List Int} {s : Seg} {E : List Seg} (i : Nat), nth E i = some s → FlS b (PF m c rd rs) s → (∀ k, k < m → (rs k).length ≤ 50) → St w0 E w →
      L.call Pr n_fleet_Fleet_Take [.pointer (some ⟨b, 0, none⟩), .string s_a_2, .int .i64 999] (.tup [(.one (.int .i64)), (.one (.bool))]) (fun (x65 : Int × Bool × Unit) =>
        fun w => (Value.bool (!x65.2.1)) = .bool true ∧ St w0 [] w) w := by
    intro w rs s E i hi hf hle h
    have hrv : revs (PF m c rd rs).l s_a_2 = [] := by
      unfold revs
      rw [List.filter_eq_nil_iff]
      intro x hx
      obtain ⟨k, -, rfl⟩ := tab_mem.1 hx
      show ¬ decide (s_a_1 = s_a_2) = true
      decide
    have ht : (fTake (PF m c rd rs) s_a_2 999).2.2 = false := by
      unfold fTake fPick; rw [hrv]; split <;> rfl
    refine S_fTake h i hi hf (by rw [hrv]; simp) (fun x hx => by
      obtain ⟨k, hk, rfl⟩ := tab_mem.1 hx
      have := hle k hk
      show (rs k).length < _; omega) fun s w hf h => ?_
    rw [ht]
    exact ⟨rfl, h.fin⟩
  refine join_of (fun z w => ∃ (rs : Nat → List Int) (s : Seg) (E : List Seg) (i : Nat), nth E i = some s ∧ FlS b (PF m c rd rs) s ∧ (∀ k, k < m → (rs k).length ≤ 50) ∧ St w0 E w) (fun k20 hk20 => ?_) (fun z w ⟨rs, s, E, i, hi, hf, hle, h⟩ => fin i hi hf hle h)
  refine loop_of (fun q y w => ∃ (j : Nat) (v : Sl) (wl : List Int) (rs : Nat → List Int) (s s6 sw : Seg), y = (v, (j : Int), ()) ∧ q + j = 50 ∧ PickI m rs wl ∧ wl.length ≤ j ∧ (∀ k, k < m → (rs k).length ≤ j) ∧ FlS b (PF m c rd rs) s ∧
      Rw eI T_int 1 v wl sw ∧ Rw eI T_int 1 v6 (tab m fun k => ((rs k).length : Int)) s6 ∧ St w0 [sw, s7, s6, s] w) 50
    ⟨0, _, [], fun _ => [], s, s6, [], rfl, rfl, ⟨by simp, by simp⟩, by simp, by simp, hf, Rw.nil, hr6, h.eq (by simp)⟩ ?_
  clear hf hr6; (clear h; (try clear w))
  rintro q y w ⟨j, v, wl, rs, s, s6, sw, rfl, hq, hI, hwl, hrl, hf, hv, hr6, h⟩ again hag
  dsimp only
  have stop : ∀ {w}, St w0 [sw, s7, s6, s] w → k20 () w := fun h => hk20 _ _ ⟨rs, s, _, 3, rfl, hf, fun k hk => Nat.le_trans (hrl k hk) (by omega), h⟩
  refine it (fun hb => ?_) (fun _ => stop h)
  refine it (fun hb2 => ?_) (fun _ => stop h)
  simp only [decide_eq_true_eq] at hb hb2
  have hx : xs[j]? = some xs[j] := List.getElem?_eq_getElem (by omega)
  generalize xs[j] = x at hx
  have hlv := Rw.len encI hv
  have hnd : ∀ k, k < m → (rs k).Nodup := fun k hk => nodup_of_lt (hf.nd (pG c rd rs k) (tab_mem.2 ⟨k, hk, rfl⟩))
  refine join_of (fun z w => ∃ (v : Sl) (wl : List Int) (rs : Nat → List Int) (s s6 sw : Seg), z = (v, ()) ∧ PickI m rs wl ∧ wl.length ≤ j + 1 ∧ (∀ k, k < m → (rs k).length ≤ j + 1) ∧ FlS b (PF m c rd rs) s ∧
      Rw eI T_int 1 v wl sw ∧ Rw eI T_int 1 v6 (tab m fun k => ((rs k).length : Int)) s6 ∧ St w0 [sw, s7, s6, s] w) (fun k24 hk24 => ?_) (fun z w ⟨v, wl, rs, s, s6, sw, hz, hI, hwl, hrl, hf, hv, hr6, h⟩ => ?_)
  · refine join_of (fun z w => St w0 [sw, s7, s6, s] w) (fun k26 hk26 => ?_) (fun z w h => ?_)
    · refine (o3.now h).ix encI (by omega) (by simp; omega) fun a ha => ?_
      rw [Int.toNat_natCast] at ha
      refine (o3.now h).ld0 encI ha hx rfl rfl ?_
      refine S_within (by omega) (by omega) ?_
      refine it (fun _ => ?_) (fun _ => hk26 _ w h)
      refine it (fun hl0 => ?_) (fun _ => hk26 _ w h)
      simp only [decide_eq_true_eq] at hl0
      refine (o3.now h).ix encI (by omega) (by simp; omega) fun a ha => ?_
      rw [Int.toNat_natCast] at ha
      refine (o3.now h).ld0 encI ha hx rfl rfl ?_
      refine gd (by omega) ?_
      refine S_within (by omega) (by omega) ?_
      have hm1 := Int.emod_nonneg (IntKind.wrap .i64 (Int.tdiv x 4)) (show ((v.len : Nat) : Int) ≠ 0 by omega)
      have hm2 := Int.emod_lt_of_pos (IntKind.wrap .i64 (Int.tdiv x 4)) hl0
      obtain ⟨p, hp⟩ := Int.eq_ofNat_of_zero_le hm1
      rw [hp] at hm2 ⊢
      have hpl : p < wl.length := by omega
      have hwp : wl[p]? = some wl[p] := List.getElem?_eq_getElem hpl
      generalize wl[p] = z at hwp
      rw [wr (by omega) (by omega)]
      have ok := hf.1
      have ixw : ∀ {kk : Int → PT} {w : World} {s6 s : Seg}, St w0 [sw, s7, s6, s] w → kk z w → L.idx v.a (p : Int) v.len 1 (fun a => L.load (.one (.int .i64)) a kk) w := fun h hk => by
        refine Rw.ix encI hv (by omega) (by simpa using hpl) fun a ha => ?_
        rw [Int.toNat_natCast] at ha
        exact Rw.ld0 encI h 0 rfl hv ha hwp rfl rfl hk
      refine S_fGive h 3 rfl hf fun s w hf h => ?_
      have h : St w0 [sw, s7, s6, s] w := h
      rcases hI.wh p z hwp with ⟨rfl, hno⟩ | ⟨k, hk, rfl, hqk⟩
      · rw [pf_give0 hno] at hf ⊢
        refine ixw h (itT (by decide) (itF rfl ?_))
        exact hk24 _ w ⟨v, wl, rs, s, s6, sw, rfl, hI, by omega, fun k hk => Nat.le_succ_of_le (hrl k hk), hf, hv, hr6, h⟩
      · rw [pf_give ok hk hqk] at hf ⊢
        refine ixw h (itF (by simp) (itF rfl (itF (by rw [str_eq]; simp) (ixw h ?_))))
        refine Rw.ix encI hr6 (by omega) (by rw [tab_len]; simpa using hk) fun a ha => ?_
        rw [Int.toNat_natCast] at ha
        refine Rw.ld0 encI h 2 rfl hr6 ha (tab_at hk) rfl rfl ?_
        have hkl := hrl k hk
        rw [wr (by omega) (by omega)]
        refine Rw.ix encI hr6 (by omega) (by rw [tab_len]; simpa using hk) fun a ha => ?_
        rw [Int.toNat_natCast] at ha
        refine Rw.stI h 2 rfl hr6 ha (by rw [tab_len]; exact hk) _ fun s6 w hr6 h => ?_
        refine Rw.ix encI hv (by omega) (by simpa using hpl) fun a ha => ?_
        rw [Int.toNat_natCast] at ha
        refine Rw.stI h 0 rfl hv ha hpl (-1) fun sw w hv h => ?_
        have hel : ((rs k).erase ((p : Int) + 1)).length + 1 = (rs k).length := by rw [List.length_erase_of_mem hqk]; have := List.length_pos_of_mem hqk; omega
        rw [tab_set, tab_congr (g := fun i => (((if i = k then (rs k).erase ((p : Int) + 1) else rs i).length : Nat) : Int)) (fun i hi => by
          by_cases e : i = k
          · simp only [if_pos e]; omega
          · simp only [if_neg e])] at hr6
        exact hk24 _ w ⟨v, _, _, s, s6, sw, rfl, hI.give ok hnd hk hqk, by rw [List.length_set]; omega, fun i hi => by
          by_cases e : i = k
          · simp only [if_pos e]; omega
          · simp only [if_neg e]; exact Nat.le_succ_of_le (hrl i hi), hf, hv, hr6, h⟩
    · have hG : ∀ i, can (pG c rd rs i) = true ↔ rd i = true ∧ ((rs i).length : Int) < c := fun i => by
        simp only [can, pG, decide_eq_true_eq]
        by_cases e : rd i = true <;> simp [e]
      refine loop_of (fun q y w => ∃ (i : Nat) (o : Option Nat), y = (bv o, (i : Int), ()) ∧ q + i = m ∧ (tab i (pG c rd rs)).foldl pickStep none = o.map (pG c rd rs) ∧ (∀ k, o = some k → k < i) ∧ St w0 [sw, s7, s6, s] w) m ⟨0, none, rfl, rfl, rfl, by simp, h⟩ ?_
      clear h; (try clear w)
      rintro q2 y w ⟨i, o, rfl, hq2, hfo, hok, h⟩ again2 hag2
      dsimp only
      refine it (fun hd => ?_) (fun hd => ?_) <;> (try simp only [decide_eq_true_eq, decide_eq_false_iff_not, beq_iff_eq, bne_iff_ne, beq_eq_false_iff_ne, bne_eq_false_iff_eq, Bool.not_eq_true', Bool.not_eq_false', ne_eq, Bool.not_eq_true, Bool.not_eq_false] at hd)
      · have hi : i < m := by omega
        have hst : (tab (i + 1) (pG c rd rs)).foldl pickStep none = pickStep (o.map (pG c rd rs)) (pG c rd rs i) := by rw [tab_succ, List.foldl_append, hfo]; rfl
        refine join_of (fun z w => ∃ o : Option Nat, z = (bv o, ()) ∧ (tab (i + 1) (pG c rd rs)).foldl pickStep none = o.map (pG c rd rs) ∧ (∀ k, o = some k → k < i + 1) ∧ St w0 [sw, s7, s6, s] w) (fun k45 hk45 => ?_) (fun z w ⟨o, hz, hfo, hok, h⟩ => ?_)
        · have no : ∀ {w}, ¬ can (pG c rd rs i) = true → St w0 [sw, s7, s6, s] w → k45 (bv o, ()) w := fun hn h => hk45 _ _ ⟨o, rfl, by rw [hst, pick_no hn], fun k hk => by have := hok k hk; omega, h⟩
          have ld6 : ∀ {k : Nat} {kk : Int → PT} {w : World}, k < m → St w0 [sw, s7, s6, s] w → kk ((rs k).length : Int) w → L.idx v6.a (k : Int) v6.len 1 (fun a => L.load (.one (.int .i64)) a kk) w := fun {k} {kk} {w} hk h hkk => by
            refine Rw.ix encI hr6 (by omega) (by rw [tab_len]; simpa using hk) fun a ha => ?_
            rw [Int.toNat_natCast] at ha
            exact Rw.ld0 encI h 2 rfl hr6 ha (tab_at hk) rfl rfl hkk
          refine dr h fun w h => ?_
          refine Rw.ix encB hr7 (by omega) (by rw [tab_len]; simpa using hi) fun a ha => ?_
          rw [Int.toNat_natCast] at ha
          refine Rw.ld0 encB h 1 rfl hr7 ha (tab_at hi) rfl rfl ?_
          refine it (fun hr => ?_) (fun hr => no (fun hc => by rw [((hG i).1 hc).1] at hr; cases hr) h)
          refine ld6 hi h ?_
          refine it (fun hl => ?_) (fun hl => no (fun hc => by have := ((hG i).1 hc).2; simp only [decide_eq_false_iff_not] at hl; exact hl this) h)
          simp only [decide_eq_true_eq] at hl
          have hcan := (hG i).2 ⟨hr, hl⟩
          cases o with
          | none =>
            refine itT rfl ?_
            exact hk45 _ w ⟨some i, rfl, by rw [hst]; simp only [Option.map_none, pickStep, Option.map_some]; rw [if_pos hcan], fun k hk => by cases hk; omega, h⟩
          | some k =>
            have hk := hok k rfl
            refine itF (decide_eq_false (by simp only [bv]; omega)) ?_
            refine ld6 hi h (ld6 (by omega) h ?_)
            refine it (fun he => ?_) (fun he => ?_) <;> (try simp only [decide_eq_true_eq, decide_eq_false_iff_not, beq_iff_eq, bne_iff_ne, beq_eq_false_iff_ne, bne_eq_false_iff_eq, Bool.not_eq_true', Bool.not_eq_false', ne_eq, Bool.not_eq_true, Bool.not_eq_false] at he)
            · exact hk45 _ w ⟨some i, rfl, by rw [hst]; simp only [pickStep, Option.map_some]; rw [if_pos ⟨hcan, by simp only [pG]; omega⟩], fun k hk => by cases hk; omega, h⟩
            · exact hk45 _ w ⟨some k, rfl, by rw [hst]; simp only [pickStep, Option.map_some]; rw [if_neg (fun hh => he (by have := hh.2; simp only [pG] at this; omega))], fun k2 hk2 => by cases hk2; omega, h⟩
        · subst hz
          refine hag2 (q2 - 1) _ w (by omega) ⟨i + 1, o, ?_, by omega, hfo, hok, h⟩
          rw [wr (by omega) (by omega)]; simp
      have him : i = m := by omega
      subst him
      have hnq : ∀ k, k < i → ((v.len : Nat) : Int) + 1 ∉ rs k := fun k hk hq => by have := hI.rng k hk _ hq; omega
      rw [wr (n := ((v.len : Nat) : Int) + 1) (by omega) (by omega)]
      refine S_fTake h 3 rfl hf (by rw [show revs (PF i c rd rs).l s_a_1 = _ from pf_revs, tab_len]; omega) (fun y hy => by
        obtain ⟨k, hk, rfl⟩ := tab_mem.1 hy
        have := hrl k hk
        show (rs k).length < _; omega) fun s w hf h => ?_
      have h : St w0 [sw, s7, s6, s] w := h
      cases o with
      | none =>
        rw [pf_take0 hnq hfo] at hf ⊢
        refine join_of (fun z w => St w0 [sw, s7, s6, s] w) (fun k56 hk56 => ?_) (fun z w h => ?_)
        · exact itF (by simp [bv]) (itF rfl (hk56 _ w h))
        · refine itF rfl ?_
          refine nw h ?_; clear h; (try clear w); intro b63 w h
          refine Rw.app encI elI h 0 rfl hv (-1) rfl (by omega) (by omega) fun v' sw w hv h => ?_
          exact hk24 _ w ⟨v', _, rs, s, s6, sw, rfl, hI.none, by simp; omega, fun k hk => Nat.le_succ_of_le (hrl k hk), hf, hv, hr6, h⟩
      | some k =>
        have hk := hok k rfl
        have hcan := (pick_ok hfo (by simp) (pG c rd rs k) rfl).1
        rw [pf_take hnq hfo hk hcan] at hf ⊢
        refine join_of (fun z w => St w0 [sw, s7, s6, s] w) (fun k56 hk56 => ?_) (fun z w h => ?_)
        · refine itF (by rw [decide_eq_true (show bv (some k) ≥ 0 by simp only [bv]; omega)]; rfl) (itT rfl (itF ?_ (hk56 _ w h)))
          simp only [bv]; rw [wr (by omega) (by omega)]; simp
        · refine itT rfl ?_
          simp only [bv]
          have hkl := hrl k hk
          refine Rw.ix encI hr6 (by omega) (by rw [tab_len]; simpa using hk) fun a ha => ?_
          rw [Int.toNat_natCast] at ha
          refine Rw.ld0 encI h 2 rfl hr6 ha (tab_at hk) rfl rfl ?_
          rw [wr (by omega) (by omega)]
          refine Rw.ix encI hr6 (by omega) (by rw [tab_len]; simpa using hk) fun a ha => ?_
          rw [Int.toNat_natCast] at ha
          refine Rw.stI h 2 rfl hr6 ha (by rw [tab_len]; exact hk) _ fun s6 w hr6 h => ?_
          rw [tab_set, tab_congr (g := fun j => (((if j = k then insI (((v.len : Nat) : Int) + 1) (rs k) else rs j).length : Nat) : Int)) (fun j hj => by
            by_cases e : j = k
            · simp only [if_pos e]; rw [insI_len]; omega
            · simp only [if_neg e])] at hr6
          refine nw h ?_; clear h; (try clear w); intro b61 w h
          refine Rw.app encI elI h 0 rfl hv (k : Int) rfl (by omega) (by omega) fun v' sw w hv h => ?_
          have hI2 := hI.some hk
          rw [← hlv] at hI2
          exact hk24 _ w ⟨v', _, _, s, s6, sw, rfl, hI2, by simp; omega, fun j hj => by
            by_cases e : j = k
            · simp only [if_pos e]; rw [insI_len]; omega
            · simp only [if_neg e]; exact Nat.le_succ_of_le (hrl j hj), hf, hv, hr6, h⟩
  · subst hz
    refine hag (q - 1) _ w (by omega) ⟨j + 1, v, wl, rs, s, s6, sw, ?_, by omega, hI, hwl, hrl, hf, hv, hr6, h⟩
    rw [wr (by omega) (by omega)]; simp
end Go.Proofs.Ytheikjckdnhdhaa
