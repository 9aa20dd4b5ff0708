/- Contracts of functions, and walks of laws (text Fs). No conditions beyond those its theorems state. -/
import Derived.Test.YtheikjckdnhdhaaFr
set_option linter.all false
namespace Go.Proofs.Ytheikjckdnhdhaa
open Go.Dm
attribute [local irreducible] L.load L.store L.chk L.new L.nonnil L.guard L.ite L.draw L.idx L.sem L.semR L.semU L.chkSem L.next L.call L.callV L.join L.alts L.loop L.begin L.endRound L.range
variable {w0 w : World} {E : List Seg}
def bb : Option Nat → Int
  | none => 0
  | some k => (k : Int) + 1
def pickB (rd : Nat → Bool) (rs : Nat → List Int) (o : Option Nat) (k : Nat) : Bool := match o with
  | none => true
  | some j => if rd k = false ∧ rd j = true then true else if rd k = rd j then (if rd k = false then true else decide (((rs k).length : Int) ≤ (rs j).length)) else false
theorem dn_pick {rd : Nat → Bool} {rs : Nat → List Int} {out : Nat → Bool} {o : Option Nat} {k : Nat} (h : out k = false) : dnStep rd rs out o k = if pickB rd rs o k = true then some k else o := by
  unfold dnStep pickB
  rw [h]
  cases o with
  | none => rfl
  | some j =>
    simp only
    by_cases e1 : rd k = true <;> by_cases e2 : rd j = true <;> simp [e1, e2]
theorem rep_row1 {α : Type} {n : Nat} (x : α) : List.replicate ((n : Int) + 1).toNat x = row1 n x fun _ => x := by
  unfold row1 tab
  rw [show ((n : Int) + 1).toNat = n + 1 by omega]
  simp [List.map_const']
theorem W_FleetDown {p0 p3 : Int} {p1 p2 : Sl} {us : List Bool} {xs : List Int} (o1 : Old w0 eB p1 us) (o2 : Old w0 eI p2 xs) : Calls Pr n_damperlaw11_FleetDown [I p0, SlV p1, SlV p2, I p3].toArray w0 fun e w' => e = .returned (.bool true) ∧ St w0 [] w' := by
  refine law_of (C_damperlaw11_FleetDown p0 p1 p2 p3) ?_
  unfold F_damperlaw11_FleetDown
  refine S_known (St.init w0) fun w h => itF rfl ?_
  refine S_fNew h fun b s w hf h => itF rfl ?_
  refine S_within (by omega) (by omega) ?_
  rw [wr (n := 1 + p0 % 9) (by omega) (by omega)]
  obtain ⟨n, hn⟩ := Int.eq_ofNat_of_zero_le (show 0 ≤ 1 + p0 % 9 by omega)
  have hn1 : 1 ≤ n ∧ n ≤ 9 := by omega
  rw [hn]
  rw [wr (n := (n : Int) + 1) (by omega) (by omega)]
  obtain ⟨ps1, ps2⟩ := pf_scale 3 (n := n) (by omega)
  refine S_fScale h 0 rfl hf (by decide) (by decide) fun v1 v2 s s1 s2 w hf hr1 hr2 h => ?_
  rw [ps1] at hf
  have h : St w0 [s] w := dl0_ (dl0_ h)
  clear hr1 hr2
  refine join_of (fun z w => ∃ (v6 v7 : Sl) (s6 s7 : Seg), z = (v6, v7, ()) ∧ Rw eI T_int 1 v6 (row1 n 0 fun _ => 0) s6 ∧ Rw eB T_bool 1 v7 (row1 n false fun _ => false) s7 ∧ St w0 [s7, s6, s] w) (fun k5 hk5 => ?_) (fun z w ⟨v6, v7, s6, s7, hz, hr6, hr7, h⟩ => ?_)
  · refine dr h fun w h => ?_
    refine alts2 ?_ ?_
    · refine mkN elI encI 0 rfl h (by omega) (by omega) (by omega) fun v6 s6 w hr6 h => ?_
      refine alts2 ?_ ?_ <;>
      · refine mkN elB encB false rfl h (by omega) (by omega) (by omega) fun v7 s7 w hr7 h => ?_
        rw [rep_row1] at hr6 hr7
        exact hk5 _ w ⟨v6, v7, s6, s7, rfl, hr6, hr7, h⟩
    · refine mkN elB encB false rfl h (by omega) (by omega) (by omega) fun v7 s7 w hr7 h => ?_
      refine mkN elI encI 0 rfl h (by omega) (by omega) (by omega) fun v6 s6 w hr6 h => ?_
      rw [rep_row1] at hr6 hr7
      refine hk5 _ w ⟨v6, v7, s6, s7, rfl, hr6, hr7, ?_⟩
      have h := fr1_ h
      exact h
  subst hz
  dsimp only
  let up : Nat → Bool := fun i => (us[i]?).getD false
  have hlu := o1.rd.len
  have hol := o2.rd.len
  refine loop_of (fun q y w => ∃ (m : Nat) (s s7 : Seg), y = ((m : Int) + 1, ()) ∧ q + m = n ∧ FlS b (PF n 3 (fun i => decide (i < m) && up i) fun _ => []) s ∧ Rw eB T_bool 1 v7 (row1 n false fun i => decide (i < m) && up i) s7 ∧ St w0 [s7, s6, s] w) n
    ⟨0, s, s7, rfl, rfl, by simpa using hf, by simpa using hr7, h⟩ ?_
  clear hf hr7; (clear h; (try clear w))
  rintro q y w ⟨m, s, s7, rfl, hq, hf, hr7, h⟩ again hag
  dsimp only
  refine it (fun hd => ?_) (fun hd => ?_) <;> (try simp only [decide_eq_true_eq, decide_eq_false_iff_not, beq_iff_eq, bne_iff_ne, beq_eq_false_iff_ne, bne_eq_false_iff_eq, Bool.not_eq_true', Bool.not_eq_false', ne_eq, Bool.not_eq_true, Bool.not_eq_false] at hd)
  · have hm : m < n := by omega
    have e1 : up m = true → (fun i => if i = m then true else decide (i < m) && up i) = fun i => decide (i < m + 1) && up i := fun hu => by
      funext i
      by_cases e : i = m
      · subst e; simp [hu]
      · have : decide (i < m) = decide (i < m + 1) := by by_cases h : i < m <;> simp [h] <;> omega
        simp only [if_neg e, this]
    have e2 : up m = false → (fun i => decide (i < m) && up i) = fun i => decide (i < m + 1) && up i := fun hu => by
      funext i
      by_cases e : i = m
      · subst e; simp [hu]
      · have : decide (i < m) = decide (i < m + 1) := by by_cases h : i < m <;> simp [h] <;> omega
        simp only [this]
    have ew : IntKind.wrap .i64 ((m : Int) + 1 - 1) = m := by rw [wr (by omega) (by omega)]; omega
    rw [ew]
    refine join_of (fun z w => ∃ (s s7 : Seg), FlS b (PF n 3 (fun i => decide (i < m + 1) && up i) fun _ => []) s ∧ Rw eB T_bool 1 v7 (row1 n false fun i => decide (i < m + 1) && up i) s7 ∧ St w0 [s7, s6, s] w) (fun k10 hk10 => ?_) (fun z w ⟨s, s7, hf, hr7, h⟩ => ?_)
    · have skip : up m = false → St w0 [s7, s6, s] w → k10 () w := fun hu h => by
        rw [e2 hu] at hf hr7
        exact hk10 _ w ⟨s, s7, hf, hr7, h⟩
      refine it (fun he => ?_) (fun he => ?_) <;> (try simp only [decide_eq_true_eq, decide_eq_false_iff_not, beq_iff_eq, bne_iff_ne, beq_eq_false_iff_ne, bne_eq_false_iff_eq, Bool.not_eq_true', Bool.not_eq_false', ne_eq, Bool.not_eq_true, Bool.not_eq_false] at he)
      · have hx : us[m]? = some us[m] := List.getElem?_eq_getElem (by omega)
        have hup : up m = us[m] := by show (us[m]?).getD false = _; rw [hx]; rfl
        refine (o1.now h).ix encB (by omega) (by simp; omega) fun a ha => ?_
        rw [Int.toNat_natCast] at ha
        refine (o1.now h).ld0 encB ha hx rfl rfl ?_
        refine it (fun hu => ?_) (fun hu => skip (by rw [hup]; exact hu) h)
        have hu : up m = true := by rw [hup]; exact hu
        refine S_fUpp h 2 rfl hf fun s w hf h => ?_
        rw [pf_up hm (by simp)] at hf ⊢
        refine Rw.ix encB hr7 (by omega) (by rw [row1_len]; omega) fun a ha => ?_
        rw [show ((m : Int) + 1).toNat = m + 1 by omega] at ha
        refine Rw.stB h 0 rfl hr7 ha (by rw [row1_len]; omega) true fun s7 w hr7 h => ?_
        rw [row1_set, e1 hu] at hr7
        simp only at hf
        rw [e1 hu] at hf
        exact hk10 _ w ⟨s, s7, hf, hr7, h⟩
      · exact skip (by show (us[m]?).getD false = false; rw [List.getElem?_eq_none (by omega)]; rfl) h
    · refine hag (q - 1) _ w (by omega) ⟨m + 1, s, s7, ?_, by omega, hf, hr7, h⟩
      rw [wr (by omega) (by omega)]; simp
  have hmn : m = n := by omega
  subst hmn
  generalize hrd : (fun i => decide (i < m) && up i) = rd at hf hr7
  clear hrd
  refine join_of (fun z w => ∃ (rs : Nat → List Int) (s s6 : Seg), (∀ k, rd k = false → rs k = []) ∧ (∀ k, k < m → (rs k).length ≤ 20) ∧ FlS b (PF m 3 rd rs) s ∧ Rw eI T_int 1 v6 (row1 m 0 fun k => ((rs k).length : Int)) s6 ∧ St w0 [s7, s6, s] w) (fun k20 hk20 => ?_) (fun z w ⟨rs, s, s6, hz, hrl, hf, hr6, h⟩ => ?_)
  · refine loop_of (fun q y w => ∃ (j : Nat) (rs : Nat → List Int) (s s6 : Seg), y = ((j : Int) + 1, (j : Int), ()) ∧ q + j = 20 ∧ (∀ k, rd k = false → rs k = []) ∧ (∀ k, k < m → (rs k).length ≤ j) ∧ (∀ k, k < m → ∀ q ∈ rs k, q < (j : Int) + 1) ∧ FlS b (PF m 3 rd rs) s ∧
      Rw eI T_int 1 v6 (row1 m 0 fun k => ((rs k).length : Int)) s6 ∧ St w0 [s7, s6, s] w) 20 ⟨0, fun _ => [], s, s6, rfl, rfl, by simp, by simp, by simp, hf, hr6, h⟩ ?_
    clear hf hr6; (clear h; (try clear w))
    rintro q y w ⟨j, rs, s, s6, rfl, hq, hz, hrl, hfr, hf, hr6, h⟩ again hag
    dsimp only
    have stop : ∀ {w}, St w0 [s7, s6, s] w → k20 () w := fun h => hk20 _ _ ⟨rs, s, s6, hz, fun k hk => Nat.le_trans (hrl k hk) (by omega), hf, hr6, h⟩
    refine it (fun hb => ?_) (fun _ => stop h)
    refine it (fun hb2 => ?_) (fun _ => stop h)
    simp only [decide_eq_true_eq] at hb hb2
    refine join_of (fun z w => ∃ (rs : Nat → List Int) (s s6 : Seg), z = ((j : Int) + 2, ()) ∧ (∀ k, rd k = false → rs k = []) ∧ (∀ k, k < m → (rs k).length ≤ j + 1) ∧ (∀ k, k < m → ∀ q ∈ rs k, q < (j : Int) + 2) ∧ FlS b (PF m 3 rd rs) s ∧
      Rw eI T_int 1 v6 (row1 m 0 fun k => ((rs k).length : Int)) s6 ∧ St w0 [s7, s6, s] w) (fun k24 hk24 => ?_) (fun z w ⟨rs, s, s6, hzz, hz, hrl, hfr, hf, hr6, h⟩ => ?_)
    · have hnq : ∀ k, k < m → (j : Int) + 1 ∉ rs k := fun k hk hq => by have := hfr k hk _ hq; omega
      have ew : IntKind.wrap .i64 ((j : Int) + 1 + 1) = (j : Int) + 2 := by rw [wr (by omega) (by omega)]; omega
      rw [ew]
      refine S_fTake h 2 rfl hf (by rw [show revs (PF m 3 rd rs).l s_a_1 = _ from pf_revs, tab_len]; omega) (fun y hy => by
        obtain ⟨k, hk, rfl⟩ := tab_mem.1 hy
        have := hrl k hk
        show (rs k).length < _; omega) fun s w hf h => ?_
      have h : St w0 [s7, s6, s] w := h
      cases hfo : (tab m (pG 3 rd rs)).foldl pickStep none with
      | none =>
        rw [pf_take0 hnq hfo] at hf ⊢
        refine itF rfl (hk24 _ w ⟨rs, s, s6, rfl, hz, fun k hk => Nat.le_succ_of_le (hrl k hk), fun k hk q hq => by have := hfr k hk q hq; omega, hf, hr6, h⟩)
      | some x =>
        obtain ⟨hcan, hx⟩ := pick_ok hfo (by simp) x rfl
        obtain ⟨k, hk, rfl⟩ := tab_mem.1 (hx.resolve_right (by simp))
        rw [pf_take hnq hfo hk hcan] at hf ⊢
        have hrk : rd k = true := by
          have := of_decide_eq_true hcan
          simp only [pG] at this
          by_cases e : rd k = true
          · exact e
          · rw [if_neg e] at this; omega
        have hkl := hrl k hk
        refine itT rfl (itF (decide_eq_false (by simp only; omega)) (itF (decide_eq_false (by simp only; omega)) ?_))
        dsimp only
        refine Rw.ix encI hr6 (by omega) (by rw [row1_len]; omega) fun a ha => ?_
        rw [show ((k : Int) + 1).toNat = k + 1 by omega] at ha
        refine Rw.ld0 encI h 1 rfl hr6 ha (row1_at hk) rfl rfl ?_
        rw [wr (by omega) (by omega)]
        refine Rw.ix encI hr6 (by omega) (by rw [row1_len]; omega) fun a ha => ?_
        rw [show ((k : Int) + 1).toNat = k + 1 by omega] at ha
        refine Rw.stI h 1 rfl hr6 ha (by rw [row1_len]; omega) _ fun s6 w hr6 h => ?_
        rw [row1_set, row1_congr (g := fun i => (((if i = k then insI ((j : Int) + 1) (rs k) else rs i).length : Nat) : Int)) (fun i hi => by
          by_cases e : i = k
          · simp only [if_pos e]; rw [insI_len]; omega
          · simp only [if_neg e])] at hr6
        refine hk24 _ w ⟨_, s, s6, rfl, fun i hi => ?_, fun i hi => ?_, fun i hi q hq => ?_, hf, hr6, h⟩
        · have : i ≠ k := fun e => by subst e; rw [hrk] at hi; cases hi
          simp only [if_neg this]; exact hz i hi
        · by_cases e : i = k
          · simp only [if_pos e]; rw [insI_len]; omega
          · simp only [if_neg e]; exact Nat.le_succ_of_le (hrl i hi)
        · by_cases e : i = k
          · simp only [if_pos e] at hq
            rcases insI_mem.1 hq with rfl | hq
            · omega
            · have := hfr k hk q hq; omega
          · simp only [if_neg e] at hq
            have := hfr i hi q hq; omega
    · subst hzz
      refine hag (q - 1) _ w (by omega) ⟨j + 1, rs, s, s6, ?_, by omega, hz, hrl, fun k hk q hq => by have := hfr k hk q hq; omega, hf, hr6, h⟩
      rw [wr (by omega) (by omega)]
      simp only [Prod.mk.injEq, and_true]; omega
  · refine S_within (by omega) (by omega) ?_
    have hw1 := Int.emod_nonneg p3 (show (m : Int) + 1 ≠ 0 by omega)
    have hw2 := Int.emod_lt_of_pos p3 (show 0 < (m : Int) + 1 by omega)
    obtain ⟨wn, hwn⟩ := Int.eq_ofNat_of_zero_le hw1
    rw [hwn] at hw2 ⊢
    clear hwn hw1
    have okF := hf.1
    have hcnt : fCount (PF m 3 rd rs).l s_a_1 = m := by
      unfold fCount
      rw [show revs (PF m 3 rd rs).l s_a_1 = _ from pf_revs, List.filter_eq_self.2, tab_len]
      intro x hx
      obtain ⟨k, -, rfl⟩ := tab_mem.1 hx
      refine decide_eq_true ?_
      simp only [pG]; split <;> decide
    have hg : growN (PF m 3 rd rs) s_a_1 wn = 0 := by have := growN_eq (PF m 3 rd rs) s_a_1 wn; rw [hcnt] at this; omega
    have hgr : fGrown (PF m 3 rd rs) s_a_1 3 wn = PF m 3 rd rs := by unfold fGrown; rw [hg]; rfl
    have hsn : shrinkN (PF m 3 rd rs) s_a_1 wn = m - wn := by have := shrinkN_eq (PF m 3 rd rs) s_a_1 wn; rw [hcnt] at this; omega
    have hfs : fScale (PF m 3 rd rs) s_a_1 3 wn = shrink s_a_1 (m - wn) (DF m rd rs fun _ => false) := by unfold fScale; rw [hgr, hsn, df_start]
    refine S_fScale h 2 rfl hf (by show (10 : Int) < _; decide) (by show (m : Int) + 10 < _; omega) fun v1 v2 s s1 s2 w _ hr1 hr2 h => ?_
    rw [hfs] at hr2
    have h : St w0 [s2, s1, s7, s6, s] w := h
    have h := dl1_ (dl4_ h)
    have hgl := shrink_glen (rev := s_a_1) (n := m - wn) (F := DF m rd rs fun _ => false)
    have hl2 := Rw.len encI hr2
    rw [hgl] at hl2
    rw [wr (n := (m : Int) - (wn : Int)) (by omega) (by omega)]
    refine itF (by simp only [bne_eq_false_iff_eq]; omega) ?_
    refine mkN elB encB false rfl h (by omega) (by omega) (by omega) fun vo so w hro h => ?_
    rw [rep_row1] at hro
    have hstart : (DF m rd rs fun _ => false).Ok ∧ fCount (DF m rd rs fun _ => false).l s_a_1 = m := by rw [df_start]; exact ⟨okF, hcnt⟩
    generalize hgone : (shrink s_a_1 (m - wn) (DF m rd rs fun _ => false)).2 = gone at hr2 hgl
    refine loop_of (fun q y w => ∃ (i : Nat) (out : Nat → Bool) (so : Seg), y = ((i : Int), ()) ∧ q + i = m - wn ∧ gone.drop i = (shrink s_a_1 q (DF m rd rs out)).2 ∧ (DF m rd rs out).Ok ∧ fCount (DF m rd rs out).l s_a_1 + i = m ∧
      Rw eB T_bool 1 vo (row1 m false out) so ∧ St w0 [so, s2, s7, s6] w) (m - wn) ⟨0, _, so, rfl, rfl, by rw [← hgone]; rfl, hstart.1, hstart.2, hro, h⟩ ?_
    clear hro hf; (clear h; (try clear w))
    rintro q y w ⟨i, out, so, rfl, hq, hgd, okD, hcD, hro, h⟩ again hag
    dsimp only
    refine it (fun hd => ?_) (fun hd => ?_) <;> (try simp only [decide_eq_true_eq, decide_eq_false_iff_not, beq_iff_eq, bne_iff_ne, beq_eq_false_iff_ne, bne_eq_false_iff_eq, Bool.not_eq_true', Bool.not_eq_false', ne_eq, Bool.not_eq_true, Bool.not_eq_false] at hd)
    · obtain ⟨q', rfl⟩ : ∃ q', q = q' + 1 := ⟨q - 1, by omega⟩
      obtain ⟨kk, hkk, hsp, hdr⟩ := df_step (n := m) (out := out) hz okD (by omega)
      have okD' := drain1_ok okD (rev := s_a_1) (by omega)
      have hcD' := drain1_count okD (rev := s_a_1) (by omega)
      rw [hdr] at okD' hcD'
      simp only [shrink, hsp, hdr] at hgd
      have hgi : gone[i]? = some ((kk : Int) + 1) := by
        have := congrArg (fun l : List Int => l[0]?) hgd
        simpa using this
      have hgd' : gone.drop (i + 1) = (shrink s_a_1 q' (DF m rd rs fun i => if i = kk then true else out i)).2 := by
        have := congrArg (fun l : List Int => l.drop 1) hgd
        simpa [List.drop_drop] using this
      obtain ⟨hkm, hko⟩ := dn_out m hkk
      refine loop_of (fun q y w => ∃ (k : Nat), y = (bb ((List.range k).foldl (dnStep rd rs out) none), (k : Int) + 1, ()) ∧ q + k = m ∧ St w0 [so, s2, s7, s6] w) m ⟨0, rfl, rfl, h⟩ ?_
      clear h; (try clear w)
      rintro q2 y w ⟨k, rfl, hq2, h⟩ again2 hag2
      dsimp only
      refine it (fun he => ?_) (fun he => ?_) <;> (try simp only [decide_eq_true_eq, decide_eq_false_iff_not, beq_iff_eq, bne_iff_ne, beq_eq_false_iff_ne, bne_eq_false_iff_eq, Bool.not_eq_true', Bool.not_eq_false', ne_eq, Bool.not_eq_true, Bool.not_eq_false] at he)
      · have hk : k < m := by omega
        have hfo : (List.range (k + 1)).foldl (dnStep rd rs out) none = dnStep rd rs out ((List.range k).foldl (dnStep rd rs out) none) k := by rw [List.range_succ, List.foldl_append]; rfl
        have hlt := @dn_out rd rs out k
        generalize (List.range k).foldl (dnStep rd rs out) none = o at hfo hlt
        have ldR : ∀ {j : Nat} {kf : Bool → PT} {w : World}, j < m → St w0 [so, s2, s7, s6] w → kf (rd j) w → L.idx v7.a ((j : Int) + 1) v7.len 1 (fun a => L.load (.one .bool) a kf) w := fun {j} {kf} {w} hj h hkf => by
          refine Rw.ix encB hr7 (by omega) (by rw [row1_len]; omega) fun a ha => ?_
          rw [show ((j : Int) + 1).toNat = j + 1 by omega] at ha
          exact Rw.ld0 encB h 2 rfl hr7 ha (row1_at hj) rfl rfl hkf
        have ldL : ∀ {j : Nat} {kf : Int → PT} {w : World}, j < m → St w0 [so, s2, s7, s6] w → kf ((rs j).length : Int) w → L.idx v6.a ((j : Int) + 1) v6.len 1 (fun a => L.load (.one (.int .i64)) a kf) w := fun {j} {kf} {w} hj h hkf => by
          refine Rw.ix encI hr6 (by omega) (by rw [row1_len]; omega) fun a ha => ?_
          rw [show ((j : Int) + 1).toNat = j + 1 by omega] at ha
          exact Rw.ld0 encI h 3 rfl hr6 ha (row1_at hj) rfl rfl hkf
        refine join_of (fun z w => z = (bb ((List.range (k + 1)).foldl (dnStep rd rs out) none), ()) ∧ St w0 [so, s2, s7, s6] w) (fun k37 hk37 => ?_) (fun z w ⟨hzz, h⟩ => ?_)
        · refine Rw.ix encB hro (by omega) (by rw [row1_len]; omega) fun a ha => ?_
          rw [show ((k : Int) + 1).toNat = k + 1 by omega] at ha
          refine Rw.ld0 encB h 0 rfl hro ha (row1_at hk) rfl rfl ?_
          refine it (fun ho => ?_) (fun ho => ?_)
          · exact hk37 _ w ⟨by rw [hfo]; unfold dnStep; rw [if_pos ho], h⟩
          rw [dn_pick ho] at hfo
          refine join_of (fun z w => z = (pickB rd rs o k, ()) ∧ St w0 [so, s2, s7, s6] w) (fun k41 hk41 => ?_) (fun z w ⟨hzz, h⟩ => ?_)
          · refine dr h fun w h => ?_
            cases o with
            | none => exact itT rfl (hk41 _ w ⟨rfl, h⟩)
            | some j =>
              have hj : j < m := by have := (hlt rfl).1; omega
              refine itF (by simp only [bb, beq_eq_false_iff_ne]; omega) ?_
              refine ldR hk h ?_
              have fin : ∀ {w}, ¬ (rd k = false ∧ rd j = true) → St w0 [so, s2, s7, s6] w → L.idx v7.a ((k : Int) + 1) v7.len 1 (fun a57 => L.load (.one (.bool)) a57 fun (x58 : Bool) =>
                  L.idx v7.a ((j : Int) + 1) v7.len 1 fun a59 =>
                  L.load (.one (.bool)) a59 fun (x60 : Bool) =>
                  L.ite (x58 == x60) (
                    L.idx v7.a ((k : Int) + 1) v7.len 1 fun a61 =>
                    L.load (.one (.bool)) a61 fun (x62 : Bool) =>
                    L.ite (!x62) (
                      k41 (true, ())) <|
                    L.idx v6.a ((k : Int) + 1) v6.len 1 fun a63 =>
                    L.load (.one (.int .i64)) a63 fun (x64 : Int) =>
                    L.idx v6.a ((j : Int) + 1) v6.len 1 fun a65 =>
                    L.load (.one (.int .i64)) a65 fun (x66 : Int) =>
                    k41 (decide (x64 ≤ x66), ())) <|
                  k41 (false, ())) w := by
                intro w hno h
                refine ldR hk h (ldR hj h ?_)
                refine it (fun h1 => ?_) (fun h1 => ?_)
                · have h1 : rd k = rd j := by simpa using h1
                  refine ldR hk h ?_
                  refine it (fun h2 => ?_) (fun h2 => ?_)
                  · have h2 : rd k = false := by simpa using h2
                    exact hk41 _ w ⟨by simp only [pickB]; rw [if_neg hno, if_pos h1, if_pos h2], h⟩
                  · have h2 : ¬ rd k = false := by simpa using h2
                    refine ldL hk h (ldL hj h ?_)
                    exact hk41 _ w ⟨by simp only [pickB]; rw [if_neg hno, if_pos h1, if_neg h2], h⟩
                · have h1 : ¬ rd k = rd j := by simpa using h1
                  exact hk41 _ w ⟨by simp only [pickB]; rw [if_neg hno, if_neg h1], h⟩
              refine it (fun h1 => ?_) (fun h1 => ?_)
              · have h1 : rd k = false := by simpa using h1
                refine ldR hj h ?_
                refine it (fun h2 => ?_) (fun h2 => ?_)
                · exact hk41 _ w ⟨by simp only [pickB]; rw [if_pos ⟨h1, h2⟩], h⟩
                · exact fin (fun hh => by rw [hh.2] at h2; cases h2) h
              · have h1 : ¬ rd k = false := by simpa using h1
                exact fin (fun hh => h1 hh.1) h
          · subst hzz
            dsimp only
            refine it (fun hp => ?_) (fun hp => ?_)
            · exact hk37 _ w ⟨by rw [hfo, if_pos hp]; rfl, h⟩
            · exact hk37 _ w ⟨by rw [hfo, if_neg (by rw [hp]; simp)], h⟩
        · subst hzz
          refine hag2 (q2 - 1) _ w (by omega) ⟨k + 1, ?_, by omega, h⟩
          rw [wr (by omega) (by omega)]; simp
      have hkm2 : k = m := by omega
      subst hkm2
      rw [hkk]
      simp only [bb]
      refine Rw.ix (n := (i : Int)) encI hr2 (by omega) (by rw [Int.toNat_natCast]; omega) fun a ha => ?_
      rw [Int.toNat_natCast] at ha
      refine Rw.ld0 encI h 1 rfl hr2 ha hgi rfl rfl ?_
      refine itF (by simp) ?_
      refine Rw.ix encB hro (by omega) (by rw [row1_len]; omega) fun a ha => ?_
      rw [show ((kk : Int) + 1).toNat = kk + 1 by omega] at ha
      refine Rw.stB h 0 rfl hro ha (by rw [row1_len]; omega) true fun so w hro h => ?_
      rw [row1_set] at hro
      refine hag q' _ w (by omega) ⟨i + 1, _, so, ?_, by omega, hgd', okD', by omega, hro, h⟩
      rw [wr (by omega) (by omega)]; simp
    · exact ⟨rfl, h.fin⟩
end Go.Proofs.Ytheikjckdnhdhaa
