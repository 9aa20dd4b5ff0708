/- Contracts of functions, and walks of laws (text Gw). No conditions beyond those its theorems state. -/
import Derived.Test.YthmpbgloifdcnaaGreatGv
set_option linter.all false
namespace Go.Proofs.YthmpbgloifdcnaaGreat
open Go.Dm
attribute [local irreducible] L.load L.store L.chk L.new L.nonnil L.guard L.ite L.draw L.idx L.sem L.semR L.semU L.chkSem L.next L.call L.callV L.join L.alts L.loop L.begin L.endRound L.range
variable {w0 w : World} {E : List Seg}
/-! ### requests by a table -/
section
variable {κ υ : Type} [DecidableEq κ]
theorem mget_app : ∀ (A B : List (κ × υ)) (k : κ), mget (A ++ B) k = match mget A k with | some u => some u | none => mget B k
  | [], B, k => rfl
  | p :: A, B, k => by
    simp only [List.cons_append, mget]
    split
    · rfl
    · exact mget_app A B k
theorem mset_app_in : ∀ {A B : List (κ × υ)} {k : κ} {u : υ}, (mget A k).isSome = true → mset (A ++ B) k u = mset A k u ++ B
  | [], _, _, _, h => by cases h
  | p :: A, B, k, u, h => by
    simp only [List.cons_append, mset]
    simp only [mget] at h
    split
    · rfl
    · rename_i e; rw [if_neg e] at h; rw [mset_app_in h]; rfl
theorem mset_app_out : ∀ {A B : List (κ × υ)} {k : κ} {u : υ}, mget A k = none → mset (A ++ B) k u = A ++ mset B k u
  | [], _, _, _, _ => rfl
  | p :: A, B, k, u, h => by
    simp only [List.cons_append, mset]
    simp only [mget] at h
    split
    · rename_i e; rw [if_pos e] at h; cases h
    · rename_i e; rw [if_neg e] at h; rw [mset_app_out h]
end
def rqT (m : Nat) (g : Nat → ByteArray × Int) : Alls := tab m fun i => ((i : Int) + 1, g i)
theorem rqT_len {m : Nat} {g : Nat → ByteArray × Int} : (rqT m g).length = m := tab_len
theorem rqT_succ {m : Nat} {g : Nat → ByteArray × Int} : rqT (m + 1) g = rqT m g ++ [((m : Int) + 1, g m)] := tab_succ
theorem rqT_congr {m : Nat} {g g' : Nat → ByteArray × Int} (h : ∀ i, i < m → g i = g' i) : rqT m g = rqT m g' := tab_congr fun i hi => by rw [h i hi]
theorem rqT_get {g : Nat → ByteArray × Int} : ∀ {m i : Nat}, mget (rqT m g) ((i : Int) + 1) = if i < m then some (g i) else none
  | 0, i => rfl
  | m + 1, i => by
    rw [rqT_succ, mget_app, rqT_get]
    by_cases h : i < m
    · rw [if_pos h, if_pos (by omega)]
    · rw [if_neg h]
      simp only [mget]
      by_cases e : i = m
      · subst e; simp
      · rw [if_neg (by omega), if_neg (by omega)]
theorem rqT_out {m : Nat} {g : Nat → ByteArray × Int} {q : Int} (h : q < 1 ∨ (m : Int) < q) : mget (rqT m g) q = none := by
  rw [mget_none]
  intro hm
  obtain ⟨x, hx, rfl⟩ := List.mem_map.1 hm
  obtain ⟨i, hi, rfl⟩ := tab_mem.1 hx
  simp only at h; omega
theorem rqT_push {m : Nat} {g : Nat → ByteArray × Int} {v : ByteArray × Int} : mset (rqT m g) ((m : Int) + 1) v = rqT (m + 1) fun j => if j = m then v else g j := by
  rw [mset_none (rqT_out (.inr (by omega))), rqT_succ, if_pos rfl]
  congr 1
  exact rqT_congr fun i hi => by rw [if_neg (by omega)]
theorem rqT_set {g : Nat → ByteArray × Int} {v : ByteArray × Int} : ∀ {m i : Nat}, i < m → mset (rqT m g) ((i : Int) + 1) v = rqT m fun j => if j = i then v else g j
  | 0, i, h => by omega
  | m + 1, i, h => by
    rw [rqT_succ, rqT_succ]
    by_cases e : i = m
    · subst e
      rw [mset_app_out (rqT_out (.inr (by omega)))]
      simp only [mset, if_pos]
      congr 1
      exact rqT_congr fun j hj => by rw [if_neg (by omega)]
    · rw [mset_app_in (by rw [rqT_get, if_pos (by omega)]; rfl), rqT_set (by omega), if_neg (by omega)]
theorem rqT_seen {m : Nat} {g : Nat → ByteArray × Int} : gSeen (rqT m g) ((m : Int) + 1) = false := by unfold gSeen; rw [rqT_out (.inr (by omega))]; rfl
theorem rqT_count {rev : ByteArray} {p : ByteArray × Int → Bool} : ∀ {m : Nat} {g : Nat → ByteArray × Int}, ((rqT m g).filter fun x => p x.2).length = ((List.range m).filter fun i => p (g i)).length
  | 0, _ => rfl
  | m + 1, g => by
    rw [rqT_succ, List.filter_append, List.length_append, rqT_count (rev := rev), List.range_succ, List.filter_append, List.length_append]
    congr 1
    simp only [List.filter_cons, List.filter_nil]
    split <;> rfl
theorem count_lt {m s : Nat} (h : s ≤ m) : ((List.range m).filter fun i => decide (i < s)).length = s := by
  induction m with
  | zero => have : s = 0 := by omega
            subst this; rfl
  | succ m ih =>
    rw [List.range_succ, List.filter_append, List.length_append]
    by_cases e : s = m + 1
    · subst e
      have : (List.range m).filter (fun i => decide (i < m + 1)) = List.range m := by rw [List.filter_eq_self]; intro x hx; have := List.mem_range.1 hx; simp; omega
      rw [this]; simp
    · rw [ih (by omega)]; simp; omega
/-- who waits: the numbers behind s -/
def lnT (s L : Nat) (u : Int) : List (Int × Int) := tab L fun i => ((s : Int) + 1 + i, u)
theorem lnT_len {s L : Nat} {u : Int} : (lnT s L u).length = L := tab_len
theorem lnT_cons {s L : Nat} {u : Int} : lnT s (L + 1) u = ((s : Int) + 1, u) :: lnT (s + 1) L u := by
  unfold lnT tab
  rw [List.range_succ_eq_map, List.map_cons, List.map_map]
  refine congr (congrArg _ (by simp)) (List.map_congr_left fun i _ => ?_)
  simp only [Function.comp, Prod.mk.injEq, and_true]; omega
theorem lnT_snoc {s L : Nat} {u : Int} : lnT s (L + 1) u = lnT s L u ++ [((s : Int) + 1 + L, u)] := tab_succ
/-- of the pods one alone has room: those who wait go there -/
theorem flow_one {R : Int} {rev : ByteArray} {p c m : Nat} {ready : Nat → Bool} {k : Nat} (hk : k < p) (hrk : ready k = true) {u : Int} :
    ∀ (L s : Nat) {rs : Nat → List Int} {g : Nat → ByteArray × Int} {out : List Fate}, TL p c s s ready rs → (∀ i, i < p → ready i = true → i ≠ k → (rs i).length = c) → s + L ≤ m →
    ∃ rs', flowA rev (lnT s L u) (TF R rev p c ready rs) (rqT m g) out = (TF R rev p c ready rs', rqT m (fun j => if s ≤ j ∧ j < s + min (c - (rs k).length) L then (rev, 1) else g j), lnT (s + min (c - (rs k).length) L) (L - min (c - (rs k).length) L) u,
        out ++ tab (min (c - (rs k).length) L) fun i => (((s : Int) + 1 + i, 1, (k : Int) + 1, s_, ()) : Fate)) ∧
      TL p c (s + min (c - (rs k).length) L) ((s + min (c - (rs k).length) L : Nat) : Int) ready rs' ∧ (∀ i, i ≠ k → rs' i = rs i) ∧ (rs' k).length = (rs k).length + min (c - (rs k).length) L
  | 0, s, rs, g, out, t, hf, hm => by
    refine ⟨rs, ?_, by simpa using t, fun _ _ => rfl, by simp⟩
    show flowA rev [] _ _ _ = _
    simp only [flowA, Nat.min_zero, Nat.add_zero, Nat.sub_zero]
    congr 2
    · exact rqT_congr fun i hi => by rw [if_neg (by omega)]
    · simp [lnT, tab]
  | L + 1, s, rs, g, out, t, hf, hm => by
    rw [lnT_cons, flowA]
    by_cases h : (rs k).length < c
    · obtain ⟨j, hj, hrj, hcj, ht, t'⟩ := tl_take (R := R) (rv := rev) (q := (s : Int) + 1) t (by omega) rfl ⟨k, hk, hrk, h⟩
      have hjk : j = k := by
        apply Classical.byContradiction; intro hne
        have := hf j hj hrj hne; omega
      subst hjk
      rw [ht, if_pos rfl]
      simp only
      rw [rqT_set (by omega)]
      have hl : (insI ((s : Int) + 1) (rs j)).length = (rs j).length + 1 := by have := (insI_perm ((s : Int) + 1) (rs j)).length_eq; simpa using this
      have t'' : TL p c (s + 1) ((s + 1 : Nat) : Int) ready (fun i => if i = j then insI ((s : Int) + 1) (rs j) else rs i) := by
        have : ((s + 1 : Nat) : Int) = (s : Int) + 1 := by omega
        rw [this]; exact t'
      have hf' : ∀ i, i < p → ready i = true → i ≠ j → (if i = j then insI ((s : Int) + 1) (rs j) else rs i).length = c := fun i hi hr hne => by rw [if_neg hne]; exact hf i hi hr hne
      have hm' : s + 1 + L ≤ m := by omega
      obtain ⟨rs', e, t2, h1, h2⟩ := flow_one (R := R) (rev := rev) hk hrk (u := u) L (s + 1) (rs := fun i => if i = j then insI ((s : Int) + 1) (rs j) else rs i) (g := fun i => if i = s then (rev, 1) else g i) (out := out ++ [((s : Int) + 1, 1, (j : Int) + 1, s_, ())]) t'' hf' hm'
      simp only [↓reduceIte] at e t2 h2
      rw [hl] at e t2 h2
      have ed : min (c - (rs j).length) (L + 1) = min (c - ((rs j).length + 1)) L + 1 := by omega
      refine ⟨rs', ?_, ?_, fun i hi => by rw [h1 i hi, if_neg hi], by rw [ed]; rw [h2]; clear e t2 h2; omega⟩
      · rw [e, ed]
        have a1 : s + 1 + min (c - ((rs j).length + 1)) L = s + (min (c - ((rs j).length + 1)) L + 1) := by omega
        have a2 : L + 1 - (min (c - ((rs j).length + 1)) L + 1) = L - min (c - ((rs j).length + 1)) L := by omega
        rw [a1, a2]
        congr 2
        · refine rqT_congr fun i hi => ?_
          by_cases h3 : i = s
          · subst h3; rw [if_neg (by omega), if_pos rfl, if_pos (by omega)]
          · rw [if_neg h3]
            by_cases h4 : s + 1 ≤ i ∧ i < s + (min (c - ((rs j).length + 1)) L + 1)
            · rw [if_pos h4, if_pos (by omega)]
            · rw [if_neg h4, if_neg (by omega)]
        · congr 1
          rw [List.append_assoc]
          congr 1
          unfold tab
          rw [List.range_succ_eq_map, List.map_cons, List.map_map, List.singleton_append]
          refine congr (congrArg _ (by simp)) (List.map_congr_left fun i _ => ?_)
          simp only [Function.comp]
          have : ((s + 1 : Nat) : Int) + 1 + (i : Int) = (s : Int) + 1 + ((i + 1 : Nat) : Int) := by omega
          rw [this]
      · have a1 : s + 1 + min (c - ((rs j).length + 1)) L = s + min (c - (rs j).length) (L + 1) := by omega
        rw [a1] at t2; exact t2
    · have hc := t.len k hk
      have hfull := tl_full (R := R) (rv := rev) (q := (s : Int) + 1) t (by omega) fun i hi hr => by
        by_cases e : i = k
        · subst e; omega
        · exact hf i hi hr e
      rw [hfull, if_neg (by simp)]
      have e0 : c - (rs k).length = 0 := by omega
      refine ⟨rs, ?_, by rw [e0]; simpa using t, fun _ _ => rfl, by rw [e0]; simp⟩
      rw [e0]
      simp only [Nat.zero_min, Nat.add_zero, Nat.sub_zero]
      congr 2
      · exact rqT_congr fun i hi => by rw [if_neg (by omega)]
      · simp [tab, lnT_cons]
end Go.Proofs.YthmpbgloifdcnaaGreat
namespace Go.Proofs.YthmpbgloifdcnaaGreat
open Go.Dm
attribute [local irreducible] L.load L.store L.chk L.new L.nonnil L.guard L.ite L.draw L.idx L.sem L.semR L.semU L.chkSem L.next L.call L.callV L.join L.alts L.loop L.begin L.endRound L.range
variable {w0 w : World} {E : List Seg}
/-! ### gates by a table -/
structure GW (G : AGate) (rev : ByteArray) (B m : Nat) (g : Nat → ByteArray × Int) (l : List (Int × Int)) (room pat : Int) : Prop where
  all : G.all = rqT m g
  ln : lineOf G.lines rev = l
  nl : G.lines.length ≤ B
  room : G.room = room
  pat : G.pat = pat
section
variable {F F' : AFleet} {G : AGate} {rev : ByteArray} {B m : Nat} {g : Nat → ByteArray × Int} {l : List (Int × Int)} {room pat : Int}
theorem GW.wait (W : GW G rev B m g l room pat) (hr : rev ≠ s_) (hno : ¬ (l.length = 0 ∧ (fTake F rev ((m : Int) + 1)).2.2 = true)) (hh : ∀ x ∈ l, x.1 ≠ (m : Int) + 1) (hl : (l.length : Int) < room) :
    ∃ G', gArr F G ((m : Int) + 1) rev 0 = (F, G', ((m : Int) + 1, 2, 0, s_, ())) ∧ GW G' rev (B + 1) (m + 1) (fun j => if j = m then (rev, 2) else g j) (l ++ [((m : Int) + 1, pat)]) room pat := by
  obtain ⟨hA, rfl, hn, rfl, rfl⟩ := W
  refine ⟨_, gArr_wait (by rw [hA]; exact rqT_seen) hr hno (lHas_no hh) hl, ⟨?_, ?_, ?_, rfl, rfl⟩⟩
  · simp only; rw [hA, rqT_push]
  · simp only; rw [lineOf_mset, if_pos rfl, Int.zero_add]
  · have := mset_le' G.lines rev (lineOf G.lines rev ++ [((m : Int) + 1, 0 + G.pat)]); simp only; omega
theorem GW.sent (W : GW G rev B m g [] room pat) (hr : rev ≠ s_) {pod : Int} (ht : fTake F rev ((m : Int) + 1) = (F', pod, true)) :
    ∃ G', gArr F G ((m : Int) + 1) rev 0 = (F', G', ((m : Int) + 1, 1, pod, s_, ())) ∧ GW G' rev (B + 1) (m + 1) (fun j => if j = m then (rev, 1) else g j) [] room pat := by
  obtain ⟨hA, hL, hn, rfl, rfl⟩ := W
  have e := gArr_sent (G := G) (now := 0) (id := (m : Int) + 1) (by rw [hA]; exact rqT_seen) hr (by rw [hL]; rfl) (show (fTake F rev ((m : Int) + 1)).2.2 = true by rw [ht])
  rw [ht] at e
  refine ⟨_, e, ⟨?_, ?_, ?_, rfl, rfl⟩⟩
  · simp only; rw [hA, rqT_push]
  · simp only; rw [lineOf_mset, if_pos rfl, hL]
  · have := mset_le' G.lines rev (lineOf G.lines rev); simp only; omega
theorem GW.flow (W : GW G rev B m g l room pat) {l' : List (Int × Int)} {out : List Fate} {g' : Nat → ByteArray × Int} (hf : flowA rev l F (rqT m g) [] = (F', rqT m g', l', out)) :
    ∃ G', gFlow F G rev = (F', G', out) ∧ GW G' rev (B + 1) m g' l' room pat := by
  obtain ⟨hA, rfl, hn, rfl, rfl⟩ := W
  refine ⟨(gFlow F G rev).2.1, ?_, ⟨?_, ?_, ?_, rfl, rfl⟩⟩
  · unfold gFlow; rw [hA, hf]
  · unfold gFlow; rw [hA, hf]
  · unfold gFlow; simp only; rw [lineOf_mset, if_pos rfl, hA, hf]
  · have := mset_le' G.lines rev (flowA rev (lineOf G.lines rev) F G.all []).2.2.1; unfold gFlow; simp only; omega
theorem GW.withs (W : GW G rev B m g l room pat) : (gWith G.all rev).length = ((List.range m).filter fun i => decide (g i = (rev, 1))).length := by
  unfold gWith; rw [isort_len, List.length_map, W.all]
  exact rqT_count (rev := rev) (p := fun x => decide (x = (rev, 1)))
theorem GW.waits (W : GW G rev B m g l room pat) : gWait G rev = l.map (·.1) := by unfold gWait; rw [W.ln]
end
theorem lnT_ne {s L : Nat} {u q : Int} (h : (s : Int) + L < q) : ∀ x ∈ lnT s L u, x.1 ≠ q := by
  intro x hx
  obtain ⟨i, hi, rfl⟩ := tab_mem.1 hx
  simp only; omega
theorem upto_succ {j : Nat} : (fun i => if i = j then true else decide (i < j)) = fun i => decide (i < j + 1) := by
  funext i; by_cases h : i = j
  · subst h; simp
  · rw [if_neg h]; apply decide_eq_decide.2; omega
/-- the first j pods are up, s are sent, of M -/
structure FlowsI (p c j s M : Nat) (rs : Nat → List Int) : Prop where
  t : TL p c s s (fun i => decide (i < j)) rs
  se : s = min (j * c) M
  full : s < M → ∀ i, i < j → (rs i).length = c
def gS (s : Nat) (i : Nat) : ByteArray × Int := if i < s then (s_a_1, 1) else (s_a_1, 2)
theorem FlowsI.step {R : Int} {p c j s M : Nat} {rs : Nat → List Int} (I : FlowsI p c j s M rs) (hj : j < p) {u : Int} :
    fUpp (TF R s_a_1 p c (fun i => decide (i < j)) rs) ((j : Int) + 1) = (TF R s_a_1 p c (fun i => decide (i < j + 1)) rs, 0) ∧
    ∃ s' rs', flowA s_a_1 (lnT s (M - s) u) (TF R s_a_1 p c (fun i => decide (i < j + 1)) rs) (rqT M (gS s)) [] = (TF R s_a_1 p c (fun i => decide (i < j + 1)) rs', rqT M (gS s'), lnT s' (M - s') u, tab (s' - s) fun i => (((s : Int) + 1 + i, 1, (j : Int) + 1, s_, ()) : Fate)) ∧
      s ≤ s' ∧ s' - s = min c (M - s) ∧ FlowsI p c (j + 1) s' M rs' := by
  obtain ⟨t, hs, hfull⟩ := I
  refine ⟨?_, ?_⟩
  · have := tf_up (R := R) (rv := s_a_1) (c := c) (ready := fun i => decide (i < j)) (rs := rs) hj (by simp)
    rw [this, upto_succ]
  have t1 : TL p c s s (fun i => decide (i < j + 1)) rs := ⟨t.len, fun i hi hr => t.nr i hi (by simp at hr ⊢; omega), t.tot, t.b⟩
  have hmul : (j + 1) * c = j * c + c := by rw [Nat.add_mul, Nat.one_mul]
  by_cases h : s < M
  · have hj0 : rs j = [] := t.nr j hj (by simp)
    obtain ⟨rs', e, t2, h1, h2⟩ := flow_one (R := R) (rev := s_a_1) (m := M) (ready := fun i => decide (i < j + 1)) hj (by simp) (u := u) (M - s) s (g := gS s) (out := []) t1
      (fun i hi hr hne => hfull h i (by simp at hr; omega)) (by omega)
    rw [hj0] at e t2 h2
    simp only [List.length_nil, Nat.sub_zero, Nat.zero_add, List.nil_append] at e t2 h2
    refine ⟨s + min c (M - s), rs', ?_, by omega, by omega, t2, by omega, ?_⟩
    · rw [e]
      have a1 : M - (s + min c (M - s)) = M - s - min c (M - s) := by omega
      have a2 : s + min c (M - s) - s = min c (M - s) := by omega
      rw [a1, a2]
      congr 2
      refine rqT_congr fun i hi => ?_
      unfold gS
      by_cases h3 : s ≤ i ∧ i < s + min c (M - s)
      · rw [if_pos h3, if_pos (by omega)]
      · rw [if_neg h3]
        by_cases h4 : i < s
        · rw [if_pos h4, if_pos (by omega)]
        · rw [if_neg h4, if_neg (by omega)]
    · intro h3 i hi
      by_cases e : i = j
      · subst e; rw [h2]; omega
      · rw [h1 i e]; exact hfull h i (by omega)
  · have hs2 : s = M := by omega
    have e0 : M - s = 0 := by omega
    refine ⟨s, rs, ?_, by omega, by omega, t1, by omega, fun h3 => by omega⟩
    rw [e0, Nat.sub_self]
    rfl
end Go.Proofs.YthmpbgloifdcnaaGreat
