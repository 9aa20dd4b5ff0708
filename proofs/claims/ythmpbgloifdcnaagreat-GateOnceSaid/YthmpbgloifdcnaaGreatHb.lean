/- Contracts of functions, and walks of laws (text Hb). No conditions beyond those its theorems state. -/
import Derived.Test.YthmpbgloifdcnaaGreatHa
set_option linter.all false
namespace Go.Proofs.YthmpbgloifdcnaaGreat
open Go.Dm
attribute [local irreducible] L.load L.store L.chk L.new L.nonnil L.guard L.ite L.draw L.idx L.sem L.semR L.semU L.chkSem L.next L.call L.callV L.join L.alts L.loop L.begin L.endRound L.range
variable {w0 w : World} {E : List Seg}
/-! ### GateEnds -/
def PF1 (c : Nat) (r : List Int) : AFleet := TF 1 s_a_1 1 c rdy fun _ => r
theorem PF1_congr {c : Nat} {rs : Nat → List Int} {r : List Int} (h : rs 0 = r) : TF 1 s_a_1 1 c rdy rs = PF1 c r := by
  unfold PF1 TF
  congr 1
  refine tab_congr fun i hi => ?_
  have : i = 0 := by omega
  subst this
  unfold tG; rw [h]
theorem PF1_tl {c s : Nat} {r : List Int} (h : r.length ≤ c) (hb : ∀ q ∈ r, 1 ≤ q ∧ q ≤ s) : TL 1 c r.length s rdy fun _ => r :=
  ⟨fun _ _ => h, fun i hi hr => by simp at hr; omega, by simp [tot], fun _ _ q hq => hb q hq⟩
theorem PF1_take {c s : Nat} {r : List Int} (h : r.length < c) (hb : ∀ q ∈ r, 1 ≤ q ∧ q ≤ (s : Int)) : fTake (PF1 c r) s_a_1 ((s : Int) + 1) = (PF1 c (r ++ [(s : Int) + 1]), 1, true) := by
  obtain ⟨k, hk, -, -, e, -⟩ := tl_take (R := 1) (rv := s_a_1) (PF1_tl (c := c) (s := s) (by omega) hb) (by omega) rfl ⟨0, by omega, rfl, h⟩
  have : k = 0 := by omega
  subst this
  unfold PF1
  rw [e]
  congr 1
  rw [PF1_congr rfl]
  simp only [↓reduceIte]
  rw [insI_end' fun y hy => by have := hb y hy; omega]; rfl
theorem PF1_full {c s : Nat} {r : List Int} {q : Int} (h : r.length = c) (hb : ∀ q ∈ r, 1 ≤ q ∧ q ≤ (s : Int)) (hq : (s : Int) < q) : fTake (PF1 c r) s_a_1 q = (PF1 c r, 0, false) :=
  tl_full (PF1_tl (by omega) hb) hq fun _ _ _ => h
theorem PF1_few {c s : Nat} {r : List Int} (h : r.length ≤ c) (hb : ∀ q ∈ r, 1 ≤ q ∧ q ≤ (s : Int)) (hc : c ≤ 1000) : FFew (PF1 c r) := tf_few (PF1_tl h hb) (by decide) (by omega) hc
theorem PF1_give {c : Nat} {r : List Int} (ok : (PF1 c r).Ok) {q : Int} (hq : q ∈ r) : fGive (PF1 c r) q = (PF1 c (r.erase q), s_a_1, 0) := by
  have e := tf_give (R := 1) (rv := s_a_1) (n := 1) (c := c) (ready := rdy) (rs := fun _ => r) ok (k := 0) (by omega) hq
  unfold PF1 at *
  rw [e]
  congr 1
structure EndsI (c M j : Nat) (F : AFleet) (G : AGate) (r : List Int) (g : Nat → ByteArray × Int) : Prop where
  f : F = PF1 c r
  w : GW G s_a_1 (M + j) M g (lnT (min M (c + j)) (M - min M (c + j)) 50) 8 50
  len : r.length + j = min M (c + j)
  pw : r.Pairwise (· < ·)
  mem : ∀ i, i < M → (((i : Int) + 1 ∈ r) ↔ g i = (s_a_1, 1))
  wt : ∀ i, i < M → (min M (c + j) ≤ i ↔ g i = (s_a_1, 2))
  ot : ∀ i, i < M → g i = (s_a_1, 1) ∨ g i = (s_a_1, 2) ∨ g i = (s_a_1, 3)
  b : ∀ q ∈ r, 1 ≤ q ∧ q ≤ ((min M (c + j) : Nat) : Int)
theorem EndsI.sent {c M j : Nat} {F : AFleet} {G : AGate} {r : List Int} {g : Nat → ByteArray × Int} (K : EndsI c M j F G r g) : gWith G.all s_a_1 = r := by
  unfold gWith
  refine isort_of ?_ (K.pw.imp fun h => by omega)
  rw [K.w.all]
  refine perm_of_sub ?_ (K.pw.imp fun h => by omega) fun x => ?_
  · refine List.pairwise_map.2 (List.Pairwise.filter _ ?_)
    unfold rqT tab
    rw [List.pairwise_map]
    exact List.nodup_range.imp fun h e => h (by omega)
  · rw [List.mem_map]
    constructor
    · rintro ⟨p, hp, rfl⟩
      obtain ⟨hp, hd⟩ := List.mem_filter.1 hp
      obtain ⟨i, hi, rfl⟩ := tab_mem.1 hp
      exact (K.mem i hi).2 (by simpa using hd)
    · intro hx
      have hb := K.b x hx
      have hl := K.len
      obtain ⟨i, rfl⟩ : ∃ i : Nat, x = (i : Int) + 1 := ⟨(x - 1).toNat, by omega⟩
      have hi : i < M := by omega
      exact ⟨((i : Int) + 1, g i), List.mem_filter.2 ⟨tab_mem.2 ⟨i, hi, rfl⟩, by simpa using (K.mem i hi).1 hx⟩, rfl⟩
theorem EndsI.step {c M j : Nat} {F : AFleet} {G : AGate} {r : List Int} {g : Nat → ByteArray × Int} (K : EndsI c M j F G r g) (ok : F.Ok) (hc : 0 < c) {q : Int} (hq : q ∈ r) :
    ∃ F' G' out r' g', gDone F G q = (F', G', (q, 3, 0, s_, ()) :: out, 0) ∧ out.length = (if c + j < M then 1 else 0) ∧ EndsI c M (j + 1) F' G' r' g' := by
  obtain ⟨rfl, W, hlen, hpw, hmem, hwt, hot, hb⟩ := K
  have eg := PF1_give ok hq
  have hbq := hb q hq
  obtain ⟨i0, rfl⟩ : ∃ i : Nat, q = (i : Int) + 1 := ⟨(q - 1).toNat, by omega⟩
  have hi0 : i0 < M := by omega
  have hnd : r.Nodup := hpw.imp fun h => by omega
  have hel : (r.erase ((i0 : Int) + 1)).length = r.length - 1 := List.length_erase_of_mem hq
  have hpos : 0 < r.length := List.length_pos_of_mem hq
  have hmer : ∀ x, x ∈ r.erase ((i0 : Int) + 1) ↔ x ≠ (i0 : Int) + 1 ∧ x ∈ r := fun x => hnd.mem_erase_iff
  have hbr : ∀ x ∈ r.erase ((i0 : Int) + 1), 1 ≤ x ∧ x ≤ ((min M (c + j) : Nat) : Int) := fun x hx => hb x ((hmer x).1 hx).2
  have hpr : (r.erase ((i0 : Int) + 1)).Pairwise (· < ·) := hpw.sublist (List.erase_sublist ..)
  have hg0 : g i0 = (s_a_1, 1) := (hmem i0 hi0).1 hq
  have hi0s : i0 < min M (c + j) := by
    apply Classical.byContradiction; intro h
    have := (hwt i0 hi0).1 (by omega)
    rw [hg0] at this; cases this
  have W1 : GW { G with all := mset G.all ((i0 : Int) + 1) (s_a_1, 3) } s_a_1 (M + j) M (fun k => if k = i0 then (s_a_1, 3) else g k) (lnT (min M (c + j)) (M - min M (c + j)) 50) 8 50 :=
    ⟨by simp only; rw [W.all, rqT_set hi0], W.ln, W.nl, W.room, W.pat⟩
  have gd : ∀ {F' G' out}, gFlow (PF1 c (r.erase ((i0 : Int) + 1))) { G with all := mset G.all ((i0 : Int) + 1) (s_a_1, 3) } s_a_1 = (F', G', out) → gDone (PF1 c r) G ((i0 : Int) + 1) = (F', G', ((i0 : Int) + 1, 3, 0, s_, ()) :: out, 0) := by
    intro F' G' out e
    unfold gDone
    rw [eg, if_neg (by simp)]
    simp only
    rw [e]
  by_cases h : c + j < M
  · have hs : min M (c + j) = c + j := by omega
    rw [hs] at W1 hlen hb hbr hwt hi0s
    have ht := PF1_take (c := c) (s := c + j) (r := r.erase ((i0 : Int) + 1)) (by omega) hbr
    have hb2 : ∀ x ∈ r.erase ((i0 : Int) + 1) ++ [((c + j : Nat) : Int) + 1], 1 ≤ x ∧ x ≤ ((c + j + 1 : Nat) : Int) := fun x hx => by
      rcases List.mem_append.1 hx with hx | hx
      · have := hbr x hx; omega
      · simp at hx; subst hx; omega
    have hfl : flowA s_a_1 (lnT (c + j) (M - (c + j)) 50) (PF1 c (r.erase ((i0 : Int) + 1))) (rqT M fun k => if k = i0 then (s_a_1, 3) else g k) [] =
        (PF1 c (r.erase ((i0 : Int) + 1) ++ [((c + j : Nat) : Int) + 1]), rqT M (fun k => if k = c + j then (s_a_1, 1) else if k = i0 then (s_a_1, 3) else g k), lnT (c + j + 1) (M - (c + j + 1)) 50, [(((c + j : Nat) : Int) + 1, 1, 1, s_, ())]) := by
      rw [show M - (c + j) = (M - (c + j + 1)) + 1 by omega, lnT_cons, flowA, ht, if_pos rfl]
      simp only [List.nil_append]
      rw [rqT_set h]
      cases hL : M - (c + j + 1) with
      | zero => rfl
      | succ L =>
        rw [lnT_cons, flowA, PF1_full (s := c + j + 1) (by rw [List.length_append, hel]; simp only [List.length_cons, List.length_nil]; omega) hb2 (by omega), if_neg (by simp)]
    obtain ⟨G', e, W'⟩ := W1.flow hfl
    refine ⟨_, G', _, r.erase ((i0 : Int) + 1) ++ [((c + j : Nat) : Int) + 1], fun k => if k = c + j then (s_a_1, 1) else if k = i0 then (s_a_1, 3) else g k, gd e, by rw [if_pos h]; rfl, ⟨rfl, ?_, ?_, ?_, ?_, ?_, ?_, ?_⟩⟩
    · rw [show min M (c + (j + 1)) = c + j + 1 by omega]; exact W'
    · rw [List.length_append, hel]; simp only [List.length_cons, List.length_nil]; omega
    · rw [List.pairwise_append]
      exact ⟨hpr, List.pairwise_singleton .., fun a ha b hb => by simp at hb; subst hb; have := hbr a ha; omega⟩
    · intro i hi
      rw [List.mem_append, hmer, List.mem_singleton]
      by_cases e1 : i = c + j
      · subst e1; rw [if_pos rfl]; simp
      · rw [if_neg e1]
        by_cases e2 : i = i0
        · subst e2; rw [if_pos rfl]
          constructor
          · rintro (⟨h, -⟩ | h)
            · exact (h rfl).elim
            · omega
          · intro h; cases h
        · rw [if_neg e2, ← hmem i hi]
          constructor
          · rintro (⟨-, h⟩ | h)
            · exact h
            · omega
          · intro h; exact .inl ⟨by omega, h⟩
    · intro i hi
      rw [show min M (c + (j + 1)) = c + j + 1 by omega]
      by_cases e1 : i = c + j
      · subst e1; rw [if_pos rfl]
        constructor
        · intro h; omega
        · intro h; cases h
      · rw [if_neg e1]
        by_cases e2 : i = i0
        · subst e2; rw [if_pos rfl]
          constructor
          · intro h; omega
          · intro h; cases h
        · rw [if_neg e2, ← hwt i hi]; omega
    · intro i hi
      by_cases e1 : i = c + j
      · rw [if_pos e1]; exact .inl rfl
      · rw [if_neg e1]
        by_cases e2 : i = i0
        · rw [if_pos e2]; exact .inr (.inr rfl)
        · rw [if_neg e2]; exact hot i hi
    · rw [show min M (c + (j + 1)) = c + j + 1 by omega]; exact hb2
  · have hs : min M (c + j) = M := by omega
    rw [hs] at W1 hlen hb hbr hwt hi0s
    have hfl : flowA s_a_1 (lnT M (M - M) 50) (PF1 c (r.erase ((i0 : Int) + 1))) (rqT M fun k => if k = i0 then (s_a_1, 3) else g k) [] =
        (PF1 c (r.erase ((i0 : Int) + 1)), rqT M (fun k => if k = i0 then (s_a_1, 3) else g k), lnT M (M - M) 50, []) := by
      rw [Nat.sub_self]; rfl
    obtain ⟨G', e, W'⟩ := W1.flow hfl
    refine ⟨_, G', _, r.erase ((i0 : Int) + 1), fun k => if k = i0 then (s_a_1, 3) else g k, gd e, by rw [if_neg h]; rfl, ⟨rfl, ?_, ?_, hpr, ?_, ?_, ?_, ?_⟩⟩
    · rw [show min M (c + (j + 1)) = M by omega]; exact W'
    · rw [hel]; omega
    · intro i hi
      rw [hmer]
      by_cases e2 : i = i0
      · subst e2; rw [if_pos rfl]
        constructor
        · rintro ⟨h, -⟩; exact (h rfl).elim
        · intro h; cases h
      · rw [if_neg e2, ← hmem i hi]
        exact ⟨fun h => h.2, fun h => ⟨by omega, h⟩⟩
    · intro i hi
      rw [show min M (c + (j + 1)) = M by omega]
      by_cases e2 : i = i0
      · subst e2; rw [if_pos rfl]
        constructor
        · intro h; omega
        · intro h; cases h
      · rw [if_neg e2, ← hwt i hi]
    · intro i hi
      by_cases e2 : i = i0
      · rw [if_pos e2]; exact .inr (.inr rfl)
      · rw [if_neg e2]; exact hot i hi
    · rw [show min M (c + (j + 1)) = M by omega]; exact hbr
theorem gCnt_rqT {m : Nat} {g : Nat → ByteArray × Int} {q : Int} : gCnt (rqT m g) q = ((List.range m).filter fun i => decide ((g i).2 = q)).length := rqT_count (rev := s_) (p := fun x => decide (x.2 = q))
end Go.Proofs.YthmpbgloifdcnaaGreat
