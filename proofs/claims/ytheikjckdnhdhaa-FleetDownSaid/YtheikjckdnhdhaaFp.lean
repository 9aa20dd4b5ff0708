/- Contracts of functions, and walks of laws (text Fp). No conditions beyond those its theorems state. -/
import Derived.Test.YtheikjckdnhdhaaFn
set_option linter.all false
namespace Go.Proofs.Ytheikjckdnhdhaa
open Go.Dm
attribute [local irreducible] L.load L.store L.chk L.new L.nonnil L.guard L.ite L.draw L.idx L.sem L.semR L.semU L.chkSem L.next L.call L.callV L.join L.alts L.loop L.begin L.endRound L.range
variable {w0 w : World} {E : List Seg}
/-! ### pods of one revision, by a table -/
def pG (c : Int) (ready : Nat → Bool) (rs : Nat → List Int) (k : Nat) : AHeld := ⟨(k : Int) + 1, s_a_1, ⟨if ready k = true then 2 else 1, c, rs k⟩⟩
def PF (n : Nat) (c : Int) (ready : Nat → Bool) (rs : Nat → List Int) : AFleet := ⟨10, n, tab n (pG c ready rs)⟩
theorem tab_succ {α : Type} {n : Nat} {f : Nat → α} : tab (n + 1) f = tab n f ++ [f n] := by simp [tab, List.range_succ]
theorem tab_mem {α : Type} {n : Nat} {f : Nat → α} {x : α} : x ∈ tab n f ↔ ∃ i, i < n ∧ f i = x := by simp [tab]
theorem tab_congr {α : Type} {n : Nat} {f g : Nat → α} (h : ∀ i, i < n → f i = g i) : tab n f = tab n g := by
  unfold tab; exact List.map_congr_left fun i hi => h i (by simpa using hi)
theorem revs_all {l : List AHeld} {rev : ByteArray} (h : ∀ x ∈ l, x.rev = rev) : revs l rev = l := by
  unfold revs; rw [List.filter_eq_self]; exact fun x hx => decide_eq_true (h x hx)
theorem pf_revs {n : Nat} {c : Int} {ready : Nat → Bool} {rs : Nat → List Int} : revs (tab n (pG c ready rs)) s_a_1 = tab n (pG c ready rs) :=
  revs_all fun x hx => by obtain ⟨i, -, rfl⟩ := tab_mem.1 hx; rfl
theorem pf_find {n : Nat} {c : Int} {ready : Nat → Bool} {rs : Nat → List Int} {k : Nat} (h : k < n) : fFind (tab n (pG c ready rs)) ((k : Int) + 1) = some (pG c ready rs k) := by
  have pw : (tab n (pG c ready rs)).Pairwise (fun x y => x.id < y.id) := by
    unfold tab
    rw [List.pairwise_map]
    exact List.pairwise_lt_range.imp fun {a b} h => by simp only [pG]; omega
  exact fFind_of pw (tab_mem.2 ⟨k, h, rfl⟩)
theorem pf_upd {n : Nat} {c : Int} {ready : Nat → Bool} {rs : Nat → List Int} {k : Nat} {g : APod → APod} {ready' : Nat → Bool} {rs' : Nat → List Int} (h4 : (g (pG c ready rs k).pod).st ≠ 4)
    (hk : { pG c ready rs k with pod := g (pG c ready rs k).pod } = pG c ready' rs' k) (ho : ∀ i, i ≠ k → pG c ready rs i = pG c ready' rs' i) : fUpd (tab n (pG c ready rs)) ((k : Int) + 1) g = tab n (pG c ready' rs') := by
  induction n with
  | zero => rfl
  | succ n ih =>
    rw [tab_succ, tab_succ, ← ih]
    unfold fUpd
    rw [List.filterMap_append]
    congr 1
    rw [List.filterMap_cons, List.filterMap_nil]
    by_cases e : n = k
    · subst e
      rw [if_pos (by rfl), if_neg h4, hk]
    · rw [if_neg (by simp only [pG]; omega), ho n e]
theorem pf_grow (c : Int) : ∀ (n : Nat), grow s_a_1 c n ⟨10, 0, []⟩ = PF n c (fun _ => false) (fun _ => [])
  | 0 => rfl
  | n + 1 => by
    simp only [grow, pf_grow c n, grow1, PF, tab_succ]
    congr 1
theorem pf_scale (c : Int) {n : Nat} (h : n ≤ 10) : fScale ⟨10, 0, []⟩ s_a_1 c n = (PF n c (fun _ => false) (fun _ => []), []) ∧ fMade ⟨10, 0, []⟩ s_a_1 n = tab n fun j => (j : Int) + 1 := by
  have h0 : fCount ([] : List AHeld) s_a_1 = 0 := rfl
  have h1 : growN ⟨10, 0, []⟩ s_a_1 n = n := by
    have := growN_eq ⟨10, 0, []⟩ s_a_1 n
    simp only [h0, List.length_nil] at this; omega
  have hg : fGrown ⟨10, 0, []⟩ s_a_1 c n = PF n c (fun _ => false) (fun _ => []) := by unfold fGrown; rw [h1, pf_grow]
  have hc : fCount (PF n c (fun _ => false) (fun _ => [])).l s_a_1 = n := by
    have := grow_count (F := ⟨10, 0, []⟩) (rev := s_a_1) (conc := c) n
    rw [pf_grow] at this
    rw [this, h0]; omega
  have h2 : shrinkN (PF n c (fun _ => false) (fun _ => [])) s_a_1 n = 0 := by
    have := shrinkN_eq (PF n c (fun _ => false) (fun _ => [])) s_a_1 n
    rw [hc] at this; omega
  refine ⟨by unfold fScale; rw [hg, h2]; rfl, ?_⟩
  unfold fMade; rw [h1]
  exact tab_congr (f := fun j : Nat => (0 : Int) + 1 + (j : Int)) fun i _ => by omega
theorem pf_up {n : Nat} {c : Int} {ready : Nat → Bool} {rs : Nat → List Int} {k : Nat} (h : k < n) (hr : ready k = false) :
    fUpp (PF n c ready rs) ((k : Int) + 1) = (PF n c (fun i => if i = k then true else ready i) rs, 0) := by
  unfold fUpp
  rw [show fFind (PF n c ready rs).l ((k : Int) + 1) = some (pG c ready rs k) from pf_find h]
  have hu : podUp (pG c ready rs k).pod = ({ (pG c ready rs k).pod with st := 2 }, 0) := by unfold podUp; rw [if_neg (by simp [pG, hr])]
  simp only [hu]
  congr 1
  unfold PF
  congr 1
  refine pf_upd (ready' := fun i => if i = k then true else ready i) ?_ ?_ ?_
  · rw [hu]; show (2 : Int) ≠ 4; decide
  · rw [hu]; simp [pG]
  · intro i hi; simp [pG, hi]
theorem pf_where {n : Nat} {c : Int} {ready : Nat → Bool} {rs : Nat → List Int} {q : Int} (h : ∀ i, i < n → q ∉ rs i) : fWhere (PF n c ready rs).l q = none := by
  unfold fWhere
  rw [List.find?_eq_none]
  intro x hx
  obtain ⟨i, hi, rfl⟩ := tab_mem.1 hx
  show ¬ decide (q ∈ rs i) = true
  rw [decide_eq_true_eq]; exact h i hi
theorem pf_take {n : Nat} {c : Int} {ready : Nat → Bool} {rs : Nat → List Int} {q : Int} (h : ∀ i, i < n → q ∉ rs i) {k : Nat} (hp : (tab n (pG c ready rs)).foldl pickStep none = some (pG c ready rs k)) (hk : k < n) (hc : can (pG c ready rs k) = true) :
    fTake (PF n c ready rs) s_a_1 q = (PF n c ready (fun i => if i = k then insI q (rs k) else rs i), (k : Int) + 1, true) := by
  have hpick : fPick (PF n c ready rs).l s_a_1 = some (pG c ready rs k) := by
    unfold fPick; rw [show revs (PF n c ready rs).l s_a_1 = _ from pf_revs]; exact hp
  unfold fTake
  rw [pf_where h, hpick]
  simp only [Option.isSome_none, Bool.false_eq_true, if_false]
  have ht := take_eq hc (q := q) (h k hk)
  congr 1
  unfold PF
  congr 1
  show fUpd (tab n (pG c ready rs)) ((k : Int) + 1) _ = _
  refine pf_upd (ready' := ready) ?_ ?_ ?_
  · rw [ht]; simp only [pG]; split <;> decide
  · rw [ht]; simp [pG]
  · intro i hi; simp [pG, hi]
theorem pf_take0 {n : Nat} {c : Int} {ready : Nat → Bool} {rs : Nat → List Int} {q : Int} (h : ∀ i, i < n → q ∉ rs i) (hp : (tab n (pG c ready rs)).foldl pickStep none = none) :
    fTake (PF n c ready rs) s_a_1 q = (PF n c ready rs, 0, false) := by
  have hpick : fPick (PF n c ready rs).l s_a_1 = none := by
    unfold fPick; rw [show revs (PF n c ready rs).l s_a_1 = _ from pf_revs]; exact hp
  unfold fTake
  rw [pf_where h, hpick]; rfl
theorem pf_give0 {n : Nat} {c : Int} {ready : Nat → Bool} {rs : Nat → List Int} {q : Int} (h : ∀ i, i < n → q ∉ rs i) : fGive (PF n c ready rs) q = (PF n c ready rs, s_, 6) := by
  unfold fGive; rw [pf_where h]
theorem pf_give {n : Nat} {c : Int} {ready : Nat → Bool} {rs : Nat → List Int} {q : Int} (ok : (PF n c ready rs).Ok) {k : Nat} (hk : k < n) (hq : q ∈ rs k) :
    fGive (PF n c ready rs) q = (PF n c ready (fun i => if i = k then (rs k).erase q else rs i), s_a_1, 0) := by
  have hw : fWhere (PF n c ready rs).l q = some (pG c ready rs k) := fWhere_of ok.once (tab_mem.2 ⟨k, hk, rfl⟩) hq
  unfold fGive
  rw [hw]
  have ht := give_eq (p := (pG c ready rs k).pod) hq
  have h3 : (pG c ready rs k).pod.st ≠ 3 := by simp only [pG]; split <;> decide
  simp only [h3, false_and, if_false] at ht
  simp only
  refine Prod.ext ?_ rfl
  simp only
  unfold PF
  congr 1
  show fUpd (tab n (pG c ready rs)) ((k : Int) + 1) _ = _
  refine pf_upd (ready' := ready) ?_ ?_ ?_
  · rw [ht]; simp only [pG]; split <;> decide
  · rw [ht]; simp [pG]
  · intro i hi; simp [pG, hi]
end Go.Proofs.Ytheikjckdnhdhaa
