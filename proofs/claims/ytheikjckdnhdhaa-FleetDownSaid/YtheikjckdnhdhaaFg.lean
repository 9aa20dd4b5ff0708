/- Contracts of functions, and walks of laws (text Fg). No conditions beyond those its theorems state. -/
import Derived.Test.YtheikjckdnhdhaaFe
set_option linter.all false
namespace Go.Proofs.Ytheikjckdnhdhaa
open Go.Dm
attribute [local irreducible] L.load L.store L.chk L.new L.nonnil L.guard L.ite L.draw L.idx L.sem L.semR L.semU L.chkSem L.next L.call L.callV L.join L.alts L.loop L.begin L.endRound L.range
variable {w0 w : World} {E : List Seg}
/-! ### choices, in order of what they have -/
def eC (p : Int × Int) : List Value := [I p.1, I p.2]
theorem encC : Enc eC 2 := ⟨fun _ => rfl, fun _ => rfl, by decide⟩
theorem elC : El Pr T_s_fleet_choice T_fleet_choice 2 16 (.agg #[I 0, I 0]) := el_of (by kernel_rfl) (by kernel_rfl) rfl (by decide)
theorem Rw.stC {v : Sl} {l : List (Int × Int)} {s : Seg} {e : Nat} (h : St w0 E w) (k : Nat) (hi : nth E k = some s) (hr : Rw eC e 2 v l s) {i : Nat} {a : Addr} (ha : ElA v 2 i a) (hx : i < l.length) (y : Int × Int) {kk : PT}
    (hk : ∀ s' w', Rw eC e 2 v (l.set i y) s' → St w0 (setN E k s') w' → kk w') : L.store a [I y.1, I y.2] kk w := by
  obtain ⟨a0, hv, rfl⟩ := ha
  have hx0 : l[i]? = some l[i] := List.getElem?_eq_getElem hx
  generalize l[i] = x at hx0
  have e1 : setN (fl eC l) (i * 2 + 0) (I y.1) = fl eC (l.set i (y.1, x.2)) := fl_set encC hx0 (by decide) rfl
  have e2 : setN (fl eC (l.set i (y.1, x.2))) (i * 2 + 1) (I y.2) = fl eC ((l.set i (y.1, x.2)).set i y) := fl_set encC (x := (y.1, x.2)) (by simp [hx]) (by decide) rfl
  rw [List.set_set] at e2
  have hset : setN (setN (fl eC l) (i * 2 + 0) (I y.1)) (i * 2 + 1) (I y.2) = fl eC (l.set i y) := by rw [e1, e2]
  have hlt : i * 2 + 1 < (fl eC l).length := by rw [fl_len encC]; omega
  unfold Rw at hr hk
  rw [← hset] at hk
  have hlen2 : (setN (setN (fl eC l) (i * 2 + 0) (I y.1)) (i * 2 + 1) (I y.2)).length = (fl eC l).length := by rw [setN_set, setN_set]; simp
  have hlen1 : (setN (fl eC l) (i * 2 + 0) (I y.1)).length = (fl eC l).length := by rw [setN_set]; simp
  generalize fl eC l = xs at *
  cases hr with
  | nil => cases hv
  | mk g n cap pre xs spare post h1 h2 h3 h4 =>
    cases hv
    rw [add_none]
    have hn : ∀ j, j ≤ 1 → ∃ c, nth (pre ++ (xs ++ (spare ++ post))) (pre.length + (i * 2 + j)) = some c := fun j hj => by
      rw [nth_app_add, nth_app_lt (by omega), nth_getElem?]
      exact ⟨_, List.getElem?_eq_getElem (by omega)⟩
    refine stx [I y.1, I y.2] h k hi ?_ rfl fun w' h => hk _ w' (Row.mk g n cap pre _ spare post (by rw [hlen2]; exact h1) (by rw [hlen2]; exact h2) h3 h4) ?_
    · obtain ⟨c0, hc0⟩ := hn 0 (by omega)
      obtain ⟨c1, hc1⟩ := hn 1 (by omega)
      simp only [Nat.add_zero] at hc0
      simp [hasN, hc0, hc1, Nat.add_assoc]
    · simp only [putN] at h
      have q1 : setN (xs ++ (spare ++ post)) (i * 2 + 0) (I y.1) = setN xs (i * 2 + 0) (I y.1) ++ (spare ++ post) := setN_app_lt (by omega)
      have q2 : setN (setN xs (i * 2 + 0) (I y.1) ++ (spare ++ post)) (i * 2 + 1) (I y.2) = setN (setN xs (i * 2 + 0) (I y.1)) (i * 2 + 1) (I y.2) ++ (spare ++ post) := setN_app_lt (by omega)
      rw [show pre.length + i * 2 = pre.length + (i * 2 + 0) from rfl, setN_app_add, q1, show pre.length + (i * 2 + 0) + 1 = pre.length + (i * 2 + 1) by omega, setN_app_add, q2] at h
      exact h
/-- one more, behind those that have no more -/
def insC (x : Int × Int) : List (Int × Int) → List (Int × Int)
  | [] => [x]
  | y :: l => if x.1 < y.1 then x :: y :: l else y :: insC x l
def csort (l : List (Int × Int)) : List (Int × Int) := l.foldl (fun a x => insC x a) []
theorem insC_perm (x : Int × Int) (l : List (Int × Int)) : (insC x l).Perm (x :: l) := by
  induction l with
  | nil => exact .refl _
  | cons y l ih =>
    simp only [insC]
    split
    · exact .refl _
    · exact (ih.cons y).trans (.swap ..)
theorem insC_pw {x : Int × Int} : ∀ {l : List (Int × Int)}, l.Pairwise (fun a b => a.1 ≤ b.1) → (insC x l).Pairwise (fun a b => a.1 ≤ b.1)
  | [], _ => by simp [insC]
  | y :: l, h => by
    rw [List.pairwise_cons] at h
    simp only [insC]
    split
    · rename_i hy
      rw [List.pairwise_cons]
      refine ⟨fun z hz => ?_, List.pairwise_cons.2 h⟩
      rcases List.mem_cons.1 hz with rfl | hz
      · omega
      · have := h.1 z hz; omega
    · rename_i hy
      rw [List.pairwise_cons]
      refine ⟨fun z hz => ?_, insC_pw h.2⟩
      rcases List.mem_cons.1 ((insC_perm x l).mem_iff.1 hz) with rfl | hz
      · omega
      · exact h.1 z hz
theorem csort_take {l : List (Int × Int)} {i : Nat} {x : Int × Int} (h : l[i]? = some x) : csort (l.take (i + 1)) = insC x (csort (l.take i)) := by
  unfold csort; rw [List.take_add_one, h, List.foldl_append]; rfl
theorem csort_len (l : List (Int × Int)) : (csort l).length = l.length := by
  suffices ∀ (l a : List (Int × Int)), (l.foldl (fun a x => insC x a) a).length = a.length + l.length by
    have := this l []; simpa [csort] using this
  intro l
  induction l with
  | nil => simp
  | cons x l ih => intro a; rw [List.foldl_cons, ih, (insC_perm x a).length_eq]; simp; omega
theorem csort_pw (l : List (Int × Int)) : (csort l).Pairwise (fun a b => a.1 ≤ b.1) := by
  suffices ∀ (l a : List (Int × Int)), a.Pairwise (fun a b => a.1 ≤ b.1) → (l.foldl (fun a x => insC x a) a).Pairwise (fun a b => a.1 ≤ b.1) from this l [] .nil
  intro l
  induction l with
  | nil => exact fun a h => h
  | cons x l ih => exact fun a h => ih _ (insC_pw h)
theorem insC_at {x : Int × Int} : ∀ {A B : List (Int × Int)}, (∀ y ∈ A, ¬ x.1 < y.1) → (∀ y ∈ B, x.1 < y.1) → insC x (A ++ B) = A ++ x :: B
  | [], [], _, _ => rfl
  | [], y :: B, _, h => by simp only [List.nil_append, insC]; rw [if_pos (h y (by simp))]
  | y :: A, B, h1, h2 => by
    simp only [List.cons_append, insC]
    rw [if_neg (h1 y (by simp)), insC_at (fun z hz => h1 z (by simp [hz])) h2]
end Go.Proofs.Ytheikjckdnhdhaa
