/- A reading of the code as predicates on the world, and its soundness, or contracts of functions proved by it: text GA. No conditions beyond those its theorems state. -/
import Derived.Test.YtlikldnigjnpeaaG
import Derived.Test.YtlikldnigjnpeaaSep2
namespace Go.Proofs.Ytlikldnigjnpeaa
open Go.Dm
variable {w0 w : World} {E : List Seg}
abbrev I (n : Int) : Value := .int .i64 n
theorem wr {n : Int} (h1 : -9223372036854775808 ≤ n) (h2 : n < 9223372036854775808) : IntKind.wrap .i64 n = n := by rw [IntKind.wrap_i64]; omega
theorem S_within {p0 p1 : Int} (h : 0 < p1) (hp : p1 ≤ 2147483648) {k : Int → PT} (hk : k (p0 % p1) w) : L.call Pr n_damperlaw9_within [I p0, I p1] (.one (.one (.int .i64))) k w := by
  refine call_of (C_damperlaw9_within p0 p1) ?_
  unfold F_damperlaw9_within
  refine gd (by omega) ?_
  have h1 := Int.emod_nonneg p0 (by omega : p1 ≠ 0)
  have h2 := Int.emod_lt_of_pos p0 h
  have e : Int.tmod p0 p1 = if 0 ≤ p0 ∨ p1 ∣ p0 then p0 % p1 else p0 % p1 - p1 := by
    rw [Int.tmod_eq_emod]
    split
    · simp
    · omega
  refine join_of (fun z w' => z.1 = p0 % p1 ∧ w' = w) (fun k' hk' => ?_) (fun y w' ⟨h1, h2⟩ => by subst h2; exact ⟨_, rfl, by rw [h1]; exact hk⟩)
  refine it (fun hb => hk' _ _ ⟨?_, rfl⟩) (fun hb => hk' _ _ ⟨?_, rfl⟩)
  · simp only [decide_eq_true_eq] at hb
    show IntKind.wrap .i64 _ = _
    rw [e] at hb ⊢
    split at hb <;> rename_i hc
    · omega
    · rw [if_neg hc, wr] <;> omega
  · simp only [decide_eq_false_iff_not] at hb
    show Int.tmod p0 p1 = _
    rw [e] at hb ⊢
    split at hb <;> rename_i hc
    · rw [if_pos hc]
    · omega
/-- a ring and what stands behind it -/
def gc (l : List Int) (n : Int) (r : List Value) : List Value := l.map I ++ I n :: r
theorem gc_n {l : List Int} {n : Int} {r : List Value} (hl : l.length = 60) : nth (gc l n r) 60 = some (I n) := by
  have := nth_app_add (A := l.map I) (B := I n :: r) (i := 0)
  rw [List.length_map, hl] at this; exact this
theorem gc_r {l : List Int} {n : Int} {r : List Value} (hl : l.length = 60) (j : Nat) : nth (gc l n r) (61 + j) = nth r j := by
  have := nth_app_add (A := l.map I) (B := I n :: r) (i := 1 + j)
  rw [List.length_map, hl] at this
  have e : 61 + j = 60 + (1 + j) := by omega
  rw [e]
  refine Eq.trans this ?_
  rw [Nat.add_comm 1 j]; rfl
theorem gc_l {l : List Int} {n : Int} {r : List Value} {j : Nat} {x : Int} (hj : l[j]? = some x) : nth (gc l n r) j = some (I x) := by
  rw [gc, nth_app_lt (by have := (List.getElem?_eq_some_iff.1 hj).1; simpa using this), nth_getElem?, List.getElem?_map, hj]; rfl
theorem gc_set_l {l : List Int} {n : Int} {r : List Value} {j : Nat} {x : Int} (hj : j < l.length) : setN (gc l n r) j (I x) = gc (l.set j x) n r := by
  rw [setN_set, gc, gc, List.set_append_left _ _ (by simpa using hj), List.map_set]
theorem gc_set_n {l : List Int} {n m : Int} {r : List Value} (hl : l.length = 60) : setN (gc l n r) 60 (I m) = gc l m r := by
  rw [setN_set, gc, gc, List.set_append_right _ _ (by simp [hl])]
  simp [hl]
theorem gc_set_r {l : List Int} {n : Int} {r : List Value} {v : Value} (hl : l.length = 60) (j : Nat) : setN (gc l n r) (61 + j) v = gc l n (setN r j v) := by
  rw [setN_set, gc, gc, setN_set, List.set_append_right _ _ (by simp [hl]; omega)]
  have e : 61 + j - (List.map I l).length = j + 1 := by simp [hl]; omega
  rw [e]; rfl
theorem S_ring_add (h : St w0 E w) (i : Nat) {b T : Nat} {l : List Int} {n : Int} {r : List Value} {x : Int} (hi : nth E i = some [Cl b T (gc l n r)]) (hl : l.length = 60) (h0 : 0 ≤ n) (hn : n < 4611686018427387904) {k : Unit → PT}
    (hk : ∀ w', St w0 (setN E i [Cl b T (gc (l.set (n.toNat % 60) x) (n + 1) r)]) w' → k () w') : L.call Pr n_gauge_ring_int_add [.pointer (some ⟨b, 0, none⟩), I x] (.tup []) k w := by
  refine call_of (C_gauge_ring_int_add _ _) ?_
  unfold F_gauge_ring_int_add
  refine dr h fun w h => nn ?_
  refine ld h i hi (x := n) (gc_n hl) (gd (by omega) (nn ?_))
  have em : Int.tmod n 60 = ((n.toNat % 60 : Nat) : Int) := by rw [Int.tmod_eq_emod]; simp [h0]; omega
  have hlt : n.toNat % 60 < 60 := Nat.mod_lt _ (by omega)
  refine ix (by rw [em]; omega) (by rw [em]; omega) ?_
  rw [em, Int.toNat_natCast, Nat.mul_one, add_zero', add_none, Nat.zero_add]
  refine st1 h i hi (gc_l (List.getElem?_eq_getElem (by omega))) rfl fun w h => ?_
  have hi2 : nth (setN E i [Cl b T (setN (gc l n r) (n.toNat % 60) (I x))]) i = some [Cl b T (gc (l.set (n.toNat % 60) x) n r)] := by
    rw [gc_set_l (by omega)]; exact nth_setN hi
  refine nn (ld h i hi2 (x := n) (gc_n (by simpa using hl)) (nn ?_))
  rw [wr (by omega) (by omega)]
  refine st1 h i hi2 (gc_n (by simpa using hl)) rfl fun w h => ⟨(), rfl, hk w ?_⟩
  rw [gc_set_n (by simpa using hl), setN_setN] at h
  exact h
end Go.Proofs.Ytlikldnigjnpeaa
