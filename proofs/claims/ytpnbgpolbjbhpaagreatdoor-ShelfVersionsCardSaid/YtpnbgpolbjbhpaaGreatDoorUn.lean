/- Contracts of functions, and walks of laws (text Un). No conditions beyond those its theorems state. -/
import Derived.Test.YtpnbgpolbjbhpaaGreatDoorUv
set_option linter.all false
namespace Go.Proofs.YtpnbgpolbjbhpaaGreatDoor
open Go.Dm
attribute [local irreducible] L.load L.store L.chk L.new L.nonnil L.guard L.ite L.draw L.idx L.sem L.semR L.semU L.chkSem L.next L.call L.callV L.join L.alts L.loop L.begin L.endRound L.range
variable {w0 w : World} {E : List Seg}
/-! ### ShelfVersions -/
def nmV (k m : Nat) : ByteArray := if k = 0 then ([s_web, s_api, s_a_b][m]?).getD s_ else ([s_front, s_back, s_r_1][m]?).getD s_
theorem nmV_inj : ∀ (k : Fin 2) (m m' : Fin 3), nmV k.val m.val = nmV k.val m'.val → m = m' := by decide +kernel
theorem nmV_ok : ∀ (k : Fin 2) (m : Fin 3), shortB (nmV k.val m.val).data.toList 16 = true := by decide +kernel
def isK (a : AShelf) (k m : Nat) : Bool := if k = 0 then (tget a.m (nmV k m)).is else (rget a.r (nmV k m)).is
def verK (a : AShelf) (k m : Nat) : Int := if k = 0 then (tget a.m (nmV k m)).ver else (rget a.r (nmV k m)).ver
structure VI (a : AShelf) (V : List Int) : Prop where
  len : V.length = 6
  few : a.Few
  at_ : ∀ k m x, k < 2 → m < 3 → V[k * 3 + m]? = some x → 0 ≤ x ∧ x ≤ a.n ∧ (0 < x → isK a k m = true ∧ verK a k m = x) ∧ (x = 0 → isK a k m = false)
theorem VI.upd {a a' : AShelf} {V : List Int} (h : VI a V) {k m : Nat} (hk : k < 2) (hm : m < 3) (few : a'.Few) (hn : a.n ≤ a'.n) (x : Int) (hx : 0 ≤ x ∧ x ≤ a'.n ∧ (0 < x → isK a' k m = true ∧ verK a' k m = x) ∧ (x = 0 → isK a' k m = false))
    (ho : ∀ k' m', k' < 2 → m' < 3 → ¬ (k' = k ∧ m' = m) → isK a' k' m' = isK a k' m' ∧ verK a' k' m' = verK a k' m') : VI a' (V.set (k * 3 + m) x) := by
  refine ⟨by rw [List.length_set]; exact h.len, few, fun k' m' y hk' hm' hy => ?_⟩
  rw [List.getElem?_set] at hy
  have hl := h.len
  split at hy
  · rename_i e
    have e1 : k' = k := by omega
    have e2 : m' = m := by omega
    subst e1; subst e2
    rw [if_pos (by omega)] at hy
    cases hy; exact hx
  · rename_i e
    obtain ⟨o1, o2⟩ := ho k' m' hk' hm' (fun e2 => e (by rw [e2.1, e2.2]))
    rw [o1, o2]
    obtain ⟨h1, h2, h3⟩ := h.at_ k' m' y hk' hm' hy
    exact ⟨h1, by omega, h3⟩
theorem isK0 (a : AShelf) (m : Nat) : isK a 0 m = (tget a.m (nmV 0 m)).is := rfl
theorem verK0 (a : AShelf) (m : Nat) : verK a 0 m = (tget a.m (nmV 0 m)).ver := rfl
theorem isK1 (a : AShelf) (m : Nat) : isK a 1 m = (rget a.r (nmV 1 m)).is := rfl
theorem verK1 (a : AShelf) (m : Nat) : verK a 1 m = (rget a.r (nmV 1 m)).ver := rfl
theorem nmV_ne {k m m' : Nat} (hk : k < 2) (hm : m < 3) (hm' : m' < 3) (h : m' ≠ m) : nmV k m ≠ nmV k m' := fun e => h (congrArg Fin.val (nmV_inj ⟨k, hk⟩ ⟨m, hm⟩ ⟨m', hm'⟩ e)).symm
theorem VI.putC {a : AShelf} {V : List Int} (h : VI a V) (h0 : 0 ≤ a.n) {m : Nat} (hm : m < 3) {c : Cfg} (hc : c.1 = nmV 0 m) : VI ⟨putC a.m c.1 c (a.n + 1), a.r, a.n + 1⟩ (V.set (0 * 3 + m) (a.n + 1)) := by
  refine h.upd (a' := ⟨Go.Proofs.YtpnbgpolbjbhpaaGreatDoor.putC a.m c.1 c (a.n + 1), a.r, a.n + 1⟩) (k := 0) (m := m) (by decide) hm h.few (by (try dsimp only); omega) (a.n + 1) ⟨Int.le_trans h0 (Int.le_of_lt (Int.lt_succ _)), Int.le_refl _, fun _ => ?_, fun h => by (try dsimp only at h); omega⟩ fun k' m' hk' hm' hne => ?_
  · rw [isK0, verK0]; dsimp only; rw [hc, tget_putC', if_pos rfl]; exact ⟨rfl, rfl⟩
  · have : k' = 0 ∨ k' = 1 := by omega
    rcases this with rfl | rfl
    · rw [isK0, verK0, isK0, verK0]; dsimp only
      rw [hc, tget_putC', if_neg (nmV_ne hk' hm hm' (fun e => hne ⟨rfl, e⟩))]; exact ⟨rfl, rfl⟩
    · exact ⟨rfl, rfl⟩
theorem VI.putR {a : AShelf} {V : List Int} (h : VI a V) (h0 : 0 ≤ a.n) {m : Nat} (hm : m < 3) {r : ARt} (hl : r.ts.length ≤ 6) (hc : r.name = nmV 1 m) : VI ⟨a.m, putRt a.r r.name r (a.n + 1), a.n + 1⟩ (V.set (1 * 3 + m) (a.n + 1)) := by
  refine h.upd (k := 1) (m := m) (by decide) hm ?_ (by (try dsimp only); omega) (a.n + 1) ⟨Int.le_trans h0 (Int.le_of_lt (Int.lt_succ _)), Int.le_refl _, fun _ => ?_, fun h => by (try dsimp only at h); omega⟩ fun k' m' hk' hm' hne => ?_
  · intro x hx
    simp only [putRt] at hx
    rcases mset_mem hx with rfl | hx
    · exact hl
    · exact h.few x hx
  · rw [isK1, verK1]; dsimp only; rw [hc, rget_putRt, if_pos rfl]; exact ⟨rfl, rfl⟩
  · have : k' = 0 ∨ k' = 1 := by omega
    rcases this with rfl | rfl
    · exact ⟨rfl, rfl⟩
    · rw [isK1, verK1, isK1, verK1]; dsimp only
      rw [hc, rget_putRt, if_neg (nmV_ne hk' hm hm' (fun e => hne ⟨rfl, e⟩))]; exact ⟨rfl, rfl⟩
theorem dropK {a : AShelf} {k m : Nat} (hk : k < 2) {v : Int} (h0 : v ≠ 0) : shDrop a ((k : Int) + 1) (nmV k m) v = if isK a k m = true then (if verK a k m = v then (⟨if k = 0 then dropC a.m (nmV k m) else a.m, if k = 0 then a.r else dropRt a.r (nmV k m), a.n + 1⟩, 0) else (a, 7)) else (a, 6) := by
  have : k = 0 ∨ k = 1 := by omega
  rcases this with rfl | rfl
  · have e : ((0 : Nat) : Int) + 1 = 1 := rfl
    rw [e, shDrop1, mayC_V, isK0, verK0]
    cases hb : (tget a.m (nmV 0 m)).is
    · rw [mayV_no h0]; simp
    · rw [mayV_is h0]; simp only [if_true]; split <;> simp
  · have e : ((1 : Nat) : Int) + 1 = 2 := rfl
    rw [e, shDrop2, isK1, verK1]
    cases hb : (rget a.r (nmV 1 m)).is
    · rw [mayV_no h0]; simp
    · rw [mayV_is h0]; simp only [if_true]; split <;> simp
theorem VI.drop {a : AShelf} {V : List Int} (h : VI a V) (h0 : 0 ≤ a.n) {k m : Nat} (hk : k < 2) (hm : m < 3) : VI ⟨if k = 0 then dropC a.m (nmV k m) else a.m, if k = 0 then a.r else dropRt a.r (nmV k m), a.n + 1⟩ (V.set (k * 3 + m) 0) := by
  have : k = 0 ∨ k = 1 := by omega
  rcases this with rfl | rfl
  · simp only [if_true]
    refine h.upd (a' := ⟨dropC a.m (nmV 0 m), a.r, a.n + 1⟩) (k := 0) (m := m) hk hm h.few (by (try dsimp only); omega) 0 ⟨Int.le_refl _, Int.le_trans h0 (Int.le_of_lt (Int.lt_succ _)), fun h => by omega, fun _ => ?_⟩ fun k' m' hk' hm' hne => ?_
    · rw [isK0]; dsimp only; rw [tget_dropC', if_pos rfl]
    · have : k' = 0 ∨ k' = 1 := by omega
      rcases this with rfl | rfl
      · rw [isK0, verK0, isK0, verK0]; dsimp only
        rw [tget_dropC', if_neg (nmV_ne hk' hm hm' (fun e => hne ⟨rfl, e⟩))]; exact ⟨rfl, rfl⟩
      · exact ⟨rfl, rfl⟩
  · simp only [show ¬ ((1 : Nat) = 0) by decide, if_false]
    refine h.upd (k := 1) (m := m) hk hm ?_ (by (try dsimp only); omega) 0 ⟨Int.le_refl _, Int.le_trans h0 (Int.le_of_lt (Int.lt_succ _)), fun h => by omega, fun _ => ?_⟩ fun k' m' hk' hm' hne => ?_
    · intro x hx
      simp only [dropRt] at hx
      rcases mset_mem hx with rfl | hx
      · simp
      · exact h.few x hx
    · rw [isK1]; dsimp only; rw [rget_dropRt, if_pos rfl]
    · have : k' = 0 ∨ k' = 1 := by omega
      rcases this with rfl | rfl
      · exact ⟨rfl, rfl⟩
      · rw [isK1, verK1, isK1, verK1]; dsimp only
        rw [rget_dropRt, if_neg (nmV_ne hk' hm hm' (fun e => hne ⟨rfl, e⟩))]; exact ⟨rfl, rfl⟩
theorem VI.zero : VI ⟨[], [], 0⟩ [0, 0, 0, 0, 0, 0] := by
  refine ⟨rfl, few0, fun k m x hk hm hx => ?_⟩
  have e : x = 0 := by
    have : k * 3 + m < 6 := by omega
    have h := List.mem_of_getElem? hx
    simpa using h
  subst e
  refine ⟨by omega, Int.le_refl _, fun h => by omega, fun _ => ?_⟩
  unfold isK
  split <;> rfl
theorem setN_I (V : List Int) (j : Nat) (x : Int) : setN (V.map I) j (I x) = (V.set j x).map I := by rw [setN_set, List.map_set]
theorem nth_I {V : List Int} {j : Nat} {x : Int} (h : V[j]? = some x) : nth (V.map I) j = some (I x) := by rw [nth_getElem?, List.getElem?_map, h]; rfl
end Go.Proofs.YtpnbgpolbjbhpaaGreatDoor
