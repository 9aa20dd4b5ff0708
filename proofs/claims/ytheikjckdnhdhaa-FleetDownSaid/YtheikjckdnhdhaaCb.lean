/- Contracts of functions, and walks of laws (text Cb). No conditions beyond those its theorems state. -/
import Derived.Test.YtheikjckdnhdhaaClose
import Derived.Test.YtheikjckdnhdhaaFq
set_option linter.all false
namespace Go.Proofs.Ytheikjckdnhdhaa
open Go.Dm Go.ChangeShapes Go.WideShapes Go.RowKit
theorem bools_of {H : Type} {enc : TypeId × Value → H} {P : Program} {W : World} {t e : TypeId} {r : Reach} {b0 : Nat} {v : Value} {d : DataW H} {ps : List MemPlace} (ht : P.underlying t = some (.slice e)) (he : P.underlying e = some .bool) (hc : P.cellsOf e = 1)
    (hval : Value.okWide P W r b0 t v) (hd : DataW.Trod enc P W 0 (fun _ => true) true t v d ps) :
    ∃ (s : Sl) (xs : List Bool), v = .slice s.a s.len s.cap ∧ s.len = xs.length ∧ ∀ i x, xs[i]? = some x → ∃ a, s.a = some a ∧ W.cell? (a.add i) = some (.bool x) := by
  obtain ⟨a0, len, cap, rfl⟩ := okWide_slice ht hval
  obtain ⟨fuel, hf⟩ := hd
  rcases DataW.trod_slice ht hf with ⟨hcs, hx⟩ | ⟨a, len', cap', elems, rest, n, _, hcs, _, hb, hl, hm, hlen, hel, _, _⟩
  · simp [Value.cells] at hcs
    obtain ⟨rfl, rfl, rfl⟩ := hcs
    exact ⟨⟨none, 0, 0⟩, [], rfl, rfl, fun i x h => (by simp at h)⟩
  · simp [Value.cells] at hcs
    obtain ⟨rfl, rfl, rfl⟩ := hcs
    have key : ∀ i y, elems[i]? = some y → ∃ b, y = (.lit (.bool b), []) ∧ W.cell? (a.add i) = some (.bool b) := by
      intro i y hy
      have hi : i < len := by have := (List.getElem?_eq_some_iff.1 hy).1; omega
      have hb' := hel i hi
      rw [hy, hc, Nat.mul_one, Option.bind_eq_some_iff] at hb'
      obtain ⟨cs', hcs', hy'⟩ := hb'
      obtain ⟨b, rfl, rfl⟩ := DataW.trod_bool he hy'
      exact ⟨b, rfl, cell_of_cells?_one hcs'⟩
    let f : DataW H × List MemPlace → Bool := fun y => match y.1 with | .lit (.bool b) => b | _ => false
    refine ⟨⟨some a, len, cap⟩, elems.map f, rfl, by simp [hlen], fun i x h => ⟨a, rfl, ?_⟩⟩
    rw [List.getElem?_map] at h
    cases hy : elems[i]? with
    | none => rw [hy] at h; cases h
    | some y =>
      rw [hy] at h
      obtain ⟨b, rfl, hcell⟩ := key i y hy
      cases h
      exact hcell
theorem fl_B (l : List Bool) : fl eB l = l.map Value.bool := by
  induction l with
  | nil => rfl
  | cons x l ih => simp only [fl, List.flatMap_cons, List.map_cons] at *; rw [ih]; rfl
theorem old_bools {W : World} {v : Sl} {l : List Bool} (h1 : v.len = l.length) (h2 : ∀ i x, l[i]? = some x → ∃ a, v.a = some a ∧ W.cell? (a.add i) = some (.bool x)) : Old W eB v l := by
  refine ⟨⟨h1, fun j u hj => ?_⟩⟩
  rw [fl_B, nth_getElem?, List.getElem?_map] at hj
  cases hx : l[j]? with
  | none => rw [hx] at hj; cases hj
  | some x => rw [hx] at hj; cases hj; exact h2 j x hx
end Go.Proofs.Ytheikjckdnhdhaa
