/- Contracts of functions, and walks of laws (text We). No conditions beyond those its theorems state. -/
import Derived.Test.YtkccfgdgblkljaaWd
set_option linter.all false
namespace Go.Proofs.Ytkccfgdgblkljaa
open Go.Dm
attribute [local irreducible] L.load L.store L.chk L.new L.nonnil L.guard L.ite L.draw L.idx L.sem L.semR L.semU L.chkSem L.next L.call L.callV L.join L.alts L.loop L.begin L.endRound L.range
variable {w0 w : World} {E : List Seg}
def sq (f : Int) (k : Nat) : List (Int × Int) := (List.range k).map fun (j : Nat) => (f + (j : Int), (9 : Int))
theorem sq_len (f : Int) (k : Nat) : (sq f k).length = k := by simp [sq]
theorem sq_succ (f : Int) (k : Nat) : sq f (k + 1) = sq f k ++ [(f + k, 9)] := by simp [sq, List.range_succ]
theorem sq_cons (f : Int) (k : Nat) : sq f (k + 1) = (f, 9) :: sq (f + 1) k := by
  simp only [sq, List.range_succ_eq_map, List.map_cons, List.map_map]
  congr 1
  · simp
  · apply List.map_congr_left
    intro a _
    simp; omega
theorem sq_has (f : Int) (k : Nat) : lHas (sq f k) (f + k) = false := by
  simp only [lHas, sq, List.any_eq_false, List.mem_map, List.mem_range]
  rintro x ⟨j, hj, rfl⟩
  simp; omega
theorem W_WaitMix {p0 : Sl} {xs : List Int} (o0 : Old w0 eI p0 xs) : Calls Pr n_damperlaw8_WaitMix [SlV p0].toArray w0 fun e w' => e = .returned (.bool true) ∧ St w0 [] w' := by
  refine law_of (C_damperlaw8_WaitMix p0) ?_
  unfold F_damperlaw8_WaitMix
  refine S_known (St.init w0) fun w h => itF rfl ?_
  refine S_wNew h fun b s w hl h => itF rfl ?_
  refine join_of (fun z w => ∃ (f : Int) (k : Nat) (s : Seg), z.1 = f + k ∧ z.2.1 = f ∧ 1 ≤ f ∧ f + k < 1000 ∧ k ≤ 8 ∧ LnS b 8 (sq f k) s ∧ St w0 [s] w) (fun k3 hk3 => ?_) (fun z w ⟨f, k, s, h1, h2, h3, h4, h5, hl, h⟩ => ?_)
  · refine loop_of (fun q y w => ∃ (m : Nat) (f : Int) (k : Nat) (s : Seg), y = (f + k, f, (m : Int), ()) ∧ q + m = 80 ∧ 1 ≤ f ∧ f + k ≤ m + 1 ∧ k ≤ 8 ∧ LnS b 8 (sq f k) s ∧ St w0 [s] w) 80 ⟨0, 1, 0, s, rfl, rfl, by omega, by omega, by omega, hl, h⟩ ?_
    clear hl; (clear h; (try clear w))
    rintro q y w ⟨m, f, k, s, rfl, hq, h1, h2, h3, hl, h⟩ again hag
    dsimp only
    have hsl := sq_len f k
    refine it (fun hb => ?_) (fun hb => ?_) <;> (try simp only [decide_eq_true_eq, decide_eq_false_iff_not, beq_iff_eq, bne_iff_ne, beq_eq_false_iff_ne, bne_eq_false_iff_eq, Bool.not_eq_true', Bool.not_eq_false', ne_eq, Bool.not_eq_true, Bool.not_eq_false] at hb)
    · refine it (fun hb2 => ?_) (fun hb2 => ?_) <;> (try simp only [decide_eq_true_eq, decide_eq_false_iff_not, beq_iff_eq, bne_iff_ne, beq_eq_false_iff_ne, bne_eq_false_iff_eq, Bool.not_eq_true', Bool.not_eq_false', ne_eq, Bool.not_eq_true, Bool.not_eq_false] at hb2)
      · refine join_of (fun z w => ∃ (f : Int) (k : Nat) (s : Seg), z = (f + k, f, ()) ∧ 1 ≤ f ∧ f + k ≤ m + 2 ∧ k ≤ 8 ∧ LnS b 8 (sq f k) s ∧ St w0 [s] w) (fun k7 hk7 => ?_) (fun z w ⟨f, k, s, hz, h1, h2, h3, hl, h⟩ => ?_)
        · refine oldI o0 h (by omega) (by (try dsimp only); omega) fun x hx => ?_
          refine S_within (by omega) (by omega) ?_
          refine it (fun hc => ?_) (fun hc => ?_) <;> (try simp only [decide_eq_true_eq, decide_eq_false_iff_not, beq_iff_eq, bne_iff_ne, beq_eq_false_iff_ne, bne_eq_false_iff_eq, Bool.not_eq_true', Bool.not_eq_false', ne_eq, Bool.not_eq_true, Bool.not_eq_false] at hc)
          · refine S_Push h 0 rfl hl (by omega) fun s w hl h => ?_
            have ew : IntKind.wrap .i64 (f + ↑k - f) = k := by rw [wr] <;> omega
            rw [ew]
            have e1 : lPush 8 (sq f k) (f + k) 9 = if (k : Int) ≥ 8 then (sq f k, 8) else (sq f (k + 1), 0) := by
              simp only [lPush, sq_has, sq_len, sq_succ]; rfl
            rw [e1] at hl ⊢
            by_cases h8 : (k : Int) ≥ 8
            · rw [if_pos h8] at hl ⊢
              refine itF (by simp [h8]) (itF (by simp [h8]) ?_)
              exact hk7 _ w ⟨f, k, s, rfl, h1, by omega, h3, hl, h⟩
            · rw [if_neg h8] at hl ⊢
              refine itF (by simp; omega) (itT (by simp; omega) ?_)
              refine hk7 _ w ⟨f, k + 1, s, ?_, h1, by omega, by omega, hl, h⟩
              rw [wr (by omega) (by omega)]
              congr 1; omega
          · refine S_Pop h 0 rfl hl (by omega) fun s w hl h => ?_
            cases k with
            | zero =>
              refine join_of (fun z w => St w0 [s] w) (fun k14 hk14 => itF (by simp [lPop, sq]) (itF rfl (hk14 _ w h))) (fun z w h => itF rfl ?_)
              exact hk7 _ w ⟨f, 0, s, rfl, h1, by omega, h3, hl, h⟩
            | succ k =>
              rw [sq_cons] at hl ⊢
              refine join_of (fun z w => St w0 [s] w) (fun k14 hk14 => itF (by simp [lPop]; omega) (itT rfl (itF (by simp [lPop]) (hk14 _ w h)))) (fun z w h => itT rfl ?_)
              refine hk7 _ w ⟨f + 1, k, s, ?_, by omega, by omega, by omega, hl, h⟩
              rw [wr (by omega) (by omega)]
              congr 1; omega
        · subst hz
          refine hag (q - 1) _ w (by omega) ⟨m + 1, f, k, s, ?_, by omega, h1, by omega, h3, hl, h⟩
          rw [wr (by omega) (by omega)]; simp
      · exact hk3 _ w ⟨f, k, s, rfl, rfl, h1, by omega, h3, hl, h⟩
    · exact hk3 _ w ⟨f, k, s, rfl, rfl, h1, by omega, h3, hl, h⟩
  · refine S_wLen h 0 rfl hl ⟨?_, h.none⟩
    rw [h1, h2, sq_len, wr (by omega) (by omega)]
    simp; omega
end Go.Proofs.Ytkccfgdgblkljaa
