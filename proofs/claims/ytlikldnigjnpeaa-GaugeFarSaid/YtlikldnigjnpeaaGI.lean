/- A reading of the code as predicates on the world, and its soundness, or contracts of functions proved by it: text GI. No conditions beyond those its theorems state. -/
import Derived.Test.YtlikldnigjnpeaaGH
namespace Go.Proofs.Ytlikldnigjnpeaa
open Go.Dm
variable {w0 w : World} {E : List Seg}
def md (xs : List Int) (m : Nat) : List Int := (xs.take m).map fun x => x % 1000
theorem md_succ {xs : List Int} {m : Nat} {x : Int} (h : xs[m]? = some x) : md xs (m + 1) = md xs m ++ [x % 1000] := by
  unfold md; rw [List.take_add_one, h]; simp
theorem md_len {xs : List Int} {m : Nat} (h : m ≤ xs.length) : (md xs m).length = m := by unfold md; simp; omega
theorem md_get {xs : List Int} {m j : Nat} {x : Int} (hj : j < m) (h : xs[j]? = some x) : (md xs m)[j]? = some (x % 1000) := by
  unfold md; rw [List.getElem?_map, List.getElem?_take, if_pos hj, h]; rfl
theorem lastS_all (zs : List Int) : lastS zs zs.length = isum zs := by
  unfold lastS
  rw [List.take_of_length_le (by simp), isum_rev]
theorem wr_sub (a b : Int) : IntKind.wrap .i64 (IntKind.wrap .i64 a - IntKind.wrap .i64 b) = IntKind.wrap .i64 (a - b) := by
  simp only [IntKind.wrap_i64]; omega
theorem W_GaugeSums {p0 : Sl} {p1 : Int} {xs : List Int} (o0 : Old w0 p0 xs) :
    Calls Pr n_damperlaw9_GaugeSums [.slice p0.a p0.len p0.cap, I p1].toArray w0 fun e w' => e = .returned (.bool true) ∧ St w0 [] w' := by
  refine (C_damperlaw9_GaugeSums p0 p1 (K := fun v w' => v = .bool true ∧ St w0 [] w') ?_).mono fun e w' ⟨v, he, hv, hg⟩ => ⟨by rw [he, hv], hg⟩
  unfold F_damperlaw9_GaugeSums
  refine S_known (St.init w0) fun w h => itF rfl ?_
  refine S_New h fun b s w hg h => itF rfl ?_
  have hl0 := o0.len
  have hmin : (if 55 < ((p0.len : Nat) : Int) then 55 else ((p0.len : Nat) : Int)) = ((min 55 p0.len : Nat) : Int) := by omega
  rw [hmin]
  generalize hM : min 55 p0.len = M
  refine loop_of (fun q y w => ∃ (m : Nat) (s : Seg), @Eq Int y.1 m ∧ q + m = M ∧ GS b (md xs m) s ∧ St w0 [s] w) M ⟨0, s, rfl, rfl, hg, h⟩ ?_
  clear hg h
  rintro q ⟨y, ⟨⟩⟩ w ⟨m, s, hy, hq, hg, h⟩ again hag
  simp only at hy
  subst hy
  have hml : (md xs m).length = m := md_len (by omega)
  refine it (fun hb => ?_) (fun hb => ?_)
  · have hb : (m : Int) < (M : Int) := of_decide_eq_true hb
    dsimp only
    refine o0.at h (by omega) (by omega) fun x hx => S_within (by omega) (by omega) ?_
    rw [Int.toNat_natCast] at hx
    have h1 := Int.emod_nonneg x (by omega : (1000 : Int) ≠ 0)
    refine S_Add h 0 rfl hg (by omega) fun s w hg h => hag (q - 1) _ w (by omega) ⟨m + 1, s, wr1 (by omega), by omega, ?_, h⟩
    rw [md_succ hx]
    rw [if_neg (by omega)] at hg; exact hg
  have hb : ¬ (m : Int) < (M : Int) := of_decide_eq_false hb
  have eM : m = M := by omega
  subst eM
  refine S_within (by omega) (by omega) ?_
  have h1 := Int.emod_nonneg p1 (by omega : (60 : Int) ≠ 0)
  have h2 := Int.emod_lt_of_pos p1 (by omega : (0 : Int) < 60)
  obtain ⟨k, hk⟩ : ∃ k : Nat, p1 % 60 = (k : Int) := ⟨(p1 % 60).toNat, by omega⟩
  rw [hk] at h1 h2 ⊢
  have ek : IntKind.wrap .i64 (1 + (k : Int)) = ((k + 1 : Nat) : Int) := by rw [wr (by omega) (by omega)]; omega
  rw [ek]
  have ek2 : IntKind.wrap .i64 (((k + 1 : Nat) : Int) - 1) = (k : Int) := by rw [wr (by omega) (by omega)]; omega
  rw [ek2]
  refine S_Last h 0 rfl hg (by omega) fun w h => ?_
  refine S_Last h 0 rfl hg (by omega) fun w h => ?_
  have n1 : lastN (md xs m) ((k + 1 : Nat) : Int) = min m (k + 1) := by unfold lastN; omega
  have n2 : lastN (md xs m) ((k : Nat) : Int) = min m k := by unfold lastN; omega
  have n3 : lastN (md xs m) 60 = m := by unfold lastN; omega
  rw [n1, n2]
  refine join_of (fun z w => @Eq Int z.1 (lastS (md xs m) (min m (k + 1)) - lastS (md xs m) (min m k)) ∧ 0 ≤ lastS (md xs m) (min m (k + 1)) - lastS (md xs m) (min m k) ∧ lastS (md xs m) (min m (k + 1)) - lastS (md xs m) (min m k) < 1000 ∧ St w0 [s] w) (fun k12 hk12 => ?_) (fun z w ⟨hz, hz0, hz1, h⟩ => ?_)
  · refine it (fun hc => ?_) (fun hc => ?_)
    · have hc : ((k + 1 : Nat) : Int) ≤ (m : Int) := of_decide_eq_true hc
      have e : IntKind.wrap .i64 ((m : Int) - ((k + 1 : Nat) : Int)) = ((m - (k + 1) : Nat) : Int) := by rw [wr (by omega) (by omega)]; omega
      rw [e]
      refine o0.at h (by omega) (by omega) fun x hx => S_within (by omega) (by omega) ?_
      rw [Int.toNat_natCast] at hx
      have hg1 : (md xs m).reverse[k]? = some (x % 1000) := by
        rw [List.getElem?_reverse (by omega), hml]
        have e : m - 1 - k = m - (k + 1) := by omega
        rw [e]; exact md_get (by omega) hx
      have a1 : min m (k + 1) = k + 1 := by omega
      have a2 : min m k = k := by omega
      have hD : lastS (md xs m) (min m (k + 1)) - lastS (md xs m) (min m k) = x % 1000 := by rw [a1, a2, lastS_succ hg1]; omega
      exact hk12 _ w ⟨hD.symm, by omega, by omega, h⟩
    · have hc : ¬ ((k + 1 : Nat) : Int) ≤ (m : Int) := of_decide_eq_false hc
      have a1 : min m (k + 1) = m := by omega
      have a2 : min m k = m := by omega
      have hD : lastS (md xs m) (min m (k + 1)) - lastS (md xs m) (min m k) = 0 := by rw [a1, a2]; omega
      exact hk12 _ w ⟨hD.symm, by omega, by omega, h⟩
  refine S_Last h 0 rfl hg (by omega) fun w h => ?_
  rw [n3]
  refine loop_of (fun q y w => ∃ j : Nat, @Eq Int y.2.1 j ∧ q + j = m ∧ @Eq Int y.1 (IntKind.wrap .i64 (isum (md xs j))) ∧ St w0 [s] w) m ⟨0, rfl, rfl, rfl, h⟩ ?_
  clear h
  rintro q2 ⟨y1, y2, ⟨⟩⟩ w ⟨j, hy, hq2, hs, h⟩ again2 hag2
  simp only at hy hs
  subst hy
  refine it (fun hb => ?_) (fun hb => ?_)
  · have hb : (j : Int) < (m : Int) := of_decide_eq_true hb
    dsimp only
    refine o0.at h (by omega) (by omega) fun x hx => S_within (by omega) (by omega) ?_
    rw [Int.toNat_natCast] at hx
    refine hag2 (q2 - 1) _ w (by omega) ⟨j + 1, wr1 (by omega), by omega, ?_, h⟩
    show IntKind.wrap .i64 _ = _
    rw [hs, wr_add, md_succ hx, isum_app]
    simp [isum]
  have hb : ¬ (j : Int) < (m : Int) := of_decide_eq_false hb
  have ej : j = m := by omega
  subst ej
  have hz2 : IntKind.wrap .i64 (lastS (md xs j) (min j (k + 1)) - lastS (md xs j) (min j k)) = z.1 := by
    rw [wr (by omega) (by omega)]; exact hz.symm
  refine itT ?_ (itT ?_ (itT ?_ (itT ?_ ⟨?_, h.tail⟩)))
  · dsimp only
    rw [wr_sub, hz2]; exact beq_self_eq_true _
  · refine decide_eq_true ?_
    show ((min j (k + 1) : Nat) : Int) = _
    omega
  · refine decide_eq_true ?_
    show ((min j k : Nat) : Int) = _
    omega
  · refine decide_eq_true ?_
    show IntKind.wrap .i64 (lastS (md xs j) j) = y1
    have e := lastS_all (md xs j)
    rw [hml] at e
    rw [e, hs]
  · refine congrArg Value.bool ?_
    simp
end Go.Proofs.Ytlikldnigjnpeaa
