/- A reading of the code as predicates on the world, and its soundness, or contracts of functions proved by it: text GF. No conditions beyond those its theorems state. -/
import Derived.Test.YtlikldnigjnpeaaGE
namespace Go.Proofs.Ytlikldnigjnpeaa
open Go.Dm
variable {w0 w : World} {E : List Seg}
theorem W_GaugeKnown {p0 : Int} : Calls Pr n_damperlaw9_GaugeKnown [I p0].toArray w0 fun e w' => e = .returned (.bool true) ∧ St w0 [] w' := by
  refine (C_damperlaw9_GaugeKnown p0 (K := fun v w' => v = .bool true ∧ St w0 [] w') ?_).mono fun e w' ⟨v, he, hv, hg⟩ => ⟨by rw [he, hv], hg⟩
  unfold F_damperlaw9_GaugeKnown
  refine S_known (St.init w0) fun w h => itF rfl ?_
  refine S_New h fun b s w hg h => itF rfl ?_
  refine loop_of (fun q y w => ∃ (m : Nat) (s : Seg), @Eq Int y.1 (m + 1) ∧ q + m = 70 ∧ GS b ((List.range m).map fun i => ((i : Nat) : Int) + 1) s ∧ St w0 [s] w) 70 ⟨0, s, rfl, rfl, hg, h⟩ ?_
  clear hg h
  rintro q ⟨y, ⟨⟩⟩ w ⟨m, s, hy, hq, hg, h⟩ again hag
  simp only at hy
  subst hy
  refine it (fun hb => ?_) (fun hb => ?_)
  · have hb : (m : Int) + 1 ≤ 70 := of_decide_eq_true hb
    refine S_Add h 0 rfl hg (by simp; omega) fun s w hg h => hag (q - 1) _ w (by omega) ⟨m + 1, s, ?_, by omega, ?_, h⟩
    · show IntKind.wrap .i64 ((m : Int) + 1 + 1) = _
      rw [wr (by omega) (by omega)]; omega
    · have e : ((List.range (m + 1)).map fun i => ((i : Nat) : Int) + 1) = ((List.range m).map fun i => ((i : Nat) : Int) + 1) ++ [if 0 > (m : Int) + 1 then 0 else (m : Int) + 1] := by
        rw [List.range_succ, List.map_append, if_neg (by omega)]; rfl
      rw [e]; exact hg
  have hb : ¬ (m : Int) + 1 ≤ 70 := of_decide_eq_false hb
  have em : m = 70 := by omega
  subst em
  refine S_Last h 0 rfl hg (by simp) fun w h => ?_
  refine S_Last h 0 rfl hg (by simp) fun w h => ?_
  refine S_Last h 0 rfl hg (by simp) fun w h => ?_
  refine S_within (by omega) (by omega) ?_
  have h1 := Int.emod_nonneg p0 (by omega : (100 : Int) ≠ 0)
  have h2 := Int.emod_lt_of_pos p0 (by omega : (0 : Int) < 100)
  rw [wr (by omega) (by omega)]
  refine S_Last h 0 rfl hg (by simp) fun w h => ?_
  have el : lastN ((List.range 70).map fun i => ((i : Nat) : Int) + 1) (61 + p0 % 100) = 60 := by
    unfold lastN; simp; omega
  rw [el]
  refine S_Last h 0 rfl hg (by simp) fun w h => ?_
  refine S_Add h 0 rfl hg (by simp) fun s w hg h => ?_
  refine S_Add h 0 rfl hg (by simp) fun s w hg h => ?_
  refine S_Last h 0 rfl hg (by simp) fun w h => ?_
  refine itT (by decide +kernel) (itT (by decide +kernel) (itT (by decide +kernel) (itT (by decide +kernel) ?_)))
  refine itT (by decide +kernel) (itT (by decide +kernel) (itT (by decide +kernel) (itT (by decide +kernel) ?_)))
  refine itT (by decide +kernel) (itT (by decide +kernel) (itT (by decide +kernel) (itT (by decide +kernel) ?_)))
  refine S_Idle h 0 rfl hg ⟨?_, h.tail⟩
  refine congrArg Value.bool ?_
  decide +kernel
theorem W_GaugeIdle {p0 : Sl} {xs : List Int} (o0 : Old w0 p0 xs) : Calls Pr n_damperlaw9_GaugeIdle [.slice p0.a p0.len p0.cap].toArray w0 fun e w' => e = .returned (.bool true) ∧ St w0 [] w' := by
  refine (C_damperlaw9_GaugeIdle p0 (K := fun v w' => v = .bool true ∧ St w0 [] w') ?_).mono fun e w' ⟨v, he, hv, hg⟩ => ⟨by rw [he, hv], hg⟩
  unfold F_damperlaw9_GaugeIdle
  refine S_known (St.init w0) fun w h => itF rfl ?_
  refine S_New h fun b s w hg h => itF rfl ?_
  refine join_of (fun _ w => St w0 [] w) (fun k3 hk3 => ?_) (fun _ w h => ⟨rfl, h⟩)
  refine loop_of (fun q y w => ∃ (m : Nat) (zs : List Int) (s : Seg), @Eq Int y.2.1 m ∧ q + m = 150 ∧ zs.length = m ∧ @Eq Int y.1 (tz zs) ∧ GS b zs s ∧ St w0 [s] w) 150 ⟨0, [], s, rfl, rfl, rfl, rfl, hg, h⟩ ?_
  clear hg h
  rintro q ⟨y1, y2, ⟨⟩⟩ w ⟨m, zs, s, hy, hq, hz, ht, hg, h⟩ again hag
  simp only at hy ht
  subst hy ht
  have htl := tz_le zs
  refine it (fun hb => ?_) (fun hb => hk3 _ w h.tail)
  have hb : (m : Int) < (p0.len : Int) := of_decide_eq_true hb
  refine it (fun hb2 => ?_) (fun hb => hk3 _ w h.tail)
  have hb2 : (m : Int) < 150 := of_decide_eq_true hb2
  dsimp only
  refine o0.at h (by omega) hb fun x hx => S_within (by omega) (by omega) ?_
  have h1 := Int.emod_nonneg x (by omega : (12 : Int) ≠ 0)
  have h2 := Int.emod_lt_of_pos x (by omega : (0 : Int) < 12)
  rw [wr (n := x % 12 - 10) (by omega) (by omega)]
  refine join_of (fun z w => ∃ (zs : List Int) (s : Seg), zs.length = m + 1 ∧ @Eq Int z.1 (tz zs) ∧ GS b zs s ∧ St w0 [s] w) (fun k10 hk10 => ?_) (fun z w ⟨zs, s, hz, ht, hg, h⟩ => ?_)
  · refine it (fun hc => ?_) (fun hc => ?_)
    · refine nw h fun b12 w h => gd (by omega) ?_
      have em : Int.tmod (m : Int) 2 = (m : Int) % 2 := by rw [Int.tmod_eq_emod_of_nonneg (by omega)]
      rw [em]
      refine ix (by omega) (by omega) ?_
      rw [Nat.mul_one, add_none, Nat.zero_add]
      have key : ∃ u : Int, nth [I 0, I (-7)] (((m : Int) % 2).toNat) = some (I u) ∧ (if 0 > u then 0 else u) = 0 := by
        rcases (by omega : ((m : Int) % 2).toNat = 0 ∨ ((m : Int) % 2).toNat = 1) with e | e
        · exact ⟨0, by rw [e]; rfl, rfl⟩
        · exact ⟨-7, by rw [e]; rfl, rfl⟩
      obtain ⟨u, hu, hu0⟩ := key
      refine ld h 0 rfl (l := .int .i64) (x := u) hu ?_
      refine S_Add h 1 rfl hg (by omega) fun s w hg h => hk10 _ w ⟨_, s, ?_, ?_, hg, h.tail⟩
      · simp [hz]
      · rw [hu0, tz_snoc, if_pos rfl]
        show IntKind.wrap .i64 ((tz zs : Int) + 1) = _
        rw [wr (by omega) (by omega)]; omega
    · have hc : ¬ (if 0 > x % 12 - 10 then 0 else x % 12 - 10) = 0 := of_decide_eq_false hc
      refine S_Add h 0 rfl hg (by omega) fun s w hg h => hk10 _ w ⟨_, s, ?_, ?_, hg, h⟩
      · simp [hz]
      · rw [tz_snoc, if_neg]
        · rfl
        · split at hc <;> simp_all
          omega
  refine S_Idle h 0 rfl hg ?_
  refine itF (by rw [ht]; exact ne_self) (hag (q - 1) _ w (by omega) ⟨m + 1, zs, s, ?_, by omega, hz, ht, hg, h⟩)
  show IntKind.wrap .i64 ((m : Int) + 1) = _
  rw [wr (by omega) (by omega)]; omega
end Go.Proofs.Ytlikldnigjnpeaa
