/- A reading of the code as predicates on the world, and its soundness, or contracts of functions proved by it: text GH. No conditions beyond those its theorems state. -/
import Derived.Test.YtlikldnigjnpeaaGE
namespace Go.Proofs.Ytlikldnigjnpeaa
open Go.Dm
variable {w0 w : World} {E : List Seg}
theorem wr1 {m : Nat} (h : m < 1000000) : IntKind.wrap .i64 ((m : Int) + 1) = ((m + 1 : Nat) : Int) := by rw [wr (by omega) (by omega)]; omega
theorem W_GaugeApart {p0 p1 : Sl} {xs ys : List Int} (o0 : Old w0 p0 xs) (o1 : Old w0 p1 ys) :
    Calls Pr n_damperlaw9_GaugeApart [.slice p0.a p0.len p0.cap, .slice p1.a p1.len p1.cap].toArray w0 fun e w' => e = .returned (.bool true) ∧ St w0 [] w' := by
  refine (C_damperlaw9_GaugeApart p0 p1 (K := fun v w' => v = .bool true ∧ St w0 [] w') ?_).mono fun e w' ⟨v, he, hv, hg⟩ => ⟨by rw [he, hv], hg⟩
  unfold F_damperlaw9_GaugeApart
  refine S_known (St.init w0) fun w h => itF rfl ?_
  refine S_New h fun b s w hg h => S_New h fun b2 s2 w hg2 h => nw h fun b4 w h => itF rfl (itF rfl ?_)
  obtain ⟨sR, hr, h⟩ := rs_new h
  refine join_of (fun _ w => ∃ (zs us : List Int) (sR s2 s : Seg), zs.length ≤ 40 ∧ RS b4 zs sR ∧ GS b zs s ∧ GS b2 us s2 ∧ St w0 [sR, s2, s] w) (fun k5 hk5 => ?_) (fun _ w ⟨zs, us, sR, s2, s, hz, hr, hg, hg2, h⟩ => ?_)
  · refine loop_of (fun q y w => ∃ (m : Nat) (zs us : List Int) (sR s2 s : Seg), @Eq Int y.1 m ∧ q + m = 40 ∧ zs.length = m ∧ us.length ≤ m ∧ RS b4 zs sR ∧ GS b zs s ∧ GS b2 us s2 ∧ St w0 [sR, s2, s] w) 40 ⟨0, [], [], sR, s2, s, rfl, rfl, rfl, by simp, hr, hg, hg2, h⟩ ?_
    clear hr hg hg2 h
    rintro q ⟨y, ⟨⟩⟩ w ⟨m, zs, us, sR, s2, s, hy, hq, hz, hu, hr, hg, hg2, h⟩ again hag
    simp only at hy
    subst hy
    refine it (fun hb => ?_) (fun hb => hk5 _ w ⟨zs, us, sR, s2, s, by omega, hr, hg, hg2, h⟩)
    have hb : (m : Int) < (p0.len : Int) := of_decide_eq_true hb
    refine it (fun hb2 => ?_) (fun hb => hk5 _ w ⟨zs, us, sR, s2, s, by omega, hr, hg, hg2, h⟩)
    have hb2 : (m : Int) < 40 := of_decide_eq_true hb2
    dsimp only
    refine join_of (fun _ w => ∃ (zs us : List Int) (sR s2 s : Seg), zs.length = m + 1 ∧ us.length ≤ m + 1 ∧ RS b4 zs sR ∧ GS b zs s ∧ GS b2 us s2 ∧ St w0 [sR, s2, s] w) (fun k9 hk9 => ?_) (fun _ w ⟨zs, us, sR, s2, s, hz, hu, hr, hg, hg2, h⟩ => ?_)
    · refine o0.at h (by omega) hb fun x hx => S_within (by omega) (by omega) ?_
      refine S_Add h 2 rfl hg (by omega) fun s w hg h => ?_
      refine o0.at h (by omega) hb fun x' hx' => S_within (by omega) (by omega) ?_
      rw [hx] at hx'; cases hx'
      refine S_rAdd h 0 rfl hr (by omega) fun sR w hr h => ?_
      refine it (fun hb3 => ?_) (fun hb => hk9 _ w ⟨_, us, sR, s2, s, by simp [hz], by omega, hr, hg, hg2, h⟩)
      have hb3 : (m : Int) < (p1.len : Int) := of_decide_eq_true hb3
      refine o1.at h (by omega) hb3 fun x hx => S_within (by omega) (by omega) ?_
      refine S_Add h 1 rfl hg2 (by omega) fun s2 w hg2 h => hk9 _ w ⟨_, _, sR, s2, s, by simp [hz], by simp; omega, hr, hg, hg2, h⟩
    · refine hag (q - 1) _ w (by omega) ⟨m + 1, zs, us, sR, s2, s, wr1 (by omega), by omega, hz, hu, hr, hg, hg2, h⟩
  · refine S_Last h 2 rfl hg (by omega) fun w h => ?_
    refine S_rLast h 0 rfl hr (by omega) fun w h => ?_
    refine itT (by simp) (itT (by simp) ?_)
    refine S_Idle h 2 rfl hg ?_
    refine S_rIdle h 0 rfl hr (by omega) fun w h => ⟨by simp, h.tail.tail.tail⟩
theorem lastN_small {zs : List Int} {p : Int} (h0 : 0 ≤ p) (h1 : p ≤ zs.length) (h2 : p ≤ 60) : lastN zs p = p.toNat := by unfold lastN; omega
theorem lastS_app {A B : List Int} {m : Nat} (h : m ≤ B.length) : lastS (A ++ B) m = lastS B m := by
  unfold lastS
  rw [List.reverse_append, List.take_append_of_le_length (by simpa using h)]
theorem W_GaugeFar {p0 p1 : Sl} {p2 : Int} {xs ys : List Int} (o0 : Old w0 p0 xs) (o1 : Old w0 p1 ys) :
    Calls Pr n_damperlaw9_GaugeFar [.slice p0.a p0.len p0.cap, .slice p1.a p1.len p1.cap, I p2].toArray w0 fun e w' => e = .returned (.bool true) ∧ St w0 [] w' := by
  refine (C_damperlaw9_GaugeFar p0 p1 p2 (K := fun v w' => v = .bool true ∧ St w0 [] w') ?_).mono fun e w' ⟨v, he, hv, hg⟩ => ⟨by rw [he, hv], hg⟩
  unfold F_damperlaw9_GaugeFar
  refine S_known (St.init w0) fun w h => itF rfl ?_
  refine S_New h fun b s w hg h => S_New h fun b2 s2 w hg2 h => itF rfl (itF rfl ?_)
  refine join_of (fun _ w => ∃ (zs : List Int) (s : Seg), zs.length ≤ 70 ∧ GS b zs s ∧ St w0 [s2, s] w) (fun k4 hk4 => ?_) (fun _ w ⟨zs, s, hz, hg, h⟩ => ?_)
  · refine loop_of (fun q y w => ∃ (m : Nat) (zs : List Int) (s : Seg), @Eq Int y.1 m ∧ q + m = 70 ∧ zs.length = m ∧ GS b zs s ∧ St w0 [s2, s] w) 70 ⟨0, [], s, rfl, rfl, rfl, hg, h⟩ ?_
    clear hg h
    rintro q ⟨y, ⟨⟩⟩ w ⟨m, zs, s, hy, hq, hz, hg, h⟩ again hag
    simp only at hy
    subst hy
    refine it (fun hb => ?_) (fun hb => hk4 _ w ⟨zs, s, by omega, hg, h⟩)
    have hb : (m : Int) < (p1.len : Int) := of_decide_eq_true hb
    refine it (fun hb2 => ?_) (fun hb => hk4 _ w ⟨zs, s, by omega, hg, h⟩)
    have hb2 : (m : Int) < 70 := of_decide_eq_true hb2
    dsimp only
    refine o1.at h (by omega) hb fun x hx => S_within (by omega) (by omega) ?_
    refine S_Add h 1 rfl hg (by omega) fun s w hg h => hag (q - 1) _ w (by omega) ⟨m + 1, _, s, wr1 (by omega), by omega, by simp [hz], hg, h⟩
  · have hmin : (if 50 < ((p0.len : Nat) : Int) then 50 else ((p0.len : Nat) : Int)) = ((min 50 p0.len : Nat) : Int) := by omega
    rw [hmin]
    generalize hM : min 50 p0.len = M
    refine loop_of (fun q y w => ∃ (m : Nat) (us : List Int) (s2 s : Seg), @Eq Int y.1 m ∧ q + m = M ∧ us.length = m ∧ GS b (zs ++ us) s ∧ GS b2 us s2 ∧ St w0 [s2, s] w) M ⟨0, [], s2, s, rfl, rfl, rfl, by simpa using hg, hg2, h⟩ ?_
    clear hg hg2 h
    rintro q ⟨y, ⟨⟩⟩ w ⟨m, us, s2, s, hy, hq, hu, hg, hg2, h⟩ again hag
    simp only at hy
    subst hy
    have hul : (zs ++ us).length ≤ 120 := by simp; omega
    refine it (fun hb => ?_) (fun hb => ?_)
    · have hb : (m : Int) < (M : Int) := of_decide_eq_true hb
      dsimp only
      refine o0.at h (by omega) (by omega) fun x hx => S_within (by omega) (by omega) ?_
      refine S_Add h 1 rfl hg (by omega) fun s w hg h => ?_
      refine o0.at h (by omega) (by omega) fun x' hx' => S_within (by omega) (by omega) ?_
      rw [hx] at hx'; cases hx'
      refine S_Add h 0 rfl hg2 (by omega) fun s2 w hg2 h => hag (q - 1) _ w (by omega) ⟨m + 1, _, s2, s, wr1 (by omega), by omega, by simp [hu], by rw [← List.append_assoc]; exact hg, hg2, h⟩
    · have hb : ¬ (m : Int) < (M : Int) := of_decide_eq_false hb
      have eM : m = M := by omega
      subst eM
      rw [wr1 (by omega)]
      refine S_within (by omega) (by omega) ?_
      have h1 := Int.emod_nonneg p2 (by omega : ((m + 1 : Nat) : Int) ≠ 0)
      have h2 := Int.emod_lt_of_pos p2 (by omega : (0 : Int) < ((m + 1 : Nat) : Int))
      generalize p2 % ((m + 1 : Nat) : Int) = p at h1 h2
      refine S_Last h 1 rfl hg (by omega) fun w h => ?_
      refine S_Last h 0 rfl hg2 (by omega) fun w h => ?_
      rw [lastN_small (zs := zs ++ us) h1 (by simp; omega) (by omega), lastN_small (zs := us) h1 (by omega) (by omega), lastS_app (by omega)]
      refine itT (by simp) (itT (by simp) ⟨?_, h.tail.tail⟩)
      refine congrArg Value.bool ?_
      have : ((p.toNat : Nat) : Int) = p := by omega
      simp [this]
end Go.Proofs.Ytlikldnigjnpeaa
