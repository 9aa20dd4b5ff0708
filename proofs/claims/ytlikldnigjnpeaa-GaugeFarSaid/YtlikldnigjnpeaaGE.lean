/- A reading of the code as predicates on the world, and its soundness, or contracts of functions proved by it: text GE. No conditions beyond those its theorems state. -/
import Derived.Test.YtlikldnigjnpeaaGD
namespace Go.Proofs.Ytlikldnigjnpeaa
open Go.Dm
variable {w0 w : World} {E : List Seg}
/-- whole numbers that were there before -/
structure Old (w0 : World) (v : Sl) (xs : List Int) : Prop where
  len : v.len = xs.length
  rd : ∀ i x, xs[i]? = some x → ∃ a, v.a = some a ∧ w0.cell? (a.add i) = some (I x)
theorem Old.at {v : Sl} {xs : List Int} (o : Old w0 v xs) (h : St w0 E w) {n : Int} {kk : Int → PT} (h0 : 0 ≤ n) (h1 : n < v.len) (hk : ∀ x, xs[n.toNat]? = some x → kk x w) : L.idx v.a n v.len 1 (fun a => L.load (.one (.int .i64)) a kk) w := by
  have hl := o.len
  have hx : xs[n.toNat]? = some xs[n.toNat] := List.getElem?_eq_getElem (by omega)
  obtain ⟨a, ha, hc⟩ := o.rd _ _ hx
  rw [ha]
  refine ix h0 h1 ?_
  rw [Nat.mul_one]
  exact ldOld h hc (hk _ hx)
theorem S_known (h : St w0 E w) {k : Bool → PT} (hk : ∀ w', St w0 E w' → k true w') : L.call Pr n_damperlaw9_known [] (.one (.one .bool)) k w := by
  refine call_of C_damperlaw9_known ?_
  unfold F_damperlaw9_known
  refine S_New h fun b s w hg h => itF rfl ?_
  refine S_Last h 0 rfl hg (by simp) fun w h => ?_
  refine S_Add h 0 rfl hg (by simp) fun s w hg h => ?_
  refine S_Last h 0 rfl hg (by simp) fun w h => ?_
  refine itT (by decide +kernel) (itT (by decide +kernel) (itT (by decide +kernel) (itT (by decide +kernel) ?_)))
  refine S_Idle h 0 rfl hg ⟨true, ?_, hk w h.tail⟩
  show Value.bool _ = Value.bool true
  refine congrArg Value.bool ?_
  decide +kernel
theorem ne_self {a : Int} : (a != a) = false := by simp
theorem W_GaugePlays {p0 p2 : Sl} {p1 : Int} {xs ys : List Int} (o0 : Old w0 p0 xs) (o2 : Old w0 p2 ys) :
    Calls Pr n_damperlaw9_GaugePlays [.slice p0.a p0.len p0.cap, I p1, .slice p2.a p2.len p2.cap].toArray w0 fun e w' => e = .returned (.bool true) ∧ St w0 [] w' := by
  refine (C_damperlaw9_GaugePlays p0 p1 p2 (K := fun v w' => v = .bool true ∧ St w0 [] w') ?_).mono fun e w' ⟨v, he, hv, hg⟩ => ⟨by rw [he, hv], hg⟩
  unfold F_damperlaw9_GaugePlays
  refine S_known (St.init w0) fun w h => itF rfl ?_
  refine S_New h fun b s w hg h => nw h fun b3 w h => itF rfl ?_
  obtain ⟨sR, hr, h⟩ := rs_new h
  refine join_of (fun _ w => St w0 [] w) (fun k4 hk4 => ?_) (fun _ w h => ⟨rfl, h⟩)
  refine loop_of (fun q y w => ∃ (m : Nat) (zs : List Int) (sR sG : Seg), @Eq Int y.1 m ∧ q + m = 90 ∧ zs.length = m ∧ RS b3 zs sR ∧ GS b zs sG ∧ St w0 [sR, sG] w) 90 ⟨0, [], sR, s, rfl, rfl, rfl, hr, hg, h⟩ ?_
  clear hr hg h
  rintro q ⟨y, ⟨⟩⟩ w ⟨m, zs, sR, sG, hy, hq, hz, hr, hg, h⟩ again hag
  simp only at hy
  subst hy
  refine it (fun hb => ?_) (fun hb => hk4 _ w h.tail.tail)
  have hb : (m : Int) < (p0.len : Int) := of_decide_eq_true hb
  refine it (fun hb2 => ?_) (fun hb => hk4 _ w h.tail.tail)
  have hb2 : (m : Int) < 90 := of_decide_eq_true hb2
  dsimp only
  refine o0.at h (by omega) hb fun x hx => S_within (by omega) (by omega) ?_
  refine join_of (fun _ w => St w0 [sR, sG] w) (fun k11 hk11 => ?_) (fun z w h => ?_)
  · refine o0.at h (by omega) hb fun x hx => gd (by omega) (S_within (by omega) (by omega) ?_)
    exact it (fun _ => hk11 _ w h) (fun _ => hk11 _ w h)
  refine S_Add h 1 rfl hg (by omega) fun sG w hg h => ?_
  refine S_rAdd h 0 rfl hr (by omega) fun sR w hr h => ?_
  have hz' : (zs ++ [if 0 > z.1 then 0 else z.1]).length = m + 1 := by simp [hz]
  generalize zs ++ [if 0 > z.1 then 0 else z.1] = zs at hg hr hz'
  refine nw h fun b18 w h => ?_
  have hrow : Row T_int 1 ⟨some ⟨b18, 0, none⟩, 12, 12⟩ (List.map I [1, 2, 6, 60, 61, (m : Int), IntKind.wrap .i64 ((m : Int) + 1), p1, 0, -1, 9223372036854775807, -9223372036854775808]) _ := Row.mk b18 12 12 _ [] rfl rfl (by omega) (by simp [maxLen])
  refine join_of (fun z w => ∃ (vs : List Int) (s : Seg), Row T_int 1 z.1 (vs.map I) s ∧ vs.length ≤ 13 ∧ St w0 [s, sR, sG] w) (fun k19 hk19 => ?_) (fun z w ⟨vs, s, hv, hvs, h⟩ => ?_)
  · refine it (fun hb => ?_) (fun hb => hk19 _ w ⟨_, _, hrow, (by simp), h⟩)
    have hb : (m : Int) < (p2.len : Int) := of_decide_eq_true hb
    refine o2.at h (by omega) hb fun x hx => S_within (by omega) (by omega) ?_
    refine nw h fun b24 w h => ?_
    refine app elI h 1 rfl hrow (a := ⟨b24, 0, none⟩) (m := 1) [I (x % 70)] rfl (fun j u hu => ?_) (fun u hu => ?_) (by omega) (by simp) (by simp [maxLen]) fun v' s' w hr' hl' h => hk19 _ w ⟨[1, 2, 6, 60, 61, (m : Int), IntKind.wrap .i64 ((m : Int) + 1), p1, 0, -1, 9223372036854775807, -9223372036854775808] ++ [x % 70], s', hr', (by simp), h.tail⟩
    · cases j with
      | zero => cases hu; exact h.cellOwn 0 rfl rfl
      | succ j => cases hu
    · simp at hu; subst hu; rfl
  have hvl := hv.len
  simp only [List.length_map, Nat.mul_one] at hvl
  refine loop_of (fun q y w => ∃ j : Nat, @Eq Int y.1 j ∧ q + j = vs.length ∧ St w0 [s, sR, sG] w) vs.length ⟨0, rfl, rfl, h⟩ ?_
  clear h
  rintro q2 ⟨y, ⟨⟩⟩ w ⟨j, hy, hq2, h⟩ again2 hag2
  simp only at hy
  subst hy
  refine it (fun hb => ?_) (fun hb => ?_)
  · have hb : (j : Int) < (z.1.len : Int) := of_decide_eq_true hb
    dsimp only
    have hx : vs[j]? = some vs[j] := List.getElem?_eq_getElem (by omega)
    refine hv.at h 0 rfl rfl (by omega) (x := vs[j]) (by rw [Int.toNat_natCast]; exact nth_I hx) ?_
    refine S_Last h 2 rfl hg (by omega) fun w h => ?_
    refine hv.at h 0 rfl rfl (by omega) (x := vs[j]) (by rw [Int.toNat_natCast]; exact nth_I hx) ?_
    refine S_rLast h 1 rfl hr (by omega) fun w h => ?_
    refine itF ne_self (itF ne_self (hag2 (q2 - 1) _ w (by omega) ⟨j + 1, ?_, by omega, h⟩))
    show IntKind.wrap .i64 ((j : Int) + 1) = _
    rw [wr (by omega) (by omega)]; omega
  refine S_Idle h 2 rfl hg ?_
  refine S_rIdle h 1 rfl hr (by omega) fun w h => ?_
  refine itF ne_self (hag (q - 1) _ w (by omega) ⟨m + 1, zs, sR, sG, ?_, by omega, hz', hr, hg, h.tail⟩)
  show IntKind.wrap .i64 ((m : Int) + 1) = _
  rw [wr (by omega) (by omega)]; omega
end Go.Proofs.Ytlikldnigjnpeaa
