/- A reading of the code as predicates on the world, and its soundness, or contracts of functions proved by it: text GD. No conditions beyond those its theorems state. -/
import Derived.Test.YtlikldnigjnpeaaGC
namespace Go.Proofs.Ytlikldnigjnpeaa
open Go.Dm
variable {w0 w : World} {E : List Seg}
def RS (b : Nat) (xs : List Int) (s : Seg) : Prop := ∃ v sr, Row T_int 1 v (xs.map I) sr ∧ s = [Cl b T_damperref9_Gauge [.slice v.a v.len v.cap]] ++ sr
theorem elI : El Pr T_s_int T_int 1 8 (I 0) := el_of (by kernel_rfl) (by kernel_rfl) rfl (by omega)
theorem rs_new {b : Nat} (h : St w0 ([Cl b T_damperref9_Gauge [.slice none 0 0]] :: E) w) : ∃ s, RS b [] s ∧ St w0 (s :: E) w :=
  ⟨_, ⟨⟨none, 0, 0⟩, [], Row.nil, rfl⟩, h.eq (by simp)⟩
theorem S_rAdd (h : St w0 E w) (i : Nat) {b : Nat} {xs : List Int} {s : Seg} (hi : nth E i = some s) (hg : RS b xs s) (hn : xs.length < 1000000000000) {x : Int} {k : Unit → PT}
    (hk : ∀ s' w', RS b (xs ++ [if 0 > x then 0 else x]) s' → St w0 (setN E i s') w' → k () w') : L.call Pr n_damperref9_Gauge_Add [.pointer (some ⟨b, 0, none⟩), I x] (.tup []) k w := by
  obtain ⟨v, sr, hr, rfl⟩ := hg
  refine call_of (C_damperref9_Gauge_Add _ _) ?_
  unfold F_damperref9_Gauge_Add
  generalize (if 0 > x then 0 else x) = y at *
  have hlen : v.len = xs.length := by have := hr.len; simp at this; omega
  have h := (h.front i hi).split
  refine nn (ld h 0 rfl (l := .slice) (x := v) rfl ?_)
  refine nw h fun b3 w h => ?_
  refine app elI h 2 rfl hr (a := ⟨b3, 0, none⟩) (m := 1) [I y] rfl (fun j u hu => ?_) (fun u hu => ?_) (by omega) (by omega) (by simp only [maxLen]; omega) fun v' s' w hr' hl' h => ?_
  · cases j with
    | zero => cases hu; exact h.cellOwn 0 rfl rfl
    | succ j => cases hu
  · simp at hu; subst hu; rfl
  refine nn (st1 h 1 rfl rfl rfl fun w h => ⟨(), rfl, hk ([Cl b T_damperref9_Gauge [.slice v'.a v'.len v'.cap]] ++ s') w ⟨v', s', ?_, rfl⟩ (St.back i hi (St.glue h.tail))⟩)
  rw [List.map_append]; exact hr'
theorem tw_step : ∀ {l : List Int} {m : Nat} {x : Int}, m ≤ (l.takeWhile (· == 0)).length → l[m]? = some x → (x = 0 → m + 1 ≤ (l.takeWhile (· == 0)).length) ∧ (x ≠ 0 → (l.takeWhile (· == 0)).length = m)
  | [], m, x, _, h => by simp at h
  | y :: l, m, x, hm, h => by
    by_cases hy : y = 0
    · subst hy
      simp only [List.takeWhile_cons, BEq.rfl, if_true, List.length_cons] at hm ⊢
      cases m with
      | zero =>
        simp at h; subst h
        exact ⟨fun _ => by omega, fun h => absurd rfl h⟩
      | succ m =>
        have := tw_step (l := l) (m := m) (x := x) (by omega) (by simpa using h)
        exact ⟨fun hx => by have := this.1 hx; omega, fun hx => by have := this.2 hx; omega⟩
    · have hb : (y == 0) = false := by simpa using hy
      simp only [List.takeWhile_cons, hb, Bool.false_eq_true, if_false, List.length_nil] at hm ⊢
      have : m = 0 := by omega
      subst this
      simp at h; subst h
      exact ⟨fun h => absurd h hy, fun _ => rfl⟩
theorem nth_I {xs : List Int} {j : Nat} {x : Int} (h : xs[j]? = some x) : nth (xs.map I) j = some (I x) := by rw [nth_getElem?, List.getElem?_map, h]; rfl
theorem S_rIdle (h : St w0 E w) (i : Nat) {b : Nat} {xs : List Int} {s : Seg} (hi : nth E i = some s) (hg : RS b xs s) (hn : xs.length < 1000000000000) {k : Int → PT} (hk : ∀ w', St w0 E w' → k (tz xs) w') :
    L.call Pr n_damperref9_Gauge_Idle [.pointer (some ⟨b, 0, none⟩)] (.one (.one (.int .i64))) k w := by
  obtain ⟨v, sr, hr, rfl⟩ := hg
  refine call_of (C_damperref9_Gauge_Idle _) ?_
  unfold F_damperref9_Gauge_Idle
  have hlen : v.len = xs.length := by have := hr.len; simp at this; omega
  have h := (h.front i hi).split
  have hz := tz_le xs
  refine join_of (fun z w => @Eq Int z.1 (tz xs) ∧ St w0 ([Cl b T_damperref9_Gauge [.slice v.a v.len v.cap]] :: sr :: delN E i) w) (fun k' hk' => ?_) (fun y w ⟨e, h⟩ => ⟨(tz xs : Int), by rw [← e]; rfl, hk w (by have := St.back i hi (St.glue h); rw [setN_self hi] at this; exact this)⟩)
  refine loop_of (fun q y w => ∃ m : Nat, @Eq Int y.1 m ∧ q + m = xs.length ∧ m ≤ tz xs ∧ St w0 ([Cl b T_damperref9_Gauge [.slice v.a v.len v.cap]] :: sr :: delN E i) w) xs.length ⟨0, rfl, rfl, by omega, h⟩ ?_
  rintro q ⟨y, ⟨⟩⟩ w ⟨m, hy, hq, hm, h⟩ again hag
  simp only at hy
  subst hy
  refine dr h fun w h => nn (ld h 0 rfl (l := .slice) (x := v) rfl ?_)
  refine it (fun hb => ?_) (fun hb => ?_)
  · have hb : (m : Int) < (v.len : Int) := of_decide_eq_true hb
    refine nn (ld h 0 rfl (l := .slice) (x := v) rfl (nn (ld h 0 rfl (l := .slice) (x := v) rfl ?_)))
    have ei : IntKind.wrap .i64 (IntKind.wrap .i64 ((v.len : Int) - 1) - (m : Int)) = ((xs.length - 1 - m : Nat) : Int) := by
      rw [wr (n := (v.len : Int) - 1) (by omega) (by omega), wr (by omega) (by omega)]; omega
    dsimp only
    rw [ei]
    have hx : xs[xs.length - 1 - m]? = some xs[xs.length - 1 - m] := List.getElem?_eq_getElem (by omega)
    refine hr.at h 1 rfl rfl (by omega) (x := xs[xs.length - 1 - m]) (by rw [Int.toNat_natCast]; exact nth_I hx) ?_
    have hx2 : xs.reverse[m]? = some xs[xs.length - 1 - m] := by rw [List.getElem?_reverse (by omega)]; exact hx
    have ts := tw_step (l := xs.reverse) hm hx2
    refine it (fun hb => ?_) (fun hb => ?_)
    · have h0 : xs[xs.length - 1 - m] = 0 := of_decide_eq_true hb
      refine hag (q - 1) _ w (by omega) ⟨m + 1, ?_, by omega, ts.1 h0, h⟩
      show IntKind.wrap .i64 ((m : Int) + 1) = _
      rw [wr (by omega) (by omega)]; omega
    · have h0 : ¬ xs[xs.length - 1 - m] = 0 := of_decide_eq_false hb
      refine hk' _ w ⟨?_, h⟩
      have := ts.2 h0
      show (m : Int) = _
      unfold tz; omega
  · have hb : ¬ (m : Int) < (v.len : Int) := of_decide_eq_false hb
    refine hk' _ w ⟨?_, h⟩
    show (m : Int) = _
    omega
theorem drop_take_succ {xs : List Int} {j a : Nat} {x : Int} (h : xs[j]? = some x) (ha : a ≤ j) : isum ((xs.take (j + 1)).drop a) = isum ((xs.take j).drop a) + x := by
  have hj := (List.getElem?_eq_some_iff.1 h).1
  rw [List.take_add_one, h, List.drop_append_of_le_length (by simp; omega), isum_app]
  simp [isum]
theorem S_rLast (h : St w0 E w) (i : Nat) {b : Nat} {xs : List Int} {s : Seg} (hi : nth E i = some s) (hg : RS b xs s) (hn : xs.length < 1000000000000) {p : Int} {k : Int × Int × Unit → PT}
    (hk : ∀ w', St w0 E w' → k (IntKind.wrap .i64 (lastS xs (lastN xs p)), ((lastN xs p : Nat) : Int), ()) w') :
    L.call Pr n_damperref9_Gauge_Last [.pointer (some ⟨b, 0, none⟩), I p] (.tup [(.one (.int .i64)), (.one (.int .i64))]) k w := by
  obtain ⟨v, sr, hr, rfl⟩ := hg
  refine call_of (C_damperref9_Gauge_Last _ _) ?_
  unfold F_damperref9_Gauge_Last
  have hlen : v.len = xs.length := by have := hr.len; simp at this; omega
  have h := (h.front i hi).split
  refine nn (ld h 0 rfl (l := .slice) (x := v) rfl (nn (ld h 0 rfl (l := .slice) (x := v) rfl ?_)))
  have hK : (if (if ((v.len : Nat) : Int) < (if 60 < p then 60 else p) then ((v.len : Nat) : Int) else (if 60 < p then 60 else p)) > 0 then (if ((v.len : Nat) : Int) < (if 60 < p then 60 else p) then ((v.len : Nat) : Int) else (if 60 < p then 60 else p)) else 0) = ((lastN xs p : Nat) : Int) := by
    unfold lastN
    rw [hlen]; omega
  rw [hK]
  have hKl : lastN xs p ≤ xs.length := by unfold lastN; omega
  refine loop_of (fun q y w => ∃ j : Nat, @Eq Int y.2.1 j ∧ q + j = xs.length ∧ xs.length - lastN xs p ≤ j ∧ @Eq Int y.1 (IntKind.wrap .i64 (isum ((xs.take j).drop (xs.length - lastN xs p)))) ∧ St w0 ([Cl b T_damperref9_Gauge [.slice v.a v.len v.cap]] :: sr :: delN E i) w) (lastN xs p) ⟨xs.length - lastN xs p, ?_, by omega, by omega, ?_, h⟩ ?_
  · show IntKind.wrap .i64 _ = _
    rw [wr (by omega) (by omega)]; omega
  · have : (xs.take (xs.length - lastN xs p)).drop (xs.length - lastN xs p) = [] := by apply List.drop_eq_nil_of_le; simp
    rw [this]; rfl
  rintro q ⟨y1, y2, ⟨⟩⟩ w ⟨j, hy, hq, hj, hs, h⟩ again hag
  simp only at hy hs
  subst hy
  refine nn (ld h 0 rfl (l := .slice) (x := v) rfl ?_)
  refine it (fun hb => ?_) (fun hb => ?_)
  · have hb : (j : Int) < (v.len : Int) := of_decide_eq_true hb
    refine nn (ld h 0 rfl (l := .slice) (x := v) rfl ?_)
    have hx : xs[j]? = some xs[j] := List.getElem?_eq_getElem (by omega)
    dsimp only
    refine hr.at h 1 rfl rfl (by omega) (x := xs[j]) (by rw [Int.toNat_natCast]; exact nth_I hx) ?_
    refine hag (q - 1) _ w (by omega) ⟨j + 1, ?_, by omega, by omega, ?_, h⟩
    · show IntKind.wrap .i64 ((j : Int) + 1) = _
      rw [wr (by omega) (by omega)]; omega
    · show IntKind.wrap .i64 _ = _
      rw [hs, wr_add, drop_take_succ hx hj]
  · have hb : ¬ (j : Int) < (v.len : Int) := of_decide_eq_false hb
    have ej : j = xs.length := by omega
    subst ej
    rw [List.take_length, ← lastS_drop] at hs
    refine ⟨(IntKind.wrap .i64 (lastS xs (lastN xs p)), ((lastN xs p : Nat) : Int), ()), by rw [← hs]; rfl, hk w ?_⟩
    have := St.back i hi (St.glue h); rw [setN_self hi] at this; exact this
end Go.Proofs.Ytlikldnigjnpeaa
