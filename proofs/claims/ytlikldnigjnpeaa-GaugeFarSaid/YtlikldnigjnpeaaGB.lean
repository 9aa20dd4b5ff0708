/- A reading of the code as predicates on the world, and its soundness, or contracts of functions proved by it: text GB. No conditions beyond those its theorems state. -/
import Derived.Test.YtlikldnigjnpeaaGA
namespace Go.Proofs.Ytlikldnigjnpeaa
open Go.Dm
variable {w0 w : World} {E : List Seg}
/-- the zeros at the end -/
def tz (xs : List Int) : Nat := (xs.reverse.takeWhile (· == 0)).length
structure GOk (l : List Int) (n d : Int) (xs : List Int) : Prop where
  len : l.length = 60
  n : n = xs.length
  pos : ∀ k, k < xs.length → xs.length ≤ k + 60 → l[k % 60]? = xs[k]?
  idle : d = tz xs
def GS (b : Nat) (xs : List Int) (s : Seg) : Prop := ∃ l n d, GOk l n d xs ∧ s = [Cl b T_gauge_Gauge (gc l n [I d])]
theorem S_New (h : St w0 E w) {k : Option Addr → PT} (hk : ∀ b s w', GS b [] s → St w0 (s :: E) w' → k (some ⟨b, 0, none⟩) w') : L.call Pr n_gauge_New [] (.one (.one .ptr)) k w := by
  refine call_of C_gauge_New ?_
  unfold F_gauge_New
  refine nw h fun b w h => ⟨_, rfl, hk b _ w ⟨List.replicate 60 0, 0, 0, ⟨rfl, rfl, fun k hk => by simp at hk, rfl⟩, rfl⟩ h⟩
theorem tz_snoc (xs : List Int) (x : Int) : tz (xs ++ [x]) = if x = 0 then tz xs + 1 else 0 := by
  unfold tz
  rw [List.reverse_append]
  by_cases h : x = 0
  · subst h; simp
  · simp [h]
theorem tz_le (xs : List Int) : tz xs ≤ xs.length := by
  unfold tz
  have := (List.takeWhile_sublist (l := xs.reverse) (fun x => x == 0)).length_le
  simpa using this
theorem GOk.add {l : List Int} {n d : Int} {xs : List Int} (g : GOk l n d xs) (x : Int) : GOk (l.set (n.toNat % 60) x) (n + 1) (if x = 0 then d + 1 else 0) (xs ++ [x]) := by
  have hn : n.toNat = xs.length := by rw [g.n]; simp
  refine ⟨by simpa using g.len, by rw [g.n]; simp, fun k hk hk2 => ?_, ?_⟩
  · simp only [List.length_append, List.length_cons, List.length_nil] at hk hk2
    rw [hn, List.getElem?_set]
    by_cases e : k = xs.length
    · subst e
      rw [if_pos rfl, if_pos (by rw [g.len]; omega)]
      simp
    · rw [if_neg (by omega), g.pos k (by omega) (by omega), List.getElem?_append_left (by omega)]
  · rw [tz_snoc, g.idle]; split <;> simp
theorem S_Add (h : St w0 E w) (i : Nat) {b : Nat} {xs : List Int} {s : Seg} (hi : nth E i = some s) (hg : GS b xs s) (hn : xs.length < 2305843009213693952) {x : Int} {k : Unit → PT}
    (hk : ∀ s' w', GS b (xs ++ [if 0 > x then 0 else x]) s' → St w0 (setN E i s') w' → k () w') : L.call Pr n_gauge_Gauge_Add [.pointer (some ⟨b, 0, none⟩), I x] (.tup []) k w := by
  obtain ⟨l, n, d, g, rfl⟩ := hg
  have hl := g.len
  have hn1 := g.n
  have hd := g.idle
  have hz := tz_le xs
  refine call_of (C_gauge_Gauge_Add _ _) ?_
  unfold F_gauge_Gauge_Add
  generalize hy : (if 0 > x then 0 else x) = y at *
  have hy0 : 0 ≤ y := by rw [← hy]; split <;> omega
  have hl2 : (l.set (n.toNat % 60) y).length = 60 := by simpa using hl
  refine nn (S_ring_add h i hi hl (by omega) (by omega) fun w h => ?_)
  have hi2 := nth_setN (y := [Cl b T_gauge_Gauge (gc (l.set (n.toNat % 60) y) (n + 1) [I d])]) hi
  refine nn (ld h i hi2 (x := d) (gc_r hl2 0) (nn ?_))
  rw [wr (by omega) (by omega)]
  refine st1 h i hi2 (gc_r hl2 0) rfl fun w h => ?_
  have e1 : setN (gc (l.set (n.toNat % 60) y) (n + 1) [I d]) 61 (I (d + 1)) = gc (l.set (n.toNat % 60) y) (n + 1) [I (d + 1)] := gc_set_r hl2 0
  simp only [setN_setN] at h
  have h : St w0 (setN E i [Cl b T_gauge_Gauge (gc (l.set (n.toNat % 60) y) (n + 1) [I (d + 1)])]) w := by rw [← e1]; exact h
  have ga := g.add y
  refine it (fun hb => ?_) (fun hb => ?_)
  · simp only [decide_eq_true_eq] at hb
    have hi3 := nth_setN (y := [Cl b T_gauge_Gauge (gc (l.set (n.toNat % 60) y) (n + 1) [I (d + 1)])]) hi
    refine nn (st1 h i hi3 (gc_r hl2 0) rfl fun w h => ⟨(), rfl, hk _ w ⟨_, _, _, ga, rfl⟩ ?_⟩)
    have e1 : setN (gc (l.set (n.toNat % 60) y) (n + 1) [I (d + 1)]) 61 (I 0) = gc (l.set (n.toNat % 60) y) (n + 1) [I 0] := gc_set_r hl2 0
    simp only [setN_setN] at h
    rw [if_neg (by omega), ← e1]; exact h
  · simp only [decide_eq_false_iff_not] at hb
    have : y = 0 := by omega
    refine ⟨(), rfl, hk _ w ⟨_, _, _, ga, rfl⟩ ?_⟩
    rw [if_pos this]; exact h
theorem S_Idle (h : St w0 E w) (i : Nat) {b : Nat} {xs : List Int} {s : Seg} (hi : nth E i = some s) (hg : GS b xs s) {k : Int → PT} (hk : k (tz xs) w) : L.call Pr n_gauge_Gauge_Idle [.pointer (some ⟨b, 0, none⟩)] (.one (.one (.int .i64))) k w := by
  obtain ⟨l, n, d, g, rfl⟩ := hg
  refine call_of (C_gauge_Gauge_Idle _) ?_
  unfold F_gauge_Gauge_Idle
  refine nn (ld h i hi (x := d) (gc_r g.len 0) ⟨d, rfl, ?_⟩)
  rw [g.idle]; exact hk
theorem tm60 {z : Int} (h : 0 ≤ z) : Int.tmod z 60 = ((z.toNat % 60 : Nat) : Int) := by
  rw [Int.tmod_eq_emod_of_nonneg h]; omega
theorem S_back (h : St w0 E w) {p : Option Addr} {k : FV → PT} (hk : ∀ c w', St w0 ([Cl c T_p_gauge_ring_int [.pointer p]] :: E) w' → k ⟨.func n_gauge_ring_int_back_1, #[], #[.pointer (some ⟨c, 0, none⟩)]⟩ w') :
    L.call Pr n_gauge_ring_int_back [.pointer p] (.one (.one .func)) k w := by
  refine call_of (C_gauge_ring_int_back _) ?_
  unfold F_gauge_ring_int_back
  exact nw h fun c w h => ⟨_, rfl, hk c w h⟩
/-- the last, the newest first -/
theorem S_back1 {c b T T2 : Nat} {l : List Int} {n : Int} {r : List Value} {F : List Seg} (hl : l.length = 60) (h0 : 0 ≤ n) (hn : n < 2305843009213693952) {yv : FV} {R : Value → PT} (J : Nat → List Seg → Prop) (Jd : List Seg → Prop)
    (h : St w0 ([Cl c T2 [.pointer (some ⟨b, 0, none⟩)]] :: [Cl b T (gc l n r)] :: F) w) (hJ : J 0 F)
    (step : ∀ (m : Nat) F w, (m : Int) < min 60 n → J m F → St w0 ([Cl c T2 [.pointer (some ⟨b, 0, none⟩)]] :: [Cl b T (gc l n r)] :: F) w → ∀ x, l[(n - (m + 1)).toNat % 60]? = some x →
      FCall Pr yv.val [I x] w fun v w' => ∃ q F', v = .bool q ∧ St w0 ([Cl c T2 [.pointer (some ⟨b, 0, none⟩)]] :: [Cl b T (gc l n r)] :: F') w' ∧ (q = true → J (m + 1) F') ∧ (q = false → Jd F'))
    (fin : ∀ F w, J (min 60 n).toNat F ∨ Jd F → St w0 ([Cl c T2 [.pointer (some ⟨b, 0, none⟩)]] :: [Cl b T (gc l n r)] :: F) w → R (.tuple #[]) w) :
    FFCall Pr (.func (.func n_gauge_ring_int_back_1) #[] #[.pointer (some ⟨c, 0, none⟩)]) [yv.val] w R := by
  refine ⟨E_gauge_ring_int_back_1, C_gauge_ring_int_back_1 yv ⟨c, 0, none⟩ ?_⟩
  unfold F_gauge_ring_int_back_1
  refine loop_of (fun q y w => ∃ (m : Nat) (F : List Seg), @Eq Int y.1 (m + 1) ∧ q + m = 60 ∧ (m : Int) ≤ min 60 n ∧ J m F ∧ St w0 ([Cl c T2 [.pointer (some ⟨b, 0, none⟩)]] :: [Cl b T (gc l n r)] :: F) w) 60 ⟨0, F, rfl, rfl, by omega, hJ, h⟩ ?_
  rintro q ⟨y, ⟨⟩⟩ w ⟨m, F, hy, hq, hm, hJ, h⟩ again hag
  simp only at hy
  subst hy
  dsimp only
  refine ld h 0 rfl (l := .ptr) (x := some ⟨b, 0, none⟩) rfl (nn ?_)
  refine ld h 1 rfl (x := n) (gc_n hl) ?_
  have hmin : (if 60 < n then 60 else n) = min 60 n := by omega
  rw [hmin]
  refine it (fun hb => ?_) (fun hb => ?_)
  · have hb : (m : Int) + 1 ≤ min 60 n := of_decide_eq_true hb
    refine dr h fun w h => ?_
    refine ld h 0 rfl (l := .ptr) (x := some ⟨b, 0, none⟩) rfl ?_
    refine ld h 0 rfl (l := .ptr) (x := some ⟨b, 0, none⟩) rfl (nn ?_)
    refine ld h 1 rfl (x := n) (gc_n hl) (gd (by omega) (nn ?_))
    rw [wr (by omega) (by omega)]
    have em : Int.tmod (n - (m + 1)) 60 = (((n - (m + 1)).toNat % 60 : Nat) : Int) := tm60 (by omega)
    have hlt : (n - (m + 1)).toNat % 60 < 60 := Nat.mod_lt _ (by omega)
    refine ix (by rw [em]; omega) (by rw [em]; omega) ?_
    rw [em, Int.toNat_natCast, Nat.mul_one, add_zero', add_none, Nat.zero_add]
    have hx : l[(n - (m + 1)).toNat % 60]? = some l[(n - (m + 1)).toNat % 60] := List.getElem?_eq_getElem (by omega)
    refine ld h 1 rfl (x := l[(n - (m + 1)).toNat % 60]) (gc_l hx) ?_
    refine FCall.mono (step m F w (by omega) hJ h _ hx) fun v w' ⟨q', F', hv, h, h1, h2⟩ => ⟨q', hv, ?_⟩
    cases q' with
    | true =>
      refine itF rfl (hag (q - 1) _ _ (by omega) ⟨m + 1, F', ?_, by omega, by omega, h1 rfl, h⟩)
      show IntKind.wrap .i64 _ = _
      rw [wr (by omega) (by omega)]; omega
    | false => exact itT rfl (fin F' w' (.inr (h2 rfl)) h)
  · have hb : ¬ (m : Int) + 1 ≤ min 60 n := of_decide_eq_false hb
    have e : m = (min 60 n).toNat := by omega
    exact fin F w (.inl (by rw [← e]; exact hJ)) h
end Go.Proofs.Ytlikldnigjnpeaa
