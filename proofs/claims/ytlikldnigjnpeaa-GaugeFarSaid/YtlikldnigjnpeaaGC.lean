/- A reading of the code as predicates on the world, and its soundness, or contracts of functions proved by it: text GC. No conditions beyond those its theorems state. -/
import Derived.Test.YtlikldnigjnpeaaGB
namespace Go.Proofs.Ytlikldnigjnpeaa
open Go.Dm
variable {w0 w : World} {E : List Seg}
def isum : List Int → Int
  | [] => 0
  | x :: l => x + isum l
theorem isum_app (a b : List Int) : isum (a ++ b) = isum a + isum b := by
  induction a with
  | nil => simp [isum]
  | cons x a ih => simp only [List.cons_append, isum, ih]; omega
theorem isum_rev (a : List Int) : isum a.reverse = isum a := by
  induction a with
  | nil => rfl
  | cons x a ih => rw [List.reverse_cons, isum_app, ih]; simp only [isum]; omega
theorem wr_add (a b : Int) : IntKind.wrap .i64 (IntKind.wrap .i64 a + b) = IntKind.wrap .i64 (a + b) := by
  simp only [IntKind.wrap_i64]; omega
/-- the newest m, added up -/
def lastS (xs : List Int) (m : Nat) : Int := isum (xs.reverse.take m)
theorem lastS_succ {xs : List Int} {m : Nat} {x : Int} (h : xs.reverse[m]? = some x) : lastS xs (m + 1) = lastS xs m + x := by
  unfold lastS
  rw [List.take_add_one, h, isum_app]
  simp [isum]
theorem lastS_drop (xs : List Int) (m : Nat) : lastS xs m = isum (xs.drop (xs.length - m)) := by
  unfold lastS
  rw [List.take_reverse, isum_rev]
/-- how many are looked at -/
def lastN (xs : List Int) (p : Int) : Nat := min (min 60 xs.length) (max p 0).toNat
theorem GOk.back {l : List Int} {n d : Int} {xs : List Int} (g : GOk l n d xs) {m : Nat} (hm : (m : Int) < min 60 n) {x : Int} (hx : l[(n - (m + 1)).toNat % 60]? = some x) : xs.reverse[m]? = some x := by
  have hn := g.n
  have e : (n - (m + 1)).toNat = xs.length - 1 - m := by omega
  rw [e, g.pos _ (by omega) (by omega)] at hx
  rw [List.getElem?_reverse (by omega)]; exact hx
theorem S_Last (h : St w0 E w) (i : Nat) {b : Nat} {xs : List Int} {s : Seg} (hi : nth E i = some s) (hg : GS b xs s) (hn : xs.length < 2305843009213693952) {p : Int} {k : Int × Int × Unit → PT}
    (hk : ∀ w', St w0 E w' → k (IntKind.wrap .i64 (lastS xs (lastN xs p)), ((lastN xs p : Nat) : Int), ()) w') :
    L.call Pr n_gauge_Gauge_Last [.pointer (some ⟨b, 0, none⟩), I p] (.tup [(.one (.int .i64)), (.one (.int .i64))]) k w := by
  obtain ⟨l, n, d, g, rfl⟩ := hg
  have hl := g.len
  have hn1 := g.n
  refine call_of (C_gauge_Gauge_Last _ _) ?_
  unfold F_gauge_Gauge_Last
  refine nw h fun b1 w h => nw h fun b2 w h => nw h fun b3 w h => nn (S_back h fun c w h => ?_)
  refine rng h fun dd lv lp w h hy => ?_
  have h := h.front (i + 6) (s := [Cl b T_gauge_Gauge (gc l n [I d])]) hi
  have h := h.front 3 rfl
  have fin : ∀ (st : LoopState) (m : Nat) w, m = lastN xs p → St w0 ([Cl c T_p_gauge_ring_int [.pointer (some ⟨b, 0, none⟩)]] :: [Cl b T_gauge_Gauge (gc l n [I d])] :: [DfM dd] :: [Cl b3 T_int [I m]] :: [Cl b2 T_int [I (IntKind.wrap .i64 (lastS xs m))]] :: [Cl b1 T_int [I p]] :: delN E i) w →
      (L.draw <|
        L.load (.one (.int .i64)) (⟨b2, 0, none⟩) fun x15 =>
        L.load (.one (.int .i64)) (⟨b3, 0, none⟩) fun x16 =>
        L.store (⟨b2, 0, none⟩) [.int .i64 x15] <|
        L.chk (⟨b3, 0, none⟩) [.int .i64 x16] <|
        L.store (⟨b3, 0, none⟩) [.int .i64 x16] <|
        L.unmark Pr ([dd] ++ []) <|
        L.load (.one (.int .i64)) (⟨b2, 0, none⟩) fun x17 =>
        L.load (.one (.int .i64)) (⟨b3, 0, none⟩) fun x18 =>
        fun w' => ∃ x, (Value.tuple #[.int .i64 x17, .int .i64 x18]) = RT.val (.tup [(.one (.int .i64)), (.one (.int .i64))]) x ∧ k x w') w := by
    intro st m w hm h
    refine dr h fun w h => ?_
    refine ld h 4 rfl (l := .int .i64) (x := IntKind.wrap .i64 (lastS xs m)) rfl ?_
    refine ld h 3 rfl (l := .int .i64) (x := (m : Int)) rfl ?_
    refine st1 h 4 rfl rfl rfl fun w h => ?_
    refine ck h 3 rfl rfl ?_
    refine st1 h 3 rfl rfl rfl fun w h => ?_
    refine um h 2 rfl fun w h => ?_
    refine ld h 4 rfl (l := .int .i64) (x := IntKind.wrap .i64 (lastS xs m)) rfl ?_
    refine ld h 3 rfl (l := .int .i64) (x := (m : Int)) rfl ?_
    refine ⟨(IntKind.wrap .i64 (lastS xs m), (m : Int), ()), rfl, ?_⟩
    subst hm
    refine hk w ?_
    have h := h.tail.front 0 rfl
    have h := h.del 1 rfl
    have h := h.del 1 rfl
    have h := h.del 1 rfl
    have h := h.del 1 rfl
    have h := St.back i hi h
    rw [setN_self hi] at h; exact h
  refine S_back1 hl (by omega) (by omega) (yv := ⟨.yield lv, #[], #[]⟩)
    (fun m F => F = [Rec lv lp .ready none] :: [DfM dd] :: [Cl b3 T_int [I m]] :: [Cl b2 T_int [I (IntKind.wrap .i64 (lastS xs m))]] :: [Cl b1 T_int [I p]] :: delN E i ∧ (m : Int) ≤ max p 0)
    (fun F => ∃ m : Nat, F = [Rec lv lp .done (some (.exit 0))] :: [DfM dd] :: [Cl b3 T_int [I m]] :: [Cl b2 T_int [I (IntKind.wrap .i64 (lastS xs m))]] :: [Cl b1 T_int [I p]] :: delN E i ∧ (m : Int) = max p 0 ∧ (m : Int) ≤ min 60 n)
    h ⟨rfl, by omega⟩ ?_ ?_
  · rintro m F w hm ⟨rfl, hmp⟩ h x hx
    have hrec := (h.at 2 rfl).2
    refine hy (x, ()) .ready none w _ hrec ?_
    refine bgn h 2 rfl fun w h => ?_
    refine ld h 4 rfl (l := .int .i64) (x := (m : Int)) rfl ?_
    refine ld h 6 rfl (l := .int .i64) (x := p) rfl ?_
    refine it (fun hb => ?_) (fun hb => ?_)
    · have hb : (m : Int) ≥ p := of_decide_eq_true hb
      refine endJ h 2 rfl fun w h => ⟨false, _, rfl, h, fun hx => Bool.noConfusion hx, fun _ => ⟨m, rfl, ?_, by omega⟩⟩
      omega
    · have hb : ¬ (m : Int) ≥ p := of_decide_eq_false hb
      refine ld h 5 rfl (l := .int .i64) (x := IntKind.wrap .i64 (lastS xs m)) rfl ?_
      refine st1 h 5 rfl rfl rfl fun w h => ?_
      refine ld h 4 rfl (l := .int .i64) (x := (m : Int)) rfl ?_
      refine st1 h 4 rfl rfl rfl fun w h => ?_
      refine endN h 2 rfl fun w h => ⟨true, _, rfl, h, fun _ => ⟨?_, by omega⟩, fun hx => Bool.noConfusion hx⟩
      have e1 : IntKind.wrap .i64 ((m : Int) + 1) = ((m + 1 : Nat) : Int) := by rw [wr (by omega) (by omega)]; omega
      have e2 : IntKind.wrap .i64 (IntKind.wrap .i64 (lastS xs m) + x) = IntKind.wrap .i64 (lastS xs (m + 1)) := by rw [wr_add, lastS_succ (g.back hm hx)]
      dsimp only
      rw [e1, e2]; rfl
  · rintro F w hF h
    rcases hF with ⟨rfl, hmp⟩ | ⟨m, rfl, hmp, hmn⟩
    · refine endL h 2 rfl (by simp) fun w h => ?_
      refine fin .ready _ w ?_ h
      unfold lastN; omega
    · refine endL h 2 rfl (by simp) fun w h => ?_
      refine fin .done m w ?_ h
      unfold lastN; omega
end Go.Proofs.Ytlikldnigjnpeaa
