/- Contracts of functions, and walks of laws (text Sep8). No conditions beyond those its theorems state. -/
import Derived.Test.YtpnbgpolbjbhpaaSep7
import Derived.Laws.Strings
set_option linter.all false
namespace Go.Dm
/-! ### strings -/
theorem str_inj {a b : ByteArray} (h : a.data.toList = b.data.toList) : a = b := by
  cases a; cases b; simp only [ByteArray.mk.injEq] at *; exact Array.toList_inj.1 h
theorem str_eq (a b : ByteArray) : (a.toList == b.toList) = decide (a = b) := by
  rw [ByteArray.toList_eq, ByteArray.toList_eq]
  by_cases h : a = b
  · subst h; simp
  · have : a.data.toList ≠ b.data.toList := fun e => h (str_inj e)
    rw [decide_eq_false h, beq_eq_false_iff_ne]; exact this
theorem str_ne (a b : ByteArray) : (a.toList != b.toList) = !decide (a = b) := by rw [bne, str_eq]
/-! ### things in order, by a function that has things of its own -/
/-- a function that yields n things, one behind the other; it may hold more meanwhile -/
def YldX (P : Program) (w0 : World) (A : List Seg) (fv : Value) (n : Nat) (arg : Nat → List Value) : Prop :=
  ∀ (yv : FV) (R : Value → PT) (J : Nat → List Seg → Prop) (Jd : World → Prop) (F : List Seg) (w : World), St w0 (A ++ F) w → J 0 F →
    (∀ m F X w, m < n → J m F → St w0 (A ++ (F ++ X)) w → FCall P yv.val (arg m) w fun v w' => (v = .bool true ∧ ∃ F', St w0 (A ++ (F' ++ X)) w' ∧ J (m + 1) F') ∨ (v = .bool false ∧ Jd w')) →
    (∀ F w, J n F → St w0 (A ++ F) w → R (.tuple #[]) w) → (∀ w, Jd w → R (.tuple #[]) w) → FFCall P fv [yv.val] w R
section
variable {w0 w w' : World} {P : Program}
theorem range_ofX {A F : List Seg} {fv : Value} {n : Nat} {es : List E1} {arg : Nat → TT es} (hY : YldX P w0 A fv n fun m => TV es (arg m)) (h : St w0 (A ++ F) w) {body : Nat → TT es → (Value → PT) → PT} {K : List Nat → Option Code → PT}
    (Inv : Nat → List Seg → Prop) (Ex : Code → List Seg → Prop) (h0 : Inv 0 F)
    (hb : ∀ m F X w l lp d (R : Value → PT), m < n → Inv m F → St w0 ([Rec l lp .busy none] :: [DfM d] :: (A ++ (F ++ X))) w →
      (∀ F' w', Inv (m + 1) F' → St w0 ([Rec l lp .busy none] :: [DfM d] :: (A ++ (F' ++ X))) w' → L.endRound P l none R w') →
      (∀ j G w', Ex j G → St w0 ([Rec l lp .busy none] :: [DfM d] :: (G ++ X)) w' → L.endRound P l (some j) R w') → body l (arg m) R w)
    (hc : ∀ d F w, Inv n F → St w0 ([DfM d] :: (A ++ F)) w → K [d] none w)
    (he : ∀ d j G w, Ex j G → St w0 ([DfM d] :: G) w → K [d] (some j) w) : L.range P none fv es (fun l y R => L.begin P l (body l y R)) K w := by
  refine rng h fun d l lp w h hy => ?_
  have h : St w0 (A ++ ([[Rec l lp .ready none], [DfM d]] ++ F)) w := St.toFront (G := A) (A := [[Rec l lp .ready none], [DfM d]]) h
  refine hY ⟨.yield l, #[], #[]⟩ _ (fun m G => ∃ F, G = [[Rec l lp .ready none], [DfM d]] ++ F ∧ Inv m F) (fun w => ∃ G j, St w0 ([Rec l lp .done (some j)] :: [DfM d] :: G) w ∧ Ex j G) _ w h ⟨F, rfl, h0⟩ ?_ ?_ ?_
  · rintro m G X w hm ⟨F, rfl, hi⟩ h
    have h : St w0 ([Rec l lp .ready none] :: [DfM d] :: (A ++ (F ++ X))) w := St.toFront (A := A) (G := [[Rec l lp .ready none], [DfM d]]) (F := F ++ X) h
    have hrec := (h.at 0 (b := (Rec l lp .ready none).1) (o := (Rec l lp .ready none).2) rfl).2
    refine hy (arg m) .ready none w _ hrec ?_
    refine bgn h 0 rfl fun w h => ?_
    refine hb m F X w l lp d _ hm hi h ?_ ?_
    · intro F' w' hi' h'
      refine endN h' 0 rfl fun w h => .inl ⟨rfl, _, ?_, F', rfl, hi'⟩
      exact St.toFront (G := A) (A := [[Rec l lp .ready none], [DfM d]]) (F := F' ++ X) h
    · intro j G w' hi' h'
      exact endJ h' 0 rfl fun w h => .inr ⟨rfl, G, j, St.cut (A := [Rec l lp .done (some j)] :: [DfM d] :: G) (X := X) h, hi'⟩
  · rintro G w ⟨F, rfl, hi⟩ h
    refine endL h.toFront 0 rfl (by simp) fun w h => hc d F w hi h
  · rintro w ⟨G, j, h, hi⟩
    refine endL h 0 rfl (by simp) fun w h => he d j G w hi h
/-- things of one's own, to the end -/
theorem St.toEnd {A F X : List Seg} (h : St w0 (X ++ (A ++ F)) w) : St w0 (A ++ (F ++ X)) w := by
  refine h.perm ?_
  simp only [List.flatten_append, ← List.append_assoc]
  rw [List.append_assoc]
  exact List.perm_append_comm
theorem St.ofEnd {A F X : List Seg} (h : St w0 (A ++ (F ++ X)) w) : St w0 (X ++ (A ++ F)) w := by
  refine h.perm ?_
  simp only [List.flatten_append, ← List.append_assoc]
  rw [List.append_assoc X.flatten]
  exact List.perm_append_comm
/-! ### one of many -/
theorem St.pick {τ : Type} {g : τ → Seg} {A B : List τ} {t : τ} {E : List Seg} (h : St w0 (((A ++ t :: B).map g).flatten :: E) w) : St w0 (g t :: ((A ++ B).map g).flatten :: E) w := by
  refine h.perm ?_
  simp only [List.map_append, List.map_cons, List.flatten_append, List.flatten_cons, ← List.append_assoc]
  refine List.Perm.append_right _ (List.Perm.append_right _ ?_)
  exact List.perm_append_comm
theorem St.place {τ : Type} {g : τ → Seg} {A B : List τ} {t : τ} {E : List Seg} (h : St w0 (g t :: ((A ++ B).map g).flatten :: E) w) : St w0 (((A ++ t :: B).map g).flatten :: E) w := by
  refine h.perm ?_
  simp only [List.map_append, List.map_cons, List.flatten_append, List.flatten_cons, ← List.append_assoc]
  refine List.Perm.append_right _ (List.Perm.append_right _ ?_)
  exact List.perm_append_comm
theorem St.addEnd {τ : Type} {g : τ → Seg} {A : List τ} {t : τ} {E : List Seg} (h : St w0 (g t :: (A.map g).flatten :: E) w) : St w0 (((A ++ [t]).map g).flatten :: E) w := by
  have h : St w0 (g t :: ((A ++ []).map g).flatten :: E) w := by simpa using h
  exact h.place
end
end Go.Dm
