/- Rows of things, and a range over a function (text Sep4). No conditions beyond those its theorems state. -/
import Derived.Test.YtpnbgpolbjbhpaaSep3
set_option linter.all false
namespace Go.Dm
/-! ### rows of things -/
abbrev SlV (v : Sl) : Value := .slice v.a v.len v.cap
structure Enc {α : Type} (enc : α → List Value) (size : Nat) : Prop where
  len : ∀ x, (enc x).length = size
  one : ∀ x, oneAll (enc x) = true
  pos : 0 < size
abbrev fl {α : Type} (enc : α → List Value) (l : List α) : List Value := l.flatMap enc
section
variable {α : Type} {enc : α → List Value} {size : Nat}
theorem oneAll_mem : ∀ {vs : List Value}, oneAll vs = true → ∀ u ∈ vs, oneC u = true
  | [], _, u, hu => by cases hu
  | v :: vs, h, u, hu => by
    simp only [oneAll, Bool.and_eq_true] at h
    rcases List.mem_cons.1 hu with rfl | hu
    · exact h.1
    · exact oneAll_mem h.2 u hu
theorem fl_len (hE : Enc enc size) (l : List α) : (fl enc l).length = l.length * size := by
  induction l with
  | nil => simp
  | cons x l ih =>
    have := hE.len x
    simp only [fl, List.flatMap_cons, List.length_append, List.length_cons] at ih ⊢
    rw [ih, Nat.add_mul, this]; omega
theorem fl_nth (hE : Enc enc size) : ∀ {l : List α} {i : Nat} {x : α} {f : Nat} {u : Value}, l[i]? = some x → nth (enc x) f = some u → nth (fl enc l) (i * size + f) = some u
  | [], i, x, f, u, h, _ => by simp at h
  | y :: l, 0, x, f, u, h, hu => by
    simp at h; subst h
    rw [Nat.zero_mul, Nat.zero_add]
    show nth (enc y ++ fl enc l) f = _
    rw [nth_app_lt (nth_lt hu)]; exact hu
  | y :: l, i + 1, x, f, u, h, hu => by
    show nth (enc y ++ fl enc l) _ = _
    have e : (i + 1) * size + f = (enc y).length + (i * size + f) := by rw [hE.len, Nat.add_mul]; omega
    rw [e, nth_app_add]
    exact fl_nth hE (by simpa using h) hu
theorem fl_app (l m : List α) : fl enc (l ++ m) = fl enc l ++ fl enc m := by simp [fl]
theorem fl_one (x : α) : fl enc [x] = enc x := by simp [fl]
theorem setN_app_lt {A B : List Value} {i : Nat} {v : Value} (h : i < A.length) : setN (A ++ B) i v = setN A i v ++ B := by
  rw [setN_set, setN_set, List.set_append_left _ _ h]
theorem setN_app_add {A B : List Value} {i : Nat} {v : Value} : setN (A ++ B) (A.length + i) v = A ++ setN B i v := by
  rw [setN_set, setN_set, List.set_append_right _ _ (by omega)]
  congr 2; omega
theorem fl_set (hE : Enc enc size) : ∀ {l : List α} {i : Nat} {x y : α} {f : Nat} {u : Value}, l[i]? = some x → f < size → enc y = setN (enc x) f u → setN (fl enc l) (i * size + f) u = fl enc (l.set i y)
  | [], i, x, y, f, u, h, _, _ => by simp at h
  | z :: l, 0, x, y, f, u, h, hf, he => by
    simp at h; subst h
    rw [Nat.zero_mul, Nat.zero_add]
    show setN (enc z ++ fl enc l) f u = enc y ++ fl enc l
    rw [setN_app_lt (by rw [hE.len]; exact hf), he]
  | z :: l, i + 1, x, y, f, u, h, hf, he => by
    show setN (enc z ++ fl enc l) _ u = enc z ++ fl enc (l.set i y)
    have e : (i + 1) * size + f = (enc z).length + (i * size + f) := by rw [hE.len, Nat.add_mul]; omega
    rw [e, setN_app_add]
    exact congrArg _ (fl_set hE (by simpa using h) hf he)
/-- a slice with its own row, of things -/
def Rw (enc : α → List Value) (e : TypeId) (size : Nat) (v : Sl) (l : List α) (s : Seg) : Prop := Row e size v (fl enc l) s
def ElA (v : Sl) (size i : Nat) (a : Addr) : Prop := ∃ a0, v.a = some a0 ∧ a = a0.add (i * size)
end
section
variable {w0 w w' : World} {E E' : List Seg} {P : Program} {α : Type} {enc : α → List Value} {e size : Nat} {v : Sl} {l : List α} {s : Seg}
theorem Rw.nil : Rw enc e size ⟨none, 0, 0⟩ [] [] := Row.nil
theorem Rw.len (hE : Enc enc size) (h : Rw enc e size v l s) : v.len = l.length := by
  have := Row.len h
  rw [fl_len hE] at this
  exact (Nat.mul_right_cancel hE.pos this).symm
theorem Rw.cap (h : Rw enc e size v l s) : v.len ≤ v.cap ∧ v.cap ≤ maxLen := by
  unfold Rw at h
  generalize fl enc l = xs at h
  cases h with
  | nil => exact ⟨Nat.le_refl _, by simp [maxLen]⟩
  | mk g n cap pre xs spare post h1 h2 h3 h4 => exact ⟨h3, h4⟩
theorem Rw.made (g n cap : Nat) (l : List α) (spare : List Value) (hE : Enc enc size) (h1 : n = l.length) (h2 : spare.length + n * size = cap * size) (h3 : n ≤ cap) (h4 : cap ≤ maxLen) : Rw enc e size ⟨some ⟨g, 0, none⟩, n, cap⟩ l [Cl g e (fl enc l ++ spare)] :=
  Row.mk0 g n cap _ spare (by rw [fl_len hE, h1]) (by rw [fl_len hE, ← h1]; omega) h3 h4
/-- a literal -/
theorem Rw.lit (g : Nat) (l : List α) {cs : List Value} {n : Nat} (hE : Enc enc size) (hc : cs = fl enc l) (hn : n = l.length) (h4 : n ≤ maxLen) : Rw enc e size ⟨some ⟨g, 0, none⟩, n, n⟩ l [Cl g e cs] := by
  have := Rw.made (e := e) g n n l [] hE hn (by simp) (Nat.le_refl _) h4
  rw [List.append_nil] at this
  rw [hc]; exact this
theorem add_add (a : Addr) (m n : Nat) : (a.add m).add n = a.add (m + n) := by
  unfold Addr.add
  by_cases hm : m = 0
  · subst hm; simp
  · by_cases hn : n = 0
    · subst hn; simp
    · rw [if_neg hm, if_neg hn, if_neg (by omega)]
      simp [Nat.add_assoc]
theorem Rw.ix (hE : Enc enc size) (hr : Rw enc e size v l s) {n : Int} {kk : Addr → PT} (h0 : 0 ≤ n) (h1 : n.toNat < l.length) (hk : ∀ a, ElA v size n.toNat a → kk a w) : L.idx v.a n v.len size kk w := by
  have hlen := Rw.len hE hr
  cases hb : v.a with
  | none =>
    generalize hl : l = l2 at hr
    cases l2 with
    | nil => subst hl; simp at h1
    | cons x l2 =>
      unfold Rw at hr
      generalize fl enc (x :: l2) = cs at hr
      cases hr with
      | nil => simp at hlen; omega
      | mk => cases hb
  | some b => exact Go.Dm.ix h0 (by omega) (hk _ ⟨b, hb, rfl⟩)
theorem Rw.ld (hE : Enc enc size) (h : St w0 E w) (k : Nat) (hi : nth E k = some s) (hr : Rw enc e size v l s) {i : Nat} {a : Addr} (ha : ElA v size i a) {x : α} (hx : l[i]? = some x) {f : Nat} {lf : Lf} {kk : lf.T → PT} {u : Value} {y : lf.T}
    (hu : nth (enc x) f = some u) (hy : un2 lf u = some y) (hk : kk y w) : L.load (.one lf) (a.add f) kk w := by
  obtain ⟨a0, hv, rfl⟩ := ha
  refine ⟨y, fun j c hc => ?_, hk⟩
  cases j with
  | zero =>
    cases hc
    rw [add_zero', add_add]
    exact hr.cell h k hi hv (by rw [un2_val hy]; exact fl_nth hE hx hu)
  | succ j => cases hc
theorem Rw.ld0 (hE : Enc enc size) (h : St w0 E w) (k : Nat) (hi : nth E k = some s) (hr : Rw enc e size v l s) {i : Nat} {a : Addr} (ha : ElA v size i a) {x : α} (hx : l[i]? = some x) {lf : Lf} {kk : lf.T → PT} {u : Value} {y : lf.T}
    (hu : nth (enc x) 0 = some u) (hy : un2 lf u = some y) (hk : kk y w) : L.load (.one lf) a kk w := by
  have := Rw.ld hE h k hi hr ha hx hu hy hk
  rw [add_zero'] at this; exact this
theorem Rw.lda (hE : Enc enc size) (h : St w0 E w) (k : Nat) (hi : nth E k = some s) (hr : Rw enc e size v l s) {i : Nat} {a : Addr} (ha : ElA v size i a) {x : α} (hx : l[i]? = some x) {ls : List Lf} {kk : HT ls → PT} {y : HT ls}
    (hy : un2s ls (enc x) = some y) (hk : kk y w) : L.load (.agg ls) a kk w := by
  obtain ⟨a0, hv, rfl⟩ := ha
  refine ⟨y, fun j c hc => ?_, hk⟩
  rw [add_add]
  exact hr.cell h k hi hv (fl_nth hE hx (un2s_val hy j c hc))
/-- a write into a row -/
theorem Rw.st (hE : Enc enc size) (h : St w0 E w) (k : Nat) (hi : nth E k = some s) (hr : Rw enc e size v l s) {i : Nat} {a : Addr} (ha : ElA v size i a) {x y : α} (hx : l[i]? = some x) {f : Nat} {u : Value} {kk : PT} (hf : f < size) (he : enc y = setN (enc x) f u) (hu : oneC u = true)
    (hk : ∀ s' w', Rw enc e size v (l.set i y) s' → St w0 (setN E k s') w' → kk w') : L.store (a.add f) [u] kk w := by
  obtain ⟨a0, hv, rfl⟩ := ha
  have hset := fl_set hE hx hf he
  have hlt : i * size + f < (fl enc l).length := by
    rw [fl_len hE]
    have : i < l.length := (List.getElem?_eq_some_iff.1 hx).1
    have := Nat.mul_le_mul_right size (show i + 1 ≤ l.length from this)
    rw [Nat.add_mul] at this; omega
  unfold Rw at hr hk
  rw [← hset] at hk
  have hlen2 : (setN (fl enc l) (i * size + f) u).length = (fl enc l).length := by rw [setN_set]; simp
  generalize fl enc l = xs at *
  cases hr with
  | nil => cases hv
  | mk g n cap pre xs spare post h1 h2 h3 h4 =>
    cases hv
    rw [add_add, add_none]
    refine stx [u] h k hi ?_ (by simp [oneAll, hu]) fun w' h => hk _ w' (Row.mk g n cap pre _ spare post (by rw [hlen2]; exact h1) (by rw [hlen2]; exact h2) h3 h4) ?_
    · have : ∃ c, nth (pre ++ (xs ++ (spare ++ post))) (pre.length + (i * size + f)) = some c := by
        rw [nth_app_add, nth_app_lt hlt, nth_getElem?]
        exact ⟨_, List.getElem?_eq_getElem hlt⟩
      obtain ⟨c, hc⟩ := this
      simp [hasN, hc]
    · simp only [putN] at h
      rw [setN_app_add, setN_app_lt hlt] at h
      exact h
/-- append of one thing, that stands in front -/
theorem Rw.app {t ty bytes : TypeId} {z : Value} (hE : Enc enc size) (L0 : El P t e size bytes z) {b T : Nat} {cs : List Value} (h : St w0 ([Cl b T cs] :: E) w) (k : Nat) (hi : nth E k = some s) (hr : Rw enc e size v l s) (x : α) (hc : enc x = cs)
    (hb : (l.length + 1) * bytes ≤ 140737488355328) (h63 : l.length < 1000000000000) {kk : Sl → PT}
    (hk : ∀ (v' : Sl) s' w', Rw enc e size v' (l ++ [x]) s' → St w0 (setN E k s') w' → kk v' w') :
    L.sem P (.one (.one .slice)) (Builtin.append_ #[t, t] ty #[.slice v.a v.len v.cap, .slice (some ⟨b, 0, none⟩) 1 1]) kk w := by
  have hlen := Rw.len hE hr
  refine Go.Dm.app L0 h (k + 1) hi hr (a := ⟨b, 0, none⟩) (m := 1) cs (by rw [← hc, hE.len]; omega) (fun j u hu => ?_) (fun u hu => ?_) (by omega) (by rw [hlen]; exact hb) (by rw [hlen]; simp only [maxLen]; omega) fun v' s' w' hr' hl' h => hk v' s' w' ?_ h.tail
  · rw [add_none]; exact h.cellOwn 0 rfl (by rw [Nat.zero_add, nth_getElem?]; exact hu)
  · subst hc; exact oneAll_mem (hE.one x) u hu
  · unfold Rw; rw [fl_app, fl_one, hc]; exact hr'
/-- l[i:] -/
theorem Rw.behind (hE : Enc enc size) (hr : Rw enc e size v l s) (i : Nat) (hi : i ≤ l.length) : Rw enc e size ⟨if v.cap = i then v.a else Option.map (fun a : Addr => a.add (i * size)) v.a, v.len - i, v.cap - i⟩ (l.drop i) s := by
  have hlen := Rw.len hE hr
  have hcap := hr.cap
  have e1 : fl enc l = fl enc (l.take i) ++ fl enc (l.drop i) := by rw [← fl_app, List.take_append_drop]
  have e2 : (fl enc (l.take i)).length = i * size := by rw [fl_len hE, List.length_take]; congr 1; omega
  unfold Rw at *
  generalize hxs : fl enc l = xs at *
  cases hr with
  | nil =>
    simp only at *
    have : i = 0 := by omega
    subst this
    rw [List.drop_zero, hxs]
    simp only [Nat.sub_self, if_pos]
    exact Row.nil
  | mk g n cap pre xs spare post h1 h2 h3 h4 =>
    simp only at *
    have hl3 : (fl enc (l.drop i)).length = (n - i) * size := by rw [fl_len hE, List.length_drop, hlen]
    by_cases hc : cap = i
    · rw [if_pos hc]
      have h0 : l.drop i = [] := List.drop_of_length_le (by omega)
      rw [h0]
      have e3 : n - i = 0 := by omega
      have e4 : cap - i = 0 := by omega
      rw [e3, e4]
      have := Row.mk (e := e) (size := size) g 0 0 pre [] [] (xs ++ (spare ++ post)) (by simp) (by simp) (by omega) (by simp [maxLen])
      simpa [fl] using this
    · rw [if_neg hc]
      rw [e1]
      simp only [Option.map_some, add_none]
      have := Row.mk (e := e) (size := size) g (n - i) (cap - i) (pre ++ fl enc (l.take i)) (fl enc (l.drop i)) spare post hl3 (by
        rw [hl3]; rw [e1, List.length_append, e2, hl3] at h2
        rw [Nat.sub_mul, Nat.sub_mul] at *
        have := Nat.mul_le_mul_right size (show i ≤ n by omega)
        have := Nat.mul_le_mul_right size h3
        omega) (by omega) (by omega)
      simp only [List.length_append, e2] at this
      simpa using this
end
/-! ### a range over a function that yields a row of values -/
def Yld (P : Program) (w0 : World) (A : List Seg) (fv : Value) (n : Nat) (arg : Nat → List Value) : Prop :=
  ∀ (yv : FV) (R : Value → PT) (J : Nat → List Seg → Prop) (Jd : World → Prop) (F : List Seg) (w : World), St w0 (A ++ F) w → J 0 F →
    (∀ m F w, m < n → J m F → St w0 (A ++ F) w → FCall P yv.val (arg m) w fun v w' => (v = .bool true ∧ ∃ F', St w0 (A ++ F') w' ∧ J (m + 1) F') ∨ (v = .bool false ∧ Jd w')) →
    (∀ F w, J n F → St w0 (A ++ F) w → R (.tuple #[]) w) → (∀ w, Jd w → R (.tuple #[]) w) → FFCall P fv [yv.val] w R
section
variable {w0 w w' : World} {P : Program}
theorem St.toFront {A F G : List Seg} (h : St w0 (A ++ (G ++ F)) w) : St w0 (G ++ (A ++ F)) w := by
  refine h.perm ?_
  simp only [List.flatten_append, ← List.append_assoc]
  exact List.Perm.append_right _ List.perm_append_comm
theorem range_of {A F : List Seg} {fv : Value} {n : Nat} {es : List E1} {arg : Nat → TT es} (hY : Yld P w0 A fv n fun m => TV es (arg m)) (h : St w0 (A ++ F) w) {body : Nat → TT es → (Value → PT) → PT} {K : List Nat → Option Code → PT}
    (Inv : Nat → List Seg → Prop) (Ex : Code → List Seg → Prop) (h0 : Inv 0 F)
    (hb : ∀ m F w l lp d (R : Value → PT), m < n → Inv m F → St w0 ([Rec l lp .busy none] :: [DfM d] :: (A ++ F)) w →
      (∀ F' w', Inv (m + 1) F' → St w0 ([Rec l lp .busy none] :: [DfM d] :: (A ++ F')) w' → L.endRound P l none R w') →
      (∀ j G w', Ex j G → St w0 ([Rec l lp .busy none] :: [DfM d] :: G) w' → L.endRound P l (some j) R w') → body l (arg m) R w)
    (hc : ∀ d F w, Inv n F → St w0 ([DfM d] :: (A ++ F)) w → K [d] none w)
    (he : ∀ d j G w, Ex j G → St w0 ([DfM d] :: G) w → K [d] (some j) w) : L.range P none fv es (fun l y R => L.begin P l (body l y R)) K w := by
  refine rng h fun d l lp w h hy => ?_
  have h : St w0 (A ++ ([[Rec l lp .ready none], [DfM d]] ++ F)) w := St.toFront (G := A) (A := [[Rec l lp .ready none], [DfM d]]) h
  refine hY ⟨.yield l, #[], #[]⟩ _ (fun m G => ∃ F, G = [[Rec l lp .ready none], [DfM d]] ++ F ∧ Inv m F) (fun w => ∃ G j, St w0 ([Rec l lp .done (some j)] :: [DfM d] :: G) w ∧ Ex j G) _ w h ⟨F, rfl, h0⟩ ?_ ?_ ?_
  · rintro m G w hm ⟨F, rfl, hi⟩ h
    have h := h.toFront
    have hrec := (h.at 0 (b := (Rec l lp .ready none).1) (o := (Rec l lp .ready none).2) rfl).2
    refine hy (arg m) .ready none w _ hrec ?_
    refine bgn h 0 rfl fun w h => ?_
    refine hb m F w l lp d _ hm hi h ?_ ?_
    · intro F' w' hi' h'
      refine endN h' 0 rfl fun w h => .inl ⟨rfl, _, ?_, F', rfl, hi'⟩
      exact St.toFront (G := A) (A := [[Rec l lp .ready none], [DfM d]]) h
    · intro j G w' hi' h'
      exact endJ h' 0 rfl fun w h => .inr ⟨rfl, G, j, h, hi'⟩
  · rintro G w ⟨F, rfl, hi⟩ h
    refine endL h.toFront 0 rfl (by simp) fun w h => hc d F w hi h
  · rintro w ⟨G, j, h, hi⟩
    refine endL h 0 rfl (by simp) fun w h => he d j G w hi h
theorem jumpN {kn kr : PT} {ks : List (Nat × PT)} (h : kn w) : L.jump none kn kr ks w := h
theorem jumpR {kn kr : PT} {ks : List (Nat × PT)} (h : kr w) : L.jump (some .ret) kn kr ks w := h
theorem jumpX {kn kr : PT} {ks : List (Nat × PT)} {i : Nat} (h : look i ks w) : L.jump (some (.exit i)) kn kr ks w := h
theorem cv {fv : Value} {args : List Value} {r : RT} {k : r.T → PT} (h : FCall P fv args w fun v w' => ∃ x, v = r.val x ∧ k x w') : L.callV P fv args r k w := h
/-- a call of a function value that is known -/
theorem callV_of {f : FuncId} {fs cs : Array Value} {args : List Value} {r : RT} {k : r.T → PT} {F : (Value → PT) → PT} (hE : Enters P f) (hc : ∀ {K : Value → PT} {w : World}, F K w → Calls P f (fs ++ args.toArray ++ cs) w fun e w' => ∃ v, e = .returned v ∧ K v w')
    (h : F (fun v w' => ∃ x, v = r.val x ∧ k x w') w) : L.callV P (.func (.func f) fs cs) args r k w :=
  ⟨hE, (hc h).mono fun _ _ ⟨v, he, x, hv, hk⟩ => ⟨v, he, x, hv, hk⟩⟩
end
end Go.Dm
