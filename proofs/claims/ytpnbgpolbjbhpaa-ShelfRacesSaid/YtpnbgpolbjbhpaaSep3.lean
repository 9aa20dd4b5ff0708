/- The rules of the steps by the place of the segment (text Sep3). No conditions beyond those its theorems state. -/
import Derived.Test.YtpnbgpolbjbhpaaSep2
set_option linter.all false
namespace Go.Dm
/-! ### steps, by the place of the segment -/
def un2 : (l : Lf) → Value → Option l.T
  | .int .i64, .int .i64 n => some n
  | .int .i32, .int .i32 n => some n
  | .int .i16, .int .i16 n => some n
  | .int .i8, .int .i8 n => some n
  | .int .u64, .int .u64 n => some n
  | .int .u32, .int .u32 n => some n
  | .int .u16, .int .u16 n => some n
  | .int .u8, .int .u8 n => some n
  | .bool, .bool b => some b
  | .str, .string s => some s
  | .ptr, .pointer p => some p
  | .adr, .pointer (some a) => some a
  | .slice, .slice a n c => some ⟨a, n, c⟩
  | .map, .map m => some m
  | .func, .func f a b => some ⟨f, a, b⟩
  | .iface, .nilIface => some none
  | .iface, .iface t v => some (some (t, v))
  | _, _ => none
theorem un2_val : ∀ {l : Lf} {v : Value} {x : l.T}, un2 l v = some x → l.val x = v := by
  intro l v x h
  unfold un2 at h
  split at h <;> first | (cases h; rfl) | (cases h)
def un2s : (ls : List Lf) → List Value → Option (HT ls)
  | [], _ => some ()
  | _ :: _, [] => none
  | l :: ls, v :: vs => match un2 l v with
    | none => none
    | some x => match un2s ls vs with
      | none => none
      | some r => some (x, r)
theorem un2s_val : ∀ {ls : List Lf} {vs : List Value} {x : HT ls}, un2s ls vs = some x → ∀ j c, nth (HV ls x) j = some c → nth vs j = some c
  | [], vs, x, _, j, c, hc => by cases hc
  | l :: ls, [], x, h, _, _, _ => by cases h
  | l :: ls, v :: vs, x, h, j, c, hc => by
    simp only [un2s] at h
    split at h
    · cases h
    · rename_i y hy
      split at h
      · cases h
      · rename_i r hr
        cases h
        cases j with
        | zero => cases hc; exact congrArg some (un2_val hy).symm
        | succ j => exact un2s_val hr j c hc
def behN : List Value → Nat → List Value
  | l, 0 => l
  | [], _ => []
  | _ :: l, n + 1 => behN l n
theorem nth_behN : ∀ (l : List Value) (n j : Nat), nth (behN l n) j = nth l (n + j)
  | l, 0, j => by simp [behN]
  | [], n + 1, j => by simp [behN, nth]
  | x :: l, n + 1, j => by
    have : n + 1 + j = (n + j) + 1 := by omega
    rw [behN, nth_behN l n j, this, nth]
def putN : List Value → Nat → List Value → List Value
  | cs, _, [] => cs
  | cs, o, v :: vs => putN (setN cs o v) (o + 1) vs
def oneAll : List Value → Bool
  | [] => true
  | v :: vs => oneC v && oneAll vs
def hasN : List Value → Nat → List Value → Bool
  | _, _, [] => true
  | cs, o, _ :: vs => (nth cs o).isSome && hasN cs (o + 1) vs
section
variable {w0 w w' : World} {E : List Seg} {P : Program}
theorem ldx (h : St w0 E w) {l : Lf} {b o T : Nat} {cs : List Value} {k : l.T → PT} (i : Nat) (hi : nth E i = some [Cl b T cs]) {v : Value} {x : l.T} (hv : nth cs o = some v) (hx : un2 l v = some x) (hk : k x w) : L.load (.one l) ⟨b, o, none⟩ k w :=
  ld h i hi (x := x) (by rw [hv, un2_val hx]) hk
theorem lax (h : St w0 E w) {ls : List Lf} {b o T : Nat} {cs : List Value} {k : HT ls → PT} (i : Nat) (hi : nth E i = some [Cl b T cs]) {x : HT ls} (hx : un2s ls (behN cs o) = some x) (hk : k x w) : L.load (.agg ls) ⟨b, o, none⟩ k w := by
  refine ⟨x, fun j c hj => ?_, hk⟩
  rw [add_none]
  refine h.cellOwn i hi ?_
  rw [← nth_behN]; exact un2s_val hx j c hj
def preN : List Value → List Value → List Value
  | [], _ => []
  | _ :: _, [] => []
  | _ :: vs, c :: cs => c :: preN vs cs
theorem nth_preN : ∀ {vs cs : List Value}, preN vs cs = vs → ∀ j c, nth vs j = some c → nth cs j = some c
  | [], _, _, j, c, h => by cases h
  | _ :: _, [], h, _, _, _ => by cases h
  | v :: vs, u :: cs, h, 0, c, hc => by simp only [preN, List.cons.injEq] at h; cases hc; rw [← h.1]; rfl
  | v :: vs, u :: cs, h, j + 1, c, hc => by simp only [preN, List.cons.injEq] at h; exact nth_preN (vs := vs) h.2 j c hc
theorem ckm (h : St w0 E w) {b o T : Nat} {cs vs : List Value} {k : PT} (i : Nat) (hi : nth E i = some [Cl b T cs]) (hv : preN vs (behN cs o) = vs) (hk : k w) : L.chk ⟨b, o, none⟩ vs k w := by
  refine ⟨fun j c hj => ?_, hk⟩
  rw [add_none]
  refine h.cellOwn i hi ?_
  rw [← nth_behN]; exact nth_preN hv j c hj
theorem stx : ∀ (vs : List Value) {w : World} {E : List Seg} (_ : St w0 E w) {b o T : Nat} {cs : List Value} {k : PT} (i : Nat) (_ : nth E i = some [Cl b T cs]) (_ : hasN cs o vs = true) (_ : oneAll vs = true)
    (_ : ∀ w', St w0 (setN E i [Cl b T (putN cs o vs)]) w' → k w'), L.store ⟨b, o, none⟩ vs k w := by
  have key : ∀ (vs : List Value) {w : World} {E : List Seg} (_ : St w0 E w) {b o T : Nat} {cs : List Value} (m : Nat) (i : Nat) (_ : nth E i = some [Cl b T cs]) (_ : hasN cs (o + m) vs = true) (_ : oneAll vs = true),
      St w0 (setN E i [Cl b T (putN cs (o + m) vs)]) (setCells w ⟨b, o, none⟩ vs m) := by
    intro vs
    induction vs with
    | nil => intro w E h b o T cs m i hi _ _; simp only [setCells, putN]; rw [setN_self hi]; exact h
    | cons v vs ih =>
      intro w E h b o T cs m i hi hh h1
      simp only [hasN, Bool.and_eq_true] at hh
      simp only [oneAll, Bool.and_eq_true] at h1
      obtain ⟨u, hu⟩ := Option.isSome_iff_exists.1 hh.1
      have hst := (st1 (k := fun w' => St w0 (setN E i [Cl b T (setN cs (o + m) v)]) w') h i hi hu h1.1 fun w' h => h).2
      simp only [setCells, add_zero'] at hst
      have e : (⟨b, o, none⟩ : Addr).add m = ⟨b, o + m, none⟩ := add_none ..
      rw [← e] at hst
      have hi2 := nth_setN (y := [Cl b T (setN cs (o + m) v)]) hi
      have := ih hst (m + 1) i hi2 (by
        have : ∀ (us : List Value) (cs : List Value) (p q : Nat), hasN cs q us = true → hasN (setN cs p v) q us = true := by
          intro us
          induction us with
          | nil => intros; rfl
          | cons z us ih2 =>
            intro cs p q hq
            simp only [hasN, Bool.and_eq_true] at hq ⊢
            refine ⟨?_, ih2 _ _ _ hq.2⟩
            have hl := hq.1
            rw [nth_getElem?] at hl ⊢
            rw [setN_set]
            simp at hl ⊢
            exact hl
        exact this vs cs _ _ (by rw [← Nat.add_assoc]; exact hh.2)) h1.2
      rw [setN_setN] at this
      exact this
  intro vs w E h b o T cs k i hi hh h1 hk
  refine ⟨fun j c hj => ?_, hk _ ?_⟩
  · have hc : oneC c = true := by
      clear hk hh
      induction vs generalizing j with
      | nil => cases hj
      | cons v vs ih =>
        simp only [oneAll, Bool.and_eq_true] at h1
        cases j with
        | zero => cases hj; exact h1.1
        | succ j => exact ih h1.2 j hj
    have hs : ∃ u, nth cs (o + j) = some u := by
      clear hk h1 hc
      induction vs generalizing j o with
      | nil => cases hj
      | cons v vs ih =>
        simp only [hasN, Bool.and_eq_true] at hh
        cases j with
        | zero => exact Option.isSome_iff_exists.1 hh.1
        | succ j =>
          have := ih (o := o + 1) hh.2 j hj
          rwa [Nat.add_assoc, Nat.add_comm 1 j] at this
    obtain ⟨u, hu⟩ := hs
    rw [add_none]
    refine ⟨hc, by rw [h.cellOwn i hi hu]; rfl, ?_⟩
    have hb := (h.at i hi).2
    simp [World.frozen?, hb]
  · have := key vs h 0 i hi (by simpa using hh) h1
    simpa using this

theorem ld0_ {l : Lf} {b o T : Nat} {cs : List Value} {k : l.T → PT} {v : Value} {x : l.T} (h : St w0 ([Cl b T cs] :: E) w) (hv : nth cs o = some v) (hx : un2 l v = some x) (hk : k x w) : L.load (.one l) ⟨b, o, none⟩ k w := ldx h 0 rfl hv hx hk
theorem la0_ {ls : List Lf} {b o T : Nat} {cs : List Value} {k : HT ls → PT} {x : HT ls} (h : St w0 ([Cl b T cs] :: E) w) (hx : un2s ls (behN cs o) = some x) (hk : k x w) : L.load (.agg ls) ⟨b, o, none⟩ k w := lax h 0 rfl hx hk
theorem ck0_ {b o T : Nat} {cs vs : List Value} {k : PT} (h : St w0 ([Cl b T cs] :: E) w) (hv : preN vs (behN cs o) = vs) (hk : k w) : L.chk ⟨b, o, none⟩ vs k w := ckm h 0 rfl hv hk
theorem st0_ {b o T : Nat} {cs vs : List Value} {k : PT} (h : St w0 ([Cl b T cs] :: E) w) (hh : hasN cs o vs = true) (h1 : oneAll vs = true) (hk : ∀ w', St w0 ([Cl b T (putN cs o vs)] :: E) w' → k w') : L.store ⟨b, o, none⟩ vs k w := stx vs h 0 rfl hh h1 hk
theorem um0_ {d : Nat} {ds : List Nat} {k : PT} (h : St w0 ([DfM d] :: E) w) (hk : ∀ w', St w0 (E) w' → L.unmark P ds k w') : L.unmark P (d :: ds) k w := um h 0 rfl fun w' h => hk w' (h.del 0 rfl)
theorem fr0_ {s : Seg} (h : St w0 (s :: E) w) : St w0 (s :: E) w := h.front 0 rfl
theorem dl0_ {s : Seg} (h : St w0 (s :: E) w) : St w0 (E) w := h.del 0 rfl
theorem ld1_ {s0 : Seg} {l : Lf} {b o T : Nat} {cs : List Value} {k : l.T → PT} {v : Value} {x : l.T} (h : St w0 (s0 :: [Cl b T cs] :: E) w) (hv : nth cs o = some v) (hx : un2 l v = some x) (hk : k x w) : L.load (.one l) ⟨b, o, none⟩ k w := ldx h 1 rfl hv hx hk
theorem la1_ {s0 : Seg} {ls : List Lf} {b o T : Nat} {cs : List Value} {k : HT ls → PT} {x : HT ls} (h : St w0 (s0 :: [Cl b T cs] :: E) w) (hx : un2s ls (behN cs o) = some x) (hk : k x w) : L.load (.agg ls) ⟨b, o, none⟩ k w := lax h 1 rfl hx hk
theorem ck1_ {s0 : Seg} {b o T : Nat} {cs vs : List Value} {k : PT} (h : St w0 (s0 :: [Cl b T cs] :: E) w) (hv : preN vs (behN cs o) = vs) (hk : k w) : L.chk ⟨b, o, none⟩ vs k w := ckm h 1 rfl hv hk
theorem st1_ {s0 : Seg} {b o T : Nat} {cs vs : List Value} {k : PT} (h : St w0 (s0 :: [Cl b T cs] :: E) w) (hh : hasN cs o vs = true) (h1 : oneAll vs = true) (hk : ∀ w', St w0 (s0 :: [Cl b T (putN cs o vs)] :: E) w' → k w') : L.store ⟨b, o, none⟩ vs k w := stx vs h 1 rfl hh h1 hk
theorem um1_ {s0 : Seg} {d : Nat} {ds : List Nat} {k : PT} (h : St w0 (s0 :: [DfM d] :: E) w) (hk : ∀ w', St w0 (s0 :: E) w' → L.unmark P ds k w') : L.unmark P (d :: ds) k w := um h 1 rfl fun w' h => hk w' (h.del 1 rfl)
theorem fr1_ {s0 : Seg} {s : Seg} (h : St w0 (s0 :: s :: E) w) : St w0 (s :: s0 :: E) w := h.front 1 rfl
theorem dl1_ {s0 : Seg} {s : Seg} (h : St w0 (s0 :: s :: E) w) : St w0 (s0 :: E) w := h.del 1 rfl
theorem ld2_ {s0 s1 : Seg} {l : Lf} {b o T : Nat} {cs : List Value} {k : l.T → PT} {v : Value} {x : l.T} (h : St w0 (s0 :: s1 :: [Cl b T cs] :: E) w) (hv : nth cs o = some v) (hx : un2 l v = some x) (hk : k x w) : L.load (.one l) ⟨b, o, none⟩ k w := ldx h 2 rfl hv hx hk
theorem la2_ {s0 s1 : Seg} {ls : List Lf} {b o T : Nat} {cs : List Value} {k : HT ls → PT} {x : HT ls} (h : St w0 (s0 :: s1 :: [Cl b T cs] :: E) w) (hx : un2s ls (behN cs o) = some x) (hk : k x w) : L.load (.agg ls) ⟨b, o, none⟩ k w := lax h 2 rfl hx hk
theorem ck2_ {s0 s1 : Seg} {b o T : Nat} {cs vs : List Value} {k : PT} (h : St w0 (s0 :: s1 :: [Cl b T cs] :: E) w) (hv : preN vs (behN cs o) = vs) (hk : k w) : L.chk ⟨b, o, none⟩ vs k w := ckm h 2 rfl hv hk
theorem st2_ {s0 s1 : Seg} {b o T : Nat} {cs vs : List Value} {k : PT} (h : St w0 (s0 :: s1 :: [Cl b T cs] :: E) w) (hh : hasN cs o vs = true) (h1 : oneAll vs = true) (hk : ∀ w', St w0 (s0 :: s1 :: [Cl b T (putN cs o vs)] :: E) w' → k w') : L.store ⟨b, o, none⟩ vs k w := stx vs h 2 rfl hh h1 hk
theorem um2_ {s0 s1 : Seg} {d : Nat} {ds : List Nat} {k : PT} (h : St w0 (s0 :: s1 :: [DfM d] :: E) w) (hk : ∀ w', St w0 (s0 :: s1 :: E) w' → L.unmark P ds k w') : L.unmark P (d :: ds) k w := um h 2 rfl fun w' h => hk w' (h.del 2 rfl)
theorem fr2_ {s0 s1 : Seg} {s : Seg} (h : St w0 (s0 :: s1 :: s :: E) w) : St w0 (s :: s0 :: s1 :: E) w := h.front 2 rfl
theorem dl2_ {s0 s1 : Seg} {s : Seg} (h : St w0 (s0 :: s1 :: s :: E) w) : St w0 (s0 :: s1 :: E) w := h.del 2 rfl
theorem ld3_ {s0 s1 s2 : Seg} {l : Lf} {b o T : Nat} {cs : List Value} {k : l.T → PT} {v : Value} {x : l.T} (h : St w0 (s0 :: s1 :: s2 :: [Cl b T cs] :: E) w) (hv : nth cs o = some v) (hx : un2 l v = some x) (hk : k x w) : L.load (.one l) ⟨b, o, none⟩ k w := ldx h 3 rfl hv hx hk
theorem la3_ {s0 s1 s2 : Seg} {ls : List Lf} {b o T : Nat} {cs : List Value} {k : HT ls → PT} {x : HT ls} (h : St w0 (s0 :: s1 :: s2 :: [Cl b T cs] :: E) w) (hx : un2s ls (behN cs o) = some x) (hk : k x w) : L.load (.agg ls) ⟨b, o, none⟩ k w := lax h 3 rfl hx hk
theorem ck3_ {s0 s1 s2 : Seg} {b o T : Nat} {cs vs : List Value} {k : PT} (h : St w0 (s0 :: s1 :: s2 :: [Cl b T cs] :: E) w) (hv : preN vs (behN cs o) = vs) (hk : k w) : L.chk ⟨b, o, none⟩ vs k w := ckm h 3 rfl hv hk
theorem st3_ {s0 s1 s2 : Seg} {b o T : Nat} {cs vs : List Value} {k : PT} (h : St w0 (s0 :: s1 :: s2 :: [Cl b T cs] :: E) w) (hh : hasN cs o vs = true) (h1 : oneAll vs = true) (hk : ∀ w', St w0 (s0 :: s1 :: s2 :: [Cl b T (putN cs o vs)] :: E) w' → k w') : L.store ⟨b, o, none⟩ vs k w := stx vs h 3 rfl hh h1 hk
theorem um3_ {s0 s1 s2 : Seg} {d : Nat} {ds : List Nat} {k : PT} (h : St w0 (s0 :: s1 :: s2 :: [DfM d] :: E) w) (hk : ∀ w', St w0 (s0 :: s1 :: s2 :: E) w' → L.unmark P ds k w') : L.unmark P (d :: ds) k w := um h 3 rfl fun w' h => hk w' (h.del 3 rfl)
theorem fr3_ {s0 s1 s2 : Seg} {s : Seg} (h : St w0 (s0 :: s1 :: s2 :: s :: E) w) : St w0 (s :: s0 :: s1 :: s2 :: E) w := h.front 3 rfl
theorem dl3_ {s0 s1 s2 : Seg} {s : Seg} (h : St w0 (s0 :: s1 :: s2 :: s :: E) w) : St w0 (s0 :: s1 :: s2 :: E) w := h.del 3 rfl
theorem ld4_ {s0 s1 s2 s3 : Seg} {l : Lf} {b o T : Nat} {cs : List Value} {k : l.T → PT} {v : Value} {x : l.T} (h : St w0 (s0 :: s1 :: s2 :: s3 :: [Cl b T cs] :: E) w) (hv : nth cs o = some v) (hx : un2 l v = some x) (hk : k x w) : L.load (.one l) ⟨b, o, none⟩ k w := ldx h 4 rfl hv hx hk
theorem la4_ {s0 s1 s2 s3 : Seg} {ls : List Lf} {b o T : Nat} {cs : List Value} {k : HT ls → PT} {x : HT ls} (h : St w0 (s0 :: s1 :: s2 :: s3 :: [Cl b T cs] :: E) w) (hx : un2s ls (behN cs o) = some x) (hk : k x w) : L.load (.agg ls) ⟨b, o, none⟩ k w := lax h 4 rfl hx hk
theorem ck4_ {s0 s1 s2 s3 : Seg} {b o T : Nat} {cs vs : List Value} {k : PT} (h : St w0 (s0 :: s1 :: s2 :: s3 :: [Cl b T cs] :: E) w) (hv : preN vs (behN cs o) = vs) (hk : k w) : L.chk ⟨b, o, none⟩ vs k w := ckm h 4 rfl hv hk
theorem st4_ {s0 s1 s2 s3 : Seg} {b o T : Nat} {cs vs : List Value} {k : PT} (h : St w0 (s0 :: s1 :: s2 :: s3 :: [Cl b T cs] :: E) w) (hh : hasN cs o vs = true) (h1 : oneAll vs = true) (hk : ∀ w', St w0 (s0 :: s1 :: s2 :: s3 :: [Cl b T (putN cs o vs)] :: E) w' → k w') : L.store ⟨b, o, none⟩ vs k w := stx vs h 4 rfl hh h1 hk
theorem um4_ {s0 s1 s2 s3 : Seg} {d : Nat} {ds : List Nat} {k : PT} (h : St w0 (s0 :: s1 :: s2 :: s3 :: [DfM d] :: E) w) (hk : ∀ w', St w0 (s0 :: s1 :: s2 :: s3 :: E) w' → L.unmark P ds k w') : L.unmark P (d :: ds) k w := um h 4 rfl fun w' h => hk w' (h.del 4 rfl)
theorem fr4_ {s0 s1 s2 s3 : Seg} {s : Seg} (h : St w0 (s0 :: s1 :: s2 :: s3 :: s :: E) w) : St w0 (s :: s0 :: s1 :: s2 :: s3 :: E) w := h.front 4 rfl
theorem dl4_ {s0 s1 s2 s3 : Seg} {s : Seg} (h : St w0 (s0 :: s1 :: s2 :: s3 :: s :: E) w) : St w0 (s0 :: s1 :: s2 :: s3 :: E) w := h.del 4 rfl
theorem ld5_ {s0 s1 s2 s3 s4 : Seg} {l : Lf} {b o T : Nat} {cs : List Value} {k : l.T → PT} {v : Value} {x : l.T} (h : St w0 (s0 :: s1 :: s2 :: s3 :: s4 :: [Cl b T cs] :: E) w) (hv : nth cs o = some v) (hx : un2 l v = some x) (hk : k x w) : L.load (.one l) ⟨b, o, none⟩ k w := ldx h 5 rfl hv hx hk
theorem la5_ {s0 s1 s2 s3 s4 : Seg} {ls : List Lf} {b o T : Nat} {cs : List Value} {k : HT ls → PT} {x : HT ls} (h : St w0 (s0 :: s1 :: s2 :: s3 :: s4 :: [Cl b T cs] :: E) w) (hx : un2s ls (behN cs o) = some x) (hk : k x w) : L.load (.agg ls) ⟨b, o, none⟩ k w := lax h 5 rfl hx hk
theorem ck5_ {s0 s1 s2 s3 s4 : Seg} {b o T : Nat} {cs vs : List Value} {k : PT} (h : St w0 (s0 :: s1 :: s2 :: s3 :: s4 :: [Cl b T cs] :: E) w) (hv : preN vs (behN cs o) = vs) (hk : k w) : L.chk ⟨b, o, none⟩ vs k w := ckm h 5 rfl hv hk
theorem st5_ {s0 s1 s2 s3 s4 : Seg} {b o T : Nat} {cs vs : List Value} {k : PT} (h : St w0 (s0 :: s1 :: s2 :: s3 :: s4 :: [Cl b T cs] :: E) w) (hh : hasN cs o vs = true) (h1 : oneAll vs = true) (hk : ∀ w', St w0 (s0 :: s1 :: s2 :: s3 :: s4 :: [Cl b T (putN cs o vs)] :: E) w' → k w') : L.store ⟨b, o, none⟩ vs k w := stx vs h 5 rfl hh h1 hk
theorem um5_ {s0 s1 s2 s3 s4 : Seg} {d : Nat} {ds : List Nat} {k : PT} (h : St w0 (s0 :: s1 :: s2 :: s3 :: s4 :: [DfM d] :: E) w) (hk : ∀ w', St w0 (s0 :: s1 :: s2 :: s3 :: s4 :: E) w' → L.unmark P ds k w') : L.unmark P (d :: ds) k w := um h 5 rfl fun w' h => hk w' (h.del 5 rfl)
theorem fr5_ {s0 s1 s2 s3 s4 : Seg} {s : Seg} (h : St w0 (s0 :: s1 :: s2 :: s3 :: s4 :: s :: E) w) : St w0 (s :: s0 :: s1 :: s2 :: s3 :: s4 :: E) w := h.front 5 rfl
theorem dl5_ {s0 s1 s2 s3 s4 : Seg} {s : Seg} (h : St w0 (s0 :: s1 :: s2 :: s3 :: s4 :: s :: E) w) : St w0 (s0 :: s1 :: s2 :: s3 :: s4 :: E) w := h.del 5 rfl
theorem ld6_ {s0 s1 s2 s3 s4 s5 : Seg} {l : Lf} {b o T : Nat} {cs : List Value} {k : l.T → PT} {v : Value} {x : l.T} (h : St w0 (s0 :: s1 :: s2 :: s3 :: s4 :: s5 :: [Cl b T cs] :: E) w) (hv : nth cs o = some v) (hx : un2 l v = some x) (hk : k x w) : L.load (.one l) ⟨b, o, none⟩ k w := ldx h 6 rfl hv hx hk
theorem la6_ {s0 s1 s2 s3 s4 s5 : Seg} {ls : List Lf} {b o T : Nat} {cs : List Value} {k : HT ls → PT} {x : HT ls} (h : St w0 (s0 :: s1 :: s2 :: s3 :: s4 :: s5 :: [Cl b T cs] :: E) w) (hx : un2s ls (behN cs o) = some x) (hk : k x w) : L.load (.agg ls) ⟨b, o, none⟩ k w := lax h 6 rfl hx hk
theorem ck6_ {s0 s1 s2 s3 s4 s5 : Seg} {b o T : Nat} {cs vs : List Value} {k : PT} (h : St w0 (s0 :: s1 :: s2 :: s3 :: s4 :: s5 :: [Cl b T cs] :: E) w) (hv : preN vs (behN cs o) = vs) (hk : k w) : L.chk ⟨b, o, none⟩ vs k w := ckm h 6 rfl hv hk
theorem st6_ {s0 s1 s2 s3 s4 s5 : Seg} {b o T : Nat} {cs vs : List Value} {k : PT} (h : St w0 (s0 :: s1 :: s2 :: s3 :: s4 :: s5 :: [Cl b T cs] :: E) w) (hh : hasN cs o vs = true) (h1 : oneAll vs = true) (hk : ∀ w', St w0 (s0 :: s1 :: s2 :: s3 :: s4 :: s5 :: [Cl b T (putN cs o vs)] :: E) w' → k w') : L.store ⟨b, o, none⟩ vs k w := stx vs h 6 rfl hh h1 hk
theorem um6_ {s0 s1 s2 s3 s4 s5 : Seg} {d : Nat} {ds : List Nat} {k : PT} (h : St w0 (s0 :: s1 :: s2 :: s3 :: s4 :: s5 :: [DfM d] :: E) w) (hk : ∀ w', St w0 (s0 :: s1 :: s2 :: s3 :: s4 :: s5 :: E) w' → L.unmark P ds k w') : L.unmark P (d :: ds) k w := um h 6 rfl fun w' h => hk w' (h.del 6 rfl)
theorem fr6_ {s0 s1 s2 s3 s4 s5 : Seg} {s : Seg} (h : St w0 (s0 :: s1 :: s2 :: s3 :: s4 :: s5 :: s :: E) w) : St w0 (s :: s0 :: s1 :: s2 :: s3 :: s4 :: s5 :: E) w := h.front 6 rfl
theorem dl6_ {s0 s1 s2 s3 s4 s5 : Seg} {s : Seg} (h : St w0 (s0 :: s1 :: s2 :: s3 :: s4 :: s5 :: s :: E) w) : St w0 (s0 :: s1 :: s2 :: s3 :: s4 :: s5 :: E) w := h.del 6 rfl
theorem ld7_ {s0 s1 s2 s3 s4 s5 s6 : Seg} {l : Lf} {b o T : Nat} {cs : List Value} {k : l.T → PT} {v : Value} {x : l.T} (h : St w0 (s0 :: s1 :: s2 :: s3 :: s4 :: s5 :: s6 :: [Cl b T cs] :: E) w) (hv : nth cs o = some v) (hx : un2 l v = some x) (hk : k x w) : L.load (.one l) ⟨b, o, none⟩ k w := ldx h 7 rfl hv hx hk
theorem la7_ {s0 s1 s2 s3 s4 s5 s6 : Seg} {ls : List Lf} {b o T : Nat} {cs : List Value} {k : HT ls → PT} {x : HT ls} (h : St w0 (s0 :: s1 :: s2 :: s3 :: s4 :: s5 :: s6 :: [Cl b T cs] :: E) w) (hx : un2s ls (behN cs o) = some x) (hk : k x w) : L.load (.agg ls) ⟨b, o, none⟩ k w := lax h 7 rfl hx hk
theorem ck7_ {s0 s1 s2 s3 s4 s5 s6 : Seg} {b o T : Nat} {cs vs : List Value} {k : PT} (h : St w0 (s0 :: s1 :: s2 :: s3 :: s4 :: s5 :: s6 :: [Cl b T cs] :: E) w) (hv : preN vs (behN cs o) = vs) (hk : k w) : L.chk ⟨b, o, none⟩ vs k w := ckm h 7 rfl hv hk
theorem st7_ {s0 s1 s2 s3 s4 s5 s6 : Seg} {b o T : Nat} {cs vs : List Value} {k : PT} (h : St w0 (s0 :: s1 :: s2 :: s3 :: s4 :: s5 :: s6 :: [Cl b T cs] :: E) w) (hh : hasN cs o vs = true) (h1 : oneAll vs = true) (hk : ∀ w', St w0 (s0 :: s1 :: s2 :: s3 :: s4 :: s5 :: s6 :: [Cl b T (putN cs o vs)] :: E) w' → k w') : L.store ⟨b, o, none⟩ vs k w := stx vs h 7 rfl hh h1 hk
theorem um7_ {s0 s1 s2 s3 s4 s5 s6 : Seg} {d : Nat} {ds : List Nat} {k : PT} (h : St w0 (s0 :: s1 :: s2 :: s3 :: s4 :: s5 :: s6 :: [DfM d] :: E) w) (hk : ∀ w', St w0 (s0 :: s1 :: s2 :: s3 :: s4 :: s5 :: s6 :: E) w' → L.unmark P ds k w') : L.unmark P (d :: ds) k w := um h 7 rfl fun w' h => hk w' (h.del 7 rfl)
theorem fr7_ {s0 s1 s2 s3 s4 s5 s6 : Seg} {s : Seg} (h : St w0 (s0 :: s1 :: s2 :: s3 :: s4 :: s5 :: s6 :: s :: E) w) : St w0 (s :: s0 :: s1 :: s2 :: s3 :: s4 :: s5 :: s6 :: E) w := h.front 7 rfl
theorem dl7_ {s0 s1 s2 s3 s4 s5 s6 : Seg} {s : Seg} (h : St w0 (s0 :: s1 :: s2 :: s3 :: s4 :: s5 :: s6 :: s :: E) w) : St w0 (s0 :: s1 :: s2 :: s3 :: s4 :: s5 :: s6 :: E) w := h.del 7 rfl
theorem ld8_ {s0 s1 s2 s3 s4 s5 s6 s7 : Seg} {l : Lf} {b o T : Nat} {cs : List Value} {k : l.T → PT} {v : Value} {x : l.T} (h : St w0 (s0 :: s1 :: s2 :: s3 :: s4 :: s5 :: s6 :: s7 :: [Cl b T cs] :: E) w) (hv : nth cs o = some v) (hx : un2 l v = some x) (hk : k x w) : L.load (.one l) ⟨b, o, none⟩ k w := ldx h 8 rfl hv hx hk
theorem la8_ {s0 s1 s2 s3 s4 s5 s6 s7 : Seg} {ls : List Lf} {b o T : Nat} {cs : List Value} {k : HT ls → PT} {x : HT ls} (h : St w0 (s0 :: s1 :: s2 :: s3 :: s4 :: s5 :: s6 :: s7 :: [Cl b T cs] :: E) w) (hx : un2s ls (behN cs o) = some x) (hk : k x w) : L.load (.agg ls) ⟨b, o, none⟩ k w := lax h 8 rfl hx hk
theorem ck8_ {s0 s1 s2 s3 s4 s5 s6 s7 : Seg} {b o T : Nat} {cs vs : List Value} {k : PT} (h : St w0 (s0 :: s1 :: s2 :: s3 :: s4 :: s5 :: s6 :: s7 :: [Cl b T cs] :: E) w) (hv : preN vs (behN cs o) = vs) (hk : k w) : L.chk ⟨b, o, none⟩ vs k w := ckm h 8 rfl hv hk
theorem st8_ {s0 s1 s2 s3 s4 s5 s6 s7 : Seg} {b o T : Nat} {cs vs : List Value} {k : PT} (h : St w0 (s0 :: s1 :: s2 :: s3 :: s4 :: s5 :: s6 :: s7 :: [Cl b T cs] :: E) w) (hh : hasN cs o vs = true) (h1 : oneAll vs = true) (hk : ∀ w', St w0 (s0 :: s1 :: s2 :: s3 :: s4 :: s5 :: s6 :: s7 :: [Cl b T (putN cs o vs)] :: E) w' → k w') : L.store ⟨b, o, none⟩ vs k w := stx vs h 8 rfl hh h1 hk
theorem um8_ {s0 s1 s2 s3 s4 s5 s6 s7 : Seg} {d : Nat} {ds : List Nat} {k : PT} (h : St w0 (s0 :: s1 :: s2 :: s3 :: s4 :: s5 :: s6 :: s7 :: [DfM d] :: E) w) (hk : ∀ w', St w0 (s0 :: s1 :: s2 :: s3 :: s4 :: s5 :: s6 :: s7 :: E) w' → L.unmark P ds k w') : L.unmark P (d :: ds) k w := um h 8 rfl fun w' h => hk w' (h.del 8 rfl)
theorem fr8_ {s0 s1 s2 s3 s4 s5 s6 s7 : Seg} {s : Seg} (h : St w0 (s0 :: s1 :: s2 :: s3 :: s4 :: s5 :: s6 :: s7 :: s :: E) w) : St w0 (s :: s0 :: s1 :: s2 :: s3 :: s4 :: s5 :: s6 :: s7 :: E) w := h.front 8 rfl
theorem dl8_ {s0 s1 s2 s3 s4 s5 s6 s7 : Seg} {s : Seg} (h : St w0 (s0 :: s1 :: s2 :: s3 :: s4 :: s5 :: s6 :: s7 :: s :: E) w) : St w0 (s0 :: s1 :: s2 :: s3 :: s4 :: s5 :: s6 :: s7 :: E) w := h.del 8 rfl
theorem ld9_ {s0 s1 s2 s3 s4 s5 s6 s7 s8 : Seg} {l : Lf} {b o T : Nat} {cs : List Value} {k : l.T → PT} {v : Value} {x : l.T} (h : St w0 (s0 :: s1 :: s2 :: s3 :: s4 :: s5 :: s6 :: s7 :: s8 :: [Cl b T cs] :: E) w) (hv : nth cs o = some v) (hx : un2 l v = some x) (hk : k x w) : L.load (.one l) ⟨b, o, none⟩ k w := ldx h 9 rfl hv hx hk
theorem la9_ {s0 s1 s2 s3 s4 s5 s6 s7 s8 : Seg} {ls : List Lf} {b o T : Nat} {cs : List Value} {k : HT ls → PT} {x : HT ls} (h : St w0 (s0 :: s1 :: s2 :: s3 :: s4 :: s5 :: s6 :: s7 :: s8 :: [Cl b T cs] :: E) w) (hx : un2s ls (behN cs o) = some x) (hk : k x w) : L.load (.agg ls) ⟨b, o, none⟩ k w := lax h 9 rfl hx hk
theorem ck9_ {s0 s1 s2 s3 s4 s5 s6 s7 s8 : Seg} {b o T : Nat} {cs vs : List Value} {k : PT} (h : St w0 (s0 :: s1 :: s2 :: s3 :: s4 :: s5 :: s6 :: s7 :: s8 :: [Cl b T cs] :: E) w) (hv : preN vs (behN cs o) = vs) (hk : k w) : L.chk ⟨b, o, none⟩ vs k w := ckm h 9 rfl hv hk
theorem st9_ {s0 s1 s2 s3 s4 s5 s6 s7 s8 : Seg} {b o T : Nat} {cs vs : List Value} {k : PT} (h : St w0 (s0 :: s1 :: s2 :: s3 :: s4 :: s5 :: s6 :: s7 :: s8 :: [Cl b T cs] :: E) w) (hh : hasN cs o vs = true) (h1 : oneAll vs = true) (hk : ∀ w', St w0 (s0 :: s1 :: s2 :: s3 :: s4 :: s5 :: s6 :: s7 :: s8 :: [Cl b T (putN cs o vs)] :: E) w' → k w') : L.store ⟨b, o, none⟩ vs k w := stx vs h 9 rfl hh h1 hk
theorem um9_ {s0 s1 s2 s3 s4 s5 s6 s7 s8 : Seg} {d : Nat} {ds : List Nat} {k : PT} (h : St w0 (s0 :: s1 :: s2 :: s3 :: s4 :: s5 :: s6 :: s7 :: s8 :: [DfM d] :: E) w) (hk : ∀ w', St w0 (s0 :: s1 :: s2 :: s3 :: s4 :: s5 :: s6 :: s7 :: s8 :: E) w' → L.unmark P ds k w') : L.unmark P (d :: ds) k w := um h 9 rfl fun w' h => hk w' (h.del 9 rfl)
theorem fr9_ {s0 s1 s2 s3 s4 s5 s6 s7 s8 : Seg} {s : Seg} (h : St w0 (s0 :: s1 :: s2 :: s3 :: s4 :: s5 :: s6 :: s7 :: s8 :: s :: E) w) : St w0 (s :: s0 :: s1 :: s2 :: s3 :: s4 :: s5 :: s6 :: s7 :: s8 :: E) w := h.front 9 rfl
theorem dl9_ {s0 s1 s2 s3 s4 s5 s6 s7 s8 : Seg} {s : Seg} (h : St w0 (s0 :: s1 :: s2 :: s3 :: s4 :: s5 :: s6 :: s7 :: s8 :: s :: E) w) : St w0 (s0 :: s1 :: s2 :: s3 :: s4 :: s5 :: s6 :: s7 :: s8 :: E) w := h.del 9 rfl
theorem ld10_ {s0 s1 s2 s3 s4 s5 s6 s7 s8 s9 : Seg} {l : Lf} {b o T : Nat} {cs : List Value} {k : l.T → PT} {v : Value} {x : l.T} (h : St w0 (s0 :: s1 :: s2 :: s3 :: s4 :: s5 :: s6 :: s7 :: s8 :: s9 :: [Cl b T cs] :: E) w) (hv : nth cs o = some v) (hx : un2 l v = some x) (hk : k x w) : L.load (.one l) ⟨b, o, none⟩ k w := ldx h 10 rfl hv hx hk
theorem la10_ {s0 s1 s2 s3 s4 s5 s6 s7 s8 s9 : Seg} {ls : List Lf} {b o T : Nat} {cs : List Value} {k : HT ls → PT} {x : HT ls} (h : St w0 (s0 :: s1 :: s2 :: s3 :: s4 :: s5 :: s6 :: s7 :: s8 :: s9 :: [Cl b T cs] :: E) w) (hx : un2s ls (behN cs o) = some x) (hk : k x w) : L.load (.agg ls) ⟨b, o, none⟩ k w := lax h 10 rfl hx hk
theorem ck10_ {s0 s1 s2 s3 s4 s5 s6 s7 s8 s9 : Seg} {b o T : Nat} {cs vs : List Value} {k : PT} (h : St w0 (s0 :: s1 :: s2 :: s3 :: s4 :: s5 :: s6 :: s7 :: s8 :: s9 :: [Cl b T cs] :: E) w) (hv : preN vs (behN cs o) = vs) (hk : k w) : L.chk ⟨b, o, none⟩ vs k w := ckm h 10 rfl hv hk
theorem st10_ {s0 s1 s2 s3 s4 s5 s6 s7 s8 s9 : Seg} {b o T : Nat} {cs vs : List Value} {k : PT} (h : St w0 (s0 :: s1 :: s2 :: s3 :: s4 :: s5 :: s6 :: s7 :: s8 :: s9 :: [Cl b T cs] :: E) w) (hh : hasN cs o vs = true) (h1 : oneAll vs = true) (hk : ∀ w', St w0 (s0 :: s1 :: s2 :: s3 :: s4 :: s5 :: s6 :: s7 :: s8 :: s9 :: [Cl b T (putN cs o vs)] :: E) w' → k w') : L.store ⟨b, o, none⟩ vs k w := stx vs h 10 rfl hh h1 hk
theorem um10_ {s0 s1 s2 s3 s4 s5 s6 s7 s8 s9 : Seg} {d : Nat} {ds : List Nat} {k : PT} (h : St w0 (s0 :: s1 :: s2 :: s3 :: s4 :: s5 :: s6 :: s7 :: s8 :: s9 :: [DfM d] :: E) w) (hk : ∀ w', St w0 (s0 :: s1 :: s2 :: s3 :: s4 :: s5 :: s6 :: s7 :: s8 :: s9 :: E) w' → L.unmark P ds k w') : L.unmark P (d :: ds) k w := um h 10 rfl fun w' h => hk w' (h.del 10 rfl)
theorem fr10_ {s0 s1 s2 s3 s4 s5 s6 s7 s8 s9 : Seg} {s : Seg} (h : St w0 (s0 :: s1 :: s2 :: s3 :: s4 :: s5 :: s6 :: s7 :: s8 :: s9 :: s :: E) w) : St w0 (s :: s0 :: s1 :: s2 :: s3 :: s4 :: s5 :: s6 :: s7 :: s8 :: s9 :: E) w := h.front 10 rfl
theorem dl10_ {s0 s1 s2 s3 s4 s5 s6 s7 s8 s9 : Seg} {s : Seg} (h : St w0 (s0 :: s1 :: s2 :: s3 :: s4 :: s5 :: s6 :: s7 :: s8 :: s9 :: s :: E) w) : St w0 (s0 :: s1 :: s2 :: s3 :: s4 :: s5 :: s6 :: s7 :: s8 :: s9 :: E) w := h.del 10 rfl
theorem ld11_ {s0 s1 s2 s3 s4 s5 s6 s7 s8 s9 s10 : Seg} {l : Lf} {b o T : Nat} {cs : List Value} {k : l.T → PT} {v : Value} {x : l.T} (h : St w0 (s0 :: s1 :: s2 :: s3 :: s4 :: s5 :: s6 :: s7 :: s8 :: s9 :: s10 :: [Cl b T cs] :: E) w) (hv : nth cs o = some v) (hx : un2 l v = some x) (hk : k x w) : L.load (.one l) ⟨b, o, none⟩ k w := ldx h 11 rfl hv hx hk
theorem la11_ {s0 s1 s2 s3 s4 s5 s6 s7 s8 s9 s10 : Seg} {ls : List Lf} {b o T : Nat} {cs : List Value} {k : HT ls → PT} {x : HT ls} (h : St w0 (s0 :: s1 :: s2 :: s3 :: s4 :: s5 :: s6 :: s7 :: s8 :: s9 :: s10 :: [Cl b T cs] :: E) w) (hx : un2s ls (behN cs o) = some x) (hk : k x w) : L.load (.agg ls) ⟨b, o, none⟩ k w := lax h 11 rfl hx hk
theorem ck11_ {s0 s1 s2 s3 s4 s5 s6 s7 s8 s9 s10 : Seg} {b o T : Nat} {cs vs : List Value} {k : PT} (h : St w0 (s0 :: s1 :: s2 :: s3 :: s4 :: s5 :: s6 :: s7 :: s8 :: s9 :: s10 :: [Cl b T cs] :: E) w) (hv : preN vs (behN cs o) = vs) (hk : k w) : L.chk ⟨b, o, none⟩ vs k w := ckm h 11 rfl hv hk
theorem st11_ {s0 s1 s2 s3 s4 s5 s6 s7 s8 s9 s10 : Seg} {b o T : Nat} {cs vs : List Value} {k : PT} (h : St w0 (s0 :: s1 :: s2 :: s3 :: s4 :: s5 :: s6 :: s7 :: s8 :: s9 :: s10 :: [Cl b T cs] :: E) w) (hh : hasN cs o vs = true) (h1 : oneAll vs = true) (hk : ∀ w', St w0 (s0 :: s1 :: s2 :: s3 :: s4 :: s5 :: s6 :: s7 :: s8 :: s9 :: s10 :: [Cl b T (putN cs o vs)] :: E) w' → k w') : L.store ⟨b, o, none⟩ vs k w := stx vs h 11 rfl hh h1 hk
theorem um11_ {s0 s1 s2 s3 s4 s5 s6 s7 s8 s9 s10 : Seg} {d : Nat} {ds : List Nat} {k : PT} (h : St w0 (s0 :: s1 :: s2 :: s3 :: s4 :: s5 :: s6 :: s7 :: s8 :: s9 :: s10 :: [DfM d] :: E) w) (hk : ∀ w', St w0 (s0 :: s1 :: s2 :: s3 :: s4 :: s5 :: s6 :: s7 :: s8 :: s9 :: s10 :: E) w' → L.unmark P ds k w') : L.unmark P (d :: ds) k w := um h 11 rfl fun w' h => hk w' (h.del 11 rfl)
theorem fr11_ {s0 s1 s2 s3 s4 s5 s6 s7 s8 s9 s10 : Seg} {s : Seg} (h : St w0 (s0 :: s1 :: s2 :: s3 :: s4 :: s5 :: s6 :: s7 :: s8 :: s9 :: s10 :: s :: E) w) : St w0 (s :: s0 :: s1 :: s2 :: s3 :: s4 :: s5 :: s6 :: s7 :: s8 :: s9 :: s10 :: E) w := h.front 11 rfl
theorem dl11_ {s0 s1 s2 s3 s4 s5 s6 s7 s8 s9 s10 : Seg} {s : Seg} (h : St w0 (s0 :: s1 :: s2 :: s3 :: s4 :: s5 :: s6 :: s7 :: s8 :: s9 :: s10 :: s :: E) w) : St w0 (s0 :: s1 :: s2 :: s3 :: s4 :: s5 :: s6 :: s7 :: s8 :: s9 :: s10 :: E) w := h.del 11 rfl
theorem ld12_ {s0 s1 s2 s3 s4 s5 s6 s7 s8 s9 s10 s11 : Seg} {l : Lf} {b o T : Nat} {cs : List Value} {k : l.T → PT} {v : Value} {x : l.T} (h : St w0 (s0 :: s1 :: s2 :: s3 :: s4 :: s5 :: s6 :: s7 :: s8 :: s9 :: s10 :: s11 :: [Cl b T cs] :: E) w) (hv : nth cs o = some v) (hx : un2 l v = some x) (hk : k x w) : L.load (.one l) ⟨b, o, none⟩ k w := ldx h 12 rfl hv hx hk
theorem la12_ {s0 s1 s2 s3 s4 s5 s6 s7 s8 s9 s10 s11 : Seg} {ls : List Lf} {b o T : Nat} {cs : List Value} {k : HT ls → PT} {x : HT ls} (h : St w0 (s0 :: s1 :: s2 :: s3 :: s4 :: s5 :: s6 :: s7 :: s8 :: s9 :: s10 :: s11 :: [Cl b T cs] :: E) w) (hx : un2s ls (behN cs o) = some x) (hk : k x w) : L.load (.agg ls) ⟨b, o, none⟩ k w := lax h 12 rfl hx hk
theorem ck12_ {s0 s1 s2 s3 s4 s5 s6 s7 s8 s9 s10 s11 : Seg} {b o T : Nat} {cs vs : List Value} {k : PT} (h : St w0 (s0 :: s1 :: s2 :: s3 :: s4 :: s5 :: s6 :: s7 :: s8 :: s9 :: s10 :: s11 :: [Cl b T cs] :: E) w) (hv : preN vs (behN cs o) = vs) (hk : k w) : L.chk ⟨b, o, none⟩ vs k w := ckm h 12 rfl hv hk
theorem st12_ {s0 s1 s2 s3 s4 s5 s6 s7 s8 s9 s10 s11 : Seg} {b o T : Nat} {cs vs : List Value} {k : PT} (h : St w0 (s0 :: s1 :: s2 :: s3 :: s4 :: s5 :: s6 :: s7 :: s8 :: s9 :: s10 :: s11 :: [Cl b T cs] :: E) w) (hh : hasN cs o vs = true) (h1 : oneAll vs = true) (hk : ∀ w', St w0 (s0 :: s1 :: s2 :: s3 :: s4 :: s5 :: s6 :: s7 :: s8 :: s9 :: s10 :: s11 :: [Cl b T (putN cs o vs)] :: E) w' → k w') : L.store ⟨b, o, none⟩ vs k w := stx vs h 12 rfl hh h1 hk
theorem um12_ {s0 s1 s2 s3 s4 s5 s6 s7 s8 s9 s10 s11 : Seg} {d : Nat} {ds : List Nat} {k : PT} (h : St w0 (s0 :: s1 :: s2 :: s3 :: s4 :: s5 :: s6 :: s7 :: s8 :: s9 :: s10 :: s11 :: [DfM d] :: E) w) (hk : ∀ w', St w0 (s0 :: s1 :: s2 :: s3 :: s4 :: s5 :: s6 :: s7 :: s8 :: s9 :: s10 :: s11 :: E) w' → L.unmark P ds k w') : L.unmark P (d :: ds) k w := um h 12 rfl fun w' h => hk w' (h.del 12 rfl)
theorem fr12_ {s0 s1 s2 s3 s4 s5 s6 s7 s8 s9 s10 s11 : Seg} {s : Seg} (h : St w0 (s0 :: s1 :: s2 :: s3 :: s4 :: s5 :: s6 :: s7 :: s8 :: s9 :: s10 :: s11 :: s :: E) w) : St w0 (s :: s0 :: s1 :: s2 :: s3 :: s4 :: s5 :: s6 :: s7 :: s8 :: s9 :: s10 :: s11 :: E) w := h.front 12 rfl
theorem dl12_ {s0 s1 s2 s3 s4 s5 s6 s7 s8 s9 s10 s11 : Seg} {s : Seg} (h : St w0 (s0 :: s1 :: s2 :: s3 :: s4 :: s5 :: s6 :: s7 :: s8 :: s9 :: s10 :: s11 :: s :: E) w) : St w0 (s0 :: s1 :: s2 :: s3 :: s4 :: s5 :: s6 :: s7 :: s8 :: s9 :: s10 :: s11 :: E) w := h.del 12 rfl
theorem ld13_ {s0 s1 s2 s3 s4 s5 s6 s7 s8 s9 s10 s11 s12 : Seg} {l : Lf} {b o T : Nat} {cs : List Value} {k : l.T → PT} {v : Value} {x : l.T} (h : St w0 (s0 :: s1 :: s2 :: s3 :: s4 :: s5 :: s6 :: s7 :: s8 :: s9 :: s10 :: s11 :: s12 :: [Cl b T cs] :: E) w) (hv : nth cs o = some v) (hx : un2 l v = some x) (hk : k x w) : L.load (.one l) ⟨b, o, none⟩ k w := ldx h 13 rfl hv hx hk
theorem la13_ {s0 s1 s2 s3 s4 s5 s6 s7 s8 s9 s10 s11 s12 : Seg} {ls : List Lf} {b o T : Nat} {cs : List Value} {k : HT ls → PT} {x : HT ls} (h : St w0 (s0 :: s1 :: s2 :: s3 :: s4 :: s5 :: s6 :: s7 :: s8 :: s9 :: s10 :: s11 :: s12 :: [Cl b T cs] :: E) w) (hx : un2s ls (behN cs o) = some x) (hk : k x w) : L.load (.agg ls) ⟨b, o, none⟩ k w := lax h 13 rfl hx hk
theorem ck13_ {s0 s1 s2 s3 s4 s5 s6 s7 s8 s9 s10 s11 s12 : Seg} {b o T : Nat} {cs vs : List Value} {k : PT} (h : St w0 (s0 :: s1 :: s2 :: s3 :: s4 :: s5 :: s6 :: s7 :: s8 :: s9 :: s10 :: s11 :: s12 :: [Cl b T cs] :: E) w) (hv : preN vs (behN cs o) = vs) (hk : k w) : L.chk ⟨b, o, none⟩ vs k w := ckm h 13 rfl hv hk
theorem st13_ {s0 s1 s2 s3 s4 s5 s6 s7 s8 s9 s10 s11 s12 : Seg} {b o T : Nat} {cs vs : List Value} {k : PT} (h : St w0 (s0 :: s1 :: s2 :: s3 :: s4 :: s5 :: s6 :: s7 :: s8 :: s9 :: s10 :: s11 :: s12 :: [Cl b T cs] :: E) w) (hh : hasN cs o vs = true) (h1 : oneAll vs = true) (hk : ∀ w', St w0 (s0 :: s1 :: s2 :: s3 :: s4 :: s5 :: s6 :: s7 :: s8 :: s9 :: s10 :: s11 :: s12 :: [Cl b T (putN cs o vs)] :: E) w' → k w') : L.store ⟨b, o, none⟩ vs k w := stx vs h 13 rfl hh h1 hk
theorem um13_ {s0 s1 s2 s3 s4 s5 s6 s7 s8 s9 s10 s11 s12 : Seg} {d : Nat} {ds : List Nat} {k : PT} (h : St w0 (s0 :: s1 :: s2 :: s3 :: s4 :: s5 :: s6 :: s7 :: s8 :: s9 :: s10 :: s11 :: s12 :: [DfM d] :: E) w) (hk : ∀ w', St w0 (s0 :: s1 :: s2 :: s3 :: s4 :: s5 :: s6 :: s7 :: s8 :: s9 :: s10 :: s11 :: s12 :: E) w' → L.unmark P ds k w') : L.unmark P (d :: ds) k w := um h 13 rfl fun w' h => hk w' (h.del 13 rfl)
theorem fr13_ {s0 s1 s2 s3 s4 s5 s6 s7 s8 s9 s10 s11 s12 : Seg} {s : Seg} (h : St w0 (s0 :: s1 :: s2 :: s3 :: s4 :: s5 :: s6 :: s7 :: s8 :: s9 :: s10 :: s11 :: s12 :: s :: E) w) : St w0 (s :: s0 :: s1 :: s2 :: s3 :: s4 :: s5 :: s6 :: s7 :: s8 :: s9 :: s10 :: s11 :: s12 :: E) w := h.front 13 rfl
theorem dl13_ {s0 s1 s2 s3 s4 s5 s6 s7 s8 s9 s10 s11 s12 : Seg} {s : Seg} (h : St w0 (s0 :: s1 :: s2 :: s3 :: s4 :: s5 :: s6 :: s7 :: s8 :: s9 :: s10 :: s11 :: s12 :: s :: E) w) : St w0 (s0 :: s1 :: s2 :: s3 :: s4 :: s5 :: s6 :: s7 :: s8 :: s9 :: s10 :: s11 :: s12 :: E) w := h.del 13 rfl
end
end Go.Dm
