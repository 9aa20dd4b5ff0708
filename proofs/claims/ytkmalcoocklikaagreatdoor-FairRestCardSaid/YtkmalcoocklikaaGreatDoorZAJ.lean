/- What is proved on the way to a statement of the seat, pressed (text AJ). No conditions beyond those its theorems state. -/
import Derived.Test.YtkmalcoocklikaaGreatDoorZAI
set_option linter.all false
namespace Go.Proofs.YtkmalcoocklikaaGreatDoor
open Go.Dm
attribute [local irreducible] L.load L.store L.chk L.new L.nonnil L.guard L.ite L.draw L.idx L.sem L.semR L.semU L.chkSem L.next L.call L.callV L.join L.alts L.loop L.begin L.endRound L.range
variable {w0 w : World} {E : List Seg}
structure Cut (p q h : Nat) (A B : List (Int × Int)) (c : Nat) : Prop where
 c1 : c ≤ p
 c2 : c ≤ h
 c3 : h - c ≤ q
 lo : ∀ x ∈ A.take c, ∀ y ∈ B.drop (h - c), x.1 ≤ y.1
 hi : ∀ y ∈ B.take (h - c), ∀ x ∈ A.drop c, y.1 < x.1
theorem zmO {p q h c c0 d0 : Nat} {A B : List (Int × Int)} (hp : p = A.length) (hq : q = B.length) (hh : h = (p + q) / 2) (sA : Ls A) (sB : Ls B) (h0 : (p ≤ h ∧ c0 = 0 ∧ d0 = p) ∨ (h < p ∧ c0 + q = h ∧ d0 = h)) (hc0 : c0 ≤ c) (hc1 : c ≤ d0)
  (hT : ∀ e x y, c0 ≤ e → e < c → A[e]? = some x → B[h - 1 - e]? = some y → ¬ y.1 < x.1) (hF : ∀ e x y, c ≤ e → e < d0 → A[e]? = some x → B[h - 1 - e]? = some y → y.1 < x.1) : Cut p q h A B c := by
 subst hp hq
 refine ⟨by omega, by omega, by omega, fun x hx y hy => ?_, fun y hy x hx => ?_⟩
 ·obtain ⟨i, hi, hx⟩ := zgu hx
  obtain ⟨j, hj, hy⟩ := zgv hy
  have hil := (List.getElem?_eq_some_iff.1 hx).1
  have hjl := (List.getElem?_eq_some_iff.1 hy).1
  have hcc : c0 < c := by omega
  have a1 : A[c - 1]? = some A[c - 1] := List.getElem?_eq_getElem (by omega)
  have b1 : B[h - 1 - (c - 1)]? = some B[h - 1 - (c - 1)] := List.getElem?_eq_getElem (by omega)
  have q1 := hT (c - 1) _ _ (by omega) (by omega) a1 b1
  have q2 := zbi sA (by omega) hx a1
  have q3 := zbi sB (by omega) b1 hy
  omega
 ·obtain ⟨i, hi, hx⟩ := zgv hx
  obtain ⟨j, hj, hy⟩ := zgu hy
  have hil := (List.getElem?_eq_some_iff.1 hx).1
  have hjl := (List.getElem?_eq_some_iff.1 hy).1
  have hcc : c < d0 := by omega
  have a1 : A[c]? = some A[c] := List.getElem?_eq_getElem (by omega)
  have b1 : B[h - 1 - c]? = some B[h - 1 - c] := List.getElem?_eq_getElem (by omega)
  have q1 := hF c _ _ (by omega) hcc a1 b1
  have q2 := zbi sA (by omega) a1 hx
  have q3 := zbi sB (by omega) hy b1
  omega
abbrev bdC (x : Int × Int) : Prop := -4611686018427387904 < x.1 ∧ x.1 < 4611686018427387904
theorem zmZ : ∀ (N : Nat) {w : World} {E : List Seg} (_ : St w0 E w) (i : Nat) {s : Seg} (_ : nth E i = some s) {v : Sl} {P A B R : List (Int × Int)} (_ : Rw eC z04 2 v (P ++ (A ++ (B ++ R))) s) (_ : (P ++ (A ++ (B ++ R))).length < 1000000000) (_ : A.length + B.length ≤ N) (_ : A ≠ []) (_ : B ≠ [])
  (_ : Ls A) (_ : Ls B) (_ : ∀ x ∈ A, ∀ y ∈ B, x.2 < y.2) (_ : ∀ x ∈ A, bdC x) (_ : ∀ x ∈ B, bdC x) {a m b : Int} (_ : a = P.length) (_ : m = P.length + A.length) (_ : b = P.length + (A.length + B.length))
  {k : Unit → PT} (_ : ∀ S s' w', Ls S → S.Perm (A ++ B) → Rw eC z04 2 v (P ++ (S ++ R)) s' → St w0 (setN E i s') w' → k () w'),
  L.call Pr z09 [.slice v.a v.len v.cap, I a, I m, I b, cmpV] (.tup []) k w := by
 intro N
 induction N with
 | zero =>
  intro w E h i s hi v P A B R hr hn hN hA hB
  have := List.length_pos_iff.2 hA
  omega
 | succ N ih =>
 intro w E h i s hi v P A B R hr hn hN hA hB sA sB hAB bA bB a m b ha hm hbb k hk
 have hA1 := List.length_pos_iff.2 hA
 have hB1 := List.length_pos_iff.2 hB
 by_cases cA : A.length = 1
 ·obtain ⟨x, rfl⟩ : ∃ x, A = [x] := List.length_eq_one_iff.1 cA
  exact zmY (P := P) (x := x) (B := B) (R := R) h i hi hr hn sB (hAB x (by simp)) (bA x (by simp)) bB ha (by simpa using hm) (by simpa using hbb) hk
 by_cases cB : B.length = 1
 ·obtain ⟨y, rfl⟩ : ∃ y, B = [y] := List.length_eq_one_iff.1 cB
  exact zmX h i hi hr hn cA sA (fun x hx => hAB x hx y (by simp)) (bB y (by simp)) bA ha hm (by simpa using hbb) hk
 subst ha hm hbb
 refine z00 (z1a _ _ _ _ ⟨.func z0q, #[], #[]⟩) ?_
 unfold z0K
 simp only [List.length_append] at hn
 rw [wr (n := (P.length : Int) + A.length - P.length) (by omega) (by omega), wr (n := (P.length : Int) + (A.length + B.length) - (P.length + A.length)) (by omega) (by omega)]
 refine itF (by simp; omega) ?_
 refine itF (by simp; omega) ?_
 refine gd (by decide) ?_
 obtain ⟨hh, hhe⟩ : ∃ hh, hh = (A.length + B.length) / 2 := ⟨_, rfl⟩
 have he : ((P.length : Int) + ((P.length : Int) + (A.length + B.length))) / 2 = (P.length : Int) + (hh : Int) := by omega
 rw [half (a := (P.length : Int)) (b := (P.length : Int) + (A.length + B.length)) (by omega) (by omega) (by omega), he]
 refine z1k (fun z w' => (∃ c0 d0 : Nat, z = ((P.length : Int) + c0, (P.length : Int) + d0, ()) ∧ c0 ≤ d0 ∧ ((A.length ≤ hh ∧ c0 = 0 ∧ d0 = A.length) ∨ (hh < A.length ∧ c0 + B.length = hh ∧ d0 = hh))) ∧ w' = w) (fun k' hk' => ?_) ?_
 ·refine it (fun hc => ?_) (fun hc => ?_) <;> (try simp only [zB] at hc)
  ·refine hk' _ _ ⟨⟨hh - B.length, hh, ?_, by omega, .inr ⟨by omega, by omega, rfl⟩⟩, rfl⟩
   rw [wr (n := (P.length : Int) + hh + (P.length + A.length)) (by omega) (by omega), wr (by omega) (by omega)]
   congr 1
   omega
  ·exact hk' _ _ ⟨⟨0, A.length, by simp, by omega, .inl ⟨by omega, rfl, rfl⟩⟩, rfl⟩
 rintro z w' ⟨⟨c0, d0, rfl, hcd0, h0⟩, rfl⟩
 dsimp only
 refine z0G (fun q z w => ∃ c d : Nat, z = ((P.length : Int) + c, (P.length : Int) + d, ()) ∧ q + c = d ∧ c0 ≤ c ∧ c ≤ d ∧ d ≤ d0 ∧ (∀ e x y, c0 ≤ e → e < c → A[e]? = some x → B[hh - 1 - e]? = some y → ¬ y.1 < x.1) ∧
  (∀ e x y, d ≤ e → e < d0 → A[e]? = some x → B[hh - 1 - e]? = some y → y.1 < x.1) ∧ St w0 E w) (d0 - c0) ⟨c0, d0, rfl, by omega, by omega, by omega, by omega, by intros; omega, by intros; omega, h⟩ ?_
 clear h; (try clear w)
 rintro q z w ⟨c, d, rfl, hq, hc0, hcd, hd, h1, h2, h⟩ again hag
 (try dsimp only)
 refine it (fun hc => ?_) (fun hc => ?_) <;> (try simp only [zB] at hc)
 ·have he2 : ((P.length : Int) + c + ((P.length : Int) + d)) / 2 = (P.length : Int) + (((c + d) / 2 : Nat) : Int) := by omega
  rw [half (a := (P.length : Int) + c) (by omega) (by omega) (by omega), he2]
  obtain ⟨e, hee⟩ : ∃ e, e = (c + d) / 2 := ⟨_, rfl⟩
  rw [← hee]
  have hel : e < A.length := by omega
  have hel2 : hh - 1 - e < B.length := by omega
  have hx : A[e]? = some A[e] := List.getElem?_eq_getElem hel
  have hxm : A[e] ∈ A := List.getElem_mem hel
  have hy : B[hh - 1 - e]? = some B[hh - 1 - e] := List.getElem?_eq_getElem hel2
  have hym : B[hh - 1 - e] ∈ B := List.getElem_mem hel2
  generalize A[e] = x at hx hxm
  generalize B[hh - 1 - e] = y at hy hym
  have g1 : (P ++ (A ++ (B ++ R)))[((P.length : Int) + (e : Int)).toNat]? = some x := by
   have e1 : ((P.length : Int) + (e : Int)).toNat = P.length + e := by omega
   rw [e1, List.getElem?_append_right (by omega)]
   have e2 : P.length + e - P.length = e := by omega
   rw [e2, List.getElem?_append_left hel, hx]
  rw [wr (n := (P.length : Int) + hh + (P.length + A.length)) (by omega) (by omega), wr (n := (P.length : Int) + hh + (P.length + A.length) - 1) (by omega) (by omega), wr (n := (P.length : Int) + hh + (P.length + A.length) - 1 - (P.length + e)) (by omega) (by omega)]
  have g0 : (P ++ (A ++ (B ++ R)))[((P.length : Int) + hh + (P.length + A.length) - 1 - (P.length + e)).toNat]? = some y := by
   have e1 : ((P.length : Int) + hh + (P.length + A.length) - 1 - (P.length + e)).toNat = P.length + (A.length + (hh - 1 - e)) := by omega
   rw [e1, List.getElem?_append_right (by omega)]
   have e2 : P.length + (A.length + (hh - 1 - e)) - P.length = A.length + (hh - 1 - e) := by omega
   rw [e2, List.getElem?_append_right (by omega)]
   have e3 : A.length + (hh - 1 - e) - A.length = hh - 1 - e := by omega
   rw [e3, List.getElem?_append_left hel2, hy]
  refine gd (by decide) ?_
  refine zg5 h i hi hr (by omega) (by omega) g0 g1 (bB y hym) (bA x hxm) fun w h => ?_
  refine it (fun hl => ?_) (fun hl => ?_) <;> (try simp only [zB] at hl)
  ·refine hag (d - (e + 1)) _ w (by omega) ⟨e + 1, d, ?_, by omega, by omega, by omega, hd, fun e' x' y' he1 he2 hx' hy' => ?_, h2, h⟩
   ·rw [wr (by omega) (by omega)]; congr 1
   ·have q1 := zbi sA (by omega) hx' hx
    have q2 := zbi sB (by omega) hy hy'
    omega
  ·refine hag (e - c) _ w (by omega) ⟨c, e, rfl, by omega, by omega, by omega, by omega, h1, fun e' x' y' he1 he2 hx' hy' => ?_, h⟩
   have q1 := zbi sA he1 hx hx'
   have q2 := zbi sB (by omega) hy' hy
   omega
 clear hag
 have e : d = c := by omega
 subst e
 have C := zmO rfl rfl hhe sA sB h0 hc0 hd h1 h2
 clear h1 h2 h0 hc0 hd hcd
 obtain ⟨A1, A2, rfl, lA1⟩ : ∃ A1 A2, A = A1 ++ A2 ∧ A1.length = d := ⟨A.take d, A.drop d, (List.take_append_drop ..).symm, by rw [List.length_take]; have := C.c1; omega⟩
 obtain ⟨B1, B2, rfl, lB1⟩ : ∃ B1 B2, B = B1 ++ B2 ∧ B1.length = hh - d := ⟨B.take (hh - d), B.drop (hh - d), (List.take_append_drop ..).symm, by rw [List.length_take]; have := C.c3; omega⟩
 have tA : (A1 ++ A2).take d = A1 := by rw [← lA1, List.take_left]
 have dA : (A1 ++ A2).drop d = A2 := by rw [← lA1, List.drop_left]
 have tB : (B1 ++ B2).take (hh - d) = B1 := by rw [← lB1, List.take_left]
 have dB : (B1 ++ B2).drop (hh - d) = B2 := by rw [← lB1, List.drop_left]
 have hlo := C.lo
 have hhi := C.hi
 have hc2 := C.c2
 rw [tA, dB] at hlo
 rw [tB, dA] at hhi
 clear tA dA tB dB C
 have pA := List.pairwise_append.1 sA
 have pB := List.pairwise_append.1 sB
 simp only [List.length_append] at *
 rw [wr (n := (P.length : Int) + hh + (P.length + ((A1.length + A2.length : Nat) : Int))) (by omega) (by omega), wr (n := (P.length : Int) + hh + (P.length + ((A1.length + A2.length : Nat) : Int)) - (P.length + (d : Int))) (by omega) (by omega)]
 have hend : (P.length : Int) + hh + (P.length + ((A1.length + A2.length : Nat) : Int)) - (P.length + (d : Int)) = (P.length : Int) + ((hh + A2.length : Nat) : Int) := by omega
 rw [hend]
 have lo2 : ∀ x ∈ A1, ∀ y ∈ B2, lexlt x y := fun x hx y hy => by
  have q1 := hlo x hx y hy
  have q2 := hAB x (by simp [hx]) y (by simp [hy])
  unfold lexlt; omega
 refine z1k (fun _ w => ∃ s, Rw eC z04 2 v (P ++ (A1 ++ (B1 ++ (A2 ++ (B2 ++ R))))) s ∧ St w0 (setN E i s) w) (fun k' hk' => ?_) ?_
 ·have stay : (A2 = [] ∨ B1 = []) → k' () w := fun hh => hk' () w ⟨s, by
   have e : P ++ (A1 ++ (B1 ++ (A2 ++ (B2 ++ R)))) = P ++ ((A1 ++ A2) ++ ((B1 ++ B2) ++ R)) := by rcases hh with rfl | rfl <;> simp
   rw [e]; exact hr, by rwa [z1F hi]⟩
  refine it (fun hc1 => ?_) (fun hc1 => ?_) <;> (try simp only [zB] at hc1)
  ·refine it (fun hc3 => ?_) (fun hc3 => ?_) <;> (try simp only [zB] at hc3)
   ·refine zn0 (P := P ++ A1) (A := A2) (B := B1) (R := B2 ++ R) h i hi (by simpa using hr) (by simp only [List.length_append]; omega) (List.length_pos_iff.1 (by omega)) (List.length_pos_iff.1 (by omega)) (by rw [List.length_append]; omega) (by rw [List.length_append]; omega) (by rw [List.length_append]; omega) fun s' w hr h => ?_
    exact hk' () w ⟨s', by simpa using hr, h⟩
   ·exact stay (.inr (List.eq_nil_of_length_eq_zero (by omega)))
  ·exact stay (.inl (List.eq_nil_of_length_eq_zero (by omega)))
 clear hr
 clear h; (try clear w)
 rintro _ w ⟨s, hr, h⟩
 (try dsimp only)
 refine z1k (fun _ w => ∃ S1 s, Ls S1 ∧ S1.Perm (A1 ++ B1) ∧ Rw eC z04 2 v (P ++ (S1 ++ (A2 ++ (B2 ++ R)))) s ∧ St w0 (setN E i s) w) (fun k' hk' => ?_) ?_
 ·have stay : (A1 = [] ∨ B1 = []) → k' () w := fun hh => hk' () w ⟨A1 ++ B1, s, by
   rcases hh with rfl | rfl
   ·simpa using pB.1
   ·simpa using pA.1, .refl _, by simpa using hr, h⟩
  refine it (fun hc1 => ?_) (fun hc1 => ?_) <;> (try simp only [zB] at hc1)
  ·refine it (fun hc3 => ?_) (fun hc3 => ?_) <;> (try simp only [zB] at hc3)
   ·refine ih (P := P) (A := A1) (B := B1) (R := A2 ++ (B2 ++ R)) h i (z4X hi) hr (by simp only [List.length_append]; omega) (by omega) (List.length_pos_iff.1 (by omega)) (List.length_pos_iff.1 (by omega)) pA.1 pB.1 (fun x hx y hy => hAB x (by simp [hx]) y (by simp [hy]))
     (fun x hx => bA x (by simp [hx])) (fun x hx => bB x (by simp [hx])) rfl (by omega) (by omega) fun S1 s' w l1 p1 hr h => ?_
    rw [z4b] at h
    exact hk' () w ⟨S1, s', l1, p1, hr, h⟩
   ·exact stay (.inr (List.eq_nil_of_length_eq_zero (by omega)))
  ·exact stay (.inl (List.eq_nil_of_length_eq_zero (by omega)))
 clear hr
 clear h; (try clear w)
 rintro _ w ⟨S1, s, l1, p1, hr, h⟩
 (try dsimp only)
 have lS1 : S1.length = hh := by rw [p1.length_eq, List.length_append]; omega
 have fin : ∀ S2 s' w', Ls S2 → S2.Perm (A2 ++ B2) → Rw eC z04 2 v ((P ++ S1) ++ (S2 ++ R)) s' → St w0 (setN E i s') w' → k () w' := fun S2 s' w' l2 p2 hr h => by
  refine hk (S1 ++ S2) s' w' (List.pairwise_append.2 ⟨l1, l2, fun x hx y hy => ?_⟩) ?_ (by simpa using hr) h
  ·rcases List.mem_append.1 (p1.mem_iff.1 hx) with hx | hx <;> rcases List.mem_append.1 (p2.mem_iff.1 hy) with hy | hy
   ·exact pA.2.2 x hx y hy
   ·exact lo2 x hx y hy
   ·exact .inl (hhi x hx y hy)
   ·exact pB.2.2 x hx y hy
  ·refine (p1.append p2).trans ?_
   rw [List.append_assoc, List.append_assoc]
   refine List.Perm.append_left _ ?_
   rw [← List.append_assoc, ← List.append_assoc]
   exact List.Perm.append_right _ List.perm_append_comm
 have stay : (A2 = [] ∨ B2 = []) → k () w := fun hh => fin (A2 ++ B2) s w (by
   rcases hh with rfl | rfl
   ·simpa using pB.2.1
   ·simpa using pA.2.1) (.refl _) (by simpa using hr) h
 refine it (fun hc1 => ?_) (fun hc1 => ?_) <;> (try simp only [zB] at hc1)
 ·refine it (fun hc3 => ?_) (fun hc3 => ?_) <;> (try simp only [zB] at hc3)
  ·refine ih (P := P ++ S1) (A := A2) (B := B2) (R := R) h i (z4X hi) (by simpa using hr) (by simp only [List.length_append]; omega) (by omega) (List.length_pos_iff.1 (by omega)) (List.length_pos_iff.1 (by omega)) pA.2.1 pB.2.1 (fun x hx y hy => hAB x (by simp [hx]) y (by simp [hy]))
    (fun x hx => bA x (by simp [hx])) (fun x hx => bB x (by simp [hx])) (by rw [List.length_append]; omega) (by rw [List.length_append]; omega) (by rw [List.length_append]; omega) fun S2 s' w l2 p2 hr h => ?_
   rw [z4b] at h
   exact ⟨(), rfl, fin S2 s' w l2 p2 hr h⟩
  ·exact ⟨(), rfl, stay (.inr (List.eq_nil_of_length_eq_zero (by omega)))⟩
 ·exact ⟨(), rfl, stay (.inl (List.eq_nil_of_length_eq_zero (by omega)))⟩
theorem zku (h : St w0 E w) (i : Nat) {s : Seg} (hi : nth E i = some s) {v : Sl} {M : List (Int × Int)} (hr : Rw eC z04 2 v M s) (hn : M.length < 40) (hid : M.Pairwise fun a b => a.2 < b.2)
  (hb : ∀ x ∈ M, bdC x) {k : Unit → PT} (hk : ∀ s' w', Rw eC z04 2 v (csort M) s' → St w0 (setN E i s') w' → k () w') :
  L.call Pr z0u [.slice v.a v.len v.cap, cmpV] (.tup []) k w := by
 by_cases h20 : M.length ≤ 20
 ·exact zlL h i hi hr h20 hb hk
 refine z00 (z15 _ ⟨.func z0q, #[], #[]⟩) ?_
 unfold z0F
 refine z00 (z2b _ _ ⟨.func z0q, #[], #[]⟩) ?_
 unfold z1f
 have hlen := Rw.len encC hr
 obtain ⟨M1, M2, rfl, l1⟩ : ∃ M1 M2, M = M1 ++ M2 ∧ M1.length = 20 := ⟨M.take 20, M.drop 20, (List.take_append_drop ..).symm, by rw [List.length_take]; omega⟩
 have p12 := List.pairwise_append.1 hid
 rw [List.length_append] at hn h20 hlen
 have hb1 : ∀ x ∈ csort M1, bdC x := fun x hx => hb x (by simp [(z47 M1).mem_iff.1 hx])
 have hb2 : ∀ x ∈ csort M2, bdC x := fun x hx => hb x (by simp [(z47 M2).mem_iff.1 hx])
 refine z0G (fun q y w => (q = 1 ∧ y = (0, 20, ()) ∧ St w0 E w) ∨ (q = 0 ∧ y = (20, 40, ()) ∧ ∃ s', Rw eC z04 2 v (csort M1 ++ (M2 ++ [])) s' ∧ St w0 (setN E i s') w)) 1 (.inl ⟨rfl, rfl, h⟩) ?_
 clear h; (try clear w)
 rintro q y w (⟨rfl, rfl, h⟩ | ⟨rfl, rfl, s', hr', h⟩) again hag <;> dsimp only
 ·refine itT (decide_eq_true (by omega)) ?_
  refine zf0 (P := []) (M := M1) (R := M2) h i hi (by simpa using hr) (by simp; omega) (fun x hx => hb x (by simp [hx])) (by rfl) (by simp; omega) fun s' w hr' h => ?_
  rw [wr (by omega) (by omega)]
  exact hag 0 _ w (by omega) (.inr ⟨rfl, rfl, s', by simpa using hr', h⟩)
 ·refine itF (decide_eq_false (by omega)) ?_
  refine zf0 (P := csort M1) (M := M2) (R := []) h i (z4X hi) hr' (by simp [z1O]; omega) (fun x hx => hb x (by simp [hx])) (by rw [z1O]; omega) (by rw [z1O]; omega) fun s' w hr' h => ?_
  rw [z4b] at h
  refine z0G (fun q y w => (q = 1 ∧ y = (20, ()) ∧ ∃ s', Rw eC z04 2 v (csort M1 ++ (csort M2 ++ [])) s' ∧ St w0 (setN E i s') w) ∨ (q = 0 ∧ y = (40, ()) ∧ ∃ s', Rw eC z04 2 v (csort (M1 ++ M2)) s' ∧ St w0 (setN E i s') w)) 1 (.inl ⟨rfl, rfl, s', hr', h⟩) ?_
  clear hr'
  clear h; (try clear w)
  rintro q y w (⟨rfl, rfl, s', hr', h⟩ | ⟨rfl, rfl, s', hr', h⟩) again hag <;> dsimp only
  ·refine itT (decide_eq_true (by omega)) ?_
   rw [wr (n := 2 * 20) (by omega) (by omega)]
   refine z0G (fun q y w' => y = (0, 2 * 20, ()) ∧ w' = w) 0 ⟨rfl, rfl⟩ ?_
   rintro q y w' ⟨rfl, rfl⟩ again2 hag2
   dsimp only
   refine itF (decide_eq_false (by omega)) ?_
   refine z1k (fun _ w => ∃ s', Rw eC z04 2 v (csort (M1 ++ M2)) s' ∧ St w0 (setN E i s') w) (fun k' hk' => ?_) ?_
   ·rw [wr (n := 0 + 20) (by omega) (by omega)]
    refine itT (decide_eq_true (by omega)) ?_
    refine zmZ (M1.length + M2.length) (P := []) (A := csort M1) (B := csort M2) (R := []) h i (z4X hi) hr' (by simp [z1O]; omega) (by rw [z1O, z1O]; omega) (List.length_pos_iff.1 (by rw [z1O]; omega)) (List.length_pos_iff.1 (by rw [z1O]; omega)) (zcb p12.1) (zcb p12.2.1)
     (fun x hx y hy => p12.2.2 x ((z47 M1).mem_iff.1 hx) y ((z47 M2).mem_iff.1 hy)) hb1 hb2 (by rfl) (by rw [z1O]; simp; omega) (by rw [z1O, z1O]; simp; omega) fun S s'' w lS pS hr'' h => ?_
    rw [z4b] at h
    have e : S = csort (M1 ++ M2) := zgD lS (zcb hid) ((pS.trans ((z47 M1).append (z47 M2))).trans (z47 _).symm)
    subst e
    exact hk' () w ⟨s'', by simpa using hr'', h⟩
   ·clear hr'
    rintro _ w'' ⟨s'', hr'', h⟩
    (try dsimp only)
    rw [wr (n := 20 * 2) (by omega) (by omega)]
    exact hag 0 _ w'' (by omega) (.inr ⟨rfl, rfl, s'', hr'', h⟩)
  ·refine itF (decide_eq_false (by omega)) ?_
   exact ⟨(), rfl, (), rfl, hk s' w hr' h⟩
def fTake (F : AFleet) (rev : ByteArray) (q : Int) : AFleet × Int × Bool :=
 if (fWhere F.l q).isSome then (F, 0, false) else match fPick F.l rev with
 | none => (F, 0, false)
 | some x => ({ F with l := fUpd F.l x.id fun p => (podTake p q).1 }, x.id, true)
theorem ziA : ∀ {R : List AHeld} {b x : Option AHeld}, R.foldl pickStep b = x → (∀ y, b = some y → can y = true) → ∀ y, x = some y → can y = true ∧ (y ∈ R ∨ b = some y)
 | [], b, x, h, hb, y, hy => by subst h; exact ⟨hb y hy, .inr hy⟩
 | z :: R, b, x, h, hb, y, hy => by
  rw [List.foldl_cons] at h
  have hz : ∀ y, pickStep b z = some y → can y = true ∧ (y = z ∨ b = some y) := by
   intro y hy
   unfold pickStep at hy
   cases b with
   | none => simp only at hy; split at hy <;> simp at hy; subst hy; exact ⟨by assumption, .inl rfl⟩
   | some u =>
    simp only at hy
    split at hy
    ·simp at hy; subst hy; rename_i h; exact ⟨h.1, .inl rfl⟩
    ·simp at hy; subst hy; exact ⟨hb u rfl, .inr rfl⟩
  have := ziA h (fun y hy => (hz y hy).1) y hy
  refine ⟨this.1, ?_⟩
  rcases this.2 with h | h
  ·left; simp [h]
  ·rcases (hz y h).2 with e | e
   ·left; simp [e]
   ·right; exact e
theorem zdA {l : List AHeld} {rev : ByteArray} {x : AHeld} (h : fPick l rev = some x) : x ∈ l ∧ x.rev = rev ∧ can x = true := by
 have := ziA h (by simp) x rfl
 rcases this.2 with h2 | h2
 ·exact ⟨(List.mem_filter.1 h2).1, of_decide_eq_true (List.mem_filter.1 h2).2, this.1⟩
 ·cases h2
theorem zi9 {x : AHeld} (hc : can x = true) {q : Int} (hq : q ∉ x.pod.reqs) : podTake x.pod q = ({ x.pod with reqs := insI q x.pod.reqs }, 0) := by
 have := of_decide_eq_true hc
 unfold podTake; rw [if_neg (by omega), if_neg hq, if_neg (by omega)]
theorem zl4 {x : AHeld} (hc : ¬ can x = true) {q : Int} (hq : q ∉ x.pod.reqs) : (podTake x.pod q).1 = x.pod ∧ (podTake x.pod q).2 ≠ 0 := by
 have : ¬ (x.pod.st = 2 ∧ (x.pod.reqs.length : Int) < x.pod.conc) := fun h => hc (decide_eq_true h)
 unfold podTake
 by_cases h : x.pod.st ≠ 2
 ·rw [if_pos h]; exact ⟨rfl, by simp⟩
 ·rw [if_neg h, if_neg hq, if_pos (by omega)]; exact ⟨rfl, by simp⟩
theorem ziX {l : List AHeld} (once : l.Pairwise (fun x y => ∀ q ∈ x.pod.reqs, q ∉ y.pod.reqs)) {x : AHeld} (hx : x ∈ l) {q : Int} (hq : q ∈ x.pod.reqs) : fWhere l q = some x := by
 unfold fWhere
 induction l with
 | nil => simp at hx
 | cons y l ih =>
  rw [List.pairwise_cons] at once
  rcases List.mem_cons.1 hx with rfl | hx
  ·rw [List.find?_cons_of_pos (by simpa using hq)]
  ·rw [List.find?_cons_of_neg (by simpa using fun h => once.1 x hx q h hq)]
   exact ih once.2 hx
theorem zgT {F : AFleet} (ok : F.Ok) (rev : ByteArray) (q : Int) : (fTake F rev q).1.Ok := by
 unfold fTake
 split
 ·exact ok
 ·rename_i hw
  split
  ·exact ok
  ·rename_i x hp
   obtain ⟨hx, -, hc⟩ := zdA hp
   have hn : fWhere F.l q = none := by cases h : fWhere F.l q <;> simp [h] at hw ⊢
   have ht := zi9 hc (z6W hn x hx)
   have hcc := of_decide_eq_true hc
   refine ok.upd (z9M ok.pw hx) _ ?_ ?_
   ·rw [ht]; simp only; omega
   ·rw [ht]
    intro q2 h2
    rcases z8x.1 h2 with rfl | h2
    ·exact .inr hn
    ·exact .inl h2
theorem zlG (h : St w0 E w) (i : Nat) {A B : List Tr} {t : Tr} (hi : nth E i = some ((A ++ t :: B).map trS).flatten) (hp : PodS t.2.1 t.1.pod t.2.2) (hfew : t.1.pod.reqs.length < 10000000) {q : Int} {k : Int → PT}
  (hk : ∀ s' w', PodS t.2.1 (podTake t.1.pod q).1 s' → St w0 (setN E i ((A ++ ({ t.1 with pod := (podTake t.1.pod q).1 }, t.2.1, s') :: B).map trS).flatten) w' → k (podTake t.1.pod q).2 w') :
  L.call Pr z4M [.pointer (some ⟨t.2.1, 0, none⟩), I q] (.one (.one (.int .i64))) k w := by
 refine zlR (h.front i hi).pick 0 rfl hp hfew fun s' w hp' h => hk s' w hp' ?_
 have h : St w0 (trS ({ t.1 with pod := (podTake t.1.pod q).1 }, t.2.1, s') :: ((A ++ B).map trS).flatten :: delN E i) w := h
 exact St.back i hi h.place
theorem FlR.same {F : AFleet} {A B : List Tr} {t : Tr} {mA mW} (hr : FlR F (A ++ t :: B) mA mW) {s' : Seg} (hp : PodS t.2.1 t.1.pod s') : FlR F (A ++ (t.1, t.2.1, s') :: B) mA mW := by
 refine ⟨by rw [hr.l]; simp, fun y hy => ?_, by have := hr.all; simp only [List.map_append, List.map_cons] at this ⊢; exact this, hr.wth⟩
 rcases List.mem_append.1 hy with hy | hy
 ·exact hr.ps y (by simp [hy])
 ·rcases List.mem_cons.1 hy with rfl | hy
  ·exact hp
  ·exact hr.ps y (by simp [hy])
theorem FlR.getW {F : AFleet} {L : List Tr} {mA mW} (hr : FlR F L mA mW) (q : Int) : (mget mW q).isSome = (fWhere F.l q).isSome := by rw [hr.wth]; cases fWhere F.l q <;> rfl
theorem zm4 (h : St w0 E w) (i : Nat) {b : Nat} {F : AFleet} {s : Seg} (hi : nth E i = some s) (hf : FlS b F s) {rev : ByteArray} {q : Int} (h20 : (revs F.l rev).length ≤ 30) (hfew : ∀ x ∈ F.l, x.pod.reqs.length < 10000000) {k : Int × Bool × Unit → PT}
  (hk : ∀ s' w', FlS b (fTake F rev q).1 s' → St w0 (setN E i s') w' → k ((fTake F rev q).2.1, (fTake F rev q).2.2, ()) w') :
  L.call Pr z4j [.pointer (some ⟨b, 0, none⟩), .string rev, I q] (.tup [.one (.int .i64), .one .bool]) k w := by
 have hf0 := hf
 obtain ⟨ok, rA, rW, mA, mW, sA, sW, L, hA, hW, hr, rfl⟩ := hf
 refine z00 (zak _ _ _) ?_
 unfold z6i
 have hll : L.length = F.l.length := by rw [hr.l]; simp
 have hcount := ok.few
 have h : St w0 (flB b rA rW F :: sA :: sW :: (L.map trS).flatten :: delN E i) w := (h.front i hi).eq (by simp)
 (refine nn ?_; refine ldC h ?_)
 refine MpS.get2 mkI zeg zi (fun x : Int => x) (fun _ => rfl) h 2 rfl hW ?_
 rw [hr.getW]
 refine it (fun hc => ?_) (fun hc => ?_) <;> (try simp only [zB] at hc)
 ·have e : fTake F rev q = (F, 0, false) := by unfold fTake; rw [if_pos hc]
  rw [e] at hk
  exact ⟨(0, false, ()), rfl, hk _ w hf0 (St.back i hi (h.eq (by simp)))⟩
 have hn : fWhere F.l q = none := by cases h : fWhere F.l q <;> simp [h] at hc ⊢
 have hno := z6W hn
 refine nw h ?_; clear h; (try clear w); intro b4 w h
 refine S_of h fun c0 c1 w h => ?_
 have h := fr3_ (fr3_ (fr4_ (fr4_ h)))
 have h : St w0 ([[Cl c1 z01 [.string rev]], [Cl c0 z0A [.pointer (some ⟨b, 0, none⟩)]], flB b rA rW F, sA] ++ [Cl b4 z0L [SlV ⟨none, 0, 0⟩]] :: [] :: sW :: (L.map trS).flatten :: delN E i) w := h.eq (by simp)
 have hR := hr.revs rev
 have hlR : (L.filter (revP rev)).length ≤ 30 := by rw [hR, List.length_map] at h20; exact h20
 refine z6s (A := [_, _, _, _]) (Y_of ok hA hr) h (fun m G => ∃ v sv, Rw eC z04 2 v (((L.filter (revP rev)).take m).map fun t => key t.1) sv ∧ G = [Cl b4 z0L [SlV v]] :: sv :: sW :: (L.map trS).flatten :: delN E i) (fun j G => False) ⟨_, _, Rw.nil, rfl⟩ ?_ ?_ ?_
 ·rintro m G X w lv lp d R hm ⟨v, sv, hv, rfl⟩ h hN hE
  have hx := List.getElem?_eq_getElem hm
  have h : St w0 ([Rec lv lp .busy none] :: [DfM d] :: [Cl c1 z01 [.string rev]] :: [Cl c0 z0A [.pointer (some ⟨b, 0, none⟩)]] :: flB b rA rW F :: sA :: [Cl b4 z0L [SlV v]] :: sv :: sW :: (L.map trS).flatten :: (delN E i ++ X)) w := h
  rw [zdU hm]
  (try dsimp only)
  have hmem := zex hm
  have hps := hr.ps _ hmem
  (refine dr h ?_; clear h; (try clear w); intro w h; refine ldC h ?_)
  refine zcg h 9 rfl hmem hps ?_
  (refine ckC h ?_)
  refine nw h ?_; clear h; (try clear w); intro b11 w h
  (refine ckC h ?_)
  refine Rw.app encC elC h 7 rfl hv (key (L.filter (revP rev))[m].1) rfl (by simp; omega) (by simp; omega) fun v' s' w hv h => ?_
  (dsimp only [setN, List.cons_append, List.nil_append] at h; refine stC h ?_; clear h; (try clear w); intro w h; dsimp only [putN, setN] at h)
  refine hN _ w ⟨v', s', ?_, rfl⟩ h
  rw [List.take_add_one, hx, List.map_append]; exact hv
 ·rintro d G w ⟨v, sv, hv, rfl⟩ h
  have h : St w0 ([DfM d] :: [Cl c1 z01 [.string rev]] :: [Cl c0 z0A [.pointer (some ⟨b, 0, none⟩)]] :: flB b rA rW F :: sA :: [Cl b4 z0L [SlV v]] :: sv :: sW :: (L.map trS).flatten :: delN E i) w := h
  rw [List.take_length] at hv
  have e : (L.filter (revP rev)).map (fun t => key t.1) = (revs F.l rev).map key := by rw [hR, List.map_map]; rfl
  rw [e] at hv
  have h := dl1_ (dl2_ h)
  refine jumpN ?_
  (refine ldC h ?_)
  refine zku h 4 rfl hv (by rw [List.length_map]; omega) (by
   rw [List.pairwise_map]
   exact (ok.pw.filter _).imp fun hxy => hxy) (fun c hc => by
   obtain ⟨x, hx, rfl⟩ := List.mem_map.1 hc
   have := hfew x (List.mem_filter.1 hx).1
   simp only [key]; omega) fun sv w hv h => ?_
  have hfp := zeN (p := fun c => ((fFind F.l c.2).map can).getD false) _ (R := revs F.l rev) rfl fun x hx => by
   have := z9M ok.pw (List.mem_filter.1 hx).1
   show ((fFind F.l x.id).map can).getD false = _
   rw [this]; rfl
  have hcm : ∀ c ∈ csort ((revs F.l rev).map key), ∃ x ∈ F.l, c = key x := fun c hc => by
   obtain ⟨x, hx, rfl⟩ := List.mem_map.1 ((z47 _).mem_iff.1 hc)
   exact ⟨x, (List.mem_filter.1 hx).1, rfl⟩
  have hpk : fPick F.l rev = (revs F.l rev).foldl pickStep none := rfl
  rw [← hpk] at hfp
  have hcl : (csort ((revs F.l rev).map key)).length ≤ 30 := by rw [z1O, List.length_map]; exact h20
  have hlv := Rw.len encC hv
  generalize csort ((revs F.l rev).map key) = cs at hv hfp hcm hcl hlv
  (dsimp only [setN, List.cons_append, List.nil_append] at h; refine ldC h ?_)
  have h : St w0 ([DfM d] :: flB b rA rW F :: sA :: [Cl b4 z0L [SlV v]] :: sv :: sW :: (L.map trS).flatten :: delN E i) w := h
  refine z0G (fun p y w => ∃ (j : Nat) (L : List Tr), y = ((j : Int), ()) ∧ p + j = cs.length ∧ (∀ c ∈ cs.take j, ((fFind F.l c.2).map can).getD false = false) ∧ FlR F L mA mW ∧
   St w0 ([DfM d] :: flB b rA rW F :: sA :: [Cl b4 z0L [SlV v]] :: sv :: sW :: (L.map trS).flatten :: delN E i) w) cs.length ⟨0, L, rfl, rfl, by simp, hr, h⟩ ?_
  clear hr hf0 hR hlR e hll
  clear h; (try clear w)
  rintro p y w ⟨j, L, rfl, hp, hfn, hr, h⟩ again hag
  (try dsimp only)
  refine it (fun hc => ?_) (fun hc => ?_) <;> (try simp only [zB] at hc)
  ·have hj : j < cs.length := by omega
   have hxj : cs[j]? = some cs[j] := List.getElem?_eq_getElem hj
   have hdrop : cs = cs.take j ++ cs[j] :: cs.drop (j + 1) := by rw [← List.drop_eq_getElem_cons hj, List.take_append_drop]
   obtain ⟨x, hxl, hcx⟩ := hcm _ (List.getElem_mem hj)
   rw [hcx] at hxj hdrop
   have hfx := z9M ok.pw hxl
   obtain ⟨A, t, B, rfl, rfl, -⟩ := hr.at hfx
   have hg := hr.get ok (t := t) (by simp)
   have hps := hr.ps t (by simp)
   have hqx := hno t.1 hxl
   refine Rw.ix encC hv (by omega) (by simpa using hj) fun a ha => ?_
   rw [Int.toNat_natCast] at ha
   refine Rw.lda encC h 4 rfl hv ha hxj rfl ?_
   refine nw h ?_; clear h; (try clear w); intro b22 w h
   (refine stC h ?_; clear h; (try clear w); intro w h; dsimp only [putN, setN] at h; refine dr h ?_; clear h; (try clear w); intro w h; refine nn ?_; refine ldC h ?_; refine ldC h ?_)
   refine MpS.get mkI z3b zo (fun x : ByteArray × Option Addr => (x.1, x.2, ())) (fun _ => rfl) h 3 rfl hA ?_
   rw [show mget mA (key t.1).2 = _ from hg]
   simp only [Option.map_some, Option.getD_some]
   refine zlG h 7 rfl hps (hfew _ hxl) fun s' w hps' h => ?_
   by_cases hcan : can t.1 = true
   ·have ht := zi9 hcan hqx
    refine itT (by rw [ht]; rfl) ?_
    have hfd : fPick F.l rev = some t.1 := by
     have : cs.find? (fun c => ((fFind F.l c.2).map can).getD false) = some (key t.1) := by
      rw [hdrop, List.find?_append, List.find?_cons_of_pos (by show ((fFind F.l t.1.id).map can).getD false = true; rw [hfx]; exact hcan)]
      rw [List.find?_eq_none.2 (fun c hc => by rw [hfn c hc]; simp)]
      rfl
     rw [this] at hfp
     cases hpk : fPick F.l rev with
     | none => rw [hpk] at hfp; cases hfp
     | some y =>
      rw [hpk] at hfp
      have hid : y.id = t.1.id := by simp only [Option.map_some, Option.some.injEq, key, Prod.mk.injEq] at hfp; exact hfp.2.symm
      have h1 := z9M ok.pw (zdA hpk).1
      rw [hid, hfx] at h1
      exact h1.symm
    have e : fTake F rev q = ({ F with l := fUpd F.l t.1.id fun p => (podTake p q).1 }, t.1.id, true) := by
     unfold fTake; rw [hn, hfd]; rfl
    have okT := zgT ok rev q
    rw [e] at hk okT
    have hrq : (podTake t.1.pod q).1.reqs = insI q t.1.pod.reqs := by rw [ht]
    have hst : (podTake t.1.pod q).1.st ≠ 4 := by rw [ht]; have := of_decide_eq_true hcan; simp only; omega
    (dsimp only [setN, List.cons_append, List.nil_append] at h; refine dr h ?_; clear h; (try clear w); intro w h; refine nn ?_; refine ldC h ?_; refine ldC h ?_)
    refine MpS.set mkI zeg h 6 rfl hW t.1.id rfl fun sW' w hW' h => ?_
    (dsimp only [setN, List.cons_append, List.nil_append] at h; refine ldC h ?_)
    (first | refine um0_ h ?_ | refine um1_ h ?_ | refine um2_ h ?_ | refine um3_ h ?_ | refine um4_ h ?_ | refine um5_ h ?_ | refine um6_ h ?_ | refine um7_ h ?_ | refine um8_ h ?_ | refine um9_ h ?_ | refine z93 h ?_ | refine z92 h ?_); clear h; (try clear w); intro w h
    refine ⟨(t.1.id, true, ()), rfl, hk _ w ⟨okT, rA, rW, mA, _, sA, sW', _, hA, hW', hr.upd ok (fun p => (podTake p q).1) hps' hst fun q' => ?_, rfl⟩ ?_⟩
    ·rw [z5B, ok.where_upd hfx _ (fun q2 h2 => by
      rw [hrq] at h2
      rcases z8x.1 h2 with rfl | h2
      ·exact .inr hn
      ·exact .inl h2) (fun h4 => absurd h4 hst), hrq]
     by_cases eq : q = q'
     ·subst eq; rw [if_pos rfl, if_pos (z8x.2 (.inl rfl))]
     ·rw [if_neg eq]
      by_cases hq2 : q' ∈ t.1.pod.reqs
      ·rw [if_pos (z8x.2 (.inr hq2)), hr.wth, ziX ok.once hxl hq2]; rfl
      ·rw [if_neg (fun hh => (z8x.1 hh).elim (fun e => eq e.symm) hq2), if_neg hq2, hr.wth]
    ·refine St.back i hi ?_
     (try dsimp only [setN] at h)
     have h := dl0_ (dl3_ (dl4_ h))
     exact h.eq (by simp)
   ·have ht := zl4 hcan hqx
    refine itF (by simpa using ht.2) ?_
    rw [ht.1] at hps'
    have h := dl0_ h
    refine hag (p - 1) _ w (by omega) ⟨j + 1, A ++ (t.1, t.2.1, s') :: B, ?_, by omega, ?_, hr.same hps', ?_⟩
    ·rw [wr (by omega) (by omega)]; simp
    ·intro c hc
     rw [List.take_add_one, hxj] at hc
     rcases List.mem_append.1 hc with hc | hc
     ·exact hfn c hc
     ·simp at hc; subst hc
      show ((fFind F.l t.1.id).map can).getD false = false
      rw [hfx]; simpa using hcan
    ·have h : St w0 ([DfM d] :: flB b rA rW F :: sA :: [Cl b4 z0L [SlV v]] :: sv :: sW :: ((A ++ ({ t.1 with pod := (podTake t.1.pod q).1 }, t.2.1, s') :: B).map trS).flatten :: delN E i) w := h
     rw [ht.1] at h
     exact h
  ·have hj : j = cs.length := by omega
   subst hj
   rw [List.take_length] at hfn
   have hfd : fPick F.l rev = none := by
    rw [List.find?_eq_none.2 (fun c hc => by rw [hfn c hc]; simp)] at hfp
    cases hpk : fPick F.l rev with
    | none => rfl
    | some y => rw [hpk] at hfp; cases hfp
   have e : fTake F rev q = (F, 0, false) := by unfold fTake; rw [hn, hfd]; rfl
   rw [e] at hk
   (first | refine um0_ h ?_ | refine um1_ h ?_ | refine um2_ h ?_ | refine um3_ h ?_ | refine um4_ h ?_ | refine um5_ h ?_ | refine um6_ h ?_ | refine um7_ h ?_ | refine um8_ h ?_ | refine um9_ h ?_ | refine z93 h ?_ | refine z92 h ?_); clear h; (try clear w); intro w h
   refine ⟨(0, false, ()), rfl, hk _ w ⟨ok, rA, rW, mA, mW, sA, sW, L, hA, hW, hr, rfl⟩ (St.back i hi ?_)⟩
   have h := dl2_ (dl3_ h)
   exact h.eq (by simp)
 ·rintro d j G w hf; exact hf.elim
def fGive (F : AFleet) (q : Int) : AFleet × ByteArray × Int := match fWhere F.l q with
 | none => (F, s_, 6)
 | some x => ({ F with l := fUpd F.l x.id fun p => (podGive p q).1 }, x.rev, 0)
def fKill (F : AFleet) (id : Int) : AFleet × List Int × Int := match fFind F.l id with
 | none => (F, [], 6)
 | some x => ({ F with l := fUpd F.l id fun p => (podKill p).1 }, x.pod.reqs, 0)
def eH (p : Int × Int) : List Value := [I p.1, I p.2]
theorem encH : Enc eH 2 := ⟨fun _ => rfl, fun _ => rfl, by decide⟩
theorem elH : El Pr z1v z27 2 16 (.agg #[I 0, I 0]) := zfV (by kernel_rfl) (by kernel_rfl) rfl (by decide)
def LnS (b : Nat) (room : Int) (l : List (Int × Int)) (s : Seg) : Prop := ∃ v sr, Rw eH z27 2 v l sr ∧ s = [Cl b z5E [SlV v, I room]] ++ sr
def lHas (l : List (Int × Int)) (id : Int) : Bool := l.any fun x => x.1 == id
def lPush (room : Int) (l : List (Int × Int)) (id u : Int) : List (Int × Int) × Int :=
 if lHas l id then (l, 5) else if (l.length : Int) ≥ room then (l, 8) else (l ++ [(id, u)], 0)
def lPop : List (Int × Int) → List (Int × Int) × Int × Bool
 | [] => ([], 0, false)
 | x :: l => (l, x.1, true)
def lLate (l : List (Int × Int)) (now : Int) : List Int := (l.filter fun x => x.2 ≤ now).map (·.1)
def lRest (l : List (Int × Int)) (now : Int) : List (Int × Int) := l.filter fun x => !decide (x.2 ≤ now)
theorem zmV (h : St w0 E w) {room : Int} {k : Option Addr → PT} (hk : ∀ b s w', LnS b room [] s → St w0 (s :: E) w' → k (some ⟨b, 0, none⟩) w') : L.call Pr zax [I room] (.one (.one .ptr)) k w := by
 refine z00 (zhR _) ?_
 unfold zdh
 refine nw h ?_; clear h; (try clear w); intro b w h
 exact ⟨_, rfl, hk b _ w ⟨⟨none, 0, 0⟩, [], Rw.nil, rfl⟩ (h.eq (by simp))⟩
theorem zmW (h : St w0 E w) (i : Nat) {b : Nat} {room : Int} {l : List (Int × Int)} {s : Seg} (hi : nth E i = some s) (hl : LnS b room l s) {k : Int → PT} (hk : k l.length w) : L.call Pr z5y [.pointer (some ⟨b, 0, none⟩)] (.one (.one (.int .i64))) k w := by
 obtain ⟨v, sr, hr, rfl⟩ := hl
 refine z00 (zcw _) ?_
 unfold z7W
 have h := (h.front i hi).split
 (refine nn ?_; refine ldC h ?_)
 refine ⟨_, rfl, ?_⟩
 rw [Rw.len encH hr]; exact hk
theorem zjp (h : St w0 E w) {b : Nat} {k : FV → PT} (hk : ∀ c w', St w0 ([Cl c z2O [.pointer (some ⟨b, 0, none⟩)]] :: E) w' → k ⟨.func z1G, #[], #[.pointer (some ⟨c, 0, none⟩)]⟩ w') :
  L.call Pr z1T [.pointer (some ⟨b, 0, none⟩)] (.one (.one .func)) k w := by
 refine z00 (z9g _) ?_
 unfold z5K
 refine nw h ?_; clear h; (try clear w); intro c w h
 exact ⟨_, rfl, hk c w h⟩
def argH (l : List (Int × Int)) (m : Nat) : TT [.one (.int .i64), .one (.int .i64)] := (((l[m]?).getD (0, 0)).1, ((l[m]?).getD (0, 0)).2, ())
theorem zjb {b c T : Nat} {rm : Value} {v : Sl} {l : List (Int × Int)} {sr : Seg} (hr : Rw eH z27 2 v l sr) (hn : l.length < 1000000000) :
  Yld Pr w0 [[Cl c z2O [.pointer (some ⟨b, 0, none⟩)]], [Cl b T [SlV v, rm]], sr] (.func (.func z1G) #[] #[.pointer (some ⟨c, 0, none⟩)]) l.length fun m => TV _ (argH l m) := by
 intro yv R J Jd F w h hJ step fin fin2
 have hlen := Rw.len encH hr
 refine ⟨z87, z8b yv ⟨c, 0, none⟩ ?_⟩
 unfold z4S
 (dsimp only [setN, List.cons_append, List.nil_append] at h; refine ldC h ?_; refine nn ?_; refine ldC h ?_)
 refine z0G (fun q y w => ∃ (m : Nat) (F : List Seg), @Eq Int y.1 m ∧ q + m = l.length ∧ J m F ∧ St w0 ([Cl c z2O [.pointer (some ⟨b, 0, none⟩)]] :: [Cl b T [SlV v, rm]] :: sr :: F) w) l.length ⟨0, F, rfl, rfl, hJ, h⟩ ?_
 rintro q ⟨y, ⟨⟩⟩ w ⟨m, F, hy, hq, hJ, h⟩ again hag
 simp only at hy
 subst hy
 refine it (fun hb => ?_) (fun hb => ?_) <;> (try simp only [zB] at hb)
 ·have hm : m < l.length := by omega
  have hx : l[m]? = some l[m] := List.getElem?_eq_getElem hm
  refine Rw.ix encH hr (by omega) (by simpa using hm) fun a ha => ?_
  refine Rw.lda encH h 2 rfl hr ha (x := l[m]) (by simpa using hx) rfl ?_
  refine nw h ?_; clear h; (try clear w); intro b2 w h
  (refine stC h ?_; clear h; (try clear w); intro w h; dsimp only [putN, setN] at h; refine ldC h ?_; refine ldC h ?_)
  have h := dl0_ h
  have ea : TV _ (argH l m) = [I l[m].1, I l[m].2] := by simp [argH, hx]; rfl
  have step := step m F w hm hJ h
  simp only [ea] at step
  refine cv (FCall.mono step fun u w' hu => ?_)
  rcases hu with ⟨rfl, F', h, hJ⟩ | ⟨rfl, hd⟩
  ·refine ⟨true, rfl, itF rfl (hag (q - 1) _ _ (by omega) ⟨m + 1, F', ?_, by omega, hJ, h⟩)⟩
   show IntKind.wrap .i64 _ = _
   rw [wr (by omega) (by omega)]; omega
  ·exact ⟨false, rfl, itT rfl (fin2 w' hd)⟩
 ·have e : m = l.length := by omega
  subst e
  exact fin F w hJ h
theorem zfY {l : List (Int × Int)} {m : Nat} {x : Int × Int} (hx : l[m]? = some x) : argH l m = (x.1, x.2, ()) := by simp [argH, hx]
theorem St.setN_same {s : Seg} (i : Nat) (hi : nth E i = some s) (h : St w0 (setN E i s) w) : St w0 E w := by rwa [z1F hi] at h
theorem znL (h : St w0 E w) (i : Nat) {b : Nat} {room : Int} {l : List (Int × Int)} {s : Seg} (hi : nth E i = some s) (hl : LnS b room l s) (hn : l.length < 1000000000) {k : Int × Bool × Unit → PT}
  (hk : ∀ s' w', LnS b room (lPop l).1 s' → St w0 (setN E i s') w' → k ((lPop l).2.1, (lPop l).2.2, ()) w') : L.call Pr z5x [.pointer (some ⟨b, 0, none⟩)] (.tup [.one (.int .i64), .one .bool]) k w := by
 obtain ⟨v, sr, hr, rfl⟩ := hl
 refine z00 (zcv _) ?_
 unfold z7V
 have h := (h.front i hi).split
 refine nw h ?_; clear h; (try clear w); intro b1 w h
 refine nw h ?_; clear h; (try clear w); intro b2 w h
 refine nw h ?_; clear h; (try clear w); intro b3 w h
 (refine ldC h ?_; refine nn ?_)
 refine zjp h fun c w h => ?_
 have h := fr2_ (fr5_ (fr5_ h))
 have hlen := Rw.len encH hr
 have hY := (zjb (w0 := w0) (b := b) (c := c) (T := z5E) (rm := I room) hr hn)
 cases l with
 | nil =>
  refine zbF hY h (fun m F => F = [Cl b3 z68 [.bool false]] :: [Cl b2 z0i [I 0]] :: [Cl b1 z2I [.pointer (some ⟨b, 0, none⟩)]] :: delN E i) (fun j F => False) rfl ?_ ?_ ?_
  ·intro m F w lv lp d R hm; simp at hm
  ·rintro d F w rfl h
   refine jumpN ?_
   (dsimp only [setN, List.cons_append, List.nil_append] at h; refine stC h ?_; clear h; (try clear w); intro w h; dsimp only [putN, setN] at h; refine stC h ?_; clear h; (try clear w); intro w h; dsimp only [putN, setN] at h)
   (first | refine um0_ h ?_ | refine um1_ h ?_ | refine um2_ h ?_ | refine um3_ h ?_ | refine um4_ h ?_ | refine um5_ h ?_ | refine um6_ h ?_ | refine um7_ h ?_ | refine um8_ h ?_ | refine um9_ h ?_ | refine z93 h ?_ | refine z92 h ?_); clear h; (try clear w); intro w h
   (refine ldC h ?_; refine ldC h ?_)
   refine ⟨(0, false, ()), rfl, hk _ w ⟨v, sr, hr, rfl⟩ ?_⟩
   have h := dl0_ (dl3_ (dl4_ (dl5_ h)))
   exact St.back i hi h.glue
  ·rintro d j F w hf; exact hf.elim
 | cons x l =>
  have hr' := Rw.behind encH hr 1 (by simp)
  have hc := hr.cap
  refine zbF hY h (fun m F => m = 0 ∧ F = [Cl b3 z68 [.bool false]] :: [Cl b2 z0i [I 0]] :: [Cl b1 z2I [.pointer (some ⟨b, 0, none⟩)]] :: delN E i)
   (fun j G => j = .ret ∧ ∃ s0 s1 v', Rw eH z27 2 v' l sr ∧ G = s0 :: [Cl b z5E [SlV v', I room]] :: sr :: [Cl b3 z68 [.bool true]] :: [Cl b2 z0i [I x.1]] :: s1 :: delN E i) ⟨rfl, rfl⟩ ?_ ?_ ?_
  ·rintro m F w lv lp d R hm ⟨rfl, rfl⟩ h hN hE
   rw [zfY (x := x) rfl]
   (dsimp only [setN, List.cons_append, List.nil_append] at h; refine dr h ?_; clear h; (try clear w); intro w h; refine ldC h ?_; refine ldC h ?_; refine nn ?_; refine ldC h ?_)
   simp only [List.length_cons] at hlen
   refine gd (by (try dsimp only); omega) ?_
   (refine nn ?_; refine stC h ?_; clear h; (try clear w); intro w h; dsimp only [putN, setN] at h; refine stC h ?_; clear h; (try clear w); intro w h; dsimp only [putN, setN] at h; refine stC h ?_; clear h; (try clear w); intro w h; dsimp only [putN, setN] at h)
   simp only [Int.toNat_natCast, show Int.toNat 1 = 1 from rfl] at h
   refine hE _ _ w ?_ h
   exact ⟨rfl, _, _, _, hr', rfl⟩
  ·rintro d F w ⟨hm, -⟩; simp at hm
  ·rintro d j G w ⟨rfl, _, _, v', hr', rfl⟩ h
   refine jumpR ?_
   (first | refine um0_ h ?_ | refine um1_ h ?_ | refine um2_ h ?_ | refine um3_ h ?_ | refine um4_ h ?_ | refine um5_ h ?_ | refine um6_ h ?_ | refine um7_ h ?_ | refine um8_ h ?_ | refine um9_ h ?_ | refine z93 h ?_ | refine z92 h ?_); clear h; (try clear w); intro w h
   (refine ldC h ?_; refine ldC h ?_)
   refine ⟨(x.1, true, ()), rfl, hk _ w ⟨v', sr, hr', rfl⟩ ?_⟩
   have h := dl0_ (dl3_ (dl4_ (dl5_ h)))
   exact St.back i hi h.glue
theorem znn (h : St w0 E w) (i : Nat) {b : Nat} {room : Int} {l : List (Int × Int)} {s : Seg} (hi : nth E i = some s) (hl : LnS b room l s) (hn : l.length < 1000000000) {k : Sl → PT}
  (hk : ∀ v s' w', Rw eI z0i 1 v (l.map (·.1)) s' → St w0 (s' :: E) w' → k v w') : L.call Pr z4c [.pointer (some ⟨b, 0, none⟩)] (.one (.one .slice)) k w := by
 have hl' := hl
 obtain ⟨v, sr, hr, rfl⟩ := hl
 refine z00 (zcx _) ?_
 unfold z7X
 refine zmW h i hi hl' ?_
 refine mk0 elI encI h (by omega) (by omega) (by omega) fun v2 s2 w hr2 h => ?_
 refine nw h ?_; clear h; (try clear w); intro b3 w h
 (refine stC h ?_; clear h; (try clear w); intro w h; dsimp only [putN, setN] at h; refine nn ?_)
 refine zjp h fun c w h => ?_
 have h := (h.front (i + 3) hi).split
 have h := fr2_ (fr1_ (fr1_ h))
 refine zbF (zjb hr hn) h (fun m F => ∃ v2 s2, F = [Cl b3 z0X [SlV v2]] :: s2 :: delN E i ∧ Rw eI z0i 1 v2 ((l.take m).map (·.1)) s2)
  (fun j G => False) ⟨_, _, rfl, hr2⟩ ?_ ?_ ?_
 ·rintro m F w lv lp d R hm ⟨v2, s2, rfl, hr2⟩ h hN hE
  have hx : l[m]? = some l[m] := List.getElem?_eq_getElem hm
  rw [zfY hx]
  (dsimp only [setN, List.cons_append, List.nil_append] at h; refine ldC h ?_)
  refine nw h ?_; clear h; (try clear w); intro b12 w h
  refine Rw.app encI elI h 6 rfl hr2 l[m].1 rfl (by simp; omega) (by simp; omega) fun v' s' w hr h => ?_
  (dsimp only [setN, List.cons_append, List.nil_append] at h; refine stC h ?_; clear h; (try clear w); intro w h; dsimp only [putN, setN] at h)
  refine hN _ w ⟨v', s', rfl, ?_⟩ h
  rw [List.take_add_one, hx, List.map_append]
  exact hr
 ·rintro d F w ⟨v2, s2, rfl, hr2⟩ h
  refine jumpN ?_
  (dsimp only [setN, List.cons_append, List.nil_append] at h; refine ldC h ?_)
  (first | refine um0_ h ?_ | refine um1_ h ?_ | refine um2_ h ?_ | refine um3_ h ?_ | refine um4_ h ?_ | refine um5_ h ?_ | refine um6_ h ?_ | refine um7_ h ?_ | refine um8_ h ?_ | refine um9_ h ?_ | refine z93 h ?_ | refine z92 h ?_); clear h; (try clear w); intro w h
  rw [List.take_length] at hr2
  refine ⟨v2, rfl, hk _ s2 w hr2 ?_⟩
  have h := fr3_ (fr3_ (fr4_ h))
  have h := dl3_ (dl4_ h)
  have h := St.back (i + 1) (E := s2 :: E) hi h.glue
  have h := St.setN_same (i + 1) (E := s2 :: E) hi h
  exact h
 ·rintro d j F w hf; exact hf.elim
theorem zd6 {l : List (Int × Int)} {now : Int} {m : Nat} {x : Int × Int} (hx : l[m]? = some x) : lLate (l.take (m + 1)) now = lLate (l.take m) now ++ (if x.2 ≤ now then [x.1] else []) := by
 simp only [lLate, List.take_add_one, hx, List.filter_append, List.map_append]
 congr 1
 by_cases h : x.2 ≤ now <;> simp [h]
theorem zd5 {l : List (Int × Int)} {now : Int} {m : Nat} {x : Int × Int} (hx : l[m]? = some x) : lRest (l.take (m + 1)) now = lRest (l.take m) now ++ (if x.2 ≤ now then [] else [x]) := by
 simp only [lRest, List.take_add_one, hx, List.filter_append]
 congr 1
 by_cases h : x.2 ≤ now <;> simp [h]
theorem zeC (l : List (Int × Int)) (now : Int) : (lLate l now).length ≤ l.length := by
 unfold lLate; rw [List.length_map]; exact List.length_filter_le ..
theorem zeB (l : List (Int × Int)) (now : Int) : (lRest l now).length ≤ l.length := List.length_filter_le ..
theorem znj (h : St w0 E w) (i : Nat) {b : Nat} {room : Int} {l : List (Int × Int)} {s : Seg} (hi : nth E i = some s) (hl : LnS b room l s) (hn : l.length < 1000000000) {now : Int} {k : Sl → PT}
  (hk : ∀ v s' s2 w', LnS b room (lRest l now) s' → Rw eI z0i 1 v (lLate l now) s2 → St w0 (s2 :: setN E i s') w' → k v w') : L.call Pr z4Y [.pointer (some ⟨b, 0, none⟩), I now] (.one (.one .slice)) k w := by
 obtain ⟨v, sr, hr, rfl⟩ := hl
 refine z00 (zbl _ _) ?_
 unfold z7e
 (refine nn ?_)
 refine z00 (z9f _ _) ?_
 unfold z5J
 have h := (h.front i hi).split
 refine nw h ?_; clear h; (try clear w); intro b1 w h
 refine nw h ?_; clear h; (try clear w); intro b2 w h
 refine nw h ?_; clear h; (try clear w); intro b3 w h
 refine zjp h fun c w h => ?_
 have h := fr2_ (fr5_ (fr5_ h))
 have h : St w0 ([Cl c z2O [.pointer (some ⟨b, 0, none⟩)]] :: [Cl b z5E [SlV v, I room]] :: sr :: [Cl b3 z1v [SlV ⟨none, 0, 0⟩]] :: [] :: [Cl b2 z0X [SlV ⟨none, 0, 0⟩]] :: [] :: [Cl b1 z0i [I now]] :: delN E i) w := h.eq (by simp)
 refine zbF (zjb hr hn) h (fun m F => ∃ v2 s2 v3 s3, F = [Cl b3 z1v [SlV v3]] :: s3 :: [Cl b2 z0X [SlV v2]] :: s2 :: [Cl b1 z0i [I now]] :: delN E i ∧ Rw eI z0i 1 v2 (lLate (l.take m) now) s2 ∧ Rw eH z27 2 v3 (lRest (l.take m) now) s3)
  (fun j G => False) ⟨_, _, _, _, rfl, Rw.nil, Rw.nil⟩ ?_ ?_ ?_
 ·rintro m F w lv lp d R hm ⟨v2, s2, v3, s3, rfl, hr2, hr3⟩ h hN hE
  have hx : l[m]? = some l[m] := List.getElem?_eq_getElem hm
  have n2 := zeC (l.take m) now
  have n3 := zeB (l.take m) now
  simp only [List.length_take] at n2 n3
  rw [zfY hx]
  (dsimp only [setN, List.cons_append, List.nil_append] at h; refine ldC h ?_)
  refine it (fun hb => ?_) (fun hb => ?_) <;> (try simp only [zB] at hb)
  ·(refine ldC h ?_)
   refine nw h ?_; clear h; (try clear w); intro b12 w h
   refine Rw.app encI elI h 8 rfl hr2 l[m].1 rfl (by omega) (by omega) fun v' s' w hr' h => ?_
   (dsimp only [setN, List.cons_append, List.nil_append] at h; refine stC h ?_; clear h; (try clear w); intro w h; dsimp only [putN, setN] at h)
   refine hN _ w ⟨v', s', v3, s3, rfl, ?_, ?_⟩ h
   ·rw [zd6 hx, if_pos hb]; exact hr'
   ·rw [zd5 hx, if_pos hb, List.append_nil]; exact hr3
  ·(refine ldC h ?_)
   refine nw h ?_; clear h; (try clear w); intro b15 w h
   refine Rw.app encH elH h 6 rfl hr3 l[m] rfl (by omega) (by omega) fun v' s' w hr' h => ?_
   (dsimp only [setN, List.cons_append, List.nil_append] at h; refine stC h ?_; clear h; (try clear w); intro w h; dsimp only [putN, setN] at h)
   refine hN _ w ⟨v2, s2, v', s', rfl, ?_, ?_⟩ h
   ·rw [zd6 hx, if_neg hb, List.append_nil]; exact hr2
   ·rw [zd5 hx, if_neg hb]; exact hr'
 ·rintro d F w ⟨v2, s2, v3, s3, rfl, hr2, hr3⟩ h
  refine jumpN ?_
  rw [List.take_length] at hr2 hr3
  have n2 := zeC l now
  (dsimp only [setN, List.cons_append, List.nil_append] at h; refine ldC h ?_; refine nn ?_; refine stC h ?_; clear h; (try clear w); intro w h; dsimp only [putN, setN] at h; refine ldC h ?_)
  refine z9U h (hr2.rd encI h 7 rfl) (by omega) (Rw.nil_of encI hr2) fun v' s' w hr' _ h => ?_
  (first | refine um0_ h ?_ | refine um1_ h ?_ | refine um2_ h ?_ | refine um3_ h ?_ | refine um4_ h ?_ | refine um5_ h ?_ | refine um6_ h ?_ | refine um7_ h ?_ | refine um8_ h ?_ | refine um9_ h ?_ | refine z93 h ?_ | refine z92 h ?_); clear h; (try clear w); intro w h
  refine ⟨v', rfl, v', rfl, hk v' _ s' w ⟨v3, s3, hr3, rfl⟩ hr' ?_⟩
  have h := fr3_ (fr5_ h)
  have h := dl3_ (dl4_ (dl5_ (dl6_ (dl7_ (dl8_ h)))))
  exact St.back (i + 1) (E := s' :: E) hi h.glue
 ·rintro d j F w hf; exact hf.elim
def vReq (x : ByteArray × Int) : Value := .agg #[.string x.1, I x.2]
abbrev Fate := HT [.int .i64, .int .i64, .int .i64, .str]
abbrev eFate : E1 := .agg [.int .i64, .int .i64, .int .i64, .str]
abbrev Fate.cells (f : Fate) : List Value := [I f.1, I f.2.1, I f.2.2.1, .string f.2.2.2.1]
theorem encF : Enc Fate.cells 4 := ⟨fun _ => rfl, fun _ => rfl, by decide⟩
theorem elF : El Pr z0m z0z 4 40 (.agg #[I 0, I 0, I 0, .string s_]) := zfV (by kernel_rfl) (by kernel_rfl) rfl (by decide)
structure AGate where
 all : List (Int × (ByteArray × Int))
 lines : List (ByteArray × List (Int × Int))
 room : Int
 pat : Int
structure AGate.Ok (G : AGate) : Prop where
 few : G.all.length < 100000000
 lo : 0 ≤ G.room
 hi : G.room ≤ 1000000
 ln : ∀ x ∈ G.lines, (x.2.length : Int) ≤ G.room
 nd : (G.lines.map (·.1)).Nodup
 nda : (G.all.map (·.1)).Nodup
 fl : G.lines.length < 100000000
structure LnE where
 k : ByteArray
 b : Nat
 l : List (Int × Int)
 sg : Seg
abbrev LnE.kp (x : LnE) : ByteArray × Option Addr := (x.k, some ⟨x.b, 0, none⟩)
abbrev LnE.ka (x : LnE) : ByteArray × List (Int × Int) := (x.k, x.l)
abbrev gtB (b bf rA rL c : Nat) (room pat : Int) : Seg := [Cl b zce [.pointer (some ⟨bf, 0, none⟩), .map (some rA), .map (some rL), .func (.func z66) #[] #[.pointer (some ⟨c, 0, none⟩)], I room, I pat]]
structure GtR (G : AGate) (rA rL : Nat) (sA sL : Seg) (Q : List LnE) : Prop where
 all : MpS KI vReq rA G.all sA
 lns : MpS Value.string Value.pointer rL (Q.map LnE.kp) sL
 each : ∀ x ∈ Q, LnS x.b G.room x.l x.sg
 abs : G.lines = Q.map LnE.ka
def GtS (b bf : Nat) (G : AGate) (s : Seg) : Prop := G.Ok ∧ ∃ rA rL c sA sL, ∃ Q : List LnE, GtR G rA rL sA sL Q ∧
 s = gtB b bf rA rL c G.room G.pat ++ ([Cl c z0i [I G.room]] ++ (sA ++ (sL ++ (Q.map LnE.sg).flatten)))
theorem zi1 : Pr.underlying z2f = some (.map z0i z12) := by kernel_rfl
theorem z91 : Pr.underlying z0t = some (.map z01 z2I) := by kernel_rfl
theorem zjy : Pr.underlying z01 = some .string := by kernel_rfl
theorem mkS' : MK Pr z01 Value.string := ziG zjy
theorem zln (w : World) : (zeroValue z2I).run Pr w = .ok ((E1.one .ptr).val none) w := by
 have h : (Pr.info? z2I).map (·.zero) = some (some (.pointer none)) := by kernel_rfl
 cases hi : Pr.info? z2I with
 | none => rw [hi] at h; cases h
 | some i => rw [hi] at h; simp only [Option.map_some, Option.some.injEq] at h; exact zv hi h w
theorem zn7 (h : St w0 E w) {bf : Nat} {room pat : Int} (h0 : 0 ≤ room) (h1 : room ≤ 1000000) {k : Option Addr → PT} (hk : ∀ b s w', GtS b bf ⟨[], [], room, pat⟩ s → St w0 (s :: E) w' → k (some ⟨b, 0, none⟩) w') :
  L.call Pr zaB [.pointer (some ⟨bf, 0, none⟩), I room, I pat] (.one (.one .ptr)) k w := by
 refine z00 (zhV _ _ _) ?_
 unfold zdl
 refine nw h ?_; clear h; (try clear w); intro c w h
 refine MpS.new h KI vReq fun rA sA w hA h => ?_
 refine MpS.new h Value.string Value.pointer fun rL sL w hL h => ?_
 (refine ldC h ?_)
 refine nw h ?_; clear h; (try clear w); intro b w h
 refine ⟨_, rfl, hk b _ w ⟨⟨by simp, h0, h1, by simp, by simp, by simp, by simp⟩, rA, rL, c, sA, sL, [], ⟨hA, hL, by simp, rfl⟩, rfl⟩ ?_⟩
 have h := fr3_ (fr3_ (fr2_ (fr1_ h)))
 exact h.eq (by simp)
def fset (f : Fate) (id : Int) : Fate := (id, f.2.1, f.2.2.1, f.2.2.2.1, ())
theorem zkY {b bf rA rL c : Nat} {room pat : Int} {sA : Seg} {all : List (Int × (ByteArray × Int))} (hA : MpS KI vReq rA all sA) (h : St w0 (gtB b bf rA rL c room pat :: sA :: E) w) {id : Int} {rev : ByteArray} {f : Fate} {k : eFate.T → PT}
  (hk : ∀ sA' w', MpS KI vReq rA (mset all id (rev, f.2.1)) sA' → St w0 (gtB b bf rA rL c room pat :: sA' :: E) w' → k (fset f id) w') :
  L.call Pr z4i [.pointer (some ⟨b, 0, none⟩), I id, .string rev, .agg (Fate.cells f).toArray] (.one eFate) k w := by
 refine z00 (zcA _ _ _ f) ?_
 unfold z80
 refine nw h ?_; clear h; (try clear w); intro b1 w h
 refine nw h ?_; clear h; (try clear w); intro b2 w h
 (refine stC h ?_; clear h; (try clear w); intro w h; dsimp only [putN, setN] at h; refine dr h ?_; clear h; (try clear w); intro w h; refine nn ?_; refine ldC h ?_; refine ldC h ?_)
 refine MpS.set mkI zi1 h 3 rfl hA (rev, f.2.1) rfl fun sA' w hA' h => ?_
 have h : St w0 ([Cl b2 z0z [I 0, I 0, I 0, .string s_]] :: [Cl b1 z0z [I id, I f.2.1, I f.2.2.1, .string f.2.2.2.1]] :: gtB b bf rA rL c room pat :: sA' :: E) w := h
 (refine laC h ?_; refine stC h ?_; clear h; (try clear w); intro w h; dsimp only [putN, setN] at h; refine laC h ?_)
 exact ⟨fset f id, rfl, hk sA' w hA' (dl0_ (dl0_ h))⟩
theorem zn5 (h : St w0 E w) {s : ByteArray} {k : eFate.T → PT} (hk : ∀ w', St w0 E w' → k (0, 4, 0, s, ()) w') : L.call Pr zaA [.string s] (.one eFate) k w := by
 refine z00 (zhU _) ?_
 unfold zdk
 refine nw h ?_; clear h; (try clear w); intro b1 w h
 (refine stC h ?_; clear h; (try clear w); intro w h; dsimp only [putN, setN] at h; refine laC h ?_)
 exact ⟨_, rfl, hk w (dl0_ h)⟩
def gSeen (all : List (Int × (ByteArray × Int))) (id : Int) : Bool := (mget all id).isSome
def gSend (F : AFleet) (all : List (Int × (ByteArray × Int))) (id : Int) (rev : ByteArray) : AFleet × List (Int × (ByteArray × Int)) × Fate × Bool :=
 if (fTake F rev id).2.2 = true then ((fTake F rev id).1, mset all id (rev, 1), (id, 1, (fTake F rev id).2.1, s_, ()), true) else ((fTake F rev id).1, all, (0, 0, 0, s_, ()), false)
theorem zlZ {b bf rA rL c : Nat} {room pat : Int} {sA sf : Seg} {all : List (Int × (ByteArray × Int))} {F : AFleet} (hA : MpS KI vReq rA all sA) (hf : FlS bf F sf) (h20 : F.l.length ≤ 30) (hfew : ∀ x ∈ F.l, x.pod.reqs.length < 10000000) (h : St w0 (gtB b bf rA rL c room pat :: sA :: sf :: E) w) {id : Int} {rev : ByteArray} {k : eFate.T × Bool × Unit → PT}
  (hk : ∀ sA' sf' w', MpS KI vReq rA (gSend F all id rev).2.1 sA' → FlS bf (gSend F all id rev).1 sf' → St w0 (gtB b bf rA rL c room pat :: sA' :: sf' :: E) w' → k ((gSend F all id rev).2.2.1, (gSend F all id rev).2.2.2, ()) w') :
  L.call Pr z50 [.pointer (some ⟨b, 0, none⟩), I id, .string rev] (.tup [eFate, .one .bool]) k w := by
 refine z00 (zbq _ _ _) ?_
 unfold z7j
 unfold gSend at hk
 refine nw h ?_; clear h; (try clear w); intro b1 w h
 (refine nn ?_; refine ldC h ?_)
 have hrl : (revs F.l rev).length ≤ 30 := Nat.le_trans (List.length_filter_le ..) h20
 refine zm4 h 3 rfl hf hrl hfew fun sf' w hf' h => ?_
 have h : St w0 ([Cl b1 z0z [I 0, I 0, I 0, .string s_]] :: gtB b bf rA rL c room pat :: sA :: sf' :: E) w := h
 refine it (fun hc => ?_) (fun hc => ?_) <;> (try simp only [zB] at hc)
 ·rw [if_neg (by simp [hc])] at hk
  (refine stC h ?_; clear h; (try clear w); intro w h; dsimp only [putN, setN] at h; refine laC h ?_)
  exact ⟨(_, false, ()), rfl, hk sA sf' w hA hf' (dl0_ h)⟩
 ·rw [if_pos hc] at hk
  have h := fr2_ (fr2_ h)
  refine zkY (f := (0, 1, (fTake F rev id).2.1, s_, ())) hA h fun sA' w hA' h => ?_
  (refine stC h ?_; clear h; (try clear w); intro w h; dsimp only [putN, setN] at h; refine laC h ?_)
  refine ⟨((id, 1, (fTake F rev id).2.1, s_, ()), true, ()), rfl, hk sA' sf' w hA' hf' ?_⟩
  have h := dl2_ h
  exact h
theorem zdL {G : AGate} {b bf rA rL c : Nat} {sA sL : Seg} {Q : List LnE} (ok : G.Ok) (hr : GtR G rA rL sA sL Q) (h : St w0 (gtB b bf rA rL c G.room G.pat :: [Cl c z0i [I G.room]] :: sA :: sL :: (Q.map LnE.sg).flatten :: E) w) :
  ∃ s, GtS b bf G s ∧ St w0 (s :: E) w := ⟨_, ⟨ok, rA, rL, c, sA, sL, Q, hr, rfl⟩, h.glue5⟩
def lineOf (ls : List (ByteArray × List (Int × Int))) (rev : ByteArray) : List (Int × Int) := (mget ls rev).getD []
theorem zbH {Q : List LnE} {rev : ByteArray} : mget (Q.map LnE.kp) rev = (lfind LnE.k Q rev).map fun x => some ⟨x.b, 0, none⟩ := z7K (key := LnE.k) (fun x : LnE => (some ⟨x.b, 0, none⟩ : Option Addr)) rev Q
theorem zbI {Q : List LnE} {rev : ByteArray} : mget (Q.map LnE.ka) rev = (lfind LnE.k Q rev).map LnE.l := z7K (key := LnE.k) LnE.l rev Q
theorem znE {b bf rA rL c : Nat} {room pat : Int} {sL : Seg} {Q : List LnE} (hL : MpS Value.string Value.pointer rL (Q.map LnE.kp) sL) (hQ : ∀ x ∈ Q, LnS x.b room x.l x.sg)
  (h : St w0 (gtB b bf rA rL c room pat :: [Cl c z0i [I room]] :: sL :: (Q.map LnE.sg).flatten :: E) w) {rev : ByteArray} {a : Addr} (ha : a = ⟨b, 2, none⟩) {k : Option Addr → PT}
  (hk : ∀ sL' A x B w', (∀ y ∈ A ++ x :: B, LnS y.b room y.l y.sg) → MpS Value.string Value.pointer rL ((A ++ x :: B).map LnE.kp) sL' → x.k = rev → x.l = lineOf (Q.map LnE.ka) rev → (A ++ x :: B).map LnE.ka = mset (Q.map LnE.ka) rev (lineOf (Q.map LnE.ka) rev) →
   St w0 (gtB b bf rA rL c room pat :: [Cl c z0i [I room]] :: sL' :: ((A ++ x :: B).map LnE.sg).flatten :: E) w' → k (some ⟨x.b, 0, none⟩) w') :
  L.call Pr z2v [.pointer (some a), .string rev] (.one (.one .ptr)) k w := by
 subst ha
 refine z00 (z6J _ _) ?_
 unfold z48
 refine jd ?_
 (refine nn ?_; refine ldC h ?_)
 refine MpS.get2 mkS' z91 zln (fun x : Option Addr => x) (fun _ => rfl) h 2 rfl hL ?_
 (try dsimp only)
 cases hf : lfind LnE.k Q rev with
 | some x =>
  have e1 := zbH (Q := Q) (rev := rev)
  have e2 := zbI (Q := Q) (rev := rev)
  rw [hf] at e1 e2
  simp only [Option.map_some] at e1 e2
  rw [e1]
  refine itF rfl ?_
  (refine nn ?_; refine ldC h ?_)
  refine MpS.get mkS' z91 zln (fun x : Option Addr => x) (fun _ => rfl) h 2 rfl hL ?_
  rw [e1]
  obtain ⟨A, B, e, hx⟩ := z8u hf
  subst e
  refine ⟨_, rfl, hk sL A x B w hQ hL hx ?_ ?_ h⟩
  ·unfold lineOf; rw [e2]; rfl
  ·unfold lineOf; rw [e2]; exact (zc1 e2).symm
 | none =>
  have e1 := zbH (Q := Q) (rev := rev)
  have e2 := zbI (Q := Q) (rev := rev)
  rw [hf] at e1 e2
  simp only [Option.map_none] at e1 e2
  rw [e1]
  refine itT rfl ?_
  (refine dr h ?_; clear h; (try clear w); intro w h; refine nn ?_; refine ldC h ?_; refine nn ?_; refine ldC h ?_)
  refine z3U (fs := #[]) (cs := #[.pointer (some ⟨c, 0, none⟩)]) zf9 (zfi ⟨c, 0, none⟩) ?_
  unfold zbb
  (refine ldC h ?_)
  refine zmV h fun b2 s2 w hl h => ⟨_, rfl, ?_⟩
  have h := fr4_ (fr4_ (fr4_ (fr4_ h)))
  (refine ckC h ?_)
  refine MpS.set mkS' z91 h 2 rfl hL (some ⟨b2, 0, none⟩) rfl fun sL' w hL' h => ?_
  rw [z3l e1] at hL'
  have h : St w0 (gtB b bf rA rL c room pat :: [Cl c z0i [I room]] :: sL' :: (Q.map LnE.sg).flatten :: s2 :: E) w := h
  have ekp : Q.map LnE.kp ++ [(rev, some (⟨b2, 0, none⟩ : Addr))] = (Q ++ [(⟨rev, b2, [], s2⟩ : LnE)]).map LnE.kp := by simp
  rw [ekp] at hL'
  (refine nn ?_; refine ldC h ?_)
  refine MpS.get mkS' z91 zln (fun x : Option Addr => x) (fun _ => rfl) h 2 rfl hL' ?_
  have e3 : mget ((Q ++ [(⟨rev, b2, [], s2⟩ : LnE)]).map LnE.kp) rev = some (some ⟨b2, 0, none⟩) := by
   rw [← ekp, ← z3l e1, z5B, if_pos rfl]
  rw [e3]
  refine ⟨_, rfl, hk sL' Q ⟨rev, b2, [], s2⟩ [] w ?_ hL' rfl ?_ ?_ ?_⟩
  ·intro y hy
   rcases List.mem_append.1 hy with hy | hy
   ·exact hQ y hy
   ·simp at hy; subst hy; exact hl
  ·unfold lineOf; rw [e2]; rfl
  ·unfold lineOf; rw [e2, z3l e2]; simp
  ·exact h.eq (by simp)
theorem zkk {F : AFleet} {rev : ByteArray} {q : Int} (h : (fTake F rev q).2.2 = false) : (fTake F rev q).1 = F := by
 unfold fTake at *
 split
 ·rfl
 ·rename_i hw; rw [if_neg hw] at h
  split at h
  ·rename_i hp; simp [hp]
  ·cases h
theorem z2S {G : AGate} (ok : G.Ok) (rev : ByteArray) : ((lineOf G.lines rev).length : Int) ≤ G.room := by
 unfold lineOf
 cases h : mget G.lines rev with
 | none => simp; exact ok.lo
 | some l => exact ok.ln _ (z3T h)
theorem AGate.Ok.line {G : AGate} (ok : G.Ok) (hl : G.lines.length < 90000000) (rev : ByteArray) {l : List (Int × Int)} (h : (l.length : Int) ≤ G.room) : ({ G with lines := mset G.lines rev l } : AGate).Ok := by
 refine ⟨ok.few, ok.lo, ok.hi, fun x hx => ?_, zaD ok.nd, ok.nda, ?_⟩
 ·rcases z1A hx with rfl | hx
  ·exact h
  ·exact ok.ln x hx
 ·have := z6T G.lines rev l; simp only; omega
theorem AGate.Ok.req {G : AGate} (ok : G.Ok) (hn : G.all.length < 90000000) (id : Int) (x : ByteArray × Int) : ({ G with all := mset G.all id x } : AGate).Ok := by
 refine ⟨?_, ok.lo, ok.hi, ok.ln, ok.nd, zaD ok.nda, ok.fl⟩
 have := z6T G.all id x; simp only; omega
def gArr (F : AFleet) (G : AGate) (id : Int) (rev : ByteArray) (now : Int) : AFleet × AGate × Fate :=
 if gSeen G.all id = true then (F, G, (id, 4, 0, zfv, ()))
 else if rev = s_ then (F, { G with all := mset G.all id (s_, 4) }, (id, 4, 0, zhc, ()))
 else if (lineOf G.lines rev).length = 0 ∧ (fTake F rev id).2.2 = true then
  ((fTake F rev id).1, { G with all := mset G.all id (rev, 1), lines := mset G.lines rev (lineOf G.lines rev) }, (id, 1, (fTake F rev id).2.1, s_, ()))
 else if (lPush G.room (lineOf G.lines rev) id (now + G.pat)).2 ≠ 0 then
  (F, { G with all := mset G.all id (rev, 4), lines := mset G.lines rev (lineOf G.lines rev) }, (id, 4, 0, zhb, ()))
 else (F, { G with all := mset G.all id (rev, 2), lines := mset G.lines rev (lPush G.room (lineOf G.lines rev) id (now + G.pat)).1 }, (id, 2, 0, s_, ()))
abbrev podsMost : Int := 30
structure FFew (F : AFleet) : Prop where
 r : F.room ≤ podsMost
 l : (F.l.length : Int) ≤ max F.room 0
 q : ∀ x ∈ F.l, x.pod.reqs.length ≤ 1000 ∧ x.pod.conc ≤ 1000
theorem FFew.l20 {F : AFleet} (h : FFew F) : F.l.length ≤ 30 := by have := h.r; have := h.l; unfold podsMost at *; omega
theorem FFew.q7 {F : AFleet} (h : FFew F) : ∀ x ∈ F.l, x.pod.reqs.length < 10000000 := fun x hx => by have := (h.q x hx).1; omega
theorem zdO {l : List AHeld} {id : Int} {g : APod → APod} {y : AHeld} (h : y ∈ fUpd l id g) : y ∈ l ∨ ∃ x ∈ l, x.id = id ∧ y = { x with pod := g x.pod } := by
 unfold fUpd at h
 obtain ⟨x, hx, hy⟩ := List.mem_filterMap.1 h
 split at hy
 ·rename_i e
  split at hy
  ·cases hy
  ·cases hy; exact .inr ⟨x, hx, e, rfl⟩
 ·cases hy; exact .inl hx
theorem zkj (l : List AHeld) (id : Int) (g : APod → APod) : (fUpd l id g).length ≤ l.length := List.length_filterMap_le ..
theorem FFew.upd {F : AFleet} (h : FFew F) (id : Int) (g : APod → APod) (hg : ∀ x ∈ F.l, x.id = id → (g x.pod).reqs.length ≤ 1000 ∧ (g x.pod).conc ≤ 1000) : FFew { F with l := fUpd F.l id g } := by
 refine ⟨h.r, ?_, fun y hy => ?_⟩
 ·have := h.l; have := zkj F.l id g; simp only; omega
 ·rcases zdO hy with hy | ⟨x, hx, hid, rfl⟩
  ·exact h.q y hy
  ·exact hg x hx hid
theorem zfB {p : APod} {q : Int} (h : p.reqs.length ≤ 1000 ∧ p.conc ≤ 1000) : (podTake p q).1.reqs.length ≤ 1000 ∧ (podTake p q).1.conc ≤ 1000 := by
 unfold podTake; split
 ·exact h
 ·split
  ·exact h
  ·split
   ·exact h
   ·rename_i h3
    have := (z7M q p.reqs).length_eq
    simp only [List.length_cons] at this
    refine ⟨?_, h.2⟩
    simp only; omega
theorem FFew.take {F : AFleet} (h : FFew F) (rev : ByteArray) (q : Int) : FFew (fTake F rev q).1 := by
 unfold fTake; split
 ·exact h
 ·split
  ·exact h
  ·exact h.upd _ _ fun x hx _ => zfB (h.q x hx)
theorem FFew.kill {F : AFleet} (h : FFew F) (id : Int) : FFew (fKill F id).1 := by
 unfold fKill; split
 ·exact h
 ·refine h.upd _ _ fun x hx _ => ?_
  unfold podKill; split
  ·exact h.q x hx
  ·exact ⟨by simp, (h.q x hx).2⟩
theorem FFew.up {F : AFleet} (h : FFew F) (id : Int) : FFew { F with l := fUpd F.l id fun p => (podUp p).1 } := by
 refine h.upd _ _ fun x hx _ => ?_
 unfold podUp; split <;> exact h.q x hx
theorem FFew.drain {F : AFleet} (h : FFew F) (rev : ByteArray) : FFew (drain1 rev F) := by
 refine h.upd _ _ fun x hx _ => ?_
 unfold podDrain; split <;> exact h.q x hx
theorem FFew.shrink (rev : ByteArray) : ∀ (n : Nat) {F : AFleet}, FFew F → FFew (YtkmalcoocklikaaGreatDoor.shrink rev n F).1
 | 0, _, h => h
 | n + 1, F, h => FFew.shrink rev n (h.drain rev)
theorem FFew.grow1 {F : AFleet} (h : FFew F) (rev : ByteArray) {conc : Int} (hc : conc ≤ 1000) (hl : (F.l.length : Int) + 1 ≤ max F.room 0) : FFew (YtkmalcoocklikaaGreatDoor.grow1 rev conc F) := by
 refine ⟨h.r, ?_, fun x hx => ?_⟩
 ·simp only [YtkmalcoocklikaaGreatDoor.grow1, List.length_append, List.length_cons, List.length_nil]; omega
 ·rcases List.mem_append.1 hx with hx | hx
  ·exact h.q x hx
  ·simp at hx; subst hx; exact ⟨by simp, hc⟩
theorem FFew.grow (rev : ByteArray) {conc : Int} (hc : conc ≤ 1000) : ∀ (n : Nat) {F : AFleet}, FFew F → (F.l.length : Int) + n ≤ max F.room 0 → FFew (YtkmalcoocklikaaGreatDoor.grow rev conc n F)
 | 0, _, h, _ => h
 | n + 1, F, h, hl => by
  have h1 := FFew.grow rev hc n h (by omega)
  refine h1.grow1 rev hc ?_
  rw [z9G, z9F]; omega
theorem FFew.scale {F : AFleet} (h : FFew F) (rev : ByteArray) {conc : Int} (hc : conc ≤ 1000) (want : Int) : FFew (fScale F rev conc want).1 := by
 refine FFew.shrink rev _ (FFew.grow rev hc _ h ?_)
 have := h.l
 unfold growN; omega
theorem zey {A B : List LnE} {x : LnE} {s' : Seg} {l' : List (Int × Int)} {ls : List (ByteArray × List (Int × Int))} {rev : ByteArray} {l : List (Int × Int)} (e : (A ++ x :: B).map LnE.ka = mset ls rev l) (hx : x.k = rev) (hnd : ((A ++ x :: B).map LnE.ka).map (·.1) |>.Nodup) :
  (A ++ (⟨x.k, x.b, l', s'⟩ : LnE) :: B).map LnE.ka = mset ls rev l' := by
 have h1 : mget ((A ++ x :: B).map LnE.ka) rev = some x.l := z9b hnd (by rw [← hx]; exact List.mem_map_of_mem (f := LnE.ka) (by simp))
 have h2 : mset ((A ++ x :: B).map LnE.ka) rev l' = (A ++ (⟨x.k, x.b, l', s'⟩ : LnE) :: B).map LnE.ka := by
  clear e h1
  induction A with
  | nil => simp [mset, hx]
  | cons y A ih =>
   have hne : y.k ≠ rev := by
    intro e
    have := hnd
    simp only [List.cons_append, List.map_cons, List.nodup_cons] at this
    refine this.1 ?_
    rw [e, ← hx]
    simp
   simp only [List.cons_append, List.map_cons, mset]
   rw [if_neg hne]
   congr 1
   refine ih ?_
   have := hnd
   simp only [List.cons_append, List.map_cons, List.nodup_cons] at this
   exact this.2
 rw [← h2, e, zev]
abbrev Alls := List (Int × (ByteArray × Int))
def flowA (rev : ByteArray) : List (Int × Int) → AFleet → Alls → List Fate → AFleet × Alls × List (Int × Int) × List Fate
 | [], F, all, out => (F, all, [], out)
 | x :: l, F, all, out => if (fTake F rev x.1).2.2 = true then flowA rev l (fTake F rev x.1).1 (mset all x.1 (rev, 1)) (out ++ [(x.1, 1, (fTake F rev x.1).2.1, s_, ())]) else (F, all, x :: l, out)
theorem z7N {rev : ByteArray} : ∀ {l : List (Int × Int)} {F : AFleet} {all : Alls} {out : List Fate}, (flowA rev l F all out).2.1.length ≤ all.length + l.length ∧ (flowA rev l F all out).2.2.1.length ≤ l.length ∧ (flowA rev l F all out).2.2.2.length ≤ out.length + l.length
 | [], _, _, _ => by simp [flowA]
 | x :: l, F, all, out => by
  unfold flowA; split
  ·have := z7N (rev := rev) (l := l) (F := (fTake F rev x.1).1) (all := mset all x.1 (rev, 1)) (out := out ++ [(x.1, 1, (fTake F rev x.1).2.1, s_, ())])
   have h2 := z6T all x.1 (rev, (1 : Int))
   simp only [List.length_append, List.length_cons, List.length_nil] at this ⊢
   omega
  ·simp
theorem zgO {rev : ByteArray} : ∀ {l : List (Int × Int)} {F : AFleet} {all : Alls} {out : List Fate}, (all.map (·.1)).Nodup → ((flowA rev l F all out).2.1.map (·.1)).Nodup
 | [], _, _, _, h => h
 | x :: l, F, all, out, h => by
  unfold flowA; split
  ·exact zgO (zaD h)
  ·exact h
def gFlow (F : AFleet) (G : AGate) (rev : ByteArray) : AFleet × AGate × List Fate :=
 ((flowA rev (lineOf G.lines rev) F G.all []).1, { G with all := (flowA rev (lineOf G.lines rev) F G.all []).2.1, lines := mset G.lines rev (flowA rev (lineOf G.lines rev) F G.all []).2.2.1 }, (flowA rev (lineOf G.lines rev) F G.all []).2.2.2)
theorem zh1 (h : St w0 E w) {v : Sl} {l : List Fate} (r : Rd w Fate.cells v l) (hn : l.length < 1000000000) (h64 : v.a = none → l = []) {k : Sl → PT}
  (hk : ∀ v' s' w', Rw Fate.cells z0z 4 v' l s' → St w0 (s' :: E) w' → k v' w') : L.call Pr z0U [SlV v] (.one (.one .slice)) k w := by
 refine z00 (z4a v) ?_
 unfold z2g
 exact z9P (K := fun v w' => ∃ x, v = RT.val (.one (.one .slice)) x ∧ k x w') encF elF h r (by omega) (by omega) h64 fun v' s' w' h1 h2 h3 => ⟨v', rfl, hk v' s' w' h1 h3⟩
theorem zke {F : AFleet} {G : AGate} (ok : G.Ok) (hn : G.all.length < 90000000) (hl : G.lines.length < 90000000) (rev : ByteArray) : (gFlow F G rev).2.1.Ok := by
 have hlen := z2S ok rev
 have h1 := z7N (rev := rev) (l := lineOf G.lines rev) (F := F) (all := G.all) (out := [])
 have hhi := ok.hi
 unfold gFlow
 refine ⟨by simp only; omega, ok.lo, ok.hi, fun x hx => ?_, zaD ok.nd, zgO ok.nda, ?_⟩
 ·rcases z1A hx with rfl | hx
  ·simp only; omega
  ·exact ok.ln x hx
 ·have := z6T G.lines rev (flowA rev (lineOf G.lines rev) F G.all []).2.2.1
  simp only; omega
theorem zm3 {sg sf : Seg} (h : St w0 (sg :: sf :: E) w) {b bf : Nat} {G : AGate} {F : AFleet} (hg : GtS b bf G sg) (hf : FlS bf F sf) (hfew : FFew F) (hn : G.all.length < 90000000) (hl : G.lines.length < 90000000) {rev : ByteArray} {k : Sl → PT}
  (hk : ∀ v sv sg' sf' w', Rw Fate.cells z0z 4 v (gFlow F G rev).2.2 sv → GtS b bf (gFlow F G rev).2.1 sg' → FlS bf (gFlow F G rev).1 sf' → St w0 (sv :: sg' :: sf' :: E) w' → k v w') :
  L.call Pr z54 [.pointer (some ⟨b, 0, none⟩), .string rev] (.one (.one .slice)) k w := by
 have ok' := zke (F := F) hg.1 hn hl rev
 obtain ⟨ok, rA, rL, c, sA, sL, Q, hr, rfl⟩ := hg
 refine z00 (zbs _ _) ?_
 unfold z7l
 have h := h.split5
 have h := fr3_ (fr3_ (fr4_ (fr4_ h)))
 (refine nn ?_)
 refine znE (rev := rev) hr.lns hr.each h rfl fun sL' A x B w hQ' hL' hxk hxl hab h => ?_
 rw [← hr.abs] at hxl hab
 have hlen := z2S ok rev
 have hnd : (((A ++ x :: B).map LnE.ka).map (·.1)).Nodup := by rw [hab]; exact zaD ok.nd
 have hx : LnS x.b G.room x.l x.sg := hQ' x (by simp)
 have hhi := ok.hi
 have hfl := z7N (rev := rev) (l := lineOf G.lines rev) (F := F) (all := G.all) (out := [])
 have hll : x.l.length < 1000000000 := by rw [hxl]; omega
 have h := fr3_ (fr2_ (fr2_ (fr2_ h)))
 have h := h.pick
 refine z1k (fun z w => ∃ v sv sA' sx' sf', z = (v, ()) ∧ Rw Fate.cells z0z 4 v (gFlow F G rev).2.2 sv ∧ MpS KI vReq rA (gFlow F G rev).2.1.all sA' ∧ LnS x.b G.room (flowA rev (lineOf G.lines rev) F G.all []).2.2.1 sx' ∧ FlS bf (gFlow F G rev).1 sf' ∧
   St w0 (gtB b bf rA rL c G.room G.pat :: sA' :: sf' :: sx' :: sv :: ((A ++ B).map LnE.sg).flatten :: [Cl c z0i [I G.room]] :: sL' :: E) w) (fun k3 hk3 => ?_) (fun z w ⟨v, sv, sA', sx', sf', hz, hrv, hA', hx', hf', h⟩ => ?_)
 ·refine znn h 0 rfl hx hll fun v5 s5 w hr5 h => ?_
  rw [hxl] at hr5 hx
  have hl5 := Rw.len encI hr5
  rw [List.length_map] at hl5
  have h : St w0 (s5 :: x.sg :: ((A ++ B).map LnE.sg).flatten :: gtB b bf rA rL c G.room G.pat :: [Cl c z0i [I G.room]] :: sL' :: sA :: sf :: E) w := h
  have h := fr5_ (fr7_ (fr7_ (fr1_ h)))
  refine z0G (fun q y w => ∃ (j : Nat) (F' : AFleet) (all' : Alls) (out : List Fate) (v : Sl) (sv sA' sx' sf' : Seg), y = (v, (j : Int), ()) ∧ q + j = (lineOf G.lines rev).length ∧ FFew F' ∧ out.length = j ∧
    flowA rev ((lineOf G.lines rev).drop j) F' all' out = flowA rev (lineOf G.lines rev) F G.all [] ∧ Rw Fate.cells z0z 4 v out sv ∧ MpS KI vReq rA all' sA' ∧ LnS x.b G.room ((lineOf G.lines rev).drop j) sx' ∧ FlS bf F' sf' ∧
    St w0 (sv :: gtB b bf rA rL c G.room G.pat :: sA' :: sf' :: sx' :: s5 :: ((A ++ B).map LnE.sg).flatten :: [Cl c z0i [I G.room]] :: sL' :: E) w) (lineOf G.lines rev).length
    ⟨0, F, G.all, [], _, [], sA, x.sg, sf, rfl, rfl, hfew, rfl, rfl, Rw.nil, hr.all, hx, hf, h.nil⟩ ?_
  clear h; (try clear w)
  rintro q y w ⟨j, F', all', out, v, sv, sA', sx', sf', rfl, hq, hfew', hol, hfa, hrv, hA', hx', hf', h⟩ again hag
  (try dsimp only)
  have done : ∀ {l' : List (Int × Int)} {F2 : AFleet} {all2 : Alls} {sA2 sx2 sf2 : Seg} {w}, flowA rev (lineOf G.lines rev) F G.all [] = (F2, all2, l', out) → MpS KI vReq rA all2 sA2 → LnS x.b G.room l' sx2 → FlS bf F2 sf2 →
    St w0 (sv :: gtB b bf rA rL c G.room G.pat :: sA2 :: sf2 :: sx2 :: s5 :: ((A ++ B).map LnE.sg).flatten :: [Cl c z0i [I G.room]] :: sL' :: E) w → k3 (⟨v.a, v.len, v.cap⟩, ()) w := by
   intro l' F2 all2 sA2 sx2 sf2 w e h1 h2 h3 h
   have h := dl5_ h
   have h := fr4_ (fr4_ (fr4_ (fr4_ h)))
   refine hk3 _ w ⟨v, sv, sA2, sx2, sf2, rfl, ?_, ?_, ?_, ?_, h⟩
   ·unfold gFlow; rw [e]; exact hrv
   ·unfold gFlow; rw [e]; exact h1
   ·rw [e]; exact h2
   ·unfold gFlow; rw [e]; exact h3
  refine it (fun hb => ?_) (fun hb => ?_) <;> (try simp only [zB] at hb)
  ·have hj : j < (lineOf G.lines rev).length := by omega
   have hxj : (lineOf G.lines rev)[j]? = some (lineOf G.lines rev)[j] := List.getElem?_eq_getElem hj
   have hdr : (lineOf G.lines rev).drop j = (lineOf G.lines rev)[j] :: (lineOf G.lines rev).drop (j + 1) := List.drop_eq_getElem_cons hj
   generalize (lineOf G.lines rev)[j] = y at hxj hdr
   refine rd1 (Rw.rd encI h 5 rfl hr5) encI (lf := .int .i64) (fun x => x) (fun x => ⟨_, rfl, rfl⟩) (by omega) hb fun y' hy' => ?_
   simp only [Int.toNat_natCast, List.getElem?_map, hxj, Option.map_some, Option.some.injEq] at hy'
   subst hy'
   have h := fr3_ (fr3_ (fr3_ h))
   refine zlZ hA' hf' hfew'.l20 hfew'.q7 h fun sA2 sf2 w hA2 hf2 h => ?_
   cases ht : (fTake F' rev y.1).2.2 with
   | false =>
    have e : gSend F' all' y.1 rev = ((fTake F' rev y.1).1, all', (0, 0, 0, s_, ()), false) := by unfold gSend; rw [if_neg (by simp [ht])]
    rw [e] at hA2 hf2 ⊢
    dsimp only at hf2
    rw [zkk ht] at hf2
    refine nw h ?_; clear h; (try clear w); intro b11 w h
    (refine stC h ?_; clear h; (try clear w); intro w h; dsimp only [putN, setN] at h)
    refine itT rfl ?_
    have h := dl0_ h
    have h := fr3_ (fr2_ (fr2_ (fr2_ h)))
    refine done ?_ hA2 hx' hf2 h
    rw [← hfa, hdr, flowA, if_neg (by simp [ht])]
   | true =>
    have e : gSend F' all' y.1 rev = ((fTake F' rev y.1).1, mset all' y.1 (rev, 1), (y.1, 1, (fTake F' rev y.1).2.1, s_, ()), true) := by unfold gSend; rw [if_pos ht]
    rw [e] at hA2 hf2 ⊢
    refine nw h ?_; clear h; (try clear w); intro b11 w h
    (refine stC h ?_; clear h; (try clear w); intro w h; dsimp only [putN, setN] at h)
    refine itF rfl ?_
    have hx2 := hx'
    refine znL h 5 rfl hx2 (by rw [List.length_drop]; omega) fun sx3 w hx3 h => ?_
    rw [hdr] at hx3
    have h : St w0 ([Cl b11 z0z [I y.1, I 1, I (fTake F' rev y.1).2.1, .string s_]] :: gtB b bf rA rL c G.room G.pat :: sA2 :: sf2 :: sv :: sx3 :: s5 :: ((A ++ B).map LnE.sg).flatten :: [Cl c z0i [I G.room]] :: sL' :: E) w := h
    (refine laC h ?_)
    refine nw h ?_; clear h; (try clear w); intro b14 w h
    refine Rw.app (l := out) encF elF h 4 rfl hrv (y.1, 1, (fTake F' rev y.1).2.1, s_, ()) rfl (by omega) (by omega) fun v' sv' w hrv' h => ?_
    have h : St w0 ([Cl b11 z0z [I y.1, I 1, I (fTake F' rev y.1).2.1, .string s_]] :: gtB b bf rA rL c G.room G.pat :: sA2 :: sf2 :: sv' :: sx3 :: s5 :: ((A ++ B).map LnE.sg).flatten :: [Cl c z0i [I G.room]] :: sL' :: E) w := h
    have h := dl0_ h
    have h := fr3_ (fr2_ (fr2_ (fr2_ h)))
    rw [wr (by omega) (by omega)]
    refine hag (q - 1) _ w (by omega) ⟨j + 1, (fTake F' rev y.1).1, mset all' y.1 (rev, 1), out ++ [(y.1, 1, (fTake F' rev y.1).2.1, s_, ())], v', sv', sA2, sx3, sf2, by simp, by omega, hfew'.take rev y.1, by simp [hol], ?_, hrv', hA2, hx3, hf2, h⟩
    rw [← hfa, hdr, flowA, if_pos ht]
  ·have e : (lineOf G.lines rev).drop j = [] := List.drop_of_length_le (by omega)
   rw [e] at hfa hx'
   exact done (l' := []) (by rw [← hfa]; rfl) hA' hx' hf' h
 ·subst hz
  have hlo : (gFlow F G rev).2.2.length < 1000000000 := by show (flowA rev (lineOf G.lines rev) F G.all []).2.2.2.length < 1000000000; simp only [List.length_nil] at hfl; omega
  refine zh1 h (Rw.rd encF h 4 rfl hrv) hlo (fun h0 => Rw.nil_of encF hrv h0) fun v' sv' w hrv' h => ⟨v', rfl, ?_⟩
  have h := dl5_ h
  have h := fr7_ (fr7_ (fr5_ (fr7_ (fr4_ (fr7_ (fr1_ (fr3_ h)))))))
  have h : St w0 (LnE.sg ⟨x.k, x.b, (flowA rev (lineOf G.lines rev) F G.all []).2.2.1, sx'⟩ :: ((A ++ B).map LnE.sg).flatten :: gtB b bf rA rL c G.room G.pat :: [Cl c z0i [I G.room]] :: sA' :: sL' :: sv' :: sf' :: E) w := h
  have h := h.place
  have h := fr6_ (fr6_ (fr6_ (fr6_ (fr2_ (fr6_ (fr6_ h))))))
  have heach : ∀ y ∈ A ++ (⟨x.k, x.b, (flowA rev (lineOf G.lines rev) F G.all []).2.2.1, sx'⟩ : LnE) :: B, LnS y.b G.room y.l y.sg := by
   intro y hy
   rcases List.mem_append.1 hy with hy | hy
   ·exact hQ' y (by simp [hy])
   ·rcases List.mem_cons.1 hy with rfl | hy
    ·exact hx'
    ·exact hQ' y (by simp [hy])
  obtain ⟨sg, hg, h⟩ := zdL (G := (gFlow F G rev).2.1) (c := c) ok' ⟨hA', by simpa using hL', heach, (zey hab hxk hnd).symm⟩ h
  have h := fr2_ (fr1_ (fr2_ h))
  exact hk v' sv' sg sf' w hrv' hg hf' h
theorem zlr {b bf : Nat} {G : AGate} {sg : Seg} (hg : GtS b bf G sg) (h : St w0 (sg :: E) w) : ∃ rA rL c sA sL, ∃ Q : List LnE, GtR G rA rL sA sL Q ∧ St w0 (gtB b bf rA rL c G.room G.pat :: [Cl c z0i [I G.room]] :: sA :: sL :: (Q.map LnE.sg).flatten :: E) w := by
 obtain ⟨ok, rA, rL, c, sA, sL, Q, hr, rfl⟩ := hg
 exact ⟨rA, rL, c, sA, sL, Q, hr, h.split5⟩
def gDone (F : AFleet) (G : AGate) (id : Int) : AFleet × AGate × List Fate × Int :=
 if (fGive F id).2.2 ≠ 0 then ((fGive F id).1, G, [], (fGive F id).2.2)
 else ((gFlow (fGive F id).1 { G with all := mset G.all id ((fGive F id).2.1, 3) } (fGive F id).2.1).1, (gFlow (fGive F id).1 { G with all := mset G.all id ((fGive F id).2.1, 3) } (fGive F id).2.1).2.1,
  (id, 3, 0, s_, ()) :: (gFlow (fGive F id).1 { G with all := mset G.all id ((fGive F id).2.1, 3) } (fGive F id).2.1).2.2, 0)
theorem ziS {F : AFleet} {G : AGate} (ok : G.Ok) (rev : ByteArray) : ((gFlow F G rev).2.2.length : Int) ≤ G.room ∧ ((gFlow F G rev).2.1.all.length : Int) ≤ G.all.length + G.room ∧ (gFlow F G rev).2.1.lines.length ≤ G.lines.length + 1 := by
 have hlen := z2S ok rev
 have h1 := z7N (rev := rev) (l := lineOf G.lines rev) (F := F) (all := G.all) (out := [])
 simp only [List.length_nil] at h1
 have h2 := z6T G.lines rev (flowA rev (lineOf G.lines rev) F G.all []).2.2.1
 refine ⟨?_, ?_, h2⟩
 ·show ((flowA rev (lineOf G.lines rev) F G.all []).2.2.2.length : Int) ≤ _; omega
 ·show ((flowA rev (lineOf G.lines rev) F G.all []).2.1.length : Int) ≤ _; omega
def reqOf (all : Alls) (id : Int) : ByteArray × Int := (mget all id).getD (s_, 0)
def lostA : List Int → Alls → List Fate → Alls × List Fate
 | [], all, out => (all, out)
 | id :: l, all, out => if (reqOf all id).2 = 1 then lostA l (mset all id ((reqOf all id).1, 4)) (out ++ [(id, 4, 0, zha, ())]) else lostA l all out
def sameReq (a b : ByteArray × Int) : Bool := (a.1 == b.1) && ((a.2 == b.2) && true)
theorem zkl (a b : ByteArray × Int) (w : World) : (Op.equalIn 10000 z12 (.agg #[.string a.1, I a.2]) (.agg #[.string b.1, I b.2])).run Pr w = .ok (sameReq a b) w := by
 have hS : Pr.underlying z12 = some (.struct (Pr.fieldsOf z12)) := by kernel_rfl
 have hp : Pr.stoodInHeld z12 = false := by kernel_rfl
 obtain ⟨a1, a2⟩ := a
 obtain ⟨b1, b2⟩ := b
 rw [show (10000 : Nat) = 9999 + 1 from rfl, run_equalIn_agg w 9999 z12 _ _ hS hp]
 have u3 := Tryz.underlying3
 have i3 := Tryz.isAgg3
 have z3 := Tryz.sizeOf3
 have u9 := Tryz.underlying9
 have i9 := Tryz.isAgg9
 have z9 := Tryz.sizeOf9
 simp only [Program.fieldsOf, Tryz.underlying191]
 go_simp
 have e : (ByteArray.toList a1 = ByteArray.toList b1) ↔ (@BEq.beq ByteArray _ a1 b1) = true := by rw [beq_toListBytes]; simp
 unfold sameReq
 by_cases h1 : (@BEq.beq ByteArray _ a1 b1) = true
 ·rw [if_pos (e.2 h1)]
  simp only [show (a1 == b1) = true from h1, Bool.true_and]
  by_cases h2 : @Eq Int a2 b2
  ·cases h2; simp
  ·simp [h2]
 ·rw [if_neg (fun h => h1 (e.1 h))]
  have : (a1 == b1) = false := by simpa using h1
  simp [this]
theorem zbV (a b : ByteArray × Int) : sameReq a b = true ↔ a = b := by
 obtain ⟨a1, a2⟩ := a
 obtain ⟨b1, b2⟩ := b
 have e : (@BEq.beq ByteArray _ a1 b1) = true ↔ a1 = b1 := zj8
 unfold sameReq
 simp only [Bool.and_eq_true, beq_iff_eq, and_true, Prod.mk.injEq]
 exact and_congr e Iff.rfl
theorem zmI (a b : ByteArray × Int) (w : World) : (do eqGuard .eql z12 (.tmp 0) (.tmp 0) (.agg #[.string a.1, I a.2]) (.agg #[.string b.1, I b.2]); binOp .eql z12 (.agg #[.string a.1, I a.2]) (.agg #[.string b.1, I b.2]) : Sem Value).run Pr w = .ok (.bool (sameReq a b)) w :=
 zkU (by kernel_rfl) (zkl a b w)
def gLost (G : AGate) (ids : List Int) : AGate × List Fate := ({ G with all := (lostA ids G.all []).1 }, (lostA ids G.all []).2)
def gWith (all : Alls) (rev : ByteArray) : List Int := isort ((all.filter fun p => decide (p.2 = (rev, 1))).map (·.1))
def gWait (G : AGate) (rev : ByteArray) : List Int := (lineOf G.lines rev).map (·.1)
def unReq : Value → ByteArray × Int
 | .agg ⟨.string s :: .int _ n :: _⟩ => (s, n)
 | _ => (s_, 0)
theorem zf1 {sg : Seg} (h : St w0 (sg :: E) w) {b bf : Nat} {G : AGate} (hg : GtS b bf G sg) {rev : ByteArray} {k : Sl × Sl × Unit → PT}
  (hk : ∀ v1 v2 s1 s2 sg' w', Rw eI z0i 1 v1 (gWait G rev) s1 → Rw eI z0i 1 v2 (gWith G.all rev) s2 → GtS b bf G sg' → St w0 (s1 :: s2 :: sg' :: E) w' → k (v1, v2, ()) w') :
  L.call Pr z33 [.pointer (some ⟨b, 0, none⟩), .string rev] (.tup [.one .slice, .one .slice]) k w := by
 have ok := hg.1
 have hfew := ok.few
 refine z00 (zai _ _) ?_
 unfold z6g
 obtain ⟨rA, rL, c, sA, sL, Q, hr, h⟩ := zlr hg h
 (refine nn ?_; refine ldC h ?_)
 have h := fr2_ h
 have h : St w0 (sA :: [] :: gtB b bf rA rL c G.room G.pat :: [Cl c z0i [I G.room]] :: sL :: (Q.map LnE.sg).flatten :: E) w := h.eq (by simp)
 refine mapRange (kv := KI) (vv := vReq) unI (fun _ => rfl) unReq (fun _ => rfl) zi1 (lk := .int .i64) (ev := .agg [.str, .int .i64]) (fun x => x) (fun _ => rfl) (fun x : ByteArray × Int => (x.1, x.2, ())) (fun _ => rfl) hr.all h
  (fun seen y F => ∃ v sv, y = (v, ()) ∧ Rw eI z0i 1 v ((seen.filter fun p => decide (p.2 = (rev, (1 : Int)))).map (·.1)) sv ∧ F = sv :: gtB b bf rA rL c G.room G.pat :: [Cl c z0i [I G.room]] :: sL :: (Q.map LnE.sg).flatten :: E)
  (y0 := (⟨none, 0, 0⟩, ())) ⟨_, [], rfl, Rw.nil, rfl⟩ ?_ ?_
 ·rintro seen id x y F X w again hsl hmem hnew ⟨v, sv, rfl, hv, rfl⟩ h hN
  have hfl := List.length_filter_le (fun p : Int × (ByteArray × Int) => decide (p.2 = (rev, 1))) seen
  have h : St w0 (sA :: sv :: (gtB b bf rA rL c G.room G.pat :: [Cl c z0i [I G.room]] :: sL :: (Q.map LnE.sg).flatten :: E ++ X)) w := h
  refine nw h ?_; clear h; (try clear w); intro b16 w h
  (dsimp only [setN, List.cons_append, List.nil_append] at h; refine stC h ?_; clear h; (try clear w); intro w h; dsimp only [putN, setN] at h; refine laC h ?_)
  unfold L.chkSem
  refine ⟨zmI x (rev, 1) w, ?_⟩
  refine it (fun hc => ?_) (fun hc => ?_)
  ·have hc : x = (rev, 1) := (zbV x (rev, 1)).1 hc
   refine nw h ?_; clear h; (try clear w); intro b18 w h
   refine Rw.app (l := (seen.filter fun p => decide (p.2 = (rev, (1 : Int)))).map (·.1)) encI elI h 2 rfl hv id rfl (by rw [List.length_map]; omega) (by rw [List.length_map]; omega) fun v' sv' w hv' h => ?_
   have h : St w0 ([Cl b16 z12 [.string x.1, I x.2]] :: sA :: sv' :: (gtB b bf rA rL c G.room G.pat :: [Cl c z0i [I G.room]] :: sL :: (Q.map LnE.sg).flatten :: E ++ X)) w := h
   refine hN (v', ()) _ w ⟨v', sv', rfl, ?_, rfl⟩ (dl0_ h)
   rw [List.filter_append, List.map_append]
   simpa [hc] using hv'
  ·have hc : ¬ x = (rev, 1) := fun e => by
    have : sameReq x (rev, 1) = true := (zbV _ _).2 e
    unfold sameReq at this; rw [this] at hc; cases hc
   refine hN (v, ()) _ w ⟨v, sv, rfl, ?_, rfl⟩ (dl0_ h)
   rw [List.filter_append, List.map_append]
   simpa [hc] using hv
 ·rintro seen y F w hp ⟨v, sv, rfl, hv, rfl⟩ h
  have hfl := List.length_filter_le (fun p : Int × (ByteArray × Int) => decide (p.2 = (rev, 1))) seen
  rw [hp.length_eq] at hfl
  (try dsimp only)
  refine zjv h 1 rfl hv (by rw [List.length_map]; omega) fun sv w hv h => ?_
  have e1 : isort ((seen.filter fun p => decide (p.2 = (rev, (1 : Int)))).map (·.1)) = gWith G.all rev := zgI ((hp.filter _).map _)
  rw [e1] at hv
  have h : St w0 (sA :: sv :: gtB b bf rA rL c G.room G.pat :: [Cl c z0i [I G.room]] :: sL :: (Q.map LnE.sg).flatten :: E) w := h
  have hgl : (gWith G.all rev).length < 1000000000 := by
   rw [← e1, z7L, List.length_map]; omega
  have fin : ∀ {v1 : Sl} {s1 : Seg} {w}, Rw eI z0i 1 v1 (gWait G rev) s1 → St w0 (s1 :: sA :: sv :: gtB b bf rA rL c G.room G.pat :: [Cl c z0i [I G.room]] :: sL :: (Q.map LnE.sg).flatten :: E) w →
    L.call Pr z0J [.slice v.a v.len v.cap] (.one (.one .slice)) (fun x14 w' => ∃ z, Value.tuple #[.slice v1.a v1.len v1.cap, .slice x14.a x14.len x14.cap] = RT.val (.tup [.one .slice, .one .slice]) z ∧ k z w') w := by
   intro v1 s1 w h1 h
   refine z9U h (Rw.rd encI h 2 rfl hv) (by omega) (fun h0 => Rw.nil_of encI hv h0) fun v2 s2 w h2 _ h => ⟨(v1, v2, ()), rfl, ?_⟩
   have h := dl3_ h
   have h := fr6_ (fr6_ (fr4_ (fr6_ (fr6_ (fr1_ h)))))
   obtain ⟨sg', hg', h⟩ := zdL ok hr h
   have h := fr2_ (fr2_ h)
   exact hk v1 v2 s1 s2 sg' w h1 h2 hg' h
  refine jd ?_
  (refine nn ?_; refine ldC h ?_)
  refine MpS.get2 mkS' z91 zln (fun x : Option Addr => x) (fun _ => rfl) h 4 rfl hr.lns ?_
  (try dsimp only)
  have e2 := zbH (Q := Q) (rev := rev)
  have e3 := zbI (Q := Q) (rev := rev)
  rw [← hr.abs] at e3
  cases hf : lfind LnE.k Q rev with
  | none =>
   rw [hf] at e2 e3
   simp only [Option.map_none] at e2 e3
   rw [e2]
   refine itF rfl ?_
   refine fin (v1 := ⟨none, 0, 0⟩) (s1 := []) ?_ h.nil
   unfold gWait lineOf; rw [e3]; exact Rw.nil
  | some x =>
   rw [hf] at e2 e3
   simp only [Option.map_some] at e2 e3
   rw [e2]
   refine itT rfl ?_
   obtain ⟨A, B, rfl, hx⟩ := z8u hf
   have hlx := hr.each x (by simp)
   have hlen := z2S ok rev
   have hhi := ok.hi
   have elo : lineOf G.lines rev = x.l := by unfold lineOf; rw [e3]; rfl
   rw [elo] at hlen
   have h := fr5_ h
   have h := h.pick
   refine znn h 0 rfl hlx (by omega) fun v1 s1 w h1 h => ?_
   have h : St w0 (s1 :: x.sg :: ((A ++ B).map LnE.sg).flatten :: sA :: sv :: gtB b bf rA rL c G.room G.pat :: [Cl c z0i [I G.room]] :: sL :: E) w := h
   have h := fr2_ (fr2_ h)
   have h : St w0 (LnE.sg x :: ((A ++ B).map LnE.sg).flatten :: s1 :: sA :: sv :: gtB b bf rA rL c G.room G.pat :: [Cl c z0i [I G.room]] :: sL :: E) w := h
   have h := h.place
   have h := fr6_ (fr6_ (fr6_ (fr6_ (fr6_ (fr6_ h)))))
   refine fin (v1 := v1) ?_ h
   unfold gWait; rw [elo]; exact h1
theorem zjl {sg : Seg} (h : St w0 (sg :: E) w) {b bf : Nat} {G : AGate} (hg : GtS b bf G sg) {rev : ByteArray} {k : Int → PT}
  (hk : ∀ sg' w', GtS b bf G sg' → St w0 (sg' :: E) w' → k (((gWait G rev).length : Int) + (gWith G.all rev).length) w') :
  L.call Pr z3Q [.pointer (some ⟨b, 0, none⟩), .string rev] (.one (.one (.int .i64))) k w := by
 have ok := hg.1
 refine z00 (zbt _ _) ?_
 unfold z7m
 refine zf1 h hg fun v1 v2 s1 s2 sg' w h1 h2 hg' h => ?_
 have e1 := Rw.len encI h1
 have e2 := Rw.len encI h2
 have hlen := z2S ok rev
 have hhi := ok.hi
 have hfew := ok.few
 have h3 : (gWait G rev).length = (lineOf G.lines rev).length := List.length_map ..
 have h4 : (gWith G.all rev).length ≤ G.all.length := by unfold gWith; rw [z7L, List.length_map]; exact List.length_filter_le ..
 refine ⟨_, rfl, ?_⟩
 (try dsimp only)
 rw [e1, e2, wr (by omega) (by omega)]
 exact hk sg' w hg' (dl0_ (dl0_ h))
end Go.Proofs.YtkmalcoocklikaaGreatDoor
namespace Go.Proofs.YtkmalcoocklikaaGreatDoor
open Go.Dm
theorem zl8 {P : Program} {r : RT} {s : Sem Value} {k : r.T → PT} {w : World} (x : r.T) (h : s.run P w = .ok (r.val x) w) (hk : k x w) : L.semR P r s k w := ⟨x, h, hk⟩
attribute [local irreducible] L.load L.store L.chk L.new L.nonnil L.guard L.ite L.draw L.idx L.sem L.semR L.semU L.chkSem L.next L.call L.callV L.join L.alts L.loop L.begin L.endRound L.range
variable {w0 w : World} {E : List Seg}
theorem zmj (n : Int) (w : World) : (Instr.typeAssert (.iface z0i (I n)) z9d z01 true).run Pr w = .ok (.tuple #[.string s_, .bool false]) w := by
 have hz := zstr w
 have hz : (zeroValue z01).run Pr w = .ok (.string s_) w := hz
 simp only [Instr.typeAssert]
 rw [Sem.run_bind, run_underlying z4F]
 simp only [Result.andThen_ok]
 rw [if_neg (by decide)]
 simp only [if_true]
 rw [Sem.run_bind, hz]
 rfl
def lineB (word : ByteArray) (l : List ByteArray) : ByteArray := joinB (word :: l)
theorem zgC {word : ByteArray} {l : List ByteArray} (h : ∀ x ∈ word :: l, x.size ≤ 100000000) (hl : l.length ≤ 1000) : (lineB word l).size < 1000000000000 := by
 have := zgG 100000000 (word :: l) h
 unfold lineB
 simp only [List.length_cons] at this
 have e : (l.length + 1) * (100000000 + 1) ≤ 1001 * (100000000 + 1) := Nat.mul_le_mul_right _ (by omega)
 omega
theorem zeT : ∀ (k : Nat) (g : Nat), g < 10 ^ (k + 1) → (Lib.decDigits g).length ≤ k + 1
 | 0, g, h => by rw [Lib.decDigits_one (by simpa using h)]; simp
 | k + 1, g, h => by
  by_cases h1 : g < 10
  ·rw [Lib.decDigits_one h1]; simp
  ·rw [Lib.decDigits, dif_neg h1, List.length_append]
   have := zeT k (g / 10) (by rw [Nat.div_lt_iff_lt_mul (by decide)]; rw [Nat.pow_succ] at h; exact h)
   simp only [List.length_singleton]
   omega
theorem zfX {x : Int} (h0 : 0 ≤ x) (h1 : x ≤ 9000000000000000000) : (decD x.toNat).size ≤ 100 := by
 have := zeT 18 x.toNat (by have : (10 : Nat) ^ (18 + 1) = 10000000000000000000 := by decide
                            omega)
 have e : (decD x.toNat).size = (Lib.decDigits x.toNat).length := by rw [← z3c, zj5]
 omega
theorem zlY (h : St w0 E w) {word : ByteArray} {v : Sl} {l : List ByteArray} (r : RdE w0 E eS v l) (hl : l.length ≤ 1000) (hs : ∀ x ∈ word :: l, x.size ≤ 100000000) {k : ByteArray → PT} (hk : ∀ w', St w0 E w' → k (lineB word l) w') :
  L.call Pr z0f [.string word, SlV v] (.one (.one .str)) k w := by
 refine z00 (z8D _ v) ?_
 unfold z58
 have hlen := Rd.len (r w h)
 refine nw h ?_; clear h; (try clear w); intro b1 w h
 refine z0G (fun q y w => ∃ (j : Nat) (s1 : Seg), @Eq Int y.2.1 j ∧ q + j = l.length ∧ Rw eS z01 1 y.1 (word :: l.take j) s1 ∧ St w0 (s1 :: E) w) l.length ⟨0, _, rfl, rfl, Rw.lit b1 [word] encS rfl rfl (by decide), h⟩ ?_
 clear h; (try clear w)
 rintro q ⟨vo, y, ⟨⟩⟩ w ⟨j, s1, hy, hq, r1, h⟩ again hag
 (try dsimp only)
 simp only at hy r1
 subst hy
 refine it (fun hb => ?_) (fun hb => ?_) <;> (try simp only [zB] at hb)
 ·have hj : j < l.length := by omega
  have hx : l[j]? = some l[j] := List.getElem?_eq_getElem hj
  have et : l.take (j + 1) = l.take j ++ [l[j]] := by rw [List.take_succ, hx]; rfl
  have rr := r w (dl0_ h)
  generalize l[j] = x at hx et
  refine jd ?_
  refine rr.ix encS (by omega) (by simpa using hj) fun a ha => ?_
  refine rr.ld0 encS ha (by simpa using hx) rfl rfl ?_
  refine itT rfl ?_
  refine nw h ?_; clear h; (try clear w); intro b8 w h
  refine Rw.app encS elS h 0 rfl r1 x rfl (by simp; omega) (by simp; omega) fun v' s1' w r1' h => ?_
  refine hag (q - 1) _ w (by omega) ⟨j + 1, s1', ?_, by omega, by rw [et]; exact r1', h⟩
  show IntKind.wrap .i64 _ = _
  rw [wr (by omega) (by omega)]; omega
 ·have e : l.take j = l := List.take_of_length_le (by omega)
  rw [e] at r1
  refine zjw h 0 rfl r1 (by simp; omega) (zgC hs hl) fun w h => ⟨_, rfl, hk w (dl0_ h)⟩
theorem zji [bTab w0] (h : St w0 E w) {word : ByteArray} {v : Sl} {l : List Int} (r : RdE w0 E eI v l) (hl : l.length ≤ 1000) (hw : word.size ≤ 100000000) (hs : ∀ x ∈ l, 0 ≤ x ∧ x ≤ 9000000000000000000) {k : ByteArray → PT} (hk : ∀ w', St w0 E w' → k (lineB word (l.map fun x => decD x.toNat)) w') :
  L.call Pr z0d [.string word, SlV v] (.one (.one .str)) k w := by
 refine z00 (zaP _ v) ?_
 unfold z6E
 have hlen := Rd.len (r w h)
 let f : Int → ByteArray := fun x => decD x.toNat
 refine nw h ?_; clear h; (try clear w); intro b1 w h
 refine z0G (fun q y w => ∃ (j : Nat) (s1 : Seg), @Eq Int y.2.1 j ∧ q + j = l.length ∧ Rw eS z01 1 y.1 (word :: (l.take j).map f) s1 ∧ St w0 (s1 :: E) w) l.length ⟨0, _, rfl, rfl, Rw.lit b1 [word] encS rfl rfl (by decide), h⟩ ?_
 clear h; (try clear w)
 rintro q ⟨vo, y, ⟨⟩⟩ w ⟨j, s1, hy, hq, r1, h⟩ again hag
 (try dsimp only)
 simp only at hy r1
 subst hy
 refine it (fun hb => ?_) (fun hb => ?_) <;> (try simp only [zB] at hb)
 ·have hj : j < l.length := by omega
  have hx : l[j]? = some l[j] := List.getElem?_eq_getElem hj
  have et : (l.take (j + 1)).map f = (l.take j).map f ++ [f l[j]] := by rw [List.take_succ, hx, List.map_append]; rfl
  have hxs := hs l[j] (List.getElem_mem hj)
  have rr := r w (dl0_ h)
  generalize l[j] = x at hx et hxs
  refine jd ?_
  refine rr.ix encI (by omega) (by simpa using hj) fun a ha => ?_
  refine rr.ld0 encI ha (by simpa using hx) rfl rfl ?_
  refine zl8 (s_, false, ()) (zmj x w) ?_
  refine itF rfl (itT rfl ?_)
  refine zmb h hxs.1 (by omega) fun w h => ?_
  refine nw h ?_; clear h; (try clear w); intro b8 w h
  refine Rw.app encS elS h 0 rfl r1 (f x) rfl (by simp; omega) (by simp; omega) fun v' s1' w r1' h => ?_
  refine hag (q - 1) _ w (by omega) ⟨j + 1, s1', ?_, by omega, by rw [et]; exact r1', h⟩
  show IntKind.wrap .i64 _ = _
  rw [wr (by omega) (by omega)]; omega
 ·have e : l.take j = l := List.take_of_length_le (by omega)
  rw [e] at r1
  refine zjw h 0 rfl r1 (by simp; omega) (zgC (fun x hx => ?_) (by simpa using hl)) fun w h => ⟨_, rfl, hk w (dl0_ h)⟩
  rcases List.mem_cons.1 hx with rfl | hx
  ·exact hw
  ·obtain ⟨y, hy, rfl⟩ := List.mem_map.1 hx
   have := zfX (hs y hy).1 (hs y hy).2
   show (decD y.toNat).size ≤ _
   omega
end Go.Proofs.YtkmalcoocklikaaGreatDoor
namespace Go.Proofs.YtkmalcoocklikaaGreatDoor
open Go.Dm
attribute [local irreducible] L.load L.store L.chk L.new L.nonnil L.guard L.ite L.draw L.idx L.sem L.semR L.semU L.chkSem L.next L.call L.callV L.join L.alts L.loop L.begin L.endRound L.range
variable {w0 w : World} {E : List Seg}
def errB (e : Int) : ByteArray :=
 if e = 0 then s_ok else if e = 1 then zkJ else if e = 2 then zmp else if e = 3 then zkM else if e = 4 then zmm else if e = 5 then zfv else if e = 6 then zkI else if e ≤ 6 then zdy
 else if e = 7 then zis else if e = 8 then zkP else if e = 9 then zir else if e = 10 then zmo else if e = 11 then zkK else if e = 12 then zkN else zdy
theorem zk5 {c : Prop} [Decidable c] {a b : ByteArray} {n : Nat} (h1 : a.size ≤ n) (h2 : b.size ≤ n) : (if c then a else b).size ≤ n := by split <;> assumption
theorem zly (e : Int) : (errB e).size ≤ 100 := by
 unfold errB
 repeat' (first | (show ByteArray.size _ ≤ _; decide) | apply zk5)
theorem zm6 {e : Int} {k : ByteArray → PT} (hk : k (errB e) w) : L.call Pr z3u [I e] (.one (.one .str)) k w := by
 refine z00 (zaT e) ?_
 unfold z6I
 unfold errB at hk
 refine it (fun h1 => ?_) (fun h1 => ?_)
 ·have h1 : e ≤ 6 := by simpa using h1
  refine z00 (zgd e) ?_
  unfold zcp
  repeat' (first | refine it (fun hc => ?_) (fun hc => ?_))
  all_goals refine ⟨_, rfl, _, rfl, ?_⟩
  all_goals exact eqk hk (by clear hk; simp_all)
 ·have h1 : ¬ e ≤ 6 := by simpa using h1
  refine z00 (zhX e) ?_
  unfold zdn
  have n0 : ¬ e = 0 := by omega
  have n1 : ¬ e = 1 := by omega
  have n2 : ¬ e = 2 := by omega
  have n3 : ¬ e = 3 := by omega
  have n4 : ¬ e = 4 := by omega
  have n5 : ¬ e = 5 := by omega
  have n6 : ¬ e = 6 := by omega
  rw [if_neg n0, if_neg n1, if_neg n2, if_neg n3, if_neg n4, if_neg n5, if_neg n6, if_neg h1] at hk
  repeat' (first | refine it (fun hc => ?_) (fun hc => ?_))
  all_goals refine ⟨_, rfl, _, rfl, ?_⟩
  all_goals exact eqk hk (by clear hk; simp_all)
theorem lineS1 {b : Nat} {x word : ByteArray} (h : St w0 ([Cl b z01 [.string x]] :: E) w) (h1 : word.size ≤ 100000000) (h2 : x.size ≤ 100000000) {k : ByteArray → PT} (hk : ∀ w', St w0 E w' → k (lineB word [x]) w') :
  L.call Pr z0f [.string word, .slice (some ⟨b, 0, none⟩) 1 1] (.one (.one .str)) k w :=
 zlY (v := ⟨some ⟨b, 0, none⟩, 1, 1⟩) (l := [x]) h (Rw.re encS 0 rfl (Rw.lit b [x] encS rfl rfl (by decide))) (by simp) (fun y hy => by
  rcases List.mem_cons.1 hy with rfl | hy
  ·exact h1
  ·rw [List.mem_singleton.1 hy]; exact h2) fun w h => hk w (dl0_ h)
theorem lineI1 [bTab w0] {b : Nat} {x : Int} {word : ByteArray} (h : St w0 ([Cl b z0i [I x]] :: E) w) (h1 : word.size ≤ 100000000) (h0 : 0 ≤ x) (h2 : x ≤ 9000000000000000000) {k : ByteArray → PT} (hk : ∀ w', St w0 E w' → k (lineB word [decD x.toNat]) w') :
  L.call Pr z0d [.string word, .slice (some ⟨b, 0, none⟩) 1 1] (.one (.one .str)) k w :=
 zji (v := ⟨some ⟨b, 0, none⟩, 1, 1⟩) (l := [x]) h (Rw.re encI 0 rfl (Rw.lit b [x] encI rfl rfl (by decide))) (by simp) h1 (fun y hy => by rw [List.mem_singleton.1 hy]; exact ⟨h0, h2⟩) fun w h => hk w (dl0_ h)
theorem lineI2 [bTab w0] {b : Nat} {x y : Int} {word : ByteArray} (h : St w0 ([Cl b z0i [I x, I y]] :: E) w) (h1 : word.size ≤ 100000000) (h0 : 0 ≤ x ∧ x ≤ 9000000000000000000) (h2 : 0 ≤ y ∧ y ≤ 9000000000000000000) {k : ByteArray → PT} (hk : ∀ w', St w0 E w' → k (lineB word [decD x.toNat, decD y.toNat]) w') :
  L.call Pr z0d [.string word, .slice (some ⟨b, 0, none⟩) 2 2] (.one (.one .str)) k w :=
 zji (v := ⟨some ⟨b, 0, none⟩, 2, 2⟩) (l := [x, y]) h (Rw.re encI 0 rfl (Rw.lit b [x, y] encI rfl rfl (by decide))) (by simp) h1 (fun z hz => by
  rcases List.mem_cons.1 hz with rfl | hz
  ·exact h0
  ·rw [List.mem_singleton.1 hz]; exact h2) fun w h => hk w (dl0_ h)
def refusedB (e : Int) : List ByteArray := [lineB s_refused [errB e]]
theorem z5I (h : St w0 E w) {e : Int} {k : Sl → PT} (hk : ∀ v s' w', Rw eS z01 1 v (refusedB e) s' → St w0 (s' :: E) w' → k v w') : L.call Pr z1d [I e] (.one (.one .slice)) k w := by
 refine z00 (zbm e) ?_
 unfold z7f
 refine zm6 ?_
 refine nw h ?_; clear h; (try clear w); intro b2 w h
 refine lineS1 h (by decide) (by have := zly e; omega) fun w h => ?_
 refine nw h ?_; clear h; (try clear w); intro b4 w h
 exact ⟨⟨some ⟨b4, 0, none⟩, 1, 1⟩, rfl, hk _ _ w (Rw.lit b4 [_] encS rfl rfl (by decide)) h⟩
theorem z6x {word x : ByteArray} : (lineB word [x]).size = word.size + 1 + x.size := by
 unfold lineB
 rw [zd7, zeD, ByteArray.size_append, ByteArray.size_append]
 rfl
def putB (word name : ByteArray) (ver no : Int) : List ByteArray := if no = 0 then [lineB (lineB word [name]) [decD ver.toNat]] else refusedB no
theorem znC [bTab w0] (h : St w0 E w) {word name : ByteArray} {ver no : Int} (h1 : word.size ≤ 1000) (h2 : name.size ≤ 1000000) (h3 : 0 ≤ ver ∧ ver ≤ 9000000000000000000) {k : Sl → PT} (hk : ∀ v s' w', Rw eS z01 1 v (putB word name ver no) s' → St w0 (s' :: E) w' → k v w') :
  L.call Pr z7F [.string word, .string name, I ver, I no] (.one (.one .slice)) k w := by
 refine z00 (zfa _ _ _ _) ?_
 unfold zb3
 unfold putB at hk
 refine it (fun hc => ?_) (fun hc => ?_)
 ·have hc : ¬ no = 0 := by simpa using hc
  rw [if_neg hc] at hk
  exact z5I h fun v s w r h => ⟨v, rfl, hk v s w r h⟩
 ·have hc : no = 0 := by simpa using hc
  rw [if_pos hc] at hk
  refine nw h ?_; clear h; (try clear w); intro b2 w h
  refine lineS1 h (by omega) (by omega) fun w h => ?_
  refine nw h ?_; clear h; (try clear w); intro b4 w h
  refine lineI1 h (by rw [z6x]; omega) h3.1 h3.2 fun w h => ?_
  refine nw h ?_; clear h; (try clear w); intro b6 w h
  exact ⟨⟨some ⟨b6, 0, none⟩, 1, 1⟩, rfl, hk _ _ w (Rw.lit b6 [_] encS rfl rfl (by decide)) h⟩
def fateB (f : Fate) : ByteArray :=
 if f.2.1 = 1 then lineB zkG [decD (@id Int f.1).toNat, decD (@id Int f.2.2.1).toNat] else if f.2.1 = 2 then lineB zio [decD (@id Int f.1).toNat] else if f.2.1 = 3 then lineB zkQ [decD (@id Int f.1).toNat]
 else lineB (lineB s_refused [decD (@id Int f.1).toNat]) [f.2.2.2.1]
structure Fate.Ok (f : Fate) : Prop where
 id : 0 ≤ @id Int f.1 ∧ @id Int f.1 ≤ 9000000000000000000
 pod : 0 ≤ @_root_.id Int f.2.2.1 ∧ @_root_.id Int f.2.2.1 ≤ 9000000000000000000
 why : f.2.2.2.1.size ≤ 1000
theorem zn9 [bTab w0] (h : St w0 E w) {f : Fate} (ok : f.Ok) {k : ByteArray → PT} (hk : ∀ w', St w0 E w' → k (fateB f) w') : L.call Pr z6N [.agg f.cells.toArray] (.one (.one .str)) k w := by
 obtain ⟨fi, fw, fp, fy, ⟨⟩⟩ := f
 obtain ⟨o1, o2, o3⟩ := ok
 simp only [id] at o1 o2
 refine z00 (zdY (fi, fw, fp, fy, ())) ?_
 unfold z9Y
 unfold fateB at hk
 refine nw h ?_; clear h; (try clear w); intro b1 w h
 (dsimp only [setN, List.cons_append, List.nil_append] at h; refine ldC h ?_)
 refine it (fun h1 => ?_) (fun h1 => ?_)
 ·rw [if_pos (by simpa using h1)] at hk
  (refine ldC h ?_; refine ldC h ?_)
  refine nw h ?_; clear h; (try clear w); intro b5 w h
  exact lineI2 h (by decide) o1 o2 fun w h => ⟨_, rfl, hk w (dl0_ h)⟩
 rw [if_neg (by simpa using h1)] at hk
 refine it (fun h2 => ?_) (fun h2 => ?_)
 ·rw [if_pos (by simpa using h2)] at hk
  (refine ldC h ?_)
  refine nw h ?_; clear h; (try clear w); intro b5 w h
  exact lineI1 h (by decide) o1.1 o1.2 fun w h => ⟨_, rfl, hk w (dl0_ h)⟩
 rw [if_neg (by simpa using h2)] at hk
 refine it (fun h3 => ?_) (fun h3 => ?_)
 ·rw [if_pos (by simpa using h3)] at hk
  (refine ldC h ?_)
  refine nw h ?_; clear h; (try clear w); intro b5 w h
  exact lineI1 h (by decide) o1.1 o1.2 fun w h => ⟨_, rfl, hk w (dl0_ h)⟩
 rw [if_neg (by simpa using h3)] at hk
 have hd := zfX o1.1 o1.2
 have hb : (lineB s_refused [decD (@id Int fi).toNat]).size ≤ 100000000 := by rw [z6x]; have : s_refused.size = 7 := rfl; simp only [id]; omega
 dsimp only at o3
 refine jd ?_
 (refine dr h ?_; clear h; (try clear w); intro w h; refine ldC h ?_; refine ldC h ?_)
 refine alts2 ?_ ?_
 ·refine nw h ?_; clear h; (try clear w); intro b17 w h
  (refine ckC h ?_)
  refine alts2 ?_ ?_
  ·refine lineI1 h (by decide) o1.1 o1.2 fun w h => ?_
   (refine ckC h ?_)
   refine nw h ?_; clear h; (try clear w); intro b19 w h
   (refine ckC h ?_)
   exact lineS1 h hb (by omega) fun w h => ⟨_, rfl, hk w (dl0_ h)⟩
  ·refine nw h ?_; clear h; (try clear w); intro b21 w h
   (refine ckC h ?_)
   have h := fr1_ h
   refine lineI1 h (by decide) o1.1 o1.2 fun w h => ?_
   (refine ckC h ?_)
   exact lineS1 h hb (by omega) fun w h => ⟨_, rfl, hk w (dl0_ h)⟩
 ·refine nw h ?_; clear h; (try clear w); intro b24 w h
  (refine ckC h ?_)
  refine nw h ?_; clear h; (try clear w); intro b25 w h
  (refine ckC h ?_)
  refine lineI1 h (by decide) o1.1 o1.2 fun w h => ?_
  (refine ckC h ?_)
  exact lineS1 h hb (by omega) fun w h => ⟨_, rfl, hk w (dl0_ h)⟩
theorem zlD [bTab w0] {c : Nat} {v : Sl} {fs : List Fate} {sv : Seg} (hr : Rw Fate.cells z0z 4 v fs sv) (hok : ∀ f ∈ fs, f.Ok) (hn : fs.length < 1000000000) :
  YldX Pr w0 [[Cl c z0m [SlV v]], sv] (.func (.func z2M) #[] #[.pointer (some ⟨c, 0, none⟩)]) (fs.map fateB).length fun i => TV _ (argS (fs.map fateB) i) := by
 intro yv R J Jd G w h hJ step fin fin2
 refine ⟨zbk, zbn yv ⟨c, 0, none⟩ ?_⟩
 unfold z7g
 have h : St w0 ([Cl c z0m [SlV v]] :: sv :: G) w := h
 have hlen := Rw.len encF hr
 (refine ldC h ?_)
 refine z0G (fun q y w => ∃ (j : Nat) (G : List Seg), @Eq Int y.1 j ∧ q + j = fs.length ∧ J j G ∧ St w0 ([Cl c z0m [SlV v]] :: sv :: G) w) fs.length ⟨0, G, rfl, rfl, hJ, h⟩ ?_
 clear hJ
 clear h; (try clear w)
 rintro q ⟨y, ⟨⟩⟩ w ⟨j, G, hy, hq, hJ, h⟩ again hag
 (try dsimp only)
 simp only at hy
 subst hy
 refine it (fun hb => ?_) (fun hb => ?_) <;> (try simp only [zB] at hb)
 ·have hj : j < fs.length := by omega
  have hx : fs[j]? = some fs[j] := List.getElem?_eq_getElem hj
  have ho := hok fs[j] (List.getElem_mem hj)
  generalize fs[j] = x at hx ho
  have next : ∀ {G w}, J (j + 1) G → St w0 ([Cl c z0m [SlV v]] :: sv :: G) w → again (IntKind.wrap .i64 ((j : Int) + 1), ()) w := by
   intro G w hJ h
   refine hag (q - 1) _ w (by omega) ⟨j + 1, G, ?_, by omega, hJ, h⟩
   show IntKind.wrap .i64 _ = _
   rw [wr (by omega) (by omega)]; omega
  refine Rw.ix encF hr (by omega) (by simpa using hj) fun a ha => ?_
  refine Rw.lda encF h 1 rfl hr ha (x := x) (by simpa using hx) rfl ?_
  refine nw h ?_; clear h; (try clear w); intro b6 w h
  (refine stC h ?_; clear h; (try clear w); intro w h; dsimp only [putN, setN] at h; refine laC h ?_)
  refine zn9 (f := x) h ho fun w h => ?_
  have h := dl0_ h
  have hat : (fs.map fateB)[j]? = some (fateB x) := by rw [List.getElem?_map, hx]; rfl
  have step := step j G [] w (by simpa using hj) hJ (by simpa using h)
  simp only [zj9 hat] at step
  refine cv (FCall.mono step fun u w' hu => ?_)
  rcases hu with ⟨rfl, G', h, hJ⟩ | ⟨rfl, hd⟩
  ·exact ⟨true, rfl, itF rfl (next hJ (by simpa using h))⟩
  ·exact ⟨false, rfl, itT rfl (fin2 w' hd)⟩
 ·have e : j = fs.length := by omega
  subst e
  exact fin G w (by simpa using hJ) h
theorem zkW [bTab w0] {s2 sv : Seg} (h : St w0 (s2 :: sv :: E) w) {v1 v2 : Sl} {fs : List Fate} {l : List ByteArray} (hr : Rw Fate.cells z0z 4 v1 fs sv) (hok : ∀ f ∈ fs, f.Ok) (hn : fs.length < 100000000) (hl : l.length < 100000000) (h2 : Rw eS z01 1 v2 l s2) {k : Sl → PT}
  (hk : ∀ v s w', Rw eS z01 1 v (l ++ fs.map fateB) s → St w0 (s :: sv :: E) w' → k v w') : L.call Pr z5k [SlV v1, SlV v2] (.one (.one .slice)) k w := by
 refine z00 (zdX v1 v2) ?_
 unfold z9X
 refine nw h ?_; clear h; (try clear w); intro b1 w h
 refine z00 (zcK v1) ?_
 unfold z8T
 refine nw h ?_; clear h; (try clear w); intro c w h
 refine ⟨⟨.func z2M, #[], #[.pointer (some ⟨c, 0, none⟩)]⟩, rfl, ?_⟩
 have h : St w0 ([[Cl c z0m [SlV v1]], sv] ++ ([Cl b1 z05 [SlV v2]] :: s2 :: E)) w := by
  have h := fr3_ (fr3_ (fr2_ (fr2_ h)))
  exact h
 refine z6s (zlD hr hok (by omega)) h (fun m G => ∃ vv s, G = [Cl b1 z05 [SlV vv]] :: s :: E ∧ Rw eS z01 1 vv (l ++ (fs.map fateB).take m) s) (fun j G => False) ⟨v2, s2, rfl, by simpa using h2⟩ ?_ ?_ ?_
 ·rintro m G X w lv lp d R hm ⟨vv, so, rfl, hr2⟩ h hN hE
  have hx : (fs.map fateB)[m]? = some (fs.map fateB)[m] := List.getElem?_eq_getElem hm
  have h : St w0 ([Rec lv lp .busy none] :: [DfM d] :: [Cl c z0m [SlV v1]] :: sv :: [Cl b1 z05 [SlV vv]] :: so :: (E ++ X)) w := h
  have et : l ++ (fs.map fateB).take (m + 1) = (l ++ (fs.map fateB).take m) ++ [(fs.map fateB)[m]] := by rw [List.take_add_one, hx, Option.toList_some, List.append_assoc]
  have hlm : (l ++ (fs.map fateB).take m).length < 300000000 := by rw [List.length_append, List.length_take, List.length_map]; omega
  rw [zj9 hx]
  generalize (fs.map fateB)[m] = x at et hx
  dsimp only
  (refine ldC h ?_)
  refine nw h ?_; clear h; (try clear w); intro b9 w h
  refine Rw.app encS elS h 5 rfl hr2 x rfl (by omega) (by omega) fun v' s' w hr' h => ?_
  (dsimp only [setN, List.cons_append, List.nil_append] at h; refine stC h ?_; clear h; (try clear w); intro w h; dsimp only [putN, setN] at h)
  exact hN _ w ⟨v', s', rfl, by rw [et]; exact hr'⟩ h
 ·rintro d G w ⟨vv, so, rfl, hr2⟩ h
  rw [List.take_length] at hr2
  have h : St w0 ([DfM d] :: [Cl c z0m [SlV v1]] :: sv :: [Cl b1 z05 [SlV vv]] :: so :: E) w := h
  refine jumpN ?_
  (refine ldC h ?_)
  refine z9W h (Rw.rd encS h 4 rfl hr2) (by rw [List.length_append, List.length_map]; omega) (Rw.nil0 encS hr2) fun v' s' w hr' hi h => ?_
  (first | refine um0_ h ?_ | refine um1_ h ?_ | refine um2_ h ?_ | refine um3_ h ?_ | refine um4_ h ?_ | refine um5_ h ?_ | refine um6_ h ?_ | refine um7_ h ?_ | refine um8_ h ?_ | refine um9_ h ?_ | refine z93 h ?_ | refine z92 h ?_); clear h; (try clear w); intro w h
  refine ⟨v', rfl, hk v' s' w hr' ?_⟩
  have h := dl1_ (dl3_ (dl4_ h))
  exact h
 ·rintro d j G w hf; exact hf.elim
theorem zkb (F : AFleet) (rev : ByteArray) (want : Int) : (growN F rev want : Int) = max 0 (min (want - fCount F.l rev) (F.room - F.l.length)) := by unfold growN; omega
theorem zh5 (F : AFleet) (rev : ByteArray) (want : Int) : (shrinkN F rev want : Int) = max 0 ((fCount F.l rev : Int) - max want 0) := by unfold shrinkN; omega
def fUpp (F : AFleet) (id : Int) : AFleet × Int := match fFind F.l id with
 | none => (F, 6)
 | some x => ({ F with l := fUpd F.l id fun p => (podUp p).1 }, (podUp x.pod).2)
theorem zna (h : St w0 E w) (i : Nat) {b : Nat} {F : AFleet} {s : Seg} (hi : nth E i = some s) (hf : FlS b F s) {id : Int} {k : Int → PT}
  (hk : ∀ s' w', FlS b (fUpp F id).1 s' → St w0 (setN E i s') w' → k (fUpp F id).2 w') :
  L.call Pr z3R [.pointer (some ⟨b, 0, none⟩), I id] (.one (.one (.int .i64))) k w := by
 refine znG h i hi hf (fun hn w h => ?_) (fun x hx s' w hf h => ?_)
 ·have e : fUpp F id = (F, 6) := by unfold fUpp; rw [hn]
  rw [e] at hk
  exact hk s w hf (by rwa [z1F hi])
 ·have e : fUpp F id = ({ F with l := fUpd F.l id fun p => (podUp p).1 }, (podUp x.pod).2) := by unfold fUpp; rw [hx]
  rw [e] at hk
  exact hk s' w hf h
def tab {α : Type} (n : Nat) (f : Nat → α) : List α := (List.range n).map f
def sk (l : List AHeld) : List (Int × ByteArray) := l.map fun x => (x.id, x.rev)
theorem FlS.nd {b : Nat} {F : AFleet} {s : Seg} (hf : FlS b F s) : ∀ x ∈ F.l, x.pod.reqs.Pairwise (· < ·) := by
 obtain ⟨-, _, _, _, _, _, _, L, -, -, hr, -⟩ := hf
 intro x hx
 rw [hr.l] at hx
 obtain ⟨t, ht, rfl⟩ := List.mem_map.1 hx
 exact (hr.ps t ht).1.pw
def tot (rs : Nat → List Int) : Nat → Nat
 | 0 => 0
 | n + 1 => tot rs n + (rs n).length
structure TL (n c m : Nat) (B : Int) (ready : Nat → Bool) (rs : Nat → List Int) : Prop where
 len : ∀ i, i < n → (rs i).length ≤ c
 nr : ∀ i, i < n → ready i = false → rs i = []
 tot : tot rs n = m
 b : ∀ i, i < n → ∀ q ∈ rs i, 1 ≤ q ∧ q ≤ B
theorem TL.fresh {n c m : Nat} {B q : Int} {ready : Nat → Bool} {rs : Nat → List Int} (t : TL n c m B ready rs) (hq : B < q) : ∀ i, i < n → q ∉ rs i := fun i hi h => by have := t.b i hi q h; omega
def lateS (rev : ByteArray) (l : List Int) (all : Alls) : Alls := l.foldl (fun a q => mset a q (rev, 4)) all
def lateF (l : List Int) : List Fate := l.map fun q => (q, 4, 0, s_timeout, ())
theorem z8v {rev : ByteArray} : ∀ {l : List Int} {all : Alls}, (∀ q ∈ l, (mget all q).isSome = true) → (lateS rev l all).map (·.1) = all.map (·.1)
 | [], _, _ => rfl
 | q :: l, all, h => by
  obtain ⟨v, hv⟩ := Option.isSome_iff_exists.1 (h q (by simp))
  have e := z6w (u := (rev, (4 : Int))) hv
  refine (z8v (l := l) (all := mset all q (rev, 4)) fun q2 h2 => ?_).trans e
  rw [z5B]
  split
  ·rfl
  ·exact h q2 (by simp [h2])
theorem zil {A B : Alls} (h : A.map (·.1) = B.map (·.1)) (q : Int) : (mget A q).isSome = (mget B q).isSome := by
 cases ha : mget A q with
 | none =>
  have := z1N.1 ha
  rw [h] at this
  rw [z1N.2 this]
 | some v =>
  cases hb : mget B q with
  | none =>
   have := z1N.1 hb
   rw [← h] at this
   rw [z1N.2 this] at ha; cases ha
  | some u => rfl
def tick1 (now : Int) (k : ByteArray) (G : AGate) : AGate := { G with all := lateS k (lLate (lineOf G.lines k) now) G.all, lines := mset G.lines k (lRest (lineOf G.lines k) now) }
def tickA (now : Int) : List ByteArray → AGate → List Fate → AGate × List Fate
 | [], G, out => (G, out)
 | k :: ks, G, out => tickA now ks (tick1 now k G) (out ++ lateF (lLate (lineOf G.lines k) now))
def gTick (G : AGate) (now : Int) : AGate × List Fate := tickA now (ssort (G.lines.map (·.1))) G []
def GWk (G : AGate) : Prop := ∀ x ∈ G.lines, ∀ y ∈ x.2, (mget G.all y.1).isSome = true
theorem zgg {now : Int} : ∀ {ks : List ByteArray} {G : AGate} {out : List Fate}, out.length ≤ (tickA now ks G out).2.length
 | [], _, _ => Nat.le_refl _
 | k :: ks, G, out => by
  have := zgg (now := now) (ks := ks) (G := tick1 now k G) (out := out ++ lateF (lLate (lineOf G.lines k) now))
  simp only [tickA, List.length_append] at this ⊢
  omega
theorem GWk.line {G : AGate} (h : GWk G) (k : ByteArray) : ∀ y ∈ lineOf G.lines k, (mget G.all y.1).isSome = true := by
 intro y hy
 unfold lineOf at hy
 cases hm : mget G.lines k with
 | none => rw [hm] at hy; simp at hy
 | some l => rw [hm] at hy; exact h _ (z3T hm) y hy
theorem GWk.late {G : AGate} (h : GWk G) (k : ByteArray) (now : Int) : ∀ q ∈ lLate (lineOf G.lines k) now, (mget G.all q).isSome = true := by
 intro q hq
 obtain ⟨y, hy, rfl⟩ := List.mem_map.1 hq
 exact h.line k y (List.mem_filter.1 hy).1
theorem GWk.tick1 {G : AGate} (h : GWk G) (k : ByteArray) (now : Int) : GWk (YtkmalcoocklikaaGreatDoor.tick1 now k G) := by
 intro x hx y hy
 have e := z8v (rev := k) (h.late k now)
 show (mget (lateS k (lLate (lineOf G.lines k) now) G.all) y.1).isSome = true
 rw [zil e]
 rcases z1A hx with rfl | hx
 ·exact h.line k y (List.mem_filter.1 hy).1
 ·exact h x hx y hy
theorem AGate.Ok.tick1 {G : AGate} (ok : G.Ok) (h : GWk G) {k : ByteArray} (hk : (mget G.lines k).isSome = true) (now : Int) : (YtkmalcoocklikaaGreatDoor.tick1 now k G).Ok := by
 have e := z8v (rev := k) (h.late k now)
 have e2 : (lateS k (lLate (lineOf G.lines k) now) G.all).length = G.all.length := by
  have := congrArg List.length e; simpa using this
 obtain ⟨v, hv⟩ := Option.isSome_iff_exists.1 hk
 refine ⟨by show (lateS k _ _).length < _; rw [e2]; exact ok.few, ok.lo, ok.hi, fun x hx => ?_, zaD ok.nd, by show ((lateS k _ _).map _).Nodup; rw [e]; exact ok.nda, ?_⟩
 ·rcases z1A hx with rfl | hx
  ·have := z2S ok k
   have := zeB (lineOf G.lines k) now
   simp only; show _ ≤ G.room; omega
  ·exact ok.ln x hx
 ·show (mset G.lines k _).length < _
  rw [zdH hv]; exact ok.fl
theorem zbP {G : AGate} {k : ByteArray} (hk : (mget G.lines k).isSome = true) (now : Int) : (tick1 now k G).lines.map (·.1) = G.lines.map (·.1) := by
 obtain ⟨v, hv⟩ := Option.isSome_iff_exists.1 hk
 exact z6w hv
abbrev KPt := List (ByteArray × Option Addr)
def argB (m : KPt) (l : List ByteArray) (i : Nat) : TT [.one .str, .one .ptr] := match l[i]? with | some k => (k, (mget m k).getD none, ()) | none => (s_, none, ())
theorem zja {m : KPt} {l : List ByteArray} {i : Nat} {k : ByteArray} (h : l[i]? = some k) : argB m l i = (k, (mget m k).getD none, ()) := by unfold argB; rw [h]
theorem zlC {m : KPt} {l : List ByteArray} {i : Nat} {k : ByteArray} (h : l[i]? = some k) : TV _ (argB m l i) = [.string k, .pointer ((mget m k).getD none)] := by rw [zja h]; rfl
theorem znk (h : St w0 E w) (i : Nat) {s : Seg} (hi : nth E i = some s) {r : Nat} {m : KPt} (hm : MpS Value.string Value.pointer r m s) (hn : m.length < 1000000000) {k : Sl → PT}
  (hk : ∀ v s' w', Rw eS z01 1 v (ssort (m.map (·.1))) s' → St w0 (s' :: E) w' → k v w') :
  L.call Pr z0E [.map (some r)] (.one (.one .func)) (fun x5 => L.call Pr z1t [.func x5.fn x5.fs x5.cs] (.one (.one .slice)) k) w := by
 refine z00 (z2i _) ?_
 unfold z13
 have h := h.front i hi
 refine nw h ?_; clear h; (try clear w); intro c w h
 refine ⟨⟨.func z0c, #[], #[.pointer (some ⟨c, 0, none⟩)]⟩, rfl, ?_⟩
 have hY : YldM Pr w0 [[Cl c z0t [.map (some r)]], s] (.func (.func z0c) #[] #[.pointer (some ⟨c, 0, none⟩)]) (m.map (·.1)) Value.string := by
  intro yv R J Jd F w h hJ step fin fin2
  refine ⟨z2a, z2c yv ⟨c, 0, none⟩ ?_⟩
  unfold z0Z
  exact zfI (kv := Value.string) (vv := Value.pointer) unS (fun _ => rfl) z91 (lk := .str) (ev := .one .ptr) (fun x => x) (fun _ => rfl) (fun x : Option Addr => x) (fun _ => rfl) J Jd hm h hJ (fun seen k F X w hl hJ h => step seen k F X w (by simpa using hl) hJ h) fin fin2
 refine z9V (fv := ⟨.func z0c, #[], #[.pointer (some ⟨c, 0, none⟩)]⟩) hY h (by simpa using hn) fun v s' w hr h => hk v s' w hr ?_
 have h := fr1_ h
 exact St.again (i + 1) (E := s' :: E) hi h
theorem zmU {c b bf rA rL cc : Nat} {room pat : Int} {m : KPt} {sL : Seg} (hL : MpS Value.string Value.pointer rL m sL) (hn : m.length < 1000000000) :
  YldX Pr w0 [[Cl c z0s [.pointer (some ⟨b, 2, none⟩)]], gtB b bf rA rL cc room pat, sL]
   (.func (.func z0W) #[] #[.pointer (some ⟨c, 0, none⟩)]) (ssort (m.map (·.1))).length fun i => TV _ (argB m (ssort (m.map (·.1))) i) := by
 intro yv R J Jd G w h hJ step fin fin2
 refine ⟨z5o, z5q yv ⟨c, 0, none⟩ ?_⟩
 unfold z38
 have h : St w0 ([Cl c z0s [.pointer (some ⟨b, 2, none⟩)]] :: gtB b bf rA rL cc room pat :: sL :: G) w := h
 (refine ldC h ?_; refine nn ?_; refine ldC h ?_)
 refine znk h 2 rfl hL hn fun v s w hrow h => ?_
 have hlen := Rw.len encS hrow
 have hl : (ssort (m.map (·.1))).length < 1000000000 := by rw [z6q, List.length_map]; exact hn
 generalize ssort (m.map (·.1)) = l at *
 refine z0G (fun q y w => ∃ (j : Nat) (G : List Seg), @Eq Int y.1 j ∧ q + j = l.length ∧ J j G ∧
  St w0 (s :: [Cl c z0s [.pointer (some ⟨b, 2, none⟩)]] :: gtB b bf rA rL cc room pat :: sL :: G) w) l.length ⟨0, G, rfl, rfl, hJ, h⟩ ?_
 clear hJ
 clear h; (try clear w)
 rintro q ⟨y, ⟨⟩⟩ w ⟨j, G, hy, hq, hJ, h⟩ again hag
 simp only at hy
 subst hy
 refine it (fun hb => ?_) (fun hb => ?_) <;> (try simp only [zB] at hb)
 ·have hj : j < l.length := by omega
  have hx : l[j]? = some l[j] := List.getElem?_eq_getElem hj
  refine Rw.ix encS hrow (by omega) (by simpa using hj) fun a ha => ?_
  refine Rw.ld0 encS h 0 rfl hrow ha (x := l[j]) (by simp [hj]) rfl rfl ?_
  (refine ldC h ?_; refine nn ?_; refine ldC h ?_)
  refine MpS.get mkS' z91 zln (fun x : Option Addr => x) (fun _ => rfl) h 3 rfl hL ?_
  have step := step _ G [s] w hj hJ (St.toEnd (X := [s]) (A := [_, _, _]) h)
  simp only [zlC hx] at step
  simp only [Option.map_id']
  refine cv (FCall.mono step fun u w' hu => ?_)
  rcases hu with ⟨rfl, G', h, hJ⟩ | ⟨rfl, hd⟩
  ·refine ⟨true, rfl, itF rfl ?_⟩
   refine hag (q - 1) _ w' (by omega) ⟨j + 1, G', ?_, by omega, hJ, St.ofEnd (X := [s]) (A := [_, _, _]) h⟩
   show IntKind.wrap .i64 _ = _
   rw [wr (by omega) (by omega)]; omega
  ·exact ⟨false, rfl, itT rfl (fin2 w' hd)⟩
 ·have e : j = l.length := by omega
  subst e
  exact fin G w hJ (dl0_ h)
theorem zhq {rev : ByteArray} {l : List Int} {j : Nat} {q : Int} {all : Alls} (h : l[j]? = some q) : lateS rev (l.take (j + 1)) all = mset (lateS rev (l.take j) all) q (rev, 4) := by
 unfold lateS; rw [List.take_add_one, h, Option.toList_some, List.foldl_append]; rfl
theorem zhr {l : List Int} {j : Nat} {q : Int} (h : l[j]? = some q) : lateF (l.take (j + 1)) = lateF (l.take j) ++ [(q, 4, 0, s_timeout, ())] := by
 unfold lateF; rw [List.take_add_one, h, Option.toList_some, List.map_append]; rfl
theorem z9E (l : List Int) : (lateF l).length = l.length := List.length_map ..
theorem zm2 {sg : Seg} (h : St w0 (sg :: E) w) {b bf : Nat} {G : AGate} (hg : GtS b bf G sg) (hw : GWk G) {now : Int} (ho : (gTick G now).2.length < 90000000) {k : Sl → PT}
  (hk : ∀ v sv sg' w', Rw Fate.cells z0z 4 v (gTick G now).2 sv → GtS b bf (gTick G now).1 sg' → St w0 (sv :: sg' :: E) w' → k v w') :
  L.call Pr z52 [.pointer (some ⟨b, 0, none⟩), I now] (.one (.one .slice)) k w := by
 obtain ⟨ok, rA, rL, c, sA, sL, Q, hr, rfl⟩ := hg
 refine z00 (zbr _ _) ?_
 unfold z7k
 have h := h.split5
 refine nw h ?_; clear h; (try clear w); intro b1 w h
 refine nw h ?_; clear h; (try clear w); intro b2 w h
 refine nw h ?_; clear h; (try clear w); intro b3 w h
 (refine ldC h ?_; refine nn ?_)
 refine z00 (z60 _) ?_
 unfold z3B
 refine nw h ?_; clear h; (try clear w); intro cc w h
 refine ⟨⟨.func z0W, #[], #[.pointer (some ⟨cc, 0, none⟩)]⟩, rfl, ?_⟩
 have h := fr3_ (fr5_ (fr7_ (fr1_ h)))
 have h := h.nil
 have h := fr4_ (fr4_ (fr4_ (fr4_ h)))
 have h : St w0 ([[Cl cc z0s [.pointer (some ⟨b, 2, none⟩)]], gtB b bf rA rL c G.room G.pat, sL] ++ ([Cl b3 z0m [SlV ⟨none, 0, 0⟩]] :: [] :: [Cl b2 z0i [I now]] :: [Cl b1 z2o [.pointer (some ⟨b, 0, none⟩)]] :: [Cl c z0i [I G.room]] :: sA :: (Q.map LnE.sg).flatten :: E)) w := h
 have enm : (Q.map LnE.kp).map (·.1) = G.lines.map (·.1) := by rw [hr.abs]; simp [List.map_map, Function.comp_def]
 have hn : (Q.map LnE.kp).length < 1000000000 := by
  have := congrArg List.length enm; have := ok.fl; simp only [List.length_map] at *; omega
 have hkeys : ssort ((Q.map LnE.kp).map (·.1)) = ssort (G.lines.map (·.1)) := by rw [enm]
 have hkm : ∀ k ∈ ssort ((Q.map LnE.kp).map (·.1)), k ∈ G.lines.map (·.1) := fun k hk => by rw [hkeys] at hk; exact z9t.1 hk
 have hgt : tickA now (ssort ((Q.map LnE.kp).map (·.1))) G [] = gTick G now := by rw [hkeys]; rfl
 refine z6s (zmU (c := cc) (b := b) (bf := bf) (rA := rA) (cc := c) (room := G.room) (pat := G.pat) hr.lns hn) h
  (fun m F => ∃ (v : Sl) (sv sA' : Seg) (Q' : List LnE) (G' : AGate) (out : List Fate), F = [Cl b3 z0m [SlV v]] :: sv :: [Cl b2 z0i [I now]] :: [Cl b1 z2o [.pointer (some ⟨b, 0, none⟩)]] :: [Cl c z0i [I G.room]] :: sA' :: (Q'.map LnE.sg).flatten :: E ∧
   Q'.map LnE.kp = Q.map LnE.kp ∧ (∀ x ∈ Q', LnS x.b G.room x.l x.sg) ∧ G'.lines = Q'.map LnE.ka ∧ G'.Ok ∧ G'.room = G.room ∧ G'.pat = G.pat ∧ GWk G' ∧ MpS KI vReq rA G'.all sA' ∧ Rw Fate.cells z0z 4 v out sv ∧
   tickA now ((ssort ((Q.map LnE.kp).map (·.1))).drop m) G' out = gTick G now)
  (fun j G => False) ⟨_, _, sA, Q, G, [], rfl, rfl, hr.each, hr.abs, ok, rfl, rfl, hw, hr.all, Rw.nil, hgt⟩ ?_ ?_ ?_
 ·rintro m F X w lv lp d R hm ⟨v, sv, sA', Q', G', out, rfl, hkp, hQ', hln, ok', er, ep, hw', hA', hv, hT⟩ h hN hE
  have hx : (ssort ((Q.map LnE.kp).map (·.1)))[m]? = some (ssort ((Q.map LnE.kp).map (·.1)))[m] := List.getElem?_eq_getElem hm
  have hdr := List.drop_eq_getElem_cons hm
  have hmem := hkm _ (List.mem_of_getElem? hx)
  generalize (ssort ((Q.map LnE.kp).map (·.1)))[m] = key at hx hdr hmem
  rw [zja hx]
  rw [hdr] at hT
  have enm' : G'.lines.map (·.1) = G.lines.map (·.1) := by
   rw [hln, ← enm, ← hkp]; simp [List.map_map, Function.comp_def]
  rw [← enm', hln] at hmem
  have e1 := zbH (Q := Q') (rev := key)
  have e2 := zbI (Q := Q') (rev := key)
  cases hf : lfind LnE.k Q' key with
  | none => rw [hf] at e2; exact absurd hmem (z1N.1 e2)
  | some x =>
   rw [hf] at e1 e2
   simp only [Option.map_some] at e1 e2
   rw [hkp] at e1
   rw [e1]
   obtain ⟨A, B, e, hxk⟩ := z8u hf
   subst e
   rw [← hln] at e2
   have hlo : lineOf G'.lines key = x.l := by unfold lineOf; rw [e2]; rfl
   have hsm : (mget G'.lines key).isSome = true := by rw [e2]; rfl
   have hll := z2S ok' key
   rw [hlo] at hll
   have hhi := ok'.hi
   have h : St w0 ([Rec lv lp .busy none] :: [DfM d] :: [Cl cc z0s [.pointer (some ⟨b, 2, none⟩)]] :: gtB b bf rA rL c G.room G.pat :: sL :: [Cl b3 z0m [SlV v]] :: sv :: [Cl b2 z0i [I now]] :: [Cl b1 z2o [.pointer (some ⟨b, 0, none⟩)]] :: [Cl c z0i [I G.room]] :: sA' :: ((A ++ x :: B).map LnE.sg).flatten :: (E ++ X)) w := h
   (refine ldC h ?_)
   have h := zfL (fr7_ (z9J (fr7_ (fr7_ (fr8_ h)))))
   have h := h.pick
   refine znj h 0 rfl (hQ' x (by simp)) (by omega) fun v13 s' s2 w hl' hr2 h => ?_
   have h : St w0 (s2 :: s' :: ((A ++ B).map LnE.sg).flatten :: gtB b bf rA rL c G.room G.pat :: sA' :: [Cl b3 z0m [SlV v]] :: sv :: [Cl b1 z2o [.pointer (some ⟨b, 0, none⟩)]] :: [Rec lv lp .busy none] :: [DfM d] :: [Cl cc z0s [.pointer (some ⟨b, 2, none⟩)]] :: sL :: [Cl b2 z0i [I now]] :: [Cl c z0i [I G.room]] :: (E ++ X)) w := h
   have h := fr7_ (fr7_ (fr7_ (fr7_ (fr7_ h))))
   obtain ⟨RR, hRR⟩ : ∃ RR, RR = s' :: ((A ++ B).map LnE.sg).flatten :: [Rec lv lp .busy none] :: [DfM d] :: [Cl cc z0s [.pointer (some ⟨b, 2, none⟩)]] :: sL :: [Cl b2 z0i [I now]] :: [Cl c z0i [I G.room]] :: (E ++ X) := ⟨_, rfl⟩
   rw [← hRR] at h
   have hge := zgg (now := now) (ks := (ssort ((Q.map LnE.kp).map (·.1))).drop (m + 1)) (G := tick1 now key G') (out := out ++ lateF (lLate (lineOf G'.lines key) now))
   have hT : tickA now ((ssort ((Q.map LnE.kp).map (·.1))).drop (m + 1)) (tick1 now key G') (out ++ lateF (lLate (lineOf G'.lines key) now)) = gTick G now := hT
   rw [hT, List.length_append, z9E, hlo] at hge
   have hll2 := Rw.len encI hr2
   refine z0G (fun q y w => ∃ (j : Nat) (v : Sl) (sv sA' : Seg), y = ((j : Int), ()) ∧ q + j = (lLate x.l now).length ∧ MpS KI vReq rA (lateS key ((lLate x.l now).take j) G'.all) sA' ∧ Rw Fate.cells z0z 4 v (out ++ lateF ((lLate x.l now).take j)) sv ∧
    St w0 (gtB b bf rA rL c G.room G.pat :: sA' :: [Cl b3 z0m [SlV v]] :: sv :: [Cl b1 z2o [.pointer (some ⟨b, 0, none⟩)]] :: s2 :: RR) w) (lLate x.l now).length
    ⟨0, v, sv, sA', rfl, rfl, hA', by simpa [lateF] using hv, h⟩ ?_
   clear hA' hv
   clear h; (try clear w)
   rintro q y w ⟨j, v, sv, sA', rfl, hq, hA', hv, h⟩ again hag
   (try dsimp only)
   refine it (fun hb => ?_) (fun hb => ?_) <;> (try simp only [zB] at hb)
   ·have hj : j < (lLate x.l now).length := by omega
    have hxj : (lLate x.l now)[j]? = some (lLate x.l now)[j] := List.getElem?_eq_getElem hj
    generalize (lLate x.l now)[j] = id at hxj
    refine rd1 (Rw.rd encI h 5 rfl hr2) encI (lf := .int .i64) (fun x => x) (fun x => ⟨_, rfl, rfl⟩) (by omega) hb fun y' hy' => ?_
    simp only [Int.toNat_natCast, hxj, Option.some.injEq] at hy'
    subst hy'
    (refine dr h ?_; clear h; (try clear w); intro w h; refine ldC h ?_; refine ldC h ?_)
    refine zn5 h fun w h => ?_
    (refine ckC h ?_; refine ckC h ?_)
    refine zkY (f := (0, 4, 0, s_timeout, ())) hA' h fun sA2 w hA2 h => ?_
    (refine ckC h ?_)
    refine nw h ?_; clear h; (try clear w); intro b22 w h
    (refine ckC h ?_)
    refine Rw.app (l := out ++ lateF ((lLate x.l now).take j)) encF elF h 3 rfl hv (id, 4, 0, s_timeout, ()) rfl (by rw [List.length_append, z9E, List.length_take]; omega) (by rw [List.length_append, z9E, List.length_take]; omega) fun v' sv' w hv' h => ?_
    (dsimp only [setN, List.cons_append, List.nil_append] at h; refine stC h ?_; clear h; (try clear w); intro w h; dsimp only [putN, setN] at h)
    rw [wr (by omega) (by omega)]
    refine hag (q - 1) _ w (by omega) ⟨j + 1, v', sv', sA2, by simp, by omega, ?_, ?_, h⟩
    ·rw [zhq hxj]; exact hA2
    ·rw [zhr hxj, ← List.append_assoc]; exact hv'
   ·have e : (lLate x.l now).take j = lLate x.l now := List.take_of_length_le (by omega)
    rw [e] at hA' hv
    subst hRR
    have h := dl5_ h
    have h := fr6_ (fr6_ h)
    have h : St w0 (LnE.sg ⟨x.k, x.b, lRest x.l now, s'⟩ :: ((A ++ B).map LnE.sg).flatten :: gtB b bf rA rL c G.room G.pat :: sA' :: [Cl b3 z0m [SlV v]] :: sv :: [Cl b1 z2o [.pointer (some ⟨b, 0, none⟩)]] :: [Rec lv lp .busy none] :: [DfM d] :: [Cl cc z0s [.pointer (some ⟨b, 2, none⟩)]] :: sL :: [Cl b2 z0i [I now]] :: [Cl c z0i [I G.room]] :: (E ++ X)) w := h
    have h := h.place
    have h := zfL (zfL (zfL (fr8_ (zfL (fr7_ (fr7_ (zfL (fr6_ (zfL (fr2_ h))))))))))
    have hnd : (((A ++ x :: B).map LnE.ka).map (·.1)).Nodup := by rw [← hln]; exact ok'.nd
    refine hN _ w ⟨v, sv, sA', A ++ (⟨x.k, x.b, lRest x.l now, s'⟩ : LnE) :: B, tick1 now key G', out ++ lateF (lLate (lineOf G'.lines key) now), rfl, ?_, ?_, ?_, ok'.tick1 hw' hsm now, er, ep, hw'.tick1 key now, ?_, ?_, hT⟩ h
    ·rw [← hkp]; simp
    ·intro y hy
     rcases List.mem_append.1 hy with hy | hy
     ·exact hQ' y (by simp [hy])
     ·rcases List.mem_cons.1 hy with rfl | hy
      ·exact hl'
      ·exact hQ' y (by simp [hy])
    ·show mset G'.lines key (lRest (lineOf G'.lines key) now) = _
     rw [hlo]
     exact (zey (ls := G'.lines) (by rw [← hln, zc1 e2]) hxk hnd).symm
    ·show MpS KI vReq rA (lateS key (lLate (lineOf G'.lines key) now) G'.all) sA'
     rw [hlo]; exact hA'
    ·rw [hlo]; exact hv
 ·rintro d F w ⟨v, sv, sA', Q', G', out, rfl, hkp, hQ', hln, ok', er, ep, hw', hA', hv, hT⟩ h
  have h : St w0 ([DfM d] :: [Cl cc z0s [.pointer (some ⟨b, 2, none⟩)]] :: gtB b bf rA rL c G.room G.pat :: sL :: [Cl b3 z0m [SlV v]] :: sv :: [Cl b2 z0i [I now]] :: [Cl b1 z2o [.pointer (some ⟨b, 0, none⟩)]] :: [Cl c z0i [I G.room]] :: sA' :: (Q'.map LnE.sg).flatten :: E) w := h
  rw [List.drop_of_length_le (Nat.le_refl _)] at hT
  have hT : (G', out) = gTick G now := hT
  rw [← hT] at hk ho
  refine jumpN ?_
  (refine ldC h ?_)
  refine zh1 h (Rw.rd encF h 5 rfl hv) (by simp only at ho; omega) (fun h0 => Rw.nil_of encF hv h0) fun v' sv' w hv' h => ?_
  (first | refine um0_ h ?_ | refine um1_ h ?_ | refine um2_ h ?_ | refine um3_ h ?_ | refine um4_ h ?_ | refine um5_ h ?_ | refine um6_ h ?_ | refine um7_ h ?_ | refine um8_ h ?_ | refine um9_ h ?_ | refine z93 h ?_ | refine z92 h ?_); clear h; (try clear w); intro w h
  refine ⟨v', rfl, ?_⟩
  have h := fr6_ (z9J (z9J (fr4_ (z9J h))))
  rw [← er, ← ep] at h
  have h := dl6_ (dl6_ (dl6_ (dl6_ (dl6_ h))))
  obtain ⟨sg, hg, h⟩ := zdL ok' (Q := Q') ⟨hA', by rw [hkp]; exact hr.lns, fun x hx => by rw [er]; exact hQ' x hx, hln⟩ h
  have h := fr1_ h
  exact hk v' sv' sg w hv' hg h
 ·rintro d j F w hf; exact hf.elim
instance : DecidableEq Tgt := inferInstanceAs (DecidableEq (ByteArray × ByteArray × Int × Unit))
instance : DecidableEq ARt := fun a b => decidable_of_iff (a.name = b.name ∧ a.cfg = b.cfg ∧ a.ts = b.ts ∧ a.roll = b.roll) ⟨fun ⟨h1, h2, h3, h4⟩ => by cases a; cases b; simp_all, fun h => by subst h; exact ⟨rfl, rfl, rfl, rfl⟩⟩
def gen' (t : AThr) (r : ARt) : Int := if t.is = true ∧ t.r = r then t.gen else IntKind.wrap .i64 (t.gen + 1)
def putRt (m : List (ByteArray × AThr)) (n : ByteArray) (r : ARt) (ver : Int) : List (ByteArray × AThr) := mset m n ⟨r, ver, gen' (rget m n) r, true⟩
def shPutR (a : AShelf) (r : ARt) (ver : Int) : AShelf × Int × Int :=
 if specE r ≠ 0 then (a, 0, specE r) else if mayV (rget a.r r.name).is (rget a.r r.name).ver ver true ≠ 0 then (a, 0, mayV (rget a.r r.name).is (rget a.r r.name).ver ver true) else (⟨a.m, putRt a.r r.name r (a.n + 1), a.n + 1⟩, a.n + 1, 0)
def AShelf.Few (a : AShelf) : Prop := ∀ x ∈ a.r, x.2.r.ts.length ≤ 6
def noRt : ARt := ⟨s_, s_, [], 0⟩
def shRt (a : AShelf) (n : ByteArray) : ARt × Int × Bool := if (rget a.r n).is = true then ((rget a.r n).r, (rget a.r n).ver, true) else (noRt, 0, false)
theorem zik {a : AShelf} (h : a.Few) (c : Cfg) (ver : Int) : (shPut a c ver).1.Few := by
 unfold shPut
 split
 ·exact h
 ·split <;> exact h
end Go.Proofs.YtkmalcoocklikaaGreatDoor
namespace Go.Proofs.YtkmalcoocklikaaGreatDoor
open Go.Dm
variable {w0 w : World} {E : List Seg}
def gc (l : List Int) (n : Int) (r : List Value) : List Value := l.map I ++ I n :: r
theorem gc_n {l : List Int} {n : Int} {r : List Value} (hl : l.length = 60) : nth (gc l n r) 60 = some (I n) := by
 have := z3e (A := l.map I) (B := I n :: r) (i := 0)
 rw [List.length_map, hl] at this; exact this
theorem gc_r {l : List Int} {n : Int} {r : List Value} (hl : l.length = 60) (j : Nat) : nth (gc l n r) (61 + j) = nth r j := by
 have := z3e (A := l.map I) (B := I n :: r) (i := 1 + j)
 rw [List.length_map, hl] at this
 have e : 61 + j = 60 + (1 + j) := by omega
 rw [e]
 refine Eq.trans this ?_
 rw [Nat.add_comm 1 j]; rfl
theorem gc_l {l : List Int} {n : Int} {r : List Value} {j : Nat} {x : Int} (hj : l[j]? = some x) : nth (gc l n r) j = some (I x) := by
 rw [gc, z4G (by have := (List.getElem?_eq_some_iff.1 hj).1; simpa using this), z0e, List.getElem?_map, hj]; rfl
theorem zkd {l : List Int} {n : Int} {r : List Value} {j : Nat} {x : Int} (hj : j < l.length) : setN (gc l n r) j (I x) = gc (l.set j x) n r := by
 rw [z1Q, gc, gc, List.set_append_left _ _ (by simpa using hj), List.map_set]
theorem zkc {l : List Int} {n m : Int} {r : List Value} (hl : l.length = 60) : setN (gc l n r) 60 (I m) = gc l m r := by
 rw [z1Q, gc, gc, List.set_append_right _ _ (by simp [hl])]
 simp [hl]
theorem zgN {l : List Int} {n : Int} {r : List Value} {v : Value} (hl : l.length = 60) (j : Nat) : setN (gc l n r) (61 + j) v = gc l n (setN r j v) := by
 rw [z1Q, gc, gc, z1Q, List.set_append_right _ _ (by simp [hl]; omega)]
 have e : 61 + j - (List.map I l).length = j + 1 := by simp [hl]; omega
 rw [e]; rfl
theorem zhL (h : St w0 E w) (i : Nat) {b T : Nat} {l : List Int} {n : Int} {r : List Value} {x : Int} (hi : nth E i = some [Cl b T (gc l n r)]) (hl : l.length = 60) (h0 : 0 ≤ n) (hn : n < 4611686018427387904) {k : Unit → PT}
  (hk : ∀ w', St w0 (setN E i [Cl b T (gc (l.set (n.toNat % 60) x) (n + 1) r)]) w' → k () w') : L.call Pr z3G [.pointer (some ⟨b, 0, none⟩), I x] (.tup []) k w := by
 refine z00 (z8J _ _) ?_
 unfold z5d
 refine dr h fun w h => nn ?_
 refine ld h i hi (x := n) (gc_n hl) (gd (by omega) (nn ?_))
 have em : Int.tmod n 60 = ((n.toNat % 60 : Nat) : Int) := by rw [Int.tmod_eq_emod]; simp [h0]; omega
 have hlt : n.toNat % 60 < 60 := Nat.mod_lt _ (by omega)
 refine ix (by rw [em]; omega) (by rw [em]; omega) ?_
 rw [em, Int.toNat_natCast, Nat.mul_one, z3M, z2G, Nat.zero_add]
 refine st1 h i hi (gc_l (List.getElem?_eq_getElem (by omega))) rfl fun w h => ?_
 have hi2 : nth (setN E i [Cl b T (setN (gc l n r) (n.toNat % 60) (I x))]) i = some [Cl b T (gc (l.set (n.toNat % 60) x) n r)] := by
  rw [zkd (by omega)]; exact z9z hi
 refine nn (ld h i hi2 (x := n) (gc_n (by simpa using hl)) (nn ?_))
 rw [wr (by omega) (by omega)]
 refine st1 h i hi2 (gc_n (by simpa using hl)) rfl fun w h => ⟨(), rfl, hk w ?_⟩
 rw [zkc (by simpa using hl), z7D] at h
 exact h
def tz (xs : List Int) : Nat := (xs.reverse.takeWhile (· == 0)).length
structure GOk (l : List Int) (n d : Int) (xs : List Int) : Prop where
 len : l.length = 60
 n : n = xs.length
 pos : ∀ k, k < xs.length → xs.length ≤ k + 60 → l[k % 60]? = xs[k]?
 idle : d = tz xs
def GauS (b : Nat) (xs : List Int) (s : Seg) : Prop := ∃ l n d, GOk l n d xs ∧ s = [Cl b z2J (gc l n [I d])]
theorem zm0 (h : St w0 E w) {k : Option Addr → PT} (hk : ∀ b s w', GauS b [] s → St w0 (s :: E) w' → k (some ⟨b, 0, none⟩) w') : L.call Pr z99 [] (.one (.one .ptr)) k w := by
 refine z00 zgb ?_
 unfold zcn
 refine nw h fun b w h => ⟨_, rfl, hk b _ w ⟨List.replicate 60 0, 0, 0, ⟨rfl, rfl, fun k hk => by simp at hk, rfl⟩, rfl⟩ h⟩
theorem zl2 (xs : List Int) (x : Int) : tz (xs ++ [x]) = if x = 0 then tz xs + 1 else 0 := by
 unfold tz
 rw [List.reverse_append]
 by_cases h : x = 0
 ·subst h; simp
 ·simp [h]
theorem znr (xs : List Int) : tz xs ≤ xs.length := by
 unfold tz
 have := (List.takeWhile_sublist (l := xs.reverse) (fun x => x == 0)).length_le
 simpa using this
theorem GOk.add {l : List Int} {n d : Int} {xs : List Int} (g : GOk l n d xs) (x : Int) : GOk (l.set (n.toNat % 60) x) (n + 1) (if x = 0 then d + 1 else 0) (xs ++ [x]) := by
 have hn : n.toNat = xs.length := by rw [g.n]; simp
 refine ⟨by simpa using g.len, by rw [g.n]; simp, fun k hk hk2 => ?_, ?_⟩
 ·simp only [List.length_append, List.length_cons, List.length_nil] at hk hk2
  rw [hn, List.getElem?_set]
  by_cases e : k = xs.length
  ·subst e
   rw [if_pos rfl, if_pos (by rw [g.len]; omega)]
   simp
  ·rw [if_neg (by omega), g.pos k (by omega) (by omega), List.getElem?_append_left (by omega)]
 ·rw [zl2, g.idle]; split <;> simp
theorem zm1 (h : St w0 E w) (i : Nat) {b : Nat} {xs : List Int} {s : Seg} (hi : nth E i = some s) (hg : GauS b xs s) (hn : xs.length < 2305843009213693952) {x : Int} {k : Unit → PT}
  (hk : ∀ s' w', GauS b (xs ++ [if 0 > x then 0 else x]) s' → St w0 (setN E i s') w' → k () w') : L.call Pr z4H [.pointer (some ⟨b, 0, none⟩), I x] (.tup []) k w := by
 obtain ⟨l, n, d, g, rfl⟩ := hg
 have hl := g.len
 have hn1 := g.n
 have hd := g.idle
 have hz := znr xs
 refine z00 (zaR _ _) ?_
 unfold z6G
 generalize hy : (if 0 > x then 0 else x) = y at *
 have hy0 : 0 ≤ y := by rw [← hy]; split <;> omega
 have hl2 : (l.set (n.toNat % 60) y).length = 60 := by simpa using hl
 refine nn (zhL h i hi hl (by omega) (by omega) fun w h => ?_)
 have hi2 := z9z (y := [Cl b z2J (gc (l.set (n.toNat % 60) y) (n + 1) [I d])]) hi
 refine nn (ld h i hi2 (x := d) (gc_r hl2 0) (nn ?_))
 rw [wr (by omega) (by omega)]
 refine st1 h i hi2 (gc_r hl2 0) rfl fun w h => ?_
 have e1 : setN (gc (l.set (n.toNat % 60) y) (n + 1) [I d]) 61 (I (d + 1)) = gc (l.set (n.toNat % 60) y) (n + 1) [I (d + 1)] := zgN hl2 0
 simp only [z7D] at h
 have h : St w0 (setN E i [Cl b z2J (gc (l.set (n.toNat % 60) y) (n + 1) [I (d + 1)])]) w := by rw [← e1]; exact h
 have ga := g.add y
 refine it (fun hb => ?_) (fun hb => ?_)
 ·simp only [decide_eq_true_eq] at hb
  have hi3 := z9z (y := [Cl b z2J (gc (l.set (n.toNat % 60) y) (n + 1) [I (d + 1)])]) hi
  refine nn (st1 h i hi3 (gc_r hl2 0) rfl fun w h => ⟨(), rfl, hk _ w ⟨_, _, _, ga, rfl⟩ ?_⟩)
  have e1 : setN (gc (l.set (n.toNat % 60) y) (n + 1) [I (d + 1)]) 61 (I 0) = gc (l.set (n.toNat % 60) y) (n + 1) [I 0] := zgN hl2 0
  simp only [z7D] at h
  rw [if_neg (by omega), ← e1]; exact h
 ·simp only [decide_eq_false_iff_not] at hb
  have : y = 0 := by omega
  refine ⟨(), rfl, hk _ w ⟨_, _, _, ga, rfl⟩ ?_⟩
  rw [if_pos this]; exact h
theorem zkz (h : St w0 E w) (i : Nat) {b : Nat} {xs : List Int} {s : Seg} (hi : nth E i = some s) (hg : GauS b xs s) {k : Int → PT} (hk : k (tz xs) w) : L.call Pr z4h [.pointer (some ⟨b, 0, none⟩)] (.one (.one (.int .i64))) k w := by
 obtain ⟨l, n, d, g, rfl⟩ := hg
 refine z00 (zah _) ?_
 unfold z6f
 refine nn (ld h i hi (x := d) (gc_r g.len 0) ⟨d, rfl, ?_⟩)
 rw [g.idle]; exact hk
theorem tm60 {z : Int} (h : 0 ≤ z) : Int.tmod z 60 = ((z.toNat % 60 : Nat) : Int) := by
 rw [Int.tmod_eq_emod_of_nonneg h]; omega
theorem zky (h : St w0 E w) {p : Option Addr} {k : FV → PT} (hk : ∀ c w', St w0 ([Cl c z4m [.pointer p]] :: E) w' → k ⟨.func z1j, #[], #[.pointer (some ⟨c, 0, none⟩)]⟩ w') :
  L.call Pr z3k [.pointer p] (.one (.one .func)) k w := by
 refine z00 (z8h _) ?_
 unfold z4V
 exact nw h fun c w h => ⟨_, rfl, hk c w h⟩
theorem zjk {c b T T2 : Nat} {l : List Int} {n : Int} {r : List Value} {F : List Seg} (hl : l.length = 60) (h0 : 0 ≤ n) (hn : n < 2305843009213693952) {yv : FV} {R : Value → PT} (J : Nat → List Seg → Prop) (Jd : List Seg → Prop)
  (h : St w0 ([Cl c T2 [.pointer (some ⟨b, 0, none⟩)]] :: [Cl b T (gc l n r)] :: F) w) (hJ : J 0 F)
  (step : ∀ (m : Nat) F w, (m : Int) < min 60 n → J m F → St w0 ([Cl c T2 [.pointer (some ⟨b, 0, none⟩)]] :: [Cl b T (gc l n r)] :: F) w → ∀ x, l[(n - (m + 1)).toNat % 60]? = some x →
   FCall Pr yv.val [I x] w fun v w' => ∃ q F', v = .bool q ∧ St w0 ([Cl c T2 [.pointer (some ⟨b, 0, none⟩)]] :: [Cl b T (gc l n r)] :: F') w' ∧ (q = true → J (m + 1) F') ∧ (q = false → Jd F'))
  (fin : ∀ F w, J (min 60 n).toNat F ∨ Jd F → St w0 ([Cl c T2 [.pointer (some ⟨b, 0, none⟩)]] :: [Cl b T (gc l n r)] :: F) w → R (.tuple #[]) w) :
  FFCall Pr (.func (.func z1j) #[] #[.pointer (some ⟨c, 0, none⟩)]) [yv.val] w R := by
 refine ⟨z71, z79 yv ⟨c, 0, none⟩ ?_⟩
 unfold z4s
 refine z0G (fun q y w => ∃ (m : Nat) (F : List Seg), @Eq Int y.1 (m + 1) ∧ q + m = 60 ∧ (m : Int) ≤ min 60 n ∧ J m F ∧ St w0 ([Cl c T2 [.pointer (some ⟨b, 0, none⟩)]] :: [Cl b T (gc l n r)] :: F) w) 60 ⟨0, F, rfl, rfl, by omega, hJ, h⟩ ?_
 rintro q ⟨y, ⟨⟩⟩ w ⟨m, F, hy, hq, hm, hJ, h⟩ again hag
 simp only at hy
 subst hy
 (try dsimp only)
 refine ld h 0 rfl (l := .ptr) (x := some ⟨b, 0, none⟩) rfl (nn ?_)
 refine ld h 1 rfl (x := n) (gc_n hl) ?_
 have hmin : (if 60 < n then 60 else n) = min 60 n := by omega
 rw [hmin]
 refine it (fun hb => ?_) (fun hb => ?_)
 ·have hb : (m : Int) + 1 ≤ min 60 n := of_decide_eq_true hb
  refine dr h fun w h => ?_
  refine ld h 0 rfl (l := .ptr) (x := some ⟨b, 0, none⟩) rfl ?_
  refine ld h 0 rfl (l := .ptr) (x := some ⟨b, 0, none⟩) rfl (nn ?_)
  refine ld h 1 rfl (x := n) (gc_n hl) (gd (by omega) (nn ?_))
  rw [wr (by omega) (by omega)]
  have em : Int.tmod (n - (m + 1)) 60 = (((n - (m + 1)).toNat % 60 : Nat) : Int) := tm60 (by omega)
  have hlt : (n - (m + 1)).toNat % 60 < 60 := Nat.mod_lt _ (by omega)
  refine ix (by rw [em]; omega) (by rw [em]; omega) ?_
  rw [em, Int.toNat_natCast, Nat.mul_one, z3M, z2G, Nat.zero_add]
  have hx : l[(n - (m + 1)).toNat % 60]? = some l[(n - (m + 1)).toNat % 60] := List.getElem?_eq_getElem (by omega)
  refine ld h 1 rfl (x := l[(n - (m + 1)).toNat % 60]) (gc_l hx) ?_
  refine FCall.mono (step m F w (by omega) hJ h _ hx) fun v w' ⟨q', F', hv, h, h1, h2⟩ => ⟨q', hv, ?_⟩
  cases q' with
  | true =>
   refine itF rfl (hag (q - 1) _ _ (by omega) ⟨m + 1, F', ?_, by omega, by omega, h1 rfl, h⟩)
   show IntKind.wrap .i64 _ = _
   rw [wr (by omega) (by omega)]; omega
  | false => exact itT rfl (fin F' w' (.inr (h2 rfl)) h)
 ·have hb : ¬ (m : Int) + 1 ≤ min 60 n := of_decide_eq_false hb
  have e : m = (min 60 n).toNat := by omega
  exact fin F w (.inl (by rw [← e]; exact hJ)) h
def isum : List Int → Int
 | [] => 0
 | x :: l => x + isum l
theorem zk6 (a b : List Int) : isum (a ++ b) = isum a + isum b := by
 induction a with
 | nil => simp [isum]
 | cons x a ih => simp only [List.cons_append, isum, ih]; omega
theorem zmd (a b : Int) : IntKind.wrap .i64 (IntKind.wrap .i64 a + b) = IntKind.wrap .i64 (a + b) := by
 simp only [IntKind.wrap_i64]; omega
def lastS (xs : List Int) (m : Nat) : Int := isum (xs.reverse.take m)
theorem zhs {xs : List Int} {m : Nat} {x : Int} (h : xs.reverse[m]? = some x) : lastS xs (m + 1) = lastS xs m + x := by
 unfold lastS
 rw [List.take_add_one, h, zk6]
 simp [isum]
def lastN (xs : List Int) (p : Int) : Nat := min (min 60 xs.length) (max p 0).toNat
theorem GOk.back {l : List Int} {n d : Int} {xs : List Int} (g : GOk l n d xs) {m : Nat} (hm : (m : Int) < min 60 n) {x : Int} (hx : l[(n - (m + 1)).toNat % 60]? = some x) : xs.reverse[m]? = some x := by
 have hn := g.n
 have e : (n - (m + 1)).toNat = xs.length - 1 - m := by omega
 rw [e, g.pos _ (by omega) (by omega)] at hx
 rw [List.getElem?_reverse (by omega)]; exact hx
theorem zgZ (h : St w0 E w) (i : Nat) {b : Nat} {xs : List Int} {s : Seg} (hi : nth E i = some s) (hg : GauS b xs s) (hn : xs.length < 2305843009213693952) {p : Int} {k : Int × Int × Unit → PT}
  (hk : ∀ w', St w0 E w' → k (IntKind.wrap .i64 (lastS xs (lastN xs p)), ((lastN xs p : Nat) : Int), ()) w') :
  L.call Pr z30 [.pointer (some ⟨b, 0, none⟩), I p] (.tup [(.one (.int .i64)), (.one (.int .i64))]) k w := by
 obtain ⟨l, n, d, g, rfl⟩ := hg
 have hl := g.len
 have hn1 := g.n
 refine z00 (zag _ _) ?_
 unfold z6e
 refine nw h fun b1 w h => nw h fun b2 w h => nw h fun b3 w h => nn (zky h fun c w h => ?_)
 refine rng h fun dd lv lp w h hy => ?_
 have h := h.front (i + 6) (s := [Cl b z2J (gc l n [I d])]) hi
 have h := h.front 3 rfl
 have fin : ∀ (st : LoopState) (m : Nat) w, m = lastN xs p → St w0 ([Cl c z4m [.pointer (some ⟨b, 0, none⟩)]] :: [Cl b z2J (gc l n [I d])] :: [DfM dd] :: [Cl b3 z0i [I m]] :: [Cl b2 z0i [I (IntKind.wrap .i64 (lastS xs m))]] :: [Cl b1 z0i [I p]] :: delN E i) w →
   (L.draw <|
    L.load (.one (.int .i64)) (⟨b2, 0, none⟩) fun x15 =>
    L.load (.one (.int .i64)) (⟨b3, 0, none⟩) fun x16 =>
    L.store (⟨b2, 0, none⟩) [.int .i64 x15] <|
    L.chk (⟨b3, 0, none⟩) [.int .i64 x16] <|
    L.store (⟨b3, 0, none⟩) [.int .i64 x16] <|
    L.unmark Pr ([dd] ++ []) <|
    L.load (.one (.int .i64)) (⟨b2, 0, none⟩) fun x17 =>
    L.load (.one (.int .i64)) (⟨b3, 0, none⟩) fun x18 =>
    fun w' => ∃ x, (Value.tuple #[.int .i64 x17, .int .i64 x18]) = RT.val (.tup [(.one (.int .i64)), (.one (.int .i64))]) x ∧ k x w') w := by
  intro st m w hm h
  refine dr h fun w h => ?_
  refine ld h 4 rfl (l := .int .i64) (x := IntKind.wrap .i64 (lastS xs m)) rfl ?_
  refine ld h 3 rfl (l := .int .i64) (x := (m : Int)) rfl ?_
  refine st1 h 4 rfl rfl rfl fun w h => ?_
  refine ck h 3 rfl rfl ?_
  refine st1 h 3 rfl rfl rfl fun w h => ?_
  refine um h 2 rfl fun w h => ?_
  refine ld h 4 rfl (l := .int .i64) (x := IntKind.wrap .i64 (lastS xs m)) rfl ?_
  refine ld h 3 rfl (l := .int .i64) (x := (m : Int)) rfl ?_
  refine ⟨(IntKind.wrap .i64 (lastS xs m), (m : Int), ()), rfl, ?_⟩
  subst hm
  refine hk w ?_
  have h := h.tail.front 0 rfl
  have h := h.del 1 rfl
  have h := h.del 1 rfl
  have h := h.del 1 rfl
  have h := h.del 1 rfl
  have h := St.back i hi h
  rw [z1F hi] at h; exact h
 refine zjk hl (by omega) (by omega) (yv := ⟨.yield lv, #[], #[]⟩)
  (fun m F => F = [Rec lv lp .ready none] :: [DfM dd] :: [Cl b3 z0i [I m]] :: [Cl b2 z0i [I (IntKind.wrap .i64 (lastS xs m))]] :: [Cl b1 z0i [I p]] :: delN E i ∧ (m : Int) ≤ max p 0)
  (fun F => ∃ m : Nat, F = [Rec lv lp .done (some (.exit 0))] :: [DfM dd] :: [Cl b3 z0i [I m]] :: [Cl b2 z0i [I (IntKind.wrap .i64 (lastS xs m))]] :: [Cl b1 z0i [I p]] :: delN E i ∧ (m : Int) = max p 0 ∧ (m : Int) ≤ min 60 n)
  h ⟨rfl, by omega⟩ ?_ ?_
 ·rintro m F w hm ⟨rfl, hmp⟩ h x hx
  have hrec := (h.at 2 rfl).2
  refine hy (x, ()) .ready none w _ hrec ?_
  refine bgn h 2 rfl fun w h => ?_
  refine ld h 4 rfl (l := .int .i64) (x := (m : Int)) rfl ?_
  refine ld h 6 rfl (l := .int .i64) (x := p) rfl ?_
  refine it (fun hb => ?_) (fun hb => ?_)
  ·have hb : (m : Int) ≥ p := of_decide_eq_true hb
   refine endJ h 2 rfl fun w h => ⟨false, _, rfl, h, fun hx => Bool.noConfusion hx, fun _ => ⟨m, rfl, ?_, by omega⟩⟩
   omega
  ·have hb : ¬ (m : Int) ≥ p := of_decide_eq_false hb
   refine ld h 5 rfl (l := .int .i64) (x := IntKind.wrap .i64 (lastS xs m)) rfl ?_
   refine st1 h 5 rfl rfl rfl fun w h => ?_
   refine ld h 4 rfl (l := .int .i64) (x := (m : Int)) rfl ?_
   refine st1 h 4 rfl rfl rfl fun w h => ?_
   refine endN h 2 rfl fun w h => ⟨true, _, rfl, h, fun _ => ⟨?_, by omega⟩, fun hx => Bool.noConfusion hx⟩
   have e1 : IntKind.wrap .i64 ((m : Int) + 1) = ((m + 1 : Nat) : Int) := by rw [wr (by omega) (by omega)]; omega
   have e2 : IntKind.wrap .i64 (IntKind.wrap .i64 (lastS xs m) + x) = IntKind.wrap .i64 (lastS xs (m + 1)) := by rw [zmd, zhs (g.back hm hx)]
   (try dsimp only)
   rw [e1, e2]; rfl
 ·rintro F w hF h
  rcases hF with ⟨rfl, hmp⟩ | ⟨m, rfl, hmp, hmn⟩
  ·refine endL h 2 rfl (by simp) fun w h => ?_
   refine fin .ready _ w ?_ h
   unfold lastN; omega
  ·refine endL h 2 rfl (by simp) fun w h => ?_
   refine fin .done m w ?_ h
   unfold lastN; omega
end Go.Proofs.YtkmalcoocklikaaGreatDoor
namespace Go.Proofs.YtkmalcoocklikaaGreatDoor
open Go.Dm
attribute [local irreducible] L.load L.store L.chk L.new L.nonnil L.guard L.ite L.draw L.idx L.sem L.semR L.semU L.chkSem L.next L.call L.callV L.join L.alts L.loop L.begin L.endRound L.range
variable {w0 w : World} {E : List Seg}
structure ABes where
 xs : List Int
 want : Int
 left : Int
structure ASys where
 sh : AShelf
 bk : ABook
 ro : ARoll
 fl : AFleet
 gt : AGate
 by' : List (ByteArray × ABes)
 now : Int
structure BsE where
 k : ByteArray
 b : Nat
 g : Nat
 x : ABes
 sgg : Seg
abbrev BsE.cell (x : BsE) : Seg := [Cl x.b z3m [.pointer (some ⟨x.g, 0, none⟩), I x.x.want, I x.x.left]]
abbrev BsE.sg (x : BsE) : Seg := x.cell ++ x.sgg
abbrev BsE.kp (x : BsE) : ByteArray × Option Addr := (x.k, some ⟨x.b, 0, none⟩)
abbrev BsE.ka (x : BsE) : ByteArray × ABes := (x.k, x.x)
def BsE.ok (x : BsE) : Prop := GauS x.g x.x.xs x.sgg
structure Bls where
 s : Nat
 k : Nat
 r : Nat
 f : Nat
 g : Nat
 m : Nat
abbrev sysC (b : Nat) (p : Bls) (now : Int) : Seg := [Cl b z7R [.pointer (some ⟨p.s, 0, none⟩), .pointer (some ⟨p.k, 0, none⟩), .pointer (some ⟨p.r, 0, none⟩), .pointer (some ⟨p.f, 0, none⟩), .pointer (some ⟨p.g, 0, none⟩), .map (some p.m), I now]]
structure SysR (a : ASys) (p : Bls) (sg sf ss sk sr sm : Seg) (Q : List BsE) : Prop where
 gt : GtS p.g p.f a.gt sg
 fl : FlS p.f a.fl sf
 sh : ShS p.s a.sh ss
 bk : BkS p.k a.bk sk
 ro : RolS p.r a.ro sr
 mp : MpS Value.string Value.pointer p.m (Q.map BsE.kp) sm
 ea : ∀ x ∈ Q, x.ok
 ab : a.by' = Q.map BsE.ka
abbrev sys8 (b : Nat) (a : ASys) (p : Bls) (sg sf ss sk sr sm : Seg) (Q : List BsE) : Seg := sysC b p a.now ++ (sg ++ (sf ++ (ss ++ (sk ++ (sr ++ (sm ++ (Q.map BsE.sg).flatten))))))
def SysS (b : Nat) (a : ASys) (s : Seg) : Prop := ∃ (p : Bls) (sg sf ss sk sr sm : Seg) (Q : List BsE), SysR a p sg sf ss sk sr sm Q ∧ s = sys8 b a p sg sf ss sk sr sm Q
theorem _root_.Go.Dm.St.split8 {a b c d e f g i : Seg} (h : St w0 ((a ++ (b ++ (c ++ (d ++ (e ++ (f ++ (g ++ i))))))) :: E) w) : St w0 (a :: b :: c :: d :: e :: f :: g :: i :: E) w := h.eq (by simp)
theorem _root_.Go.Dm.St.glue8 {a b c d e f g i : Seg} (h : St w0 (a :: b :: c :: d :: e :: f :: g :: i :: E) w) : St w0 ((a ++ (b ++ (c ++ (d ++ (e ++ (f ++ (g ++ i))))))) :: E) w := h.eq (by simp)
theorem sysBack {sv a b c d e f g j s : Seg} (i : Nat) (hi : nth E i = some s) (h : St w0 (sv :: a :: b :: c :: d :: e :: f :: g :: j :: delN E i) w) : St w0 (sv :: setN E i (a ++ (b ++ (c ++ (d ++ (e ++ (f ++ (g ++ j)))))))) w := by
 have h := fr8_ (fr8_ (fr8_ (fr8_ (fr8_ (fr8_ (fr8_ (fr8_ h)))))))
 have h := h.glue8
 exact St.back (E := sv :: E) (i + 1) hi h
theorem zeh : Pr.underlying z0v = some (.map z01 z3w) := by kernel_rfl
abbrev slK (k : Sl → PT) : Value → PT := fun v w' => ∃ x, v = RT.val (.one (.one .slice)) x ∧ k x w'
abbrev Hk (w0 : World) (E : List Seg) (i b : Nat) (r : ASys × List ByteArray) (k : Sl → PT) : Prop := ∀ v sv s' w', Rw eS z01 1 v r.2 sv → SysS b r.1 s' → St w0 (sv :: setN E i s') w' → k v w'
def sysConfig (a : ASys) (e : AEv) : ASys × List ByteArray := ({ a with sh := (shPut a.sh e.c e.n).1 }, putB zdz e.c.1 (shPut a.sh e.c e.n).2.1 (shPut a.sh e.c e.n).2.2)
theorem zii (a : AShelf) (c : Cfg) (ver : Int) (h0 : 0 ≤ a.n) (h1 : a.n < 900000000) : 0 ≤ (shPut a c ver).2.1 ∧ (shPut a c ver).2.1 ≤ 9000000000000000000 := by
 unfold shPut
 split
 ·exact ⟨Int.le_refl 0, by show (0 : Int) ≤ _; decide⟩
 ·split
  ·exact ⟨Int.le_refl 0, by show (0 : Int) ≤ _; decide⟩
  ·dsimp only; omega
theorem zg1 [bTab w0] (h : St w0 E w) (i : Nat) {b : Nat} {a : ASys} {s : Seg} (hi : nth E i = some s) (hs : SysS b a s) {e : AEv} (hn : a.sh.n < 900000000) (hsz : e.c.1.size ≤ 1000000) {k : Sl → PT} (hk : Hk w0 E i b (sysConfig a e) k) :
  z2Y (some ⟨b, 0, none⟩) e.t (slK k) w := by
 obtain ⟨p, sg, sf, ss, sk, sr, sm, Q, R, rfl⟩ := hs
 have hlo := R.sh.1.lo
 unfold z2Y
 have h := (h.front i hi).split8
 refine nw h ?_; clear h; (try clear w); intro b1 w h
 (dsimp only [setN, List.cons_append, List.nil_append] at h; refine dr h ?_; clear h; (try clear w); intro w h; refine nn ?_; refine ldC h ?_; refine laC h ?_; refine ldC h ?_; rw [z3H])
 refine zlN (c := e.c) h 4 rfl R.sh hn fun ss' w hS h => ?_
 dsimp only [setN] at h
 (refine ldC h ?_)
 have hv := zii a.sh e.c e.n hlo hn
 refine znC h (by decide) hsz hv fun v sv w r h => ?_
 refine ⟨v, rfl, hk v sv _ w r ⟨p, sg, sf, ss', sk, sr, sm, Q, ⟨R.gt, R.fl, hS, R.bk, R.ro, R.mp, R.ea, R.ab⟩, rfl⟩ ?_⟩
 exact sysBack i hi (dl1_ h)
def sysRoute (a : ASys) (e : AEv) : ASys × List ByteArray := ({ a with sh := (shPutR a.sh e.r e.n).1 }, putB zlb e.r.name (shPutR a.sh e.r e.n).2.1 (shPutR a.sh e.r e.n).2.2)
def sysDone (a : ASys) (e : AEv) : ASys × List ByteArray :=
 ({ a with gt := (gDone a.fl a.gt e.n).2.1, fl := (gDone a.fl a.gt e.n).1 }, if (gDone a.fl a.gt e.n).2.2.2 ≠ 0 then refusedB (gDone a.fl a.gt e.n).2.2.2 else (gDone a.fl a.gt e.n).2.2.1.map fateB)
def upBk (a : ASys) (e : AEv) : ABook := if bkProved a.bk (fOf (fUpp a.fl e.n).1.l e.n) = true then a.bk else (bkProve a.bk (fOf (fUpp a.fl e.n).1.l e.n)).1
def upFirst (a : ASys) (e : AEv) : List ByteArray :=
 if bkProved a.bk (fOf (fUpp a.fl e.n).1.l e.n) = true then [lineB s_up [decD e.n.toNat]] else [lineB s_up [decD e.n.toNat], lineB zbE [fOf (fUpp a.fl e.n).1.l e.n]]
abbrev upFlow (a : ASys) (e : AEv) : AFleet × AGate × List Fate := gFlow (fUpp a.fl e.n).1 a.gt (fOf (fUpp a.fl e.n).1.l e.n)
def sysUp (a : ASys) (e : AEv) : ASys × List ByteArray :=
 if (fUpp a.fl e.n).2 ≠ 0 then ({ a with fl := (fUpp a.fl e.n).1 }, refusedB (fUpp a.fl e.n).2)
 else ({ a with fl := (upFlow a e).1, gt := (upFlow a e).2.1, bk := upBk a e }, upFirst a e ++ (upFlow a e).2.2.map fateB)
abbrev eEw (e : AEv) : List Value := [I e.kind, .string e.name, .string e.tag, I e.n, I e.draw, .string e.c.1, I e.c.2.1, I e.c.2.2.1, I e.c.2.2.2.1, I e.c.2.2.2.2.1, I e.c.2.2.2.2.2.1, .string e.r.name, .string e.r.cfg, SlV e.v, I e.r.roll]
theorem zlH [bTab w0] (h : St w0 E w) (i : Nat) {b : Nat} {a : ASys} {s : Seg} (hi : nth E i = some s) (hs : SysS b a s) {e : AEv} (he : 0 ≤ e.n ∧ e.n ≤ 9000000000000000000) (hrv : (fOf (fUpp a.fl e.n).1.l e.n).size ≤ 1000000) (hfew : FFew (fUpp a.fl e.n).1) (hn : a.gt.all.length < 80000000) (hl : a.gt.lines.length < 90000000)
  (hf : ∀ f ∈ (upFlow a e).2.2, f.Ok) (hfl : (upFlow a e).2.2.length < 100000000) {k : Sl → PT} (hk : Hk w0 E i b (sysUp a e) k) : z4n (some ⟨b, 0, none⟩) e.t (slK k) w := by
 obtain ⟨p, sg, sf, ss, sk, sr, sm, Q, R, rfl⟩ := hs
 unfold z4n
 have h := (h.front i hi).split8
 refine nw h ?_; clear h; (try clear w); intro b1 w h
 (dsimp only [setN, List.cons_append, List.nil_append] at h; refine dr h ?_; clear h; (try clear w); intro w h; refine nn ?_; refine ldC h ?_; refine ldC h ?_)
 unfold sysUp at hk
 refine zna h 3 rfl R.fl fun sf' w hF h => ?_
 dsimp only [setN] at h
 refine it (fun hc => ?_) (fun hc => ?_)
 ·have hc : (fUpp a.fl e.n).2 ≠ 0 := by simpa using hc
  rw [if_pos hc] at hk
  refine z5I h fun v s w r h => ?_
  exact ⟨v, rfl, hk v s _ w r ⟨p, sg, sf', ss, sk, sr, sm, Q, ⟨R.gt, hF, R.sh, R.bk, R.ro, R.mp, R.ea, R.ab⟩, rfl⟩ (sysBack i hi (dl1_ h))⟩
 have hc : ¬ (fUpp a.fl e.n).2 ≠ 0 := by simpa using hc
 rw [if_neg hc] at hk
 unfold upBk upFirst upFlow at hk
 unfold upFlow at hf hfl
 generalize (fUpp a.fl e.n).1 = F at *
 (refine dr h ?_; clear h; (try clear w); intro w h; refine nn ?_; refine ldC h ?_; refine ldC h ?_)
 refine znH h 3 rfl hF ?_
 generalize fOf F.l e.n = rev at *
 (refine ldC h ?_)
 refine nw h ?_; clear h; (try clear w); intro b12 w h
 refine lineI1 h (by decide) he.1 he.2 fun w h => ?_
 have hsu : (lineB s_up [decD e.n.toNat]).size ≤ 10000 := by rw [z6x]; have := zfX he.1 he.2; have : s_up.size = 2 := rfl; omega
 refine nw h ?_; clear h; (try clear w); intro b14 w h
 refine z1k (fun (z : Sl × Unit) w => ∃ (s1 sk' : Seg), Rw eS z01 1 z.1 (if bkProved a.bk rev = true then [lineB s_up [decD e.n.toNat]] else [lineB s_up [decD e.n.toNat], lineB zbE [rev]]) s1 ∧ BkS p.k (if bkProved a.bk rev = true then a.bk else (bkProve a.bk rev).1) sk' ∧
  St w0 (s1 :: [Cl b1 z0p (eEw e)] :: sysC b p a.now :: sg :: sf' :: ss :: sk' :: sr :: sm :: (Q.map BsE.sg).flatten :: delN E i) w) (fun k15 hk15 => ?_) ?_
 ·(refine nn ?_; refine ldC h ?_)
  refine zhP h 6 rfl R.bk fun w h => ?_
  cases hp : bkProved a.bk rev with
  | true =>
   rw [hp] at hk15
   refine itF rfl ?_
   exact hk15 (_, ()) w ⟨_, sk, Rw.lit b14 [_] encS rfl rfl (by decide), R.bk, h⟩
  | false =>
   rw [hp] at hk15
   refine itT rfl ?_
   (refine nn ?_; refine ldC h ?_)
   refine zjs h 6 rfl R.bk fun sk' w hK h => ?_
   dsimp only [setN] at h
   refine nw h ?_; clear h; (try clear w); intro b23 w h
   refine lineS1 h (by decide) (by omega) fun w h => ?_
   refine nw h ?_; clear h; (try clear w); intro b25 w h
   refine Rw.app encS elS h 0 rfl (Rw.lit b14 [lineB s_up [decD e.n.toNat]] encS rfl rfl (by simp [maxLen])) (lineB zbE [rev]) rfl (by simp) (by simp) fun v' s' w hr' h => ?_
   exact hk15 (_, ()) w ⟨s', sk', hr', hK, h⟩
 ·clear h; (try clear w)
  rintro ⟨vo, ⟨⟩⟩ w ⟨s1, sk', r1, hK, h⟩
  (refine nn ?_; refine ldC h ?_)
  have h := fr4_ (fr4_ h)
  refine zm3 h R.gt hF hfew (by omega) hl fun v sv sg' sf'' w hr hG hF h => ?_
  have h := fr3_ h
  refine zkW h (v2 := vo) hr hf hfl (by split <;> simp) r1 fun v s w r h => ?_
  refine ⟨v, rfl, hk v s _ w r ⟨p, sg', sf'', ss, sk', sr, sm, Q, ⟨hG, hF, R.sh, hK, R.ro, R.mp, R.ea, R.ab⟩, rfl⟩ ?_⟩
  have h := dl1_ (dl4_ h)
  have h := fr3_ (fr3_ (fr2_ (fr2_ h)))
  exact sysBack i hi h
abbrev wantOf (c : Cfg) : Int := if 1 > @id Int c.2.2.2.1 then 1 else @id Int c.2.2.2.1
abbrev stp (a : ASys) (n : ByteArray) : ABook × ByteArray × Bool := bkStamp a.bk (shCfg a.sh n).1 (@id Int (shCfg a.sh n).2.2.1).toNat
def sysStamp (a : ASys) (e : AEv) : ASys × List ByteArray :=
 if (shCfg a.sh e.name).2.2.2.1 = false then (a, refusedB 6) else if @id Int (shCfg a.sh e.name).2.2.1 > 999999 then (a, refusedB 3)
 else if (stp a e.name).2.2 = false then ({ a with bk := (stp a e.name).1 }, [lineB zkH [(stp a e.name).2.1]])
 else ({ a with bk := (stp a e.name).1, by' := mset a.by' (stp a e.name).2.1 ⟨[], wantOf (shCfg a.sh e.name).1, 0⟩ }, [lineB z8q [(stp a e.name).2.1], lineB (lineB s_scale [(stp a e.name).2.1]) [decD (wantOf (shCfg a.sh e.name).1).toNat]])
theorem zl6 (a : ABook) (c : Cfg) (g : Nat) : (bkStamp a c g).2.1 = revB c.1 g := by unfold bkStamp; split <;> rfl
theorem zhH [bTab w0] (h : St w0 E w) (i : Nat) {b : Nat} {a : ASys} {s : Seg} (hi : nth E i = some s) (hs : SysS b a s) {e : AEv}
  (hst : (shCfg a.sh e.name).2.2.2.1 = true → shortB (shCfg a.sh e.name).1.1.data.toList 16 = true ∧ 1 ≤ @id Int (shCfg a.sh e.name).2.2.1 ∧ @id Int (shCfg a.sh e.name).2.2.1 < 100 ∧ @id Int (shCfg a.sh e.name).1.2.2.2.1 ≤ 1000000) (hf : a.bk.all.length < 999999)
  {k : Sl → PT} (hk : Hk w0 E i b (sysStamp a e) k) : z3n (some ⟨b, 0, none⟩) e.t (slK k) w := by
 have hs0 := hs
 obtain ⟨p, sg, sf, ss, sk, sr, sm, Q, R, rfl⟩ := hs
 unfold z3n
 unfold sysStamp stp at hk
 have h := (h.front i hi).split8
 refine nw h ?_; clear h; (try clear w); intro b1 w h
 refine z1k (fun (z : Addr × Int × Bool × Unit) w => ∃ b8 : Nat, z = (⟨b8, 0, none⟩, (shCfg a.sh e.name).2.2.1, (shCfg a.sh e.name).2.2.2.1, ()) ∧
  St w0 ([Cl b8 z0b (Cfg.cells (shCfg a.sh e.name).1)] :: sysC b p a.now :: sg :: sf :: ss :: sk :: sr :: sm :: (Q.map BsE.sg).flatten :: delN E i) w) (fun k2 hk2 => ?_) ?_
 ·(dsimp only [setN, List.cons_append, List.nil_append] at h; refine dr h ?_; clear h; (try clear w); intro w h; refine nn ?_; refine ldC h ?_; refine ldC h ?_)
  refine alts2 ?_ ?_
  ·refine zdg h 4 rfl R.sh fun w h => ?_
   refine nw h ?_; clear h; (try clear w); intro b8 w h
   (refine ckC h ?_; refine ckC h ?_; refine stC h ?_; clear h; (try clear w); intro w h; dsimp only [putN, setN] at h)
   exact hk2 _ w ⟨b8, rfl, dl1_ h⟩
  ·refine nw h ?_; clear h; (try clear w); intro b8 w h
   (refine ckC h ?_; refine ckC h ?_)
   refine zdg h 5 rfl R.sh fun w h => ?_
   (refine stC h ?_; clear h; (try clear w); intro w h; dsimp only [putN, setN] at h)
   exact hk2 _ w ⟨b8, rfl, dl1_ h⟩
 clear h; (try clear w)
 rintro z w ⟨b8, rfl, h⟩
 (try dsimp only)
 refine it (fun hc => ?_) (fun hc => ?_)
 ·have hc : (shCfg a.sh e.name).2.2.2.1 = false := by simpa using hc
  rw [if_pos hc] at hk
  refine z5I h fun v s w r h => ?_
  exact ⟨v, rfl, hk v s _ w r hs0 (sysBack i hi (dl1_ h))⟩
 have hc : (shCfg a.sh e.name).2.2.2.1 = true := by simpa using hc
 rw [if_neg (by simp [hc])] at hk
 obtain ⟨st1, st2, st3, st4⟩ := hst hc
 have hmin : 0 ≤ wantOf (shCfg a.sh e.name).1 ∧ wantOf (shCfg a.sh e.name).1 ≤ 1000000 := by
  unfold wantOf
  split <;> omega
 unfold wantOf at hk hmin
 generalize shCfg a.sh e.name = z at *
 obtain ⟨c, ver, gen, is, ⟨⟩⟩ := z
 dsimp only at hk hc hmin h st1 ⊢
 simp only [id] at st2 st3 st4
 refine it (fun h2 => ?_) (fun h2 => ?_)
 ·exact absurd (of_decide_eq_true h2) (by simp only [Int.not_lt, gt_iff_lt]; omega)
 have hng : ¬ @id Int gen > 999999 := by simp only [id]; omega
 rw [if_neg hng] at hk
 (refine dr h ?_; clear h; (try clear w); intro w h; refine nn ?_; refine ldC h ?_; refine laC h ?_)
 obtain ⟨g, rfl⟩ : ∃ g : Nat, gen = (g : Int) := ⟨@Int.toNat gen, by omega⟩
 have hg1 : 1 ≤ g := by have : (1 : Int) ≤ (g : Int) := st2
                        omega
 have hg2 : g < 100 := by have : (g : Int) < 100 := st3
                          omega
 simp only [id, Int.toNat_natCast] at hk hmin
 refine zjr (c := c) h 5 rfl R.bk st1 hg1 hg2 hf fun sk' w hK h => ?_
 dsimp only [setN] at h
 have hrev := zl6 a.bk c g
 have hsz : (revB c.1 g).size ≤ 1000000 := by have := z8s c.1 hg2; have := z8p st1; omega
 rw [← hrev] at hsz
 clear hrev
 generalize (bkStamp a.bk c g).2.1 = rev at *
 have hfr : ∀ x : Bool, (bkStamp a.bk c g).2.2 = x → True := fun _ _ => trivial
 generalize (bkStamp a.bk c g).2.2 = fr at *
 generalize (bkStamp a.bk c g).1 = K at *
 cases fr with
 | false =>
  rw [if_pos rfl] at hk
  refine itT rfl ?_
  refine nw h ?_; clear h; (try clear w); intro b17 w h
  refine lineS1 h (by decide) (by omega) fun w h => ?_
  refine nw h ?_; clear h; (try clear w); intro b19 w h
  exact ⟨_, rfl, hk _ _ _ w (Rw.lit b19 [_] encS rfl rfl (by simp [maxLen])) ⟨p, sg, sf, ss, sk', sr, sm, Q, ⟨R.gt, R.fl, R.sh, hK, R.ro, R.mp, R.ea, R.ab⟩, rfl⟩ (sysBack i hi (dl1_ h))⟩
 | true =>
  rw [if_neg (by decide)] at hk
  refine itF rfl ?_
  (refine ldC h ?_; refine dr h ?_; clear h; (try clear w); intro w h; refine nn ?_; refine ldC h ?_)
  refine zm0 h fun bg sgg w hG h => ?_
  (refine ckC h ?_)
  refine nw h ?_; clear h; (try clear w); intro b24 w h
  (refine ckC h ?_)
  refine MpS.set mkStr zeh h 9 rfl R.mp (some ⟨b24, 0, none⟩) rfl fun sm' w hm' h => ?_
  dsimp only [setN] at h
  refine nw h ?_; clear h; (try clear w); intro b25 w h
  refine lineS1 h (by decide) (by omega) fun w h => ?_
  refine nw h ?_; clear h; (try clear w); intro b27 w h
  refine lineS1 h (by decide) (by omega) fun w h => ?_
  have hl : (lineB s_scale [rev]).size ≤ 100000000 := by rw [z6x]; have : s_scale.size = 5 := rfl; omega
  refine nw h ?_; clear h; (try clear w); intro b29 w h
  refine lineI1 h hl hmin.1 (by omega) fun w h => ?_
  refine nw h ?_; clear h; (try clear w); intro b31 w h
  have h : St w0 ([Cl b31 z01 [.string (lineB z8q [rev]), .string (lineB (lineB s_scale [rev]) [decD (if 1 > @id Int c.2.2.2.1 then 1 else @id Int c.2.2.2.1).toNat])]] :: [Cl b24 z3m [.pointer (some ⟨bg, 0, none⟩), I (if 1 > @id Int c.2.2.2.1 then 1 else @id Int c.2.2.2.1), I 0]] :: sgg :: [Cl b8 z0b (Cfg.cells c)] :: sysC b p a.now :: sg :: sf :: ss :: sk' :: sr :: sm' :: (Q.map BsE.sg).flatten :: delN E i) w := h
  have h := dl3_ h
  have h := fr2_ (fr2_ h)
  have h := h.glue
  have h := fr1_ (fr9_ h)
  have h : St w0 (BsE.sg ⟨rev, b24, bg, ⟨[], (if 1 > @id Int c.2.2.2.1 then 1 else @id Int c.2.2.2.1), 0⟩, sgg⟩ :: (Q.map BsE.sg).flatten :: [Cl b31 z01 [.string (lineB z8q [rev]), .string (lineB (lineB s_scale [rev]) [decD (if 1 > @id Int c.2.2.2.1 then 1 else @id Int c.2.2.2.1).toNat])]] :: sysC b p a.now :: sg :: sf :: ss :: sk' :: sr :: sm' :: delN E i) w := h
  have h := St.lput (key := BsE.k) h
  have h := fr8_ (fr8_ (fr8_ (fr8_ (fr8_ (fr8_ (fr8_ (fr8_ h)))))))
  have e5 := z9D (key := BsE.k) (fun x : BsE => (some ⟨x.b, 0, none⟩ : Option Addr)) ⟨rev, b24, bg, ⟨[], (if 1 > @id Int c.2.2.2.1 then 1 else @id Int c.2.2.2.1), 0⟩, sgg⟩ Q
  have e6 := z9D (key := BsE.k) BsE.x ⟨rev, b24, bg, ⟨[], (if 1 > @id Int c.2.2.2.1 then 1 else @id Int c.2.2.2.1), 0⟩, sgg⟩ Q
  refine ⟨_, rfl, hk _ _ _ w (Rw.lit b31 [_, _] encS rfl rfl (by simp [maxLen])) ⟨p, sg, sf, ss, sk', sr, sm', _, ⟨R.gt, R.fl, R.sh, hK, R.ro, by rw [← e5] at hm'; exact hm', fun y hy => ?_, ?_⟩, rfl⟩ (sysBack i hi h)⟩
  ·rcases zdI hy with rfl | hy
   ·exact hG
   ·exact R.ea y hy
  ·show mset a.by' _ _ = _
   rw [R.ab]; exact e6.symm
abbrev ldTab (a : ASys) (n : ByteArray) : ATab × Int := resolve a.bk (shRt a.sh n).1
abbrev ldNow (a : ASys) (n : ByteArray) : ATab := nowOf a.ro n (ldTab a n).1 a.now (shRt a.sh n).1.roll
def sysLead (a : ASys) (e : AEv) : ASys × List ByteArray :=
 if (shRt a.sh e.name).2.2 = false then (a, refusedB 6) else if (ldTab a e.name).2 ≠ 0 then (a, refusedB (ldTab a e.name).2)
 else ({ a with ro := roTurn a.ro e.name (ldTab a e.name).1 a.now (shRt a.sh e.name).1.roll }, [lineB zla [e.name, tabText (ldNow a e.name)]])
structure TabB (t : ATab) : Prop where
 sh : ∀ s ∈ t.sh, (0 ≤ @id Int s.2.1 ∧ @id Int s.2.1 ≤ 1000) ∧ s.1.size ≤ 1000
 tg : ∀ s ∈ t.tg, s.1.size ≤ 1000 ∧ s.2.1.size ≤ 1000
 txt : (tabText t).size ≤ 100000000
theorem zdT {rev : ByteArray} {y : ABes} {sgg : Seg} {x : BsE} (hk : x.k = rev) {B : List BsE} : ∀ {A : List BsE}, ((A ++ x :: B).map BsE.k).Nodup → (A ++ ⟨x.k, x.b, x.g, y, sgg⟩ :: B).map BsE.ka = mset ((A ++ x :: B).map BsE.ka) rev y
 | [], _ => by
  subst hk
  simp [mset]
 | a :: A, hn => by
  have hn2 := hn
  rw [List.cons_append, List.map_cons, List.nodup_cons] at hn2
  have hne : ¬ a.k = rev := fun e => hn2.1 (by rw [e, ← hk]; simp)
  have ih := zdT hk (A := A) (y := y) (sgg := sgg) hn2.2
  rw [List.cons_append, List.map_cons, List.cons_append, List.map_cons, ih]
  simp only [mset]
  rw [if_neg hne]
def bnd (a : ASys) (e : AEv) : ByteArray := if (mget a.ro e.name).isSome = false then s_ else if e.tag = s_ then tPick (roTab a.ro e.name) e.draw else (tagL (roTab a.ro e.name).tg e.tag).1
abbrev arG (a : ASys) (e : AEv) : AFleet × AGate × Fate := gArr a.fl a.gt e.n (bnd a e) a.now
def pokes (a : ASys) (e : AEv) : Option ABes := match mget a.by' (bnd a e) with
 | some x => if (arG a e).2.2.2.1 = 2 ∧ x.want = 0 then some x else none
 | none => none
def sysArrive (a : ASys) (e : AEv) : ASys × List ByteArray := match pokes a e with
 | some x => ({ a with fl := (arG a e).1, gt := (arG a e).2.1, by' := mset a.by' (bnd a e) ⟨x.xs, 1, x.left⟩ }, [fateB (arG a e).2.2, lineB (lineB s_scale [bnd a e]) [decD 1]])
 | none => ({ a with fl := (arG a e).1, gt := (arG a e).2.1 }, [fateB (arG a e).2.2])
theorem zptr (w : World) : (zeroValue z3w).run Pr w = .ok ((E1.one .ptr).val (none : Option Addr)) w := by
 have h : (Pr.info? z3w).map (·.zero) = some (some (.pointer none)) := by kernel_rfl
 cases hi : Pr.info? z3w with
 | none => rw [hi] at h; cases h
 | some i => rw [hi] at h; simp only [Option.map_some, Option.some.injEq] at h; exact zv hi h w
theorem zdd {Q : List BsE} {rev : ByteArray} : mget (Q.map BsE.kp) rev = (lfind BsE.k Q rev).map fun x => some ⟨x.b, 0, none⟩ := z7K (key := BsE.k) (fun x : BsE => (some ⟨x.b, 0, none⟩ : Option Addr)) rev Q
theorem zde {Q : List BsE} {rev : ByteArray} : mget (Q.map BsE.ka) rev = (lfind BsE.k Q rev).map BsE.x := z7K (key := BsE.k) BsE.x rev Q
def wantB (m : List (ByteArray × ABes)) (rev : ByteArray) : Int := ((mget m rev).map ABes.want).getD 0
theorem zeY (h : St w0 E w) {b : Nat} {p : Bls} {now : Int} {sm : Seg} {Q : List BsE} {i j l : Nat} (hi : nth E i = some (sysC b p now)) (hj : nth E j = some sm) (hl : nth E l = some (Q.map BsE.sg).flatten) (hm : MpS Value.string Value.pointer p.m (Q.map BsE.kp) sm) {rev : ByteArray} {k : Int → PT} (hk : k (wantB (Q.map BsE.ka) rev) w) :
  L.call Pr z1M [.pointer (some ⟨b, 0, none⟩), .string rev] (.one (.one (.int .i64))) k w := by
 refine z00 (z8F _ _) ?_
 unfold z59
 have h0 := h
 have h := h0.front i hi
 unfold wantB at hk
 rw [zde] at hk
 (refine nn ?_; refine ldC h ?_)
 refine z00 (z4u _ _) ?_
 unfold z2r
 refine MpS.get2 mkStr zeh zptr (fun x : Option Addr => x) (fun _ => rfl) h0 j hj hm ?_
 rw [zdd]
 cases hf : lfind BsE.k Q rev with
 | none =>
  rw [hf] at hk
  refine ⟨(none, false, ()), rfl, ?_⟩
  exact itF rfl ⟨_, rfl, hk⟩
 | some x =>
  rw [hf] at hk
  obtain ⟨A, B, rfl, hxk⟩ := z8u hf
  refine ⟨(some ⟨x.b, 0, none⟩, true, ()), rfl, ?_⟩
  refine itT rfl ?_
  have h := ((h0.front l hl).pick).split
  (refine nn ?_; refine ldC h ?_)
  exact ⟨_, rfl, hk⟩
def cnt (q : Int → Bool) (l : List (Int × Int × Int)) : Int := ((l.filter fun x => q x.2.1).length : Int)
theorem zdf (h : St w0 E w) {b : Nat} {p : Bls} {now : Int} {sf : Seg} {F : AFleet} {i j : Nat} (hi : nth E i = some (sysC b p now)) (hj : nth E j = some sf) (hf : FlS p.f F sf) {rev : ByteArray} {fv : FV} {q : Int → Bool} (hlen : (fPods F.l rev).length < 1000000)
  (hq : ∀ {E' : List Seg} {w : World} {x : Int} {k : Bool → PT}, St w0 E' w → (∀ w', St w0 E' w' → k (q x) w') → L.callV Pr (.func fv.fn fv.fs fv.cs) [I x] (.one (.one .bool)) k w) {k : Int → PT} (hk : ∀ w', St w0 E w' → k (cnt q (fPods F.l rev)) w') :
  L.call Pr z2l [.pointer (some ⟨b, 0, none⟩), .string rev, fv.val] (.one (.one (.int .i64))) k w := by
 refine z00 (z8e _ _ fv) ?_
 unfold z4T
 refine z00 (z5i _ _) ?_
 unfold z3J
 have h0 := h
 have h := h0.front i hi
 (refine nn ?_; refine ldC h ?_)
 refine zjm h0 j hj hf fun v s w hr h => ⟨v, rfl, ?_⟩
 clear h0
 generalize fPods F.l rev = l at *
 have hln := Rw.len encK hr
 refine z0G (fun m y w => ∃ (j : Nat), @Eq Int y.2.1 j ∧ m + j = l.length ∧ @Eq Int y.1 (cnt q (l.take j)) ∧ St w0 (s :: E) w) l.length ⟨0, rfl, rfl, rfl, h⟩ ?_
 clear h; (try clear w)
 rintro m ⟨n, y, ⟨⟩⟩ w ⟨j, hy, hm, hn, h⟩ again hag
 (try dsimp only)
 simp only at hy hn
 subst hy
 refine it (fun hb => ?_) (fun hb => ?_) <;> (try simp only [zB] at hb)
 ·have hj : j < l.length := by omega
  have hx : l[j]? = some l[j] := List.getElem?_eq_getElem hj
  have et : cnt q (l.take (j + 1)) = cnt q (l.take j) + (if q l[j].2.1 = true then 1 else 0) := by
   unfold cnt
   rw [List.take_succ, hx, Option.toList_some, List.filter_append, List.length_append]
   by_cases hc : q l[j].2.1 = true
   ·simp [hc]
   ·simp [hc]
  have hle : 0 ≤ cnt q (l.take j) ∧ cnt q (l.take j) ≤ j := by
   unfold cnt
   have := List.length_filter_le (fun x : Int × Int × Int => q x.2.1) (l.take j)
   rw [List.length_take] at this
   omega
  generalize l[j] = x at hx et
  obtain ⟨x1, x2, x3⟩ := x
  refine jd ?_
  refine Rw.ix encK hr (by omega) (by simpa using hj) fun a ha => ?_
  refine Rw.lda encK h 0 rfl hr ha (x := (x1, x2, x3)) (by simpa using hx) rfl ?_
  refine nw h ?_; clear h; (try clear w); intro b8 w h
  (refine stC h ?_; clear h; (try clear w); intro w h; dsimp only [putN, setN] at h; refine ldC h ?_)
  refine hq h fun w h => ?_
  have h := dl0_ h
  dsimp only at et
  refine it (fun hc => ?_) (fun hc => ?_)
  ·rw [if_pos hc] at et
   refine hag (m - 1) _ w (by omega) ⟨j + 1, ?_, by omega, ?_, h⟩
   ·show IntKind.wrap .i64 _ = _
    rw [wr (by omega) (by omega)]; omega
   ·show IntKind.wrap .i64 (n + 1) = _
    rw [et, hn, wr (by omega) (by omega)]
  ·rw [if_neg (by rw [hc]; decide)] at et
   refine hag (m - 1) _ w (by omega) ⟨j + 1, ?_, by omega, ?_, h⟩
   ·show IntKind.wrap .i64 _ = _
    rw [wr (by omega) (by omega)]; omega
   ·show n = _
    rw [et, hn]; omega
 ·have e : l.take j = l := List.take_of_length_le (by omega)
  rw [e] at hn
  have := hk w (dl0_ h)
  rw [← hn] at this
  exact ⟨_, rfl, this⟩
abbrev pdWant (a : ASys) (n : ByteArray) : Int := wantB a.by' n
abbrev pdConc (a : ASys) (n : ByteArray) : Int := @id Int (bkGet a.bk n).2.2.2.2.1
abbrev pdFl (a : ASys) (n : ByteArray) : AFleet := (fScale a.fl n (pdConc a n) (pdWant a n)).1
abbrev numL (word : ByteArray) (l : List Int) : List ByteArray := l.map fun x => lineB word [decD x.toNat]
def sysPods (a : ASys) (e : AEv) : ASys × List ByteArray :=
 if bkHas a.bk e.name = false then (a, refusedB 6)
 else ({ a with fl := pdFl a e.name }, numL zkL (fMade a.fl e.name (pdWant a e.name)) ++ numL zkO (fScale a.fl e.name (pdConc a e.name) (pdWant a e.name)).2 ++ [lineB (lineB s_fleet [e.name]) [decD (cnt (fun s => s != 3) (fPods (pdFl a e.name).l e.name)).toNat]])
theorem ziE [bTab w0] {word : ByteArray} {v : Sl} {l : List Int} {X : List ByteArray} {vo : Sl} {si so : Seg} (hr : Rw eI z0i 1 v l si) (hl : l.length < 1000000) (hX : X.length < 1000000) (hb : ∀ x ∈ l, 0 ≤ x ∧ x ≤ 9000000000000000000) (hw : word.size ≤ 1000) (ro : Rw eS z01 1 vo X so) {k : Sl × Int × Unit → PT}
  (h : St w0 (so :: si :: E) w) (hk : ∀ v' s' m w', Rw eS z01 1 v' (X ++ numL word l) s' → St w0 (s' :: si :: E) w' → k (v', m, ()) w') :
  L.loop (Y := Sl × Int × Unit) (⟨vo.a, vo.len, vo.cap⟩, 0, ()) (fun y19 again20 =>
   L.ite (decide (y19.2.1 < ((v.len : Nat) : Int))) (
    L.idx v.a y19.2.1 v.len 1 fun a21 =>
    L.load (.one (.int .i64)) a21 fun (x22 : Int) =>
    L.new [.int .i64 x22] z0i fun b23 =>
    L.call Pr z0d [.string word, .slice (some ⟨b23, 0, none⟩) 1 1] (.one (.one (.str))) fun (x24 : ByteArray) =>
    L.new [.string x24] z01 fun b25 =>
    L.sem Pr (.one (.one .slice)) (Builtin.append_ #[z05, z05] z05 #[.slice y19.1.a y19.1.len y19.1.cap, .slice (some ⟨b25, 0, none⟩) 1 1]) fun (s26 : Sl) =>
    again20 (⟨s26.a, s26.len, s26.cap⟩, IntKind.wrap .i64 (y19.2.1 + 1), ())) <|
   k y19) w := by
 have hln := Rw.len encI hr
 refine z0G (fun q y w => ∃ (j : Nat) (s3 : Seg), @Eq Int y.2.1 j ∧ q + j = l.length ∧ Rw eS z01 1 y.1 (X ++ numL word (l.take j)) s3 ∧ St w0 (s3 :: si :: E) w) l.length ⟨0, so, rfl, by simp, by simpa using ro, h⟩ ?_
 clear ro
 clear h; (try clear w)
 rintro q ⟨vo, y, ⟨⟩⟩ w ⟨j, s3, hy, hq, r3, h⟩ again hag
 (try dsimp only)
 simp only at hy r3
 subst hy
 refine it (fun hb2 => ?_) (fun hb2 => ?_) <;> (try simp only [zB] at hb2)
 ·have hj : j < l.length := by omega
  have hx : l[j]? = some l[j] := List.getElem?_eq_getElem hj
  have hbx := hb l[j] (List.getElem_mem hj)
  have et : numL word (l.take (j + 1)) = numL word (l.take j) ++ [lineB word [decD (l[j]).toNat]] := by unfold numL; rw [List.take_succ, hx, List.map_append]; rfl
  generalize l[j] = x at hx et hbx
  refine Rw.ix encI hr (by omega) (by simpa using hj) fun a ha => ?_
  refine Rw.ld0 encI h 1 rfl hr ha (x := x) (by simpa using hx) rfl rfl ?_
  refine nw h ?_; clear h; (try clear w); intro b23 w h
  refine lineI1 h (by omega) hbx.1 hbx.2 fun w h => ?_
  refine nw h ?_; clear h; (try clear w); intro b25 w h
  refine Rw.app encS elS h 0 rfl r3 (lineB word [decD x.toNat]) rfl (by simp; omega) (by simp; omega) fun v' s3' w r3' h => ?_
  refine hag (q - 1) _ w (by omega) ⟨j + 1, s3', ?_, by omega, by rw [et, ← List.append_assoc]; exact r3', h⟩
  show IntKind.wrap .i64 _ = _
  rw [wr (by omega) (by omega)]; omega
 ·have e : l.take j = l := List.take_of_length_le (by omega)
  rw [e] at r3
  exact hk vo s3 _ w r3 h
theorem zje [bTab w0] (h : St w0 E w) (i : Nat) {b : Nat} {a : ASys} {s : Seg} (hi : nth E i = some s) (hs : SysS b a s) {e : AEv} (hroom : a.fl.room < 1000000) (hlast : a.fl.last + a.fl.room < 4611686018427387904) (hname : e.name.size ≤ 100000)
  (hmade : ∀ x ∈ fMade a.fl e.name (pdWant a e.name), 0 ≤ x ∧ x ≤ 9000000000000000000) (hmn : (fMade a.fl e.name (pdWant a e.name)).length < 100000) (hgone : ∀ x ∈ (fScale a.fl e.name (pdConc a e.name) (pdWant a e.name)).2, 0 ≤ x ∧ x ≤ 9000000000000000000) (hgn : (fScale a.fl e.name (pdConc a e.name) (pdWant a e.name)).2.length < 100000)
  (hpn : (fPods (pdFl a e.name).l e.name).length < 1000000) {k : Sl → PT} (hk : Hk w0 E i b (sysPods a e) k) : z1P (some ⟨b, 0, none⟩) e.t (slK k) w := by
 have hs0 := hs
 obtain ⟨p, sg, sf, ss, sk, sr, sm, Q, R, rfl⟩ := hs
 unfold z1P
 unfold sysPods at hk
 have h := (h.front i hi).split8
 refine nw h ?_; clear h; (try clear w); intro b1 w h
 refine z1k (fun (z : Addr × Bool × Unit) w => ∃ b8 : Nat, z = (⟨b8, 0, none⟩, bkHas a.bk e.name, ()) ∧
  St w0 ([Cl b8 z0l (rvC (bkGet a.bk e.name))] :: [Cl b1 z0p (eEw e)] :: sysC b p a.now :: sg :: sf :: ss :: sk :: sr :: sm :: (Q.map BsE.sg).flatten :: delN E i) w) (fun k2 hk2 => ?_) ?_
 ·(dsimp only [setN, List.cons_append, List.nil_append] at h; refine dr h ?_; clear h; (try clear w); intro w h; refine nn ?_; refine ldC h ?_; refine ldC h ?_)
  refine alts2 ?_ ?_
  ·refine zaO h 5 rfl R.bk fun w h => ?_
   refine nw h ?_; clear h; (try clear w); intro b8 w h
   (refine ckC h ?_; refine ckC h ?_; refine stC h ?_; clear h; (try clear w); intro w h; dsimp only [putN, setN] at h)
   exact hk2 _ w ⟨b8, rfl, h⟩
  ·refine nw h ?_; clear h; (try clear w); intro b8 w h
   (refine ckC h ?_; refine ckC h ?_)
   refine zaO h 6 rfl R.bk fun w h => ?_
   (refine stC h ?_; clear h; (try clear w); intro w h; dsimp only [putN, setN] at h)
   exact hk2 _ w ⟨b8, rfl, h⟩
 clear h; (try clear w)
 rintro z w ⟨b8, rfl, h⟩
 (try dsimp only)
 refine it (fun hc => ?_) (fun hc => ?_)
 ·have hc : bkHas a.bk e.name = false := by simpa using hc
  rw [if_pos hc] at hk
  refine z5I h fun v s w r h => ?_
  exact ⟨v, rfl, hk v s _ w r hs0 (sysBack i hi (dl1_ (dl1_ h)))⟩
 have hc : ¬ bkHas a.bk e.name = false := by simpa using hc
 rw [if_neg hc] at hk
 (refine dr h ?_; clear h; (try clear w); intro w h; refine nn ?_; refine ldC h ?_; refine ldC h ?_; rw [z3H]; refine ldC h ?_; refine ldC h ?_)
 refine zeY h (i := 2) (j := 8) (l := 9) rfl rfl rfl R.mp ?_
 (refine ckC h ?_; refine ckC h ?_; refine ckC h ?_)
 have ew : wantB (Q.map BsE.ka) e.name = pdWant a e.name := by unfold pdWant; rw [R.ab]
 rw [ew]
 have hF0 := R.fl
 unfold pdFl at *
 refine zkB (conc := pdConc a e.name) h 4 rfl R.fl (by omega) hlast fun v1 v2 sf' s1 s2 w hF r1 r2 h => ?_
 dsimp only [setN] at h
 generalize fScale a.fl e.name (pdConc a e.name) (pdWant a e.name) = g at *
 generalize fMade a.fl e.name (pdWant a e.name) = made at *
 obtain ⟨F, gone⟩ := g
 dsimp only at *
 have h := fr1_ h
 refine ziE (vo := ⟨none, 0, 0⟩) (X := []) r1 (by omega) (by simp) hmade (by decide) Rw.nil h.nil fun v3 s3 m w r3 h => ?_
 have h := fr2_ (fr2_ (fr1_ h))
 refine ziE r2 (by omega) (by simp [numL]; omega) hgone (by decide) r3 h fun v4 s4 m w r4 h => ?_
 (refine ldC h ?_)
 refine zdf h (i := 5) (j := 7) rfl rfl hF (fv := ⟨.func z2e, #[], #[]⟩) (q := fun s => s != 3) hpn (fun {E' w x k} h hk => ?_) fun w h => ?_
 ·refine z3U (fs := #[]) (cs := #[]) z7s (z7u x) ?_
  unfold z4z
  exact ⟨_, rfl, hk w h⟩
 (refine ldC h ?_)
 have hcn : 0 ≤ cnt (fun s => s != 3) (fPods F.l e.name) ∧ cnt (fun s => s != 3) (fPods F.l e.name) ≤ 1000000 := by
  unfold cnt
  have := List.length_filter_le (fun x : Int × Int × Int => (fun s => s != 3) x.2.1) (fPods F.l e.name)
  refine ⟨Int.natCast_nonneg _, ?_⟩
  have h2 : ((fPods F.l e.name).filter fun x : Int × Int × Int => (fun s => s != 3) x.2.1).length ≤ 1000000 := by omega
  exact Int.ofNat_le.2 h2
 generalize cnt (fun s => s != 3) (fPods F.l e.name) = n at *
 refine nw h ?_; clear h; (try clear w); intro b38 w h
 refine lineS1 h (by decide) (by omega) fun w h => ?_
 refine nw h ?_; clear h; (try clear w); intro b40 w h
 refine lineI1 h (by rw [z6x]; have : s_fleet.size = 5 := rfl; omega) hcn.1 (by omega) fun w h => ?_
 refine nw h ?_; clear h; (try clear w); intro b42 w h
 refine Rw.app encS elS h 0 rfl r4 (lineB (lineB s_fleet [e.name]) [decD n.toNat]) rfl (by simp [numL]; omega) (by simp [numL]; omega) fun v5 s5 w r5 h => ?_
 refine ⟨v5, rfl, hk v5 s5 _ w (by simpa using r5) ⟨p, sg, sf', ss, sk, sr, sm, Q, ⟨R.gt, hF, R.sh, R.bk, R.ro, R.mp, R.ea, R.ab⟩, rfl⟩ (sysBack i hi ?_)⟩
 exact dl1_ (dl1_ (dl1_ (dl1_ h)))
def busyB (G : AGate) (rev : ByteArray) : Int := ((gWait G rev).length : Int) + (gWith G.all rev).length
def tkStep (G : AGate) (m : List (ByteArray × ABes)) (rev : ByteArray) : List (ByteArray × ABes) := match mget m rev with
 | some x => mset m rev ⟨x.xs ++ [if 0 > busyB G rev then 0 else busyB G rev], x.want, x.left⟩
 | none => m
abbrev tkG (a : ASys) : AGate × List Fate := gTick a.gt (a.now + 1)
def sysTick (a : ASys) : ASys × List ByteArray :=
 if a.now ≥ 1048576 then (a, refusedB 9)
 else ({ a with gt := (tkG a).1, now := a.now + 1, by' := (bkAll a.bk).foldl (tkStep (tkG a).1) a.by' }, lineB ziq [decD (a.now + 1).toNat] :: (tkG a).2.map fateB)
theorem zjd [bTab w0] (h : St w0 E w) (i : Nat) {b : Nat} {a : ASys} {s : Seg} (hi : nth E i = some s) (hs : SysS b a s) {e : AEv} (hnow : 0 ≤ a.now) (hwk : GWk a.gt) (hfl : (tkG a).2.length < 90000000) (hf : ∀ f ∈ (tkG a).2, f.Ok)
  (hby : ∀ rev ∈ bkAll a.bk, (mget a.by' rev).isSome = true) (hxs : ∀ x ∈ a.by', x.2.xs.length < 1000000000) (hfb : a.bk.all.length < 1000000) {k : Sl → PT} (hk : Hk w0 E i b (sysTick a) k) : z3I (some ⟨b, 0, none⟩) e.t (slK k) w := by
 have hs0 := hs
 obtain ⟨p, sg, sf, ss, sk, sr, sm, Q, R, rfl⟩ := hs
 unfold z3I
 unfold sysTick tkG at hk
 unfold tkG at hfl hf
 have h := (h.front i hi).split8
 refine nw h ?_; clear h; (try clear w); intro b1 w h
 (dsimp only [setN, List.cons_append, List.nil_append] at h; refine nn ?_; refine ldC h ?_)
 refine it (fun hc => ?_) (fun hc => ?_) <;> (try simp only [zB] at hc)
 ·rw [if_pos hc] at hk
  refine z5I h fun v s w r h => ?_
  exact ⟨v, rfl, hk v s _ w r hs0 (sysBack i hi (dl1_ h))⟩
 rw [if_neg hc] at hk
 (refine nn ?_; refine ldC h ?_; refine nn ?_; refine stC h ?_; clear h; (try clear w); intro w h; dsimp only [putN, setN] at h; refine dr h ?_; clear h; (try clear w); intro w h; refine nn ?_; refine ldC h ?_; refine nn ?_; refine ldC h ?_)
 rw [wr (by omega) (by omega)] at h ⊢
 have h := fr2_ h
 refine zm2 h R.gt hwk hfl fun v sv sg' w hr hG h => ?_
 generalize gTick a.gt (a.now + 1) = g at *
 refine z00 (z3O _) ?_
 unfold z2p
 (refine nn ?_; refine ldC h ?_)
 refine zju h 6 rfl R.bk fun v2 s2 w r2 h => ⟨v2, rfl, ?_⟩
 have hnl : (bkAll a.bk).length < 1000000 := by unfold bkAll; rw [z6q, List.length_map]; exact hfb
 generalize bkAll a.bk = l at *
 have hln := Rw.len encS r2
 let EV : Seg := [Cl b1 z0p (eEw e)]
 refine z0G (fun m y w => ∃ (j : Nat) (sg2 : Seg) (Q2 : List BsE), @Eq Int y.1 j ∧ m + j = l.length ∧ GtS p.g p.f g.1 sg2 ∧ Q2.map BsE.kp = Q.map BsE.kp ∧ (∀ x ∈ Q2, x.ok) ∧ Q2.map BsE.ka = (l.take j).foldl (tkStep g.1) a.by' ∧ (∀ x ∈ Q2, x.x.xs.length < 1000000000 + j) ∧
  St w0 (s2 :: sv :: sg2 :: EV :: sysC b p (a.now + 1) :: sf :: ss :: sk :: sr :: sm :: (Q2.map BsE.sg).flatten :: delN E i) w) l.length ⟨0, sg', Q, rfl, rfl, hG, rfl, R.ea, R.ab.symm, fun x hx => by have := hxs _ (by rw [R.ab]; exact List.mem_map_of_mem hx); simpa using this, h⟩ ?_
 clear h; (try clear w)
 rintro m ⟨y, ⟨⟩⟩ w ⟨j, sg2, Q2, hy, hm, hG2, ekp, ok2, eka, hx2, h⟩ again hag
 (try dsimp only)
 simp only at hy
 subst hy
 refine it (fun hb => ?_) (fun hb => ?_) <;> (try simp only [zB] at hb)
 ·have hj : j < l.length := by omega
  have hx : l[j]? = some l[j] := List.getElem?_eq_getElem hj
  have hin : (mget (Q2.map BsE.ka) l[j]).isSome = true := by
   have h1 := hby l[j] (List.getElem_mem hj)
   rw [R.ab, zde, Option.isSome_map] at h1
   have h2 : (mget (Q2.map BsE.kp) l[j]).isSome = true := by rw [ekp, zdd, Option.isSome_map]; exact h1
   rw [zdd, Option.isSome_map] at h2
   rw [zde, Option.isSome_map]; exact h2
  have et : (l.take (j + 1)).foldl (tkStep g.1) a.by' = tkStep g.1 (Q2.map BsE.ka) l[j] := by rw [eka, List.take_succ, hx, List.foldl_append]; rfl
  generalize l[j] = rev at *
  have hm2 : MpS Value.string Value.pointer p.m (Q2.map BsE.kp) sm := by rw [ekp]; exact R.mp
  rw [zde, Option.isSome_map] at hin
  obtain ⟨x, hfx⟩ := Option.isSome_iff_exists.1 hin
  have hmk := hm2.nd
  refine Rw.ix encS r2 (by omega) (by simpa using hj) fun ea ha => ?_
  refine Rw.ld0 encS h 0 rfl r2 ha (x := rev) (by simpa using hx) rfl rfl ?_
  (refine dr h ?_; clear h; (try clear w); intro w h; refine nn ?_; refine ldC h ?_)
  have hlk : ((mget (Q2.map BsE.kp) rev).map fun x : Option Addr => x).getD none = some ⟨x.b, 0, none⟩ := by rw [zdd, hfx]; rfl
  refine MpS.get mkStr zeh zptr (fun x : Option Addr => x) (fun _ => rfl) h 9 rfl hm2 ?_
  rw [hlk]
  obtain ⟨A, B, rfl, hxk⟩ := z8u hfx
  have h := z9J h
  have h := h.pick.split
  (refine nn ?_; refine ldC h ?_; refine nn ?_; refine ldC h ?_)
  have h := fr5_ h
  refine zjl h hG2 fun sg3 w hG3 h => ?_
  (refine ckC h ?_)
  refine MpS.chk mkStr zeh (z := .pointer none) zptr h 12 rfl hm2 (by rw [zdd, hfx]; rfl) ?_
  (refine ckC h ?_)
  have hox := ok2 x (by simp)
  have hlx := hx2 x (by simp)
  refine zm1 h 2 rfl hox (by omega) fun sgg w hga h => ?_
  dsimp only [setN] at h
  have hbu : ((gWait g.1 rev).length : Int) + (gWith g.1.all rev).length = busyB g.1 rev := rfl
  rw [hbu] at hga
  have h := fr2_ (fr2_ h)
  have h := h.glue
  have h := fr1_ (fr2_ h)
  have h : St w0 (BsE.sg ⟨x.k, x.b, x.g, ⟨x.x.xs ++ [if 0 > busyB g.1 rev then 0 else busyB g.1 rev], x.x.want, x.x.left⟩, sgg⟩ :: ((A ++ B).map BsE.sg).flatten :: sg3 :: s2 :: sv :: EV :: sysC b p (a.now + 1) :: sf :: ss :: sk :: sr :: sm :: delN E i) w := h
  have h := h.place
  have et2 := zdT (rev := rev) (y := ⟨x.x.xs ++ [if 0 > busyB g.1 rev then 0 else busyB g.1 rev], x.x.want, x.x.left⟩) (sgg := sgg) hxk (B := B) (A := A) (by simpa [List.map_map, Function.comp_def] using hmk)
  refine hag (m - 1) _ w (by omega) ⟨j + 1, sg3, A ++ ⟨x.k, x.b, x.g, ⟨x.x.xs ++ [if 0 > busyB g.1 rev then 0 else busyB g.1 rev], x.x.want, x.x.left⟩, sgg⟩ :: B, ?_, by omega, hG3, ?_, ?_, ?_, ?_, ?_⟩
  ·show IntKind.wrap .i64 _ = _
   rw [wr (by omega) (by omega)]; omega
  ·rw [← ekp]; simp
  ·intro y hy
   rcases List.mem_append.1 hy with hy | hy
   ·exact ok2 y (by simp [hy])
   ·rcases List.mem_cons.1 hy with rfl | hy
    ·exact hga
    ·exact ok2 y (by simp [hy])
  ·rw [et, et2]
   unfold tkStep
   rw [zde, hfx]
   rfl
  ·intro y hy
   rcases List.mem_append.1 hy with hy | hy
   ·have := hx2 y (by simp [hy]); omega
   ·rcases List.mem_cons.1 hy with rfl | hy
    ·simp; omega
    ·have := hx2 y (by simp [hy]); omega
  ·have h := z9J (z9J (fr8_ (z9J (z9J (z9J (z9J (z9J (z9J (z9J h)))))))))
   exact h
 ·have ej : l.take j = l := List.take_of_length_le (by omega)
  rw [ej] at eka
  (refine nn ?_; refine ldC h ?_)
  refine nw h ?_; clear h; (try clear w); intro b29 w h
  refine lineI1 h (by decide) (by omega) (by omega) fun w h => ?_
  refine nw h ?_; clear h; (try clear w); intro b31 w h
  have h := fr1_ (fr2_ h)
  refine zkW h (l := [lineB ziq [decD (a.now + 1).toNat]]) hr hf (by omega) (by simp) (Rw.lit b31 [_] encS rfl rfl (by simp [maxLen])) fun v s w r h => ?_
  refine ⟨v, rfl, hk v s _ w r ⟨p, sg2, sf, ss, sk, sr, sm, Q2, ⟨hG2, R.fl, R.sh, R.bk, R.ro, by rw [ekp]; exact R.mp, ok2, eka.symm⟩, rfl⟩ (sysBack i hi ?_)⟩
  have h := dl1_ (dl2_ (dl4_ h))
  have h := fr2_ (fr2_ (fr1_ h))
  exact h
end Go.Proofs.YtkmalcoocklikaaGreatDoor
namespace Go.Proofs.YtkmalcoocklikaaGreatDoor
open Go.Dm
theorem znu {P : Program} {r : RT} {s : Sem Value} {k : r.T → PT} {w : World} (x : r.T) (h : s.run P w = .ok (r.val x) w) (hk : k x w) : L.semR P r s k w := ⟨x, h, hk⟩
theorem zhA {P : Program} {fv : Value} {args : List Value} {r : RT} {k k' : r.T → PT} {w : World} (h : L.callV P fv args r k w) (hm : ∀ x w, k x w → k' x w) : L.callV P fv args r k' w := FCall.mono h fun _ _ ⟨x, e, hk⟩ => ⟨x, e, hm x _ hk⟩
attribute [local irreducible] L.load L.store L.chk L.new L.nonnil L.guard L.ite L.draw L.idx L.sem L.semR L.semU L.chkSem L.next L.call L.callV L.join L.alts L.loop L.begin L.endRound L.range
variable {w0 w : World} {E : List Seg}
def mV (b : Nat) (f : FuncId) : Value := .func (.func f) #[.pointer (some ⟨b, 0, none⟩)] #[]
def doM : List (Int × FuncId) := [(1, z1b), (2, z3f), (3, z3D), (4, z2U), (5, z3E), (6, z1I), (7, z1o), (8, z1o), (9, z1n), (10, z1g), (11, z3C), (12, z1h), (13, z18)]
theorem z63 : Pr.underlying z02 = some (.map z0i z1B) := by kernel_rfl
theorem zfun (w : World) : (zeroValue z1B).run Pr w = .ok .nilFunc w := by
 have h : (Pr.info? z1B).map (·.zero) = some (some .nilFunc) := by kernel_rfl
 cases hi : Pr.info? z1B with
 | none => rw [hi] at h; cases h
 | some i => rw [hi] at h; simp only [Option.map_some, Option.some.injEq] at h; exact zv hi h w
theorem S_do (h : St w0 E w) {b : Nat} {e : AEv} (hb : chkEv e = 0) (hn : e.kind = 12 ∨ e.kind = 13 → RevN e.name) (rd : RdE w0 E eT e.v e.r.ts) (hvc : e.v.len ≤ e.v.cap) (hrv : ∀ t ∈ e.r.ts, revOk t.1) {f : FuncId} (hf : mget doM e.kind = some f) {k : Sl → PT}
  (hh : ∀ (s1 s2 : Seg) w', St w0 (s1 :: s2 :: E) w' → L.callV Pr (.func (.func f) #[.pointer (some ⟨b, 0, none⟩)] #[]) [evV e] (.one (.one .slice)) k w') : L.call Pr z0g [.pointer (some ⟨b, 0, none⟩), evV e] (.one (.one .slice)) k w := by
 refine z00 (zab _ e.t) ?_
 unfold z6a
 refine nw h ?_; clear h; (try clear w); intro b1 w h
 (dsimp only [setN, List.cons_append, List.nil_append] at h; refine laC h ?_)
 refine zjo (e := e) h hn (fun w h => rd w (dl0_ h)) hvc hrv fun w h => ?_
 refine itF (by simpa using hb) ?_
 refine MpS.new h KI (mV b) fun r s w hm h => ?_
 refine MpS.set mkI z63 h 0 rfl hm z1b rfl fun s w hm h => ?_
 refine MpS.set mkI z63 h 0 rfl hm z3f rfl fun s w hm h => ?_
 refine MpS.set mkI z63 h 0 rfl hm z3D rfl fun s w hm h => ?_
 refine MpS.set mkI z63 h 0 rfl hm z2U rfl fun s w hm h => ?_
 refine MpS.set mkI z63 h 0 rfl hm z3E rfl fun s w hm h => ?_
 refine MpS.set mkI z63 h 0 rfl hm z1I rfl fun s w hm h => ?_
 refine MpS.set mkI z63 h 0 rfl hm z1o rfl fun s w hm h => ?_
 refine MpS.set mkI z63 h 0 rfl hm z1o rfl fun s w hm h => ?_
 refine MpS.set mkI z63 h 0 rfl hm z1n rfl fun s w hm h => ?_
 refine MpS.set mkI z63 h 0 rfl hm z1g rfl fun s w hm h => ?_
 refine MpS.set mkI z63 h 0 rfl hm z3C rfl fun s w hm h => ?_
 refine MpS.set mkI z63 h 0 rfl hm z1h rfl fun s w hm h => ?_
 refine MpS.set mkI z63 h 0 rfl hm z18 rfl fun s w hm h => ?_
 have hm : MpS KI (mV b) r doM s := hm
 dsimp only [setN] at h
 (refine ldC h ?_)
 refine znu ⟨.func f, #[.pointer (some ⟨b, 0, none⟩)], #[]⟩ ?_ ?_
 ·rw [MpS.get_run mkI z63 (zfun w) h 0 rfl hm false, hf]; rfl
 (refine laC h ?_)
 exact zhA (hh s _ w h) fun x w hk => ⟨x, rfl, hk⟩
theorem zg4 (h : St w0 E w) (i : Nat) {b : Nat} {a : ASys} {s : Seg} (hi : nth E i = some s) (hs : SysS b a s) {e : AEv} (hb : chkEv e = 0) (hn : e.kind = 12 ∨ e.kind = 13 → RevN e.name) (rd : RdE w0 E eT e.v e.r.ts) (hvc : e.v.len ≤ e.v.cap) (hrv : ∀ t ∈ e.r.ts, revOk t.1)
  {f : FuncId} (hf : mget doM e.kind = some f) {r : ASys × List ByteArray} {F : (Value → PT) → PT} (hE : Enters Pr f) (hC : ∀ {K : Value → PT} {w : World}, F K w → Calls Pr f (#[.pointer (some ⟨b, 0, none⟩)] ++ [evV e].toArray ++ #[]) w fun e w' => ∃ v, e = .returned v ∧ K v w')
  (hh : ∀ {E2 : List Seg} {i2 : Nat} {w : World} {k : Sl → PT}, St w0 E2 w → nth E2 i2 = some s → (∀ w, St w0 (delN E2 i2) w → St w0 (delN E i) w) → Hk w0 E2 i2 b r k → F (slK k) w) {k : Sl → PT} (hk : Hk w0 E i b r k) :
  L.call Pr z0g [.pointer (some ⟨b, 0, none⟩), evV e] (.one (.one .slice)) k w := by
 refine S_do h hb hn rd hvc hrv hf fun s1 s2 w h => ?_
 refine z3U (F := F) hE hC ?_
 exact hh (E2 := s1 :: s2 :: E) (i2 := i + 2) h hi (fun w h => dl0_ (dl0_ h)) fun v sv s' w' r hs h => hk v sv s' w' r hs (dl1_ (dl1_ h))
end Go.Proofs.YtkmalcoocklikaaGreatDoor
namespace Go.Proofs.YtkmalcoocklikaaGreatDoor
open Go.Dm
attribute [local irreducible] L.load L.store L.chk L.new L.nonnil L.guard L.ite L.draw L.idx L.sem L.semR L.semU L.chkSem L.next L.call L.callV L.join L.alts L.loop L.begin L.endRound L.range
variable {w0 w : World} {E : List Seg}
def newSys (room line pat : Int) : ASys := ⟨⟨[], [], 0⟩, ⟨[], []⟩, [], ⟨room, 0, []⟩, ⟨[], [], line, pat⟩, [], 0⟩
theorem z9e {n a b : Int} {k : Bool → PT} (hk : k (wiB n a b) w) : L.call Pr z1U [I n, I a, I b] (.one (.one .bool)) k w := by
 refine z00 (z9h n a b) ?_
 unfold z5L
 unfold wiB at hk
 refine it (fun h1 => ?_) (fun h1 => ?_)
 ·have h1 : decide (a ≤ n) = true := h1
  rw [h1] at hk
  exact ⟨_, rfl, hk⟩
 ·have h1 : decide (a ≤ n) = false := h1
  rw [h1] at hk
  exact ⟨_, rfl, hk⟩
def newOk (room line pat : Int) : Bool := wiB room 1 30 && (wiB line 0 8 && wiB pat 1 50)
theorem zgX (h : St w0 E w) {room line pat : Int} {k : Option Addr × Int × Unit → PT} (h0 : newOk room line pat = false → ∀ w', St w0 E w' → k (none, 2, ()) w')
  (h1 : newOk room line pat = true → ∀ b s w', SysS b (newSys room line pat) s → St w0 (s :: E) w' → k (some ⟨b, 0, none⟩, 0, ()) w') : L.call Pr z65 [I room, I line, I pat] (.tup [.one .ptr, .one (.int .i64)]) k w := by
 refine z00 (zfb _ _ _) ?_
 unfold zb4
 unfold newOk at h0 h1
 refine z9e ?_
 cases c1 : wiB room 1 30 with
 | false => exact itT rfl ⟨(none, 2, ()), rfl, h0 (by rw [c1]; rfl) w h⟩
 | true =>
 refine itF rfl ?_
 refine z9e ?_
 cases c2 : wiB line 0 8 with
 | false => exact itT rfl ⟨(none, 2, ()), rfl, h0 (by rw [c1, c2]; rfl) w h⟩
 | true =>
 refine itF rfl ?_
 refine z9e ?_
 cases c3 : wiB pat 1 50 with
 | false => exact itT rfl ⟨(none, 2, ()), rfl, h0 (by rw [c1, c2, c3]; rfl) w h⟩
 | true =>
 refine itF rfl ?_
 have hl : 0 ≤ line ∧ line ≤ 8 := by unfold wiB at c2; simpa using c2
 refine znb h fun bf sf w hF h => ?_
 refine zlO h fun bs ss w hS h => ?_
 refine zm9 h fun bk sk w hK h => ?_
 refine zlQ h fun br sr w hR h => ?_
 refine zn7 h (bf := bf) hl.1 (by omega) fun bg sg w hG h => ?_
 refine MpS.new h Value.string Value.pointer fun r sm w hm h => ?_
 refine nw h ?_; clear h; (try clear w); intro b w h
 have h : St w0 (sysC b ⟨bs, bk, br, bf, bg, r⟩ 0 :: sm :: sg :: sr :: sk :: ss :: sf :: E) w := h
 refine ⟨(some ⟨b, 0, none⟩, 0, ()), rfl, h1 (by rw [c1, c2, c3]; rfl) b _ w ⟨⟨bs, bk, br, bf, bg, r⟩, sg, sf, ss, sk, sr, sm, [], ⟨hG, hF, hS, hK, hR, hm, by simp, rfl⟩, rfl⟩ ?_⟩
 have h := fr6_ (fr6_ (fr6_ (fr5_ (fr4_ (fr3_ (fr1_ h))))))
 have h : St w0 (sysC b ⟨bs, bk, br, bf, bg, r⟩ 0 :: sg :: sf :: ss :: sk :: sr :: sm :: (([] : List BsE).map BsE.sg).flatten :: E) w := h.eq (by simp)
 exact h.glue8
def noRt15 : ARt := ⟨s_, s_, [], 0⟩
abbrev noSl : Sl := ⟨none, 0, 0⟩
theorem zh0 [bTab w0] (h : St w0 E w) (i : Nat) {b : Nat} {a : ASys} {s : Seg} (hi : nth E i = some s) (hs : SysS b a s) {e : AEv} (hkd : e.kind = 9) (hb : chkEv e = 0) (rd : RdE w0 E eT e.v e.r.ts) (hvc : e.v.len ≤ e.v.cap) (hrv : ∀ t ∈ e.r.ts, revOk t.1)
  (hnow : 0 ≤ a.now) (hwk : GWk a.gt) (hfl : (tkG a).2.length < 90000000) (hf : ∀ f ∈ (tkG a).2, f.Ok)
  (hby : ∀ rev ∈ bkAll a.bk, (mget a.by' rev).isSome = true) (hxs : ∀ x ∈ a.by', x.2.xs.length < 1000000000) (hfb : a.bk.all.length < 1000000) {k : Sl → PT} (hk : Hk w0 E i b (sysTick a) k) :
  L.call Pr z0g [.pointer (some ⟨b, 0, none⟩), evV e] (.one (.one .slice)) k w :=
 zg4 h i hi hs hb (fun hh => by omega) rd hvc hrv (f := z1n) (by rw [hkd]; rfl) z8B (z8E (some ⟨b, 0, none⟩) e.t)
  (fun h hi _ hk => zjd h _ hi hs hnow hwk hfl hf hby hxs hfb hk) hk
abbrev evT0 (kind : Int) : AEv := ⟨kind, s_, s_, 0, 0, noCfg, noRt15, noSl⟩
theorem chk9 : chkEv (evT0 9) = 0 := by decide +kernel
theorem zhO [bTab w0] (h : St w0 E w) (i : Nat) {b : Nat} {a : ASys} {s : Seg} (hi : nth E i = some s) (hs : SysS b a s) {e : AEv} (hkd : e.kind = 1) (hb : chkEv e = 0) (rd : RdE w0 E eT e.v e.r.ts) (hvc : e.v.len ≤ e.v.cap) (hrv : ∀ t ∈ e.r.ts, revOk t.1)
  (hn : a.sh.n < 900000000) (hsz : e.c.1.size ≤ 1000000) {k : Sl → PT} (hk : Hk w0 E i b (sysConfig a e) k) : L.call Pr z0g [.pointer (some ⟨b, 0, none⟩), evV e] (.one (.one .slice)) k w :=
 zg4 h i hi hs hb (fun hh => by omega) rd hvc hrv (f := z1b) (by rw [hkd]; rfl) z7t (z7v (some ⟨b, 0, none⟩) e.t) (fun h hi _ hk => zg1 h _ hi hs hn hsz hk) hk
theorem zjq [bTab w0] (h : St w0 E w) (i : Nat) {b : Nat} {a : ASys} {s : Seg} (hi : nth E i = some s) (hs : SysS b a s) {e : AEv} (hkd : e.kind = 10) (hb : chkEv e = 0) (rd : RdE w0 E eT e.v e.r.ts) (hvc : e.v.len ≤ e.v.cap) (hrv : ∀ t ∈ e.r.ts, revOk t.1)
  (hst : (shCfg a.sh e.name).2.2.2.1 = true → shortB (shCfg a.sh e.name).1.1.data.toList 16 = true ∧ 1 ≤ @id Int (shCfg a.sh e.name).2.2.1 ∧ @id Int (shCfg a.sh e.name).2.2.1 < 100 ∧ @id Int (shCfg a.sh e.name).1.2.2.2.1 ≤ 1000000) (hf : a.bk.all.length < 999999)
  {k : Sl → PT} (hk : Hk w0 E i b (sysStamp a e) k) : L.call Pr z0g [.pointer (some ⟨b, 0, none⟩), evV e] (.one (.one .slice)) k w :=
 zg4 h i hi hs hb (fun hh => by omega) rd hvc hrv (f := z1g) (by rw [hkd]; rfl) z88 (z8c (some ⟨b, 0, none⟩) e.t) (fun h hi _ hk => zhH h _ hi hs hst hf hk) hk
theorem znc [bTab w0] (h : St w0 E w) (i : Nat) {b : Nat} {a : ASys} {s : Seg} (hi : nth E i = some s) (hs : SysS b a s) {e : AEv} (hkd : e.kind = 6) (hb : chkEv e = 0) (rd : RdE w0 E eT e.v e.r.ts) (hvc : e.v.len ≤ e.v.cap) (hrv' : ∀ t ∈ e.r.ts, revOk t.1)
  (he : 0 ≤ e.n ∧ e.n ≤ 9000000000000000000) (hrv : (fOf (fUpp a.fl e.n).1.l e.n).size ≤ 1000000) (hfew : FFew (fUpp a.fl e.n).1) (hn : a.gt.all.length < 80000000) (hl : a.gt.lines.length < 90000000)
  (hf : ∀ f ∈ (upFlow a e).2.2, f.Ok) (hfl : (upFlow a e).2.2.length < 100000000) {k : Sl → PT} (hk : Hk w0 E i b (sysUp a e) k) : L.call Pr z0g [.pointer (some ⟨b, 0, none⟩), evV e] (.one (.one .slice)) k w :=
 zg4 h i hi hs hb (fun hh => by omega) rd hvc hrv' (f := z1I) (by rw [hkd]; rfl) za8 (zaa (some ⟨b, 0, none⟩) e.t) (fun h hi _ hk => zlH h _ hi hs he hrv hfew hn hl hf hfl hk) hk
theorem zkC [bTab w0] (h : St w0 E w) (i : Nat) {b : Nat} {a : ASys} {s : Seg} (hi : nth E i = some s) (hs : SysS b a s) {e : AEv} (hkd : e.kind = 13) (hnm : RevN e.name) (hb : chkEv e = 0) (rd : RdE w0 E eT e.v e.r.ts) (hvc : e.v.len ≤ e.v.cap) (hrv : ∀ t ∈ e.r.ts, revOk t.1)
  (hroom : a.fl.room < 1000000) (hlast : a.fl.last + a.fl.room < 4611686018427387904) (hname : e.name.size ≤ 100000)
  (hmade : ∀ x ∈ fMade a.fl e.name (pdWant a e.name), 0 ≤ x ∧ x ≤ 9000000000000000000) (hmn : (fMade a.fl e.name (pdWant a e.name)).length < 100000) (hgone : ∀ x ∈ (fScale a.fl e.name (pdConc a e.name) (pdWant a e.name)).2, 0 ≤ x ∧ x ≤ 9000000000000000000) (hgn : (fScale a.fl e.name (pdConc a e.name) (pdWant a e.name)).2.length < 100000)
  (hpn : (fPods (pdFl a e.name).l e.name).length < 1000000) {k : Sl → PT} (hk : Hk w0 E i b (sysPods a e) k) : L.call Pr z0g [.pointer (some ⟨b, 0, none⟩), evV e] (.one (.one .slice)) k w :=
 zg4 h i hi hs hb (fun _ => hnm) rd hvc hrv (f := z18) (by rw [hkd]; rfl) z5g (z5h (some ⟨b, 0, none⟩) e.t) (fun h hi _ hk => zje h _ hi hs hroom hlast hname hmade hmn hgone hgn hpn hk) hk
theorem z8S (h : St w0 E w) (i : Nat) {b : Nat} {a : ASys} {s : Seg} (hi : nth E i = some s) (hs : SysS b a s) {k : Sl → PT} (hk : ∀ v sv w', Rw eS z01 1 v (bkAll a.bk) sv → St w0 (sv :: E) w' → k v w') : L.call Pr z1y [.pointer (some ⟨b, 0, none⟩)] (.one (.one .slice)) k w := by
 obtain ⟨p, sg, sf, ss, sk, sr, sm, Q, R, rfl⟩ := hs
 refine z00 (z3O _) ?_
 unfold z2p
 have h := (h.front i hi).split8
 (refine nn ?_; refine ldC h ?_)
 refine zju h 4 rfl R.bk fun v sv w r h => ⟨v, rfl, hk v sv w r ?_⟩
 have h := fr8_ (fr8_ (fr8_ (fr8_ (fr8_ (fr8_ (fr8_ (fr8_ h)))))))
 have h := h.glue8
 exact St.again (E := sv :: E) (i + 1) hi h
end Go.Proofs.YtkmalcoocklikaaGreatDoor
namespace Go.Proofs.YtkmalcoocklikaaGreatDoor
open Go.Dm
abbrev idB (x : Int) : Prop := 0 ≤ x ∧ x ≤ 2147483647
structure FlI (k : Nat) (F : AFleet) : Prop where
 few : FFew F
 r1 : 1 ≤ F.room
 last : F.last ≤ 30 * (k : Int)
 rev : ∀ x ∈ F.l, RevN x.rev
 req : ∀ x ∈ F.l, ∀ q ∈ x.pod.reqs, idB q
theorem FlI.mono {k m : Nat} {F : AFleet} (h : FlI k F) (hm : k ≤ m) : FlI m F := ⟨h.few, h.r1, by have := h.last; omega, h.rev, h.req⟩
theorem FlI.upd {k : Nat} {F : AFleet} (h : FlI k F) {id : Int} {g : APod → APod} (hf : FFew { F with l := fUpd F.l id g }) (hg : ∀ x ∈ F.l, x.id = id → ∀ q ∈ (g x.pod).reqs, idB q) : FlI k { F with l := fUpd F.l id g } :=
 ⟨hf, h.r1, h.last, fun y hy => by
  rcases zdO hy with hy | ⟨x, hx, _, rfl⟩
  ·exact h.rev y hy
  ·exact h.rev x hx, fun y hy => by
  rcases zdO hy with hy | ⟨x, hx, hid, rfl⟩
  ·exact h.req y hy
  ·exact hg x hx hid⟩
theorem zfA {p : APod} {q z : Int} (h : z ∈ (podTake p q).1.reqs) : z ∈ p.reqs ∨ z = q := by
 unfold podTake at h
 split at h
 ·exact .inl h
 ·split at h
  ·exact .inl h
  ·split at h
   ·exact .inl h
   ·rcases List.mem_cons.1 ((z7M q p.reqs).mem_iff.1 h) with e | e
    ·exact .inr e
    ·exact .inl e
theorem zfC {p : APod} {z : Int} (h : z ∈ (podKill p).1.reqs) : z ∈ p.reqs := by
 unfold podKill at h
 split at h
 ·exact h
 ·cases h
theorem zgr (p : APod) : (podUp p).1.reqs = p.reqs := by unfold podUp; split <;> rfl
theorem zfD (p : APod) : (podDrain p).1.reqs = p.reqs := by unfold podDrain; split <;> rfl
theorem FlI.take {k : Nat} {F : AFleet} (h : FlI k F) (rev : ByteArray) {q : Int} (hq : idB q) : FlI k (fTake F rev q).1 := by
 have hf := h.few.take rev q
 unfold fTake at hf ⊢
 split
 ·exact h
 ·rename_i h1
  rw [if_neg h1] at hf
  split
  ·exact h
  ·rename_i x hx
   rw [hx] at hf
   exact h.upd hf fun y hy _ z hz => by
    rcases zfA hz with e | rfl
    ·exact h.req y hy z e
    ·exact hq
theorem FlI.kill {k : Nat} {F : AFleet} (h : FlI k F) (id : Int) : FlI k (fKill F id).1 := by
 have hf := h.few.kill id
 unfold fKill at hf ⊢
 split
 ·exact h
 ·rename_i x hx
  rw [hx] at hf
  exact h.upd hf fun y hy _ z hz => h.req y hy z (zfC hz)
theorem FlI.up {k : Nat} {F : AFleet} (h : FlI k F) (id : Int) : FlI k (fUpp F id).1 := by
 have hf := h.few.up id
 unfold fUpp
 split
 ·exact h
 ·exact h.upd hf fun y hy _ z hz => h.req y hy z (by rwa [zgr] at hz)
theorem FlI.drain {k : Nat} {F : AFleet} (h : FlI k F) (rev : ByteArray) : FlI k (drain1 rev F) :=
 h.upd (h.few.drain rev) fun y hy _ z hz => h.req y hy z (by rwa [zfD] at hz)
theorem FlI.shrink (rev : ByteArray) : ∀ (n : Nat) {k : Nat} {F : AFleet}, FlI k F → FlI k (YtkmalcoocklikaaGreatDoor.shrink rev n F).1
 | 0, _, _, h => h
 | n + 1, _, _, h => FlI.shrink rev n (h.drain rev)
theorem zdM {rev : ByteArray} {conc : Int} : ∀ (n : Nat) {F : AFleet} {x : AHeld}, x ∈ (grow rev conc n F).l → x ∈ F.l ∨ (x.rev = rev ∧ x.pod = ⟨1, conc, []⟩)
 | 0, _, _, h => .inl h
 | n + 1, F, x, h => by
  unfold grow grow1 at h
  rcases List.mem_append.1 h with h | h
  ·exact zdM n h
  ·rw [List.mem_singleton] at h
   subst h
   exact .inr ⟨rfl, rfl⟩
theorem zbK (F : AFleet) (rev : ByteArray) (want : Int) : (growN F rev want : Int) ≤ max 0 (F.room - F.l.length) := by rw [zkb]; omega
theorem FlI.scale {k : Nat} {F : AFleet} (h : FlI k F) {rev : ByteArray} (hr : RevN rev) {conc : Int} (hc : conc ≤ 1000) (want : Int) : FlI (k + 1) (fScale F rev conc want).1 := by
 have hl := h.few.l
 have hr20 := h.few.r
 unfold podsMost at hr20
 have hn := zbK F rev want
 have hg : FlI (k + 1) (fGrown F rev conc want) := by
  refine ⟨FFew.grow rev hc _ h.few (by omega), ?_, ?_, fun x hx => ?_, fun x hx q hq => ?_⟩
  ·unfold fGrown; rw [z9F]; exact h.r1
  ·unfold fGrown; rw [z9H]; have := h.last; omega
  ·rcases zdM _ hx with hx | ⟨e, -⟩
   ·exact h.rev x hx
   ·rw [e]; exact hr
  ·rcases zdM _ hx with hx | ⟨-, e⟩
   ·exact h.req x hx q hq
   ·rw [e] at hq; cases hq
 exact hg.shrink rev _
theorem zjB {F : AFleet} (ok : F.Ok) (rev : ByteArray) (q : Int) : 0 ≤ (fTake F rev q).2.1 ∧ (fTake F rev q).2.1 ≤ F.last := by
 have := ok.lo
 unfold fTake
 split
 ·exact ⟨Int.le_refl 0, this⟩
 ·split
  ·exact ⟨Int.le_refl 0, this⟩
  ·rename_i x hx
   have := ok.rng x (zdA hx).1
   dsimp only; omega
theorem zi8 (F : AFleet) (rev : ByteArray) (q : Int) : (fTake F rev q).1.last = F.last := by
 unfold fTake
 split
 ·rfl
 ·split <;> rfl
theorem zc6 {rev : ByteArray} : ∀ {l : List (Int × Int)} {F : AFleet} {all : Alls} {out : List Fate}, F.Ok → F.last ≤ 9000000000000000000 → (∀ x ∈ l, idB x.1) → (∀ f ∈ out, f.Ok) → ∀ f ∈ (flowA rev l F all out).2.2.2, f.Ok
 | [], _, _, _, _, _, _, h => h
 | x :: l, F, all, out, ok, hl, hx, h => by
  unfold flowA
  split
  ·have tp := zjB ok rev x.1
   have hx1 := hx x (by simp)
   refine zc6 (zgT ok rev x.1) (by rw [zi8]; exact hl) (fun y hy => hx y (by simp [hy])) fun f hf => ?_
   rcases List.mem_append.1 hf with hf | hf
   ·exact h f hf
   ·rw [List.mem_singleton] at hf
    subst hf
    exact ⟨⟨hx1.1, Int.le_trans hx1.2 (by decide)⟩, ⟨tp.1, Int.le_trans tp.2 hl⟩, by show s_.size ≤ 1000; decide⟩
  ·exact h
theorem zgP {k : Nat} {rev : ByteArray} : ∀ {l : List (Int × Int)} {F : AFleet} {all : Alls} {out : List Fate}, FlI k F → (∀ x ∈ l, idB x.1) → FlI k (flowA rev l F all out).1
 | [], _, _, _, h, _ => h
 | x :: l, F, all, out, h, hx => by
  unfold flowA
  split
  ·exact zgP (h.take rev (hx x (by simp))) fun y hy => hx y (by simp [hy])
  ·exact h
theorem zaJ {rev : ByteArray} : ∀ {l : List (Int × Int)} {F : AFleet} {all : Alls} {out : List Fate}, ∀ y ∈ (flowA rev l F all out).2.2.1, y ∈ l
 | [], _, _, _, y, h => by cases h
 | x :: l, F, all, out, y, h => by
  unfold flowA at h
  split at h
  ·exact List.mem_cons_of_mem _ (zaJ y h)
  ·exact h
theorem zeL {rev : ByteArray} : ∀ {l : List (Int × Int)} {F : AFleet} {all : Alls} {out : List Fate}, (∀ x ∈ all, idB x.1) → (∀ x ∈ l, idB x.1) → ∀ x ∈ (flowA rev l F all out).2.1, idB x.1
 | [], _, _, _, h, _ => h
 | x :: l, F, all, out, h, hx => by
  unfold flowA
  split
  ·refine zeL (fun y hy => ?_) fun y hy => hx y (by simp [hy])
   rcases z1A hy with rfl | hy
   ·exact hx x (by simp)
   ·exact h y hy
  ·exact h
theorem zc0 {κ υ : Type} [DecidableEq κ] (m : List (κ × υ)) (a b : κ) (u : υ) (h : (mget m b).isSome = true) : (mget (mset m a u) b).isSome = true := by
 rw [z5B]; split
 ·rfl
 ·exact h
theorem zaI {rev : ByteArray} {q : Int} : ∀ {l : List (Int × Int)} {F : AFleet} {all : Alls} {out : List Fate}, (mget all q).isSome = true → (mget (flowA rev l F all out).2.1 q).isSome = true
 | [], _, _, _, h => h
 | x :: l, F, all, out, h => by
  unfold flowA
  split
  ·exact zaI (zc0 _ _ _ _ h)
  ·exact h
structure GtI (k : Nat) (G : AGate) : Prop where
 all : G.all.length ≤ 2000 * k
 ids : ∀ x ∈ G.all, idB x.1
 lines : G.lines.length ≤ k
 lid : ∀ x ∈ G.lines, ∀ y ∈ x.2, idB y.1
 wk : GWk G
 pat : 1 ≤ G.pat ∧ G.pat ≤ 1000
 room : 0 ≤ G.room ∧ G.room ≤ 8
theorem GtI.mono {k m : Nat} {G : AGate} (h : GtI k G) (hm : k ≤ m) : GtI m G := ⟨by have := h.all; omega, h.ids, by have := h.lines; omega, h.lid, h.wk, h.pat, h.room⟩
theorem GtI.line {k : Nat} {G : AGate} (h : GtI k G) (rev : ByteArray) : ∀ y ∈ lineOf G.lines rev, idB y.1 := fun y hy => by
 unfold lineOf at hy
 cases hg : mget G.lines rev with
 | none => rw [hg] at hy; cases hy
 | some l => rw [hg] at hy; exact h.lid _ (z3T hg) y hy
theorem GtI.turn {k m : Nat} {G : AGate} (h : GtI k G) {all : Alls} {rev : ByteArray} {l : List (Int × Int)} (hm : k + 1 ≤ m) (hl : all.length ≤ 2000 * m) (hi : ∀ x ∈ all, idB x.1) (hs : ∀ q, (mget G.all q).isSome = true → (mget all q).isSome = true)
  (h1 : ∀ y ∈ l, idB y.1) (h2 : ∀ y ∈ l, (mget all y.1).isSome = true) : GtI m { G with all := all, lines := mset G.lines rev l } := by
 have := h.lines
 have := z6T G.lines rev l
 refine ⟨hl, hi, by dsimp only; omega, fun x hx y hy => ?_, fun x hx y hy => ?_, h.pat, h.room⟩
 ·rcases z1A hx with rfl | hx
  ·exact h1 y hy
  ·exact h.lid x hx y hy
 ·rcases z1A hx with rfl | hx
  ·exact h2 y hy
  ·exact hs _ (h.wk x hx y hy)
theorem GtI.req {k m : Nat} {G : AGate} (h : GtI k G) {all : Alls} (hm : k ≤ m) (hl : all.length ≤ 2000 * m) (hi : ∀ x ∈ all, idB x.1) (hs : ∀ q, (mget G.all q).isSome = true → (mget all q).isSome = true) : GtI m { G with all := all } :=
 ⟨hl, hi, by have := h.lines; dsimp only; omega, h.lid, fun x hx y hy => hs _ (h.wk x hx y hy), h.pat, h.room⟩
theorem zk1 {all : Alls} {id : Int} {x : ByteArray × Int} (h : ∀ x ∈ all, idB x.1) (hi : idB id) : ∀ y ∈ mset all id x, idB y.1 := fun y hy => by
 rcases z1A hy with rfl | hy
 ·exact hi
 ·exact h y hy
theorem ziT {k : Nat} {F : AFleet} {G : AGate} (ok : G.Ok) (hF : FlI k F) (hG : GtI k G) (rev : ByteArray) : FlI k (gFlow F G rev).1 ∧ GtI (k + 1) (gFlow F G rev).2.1 := by
 have hl := z7N (rev := rev) (l := lineOf G.lines rev) (F := F) (all := G.all) (out := [])
 have hn := z2S ok rev
 have := hG.all
 have := hG.room
 refine ⟨zgP hF (hG.line rev), hG.turn (Nat.le_refl _) (by omega) (zeL hG.ids (hG.line rev)) (fun q => zaI) (fun y hy => hG.line rev y (zaJ y hy)) fun y hy => ?_⟩
 exact zaI (hG.wk.line rev y (zaJ y hy))
theorem zfJ {k : Nat} {F : AFleet} {G : AGate} (hk : k ≤ 100000) (ok : F.Ok) (hF : FlI k F) (hG : GtI k G) (rev : ByteArray) : ∀ f ∈ (gFlow F G rev).2.2, f.Ok :=
 zc6 ok (by have := hF.last; omega) (hG.line rev) (by simp)
theorem z9 : (0 : Int) ≤ 0 ∧ (0 : Int) ≤ 9000000000000000000 := ⟨by decide, by decide⟩
theorem zez {rev : ByteArray} : ∀ {l : List Int} {all : Alls}, (∀ x ∈ all, idB x.1) → (∀ x ∈ l, idB x) → ∀ x ∈ lateS rev l all, idB x.1
 | [], _, h, _ => h
 | x :: l, all, h, hx => zez (l := l) (zk1 h (hx x (by simp))) fun y hy => hx y (by simp [hy])
theorem zgE {l : List (Int × Int)} {now q : Int} (h : q ∈ lLate l now) : ∃ y ∈ l, y.1 = q := by
 unfold lLate at h
 obtain ⟨y, hy, e⟩ := List.mem_map.1 h
 exact ⟨y, (List.mem_filter.1 hy).1, e⟩
structure TkI (m n : Nat) (G : AGate) : Prop where
 all : G.all.length ≤ m
 ids : ∀ x ∈ G.all, idB x.1
 lines : G.lines.length ≤ n
 lid : ∀ x ∈ G.lines, ∀ y ∈ x.2, idB y.1
 wk : GWk G
 ok : G.Ok
theorem TkI.line {m n : Nat} {G : AGate} (h : TkI m n G) (rev : ByteArray) : ∀ y ∈ lineOf G.lines rev, idB y.1 := fun y hy => by
 unfold lineOf at hy
 cases hg : mget G.lines rev with
 | none => rw [hg] at hy; cases hy
 | some l => rw [hg] at hy; exact h.lid _ (z3T hg) y hy
theorem TkI.tick1 {m n : Nat} {G : AGate} (h : TkI m n G) {k : ByteArray} (hk : (mget G.lines k).isSome = true) (now : Int) : TkI m n (YtkmalcoocklikaaGreatDoor.tick1 now k G) := by
 refine ⟨?_, ?_, ?_, ?_, h.wk.tick1 k now, h.ok.tick1 h.wk hk now⟩
 ·have := congrArg List.length (z8v (rev := k) (l := lLate (lineOf G.lines k) now) (all := G.all) (h.wk.late k now))
  simp only [List.length_map] at this
  have := h.all
  unfold YtkmalcoocklikaaGreatDoor.tick1; dsimp only; omega
 ·refine zez h.ids fun q hq => ?_
  obtain ⟨y, hy, rfl⟩ := zgE hq
  exact h.line k y hy
 ·have := congrArg List.length (zbP (G := G) hk now)
  simp only [List.length_map] at this
  have := h.lines
  omega
 ·intro x hx y hy
  rcases z1A hx with rfl | hx
  ·exact h.line k y (List.mem_filter.1 hy).1
  ·exact h.lid x hx y hy
theorem zbO {m n : Nat} {now : Int} {r : Int} : ∀ {ks : List ByteArray} {G : AGate} {out : List Fate}, TkI m n G → G.room = r → (∀ k ∈ ks, (mget G.lines k).isSome = true) → (∀ f ∈ out, f.Ok) →
  TkI m n (tickA now ks G out).1 ∧ (∀ f ∈ (tickA now ks G out).2, f.Ok) ∧ ((tickA now ks G out).2.length : Int) ≤ out.length + ks.length * max r 0 ∧ (tickA now ks G out).1.pat = G.pat ∧ (tickA now ks G out).1.room = G.room
 | [], G, out, h, hr, _, ho => ⟨h, ho, by simp [tickA], rfl, rfl⟩
 | k :: ks, G, out, h, hr, hk, ho => by
  have h1 := h.tick1 (hk k (by simp)) now
  have hn := zbP (G := G) (hk k (by simp)) now
  have hks : ∀ k' ∈ ks, (mget (tick1 now k G).lines k').isSome = true := fun k' hk' => by
   have := hk k' (by simp [hk'])
   cases h3 : mget (tick1 now k G).lines k' with
   | some _ => rfl
   | none =>
    rw [z1N, hn] at h3
    cases h4 : mget G.lines k' with
    | none => rw [h4] at this; cases this
    | some v => exact absurd (List.mem_map.2 ⟨_, z3T h4, rfl⟩) h3
  have ho' : ∀ f ∈ out ++ lateF (lLate (lineOf G.lines k) now), f.Ok := fun f hf => by
   rcases List.mem_append.1 hf with hf | hf
   ·exact ho f hf
   ·unfold lateF at hf
    obtain ⟨q, hq, rfl⟩ := List.mem_map.1 hf
    obtain ⟨y, hy, rfl⟩ := zgE hq
    have := h.line k y hy
    exact ⟨⟨this.1, Int.le_trans this.2 (by decide)⟩, z9, by show s_timeout.size ≤ 1000; decide⟩
  obtain ⟨a, b, c, d, e⟩ := zbO (ks := ks) (r := r) h1 hr hks ho'
  refine ⟨a, b, ?_, d, e⟩
  have hll := z2S h.ok k
  rw [hr] at hll
  have h5 : (lLate (lineOf G.lines k) now).length ≤ (lineOf G.lines k).length := by unfold lLate; rw [List.length_map]; exact List.length_filter_le ..
  rw [List.length_append, z9E] at c
  show ((tickA now ks (tick1 now k G) (out ++ lateF (lLate (lineOf G.lines k) now))).2.length : Int) ≤ _
  rw [List.length_cons]
  have : ((ks.length + 1 : Nat) : Int) * max r 0 = ks.length * max r 0 + max r 0 := by rw [Int.natCast_add, Int.add_mul]; simp
  rw [this]
  omega
theorem zeJ {k : Nat} {G : AGate} (ok : G.Ok) (hG : GtI k G) (now : Int) : GtI k (gTick G now).1 ∧ (∀ f ∈ (gTick G now).2, f.Ok) ∧ (gTick G now).2.length ≤ 8 * k := by
 have h : TkI G.all.length G.lines.length G := ⟨Nat.le_refl _, hG.ids, Nat.le_refl _, hG.lid, hG.wk, ok⟩
 obtain ⟨a, b, c, d, e⟩ := zbO (now := now) (r := G.room) (ks := ssort (G.lines.map (·.1))) (out := []) h rfl (fun k hk => by
  cases h4 : mget G.lines k with
  | none => rw [z1N] at h4; exact absurd (z9t.1 hk) h4
  | some v => rfl) (by simp)
 have r := hG.room
 have hl := hG.lines
 refine ⟨⟨Nat.le_trans a.all hG.all, a.ids, Nat.le_trans a.lines hl, a.lid, a.wk, ?_, ?_⟩, b, ?_⟩
 ·unfold gTick; rw [d]; exact hG.pat
 ·unfold gTick; rw [e]; exact r
 ·rw [z6q, List.length_map] at c
  have h8 : (G.lines.length : Int) * max G.room 0 ≤ G.lines.length * 8 := Int.mul_le_mul_of_nonneg_left (by omega) (by omega)
  unfold gTick
  simp only [List.length_nil] at c
  omega
structure ShI (k : Nat) (a : AShelf) : Prop where
 n : a.n ≤ k
 few : a.Few
 cfg : ∀ n, (tget a.m n).is = true → (cfgOf (tget a.m n)).1 = n ∧ specC (cfgOf (tget a.m n)) = 0 ∧ 1 ≤ (tget a.m n).gen
 rt : ∀ n, (rget a.r n).is = true → (rget a.r n).r.name = n ∧ specE (rget a.r n).r = 0
theorem ShI.mono {k m : Nat} {a : AShelf} (h : ShI k a) (hm : k ≤ m) : ShI m a := ⟨by have := h.n; omega, h.few, h.cfg, h.rt⟩
theorem zij {k : Nat} {a : AShelf} (ok : a.Ok) (h : ShI k a) (c : Cfg) (ver : Int) : ShI (k + 1) (shPut a c ver).1 := by
 have hf := zik h.few c ver
 unfold shPut at hf ⊢
 split
 ·exact h.mono (Nat.le_succ k)
 ·rename_i h1
  rw [if_neg h1] at hf
  split
  ·exact h.mono (Nat.le_succ k)
  ·rename_i h2
   rw [if_neg h2] at hf
   have hn := h.n
   refine ⟨by dsimp only; omega, hf, fun n hn2 => ?_, h.rt⟩
   dsimp only [putC] at hn2 ⊢
   rw [zgh] at hn2 ⊢
   split
   ·rename_i e
    have h1' : specC c = 0 := by simpa using h1
    refine ⟨e, h1', ?_⟩
    have h3 := ok.gen c.1
    show (1 : Int) ≤ (if (tget a.m c.1).is = true ∧ sameC (cfgOf (tget a.m c.1)) c = true then (tget a.m c.1).gen else (tget a.m c.1).gen + 1)
    split
    ·rename_i h4; exact (h.cfg c.1 h4.1).2.2
    ·omega
   ·rename_i e; rw [if_neg e] at hn2; exact h.cfg n hn2
theorem z4P {c : Cfg} (h : specC c = 0) : shortB c.1.data.toList 16 = true ∧ (0 ≤ @id Int c.2.1 ∧ @id Int c.2.1 ≤ 255) ∧ (1 ≤ @id Int c.2.2.1 ∧ @id Int c.2.2.1 ≤ 8) ∧ (1 ≤ @id Int c.2.2.2.2.1 ∧ @id Int c.2.2.2.2.1 ≤ 10) ∧ (0 ≤ @id Int c.2.2.2.1 ∧ @id Int c.2.2.2.1 ≤ @id Int c.2.2.2.2.1) ∧ (0 ≤ @id Int c.2.2.2.2.2.1 ∧ @id Int c.2.2.2.2.2.1 ≤ 30) := by
 unfold specC at h
 split at h
 ·rename_i h1
  split at h
  ·rename_i h2
   unfold cfgNum at h2
   simp only [Bool.and_eq_true, decide_eq_true_eq] at h2
   exact ⟨h1, h2.1, h2.2.1, h2.2.2.1, h2.2.2.2.1, h2.2.2.2.2⟩
  ·cases h
 ·cases h
structure BkI (k : Nat) (a : ABook) : Prop where
 len : a.all.length ≤ k
 rev : ∀ p ∈ a.all, RevN p.1
 cfg : ∀ p ∈ a.all, specC p.2.cfg = 0
theorem BkI.mono {k m : Nat} {a : ABook} (h : BkI k a) (hm : k ≤ m) : BkI m a := ⟨by have := h.len; omega, h.rev, h.cfg⟩
theorem BkI.prove {k : Nat} {a : ABook} (h : BkI k a) (rev : ByteArray) : BkI k (bkProve a rev).1 := by
 unfold bkProve
 split
 ·exact ⟨h.len, h.rev, h.cfg⟩
 ·exact h
theorem BkI.stamp {k : Nat} {a : ABook} (h : BkI k a) {c : Cfg} (hc : specC c = 0) {g : Nat} (h1 : 1 ≤ g) (hg : g < 100) : BkI (k + 1) (bkStamp a c g).1 := by
 unfold bkStamp
 split
 ·exact h.mono (Nat.le_succ k)
 ·have := h.len
  have := z6T a.all (revB c.1 g) (rvOf (revB c.1 g) g c)
  refine ⟨by dsimp only; omega, fun p hp => ?_, fun p hp => ?_⟩
  ·rcases z1A hp with rfl | hp
   ·exact ⟨c.1, g, (z4P hc).1, h1, hg, rfl⟩
   ·exact h.rev p hp
  ·rcases z1A hp with rfl | hp
   ·exact hc
   ·exact h.cfg p hp
theorem RevN.size {n : ByteArray} (h : RevN n) : n.size ≤ 100 := by
 obtain ⟨c, g, hc, -, hg, rfl⟩ := h
 have := z8s c hg
 unfold shortB at hc
 simp only [Bool.and_eq_true, decide_eq_true_eq] at hc
 have h2 : (c.data.toList.length : Int) ≤ 16 := hc.2
 have h3 : c.data.toList.length = c.size := by rw [Array.length_toList]; rfl
 omega
theorem z5D {a : ABook} {rev : ByteArray} (h : bkHas a rev = true) : (rev, bkGet a rev) ∈ a.all := by
 unfold bkHas at h
 unfold bkGet
 cases h2 : mget a.all rev with
 | none => rw [h2] at h; cases h
 | some v => exact z3T h2
theorem zj7 {a : ABook} {rev : ByteArray} (h : rev ∈ bkAll a) : bkHas a rev = true := by
 unfold bkAll at h
 unfold bkHas
 cases h2 : mget a.all rev with
 | none => rw [z1N] at h2; exact absurd (z9t.1 h) h2
 | some v => rfl
theorem BkI.size {k : Nat} {a : ABook} (h : BkI k a) {rev : ByteArray} (hr : bkHas a rev = true) : rev.size ≤ 100 := (h.rev _ (z5D hr)).size
structure ByI (k : Nat) (bk : ABook) (m : List (ByteArray × ABes)) : Prop where
 has : ∀ p ∈ bk.all, (mget m p.1).isSome = true
 xs : ∀ x ∈ m, x.2.xs.length ≤ k
 rng : ∀ x ∈ m, ∀ y ∈ x.2.xs, 0 ≤ y ∧ y ≤ 100000000
 want : ∀ x ∈ m, (0 ≤ x.2.want ∧ x.2.want ≤ 10) ∧ (0 ≤ x.2.left ∧ x.2.left ≤ 1000)
theorem ByI.mono {k m : Nat} {bk : ABook} {b : List (ByteArray × ABes)} (h : ByI k bk b) (hm : k ≤ m) : ByI m bk b := ⟨h.has, fun x hx => by have := h.xs x hx; omega, h.rng, h.want⟩
theorem ByI.book {k : Nat} {bk bk' : ABook} {b : List (ByteArray × ABes)} (h : ByI k bk b) (e : bk'.all = bk.all) : ByI k bk' b := ⟨by rw [e]; exact h.has, h.xs, h.rng, h.want⟩
theorem ByI.set {k : Nat} {bk : ABook} {b : List (ByteArray × ABes)} (h : ByI k bk b) {rev : ByteArray} {x : ABes} (h1 : x.xs.length ≤ k) (h2 : ∀ y ∈ x.xs, 0 ≤ y ∧ y ≤ 100000000) (h3 : (0 ≤ x.want ∧ x.want ≤ 10) ∧ (0 ≤ x.left ∧ x.left ≤ 1000)) : ByI k bk (mset b rev x) :=
 ⟨fun p hp => zc0 _ _ _ _ (h.has p hp), fun y hy => by
  rcases z1A hy with rfl | hy
  ·exact h1
  ·exact h.xs y hy, fun y hy => by
  rcases z1A hy with rfl | hy
  ·exact h2
  ·exact h.rng y hy, fun y hy => by
  rcases z1A hy with rfl | hy
  ·exact h3
  ·exact h.want y hy⟩
theorem ByI.tick {k : Nat} {bk : ABook} {G : AGate} (hb : ∀ rev, busyB G rev ≤ 100000000) : ∀ {l : List ByteArray} {b : List (ByteArray × ABes)}, l.Nodup → (∀ p ∈ bk.all, (mget b p.1).isSome = true) → (∀ x ∈ b, x.1 ∈ l → x.2.xs.length ≤ k) → (∀ x ∈ b, x.2.xs.length ≤ k + 1) →
  (∀ x ∈ b, ∀ y ∈ x.2.xs, 0 ≤ y ∧ y ≤ 100000000) → (∀ x ∈ b, (0 ≤ x.2.want ∧ x.2.want ≤ 10) ∧ (0 ≤ x.2.left ∧ x.2.left ≤ 1000)) → ByI (k + 1) bk (l.foldl (tkStep G) b)
 | [], b, _, h1, _, h2, h3, h4 => ⟨h1, h2, h3, h4⟩
 | rev :: l, b, nd, h1, ha, h2, h3, h4 => by
  rw [List.foldl_cons]
  rw [List.nodup_cons] at nd
  unfold tkStep
  split
  ·rename_i x hx
   have hm := z3T hx
   have hxl : x.xs.length ≤ k := ha _ hm (by simp)
   refine ByI.tick hb nd.2 (fun p hp => zc0 _ _ _ _ (h1 p hp)) (fun y hy hl => ?_) (fun y hy => ?_) (fun y hy => ?_) fun y hy => ?_
   ·rcases z1A hy with rfl | hy
    ·exact absurd hl nd.1
    ·exact ha y hy (by simp [hl])
   ·rcases z1A hy with rfl | hy
    ·simp; omega
    ·exact h2 y hy
   ·rcases z1A hy with rfl | hy
    ·intro z hz
     rcases List.mem_append.1 hz with hz | hz
     ·exact h3 _ hm z hz
     ·rw [List.mem_singleton] at hz
      have := hb rev
      subst hz
      split <;> omega
    ·exact h3 y hy
   ·rcases z1A hy with rfl | hy
    ·have := h4 _ hm
     exact this
    ·exact h4 y hy
  ·exact ByI.tick hb nd.2 h1 (fun y hy hl => ha y hy (by simp [hl])) h2 h3 h4
theorem ziR (all : Alls) (rev : ByteArray) : (gWith all rev).length ≤ all.length := by
 unfold gWith
 rw [z7L, List.length_map]
 exact List.length_filter_le ..
theorem zlA {k : Nat} {G : AGate} (ok : G.Ok) (hG : GtI k G) (hk : k ≤ 10001) (rev : ByteArray) : 0 ≤ busyB G rev ∧ busyB G rev ≤ 100000000 := by
 have h1 := z2S ok rev
 have h2 := ziR G.all rev
 have h3 := hG.all
 have h4 := hG.room
 unfold busyB gWait
 rw [List.length_map]
 omega
structure WyI (k : Nat) (a : AWay) : Prop where
 fr : WBd a.fr
 to : WBd a.to
 ns : WBd a.ns
 zf : ∀ s ∈ a.fr, s.1.size ≤ 100
 zt : ∀ s ∈ a.to, s.1.size ≤ 100
 zn : ∀ s ∈ a.ns, s.1.size ≤ 100
 zg : ∀ s ∈ a.ng, s.1.size ≤ 100 ∧ s.2.1.size ≤ 100
 lf : a.fr.length ≤ 6 * k
 lt : a.to.length ≤ 6
 ln : a.ns.length ≤ 6 * k
 lg : a.ng.length ≤ 6
 since : 0 ≤ a.since ∧ a.since ≤ 1048576
abbrev RoI (k : Nat) (m : ARoll) : Prop := ∀ n x, mget m n = some x → WyI k x
theorem WyI.mono {k m : Nat} {a : AWay} (h : WyI k a) (hm : k ≤ m) : WyI m a := ⟨h.fr, h.to, h.ns, h.zf, h.zt, h.zn, h.zg, by have := h.lf; omega, h.lt, by have := h.ln; omega, h.lg, h.since⟩
theorem WyI.ok {k : Nat} {a : AWay} (h : WyI k a) (hk : k ≤ 10000) : a.Ok := ⟨h.fr, h.to, h.ns, by have := h.lf; omega, by have := h.lt; omega, by have := h.ln; omega, by have := h.lg; omega⟩
structure TabI (t : ATab) : Prop where
 w : WBd t.sh
 zs : ∀ s ∈ t.sh, s.1.size ≤ 100
 zg : ∀ s ∈ t.tg, s.1.size ≤ 100 ∧ s.2.1.size ≤ 100
 ls : t.sh.length ≤ 6
 lg : t.tg.length ≤ 6
theorem RoI.del {k : Nat} {m : ARoll} (h : RoI k m) (nd : (m.map (·.1)).Nodup) (n : ByteArray) : RoI k (mdel m n) := by
 intro n' x hx
 rw [zew n n' nd] at hx
 split at hx
 ·cases hx
 ·exact h n' x hx
structure RgI (j : Nat) (ws : MSI) (ts : MSS) : Prop where
 lw : ws.length ≤ j
 lt : ts.length ≤ j
 zw : ∀ x ∈ ws, x.1.size ≤ 100 ∧ 0 ≤ x.2 ∧ x.2 ≤ 100 * j
 zt : ∀ x ∈ ts, x.1.size ≤ 100 ∧ x.2.size ≤ 100
end Go.Proofs.YtkmalcoocklikaaGreatDoor
namespace Go.Proofs.YtkmalcoocklikaaGreatDoor
open Go.Dm
attribute [local irreducible] L.load L.store L.chk L.new L.nonnil L.guard L.ite L.draw L.idx L.sem L.semR L.semU L.chkSem L.next L.call L.callV L.join L.alts L.loop L.begin L.endRound L.range
variable {w0 w : World} {E : List Seg}
def sysDrop (a : ASys) (e : AEv) : ASys × List ByteArray :=
 if (shDrop a.sh e.n e.name e.draw).2 ≠ 0 then ({ a with sh := (shDrop a.sh e.n e.name e.draw).1 }, refusedB (shDrop a.sh e.n e.name e.draw).2)
 else ({ a with sh := (shDrop a.sh e.n e.name e.draw).1, ro := if e.n = 2 then mdel a.ro e.name else a.ro }, [lineB zit [e.name]])
def sysDown (a : ASys) (e : AEv) : ASys × List ByteArray :=
 if (fKill a.fl e.n).2.2 ≠ 0 then ({ a with fl := (fKill a.fl e.n).1 }, refusedB (fKill a.fl e.n).2.2)
 else ({ a with fl := (fKill a.fl e.n).1, gt := (gLost a.gt (fKill a.fl e.n).2.1).1 }, lineB zmn [decD e.n.toNat] :: (gLost a.gt (fKill a.fl e.n).2.1).2.map fateB)
def mn2 (a b : Int) : Int := if b < a then b else a
def mx2 (a b : Int) : Int := if b > a then b else a
def scNeed (s n c : Int) : Int := if n ≤ 0 then 0 else if c ≤ 0 then 0 else (s + n * c - 1) / (n * c)
theorem zcU {s n c : Int} (hs : 0 ≤ s ∧ s ≤ 1000000000000) (hn : 0 ≤ n ∧ n ≤ 100) (hc : 0 ≤ c ∧ c ≤ 100) : 0 ≤ scNeed s n c ∧ scNeed s n c ≤ 1000000000000 := by
 unfold scNeed
 split
 ·exact ⟨by decide, by decide⟩
 ·split
  ·exact ⟨by decide, by decide⟩
  ·have h1 : 1 ≤ n * c := by have := Int.mul_le_mul (show (1 : Int) ≤ n by omega) (show (1 : Int) ≤ c by omega) (by omega) (by omega); omega
   have h2 : n * c ≤ 100 * 100 := Int.mul_le_mul hn.2 hc.2 (by omega) (by omega)
   generalize n * c = m at *
   refine ⟨Int.ediv_nonneg (by omega) (by omega), Int.ediv_le_of_le_mul (by omega) ?_⟩
   have := Int.mul_le_mul_of_nonneg_left h1 (show (0 : Int) ≤ 1000000000000 by decide)
   omega
theorem z9T {s n c : Int} (hs : 0 ≤ s ∧ s ≤ 1000000000000) (hn : 0 ≤ n ∧ n ≤ 100) (hc : 0 ≤ c ∧ c ≤ 100) {k : Int → PT} (hk : k (scNeed s n c) w) : L.call Pr z3i [I s, I n, I c] (.one (.one (.int .i64))) k w := by
 refine z00 (zfe s n c) ?_
 unfold zb7
 unfold scNeed at hk
 refine it (fun h1 => ?_) (fun h1 => ?_) <;> (try simp only [zB] at h1)
 ·rw [if_pos h1] at hk; exact ⟨_, rfl, hk⟩
 ·rw [if_neg h1] at hk
  refine it (fun h2 => ?_) (fun h2 => ?_) <;> (try simp only [zB] at h2)
  ·rw [if_pos h2] at hk; exact ⟨_, rfl, hk⟩
  ·rw [if_neg h2] at hk
   have h3 : 1 ≤ n * c := by have := Int.mul_le_mul (show (1 : Int) ≤ n by omega) (show (1 : Int) ≤ c by omega) (by omega) (by omega); omega
   have h4 : n * c ≤ 100 * 100 := Int.mul_le_mul hn.2 hc.2 (by omega) (by omega)
   have e1 : IntKind.wrap .i64 (n * c) = n * c := wr (by omega) (by omega)
   rw [e1]
   generalize n * c = m at *
   have e2 : IntKind.wrap .i64 (s + m) = s + m := wr (by omega) (by omega)
   have e3 : IntKind.wrap .i64 (s + m - 1) = s + m - 1 := wr (by omega) (by omega)
   rw [e2, e3]
   refine gd (by omega) ⟨_, rfl, ?_⟩
   have e4 : Int.tdiv (s + m - 1) m = (s + m - 1) / m := Int.tdiv_eq_ediv_of_nonneg (by omega)
   have e5 : (s + m - 1) / m ≤ 2000000000000 := Int.ediv_le_of_le_mul (by omega) (by
    have := Int.mul_le_mul_of_nonneg_left h3 (show (0 : Int) ≤ 2000000000000 by decide)
    omega)
   have e6 : 0 ≤ (s + m - 1) / m := Int.ediv_nonneg (by omega) (by omega)
   rw [e4, wr (by omega) (by omega)]
   exact hk
abbrev scM (ready : Int) : Int := if ready > 1 then ready else 1
def scLeft (left b m : Int) : Int := if b ≥ 2 * m then 6 else if 0 > left - 1 then 0 else left - 1
def scW1 (want left' a b : Int) : Int := if left' > 0 then mx2 (mx2 want a) b else a
def scW2 (w1 want busy idle grace : Int) : Int := if w1 = 0 ∧ (busy > 0 ∨ (want > 0 ∧ idle < grace)) then 1 else w1
def scEnd (w2 ready mi ma : Int) : Int := mn2 (mx2 (mx2 (mn2 w2 (4 * scM ready)) (ready / 2)) mi) ma
def scDec (want left : Int) (c : Cfg) (ready busy st sts sh shs idle : Int) : Int × Int :=
 (scEnd (scW2 (scW1 want (scLeft left (scNeed sh shs c.2.2.1) (scM ready)) (scNeed st sts c.2.2.1) (scNeed sh shs c.2.2.1)) want busy idle c.2.2.2.2.2.1) ready c.2.2.2.1 c.2.2.2.2.1, scLeft left (scNeed sh shs c.2.2.1) (scM ready))
theorem zeZ (h : St w0 E w) {want left b m : Int} (hl : 0 ≤ left ∧ left ≤ 1000) (hm : 0 ≤ m ∧ m ≤ 1000000) {k : Int → PT} (hk : ∀ w', St w0 E w' → k (scLeft left b m) w') : L.call Pr z2m [.agg #[I want, I left], I b, I m] (.one (.one (.int .i64))) k w := by
 refine z00 (z8g (want, left, ()) b m) ?_
 unfold z4U
 unfold scLeft at hk
 have e1 : IntKind.wrap .i64 (2 * m) = 2 * m := wr (by omega) (by omega)
 have e2 : IntKind.wrap .i64 (left - 1) = left - 1 := wr (by omega) (by omega)
 dsimp only
 rw [e1]
 refine nw h ?_; clear h; (try clear w); intro b1 w h
 refine it (fun h1 => ?_) (fun h1 => ?_) <;> (try simp only [zB] at h1)
 ·rw [if_pos h1] at hk; exact ⟨_, rfl, hk w (dl0_ h)⟩
 ·rw [if_neg h1] at hk
  (refine ldC h ?_)
  rw [e2]
  exact ⟨_, rfl, hk w (dl0_ h)⟩
theorem zkv (h : St w0 E w) {want left a b : Int} {k : Int → PT} (hk : ∀ w', St w0 E w' → k (mx2 (mx2 want a) b) w') : L.call Pr z4g [.agg #[I want, I left], .agg #[I a, I b]] (.one (.one (.int .i64))) k w := by
 refine z00 (zae (want, left, ()) (a, b, ())) ?_
 unfold z6d
 refine nw h ?_; clear h; (try clear w); intro b1 w h
 refine nw h ?_; clear h; (try clear w); intro b2 w h
 (dsimp only [setN, List.cons_append, List.nil_append] at h; refine ldC h ?_)
 refine ix (by decide) (by decide) ?_
 (refine ldC h ?_)
 refine ix (by decide) (by decide) ?_
 (refine ldC h ?_)
 exact ⟨_, rfl, hk w (dl0_ (dl0_ h))⟩
theorem zhK (h : St w0 E w) {c : Cfg} {ready m : Int} (hr : 0 ≤ ready ∧ ready ≤ 1000000) (hm : 0 ≤ m ∧ m ≤ 1000000) {k : HT [.int .i64, .int .i64, .int .i64, .int .i64] → PT} (hk : ∀ w', St w0 E w' → k (4 * m, ready / 2, c.2.2.2.1, c.2.2.2.2.1, ()) w') :
  L.call Pr z6m [.agg (Cfg.cells c).toArray, I ready, I m] (.one (.agg [.int .i64, .int .i64, .int .i64, .int .i64])) k w := by
 refine z00 (zcL c ready m) ?_
 unfold z8U
 have e1 : IntKind.wrap .i64 (4 * m) = 4 * m := wr (by omega) (by omega)
 have e2 : Int.tdiv ready 2 = ready / 2 := Int.tdiv_eq_ediv_of_nonneg hr.1
 have e3 : IntKind.wrap .i64 (ready / 2) = ready / 2 := wr (by omega) (by omega)
 rw [e1, e2, e3]
 refine nw h ?_; clear h; (try clear w); intro b1 w h
 refine nw h ?_; clear h; (try clear w); intro b2 w h
 refine gd (by decide) ?_
 (refine ldC h ?_; refine ldC h ?_; refine stC h ?_; clear h; (try clear w); intro w h; dsimp only [putN, setN] at h; refine laC h ?_)
 exact ⟨(4 * m, ready / 2, c.2.2.2.1, c.2.2.2.2.1, ()), rfl, hk w (dl0_ (dl0_ h))⟩
abbrev cfgB (b : Nat) (c : Cfg) : Seg := [Cl b z0b (Cfg.cells c)]
theorem zhJ (h : St w0 E w) {want left : Int} {c : Cfg} {ready busy st sts sh shs idle : Int} (hw : 0 ≤ want ∧ want ≤ 1000) (hl : 0 ≤ left ∧ left ≤ 1000) (hc : 0 ≤ @id Int c.2.2.1 ∧ @id Int c.2.2.1 ≤ 100) (hr : 0 ≤ ready ∧ ready ≤ 1000000)
  (h1 : 0 ≤ st ∧ st ≤ 1000000000000) (h2 : 0 ≤ sts ∧ sts ≤ 100) (h3 : 0 ≤ sh ∧ sh ≤ 1000000000000) (h4 : 0 ≤ shs ∧ shs ≤ 100) {k : HT [.int .i64, .int .i64] → PT} (hk : ∀ w', St w0 E w' → k ((scDec want left c ready busy st sts sh shs idle).1, (scDec want left c ready busy st sts sh shs idle).2, ()) w') :
  L.call Pr z6n [.agg #[I want, I left], .agg (Cfg.cells c).toArray, I ready, I busy, I st, I sts, I sh, I shs, I idle] (.one (.agg [.int .i64, .int .i64])) k w := by
 refine z00 (zcM (want, left, ()) c ready busy st sts sh shs idle) ?_
 unfold z8V
 have hm : 0 ≤ scM ready ∧ scM ready ≤ 1000000 := by unfold scM; split <;> omega
 obtain ⟨c1, c2, c3, c4, c5, c6, ⟨⟩⟩ := c
 unfold scDec at hk
 have ea := zcU h1 h2 hc
 have eb := zcU h3 h4 hc
 change 0 ≤ scNeed st sts c3 ∧ scNeed st sts c3 ≤ 1000000000000 at ea
 change 0 ≤ scNeed sh shs c3 ∧ scNeed sh shs c3 ≤ 1000000000000 at eb
 change 0 ≤ c3 ∧ c3 ≤ 100 at hc
 dsimp only at hk ⊢
 change ∀ w', St w0 E w' → k (scEnd (scW2 (scW1 want (scLeft left (scNeed sh shs c3) (scM ready)) (scNeed st sts c3) (scNeed sh shs c3)) want busy idle c6) ready c4 c5, scLeft left (scNeed sh shs c3) (scM ready), ()) w' at hk
 refine nw h ?_; clear h; (try clear w); intro b1 w h
 refine nw h ?_; clear h; (try clear w); intro b2 w h
 refine nw h ?_; clear h; (try clear w); intro b3 w h
 refine z1k (fun (z : Addr × Unit) w => ∃ b, z = (⟨b, 0, none⟩, ()) ∧ St w0 ([Cl b z7U [I (scNeed st sts c3), I (scNeed sh shs c3)]] :: [Cl b3 z0H [I 0, I 0]] :: cfgB b2 (c1, c2, c3, c4, c5, c6, ()) :: [Cl b1 z0H [I want, I left]] :: E) w) (fun k4 hk4 => ?_) ?_
 ·(refine dr h ?_; clear h; (try clear w); intro w h; refine ldC h ?_; refine ldC h ?_)
  refine alts2 ?_ ?_
  ·refine z9T h1 h2 hc ?_
   (refine ckC h ?_)
   refine alts2 ?_ ?_
   ·refine z9T h3 h4 hc ?_
    refine nw h ?_; clear h; (try clear w); intro b w h
    (refine ckC h ?_; refine ckC h ?_; refine stC h ?_; clear h; (try clear w); intro w h; dsimp only [putN, setN] at h)
    exact hk4 _ w ⟨b, rfl, h⟩
   ·refine nw h ?_; clear h; (try clear w); intro b w h
    (refine ckC h ?_; refine ckC h ?_)
    refine z9T h3 h4 hc ?_
    (refine stC h ?_; clear h; (try clear w); intro w h; dsimp only [putN, setN] at h)
    exact hk4 _ w ⟨b, rfl, h⟩
  ·refine nw h ?_; clear h; (try clear w); intro b w h
   (refine ckC h ?_; refine ckC h ?_)
   refine z9T h1 h2 hc ?_
   (refine ckC h ?_)
   refine z9T h3 h4 hc ?_
   (refine stC h ?_; clear h; (try clear w); intro w h; dsimp only [putN, setN] at h)
   exact hk4 _ w ⟨b, rfl, h⟩
 generalize scNeed st sts c3 = A at *
 generalize scNeed sh shs c3 = B at *
 clear h; (try clear w)
 rintro z w ⟨b4, rfl, h⟩
 (try dsimp only)
 refine z1k (fun (z : Addr × Unit) w => ∃ b, z = (⟨b, 0, none⟩, ()) ∧ St w0 ([Cl b z0H [I A, I (scLeft left B (scM ready))]] :: [Cl b4 z7U [I A, I B]] :: [Cl b3 z0H [I 0, I 0]] :: cfgB b2 (c1, c2, c3, c4, c5, c6, ()) :: [Cl b1 z0H [I want, I left]] :: E) w) (fun k4 hk4 => ?_) ?_
 ·(refine dr h ?_; clear h; (try clear w); intro w h)
  refine ix (by decide) (by decide) ?_
  (refine ldC h ?_; refine laC h ?_)
  refine ix (by decide) (by decide) ?_
  (refine ldC h ?_)
  refine alts2 ?_ ?_
  ·refine zeZ h hl hm fun w h => ?_
   (refine ckC h ?_)
   refine nw h ?_; clear h; (try clear w); intro b w h
   (refine ckC h ?_; refine ckC h ?_; refine ckC h ?_; refine stC h ?_; clear h; (try clear w); intro w h; dsimp only [putN, setN] at h)
   exact hk4 _ w ⟨b, rfl, h⟩
  ·refine nw h ?_; clear h; (try clear w); intro b w h
   (refine ckC h ?_; refine ckC h ?_; refine ckC h ?_)
   refine zeZ h hl hm fun w h => ?_
   (refine ckC h ?_; refine stC h ?_; clear h; (try clear w); intro w h; dsimp only [putN, setN] at h)
   exact hk4 _ w ⟨b, rfl, h⟩
 generalize scLeft left B (scM ready) = L1 at *
 clear h; (try clear w)
 rintro z w ⟨b5, rfl, h⟩
 (try dsimp only)
 refine z1k (fun (_ : Unit) w => St w0 ([Cl b5 z0H [I (scW1 want L1 A B), I L1]] :: [Cl b4 z7U [I A, I B]] :: [Cl b3 z0H [I 0, I 0]] :: cfgB b2 (c1, c2, c3, c4, c5, c6, ()) :: [Cl b1 z0H [I want, I left]] :: E) w) (fun k4 hk4 => ?_) ?_
 ·(refine ldC h ?_)
  unfold scW1 at hk4
  refine it (fun hc1 => ?_) (fun hc1 => ?_) <;> (try simp only [zB] at hc1)
  ·rw [if_pos hc1] at hk4
   (refine laC h ?_; refine laC h ?_)
   refine zkv h fun w h => ?_
   (refine stC h ?_; clear h; (try clear w); intro w h; dsimp only [putN, setN] at h)
   exact hk4 _ w h
  ·rw [if_neg hc1] at hk4
   exact hk4 _ w h
 generalize scW1 want L1 A B = W1 at *
 clear h; (try clear w)
 rintro _ w h
 (try dsimp only)
 refine z1k (fun (_ : Unit) w => St w0 ([Cl b5 z0H [I (scW2 W1 want busy idle c6), I L1]] :: [Cl b4 z7U [I A, I B]] :: [Cl b3 z0H [I 0, I 0]] :: cfgB b2 (c1, c2, c3, c4, c5, c6, ()) :: [Cl b1 z0H [I want, I left]] :: E) w) (fun k4 hk4 => ?_) ?_
 ·(refine ldC h ?_)
  unfold scW2 at hk4
  refine it (fun d1 => ?_) (fun d1 => ?_) <;> (try simp only [zB] at d1)
  ·subst d1
   refine it (fun d2 => ?_) (fun d2 => ?_) <;> (try simp only [zB] at d2)
   ·rw [if_pos ⟨rfl, .inl d2⟩] at hk4
    (refine stC h ?_; clear h; (try clear w); intro w h; dsimp only [putN, setN] at h)
    exact hk4 _ w h
   ·(refine ldC h ?_)
    refine it (fun d3 => ?_) (fun d3 => ?_) <;> (try simp only [zB] at d3)
    ·(refine ldC h ?_)
     refine it (fun d4 => ?_) (fun d4 => ?_) <;> (try simp only [zB] at d4)
     ·rw [if_pos ⟨rfl, .inr ⟨d3, d4⟩⟩] at hk4
      (refine stC h ?_; clear h; (try clear w); intro w h; dsimp only [putN, setN] at h)
      exact hk4 _ w h
     ·rw [if_neg (by omega)] at hk4
      exact hk4 _ w h
    ·rw [if_neg (by omega)] at hk4
     exact hk4 _ w h
  ·rw [if_neg (fun hh => d1 hh.1)] at hk4
   exact hk4 _ w h
 generalize scW2 W1 want busy idle c6 = W2 at *
 clear h; (try clear w)
 rintro _ w h
 (try dsimp only)
 (refine laC h ?_)
 refine zhK (c := (c1, c2, c3, c4, c5, c6, ())) h hr hm fun w h => ?_
 refine nw h ?_; clear h; (try clear w); intro b40 w h
 (refine stC h ?_; clear h; (try clear w); intro w h; dsimp only [putN, setN] at h; refine ldC h ?_)
 refine ix (by decide) (by decide) ?_
 (refine ldC h ?_)
 refine ix (by decide) (by decide) ?_
 (refine ldC h ?_)
 refine ix (by decide) (by decide) ?_
 (refine ldC h ?_)
 refine ix (by decide) (by decide) ?_
 (refine ldC h ?_; refine stC h ?_; clear h; (try clear w); intro w h; dsimp only [putN, setN] at h; refine laC h ?_; refine stC h ?_; clear h; (try clear w); intro w h; dsimp only [putN, setN] at h; refine laC h ?_)
 exact ⟨(_, _, ()), rfl, hk w (dl0_ (dl0_ (dl0_ (dl0_ (dl0_ (dl0_ h))))))⟩
theorem zgH {m : Int} : ∀ {l : List Int}, (∀ y ∈ l, 0 ≤ y ∧ y ≤ m) → 0 ≤ isum l ∧ isum l ≤ l.length * m
 | [], _ => ⟨Int.le_refl 0, by simp [isum]⟩
 | x :: l, h => by
  have a := zgH (l := l) fun y hy => h y (by simp [hy])
  have b := h x (by simp)
  unfold isum
  have e : ((x :: l).length : Int) * m = l.length * m + m := by rw [List.length_cons, Int.natCast_add, Int.add_mul]; simp
  rw [e]
  omega
theorem zeA {xs : List Int} (h : ∀ y ∈ xs, 0 ≤ y ∧ y ≤ 100000000) {m : Nat} (hm : m ≤ 60) : 0 ≤ lastS xs m ∧ lastS xs m ≤ 6000000000 := by
 have a := zgH (m := 100000000) (l := xs.reverse.take m) fun y hy => h y (by have := List.mem_of_mem_take hy; simpa using this)
 have b : (xs.reverse.take m).length ≤ m := by rw [List.length_take]; omega
 unfold lastS
 omega
theorem zbJ (xs : List Int) (p : Int) : lastN xs p ≤ 60 := by unfold lastN; omega
def scOf (a : ASys) (x : ABes) (rev : ByteArray) : Int × Int :=
 scDec x.want x.left (bkGet a.bk rev).2.2 (cnt (fun s => s == 2) (fPods a.fl.l rev)) (busyB a.gt rev) (lastS x.xs (lastN x.xs 6)) (lastN x.xs 6) (lastS x.xs (lastN x.xs 2)) (lastN x.xs 2) (tz x.xs)
def sysScale (a : ASys) (e : AEv) : ASys × List ByteArray :=
 if bkHas a.bk e.name = false then (a, refusedB 6) else match mget a.by' e.name with
 | none => (a, [])
 | some x => ({ a with by' := mset a.by' e.name ⟨x.xs, (scOf a x e.name).1, (scOf a x e.name).2⟩ }, [lineB (lineB s_scale [e.name]) [decD (scOf a x e.name).1.toNat]])
theorem zhI [bTab w0] (h : St w0 E w) (i : Nat) {b : Nat} {a : ASys} {s : Seg} (hi : nth E i = some s) (hs : SysS b a s) {e : AEv} (hname : e.name.size ≤ 100000) (hby : bkHas a.bk e.name = true → (mget a.by' e.name).isSome = true)
  (hx : ∀ x, mget a.by' e.name = some x → ((0 ≤ x.want ∧ x.want ≤ 1000) ∧ (0 ≤ x.left ∧ x.left ≤ 1000) ∧ (∀ y ∈ x.xs, 0 ≤ y ∧ y ≤ 100000000) ∧ x.xs.length < 1000000000) ∧ 0 ≤ (scOf a x e.name).1 ∧ (scOf a x e.name).1 ≤ 1000)
  (hc : bkHas a.bk e.name = true → 0 ≤ @id Int (bkGet a.bk e.name).2.2.2.2.1 ∧ @id Int (bkGet a.bk e.name).2.2.2.2.1 ≤ 100) (hpn : (fPods a.fl.l e.name).length < 1000000) {k : Sl → PT} (hk : Hk w0 E i b (sysScale a e) k) :
  z3o (some ⟨b, 0, none⟩) e.t (slK k) w := by
 have hs0 := hs
 obtain ⟨p, sg, sf, ss, sk, sr, sm, Q, R, rfl⟩ := hs
 unfold z3o
 unfold sysScale at hk
 have h := (h.front i hi).split8
 refine nw h ?_; clear h; (try clear w); intro b1 w h
 refine z1k (fun (z : Addr × Bool × Unit) w => ∃ b8 : Nat, z = (⟨b8, 0, none⟩, bkHas a.bk e.name, ()) ∧
  St w0 ([Cl b8 z0l (rvC (bkGet a.bk e.name))] :: [Cl b1 z0p (eEw e)] :: sysC b p a.now :: sg :: sf :: ss :: sk :: sr :: sm :: (Q.map BsE.sg).flatten :: delN E i) w) (fun k2 hk2 => ?_) ?_
 ·(dsimp only [setN, List.cons_append, List.nil_append] at h; refine dr h ?_; clear h; (try clear w); intro w h; refine nn ?_; refine ldC h ?_; refine ldC h ?_)
  refine alts2 ?_ ?_
  ·refine zaO h 5 rfl R.bk fun w h => ?_
   refine nw h ?_; clear h; (try clear w); intro b8 w h
   (refine ckC h ?_; refine ckC h ?_; refine stC h ?_; clear h; (try clear w); intro w h; dsimp only [putN, setN] at h)
   exact hk2 _ w ⟨b8, rfl, h⟩
  ·refine nw h ?_; clear h; (try clear w); intro b8 w h
   (refine ckC h ?_; refine ckC h ?_)
   refine zaO h 6 rfl R.bk fun w h => ?_
   (refine stC h ?_; clear h; (try clear w); intro w h; dsimp only [putN, setN] at h)
   exact hk2 _ w ⟨b8, rfl, h⟩
 clear h; (try clear w)
 rintro z w ⟨b8, rfl, h⟩
 (try dsimp only)
 refine it (fun hc1 => ?_) (fun hc1 => ?_)
 ·have hc1 : bkHas a.bk e.name = false := by simpa using hc1
  rw [if_pos hc1] at hk
  refine z5I h fun v s w r h => ?_
  exact ⟨v, rfl, hk v s _ w r hs0 (sysBack i hi (dl1_ (dl1_ h)))⟩
 have hc1 : bkHas a.bk e.name = true := by simpa using hc1
 rw [if_neg (by simp [hc1])] at hk
 obtain ⟨x, hgx⟩ := Option.isSome_iff_exists.1 (hby hc1)
 obtain ⟨⟨hw, hl, hy, hln⟩, hd⟩ := hx x hgx
 have hc := hc hc1
 rw [hgx] at hk
 dsimp only at hk
 clear hby hx
 have hqx : ∃ q, lfind BsE.k Q e.name = some q ∧ q.x = x := by
  rw [R.ab, zde] at hgx
  cases hf : lfind BsE.k Q e.name with
  | none => rw [hf] at hgx; cases hgx
  | some q => rw [hf] at hgx; exact ⟨q, rfl, by simpa using hgx⟩
 obtain ⟨q, hfx, rfl⟩ := hqx
 have hmk := R.mp.nd
 (refine dr h ?_; clear h; (try clear w); intro w h; refine nn ?_; refine ldC h ?_; refine ldC h ?_)
 have hlk : ((mget (Q.map BsE.kp) e.name).map fun x : Option Addr => x).getD none = some ⟨q.b, 0, none⟩ := by rw [zdd, hfx]; rfl
 refine MpS.get mkStr zeh zptr (fun x : Option Addr => x) (fun _ => rfl) h 8 rfl R.mp ?_
 rw [hlk]
 have ea := R.ea
 have hab := R.ab
 have hmp := R.mp
 obtain ⟨A, B, eQ, hxk⟩ := z8u hfx
 (refine ldC h ?_)
 refine zdf h (i := 2) (j := 4) rfl rfl R.fl (fv := ⟨.func z1R, #[], #[]⟩) (q := fun s => s == 2) hpn (fun {E' w x k} h hk => ?_) fun w h => ?_
 ·refine z3U (fs := #[]) (cs := #[]) z6Z (z73 x) ?_
  unfold z4o
  exact ⟨_, rfl, hk w h⟩
 have hcn : 0 ≤ cnt (fun s => s == 2) (fPods a.fl.l e.name) ∧ cnt (fun s => s == 2) (fPods a.fl.l e.name) ≤ 1000000 := by
  unfold cnt
  have := List.length_filter_le (fun x : Int × Int × Int => (fun s => s == 2) x.2.1) (fPods a.fl.l e.name)
  refine ⟨Int.natCast_nonneg _, ?_⟩
  have h2 : ((fPods a.fl.l e.name).filter fun x : Int × Int × Int => (fun s => s == 2) x.2.1).length ≤ 1000000 := by omega
  exact Int.ofNat_le.2 h2
 have hdd : (scOf a q.x e.name) = scDec q.x.want q.x.left (bkGet a.bk e.name).2.2 (cnt (fun s => s == 2) (fPods a.fl.l e.name)) (busyB a.gt e.name) (lastS q.x.xs (lastN q.x.xs 6)) (lastN q.x.xs 6) (lastS q.x.xs (lastN q.x.xs 2)) (lastN q.x.xs 2) (tz q.x.xs) := rfl
 subst eQ
 have h := fr9_ h
 have h := h.pick.split
 have hox := ea q (by simp)
 have hr6 := zeA hy (zbJ q.x.xs 6)
 have hr2 := zeA hy (zbJ q.x.xs 2)
 have hn6 := zbJ q.x.xs 6
 have hn2 := zbJ q.x.xs 2
 (refine nn ?_; refine ldC h ?_)
 refine zgZ h 1 rfl hox (by omega) fun w h => ?_
 rw [wr (by omega) (by omega)]
 (refine nn ?_; refine ldC h ?_)
 refine zgZ h 1 rfl hox (by omega) fun w h => ?_
 rw [wr (by omega) (by omega)]
 (refine dr h ?_; clear h; (try clear w); intro w h; refine nn ?_; refine laC h ?_; refine laC h ?_; refine nn ?_; refine ldC h ?_; refine ldC h ?_; refine nn ?_; refine ldC h ?_)
 have h := fr6_ h
 refine zjl h R.gt fun sg' w hG h => ?_
 (refine ckC h ?_; refine ckC h ?_; refine ckC h ?_)
 refine zkz h 2 rfl hox ?_
 (refine ckC h ?_; refine ckC h ?_)
 have hbu : ((gWait a.gt e.name).length : Int) + (gWith a.gt.all e.name).length = busyB a.gt e.name := rfl
 rw [hbu]
 refine zhJ (c := (bkGet a.bk e.name).2.2) h hw hl hc hcn (by dsimp only; omega) (by dsimp only; omega) (by dsimp only; omega) (by dsimp only; omega) fun w h => ?_
 rw [← hdd]
 clear hdd
 generalize scOf a q.x e.name = d at *
 obtain ⟨d1, d2⟩ := d
 dsimp only at hd hk ⊢
 (refine nn ?_; refine stC h ?_; clear h; (try clear w); intro w h; dsimp only [putN, setN] at h)
 refine z1k (fun (z : Sl × Unit) w => ∃ sv, Rw eS z01 1 z.1 [lineB (lineB s_scale [e.name]) [decD d1.toNat]] sv ∧
  St w0 (sv :: [Cl q.b z3m [.pointer (some ⟨q.g, 0, none⟩), I d1, I d2]] :: q.sgg :: ((A ++ B).map BsE.sg).flatten :: sysC b p a.now :: sg' :: sf :: ss :: sk :: sr :: sm :: delN E i) w) (fun k7 hk7 => ?_) ?_
 ·have fin : ∀ {w b2}, St w0 ([Cl b2 z01 [.string (lineB (lineB s_scale [e.name]) [decD d1.toNat])]] :: sg' :: [Cl q.b z3m [.pointer (some ⟨q.g, 0, none⟩), I d1, I d2]] :: q.sgg :: ((A ++ B).map BsE.sg).flatten :: [Cl b8 z0l (rvC (bkGet a.bk e.name))] :: [Cl b1 z0p (eEw e)] :: sysC b p a.now :: sf :: ss :: sk :: sr :: sm :: delN E i) w → k7 (⟨some ⟨b2, 0, none⟩, 1, 1⟩, ()) w := by
   intro w b2 h
   refine hk7 _ w ⟨_, Rw.lit b2 [_] encS rfl rfl (by simp [maxLen]), ?_⟩
   have h := dl5_ (dl6_ h)
   have h := fr5_ (fr5_ (fr5_ (fr5_ (fr5_ (fr1_ h)))))
   exact h
  have sz : (lineB s_scale [e.name]).size ≤ 100000000 := by rw [z6x]; have : s_scale.size = 5 := rfl; omega
  (refine dr h ?_; clear h; (try clear w); intro w h; refine ldC h ?_; refine nn ?_; refine ldC h ?_; rw [z3H])
  refine alts2 ?_ ?_
  ·refine nw h ?_; clear h; (try clear w); intro b41 w h
   (refine ckC h ?_)
   refine alts2 ?_ ?_
   ·refine lineS1 h (by decide) (by omega) fun w h => ?_
    (refine ckC h ?_)
    refine nw h ?_; clear h; (try clear w); intro b43 w h
    (refine ckC h ?_)
    refine lineI1 h sz hd.1 (by omega) fun w h => ?_
    refine nw h ?_; clear h; (try clear w); intro b45 w h
    exact fin h
   ·refine nw h ?_; clear h; (try clear w); intro b46 w h
    (refine ckC h ?_)
    have h := fr1_ h
    refine lineS1 h (by decide) (by omega) fun w h => ?_
    (refine ckC h ?_)
    refine lineI1 h sz hd.1 (by omega) fun w h => ?_
    refine nw h ?_; clear h; (try clear w); intro b49 w h
    exact fin h
  ·refine nw h ?_; clear h; (try clear w); intro b50 w h
   (refine ckC h ?_)
   refine nw h ?_; clear h; (try clear w); intro b51 w h
   (refine ckC h ?_)
   refine lineS1 h (by decide) (by omega) fun w h => ?_
   (refine ckC h ?_)
   refine lineI1 h sz hd.1 (by omega) fun w h => ?_
   refine nw h ?_; clear h; (try clear w); intro b54 w h
   exact fin h
 clear h; (try clear w)
 rintro ⟨z, ⟨⟩⟩ w ⟨sv, r, h⟩
 dsimp only at r ⊢
 have et2 := zdT (rev := e.name) (y := ⟨q.x.xs, d1, d2⟩) (sgg := q.sgg) hxk (B := B) (A := A) (by simpa [List.map_map, Function.comp_def] using hmk)
 refine ⟨z, rfl, hk z sv (sys8 b { a with by' := mset a.by' e.name ⟨q.x.xs, d1, d2⟩ } p sg' sf ss sk sr sm (A ++ ⟨q.k, q.b, q.g, ⟨q.x.xs, d1, d2⟩, q.sgg⟩ :: B)) w r ⟨p, sg', sf, ss, sk, sr, sm, A ++ ⟨q.k, q.b, q.g, ⟨q.x.xs, d1, d2⟩, q.sgg⟩ :: B, ⟨hG, R.fl, R.sh, R.bk, R.ro, ?_, ?_, ?_⟩, rfl⟩ (sysBack i hi ?_)⟩
 ·have : (A ++ (⟨q.k, q.b, q.g, ⟨q.x.xs, d1, d2⟩, q.sgg⟩ : BsE) :: B).map BsE.kp = (A ++ q :: B).map BsE.kp := by simp
  rw [this]; exact hmp
 ·intro y hy
  rcases List.mem_append.1 hy with hy | hy
  ·exact ea y (by simp [hy])
  ·rcases List.mem_cons.1 hy with rfl | hy
   ·exact hox
   ·exact ea y (by simp [hy])
 ·rw [et2]
  show mset a.by' e.name _ = _
  rw [hab]
 ·have h := fr2_ (fr2_ h)
  have h := h.glue
  have h := fr1_ (fr2_ h)
  have h : St w0 (BsE.sg ⟨q.k, q.b, q.g, ⟨q.x.xs, d1, d2⟩, q.sgg⟩ :: ((A ++ B).map BsE.sg).flatten :: sv :: sysC b p a.now :: sg' :: sf :: ss :: sk :: sr :: sm :: delN E i) w := h
  have h := h.place
  have h := fr8_ (fr8_ (fr8_ (fr8_ (fr8_ (fr8_ (fr8_ (fr8_ h)))))))
  exact h
end Go.Proofs.YtkmalcoocklikaaGreatDoor
namespace Go.Proofs.YtkmalcoocklikaaGreatDoor
open Go.Dm
structure SInv (k : Nat) (a : ASys) : Prop where
 fl : FlI k a.fl
 gt : GtI k a.gt
 sh : ShI k a.sh
 bk : BkI k a.bk
 ro : RoI k a.ro
 by' : ByI k a.bk a.by'
 now : 0 ≤ a.now ∧ a.now ≤ 1048576
structure SOk (a : ASys) : Prop where
 fl : a.fl.Ok
 gt : a.gt.Ok
 sh : a.sh.Ok
 bk : a.bk.Ok
 ro : (a.ro.map (·.1)).Nodup
 nd : (a.bk.all.map (·.1)).Nodup
theorem SysS.ok {b : Nat} {a : ASys} {s : Seg} (h : SysS b a s) : SOk a := by
 obtain ⟨p, sg, sf, ss, sk, sr, sm, Q, R, -⟩ := h
 refine ⟨R.fl.1, R.gt.1, R.sh.1, R.bk.1, ?_, ?_⟩
 ·obtain ⟨r, sm, P, Q, hm, -, e, -⟩ := R.ro
  rw [e]
  have := hm.nd
  simpa [List.map_map, Function.comp_def] using this
 ·obtain ⟨-, rA, rP, sA, sP, hA, -⟩ := R.bk
  exact hA.nd
theorem SInv.mono {k m : Nat} {a : ASys} (h : SInv k a) (hm : k ≤ m) : SInv m a := ⟨h.fl.mono hm, h.gt.mono hm, h.sh.mono hm, h.bk.mono hm, fun n x hx => (h.ro n x hx).mono hm, h.by'.mono hm, h.now⟩
theorem zlp {room line pat : Int} (h : newOk room line pat = true) (hr : room ≤ 30) : SInv 0 (newSys room line pat) := by
 unfold newOk wiB at h
 simp only [Bool.and_eq_true, decide_eq_true_eq] at h
 obtain ⟨⟨r1, r2⟩, ⟨l1, l2⟩, p1, p2⟩ := h
 refine ⟨⟨⟨hr, ?_, ?_⟩, r1, Int.le_refl 0, ?_, ?_⟩, ⟨Nat.le_refl _, ?_, Nat.le_refl _, ?_, ?_, ⟨p1, by show pat ≤ 1000; omega⟩, l1, l2⟩, ⟨Int.le_refl 0, ?_, ?_, ?_⟩, ⟨Nat.le_refl _, ?_, ?_⟩, ?_, ⟨?_, ?_, ?_, ?_⟩, Int.le_refl 0, by show (0 : Int) ≤ 1048576; decide⟩
 ·show ((0 : Nat) : Int) ≤ max room 0; omega
 all_goals first | (intro x hx; cases hx; done) | skip
 intro n x h; cases h
def sysDo (a : ASys) (e : AEv) : ASys × List ByteArray :=
 if chkEv e ≠ 0 then (a, [lineB zlc [errB (chkEv e)]])
 else if e.kind = 1 then sysConfig a e else if e.kind = 2 then sysRoute a e else if e.kind = 3 then sysDrop a e else if e.kind = 4 then sysArrive a e else if e.kind = 5 then sysDone a e else if e.kind = 6 then sysUp a e
 else if e.kind = 9 then sysTick a else if e.kind = 10 then sysStamp a e else if e.kind = 11 then sysLead a e else if e.kind = 12 then sysScale a e else if e.kind = 13 then sysPods a e else sysDown a e
theorem zkq {e : AEv} (h : chkEv e = 0) : (shp e.kind).2 = true ∧ chkS (shp e.kind).1 e = 0 := by
 unfold chkEv at h
 split at h
 ·cases h
 ·rename_i h1; exact ⟨by simpa using h1, h⟩
theorem zeU {e : AEv} (h : chkEv e = 0) : ((shp e.kind).1.1 = true → numE e = true) ∧ ((shp e.kind).1.2.1 = true → namedE e = true) ∧ ((shp e.kind).1.2.2.2.1 = true → wiB e.draw 0 2147483647 = true) ∧ ((shp e.kind).1.2.2.2.2.1 = true → specC e.c = 0) ∧ ((shp e.kind).1.2.2.2.2.2.1 = true → (shp e.kind).1.2.2.2.2.1 = false → specE e.r = 0) := by
 have h := (zkq h).2
 generalize (shp e.kind).1 = s at h ⊢
 obtain ⟨s1, s2, s3, s4, s5, s6, ⟨⟩⟩ := s
 unfold chkS at h
 dsimp only at h ⊢
 split at h
 ·cases h
 ·split at h
  ·cases h
  ·rename_i h1
   split at h
   ·cases h
   ·rename_i h2
    split at h
    ·cases h
    ·split at h
     ·cases h
     ·rename_i h3
      refine ⟨fun e1 => ?_, fun e1 => ?_, fun e1 => ?_, fun e1 => ?_, fun e1 e2 => ?_⟩
      ·cases hn : numE e with
       | true => rfl
       | false => exact absurd ⟨e1, hn⟩ h1
      ·cases hn : namedE e with
       | true => rfl
       | false => exact absurd ⟨e1, hn⟩ h2
      ·cases hn : wiB e.draw 0 2147483647 with
       | true => rfl
       | false => exact absurd ⟨e1, hn⟩ h3
      ·rw [if_pos e1] at h; exact h
      ·rw [if_neg (by simp [e2]), if_pos e1] at h; exact h
theorem zmQ {e : AEv} (h : chkEv e = 0) (hk : e.kind = 4 ∨ e.kind = 5 ∨ e.kind = 6 ∨ e.kind = 7 ∨ e.kind = 8) : idB e.n ∧ 1 ≤ e.n := by
 have h1 := (zeU h).1 (by rcases hk with e | e | e | e | e <;> rw [e] <;> rfl)
 unfold numE wiB at h1
 rw [if_neg (by omega), if_neg (by omega)] at h1
 simp only [Bool.and_eq_true, decide_eq_true_eq] at h1
 exact ⟨⟨by omega, h1.2⟩, h1.1⟩
theorem znz {e : AEv} (h : chkEv e = 0) (hk : e.kind = 1) : specC e.c = 0 := (zeU h).2.2.2.1 (by rw [hk]; rfl)
theorem zht {k : Nat} {a : ASys} (ok : SOk a) (h : SInv k a) (e : AEv) : SInv (k + 1) (sysConfig a e).1 :=
 ⟨h.fl.mono (Nat.le_succ k), h.gt.mono (Nat.le_succ k), zij ok.sh h.sh e.c e.n, h.bk.mono (Nat.le_succ k), fun n x hx => (h.ro n x hx).mono (Nat.le_succ k), h.by'.mono (Nat.le_succ k), h.now⟩
theorem zmB {k : Nat} {a : ASys} (ok : SOk a) (h : SInv k a) (e : AEv) : SInv (k + 1) (sysUp a e).1 := by
 have hu := h.fl.up e.n
 have hg := ziT ok.gt hu h.gt (fOf (fUpp a.fl e.n).1.l e.n)
 unfold sysUp
 split
 ·exact ⟨hu.mono (Nat.le_succ k), h.gt.mono (Nat.le_succ k), h.sh.mono (Nat.le_succ k), h.bk.mono (Nat.le_succ k), fun n x hx => (h.ro n x hx).mono (Nat.le_succ k), h.by'.mono (Nat.le_succ k), h.now⟩
 ·refine ⟨hg.1.mono (Nat.le_succ k), hg.2, h.sh.mono (Nat.le_succ k), ?_, fun n x hx => (h.ro n x hx).mono (Nat.le_succ k), ?_, h.now⟩
  ·dsimp only; unfold upBk
   split
   ·exact h.bk.mono (Nat.le_succ k)
   ·exact (h.bk.prove _).mono (Nat.le_succ k)
  ·dsimp only; unfold upBk
   split
   ·exact h.by'.mono (Nat.le_succ k)
   ·refine (h.by'.mono (Nat.le_succ k)).book ?_
    unfold bkProve
    split <;> rfl
theorem zks {a : ABook} (nd : (a.all.map (·.1)).Nodup) : (bkAll a).Nodup := (z5t _).nodup_iff.2 nd
theorem zk8 {k : Nat} {a : ASys} (ok : SOk a) (nd : (a.bk.all.map (·.1)).Nodup) (h : SInv k a) (hk : k ≤ 10000) : SInv (k + 1) (sysTick a).1 := by
 have hg := zeJ ok.gt h.gt (a.now + 1)
 have hG : (tkG a).1.Ok := by
  have := zbO (m := a.gt.all.length) (n := a.gt.lines.length) (now := a.now + 1) (r := a.gt.room) (ks := ssort (a.gt.lines.map (·.1))) (G := a.gt) (out := []) ⟨Nat.le_refl _, h.gt.ids, Nat.le_refl _, h.gt.lid, h.gt.wk, ok.gt⟩ rfl (fun k hk => by
   cases h4 : mget a.gt.lines k with
   | none => rw [z1N] at h4; exact absurd (z9t.1 hk) h4
   | some v => rfl) (by simp)
  exact this.1.ok
 unfold sysTick
 split
 ·exact h.mono (Nat.le_succ k)
 ·rename_i hc
  refine ⟨h.fl.mono (Nat.le_succ k), hg.1.mono (Nat.le_succ k), h.sh.mono (Nat.le_succ k), h.bk.mono (Nat.le_succ k), fun n x hx => (h.ro n x hx).mono (Nat.le_succ k), ?_, ?_⟩
  ·exact ByI.tick (fun rev => (zlA hG hg.1 (by omega) rev).2) (zks nd) h.by'.has (fun x hx _ => h.by'.xs x hx) (fun x hx => Nat.le_succ_of_le (h.by'.xs x hx)) h.by'.rng h.by'.want
  ·have := h.now; dsimp only; omega
theorem zbT {k : Nat} {a : AShelf} (ok : a.Ok) (h : ShI k a) {n : ByteArray} (hi : (shCfg a n).2.2.2.1 = true) : specC (shCfg a n).1 = 0 ∧ 1 ≤ @id Int (shCfg a n).2.2.1 ∧ @id Int (shCfg a n).2.2.1 ≤ a.n := by
 unfold shCfg at hi ⊢
 split
 ·rename_i h1
  have := h.cfg n h1
  exact ⟨this.2.1, this.2.2, (ok.gen n).2⟩
 ·rename_i h1
  rw [if_neg h1] at hi
  cases hi
theorem ziJ {k : Nat} {a : ASys} (ok : SOk a) (h : SInv k a) (hn : a.sh.n < 100) (e : AEv) : SInv (k + 1) (sysStamp a e).1 := by
 have hm := h.mono (Nat.le_succ k)
 unfold sysStamp
 split
 ·exact hm
 ·rename_i h1
  have hc := zbT ok.sh h.sh (n := e.name) (by simpa using h1)
  split
  ·exact hm
  ·have hb := h.bk.stamp (c := (shCfg a.sh e.name).1) hc.1 (g := (@id Int (shCfg a.sh e.name).2.2.1).toNat) (by omega) (by omega)
   have hw := (z4P hc.1).2.2.2
   split
   ·rename_i h3
    refine ⟨hm.fl, hm.gt, hm.sh, hb, hm.ro, hm.by'.book ?_, hm.now⟩
    dsimp only [stp] at h3 ⊢
    unfold bkStamp at h3 ⊢
    split
    ·rfl
    ·rename_i h4; rw [if_neg h4] at h3; cases h3
   ·rename_i h3
    refine ⟨hm.fl, hm.gt, hm.sh, hb, hm.ro, ⟨fun p hp => ?_, ?_, ?_, ?_⟩, hm.now⟩
    ·dsimp only [stp] at h3 hp ⊢
     rw [z5B]
     split
     ·rfl
     ·rename_i h5
      unfold bkStamp at hp h5
      split at hp
      ·exact h.by'.has p hp
      ·rename_i h6
       rw [if_neg h6] at h5
       rcases z1A hp with rfl | hp
       ·exact absurd rfl h5
       ·exact h.by'.has p hp
    all_goals
     intro y hy
     rcases z1A hy with rfl | hy
    ·exact Nat.zero_le _
    ·exact hm.by'.xs y hy
    ·intro z hz; cases hz
    ·exact hm.by'.rng y hy
    ·refine ⟨?_, Int.le_refl 0, by show (0 : Int) ≤ 1000; decide⟩
     show 0 ≤ wantOf (shCfg a.sh e.name).1 ∧ wantOf (shCfg a.sh e.name).1 ≤ 10
     unfold wantOf
     split <;> omega
    ·exact hm.by'.want y hy
theorem zk9 {k : Nat} {a : ASys} (h : SInv k a) (e : AEv) : SInv (k + 1) (sysPods a e).1 := by
 have hm := h.mono (Nat.le_succ k)
 unfold sysPods
 split
 ·exact hm
 ·rename_i h1
  have h1 : bkHas a.bk e.name = true := by simpa using h1
  have hb := z5D h1
  have hc := (z4P (h.bk.cfg _ hb)).2.2.1
  refine ⟨?_, hm.gt, hm.sh, hm.bk, hm.ro, hm.by', hm.now⟩
  exact h.fl.scale (h.bk.rev _ hb) (Int.le_trans hc.2 (by decide)) _
theorem zin {w ready mi ma : Int} (h1 : 0 ≤ mi) (h2 : 1 ≤ ma ∧ ma ≤ 10) : 0 ≤ scEnd w ready mi ma ∧ scEnd w ready mi ma ≤ 10 := by
 unfold scEnd
 generalize mx2 (mn2 w (4 * scM ready)) (ready / 2) = x
 unfold mn2 mx2
 constructor <;> repeat' split
 all_goals omega
theorem zh9 {left b m : Int} (h : 0 ≤ left ∧ left ≤ 1000) : 0 ≤ scLeft left b m ∧ scLeft left b m ≤ 1000 := by
 unfold scLeft
 repeat' split
 all_goals omega
theorem zgl {k : Nat} {a : ASys} (h : SInv k a) {rev : ByteArray} (hb : bkHas a.bk rev = true) {x : ABes} (hx : 0 ≤ x.left ∧ x.left ≤ 1000) : (0 ≤ (scOf a x rev).1 ∧ (scOf a x rev).1 ≤ 10) ∧ (0 ≤ (scOf a x rev).2 ∧ (scOf a x rev).2 ≤ 1000) := by
 have hc := (z4P (h.bk.cfg _ (z5D hb))).2.2.2
 exact ⟨zin hc.2.1.1 hc.1, zh9 hx⟩
theorem ziK {k : Nat} {a : ASys} (h : SInv k a) (e : AEv) : SInv (k + 1) (sysScale a e).1 := by
 have hm := h.mono (Nat.le_succ k)
 unfold sysScale
 split
 ·exact hm
 ·rename_i h1
  have h1 : bkHas a.bk e.name = true := by simpa using h1
  split
  ·exact hm
  ·rename_i x hx
   have hxm := z3T hx
   refine ⟨hm.fl, hm.gt, hm.sh, hm.bk, hm.ro, hm.by'.set (hm.by'.xs _ hxm) (hm.by'.rng _ hxm) ?_, hm.now⟩
   exact zgl h h1 (hm.by'.want _ hxm).2
theorem zib {a : ASys} {e : AEv} (h : chkEv e ≠ 0) : sysDo a e = (a, [lineB zlc [errB (chkEv e)]]) := by unfold sysDo; rw [if_pos h]
theorem zfu {a : ASys} {e : AEv} (h : chkEv e = 0) (hk : e.kind = 1) : sysDo a e = sysConfig a e := by unfold sysDo; rw [if_neg (by simp [h]), if_pos hk]
theorem zl5 {a : ASys} {e : AEv} (h : chkEv e = 0) (hk : e.kind = 5) : sysDo a e = sysDone a e := by unfold sysDo; rw [if_neg (by simp [h]), if_neg (by omega), if_neg (by omega), if_neg (by omega), if_neg (by omega), if_pos hk]
theorem zft {a : ASys} {e : AEv} (h : chkEv e = 0) (hk : e.kind = 6) : sysDo a e = sysUp a e := by unfold sysDo; rw [if_neg (by simp [h]), if_neg (by omega), if_neg (by omega), if_neg (by omega), if_neg (by omega), if_neg (by omega), if_pos hk]
theorem zds {a : ASys} {e : AEv} (h : chkEv e = 0) (hk : e.kind = 9) : sysDo a e = sysTick a := by unfold sysDo; rw [if_neg (by simp [h]), if_neg (by omega), if_neg (by omega), if_neg (by omega), if_neg (by omega), if_neg (by omega), if_neg (by omega), if_pos hk]
theorem zgj {a : ASys} {e : AEv} (h : chkEv e = 0) (hk : e.kind = 10) : sysDo a e = sysStamp a e := by unfold sysDo; rw [if_neg (by simp [h]), if_neg (by omega), if_neg (by omega), if_neg (by omega), if_neg (by omega), if_neg (by omega), if_neg (by omega), if_neg (by omega), if_pos hk]
theorem zdu {a : ASys} {e : AEv} (h : chkEv e = 0) (hk : e.kind = 12) : sysDo a e = sysScale a e := by unfold sysDo; rw [if_neg (by simp [h]), if_neg (by omega), if_neg (by omega), if_neg (by omega), if_neg (by omega), if_neg (by omega), if_neg (by omega), if_neg (by omega), if_neg (by omega), if_neg (by omega), if_pos hk]
theorem zdt {a : ASys} {e : AEv} (h : chkEv e = 0) (hk : e.kind = 13) : sysDo a e = sysPods a e := by unfold sysDo; rw [if_neg (by simp [h]), if_neg (by omega), if_neg (by omega), if_neg (by omega), if_neg (by omega), if_neg (by omega), if_neg (by omega), if_neg (by omega), if_neg (by omega), if_neg (by omega), if_neg (by omega), if_pos hk]
end Go.Proofs.YtkmalcoocklikaaGreatDoor
