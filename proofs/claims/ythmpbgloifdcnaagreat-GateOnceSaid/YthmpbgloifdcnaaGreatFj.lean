/- Contracts of functions, and walks of laws (text Fj). No conditions beyond those its theorems state. -/
import Derived.Test.YthmpbgloifdcnaaGreatFa
set_option linter.all false
namespace Go.Proofs.YthmpbgloifdcnaaGreat
open Go.Dm
attribute [local irreducible] L.load L.store L.chk L.new L.nonnil L.guard L.ite L.draw L.idx L.sem L.semR L.semU L.chkSem L.next L.call L.callV L.join L.alts L.loop L.begin L.endRound L.range
variable {w0 w : World} {E : List Seg}
/-! ### choices, in order of what they have -/
def eC (p : Int × Int) : List Value := [I p.1, I p.2]
theorem encC : Enc eC 2 := ⟨fun _ => rfl, fun _ => rfl, by decide⟩
theorem elC : El Pr T_s_fleet_choice T_fleet_choice 2 16 (.agg #[I 0, I 0]) := el_of (by kernel_rfl) (by kernel_rfl) rfl (by decide)
theorem Rw.stC {v : Sl} {l : List (Int × Int)} {s : Seg} {e : Nat} (h : St w0 E w) (k : Nat) (hi : nth E k = some s) (hr : Rw eC e 2 v l s) {i : Nat} {a : Addr} (ha : ElA v 2 i a) (hx : i < l.length) (y : Int × Int) {kk : PT}
    (hk : ∀ s' w', Rw eC e 2 v (l.set i y) s' → St w0 (setN E k s') w' → kk w') : L.store a [I y.1, I y.2] kk w := by
  obtain ⟨a0, hv, rfl⟩ := ha
  have hx0 : l[i]? = some l[i] := List.getElem?_eq_getElem hx
  generalize l[i] = x at hx0
  have e1 : setN (fl eC l) (i * 2 + 0) (I y.1) = fl eC (l.set i (y.1, x.2)) := fl_set encC hx0 (by decide) rfl
  have e2 : setN (fl eC (l.set i (y.1, x.2))) (i * 2 + 1) (I y.2) = fl eC ((l.set i (y.1, x.2)).set i y) := fl_set encC (x := (y.1, x.2)) (by simp [hx]) (by decide) rfl
  rw [List.set_set] at e2
  have hset : setN (setN (fl eC l) (i * 2 + 0) (I y.1)) (i * 2 + 1) (I y.2) = fl eC (l.set i y) := by rw [e1, e2]
  have hlt : i * 2 + 1 < (fl eC l).length := by rw [fl_len encC]; omega
  unfold Rw at hr hk
  rw [← hset] at hk
  have hlen2 : (setN (setN (fl eC l) (i * 2 + 0) (I y.1)) (i * 2 + 1) (I y.2)).length = (fl eC l).length := by rw [setN_set, setN_set]; simp
  have hlen1 : (setN (fl eC l) (i * 2 + 0) (I y.1)).length = (fl eC l).length := by rw [setN_set]; simp
  generalize fl eC l = xs at *
  cases hr with
  | nil => cases hv
  | mk g n cap pre xs spare post h1 h2 h3 h4 =>
    cases hv
    rw [add_none]
    have hn : ∀ j, j ≤ 1 → ∃ c, nth (pre ++ (xs ++ (spare ++ post))) (pre.length + (i * 2 + j)) = some c := fun j hj => by
      rw [nth_app_add, nth_app_lt (by omega), nth_getElem?]
      exact ⟨_, List.getElem?_eq_getElem (by omega)⟩
    refine stx [I y.1, I y.2] h k hi ?_ rfl fun w' h => hk _ w' (Row.mk g n cap pre _ spare post (by rw [hlen2]; exact h1) (by rw [hlen2]; exact h2) h3 h4) ?_
    · obtain ⟨c0, hc0⟩ := hn 0 (by omega)
      obtain ⟨c1, hc1⟩ := hn 1 (by omega)
      simp only [Nat.add_zero] at hc0
      simp [hasN, hc0, hc1, Nat.add_assoc]
    · simp only [putN] at h
      have q1 : setN (xs ++ (spare ++ post)) (i * 2 + 0) (I y.1) = setN xs (i * 2 + 0) (I y.1) ++ (spare ++ post) := setN_app_lt (by omega)
      have q2 : setN (setN xs (i * 2 + 0) (I y.1) ++ (spare ++ post)) (i * 2 + 1) (I y.2) = setN (setN xs (i * 2 + 0) (I y.1)) (i * 2 + 1) (I y.2) ++ (spare ++ post) := setN_app_lt (by omega)
      rw [show pre.length + i * 2 = pre.length + (i * 2 + 0) from rfl, setN_app_add, q1, show pre.length + (i * 2 + 0) + 1 = pre.length + (i * 2 + 1) by omega, setN_app_add, q2] at h
      exact h
/-- one more, behind those that have no more -/
def insC (x : Int × Int) : List (Int × Int) → List (Int × Int)
  | [] => [x]
  | y :: l => if x.1 < y.1 then x :: y :: l else y :: insC x l
def csort (l : List (Int × Int)) : List (Int × Int) := l.foldl (fun a x => insC x a) []
theorem insC_perm (x : Int × Int) (l : List (Int × Int)) : (insC x l).Perm (x :: l) := by
  induction l with
  | nil => exact .refl _
  | cons y l ih =>
    simp only [insC]
    split
    · exact .refl _
    · exact (ih.cons y).trans (.swap ..)
theorem insC_pw {x : Int × Int} : ∀ {l : List (Int × Int)}, l.Pairwise (fun a b => a.1 ≤ b.1) → (insC x l).Pairwise (fun a b => a.1 ≤ b.1)
  | [], _ => by simp [insC]
  | y :: l, h => by
    rw [List.pairwise_cons] at h
    simp only [insC]
    split
    · rename_i hy
      rw [List.pairwise_cons]
      refine ⟨fun z hz => ?_, List.pairwise_cons.2 h⟩
      rcases List.mem_cons.1 hz with rfl | hz
      · omega
      · have := h.1 z hz; omega
    · rename_i hy
      rw [List.pairwise_cons]
      refine ⟨fun z hz => ?_, insC_pw h.2⟩
      rcases List.mem_cons.1 ((insC_perm x l).mem_iff.1 hz) with rfl | hz
      · omega
      · exact h.1 z hz
theorem csort_take {l : List (Int × Int)} {i : Nat} {x : Int × Int} (h : l[i]? = some x) : csort (l.take (i + 1)) = insC x (csort (l.take i)) := by
  unfold csort; rw [List.take_add_one, h, List.foldl_append]; rfl
theorem csort_len (l : List (Int × Int)) : (csort l).length = l.length := by
  suffices ∀ (l a : List (Int × Int)), (l.foldl (fun a x => insC x a) a).length = a.length + l.length by
    have := this l []; simpa [csort] using this
  intro l
  induction l with
  | nil => simp
  | cons x l ih => intro a; rw [List.foldl_cons, ih, (insC_perm x a).length_eq]; simp; omega
theorem csort_pw (l : List (Int × Int)) : (csort l).Pairwise (fun a b => a.1 ≤ b.1) := by
  suffices ∀ (l a : List (Int × Int)), a.Pairwise (fun a b => a.1 ≤ b.1) → (l.foldl (fun a x => insC x a) a).Pairwise (fun a b => a.1 ≤ b.1) from this l [] .nil
  intro l
  induction l with
  | nil => exact fun a h => h
  | cons x l ih => exact fun a h => ih _ (insC_pw h)
theorem insC_at {x : Int × Int} : ∀ {A B : List (Int × Int)}, (∀ y ∈ A, ¬ x.1 < y.1) → (∀ y ∈ B, x.1 < y.1) → insC x (A ++ B) = A ++ x :: B
  | [], [], _, _ => rfl
  | [], y :: B, _, h => by simp only [List.nil_append, insC]; rw [if_pos (h y (by simp))]
  | y :: A, B, h1, h2 => by
    simp only [List.cons_append, insC]
    rw [if_neg (h1 y (by simp)), insC_at (fun z hz => h1 z (by simp [hz])) h2]
end Go.Proofs.YthmpbgloifdcnaaGreat
namespace Go.Proofs.YthmpbgloifdcnaaGreat
open Go.Dm
attribute [local irreducible] L.load L.store L.chk L.new L.nonnil L.guard L.ite L.draw L.idx L.sem L.semR L.semU L.chkSem L.next L.call L.callV L.join L.alts L.loop L.begin L.endRound L.range
variable {w0 w : World} {E : List Seg}
theorem nth_put {E : List Seg} {i : Nat} {s s' : Seg} (hi : nth E i = some s) : nth (setN E i s') i = some s' := by
  rw [nth_getElem?] at *
  rw [setN_set, List.getElem?_set_self]
  exact (List.getElem?_eq_some_iff.1 hi).1
theorem put_put {E : List Seg} {i : Nat} {s s' : Seg} : setN (setN E i s) i s' = setN E i s' := by
  rw [setN_set, setN_set, setN_set, List.set_set]
abbrev cmpV : Value := .func (.func n_fleet_Fleet_Take_1) #[] #[]
theorem S_cmpC (h : St w0 E w) {a b c d : Int} (h1 : -4611686018427387904 < a ∧ a < 4611686018427387904) (h2 : -4611686018427387904 < c ∧ c < 4611686018427387904) {k : Int → PT} (hk : ∀ w', St w0 E w' → k (a - c) w') :
    L.callV Pr cmpV [.agg #[I a, I b], .agg #[I c, I d]] (.one (.one (.int .i64))) k w := by
  refine callV_of (fs := #[]) (cs := #[]) E_fleet_Fleet_Take_1 (C_fleet_Fleet_Take_1 (a, b, ()) (c, d, ())) ?_
  unfold F_fleet_Fleet_Take_1
  refine nw h ?_; clear h; (try clear w); intro b1 w h
  refine nw h ?_; clear h; (try clear w); intro b2 w h
  (repeat (first | refine nn ?_ | (refine dr h ?_; clear h; (try clear w); intro w h) | refine ld0_ h rfl rfl ?_ | refine ld1_ h rfl rfl ?_ | refine ld2_ h rfl rfl ?_ | refine ld3_ h rfl rfl ?_ | refine ld4_ h rfl rfl ?_ | refine ld5_ h rfl rfl ?_ | refine ld6_ h rfl rfl ?_ | refine ld7_ h rfl rfl ?_ | refine ld8_ h rfl rfl ?_ | refine ld9_ h rfl rfl ?_ | refine ld10_ h rfl rfl ?_ | refine ld11_ h rfl rfl ?_ | refine la0_ h rfl ?_ | refine la1_ h rfl ?_ | refine la2_ h rfl ?_ | refine la3_ h rfl ?_ | refine la4_ h rfl ?_ | refine la5_ h rfl ?_ | refine la6_ h rfl ?_ | refine la7_ h rfl ?_ | refine la8_ h rfl ?_ | refine la9_ h rfl ?_ | refine la10_ h rfl ?_ | refine la11_ h rfl ?_ | refine ck0_ h rfl ?_ | refine ck1_ h rfl ?_ | refine ck2_ h rfl ?_ | refine ck3_ h rfl ?_ | refine ck4_ h rfl ?_ | refine ck5_ h rfl ?_ | refine ck6_ h rfl ?_ | refine ck7_ h rfl ?_ | refine ck8_ h rfl ?_ | refine ck9_ h rfl ?_ | refine ck10_ h rfl ?_ | refine ck11_ h rfl ?_ | ((first | refine st0_ h rfl rfl ?_ | refine st1_ h rfl rfl ?_ | refine st2_ h rfl rfl ?_ | refine st3_ h rfl rfl ?_ | refine st4_ h rfl rfl ?_ | refine st5_ h rfl rfl ?_ | refine st6_ h rfl rfl ?_ | refine st7_ h rfl rfl ?_ | refine st8_ h rfl rfl ?_ | refine st9_ h rfl rfl ?_ | refine st10_ h rfl rfl ?_ | refine st11_ h rfl rfl ?_); clear h; (try clear w); intro w h; (try dsimp only [putN, setN] at h))))
  refine ⟨_, rfl, ?_⟩
  dsimp only
  rw [wr (by omega) (by omega)]
  exact hk w (dl0_ (dl0_ h))
theorem at_mid {α : Type} {Q T : List α} {z x : α} : (Q ++ z :: x :: T)[Q.length]? = some z ∧ (Q ++ z :: x :: T)[Q.length + 1]? = some x ∧ ((Q ++ z :: x :: T).set (Q.length + 1) z).set Q.length x = Q ++ x :: z :: T := by
  refine ⟨by simp, by simp, by simp [List.set_append]⟩
theorem S_insC (h : St w0 E w) (i : Nat) {s : Seg} (hi : nth E i = some s) {v : Sl} {P M R : List (Int × Int)} (hr : Rw eC T_fleet_choice 2 v (P ++ (M ++ R)) s) (hn : (P ++ (M ++ R)).length < 1000000000)
    (hb : ∀ x ∈ M, -4611686018427387904 < x.1 ∧ x.1 < 4611686018427387904) {a b : Int} (ha : a = P.length) (hbb : b = P.length + M.length) {k : Unit → PT} (hk : ∀ s' w', Rw eC T_fleet_choice 2 v (P ++ (csort M ++ R)) s' → St w0 (setN E i s') w' → k () w') :
    L.call Pr n_slices_insertionSortCmpFunc_fleet_choice [.slice v.a v.len v.cap, I a, I b, cmpV] (.tup []) k w := by
  subst ha hbb
  refine call_of (C_slices_insertionSortCmpFunc_fleet_choice _ _ _ ⟨.func n_fleet_Fleet_Take_1, #[], #[]⟩) ?_
  unfold F_slices_insertionSortCmpFunc_fleet_choice
  have hlen := Rw.len encC hr
  simp only [List.length_append] at hn hlen
  rw [wr (by omega) (by omega)]
  have hcb : ∀ m, ∀ x ∈ csort (M.take m), x ∈ M := fun m x hx => by
    have : (csort (M.take m)).Perm (M.take m) := by
      suffices ∀ (l a : List (Int × Int)), (l.foldl (fun a x => insC x a) a).Perm (a ++ l) from by simpa [csort] using this (M.take m) []
      intro l
      induction l with
      | nil => intro a; simp
      | cons y l ih =>
        intro a
        refine (ih _).trans (((insC_perm y a).append_right l).trans ?_)
        exact (List.perm_middle (a := y) (l₁ := a) (l₂ := l)).symm
    exact List.mem_of_mem_take (this.mem_iff.1 hx)
  have h1 : csort (M.take 1) = M.take 1 := by cases M <;> rfl
  refine loop_of (fun q y w => ∃ (m : Nat) (s : Seg), y = (((P.length + m : Nat) : Int), ()) ∧ 1 ≤ m ∧ q + m = max 1 M.length ∧ Rw eC T_fleet_choice 2 v (P ++ (csort (M.take m) ++ (M.drop m ++ R))) s ∧ St w0 (setN E i s) w) (max 1 M.length - 1)
    ⟨1, s, rfl, by omega, by omega, by rw [h1, ← List.append_assoc (M.take 1), List.take_append_drop]; exact hr, by rwa [setN_self hi]⟩ ?_
  clear hr
  clear h; (try clear w)
  rintro q y w ⟨m, s, rfl, hm, hq, hr, h⟩ again hag
  dsimp only
  refine it (fun hc => ?_) (fun hc => ?_) <;> (try simp only [decide_eq_true_eq, decide_eq_false_iff_not, beq_iff_eq, bne_iff_ne, beq_eq_false_iff_ne, bne_eq_false_iff_eq, Bool.not_eq_true', Bool.not_eq_false', ne_eq, Bool.not_eq_true, Bool.not_eq_false] at hc)
  · have hm2 : m < M.length := by omega
    have hx : M[m]? = some M[m] := List.getElem?_eq_getElem hm2
    have hxm : M[m] ∈ M := List.getElem_mem hm2
    have hdrop : M.drop m = M[m] :: M.drop (m + 1) := List.drop_eq_getElem_cons hm2
    have hct := csort_take hx
    have hcl := csort_len (M.take m)
    rw [List.length_take, Nat.min_eq_left (by omega)] at hcl
    have hpw := csort_pw (M.take m)
    generalize M[m] = x at *
    rw [hdrop] at hr
    have hnT : (M.drop (m + 1)).length = M.length - (m + 1) := List.length_drop ..
    refine join_of (fun z w => ∃ s, Rw eC T_fleet_choice 2 v (P ++ (csort (M.take (m + 1)) ++ (M.drop (m + 1) ++ R))) s ∧ St w0 (setN E i s) w) (fun k3 hk3 => ?_) (fun z w ⟨s, hr, h⟩ => ?_)
    · refine loop_of (fun q y w => ∃ (A B : List (Int × Int)) (s : Seg), y = (((P.length + A.length : Nat) : Int), ()) ∧ q = A.length ∧ A ++ B = csort (M.take m) ∧ (∀ y ∈ B, x.1 < y.1) ∧ Rw eC T_fleet_choice 2 v ((P ++ A) ++ x :: (B ++ (M.drop (m + 1) ++ R))) s ∧ St w0 (setN E i s) w) m
        ⟨csort (M.take m), [], s, by rw [hcl], hcl.symm, by simp, by simp, by simpa [List.append_assoc] using hr, h⟩ ?_
      clear hr
      clear h; (try clear w)
      rintro q2 y w ⟨A, B, s, rfl, hq2, hAB, hB, hr, h⟩ again2 hag2
      dsimp only
      have stop : ∀ {w}, (∀ y ∈ A, ¬ x.1 < y.1) → St w0 (setN E i s) w → k3 () w := by
        intro w hA h
        refine hk3 _ w ⟨s, ?_, h⟩
        rw [hct, ← hAB, insC_at hA hB]
        simpa [List.append_assoc] using hr
      have hsi : nth (setN E i s) i = some s := nth_put hi
      refine dr h fun w h => ?_
      refine it (fun hd => ?_) (fun hd => ?_) <;> (try simp only [decide_eq_true_eq, decide_eq_false_iff_not, beq_iff_eq, bne_iff_ne, beq_eq_false_iff_ne, bne_eq_false_iff_eq, Bool.not_eq_true', Bool.not_eq_false', ne_eq, Bool.not_eq_true, Bool.not_eq_false] at hd)
      · have hA0 : A ≠ [] := fun e => by subst e; simp at hd
        obtain ⟨A', z, rfl⟩ : ∃ A' z, A = A' ++ [z] := ⟨A.dropLast, A.getLast hA0, (List.dropLast_concat_getLast hA0).symm⟩
        have eL : (P ++ (A' ++ [z])) ++ x :: (B ++ (M.drop (m + 1) ++ R)) = (P ++ A') ++ z :: x :: (B ++ (M.drop (m + 1) ++ R)) := by simp
        rw [eL] at hr
        obtain ⟨g1, g2, g3⟩ := at_mid (Q := P ++ A') (z := z) (x := x) (T := B ++ (M.drop (m + 1) ++ R))
        have hlA : (P ++ A').length = P.length + A'.length := List.length_append ..
        have hl2 := congrArg List.length hAB
        simp only [List.length_append, List.length_singleton, hcl] at hl2 hd hq2 ⊢
        have hzM : z ∈ M := hcb m z (by rw [← hAB]; simp)
        have ix1 : ((P.length + (A'.length + 1) : Nat) : Int).toNat = (P ++ A').length + 1 := by rw [Int.toNat_natCast]; omega
        have ix0 : (((P.length + (A'.length + 1) : Nat) : Int) - 1).toNat = (P ++ A').length := by omega
        have lt1 : (P ++ A').length + 1 < ((P ++ A') ++ z :: x :: (B ++ (M.drop (m + 1) ++ R))).length := by simp only [List.length_append, List.length_cons]; omega
        rw [wr (n := ((P.length + (A'.length + 1) : Nat) : Int) - 1) (by omega) (by omega)]
        refine Rw.ix encC hr (by omega) (by rw [ix1]; exact lt1) fun a ha => ?_
        rw [ix1] at ha
        refine Rw.lda encC h i hsi hr ha g2 rfl ?_
        refine Rw.ix encC hr (by omega) (by rw [ix0]; omega) fun a2 ha2 => ?_
        rw [ix0] at ha2
        refine Rw.lda encC h i hsi hr ha2 g1 rfl ?_
        refine S_cmpC h (hb x hxm) (hb z hzM) fun w h => ?_
        refine it (fun he => ?_) (fun he => ?_) <;> (try simp only [decide_eq_true_eq, decide_eq_false_iff_not, beq_iff_eq, bne_iff_ne, beq_eq_false_iff_ne, bne_eq_false_iff_eq, Bool.not_eq_true', Bool.not_eq_false', ne_eq, Bool.not_eq_true, Bool.not_eq_false] at he)
        · refine dr h fun w h => ?_
          refine Rw.ix encC hr (by omega) (by rw [ix0]; omega) fun a3 ha3 => ?_
          rw [ix0] at ha3
          refine Rw.lda encC h i hsi hr ha3 g1 rfl ?_
          refine Rw.ix encC hr (by omega) (by rw [ix1]; exact lt1) fun a4 ha4 => ?_
          rw [ix1] at ha4
          refine Rw.lda encC h i hsi hr ha4 g2 rfl ?_
          refine Rw.ix encC hr (by omega) (by rw [ix1]; exact lt1) fun a5 ha5 => ?_
          rw [ix1] at ha5
          refine Rw.stC h i hsi hr ha5 lt1 z fun s1 w hr1 h => ?_
          have hs1 : nth (setN (setN E i s) i s1) i = some s1 := nth_put hsi
          refine Rw.ix encC hr1 (by omega) (by rw [ix0, List.length_set]; omega) fun a6 ha6 => ?_
          rw [ix0] at ha6
          refine Rw.stC h i hs1 hr1 ha6 (by rw [List.length_set]; omega) x fun s2 w hr2 h => ?_
          rw [g3] at hr2
          refine hag2 (q2 - 1) _ w (by omega) ⟨A', z :: B, s2, ?_, by omega, by simpa using hAB, ?_, by simpa using hr2, ?_⟩
          · congr 1; omega
          · intro y hy
            rcases List.mem_cons.1 hy with rfl | hy
            · omega
            · exact hB y hy
          · rwa [put_put, put_put] at h
        · refine stop (fun y hy => ?_) h
          rw [← hAB, List.pairwise_append] at hpw
          have hpw := hpw.1
          rw [List.pairwise_append] at hpw
          rcases List.mem_append.1 hy with hy | hy
          · have := hpw.2.2 y hy z (by simp); omega
          · simp at hy; subst hy; omega
      · have : A = [] := List.eq_nil_of_length_eq_zero (by omega)
        subst this
        exact stop (by simp) h
    · refine hag (q - 1) _ w (by omega) ⟨m + 1, s, ?_, by omega, by omega, hr, h⟩
      rw [wr (by omega) (by omega)]; congr 1
  · have e : M.drop m = [] := List.drop_eq_nil_of_le (by omega)
    have e2 : M.take m = M := List.take_of_length_le (by omega)
    rw [e, e2, List.nil_append] at hr
    exact ⟨(), rfl, hk s w hr h⟩
end Go.Proofs.YthmpbgloifdcnaaGreat
namespace Go.Proofs.YthmpbgloifdcnaaGreat
open Go.Dm
attribute [local irreducible] L.load L.store L.chk L.new L.nonnil L.guard L.ite L.draw L.idx L.sem L.semR L.semU L.chkSem L.next L.call L.callV L.join L.alts L.loop L.begin L.endRound L.range
variable {w0 w : World} {E : List Seg}
theorem S_sortC (h : St w0 E w) (i : Nat) {s : Seg} (hi : nth E i = some s) {v : Sl} {M : List (Int × Int)} (hr : Rw eC T_fleet_choice 2 v M s) (hn : M.length ≤ 20)
    (hb : ∀ x ∈ M, -4611686018427387904 < x.1 ∧ x.1 < 4611686018427387904) {k : Unit → PT} (hk : ∀ s' w', Rw eC T_fleet_choice 2 v (csort M) s' → St w0 (setN E i s') w' → k () w') :
    L.call Pr n_slices_SortStableFunc_fleet_choice_fleet_choice [.slice v.a v.len v.cap, cmpV] (.tup []) k w := by
  refine call_of (C_slices_SortStableFunc_fleet_choice_fleet_choice _ ⟨.func n_fleet_Fleet_Take_1, #[], #[]⟩) ?_
  unfold F_slices_SortStableFunc_fleet_choice_fleet_choice
  refine call_of (C_slices_stableCmpFunc_fleet_choice _ _ ⟨.func n_fleet_Fleet_Take_1, #[], #[]⟩) ?_
  unfold F_slices_stableCmpFunc_fleet_choice
  have hlen := Rw.len encC hr
  have hr0 : Rw eC T_fleet_choice 2 v ([] ++ (M ++ [])) s := by simpa using hr
  have fin : ∀ {s' w}, Rw eC T_fleet_choice 2 v (csort M) s' → St w0 (setN E i s') w → L.loop (Y := Int × Unit) (20, ()) (fun y5 again6 =>
      L.ite (decide (y5.1 < ((v.len : Nat) : Int))) (
        L.loop (Y := Int × Int × Unit) (0, IntKind.wrap .i64 (2 * y5.1), ()) fun y7 again8 =>
        L.ite (decide (y7.2.1 ≤ ((v.len : Nat) : Int))) (
          L.call Pr n_slices_symMergeCmpFunc_fleet_choice [.slice v.a v.len v.cap, .int .i64 y7.1, .int .i64 (IntKind.wrap .i64 (y7.1 + y5.1)), .int .i64 y7.2.1, cmpV] (.tup []) fun (x9 : Unit) =>
          again8 (y7.2.1, IntKind.wrap .i64 (y7.2.1 + (IntKind.wrap .i64 (2 * y5.1))), ())) <|
        L.join (Y := Unit) (fun k10 =>
          L.ite (decide ((IntKind.wrap .i64 (y7.1 + y5.1)) < ((v.len : Nat) : Int))) (
            L.call Pr n_slices_symMergeCmpFunc_fleet_choice [.slice v.a v.len v.cap, .int .i64 y7.1, .int .i64 (IntKind.wrap .i64 (y7.1 + y5.1)), .int .i64 ((v.len : Nat) : Int), cmpV] (.tup []) fun (x12 : Unit) =>
            k10 (())) <|
          k10 (())) fun z11 =>
        again6 (IntKind.wrap .i64 (y5.1 * 2), ())) <|
      fun w => ∃ x : Unit, Value.tuple #[] = RT.val (.tup []) x ∧ ∃ y : Unit, Value.tuple #[] = RT.val (.tup []) y ∧ k y w) w := by
    intro s' w hr h
    refine loop_of (fun q y w' => y = (20, ()) ∧ w' = w) 0 ⟨rfl, rfl⟩ ?_
    rintro q y w' ⟨rfl, rfl⟩ again hag
    refine itF (decide_eq_false (by dsimp only; omega)) ?_
    exact ⟨(), rfl, (), rfl, hk s' _ hr h⟩
  refine loop_of (fun q y w => (q = 1 ∧ y = (0, 20, ()) ∧ St w0 E w) ∨ (q = 0 ∧ y = (20, 40, ()) ∧ M.length = 20 ∧ ∃ s', Rw eC T_fleet_choice 2 v (csort M) s' ∧ St w0 (setN E i s') w)) 1 (.inl ⟨rfl, rfl, h⟩) ?_
  clear h
  rintro q y w (⟨rfl, rfl, h⟩ | ⟨rfl, rfl, h20, s', hr', h⟩) again hag <;> dsimp only
  · refine it (fun hc => ?_) (fun hc => ?_) <;> (try simp only [decide_eq_true_eq, decide_eq_false_iff_not, beq_iff_eq, bne_iff_ne, beq_eq_false_iff_ne, bne_eq_false_iff_eq, Bool.not_eq_true', Bool.not_eq_false', ne_eq, Bool.not_eq_true, Bool.not_eq_false] at hc)
    · refine S_insC (P := []) (M := M) (R := []) h i hi hr0 (by simp; omega) hb (by rfl) (by simp; omega) fun s' w hr' h => ?_
      rw [wr (by omega) (by omega)]
      exact hag 0 _ w (by omega) (.inr ⟨rfl, rfl, by omega, s', by simpa using hr', h⟩)
    · refine S_insC (P := []) (M := M) (R := []) h i hi hr0 (by simp; omega) hb (by rfl) (by simp; omega) fun s' w hr' h => ?_
      exact fin (by simpa using hr') h
  · refine itF (decide_eq_false (by omega)) ?_
    refine S_insC (P := csort M) (M := []) (R := []) h i (nth_put hi) (by simpa using hr') (by simp [csort_len]; omega) (by simp) (by rw [csort_len]; omega) (by rw [csort_len]; simp; omega) fun s' w hr' h => ?_
    rw [put_put] at h
    exact fin (by simpa [csort] using hr') h
theorem find_insC {p : Int × Int → Bool} {c : Int × Int} : ∀ {l : List (Int × Int)}, l.Pairwise (fun a b => a.1 ≤ b.1) →
    (insC c l).find? p = match l.find? p with | none => if p c = true then some c else none | some y => if p c = true ∧ c.1 < y.1 then some c else some y
  | [], _ => by by_cases h : p c = true <;> simp [insC, h]
  | y :: l, hp => by
    rw [List.pairwise_cons] at hp
    simp only [insC]
    split
    · rename_i hlt
      by_cases h : p c = true
      · rw [List.find?_cons_of_pos h]
        cases hf : (y :: l).find? p with
        | none => simp [h]
        | some z =>
          have hz : c.1 < z.1 := by
            rcases List.mem_cons.1 (List.mem_of_find?_eq_some hf) with rfl | hz
            · exact hlt
            · have := hp.1 z hz; omega
          simp [h, hz]
      · rw [List.find?_cons_of_neg h]
        cases hf : (y :: l).find? p <;> simp [h]
    · rename_i hlt
      by_cases hy : p y = true
      · rw [List.find?_cons_of_pos hy, List.find?_cons_of_pos hy]
        simp [hlt]
      · rw [List.find?_cons_of_neg hy, List.find?_cons_of_neg hy]
        exact find_insC hp.2
/-! ### a request for a revision -/
def can (x : AHeld) : Bool := decide (x.pod.st = 2 ∧ (x.pod.reqs.length : Int) < x.pod.conc)
def pickStep (b : Option AHeld) (x : AHeld) : Option AHeld := match b with
  | none => if can x = true then some x else none
  | some y => if can x = true ∧ x.pod.reqs.length < y.pod.reqs.length then some x else some y
def fPick (l : List AHeld) (rev : ByteArray) : Option AHeld := (revs l rev).foldl pickStep none
def key (x : AHeld) : Int × Int := (x.pod.reqs.length, x.id)
theorem find_pick {p : Int × Int → Bool} : ∀ (n : Nat) {R : List AHeld}, R.length = n → (∀ x ∈ R, p (key x) = can x) → (csort (R.map key)).find? p = (R.foldl pickStep none).map key
  | 0, R, hn, _ => by
    have := List.eq_nil_of_length_eq_zero hn
    subst this; rfl
  | n + 1, R, hn, h => by
    obtain ⟨R', x, rfl⟩ : ∃ R' x, R = R' ++ [x] := ⟨R.dropLast, R.getLast (by intro e; subst e; simp at hn), (List.dropLast_concat_getLast _).symm⟩
    have ih := find_pick (p := p) n (R := R') (by simpa using hn) fun y hy => h y (by simp [hy])
    have hx := h x (by simp)
    have e : csort ((R' ++ [x]).map key) = insC (key x) (csort (R'.map key)) := by simp [csort, List.foldl_append]
    rw [e, find_insC (csort_pw _), ih, List.foldl_append]
    simp only [List.foldl_cons, List.foldl_nil]
    cases R'.foldl pickStep none with
    | none => simp only [Option.map_none, pickStep, hx]; split <;> rfl
    | some y =>
      simp only [Option.map_some, pickStep, hx]
      by_cases hc : can x = true ∧ x.pod.reqs.length < y.pod.reqs.length
      · rw [if_pos hc, if_pos ⟨hc.1, by simp only [key]; omega⟩]; rfl
      · rw [if_neg hc, if_neg (fun hh => hc ⟨hh.1, by have := hh.2; simp only [key] at this; omega⟩)]; rfl
theorem AFleet.Ok.where_upd {F : AFleet} (ok : F.Ok) {id : Int} {x : AHeld} (hx : fFind F.l id = some x) (g : APod → APod) (hq : ∀ q ∈ (g x.pod).reqs, q ∈ x.pod.reqs ∨ fWhere F.l q = none)
    (h4 : (g x.pod).st = 4 → (g x.pod).reqs = []) (q : Int) : (fWhere (fUpd F.l id g) q).map (·.id) = if q ∈ (g x.pod).reqs then some id else if q ∈ x.pod.reqs then none else (fWhere F.l q).map (·.id) := by
  obtain ⟨hm, rfl⟩ := fFind_some hx
  obtain ⟨A, B, hl⟩ := List.append_of_mem hm
  have pw := ok.pw
  have once := ok.once
  have hno : fWhere F.l q = none → ∀ y ∈ A ++ x :: B, q ∉ y.pod.reqs := fun h => by rw [hl] at h; exact fWhere_none h
  have hq := hq q
  rw [hl] at pw once ⊢
  rw [List.pairwise_append, List.pairwise_cons] at once
  rw [fUpd_at pw]
  have hA : (q ∈ x.pod.reqs ∨ q ∈ (g x.pod).reqs) → ∀ y ∈ A, q ∉ y.pod.reqs := fun h y hy hqy => by
    have h : q ∈ x.pod.reqs ∨ fWhere F.l q = none := h.elim .inl fun h => hq h
    rcases h with h | h
    · exact once.2.2 y hy x (by simp) q hqy h
    · exact hno h y (by simp [hy]) hqy
  have hB : (q ∈ x.pod.reqs ∨ q ∈ (g x.pod).reqs) → ∀ y ∈ B, q ∉ y.pod.reqs := fun h y hy hqy => by
    have h : q ∈ x.pod.reqs ∨ fWhere F.l q = none := h.elim .inl fun h => hq h
    rcases h with h | h
    · exact once.2.1.1 y hy q h hqy
    · exact hno h y (by simp [hy]) hqy
  have fn : ∀ {l : List AHeld}, (∀ y ∈ l, q ∉ y.pod.reqs) → List.find? (fun x => decide (q ∈ x.pod.reqs)) l = none := fun h => by
    rw [List.find?_eq_none]; exact fun y hy => by simpa using h y hy
  unfold fWhere
  simp only [List.find?_append]
  by_cases h1 : q ∈ (g x.pod).reqs
  · rw [if_pos h1, fn (hA (.inr h1)), Option.none_or]
    have : (g x.pod).st ≠ 4 := fun e => by rw [h4 e] at h1; simp at h1
    rw [if_neg this, List.find?_cons_of_pos (by simpa using h1)]
    rfl
  · rw [if_neg h1]
    have hg : List.find? (fun x => decide (q ∈ x.pod.reqs)) (if (g x.pod).st = 4 then [] else [{ x with pod := g x.pod }]) = none := by
      split
      · rfl
      · rw [List.find?_cons_of_neg (by simpa using h1)]; rfl
    rw [hg, Option.none_or]
    by_cases h2 : q ∈ x.pod.reqs
    · rw [if_pos h2, fn (hA (.inl h2)), fn (hB (.inl h2))]; rfl
    · rw [if_neg h2, List.find?_cons_of_neg (by simpa using h2)]
end Go.Proofs.YthmpbgloifdcnaaGreat
namespace Go.Proofs.YthmpbgloifdcnaaGreat
open Go.Dm
attribute [local irreducible] L.load L.store L.chk L.new L.nonnil L.guard L.ite L.draw L.idx L.sem L.semR L.semU L.chkSem L.next L.call L.callV L.join L.alts L.loop L.begin L.endRound L.range
variable {w0 w : World} {E : List Seg}
def fTake (F : AFleet) (rev : ByteArray) (q : Int) : AFleet × Int × Bool :=
  if (fWhere F.l q).isSome then (F, 0, false) else match fPick F.l rev with
  | none => (F, 0, false)
  | some x => ({ F with l := fUpd F.l x.id fun p => (podTake p q).1 }, x.id, true)
theorem pick_ok : ∀ {R : List AHeld} {b x : Option AHeld}, R.foldl pickStep b = x → (∀ y, b = some y → can y = true) → ∀ y, x = some y → can y = true ∧ (y ∈ R ∨ b = some y)
  | [], b, x, h, hb, y, hy => by subst h; exact ⟨hb y hy, .inr hy⟩
  | z :: R, b, x, h, hb, y, hy => by
    rw [List.foldl_cons] at h
    have hz : ∀ y, pickStep b z = some y → can y = true ∧ (y = z ∨ b = some y) := by
      intro y hy
      unfold pickStep at hy
      cases b with
      | none => simp only at hy; split at hy <;> simp at hy; subst hy; exact ⟨by assumption, .inl rfl⟩
      | some u =>
        simp only at hy
        split at hy
        · simp at hy; subst hy; rename_i h; exact ⟨h.1, .inl rfl⟩
        · simp at hy; subst hy; exact ⟨hb u rfl, .inr rfl⟩
    have := pick_ok h (fun y hy => (hz y hy).1) y hy
    refine ⟨this.1, ?_⟩
    rcases this.2 with h | h
    · left; simp [h]
    · rcases (hz y h).2 with e | e
      · left; simp [e]
      · right; exact e
theorem pick_mem {l : List AHeld} {rev : ByteArray} {x : AHeld} (h : fPick l rev = some x) : x ∈ l ∧ x.rev = rev ∧ can x = true := by
  have := pick_ok h (by simp) x rfl
  rcases this.2 with h2 | h2
  · exact ⟨(List.mem_filter.1 h2).1, of_decide_eq_true (List.mem_filter.1 h2).2, this.1⟩
  · cases h2
theorem take_eq {x : AHeld} (hc : can x = true) {q : Int} (hq : q ∉ x.pod.reqs) : podTake x.pod q = ({ x.pod with reqs := insI q x.pod.reqs }, 0) := by
  have := of_decide_eq_true hc
  unfold podTake; rw [if_neg (by omega), if_neg hq, if_neg (by omega)]
theorem take_ne {x : AHeld} (hc : ¬ can x = true) {q : Int} (hq : q ∉ x.pod.reqs) : (podTake x.pod q).1 = x.pod ∧ (podTake x.pod q).2 ≠ 0 := by
  have : ¬ (x.pod.st = 2 ∧ (x.pod.reqs.length : Int) < x.pod.conc) := fun h => hc (decide_eq_true h)
  unfold podTake
  by_cases h : x.pod.st ≠ 2
  · rw [if_pos h]; exact ⟨rfl, by simp⟩
  · rw [if_neg h, if_neg hq, if_pos (by omega)]; exact ⟨rfl, by simp⟩
theorem csort_perm (l : List (Int × Int)) : (csort l).Perm l := by
  suffices ∀ (l a : List (Int × Int)), (l.foldl (fun a x => insC x a) a).Perm (a ++ l) from by simpa [csort] using this l []
  intro l
  induction l with
  | nil => intro a; simp
  | cons y l ih =>
    intro a
    refine (ih _).trans (((insC_perm y a).append_right l).trans ?_)
    exact (List.perm_middle (a := y) (l₁ := a) (l₂ := l)).symm
theorem fWhere_of {l : List AHeld} (once : l.Pairwise (fun x y => ∀ q ∈ x.pod.reqs, q ∉ y.pod.reqs)) {x : AHeld} (hx : x ∈ l) {q : Int} (hq : q ∈ x.pod.reqs) : fWhere l q = some x := by
  unfold fWhere
  induction l with
  | nil => simp at hx
  | cons y l ih =>
    rw [List.pairwise_cons] at once
    rcases List.mem_cons.1 hx with rfl | hx
    · rw [List.find?_cons_of_pos (by simpa using hq)]
    · rw [List.find?_cons_of_neg (by simpa using fun h => once.1 x hx q h hq)]
      exact ih once.2 hx
theorem fTake_ok {F : AFleet} (ok : F.Ok) (rev : ByteArray) (q : Int) : (fTake F rev q).1.Ok := by
  unfold fTake
  split
  · exact ok
  · rename_i hw
    split
    · exact ok
    · rename_i x hp
      obtain ⟨hx, -, hc⟩ := pick_mem hp
      have hn : fWhere F.l q = none := by cases h : fWhere F.l q <;> simp [h] at hw ⊢
      have ht := take_eq hc (fWhere_none hn x hx)
      have hcc := of_decide_eq_true hc
      refine ok.upd (fFind_of ok.pw hx) _ ?_ ?_
      · rw [ht]; simp only; omega
      · rw [ht]
        intro q2 h2
        rcases insI_mem.1 h2 with rfl | h2
        · exact .inr hn
        · exact .inl h2
theorem S_tTake (h : St w0 E w) (i : Nat) {A B : List Tr} {t : Tr} (hi : nth E i = some ((A ++ t :: B).map trS).flatten) (hp : PodS t.2.1 t.1.pod t.2.2) (hfew : t.1.pod.reqs.length < 10000000) {q : Int} {k : Int → PT}
    (hk : ∀ s' w', PodS t.2.1 (podTake t.1.pod q).1 s' → St w0 (setN E i ((A ++ ({ t.1 with pod := (podTake t.1.pod q).1 }, t.2.1, s') :: B).map trS).flatten) w' → k (podTake t.1.pod q).2 w') :
    L.call Pr n_pod_Pod_Take [.pointer (some ⟨t.2.1, 0, none⟩), I q] (.one (.one (.int .i64))) k w := by
  refine S_pTake (h.front i hi).pick 0 rfl hp hfew fun s' w hp' h => hk s' w hp' ?_
  have h : St w0 (trS ({ t.1 with pod := (podTake t.1.pod q).1 }, t.2.1, s') :: ((A ++ B).map trS).flatten :: delN E i) w := h
  exact St.back i hi h.place
theorem FlR.same {F : AFleet} {A B : List Tr} {t : Tr} {mA mW} (hr : FlR F (A ++ t :: B) mA mW) {s' : Seg} (hp : PodS t.2.1 t.1.pod s') : FlR F (A ++ (t.1, t.2.1, s') :: B) mA mW := by
  refine ⟨by rw [hr.l]; simp, fun y hy => ?_, by have := hr.all; simp only [List.map_append, List.map_cons] at this ⊢; exact this, hr.wth⟩
  rcases List.mem_append.1 hy with hy | hy
  · exact hr.ps y (by simp [hy])
  · rcases List.mem_cons.1 hy with rfl | hy
    · exact hp
    · exact hr.ps y (by simp [hy])
theorem FlR.getW {F : AFleet} {L : List Tr} {mA mW} (hr : FlR F L mA mW) (q : Int) : (mget mW q).isSome = (fWhere F.l q).isSome := by rw [hr.wth]; cases fWhere F.l q <;> rfl
theorem S_fTake (h : St w0 E w) (i : Nat) {b : Nat} {F : AFleet} {s : Seg} (hi : nth E i = some s) (hf : FlS b F s) {rev : ByteArray} {q : Int} (h20 : (revs F.l rev).length ≤ 20) (hfew : ∀ x ∈ F.l, x.pod.reqs.length < 10000000) {k : Int × Bool × Unit → PT}
    (hk : ∀ s' w', FlS b (fTake F rev q).1 s' → St w0 (setN E i s') w' → k ((fTake F rev q).2.1, (fTake F rev q).2.2, ()) w') :
    L.call Pr n_fleet_Fleet_Take [.pointer (some ⟨b, 0, none⟩), .string rev, I q] (.tup [.one (.int .i64), .one .bool]) k w := by
  have hf0 := hf
  obtain ⟨ok, rA, rW, mA, mW, sA, sW, L, hA, hW, hr, rfl⟩ := hf
  refine call_of (C_fleet_Fleet_Take _ _ _) ?_
  unfold F_fleet_Fleet_Take
  have hll : L.length = F.l.length := by rw [hr.l]; simp
  have hcount := ok.few
  have h : St w0 (flB b rA rW F :: sA :: sW :: (L.map trS).flatten :: delN E i) w := (h.front i hi).eq (by simp)
  (repeat (first | refine nn ?_ | (refine dr h ?_; clear h; (try clear w); intro w h) | refine ld0_ h rfl rfl ?_ | refine ld1_ h rfl rfl ?_ | refine ld2_ h rfl rfl ?_ | refine ld3_ h rfl rfl ?_ | refine ld4_ h rfl rfl ?_ | refine ld5_ h rfl rfl ?_ | refine ld6_ h rfl rfl ?_ | refine ld7_ h rfl rfl ?_ | refine ld8_ h rfl rfl ?_ | refine ld9_ h rfl rfl ?_ | refine ld10_ h rfl rfl ?_ | refine ld11_ h rfl rfl ?_ | refine la0_ h rfl ?_ | refine la1_ h rfl ?_ | refine la2_ h rfl ?_ | refine la3_ h rfl ?_ | refine la4_ h rfl ?_ | refine la5_ h rfl ?_ | refine la6_ h rfl ?_ | refine la7_ h rfl ?_ | refine la8_ h rfl ?_ | refine la9_ h rfl ?_ | refine la10_ h rfl ?_ | refine la11_ h rfl ?_ | refine ck0_ h rfl ?_ | refine ck1_ h rfl ?_ | refine ck2_ h rfl ?_ | refine ck3_ h rfl ?_ | refine ck4_ h rfl ?_ | refine ck5_ h rfl ?_ | refine ck6_ h rfl ?_ | refine ck7_ h rfl ?_ | refine ck8_ h rfl ?_ | refine ck9_ h rfl ?_ | refine ck10_ h rfl ?_ | refine ck11_ h rfl ?_ | ((first | refine st0_ h rfl rfl ?_ | refine st1_ h rfl rfl ?_ | refine st2_ h rfl rfl ?_ | refine st3_ h rfl rfl ?_ | refine st4_ h rfl rfl ?_ | refine st5_ h rfl rfl ?_ | refine st6_ h rfl rfl ?_ | refine st7_ h rfl rfl ?_ | refine st8_ h rfl rfl ?_ | refine st9_ h rfl rfl ?_ | refine st10_ h rfl rfl ?_ | refine st11_ h rfl rfl ?_); clear h; (try clear w); intro w h; (try dsimp only [putN, setN] at h))))
  refine MpS.get2 mkI und_map_i zi (fun x : Int => x) (fun _ => rfl) h 2 rfl hW ?_
  rw [hr.getW]
  refine it (fun hc => ?_) (fun hc => ?_) <;> (try simp only [decide_eq_true_eq, decide_eq_false_iff_not, beq_iff_eq, bne_iff_ne, beq_eq_false_iff_ne, bne_eq_false_iff_eq, Bool.not_eq_true', Bool.not_eq_false', ne_eq, Bool.not_eq_true, Bool.not_eq_false] at hc)
  · have e : fTake F rev q = (F, 0, false) := by unfold fTake; rw [if_pos hc]
    rw [e] at hk
    exact ⟨(0, false, ()), rfl, hk _ w hf0 (St.back i hi (h.eq (by simp)))⟩
  have hn : fWhere F.l q = none := by cases h : fWhere F.l q <;> simp [h] at hc ⊢
  have hno := fWhere_none hn
  refine nw h ?_; clear h; (try clear w); intro b4 w h
  refine S_of h fun c0 c1 w h => ?_
  have h := fr3_ (fr3_ (fr4_ (fr4_ h)))
  have h : St w0 ([[Cl c1 T_string [.string rev]], [Cl c0 T_p_fleet_Fleet [.pointer (some ⟨b, 0, none⟩)]], flB b rA rW F, sA] ++ [Cl b4 T_s_fleet_choice [SlV ⟨none, 0, 0⟩]] :: [] :: sW :: (L.map trS).flatten :: delN E i) w := h.eq (by simp)
  have hR := hr.revs rev
  have hlR : (L.filter (revP rev)).length ≤ 20 := by rw [hR, List.length_map] at h20; exact h20
  refine range_ofX (A := [_, _, _, _]) (Y_of ok hA hr) h (fun m G => ∃ v sv, Rw eC T_fleet_choice 2 v (((L.filter (revP rev)).take m).map fun t => key t.1) sv ∧ G = [Cl b4 T_s_fleet_choice [SlV v]] :: sv :: sW :: (L.map trS).flatten :: delN E i) (fun j G => False) ⟨_, _, Rw.nil, rfl⟩ ?_ ?_ ?_
  · rintro m G X w lv lp d R hm ⟨v, sv, hv, rfl⟩ h hN hE
    have hx := List.getElem?_eq_getElem hm
    have h : St w0 ([Rec lv lp .busy none] :: [DfM d] :: [Cl c1 T_string [.string rev]] :: [Cl c0 T_p_fleet_Fleet [.pointer (some ⟨b, 0, none⟩)]] :: flB b rA rW F :: sA :: [Cl b4 T_s_fleet_choice [SlV v]] :: sv :: sW :: (L.map trS).flatten :: (delN E i ++ X)) w := h
    rw [argO_at hm]
    dsimp only
    have hmem := lr_mem hm
    have hps := hr.ps _ hmem
    (repeat (first | refine nn ?_ | (refine dr h ?_; clear h; (try clear w); intro w h) | refine ld0_ h rfl rfl ?_ | refine ld1_ h rfl rfl ?_ | refine ld2_ h rfl rfl ?_ | refine ld3_ h rfl rfl ?_ | refine ld4_ h rfl rfl ?_ | refine ld5_ h rfl rfl ?_ | refine ld6_ h rfl rfl ?_ | refine ld7_ h rfl rfl ?_ | refine ld8_ h rfl rfl ?_ | refine ld9_ h rfl rfl ?_ | refine ld10_ h rfl rfl ?_ | refine ld11_ h rfl rfl ?_ | refine la0_ h rfl ?_ | refine la1_ h rfl ?_ | refine la2_ h rfl ?_ | refine la3_ h rfl ?_ | refine la4_ h rfl ?_ | refine la5_ h rfl ?_ | refine la6_ h rfl ?_ | refine la7_ h rfl ?_ | refine la8_ h rfl ?_ | refine la9_ h rfl ?_ | refine la10_ h rfl ?_ | refine la11_ h rfl ?_ | refine ck0_ h rfl ?_ | refine ck1_ h rfl ?_ | refine ck2_ h rfl ?_ | refine ck3_ h rfl ?_ | refine ck4_ h rfl ?_ | refine ck5_ h rfl ?_ | refine ck6_ h rfl ?_ | refine ck7_ h rfl ?_ | refine ck8_ h rfl ?_ | refine ck9_ h rfl ?_ | refine ck10_ h rfl ?_ | refine ck11_ h rfl ?_ | ((first | refine st0_ h rfl rfl ?_ | refine st1_ h rfl rfl ?_ | refine st2_ h rfl rfl ?_ | refine st3_ h rfl rfl ?_ | refine st4_ h rfl rfl ?_ | refine st5_ h rfl rfl ?_ | refine st6_ h rfl rfl ?_ | refine st7_ h rfl rfl ?_ | refine st8_ h rfl rfl ?_ | refine st9_ h rfl rfl ?_ | refine st10_ h rfl rfl ?_ | refine st11_ h rfl rfl ?_); clear h; (try clear w); intro w h; (try dsimp only [putN, setN] at h))))
    refine S_tLoad h 9 rfl hmem hps ?_
    (repeat (first | refine nn ?_ | (refine dr h ?_; clear h; (try clear w); intro w h) | refine ld0_ h rfl rfl ?_ | refine ld1_ h rfl rfl ?_ | refine ld2_ h rfl rfl ?_ | refine ld3_ h rfl rfl ?_ | refine ld4_ h rfl rfl ?_ | refine ld5_ h rfl rfl ?_ | refine ld6_ h rfl rfl ?_ | refine ld7_ h rfl rfl ?_ | refine ld8_ h rfl rfl ?_ | refine ld9_ h rfl rfl ?_ | refine ld10_ h rfl rfl ?_ | refine ld11_ h rfl rfl ?_ | refine la0_ h rfl ?_ | refine la1_ h rfl ?_ | refine la2_ h rfl ?_ | refine la3_ h rfl ?_ | refine la4_ h rfl ?_ | refine la5_ h rfl ?_ | refine la6_ h rfl ?_ | refine la7_ h rfl ?_ | refine la8_ h rfl ?_ | refine la9_ h rfl ?_ | refine la10_ h rfl ?_ | refine la11_ h rfl ?_ | refine ck0_ h rfl ?_ | refine ck1_ h rfl ?_ | refine ck2_ h rfl ?_ | refine ck3_ h rfl ?_ | refine ck4_ h rfl ?_ | refine ck5_ h rfl ?_ | refine ck6_ h rfl ?_ | refine ck7_ h rfl ?_ | refine ck8_ h rfl ?_ | refine ck9_ h rfl ?_ | refine ck10_ h rfl ?_ | refine ck11_ h rfl ?_ | ((first | refine st0_ h rfl rfl ?_ | refine st1_ h rfl rfl ?_ | refine st2_ h rfl rfl ?_ | refine st3_ h rfl rfl ?_ | refine st4_ h rfl rfl ?_ | refine st5_ h rfl rfl ?_ | refine st6_ h rfl rfl ?_ | refine st7_ h rfl rfl ?_ | refine st8_ h rfl rfl ?_ | refine st9_ h rfl rfl ?_ | refine st10_ h rfl rfl ?_ | refine st11_ h rfl rfl ?_); clear h; (try clear w); intro w h; (try dsimp only [putN, setN] at h))))
    refine nw h ?_; clear h; (try clear w); intro b11 w h
    (repeat (first | refine nn ?_ | (refine dr h ?_; clear h; (try clear w); intro w h) | refine ld0_ h rfl rfl ?_ | refine ld1_ h rfl rfl ?_ | refine ld2_ h rfl rfl ?_ | refine ld3_ h rfl rfl ?_ | refine ld4_ h rfl rfl ?_ | refine ld5_ h rfl rfl ?_ | refine ld6_ h rfl rfl ?_ | refine ld7_ h rfl rfl ?_ | refine ld8_ h rfl rfl ?_ | refine ld9_ h rfl rfl ?_ | refine ld10_ h rfl rfl ?_ | refine ld11_ h rfl rfl ?_ | refine la0_ h rfl ?_ | refine la1_ h rfl ?_ | refine la2_ h rfl ?_ | refine la3_ h rfl ?_ | refine la4_ h rfl ?_ | refine la5_ h rfl ?_ | refine la6_ h rfl ?_ | refine la7_ h rfl ?_ | refine la8_ h rfl ?_ | refine la9_ h rfl ?_ | refine la10_ h rfl ?_ | refine la11_ h rfl ?_ | refine ck0_ h rfl ?_ | refine ck1_ h rfl ?_ | refine ck2_ h rfl ?_ | refine ck3_ h rfl ?_ | refine ck4_ h rfl ?_ | refine ck5_ h rfl ?_ | refine ck6_ h rfl ?_ | refine ck7_ h rfl ?_ | refine ck8_ h rfl ?_ | refine ck9_ h rfl ?_ | refine ck10_ h rfl ?_ | refine ck11_ h rfl ?_ | ((first | refine st0_ h rfl rfl ?_ | refine st1_ h rfl rfl ?_ | refine st2_ h rfl rfl ?_ | refine st3_ h rfl rfl ?_ | refine st4_ h rfl rfl ?_ | refine st5_ h rfl rfl ?_ | refine st6_ h rfl rfl ?_ | refine st7_ h rfl rfl ?_ | refine st8_ h rfl rfl ?_ | refine st9_ h rfl rfl ?_ | refine st10_ h rfl rfl ?_ | refine st11_ h rfl rfl ?_); clear h; (try clear w); intro w h; (try dsimp only [putN, setN] at h))))
    refine Rw.app encC elC h 7 rfl hv (key (L.filter (revP rev))[m].1) rfl (by simp; omega) (by simp; omega) fun v' s' w hv h => ?_
    (repeat (first | refine nn ?_ | (refine dr h ?_; clear h; (try clear w); intro w h) | refine ld0_ h rfl rfl ?_ | refine ld1_ h rfl rfl ?_ | refine ld2_ h rfl rfl ?_ | refine ld3_ h rfl rfl ?_ | refine ld4_ h rfl rfl ?_ | refine ld5_ h rfl rfl ?_ | refine ld6_ h rfl rfl ?_ | refine ld7_ h rfl rfl ?_ | refine ld8_ h rfl rfl ?_ | refine ld9_ h rfl rfl ?_ | refine ld10_ h rfl rfl ?_ | refine ld11_ h rfl rfl ?_ | refine la0_ h rfl ?_ | refine la1_ h rfl ?_ | refine la2_ h rfl ?_ | refine la3_ h rfl ?_ | refine la4_ h rfl ?_ | refine la5_ h rfl ?_ | refine la6_ h rfl ?_ | refine la7_ h rfl ?_ | refine la8_ h rfl ?_ | refine la9_ h rfl ?_ | refine la10_ h rfl ?_ | refine la11_ h rfl ?_ | refine ck0_ h rfl ?_ | refine ck1_ h rfl ?_ | refine ck2_ h rfl ?_ | refine ck3_ h rfl ?_ | refine ck4_ h rfl ?_ | refine ck5_ h rfl ?_ | refine ck6_ h rfl ?_ | refine ck7_ h rfl ?_ | refine ck8_ h rfl ?_ | refine ck9_ h rfl ?_ | refine ck10_ h rfl ?_ | refine ck11_ h rfl ?_ | ((first | refine st0_ h rfl rfl ?_ | refine st1_ h rfl rfl ?_ | refine st2_ h rfl rfl ?_ | refine st3_ h rfl rfl ?_ | refine st4_ h rfl rfl ?_ | refine st5_ h rfl rfl ?_ | refine st6_ h rfl rfl ?_ | refine st7_ h rfl rfl ?_ | refine st8_ h rfl rfl ?_ | refine st9_ h rfl rfl ?_ | refine st10_ h rfl rfl ?_ | refine st11_ h rfl rfl ?_); clear h; (try clear w); intro w h; (try dsimp only [putN, setN] at h))))
    refine hN _ w ⟨v', s', ?_, rfl⟩ h
    rw [List.take_add_one, hx, List.map_append]; exact hv
  · rintro d G w ⟨v, sv, hv, rfl⟩ h
    have h : St w0 ([DfM d] :: [Cl c1 T_string [.string rev]] :: [Cl c0 T_p_fleet_Fleet [.pointer (some ⟨b, 0, none⟩)]] :: flB b rA rW F :: sA :: [Cl b4 T_s_fleet_choice [SlV v]] :: sv :: sW :: (L.map trS).flatten :: delN E i) w := h
    rw [List.take_length] at hv
    have e : (L.filter (revP rev)).map (fun t => key t.1) = (revs F.l rev).map key := by rw [hR, List.map_map]; rfl
    rw [e] at hv
    have h := dl1_ (dl2_ h)
    refine jumpN ?_
    (repeat (first | refine nn ?_ | (refine dr h ?_; clear h; (try clear w); intro w h) | refine ld0_ h rfl rfl ?_ | refine ld1_ h rfl rfl ?_ | refine ld2_ h rfl rfl ?_ | refine ld3_ h rfl rfl ?_ | refine ld4_ h rfl rfl ?_ | refine ld5_ h rfl rfl ?_ | refine ld6_ h rfl rfl ?_ | refine ld7_ h rfl rfl ?_ | refine ld8_ h rfl rfl ?_ | refine ld9_ h rfl rfl ?_ | refine ld10_ h rfl rfl ?_ | refine ld11_ h rfl rfl ?_ | refine la0_ h rfl ?_ | refine la1_ h rfl ?_ | refine la2_ h rfl ?_ | refine la3_ h rfl ?_ | refine la4_ h rfl ?_ | refine la5_ h rfl ?_ | refine la6_ h rfl ?_ | refine la7_ h rfl ?_ | refine la8_ h rfl ?_ | refine la9_ h rfl ?_ | refine la10_ h rfl ?_ | refine la11_ h rfl ?_ | refine ck0_ h rfl ?_ | refine ck1_ h rfl ?_ | refine ck2_ h rfl ?_ | refine ck3_ h rfl ?_ | refine ck4_ h rfl ?_ | refine ck5_ h rfl ?_ | refine ck6_ h rfl ?_ | refine ck7_ h rfl ?_ | refine ck8_ h rfl ?_ | refine ck9_ h rfl ?_ | refine ck10_ h rfl ?_ | refine ck11_ h rfl ?_ | ((first | refine st0_ h rfl rfl ?_ | refine st1_ h rfl rfl ?_ | refine st2_ h rfl rfl ?_ | refine st3_ h rfl rfl ?_ | refine st4_ h rfl rfl ?_ | refine st5_ h rfl rfl ?_ | refine st6_ h rfl rfl ?_ | refine st7_ h rfl rfl ?_ | refine st8_ h rfl rfl ?_ | refine st9_ h rfl rfl ?_ | refine st10_ h rfl rfl ?_ | refine st11_ h rfl rfl ?_); clear h; (try clear w); intro w h; (try dsimp only [putN, setN] at h))))
    refine S_sortC h 4 rfl hv (by rw [List.length_map]; exact h20) (fun c hc => by
      obtain ⟨x, hx, rfl⟩ := List.mem_map.1 hc
      have := hfew x (List.mem_filter.1 hx).1
      simp only [key]; omega) fun sv w hv h => ?_
    have hfp := find_pick (p := fun c => ((fFind F.l c.2).map can).getD false) _ (R := revs F.l rev) rfl fun x hx => by
      have := fFind_of ok.pw (List.mem_filter.1 hx).1
      show ((fFind F.l x.id).map can).getD false = _
      rw [this]; rfl
    have hcm : ∀ c ∈ csort ((revs F.l rev).map key), ∃ x ∈ F.l, c = key x := fun c hc => by
      obtain ⟨x, hx, rfl⟩ := List.mem_map.1 ((csort_perm _).mem_iff.1 hc)
      exact ⟨x, (List.mem_filter.1 hx).1, rfl⟩
    have hpk : fPick F.l rev = (revs F.l rev).foldl pickStep none := rfl
    rw [← hpk] at hfp
    have hcl : (csort ((revs F.l rev).map key)).length ≤ 20 := by rw [csort_len, List.length_map]; exact h20
    have hlv := Rw.len encC hv
    generalize csort ((revs F.l rev).map key) = cs at hv hfp hcm hcl hlv
    (repeat (first | refine nn ?_ | (refine dr h ?_; clear h; (try clear w); intro w h) | refine ld0_ h rfl rfl ?_ | refine ld1_ h rfl rfl ?_ | refine ld2_ h rfl rfl ?_ | refine ld3_ h rfl rfl ?_ | refine ld4_ h rfl rfl ?_ | refine ld5_ h rfl rfl ?_ | refine ld6_ h rfl rfl ?_ | refine ld7_ h rfl rfl ?_ | refine ld8_ h rfl rfl ?_ | refine ld9_ h rfl rfl ?_ | refine ld10_ h rfl rfl ?_ | refine ld11_ h rfl rfl ?_ | refine la0_ h rfl ?_ | refine la1_ h rfl ?_ | refine la2_ h rfl ?_ | refine la3_ h rfl ?_ | refine la4_ h rfl ?_ | refine la5_ h rfl ?_ | refine la6_ h rfl ?_ | refine la7_ h rfl ?_ | refine la8_ h rfl ?_ | refine la9_ h rfl ?_ | refine la10_ h rfl ?_ | refine la11_ h rfl ?_ | refine ck0_ h rfl ?_ | refine ck1_ h rfl ?_ | refine ck2_ h rfl ?_ | refine ck3_ h rfl ?_ | refine ck4_ h rfl ?_ | refine ck5_ h rfl ?_ | refine ck6_ h rfl ?_ | refine ck7_ h rfl ?_ | refine ck8_ h rfl ?_ | refine ck9_ h rfl ?_ | refine ck10_ h rfl ?_ | refine ck11_ h rfl ?_ | ((first | refine st0_ h rfl rfl ?_ | refine st1_ h rfl rfl ?_ | refine st2_ h rfl rfl ?_ | refine st3_ h rfl rfl ?_ | refine st4_ h rfl rfl ?_ | refine st5_ h rfl rfl ?_ | refine st6_ h rfl rfl ?_ | refine st7_ h rfl rfl ?_ | refine st8_ h rfl rfl ?_ | refine st9_ h rfl rfl ?_ | refine st10_ h rfl rfl ?_ | refine st11_ h rfl rfl ?_); clear h; (try clear w); intro w h; (try dsimp only [putN, setN] at h))))
    have h : St w0 ([DfM d] :: flB b rA rW F :: sA :: [Cl b4 T_s_fleet_choice [SlV v]] :: sv :: sW :: (L.map trS).flatten :: delN E i) w := h
    refine loop_of (fun p y w => ∃ (j : Nat) (L : List Tr), y = ((j : Int), ()) ∧ p + j = cs.length ∧ (∀ c ∈ cs.take j, ((fFind F.l c.2).map can).getD false = false) ∧ FlR F L mA mW ∧
      St w0 ([DfM d] :: flB b rA rW F :: sA :: [Cl b4 T_s_fleet_choice [SlV v]] :: sv :: sW :: (L.map trS).flatten :: delN E i) w) cs.length ⟨0, L, rfl, rfl, by simp, hr, h⟩ ?_
    clear hr hf0 hR hlR e hll
    clear h; (try clear w)
    rintro p y w ⟨j, L, rfl, hp, hfn, hr, h⟩ again hag
    dsimp only
    refine it (fun hc => ?_) (fun hc => ?_) <;> (try simp only [decide_eq_true_eq, decide_eq_false_iff_not, beq_iff_eq, bne_iff_ne, beq_eq_false_iff_ne, bne_eq_false_iff_eq, Bool.not_eq_true', Bool.not_eq_false', ne_eq, Bool.not_eq_true, Bool.not_eq_false] at hc)
    · have hj : j < cs.length := by omega
      have hxj : cs[j]? = some cs[j] := List.getElem?_eq_getElem hj
      have hdrop : cs = cs.take j ++ cs[j] :: cs.drop (j + 1) := by rw [← List.drop_eq_getElem_cons hj, List.take_append_drop]
      obtain ⟨x, hxl, hcx⟩ := hcm _ (List.getElem_mem hj)
      rw [hcx] at hxj hdrop
      have hfx := fFind_of ok.pw hxl
      obtain ⟨A, t, B, rfl, rfl, -⟩ := hr.at hfx
      have hg := hr.get ok (t := t) (by simp)
      have hps := hr.ps t (by simp)
      have hqx := hno t.1 hxl
      refine Rw.ix encC hv (by omega) (by simpa using hj) fun a ha => ?_
      rw [Int.toNat_natCast] at ha
      refine Rw.lda encC h 4 rfl hv ha hxj rfl ?_
      refine nw h ?_; clear h; (try clear w); intro b22 w h
      (repeat (first | refine nn ?_ | (refine dr h ?_; clear h; (try clear w); intro w h) | refine ld0_ h rfl rfl ?_ | refine ld1_ h rfl rfl ?_ | refine ld2_ h rfl rfl ?_ | refine ld3_ h rfl rfl ?_ | refine ld4_ h rfl rfl ?_ | refine ld5_ h rfl rfl ?_ | refine ld6_ h rfl rfl ?_ | refine ld7_ h rfl rfl ?_ | refine ld8_ h rfl rfl ?_ | refine ld9_ h rfl rfl ?_ | refine ld10_ h rfl rfl ?_ | refine ld11_ h rfl rfl ?_ | refine la0_ h rfl ?_ | refine la1_ h rfl ?_ | refine la2_ h rfl ?_ | refine la3_ h rfl ?_ | refine la4_ h rfl ?_ | refine la5_ h rfl ?_ | refine la6_ h rfl ?_ | refine la7_ h rfl ?_ | refine la8_ h rfl ?_ | refine la9_ h rfl ?_ | refine la10_ h rfl ?_ | refine la11_ h rfl ?_ | refine ck0_ h rfl ?_ | refine ck1_ h rfl ?_ | refine ck2_ h rfl ?_ | refine ck3_ h rfl ?_ | refine ck4_ h rfl ?_ | refine ck5_ h rfl ?_ | refine ck6_ h rfl ?_ | refine ck7_ h rfl ?_ | refine ck8_ h rfl ?_ | refine ck9_ h rfl ?_ | refine ck10_ h rfl ?_ | refine ck11_ h rfl ?_ | ((first | refine st0_ h rfl rfl ?_ | refine st1_ h rfl rfl ?_ | refine st2_ h rfl rfl ?_ | refine st3_ h rfl rfl ?_ | refine st4_ h rfl rfl ?_ | refine st5_ h rfl rfl ?_ | refine st6_ h rfl rfl ?_ | refine st7_ h rfl rfl ?_ | refine st8_ h rfl rfl ?_ | refine st9_ h rfl rfl ?_ | refine st10_ h rfl rfl ?_ | refine st11_ h rfl rfl ?_); clear h; (try clear w); intro w h; (try dsimp only [putN, setN] at h))))
      refine MpS.get mkI und_map_o zo (fun x : ByteArray × Option Addr => (x.1, x.2, ())) (fun _ => rfl) h 3 rfl hA ?_
      rw [show mget mA (key t.1).2 = _ from hg]
      simp only [Option.map_some, Option.getD_some]
      refine S_tTake h 7 rfl hps (hfew _ hxl) fun s' w hps' h => ?_
      by_cases hcan : can t.1 = true
      · have ht := take_eq hcan hqx
        refine itT (by rw [ht]; rfl) ?_
        have hfd : fPick F.l rev = some t.1 := by
          have : cs.find? (fun c => ((fFind F.l c.2).map can).getD false) = some (key t.1) := by
            rw [hdrop, List.find?_append, List.find?_cons_of_pos (by show ((fFind F.l t.1.id).map can).getD false = true; rw [hfx]; exact hcan)]
            rw [List.find?_eq_none.2 (fun c hc => by rw [hfn c hc]; simp)]
            rfl
          rw [this] at hfp
          cases hpk : fPick F.l rev with
          | none => rw [hpk] at hfp; cases hfp
          | some y =>
            rw [hpk] at hfp
            have hid : y.id = t.1.id := by simp only [Option.map_some, Option.some.injEq, key, Prod.mk.injEq] at hfp; exact hfp.2.symm
            have h1 := fFind_of ok.pw (pick_mem hpk).1
            rw [hid, hfx] at h1
            exact h1.symm
        have e : fTake F rev q = ({ F with l := fUpd F.l t.1.id fun p => (podTake p q).1 }, t.1.id, true) := by
          unfold fTake; rw [hn, hfd]; rfl
        have okT := fTake_ok ok rev q
        rw [e] at hk okT
        have hrq : (podTake t.1.pod q).1.reqs = insI q t.1.pod.reqs := by rw [ht]
        have hst : (podTake t.1.pod q).1.st ≠ 4 := by rw [ht]; have := of_decide_eq_true hcan; simp only; omega
        (repeat (first | refine nn ?_ | (refine dr h ?_; clear h; (try clear w); intro w h) | refine ld0_ h rfl rfl ?_ | refine ld1_ h rfl rfl ?_ | refine ld2_ h rfl rfl ?_ | refine ld3_ h rfl rfl ?_ | refine ld4_ h rfl rfl ?_ | refine ld5_ h rfl rfl ?_ | refine ld6_ h rfl rfl ?_ | refine ld7_ h rfl rfl ?_ | refine ld8_ h rfl rfl ?_ | refine ld9_ h rfl rfl ?_ | refine ld10_ h rfl rfl ?_ | refine ld11_ h rfl rfl ?_ | refine la0_ h rfl ?_ | refine la1_ h rfl ?_ | refine la2_ h rfl ?_ | refine la3_ h rfl ?_ | refine la4_ h rfl ?_ | refine la5_ h rfl ?_ | refine la6_ h rfl ?_ | refine la7_ h rfl ?_ | refine la8_ h rfl ?_ | refine la9_ h rfl ?_ | refine la10_ h rfl ?_ | refine la11_ h rfl ?_ | refine ck0_ h rfl ?_ | refine ck1_ h rfl ?_ | refine ck2_ h rfl ?_ | refine ck3_ h rfl ?_ | refine ck4_ h rfl ?_ | refine ck5_ h rfl ?_ | refine ck6_ h rfl ?_ | refine ck7_ h rfl ?_ | refine ck8_ h rfl ?_ | refine ck9_ h rfl ?_ | refine ck10_ h rfl ?_ | refine ck11_ h rfl ?_ | ((first | refine st0_ h rfl rfl ?_ | refine st1_ h rfl rfl ?_ | refine st2_ h rfl rfl ?_ | refine st3_ h rfl rfl ?_ | refine st4_ h rfl rfl ?_ | refine st5_ h rfl rfl ?_ | refine st6_ h rfl rfl ?_ | refine st7_ h rfl rfl ?_ | refine st8_ h rfl rfl ?_ | refine st9_ h rfl rfl ?_ | refine st10_ h rfl rfl ?_ | refine st11_ h rfl rfl ?_); clear h; (try clear w); intro w h; (try dsimp only [putN, setN] at h))))
        refine MpS.set mkI und_map_i h 6 rfl hW t.1.id rfl fun sW' w hW' h => ?_
        (repeat (first | refine nn ?_ | (refine dr h ?_; clear h; (try clear w); intro w h) | refine ld0_ h rfl rfl ?_ | refine ld1_ h rfl rfl ?_ | refine ld2_ h rfl rfl ?_ | refine ld3_ h rfl rfl ?_ | refine ld4_ h rfl rfl ?_ | refine ld5_ h rfl rfl ?_ | refine ld6_ h rfl rfl ?_ | refine ld7_ h rfl rfl ?_ | refine ld8_ h rfl rfl ?_ | refine ld9_ h rfl rfl ?_ | refine ld10_ h rfl rfl ?_ | refine ld11_ h rfl rfl ?_ | refine la0_ h rfl ?_ | refine la1_ h rfl ?_ | refine la2_ h rfl ?_ | refine la3_ h rfl ?_ | refine la4_ h rfl ?_ | refine la5_ h rfl ?_ | refine la6_ h rfl ?_ | refine la7_ h rfl ?_ | refine la8_ h rfl ?_ | refine la9_ h rfl ?_ | refine la10_ h rfl ?_ | refine la11_ h rfl ?_ | refine ck0_ h rfl ?_ | refine ck1_ h rfl ?_ | refine ck2_ h rfl ?_ | refine ck3_ h rfl ?_ | refine ck4_ h rfl ?_ | refine ck5_ h rfl ?_ | refine ck6_ h rfl ?_ | refine ck7_ h rfl ?_ | refine ck8_ h rfl ?_ | refine ck9_ h rfl ?_ | refine ck10_ h rfl ?_ | refine ck11_ h rfl ?_ | ((first | refine st0_ h rfl rfl ?_ | refine st1_ h rfl rfl ?_ | refine st2_ h rfl rfl ?_ | refine st3_ h rfl rfl ?_ | refine st4_ h rfl rfl ?_ | refine st5_ h rfl rfl ?_ | refine st6_ h rfl rfl ?_ | refine st7_ h rfl rfl ?_ | refine st8_ h rfl rfl ?_ | refine st9_ h rfl rfl ?_ | refine st10_ h rfl rfl ?_ | refine st11_ h rfl rfl ?_); clear h; (try clear w); intro w h; (try dsimp only [putN, setN] at h))))
        (first | refine um0_ h ?_ | refine um1_ h ?_ | refine um2_ h ?_ | refine um3_ h ?_ | refine um4_ h ?_ | refine um5_ h ?_ | refine um6_ h ?_ | refine um7_ h ?_ | refine um8_ h ?_ | refine um9_ h ?_ | refine um10_ h ?_ | refine um11_ h ?_); clear h; (try clear w); intro w h
        refine ⟨(t.1.id, true, ()), rfl, hk _ w ⟨okT, rA, rW, mA, _, sA, sW', _, hA, hW', hr.upd ok (fun p => (podTake p q).1) hps' hst fun q' => ?_, rfl⟩ ?_⟩
        · rw [mget_mset, ok.where_upd hfx _ (fun q2 h2 => by
            rw [hrq] at h2
            rcases insI_mem.1 h2 with rfl | h2
            · exact .inr hn
            · exact .inl h2) (fun h4 => absurd h4 hst), hrq]
          by_cases eq : q = q'
          · subst eq; rw [if_pos rfl, if_pos (insI_mem.2 (.inl rfl))]
          · rw [if_neg eq]
            by_cases hq2 : q' ∈ t.1.pod.reqs
            · rw [if_pos (insI_mem.2 (.inr hq2)), hr.wth, fWhere_of ok.once hxl hq2]; rfl
            · rw [if_neg (fun hh => (insI_mem.1 hh).elim (fun e => eq e.symm) hq2), if_neg hq2, hr.wth]
        · refine St.back i hi ?_
          dsimp only [setN] at h
          have h := dl0_ (dl3_ (dl4_ h))
          exact h.eq (by simp)
      · have ht := take_ne hcan hqx
        refine itF (by simpa using ht.2) ?_
        rw [ht.1] at hps'
        have h := dl0_ h
        refine hag (p - 1) _ w (by omega) ⟨j + 1, A ++ (t.1, t.2.1, s') :: B, ?_, by omega, ?_, hr.same hps', ?_⟩
        · rw [wr (by omega) (by omega)]; simp
        · intro c hc
          rw [List.take_add_one, hxj] at hc
          rcases List.mem_append.1 hc with hc | hc
          · exact hfn c hc
          · simp at hc; subst hc
            show ((fFind F.l t.1.id).map can).getD false = false
            rw [hfx]; simpa using hcan
        · have h : St w0 ([DfM d] :: flB b rA rW F :: sA :: [Cl b4 T_s_fleet_choice [SlV v]] :: sv :: sW :: ((A ++ ({ t.1 with pod := (podTake t.1.pod q).1 }, t.2.1, s') :: B).map trS).flatten :: delN E i) w := h
          rw [ht.1] at h
          exact h
    · have hj : j = cs.length := by omega
      subst hj
      rw [List.take_length] at hfn
      have hfd : fPick F.l rev = none := by
        rw [List.find?_eq_none.2 (fun c hc => by rw [hfn c hc]; simp)] at hfp
        cases hpk : fPick F.l rev with
        | none => rfl
        | some y => rw [hpk] at hfp; cases hfp
      have e : fTake F rev q = (F, 0, false) := by unfold fTake; rw [hn, hfd]; rfl
      rw [e] at hk
      (first | refine um0_ h ?_ | refine um1_ h ?_ | refine um2_ h ?_ | refine um3_ h ?_ | refine um4_ h ?_ | refine um5_ h ?_ | refine um6_ h ?_ | refine um7_ h ?_ | refine um8_ h ?_ | refine um9_ h ?_ | refine um10_ h ?_ | refine um11_ h ?_); clear h; (try clear w); intro w h
      refine ⟨(0, false, ()), rfl, hk _ w ⟨ok, rA, rW, mA, mW, sA, sW, L, hA, hW, hr, rfl⟩ (St.back i hi ?_)⟩
      have h := dl2_ (dl3_ h)
      exact h.eq (by simp)
  · rintro d j G w hf; exact hf.elim
end Go.Proofs.YthmpbgloifdcnaaGreat
namespace Go.Proofs.YthmpbgloifdcnaaGreat
open Go.Dm
attribute [local irreducible] L.load L.store L.chk L.new L.nonnil L.guard L.ite L.draw L.idx L.sem L.semR L.semU L.chkSem L.next L.call L.callV L.join L.alts L.loop L.begin L.endRound L.range
variable {w0 w : World} {E : List Seg}
def fGive (F : AFleet) (q : Int) : AFleet × ByteArray × Int := match fWhere F.l q with
  | none => (F, s_, 6)
  | some x => ({ F with l := fUpd F.l x.id fun p => (podGive p q).1 }, x.rev, 0)
def fKill (F : AFleet) (id : Int) : AFleet × List Int × Int := match fFind F.l id with
  | none => (F, [], 6)
  | some x => ({ F with l := fUpd F.l id fun p => (podKill p).1 }, x.pod.reqs, 0)
theorem fWhere_some {l : List AHeld} {q : Int} {x : AHeld} (h : fWhere l q = some x) : x ∈ l ∧ q ∈ x.pod.reqs := ⟨List.mem_of_find?_eq_some h, by simpa using List.find?_some h⟩
theorem give_eq {p : APod} {q : Int} (h : q ∈ p.reqs) : podGive p q = ({ p with reqs := p.reqs.erase q, st := if p.st = 3 ∧ p.reqs.erase q = [] then 4 else p.st }, 0) := by
  unfold podGive; rw [if_pos h]
theorem kill_eq {p : APod} (h : p.st ≠ 4) : podKill p = ({ p with st := 4, reqs := [] }, p.reqs, 0) := by
  unfold podKill; rw [if_neg h]
theorem S_tGive (h : St w0 E w) (i : Nat) {A B : List Tr} {t : Tr} (hi : nth E i = some ((A ++ t :: B).map trS).flatten) (hp : PodS t.2.1 t.1.pod t.2.2) {q : Int} {k : Int → PT}
    (hk : ∀ s' w', PodS t.2.1 (podGive t.1.pod q).1 s' → St w0 (setN E i ((A ++ ({ t.1 with pod := (podGive t.1.pod q).1 }, t.2.1, s') :: B).map trS).flatten) w' → k (podGive t.1.pod q).2 w') :
    L.call Pr n_pod_Pod_Give [.pointer (some ⟨t.2.1, 0, none⟩), I q] (.one (.one (.int .i64))) k w := by
  refine S_pGive (h.front i hi).pick 0 rfl hp fun s' w hp' h => hk s' w hp' ?_
  have h : St w0 (trS ({ t.1 with pod := (podGive t.1.pod q).1 }, t.2.1, s') :: ((A ++ B).map trS).flatten :: delN E i) w := h
  exact St.back i hi h.place
theorem S_fGive (h : St w0 E w) (i : Nat) {b : Nat} {F : AFleet} {s : Seg} (hi : nth E i = some s) (hf : FlS b F s) {q : Int} {k : ByteArray × Int × Unit → PT}
    (hk : ∀ s' w', FlS b (fGive F q).1 s' → St w0 (setN E i s') w' → k ((fGive F q).2.1, (fGive F q).2.2, ()) w') :
    L.call Pr n_fleet_Fleet_Give [.pointer (some ⟨b, 0, none⟩), I q] (.tup [.one .str, .one (.int .i64)]) k w := by
  have hf0 := hf
  obtain ⟨ok, rA, rW, mA, mW, sA, sW, L, hA, hW, hr, rfl⟩ := hf
  refine call_of (C_fleet_Fleet_Give _ _) ?_
  unfold F_fleet_Fleet_Give
  have h : St w0 (flB b rA rW F :: sA :: sW :: (L.map trS).flatten :: delN E i) w := (h.front i hi).eq (by simp)
  (repeat (first | refine nn ?_ | (refine dr h ?_; clear h; (try clear w); intro w h) | refine ld0_ h rfl rfl ?_ | refine ld1_ h rfl rfl ?_ | refine ld2_ h rfl rfl ?_ | refine ld3_ h rfl rfl ?_ | refine ld4_ h rfl rfl ?_ | refine ld5_ h rfl rfl ?_ | refine ld6_ h rfl rfl ?_ | refine ld7_ h rfl rfl ?_ | refine ld8_ h rfl rfl ?_ | refine ld9_ h rfl rfl ?_ | refine ld10_ h rfl rfl ?_ | refine ld11_ h rfl rfl ?_ | refine la0_ h rfl ?_ | refine la1_ h rfl ?_ | refine la2_ h rfl ?_ | refine la3_ h rfl ?_ | refine la4_ h rfl ?_ | refine la5_ h rfl ?_ | refine la6_ h rfl ?_ | refine la7_ h rfl ?_ | refine la8_ h rfl ?_ | refine la9_ h rfl ?_ | refine la10_ h rfl ?_ | refine la11_ h rfl ?_ | refine ck0_ h rfl ?_ | refine ck1_ h rfl ?_ | refine ck2_ h rfl ?_ | refine ck3_ h rfl ?_ | refine ck4_ h rfl ?_ | refine ck5_ h rfl ?_ | refine ck6_ h rfl ?_ | refine ck7_ h rfl ?_ | refine ck8_ h rfl ?_ | refine ck9_ h rfl ?_ | refine ck10_ h rfl ?_ | refine ck11_ h rfl ?_ | ((first | refine st0_ h rfl rfl ?_ | refine st1_ h rfl rfl ?_ | refine st2_ h rfl rfl ?_ | refine st3_ h rfl rfl ?_ | refine st4_ h rfl rfl ?_ | refine st5_ h rfl rfl ?_ | refine st6_ h rfl rfl ?_ | refine st7_ h rfl rfl ?_ | refine st8_ h rfl rfl ?_ | refine st9_ h rfl rfl ?_ | refine st10_ h rfl rfl ?_ | refine st11_ h rfl rfl ?_); clear h; (try clear w); intro w h; (try dsimp only [putN, setN] at h))))
  refine MpS.get2 mkI und_map_i zi (fun x : Int => x) (fun _ => rfl) h 2 rfl hW ?_
  have hwt := hr.wth q
  cases hfw : fWhere F.l q with
  | none =>
    rw [hfw] at hwt
    rw [hwt]
    have e : fGive F q = (F, s_, 6) := by unfold fGive; rw [hfw]
    rw [e] at hk
    refine itT rfl ?_
    exact ⟨(s_, 6, ()), rfl, hk _ w hf0 (St.back i hi (h.eq (by simp)))⟩
  | some x =>
    rw [hfw] at hwt
    rw [hwt]
    refine itF rfl ?_
    obtain ⟨hxl, hqx⟩ := fWhere_some hfw
    have hfx := fFind_of ok.pw hxl
    have e : fGive F q = ({ F with l := fUpd F.l x.id fun p => (podGive p q).1 }, x.rev, 0) := by unfold fGive; rw [hfw]
    rw [e] at hk
    obtain ⟨A, t, B, rfl, rfl, -⟩ := hr.at hfx
    have hg := hr.get ok (t := t) (by simp)
    have hps := hr.ps t (by simp)
    simp only [Option.map_some, Option.getD_some]
    (repeat (first | refine nn ?_ | (refine dr h ?_; clear h; (try clear w); intro w h) | refine ld0_ h rfl rfl ?_ | refine ld1_ h rfl rfl ?_ | refine ld2_ h rfl rfl ?_ | refine ld3_ h rfl rfl ?_ | refine ld4_ h rfl rfl ?_ | refine ld5_ h rfl rfl ?_ | refine ld6_ h rfl rfl ?_ | refine ld7_ h rfl rfl ?_ | refine ld8_ h rfl rfl ?_ | refine ld9_ h rfl rfl ?_ | refine ld10_ h rfl rfl ?_ | refine ld11_ h rfl rfl ?_ | refine la0_ h rfl ?_ | refine la1_ h rfl ?_ | refine la2_ h rfl ?_ | refine la3_ h rfl ?_ | refine la4_ h rfl ?_ | refine la5_ h rfl ?_ | refine la6_ h rfl ?_ | refine la7_ h rfl ?_ | refine la8_ h rfl ?_ | refine la9_ h rfl ?_ | refine la10_ h rfl ?_ | refine la11_ h rfl ?_ | refine ck0_ h rfl ?_ | refine ck1_ h rfl ?_ | refine ck2_ h rfl ?_ | refine ck3_ h rfl ?_ | refine ck4_ h rfl ?_ | refine ck5_ h rfl ?_ | refine ck6_ h rfl ?_ | refine ck7_ h rfl ?_ | refine ck8_ h rfl ?_ | refine ck9_ h rfl ?_ | refine ck10_ h rfl ?_ | refine ck11_ h rfl ?_ | ((first | refine st0_ h rfl rfl ?_ | refine st1_ h rfl rfl ?_ | refine st2_ h rfl rfl ?_ | refine st3_ h rfl rfl ?_ | refine st4_ h rfl rfl ?_ | refine st5_ h rfl rfl ?_ | refine st6_ h rfl rfl ?_ | refine st7_ h rfl rfl ?_ | refine st8_ h rfl rfl ?_ | refine st9_ h rfl rfl ?_ | refine st10_ h rfl rfl ?_ | refine st11_ h rfl rfl ?_); clear h; (try clear w); intro w h; (try dsimp only [putN, setN] at h))))
    refine MpS.get mkI und_map_o zo (fun x : ByteArray × Option Addr => (x.1, x.2, ())) (fun _ => rfl) h 1 rfl hA ?_
    rw [hg]
    simp only [Option.map_some, Option.getD_some]
    refine nw h ?_; clear h; (try clear w); intro b7 w h
    (repeat (first | refine nn ?_ | (refine dr h ?_; clear h; (try clear w); intro w h) | refine ld0_ h rfl rfl ?_ | refine ld1_ h rfl rfl ?_ | refine ld2_ h rfl rfl ?_ | refine ld3_ h rfl rfl ?_ | refine ld4_ h rfl rfl ?_ | refine ld5_ h rfl rfl ?_ | refine ld6_ h rfl rfl ?_ | refine ld7_ h rfl rfl ?_ | refine ld8_ h rfl rfl ?_ | refine ld9_ h rfl rfl ?_ | refine ld10_ h rfl rfl ?_ | refine ld11_ h rfl rfl ?_ | refine la0_ h rfl ?_ | refine la1_ h rfl ?_ | refine la2_ h rfl ?_ | refine la3_ h rfl ?_ | refine la4_ h rfl ?_ | refine la5_ h rfl ?_ | refine la6_ h rfl ?_ | refine la7_ h rfl ?_ | refine la8_ h rfl ?_ | refine la9_ h rfl ?_ | refine la10_ h rfl ?_ | refine la11_ h rfl ?_ | refine ck0_ h rfl ?_ | refine ck1_ h rfl ?_ | refine ck2_ h rfl ?_ | refine ck3_ h rfl ?_ | refine ck4_ h rfl ?_ | refine ck5_ h rfl ?_ | refine ck6_ h rfl ?_ | refine ck7_ h rfl ?_ | refine ck8_ h rfl ?_ | refine ck9_ h rfl ?_ | refine ck10_ h rfl ?_ | refine ck11_ h rfl ?_ | ((first | refine st0_ h rfl rfl ?_ | refine st1_ h rfl rfl ?_ | refine st2_ h rfl rfl ?_ | refine st3_ h rfl rfl ?_ | refine st4_ h rfl rfl ?_ | refine st5_ h rfl rfl ?_ | refine st6_ h rfl rfl ?_ | refine st7_ h rfl rfl ?_ | refine st8_ h rfl rfl ?_ | refine st9_ h rfl rfl ?_ | refine st10_ h rfl rfl ?_ | refine st11_ h rfl rfl ?_); clear h; (try clear w); intro w h; (try dsimp only [putN, setN] at h))))
    refine S_tGive h 4 rfl hps fun s' w hps' h => ?_
    dsimp only [setN] at h
    (repeat (first | refine nn ?_ | (refine dr h ?_; clear h; (try clear w); intro w h) | refine ld0_ h rfl rfl ?_ | refine ld1_ h rfl rfl ?_ | refine ld2_ h rfl rfl ?_ | refine ld3_ h rfl rfl ?_ | refine ld4_ h rfl rfl ?_ | refine ld5_ h rfl rfl ?_ | refine ld6_ h rfl rfl ?_ | refine ld7_ h rfl rfl ?_ | refine ld8_ h rfl rfl ?_ | refine ld9_ h rfl rfl ?_ | refine ld10_ h rfl rfl ?_ | refine ld11_ h rfl rfl ?_ | refine la0_ h rfl ?_ | refine la1_ h rfl ?_ | refine la2_ h rfl ?_ | refine la3_ h rfl ?_ | refine la4_ h rfl ?_ | refine la5_ h rfl ?_ | refine la6_ h rfl ?_ | refine la7_ h rfl ?_ | refine la8_ h rfl ?_ | refine la9_ h rfl ?_ | refine la10_ h rfl ?_ | refine la11_ h rfl ?_ | refine ck0_ h rfl ?_ | refine ck1_ h rfl ?_ | refine ck2_ h rfl ?_ | refine ck3_ h rfl ?_ | refine ck4_ h rfl ?_ | refine ck5_ h rfl ?_ | refine ck6_ h rfl ?_ | refine ck7_ h rfl ?_ | refine ck8_ h rfl ?_ | refine ck9_ h rfl ?_ | refine ck10_ h rfl ?_ | refine ck11_ h rfl ?_ | ((first | refine st0_ h rfl rfl ?_ | refine st1_ h rfl rfl ?_ | refine st2_ h rfl rfl ?_ | refine st3_ h rfl rfl ?_ | refine st4_ h rfl rfl ?_ | refine st5_ h rfl rfl ?_ | refine st6_ h rfl rfl ?_ | refine st7_ h rfl rfl ?_ | refine st8_ h rfl rfl ?_ | refine st9_ h rfl rfl ?_ | refine st10_ h rfl rfl ?_ | refine st11_ h rfl rfl ?_); clear h; (try clear w); intro w h; (try dsimp only [putN, setN] at h))))
    refine MpS.del mkI und_map_i h 3 rfl hW fun sW' w hW' h => ?_
    dsimp only [setN] at h
    have hgv := give_eq hqx
    have hlv := ok.live t.1 hxl
    have hnd : t.1.pod.reqs.Nodup := hps.1.pw.imp fun h => by omega
    have hrq : (podGive t.1.pod q).1.reqs = t.1.pod.reqs.erase q := by rw [hgv]
    have hq2 : ∀ q2 ∈ (podGive t.1.pod q).1.reqs, q2 ∈ t.1.pod.reqs ∨ fWhere F.l q2 = none := fun q2 h2 => .inl (by rw [hrq] at h2; exact List.mem_of_mem_erase h2)
    have h4 : (podGive t.1.pod q).1.st = 4 → (podGive t.1.pod q).1.reqs = [] := by
      rw [hgv]; simp only; split
      · rename_i h; exact fun _ => h.2
      · intro h; omega
    have okG := ok.upd hfx (fun p => (podGive p q).1) (by rw [hgv]; simp only; split <;> omega) hq2
    have hwth : ∀ q', mget (mdel mW q) q' = (fWhere (fUpd F.l t.1.id fun p => (podGive p q).1) q').map (·.id) := fun q' => by
      rw [mget_mdel _ _ hW.nd, ok.where_upd hfx _ hq2 h4, hrq]
      by_cases eq : q = q'
      · subst eq
        rw [if_pos rfl, if_neg (by rw [List.Nodup.mem_erase_iff hnd]; simp), if_pos hqx]
      · rw [if_neg eq]
        by_cases h2 : q' ∈ t.1.pod.reqs
        · rw [if_pos ((List.Nodup.mem_erase_iff hnd).2 ⟨fun e => eq e.symm, h2⟩), hr.wth, fWhere_of ok.once hxl h2]; rfl
        · rw [if_neg (fun hh => h2 (List.mem_of_mem_erase hh)), if_neg h2, hr.wth]
    have h := fr4_ (fr4_ (fr4_ (fr4_ h)))
    refine S_fend (t := ({ t.1 with pod := (podGive t.1.pod q).1 }, t.2.1, s')) h hA hg hps' (fun h4' => ?_) fun h4' sA' w hA' h => ?_
    · (repeat (first | refine nn ?_ | (refine dr h ?_; clear h; (try clear w); intro w h) | refine ld0_ h rfl rfl ?_ | refine ld1_ h rfl rfl ?_ | refine ld2_ h rfl rfl ?_ | refine ld3_ h rfl rfl ?_ | refine ld4_ h rfl rfl ?_ | refine ld5_ h rfl rfl ?_ | refine ld6_ h rfl rfl ?_ | refine ld7_ h rfl rfl ?_ | refine ld8_ h rfl rfl ?_ | refine ld9_ h rfl rfl ?_ | refine ld10_ h rfl rfl ?_ | refine ld11_ h rfl rfl ?_ | refine la0_ h rfl ?_ | refine la1_ h rfl ?_ | refine la2_ h rfl ?_ | refine la3_ h rfl ?_ | refine la4_ h rfl ?_ | refine la5_ h rfl ?_ | refine la6_ h rfl ?_ | refine la7_ h rfl ?_ | refine la8_ h rfl ?_ | refine la9_ h rfl ?_ | refine la10_ h rfl ?_ | refine la11_ h rfl ?_ | refine ck0_ h rfl ?_ | refine ck1_ h rfl ?_ | refine ck2_ h rfl ?_ | refine ck3_ h rfl ?_ | refine ck4_ h rfl ?_ | refine ck5_ h rfl ?_ | refine ck6_ h rfl ?_ | refine ck7_ h rfl ?_ | refine ck8_ h rfl ?_ | refine ck9_ h rfl ?_ | refine ck10_ h rfl ?_ | refine ck11_ h rfl ?_ | ((first | refine st0_ h rfl rfl ?_ | refine st1_ h rfl rfl ?_ | refine st2_ h rfl rfl ?_ | refine st3_ h rfl rfl ?_ | refine st4_ h rfl rfl ?_ | refine st5_ h rfl rfl ?_ | refine st6_ h rfl rfl ?_ | refine st7_ h rfl rfl ?_ | refine st8_ h rfl rfl ?_ | refine st9_ h rfl rfl ?_ | refine st10_ h rfl rfl ?_ | refine st11_ h rfl rfl ?_); clear h; (try clear w); intro w h; (try dsimp only [putN, setN] at h))))
      refine ⟨(t.1.rev, 0, ()), rfl, hk _ w ⟨okG, rA, rW, mA, _, sA, sW', _, hA, hW', hr.upd ok (fun p => (podGive p q).1) hps' h4' hwth, rfl⟩ (St.back i hi ?_)⟩
      have h := dl4_ h
      exact h.eq (by simp)
    · (repeat (first | refine nn ?_ | (refine dr h ?_; clear h; (try clear w); intro w h) | refine ld0_ h rfl rfl ?_ | refine ld1_ h rfl rfl ?_ | refine ld2_ h rfl rfl ?_ | refine ld3_ h rfl rfl ?_ | refine ld4_ h rfl rfl ?_ | refine ld5_ h rfl rfl ?_ | refine ld6_ h rfl rfl ?_ | refine ld7_ h rfl rfl ?_ | refine ld8_ h rfl rfl ?_ | refine ld9_ h rfl rfl ?_ | refine ld10_ h rfl rfl ?_ | refine ld11_ h rfl rfl ?_ | refine la0_ h rfl ?_ | refine la1_ h rfl ?_ | refine la2_ h rfl ?_ | refine la3_ h rfl ?_ | refine la4_ h rfl ?_ | refine la5_ h rfl ?_ | refine la6_ h rfl ?_ | refine la7_ h rfl ?_ | refine la8_ h rfl ?_ | refine la9_ h rfl ?_ | refine la10_ h rfl ?_ | refine la11_ h rfl ?_ | refine ck0_ h rfl ?_ | refine ck1_ h rfl ?_ | refine ck2_ h rfl ?_ | refine ck3_ h rfl ?_ | refine ck4_ h rfl ?_ | refine ck5_ h rfl ?_ | refine ck6_ h rfl ?_ | refine ck7_ h rfl ?_ | refine ck8_ h rfl ?_ | refine ck9_ h rfl ?_ | refine ck10_ h rfl ?_ | refine ck11_ h rfl ?_ | ((first | refine st0_ h rfl rfl ?_ | refine st1_ h rfl rfl ?_ | refine st2_ h rfl rfl ?_ | refine st3_ h rfl rfl ?_ | refine st4_ h rfl rfl ?_ | refine st5_ h rfl rfl ?_ | refine st6_ h rfl rfl ?_ | refine st7_ h rfl rfl ?_ | refine st8_ h rfl rfl ?_ | refine st9_ h rfl rfl ?_ | refine st10_ h rfl rfl ?_ | refine st11_ h rfl rfl ?_); clear h; (try clear w); intro w h; (try dsimp only [putN, setN] at h))))
      refine ⟨(t.1.rev, 0, ()), rfl, hk _ w ⟨okG, rA, rW, _, _, sA', sW', _, hA', hW', hr.del ok (fun p => (podGive p q).1) h4' hwth, rfl⟩ (St.back i hi ?_)⟩
      have h := dl4_ h
      exact h.eq (by simp)
theorem S_tKill (h : St w0 E w) (i : Nat) {A B : List Tr} {t : Tr} (hi : nth E i = some ((A ++ t :: B).map trS).flatten) (hp : PodS t.2.1 t.1.pod t.2.2) {k : Sl × Int × Unit → PT}
    (hk : ∀ v s' s2 w', PodS t.2.1 (podKill t.1.pod).1 s' → Rw eI T_int 1 v (podKill t.1.pod).2.1 s2 → St w0 (s2 :: setN E i ((A ++ ({ t.1 with pod := (podKill t.1.pod).1 }, t.2.1, s') :: B).map trS).flatten) w' → k (v, (podKill t.1.pod).2.2, ()) w') :
    L.call Pr n_pod_Pod_Kill [.pointer (some ⟨t.2.1, 0, none⟩)] (.tup [.one .slice, .one (.int .i64)]) k w := by
  refine S_pKill (h.front i hi).pick 0 rfl hp fun v s' s2 w hp' hr h => hk v s' s2 w hp' hr ?_
  have h : St w0 (s2 :: trS ({ t.1 with pod := (podKill t.1.pod).1 }, t.2.1, s') :: ((A ++ B).map trS).flatten :: delN E i) w := h
  have h := fr2_ (fr2_ h)
  have h := h.place
  exact St.back (i + 1) (E := s2 :: E) hi h
theorem S_fKill (h : St w0 E w) (i : Nat) {b : Nat} {F : AFleet} {s : Seg} (hi : nth E i = some s) (hf : FlS b F s) {id : Int} {k : Sl × Int × Unit → PT}
    (hk : ∀ v s' s2 w', FlS b (fKill F id).1 s' → Rw eI T_int 1 v (fKill F id).2.1 s2 → St w0 (s2 :: setN E i s') w' → k (v, (fKill F id).2.2, ()) w') :
    L.call Pr n_fleet_Fleet_Kill [.pointer (some ⟨b, 0, none⟩), I id] (.tup [.one .slice, .one (.int .i64)]) k w := by
  have hf0 := hf
  obtain ⟨ok, rA, rW, mA, mW, sA, sW, L, hA, hW, hr, rfl⟩ := hf
  refine call_of (C_fleet_Fleet_Kill _ _) ?_
  unfold F_fleet_Fleet_Kill
  have h : St w0 (flB b rA rW F :: sA :: sW :: (L.map trS).flatten :: delN E i) w := (h.front i hi).eq (by simp)
  (repeat (first | refine nn ?_ | (refine dr h ?_; clear h; (try clear w); intro w h) | refine ld0_ h rfl rfl ?_ | refine ld1_ h rfl rfl ?_ | refine ld2_ h rfl rfl ?_ | refine ld3_ h rfl rfl ?_ | refine ld4_ h rfl rfl ?_ | refine ld5_ h rfl rfl ?_ | refine ld6_ h rfl rfl ?_ | refine ld7_ h rfl rfl ?_ | refine ld8_ h rfl rfl ?_ | refine ld9_ h rfl rfl ?_ | refine ld10_ h rfl rfl ?_ | refine ld11_ h rfl rfl ?_ | refine la0_ h rfl ?_ | refine la1_ h rfl ?_ | refine la2_ h rfl ?_ | refine la3_ h rfl ?_ | refine la4_ h rfl ?_ | refine la5_ h rfl ?_ | refine la6_ h rfl ?_ | refine la7_ h rfl ?_ | refine la8_ h rfl ?_ | refine la9_ h rfl ?_ | refine la10_ h rfl ?_ | refine la11_ h rfl ?_ | refine ck0_ h rfl ?_ | refine ck1_ h rfl ?_ | refine ck2_ h rfl ?_ | refine ck3_ h rfl ?_ | refine ck4_ h rfl ?_ | refine ck5_ h rfl ?_ | refine ck6_ h rfl ?_ | refine ck7_ h rfl ?_ | refine ck8_ h rfl ?_ | refine ck9_ h rfl ?_ | refine ck10_ h rfl ?_ | refine ck11_ h rfl ?_ | ((first | refine st0_ h rfl rfl ?_ | refine st1_ h rfl rfl ?_ | refine st2_ h rfl rfl ?_ | refine st3_ h rfl rfl ?_ | refine st4_ h rfl rfl ?_ | refine st5_ h rfl rfl ?_ | refine st6_ h rfl rfl ?_ | refine st7_ h rfl rfl ?_ | refine st8_ h rfl rfl ?_ | refine st9_ h rfl rfl ?_ | refine st10_ h rfl rfl ?_ | refine st11_ h rfl rfl ?_); clear h; (try clear w); intro w h; (try dsimp only [putN, setN] at h))))
  refine MpS.get2 mkI und_map_o zo (fun x : ByteArray × Option Addr => (x.1, x.2, ())) (fun _ => rfl) h 1 rfl hA ?_
  cases hfd : fFind F.l id with
  | none =>
    rw [hr.get0 hfd]
    have e : fKill F id = (F, [], 6) := by unfold fKill; rw [hfd]
    rw [e] at hk
    simp only [Option.map_none, Option.getD_none, Option.isSome_none]
    refine nw h ?_; clear h; (try clear w); intro b4 w h
    (repeat (first | refine nn ?_ | (refine dr h ?_; clear h; (try clear w); intro w h) | refine ld0_ h rfl rfl ?_ | refine ld1_ h rfl rfl ?_ | refine ld2_ h rfl rfl ?_ | refine ld3_ h rfl rfl ?_ | refine ld4_ h rfl rfl ?_ | refine ld5_ h rfl rfl ?_ | refine ld6_ h rfl rfl ?_ | refine ld7_ h rfl rfl ?_ | refine ld8_ h rfl rfl ?_ | refine ld9_ h rfl rfl ?_ | refine ld10_ h rfl rfl ?_ | refine ld11_ h rfl rfl ?_ | refine la0_ h rfl ?_ | refine la1_ h rfl ?_ | refine la2_ h rfl ?_ | refine la3_ h rfl ?_ | refine la4_ h rfl ?_ | refine la5_ h rfl ?_ | refine la6_ h rfl ?_ | refine la7_ h rfl ?_ | refine la8_ h rfl ?_ | refine la9_ h rfl ?_ | refine la10_ h rfl ?_ | refine la11_ h rfl ?_ | refine ck0_ h rfl ?_ | refine ck1_ h rfl ?_ | refine ck2_ h rfl ?_ | refine ck3_ h rfl ?_ | refine ck4_ h rfl ?_ | refine ck5_ h rfl ?_ | refine ck6_ h rfl ?_ | refine ck7_ h rfl ?_ | refine ck8_ h rfl ?_ | refine ck9_ h rfl ?_ | refine ck10_ h rfl ?_ | refine ck11_ h rfl ?_ | ((first | refine st0_ h rfl rfl ?_ | refine st1_ h rfl rfl ?_ | refine st2_ h rfl rfl ?_ | refine st3_ h rfl rfl ?_ | refine st4_ h rfl rfl ?_ | refine st5_ h rfl rfl ?_ | refine st6_ h rfl rfl ?_ | refine st7_ h rfl rfl ?_ | refine st8_ h rfl rfl ?_ | refine st9_ h rfl rfl ?_ | refine st10_ h rfl rfl ?_ | refine st11_ h rfl rfl ?_); clear h; (try clear w); intro w h; (try dsimp only [putN, setN] at h))))
    refine itT rfl ?_
    have h := dl0_ h
    have h := St.back i hi (s' := flB b rA rW F ++ (sA ++ (sW ++ (L.map trS).flatten))) (h.eq (by simp))
    exact ⟨(⟨none, 0, 0⟩, 6, ()), rfl, hk ⟨none, 0, 0⟩ _ [] w hf0 Rw.nil (h.eq (by simp))⟩
  | some x =>
    obtain ⟨hxl, hxid⟩ := fFind_some hfd
    have e : fKill F id = ({ F with l := fUpd F.l id fun p => (podKill p).1 }, x.pod.reqs, 0) := by unfold fKill; rw [hfd]
    rw [e] at hk
    obtain ⟨A, t, B, rfl, rfl, -⟩ := hr.at hfd
    subst hxid
    have hg := hr.get ok (t := t) (by simp)
    have hps := hr.ps t (by simp)
    have hlv := ok.live t.1 hxl
    have hkl := kill_eq (p := t.1.pod) (by omega)
    have hfew := hps.1.few
    rw [hg]
    simp only [Option.map_some, Option.getD_some, Option.isSome_some]
    refine nw h ?_; clear h; (try clear w); intro b4 w h
    (repeat (first | refine nn ?_ | (refine dr h ?_; clear h; (try clear w); intro w h) | refine ld0_ h rfl rfl ?_ | refine ld1_ h rfl rfl ?_ | refine ld2_ h rfl rfl ?_ | refine ld3_ h rfl rfl ?_ | refine ld4_ h rfl rfl ?_ | refine ld5_ h rfl rfl ?_ | refine ld6_ h rfl rfl ?_ | refine ld7_ h rfl rfl ?_ | refine ld8_ h rfl rfl ?_ | refine ld9_ h rfl rfl ?_ | refine ld10_ h rfl rfl ?_ | refine ld11_ h rfl rfl ?_ | refine la0_ h rfl ?_ | refine la1_ h rfl ?_ | refine la2_ h rfl ?_ | refine la3_ h rfl ?_ | refine la4_ h rfl ?_ | refine la5_ h rfl ?_ | refine la6_ h rfl ?_ | refine la7_ h rfl ?_ | refine la8_ h rfl ?_ | refine la9_ h rfl ?_ | refine la10_ h rfl ?_ | refine la11_ h rfl ?_ | refine ck0_ h rfl ?_ | refine ck1_ h rfl ?_ | refine ck2_ h rfl ?_ | refine ck3_ h rfl ?_ | refine ck4_ h rfl ?_ | refine ck5_ h rfl ?_ | refine ck6_ h rfl ?_ | refine ck7_ h rfl ?_ | refine ck8_ h rfl ?_ | refine ck9_ h rfl ?_ | refine ck10_ h rfl ?_ | refine ck11_ h rfl ?_ | ((first | refine st0_ h rfl rfl ?_ | refine st1_ h rfl rfl ?_ | refine st2_ h rfl rfl ?_ | refine st3_ h rfl rfl ?_ | refine st4_ h rfl rfl ?_ | refine st5_ h rfl rfl ?_ | refine st6_ h rfl rfl ?_ | refine st7_ h rfl rfl ?_ | refine st8_ h rfl rfl ?_ | refine st9_ h rfl rfl ?_ | refine st10_ h rfl rfl ?_ | refine st11_ h rfl rfl ?_); clear h; (try clear w); intro w h; (try dsimp only [putN, setN] at h))))
    refine itF rfl ?_
    (repeat (first | refine nn ?_ | (refine dr h ?_; clear h; (try clear w); intro w h) | refine ld0_ h rfl rfl ?_ | refine ld1_ h rfl rfl ?_ | refine ld2_ h rfl rfl ?_ | refine ld3_ h rfl rfl ?_ | refine ld4_ h rfl rfl ?_ | refine ld5_ h rfl rfl ?_ | refine ld6_ h rfl rfl ?_ | refine ld7_ h rfl rfl ?_ | refine ld8_ h rfl rfl ?_ | refine ld9_ h rfl rfl ?_ | refine ld10_ h rfl rfl ?_ | refine ld11_ h rfl rfl ?_ | refine la0_ h rfl ?_ | refine la1_ h rfl ?_ | refine la2_ h rfl ?_ | refine la3_ h rfl ?_ | refine la4_ h rfl ?_ | refine la5_ h rfl ?_ | refine la6_ h rfl ?_ | refine la7_ h rfl ?_ | refine la8_ h rfl ?_ | refine la9_ h rfl ?_ | refine la10_ h rfl ?_ | refine la11_ h rfl ?_ | refine ck0_ h rfl ?_ | refine ck1_ h rfl ?_ | refine ck2_ h rfl ?_ | refine ck3_ h rfl ?_ | refine ck4_ h rfl ?_ | refine ck5_ h rfl ?_ | refine ck6_ h rfl ?_ | refine ck7_ h rfl ?_ | refine ck8_ h rfl ?_ | refine ck9_ h rfl ?_ | refine ck10_ h rfl ?_ | refine ck11_ h rfl ?_ | ((first | refine st0_ h rfl rfl ?_ | refine st1_ h rfl rfl ?_ | refine st2_ h rfl rfl ?_ | refine st3_ h rfl rfl ?_ | refine st4_ h rfl rfl ?_ | refine st5_ h rfl rfl ?_ | refine st6_ h rfl rfl ?_ | refine st7_ h rfl rfl ?_ | refine st8_ h rfl rfl ?_ | refine st9_ h rfl rfl ?_ | refine st10_ h rfl rfl ?_ | refine st11_ h rfl rfl ?_); clear h; (try clear w); intro w h; (try dsimp only [putN, setN] at h))))
    have h := dl0_ h
    refine S_tKill h 3 rfl hps fun v s' s2 w hps' hrow h => ?_
    dsimp only [setN] at h
    rw [hkl] at hrow
    rw [show (podKill t.1.pod).2.2 = 0 by rw [hkl]]
    dsimp only at hrow ⊢
    have hlen := Rw.len encI hrow
    have hst4 : (podKill t.1.pod).1.st = 4 := by rw [hkl]
    have hq2 : ∀ q2 ∈ (podKill t.1.pod).1.reqs, q2 ∈ t.1.pod.reqs ∨ fWhere F.l q2 = none := fun q2 h2 => by rw [hkl] at h2; simp at h2
    have okG := ok.upd hfd (fun p => (podKill p).1) (by rw [hkl]; simp) hq2
    have hwu := ok.where_upd hfd (fun p => (podKill p).1) hq2 (fun _ => by rw [hkl])
    have hw0 := hr.wth
    refine loop_of (fun q y w => ∃ (j : Nat) (mW : List (Int × Int)) (sW : Seg), y = ((j : Int), ()) ∧ q + j = t.1.pod.reqs.length ∧ MpS KI KI rW mW sW ∧ (∀ q', mget mW q' = if q' ∈ t.1.pod.reqs.take j then none else (fWhere F.l q').map (·.id)) ∧
      St w0 (s2 :: flB b rA rW F :: sA :: sW :: ((A ++ ({ t.1 with pod := (podKill t.1.pod).1 }, t.2.1, s') :: B).map trS).flatten :: delN E i) w) t.1.pod.reqs.length ⟨0, mW, sW, rfl, rfl, hW, by simpa using hw0, h⟩ ?_
    clear hW hf0
    clear h; (try clear w)
    rintro q y w ⟨j, mW', sW', rfl, hq, hW, hmw, h⟩ again hag
    dsimp only
    refine it (fun hc => ?_) (fun hc => ?_) <;> (try simp only [decide_eq_true_eq, decide_eq_false_iff_not, beq_iff_eq, bne_iff_ne, beq_eq_false_iff_ne, bne_eq_false_iff_eq, Bool.not_eq_true', Bool.not_eq_false', ne_eq, Bool.not_eq_true, Bool.not_eq_false] at hc)
    · have hj : j < t.1.pod.reqs.length := by omega
      have hx : t.1.pod.reqs[j]? = some t.1.pod.reqs[j] := List.getElem?_eq_getElem hj
      generalize t.1.pod.reqs[j] = z at hx
      refine Rw.ix encI hrow (by omega) (by simpa using hj) fun a ha => ?_
      rw [Int.toNat_natCast] at ha
      refine Rw.ld0 encI h 0 rfl hrow ha hx rfl rfl ?_
      (repeat (first | refine nn ?_ | (refine dr h ?_; clear h; (try clear w); intro w h) | refine ld0_ h rfl rfl ?_ | refine ld1_ h rfl rfl ?_ | refine ld2_ h rfl rfl ?_ | refine ld3_ h rfl rfl ?_ | refine ld4_ h rfl rfl ?_ | refine ld5_ h rfl rfl ?_ | refine ld6_ h rfl rfl ?_ | refine ld7_ h rfl rfl ?_ | refine ld8_ h rfl rfl ?_ | refine ld9_ h rfl rfl ?_ | refine ld10_ h rfl rfl ?_ | refine ld11_ h rfl rfl ?_ | refine la0_ h rfl ?_ | refine la1_ h rfl ?_ | refine la2_ h rfl ?_ | refine la3_ h rfl ?_ | refine la4_ h rfl ?_ | refine la5_ h rfl ?_ | refine la6_ h rfl ?_ | refine la7_ h rfl ?_ | refine la8_ h rfl ?_ | refine la9_ h rfl ?_ | refine la10_ h rfl ?_ | refine la11_ h rfl ?_ | refine ck0_ h rfl ?_ | refine ck1_ h rfl ?_ | refine ck2_ h rfl ?_ | refine ck3_ h rfl ?_ | refine ck4_ h rfl ?_ | refine ck5_ h rfl ?_ | refine ck6_ h rfl ?_ | refine ck7_ h rfl ?_ | refine ck8_ h rfl ?_ | refine ck9_ h rfl ?_ | refine ck10_ h rfl ?_ | refine ck11_ h rfl ?_ | ((first | refine st0_ h rfl rfl ?_ | refine st1_ h rfl rfl ?_ | refine st2_ h rfl rfl ?_ | refine st3_ h rfl rfl ?_ | refine st4_ h rfl rfl ?_ | refine st5_ h rfl rfl ?_ | refine st6_ h rfl rfl ?_ | refine st7_ h rfl rfl ?_ | refine st8_ h rfl rfl ?_ | refine st9_ h rfl rfl ?_ | refine st10_ h rfl rfl ?_ | refine st11_ h rfl rfl ?_); clear h; (try clear w); intro w h; (try dsimp only [putN, setN] at h))))
      refine MpS.del mkI und_map_i h 3 rfl hW fun sW2 w hW2 h => ?_
      refine hag (q - 1) _ w (by omega) ⟨j + 1, _, sW2, ?_, by omega, hW2, fun q' => ?_, h⟩
      · rw [wr (by omega) (by omega)]; simp
      · rw [mget_mdel _ _ hW.nd, hmw, List.take_add_one, hx]
        by_cases eq : z = q'
        · subst eq; simp
        · have : ¬ q' = z := fun e => eq e.symm
          simp [eq, this]
    · have hj : j = t.1.pod.reqs.length := by omega
      subst hj
      rw [List.take_length] at hmw
      have h := fr4_ (fr4_ (fr4_ (fr4_ h)))
      refine S_fend (t := ({ t.1 with pod := (podKill t.1.pod).1 }, t.2.1, s')) h hA hg hps' (fun h4' => absurd hst4 h4') fun h4' sA' w hA' h => ?_
      refine ⟨(v, 0, ()), rfl, hk v (flB b rA rW F ++ (sA' ++ (sW' ++ ((A ++ B).map trS).flatten))) s2 w ⟨okG, rA, rW, _, _, sA', sW', _, hA', hW, hr.del ok (fun p => (podKill p).1) h4' (fun q' => ?_), rfl⟩ hrow ?_⟩
      · rw [hmw, hwu, if_neg (c := q' ∈ (podKill t.1.pod).1.reqs) (by rw [hkl]; simp)]
      · exact St.back (i + 1) (E := s2 :: E) hi (h.eq (by simp [delN]))
end Go.Proofs.YthmpbgloifdcnaaGreat
