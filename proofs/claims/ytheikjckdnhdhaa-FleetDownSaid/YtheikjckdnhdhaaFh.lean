/- Contracts of functions, and walks of laws (text Fh). No conditions beyond those its theorems state. -/
import Derived.Test.YtheikjckdnhdhaaFg
set_option linter.all false
namespace Go.Proofs.Ytheikjckdnhdhaa
open Go.Dm
attribute [local irreducible] L.load L.store L.chk L.new L.nonnil L.guard L.ite L.draw L.idx L.sem L.semR L.semU L.chkSem L.next L.call L.callV L.join L.alts L.loop L.begin L.endRound L.range
variable {w0 w : World} {E : List Seg}
theorem nth_put {E : List Seg} {i : Nat} {s s' : Seg} (hi : nth E i = some s) : nth (setN E i s') i = some s' := by
  rw [nth_getElem?] at *
  rw [setN_set, List.getElem?_set_self]
  exact (List.getElem?_eq_some_iff.1 hi).1
theorem put_put {E : List Seg} {i : Nat} {s s' : Seg} : setN (setN E i s) i s' = setN E i s' := by
  rw [setN_set, setN_set, setN_set, List.set_set]
abbrev cmpV : Value := .func (.func n_fleet_Fleet_Take_1) #[] #[]
theorem S_cmpC (h : St w0 E w) {a b c d : Int} (h1 : -4611686018427387904 < a ∧ a < 4611686018427387904) (h2 : -4611686018427387904 < c ∧ c < 4611686018427387904) {k : Int → PT} (hk : ∀ w', St w0 E w' → k (a - c) w') :
    L.callV Pr cmpV [.agg #[I a, I b], .agg #[I c, I d]] (.one (.one (.int .i64))) k w := by
  refine callV_of (fs := #[]) (cs := #[]) E_fleet_Fleet_Take_1 (C_fleet_Fleet_Take_1 (a, b, ()) (c, d, ())) ?_
  unfold F_fleet_Fleet_Take_1
  refine nw h ?_; clear h; (try clear w); intro b1 w h
  refine nw h ?_; clear h; (try clear w); intro b2 w h
  (repeat (first | refine nn ?_ | (refine dr h ?_; clear h; (try clear w); intro w h) | refine ld0_ h rfl rfl ?_ | refine ld1_ h rfl rfl ?_ | refine ld2_ h rfl rfl ?_ | refine ld3_ h rfl rfl ?_ | refine ld4_ h rfl rfl ?_ | refine ld5_ h rfl rfl ?_ | refine ld6_ h rfl rfl ?_ | refine ld7_ h rfl rfl ?_ | refine ld8_ h rfl rfl ?_ | refine ld9_ h rfl rfl ?_ | refine ld10_ h rfl rfl ?_ | refine ld11_ h rfl rfl ?_ | refine la0_ h rfl ?_ | refine la1_ h rfl ?_ | refine la2_ h rfl ?_ | refine la3_ h rfl ?_ | refine la4_ h rfl ?_ | refine la5_ h rfl ?_ | refine la6_ h rfl ?_ | refine la7_ h rfl ?_ | refine la8_ h rfl ?_ | refine la9_ h rfl ?_ | refine la10_ h rfl ?_ | refine la11_ h rfl ?_ | refine ck0_ h rfl ?_ | refine ck1_ h rfl ?_ | refine ck2_ h rfl ?_ | refine ck3_ h rfl ?_ | refine ck4_ h rfl ?_ | refine ck5_ h rfl ?_ | refine ck6_ h rfl ?_ | refine ck7_ h rfl ?_ | refine ck8_ h rfl ?_ | refine ck9_ h rfl ?_ | refine ck10_ h rfl ?_ | refine ck11_ h rfl ?_ | ((first | refine st0_ h rfl rfl ?_ | refine st1_ h rfl rfl ?_ | refine st2_ h rfl rfl ?_ | refine st3_ h rfl rfl ?_ | refine st4_ h rfl rfl ?_ | refine st5_ h rfl rfl ?_ | refine st6_ h rfl rfl ?_ | refine st7_ h rfl rfl ?_ | refine st8_ h rfl rfl ?_ | refine st9_ h rfl rfl ?_ | refine st10_ h rfl rfl ?_ | refine st11_ h rfl rfl ?_); clear h; (try clear w); intro w h; (try dsimp only [putN, setN] at h))))
  refine ⟨_, rfl, ?_⟩
  dsimp only
  rw [wr (by omega) (by omega)]
  exact hk w (dl0_ (dl0_ h))
theorem at_mid {α : Type} {Q T : List α} {z x : α} : (Q ++ z :: x :: T)[Q.length]? = some z ∧ (Q ++ z :: x :: T)[Q.length + 1]? = some x ∧ ((Q ++ z :: x :: T).set (Q.length + 1) z).set Q.length x = Q ++ x :: z :: T := by
  refine ⟨by simp, by simp, by simp [List.set_append]⟩
theorem S_insC (h : St w0 E w) (i : Nat) {s : Seg} (hi : nth E i = some s) {v : Sl} {P M R : List (Int × Int)} (hr : Rw eC T_fleet_choice 2 v (P ++ (M ++ R)) s) (hn : (P ++ (M ++ R)).length < 1000000000)
    (hb : ∀ x ∈ M, -4611686018427387904 < x.1 ∧ x.1 < 4611686018427387904) {a b : Int} (ha : a = P.length) (hbb : b = P.length + M.length) {k : Unit → PT} (hk : ∀ s' w', Rw eC T_fleet_choice 2 v (P ++ (csort M ++ R)) s' → St w0 (setN E i s') w' → k () w') :
    L.call Pr n_slices_insertionSortCmpFunc_fleet_choice [.slice v.a v.len v.cap, I a, I b, cmpV] (.tup []) k w := by
  subst ha hbb
  refine call_of (C_slices_insertionSortCmpFunc_fleet_choice _ _ _ ⟨.func n_fleet_Fleet_Take_1, #[], #[]⟩) ?_
  unfold F_slices_insertionSortCmpFunc_fleet_choice
  have hlen := Rw.len encC hr
  simp only [List.length_append] at hn hlen
  rw [wr (by omega) (by omega)]
  have hcb : ∀ m, ∀ x ∈ csort (M.take m), x ∈ M := fun m x hx => by
    have : (csort (M.take m)).Perm (M.take m) := by
      suffices ∀ (l a : List (Int × Int)), (l.foldl (fun a x => insC x a) a).Perm (a ++ l) from by simpa [csort] using this (M.take m) []
      intro l
      induction l with
      | nil => intro a; simp
      | cons y l ih =>
        intro a
        refine (ih _).trans (((insC_perm y a).append_right l).trans ?_)
        exact (List.perm_middle (a := y) (l₁ := a) (l₂ := l)).symm
    exact List.mem_of_mem_take (this.mem_iff.1 hx)
  have h1 : csort (M.take 1) = M.take 1 := by cases M <;> rfl
  refine loop_of (fun q y w => ∃ (m : Nat) (s : Seg), y = (((P.length + m : Nat) : Int), ()) ∧ 1 ≤ m ∧ q + m = max 1 M.length ∧ Rw eC T_fleet_choice 2 v (P ++ (csort (M.take m) ++ (M.drop m ++ R))) s ∧ St w0 (setN E i s) w) (max 1 M.length - 1)
    ⟨1, s, rfl, by omega, by omega, by rw [h1, ← List.append_assoc (M.take 1), List.take_append_drop]; exact hr, by rwa [setN_self hi]⟩ ?_
  clear hr
  clear h; (try clear w)
  rintro q y w ⟨m, s, rfl, hm, hq, hr, h⟩ again hag
  dsimp only
  refine it (fun hc => ?_) (fun hc => ?_) <;> (try simp only [decide_eq_true_eq, decide_eq_false_iff_not, beq_iff_eq, bne_iff_ne, beq_eq_false_iff_ne, bne_eq_false_iff_eq, Bool.not_eq_true', Bool.not_eq_false', ne_eq, Bool.not_eq_true, Bool.not_eq_false] at hc)
  · have hm2 : m < M.length := by omega
    have hx : M[m]? = some M[m] := List.getElem?_eq_getElem hm2
    have hxm : M[m] ∈ M := List.getElem_mem hm2
    have hdrop : M.drop m = M[m] :: M.drop (m + 1) := List.drop_eq_getElem_cons hm2
    have hct := csort_take hx
    have hcl := csort_len (M.take m)
    rw [List.length_take, Nat.min_eq_left (by omega)] at hcl
    have hpw := csort_pw (M.take m)
    generalize M[m] = x at *
    rw [hdrop] at hr
    have hnT : (M.drop (m + 1)).length = M.length - (m + 1) := List.length_drop ..
    refine join_of (fun z w => ∃ s, Rw eC T_fleet_choice 2 v (P ++ (csort (M.take (m + 1)) ++ (M.drop (m + 1) ++ R))) s ∧ St w0 (setN E i s) w) (fun k3 hk3 => ?_) (fun z w ⟨s, hr, h⟩ => ?_)
    · refine loop_of (fun q y w => ∃ (A B : List (Int × Int)) (s : Seg), y = (((P.length + A.length : Nat) : Int), ()) ∧ q = A.length ∧ A ++ B = csort (M.take m) ∧ (∀ y ∈ B, x.1 < y.1) ∧ Rw eC T_fleet_choice 2 v ((P ++ A) ++ x :: (B ++ (M.drop (m + 1) ++ R))) s ∧ St w0 (setN E i s) w) m
        ⟨csort (M.take m), [], s, by rw [hcl], hcl.symm, by simp, by simp, by simpa [List.append_assoc] using hr, h⟩ ?_
      clear hr
      clear h; (try clear w)
      rintro q2 y w ⟨A, B, s, rfl, hq2, hAB, hB, hr, h⟩ again2 hag2
      dsimp only
      have stop : ∀ {w}, (∀ y ∈ A, ¬ x.1 < y.1) → St w0 (setN E i s) w → k3 () w := by
        intro w hA h
        refine hk3 _ w ⟨s, ?_, h⟩
        rw [hct, ← hAB, insC_at hA hB]
        simpa [List.append_assoc] using hr
      have hsi : nth (setN E i s) i = some s := nth_put hi
      refine dr h fun w h => ?_
      refine it (fun hd => ?_) (fun hd => ?_) <;> (try simp only [decide_eq_true_eq, decide_eq_false_iff_not, beq_iff_eq, bne_iff_ne, beq_eq_false_iff_ne, bne_eq_false_iff_eq, Bool.not_eq_true', Bool.not_eq_false', ne_eq, Bool.not_eq_true, Bool.not_eq_false] at hd)
      · have hA0 : A ≠ [] := fun e => by subst e; simp at hd
        obtain ⟨A', z, rfl⟩ : ∃ A' z, A = A' ++ [z] := ⟨A.dropLast, A.getLast hA0, (List.dropLast_concat_getLast hA0).symm⟩
        have eL : (P ++ (A' ++ [z])) ++ x :: (B ++ (M.drop (m + 1) ++ R)) = (P ++ A') ++ z :: x :: (B ++ (M.drop (m + 1) ++ R)) := by simp
        rw [eL] at hr
        obtain ⟨g1, g2, g3⟩ := at_mid (Q := P ++ A') (z := z) (x := x) (T := B ++ (M.drop (m + 1) ++ R))
        have hlA : (P ++ A').length = P.length + A'.length := List.length_append ..
        have hl2 := congrArg List.length hAB
        simp only [List.length_append, List.length_singleton, hcl] at hl2 hd hq2 ⊢
        have hzM : z ∈ M := hcb m z (by rw [← hAB]; simp)
        have ix1 : ((P.length + (A'.length + 1) : Nat) : Int).toNat = (P ++ A').length + 1 := by rw [Int.toNat_natCast]; omega
        have ix0 : (((P.length + (A'.length + 1) : Nat) : Int) - 1).toNat = (P ++ A').length := by omega
        have lt1 : (P ++ A').length + 1 < ((P ++ A') ++ z :: x :: (B ++ (M.drop (m + 1) ++ R))).length := by simp only [List.length_append, List.length_cons]; omega
        rw [wr (n := ((P.length + (A'.length + 1) : Nat) : Int) - 1) (by omega) (by omega)]
        refine Rw.ix encC hr (by omega) (by rw [ix1]; exact lt1) fun a ha => ?_
        rw [ix1] at ha
        refine Rw.lda encC h i hsi hr ha g2 rfl ?_
        refine Rw.ix encC hr (by omega) (by rw [ix0]; omega) fun a2 ha2 => ?_
        rw [ix0] at ha2
        refine Rw.lda encC h i hsi hr ha2 g1 rfl ?_
        refine S_cmpC h (hb x hxm) (hb z hzM) fun w h => ?_
        refine it (fun he => ?_) (fun he => ?_) <;> (try simp only [decide_eq_true_eq, decide_eq_false_iff_not, beq_iff_eq, bne_iff_ne, beq_eq_false_iff_ne, bne_eq_false_iff_eq, Bool.not_eq_true', Bool.not_eq_false', ne_eq, Bool.not_eq_true, Bool.not_eq_false] at he)
        · refine dr h fun w h => ?_
          refine Rw.ix encC hr (by omega) (by rw [ix0]; omega) fun a3 ha3 => ?_
          rw [ix0] at ha3
          refine Rw.lda encC h i hsi hr ha3 g1 rfl ?_
          refine Rw.ix encC hr (by omega) (by rw [ix1]; exact lt1) fun a4 ha4 => ?_
          rw [ix1] at ha4
          refine Rw.lda encC h i hsi hr ha4 g2 rfl ?_
          refine Rw.ix encC hr (by omega) (by rw [ix1]; exact lt1) fun a5 ha5 => ?_
          rw [ix1] at ha5
          refine Rw.stC h i hsi hr ha5 lt1 z fun s1 w hr1 h => ?_
          have hs1 : nth (setN (setN E i s) i s1) i = some s1 := nth_put hsi
          refine Rw.ix encC hr1 (by omega) (by rw [ix0, List.length_set]; omega) fun a6 ha6 => ?_
          rw [ix0] at ha6
          refine Rw.stC h i hs1 hr1 ha6 (by rw [List.length_set]; omega) x fun s2 w hr2 h => ?_
          rw [g3] at hr2
          refine hag2 (q2 - 1) _ w (by omega) ⟨A', z :: B, s2, ?_, by omega, by simpa using hAB, ?_, by simpa using hr2, ?_⟩
          · congr 1; omega
          · intro y hy
            rcases List.mem_cons.1 hy with rfl | hy
            · omega
            · exact hB y hy
          · rwa [put_put, put_put] at h
        · refine stop (fun y hy => ?_) h
          rw [← hAB, List.pairwise_append] at hpw
          have hpw := hpw.1
          rw [List.pairwise_append] at hpw
          rcases List.mem_append.1 hy with hy | hy
          · have := hpw.2.2 y hy z (by simp); omega
          · simp at hy; subst hy; omega
      · have : A = [] := List.eq_nil_of_length_eq_zero (by omega)
        subst this
        exact stop (by simp) h
    · refine hag (q - 1) _ w (by omega) ⟨m + 1, s, ?_, by omega, by omega, hr, h⟩
      rw [wr (by omega) (by omega)]; congr 1
  · have e : M.drop m = [] := List.drop_eq_nil_of_le (by omega)
    have e2 : M.take m = M := List.take_of_length_le (by omega)
    rw [e, e2, List.nil_append] at hr
    exact ⟨(), rfl, hk s w hr h⟩
end Go.Proofs.Ytheikjckdnhdhaa
