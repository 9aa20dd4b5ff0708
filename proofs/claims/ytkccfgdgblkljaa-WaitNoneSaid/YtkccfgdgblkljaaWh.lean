/- Contracts of functions, and walks of laws (text Wh). No conditions beyond those its theorems state. -/
import Derived.Test.YtkccfgdgblkljaaWg
set_option linter.all false
namespace Go.Proofs.Ytkccfgdgblkljaa
open Go.Dm
attribute [local irreducible] L.load L.store L.chk L.new L.nonnil L.guard L.ite L.draw L.idx L.sem L.semR L.semU L.chkSem L.next L.call L.callV L.join L.alts L.loop L.begin L.endRound L.range
variable {w0 w : World} {E : List Seg}
theorem lLate_snoc (l : List (Int × Int)) (x : Int × Int) (n : Int) : lLate (l ++ [x]) n = lLate l n ++ (if x.2 ≤ n then [x.1] else []) := by
  simp only [lLate, List.filter_append, List.map_append]
  congr 1
  by_cases h : x.2 ≤ n <;> simp [h]
theorem lRest_snoc (l : List (Int × Int)) (x : Int × Int) (n : Int) : lRest (l ++ [x]) n = lRest l n ++ (if x.2 ≤ n then [] else [x]) := by
  simp only [lRest, List.filter_append]
  congr 1
  by_cases h : x.2 ≤ n <;> simp [h]
theorem W_WaitOrder {p0 : Sl} {p1 : Int} {xs : List Int} (o0 : Old w0 eI p0 xs) : Calls Pr n_damperlaw8_WaitOrder [SlV p0, I p1].toArray w0 fun e w' => e = .returned (.bool true) ∧ St w0 [] w' := by
  refine law_of (C_damperlaw8_WaitOrder p0 p1) ?_
  unfold F_damperlaw8_WaitOrder
  refine S_known (St.init w0) fun w h => itF rfl ?_
  refine S_wNew h fun b s w hl h => itF rfl ?_
  refine S_within (by omega) (by omega) ?_
  generalize p1 % 20 = n
  refine join_of (fun z w => ∃ (v1 v2 : Sl) (l : List (Int × Int)) (s s1 s2 : Seg), z = (v1, v2, ()) ∧ l.length ≤ 8 ∧ LnS b 8 l s ∧ Rw eI T_int 1 v1 (lLate l n) s1 ∧ Rw eI T_int 1 v2 ((lRest l n).map (·.1)) s2 ∧ St w0 [s1, s2, s] w) (fun k4 hk4 => ?_) (fun z w ⟨v1, v2, l, s, s1, s2, hz, hm, hl, hr1, hr2, h⟩ => ?_)
  · have h : St w0 [[], [], s] w := h.eq (by simp)
    refine loop_of (fun q y w => ∃ (m : Nat) (v1 v2 : Sl) (l : List (Int × Int)) (s s1 s2 : Seg), y = (v1, v2, (m : Int), ()) ∧ q + m = 8 ∧ l.length = m ∧ (∀ x ∈ l, x.1 > 100 - (m : Int)) ∧ LnS b 8 l s ∧ Rw eI T_int 1 v1 (lLate l n) s1 ∧ Rw eI T_int 1 v2 ((lRest l n).map (·.1)) s2 ∧ St w0 [s1, s2, s] w) 8
      ⟨0, _, _, [], s, [], [], rfl, rfl, rfl, by simp, hl, Rw.nil, Rw.nil, h⟩ ?_
    clear hl; (clear h; (try clear w))
    rintro q y w ⟨m, v1, v2, l, s, s1, s2, rfl, hq, hm, hall, hl, hr1, hr2, h⟩ again hag
    dsimp only
    refine it (fun hb => ?_) (fun hb => hk4 _ w ⟨v1, v2, l, s, s1, s2, rfl, by omega, hl, hr1, hr2, h⟩)
    refine it (fun hb2 => ?_) (fun hb => hk4 _ w ⟨v1, v2, l, s, s1, s2, rfl, by omega, hl, hr1, hr2, h⟩)
    simp only [decide_eq_true_eq] at hb hb2
    have ew : IntKind.wrap .i64 (100 - (m : Int)) = 100 - m := by rw [wr] <;> omega
    rw [ew]
    have n2 := lLate_len l n
    have n3 := lRest_len l n
    refine join_of (fun z w => ∃ (v1 v2 : Sl) (l : List (Int × Int)) (s s1 s2 : Seg), z = (v1, v2, ()) ∧ l.length = m + 1 ∧ (∀ x ∈ l, x.1 > 100 - ((m + 1 : Nat) : Int)) ∧ LnS b 8 l s ∧ Rw eI T_int 1 v1 (lLate l n) s1 ∧ Rw eI T_int 1 v2 ((lRest l n).map (·.1)) s2 ∧ St w0 [s1, s2, s] w) (fun k8 hk8 => ?_) (fun z w ⟨v1, v2, l, s, s1, s2, hz, hm, hall, hl, hr1, hr2, h⟩ => ?_)
    · refine oldI o0 h (by omega) (by (try dsimp only); omega) fun x hx => ?_
      refine S_within (by omega) (by omega) ?_
      generalize x % 20 = u
      have e : lPush 8 l (100 - m) u = (l ++ [(100 - (m : Int), u)], 0) := by
        have : lHas l (100 - m) = false := by
          simp only [lHas, List.any_eq_false]
          intro y hy
          have := hall y hy
          simp; omega
        simp only [lPush, this]; rw [if_neg (by simp), if_neg (by omega)]
      refine S_Push h 2 rfl hl (by omega) fun s w hl h => ?_
      rw [e] at hl ⊢
      refine itF rfl ?_
      have hall' : ∀ y ∈ l ++ [(100 - (m : Int), u)], y.1 > 100 - ((m + 1 : Nat) : Int) := by
        intro y hy
        rcases List.mem_append.1 hy with hy | hy
        · have := hall y hy; omega
        · simp at hy; subst hy; simp; omega
      have hlen' : (l ++ [(100 - (m : Int), u)]).length = m + 1 := by simp [hm]
      refine it (fun hd => ?_) (fun hd => ?_) <;> (try simp only [decide_eq_true_eq, decide_eq_false_iff_not, beq_iff_eq, bne_iff_ne, beq_eq_false_iff_ne, bne_eq_false_iff_eq, Bool.not_eq_true', Bool.not_eq_false', ne_eq, Bool.not_eq_true, Bool.not_eq_false] at hd)
      · refine nw h ?_; clear h; (try clear w); intro b14 w h
        refine Rw.app encI elI h 0 rfl hr1 (100 - (m : Int)) rfl (by omega) (by omega) fun v' s' w hr1 h => ?_
        refine hk8 _ w ⟨v', v2, _, s, s', s2, rfl, hlen', hall', hl, ?_, ?_, h⟩
        · rw [lLate_snoc, if_pos hd]; exact hr1
        · rw [lRest_snoc, if_pos hd, List.append_nil]; exact hr2
      · refine nw h ?_; clear h; (try clear w); intro b16 w h
        refine Rw.app encI elI h 1 rfl hr2 (100 - (m : Int)) rfl (by simp; omega) (by simp; omega) fun v' s' w hr2 h => ?_
        refine hk8 _ w ⟨v1, v', _, s, s1, s', rfl, hlen', hall', hl, ?_, ?_, h⟩
        · rw [lLate_snoc, if_neg hd, List.append_nil]; exact hr1
        · rw [lRest_snoc, if_neg hd, List.map_append]; exact hr2
    · subst hz
      refine hag (q - 1) _ w (by omega) ⟨m + 1, v1, v2, l, s, s1, s2, ?_, by omega, hm, hall, hl, hr1, hr2, h⟩
      rw [wr (by omega) (by omega)]; simp
  · subst hz
    dsimp only
    have n2 := lLate_len l n
    have n3 := lRest_len l n
    refine S_Late h 2 rfl hl (by omega) fun v3 s s3 w hl hr3 h => ?_
    refine S_Ints h (hr3.re encI 0 rfl) (hr1.re encI 1 rfl) (by omega) fun w h => itF (by simp) ?_
    have h := dl0_ h
    refine S_Late h 2 rfl hl (by omega) fun v3 s s3 w hl hr3 h => ?_
    rw [lLate_rest] at hr3
    rw [lRest_rest] at hl
    have e3 := Rw.len encI hr3
    refine itF (by rw [e3]; rfl) ?_
    have h := dl0_ h
    have e2 := Rw.len encI hr2
    rw [List.length_map] at e2
    refine S_wLen h 2 rfl hl (itF (by rw [e2]; simp) ?_)
    generalize lRest l n = r at *
    refine loop_of (fun q y w => ∃ (j : Nat) (s : Seg), y = ((j : Int), ()) ∧ q + j = r.length ∧ LnS b 8 (r.drop j) s ∧ St w0 [s1, s2, s] w) r.length ⟨0, s, rfl, rfl, hl, h⟩ ?_
    clear hl; (clear h; (try clear w))
    rintro q y w ⟨j, s, rfl, hq, hl, h⟩ again hag
    dsimp only
    refine it (fun hb => ?_) (fun hb => ?_) <;> (try simp only [decide_eq_true_eq, decide_eq_false_iff_not, beq_iff_eq, bne_iff_ne, beq_eq_false_iff_ne, bne_eq_false_iff_eq, Bool.not_eq_true', Bool.not_eq_false', ne_eq, Bool.not_eq_true, Bool.not_eq_false] at hb)
    · have hj : j < r.length := by omega
      have ed : r.drop j = r[j] :: r.drop (j + 1) := List.drop_eq_getElem_cons hj
      refine S_Pop h 2 rfl hl (by simp; omega) fun s w hl h => ?_
      rw [ed] at hl ⊢
      refine itF rfl ?_
      refine Rw.ix encI hr2 (by omega) (by simpa using hj) fun a ha => ?_
      refine Rw.ld0 encI h 1 rfl hr2 ha (x := r[j].1) (by simp [hj]) rfl rfl ?_
      refine itF (by simp [lPop]) ?_
      refine S_wLen h 2 rfl hl (itF ?_ ?_)
      · simp only [lPop, List.length_drop, e2]
        rw [wr (n := (r.length : Int) - j) (by omega) (by omega), wr (by omega) (by omega)]
        simp; omega
      · refine hag (q - 1) _ w (by omega) ⟨j + 1, s, ?_, by omega, hl, h⟩
        rw [wr (by omega) (by omega)]; simp
    · obtain rfl : j = r.length := by omega
      rw [List.drop_length] at hl
      refine S_Pop h 2 rfl hl (by simp) fun s w hl h => ⟨rfl, h.none⟩
end Go.Proofs.Ytkccfgdgblkljaa
