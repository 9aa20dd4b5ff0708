/- Contracts of functions, and walks of laws (text Wf). No conditions beyond those its theorems state. -/
import Derived.Test.YtkccfgdgblkljaaWe
set_option linter.all false
namespace Go.Proofs.Ytkccfgdgblkljaa
open Go.Dm
attribute [local irreducible] L.load L.store L.chk L.new L.nonnil L.guard L.ite L.draw L.idx L.sem L.semR L.semU L.chkSem L.next L.call L.callV L.join L.alts L.loop L.begin L.endRound L.range
variable {w0 w : World} {E : List Seg}
theorem some_eq {α : Type} {o : Option α} {x y : α} (h1 : o = some x) (h2 : o = some y) : y = x := by rw [h1] at h2; cases h2; rfl
theorem lPush_len (room : Int) (l : List (Int × Int)) (id u : Int) : (lPush room l id u).1.length ≤ l.length + 1 := by
  unfold lPush; split
  · simp
  · split <;> simp
theorem lPop_len (l : List (Int × Int)) : (lPop l).1.length ≤ l.length := by cases l <;> simp [lPop]
theorem W_WaitNone {p0 : Sl} {p1 : Int} {xs : List Int} (o0 : Old w0 eI p0 xs) : Calls Pr n_damperlaw8_WaitNone [SlV p0, I p1].toArray w0 fun e w' => e = .returned (.bool true) ∧ St w0 [] w' := by
  refine law_of (C_damperlaw8_WaitNone p0 p1) ?_
  unfold F_damperlaw8_WaitNone
  refine S_known (St.init w0) fun w h => itF rfl ?_
  refine S_wNew h fun b s w hl h => itF rfl ?_
  refine join_of (fun z w => ∃ s, LnS b 0 [] s ∧ St w0 [s] w) (fun k3 hk3 => ?_) (fun z w ⟨s, hl, h⟩ => ?_)
  · refine loop_of (fun q y w => ∃ (m : Nat) (s : Seg), y = ((m : Int), ()) ∧ q + m = 20 ∧ LnS b 0 [] s ∧ St w0 [s] w) 20 ⟨0, s, rfl, rfl, hl, h⟩ ?_
    clear hl; (clear h; (try clear w))
    rintro q y w ⟨m, s, rfl, hq, hl, h⟩ again hag
    dsimp only
    refine it (fun hb => ?_) (fun hb => ?_) <;> (try simp only [decide_eq_true_eq, decide_eq_false_iff_not, beq_iff_eq, bne_iff_ne, beq_eq_false_iff_ne, bne_eq_false_iff_eq, Bool.not_eq_true', Bool.not_eq_false', ne_eq, Bool.not_eq_true, Bool.not_eq_false] at hb)
    · refine it (fun hb2 => ?_) (fun hb2 => ?_) <;> (try simp only [decide_eq_true_eq, decide_eq_false_iff_not, beq_iff_eq, bne_iff_ne, beq_eq_false_iff_ne, bne_eq_false_iff_eq, Bool.not_eq_true', Bool.not_eq_false', ne_eq, Bool.not_eq_true, Bool.not_eq_false] at hb2)
      · refine oldI o0 h (by omega) (by (try dsimp only); omega) fun x hx => ?_
        refine S_within (by omega) (by omega) (S_within (by omega) (by omega) ?_)
        refine S_Push h 0 rfl hl (by simp) fun s w hl h => itF rfl ?_
        refine S_wLen h 0 rfl hl (itF rfl ?_)
        refine hag (q - 1) _ w (by omega) ⟨m + 1, s, ?_, by omega, hl, h⟩
        rw [wr (by omega) (by omega)]; simp
      · exact hk3 _ w ⟨s, hl, h⟩
    · exact hk3 _ w ⟨s, hl, h⟩
  · refine S_Pop h 0 rfl hl (by simp) fun s w hl h => itT rfl ?_
    refine S_All h 0 rfl hl (by simp [lPop]) fun v s2 w hr h => ?_
    have e := Rw.len encI hr
    refine itT (by rw [e]; rfl) ?_
    refine S_Late h 1 rfl hl (by simp [lPop]) fun v s3 s4 w hl hr h => ⟨?_, h.none⟩
    have e := Rw.len encI hr
    rw [e]; rfl
theorem W_WaitPlays {p0 : Int} {p1 : Sl} {xs : List Int} (o1 : Old w0 eI p1 xs) : Calls Pr n_damperlaw8_WaitPlays [I p0, SlV p1].toArray w0 fun e w' => e = .returned (.bool true) ∧ St w0 [] w' := by
  refine law_of (C_damperlaw8_WaitPlays p0 p1) ?_
  unfold F_damperlaw8_WaitPlays
  refine S_known (St.init w0) fun w h => itF rfl ?_
  refine S_within (by omega) (by omega) ?_
  refine S_wNew h fun b s w hl h => ?_
  refine S_xNew h fun b2 s2 w hl2 h => itF rfl ?_
  refine join_of (fun z w => St w0 [] w) (fun k5 hk5 => ?_) (fun z w h => ⟨rfl, h⟩)
  refine loop_of (fun q y w => ∃ (m : Nat) (l : List (Int × Int)) (s s2 : Seg), y = ((m : Int), ()) ∧ q + m = 80 ∧ l.length ≤ m ∧ LnS b (p0 % 9) l s ∧ LnX b2 (p0 % 9) l s2 ∧ St w0 [s2, s] w) 80 ⟨0, [], s, s2, rfl, rfl, by simp, hl, hl2, h⟩ ?_
  clear hl hl2; (clear h; (try clear w))
  rintro q y w ⟨m, l, s, s2, rfl, hq, hm, hl, hl2, h⟩ again hag
  dsimp only
  refine it (fun hb => ?_) (fun hb => hk5 _ w h.none)
  refine it (fun hb2 => ?_) (fun hb => hk5 _ w h.none)
  simp only [decide_eq_true_eq] at hb hb2
  refine oldI o1 h (by omega) (by (try dsimp only); omega) fun x hx => ?_
  refine gd (by omega) ?_
  refine join_of (fun z w => ∃ (l : List (Int × Int)) (s s2 : Seg), l.length ≤ m + 1 ∧ LnS b (p0 % 9) l s ∧ LnX b2 (p0 % 9) l s2 ∧ St w0 [s2, s] w) (fun k11 hk11 => ?_) (fun z w ⟨l, s, s2, hm, hl, hl2, h⟩ => ?_)
  · refine oldI o1 h (by omega) (by (try dsimp only); omega) fun x2 hx2 => ?_
    refine S_within (by omega) (by omega) ?_
    refine join_of (fun z w => St w0 [s2, s] w) (fun k16 hk16 => it (fun _ => hk16 _ w h) (fun _ => hk16 _ w h)) (fun z w h => ?_)
    refine it (fun hz => ?_) (fun hz => ?_)
    · refine S_Pop h 1 rfl hl (by omega) fun s w hl h => ?_
      refine S_xPop h 0 rfl hl2 fun s2 w hl2 h => itF (by simp) (itF (by simp) ?_)
      exact hk11 _ w ⟨_, s, s2, by have := lPop_len l; omega, hl, hl2, h⟩
    refine it (fun hz => ?_) (fun hz => ?_)
    · refine S_within (by omega) (by omega) ?_
      refine S_Late h 1 rfl hl (by omega) fun v1 s r1 w hl hr1 h => ?_
      refine S_within (by omega) (by omega) ?_
      refine S_xLate h 1 rfl hl2 (by omega) fun v2 s2 r2 w hl2 hr2 h => ?_
      have n2 := lLate_len l (IntKind.wrap .i64 (Int.tdiv x 8) % 30)
      have n3 := lRest_len l (IntKind.wrap .i64 (Int.tdiv x 8) % 30)
      refine S_Ints h (hr1.re encI 1 rfl) (hr2.re encI 0 rfl) (by omega) fun w h => itF (by simp) ?_
      exact hk11 _ w ⟨_, s, s2, by omega, hl, hl2, dl0_ (dl0_ h)⟩
    · refine S_within (by omega) (by omega) (gd (by omega) (S_within (by omega) (by omega) ?_))
      refine S_Push h 1 rfl hl (by omega) fun s w hl h => ?_
      refine S_xPush h 0 rfl hl2 (by omega) fun s2 w hl2 h => itF (by simp) ?_
      exact hk11 _ w ⟨_, s, s2, by have := lPush_len (p0 % 9) l (IntKind.wrap .i64 (1 + IntKind.wrap .i64 (Int.tdiv x 8) % 20)) (IntKind.wrap .i64 (Int.tdiv (IntKind.wrap .i64 (Int.tdiv x 8)) 20) % 30); omega, hl, hl2, h⟩
  · refine S_wLen h 1 rfl hl (S_xLen h 0 rfl hl2 (itF (by simp) ?_))
    refine S_All h 1 rfl hl (by omega) fun v1 r1 w hr1 h => ?_
    refine S_xAll h 1 rfl hl2 (by omega) fun v2 r2 w hr2 h => ?_
    refine S_Ints h (hr1.re encI 1 rfl) (hr2.re encI 0 rfl) (by simp; omega) fun w h => itF (by simp) ?_
    refine hag (q - 1) _ w (by omega) ⟨m + 1, l, s, s2, ?_, by omega, hm, hl, hl2, dl0_ (dl0_ h)⟩
    rw [wr (by omega) (by omega)]; simp
theorem lLate_rest (l : List (Int × Int)) (now : Int) : lLate (lRest l now) now = [] := by
  unfold lLate lRest
  rw [List.filter_filter, List.filter_eq_nil_iff.2 (by intro x _; simp)]; rfl
theorem lRest_rest (l : List (Int × Int)) (now : Int) : lRest (lRest l now) now = lRest l now := by
  unfold lRest
  rw [List.filter_filter]; congr 1; funext x; simp
theorem W_WaitLate {p0 p1 : Sl} {xs ys : List Int} (o0 : Old w0 eI p0 xs) (o1 : Old w0 eI p1 ys) : Calls Pr n_damperlaw8_WaitLate [SlV p0, SlV p1].toArray w0 fun e w' => e = .returned (.bool true) ∧ St w0 [] w' := by
  refine law_of (C_damperlaw8_WaitLate p0 p1) ?_
  unfold F_damperlaw8_WaitLate
  refine S_known (St.init w0) fun w h => itF rfl ?_
  refine S_wNew h fun b s w hl h => ?_
  refine S_xNew h fun b2 s2 w hl2 h => itF rfl ?_
  refine join_of (fun z w => ∃ (l : List (Int × Int)) (s s2 : Seg), l.length ≤ 8 ∧ LnS b 8 l s ∧ LnX b2 8 l s2 ∧ St w0 [s2, s] w) (fun k4 hk4 => ?_) (fun z w ⟨l, s, s2, hm, hl, hl2, h⟩ => ?_)
  · refine loop_of (fun q y w => ∃ (m : Nat) (l : List (Int × Int)) (s s2 : Seg), y = ((m : Int), ()) ∧ q + m = 8 ∧ l.length ≤ m ∧ LnS b 8 l s ∧ LnX b2 8 l s2 ∧ St w0 [s2, s] w) 8 ⟨0, [], s, s2, rfl, rfl, by simp, hl, hl2, h⟩ ?_
    clear hl hl2; (clear h; (try clear w))
    rintro q y w ⟨m, l, s, s2, rfl, hq, hm, hl, hl2, h⟩ again hag
    dsimp only
    refine it (fun hb => ?_) (fun hb => hk4 _ w ⟨l, s, s2, by omega, hl, hl2, h⟩)
    refine it (fun hb2 => ?_) (fun hb => hk4 _ w ⟨l, s, s2, by omega, hl, hl2, h⟩)
    simp only [decide_eq_true_eq] at hb hb2
    refine oldI o0 h (by omega) (by (try dsimp only); omega) fun x hx => ?_
    refine S_within (by omega) (by omega) ?_
    refine S_Push h 1 rfl hl (by omega) fun s w hl h => ?_
    refine oldI o0 h (by omega) (by (try dsimp only); omega) fun x2 hx2 => ?_
    obtain rfl := some_eq hx hx2
    refine S_within (by omega) (by omega) ?_
    refine S_xPush h 0 rfl hl2 (by omega) fun s2 w hl2 h => ?_
    have := lPush_len 8 l (IntKind.wrap .i64 ((m : Int) + 1)) (x2 % 30)
    refine hag (q - 1) _ w (by omega) ⟨m + 1, _, s, s2, ?_, by omega, by omega, hl, hl2, h⟩
    rw [wr (by omega) (by omega)]; simp
  refine join_of (fun z w => ∃ (l : List (Int × Int)) (s s2 : Seg), l.length ≤ 8 ∧ LnS b 8 l s ∧ LnX b2 8 l s2 ∧ St w0 [s2, s] w) (fun k4 hk4 => ?_) (fun z w ⟨l, s, s2, hm, hl, hl2, h⟩ => ?_)
  · refine loop_of (fun q y w => ∃ (m : Nat) (now : Int) (l : List (Int × Int)) (s s2 : Seg), y = (now, (m : Int), ()) ∧ q + m = 12 ∧ l.length ≤ 8 ∧ LnS b 8 l s ∧ LnX b2 8 l s2 ∧ St w0 [s2, s] w) 12 ⟨0, 0, l, s, s2, rfl, rfl, hm, hl, hl2, h⟩ ?_
    clear hl hl2; (clear h; (try clear w))
    rintro q y w ⟨m, now, l, s, s2, rfl, hq, hm, hl, hl2, h⟩ again hag
    dsimp only
    refine it (fun hb => ?_) (fun hb => hk4 _ w ⟨l, s, s2, by omega, hl, hl2, h⟩)
    refine it (fun hb2 => ?_) (fun hb => hk4 _ w ⟨l, s, s2, by omega, hl, hl2, h⟩)
    simp only [decide_eq_true_eq] at hb hb2
    refine oldI o1 h (by omega) (by (try dsimp only); omega) fun x hx => ?_
    refine S_within (by omega) (by omega) ?_
    generalize IntKind.wrap .i64 (now + x % 6) = t
    have n2 := lLate_len l t
    have n3 := lRest_len l t
    refine S_Late h 1 rfl hl (by omega) fun v1 s r1 w hl hr1 h => ?_
    refine S_xLate h 1 rfl hl2 (by omega) fun v2 s2 r2 w hl2 hr2 h => ?_
    refine S_Ints h (hr1.re encI 1 rfl) (hr2.re encI 0 rfl) (by omega) fun w h => itF (by simp) ?_
    have h := dl0_ (dl0_ h)
    refine S_Late h 1 rfl hl (by omega) fun v1 s r1 w hl hr1 h => ?_
    rw [lLate_rest] at hr1
    rw [lRest_rest] at hl
    have e := Rw.len encI hr1
    refine itF (by rw [e]; rfl) ?_
    have h := dl0_ h
    refine S_All h 1 rfl hl (by omega) fun v1 r1 w hr1 h => ?_
    refine S_xAll h 1 rfl hl2 (by omega) fun v2 r2 w hr2 h => ?_
    refine S_Ints h (hr1.re encI 1 rfl) (hr2.re encI 0 rfl) (by simp; omega) fun w h => itF (by simp) ?_
    refine hag (q - 1) _ w (by omega) ⟨m + 1, t, _, s, s2, ?_, by omega, by omega, hl, hl2, dl0_ (dl0_ h)⟩
    rw [wr (by omega) (by omega)]; simp
  · refine S_wLen h 1 rfl hl (S_xLen h 0 rfl hl2 ⟨by simp, h.none⟩)
end Go.Proofs.Ytkccfgdgblkljaa
