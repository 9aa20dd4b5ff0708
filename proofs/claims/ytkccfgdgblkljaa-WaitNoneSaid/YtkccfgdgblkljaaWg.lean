/- Contracts of functions, and walks of laws (text Wg). No conditions beyond those its theorems state. -/
import Derived.Test.YtkccfgdgblkljaaWf
set_option linter.all false
namespace Go.Proofs.Ytkccfgdgblkljaa
open Go.Dm
attribute [local irreducible] L.load L.store L.chk L.new L.nonnil L.guard L.ite L.draw L.idx L.sem L.semR L.semU L.chkSem L.next L.call L.callV L.join L.alts L.loop L.begin L.endRound L.range
variable {w0 w : World} {E : List Seg}
theorem lHas_map (l : List (Int × Int)) (id : Int) : lHas l id = (l.map (·.1)).any (· == id) := by
  simp [lHas, List.any_map, Function.comp_def]
theorem W_WaitRoom {p0 : Int} {p1 : Sl} {xs : List Int} (o1 : Old w0 eI p1 xs) : Calls Pr n_damperlaw8_WaitRoom [I p0, SlV p1].toArray w0 fun e w' => e = .returned (.bool true) ∧ St w0 [] w' := by
  refine law_of (C_damperlaw8_WaitRoom p0 p1) ?_
  unfold F_damperlaw8_WaitRoom
  refine S_known (St.init w0) fun w h => itF rfl ?_
  refine S_within (by omega) (by omega) ?_
  refine S_wNew h fun b s w hl h => itF rfl ?_
  refine join_of (fun z w => St w0 [] w) (fun k4 hk4 => ?_) (fun z w h => ⟨rfl, h⟩)
  have h : St w0 [[], s] w := h.eq (by simp)
  refine loop_of (fun q y w => ∃ (m : Nat) (v : Sl) (l : List (Int × Int)) (s s2 : Seg), y = (v, (m : Int), ()) ∧ q + m = 60 ∧ l.length ≤ m ∧ LnS b (p0 % 9) l s ∧ Rw eI T_int 1 v (l.map (·.1)) s2 ∧ St w0 [s2, s] w) 60 ⟨0, _, [], s, [], rfl, rfl, by simp, hl, Rw.nil, h⟩ ?_
  clear hl; (clear h; (try clear w))
  rintro q y w ⟨m, v, l, s, s2, rfl, hq, hm, hl, hr, h⟩ again hag
  dsimp only
  refine it (fun hb => ?_) (fun hb => hk4 _ w h.none)
  refine it (fun hb2 => ?_) (fun hb => hk4 _ w h.none)
  simp only [decide_eq_true_eq] at hb hb2
  refine join_of (fun z w => ∃ (v : Sl) (l : List (Int × Int)) (s s2 : Seg), z = (v, ()) ∧ l.length ≤ m + 1 ∧ LnS b (p0 % 9) l s ∧ Rw eI T_int 1 v (l.map (·.1)) s2 ∧ St w0 [s2, s] w) (fun k8 hk8 => ?_) (fun z w ⟨v, l, s, s2, hz, hm, hl, hr, h⟩ => ?_)
  · refine oldI o1 h (by omega) (by (try dsimp only); omega) fun x hx => ?_
    refine S_within (by omega) (by omega) ?_
    have ew : IntKind.wrap .i64 (1 + x % 12) = 1 + x % 12 := by rw [wr] <;> omega
    rw [ew]
    generalize 1 + x % 12 = id
    have hlen := Rw.len encI hr
    rw [List.length_map] at hlen
    refine loop_of (fun q y w => ∃ (j : Nat), y = (((l.map (·.1)).take j).any (· == id), (j : Int), ()) ∧ q + j = l.length ∧ St w0 [s2, s] w) l.length ⟨0, rfl, rfl, h⟩ ?_
    clear h; (try clear w)
    rintro q2 y w ⟨j, rfl, hq2, h⟩ again2 hag2
    dsimp only
    refine it (fun hc => ?_) (fun hc => ?_)
    · simp only [decide_eq_true_eq] at hc
      have hj : j < l.length := by omega
      have hxj : (l.map (·.1))[j]? = some l[j].1 := by simp [hj]
      have e : ((l.map (·.1)).take (j + 1)).any (· == id) = (((l.map (·.1)).take j).any (· == id) || l[j].1 == id) := by
        rw [List.take_add_one, hxj]; simp
      refine join_of (fun z w => z = (((l.map (·.1)).take (j + 1)).any (· == id), ()) ∧ St w0 [s2, s] w) (fun k15 hk15 => ?_) (fun z w ⟨hz, h⟩ => ?_)
      · refine it (fun hd => hk15 _ w ⟨by rw [e, hd]; rfl, h⟩) (fun hd => ?_)
        refine Rw.ix encI hr (by omega) (by simpa using hj) fun a ha => ?_
        refine Rw.ld0 encI h 0 rfl hr ha (x := l[j].1) (by simp [hj]) rfl rfl ?_
        exact hk15 _ w ⟨by rw [e, hd]; rfl, h⟩
      · subst hz
        refine hag2 (q2 - 1) _ w (by omega) ⟨j + 1, ?_, by omega, h⟩
        rw [wr (by omega) (by omega)]; simp
    simp only [decide_eq_false_iff_not] at hc
    obtain rfl : j = l.length := by omega
    have et : ((l.map (·.1)).take l.length).any (· == id) = lHas l id := by
      rw [lHas_map, List.take_of_length_le (by simp)]
    rw [et]
    refine join_of (fun z w => ∃ (v : Sl) (s2 : Seg), z = (v, (lPush (p0 % 9) l id 5).2, ()) ∧ Rw eI T_int 1 v ((lPush (p0 % 9) l id 5).1.map (·.1)) s2 ∧ St w0 [s2, s] w) (fun k19 hk19 => ?_) (fun z w ⟨v, s2, hz, hr, h⟩ => ?_)
    · refine it (fun hd => ?_) (fun hd => ?_)
      · have e : lPush (p0 % 9) l id 5 = (l, 5) := by simp [lPush, hd]
        rw [e] at hk19
        exact hk19 _ w ⟨v, s2, rfl, hr, h⟩
      refine it (fun hd2 => ?_) (fun hd2 => ?_) <;> simp only [decide_eq_true_eq, decide_eq_false_iff_not] at hd2
      · have e : lPush (p0 % 9) l id 5 = (l, 8) := by simp only [lPush, hd]; rw [if_neg (by simp), if_pos (by omega)]
        rw [e] at hk19
        exact hk19 _ w ⟨v, s2, rfl, hr, h⟩
      · have e : lPush (p0 % 9) l id 5 = (l ++ [(id, 5)], 0) := by simp only [lPush, hd]; rw [if_neg (by simp), if_neg (by omega)]
        rw [e] at hk19
        refine nw h ?_; clear h; (try clear w); intro b21 w h
        refine Rw.app encI elI h 0 rfl hr id rfl (by simp; omega) (by simp; omega) fun v' s' w hr h => ?_
        refine hk19 _ w ⟨v', s', rfl, ?_, h⟩
        rw [List.map_append]; exact hr
    subst hz
    dsimp only
    have hpl := lPush_len (p0 % 9) l id 5
    refine S_Push h 1 rfl hl (by omega) fun s w hl h => itF (by simp) ?_
    generalize (lPush (p0 % 9) l id 5).1 = l at hl hr hpl
    refine S_All h 1 rfl hl (by omega) fun v3 s3 w hr3 h => ?_
    refine S_Ints h (hr3.re encI 0 rfl) (hr.re encI 1 rfl) (by simp; omega) fun w h => itF (by simp) ?_
    have h := dl0_ h
    refine oldI o1 h (by omega) (by (try dsimp only); omega) fun x2 hx2 => ?_
    refine gd (by omega) (S_within (by omega) (by omega) ?_)
    have hlen := Rw.len encI hr
    rw [List.length_map] at hlen
    refine it (fun hd => ?_) (fun hd => hk8 _ w ⟨v, l, s, s2, rfl, by omega, hl, hr, h⟩)
    refine it (fun hd2 => ?_) (fun hd => hk8 _ w ⟨v, l, s, s2, rfl, by omega, hl, hr, h⟩)
    simp only [decide_eq_true_eq] at hd2
    cases l with
    | nil => simp only [List.length_nil] at hlen; omega
    | cons x0 l =>
      refine S_Pop h 1 rfl hl (by omega) fun s w hl h => itF rfl ?_
      refine Rw.ix encI hr (by omega) (by simp) fun a ha => ?_
      refine Rw.ld0 encI h 0 rfl hr ha (x := x0.1) (by simp) rfl rfl ?_
      have hcap := hr.cap
      refine itF (by simp [lPop]) (gd (by omega) ?_)
      refine hk8 _ w ⟨_, l, s, s2, rfl, by simp only [List.length_cons] at hpl; omega, hl, ?_, h⟩
      have := Rw.behind encI hr 1 (by simp)
      simpa [Int.toNat_natCast] using this
  · subst hz
    refine hag (q - 1) _ w (by omega) ⟨m + 1, v, l, s, s2, ?_, by omega, hm, hl, hr, h⟩
    rw [wr (by omega) (by omega)]; simp
end Go.Proofs.Ytkccfgdgblkljaa
