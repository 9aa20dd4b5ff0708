/- Contracts of functions, and walks of laws (text Fl). No conditions beyond those its theorems state. -/
import Derived.Test.YtheikjckdnhdhaaFk
import Derived.Test.YtheikjckdnhdhaaIn
import Derived.Test.YtheikjckdnhdhaaFf
set_option linter.all false
namespace Go.Proofs.Ytheikjckdnhdhaa
open Go.Dm
attribute [local irreducible] L.load L.store L.chk L.new L.nonnil L.guard L.ite L.draw L.idx L.sem L.semR L.semU L.chkSem L.next L.call L.callV L.join L.alts L.loop L.begin L.endRound L.range
variable {w0 w : World} {E : List Seg}
def fUpp (F : AFleet) (id : Int) : AFleet × Int := match fFind F.l id with
  | none => (F, 6)
  | some x => ({ F with l := fUpd F.l id fun p => (podUp p).1 }, (podUp x.pod).2)
theorem S_fUpp (h : St w0 E w) (i : Nat) {b : Nat} {F : AFleet} {s : Seg} (hi : nth E i = some s) (hf : FlS b F s) {id : Int} {k : Int → PT}
    (hk : ∀ s' w', FlS b (fUpp F id).1 s' → St w0 (setN E i s') w' → k (fUpp F id).2 w') :
    L.call Pr n_fleet_Fleet_Up [.pointer (some ⟨b, 0, none⟩), I id] (.one (.one (.int .i64))) k w := by
  refine S_fUp h i hi hf (fun hn w h => ?_) (fun x hx s' w hf h => ?_)
  · have e : fUpp F id = (F, 6) := by unfold fUpp; rw [hn]
    rw [e] at hk
    exact hk s w hf (by rwa [setN_self hi])
  · have e : fUpp F id = ({ F with l := fUpd F.l id fun p => (podUp p).1 }, (podUp x.pod).2) := by unfold fUpp; rw [hx]
    rw [e] at hk
    exact hk s' w hf h
/-! ### FleetDrains -/
def rq (n : Nat) : List Int := (List.range n).map fun j : Nat => (j : Int) + 1
theorem rq_len (n : Nat) : (rq n).length = n := by simp [rq]
theorem rq_mem {n : Nat} {x : Int} : x ∈ rq n ↔ 1 ≤ x ∧ x ≤ n := by
  simp only [rq, List.mem_map, List.mem_range]
  constructor
  · rintro ⟨j, hj, rfl⟩; omega
  · intro h; exact ⟨(x - 1).toNat, by omega, by omega⟩
theorem rq_succ (n : Nat) : rq (n + 1) = rq n ++ [(n : Int) + 1] := by simp [rq, List.range_succ]
theorem insI_end {x : Int} : ∀ {l : List Int}, (∀ y ∈ l, y < x) → insI x l = l ++ [x]
  | [], _ => rfl
  | y :: l, h => by
    simp only [insI, List.cons_append]
    rw [if_pos (h y (by simp)), insI_end fun z hz => h z (by simp [hz])]
theorem rq_drop {n j : Nat} (h : j < n) : (rq n).drop j = ((j : Int) + 1) :: (rq n).drop (j + 1) := by
  have hl : j < (rq n).length := by rw [rq_len]; exact h
  rw [List.drop_eq_getElem_cons hl]
  congr 1
  simp [rq]
/-- one pod, alone -/
abbrev one1 (c st : Int) (l : List Int) : AFleet := ⟨2, 1, [⟨1, s_a_1, ⟨st, c, l⟩⟩]⟩
theorem d_scale (c : Int) : fScale ⟨2, 0, []⟩ s_a_1 c 1 = (one1 c 1 [], []) := rfl
theorem d_up (c : Int) : fUpp (one1 c 1 []) 1 = (one1 c 2 [], 0) := rfl
theorem d_pick (c st : Int) (l : List Int) : fPick (one1 c st l).l s_a_1 = if st = 2 ∧ (l.length : Int) < c then some ⟨1, s_a_1, ⟨st, c, l⟩⟩ else none := by
  simp [fPick, revs, pickStep, can]
theorem d_where (c st q : Int) (l : List Int) : fWhere (one1 c st l).l q = if q ∈ l then some ⟨1, s_a_1, ⟨st, c, l⟩⟩ else none := by
  simp only [fWhere, one1]
  by_cases h : q ∈ l
  · rw [List.find?_cons_of_pos (by simpa using h), if_pos h]
  · rw [List.find?_cons_of_neg (by simpa using h), if_neg h]; rfl
theorem d_take (c : Int) (j : Nat) (h : (j : Int) < c) : fTake (one1 c 2 (rq j)) s_a_1 ((j : Int) + 1) = (one1 c 2 (rq (j + 1)), 1, true) := by
  have e1 : fWhere (one1 c 2 (rq j)).l ((j : Int) + 1) = none := by rw [d_where, if_neg (by rw [rq_mem]; omega)]
  have e2 : fPick (one1 c 2 (rq j)).l s_a_1 = some ⟨1, s_a_1, ⟨2, c, rq j⟩⟩ := by rw [d_pick, if_pos ⟨rfl, by rw [rq_len]; exact h⟩]
  unfold fTake
  rw [e1, e2]
  simp only [Option.isSome_none, Bool.false_eq_true, if_false]
  have ht : podTake ⟨2, c, rq j⟩ ((j : Int) + 1) = (⟨2, c, rq (j + 1)⟩, 0) := by
    rw [take_eq (x := ⟨1, s_a_1, ⟨2, c, rq j⟩⟩) (by simp [can, rq_len, h]) (by rw [rq_mem]; omega)]
    rw [insI_end (fun y hy => by rw [rq_mem] at hy; omega), rq_succ]
  simp only [fUpd, one1, List.filterMap_cons, List.filterMap_nil, if_pos, ht]
  rfl
/-- behind Scale to none, and j answers -/
def drn (c : Int) (m j : Nat) : AFleet := if j = m then ⟨2, 1, []⟩ else one1 c 3 ((rq m).drop j)
theorem d_down (c : Int) (m : Nat) : fScale (one1 c 2 (rq m)) s_a_1 c 0 = (drn c m 0, [1]) := by
  have h0 : fCount (one1 c 2 (rq m)).l s_a_1 = 1 := by simp [fCount, revs, isUp]
  have h1 : growN (one1 c 2 (rq m)) s_a_1 0 = 0 := by have := growN_eq (one1 c 2 (rq m)) s_a_1 0; rw [h0] at this; omega
  have h2 : shrinkN (one1 c 2 (rq m)) s_a_1 0 = 1 := by have := shrinkN_eq (one1 c 2 (rq m)) s_a_1 0; rw [h0] at this; omega
  have h3 : fSpare (one1 c 2 (rq m)).l s_a_1 = 1 := by simp [fSpare, revs, spStep]
  unfold fScale fGrown
  rw [h1]
  show shrink s_a_1 (shrinkN (one1 c 2 (rq m)) s_a_1 0) (one1 c 2 (rq m)) = _
  rw [h2]
  simp only [shrink, drain1, h3, fUpd, one1, List.filterMap_cons, List.filterMap_nil, if_pos]
  rw [show (podDrain ⟨2, c, rq m⟩).1 = { (⟨2, c, rq m⟩ : APod) with st := if rq m = [] then 4 else 3 } from drain_eq (.inr rfl)]
  unfold drn
  by_cases hm : m = 0
  · subst hm; rfl
  · have : rq m ≠ [] := fun e => hm (by rw [← rq_len m, e]; rfl)
    simp only [if_neg this]
    rw [if_neg (show ¬ 0 = m from fun e => hm e.symm), if_neg (show ¬ (3 : Int) = 4 by decide)]
    rfl
theorem d_give (c : Int) (m j : Nat) (h : j < m) : fGive (drn c m j) ((j : Int) + 1) = (drn c m (j + 1), s_a_1, 0) := by
  unfold drn fGive
  rw [if_neg (by omega)]
  have hd := rq_drop h
  have hmem : (j : Int) + 1 ∈ (rq m).drop j := by rw [hd]; simp
  rw [d_where, if_pos hmem]
  simp only
  have ht := give_eq (p := ⟨3, c, (rq m).drop j⟩) hmem
  simp only [true_and] at ht
  have he : ((rq m).drop j).erase ((j : Int) + 1) = (rq m).drop (j + 1) := by rw [hd, List.erase_cons_head]
  rw [he] at ht
  have hl : ((rq m).drop (j + 1)).length = m - (j + 1) := by rw [List.length_drop, rq_len]
  simp only [fUpd, one1, List.filterMap_cons, List.filterMap_nil, if_pos, ht]
  by_cases hm : j + 1 = m
  · have : (rq m).drop (j + 1) = [] := List.eq_nil_of_length_eq_zero (by omega)
    rw [if_pos hm, this]; rfl
  · have : (rq m).drop (j + 1) ≠ [] := fun e => by rw [e] at hl; simp at hl; omega
    rw [if_neg hm, if_neg this]; rfl
theorem W_FleetDrains {p0 p1 : Int} : Calls Pr n_damperlaw11_FleetDrains [I p0, I p1].toArray w0 fun e w' => e = .returned (.bool true) ∧ St w0 [] w' := by
  refine law_of (C_damperlaw11_FleetDrains p0 p1) ?_
  unfold F_damperlaw11_FleetDrains
  refine S_known (St.init w0) fun w h => itF rfl ?_
  refine S_fNew h fun b s w hf h => itF rfl ?_
  refine S_within (by omega) (by omega) ?_
  rw [wr (n := 1 + p1 % 8) (by omega) (by omega)]
  have hc1 : 1 ≤ 1 + p1 % 8 := by omega
  have hc2 : 1 + p1 % 8 ≤ 8 := by omega
  generalize 1 + p1 % 8 = c at hc1 hc2
  rw [wr (n := c + 1) (by omega) (by omega)]
  refine S_within (by omega) (by omega) ?_
  have hm1 := Int.emod_nonneg p0 (show c + 1 ≠ 0 by omega)
  have hm2 := Int.emod_lt_of_pos p0 (show 0 < c + 1 by omega)
  obtain ⟨m, hm⟩ := Int.eq_ofNat_of_zero_le hm1
  rw [hm] at hm2 ⊢
  clear hm hm1
  refine S_fScale h 0 rfl hf (by decide) (by decide) fun v1 v2 s s1 s2 w hf hr1 hr2 h => ?_
  rw [d_scale] at hf
  have h : St w0 [s2, s1, s] w := h
  have h := dl0_ (dl1_ h)
  refine S_fUpp h 0 rfl hf fun s w hf h => ?_
  rw [d_up] at hf ⊢
  refine itF rfl ?_
  refine loop_of (fun q y w => ∃ (j : Nat) (s : Seg), y = ((j : Int) + 1, ()) ∧ q + j = m ∧ FlS b (one1 c 2 (rq j)) s ∧ St w0 [s] w) m ⟨0, s, rfl, rfl, hf, h⟩ ?_
  clear hf; (clear h; (try clear w))
  rintro q y w ⟨j, s, rfl, hq, hf, h⟩ again hag
  dsimp only
  refine it (fun hd => ?_) (fun hd => ?_) <;> (try simp only [decide_eq_true_eq, decide_eq_false_iff_not, beq_iff_eq, bne_iff_ne, beq_eq_false_iff_ne, bne_eq_false_iff_eq, Bool.not_eq_true', Bool.not_eq_false', ne_eq, Bool.not_eq_true, Bool.not_eq_false] at hd)
  · refine S_fTake h 0 rfl hf (by simp [revs]) (by simp [rq_len]; omega) fun s w hf h => ?_
    rw [d_take c j (by omega)] at hf ⊢
    refine itF rfl ?_
    refine hag (q - 1) _ w (by omega) ⟨j + 1, s, ?_, by omega, hf, h⟩
    rw [wr (by omega) (by omega)]; simp
  have hj : j = m := by omega
  subst hj
  refine S_fScale h 0 rfl hf (by show (2 : Int) < _; decide) (by show (1 : Int) + 2 < _; decide) fun v1 v2 s s1 s2 w hf hr1 hr2 h => ?_
  rw [d_down] at hf hr2
  refine nw h ?_; clear h; (try clear w); intro b11 w h
  have h : St w0 [[Cl b11 T_int [I 1]], s2, s1, s] w := h
  refine S_Ints h (Rw.re encI 1 rfl hr2) (Rw.re encI 0 rfl (Rw.lit b11 [1] encI rfl rfl (by simp [maxLen]))) (by simp) fun w h => ?_
  refine itF rfl ?_
  have h : St w0 [s] w := dl0_ (dl1_ (dl2_ h))
  have hlive : ((drn c j 0).l.length : Int) = if 1 < (j : Int) then (1 : Int) else (j : Int) := by
    unfold drn
    by_cases h0 : 0 = j
    · subst h0; rfl
    · rw [if_neg h0]
      show ((1 : Nat) : Int) = _
      split <;> omega
  refine S_fLive h 0 rfl hf (itF (by rw [hlive]; simp) ?_)
  have hrl : (revs (drn c j 0).l s_a_1).length ≤ 20 := by unfold drn; split <;> simp [revs]
  have htk : fTake (drn c j 0) s_a_1 99 = (drn c j 0, 0, false) := by
    unfold drn fTake
    split
    · rfl
    · have e1 : fWhere (one1 c 3 ((rq j).drop 0)).l 99 = none := by rw [d_where, if_neg (by rw [List.drop_zero, rq_mem]; omega)]
      have e2 : fPick (one1 c 3 ((rq j).drop 0)).l s_a_1 = none := by rw [d_pick, if_neg (by simp)]
      rw [e1, e2]; rfl
  refine S_fTake h 0 rfl hf hrl (by unfold drn; split <;> simp [rq_len]; omega) fun s w hf h => ?_
  rw [htk] at hf ⊢
  refine itF rfl ?_
  refine loop_of (fun q y w => ∃ (i : Nat) (s : Seg), y = ((j : Int) - i, (i : Int) + 1, ()) ∧ q + i = j ∧ FlS b (drn c j i) s ∧ St w0 [s] w) j ⟨0, s, by simp, rfl, hf, h⟩ ?_
  clear hf hr1 hr2; (clear h; (try clear w))
  rintro q y w ⟨i, s, rfl, hq, hf, h⟩ again hag
  dsimp only
  refine it (fun hd => ?_) (fun hd => ?_) <;> (try simp only [decide_eq_true_eq, decide_eq_false_iff_not, beq_iff_eq, bne_iff_ne, beq_eq_false_iff_ne, bne_eq_false_iff_eq, Bool.not_eq_true', Bool.not_eq_false', ne_eq, Bool.not_eq_true, Bool.not_eq_false] at hd)
  · have hi : i < j := by omega
    have ed : drn c j i = one1 c 3 ((rq j).drop i) := if_neg (by omega)
    have hpods : fPods (drn c j i).l s_a_1 = [(1, 3, (j : Int) - i)] := by
      rw [ed]; simp [fPods, revs, look, rq_len]; omega
    refine S_fOf h 0 rfl hf (itF ?_ ?_)
    · rw [ed, str_eq]; rfl
    refine S_fPods h 0 rfl hf fun v s' w hr h => ?_
    rw [hpods] at hr
    have hl := Rw.len encK hr
    refine itF (by simp [hl]) ?_
    refine S_fPods h 1 rfl hf fun v2 s2 w hr2 h => ?_
    rw [hpods] at hr2
    refine Rw.ix encK hr2 (by omega) (by simp) fun a ha => ?_
    refine Rw.ld encK h 0 rfl hr2 ha (x := (1, 3, (j : Int) - i)) rfl (f := 2) rfl rfl ?_
    refine itF (by simp) ?_
    refine S_fGive h 2 rfl hf fun s w hf h => ?_
    rw [d_give c j i hi] at hf ⊢
    refine itF rfl (itF (by rw [str_eq]; simp) ?_)
    have h : St w0 [s2, s', s] w := h
    refine hag (q - 1) _ w (by omega) ⟨i + 1, s, ?_, by omega, hf, dl0_ (dl0_ h)⟩
    rw [wr (by omega) (by omega), wr (by omega) (by omega)]
    congr 1
    · omega
  · have hi : i = j := by omega
    subst hi
    have ed : drn c i i = ⟨2, 1, []⟩ := if_pos rfl
    rw [ed] at hf
    refine S_fOf h 0 rfl hf (itT (by rw [str_eq]; rfl) ?_)
    refine S_fLive h 0 rfl hf (itT rfl ?_)
    refine S_fPods h 0 rfl hf fun v s' w hr h => ?_
    have hl := Rw.len encK hr
    refine itT (by rw [hl]; rfl) ?_
    refine S_fUpp h 1 rfl hf fun s w hf h => ⟨rfl, h.fin⟩
end Go.Proofs.Ytheikjckdnhdhaa
