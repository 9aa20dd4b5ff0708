/- Contracts of functions, and walks of laws (text Gy). No conditions beyond those its theorems state. -/
import Derived.Test.YthmpbgloifdcnaaGw
set_option linter.all false
namespace Go.Proofs.Ythmpbgloifdcnaa
open Go.Dm
attribute [local irreducible] L.load L.store L.chk L.new L.nonnil L.guard L.ite L.draw L.idx L.sem L.semR L.semU L.chkSem L.next L.call L.callV L.join L.alts L.loop L.begin L.endRound L.range
variable {w0 w : World} {E : List Seg}
/-- those who come while there is no pod with room: a loop's round -/
theorem S_gWaitM {sg sf : Seg} (h : St w0 (sg :: sf :: E) w) {b bf : Nat} {G : AGate} {F : AFleet} (hg : GtS b bf G sg) (hf : FlS bf F sf) (hfew : FFew F) {rev : ByteArray} {B m s : Nat} {g : Nat → ByteArray × Int} {room pat : Int} (W : GW G rev B m g (lnT s (m - s) pat) room pat) (hsm : s ≤ m) (hr : rev ≠ s_)
    (hno : ¬ ((lnT s (m - s) pat).length = 0 ∧ (fTake F rev ((m : Int) + 1)).2.2 = true)) (hl : ((m - s : Nat) : Int) < room) (hB : B < 1000) (hm : m < 1000) (hp : -1000 < pat ∧ pat < 1000) {k : Sl → PT}
    (hk : ∀ v sv sg' G' w', Rw Fate.cells T_gate_Fate 4 v [((m : Int) + 1, 2, 0, s_, ())] sv → GtS b bf G' sg' → GW G' rev (B + 1) (m + 1) (fun j => if j = m then (rev, 2) else g j) (lnT s (m + 1 - s) pat) room pat → (∃ sf', FlS bf F sf' ∧ St w0 (sv :: sg' :: sf' :: E) w') → k v w') :
    L.call Pr n_gate_Gate_Arrive [.pointer (some ⟨b, 0, none⟩), I ((m : Int) + 1), .string rev, I 0] (.one (.one .slice)) k w := by
  obtain ⟨G', e, W'⟩ := W.wait hr hno (lnT_ne (by omega)) (by rw [lnT_len]; exact hl)
  have hA := W.all; have hnl := W.nl; have hpat := W.pat
  refine S_gArr h hg hf hfew (by rw [hA, rqT_len]; omega) (by omega) (by rw [hpat]; omega) fun v sv sg sf w hv hg hf h => ?_
  rw [e] at hv hg hf
  refine hk v sv sg G' w hv hg ?_ ⟨sf, hf, h⟩
  have e1 : m + 1 - s = m - s + 1 := by omega
  rw [e1, lnT_snoc]
  have e2 : (s : Int) + 1 + ((m - s : Nat) : Int) = (m : Int) + 1 := by omega
  rw [e2]; exact W'
theorem W_GateFlows (p0 p1 p2 : Int) : Calls Pr n_damperlaw14_GateFlows #[I p0, I p1, I p2] w0 fun e w' => e = .returned (.bool true) ∧ St w0 [] w' := by
  refine law_of (args := [I p0, I p1, I p2]) (C_damperlaw14_GateFlows p0 p1 p2) ?_
  unfold F_damperlaw14_GateFlows
  have h := St.init w0
  refine S_known14 h fun w h => itF rfl ?_
  refine S_fNew h fun bf sf w hf h => itF rfl ?_
  refine S_gNew h (by decide) (by decide) fun b sg w hg h => itF rfl ?_
  have hm0 := Int.emod_nonneg p0 (by decide : (9 : Int) ≠ 0)
  have hm1 := Int.emod_lt_of_pos p0 (by decide : (0 : Int) < 9)
  have hp0 := Int.emod_nonneg p1 (by decide : (6 : Int) ≠ 0)
  have hp1 := Int.emod_lt_of_pos p1 (by decide : (0 : Int) < 6)
  have hc0 := Int.emod_nonneg p2 (by decide : (3 : Int) ≠ 0)
  have hc1 := Int.emod_lt_of_pos p2 (by decide : (0 : Int) < 3)
  refine S_within14 (by decide) (by decide) ?_
  refine S_within14 (by decide) (by decide) ?_
  refine S_within14 (by decide) (by decide) ?_
  rw [wr (n := 1 + p1 % 6) (by omega) (by omega), wr (n := 1 + p2 % 3) (by omega) (by omega)]
  obtain ⟨M, hM⟩ : ∃ M : Nat, p0 % 9 = M := ⟨(p0 % 9).toNat, by omega⟩
  obtain ⟨p, hp⟩ : ∃ p : Nat, 1 + p1 % 6 = p := ⟨(1 + p1 % 6).toNat, by omega⟩
  obtain ⟨c, hc⟩ : ∃ c : Nat, 1 + p2 % 3 = c := ⟨(1 + p2 % 3).toNat, by omega⟩
  rw [hM, hp, hc]
  have f0 : FFew ⟨10, 0, []⟩ := ⟨by decide, by decide, by simp⟩
  have W0 : GW ⟨[], [], 8, 50⟩ s_a_1 0 0 (gS 0) (lnT 0 0 50) 8 50 := ⟨rfl, rfl, by simp, rfl, rfl⟩
  refine loop_of (fun q y w => ∃ (i : Nat) (G : AGate) (sg sf : Seg), y = ((i : Int) + 1, ()) ∧ q + i = M ∧ GW G s_a_1 i i (gS 0) (lnT 0 i 50) 8 50 ∧ GtS b bf G sg ∧ FlS bf ⟨10, 0, []⟩ sf ∧ St w0 (sg :: sf :: []) w) M ⟨0, _, sg, sf, rfl, rfl, W0, hg, hf, h⟩ ?_
  clear hf hg W0
  clear h; (try clear w)
  rintro q y w ⟨i, G, sg, sf, rfl, hq, W, hg, hf, h⟩ again hag
  dsimp only
  refine it (fun hb => ?_) (fun hb => ?_) <;> (try simp only [decide_eq_true_eq, decide_eq_false_iff_not, beq_iff_eq, bne_iff_ne, beq_eq_false_iff_ne, bne_eq_false_iff_eq, Bool.not_eq_true', Bool.not_eq_false', ne_eq, Bool.not_eq_true, Bool.not_eq_false] at hb)
  · refine S_gWaitM (s := 0) (m := i) (B := i) (g := gS 0) (room := 8) (pat := 50) h hg hf f0 (by simpa using W) (by omega) ne_a1 (fun hh => by have := hh.2; rw [fTake_other (by simp)] at this; cases this) (by omega) (by omega) (by omega) (by decide) fun v sv sg G' w hv hg W' ⟨sf, hf, h⟩ => ?_
    rw [wr (by omega) (by omega)]
    refine hag (q - 1) _ w (by omega) ⟨i + 1, G', sg, sf, by simp, by omega, ?_, hg, hf, dl0_ h⟩
    obtain ⟨a1, a2, a3, a4, a5⟩ := W'
    refine ⟨?_, by simpa using a2, a3, a4, a5⟩
    rw [a1]
    refine rqT_congr fun j hj => ?_
    have : gS 0 j = (s_a_1, 2) := by unfold gS; rw [if_neg (by omega)]
    rw [this]; split <;> rfl
  · have e : i = M := by omega
    subst e
    refine S_fScale h 1 rfl hf (by decide) (by decide) fun v1 v2 sf s1 s2 w hf hr1 hr2 h => ?_
    obtain ⟨e1, -⟩ := tf_scale (R := 10) (rv := s_a_1) c (n := p) (by omega)
    rw [e1] at hf
    have h : St w0 (s2 :: s1 :: sg :: sf :: []) w := h
    have h := dl0_ (dl0_ h)
    have I0 : FlowsI p c 0 0 i (fun _ => []) := ⟨⟨fun i _ => by simp, fun i _ _ => rfl, tot_nil p, fun i _ q hq => by cases hq⟩, by omega, fun _ i hi => by omega⟩
    have hf0 : FlS bf (TF 10 s_a_1 p c (fun i => decide (i < 0)) (fun _ => [])) sf := by simpa using hf
    refine loop_of (fun q y w => ∃ (j s : Nat) (rs : Nat → List Int) (G : AGate) (sg sf : Seg), y = ((s : Int) + 1, (j : Int) + 1, ()) ∧ q + j = p ∧ FlowsI p c j s i rs ∧ GW G s_a_1 (i + j) i (gS s) (lnT s (i - s) 50) 8 50 ∧ GtS b bf G sg ∧ FlS bf (TF 10 s_a_1 p c (fun i => decide (i < j)) rs) sf ∧ St w0 (sg :: sf :: []) w) p
      ⟨0, 0, _, G, sg, sf, rfl, rfl, I0, by simpa using W, hg, hf0, h⟩ ?_
    clear I0 hf0 hf W hg hr1 hr2
    clear h; (try clear w)
    rintro q y w ⟨j, s, rs, G, sg, sf, rfl, hq, I, W, hg, hf, h⟩ again hag
    dsimp only
    have hsM : s ≤ i := by have := I.se; omega
    refine it (fun hb => ?_) (fun hb => ?_) <;> (try simp only [decide_eq_true_eq, decide_eq_false_iff_not, beq_iff_eq, bne_iff_ne, beq_eq_false_iff_ne, bne_eq_false_iff_eq, Bool.not_eq_true', Bool.not_eq_false', ne_eq, Bool.not_eq_true, Bool.not_eq_false] at hb)
    · have hj : j < p := by omega
      obtain ⟨eu, s', rs', ef, hss, hd, I'⟩ := I.step (R := 10) hj (u := 50)
      have hs'M : s' ≤ i := by have := I'.se; omega
      refine S_fUpp h 1 rfl hf fun sf w hf h => ?_
      rw [eu] at hf ⊢
      refine itF rfl ?_
      obtain ⟨G', eg, W'⟩ := W.flow ef
      have hA := W.all; have hnl := W.nl
      have t1 : TL p c s s (fun i => decide (i < j + 1)) rs := ⟨I.t.len, fun i hi hr => I.t.nr i hi (by simp at hr ⊢; omega), I.t.tot, I.t.b⟩
      refine S_gFlow h hg hf (tf_few t1 (by decide) (by omega) (by omega)) (by rw [hA, rqT_len]; omega) (by omega) fun v sv sg sf w hv hg hf h => ?_
      rw [eg] at hv hg hf
      dsimp only at hv hg hf
      have hl := Rw.len encF hv
      rw [tab_len] at hl
      rw [wr (n := (i : Int) - ((s : Int) + 1)) (by omega) (by omega), wr (n := (i : Int) - ((s : Int) + 1) + 1) (by omega) (by omega)]
      refine itF ?_ ?_
      · simp only [bne_eq_false_iff_eq]
        rw [hl, hd]
        repeat split
        all_goals omega
      · refine loop_of (fun q2 y w => ∃ t : Nat, y = ((s : Int) + 1 + t, (t : Int), ()) ∧ q2 + t = s' - s ∧ St w0 (sv :: sg :: sf :: []) w) (s' - s) ⟨0, by simp, rfl, h⟩ ?_
        clear h; (try clear w)
        rintro q2 y w ⟨t, rfl, hq2, h⟩ again2 hag2
        dsimp only
        refine it (fun hb2 => ?_) (fun hb2 => ?_) <;> (try simp only [decide_eq_true_eq, decide_eq_false_iff_not, beq_iff_eq, bne_iff_ne, beq_eq_false_iff_ne, bne_eq_false_iff_eq, Bool.not_eq_true', Bool.not_eq_false', ne_eq, Bool.not_eq_true, Bool.not_eq_false] at hb2)
        · have ht : t < s' - s := by omega
          have hx : (tab (s' - s) fun i => (((s : Int) + 1 + i, 1, (j : Int) + 1, s_, ()) : Fate))[((t : Int)).toNat]? = some ((s : Int) + 1 + t, 1, (j : Int) + 1, s_, ()) := by rw [Int.toNat_natCast, tab_at ht]
          refine rf (Rw.rd encF h 0 rfl hv) hx (by omega) rfl rfl (itF (by simp) ?_)
          refine rf (Rw.rd encF h 0 rfl hv) hx (by omega) rfl rfl (itF rfl ?_)
          refine rf (Rw.rd encF h 0 rfl hv) hx (by omega) rfl rfl (itF (by simp) ?_)
          rw [wr (n := (s : Int) + 1 + t + 1) (by omega) (by omega), wr (n := (t : Int) + 1) (by omega) (by omega)]
          exact hag2 (q2 - 1) _ w (by omega) ⟨t + 1, by simp; omega, by omega, h⟩
        · have et : t = s' - s := by omega
          subst et
          rw [wr (n := (j : Int) + 1 + 1) (by omega) (by omega)]
          refine hag (q - 1) _ w (by omega) ⟨j + 1, s', rs', G', sg, sf, ?_, by omega, I', W', hg, hf, dl0_ h⟩
          have a1 : (s : Int) + 1 + ((s' - s : Nat) : Int) = (s' : Int) + 1 := by omega
          have a2 : (j : Int) + 1 + 1 = ((j + 1 : Nat) : Int) + 1 := by omega
          rw [a1, a2]
    · have ej : j = p := by omega
      have hA := W.all; have hnl := W.nl
      refine S_gInside h hg fun v1 v2 s1 s2 sg w hr1 hr2 hg h => ?_
      have l1 := Rw.len encI hr1
      have l2 := Rw.len encI hr2
      have hwl : (gWait G s_a_1).length = i - s := by rw [W.waits, List.length_map, lnT_len]
      have hsl : (gWith G.all s_a_1).length = s := by
        rw [W.withs]
        have : ((List.range i).filter fun i => decide (gS s i = (s_a_1, 1))) = (List.range i).filter fun i => decide (i < s) := by
          refine List.filter_congr fun x _ => ?_
          apply decide_eq_decide.2
          unfold gS
          split
          · rename_i h; simp [h]
          · rename_i h; simp [h]
        rw [this]; exact count_lt hsM
      rw [hwl] at l1
      rw [hsl] at l2
      rw [wr (n := (s : Int) + 1 - 1) (by omega) (by omega), wr (n := (i : Int) - ((s : Int) + 1)) (by omega) (by omega), wr (n := (i : Int) - ((s : Int) + 1) + 1) (by omega) (by omega)]
      refine itT (by rw [l2]; simp) (itT (by rw [l1, beq_iff_eq]; omega) ?_)
      have h := fr2_ h
      refine S_gBusy h hg fun sg w hg h => ?_
      refine ⟨?_, h.fin⟩
      rw [hwl, hsl]
      have : (((i - s : Nat) : Int) + (s : Int) == (i : Int)) = true := by rw [beq_iff_eq]; omega
      rw [this]
end Go.Proofs.Ythmpbgloifdcnaa
