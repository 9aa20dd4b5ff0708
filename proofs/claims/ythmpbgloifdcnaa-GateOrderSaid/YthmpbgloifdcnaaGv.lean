/- Contracts of functions, and walks of laws (text Gv). No conditions beyond those its theorems state. -/
import Derived.Test.YthmpbgloifdcnaaGu
set_option linter.all false
namespace Go.Proofs.Ythmpbgloifdcnaa
open Go.Dm
attribute [local irreducible] L.load L.store L.chk L.new L.nonnil L.guard L.ite L.draw L.idx L.sem L.semR L.semU L.chkSem L.next L.call L.callV L.join L.alts L.loop L.begin L.endRound L.range
variable {w0 w : World} {E : List Seg}
theorem lineOf_mset (ls : List (ByteArray × List (Int × Int))) (r r' : ByteArray) (l : List (Int × Int)) : lineOf (mset ls r l) r' = if r = r' then l else lineOf ls r' := by
  unfold lineOf; rw [mget_mset]; split <;> rfl
theorem gSeen_mset (all : Alls) (id q : Int) (x : ByteArray × Int) : gSeen (mset all id x) q = (decide (id = q) || gSeen all q) := by
  unfold gSeen; rw [mget_mset]; by_cases h : id = q <;> simp [h]
theorem lHas_no {l : List (Int × Int)} {id : Int} (h : ∀ x ∈ l, x.1 ≠ id) : lHas l id = false := by
  unfold lHas; rw [List.any_eq_false]; exact fun x hx => by simpa using h x hx
section
variable {F : AFleet} {G : AGate} {id now : Int} {rev : ByteArray}
theorem gArr_sent (hs : gSeen G.all id = false) (hr : rev ≠ s_) (h0 : (lineOf G.lines rev).length = 0) (ht : (fTake F rev id).2.2 = true) :
    gArr F G id rev now = ((fTake F rev id).1, { G with all := mset G.all id (rev, 1), lines := mset G.lines rev (lineOf G.lines rev) }, (id, 1, (fTake F rev id).2.1, s_, ())) := by
  unfold gArr; rw [if_neg (by simp [hs]), if_neg hr, if_pos ⟨h0, ht⟩]
theorem gArr_wait (hs : gSeen G.all id = false) (hr : rev ≠ s_) (hno : ¬ ((lineOf G.lines rev).length = 0 ∧ (fTake F rev id).2.2 = true)) (hh : lHas (lineOf G.lines rev) id = false) (hl : ((lineOf G.lines rev).length : Int) < G.room) :
    gArr F G id rev now = (F, { G with all := mset G.all id (rev, 2), lines := mset G.lines rev (lineOf G.lines rev ++ [(id, now + G.pat)]) }, (id, 2, 0, s_, ())) := by
  have e : lPush G.room (lineOf G.lines rev) id (now + G.pat) = (lineOf G.lines rev ++ [(id, now + G.pat)], 0) := by
    unfold lPush; rw [if_neg (by simp [hh]), if_neg (by omega)]
  unfold gArr; rw [if_neg (by simp [hs]), if_neg hr, if_neg hno, e, if_neg (by simp)]
theorem gArr_over (hs : gSeen G.all id = false) (hr : rev ≠ s_) (hno : ¬ ((lineOf G.lines rev).length = 0 ∧ (fTake F rev id).2.2 = true)) (hh : lHas (lineOf G.lines rev) id = false) (hl : ((lineOf G.lines rev).length : Int) ≥ G.room) :
    gArr F G id rev now = (F, { G with all := mset G.all id (rev, 4), lines := mset G.lines rev (lineOf G.lines rev) }, (id, 4, 0, s_overflow, ())) := by
  have e : lPush G.room (lineOf G.lines rev) id (now + G.pat) = (lineOf G.lines rev, 8) := by
    unfold lPush; rw [if_neg (by simp [hh]), if_pos hl]
  unfold gArr; rw [if_neg (by simp [hs]), if_neg hr, if_neg hno, e, if_pos (by simp)]
end
theorem ne_a1 : s_a_1 ≠ s_ := by decide
theorem ne_b1 : s_b_1 ≠ s_ := by decide
theorem ne_ab : s_a_1 ≠ s_b_1 := by decide
theorem ne_ba : s_b_1 ≠ s_a_1 := by decide
theorem tot_nil : ∀ n, tot (fun _ => []) n = 0
  | 0 => rfl
  | n + 1 => by simp [tot, tot_nil n]
/-- behind i of both -/
structure FullI (p c k i : Nat) (F : AFleet) (G : AGate) : Prop where
  fl : ∃ rs, F = TF 10 s_a_1 p c (fun _ => true) rs ∧ TL p c (min i (p * c)) i (fun _ => true) rs
  room : G.room = k
  pat : G.pat = 9
  seen : ∀ q, gSeen G.all q = true → (1 ≤ q ∧ q ≤ i) ∨ (1001 ≤ q ∧ q ≤ 1000 + i)
  la : (lineOf G.lines s_a_1).length = min (i - p * c) k
  ia : ∀ x ∈ lineOf G.lines s_a_1, x.1 ≤ i
  lb : (lineOf G.lines s_b_1).length = min i k
  ib : ∀ x ∈ lineOf G.lines s_b_1, x.1 ≤ 1000 + i
  na : G.all.length ≤ 2 * i
  nl : G.lines.length ≤ 2 * i
  sm : i ≤ 40
/-- half of a step: who came for the first one -/
theorem FullI.a {p c k i : Nat} {F : AFleet} {G : AGate} (I : FullI p c k i F G) :
    ∃ (what pod : Int) (why : ByteArray) (F' : AFleet) (G' : AGate), gArr F G ((i : Int) + 1) s_a_1 0 = (F', G', ((i : Int) + 1, what, pod, why, ())) ∧
      (i + 1 ≤ p * c → what = 1 ∧ 1 ≤ pod ∧ why = s_) ∧ (p * c < i + 1 → i + 1 ≤ p * c + k → what = 2 ∧ pod = 0 ∧ why = s_) ∧ (p * c + k < i + 1 → what = 4 ∧ pod = 0 ∧ why = s_overflow) ∧
      (∃ rs, F' = TF 10 s_a_1 p c (fun _ => true) rs ∧ TL p c (min (i + 1) (p * c)) ((i + 1 : Nat) : Int) (fun _ => true) rs) ∧ G'.room = k ∧ G'.pat = 9 ∧ (∀ q, gSeen G'.all q = true → q = (i : Int) + 1 ∨ gSeen G.all q = true) ∧
      (lineOf G'.lines s_a_1).length = min (i + 1 - p * c) k ∧ (∀ x ∈ lineOf G'.lines s_a_1, x.1 ≤ (i : Int) + 1) ∧ lineOf G'.lines s_b_1 = lineOf G.lines s_b_1 ∧ G'.all.length ≤ 2 * i + 1 ∧ G'.lines.length ≤ 2 * i + 1 := by
  obtain ⟨rs, rfl, t⟩ := I.fl
  have hsm := I.sm
  have hs : gSeen G.all ((i : Int) + 1) = false := by
    cases h : gSeen G.all ((i : Int) + 1) with
    | false => rfl
    | true => have := I.seen _ h; omega
  have hh : lHas (lineOf G.lines s_a_1) ((i : Int) + 1) = false := lHas_no fun x hx => by have := I.ia x hx; omega
  have hla := I.la
  have hna := I.na; have hnl := I.nl
  have hroom := I.room
  have hsm := I.sm
  have tm : ∀ {m}, TL p c m i (fun _ => true) rs → TL p c m ((i + 1 : Nat) : Int) (fun _ => true) rs := fun t => ⟨t.len, t.nr, t.tot, fun i hi q hq => by have := t.b i hi q hq; omega⟩
  by_cases h1 : i + 1 ≤ p * c
  · have hm : min i (p * c) = i := by omega
    rw [hm] at t
    obtain ⟨x, hx, hxc⟩ := tot_lt t.len (by rw [t.tot]; omega)
    obtain ⟨j, hj, -, -, ht, t'⟩ := tl_take (R := 10) (rv := s_a_1) (q := (i : Int) + 1) t (by omega) rfl ⟨x, hx, rfl, hxc⟩
    have e := gArr_sent (now := 0) hs ne_a1 (by omega) (show (fTake (TF 10 s_a_1 p c (fun _ => true) rs) s_a_1 ((i : Int) + 1)).2.2 = true by rw [ht])
    rw [ht] at e
    refine ⟨1, (j : Int) + 1, s_, _, _, e, fun _ => ⟨rfl, by omega, rfl⟩, fun h => by omega, fun h => by omega, ⟨_, rfl, ?_⟩, I.room, I.pat, ?_, ?_, ?_, ?_, ?_, ?_⟩
    · rw [show min (i + 1) (p * c) = i + 1 by omega]; exact t'
    · intro q hq; simp only [gSeen_mset, Bool.or_eq_true, decide_eq_true_eq] at hq; exact hq.imp (fun h => h.symm) id
    · rw [lineOf_mset, if_pos rfl]; omega
    · rw [lineOf_mset, if_pos rfl]; intro x hx; have := I.ia x hx; omega
    · rw [lineOf_mset, if_neg ne_ab]
    · have := mset_le' G.all ((i : Int) + 1) (s_a_1, (1 : Int)); simp only; omega
    · have := mset_le' G.lines s_a_1 (lineOf G.lines s_a_1); simp only; omega
  · have hm : min i (p * c) = p * c := by omega
    rw [hm] at t
    have hno : ¬ ((lineOf G.lines s_a_1).length = 0 ∧ (fTake (TF 10 s_a_1 p c (fun _ => true) rs) s_a_1 ((i : Int) + 1)).2.2 = true) := by
      rintro ⟨-, h⟩
      rw [tl_full t (by omega) (fun j hj _ => tot_eq t.len t.tot j hj)] at h
      cases h
    by_cases h2 : i + 1 ≤ p * c + k
    · have e := gArr_wait (now := 0) hs ne_a1 hno hh (by rw [I.room]; omega)
      refine ⟨2, 0, s_, _, _, e, fun h => by omega, fun _ _ => ⟨rfl, rfl, rfl⟩, fun h => by omega, ⟨_, rfl, ?_⟩, I.room, I.pat, ?_, ?_, ?_, ?_, ?_, ?_⟩
      · rw [show min (i + 1) (p * c) = p * c by omega]; exact tm t
      · intro q hq; simp only [gSeen_mset, Bool.or_eq_true, decide_eq_true_eq] at hq; exact hq.imp (fun h => h.symm) id
      · rw [lineOf_mset, if_pos rfl, List.length_append]; simp only [List.length_cons, List.length_nil]; omega
      · rw [lineOf_mset, if_pos rfl]
        intro x hx
        rcases List.mem_append.1 hx with hx | hx
        · have := I.ia x hx; omega
        · simp at hx; subst hx; exact Int.le_refl _
      · rw [lineOf_mset, if_neg ne_ab]
      · have := mset_le' G.all ((i : Int) + 1) (s_a_1, (2 : Int)); simp only; omega
      · have := mset_le' G.lines s_a_1 (lineOf G.lines s_a_1 ++ [((i : Int) + 1, 0 + G.pat)]); simp only; omega
    · have e := gArr_over (now := 0) hs ne_a1 hno hh (by rw [I.room]; omega)
      refine ⟨4, 0, s_overflow, _, _, e, fun h => by omega, fun _ h => by omega, fun _ => ⟨rfl, rfl, rfl⟩, ⟨_, rfl, ?_⟩, I.room, I.pat, ?_, ?_, ?_, ?_, ?_, ?_⟩
      · rw [show min (i + 1) (p * c) = p * c by omega]; exact tm t
      · intro q hq; simp only [gSeen_mset, Bool.or_eq_true, decide_eq_true_eq] at hq; exact hq.imp (fun h => h.symm) id
      · rw [lineOf_mset, if_pos rfl]; omega
      · rw [lineOf_mset, if_pos rfl]; intro x hx; have := I.ia x hx; omega
      · rw [lineOf_mset, if_neg ne_ab]
      · have := mset_le' G.all ((i : Int) + 1) (s_a_1, (4 : Int)); simp only; omega
      · have := mset_le' G.lines s_a_1 (lineOf G.lines s_a_1); simp only; omega
theorem tf_other {R : Int} {n : Nat} {c : Int} {ready : Nat → Bool} {rs : Nat → List Int} {rv rev : ByteArray} (h : rv ≠ rev) (q : Int) : fTake (TF R rv n c ready rs) rev q = (TF R rv n c ready rs, 0, false) := by
  refine fTake_other fun x hx => ?_
  obtain ⟨i, -, rfl⟩ := tab_mem.1 hx
  exact h
theorem FullI.step {p c k i : Nat} {F : AFleet} {G : AGate} (I : FullI p c k i F G) (hi : i < 40) :
    ∃ (what pod : Int) (why : ByteArray) (what2 pod2 : Int) (why2 : ByteArray) (F' : AFleet) (G' G2 : AGate), gArr F G ((i : Int) + 1) s_a_1 0 = (F', G', ((i : Int) + 1, what, pod, why, ())) ∧
      (i + 1 ≤ p * c → what = 1 ∧ 1 ≤ pod ∧ why = s_) ∧ (p * c < i + 1 → i + 1 ≤ p * c + k → what = 2 ∧ pod = 0 ∧ why = s_) ∧ (p * c + k < i + 1 → what = 4 ∧ pod = 0 ∧ why = s_overflow) ∧
      (∃ rs, F' = TF 10 s_a_1 p c (fun _ => true) rs ∧ TL p c (min (i + 1) (p * c)) ((i + 1 : Nat) : Int) (fun _ => true) rs) ∧ G'.all.length ≤ 100 ∧ G'.lines.length ≤ 100 ∧ G'.pat = 9 ∧
      gArr F' G' (1000 + ((i : Int) + 1)) s_b_1 0 = (F', G2, (1000 + ((i : Int) + 1), what2, pod2, why2, ())) ∧ (what2 = 2 ↔ i + 1 ≤ k) ∧ FullI p c k (i + 1) F' G2 := by
  obtain ⟨what, pod, why, F', G', e, h1, h2, h3, ⟨rs, rfl, t⟩, hr, hp, hs, hla, hia, hlb, hna, hnl⟩ := I.a
  have ht := tf_other (R := 10) (n := p) (c := c) (ready := fun _ => true) (rs := rs) ne_ab (1000 + ((i : Int) + 1))
  have hs2 : gSeen G'.all (1000 + ((i : Int) + 1)) = false := by
    cases h : gSeen G'.all (1000 + ((i : Int) + 1)) with
    | false => rfl
    | true =>
      rcases hs _ h with h | h
      · omega
      · have := I.seen _ h; omega
  have hno : ¬ ((lineOf G'.lines s_b_1).length = 0 ∧ (fTake (TF 10 s_a_1 p c (fun _ => true) rs) s_b_1 (1000 + ((i : Int) + 1))).2.2 = true) := by rintro ⟨-, h⟩; rw [ht] at h; cases h
  have hib := I.ib
  have hlb2 := I.lb
  rw [← hlb] at hib hlb2
  have hh : lHas (lineOf G'.lines s_b_1) (1000 + ((i : Int) + 1)) = false := lHas_no fun x hx => by have := hib x hx; omega
  have seen2 : ∀ x : ByteArray × Int, ∀ q, gSeen (mset G'.all (1000 + ((i : Int) + 1)) x) q = true → (1 ≤ q ∧ q ≤ ((i + 1 : Nat) : Int)) ∨ (1001 ≤ q ∧ q ≤ 1000 + ((i + 1 : Nat) : Int)) := by
    intro x q hq
    simp only [gSeen_mset, Bool.or_eq_true, decide_eq_true_eq] at hq
    rcases hq with rfl | hq
    · omega
    · rcases hs _ hq with rfl | hq
      · omega
      · have := I.seen _ hq; omega
  by_cases hk : i + 1 ≤ k
  · have e2 := gArr_wait (now := 0) hs2 ne_b1 hno hh (by rw [hr]; omega)
    refine ⟨what, pod, why, 2, 0, s_, _, _, _, e, h1, h2, h3, ⟨rs, rfl, t⟩, by omega, by omega, hp, e2, ⟨fun _ => hk, fun _ => rfl⟩, ⟨⟨rs, rfl, t⟩, hr, hp, seen2 _, ?_, ?_, ?_, ?_, ?_, ?_, by omega⟩⟩
    · rw [lineOf_mset, if_neg ne_ba]; exact hla
    · rw [lineOf_mset, if_neg ne_ba]; intro x hx; have := hia x hx; omega
    · rw [lineOf_mset, if_pos rfl, List.length_append]; simp only [List.length_cons, List.length_nil]; omega
    · rw [lineOf_mset, if_pos rfl]
      intro x hx
      rcases List.mem_append.1 hx with hx | hx
      · have := hib x hx; omega
      · simp at hx; subst hx; simp only; omega
    · have := mset_le' G'.all (1000 + ((i : Int) + 1)) (s_b_1, (2 : Int)); simp only; omega
    · have := mset_le' G'.lines s_b_1 (lineOf G'.lines s_b_1 ++ [(1000 + ((i : Int) + 1), 0 + G'.pat)]); simp only; omega
  · have e2 := gArr_over (now := 0) hs2 ne_b1 hno hh (by rw [hr]; omega)
    refine ⟨what, pod, why, 4, 0, s_overflow, _, _, _, e, h1, h2, h3, ⟨rs, rfl, t⟩, by omega, by omega, hp, e2, ⟨fun h => by omega, fun h => by omega⟩, ⟨⟨rs, rfl, t⟩, hr, hp, seen2 _, ?_, ?_, ?_, ?_, ?_, ?_, by omega⟩⟩
    · rw [lineOf_mset, if_neg ne_ba]; exact hla
    · rw [lineOf_mset, if_neg ne_ba]; intro x hx; have := hia x hx; omega
    · rw [lineOf_mset, if_pos rfl]; omega
    · rw [lineOf_mset, if_pos rfl]; intro x hx; have := hib x hx; omega
    · have := mset_le' G'.all (1000 + ((i : Int) + 1)) (s_b_1, (4 : Int)); simp only; omega
    · have := mset_le' G'.lines s_b_1 (lineOf G'.lines s_b_1); simp only; omega
theorem W_GateFull (p0 p1 p2 p3 : Int) : Calls Pr n_damperlaw14_GateFull #[I p0, I p1, I p2, I p3] w0 fun e w' => e = .returned (.bool true) ∧ St w0 [] w' := by
  refine law_of (args := [I p0, I p1, I p2, I p3]) (C_damperlaw14_GateFull p0 p1 p2 p3) ?_
  unfold F_damperlaw14_GateFull
  have h := St.init w0
  refine S_known14 h fun w h => itF rfl ?_
  refine S_fNew h fun bf sf w hf h => itF rfl ?_
  refine S_within14 (by decide) (by decide) ?_
  have hk0 := Int.emod_nonneg p0 (by decide : (9 : Int) ≠ 0)
  have hk1 := Int.emod_lt_of_pos p0 (by decide : (0 : Int) < 9)
  have hp0 := Int.emod_nonneg p2 (by decide : (4 : Int) ≠ 0)
  have hp1 := Int.emod_lt_of_pos p2 (by decide : (0 : Int) < 4)
  have hc0 := Int.emod_nonneg p3 (by decide : (3 : Int) ≠ 0)
  have hc1 := Int.emod_lt_of_pos p3 (by decide : (0 : Int) < 3)
  have hn0 := Int.emod_nonneg p1 (by decide : (30 : Int) ≠ 0)
  have hn1 := Int.emod_lt_of_pos p1 (by decide : (0 : Int) < 30)
  refine S_gNew h (by omega) (by omega) fun b sg w hg h => itF rfl ?_
  refine S_within14 (by decide) (by decide) ?_
  refine S_within14 (by decide) (by decide) ?_
  rw [wr (by omega) (by omega)]
  obtain ⟨k, hk⟩ : ∃ k : Nat, p0 % 9 = k := ⟨(p0 % 9).toNat, by omega⟩
  obtain ⟨p, hp⟩ : ∃ p : Nat, p2 % 4 = p := ⟨(p2 % 4).toNat, by omega⟩
  obtain ⟨c, hc⟩ : ∃ c : Nat, 1 + p3 % 3 = c := ⟨(1 + p3 % 3).toNat, by omega⟩
  rw [hk] at hg ⊢
  rw [hp, hc]
  refine S_fScale h 1 rfl hf (by decide) (by decide) fun v1 v2 sf s1 s2 w hf hr1 hr2 h => ?_
  obtain ⟨e1, e2⟩ := tf_scale (R := 10) (rv := s_a_1) c (n := p) (by omega)
  rw [e1] at hf
  rw [e2] at hr1
  have hl1 := Rw.len encI hr1
  rw [tab_len] at hl1
  have h : St w0 (s2 :: s1 :: sg :: sf :: []) w := h
  have h := dl0_ h
  dsimp only
  -- all are up
  refine loop_of (fun q y w => ∃ (j : Nat) (sf : Seg), y = ((j : Int), ()) ∧ q + j = p ∧ FlS bf (TF 10 s_a_1 p c (fun i => decide (i < j)) (fun _ => [])) sf ∧ St w0 (s1 :: sg :: sf :: []) w) p ⟨0, sf, rfl, rfl, by simpa using hf, h⟩ ?_
  clear hf
  clear h; (try clear w)
  rintro q y w ⟨j, sf, rfl, hq, hf, h⟩ again hag
  dsimp only
  refine it (fun hb => ?_) (fun hb => ?_) <;> (try simp only [decide_eq_true_eq, decide_eq_false_iff_not, beq_iff_eq, bne_iff_ne, beq_eq_false_iff_ne, bne_eq_false_iff_eq, Bool.not_eq_true', Bool.not_eq_false', ne_eq, Bool.not_eq_true, Bool.not_eq_false] at hb)
  · have hj : j < p := by omega
    refine rd1 (Rw.rd encI h 0 rfl hr1) encI (lf := .int .i64) (fun x => x) (fun x => ⟨_, rfl, rfl⟩) (by omega) hb fun y' hy' => ?_
    rw [Int.toNat_natCast, tab_at hj] at hy'
    cases hy'
    refine S_fUpp h 2 rfl hf fun sf w hf h => ?_
    have eu := tf_up (R := 10) (rv := s_a_1) (c := c) (ready := fun i => decide (i < j)) (rs := fun _ => []) hj (by simp)
    rw [eu] at hf ⊢
    refine itF rfl ?_
    rw [wr (by omega) (by omega)]
    refine hag (q - 1) _ w (by omega) ⟨j + 1, sf, by simp, by omega, ?_, h⟩
    have : (fun i => if i = j then true else decide (i < j)) = fun i => decide (i < j + 1) := by
      funext i; by_cases h : i = j
      · subst h; simp
      · rw [if_neg h]; apply decide_eq_decide.2; omega
    rw [this] at hf; exact hf
  · have e : j = p := by omega
    subst e
    have hfT : FlS bf (TF 10 s_a_1 j c (fun _ => true) (fun _ => [])) sf := by
      have : TF 10 s_a_1 j c (fun i => decide (i < j)) (fun _ => []) = TF 10 s_a_1 j c (fun _ => true) (fun _ => []) := by
        unfold TF; congr 1
        exact tab_congr fun i hi => by simp [tG, hi]
      rw [this] at hf; exact hf
    have h := dl0_ h
    have I0 : FullI j c k 0 (TF 10 s_a_1 j c (fun _ => true) (fun _ => [])) ⟨[], [], k, 9⟩ := by
      refine ⟨⟨_, rfl, ⟨fun i _ => by simp, fun i _ _ => rfl, ?_, fun i _ q hq => by cases hq⟩⟩, rfl, rfl, fun q hq => (by cases hq), by simp [lineOf, mget], fun x hx => (by cases hx), by simp [lineOf, mget], fun x hx => (by cases hx), by simp, by simp, by omega⟩
      rw [show min 0 (j * c) = 0 by omega]
      exact tot_nil j
    refine loop_of (fun q y w => ∃ (i : Nat) (F : AFleet) (G : AGate) (sg sf : Seg), y = ((i : Int) + 1, ()) ∧ q + i = 40 ∧ FullI j c k i F G ∧ GtS b bf G sg ∧ FlS bf F sf ∧ St w0 (sg :: sf :: []) w) 40 ⟨0, _, _, sg, sf, rfl, rfl, I0, hg, hfT, h⟩ ?_
    clear I0 hfT hf hg hr1 hr2
    clear h; (try clear w)
    rintro q y w ⟨i, F, G, sg, sf, rfl, hq, I, hg, hf, h⟩ again hag
    dsimp only
    refine S_within14 (by decide) (by decide) ?_
    refine it (fun hb => ?_) (fun hb => ?_) <;> (try simp only [decide_eq_true_eq, decide_eq_false_iff_not, beq_iff_eq, bne_iff_ne, beq_eq_false_iff_ne, bne_eq_false_iff_eq, Bool.not_eq_true', Bool.not_eq_false', ne_eq, Bool.not_eq_true, Bool.not_eq_false] at hb)
    · obtain ⟨what, pod, why, what2, pod2, why2, F', G', G2, ea, h1, h2, h3, ⟨rs, rfl, t⟩, hna, hnl, hpat, eb, hw2, I'⟩ := I.step (by omega)
      obtain ⟨rs0, hF, t0⟩ := I.fl
      have hpc : j * c ≤ 9 := Nat.le_trans (Nat.mul_le_mul (show j ≤ 3 by omega) (show c ≤ 3 by omega)) (by decide)
      have ff : FFew F := by rw [hF]; exact tf_few t0 (by decide) (by omega) (by omega)
      have hIna := I.na; have hInl := I.nl; have hIp := I.pat
      refine S_gArr h hg hf ff (by omega) (by omega) (by rw [hIp]; omega) fun v sv sg sf w hv hg hf h => ?_
      rw [ea] at hv hg hf
      dsimp only at hv hg hf
      have hl := Rw.len encF hv
      refine itF (by rw [hl]; rfl) ?_
      refine rf (Rw.rd encF h 0 rfl hv) (x := ((i : Int) + 1, what, pod, why, ())) rfl (by decide) rfl rfl (itF (by simp) ?_)
      have second : ∀ {w}, St w0 (sv :: sg :: sf :: []) w →
          (L.call Pr n_gate_Gate_Arrive [.pointer (some ⟨b, 0, none⟩), .int .i64 (IntKind.wrap .i64 (1000 + ((i : Int) + 1))), .string s_b_1, .int .i64 0] (.one (.one (.slice))) fun (x39 : Sl) =>
          L.ite (((x39.len : Nat) : Int) != 1) (fun w' => Value.bool false = .bool true ∧ St w0 [] w') <|
          L.idx x39.a 0 x39.len 4 fun a40 =>
          L.load (.one (.int .i64)) (a40.add 1) fun (x41 : Int) =>
          L.ite (!((x41 == 2) == (decide ((i : Int) + 1 ≤ k)))) (fun w' => Value.bool false = .bool true ∧ St w0 [] w') <|
          again (IntKind.wrap .i64 ((i : Int) + 1 + 1), ())) w := by
        intro w h
        rw [wr (n := 1000 + ((i : Int) + 1)) (by omega) (by omega)]
        have h := dl0_ h
        refine S_gArr h hg hf (tf_few t (by decide) (by omega) (by omega)) (by omega) (by omega) (by rw [hpat]; omega) fun v sv sg sf w hv hg hf h => ?_
        rw [eb] at hv hg hf
        dsimp only at hv hg hf
        have hl := Rw.len encF hv
        refine itF (by rw [hl]; rfl) ?_
        refine rf (Rw.rd encF h 0 rfl hv) (x := (1000 + ((i : Int) + 1), what2, pod2, why2, ())) rfl (by decide) rfl rfl (itF ?_ ?_)
        · by_cases hkk : i + 1 ≤ k
          · rw [hw2.2 hkk, decide_eq_true (by omega)]; rfl
          · have : ¬ what2 = 2 := fun e => hkk (hw2.1 e)
            rw [decide_eq_false (by omega)]; simp [this]
        · rw [wr (by omega) (by omega)]
          exact hag (q - 1) _ w (by omega) ⟨i + 1, _, G2, sg, sf, by simp, by omega, I', hg, hf, dl0_ h⟩
      rw [wr (n := (j : Int) * c) (by have := Int.natCast_mul j c; omega) (by have := Int.natCast_mul j c; omega)]
      rw [wr (n := (j : Int) * c + k) (by have := Int.natCast_mul j c; omega) (by have := Int.natCast_mul j c; omega)]
      have hjc := Int.natCast_mul j c
      refine jd ?_
      refine it (fun hb1 => ?_) (fun hb1 => ?_) <;> (try simp only [decide_eq_true_eq, decide_eq_false_iff_not, beq_iff_eq, bne_iff_ne, beq_eq_false_iff_ne, bne_eq_false_iff_eq, Bool.not_eq_true', Bool.not_eq_false', ne_eq, Bool.not_eq_true, Bool.not_eq_false] at hb1)
      · obtain ⟨rfl, hpod, rfl⟩ := h1 (by omega)
        refine rf (Rw.rd encF h 0 rfl hv) (x := ((i : Int) + 1, 1, pod, s_, ())) rfl (by decide) rfl rfl (itF rfl ?_)
        refine rf (Rw.rd encF h 0 rfl hv) (x := ((i : Int) + 1, 1, pod, s_, ())) rfl (by decide) rfl rfl (itF (by simp; omega) ?_)
        refine rf (Rw.rd encF h 0 rfl hv) (x := ((i : Int) + 1, 1, pod, s_, ())) rfl (by decide) rfl rfl (itF (by rw [str_eq]; rfl) ?_)
        exact second h
      · refine it (fun hb2 => ?_) (fun hb2 => ?_) <;> (try simp only [decide_eq_true_eq, decide_eq_false_iff_not, beq_iff_eq, bne_iff_ne, beq_eq_false_iff_ne, bne_eq_false_iff_eq, Bool.not_eq_true', Bool.not_eq_false', ne_eq, Bool.not_eq_true, Bool.not_eq_false] at hb2)
        · obtain ⟨rfl, rfl, rfl⟩ := h2 (by omega) (by omega)
          refine rf (Rw.rd encF h 0 rfl hv) (x := ((i : Int) + 1, 2, 0, s_, ())) rfl (by decide) rfl rfl (itF rfl ?_)
          refine rf (Rw.rd encF h 0 rfl hv) (x := ((i : Int) + 1, 2, 0, s_, ())) rfl (by decide) rfl rfl (itF rfl ?_)
          refine rf (Rw.rd encF h 0 rfl hv) (x := ((i : Int) + 1, 2, 0, s_, ())) rfl (by decide) rfl rfl (itF (by rw [str_eq]; rfl) ?_)
          exact second h
        · obtain ⟨rfl, rfl, rfl⟩ := h3 (by omega)
          refine rf (Rw.rd encF h 0 rfl hv) (x := ((i : Int) + 1, 4, 0, s_overflow, ())) rfl (by decide) rfl rfl (itF rfl ?_)
          refine rf (Rw.rd encF h 0 rfl hv) (x := ((i : Int) + 1, 4, 0, s_overflow, ())) rfl (by decide) rfl rfl (itF (by rw [str_eq]; rfl) ?_)
          refine rf (Rw.rd encF h 0 rfl hv) (x := ((i : Int) + 1, 4, 0, s_overflow, ())) rfl (by decide) rfl rfl (itF rfl ?_)
          exact second h
    · exact ⟨rfl, h.fin⟩
end Go.Proofs.Ythmpbgloifdcnaa
