/- Contracts of functions, and walks of laws (text Hb). No conditions beyond those its theorems state. -/
import Derived.Test.YthmpbgloifdcnaaHa
set_option linter.all false
namespace Go.Proofs.Ythmpbgloifdcnaa
open Go.Dm
attribute [local irreducible] L.load L.store L.chk L.new L.nonnil L.guard L.ite L.draw L.idx L.sem L.semR L.semU L.chkSem L.next L.call L.callV L.join L.alts L.loop L.begin L.endRound L.range
variable {w0 w : World} {E : List Seg}
/-! ### GateEnds -/
def PF1 (c : Nat) (r : List Int) : AFleet := TF 1 s_a_1 1 c rdy fun _ => r
theorem PF1_congr {c : Nat} {rs : Nat → List Int} {r : List Int} (h : rs 0 = r) : TF 1 s_a_1 1 c rdy rs = PF1 c r := by
  unfold PF1 TF
  congr 1
  refine tab_congr fun i hi => ?_
  have : i = 0 := by omega
  subst this
  unfold tG; rw [h]
theorem PF1_tl {c s : Nat} {r : List Int} (h : r.length ≤ c) (hb : ∀ q ∈ r, 1 ≤ q ∧ q ≤ s) : TL 1 c r.length s rdy fun _ => r :=
  ⟨fun _ _ => h, fun i hi hr => by simp at hr; omega, by simp [tot], fun _ _ q hq => hb q hq⟩
theorem PF1_take {c s : Nat} {r : List Int} (h : r.length < c) (hb : ∀ q ∈ r, 1 ≤ q ∧ q ≤ (s : Int)) : fTake (PF1 c r) s_a_1 ((s : Int) + 1) = (PF1 c (r ++ [(s : Int) + 1]), 1, true) := by
  obtain ⟨k, hk, -, -, e, -⟩ := tl_take (R := 1) (rv := s_a_1) (PF1_tl (c := c) (s := s) (by omega) hb) (by omega) rfl ⟨0, by omega, rfl, h⟩
  have : k = 0 := by omega
  subst this
  unfold PF1
  rw [e]
  congr 1
  rw [PF1_congr rfl]
  simp only [↓reduceIte]
  rw [insI_end' fun y hy => by have := hb y hy; omega]; rfl
theorem PF1_full {c s : Nat} {r : List Int} {q : Int} (h : r.length = c) (hb : ∀ q ∈ r, 1 ≤ q ∧ q ≤ (s : Int)) (hq : (s : Int) < q) : fTake (PF1 c r) s_a_1 q = (PF1 c r, 0, false) :=
  tl_full (PF1_tl (by omega) hb) hq fun _ _ _ => h
theorem PF1_few {c s : Nat} {r : List Int} (h : r.length ≤ c) (hb : ∀ q ∈ r, 1 ≤ q ∧ q ≤ (s : Int)) (hc : c ≤ 1000) : FFew (PF1 c r) := tf_few (PF1_tl h hb) (by decide) (by omega) hc
theorem PF1_give {c : Nat} {r : List Int} (ok : (PF1 c r).Ok) {q : Int} (hq : q ∈ r) : fGive (PF1 c r) q = (PF1 c (r.erase q), s_a_1, 0) := by
  have e := tf_give (R := 1) (rv := s_a_1) (n := 1) (c := c) (ready := rdy) (rs := fun _ => r) ok (k := 0) (by omega) hq
  unfold PF1 at *
  rw [e]
  congr 1
structure EndsI (c M j : Nat) (F : AFleet) (G : AGate) (r : List Int) (g : Nat → ByteArray × Int) : Prop where
  f : F = PF1 c r
  w : GW G s_a_1 (M + j) M g (lnT (min M (c + j)) (M - min M (c + j)) 50) 8 50
  len : r.length + j = min M (c + j)
  pw : r.Pairwise (· < ·)
  mem : ∀ i, i < M → (((i : Int) + 1 ∈ r) ↔ g i = (s_a_1, 1))
  wt : ∀ i, i < M → (min M (c + j) ≤ i ↔ g i = (s_a_1, 2))
  ot : ∀ i, i < M → g i = (s_a_1, 1) ∨ g i = (s_a_1, 2) ∨ g i = (s_a_1, 3)
  b : ∀ q ∈ r, 1 ≤ q ∧ q ≤ ((min M (c + j) : Nat) : Int)
theorem EndsI.sent {c M j : Nat} {F : AFleet} {G : AGate} {r : List Int} {g : Nat → ByteArray × Int} (K : EndsI c M j F G r g) : gWith G.all s_a_1 = r := by
  unfold gWith
  refine isort_of ?_ (K.pw.imp fun h => by omega)
  rw [K.w.all]
  refine perm_of_sub ?_ (K.pw.imp fun h => by omega) fun x => ?_
  · refine List.pairwise_map.2 (List.Pairwise.filter _ ?_)
    unfold rqT tab
    rw [List.pairwise_map]
    exact List.nodup_range.imp fun h e => h (by omega)
  · rw [List.mem_map]
    constructor
    · rintro ⟨p, hp, rfl⟩
      obtain ⟨hp, hd⟩ := List.mem_filter.1 hp
      obtain ⟨i, hi, rfl⟩ := tab_mem.1 hp
      exact (K.mem i hi).2 (by simpa using hd)
    · intro hx
      have hb := K.b x hx
      have hl := K.len
      obtain ⟨i, rfl⟩ : ∃ i : Nat, x = (i : Int) + 1 := ⟨(x - 1).toNat, by omega⟩
      have hi : i < M := by omega
      exact ⟨((i : Int) + 1, g i), List.mem_filter.2 ⟨tab_mem.2 ⟨i, hi, rfl⟩, by simpa using (K.mem i hi).1 hx⟩, rfl⟩
theorem EndsI.step {c M j : Nat} {F : AFleet} {G : AGate} {r : List Int} {g : Nat → ByteArray × Int} (K : EndsI c M j F G r g) (ok : F.Ok) (hc : 0 < c) {q : Int} (hq : q ∈ r) :
    ∃ F' G' out r' g', gDone F G q = (F', G', (q, 3, 0, s_, ()) :: out, 0) ∧ out.length = (if c + j < M then 1 else 0) ∧ EndsI c M (j + 1) F' G' r' g' := by
  obtain ⟨rfl, W, hlen, hpw, hmem, hwt, hot, hb⟩ := K
  have eg := PF1_give ok hq
  have hbq := hb q hq
  obtain ⟨i0, rfl⟩ : ∃ i : Nat, q = (i : Int) + 1 := ⟨(q - 1).toNat, by omega⟩
  have hi0 : i0 < M := by omega
  have hnd : r.Nodup := hpw.imp fun h => by omega
  have hel : (r.erase ((i0 : Int) + 1)).length = r.length - 1 := List.length_erase_of_mem hq
  have hpos : 0 < r.length := List.length_pos_of_mem hq
  have hmer : ∀ x, x ∈ r.erase ((i0 : Int) + 1) ↔ x ≠ (i0 : Int) + 1 ∧ x ∈ r := fun x => hnd.mem_erase_iff
  have hbr : ∀ x ∈ r.erase ((i0 : Int) + 1), 1 ≤ x ∧ x ≤ ((min M (c + j) : Nat) : Int) := fun x hx => hb x ((hmer x).1 hx).2
  have hpr : (r.erase ((i0 : Int) + 1)).Pairwise (· < ·) := hpw.sublist (List.erase_sublist ..)
  have hg0 : g i0 = (s_a_1, 1) := (hmem i0 hi0).1 hq
  have hi0s : i0 < min M (c + j) := by
    apply Classical.byContradiction; intro h
    have := (hwt i0 hi0).1 (by omega)
    rw [hg0] at this; cases this
  have W1 : GW { G with all := mset G.all ((i0 : Int) + 1) (s_a_1, 3) } s_a_1 (M + j) M (fun k => if k = i0 then (s_a_1, 3) else g k) (lnT (min M (c + j)) (M - min M (c + j)) 50) 8 50 :=
    ⟨by simp only; rw [W.all, rqT_set hi0], W.ln, W.nl, W.room, W.pat⟩
  have gd : ∀ {F' G' out}, gFlow (PF1 c (r.erase ((i0 : Int) + 1))) { G with all := mset G.all ((i0 : Int) + 1) (s_a_1, 3) } s_a_1 = (F', G', out) → gDone (PF1 c r) G ((i0 : Int) + 1) = (F', G', ((i0 : Int) + 1, 3, 0, s_, ()) :: out, 0) := by
    intro F' G' out e
    unfold gDone
    rw [eg, if_neg (by simp)]
    simp only
    rw [e]
  by_cases h : c + j < M
  · have hs : min M (c + j) = c + j := by omega
    rw [hs] at W1 hlen hb hbr hwt hi0s
    have ht := PF1_take (c := c) (s := c + j) (r := r.erase ((i0 : Int) + 1)) (by omega) hbr
    have hb2 : ∀ x ∈ r.erase ((i0 : Int) + 1) ++ [((c + j : Nat) : Int) + 1], 1 ≤ x ∧ x ≤ ((c + j + 1 : Nat) : Int) := fun x hx => by
      rcases List.mem_append.1 hx with hx | hx
      · have := hbr x hx; omega
      · simp at hx; subst hx; omega
    have hfl : flowA s_a_1 (lnT (c + j) (M - (c + j)) 50) (PF1 c (r.erase ((i0 : Int) + 1))) (rqT M fun k => if k = i0 then (s_a_1, 3) else g k) [] =
        (PF1 c (r.erase ((i0 : Int) + 1) ++ [((c + j : Nat) : Int) + 1]), rqT M (fun k => if k = c + j then (s_a_1, 1) else if k = i0 then (s_a_1, 3) else g k), lnT (c + j + 1) (M - (c + j + 1)) 50, [(((c + j : Nat) : Int) + 1, 1, 1, s_, ())]) := by
      rw [show M - (c + j) = (M - (c + j + 1)) + 1 by omega, lnT_cons, flowA, ht, if_pos rfl]
      simp only [List.nil_append]
      rw [rqT_set h]
      cases hL : M - (c + j + 1) with
      | zero => rfl
      | succ L =>
        rw [lnT_cons, flowA, PF1_full (s := c + j + 1) (by rw [List.length_append, hel]; simp only [List.length_cons, List.length_nil]; omega) hb2 (by omega), if_neg (by simp)]
    obtain ⟨G', e, W'⟩ := W1.flow hfl
    refine ⟨_, G', _, r.erase ((i0 : Int) + 1) ++ [((c + j : Nat) : Int) + 1], fun k => if k = c + j then (s_a_1, 1) else if k = i0 then (s_a_1, 3) else g k, gd e, by rw [if_pos h]; rfl, ⟨rfl, ?_, ?_, ?_, ?_, ?_, ?_, ?_⟩⟩
    · rw [show min M (c + (j + 1)) = c + j + 1 by omega]; exact W'
    · rw [List.length_append, hel]; simp only [List.length_cons, List.length_nil]; omega
    · rw [List.pairwise_append]
      exact ⟨hpr, List.pairwise_singleton .., fun a ha b hb => by simp at hb; subst hb; have := hbr a ha; omega⟩
    · intro i hi
      rw [List.mem_append, hmer, List.mem_singleton]
      by_cases e1 : i = c + j
      · subst e1; rw [if_pos rfl]; simp
      · rw [if_neg e1]
        by_cases e2 : i = i0
        · subst e2; rw [if_pos rfl]
          constructor
          · rintro (⟨h, -⟩ | h)
            · exact (h rfl).elim
            · omega
          · intro h; cases h
        · rw [if_neg e2, ← hmem i hi]
          constructor
          · rintro (⟨-, h⟩ | h)
            · exact h
            · omega
          · intro h; exact .inl ⟨by omega, h⟩
    · intro i hi
      rw [show min M (c + (j + 1)) = c + j + 1 by omega]
      by_cases e1 : i = c + j
      · subst e1; rw [if_pos rfl]
        constructor
        · intro h; omega
        · intro h; cases h
      · rw [if_neg e1]
        by_cases e2 : i = i0
        · subst e2; rw [if_pos rfl]
          constructor
          · intro h; omega
          · intro h; cases h
        · rw [if_neg e2, ← hwt i hi]; omega
    · intro i hi
      by_cases e1 : i = c + j
      · rw [if_pos e1]; exact .inl rfl
      · rw [if_neg e1]
        by_cases e2 : i = i0
        · rw [if_pos e2]; exact .inr (.inr rfl)
        · rw [if_neg e2]; exact hot i hi
    · rw [show min M (c + (j + 1)) = c + j + 1 by omega]; exact hb2
  · have hs : min M (c + j) = M := by omega
    rw [hs] at W1 hlen hb hbr hwt hi0s
    have hfl : flowA s_a_1 (lnT M (M - M) 50) (PF1 c (r.erase ((i0 : Int) + 1))) (rqT M fun k => if k = i0 then (s_a_1, 3) else g k) [] =
        (PF1 c (r.erase ((i0 : Int) + 1)), rqT M (fun k => if k = i0 then (s_a_1, 3) else g k), lnT M (M - M) 50, []) := by
      rw [Nat.sub_self]; rfl
    obtain ⟨G', e, W'⟩ := W1.flow hfl
    refine ⟨_, G', _, r.erase ((i0 : Int) + 1), fun k => if k = i0 then (s_a_1, 3) else g k, gd e, by rw [if_neg h]; rfl, ⟨rfl, ?_, ?_, hpr, ?_, ?_, ?_, ?_⟩⟩
    · rw [show min M (c + (j + 1)) = M by omega]; exact W'
    · rw [hel]; omega
    · intro i hi
      rw [hmer]
      by_cases e2 : i = i0
      · subst e2; rw [if_pos rfl]
        constructor
        · rintro ⟨h, -⟩; exact (h rfl).elim
        · intro h; cases h
      · rw [if_neg e2, ← hmem i hi]
        exact ⟨fun h => h.2, fun h => ⟨by omega, h⟩⟩
    · intro i hi
      rw [show min M (c + (j + 1)) = M by omega]
      by_cases e2 : i = i0
      · subst e2; rw [if_pos rfl]
        constructor
        · intro h; omega
        · intro h; cases h
      · rw [if_neg e2, ← hwt i hi]
    · intro i hi
      by_cases e2 : i = i0
      · rw [if_pos e2]; exact .inr (.inr rfl)
      · rw [if_neg e2]; exact hot i hi
    · rw [show min M (c + (j + 1)) = M by omega]; exact hbr
theorem gCnt_rqT {m : Nat} {g : Nat → ByteArray × Int} {q : Int} : gCnt (rqT m g) q = ((List.range m).filter fun i => decide ((g i).2 = q)).length := rqT_count (rev := s_) (p := fun x => decide (x.2 = q))
theorem W_GateEnds (p0 p1 : Int) (p2 : Sl) {xs : List Int} (o2 : Old w0 eI p2 xs) : Calls Pr n_damperlaw14_GateEnds #[I p0, I p1, SlV p2] w0 fun e w' => e = .returned (.bool true) ∧ St w0 [] w' := by
  refine law_of (args := [I p0, I p1, SlV p2]) (C_damperlaw14_GateEnds p0 p1 p2) ?_
  unfold F_damperlaw14_GateEnds
  have h := St.init w0
  refine S_known14 h fun w h => itF rfl ?_
  refine S_fNew h fun bf sf w hf h => itF rfl ?_
  refine S_gNew h (by decide) (by decide) fun b sg w hg h => itF rfl ?_
  have hc0 := Int.emod_nonneg p1 (by decide : (8 : Int) ≠ 0)
  have hc1 := Int.emod_lt_of_pos p1 (by decide : (0 : Int) < 8)
  refine S_within14 (by decide) (by decide) ?_
  rw [wr (n := 1 + p1 % 8) (by omega) (by omega)]
  obtain ⟨c, hc⟩ : ∃ c : Nat, 1 + p1 % 8 = c := ⟨(1 + p1 % 8).toNat, by omega⟩
  rw [hc]
  have hm0 := Int.emod_nonneg p0 (by omega : (c : Int) + 9 ≠ 0)
  have hm1 := Int.emod_lt_of_pos p0 (by omega : (0 : Int) < (c : Int) + 9)
  obtain ⟨M, hM⟩ : ∃ M : Nat, p0 % ((c : Int) + 9) = M := ⟨(p0 % ((c : Int) + 9)).toNat, by omega⟩
  refine S_fScale h 1 rfl hf (by decide) (by decide) fun v1 v2 sf s1 s2 w hf hr1 hr2 h => ?_
  rw [OF_scale (R := 1) (by decide)] at hf
  have h : St w0 (s2 :: s1 :: sg :: sf :: []) w := h
  have h := dl0_ (dl0_ h)
  refine S_fUpp h 1 rfl hf fun sf w hf h => ?_
  rw [OF_up] at hf
  rw [wr (n := (c : Int) + 9) (by omega) (by omega)]
  refine S_within14 (by omega) (by omega) ?_
  rw [hM]
  refine loop_of (fun q y w => ∃ (i : Nat) (F : AFleet) (G : AGate) (sg sf : Seg), y = ((i : Int) + 1, ()) ∧ q + i = M ∧ OneI 1 c i F G ∧ GtS b bf G sg ∧ FlS bf F sf ∧ St w0 (sg :: sf :: []) w) M ⟨0, _, _, sg, sf, rfl, rfl, OneI.init, hg, hf, h⟩ ?_
  clear hf hg hr1 hr2
  clear h; (try clear w)
  rintro q y w ⟨i, F, G, sg, sf, rfl, hq, J1, hg, hf, h⟩ again hag
  dsimp only
  refine it (fun hb => ?_) (fun hb => ?_) <;> (try simp only [decide_eq_true_eq, decide_eq_false_iff_not, beq_iff_eq, bne_iff_ne, beq_eq_false_iff_ne, bne_eq_false_iff_eq, Bool.not_eq_true', Bool.not_eq_false', ne_eq, Bool.not_eq_true, Bool.not_eq_false] at hb)
  · refine S_gOne h hg hf J1 (by decide) (by decide) (by omega) (by omega) fun v sv sg sf F' G' w hf hg J1 h => ?_
    rw [wr (by omega) (by omega)]
    exact hag (q - 1) _ w (by omega) ⟨i + 1, F', G', sg, sf, by simp, by omega, J1, hg, hf, dl0_ h⟩
  · have e : i = M := by omega
    subst e
    have K0 : EndsI c i 0 F G (rqL (min i c)) (gS (min i c)) := by
      obtain ⟨hF, W⟩ := J1
      refine ⟨hF, ?_, ?_, ?_, ?_, ?_, ?_, ?_⟩
      · rw [show min i (c + 0) = min i c by omega]; exact W
      · rw [rqL_len]; omega
      · unfold rqL tab; rw [List.pairwise_map]; exact List.pairwise_lt_range.imp fun h => by omega
      · intro k hk
        rw [rqL_mem]; unfold gS
        by_cases e : k < min i c
        · rw [if_pos e]; exact ⟨fun _ => rfl, fun _ => by omega⟩
        · rw [if_neg e]; exact ⟨fun h => by omega, fun h => by cases h⟩
      · intro k hk
        rw [show min i (c + 0) = min i c by omega]; unfold gS
        by_cases e : k < min i c
        · rw [if_pos e]; exact ⟨fun h => by omega, fun h => by cases h⟩
        · rw [if_neg e]; exact ⟨fun _ => rfl, fun _ => by omega⟩
      · intro k hk; unfold gS; split
        · exact .inl rfl
        · exact .inr (.inl rfl)
      · intro q hq; have := rqL_mem.1 hq; omega
    refine loop_of (fun q y w => ∃ (j : Nat) (F : AFleet) (G : AGate) (r : List Int) (g : Nat → ByteArray × Int) (sg sf : Seg), y = ((j : Int), ()) ∧ q + j = i ∧ EndsI c i j F G r g ∧ GtS b bf G sg ∧ FlS bf F sf ∧ St w0 (sg :: sf :: []) w) i ⟨0, F, G, _, _, sg, sf, rfl, rfl, K0, hg, hf, h⟩ ?_
    clear K0 hf hg J1
    clear h; (try clear w)
    rintro q y w ⟨j, F, G, r, g, sg, sf, rfl, hq, K, hg, hf, h⟩ again hag
    dsimp only
    have hrl := K.len
    refine it (fun hb => ?_) (fun hb => ?_) <;> (try simp only [decide_eq_true_eq, decide_eq_false_iff_not, beq_iff_eq, bne_iff_ne, beq_eq_false_iff_ne, bne_eq_false_iff_eq, Bool.not_eq_true', Bool.not_eq_false', ne_eq, Bool.not_eq_true, Bool.not_eq_false] at hb)
    · refine S_gInside h hg fun u1 u2 z1 z2 sg w hu1 hu2 hg h => ?_
      rw [K.sent] at hu2
      have l2 := Rw.len encI hu2
      rw [wr (n := (i : Int) - j) (by omega) (by omega)]
      refine itF ?_ ?_
      · simp only [bne_eq_false_iff_eq]
        rw [l2]
        split <;> omega
      have rest : ∀ {x : Int} {w}, St w0 (z1 :: z2 :: sg :: sf :: []) w →
          (L.call Pr n_damperlaw14_within [.int .i64 x, .int .i64 ((u2.len : Nat) : Int)] (.one (.one (.int .i64))) fun (x18 : Int) =>
          L.idx u2.a x18 u2.len 1 fun a19 => L.load (.one (.int .i64)) a19 fun (x20 : Int) =>
          L.call Pr n_gate_Gate_Done [.pointer (some ⟨b, 0, none⟩), .int .i64 x20] (.tup [(.one (.slice)), (.one (.int .i64))]) fun (x21 : Sl × Int × Unit) =>
          L.ite (x21.2.1 != 0) (fun w' => Value.bool false = .bool true ∧ St w0 [] w') <|
          L.ite (decide (((x21.1.len : Nat) : Int) < 1)) (fun w' => Value.bool false = .bool true ∧ St w0 [] w') <|
          L.idx x21.1.a 0 x21.1.len 4 fun a22 => L.load (.one (.int .i64)) (a22.add 0) fun (x23 : Int) =>
          L.ite (x23 != x20) (fun w' => Value.bool false = .bool true ∧ St w0 [] w') <|
          L.idx x21.1.a 0 x21.1.len 4 fun a24 => L.load (.one (.int .i64)) (a24.add 1) fun (x25 : Int) =>
          L.ite (x25 != 3) (fun w' => Value.bool false = .bool true ∧ St w0 [] w') <|
          L.ite (((x21.1.len : Nat) : Int) != (IntKind.wrap .i64 (1 + (if (if (IntKind.wrap .i64 ((i : Int) - j - c)) > 0 then (IntKind.wrap .i64 ((i : Int) - j - c)) else 0) < 1 then (if (IntKind.wrap .i64 ((i : Int) - j - c)) > 0 then (IntKind.wrap .i64 ((i : Int) - j - c)) else 0) else 1)))) (fun w' => Value.bool false = .bool true ∧ St w0 [] w') <|
          again (IntKind.wrap .i64 ((j : Int) + 1), ())) w := by
        intro x w h
        have hx0 := Int.emod_nonneg x (by omega : ((u2.len : Nat) : Int) ≠ 0)
        have hx1 := Int.emod_lt_of_pos x (by omega : (0 : Int) < ((u2.len : Nat) : Int))
        refine S_within14 (by omega) (by omega) ?_
        refine rd1 (Rw.rd encI h 1 rfl hu2) encI (lf := .int .i64) (fun x => x) (fun x => ⟨_, rfl, rfl⟩) hx0 hx1 fun qq hqq => ?_
        have hqm : qq ∈ r := List.mem_of_getElem? hqq
        obtain ⟨F', G', out, r', g', e, hol, K'⟩ := K.step hf.1 (by omega) hqm
        have hA := K.w.all; have hnl := K.w.nl
        have hff : FFew F := by rw [K.f]; exact PF1_few (by omega) K.b (by omega)
        have h := fr3_ (fr3_ h)
        refine S_gDone h hg hf hff (by rw [hA, rqT_len]; omega) (by omega) fun v sv sg sf w hv hg hf h => ?_
        rw [e] at hv hg hf ⊢
        dsimp only at hv hg hf
        have hl := Rw.len encF hv
        simp only [List.length_cons] at hl
        refine itF rfl (itF (by rw [hl]; simp; omega) ?_)
        refine rf (Rw.rd encF h 0 rfl hv) (x := (qq, 3, 0, s_, ())) rfl (by decide) rfl rfl (itF (by simp) ?_)
        refine rf (Rw.rd encF h 0 rfl hv) (x := (qq, 3, 0, s_, ())) rfl (by decide) rfl rfl (itF rfl ?_)
        rw [wr (n := (i : Int) - j - c) (by omega) (by omega)]
        have em : (1 + (if (if ((i : Int) - j - c) > 0 then ((i : Int) - j - c) else 0) < 1 then (if ((i : Int) - j - c) > 0 then ((i : Int) - j - c) else 0) else 1)) = ((v.len : Nat) : Int) := by
          rw [hl, hol]
          by_cases h3 : c + j < i
          · rw [if_pos h3, if_pos (show ((i : Int) - j - c) > 0 by omega)]
            by_cases h4 : ((i : Int) - j - c) < 1
            · omega
            · rw [if_neg h4]; rfl
          · rw [if_neg h3, if_neg (show ¬ ((i : Int) - j - c) > 0 by omega), if_pos (by decide)]; rfl
        rw [em, wr (n := ((v.len : Nat) : Int)) (by omega) (by rw [hl, hol]; split <;> decide)]
        refine itF (by simp) ?_
        rw [wr (by omega) (by omega)]
        exact hag (q - 1) _ w (by omega) ⟨j + 1, F', G', r', g', sg, sf, by simp, by omega, K', hg, hf, by
          have h : St w0 (sv :: sg :: sf :: z1 :: z2 :: []) w := h
          have h := dl0_ (dl3_ (dl4_ h))
          exact h⟩
      rw [wr (n := (i : Int) - j - c) (by omega) (by omega)] at *
      refine jd ?_
      refine it (fun hb2 => ?_) (fun _ => rest h)
      simp only [decide_eq_true_eq] at hb2
      refine oldI o2 h (by omega) hb2 fun x hx => rest h
    · have e : j = i := by omega
      subst e
      refine S_gCounts h hg fun sg w hg h => ?_
      have hr0 : r = [] := List.eq_nil_of_length_eq_zero (by omega)
      have h3 : ∀ k, k < j → g k = (s_a_1, 3) := fun k hk => by
        rcases K.ot k hk with h | h | h
        · have := (K.mem k hk).2 h; rw [hr0] at this; cases this
        · have := (K.wt k hk).2 h; omega
        · exact h
      rw [K.w.all]
      have z : ∀ q : Int, q ≠ 3 → gCnt (rqT j g) q = 0 := fun q hq => by
        rw [gCnt_rqT, List.length_eq_zero_iff, List.filter_eq_nil_iff]
        intro x hx
        rw [h3 x (List.mem_range.1 hx), decide_eq_true_eq]
        exact fun e => hq e.symm
      have z3 : gCnt (rqT j g) 3 = j := by
        rw [gCnt_rqT]
        have : (List.range j).filter (fun i => decide ((g i).2 = 3)) = List.range j := by
          rw [List.filter_eq_self]; intro x hx; rw [h3 x (List.mem_range.1 hx)]; rfl
        rw [this, List.length_range]
      rw [z 2 (by decide), z 1 (by decide), z 4 (by decide), z3, rqT_len]
      refine itT (by simp) (itT rfl (itT rfl ⟨by simp, h.fin⟩))
end Go.Proofs.Ythmpbgloifdcnaa
