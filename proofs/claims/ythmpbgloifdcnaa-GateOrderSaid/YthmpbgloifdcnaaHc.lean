/- Contracts of functions, and walks of laws (text Hc). No conditions beyond those its theorems state. -/
import Derived.Test.YthmpbgloifdcnaaHb
set_option linter.all false
namespace Go.Proofs.Ythmpbgloifdcnaa
open Go.Dm
attribute [local irreducible] L.load L.store L.chk L.new L.nonnil L.guard L.ite L.draw L.idx L.sem L.semR L.semU L.chkSem L.next L.call L.callV L.join L.alts L.loop L.begin L.endRound L.range
variable {w0 w : World} {E : List Seg}
/-! ### GateApart -/
def bT (m : Nat) (x : Int) : Alls := tab m fun i => (100 + ((i : Int) + 1), (s_b_1, x))
theorem bT_succ {m : Nat} {x : Int} : bT (m + 1) x = bT m x ++ [(100 + ((m : Int) + 1), (s_b_1, x))] := tab_succ
/-- behind n of the one, i of the other -/
structure ApI (up : Bool) (n i : Nat) (F : AFleet) (G : AGate) : Prop where
  f : ∃ rs, F = TF 4 s_b_1 1 (8 : Nat) (fun _ => up) rs ∧ TL 1 8 (if up = true then i else 0) (100 + i) (fun _ => up) rs
  all : G.all = rqT n (fun _ => (s_a_1, 2)) ++ bT i (if up = true then 1 else 2)
  la : (lineOf G.lines s_a_1).length = n
  lb : (lineOf G.lines s_b_1).length = if up = true then 0 else i
  ib : ∀ x ∈ lineOf G.lines s_b_1, x.1 ≤ 100 + i
  nl : G.lines.length ≤ n + i
  room : G.room = 8
  pat : G.pat = 50
theorem ApI.step {up : Bool} {n i : Nat} {F : AFleet} {G : AGate} (K : ApI up n i F G) (hn : n ≤ 8) (hi : i < 8) :
    ∃ F' G' pod, gArr F G (100 + ((i : Int) + 1)) s_b_1 0 = (F', G', (100 + ((i : Int) + 1), if up = true then 1 else 2, pod, s_, ())) ∧ ApI up n (i + 1) F' G' := by
  obtain ⟨⟨rs, rfl, t⟩, hall, hla, hlb, hib, hnl, hroom, hpat⟩ := K
  have hout : ∀ x : Int, mget (rqT n (fun _ => (s_a_1, 2)) ++ bT i x) (100 + ((i : Int) + 1)) = none := fun x => by
    rw [mget_none, List.map_append, List.mem_append]
    rintro (h | h)
    · obtain ⟨y, hy, e⟩ := List.mem_map.1 h
      obtain ⟨k, hk, rfl⟩ := tab_mem.1 hy
      simp only at e; omega
    · obtain ⟨y, hy, e⟩ := List.mem_map.1 h
      obtain ⟨k, hk, rfl⟩ := tab_mem.1 hy
      simp only at e; omega
  have hs : gSeen G.all (100 + ((i : Int) + 1)) = false := by rw [hall]; unfold gSeen; rw [hout]; rfl
  have push : ∀ x : Int, mset (rqT n (fun _ => (s_a_1, 2)) ++ bT i x) (100 + ((i : Int) + 1)) (s_b_1, x) = rqT n (fun _ => (s_a_1, 2)) ++ bT (i + 1) x := fun x => by
    rw [mset_none (hout x), bT_succ, List.append_assoc]
  have hh : lHas (lineOf G.lines s_b_1) (100 + ((i : Int) + 1)) = false := lHas_no fun x hx => by have := hib x hx; omega
  have hB : (100 + ((i : Int) + 1)) = (100 + (i : Int)) + 1 := by omega
  have hB2 : (100 + ((i + 1 : Nat) : Int)) = (100 + (i : Int)) + 1 := by omega
  cases up with
  | true =>
    simp only [↓reduceIte] at *
    have hx : ∃ k, k < 1 ∧ (fun _ : Nat => true) k = true ∧ (rs k).length < 8 := by
      obtain ⟨k, hk, hc⟩ := tot_lt t.len (by rw [t.tot]; omega)
      exact ⟨k, hk, rfl, hc⟩
    obtain ⟨k, hk, -, -, e, t'⟩ := tl_take (R := 4) (rv := s_b_1) (q := 100 + ((i : Int) + 1)) t (by omega) hB hx
    have ea := gArr_sent (G := G) (now := 0) hs ne_b1 (by omega) (show (fTake (TF 4 s_b_1 1 (8 : Nat) (fun _ => true) rs) s_b_1 (100 + ((i : Int) + 1))).2.2 = true by rw [e])
    rw [e] at ea
    refine ⟨_, _, _, ea, ⟨⟨_, rfl, ?_⟩, ?_, ?_, ?_, ?_, ?_, hroom, hpat⟩⟩
    · simp only [↓reduceIte]; rw [hB2, ← hB]; exact t'
    · simp only [↓reduceIte]; rw [hall, push]
    · rw [lineOf_mset, if_neg ne_ba]; exact hla
    · rw [lineOf_mset, if_pos rfl]; exact hlb
    · rw [lineOf_mset, if_pos rfl]; intro x hx; have := hib x hx; omega
    · have := mset_le' G.lines s_b_1 (lineOf G.lines s_b_1); simp only; omega
  | false =>
    simp only [Bool.false_eq_true, ↓reduceIte] at *
    have e := tl_full (R := 4) (rv := s_b_1) (q := 100 + ((i : Int) + 1)) t (by omega) (fun k _ h => by cases h)
    have ea := gArr_wait (G := G) (F := TF 4 s_b_1 1 (8 : Nat) (fun _ => false) rs) (now := 0) hs ne_b1 (by rintro ⟨-, h⟩; rw [e] at h; cases h) hh (by rw [hroom, hlb]; omega)
    refine ⟨_, _, _, ea, ⟨⟨rs, rfl, ?_⟩, ?_, ?_, ?_, ?_, ?_, hroom, hpat⟩⟩
    · simp only [Bool.false_eq_true, ↓reduceIte]
      exact ⟨t.len, t.nr, t.tot, fun k hk q hq => by have := t.b k hk q hq; omega⟩
    · simp only [Bool.false_eq_true, ↓reduceIte]; rw [hall, push]
    · rw [lineOf_mset, if_neg ne_ba]; exact hla
    · rw [lineOf_mset, if_pos rfl, List.length_append, hlb]; simp
    · rw [lineOf_mset, if_pos rfl]
      intro x hx
      rcases List.mem_append.1 hx with hx | hx
      · have := hib x hx; omega
      · simp at hx; subst hx; simp only; omega
    · have := mset_le' G.lines s_b_1 (lineOf G.lines s_b_1 ++ [(100 + ((i : Int) + 1), 0 + G.pat)]); simp only; omega
theorem ApI.few {up : Bool} {n i : Nat} {F : AFleet} {G : AGate} (K : ApI up n i F G) : FFew F := by
  obtain ⟨⟨rs, rfl, t⟩, -⟩ := K
  exact tf_few t (by decide) (by decide) (by decide)
theorem bT_filter {m : Nat} {x y : Int} {rev : ByteArray} : ((bT m x).filter fun p => decide (p.2 = (rev, y))).length = if (s_b_1, x) = (rev, y) then m else 0 := by
  by_cases h : (s_b_1, x) = (rev, y)
  · rw [if_pos h]
    have : (bT m x).filter (fun p => decide (p.2 = (rev, y))) = bT m x := by
      rw [List.filter_eq_self]
      intro p hp
      obtain ⟨k, -, rfl⟩ := tab_mem.1 hp
      simpa using h
    rw [this]; exact tab_len
  · rw [if_neg h, List.length_eq_zero_iff, List.filter_eq_nil_iff]
    intro p hp
    obtain ⟨k, -, rfl⟩ := tab_mem.1 hp
    simpa using h
theorem W_GateApart (p0 p1 : Int) (p2 : Bool) : Calls Pr n_damperlaw14_GateApart #[I p0, I p1, .bool p2] w0 fun e w' => e = .returned (.bool true) ∧ St w0 [] w' := by
  refine law_of (args := [I p0, I p1, .bool p2]) (C_damperlaw14_GateApart p0 p1 p2) ?_
  unfold F_damperlaw14_GateApart
  have h := St.init w0
  refine S_known14 h fun w h => itF rfl ?_
  refine S_fNew h fun bf sf w hf h => itF rfl ?_
  refine S_gNew h (by decide) (by decide) fun b sg w hg h => itF rfl ?_
  have hn0 := Int.emod_nonneg p0 (by decide : (9 : Int) ≠ 0)
  have hn1 := Int.emod_lt_of_pos p0 (by decide : (0 : Int) < 9)
  have hm0 := Int.emod_nonneg p1 (by decide : (9 : Int) ≠ 0)
  have hm1 := Int.emod_lt_of_pos p1 (by decide : (0 : Int) < 9)
  refine S_within14 (by decide) (by decide) ?_
  refine S_within14 (by decide) (by decide) ?_
  obtain ⟨n, hn⟩ : ∃ n : Nat, p0 % 9 = n := ⟨(p0 % 9).toNat, by omega⟩
  obtain ⟨m, hm⟩ : ∃ m : Nat, p1 % 9 = m := ⟨(p1 % 9).toNat, by omega⟩
  rw [hn, hm]
  refine S_fScale h 1 rfl hf (by decide) (by decide) fun v1 v2 sf s1 s2 w hf hr1 hr2 h => ?_
  have es : fScale ⟨4, 0, []⟩ s_b_1 8 1 = (TF 4 s_b_1 1 (8 : Nat) (fun _ => false) (fun _ => []), []) := (tf_scale (R := 4) (rv := s_b_1) (8 : Nat) (n := 1) (by decide)).1
  rw [es] at hf
  have h : St w0 (s2 :: s1 :: sg :: sf :: []) w := h
  have h := dl0_ (dl0_ h)
  have t0 : ∀ up, TL 1 8 0 100 (fun _ => up) (fun _ => []) := fun up => ⟨fun _ _ => by simp, fun _ _ _ => rfl, rfl, fun _ _ q hq => by cases hq⟩
  refine join_of (fun z w => ∃ sf, FlS bf (TF 4 s_b_1 1 (8 : Nat) (fun _ => p2) (fun _ => [])) sf ∧ St w0 (sg :: sf :: []) w) (fun k7 hk7 => ?_) (fun z w ⟨sf, hf, h⟩ => ?_)
  · refine it (fun hb => ?_) (fun hb => ?_)
    · subst hb
      refine S_fUpp h 1 rfl hf fun sf w hf h => ?_
      have eu : fUpp (TF 4 s_b_1 1 (8 : Nat) (fun _ => false) (fun _ => [])) 1 = (TF 4 s_b_1 1 (8 : Nat) (fun _ => true) (fun _ => []), 0) := by
        have e := tf_up (R := 4) (rv := s_b_1) (n := 1) (c := (8 : Nat)) (ready := fun _ => false) (rs := fun _ => []) (k := 0) (by omega) rfl
        have e2 : (((0 : Nat) : Int) + 1) = 1 := rfl
        rw [e2] at e
        rw [e]
        congr 1
      rw [eu] at hf ⊢
      exact itF rfl (hk7 _ w ⟨sf, hf, h⟩)
    · subst hb
      exact hk7 _ w ⟨sf, hf, h⟩
  · have ff : FFew (TF 4 s_b_1 1 (8 : Nat) (fun _ => p2) (fun _ => [])) := tf_few (t0 p2) (by decide) (by decide) (by decide)
    have W0 : GW ⟨[], [], 8, 50⟩ s_a_1 0 0 (fun _ => (s_a_1, 2)) (lnT 0 0 50) 8 50 := ⟨rfl, rfl, by simp, rfl, rfl⟩
    refine loop_of (fun q y w => ∃ (i : Nat) (G : AGate) (sg sf : Seg), y = ((i : Int) + 1, ()) ∧ q + i = n ∧ GW G s_a_1 i i (fun _ => (s_a_1, 2)) (lnT 0 i 50) 8 50 ∧ lineOf G.lines s_b_1 = [] ∧ GtS b bf G sg ∧ FlS bf (TF 4 s_b_1 1 (8 : Nat) (fun _ => p2) (fun _ => [])) sf ∧ St w0 (sg :: sf :: []) w) n ⟨0, _, sg, sf, rfl, rfl, W0, rfl, hg, hf, h⟩ ?_
    clear hf hg W0
    clear h; (try clear w)
    rintro q y w ⟨i, G, sg, sf, rfl, hq, W, hlb, hg, hf, h⟩ again hag
    dsimp only
    refine it (fun hb => ?_) (fun hb => ?_) <;> (try simp only [decide_eq_true_eq, decide_eq_false_iff_not, beq_iff_eq, bne_iff_ne, beq_eq_false_iff_ne, bne_eq_false_iff_eq, Bool.not_eq_true', Bool.not_eq_false', ne_eq, Bool.not_eq_true, Bool.not_eq_false] at hb)
    · have hno : ¬ ((lnT 0 i 50).length = 0 ∧ (fTake (TF 4 s_b_1 1 (8 : Nat) (fun _ => p2) (fun _ => [])) s_a_1 ((i : Int) + 1)).2.2 = true) := by rintro ⟨-, h⟩; rw [tf_other ne_ba] at h; cases h
      obtain ⟨G', e, W'⟩ := W.wait ne_a1 hno (lnT_ne (by omega)) (by rw [lnT_len]; omega)
      have hA := W.all; have hnl := W.nl; have hpat := W.pat
      have elb : lineOf G'.lines s_b_1 = [] := by
        have e2 := gArr_wait (F := TF 4 s_b_1 1 (8 : Nat) (fun _ => p2) (fun _ => [])) (G := G) (now := 0) (id := (i : Int) + 1) (rev := s_a_1) (by rw [hA]; exact rqT_seen) ne_a1 (by rw [W.ln]; exact hno) (by rw [W.ln]; exact lHas_no (lnT_ne (by omega))) (by rw [W.ln, W.room, lnT_len]; omega)
        rw [e] at e2
        have e3 := congrArg (fun z => lineOf z.2.1.lines s_b_1) e2
        simp only at e3
        rw [e3, lineOf_mset, if_neg ne_ab]; exact hlb
      refine S_gArr h hg hf ff (by rw [hA, rqT_len]; omega) (by omega) (by rw [hpat]; decide) fun v sv sg sf w hv hg hf h => ?_
      rw [e] at hv hg hf
      rw [wr (by omega) (by omega)]
      refine hag (q - 1) _ w (by omega) ⟨i + 1, G', sg, sf, by simp, by omega, ?_, elb, hg, hf, dl0_ h⟩
      obtain ⟨a1, a2, a3, a4, a5⟩ := W'
      refine ⟨?_, ?_, a3, a4, a5⟩
      · rw [a1]; exact rqT_congr fun j _ => by split <;> rfl
      · rw [a2, lnT_snoc]; congr 3; omega
    · have e : i = n := by omega
      subst e
      have K0 : ApI p2 i 0 (TF 4 s_b_1 1 (8 : Nat) (fun _ => p2) (fun _ => [])) G := by
        refine ⟨⟨_, rfl, ?_⟩, ?_, ?_, ?_, ?_, ?_, W.room, W.pat⟩
        · have : (if p2 = true then 0 else 0) = 0 := by split <;> rfl
          rw [this]; exact t0 p2
        · rw [W.all]; simp [bT, tab]
        · rw [W.ln, lnT_len]
        · rw [hlb]; split <;> rfl
        · rw [hlb]; simp
        · have := W.nl; omega
      refine loop_of (fun q y w => ∃ (j : Nat) (F : AFleet) (G : AGate) (sg sf : Seg), y = ((j : Int) + 1, ()) ∧ q + j = m ∧ ApI p2 i j F G ∧ GtS b bf G sg ∧ FlS bf F sf ∧ St w0 (sg :: sf :: []) w) m ⟨0, _, G, sg, sf, rfl, rfl, K0, hg, hf, h⟩ ?_
      clear K0 hf hg
      clear h; (try clear w)
      rintro q y w ⟨j, F, G, sg, sf, rfl, hq, K, hg, hf, h⟩ again hag
      dsimp only
      have hal : G.all.length = i + j := by rw [K.all, List.length_append, rqT_len]; congr 1; exact tab_len
      have hnl := K.nl; have hpat := K.pat
      refine it (fun hb => ?_) (fun hb => ?_) <;> (try simp only [decide_eq_true_eq, decide_eq_false_iff_not, beq_iff_eq, bne_iff_ne, beq_eq_false_iff_ne, bne_eq_false_iff_eq, Bool.not_eq_true', Bool.not_eq_false', ne_eq, Bool.not_eq_true, Bool.not_eq_false] at hb)
      · obtain ⟨F', G', pod, e, K'⟩ := K.step (by omega) (by omega)
        rw [wr (n := 100 + ((j : Int) + 1)) (by omega) (by omega)]
        refine S_gArr h hg hf K.few (by omega) (by omega) (by rw [hpat]; decide) fun v sv sg sf w hv hg hf h => ?_
        rw [e] at hv hg hf
        have hl := Rw.len encF hv
        have fin : ∀ {w}, St w0 (sv :: sg :: sf :: []) w → again (IntKind.wrap .i64 ((j : Int) + 1 + 1), ()) w := by
          intro w h
          rw [wr (by omega) (by omega)]
          exact hag (q - 1) _ w (by omega) ⟨j + 1, F', G', sg, sf, by simp, by omega, K', hg, hf, dl0_ h⟩
        refine jd ?_
        cases p2 with
        | true =>
          refine itT rfl (itF (by rw [hl]; rfl) ?_)
          exact rf (Rw.rd encF h 0 rfl hv) (x := (100 + ((j : Int) + 1), 1, pod, s_, ())) rfl (by decide) rfl rfl (itF rfl (fin h))
        | false =>
          refine itF rfl (itF (by rw [hl]; rfl) ?_)
          exact rf (Rw.rd encF h 0 rfl hv) (x := (100 + ((j : Int) + 1), 2, pod, s_, ())) rfl (by decide) rfl rfl (itF rfl (fin h))
      · have e : j = m := by omega
        subst e
        have wa : (gWait G s_a_1).length = i := by unfold gWait; rw [List.length_map]; exact K.la
        have wb : (gWait G s_b_1).length = if p2 = true then 0 else j := by unfold gWait; rw [List.length_map]; exact K.lb
        have za : (gWith G.all s_a_1).length = 0 := by
          unfold gWith; rw [isort_len, List.length_map, K.all, List.filter_append, List.length_append, bT_filter, if_neg (by intro h; exact ne_ba (Prod.mk.inj h).1), Nat.add_zero, List.length_eq_zero_iff, List.filter_eq_nil_iff]
          intro p hp
          obtain ⟨k, -, rfl⟩ := tab_mem.1 hp
          simp
        have zb : (gWith G.all s_b_1).length = if p2 = true then j else 0 := by
          unfold gWith; rw [isort_len, List.length_map, K.all, List.filter_append, List.length_append, bT_filter]
          have : ((rqT i fun _ => (s_a_1, 2)).filter fun p => decide (p.2 = (s_b_1, (1 : Int)))).length = 0 := by
            rw [List.length_eq_zero_iff, List.filter_eq_nil_iff]
            intro p hp
            obtain ⟨k, -, rfl⟩ := tab_mem.1 hp
            simp
          rw [this, Nat.zero_add]
          cases p2 <;> simp
        refine S_gInside h hg fun u1 u2 z1 z2 sg w hu1 hu2 hg h => ?_
        have l1 := Rw.len encI hu1
        have l2 := Rw.len encI hu2
        rw [wa] at l1
        rw [za] at l2
        have h := fr2_ h
        refine S_gInside h hg fun u3 u4 z3 z4 sg w hu3 hu4 hg h => ?_
        have l3 := Rw.len encI hu3
        have l4 := Rw.len encI hu4
        rw [wb] at l3
        rw [zb] at l4
        have fin : ∀ {w}, St w0 (z3 :: z4 :: sg :: z1 :: z2 :: sf :: []) w →
            (L.call Pr n_gate_Gate_Busy [.pointer (some ⟨b, 0, none⟩), .string s_a_1] (.one (.one (.int .i64))) fun (x24 : Int) =>
              L.ite (x24 == (i : Int)) (L.call Pr n_gate_Gate_Busy [.pointer (some ⟨b, 0, none⟩), .string s_b_1] (.one (.one (.int .i64))) fun (x25 : Int) => fun w' => Value.bool (x25 == (j : Int)) = .bool true ∧ St w0 [] w') <|
              fun w' => Value.bool false = .bool true ∧ St w0 [] w') w := by
          intro w h
          have h := fr2_ h
          refine S_gBusy h hg fun sg w hg h => ?_
          refine itT (by rw [wa, za]; simp) ?_
          refine S_gBusy h hg fun sg w hg h => ⟨?_, h.fin⟩
          rw [wb, zb]
          cases p2 <;> simp
        refine jd ?_
        cases p2 with
        | true =>
          simp only [↓reduceIte] at l3 l4
          refine itT rfl (itT (by rw [l1]; simp) (itT (by rw [l2]; rfl) (itT (by rw [l3]; rfl) (itT (by rw [l4]; simp) (fin h)))))
        | false =>
          simp only [Bool.false_eq_true, ↓reduceIte] at l3 l4
          refine itF rfl (itT (by rw [l1]; simp) (itT (by rw [l2]; rfl) (itT (by rw [l3]; simp) (itT (by rw [l4]; rfl) (fin h)))))
end Go.Proofs.Ythmpbgloifdcnaa
