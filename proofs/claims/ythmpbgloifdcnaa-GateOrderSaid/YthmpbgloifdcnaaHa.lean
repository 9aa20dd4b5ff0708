/- Contracts of functions, and walks of laws (text Ha). No conditions beyond those its theorems state. -/
import Derived.Test.YthmpbgloifdcnaaGy
set_option linter.all false
namespace Go.Proofs.Ythmpbgloifdcnaa
open Go.Dm
attribute [local irreducible] L.load L.store L.chk L.new L.nonnil L.guard L.ite L.draw L.idx L.sem L.semR L.semU L.chkSem L.next L.call L.callV L.join L.alts L.loop L.begin L.endRound L.range
variable {w0 w : World} {E : List Seg}
/-! ### one pod -/
theorem insI_end' {x : Int} : ∀ {l : List Int}, (∀ y ∈ l, y < x) → insI x l = l ++ [x]
  | [], _ => rfl
  | y :: l, h => by
    have hy := h y (List.mem_cons_self ..)
    simp only [insI, if_pos hy, List.cons_append]
    rw [insI_end' fun z hz => h z (List.mem_cons_of_mem _ hz)]
def rqL (s : Nat) : List Int := tab s fun i => (i : Int) + 1
theorem rqL_succ (s : Nat) : rqL (s + 1) = rqL s ++ [(s : Int) + 1] := tab_succ
theorem rqL_len (s : Nat) : (rqL s).length = s := tab_len
theorem rqL_mem {s : Nat} {q : Int} : q ∈ rqL s ↔ 1 ≤ q ∧ q ≤ s := by
  constructor
  · intro h; obtain ⟨i, hi, rfl⟩ := tab_mem.1 h; omega
  · rintro ⟨h1, h2⟩; exact tab_mem.2 ⟨(q - 1).toNat, by omega, by omega⟩
abbrev rdy : Nat → Bool := fun i => decide (i < 1)
def OF (R : Int) (c s : Nat) : AFleet := TF R s_a_1 1 c rdy fun _ => rqL s
theorem OF_tl {c s : Nat} (h : s ≤ c) : TL 1 c s s rdy fun _ => rqL s :=
  ⟨fun i _ => by rw [rqL_len]; exact h, fun i hi hr => by simp at hr; omega, by simp [tot, rqL_len], fun i _ q hq => by have := rqL_mem.1 hq; omega⟩
theorem OF_take {R : Int} {c s : Nat} (h : s < c) : fTake (OF R c s) s_a_1 ((s : Int) + 1) = (OF R c (s + 1), 1, true) := by
  obtain ⟨k, hk, -, -, e, -⟩ := tl_take (R := R) (rv := s_a_1) (OF_tl (c := c) (s := s) (by omega)) (by omega) rfl ⟨0, by omega, rfl, by rw [rqL_len]; exact h⟩
  have : k = 0 := by omega
  subst this
  unfold OF
  rw [e]
  congr 1
  unfold TF
  congr 1
  refine tab_congr fun i hi => ?_
  have : i = 0 := by omega
  subst this
  unfold tG
  congr 2
  simp only [↓reduceIte]
  rw [insI_end' (fun y hy => by have := rqL_mem.1 hy; omega), rqL_succ]
theorem OF_full {R : Int} {c : Nat} {q : Int} (h : (c : Int) < q) : fTake (OF R c c) s_a_1 q = (OF R c c, 0, false) :=
  tl_full (OF_tl (Nat.le_refl c)) h fun i _ _ => rqL_len c
theorem OF_few {R : Int} {c s : Nat} (h : s ≤ c) (hR : R ≤ 20) (h1 : 1 ≤ R) (hc : c ≤ 1000) : FFew (OF R c s) := tf_few (OF_tl h) hR (by omega) hc
/-- behind i who came -/
structure OneI (R : Int) (c i : Nat) (F : AFleet) (G : AGate) : Prop where
  f : F = OF R c (min i c)
  w : GW G s_a_1 i i (gS (min i c)) (lnT (min i c) (i - min i c) 50) 8 50
theorem S_gOne {sg sf : Seg} (h : St w0 (sg :: sf :: E) w) {b bf : Nat} {G : AGate} {F : AFleet} (hg : GtS b bf G sg) (hf : FlS bf F sf) {R : Int} {c i : Nat} (J1 : OneI R c i F G) (hR : R ≤ 20) (h1 : 1 ≤ R) (hc : c ≤ 100) (hi : i < c + 8) {k : Sl → PT}
    (hk : ∀ v sv sg' sf' F' G' w', FlS bf F' sf' → GtS b bf G' sg' → OneI R c (i + 1) F' G' → St w0 (sv :: sg' :: sf' :: E) w' → k v w') :
    L.call Pr n_gate_Gate_Arrive [.pointer (some ⟨b, 0, none⟩), I ((i : Int) + 1), .string s_a_1, I 0] (.one (.one .slice)) k w := by
  obtain ⟨rfl, W⟩ := J1
  have ff : FFew (OF R c (min i c)) := OF_few (by omega) hR h1 (by omega)
  by_cases h2 : i < c
  · have hm : min i c = i := by omega
    rw [hm] at W hf ff
    have W : GW G s_a_1 i i (gS i) [] 8 50 := by simpa [lnT, tab] using W
    obtain ⟨G', e, W'⟩ := W.sent ne_a1 (OF_take (R := R) h2)
    have hA := W.all; have hnl := W.nl; have hpat := W.pat
    refine S_gArr h hg hf ff (by rw [hA, rqT_len]; omega) (by omega) (by rw [hpat]; omega) fun v sv sg sf w hv hg hf h => ?_
    rw [e] at hg hf
    refine hk v sv sg sf _ G' w hf hg ⟨?_, ?_⟩ h
    · rw [show min (i + 1) c = i + 1 by omega]
    · rw [show min (i + 1) c = i + 1 by omega]
      obtain ⟨a1, a2, a3, a4, a5⟩ := W'
      refine ⟨?_, by rw [a2]; simp [lnT, tab], a3, a4, a5⟩
      rw [a1]
      refine rqT_congr fun j hj => ?_
      by_cases e : j = i
      · subst e; rw [if_pos rfl]; unfold gS; rw [if_pos (by omega)]
      · rw [if_neg e]; unfold gS; rw [if_pos (by omega), if_pos (by omega)]
  · have hm : min i c = c := by omega
    rw [hm] at W hf ff
    refine S_gWaitM (s := c) (m := i) (B := i) (g := gS c) (room := 8) (pat := 50) h hg hf ff W (by omega) ne_a1 (fun hh => by have := hh.2; rw [OF_full (by omega)] at this; cases this) (by omega) (by omega) (by omega) (by decide) fun v sv sg G' w hv hg W' ⟨sf, hf, h⟩ => ?_
    refine hk v sv sg sf _ G' w hf hg ⟨?_, ?_⟩ h
    · rw [show min (i + 1) c = c by omega]
    · rw [show min (i + 1) c = c by omega]
      obtain ⟨a1, a2, a3, a4, a5⟩ := W'
      refine ⟨?_, a2, a3, a4, a5⟩
      rw [a1]
      refine rqT_congr fun j hj => ?_
      split
      · rename_i e; subst e; unfold gS; rw [if_neg (by omega)]
      · rfl
/-- the pod is made, and up -/
theorem OF_scale {R : Int} {c : Nat} (h : 1 ≤ R) : fScale ⟨R, 0, []⟩ s_a_1 c 1 = (TF R s_a_1 1 c (fun _ => false) (fun _ => []), []) := (tf_scale (R := R) (rv := s_a_1) c (n := 1) (by omega)).1
theorem OF_up {R : Int} {c : Nat} : fUpp (TF R s_a_1 1 c (fun _ => false) (fun _ => [])) 1 = (OF R c 0, 0) := by
  have e := tf_up (R := R) (rv := s_a_1) (n := 1) (c := c) (ready := fun _ => false) (rs := fun _ => []) (k := 0) (by omega) rfl
  have e2 : (((0 : Nat) : Int) + 1) = 1 := rfl
  rw [e2] at e
  rw [e]
  congr 1
theorem OneI.init {R : Int} {c : Nat} : OneI R c 0 (OF R c 0) ⟨[], [], 8, 50⟩ := ⟨by simp, ⟨rfl, by simp [lineOf, mget, lnT, tab], by simp, rfl, rfl⟩⟩
theorem OF_kill {R : Int} {c s : Nat} : fKill (OF R c s) 1 = (⟨R, 1, []⟩, rqL s, 0) := by rfl
/-! ### GateLost -/
theorem lostA_skip : ∀ {l : List Int} {all : Alls} {out : List Fate}, (∀ id ∈ l, (reqOf all id).2 ≠ 1) → lostA l all out = (all, out)
  | [], _, _, _ => rfl
  | id :: l, all, out, h => by
    rw [lostA, if_neg (h id (List.mem_cons_self ..))]
    exact lostA_skip fun x hx => h x (List.mem_cons_of_mem _ hx)
def gL (t s : Nat) (i : Nat) : ByteArray × Int := if i < t then (s_a_1, 4) else gS s i
theorem lostA_all {m s : Nat} (h : s ≤ m) {out : List Fate} : ∀ {t : Nat}, t ≤ s → lostA (rqL t) (rqT m (gS s)) out = (rqT m (gL t s), out ++ tab t fun i => (((i : Int) + 1, 4, 0, s_pod_lost, ()) : Fate))
  | 0, _ => by
    simp only [rqL, tab, List.range_zero, List.map_nil, lostA, List.append_nil]
    congr 1
  | t + 1, ht => by
    rw [rqL_succ, lostA_app, lostA_all h (by omega)]
    have hr : reqOf (rqT m (gL t s)) ((t : Int) + 1) = (s_a_1, 1) := by
      unfold reqOf; rw [rqT_get, if_pos (by omega)]
      show gL t s t = _
      unfold gL gS; rw [if_neg (by omega), if_pos (by omega)]
    rw [lostA, hr, if_pos rfl]
    simp only [lostA]
    rw [rqT_set (by omega), tab_succ, List.append_assoc]
    congr 1
    refine rqT_congr fun j hj => ?_
    unfold gL
    by_cases e : j = t
    · subst e; rw [if_pos rfl, if_pos (by omega)]
    · rw [if_neg e]
      by_cases e2 : j < t
      · rw [if_pos e2, if_pos (by omega)]
      · rw [if_neg e2, if_neg (by omega)]
theorem W_GateLost (p0 : Int) (p1 : Sl) {xs : List Int} (o1 : Old w0 eI p1 xs) : Calls Pr n_damperlaw14_GateLost #[I p0, SlV p1] w0 fun e w' => e = .returned (.bool true) ∧ St w0 [] w' := by
  refine law_of (args := [I p0, SlV p1]) (C_damperlaw14_GateLost p0 p1) ?_
  unfold F_damperlaw14_GateLost
  have h := St.init w0
  refine S_known14 h fun w h => itF rfl ?_
  refine S_fNew h fun bf sf w hf h => itF rfl ?_
  refine S_gNew h (by decide) (by decide) fun b sg w hg h => itF rfl ?_
  have hm0 := Int.emod_nonneg p0 (by decide : (9 : Int) ≠ 0)
  have hm1 := Int.emod_lt_of_pos p0 (by decide : (0 : Int) < 9)
  refine S_fScale h 1 rfl hf (by decide) (by decide) fun v1 v2 sf s1 s2 w hf hr1 hr2 h => ?_
  have es := OF_scale (R := 2) (c := 4) (by decide)
  have hf : FlS bf (TF 2 s_a_1 1 (4 : Nat) (fun _ => false) (fun _ => [])) sf := by rw [show (4 : Int) = ((4 : Nat) : Int) from rfl, es] at hf; exact hf
  have h : St w0 (s2 :: s1 :: sg :: sf :: []) w := h
  have h := dl0_ (dl0_ h)
  refine S_fUpp h 1 rfl hf fun sf w hf h => ?_
  rw [OF_up] at hf
  refine S_within14 (by decide) (by decide) ?_
  obtain ⟨M, hM⟩ : ∃ M : Nat, p0 % 9 = M := ⟨(p0 % 9).toNat, by omega⟩
  rw [hM]
  refine loop_of (fun q y w => ∃ (i : Nat) (F : AFleet) (G : AGate) (sg sf : Seg), y = ((i : Int) + 1, ()) ∧ q + i = M ∧ OneI 2 4 i F G ∧ GtS b bf G sg ∧ FlS bf F sf ∧ St w0 (sg :: sf :: []) w) M ⟨0, _, _, sg, sf, rfl, rfl, OneI.init, hg, hf, h⟩ ?_
  clear hf hg hr1 hr2
  clear h; (try clear w)
  rintro q y w ⟨i, F, G, sg, sf, rfl, hq, I, hg, hf, h⟩ again hag
  dsimp only
  refine it (fun hb => ?_) (fun hb => ?_) <;> (try simp only [decide_eq_true_eq, decide_eq_false_iff_not, beq_iff_eq, bne_iff_ne, beq_eq_false_iff_ne, bne_eq_false_iff_eq, Bool.not_eq_true', Bool.not_eq_false', ne_eq, Bool.not_eq_true, Bool.not_eq_false] at hb)
  · refine S_gOne h hg hf I (by decide) (by decide) (by decide) (by omega) fun v sv sg sf F' G' w hf hg I' h => ?_
    rw [wr (by omega) (by omega)]
    exact hag (q - 1) _ w (by omega) ⟨i + 1, F', G', sg, sf, by simp, by omega, I', hg, hf, dl0_ h⟩
  · have e : i = M := by omega
    subst e
    obtain ⟨rfl, W⟩ := I
    refine S_fKill h 1 rfl hf fun vl sf sl w hf hl h => ?_
    rw [OF_kill] at hf hl
    dsimp only at hf hl
    have h : St w0 (sl :: sg :: sf :: []) w := h
    generalize hs : min i 4 = s at *
    have hsi : s ≤ i := by omega
    have hll := Rw.len encI hl
    rw [rqL_len] at hll
    -- numbers that never were
    refine join_of (fun z w => ∃ (v : Sl) (l : List Int) (sv : Seg), z = (v, ()) ∧ Rw eI T_int 1 v l sv ∧ l.length ≤ 10 ∧ (∀ x ∈ l, 50 ≤ x) ∧ St w0 (sv :: sl :: sg :: sf :: []) w) (fun k11 hk11 => ?_) (fun z w ⟨v, l, sv, hz, hv, hvl, hvx, h⟩ => ?_)
    · refine loop_of (fun q y w => ∃ (j : Nat) (v : Sl) (l : List Int) (sv : Seg), y = (v, (j : Int), ()) ∧ q + j = 10 ∧ l.length = j ∧ Rw eI T_int 1 v l sv ∧ (∀ x ∈ l, 50 ≤ x) ∧ St w0 (sv :: sl :: sg :: sf :: []) w) 10 ⟨0, _, [], [], rfl, rfl, rfl, Rw.nil, by simp, h.nil⟩ ?_
      clear h; (try clear w)
      rintro q y w ⟨j, v, l, sv, rfl, hq, hlj, hv, hvx, h⟩ again hag
      dsimp only
      have out : ∀ {w}, St w0 (sv :: sl :: sg :: sf :: []) w → k11 (⟨v.a, v.len, v.cap⟩, ()) w := fun h => hk11 _ _ ⟨v, l, sv, rfl, hv, by omega, hvx, h⟩
      refine it (fun hb => ?_) (fun _ => out h)
      refine it (fun hb2 => ?_) (fun _ => out h)
      simp only [decide_eq_true_eq] at hb hb2
      refine oldI o1 h (by omega) hb fun x hx => ?_
      refine S_within14 (by decide) (by decide) ?_
      have hx0 := Int.emod_nonneg x (by decide : (50 : Int) ≠ 0)
      have hx1 := Int.emod_lt_of_pos x (by decide : (0 : Int) < 50)
      rw [wr (n := 50 + x % 50) (by omega) (by omega)]
      refine nw h ?_; clear h; (try clear w); intro b18 w h
      refine Rw.app (l := l) encI elI h 0 rfl hv (50 + x % 50) rfl (by omega) (by omega) fun v' sv' w hv' h => ?_
      rw [wr (by omega) (by omega)]
      refine hag (q - 1) _ w (by omega) ⟨j + 1, v', _, sv', by simp, by omega, by simp [hlj], hv', fun y hy => ?_, h⟩
      rcases List.mem_append.1 hy with hy | hy
      · exact hvx y hy
      · simp at hy; subst hy; omega
    · subst hz
      dsimp only
      refine nw h ?_; clear h; (try clear w); intro b20 w h
      have hr0 : Rw eI T_int 1 ⟨some ⟨b20, 0, none⟩, 0, 0⟩ [] [Cl b20 T_int []] := Rw.lit b20 [] encI (by simp [fl]) rfl (by simp [maxLen])
      refine Rw.appRd (v := ⟨some ⟨b20, 0, none⟩, 0, 0⟩) (l := []) encI elI h 0 rfl hr0 (Rw.rd encI h 1 rfl hv) (by simp only [List.length_nil]; omega) (by simp only [List.length_nil]; omega) fun v1 t1 w hv1 _ _ h => ?_
      have h : St w0 (t1 :: sv :: sl :: sg :: sf :: []) w := h
      have h := dl1_ h
      rw [List.nil_append] at hv1
      refine Rw.appRd (l := l) encI elI h 0 rfl hv1 (Rw.rd encI h 1 rfl hl) (by rw [rqL_len]; omega) (by rw [rqL_len]; omega) fun v2 t2 w hv2 _ _ h => ?_
      have h : St w0 (t2 :: sl :: sg :: sf :: []) w := h
      refine Rw.appRd (l := l ++ rqL s) encI elI h 0 rfl hv2 (Rw.rd encI h 1 rfl hl) (by rw [List.length_append, rqL_len]; omega) (by rw [List.length_append, rqL_len]; omega) fun v3 t3 w hv3 _ _ h => ?_
      have h : St w0 (t3 :: sl :: sg :: sf :: []) w := h
      have hA := W.all
      have key : lostA (l ++ rqL s ++ rqL s) G.all [] = (rqT i (gL s s), tab s fun i => (((i : Int) + 1, 4, 0, s_pod_lost, ()) : Fate)) := by
        have e1 : lostA l (rqT i (gS s)) [] = (rqT i (gS s), []) := lostA_skip fun q hq => by
          have := hvx q hq
          unfold reqOf; rw [rqT_out (.inr (by omega))]; decide
        have e2 := lostA_all hsi (out := []) (Nat.le_refl s)
        rw [List.nil_append] at e2
        rw [hA, lostA_app, lostA_app, e1, e2]
        refine lostA_skip fun q hq => ?_
        have hq := rqL_mem.1 hq
        obtain ⟨j, rfl⟩ : ∃ j : Nat, q = (j : Int) + 1 := ⟨(q - 1).toNat, by omega⟩
        unfold reqOf; rw [rqT_get, if_pos (by omega)]
        show (gL s s j).2 ≠ 1
        unfold gL; rw [if_pos (by omega)]; decide
      have eL : gLost G (l ++ rqL s ++ rqL s) = ({ G with all := rqT i (gL s s) }, tab s fun i => (((i : Int) + 1, 4, 0, s_pod_lost, ()) : Fate)) := by unfold gLost; rw [key]
      have h := fr2_ h
      refine S_gLost h hg hv3 (by rw [List.length_append, List.length_append, rqL_len]; omega) fun vf sx sg w hvf hg h => ?_
      rw [eL] at hvf hg
      have hfl := Rw.len encF hvf
      rw [tab_len] at hfl
      have h : St w0 (sx :: sg :: t3 :: sl :: sf :: []) w := h
      refine itF ?_ ?_
      · simp only [bne_eq_false_iff_eq]
        rw [hfl]
        split <;> omega
      have h := fr2_ (fr3_ h)
      have key2 : gLost { G with all := rqT i (gL s s) } (rqL s) = ({ G with all := rqT i (gL s s) }, []) := by
        unfold gLost
        rw [lostA_skip]
        intro q hq
        have hq := rqL_mem.1 hq
        obtain ⟨j, rfl⟩ : ∃ j : Nat, q = (j : Int) + 1 := ⟨(q - 1).toNat, by omega⟩
        unfold reqOf; rw [rqT_get, if_pos (by omega)]
        show (gL s s j).2 ≠ 1
        unfold gL; rw [if_pos (by omega)]; decide
      refine S_gLost h hg hl (by rw [rqL_len]; omega) fun v5 s5 sg w hv5 hg h => ?_
      rw [key2] at hv5 hg
      have hl5 := Rw.len encF hv5
      refine itF (by rw [hl5]; rfl) ?_
      have h : St w0 (s5 :: sg :: sl :: sx :: t3 :: sf :: []) w := h
      refine loop_of (fun q y w => ∃ t : Nat, y = ((t : Int), ()) ∧ q + t = s ∧ St w0 (s5 :: sg :: sl :: sx :: t3 :: sf :: []) w) s ⟨0, rfl, rfl, h⟩ ?_
      clear h; (try clear w)
      rintro q y w ⟨t, rfl, hq, h⟩ again hag
      dsimp only
      refine it (fun hb => ?_) (fun hb => ?_) <;> (try simp only [decide_eq_true_eq, decide_eq_false_iff_not, beq_iff_eq, bne_iff_ne, beq_eq_false_iff_ne, bne_eq_false_iff_eq, Bool.not_eq_true', Bool.not_eq_false', ne_eq, Bool.not_eq_true, Bool.not_eq_false] at hb)
      · have ht : t < s := by omega
        have hx : (tab s fun i => (((i : Int) + 1, 4, 0, s_pod_lost, ()) : Fate))[((t : Int)).toNat]? = some ((t : Int) + 1, 4, 0, s_pod_lost, ()) := by rw [Int.toNat_natCast, tab_at ht]
        rw [wr (n := (t : Int) + 1) (by omega) (by omega)]
        refine rf (Rw.rd encF h 3 rfl hvf) hx (by omega) rfl rfl (itF (by simp) ?_)
        refine rf (Rw.rd encF h 3 rfl hvf) hx (by omega) rfl rfl (itF rfl ?_)
        refine rf (Rw.rd encF h 3 rfl hvf) hx (by omega) rfl rfl (itF (by rw [str_eq]; rfl) ?_)
        exact hag (q - 1) _ w (by omega) ⟨t + 1, by simp, by omega, h⟩
      · have h := fr1_ h
        have W2 : GW { G with all := rqT i (gL s s) } s_a_1 i i (gL s s) (lnT s (i - s) 50) 8 50 := ⟨rfl, W.ln, W.nl, W.room, W.pat⟩
        refine S_gInside h hg fun u1 u2 z1 z2 sg w hu1 hu2 hg h => ?_
        have l1 := Rw.len encI hu1
        have l2 := Rw.len encI hu2
        rw [W2.waits, List.length_map, lnT_len] at l1
        have hz : (gWith (rqT i (gL s s)) s_a_1).length = 0 := by
          rw [W2.withs, List.length_eq_zero_iff, List.filter_eq_nil_iff]
          intro x hx
          rw [decide_eq_true_eq]
          by_cases e : x < s
          · unfold gL; rw [if_pos e]; decide
          · unfold gL gS; rw [if_neg e, if_neg e]; decide
        rw [hz] at l2
        rw [wr (n := (i : Int) - 4) (by omega) (by omega)]
        refine itT ?_ ⟨by rw [l2]; rfl, h.fin⟩
        rw [l1, beq_iff_eq]
        split <;> omega
end Go.Proofs.Ythmpbgloifdcnaa
