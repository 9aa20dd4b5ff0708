/- Contracts of functions, and walks of laws (text Ha). No conditions beyond those its theorems state. -/
import Derived.Test.YthmpbgloifdcnaaGreatGy
set_option linter.all false
namespace Go.Proofs.YthmpbgloifdcnaaGreat
open Go.Dm
attribute [local irreducible] L.load L.store L.chk L.new L.nonnil L.guard L.ite L.draw L.idx L.sem L.semR L.semU L.chkSem L.next L.call L.callV L.join L.alts L.loop L.begin L.endRound L.range
variable {w0 w : World} {E : List Seg}
/-! ### one pod -/
theorem insI_end' {x : Int} : ∀ {l : List Int}, (∀ y ∈ l, y < x) → insI x l = l ++ [x]
  | [], _ => rfl
  | y :: l, h => by
    have hy := h y (List.mem_cons_self ..)
    simp only [insI, if_pos hy, List.cons_append]
    rw [insI_end' fun z hz => h z (List.mem_cons_of_mem _ hz)]
def rqL (s : Nat) : List Int := tab s fun i => (i : Int) + 1
theorem rqL_succ (s : Nat) : rqL (s + 1) = rqL s ++ [(s : Int) + 1] := tab_succ
theorem rqL_len (s : Nat) : (rqL s).length = s := tab_len
theorem rqL_mem {s : Nat} {q : Int} : q ∈ rqL s ↔ 1 ≤ q ∧ q ≤ s := by
  constructor
  · intro h; obtain ⟨i, hi, rfl⟩ := tab_mem.1 h; omega
  · rintro ⟨h1, h2⟩; exact tab_mem.2 ⟨(q - 1).toNat, by omega, by omega⟩
abbrev rdy : Nat → Bool := fun i => decide (i < 1)
def OF (R : Int) (c s : Nat) : AFleet := TF R s_a_1 1 c rdy fun _ => rqL s
theorem OF_tl {c s : Nat} (h : s ≤ c) : TL 1 c s s rdy fun _ => rqL s :=
  ⟨fun i _ => by rw [rqL_len]; exact h, fun i hi hr => by simp at hr; omega, by simp [tot, rqL_len], fun i _ q hq => by have := rqL_mem.1 hq; omega⟩
theorem OF_take {R : Int} {c s : Nat} (h : s < c) : fTake (OF R c s) s_a_1 ((s : Int) + 1) = (OF R c (s + 1), 1, true) := by
  obtain ⟨k, hk, -, -, e, -⟩ := tl_take (R := R) (rv := s_a_1) (OF_tl (c := c) (s := s) (by omega)) (by omega) rfl ⟨0, by omega, rfl, by rw [rqL_len]; exact h⟩
  have : k = 0 := by omega
  subst this
  unfold OF
  rw [e]
  congr 1
  unfold TF
  congr 1
  refine tab_congr fun i hi => ?_
  have : i = 0 := by omega
  subst this
  unfold tG
  congr 2
  simp only [↓reduceIte]
  rw [insI_end' (fun y hy => by have := rqL_mem.1 hy; omega), rqL_succ]
theorem OF_full {R : Int} {c : Nat} {q : Int} (h : (c : Int) < q) : fTake (OF R c c) s_a_1 q = (OF R c c, 0, false) :=
  tl_full (OF_tl (Nat.le_refl c)) h fun i _ _ => rqL_len c
theorem OF_few {R : Int} {c s : Nat} (h : s ≤ c) (hR : R ≤ 20) (h1 : 1 ≤ R) (hc : c ≤ 1000) : FFew (OF R c s) := tf_few (OF_tl h) hR (by omega) hc
/-- behind i who came -/
structure OneI (R : Int) (c i : Nat) (F : AFleet) (G : AGate) : Prop where
  f : F = OF R c (min i c)
  w : GW G s_a_1 i i (gS (min i c)) (lnT (min i c) (i - min i c) 50) 8 50
theorem S_gOne {sg sf : Seg} (h : St w0 (sg :: sf :: E) w) {b bf : Nat} {G : AGate} {F : AFleet} (hg : GtS b bf G sg) (hf : FlS bf F sf) {R : Int} {c i : Nat} (J1 : OneI R c i F G) (hR : R ≤ 20) (h1 : 1 ≤ R) (hc : c ≤ 100) (hi : i < c + 8) {k : Sl → PT}
    (hk : ∀ v sv sg' sf' F' G' w', FlS bf F' sf' → GtS b bf G' sg' → OneI R c (i + 1) F' G' → St w0 (sv :: sg' :: sf' :: E) w' → k v w') :
    L.call Pr n_gate_Gate_Arrive [.pointer (some ⟨b, 0, none⟩), I ((i : Int) + 1), .string s_a_1, I 0] (.one (.one .slice)) k w := by
  obtain ⟨rfl, W⟩ := J1
  have ff : FFew (OF R c (min i c)) := OF_few (by omega) hR h1 (by omega)
  by_cases h2 : i < c
  · have hm : min i c = i := by omega
    rw [hm] at W hf ff
    have W : GW G s_a_1 i i (gS i) [] 8 50 := by simpa [lnT, tab] using W
    obtain ⟨G', e, W'⟩ := W.sent ne_a1 (OF_take (R := R) h2)
    have hA := W.all; have hnl := W.nl; have hpat := W.pat
    refine S_gArr h hg hf ff (by rw [hA, rqT_len]; omega) (by omega) (by rw [hpat]; omega) fun v sv sg sf w hv hg hf h => ?_
    rw [e] at hg hf
    refine hk v sv sg sf _ G' w hf hg ⟨?_, ?_⟩ h
    · rw [show min (i + 1) c = i + 1 by omega]
    · rw [show min (i + 1) c = i + 1 by omega]
      obtain ⟨a1, a2, a3, a4, a5⟩ := W'
      refine ⟨?_, by rw [a2]; simp [lnT, tab], a3, a4, a5⟩
      rw [a1]
      refine rqT_congr fun j hj => ?_
      by_cases e : j = i
      · subst e; rw [if_pos rfl]; unfold gS; rw [if_pos (by omega)]
      · rw [if_neg e]; unfold gS; rw [if_pos (by omega), if_pos (by omega)]
  · have hm : min i c = c := by omega
    rw [hm] at W hf ff
    refine S_gWaitM (s := c) (m := i) (B := i) (g := gS c) (room := 8) (pat := 50) h hg hf ff W (by omega) ne_a1 (fun hh => by have := hh.2; rw [OF_full (by omega)] at this; cases this) (by omega) (by omega) (by omega) (by decide) fun v sv sg G' w hv hg W' ⟨sf, hf, h⟩ => ?_
    refine hk v sv sg sf _ G' w hf hg ⟨?_, ?_⟩ h
    · rw [show min (i + 1) c = c by omega]
    · rw [show min (i + 1) c = c by omega]
      obtain ⟨a1, a2, a3, a4, a5⟩ := W'
      refine ⟨?_, a2, a3, a4, a5⟩
      rw [a1]
      refine rqT_congr fun j hj => ?_
      split
      · rename_i e; subst e; unfold gS; rw [if_neg (by omega)]
      · rfl
/-- the pod is made, and up -/
theorem OF_scale {R : Int} {c : Nat} (h : 1 ≤ R) : fScale ⟨R, 0, []⟩ s_a_1 c 1 = (TF R s_a_1 1 c (fun _ => false) (fun _ => []), []) := (tf_scale (R := R) (rv := s_a_1) c (n := 1) (by omega)).1
theorem OF_up {R : Int} {c : Nat} : fUpp (TF R s_a_1 1 c (fun _ => false) (fun _ => [])) 1 = (OF R c 0, 0) := by
  have e := tf_up (R := R) (rv := s_a_1) (n := 1) (c := c) (ready := fun _ => false) (rs := fun _ => []) (k := 0) (by omega) rfl
  have e2 : (((0 : Nat) : Int) + 1) = 1 := rfl
  rw [e2] at e
  rw [e]
  congr 1
theorem OneI.init {R : Int} {c : Nat} : OneI R c 0 (OF R c 0) ⟨[], [], 8, 50⟩ := ⟨by simp, ⟨rfl, by simp [lineOf, mget, lnT, tab], by simp, rfl, rfl⟩⟩
theorem OF_kill {R : Int} {c s : Nat} : fKill (OF R c s) 1 = (⟨R, 1, []⟩, rqL s, 0) := by rfl
/-! ### GateLost -/
theorem lostA_skip : ∀ {l : List Int} {all : Alls} {out : List Fate}, (∀ id ∈ l, (reqOf all id).2 ≠ 1) → lostA l all out = (all, out)
  | [], _, _, _ => rfl
  | id :: l, all, out, h => by
    rw [lostA, if_neg (h id (List.mem_cons_self ..))]
    exact lostA_skip fun x hx => h x (List.mem_cons_of_mem _ hx)
def gL (t s : Nat) (i : Nat) : ByteArray × Int := if i < t then (s_a_1, 4) else gS s i
theorem lostA_all {m s : Nat} (h : s ≤ m) {out : List Fate} : ∀ {t : Nat}, t ≤ s → lostA (rqL t) (rqT m (gS s)) out = (rqT m (gL t s), out ++ tab t fun i => (((i : Int) + 1, 4, 0, s_pod_lost, ()) : Fate))
  | 0, _ => by
    simp only [rqL, tab, List.range_zero, List.map_nil, lostA, List.append_nil]
    congr 1
  | t + 1, ht => by
    rw [rqL_succ, lostA_app, lostA_all h (by omega)]
    have hr : reqOf (rqT m (gL t s)) ((t : Int) + 1) = (s_a_1, 1) := by
      unfold reqOf; rw [rqT_get, if_pos (by omega)]
      show gL t s t = _
      unfold gL gS; rw [if_neg (by omega), if_pos (by omega)]
    rw [lostA, hr, if_pos rfl]
    simp only [lostA]
    rw [rqT_set (by omega), tab_succ, List.append_assoc]
    congr 1
    refine rqT_congr fun j hj => ?_
    unfold gL
    by_cases e : j = t
    · subst e; rw [if_pos rfl, if_pos (by omega)]
    · rw [if_neg e]
      by_cases e2 : j < t
      · rw [if_pos e2, if_pos (by omega)]
      · rw [if_neg e2, if_neg (by omega)]
end Go.Proofs.YthmpbgloifdcnaaGreat
