/- Contracts of functions, and walks of laws (text Hj). No conditions beyond those its theorems state. -/
import Derived.Test.YthmpbgloifdcnaaGreatHd
import Derived.Test.YthmpbgloifdcnaaGreatHf
set_option linter.all false
namespace Go.Proofs.YthmpbgloifdcnaaGreat
open Go.Dm
/-! ### GateOnce: what becomes of each -/
def stt (all : Alls) (q : Int) : Int := (reqOf all q).2
def upS (σ : Int → Int) (q v : Int) : Int → Int := fun q' => if q' = q then v else σ q'
theorem stt_mset (all : Alls) (q : Int) (x : ByteArray × Int) : stt (mset all q x) = upS (stt all) q x.2 := by
  funext q'
  unfold stt upS reqOf
  rw [mget_mset]
  by_cases h : q = q'
  · rw [if_pos h, if_pos h.symm]; rfl
  · rw [if_neg h, if_neg fun e => h e.symm]
theorem seen_stt {all : Alls} {q : Int} (h : stt all q ≠ 0) : gSeen all q = true := by
  unfold stt reqOf at h; unfold gSeen
  cases hg : mget all q with
  | none => rw [hg] at h; exact absurd rfl h
  | some v => rfl
theorem stt_no {all : Alls} {q : Int} (h : gSeen all q = false) : stt all q = 0 := by
  unfold gSeen at h; unfold stt reqOf
  cases hg : mget all q with
  | none => rfl
  | some v => rw [hg] at h; cases h
/-- a fate that may be -/
def okP (σ : Int → Int) (q v : Int) (why : ByteArray) : Prop :=
  (1 ≤ q ∧ q ≤ 40) ∧ why ≠ s_twice ∧ ((v = 1 ∧ (σ q = 0 ∨ σ q = 2)) ∨ (v = 2 ∧ σ q = 0) ∨ (v = 3 ∧ σ q = 1) ∨ (v = 4 ∧ (σ q = 0 ∨ σ q = 1 ∨ σ q = 2)))
def okF (σ : Int → Int) (f : Fate) : Prop := okP σ f.1 f.2.1 f.2.2.2.1
inductive Run (b : Bool) : (Int → Int) → List Fate → (Int → Int) → Prop
  | nil (σ) : Run b σ [] σ
  | cons {σ f fs τ} : okF σ f → (b = false → σ f.1 ≠ 0) → Run b (upS σ f.1 f.2.1) fs τ → Run b σ (f :: fs) τ
theorem Run.one {σ : Int → Int} {f : Fate} (h : okF σ f) : Run true σ [f] (upS σ f.1 f.2.1) := .cons h (fun e => by cases e) (.nil _)
theorem Run.weak {b : Bool} {σ τ : Int → Int} {fs : List Fate} (h : Run b σ fs τ) : Run true σ fs τ := by
  induction h with
  | nil => exact .nil _
  | cons h1 _ _ ih => exact .cons h1 (fun e => by cases e) ih
theorem Run.zero {σ τ : Int → Int} {fs : List Fate} (h : Run false σ fs τ) (q : Int) : τ q = 0 ↔ σ q = 0 := by
  induction h with
  | nil => exact Iff.rfl
  | @cons σ f fs τ h1 h2 _ ih =>
    rw [ih]
    unfold upS
    by_cases e : q = f.1
    · rw [if_pos e, e]
      have := h2 rfl
      have : f.2.1 ≠ 0 := by rcases h1.2.2 with ⟨h, -⟩ | ⟨h, -⟩ | ⟨h, -⟩ | ⟨h, -⟩ <;> rw [h] <;> decide
      simp [*]
    · rw [if_neg e]
theorem ne_e : s_ ≠ s_twice := by decide
theorem ne_t : s_timeout ≠ s_twice := by decide
theorem ne_l : s_pod_lost ≠ s_twice := by decide
theorem ne_o : s_overflow ≠ s_twice := by decide
/-- who is held is sent, who waits waits -/
structure OnA (F : AFleet) (all : Alls) (l : List (Int × Int)) : Prop where
  held : ∀ x ∈ F.l, ∀ q ∈ x.pod.reqs, stt all q = 1
  ln : ∀ x ∈ l, stt all x.1 = 2
  nd : (l.map (·.1)).Nodup
  sn : ∀ q, gSeen all q = true → (1 ≤ stt all q ∧ stt all q ≤ 4) ∧ 1 ≤ q ∧ q ≤ 40
theorem sn_mset {all : Alls} (sn : ∀ q, gSeen all q = true → (1 ≤ stt all q ∧ stt all q ≤ 4) ∧ 1 ≤ q ∧ q ≤ 40) {q : Int} (hq : 1 ≤ q ∧ q ≤ 40) {x : ByteArray × Int} (hx : 1 ≤ x.2 ∧ x.2 ≤ 4) :
    ∀ q', gSeen (mset all q x) q' = true → (1 ≤ stt (mset all q x) q' ∧ stt (mset all q x) q' ≤ 4) ∧ 1 ≤ q' ∧ q' ≤ 40 := by
  intro q' h
  rw [stt_mset]
  unfold upS
  by_cases e : q' = q
  · subst e; rw [if_pos rfl]; exact ⟨hx, hq⟩
  · rw [if_neg e]
    rw [gSeen_mset, Bool.or_eq_true, decide_eq_true_eq] at h
    exact sn q' (h.resolve_left fun e' => e e'.symm)
section
variable {F : AFleet} {all : Alls} {l : List (Int × Int)}
theorem OnA.at (O : OnA F all l) {q : Int} (h : stt all q ≠ 0) : 1 ≤ q ∧ q ≤ 40 := (O.sn q (seen_stt h)).2
theorem take_held {rev : ByteArray} {q : Int} {x : AHeld} (hx : x ∈ (fTake F rev q).1.l) {q' : Int} (hq : q' ∈ x.pod.reqs) : q' = q ∨ ∃ y ∈ F.l, q' ∈ y.pod.reqs := by
  unfold fTake at hx
  split at hx
  · exact .inr ⟨x, hx, hq⟩
  · split at hx
    · exact .inr ⟨x, hx, hq⟩
    · have hx : x ∈ fUpd F.l _ fun p => (podTake p q).1 := hx
      rcases fUpd_mem hx with hx | ⟨y, hy, -, rfl⟩
      · exact .inr ⟨x, hx, hq⟩
      · have hq : q' ∈ (podTake y.pod q).1.reqs := hq
        unfold podTake at hq
        split at hq
        · exact .inr ⟨y, hy, hq⟩
        · split at hq
          · exact .inr ⟨y, hy, hq⟩
          · split at hq
            · exact .inr ⟨y, hy, hq⟩
            · rcases insI_mem.1 hq with h | h
              · exact .inl h
              · exact .inr ⟨y, hy, h⟩
theorem take_last (rev : ByteArray) (q : Int) : (fTake F rev q).1.last = F.last ∧ (fTake F rev q).1.room = F.room := by
  unfold fTake; split
  · exact ⟨rfl, rfl⟩
  · split <;> exact ⟨rfl, rfl⟩
/-- one is sent -/
theorem OnA.take {x : Int × Int} (O : OnA F all (x :: l)) : OnA (fTake F s_a_1 x.1).1 (mset all x.1 (s_a_1, 1)) l := by
  have h2 := O.ln x (by simp)
  have hr := O.at (q := x.1) (by rw [h2]; decide)
  have nd := O.nd
  rw [List.map_cons, List.nodup_cons] at nd
  refine ⟨fun y hy q hq => ?_, fun y hy => ?_, nd.2, sn_mset O.sn hr (by decide)⟩
  · rw [stt_mset]; unfold upS
    by_cases e : q = x.1
    · rw [if_pos e]
    · rw [if_neg e]
      obtain ⟨z, hz, hz2⟩ := (take_held hy hq).resolve_left e
      exact O.held z hz q hz2
  · rw [stt_mset]; unfold upS
    rw [if_neg fun e => nd.1 (by rw [← e]; exact List.mem_map_of_mem (f := (·.1)) hy)]
    exact O.ln y (by simp [hy])
theorem flow_on : ∀ {l : List (Int × Int)} {F : AFleet} {all : Alls} {out : List Fate}, F.Ok → OnA F all l →
    ∃ outs, (flowA s_a_1 l F all out).2.2.2 = out ++ outs ∧ Run false (stt all) outs (stt (flowA s_a_1 l F all out).2.1) ∧ OnA (flowA s_a_1 l F all out).1 (flowA s_a_1 l F all out).2.1 (flowA s_a_1 l F all out).2.2.1 ∧
      YthmpbgloifdcnaaGreat.sk (flowA s_a_1 l F all out).1.l = YthmpbgloifdcnaaGreat.sk F.l ∧ (flowA s_a_1 l F all out).1.last = F.last ∧ (flowA s_a_1 l F all out).1.room = F.room ∧ (flowA s_a_1 l F all out).2.1.length = all.length
  | [], F, all, out, ok, O => ⟨[], by simp [flowA], .nil _, O, rfl, rfl, rfl, rfl⟩
  | x :: l, F, all, out, ok, O => by
    unfold flowA
    by_cases h : (fTake F s_a_1 x.1).2.2 = true
    · rw [if_pos h]
      obtain ⟨outs, h1, h2, h3, h4, h5, h6, h7⟩ := flow_on (l := l) (F := (fTake F s_a_1 x.1).1) (all := mset all x.1 (s_a_1, 1)) (out := out ++ [(x.1, 1, (fTake F s_a_1 x.1).2.1, s_, ())]) (fTake_ok ok s_a_1 x.1) O.take
      have hx2 := O.ln x (by simp)
      have hr := O.at (q := x.1) (by rw [hx2]; decide)
      refine ⟨(x.1, 1, (fTake F s_a_1 x.1).2.1, s_, ()) :: outs, by rw [h1]; simp, .cons ⟨hr, ne_e, .inl ⟨rfl, .inr hx2⟩⟩ (fun _ => by rw [hx2]; decide) ?_, h3, h4.trans (sk_take ok s_a_1 x.1), h5.trans (take_last ..).1, h6.trans (take_last ..).2, ?_⟩
      · rw [stt_mset] at h2; exact h2
      · rw [h7]
        have hs := seen_stt (all := all) (q := x.1) (by rw [hx2]; decide)
        obtain ⟨v, hv⟩ := Option.isSome_iff_exists.1 hs
        exact mset_len hv
    · rw [if_neg h]
      exact ⟨[], by simp, .nil _, O, rfl, rfl, rfl, rfl⟩
/-- those who wait too long -/
theorem late_run {m : List Int} : ∀ {all : Alls}, m.Nodup → (∀ q ∈ m, stt all q = 2 ∧ 1 ≤ q ∧ q ≤ 40) → Run false (stt all) (lateF m) (stt (lateS s_a_1 m all)) ∧ (∀ q, stt (lateS s_a_1 m all) q = if q ∈ m then 4 else stt all q) := by
  induction m with
  | nil => intro all _ _; exact ⟨.nil _, fun q => by simp [lateS]⟩
  | cons x m ih =>
    intro all nd h
    rw [List.nodup_cons] at nd
    have hx := h x (by simp)
    obtain ⟨h1, h2⟩ := ih (all := mset all x (s_a_1, 4)) nd.2 fun q hq => by
      rw [stt_mset]; unfold upS
      rw [if_neg fun e => nd.1 (by rw [← e]; exact hq)]
      exact h q (by simp [hq])
    refine ⟨.cons ⟨hx.2, ne_t, .inr (.inr (.inr ⟨rfl, .inr (.inr hx.1)⟩))⟩ (fun _ => by have := hx.1; show stt all x ≠ 0; omega) ?_, fun q => ?_⟩
    · rw [stt_mset] at h1; exact h1
    · show stt (lateS s_a_1 m (mset all x (s_a_1, 4))) q = _
      rw [h2, stt_mset]
      unfold upS
      by_cases e : q = x
      · subst e; simp [nd.1]
      · simp [e]
theorem OnA.late {t : Int} (O : OnA F all l) : Run false (stt all) (lateF (lLate l t)) (stt (lateS s_a_1 (lLate l t) all)) ∧ OnA F (lateS s_a_1 (lLate l t) all) (lRest l t) ∧ (lateS s_a_1 (lLate l t) all).length = all.length := by
  have hm : ∀ q ∈ lLate l t, stt all q = 2 ∧ 1 ≤ q ∧ q ≤ 40 := fun q hq => by
    obtain ⟨x, hx, rfl⟩ := List.mem_map.1 hq
    have h2 := O.ln x (List.mem_filter.1 hx).1
    exact ⟨h2, O.at (by rw [h2]; decide)⟩
  have nd : (lLate l t).Nodup := by
    unfold lLate
    exact (List.Sublist.map _ List.filter_sublist).nodup O.nd
  obtain ⟨h1, h2⟩ := late_run nd hm
  have hk : (lateS s_a_1 (lLate l t) all).map (·.1) = all.map (·.1) := lateS_keys fun q hq => seen_stt (by rw [(hm q hq).1]; decide)
  refine ⟨h1, ⟨fun x hx q hq => ?_, fun x hx => ?_, (List.Sublist.map _ List.filter_sublist).nodup O.nd, fun q hq => ?_⟩, by have := congrArg List.length hk; simpa using this⟩
  · have h3 := O.held x hx q hq
    rw [h2, if_neg fun hq2 => by have := (hm q hq2).1; omega, h3]
  · obtain ⟨hx1, hx2⟩ := List.mem_filter.1 hx
    rw [h2, if_neg ?_, O.ln x hx1]
    intro hq
    obtain ⟨y, hy, e⟩ := List.mem_map.1 hq
    obtain ⟨hy1, hy2⟩ := List.mem_filter.1 hy
    have : x = y := by
      have nd := O.nd
      obtain ⟨i, hi, rfl⟩ := List.getElem_of_mem hx1
      obtain ⟨j, hj, rfl⟩ := List.getElem_of_mem hy1
      have := (List.getElem_inj (i := j) (j := i) (h₀ := by simpa using hj) (h₁ := by simpa using hi) nd).1 (by simpa using e)
      subst this; rfl
    subst this
    simp only [decide_eq_true_eq] at hy2
    simp [hy2] at hx2
  · have hs : gSeen all q = true := by unfold gSeen at *; rw [← seen_keys hk]; exact hq
    have := O.sn q hs
    rw [h2]
    split
    · exact ⟨by decide, this.2⟩
    · exact this
/-- those whose pod is gone -/
theorem lost_on : ∀ {ids : List Int} {all : Alls} {out : List Fate}, (∀ q, gSeen all q = true → (1 ≤ stt all q ∧ stt all q ≤ 4) ∧ 1 ≤ q ∧ q ≤ 40) →
    ∃ outs, (lostA ids all out).2 = out ++ outs ∧ Run false (stt all) outs (stt (lostA ids all out).1) ∧ (∀ q, stt (lostA ids all out).1 q = if q ∈ ids ∧ stt all q = 1 then 4 else stt all q) ∧
      (∀ q, gSeen (lostA ids all out).1 q = true → (1 ≤ stt (lostA ids all out).1 q ∧ stt (lostA ids all out).1 q ≤ 4) ∧ 1 ≤ q ∧ q ≤ 40)
  | [], all, out, sn => ⟨[], by simp [lostA], .nil _, fun q => by simp [lostA], sn⟩
  | id :: ids, all, out, sn => by
    unfold lostA
    by_cases h : (reqOf all id).2 = 1
    · rw [if_pos h]
      have h : stt all id = 1 := h
      have hr := (sn id (seen_stt (by rw [h]; decide))).2
      obtain ⟨outs, h1, h2, h3, h4⟩ := lost_on (ids := ids) (all := mset all id ((reqOf all id).1, 4)) (out := out ++ [(id, 4, 0, s_pod_lost, ())]) (sn_mset sn hr ⟨(by decide : (1 : Int) ≤ 4), (by decide : (4 : Int) ≤ 4)⟩)
      refine ⟨(id, 4, 0, s_pod_lost, ()) :: outs, by rw [h1]; simp, .cons ⟨hr, ne_l, .inr (.inr (.inr ⟨rfl, .inr (.inl h)⟩))⟩ (fun _ => by show stt all id ≠ 0; omega) (by rw [stt_mset] at h2; exact h2), fun q => ?_, h4⟩
      rw [h3, stt_mset]
      unfold upS
      by_cases e : q = id
      · subst e; simp [h]
      · simp [e]
    · rw [if_neg h]
      have h : ¬ stt all id = 1 := h
      obtain ⟨outs, h1, h2, h3, h4⟩ := lost_on (ids := ids) (all := all) (out := out) sn
      refine ⟨outs, h1, h2, fun q => ?_, h4⟩
      rw [h3]
      by_cases e : q = id
      · subst e; simp [h]
      · simp [e]
end
/-- behind some events -/
structure OnI (i : Nat) (R : Int) (F : AFleet) (G : AGate) : Prop where
  on : OnA F G.all (lineOf G.lines s_a_1)
  rv : ∀ x ∈ F.l, x.rev = s_a_1
  few : FFew F
  fl : 0 ≤ F.last ∧ F.last ≤ 6 * i
  fr : F.room = R
  lns : G.lines = [] ∨ ∃ l, G.lines = [(s_a_1, l)]
  na : G.all.length ≤ i
  room : 0 ≤ G.room ∧ G.room ≤ 4
  pt : G.pat = 4
section
variable {i : Nat} {R : Int} {F : AFleet} {G : AGate}
theorem OnI.mono (O : OnI i R F G) : OnI (i + 1) R F G := ⟨O.on, O.rv, O.few, by have := O.fl; omega, O.fr, O.lns, by have := O.na; omega, O.room, O.pt⟩
theorem OnI.nl (O : OnI i R F G) : G.lines.length ≤ 1 := by rcases O.lns with e | ⟨l, e⟩ <;> rw [e] <;> simp
theorem OnI.set (O : OnI i R F G) (l : List (Int × Int)) : mset G.lines s_a_1 l = [(s_a_1, l)] := by
  rcases O.lns with e | ⟨l', e⟩ <;> rw [e] <;> simp [mset]
theorem OnI.gwk (O : OnI i R F G) : GWk G := by
  intro x hx y hy
  have hln := O.on.ln
  rcases O.lns with e | ⟨l, e⟩
  · rw [e] at hx; cases hx
  · rw [e] at hx hln
    simp only [List.mem_cons, List.not_mem_nil, or_false] at hx
    subst hx
    have := hln y (by simp [lineOf, mget]; exact hy)
    exact seen_stt (by rw [this]; decide)
theorem rv_sk {l m : List AHeld} (h : YthmpbgloifdcnaaGreat.sk l = YthmpbgloifdcnaaGreat.sk m) (hr : ∀ x ∈ m, x.rev = s_a_1) : ∀ x ∈ l, x.rev = s_a_1 := fun x hx => by
  have : (x.id, x.rev) ∈ YthmpbgloifdcnaaGreat.sk m := by rw [← h]; exact List.mem_map_of_mem (f := fun x : AHeld => (x.id, x.rev)) hx
  obtain ⟨y, hy, e⟩ := List.mem_map.1 this
  rw [← (Prod.mk.inj e).2]; exact hr y hy
theorem OnI.flow (O : OnI i R F G) (ok : F.Ok) : Run false (stt G.all) (gFlow F G s_a_1).2.2 (stt (gFlow F G s_a_1).2.1.all) ∧ OnI i R (gFlow F G s_a_1).1 (gFlow F G s_a_1).2.1 := by
  obtain ⟨outs, h1, h2, h3, h4, h5, h6, h7⟩ := flow_on (out := []) ok O.on
  unfold gFlow
  simp only
  refine ⟨by rw [h1]; simpa using h2, ⟨?_, rv_sk h4 O.rv, flowA_few O.few, by rw [h5]; exact O.fl, by rw [h6]; exact O.fr, .inr ⟨_, O.set _⟩, by rw [h7]; exact O.na, O.room, O.pt⟩⟩
  simp only
  rw [lineOf_mset, if_pos rfl]; exact h3
theorem OnI.tick (O : OnI i R F G) {t : Int} : Run false (stt G.all) (gTick G t).2 (stt (gTick G t).1.all) ∧ OnI (i + 1) R F (gTick G t).1 ∧ (gTick G t).2.length ≤ (lineOf G.lines s_a_1).length := by
  rcases O.lns with e | ⟨l, e⟩
  · have eg : gTick G t = (G, []) := by unfold gTick; rw [e, List.map_nil, ssort_nil]; rfl
    rw [eg]
    exact ⟨.nil _, O.mono, Nat.zero_le _⟩
  · have eg : gTick G t = (tick1 t s_a_1 G, lateF (lLate (lineOf G.lines s_a_1) t)) := by
      unfold gTick
      have : G.lines.map (·.1) = [s_a_1] := by rw [e]; rfl
      rw [this, ssort_one]; rfl
    rw [eg]
    obtain ⟨h1, h2, h3⟩ := O.on.late (t := t)
    refine ⟨h1, OnI.mono ⟨?_, O.rv, O.few, O.fl, O.fr, .inr ⟨_, O.set _⟩, ?_, O.room, O.pt⟩, ?_⟩
    · unfold tick1; simp only; rw [lineOf_mset, if_pos rfl]; exact h2
    · unfold tick1; simp only; rw [h3]; exact O.na
    · rw [lateF_len]; exact lLate_len ..
/-- what is held, of another fleet -/
theorem OnI.fleet {F' : AFleet} {j : Nat} (O : OnI i R F G) (hij : i ≤ j) (hh : ∀ x ∈ F'.l, ∀ q ∈ x.pod.reqs, ∃ y ∈ F.l, q ∈ y.pod.reqs) (hr : ∀ x ∈ F'.l, x.rev = s_a_1) (hf : FFew F') (hl : 0 ≤ F'.last ∧ F'.last ≤ 6 * j) (hR : F'.room = R) : OnI j R F' G :=
  ⟨⟨fun x hx q hq => let ⟨y, hy, hq⟩ := hh x hx q hq; O.on.held y hy q hq, O.on.ln, O.on.nd, O.on.sn⟩, hr, hf, hl, hR, O.lns, by have := O.na; omega, O.room, O.pt⟩
theorem upd_held {l : List AHeld} {id : Int} {g : APod → APod} (hg : ∀ p, ∀ q ∈ (g p).reqs, q ∈ p.reqs) : ∀ x ∈ fUpd l id g, ∀ q ∈ x.pod.reqs, ∃ y ∈ l, q ∈ y.pod.reqs := fun x hx q hq => by
  rcases fUpd_mem hx with hx | ⟨y, hy, -, rfl⟩
  · exact ⟨x, hx, hq⟩
  · exact ⟨y, hy, hg _ q hq⟩
theorem OnI.up (O : OnI i R F G) (id : Int) : OnI i R (fUpp F id).1 G := by
  have hk := O.few.up id
  unfold fUpp; split
  · exact O
  · exact O.fleet (F' := { F with l := fUpd F.l id fun p => (podUp p).1 }) (Nat.le_refl _) (upd_held (g := fun p => (podUp p).1) fun p q hq => by simp only [podUp] at hq; split at hq <;> exact hq) (fUpd_rv (F := F) (id := id) (g := fun p => (podUp p).1) O.rv) hk O.fl O.fr
theorem shrink_held (rev : ByteArray) : ∀ {n : Nat} {F : AFleet}, ∀ x ∈ (shrink rev n F).1.l, ∀ q ∈ x.pod.reqs, ∃ y ∈ F.l, q ∈ y.pod.reqs
  | 0, _ => fun x hx q hq => ⟨x, hx, hq⟩
  | n + 1, F => fun x hx q hq => by
    obtain ⟨y, hy, hq⟩ := shrink_held rev (n := n) (F := drain1 rev F) x hx q hq
    exact upd_held (l := F.l) (id := fSpare F.l rev) (g := fun p => (podDrain p).1) (fun p q hq => by simp only [podDrain] at hq; split at hq <;> exact hq) y hy q hq
theorem grow_held {c : Int} {rev : ByteArray} : ∀ (n : Nat) {F : AFleet}, ∀ x ∈ (grow rev c n F).l, ∀ q ∈ x.pod.reqs, ∃ y ∈ F.l, q ∈ y.pod.reqs
  | 0, _ => fun x hx q hq => ⟨x, hx, hq⟩
  | n + 1, F => fun x hx q hq => by
    rcases List.mem_append.1 hx with hx | hx
    · exact grow_held n x hx q hq
    · simp at hx; subst hx; cases hq
theorem OnI.scale (O : OnI i R F G) (hR : R ≤ 6) {want : Int} : OnI (i + 1) R (fScale F s_a_1 2 want).1 G := by
  have hs := shrink_last' s_a_1 (n := shrinkN (fGrown F s_a_1 2 want) s_a_1 want) (F := fGrown F s_a_1 2 want)
  have hg : (fGrown F s_a_1 2 want).last = F.last + growN F s_a_1 want ∧ (fGrown F s_a_1 2 want).room = F.room := ⟨grow_last _, grow_room _⟩
  have hn : (growN F s_a_1 want : Int) ≤ 6 := by
    have := growN_eq F s_a_1 want
    have := O.fr
    omega
  have hfl := O.fl
  refine O.fleet (Nat.le_succ _) (fun x hx q hq => ?_) (hs.2.2 (grow_rv _ O.rv)) (O.few.scale s_a_1 (by decide) want) ?_ ?_
  · obtain ⟨y, hy, hq⟩ := shrink_held s_a_1 x hx q hq
    exact grow_held _ y hy q hq
  · unfold fScale; rw [hs.1, hg.1]; omega
  · unfold fScale; rw [hs.2.1, hg.2]; exact O.fr
end
end Go.Proofs.YthmpbgloifdcnaaGreat
namespace Go.Proofs.YthmpbgloifdcnaaGreat
open Go.Dm
section
variable {i : Nat} {R : Int} {F : AFleet} {G : AGate}
theorem OnI.lost (O : OnI i R F G) (ok : F.Ok) (id : Int) : Run false (stt G.all) (gLost G (fKill F id).2.1).2 (stt (gLost G (fKill F id).2.1).1.all) ∧ OnI (i + 1) R (fKill F id).1 (gLost G (fKill F id).2.1).1 := by
  obtain ⟨outs, h1, h2, h3, h4⟩ := lost_on (ids := (fKill F id).2.1) (out := []) O.on.sn
  have hf := O.few.kill id
  have hlen := (lostA_seen (l := (fKill F id).2.1) (all := G.all) (out := []) 0).2
  have hfl := O.fl
  have hheld : ∀ x ∈ (fKill F id).1.l, ∀ q ∈ x.pod.reqs, (∃ y ∈ F.l, q ∈ y.pod.reqs) ∧ q ∉ (fKill F id).2.1 := by
    intro x hx q hq
    unfold fKill at hx ⊢
    split at hx
    · rename_i hn; simp only [hn]; exact ⟨⟨x, hx, hq⟩, by simp⟩
    · rename_i z hz
      simp only [hz]
      have hzm : z ∈ F.l ∧ z.id = id := ⟨List.mem_of_find?_eq_some hz, by simpa using List.find?_some hz⟩
      have hx : x ∈ fUpd F.l id fun p => (podKill p).1 := hx
      obtain ⟨y, hy, ⟨hne, rfl⟩ | ⟨-, -, h4⟩⟩ := mem_upd hx
      · refine ⟨⟨x, hy, hq⟩, fun hq2 => ?_⟩
        have e1 := fWhere_of ok.once hy hq
        have e2 := fWhere_of ok.once hzm.1 hq2
        rw [e1] at e2
        exact hne (by rw [Option.some.inj e2]; exact hzm.2)
      · exact absurd (by have := ok.live y hy; simp only [podKill]; rw [if_neg (by omega)]) h4
  have hrv : ∀ x ∈ (fKill F id).1.l, x.rev = s_a_1 := by
    intro x hx
    unfold fKill at hx
    split at hx
    · exact O.rv x hx
    · exact fUpd_rv (F := F) (id := id) (g := fun p => (podKill p).1) O.rv x hx
  have hla : (fKill F id).1.last = F.last ∧ (fKill F id).1.room = F.room := by unfold fKill; split <;> exact ⟨rfl, rfl⟩
  unfold gLost
  simp only
  refine ⟨by rw [h1]; simpa using h2, ⟨⟨fun x hx q hq => ?_, fun x hx => ?_, O.on.nd, h4⟩, hrv, hf, by rw [hla.1]; omega, by rw [hla.2]; exact O.fr, O.lns, ?_, O.room, O.pt⟩⟩
  · obtain ⟨⟨y, hy, hq2⟩, hno⟩ := hheld x hx q hq
    rw [h3, if_neg fun h => hno h.1]
    exact O.on.held y hy q hq2
  · have := O.on.ln x hx
    rw [h3, if_neg fun h => by have := h.2; omega]
    exact this
  · simp only; rw [hlen]; have := O.na; omega
theorem OnI.done (O : OnI i R F G) (ok : F.Ok) (nd : ∀ x ∈ F.l, x.pod.reqs.Nodup) (q : Int) : Run false (stt G.all) (gDone F G q).2.2.1 (stt (gDone F G q).2.1.all) ∧ OnI (i + 1) R (gDone F G q).1 (gDone F G q).2.1 := by
  have hres := give_res F q
  unfold gDone
  cases hw : fWhere F.l q with
  | none =>
    rw [hw] at hres
    have hres : (fGive F q).2.2 = 6 := hres
    rw [if_pos (by rw [hres]; decide)]
    have e : (fGive F q).1 = F := by unfold fGive; rw [hw]
    rw [e]
    exact ⟨.nil _, O.mono⟩
  | some x =>
    rw [hw] at hres
    have hres : (fGive F q).2.2 = 0 := hres
    rw [if_neg (by rw [hres]; decide)]
    obtain ⟨hx, hq⟩ := fWhere_some hw
    have e : (fGive F q).2.1 = s_a_1 := by unfold fGive; rw [hw]; exact O.rv x hx
    rw [e]
    have h1 := O.on.held x hx q hq
    have hr := O.on.at (q := q) (by rw [h1]; decide)
    have hla : (fGive F q).1.last = F.last ∧ (fGive F q).1.room = F.room := by unfold fGive; split <;> exact ⟨rfl, rfl⟩
    have hs := seen_stt (all := G.all) (q := q) (by rw [h1]; decide)
    obtain ⟨v, hv⟩ := Option.isSome_iff_exists.1 hs
    have hrv : ∀ x ∈ (fGive F q).1.l, x.rev = s_a_1 := by
      intro x hx
      unfold fGive at hx
      split at hx
      · exact O.rv x hx
      · rename_i y _; exact fUpd_rv (F := F) (id := y.id) (g := fun p => (podGive p q).1) O.rv x hx
    have O2 : OnI i R (fGive F q).1 { G with all := mset G.all q (s_a_1, 3) } := by
      refine ⟨⟨fun y hy q2 hq2 => ?_, fun y hy => ?_, O.on.nd, sn_mset O.on.sn hr ⟨(by decide : (1 : Int) ≤ 3), (by decide : (3 : Int) ≤ 4)⟩⟩, hrv, O.few.give q, by rw [hla.1]; exact O.fl, by rw [hla.2]; exact O.fr, O.lns, by simp only; rw [mset_len hv]; exact O.na, O.room, O.pt⟩
      · have e1 := fWhere_of (give_ok ok q).once hy hq2
        have e2 := give_where ok nd q q2
        rw [e1] at e2
        simp only [stt_mset]; unfold upS
        by_cases eq : q2 = q
        · rw [if_pos eq] at e2; cases e2
        · rw [if_neg eq] at e2 ⊢
          cases hw2 : fWhere F.l q2 with
          | none => rw [hw2] at e2; cases e2
          | some z =>
            obtain ⟨hz, hzq⟩ := fWhere_some hw2
            exact O.on.held z hz q2 hzq
      · have h2 := O.on.ln y hy
        simp only [stt_mset]; unfold upS
        rw [if_neg fun e => by rw [e] at h2; omega]
        exact h2
    obtain ⟨h3, h4⟩ := O2.flow (give_ok ok q)
    refine ⟨.cons ⟨hr, ne_e, .inr (.inr (.inl ⟨rfl, h1⟩))⟩ (fun _ => by show stt G.all q ≠ 0; omega) ?_, h4.mono⟩
    rw [stt_mset] at h3
    exact h3
/-- one comes -/
theorem OnI.arr (O : OnI i R F G) {id now : Int} (hr : 1 ≤ id ∧ id ≤ 40) :
    (gSeen G.all id = true ∧ gArr F G id s_a_1 now = (F, G, (id, 4, 0, s_twice, ()))) ∨
    (gSeen G.all id = false ∧ Run true (stt G.all) [(gArr F G id s_a_1 now).2.2] (stt (gArr F G id s_a_1 now).2.1.all) ∧ OnI (i + 1) R (gArr F G id s_a_1 now).1 (gArr F G id s_a_1 now).2.1 ∧ (gArr F G id s_a_1 now).2.2.1 = id) := by
  cases hs : gSeen G.all id with
  | true => exact .inl ⟨rfl, by unfold gArr; rw [if_pos hs]⟩
  | false =>
    refine .inr ⟨rfl, ?_⟩
    have h0 := stt_no hs
    have hne : ∀ y ∈ lineOf G.lines s_a_1, y.1 ≠ id := fun y hy e => by have := O.on.ln y hy; rw [e] at this; omega
    have hh : lHas (lineOf G.lines s_a_1) id = false := lHas_no hne
    have hna : ∀ x, (mset G.all id x).length ≤ i + 1 := fun x => by have := mset_le' G.all id x; have := O.na; omega
    have hl2 : ∀ l, lineOf (mset G.lines s_a_1 l) s_a_1 = l := fun l => by rw [lineOf_mset, if_pos rfl]
    have hfl := O.fl
    have line : ∀ v, ∀ y ∈ lineOf G.lines s_a_1, stt (mset G.all id (s_a_1, v)) y.1 = 2 := fun v y hy => by
      rw [stt_mset]; unfold upS; rw [if_neg (hne y hy)]; exact O.on.ln y hy
    have hold : ∀ v, ∀ y ∈ F.l, ∀ q ∈ y.pod.reqs, stt (mset G.all id (s_a_1, v)) q = 1 := fun v y hy q hq => by
      have := O.on.held y hy q hq
      rw [stt_mset]; unfold upS; rw [if_neg fun e => by rw [e] at this; omega]; exact this
    have one : ∀ (v pod : Int) (why : ByteArray), why ≠ s_twice → (v = 1 ∨ v = 2 ∨ v = 4) → Run true (stt G.all) [((id, v, pod, why, ()) : Fate)] (stt (mset G.all id (s_a_1, v))) := fun v pod why hw hv => by
      rw [stt_mset]
      refine Run.one (f := (id, v, pod, why, ())) ⟨hr, hw, ?_⟩
      rcases hv with rfl | rfl | rfl
      · exact .inl ⟨rfl, .inl h0⟩
      · exact .inr (.inl ⟨rfl, h0⟩)
      · exact .inr (.inr (.inr ⟨rfl, .inl h0⟩))
    by_cases h : (lineOf G.lines s_a_1).length = 0 ∧ (fTake F s_a_1 id).2.2 = true
    · rw [gArr_sent hs ne_a1 h.1 h.2]
      refine ⟨one 1 _ _ ne_e (.inl rfl), ⟨⟨fun y hy q hq => ?_, fun y hy => ?_, ?_, sn_mset O.on.sn hr ⟨(by decide : (1 : Int) ≤ 1), (by decide : (1 : Int) ≤ 4)⟩⟩, fun x hx => ?_, O.few.take _ _, by rw [(take_last ..).1]; omega, by rw [(take_last ..).2]; exact O.fr, .inr ⟨_, O.set _⟩, hna _, O.room, O.pt⟩, rfl⟩
      · rcases take_held hy hq with rfl | ⟨z, hz, hz2⟩
        · simp only [stt_mset]; unfold upS; rw [if_pos rfl]
        · exact hold 1 z hz q hz2
      · simp only [hl2] at hy; exact line 1 y hy
      · simp only [hl2]; exact O.on.nd
      · unfold fTake at hx
        split at hx
        · exact O.rv x hx
        · split at hx
          · exact O.rv x hx
          · rename_i y _; exact fUpd_rv (F := F) (id := y.id) (g := fun p => (podTake p id).1) O.rv x hx
    · by_cases hl : ((lineOf G.lines s_a_1).length : Int) < G.room
      · rw [gArr_wait hs ne_a1 h hh hl]
        refine ⟨one 2 _ _ ne_e (.inr (.inl rfl)), ⟨⟨hold 2, fun y hy => ?_, ?_, sn_mset O.on.sn hr ⟨(by decide : (1 : Int) ≤ 2), (by decide : (2 : Int) ≤ 4)⟩⟩, O.rv, O.few, by dsimp only; omega, O.fr, .inr ⟨_, O.set _⟩, hna _, O.room, O.pt⟩, rfl⟩
        · simp only [hl2] at hy
          rcases List.mem_append.1 hy with hy | hy
          · exact line 2 y hy
          · simp only [List.mem_cons, List.not_mem_nil, or_false] at hy
            subst hy
            simp only [stt_mset]; unfold upS; rw [if_pos rfl]
        · simp only [hl2]
          rw [List.map_append, List.nodup_append]
          refine ⟨O.on.nd, by simp, fun a ha b hb e => ?_⟩
          simp only [List.map_cons, List.map_nil, List.mem_cons, List.not_mem_nil, or_false] at hb
          obtain ⟨y, hy, rfl⟩ := List.mem_map.1 ha
          exact hne y hy (by rw [e, hb])
      · rw [gArr_over hs ne_a1 h hh (by omega)]
        refine ⟨one 4 _ _ ne_o (.inr (.inr rfl)), ⟨⟨hold 4, fun y hy => ?_, ?_, sn_mset O.on.sn hr ⟨(by decide : (1 : Int) ≤ 4), (by decide : (4 : Int) ≤ 4)⟩⟩, O.rv, O.few, by dsimp only; omega, O.fr, .inr ⟨_, O.set _⟩, hna _, O.room, O.pt⟩, rfl⟩
        · simp only [hl2] at hy; exact line 4 y hy
        · simp only [hl2]; exact O.on.nd
/-! ### counting -/
def cntU (all : Alls) (g : Int → Bool) (q : Int) : Nat := (all.filter fun p => decide (p.1 < q) && g p.2.2).length
def hasU (all : Alls) (g : Int → Bool) (q : Int) : Nat := match mget all q with
  | some v => if g v.2 then 1 else 0
  | none => 0
theorem cntU_succ {g : Int → Bool} {q : Int} : ∀ {all : Alls}, (all.map (·.1)).Nodup → cntU all g (q + 1) = cntU all g q + hasU all g q
  | [], _ => rfl
  | (k, v) :: all, nd => by
    rw [List.map_cons, List.nodup_cons] at nd
    have ih := cntU_succ (g := g) (q := q) nd.2
    unfold cntU hasU at *
    simp only [List.filter_cons, mget]
    by_cases e : k = q
    · subst e
      have hn : mget all k = none := mget_none.2 nd.1
      rw [hn] at ih
      have h1 : decide (k < k + 1) = true := decide_eq_true (by omega)
      have h2 : decide (k < k) = false := decide_eq_false (by omega)
      rw [h1, h2, if_pos rfl]
      simp only [Bool.true_and, Bool.false_and]
      cases hg : g v.2 <;> simp [hg] <;> simpa using ih
    · have h1 : decide (k < q + 1) = decide (k < q) := by
        by_cases h : k < q
        · simp [h]; omega
        · simp [h]; omega
      rw [h1, if_neg e]
      cases hc : (decide (k < q) && g v.2) <;> simp only [hc, Bool.false_eq_true, if_false, if_true, ↓reduceIte, List.length_cons] <;> omega
theorem cntU_lo {all : Alls} {g : Int → Bool} (h : ∀ q, gSeen all q = true → 1 ≤ q) (nd : (all.map (·.1)).Nodup) : cntU all g 1 = 0 := by
  unfold cntU
  rw [List.length_eq_zero_iff, List.filter_eq_nil_iff]
  rintro ⟨k, v⟩ hp
  have := h k (by unfold gSeen; rw [mget_of_mem nd hp]; rfl)
  simp; omega
theorem cntU_hi {all : Alls} {g : Int → Bool} (h : ∀ q, gSeen all q = true → q ≤ 40) (nd : (all.map (·.1)).Nodup) : cntU all g 41 = (all.filter fun p => g p.2.2).length := by
  unfold cntU
  congr 1
  apply List.filter_congr
  rintro ⟨k, v⟩ hp
  have := h k (by unfold gSeen; rw [mget_of_mem nd hp]; rfl)
  have e : decide (k < 41) = true := by simp; omega
  simp [e]
theorem cnt_all {all : Alls} (h : ∀ p ∈ all, 1 ≤ p.2.2 ∧ p.2.2 ≤ 4) : all.length = gCnt all 2 + gCnt all 1 + (gCnt all 3 + gCnt all 4) ∧ (all.filter fun p => (p.2.2 == 3 || p.2.2 == 4)).length = gCnt all 3 + gCnt all 4 := by
  unfold gCnt
  induction all with
  | nil => exact ⟨rfl, rfl⟩
  | cons p all ih =>
    obtain ⟨h1, h2⟩ := ih fun x hx => h x (by simp [hx])
    have hp := h p (by simp)
    obtain ⟨k, r, v⟩ := p
    simp only at hp
    have : v = 1 ∨ v = 2 ∨ v = 3 ∨ v = 4 := by omega
    rcases this with rfl | rfl | rfl | rfl <;> simp [List.filter_cons] <;> constructor <;> (try simp at h2) <;> omega
end
end Go.Proofs.YthmpbgloifdcnaaGreat
