/- Contracts of functions, and walks of laws (text Hd). No conditions beyond those its theorems state. -/
import Derived.Test.YthmpbgloifdcnaaGreatHc
set_option linter.all false
namespace Go.Proofs.YthmpbgloifdcnaaGreat
open Go.Dm
attribute [local irreducible] L.load L.store L.chk L.new L.nonnil L.guard L.ite L.draw L.idx L.sem L.semR L.semU L.chkSem L.next L.call L.callV L.join L.alts L.loop L.begin L.endRound L.range
variable {w0 w : World} {E : List Seg}
/-! ### GateOrder -/
/-- fates whose sent ones go on from a to b, each to one of the revision's pods -/
inductive Ord (l : List AHeld) : Int → List Fate → Int → Prop
  | nil (a) : Ord l a [] a
  | skip {a b f fs} : f.2.1 ≠ 1 → Ord l a fs b → Ord l a (f :: fs) b
  | sent {a b f fs} : f.2.1 = 1 → a < f.1 → fOf l f.2.2.1 = s_a_1 → Ord l f.1 fs b → Ord l a (f :: fs) b
theorem Ord.sk {l l' : List AHeld} (h : YthmpbgloifdcnaaGreat.sk l = YthmpbgloifdcnaaGreat.sk l') {a b : Int} {fs : List Fate} (o : Ord l a fs b) : Ord l' a fs b := by
  induction o with
  | nil a => exact .nil a
  | skip h1 _ ih => exact .skip h1 ih
  | sent h1 h2 h3 _ ih => exact .sent h1 h2 (by rw [← fOf_sk h]; exact h3) ih
theorem Ord.app {l : List AHeld} {a b c : Int} {fs gs : List Fate} (o : Ord l a fs b) (p : Ord l b gs c) : Ord l a (fs ++ gs) c := by
  induction o with
  | nil a => exact p
  | skip h1 _ ih => exact .skip h1 (ih p)
  | sent h1 h2 h3 _ ih => exact .sent h1 h2 h3 (ih p)
theorem Ord.skips {l : List AHeld} {a : Int} : ∀ {fs : List Fate}, (∀ f ∈ fs, f.2.1 ≠ 1) → Ord l a fs a
  | [], _ => .nil a
  | f :: fs, h => .skip (h f (List.mem_cons_self ..)) (Ord.skips fun x hx => h x (List.mem_cons_of_mem _ hx))
/-- behind some events: last was sent last, next comes next -/
structure OrdI (i : Nat) (last next : Int) (F : AFleet) (G : AGate) : Prop where
  rv : ∀ x ∈ F.l, x.rev = s_a_1
  few : FFew F
  fl : 0 ≤ F.last ∧ F.last ≤ 6 * i
  fr : F.room = 6
  ln : (lineOf G.lines s_a_1).Pairwise fun x y => x.1 < y.1
  lb : ∀ x ∈ lineOf G.lines s_a_1, last < x.1 ∧ x.1 < next
  ky : ∀ q, gSeen G.all q = true → q < next
  lt : last < next
  nx : next ≤ i + 1
  n0 : 1 ≤ next
  na : G.all.length ≤ 10 * i
  nl : G.lines.length ≤ i
  room : G.room ≤ 8
  pat : G.pat = 50
theorem flow_ord : ∀ {l : List (Int × Int)} {F : AFleet} {all : Alls} {out : List Fate} {last : Int}, F.Ok → l.Pairwise (fun x y => x.1 < y.1) → (∀ x ∈ l, last < x.1) →
    ∃ outs last', (flowA s_a_1 l F all out).2.2.2 = out ++ outs ∧ Ord (flowA s_a_1 l F all out).1.l last outs last' ∧ last ≤ last' ∧ YthmpbgloifdcnaaGreat.sk (flowA s_a_1 l F all out).1.l = YthmpbgloifdcnaaGreat.sk F.l ∧ (flowA s_a_1 l F all out).1.Ok ∧
      (flowA s_a_1 l F all out).1.last = F.last ∧ (flowA s_a_1 l F all out).1.room = F.room ∧
      ((flowA s_a_1 l F all out).2.2.1).Pairwise (fun x y => x.1 < y.1) ∧ (∀ x ∈ (flowA s_a_1 l F all out).2.2.1, last' < x.1 ∧ x ∈ l) ∧ (last' = last ∨ ∃ x ∈ l, last' = x.1) ∧
      (∀ q, gSeen (flowA s_a_1 l F all out).2.1 q = true → gSeen all q = true ∨ ∃ x ∈ l, x.1 = q)
  | [], F, all, out, last, ok, _, _ => ⟨[], last, by simp [flowA], .nil _, Int.le_refl _, rfl, ok, rfl, rfl, .nil, by simp [flowA], .inl rfl, fun q h => .inl h⟩
  | x :: l, F, all, out, last, ok, pw, hb => by
    rw [List.pairwise_cons] at pw
    unfold flowA
    by_cases h : (fTake F s_a_1 x.1).2.2 = true
    · rw [if_pos h]
      have hsk := sk_take ok s_a_1 x.1
      obtain ⟨outs, last', h1, h2, h3, h4, h5, h6, h7, h8, h9, h10, h11⟩ := flow_ord (l := l) (F := (fTake F s_a_1 x.1).1) (all := mset all x.1 (s_a_1, 1)) (out := out ++ [(x.1, 1, (fTake F s_a_1 x.1).2.1, s_, ())]) (last := x.1) (fTake_ok ok s_a_1 x.1) pw.2 pw.1
      have hx := hb x (List.mem_cons_self ..)
      have hla : (fTake F s_a_1 x.1).1.last = F.last ∧ (fTake F s_a_1 x.1).1.room = F.room := by
        unfold fTake; split
        · exact ⟨rfl, rfl⟩
        · split <;> exact ⟨rfl, rfl⟩
      refine ⟨(x.1, 1, (fTake F s_a_1 x.1).2.1, s_, ()) :: outs, last', by rw [h1]; simp, ?_, by omega, h4.trans hsk, h5, h6.trans hla.1, h7.trans hla.2, h8, fun y hy => ⟨(h9 y hy).1, List.mem_cons_of_mem _ (h9 y hy).2⟩, ?_, fun q hq => ?_⟩
      · refine .sent rfl hx ?_ h2
        rw [fOf_sk (h4.trans hsk)]
        exact (take_spec ok h).2.1
      · rcases h10 with rfl | ⟨y, hy, rfl⟩
        · exact .inr ⟨x, List.mem_cons_self .., rfl⟩
        · exact .inr ⟨y, List.mem_cons_of_mem _ hy, rfl⟩
      · rcases h11 q hq with h | ⟨y, hy, rfl⟩
        · rw [gSeen_mset, Bool.or_eq_true, decide_eq_true_eq] at h
          rcases h with rfl | h
          · exact .inr ⟨x, List.mem_cons_self .., rfl⟩
          · exact .inl h
        · exact .inr ⟨y, List.mem_cons_of_mem _ hy, rfl⟩
    · rw [if_neg h]
      exact ⟨[], last, by simp, .nil _, Int.le_refl _, rfl, ok, rfl, rfl, List.pairwise_cons.2 pw, fun y hy => ⟨hb y hy, hy⟩, .inl rfl, fun q h => .inl h⟩
/-- what an event leaves behind -/
def OrdS (i : Nat) (last : Int) (F : AFleet) (G : AGate) (fs : List Fate) (next : Int) : Prop := ∃ last', Ord F.l last fs last' ∧ OrdI (i + 1) last' next F G
theorem OrdI.mono {i : Nat} {last next : Int} {F : AFleet} {G : AGate} (O : OrdI i last next F G) : OrdI (i + 1) last next F G :=
  ⟨O.rv, O.few, by have := O.fl; omega, O.fr, O.ln, O.lb, O.ky, O.lt, by have := O.nx; omega, O.n0, by have := O.na; omega, by have := O.nl; omega, O.room, O.pat⟩
theorem OrdI.flow {i : Nat} {last next : Int} {F : AFleet} {G : AGate} (O : OrdI i last next F G) (ok : F.Ok) (gok : G.Ok) : OrdS i last (gFlow F G s_a_1).1 (gFlow F G s_a_1).2.1 (gFlow F G s_a_1).2.2 next := by
  obtain ⟨outs, last', h1, h2, h3, h4, h5, h6, h7, h8, h9, h10, h11⟩ := flow_ord (all := G.all) (out := []) ok O.ln (fun x hx => (O.lb x hx).1)
  have hfl := gFlow_len (F := F) gok s_a_1
  have e0 : (flowA s_a_1 (lineOf G.lines s_a_1) F G.all []).2.2.2 = outs := by rw [h1]; simp
  refine ⟨last', ?_, ⟨fun x hx => ?_, ?_, ?_, ?_, ?_, ?_, ?_, ?_, ?_, O.n0, ?_, ?_, O.room, O.pat⟩⟩
  · show Ord (flowA s_a_1 (lineOf G.lines s_a_1) F G.all []).1.l last (flowA s_a_1 (lineOf G.lines s_a_1) F G.all []).2.2.2 last'
    rw [e0]; exact h2
  · have hx : x ∈ (flowA s_a_1 (lineOf G.lines s_a_1) F G.all []).1.l := hx
    have : (x.id, x.rev) ∈ YthmpbgloifdcnaaGreat.sk F.l := by rw [← h4]; exact List.mem_map_of_mem (f := fun x : AHeld => (x.id, x.rev)) hx
    obtain ⟨y, hy, e⟩ := List.mem_map.1 this
    rw [← (Prod.mk.inj e).2]; exact O.rv y hy
  · exact flowA_few O.few
  · have e : (gFlow F G s_a_1).1.last = F.last := h6
    have := O.fl
    rw [e]; omega
  · have e : (gFlow F G s_a_1).1.room = F.room := h7
    rw [e]; exact O.fr
  · unfold gFlow; simp only; rw [lineOf_mset, if_pos rfl]; exact h8
  · unfold gFlow; simp only; rw [lineOf_mset, if_pos rfl]
    intro x hx
    exact ⟨(h9 x hx).1, (O.lb x (h9 x hx).2).2⟩
  · intro q hq
    rcases h11 q hq with h | ⟨x, hx, rfl⟩
    · exact O.ky q h
    · exact (O.lb x hx).2
  · rcases h10 with rfl | ⟨x, hx, rfl⟩
    · exact O.lt
    · exact (O.lb x hx).2
  · have := O.nx; omega
  · have := hfl.2.1; have := O.na; have := O.room; omega
  · have := hfl.2.2; have := O.nl; omega
theorem fUpd_rv {F : AFleet} {id : Int} {g : APod → APod} (h : ∀ x ∈ F.l, x.rev = s_a_1) : ∀ x ∈ fUpd F.l id g, x.rev = s_a_1 := fun x hx => by
  rcases fUpd_mem hx with hx | ⟨y, hy, -, rfl⟩
  · exact h x hx
  · exact h y hy
theorem shrink_last' (rev : ByteArray) : ∀ {n : Nat} {F : AFleet}, (shrink rev n F).1.last = F.last ∧ (shrink rev n F).1.room = F.room ∧ ((∀ x ∈ F.l, x.rev = s_a_1) → ∀ x ∈ (shrink rev n F).1.l, x.rev = s_a_1)
  | 0, _ => ⟨rfl, rfl, fun h => h⟩
  | n + 1, F => by
    obtain ⟨h1, h2, h3⟩ := shrink_last' rev (n := n) (F := drain1 rev F)
    exact ⟨h1, h2, fun h => h3 fun x hx => fUpd_rv (F := F) (id := fSpare F.l rev) (g := fun p => (podDrain p).1) h x hx⟩
theorem grow_rv {c : Int} : ∀ (n : Nat) {F : AFleet}, (∀ x ∈ F.l, x.rev = s_a_1) → ∀ x ∈ (grow s_a_1 c n F).l, x.rev = s_a_1
  | 0, _, h => h
  | n + 1, F, h => by
    intro x hx
    rcases List.mem_append.1 hx with hx | hx
    · exact grow_rv n h x hx
    · simp at hx; subst hx; rfl
theorem OrdI.scale {i : Nat} {last next : Int} {F : AFleet} {G : AGate} (O : OrdI i last next F G) {want : Int} (hw : want ≤ 3) : OrdI (i + 1) last next (fScale F s_a_1 2 want).1 G := by
  have hs := shrink_last' s_a_1 (n := shrinkN (fGrown F s_a_1 2 want) s_a_1 want) (F := fGrown F s_a_1 2 want)
  have hg : (fGrown F s_a_1 2 want).last = F.last + growN F s_a_1 want ∧ (fGrown F s_a_1 2 want).room = F.room := ⟨grow_last _, grow_room _⟩
  have hn : (growN F s_a_1 want : Int) ≤ 6 := by
    have := growN_eq F s_a_1 want
    have := O.fr
    omega
  have hfl := O.fl
  refine ⟨?_, O.few.scale s_a_1 (by decide) want, ?_, ?_, O.ln, O.lb, O.ky, O.lt, by have := O.nx; omega, O.n0, by have := O.na; omega, by have := O.nl; omega, O.room, O.pat⟩
  · exact hs.2.2 (grow_rv _ O.rv)
  · unfold fScale; rw [hs.1, hg.1]; omega
  · unfold fScale; rw [hs.2.1, hg.2]; exact O.fr
theorem OrdI.upd {i : Nat} {last next : Int} {F : AFleet} {G : AGate} (O : OrdI i last next F G) {id : Int} {g : APod → APod} (hf : FFew { F with l := fUpd F.l id g }) : OrdI i last next { F with l := fUpd F.l id g } G :=
  ⟨fUpd_rv O.rv, hf, O.fl, O.fr, O.ln, O.lb, O.ky, O.lt, O.nx, O.n0, O.na, O.nl, O.room, O.pat⟩
theorem OrdI.up {i : Nat} {last next : Int} {F : AFleet} {G : AGate} (O : OrdI i last next F G) (id : Int) : OrdI i last next (fUpp F id).1 G := by
  unfold fUpp; split
  · exact O
  · exact O.upd (O.few.up id)
theorem OrdI.kill {i : Nat} {last next : Int} {F : AFleet} {G : AGate} (O : OrdI i last next F G) (id : Int) : OrdI i last next (fKill F id).1 G := by
  have hk := O.few.kill id
  unfold fKill at *
  split
  · exact O
  · rename_i x hx; rw [hx] at hk; exact O.upd hk
theorem OrdI.give {i : Nat} {last next : Int} {F : AFleet} {G : AGate} (O : OrdI i last next F G) (q : Int) : OrdI i last next (fGive F q).1 G := by
  have hk := O.few.give q
  unfold fGive at *
  split
  · exact O
  · rename_i x hx; rw [hx] at hk; exact O.upd hk
theorem OrdI.done {i : Nat} {last next : Int} {F : AFleet} {G : AGate} (O : OrdI i last next F G) {q : Int} (hq : gSeen G.all q = true) (ok : F.Ok) (gok : G.Ok) : OrdS i last (gDone F G q).1 (gDone F G q).2.1 (gDone F G q).2.2.1 next := by
  unfold gDone
  have O1 := O.give q
  by_cases h : (fGive F q).2.2 ≠ 0
  · rw [if_pos h]
    exact ⟨last, .nil _, O1.mono⟩
  · rw [if_neg h]
    have hrev : (fGive F q).2.1 = s_a_1 := by
      unfold fGive at h ⊢
      split
      · rename_i hw; rw [hw] at h; simp at h
      · rename_i x hx; exact O.rv x (List.mem_of_find?_eq_some hx)
    rw [hrev]
    have hin : (mget G.all q).isSome = true := hq
    have O2 : OrdI i last next (fGive F q).1 { G with all := mset G.all q (s_a_1, 3) } := by
      refine ⟨O1.rv, O1.few, O1.fl, O1.fr, O1.ln, O1.lb, fun x hx => ?_, O1.lt, O1.nx, O1.n0, ?_, O1.nl, O1.room, O1.pat⟩
      · simp only [gSeen_mset, Bool.or_eq_true, decide_eq_true_eq] at hx
        rcases hx with rfl | hx
        · exact O.ky _ hq
        · exact O.ky x hx
      · simp only
        cases hg : mget G.all q with
        | none => rw [hg] at hin; cases hin
        | some v => rw [mset_len hg]; exact O.na
    obtain ⟨last', h1, h2⟩ := O2.flow (give_ok ok q) (gok.reqIn hin _)
    exact ⟨last', .skip (show (3 : Int) ≠ 1 by decide) h1, h2⟩
theorem lostA_what : ∀ {l : List Int} {all : Alls} {out : List Fate}, (∀ f ∈ out, f.2.1 ≠ 1) → ∀ f ∈ (lostA l all out).2, f.2.1 ≠ 1
  | [], _, _, h => h
  | id :: l, all, out, h => by
    unfold lostA; split
    · refine lostA_what fun f hf => ?_
      rcases List.mem_append.1 hf with hf | hf
      · exact h f hf
      · simp at hf; subst hf; show (4 : Int) ≠ 1; decide
    · exact lostA_what h
theorem lostA_seen : ∀ {l : List Int} {all : Alls} {out : List Fate} (q : Int), gSeen (lostA l all out).1 q = gSeen all q ∧ (lostA l all out).1.length = all.length
  | [], _, _, _ => ⟨rfl, rfl⟩
  | id :: l, all, out, q => by
    unfold lostA; split
    · rename_i h1
      have hin : ∃ v, mget all id = some v := by
        cases hg : mget all id with
        | none => unfold reqOf at h1; rw [hg] at h1; cases h1
        | some v => exact ⟨v, rfl⟩
      obtain ⟨v, hv⟩ := hin
      obtain ⟨h2, h3⟩ := lostA_seen (l := l) (all := mset all id ((reqOf all id).1, 4)) (out := out ++ [(id, 4, 0, s_pod_lost, ())]) q
      refine ⟨?_, by rw [h3, mset_len hv]⟩
      rw [h2, gSeen_mset]
      by_cases e : id = q
      · subst e; unfold gSeen; rw [hv]; simp
      · simp [e]
    · exact lostA_seen q
theorem OrdI.lost {i : Nat} {last next : Int} {F : AFleet} {G : AGate} (O : OrdI i last next F G) (ids : List Int) : OrdS i last F (gLost G ids).1 (gLost G ids).2 next := by
  refine ⟨last, .skips (lostA_what (by simp)), OrdI.mono ⟨O.rv, O.few, O.fl, O.fr, O.ln, O.lb, fun q hq => ?_, O.lt, O.nx, O.n0, ?_, O.nl, O.room, O.pat⟩⟩
  · have := (lostA_seen (l := ids) (all := G.all) (out := []) q).1
    unfold gLost at hq; simp only at hq
    rw [this] at hq; exact O.ky q hq
  · unfold gLost; simp only
    rw [(lostA_seen (l := ids) (all := G.all) (out := []) 0).2]; exact O.na
theorem OrdI.arr {i : Nat} {last next : Int} {F : AFleet} {G : AGate} (O : OrdI i last next F G) (ok : F.Ok) : OrdS i last (gArr F G next s_a_1 0).1 (gArr F G next s_a_1 0).2.1 [(gArr F G next s_a_1 0).2.2] (next + 1) := by
  have hs : gSeen G.all next = false := by
    cases h : gSeen G.all next with
    | false => rfl
    | true => have := O.ky _ h; omega
  have hh : lHas (lineOf G.lines s_a_1) next = false := lHas_no fun x hx => by have := (O.lb x hx).2; omega
  have ky : ∀ x : ByteArray × Int, ∀ q, gSeen (mset G.all next x) q = true → q < next + 1 := fun x q hq => by
    rw [gSeen_mset, Bool.or_eq_true, decide_eq_true_eq] at hq
    rcases hq with rfl | hq
    · omega
    · have := O.ky q hq; omega
  have na : ∀ x : ByteArray × Int, (mset G.all next x).length ≤ 10 * (i + 1) := fun x => by have := mset_le' G.all next x; have := O.na; omega
  have nl : ∀ l, (mset G.lines s_a_1 l).length ≤ i + 1 := fun l => by have := mset_le' G.lines s_a_1 l; have := O.nl; omega
  have hfl := O.fl; have hnx := O.nx; have hn0 := O.n0; have hlt := O.lt
  by_cases h : (lineOf G.lines s_a_1).length = 0 ∧ (fTake F s_a_1 next).2.2 = true
  · rw [gArr_sent hs ne_a1 h.1 h.2]
    have hsk := sk_take ok s_a_1 next
    have hla : (fTake F s_a_1 next).1.last = F.last ∧ (fTake F s_a_1 next).1.room = F.room := by
      unfold fTake; split
      · exact ⟨rfl, rfl⟩
      · split <;> exact ⟨rfl, rfl⟩
    have hnil := List.eq_nil_of_length_eq_zero h.1
    refine ⟨next, .sent rfl hlt ?_ (.nil _), ⟨fun x hx => ?_, O.few.take _ _, by rw [hla.1]; omega, by rw [hla.2]; exact O.fr, ?_, ?_, ky _, by omega, by omega, by omega, na _, nl _, O.room, O.pat⟩⟩
    · simp only; rw [fOf_sk hsk]; exact (take_spec ok h.2).2.1
    · have : (x.id, x.rev) ∈ YthmpbgloifdcnaaGreat.sk F.l := by rw [← hsk]; exact List.mem_map_of_mem (f := fun x : AHeld => (x.id, x.rev)) hx
      obtain ⟨y, hy, e⟩ := List.mem_map.1 this
      rw [← (Prod.mk.inj e).2]; exact O.rv y hy
    · rw [lineOf_mset, if_pos rfl]; exact O.ln
    · rw [lineOf_mset, if_pos rfl, hnil]; simp
  · by_cases hl : ((lineOf G.lines s_a_1).length : Int) < G.room
    · rw [gArr_wait hs ne_a1 h hh hl]
      refine ⟨last, .skip (show (2 : Int) ≠ 1 by decide) (.nil _), ⟨O.rv, O.few, by dsimp only; omega, O.fr, ?_, ?_, ky _, by omega, by omega, by omega, na _, nl _, O.room, O.pat⟩⟩
      · rw [lineOf_mset, if_pos rfl, List.pairwise_append]
        exact ⟨O.ln, List.pairwise_singleton .., fun a ha b hb => by simp at hb; subst hb; exact (O.lb a ha).2⟩
      · rw [lineOf_mset, if_pos rfl]
        intro x hx
        rcases List.mem_append.1 hx with hx | hx
        · have := O.lb x hx; omega
        · simp at hx; subst hx; simp only; omega
    · rw [gArr_over hs ne_a1 h hh (by omega)]
      refine ⟨last, .skip (show (4 : Int) ≠ 1 by decide) (.nil _), ⟨O.rv, O.few, by dsimp only; omega, O.fr, ?_, ?_, ky _, by omega, by omega, by omega, na _, nl _, O.room, O.pat⟩⟩
      · rw [lineOf_mset, if_pos rfl]; exact O.ln
      · rw [lineOf_mset, if_pos rfl]; intro x hx; have := O.lb x hx; omega
end Go.Proofs.YthmpbgloifdcnaaGreat
