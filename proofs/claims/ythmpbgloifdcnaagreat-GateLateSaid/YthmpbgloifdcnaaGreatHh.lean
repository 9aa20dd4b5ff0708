/- Contracts of functions, and walks of laws (text Hh). No conditions beyond those its theorems state. -/
import Derived.Test.YthmpbgloifdcnaaGreatHf
import Derived.Test.YthmpbgloifdcnaaGreatGv
set_option linter.all false
namespace Go.Proofs.YthmpbgloifdcnaaGreat
open Go.Dm
/-! ### one pod of one place: who is sent -/
abbrev F1 (st : Int) (rq : List Int) : AFleet := ⟨4, 1, [⟨1, s_a_1, ⟨st, 1, rq⟩⟩]⟩
inductive FSt : AFleet → Int → Prop
  | start : FSt (F1 1 []) 0
  | idle : FSt (F1 2 []) 0
  | busy (s : Int) (h : 1 ≤ s) : FSt (F1 2 [s]) s
theorem FSt.take {F : AFleet} {s : Int} (h : FSt F s) {q : Int} (hq : 1 ≤ q) : fTake F s_a_1 q = (F, 0, false) ∨ (s = 0 ∧ ∃ F', fTake F s_a_1 q = (F', 1, true) ∧ FSt F' q) := by
  cases h with
  | start => exact .inl (by simp [fTake, fWhere, fPick, revs, pickStep, can])
  | idle => exact .inr ⟨rfl, F1 2 [q], by simp [fTake, fWhere, fPick, revs, pickStep, can, fUpd, podTake, insI], .busy q hq⟩
  | busy s hs =>
    refine .inl ?_
    by_cases e : q = s
    · subst e; simp [fTake, fWhere, fPick, revs, pickStep, can]
    · simp [fTake, fWhere, fPick, revs, pickStep, can, e]
theorem FSt.up {F : AFleet} {s : Int} (h : FSt F s) : FSt (fUpp F 1).1 s := by
  cases h with
  | start => exact FSt.idle
  | idle => exact FSt.idle
  | busy s hs => exact FSt.busy s hs
theorem FSt.few {F : AFleet} {s : Int} (h : FSt F s) : FFew F := by
  cases h <;> exact ⟨(by decide : (4 : Int) ≤ 20), (by decide : (1 : Int) ≤ max 4 0), by simp⟩
theorem FSt.flow {F : AFleet} {s : Int} (h : FSt F s) {l : List (Int × Int)} {all : Alls} (hl : ∀ x ∈ l, 1 ≤ x.1) :
    flowA s_a_1 l F all [] = (F, all, l, []) ∨ ∃ x l' F', l = x :: l' ∧ s = 0 ∧ FSt F' x.1 ∧ flowA s_a_1 l F all [] = (F', mset all x.1 (s_a_1, 1), l', [(x.1, 1, 1, s_, ())]) := by
  cases l with
  | nil => exact .inl rfl
  | cons x l =>
    have hx := hl x (by simp)
    rcases h.take hx with e | ⟨hs, F', e, hF⟩
    · left; rw [flowA, if_neg (by rw [e]; simp)]
    · right
      refine ⟨x, l, F', rfl, hs, hF, ?_⟩
      rw [flowA, if_pos (by rw [e]), e]
      cases l with
      | nil => rfl
      | cons y l =>
        rcases hF.take (hl y (by simp)) with e2 | ⟨hs2, -⟩
        · rw [flowA, if_neg (by rw [e2]; simp)]; rfl
        · omega
/-! ### when who came -/
def tmL (tm : List Int) (l : List Int) : List Int := l.foldl (fun t q => t.set q.toNat 1000) tm
theorem tmL_len : ∀ {l tm : List Int}, (tmL tm l).length = tm.length
  | [], _ => rfl
  | q :: l, tm => by
    have := tmL_len (l := l) (tm := tm.set q.toNat 1000)
    rw [List.length_set] at this
    exact this
theorem tmL_no {i : Nat} : ∀ {l tm : List Int}, (∀ q ∈ l, q.toNat ≠ i) → (tmL tm l)[i]? = tm[i]?
  | [], _, _ => rfl
  | q :: l, tm, h => by
    have := tmL_no (l := l) (tm := tm.set q.toNat 1000) fun q hq => h q (by simp [hq])
    rw [List.getElem?_set_ne (h q (by simp))] at this
    exact this
theorem tmL_in {q : Int} : ∀ {l tm : List Int}, q ∈ l → q.toNat < tm.length → (tmL tm l)[q.toNat]? = some 1000
  | x :: l, tm, h, hl => by
    show (tmL (tm.set x.toNat 1000) l)[q.toNat]? = _
    by_cases hm : q ∈ l
    · exact tmL_in hm (by simpa using hl)
    · by_cases hn : ∀ y ∈ l, y.toNat ≠ q.toNat
      · rw [tmL_no hn]
        have : x = q := by
          rcases List.mem_cons.1 h with h | h
          · exact h.symm
          · exact absurd h hm
        subst this
        simp [hl]
      · obtain ⟨y, hy, e⟩ : ∃ y ∈ l, y.toNat = q.toNat := Classical.byContradiction fun hc => hn fun y hy e => hc ⟨y, hy, e⟩
        have := tmL_in (q := y) (l := l) (tm := tm.set x.toNat 1000) hy (by rw [e]; simpa using hl)
        rwa [e] at this
theorem tmL_mem {v : Int} : ∀ {l tm : List Int}, v ∈ tmL tm l → v = 1000 ∨ v ∈ tm
  | [], _, h => .inr h
  | q :: l, tm, h => by
    rcases tmL_mem (l := l) (tm := tm.set q.toNat 1000) h with h | h
    · exact .inl h
    · rcases List.mem_or_eq_of_mem_set h with h | h
      · exact .inr h
      · exact .inl h
theorem tmL_take {l tm : List Int} {j : Nat} {q : Int} (h : l[j]? = some q) : tmL tm (l.take (j + 1)) = (tmL tm (l.take j)).set q.toNat 1000 := by
  unfold tmL; rw [List.take_add_one, h, Option.toList_some, List.foldl_append]; rfl
structure Lat (lo n s pat : Int) (F : AFleet) (G : AGate) (tm : List Int) : Prop where
  f : FSt F s
  n0 : 0 ≤ n
  n8 : n ≤ 8
  s0 : 0 ≤ s ∧ s ≤ n
  room : G.room = 8
  pt : G.pat = pat
  seen : ∀ q, gSeen G.all q = true → 1 ≤ q ∧ q ≤ n
  ln : ∀ x ∈ lineOf G.lines s_a_1, (1 ≤ x.1 ∧ x.1 ≤ n) ∧ x.1 ≠ s ∧ lo ≤ x.2 ∧ ∃ v, tm[x.1.toNat]? = some v ∧ x.2 = v + pat ∧ v < 1000
  pw : (lineOf G.lines s_a_1).Pairwise (fun x y => x.1 < y.1)
  cov : ∀ q, 1 ≤ q → q ≤ n → q ≠ s → ∃ v, tm[q.toNat]? = some v ∧ (1000 ≤ v ∨ (q, v + pat) ∈ lineOf G.lines s_a_1)
  lns : G.lines = [] ∨ ∃ l, G.lines = [(s_a_1, l)]
  kn : ∀ x ∈ lineOf G.lines s_a_1, gSeen G.all x.1 = true
  tl : tm.length = 9
  tv : ∀ v ∈ tm, 0 ≤ v ∧ v ≤ 1000
  na : G.all.length ≤ n.toNat
section
variable {lo n s pat : Int} {F : AFleet} {G : AGate} {tm : List Int}
theorem Lat.gwk (L : Lat lo n s pat F G tm) : GWk G := by
  intro x hx y hy
  rcases L.lns with e | ⟨l, e⟩
  · rw [e] at hx; cases hx
  · rw [e] at hx
    simp only [List.mem_cons, List.not_mem_nil, or_false] at hx
    subst hx
    exact L.kn y (by rw [e]; simp [lineOf, mget]; exact hy)
theorem pw_len : ∀ {l : List (Int × Int)} {a b : Int}, l.Pairwise (fun x y => x.1 < y.1) → (∀ x ∈ l, a ≤ x.1 ∧ x.1 < b) → l.length ≤ (b - a).toNat
  | [], _, _, _, _ => Nat.zero_le _
  | x :: l, a, b, hp, h => by
    rw [List.pairwise_cons] at hp
    have := pw_len (a := x.1 + 1) (b := b) hp.2 fun y hy => ⟨by have := hp.1 y hy; omega, (h y (by simp [hy])).2⟩
    have hx := h x (by simp)
    simp only [List.length_cons]
    omega
theorem Lat.short (L : Lat lo n s pat F G tm) : (lineOf G.lines s_a_1).length ≤ n.toNat := by
  have := pw_len (a := 1) (b := n + 1) L.pw fun x hx => by have := (L.ln x hx).1; omega
  have := L.n0
  omega
theorem pw_fst {l : List (Int × Int)} (h : l.Pairwise (fun x y => x.1 < y.1)) {x y : Int × Int} (hx : x ∈ l) (hy : y ∈ l) (e : x.1 = y.1) : x = y := by
  induction l with
  | nil => cases hx
  | cons z l ih =>
    rw [List.pairwise_cons] at h
    rcases List.mem_cons.1 hx with e1 | hx <;> rcases List.mem_cons.1 hy with e2 | hy
    · rw [e1, e2]
    · have := h.1 y hy; rw [e1] at e; omega
    · have := h.1 x hx; rw [e2] at e; omega
    · exact ih h.2 hx hy
/-- who is told at t -/
theorem Lat.late {t : Int} (L : Lat t n s pat F G tm) : ∀ q ∈ lLate (lineOf G.lines s_a_1) t, (1 ≤ q ∧ q ≤ n) ∧ q ≠ s ∧ ∃ v, tm[q.toNat]? = some v ∧ v + pat = t ∧ v < 1000 := by
  intro q hq
  obtain ⟨x, hx, rfl⟩ := List.mem_map.1 hq
  obtain ⟨hx, hle⟩ := List.mem_filter.1 hx
  have hle := of_decide_eq_true hle
  obtain ⟨h1, h2, h3, v, h4, h5, h6⟩ := L.ln x hx
  exact ⟨h1, h2, v, h4, by omega, h6⟩
theorem Lat.late_nd {t : Int} (L : Lat t n s pat F G tm) : (lLate (lineOf G.lines s_a_1) t).Nodup := by
  unfold lLate
  refine (List.pairwise_map.2 ((L.pw.filter _).imp fun h e => ?_))
  omega
theorem Lat.rest {G' : AGate} {t : Int} (L : Lat t n s pat F G tm) (el : lineOf G'.lines s_a_1 = lRest (lineOf G.lines s_a_1) t) (er : G'.room = G.room) (ep : G'.pat = G.pat) (ek : G'.all.map (·.1) = G.all.map (·.1))
    (elns : G'.lines = [] ∨ ∃ l, G'.lines = [(s_a_1, l)]) : Lat (t + 1) n s pat F G' (tmL tm (lLate (lineOf G.lines s_a_1) t)) := by
  have es : ∀ q, gSeen G'.all q = gSeen G.all q := fun q => seen_keys ek q
  have hsub : ∀ x ∈ lRest (lineOf G.lines s_a_1) t, x ∈ lineOf G.lines s_a_1 ∧ t < x.2 := fun x hx => by
    obtain ⟨h1, h2⟩ := List.mem_filter.1 hx
    exact ⟨h1, by simpa using h2⟩
  have hna := congrArg List.length ek
  simp only [List.length_map] at hna
  refine ⟨L.f, L.n0, L.n8, L.s0, er.trans L.room, ep.trans L.pt, fun q hq => L.seen q (by rw [← es]; exact hq), fun x hx => ?_, by rw [el]; exact L.pw.filter _, fun q h1 h2 h3 => ?_, elns, fun x hx => ?_, tmL_len.trans L.tl, fun v hv => ?_, by rw [hna]; exact L.na⟩
  · rw [el] at hx
    obtain ⟨hx1, hx2⟩ := hsub x hx
    obtain ⟨h1, h2, h3, v, h4, h5, h6⟩ := L.ln x hx1
    refine ⟨h1, h2, by omega, v, ?_, h5, h6⟩
    rw [tmL_no, h4]
    intro q hq e
    obtain ⟨hq1, hq2, v', hq3, hq4, -⟩ := L.late q hq
    rw [e, h4] at hq3
    cases hq3
    omega
  · obtain ⟨v, hv, hc⟩ := L.cov q h1 h2 h3
    by_cases hm : q ∈ lLate (lineOf G.lines s_a_1) t
    · exact ⟨1000, tmL_in hm (by have := L.tl; have := L.n8; omega), .inl (Int.le_refl _)⟩
    · refine ⟨v, ?_, ?_⟩
      · rw [tmL_no, hv]
        intro q2 hq2 e
        have := (L.late q2 hq2).1
        have : q2 = q := by omega
        subst this
        exact hm hq2
      · rcases hc with hc | hc
        · exact .inl hc
        · right
          rw [el]
          refine List.mem_filter.2 ⟨hc, ?_⟩
          simp only [Bool.not_eq_true', decide_eq_false_iff_not]
          intro hle
          exact hm (List.mem_map.2 ⟨_, List.mem_filter.2 ⟨hc, by simpa using hle⟩, rfl⟩)
  · rw [el] at hx
    rw [es]
    exact L.kn x (hsub x hx).1
  · rcases tmL_mem hv with rfl | hv
    · exact ⟨by decide, by decide⟩
    · exact L.tv v hv
theorem Lat.tick {t : Int} (L : Lat t n s pat F G tm) : (gTick G t).2 = lateF (lLate (lineOf G.lines s_a_1) t) ∧ Lat (t + 1) n s pat F (gTick G t).1 (tmL tm (lLate (lineOf G.lines s_a_1) t)) := by
  rcases L.lns with e | ⟨l, e⟩
  · have el : lineOf G.lines s_a_1 = [] := by rw [e]; rfl
    have eg : gTick G t = (G, []) := by unfold gTick; rw [e, List.map_nil, ssort_nil]; rfl
    rw [eg]
    refine ⟨by rw [el]; rfl, L.rest ?_ rfl rfl rfl (.inl e)⟩
    rw [el]; rfl
  · have el : lineOf G.lines s_a_1 = l := by rw [e]; simp [lineOf, mget]
    have eg : gTick G t = (tick1 t s_a_1 G, lateF (lLate (lineOf G.lines s_a_1) t)) := by
      unfold gTick
      have : G.lines.map (·.1) = [s_a_1] := by rw [e]; rfl
      rw [this, ssort_one]; rfl
    rw [eg]
    refine ⟨rfl, L.rest ?_ rfl rfl (lateS_keys (L.gwk.late s_a_1 t)) (.inr ⟨lRest (lineOf G.lines s_a_1) t, ?_⟩)⟩
    · show lineOf (mset G.lines s_a_1 _) s_a_1 = _
      rw [lineOf_mset, if_pos rfl]
    · show mset G.lines s_a_1 _ = _
      rw [e]; simp [mset]
theorem set_ne {tm : List Int} {i j : Nat} {v : Int} (h : i ≠ j) : (tm.set i v)[j]? = tm[j]? := List.getElem?_set_ne h
theorem Lat.arr {t : Int} (L : Lat (t + 1) n s pat F G tm) (hn : n < 8) (hp : 1 ≤ pat) (h0 : 0 ≤ t) (ht : t < 70) :
    ∃ (F' : AFleet) (G' : AGate) (what pod : Int), gArr F G (n + 1) s_a_1 t = (F', G', (n + 1, what, pod, s_, ())) ∧
      ((what = 1 ∧ Lat (t + 1) (n + 1) (n + 1) pat F' G' (tm.set (n + 1).toNat t)) ∨ (what = 2 ∧ Lat (t + 1) (n + 1) s pat F' G' (tm.set (n + 1).toNat t))) := by
  have hn0 := L.n0; have hs0 := L.s0; have hsh := L.short
  have hs : gSeen G.all (n + 1) = false := by
    cases h : gSeen G.all (n + 1) with
    | false => rfl
    | true => have := L.seen _ h; omega
  have hh : lHas (lineOf G.lines s_a_1) (n + 1) = false := lHas_no fun x hx => by have := (L.ln x hx).1; omega
  have hna := L.na
  have hmn : mget G.all (n + 1) = none := by
    unfold gSeen at hs
    cases hm : mget G.all (n + 1) with
    | none => rfl
    | some v => rw [hm] at hs; cases hs
  have htl : (tm.set (n + 1).toNat t).length = 9 := by rw [List.length_set]; exact L.tl
  have htv : ∀ v ∈ tm.set (n + 1).toNat t, 0 ≤ v ∧ v ≤ 1000 := fun v hv => by
    rcases List.mem_or_eq_of_mem_set hv with hv | rfl
    · exact L.tv v hv
    · omega
  have hset : ∀ {q : Int}, 1 ≤ q → q ≤ n → (tm.set (n + 1).toNat t)[q.toNat]? = tm[q.toNat]? := fun h1 h2 => set_ne (by omega)
  have hnew : (tm.set (n + 1).toNat t)[(n + 1).toNat]? = some t := by
    rw [List.getElem?_set_self (by have := L.tl; omega)]
  have elns : ∀ l, mset G.lines s_a_1 l = [(s_a_1, l)] := fun l => by
    rcases L.lns with e | ⟨l', e⟩ <;> rw [e] <;> simp [mset]
  have hseen : ∀ x q, gSeen (mset G.all (n + 1) x) q = true → 1 ≤ q ∧ q ≤ n + 1 := fun x q hq => by
    rw [gSeen_mset] at hq
    simp only [Bool.or_eq_true, decide_eq_true_eq] at hq
    rcases hq with hq | hq
    · omega
    · have := L.seen q hq; omega
  have hall : ∀ x, (mset G.all (n + 1) x).length ≤ (n + 1).toNat := fun x => by
    have := mset_le' G.all (n + 1) x; omega
  by_cases hc : (lineOf G.lines s_a_1).length = 0 ∧ (fTake F s_a_1 (n + 1)).2.2 = true
  · rw [gArr_sent hs ne_a1 hc.1 hc.2]
    rcases L.f.take (q := n + 1) (by omega) with e | ⟨hs1, F', e, hF⟩
    · rw [e] at hc; exact absurd hc.2 (by simp)
    · have el : lineOf G.lines s_a_1 = [] := List.eq_nil_of_length_eq_zero hc.1
      rw [e]
      refine ⟨_, _, _, _, rfl, .inl ⟨rfl, ?_⟩⟩
      have el2 : lineOf (mset G.lines s_a_1 (lineOf G.lines s_a_1)) s_a_1 = [] := by rw [lineOf_mset, if_pos rfl, el]
      refine ⟨hF, by omega, by omega, by omega, L.room, L.pt, fun q => hseen _ q, ?_, ?_, fun q h1 h2 h3 => ?_, .inr ⟨_, elns _⟩, ?_, htl, htv, hall _⟩
      · simp only [el2]; intro x hx; cases hx
      · simp only [el2]; exact .nil
      · obtain ⟨v, hv, hc⟩ := L.cov q h1 (by omega) (by omega)
        refine ⟨v, by rw [hset h1 (by omega)]; exact hv, ?_⟩
        rcases hc with hc | hc
        · exact .inl hc
        · rw [el] at hc; cases hc
      · simp only [el2]; intro x hx; cases hx
  · have hpt := L.pt
    rw [gArr_wait hs ne_a1 hc hh (by have := L.room; omega)]
    refine ⟨_, _, _, _, rfl, .inr ⟨rfl, ?_⟩⟩
    have el2 : lineOf (mset G.lines s_a_1 (lineOf G.lines s_a_1 ++ [(n + 1, t + G.pat)])) s_a_1 = lineOf G.lines s_a_1 ++ [(n + 1, t + G.pat)] := by rw [lineOf_mset, if_pos rfl]
    refine ⟨L.f, by omega, by omega, by omega, L.room, L.pt, fun q => hseen _ q, ?_, ?_, fun q h1 h2 h3 => ?_, .inr ⟨_, elns _⟩, ?_, htl, htv, hall _⟩
    · simp only [el2]
      intro x hx
      rcases List.mem_append.1 hx with hx | hx
      · obtain ⟨h1, h2, h3, v, h4, h5, h6⟩ := L.ln x hx
        exact ⟨by omega, h2, h3, v, by rw [hset h1.1 h1.2]; exact h4, h5, h6⟩
      · simp only [List.mem_cons, List.not_mem_nil, or_false] at hx
        subst hx
        exact ⟨by simp only; omega, by simp only; omega, by simp only; omega, t, hnew, by simp only; omega, by omega⟩
    · simp only [el2]
      refine List.pairwise_append.2 ⟨L.pw, List.pairwise_singleton .., fun x hx y hy => ?_⟩
      simp only [List.mem_cons, List.not_mem_nil, or_false] at hy
      subst hy
      have := (L.ln x hx).1
      simp only; omega
    · simp only [el2]
      by_cases e : q = n + 1
      · subst e
        exact ⟨t, hnew, .inr (List.mem_append.2 (.inr (by rw [hpt]; simp)))⟩
      · obtain ⟨v, hv, hc⟩ := L.cov q h1 (by omega) h3
        refine ⟨v, by rw [hset h1 (by omega)]; exact hv, ?_⟩
        rcases hc with hc | hc
        · exact .inl hc
        · exact .inr (List.mem_append.2 (.inl hc))
    · simp only [el2]
      intro x hx
      rw [gSeen_mset]
      rcases List.mem_append.1 hx with hx | hx
      · rw [L.kn x hx]; simp
      · simp only [List.mem_cons, List.not_mem_nil, or_false] at hx
        subst hx; simp
theorem Lat.flow (L : Lat lo n s pat F G tm) : ((gFlow F G s_a_1).2.2 = [] ∧ Lat lo n s pat (gFlow F G s_a_1).1 (gFlow F G s_a_1).2.1 tm) ∨ ∃ q, (gFlow F G s_a_1).2.2 = [(q, 1, 1, s_, ())] ∧ Lat lo n q pat (gFlow F G s_a_1).1 (gFlow F G s_a_1).2.1 tm := by
  have elns : ∀ l, mset G.lines s_a_1 l = [(s_a_1, l)] := fun l => by
    rcases L.lns with e | ⟨l', e⟩ <;> rw [e] <;> simp [mset]
  unfold gFlow
  rcases L.f.flow (l := lineOf G.lines s_a_1) (all := G.all) fun x hx => (L.ln x hx).1.1 with e | ⟨x, l', F', ex, hs, hF, e⟩
  · left
    rw [e]
    have el2 : lineOf (mset G.lines s_a_1 (lineOf G.lines s_a_1)) s_a_1 = lineOf G.lines s_a_1 := by rw [lineOf_mset, if_pos rfl]
    refine ⟨rfl, L.f, L.n0, L.n8, L.s0, L.room, L.pt, L.seen, ?_, ?_, ?_, .inr ⟨_, elns _⟩, ?_, L.tl, L.tv, L.na⟩
    · simp only [el2]; exact L.ln
    · simp only [el2]; exact L.pw
    · simp only [el2]; exact L.cov
    · simp only [el2]; exact L.kn
  · right
    rw [e]
    have el2 : lineOf (mset G.lines s_a_1 l') s_a_1 = l' := by rw [lineOf_mset, if_pos rfl]
    have hln := L.ln; have hpw := L.pw; have hcov := L.cov; have hkn := L.kn
    rw [ex] at hln hpw hcov hkn
    rw [List.pairwise_cons] at hpw
    have hx := hln x (by simp)
    have hin : ∃ v, mget G.all x.1 = some v := by
      have := hkn x (by simp); unfold gSeen at this; exact Option.isSome_iff_exists.1 this
    obtain ⟨v0, hv0⟩ := hin
    have es : ∀ q, gSeen (mset G.all x.1 (s_a_1, 1)) q = gSeen G.all q := fun q => seen_keys (mset_keys hv0) q
    refine ⟨x.1, rfl, hF, L.n0, L.n8, by omega, L.room, L.pt, fun q hq => L.seen q (by rw [← es]; exact hq), ?_, ?_, ?_, .inr ⟨_, elns _⟩, ?_, L.tl, L.tv, ?_⟩
    · simp only [el2]
      intro y hy
      obtain ⟨h1, h2, h3⟩ := hln y (by simp [hy])
      exact ⟨h1, by have := hpw.1 y hy; omega, h3⟩
    · simp only [el2]; exact hpw.2
    · simp only [el2]
      intro q h1 h2 h3
      obtain ⟨v, hv, hc⟩ := hcov q h1 h2 (by omega)
      refine ⟨v, hv, ?_⟩
      rcases hc with hc | hc
      · exact .inl hc
      · rcases List.mem_cons.1 hc with e | hc
        · exact absurd (congrArg (·.1) e) h3
        · exact .inr hc
    · simp only [el2]
      intro y hy
      rw [es]; exact hkn y (by simp [hy])
    · simp only; rw [mset_len hv0]; exact L.na
end
end Go.Proofs.YthmpbgloifdcnaaGreat
