/- Contracts of functions, and walks of laws (text Fi). No conditions beyond those its theorems state. -/
import Derived.Test.YtheikjckdnhdhaaFh
set_option linter.all false
namespace Go.Proofs.Ytheikjckdnhdhaa
open Go.Dm
attribute [local irreducible] L.load L.store L.chk L.new L.nonnil L.guard L.ite L.draw L.idx L.sem L.semR L.semU L.chkSem L.next L.call L.callV L.join L.alts L.loop L.begin L.endRound L.range
variable {w0 w : World} {E : List Seg}
theorem S_sortC (h : St w0 E w) (i : Nat) {s : Seg} (hi : nth E i = some s) {v : Sl} {M : List (Int × Int)} (hr : Rw eC T_fleet_choice 2 v M s) (hn : M.length ≤ 20)
    (hb : ∀ x ∈ M, -4611686018427387904 < x.1 ∧ x.1 < 4611686018427387904) {k : Unit → PT} (hk : ∀ s' w', Rw eC T_fleet_choice 2 v (csort M) s' → St w0 (setN E i s') w' → k () w') :
    L.call Pr n_slices_SortStableFunc_fleet_choice_fleet_choice [.slice v.a v.len v.cap, cmpV] (.tup []) k w := by
  refine call_of (C_slices_SortStableFunc_fleet_choice_fleet_choice _ ⟨.func n_fleet_Fleet_Take_1, #[], #[]⟩) ?_
  unfold F_slices_SortStableFunc_fleet_choice_fleet_choice
  refine call_of (C_slices_stableCmpFunc_fleet_choice _ _ ⟨.func n_fleet_Fleet_Take_1, #[], #[]⟩) ?_
  unfold F_slices_stableCmpFunc_fleet_choice
  have hlen := Rw.len encC hr
  have hr0 : Rw eC T_fleet_choice 2 v ([] ++ (M ++ [])) s := by simpa using hr
  have fin : ∀ {s' w}, Rw eC T_fleet_choice 2 v (csort M) s' → St w0 (setN E i s') w → L.loop (Y := Int × Unit) (20, ()) (fun y5 again6 =>
      L.ite (decide (y5.1 < ((v.len : Nat) : Int))) (
        L.loop (Y := Int × Int × Unit) (0, IntKind.wrap .i64 (2 * y5.1), ()) fun y7 again8 =>
        L.ite (decide (y7.2.1 ≤ ((v.len : Nat) : Int))) (
          L.call Pr n_slices_symMergeCmpFunc_fleet_choice [.slice v.a v.len v.cap, .int .i64 y7.1, .int .i64 (IntKind.wrap .i64 (y7.1 + y5.1)), .int .i64 y7.2.1, cmpV] (.tup []) fun (x9 : Unit) =>
          again8 (y7.2.1, IntKind.wrap .i64 (y7.2.1 + (IntKind.wrap .i64 (2 * y5.1))), ())) <|
        L.join (Y := Unit) (fun k10 =>
          L.ite (decide ((IntKind.wrap .i64 (y7.1 + y5.1)) < ((v.len : Nat) : Int))) (
            L.call Pr n_slices_symMergeCmpFunc_fleet_choice [.slice v.a v.len v.cap, .int .i64 y7.1, .int .i64 (IntKind.wrap .i64 (y7.1 + y5.1)), .int .i64 ((v.len : Nat) : Int), cmpV] (.tup []) fun (x12 : Unit) =>
            k10 (())) <|
          k10 (())) fun z11 =>
        again6 (IntKind.wrap .i64 (y5.1 * 2), ())) <|
      fun w => ∃ x : Unit, Value.tuple #[] = RT.val (.tup []) x ∧ ∃ y : Unit, Value.tuple #[] = RT.val (.tup []) y ∧ k y w) w := by
    intro s' w hr h
    refine loop_of (fun q y w' => y = (20, ()) ∧ w' = w) 0 ⟨rfl, rfl⟩ ?_
    rintro q y w' ⟨rfl, rfl⟩ again hag
    refine itF (decide_eq_false (by dsimp only; omega)) ?_
    exact ⟨(), rfl, (), rfl, hk s' _ hr h⟩
  refine loop_of (fun q y w => (q = 1 ∧ y = (0, 20, ()) ∧ St w0 E w) ∨ (q = 0 ∧ y = (20, 40, ()) ∧ M.length = 20 ∧ ∃ s', Rw eC T_fleet_choice 2 v (csort M) s' ∧ St w0 (setN E i s') w)) 1 (.inl ⟨rfl, rfl, h⟩) ?_
  clear h
  rintro q y w (⟨rfl, rfl, h⟩ | ⟨rfl, rfl, h20, s', hr', h⟩) again hag <;> dsimp only
  · refine it (fun hc => ?_) (fun hc => ?_) <;> (try simp only [decide_eq_true_eq, decide_eq_false_iff_not, beq_iff_eq, bne_iff_ne, beq_eq_false_iff_ne, bne_eq_false_iff_eq, Bool.not_eq_true', Bool.not_eq_false', ne_eq, Bool.not_eq_true, Bool.not_eq_false] at hc)
    · refine S_insC (P := []) (M := M) (R := []) h i hi hr0 (by simp; omega) hb (by rfl) (by simp; omega) fun s' w hr' h => ?_
      rw [wr (by omega) (by omega)]
      exact hag 0 _ w (by omega) (.inr ⟨rfl, rfl, by omega, s', by simpa using hr', h⟩)
    · refine S_insC (P := []) (M := M) (R := []) h i hi hr0 (by simp; omega) hb (by rfl) (by simp; omega) fun s' w hr' h => ?_
      exact fin (by simpa using hr') h
  · refine itF (decide_eq_false (by omega)) ?_
    refine S_insC (P := csort M) (M := []) (R := []) h i (nth_put hi) (by simpa using hr') (by simp [csort_len]; omega) (by simp) (by rw [csort_len]; omega) (by rw [csort_len]; simp; omega) fun s' w hr' h => ?_
    rw [put_put] at h
    exact fin (by simpa [csort] using hr') h
theorem find_insC {p : Int × Int → Bool} {c : Int × Int} : ∀ {l : List (Int × Int)}, l.Pairwise (fun a b => a.1 ≤ b.1) →
    (insC c l).find? p = match l.find? p with | none => if p c = true then some c else none | some y => if p c = true ∧ c.1 < y.1 then some c else some y
  | [], _ => by by_cases h : p c = true <;> simp [insC, h]
  | y :: l, hp => by
    rw [List.pairwise_cons] at hp
    simp only [insC]
    split
    · rename_i hlt
      by_cases h : p c = true
      · rw [List.find?_cons_of_pos h]
        cases hf : (y :: l).find? p with
        | none => simp [h]
        | some z =>
          have hz : c.1 < z.1 := by
            rcases List.mem_cons.1 (List.mem_of_find?_eq_some hf) with rfl | hz
            · exact hlt
            · have := hp.1 z hz; omega
          simp [h, hz]
      · rw [List.find?_cons_of_neg h]
        cases hf : (y :: l).find? p <;> simp [h]
    · rename_i hlt
      by_cases hy : p y = true
      · rw [List.find?_cons_of_pos hy, List.find?_cons_of_pos hy]
        simp [hlt]
      · rw [List.find?_cons_of_neg hy, List.find?_cons_of_neg hy]
        exact find_insC hp.2
/-! ### a request for a revision -/
def can (x : AHeld) : Bool := decide (x.pod.st = 2 ∧ (x.pod.reqs.length : Int) < x.pod.conc)
def pickStep (b : Option AHeld) (x : AHeld) : Option AHeld := match b with
  | none => if can x = true then some x else none
  | some y => if can x = true ∧ x.pod.reqs.length < y.pod.reqs.length then some x else some y
def fPick (l : List AHeld) (rev : ByteArray) : Option AHeld := (revs l rev).foldl pickStep none
def key (x : AHeld) : Int × Int := (x.pod.reqs.length, x.id)
theorem find_pick {p : Int × Int → Bool} : ∀ (n : Nat) {R : List AHeld}, R.length = n → (∀ x ∈ R, p (key x) = can x) → (csort (R.map key)).find? p = (R.foldl pickStep none).map key
  | 0, R, hn, _ => by
    have := List.eq_nil_of_length_eq_zero hn
    subst this; rfl
  | n + 1, R, hn, h => by
    obtain ⟨R', x, rfl⟩ : ∃ R' x, R = R' ++ [x] := ⟨R.dropLast, R.getLast (by intro e; subst e; simp at hn), (List.dropLast_concat_getLast _).symm⟩
    have ih := find_pick (p := p) n (R := R') (by simpa using hn) fun y hy => h y (by simp [hy])
    have hx := h x (by simp)
    have e : csort ((R' ++ [x]).map key) = insC (key x) (csort (R'.map key)) := by simp [csort, List.foldl_append]
    rw [e, find_insC (csort_pw _), ih, List.foldl_append]
    simp only [List.foldl_cons, List.foldl_nil]
    cases R'.foldl pickStep none with
    | none => simp only [Option.map_none, pickStep, hx]; split <;> rfl
    | some y =>
      simp only [Option.map_some, pickStep, hx]
      by_cases hc : can x = true ∧ x.pod.reqs.length < y.pod.reqs.length
      · rw [if_pos hc, if_pos ⟨hc.1, by simp only [key]; omega⟩]; rfl
      · rw [if_neg hc, if_neg (fun hh => hc ⟨hh.1, by have := hh.2; simp only [key] at this; omega⟩)]; rfl
theorem AFleet.Ok.where_upd {F : AFleet} (ok : F.Ok) {id : Int} {x : AHeld} (hx : fFind F.l id = some x) (g : APod → APod) (hq : ∀ q ∈ (g x.pod).reqs, q ∈ x.pod.reqs ∨ fWhere F.l q = none)
    (h4 : (g x.pod).st = 4 → (g x.pod).reqs = []) (q : Int) : (fWhere (fUpd F.l id g) q).map (·.id) = if q ∈ (g x.pod).reqs then some id else if q ∈ x.pod.reqs then none else (fWhere F.l q).map (·.id) := by
  obtain ⟨hm, rfl⟩ := fFind_some hx
  obtain ⟨A, B, hl⟩ := List.append_of_mem hm
  have pw := ok.pw
  have once := ok.once
  have hno : fWhere F.l q = none → ∀ y ∈ A ++ x :: B, q ∉ y.pod.reqs := fun h => by rw [hl] at h; exact fWhere_none h
  have hq := hq q
  rw [hl] at pw once ⊢
  rw [List.pairwise_append, List.pairwise_cons] at once
  rw [fUpd_at pw]
  have hA : (q ∈ x.pod.reqs ∨ q ∈ (g x.pod).reqs) → ∀ y ∈ A, q ∉ y.pod.reqs := fun h y hy hqy => by
    have h : q ∈ x.pod.reqs ∨ fWhere F.l q = none := h.elim .inl fun h => hq h
    rcases h with h | h
    · exact once.2.2 y hy x (by simp) q hqy h
    · exact hno h y (by simp [hy]) hqy
  have hB : (q ∈ x.pod.reqs ∨ q ∈ (g x.pod).reqs) → ∀ y ∈ B, q ∉ y.pod.reqs := fun h y hy hqy => by
    have h : q ∈ x.pod.reqs ∨ fWhere F.l q = none := h.elim .inl fun h => hq h
    rcases h with h | h
    · exact once.2.1.1 y hy q h hqy
    · exact hno h y (by simp [hy]) hqy
  have fn : ∀ {l : List AHeld}, (∀ y ∈ l, q ∉ y.pod.reqs) → List.find? (fun x => decide (q ∈ x.pod.reqs)) l = none := fun h => by
    rw [List.find?_eq_none]; exact fun y hy => by simpa using h y hy
  unfold fWhere
  simp only [List.find?_append]
  by_cases h1 : q ∈ (g x.pod).reqs
  · rw [if_pos h1, fn (hA (.inr h1)), Option.none_or]
    have : (g x.pod).st ≠ 4 := fun e => by rw [h4 e] at h1; simp at h1
    rw [if_neg this, List.find?_cons_of_pos (by simpa using h1)]
    rfl
  · rw [if_neg h1]
    have hg : List.find? (fun x => decide (q ∈ x.pod.reqs)) (if (g x.pod).st = 4 then [] else [{ x with pod := g x.pod }]) = none := by
      split
      · rfl
      · rw [List.find?_cons_of_neg (by simpa using h1)]; rfl
    rw [hg, Option.none_or]
    by_cases h2 : q ∈ x.pod.reqs
    · rw [if_pos h2, fn (hA (.inl h2)), fn (hB (.inl h2))]; rfl
    · rw [if_neg h2, List.find?_cons_of_neg (by simpa using h2)]
end Go.Proofs.Ytheikjckdnhdhaa
