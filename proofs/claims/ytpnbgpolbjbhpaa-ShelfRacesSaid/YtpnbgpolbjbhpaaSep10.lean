/- Contracts of functions, and walks of laws (text Sep10). No conditions beyond those its theorems state. -/
import Derived.Test.YtpnbgpolbjbhpaaSep9
import Derived.Laws.StructEq
set_option linter.all false
namespace Go.Dm
section
variable {w0 w : World} {E E' : List Seg}
/-- a join, gone through way by way -/
theorem jd {Y : Type} {X : (Y → PT) → PT} {k : Y → PT} (h : X k w) : L.join X k w := h
theorem eqk {α : Type} {a b : α} {k : α → PT} (h : k a w) (e : a = b) : k b w := e ▸ h
theorem eqS_of {P : Program} {T : TypeId} {a b : Array Value} {r : Bool} (hg : P.eqGuardType P.depth T = false) (h : (Op.equalIn 10000 T (.agg a) (.agg b)).run P w = .ok r w) :
    (do eqGuard .eql T (.tmp 0) (.tmp 0) (.agg a) (.agg b); binOp .eql T (.agg a) (.agg b) : Sem Value).run P w = .ok (.bool r) w := by
  rw [Sem.run_bind, run_eqGuard_agg w .eql T (.tmp 0) (.tmp 0) _ _ hg]
  simp only [Result.andThen]
  rw [run_eql_struct, h]; rfl
theorem neS_of {P : Program} {T : TypeId} {a b : Array Value} {r : Bool} (hg : P.eqGuardType P.depth T = false) (h : (Op.equalIn 10000 T (.agg a) (.agg b)).run P w = .ok r w) :
    (do eqGuard .neq T (.tmp 0) (.tmp 0) (.agg a) (.agg b); binOp .neq T (.agg a) (.agg b) : Sem Value).run P w = .ok (.bool (!r)) w := by
  rw [Sem.run_bind, run_eqGuard_agg w .neq T (.tmp 0) (.tmp 0) _ _ hg]
  simp only [Result.andThen]
  rw [run_neq_struct, h]; rfl
theorem ba_iff {a b : ByteArray} : (@BEq.beq ByteArray _ a b) = true ↔ a = b := by rw [beq_toListBytes, str_eq]; simp
theorem altsC {x : PT} {l : List PT} (h1 : x w) (h2 : L.alts l w) : L.alts (x :: l) w := ⟨h1, h2⟩
theorem altsN : L.alts [] w := trivial
theorem oldA {α : Type} {enc : α → List Value} {size : Nat} {v : Sl} {l : List α} (o : Old w0 enc v l) (hE : Enc enc size) (h : St w0 E w) {n : Int} {ls : List Lf} {kk : HT ls → PT} (f : α → HT ls) (hf : ∀ x, un2s ls (enc x) = some (f x)) (h0 : 0 ≤ n) (h1 : n < v.len)
    (hk : ∀ x, l[n.toNat]? = some x → kk (f x) w) : L.idx v.a n v.len size (fun a => L.load (.agg ls) a kk) w := by
  have r := o.now h
  have hl := r.len
  have hx : l[n.toNat]? = some l[n.toNat] := List.getElem?_eq_getElem (by omega)
  refine r.ix hE h0 (by omega) fun a ha => ?_
  exact r.lda hE ha hx (hf _) (hk _ hx)
/-- reading one of what may be read -/
theorem rd1 {α : Type} {enc : α → List Value} {v : Sl} {l : List α} (r : Rd w enc v l) (hE : Enc enc 1) {n : Int} {lf : Lf} {kk : lf.T → PT} (f : α → lf.T) (hf : ∀ x, ∃ u, nth (enc x) 0 = some u ∧ un2 lf u = some (f x)) (h0 : 0 ≤ n) (h1 : n < v.len)
    (hk : ∀ x, l[n.toNat]? = some x → kk (f x) w) : L.idx v.a n v.len 1 (fun a => L.load (.one lf) a kk) w := by
  have hl := r.len
  have hx : l[n.toNat]? = some l[n.toNat] := List.getElem?_eq_getElem (by omega)
  refine r.ix hE h0 (by omega) fun a ha => ?_
  obtain ⟨u, h1, h2⟩ := hf l[n.toNat]
  exact r.ld0 hE ha hx h1 h2 (hk _ hx)
theorem St.split3 {a b c : Seg} (h : St w0 ((a ++ (b ++ c)) :: E) w) : St w0 (a :: b :: c :: E) w := h.eq (by simp)
theorem St.split4 {a b c d : Seg} (h : St w0 ((a ++ (b ++ (c ++ d))) :: E) w) : St w0 (a :: b :: c :: d :: E) w := h.eq (by simp)
theorem St.glue3 {a b c : Seg} (h : St w0 (a :: b :: c :: E) w) : St w0 ((a ++ (b ++ c)) :: E) w := h.eq (by simp)
theorem St.glue4 {a b c d : Seg} (h : St w0 (a :: b :: c :: d :: E) w) : St w0 ((a ++ (b ++ (c ++ d))) :: E) w := h.eq (by simp)
theorem St.nil (h : St w0 E w) : St w0 ([] :: E) w := h.eq (by simp)
/-- put back as it was -/
theorem St.again {s : Seg} (i : Nat) (hi : nth E i = some s) (h : St w0 (s :: delN E i) w) : St w0 E w := St.setN_same' i hi (St.back i hi h)
/-- a part of, in whatever order -/
def Sbp {α : Type} (a b : List α) : Prop := ∃ r, (a ++ r).Perm b
theorem Sbp.refl {α : Type} (a : List α) : Sbp a a := ⟨[], by simp⟩
theorem Sbp.trans {α : Type} {a b c : List α} (h : Sbp a b) (g : Sbp b c) : Sbp a c := by
  obtain ⟨r, h⟩ := h; obtain ⟨s, g⟩ := g
  exact ⟨r ++ s, by rw [← List.append_assoc]; exact (h.append_right s).trans g⟩
theorem Sbp.perm {α : Type} {a b : List α} (h : a.Perm b) : Sbp a b := ⟨[], by simpa using h⟩
theorem Sbp.left {α : Type} {a b : List α} (x : List α) (h : Sbp a b) : Sbp (x ++ a) (x ++ b) := by
  obtain ⟨r, h⟩ := h; exact ⟨r, by rw [List.append_assoc]; exact h.append_left x⟩
theorem Sbp.right {α : Type} {a b : List α} (x : List α) (h : Sbp a b) : Sbp (a ++ x) (b ++ x) := by
  obtain ⟨r, h⟩ := h
  exact ⟨r, by rw [List.append_assoc]; exact (List.perm_append_comm.append_left a).trans (by rw [← List.append_assoc]; exact h.append_right x)⟩
theorem Sbp.behind {α : Type} (x a : List α) : Sbp a (x ++ a) := ⟨x, List.perm_append_comm⟩
theorem St.sub (h : St w0 E w) (hp : Sbp E'.flatten E.flatten) : St w0 E' w := by
  obtain ⟨r, hp⟩ := hp
  have h2 : St w0 (E' ++ [r]) w := h.perm (by simpa using hp.symm)
  refine ⟨h2.size, h2.old, h2.os, h2.out, h2.tape, fun x hx => h2.own x (by simp only [List.flatten_append, List.mem_append]; exact .inl hx), ?_, h2.fz⟩
  have := h2.nd
  simp only [List.flatten_append, List.map_append] at this
  exact (List.nodup_append.1 this).1
/-! ### things by their names, in a row -/
section
variable {κ τ : Type} [DecidableEq κ] (key : τ → κ)
def lput : List τ → τ → List τ
  | [], x => [x]
  | y :: l, x => if key y = key x then x :: l else y :: lput l x
def ldel : List τ → κ → List τ
  | [], _ => []
  | y :: l, k => if key y = k then l else y :: ldel l k
def lfind (l : List τ) (k : κ) : Option τ := l.find? fun x => decide (key x = k)
variable {key}
theorem lput_map {υ : Type} (f : τ → υ) (x : τ) : ∀ (l : List τ), (lput key l x).map (fun y => (key y, f y)) = mset (l.map fun y => (key y, f y)) (key x) (f x)
  | [] => rfl
  | y :: l => by
    simp only [lput, List.map_cons, mset]
    split
    · rename_i e; rfl
    · rw [List.map_cons, lput_map f x l]
theorem ldel_map {υ : Type} (f : τ → υ) (k : κ) : ∀ (l : List τ), (ldel key l k).map (fun y => (key y, f y)) = mdel (l.map fun y => (key y, f y)) k
  | [] => rfl
  | y :: l => by
    simp only [ldel, List.map_cons, mdel]
    split
    · rfl
    · rw [List.map_cons, ldel_map f k l]
theorem lfind_map {υ : Type} (f : τ → υ) (k : κ) : ∀ (l : List τ), mget (l.map fun y => (key y, f y)) k = (lfind key l k).map f
  | [] => rfl
  | y :: l => by
    have ih := lfind_map f k l
    simp only [List.map_cons, mget, lfind, List.find?_cons] at ih ⊢
    by_cases e : key y = k
    · simp [e]
    · simp only [e, if_false, decide_false]; exact ih
theorem lput_mem {x y : τ} : ∀ {l : List τ}, y ∈ lput key l x → y = x ∨ y ∈ l
  | [], h => by simp [lput] at h; exact .inl h
  | z :: l, h => by
    simp only [lput] at h
    split at h
    · rcases List.mem_cons.1 h with h | h
      · exact .inl h
      · exact .inr (List.mem_cons_of_mem _ h)
    · rcases List.mem_cons.1 h with h | h
      · exact .inr (h ▸ List.mem_cons_self ..)
      · rcases lput_mem h with h | h
        · exact .inl h
        · exact .inr (List.mem_cons_of_mem _ h)
theorem ldel_mem {k : κ} {y : τ} : ∀ {l : List τ}, y ∈ ldel key l k → y ∈ l
  | [], h => by simp [ldel] at h
  | z :: l, h => by
    simp only [ldel] at h
    split at h
    · exact List.mem_cons_of_mem _ h
    · rcases List.mem_cons.1 h with h | h
      · exact h ▸ List.mem_cons_self ..
      · exact List.mem_cons_of_mem _ (ldel_mem h)
theorem lput_sub (g : τ → Seg) (x : τ) : ∀ (l : List τ), Sbp ((lput key l x).map g).flatten (g x ++ (l.map g).flatten)
  | [] => by simp [Dm.lput]; exact .refl _
  | y :: l => by
    simp only [Dm.lput]
    split
    · simp only [List.map_cons, List.flatten_cons]
      exact (Sbp.behind (g y) (l.map g).flatten).left (g x)
    · simp only [List.map_cons, List.flatten_cons]
      refine ((lput_sub g x l).left (g y)).trans (.perm ?_)
      rw [← List.append_assoc, ← List.append_assoc]
      exact List.Perm.append_right _ List.perm_append_comm
theorem ldel_sub (g : τ → Seg) (k : κ) : ∀ (l : List τ), Sbp ((ldel key l k).map g).flatten (l.map g).flatten
  | [] => .refl _
  | y :: l => by
    simp only [Dm.ldel]
    split
    · simp only [List.map_cons, List.flatten_cons]; exact .behind ..
    · simp only [List.map_cons, List.flatten_cons]
      exact (ldel_sub g k l).left _
theorem St.lput {g : τ → Seg} {l : List τ} {x : τ} (h : St w0 (g x :: (l.map g).flatten :: E) w) : St w0 (((lput key l x).map g).flatten :: E) w := by
  refine h.sub ?_
  simp only [List.flatten_cons, ← List.append_assoc]
  exact (lput_sub g x l).right _
theorem St.ldel {g : τ → Seg} {l : List τ} {k : κ} (h : St w0 ((l.map g).flatten :: E) w) : St w0 (((ldel key l k).map g).flatten :: E) w := by
  refine h.sub ?_
  simp only [List.flatten_cons]
  exact (ldel_sub g k l).right _
theorem lfind_at {l : List τ} {k : κ} {x : τ} (h : lfind key l k = some x) : ∃ A B, l = A ++ x :: B ∧ key x = k := by
  have h1 := List.mem_of_find?_eq_some h
  have h2 := List.find?_some h
  obtain ⟨A, B, e⟩ := List.append_of_mem h1
  exact ⟨A, B, e, by simpa using h2⟩
end
end
end Go.Dm
