/- Who owns which blocks of memory, and the rules of the steps (text Sep). No conditions beyond those its theorems state. -/
import Derived.Test.YtpnbgpolbjbhpaaDen18
import Derived.RowKit3
set_option linter.all false
namespace Go.Dm
/-! ### who owns what -/
abbrev Seg := List (Nat × Obj)
def unfz (_ : Obj) : Bool := true
structure St (w0 : World) (E : List Seg) (w : World) : Prop where
  size : w0.heap.size ≤ w.heap.size
  old : ∀ b, b < w0.heap.size → w.heap[b]? = w0.heap[b]?
  os : w.os = w0.os
  out : w.output = w0.output
  tape : w.tape = w0.tape
  own : ∀ x ∈ E.flatten, w0.heap.size ≤ x.1 ∧ w.heap[x.1]? = some x.2
  nd : (E.flatten.map (·.1)).Nodup
  fz : ∀ b o, w0.heap.size ≤ b → w.heap[b]? = some o → unfz o = true
def Cl (b : Nat) (T : TypeId) (cs : List Value) : Nat × Obj := (b, .cells cs.toArray T)
def setN {α : Type} : List α → Nat → α → List α
  | [], _, _ => []
  | _ :: l, 0, y => y :: l
  | x :: l, n + 1, y => x :: setN l n y
def delN {α : Type} : List α → Nat → List α
  | [], _ => []
  | _ :: l, 0 => l
  | x :: l, n + 1 => x :: delN l n
theorem nth_split {α : Type} : ∀ {l : List α} {i : Nat} {x : α}, nth l i = some x → ∃ A B, l = A ++ x :: B ∧ (∀ y, setN l i y = A ++ y :: B) ∧ delN l i = A ++ B
  | [], _, _, h => by cases h
  | y :: l, 0, x, h => by cases h; exact ⟨[], l, rfl, fun _ => rfl, rfl⟩
  | y :: l, i + 1, x, h => by
    obtain ⟨A, B, h1, h2, h3⟩ := nth_split (l := l) h
    refine ⟨y :: A, B, by rw [h1]; rfl, fun z => ?_, ?_⟩
    · simp only [setN, h2]; rfl
    · simp only [delN, h3]; rfl
section
variable {w0 w w' : World} {E E' : List Seg}
theorem St.init (w : World) : St w [] w := ⟨Nat.le_refl _, fun _ _ => rfl, rfl, rfl, rfl, fun x hx => by simp at hx, by simp, fun b o hb h => by rw [Array.getElem?_eq_none hb] at h; cases h⟩
theorem St.eq (h : St w0 E w) (he : E'.flatten = E.flatten) : St w0 E' w := ⟨h.size, h.old, h.os, h.out, h.tape, by rw [he]; exact h.own, by rw [he]; exact h.nd, h.fz⟩
theorem St.perm (h : St w0 E w) (hp : E.flatten.Perm E'.flatten) : St w0 E' w :=
  ⟨h.size, h.old, h.os, h.out, h.tape, fun x hx => h.own x (hp.mem_iff.2 hx), (hp.map (·.1)).nodup_iff.1 h.nd, h.fz⟩
theorem St.del (h : St w0 E w) (i : Nat) {s : Seg} (hi : nth E i = some s) : St w0 (delN E i) w := by
  obtain ⟨A, B, h1, h2, h3⟩ := nth_split hi
  subst h1
  rw [h3]
  refine ⟨h.size, h.old, h.os, h.out, h.tape, fun x hx => h.own x ?_, ?_, h.fz⟩
  · simp only [List.flatten_append, List.flatten_cons, List.mem_append] at hx ⊢
    rcases hx with hx | hx
    · exact .inl hx
    · exact .inr (.inr hx)
  · have := h.nd
    simp only [List.flatten_append, List.flatten_cons, List.map_append] at this ⊢
    exact this.sublist (List.Sublist.append_left (List.sublist_append_right _ _) _)
theorem St.tail {s : Seg} (h : St w0 (s :: E) w) : St w0 E w := h.del 0 rfl
/-- the i-th in front -/
theorem St.front (h : St w0 E w) (i : Nat) {s : Seg} (hi : nth E i = some s) : St w0 (s :: delN E i) w := by
  obtain ⟨A, B, h1, h2, h3⟩ := nth_split hi
  subst h1
  rw [h3]
  refine h.perm ?_
  simp only [List.flatten_append, List.flatten_cons]
  rw [← List.append_assoc, ← List.append_assoc]
  exact List.Perm.append_right _ List.perm_append_comm
theorem St.has (h : St w0 E w) (i : Nat) {s : Seg} (hi : nth E i = some s) {x : Nat × Obj} (hx : x ∈ s) : w0.heap.size ≤ x.1 ∧ w.heap[x.1]? = some x.2 := by
  obtain ⟨A, B, h1, -, -⟩ := nth_split hi
  subst h1
  exact h.own x (by simp only [List.flatten_append, List.flatten_cons, List.mem_append]; exact .inr (.inl hx))
theorem St.at (h : St w0 E w) (i : Nat) {b : Nat} {o : Obj} (hi : nth E i = some [(b, o)]) : w0.heap.size ≤ b ∧ w.heap[b]? = some o := h.has i hi (x := (b, o)) (by simp)
/-- one block turned -/
theorem St.upd (h : St w0 E w) (i : Nat) {b : Nat} {o o' : Obj} (hi : nth E i = some [(b, o)]) (hs : w'.heap.size = w.heap.size) (hb : w'.heap[b]? = some o') (ho : ∀ k, k ≠ b → w'.heap[k]? = w.heap[k]?)
    (hz : unfz o' = true) (h1 : w'.os = w.os) (h2 : w'.output = w.output) (h3 : w'.tape = w.tape) : St w0 (setN E i [(b, o')]) w' := by
  obtain ⟨hge, _⟩ := h.at i hi
  obtain ⟨A, B, e1, e2, -⟩ := nth_split hi
  subst e1
  rw [e2]
  have nd := h.nd
  simp only [List.flatten_append, List.flatten_cons, List.map_append, List.map_cons, List.map_nil] at nd
  refine ⟨by rw [hs]; exact h.size, fun k hk => by rw [ho k (by omega)]; exact h.old k hk, h1.trans h.os, h2.trans h.out, h3.trans h.tape, fun x hx => ?_, ?_, fun k q hk hq => ?_⟩
  · simp only [List.flatten_append, List.flatten_cons, List.mem_append, List.mem_singleton] at hx
    have key : x ∈ A.flatten ∨ x ∈ B.flatten → x.1 ≠ b := by
      intro hx e
      have hm : x.1 ∈ A.flatten.map (·.1) ∨ x.1 ∈ B.flatten.map (·.1) := hx.imp (List.mem_map_of_mem) (List.mem_map_of_mem)
      rw [e] at hm
      rw [List.nodup_append] at nd
      obtain ⟨-, n2, n3⟩ := nd
      rcases hm with hm | hm
      · exact n3 b hm b (by simp) rfl
      · rw [List.nodup_append] at n2
        exact n2.2.2 b (by simp) b hm rfl
    rcases hx with hx | rfl | hx
    · have := h.own x (by simp only [List.flatten_append, List.flatten_cons, List.mem_append]; exact .inl hx)
      rw [ho _ (key (.inl hx))]; exact this
    · exact ⟨hge, hb⟩
    · have := h.own x (by simp only [List.flatten_append, List.flatten_cons, List.mem_append]; exact .inr (.inr hx))
      rw [ho _ (key (.inr hx))]; exact this
  · simpa only [List.flatten_append, List.flatten_cons, List.map_append, List.map_cons, List.map_nil] using nd
  · by_cases e : k = b
    · subst e; rw [hb] at hq; cases hq; exact hz
    · rw [ho k e] at hq; exact h.fz k q hk hq
theorem St.alloc (h : St w0 E w) (o : Obj) (hz : unfz o = true) : St w0 ([(w.heap.size, o)] :: E) (w.alloc o) := by
  have hlt : ∀ x ∈ E.flatten, x.1 < w.heap.size := fun x hx => (Array.getElem?_eq_some_iff.1 (h.own x hx).2).1
  have hget : ∀ k, k < w.heap.size → (w.alloc o).heap[k]? = w.heap[k]? := fun k hk => by simp only [World.alloc]; rw [Array.getElem?_push_lt hk, Array.getElem?_eq_getElem hk]
  refine ⟨by rw [World.size_alloc]; exact Nat.le_succ_of_le h.size, fun b hb => by rw [hget b (Nat.lt_of_lt_of_le hb h.size)]; exact h.old b hb, h.os, h.out, h.tape, fun x hx => ?_, ?_, fun k q hk hq => ?_⟩
  · simp only [List.flatten_cons, List.mem_append, List.mem_singleton] at hx
    rcases hx with rfl | hx
    · exact ⟨h.size, by show (w.heap.push o)[w.heap.size]? = some o; simp⟩
    · rw [hget _ (hlt x hx)]; exact h.own x hx
  · simp only [List.flatten_cons, List.map_append, List.map_cons, List.map_nil, List.singleton_append, List.nodup_cons]
    refine ⟨fun hm => ?_, h.nd⟩
    obtain ⟨x, hx, e⟩ := List.mem_map.1 hm
    have := hlt x hx; omega
  · by_cases e : k < w.heap.size
    · rw [hget k e] at hq; exact h.fz k q hk hq
    · have e2 : (w.alloc o).heap[k]? = (w.heap.push o)[k]? := rfl
      rw [e2] at hq
      by_cases e3 : k = w.heap.size
      · subst e3; simp at hq; subst hq; exact hz
      · rw [Array.getElem?_eq_none (by simp; omega)] at hq; cases hq
theorem St.drawn (h : St w0 E w) {n : Nat} : St w0 E { w with drawn := n } := ⟨h.size, h.old, h.os, h.out, h.tape, h.own, h.nd, h.fz⟩
theorem St.ne (h : St w0 E w) {b : Nat} {o : Obj} (i : Nat) (hi : nth E i = some [(b, o)]) (hb : b < w0.heap.size) : False := by
  have := (h.at i hi).1; omega
theorem St.cell (h : St w0 E w) {a : Addr} {v : Value} (hc : w0.cell? a = some v) : w.cell? a = some v := by
  have : a.block < w0.heap.size := by
    unfold World.cell? at hc
    cases hh : w0.heap[a.block]? with
    | none => rw [hh] at hc; cases hc
    | some o => exact (Array.getElem?_eq_some_iff.1 hh).1
  unfold World.cell? at *
  rw [h.old _ this]; exact hc
theorem add_none (b o n : Nat) : (⟨b, o, none⟩ : Addr).add n = ⟨b, o + n, none⟩ := by
  unfold Addr.add
  by_cases h : n = 0
  · subst h; rfl
  · rw [if_neg h]
theorem St.cellOwn (h : St w0 E w) (i : Nat) {b T o : Nat} {cs : List Value} {v : Value} (hi : nth E i = some [Cl b T cs]) (hv : nth cs o = some v) : w.cell? ⟨b, o, none⟩ = some v := by
  have := (h.at i hi).2
  simp only [World.cell?, this, Option.isSome]
  rw [nth_getElem?] at hv
  simpa using hv
/-! ### steps -/
variable {P : Program}
theorem ld (h : St w0 E w) {l : Lf} {b o T : Nat} {cs : List Value} {k : l.T → PT} (i : Nat) (hi : nth E i = some [Cl b T cs]) {x : l.T} (hv : nth cs o = some (l.val x)) (hk : k x w) : L.load (.one l) ⟨b, o, none⟩ k w := by
  refine ⟨x, fun j c hj => ?_, hk⟩
  cases j with
  | zero => cases hj; exact h.cellOwn i hi hv
  | succ j => cases hj
/-- from what was there before -/
theorem ldOld (h : St w0 E w) {l : Lf} {a : Addr} {k : l.T → PT} {x : l.T} (hv : w0.cell? a = some (l.val x)) (hk : k x w) : L.load (.one l) a k w := by
  refine ⟨x, fun j c hj => ?_, hk⟩
  cases j with
  | zero => cases hj; exact h.cell hv
  | succ j => cases hj
theorem ck (h : St w0 E w) {b o T : Nat} {cs : List Value} {k : PT} {v : Value} (i : Nat) (hi : nth E i = some [Cl b T cs]) (hv : nth cs o = some v) (hk : k w) : L.chk ⟨b, o, none⟩ [v] k w := by
  refine ⟨fun j c hj => ?_, hk⟩
  cases j with
  | zero => cases hj; exact h.cellOwn i hi hv
  | succ j => cases hj
theorem setN_set {α : Type} : ∀ (cs : List α) (o : Nat) (v : α), setN cs o v = cs.set o v
  | [], _, _ => rfl
  | _ :: _, 0, _ => rfl
  | _ :: cs, o + 1, v => by simp [setN, setN_set cs]
theorem st1 (h : St w0 E w) {b o T : Nat} {cs : List Value} {k : PT} {u v : Value} (i : Nat) (hi : nth E i = some [Cl b T cs]) (hu : nth cs o = some u) (hv : oneC v = true)
    (hk : ∀ w', St w0 (setN E i [Cl b T (setN cs o v)]) w' → k w') : L.store ⟨b, o, none⟩ [v] k w := by
  obtain ⟨-, hb⟩ := h.at i hi
  refine ⟨fun j c hj => ?_, hk _ ?_⟩
  · cases j with
    | zero =>
      cases hj
      refine ⟨hv, by rw [add_zero', h.cellOwn i hi hu]; rfl, ?_⟩
      simp [add_zero', World.frozen?, hb]
    | succ j => cases hj
  · show St w0 _ (w.setCell (Addr.add ⟨b, o, none⟩ 0) v)
    rw [add_zero']
    refine h.upd i hi (by simp) ?_ ?_ rfl rfl rfl rfl
    · simp only [World.setCell, Array.getElem?_modify, if_pos, hb, Option.map_some]
      simp [setN_set]
    · intro k hk
      simp only [World.setCell, Array.getElem?_modify]
      rw [if_neg (fun e => hk e.symm)]
theorem nw (h : St w0 E w) {cs : List Value} {T : TypeId} {k : Nat → PT} (hk : ∀ b w', St w0 ([Cl b T cs] :: E) w' → k b w') : L.new cs T k w := hk _ _ (h.alloc _ rfl)
theorem dr (h : St w0 E w) {k : PT} (hk : ∀ w', St w0 E w' → k w') : L.draw k w := hk _ h.drawn
theorem nn {k : Addr → PT} {a : Addr} (hk : k a w) : L.nonnil (some a) k w := ⟨a, rfl, hk⟩
theorem gd {φ : Prop} {k : PT} (h : φ) (hk : k w) : L.guard φ k w := ⟨h, hk⟩
theorem it {b : Bool} {x y : PT} (h1 : b = true → x w) (h2 : b = false → y w) : L.ite b x y w := ⟨h1, h2⟩
theorem itT {b : Bool} {x y : PT} (hb : b = true) (h1 : x w) : L.ite b x y w := ⟨fun _ => h1, fun h => (by rw [hb] at h; cases h)⟩
theorem itF {b : Bool} {x y : PT} (hb : b = false) (h1 : y w) : L.ite b x y w := ⟨fun h => (by rw [hb] at h; cases h), fun _ => h1⟩
theorem ix {a : Addr} {i : Int} {len sz : Nat} {k : Addr → PT} (h0 : 0 ≤ i) (h1 : i < len) (hk : k (a.add (i.toNat * sz)) w) : L.idx (some a) i len sz k w := ⟨a, rfl, h0, h1, hk⟩
/-- a call, out of the callee's contract -/
theorem call_of {f : FuncId} {args : List Value} {r : RT} {k : r.T → PT} {F : (Value → PT) → PT} (hc : ∀ {K : Value → PT} {w : World}, F K w → Calls P f args.toArray w fun e w' => ∃ v, e = .returned v ∧ K v w')
    (h : F (fun v w' => ∃ x, v = r.val x ∧ k x w') w) : L.call P f args r k w :=
  (hc h).mono fun _ _ ⟨v, he, x, hv, hk⟩ => ⟨x, by rw [he, hv], hk⟩
theorem join_of {Y : Type} {X : (Y → PT) → PT} {k : Y → PT} (Q : Y → World → Prop) (hx : ∀ k', (∀ y w', Q y w' → k' y w') → X k' w) (hk : ∀ y w', Q y w' → k y w') : L.join X k w := hx k hk
theorem loop_of {Y : Type} {y0 : Y} {body : Y → (Y → PT) → PT} (Inv : Nat → Y → World → Prop) (n : Nat) (h0 : Inv n y0 w) (hb : ∀ n y w', Inv n y w' → ∀ again : Y → PT, (∀ m y' w'', m < n → Inv m y' w'' → again y' w'') → body y again w') : L.loop y0 body w :=
  ⟨Inv, ⟨n, h0⟩, fun n y w' hi => hb n y w' hi _ fun m y' w'' hm hi' => ⟨m, hm, hi'⟩⟩
/-! ### a range over a function -/
def Rec (l : Nat) (lp : Loop) (st : LoopState) (pd : Option Code) : Nat × Obj := (l, .loop { lp with state := st, pending := pd })
def DfM (d : Nat) : Nat × Obj := (d, .deferred (some []))
theorem rng (h : St w0 E w) {fv : Value} {es : List E1} {body : Nat → TT es → (Value → PT) → PT} {K : List Nat → Option Code → PT}
    (hk : ∀ (d l : Nat) (lp : Loop) (w1 : World), St w0 ([Rec l lp .ready none] :: [DfM d] :: E) w1 →
      (∀ y st pd w' R, w'.heap[l]? = some (Rec l lp st pd).2 → body l y R w' → FCall P (.func (.yield l) #[] #[]) (TV es y) w' R) →
      FFCall P fv [.func (.yield l) #[] #[]] w1 fun _ w2 => ∃ jump w3, (Instr.endLoop l).run P w2 = .ok jump w3 ∧ K [d] jump w3) : L.range P none fv es body K w := by
  intro lp h1 h2 hy
  have e : lp = { lp with state := .ready, pending := none } := by cases lp; simp at h1 h2; subst h1 h2; rfl
  refine hk w.heap.size (w.heap.size + 1) lp _ ?_ hy
  have := (h.alloc (.deferred (some [])) rfl).alloc (.loop lp) rfl
  rw [World.size_alloc] at this
  show St w0 ([(_, .loop { lp with state := .ready, pending := none })] :: [(_, .deferred (some []))] :: E) _
  rw [← e]; exact this
theorem bgn (h : St w0 E w) {l : Nat} {lp : Loop} {pd : Option Code} {k : PT} (i : Nat) (hi : nth E i = some [Rec l lp .ready pd]) (hk : ∀ w', St w0 (setN E i [Rec l lp .busy pd]) w' → k w') : L.begin P l k w := by
  obtain ⟨-, hb⟩ := h.at i hi
  have hlt := (Array.getElem?_eq_some_iff.1 hb).1
  refine ⟨_, run_beginRound hb rfl, hk _ ?_⟩
  exact h.upd i hi (by simp [World.putObj]) (World.putObj_heap_same hlt) (fun k hk => World.putObj_heap_other hk) rfl rfl rfl rfl
theorem endN (h : St w0 E w) {l : Nat} {lp : Loop} {st : LoopState} {pd : Option Code} {R : Value → PT} (i : Nat) (hi : nth E i = some [Rec l lp st pd]) (hk : ∀ w', St w0 (setN E i [Rec l lp .ready none]) w' → R (.bool true) w') : L.endRound P l none R w := by
  obtain ⟨-, hb⟩ := h.at i hi
  have hlt := (Array.getElem?_eq_some_iff.1 hb).1
  refine ⟨_, _, run_endRound none hb, hk _ ?_⟩
  exact h.upd i hi (by simp [World.putObj]) (World.putObj_heap_same hlt) (fun k hk => World.putObj_heap_other hk) rfl rfl rfl rfl
theorem endJ (h : St w0 E w) {l : Nat} {lp : Loop} {st : LoopState} {pd : Option Code} {j : Code} {R : Value → PT} (i : Nat) (hi : nth E i = some [Rec l lp st pd]) (hk : ∀ w', St w0 (setN E i [Rec l lp .done (some j)]) w' → R (.bool false) w') : L.endRound P l (some j) R w := by
  obtain ⟨-, hb⟩ := h.at i hi
  have hlt := (Array.getElem?_eq_some_iff.1 hb).1
  refine ⟨_, _, run_endRound (some j) hb, hk _ ?_⟩
  exact h.upd i hi (by simp [World.putObj]) (World.putObj_heap_same hlt) (fun k hk => World.putObj_heap_other hk) rfl rfl rfl rfl
theorem endL (h : St w0 E w) {l : Nat} {lp : Loop} {st : LoopState} {pd : Option Code} {k : Option Code → PT} (i : Nat) (hi : nth E i = some [Rec l lp st pd]) (hs : st ≠ .busy) (hk : ∀ w', St w0 (delN E i) w' → k pd w') :
    ∃ jump w3, (Instr.endLoop l).run P w = .ok jump w3 ∧ k jump w3 := by
  obtain ⟨-, hb⟩ := h.at i hi
  have hlt := (Array.getElem?_eq_some_iff.1 hb).1
  refine ⟨_, _, run_endLoop hb hs, hk _ ?_⟩
  have := h.upd (w' := w.putObj l (.loop { { lp with state := st, pending := pd } with state := .exhausted })) i hi (by simp [World.putObj]) (World.putObj_heap_same hlt) (fun k hk => World.putObj_heap_other hk) rfl rfl rfl rfl
  obtain ⟨A, B, e1, e2, e3⟩ := nth_split hi
  rw [e2] at this
  rw [e3]
  have h2 := this.del A.length (s := [Rec l lp .exhausted pd]) (by rw [nth_getElem?]; simp [Rec])
  have : delN (A ++ [Rec l lp .exhausted pd] :: B) A.length = A ++ B := by
    clear h2 this e1 e2 e3
    induction A with
    | nil => rfl
    | cons x A ih => simp [delN, ih]
  rw [← this]; exact h2
theorem um (h : St w0 E w) {d : Nat} {ds : List Nat} {k : PT} (i : Nat) (hi : nth E i = some [DfM d]) (hk : ∀ w', St w0 (setN E i [(d, .deferred none)]) w' → L.unmark P ds k w') : L.unmark P (d :: ds) k w := by
  obtain ⟨-, hb⟩ := h.at i hi
  have hlt := (Array.getElem?_eq_some_iff.1 hb).1
  refine ⟨_, run_takeDeferred hb, hk _ ?_⟩
  exact h.upd i hi (by simp [World.putObj]) (World.putObj_heap_same hlt) (fun k hk => World.putObj_heap_other hk) rfl rfl rfl rfl
/-! ### the end of a law -/
theorem St.kept (h : St w0 E w) : w0.keptBut w (fun _ => False) := by
  refine ⟨h.os, h.out, fun i hi => ?_⟩
  rw [h.old i hi]
  split
  · rename_i h1 h2
    rw [h1] at h2; cases h2
    exact ⟨rfl, rfl, rfl, fun _ _ => rfl⟩
  · rename_i h1 h2
    rw [h1] at h2; cases h2
    exact .inr ⟨rfl, rfl⟩
  · rfl
end
end Go.Dm
