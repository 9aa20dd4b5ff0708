/- Reading, appending, cloning and making slices (text Sep5). No conditions beyond those its theorems state. -/
import Derived.Test.YtpnbgpolbjbhpaaSep4
import Derived.Laws.MakeOwn
set_option linter.all false
namespace Go.Dm
section
variable {w0 w w' : World} {E E' : List Seg} {P : Program} {α : Type} {enc : α → List Value} {e size bytes : Nat} {v v2 : Sl} {l l2 : List α} {s : Seg}
/-- what may be read through a slice -/
structure Rd (w : World) (enc : α → List Value) (v : Sl) (l : List α) : Prop where
  len : v.len = l.length
  rd : ∀ j u, nth (fl enc l) j = some u → ∃ a, v.a = some a ∧ w.cell? (a.add j) = some u
theorem Rd.nil {n : Nat} : Rd w enc ⟨none, 0, n⟩ [] := ⟨rfl, fun j u h => by simp [fl, nth] at h⟩
theorem Rw.rd (hE : Enc enc size) (h : St w0 E w) (k : Nat) (hi : nth E k = some s) (hr : Rw enc e size v l s) : Rd w enc v l := by
  refine ⟨Rw.len hE hr, fun j u hj => ?_⟩
  cases hb : v.a with
  | none =>
    unfold Rw at hr
    generalize fl enc l = cs at *
    cases hr with
    | nil => cases hj
    | mk => cases hb
  | some b => exact ⟨b, rfl, hr.cell h k hi hb hj⟩
/-- what was there before -/
structure Old (w0 : World) (enc : α → List Value) (v : Sl) (l : List α) : Prop where
  rd : Rd w0 enc v l
theorem Old.now (o : Old w0 enc v l) (h : St w0 E w) : Rd w enc v l := ⟨o.rd.len, fun j u hj => let ⟨a, h1, h2⟩ := o.rd.rd j u hj; ⟨a, h1, h.cell h2⟩⟩
theorem Rd.ix (r : Rd w' enc v l) {n : Int} {kk : Addr → PT} (hE : Enc enc size) (h0 : 0 ≤ n) (h1 : n.toNat < l.length) (hk : ∀ a, ElA v size n.toNat a → kk a w) : L.idx v.a n v.len size kk w := by
  have hlen := r.len
  have hlt : n.toNat * size + 0 < (fl enc l).length := by
    rw [fl_len hE]
    have := Nat.mul_le_mul_right size (show n.toNat + 1 ≤ l.length by omega)
    rw [Nat.add_mul] at this
    have := hE.pos
    omega
  obtain ⟨a, ha, -⟩ := r.rd (n.toNat * size + 0) _ (by rw [nth_getElem?]; exact List.getElem?_eq_getElem hlt)
  rw [ha]
  exact Go.Dm.ix h0 (by omega) (hk _ ⟨a, ha, rfl⟩)
theorem Rd.ld (r : Rd w enc v l) (hE : Enc enc size) {i : Nat} {a : Addr} (ha : ElA v size i a) {x : α} (hx : l[i]? = some x) {f : Nat} {lf : Lf} {kk : lf.T → PT} {u : Value} {y : lf.T}
    (hu : nth (enc x) f = some u) (hy : un2 lf u = some y) (hk : kk y w) : L.load (.one lf) (a.add f) kk w := by
  obtain ⟨a0, hv, rfl⟩ := ha
  refine ⟨y, fun j c hc => ?_, hk⟩
  cases j with
  | zero =>
    cases hc
    rw [add_zero', add_add]
    obtain ⟨b, hb, hc⟩ := r.rd _ _ (fl_nth hE hx hu)
    rw [hv] at hb; cases hb
    rw [un2_val hy]; exact hc
  | succ j => cases hc
theorem Rd.ld0 (r : Rd w enc v l) (hE : Enc enc size) {i : Nat} {a : Addr} (ha : ElA v size i a) {x : α} (hx : l[i]? = some x) {lf : Lf} {kk : lf.T → PT} {u : Value} {y : lf.T}
    (hu : nth (enc x) 0 = some u) (hy : un2 lf u = some y) (hk : kk y w) : L.load (.one lf) a kk w := by
  have := r.ld hE ha hx hu hy hk
  rw [add_zero'] at this; exact this
theorem Rd.lda (r : Rd w enc v l) (hE : Enc enc size) {i : Nat} {a : Addr} (ha : ElA v size i a) {x : α} (hx : l[i]? = some x) {ls : List Lf} {kk : HT ls → PT} {y : HT ls}
    (hy : un2s ls (enc x) = some y) (hk : kk y w) : L.load (.agg ls) a kk w := by
  obtain ⟨a0, hv, rfl⟩ := ha
  refine ⟨y, fun j c hc => ?_, hk⟩
  rw [add_add]
  obtain ⟨b, hb, hc⟩ := r.rd _ _ (fl_nth hE hx (un2s_val hy j c hc))
  rw [hv] at hb; cases hb
  exact hc
theorem St.fin (h : St w0 E w) : St w0 [] w := ⟨h.size, h.old, h.os, h.out, h.tape, fun x hx => by simp at hx, by simp, h.fz⟩
theorem St.setN_same' (i : Nat) (hi : nth E i = some s) (h : St w0 (setN E i s) w) : St w0 E w := by rwa [setN_self hi] at h
theorem alts2 {x y : PT} (h1 : x w) (h2 : y w) : L.alts [x, y] w := ⟨h1, h2, trivial⟩
theorem alts3 {x y z : PT} (h1 : x w) (h2 : y w) (h3 : z w) : L.alts [x, y, z] w := ⟨h1, h2, h3, trivial⟩
theorem law_of {f : FuncId} {args : List Value} {F : (Value → PT) → PT} (hc : ∀ {K : Value → PT} {w : World}, F K w → Calls P f args.toArray w fun e w' => ∃ v, e = .returned v ∧ K v w') (h : F (fun v w' => v = .bool true ∧ St w0 [] w') w0) :
    Calls P f args.toArray w0 fun e w' => e = .returned (.bool true) ∧ St w0 [] w' :=
  (hc h).mono fun _ _ ⟨_, he, hv, hs⟩ => ⟨by rw [he, hv], hs⟩
theorem old1 {α : Type} {enc : α → List Value} {v : Sl} {l : List α} (o : Old w0 enc v l) (hE : Enc enc 1) (h : St w0 E w) {n : Int} {lf : Lf} {kk : lf.T → PT} (f : α → lf.T) (hf : ∀ x, ∃ u, nth (enc x) 0 = some u ∧ un2 lf u = some (f x)) (h0 : 0 ≤ n) (h1 : n < v.len)
    (hk : ∀ x, l[n.toNat]? = some x → kk (f x) w) : L.idx v.a n v.len 1 (fun a => L.load (.one lf) a kk) w := by
  have r := o.now h
  have hl := r.len
  have hx : l[n.toNat]? = some l[n.toNat] := List.getElem?_eq_getElem (by omega)
  refine r.ix hE h0 (by omega) fun a ha => ?_
  obtain ⟨u, h1, h2⟩ := hf l[n.toNat]
  exact r.ld0 hE ha hx h1 h2 (hk _ hx)
/-- what may be read in whatever world fits -/
def RdE (w0 : World) (E : List Seg) (enc : α → List Value) (v : Sl) (l : List α) : Prop := ∀ w, St w0 E w → Rd w enc v l
theorem Rw.re (hE : Enc enc size) (k : Nat) (hi : nth E k = some s) (hr : Rw enc e size v l s) : RdE w0 E enc v l := fun _ h => Rw.rd hE h k hi hr
theorem Old.re (o : Old w0 enc v l) : RdE w0 E enc v l := fun _ h => o.now h
/-- l[i:j] -/
theorem Rd.cut (r : Rd w enc v l) (hE : Enc enc size) (i j : Nat) (hij : i ≤ j) (hj : j ≤ l.length) (hc : v.len ≤ v.cap) (c : Nat) : Rd w enc ⟨if v.cap = i then v.a else Option.map (fun a : Addr => a.add (i * size)) v.a, j - i, c⟩ ((l.take j).drop i) := by
  refine ⟨by simp; omega, fun k u hk => ?_⟩
  have hk' : nth (fl enc l) (i * size + k) = some u := by
    have e1 : fl enc l = fl enc (l.take i) ++ (fl enc ((l.take j).drop i) ++ fl enc (l.drop j)) := by
      rw [← fl_app, ← fl_app]
      congr 1
      have : l.take i = (l.take j).take i := by rw [List.take_take]; congr 1; omega
      rw [this, ← List.append_assoc, List.take_append_drop, List.take_append_drop]
    have e2 : (fl enc (l.take i)).length = i * size := by rw [fl_len hE, List.length_take]; congr 1; omega
    rw [e1, ← e2, nth_app_add, nth_app_lt (nth_lt hk)]; exact hk
  obtain ⟨a, ha, hcell⟩ := r.rd _ _ hk'
  refine ⟨a.add (i * size), ?_, by rw [add_add]; exact hcell⟩
  have hlt := nth_lt hk
  rw [fl_len hE] at hlt
  have h0 : 0 < ((l.take j).drop i).length := by
    rcases Nat.eq_zero_or_pos ((l.take j).drop i).length with h | h
    · rw [h] at hlt; omega
    · exact h
  simp at h0
  have := r.len
  simp only
  rw [if_neg (by omega), ha]; rfl
theorem run_append0 {t ty : TypeId} (ht : P.underlying t = some (.slice e)) {i : TypeInfo} (hi : P.info? e = some i) (base : Option Addr) (n c : Nat) (hn : n ≤ c) (x : Option Addr) (m : Nat) :
    (Builtin.append_ #[t, t] ty #[.slice base n c, .slice x 0 m]).run P w = .ok (.slice base n c) w := by
  have hf : (Builtin.firstCells i.size 0 (.slice x 0 m)).run P w = .ok #[] w := by
    cases x with
    | none => exact run_firstCells_none ..
    | some b => exact run_firstCells_some (P := P) w i.size 0 b 0 m [] (by simp) (by simp)
  cases base with
  | none => simp [Builtin.append_, run_underlying ht, sizeOf, typeInfo, hi, Builtin.lenOf, hn, hf]
  | some a => simp [Builtin.append_, run_underlying ht, sizeOf, typeInfo, hi, Builtin.lenOf, hn, hf, storeCells]
/-- append of what may be read -/
theorem Rw.appRd {t ty : TypeId} {z : Value} (hE : Enc enc size) (L0 : El P t e size bytes z) (h : St w0 E w) (k : Nat) (hi : nth E k = some s) (hr : Rw enc e size v l s) (r : Rd w enc v2 l2)
    (hb : (l.length + l2.length) * bytes ≤ 140737488355328) (h63 : l.length + l2.length < 1000000000000) {kk : Sl → PT}
    (hk : ∀ (v' : Sl) s' w', Rw enc e size v' (l ++ l2) s' → (l2 = [] → v' = v) → (l2 ≠ [] → v'.a ≠ none) → St w0 (setN E k s') w' → kk v' w') :
    L.sem P (.one (.one .slice)) (Builtin.append_ #[t, t] ty #[.slice v.a v.len v.cap, .slice v2.a v2.len v2.cap]) kk w := by
  have hlen := Rw.len hE hr
  have hlen2 := r.len
  cases hl : l2 with
  | nil =>
    subst hl
    obtain ⟨ii, hi0, -, -, -⟩ := L0.info
    simp only [List.length_nil] at hlen2
    rw [hlen2]
    refine ⟨v, w, run_append0 L0.sl hi0 _ _ _ hr.cap.1 _ _, hk v s w (by rw [List.append_nil]; exact hr) (fun _ => rfl) (fun h => (h rfl).elim) (by rw [setN_self hi]; exact h)⟩
  | cons x l3 =>
    have hpos : 0 < l2.length := by rw [hl]; simp
    have hlt : 0 < (fl enc l2).length := by rw [fl_len hE]; exact Nat.mul_pos hpos hE.pos
    obtain ⟨a, ha, -⟩ := r.rd 0 _ (by rw [nth_getElem?]; exact List.getElem?_eq_getElem hlt)
    rw [ha, hlen2]
    refine Go.Dm.app L0 h k hi hr (a := a) (m := l2.length) (fl enc l2) (fl_len hE _) (fun j u hu => ?_) (fun u hu => ?_) hpos (by rw [hlen]; exact hb) (by rw [hlen]; simp only [maxLen]; omega) fun v' s' w' hr' hl' h => hk v' s' w' ?_ (fun h => ?_) (fun _ => ?_) h
    · obtain ⟨b, hb, hc⟩ := r.rd j u (by rw [nth_getElem?]; exact hu)
      rw [ha] at hb; cases hb; exact hc
    · simp only [fl, List.mem_flatMap] at hu
      obtain ⟨y, -, hu⟩ := hu
      exact oneAll_mem (hE.one y) u hu
    · unfold Rw; rw [fl_app]; exact hr'
    · rw [hl] at h; cases h
    · intro ha0
      generalize fl enc l ++ fl enc l2 = cs at hr'
      cases hr' with
      | nil => simp only at hl'; omega
      | mk => cases ha0
theorem nwc (h : St w0 E w) {cs : List Value} {T : TypeId} {k : Nat → PT} (hk : ∀ b w', (∀ a x, w.cell? a = some x → w'.cell? a = some x) → St w0 ([Cl b T cs] :: E) w' → k b w') : L.new cs T k w := by
  refine hk _ _ (fun a x hx => ?_) (h.alloc _ rfl)
  unfold World.cell? at *
  cases hq : w.heap[a.block]? with
  | none => rw [hq] at hx; cases hx
  | some o =>
    have hlt := (Array.getElem?_eq_some_iff.1 hq).1
    have e : (w.alloc (.cells cs.toArray T)).heap[a.block]? = w.heap[a.block]? := by
      simp only [World.alloc]; rw [Array.getElem?_push_lt hlt, Array.getElem?_eq_getElem hlt]
    rw [e]; exact hx
/-- slices.Clone, at any kind of elements -/
theorem clone_of {t : TypeId} {z : Value} (hE : Enc enc size) (L0 : El P t e size bytes z) (h : St w0 E w) (r : Rd w enc v l) (hb : l.length * bytes ≤ 140737488355328) (h63 : l.length < 1000000000000) (h64 : v.a = none → l = []) {K : Value → PT}
    (hk : ∀ (v' : Sl) s' w', Rw enc e size v' l s' → (v'.a = none ↔ v.a = none) → St w0 (s' :: E) w' → K (SlV v') w') :
    (L.ite ((v.a).isNone) (K (.slice none 0 0)) <| L.new [] e fun b1 =>
      L.sem P (.one (.one .slice)) (Builtin.append_ #[t, t] t #[.slice (some ⟨b1, 0, none⟩) 0 0, .slice v.a v.len v.cap]) fun (s2 : Sl) => K (.slice s2.a s2.len s2.cap)) w := by
  refine it (fun hn => ?_) (fun hn => ?_)
  · have hn : v.a = none := by simpa using hn
    have := h64 hn
    subst this
    exact hk ⟨none, 0, 0⟩ [] w Rw.nil (by simp [hn]) (h.eq (by simp))
  · have hn : v.a ≠ none := fun h => by rw [h] at hn; cases hn
    refine nwc h fun b w2 hcell h2 => ?_
    have r2 : Rd w2 enc v l := ⟨r.len, fun j u hj => let ⟨a, h1, h3⟩ := r.rd j u hj; ⟨a, h1, hcell _ _ h3⟩⟩
    have hr0 : Rw enc e size ⟨some ⟨b, 0, none⟩, 0, 0⟩ [] [Cl b e []] := Rw.lit b [] hE (by simp [fl]) rfl (by simp [maxLen])
    refine Rw.appRd hE L0 h2 0 rfl hr0 r2 (by simpa using hb) (by simpa using h63) fun v' s' w' hr' h1 h2 h => hk v' s' w' hr' ?_ h
    refine ⟨fun h0 => ?_, fun h0 => (hn h0).elim⟩
    cases l with
    | nil => rw [h1 rfl] at h0; cases h0
    | cons x l => exact (h2 (by simp) h0).elim
/-- make([]T, 0, n) -/
theorem mk0 {t : TypeId} {z : Value} (L0 : El P t e size bytes z) (hE : Enc enc size) (h : St w0 E w) {n : Int} (h0 : 0 ≤ n) (hn : n * bytes ≤ 140737488355328) (hn2 : n < 1000000000000) {kk : Sl → PT}
    (hk : ∀ (v : Sl) s w', Rw enc e size v [] s → St w0 (s :: E) w' → kk v w') : L.sem P (.one (.one .slice)) (Instr.makeSlice t (.int .i64 0) (.int .i64 n)) kk w := by
  obtain ⟨ii, hi0, hiz, his, hib⟩ := L0.info
  have hr := run_make (P := P) w t e ii z L0.sl hi0 hiz .i64 .i64 0 n (Int.le_refl _) h0 (by rw [hib, Int.mul_comm]; omega) (by omega)
  refine ⟨⟨some ⟨w.heap.size, 0, none⟩, 0, n.toNat⟩, _, hr, hk _ _ _ ?_ (h.alloc _ rfl)⟩
  have := Rw.made (e := e) (enc := enc) w.heap.size 0 n.toNat [] (madeCells z.cells (n.toNat * ii.size)).toList hE rfl (by rw [Array.length_toList, size_madeCells, his]; omega) (by omega) (by simp only [maxLen]; omega)
  simpa [Cl, fl] using this
/-- make([]T, n) -/
theorem mkN {t : TypeId} {z : Value} (L0 : El P t e size bytes z) (hE : Enc enc size) (x : α) (hx : enc x = z.cells.toList) (h : St w0 E w) {n : Int} (h0 : 0 ≤ n) (hn : n * bytes ≤ 140737488355328) (hn2 : n < 1000000000000) {kk : Sl → PT}
    (hk : ∀ (v : Sl) s w', Rw enc e size v (List.replicate n.toNat x) s → St w0 (s :: E) w' → kk v w') : L.sem P (.one (.one .slice)) (Instr.makeSlice t (.int .i64 n) (.int .i64 n)) kk w := by
  obtain ⟨ii, hi0, hiz, his, hib⟩ := L0.info
  have hr := run_make (P := P) w t e ii z L0.sl hi0 hiz .i64 .i64 n n h0 (Int.le_refl _) (by rw [hib, Int.mul_comm]; omega) (by omega)
  refine ⟨⟨some ⟨w.heap.size, 0, none⟩, n.toNat, n.toNat⟩, _, hr, hk _ _ _ ?_ (h.alloc _ rfl)⟩
  have e1 : (madeCells z.cells (n.toNat * ii.size)).toList = fl enc (List.replicate n.toNat x) := by
    have hzs := L0.zs
    apply List.ext_getElem?
    intro i
    have hl1 : (madeCells z.cells (n.toNat * ii.size)).toList.length = n.toNat * size := by rw [Array.length_toList, size_madeCells, his]
    have hl2 : (fl enc (List.replicate n.toNat x)).length = n.toNat * size := by rw [fl_len hE, List.length_replicate]
    by_cases hlt : i < n.toNat * size
    · have hm : i % size < size := Nat.mod_lt _ hE.pos
      have hd : i / size < n.toNat := Nat.div_lt_of_lt_mul (by rw [Nat.mul_comm]; exact hlt)
      have e0 : i = i / size * size + i % size := by rw [Nat.mul_comm]; exact (Nat.div_add_mod i size).symm
      have hlx : i % size < (enc x).length := by rw [hE.len]; exact hm
      have h2 := fl_nth hE (l := List.replicate n.toNat x) (i := i / size) (x := x) (f := i % size) (u := (enc x)[i % size]) (by simp [hd]) (by rw [nth_getElem?]; exact List.getElem?_eq_getElem hlx)
      rw [← e0, nth_getElem?] at h2
      rw [h2]
      rw [Array.getElem?_toList]
      unfold madeCells
      have : i < n.toNat * ii.size := by rw [his]; exact hlt
      have hzl : i % size < z.cells.size := by rw [hzs]; exact hm
      have hx2 : (enc x)[i % size] = z.cells[i % size] := by
        have : (enc x)[i % size]? = z.cells[i % size]? := by rw [hx, Array.getElem?_toList]
        rw [List.getElem?_eq_getElem hlx, Array.getElem?_eq_getElem hzl] at this
        exact Option.some.inj this
      simp [this, hzs, hx2, getElem!_def, Array.getElem?_eq_getElem hzl]
    · rw [List.getElem?_eq_none (by omega), List.getElem?_eq_none (by omega)]
  have := Rw.lit (e := e) w.heap.size (List.replicate n.toNat x) (cs := (madeCells z.cells (n.toNat * ii.size)).toList) (n := n.toNat) hE e1 (by simp) (by simp only [maxLen]; omega)
  simpa [Cl] using this
end
end Go.Dm
