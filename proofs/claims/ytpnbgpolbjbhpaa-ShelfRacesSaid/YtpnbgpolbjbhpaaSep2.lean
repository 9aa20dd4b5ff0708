/- Rules for slices and segments (text Sep2). No conditions beyond those its theorems state. -/
import Derived.Test.YtpnbgpolbjbhpaaSep
import Derived.Laws.AppendOwn
set_option linter.all false
namespace Go.Dm
/-- a kind of slice elements -/
structure El (P : Program) (t e : TypeId) (size bytes : Nat) (z : Value) : Prop where
  sl : P.underlying t = some (.slice e)
  info : ∃ i, P.info? e = some i ∧ i.zero = some z ∧ i.size = size ∧ i.bytes = bytes
  zs : z.cells.size = size
  pos : 0 < size
theorem el_of {P : Program} {t e : TypeId} {size bytes : Nat} {z : Value} (h1 : P.underlying t = some (.slice e)) (h2 : (P.info? e).map (fun i => (i.zero, i.size, i.bytes)) = some (some z, size, bytes)) (h3 : z.cells.size = size) (h4 : 0 < size) : El P t e size bytes z := by
  refine ⟨h1, ?_, h3, h4⟩
  cases hi : P.info? e with
  | none => rw [hi] at h2; cases h2
  | some i =>
    rw [hi] at h2
    simp only [Option.map_some, Option.some.injEq, Prod.mk.injEq] at h2
    exact ⟨i, rfl, h2.1, h2.2.1, h2.2.2⟩
/-- a slice that owns its row -/
inductive Row (e : TypeId) (size : Nat) : Sl → List Value → Seg → Prop
  | nil : Row e size ⟨none, 0, 0⟩ [] []
  | mk (g n cap : Nat) (pre xs spare post : List Value) (h1 : xs.length = n * size) (h2 : xs.length + spare.length = cap * size) (h3 : n ≤ cap) (h4 : cap ≤ maxLen) :
      Row e size ⟨some ⟨g, pre.length, none⟩, n, cap⟩ xs [Cl g e (pre ++ (xs ++ (spare ++ post)))]
theorem Row.mk0 {e size : Nat} (g n cap : Nat) (xs spare : List Value) (h1 : xs.length = n * size) (h2 : xs.length + spare.length = cap * size) (h3 : n ≤ cap) (h4 : cap ≤ maxLen) :
    Row e size ⟨some ⟨g, 0, none⟩, n, cap⟩ xs [Cl g e (xs ++ spare)] := by
  have := Row.mk (e := e) g n cap [] xs spare [] h1 h2 h3 h4
  simpa using this
section
variable {w0 w w' : World} {E E' : List Seg} {P : Program}
theorem Row.len {e size : Nat} {v : Sl} {xs : List Value} {s : Seg} (h : Row e size v xs s) : xs.length = v.len * size := by
  cases h with
  | nil => simp
  | mk g n cap pre xs spare post h1 => exact h1
theorem nth_app_lt {α : Type} {A B : List α} {i : Nat} (h : i < A.length) : nth (A ++ B) i = nth A i := nth_append_lt h
theorem nth_app_add {α : Type} {A B : List α} {i : Nat} : nth (A ++ B) (A.length + i) = nth B i := by
  rw [nth_getElem?, nth_getElem?, List.getElem?_append_right (by omega)]; congr 1; omega
theorem nth_lt {α : Type} {l : List α} {i : Nat} {x : α} (h : nth l i = some x) : i < l.length := by
  rw [nth_getElem?] at h; exact (List.getElem?_eq_some_iff.1 h).1
theorem Row.cell {e size : Nat} {v : Sl} {xs : List Value} {s : Seg} (h : Row e size v xs s) (hst : St w0 E w) (i : Nat) (hi : nth E i = some s) {b : Addr} (hb : v.a = some b) {j : Nat} {u : Value} (hj : nth xs j = some u) : w.cell? (b.add j) = some u := by
  cases h with
  | nil => cases hb
  | mk g n cap pre xs spare post h1 =>
    cases hb
    rw [add_none]
    refine hst.cellOwn i hi ?_
    rw [nth_app_add, nth_app_lt (nth_lt hj)]; exact hj
/-- an element of an own slice -/
theorem Row.at {e size : Nat} {v : Sl} {xs : List Value} {s : Seg} (h : Row e size v xs s) (hst : St w0 E w) (i : Nat) (hi : nth E i = some s) {l : Lf} {n : Int} {kk : l.T → PT} {x : l.T} (hs : size = 1) (h0 : 0 ≤ n) (hj : nth xs n.toNat = some (l.val x))
    (hk : kk x w) : L.idx v.a n v.len 1 (fun a => L.load (.one l) a kk) w := by
  subst hs
  have hlt : n.toNat < xs.length := nth_lt hj
  have hlen := h.len
  have hlt2 : n < v.len := by omega
  cases hb : v.a with
  | none => cases h with
    | nil => simp at hlt
    | mk => cases hb
  | some b =>
    refine ix h0 hlt2 ⟨x, fun j c hc => ?_, hk⟩
    cases j with
    | zero => cases hc; rw [Nat.mul_one]; exact h.cell hst i hi hb hj
    | succ j => cases hc
theorem St.swap1 (h : St w0 E w) (i : Nat) {s : Seg} (hi : nth E i = some s) {x : Nat × Obj} (hx : St w0 ([x] :: E) w') : St w0 (setN E i [x]) w' := by
  obtain ⟨A, B, e1, e2, e3⟩ := nth_split hi
  subst e1
  rw [e2]
  have h1 := hx.del (A.length + 1) (s := s) (by rw [nth_getElem?]; simp)
  have : delN ([x] :: (A ++ s :: B)) (A.length + 1) = [x] :: (A ++ B) := by
    show [x] :: delN (A ++ s :: B) A.length = _
    congr 1
    clear h1 hx h e2 e3 hi
    induction A with
    | nil => rfl
    | cons y A ih => simp [delN, ih]
  rw [this] at h1
  refine h1.perm ?_
  simp only [List.flatten_append, List.flatten_cons]
  rw [← List.append_assoc, ← List.append_assoc]
  exact List.Perm.append_right _ List.perm_append_comm
theorem one_of {u : Value} : u.oneCell' = oneC u := by cases u <;> rfl
theorem toSl (v : Sl) : (E1.one .slice).val v = .slice v.a v.len v.cap := rfl
theorem run_append_room_at (w : World) (t ty e : TypeId) (i : TypeInfo) (ht : P.underlying t = some (.slice e)) (hi : P.info? e = some i)
    (g off sLen sCap : Nat) (cur : Array Value) (hg : w.heap[g]? = some (.cells cur e (0, 0)))
    (a : Addr) (m c : Nat) (news : List Value) (hl : news.length = m * i.size) (hnews : ∀ j u, news[j]? = some u → w.cell? (a.add j) = some u) (h1 : ∀ u ∈ news, u.oneCell' = true)
    (hroom : sLen + m ≤ sCap) (hfit : off + sLen * i.size + news.length ≤ cur.size) :
    (Builtin.append_ #[t, t] ty #[.slice (some ⟨g, off, none⟩) sLen sCap, .slice (some a) m c]).run P w =
      .ok (.slice (some ⟨g, off, none⟩) (sLen + m) sCap) (w.setRow g (cur.toList.take (off + sLen * i.size) ++ news ++ cur.toList.drop (off + sLen * i.size + news.length)).toArray) := by
  have hf := run_firstCells_some (P := P) w i.size m a m c news hl hnews
  have hst := run_storeCells_at P g (off + sLen * i.size) e news 0 cur w hg (by simpa using hfit) h1
  simp only [Nat.add_zero] at hst
  simp [Builtin.append_, run_underlying ht, sizeOf, typeInfo, hi, Builtin.lenOf, hroom, hf, add_none, hst]
/-- append of some elements that stand in memory -/
theorem app {t e ty size bytes : Nat} {z : Value} (L0 : El P t e size bytes z) (h : St w0 E w) (i : Nat) {v : Sl} {xs : List Value} {s : Seg} (hi : nth E i = some s) (hr : Row e size v xs s) {a : Addr} {m c : Nat} (news : List Value) (hl : news.length = m * size)
    (hnews : ∀ j u, news[j]? = some u → w.cell? (a.add j) = some u) (hone : ∀ u ∈ news, oneC u = true) (hm : 0 < m) (hb : (v.len + m) * bytes ≤ 140737488355328) (h63 : v.len + m ≤ maxLen) {k : Sl → PT}
    (hk : ∀ (v' : Sl) s' w', Row e size v' (xs ++ news) s' → v'.len = v.len + m → St w0 (setN E i s') w' → k v' w') :
    L.sem P (.one (.one .slice)) (Builtin.append_ #[t, t] ty #[.slice v.a v.len v.cap, .slice (some a) m c]) k w := by
  obtain ⟨ii, hi0, hiz, his, hib⟩ := L0.info
  have hpos := L0.pos
  have hzs := L0.zs
  have h63' : (m : Int) ≤ 9223372036854775807 ∧ ((v.len + m : Nat) : Int) ≤ 9223372036854775807 := by simp only [maxLen] at h63; omega
  have grow : ∀ (need old : Nat) (cs : List Value), cs.length = need * size → need ≤ maxLen →
      ∃ spare : List Value, cs.toArray ++ Builtin.zeroCells z.cells (grownCap w need old e - need) = (cs ++ spare).toArray ∧ cs.length + spare.length = grownCap w need old e * size := by
    intro need old cs hcs _
    refine ⟨(Builtin.zeroCells z.cells (grownCap w need old e - need)).toList, by apply Array.ext'; simp, ?_⟩
    have e0 : (Builtin.zeroCells z.cells (grownCap w need old e - need)).toList.length = (grownCap w need old e - need) * size := by rw [Array.length_toList, size_zeroCells, hzs]
    rw [e0, hcs, ← Nat.add_mul]
    congr 1
    have := grownCap_ge w need old e
    omega
  cases hr with
  | nil =>
    have hr := run_append_nil (P := P) w t ty e ii z L0.sl hi0 hiz a m c news (by rw [his]; exact hl) hnews hm h63'.1 (by simp only [Nat.zero_add] at hb; rw [hib]; omega)
    obtain ⟨spare, e1, e2⟩ := grow m 0 news hl (by simpa using h63)
    rw [e1] at hr
    refine ⟨⟨some ⟨w.heap.size, 0, none⟩, m, grownCap w m 0 e⟩, _, hr, hk _ [Cl w.heap.size e (news ++ spare)] _ ?_ (by simp) ?_⟩
    · rw [List.nil_append]
      exact Row.mk0 _ _ _ _ _ hl e2 (grownCap_ge w m 0 e) (grownCap_le_maxLen w m 0 e (by simpa using h63))
    · exact h.swap1 i hi ((h.drawn (n := w.drawn + 1)).alloc _ rfl)
  | mk g n cap pre _ spare post h1 h2 h3 h4 =>
    have hbc := (h.at i hi).2
    by_cases hroom : n + m ≤ cap
    · have hsp : news.length ≤ spare.length := by
        have := Nat.mul_le_mul_right size hroom
        rw [Nat.add_mul] at this
        omega
      have hr := run_append_room_at (P := P) w t ty e ii L0.sl hi0 g pre.length n cap (pre ++ (xs ++ (spare ++ post))).toArray hbc a m c news (by rw [his]; exact hl) hnews (fun u hu => by rw [one_of]; exact hone u hu) hroom
        (by rw [his, ← h1]; simp only [List.size_toArray, List.length_append]; omega)
      rw [his] at hr
      have ecs : (pre ++ (xs ++ (spare ++ post))).toArray.toList.take (pre.length + n * size) ++ news ++ (pre ++ (xs ++ (spare ++ post))).toArray.toList.drop (pre.length + n * size + news.length) = pre ++ ((xs ++ news) ++ (spare.drop news.length ++ post)) := by
        simp only [← h1]
        rw [show pre.length + xs.length = (pre ++ xs).length by simp, show pre ++ (xs ++ (spare ++ post)) = (pre ++ xs) ++ (spare ++ post) by simp, List.take_left, List.drop_append]
        rw [List.drop_of_length_le (by omega), List.drop_append_of_le_length (by omega)]
        have e0 : (pre ++ xs).length + news.length - (pre ++ xs).length = news.length := by omega
        rw [e0]
        simp
      rw [ecs] at hr
      refine ⟨⟨some ⟨g, pre.length, none⟩, n + m, cap⟩, _, hr, hk _ [Cl g e (pre ++ ((xs ++ news) ++ (spare.drop news.length ++ post)))] _ ?_ rfl ?_⟩
      · refine Row.mk g (n + m) cap pre _ _ _ (by rw [List.length_append, h1, hl, Nat.add_mul]) ?_ hroom h4
        simp only [List.length_append, List.length_drop]
        omega
      · refine h.upd i hi (by simp [World.setRow]) (setRow_heap w g _ _ e _ hbc) (fun k hk => setRow_other w g k _ hk) rfl rfl rfl rfl
    · have hholds : ∀ j u, xs[j]? = some u → w.cell? ((⟨g, pre.length, none⟩ : Addr).add j) = some u := fun j u hj => by
        rw [add_none]
        refine h.cellOwn i hi ?_
        rw [nth_app_add, nth_app_lt (List.getElem?_eq_some_iff.1 hj).1, nth_getElem?]; exact hj
      have hr := run_append_grow (P := P) w t ty e ii z L0.sl hi0 hiz ⟨g, pre.length, none⟩ n cap xs (by rw [his]; exact h1) hholds a m c news (by rw [his]; exact hl) hnews (by omega) h63'.2 (by rw [hib]; exact growslice_fits (by omega) hb)
      obtain ⟨sp, e1, e2⟩ := grow (n + m) cap (xs ++ news) (by rw [List.length_append, h1, hl, Nat.add_mul]) h63
      have e3 : xs.toArray ++ news.toArray = (xs ++ news).toArray := by simp
      rw [e3, e1] at hr
      refine ⟨⟨some ⟨w.heap.size, 0, none⟩, n + m, grownCap w (n + m) cap e⟩, _, hr, hk _ [Cl w.heap.size e ((xs ++ news) ++ sp)] _ ?_ rfl ?_⟩
      · exact Row.mk0 _ _ _ _ _ (by rw [List.length_append, h1, hl, Nat.add_mul]) e2 (grownCap_ge ..) (grownCap_le_maxLen _ _ _ _ h63)
      · exact h.swap1 i hi ((h.drawn (n := w.drawn + 1)).alloc _ rfl)
end
end Go.Dm
namespace Go.Dm
theorem nth_setN {α : Type} : ∀ {l : List α} {i : Nat} {x y : α}, nth l i = some x → nth (setN l i y) i = some y
  | [], _, _, _, h => by cases h
  | _ :: _, 0, _, _, _ => rfl
  | _ :: l, i + 1, _, _, h => nth_setN (l := l) h
theorem setN_setN {α : Type} : ∀ {l : List α} {i : Nat} {x y : α}, setN (setN l i x) i y = setN l i y
  | [], _, _, _ => rfl
  | _ :: _, 0, _, _ => rfl
  | z :: l, i + 1, x, y => congrArg (z :: ·) (setN_setN (l := l))
theorem nth_setN_ne {α : Type} : ∀ {l : List α} {i j : Nat} {y : α}, i ≠ j → nth (setN l i y) j = nth l j
  | [], _, _, _, _ => rfl
  | _ :: _, 0, 0, _, h => absurd rfl h
  | _ :: _, 0, _ + 1, _, _ => rfl
  | _ :: _, _ + 1, 0, _, _ => rfl
  | _ :: l, i + 1, j + 1, _, h => nth_setN_ne (l := l) fun e => h (by rw [e])
end Go.Dm
namespace Go.Dm
section
variable {w0 w : World} {E : List Seg}
theorem delN_setN {α : Type} : ∀ {l : List α} {i : Nat} {y : α}, delN (setN l i y) i = delN l i
  | [], _, _ => rfl
  | _ :: _, 0, _ => rfl
  | x :: l, i + 1, y => congrArg (x :: ·) (delN_setN (l := l))
/-- put back in its place -/
theorem St.back {s s' : Seg} (i : Nat) (hi : nth E i = some s) (h : St w0 (s' :: delN E i) w) : St w0 (setN E i s') w := by
  obtain ⟨A, B, e1, e2, e3⟩ := nth_split hi
  subst e1
  rw [e2]
  rw [e3] at h
  refine h.perm ?_
  simp only [List.flatten_append, List.flatten_cons]
  rw [← List.append_assoc, ← List.append_assoc]
  exact List.Perm.append_right _ List.perm_append_comm
theorem St.split {s1 s2 : Seg} (h : St w0 ((s1 ++ s2) :: E) w) : St w0 (s1 :: s2 :: E) w := h.eq (by simp)
theorem St.glue {s1 s2 : Seg} (h : St w0 (s1 :: s2 :: E) w) : St w0 ((s1 ++ s2) :: E) w := h.eq (by simp)
end
end Go.Dm
namespace Go.Dm
theorem FCall.mono {P : Program} {fv : Value} {args : List Value} {w : World} {R R' : Value → World → Prop} (h : FCall P fv args w R) (hm : ∀ v w', R v w' → R' v w') : FCall P fv args w R' := by
  unfold FCall at *
  split at h
  · exact ⟨h.1, h.2.mono fun _ _ ⟨v, he, hv⟩ => ⟨v, he, hm _ _ hv⟩⟩
  · obtain ⟨h1, h2, r, h3, h4, h5⟩ := h
    refine ⟨h1, h2, r, h3, h4, ?_⟩
    unfold RoundW at *
    exact h5.mono fun _ _ ⟨v, he, hv⟩ => ⟨v, he, hm _ _ hv⟩
  · exact h
end Go.Dm
namespace Go.Dm
theorem setN_self {α : Type} : ∀ {l : List α} {i : Nat} {x : α}, nth l i = some x → setN l i x = l
  | [], _, _, _ => rfl
  | _ :: _, 0, _, h => by cases h; rfl
  | y :: l, i + 1, _, h => congrArg (y :: ·) (setN_self (l := l) h)
end Go.Dm
