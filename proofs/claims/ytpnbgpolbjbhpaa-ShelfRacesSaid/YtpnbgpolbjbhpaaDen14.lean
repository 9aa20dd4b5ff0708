/- The reading of code as predicates, and its soundness (text Den14). No conditions beyond those its theorems state. -/
import Derived.Test.YtpnbgpolbjbhpaaDen13
set_option linter.all false
namespace Go.Dm
section
variable {P : Program} {D : Tb} {w w' : World} {a : AT} {c cv : Act} {o : Oper} {K : AT → PT} {Q : Exit → Act → World → Prop} {ro : Option Nat} {ops : Array Oper}

/-- what is used of 'drawOk' -/
structure DrawOk (D : Tb) (ops : Array Oper) : Prop where
  lt : ∀ (i : Nat) (o : Oper), ops[i]? = some o → ∀ e ∈ o.after.toList, Region.binds .any e = true → e.on < i
  nd : ∀ (i : Nat) (o : Oper), ops[i]? = some o → (∀ x, o.op ≠ .defer x) ∧ ∀ cs b, o.op ≠ .select cs b
  rd : ∀ (i : Nat) (o : Oper), ops[i]? = some o → opKind D o.op = 1 → o.dst.isSome = true ∧ memN i (guardsOf ops.toList) = false
  own : ∀ (i : Nat) (o : Oper) (d : Nat), ops[i]? = some o → o.dst = some d → opKind D o.op < 2 → d ∉ readsOf ops.toList o
  low : ∀ (i : Nat) (o : Oper) (d j : Nat) (u : Oper), ops[i]? = some o → o.dst = some d → ops[j]? = some u → i ≠ j → opKind D o.op < 2 → (d ∈ readsOf ops.toList u → (maskAt (masks ops.toList []) j).testBit i = true) ∧ u.dst ≠ some d
  high : ∀ (i : Nat) (o : Oper) (d j : Nat) (u : Oper), ops[i]? = some o → o.dst = some d → ops[j]? = some u → i ≠ j → ¬ opKind D o.op < 2 → d ∈ readsOf ops.toList u → (maskAt (masks ops.toList []) j).testBit i = true ∨ (maskAt (masks ops.toList []) i).testBit j = true
theorem drawOk_of (h : drawOk D ops.toList (masks ops.toList []) = true) : DrawOk D ops := by
  have main : ∀ (i : Nat) (o : Oper), ops[i]? = some o → (o.after.toList.all fun e => !Region.binds .any e || decide (e.on < i)) = true ∧
      (match o.op with | .defer _ | .select _ _ => false | _ => true) = true ∧
      (decide (opKind D o.op ≠ 1) || (o.dst.isSome && !memN i (guardsOf ops.toList))) = true ∧
      (match o.dst with
      | none => true
      | some d => (decide (opKind D o.op = 2) || !memN d (readsOf ops.toList o)) && (number 0 ops.toList).all fun y => i == y.1 ||
        (if opKind D o.op < 2 then (!memN d (readsOf ops.toList y.2) || (maskAt (masks ops.toList []) y.1).testBit i) && !(y.2.dst == some d)
         else (!memN d (readsOf ops.toList y.2) || (maskAt (masks ops.toList []) y.1).testBit i || (maskAt (masks ops.toList []) i).testBit y.1))) = true := by
    intro i o ho
    have hm : (i, o) ∈ number 0 ops.toList := by
      have := mem_number (k := 0) (l := ops.toList) (i := i) (o := o) (by rw [Array.getElem?_toList]; exact ho)
      rw [Nat.zero_add] at this; exact this
    have := List.all_eq_true.1 h (i, o) hm
    simp only [Bool.and_eq_true] at this
    exact ⟨this.1.1.1, this.1.1.2, this.1.2, this.2⟩
  have numb : ∀ (j : Nat) (u : Oper), ops[j]? = some u → (j, u) ∈ number 0 ops.toList := fun j u hu => by
    have := mem_number (k := 0) (l := ops.toList) (i := j) (o := u) (by rw [Array.getElem?_toList]; exact hu)
    rw [Nat.zero_add] at this; exact this
  refine ⟨fun i o ho e he hb => ?_, fun i o ho => ?_, fun i o ho hk => ?_, fun i o d ho hd hk => ?_, fun i o d j u ho hd hu hij hk => ?_, fun i o d j u ho hd hu hij hk hmem => ?_⟩
  · have := List.all_eq_true.1 (main i o ho).1 e he
    rw [hb] at this; simpa using this
  · have := (main i o ho).2.1
    refine ⟨fun x hx => ?_, fun cs b hx => ?_⟩ <;> rw [hx] at this <;> cases this
  · have := (main i o ho).2.2.1
    rw [hk] at this; simpa using this
  · have := (main i o ho).2.2.2
    rw [hd] at this
    simp only [Bool.and_eq_true, Bool.or_eq_true, decide_eq_true_eq, Bool.not_eq_true'] at this
    rcases this.1 with h | h
    · omega
    · intro hm; rw [memN_iff.2 hm] at h; cases h
  · have := (main i o ho).2.2.2
    rw [hd] at this
    simp only [Bool.and_eq_true] at this
    have := List.all_eq_true.1 this.2 (j, u) (numb j u hu)
    simp only [if_pos hk, Bool.or_eq_true, beq_iff_eq, Bool.and_eq_true, Bool.not_eq_true'] at this
    rcases this with e | ⟨h1, h2⟩
    · exact absurd e hij
    · refine ⟨fun hm => ?_, fun e => ?_⟩
      · rcases h1 with h1 | h1
        · rw [memN_iff.2 hm] at h1; cases h1
        · exact h1
      · rw [e] at h2; simp at h2
  · have := (main i o ho).2.2.2
    rw [hd] at this
    simp only [Bool.and_eq_true] at this
    have := List.all_eq_true.1 this.2 (j, u) (numb j u hu)
    simp only [if_neg hk, Bool.or_eq_true, beq_iff_eq, Bool.not_eq_true'] at this
    rcases this with e | ((h1 | h1) | h1)
    · exact absurd e hij
    · rw [memN_iff.2 hmem] at h1; cases h1
    · exact .inl h1
    · exact .inr h1

def Pend (P : Program) (D : Tb) (ops : Array Oper) (C : List (Nat × Chk)) (cv : Act) (i : Nat) (o : Oper) : Prop :=
  opKind D o.op < 2 ∧ ∀ w', (∀ ch, (i, ch) ∈ C → chkHolds P ch w') → ∀ c' : Act, (∀ t ∈ readsOf ops.toList o, c'.tmps[t]? = cv.tmps[t]?) →
    (Region.wanted o (yielded ops c'.tmps) = true ∧ ∃ v, (execOp c'.eval o).run P w' = .ok (.value v) w' ∧ ∀ d, o.dst = some d → cv.tmps[d]? = some v) ∨
    (Region.wanted o (yielded ops c'.tmps) = false ∧ ∀ d, o.dst = some d → cv.tmps[d]? = some undef)
structure Inv (P : Program) (D : Tb) (ops : Array Oper) (N : Nat) (ds : List Deferred) (listed : Array Bool) (c : Act) (w : World) (S : List (Nat × Oper)) (C : List (Nat × Chk)) (a : AT) (cv : Act) : Prop where
  mem : ∀ x ∈ S, ops[x.1]? = some x.2 ∧ listed.getD x.1 true = false
  size : listed.size = ops.size
  closL : ∀ (i : Nat) (o : Oper), ops[i]? = some o → listed.getD i false = true → ∀ e ∈ o.after.toList, Region.binds .any e = true → listed.getD e.on false = true
  closV : ∀ (i : Nat) (o : Oper), ops[i]? = some o → (∀ x ∈ S, x.1 ≠ i) → ∀ e ∈ o.after.toList, Region.binds .any e = true → ∀ x ∈ S, x.1 ≠ e.on
  ok : ok a cv
  szc : c.tmps.size = N
  szv : cv.tmps.size = N
  dfc : c.defers = ds
  dfv : cv.defers = ds
  pend : ∀ (i : Nat) (o : Oper), ops[i]? = some o → (∀ x ∈ S, x.1 ≠ i) → listed.getD i true = false → Pend P D ops C cv i o
  chk : ∀ (i : Nat) (ch : Chk), (i, ch) ∈ C → listed.getD i true = false → chkHolds P ch w
  agree : ∀ t, (∀ (i : Nat) (o : Oper), ops[i]? = some o → (∀ x ∈ S, x.1 ≠ i) → listed.getD i true = false → o.dst ≠ some t) → c.tmps[t]? = cv.tmps[t]?
theorem mem_without {S : List (Nat × Oper)} {i : Nat} {x : Nat × Oper} : x ∈ without S i ↔ x ∈ S ∧ x.1 ≠ i := by
  simp [without, List.mem_filter]
theorem availIn_iff {S : List (Nat × Oper)} : availIn S o = true ↔ ∀ e ∈ o.after.toList, Region.binds .any e = true → ∀ x ∈ S, x.1 ≠ e.on := by
  unfold availIn
  rw [List.all_eq_true]
  constructor
  · intro h e he hb x hx hxe
    have := h e he
    rw [hb] at this
    simp only [Bool.not_true, Bool.false_or, Bool.not_eq_true'] at this
    have h2 := List.any_eq_false.1 this x hx
    simp [hxe] at h2
  · intro h e he
    cases hb : Region.binds .any e with
    | false => rfl
    | true =>
      simp only [Bool.not_true, Bool.false_or, Bool.not_eq_true']
      refine List.any_eq_false.2 fun x hx => ?_
      have := h e he hb x hx
      simpa using this
theorem firstAvail_some {S0 : List (Nat × Oper)} : ∀ {S : List (Nat × Oper)} {x : Nat × Oper}, firstAvail D S0 S = some x → x ∈ S ∧ availIn S0 x.2 = true ∧ opKind D x.2.op < 2
  | [], x, h => by cases h
  | y :: S, x, h => by
    simp only [firstAvail] at h
    split at h
    · rename_i hc
      cases h
      simp only [Bool.and_eq_true, decide_eq_true_eq] at hc
      exact ⟨List.mem_cons_self .., hc⟩
    · obtain ⟨h1, h2⟩ := firstAvail_some h
      exact ⟨List.mem_cons_of_mem _ h1, h2⟩
theorem firstAvail_none {S0 : List (Nat × Oper)} : ∀ {S : List (Nat × Oper)}, firstAvail D S0 S = none → ∀ x ∈ S, availIn S0 x.2 = true → ¬ opKind D x.2.op < 2
  | [], h, x, hx => by cases hx
  | y :: S, h, x, hx => by
    simp only [firstAvail] at h
    split at h
    · cases h
    · rename_i hc
      intro ha hk
      cases hx with
      | head => exact hc (by simp [ha, hk])
      | tail _ hx => exact firstAvail_none h x hx ha hk
theorem getD_true {l : Array Bool} {i : Nat} (h : l.getD i true = false) : l.getD i false = false := by
  rw [Array.getD_eq_getD_getElem?] at *
  cases hl : l[i]? with
  | none => rw [hl] at h; cases h
  | some b => rw [hl] at h; simpa using h
/-- of who comes ahead of an operation that has been done in thought, none is left -/
theorem Inv.anc {N : Nat} {ds : List Deferred} {listed : Array Bool} {S : List (Nat × Oper)} {C : List (Nat × Chk)} (I : Inv P D ops N ds listed c w S C a cv) {i r : Nat} {o : Oper} (ho : ops[i]? = some o) (hi : ∀ x ∈ S, x.1 ≠ i)
    (hr : (maskAt (masks ops.toList []) i).testBit r = true) : ∀ x ∈ S, x.1 ≠ r :=
  mask_anc (Z := fun j => ∀ x ∈ S, x.1 ≠ j) (fun j u hu hj e he hb => I.closV j u hu hj e he hb) (fun u hu e he hb => I.closV i u hu hi e he hb) hr
theorem Inv.ancL {N : Nat} {ds : List Deferred} {listed : Array Bool} {S : List (Nat × Oper)} {C : List (Nat × Chk)} (I : Inv P D ops N ds listed c w S C a cv) {i r : Nat}
    (hi : ∀ u, ops[i]? = some u → ∀ e ∈ u.after.toList, Region.binds .any e = true → listed.getD e.on false = true) (hr : (maskAt (masks ops.toList []) i).testBit r = true) : listed.getD r false = true :=
  mask_anc (Z := fun j => listed.getD j false = true) (fun j u hu hj e he hb => I.closL j u hu hj e he hb) hi hr
theorem put_get_ne {d t : Nat} {dst : Option Tmp} {v : Value} (h : dst ≠ some t) : (c.put dst v).tmps[t]? = c.tmps[t]? := by
  cases dst with
  | none => rfl
  | some d =>
    have : d ≠ t := fun e => h (by rw [e])
    simp [Act.put, Array.getElem?_setIfInBounds, this]
theorem put_get_eq {t : Nat} {dst : Option Tmp} {v : Value} (h : dst = some t) (hlt : t < c.tmps.size) : (c.put dst v).tmps[t]? = some v := by
  subst h; simp [Act.put, Array.getElem?_setIfInBounds, hlt]
/-- a step in thought: an operation that only reads -/
theorem think_step (T : TbOk P D) (B : DrawOk D ops) {N : Nat} {ds : List Deferred} {listed : Array Bool} {S : List (Nat × Oper)} {C : List (Nat × Chk)} {gs : GS} (hgs : gs.l = guardsOf ops.toList) {k : Nat} {Kx : AT → List (Nat × Chk) → PT}
    (hN : ∀ (i : Nat) (o : Oper), ops[i]? = some o → ∀ t, o.dst = some t → t < N)
    (I : Inv P D ops N ds listed c w S C a cv) (hk : (k, o) ∈ S) (hav : availIn S o = true) (hkind : opKind D o.op < 2)
    (h : denG P D ops.toList gs k o a (fun a' => Kx a' (addChk D k o a a' C)) w) :
    ∃ a' C' cv', Kx a' C' w ∧ Inv P D ops N ds listed c w (without S k) C' a' cv' := by
  have ho := (I.mem _ hk).1
  have hun := (I.mem _ hk).2
  have hd : Dst o cv := fun t ht => by rw [I.szv]; exact hN k o ho t ht
  -- the frame of the new state
  have build : ∀ (a' : AT) (C' : List (Nat × Chk)) (v : Value), ok a' (cv.put o.dst v) → (∀ x ∈ C, x ∈ C') → (∀ (i : Nat) (ch : Chk), (i, ch) ∈ C' → (i, ch) ∈ C ∨ chkHolds P ch w) →
      Pend P D ops C' (cv.put o.dst v) k o → Inv P D ops N ds listed c w (without S k) C' a' (cv.put o.dst v) := by
    intro a' C' v hok hC hC' hp
    refine ⟨fun x hx => I.mem x (mem_without.1 hx).1, I.size, I.closL, ?_, hok, I.szc, by simp [I.szv], I.dfc, by simp [I.dfv], ?_, ?_, ?_⟩
    · intro i u hu hi e he hb x hx
      by_cases hik : i = k
      · subst hik
        rw [ho] at hu; cases hu
        exact availIn_iff.1 hav e he hb x (mem_without.1 hx).1
      · refine I.closV i u hu (fun y hy hyi => hi y (mem_without.2 ⟨hy, fun e => hik (hyi.symm.trans e)⟩) hyi) e he hb x (mem_without.1 hx).1
    · intro i u hu hi hl
      by_cases hik : i = k
      · subst hik; rw [ho] at hu; cases hu; exact hp
      · have hiS : ∀ y ∈ S, y.1 ≠ i := fun y hy hyi => hi y (mem_without.2 ⟨hy, fun e => hik (hyi.symm.trans e)⟩) hyi
        obtain ⟨hki, hpi⟩ := I.pend i u hu hiS hl
        refine ⟨hki, fun w' hch c' hc' => ?_⟩
        have hreads : ∀ t ∈ readsOf ops.toList u, c'.tmps[t]? = cv.tmps[t]? := by
          intro t ht
          rw [hc' t ht]
          refine put_get_ne (d := 0) fun e => ?_
          have := (B.low k o t i u ho e hu (fun e => hik e.symm) hkind).1 ht
          exact I.anc hu hiS this _ hk rfl
        have hdst : ∀ d, u.dst = some d → (cv.put o.dst v).tmps[d]? = cv.tmps[d]? := fun d hdd => put_get_ne (d := 0) fun e =>
          (B.low k o d i u ho e hu (fun e => hik e.symm) hkind).2 hdd
        rcases hpi w' (fun ch hx => hch ch (hC _ hx)) c' hreads with ⟨hw, y, hr, hy⟩ | ⟨hw, hy⟩
        · exact .inl ⟨hw, y, hr, fun d hdd => by rw [hdst d hdd]; exact hy d hdd⟩
        · exact .inr ⟨hw, fun d hdd => by rw [hdst d hdd]; exact hy d hdd⟩
    · intro i ch hx hl
      rcases hC' i ch hx with h | h
      · exact I.chk i ch h hl
      · exact h
    · intro t ht
      have h1 : o.dst ≠ some t := ht k o ho (fun x hx => (mem_without.1 hx).2) hun
      rw [put_get_ne (d := 0) h1]
      refine I.agree t fun i u hu hi hl => ht i u hu (fun x hx => hi x (mem_without.1 hx).1) hl
  have ownr : ∀ c' : Act, ∀ v, (∀ t ∈ readsOf ops.toList o, c'.tmps[t]? = (cv.put o.dst v).tmps[t]?) → ∀ t ∈ readsOf ops.toList o, c'.tmps[t]? = cv.tmps[t]? := by
    intro c' v h t ht
    rw [h t ht]
    exact put_get_ne (d := 0) fun e => B.own k o t ho e hkind ht
  -- the guard
  have run : denOp P D o a (splitAt gs k o fun a' => Kx a' (addChk D k o a a' C)) w → Region.wanted o (yielded ops cv.tmps) = true → ∃ a' C' cv', Kx a' C' w ∧ Inv P D ops N ds listed c w (without S k) C' a' cv' := by
    intro hden hwant
    obtain ⟨s, h1, h2, h3⟩ := virt T hkind (fun h => (B.rd k o ho h).1) hd I.ok hden
    have hok1 : ok (a.put o.dst (some s)) (cv.put o.dst s.toV) := ok_put I.ok hd (fun x hx => by cases hx; rfl)
    have hpend : ∀ C', (∀ ch, opKind D o.op = 1 → mkChk o a (a.put o.dst (some s)) = some ch → (k, ch) ∈ C') → Pend P D ops C' (cv.put o.dst s.toV) k o := by
      intro C' hC'
      refine ⟨hkind, fun w' hch c' hc' => .inl ?_⟩
      have hr' := ownr c' _ hc'
      obtain ⟨v, hr, hv⟩ := h3 w' (fun h ch hm => hch ch (hC' ch h hm))
      refine ⟨by rw [wanted_agree hr']; exact hwant, v, by rw [eval_agree (B.nd k o ho).2 hr']; exact hr, fun d hdd => ?_⟩
      rw [put_get_eq hdd (hd d hdd), hv d hdd]
    by_cases hk1 : opKind D o.op = 1
    · have hg := (B.rd k o ho hk1).2
      unfold splitAt at h1
      rw [hgs, hg] at h1
      simp only [cond] at h1
      refine ⟨_, _, _, h1, build _ _ _ hok1 ?_ ?_ (hpend _ ?_)⟩
      · intro x hx
        unfold addChk
        rw [if_pos hk1]
        split
        · exact List.mem_cons_of_mem _ hx
        · exact hx
      · intro i ch hx
        unfold addChk at hx
        rw [if_pos hk1] at hx
        split at hx
        · rename_i ch' hm
          cases hx with
          | head => exact .inr (h2 hk1 _ hm)
          | tail _ hx => exact .inl hx
        · exact .inl hx
      · intro ch _ hm
        unfold addChk
        rw [if_pos hk1, hm]
        exact List.mem_cons_self ..
    · obtain ⟨a', hk2, hok2, _, _⟩ := split_ok (gs := gs) (i := k) (o := o) (c := cv) (c' := cv.put o.dst s.toV) (w := w) ⟨_, h1, hok1, by simp, by simp⟩
      have e : addChk D k o a a' C = C := by unfold addChk; rw [if_neg hk1]
      rw [e] at hk2
      exact ⟨a', C, _, hk2, build _ _ _ hok2 (fun x hx => hx) (fun i ch hx => .inl hx) (hpend _ (fun ch h => absurd h hk1))⟩
  have skip : Kx (a.put o.dst (skipV D o)) (addChk D k o a (a.put o.dst (skipV D o)) C) w → Region.wanted o (yielded ops cv.tmps) = false → ∃ a' C' cv', Kx a' C' w ∧ Inv P D ops N ds listed c w (without S k) C' a' cv' := by
    intro h hwant
    have hok1 : ok (a.put o.dst (skipV D o)) (cv.put o.dst undef) := ok_skip I.ok hd
    refine ⟨_, _, _, h, build _ _ undef hok1 ?_ ?_ ?_⟩
    · intro x hx
      unfold addChk
      split
      · split
        · exact List.mem_cons_of_mem _ hx
        · exact hx
      · exact hx
    · intro i ch hx
      unfold addChk at hx
      split at hx
      · rename_i hk1
        have hs : skipV D o = none := by unfold skipV; rw [hk1]; rfl
        rw [hs] at hx
        split at hx
        · rename_i ch' hm
          exfalso
          cases hdst : o.dst with
          | none => simp [mkChk, hdst] at hm
          | some d' => simp [mkChk, hdst, AT.put, get_cons] at hm
        · exact .inl hx
      · exact .inl hx
    · refine ⟨hkind, fun w' hch c' hc' => .inr ⟨by rw [wanted_agree (ownr c' _ hc')]; exact hwant, fun d hdd => put_get_eq hdd (hd d hdd)⟩⟩
  unfold denG at h
  cases hg : o.guard with
  | none =>
    rw [hg] at h
    exact run h (by simp [Region.wanted, hg])
  | some q =>
    obtain ⟨j, want⟩ := q
    rw [hg] at h
    dsimp only at h
    cases hj : (nth ops.toList j).bind (·.dst) with
    | none => rw [hj] at h; exact False.elim h
    | some d =>
      rw [hj] at h
      dsimp only at h
      cases hget : a.get d with
      | none => rw [hget] at h; exact False.elim h
      | some s =>
        rw [hget] at h
        cases s with
        | lit b =>
          dsimp only at h
          have hy : yielded ops cv.tmps j = some b := by
            have e1 : (ops[j]?).bind (·.dst) = some d := by rw [← hj, nth_getElem?, Array.getElem?_toList]
            have e2 := I.ok d _ hget
            simp only [yielded, e1, Option.bind_some, e2, toV_lit]
          cases hb : (b == want) with
          | true =>
            rw [hb] at h
            exact run h (by simp only [Region.wanted, hg, hy]; simpa using hb)
          | false =>
            rw [hb] at h
            simp only [cond] at h
            exact skip h (by simp only [Region.wanted, hg, hy]; simpa using hb)
        | v x =>
          cases x with
          | tuple cs =>
            dsimp only at h
            have hy : yielded ops cv.tmps j = none := by
              have e1 : (ops[j]?).bind (·.dst) = some d := by rw [← hj, nth_getElem?, Array.getElem?_toList]
              have e2 := I.ok d _ hget
              simp only [yielded, e1, Option.bind_some, e2, SV.toV]
            exact skip h (by simp only [Region.wanted, hg, hy]; rfl)
          | _ => exact False.elim h
        | _ => exact False.elim h
end
end Go.Dm
