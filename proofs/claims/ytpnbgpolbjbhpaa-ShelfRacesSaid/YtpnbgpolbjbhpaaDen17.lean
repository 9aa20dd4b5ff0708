/- The reading of code as predicates, and its soundness (text Den17). No conditions beyond those its theorems state. -/
import Derived.Test.YtpnbgpolbjbhpaaDen16
import Derived.RangeFuncNested
set_option linter.all false
namespace Go.Dm
section
variable {P : Program} {D : Tb}
theorem post_norm {K K' : X → AT → List Nat → PT} {x y : Code} {N : Nat} {c0 c1 : Act} {w : World} {c : Act} {e : Exit} (h : Post x K N c0 e c w)
    (hK : ∀ a ds, XK K a ds e w → XK K' a ds e w) (hd : ∀ t, t ∈ defs x → t ∈ defs y) (hr : hasRange y = false → hasRange x = false)
    (h0 : ∀ t, t ∉ defs y → c0.tmps[t]? = c1.tmps[t]?) (h1 : hasRange y = false → c0.defers = c1.defers) : Post y K' N c1 e c w := by
  obtain ⟨a, ds, k, ho, hs, hds, hf, hg⟩ := h
  exact ⟨a, ds, hK a ds k, ho, hs, hds, fun t ht => by rw [hf t (fun hx => ht (hd t hx)), h0 t ht], fun h => by rw [hg (hr h), h1 h]⟩
theorem foldl_size : ∀ (l : List (Tmp × Value)) (t : Array Value), (l.foldl (fun t x => t.setIfInBounds x.1 x.2) t).size = t.size
  | [], t => rfl
  | x :: l, t => by simp [foldl_size l]
theorem foldl_get : ∀ (l : List (Tmp × Value)) (t : Array Value) (k : Nat), (∀ x ∈ l, x.1 ≠ k) → (l.foldl (fun t x => t.setIfInBounds x.1 x.2) t)[k]? = t[k]?
  | [], t, k, _ => rfl
  | x :: l, t, k, h => by
    simp only [List.foldl_cons]
    rw [foldl_get l _ k (fun y hy => h y (List.mem_cons_of_mem _ hy)), Array.getElem?_setIfInBounds, if_neg (h x (List.mem_cons_self ..))]
theorem noDup_cons {x : Nat} {l : List Nat} (h : noDup (x :: l) = true) : x ∉ l ∧ noDup l = true := by
  simp only [noDup, Bool.and_eq_true, Bool.not_eq_true'] at h
  exact ⟨fun hm => (by rw [memN_iff.2 hm] at h; cases h.1), h.2⟩
theorem zip_fst {l : List Nat} {r : List Value} {x : Nat × Value} (h : x ∈ l.zip r) : x.1 ∈ l := by
  obtain ⟨a, b⟩ := x; exact (List.of_mem_zip h).1
theorem place_params {d : List Deferred} {a : AT} : ∀ {J : List (Nat × E1)} {y : TT (J.map (·.2))} {t : Array Value}, noDup (J.map (·.1)) = true → (∀ x ∈ J, x.1 < t.size) → ok a { tmps := t, defers := d } →
    ok (place J (den.tjOf J y) a) { tmps := ((J.map (·.1)).zip (TV (J.map (·.2)) y)).foldl (fun t x => t.setIfInBounds x.1 x.2) t, defers := d }
  | [], y, t, _, _, h => h
  | x :: r, y, t, hn, hlt, h => by
    obtain ⟨h1, h2⟩ := noDup_cons hn
    have hx := hlt x (List.mem_cons_self ..)
    intro k s hk
    show (((r.map (·.1)).zip (TV (r.map (·.2)) y.2)).foldl (fun t x => t.setIfInBounds x.1 x.2) (t.setIfInBounds x.1 (x.2.val y.1)))[k]? = _
    simp only [place, den.tjOf] at hk
    rw [get_cons] at hk
    by_cases e : x.1 = k
    · rw [if_pos e] at hk; cases hk
      subst e
      rw [foldl_get _ _ _ (fun z hz e => h1 (by show x.1 ∈ _; rw [← e]; exact zip_fst hz))]
      simp [Array.getElem?_setIfInBounds, hx, e1_toV]
    · rw [if_neg e] at hk
      -- the rest
      have hrest : ok (place r (den.tjOf r y.2) (List.filter (fun z => z.1 != x.1) a)) { tmps := ((r.map (·.1)).zip (TV (r.map (·.2)) y.2)).foldl (fun t x => t.setIfInBounds x.1 x.2) (t.setIfInBounds x.1 (x.2.val y.1)), defers := d } := by
        refine place_params h2 (fun z hz => by simpa using hlt z (List.mem_cons_of_mem _ hz)) ?_
        intro k' s' hk'
        have key : ∀ (a : AT), AT.get (List.filter (fun z => z.1 != x.1) a) k' = some s' → k' ≠ x.1 ∧ a.get k' = some s' := by
          intro a
          induction a with
          | nil => intro h; cases h
          | cons z a ih =>
            intro h
            obtain ⟨z1, z2⟩ := z
            rw [get_cons]
            by_cases ez : z1 = x.1
            · subst ez
              rw [List.filter_cons_of_neg (by simp)] at h
              obtain ⟨h1, h2⟩ := ih h
              exact ⟨h1, by rw [if_neg (fun e => h1 e.symm)]; exact h2⟩
            · rw [List.filter_cons_of_pos (by simpa using ez), get_cons] at h
              by_cases ek : z1 = k'
              · subst ek
                rw [if_pos rfl] at h ⊢
                exact ⟨ez, h⟩
              · rw [if_neg ek] at h ⊢
                exact ih h
        obtain ⟨hne, hk2⟩ := key a hk'
        simp only [Array.getElem?_setIfInBounds, if_neg (fun e => hne (Eq.symm e))]
        exact h k' s' hk2
      refine hrest k s ?_
      -- place over a filtered list
      have pl : ∀ (J : List (Nat × E1)) (z : TJ J) (a : AT), AT.get (place J z a) k = AT.get (place J z (List.filter (fun q => q.1 != x.1) a)) k := by
        intro J
        induction J with
        | nil =>
          intro z a
          simp only [place]
          induction a with
          | nil => rfl
          | cons q a ih =>
            obtain ⟨q1, q2⟩ := q
            by_cases eq : q1 = x.1
            · subst eq
              rw [List.filter_cons_of_neg (by simp), get_cons, if_neg e]; exact ih
            · rw [List.filter_cons_of_pos (by simpa using eq), get_cons, get_cons, ih]
        | cons q J ih =>
          intro z a
          obtain ⟨q1, q2⟩ := q
          simp only [place]
          rw [get_cons, get_cons, ih]
      rw [← pl]; exact hk
/-- the least of the numbers -/
theorem least {J : Nat → Prop} (h : ∃ n, J n) : ∃ n, J n ∧ ∀ m, J m → n ≤ m := by
  obtain ⟨n, hn⟩ := h
  induction n using Nat.strongRecOn with
  | _ n ih =>
    by_cases h2 : ∃ m, m < n ∧ J m
    · obtain ⟨m, hm, hj⟩ := h2; exact ih m hm hj
    · exact ⟨n, hn, fun m hm => Nat.le_of_not_lt fun hlt => h2 ⟨m, hlt, hm⟩⟩
theorem wpIn_loopN {F : Fence} {x : Code} {Q : Exit → Act → World → Prop} {c : Act} {w : World} (J : Nat → Act → World → Prop) (h0 : ∃ n, J n c w)
    (round : ∀ n c w, J n c w → x.wpIn F 0 P (Exit.then (fun c' w' => ∃ m, m < n ∧ J m c' w') Q) c w) : (Code.loop x).wpIn F 0 P Q c w := by
  have pick : ∀ c w, ∃ k, (∃ n, J n c w) → J k c w ∧ ∀ m, J m c w → k ≤ m := by
    intro c w
    by_cases h : ∃ n, J n c w
    · obtain ⟨k, hk⟩ := least h; exact ⟨k, fun _ => hk⟩
    · exact ⟨0, fun h' => absurd h' h⟩
  refine wpIn_loop (fun c w => ∃ n, J n c w) (fun c w => Classical.choose (pick c w)) h0 fun c w h => ?_
  obtain ⟨h1, h2⟩ := Classical.choose_spec (pick c w) h
  refine wpIn_mono (round _ c w h1) ?_
  intro e c' w' hq
  cases e with
  | normal =>
    obtain ⟨m, hm, hj⟩ := hq
    have := (Classical.choose_spec (pick c' w') ⟨m, hj⟩).2 m hj
    exact ⟨⟨m, hj⟩, by omega⟩
  | _ => exact hq
theorem look_map {K : X → AT → List Nat → PT} {a : AT} {ds : List Nat} {id : Nat} {w : World} : ∀ {E : List Nat}, look id (E.map fun i => (i, K (.exit i) a ds)) w → K (.exit id) a ds w
  | [], h => h.elim
  | i :: E, h => by
    simp only [List.map_cons, look] at h
    by_cases e : id = i
    · subst e; rw [if_pos rfl] at h; exact h
    · rw [if_neg e] at h; exact look_map h
def DenOk (P : Program) (D : Tb) (x : Code) : Prop := ∀ (an : Ann) (ro : Option Nat) (a : AT) (ds : List Nat) (K : X → AT → List Nat → PT) (N : Nat) (w : World) (c : Act), inB N x = true → den P D x an ro a ds K w → ok a c → c.tmps.size = N → c.defers = marks ds →
    x.wpIn (FR ro) 0 P (Post x K N c) c w
theorem ffcall_some {fv : Value} {args : List Value} {w : World} {R : Value → World → Prop} (h : FFCall P fv args w R) :
    ∃ f first cap, fv = .func (.func f) first cap ∧ Enters P f ∧ Calls P f (first ++ args.toArray ++ cap) w fun e w' => ∃ v, e = .returned v ∧ R v w' := by
  unfold FFCall at h
  split at h
  · exact ⟨_, _, _, rfl, h⟩
  · exact h.elim
theorem enter_none (fn : FuncId) (tmps : Array Value) (ps : Array Tmp) (assign body : Code) (w : World) : (Instr.enterLoop fn tmps ps assign body (FR none).round).run P w =
    .ok (w.heap.size + 1, marks [w.heap.size]) ((w.alloc (.deferred (some []))).alloc (.loop { state := .ready, pending := none, fn, tmps, params := ps, assign, body, defers := w.heap.size })) := run_enterLoop_outer _ _ _ _ _
theorem enter_some {fn : FuncId} {tmps : Array Value} {ps : Array Tmp} {assign body : Code} {w : World} {l0 : Nat} {r0 : Loop} (h : w.heap[l0]? = some (.loop r0)) : (Instr.enterLoop fn tmps ps assign body (FR (some l0)).round).run P w =
    .ok (w.heap.size, marks []) (w.alloc (.loop { state := .ready, pending := none, fn, tmps, params := ps, assign, body, defers := r0.defers })) := run_enterLoop_inner h _ _ _ _ _
theorem resolve_range {c : Act} {g : Operand} {l : Nat} {f : FuncId} {first cap : Array Value} {w : World} (h : c.eval g = .func (.func f) first cap) :
    (resolve c.eval (rangeCall g l) 0).run P w = .ok { target := .fn (.func f) cap, args := first ++ [Value.func (.yield l) #[] #[]].toArray } w := by
  have e : c.eval (.const (.func (.yield l) #[] #[])) = .func (.yield l) #[] #[] := rfl
  simp [resolve, rangeCall, h, Deferred.ofValue, e]
theorem invoke_range {l : Nat} {f : FuncId} {first cap : Array Value} {w : World} (h : Enters P f) :
    (invoke (.fn (.func f) cap) (first ++ [Value.func (.yield l) #[] #[]].toArray)).run P w = .ok (.enter f (first ++ [Value.func (.yield l) #[] #[]].toArray ++ cap)) w := by
  simp [invoke, h _ _]
theorem range_ok {g : Operand} {ps : Array Tmp} {assign body : Code} (iha : DenOk P D assign) (ihb : DenOk P D body) : DenOk P D (.rangeFunc g ps assign body) := by
  intro an ro a ds K N w c hin h ho hN hd
  simp only [inB, Bool.and_eq_true] at hin
  simp only [den] at h
  cases hj : an.j with
  | none => rw [hj] at h; exact h.elim
  | some J =>
    rw [hj] at h
    dsimp only at h
    by_cases hps : ps.toList = J.map (·.1) ∧ noDup ps.toList = true
    · rw [if_pos hps] at h
      obtain ⟨s, hs, h⟩ := needV_some h
      have he := ok_ev ho hs
      -- the round
      have hlen : ∀ y : TT (J.map (·.2)), (TV (J.map (·.2)) y).length = ps.size := by
        have key : ∀ (es : List E1) (y : TT es), (TV es y).length = es.length := by
          intro es
          induction es with
          | nil => intro y; rfl
          | cons e es ih => intro y; simp [TV, ih]
        intro y
        rw [key, List.length_map]
        have := congrArg List.length hps.1
        simp at this; omega
      have round : ∀ (l : Nat) (fn : FuncId) (dfs : Nat) (st : LoopState) (pd : Option Code) (y : TT (J.map (·.2))) (w' : World) (R : Value → World → Prop),
          w'.heap[l]? = some (.loop { state := st, pending := pd, fn, tmps := c.tmps, params := ps, assign, body, defers := dfs }) →
          den P D assign an.l (some l) (place J (den.tjOf J y) a) [] (fun e a' ds' => match e with
            | .normal => L.begin P l (den P D body an.r (some l) a' ds' fun e _ _ => match e with
              | .normal => L.endRound P l none R
              | .ret => L.endRound P l (some .ret) R
              | .exit id => L.endRound P l (some (.exit id)) R
              | .goto t => L.endRound P l (some (.goto t)) R)
            | _ => bad) w' →
          FCall P (.func (.yield l) #[] #[]) (TV (J.map (·.2)) y) w' R := by
        intro l fn dfs st pd y w' R hl hb
        refine ⟨rfl, rfl, _, hl, hlen y, ?_⟩
        refine roundIn_of_wpIn trivial ?_
        have hfold : (ps.zip (TV (J.map (·.2)) y).toArray).foldl (fun tmps (t, a) => tmps.setIfInBounds t a) c.tmps = ((J.map (·.1)).zip (TV (J.map (·.2)) y)).foldl (fun t x => t.setIfInBounds x.1 x.2) c.tmps := by
          rw [← Array.foldl_toList, Array.toList_zip, hps.1]
        dsimp only
        rw [hfold]
        have hsz : (((J.map (·.1)).zip (TV (J.map (·.2)) y)).foldl (fun t x => t.setIfInBounds x.1 x.2) c.tmps).size = N := by rw [foldl_size, hN]
        have hok : ok (place J (den.tjOf J y) a) { tmps := ((J.map (·.1)).zip (TV (J.map (·.2)) y)).foldl (fun t x => t.setIfInBounds x.1 x.2) c.tmps, defers := [] } := by
          refine place_params (by rw [← hps.1]; exact hps.2) (fun x hx => ?_) ho
          have : x.1 ∈ ps.toList := by rw [hps.1]; exact List.mem_map_of_mem hx
          have := List.all_eq_true.1 hin.1.1 x.1 this
          rw [Nat.blt_eq] at this; rw [hN]; exact this
        refine wpIn_mono (iha _ (some l) _ [] _ N w' _ hin.1.2 hb hok hsz rfl) ?_
        intro e c1 w1 hq
        cases e with
        | normal =>
          obtain ⟨a', ds', hk, ho', hN', hd', hf, hg⟩ := hq
          obtain ⟨w2, hbr, hk⟩ := hk
          refine ⟨w2, hbr, wpIn_mono (ihb _ (some l) a' ds' _ N w2 c1 hin.2 hk ho' hN' hd') ?_⟩
          intro e c2 w3 hq
          obtain ⟨a2, ds2, hk, -⟩ := hq
          cases e with
          | normal => obtain ⟨v, w4, hr, hR⟩ := hk; exact ⟨v, w4, hr, v, rfl, hR⟩
          | ret => obtain ⟨v, w4, hr, hR⟩ := hk; exact ⟨v, w4, hr, v, rfl, hR⟩
          | exit id => obtain ⟨v, w4, hr, hR⟩ := hk; exact ⟨v, w4, hr, v, rfl, hR⟩
          | goto t => obtain ⟨v, w4, hr, hR⟩ := hk; exact ⟨v, w4, hr, v, rfl, hR⟩
          | _ => exact hk.elim
        | _ => obtain ⟨a2, ds2, hk, -⟩ := hq; exact hk.elim
      -- what comes behind
      have after : ∀ (d : List Nat) (l : Nat) (v : Value) (w2 : World), (∃ jump w3, (Instr.endLoop l).run P w2 = .ok jump w3 ∧ jumpK K a (d ++ ds) (dedup (exitsOf body)) jump w3) →
          rangePost (FR ro) 0 P l (Post (.rangeFunc g ps assign body) K N c) { c with defers := marks d ++ c.defers } (.returned v) w2 := by
        rintro d l v w2 ⟨jump, w3, hend, hk⟩
        have hpost : ∀ (e : Exit) (w : World), XK K a (d ++ ds) e w → Post (.rangeFunc g ps assign body) K N c e { c with defers := marks d ++ c.defers } w := fun e w hk =>
          ⟨a, d ++ ds, hk, ho, hN, by simp [marks, hd], fun _ _ => rfl, fun h => by simp [hasRange] at h⟩
        refine ⟨jump, w3, hend, ?_⟩
        cases jump with
        | none => exact hpost .normal w3 hk
        | some j =>
          cases j with
          | ret => exact wpIn_ret (hpost .ret w3 hk)
          | exit id => exact wpIn_exit (hpost (.exit id) w3 (look_map hk))
          | _ => exact hk.elim
      refine wpIn_rangeFunc fun fn _ => ?_
      cases ro with
      | none =>
        have h := h { state := .ready, pending := none, fn, tmps := c.tmps, params := ps, assign, body, defers := w.heap.size } rfl rfl
          (fun y st pd w' R hl hb => round _ fn _ st pd y w' R hl hb)
        obtain ⟨f, first, cap, hfv, hen, hcall⟩ := ffcall_some h
        have hc' : CallsIn (FR none) 0 P f _ _ (rangePost (FR none) 0 P (w.heap.size + 1) (Post (.rangeFunc g ps assign body) K N c) { c with defers := marks [w.heap.size] ++ c.defers }) :=
          callsIn_FR (hcall.mono fun e w2 ⟨v, he, hk⟩ => by subst he; exact after [w.heap.size] _ v w2 hk)
        exact ⟨_, _, _, _, _, _, _, _, enter_none .., resolve_range (by rw [he, hfv]), fun _ _ => trivial, invoke_range hen, fun h => by simp [FR] at h, hc'⟩
      | some l0 =>
        obtain ⟨r0, hl0, h⟩ := h
        have h := h { state := .ready, pending := none, fn, tmps := c.tmps, params := ps, assign, body, defers := r0.defers } rfl rfl
          (fun y st pd w' R hl hb => round _ fn _ st pd y w' R hl hb)
        obtain ⟨f, first, cap, hfv, hen, hcall⟩ := ffcall_some h
        have hc' : CallsIn (FR (some l0)) 0 P f _ _ (rangePost (FR (some l0)) 0 P w.heap.size (Post (.rangeFunc g ps assign body) K N c) { c with defers := marks [] ++ c.defers }) :=
          callsIn_FR (hcall.mono fun e w2 ⟨v, he, hk⟩ => by subst he; exact after [] _ v w2 hk)
        exact ⟨_, _, _, _, _, _, _, _, enter_some hl0, resolve_range (by rw [he, hfv]), fun _ _ => trivial, invoke_range hen, fun h => by simp [FR] at h, hc'⟩
    · rw [if_neg hps] at h; exact h.elim
/-- **THE SOUNDNESS OF THE READING** -/
theorem den_ok (T : TbOk P D) : ∀ (x : Code) (an : Ann) (ro : Option Nat) (a : AT) (ds : List Nat) (K : X → AT → List Nat → PT) (N : Nat) (w : World) (c : Act), inB N x = true → den P D x an ro a ds K w → ok a c → c.tmps.size = N → c.defers = marks ds →
    x.wpIn (FR ro) 0 P (Post x K N c) c w := by
  intro x
  induction x with
  | skip => intro an ro a ds K N w c hin h ho hN hd; exact wpIn_skip ⟨a, ds, h, ho, hN, hd, fun _ _ => rfl, fun _ => rfl⟩
  | label l => intro an ro a ds K N w c hin h ho hN hd; exact wpIn_label ⟨a, ds, h, ho, hN, hd, fun _ _ => rfl, fun _ => rfl⟩
  | exit id => intro an ro a ds K N w c hin h ho hN hd; exact wpIn_exit ⟨a, ds, h, ho, hN, hd, fun _ _ => rfl, fun _ => rfl⟩
  | goto l => intro an ro a ds K N w c hin h ho hN hd; exact wpIn_goto ⟨a, ds, h, ho, hN, hd, fun _ _ => rfl, fun _ => rfl⟩
  | ret => intro an ro a ds K N w c hin h ho hN hd; exact wpIn_ret ⟨a, ds, h, ho, hN, hd, fun _ _ => rfl, fun _ => rfl⟩
  | refuse s => intro an ro a ds K N w c hin h; exact h.elim
  | scope b _ => intro an ro a ds K N w c hin h; exact h.elim
  | region id ops draw =>
    intro an ro a ds K N w c hin h ho hN hd
    cases draw with
    | false =>
      simp only [den] at h
      exact seq_region T hin h ho hN hd fun c' w' ⟨a', hk, ho', hN', hd'⟩ hf => ⟨a', ds, hk, ho', hN', hd', hf, fun _ => by rw [hd', hd]⟩
    | true =>
      simp only [den] at h
      cases hj : an.j with
      | none =>
        rw [hj] at h
        dsimp only at h
        by_cases hB : drawOk D ops.toList (masks ops.toList []) = true
        · rw [if_pos hB] at h
          exact draw_region T hin hB h ho hN hd fun c' w' ⟨a', hk, ho', hN', hd'⟩ hf => ⟨a', ds, hk, ho', hN', hd', hf, fun _ => by rw [hd', hd]⟩
        · rw [if_neg hB] at h; exact h.elim
      | some J =>
        rw [hj] at h
        dsimp only at h
        by_cases hB : drawOk D ops.toList (masks ops.toList []) = true
        · rw [if_pos hB] at h
          refine draw_region T hin hB h ho hN hd fun c' w' ⟨a', hk, ho', hN', hd'⟩ hf => ?_
          dsimp only at hk
          cases hc : collect J a' with
          | none => rw [hc] at hk; exact hk.elim
          | some y =>
            rw [hc] at hk
            exact ⟨_, ds, hk, collect_ok hc ho' (ok_kill ho hf), hN', hd', hf, fun _ => by rw [hd', hd]⟩
        · rw [if_neg hB] at h; exact h.elim
  | seq x y ihx ihy =>
    intro an ro a ds K N w c hin h ho hN hd
    simp only [inB, Bool.and_eq_true] at hin
    simp only [den] at h
    have dx : ∀ t, t ∈ defs x → t ∈ defs (.seq x y) := fun t ht => List.mem_append_left _ ht
    have dy : ∀ t, t ∈ defs y → t ∈ defs (.seq x y) := fun t ht => List.mem_append_right _ ht
    have rx : hasRange (.seq x y) = false → hasRange x = false := fun h => by simp only [hasRange, Bool.or_eq_false_iff] at h; exact h.1
    have ry : hasRange (.seq x y) = false → hasRange y = false := fun h => by simp only [hasRange, Bool.or_eq_false_iff] at h; exact h.2
    refine wpIn_seq ?_
    cases hj : an.j with
    | none =>
      rw [hj] at h
      dsimp only at h
      refine wpIn_mono (ihx _ ro a ds _ N w c hin.1 h ho hN hd) ?_
      intro e c' w' hq
      cases e with
      | normal =>
        obtain ⟨a', ds', hk, ho', hN', hd', hf, hg⟩ := hq
        refine wpIn_mono (ihy _ ro a' ds' K N w' c' hin.2 hk ho' hN' hd') ?_
        intro e c2 w2 hq
        exact post_norm hq (fun _ _ h => h) dy ry (fun t ht => hf t (fun hx => ht (dx t hx))) (fun h => hg (rx h))
      | _ => exact post_norm hq (fun _ _ h => h) dx rx (fun _ _ => rfl) (fun _ => rfl)
    | some J =>
      rw [hj] at h
      dsimp only at h
      cases hr : hasRange x with
      | true => rw [hr] at h; exact h.elim
      | false =>
        rw [hr, if_neg (by simp)] at h
        refine wpIn_mono (ihx _ ro a ds _ N w c hin.1 h ho hN hd) ?_
        intro e c' w' hq
        cases e with
        | normal =>
          obtain ⟨a', ds', hk, ho', hN', hd', hf, hg⟩ := hq
          simp only [XK] at hk
          cases hc : collect J a' with
          | none => rw [hc] at hk; exact hk.elim
          | some z =>
            rw [hc] at hk
            refine wpIn_mono (ihy _ ro _ ds K N w' c' hin.2 hk (collect_ok hc ho' (ok_kill ho hf)) hN' (by rw [hg hr, hd])) ?_
            intro e c2 w2 hq
            exact post_norm hq (fun _ _ h => h) dy ry (fun t ht => hf t (fun hx => ht (dx t hx))) (fun h => hg (rx h))
        | _ => exact post_norm hq (fun _ _ h => h) dx rx (fun _ _ => rfl) (fun _ => rfl)
  | cond v x y ihx ihy =>
    intro an ro a ds K N w c hin h ho hN hd
    simp only [inB, Bool.and_eq_true] at hin
    have dx : ∀ t, t ∈ defs x → t ∈ defs (.cond v x y) := fun t ht => List.mem_append_left _ ht
    have dy : ∀ t, t ∈ defs y → t ∈ defs (.cond v x y) := fun t ht => List.mem_append_right _ ht
    have rx : hasRange (.cond v x y) = false → hasRange x = false := fun h => by simp only [hasRange, Bool.or_eq_false_iff] at h; exact h.1
    have ry : hasRange (.cond v x y) = false → hasRange y = false := fun h => by simp only [hasRange, Bool.or_eq_false_iff] at h; exact h.2
    have L : den P D x an.l ro a ds K w → x.wpIn (FR ro) 0 P (Post (.cond v x y) K N c) c w := fun h => wpIn_mono (ihx _ ro a ds K N w c hin.1 h ho hN hd) fun e c' w' hq => post_norm hq (fun _ _ h => h) dx rx (fun _ _ => rfl) (fun _ => rfl)
    have R : den P D y an.r ro a ds K w → y.wpIn (FR ro) 0 P (Post (.cond v x y) K N c) c w := fun h => wpIn_mono (ihy _ ro a ds K N w c hin.2 h ho hN hd) fun e c' w' hq => post_norm hq (fun _ _ h => h) dy ry (fun _ _ => rfl) (fun _ => rfl)
    simp only [den] at h
    cases hv : a.ev v with
    | none => rw [hv] at h; exact h.elim
    | some s =>
      have he := ok_ev ho hv
      rw [hv] at h
      cases s with
      | lit b =>
        cases b with
        | true => exact wpIn_cond (t := true) he (L h)
        | false => exact wpIn_cond (t := false) he (R h)
      | v q =>
        cases q with
        | bool b => exact wpIn_cond_split he (fun hb => L (h.1 hb)) (fun hb => R (h.2 hb))
        | _ => exact h.elim
      | _ => exact h.elim
  | block id x ih =>
    intro an ro a ds K N w c hin h ho hN hd
    simp only [den] at h
    refine wpIn_block (wpIn_mono (ih an ro a ds _ N w c hin h ho hN hd) ?_)
    intro e c' w' hq
    cases e with
    | exit id' =>
      show if id' = id then _ else _
      by_cases e : id' = id
      · subst e
        rw [if_pos rfl]
        obtain ⟨a', ds', hk, r⟩ := hq
        refine ⟨a', ds', ?_, r⟩
        simp only [XK, if_true] at hk; exact hk
      · rw [if_neg e]
        obtain ⟨a', ds', hk, r⟩ := hq
        refine ⟨a', ds', ?_, r⟩
        simp only [XK, if_neg e] at hk; exact hk
    | _ => exact hq
  | loop x ih =>
    intro an ro a ds K N w c hin h ho hN hd
    simp only [den] at h
    cases hj : an.j with
    | none => rw [hj] at h; exact h.elim
    | some J =>
      rw [hj] at h
      dsimp only at h
      cases hr : hasRange x with
      | true => rw [hr] at h; exact h.elim
      | false =>
        rw [hr, if_neg (by simp)] at h
        cases hc : collect J a with
        | none => rw [hc] at h; exact h.elim
        | some y0 =>
          rw [hc] at h
          obtain ⟨Inv, ⟨n0, h0⟩, hround⟩ := h
          refine wpIn_loopN (fun n c' w' => ∃ y, Inv n y w' ∧ ok (place J y (kill (defs x) a)) c' ∧ c'.tmps.size = N ∧ c'.defers = c.defers ∧ ∀ t, t ∉ defs x → c'.tmps[t]? = c.tmps[t]?)
            ⟨n0, y0, h0, collect_ok hc ho (ok_kill ho fun _ _ => rfl), hN, rfl, fun _ _ => rfl⟩ ?_
          rintro n c1 w1 ⟨y, hi, ho1, hN1, hd1, hf1⟩
          refine wpIn_mono (ih _ ro _ ds _ N w1 c1 hin (hround n y w1 hi) ho1 hN1 (by rw [hd1, hd])) ?_
          intro e c2 w2 hq
          cases e with
          | normal =>
            obtain ⟨a', ds', hk, ho', hN', hd', hf, hg⟩ := hq
            simp only [XK] at hk
            cases hc' : collect J a' with
            | none => rw [hc'] at hk; exact hk.elim
            | some y' =>
              rw [hc'] at hk
              obtain ⟨m, hm, him⟩ := hk
              have hf' : ∀ t, t ∉ defs x → c2.tmps[t]? = c.tmps[t]? := fun t ht => by rw [hf t ht, hf1 t ht]
              exact ⟨m, hm, y', him, collect_ok hc' ho' (ok_kill ho hf'), hN', by rw [hg hr, hd1], hf'⟩
          | _ => exact post_norm hq (fun _ _ h => h) (fun _ h => h) (fun h => h) (fun t ht => hf1 t ht) (fun _ => hd1)
  | rangeFunc g ps assign body iha ihb => intro an ro a ds K N w c hin h ho hN hd; exact range_ok iha ihb an ro a ds K N w c hin h ho hN hd
end
end Go.Dm
