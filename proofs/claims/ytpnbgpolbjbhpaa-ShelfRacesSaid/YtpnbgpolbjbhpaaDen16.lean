/- The reading of code as predicates, and its soundness (text Den16). No conditions beyond those its theorems state. -/
import Derived.Test.YtpnbgpolbjbhpaaDen15
set_option linter.all false
namespace Go.Dm
def marks (l : List Nat) : List Deferred := l.map fun d => { target := .collected d, args := #[] }
def inB (N : Nat) : Code → Bool
  | .region _ ops _ => ops.toList.all fun o => match o.dst with | some d => Nat.blt d N | none => true
  | .seq a b => inB N a && inB N b
  | .cond _ a b => inB N a && inB N b
  | .block _ b => inB N b
  | .loop b => inB N b
  | .rangeFunc _ ps a b => ps.toList.all (fun t => Nat.blt t N) && inB N a && inB N b
  | _ => true
def XK (K : X → AT → List Nat → PT) (a : AT) (ds : List Nat) : Exit → PT
  | .normal => K .normal a ds
  | .exit id => K (.exit id) a ds
  | .goto l => K (.goto l) a ds
  | .ret => K .ret a ds
  | _ => bad
section
variable {P : Program} {D : Tb} {w w' : World} {a : AT} {c c0 : Act} {o : Oper} {ro : Option Nat} {ops : Array Oper} {sm : Bool}
def Post (x : Code) (K : X → AT → List Nat → PT) (N : Nat) (c0 : Act) : Exit → Act → World → Prop := fun e c w =>
  ∃ a ds, XK K a ds e w ∧ ok a c ∧ c.tmps.size = N ∧ c.defers = marks ds ∧ (∀ t, t ∉ defs x → c.tmps[t]? = c0.tmps[t]?) ∧ (hasRange x = false → c.defers = c0.defers)

theorem un_val : ∀ {l : Lf} {s : SV} {x : l.T}, l.un s = some x → l.val x = s.toV := by
  intro l s x h
  cases l with
  | int k => cases s with
    | v y => cases y with
      | int k' n =>
        simp only [Lf.un] at h
        by_cases e : k' = k
        · subst e; simp at h; subst h; rfl
        · rw [if_neg e] at h; cases h
      | _ => cases h
    | _ => cases h
  | bool => cases s with
    | lit b => cases h; rfl
    | v y => cases y <;> first | (cases h; rfl) | cases h
    | _ => cases h
  | adr => cases s with
    | v y => cases y with
      | pointer p => cases p with
        | none => cases h
        | some a => cases h; rfl
      | _ => cases h
    | _ => cases h
  | iface => cases s with
    | ifc p => cases h; rfl
    | v y => cases y <;> first | (cases h; rfl) | cases h
    | _ => cases h
  | _ => cases s with
    | v y => cases y <;> first | (cases h; rfl) | cases h
    | _ => cases h
theorem unH_val : ∀ {ls : List Lf} {cs : List Value} {x : HT ls}, unH ls cs = some x → HV ls x = cs
  | [], [], x, h => rfl
  | [], _ :: _, x, h => by cases h
  | _ :: _, [], x, h => by cases h
  | l :: ls, v :: vs, x, h => by
    simp only [unH] at h
    cases h1 : l.un (.v v) with
    | none => rw [h1] at h; cases h
    | some p => cases h2 : unH ls vs with
      | none => rw [h1, h2] at h; cases h
      | some q =>
        rw [h1, h2] at h; cases h
        simp only [HV, unH_val h2, un_val h1, SV.toV]
theorem e1_toV : ∀ (e : E1) (x : e.T), (e.sv x).toV = e.val x
  | .agg _, _ => rfl
  | .one (.int _), _ | .one .bool, _ | .one .str, _ | .one .ptr, _ | .one .slice, _ | .one .map, _ | .one .func, _ | .one .iface, _ | .one .adr, _ => rfl
theorem e1un_val : ∀ {e : E1} {s : SV} {x : e.T}, e.un s = some x → (e.sv x).toV = s.toV := by
  intro e s x h
  cases e with
  | one l => rw [e1_toV]; exact un_val h
  | agg ls => cases s with
    | ag cs => simp only [E1.un] at h; rw [e1_toV]; simp only [E1.val, unH_val h, SV.toV]
    | _ => cases h
theorem collect_ok {a' : AT} : ∀ {J : List (Nat × E1)} {z : TJ J} {b : AT}, collect J a' = some z → ok a' c → ok b c → ok (place J z b) c
  | [], z, b, h, _, hb => hb
  | x :: r, z, b, h, ha, hb => by
    simp only [collect] at h
    cases h1 : (a'.get x.1).bind x.2.un with
    | none => rw [h1] at h; cases h
    | some p => cases h2 : collect r a' with
      | none => rw [h1, h2] at h; cases h
      | some q =>
        rw [h1, h2] at h; cases h
        cases hs : a'.get x.1 with
        | none => rw [hs] at h1; cases h1
        | some s =>
          rw [hs] at h1
          refine ok_cons (collect_ok h2 ha hb) ?_
          rw [ha _ _ hs]
          simp only [Option.bind_some] at h1
          rw [e1un_val h1]
theorem kill_get : ∀ {Dl : List Nat} {a : AT} {t : Nat} {s : SV}, (kill Dl a).get t = some s → t ∉ Dl ∧ a.get t = some s
  | Dl, [], t, s, h => by cases h
  | Dl, x :: r, t, s, h => by
    simp only [kill] at h
    cases hm : memN x.1 Dl with
    | true =>
      rw [hm] at h
      obtain ⟨h1, h2⟩ := kill_get (a := r) h
      refine ⟨h1, ?_⟩
      obtain ⟨x1, x2⟩ := x
      rw [get_cons, if_neg (fun e => h1 (by subst e; exact memN_iff.1 hm))]
      exact h2
    | false =>
      rw [hm] at h
      obtain ⟨x1, x2⟩ := x
      simp only [cond] at h
      rw [get_cons] at h ⊢
      by_cases e : x1 = t
      · subst e
        rw [if_pos rfl] at h ⊢
        exact ⟨fun hm2 => (by rw [memN_iff.2 hm2] at hm; cases hm), h⟩
      · rw [if_neg e] at h ⊢
        exact kill_get h
theorem ok_kill {Dl : List Nat} (h : ok a c0) (hf : ∀ t, t ∉ Dl → c.tmps[t]? = c0.tmps[t]?) : ok (kill Dl a) c := by
  intro t s hs
  obtain ⟨h1, h2⟩ := kill_get hs
  rw [hf t h1]; exact h t s h2
theorem mem_dstsOf {d : Nat} : ∀ {l : List Oper}, o ∈ l → o.dst = some d → d ∈ dstsOf l
  | x :: l, h, hd => by
    simp only [dstsOf]
    cases h with
    | head => rw [hd]; exact List.mem_cons_self ..
    | tail _ h =>
      have := mem_dstsOf h hd
      cases x.dst with
      | none => exact this
      | some e => exact List.mem_cons_of_mem _ this
theorem region_frame (c0 : Act) : ∀ (i : Nat) (o : Oper) (c : Act) (v : Value), ops[i]? = some o → (∀ t, t ∉ dstsOf ops.toList → c.tmps[t]? = c0.tmps[t]?) → ∀ t, t ∉ dstsOf ops.toList → (c.put o.dst v).tmps[t]? = c0.tmps[t]? := by
  intro i o c v ho h t ht
  rw [put_get_ne (d := 0), h t ht]
  intro e
  exact ht (mem_dstsOf (List.mem_of_getElem? (by rw [Array.getElem?_toList]; exact ho)) e)
theorem inB_ops {N id : Nat} {dr : Bool} (h : inB N (.region id ops dr) = true) : ∀ (i : Nat) (o : Oper), ops[i]? = some o → ∀ t, o.dst = some t → t < N := by
  intro i o ho t ht
  have := List.all_eq_true.1 h o (List.mem_of_getElem? (by rw [Array.getElem?_toList]; exact ho))
  rw [ht] at this
  dsimp only at this
  rwa [Nat.blt_eq] at this
theorem number_eq {l : List Oper} : (number 0 l).map (·.1) = List.range l.length := by
  rw [number_fst, List.range_eq_range']
/-- the operations in their order -/
theorem seq_region (T : TbOk P D) {K : AT → PT} {N : Nat} {ds : List Nat} {id : Nat} {Q : Exit → Act → World → Prop} (hin : inB N (.region id ops false) = true) (h : denSeq P D ops.toList ⟨guardsOf ops.toList, sm⟩ (number 0 ops.toList) a K w)
    (hok : ok a c) (hN : c.tmps.size = N) (hds : c.defers = marks ds)
    (hQ : ∀ c' w', Fin K N (marks ds) c' w' → (∀ t, t ∉ dstsOf ops.toList → c'.tmps[t]? = c.tmps[t]?) → Q .normal c' w') : (Code.region id ops false).wpIn (FR ro) 0 P Q c w := by
  refine wpIn_region ?_
  have := denSeq_ok (ro := ro) T (Q := Q) (Fr := fun c' => ∀ t, t ∉ dstsOf ops.toList → c'.tmps[t]? = c.tmps[t]?) (region_frame c) hQ (number 0 ops.toList) a c w (fun _ _ => rfl)
    (fun x hx => by have := (number_getElem _ _ _ hx).2; rw [Nat.sub_zero, Array.getElem?_toList] at this; exact this)
    (fun x hx => by have := (number_getElem _ _ _ hx).2; rw [Nat.sub_zero, Array.getElem?_toList] at this; exact inB_ops hin _ _ this) h hok hN hds
  rw [number_eq] at this
  simpa using this
/-- operations whose order is drawn -/
theorem draw_region (T : TbOk P D) {K : AT → PT} {N : Nat} {ds : List Nat} {id : Nat} {Q : Exit → Act → World → Prop} (hin : inB N (.region id ops true) = true) (B : drawOk D ops.toList (masks ops.toList []) = true)
    (h : L.draw (explore P D ops.toList ⟨guardsOf ops.toList, sm⟩ (masks ops.toList []) ops.toList.length (number 0 ops.toList) [] a K) w)
    (hok : ok a c) (hN : c.tmps.size = N) (hds : c.defers = marks ds)
    (hQ : ∀ c' w', Fin K N (marks ds) c' w' → (∀ t, t ∉ dstsOf ops.toList → c'.tmps[t]? = c.tmps[t]?) → Q .normal c' w') : (Code.region id ops true).wpIn (FR ro) 0 P Q c w := by
  have B' := drawOk_of B
  refine wpIn_region_any T.mixed (explore_ok T B' (inB_ops hin) (Fr := fun c' => ∀ t, t ∉ dstsOf ops.toList → c'.tmps[t]? = c.tmps[t]?) (region_frame c) hQ ops.size _ ops.toList.length (number 0 ops.toList) [] a c c _ (fun _ _ => rfl) ?_ ?_ h)
  · simp only [leftN, Array.toList_replicate]
    have := List.countP_le_length (p := fun b => !b) (l := List.replicate ops.size false)
    simpa using this
  · refine ⟨fun x hx => ?_, by simp, ?_, ?_, hok, hN, hN, hds, hds, ?_, ?_, ?_⟩
    · have := (number_getElem _ _ _ hx).2
      rw [Nat.sub_zero, Array.getElem?_toList] at this
      refine ⟨this, ?_⟩
      have hlt := (Array.getElem?_eq_some_iff.1 this).1
      rw [Array.getD_eq_getD_getElem?]; simp [hlt]
    · intro i u hu hl
      rw [Array.getD_eq_getD_getElem?] at hl
      by_cases hlt : i < ops.size <;> simp [hlt] at hl
    · intro i u hu hi
      exact absurd rfl (hi (i, u) (by have := mem_number (k := 0) (l := ops.toList) (i := i) (o := u) (by rw [Array.getElem?_toList]; exact hu); rw [Nat.zero_add] at this; exact this))
    · intro i u hu hi
      exact absurd rfl (hi (i, u) (by have := mem_number (k := 0) (l := ops.toList) (i := i) (o := u) (by rw [Array.getElem?_toList]; exact hu); rw [Nat.zero_add] at this; exact this))
    · intro i ch h; cases h
    · intro t _; rfl
end
end Go.Dm
