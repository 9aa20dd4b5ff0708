/- The reading of code as predicates, and its soundness (text Den11). No conditions beyond those its theorems state. -/
import Derived.Test.YtpnbgpolbjbhpaaDen10
set_option linter.all false
namespace Go.Dm
section
variable {P : Program} {D : Tb} {w w' : World} {a : AT} {c : Act} {o : Oper} {K : AT → PT} {Q : Exit → Act → World → Prop} {ro : Option Nat}

theorem callsIn_FR {f : FuncId} {args : Array Value} {R : Ending → World → Prop} (h : Calls P f args w R) : CallsIn (FR ro) 0 P f args w R := by
  have h1 : CallsIn Fence.wide 0 P f args w R := callsIn_wide.2 h
  cases ro with
  | none => exact h1
  | some l => exact CallsIn.inRound l h1
theorem wpIn_of_opOk {next : Act → World → Prop} (hnd : ∀ x, o.op ≠ .defer x) (h : OpOk P o c w next) : o.wpIn (FR ro) 0 P c w next Q := by
  refine ⟨fun _ _ => trivial, ?_⟩
  rw [Oper.semAt_eq _ _ _ hnd]
  rcases h with ⟨v, w', hr, hn⟩ | ⟨w', hr, hn⟩ | ⟨f, args, w', hr, hn⟩ | ⟨l, f, tmps, as, bd, w', hr, hn⟩
  · rw [hr]; exact hn
  · rw [hr]; exact hn
  · rw [hr]
    refine ⟨fun h => by simp [FR] at h, callsIn_FR (hn.mono ?_)⟩
    rintro e w'' ⟨v, rfl, hv⟩
    exact hv
  · rw [hr]
    refine ⟨fun h => by simp [FR] at h, ?_⟩
    have hn' : RoundIn (FR ro) 0 P l f tmps as bd w' fun e w'' => ∃ v, e = .returned v ∧ next (c.put o.dst v) w'' := hn
    refine hn'.mono ?_
    rintro e w'' ⟨v, rfl, hv⟩
    exact hv
theorem no_defer {K : AT → PT} (hk : denOp P D o a K w) : ∀ x, o.op ≠ .defer x := by
  intro x hx
  simp only [denOp, hx] at hk
  exact hk
theorem ok_cons {d : Nat} {s : SV} (h : ok a c) (hc : c.tmps[d]? = some s.toV) : ok ((d, some s) :: a) c := by
  intro t x hx
  rw [get_cons] at hx
  split at hx
  · rename_i e; subst e; cases hx; exact hc
  · exact h t x hx
theorem split_ok {gs : GS} {i : Nat} {c' : Act} (h : Nx (splitAt gs i o K) c c' w) : Nx K c c' w := by
  obtain ⟨a', hk, h, hs, hd⟩ := h
  unfold splitAt at hk
  cases hg : memN i gs.l with
  | false => rw [hg] at hk; exact ⟨a', hk, h, hs, hd⟩
  | true =>
    rw [hg] at hk
    cases hdst : o.dst with
    | none => rw [hdst] at hk; exact False.elim hk
    | some d =>
      rw [hdst] at hk
      simp only [cond] at hk
      cases hget : a'.get d with
      | none => rw [hget] at hk; exact False.elim hk
      | some s =>
        rw [hget] at hk
        have hv := h d s hget
        cases s with
        | lit b => exact ⟨a', hk, h, hs, hd⟩
        | v x => cases x with
          | bool b =>
            dsimp only at hk
            cases ha : gs.asm with
            | true =>
              rw [ha] at hk
              obtain ⟨e, hk⟩ := hk
              subst e
              exact ⟨_, hk, ok_cons (s := .lit true) h hv, hs, hd⟩
            | false =>
              rw [ha] at hk
              cases b with
              | true => exact ⟨_, hk.1 rfl, ok_cons (s := .lit true) h hv, hs, hd⟩
              | false => exact ⟨_, hk.2 rfl, ok_cons (s := .lit false) h hv, hs, hd⟩
          | _ => exact False.elim hk
        | _ => exact False.elim hk
theorem OpOk.mono {N N' : Act → World → Prop} (h : OpOk P o c w N) (hm : ∀ c w, N c w → N' c w) : OpOk P o c w N' := by
  rcases h with ⟨v, w', hr, hn⟩ | ⟨w', hr, hn⟩ | ⟨f, args, w', hr, hn⟩ | ⟨l, f, tmps, as, bd, w', hr, hn⟩
  · exact .inl ⟨v, w', hr, hm _ _ hn⟩
  · exact .inr (.inl ⟨w', hr, hm _ _ hn⟩)
  · exact .inr (.inr (.inl ⟨f, args, w', hr, hn.mono fun _ _ ⟨v, he, hv⟩ => ⟨v, he, hm _ _ hv⟩⟩))
  · exact .inr (.inr (.inr ⟨l, f, tmps, as, bd, w', hr, hn.mono fun _ _ ⟨v, he, hv⟩ => ⟨v, he, hm _ _ hv⟩⟩))
theorem OpOk.turn {cv : Act} {N N' : Act → World → Prop} (h : OpOk P o cv w N) (he : execOp c.eval o = execOp cv.eval o) (hm : ∀ v w, N (cv.put o.dst v) w → N' (c.put o.dst v) w) : OpOk P o c w N' := by
  unfold OpOk at *
  rw [he]
  rcases h with ⟨v, w', hr, hn⟩ | ⟨w', hr, hn⟩ | ⟨f, args, w', hr, hn⟩ | ⟨l, f, tmps, as, bd, w', hr, hn⟩
  · exact .inl ⟨v, w', hr, hm _ _ hn⟩
  · exact .inr (.inl ⟨w', hr, hm _ _ hn⟩)
  · exact .inr (.inr (.inl ⟨f, args, w', hr, hn.mono fun _ _ ⟨v, he, hv⟩ => ⟨v, he, hm _ _ hv⟩⟩))
  · exact .inr (.inr (.inr ⟨l, f, tmps, as, bd, w', hr, hn.mono fun _ _ ⟨v, he, hv⟩ => ⟨v, he, hm _ _ hv⟩⟩))
theorem ok_skip (h : ok a c) (hd : Dst o c) : ok (a.put o.dst (skipV D o)) (c.put o.dst undef) := by
  refine ok_put h hd fun x hx => ?_
  unfold skipV at hx
  cases hb : Nat.beq (opKind D o.op) 0 with
  | true => rw [hb] at hx; cases hx; rfl
  | false => rw [hb] at hx; cases hx
theorem denG_ok (T : TbOk P D) {ops : Array Oper} {gs : GS} {i : Nat} (h : ok a c) (hd : Dst o c) (hk : denG P D ops.toList gs i o a K w) :
    (Region.wanted o (yielded ops c.tmps) = true ∧ (∀ x, o.op ≠ .defer x) ∧ OpOk P o c w (Nx K c)) ∨ (Region.wanted o (yielded ops c.tmps) = false ∧ Nx K c (c.put o.dst undef) w) := by
  unfold denG at hk
  cases hg : o.guard with
  | none =>
    rw [hg] at hk
    exact .inl ⟨by simp [Region.wanted, hg], no_defer hk, (denOp_ok T h hd hk).mono fun _ _ hn => split_ok hn⟩
  | some q =>
    obtain ⟨j, want⟩ := q
    rw [hg] at hk
    dsimp only at hk
    cases hj : (nth ops.toList j).bind (·.dst) with
    | none => rw [hj] at hk; exact False.elim hk
    | some d =>
      rw [hj] at hk
      dsimp only at hk
      cases hget : a.get d with
      | none => rw [hget] at hk; exact False.elim hk
      | some s =>
        rw [hget] at hk
        cases s with
        | lit b =>
          dsimp only at hk
          have hy : yielded ops c.tmps j = some b := by
            have e1 : (ops[j]?).bind (·.dst) = some d := by rw [← hj, nth_getElem?, Array.getElem?_toList]
            have e2 := h d _ hget
            simp only [yielded, e1, Option.bind_some, e2, toV_lit]
          cases hb : (b == want) with
          | true =>
            rw [hb] at hk
            exact .inl ⟨by simp only [Region.wanted, hg, hy]; simpa using hb, no_defer hk, (denOp_ok T h hd hk).mono fun _ _ hn => split_ok hn⟩
          | false =>
            rw [hb] at hk
            exact .inr ⟨by simp only [Region.wanted, hg, hy]; simpa using hb, _, hk, ok_skip h hd, by simp, by simp⟩
        | v x =>
          cases x with
          | tuple cs =>
            dsimp only at hk
            have hy : yielded ops c.tmps j = none := by
              have e1 : (ops[j]?).bind (·.dst) = some d := by rw [← hj, nth_getElem?, Array.getElem?_toList]
              have e2 := h d _ hget
              simp only [yielded, e1, Option.bind_some, e2, SV.toV]
            exact .inr ⟨by simp only [Region.wanted, hg, hy]; rfl, _, hk, ok_skip h hd, by simp, by simp⟩
          | _ => exact False.elim hk
        | _ => exact False.elim hk
def Fin (K : AT → PT) (N : Nat) (ds : List Deferred) (c : Act) (w : World) : Prop := ∃ a, K a w ∧ ok a c ∧ c.tmps.size = N ∧ c.defers = ds
theorem number_getElem : ∀ (l : List Oper) (k : Nat) (x : Nat × Oper), x ∈ number k l → k ≤ x.1 ∧ l[x.1 - k]? = some x.2
  | [], k, x, h => by cases h
  | y :: l, k, x, h => by
    simp only [number, List.mem_cons] at h
    rcases h with rfl | h
    · simp
    · obtain ⟨h1, h2⟩ := number_getElem l (k + 1) x h
      refine ⟨by omega, ?_⟩
      have : x.1 - k = (x.1 - (k + 1)) + 1 := by omega
      rw [this]; simpa using h2
theorem number_fst : ∀ (l : List Oper) (k : Nat), (number k l).map (·.1) = List.range' k l.length
  | [], k => rfl
  | _ :: l, k => by simp [number, number_fst l, List.range'_succ]
theorem denSeq_ok (T : TbOk P D) {ops : Array Oper} {gs : GS} {N : Nat} {ds : List Deferred} {Fr : Act → Prop} (hFr : ∀ (i : Nat) (o : Oper) c v, ops[i]? = some o → Fr c → Fr (c.put o.dst v)) (hQ : ∀ c w, Fin K N ds c w → Fr c → Q .normal c w) :
    ∀ (l : List (Nat × Oper)) (a : AT) (c : Act) (w : World), Fr c → (∀ x ∈ l, ops[x.1]? = some x.2) → (∀ x ∈ l, ∀ t, x.2.dst = some t → t < N) → denSeq P D ops.toList gs l a K w → ok a c → c.tmps.size = N → c.defers = ds →
      wpOpsIn (FR ro) 0 P ops Q (l.map (·.1)) c w
  | [], a, c, w, hf, _, _, hk, h, hN, hds => hQ c w ⟨a, hk, h, hN, hds⟩ hf
  | (i, o) :: l, a, c, w, hf, hl, hdst, hk, h, hN, hds => by
    have ho := hl (i, o) (List.mem_cons_self ..)
    have hd : Dst o c := fun t ht => by rw [hN]; exact hdst (i, o) (List.mem_cons_self ..) t ht
    have rest : ∀ v w', Nx (fun a => denSeq P D ops.toList gs l a K) c (c.put o.dst v) w' → wpOpsIn (FR ro) 0 P ops Q (l.map (·.1)) (c.put o.dst v) w' := fun v w' ⟨a', hk', h', hs', hd'⟩ =>
      denSeq_ok T hFr hQ l a' _ w' (hFr i o c v ho hf) (fun x hx => hl x (List.mem_cons_of_mem _ hx)) (fun x hx => hdst x (List.mem_cons_of_mem _ hx)) hk' h' (hs'.trans hN) (hd'.trans hds)
    simp only [List.map_cons, wpOpsIn, ho]
    rcases denG_ok T h hd hk with ⟨hw, hnd, hop⟩ | ⟨hw, hn⟩
    · rw [if_pos hw]
      exact wpIn_of_opOk hnd (hop.turn rfl rest)
    · rw [if_neg (by simp [hw])]
      exact ⟨fun _ _ => trivial, rest _ _ hn⟩
end
end Go.Dm
