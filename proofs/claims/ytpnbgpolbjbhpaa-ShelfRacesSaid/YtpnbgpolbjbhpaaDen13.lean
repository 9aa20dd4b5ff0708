/- The reading of code as predicates, and its soundness (text Den13). No conditions beyond those its theorems state. -/
import Derived.Test.YtpnbgpolbjbhpaaDen12
import Derived.OrdersIn
set_option linter.all false
namespace Go.Dm
section
variable {P : Program} {D : Tb} {w w' : World} {a : AT} {c cv : Act} {o : Oper} {K : AT → PT} {Q : Exit → Act → World → Prop} {ro : Option Nat} {ops : Array Oper}

theorem kind_value {ρ : Operand → Value} (hk : opKind D o.op < 2) {n : Next} (hr : (execOp ρ o).run P w = .ok n w') : ∃ v, n = .value v := by
  have key : ∀ s : Sem Value, (do pure (.value (← s)) : Sem Next).run P w = .ok n w' → ∃ v, n = .value v := by
    intro s h
    rw [Sem.run_bind] at h
    cases hs : s.run P w with
    | ok v w1 => rw [hs] at h; simp at h; exact ⟨v, h.1.symm⟩
    | halt x w1 => rw [hs] at h; simp at h
  cases hop : o.op with
  | move x => simp [execOp, hop] at hr; exact ⟨_, hr.1.symm⟩
  | nilCheck x =>
    simp only [execOp, hop] at hr
    split at hr
    · simp [runtimePanic, goPanic, program, Sem.run] at hr
    · simp [runtimePanic, goPanic, program, Sem.run] at hr
    · simp [runtimePanic, goPanic, program, Sem.run] at hr
    · split at hr
      · simp [runtimePanic, goPanic, program, Sem.run] at hr
      · rename_i t v _
        rw [Sem.run_bind] at hr
        cases hp : (program).run P w with
        | halt x w1 => rw [hp] at hr; simp at hr
        | ok p w1 =>
          rw [hp] at hr
          simp only [Result.andThen_ok] at hr
          rw [Sem.run_bind] at hr
          cases hn : (nilAhead (p.types.size + Made.depth) t v _).run P w1 with
          | halt x w2 => rw [hn] at hr; simp at hr
          | ok b w2 =>
            rw [hn] at hr
            simp only [Result.andThen_ok] at hr
            split at hr
            · simp [unsupported, Sem.run] at hr
            · simp at hr; exact ⟨_, hr.1.symm⟩
      · simp at hr; exact ⟨_, hr.1.symm⟩
    · simp at hr; exact ⟨_, hr.1.symm⟩
  | call cl =>
    obtain ⟨cal, args, tys⟩ := cl
    rw [hop] at hk
    cases cal with
    | builtin b =>
      cases b with
      | len => exact key (Builtin.len_ tys o.type (args.map ρ)) (by rw [← hr]; simp only [execOp, hop, resolve]; rfl)
      | min => exact key (Builtin.min_ tys o.type (args.map ρ)) (by rw [← hr]; simp only [execOp, hop, resolve]; rfl)
      | max => exact key (Builtin.max_ tys o.type (args.map ρ)) (by rw [← hr]; simp only [execOp, hop, resolve]; rfl)
      | _ => simp [opKind] at hk
    | _ => simp [opKind] at hk
  | pick x y z =>
    simp only [execOp, hop] at hr
    rw [Sem.run_bind] at hr
    cases hb : (asBool (ρ x)).run P w with
    | halt x w1 => rw [hb] at hr; simp at hr
    | ok b w1 => rw [hb] at hr; simp at hr; exact ⟨_, hr.1.symm⟩
  | _ => first | (rw [hop] at hk; simp [opKind] at hk; done) | (exact key _ (by rw [← hr]; simp only [execOp, hop]; first | done | rfl))

/-- a read-only operation, met on the temporaries as they are known -/
theorem virt (T : TbOk P D) (hkind : opKind D o.op < 2) (hR : opKind D o.op = 1 → o.dst.isSome = true) (hd : Dst o cv) (hok : ok a cv) (hk : denOp P D o a K w) :
    ∃ s : SV, K (a.put o.dst (some s)) w ∧ (opKind D o.op = 1 → ∀ ch, mkChk o a (a.put o.dst (some s)) = some ch → chkHolds P ch w) ∧
      ∀ w', (opKind D o.op = 1 → ∀ ch, mkChk o a (a.put o.dst (some s)) = some ch → chkHolds P ch w') → ∃ v, (execOp cv.eval o).run P w' = .ok (.value v) w' ∧ ∀ d, o.dst = some d → v = s.toV := by
  obtain ⟨s, h1, h2, h3⟩ := pr_of hkind hR hk
  refine ⟨s, h1, h2, fun w' hch => ?_⟩
  have h := denOp_ok T hok hd (h3 w' hch)
  rcases h with ⟨v, w1, hr, a', ⟨hw, ha⟩, hok', _⟩ | ⟨w1, hr, _⟩ | ⟨f, args, w1, hr, _⟩ | ⟨l, f, t, as, bd, w1, hr, _⟩
  · subst hw
    refine ⟨v, hr, fun d hdd => ?_⟩
    subst ha
    rw [hdd] at hok'
    have := hok' d s (get_put a d s)
    have hlt := hd d hdd
    simp [Act.put, Array.getElem?_setIfInBounds, hlt] at this
    exact this
  · obtain ⟨v, hv⟩ := kind_value hkind hr; cases hv
  · obtain ⟨v, hv⟩ := kind_value hkind hr; cases hv
  · obtain ⟨v, hv⟩ := kind_value hkind hr; cases hv
theorem mem_tmpsOf {t : Nat} : ∀ {l : List Operand}, Operand.tmp t ∈ l → t ∈ tmpsOf l
  | x :: l, h => by
    cases h with
    | head => simp [tmpsOf]
    | tail _ h => cases x <;> simp [tmpsOf, mem_tmpsOf h]
theorem eval_agree {c' : Act} (hs : ∀ cs b, o.op ≠ .select cs b) (h : ∀ t ∈ readsOf ops.toList o, c'.tmps[t]? = cv.tmps[t]?) : execOp c'.eval o = execOp cv.eval o := by
  refine execOp_congr o hs fun x hx => ?_
  cases x with
  | tmp t =>
    have := h t (by unfold readsOf; exact List.mem_append_left _ (mem_tmpsOf (Array.mem_toList_iff.2 hx)))
    simp [Act.eval, this]
  | _ => rfl
theorem wanted_agree {c' : Act} (h : ∀ t ∈ readsOf ops.toList o, c'.tmps[t]? = cv.tmps[t]?) : Region.wanted o (yielded ops c'.tmps) = Region.wanted o (yielded ops cv.tmps) := by
  unfold Region.wanted
  cases hg : o.guard with
  | none => rfl
  | some q =>
    obtain ⟨j, b⟩ := q
    have e : yielded ops c'.tmps j = yielded ops cv.tmps j := by
      unfold yielded
      cases hj : (ops[j]?).bind (·.dst) with
      | none => rfl
      | some d =>
        have := h d (by
          unfold readsOf
          refine List.mem_append_right _ ?_
          have e1 : (nth ops.toList j).bind (·.dst) = some d := by rw [nth_getElem?, Array.getElem?_toList]; exact hj
          simp [hg, e1])
        simp only [Option.bind_some, this]
    simp only [e]
theorem memN_iff {i : Nat} : ∀ {l : List Nat}, memN i l = true ↔ i ∈ l
  | [] => by simp [memN]
  | x :: l => by
    simp only [memN, List.mem_cons]
    by_cases h : x = i
    · subst h; simp
    · have : Nat.beq x i = false := by rw [← Bool.not_eq_true, Nat.beq_eq]; exact h
      rw [this]
      simp only [cond]
      rw [memN_iff]
      constructor
      · exact .inr
      · rintro (e | e)
        · exact absurd e.symm h
        · exact e
theorem mem_number {l : List Oper} {k : Nat} : ∀ {i : Nat}, l[i]? = some o → (k + i, o) ∈ number k l := by
  induction l generalizing k with
  | nil => intro i h; simp at h
  | cons x l ih =>
    intro i h
    cases i with
    | zero => simp at h; subst h; simp [number]
    | succ i =>
      simp at h
      have := ih (k := k + 1) h
      have e : k + 1 + i = k + (i + 1) := by omega
      rw [e] at this
      exact List.mem_cons_of_mem _ this
theorem nth_append_lt {α : Type} : ∀ {l : List α} {r : List α} {i : Nat}, i < l.length → nth (l ++ r) i = nth l i := by
  intro l r i h; rw [nth_getElem?, nth_getElem?, List.getElem?_append_left h]
/-- closed under what must come ahead -/
def Closed (ops : Array Oper) (Z : Nat → Prop) : Prop := ∀ i o, ops[i]? = some o → Z i → ∀ e ∈ o.after.toList, Region.binds .any e = true → Z e.on
def Good (ops : Array Oper) (i m : Nat) : Prop := ∀ Z, Closed ops Z → (∀ o, ops[i]? = some o → ∀ e ∈ o.after.toList, Region.binds .any e = true → Z e.on) → ∀ r, m.testBit r = true → Z r
theorem maskOf_good {acc : List Nat} (hacc : ∀ i m, nth acc i = some m → Good ops i m) : ∀ (es : List Edge) (Z : Nat → Prop), Closed ops Z → (∀ e ∈ es, Region.binds .any e = true → Z e.on) → ∀ r, (maskOf acc es).testBit r = true → Z r
  | [], Z, hZ, he, r, hr => by simp [maskOf] at hr
  | e :: es, Z, hZ, he, r, hr => by
    simp only [maskOf] at hr
    have rest := maskOf_good hacc es Z hZ (fun e' h' => he e' (List.mem_cons_of_mem _ h')) r
    split at hr
    · rename_i hb
      have hon := he e (List.mem_cons_self ..) hb
      simp only [Nat.testBit_or, Bool.or_eq_true] at hr
      rcases hr with (hr | hr) | hr
      · rw [Nat.testBit_two_pow] at hr
        simp at hr; subst hr; exact hon
      · cases hm : nth acc e.on with
        | none => rw [hm] at hr; simp at hr
        | some m =>
          rw [hm] at hr
          exact hacc e.on m hm Z hZ (fun o ho e' he' hb' => hZ e.on o ho hon e' he' hb') r hr
      · exact rest hr
    · exact rest hr
theorem masks_good : ∀ (l : List Oper) (acc : List Nat), (∀ i m, nth acc i = some m → Good ops i m) → (∀ j o, l[j]? = some o → ops[acc.length + j]? = some o) → ∀ i m, nth (masks l acc) i = some m → Good ops i m
  | [], acc, h, _, i, m, hm => h i m hm
  | o :: l, acc, h, hl, i, m, hm => by
    simp only [masks] at hm
    refine masks_good l _ ?_ ?_ i m hm
    · intro i m hm
      by_cases hi : i < acc.length
      · rw [nth_append_lt hi] at hm; exact h i m hm
      · rw [nth_getElem?, List.getElem?_append_right (by omega)] at hm
        by_cases hi2 : i = acc.length
        · subst hi2
          simp at hm
          subst hm
          have ho := hl 0 o rfl
          simp at ho
          intro Z hZ he
          exact maskOf_good h _ Z hZ (fun e he' hb => he o ho e he' hb)
        · have : i - acc.length ≠ 0 := by omega
          simp [this] at hm
    · intro j o' hj
      have := hl (j + 1) o' (by simpa using hj)
      simp only [List.length_append, List.length_cons, List.length_nil]
      have e : acc.length + (0 + 1) + j = acc.length + (j + 1) := by omega
      rw [e]; exact this
theorem mask_anc {i r : Nat} {Z : Nat → Prop} (hZ : Closed ops Z) (he : ∀ o, ops[i]? = some o → ∀ e ∈ o.after.toList, Region.binds .any e = true → Z e.on) (hr : (maskAt (masks ops.toList []) i).testBit r = true) : Z r := by
  unfold maskAt at hr
  cases hm : nth (masks ops.toList []) i with
  | none => rw [hm] at hr; simp at hr
  | some m =>
    rw [hm] at hr
    exact masks_good ops.toList [] (fun i m h => by simp [nth] at h) (fun j o h => by simpa [Array.getElem?_toList] using h) i m hm Z hZ he r hr
end
end Go.Dm
