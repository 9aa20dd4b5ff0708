/- The reading of code as predicates, and its soundness (text Den18). No conditions beyond those its theorems state. -/
import Derived.Test.YtpnbgpolbjbhpaaDen17
set_option linter.all false
namespace Go.Dm
section
variable {P : Program} {D : Tb}
def resOne (tmps : Array Value) : ResultVar → Sem Value
  | .tmp t => pure (tmps.getD t undef)
  | .cell a t => do loadVar t (← asAddr (tmps.getD a undef))
theorem results_eq (fn : Func) (tmps : Array Value) : results fn tmps = (do let vs ← fn.results.mapM (resOne tmps); pure (if h : vs.size = 1 then vs[0] else .tuple vs)) := by
  unfold results
  rfl
theorem denRes_ok (T : TbOk P D) {a : AT} {c : Act} {w : World} (ho : ok a c) : ∀ (l : List ResultVar) (K : List Value → PT), denRes D a l K w → ∃ vs, (l.mapM (resOne c.tmps)).run P w = .ok vs w ∧ K vs w
  | [], K, h => ⟨[], by simp, h⟩
  | .tmp t :: r, K, h => by
    simp only [denRes] at h
    cases hs : a.get t with
    | none => rw [hs] at h; exact h.elim
    | some s =>
      rw [hs] at h
      obtain ⟨vs, hr, hk⟩ := denRes_ok T ho r _ h
      refine ⟨s.toV :: vs, ?_, hk⟩
      have := ho t s hs
      simp [List.mapM_cons, resOne, Array.getD_eq_getD_getElem?, this, Sem.run_bind, hr]
  | .cell p t :: r, K, h => by
    simp only [denRes] at h
    obtain ⟨s, hs, h⟩ := needV_some h
    have hp := ho p s hs
    cases s with
    | v y => cases y with
      | pointer q => cases q with
        | none => exact h.elim
        | some ad =>
          dsimp only at h
          cases hD : D.t t with
          | none => rw [hD] at h; exact h.elim
          | some ti =>
            obtain ⟨td, n, e1, z⟩ := ti
            rw [hD] at h
            cases e1 with
            | none => exact h.elim
            | some e =>
              obtain ⟨x, hc, h⟩ := h
              obtain ⟨vs, hr, hk⟩ := denRes_ok T ho r _ h
              refine ⟨e.val x :: vs, ?_, hk⟩
              have hl := run_load T hD rfl hc
              have ha : (asAddr (c.tmps.getD p undef)).run P w = .ok ad w := by
                rw [Array.getD_eq_getD_getElem?, hp]; simp [SV.toV, asAddr]
              rw [Array.getD_eq_getD_getElem?] at ha
              simp [List.mapM_cons, resOne, Sem.run_bind, ha, hl, hr]
      | _ => exact h.elim
    | _ => exact h.elim
theorem tupled_eq : ∀ (vs : List Value), (if h : vs.toArray.size = 1 then vs.toArray[0] else .tuple vs.toArray) = tupled vs
  | [] => rfl
  | [v] => rfl
  | _ :: _ :: _ => rfl
theorem leaves_ok (T : TbOk P D) {fn : Func} {a : AT} {c : Act} (ho : ok a c) {K : Value → PT} : ∀ (ds : List Nat) (w : World), L.unmark P ds (denRes D a fn.results.toList fun vs => K (tupled vs)) w →
    LeavesInM (FR none) 0 P fn c.tmps (fun e w' => ∃ v, e = .returned v ∧ K v w') (marks ds) .returning w
  | [], w, h => by
    obtain ⟨vs, hr, hk⟩ := denRes_ok T ho _ _ h
    refine ⟨tupled vs, ?_, _, rfl, hk⟩
    rw [results_eq, ← tupled_eq, Sem.run_bind]
    have e : fn.results.mapM (resOne c.tmps) = (do let l ← fn.results.toList.mapM (resOne c.tmps); pure l.toArray) := by
      rw [Array.mapM_eq_mapM_toList]; rfl
    rw [e, Sem.run_bind, hr]
    simp
  | d :: ds, w, h => by
    obtain ⟨w', hr, h⟩ := h
    exact ⟨by simp, .inl ⟨d, w', rfl, hr, leaves_ok T ho ds w' h⟩⟩
def okF (n : Nat) (fn : Func) : Bool := match fn.body with
  | some c => inB fn.ntmps c && Nat.ble n fn.ntmps
  | none => false
theorem argsT_ok : ∀ (args : List SV) (n t : Nat) (s : SV), (argsT n args).get t = some s → n ≤ t ∧ (vals args)[t - n]? = some s.toV
  | [], n, t, s, h => by cases h
  | v :: vs, n, t, s, h => by
    simp only [argsT] at h
    rw [get_cons] at h
    by_cases e : n = t
    · subst e
      rw [if_pos rfl] at h; cases h
      exact ⟨Nat.le_refl _, by simp [vals]⟩
    · rw [if_neg e] at h
      obtain ⟨h1, h2⟩ := argsT_ok vs (n + 1) t s h
      refine ⟨by omega, ?_⟩
      have : t - n = (t - (n + 1)) + 1 := by omega
      rw [this]; simpa [vals] using h2
theorem vals_len : ∀ (l : List SV), (vals l).length = l.length
  | [] => rfl
  | _ :: l => by simp [vals, vals_len l]
/-- **A FUNCTION'S CONTRACT OUT OF ITS READING** -/
theorem denF_ok (T : TbOk P D) {f : FuncId} {fn : Func} {an : Ann} {args : List SV} {K : Value → PT} {w : World} (hf : P.funcs[f]? = some fn) (hin : okF args.length fn = true) (h : denF P D fn an args K w) :
    Calls P f (vals args).toArray w fun e w' => ∃ v, e = .returned v ∧ K v w' := by
  unfold okF at hin
  unfold denF at h
  cases hb : fn.body with
  | none => rw [hb] at h; exact h.elim
  | some c =>
    rw [hb] at h hin
    simp only [Bool.and_eq_true, Nat.ble_eq] at hin
    dsimp only at h
    have h0 : CallsIn (FR none) 0 P f (vals args).toArray w fun e w' => ∃ v, e = .returned v ∧ K v w' := by
      refine callsIn_of_wp_marks hf hb trivial (wpIn_mono (den_ok T c an none _ [] _ fn.ntmps w _ hin.1 h ?_ ?_ rfl) ?_)
      · intro t s hs
        obtain ⟨_, h2⟩ := argsT_ok args 0 t s hs
        rw [Nat.sub_zero] at h2
        simp only
        rw [Array.getElem?_append_left (by simpa using (List.getElem?_eq_some_iff.1 h2).1)]
        simpa using h2
      · have := vals_len args
        simp; omega
      · intro e c' w' hq
        obtain ⟨a', ds', hk, ho', hN', hd', -, -⟩ := hq
        cases e with
        | normal => show LeavesInM _ _ _ _ _ _ _ _ _; rw [hd']; exact leaves_ok T ho' ds' w' hk
        | ret => show LeavesInM _ _ _ _ _ _ _ _ _; rw [hd']; exact leaves_ok T ho' ds' w' hk
        | _ => exact hk.elim
    exact callsIn_wide.1 h0
end
end Go.Dm
