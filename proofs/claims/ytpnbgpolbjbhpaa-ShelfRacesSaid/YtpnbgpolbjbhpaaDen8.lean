/- The reading of code as predicates, and its soundness (text Den8). No conditions beyond those its theorems state. -/
import Derived.Test.YtpnbgpolbjbhpaaDen7
set_option linter.all false
namespace Go.Dm
section
variable {P : Program} {D : Tb} {w w' : World} {a : AT} {c : Act} {o : Oper} {K : AT → PT}
theorem run_bound {k : IntKind} {l : Int} {y : Nat} (code : BoundsCode) (h0 : 0 ≤ l) (h1 : l ≤ y) : (Instr.sliceBound (.int k l) y code).run P w = .ok l.toNat w := by
  simp [Instr.sliceBound, asIntOf, h0, h1]
theorem run_bounds {sl : Bool} {len cap : Nat} {lo hi mx : Option Value} {l h m : Int}
    (hl : lo = none ∧ l = 0 ∨ ∃ k, lo = some (.int k l)) (hh : hi = none ∧ h = len ∧ mx = none ∨ ∃ k, hi = some (.int k h)) (hm : mx = none ∧ m = cap ∨ ∃ k, mx = some (.int k m))
    (h0 : 0 ≤ l) (h1 : l ≤ h) (h2 : h ≤ m) (h3 : m ≤ cap) : (Instr.sliceBounds sl len cap lo hi mx).run P w = .ok (l.toNat, h.toNat, m.toNat) w := by
  have e1 : ∀ {x : Int}, 0 ≤ x → ((x.toNat : Nat) : Int) = x := fun hx => Int.toNat_of_nonneg hx
  have hh0 : 0 ≤ h := by omega
  have hm0 : 0 ≤ m := by omega
  rcases hm with ⟨rfl, rfl⟩ | ⟨km, rfl⟩
  · rcases hh with ⟨rfl, rfl, _⟩ | ⟨kh, rfl⟩
    · rcases hl with ⟨rfl, rfl⟩ | ⟨kl, rfl⟩
      · simp [Instr.sliceBounds]
      · simp [Instr.sliceBounds, run_bound _ h0 h1]
    · have hb := fun code => run_bound (P := P) (w := w) (k := kh) (l := h) (y := cap) code hh0 h2
      rcases hl with ⟨rfl, rfl⟩ | ⟨kl, rfl⟩
      · simp [Instr.sliceBounds, hb]
      · have hb2 := fun code => run_bound (P := P) (w := w) (k := kl) (l := l) (y := h.toNat) code h0 (by rw [e1 hh0]; exact h1)
        simp [Instr.sliceBounds, hb, hb2]
  · have hb0 := fun code => run_bound (P := P) (w := w) (k := km) (l := m) (y := cap) code hm0 h3
    rcases hh with ⟨_, _, h⟩ | ⟨kh, rfl⟩
    · cases h
    · have hb := fun code => run_bound (P := P) (w := w) (k := kh) (l := h) (y := m.toNat) code hh0 (by rw [e1 hm0]; exact h2)
      rcases hl with ⟨rfl, rfl⟩ | ⟨kl, rfl⟩
      · simp [Instr.sliceBounds, hb0, hb]
      · have hb2 := fun code => run_bound (P := P) (w := w) (k := kl) (l := l) (y := h.toNat) code h0 (by rw [e1 hh0]; exact h1)
        simp [Instr.sliceBounds, hb0, hb, hb2]
theorem optOf {a : AT} {c : Act} (h : ok a c) {lo : Option Operand} {d : Int} {f : SV → PT} (hk : needV (match lo with | some x => a.ev x | none => some (.v (.int .i64 d))) f w) :
    ∃ s, f s w ∧ ((lo = none ∧ s = .v (.int .i64 d)) ∨ ∃ x, lo = some x ∧ c.eval x = s.toV) := by
  cases lo with
  | none => exact ⟨_, hk, .inl ⟨rfl, rfl⟩⟩
  | some x =>
    obtain ⟨s, hs, hk⟩ := needV_some hk
    exact ⟨s, hk, .inr ⟨x, rfl, ok_ev h hs⟩⟩
theorem op_slice (T : TbOk P D) {t : TypeId} {x : Operand} {lo hi mx : Option Operand} (h : ok a c) (hd : Dst o c) (hop : o.op = .slice t x lo hi mx) (hk : denOp P D o a K w) : OpOk P o c w (Nx K c) := by
  simp only [denOp, hop] at hk
  obtain ⟨s, hs, hk⟩ := needV_some hk
  have hv := ok_ev h hs
  cases s with
  | v y => cases y with
    | string s =>
      dsimp only at hk
      cases mx with
      | some _ => exact False.elim hk
      | none =>
        cases hD : D.t t with
        | none => rw [hD] at hk; exact False.elim hk
        | some ti =>
          rw [hD] at hk
          obtain ⟨i1, d, hi1, hu, hd1, hsz, he, hz⟩ := Da T hD
          obtain ⟨td, m, e1, z⟩ := ti
          cases td with
          | str =>
            obtain rfl := tdOf_str hd1
            simp only [Option.isNone_none, if_true] at hk
            obtain ⟨sl, hk, hl⟩ := optOf h hk
            cases sl with
            | v y => cases y with
              | int kl l =>
                dsimp only at hk
                obtain ⟨sh, hk, hh⟩ := optOf h hk
                cases sh with
                | v y => cases y with
                  | int kh hh' =>
                    obtain ⟨⟨h0, h1, h2⟩, hk⟩ := hk
                    have hb := run_bounds (P := P) (w := w) (sl := false) (len := s.size) (cap := s.size) (lo := lo.map c.eval) (hi := hi.map c.eval) (mx := none) (l := l) (h := hh') (m := s.size)
                      (by rcases hl with ⟨rfl, e⟩ | ⟨x, rfl, e⟩
                          · cases e; exact .inl ⟨rfl, rfl⟩
                          · exact .inr ⟨kl, by simp [e]⟩)
                      (by rcases hh with ⟨rfl, e⟩ | ⟨x, rfl, e⟩
                          · cases e; exact .inl ⟨rfl, rfl, rfl⟩
                          · exact .inr ⟨kh, by simp [e]⟩) (.inl ⟨rfl, rfl⟩) h0 h1 h2 (Int.le_refl _)
                    exact fin_s h hd (.v (.string (s.extract l.toNat hh'.toNat))) (by simp [execOp, hop, hv, Instr.sliceAt, Instr.slice, run_underlying hu, hb]) rfl hk
                  | _ => exact False.elim hk
                | _ => exact False.elim hk
              | _ => exact False.elim hk
            | _ => exact False.elim hk
          | _ => exact False.elim hk
    | slice sa len cap =>
      dsimp only at hk
      cases hD : D.t t with
      | none => rw [hD] at hk; exact False.elim hk
      | some ti =>
        rw [hD] at hk
        obtain ⟨i1, d, hi1, hu, hd1, hsz, he, hz⟩ := Da T hD
        obtain ⟨td, m, e1, z⟩ := ti
        cases td with
        | slice e =>
          obtain rfl := tdOf_slice hd1
          dsimp only at hk
          cases hD2 : D.t e with
          | none => rw [hD2] at hk; exact False.elim hk
          | some te =>
            rw [hD2] at hk
            dsimp only at hk
            obtain ⟨i2, d2, hi2, hu2, hd2, hsz2, he2, hz2⟩ := Da T hD2
            split at hk
            · exact False.elim hk
            · rename_i hmh
              obtain ⟨sl, hk, hl⟩ := optOf h hk
              cases sl with
              | v y => cases y with
                | int kl l =>
                  dsimp only at hk
                  obtain ⟨sh, hk, hh⟩ := optOf h hk
                  cases sh with
                  | v y => cases y with
                    | int kh hh' =>
                      dsimp only at hk
                      obtain ⟨sm, hk, hm⟩ := optOf h hk
                      cases sm with
                      | v y => cases y with
                        | int km mm =>
                          obtain ⟨⟨h0, h1, h2, h3⟩, hk⟩ := hk
                          have hb := run_bounds (P := P) (w := w) (sl := true) (len := len) (cap := cap) (lo := lo.map c.eval) (hi := hi.map c.eval) (mx := mx.map c.eval) (l := l) (h := hh') (m := mm)
                            (by rcases hl with ⟨rfl, e⟩ | ⟨x, rfl, e⟩
                                · cases e; exact .inl ⟨rfl, rfl⟩
                                · exact .inr ⟨kl, by simp [e]⟩)
                            (by rcases hh with ⟨rfl, e⟩ | ⟨x, rfl, e⟩
                                · cases e
                                  refine .inl ⟨rfl, rfl, ?_⟩
                                  cases mx with
                                  | none => rfl
                                  | some _ => simp at hmh
                                · exact .inr ⟨kh, by simp [e]⟩)
                            (by rcases hm with ⟨rfl, e⟩ | ⟨x, rfl, e⟩
                                · cases e; exact .inl ⟨rfl, rfl⟩
                                · exact .inr ⟨km, by simp [e]⟩) h0 h1 h2 h3
                          exact fin_s h hd (.v (.slice (if mm.toNat = l.toNat then sa else sa.map (·.add (l.toNat * te.size))) (hh'.toNat - l.toNat) (mm.toNat - l.toNat)))
                            (by simp [execOp, hop, hv, Instr.sliceAt, Instr.slice, run_underlying hu, hb, run_sizeOf' hi2, hsz2]) rfl hk
                        | _ => exact False.elim hk
                      | _ => exact False.elim hk
                    | _ => exact False.elim hk
                  | _ => exact False.elim hk
                | _ => exact False.elim hk
              | _ => exact False.elim hk
        | _ => exact False.elim hk
    | _ => exact False.elim hk
  | _ => exact False.elim hk
theorem svNth_val : ∀ (es : List E1) (x : TT es) (i : Nat) (s : SV), svNth es x i = some s → (TV es x)[i]? = some s.toV
  | [], _, _, s, h => by cases h
  | e :: _, x, 0, s, h => by cases h; simp [TV, sv_val]
  | _ :: es, x, n + 1, s, h => by simpa [TV] using svNth_val es x.2 n s h
theorem op_extract {x : Operand} {i : Nat} (h : ok a c) (hd : Dst o c) (hop : o.op = .extract x i) (hk : denOp P D o a K w) : OpOk P o c w (Nx K c) := by
  simp only [denOp, hop] at hk
  cases hs : a.ev x with
  | none => rw [hs] at hk; exact False.elim hk
  | some s =>
    rw [hs] at hk
    have hv := ok_ev h hs
    cases s with
    | nx b es y =>
      cases i with
      | zero => exact fin_s h hd (.lit b) (by simp [execOp, hop, hv, Instr.extract, SV.toV]) rfl hk
      | succ i =>
        dsimp only at hk
        cases hn : svNth es y i with
        | none => rw [hn] at hk; exact False.elim hk
        | some s =>
          rw [hn] at hk
          have := svNth_val _ _ _ _ hn
          exact fin_s h hd s (by simp [execOp, hop, hv, Instr.extract, SV.toV, this]) rfl hk
    | tp es y =>
      dsimp only at hk
      cases hn : svNth es y i with
      | none => rw [hn] at hk; exact False.elim hk
      | some s =>
        rw [hn] at hk
        have := svNth_val _ _ _ _ hn
        exact fin_s h hd s (by simp [execOp, hop, hv, Instr.extract, SV.toV, this]) rfl hk
    | v y => cases y with
      | tuple vs =>
        dsimp only at hk
        cases hn : nth vs.toList i with
        | none => rw [hn] at hk; exact False.elim hk
        | some s =>
          rw [hn] at hk
          rw [nth_getElem?, Array.getElem?_toList] at hn
          exact fin_s h hd (.v s) (by simp [execOp, hop, hv, Instr.extract, hn]) rfl hk
      | _ => exact False.elim hk
    | _ => exact False.elim hk
theorem boolOf_toV {s : SV} {b : Bool} (h : s.boolOf = some b) : s.toV = .bool b := by
  cases s with
  | lit b => cases h; rfl
  | v x => cases x <;> simp [SV.boolOf] at h; subst h; rfl
  | _ => simp [SV.boolOf] at h
theorem op_unOp {op : UnOp} {t : TypeId} {x : Operand} (h : ok a c) (hd : Dst o c) (hop : o.op = .unOp op t x) (hk : denOp P D o a K w) : OpOk P o c w (Nx K c) := by
  simp only [denOp, hop] at hk
  obtain ⟨s, hs, hk⟩ := needV_some hk
  have hv := ok_ev h hs
  cases op with
  | not =>
    dsimp only at hk
    cases hb : s.boolOf with
    | none => rw [hb] at hk; exact False.elim hk
    | some b =>
      rw [hb] at hk
      exact fin_s h hd (.v (.bool (!b))) (by simp [execOp, hop, hv, boolOf_toV hb, Op.unary]) rfl hk
  | neg =>
    cases s with
    | v y => cases y with
      | int k n => exact fin_s h hd (.v (.int k (k.wrap (0 - n)))) (by simp [execOp, hop, hv, Op.unary, Op.intArith]) rfl hk
      | _ => exact False.elim hk
    | _ => exact False.elim hk
  | _ => exact False.elim hk
theorem op_makeInterface (T : TbOk P D) {t : TypeId} {x : Operand} (h : ok a c) (hd : Dst o c) (hop : o.op = .makeInterface t x) (hk : denOp P D o a K w) : OpOk P o c w (Nx K c) := by
  simp only [denOp, hop] at hk
  obtain ⟨s, hs, hk⟩ := needV_some hk
  have hv := ok_ev h hs
  cases hD : D.t t with
  | none => rw [hD] at hk; exact False.elim hk
  | some ti =>
    rw [hD] at hk
    obtain ⟨i1, d, hi1, hu, hd1, hsz, he, hz⟩ := Da T hD
    obtain ⟨td, m, e1, z⟩ := ti
    have key : (∀ ms, d ≠ .interface ms) → K (setV a o (.iface t s.toV)) w → OpOk P o c w (Nx K c) := fun hne hk =>
      fin_s h hd (.v (.iface t s.toV)) (by cases d <;> simp_all [execOp, hop, hv, Instr.makeInterface, run_underlying hu]) rfl hk
    dsimp only at hd1
    cases td with
    | iface => exact False.elim hk
    | _ => exact key (fun ms e => by subst e; cases hd1) hk
theorem op_makeFunc {f : Fn} {x y : Array Operand} (h : ok a c) (hd : Dst o c) (hop : o.op = .makeFunc f x y) (hk : denOp P D o a K w) : OpOk P o c w (Nx K c) := by
  simp only [denOp, hop] at hk
  cases h1 : argsOf a x.toList with
  | none => rw [h1] at hk; exact False.elim hk
  | some l1 => cases h2 : argsOf a y.toList with
    | none => rw [h1, h2] at hk; exact False.elim hk
    | some l2 =>
      rw [h1, h2] at hk
      have e1 : x.map c.eval = (vals l1).toArray := by rw [← ok_argsOf h h1]; exact Array.ext' (by simp)
      have e2 : y.map c.eval = (vals l2).toArray := by rw [← ok_argsOf h h2]; exact Array.ext' (by simp)
      exact fin_s h hd (.v (.func f (vals l1).toArray (vals l2).toArray)) (by simp [execOp, hop, Instr.makeFunc, e1, e2]) rfl hk
end
end Go.Dm
