/- The reading of code as predicates, and its soundness (text Den9). No conditions beyond those its theorems state. -/
import Derived.Test.YtpnbgpolbjbhpaaDen8
set_option linter.all false
namespace Go.Dm
section
variable {P : Program} {D : Tb} {w w' : World} {a : AT} {c : Act} {o : Oper} {K : AT → PT}

theorem run_bin {op : BinOp} {t t' : TypeId} {x y : Operand} {v : Value} (hop : o.op = .binOp op t x y t') (hg : (eqGuard op t x y (c.eval x) (c.eval y)).run P w = .ok () w)
    (hr : (binOp op t (c.eval x) (c.eval y)).run P w = .ok v w) : (execOp c.eval o).run P w = .ok (.value v) w := by
  simp [execOp, hop, hg, hr]
theorem run_bin2 {op : BinOp} {t t' : TypeId} {x y : Operand} {v : Value} (hop : o.op = .binOp op t x y t') (hr : (do eqGuard op t x y (c.eval x) (c.eval y); binOp op t (c.eval x) (c.eval y) : Sem Value).run P w = .ok v w) :
    (execOp c.eval o).run P w = .ok (.value v) w := by
  simp only [execOp, hop]
  rw [Sem.run_bind, hr]; rfl
theorem eq_ptr {t e : TypeId} (hu : P.underlying t = some (.pointer e)) (p : Option Addr) (w : World) : (Op.equal t (.pointer p) (.pointer none)).run P w = .ok p.isNone w := by
  have key : ∀ d, (Op.equalIn (d + 1) t (.pointer p) (.pointer none)).run P w = .ok p.isNone w := by
    intro d; cases p <;> simp [Op.equalIn, run_underlying hu]
  exact key 9999
theorem eq_slice {t e : TypeId} (hu : P.underlying t = some (.slice e)) (p : Option Addr) (n m n' m' : Nat) (w : World) : (Op.equal t (.slice p n m) (.slice none n' m')).run P w = .ok p.isNone w := by
  have key : ∀ d, (Op.equalIn (d + 1) t (.slice p n m) (.slice none n' m')).run P w = .ok p.isNone w := by
    intro d; cases p <;> simp [Op.equalIn, run_underlying hu]
  exact key 9999
theorem eq_map {t k e : TypeId} (hu : P.underlying t = some (.map k e)) (p : Option Nat) (w : World) : (Op.equal t (.map p) (.map none)).run P w = .ok p.isNone w := by
  have key : ∀ d, (Op.equalIn (d + 1) t (.map p) (.map none)).run P w = .ok p.isNone w := by
    intro d; cases p <;> simp [Op.equalIn, run_underlying hu]
  exact key 9999
theorem eq_ifc {t : TypeId} {ms : Array (String × TypeId)} (hu : P.underlying t = some (.interface ms)) (p : Option (TypeId × Value)) (w : World) : (Op.equal t (Lf.val .iface p) .nilIface).run P w = .ok p.isNone w := by
  have key : ∀ d, (Op.equalIn (d + 1) t (Lf.val .iface p) .nilIface).run P w = .ok p.isNone w := by
    intro d; cases p <;> simp [Op.equalIn, Lf.val, run_underlying hu]
  exact key 9999
theorem bin_eql {t : TypeId} {x y : Value} {b : Bool} (h : (Op.equal t x y).run P w = .ok b w) (hb : binOp .eql t x y = (do pure (.bool (← Op.equal t x y)) : Sem Value)) : (binOp .eql t x y).run P w = .ok (.bool b) w := by
  rw [hb]; simp [h]
theorem bin_neq {t : TypeId} {x y : Value} {b : Bool} (h : (Op.equal t x y).run P w = .ok b w) (hb : binOp .neq t x y = (do pure (.bool (!(← Op.equal t x y))) : Sem Value)) : (binOp .neq t x y).run P w = .ok (.bool (!b)) w := by
  rw [hb]; simp [h]
theorem guard_int {op : BinOp} {t : TypeId} {x y : Operand} {k k' : IntKind} {p q : Int} : (eqGuard op t x y (.int k p) (.int k' q)).run P w = .ok () w := by
  unfold eqGuard; cases op <;> simp
theorem guard_str {op : BinOp} {t : TypeId} {x y : Operand} {p q : ByteArray} : (eqGuard op t x y (.string p) (.string q)).run P w = .ok () w := by
  unfold eqGuard; cases op <;> simp
theorem guard_bool {op : BinOp} {t : TypeId} {x y : Operand} {p q : Bool} : (eqGuard op t x y (.bool p) (.bool q)).run P w = .ok () w := by
  unfold eqGuard; cases op <;> simp
theorem guard_ptr {op : BinOp} {t : TypeId} {x y : Operand} {p q : Option Addr} : (eqGuard op t x y (.pointer p) (.pointer q)).run P w = .ok () w := by
  unfold eqGuard; cases op <;> simp
theorem guard_slice {op : BinOp} {t : TypeId} {x y : Operand} {p q : Option Addr} {n m n' m' : Nat} : (eqGuard op t x y (.slice p n m) (.slice q n' m')).run P w = .ok () w := by
  unfold eqGuard; cases op <;> simp
theorem guard_map {op : BinOp} {t : TypeId} {x y : Operand} {p q : Option Nat} : (eqGuard op t x y (.map p) (.map q)).run P w = .ok () w := by
  unfold eqGuard; cases op <;> simp
theorem guard_ifc {op : BinOp} {t : TypeId} {x y : Operand} {p : Option (TypeId × Value)} (hy : isConstO y = true) : (eqGuard op t x y (Lf.val .iface p) .nilIface).run P w = .ok () w := by
  cases y <;> simp [isConstO] at hy
  unfold eqGuard
  cases p <;> cases op <;> simp [Lf.val]
theorem guard_agg {op : BinOp} {t : TypeId} {x y x' y' : Operand} {p q : Array Value} : eqGuard op t x y (.agg p) (.agg q) = eqGuard op t x' y' (.agg p) (.agg q) := by
  unfold eqGuard; rfl
theorem op_bin_int {op : BinOp} {t : TypeId} {x y : Operand} {t' : TypeId} (h : ok a c) (hd : Dst o c) (hop : o.op = .binOp op t x y t') {k k' : IntKind} {p q : Int}
    (hx : c.eval x = .int k p) (hy : c.eval y = .int k' q) (hk : denBin P D o a op t y (.v (.int k p)) (.v (.int k' q)) K w) : OpOk P o c w (Nx K c) := by
  have fin : ∀ v, (binOp op t (.int k p) (.int k' q)).run P w = .ok v w → K (setV a o v) w → OpOk P o c w (Nx K c) := fun v hr hk =>
    fin_s h hd (.v v) (run_bin hop (by rw [hx, hy]; exact guard_int) (by rw [hx, hy]; exact hr)) rfl hk
  simp only [denBin] at hk
  cases op with
  | shl =>
    obtain ⟨h0, hk⟩ := hk
    exact fin _ (by simp [binOp, Op.shift, h0, Int.not_lt.2 h0]) hk
  | shr =>
    obtain ⟨h0, hk⟩ := hk
    exact fin _ (by simp [binOp, Op.shift, h0, Int.not_lt.2 h0]) hk
  | quo =>
    dsimp only at hk
    split at hk
    · rename_i e; subst e
      obtain ⟨h0, hk⟩ := hk
      exact fin _ (by simp [binOp, Op.intDiv, h0]) hk
    · exact False.elim hk
  | rem =>
    dsimp only at hk
    split at hk
    · rename_i e; subst e
      obtain ⟨h0, hk⟩ := hk
      exact fin _ (by simp [binOp, Op.intDiv, h0]) hk
    · exact False.elim hk
  | andNot =>
    dsimp only [intOp] at hk
    split at hk <;> exact False.elim hk
  | _ =>
    dsimp only [intOp] at hk
    split at hk
    · rename_i e; subst e
      exact fin _ (by simp [binOp, Op.intArith, Op.intCmp, Op.intBits]) hk
    · exact False.elim hk
theorem op_bin_str {op : BinOp} {t : TypeId} {x y : Operand} {t' : TypeId} (h : ok a c) (hd : Dst o c) (hop : o.op = .binOp op t x y t') {p q : ByteArray}
    (hx : c.eval x = .string p) (hy : c.eval y = .string q) (hk : denBin P D o a op t y (.v (.string p)) (.v (.string q)) K w) : OpOk P o c w (Nx K c) := by
  have fin : ∀ v, (binOp op t (.string p) (.string q)).run P w = .ok v w → K (setV a o v) w → OpOk P o c w (Nx K c) := fun v hr hk =>
    fin_s h hd (.v v) (run_bin hop (by rw [hx, hy]; exact guard_str) (by rw [hx, hy]; exact hr)) rfl hk
  simp only [denBin] at hk
  cases op with
  | add =>
    obtain ⟨h0, hk⟩ := hk
    refine fin _ ?_ hk
    have : ¬ (IntKind.max .i64 < ((p.size + q.size : Nat) : Int)) := by
      have e : IntKind.max .i64 = maxI64 := by decide
      rw [e]; exact Int.not_lt.2 h0
    simp only [binOp, Op.stringOp]
    rw [if_neg this]; rfl
  | eql | neq | lss | leq | gtr | geq =>
    dsimp only [strOp] at hk
    exact fin _ (by simp [binOp, Op.stringOp]) hk
  | _ => exact False.elim hk
theorem op_binOp (T : TbOk P D) {op : BinOp} {t : TypeId} {x y : Operand} {t' : TypeId} (h : ok a c) (hd : Dst o c) (hop : o.op = .binOp op t x y t') (hk : denOp P D o a K w) : OpOk P o c w (Nx K c) := by
  simp only [denOp, hop] at hk
  obtain ⟨sx, hsx, hk⟩ := needV_some hk
  obtain ⟨sy, hsy, hk⟩ := needV_some hk
  have hx := ok_ev h hsx
  have hy := ok_ev h hsy
  have bools : (match sx.boolOf, sy.boolOf, D.t t with
    | some p, some q, some { d := .bool, .. } => match op with
      | .eql => K (setV a o (.bool (p == q)))
      | .neq => K (setV a o (.bool (!(p == q))))
      | _ => bad
    | _, _, _ => bad) w → OpOk P o c w (Nx K c) := by
    intro hk
    cases h1 : sx.boolOf with
    | none => rw [h1] at hk; exact False.elim hk
    | some p => cases h2 : sy.boolOf with
      | none => rw [h1, h2] at hk; exact False.elim hk
      | some q => cases hD : D.t t with
        | none => rw [h1, h2, hD] at hk; exact False.elim hk
        | some ti =>
          rw [h1, h2, hD] at hk
          obtain ⟨i1, d, hi1, hu, hd1, hsz, he, hz⟩ := Da T hD
          obtain ⟨td, m, e1, z⟩ := ti
          rw [boolOf_toV h1] at hx
          rw [boolOf_toV h2] at hy
          cases td with
          | bool =>
            obtain rfl := tdOf_bool hd1
            cases op with
            | eql => exact fin_s h hd (.v (.bool (p == q))) (run_bin hop (by rw [hx, hy]; exact guard_bool) (by rw [hx, hy]; exact run_eql_bool _ _ _ _ hu)) rfl hk
            | neq => exact fin_s h hd (.v (.bool (!(p == q)))) (run_bin hop (by rw [hx, hy]; exact guard_bool) (by rw [hx, hy]; exact run_neq_bool _ _ _ _ hu)) rfl hk
            | _ => exact False.elim hk
          | _ => exact False.elim hk
  cases sx with
  | lit b => cases sy <;> exact bools hk
  | tp es x => cases sy <;> exact bools hk
  | nx b es x => cases sy <;> exact bools hk
  | it t p => cases sy <;> exact bools hk
  | ifc p => cases sy with
    | v y' => cases y' with
      | nilIface =>
        simp only [denBin] at hk
        split at hk
        · rename_i hc
          cases hD : D.t t with
          | none => rw [hD] at hk; exact False.elim hk
          | some ti =>
            rw [hD] at hk
            obtain ⟨i1, d, hi1, hu, hd1, hsz, he, hz⟩ := Da T hD
            obtain ⟨td, m, e1, z⟩ := ti
            cases td with
            | iface =>
              obtain ⟨ms, rfl⟩ := tdOf_iface hd1
              simp only [SV.toV] at hx hy
              have heq := eq_ifc hu p w
              cases op with
              | eql => exact fin_s h hd (.v (.bool p.isNone)) (run_bin hop (by rw [hx, hy]; exact guard_ifc hc) (by rw [hx, hy]; exact bin_eql heq (by cases p <;> rfl))) rfl hk
              | neq => exact fin_s h hd (.v (.bool (!p.isNone))) (run_bin hop (by rw [hx, hy]; exact guard_ifc hc) (by rw [hx, hy]; exact bin_neq heq (by cases p <;> rfl))) rfl hk
              | _ => exact False.elim hk
            | _ => exact False.elim hk
        · exact False.elim hk
      | _ => exact bools hk
    | _ => exact bools hk
  | ag p => cases sy with
    | ag q =>
      simp only [denBin] at hk
      split at hk
      rotate_left
      · exact False.elim hk
      cases he : eqCells p q with
      | none => rw [he] at hk; exact False.elim hk
      | some b =>
        rw [he] at hk
        simp only [toV_ag] at hx hy
        cases op with
        | eql =>
          obtain ⟨hr, hk⟩ := hk
          rw [guard_agg (x' := x) (y' := y)] at hr
          exact fin_s h hd (.v (.bool b)) (run_bin2 hop (by rw [hx, hy]; exact hr)) rfl hk
        | neq =>
          obtain ⟨hr, hk⟩ := hk
          rw [guard_agg (x' := x) (y' := y)] at hr
          exact fin_s h hd (.v (.bool (!b))) (run_bin2 hop (by rw [hx, hy]; exact hr)) rfl hk
        | _ => exact False.elim hk
    | _ => exact bools hk
  | v x' => cases x' with
    | int k p => cases sy with
      | v y' => cases y' with
        | int k' q => exact op_bin_int h hd hop hx hy hk
        | _ => exact bools hk
      | _ => exact bools hk
    | string p => cases sy with
      | v y' => cases y' with
        | string q => exact op_bin_str h hd hop hx hy hk
        | _ => exact bools hk
      | _ => exact bools hk
    | pointer p => cases sy with
      | v y' => cases y' with
        | pointer q => cases q with
          | none =>
            simp only [denBin] at hk
            cases hD : D.t t with
            | none => rw [hD] at hk; exact False.elim hk
            | some ti =>
              rw [hD] at hk
              obtain ⟨i1, d, hi1, hu, hd1, hsz, he, hz⟩ := Da T hD
              obtain ⟨td, m, e1, z⟩ := ti
              cases td with
              | ptr =>
                obtain ⟨e, rfl⟩ := tdOf_ptr hd1
                have heq := eq_ptr hu p w
                cases op with
                | eql => exact fin_s h hd (.v (.bool p.isNone)) (run_bin hop (by rw [hx, hy]; exact guard_ptr) (by rw [hx, hy]; exact bin_eql heq rfl)) rfl hk
                | neq => exact fin_s h hd (.v (.bool (!p.isNone))) (run_bin hop (by rw [hx, hy]; exact guard_ptr) (by rw [hx, hy]; exact bin_neq heq rfl)) rfl hk
                | _ => exact False.elim hk
              | _ => exact False.elim hk
          | some _ => exact bools hk
        | _ => exact bools hk
      | _ => exact bools hk
    | slice p n m => cases sy with
      | v y' => cases y' with
        | slice q n' m' => cases q with
          | none =>
            simp only [denBin] at hk
            cases hD : D.t t with
            | none => rw [hD] at hk; exact False.elim hk
            | some ti =>
              rw [hD] at hk
              obtain ⟨i1, d, hi1, hu, hd1, hsz, he, hz⟩ := Da T hD
              obtain ⟨td, sz, e1, z⟩ := ti
              cases td with
              | slice e =>
                obtain rfl := tdOf_slice hd1
                have heq := eq_slice hu p n m n' m' w
                cases op with
                | eql => exact fin_s h hd (.v (.bool p.isNone)) (run_bin hop (by rw [hx, hy]; exact guard_slice) (by rw [hx, hy]; exact bin_eql heq rfl)) rfl hk
                | neq => exact fin_s h hd (.v (.bool (!p.isNone))) (run_bin hop (by rw [hx, hy]; exact guard_slice) (by rw [hx, hy]; exact bin_neq heq rfl)) rfl hk
                | _ => exact False.elim hk
              | _ => exact False.elim hk
          | some _ => exact bools hk
        | _ => exact bools hk
      | _ => exact bools hk
    | map p => cases sy with
      | v y' => cases y' with
        | map q => cases q with
          | none =>
            simp only [denBin] at hk
            cases hD : D.t t with
            | none => rw [hD] at hk; exact False.elim hk
            | some ti =>
              rw [hD] at hk
              obtain ⟨i1, d, hi1, hu, hd1, hsz, he, hz⟩ := Da T hD
              obtain ⟨td, m, e1, z⟩ := ti
              cases td with
              | map k e =>
                obtain rfl := tdOf_map hd1
                have heq := eq_map hu p w
                cases op with
                | eql => exact fin_s h hd (.v (.bool p.isNone)) (run_bin hop (by rw [hx, hy]; exact guard_map) (by rw [hx, hy]; exact bin_eql heq rfl)) rfl hk
                | neq => exact fin_s h hd (.v (.bool (!p.isNone))) (run_bin hop (by rw [hx, hy]; exact guard_map) (by rw [hx, hy]; exact bin_neq heq rfl)) rfl hk
                | _ => exact False.elim hk
              | _ => exact False.elim hk
          | some _ => exact bools hk
        | _ => exact bools hk
      | _ => exact bools hk
    | bool b => cases sy <;> exact bools hk
    | _ => cases sy <;> exact bools hk
end
end Go.Dm
