/- The reading of code as predicates, and its soundness (text Den5). No conditions beyond those its theorems state. -/
import Derived.Test.YtpnbgpolbjbhpaaDen4
set_option linter.all false
namespace Go.Dm
section
variable {P : Program} {D : Tb} {w w' : World} {a : AT} {c : Act} {o : Oper} {K : AT → PT}

def Nx (K : AT → PT) (c : Act) : Act → World → Prop := fun c' w' => ∃ a', K a' w' ∧ ok a' c' ∧ c'.tmps.size = c.tmps.size ∧ c'.defers = c.defers
/-- what an operation comes to -/
def OpOk (P : Program) (o : Oper) (c : Act) (w : World) (N : Act → World → Prop) : Prop :=
  (∃ v w', (execOp c.eval o).run P w = .ok (.value v) w' ∧ N (c.put o.dst v) w') ∨
  (∃ w', (execOp c.eval o).run P w = .ok .skip w' ∧ N (c.put o.dst undef) w') ∨
  (∃ f args w', (execOp c.eval o).run P w = .ok (.enter f args) w' ∧ Calls P f args w' fun e w'' => ∃ v, e = .returned v ∧ N (c.put o.dst v) w'') ∨
  (∃ l f tmps as bd w', (execOp c.eval o).run P w = .ok (.round l f tmps as bd) w' ∧ RoundIn (FR none) 0 P l f tmps as bd w' fun e w'' => ∃ v, e = .returned v ∧ N (c.put o.dst v) w'')
abbrev Dst (o : Oper) (c : Act) : Prop := ∀ t, o.dst = some t → t < c.tmps.size
theorem fin_s (h : ok a c) (hd : Dst o c) (s : SV) {v : Value} (hr : (execOp c.eval o).run P w = .ok (.value v) w') (hv : s.toV = v) (hk : K (setS a o s) w') : OpOk P o c w (Nx K c) :=
  .inl ⟨_, w', hr, _, hk, ok_put h hd (fun x hx => by cases hx; exact hv), by simp, by simp⟩
theorem fin_o (h : ok a c) (hd : Dst o c) (s : Option SV) {v : Value} (hr : (execOp c.eval o).run P w = .ok (.value v) w') (hv : ∀ x, s = some x → x.toV = v) (hk : K (a.put o.dst s) w') : OpOk P o c w (Nx K c) :=
  .inl ⟨_, w', hr, _, hk, ok_put h hd hv, by simp, by simp⟩
theorem fin_n (h : ok a c) (hd : Dst o c) (hr : (execOp c.eval o).run P w = .ok .skip w') (hk : K (a.put o.dst none) w') : OpOk P o c w (Nx K c) :=
  .inr (.inl ⟨w', hr, _, hk, ok_put h hd (fun x hx => by cases hx), by simp, by simp⟩)
theorem needV_some {x : Option SV} {f : SV → PT} (h : needV x f w) : ∃ s, x = some s ∧ f s w := by
  cases x with
  | none => exact h.elim
  | some s => exact ⟨s, rfl, h⟩

@[simp] theorem toV_v (x : Value) : (SV.v x).toV = x := rfl
@[simp] theorem toV_lit (b : Bool) : (SV.lit b).toV = .bool b := rfl
@[simp] theorem toV_ag (cs : List Value) : (SV.ag cs).toV = .agg cs.toArray := rfl
theorem nth_getElem? {α : Type} : ∀ (l : List α) (n : Nat), nth l n = l[n]?
  | [], n => by simp [nth]
  | x :: l, 0 => by simp [nth]
  | x :: l, n + 1 => by simp [nth, nth_getElem? l n]

theorem op_move {x : Operand} (h : ok a c) (hd : Dst o c) (hop : o.op = .move x) (hk : denOp P D o a K w) : OpOk P o c w (Nx K c) := by
  simp only [denOp, hop] at hk
  obtain ⟨s, hs, hk⟩ := needV_some hk
  exact fin_s h hd s (v := c.eval x) (by simp [execOp, hop, pure, Sem.run]) (ok_ev h hs).symm hk
theorem op_assign {x : Operand} (h : ok a c) (hd : Dst o c) (hop : o.op = .assign x) (hk : denOp P D o a K w) : OpOk P o c w (Nx K c) := by
  simp only [denOp, hop] at hk
  exact fin_o h hd (a.ev x) (v := c.eval x) (by simp [execOp, hop, pure, Sem.run]) (fun s hs => (ok_ev h hs).symm) hk

theorem op_pick {x y z : Operand} (h : ok a c) (hd : Dst o c) (hop : o.op = .pick x y z) (hk : denOp P D o a K w) : OpOk P o c w (Nx K c) := by
  simp only [denOp, hop] at hk
  have key : ∀ b, c.eval x = .bool b → (b = true → needV (a.ev y) (fun s => K (setS a o s)) w) → (b = false → needV (a.ev z) (fun s => K (setS a o s)) w) → OpOk P o c w (Nx K c) := by
    intro b hb h1 h2
    cases b with
    | true =>
      obtain ⟨s, hs, hk⟩ := needV_some (h1 rfl)
      exact fin_s h hd s (v := c.eval y) (by simp [execOp, hop, hb, asBool, pure, Sem.run, bind, Sem.bind]) (ok_ev h hs).symm hk
    | false =>
      obtain ⟨s, hs, hk⟩ := needV_some (h2 rfl)
      exact fin_s h hd s (v := c.eval z) (by simp [execOp, hop, hb, asBool, pure, Sem.run, bind, Sem.bind]) (ok_ev h hs).symm hk
  cases he : a.ev x with
  | none => rw [he] at hk; exact False.elim hk
  | some s =>
    rw [he] at hk
    have hb := ok_ev h he
    cases s with
    | lit b =>
      cases b with
      | true => exact key true hb (fun _ => hk) (fun e => by cases e)
      | false => exact key false hb (fun e => by cases e) (fun _ => hk)
    | v x => cases x with
      | bool b => exact key b hb hk.1 hk.2
      | _ => exact False.elim hk
    | _ => exact False.elim hk

theorem Da (T : TbOk P D) {t : TypeId} {ti : TI} (h : D.t t = some ti) : ∃ i d, P.info? t = some i ∧ P.underlying t = some d ∧ ti.d = tdOf d ∧ ti.size = i.size ∧ ti.e = eOf P t d i.size ∧
    (∀ z, ti.zero = some z → ∃ v, i.zero = some v ∧ z = v.cells.toList) := rowOf_some (T.ty _ _ h)

theorem op_alloc (T : TbOk P D) {e : TypeId} (h : ok a c) (hd : Dst o c) (hop : o.op = .alloc e) (hk : denOp P D o a K w) : OpOk P o c w (Nx K c) := by
  simp only [denOp, hop] at hk
  cases hD : D.t e with
  | none => rw [hD] at hk; exact False.elim hk
  | some ti =>
    rw [hD] at hk
    obtain ⟨i, d, hi, hu, hd1, hs, he, hz⟩ := Da T hD
    obtain ⟨td, n, e1, z⟩ := ti
    cases z with
    | none => exact False.elim hk
    | some z =>
      obtain ⟨v, hv, rfl⟩ := hz z rfl
      exact fin_s h hd (.v (.pointer (some ⟨w.heap.size, 0, none⟩))) (w' := w.alloc (.cells v.cells.toList.toArray e)) (by simp [execOp, hop, Instr.alloc, run_zeroValue' hi hv, newVar, newRow, newObj, pure, Sem.run]) rfl hk
theorem op_box {e : TypeId} {x : Operand} (h : ok a c) (hd : Dst o c) (hop : o.op = .box e x) (hk : denOp P D o a K w) : OpOk P o c w (Nx K c) := by
  simp only [denOp, hop] at hk
  obtain ⟨s, hs, hk⟩ := needV_some hk
  have hv := ok_ev h hs
  have e1 : s.toV.cells = s.cells.toArray := by rw [← cells_toV]
  exact fin_s h hd (.v (.pointer (some ⟨w.heap.size, 0, none⟩))) (w' := w.alloc (.cells s.cells.toArray e)) (by simp [execOp, hop, Instr.box, hv, newVar, newRow, newObj, pure, Sem.run, e1]) rfl hk

theorem sv_val : ∀ (e : E1) (x : e.T), (e.sv x).toV = e.val x
  | .agg ls, x => rfl
  | .one (.int _), _ | .one .bool, _ | .one .str, _ | .one .ptr, _ | .one .slice, _ | .one .map, _ | .one .func, _ | .one .iface, _ | .one .adr, _ => rfl
theorem tsv_val : ∀ (r : RT) (x : r.T), (r.sv x).toV = r.val x
  | .one e, x => sv_val e x
  | .tup _, _ => rfl
theorem HV_length : ∀ (ls : List Lf) (x : HT ls), (HV ls x).length = ls.length
  | [], _ => rfl
  | _ :: ls, x => by simp [HV, HV_length ls]
@[simp] theorem add_zero' (a : Addr) : a.add 0 = a := rfl
theorem run_load_one {t : TypeId} {d : TypeDesc} (hu : P.underlying t = some d) (ha : aggD d = false) {ad : Addr} {v : Value} (hc : cellsAt w ad [v]) : (loadVar t ad).run P w = .ok v w := by
  have h0 : w.cell? ad = some v := by simpa using hc 0 v rfl
  simp [loadVar, run_isAgg' hu, ha, load, Sem.run, h0]
theorem run_load_agg {t : TypeId} {d : TypeDesc} {i : TypeInfo} (hi : P.info? t = some i) (hu : P.underlying t = some d) (ha : aggD d = true) {ad : Addr} {cs : List Value} (hl : cs.length = i.size) (hc : cellsAt w ad cs) :
    (loadVar t ad).run P w = .ok (.agg cs.toArray) w := by
  have := run_loadCells_list (P := P) (w := w) ad cs (fun j v hv => hc j v (by rw [nth_getElem?]; exact hv))
  simp [loadVar, run_isAgg' hu, ha, run_sizeOf' hi, ← hl, this, pure, Sem.run]
theorem run_load (T : TbOk P D) {t : TypeId} {ti : TI} (hD : D.t t = some ti) {e : E1} (he : ti.e = some e) {ad : Addr} {x : e.T} (hc : cellsAt w ad (e.cells x)) : (loadVar t ad).run P w = .ok (e.val x) w := by
  obtain ⟨i, d, hi, hu, hd1, hs, he', hz⟩ := Da T hD
  rw [he] at he'
  cases e with
  | one l => exact run_load_one hu (eOf_one he'.symm) hc
  | agg ls => exact run_load_agg hi hu (eOf_agg he'.symm).1 (by rw [HV_length]; exact (eOf_agg he'.symm).2) hc
theorem cell?_setCell_isSome (w : World) (p q : Addr) (v : Value) : ((w.setCell p v).cell? q).isSome = (w.cell? q).isSome := by
  simp only [World.cell?, World.setCell, Array.getElem?_modify]
  by_cases h : p.block = q.block
  · rw [if_pos h]
    cases w.heap[q.block]? with
    | none => rfl
    | some o => cases o <;> simp only [Option.map_some] <;> (try rfl)
                split <;> (try split) <;> simp_all [Array.getElem?_setIfInBounds]
                split <;> (try split) <;> simp_all
  · rw [if_neg h]
theorem frozen?_setCell' (w : World) (p q : Addr) (v : Value) : (w.setCell p v).frozen? q = w.frozen? q := by
  simp only [World.frozen?, World.setCell, Array.getElem?_modify]
  by_cases h : p.block = q.block
  · rw [if_pos h]
    cases w.heap[q.block]? with
    | none => rfl
    | some o => cases o <;> rfl
  · rw [if_neg h]
theorem run_storeCells' (P : Program) (ad : Addr) : ∀ (cs : List Value) (i : Nat) (w : World),
    (∀ j c, nth cs j = some c → oneC c = true ∧ (w.cell? (ad.add (i + j))).isSome = true ∧ w.frozen? (ad.add (i + j)) = false) → (storeCells ad cs i).run P w = .ok () (setCells w ad cs i)
  | [], i, w, _ => by simp [storeCells, setCells, pure, Sem.run]
  | c :: cs, i, w, h => by
    obtain ⟨h1, h2, h3⟩ := h 0 c rfl
    have ih := run_storeCells' P ad cs (i + 1) (w.setCell (ad.add i) c) (fun j c' hj => by
      obtain ⟨a1, a2, a3⟩ := h (j + 1) c' hj
      have e : i + (j + 1) = i + 1 + j := by omega
      rw [e] at a2 a3
      exact ⟨a1, by rw [cell?_setCell_isSome]; exact a2, by rw [frozen?_setCell']; exact a3⟩)
    simp only [Nat.add_zero] at h2 h3
    obtain ⟨v, hv⟩ := Option.isSome_iff_exists.1 h2
    have hs : (store (ad.add i) c).run P w = .ok () (w.setCell (ad.add i) c) := by
      cases c <;> simp [oneC] at h1 <;> simp [store, Sem.run, hv, h3]
    simp [storeCells, hs, ih, setCells]
theorem op_load (T : TbOk P D) {t : TypeId} {x : Operand} (h : ok a c) (hd : Dst o c) (hop : o.op = .load t x) (hk : denOp P D o a K w) : OpOk P o c w (Nx K c) := by
  simp only [denOp, hop] at hk
  obtain ⟨s, hs, hk⟩ := needV_some hk
  have hv := ok_ev h hs
  cases s with
  | v x => cases x with
    | pointer p => cases p with
      | none => exact False.elim hk
      | some ad =>
        dsimp only at hk
        cases hD : D.t t with
        | none => rw [hD] at hk; exact False.elim hk
        | some ti =>
          rw [hD] at hk
          obtain ⟨td, n, e1, z⟩ := ti
          cases e1 with
          | none => exact False.elim hk
          | some e =>
            obtain ⟨x, hc, hk⟩ := hk
            exact fin_s h hd (e.sv x) (v := e.val x) (by simp [execOp, hop, hv, Instr.loadAt, Instr.sureAddr, run_load T hD rfl hc, pure, Sem.run]) (sv_val e x) hk
    | _ => exact False.elim hk
  | _ => exact False.elim hk
theorem op_store (T : TbOk P D) {t : TypeId} {x y : Operand} (h : ok a c) (hd : Dst o c) (hop : o.op = .store t x y) (hk : denOp P D o a K w) : OpOk P o c w (Nx K c) := by
  simp only [denOp, hop] at hk
  obtain ⟨s, hs, hk⟩ := needV_some hk
  have hv := ok_ev h hs
  cases s with
  | v x => cases x with
    | pointer p => cases p with
      | none => exact False.elim hk
      | some ad =>
        dsimp only at hk
        obtain ⟨s2, hs2, hk⟩ := needV_some hk
        have hv2 := ok_ev h hs2
        cases hD : D.t t with
        | none => rw [hD] at hk; exact False.elim hk
        | some ti =>
          rw [hD] at hk
          dsimp only at hk
          obtain ⟨i, d, hi, hu, hd1, hsz, he, hz⟩ := Da T hD
          by_cases hl : s2.cells.length = ti.size
          · rw [if_pos hl] at hk
            obtain ⟨hc, hk⟩ := hk
            have hrun := run_storeCells' P ad s2.cells 0 w (by simpa using hc)
            have hn : s2.toV.cells.size = i.size := by rw [← Array.length_toList, cells_toV, hl, hsz]
            exact fin_n h hd (w' := setCells w ad s2.cells 0) (by simp [execOp, hop, hv, hv2, Instr.storeAt, Instr.sureAddr, storeVar, run_sizeOf' hi, hn, cells_toV, hrun, pure, Sem.run]) hk
          · rw [if_neg hl] at hk; exact False.elim hk
    | _ => exact False.elim hk
  | _ => exact False.elim hk
theorem op_nilCheck {x : Operand} (h : ok a c) (hd : Dst o c) (hop : o.op = .nilCheck x) (hk : denOp P D o a K w) : OpOk P o c w (Nx K c) := by
  simp only [denOp, hop] at hk
  obtain ⟨s, hs, hk⟩ := needV_some hk
  have hv := ok_ev h hs
  cases s with
  | v x => cases x with
    | pointer p =>
      obtain ⟨ad, rfl, hk⟩ := hk
      exact fin_s h hd (.v (.pointer (some ad))) (by simp [execOp, hop, hv, pure, Sem.run]) rfl hk
    | func f x y => cases f with
      | func f => exact fin_s h hd (.v (.func (.func f) x y)) (by simp [execOp, hop, hv, pure, Sem.run]) rfl hk
      | _ => exact False.elim hk
    | _ => exact False.elim hk
  | _ => exact False.elim hk
theorem tdOf_struct {d : TypeDesc} {fs : List (Nat × Nat)} (h : TD.struct fs = tdOf d) : ∃ l, d = .struct l ∧ fs = l.toList.map fun f => (f.type, f.offset) := by
  cases d <;> simp only [tdOf] at h <;> cases h
  exact ⟨_, rfl, rfl⟩
theorem tdOf_slice {d : TypeDesc} {e : Nat} (h : TD.slice e = tdOf d) : d = .slice e := by
  cases d <;> simp only [tdOf] at h <;> cases h; rfl
theorem tdOf_arr {d : TypeDesc} {n e : Nat} (h : TD.arr n e = tdOf d) : d = .array n e := by
  cases d <;> simp only [tdOf] at h <;> cases h; rfl
theorem tdOf_map {d : TypeDesc} {n e : Nat} (h : TD.map n e = tdOf d) : d = .map n e := by
  cases d <;> simp only [tdOf] at h <;> cases h; rfl
theorem tdOf_str {d : TypeDesc} (h : TD.str = tdOf d) : d = .string := by
  cases d <;> simp only [tdOf] at h <;> first | rfl | cases h
theorem tdOf_bool {d : TypeDesc} (h : TD.bool = tdOf d) : d = .bool := by
  cases d <;> simp only [tdOf] at h <;> first | rfl | cases h
theorem tdOf_ptr {d : TypeDesc} (h : TD.ptr = tdOf d) : ∃ e, d = .pointer e := by
  cases d <;> simp only [tdOf] at h <;> first | exact ⟨_, rfl⟩ | cases h
theorem tdOf_iface {d : TypeDesc} (h : TD.iface = tdOf d) : ∃ e, d = .interface e := by
  cases d <;> simp only [tdOf] at h <;> first | exact ⟨_, rfl⟩ | cases h
theorem tdOf_int {d : TypeDesc} {k : IntKind} (h : TD.int k = tdOf d) : d = .int k := by
  cases d <;> simp only [tdOf] at h <;> cases h; rfl
theorem tdOf_tuple {d : TypeDesc} {ts : List Nat} (h : TD.tuple ts = tdOf d) : ∃ l, d = .tuple l ∧ ts = l.toList := by
  cases d <;> simp only [tdOf] at h <;> cases h; exact ⟨_, rfl, rfl⟩
end
end Go.Dm
