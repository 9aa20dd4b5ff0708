/- The reading of code as predicates, and its soundness (text Den4). No conditions beyond those its theorems state. -/
import Derived.Test.YtpnbgpolbjbhpaaDen3
import Derived.Laws.Sem
import Derived.Laws.Cells
import Derived.Laws.Entries
set_option linter.all false
namespace Go.Dm

/-! ### the tables are the program's -/
def lfOf (P : Program) (t : TypeId) : Option Lf :=
  match P.underlying t with
  | some .bool => some .bool
  | some (.int k) => some (.int k)
  | some .string => some .str
  | some (.pointer _) => some .ptr
  | some (.slice _) => some .slice
  | some (.map _ _) => some .map
  | some (.func _ _ _) => some .func
  | some (.interface _) => some .iface
  | _ => none
def repL : Nat → List Lf → List Lf
  | 0, _ => []
  | n + 1, l => l ++ repL n l
mutual
def lfs (P : Program) : Nat → TypeId → Option (List Lf)
  | 0, _ => none
  | d + 1, t =>
    match P.underlying t with
    | some (.struct fs) => lfsAll P d fs.toList
    | some (.array n e) => (lfs P d e).map (repL n)
    | _ => (lfOf P t).map fun l => [l]
def lfsAll (P : Program) : Nat → List Field → Option (List Lf)
  | _, [] => some []
  | 0, _ :: _ => none
  | d + 1, f :: r => match lfs P d f.type, lfsAll P d r with
    | some a, some b => some (a ++ b)
    | _, _ => none
end
def tdOf : TypeDesc → TD
  | .bool => .bool
  | .int k => .int k
  | .string => .str
  | .pointer _ => .ptr
  | .slice e => .slice e
  | .array n e => .arr n e
  | .map k e => .map k e
  | .struct fs => .struct (fs.toList.map fun f => (f.type, f.offset))
  | .func _ _ _ => .func
  | .interface _ => .iface
  | .tuple ts => .tuple ts.toList
  | _ => .other
def eOf (P : Program) (t : TypeId) (d : TypeDesc) (n : Nat) : Option E1 :=
  match d with
  | .struct _ | .array _ _ => match lfs P 40 t with
    | some ls => if ls.length = n then some (.agg ls) else none
    | none => none
  | _ => (lfOf P t).map .one
def rowOf (P : Program) (t : TypeId) : Option TI :=
  match P.info? t, P.underlying t with
  | some i, some d => some ⟨tdOf d, i.size, eOf P t d i.size, if (eOf P t d i.size).isSome && decide (i.size ≤ 80) then i.zero.map (·.cells.toList) else none⟩
  | _, _ => none
def entersB (P : Program) (f : FuncId) : Bool :=
  match P.funcs[f]? with
  | some fn => fn.body.isSome && fn.name != "runtime.NumGoroutine"
  | none => false
structure TbOk (P : Program) (D : Tb) : Prop where
  ty : ∀ t ti, D.t t = some ti → rowOf P t = some ti
  fn : ∀ f r, D.f f = some r → entersB P f = true
  mixed : P.follows .mixedOrders = true
/-- the check by the kernel: three equations -/
theorem tbOk_of {P : Program} {D : Tb} (h1 : (List.range D.nt).map (rowOf P) = (List.range D.nt).map D.t)
    (h2 : (List.range D.nf).all (fun f => match D.f f with | some _ => entersB P f | none => true) = true) (h3 : P.follows .mixedOrders = true) : TbOk P D := by
  refine ⟨fun t ti h => ?_, fun f r h => ?_, h3⟩
  · by_cases hlt : t < D.nt
    · have := congrArg (fun l => l[t]?) h1
      simp only [List.getElem?_map, List.getElem?_range hlt, Option.map_some] at this
      rw [Option.some.inj this, h]
    · have hb : Nat.blt t D.nt = false := by rw [← Bool.not_eq_true, Nat.blt_eq]; exact hlt
      simp [Tb.t, hb] at h
  · by_cases hlt : f < D.nf
    · have := List.all_eq_true.1 h2 f (List.mem_range.2 hlt)
      rw [h] at this; exact this
    · have hb : Nat.blt f D.nf = false := by rw [← Bool.not_eq_true, Nat.blt_eq]; exact hlt
      simp [Tb.f, hb] at h

section
variable {P : Program} {D : Tb} {w : World}
theorem rowOf_some {t : TypeId} {ti : TI} (h : rowOf P t = some ti) : ∃ i d, P.info? t = some i ∧ P.underlying t = some d ∧ ti.d = tdOf d ∧ ti.size = i.size ∧ ti.e = eOf P t d i.size ∧
    (∀ z, ti.zero = some z → ∃ v, i.zero = some v ∧ z = v.cells.toList) := by
  unfold rowOf at h
  split at h
  · rename_i i d hi hd
    cases h
    refine ⟨i, d, hi, hd, rfl, rfl, rfl, fun z hz => ?_⟩
    dsimp only at hz
    split at hz
    · cases hv : i.zero with
      | none => rw [hv] at hz; cases hz
      | some v => rw [hv] at hz; cases hz; exact ⟨v, rfl, rfl⟩
    · cases hz
  · cases h
theorem run_typeInfo' {t : TypeId} {i : TypeInfo} (h : P.info? t = some i) (w : World) : (typeInfo t).run P w = .ok i w := by
  simp [typeInfo, program, Sem.run, h]
theorem run_sizeOf' {t : TypeId} {i : TypeInfo} (h : P.info? t = some i) (w : World) : (sizeOf t).run P w = .ok i.size w := by
  simp [sizeOf, run_typeInfo' h]
theorem run_zeroValue' {t : TypeId} {i : TypeInfo} {v : Value} (h : P.info? t = some i) (hz : i.zero = some v) (w : World) : (zeroValue t).run P w = .ok v w := by
  simp [zeroValue, run_typeInfo' h, hz]
def aggD : TypeDesc → Bool
  | .struct _ | .array _ _ => true
  | _ => false
theorem run_isAgg' {t : TypeId} {d : TypeDesc} (h : P.underlying t = some d) (w : World) : (isAgg t).run P w = .ok (aggD d) w := by
  cases d <;> simp [isAgg, run_underlying h, aggD]
theorem eOf_one {t : TypeId} {d : TypeDesc} {n : Nat} {l : Lf} (h : eOf P t d n = some (.one l)) : aggD d = false := by
  unfold eOf at h
  split at h
  · split at h
    · split at h <;> cases h
    · cases h
  · split at h
    · split at h <;> cases h
    · cases h
  · rename_i h1 h2; cases d <;> simp_all [aggD]
theorem eOf_agg {t : TypeId} {d : TypeDesc} {n : Nat} {ls : List Lf} (h : eOf P t d n = some (.agg ls)) : aggD d = true ∧ ls.length = n := by
  unfold eOf at h
  split at h
  · split at h
    · split at h
      · cases h; exact ⟨rfl, by assumption⟩
      · cases h
    · cases h
  · split at h
    · split at h
      · cases h; exact ⟨rfl, by assumption⟩
      · cases h
    · cases h
  · cases hl : lfOf P t <;> simp [hl] at h

/-! ### the actual temporaries -/
def ok (a : AT) (c : Act) : Prop := ∀ t s, a.get t = some s → c.tmps[t]? = some s.toV
theorem get_cons (d : Nat) (s : Option SV) (a : AT) (t : Nat) : AT.get ((d, s) :: a) t = if d = t then s else a.get t := by
  simp only [AT.get]
  by_cases h : d = t
  · subst h; simp
  · have : Nat.beq d t = false := by rw [← Bool.not_eq_true, Nat.beq_eq]; exact h
    simp [this, h]
theorem ok_ev {a : AT} {c : Act} (h : ok a c) {x : Operand} {s : SV} (he : a.ev x = some s) : c.eval x = s.toV := by
  unfold AT.ev at he
  split at he
  · have := h _ _ he
    simp [Act.eval, Array.getD_eq_getD_getElem?, this]
  · cases he; rfl
  · cases he; simp [Act.eval, SV.toV]
  · cases he; rfl
  · cases he; rfl
  · cases he; rfl
theorem ok_put {a : AT} {c : Act} (h : ok a c) {d : Option Tmp} (hd : ∀ t, d = some t → t < c.tmps.size) {s : Option SV} {v : Value} (hs : ∀ x, s = some x → x.toV = v) : ok (a.put d s) (c.put d v) := by
  cases d with
  | none => exact h
  | some d =>
    intro t x hx
    simp only [AT.put, get_cons] at hx
    have hlt := hd d rfl
    simp only [Act.put]
    by_cases e : d = t
    · subst e
      rw [if_pos rfl] at hx
      simp [Array.getElem?_setIfInBounds, hlt, (hs x hx).symm]
    · rw [if_neg e] at hx
      have := h t x hx
      simp [Array.getElem?_setIfInBounds, e, this]
@[simp] theorem put_defers (c : Act) (d : Option Tmp) (v : Value) : (c.put d v).defers = c.defers := by cases d <;> rfl
@[simp] theorem put_size (c : Act) (d : Option Tmp) (v : Value) : (c.put d v).tmps.size = c.tmps.size := by cases d <;> simp [Act.put]
theorem ok_argsOf {a : AT} {c : Act} (h : ok a c) : ∀ {l : List Operand} {r : List SV}, argsOf a l = some r → l.map c.eval = vals r
  | [], r, he => by cases he; rfl
  | x :: l, r, he => by
    unfold argsOf at he
    cases h1 : a.ev x with
    | none => rw [h1] at he; cases he
    | some s => cases h2 : argsOf a l with
      | none => rw [h1, h2] at he; cases he
      | some r' =>
        rw [h1, h2] at he; cases he
        simp [vals, ok_ev h h1, ok_argsOf h h2]
theorem ok_partsOf {a : AT} {c : Act} (h : ok a c) : ∀ {l : List (Nat × Operand)} {r : List (Nat × SV)}, partsOf a l = some r → l.map (fun x => (x.1, c.eval x.2)) = r.map fun x => (x.1, x.2.toV)
  | [], r, he => by cases he; rfl
  | (i, x) :: l, r, he => by
    unfold partsOf at he
    cases h1 : a.ev x with
    | none => rw [h1] at he; cases he
    | some s => cases h2 : partsOf a l with
      | none => rw [h1, h2] at he; cases he
      | some r' =>
        rw [h1, h2] at he; cases he
        simp [ok_ev h h1, ok_partsOf h h2]
theorem cells_toV (s : SV) : s.toV.cells.toList = s.cells := by
  cases s with
  | ag cs => simp [SV.toV, SV.cells, Value.cells]
  | lit b => rfl
  | v x => cases x <;> simp [SV.toV, SV.cells, Value.cells]
  | ifc p => cases p <;> rfl
  | tp es x => rfl
  | nx b es x => rfl
  | it t p => rfl
end
end Go.Dm
