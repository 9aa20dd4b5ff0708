/- The reading of code as predicates, and its soundness (text Den). No conditions beyond those its theorems state. -/
import Derived.RangeFuncIn
import Derived.RangeFuncCalls
import Derived.RangeFuncLeaves
import Derived.Laws.World
import Derived.KernelRfl
set_option linter.all false
namespace Go.Dm

abbrev PT := World → Prop

/-! ### typed values -/
inductive Lf where
  | int (k : IntKind) | bool | str | ptr | slice | map | func | iface | adr
structure Sl where
  a : Option Addr
  len : Nat
  cap : Nat
structure FV where
  fn : Fn
  fs : Array Value
  cs : Array Value
def FV.val (f : FV) : Value := .func f.fn f.fs f.cs
@[reducible] def Lf.T : Lf → Type
  | .int _ => Int | .bool => Bool | .str => ByteArray | .ptr => Option Addr | .slice => Sl | .map => Option Nat | .func => FV
  | .iface => Option (TypeId × Value)
  | .adr => Addr
def Lf.val : (l : Lf) → l.T → Value
  | .int k, n => .int k n
  | .bool, b => .bool b
  | .str, s => .string s
  | .ptr, p => .pointer p
  | .slice, s => .slice s.a s.len s.cap
  | .map, m => .map m
  | .func, f => .func f.fn f.fs f.cs
  | .iface, none => .nilIface
  | .iface, some x => .iface x.1 x.2
  | .adr, a => .pointer (some a)
@[reducible] def HT : List Lf → Type
  | [] => Unit
  | l :: ls => l.T × HT ls
def HV : (ls : List Lf) → HT ls → List Value
  | [], _ => []
  | l :: ls, x => l.val x.1 :: HV ls x.2
inductive E1 where
  | one (l : Lf) | agg (ls : List Lf)
@[reducible] def E1.T : E1 → Type
  | .one l => l.T | .agg ls => HT ls
def E1.val : (e : E1) → e.T → Value
  | .one l, x => l.val x
  | .agg ls, x => .agg (HV ls x).toArray
def E1.cells : (e : E1) → e.T → List Value
  | .one l, x => [l.val x]
  | .agg ls, x => HV ls x
@[reducible] def TT : List E1 → Type
  | [] => Unit
  | e :: es => e.T × TT es
def TV : (es : List E1) → TT es → List Value
  | [], _ => []
  | e :: es, x => e.val x.1 :: TV es x.2
inductive RT where
  | one (e : E1) | tup (es : List E1)
@[reducible] def RT.T : RT → Type
  | .one e => e.T | .tup es => TT es
def RT.val : (r : RT) → r.T → Value
  | .one e, x => e.val x
  | .tup es, x => .tuple (TV es x).toArray

/-! ### lists -/
def nth {α : Type} : List α → Nat → Option α
  | [], _ => none
  | x :: _, 0 => some x
  | _ :: l, n + 1 => nth l n

/-! ### abstract temporaries -/
inductive SV where
  | lit (b : Bool) | v (x : Value) | ifc (p : Option (TypeId × Value)) | ag (cs : List Value)
  | tp (es : List E1) (x : TT es) | nx (b : Bool) (es : List E1) (x : TT es) | it (t : Nat) (p : Option Addr)
def SV.toV : SV → Value
  | .lit b => .bool b
  | .v x => x
  | .ifc p => Lf.val .iface p
  | .ag cs => .agg cs.toArray
  | .tp es x => .tuple (TV es x).toArray
  | .nx b es x => .tuple (.bool b :: TV es x).toArray
  | .it _ p => .pointer p
def SV.cells : SV → List Value
  | .ag cs => cs
  | .v (.agg cs) => cs.toList
  | s => [s.toV]
def E1.sv : (e : E1) → e.T → SV
  | .one .iface, x => .ifc x
  | .one l, x => .v (l.val x)
  | .agg ls, x => .ag (HV ls x)
def svNth : (es : List E1) → TT es → Nat → Option SV
  | [], _, _ => none
  | e :: _, x, 0 => some (e.sv x.1)
  | _ :: es, x, n + 1 => svNth es x.2 n
def RT.sv : (r : RT) → r.T → SV
  | .one e, x => e.sv x
  | .tup es, x => .tp es x
/-- the newest first -/
abbrev AT := List (Nat × Option SV)
def AT.get : AT → Nat → Option SV
  | [], _ => none
  | x :: r, t => cond (Nat.beq x.1 t) x.2 (AT.get r t)
def AT.put (a : AT) (d : Option Tmp) (s : Option SV) : AT := match d with | none => a | some d => (d, s) :: a
def AT.ev (a : AT) : Operand → Option SV
  | .tmp t => a.get t
  | .const (.bool b) => some (.lit b)
  | .const (.agg cs) => some (.ag cs.toList)
  | .const v => some (.v v)
  | .global g => some (.v (.pointer (some ⟨g, 0, none⟩)))
  | .func f => some (.v (.func (.func f) #[] #[]))

/-! ### the tables of a program, for quick looks -/
inductive Tr (α : Type) where
  | nil | node (x : α) (l r : Tr α)
def Tr.get {α : Type} : Nat → Tr α → Nat → Option α
  | 0, _, _ => none
  | _, .nil, _ => none
  | d + 1, .node x l r, n => cond (Nat.beq n 0) (some x) (cond (Nat.beq (n % 2) 1) (Tr.get d l (n / 2)) (Tr.get d r (n / 2 - 1)))
inductive TD where
  | int (k : IntKind) | bool | str | ptr | slice (e : Nat) | arr (n e : Nat) | map (k e : Nat) | struct (fs : List (Nat × Nat)) | func | iface | tuple (ts : List Nat) | other
structure TI where
  d : TD
  size : Nat
  e : Option E1
  zero : Option (List Value)
structure Tb where
  nt : Nat
  nf : Nat
  ty : Tr TI
  fn : Tr (Option RT)
def Tb.t (D : Tb) (t : Nat) : Option TI := cond (Nat.blt t D.nt) (D.ty.get 16 t) none
def Tb.f (D : Tb) (f : Nat) : Option RT := cond (Nat.blt f D.nf) (match D.fn.get 16 f with | some x => x | none => none) none

/-! ### the pieces of a decompiled function: predicates on the world ahead of it -/
def bad : PT := fun _ => False
def L.ite (b : Bool) (x y : PT) : PT := fun w => (b = true → x w) ∧ (b = false → y w)
def L.any (k : Value → PT) : PT := fun w => ∀ z, k z w
def L.guard (φ : Prop) (k : PT) : PT := fun w => φ ∧ k w
def L.nonnil (p : Option Addr) (k : Addr → PT) : PT := fun w => ∃ a, p = some a ∧ k a w
/-- the address of an element of a slice -/
def L.idx (p : Option Addr) (i : Int) (len : Nat) (size : Nat) (k : Addr → PT) : PT := fun w => ∃ a, p = some a ∧ 0 ≤ i ∧ i < len ∧ k (a.add (i.toNat * size)) w
def cellsAt (w : World) (a : Addr) (cs : List Value) : Prop := ∀ i c, nth cs i = some c → w.cell? (a.add i) = some c
def L.load (e : E1) (a : Addr) (k : e.T → PT) : PT := fun w => ∃ x, cellsAt w a (e.cells x) ∧ k x w
def L.chk (a : Addr) (cs : List Value) (k : PT) : PT := fun w => cellsAt w a cs ∧ k w
def setCells (w : World) (a : Addr) : List Value → Nat → World
  | [], _ => w
  | c :: cs, i => setCells (w.setCell (a.add i) c) a cs (i + 1)
def oneC : Value → Bool
  | .agg _ | .tuple _ => false
  | _ => true
def L.store (a : Addr) (cs : List Value) (k : PT) : PT := fun w =>
  (∀ i c, nth cs i = some c → oneC c = true ∧ (w.cell? (a.add i)).isSome = true ∧ w.frozen? (a.add i) = false) ∧ k (setCells w a cs 0)
def L.new (cs : List Value) (T : TypeId) (k : Nat → PT) : PT := fun w => k w.heap.size (w.alloc (.cells cs.toArray T))
/-- an operation of the model's own, run in the program -/
def L.sem (P : Program) (r : RT) (s : Sem Value) (k : r.T → PT) : PT := fun w => ∃ x w', s.run P w = .ok (r.val x) w' ∧ k x w'
/-- one that only reads -/
def L.semR (P : Program) (r : RT) (s : Sem Value) (k : r.T → PT) : PT := fun w => ∃ x, s.run P w = .ok (r.val x) w ∧ k x w
def L.semU (P : Program) (s : Sem Unit) (k : PT) : PT := fun w => ∃ w', s.run P w = .ok () w' ∧ k w'
def L.chkSem (P : Program) (s : Sem Value) (v : Value) (k : PT) : PT := fun w => s.run P w = .ok v w ∧ k w
/-- an iteration's step: over, or one more -/
def L.next (P : Program) (e : List E1) (s : Sem Value) (kn : PT) (ks : TT e → PT) : PT := fun w =>
  (∃ w', s.run P w = .ok (.tuple #[.bool false]) w' ∧ kn w') ∨ (∃ x w', s.run P w = .ok (.tuple (.bool true :: TV e x).toArray) w' ∧ ks x w')
def Enters (P : Program) (f : FuncId) : Prop := ∀ args w, (callFunc f args).run P w = .ok (.enter f args) w
def L.call (P : Program) (f : FuncId) (args : List Value) (r : RT) (k : r.T → PT) : PT := fun w =>
  Calls P f args.toArray w fun e w' => ∃ x, e = .returned (r.val x) ∧ k x w'
def FR (ro : Option Nat) : Fence := { fn := fun _ => True, depth := none, alive := false, round := ro }
def RoundW (P : Program) (l : Nat) (r : Loop) (args : List Value) (w : World) (R : Value → World → Prop) : Prop :=
  RoundIn (FR none) 0 P l r.fn ((r.params.zip args.toArray).foldl (fun tmps (t, a) => tmps.setIfInBounds t a) r.tmps) r.assign r.body w fun e w' => ∃ v, e = .returned v ∧ R v w'
/-- a call of a function value -/
def FCall (P : Program) (fv : Value) (args : List Value) (w : World) (R : Value → World → Prop) : Prop :=
  match fv with
  | .func (.func f) first cap => Enters P f ∧ Calls P f (first ++ args.toArray ++ cap) w fun e w' => ∃ v, e = .returned v ∧ R v w'
  | .func (.yield l) first cap => first = #[] ∧ cap = #[] ∧ ∃ r, w.heap[l]? = some (.loop r) ∧ args.length = r.params.size ∧ RoundW P l r args w R
  | _ => False
/-- a call of a function of the program's, as a value -/
def FFCall (P : Program) (fv : Value) (args : List Value) (w : World) (R : Value → World → Prop) : Prop :=
  match fv with
  | .func (.func f) first cap => Enters P f ∧ Calls P f (first ++ args.toArray ++ cap) w fun e w' => ∃ v, e = .returned v ∧ R v w'
  | _ => False
def L.callV (P : Program) (fv : Value) (args : List Value) (r : RT) (k : r.T → PT) : PT := fun w =>
  FCall P fv args w fun v w' => ∃ x, v = r.val x ∧ k x w'
/-- an order is drawn -/
def L.draw (k : PT) : PT := fun w => k { w with drawn := w.drawn + 1 }
def L.join {Y : Type} (X : (Y → PT) → PT) (k : Y → PT) : PT := X k
def L.alts : List PT → PT
  | [] => fun _ => True
  | x :: l => fun w => x w ∧ L.alts l w
def L.loop {Y : Type} (y0 : Y) (body : Y → (Y → PT) → PT) : PT := fun w =>
  ∃ Inv : Nat → Y → PT, (∃ n, Inv n y0 w) ∧ ∀ n y w', Inv n y w' → body y (fun y' w'' => ∃ m, m < n ∧ Inv m y' w'') w'

end Go.Dm
