/- The reading of code as predicates, and its soundness (text Den2). No conditions beyond those its theorems state. -/
import Derived.Test.YtpnbgpolbjbhpaaDen
set_option linter.all false
namespace Go.Dm

def needV (x : Option SV) (f : SV → PT) : PT := match x with | some s => f s | none => bad
def argsOf (a : AT) : List Operand → Option (List SV)
  | [] => some []
  | x :: l => match a.ev x, argsOf a l with
    | some s, some r => some (s :: r)
    | _, _ => none
def vals : List SV → List Value
  | [] => []
  | s :: l => s.toV :: vals l
def maxI64 : Int := 9223372036854775807
def byteAt (s : ByteArray) (n : Int) : Int := ((s.data.toList.getD n.toNat 0).toNat : Int)
/-- the kinds of operations: 0: no memory; 1: reads; 2: all others -/
def binKind (ti : Option TI) : Nat :=
  match ti with
  | some { d := .struct _, .. } | some { d := .arr _ _, .. } => 2
  | _ => 0
def opKind (D : Tb) : Op → Nat
  | .move _ | .pick .. | .build .. | .nilCheck _ | .unOp .. | .makeInterface .. | .makeFunc .. | .fieldAddr .. | .field .. | .indexAddr .. | .index .. | .extract .. | .slice .. => 0
  | .binOp _ t _ _ _ => binKind (D.t t)
  | .load .. | .lookup .. => 1
  | .call { callee := .builtin .len, .. } => 1
  | .call { callee := .builtin .min, .. } | .call { callee := .builtin .max, .. } => 0
  | _ => 2
def eqLeaf : Value → Value → Option Bool
  | .bool a, .bool b => some (a == b)
  | .int _ a, .int _ b => some (a == b)
  | .string a, .string b => some (a == b)
  | _, _ => none
def eqCells : List Value → List Value → Option Bool
  | [], [] => some true
  | a :: x, b :: y => match eqLeaf a b, eqCells x y with
    | some p, some q => some (p && q)
    | _, _ => none
  | _, _ => none
def setS (a : AT) (o : Oper) (v : SV) : AT := a.put o.dst (some v)
def setV (a : AT) (o : Oper) (v : Value) : AT := a.put o.dst (some (.v v))
def SV.boolOf : SV → Option Bool
  | .lit b => some b
  | .v (.bool b) => some b
  | _ => none
def takeN {α : Type} : Nat → List α → List α
  | 0, _ => []
  | _, [] => []
  | n + 1, x :: l => x :: takeN n l
def dropN {α : Type} : Nat → List α → List α
  | 0, l => l
  | _, [] => []
  | n + 1, _ :: l => dropN n l
/-- the part of an aggregate -/
def partS (ti : TI) (cs : List Value) (off : Nat) : Option SV :=
  match ti.e with
  | some (.agg _) => some (.ag (takeN ti.size (dropN off cs)))
  | some (.one _) => (nth cs off).map .v
  | none => none
def spliceAt {α : Type} (cs : List α) (off : Nat) (x : List α) : List α := takeN off cs ++ x ++ dropN (off + x.length) cs
/-- the parts of a composite value, laid into it -/
def fillS (place : Nat → Option (Nat × Nat)) (cs : List Value) : List (Nat × SV) → Option (List Value)
  | [] => some cs
  | (i, s) :: r => match place i with
    | none => none
    | some (off, size) => if s.cells.length = size ∧ off + size ≤ cs.length then fillS place (spliceAt cs off s.cells) r else none
def catS (sz : Nat) : Nat → List (Nat × SV) → Option (List Value)
  | _, [] => some []
  | n, (i, s) :: r => if i = n ∧ s.cells.length = sz then match catS sz (n + 1) r with
      | some l => some (s.cells ++ l)
      | none => none
    else none
def placesOf (D : Tb) : List (Nat × Nat) → Option (List (Nat × Nat))
  | [] => some []
  | f :: r => match D.t f.1, placesOf D r with
    | some tf, some l => some ((f.2, tf.size) :: l)
    | _, _ => none
def partsOf (a : AT) : List (Nat × Operand) → Option (List (Nat × SV))
  | [] => some []
  | (i, x) :: l => match a.ev x, partsOf a l with
    | some s, some r => some ((i, s) :: r)
    | _, _ => none
def intOp (op : BinOp) (k : IntKind) (p q : Int) : Option Value :=
  match op with
  | .add => some (.int k (k.wrap (p + q)))
  | .sub => some (.int k (k.wrap (p - q)))
  | .mul => some (.int k (k.wrap (p * q)))
  | .eql => some (.bool (p == q))
  | .neq => some (.bool (p != q))
  | .lss => some (.bool (p < q))
  | .leq => some (.bool (p ≤ q))
  | .gtr => some (.bool (p > q))
  | .geq => some (.bool (p ≥ q))
  | .and => some (.int k (k.wrap ((BitVec.ofInt k.bits p) &&& (BitVec.ofInt k.bits q)).toNat))
  | .or => some (.int k (k.wrap ((BitVec.ofInt k.bits p) ||| (BitVec.ofInt k.bits q)).toNat))
  | .xor => some (.int k (k.wrap ((BitVec.ofInt k.bits p) ^^^ (BitVec.ofInt k.bits q)).toNat))
  | _ => none
def strOp (op : BinOp) (x y : ByteArray) : Option Value :=
  match op with
  | .eql => some (.bool (x.toList == y.toList))
  | .neq => some (.bool (!(x.toList == y.toList)))
  | .lss => some (.bool (Op.bytesLess x.toList y.toList))
  | .leq => some (.bool (Op.bytesLess x.toList y.toList || x.toList == y.toList))
  | .gtr => some (.bool (!(Op.bytesLess x.toList y.toList || x.toList == y.toList)))
  | .geq => some (.bool (!(Op.bytesLess x.toList y.toList)))
  | _ => none
def isConstO : Operand → Bool
  | .const _ => true
  | _ => false
def denBin (P : Program) (D : Tb) (o : Oper) (a : AT) (op : BinOp) (t : TypeId) (oy : Operand) (x y : SV) (K : AT → PT) : PT :=
  match x, y with
  | .v (.int k p), .v (.int k' q) =>
    match op with
    | .shl => L.guard (0 ≤ q) (K (setV a o (.int k (k.wrap (p * 2 ^ (min q.toNat k.bits))))))
    | .shr => L.guard (0 ≤ q) (K (setV a o (.int k (p.fdiv (2 ^ (min q.toNat k.bits))))))
    | .quo => if k = k' then L.guard (q ≠ 0) (K (setV a o (.int k (k.wrap (p.tdiv q))))) else bad
    | .rem => if k = k' then L.guard (q ≠ 0) (K (setV a o (.int k (p.tmod q)))) else bad
    | op => if k = k' then match intOp op k p q with
      | some v => K (setV a o v)
      | none => bad
      else bad
  | .v (.string p), .v (.string q) =>
    match op with
    | .add => L.guard (((p.size + q.size : Nat) : Int) ≤ maxI64) (K (setV a o (.string (p ++ q))))
    | op => match strOp op p q with
      | some v => K (setV a o v)
      | none => bad
  | .v (.pointer p), .v (.pointer none) => match D.t t with
    | some { d := .ptr, .. } => match op with
      | .eql => K (setV a o (.bool p.isNone))
      | .neq => K (setV a o (.bool (!p.isNone)))
      | _ => bad
    | _ => bad
  | .v (.slice sa _ _), .v (.slice none _ _) => match D.t t with
    | some { d := .slice _, .. } => match op with
      | .eql => K (setV a o (.bool sa.isNone))
      | .neq => K (setV a o (.bool (!sa.isNone)))
      | _ => bad
    | _ => bad
  | .v (.map p), .v (.map none) => match D.t t with
    | some { d := .map _ _, .. } => match op with
      | .eql => K (setV a o (.bool p.isNone))
      | .neq => K (setV a o (.bool (!p.isNone)))
      | _ => bad
    | _ => bad
  | .ifc p, .v .nilIface => if isConstO oy then match D.t t with
    | some { d := .iface, .. } => match op with
      | .eql => K (setV a o (.bool p.isNone))
      | .neq => K (setV a o (.bool (!p.isNone)))
      | _ => bad
    | _ => bad
    else bad
  | .ag p, .ag q => if binKind (D.t t) = 2 then match eqCells p q with
    | some b => match op with
      | .eql => L.chkSem P (do eqGuard .eql t (.tmp 0) (.tmp 0) (.agg p.toArray) (.agg q.toArray); binOp .eql t (.agg p.toArray) (.agg q.toArray)) (.bool b) (K (setV a o (.bool b)))
      | .neq => L.chkSem P (do eqGuard .neq t (.tmp 0) (.tmp 0) (.agg p.toArray) (.agg q.toArray); binOp .neq t (.agg p.toArray) (.agg q.toArray)) (.bool (!b)) (K (setV a o (.bool (!b))))
      | _ => bad
    | none => bad
    else bad
  | x, y => match x.boolOf, y.boolOf, D.t t with
    | some p, some q, some { d := .bool, .. } => match op with
      | .eql => K (setV a o (.bool (p == q)))
      | .neq => K (setV a o (.bool (!(p == q))))
      | _ => bad
    | _, _, _ => bad
def minMax (mx : Bool) (r : Value) : List SV → Option Value
  | [] => some r
  | s :: l => match r, s with
    | .int k x, .v (.int _ y) => minMax mx (.int k (cond mx (if y > x then y else x) (if y < x then y else x))) l
    | _, _ => none

def denBuiltin (P : Program) (D : Tb) (o : Oper) (a : AT) (K : AT → PT) (b : Builtin) (tys : Array TypeId) (vs : List SV) : PT :=
  match b with
  | .len => match vs, tys.toList with
    | [.v (.string s)], [t] => match D.t t with
      | some { d := .str, .. } => K (setV a o (.int .i64 s.size))
      | _ => bad
    | [.v (.slice _ n _)], [t] => match D.t t with
      | some { d := .slice _, .. } => K (setV a o (.int .i64 n))
      | _ => bad
    | [.v (.map m)], [_] => L.semR P (.one (.one (.int .i64))) (Builtin.len_ tys o.type #[.map m]) fun x => K (setV a o (.int .i64 x))
    | _, _ => bad
  | .min => match vs with
    | .v r :: l => match minMax false r l with
      | some v => K (setV a o v)
      | none => bad
    | _ => bad
  | .max => match vs with
    | .v r :: l => match minMax true r l with
      | some v => K (setV a o v)
      | none => bad
    | _ => bad
  | .cap => match vs, tys.toList with
    | [.v (.slice _ _ n)], [t] => match D.t t with
      | some { d := .slice _, .. } => K (setV a o (.int .i64 n))
      | _ => bad
    | _, _ => bad
  | .append => match vs with
    | [.v (.slice s l cp), x] => L.sem P (.one (.one .slice)) (Builtin.append_ tys o.type #[.slice s l cp, x.toV]) fun x => K (setV a o (.slice x.a x.len x.cap))
    | _ => bad
  | .copy => L.sem P (.one (.one (.int .i64))) (Builtin.copy_ tys o.type (vals vs).toArray) fun x => K (setV a o (.int .i64 x))
  | .delete => L.sem P (.tup []) (Builtin.delete_ tys o.type (vals vs).toArray) fun _ => K (a.put o.dst none)
  | .clear => L.sem P (.tup []) (Builtin.clear_ tys o.type (vals vs).toArray) fun _ => K (a.put o.dst none)
  | _ => bad

/-- what an iterator over a value of a type tells -/
def iterE (D : Tb) (t : Nat) : Option (List E1) := match D.t t with
  | some { d := .map k e, .. } => match D.t k, D.t e with
    | some { e := some x, .. }, some { e := some y, .. } => some [x, y]
    | _, _ => none
  | some { d := .str, .. } => some [.one (.int .i64), .one (.int .i32)]
  | _ => none
def needE (x : Option (List E1)) (f : List E1 → PT) : PT := match x with | some s => f s | none => bad
/-- one operation: what is asked of the world ahead of it, for K behind it -/
def denOp (P : Program) (D : Tb) (o : Oper) (a : AT) (K : AT → PT) : PT :=
  match o.op with
  | .move x => needV (a.ev x) fun s => K (setS a o s)
  | .assign x => K (a.put o.dst (a.ev x))
  | .pick c x y =>
    match a.ev c with
    | some (.lit b) => cond b (needV (a.ev x) fun s => K (setS a o s)) (needV (a.ev y) fun s => K (setS a o s))
    | some (.v (.bool b)) => L.ite b (needV (a.ev x) fun s => K (setS a o s)) (needV (a.ev y) fun s => K (setS a o s))
    | _ => bad
  | .alloc e => match D.t e with
    | some { zero := some z, .. } => L.new z e fun b => K (setV a o (.pointer (some ⟨b, 0, none⟩)))
    | _ => bad
  | .box e x => needV (a.ev x) fun v => L.new v.cells e fun b => K (setV a o (.pointer (some ⟨b, 0, none⟩)))
  | .load t x => needV (a.ev x) fun
    | .v (.pointer (some ad)) => match D.t t with
      | some { e := some e, .. } => L.load e ad fun x => K (setS a o (e.sv x))
      | _ => bad
    | _ => bad
  | .store t x y => needV (a.ev x) fun
    | .v (.pointer (some ad)) => needV (a.ev y) fun v => match D.t t with
      | some ti => if v.cells.length = ti.size then L.store ad v.cells (K (a.put o.dst none)) else bad
      | none => bad
    | _ => bad
  | .nilCheck x => needV (a.ev x) fun
    | .v (.pointer p) => L.nonnil p fun ad => K (setV a o (.pointer (some ad)))
    | .v (.func (.func f) x y) => K (setV a o (.func (.func f) x y))
    | _ => bad
  | .fieldAddr s x f => needV (a.ev x) fun
    | .v (.pointer (some ad)) => match D.t s with
      | some { d := .struct fs, .. } => match nth fs f with
        | some fd => match D.t fd.1 with
          | some { size := _ + 1, .. } => K (setV a o (.pointer (some (ad.add fd.2))))
          | _ => bad
        | none => bad
      | _ => bad
    | _ => bad
  | .indexAddr t x i => needV (a.ev i) fun
    | .v (.int _ n) => needV (a.ev x) fun
      | .v (.pointer (some ad)) => match D.t t with
        | some { d := .arr len e, .. } => match D.t e with
          | some te => L.idx (some ad) n len te.size fun ad => K (setV a o (.pointer (some ad)))
          | none => bad
        | _ => bad
      | .v (.slice sa len _) => match D.t t with
        | some { d := .slice e, .. } => match D.t e with
          | some te => L.idx sa n len te.size fun ad => K (setV a o (.pointer (some ad)))
          | none => bad
        | _ => bad
      | _ => bad
    | _ => bad
  | .index t x i => needV (a.ev i) fun
    | .v (.int _ n) => needV (a.ev x) fun
      | .v (.string s) => match D.t t with
        | some { d := .str, .. } => L.guard (0 ≤ n ∧ n < s.size) (K (setV a o (.int .u8 (byteAt s n))))
        | _ => bad
      | .ag cs => match D.t t with
        | some { d := .arr len e, .. } => match D.t e with
          | some te => match partS te cs (n.toNat * te.size) with
            | some v => L.guard (0 ≤ n ∧ n < len) (K (setS a o v))
            | none => bad
          | none => bad
        | _ => bad
      | _ => bad
    | _ => bad
  | .build t ps => match D.t t, partsOf a ps.toList with
    | some { d := .struct fs, zero := some z, .. }, some l => match placesOf D fs with
      | some ps => match fillS (nth ps) z l with
        | some cs => K (setS a o (.ag cs))
        | none => bad
      | none => bad
    | some { d := .arr _ e, zero := some z, .. }, some l => match D.t e with
        | some te => match fillS (fun i => some (i * te.size, te.size)) z l with
          | some cs => K (setS a o (.ag cs))
          | none => bad
        | none => bad
    | _, _ => bad
  | .buildSlice t n ps => match D.t t with
    | some { d := .slice e, .. } => match D.t e, partsOf a ps.toList with
      | some { size := sz, zero := some _, .. }, some l => if ps.toList.length = n ∧ n * sz ≤ 4096 then match catS sz 0 l with
        | some cs => L.new cs e fun b => K (setV a o (.slice (some ⟨b, 0, none⟩) n n))
        | none => bad
        else bad
      | _, _ => bad
    | _ => bad
  | .slice t x lo hi mx => needV (a.ev x) fun
    | .v (.string s) =>
      if mx.isNone then
      match D.t t with
      | some { d := .str, .. } =>
        needV (match lo with | some x => a.ev x | none => some (.v (.int .i64 0))) fun
        | .v (.int _ l) => needV (match hi with | some x => a.ev x | none => some (.v (.int .i64 s.size))) fun
          | .v (.int _ h) => L.guard (0 ≤ l ∧ l ≤ h ∧ h ≤ s.size) (K (setV a o (.string (s.extract l.toNat h.toNat))))
          | _ => bad
        | _ => bad
      | _ => bad
      else bad
    | .v (.slice sa len cap) => match D.t t with
      | some { d := .slice e, .. } => match D.t e with
        | some te =>
          if mx.isSome && hi.isNone then bad else
          needV (match lo with | some x => a.ev x | none => some (.v (.int .i64 0))) fun
          | .v (.int _ l) => needV (match hi with | some x => a.ev x | none => some (.v (.int .i64 len))) fun
            | .v (.int _ h) => needV (match mx with | some x => a.ev x | none => some (.v (.int .i64 cap))) fun
              | .v (.int _ m) => L.guard (0 ≤ l ∧ l ≤ h ∧ h ≤ m ∧ m ≤ cap)
                  (K (setV a o (.slice (if m.toNat = l.toNat then sa else sa.map (·.add (l.toNat * te.size))) (h.toNat - l.toNat) (m.toNat - l.toNat))))
              | _ => bad
            | _ => bad
          | _ => bad
        | none => bad
      | _ => bad
    | _ => bad
  | .extract x i => match a.ev x with
    | some (.nx b es y) => match i with
      | 0 => K (setS a o (.lit b))
      | i + 1 => match svNth es y i with
        | some v => K (setS a o v)
        | none => bad
    | some (.tp es y) => match svNth es y i with
      | some v => K (setS a o v)
      | none => bad
    | some (.v (.tuple vs)) => match nth vs.toList i with
      | some v => K (setV a o v)
      | none => bad
    | _ => bad
  | .field t x f => match a.ev x with
    | some (.ag cs) => match D.t t with
      | some { d := .struct fs, .. } => match nth fs f with
        | some fd => match D.t fd.1 with
          | some tf => match partS tf cs fd.2 with
            | some v => K (setS a o v)
            | none => bad
          | none => bad
        | none => bad
      | _ => bad
    | _ => bad
  | .unOp op _ x => needV (a.ev x) fun s => match op with
    | .not => match s.boolOf with
      | some b => K (setV a o (.bool (!b)))
      | none => bad
    | .neg => match s with
      | .v (.int k n) => K (setV a o (.int k (k.wrap (0 - n))))
      | _ => bad
    | _ => bad
  | .makeInterface t x => needV (a.ev x) fun s => match D.t t with
    | some { d := .iface, .. } => bad
    | some _ => K (setV a o (.iface t s.toV))
    | none => bad
  | .makeFunc fn first cap => match argsOf a first.toList, argsOf a cap.toList with
    | some f, some c => K (setV a o (.func fn (vals f).toArray (vals c).toArray))
    | _, _ => bad
  | .typeAssert x _ asserted ok => match a.ev x with
    | some (.v (.iface t v)) => match D.t asserted with
      | some { d := .iface, .. } => bad
      | some ti => if t = asserted then K (setV a o (if ok then .tuple #[v, .bool true] else v))
        else if ok then match ti.zero with
          | some _ => L.any fun z => K (setV a o (.tuple #[z, .bool false]))
          | none => bad
        else bad
      | none => bad
    | _ => bad
  | .binOp op t x y _ => needV (a.ev x) fun sx => needV (a.ev y) fun sy => denBin P D o a op t y sx sy K
  | .lookup t m k ok => match argsOf a [m, k] with
    | some [mv, kv] => match D.t t with
      | some { d := .map _ e, .. } => match D.t e with
        | some { e := some e1, .. } => if ok then L.semR P (.tup [e1, .one .bool]) (Instr.lookup t mv.toV kv.toV true) fun x => K (setS a o (.tp [e1, .one .bool] x))
            else L.semR P (.one e1) (Instr.lookup t mv.toV kv.toV false) fun x => K (setS a o (e1.sv x))
        | _ => bad
      | _ => bad
    | _ => bad
  | .mapUpdate t m k x | .insert t m k x => match argsOf a [m, k, x] with
    | some [mv, kv, xv] => L.semU P (Instr.mapUpdate t mv.toV kv.toV xv.toV) (K (a.put o.dst none))
    | _ => bad
  | .mapEntry t m k => match argsOf a [m, k] with
    | some [mv, kv] => match D.t t with
      | some { d := .map _ e, .. } => match D.t e with
        | some { e := some e1, .. } => L.sem P (.tup [e1, .one (.int .i64)]) (Instr.mapEntry t mv.toV kv.toV) fun x => K (setS a o (.tp [e1, .one (.int .i64)] x))
        | _ => bad
      | _ => bad
    | _ => bad
  | .entryStore t m s x => match argsOf a [m, s, x] with
    | some [mv, sv, xv] => L.semU P (Instr.entryStore t mv.toV sv.toV xv.toV) (K (a.put o.dst none))
    | _ => bad
  | .makeMap t re => match re with
    | none => L.sem P (.one (.one .map)) (Instr.makeMap t none) fun x => K (setV a o (.map x))
    | some x => needV (a.ev x) fun v => L.sem P (.one (.one .map)) (Instr.makeMap t (some v.toV)) fun x => K (setV a o (.map x))
  | .makeSlice t l c => match argsOf a [l, c] with
    | some [lv, cv] => L.sem P (.one (.one .slice)) (Instr.makeSlice t lv.toV cv.toV) fun x => K (setV a o (.slice x.a x.len x.cap))
    | _ => bad
  | .range t x => needV (a.ev x) fun v => L.sem P (.one (.one .ptr)) (Instr.range t v.toV) fun x => K (setS a o (.it t x))
  | .next it isS => needV (a.ev it) fun
    | .it t p => needE (iterE D t) fun es => L.next P es (Instr.next (.pointer p) isS o.type) (K (setS a o (.nx false [] ()))) fun x => K (setS a o (.nx true es x))
    | _ => bad
  | .entry it => needV (a.ev it) fun
    | .it t p => needE (iterE D t) fun es => L.sem P (.tup es) (Instr.entry (.pointer p)) fun x => K (setS a o (.tp es x))
    | _ => bad
  | .convert s d x => needV (a.ev x) fun v => match D.t s, D.t d with
    | some ts, some td => match ts.d, td.d with
      | .slice _, _ => match td.e with
        | some e => L.sem P (.one e) (convert s d v.toV) fun x => K (setS a o (e.sv x))
        | none => bad
      | _, .slice _ => L.sem P (.one (.one .slice)) (convert s d v.toV) fun x => K (setV a o (.slice x.a x.len x.cap))
      | .int _, .int k => match v with
        | .v (.int _ n) => K (setV a o (.int k (k.wrap n)))
        | _ => bad
      | .str, .str => match v with
        | .v (.string s) => K (setV a o (.string s))
        | _ => bad
      | _, _ => bad
    | _, _ => bad
  | .call c => match argsOf a c.args.toList with
    | none => bad
    | some vs => match c.callee with
      | .value (.func f) => match D.f f with
        | some r => L.call P f (vals vs) r fun x => K (setS a o (r.sv x))
        | none => bad
      | .value x => needV (a.ev x) fun fv => match D.t o.type with
        | some { d := .tuple ts, .. } => match e1s D ts with
          | some es => L.callV P fv.toV (vals vs) (.tup es) fun x => K (setS a o (.tp es x))
          | none => bad
        | some { e := some e, .. } => L.callV P fv.toV (vals vs) (.one e) fun x => K (setS a o (e.sv x))
        | _ => bad
      | .invoke _ _ => bad
      | .builtin b => denBuiltin P D o a K b c.argTypes vs
  | _ => bad
where
  e1s (D : Tb) : List Nat → Option (List E1)
    | [] => some []
    | t :: ts => match D.t t, e1s D ts with
      | some { e := some e, .. }, some r => some (e :: r)
      | _, _ => none

/-! ### regions -/
def guardsOf : List Oper → List Nat
  | [] => []
  | o :: r => match o.guard with | some (j, _) => j :: guardsOf r | none => guardsOf r
def memN (i : Nat) : List Nat → Bool
  | [] => false
  | x :: l => cond (Nat.beq x i) true (memN i l)
/-- the operations that others wait for; whether each of them is taken to hold -/
structure GS where
  l : List Nat
  asm : Bool
/-- the truth of what a later operation waits for is parted at once -/
def splitAt (gs : GS) (i : Nat) (o : Oper) (K : AT → PT) (a : AT) : PT :=
  cond (memN i gs.l)
    (match o.dst with
    | some d => match a.get d with
      | some (.v (.bool b)) => cond gs.asm (L.guard (b = true) (K (a.put (some d) (some (.lit true))))) (L.ite b (K (a.put (some d) (some (.lit true)))) (K (a.put (some d) (some (.lit false)))))
      | some (.lit _) => K a
      | _ => bad
    | none => bad)
    (K a)
/-- the operation with its guard -/
def skipV (D : Tb) (o : Oper) : Option SV := cond (Nat.beq (opKind D o.op) 0) (some (.v (.tuple #[]))) none
def denG (P : Program) (D : Tb) (ops : List Oper) (gs : GS) (i : Nat) (o : Oper) (a : AT) (K : AT → PT) : PT :=
  match o.guard with
  | none => denOp P D o a (splitAt gs i o K)
  | some (j, want) => match (nth ops j).bind (·.dst) with
    | some d => match a.get d with
      | some (.lit b) => cond (b == want) (denOp P D o a (splitAt gs i o K)) (K (a.put o.dst (skipV D o)))
      | some (.v (.tuple _)) => K (a.put o.dst (skipV D o))
      | _ => bad
    | none => bad
def denSeq (P : Program) (D : Tb) (ops : List Oper) (gs : GS) : List (Nat × Oper) → AT → (AT → PT) → PT
  | [], a, K => K a
  | x :: r, a, K => denG P D ops gs x.1 x.2 a fun a => denSeq P D ops gs r a K
def number {α : Type} : Nat → List α → List (Nat × α)
  | _, [] => []
  | n, x :: l => (n, x) :: number (n + 1) l

end Go.Dm
