/- The reading of code as predicates, and its soundness (text Den3). No conditions beyond those its theorems state. -/
import Derived.Test.YtpnbgpolbjbhpaaDen2
set_option linter.all false
namespace Go.Dm

/-! ### a region that draws its order -/
def availIn (S : List (Nat × Oper)) (o : Oper) : Bool := o.after.toList.all fun e => !Region.binds .any e || !(S.any fun x => x.1 == e.on)
/-- who comes ahead of whom, as bits -/
def maskOf (acc : List Nat) : List Edge → Nat
  | [] => 0
  | e :: r => if Region.binds .any e then (2 ^ e.on ||| (match nth acc e.on with | some m => m | none => 0)) ||| maskOf acc r else maskOf acc r
def masks : List Oper → List Nat → List Nat
  | [], acc => acc
  | o :: r, acc => masks r (acc ++ [maskOf acc o.after.toList])
inductive Chk where
  | ld (a : Addr) (cs : List Value) | sm (s : Sem Value) (v : Value)
def mkChk (o : Oper) (a a' : AT) : Option Chk :=
  match o.dst with
  | none => none
  | some d => match a'.get d with
    | some s => match o.op with
      | .load _ x => match a.ev x with
        | some (.v (.pointer (some ad))) => some (.ld ad s.cells)
        | _ => none
      | .lookup t m k ok => match argsOf a [m, k] with
        | some [mv, kv] => some (.sm (Instr.lookup t mv.toV kv.toV ok) s.toV)
        | _ => none
      | .call c => match argsOf a c.args.toList with
        | some [.v (.map m)] => some (.sm (Builtin.len_ c.argTypes o.type #[.map m]) s.toV)
        | _ => none
      | _ => none
    | none => none
def addChk (D : Tb) (i : Nat) (o : Oper) (a a' : AT) (C : List (Nat × Chk)) : List (Nat × Chk) :=
  if opKind D o.op = 1 then match mkChk o a a' with
    | some c => (i, c) :: C
    | none => C
  else C
def doChks (P : Program) (m : Nat) : List (Nat × Chk) → PT → PT
  | [], k => k
  | (r, c) :: C, k => if m.testBit r then doChks P m C k else match c with
    | .ld a cs => L.chk a cs (doChks P m C k)
    | .sm s v => L.chkSem P s v (doChks P m C k)
def altsOf : List PT → PT
  | [] => bad
  | [x] => x
  | l => L.alts l
def without (S : List (Nat × Oper)) (i : Nat) : List (Nat × Oper) := S.filter fun x => x.1 != i
def firstAvail (D : Tb) (S : List (Nat × Oper)) : List (Nat × Oper) → Option (Nat × Oper)
  | [] => none
  | x :: r => if availIn S x.2 && decide (opKind D x.2.op < 2) then some x else firstAvail D S r
def maskAt (ms : List Nat) (i : Nat) : Nat := match nth ms i with | some m => m | none => 0
def explore (P : Program) (D : Tb) (ops : List Oper) (gs : GS) (ms : List Nat) : Nat → List (Nat × Oper) → List (Nat × Chk) → AT → (AT → PT) → PT
  | 0, S, _, a, K => if S.isEmpty then K a else bad
  | n + 1, S, C, a, K =>
    match firstAvail D S S with
    | some (i, o) => denG P D ops gs i o a fun a' => explore P D ops gs ms n (without S i) (addChk D i o a a' C) a' K
    | none => if S.isEmpty then K a else
      altsOf ((S.filter fun x => availIn S x.2).map fun x =>
        denG P D ops gs x.1 x.2 a fun a' => doChks P (maskAt ms x.1) C (explore P D ops gs ms n (without S x.1) C a' K))

def tmpsOf : List Operand → List Nat
  | [] => []
  | .tmp t :: l => t :: tmpsOf l
  | _ :: l => tmpsOf l
def readsOf (ops : List Oper) (o : Oper) : List Nat :=
  tmpsOf o.op.operands.toList ++ (match o.guard with
    | some (g, _) => match (nth ops g).bind (·.dst) with | some d => [d] | none => []
    | none => [])
/-- what the order of a region leans on: looked at by the kernel -/
def drawOk (D : Tb) (ops : List Oper) (ms : List Nat) : Bool :=
  let l := number 0 ops
  l.all fun x =>
    (x.2.after.toList.all fun e => !Region.binds .any e || decide (e.on < x.1)) &&
    (match x.2.op with | .defer _ | .select _ _ => false | _ => true) &&
    (decide (opKind D x.2.op ≠ 1) || (x.2.dst.isSome && !memN x.1 (guardsOf ops))) &&
    (match x.2.dst with
    | none => true
    | some d => (decide (opKind D x.2.op = 2) || !memN d (readsOf ops x.2)) && l.all fun y => x.1 == y.1 ||
        (if opKind D x.2.op < 2 then (!memN d (readsOf ops y.2) || (maskAt ms y.1).testBit x.1) && !(y.2.dst == some d)
         else (!memN d (readsOf ops y.2) || (maskAt ms y.1).testBit x.1 || (maskAt ms x.1).testBit y.1)))

/-! ### joins -/
@[reducible] def TJ : List (Nat × E1) → Type
  | [] => Unit
  | x :: r => x.2.T × TJ r
def Lf.un : (l : Lf) → SV → Option l.T
  | .int k, .v (.int k' n) => if k' = k then some n else none
  | .bool, .lit b => some b
  | .bool, .v (.bool b) => some b
  | .str, .v (.string s) => some s
  | .ptr, .v (.pointer p) => some p
  | .adr, .v (.pointer (some a)) => some a
  | .slice, .v (.slice a n c) => some ⟨a, n, c⟩
  | .map, .v (.map m) => some m
  | .func, .v (.func f a b) => some ⟨f, a, b⟩
  | .iface, .ifc p => some p
  | .iface, .v .nilIface => some none
  | .iface, .v (.iface t v) => some (some (t, v))
  | _, _ => none
def unH : (ls : List Lf) → List Value → Option (HT ls)
  | [], [] => some ()
  | l :: ls, v :: vs => match l.un (.v v), unH ls vs with
    | some x, some y => some (x, y)
    | _, _ => none
  | _, _ => none
def E1.un : (e : E1) → SV → Option e.T
  | .one l, s => l.un s
  | .agg ls, .ag cs => unH ls cs
  | _, _ => none
def collect : (J : List (Nat × E1)) → AT → Option (TJ J)
  | [], _ => some ()
  | x :: r, a => match (a.get x.1).bind x.2.un, collect r a with
    | some p, some q => some (p, q)
    | _, _ => none
def place : (J : List (Nat × E1)) → TJ J → AT → AT
  | [], _, a => a
  | x :: r, y, a => (x.1, some (x.2.sv y.1)) :: place r y.2 a
/-- only these temporaries -/
def kill (D : List Nat) : AT → AT
  | [] => []
  | x :: r => cond (memN x.1 D) (kill D r) (x :: kill D r)
def dstsOf : List Oper → List Nat
  | [] => []
  | o :: r => match o.dst with | some d => d :: dstsOf r | none => dstsOf r
/-- the temporaries that a piece of code may write -/
def defs : Code → List Nat
  | .region _ ops _ => dstsOf ops.toList
  | .seq a b => defs a ++ defs b
  | .cond _ a b => defs a ++ defs b
  | .block _ b => defs b
  | .loop b => defs b
  | .scope b => defs b
  | _ => []
def hasRange : Code → Bool
  | .rangeFunc .. => true
  | .seq a b => hasRange a || hasRange b
  | .cond _ a b => hasRange a || hasRange b
  | .block _ b => hasRange b
  | .loop b => hasRange b
  | .scope b => hasRange b
  | _ => false
inductive X where
  | normal | exit (id : Nat) | goto (l : Nat) | ret
inductive Ann where
  | auto
  | seq (a b : Ann) (j : Option (List (Nat × E1)))
  | cond (a b : Ann)
  | one (j : List (Nat × E1)) (a : Ann)
  | asm (a : Ann)
def Ann.l : Ann → Ann
  | .seq a _ _ => a | .cond a _ => a | .one _ a => a | .auto => .auto | .asm _ => .auto
def Ann.sure : Ann → Bool
  | .asm _ => true | _ => false
def Ann.r : Ann → Ann
  | .seq _ b _ => b | .cond _ b => b | _ => .auto
def Ann.j : Ann → Option (List (Nat × E1))
  | .seq _ _ j => j | .one j _ => some j | .asm (.one j _) => some j | _ => none

def L.begin (P : Program) (l : Nat) (k : PT) : PT := fun w => ∃ w', (Instr.beginRound l).run P w = .ok () w' ∧ k w'
def L.endRound (P : Program) (l : Nat) (jump : Option Code) (R : Value → PT) : PT := fun w => ∃ v w', (Instr.endRound l jump).run P w = .ok v w' ∧ R v w'
def L.unmark (P : Program) : List Nat → PT → PT
  | [], k => k
  | d :: ds, k => fun w => ∃ w', (Instr.takeDeferred d).run P w = .ok [] w' ∧ L.unmark P ds k w'
/-- a range over a function: the round as a predicate; what comes behind, by the jump that is pending -/
def L.range (P : Program) (ro : Option Nat) (fv : Value) (es : List E1) (body : Nat → TT es → (Value → PT) → PT) (K : List Nat → Option Code → PT) : PT := fun w =>
  match ro with
  | none => ∀ lp : Loop, lp.state = .ready → lp.pending = none →
      (∀ y st pd w' R, w'.heap[w.heap.size + 1]? = some (.loop { lp with state := st, pending := pd }) → body (w.heap.size + 1) y R w' →
        FCall P (.func (.yield (w.heap.size + 1)) #[] #[]) (TV es y) w' R) →
      FFCall P fv [.func (.yield (w.heap.size + 1)) #[] #[]] ((w.alloc (.deferred (some []))).alloc (.loop lp)) fun _ w2 =>
        ∃ jump w3, (Instr.endLoop (w.heap.size + 1)).run P w2 = .ok jump w3 ∧ K [w.heap.size] jump w3
  | some l0 => ∃ r0, w.heap[l0]? = some (.loop r0) ∧ ∀ lp : Loop, lp.state = .ready → lp.pending = none →
      (∀ y st pd w' R, w'.heap[w.heap.size]? = some (.loop { lp with state := st, pending := pd }) → body w.heap.size y R w' →
        FCall P (.func (.yield w.heap.size) #[] #[]) (TV es y) w' R) →
      FFCall P fv [.func (.yield w.heap.size) #[] #[]] (w.alloc (.loop lp)) fun _ w2 =>
        ∃ jump w3, (Instr.endLoop w.heap.size).run P w2 = .ok jump w3 ∧ K [] jump w3
def look (id : Nat) : List (Nat × PT) → PT
  | [] => bad
  | (i, k) :: r => if id = i then k else look id r
/-- the jump that a round has left -/
def L.jump (jump : Option Code) (kn kr : PT) (ks : List (Nat × PT)) : PT :=
  match jump with
  | none => kn
  | some .ret => kr
  | some (.exit id) => look id ks
  | some _ => bad
def exitsOf : Code → List Nat
  | .seq a b => exitsOf a ++ exitsOf b
  | .cond _ a b => exitsOf a ++ exitsOf b
  | .block id b => (exitsOf b).filter fun i => i != id
  | .loop b => exitsOf b
  | .scope b => exitsOf b
  | .rangeFunc _ _ a b => exitsOf a ++ exitsOf b
  | .exit id => [id]
  | _ => []
def dedup : List Nat → List Nat
  | [] => []
  | x :: l => if (dedup l).any (· == x) then dedup l else x :: dedup l
def jumpK (K : X → AT → List Nat → PT) (a : AT) (ds : List Nat) (E : List Nat) (jump : Option Code) : PT :=
  L.jump jump (K .normal a ds) (K .ret a ds) (E.map fun id => (id, K (.exit id) a ds))

def noDup : List Nat → Bool
  | [] => true
  | x :: l => !memN x l && noDup l
/-- a piece of code: what is asked of the world ahead of it -/
def den (P : Program) (D : Tb) : Code → Ann → Option Nat → AT → List Nat → (X → AT → List Nat → PT) → PT
  | .skip, _, _, a, ds, K => K .normal a ds
  | .label _, _, _, a, ds, K => K .normal a ds
  | .region _ ops false, an, _, a, ds, K => denSeq P D ops.toList ⟨guardsOf ops.toList, an.sure⟩ (number 0 ops.toList) a fun a => K .normal a ds
  | .region _ ops true, an, _, a, ds, K =>
    match an.j with
    | none => if drawOk D ops.toList (masks ops.toList []) then L.draw <| explore P D ops.toList ⟨guardsOf ops.toList, an.sure⟩ (masks ops.toList []) ops.toList.length (number 0 ops.toList) [] a fun a => K .normal a ds else bad
    | some J => if drawOk D ops.toList (masks ops.toList []) then L.join (fun k => L.draw <| explore P D ops.toList ⟨guardsOf ops.toList, an.sure⟩ (masks ops.toList []) ops.toList.length (number 0 ops.toList) [] a fun a =>
        match collect J a with | some y => k y | none => bad) fun y => K .normal (place J y (kill (dstsOf ops.toList) a)) ds else bad
  | .seq x y, an, ro, a, ds, K =>
    match an.j with
    | none => den P D x an.l ro a ds fun e a ds => match e with
      | .normal => den P D y an.r ro a ds K
      | e => K e a ds
    | some J => if hasRange x then bad else L.join (fun k => den P D x an.l ro a ds fun e a' ds' => match e with
        | .normal => match collect J a' with | some y => k y | none => bad
        | e => K e a' ds') fun z => den P D y an.r ro (place J z (kill (defs x) a)) ds K
  | .cond c x y, an, ro, a, ds, K =>
    match a.ev c with
    | some (.lit true) => den P D x an.l ro a ds K
    | some (.lit false) => den P D y an.r ro a ds K
    | some (.v (.bool b)) => L.ite b (den P D x an.l ro a ds K) (den P D y an.r ro a ds K)
    | _ => bad
  | .block id c, an, ro, a, ds, K => den P D c an ro a ds fun e a ds => match e with
    | .exit id' => if id' = id then K .normal a ds else K (.exit id') a ds
    | e => K e a ds
  | .loop c, an, ro, a, ds, K =>
    match an.j with
    | none => bad
    | some J => if hasRange c then bad else match collect J a with
      | none => bad
      | some y0 => L.loop y0 fun y again => den P D c an.l ro (place J y (kill (defs c) a)) ds fun e a' ds' => match e with
        | .normal => match collect J a' with | some y' => again y' | none => bad
        | e => K e a' ds'
  | .exit id, _, _, a, ds, K => K (.exit id) a ds
  | .goto l, _, _, a, ds, K => K (.goto l) a ds
  | .ret, _, _, a, ds, K => K .ret a ds
  | .rangeFunc g ps assign body, an, ro, a, ds, K =>
    match an.j with
    | none => bad
    | some J => if ps.toList = J.map (·.1) ∧ noDup ps.toList = true then
      needV (a.ev g) fun fv => L.range P ro fv.toV (J.map (·.2))
        (fun l y R => den P D assign an.l (some l) (place J (tjOf J y) a) [] fun e a' ds' => match e with
          | .normal => L.begin P l (den P D body an.r (some l) a' ds' fun e _ _ => match e with
            | .normal => L.endRound P l none R
            | .ret => L.endRound P l (some .ret) R
            | .exit id => L.endRound P l (some (.exit id)) R
            | .goto t => L.endRound P l (some (.goto t)) R)
          | _ => bad)
        (fun d jump => jumpK K a (d ++ ds) (dedup (exitsOf body)) jump)
      else bad
  | _, _, _, _, _, _ => bad
where
  tjOf : (J : List (Nat × E1)) → TT (J.map (·.2)) → TJ J
    | [], _ => ()
    | _ :: r, y => (y.1, tjOf r y.2)

def denRes (D : Tb) (a : AT) : List ResultVar → (List Value → PT) → PT
  | [], K => K []
  | .tmp t :: r, K => match a.get t with
    | some s => denRes D a r fun vs => K (s.toV :: vs)
    | none => bad
  | .cell c t :: r, K => needV (a.get c) fun
    | .v (.pointer (some ad)) => match D.t t with
      | some { e := some e, .. } => L.load e ad fun x => denRes D a r fun vs => K (e.val x :: vs)
      | _ => bad
    | _ => bad
def tupled : List Value → Value
  | [v] => v
  | vs => .tuple vs.toArray
def valSV : Value → SV
  | .agg cs => .ag cs.toList
  | v => .v v
def argsT : Nat → List SV → AT
  | _, [] => []
  | n, v :: vs => (n, some v) :: argsT (n + 1) vs
/-- a whole function -/
def denF (P : Program) (D : Tb) (fn : Func) (an : Ann) (args : List SV) (K : Value → PT) : PT :=
  match fn.body with
  | none => bad
  | some c => den P D c an none (argsT 0 args) [] fun e a ds => match e with
    | .normal | .ret => L.unmark P ds (denRes D a fn.results.toList fun vs => K (tupled vs))
    | _ => bad
end Go.Dm
