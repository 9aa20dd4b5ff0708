/- What is proved on the way to a statement of the seat, pressed (text AA). No conditions beyond those its theorems state. -/
import Derived.Laws.RangeAny
import Derived.Lib.OthersKept
import Derived.RangeFuncIn
import Derived.RangeFuncCalls
import Derived.RangeFuncLeaves
import Derived.Laws.World
import Derived.KernelRfl
import Derived.Laws.Sem
import Derived.Laws.Cells
import Derived.Laws.Entries
set_option linter.all false
abbrev Wi:Int→Int:=Go.IntKind.wrap .i64
abbrev B0:=ByteArray
def cS{α:Type}{a b:α}(h:a=b:=by kernel_rfl):some a=some b:=congrArg some h
abbrev pO(b:Nat):Go.Value:=.pointer (some ⟨b,0,none⟩)
namespace Go.Dm
abbrev PT:=World→Prop
inductive Lf where
 | int (k:IntKind) | bool | str | ptr | slice | map | func | iface | adr
structure Sl where
 a:Option Addr
 len:Nat
 cap:Nat
structure FV where
 fn:Fn
 fs:Array Value
 cs:Array Value
def FV.val(f:FV):Value:=.func f.fn f.fs f.cs
@[reducible] def Lf.T:Lf→Type
 | .int _=>Int | .bool=>Bool | .str=>B0 | .ptr=>Option Addr | .slice=>Sl | .map=>Option Nat | .func=>FV
 | .iface=>Option (TypeId×Value)
 | .adr=>Addr
def Lf.val:(l:Lf)→l.T→Value
 | .int k,n=>.int k n
 | .bool,b=>.bool b
 | .str,s=>.string s
 | .ptr,p=>.pointer p
 | .slice,s=>.slice s.a s.len s.cap
 | .map,m=>.map m
 | .func,f=>.func f.fn f.fs f.cs
 | .iface,none=>.nilIface
 | .iface,some x=>.iface x.1 x.2
 | .adr,a=>.pointer (some a)
@[reducible] def HT:List Lf→Type
 | []=>Unit
 | l::ls=>l.T×HT ls
def HV:(ls:List Lf)→HT ls→List Value
 | [],_=>[]
 | l::ls,x=>l.val x.1::HV ls x.2
inductive E1 where
 | one (l:Lf) | agg (ls:List Lf)
@[reducible] def E1.T:E1→Type
 | .one l=>l.T | .agg ls=>HT ls
def E1.val:(e:E1)→e.T→Value
 | .one l,x=>l.val x
 | .agg ls,x=>.agg (HV ls x).toArray
def E1.cells:(e:E1)→e.T→List Value
 | .one l,x=>[l.val x]
 | .agg ls,x=>HV ls x
@[reducible] def TT:List E1→Type
 | []=>Unit
 | e::es=>e.T×TT es
def TV:(es:List E1)→TT es→List Value
 | [],_=>[]
 | e::es,x=>e.val x.1::TV es x.2
inductive RT where
 | one (e:E1) | tup (es:List E1)
@[reducible] def RT.T:RT→Type
 | .one e=>e.T | .tup es=>TT es
def RT.val:(r:RT)→r.T→Value
 | .one e,x=>e.val x
 | .tup es,x=>.tuple (TV es x).toArray
def nth{α:Type}:List α→Nat→Option α
 | [],_=>none
 | x::_,0=>some x
 | _::l,n+1=>nth l n
inductive SV where
 | lit (b:Bool) | v (x:Value) | ifc (p:Option (TypeId×Value)) | ag (cs:List Value)
 | tp (es:List E1) (x:TT es) | nx (b:Bool) (es:List E1) (x:TT es) | it (t:Nat) (p:Option Addr)
def SV.toV:SV→Value
 | .lit b=>.bool b
 | .v x=>x
 | .ifc p=>Lf.val .iface p
 | .ag cs=>.agg cs.toArray
 | .tp es x=>.tuple (TV es x).toArray
 | .nx b es x=>.tuple (.bool b::TV es x).toArray
 | .it _ p=>.pointer p
def SV.cells:SV→List Value
 | .ag cs=>cs
 | .v (.agg cs)=>cs.toList
 | s=>[s.toV]
def E1.sv:(e:E1)→e.T→SV
 | .one .iface,x=>.ifc x
 | .one l,x=>.v (l.val x)
 | .agg ls,x=>.ag (HV ls x)
def Ug:(es:List E1)→TT es→Nat→Option SV
 | [],_,_=>none
 | e::_,x,0=>some (e.sv x.1)
 | _::es,x,n+1=>Ug es x.2 n
def RT.sv:(r:RT)→r.T→SV
 | .one e,x=>e.sv x
 | .tup es,x=>.tp es x
abbrev AT:=List (Nat×Option SV)
def AT.get:AT→Nat→Option SV
 | [],_=>none
 | x::r,t=>cond (Nat.beq x.1 t) x.2 (AT.get r t)
def AT.put(a:AT)(d:Option Tmp)(s:Option SV):AT:=match d with | none=>a | some d=>(d,s)::a
def AT.ev(a:AT):Operand→Option SV
 | .tmp t=>a.get t
 | .const (.bool b)=>some (.lit b)
 | .const (.agg cs)=>some (.ag cs.toList)
 | .const v=>some (.v v)
 | .global g=>some (.v (.pointer (some ⟨g,0,none⟩)))
 | .func f=>some (.v (.func (.func f) #[] #[]))
inductive Tr(α:Type) where
 | nil | node (x:α) (l r:Tr α)
def Tr.get{α:Type}:Nat→Tr α→Nat→Option α
 | 0,_,_=>none
 | _,.nil,_=>none
 | d+1,.node x l r,n=>cond (Nat.beq n 0) (some x) (cond (Nat.beq (n%2) 1) (Tr.get d l (n/2)) (Tr.get d r (n/2-1)))
inductive TD where
 | int (k:IntKind) | bool | str | ptr | slice (e:Nat) | arr (n e:Nat) | map (k e:Nat) | struct (fs:List (Nat×Nat)) | func | iface | tuple (ts:List Nat) | other
structure TI where
 d:TD
 size:Nat
 e:Option E1
 zero:Option (List Value)
structure Tb where
 nt:Nat
 nf:Nat
 ty:Tr TI
 fn:Tr (Option RT)
def Tb.t(D:Tb)(t:Nat):Option TI:=cond (Nat.blt t D.nt) (D.ty.get 16 t) none
def Tb.f(D:Tb)(f:Nat):Option RT:=cond (Nat.blt f D.nf) (match D.fn.get 16 f with | some x=>x | none=>none) none
def bad:PT:=λ_=>False
def L.ite(b:Bool)(x y:PT):PT:=λw=>(b=true→x w)∧(b=false→y w)
def L.any(k:Value→PT):PT:=λw=>∀z,k z w
def L.guard(φ:Prop)(k:PT):PT:=λw=>φ∧k w
def L.nonnil(p:Option Addr)(k:Addr→PT):PT:=λw=>∃a,p=some a∧k a w
def L.idx(p:Option Addr)(i:Int)(len:Nat)(size:Nat)(k:Addr→PT):PT:=λw=>∃a,p=some a∧0≤i∧i<len∧k (a.add (i.toNat*size)) w
def qz(w:World)(a:Addr)(cs:List Value):Prop:=∀i c,nth cs i=some c→w.cell? (a.add i)=some c
def L.load(e:E1)(a:Addr)(k:e.T→PT):PT:=λw=>∃x,qz w a (e.cells x)∧k x w
def L.chk(a:Addr)(cs:List Value)(k:PT):PT:=λw=>qz w a cs∧k w
def jE(w:World)(a:Addr):List Value→Nat→World
 | [],_=>w
 | c::cs,i=>jE (w.setCell (a.add i) c) a cs (i+1)
def Va:Value→Bool
 | .agg _ | .tuple _=>false
 | _=>true
def L.store(a:Addr)(cs:List Value)(k:PT):PT:=λw=>
 (∀i c,nth cs i=some c→Va c=true∧(w.cell? (a.add i)).isSome=true∧w.frozen? (a.add i)=false)∧k (jE w a cs 0)
def L.new(cs:List Value)(T:TypeId)(k:Nat→PT):PT:=λw=>k w.heap.size (w.alloc (.cells cs.toArray T))
def L.sem(P:Program)(r:RT)(s:Sem Value)(k:r.T→PT):PT:=λw=>∃x w',s.run P w = .ok (r.val x) w'∧k x w'
def L.semR(P:Program)(r:RT)(s:Sem Value)(k:r.T→PT):PT:=λw=>∃x,s.run P w = .ok (r.val x) w∧k x w
def L.semU(P:Program)(s:Sem Unit)(k:PT):PT:=λw=>∃w',s.run P w = .ok () w'∧k w'
def L.chkSem(P:Program)(s:Sem Value)(v:Value)(k:PT):PT:=λw=>s.run P w = .ok v w∧k w
def L.next(P:Program)(e:List E1)(s:Sem Value)(kn:PT)(ks:TT e→PT):PT:=λw=>
 (∃w',s.run P w = .ok (.tuple #[.bool false]) w'∧kn w')∨(∃x w',s.run P w = .ok (.tuple (.bool true::TV e x).toArray) w'∧ks x w')
def jR(P:Program)(f:FuncId):Prop:=∀args w,(callFunc f args).run P w = .ok (.enter f args) w
def L.call(P:Program)(f:FuncId)(args:List Value)(r:RT)(k:r.T→PT):PT:=λw=>
 Calls P f args.toArray w λe w'=>∃x,e = .returned (r.val x)∧k x w'
def FR(ro:Option Nat):Fence:={ fn:=λ_=>True,depth:=none,alive:=false,round:=ro }
def Gb(P:Program)(l:Nat)(r:Loop)(args:List Value)(w:World)(R:Value→World→Prop):Prop:=
 RoundIn (FR none) 0 P l r.fn ((r.params.zip args.toArray).foldl (λtmps(t,a)=>tmps.setIfInBounds t a) r.tmps) r.assign r.body w λe w'=>∃v,e = .returned v∧R v w'
def jQ(P:Program)(fv:Value)(args:List Value)(w:World)(R:Value→World→Prop):Prop:=
 match fv with
 | .func (.func f) first cap=>jR P f∧Calls P f (first++args.toArray++cap) w λe w'=>∃v,e = .returned v∧R v w'
 | .func (.yield l) first cap=>first = #[]∧cap = #[]∧∃r,w.heap[l]? = some (.loop r)∧args.length=r.params.size∧Gb P l r args w R
 | _=>False
def qf(P:Program)(fv:Value)(args:List Value)(w:World)(R:Value→World→Prop):Prop:=
 match fv with
 | .func (.func f) first cap=>jR P f∧Calls P f (first++args.toArray++cap) w λe w'=>∃v,e = .returned v∧R v w'
 | _=>False
def L.callV(P:Program)(fv:Value)(args:List Value)(r:RT)(k:r.T→PT):PT:=λw=>
 jQ P fv args w λv w'=>∃x,v=r.val x∧k x w'
def L.draw(k:PT):PT:=λw=>k { w with drawn:=w.drawn+1 }
def L.join{Y:Type}(X:(Y→PT)→PT)(k:Y→PT):PT:=X k
def L.alts:List PT→PT
 | []=>λ_=>True
 | x::l=>λw=>x w∧L.alts l w
def L.loop{Y:Type}(y0:Y)(body:Y→(Y→PT)→PT):PT:=λw=>
 ∃Inv:Nat→Y→PT,(∃n,Inv n y0 w)∧∀n y w',Inv n y w'→body y (λy' w''=>∃m,m<n∧Inv m y' w'') w'
def zj(x:Option SV)(f:SV→PT):PT:=match x with | some s=>f s | none=>bad
def ZY(a:AT):List Operand→Option (List SV)
 | []=>some []
 | x::l=>match a.ev x,ZY a l with
  | some s,some r=>some (s::r)
  | _,_=>none
def yN:List SV→List Value
 | []=>[]
 | s::l=>s.toV::yN l
def Zr:Int:=9223372036854775807
def vL(s:B0)(n:Int):Int:=((s.data.toList.getD n.toNat 0).toNat:Int)
def qA(ti:Option TI):Nat:=
 match ti with
 | some { d:=.struct _,.. } | some { d:=.arr _ _,.. }=>2
 | _=>0
def zN(D:Tb):Op→Nat
 | .move _ | .pick .. | .build .. | .nilCheck _ | .unOp .. | .makeInterface .. | .makeFunc .. | .fieldAddr .. | .field .. | .indexAddr .. | .index .. | .extract .. | .slice .. =>0
 | .binOp _ t _ _ _=>qA (D.t t)
 | .load .. | .lookup .. =>1
 | .call { callee:=.builtin .len,.. }=>1
 | .call { callee:=.builtin .min,.. } | .call { callee:=.builtin .max,.. }=>0
 | _=>2
def fC:Value→Value→Option Bool
 | .bool a,.bool b=>some (a == b)
 | .int _ a,.int _ b=>some (a == b)
 | .string a,.string b=>some (a == b)
 | _,_=>none
def kj:List Value→List Value→Option Bool
 | [],[]=>some true
 | a::x,b::y=>match fC a b,kj x y with
  | some p,some q=>some (p&&q)
  | _,_=>none
 | _,_=>none
def Ym(a:AT)(o:Oper)(v:SV):AT:=a.put o.dst (some v)
def Zz(a:AT)(o:Oper)(v:Value):AT:=a.put o.dst (some (.v v))
def SV.boolOf:SV→Option Bool
 | .lit b=>some b
 | .v (.bool b)=>some b
 | _=>none
def UP{α:Type}:Nat→List α→List α
 | 0,_=>[]
 | _,[]=>[]
 | n+1,x::l=>x::UP n l
def vH{α:Type}:Nat→List α→List α
 | 0,l=>l
 | _,[]=>[]
 | n+1,_::l=>vH n l
def Uh(ti:TI)(cs:List Value)(off:Nat):Option SV:=
 match ti.e with
 | some (.agg _)=>some (.ag (UP ti.size (vH off cs)))
 | some (.one _)=>(nth cs off).map .v
 | none=>none
def US{α:Type}(cs:List α)(off:Nat)(x:List α):List α:=UP off cs++x++vH (off+x.length) cs
def QS(place:Nat→Option (Nat×Nat))(cs:List Value):List (Nat×SV)→Option (List Value)
 | []=>some cs
 | (i,s)::r=>match place i with
  | none=>none
  | some (off,size)=>if s.cells.length=size∧off+size≤cs.length then QS place (US cs off s.cells) r else none
def OP(sz:Nat):Nat→List (Nat×SV)→Option (List Value)
 | _,[]=>some []
 | n,(i,s)::r=>if i=n∧s.cells.length=sz then match OP sz (n+1) r with
   | some l=>some (s.cells++l)
   | none=>none
  else none
def JT(D:Tb):List (Nat×Nat)→Option (List (Nat×Nat))
 | []=>some []
 | f::r=>match D.t f.1,JT D r with
  | some tf,some l=>some ((f.2,tf.size)::l)
  | _,_=>none
def JG(a:AT):List (Nat×Operand)→Option (List (Nat×SV))
 | []=>some []
 | (i,x)::l=>match a.ev x,JG a l with
  | some s,some r=>some ((i,s)::r)
  | _,_=>none
def gB(op:BinOp)(k:IntKind)(p q:Int):Option Value:=
 match op with
 | .add=>some (.int k (k.wrap (p+q)))
 | .sub=>some (.int k (k.wrap (p-q)))
 | .mul=>some (.int k (k.wrap (p*q)))
 | .eql=>some (.bool (p == q))
 | .neq=>some (.bool (p != q))
 | .lss=>some (.bool (p<q))
 | .leq=>some (.bool (p≤q))
 | .gtr=>some (.bool (p>q))
 | .geq=>some (.bool (p≥q))
 | .and=>some (.int k (k.wrap ((BitVec.ofInt k.bits p) &&& (BitVec.ofInt k.bits q)).toNat))
 | .or=>some (.int k (k.wrap ((BitVec.ofInt k.bits p) ||| (BitVec.ofInt k.bits q)).toNat))
 | .xor=>some (.int k (k.wrap ((BitVec.ofInt k.bits p) ^^^ (BitVec.ofInt k.bits q)).toNat))
 | _=>none
def GT(op:BinOp)(x y:B0):Option Value:=
 match op with
 | .eql=>some (.bool (x.toList == y.toList))
 | .neq=>some (.bool (!(x.toList == y.toList)))
 | .lss=>some (.bool (Op.bytesLess x.toList y.toList))
 | .leq=>some (.bool (Op.bytesLess x.toList y.toList||x.toList == y.toList))
 | .gtr=>some (.bool (!(Op.bytesLess x.toList y.toList||x.toList == y.toList)))
 | .geq=>some (.bool (!(Op.bytesLess x.toList y.toList)))
 | _=>none
def QN:Operand→Bool
 | .const _=>true
 | _=>false
def Zl(P:Program)(D:Tb)(o:Oper)(a:AT)(op:BinOp)(t:TypeId)(oy:Operand)(x y:SV)(K:AT→PT):PT:=
 match x,y with
 | .v (.int k p),.v (.int k' q)=>
  match op with
  | .shl=>L.guard (0≤q) (K (Zz a o (.int k (k.wrap (p*2 ^ (min q.toNat k.bits))))))
  | .shr=>L.guard (0≤q) (K (Zz a o (.int k (p.fdiv (2 ^ (min q.toNat k.bits))))))
  | .quo=>if k=k' then L.guard (q≠0) (K (Zz a o (.int k (k.wrap (p.tdiv q)))))else bad
  | .rem=>if k=k' then L.guard (q≠0) (K (Zz a o (.int k (p.tmod q))))else bad
  | op=>if k=k' then match gB op k p q with
   | some v=>K (Zz a o v)
   | none=>bad
   else bad
 | .v (.string p),.v (.string q)=>
  match op with
  | .add=>L.guard (((p.size+q.size:Nat):Int)≤Zr) (K (Zz a o (.string (p++q))))
  | op=>match GT op p q with
   | some v=>K (Zz a o v)
   | none=>bad
 | .v (.pointer p),.v (.pointer none)=>match D.t t with
  | some { d:=.ptr,.. }=>match op with
   | .eql=>K (Zz a o (.bool p.isNone))
   | .neq=>K (Zz a o (.bool (!p.isNone)))
   | _=>bad
  | _=>bad
 | .v (.slice sa _ _),.v (.slice none _ _)=>match D.t t with
  | some { d:=.slice _,.. }=>match op with
   | .eql=>K (Zz a o (.bool sa.isNone))
   | .neq=>K (Zz a o (.bool (!sa.isNone)))
   | _=>bad
  | _=>bad
 | .v (.map p),.v (.map none)=>match D.t t with
  | some { d:=.map _ _,.. }=>match op with
   | .eql=>K (Zz a o (.bool p.isNone))
   | .neq=>K (Zz a o (.bool (!p.isNone)))
   | _=>bad
  | _=>bad
 | .ifc p,.v .nilIface=>if QN oy then match D.t t with
  | some { d:=.iface,.. }=>match op with
   | .eql=>K (Zz a o (.bool p.isNone))
   | .neq=>K (Zz a o (.bool (!p.isNone)))
   | _=>bad
  | _=>bad
  else bad
 | .ag p,.ag q=>if qA (D.t t)=2 then match kj p q with
  | some b=>match op with
   | .eql=>L.chkSem P (do eqGuard .eql t (.tmp 0) (.tmp 0) (.agg p.toArray) (.agg q.toArray);binOp .eql t (.agg p.toArray) (.agg q.toArray)) (.bool b) (K (Zz a o (.bool b)))
   | .neq=>L.chkSem P (do eqGuard .neq t (.tmp 0) (.tmp 0) (.agg p.toArray) (.agg q.toArray);binOp .neq t (.agg p.toArray) (.agg q.toArray)) (.bool (!b)) (K (Zz a o (.bool (!b))))
   | _=>bad
  | none=>bad
  else bad
 | x,y=>match x.boolOf,y.boolOf,D.t t with
  | some p,some q,some { d:=.bool,.. }=>match op with
   | .eql=>K (Zz a o (.bool (p == q)))
   | .neq=>K (Zz a o (.bool (!(p == q))))
   | _=>bad
  | _,_,_=>bad
def JV(mx:Bool)(r:Value):List SV→Option Value
 | []=>some r
 | s::l=>match r,s with
  | .int k x,.v (.int _ y)=>JV mx (.int k (cond mx (if y>x then y else x) (if y<x then y else x))) l
  | _,_=>none
def zG(P:Program)(D:Tb)(o:Oper)(a:AT)(K:AT→PT)(b:Builtin)(tys:Array TypeId)(vs:List SV):PT:=
 match b with
 | .len=>match vs,tys.toList with
  | [.v (.string s)],[t]=>match D.t t with
   | some { d:=.str,.. }=>K (Zz a o (.int .i64 s.size))
   | _=>bad
  | [.v (.slice _ n _)],[t]=>match D.t t with
   | some { d:=.slice _,.. }=>K (Zz a o (.int .i64 n))
   | _=>bad
  | [.v (.map m)],[_]=>L.semR P (.one (.one (.int .i64))) (Builtin.len_ tys o.type #[.map m]) λx=>K (Zz a o (.int .i64 x))
  | _,_=>bad
 | .min=>match vs with
  | .v r::l=>match JV false r l with
   | some v=>K (Zz a o v)
   | none=>bad
  | _=>bad
 | .max=>match vs with
  | .v r::l=>match JV true r l with
   | some v=>K (Zz a o v)
   | none=>bad
  | _=>bad
 | .cap=>match vs,tys.toList with
  | [.v (.slice _ _ n)],[t]=>match D.t t with
   | some { d:=.slice _,.. }=>K (Zz a o (.int .i64 n))
   | _=>bad
  | _,_=>bad
 | .append=>match vs with
  | [.v (.slice s l cp),x]=>L.sem P (.one (.one .slice)) (Builtin.append_ tys o.type #[.slice s l cp,x.toV]) λx=>K (Zz a o (.slice x.a x.len x.cap))
  | _=>bad
 | .copy=>L.sem P (.one (.one (.int .i64))) (Builtin.copy_ tys o.type (yN vs).toArray) λx=>K (Zz a o (.int .i64 x))
 | .delete=>L.sem P (.tup []) (Builtin.delete_ tys o.type (yN vs).toArray) λ_=>K (a.put o.dst none)
 | .clear=>L.sem P (.tup []) (Builtin.clear_ tys o.type (yN vs).toArray) λ_=>K (a.put o.dst none)
 | _=>bad
def GX(D:Tb)(t:Nat):Option (List E1):=match D.t t with
 | some { d:=.map k e,.. }=>match D.t k,D.t e with
  | some { e:=some x,.. },some { e:=some y,.. }=>some [x,y]
  | _,_=>none
 | some { d:=.str,.. }=>some [.one (.int .i64),.one (.int .i32)]
 | _=>none
def gy(x:Option (List E1))(f:List E1→PT):PT:=match x with | some s=>f s | none=>bad
def za(P:Program)(D:Tb)(o:Oper)(a:AT)(K:AT→PT):PT:=
 match o.op with
 | .move x=>zj (a.ev x) λs=>K (Ym a o s)
 | .assign x=>K (a.put o.dst (a.ev x))
 | .pick c x y=>
  match a.ev c with
  | some (.lit b)=>cond b (zj (a.ev x) λs=>K (Ym a o s)) (zj (a.ev y) λs=>K (Ym a o s))
  | some (.v (.bool b))=>L.ite b (zj (a.ev x) λs=>K (Ym a o s)) (zj (a.ev y) λs=>K (Ym a o s))
  | _=>bad
 | .alloc e=>match D.t e with
  | some { zero:=some z,.. }=>L.new z e λb=>K (Zz a o (.pointer (some ⟨b,0,none⟩)))
  | _=>bad
 | .box e x=>zj (a.ev x) λv=>L.new v.cells e λb=>K (Zz a o (.pointer (some ⟨b,0,none⟩)))
 | .load t x=>zj (a.ev x) fun
  | .v (.pointer (some ad))=>match D.t t with
   | some { e:=some e,.. }=>L.load e ad λx=>K (Ym a o (e.sv x))
   | _=>bad
  | _=>bad
 | .store t x y=>zj (a.ev x) fun
  | .v (.pointer (some ad))=>zj (a.ev y) λv=>match D.t t with
   | some ti=>if v.cells.length=ti.size then L.store ad v.cells (K (a.put o.dst none))else bad
   | none=>bad
  | _=>bad
 | .nilCheck x=>zj (a.ev x) fun
  | .v (.pointer p)=>L.nonnil p λad=>K (Zz a o (.pointer (some ad)))
  | .v (.func (.func f) x y)=>K (Zz a o (.func (.func f) x y))
  | _=>bad
 | .fieldAddr s x f=>zj (a.ev x) fun
  | .v (.pointer (some ad))=>match D.t s with
   | some { d:=.struct fs,.. }=>match nth fs f with
    | some fd=>match D.t fd.1 with
     | some { size:=_+1,.. }=>K (Zz a o (.pointer (some (ad.add fd.2))))
     | _=>bad
    | none=>bad
   | _=>bad
  | _=>bad
 | .indexAddr t x i=>zj (a.ev i) fun
  | .v (.int _ n)=>zj (a.ev x) fun
   | .v (.pointer (some ad))=>match D.t t with
    | some { d:=.arr len e,.. }=>match D.t e with
     | some te=>L.idx (some ad) n len te.size λad=>K (Zz a o (.pointer (some ad)))
     | none=>bad
    | _=>bad
   | .v (.slice sa len _)=>match D.t t with
    | some { d:=.slice e,.. }=>match D.t e with
     | some te=>L.idx sa n len te.size λad=>K (Zz a o (.pointer (some ad)))
     | none=>bad
    | _=>bad
   | _=>bad
  | _=>bad
 | .index t x i=>zj (a.ev i) fun
  | .v (.int _ n)=>zj (a.ev x) fun
   | .v (.string s)=>match D.t t with
    | some { d:=.str,.. }=>L.guard (0≤n∧n<s.size) (K (Zz a o (.int .u8 (vL s n))))
    | _=>bad
   | .ag cs=>match D.t t with
    | some { d:=.arr len e,.. }=>match D.t e with
     | some te=>match Uh te cs (n.toNat*te.size) with
      | some v=>L.guard (0≤n∧n<len) (K (Ym a o v))
      | none=>bad
     | none=>bad
    | _=>bad
   | _=>bad
  | _=>bad
 | .build t ps=>match D.t t,JG a ps.toList with
  | some { d:=.struct fs,zero:=some z,.. },some l=>match JT D fs with
   | some ps=>match QS (nth ps) z l with
    | some cs=>K (Ym a o (.ag cs))
    | none=>bad
   | none=>bad
  | some { d:=.arr _ e,zero:=some z,.. },some l=>match D.t e with
    | some te=>match QS (λi=>some (i*te.size,te.size)) z l with
     | some cs=>K (Ym a o (.ag cs))
     | none=>bad
    | none=>bad
  | _,_=>bad
 | .buildSlice t n ps=>match D.t t with
  | some { d:=.slice e,.. }=>match D.t e,JG a ps.toList with
   | some { size:=sz,zero:=some _,.. },some l=>if ps.toList.length=n∧n*sz≤4096 then match OP sz 0 l with
    | some cs=>L.new cs e λb=>K (Zz a o (.slice (some ⟨b,0,none⟩) n n))
    | none=>bad
    else bad
   | _,_=>bad
  | _=>bad
 | .slice t x lo hi mx=>zj (a.ev x) fun
  | .v (.string s)=>
   if mx.isNone then
   match D.t t with
   | some { d:=.str,.. }=>
    zj (match lo with | some x=>a.ev x | none=>some (.v (.int .i64 0))) fun
    | .v (.int _ l)=>zj (match hi with | some x=>a.ev x | none=>some (.v (.int .i64 s.size))) fun
     | .v (.int _ h)=>L.guard (0≤l∧l≤h∧h≤s.size) (K (Zz a o (.string (s.extract l.toNat h.toNat))))
     | _=>bad
    | _=>bad
   | _=>bad
   else bad
  | .v (.slice sa len cap)=>match D.t t with
   | some { d:=.slice e,.. }=>match D.t e with
    | some te=>
     if mx.isSome&&hi.isNone then bad else
     zj (match lo with | some x=>a.ev x | none=>some (.v (.int .i64 0))) fun
     | .v (.int _ l)=>zj (match hi with | some x=>a.ev x | none=>some (.v (.int .i64 len))) fun
      | .v (.int _ h)=>zj (match mx with | some x=>a.ev x | none=>some (.v (.int .i64 cap))) fun
       | .v (.int _ m)=>L.guard (0≤l∧l≤h∧h≤m∧m≤cap)
         (K (Zz a o (.slice (if m.toNat=l.toNat then sa else sa.map (·.add (l.toNat*te.size))) (h.toNat-l.toNat) (m.toNat-l.toNat))))
       | _=>bad
      | _=>bad
     | _=>bad
    | none=>bad
   | _=>bad
  | _=>bad
 | .extract x i=>match a.ev x with
  | some (.nx b es y)=>match i with
   | 0=>K (Ym a o (.lit b))
   | i+1=>match Ug es y i with
    | some v=>K (Ym a o v)
    | none=>bad
  | some (.tp es y)=>match Ug es y i with
   | some v=>K (Ym a o v)
   | none=>bad
  | some (.v (.tuple vs))=>match nth vs.toList i with
   | some v=>K (Zz a o v)
   | none=>bad
  | _=>bad
 | .field t x f=>match a.ev x with
  | some (.ag cs)=>match D.t t with
   | some { d:=.struct fs,.. }=>match nth fs f with
    | some fd=>match D.t fd.1 with
     | some tf=>match Uh tf cs fd.2 with
      | some v=>K (Ym a o v)
      | none=>bad
     | none=>bad
    | none=>bad
   | _=>bad
  | _=>bad
 | .unOp op _ x=>zj (a.ev x) λs=>match op with
  | .not=>match s.boolOf with
   | some b=>K (Zz a o (.bool (!b)))
   | none=>bad
  | .neg=>match s with
   | .v (.int k n)=>K (Zz a o (.int k (k.wrap (0-n))))
   | _=>bad
  | _=>bad
 | .makeInterface t x=>zj (a.ev x) λs=>match D.t t with
  | some { d:=.iface,.. }=>bad
  | some _=>K (Zz a o (.iface t s.toV))
  | none=>bad
 | .makeFunc fn first cap=>match ZY a first.toList,ZY a cap.toList with
  | some f,some c=>K (Zz a o (.func fn (yN f).toArray (yN c).toArray))
  | _,_=>bad
 | .typeAssert x xt asserted ok=>match a.ev x with
  | some (.v (.iface t v))=>match D.t asserted with
   | some { d:=.iface,.. }=>bad
   | some ti=>if t=asserted then K (Zz a o (if ok then .tuple #[v,.bool true]else v))
    else if ok then match ti.e with
     | some e1=>L.semR P (.tup [e1,.one .bool]) (Instr.typeAssert (.iface t v) xt asserted true) λx=>K (Ym a o (.tp [e1,.one .bool] x))
     | none=>bad
    else bad
   | none=>bad
  | _=>bad
 | .binOp op t x y _=>zj (a.ev x) λsx=>zj (a.ev y) λsy=>Zl P D o a op t y sx sy K
 | .lookup t m k ok=>match ZY a [m,k] with
  | some [mv,kv]=>match D.t t with
   | some { d:=.map _ e,.. }=>match D.t e with
    | some { e:=some e1,.. }=>if ok then L.semR P (.tup [e1,.one .bool]) (Instr.lookup t mv.toV kv.toV true) λx=>K (Ym a o (.tp [e1,.one .bool] x))
      else L.semR P (.one e1) (Instr.lookup t mv.toV kv.toV false) λx=>K (Ym a o (e1.sv x))
    | _=>bad
   | _=>bad
  | _=>bad
 | .mapUpdate t m k x | .insert t m k x=>match ZY a [m,k,x] with
  | some [mv,kv,xv]=>L.semU P (Instr.mapUpdate t mv.toV kv.toV xv.toV) (K (a.put o.dst none))
  | _=>bad
 | .mapEntry t m k=>match ZY a [m,k] with
  | some [mv,kv]=>match D.t t with
   | some { d:=.map _ e,.. }=>match D.t e with
    | some { e:=some e1,.. }=>L.sem P (.tup [e1,.one (.int .i64)]) (Instr.mapEntry t mv.toV kv.toV) λx=>K (Ym a o (.tp [e1,.one (.int .i64)] x))
    | _=>bad
   | _=>bad
  | _=>bad
 | .entryStore t m s x=>match ZY a [m,s,x] with
  | some [mv,sv,xv]=>L.semU P (Instr.entryStore t mv.toV sv.toV xv.toV) (K (a.put o.dst none))
  | _=>bad
 | .makeMap t re=>match re with
  | none=>L.sem P (.one (.one .map)) (Instr.makeMap t none) λx=>K (Zz a o (.map x))
  | some x=>zj (a.ev x) λv=>L.sem P (.one (.one .map)) (Instr.makeMap t (some v.toV)) λx=>K (Zz a o (.map x))
 | .makeSlice t l c=>match ZY a [l,c] with
  | some [lv,cv]=>L.sem P (.one (.one .slice)) (Instr.makeSlice t lv.toV cv.toV) λx=>K (Zz a o (.slice x.a x.len x.cap))
  | _=>bad
 | .range t x=>zj (a.ev x) λv=>L.sem P (.one (.one .ptr)) (Instr.range t v.toV) λx=>K (Ym a o (.it t x))
 | .next it isS=>zj (a.ev it) fun
  | .it t p=>gy (GX D t) λes=>L.next P es (Instr.next (.pointer p) isS o.type) (K (Ym a o (.nx false [] ()))) λx=>K (Ym a o (.nx true es x))
  | _=>bad
 | .entry it=>zj (a.ev it) fun
  | .it t p=>gy (GX D t) λes=>L.sem P (.tup es) (Instr.entry (.pointer p)) λx=>K (Ym a o (.tp es x))
  | _=>bad
 | .convert s d x=>zj (a.ev x) λv=>match D.t s,D.t d with
  | some ts,some td=>match ts.d,td.d with
   | .slice _,_=>match td.e with
    | some e=>L.sem P (.one e) (convert s d v.toV) λx=>K (Ym a o (e.sv x))
    | none=>bad
   | _,.slice _=>L.sem P (.one (.one .slice)) (convert s d v.toV) λx=>K (Zz a o (.slice x.a x.len x.cap))
   | .int _,.int k=>match v with
    | .v (.int _ n)=>K (Zz a o (.int k (k.wrap n)))
    | _=>bad
   | .str,.str=>match v with
    | .v (.string s)=>K (Zz a o (.string s))
    | _=>bad
   | _,_=>bad
  | _,_=>bad
 | .call c=>match ZY a c.args.toList with
  | none=>bad
  | some vs=>match c.callee with
   | .value (.func f)=>match D.f f with
    | some r=>L.call P f (yN vs) r λx=>K (Ym a o (r.sv x))
    | none=>bad
   | .value x=>zj (a.ev x) λfv=>match D.t o.type with
    | some { d:=.tuple ts,.. }=>match e1s D ts with
     | some es=>L.callV P fv.toV (yN vs) (.tup es) λx=>K (Ym a o (.tp es x))
     | none=>bad
    | some { e:=some e,.. }=>L.callV P fv.toV (yN vs) (.one e) λx=>K (Ym a o (e.sv x))
    | _=>bad
   | .invoke _ _=>bad
   | .builtin b=>zG P D o a K b c.argTypes vs
 | _=>bad
where
 e1s (D:Tb):List Nat→Option (List E1)
  | []=>some []
  | t::ts=>match D.t t,e1s D ts with
   | some { e:=some e,.. },some r=>some (e::r)
   | _,_=>none
def ZX:List Oper→List Nat
 | []=>[]
 | o::r=>match o.guard with | some (j,_)=>j::ZX r | none=>ZX r
def XH(i:Nat):List Nat→Bool
 | []=>false
 | x::l=>cond (Nat.beq x i) true (XH i l)
structure GS where
 l:List Nat
 asm:Bool
def qp(gs:GS)(i:Nat)(o:Oper)(K:AT→PT)(a:AT):PT:=
 cond (XH i gs.l)
  (match o.dst with
  | some d=>match a.get d with
   | some (.v (.bool b))=>cond gs.asm (L.guard (b=true) (K (a.put (some d) (some (.lit true))))) (L.ite b (K (a.put (some d) (some (.lit true)))) (K (a.put (some d) (some (.lit false)))))
   | some (.lit _)=>K a
   | _=>bad
  | none=>bad)
  (K a)
def QC(D:Tb)(o:Oper):Option SV:=cond (Nat.beq (zN D o.op) 0) (some (.v (.tuple #[]))) none
def KA(P:Program)(D:Tb)(ops:List Oper)(gs:GS)(i:Nat)(o:Oper)(a:AT)(K:AT→PT):PT:=
 match o.guard with
 | none=>za P D o a (qp gs i o K)
 | some (j,want)=>match (nth ops j).bind (·.dst) with
  | some d=>match a.get d with
   | some (.lit b)=>cond (b == want) (za P D o a (qp gs i o K)) (K (a.put o.dst (QC D o)))
   | some (.v (.tuple _))=>K (a.put o.dst (QC D o))
   | _=>bad
  | none=>bad
def vI(P:Program)(D:Tb)(ops:List Oper)(gs:GS):List (Nat×Oper)→AT→(AT→PT)→PT
 | [],a,K=>K a
 | x::r,a,K=>KA P D ops gs x.1 x.2 a λa=>vI P D ops gs r a K
def Yb{α:Type}:Nat→List α→List (Nat×α)
 | _,[]=>[]
 | n,x::l=>(n,x)::Yb (n+1) l
def JK(S:List (Nat×Oper))(o:Oper):Bool:=o.after.toList.all λe=>!Region.binds .any e|| !(S.any λx=>x.1 == e.on)
def uz(acc:List Nat):List Edge→Nat
 | []=>0
 | e::r=>if Region.binds .any e then(2 ^ e.on ||| (match nth acc e.on with | some m=>m | none=>0)) ||| uz acc r else uz acc r
def ye:List Oper→List Nat→List Nat
 | [],acc=>acc
 | o::r,acc=>ye r (acc++[uz acc o.after.toList])
inductive Chk where
 | ld (a:Addr) (cs:List Value) | sm (s:Sem Value) (v:Value)
def Yo(o:Oper)(a a':AT):Option Chk:=
 match o.dst with
 | none=>none
 | some d=>match a'.get d with
  | some s=>match o.op with
   | .load _ x=>match a.ev x with
    | some (.v (.pointer (some ad)))=>some (.ld ad s.cells)
    | _=>none
   | .lookup t m k ok=>match ZY a [m,k] with
    | some [mv,kv]=>some (.sm (Instr.lookup t mv.toV kv.toV ok) s.toV)
    | _=>none
   | .call c=>match ZY a c.args.toList with
    | some [.v (.map m)]=>some (.sm (Builtin.len_ c.argTypes o.type #[.map m]) s.toV)
    | _=>none
   | _=>none
  | none=>none
def xb(D:Tb)(i:Nat)(o:Oper)(a a':AT)(C:List (Nat×Chk)):List (Nat×Chk):=
 if zN D o.op=1 then match Yo o a a' with
  | some c=>(i,c)::C
  | none=>C
 else C
def XZ(P:Program)(m:Nat):List (Nat×Chk)→PT→PT
 | [],k=>k
 | (r,c)::C,k=>if m.testBit r then XZ P m C k else match c with
  | .ld a cs=>L.chk a cs (XZ P m C k)
  | .sm s v=>L.chkSem P s v (XZ P m C k)
def oB:List PT→PT
 | []=>bad
 | [x]=>x
 | l=>L.alts l
def YK(S:List (Nat×Oper))(i:Nat):List (Nat×Oper):=S.filter λx=>x.1 != i
def Yg(D:Tb)(S:List (Nat×Oper)):List (Nat×Oper)→Option (Nat×Oper)
 | []=>none
 | x::r=>if JK S x.2&&decide (zN D x.2.op<2)then some x else Yg D S r
def Yf(ms:List Nat)(i:Nat):Nat:=match nth ms i with | some m=>m | none=>0
def yG(P:Program)(D:Tb)(ops:List Oper)(gs:GS)(ms:List Nat):Nat→List (Nat×Oper)→List (Nat×Chk)→AT→(AT→PT)→PT
 | 0,S,_,a,K=>if S.isEmpty then K a else bad
 | n+1,S,C,a,K=>
  match Yg D S S with
  | some (i,o)=>KA P D ops gs i o a λa'=>yG P D ops gs ms n (YK S i) (xb D i o a a' C) a' K
  | none=>if S.isEmpty then K a else
   oB ((S.filter λx=>JK S x.2).map λx=>
    KA P D ops gs x.1 x.2 a λa'=>XZ P (Yf ms x.1) C (yG P D ops gs ms n (YK S x.1) C a' K))
def uo:List Operand→List Nat
 | []=>[]
 | .tmp t::l=>t::uo l
 | _::l=>uo l
def yb(ops:List Oper)(o:Oper):List Nat:=
 uo o.op.operands.toList++(match o.guard with
  | some (g,_)=>match (nth ops g).bind (·.dst)with | some d=>[d] | none=>[]
  | none=>[])
def uL(D:Tb)(ops:List Oper)(ms:List Nat):Bool:=
 let l:=Yb 0 ops
 l.all λx=>
  (x.2.after.toList.all λe=>!Region.binds .any e||decide (e.on<x.1)) &&
  (match x.2.op with | .defer _ | .select _ _=>false | _=>true) &&
  (decide (zN D x.2.op≠1)||(x.2.dst.isSome&& !XH x.1 (ZX ops))) &&
  (match x.2.dst with
  | none=>true
  | some d=>(decide (zN D x.2.op=2)|| !XH d (yb ops x.2))&&l.all λy=>x.1 == y.1 ||
    (if zN D x.2.op<2 then(!XH d (yb ops y.2)||(Yf ms y.1).testBit x.1)&& !(y.2.dst == some d)
     else(!XH d (yb ops y.2)||(Yf ms y.1).testBit x.1||(Yf ms x.1).testBit y.1)))
@[reducible] def TJ:List (Nat×E1)→Type
 | []=>Unit
 | x::r=>x.2.T×TJ r
def Lf.un:(l:Lf)→SV→Option l.T
 | .int k,.v (.int k' n)=>if k'=k then some n else none
 | .bool,.lit b=>some b
 | .bool,.v (.bool b)=>some b
 | .str,.v (.string s)=>some s
 | .ptr,.v (.pointer p)=>some p
 | .adr,.v (.pointer (some a))=>some a
 | .slice,.v (.slice a n c)=>some ⟨a,n,c⟩
 | .map,.v (.map m)=>some m
 | .func,.v (.func f a b)=>some ⟨f,a,b⟩
 | .iface,.ifc p=>some p
 | .iface,.v .nilIface=>some none
 | .iface,.v (.iface t v)=>some (some (t,v))
 | _,_=>none
def unH:(ls:List Lf)→List Value→Option (HT ls)
 | [],[]=>some ()
 | l::ls,v::vs=>match l.un (.v v),unH ls vs with
  | some x,some y=>some (x,y)
  | _,_=>none
 | _,_=>none
def E1.un:(e:E1)→SV→Option e.T
 | .one l,s=>l.un s
 | .agg ls,.ag cs=>unH ls cs
 | _,_=>none
def jo:(J:List (Nat×E1))→AT→Option (TJ J)
 | [],_=>some ()
 | x::r,a=>match (a.get x.1).bind x.2.un,jo r a with
  | some p,some q=>some (p,q)
  | _,_=>none
def place:(J:List (Nat×E1))→TJ J→AT→AT
 | [],_,a=>a
 | x::r,y,a=>(x.1,some (x.2.sv y.1))::place r y.2 a
def kill(D:List Nat):AT→AT
 | []=>[]
 | x::r=>cond (XH x.1 D) (kill D r) (x::kill D r)
def Jp:List Oper→List Nat
 | []=>[]
 | o::r=>match o.dst with | some d=>d::Jp r | none=>Jp r
def JJ:Code→List Nat
 | .region _ ops _=>Jp ops.toList
 | .seq a b=>JJ a++JJ b
 | .cond _ a b=>JJ a++JJ b
 | .block _ b=>JJ b
 | .loop b=>JJ b
 | .scope b=>JJ b
 | _=>[]
def zV:Code→Bool
 | .rangeFunc .. =>true
 | .seq a b=>zV a||zV b
 | .cond _ a b=>zV a||zV b
 | .block _ b=>zV b
 | .loop b=>zV b
 | .scope b=>zV b
 | _=>false
inductive X where
 | normal | exit (id:Nat) | goto (l:Nat) | ret
inductive Ann where
 | auto
 | seq (a b:Ann) (j:Option (List (Nat×E1)))
 | cond (a b:Ann)
 | one (j:List (Nat×E1)) (a:Ann)
 | asm (a:Ann)
abbrev Ann.q2(a:Ann)(j:Option (List (Nat×E1))):Ann:=.seq .auto a j
def Ann.l:Ann→Ann
 | .seq a _ _=>a | .cond a _=>a | .one _ a=>a | .auto=>.auto | .asm _=>.auto
def Ann.sure:Ann→Bool
 | .asm _=>true | _=>false
def Ann.r:Ann→Ann
 | .seq _ b _=>b | .cond _ b=>b | _=>.auto
def Ann.j:Ann→Option (List (Nat×E1))
 | .seq _ _ j=>j | .one j _=>some j | .asm (.one j _)=>some j | _=>none
def L.begin(P:Program)(l:Nat)(k:PT):PT:=λw=>∃w',(Instr.beginRound l).run P w = .ok () w'∧k w'
def L.endRound(P:Program)(l:Nat)(jump:Option Code)(R:Value→PT):PT:=λw=>∃v w',(Instr.endRound l jump).run P w = .ok v w'∧R v w'
def L.unmark(P:Program):List Nat→PT→PT
 | [],k=>k
 | d::ds,k=>λw=>∃w',(Instr.takeDeferred d).run P w = .ok [] w'∧L.unmark P ds k w'
def L.range(P:Program)(ro:Option Nat)(fv:Value)(es:List E1)(body:Nat→TT es→(Value→PT)→PT)(K:List Nat→Option Code→PT):PT:=λw=>
 match ro with
 | none=>∀lp:Loop,lp.state = .ready→lp.pending=none→
   (∀y st pd w' R,w'.heap[w.heap.size+1]? = some (.loop { lp with state:=st,pending:=pd })→body (w.heap.size+1) y R w'→
    jQ P (.func (.yield (w.heap.size+1)) #[] #[]) (TV es y) w' R)→
   qf P fv [.func (.yield (w.heap.size+1)) #[] #[]] ((w.alloc (.deferred (some []))).alloc (.loop lp)) λ_ w2=>
    ∃jump w3,(Instr.endLoop (w.heap.size+1)).run P w2 = .ok jump w3∧K [w.heap.size] jump w3
 | some l0=>∃r0,w.heap[l0]? = some (.loop r0)∧∀lp:Loop,lp.state = .ready→lp.pending=none→
   (∀y st pd w' R,w'.heap[w.heap.size]? = some (.loop { lp with state:=st,pending:=pd })→body w.heap.size y R w'→
    jQ P (.func (.yield w.heap.size) #[] #[]) (TV es y) w' R)→
   qf P fv [.func (.yield w.heap.size) #[] #[]] (w.alloc (.loop lp)) λ_ w2=>
    ∃jump w3,(Instr.endLoop w.heap.size).run P w2 = .ok jump w3∧K [] jump w3
def gz(id:Nat):List (Nat×PT)→PT
 | []=>bad
 | (i,k)::r=>if id=i then k else gz id r
def L.jump(jump:Option Code)(kn kr:PT)(ks:List (Nat×PT)):PT:=
 match jump with
 | none=>kn
 | some .ret=>kr
 | some (.exit id)=>gz id ks
 | some _=>bad
def jO:Code→List Nat
 | .seq a b=>jO a++jO b
 | .cond _ a b=>jO a++jO b
 | .block id b=>(jO b).filter λi=>i != id
 | .loop b=>jO b
 | .scope b=>jO b
 | .rangeFunc _ _ a b=>jO a++jO b
 | .exit id=>[id]
 | _=>[]
def KB:List Nat→List Nat
 | []=>[]
 | x::l=>if(KB l).any (· == x)then KB l else x::KB l
def GW(K:X→AT→List Nat→PT)(a:AT)(ds:List Nat)(E:List Nat)(jump:Option Code):PT:=
 L.jump jump (K .normal a ds) (K .ret a ds) (E.map λid=>(id,K (.exit id) a ds))
def vb:List Nat→Bool
 | []=>true
 | x::l=>!XH x l&&vb l
def den(P:Program)(D:Tb):Code→Ann→Option Nat→AT→List Nat→(X→AT→List Nat→PT)→PT
 | .skip,_,_,a,ds,K=>K .normal a ds
 | .label _,_,_,a,ds,K=>K .normal a ds
 | .region _ ops false,an,_,a,ds,K=>vI P D ops.toList ⟨ZX ops.toList,an.sure⟩ (Yb 0 ops.toList) a λa=>K .normal a ds
 | .region _ ops true,an,_,a,ds,K=>
  match an.j with
  | none=>if uL D ops.toList (ye ops.toList [])then L.draw<| yG P D ops.toList ⟨ZX ops.toList,an.sure⟩ (ye ops.toList []) ops.toList.length (Yb 0 ops.toList) [] a λa=>K .normal a ds else bad
  | some J=>if uL D ops.toList (ye ops.toList [])then L.join (λk=>L.draw<| yG P D ops.toList ⟨ZX ops.toList,an.sure⟩ (ye ops.toList []) ops.toList.length (Yb 0 ops.toList) [] a λa=>
    match jo J a with | some y=>k y | none=>bad) λy=>K .normal (place J y (kill (Jp ops.toList) a)) ds else bad
 | .seq x y,an,ro,a,ds,K=>
  match an.j with
  | none=>den P D x an.l ro a ds λe a ds=>match e with
   | .normal=>den P D y an.r ro a ds K
   | e=>K e a ds
  | some J=>if zV x then bad else L.join (λk=>den P D x an.l ro a ds λe a' ds'=>match e with
    | .normal=>match jo J a' with | some y=>k y | none=>bad
    | e=>K e a' ds') λz=>den P D y an.r ro (place J z (kill (JJ x) a)) ds K
 | .cond c x y,an,ro,a,ds,K=>
  match a.ev c with
  | some (.lit true)=>den P D x an.l ro a ds K
  | some (.lit false)=>den P D y an.r ro a ds K
  | some (.v (.bool b))=>L.ite b (den P D x an.l ro a ds K) (den P D y an.r ro a ds K)
  | _=>bad
 | .block id c,an,ro,a,ds,K=>den P D c an ro a ds λe a ds=>match e with
  | .exit id'=>if id'=id then K .normal a ds else K (.exit id') a ds
  | e=>K e a ds
 | .loop c,an,ro,a,ds,K=>
  match an.j with
  | none=>bad
  | some J=>if zV c then bad else match jo J a with
   | none=>bad
   | some y0=>L.loop y0 λy again=>den P D c an.l ro (place J y (kill (JJ c) a)) ds λe a' ds'=>match e with
    | .normal=>match jo J a' with | some y'=>again y' | none=>bad
    | e=>K e a' ds'
 | .exit id,_,_,a,ds,K=>K (.exit id) a ds
 | .goto l,_,_,a,ds,K=>K (.goto l) a ds
 | .ret,_,_,a,ds,K=>K .ret a ds
 | .rangeFunc g ps assign body,an,ro,a,ds,K=>
  match an.j with
  | none=>bad
  | some J=>if ps.toList=J.map (·.1)∧vb ps.toList=true then
   zj (a.ev g) λfv=>L.range P ro fv.toV (J.map (·.2))
    (λl y R=>den P D assign an.l (some l) (place J (tjOf J y) a) [] λe a' ds'=>match e with
     | .normal=>L.begin P l (den P D body an.r (some l) a' ds' λe _ _=>match e with
      | .normal=>L.endRound P l none R
      | .ret=>L.endRound P l (some .ret) R
      | .exit id=>L.endRound P l (some (.exit id)) R
      | .goto t=>L.endRound P l (some (.goto t)) R)
     | _=>bad)
    (λd jump=>GW K a (d++ds) (KB (jO body)) jump)
   else bad
 | _,_,_,_,_,_=>bad
where
 tjOf:(J:List (Nat×E1))→TT (J.map (·.2))→TJ J
  | [],_=>()
  | _::r,y=>(y.1,tjOf r y.2)
def Qe(D:Tb)(a:AT):List ResultVar→(List Value→PT)→PT
 | [],K=>K []
 | .tmp t::r,K=>match a.get t with
  | some s=>Qe D a r λvs=>K (s.toV::vs)
  | none=>bad
 | .cell c t::r,K=>zj (a.get c) fun
  | .v (.pointer (some ad))=>match D.t t with
   | some { e:=some e,.. }=>L.load e ad λx=>Qe D a r λvs=>K (e.val x::vs)
   | _=>bad
  | _=>bad
def VM:List Value→Value
 | [v]=>v
 | vs=>.tuple vs.toArray
def Oe:Nat→List SV→AT
 | _,[]=>[]
 | n,v::vs=>(n,some v)::Oe (n+1) vs
def fH(P:Program)(D:Tb)(fn:Func)(an:Ann)(args:List SV)(K:Value→PT):PT:=
 match fn.body with
 | none=>bad
 | some c=>den P D c an none (Oe 0 args) [] λe a ds=>match e with
  | .normal | .ret=>L.unmark P ds (Qe D a fn.results.toList λvs=>K (VM vs))
  | _=>bad
def fq(P:Program)(t:TypeId):Option Lf:=
 match P.underlying t with
 | some .bool=>some .bool
 | some (.int k)=>some (.int k)
 | some .string=>some .str
 | some (.pointer _)=>some .ptr
 | some (.slice _)=>some .slice
 | some (.map _ _)=>some .map
 | some (.func _ _ _)=>some .func
 | some (.interface _)=>some .iface
 | _=>none
def Fu:Nat→List Lf→List Lf
 | 0,_=>[]
 | n+1,l=>l++Fu n l
mutual
def lfs(P:Program):Nat→TypeId→Option (List Lf)
 | 0,_=>none
 | d+1,t=>
  match P.underlying t with
  | some (.struct fs)=>lfsAll P d fs.toList
  | some (.array n e)=>(lfs P d e).map (Fu n)
  | _=>(fq P t).map λl=>[l]
def lfsAll(P:Program):Nat→List Field→Option (List Lf)
 | _,[]=>some []
 | 0,_::_=>none
 | d+1,f::r=>match lfs P d f.type,lfsAll P d r with
  | some a,some b=>some (a++b)
  | _,_=>none
end
def xI:TypeDesc→TD
 | .bool=>.bool
 | .int k=>.int k
 | .string=>.str
 | .pointer _=>.ptr
 | .slice e=>.slice e
 | .array n e=>.arr n e
 | .map k e=>.map k e
 | .struct fs=>.struct (fs.toList.map λf=>(f.type,f.offset))
 | .func _ _ _=>.func
 | .interface _=>.iface
 | .tuple ts=>.tuple ts.toList
 | _=>.other
def eOf(P:Program)(t:TypeId)(d:TypeDesc)(n:Nat):Option E1:=
 match d with
 | .struct _ | .array _ _=>match lfs P 40 t with
  | some ls=>if ls.length=n then some (.agg ls)else none
  | none=>none
 | _=>(fq P t).map .one
def oR(P:Program)(t:TypeId):Option TI:=
 match P.info? t,P.underlying t with
 | some i,some d=>some ⟨xI d,i.size,eOf P t d i.size,if(eOf P t d i.size).isSome&&decide (i.size≤80)then i.zero.map (·.cells.toList)else none⟩
 | _,_=>none
def QT(P:Program)(f:FuncId):Bool:=
 match P.funcs[f]? with
 | some fn => fn.body.isSome && fn.name != "runtime.NumGoroutine"
 | none=>false
structure YF(P:Program)(D:Tb):Prop where
 ty:∀t ti,D.t t=some ti→oR P t=some ti
 fn:∀f r,D.f f=some r→QT P f=true
 mixed:P.follows .mixedOrders=true
def Gi{P:Program}{D:Tb}(h1:(List.range D.nt).map (oR P)=(List.range D.nt).map D.t)
  (h2:(List.range D.nf).all (λf=>match D.f f with | some _=>QT P f | none=>true)=true) (h3:P.follows .mixedOrders=true):YF P D:=by
 refine⟨λt ti h=>?_,λf r h=>?_,h3⟩
 ·by_cases hlt:t<D.nt
  ·have:=congrArg (λl=>l[t]?) h1;simp only[List.getElem?_map,List.getElem?_range hlt,Option.map_some]at this;rw[Option.some.inj this,h]
  ·have hb:Nat.blt t D.nt=false:=by rw[←Bool.not_eq_true,Nat.blt_eq];exact hlt
   simp[Tb.t,hb]at h
 ·by_cases hlt:f<D.nf
  ·have:=List.all_eq_true.1 h2 f (List.mem_range.2 hlt);rw[h]at this;exact this
  ·have hb:Nat.blt f D.nf=false:=by rw[←Bool.not_eq_true,Nat.blt_eq];exact hlt
   simp[Tb.f,hb]at h
section
variable {P:Program}{D:Tb}{w:World}
def KT{t:TypeId}{ti:TI}(h:oR P t=some ti):∃i d,P.info? t=some i∧P.underlying t=some d∧ti.d=xI d∧ti.size=i.size∧ti.e=eOf P t d i.size∧
  (∀z,ti.zero=some z→∃v,i.zero=some v∧z=v.cells.toList):=by
 unfold oR at h;split at h
 ·rename_i i d hi hd
  cases h
  refine⟨i,d,hi,hd,rfl,rfl,rfl,λz hz=>?_⟩;dsimp only at hz;split at hz
  ·cases hv:i.zero with
   | none=>rw[hv]at hz;cases hz
   | some v=>rw[hv]at hz;cases hz;exact⟨v,rfl,rfl⟩
  ·cases hz
 ·cases h
def qL{t:TypeId}{i:TypeInfo}(h:P.info? t=some i)(w:World):(typeInfo t).run P w = .ok i w:=by
 simp[typeInfo,program,Sem.run,h]
def ZQ{t:TypeId}{i:TypeInfo}(h:P.info? t=some i)(w:World):(sizeOf t).run P w = .ok i.size w:=by
 simp[sizeOf,qL h]
def jF{t:TypeId}{i:TypeInfo}{v:Value}(h:P.info? t=some i)(hz:i.zero=some v)(w:World):(zeroValue t).run P w = .ok v w:=by
 simp[zeroValue,qL h,hz]
def oD:TypeDesc→Bool
 | .struct _ | .array _ _=>true
 | _=>false
def Xo{t:TypeId}{d:TypeDesc}(h:P.underlying t=some d)(w:World):(isAgg t).run P w = .ok (oD d) w:=by
 cases d<;>simp[isAgg,run_underlying h,oD]
def Oa{t:TypeId}{d:TypeDesc}{n:Nat}{l:Lf}(h:eOf P t d n=some (.one l)):oD d=false:=by
 unfold eOf at h;split at h
 ·split at h
  ·split at h<;>cases h
  ·cases h
 ·split at h
  ·split at h<;>cases h
  ·cases h
 ·rename_i h1 h2;cases d<;>simp_all [oD]
def ko{t:TypeId}{d:TypeDesc}{n:Nat}{ls:List Lf}(h:eOf P t d n=some (.agg ls)):oD d=true∧ls.length=n:=by
 unfold eOf at h;split at h
 ·split at h
  ·split at h
   ·cases h;exact⟨rfl,by assumption⟩
   ·cases h
  ·cases h
 ·split at h
  ·split at h
   ·cases h;exact⟨rfl,by assumption⟩
   ·cases h
  ·cases h
 ·cases hl:fq P t<;>simp[hl]at h
def ok(a:AT)(c:Act):Prop:=∀t s,a.get t=some s→c.tmps[t]? = some s.toV
def yt(d:Nat)(s:Option SV)(a:AT)(t:Nat):AT.get ((d,s)::a) t=if d=t then s else a.get t:=by
 simp only[AT.get];by_cases h:d=t
 ·subst h;simp
 ·have:Nat.beq d t=false:=by rw[←Bool.not_eq_true,Nat.beq_eq];exact h
  simp[this,h]
def ya{a:AT}{c:Act}(h:ok a c){x:Operand}{s:SV}(he:a.ev x=some s):c.eval x=s.toV:=by
 unfold AT.ev at he;split at he
 ·have:=h _ _ he;simp[Act.eval,Array.getD_eq_getD_getElem?,this]
 ·cases he;rfl
 ·cases he;simp[Act.eval,SV.toV]
 ·cases he;rfl
 ·cases he;rfl
 ·cases he;rfl
def qW{a:AT}{c:Act}(h:ok a c){d:Option Tmp}(hd:∀t,d=some t→t<c.tmps.size){s:Option SV}{v:Value}(hs:∀x,s=some x→x.toV=v):ok (a.put d s) (c.put d v):=by
 cases d with
 | none=>exact h
 | some d=>
  intro t x hx;simp only[AT.put,yt]at hx;have hlt:=hd d rfl;simp only[Act.put];by_cases e:d=t
  ·subst e;rw[if_pos rfl]at hx;simp[Array.getElem?_setIfInBounds,hlt,(hs x hx).symm]
  ·rw[if_neg e]at hx;have:=h t x hx;simp[Array.getElem?_setIfInBounds,e,this]
@[simp] theorem fh (c:Act) (d:Option Tmp) (v:Value):(c.put d v).defers=c.defers:=by cases d<;>rfl
@[simp] theorem Fv (c:Act) (d:Option Tmp) (v:Value):(c.put d v).tmps.size=c.tmps.size:=by cases d<;>simp[Act.put]
def JN{a:AT}{c:Act}(h:ok a c):∀{l:List Operand}{r:List SV},ZY a l=some r→l.map c.eval=yN r
 | [],r,he=>by cases he;rfl
 | x::l,r,he=>by
  unfold ZY at he
  cases h1:a.ev x with
  | none=>rw[h1]at he;cases he
  | some s=>cases h2:ZY a l with
   | none=>rw[h1,h2]at he;cases he
   | some r'=>
    rw[h1,h2]at he;cases he;simp[yN,ya h h1,JN h h2]
def qX{a:AT}{c:Act}(h:ok a c):∀{l:List (Nat×Operand)}{r:List (Nat×SV)},JG a l=some r→l.map (λx=>(x.1,c.eval x.2))=r.map λx=>(x.1,x.2.toV)
 | [],r,he=>by cases he;rfl
 | (i,x)::l,r,he=>by
  unfold JG at he
  cases h1:a.ev x with
  | none=>rw[h1]at he;cases he
  | some s=>cases h2:JG a l with
   | none=>rw[h1,h2]at he;cases he
   | some r'=>
    rw[h1,h2]at he;cases he;simp[ya h h1,qX h h2]
def Je(s:SV):s.toV.cells.toList=s.cells:=by
 cases s with
 | ag cs=>simp[SV.toV,SV.cells,Value.cells]
 | lit b=>rfl
 | v x=>cases x<;>simp[SV.toV,SV.cells,Value.cells]
 | ifc p=>cases p<;>rfl
 | tp es x=>rfl
 | nx b es x=>rfl
 | it t p=>rfl
end
end Go.Dm
namespace Go.Dm
section
variable {P:Program}{D:Tb}{w w':World}{a:AT}{c:Act}{o:Oper}{K:AT→PT}
def Nx(K:AT→PT)(c:Act):Act→World→Prop:=λc' w'=>∃a',K a' w'∧ok a' c'∧c'.tmps.size=c.tmps.size∧c'.defers=c.defers
def ZD(P:Program)(o:Oper)(c:Act)(w:World)(N:Act→World→Prop):Prop:=
 (∃v w',(execOp c.eval o).run P w = .ok (.value v) w'∧N (c.put o.dst v) w')∨
 (∃w',(execOp c.eval o).run P w = .ok .skip w'∧N (c.put o.dst undef) w')∨
 (∃f args w',(execOp c.eval o).run P w = .ok (.enter f args) w'∧Calls P f args w' λe w''=>∃v,e = .returned v∧N (c.put o.dst v) w'')∨
 (∃l f tmps as bd w',(execOp c.eval o).run P w = .ok (.round l f tmps as bd) w'∧RoundIn (FR none) 0 P l f tmps as bd w' λe w''=>∃v,e = .returned v∧N (c.put o.dst v) w'')
abbrev Dst(o:Oper)(c:Act):Prop:=∀t,o.dst=some t→t<c.tmps.size
def zX(h:ok a c)(hd:Dst o c)(s:SV){v:Value}(hr:(execOp c.eval o).run P w = .ok (.value v) w')(hv:s.toV=v)(hk:K (Ym a o s) w'):ZD P o c w (Nx K c):=
 .inl ⟨_,w',hr,_,hk,qW h hd (λx hx=>by cases hx;exact hv),by simp,by simp⟩
def GZ(h:ok a c)(hd:Dst o c)(s:Option SV){v:Value}(hr:(execOp c.eval o).run P w = .ok (.value v) w')(hv:∀x,s=some x→x.toV=v)(hk:K (a.put o.dst s) w'):ZD P o c w (Nx K c):=
 .inl ⟨_,w',hr,_,hk,qW h hd hv,by simp,by simp⟩
def fb(h:ok a c)(hd:Dst o c)(hr:(execOp c.eval o).run P w = .ok .skip w')(hk:K (a.put o.dst none) w'):ZD P o c w (Nx K c):=
 .inr (.inl ⟨w',hr,_,hk,qW h hd (λx hx=>by cases hx),by simp,by simp⟩)
def zC{x:Option SV}{f:SV→PT}(h:zj x f w):∃s,x=some s∧f s w:=by
 cases x with
 | none=>exact h.elim
 | some s=>exact⟨s,rfl,h⟩
@[simp] theorem kL (x:Value):(SV.v x).toV=x:=rfl
@[simp] theorem oM (b:Bool):(SV.lit b).toV = .bool b:=rfl
@[simp] theorem fg (cs:List Value):(SV.ag cs).toV = .agg cs.toArray:=rfl
def zp{α:Type}:∀(l:List α)(n:Nat),nth l n=l[n]?
 | [],n=>by simp[nth]
 | x::l,0=>by simp[nth]
 | x::l,n+1=>by simp[nth,zp l n]
def Gs{x:Operand}(h:ok a c)(hd:Dst o c)(hop:o.op = .move x)(hk:za P D o a K w):ZD P o c w (Nx K c):=by
 simp only[za,hop]at hk;obtain⟨s,hs,hk⟩:=zC hk;exact zX h hd s (v:=c.eval x) (by simp[execOp,hop,pure,Sem.run]) (ya h hs).symm hk
def OB{x:Operand}(h:ok a c)(hd:Dst o c)(hop:o.op = .assign x)(hk:za P D o a K w):ZD P o c w (Nx K c):=by
 simp only[za,hop]at hk;exact GZ h hd (a.ev x) (v:=c.eval x) (by simp[execOp,hop,pure,Sem.run]) (λs hs=>(ya h hs).symm) hk
def Gq{x y z:Operand}(h:ok a c)(hd:Dst o c)(hop:o.op = .pick x y z)(hk:za P D o a K w):ZD P o c w (Nx K c):=by
 simp only[za,hop]at hk;have key:∀b,c.eval x = .bool b→(b=true→zj (a.ev y) (λs=>K (Ym a o s)) w)→(b=false→zj (a.ev z) (λs=>K (Ym a o s)) w)→ZD P o c w (Nx K c):=by
  intro b hb h1 h2
  cases b with
  | true=>
   obtain⟨s,hs,hk⟩:=zC (h1 rfl);exact zX h hd s (v:=c.eval y) (by simp[execOp,hop,hb,asBool,pure,Sem.run,bind,Sem.bind]) (ya h hs).symm hk
  | false=>
   obtain⟨s,hs,hk⟩:=zC (h2 rfl);exact zX h hd s (v:=c.eval z) (by simp[execOp,hop,hb,asBool,pure,Sem.run,bind,Sem.bind]) (ya h hs).symm hk
 cases he:a.ev x with
 | none=>rw[he]at hk;exact False.elim hk
 | some s=>
  rw[he]at hk;have hb:=ya h he
  cases s with
  | lit b=>
   cases b with
   | true=>exact key true hb (λ_=>hk) (λe=>by cases e)
   | false=>exact key false hb (λe=>by cases e) (λ_=>hk)
  | v x=>cases x with
   | bool b=>exact key b hb hk.1 hk.2
   | _=>exact False.elim hk
  | _=>exact False.elim hk
def Da(T:YF P D){t:TypeId}{ti:TI}(h:D.t t=some ti):∃i d,P.info? t=some i∧P.underlying t=some d∧ti.d=xI d∧ti.size=i.size∧ti.e=eOf P t d i.size∧
  (∀z,ti.zero=some z→∃v,i.zero=some v∧z=v.cells.toList):=KT (T.ty _ _ h)
def gx(T:YF P D){e:TypeId}(h:ok a c)(hd:Dst o c)(hop:o.op = .alloc e)(hk:za P D o a K w):ZD P o c w (Nx K c):=by
 simp only[za,hop]at hk
 cases hD:D.t e with
 | none=>rw[hD]at hk;exact False.elim hk
 | some ti=>
  rw[hD]at hk;obtain⟨i,d,hi,hu,hd1,hs,he,hz⟩:=Da T hD;obtain⟨td,n,e1,z⟩:=ti
  cases z with
  | none=>exact False.elim hk
  | some z=>
   obtain⟨v,hv,rfl⟩:=hz z rfl;exact zX h hd (.v (.pointer (some ⟨w.heap.size,0,none⟩))) (w':=w.alloc (.cells v.cells.toList.toArray e)) (by simp[execOp,hop,Instr.alloc,jF hi hv,newVar,newRow,newObj,pure,Sem.run]) rfl hk
def fj{e:TypeId}{x:Operand}(h:ok a c)(hd:Dst o c)(hop:o.op = .box e x)(hk:za P D o a K w):ZD P o c w (Nx K c):=by
 simp only[za,hop]at hk;obtain⟨s,hs,hk⟩:=zC hk;have hv:=ya h hs;have e1:s.toV.cells=s.cells.toArray:=by rw[←Je]
 exact zX h hd (.v (.pointer (some ⟨w.heap.size,0,none⟩))) (w':=w.alloc (.cells s.cells.toArray e)) (by simp[execOp,hop,Instr.box,hv,newVar,newRow,newObj,pure,Sem.run,e1]) rfl hk
def KR:∀(e:E1)(x:e.T),(e.sv x).toV=e.val x
 | .agg ls,x=>rfl
 | .one (.int _),_ | .one .bool,_ | .one .str,_ | .one .ptr,_ | .one .slice,_ | .one .map,_ | .one .func,_ | .one .iface,_ | .one .adr,_=>rfl
def qo:∀(r:RT)(x:r.T),(r.sv x).toV=r.val x
 | .one e,x=>KR e x
 | .tup _,_=>rfl
def VK:∀(ls:List Lf)(x:HT ls),(HV ls x).length=ls.length
 | [],_=>rfl
 | _::ls,x=>by simp[HV,VK ls]
@[simp] theorem YT (a:Addr):a.add 0=a:=rfl
def VP{t:TypeId}{d:TypeDesc}(hu:P.underlying t=some d)(ha:oD d=false){ad:Addr}{v:Value}(hc:qz w ad [v]):(loadVar t ad).run P w = .ok v w:=by
 have h0:w.cell? ad=some v:=by simpa using hc 0 v rfl
 simp[loadVar,Xo hu,ha,load,Sem.run,h0]
def VQ{t:TypeId}{d:TypeDesc}{i:TypeInfo}(hi:P.info? t=some i)(hu:P.underlying t=some d)(ha:oD d=true){ad:Addr}{cs:List Value}(hl:cs.length=i.size)(hc:qz w ad cs) :
  (loadVar t ad).run P w = .ok (.agg cs.toArray) w:=by
 have:=run_loadCells_list (P:=P) (w:=w) ad cs (λj v hv=>hc j v (by rw[zp];exact hv));simp[loadVar,Xo hu,ha,ZQ hi,←hl,this,pure,Sem.run]
def kS(T:YF P D){t:TypeId}{ti:TI}(hD:D.t t=some ti){e:E1}(he:ti.e=some e){ad:Addr}{x:e.T}(hc:qz w ad (e.cells x)):(loadVar t ad).run P w = .ok (e.val x) w:=by
 obtain⟨i,d,hi,hu,hd1,hs,he',hz⟩:=Da T hD;rw[he]at he'
 cases e with
 | one l=>exact VP hu (Oa he'.symm) hc
 | agg ls=>exact VQ hi hu (ko he'.symm).1 (by rw[VK];exact(ko he'.symm).2) hc
def qa(w:World)(p q:Addr)(v:Value):((w.setCell p v).cell? q).isSome=(w.cell? q).isSome:=by
 simp only[World.cell?,World.setCell,Array.getElem?_modify];by_cases h:p.block=q.block
 ·rw[if_pos h]
  cases w.heap[q.block]? with
  | none=>rfl
  | some o=>cases o<;>simp only[Option.map_some]<;>(try rfl)
            split<;>(try split)<;>simp_all [Array.getElem?_setIfInBounds]
            split<;>(try split)<;>simp_all
 ·rw[if_neg h]
def uI(w:World)(p q:Addr)(v:Value):(w.setCell p v).frozen? q=w.frozen? q:=by
 simp only[World.frozen?,World.setCell,Array.getElem?_modify];by_cases h:p.block=q.block
 ·rw[if_pos h]
  cases w.heap[q.block]? with
  | none=>rfl
  | some o=>cases o<;>rfl
 ·rw[if_neg h]
def Xw(P:Program)(ad:Addr):∀(cs:List Value)(i:Nat)(w:World),
  (∀j c,nth cs j=some c→Va c=true∧(w.cell? (ad.add (i+j))).isSome=true∧w.frozen? (ad.add (i+j))=false)→(storeCells ad cs i).run P w = .ok () (jE w ad cs i)
 | [],i,w,_=>by simp[storeCells,jE,pure,Sem.run]
 | c::cs,i,w,h=>by
  obtain⟨h1,h2,h3⟩:=h 0 c rfl;have ih:=Xw P ad cs (i+1) (w.setCell (ad.add i) c) (λj c' hj=>by
   obtain⟨a1,a2,a3⟩:=h (j+1) c' hj;have e:i+(j+1)=i+1+j:=by omega
   rw[e]at a2 a3;exact⟨a1,by rw[qa];exact a2,by rw[uI];exact a3⟩)
  simp only[Nat.add_zero]at h2 h3;obtain⟨v,hv⟩:=Option.isSome_iff_exists.1 h2;have hs:(store (ad.add i) c).run P w = .ok () (w.setCell (ad.add i) c):=by
   cases c<;>simp[Va]at h1<;>simp[store,Sem.run,hv,h3]
  simp[storeCells,hs,ih,jE]
def Gt(T:YF P D){t:TypeId}{x:Operand}(h:ok a c)(hd:Dst o c)(hop:o.op = .load t x)(hk:za P D o a K w):ZD P o c w (Nx K c):=by
 simp only[za,hop]at hk;obtain⟨s,hs,hk⟩:=zC hk;have hv:=ya h hs
 cases s with
 | v x=>cases x with
  | pointer p=>cases p with
   | none=>exact False.elim hk
   | some ad=>
    dsimp only at hk
    cases hD:D.t t with
    | none=>rw[hD]at hk;exact False.elim hk
    | some ti=>
     rw[hD]at hk;obtain⟨td,n,e1,z⟩:=ti
     cases e1 with
     | none=>exact False.elim hk
     | some e=>
      obtain⟨x,hc,hk⟩:=hk;exact zX h hd (e.sv x) (v:=e.val x) (by simp[execOp,hop,hv,Instr.loadAt,Instr.sureAddr,kS T hD rfl hc,pure,Sem.run]) (KR e x) hk
  | _=>exact False.elim hk
 | _=>exact False.elim hk
def gn(T:YF P D){t:TypeId}{x y:Operand}(h:ok a c)(hd:Dst o c)(hop:o.op = .store t x y)(hk:za P D o a K w):ZD P o c w (Nx K c):=by
 simp only[za,hop]at hk;obtain⟨s,hs,hk⟩:=zC hk;have hv:=ya h hs
 cases s with
 | v x=>cases x with
  | pointer p=>cases p with
   | none=>exact False.elim hk
   | some ad=>
    dsimp only at hk;obtain⟨s2,hs2,hk⟩:=zC hk;have hv2:=ya h hs2
    cases hD:D.t t with
    | none=>rw[hD]at hk;exact False.elim hk
    | some ti=>
     rw[hD]at hk;dsimp only at hk;obtain⟨i,d,hi,hu,hd1,hsz,he,hz⟩:=Da T hD;by_cases hl:s2.cells.length=ti.size
     ·rw[if_pos hl]at hk;obtain⟨hc,hk⟩:=hk;have hrun:=Xw P ad s2.cells 0 w (by simpa using hc);have hn:s2.toV.cells.size=i.size:=by rw[←Array.length_toList,Je,hl,hsz]
      exact fb h hd (w':=jE w ad s2.cells 0) (by simp[execOp,hop,hv,hv2,Instr.storeAt,Instr.sureAddr,storeVar,ZQ hi,hn,Je,hrun,pure,Sem.run]) hk
     ·rw[if_neg hl]at hk;exact False.elim hk
  | _=>exact False.elim hk
 | _=>exact False.elim hk
def Kb{x:Operand}(h:ok a c)(hd:Dst o c)(hop:o.op = .nilCheck x)(hk:za P D o a K w):ZD P o c w (Nx K c):=by
 simp only[za,hop]at hk;obtain⟨s,hs,hk⟩:=zC hk;have hv:=ya h hs
 cases s with
 | v x=>cases x with
  | pointer p=>
   obtain⟨ad,rfl,hk⟩:=hk;exact zX h hd (.v (.pointer (some ad))) (by simp[execOp,hop,hv,pure,Sem.run]) rfl hk
  | func f x y=>cases f with
   | func f=>exact zX h hd (.v (.func (.func f) x y)) (by simp[execOp,hop,hv,pure,Sem.run]) rfl hk
   | _=>exact False.elim hk
  | _=>exact False.elim hk
 | _=>exact False.elim hk
def XN{d:TypeDesc}{fs:List (Nat×Nat)}(h:TD.struct fs=xI d):∃l,d = .struct l∧fs=l.toList.map λf=>(f.type,f.offset):=by
 cases d<;>simp only[xI]at h<;>cases h
 exact⟨_,rfl,rfl⟩
def jW{d:TypeDesc}{e:Nat}(h:TD.slice e=xI d):d = .slice e:=by
 cases d<;>simp only[xI]at h<;>cases h;rfl
def UN{d:TypeDesc}{n e:Nat}(h:TD.arr n e=xI d):d = .array n e:=by
 cases d<;>simp only[xI]at h<;>cases h;rfl
def OW{d:TypeDesc}{n e:Nat}(h:TD.map n e=xI d):d = .map n e:=by
 cases d<;>simp only[xI]at h<;>cases h;rfl
def XO{d:TypeDesc}(h:TD.str=xI d):d = .string:=by
 cases d<;>simp only[xI]at h<;>first | rfl | cases h
def Or{d:TypeDesc}(h:TD.bool=xI d):d = .bool:=by
 cases d<;>simp only[xI]at h<;>first | rfl | cases h
def OV{d:TypeDesc}(h:TD.ptr=xI d):∃e,d = .pointer e:=by
 cases d<;>simp only[xI]at h<;>first | exact⟨_,rfl⟩ | cases h
def KQ{d:TypeDesc}(h:TD.iface=xI d):∃e,d = .interface e:=by
 cases d<;>simp only[xI]at h<;>first | exact⟨_,rfl⟩ | cases h
def kO{d:TypeDesc}{k:IntKind}(h:TD.int k=xI d):d = .int k:=by
 cases d<;>simp only[xI]at h<;>cases h;rfl
end
end Go.Dm
namespace Go.Dm
section
variable {P:Program}{D:Tb}{w w':World}{a:AT}{c:Act}{o:Oper}{K:AT→PT}
def VX(T:YF P D){t:TypeId}{x:Operand}{f:Nat}(h:ok a c)(hd:Dst o c)(hop:o.op = .fieldAddr t x f)(hk:za P D o a K w):ZD P o c w (Nx K c):=by
 simp only[za,hop]at hk;obtain⟨s,hs,hk⟩:=zC hk;have hv:=ya h hs
 cases s with
 | v x=>cases x with
  | pointer p=>cases p with
   | none=>exact False.elim hk
   | some ad=>
    dsimp only at hk
    cases hD:D.t t with
    | none=>rw[hD]at hk;exact False.elim hk
    | some ti=>
     rw[hD]at hk;obtain⟨i,d,hi,hu,hd1,hsz,he,hz⟩:=Da T hD;obtain⟨td,n,e1,z⟩:=ti
     cases td with
     | struct fs=>
      dsimp only at hk;obtain⟨l,rfl,hl⟩:=XN hd1
      cases hn:nth fs f with
      | none=>rw[hn]at hk;exact False.elim hk
      | some fd=>
       rw[hn]at hk;dsimp only at hk;rw[zp,hl,List.getElem?_map]at hn
       cases hf:l.toList[f]? with
       | none=>rw[hf]at hn;cases hn
       | some fl=>
        rw[hf]at hn;cases hn;dsimp only at hk
        cases hD2:D.t fl.type with
        | none=>rw[hD2]at hk;exact False.elim hk
        | some tf=>
         rw[hD2]at hk;obtain⟨i2,d2,hi2,hu2,hd2,hsz2,he2,hz2⟩:=Da T hD2;obtain⟨td2,n2,e2,z2⟩:=tf
         cases n2 with
         | zero=>exact False.elim hk
         | succ n2=>
          have hne:i2.size≠0:=by rw[←hsz2];exact Nat.succ_ne_zero _
          have hf':l[f]? = some fl:=by rw[←Array.getElem?_toList];exact hf
          exact zX h hd (.v (.pointer (some (ad.add fl.offset)))) (by simp[execOp,hop,hv,Instr.fieldAt,run_underlying hu,hf',Instr.sureAddr,fieldPlace,ZQ hi2,hne,pure,Sem.run]) rfl hk
     | _=>exact False.elim hk
  | _=>exact False.elim hk
 | _=>exact False.elim hk
def VW(T:YF P D){t:TypeId}{x i:Operand}(h:ok a c)(hd:Dst o c)(hop:o.op = .indexAddr t x i)(hk:za P D o a K w):ZD P o c w (Nx K c):=by
 simp only[za,hop]at hk;obtain⟨s,hs,hk⟩:=zC hk;have hvi:=ya h hs
 cases s with
 | v y=>cases y with
  | int k n=>
   dsimp only at hk;obtain⟨s2,hs2,hk⟩:=zC hk;have hv:=ya h hs2
   cases s2 with
   | v y=>cases y with
    | pointer p=>cases p with
     | none=>exact False.elim hk
     | some ad=>
      dsimp only at hk
      cases hD:D.t t with
      | none=>rw[hD]at hk;exact False.elim hk
      | some ti=>
       rw[hD]at hk;obtain⟨i1,d,hi,hu,hd1,hsz,he,hz⟩:=Da T hD;obtain⟨td,m,e1,z⟩:=ti
       cases td with
       | arr len e=>
        dsimp only at hk;obtain rfl:=UN hd1
        cases hD2:D.t e with
        | none=>rw[hD2]at hk;exact False.elim hk
        | some te=>
         rw[hD2]at hk;obtain⟨i2,d2,hi2,hu2,hd2,hsz2,he2,hz2⟩:=Da T hD2;obtain⟨ad',ha,h0,h1,hk⟩:=hk
         cases ha
         exact zX h hd (.v (.pointer (some (ad.add (n.toNat*te.size))))) (by simp[execOp,hop,hv,hvi,Instr.indexAt,run_underlying hu,asIntOf,Instr.sureAddr,h0,h1,ZQ hi2,hsz2,pure,Sem.run]) rfl hk
       | _=>exact False.elim hk
    | slice sa len cap=>
      dsimp only at hk
      cases hD:D.t t with
      | none=>rw[hD]at hk;exact False.elim hk
      | some ti=>
       rw[hD]at hk;obtain⟨i1,d,hi,hu,hd1,hsz,he,hz⟩:=Da T hD;obtain⟨td,m,e1,z⟩:=ti
       cases td with
       | slice e=>
        dsimp only at hk;obtain rfl:=jW hd1
        cases hD2:D.t e with
        | none=>rw[hD2]at hk;exact False.elim hk
        | some te=>
         rw[hD2]at hk;obtain⟨i2,d2,hi2,hu2,hd2,hsz2,he2,hz2⟩:=Da T hD2;obtain⟨ad',rfl,h0,h1,hk⟩:=hk;exact zX h hd (.v (.pointer (some (ad'.add (n.toNat*te.size))))) (by simp[execOp,hop,hv,hvi,Instr.indexAt,run_underlying hu,asIntOf,h0,h1,ZQ hi2,hsz2,pure,Sem.run]) rfl hk
       | _=>exact False.elim hk
    | _=>exact False.elim hk
   | _=>exact False.elim hk
  | _=>exact False.elim hk
 | _=>exact False.elim hk
def UO{α:Type}:∀(n:Nat)(l:List α),UP n l=l.take n
 | 0,l=>by simp[UP]
 | n+1,[]=>by simp[UP]
 | n+1,x::l=>by simp[UP,UO n l]
def vG{α:Type}:∀(n:Nat)(l:List α),vH n l=l.drop n
 | 0,l=>by simp[vH]
 | n+1,[]=>by simp[vH]
 | n+1,x::l=>by simp[vH,vG n l]
def kR(T:YF P D){t:TypeId}{ti:TI}(hD:D.t t=some ti){cs:List Value}{off:Nat}{s:SV}(hp:Uh ti cs off=some s)(w:World) :
  (part t cs.toArray off).run P w = .ok s.toV w:=by
 obtain⟨i,d,hi,hu,hd1,hsz,he,hz⟩:=Da T hD;unfold Uh at hp
 cases hE:ti.e with
 | none=>rw[hE]at hp;cases hp
 | some e=>
  rw[hE]at hp he
  cases e with
  | agg ls=>
   cases hp
   have ha:=(ko he.symm).1;simp[part,Xo hu,ha,ZQ hi,pure,Sem.run,UO,vG,hsz,List.extract_toArray,List.extract_eq_take_drop]
  | one l=>
   have ha:=Oa he.symm;dsimp only at hp;rw[zp]at hp
   cases hn:cs[off]? with
   | none=>rw[hn]at hp;cases hp
   | some v=>
    rw[hn]at hp;cases hp;simp[part,Xo hu,ha,hn,pure,Sem.run]
def gt(T:YF P D){t:TypeId}{x:Operand}{f:Nat}(h:ok a c)(hd:Dst o c)(hop:o.op = .field t x f)(hk:za P D o a K w):ZD P o c w (Nx K c):=by
 simp only[za,hop]at hk
 cases hs:a.ev x with
 | none=>rw[hs]at hk;exact False.elim hk
 | some s=>
  rw[hs]at hk;have hv:=ya h hs
  cases s with
  | ag cs=>
   dsimp only at hk
   cases hD:D.t t with
   | none=>rw[hD]at hk;exact False.elim hk
   | some ti=>
    rw[hD]at hk;obtain⟨i,d,hi,hu,hd1,hsz,he,hz⟩:=Da T hD;obtain⟨td,n,e1,z⟩:=ti
    cases td with
    | struct fs=>
     dsimp only at hk;obtain⟨l,rfl,hl⟩:=XN hd1
     cases hn:nth fs f with
     | none=>rw[hn]at hk;exact False.elim hk
     | some fd=>
      rw[hn]at hk;dsimp only at hk;rw[zp,hl,List.getElem?_map]at hn
      cases hf:l.toList[f]? with
      | none=>rw[hf]at hn;cases hn
      | some fl=>
       rw[hf]at hn;cases hn;dsimp only at hk;have hf':l[f]? = some fl:=by rw[←Array.getElem?_toList];exact hf
       cases hD2:D.t fl.type with
       | none=>rw[hD2]at hk;exact False.elim hk
       | some tf=>
        rw[hD2]at hk;dsimp only at hk
        cases hp:Uh tf cs fl.offset with
        | none=>rw[hp]at hk;exact False.elim hk
        | some v=>
         rw[hp]at hk;exact zX h hd v (by simp[execOp,hop,hv,Instr.field,run_underlying hu,hf',asAgg,kR T hD2 hp,pure,Sem.run]) rfl hk
    | _=>exact False.elim hk
  | _=>exact False.elim hk
def OQ{s:B0}{n:Int}(h0:0≤n)(h1:n<s.size):∃b,s[n.toNat]? = some b∧vL s n=(b.toNat:Int):=by
 have hlt:n.toNat<s.size:=by omega
 refine⟨s[n.toNat],?_,?_⟩
 ·exact getElem?_pos s n.toNat hlt
 ·unfold vL;have:s.data.toList.getD n.toNat 0=s[n.toNat]:=by
   rw[List.getD_eq_getElem?_getD,Array.getElem?_toList];have:s.data[n.toNat]? = some s[n.toNat]:=by
    rw[Array.getElem?_eq_getElem (by exact hlt)];rfl
   rw[this];rfl
  rw[this]
def gr(T:YF P D){t:TypeId}{x i:Operand}(h:ok a c)(hd:Dst o c)(hop:o.op = .index t x i)(hk:za P D o a K w):ZD P o c w (Nx K c):=by
 simp only[za,hop]at hk;obtain⟨s,hs,hk⟩:=zC hk;have hvi:=ya h hs
 cases s with
 | v y=>cases y with
  | int k n=>
   dsimp only at hk;obtain⟨s2,hs2,hk⟩:=zC hk;have hv:=ya h hs2
   cases s2 with
   | v y=>cases y with
    | string s=>
     dsimp only at hk
     cases hD:D.t t with
     | none=>rw[hD]at hk;exact False.elim hk
     | some ti=>
      rw[hD]at hk;obtain⟨i1,d,hi,hu,hd1,hsz,he,hz⟩:=Da T hD;obtain⟨td,m,e1,z⟩:=ti
      cases td with
      | str=>
       obtain rfl:=XO hd1;obtain⟨⟨h0,h1⟩,hk⟩:=hk;obtain⟨b,hb,hb2⟩:=OQ h0 h1;exact zX h hd (.v (.int .u8 (vL s n))) (by simp[execOp,hop,hv,hvi,Instr.index,run_underlying hu,asIntOf,h0,hb,hb2,pure,Sem.run]) rfl hk
      | _=>exact False.elim hk
    | _=>exact False.elim hk
   | ag cs=>
    dsimp only at hk
    cases hD:D.t t with
    | none=>rw[hD]at hk;exact False.elim hk
    | some ti=>
     rw[hD]at hk;obtain⟨i1,d,hi,hu,hd1,hsz,he,hz⟩:=Da T hD;obtain⟨td,m,e1,z⟩:=ti
     cases td with
     | arr len e=>
      obtain rfl:=UN hd1;dsimp only at hk
      cases hD2:D.t e with
      | none=>rw[hD2]at hk;exact False.elim hk
      | some te=>
       rw[hD2]at hk;dsimp only at hk;obtain⟨i2,d2,hi2,hu2,hd2,hsz2,he2,hz2⟩:=Da T hD2
       cases hp:Uh te cs (n.toNat*te.size) with
       | none=>rw[hp]at hk;exact False.elim hk
       | some v=>
        rw[hp]at hk;obtain⟨⟨h0,h1⟩,hk⟩:=hk;exact zX h hd v (by simp[execOp,hop,hv,hvi,Instr.index,run_underlying hu,asIntOf,h0,h1,ZQ hi2,←hsz2,kR T hD2 hp,pure,Sem.run]) rfl hk
     | _=>exact False.elim hk
   | _=>exact False.elim hk
  | _=>exact False.elim hk
 | _=>exact False.elim hk
end
end Go.Dm
namespace Go.Dm
section
variable {P:Program}{D:Tb}{w w':World}{a:AT}{c:Act}{o:Oper}{K:AT→PT}
def uJ(off:Nat):∀(v:List Value)(k:Nat)(C:Array Value),off+k+v.length≤C.size→
  ((v.zipIdx k).foldl (λcs x=>cs.setIfInBounds (off+x.2) x.1) C).toList=C.toList.take (off+k)++v++C.toList.drop (off+k+v.length)
 | [],k,C,_=>by simp
 | x::v,k,C,h=>by
  simp only[List.length_cons]at h;have hlt:off+k<C.size:=by omega
  simp only[List.zipIdx_cons,List.foldl_cons];rw[uJ off v (k+1) _ (by simp;omega)];have e1:off+(k+1)=off+k+1:=by omega
  simp only[Array.toList_setIfInBounds,e1,List.length_cons];have e2:(C.toList.set (off+k) x).take (off+k+1)=C.toList.take (off+k)++[x]:=by
   rw[List.take_succ_eq_append_getElem (by simpa using hlt),List.take_set_of_le (Nat.le_refl _)];simp
  have e3:(C.toList.set (off+k) x).drop (off+k+1+v.length)=C.toList.drop (off+k+(v.length+1)):=by
   rw[List.drop_set_of_lt (by omega)]
   congr 1;omega
  rw[e2,e3];simp
def kg{place:Nat→Option (Nat×Nat)}:∀(l:List (Nat×SV))(cs r:List Value),QS place cs l=some r→
  Instr.fill place cs.toArray (l.map λx=>(x.1,x.2.toV))=some r.toArray
 | [],cs,r,h=>by cases h;rfl
 | (i,s)::l,cs,r,h=>by
  unfold QS at h
  cases hp:place i with
  | none=>rw[hp]at h;cases h
  | some q=>
   obtain⟨off,size⟩:=q;rw[hp]at h;dsimp only at h;split at h
   ·rename_i hc;have hn:s.toV.cells.size=size:=by rw[←Array.length_toList,Je];exact hc.1
    have hle:off+s.toV.cells.size≤cs.toArray.size:=by rw[hn];simpa using hc.2
    have ih:=kg l _ _ h;simp only[List.map_cons,Instr.fill,hp];rw[if_neg (by simp[hn];simpa using hc.2)];have e:(s.toV.cells.zipIdx.foldl (λcs x=>cs.setIfInBounds (off+x.2) x.1) cs.toArray)=(US cs off s.cells).toArray:=by
     apply Array.ext';rw[←Array.foldl_toList,Array.toList_zipIdx,uJ off s.toV.cells.toList 0 cs.toArray (by simpa using hle)];simp[US,UO,vG,Je]
    exact(congrArg (λx=>Instr.fill place x _) e).trans ih
   ·cases h
def UU(T:YF P D):∀(l:List Field)(ps:List (Nat×Nat)),JT D (l.map λf=>(f.type,f.offset))=some ps→∀w,
  (l.mapM λf=>(Prod.mk f.offset <$> sizeOf f.type:Sem (Nat×Nat))).run P w = .ok ps w
 | [],ps,h,w=>by cases h;simp[pure,Sem.run]
 | f::l,ps,h,w=>by
  simp only[List.map_cons,JT]at h
  cases hD:D.t f.type with
  | none=>rw[hD]at h;cases h
  | some tf=>cases hr:JT D (l.map λf=>(f.type,f.offset)) with
   | none=>rw[hD,hr]at h;cases h
   | some r=>
    rw[hD,hr]at h;cases h;obtain⟨i,d,hi,hu,hd1,hsz,he,hz⟩:=Da T hD;simp[ZQ hi,UU T l r hr,hsz]
def gv(T:YF P D){t:TypeId}{ps:Array (Nat×Operand)}(h:ok a c)(hd:Dst o c)(hop:o.op = .build t ps)(hk:za P D o a K w):ZD P o c w (Nx K c):=by
 simp only[za,hop]at hk
 cases hD:D.t t with
 | none=>rw[hD]at hk;exact False.elim hk
 | some ti=>cases hps:JG a ps.toList with
  | none=>
   rw[hD,hps]at hk;obtain⟨td,n,e1,z⟩:=ti
   cases td<;>(try exact False.elim hk)<;>(cases z<;>exact False.elim hk)
  | some l=>
   rw[hD,hps]at hk;have hl:=qX h hps;obtain⟨i,d,hi,hu,hd1,hsz,he,hz⟩:=Da T hD;obtain⟨td,n,e1,z⟩:=ti
   cases z with
   | none=>cases td<;>exact False.elim hk
   | some z=>
    obtain⟨zv,hzv,rfl⟩:=hz z rfl;have hz':=jF hi hzv
    cases td with
    | struct fs=>
     obtain⟨fl,rfl,rfl⟩:=XN hd1;dsimp only at hk
     cases hpl:JT D (fl.toList.map λf=>(f.type,f.offset)) with
     | none=>rw[hpl]at hk;exact False.elim hk
     | some pl=>
      rw[hpl]at hk;dsimp only at hk
      cases hf:QS (nth pl) zv.cells.toList l with
      | none=>rw[hf]at hk;exact False.elim hk
      | some cs=>
       rw[hf]at hk;have hfill:=kg l _ _ hf;have hpr:=UU T fl.toList pl hpl w;have hplace:(λi:Nat=>pl[i]?)=nth pl:=by funext i;rw[zp]
       refine zX h hd (.ag cs) (v:=.agg cs.toArray) ?_ rfl hk;simp[execOp,hop,Instr.build,hz',run_underlying hu,Array.mapM_eq_mapM_toList,hpr,hl];have hfill':Instr.fill (nth pl) zv.cells (List.map (λx=>(x.fst,x.snd.toV)) l)=some cs.toArray:=by simpa using hfill
       simp[hplace,hfill']
    | arr m e=>
     obtain rfl:=UN hd1;dsimp only at hk
     cases hD2:D.t e with
     | none=>rw[hD2]at hk;exact False.elim hk
     | some te=>
      rw[hD2]at hk;dsimp only at hk;obtain⟨i2,d2,hi2,hu2,hd2,hsz2,he2,hz2⟩:=Da T hD2
      cases hf:QS (λi=>some (i*te.size,te.size)) zv.cells.toList l with
      | none=>rw[hf]at hk;exact False.elim hk
      | some cs=>
       rw[hf]at hk;have hfill:=kg l _ _ hf;refine zX h hd (.ag cs) (v:=.agg cs.toArray) ?_ rfl hk;rw[hsz2]at hfill;simp[execOp,hop,Instr.build,hz',run_underlying hu,ZQ hi2,hl];have hfill':Instr.fill (λj=>some (j*i2.size,i2.size)) zv.cells (List.map (λx=>(x.fst,x.snd.toV)) l)=some cs.toArray:=by simpa using hfill
       simp[hfill']
    | _=>exact False.elim hk
def Ku(sz:Nat):∀(l:List (Nat×SV))(n:Nat)(r:List Value)(C:Array Value),OP sz n l=some r→C.size=(n+l.length)*sz→
  Instr.fill (λi=>some (i*sz,sz)) C (l.map λx=>(x.1,x.2.toV))=some (C.toList.take (n*sz)++r).toArray
 | [],n,r,C,h,hC=>by
  cases h
  simp only[List.map_nil,Instr.fill,List.append_nil,List.length_nil,Nat.add_zero]at *
  rw[List.take_of_length_le (by simp[hC])]
 | (i,s)::l,n,r,C,h,hC=>by
  unfold OP at h;split at h
  ·rename_i hc;obtain⟨rfl,hs⟩:=hc
   cases hr:OP sz (i+1) l with
   | none=>rw[hr]at h;cases h
   | some r'=>
    rw[hr]at h;cases h;have hn:s.toV.cells.size=sz:=by rw[←Array.length_toList,Je];exact hs
    have hle:i*sz+sz≤C.size:=by
     rw[hC,List.length_cons,←Nat.succ_mul];exact Nat.mul_le_mul_right _ (by omega)
    simp only[List.map_cons,Instr.fill];rw[if_neg (by simp[hn];omega)];have e:(s.toV.cells.zipIdx.foldl (λcs x=>cs.setIfInBounds (i*sz+x.2) x.1) C).toList=C.toList.take (i*sz)++s.cells++C.toList.drop (i*sz+sz):=by
     rw[←Array.foldl_toList,Array.toList_zipIdx,uJ (i*sz) s.toV.cells.toList 0 C (by simp[hn];omega)];simp[Je,hs]
    have ih:=Ku sz l (i+1) r' (s.toV.cells.zipIdx.foldl (λcs x=>cs.setIfInBounds (i*sz+x.2) x.1) C) hr (by
     rw[←Array.length_toList,e];simp[hs,hC,Nat.add_mul,Nat.succ_mul];omega)
    refine ih.trans ?_;rw[e,Nat.succ_mul]
    congr 2
    rw[List.take_left' (by simp[hs];rw[Nat.min_eq_left (by omega)]),List.append_assoc]
  ·cases h
def vZ(T:YF P D){t:TypeId}{n:Nat}{ps:Array (Nat×Operand)}(h:ok a c)(hd:Dst o c)(hop:o.op = .buildSlice t n ps)(hk:za P D o a K w):ZD P o c w (Nx K c):=by
 simp only[za,hop]at hk
 cases hD:D.t t with
 | none=>rw[hD]at hk;exact False.elim hk
 | some ti=>
  rw[hD]at hk;obtain⟨i,d,hi,hu,hd1,hsz,he,hz⟩:=Da T hD;obtain⟨td,m,e1,z⟩:=ti
  cases td with
  | slice e=>
   obtain rfl:=jW hd1;dsimp only at hk
   cases hD2:D.t e with
   | none=>rw[hD2]at hk;exact False.elim hk
   | some te=>
    rw[hD2]at hk;obtain⟨i2,d2,hi2,hu2,hd2,hsz2,he2,hz2⟩:=Da T hD2;obtain⟨td2,sz,e2,z2⟩:=te
    cases z2 with
    | none=>exact False.elim hk
    | some z2=>cases hps:JG a ps.toList with
     | none=>rw[hps]at hk;exact False.elim hk
     | some l=>
      rw[hps]at hk;dsimp only at hk;have hl:=qX h hps;obtain⟨zv,hzv,rfl⟩:=hz2 z2 rfl;have hz':=jF hi2 hzv;split at hk
      ·rename_i hc;obtain⟨hc1,hc2⟩:=hc
       cases hcat:OP sz 0 l with
       | none=>rw[hcat]at hk;exact False.elim hk
       | some cs=>
        rw[hcat]at hk;have hll:l.length=n:=by
         have:=congrArg List.length hl;simp at this;rw[←this];simpa using hc1
        dsimp only at hsz2;refine zX h hd (.v (.slice (some ⟨w.heap.size,0,none⟩) n n)) (w':=w.alloc (.cells cs.toArray e)) ?_ rfl hk;have hbig:¬(2 ^ 24<n*sz):=by omega
        have fill (C:Array Value) (hC:C.size=n*sz):Instr.fill (λi=>some (i*sz,sz)) C (List.map (λx=>(x.fst,x.snd.toV)) l)=some cs.toArray:=by
         have:=Ku sz l 0 cs C hcat (by rw[hC,hll];simp);simpa using this
        by_cases h0:n*sz=0
        ·simp[execOp,hop,Instr.buildSlice,run_underlying hu,ZQ hi2,←hsz2,hbig,h0,hl,fill,newRow,newObj,Sem.run]
        ·simp[execOp,hop,Instr.buildSlice,run_underlying hu,ZQ hi2,←hsz2,hbig,h0,hl,hz',fill,newRow,newObj,Sem.run]
      ·exact False.elim hk
  | _=>exact False.elim hk
end
end Go.Dm
namespace Go.Dm
section
variable {P:Program}{D:Tb}{w w':World}{a:AT}{c:Act}{o:Oper}{K:AT→PT}
def JM{k:IntKind}{l:Int}{y:Nat}(code:BoundsCode)(h0:0≤l)(h1:l≤y):(Instr.sliceBound (.int k l) y code).run P w = .ok l.toNat w:=by
 simp[Instr.sliceBound,asIntOf,h0,h1]
def UV{sl:Bool}{len cap:Nat}{lo hi mx:Option Value}{l h m:Int}
  (hl:lo=none∧l=0∨∃k,lo=some (.int k l)) (hh:hi=none∧h=len∧mx=none∨∃k,hi=some (.int k h)) (hm:mx=none∧m=cap∨∃k,mx=some (.int k m))
  (h0:0≤l) (h1:l≤h) (h2:h≤m) (h3:m≤cap):(Instr.sliceBounds sl len cap lo hi mx).run P w = .ok (l.toNat,h.toNat,m.toNat) w:=by
 have e1:∀{x:Int},0≤x→((x.toNat:Nat):Int)=x:=λhx=>Int.toNat_of_nonneg hx;have hh0:0≤h:=by omega
 have hm0:0≤m:=by omega
 rcases hm with ⟨rfl,rfl⟩ | ⟨km,rfl⟩
 ·rcases hh with ⟨rfl,rfl,_⟩ | ⟨kh,rfl⟩
  ·rcases hl with ⟨rfl,rfl⟩ | ⟨kl,rfl⟩
   ·simp[Instr.sliceBounds]
   ·simp[Instr.sliceBounds,JM _ h0 h1]
  ·have hb:=λcode=>JM (P:=P) (w:=w) (k:=kh) (l:=h) (y:=cap) code hh0 h2;rcases hl with ⟨rfl,rfl⟩ | ⟨kl,rfl⟩
   ·simp[Instr.sliceBounds,hb]
   ·have hb2:=λcode=>JM (P:=P) (w:=w) (k:=kl) (l:=l) (y:=h.toNat) code h0 (by rw[e1 hh0];exact h1);simp[Instr.sliceBounds,hb,hb2]
 ·have hb0:=λcode=>JM (P:=P) (w:=w) (k:=km) (l:=m) (y:=cap) code hm0 h3;rcases hh with ⟨_,_,h⟩ | ⟨kh,rfl⟩
  ·cases h
  ·have hb:=λcode=>JM (P:=P) (w:=w) (k:=kh) (l:=h) (y:=m.toNat) code hh0 (by rw[e1 hm0];exact h2);rcases hl with ⟨rfl,rfl⟩ | ⟨kl,rfl⟩
   ·simp[Instr.sliceBounds,hb0,hb]
   ·have hb2:=λcode=>JM (P:=P) (w:=w) (k:=kl) (l:=l) (y:=h.toNat) code h0 (by rw[e1 hh0];exact h1);simp[Instr.sliceBounds,hb0,hb,hb2]
def Ka{a:AT}{c:Act}(h:ok a c){lo:Option Operand}{d:Int}{f:SV→PT}(hk:zj (match lo with | some x=>a.ev x | none=>some (.v (.int .i64 d))) f w) :
  ∃s,f s w∧((lo=none∧s = .v (.int .i64 d))∨∃x,lo=some x∧c.eval x=s.toV):=by
 cases lo with
 | none=>exact⟨_,hk,.inl ⟨rfl,rfl⟩⟩
 | some x=>
  obtain⟨s,hs,hk⟩:=zC hk;exact⟨s,hk,.inr ⟨x,rfl,ya h hs⟩⟩
def gp(T:YF P D){t:TypeId}{x:Operand}{lo hi mx:Option Operand}(h:ok a c)(hd:Dst o c)(hop:o.op = .slice t x lo hi mx)(hk:za P D o a K w):ZD P o c w (Nx K c):=by
 simp only[za,hop]at hk;obtain⟨s,hs,hk⟩:=zC hk;have hv:=ya h hs
 cases s with
 | v y=>cases y with
  | string s=>
   dsimp only at hk
   cases mx with
   | some _=>exact False.elim hk
   | none=>
    cases hD:D.t t with
    | none=>rw[hD]at hk;exact False.elim hk
    | some ti=>
     rw[hD]at hk;obtain⟨i1,d,hi1,hu,hd1,hsz,he,hz⟩:=Da T hD;obtain⟨td,m,e1,z⟩:=ti
     cases td with
     | str=>
      obtain rfl:=XO hd1;simp only[Option.isNone_none,if_true]at hk;obtain⟨sl,hk,hl⟩:=Ka h hk
      cases sl with
      | v y=>cases y with
       | int kl l=>
        dsimp only at hk;obtain⟨sh,hk,hh⟩:=Ka h hk
        cases sh with
        | v y=>cases y with
         | int kh hh'=>
          obtain⟨⟨h0,h1,h2⟩,hk⟩:=hk
          have hb:=UV (P:=P) (w:=w) (sl:=false) (len:=s.size) (cap:=s.size) (lo:=lo.map c.eval) (hi:=hi.map c.eval) (mx:=none) (l:=l) (h:=hh') (m:=s.size)
           (by rcases hl with ⟨rfl,e⟩ | ⟨x,rfl,e⟩
               ·cases e;exact .inl ⟨rfl,rfl⟩
               ·exact .inr ⟨kl,by simp[e]⟩)
           (by rcases hh with ⟨rfl,e⟩ | ⟨x,rfl,e⟩
               ·cases e;exact .inl ⟨rfl,rfl,rfl⟩
               ·exact .inr ⟨kh,by simp[e]⟩) (.inl ⟨rfl,rfl⟩) h0 h1 h2 (Int.le_refl _)
          exact zX h hd (.v (.string (s.extract l.toNat hh'.toNat))) (by simp[execOp,hop,hv,Instr.sliceAt,Instr.slice,run_underlying hu,hb]) rfl hk
         | _=>exact False.elim hk
        | _=>exact False.elim hk
       | _=>exact False.elim hk
      | _=>exact False.elim hk
     | _=>exact False.elim hk
  | slice sa len cap=>
   dsimp only at hk
   cases hD:D.t t with
   | none=>rw[hD]at hk;exact False.elim hk
   | some ti=>
    rw[hD]at hk;obtain⟨i1,d,hi1,hu,hd1,hsz,he,hz⟩:=Da T hD;obtain⟨td,m,e1,z⟩:=ti
    cases td with
    | slice e=>
     obtain rfl:=jW hd1;dsimp only at hk
     cases hD2:D.t e with
     | none=>rw[hD2]at hk;exact False.elim hk
     | some te=>
      rw[hD2]at hk;dsimp only at hk;obtain⟨i2,d2,hi2,hu2,hd2,hsz2,he2,hz2⟩:=Da T hD2;split at hk
      ·exact False.elim hk
      ·rename_i hmh;obtain⟨sl,hk,hl⟩:=Ka h hk
       cases sl with
       | v y=>cases y with
        | int kl l=>
         dsimp only at hk;obtain⟨sh,hk,hh⟩:=Ka h hk
         cases sh with
         | v y=>cases y with
          | int kh hh'=>
           dsimp only at hk;obtain⟨sm,hk,hm⟩:=Ka h hk
           cases sm with
           | v y=>cases y with
            | int km mm=>
             obtain⟨⟨h0,h1,h2,h3⟩,hk⟩:=hk
             have hb:=UV (P:=P) (w:=w) (sl:=true) (len:=len) (cap:=cap) (lo:=lo.map c.eval) (hi:=hi.map c.eval) (mx:=mx.map c.eval) (l:=l) (h:=hh') (m:=mm)
              (by rcases hl with ⟨rfl,e⟩ | ⟨x,rfl,e⟩
                  ·cases e;exact .inl ⟨rfl,rfl⟩
                  ·exact .inr ⟨kl,by simp[e]⟩)
              (by rcases hh with ⟨rfl,e⟩ | ⟨x,rfl,e⟩
                  ·cases e
                   refine .inl ⟨rfl,rfl,?_⟩
                   cases mx with
                   | none=>rfl
                   | some _=>simp at hmh
                  ·exact .inr ⟨kh,by simp[e]⟩)
              (by rcases hm with ⟨rfl,e⟩ | ⟨x,rfl,e⟩
                  ·cases e;exact .inl ⟨rfl,rfl⟩
                  ·exact .inr ⟨km,by simp[e]⟩) h0 h1 h2 h3
             exact zX h hd (.v (.slice (if mm.toNat=l.toNat then sa else sa.map (·.add (l.toNat*te.size))) (hh'.toNat-l.toNat) (mm.toNat-l.toNat)))
              (by simp[execOp,hop,hv,Instr.sliceAt,Instr.slice,run_underlying hu,hb,ZQ hi2,hsz2]) rfl hk
            | _=>exact False.elim hk
           | _=>exact False.elim hk
          | _=>exact False.elim hk
         | _=>exact False.elim hk
        | _=>exact False.elim hk
       | _=>exact False.elim hk
    | _=>exact False.elim hk
  | _=>exact False.elim hk
 | _=>exact False.elim hk
def up:∀(es:List E1)(x:TT es)(i:Nat)(s:SV),Ug es x i=some s→(TV es x)[i]? = some s.toV
 | [],_,_,s,h=>by cases h
 | e::_,x,0,s,h=>by cases h;simp[TV,KR]
 | _::es,x,n+1,s,h=>by simpa [TV]using up es x.2 n s h
def KZ{x:Operand}{i:Nat}(h:ok a c)(hd:Dst o c)(hop:o.op = .extract x i)(hk:za P D o a K w):ZD P o c w (Nx K c):=by
 simp only[za,hop]at hk
 cases hs:a.ev x with
 | none=>rw[hs]at hk;exact False.elim hk
 | some s=>
  rw[hs]at hk;have hv:=ya h hs
  cases s with
  | nx b es y=>
   cases i with
   | zero=>exact zX h hd (.lit b) (by simp[execOp,hop,hv,Instr.extract,SV.toV]) rfl hk
   | succ i=>
    dsimp only at hk
    cases hn:Ug es y i with
    | none=>rw[hn]at hk;exact False.elim hk
    | some s=>
     rw[hn]at hk;have:=up _ _ _ _ hn;exact zX h hd s (by simp[execOp,hop,hv,Instr.extract,SV.toV,this]) rfl hk
  | tp es y=>
   dsimp only at hk
   cases hn:Ug es y i with
   | none=>rw[hn]at hk;exact False.elim hk
   | some s=>
    rw[hn]at hk;have:=up _ _ _ _ hn;exact zX h hd s (by simp[execOp,hop,hv,Instr.extract,SV.toV,this]) rfl hk
  | v y=>cases y with
   | tuple vs=>
    dsimp only at hk
    cases hn:nth vs.toList i with
    | none=>rw[hn]at hk;exact False.elim hk
    | some s=>
     rw[hn]at hk;rw[zp,Array.getElem?_toList]at hn;exact zX h hd (.v s) (by simp[execOp,hop,hv,Instr.extract,hn]) rfl hk
   | _=>exact False.elim hk
  | _=>exact False.elim hk
def Qg{s:SV}{b:Bool}(h:s.boolOf=some b):s.toV = .bool b:=by
 cases s with
 | lit b=>cases h;rfl
 | v x=>cases x<;>simp[SV.boolOf]at h;subst h;rfl
 | _=>simp[SV.boolOf]at h
def Gp{op:UnOp}{t:TypeId}{x:Operand}(h:ok a c)(hd:Dst o c)(hop:o.op = .unOp op t x)(hk:za P D o a K w):ZD P o c w (Nx K c):=by
 simp only[za,hop]at hk;obtain⟨s,hs,hk⟩:=zC hk;have hv:=ya h hs
 cases op with
 | not=>
  dsimp only at hk
  cases hb:s.boolOf with
  | none=>rw[hb]at hk;exact False.elim hk
  | some b=>
   rw[hb]at hk;exact zX h hd (.v (.bool (!b))) (by simp[execOp,hop,hv,Qg hb,Op.unary]) rfl hk
 | neg=>
  cases s with
  | v y=>cases y with
   | int k n=>exact zX h hd (.v (.int k (k.wrap (0-n)))) (by simp[execOp,hop,hv,Op.unary,Op.intArith]) rfl hk
   | _=>exact False.elim hk
  | _=>exact False.elim hk
 | _=>exact False.elim hk
def uv(T:YF P D){t:TypeId}{x:Operand}(h:ok a c)(hd:Dst o c)(hop:o.op = .makeInterface t x)(hk:za P D o a K w):ZD P o c w (Nx K c):=by
 simp only[za,hop]at hk;obtain⟨s,hs,hk⟩:=zC hk;have hv:=ya h hs
 cases hD:D.t t with
 | none=>rw[hD]at hk;exact False.elim hk
 | some ti=>
  rw[hD]at hk;obtain⟨i1,d,hi1,hu,hd1,hsz,he,hz⟩:=Da T hD;obtain⟨td,m,e1,z⟩:=ti;have key:(∀ms,d≠.interface ms)→K (Zz a o (.iface t s.toV)) w→ZD P o c w (Nx K c):=λhne hk=>
   zX h hd (.v (.iface t s.toV)) (by cases d<;>simp_all [execOp,hop,hv,Instr.makeInterface,run_underlying hu]) rfl hk
  dsimp only at hd1
  cases td with
  | iface=>exact False.elim hk
  | _=>exact key (λms e=>by subst e;cases hd1) hk
def Kd{f:Fn}{x y:Array Operand}(h:ok a c)(hd:Dst o c)(hop:o.op = .makeFunc f x y)(hk:za P D o a K w):ZD P o c w (Nx K c):=by
 simp only[za,hop]at hk
 cases h1:ZY a x.toList with
 | none=>rw[h1]at hk;exact False.elim hk
 | some l1=>cases h2:ZY a y.toList with
  | none=>rw[h1,h2]at hk;exact False.elim hk
  | some l2=>
   rw[h1,h2]at hk;have e1:x.map c.eval=(yN l1).toArray:=by rw[←JN h h1];exact Array.ext' (by simp)
   have e2:y.map c.eval=(yN l2).toArray:=by rw[←JN h h2];exact Array.ext' (by simp)
   exact zX h hd (.v (.func f (yN l1).toArray (yN l2).toArray)) (by simp[execOp,hop,Instr.makeFunc,e1,e2]) rfl hk
end
end Go.Dm
