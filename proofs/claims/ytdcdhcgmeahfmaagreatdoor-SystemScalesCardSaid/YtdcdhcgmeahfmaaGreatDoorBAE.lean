/- What is proved on the way to a statement of the seat, pressed (text AE). No conditions beyond those its theorems state. -/
import Derived.Test.YtdcdhcgmeahfmaaGreatDoorBAD
set_option linter.all false
namespace Go.Proofs.YtdcdhcgmeahfmaaGreatDoor
set_option maxRecDepth 100000
open Go.Dm
variable {K:Value→PT}{w:World}
def z3H(p0:FV)(p1:Sl)(K:Value→PT):PT:=
 L.loop (Y:=Sl×Int×Unit) (⟨none,0,0⟩,0,()) fun y1 again2=>
 L.ite (decide (y1.2.1<((p1.len:Nat):Int))) (
  L.idx p1.a y1.2.1 p1.len 1 fun a3=>
  L.load eL6 a3 fun(x4:Sl)=>
  L.loop (Y:=Sl×Int×Unit) (⟨y1.1.a,y1.1.len,y1.1.cap⟩,0,()) fun y5 again6=>
  L.ite (decide (y5.2.1<((x4.len:Nat):Int))) (
   L.idx x4.a y5.2.1 x4.len 2 fun a7=>
   L.load (.agg [.str,.int .i64]) a7 fun(x8:ByteArray×Int×Unit)=>
   L.new [.string s_,.int .i64 0] z0v fun b9=>
   L.store (⟨b9,0,none⟩) [.string x8.1,.int .i64 x8.2.1]<|
   L.load (.agg [.str,.int .i64]) (⟨b9,0,none⟩) fun(x10:ByteArray×Int×Unit)=>
   L.callV Pr (.func p0.fn p0.fs p0.cs) [.agg #[.string x10.1,.int .i64 x10.2.1]] rS fun(x11:ByteArray)=>
   L.new [.string x11] z01 fun b12=>
   L.sem Pr (.one (.one .slice)) (Builtin.append_ #[z08,z08] z08 #[Sv6 y5.1,.slice (some ⟨b12,0,none⟩) 1 1]) fun(s13:Sl)=>
   again6 (⟨s13.a,s13.len,s13.cap⟩,IntKind.wrap .i64 (y5.2.1+1),()))<|
  again2 (⟨y5.1.a,y5.1.len,y5.1.cap⟩,IntKind.wrap .i64 (y1.2.1+1),()))<|
 L.call Pr z2V [Sv6 y1.1] (.tup []) fun(x14:Unit)=>
 L.call Pr z3F [Sv6 y1.1] rL fun(x15:Sl)=>
 K (.slice x15.a x15.len x15.cap)
theorem z6Y(p0:FV)(p1:Sl)(h:z3H p0 p1 K w):CV z2w [.v (.func p0.fn p0.fs p0.cs),.v (.slice p1.a p1.len p1.cap)] K w:=C_of Tryz.f242 z71 _ h
def zh7(p0:HT [.str,.int .i64])(K:Value→PT):PT:=
 L.new [.string p0.1,.int .i64 p0.2.1] z0v fun b1=>
 L.load eS6 (Ad6 b1 0) fun(x2:ByteArray)=>
 K (.string x2)
theorem zmy(p0:HT [.str,.int .i64])(h:zh7 p0 K w):CV zbb [.ag [.string p0.1,.int .i64 p0.2.1]] K w:=C_of Tryz.f243 .auto _ h
theorem zmv:Enters Pr zbb:=z0p (by kernel_rfl)
def zd0(p0:Sl)(p1:ByteArray)(K:Value→PT):PT:=
 L.new [.string p1] z01 fun b1=>
 L.call Pr z2B [Sv6 p0,.func (.func z64) #[] #[.pointer (some (⟨b1,0,none⟩))]] rI fun(x2:Int)=>
 L.ite (decide (x2<0)) (
  K (.int .i64 0))<|
 L.idx p0.a x2 p0.len 2 fun a3=>
 L.load eI6 (a3.add 1) fun(x4:Int)=>
 K (.int .i64 x4)
theorem zhV(p0:Sl)(p1:ByteArray)(h:zd0 p0 p1 K w):CV z4R [.v (.slice p0.a p0.len p0.cap),.v (.string p1)] K w:=C_of Tryz.f244 .auto _ h
def z9R:Ann:=(.seq .auto (.one [(3,(.one (.int .i64)))] .auto) none)
def z6k(p0:FV)(c0:Addr)(K:Value→PT):PT:=
 L.loop (Y:=Int×Unit) (1,()) fun y1 again2=>
 L.load eP6 c0 fun(x3:Option Addr)=>
 L.nonnil x3 fun a4=>
 L.load eI6 (a4.add 60) fun(x5:Int)=>
 L.ite (decide (y1.1≤(if 60<x5 then 60 else x5))) (
  L.draw<|
  L.load eP6 c0 fun(x6:Option Addr)=>
  L.load eP6 c0 fun(x7:Option Addr)=>
  L.nonnil x7 fun a8=>
  L.load eI6 (a8.add 60) fun(x9:Int)=>
  L.guard (60≠(0:Int))<|
  L.nonnil x6 fun a10=>
  L.idx (some (a10.add 0)) (Int.tmod (IntKind.wrap .i64 (x9-y1.1)) 60) 60 1 fun a11=>
  L.load eI6 a11 fun(x12:Int)=>
  L.callV Pr (.func p0.fn p0.fs p0.cs) [.int .i64 x12] rB fun(x13:Bool)=>
  L.ite (!x13) (
   K (.tuple #[]))<|
  again2 (IntKind.wrap .i64 (y1.1+1),()))<|
 K (.tuple #[])
theorem z9O(p0:FV)(c0:Addr)(h:z6k p0 c0 K w):CV z1U [.v (.func p0.fn p0.fs p0.cs),.v (.pointer (some c0))] K w:=C_of Tryz.f245 z9R _ h
theorem z9J:Enters Pr z1U:=z0p (by kernel_rfl)
def zia:Ann:=(.seq .auto (.cond .auto .auto) none)
def zd2(p0:Option Addr)(K:Value→PT):PT:=
 L.nonnil p0 fun a1=>
 L.load eI6 (a1.add 0) fun(x2:Int)=>
 L.ite (x2 == 3) (
  L.call Pr z2q [.pointer p0] rI fun(x3:Int)=>
  L.ite (x3 == 0) (
   L.nonnil p0 fun a4=>
   L.store (a4.add 0) [.int .i64 4]<|
   K (.tuple #[]))<|
  K (.tuple #[]))<|
 K (.tuple #[])
theorem zhX(p0:Option Addr)(h:zd2 p0 K w):CV z7t [.v (.pointer p0)] K w:=C_of Tryz.f246 zia _ h
def zb3:Ann:=(.seq .auto (.one [(10,(.one (.int .i64)))] .auto) none)
def z6Q(p0:FV)(c0:Addr)(K:Value→PT):PT:=
 L.load eP6 c0 fun(x1:Option Addr)=>
 L.nonnil x1 fun a2=>
 L.load eL6 (a2.add 0) fun(x3:Sl)=>
 L.loop (Y:=Int×Unit) (0,()) fun y4 again5=>
 L.ite (decide (y4.1<((x3.len:Nat):Int))) (
  L.idx x3.a y4.1 x3.len 2 fun a6=>
  L.load (.agg [.int .i64,.int .i64]) a6 fun(x7:Int×Int×Unit)=>
  L.new [.int .i64 0,.int .i64 0] z2x fun b8=>
  L.store (⟨b8,0,none⟩) [.int .i64 x7.1,.int .i64 x7.2.1]<|
  L.load eI6 (Ad6 b8 0) fun(x9:Int)=>
  L.load eI6 (Ad6 b8 1) fun(x10:Int)=>
  L.callV Pr (.func p0.fn p0.fs p0.cs) [.int .i64 x9,.int .i64 x10] rB fun(x11:Bool)=>
  L.ite (!x11) (
   K (.tuple #[]))<|
  again5 (IntKind.wrap .i64 (y4.1+1),()))<|
 K (.tuple #[])
theorem zaS(p0:FV)(c0:Addr)(h:z6Q p0 c0 K w):CV z2v [.v (.func p0.fn p0.fs p0.cs),.v (.pointer (some c0))] K w:=C_of Tryz.f258 zb3 _ h
theorem zaN:Enters Pr z2v:=z0p (by kernel_rfl)
def z7j(p0:FV)(K:Value→PT):PT:=
 L.call Pr z3e [.slice none 0 0,.func p0.fn p0.fs p0.cs] rL fun(x1:Sl)=>
 K (.slice x1.a x1.len x1.cap)
theorem zbo(p0:FV)(h:z7j p0 K w):CV z7g [.v (.func p0.fn p0.fs p0.cs)] K w:=C_of Tryz.f259 .auto _ h
def z3E:Ann:=(.seq .auto (.one [] (.seq .auto (.seq (.cond .auto .auto) .auto none) none)) none)
def z1Q(p0:FV)(c0:Addr)(K:Value→PT):PT:=
 L.load (.one (.map)) c0 fun(x1:Option Nat)=>
 L.sem Pr (.one (.one .ptr)) (Instr.range z0u (.map x1)) fun(it2:Option Addr)=>
 L.loop (Y:=Unit) (()) fun y3 again4=>
 L.next Pr [eI6,(.agg [.str,.ptr])] (Instr.next (.pointer it2) false T_) (
  K (.tuple #[])) fun(x5:pt22)=>
 L.sem Pr (.tup [eI6,(.agg [.str,.ptr])]) (Instr.entry (.pointer it2)) fun(x6:pt22)=>
 L.callV Pr (.func p0.fn p0.fs p0.cs) [.int .i64 x6.1] rB fun(x7:Bool)=>
 L.ite (!x7) (
  K (.tuple #[]))<|
 again4 (())
theorem z3C(p0:FV)(c0:Addr)(h:z1Q p0 c0 K w):CV z0o [.v (.func p0.fn p0.fs p0.cs),.v (.pointer (some c0))] K w:=C_of Tryz.f260 z3E _ h
theorem z3A:Enters Pr z0o:=z0p (by kernel_rfl)
def z4t:Ann:=(.seq .auto (.seq (.seq .auto (.one [(8,(.one (.int .i64)))] .auto) none) .auto none) none)
def z2o(p0:Sl)(p1:FV)(K:Value→PT):PT:=
 L.loop (Y:=Int×Unit) (0,()) fun y1 again2=>
 L.ite (decide (y1.1<((p0.len:Nat):Int))) (
  L.idx p0.a y1.1 p0.len 3 fun a3=>
  L.load (.agg [.str,.str,.int .i64]) a3 fun(x4:pt9)=>
  L.callV Pr (.func p1.fn p1.fs p1.cs) [.agg #[.string x4.1,.string x4.2.1,.int .i64 x4.2.2.1]] rB fun(x5:Bool)=>
  L.ite x5 (
   K (.int .i64 y1.1))<|
  again2 (IntKind.wrap .i64 (y1.1+1),()))<|
 K (.int .i64 (-1))
theorem z4s(p0:Sl)(p1:FV)(h:z2o p0 p1 K w):CV z2n [.v (.slice p0.a p0.len p0.cap),.v (.func p1.fn p1.fs p1.cs)] K w:=C_of Tryz.f272 z4t _ h
def z0W(p0:Sl)(p1:FV)(K:Value→PT):PT:=
 L.call Pr z2U [Sv6 p0,.int .i64 ((p0.len:Nat):Int),.func p1.fn p1.fs p1.cs] (.tup []) fun(x1:Unit)=>
 K (.tuple #[])
theorem z1y(p0:Sl)(p1:FV)(h:z0W p0 p1 K w):CV z0K [.v (.slice p0.a p0.len p0.cap),.v (.func p1.fn p1.fs p1.cs)] K w:=C_of Tryz.f279 .auto _ h
def z7m(p0 p1:HT [.int .i64,.int .i64])(K:Value→PT):PT:=
 L.new [.int .i64 p0.1,.int .i64 p0.2.1] z07 fun b1=>
 L.new [.int .i64 p1.1,.int .i64 p1.2.1] z07 fun b2=>
 L.load eI6 (Ad6 b1 0) fun(x3:Int)=>
 L.load eI6 (Ad6 b2 0) fun(x4:Int)=>
 K (.int .i64 (IntKind.wrap .i64 (x3-x4)))
theorem zbr(p0 p1:HT [.int .i64,.int .i64])(h:z7m p0 p1 K w):CV z0x [.ag [.int .i64 p0.1,.int .i64 p0.2.1],.ag [.int .i64 p1.1,.int .i64 p1.2.1]] K w:=C_of Tryz.f280 .auto _ h
theorem zbi:Enters Pr z0x:=z0p (by kernel_rfl)
def zbF(p0:Option Addr)(p1:Int)(K:Value→PT):PT:=
 L.nonnil p0 fun a1=>
 L.load eI6 (a1.add 0) fun(x2:Int)=>
 L.ite (x2 != 2) (
  K (.int .i64 9))<|
 L.nonnil p0 fun a3=>
 L.call Pr z95 [.pointer (some (a3.add 1)),.int .i64 p1] rI fun(x4:Int)=>
 K (.int .i64 x4)
theorem zgo(p0:Option Addr)(p1:Int)(h:zbF p0 p1 K w):CV z6C [.v (.pointer p0),.v (.int .i64 p1)] K w:=C_of Tryz.f281 .auto _ h
def z6h(p0:FV)(K:Value→PT):PT:=
 L.call Pr z2f [.slice none 0 0,.func p0.fn p0.fs p0.cs] rL fun(x1:Sl)=>
 K (.slice x1.a x1.len x1.cap)
theorem z9L(p0:FV)(h:z6h p0 K w):CV z62 [.v (.func p0.fn p0.fs p0.cs)] K w:=C_of Tryz.f283 .auto _ h
def z36:Ann:=(.seq .auto (.one [] (.seq .auto (.seq (.cond .auto .auto) .auto none) none)) none)
def z1v(p0:FV)(c0:Addr)(K:Value→PT):PT:=
 L.load (.one (.map)) c0 fun(x1:Option Nat)=>
 L.sem Pr (.one (.one .ptr)) (Instr.range z0J (.map x1)) fun(it2:Option Addr)=>
 L.loop (Y:=Unit) (()) fun y3 again4=>
 L.next Pr [eS6,eP6] (Instr.next (.pointer it2) false T_) (
  K (.tuple #[])) fun(x5:ByteArray×Option Addr×Unit)=>
 L.sem Pr (.tup [eS6,eP6]) (Instr.entry (.pointer it2)) fun(x6:ByteArray×Option Addr×Unit)=>
 L.callV Pr (.func p0.fn p0.fs p0.cs) [.string x6.1] rB fun(x7:Bool)=>
 L.ite (!x7) (
  K (.tuple #[]))<|
 again4 (())
theorem z35(p0:FV)(c0:Addr)(h:z1v p0 c0 K w):CV z0i [.v (.func p0.fn p0.fs p0.cs),.v (.pointer (some c0))] K w:=C_of Tryz.f285 z36 _ h
theorem z30:Enters Pr z0i:=z0p (by kernel_rfl)
def z1j(p0:Option Nat)(K:Value→PT):PT:=
 L.new [.map p0] z0m fun b1=>
 K (.func (.func z0a) #[] #[.pointer (some (⟨b1,0,none⟩))])
theorem z2z(p0:Option Nat)(h:z1j p0 K w):CV z1i [.v (.map p0)] K w:=C_of Tryz.f286 .auto _ h
def zcm:Ann:=(.seq .auto (.seq .auto (.seq (.seq .auto (.one [(18,(.one (.int .i64)))] (.seq .auto (.seq .auto (.seq (.seq .auto (.seq .auto (.seq .auto (.cond .auto .auto) none) none) none) .auto (some [])) none) none)) none) .auto none) none) none)
def z7X(p0:Option Addr)(p1:ByteArray)(p2:FV)(K:Value→PT):PT:=
 L.new [.string s_,.int .i64 0,.string s_,.int .i64 0,.int .i64 0,.int .i64 0,.int .i64 0,.int .i64 0] z0j fun b1=>
 L.store (⟨b1,0,none⟩) [.string s_,.int .i64 0,.string s_,.int .i64 0,.int .i64 0,.int .i64 0,.int .i64 0,.int .i64 0]<|
 L.nonnil p0 fun a2=>
 L.load (.one (.map)) (a2.add 0) fun(x3:Option Nat)=>
 L.call Pr z1q [.map x3] rL fun(x4:Sl)=>
 L.loop (Y:=Int×Unit) (0,()) fun y5 again6=>
 L.ite (decide (y5.1<((x4.len:Nat):Int))) (
  L.join (Y:=Unit) (fun k7=>
   L.idx x4.a y5.1 x4.len 1 fun a9=>
   L.load eS6 a9 fun(x10:ByteArray)=>
   L.nonnil p0 fun a11=>
   L.load (.one (.map)) (a11.add 0) fun(x12:Option Nat)=>
   L.semR Pr (.one (.agg lf4)) (Instr.lookup z0m (.map x12) (.string x10) false) fun(x13:pt14)=>
   L.new [.string s_,.int .i64 0,.string s_,.int .i64 0,.int .i64 0,.int .i64 0,.int .i64 0,.int .i64 0] z0j fun b14=>
   L.store (⟨b14,0,none⟩) [.string x13.1,.int .i64 x13.2.1,.string x13.2.2.1,.int .i64 x13.2.2.2.1,.int .i64 x13.2.2.2.2.1,.int .i64 x13.2.2.2.2.2.1,.int .i64 x13.2.2.2.2.2.2.1,.int .i64 x13.2.2.2.2.2.2.2.1]<|
   L.load eS6 ((Ad6 b14 2).add 0) fun(x15:ByteArray)=>
   L.ite (x15.toList == p1.toList) (
    L.load eI6 (Ad6 b14 1) fun(x16:Int)=>
    L.load eI6 (Ad6 b1 1) fun(x17:Int)=>
    L.ite (decide (x16>x17)) (
     L.callV Pr (.func p2.fn p2.fs p2.cs) [.string x10] rB fun(x18:Bool)=>
     L.ite x18 (
      L.load (.agg lf4) (⟨b14,0,none⟩) fun(x19:pt14)=>
      L.store (⟨b1,0,none⟩) [.string x19.1,.int .i64 x19.2.1,.string x19.2.2.1,.int .i64 x19.2.2.2.1,.int .i64 x19.2.2.2.2.1,.int .i64 x19.2.2.2.2.2.1,.int .i64 x19.2.2.2.2.2.2.1,.int .i64 x19.2.2.2.2.2.2.2.1]<|
      k7 (()))<|
     k7 (()))<|
    k7 (()))<|
   k7 (())) fun z8=>
  again6 (IntKind.wrap .i64 (y5.1+1),()))<|
 L.load eS6 (Ad6 b1 0) fun(x20:ByteArray)=>
 K (.string x20)
theorem zc8(p0:Option Addr)(p1:ByteArray)(p2:FV)(h:z7X p0 p1 p2 K w):CV z3K [.v (.pointer p0),.v (.string p1),.v (.func p2.fn p2.fs p2.cs)] K w:=C_of Tryz.f287 zcm _ h
def z6U(p0:ByteArray)(K:Value→PT):PT:=
 K (.bool true)
theorem zaZ(p0:ByteArray)(h:z6U p0 K w):CV z3m [.v (.string p0)] K w:=C_of Tryz.f288 .auto _ h
theorem zaR:Enters Pr z3m:=z0p (by kernel_rfl)
def z4O:Ann:=(.seq .auto (.one [] (.seq .auto (.seq (.cond .auto .auto) .auto none) none)) none)
def z2y(p0:FV)(c0:Addr)(K:Value→PT):PT:=
 L.load (.one (.map)) c0 fun(x1:Option Nat)=>
 L.sem Pr (.one (.one .ptr)) (Instr.range z0M (.map x1)) fun(it2:Option Addr)=>
 L.loop (Y:=Unit) (()) fun y3 again4=>
 L.next Pr [eS6,eI6] (Instr.next (.pointer it2) false T_) (
  K (.tuple #[])) fun(x5:ByteArray×Int×Unit)=>
 L.sem Pr (.tup [eS6,eI6]) (Instr.entry (.pointer it2)) fun(x6:ByteArray×Int×Unit)=>
 L.callV Pr (.func p0.fn p0.fs p0.cs) [.string x6.1] rB fun(x7:Bool)=>
 L.ite (!x7) (
  K (.tuple #[]))<|
 again4 (())
theorem z4N(p0:FV)(c0:Addr)(h:z2y p0 c0 K w):CV z0z [.v (.func p0.fn p0.fs p0.cs),.v (.pointer (some c0))] K w:=C_of Tryz.f289 z4O _ h
theorem z4M:Enters Pr z0z:=z0p (by kernel_rfl)
def z3D:Ann:=(.seq .auto (.one [] (.seq .auto (.seq (.cond .auto .auto) .auto none) none)) none)
def z1P(p0:FV)(c0:Addr)(K:Value→PT):PT:=
 L.load (.one (.map)) c0 fun(x1:Option Nat)=>
 L.sem Pr (.one (.one .ptr)) (Instr.range z0s (.map x1)) fun(it2:Option Addr)=>
 L.loop (Y:=Unit) (()) fun y3 again4=>
 L.next Pr [eS6,eS6] (Instr.next (.pointer it2) false T_) (
  K (.tuple #[])) fun(x5:ByteArray×ByteArray×Unit)=>
 L.sem Pr (.tup [eS6,eS6]) (Instr.entry (.pointer it2)) fun(x6:ByteArray×ByteArray×Unit)=>
 L.callV Pr (.func p0.fn p0.fs p0.cs) [.string x6.1] rB fun(x7:Bool)=>
 L.ite (!x7) (
  K (.tuple #[]))<|
 again4 (())
theorem z3B(p0:FV)(c0:Addr)(h:z1P p0 c0 K w):CV z0n [.v (.func p0.fn p0.fs p0.cs),.v (.pointer (some c0))] K w:=C_of Tryz.f290 z3D _ h
theorem z3z:Enters Pr z0n:=z0p (by kernel_rfl)
def z54:Ann:=(.seq .auto (.seq (.seq .auto (.one [(8,(.one (.int .i64)))] .auto) none) .auto none) none)
def z2E(p0:Sl)(p1:FV)(K:Value→PT):PT:=
 L.loop (Y:=Int×Unit) (0,()) fun y1 again2=>
 L.ite (decide (y1.1<((p0.len:Nat):Int))) (
  L.idx p0.a y1.1 p0.len 2 fun a3=>
  L.load (.agg [.str,.int .i64]) a3 fun(x4:ByteArray×Int×Unit)=>
  L.callV Pr (.func p1.fn p1.fs p1.cs) [.agg #[.string x4.1,.int .i64 x4.2.1]] rB fun(x5:Bool)=>
  L.ite x5 (
   K (.int .i64 y1.1))<|
  again2 (IntKind.wrap .i64 (y1.1+1),()))<|
 K (.int .i64 (-1))
theorem z50(p0:Sl)(p1:FV)(h:z2E p0 p1 K w):CV z2B [.v (.slice p0.a p0.len p0.cap),.v (.func p1.fn p1.fs p1.cs)] K w:=C_of Tryz.f292 z54 _ h
def zaJ(p0:HT [.str,.int .i64])(c0:Addr)(K:Value→PT):PT:=
 L.new [.string p0.1,.int .i64 p0.2.1] z0v fun b1=>
 L.load eS6 (Ad6 b1 0) fun(x2:ByteArray)=>
 L.load eS6 c0 fun(x3:ByteArray)=>
 K (.bool (x2.toList == x3.toList))
theorem zgc(p0:HT [.str,.int .i64])(c0:Addr)(h:zaJ p0 c0 K w):CV z64 [.ag [.string p0.1,.int .i64 p0.2.1],.v (.pointer (some c0))] K w:=C_of Tryz.f293 .auto _ h
theorem zg8:Enters Pr z64:=z0p (by kernel_rfl)
def z8r:Ann:=(.seq .auto (.seq (.seq .auto (.seq .auto .auto (some [(7,(.one (.int .i64)))])) none) .auto none) none)
def z57(p0:Sl)(p1:FV)(K:Value→PT):PT:=
 L.new [Sv6 p0] z0Y fun b1=>
 L.range Pr none (.func p1.fn p1.fs p1.cs) [eI6] (fun l2(y3:Int×Unit) R4=>
  L.begin Pr l2<|
  L.load eL6 (⟨b1,0,none⟩) fun(x7:Sl)=>
  L.new [.int .i64 y3.1] z0g fun b8=>
  L.sem Pr (.one (.one .slice)) (Builtin.append_ #[z0Y,z0Y] z0Y #[Sv6 x7,.slice (some ⟨b8,0,none⟩) 1 1]) fun(s9:Sl)=>
  L.store (⟨b1,0,none⟩) [Sv6 s9]<|
  L.endRound Pr l2 none R4) fun d5 j6=>
 L.jump j6 (
  L.load eL6 (⟨b1,0,none⟩) fun(x10:Sl)=>
  L.unmark Pr (d5++[])<|
  K (.slice x10.a x10.len x10.cap)) (
  L.unmark Pr (d5++[])<|
  K (.slice none 0 0)) []
theorem z8l(p0:Sl)(p1:FV)(h:z57 p0 p1 K w):CV z3e [.v (.slice p0.a p0.len p0.cap),.v (.func p1.fn p1.fs p1.cs)] K w:=C_of Tryz.f300 z8r _ h
def z5K:Ann:=(.seq .auto (.seq .auto (.seq (.one [(7,(.one (.int .i64))),(8,(.one (.int .i64)))] .auto) (.seq .auto (.one [(6,(.one (.int .i64)))] (.seq .auto (.seq .auto (.seq (.one [(7,(.one (.int .i64))),(8,(.one (.int .i64)))] .auto) (.seq .auto .auto (some [])) none) none) none)) none) none) none) none)
def z1K(p0:Sl)(p1:Int)(p2:FV)(K:Value→PT):PT:=
 L.loop (Y:=Int×Int×Unit) (0,20,()) fun y1 again2=>
 L.ite (decide (y1.2.1≤p1)) (
  L.call Pr z0S [Sv6 p0,.int .i64 y1.1,.int .i64 y1.2.1,.func p2.fn p2.fs p2.cs] (.tup []) fun(x3:Unit)=>
  again2 (y1.2.1,IntKind.wrap .i64 (y1.2.1+20),()))<|
 L.call Pr z0S [Sv6 p0,.int .i64 y1.1,.int .i64 p1,.func p2.fn p2.fs p2.cs] (.tup []) fun(x4:Unit)=>
 L.loop (Y:=Int×Unit) (20,()) fun y5 again6=>
 L.ite (decide (y5.1<p1)) (
  L.loop (Y:=Int×Int×Unit) (0,IntKind.wrap .i64 (2*y5.1),()) fun y7 again8=>
  L.ite (decide (y7.2.1≤p1)) (
   L.call Pr z0c [Sv6 p0,.int .i64 y7.1,.int .i64 (IntKind.wrap .i64 (y7.1+y5.1)),.int .i64 y7.2.1,.func p2.fn p2.fs p2.cs] (.tup []) fun(x9:Unit)=>
   again8 (y7.2.1,IntKind.wrap .i64 (y7.2.1+(IntKind.wrap .i64 (2*y5.1))),()))<|
  L.join (Y:=Unit) (fun k10=>
   L.ite (decide ((IntKind.wrap .i64 (y7.1+y5.1))<p1)) (
    L.call Pr z0c [Sv6 p0,.int .i64 y7.1,.int .i64 (IntKind.wrap .i64 (y7.1+y5.1)),.int .i64 p1,.func p2.fn p2.fs p2.cs] (.tup []) fun(x12:Unit)=>
    k10 (()))<|
   k10 (())) fun z11=>
  again6 (IntKind.wrap .i64 (y5.1*2),()))<|
 K (.tuple #[])
theorem z33(p0:Sl)(p1:Int)(p2:FV)(h:z1K p0 p1 p2 K w):CV z2U [.v (.slice p0.a p0.len p0.cap),.v (.int .i64 p1),.v (.func p2.fn p2.fs p2.cs)] K w:=C_of Tryz.f314 z5K _ h
def z9g(p0:Option Addr)(p1:Int)(K:Value→PT):PT:=
 L.nonnil p0 fun a1=>
 L.load (.one (.map)) (a1.add 0) fun(x2:Option Nat)=>
 L.semR Pr rB (Instr.lookup z2Q (.map x2) (.int .i64 p1) false) fun(x3:Bool)=>
 L.ite x3 (
  K (.int .i64 5))<|
 L.draw<|
 L.nonnil p0 fun a4=>
 L.load (.one (.map)) (a4.add 0) fun(x5:Option Nat)=>
 L.semR Pr rI (Builtin.len_ #[z2Q] z0g #[.map x5]) fun(x6:Int)=>
 L.nonnil p0 fun a7=>
 L.load eI6 (a7.add 1) fun(x8:Int)=>
 L.ite (decide (x6≥x8)) (
  K (.int .i64 8))<|
 L.nonnil p0 fun a9=>
 L.load (.one (.map)) (a9.add 0) fun(x10:Option Nat)=>
 L.semU Pr (Instr.mapUpdate z2Q (.map x10) (.int .i64 p1) (.bool true))<|
 K (.int .i64 0)
theorem zdX(p0:Option Addr)(p1:Int)(h:z9g p0 p1 K w):CV z95 [.v (.pointer p0),.v (.int .i64 p1)] K w:=C_of Tryz.f315 .auto _ h
def z6o:Ann:=(.seq .auto (.seq (.seq .auto (.seq .auto .auto (some [(7,(.one (.str)))])) none) .auto none) none)
def z3v(p0:Sl)(p1:FV)(K:Value→PT):PT:=
 L.new [Sv6 p0] z08 fun b1=>
 L.range Pr none (.func p1.fn p1.fs p1.cs) [eS6] (fun l2(y3:ByteArray×Unit) R4=>
  L.begin Pr l2<|
  L.load eL6 (⟨b1,0,none⟩) fun(x7:Sl)=>
  L.new [.string y3.1] z01 fun b8=>
  L.sem Pr (.one (.one .slice)) (Builtin.append_ #[z08,z08] z08 #[Sv6 x7,.slice (some ⟨b8,0,none⟩) 1 1]) fun(s9:Sl)=>
  L.store (⟨b1,0,none⟩) [Sv6 s9]<|
  L.endRound Pr l2 none R4) fun d5 j6=>
 L.jump j6 (
  L.load eL6 (⟨b1,0,none⟩) fun(x10:Sl)=>
  L.unmark Pr (d5++[])<|
  K (.slice x10.a x10.len x10.cap)) (
  L.unmark Pr (d5++[])<|
  K (.slice none 0 0)) []
theorem z6n(p0:Sl)(p1:FV)(h:z3v p0 p1 K w):CV z2f [.v (.slice p0.a p0.len p0.cap),.v (.func p1.fn p1.fs p1.cs)] K w:=C_of Tryz.f316 z6o _ h
def z2u:Ann:=(.seq .auto (.one [] (.seq .auto (.seq (.cond .auto .auto) .auto none) none)) none)
def z1d(p0:FV)(c0:Addr)(K:Value→PT):PT:=
 L.load (.one (.map)) c0 fun(x1:Option Nat)=>
 L.sem Pr (.one (.one .ptr)) (Instr.range z0m (.map x1)) fun(it2:Option Addr)=>
 L.loop (Y:=Unit) (()) fun y3 again4=>
 L.next Pr [eS6,(.agg lf4)] (Instr.next (.pointer it2) false T_) (
  K (.tuple #[])) fun(x5:pt23)=>
 L.sem Pr (.tup [eS6,(.agg lf4)]) (Instr.entry (.pointer it2)) fun(x6:pt23)=>
 L.callV Pr (.func p0.fn p0.fs p0.cs) [.string x6.1] rB fun(x7:Bool)=>
 L.ite (!x7) (
  K (.tuple #[]))<|
 again4 (())
theorem z2t(p0:FV)(c0:Addr)(h:z1d p0 c0 K w):CV z0a [.v (.func p0.fn p0.fs p0.cs),.v (.pointer (some c0))] K w:=C_of Tryz.f318 z2u _ h
theorem z2s:Enters Pr z0a:=z0p (by kernel_rfl)
def z4a:Ann:=(.seq .auto (.one [(8,(.one (.int .i64)))] (.seq .auto (.seq (.seq .auto (.one [(9,(.one (.int .i64)))] (.seq (.seq .auto (.cond .auto .auto) none) .auto none)) none) .auto (some [])) none)) none)
def z2d(p0:Sl)(p1 p2:Int)(p3:FV)(K:Value→PT):PT:=
 L.loop (Y:=Int×Unit) (IntKind.wrap .i64 (p1+1),()) fun y1 again2=>
 L.ite (decide (y1.1<p2)) (
  L.join (Y:=Unit) (fun k3=>
   L.loop (Y:=Int×Unit) (y1.1,()) fun y5 again6=>
   L.draw<|
   L.ite (decide (y5.1>p1)) (
    L.idx p0.a y5.1 p0.len 2 fun a7=>
    L.load (.agg [.int .i64,.int .i64]) a7 fun(x8:Int×Int×Unit)=>
    L.idx p0.a (IntKind.wrap .i64 (y5.1-1)) p0.len 2 fun a9=>
    L.load (.agg [.int .i64,.int .i64]) a9 fun(x10:Int×Int×Unit)=>
    L.callV Pr (.func p3.fn p3.fs p3.cs) [.agg #[.int .i64 x8.1,.int .i64 x8.2.1],.agg #[.int .i64 x10.1,.int .i64 x10.2.1]] rI fun(x11:Int)=>
    L.ite (decide (x11<0)) (
     L.draw<|
     L.idx p0.a (IntKind.wrap .i64 (y5.1-1)) p0.len 2 fun a12=>
     L.load (.agg [.int .i64,.int .i64]) a12 fun(x13:Int×Int×Unit)=>
     L.idx p0.a y5.1 p0.len 2 fun a14=>
     L.load (.agg [.int .i64,.int .i64]) a14 fun(x15:Int×Int×Unit)=>
     L.idx p0.a y5.1 p0.len 2 fun a16=>
     L.store a16 [.int .i64 x13.1,.int .i64 x13.2.1]<|
     L.idx p0.a (IntKind.wrap .i64 (y5.1-1)) p0.len 2 fun a17=>
     L.store a17 [.int .i64 x15.1,.int .i64 x15.2.1]<|
     again6 (IntKind.wrap .i64 (y5.1-1),()))<|
    k3 (()))<|
   k3 (())) fun z4=>
  again2 (IntKind.wrap .i64 (y1.1+1),()))<|
 K (.tuple #[])
theorem z49(p0:Sl)(p1 p2:Int)(p3:FV)(h:z2d p0 p1 p2 p3 K w):CV z0S [.v (.slice p0.a p0.len p0.cap),.v (.int .i64 p1),.v (.int .i64 p2),.v (.func p3.fn p3.fs p3.cs)] K w:=C_of Tryz.f325 z4a _ h
def z5l:Ann:=(.seq (.seq .auto (.cond (.seq .auto (.seq .auto (.seq (.one [(10,(.one (.int .i64))),(11,(.one (.int .i64)))] .auto) (.seq (.seq .auto (.one [(13,(.one (.int .i64)))] .auto) none) .auto none) none) none) none) .auto) none) (.seq (.seq .auto (.cond (.seq .auto (.seq .auto (.seq (.one [(14,(.one (.int .i64))),(15,(.one (.int .i64)))] .auto) (.seq (.seq .auto (.one [(17,(.one (.int .i64)))] .auto) none) .auto none) none) none) none) .auto) none) (.seq .auto (.seq .auto (.seq .auto (.seq .auto (.seq .auto (.seq (.one [(20,(.one (.int .i64))),(21,(.one (.int .i64)))] .auto) (.seq .auto (.seq (.seq .auto (.cond .auto .auto) none) (.seq (.seq .auto (.cond .auto .auto) none) (.seq .auto (.cond .auto .auto) none) (some [])) (some [])) none) none) none) (some [(20,(.one (.int .i64))),(21,(.one (.int .i64)))])) none) none) none) none) none)
def z1a(p0:Sl)(p1 p2 p3:Int)(p4:FV)(K:Value→PT):PT:=
 L.ite ((IntKind.wrap .i64 (p2-p1)) == 1) (
  L.loop (Y:=Int×Int×Unit) (p2,p3,()) fun y1 again2=>
  L.ite (decide (y1.1<y1.2.1)) (
   L.guard ((0:Int)≤1)<|
   L.draw<|
   L.idx p0.a (IntKind.wrap .i64 (Int.fdiv (IntKind.wrap .u64 (IntKind.wrap .i64 (y1.1+y1.2.1))) (2 ^ (min (Int.toNat 1) 64)))) p0.len 2 fun a3=>
   L.load (.agg [.int .i64,.int .i64]) a3 fun(x4:Int×Int×Unit)=>
   L.idx p0.a p1 p0.len 2 fun a5=>
   L.load (.agg [.int .i64,.int .i64]) a5 fun(x6:Int×Int×Unit)=>
   L.callV Pr (.func p4.fn p4.fs p4.cs) [.agg #[.int .i64 x4.1,.int .i64 x4.2.1],.agg #[.int .i64 x6.1,.int .i64 x6.2.1]] rI fun(x7:Int)=>
   L.ite (decide (x7<0)) (
    again2 (IntKind.wrap .i64 ((IntKind.wrap .i64 (Int.fdiv (IntKind.wrap .u64 (IntKind.wrap .i64 (y1.1+y1.2.1))) (2 ^ (min (Int.toNat 1) 64))))+1),y1.2.1,()))<|
   again2 (y1.1,IntKind.wrap .i64 (Int.fdiv (IntKind.wrap .u64 (IntKind.wrap .i64 (y1.1+y1.2.1))) (2 ^ (min (Int.toNat 1) 64))),()))<|
  L.loop (Y:=Int×Unit) (p1,()) fun y8 again9=>
  L.ite (decide (y8.1<(IntKind.wrap .i64 (y1.1-1)))) (
   L.draw<|
   L.idx p0.a (IntKind.wrap .i64 (y8.1+1)) p0.len 2 fun a10=>
   L.load (.agg [.int .i64,.int .i64]) a10 fun(x11:Int×Int×Unit)=>
   L.idx p0.a y8.1 p0.len 2 fun a12=>
   L.load (.agg [.int .i64,.int .i64]) a12 fun(x13:Int×Int×Unit)=>
   L.idx p0.a y8.1 p0.len 2 fun a14=>
   L.store a14 [.int .i64 x11.1,.int .i64 x11.2.1]<|
   L.idx p0.a (IntKind.wrap .i64 (y8.1+1)) p0.len 2 fun a15=>
   L.store a15 [.int .i64 x13.1,.int .i64 x13.2.1]<|
   again9 (IntKind.wrap .i64 (y8.1+1),()))<|
  K (.tuple #[]))<|
 L.ite ((IntKind.wrap .i64 (p3-p2)) == 1) (
  L.loop (Y:=Int×Int×Unit) (p1,p2,()) fun y16 again17=>
  L.ite (decide (y16.1<y16.2.1)) (
   L.guard ((0:Int)≤1)<|
   L.draw<|
   L.idx p0.a p2 p0.len 2 fun a18=>
   L.load (.agg [.int .i64,.int .i64]) a18 fun(x19:Int×Int×Unit)=>
   L.idx p0.a (IntKind.wrap .i64 (Int.fdiv (IntKind.wrap .u64 (IntKind.wrap .i64 (y16.1+y16.2.1))) (2 ^ (min (Int.toNat 1) 64)))) p0.len 2 fun a20=>
   L.load (.agg [.int .i64,.int .i64]) a20 fun(x21:Int×Int×Unit)=>
   L.callV Pr (.func p4.fn p4.fs p4.cs) [.agg #[.int .i64 x19.1,.int .i64 x19.2.1],.agg #[.int .i64 x21.1,.int .i64 x21.2.1]] rI fun(x22:Int)=>
   L.ite (!(decide (x22<0))) (
    again17 (IntKind.wrap .i64 ((IntKind.wrap .i64 (Int.fdiv (IntKind.wrap .u64 (IntKind.wrap .i64 (y16.1+y16.2.1))) (2 ^ (min (Int.toNat 1) 64))))+1),y16.2.1,()))<|
   again17 (y16.1,IntKind.wrap .i64 (Int.fdiv (IntKind.wrap .u64 (IntKind.wrap .i64 (y16.1+y16.2.1))) (2 ^ (min (Int.toNat 1) 64))),()))<|
  L.loop (Y:=Int×Unit) (p2,()) fun y23 again24=>
  L.ite (decide (y23.1>y16.1)) (
   L.draw<|
   L.idx p0.a (IntKind.wrap .i64 (y23.1-1)) p0.len 2 fun a25=>
   L.load (.agg [.int .i64,.int .i64]) a25 fun(x26:Int×Int×Unit)=>
   L.idx p0.a y23.1 p0.len 2 fun a27=>
   L.load (.agg [.int .i64,.int .i64]) a27 fun(x28:Int×Int×Unit)=>
   L.idx p0.a y23.1 p0.len 2 fun a29=>
   L.store a29 [.int .i64 x26.1,.int .i64 x26.2.1]<|
   L.idx p0.a (IntKind.wrap .i64 (y23.1-1)) p0.len 2 fun a30=>
   L.store a30 [.int .i64 x28.1,.int .i64 x28.2.1]<|
   again24 (IntKind.wrap .i64 (y23.1-1),()))<|
  K (.tuple #[]))<|
 L.guard ((0:Int)≤1)<|
 L.join (Y:=Int×Int×Unit) (fun k31=>
  L.ite (decide (p2>(IntKind.wrap .i64 (Int.fdiv (IntKind.wrap .u64 (IntKind.wrap .i64 (p1+p3))) (2 ^ (min (Int.toNat 1) 64)))))) (
   k31 (IntKind.wrap .i64 ((IntKind.wrap .i64 ((IntKind.wrap .i64 (Int.fdiv (IntKind.wrap .u64 (IntKind.wrap .i64 (p1+p3))) (2 ^ (min (Int.toNat 1) 64))))+p2))-p3),IntKind.wrap .i64 (Int.fdiv (IntKind.wrap .u64 (IntKind.wrap .i64 (p1+p3))) (2 ^ (min (Int.toNat 1) 64))),()))<|
  k31 (p1,p2,())) fun z32=>
 L.loop (Y:=Int×Int×Unit) (z32.1,z32.2.1,()) fun y33 again34=>
 L.ite (decide (y33.1<y33.2.1)) (
  L.guard ((0:Int)≤1)<|
  L.draw<|
  L.idx p0.a (IntKind.wrap .i64 ((IntKind.wrap .i64 ((IntKind.wrap .i64 ((IntKind.wrap .i64 (Int.fdiv (IntKind.wrap .u64 (IntKind.wrap .i64 (p1+p3))) (2 ^ (min (Int.toNat 1) 64))))+p2))-1))-(IntKind.wrap .i64 (Int.fdiv (IntKind.wrap .u64 (IntKind.wrap .i64 (y33.1+y33.2.1))) (2 ^ (min (Int.toNat 1) 64)))))) p0.len 2 fun a35=>
  L.load (.agg [.int .i64,.int .i64]) a35 fun(x36:Int×Int×Unit)=>
  L.idx p0.a (IntKind.wrap .i64 (Int.fdiv (IntKind.wrap .u64 (IntKind.wrap .i64 (y33.1+y33.2.1))) (2 ^ (min (Int.toNat 1) 64)))) p0.len 2 fun a37=>
  L.load (.agg [.int .i64,.int .i64]) a37 fun(x38:Int×Int×Unit)=>
  L.callV Pr (.func p4.fn p4.fs p4.cs) [.agg #[.int .i64 x36.1,.int .i64 x36.2.1],.agg #[.int .i64 x38.1,.int .i64 x38.2.1]] rI fun(x39:Int)=>
  L.ite (!(decide (x39<0))) (
   again34 (IntKind.wrap .i64 ((IntKind.wrap .i64 (Int.fdiv (IntKind.wrap .u64 (IntKind.wrap .i64 (y33.1+y33.2.1))) (2 ^ (min (Int.toNat 1) 64))))+1),y33.2.1,()))<|
  again34 (y33.1,IntKind.wrap .i64 (Int.fdiv (IntKind.wrap .u64 (IntKind.wrap .i64 (y33.1+y33.2.1))) (2 ^ (min (Int.toNat 1) 64))),()))<|
 L.join (Y:=Unit) (fun k40=>
  L.ite (decide (y33.1<p2)) (
   L.ite (decide (p2<(IntKind.wrap .i64 ((IntKind.wrap .i64 ((IntKind.wrap .i64 (Int.fdiv (IntKind.wrap .u64 (IntKind.wrap .i64 (p1+p3))) (2 ^ (min (Int.toNat 1) 64))))+p2))-y33.1)))) (
    L.call Pr z1I [Sv6 p0,.int .i64 y33.1,.int .i64 p2,.int .i64 (IntKind.wrap .i64 ((IntKind.wrap .i64 ((IntKind.wrap .i64 (Int.fdiv (IntKind.wrap .u64 (IntKind.wrap .i64 (p1+p3))) (2 ^ (min (Int.toNat 1) 64))))+p2))-y33.1)),.func p4.fn p4.fs p4.cs] (.tup []) fun(x42:Unit)=>
    k40 (()))<|
   k40 (()))<|
  k40 (())) fun z41=>
 L.join (Y:=Unit) (fun k43=>
  L.ite (decide (p1<y33.1)) (
   L.ite (decide (y33.1<(IntKind.wrap .i64 (Int.fdiv (IntKind.wrap .u64 (IntKind.wrap .i64 (p1+p3))) (2 ^ (min (Int.toNat 1) 64)))))) (
    L.call Pr z0c [Sv6 p0,.int .i64 p1,.int .i64 y33.1,.int .i64 (IntKind.wrap .i64 (Int.fdiv (IntKind.wrap .u64 (IntKind.wrap .i64 (p1+p3))) (2 ^ (min (Int.toNat 1) 64)))),.func p4.fn p4.fs p4.cs] (.tup []) fun(x45:Unit)=>
    k43 (()))<|
   k43 (()))<|
  k43 (())) fun z44=>
 L.ite (decide ((IntKind.wrap .i64 (Int.fdiv (IntKind.wrap .u64 (IntKind.wrap .i64 (p1+p3))) (2 ^ (min (Int.toNat 1) 64))))<(IntKind.wrap .i64 ((IntKind.wrap .i64 ((IntKind.wrap .i64 (Int.fdiv (IntKind.wrap .u64 (IntKind.wrap .i64 (p1+p3))) (2 ^ (min (Int.toNat 1) 64))))+p2))-y33.1)))) (
  L.ite (decide ((IntKind.wrap .i64 ((IntKind.wrap .i64 ((IntKind.wrap .i64 (Int.fdiv (IntKind.wrap .u64 (IntKind.wrap .i64 (p1+p3))) (2 ^ (min (Int.toNat 1) 64))))+p2))-y33.1))<p3)) (
   L.call Pr z0c [Sv6 p0,.int .i64 (IntKind.wrap .i64 (Int.fdiv (IntKind.wrap .u64 (IntKind.wrap .i64 (p1+p3))) (2 ^ (min (Int.toNat 1) 64)))),.int .i64 (IntKind.wrap .i64 ((IntKind.wrap .i64 ((IntKind.wrap .i64 (Int.fdiv (IntKind.wrap .u64 (IntKind.wrap .i64 (p1+p3))) (2 ^ (min (Int.toNat 1) 64))))+p2))-y33.1)),.int .i64 p3,.func p4.fn p4.fs p4.cs] (.tup []) fun(x46:Unit)=>
   K (.tuple #[]))<|
  K (.tuple #[]))<|
 K (.tuple #[])
theorem z1B(p0:Sl)(p1 p2 p3:Int)(p4:FV)(h:z1a p0 p1 p2 p3 p4 K w):CV z0c [.v (.slice p0.a p0.len p0.cap),.v (.int .i64 p1),.v (.int .i64 p2),.v (.int .i64 p3),.v (.func p4.fn p4.fs p4.cs)] K w:=C_of Tryz.f326 z5l _ h
def z5L:Ann:=(.seq .auto (.seq .auto (.seq (.one [(10,(.one (.int .i64))),(11,(.one (.int .i64)))] .auto) .auto none) none) none)
def z2Z(p0:Sl)(p1 p2 p3:Int)(p4:FV)(K:Value→PT):PT:=
 L.loop (Y:=Int×Int×Unit) (IntKind.wrap .i64 (p2-p1),IntKind.wrap .i64 (p3-p2),()) fun y1 again2=>
 L.ite (y1.1 != y1.2.1) (
  L.ite (decide (y1.1>y1.2.1)) (
   L.call Pr z0O [Sv6 p0,.int .i64 (IntKind.wrap .i64 (p2-y1.1)),.int .i64 p2,.int .i64 y1.2.1,.func p4.fn p4.fs p4.cs] (.tup []) fun(x3:Unit)=>
   again2 (IntKind.wrap .i64 (y1.1-y1.2.1),y1.2.1,()))<|
  L.call Pr z0O [Sv6 p0,.int .i64 (IntKind.wrap .i64 (p2-y1.1)),.int .i64 (IntKind.wrap .i64 ((IntKind.wrap .i64 (p2+y1.2.1))-y1.1)),.int .i64 y1.1,.func p4.fn p4.fs p4.cs] (.tup []) fun(x4:Unit)=>
  again2 (y1.1,IntKind.wrap .i64 (y1.2.1-y1.1),()))<|
 L.call Pr z0O [Sv6 p0,.int .i64 (IntKind.wrap .i64 (p2-y1.1)),.int .i64 p2,.int .i64 y1.1,.func p4.fn p4.fs p4.cs] (.tup []) fun(x5:Unit)=>
 K (.tuple #[])
theorem z5J(p0:Sl)(p1 p2 p3:Int)(p4:FV)(h:z2Z p0 p1 p2 p3 p4 K w):CV z1I [.v (.slice p0.a p0.len p0.cap),.v (.int .i64 p1),.v (.int .i64 p2),.v (.int .i64 p3),.v (.func p4.fn p4.fs p4.cs)] K w:=C_of Tryz.f338 z5L _ h
def z52:Ann:=(.seq .auto (.one [(10,(.one (.int .i64)))] .auto) none)
def z2D(p0:Sl)(p1 p2 p3:Int)(p4:FV)(K:Value→PT):PT:=
 L.loop (Y:=Int×Unit) (0,()) fun y1 again2=>
 L.ite (decide (y1.1<p3)) (
  L.draw<|
  L.idx p0.a (IntKind.wrap .i64 (p2+y1.1)) p0.len 2 fun a3=>
  L.load (.agg [.int .i64,.int .i64]) a3 fun(x4:Int×Int×Unit)=>
  L.idx p0.a (IntKind.wrap .i64 (p1+y1.1)) p0.len 2 fun a5=>
  L.load (.agg [.int .i64,.int .i64]) a5 fun(x6:Int×Int×Unit)=>
  L.idx p0.a (IntKind.wrap .i64 (p1+y1.1)) p0.len 2 fun a7=>
  L.store a7 [.int .i64 x4.1,.int .i64 x4.2.1]<|
  L.idx p0.a (IntKind.wrap .i64 (p2+y1.1)) p0.len 2 fun a8=>
  L.store a8 [.int .i64 x6.1,.int .i64 x6.2.1]<|
  again2 (IntKind.wrap .i64 (y1.1+1),()))<|
 K (.tuple #[])
theorem z4Z(p0:Sl)(p1 p2 p3:Int)(p4:FV)(h:z2D p0 p1 p2 p3 p4 K w):CV z0O [.v (.slice p0.a p0.len p0.cap),.v (.int .i64 p1),.v (.int .i64 p2),.v (.int .i64 p3),.v (.func p4.fn p4.fs p4.cs)] K w:=C_of Tryz.f343 z52 _ h
end Go.Proofs.YtdcdhcgmeahfmaaGreatDoor
