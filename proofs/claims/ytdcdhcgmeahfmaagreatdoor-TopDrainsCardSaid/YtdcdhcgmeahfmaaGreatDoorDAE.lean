/- What is proved on the way to a statement of the seat, pressed (text AE). No conditions beyond those its theorems state. -/
import Derived.Test.YtdcdhcgmeahfmaaGreatDoorDAD
set_option linter.all false
namespace Go.Proofs.YtdcdhcgmeahfmaaGreatDoor
set_option maxRecDepth 100000
open Go.Dm
variable {K:Value→PT}{w:World}
def zch:Ann:=(.seq .auto (.seq .auto (.seq (.seq .auto (.one [(18,(.one (.int .i64)))] (.seq .auto (.seq .auto (.seq (.seq .auto (.seq .auto (.seq .auto (.cond .auto .auto) none) none) none) .auto (some [])) none) none)) none) .auto none) none) none)
def z80(p0:Option Addr)(p1:ByteArray)(p2:FV)(K:Value→PT):PT:=
 L.new [.string s_,.int .i64 0,.string s_,.int .i64 0,.int .i64 0,.int .i64 0,.int .i64 0,.int .i64 0] z0p fun b1=>
 L.store (⟨b1,0,none⟩) [.string s_,.int .i64 0,.string s_,.int .i64 0,.int .i64 0,.int .i64 0,.int .i64 0,.int .i64 0]<|
 L.nonnil p0 fun a2=>
 L.load (.one (.map)) (a2.add 0) fun(x3:Option Nat)=>
 L.call Pr z1s [.map x3] rL fun(x4:Sl)=>
 L.loop (Y:=Int×Unit) (0,()) fun y5 again6=>
 L.ite (decide (y5.1<((x4.len:Nat):Int))) (
  L.join (Y:=Unit) (fun k7=>
   L.idx x4.a y5.1 x4.len 1 fun a9=>
   L.load eS6 a9 fun(x10:ByteArray)=>
   L.nonnil p0 fun a11=>
   L.load (.one (.map)) (a11.add 0) fun(x12:Option Nat)=>
   L.semR Pr (.one (.agg lf4)) (Instr.lookup z0l (.map x12) (.string x10) false) fun(x13:pt14)=>
   L.new [.string s_,.int .i64 0,.string s_,.int .i64 0,.int .i64 0,.int .i64 0,.int .i64 0,.int .i64 0] z0p fun b14=>
   L.store (⟨b14,0,none⟩) [.string x13.1,.int .i64 x13.2.1,.string x13.2.2.1,.int .i64 x13.2.2.2.1,.int .i64 x13.2.2.2.2.1,.int .i64 x13.2.2.2.2.2.1,.int .i64 x13.2.2.2.2.2.2.1,.int .i64 x13.2.2.2.2.2.2.2.1]<|
   L.load eS6 ((Ad6 b14 2).add 0) fun(x15:ByteArray)=>
   L.ite (x15.toList == p1.toList) (
    L.load eI6 (Ad6 b14 1) fun(x16:Int)=>
    L.load eI6 (Ad6 b1 1) fun(x17:Int)=>
    L.ite (decide (x16>x17)) (
     L.callV Pr (.func p2.fn p2.fs p2.cs) [.string x10] rB fun(x18:Bool)=>
     L.ite x18 (
      L.load (.agg lf4) (⟨b14,0,none⟩) fun(x19:pt14)=>
      L.store (⟨b1,0,none⟩) [.string x19.1,.int .i64 x19.2.1,.string x19.2.2.1,.int .i64 x19.2.2.2.1,.int .i64 x19.2.2.2.2.1,.int .i64 x19.2.2.2.2.2.1,.int .i64 x19.2.2.2.2.2.2.1,.int .i64 x19.2.2.2.2.2.2.2.1]<|
      k7 (()))<|
     k7 (()))<|
    k7 (()))<|
   k7 (())) fun z8=>
  again6 (IntKind.wrap .i64 (y5.1+1),()))<|
 L.load eS6 (Ad6 b1 0) fun(x20:ByteArray)=>
 K (.string x20)
theorem zc6(p0:Option Addr)(p1:ByteArray)(p2:FV)(h:z80 p0 p1 p2 K w):CV z3J [.v (.pointer p0),.v (.string p1),.v (.func p2.fn p2.fs p2.cs)] K w:=C_of Tryz.f287 zch _ h
def z6R(p0:ByteArray)(K:Value→PT):PT:=
 K (.bool true)
theorem zaV(p0:ByteArray)(h:z6R p0 K w):CV z3j [.v (.string p0)] K w:=C_of Tryz.f288 .auto _ h
theorem zaO:Enters Pr z3j:=z0j (by kernel_rfl)
def z4Q:Ann:=(.seq .auto (.one [] (.seq .auto (.seq (.cond .auto .auto) .auto none) none)) none)
def z2A(p0:FV)(c0:Addr)(K:Value→PT):PT:=
 L.load (.one (.map)) c0 fun(x1:Option Nat)=>
 L.sem Pr (.one (.one .ptr)) (Instr.range z0L (.map x1)) fun(it2:Option Addr)=>
 L.loop (Y:=Unit) (()) fun y3 again4=>
 L.next Pr [eS6,eI6] (Instr.next (.pointer it2) false T_) (
  K (.tuple #[])) fun(x5:ByteArray×Int×Unit)=>
 L.sem Pr (.tup [eS6,eI6]) (Instr.entry (.pointer it2)) fun(x6:ByteArray×Int×Unit)=>
 L.callV Pr (.func p0.fn p0.fs p0.cs) [.string x6.1] rB fun(x7:Bool)=>
 L.ite (!x7) (
  K (.tuple #[]))<|
 again4 (())
theorem z4P(p0:FV)(c0:Addr)(h:z2A p0 c0 K w):CV z0A [.v (.func p0.fn p0.fs p0.cs),.v (.pointer (some c0))] K w:=C_of Tryz.f289 z4Q _ h
theorem z4O:Enters Pr z0A:=z0j (by kernel_rfl)
def z3D:Ann:=(.seq .auto (.one [] (.seq .auto (.seq (.cond .auto .auto) .auto none) none)) none)
def z1R(p0:FV)(c0:Addr)(K:Value→PT):PT:=
 L.load (.one (.map)) c0 fun(x1:Option Nat)=>
 L.sem Pr (.one (.one .ptr)) (Instr.range z0v (.map x1)) fun(it2:Option Addr)=>
 L.loop (Y:=Unit) (()) fun y3 again4=>
 L.next Pr [eS6,eS6] (Instr.next (.pointer it2) false T_) (
  K (.tuple #[])) fun(x5:ByteArray×ByteArray×Unit)=>
 L.sem Pr (.tup [eS6,eS6]) (Instr.entry (.pointer it2)) fun(x6:ByteArray×ByteArray×Unit)=>
 L.callV Pr (.func p0.fn p0.fs p0.cs) [.string x6.1] rB fun(x7:Bool)=>
 L.ite (!x7) (
  K (.tuple #[]))<|
 again4 (())
theorem z3B(p0:FV)(c0:Addr)(h:z1R p0 c0 K w):CV z0n [.v (.func p0.fn p0.fs p0.cs),.v (.pointer (some c0))] K w:=C_of Tryz.f290 z3D _ h
theorem z3z:Enters Pr z0n:=z0j (by kernel_rfl)
def z52:Ann:=(.seq .auto (.seq (.seq .auto (.one [(8,(.one (.int .i64)))] .auto) none) .auto none) none)
def z2G(p0:Sl)(p1:FV)(K:Value→PT):PT:=
 L.loop (Y:=Int×Unit) (0,()) fun y1 again2=>
 L.ite (decide (y1.1<((p0.len:Nat):Int))) (
  L.idx p0.a y1.1 p0.len 2 fun a3=>
  L.load (.agg [.str,.int .i64]) a3 fun(x4:ByteArray×Int×Unit)=>
  L.callV Pr (.func p1.fn p1.fs p1.cs) [.agg #[.string x4.1,.int .i64 x4.2.1]] rB fun(x5:Bool)=>
  L.ite x5 (
   K (.int .i64 y1.1))<|
  again2 (IntKind.wrap .i64 (y1.1+1),()))<|
 K (.int .i64 (-1))
theorem z4Z(p0:Sl)(p1:FV)(h:z2G p0 p1 K w):CV z2D [.v (.slice p0.a p0.len p0.cap),.v (.func p1.fn p1.fs p1.cs)] K w:=C_of Tryz.f292 z52 _ h
def zaH(p0:HT [.str,.int .i64])(c0:Addr)(K:Value→PT):PT:=
 L.new [.string p0.1,.int .i64 p0.2.1] z0m fun b1=>
 L.load eS6 (Ad6 b1 0) fun(x2:ByteArray)=>
 L.load eS6 c0 fun(x3:ByteArray)=>
 K (.bool (x2.toList == x3.toList))
theorem zg7(p0:HT [.str,.int .i64])(c0:Addr)(h:zaH p0 c0 K w):CV z61 [.ag [.string p0.1,.int .i64 p0.2.1],.v (.pointer (some c0))] K w:=C_of Tryz.f293 .auto _ h
theorem zg3:Enters Pr z61:=z0j (by kernel_rfl)
def z8u:Ann:=(.seq .auto (.seq (.seq .auto (.seq .auto .auto (some [(7,(.one (.int .i64)))])) none) .auto none) none)
def z56(p0:Sl)(p1:FV)(K:Value→PT):PT:=
 L.new [Sv6 p0] z1b fun b1=>
 L.range Pr none (.func p1.fn p1.fs p1.cs) [eI6] (fun l2(y3:Int×Unit) R4=>
  L.begin Pr l2<|
  L.load eL6 (⟨b1,0,none⟩) fun(x7:Sl)=>
  L.new [.int .i64 y3.1] z0h fun b8=>
  L.sem Pr (.one (.one .slice)) (Builtin.append_ #[z1b,z1b] z1b #[Sv6 x7,.slice (some ⟨b8,0,none⟩) 1 1]) fun(s9:Sl)=>
  L.store (⟨b1,0,none⟩) [Sv6 s9]<|
  L.endRound Pr l2 none R4) fun d5 j6=>
 L.jump j6 (
  L.load eL6 (⟨b1,0,none⟩) fun(x10:Sl)=>
  L.unmark Pr (d5++[])<|
  K (.slice x10.a x10.len x10.cap)) (
  L.unmark Pr (d5++[])<|
  K (.slice none 0 0)) []
theorem z8p(p0:Sl)(p1:FV)(h:z56 p0 p1 K w):CV z3d [.v (.slice p0.a p0.len p0.cap),.v (.func p1.fn p1.fs p1.cs)] K w:=C_of Tryz.f300 z8u _ h
def zeP:Ann:=(.one [] (.seq .auto (.seq .auto (.seq (.seq .auto (.cond .auto (.seq (.one [(3,(.one (.int .i64)))] .auto) .auto none)) none) .auto (some [(3,(.one (.int .i64)))])) none) none))
def za6(p0:FV)(c0:Addr)(K:Value→PT):PT:=
 L.loop (Y:=Unit) (()) fun y1 again2=>
 L.load eL6 c0 fun(x3:Sl)=>
 L.ite (decide (((x3.len:Nat):Int)>0)) (
  L.join (Y:=Int×Unit) (fun k4=>
   L.load eL6 c0 fun(x6:Sl)=>
   L.ite (decide (((x6.len:Nat):Int)<2)) (
    L.load eL6 c0 fun(x7:Sl)=>
    k4 (((x7.len:Nat):Int),()))<|
   L.join (Y:=Int×Unit) (fun k8=>
    L.draw<|
    L.load eL6 c0 fun(x10:Sl)=>
    L.idx x10.a 0 x10.len 1 fun a11=>
    L.load (.one (.int .u8)) a11 fun(x12:Int)=>
    L.load eL6 c0 fun(x13:Sl)=>
    L.idx x13.a 1 x13.len 1 fun a14=>
    L.load (.one (.int .u8)) a14 fun(x15:Int)=>
    L.load eL6 c0 fun(x16:Sl)=>
    L.alts [(
      L.chk c0 [Sv6 x16]<|
      L.chk a14 [.int .u8 x15]<|
      L.chk c0 [Sv6 x13]<|
      L.guard ((0:Int)≤8)<|
      L.chk c0 [Sv6 x16]<|
      L.chk a11 [.int .u8 x12]<|
      L.chk c0 [Sv6 x10]<|
      k8 (if(IntKind.wrap .i64 (((x16.len:Nat):Int)-2))<(IntKind.wrap .i64 (((BitVec.ofInt 64 (IntKind.wrap .i64 ((IntKind.wrap .i64 x12)*2 ^ (min (Int.toNat 8) 64)))) ||| (BitVec.ofInt 64 (IntKind.wrap .i64 x15))).toNat:Int))then(IntKind.wrap .i64 (((x16.len:Nat):Int)-2))else(IntKind.wrap .i64 (((BitVec.ofInt 64 (IntKind.wrap .i64 ((IntKind.wrap .i64 x12)*2 ^ (min (Int.toNat 8) 64)))) ||| (BitVec.ofInt 64 (IntKind.wrap .i64 x15))).toNat:Int)),())),(
      L.chk c0 [Sv6 x16]<|
      L.chk a11 [.int .u8 x12]<|
      L.chk c0 [Sv6 x10]<|
      L.chk c0 [Sv6 x16]<|
      L.chk a14 [.int .u8 x15]<|
      L.chk c0 [Sv6 x13]<|
      L.guard ((0:Int)≤8)<|
      k8 (if(IntKind.wrap .i64 (((x16.len:Nat):Int)-2))<(IntKind.wrap .i64 (((BitVec.ofInt 64 (IntKind.wrap .i64 ((IntKind.wrap .i64 x12)*2 ^ (min (Int.toNat 8) 64)))) ||| (BitVec.ofInt 64 (IntKind.wrap .i64 x15))).toNat:Int))then(IntKind.wrap .i64 (((x16.len:Nat):Int)-2))else(IntKind.wrap .i64 (((BitVec.ofInt 64 (IntKind.wrap .i64 ((IntKind.wrap .i64 x12)*2 ^ (min (Int.toNat 8) 64)))) ||| (BitVec.ofInt 64 (IntKind.wrap .i64 x15))).toNat:Int)),()))]) fun z9=>
   L.load eL6 c0 fun(x17:Sl)=>
   L.guard (0≤(2:Int)∧(2:Int)≤((x17.len:Nat):Int)∧((x17.len:Nat):Int)≤((x17.cap:Nat):Int)∧((x17.cap:Nat):Int)≤x17.cap)<|
   L.store c0 [.slice (if Int.toNat ((x17.cap:Nat):Int)=Int.toNat (2:Int)then x17.a else Option.map (fun a:Addr=>a.add (Int.toNat (2:Int)*1)) x17.a) (Int.toNat ((x17.len:Nat):Int)-Int.toNat (2:Int)) (Int.toNat ((x17.cap:Nat):Int)-Int.toNat (2:Int))]<|
   k4 (z9.1,())) fun z5=>
  L.load eL6 c0 fun(x18:Sl)=>
  L.guard (0≤(0:Int)∧(0:Int)≤z5.1∧z5.1≤((x18.cap:Nat):Int)∧((x18.cap:Nat):Int)≤x18.cap)<|
  L.call Pr z3c [.slice (if Int.toNat ((x18.cap:Nat):Int)=Int.toNat (0:Int)then x18.a else Option.map (fun a:Addr=>a.add (Int.toNat (0:Int)*1)) x18.a) (Int.toNat z5.1-Int.toNat (0:Int)) (Int.toNat ((x18.cap:Nat):Int)-Int.toNat (0:Int))] rL fun(x19:Sl)=>
  L.callV Pr (.func p0.fn p0.fs p0.cs) [Sv6 x19] rB fun(x20:Bool)=>
  L.ite (!x20) (
   K (.tuple #[]))<|
  L.load eL6 c0 fun(x21:Sl)=>
  L.guard (0≤z5.1∧z5.1≤((x21.len:Nat):Int)∧((x21.len:Nat):Int)≤((x21.cap:Nat):Int)∧((x21.cap:Nat):Int)≤x21.cap)<|
  L.store c0 [.slice (if Int.toNat ((x21.cap:Nat):Int)=Int.toNat z5.1 then x21.a else Option.map (fun a:Addr=>a.add (Int.toNat z5.1*1)) x21.a) (Int.toNat ((x21.len:Nat):Int)-Int.toNat z5.1) (Int.toNat ((x21.cap:Nat):Int)-Int.toNat z5.1)]<|
  again2 (()))<|
 K (.tuple #[])
theorem zeH(p0:FV)(c0:Addr)(h:za6 p0 c0 K w):CV z45 [.v (.func p0.fn p0.fs p0.cs),.v (.pointer (some c0))] K w:=C_of Tryz.f301 zeP _ h
theorem zep:Enters Pr z45:=z0j (by kernel_rfl)
def z55(p0:Sl)(K:Value→PT):PT:=
 L.ite ((p0.a).isNone) (
  K (.slice none 0 0))<|
 L.new [] z3T fun b1=>
 L.sem Pr (.one (.one .slice)) (Builtin.append_ #[z2j,z2j] z2j #[.slice (some ⟨b1,0,none⟩) 0 0,Sv6 p0]) fun(s2:Sl)=>
 K (.slice s2.a s2.len s2.cap)
theorem z8o(p0:Sl)(h:z55 p0 K w):CV z3c [.v (.slice p0.a p0.len p0.cap)] K w:=C_of Tryz.f302 .auto _ h
def zck:Ann:=(.seq .auto (.seq (.seq .auto .auto (some [])) .auto none) none)
def z89(p0:Option Addr)(p1:Int)(K:Value→PT):PT:=
 L.join (Y:=Unit) (fun k1=>
  L.nonnil p0 fun a3=>
  L.load eB6 (a3.add 1) fun(x4:Bool)=>
  L.ite x4 (
   L.nonnil p0 fun a5=>
   L.store (a5.add 1) [.bool true]<|
   k1 (()))<|
  L.nonnil p0 fun a6=>
  L.load eL6 (a6.add 0) fun(x7:Sl)=>
  L.nonnil p0 fun a8=>
  L.store (a8.add 1) [.bool (decide (((x7.len:Nat):Int)<p1))]<|
  k1 (())) fun z2=>
 L.nonnil p0 fun a9=>
 L.load eB6 (a9.add 1) fun(x10:Bool)=>
 L.ite x10 (
  L.sem Pr (.one (.one .slice)) (Instr.makeSlice z2j (.int .i64 p1) (.int .i64 p1)) fun(s11:Sl)=>
  K (.slice s11.a s11.len s11.cap))<|
 L.nonnil p0 fun a12=>
 L.load eL6 (a12.add 0) fun(x13:Sl)=>
 L.guard (0≤(0:Int)∧(0:Int)≤p1∧p1≤((x13.cap:Nat):Int)∧((x13.cap:Nat):Int)≤x13.cap)<|
 L.nonnil p0 fun a14=>
 L.load eL6 (a14.add 0) fun(x15:Sl)=>
 L.guard (0≤p1∧p1≤((x15.len:Nat):Int)∧((x15.len:Nat):Int)≤((x15.cap:Nat):Int)∧((x15.cap:Nat):Int)≤x15.cap)<|
 L.nonnil p0 fun a16=>
 L.store (a16.add 0) [.slice (if Int.toNat ((x15.cap:Nat):Int)=Int.toNat p1 then x15.a else Option.map (fun a:Addr=>a.add (Int.toNat p1*1)) x15.a) (Int.toNat ((x15.len:Nat):Int)-Int.toNat p1) (Int.toNat ((x15.cap:Nat):Int)-Int.toNat p1)]<|
 K (.slice (if Int.toNat ((x13.cap:Nat):Int)=Int.toNat (0:Int)then x13.a else Option.map (fun a:Addr=>a.add (Int.toNat (0:Int)*1)) x13.a) (Int.toNat p1-Int.toNat (0:Int)) (Int.toNat ((x13.cap:Nat):Int)-Int.toNat (0:Int)))
theorem zcd(p0:Option Addr)(p1:Int)(h:z89 p0 p1 K w):CV z5C [.v (.pointer p0),.v (.int .i64 p1)] K w:=C_of Tryz.f303 zck _ h
def z5H:Ann:=(.seq .auto (.seq .auto (.seq (.one [(7,(.one (.int .i64))),(8,(.one (.int .i64)))] .auto) (.seq .auto (.one [(6,(.one (.int .i64)))] (.seq .auto (.seq .auto (.seq (.one [(7,(.one (.int .i64))),(8,(.one (.int .i64)))] .auto) (.seq .auto .auto (some [])) none) none) none)) none) none) none) none)
def z1N(p0:Sl)(p1:Int)(p2:FV)(K:Value→PT):PT:=
 L.loop (Y:=Int×Int×Unit) (0,20,()) fun y1 again2=>
 L.ite (decide (y1.2.1≤p1)) (
  L.call Pr z0U [Sv6 p0,.int .i64 y1.1,.int .i64 y1.2.1,.func p2.fn p2.fs p2.cs] (.tup []) fun(x3:Unit)=>
  again2 (y1.2.1,IntKind.wrap .i64 (y1.2.1+20),()))<|
 L.call Pr z0U [Sv6 p0,.int .i64 y1.1,.int .i64 p1,.func p2.fn p2.fs p2.cs] (.tup []) fun(x4:Unit)=>
 L.loop (Y:=Int×Unit) (20,()) fun y5 again6=>
 L.ite (decide (y5.1<p1)) (
  L.loop (Y:=Int×Int×Unit) (0,IntKind.wrap .i64 (2*y5.1),()) fun y7 again8=>
  L.ite (decide (y7.2.1≤p1)) (
   L.call Pr z0b [Sv6 p0,.int .i64 y7.1,.int .i64 (IntKind.wrap .i64 (y7.1+y5.1)),.int .i64 y7.2.1,.func p2.fn p2.fs p2.cs] (.tup []) fun(x9:Unit)=>
   again8 (y7.2.1,IntKind.wrap .i64 (y7.2.1+(IntKind.wrap .i64 (2*y5.1))),()))<|
  L.join (Y:=Unit) (fun k10=>
   L.ite (decide ((IntKind.wrap .i64 (y7.1+y5.1))<p1)) (
    L.call Pr z0b [Sv6 p0,.int .i64 y7.1,.int .i64 (IntKind.wrap .i64 (y7.1+y5.1)),.int .i64 p1,.func p2.fn p2.fs p2.cs] (.tup []) fun(x12:Unit)=>
    k10 (()))<|
   k10 (())) fun z11=>
  again6 (IntKind.wrap .i64 (y5.1*2),()))<|
 K (.tuple #[])
theorem z30(p0:Sl)(p1:Int)(p2:FV)(h:z1N p0 p1 p2 K w):CV z2T [.v (.slice p0.a p0.len p0.cap),.v (.int .i64 p1),.v (.func p2.fn p2.fs p2.cs)] K w:=C_of Tryz.f314 z5H _ h
def z9h(p0:Option Addr)(p1:Int)(K:Value→PT):PT:=
 L.nonnil p0 fun a1=>
 L.load (.one (.map)) (a1.add 0) fun(x2:Option Nat)=>
 L.semR Pr rB (Instr.lookup z2O (.map x2) (.int .i64 p1) false) fun(x3:Bool)=>
 L.ite x3 (
  K (.int .i64 5))<|
 L.draw<|
 L.nonnil p0 fun a4=>
 L.load (.one (.map)) (a4.add 0) fun(x5:Option Nat)=>
 L.semR Pr rI (Builtin.len_ #[z2O] z0h #[.map x5]) fun(x6:Int)=>
 L.nonnil p0 fun a7=>
 L.load eI6 (a7.add 1) fun(x8:Int)=>
 L.ite (decide (x6≥x8)) (
  K (.int .i64 8))<|
 L.nonnil p0 fun a9=>
 L.load (.one (.map)) (a9.add 0) fun(x10:Option Nat)=>
 L.semU Pr (Instr.mapUpdate z2O (.map x10) (.int .i64 p1) (.bool true))<|
 K (.int .i64 0)
theorem zdN(p0:Option Addr)(p1:Int)(h:z9h p0 p1 K w):CV z97 [.v (.pointer p0),.v (.int .i64 p1)] K w:=C_of Tryz.f315 .auto _ h
def z6l:Ann:=(.seq .auto (.seq (.seq .auto (.seq .auto .auto (some [(7,(.one (.str)))])) none) .auto none) none)
def z3t(p0:Sl)(p1:FV)(K:Value→PT):PT:=
 L.new [Sv6 p0] z07 fun b1=>
 L.range Pr none (.func p1.fn p1.fs p1.cs) [eS6] (fun l2(y3:ByteArray×Unit) R4=>
  L.begin Pr l2<|
  L.load eL6 (⟨b1,0,none⟩) fun(x7:Sl)=>
  L.new [.string y3.1] z00 fun b8=>
  L.sem Pr (.one (.one .slice)) (Builtin.append_ #[z07,z07] z07 #[Sv6 x7,.slice (some ⟨b8,0,none⟩) 1 1]) fun(s9:Sl)=>
  L.store (⟨b1,0,none⟩) [Sv6 s9]<|
  L.endRound Pr l2 none R4) fun d5 j6=>
 L.jump j6 (
  L.load eL6 (⟨b1,0,none⟩) fun(x10:Sl)=>
  L.unmark Pr (d5++[])<|
  K (.slice x10.a x10.len x10.cap)) (
  L.unmark Pr (d5++[])<|
  K (.slice none 0 0)) []
theorem z6k(p0:Sl)(p1:FV)(h:z3t p0 p1 K w):CV z2f [.v (.slice p0.a p0.len p0.cap),.v (.func p1.fn p1.fs p1.cs)] K w:=C_of Tryz.f316 z6l _ h
def z2v:Ann:=(.seq .auto (.one [] (.seq .auto (.seq (.cond .auto .auto) .auto none) none)) none)
def z1c(p0:FV)(c0:Addr)(K:Value→PT):PT:=
 L.load (.one (.map)) c0 fun(x1:Option Nat)=>
 L.sem Pr (.one (.one .ptr)) (Instr.range z0l (.map x1)) fun(it2:Option Addr)=>
 L.loop (Y:=Unit) (()) fun y3 again4=>
 L.next Pr [eS6,(.agg lf4)] (Instr.next (.pointer it2) false T_) (
  K (.tuple #[])) fun(x5:pt23)=>
 L.sem Pr (.tup [eS6,(.agg lf4)]) (Instr.entry (.pointer it2)) fun(x6:pt23)=>
 L.callV Pr (.func p0.fn p0.fs p0.cs) [.string x6.1] rB fun(x7:Bool)=>
 L.ite (!x7) (
  K (.tuple #[]))<|
 again4 (())
theorem z2u(p0:FV)(c0:Addr)(h:z1c p0 c0 K w):CV z09 [.v (.func p0.fn p0.fs p0.cs),.v (.pointer (some c0))] K w:=C_of Tryz.f318 z2v _ h
theorem z2t:Enters Pr z09:=z0j (by kernel_rfl)
def z4a:Ann:=(.seq .auto (.one [(8,(.one (.int .i64)))] (.seq .auto (.seq (.seq .auto (.one [(9,(.one (.int .i64)))] (.seq (.seq .auto (.cond .auto .auto) none) .auto none)) none) .auto (some [])) none)) none)
def z2d(p0:Sl)(p1 p2:Int)(p3:FV)(K:Value→PT):PT:=
 L.loop (Y:=Int×Unit) (IntKind.wrap .i64 (p1+1),()) fun y1 again2=>
 L.ite (decide (y1.1<p2)) (
  L.join (Y:=Unit) (fun k3=>
   L.loop (Y:=Int×Unit) (y1.1,()) fun y5 again6=>
   L.draw<|
   L.ite (decide (y5.1>p1)) (
    L.idx p0.a y5.1 p0.len 2 fun a7=>
    L.load (.agg [.int .i64,.int .i64]) a7 fun(x8:Int×Int×Unit)=>
    L.idx p0.a (IntKind.wrap .i64 (y5.1-1)) p0.len 2 fun a9=>
    L.load (.agg [.int .i64,.int .i64]) a9 fun(x10:Int×Int×Unit)=>
    L.callV Pr (.func p3.fn p3.fs p3.cs) [.agg #[.int .i64 x8.1,.int .i64 x8.2.1],.agg #[.int .i64 x10.1,.int .i64 x10.2.1]] rI fun(x11:Int)=>
    L.ite (decide (x11<0)) (
     L.draw<|
     L.idx p0.a (IntKind.wrap .i64 (y5.1-1)) p0.len 2 fun a12=>
     L.load (.agg [.int .i64,.int .i64]) a12 fun(x13:Int×Int×Unit)=>
     L.idx p0.a y5.1 p0.len 2 fun a14=>
     L.load (.agg [.int .i64,.int .i64]) a14 fun(x15:Int×Int×Unit)=>
     L.idx p0.a y5.1 p0.len 2 fun a16=>
     L.store a16 [.int .i64 x13.1,.int .i64 x13.2.1]<|
     L.idx p0.a (IntKind.wrap .i64 (y5.1-1)) p0.len 2 fun a17=>
     L.store a17 [.int .i64 x15.1,.int .i64 x15.2.1]<|
     again6 (IntKind.wrap .i64 (y5.1-1),()))<|
    k3 (()))<|
   k3 (())) fun z4=>
  again2 (IntKind.wrap .i64 (y1.1+1),()))<|
 K (.tuple #[])
theorem z49(p0:Sl)(p1 p2:Int)(p3:FV)(h:z2d p0 p1 p2 p3 K w):CV z0U [.v (.slice p0.a p0.len p0.cap),.v (.int .i64 p1),.v (.int .i64 p2),.v (.func p3.fn p3.fs p3.cs)] K w:=C_of Tryz.f325 z4a _ h
def z5i:Ann:=(.seq (.seq .auto (.cond (.seq .auto (.seq .auto (.seq (.one [(10,(.one (.int .i64))),(11,(.one (.int .i64)))] .auto) (.seq (.seq .auto (.one [(13,(.one (.int .i64)))] .auto) none) .auto none) none) none) none) .auto) none) (.seq (.seq .auto (.cond (.seq .auto (.seq .auto (.seq (.one [(14,(.one (.int .i64))),(15,(.one (.int .i64)))] .auto) (.seq (.seq .auto (.one [(17,(.one (.int .i64)))] .auto) none) .auto none) none) none) none) .auto) none) (.seq .auto (.seq .auto (.seq .auto (.seq .auto (.seq .auto (.seq (.one [(20,(.one (.int .i64))),(21,(.one (.int .i64)))] .auto) (.seq .auto (.seq (.seq .auto (.cond .auto .auto) none) (.seq (.seq .auto (.cond .auto .auto) none) (.seq .auto (.cond .auto .auto) none) (some [])) (some [])) none) none) none) (some [(20,(.one (.int .i64))),(21,(.one (.int .i64)))])) none) none) none) none) none)
def z19(p0:Sl)(p1 p2 p3:Int)(p4:FV)(K:Value→PT):PT:=
 L.ite ((IntKind.wrap .i64 (p2-p1)) == 1) (
  L.loop (Y:=Int×Int×Unit) (p2,p3,()) fun y1 again2=>
  L.ite (decide (y1.1<y1.2.1)) (
   L.guard ((0:Int)≤1)<|
   L.draw<|
   L.idx p0.a (IntKind.wrap .i64 (Int.fdiv (IntKind.wrap .u64 (IntKind.wrap .i64 (y1.1+y1.2.1))) (2 ^ (min (Int.toNat 1) 64)))) p0.len 2 fun a3=>
   L.load (.agg [.int .i64,.int .i64]) a3 fun(x4:Int×Int×Unit)=>
   L.idx p0.a p1 p0.len 2 fun a5=>
   L.load (.agg [.int .i64,.int .i64]) a5 fun(x6:Int×Int×Unit)=>
   L.callV Pr (.func p4.fn p4.fs p4.cs) [.agg #[.int .i64 x4.1,.int .i64 x4.2.1],.agg #[.int .i64 x6.1,.int .i64 x6.2.1]] rI fun(x7:Int)=>
   L.ite (decide (x7<0)) (
    again2 (IntKind.wrap .i64 ((IntKind.wrap .i64 (Int.fdiv (IntKind.wrap .u64 (IntKind.wrap .i64 (y1.1+y1.2.1))) (2 ^ (min (Int.toNat 1) 64))))+1),y1.2.1,()))<|
   again2 (y1.1,IntKind.wrap .i64 (Int.fdiv (IntKind.wrap .u64 (IntKind.wrap .i64 (y1.1+y1.2.1))) (2 ^ (min (Int.toNat 1) 64))),()))<|
  L.loop (Y:=Int×Unit) (p1,()) fun y8 again9=>
  L.ite (decide (y8.1<(IntKind.wrap .i64 (y1.1-1)))) (
   L.draw<|
   L.idx p0.a (IntKind.wrap .i64 (y8.1+1)) p0.len 2 fun a10=>
   L.load (.agg [.int .i64,.int .i64]) a10 fun(x11:Int×Int×Unit)=>
   L.idx p0.a y8.1 p0.len 2 fun a12=>
   L.load (.agg [.int .i64,.int .i64]) a12 fun(x13:Int×Int×Unit)=>
   L.idx p0.a y8.1 p0.len 2 fun a14=>
   L.store a14 [.int .i64 x11.1,.int .i64 x11.2.1]<|
   L.idx p0.a (IntKind.wrap .i64 (y8.1+1)) p0.len 2 fun a15=>
   L.store a15 [.int .i64 x13.1,.int .i64 x13.2.1]<|
   again9 (IntKind.wrap .i64 (y8.1+1),()))<|
  K (.tuple #[]))<|
 L.ite ((IntKind.wrap .i64 (p3-p2)) == 1) (
  L.loop (Y:=Int×Int×Unit) (p1,p2,()) fun y16 again17=>
  L.ite (decide (y16.1<y16.2.1)) (
   L.guard ((0:Int)≤1)<|
   L.draw<|
   L.idx p0.a p2 p0.len 2 fun a18=>
   L.load (.agg [.int .i64,.int .i64]) a18 fun(x19:Int×Int×Unit)=>
   L.idx p0.a (IntKind.wrap .i64 (Int.fdiv (IntKind.wrap .u64 (IntKind.wrap .i64 (y16.1+y16.2.1))) (2 ^ (min (Int.toNat 1) 64)))) p0.len 2 fun a20=>
   L.load (.agg [.int .i64,.int .i64]) a20 fun(x21:Int×Int×Unit)=>
   L.callV Pr (.func p4.fn p4.fs p4.cs) [.agg #[.int .i64 x19.1,.int .i64 x19.2.1],.agg #[.int .i64 x21.1,.int .i64 x21.2.1]] rI fun(x22:Int)=>
   L.ite (!(decide (x22<0))) (
    again17 (IntKind.wrap .i64 ((IntKind.wrap .i64 (Int.fdiv (IntKind.wrap .u64 (IntKind.wrap .i64 (y16.1+y16.2.1))) (2 ^ (min (Int.toNat 1) 64))))+1),y16.2.1,()))<|
   again17 (y16.1,IntKind.wrap .i64 (Int.fdiv (IntKind.wrap .u64 (IntKind.wrap .i64 (y16.1+y16.2.1))) (2 ^ (min (Int.toNat 1) 64))),()))<|
  L.loop (Y:=Int×Unit) (p2,()) fun y23 again24=>
  L.ite (decide (y23.1>y16.1)) (
   L.draw<|
   L.idx p0.a (IntKind.wrap .i64 (y23.1-1)) p0.len 2 fun a25=>
   L.load (.agg [.int .i64,.int .i64]) a25 fun(x26:Int×Int×Unit)=>
   L.idx p0.a y23.1 p0.len 2 fun a27=>
   L.load (.agg [.int .i64,.int .i64]) a27 fun(x28:Int×Int×Unit)=>
   L.idx p0.a y23.1 p0.len 2 fun a29=>
   L.store a29 [.int .i64 x26.1,.int .i64 x26.2.1]<|
   L.idx p0.a (IntKind.wrap .i64 (y23.1-1)) p0.len 2 fun a30=>
   L.store a30 [.int .i64 x28.1,.int .i64 x28.2.1]<|
   again24 (IntKind.wrap .i64 (y23.1-1),()))<|
  K (.tuple #[]))<|
 L.guard ((0:Int)≤1)<|
 L.join (Y:=Int×Int×Unit) (fun k31=>
  L.ite (decide (p2>(IntKind.wrap .i64 (Int.fdiv (IntKind.wrap .u64 (IntKind.wrap .i64 (p1+p3))) (2 ^ (min (Int.toNat 1) 64)))))) (
   k31 (IntKind.wrap .i64 ((IntKind.wrap .i64 ((IntKind.wrap .i64 (Int.fdiv (IntKind.wrap .u64 (IntKind.wrap .i64 (p1+p3))) (2 ^ (min (Int.toNat 1) 64))))+p2))-p3),IntKind.wrap .i64 (Int.fdiv (IntKind.wrap .u64 (IntKind.wrap .i64 (p1+p3))) (2 ^ (min (Int.toNat 1) 64))),()))<|
  k31 (p1,p2,())) fun z32=>
 L.loop (Y:=Int×Int×Unit) (z32.1,z32.2.1,()) fun y33 again34=>
 L.ite (decide (y33.1<y33.2.1)) (
  L.guard ((0:Int)≤1)<|
  L.draw<|
  L.idx p0.a (IntKind.wrap .i64 ((IntKind.wrap .i64 ((IntKind.wrap .i64 ((IntKind.wrap .i64 (Int.fdiv (IntKind.wrap .u64 (IntKind.wrap .i64 (p1+p3))) (2 ^ (min (Int.toNat 1) 64))))+p2))-1))-(IntKind.wrap .i64 (Int.fdiv (IntKind.wrap .u64 (IntKind.wrap .i64 (y33.1+y33.2.1))) (2 ^ (min (Int.toNat 1) 64)))))) p0.len 2 fun a35=>
  L.load (.agg [.int .i64,.int .i64]) a35 fun(x36:Int×Int×Unit)=>
  L.idx p0.a (IntKind.wrap .i64 (Int.fdiv (IntKind.wrap .u64 (IntKind.wrap .i64 (y33.1+y33.2.1))) (2 ^ (min (Int.toNat 1) 64)))) p0.len 2 fun a37=>
  L.load (.agg [.int .i64,.int .i64]) a37 fun(x38:Int×Int×Unit)=>
  L.callV Pr (.func p4.fn p4.fs p4.cs) [.agg #[.int .i64 x36.1,.int .i64 x36.2.1],.agg #[.int .i64 x38.1,.int .i64 x38.2.1]] rI fun(x39:Int)=>
  L.ite (!(decide (x39<0))) (
   again34 (IntKind.wrap .i64 ((IntKind.wrap .i64 (Int.fdiv (IntKind.wrap .u64 (IntKind.wrap .i64 (y33.1+y33.2.1))) (2 ^ (min (Int.toNat 1) 64))))+1),y33.2.1,()))<|
  again34 (y33.1,IntKind.wrap .i64 (Int.fdiv (IntKind.wrap .u64 (IntKind.wrap .i64 (y33.1+y33.2.1))) (2 ^ (min (Int.toNat 1) 64))),()))<|
 L.join (Y:=Unit) (fun k40=>
  L.ite (decide (y33.1<p2)) (
   L.ite (decide (p2<(IntKind.wrap .i64 ((IntKind.wrap .i64 ((IntKind.wrap .i64 (Int.fdiv (IntKind.wrap .u64 (IntKind.wrap .i64 (p1+p3))) (2 ^ (min (Int.toNat 1) 64))))+p2))-y33.1)))) (
    L.call Pr z1L [Sv6 p0,.int .i64 y33.1,.int .i64 p2,.int .i64 (IntKind.wrap .i64 ((IntKind.wrap .i64 ((IntKind.wrap .i64 (Int.fdiv (IntKind.wrap .u64 (IntKind.wrap .i64 (p1+p3))) (2 ^ (min (Int.toNat 1) 64))))+p2))-y33.1)),.func p4.fn p4.fs p4.cs] (.tup []) fun(x42:Unit)=>
    k40 (()))<|
   k40 (()))<|
  k40 (())) fun z41=>
 L.join (Y:=Unit) (fun k43=>
  L.ite (decide (p1<y33.1)) (
   L.ite (decide (y33.1<(IntKind.wrap .i64 (Int.fdiv (IntKind.wrap .u64 (IntKind.wrap .i64 (p1+p3))) (2 ^ (min (Int.toNat 1) 64)))))) (
    L.call Pr z0b [Sv6 p0,.int .i64 p1,.int .i64 y33.1,.int .i64 (IntKind.wrap .i64 (Int.fdiv (IntKind.wrap .u64 (IntKind.wrap .i64 (p1+p3))) (2 ^ (min (Int.toNat 1) 64)))),.func p4.fn p4.fs p4.cs] (.tup []) fun(x45:Unit)=>
    k43 (()))<|
   k43 (()))<|
  k43 (())) fun z44=>
 L.ite (decide ((IntKind.wrap .i64 (Int.fdiv (IntKind.wrap .u64 (IntKind.wrap .i64 (p1+p3))) (2 ^ (min (Int.toNat 1) 64))))<(IntKind.wrap .i64 ((IntKind.wrap .i64 ((IntKind.wrap .i64 (Int.fdiv (IntKind.wrap .u64 (IntKind.wrap .i64 (p1+p3))) (2 ^ (min (Int.toNat 1) 64))))+p2))-y33.1)))) (
  L.ite (decide ((IntKind.wrap .i64 ((IntKind.wrap .i64 ((IntKind.wrap .i64 (Int.fdiv (IntKind.wrap .u64 (IntKind.wrap .i64 (p1+p3))) (2 ^ (min (Int.toNat 1) 64))))+p2))-y33.1))<p3)) (
   L.call Pr z0b [Sv6 p0,.int .i64 (IntKind.wrap .i64 (Int.fdiv (IntKind.wrap .u64 (IntKind.wrap .i64 (p1+p3))) (2 ^ (min (Int.toNat 1) 64)))),.int .i64 (IntKind.wrap .i64 ((IntKind.wrap .i64 ((IntKind.wrap .i64 (Int.fdiv (IntKind.wrap .u64 (IntKind.wrap .i64 (p1+p3))) (2 ^ (min (Int.toNat 1) 64))))+p2))-y33.1)),.int .i64 p3,.func p4.fn p4.fs p4.cs] (.tup []) fun(x46:Unit)=>
   K (.tuple #[]))<|
  K (.tuple #[]))<|
 K (.tuple #[])
theorem z1E(p0:Sl)(p1 p2 p3:Int)(p4:FV)(h:z19 p0 p1 p2 p3 p4 K w):CV z0b [.v (.slice p0.a p0.len p0.cap),.v (.int .i64 p1),.v (.int .i64 p2),.v (.int .i64 p3),.v (.func p4.fn p4.fs p4.cs)] K w:=C_of Tryz.f326 z5i _ h
def z5I:Ann:=(.seq .auto (.seq .auto (.seq (.one [(10,(.one (.int .i64))),(11,(.one (.int .i64)))] .auto) .auto none) none) none)
def z2Y(p0:Sl)(p1 p2 p3:Int)(p4:FV)(K:Value→PT):PT:=
 L.loop (Y:=Int×Int×Unit) (IntKind.wrap .i64 (p2-p1),IntKind.wrap .i64 (p3-p2),()) fun y1 again2=>
 L.ite (y1.1 != y1.2.1) (
  L.ite (decide (y1.1>y1.2.1)) (
   L.call Pr z0N [Sv6 p0,.int .i64 (IntKind.wrap .i64 (p2-y1.1)),.int .i64 p2,.int .i64 y1.2.1,.func p4.fn p4.fs p4.cs] (.tup []) fun(x3:Unit)=>
   again2 (IntKind.wrap .i64 (y1.1-y1.2.1),y1.2.1,()))<|
  L.call Pr z0N [Sv6 p0,.int .i64 (IntKind.wrap .i64 (p2-y1.1)),.int .i64 (IntKind.wrap .i64 ((IntKind.wrap .i64 (p2+y1.2.1))-y1.1)),.int .i64 y1.1,.func p4.fn p4.fs p4.cs] (.tup []) fun(x4:Unit)=>
  again2 (y1.1,IntKind.wrap .i64 (y1.2.1-y1.1),()))<|
 L.call Pr z0N [Sv6 p0,.int .i64 (IntKind.wrap .i64 (p2-y1.1)),.int .i64 p2,.int .i64 y1.1,.func p4.fn p4.fs p4.cs] (.tup []) fun(x5:Unit)=>
 K (.tuple #[])
theorem z5G(p0:Sl)(p1 p2 p3:Int)(p4:FV)(h:z2Y p0 p1 p2 p3 p4 K w):CV z1L [.v (.slice p0.a p0.len p0.cap),.v (.int .i64 p1),.v (.int .i64 p2),.v (.int .i64 p3),.v (.func p4.fn p4.fs p4.cs)] K w:=C_of Tryz.f338 z5I _ h
def z50:Ann:=(.seq .auto (.one [(10,(.one (.int .i64)))] .auto) none)
def z2F(p0:Sl)(p1 p2 p3:Int)(p4:FV)(K:Value→PT):PT:=
 L.loop (Y:=Int×Unit) (0,()) fun y1 again2=>
 L.ite (decide (y1.1<p3)) (
  L.draw<|
  L.idx p0.a (IntKind.wrap .i64 (p2+y1.1)) p0.len 2 fun a3=>
  L.load (.agg [.int .i64,.int .i64]) a3 fun(x4:Int×Int×Unit)=>
  L.idx p0.a (IntKind.wrap .i64 (p1+y1.1)) p0.len 2 fun a5=>
  L.load (.agg [.int .i64,.int .i64]) a5 fun(x6:Int×Int×Unit)=>
  L.idx p0.a (IntKind.wrap .i64 (p1+y1.1)) p0.len 2 fun a7=>
  L.store a7 [.int .i64 x4.1,.int .i64 x4.2.1]<|
  L.idx p0.a (IntKind.wrap .i64 (p2+y1.1)) p0.len 2 fun a8=>
  L.store a8 [.int .i64 x6.1,.int .i64 x6.2.1]<|
  again2 (IntKind.wrap .i64 (y1.1+1),()))<|
 K (.tuple #[])
theorem z4Y(p0:Sl)(p1 p2 p3:Int)(p4:FV)(h:z2F p0 p1 p2 p3 p4 K w):CV z0N [.v (.slice p0.a p0.len p0.cap),.v (.int .i64 p1),.v (.int .i64 p2),.v (.int .i64 p3),.v (.func p4.fn p4.fs p4.cs)] K w:=C_of Tryz.f343 z50 _ h
end Go.Proofs.YtdcdhcgmeahfmaaGreatDoor
