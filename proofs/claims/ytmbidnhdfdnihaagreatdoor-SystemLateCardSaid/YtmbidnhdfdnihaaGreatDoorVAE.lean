/- What is proved on the way to a statement of the seat, pressed (text AE). No conditions beyond those its theorems state. -/
import Derived.Test.YtmbidnhdfdnihaaGreatDoorVAD
set_option linter.all false
namespace Go.Proofs.YtmbidnhdfdnihaaGreatDoor
set_option maxRecDepth 100000
open Go.Dm
def z7n (p0 : Option Addr) (p1 : ByteArray) (K : Value → PT) : PT :=
 L.new [.int .i64 0] z0d fun b1 =>
 L.new [.int .i64 0] z0d fun b2 =>
 L.new [.int .i64 0] z0d fun b3 =>
 L.store (⟨b1, 0, none⟩) [.int .i64 0] <|
 L.store (⟨b2, 0, none⟩) [.int .i64 3] <|
 L.store (⟨b3, 0, none⟩) [.int .i64 0] <|
 L.call Pr z2V [.pointer p0, .string p1] (.one (.one (.func))) fun (x4 : FV) =>
 L.range Pr none (.func x4.fn x4.fs x4.cs) [eI6, eP6] (fun l5 (y6 : Int × Option Addr × Unit) R7 =>
  L.begin Pr l5 <|
  L.call Pr z1m [.pointer y6.2.1] rI fun (x10 : Int) =>
  L.ite (x10 == 3) (
   L.endRound Pr l5 none R7) <|
  L.draw <|
  L.load eI6 (⟨b2, 0, none⟩) fun (x11 : Int) =>
  L.call Pr z1m [.pointer y6.2.1] rI fun (x12 : Int) =>
  L.chk (⟨b2, 0, none⟩) [.int .i64 x11] <|
  L.ite (decide (x12 < x11)) (
   L.call Pr z1m [.pointer y6.2.1] rI fun (x13 : Int) =>
   L.call Pr z2c [.pointer y6.2.1] rI fun (x14 : Int) =>
   L.store (⟨b1, 0, none⟩) [.int .i64 y6.1] <|
   L.store (⟨b2, 0, none⟩) [.int .i64 x13] <|
   L.store (⟨b3, 0, none⟩) [.int .i64 x14] <|
   L.endRound Pr l5 none R7) <|
  L.load eI6 (⟨b2, 0, none⟩) fun (x15 : Int) =>
  L.call Pr z1m [.pointer y6.2.1] rI fun (x16 : Int) =>
  L.chk (⟨b2, 0, none⟩) [.int .i64 x15] <|
  L.ite (x16 == x15) (
   L.load eI6 (⟨b3, 0, none⟩) fun (x17 : Int) =>
   L.call Pr z2c [.pointer y6.2.1] rI fun (x18 : Int) =>
   L.chk (⟨b3, 0, none⟩) [.int .i64 x17] <|
   L.ite (decide (x18 ≤ x17)) (
    L.call Pr z1m [.pointer y6.2.1] rI fun (x19 : Int) =>
    L.call Pr z2c [.pointer y6.2.1] rI fun (x20 : Int) =>
    L.store (⟨b1, 0, none⟩) [.int .i64 y6.1] <|
    L.store (⟨b2, 0, none⟩) [.int .i64 x19] <|
    L.store (⟨b3, 0, none⟩) [.int .i64 x20] <|
    L.endRound Pr l5 none R7) <|
   L.endRound Pr l5 none R7) <|
  L.endRound Pr l5 none R7) fun d8 j9 =>
 L.jump j9 (
  L.load eI6 (⟨b1, 0, none⟩) fun (x21 : Int) =>
  L.unmark Pr (d8 ++ []) <|
  K (.int .i64 x21)) (
  L.unmark Pr (d8 ++ []) <|
  K (.int .i64 0)) []
theorem zbe (p0 : Option Addr) (p1 : ByteArray) {K : Value → PT} {w : World} (h : z7n p0 p1 K w) : CT Pr z4Y [.pointer p0, .string p1] K w :=
 C_of (fn := Tryz.f165) (an := zbm) (args := [.v (.pointer p0), .v (.string p1)]) (by kernel_rfl) (by kernel_rfl) (by kernel_rfl) h
def zeQ : Ann := (.seq .auto (.seq (.seq .auto (.cond .auto .auto) none) .auto (some [])) none)
def z9Q (p0 : Option Addr) (K : Value → PT) : PT :=
 L.join (Y := Unit) (fun k1 =>
  L.nonnil p0 fun a3 =>
  L.load eI6 (a3.add 0) fun (x4 : Int) =>
  L.ite (x4 != 1) (
   L.nonnil p0 fun a5 =>
   L.load eI6 (a5.add 0) fun (x6 : Int) =>
   L.ite (x6 != 2) (
    K (.int .i64 9)) <|
   k1 (())) <|
  k1 (())) fun z2 =>
 L.nonnil p0 fun a7 =>
 L.store (a7.add 0) [.int .i64 3] <|
 L.call Pr z8D [.pointer p0] (.tup []) fun (x8 : Unit) =>
 K (.int .i64 0)
theorem zeM (p0 : Option Addr) {K : Value → PT} {w : World} (h : z9Q p0 K w) : CT Pr z79 [.pointer p0] K w :=
 C_of (fn := Tryz.f166) (an := zeQ) (args := [.v (.pointer p0)]) (by kernel_rfl) (by kernel_rfl) (by kernel_rfl) h
def z7e (p0 : Option Addr) (K : Value → PT) : PT :=
 L.new [.pointer p0] z3G fun b1 =>
 K (.func (.func z2h) #[] #[.pointer (some (⟨b1, 0, none⟩))])
theorem zb6 (p0 : Option Addr) {K : Value → PT} {w : World} (h : z7e p0 K w) : CT Pr z1Z [.pointer p0] K w :=
 C_of (fn := Tryz.f169) (an := .auto) (args := [.v (.pointer p0)]) (by kernel_rfl) (by kernel_rfl) (by kernel_rfl) h
def zdd (p0 : Int) (K : Value → PT) : PT :=
 L.call Pr z65 [.int .i32 p0] rB fun (x1 : Bool) =>
 L.ite x1 (
  K (.bool true)) <|
 L.ite (decide (p0 ≥ 48)) (
  L.ite (decide (p0 ≤ 57)) (
   K (.bool true)) <|
  K (.bool (p0 == 45))) <|
 K (.bool (p0 == 45))
theorem zi1 (p0 : Int) {K : Value → PT} {w : World} (h : zdd p0 K w) : CT Pr z9x [.int .i32 p0] K w :=
 C_of (fn := Tryz.f172) (an := .auto) (args := [.v (.int .i32 p0)]) (by kernel_rfl) (by kernel_rfl) (by kernel_rfl) h
def zaN (p0 : Int) (K : Value → PT) : PT :=
 L.ite (decide (p0 ≥ 97)) (
  K (.bool (decide (p0 ≤ 122)))) <|
 K (.bool false)
theorem zeX (p0 : Int) {K : Value → PT} {w : World} (h : zaN p0 K w) : CT Pr z65 [.int .i32 p0] K w :=
 C_of (fn := Tryz.f173) (an := .auto) (args := [.v (.int .i32 p0)]) (by kernel_rfl) (by kernel_rfl) (by kernel_rfl) h
def z1M (p0 : Sl) (p1 : FV) (K : Value → PT) : PT :=
 L.call Pr z27 [.slice p0.a p0.len p0.cap, .func p1.fn p1.fs p1.cs] rI fun (x1 : Int) =>
 K (.bool (decide (x1 ≥ 0)))
theorem z3B (p0 : Sl) (p1 : FV) {K : Value → PT} {w : World} (h : z1M p0 p1 K w) : CT Pr z19 [.slice p0.a p0.len p0.cap, .func p1.fn p1.fs p1.cs] K w :=
 C_of (fn := Tryz.f174) (an := .auto) (args := [.v (.slice p0.a p0.len p0.cap), .v (.func p1.fn p1.fs p1.cs)]) (by kernel_rfl) (by kernel_rfl) (by kernel_rfl) h
def zda (p0 : HT [.str, .str, .int .i64]) (c0 : Addr) (K : Value → PT) : PT :=
 L.new [.string p0.1, .string p0.2.1, .int .i64 p0.2.2.1] z07 fun b1 =>
 L.load eS6 ((⟨b1, 0, none⟩ : Addr).add 1) fun (x2 : ByteArray) =>
 L.load eS6 (c0.add 1) fun (x3 : ByteArray) =>
 K (.bool (x2.toList == x3.toList))
theorem zhY (p0 : HT [.str, .str, .int .i64]) (c0 : Addr) {K : Value → PT} {w : World} (h : zda p0 c0 K w) : CT Pr z5c [(.ag [.string p0.1, .string p0.2.1, .int .i64 p0.2.2.1] : SV).toV, .pointer (some c0)] K w :=
 C_of (fn := Tryz.f175) (an := .auto) (args := [.ag [.string p0.1, .string p0.2.1, .int .i64 p0.2.2.1], .v (.pointer (some c0))]) (by kernel_rfl) (by kernel_rfl) (by kernel_rfl) h
theorem zhS : Enters Pr z5c := z0o (by kernel_rfl)
def z2w (p0 : Sl) (K : Value → PT) : PT :=
 L.ite ((p0.a).isNone) (
  K (.slice none 0 0)) <|
 L.new [] z07 fun b1 =>
 L.sem Pr (.one (.one .slice)) (Builtin.append_ #[z67, z67] z67 #[.slice (some ⟨b1, 0, none⟩) 0 0, .slice p0.a p0.len p0.cap]) fun (s2 : Sl) =>
 K (.slice s2.a s2.len s2.cap)
theorem z4P (p0 : Sl) {K : Value → PT} {w : World} (h : z2w p0 K w) : CT Pr z1A [.slice p0.a p0.len p0.cap] K w :=
 C_of (fn := Tryz.f179) (an := .auto) (args := [.v (.slice p0.a p0.len p0.cap)]) (by kernel_rfl) (by kernel_rfl) (by kernel_rfl) h
def z7m (p0 : Option Addr) (p1 : ByteArray) (K : Value → PT) : PT :=
 L.new [.slice none 0 0, .slice none 0 0] z03 fun b1 =>
 L.nonnil p0 fun a2 =>
 L.load (.one (.map)) (a2.add 0) fun (x3 : Option Nat) =>
 L.semR Pr (.tup [(.agg lf11), .one .bool]) (Instr.lookup z1G (.map x3) (.string p1) true) fun (x4 : pt16) =>
 L.new [.slice none 0 0, .slice none 0 0, .int .i64 0, .int .i64 0, .slice none 0 0, .slice none 0 0] z1R fun b5 =>
 L.store (⟨b5, 0, none⟩) [.slice x4.1.1.a x4.1.1.len x4.1.1.cap, .slice x4.1.2.1.a x4.1.2.1.len x4.1.2.1.cap, .int .i64 x4.1.2.2.1, .int .i64 x4.1.2.2.2.1, .slice x4.1.2.2.2.2.1.a x4.1.2.2.2.2.1.len x4.1.2.2.2.2.1.cap, .slice x4.1.2.2.2.2.2.1.a x4.1.2.2.2.2.2.1.len x4.1.2.2.2.2.2.1.cap] <|
 L.ite (!x4.2.1) (
  L.store (⟨b1, 0, none⟩) [.slice none 0 0, .slice none 0 0] <|
  L.load (.agg [.slice, .slice]) (⟨b1, 0, none⟩) fun (x6 : Sl × Sl × Unit) =>
  K (.tuple #[.agg #[.slice x6.1.a x6.1.len x6.1.cap, .slice x6.2.1.a x6.2.1.len x6.2.1.cap], .bool false])) <|
 L.load (.agg [.slice, .slice]) ((⟨b5, 0, none⟩ : Addr).add 4) fun (x7 : Sl × Sl × Unit) =>
 L.call Pr z23 [.agg #[.slice x7.1.a x7.1.len x7.1.cap, .slice x7.2.1.a x7.2.1.len x7.2.1.cap]] (.one (.agg [.slice, .slice])) fun (x8 : Sl × Sl × Unit) =>
 L.store (⟨b1, 0, none⟩) [.slice x8.1.a x8.1.len x8.1.cap, .slice x8.2.1.a x8.2.1.len x8.2.1.cap] <|
 L.load (.agg [.slice, .slice]) (⟨b1, 0, none⟩) fun (x9 : Sl × Sl × Unit) =>
 K (.tuple #[.agg #[.slice x9.1.a x9.1.len x9.1.cap, .slice x9.2.1.a x9.2.1.len x9.2.1.cap], .bool true])
theorem zbd (p0 : Option Addr) (p1 : ByteArray) {K : Value → PT} {w : World} (h : z7m p0 p1 K w) : CT Pr z4X [.pointer p0, .string p1] K w :=
 C_of (fn := Tryz.f182) (an := .auto) (args := [.v (.pointer p0), .v (.string p1)]) (by kernel_rfl) (by kernel_rfl) (by kernel_rfl) h
def zct : Ann := (.seq .auto (.seq .auto (.seq .auto (.seq (.seq .auto (.seq .auto .auto (some [(28, (.one (.int .i64))), (29, (.one (.ptr)))])) none) (.seq .auto (.seq (.seq .auto (.one [(41, (.one (.int .i64)))] .auto) none) .auto none) none) none) none) none) none)
def z81 (p0 : Option Addr) (p1 : ByteArray) (p2 : Int) (K : Value → PT) : PT :=
 L.nonnil p0 fun a1 =>
 L.load (.one (.map)) (a1.add 1) fun (x2 : Option Nat) =>
 L.semR Pr (.tup [eI6, .one .bool]) (Instr.lookup z0I (.map x2) (.int .i64 p2) true) fun (x3 : Int × Bool × Unit) =>
 L.ite x3.2.1 (
  K (.tuple #[.int .i64 0, .bool false])) <|
 L.new [.slice none 0 0] z10 fun b4 =>
 L.call Pr z2V [.pointer p0, .string p1] (.one (.one (.func))) fun (x5 : FV) =>
 L.range Pr none (.func x5.fn x5.fs x5.cs) [eI6, eP6] (fun l6 (y7 : Int × Option Addr × Unit) R8 =>
  L.begin Pr l6 <|
  L.draw <|
  L.load eL6 (⟨b4, 0, none⟩) fun (x11 : Sl) =>
  L.call Pr z2c [.pointer y7.2.1] rI fun (x12 : Int) =>
  L.chk (⟨b4, 0, none⟩) [.slice x11.a x11.len x11.cap] <|
  L.new [.int .i64 x12, .int .i64 y7.1] z0S fun b13 =>
  L.chk (⟨b4, 0, none⟩) [.slice x11.a x11.len x11.cap] <|
  L.sem Pr (.one (.one .slice)) (Builtin.append_ #[z10, z10] z10 #[.slice x11.a x11.len x11.cap, .slice (some ⟨b13, 0, none⟩) 1 1]) fun (s14 : Sl) =>
  L.store (⟨b4, 0, none⟩) [.slice s14.a s14.len s14.cap] <|
  L.endRound Pr l6 none R8) fun d9 j10 =>
 L.jump j10 (
  L.load eL6 (⟨b4, 0, none⟩) fun (x15 : Sl) =>
  L.call Pr z0U [.slice x15.a x15.len x15.cap, .func (.func z1w) #[] #[]] (.tup []) fun (x16 : Unit) =>
  L.load eL6 (⟨b4, 0, none⟩) fun (x17 : Sl) =>
  L.loop (Y := Int × Unit) (0, ()) fun y18 again19 =>
  L.ite (decide (y18.1 < ((x17.len : Nat) : Int))) (
   L.idx x17.a y18.1 x17.len 2 fun a20 =>
   L.load (.agg [.int .i64, .int .i64]) a20 fun (x21 : Int × Int × Unit) =>
   L.new [.int .i64 0, .int .i64 0] z0S fun b22 =>
   L.store (⟨b22, 0, none⟩) [.int .i64 x21.1, .int .i64 x21.2.1] <|
   L.draw <|
   L.nonnil p0 fun a23 =>
   L.load (.one (.map)) (a23.add 0) fun (x24 : Option Nat) =>
   L.load eI6 ((⟨b22, 0, none⟩ : Addr).add 1) fun (x25 : Int) =>
   L.semR Pr (.one (.agg [.str, .ptr])) (Instr.lookup z0s (.map x24) (.int .i64 x25) false) fun (x26 : ByteArray × Option Addr × Unit) =>
   L.call Pr z62 [.pointer x26.2.1, .int .i64 p2] rI fun (x27 : Int) =>
   L.ite (x27 == 0) (
    L.draw <|
    L.nonnil p0 fun a28 =>
    L.load (.one (.map)) (a28.add 1) fun (x29 : Option Nat) =>
    L.load eI6 ((⟨b22, 0, none⟩ : Addr).add 1) fun (x30 : Int) =>
    L.semU Pr (Instr.mapUpdate z0I (.map x29) (.int .i64 p2) (.int .i64 x30)) <|
    L.load eI6 ((⟨b22, 0, none⟩ : Addr).add 1) fun (x31 : Int) =>
    L.unmark Pr (d9 ++ []) <|
    K (.tuple #[.int .i64 x31, .bool true])) <|
   again19 (IntKind.wrap .i64 (y18.1 + 1), ())) <|
  L.unmark Pr (d9 ++ []) <|
  K (.tuple #[.int .i64 0, .bool false])) (
  L.unmark Pr (d9 ++ []) <|
  K (.tuple #[.int .i64 0, .bool false])) []
theorem zcj (p0 : Option Addr) (p1 : ByteArray) (p2 : Int) {K : Value → PT} {w : World} (h : z81 p0 p1 p2 K w) : CT Pr z5y [.pointer p0, .string p1, .int .i64 p2] K w :=
 C_of (fn := Tryz.f183) (an := zct) (args := [.v (.pointer p0), .v (.string p1), .v (.int .i64 p2)]) (by kernel_rfl) (by kernel_rfl) (by kernel_rfl) h
def zcm : Ann := (.seq .auto (.seq (.seq .auto (.seq .auto .auto (some [(8, (.one (.int .i64))), (9, (.one (.int .i64)))])) none) .auto none) none)
def z7S (p0 : Option Addr) (p1 : Int) (K : Value → PT) : PT :=
 L.new [.int .i64 p1] z0d fun b1 =>
 L.new [.bool false] z6d fun b2 =>
 L.call Pr z1Z [.pointer p0] (.one (.one (.func))) fun (x3 : FV) =>
 L.range Pr none (.func x3.fn x3.fs x3.cs) [eI6, eI6] (fun l4 (y5 : Int × Int × Unit) R6 =>
  L.begin Pr l4 <|
  L.load eI6 (⟨b1, 0, none⟩) fun (x9 : Int) =>
  L.ite (y5.1 == x9) (
   L.store (⟨b2, 0, none⟩) [.bool true] <|
   L.endRound Pr l4 (some .ret) R6) <|
  L.endRound Pr l4 none R6) fun d7 j8 =>
 L.jump j8 (
  L.store (⟨b2, 0, none⟩) [.bool false] <|
  L.unmark Pr (d7 ++ []) <|
  L.load eB6 (⟨b2, 0, none⟩) fun (x10 : Bool) =>
  K (.bool x10)) (
  L.unmark Pr (d7 ++ []) <|
  L.load eB6 (⟨b2, 0, none⟩) fun (x11 : Bool) =>
  K (.bool x11)) []
theorem zc8 (p0 : Option Addr) (p1 : Int) {K : Value → PT} {w : World} (h : z7S p0 p1 K w) : CT Pr z5n [.pointer p0, .int .i64 p1] K w :=
 C_of (fn := Tryz.f184) (an := zcm) (args := [.v (.pointer p0), .v (.int .i64 p1)]) (by kernel_rfl) (by kernel_rfl) (by kernel_rfl) h
def zdF : Ann := (.seq .auto (.one [(7, (.one (.int .i64)))] .auto) none)
def z8X (p0 : FV) (c0 : Addr) (K : Value → PT) : PT :=
 L.load eL6 c0 fun (x1 : Sl) =>
 L.loop (Y := Int × Unit) (0, ()) fun y2 again3 =>
 L.ite (decide (y2.1 < ((x1.len : Nat) : Int))) (
  L.idx x1.a y2.1 x1.len 4 fun a4 =>
  L.load (.agg [.int .i64, .int .i64, .int .i64, .str]) a4 fun (x5 : pt10) =>
  L.new [.int .i64 0, .int .i64 0, .int .i64 0, .string s_] z0b fun b6 =>
  L.store (⟨b6, 0, none⟩) [.int .i64 x5.1, .int .i64 x5.2.1, .int .i64 x5.2.2.1, .string x5.2.2.2.1] <|
  L.load (.agg [.int .i64, .int .i64, .int .i64, .str]) (⟨b6, 0, none⟩) fun (x7 : pt10) =>
  L.call Pr z8z [.agg #[.int .i64 x7.1, .int .i64 x7.2.1, .int .i64 x7.2.2.1, .string x7.2.2.2.1]] rS fun (x8 : ByteArray) =>
  L.callV Pr (.func p0.fn p0.fs p0.cs) [.string x8] rB fun (x9 : Bool) =>
  L.ite (!x9) (
   K (.tuple #[])) <|
  again3 (IntKind.wrap .i64 (y2.1 + 1), ())) <|
 K (.tuple #[])
theorem zdq (p0 : FV) (c0 : Addr) {K : Value → PT} {w : World} (h : z8X p0 c0 K w) : CT Pr z3E [.func p0.fn p0.fs p0.cs, .pointer (some c0)] K w :=
 C_of (fn := Tryz.f185) (an := zdF) (args := [.v (.func p0.fn p0.fs p0.cs), .v (.pointer (some c0))]) (by kernel_rfl) (by kernel_rfl) (by kernel_rfl) h
theorem zdl : Enters Pr z3E := z0o (by kernel_rfl)
def zgI : Ann := (.seq .auto (.seq .auto (.seq (.one [(2, (.one (.str)))] .auto) .auto none) none) none)
def zbU (p0 : ht3) (K : Value → PT) : PT :=
 L.new [.int .i64 p0.1, .int .i64 p0.2.1, .int .i64 p0.2.2.1, .string p0.2.2.2.1] z0b fun b1 =>
 L.load eI6 ((⟨b1, 0, none⟩ : Addr).add 1) fun (x2 : Int) =>
 L.ite (x2 == 1) (
  L.load eI6 ((⟨b1, 0, none⟩ : Addr).add 0) fun (x3 : Int) =>
  L.load eI6 ((⟨b1, 0, none⟩ : Addr).add 2) fun (x4 : Int) =>
  L.new [.int .i64 x3, .int .i64 x4] z0d fun b5 =>
  L.call Pr z0e [.string znS, .slice (some ⟨b5, 0, none⟩) 2 2] rS fun (x6 : ByteArray) =>
  K (.string x6)) <|
 L.ite (x2 == 2) (
  L.load eI6 ((⟨b1, 0, none⟩ : Addr).add 0) fun (x7 : Int) =>
  L.new [.int .i64 x7] z0d fun b8 =>
  L.call Pr z0e [.string zl8, .slice (some ⟨b8, 0, none⟩) 1 1] rS fun (x9 : ByteArray) =>
  K (.string x9)) <|
 L.ite (x2 == 3) (
  L.load eI6 ((⟨b1, 0, none⟩ : Addr).add 0) fun (x10 : Int) =>
  L.new [.int .i64 x10] z0d fun b11 =>
  L.call Pr z0e [.string zo1, .slice (some ⟨b11, 0, none⟩) 1 1] rS fun (x12 : ByteArray) =>
  K (.string x12)) <|
 L.join (Y := ByteArray × Unit) (fun k13 =>
  L.draw <|
  L.load eI6 ((⟨b1, 0, none⟩ : Addr).add 0) fun (x15 : Int) =>
  L.load eS6 ((⟨b1, 0, none⟩ : Addr).add 3) fun (x16 : ByteArray) =>
  L.alts [(
    L.new [.int .i64 x15] z0d fun b17 =>
    L.chk ((⟨b1, 0, none⟩ : Addr).add 3) [.string x16] <|
    L.alts [(
      L.call Pr z0e [.string s_refused, .slice (some ⟨b17, 0, none⟩) 1 1] rS fun (x18 : ByteArray) =>
      L.chk ((⟨b1, 0, none⟩ : Addr).add 3) [.string x16] <|
      L.new [.string x16] z00 fun b19 =>
      L.chk ((⟨b1, 0, none⟩ : Addr).add 0) [.int .i64 x15] <|
      L.call Pr z0f [.string x18, .slice (some ⟨b19, 0, none⟩) 1 1] rS fun (x20 : ByteArray) =>
      k13 (x20, ())),(
      L.new [.string x16] z00 fun b21 =>
      L.chk ((⟨b1, 0, none⟩ : Addr).add 0) [.int .i64 x15] <|
      L.call Pr z0e [.string s_refused, .slice (some ⟨b17, 0, none⟩) 1 1] rS fun (x22 : ByteArray) =>
      L.chk ((⟨b1, 0, none⟩ : Addr).add 3) [.string x16] <|
      L.call Pr z0f [.string x22, .slice (some ⟨b21, 0, none⟩) 1 1] rS fun (x23 : ByteArray) =>
      k13 (x23, ()))]),(
    L.new [.string x16] z00 fun b24 =>
    L.chk ((⟨b1, 0, none⟩ : Addr).add 0) [.int .i64 x15] <|
    L.new [.int .i64 x15] z0d fun b25 =>
    L.chk ((⟨b1, 0, none⟩ : Addr).add 3) [.string x16] <|
    L.call Pr z0e [.string s_refused, .slice (some ⟨b25, 0, none⟩) 1 1] rS fun (x26 : ByteArray) =>
    L.chk ((⟨b1, 0, none⟩ : Addr).add 3) [.string x16] <|
    L.call Pr z0f [.string x26, .slice (some ⟨b24, 0, none⟩) 1 1] rS fun (x27 : ByteArray) =>
    k13 (x27, ()))]) fun z14 =>
 K (.string z14.1)
theorem zgt (p0 : ht3) {K : Value → PT} {w : World} (h : zbU p0 K w) : CT Pr z8z [(.ag (qc3 p0) : SV).toV] K w :=
 C_of (fn := Tryz.f186) (an := zgI) (args := [.ag (qc3 p0)]) (by kernel_rfl) (by kernel_rfl) (by kernel_rfl) h
def z7k (p0 : FV) (K : Value → PT) : PT :=
 L.call Pr z6z [.func p0.fn p0.fs p0.cs] rL fun (x1 : Sl) =>
 L.call Pr z45 [.slice x1.a x1.len x1.cap] (.tup []) fun (x2 : Unit) =>
 K (.slice x1.a x1.len x1.cap)
theorem zbb (p0 : FV) {K : Value → PT} {w : World} (h : z7k p0 K w) : CT Pr z22 [.func p0.fn p0.fs p0.cs] K w :=
 C_of (fn := Tryz.f188) (an := .auto) (args := [.v (.func p0.fn p0.fs p0.cs)]) (by kernel_rfl) (by kernel_rfl) (by kernel_rfl) h
def z32 (p0 : Option Nat) (K : Value → PT) : PT :=
 L.new [.map p0] z1B fun b1 =>
 K (.func (.func z0G) #[] #[.pointer (some (⟨b1, 0, none⟩))])
theorem z5M (p0 : Option Nat) {K : Value → PT} {w : World} (h : z32 p0 K w) : CT Pr z1L [.map p0] K w :=
 C_of (fn := Tryz.f189) (an := .auto) (args := [.v (.map p0)]) (by kernel_rfl) (by kernel_rfl) (by kernel_rfl) h
def z7V (p0 : Option Addr) (p1 : Int) (K : Value → PT) : PT :=
 L.nonnil p0 fun a1 =>
 L.load (.one (.map)) (a1.add 0) fun (x2 : Option Nat) =>
 L.semR Pr rB (Instr.lookup z1B (.map x2) (.int .i64 p1) false) fun (x3 : Bool) =>
 L.ite (!x3) (
  K (.int .i64 6)) <|
 L.nonnil p0 fun a4 =>
 L.load (.one (.map)) (a4.add 0) fun (x5 : Option Nat) =>
 L.sem Pr (.tup []) (Builtin.delete_ #[z1B, z0d] T_ #[.map x5, .int .i64 p1]) fun _ =>
 K (.int .i64 0)
theorem zcc (p0 : Option Addr) (p1 : Int) {K : Value → PT} {w : World} (h : z7V p0 p1 K w) : CT Pr z5t [.pointer p0, .int .i64 p1] K w :=
 C_of (fn := Tryz.f190) (an := .auto) (args := [.v (.pointer p0), .v (.int .i64 p1)]) (by kernel_rfl) (by kernel_rfl) (by kernel_rfl) h
def z9P (p0 : Option Addr) (K : Value → PT) : PT :=
 L.nonnil p0 fun a1 =>
 L.load eI6 (a1.add 0) fun (x2 : Int) =>
 K (.int .i64 x2)
theorem zeL (p0 : Option Addr) {K : Value → PT} {w : World} (h : z9P p0 K w) : CT Pr z1m [.pointer p0] K w :=
 C_of (fn := Tryz.f191) (an := .auto) (args := [.v (.pointer p0)]) (by kernel_rfl) (by kernel_rfl) (by kernel_rfl) h
def z6T : Ann := (.seq .auto (.one [(12, (.one (.int .i64)))] .auto) none)
def z3V (p0 : FV) (c0 : Addr) (K : Value → PT) : PT :=
 L.load eP6 c0 fun (x1 : Option Addr) =>
 L.nonnil x1 fun a2 =>
 L.load (.one (.map)) (a2.add 0) fun (x3 : Option Nat) =>
 L.call Pr z0V [.map x3] (.one (.one (.func))) fun (x4 : FV) =>
 L.call Pr z0Q [.func x4.fn x4.fs x4.cs] rL fun (x5 : Sl) =>
 L.loop (Y := Int × Unit) (0, ()) fun y6 again7 =>
 L.ite (decide (y6.1 < ((x5.len : Nat) : Int))) (
  L.idx x5.a y6.1 x5.len 1 fun a8 =>
  L.load eS6 a8 fun (x9 : ByteArray) =>
  L.load eP6 c0 fun (x10 : Option Addr) =>
  L.nonnil x10 fun a11 =>
  L.load (.one (.map)) (a11.add 0) fun (x12 : Option Nat) =>
  L.semR Pr rP (Instr.lookup z0E (.map x12) (.string x9) false) fun (x13 : Option Addr) =>
  L.callV Pr (.func p0.fn p0.fs p0.cs) [.string x9, .pointer x13] rB fun (x14 : Bool) =>
  L.ite (!x14) (
   K (.tuple #[])) <|
  again7 (IntKind.wrap .i64 (y6.1 + 1), ())) <|
 K (.tuple #[])
theorem z6S (p0 : FV) (c0 : Addr) {K : Value → PT} {w : World} (h : z3V p0 c0 K w) : CT Pr z1k [.func p0.fn p0.fs p0.cs, .pointer (some c0)] K w :=
 C_of (fn := Tryz.f192) (an := z6T) (args := [.v (.func p0.fn p0.fs p0.cs), .v (.pointer (some c0))]) (by kernel_rfl) (by kernel_rfl) (by kernel_rfl) h
theorem z6P : Enters Pr z1k := z0o (by kernel_rfl)
def z5S (p0 : FV) (K : Value → PT) : PT :=
 L.call Pr z5r [.func p0.fn p0.fs p0.cs] rL fun (x1 : Sl) =>
 L.call Pr z2A [.slice x1.a x1.len x1.cap] (.tup []) fun (x2 : Unit) =>
 K (.slice x1.a x1.len x1.cap)
theorem z9i (p0 : FV) {K : Value → PT} {w : World} (h : z5S p0 K w) : CT Pr z0Q [.func p0.fn p0.fs p0.cs] K w :=
 C_of (fn := Tryz.f193) (an := .auto) (args := [.v (.func p0.fn p0.fs p0.cs)]) (by kernel_rfl) (by kernel_rfl) (by kernel_rfl) h
def z1t (p0 : Option Nat) (K : Value → PT) : PT :=
 L.new [.map p0] z0E fun b1 =>
 K (.func (.func z0a) #[] #[.pointer (some (⟨b1, 0, none⟩))])
theorem z2U (p0 : Option Nat) {K : Value → PT} {w : World} (h : z1t p0 K w) : CT Pr z0V [.map p0] K w :=
 C_of (fn := Tryz.f194) (an := .auto) (args := [.v (.map p0)]) (by kernel_rfl) (by kernel_rfl) (by kernel_rfl) h
def zbk : Ann := (.seq .auto (.seq .auto (.seq .auto (.seq (.seq .auto (.seq .auto .auto (some [(11, (.one (.int .i64))), (12, (.one (.int .i64)))])) none) .auto none) none) none) none)
def z7d (p0 : Option Addr) (p1 : Int) (K : Value → PT) : PT :=
 L.new [.int .i64 p1] z0d fun b1 =>
 L.new [.slice none 0 0] z1i fun b2 =>
 L.new [.slice none 0 0] z1h fun b3 =>
 L.call Pr z1Z [.pointer p0] (.one (.one (.func))) fun (x4 : FV) =>
 L.range Pr none (.func x4.fn x4.fs x4.cs) [eI6, eI6] (fun l5 (y6 : Int × Int × Unit) R7 =>
  L.begin Pr l5 <|
  L.load eI6 (⟨b1, 0, none⟩) fun (x10 : Int) =>
  L.ite (decide (y6.2.1 ≤ x10)) (
   L.load eL6 (⟨b2, 0, none⟩) fun (x11 : Sl) =>
   L.new [.int .i64 y6.1] z0d fun b12 =>
   L.sem Pr (.one (.one .slice)) (Builtin.append_ #[z1i, z1i] z1i #[.slice x11.a x11.len x11.cap, .slice (some ⟨b12, 0, none⟩) 1 1]) fun (s13 : Sl) =>
   L.store (⟨b2, 0, none⟩) [.slice s13.a s13.len s13.cap] <|
   L.endRound Pr l5 none R7) <|
  L.load eL6 (⟨b3, 0, none⟩) fun (x14 : Sl) =>
  L.new [.int .i64 y6.1, .int .i64 y6.2.1] z2j fun b15 =>
  L.sem Pr (.one (.one .slice)) (Builtin.append_ #[z1h, z1h] z1h #[.slice x14.a x14.len x14.cap, .slice (some ⟨b15, 0, none⟩) 1 1]) fun (s16 : Sl) =>
  L.store (⟨b3, 0, none⟩) [.slice s16.a s16.len s16.cap] <|
  L.endRound Pr l5 none R7) fun d8 j9 =>
 L.jump j9 (
  L.load eL6 (⟨b3, 0, none⟩) fun (x17 : Sl) =>
  L.nonnil p0 fun a18 =>
  L.store (a18.add 0) [.slice x17.a x17.len x17.cap] <|
  L.load eL6 (⟨b2, 0, none⟩) fun (x19 : Sl) =>
  L.call Pr z0R [.slice x19.a x19.len x19.cap] rL fun (x20 : Sl) =>
  L.unmark Pr (d8 ++ []) <|
  K (.slice x20.a x20.len x20.cap)) (
  L.unmark Pr (d8 ++ []) <|
  K (.slice none 0 0)) []
theorem zb5 (p0 : Option Addr) (p1 : Int) {K : Value → PT} {w : World} (h : z7d p0 p1 K w) : CT Pr z73 [.pointer p0, .int .i64 p1] K w :=
 C_of (fn := Tryz.f195) (an := zbk) (args := [.v (.pointer p0), .v (.int .i64 p1)]) (by kernel_rfl) (by kernel_rfl) (by kernel_rfl) h
def z35 (p0 : Option Nat) (K : Value → PT) : PT :=
 L.call Pr z1c [.map p0] (.one (.one (.func))) fun (x1 : FV) =>
 L.call Pr z0Q [.func x1.fn x1.fs x1.cs] rL fun (x2 : Sl) =>
 K (.slice x2.a x2.len x2.cap)
theorem z5N (p0 : Option Nat) {K : Value → PT} {w : World} (h : z35 p0 K w) : CT Pr z1l [.map p0] K w :=
 C_of (fn := Tryz.f196) (an := .auto) (args := [.v (.map p0)]) (by kernel_rfl) (by kernel_rfl) (by kernel_rfl) h
def z7i (p0 : Option Addr) (p1 : ByteArray) (K : Value → PT) : PT :=
 L.call Pr z3q [.pointer p0, .string p1, .func (.func z2W) #[] #[]] rS fun (x1 : ByteArray) =>
 L.call Pr z3q [.pointer p0, .string p1, .func (.func z1D) #[.pointer p0] #[]] rS fun (x2 : ByteArray) =>
 K (.tuple #[.string x1, .string x2])
theorem zba (p0 : Option Addr) (p1 : ByteArray) {K : Value → PT} {w : World} (h : z7i p0 p1 K w) : CT Pr z4W [.pointer p0, .string p1] K w :=
 C_of (fn := Tryz.f197) (an := .auto) (args := [.v (.pointer p0), .v (.string p1)]) (by kernel_rfl) (by kernel_rfl) (by kernel_rfl) h
def z7B : Ann := (.seq .auto (.one [(9, (.one (.int .i64)))] .auto) none)
def z4g (p0 : FV) (c0 : Addr) (K : Value → PT) : PT :=
 L.load (.one (.map)) c0 fun (x1 : Option Nat) =>
 L.call Pr z1v [.map x1] (.one (.one (.func))) fun (x2 : FV) =>
 L.call Pr z0Q [.func x2.fn x2.fs x2.cs] rL fun (x3 : Sl) =>
 L.loop (Y := Int × Unit) (0, ()) fun y4 again5 =>
 L.ite (decide (y4.1 < ((x3.len : Nat) : Int))) (
  L.idx x3.a y4.1 x3.len 1 fun a6 =>
  L.load eS6 a6 fun (x7 : ByteArray) =>
  L.load (.one (.map)) c0 fun (x8 : Option Nat) =>
  L.semR Pr rI (Instr.lookup z0H (.map x8) (.string x7) false) fun (x9 : Int) =>
  L.callV Pr (.func p0.fn p0.fs p0.cs) [.string x7, .int .i64 x9] rB fun (x10 : Bool) =>
  L.ite (!x10) (
   K (.tuple #[])) <|
  again5 (IntKind.wrap .i64 (y4.1 + 1), ())) <|
 K (.tuple #[])
theorem z7y (p0 : FV) (c0 : Addr) {K : Value → PT} {w : World} (h : z4g p0 c0 K w) : CT Pr z1n [.func p0.fn p0.fs p0.cs, .pointer (some c0)] K w :=
 C_of (fn := Tryz.f198) (an := z7B) (args := [.v (.func p0.fn p0.fs p0.cs), .v (.pointer (some c0))]) (by kernel_rfl) (by kernel_rfl) (by kernel_rfl) h
theorem z7t : Enters Pr z1n := z0o (by kernel_rfl)
def z2t (p0 : Option Nat) (K : Value → PT) : PT :=
 L.new [.map p0] z0H fun b1 =>
 K (.func (.func z0v) #[] #[.pointer (some (⟨b1, 0, none⟩))])
theorem z4I (p0 : Option Nat) {K : Value → PT} {w : World} (h : z2t p0 K w) : CT Pr z1v [.map p0] K w :=
 C_of (fn := Tryz.f199) (an := .auto) (args := [.v (.map p0)]) (by kernel_rfl) (by kernel_rfl) (by kernel_rfl) h
def z6n : Ann := (.seq .auto (.one [(9, (.one (.int .i64)))] .auto) none)
def z3n (p0 : FV) (c0 : Addr) (K : Value → PT) : PT :=
 L.load (.one (.map)) c0 fun (x1 : Option Nat) =>
 L.call Pr z1a [.map x1] (.one (.one (.func))) fun (x2 : FV) =>
 L.call Pr z0Q [.func x2.fn x2.fs x2.cs] rL fun (x3 : Sl) =>
 L.loop (Y := Int × Unit) (0, ()) fun y4 again5 =>
 L.ite (decide (y4.1 < ((x3.len : Nat) : Int))) (
  L.idx x3.a y4.1 x3.len 1 fun a6 =>
  L.load eS6 a6 fun (x7 : ByteArray) =>
  L.load (.one (.map)) c0 fun (x8 : Option Nat) =>
  L.semR Pr rS (Instr.lookup z0q (.map x8) (.string x7) false) fun (x9 : ByteArray) =>
  L.callV Pr (.func p0.fn p0.fs p0.cs) [.string x7, .string x9] rB fun (x10 : Bool) =>
  L.ite (!x10) (
   K (.tuple #[])) <|
  again5 (IntKind.wrap .i64 (y4.1 + 1), ())) <|
 K (.tuple #[])
theorem z6l (p0 : FV) (c0 : Addr) {K : Value → PT} {w : World} (h : z3n p0 c0 K w) : CT Pr z18 [.func p0.fn p0.fs p0.cs, .pointer (some c0)] K w :=
 C_of (fn := Tryz.f200) (an := z6n) (args := [.v (.func p0.fn p0.fs p0.cs), .v (.pointer (some c0))]) (by kernel_rfl) (by kernel_rfl) (by kernel_rfl) h
theorem z6j : Enters Pr z18 := z0o (by kernel_rfl)
def z1N (p0 : Option Nat) (K : Value → PT) : PT :=
 L.new [.map p0] z0q fun b1 =>
 K (.func (.func z0k) #[] #[.pointer (some (⟨b1, 0, none⟩))])
theorem z3C (p0 : Option Nat) {K : Value → PT} {w : World} (h : z1N p0 K w) : CT Pr z1a [.map p0] K w :=
 C_of (fn := Tryz.f201) (an := .auto) (args := [.v (.map p0)]) (by kernel_rfl) (by kernel_rfl) (by kernel_rfl) h
def z2O (p0 : Sl) (K : Value → PT) : PT :=
 L.ite ((p0.a).isNone) (
  K (.slice none 0 0)) <|
 L.new [] z0t fun b1 =>
 L.sem Pr (.one (.one .slice)) (Builtin.append_ #[z0A, z0A] z0A #[.slice (some ⟨b1, 0, none⟩) 0 0, .slice p0.a p0.len p0.cap]) fun (s2 : Sl) =>
 K (.slice s2.a s2.len s2.cap)
theorem z5k (p0 : Sl) {K : Value → PT} {w : World} (h : z2O p0 K w) : CT Pr z0w [.slice p0.a p0.len p0.cap] K w :=
 C_of (fn := Tryz.f202) (an := .auto) (args := [.v (.slice p0.a p0.len p0.cap)]) (by kernel_rfl) (by kernel_rfl) (by kernel_rfl) h
def z2N (p0 : Sl) (K : Value → PT) : PT :=
 L.ite ((p0.a).isNone) (
  K (.slice none 0 0)) <|
 L.new [] z34 fun b1 =>
 L.sem Pr (.one (.one .slice)) (Builtin.append_ #[z3z, z3z] z3z #[.slice (some ⟨b1, 0, none⟩) 0 0, .slice p0.a p0.len p0.cap]) fun (s2 : Sl) =>
 K (.slice s2.a s2.len s2.cap)
theorem z5j (p0 : Sl) {K : Value → PT} {w : World} (h : z2N p0 K w) : CT Pr z1K [.slice p0.a p0.len p0.cap] K w :=
 C_of (fn := Tryz.f203) (an := .auto) (args := [.v (.slice p0.a p0.len p0.cap)]) (by kernel_rfl) (by kernel_rfl) (by kernel_rfl) h
def z6m : Ann := (.seq .auto (.seq .auto (.seq (.seq .auto (.one [(5, (.one (.slice))), (12, (.one (.int .i64)))] (.seq .auto (.seq .auto (.seq (.seq .auto (.seq .auto (.one [(5, (.one (.slice))), (18, (.one (.int .i64)))] .auto) none) none) .auto none) none) none)) none) .auto none) none) none)
def z3m (p0 : FV) (p1 : Sl) (K : Value → PT) : PT :=
 L.loop (Y := Sl × Int × Unit) (⟨none, 0, 0⟩, 0, ()) fun y1 again2 =>
 L.ite (decide (y1.2.1 < ((p1.len : Nat) : Int))) (
  L.idx p1.a y1.2.1 p1.len 1 fun a3 =>
  L.load eL6 a3 fun (x4 : Sl) =>
  L.loop (Y := Sl × Int × Unit) (⟨y1.1.a, y1.1.len, y1.1.cap⟩, 0, ()) fun y5 again6 =>
  L.ite (decide (y5.2.1 < ((x4.len : Nat) : Int))) (
   L.idx x4.a y5.2.1 x4.len 2 fun a7 =>
   L.load (.agg [.str, .int .i64]) a7 fun (x8 : ByteArray × Int × Unit) =>
   L.new [.string s_, .int .i64 0] z0t fun b9 =>
   L.store (⟨b9, 0, none⟩) [.string x8.1, .int .i64 x8.2.1] <|
   L.load (.agg [.str, .int .i64]) (⟨b9, 0, none⟩) fun (x10 : ByteArray × Int × Unit) =>
   L.callV Pr (.func p0.fn p0.fs p0.cs) [.agg #[.string x10.1, .int .i64 x10.2.1]] rS fun (x11 : ByteArray) =>
   L.new [.string x11] z00 fun b12 =>
   L.sem Pr (.one (.one .slice)) (Builtin.append_ #[z06, z06] z06 #[.slice y5.1.a y5.1.len y5.1.cap, .slice (some ⟨b12, 0, none⟩) 1 1]) fun (s13 : Sl) =>
   again6 (⟨s13.a, s13.len, s13.cap⟩, IntKind.wrap .i64 (y5.2.1 + 1), ())) <|
  again2 (⟨y5.1.a, y5.1.len, y5.1.cap⟩, IntKind.wrap .i64 (y1.2.1 + 1), ())) <|
 L.call Pr z2A [.slice y1.1.a y1.1.len y1.1.cap] (.tup []) fun (x14 : Unit) =>
 L.call Pr z3l [.slice y1.1.a y1.1.len y1.1.cap] rL fun (x15 : Sl) =>
 K (.slice x15.a x15.len x15.cap)
theorem z6k (p0 : FV) (p1 : Sl) {K : Value → PT} {w : World} (h : z3m p0 p1 K w) : CT Pr z2i [.func p0.fn p0.fs p0.cs, .slice p1.a p1.len p1.cap] K w :=
 C_of (fn := Tryz.f204) (an := z6m) (args := [.v (.func p0.fn p0.fs p0.cs), .v (.slice p1.a p1.len p1.cap)]) (by kernel_rfl) (by kernel_rfl) (by kernel_rfl) h
def zfx (p0 : HT [.str, .int .i64]) (K : Value → PT) : PT :=
 L.new [.string p0.1, .int .i64 p0.2.1] z0t fun b1 =>
 L.load eS6 ((⟨b1, 0, none⟩ : Addr).add 0) fun (x2 : ByteArray) =>
 K (.string x2)
theorem zkF (p0 : HT [.str, .int .i64]) {K : Value → PT} {w : World} (h : zfx p0 K w) : CT Pr zab [(.ag [.string p0.1, .int .i64 p0.2.1] : SV).toV] K w :=
 C_of (fn := Tryz.f205) (an := .auto) (args := [.ag [.string p0.1, .int .i64 p0.2.1]]) (by kernel_rfl) (by kernel_rfl) (by kernel_rfl) h
theorem zkC : Enters Pr zab := z0o (by kernel_rfl)
def zbY (p0 : Sl) (p1 : ByteArray) (K : Value → PT) : PT :=
 L.new [.string p1] z00 fun b1 =>
 L.call Pr z2n [.slice p0.a p0.len p0.cap, .func (.func z5s) #[] #[.pointer (some (⟨b1, 0, none⟩))]] rI fun (x2 : Int) =>
 L.ite (decide (x2 < 0)) (
  K (.int .i64 0)) <|
 L.idx p0.a x2 p0.len 2 fun a3 =>
 L.load eI6 (a3.add 1) fun (x4 : Int) =>
 K (.int .i64 x4)
theorem zgx (p0 : Sl) (p1 : ByteArray) {K : Value → PT} {w : World} (h : zbY p0 p1 K w) : CT Pr z4l [.slice p0.a p0.len p0.cap, .string p1] K w :=
 C_of (fn := Tryz.f206) (an := .auto) (args := [.v (.slice p0.a p0.len p0.cap), .v (.string p1)]) (by kernel_rfl) (by kernel_rfl) (by kernel_rfl) h
def zcu : Ann := (.seq .auto (.seq .auto (.seq (.seq .auto (.seq .auto .auto (some [(11, (.one (.int .i64))), (12, (.one (.ptr)))])) none) .auto none) none) none)
def z82 (p0 : Option Addr) (p1 : ByteArray) (K : Value → PT) : PT :=
 L.new [.slice none 0 0] z1r fun b1 =>
 L.call Pr z2V [.pointer p0, .string p1] (.one (.one (.func))) fun (x2 : FV) =>
 L.range Pr none (.func x2.fn x2.fs x2.cs) [eI6, eP6] (fun l3 (y4 : Int × Option Addr × Unit) R5 =>
  L.begin Pr l3 <|
  L.draw <|
  L.load eL6 (⟨b1, 0, none⟩) fun (x8 : Sl) =>
  L.call Pr z1m [.pointer y4.2.1] rI fun (x9 : Int) =>
  L.chk (⟨b1, 0, none⟩) [.slice x8.a x8.len x8.cap] <|
  L.call Pr z2c [.pointer y4.2.1] rI fun (x10 : Int) =>
  L.chk (⟨b1, 0, none⟩) [.slice x8.a x8.len x8.cap] <|
  L.new [.int .i64 y4.1, .int .i64 x9, .int .i64 x10] z4a fun b11 =>
  L.chk (⟨b1, 0, none⟩) [.slice x8.a x8.len x8.cap] <|
  L.sem Pr (.one (.one .slice)) (Builtin.append_ #[z1r, z1r] z1r #[.slice x8.a x8.len x8.cap, .slice (some ⟨b11, 0, none⟩) 1 1]) fun (s12 : Sl) =>
  L.store (⟨b1, 0, none⟩) [.slice s12.a s12.len s12.cap] <|
  L.endRound Pr l3 none R5) fun d6 j7 =>
 L.jump j7 (
  L.load eL6 (⟨b1, 0, none⟩) fun (x13 : Sl) =>
  L.call Pr z1z [.slice x13.a x13.len x13.cap] rL fun (x14 : Sl) =>
  L.unmark Pr (d6 ++ []) <|
  K (.slice x14.a x14.len x14.cap)) (
  L.unmark Pr (d6 ++ []) <|
  K (.slice none 0 0)) []
theorem zck (p0 : Option Addr) (p1 : ByteArray) {K : Value → PT} {w : World} (h : z82 p0 p1 K w) : CT Pr z5z [.pointer p0, .string p1] K w :=
 C_of (fn := Tryz.f207) (an := zcu) (args := [.v (.pointer p0), .v (.string p1)]) (by kernel_rfl) (by kernel_rfl) (by kernel_rfl) h
def z97 (p0 : Option Addr) (p1 : ByteArray) (K : Value → PT) : PT :=
 L.new [.pointer p0] z0K fun b1 =>
 L.new [.string p1] z00 fun b2 =>
 K (.func (.func z2X) #[] #[.pointer (some (⟨b1, 0, none⟩)), .pointer (some (⟨b2, 0, none⟩))])
theorem zdB (p0 : Option Addr) (p1 : ByteArray) {K : Value → PT} {w : World} (h : z97 p0 p1 K w) : CT Pr z2V [.pointer p0, .string p1] K w :=
 C_of (fn := Tryz.f209) (an := .auto) (args := [.v (.pointer p0), .v (.string p1)]) (by kernel_rfl) (by kernel_rfl) (by kernel_rfl) h
def z87 (p0 : Option Addr) (K : Value → PT) : PT :=
 L.nonnil p0 fun a1 =>
 L.load (.one (.map)) ((a1.add 1).add 0) fun (x2 : Option Nat) =>
 L.semR Pr rI (Builtin.len_ #[z1B] z0d #[.map x2]) fun (x3 : Int) =>
 K (.int .i64 x3)
theorem zaQ (p0 : Option Addr) {K : Value → PT} {w : World} (h : z87 p0 K w) : CT Pr z2c [.pointer p0] K w :=
 C_of (fn := Tryz.f210) (an := .auto) (args := [.v (.pointer p0)]) (by kernel_rfl) (by kernel_rfl) (by kernel_rfl) h
def zgM : Ann := (.seq .auto (.cond .auto .auto) none)
def zc0 (p0 : Option Addr) (K : Value → PT) : PT :=
 L.nonnil p0 fun a1 =>
 L.load eI6 (a1.add 0) fun (x2 : Int) =>
 L.ite (x2 == 3) (
  L.call Pr z2c [.pointer p0] rI fun (x3 : Int) =>
  L.ite (x3 == 0) (
   L.nonnil p0 fun a4 =>
   L.store (a4.add 0) [.int .i64 4] <|
   K (.tuple #[])) <|
  K (.tuple #[])) <|
 K (.tuple #[])
theorem zgz (p0 : Option Addr) {K : Value → PT} {w : World} (h : zc0 p0 K w) : CT Pr z8D [.pointer p0] K w :=
 C_of (fn := Tryz.f211) (an := zgM) (args := [.v (.pointer p0)]) (by kernel_rfl) (by kernel_rfl) (by kernel_rfl) h
def za4 : Ann := (.seq .auto (.one [(10, (.one (.int .i64)))] .auto) none)
def z6e (p0 : FV) (c0 : Addr) (K : Value → PT) : PT :=
 L.load eP6 c0 fun (x1 : Option Addr) =>
 L.nonnil x1 fun a2 =>
 L.load eL6 (a2.add 0) fun (x3 : Sl) =>
 L.loop (Y := Int × Unit) (0, ()) fun y4 again5 =>
 L.ite (decide (y4.1 < ((x3.len : Nat) : Int))) (
  L.idx x3.a y4.1 x3.len 2 fun a6 =>
  L.load (.agg [.int .i64, .int .i64]) a6 fun (x7 : Int × Int × Unit) =>
  L.new [.int .i64 0, .int .i64 0] z2j fun b8 =>
  L.store (⟨b8, 0, none⟩) [.int .i64 x7.1, .int .i64 x7.2.1] <|
  L.load eI6 ((⟨b8, 0, none⟩ : Addr).add 0) fun (x9 : Int) =>
  L.load eI6 ((⟨b8, 0, none⟩ : Addr).add 1) fun (x10 : Int) =>
  L.callV Pr (.func p0.fn p0.fs p0.cs) [.int .i64 x9, .int .i64 x10] rB fun (x11 : Bool) =>
  L.ite (!x11) (
   K (.tuple #[])) <|
  again5 (IntKind.wrap .i64 (y4.1 + 1), ())) <|
 K (.tuple #[])
theorem z9W (p0 : FV) (c0 : Addr) {K : Value → PT} {w : World} (h : z6e p0 c0 K w) : CT Pr z2h [.func p0.fn p0.fs p0.cs, .pointer (some c0)] K w :=
 C_of (fn := Tryz.f223) (an := za4) (args := [.v (.func p0.fn p0.fs p0.cs), .v (.pointer (some c0))]) (by kernel_rfl) (by kernel_rfl) (by kernel_rfl) h
theorem z9S : Enters Pr z2h := z0o (by kernel_rfl)
def z3X : Ann := (.seq .auto (.seq (.seq .auto (.one [(8, (.one (.int .i64)))] .auto) none) .auto none) none)
def z2a (p0 : Sl) (p1 : FV) (K : Value → PT) : PT :=
 L.loop (Y := Int × Unit) (0, ()) fun y1 again2 =>
 L.ite (decide (y1.1 < ((p0.len : Nat) : Int))) (
  L.idx p0.a y1.1 p0.len 3 fun a3 =>
  L.load (.agg [.str, .str, .int .i64]) a3 fun (x4 : pt9) =>
  L.callV Pr (.func p1.fn p1.fs p1.cs) [.agg #[.string x4.1, .string x4.2.1, .int .i64 x4.2.2.1]] rB fun (x5 : Bool) =>
  L.ite x5 (
   K (.int .i64 y1.1)) <|
  again2 (IntKind.wrap .i64 (y1.1 + 1), ())) <|
 K (.int .i64 (-1))
theorem z3W (p0 : Sl) (p1 : FV) {K : Value → PT} {w : World} (h : z2a p0 p1 K w) : CT Pr z27 [.slice p0.a p0.len p0.cap, .func p1.fn p1.fs p1.cs] K w :=
 C_of (fn := Tryz.f228) (an := z3X) (args := [.v (.slice p0.a p0.len p0.cap), .v (.func p1.fn p1.fs p1.cs)]) (by kernel_rfl) (by kernel_rfl) (by kernel_rfl) h
def z1s (p0 : Sl) (p1 : FV) (K : Value → PT) : PT :=
 L.call Pr z2z [.slice p0.a p0.len p0.cap, .int .i64 ((p0.len : Nat) : Int), .func p1.fn p1.fs p1.cs] (.tup []) fun (x1 : Unit) =>
 K (.tuple #[])
theorem z2T (p0 : Sl) (p1 : FV) {K : Value → PT} {w : World} (h : z1s p0 p1 K w) : CT Pr z0U [.slice p0.a p0.len p0.cap, .func p1.fn p1.fs p1.cs] K w :=
 C_of (fn := Tryz.f235) (an := .auto) (args := [.v (.slice p0.a p0.len p0.cap), .v (.func p1.fn p1.fs p1.cs)]) (by kernel_rfl) (by kernel_rfl) (by kernel_rfl) h
def z6H (p0 : HT [.int .i64, .int .i64]) (p1 : HT [.int .i64, .int .i64]) (K : Value → PT) : PT :=
 L.new [.int .i64 p0.1, .int .i64 p0.2.1] z0S fun b1 =>
 L.new [.int .i64 p1.1, .int .i64 p1.2.1] z0S fun b2 =>
 L.load eI6 ((⟨b1, 0, none⟩ : Addr).add 0) fun (x3 : Int) =>
 L.load eI6 ((⟨b2, 0, none⟩ : Addr).add 0) fun (x4 : Int) =>
 K (.int .i64 (IntKind.wrap .i64 (x3 - x4)))
theorem zay (p0 : HT [.int .i64, .int .i64]) (p1 : HT [.int .i64, .int .i64]) {K : Value → PT} {w : World} (h : z6H p0 p1 K w) : CT Pr z1w [(.ag [.int .i64 p0.1, .int .i64 p0.2.1] : SV).toV, (.ag [.int .i64 p1.1, .int .i64 p1.2.1] : SV).toV] K w :=
 C_of (fn := Tryz.f236) (an := .auto) (args := [.ag [.int .i64 p0.1, .int .i64 p0.2.1], .ag [.int .i64 p1.1, .int .i64 p1.2.1]]) (by kernel_rfl) (by kernel_rfl) (by kernel_rfl) h
theorem zao : Enters Pr z1w := z0o (by kernel_rfl)
def zaK (p0 : Option Addr) (p1 : Int) (K : Value → PT) : PT :=
 L.nonnil p0 fun a1 =>
 L.load eI6 (a1.add 0) fun (x2 : Int) =>
 L.ite (x2 != 2) (
  K (.int .i64 9)) <|
 L.nonnil p0 fun a3 =>
 L.call Pr z8f [.pointer (some (a3.add 1)), .int .i64 p1] rI fun (x4 : Int) =>
 K (.int .i64 x4)
theorem zeU (p0 : Option Addr) (p1 : Int) {K : Value → PT} {w : World} (h : zaK p0 p1 K w) : CT Pr z62 [.pointer p0, .int .i64 p1] K w :=
 C_of (fn := Tryz.f237) (an := .auto) (args := [.v (.pointer p0), .v (.int .i64 p1)]) (by kernel_rfl) (by kernel_rfl) (by kernel_rfl) h
def z6E (p0 : FV) (K : Value → PT) : PT :=
 L.call Pr z2P [.slice none 0 0, .func p0.fn p0.fs p0.cs] rL fun (x1 : Sl) =>
 K (.slice x1.a x1.len x1.cap)
theorem zav (p0 : FV) {K : Value → PT} {w : World} (h : z6E p0 K w) : CT Pr z6z [.func p0.fn p0.fs p0.cs] K w :=
 C_of (fn := Tryz.f238) (an := .auto) (args := [.v (.func p0.fn p0.fs p0.cs)]) (by kernel_rfl) (by kernel_rfl) (by kernel_rfl) h
def z5a : Ann := (.seq .auto (.one [] (.seq .auto (.seq (.cond .auto .auto) .auto none) none)) none)
def z2G (p0 : FV) (c0 : Addr) (K : Value → PT) : PT :=
 L.load (.one (.map)) c0 fun (x1 : Option Nat) =>
 L.sem Pr (.one (.one .ptr)) (Instr.range z1B (.map x1)) fun (it2 : Option Addr) =>
 L.loop (Y := Unit) (()) fun y3 again4 =>
 L.next Pr [eI6, eB6] (Instr.next (.pointer it2) false T_) (
  K (.tuple #[])) fun (x5 : Int × Bool × Unit) =>
 L.sem Pr (.tup [eI6, eB6]) (Instr.entry (.pointer it2)) fun (x6 : Int × Bool × Unit) =>
 L.callV Pr (.func p0.fn p0.fs p0.cs) [.int .i64 x6.1] rB fun (x7 : Bool) =>
 L.ite (!x7) (
  K (.tuple #[])) <|
 again4 (())
theorem z58 (p0 : FV) (c0 : Addr) {K : Value → PT} {w : World} (h : z2G p0 c0 K w) : CT Pr z0G [.func p0.fn p0.fs p0.cs, .pointer (some c0)] K w :=
 C_of (fn := Tryz.f239) (an := z5a) (args := [.v (.func p0.fn p0.fs p0.cs), .v (.pointer (some c0))]) (by kernel_rfl) (by kernel_rfl) (by kernel_rfl) h
theorem z56 : Enters Pr z0G := z0o (by kernel_rfl)
def z5I (p0 : FV) (K : Value → PT) : PT :=
 L.call Pr z1W [.slice none 0 0, .func p0.fn p0.fs p0.cs] rL fun (x1 : Sl) =>
 K (.slice x1.a x1.len x1.cap)
theorem z8P (p0 : FV) {K : Value → PT} {w : World} (h : z5I p0 K w) : CT Pr z5r [.func p0.fn p0.fs p0.cs] K w :=
 C_of (fn := Tryz.f240) (an := .auto) (args := [.v (.func p0.fn p0.fs p0.cs)]) (by kernel_rfl) (by kernel_rfl) (by kernel_rfl) h
def z2J : Ann := (.seq .auto (.one [] (.seq .auto (.seq (.cond .auto .auto) .auto none) none)) none)
def z1q (p0 : FV) (c0 : Addr) (K : Value → PT) : PT :=
 L.load (.one (.map)) c0 fun (x1 : Option Nat) =>
 L.sem Pr (.one (.one .ptr)) (Instr.range z0E (.map x1)) fun (it2 : Option Addr) =>
 L.loop (Y := Unit) (()) fun y3 again4 =>
 L.next Pr [eS6, eP6] (Instr.next (.pointer it2) false T_) (
  K (.tuple #[])) fun (x5 : ByteArray × Option Addr × Unit) =>
 L.sem Pr (.tup [eS6, eP6]) (Instr.entry (.pointer it2)) fun (x6 : ByteArray × Option Addr × Unit) =>
 L.callV Pr (.func p0.fn p0.fs p0.cs) [.string x6.1] rB fun (x7 : Bool) =>
 L.ite (!x7) (
  K (.tuple #[])) <|
 again4 (())
theorem z2I (p0 : FV) (c0 : Addr) {K : Value → PT} {w : World} (h : z1q p0 c0 K w) : CT Pr z0a [.func p0.fn p0.fs p0.cs, .pointer (some c0)] K w :=
 C_of (fn := Tryz.f242) (an := z2J) (args := [.v (.func p0.fn p0.fs p0.cs), .v (.pointer (some c0))]) (by kernel_rfl) (by kernel_rfl) (by kernel_rfl) h
theorem z2H : Enters Pr z0a := z0o (by kernel_rfl)
def z1d (p0 : Option Nat) (K : Value → PT) : PT :=
 L.new [.map p0] z0j fun b1 =>
 K (.func (.func z08) #[] #[.pointer (some (⟨b1, 0, none⟩))])
theorem z2l (p0 : Option Nat) {K : Value → PT} {w : World} (h : z1d p0 K w) : CT Pr z1c [.map p0] K w :=
 C_of (fn := Tryz.f243) (an := .auto) (args := [.v (.map p0)]) (by kernel_rfl) (by kernel_rfl) (by kernel_rfl) h
def zbl : Ann := (.seq .auto (.seq .auto (.seq (.seq .auto (.one [(18, (.one (.int .i64)))] (.seq .auto (.seq .auto (.seq (.seq .auto (.seq .auto (.seq .auto (.cond .auto .auto) none) none) none) .auto (some [])) none) none)) none) .auto none) none) none)
def z7h (p0 : Option Addr) (p1 : ByteArray) (p2 : FV) (K : Value → PT) : PT :=
 L.new [.string s_, .int .i64 0, .string s_, .int .i64 0, .int .i64 0, .int .i64 0, .int .i64 0, .int .i64 0] z0m fun b1 =>
 L.store (⟨b1, 0, none⟩) [.string s_, .int .i64 0, .string s_, .int .i64 0, .int .i64 0, .int .i64 0, .int .i64 0, .int .i64 0] <|
 L.nonnil p0 fun a2 =>
 L.load (.one (.map)) (a2.add 0) fun (x3 : Option Nat) =>
 L.call Pr z1l [.map x3] rL fun (x4 : Sl) =>
 L.loop (Y := Int × Unit) (0, ()) fun y5 again6 =>
 L.ite (decide (y5.1 < ((x4.len : Nat) : Int))) (
  L.join (Y := Unit) (fun k7 =>
   L.idx x4.a y5.1 x4.len 1 fun a9 =>
   L.load eS6 a9 fun (x10 : ByteArray) =>
   L.nonnil p0 fun a11 =>
   L.load (.one (.map)) (a11.add 0) fun (x12 : Option Nat) =>
   L.semR Pr (.one (.agg lf5)) (Instr.lookup z0j (.map x12) (.string x10) false) fun (x13 : pt14) =>
   L.new [.string s_, .int .i64 0, .string s_, .int .i64 0, .int .i64 0, .int .i64 0, .int .i64 0, .int .i64 0] z0m fun b14 =>
   L.store (⟨b14, 0, none⟩) [.string x13.1, .int .i64 x13.2.1, .string x13.2.2.1, .int .i64 x13.2.2.2.1, .int .i64 x13.2.2.2.2.1, .int .i64 x13.2.2.2.2.2.1, .int .i64 x13.2.2.2.2.2.2.1, .int .i64 x13.2.2.2.2.2.2.2.1] <|
   L.load eS6 (((⟨b14, 0, none⟩ : Addr).add 2).add 0) fun (x15 : ByteArray) =>
   L.ite (x15.toList == p1.toList) (
    L.load eI6 ((⟨b14, 0, none⟩ : Addr).add 1) fun (x16 : Int) =>
    L.load eI6 ((⟨b1, 0, none⟩ : Addr).add 1) fun (x17 : Int) =>
    L.ite (decide (x16 > x17)) (
     L.callV Pr (.func p2.fn p2.fs p2.cs) [.string x10] rB fun (x18 : Bool) =>
     L.ite x18 (
      L.load (.agg lf5) (⟨b14, 0, none⟩) fun (x19 : pt14) =>
      L.store (⟨b1, 0, none⟩) [.string x19.1, .int .i64 x19.2.1, .string x19.2.2.1, .int .i64 x19.2.2.2.1, .int .i64 x19.2.2.2.2.1, .int .i64 x19.2.2.2.2.2.1, .int .i64 x19.2.2.2.2.2.2.1, .int .i64 x19.2.2.2.2.2.2.2.1] <|
      k7 (())) <|
     k7 (())) <|
    k7 (())) <|
   k7 (())) fun z8 =>
  again6 (IntKind.wrap .i64 (y5.1 + 1), ())) <|
 L.load eS6 ((⟨b1, 0, none⟩ : Addr).add 0) fun (x20 : ByteArray) =>
 K (.string x20)
theorem zb9 (p0 : Option Addr) (p1 : ByteArray) (p2 : FV) {K : Value → PT} {w : World} (h : z7h p0 p1 p2 K w) : CT Pr z3q [.pointer p0, .string p1, .func p2.fn p2.fs p2.cs] K w :=
 C_of (fn := Tryz.f244) (an := zbl) (args := [.v (.pointer p0), .v (.string p1), .v (.func p2.fn p2.fs p2.cs)]) (by kernel_rfl) (by kernel_rfl) (by kernel_rfl) h
def z6i (p0 : ByteArray) (K : Value → PT) : PT :=
 K (.bool true)
theorem za2 (p0 : ByteArray) {K : Value → PT} {w : World} (h : z6i p0 K w) : CT Pr z2W [.string p0] K w :=
 C_of (fn := Tryz.f245) (an := .auto) (args := [.v (.string p0)]) (by kernel_rfl) (by kernel_rfl) (by kernel_rfl) h
theorem z9V : Enters Pr z2W := z0o (by kernel_rfl)
def z4j : Ann := (.seq .auto (.one [] (.seq .auto (.seq (.cond .auto .auto) .auto none) none)) none)
def z2k (p0 : FV) (c0 : Addr) (K : Value → PT) : PT :=
 L.load (.one (.map)) c0 fun (x1 : Option Nat) =>
 L.sem Pr (.one (.one .ptr)) (Instr.range z0H (.map x1)) fun (it2 : Option Addr) =>
 L.loop (Y := Unit) (()) fun y3 again4 =>
 L.next Pr [eS6, eI6] (Instr.next (.pointer it2) false T_) (
  K (.tuple #[])) fun (x5 : ByteArray × Int × Unit) =>
 L.sem Pr (.tup [eS6, eI6]) (Instr.entry (.pointer it2)) fun (x6 : ByteArray × Int × Unit) =>
 L.callV Pr (.func p0.fn p0.fs p0.cs) [.string x6.1] rB fun (x7 : Bool) =>
 L.ite (!x7) (
  K (.tuple #[])) <|
 again4 (())
theorem z4i (p0 : FV) (c0 : Addr) {K : Value → PT} {w : World} (h : z2k p0 c0 K w) : CT Pr z0v [.func p0.fn p0.fs p0.cs, .pointer (some c0)] K w :=
 C_of (fn := Tryz.f246) (an := z4j) (args := [.v (.func p0.fn p0.fs p0.cs), .v (.pointer (some c0))]) (by kernel_rfl) (by kernel_rfl) (by kernel_rfl) h
theorem z4h : Enters Pr z0v := z0o (by kernel_rfl)
def z3i : Ann := (.seq .auto (.one [] (.seq .auto (.seq (.cond .auto .auto) .auto none) none)) none)
def z1H (p0 : FV) (c0 : Addr) (K : Value → PT) : PT :=
 L.load (.one (.map)) c0 fun (x1 : Option Nat) =>
 L.sem Pr (.one (.one .ptr)) (Instr.range z0q (.map x1)) fun (it2 : Option Addr) =>
 L.loop (Y := Unit) (()) fun y3 again4 =>
 L.next Pr [eS6, eS6] (Instr.next (.pointer it2) false T_) (
  K (.tuple #[])) fun (x5 : ByteArray × ByteArray × Unit) =>
 L.sem Pr (.tup [eS6, eS6]) (Instr.entry (.pointer it2)) fun (x6 : ByteArray × ByteArray × Unit) =>
 L.callV Pr (.func p0.fn p0.fs p0.cs) [.string x6.1] rB fun (x7 : Bool) =>
 L.ite (!x7) (
  K (.tuple #[])) <|
 again4 (())
theorem z3g (p0 : FV) (c0 : Addr) {K : Value → PT} {w : World} (h : z1H p0 c0 K w) : CT Pr z0k [.func p0.fn p0.fs p0.cs, .pointer (some c0)] K w :=
 C_of (fn := Tryz.f247) (an := z3i) (args := [.v (.func p0.fn p0.fs p0.cs), .v (.pointer (some c0))]) (by kernel_rfl) (by kernel_rfl) (by kernel_rfl) h
theorem z3e : Enters Pr z0k := z0o (by kernel_rfl)
def z4s : Ann := (.seq .auto (.seq (.seq .auto (.one [(8, (.one (.int .i64)))] .auto) none) .auto none) none)
def z2p (p0 : Sl) (p1 : FV) (K : Value → PT) : PT :=
 L.loop (Y := Int × Unit) (0, ()) fun y1 again2 =>
 L.ite (decide (y1.1 < ((p0.len : Nat) : Int))) (
  L.idx p0.a y1.1 p0.len 2 fun a3 =>
  L.load (.agg [.str, .int .i64]) a3 fun (x4 : ByteArray × Int × Unit) =>
  L.callV Pr (.func p1.fn p1.fs p1.cs) [.agg #[.string x4.1, .int .i64 x4.2.1]] rB fun (x5 : Bool) =>
  L.ite x5 (
   K (.int .i64 y1.1)) <|
  again2 (IntKind.wrap .i64 (y1.1 + 1), ())) <|
 K (.int .i64 (-1))
theorem z4r (p0 : Sl) (p1 : FV) {K : Value → PT} {w : World} (h : z2p p0 p1 K w) : CT Pr z2n [.slice p0.a p0.len p0.cap, .func p1.fn p1.fs p1.cs] K w :=
 C_of (fn := Tryz.f249) (an := z4s) (args := [.v (.slice p0.a p0.len p0.cap), .v (.func p1.fn p1.fs p1.cs)]) (by kernel_rfl) (by kernel_rfl) (by kernel_rfl) h
def z9O (p0 : HT [.str, .int .i64]) (c0 : Addr) (K : Value → PT) : PT :=
 L.new [.string p0.1, .int .i64 p0.2.1] z0t fun b1 =>
 L.load eS6 ((⟨b1, 0, none⟩ : Addr).add 0) fun (x2 : ByteArray) =>
 L.load eS6 c0 fun (x3 : ByteArray) =>
 K (.bool (x2.toList == x3.toList))
theorem zeK (p0 : HT [.str, .int .i64]) (c0 : Addr) {K : Value → PT} {w : World} (h : z9O p0 c0 K w) : CT Pr z5s [(.ag [.string p0.1, .int .i64 p0.2.1] : SV).toV, .pointer (some c0)] K w :=
 C_of (fn := Tryz.f250) (an := .auto) (args := [.ag [.string p0.1, .int .i64 p0.2.1], .v (.pointer (some c0))]) (by kernel_rfl) (by kernel_rfl) (by kernel_rfl) h
theorem zeG : Enters Pr z5s := z0o (by kernel_rfl)
def z2v (p0 : Sl) (K : Value → PT) : PT :=
 L.ite ((p0.a).isNone) (
  K (.slice none 0 0)) <|
 L.new [] z4a fun b1 =>
 L.sem Pr (.one (.one .slice)) (Builtin.append_ #[z1r, z1r] z1r #[.slice (some ⟨b1, 0, none⟩) 0 0, .slice p0.a p0.len p0.cap]) fun (s2 : Sl) =>
 K (.slice s2.a s2.len s2.cap)
theorem z4O (p0 : Sl) {K : Value → PT} {w : World} (h : z2v p0 K w) : CT Pr z1z [.slice p0.a p0.len p0.cap] K w :=
 C_of (fn := Tryz.f251) (an := .auto) (args := [.v (.slice p0.a p0.len p0.cap)]) (by kernel_rfl) (by kernel_rfl) (by kernel_rfl) h
def zcs : Ann := (.seq .auto (.one [(14, (.one (.int .i64)))] (.seq .auto (.seq .auto (.seq (.seq .auto (.seq .auto (.seq .auto (.cond .auto .auto) none) none) none) .auto (some [])) none) none)) none)
def z80 (p0 : FV) (c0 : Addr) (c1 : Addr) (K : Value → PT) : PT :=
 L.load eP6 c0 fun (x1 : Option Addr) =>
 L.nonnil x1 fun a2 =>
 L.load (.one (.map)) (a2.add 0) fun (x3 : Option Nat) =>
 L.call Pr z1b [.map x3] (.one (.one (.func))) fun (x4 : FV) =>
 L.call Pr z22 [.func x4.fn x4.fs x4.cs] rL fun (x5 : Sl) =>
 L.loop (Y := Int × Unit) (0, ()) fun y6 again7 =>
 L.ite (decide (y6.1 < ((x5.len : Nat) : Int))) (
  L.join (Y := Unit) (fun k8 =>
   L.idx x5.a y6.1 x5.len 1 fun a10 =>
   L.load eI6 a10 fun (x11 : Int) =>
   L.load eP6 c0 fun (x12 : Option Addr) =>
   L.nonnil x12 fun a13 =>
   L.load (.one (.map)) (a13.add 0) fun (x14 : Option Nat) =>
   L.semR Pr (.one (.agg [.str, .ptr])) (Instr.lookup z0s (.map x14) (.int .i64 x11) false) fun (x15 : ByteArray × Option Addr × Unit) =>
   L.new [.string s_, .pointer none] z54 fun b16 =>
   L.store (⟨b16, 0, none⟩) [.string x15.1, .pointer x15.2.1] <|
   L.load eS6 ((⟨b16, 0, none⟩ : Addr).add 0) fun (x17 : ByteArray) =>
   L.load eS6 c1 fun (x18 : ByteArray) =>
   L.ite (x17.toList == x18.toList) (
    L.load eP6 ((⟨b16, 0, none⟩ : Addr).add 1) fun (x19 : Option Addr) =>
    L.callV Pr (.func p0.fn p0.fs p0.cs) [.int .i64 x11, .pointer x19] rB fun (x20 : Bool) =>
    L.ite (!x20) (
     K (.tuple #[])) <|
    k8 (())) <|
   k8 (())) fun z9 =>
  again7 (IntKind.wrap .i64 (y6.1 + 1), ())) <|
 K (.tuple #[])
theorem zci (p0 : FV) (c0 : Addr) (c1 : Addr) {K : Value → PT} {w : World} (h : z80 p0 c0 c1 K w) : CT Pr z2X [.func p0.fn p0.fs p0.cs, .pointer (some c0), .pointer (some c1)] K w :=
 C_of (fn := Tryz.f252) (an := zcs) (args := [.v (.func p0.fn p0.fs p0.cs), .v (.pointer (some c0)), .v (.pointer (some c1))]) (by kernel_rfl) (by kernel_rfl) (by kernel_rfl) h
theorem zc7 : Enters Pr z2X := z0o (by kernel_rfl)
def z1O (p0 : Option Nat) (K : Value → PT) : PT :=
 L.new [.map p0] z0s fun b1 =>
 K (.func (.func z0l) #[] #[.pointer (some (⟨b1, 0, none⟩))])
theorem z3D (p0 : Option Nat) {K : Value → PT} {w : World} (h : z1O p0 K w) : CT Pr z1b [.map p0] K w :=
 C_of (fn := Tryz.f253) (an := .auto) (args := [.v (.map p0)]) (by kernel_rfl) (by kernel_rfl) (by kernel_rfl) h
def z59 : Ann := (.seq .auto (.seq .auto (.seq (.one [(7, (.one (.int .i64))), (8, (.one (.int .i64)))] .auto) (.seq .auto (.one [(6, (.one (.int .i64)))] (.seq .auto (.seq .auto (.seq (.one [(7, (.one (.int .i64))), (8, (.one (.int .i64)))] .auto) (.seq .auto .auto (some [])) none) none) none)) none) none) none) none)
def z2F (p0 : Sl) (p1 : Int) (p2 : FV) (K : Value → PT) : PT :=
 L.loop (Y := Int × Int × Unit) (0, 20, ()) fun y1 again2 =>
 L.ite (decide (y1.2.1 ≤ p1)) (
  L.call Pr z0P [.slice p0.a p0.len p0.cap, .int .i64 y1.1, .int .i64 y1.2.1, .func p2.fn p2.fs p2.cs] (.tup []) fun (x3 : Unit) =>
  again2 (y1.2.1, IntKind.wrap .i64 (y1.2.1 + 20), ())) <|
 L.call Pr z0P [.slice p0.a p0.len p0.cap, .int .i64 y1.1, .int .i64 p1, .func p2.fn p2.fs p2.cs] (.tup []) fun (x4 : Unit) =>
 L.loop (Y := Int × Unit) (20, ()) fun y5 again6 =>
 L.ite (decide (y5.1 < p1)) (
  L.loop (Y := Int × Int × Unit) (0, IntKind.wrap .i64 (2 * y5.1), ()) fun y7 again8 =>
  L.ite (decide (y7.2.1 ≤ p1)) (
   L.call Pr z0Z [.slice p0.a p0.len p0.cap, .int .i64 y7.1, .int .i64 (IntKind.wrap .i64 (y7.1 + y5.1)), .int .i64 y7.2.1, .func p2.fn p2.fs p2.cs] (.tup []) fun (x9 : Unit) =>
   again8 (y7.2.1, IntKind.wrap .i64 (y7.2.1 + (IntKind.wrap .i64 (2 * y5.1))), ())) <|
  L.join (Y := Unit) (fun k10 =>
   L.ite (decide ((IntKind.wrap .i64 (y7.1 + y5.1)) < p1)) (
    L.call Pr z0Z [.slice p0.a p0.len p0.cap, .int .i64 y7.1, .int .i64 (IntKind.wrap .i64 (y7.1 + y5.1)), .int .i64 p1, .func p2.fn p2.fs p2.cs] (.tup []) fun (x12 : Unit) =>
    k10 (())) <|
   k10 (())) fun z11 =>
  again6 (IntKind.wrap .i64 (y5.1 * 2), ())) <|
 K (.tuple #[])
theorem z57 (p0 : Sl) (p1 : Int) (p2 : FV) {K : Value → PT} {w : World} (h : z2F p0 p1 p2 K w) : CT Pr z2z [.slice p0.a p0.len p0.cap, .int .i64 p1, .func p2.fn p2.fs p2.cs] K w :=
 C_of (fn := Tryz.f270) (an := z59) (args := [.v (.slice p0.a p0.len p0.cap), .v (.int .i64 p1), .v (.func p2.fn p2.fs p2.cs)]) (by kernel_rfl) (by kernel_rfl) (by kernel_rfl) h
def z8n (p0 : Option Addr) (p1 : Int) (K : Value → PT) : PT :=
 L.nonnil p0 fun a1 =>
 L.load (.one (.map)) (a1.add 0) fun (x2 : Option Nat) =>
 L.semR Pr rB (Instr.lookup z1B (.map x2) (.int .i64 p1) false) fun (x3 : Bool) =>
 L.ite x3 (
  K (.int .i64 5)) <|
 L.draw <|
 L.nonnil p0 fun a4 =>
 L.load (.one (.map)) (a4.add 0) fun (x5 : Option Nat) =>
 L.semR Pr rI (Builtin.len_ #[z1B] z0d #[.map x5]) fun (x6 : Int) =>
 L.nonnil p0 fun a7 =>
 L.load eI6 (a7.add 1) fun (x8 : Int) =>
 L.ite (decide (x6 ≥ x8)) (
  K (.int .i64 8)) <|
 L.nonnil p0 fun a9 =>
 L.load (.one (.map)) (a9.add 0) fun (x10 : Option Nat) =>
 L.semU Pr (Instr.mapUpdate z1B (.map x10) (.int .i64 p1) (.bool true)) <|
 K (.int .i64 0)
theorem zcT (p0 : Option Addr) (p1 : Int) {K : Value → PT} {w : World} (h : z8n p0 p1 K w) : CT Pr z8f [.pointer p0, .int .i64 p1] K w :=
 C_of (fn := Tryz.f271) (an := .auto) (args := [.v (.pointer p0), .v (.int .i64 p1)]) (by kernel_rfl) (by kernel_rfl) (by kernel_rfl) h
def z7H : Ann := (.seq .auto (.seq (.seq .auto (.seq .auto .auto (some [(7, (.one (.int .i64)))])) none) .auto none) none)
def z4u (p0 : Sl) (p1 : FV) (K : Value → PT) : PT :=
 L.new [.slice p0.a p0.len p0.cap] z1i fun b1 =>
 L.range Pr none (.func p1.fn p1.fs p1.cs) [eI6] (fun l2 (y3 : Int × Unit) R4 =>
  L.begin Pr l2 <|
  L.load eL6 (⟨b1, 0, none⟩) fun (x7 : Sl) =>
  L.new [.int .i64 y3.1] z0d fun b8 =>
  L.sem Pr (.one (.one .slice)) (Builtin.append_ #[z1i, z1i] z1i #[.slice x7.a x7.len x7.cap, .slice (some ⟨b8, 0, none⟩) 1 1]) fun (s9 : Sl) =>
  L.store (⟨b1, 0, none⟩) [.slice s9.a s9.len s9.cap] <|
  L.endRound Pr l2 none R4) fun d5 j6 =>
 L.jump j6 (
  L.load eL6 (⟨b1, 0, none⟩) fun (x10 : Sl) =>
  L.unmark Pr (d5 ++ []) <|
  K (.slice x10.a x10.len x10.cap)) (
  L.unmark Pr (d5 ++ []) <|
  K (.slice none 0 0)) []
theorem z7C (p0 : Sl) (p1 : FV) {K : Value → PT} {w : World} (h : z4u p0 p1 K w) : CT Pr z2P [.slice p0.a p0.len p0.cap, .func p1.fn p1.fs p1.cs] K w :=
 C_of (fn := Tryz.f272) (an := z7H) (args := [.v (.slice p0.a p0.len p0.cap), .v (.func p1.fn p1.fs p1.cs)]) (by kernel_rfl) (by kernel_rfl) (by kernel_rfl) h
def z5P : Ann := (.seq .auto (.seq (.seq .auto (.seq .auto .auto (some [(7, (.one (.str)))])) none) .auto none) none)
def z36 (p0 : Sl) (p1 : FV) (K : Value → PT) : PT :=
 L.new [.slice p0.a p0.len p0.cap] z06 fun b1 =>
 L.range Pr none (.func p1.fn p1.fs p1.cs) [eS6] (fun l2 (y3 : ByteArray × Unit) R4 =>
  L.begin Pr l2 <|
  L.load eL6 (⟨b1, 0, none⟩) fun (x7 : Sl) =>
  L.new [.string y3.1] z00 fun b8 =>
  L.sem Pr (.one (.one .slice)) (Builtin.append_ #[z06, z06] z06 #[.slice x7.a x7.len x7.cap, .slice (some ⟨b8, 0, none⟩) 1 1]) fun (s9 : Sl) =>
  L.store (⟨b1, 0, none⟩) [.slice s9.a s9.len s9.cap] <|
  L.endRound Pr l2 none R4) fun d5 j6 =>
 L.jump j6 (
  L.load eL6 (⟨b1, 0, none⟩) fun (x10 : Sl) =>
  L.unmark Pr (d5 ++ []) <|
  K (.slice x10.a x10.len x10.cap)) (
  L.unmark Pr (d5 ++ []) <|
  K (.slice none 0 0)) []
theorem z5O (p0 : Sl) (p1 : FV) {K : Value → PT} {w : World} (h : z36 p0 p1 K w) : CT Pr z1W [.slice p0.a p0.len p0.cap, .func p1.fn p1.fs p1.cs] K w :=
 C_of (fn := Tryz.f273) (an := z5P) (args := [.v (.slice p0.a p0.len p0.cap), .v (.func p1.fn p1.fs p1.cs)]) (by kernel_rfl) (by kernel_rfl) (by kernel_rfl) h
def z2g : Ann := (.seq .auto (.one [] (.seq .auto (.seq (.cond .auto .auto) .auto none) none)) none)
def z17 (p0 : FV) (c0 : Addr) (K : Value → PT) : PT :=
 L.load (.one (.map)) c0 fun (x1 : Option Nat) =>
 L.sem Pr (.one (.one .ptr)) (Instr.range z0j (.map x1)) fun (it2 : Option Addr) =>
 L.loop (Y := Unit) (()) fun y3 again4 =>
 L.next Pr [eS6, (.agg lf5)] (Instr.next (.pointer it2) false T_) (
  K (.tuple #[])) fun (x5 : pt22) =>
 L.sem Pr (.tup [eS6, (.agg lf5)]) (Instr.entry (.pointer it2)) fun (x6 : pt22) =>
 L.callV Pr (.func p0.fn p0.fs p0.cs) [.string x6.1] rB fun (x7 : Bool) =>
 L.ite (!x7) (
  K (.tuple #[])) <|
 again4 (())
theorem z2f (p0 : FV) (c0 : Addr) {K : Value → PT} {w : World} (h : z17 p0 c0 K w) : CT Pr z08 [.func p0.fn p0.fs p0.cs, .pointer (some c0)] K w :=
 C_of (fn := Tryz.f275) (an := z2g) (args := [.v (.func p0.fn p0.fs p0.cs), .v (.pointer (some c0))]) (by kernel_rfl) (by kernel_rfl) (by kernel_rfl) h
theorem z2e : Enters Pr z08 := z0o (by kernel_rfl)
def z3j : Ann := (.seq .auto (.one [] (.seq .auto (.seq (.cond .auto .auto) .auto none) none)) none)
def z1I (p0 : FV) (c0 : Addr) (K : Value → PT) : PT :=
 L.load (.one (.map)) c0 fun (x1 : Option Nat) =>
 L.sem Pr (.one (.one .ptr)) (Instr.range z0s (.map x1)) fun (it2 : Option Addr) =>
 L.loop (Y := Unit) (()) fun y3 again4 =>
 L.next Pr [eI6, (.agg [.str, .ptr])] (Instr.next (.pointer it2) false T_) (
  K (.tuple #[])) fun (x5 : pt23) =>
 L.sem Pr (.tup [eI6, (.agg [.str, .ptr])]) (Instr.entry (.pointer it2)) fun (x6 : pt23) =>
 L.callV Pr (.func p0.fn p0.fs p0.cs) [.int .i64 x6.1] rB fun (x7 : Bool) =>
 L.ite (!x7) (
  K (.tuple #[])) <|
 again4 (())
theorem z3h (p0 : FV) (c0 : Addr) {K : Value → PT} {w : World} (h : z1I p0 c0 K w) : CT Pr z0l [.func p0.fn p0.fs p0.cs, .pointer (some c0)] K w :=
 C_of (fn := Tryz.f276) (an := z3j) (args := [.v (.func p0.fn p0.fs p0.cs), .v (.pointer (some c0))]) (by kernel_rfl) (by kernel_rfl) (by kernel_rfl) h
theorem z3f : Enters Pr z0l := z0o (by kernel_rfl)
def z3I : Ann := (.seq .auto (.one [(8, (.one (.int .i64)))] (.seq .auto (.seq (.seq .auto (.one [(9, (.one (.int .i64)))] (.seq (.seq .auto (.cond .auto .auto) none) .auto none)) none) .auto (some [])) none)) none)
def z1U (p0 : Sl) (p1 : Int) (p2 : Int) (p3 : FV) (K : Value → PT) : PT :=
 L.loop (Y := Int × Unit) (IntKind.wrap .i64 (p1 + 1), ()) fun y1 again2 =>
 L.ite (decide (y1.1 < p2)) (
  L.join (Y := Unit) (fun k3 =>
   L.loop (Y := Int × Unit) (y1.1, ()) fun y5 again6 =>
   L.draw <|
   L.ite (decide (y5.1 > p1)) (
    L.idx p0.a y5.1 p0.len 2 fun a7 =>
    L.load (.agg [.int .i64, .int .i64]) a7 fun (x8 : Int × Int × Unit) =>
    L.idx p0.a (IntKind.wrap .i64 (y5.1 - 1)) p0.len 2 fun a9 =>
    L.load (.agg [.int .i64, .int .i64]) a9 fun (x10 : Int × Int × Unit) =>
    L.callV Pr (.func p3.fn p3.fs p3.cs) [.agg #[.int .i64 x8.1, .int .i64 x8.2.1], .agg #[.int .i64 x10.1, .int .i64 x10.2.1]] rI fun (x11 : Int) =>
    L.ite (decide (x11 < 0)) (
     L.draw <|
     L.idx p0.a (IntKind.wrap .i64 (y5.1 - 1)) p0.len 2 fun a12 =>
     L.load (.agg [.int .i64, .int .i64]) a12 fun (x13 : Int × Int × Unit) =>
     L.idx p0.a y5.1 p0.len 2 fun a14 =>
     L.load (.agg [.int .i64, .int .i64]) a14 fun (x15 : Int × Int × Unit) =>
     L.idx p0.a y5.1 p0.len 2 fun a16 =>
     L.store a16 [.int .i64 x13.1, .int .i64 x13.2.1] <|
     L.idx p0.a (IntKind.wrap .i64 (y5.1 - 1)) p0.len 2 fun a17 =>
     L.store a17 [.int .i64 x15.1, .int .i64 x15.2.1] <|
     again6 (IntKind.wrap .i64 (y5.1 - 1), ())) <|
    k3 (())) <|
   k3 (())) fun z4 =>
  again2 (IntKind.wrap .i64 (y1.1 + 1), ())) <|
 K (.tuple #[])
theorem z3H (p0 : Sl) (p1 : Int) (p2 : Int) (p3 : FV) {K : Value → PT} {w : World} (h : z1U p0 p1 p2 p3 K w) : CT Pr z0P [.slice p0.a p0.len p0.cap, .int .i64 p1, .int .i64 p2, .func p3.fn p3.fs p3.cs] K w :=
 C_of (fn := Tryz.f283) (an := z3I) (args := [.v (.slice p0.a p0.len p0.cap), .v (.int .i64 p1), .v (.int .i64 p2), .v (.func p3.fn p3.fs p3.cs)]) (by kernel_rfl) (by kernel_rfl) (by kernel_rfl) h
end Go.Proofs.YtmbidnhdfdnihaaGreatDoor
