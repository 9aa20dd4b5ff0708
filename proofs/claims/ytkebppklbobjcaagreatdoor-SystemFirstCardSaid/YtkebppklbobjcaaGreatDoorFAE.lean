/- What is proved on the way to a statement of the seat, pressed (text AE). No conditions beyond those its theorems state. -/
import Derived.Test.YtkebppklbobjcaaGreatDoorFAD
set_option linter.all false
namespace Go.Proofs.YtkebppklbobjcaaGreatDoor
set_option maxRecDepth 100000
open Go.Dm
def zc1 (p0 : Sl) (p1 : Sl) (p2 : Int) (p3 : Int) (K : Value → PT) : PT :=
 L.join (Y := Bool × Unit) (fun k1 =>
  L.ite (decide (p3 ≤ 0)) (
   k1 (true, ())) <|
  k1 (decide (p2 ≥ p3), ())) fun z2 =>
 L.ite z2.1 (
  L.call Pr z0w [.slice p1.a p1.len p1.cap] rL fun (x3 : Sl) =>
  K (.slice x3.a x3.len x3.cap)) <|
 L.ite (decide (p2 ≤ 0)) (
  L.call Pr z0w [.slice p0.a p0.len p0.cap] rL fun (x4 : Sl) =>
  K (.slice x4.a x4.len x4.cap)) <|
 L.new [.slice p0.a p0.len p0.cap, .slice p1.a p1.len p1.cap] z0A fun b5 =>
 L.call Pr z2i [.func (.func zad) #[] #[], .slice (some ⟨b5, 0, none⟩) 2 2] rL fun (x6 : Sl) =>
 L.sem Pr (.one (.one .slice)) (Instr.makeSlice z1g (.int .i64 ((x6.len : Nat) : Int)) (.int .i64 ((x6.len : Nat) : Int))) fun (s7 : Sl) =>
 L.loop (Y := Int × Int × Unit) (0, 0, ()) fun y8 again9 =>
 L.ite (decide (y8.2.1 < ((x6.len : Nat) : Int))) (
  L.join (Y := Int × Unit) (fun k10 =>
   L.draw <|
   L.idx x6.a y8.2.1 x6.len 1 fun a12 =>
   L.load eS6 a12 fun (x13 : ByteArray) =>
   L.idx x6.a y8.2.1 x6.len 1 fun a14 =>
   L.load eS6 a14 fun (x15 : ByteArray) =>
   L.call Pr z4k [.slice p1.a p1.len p1.cap, .string x13] rI fun (x16 : Int) =>
   L.chk a14 [.string x15] <|
   L.call Pr z4k [.slice p0.a p0.len p0.cap, .string x15] rI fun (x17 : Int) =>
   L.ite (decide ((IntKind.wrap .i64 (x16 - x17)) > 0)) (
    L.guard (p3 ≠ (0 : Int)) <|
    L.idx s7.a y8.2.1 s7.len 1 fun a18 =>
    L.store a18 [.int .i64 (IntKind.wrap .i64 (Int.tdiv (IntKind.wrap .i64 ((IntKind.wrap .i64 (x16 - x17)) * p2)) p3))] <|
    L.idx s7.a y8.2.1 s7.len 1 fun a19 =>
    L.load eI6 a19 fun (x20 : Int) =>
    k10 (IntKind.wrap .i64 (y8.1 + x20), ())) <|
   k10 (y8.1, ())) fun z11 =>
  again9 (z11.1, IntKind.wrap .i64 (y8.2.1 + 1), ())) <|
 L.loop (Y := Int × Sl × Int × Unit) (y8.1, ⟨none, 0, 0⟩, 0, ()) fun y21 again22 =>
 L.ite (decide (y21.2.2.1 < ((x6.len : Nat) : Int))) (
  L.join (Y := Int × Sl × Unit) (fun k23 =>
   L.idx x6.a y21.2.2.1 x6.len 1 fun a25 =>
   L.load eS6 a25 fun (x26 : ByteArray) =>
   L.call Pr z4k [.slice p0.a p0.len p0.cap, .string x26] rI fun (x27 : Int) =>
   L.join (Y := Int × Unit) (fun k28 =>
    L.idx x6.a y21.2.2.1 x6.len 1 fun a30 =>
    L.load eS6 a30 fun (x31 : ByteArray) =>
    L.call Pr z4k [.slice p1.a p1.len p1.cap, .string x31] rI fun (x32 : Int) =>
    L.ite (decide ((IntKind.wrap .i64 (x27 - x32)) > 0)) (
     L.idx s7.a y21.2.2.1 s7.len 1 fun a33 =>
     L.store a33 [.int .i64 (IntKind.wrap .i64 (0 - (if y21.1 < (IntKind.wrap .i64 (x27 - x32)) then y21.1 else (IntKind.wrap .i64 (x27 - x32)))))] <|
     L.idx s7.a y21.2.2.1 s7.len 1 fun a34 =>
     L.load eI6 a34 fun (x35 : Int) =>
     k28 (IntKind.wrap .i64 (y21.1 + x35), ())) <|
    k28 (y21.1, ())) fun z29 =>
   L.idx s7.a y21.2.2.1 s7.len 1 fun a36 =>
   L.load eI6 a36 fun (x37 : Int) =>
   L.ite (decide ((IntKind.wrap .i64 (x27 + x37)) > 0)) (
    L.idx x6.a y21.2.2.1 x6.len 1 fun a38 =>
    L.load eS6 a38 fun (x39 : ByteArray) =>
    L.new [.string x39, .int .i64 (IntKind.wrap .i64 (x27 + x37))] z0t fun b40 =>
    L.sem Pr (.one (.one .slice)) (Builtin.append_ #[z0A, z0A] z0A #[.slice y21.2.1.a y21.2.1.len y21.2.1.cap, .slice (some ⟨b40, 0, none⟩) 1 1]) fun (s41 : Sl) =>
    k23 (z29.1, ⟨s41.a, s41.len, s41.cap⟩, ())) <|
   k23 (z29.1, ⟨y21.2.1.a, y21.2.1.len, y21.2.1.cap⟩, ())) fun z24 =>
  again22 (z24.1, ⟨z24.2.1.a, z24.2.1.len, z24.2.1.cap⟩, IntKind.wrap .i64 (y21.2.2.1 + 1), ())) <|
 L.call Pr z0w [.slice y21.2.1.a y21.2.1.len y21.2.1.cap] rL fun (x42 : Sl) =>
 K (.slice x42.a x42.len x42.cap)
theorem zgv (p0 : Sl) (p1 : Sl) (p2 : Int) (p3 : Int) {K : Value → PT} {w : World} (h : zc1 p0 p1 p2 p3 K w) : CT Pr z8E [.slice p0.a p0.len p0.cap, .slice p1.a p1.len p1.cap, .int .i64 p2, .int .i64 p3] K w :=
 C_of (fn := Tryz.f155) (an := zgI) (args := [.v (.slice p0.a p0.len p0.cap), .v (.slice p1.a p1.len p1.cap), .v (.int .i64 p2), .v (.int .i64 p3)]) (by kernel_rfl) (by kernel_rfl) (by kernel_rfl) h
def z6z (p0 : Option Addr) (p1 : ByteArray) (K : Value → PT) : PT :=
 L.nonnil p0 fun a1 =>
 L.load eP6 (a1.add 3) fun (x2 : Option Addr) =>
 L.call Pr z5x [.pointer x2, .string p1] rL fun (x3 : Sl) =>
 K (.slice x3.a x3.len x3.cap)
theorem zax (p0 : Option Addr) (p1 : ByteArray) {K : Value → PT} {w : World} (h : z6z p0 p1 K w) : CT Pr z6v [.pointer p0, .string p1] K w :=
 C_of (fn := Tryz.f156) (an := .auto) (args := [.v (.pointer p0), .v (.string p1)]) (by kernel_rfl) (by kernel_rfl) (by kernel_rfl) h
def zdE : Ann := (.seq .auto (.seq .auto (.seq (.seq .auto (.seq .auto .auto (some [(11, (.one (.int .i64))), (12, (.one (.ptr)))])) none) .auto none) none) none)
def z9a (p0 : Option Addr) (p1 : ByteArray) (K : Value → PT) : PT :=
 L.new [.int .i64 0] z0h fun b1 =>
 L.store (⟨b1, 0, none⟩) [.int .i64 0] <|
 L.call Pr z2U [.pointer p0, .string p1] (.one (.one (.func))) fun (x2 : FV) =>
 L.range Pr none (.func x2.fn x2.fs x2.cs) [eI6, eP6] (fun l3 (y4 : Int × Option Addr × Unit) R5 =>
  L.begin Pr l3 <|
  L.call Pr z1k [.pointer y4.2.1] rI fun (x8 : Int) =>
  L.ite (x8 != 3) (
   L.load eI6 (⟨b1, 0, none⟩) fun (x9 : Int) =>
   L.store (⟨b1, 0, none⟩) [.int .i64 (IntKind.wrap .i64 (x9 + 1))] <|
   L.endRound Pr l3 none R5) <|
  L.endRound Pr l3 none R5) fun d6 j7 =>
 L.jump j7 (
  L.load eI6 (⟨b1, 0, none⟩) fun (x10 : Int) =>
  L.unmark Pr (d6 ++ []) <|
  K (.int .i64 x10)) (
  L.unmark Pr (d6 ++ []) <|
  K (.int .i64 0)) []
theorem zdv (p0 : Option Addr) (p1 : ByteArray) {K : Value → PT} {w : World} (h : z9a p0 p1 K w) : CT Pr z6s [.pointer p0, .string p1] K w :=
 C_of (fn := Tryz.f162) (an := zdE) (args := [.v (.pointer p0), .v (.string p1)]) (by kernel_rfl) (by kernel_rfl) (by kernel_rfl) h
def zhO (p0 : Int) (K : Value → PT) : PT :=
 L.sem Pr (.one (.one .map)) (Instr.makeMap z2v none) fun (m1 : Option Nat) =>
 L.new [.int .i64 1, .map m1, .int .i64 p0] z9N fun b2 =>
 K (.pointer (some (⟨b2, 0, none⟩)))
theorem zmD (p0 : Int) {K : Value → PT} {w : World} (h : zhO p0 K w) : CT Pr ze1 [.int .i64 p0] K w :=
 C_of (fn := Tryz.f163) (an := .auto) (args := [.v (.int .i64 p0)]) (by kernel_rfl) (by kernel_rfl) (by kernel_rfl) h
def zbp : Ann := (.seq .auto (.seq .auto (.seq (.seq .auto (.seq .auto (.seq .auto (.seq .auto (.cond .auto .auto) none) none) (some [(13, (.one (.int .i64))), (14, (.one (.ptr)))])) none) .auto none) none) none)
def z7l (p0 : Option Addr) (p1 : ByteArray) (K : Value → PT) : PT :=
 L.new [.int .i64 0] z0h fun b1 =>
 L.new [.int .i64 0] z0h fun b2 =>
 L.new [.int .i64 0] z0h fun b3 =>
 L.store (⟨b1, 0, none⟩) [.int .i64 0] <|
 L.store (⟨b2, 0, none⟩) [.int .i64 3] <|
 L.store (⟨b3, 0, none⟩) [.int .i64 0] <|
 L.call Pr z2U [.pointer p0, .string p1] (.one (.one (.func))) fun (x4 : FV) =>
 L.range Pr none (.func x4.fn x4.fs x4.cs) [eI6, eP6] (fun l5 (y6 : Int × Option Addr × Unit) R7 =>
  L.begin Pr l5 <|
  L.call Pr z1k [.pointer y6.2.1] rI fun (x10 : Int) =>
  L.ite (x10 == 3) (
   L.endRound Pr l5 none R7) <|
  L.draw <|
  L.load eI6 (⟨b2, 0, none⟩) fun (x11 : Int) =>
  L.call Pr z1k [.pointer y6.2.1] rI fun (x12 : Int) =>
  L.chk (⟨b2, 0, none⟩) [.int .i64 x11] <|
  L.ite (decide (x12 < x11)) (
   L.call Pr z1k [.pointer y6.2.1] rI fun (x13 : Int) =>
   L.call Pr z2b [.pointer y6.2.1] rI fun (x14 : Int) =>
   L.store (⟨b1, 0, none⟩) [.int .i64 y6.1] <|
   L.store (⟨b2, 0, none⟩) [.int .i64 x13] <|
   L.store (⟨b3, 0, none⟩) [.int .i64 x14] <|
   L.endRound Pr l5 none R7) <|
  L.load eI6 (⟨b2, 0, none⟩) fun (x15 : Int) =>
  L.call Pr z1k [.pointer y6.2.1] rI fun (x16 : Int) =>
  L.chk (⟨b2, 0, none⟩) [.int .i64 x15] <|
  L.ite (x16 == x15) (
   L.load eI6 (⟨b3, 0, none⟩) fun (x17 : Int) =>
   L.call Pr z2b [.pointer y6.2.1] rI fun (x18 : Int) =>
   L.chk (⟨b3, 0, none⟩) [.int .i64 x17] <|
   L.ite (decide (x18 ≤ x17)) (
    L.call Pr z1k [.pointer y6.2.1] rI fun (x19 : Int) =>
    L.call Pr z2b [.pointer y6.2.1] rI fun (x20 : Int) =>
    L.store (⟨b1, 0, none⟩) [.int .i64 y6.1] <|
    L.store (⟨b2, 0, none⟩) [.int .i64 x19] <|
    L.store (⟨b3, 0, none⟩) [.int .i64 x20] <|
    L.endRound Pr l5 none R7) <|
   L.endRound Pr l5 none R7) <|
  L.endRound Pr l5 none R7) fun d8 j9 =>
 L.jump j9 (
  L.load eI6 (⟨b1, 0, none⟩) fun (x21 : Int) =>
  L.unmark Pr (d8 ++ []) <|
  K (.int .i64 x21)) (
  L.unmark Pr (d8 ++ []) <|
  K (.int .i64 0)) []
theorem zbg (p0 : Option Addr) (p1 : ByteArray) {K : Value → PT} {w : World} (h : z7l p0 p1 K w) : CT Pr z52 [.pointer p0, .string p1] K w :=
 C_of (fn := Tryz.f164) (an := zbp) (args := [.v (.pointer p0), .v (.string p1)]) (by kernel_rfl) (by kernel_rfl) (by kernel_rfl) h
def zeN : Ann := (.seq .auto (.seq (.seq .auto (.cond .auto .auto) none) .auto (some [])) none)
def z9T (p0 : Option Addr) (K : Value → PT) : PT :=
 L.join (Y := Unit) (fun k1 =>
  L.nonnil p0 fun a3 =>
  L.load eI6 (a3.add 0) fun (x4 : Int) =>
  L.ite (x4 != 1) (
   L.nonnil p0 fun a5 =>
   L.load eI6 (a5.add 0) fun (x6 : Int) =>
   L.ite (x6 != 2) (
    K (.int .i64 9)) <|
   k1 (())) <|
  k1 (())) fun z2 =>
 L.nonnil p0 fun a7 =>
 L.store (a7.add 0) [.int .i64 3] <|
 L.call Pr z6I [.pointer p0] (.tup []) fun (x8 : Unit) =>
 K (.int .i64 0)
theorem zeJ (p0 : Option Addr) {K : Value → PT} {w : World} (h : z9T p0 K w) : CT Pr z77 [.pointer p0] K w :=
 C_of (fn := Tryz.f165) (an := zeN) (args := [.v (.pointer p0)]) (by kernel_rfl) (by kernel_rfl) (by kernel_rfl) h
def z3O (p0 : Sl) (K : Value → PT) : PT :=
 L.ite ((p0.a).isNone) (
  K (.slice none 0 0)) <|
 L.new [] z0h fun b1 =>
 L.sem Pr (.one (.one .slice)) (Builtin.append_ #[z1g, z1g] z1g #[.slice (some ⟨b1, 0, none⟩) 0 0, .slice p0.a p0.len p0.cap]) fun (s2 : Sl) =>
 K (.slice s2.a s2.len s2.cap)
theorem z5Q (p0 : Sl) {K : Value → PT} {w : World} (h : z3O p0 K w) : CT Pr z0V [.slice p0.a p0.len p0.cap] K w :=
 C_of (fn := Tryz.f166) (an := .auto) (args := [.v (.slice p0.a p0.len p0.cap)]) (by kernel_rfl) (by kernel_rfl) (by kernel_rfl) h
def z2N (p0 : Sl) (K : Value → PT) : PT :=
 L.ite ((p0.a).isNone) (
  K (.slice none 0 0)) <|
 L.new [] z0t fun b1 =>
 L.sem Pr (.one (.one .slice)) (Builtin.append_ #[z0A, z0A] z0A #[.slice (some ⟨b1, 0, none⟩) 0 0, .slice p0.a p0.len p0.cap]) fun (s2 : Sl) =>
 K (.slice s2.a s2.len s2.cap)
theorem z5h (p0 : Sl) {K : Value → PT} {w : World} (h : z2N p0 K w) : CT Pr z0w [.slice p0.a p0.len p0.cap] K w :=
 C_of (fn := Tryz.f167) (an := .auto) (args := [.v (.slice p0.a p0.len p0.cap)]) (by kernel_rfl) (by kernel_rfl) (by kernel_rfl) h
def z2M (p0 : Sl) (K : Value → PT) : PT :=
 L.ite ((p0.a).isNone) (
  K (.slice none 0 0)) <|
 L.new [] z33 fun b1 =>
 L.sem Pr (.one (.one .slice)) (Builtin.append_ #[z3v, z3v] z3v #[.slice (some ⟨b1, 0, none⟩) 0 0, .slice p0.a p0.len p0.cap]) fun (s2 : Sl) =>
 K (.slice s2.a s2.len s2.cap)
theorem z5g (p0 : Sl) {K : Value → PT} {w : World} (h : z2M p0 K w) : CT Pr z1H [.slice p0.a p0.len p0.cap] K w :=
 C_of (fn := Tryz.f168) (an := .auto) (args := [.v (.slice p0.a p0.len p0.cap)]) (by kernel_rfl) (by kernel_rfl) (by kernel_rfl) h
def z5N (p0 : FV) (K : Value → PT) : PT :=
 L.call Pr z5q [.func p0.fn p0.fs p0.cs] rL fun (x1 : Sl) =>
 L.call Pr z2A [.slice x1.a x1.len x1.cap] (.tup []) fun (x2 : Unit) =>
 K (.slice x1.a x1.len x1.cap)
theorem z9l (p0 : FV) {K : Value → PT} {w : World} (h : z5N p0 K w) : CT Pr z0O [.func p0.fn p0.fs p0.cs] K w :=
 C_of (fn := Tryz.f169) (an := .auto) (args := [.v (.func p0.fn p0.fs p0.cs)]) (by kernel_rfl) (by kernel_rfl) (by kernel_rfl) h
def z1a (p0 : Option Nat) (K : Value → PT) : PT :=
 L.new [.map p0] z0i fun b1 =>
 K (.func (.func z09) #[] #[.pointer (some (⟨b1, 0, none⟩))])
theorem z2l (p0 : Option Nat) {K : Value → PT} {w : World} (h : z1a p0 K w) : CT Pr z19 [.map p0] K w :=
 C_of (fn := Tryz.f170) (an := .auto) (args := [.v (.map p0)]) (by kernel_rfl) (by kernel_rfl) (by kernel_rfl) h
def zd8 (p0 : Int) (K : Value → PT) : PT :=
 L.call Pr z63 [.int .i32 p0] rB fun (x1 : Bool) =>
 L.ite x1 (
  K (.bool true)) <|
 L.ite (decide (p0 ≥ 48)) (
  L.ite (decide (p0 ≤ 57)) (
   K (.bool true)) <|
  K (.bool (p0 == 45))) <|
 K (.bool (p0 == 45))
theorem zhY (p0 : Int) {K : Value → PT} {w : World} (h : zd8 p0 K w) : CT Pr z9B [.int .i32 p0] K w :=
 C_of (fn := Tryz.f173) (an := .auto) (args := [.v (.int .i32 p0)]) (by kernel_rfl) (by kernel_rfl) (by kernel_rfl) h
def zaO (p0 : Int) (K : Value → PT) : PT :=
 L.ite (decide (p0 ≥ 97)) (
  K (.bool (decide (p0 ≤ 122)))) <|
 K (.bool false)
theorem zf2 (p0 : Int) {K : Value → PT} {w : World} (h : zaO p0 K w) : CT Pr z63 [.int .i32 p0] K w :=
 C_of (fn := Tryz.f174) (an := .auto) (args := [.v (.int .i32 p0)]) (by kernel_rfl) (by kernel_rfl) (by kernel_rfl) h
def z1J (p0 : Sl) (p1 : FV) (K : Value → PT) : PT :=
 L.call Pr z25 [.slice p0.a p0.len p0.cap, .func p1.fn p1.fs p1.cs] rI fun (x1 : Int) =>
 K (.bool (decide (x1 ≥ 0)))
theorem z3x (p0 : Sl) (p1 : FV) {K : Value → PT} {w : World} (h : z1J p0 p1 K w) : CT Pr z10 [.slice p0.a p0.len p0.cap, .func p1.fn p1.fs p1.cs] K w :=
 C_of (fn := Tryz.f175) (an := .auto) (args := [.v (.slice p0.a p0.len p0.cap), .v (.func p1.fn p1.fs p1.cs)]) (by kernel_rfl) (by kernel_rfl) (by kernel_rfl) h
def zd5 (p0 : HT [.str, .str, .int .i64]) (c0 : Addr) (K : Value → PT) : PT :=
 L.new [.string p0.1, .string p0.2.1, .int .i64 p0.2.2.1] z07 fun b1 =>
 L.load eS6 ((⟨b1, 0, none⟩ : Addr).add 1) fun (x2 : ByteArray) =>
 L.load eS6 (c0.add 1) fun (x3 : ByteArray) =>
 K (.bool (x2.toList == x3.toList))
theorem zhV (p0 : HT [.str, .str, .int .i64]) (c0 : Addr) {K : Value → PT} {w : World} (h : zd5 p0 c0 K w) : CT Pr z5c [(.ag [.string p0.1, .string p0.2.1, .int .i64 p0.2.2.1] : SV).toV, .pointer (some c0)] K w :=
 C_of (fn := Tryz.f176) (an := .auto) (args := [.ag [.string p0.1, .string p0.2.1, .int .i64 p0.2.2.1], .v (.pointer (some c0))]) (by kernel_rfl) (by kernel_rfl) (by kernel_rfl) h
theorem zhP : Enters Pr z5c := z0p (by kernel_rfl)
def z2x (p0 : Sl) (K : Value → PT) : PT :=
 L.ite ((p0.a).isNone) (
  K (.slice none 0 0)) <|
 L.new [] z07 fun b1 =>
 L.sem Pr (.one (.one .slice)) (Builtin.append_ #[z64, z64] z64 #[.slice (some ⟨b1, 0, none⟩) 0 0, .slice p0.a p0.len p0.cap]) fun (s2 : Sl) =>
 K (.slice s2.a s2.len s2.cap)
theorem z4R (p0 : Sl) {K : Value → PT} {w : World} (h : z2x p0 K w) : CT Pr z1z [.slice p0.a p0.len p0.cap] K w :=
 C_of (fn := Tryz.f180) (an := .auto) (args := [.v (.slice p0.a p0.len p0.cap)]) (by kernel_rfl) (by kernel_rfl) (by kernel_rfl) h
def zct : Ann := (.seq .auto (.seq .auto (.seq .auto (.seq (.seq .auto (.seq .auto .auto (some [(28, (.one (.int .i64))), (29, (.one (.ptr)))])) none) (.seq .auto (.seq (.seq .auto (.one [(41, (.one (.int .i64)))] .auto) none) .auto none) none) none) none) none) none)
def z82 (p0 : Option Addr) (p1 : ByteArray) (p2 : Int) (K : Value → PT) : PT :=
 L.nonnil p0 fun a1 =>
 L.load (.one (.map)) (a1.add 1) fun (x2 : Option Nat) =>
 L.semR Pr (.tup [eI6, .one .bool]) (Instr.lookup z4u (.map x2) (.int .i64 p2) true) fun (x3 : Int × Bool × Unit) =>
 L.ite x3.2.1 (
  K (.tuple #[.int .i64 0, .bool false])) <|
 L.new [.slice none 0 0] z0X fun b4 =>
 L.call Pr z2U [.pointer p0, .string p1] (.one (.one (.func))) fun (x5 : FV) =>
 L.range Pr none (.func x5.fn x5.fs x5.cs) [eI6, eP6] (fun l6 (y7 : Int × Option Addr × Unit) R8 =>
  L.begin Pr l6 <|
  L.draw <|
  L.load eL6 (⟨b4, 0, none⟩) fun (x11 : Sl) =>
  L.call Pr z2b [.pointer y7.2.1] rI fun (x12 : Int) =>
  L.chk (⟨b4, 0, none⟩) [.slice x11.a x11.len x11.cap] <|
  L.new [.int .i64 x12, .int .i64 y7.1] z0Q fun b13 =>
  L.chk (⟨b4, 0, none⟩) [.slice x11.a x11.len x11.cap] <|
  L.sem Pr (.one (.one .slice)) (Builtin.append_ #[z0X, z0X] z0X #[.slice x11.a x11.len x11.cap, .slice (some ⟨b13, 0, none⟩) 1 1]) fun (s14 : Sl) =>
  L.store (⟨b4, 0, none⟩) [.slice s14.a s14.len s14.cap] <|
  L.endRound Pr l6 none R8) fun d9 j10 =>
 L.jump j10 (
  L.load eL6 (⟨b4, 0, none⟩) fun (x15 : Sl) =>
  L.call Pr z0R [.slice x15.a x15.len x15.cap, .func (.func z1v) #[] #[]] (.tup []) fun (x16 : Unit) =>
  L.load eL6 (⟨b4, 0, none⟩) fun (x17 : Sl) =>
  L.loop (Y := Int × Unit) (0, ()) fun y18 again19 =>
  L.ite (decide (y18.1 < ((x17.len : Nat) : Int))) (
   L.idx x17.a y18.1 x17.len 2 fun a20 =>
   L.load (.agg [.int .i64, .int .i64]) a20 fun (x21 : Int × Int × Unit) =>
   L.new [.int .i64 0, .int .i64 0] z0Q fun b22 =>
   L.store (⟨b22, 0, none⟩) [.int .i64 x21.1, .int .i64 x21.2.1] <|
   L.draw <|
   L.nonnil p0 fun a23 =>
   L.load (.one (.map)) (a23.add 0) fun (x24 : Option Nat) =>
   L.load eI6 ((⟨b22, 0, none⟩ : Addr).add 1) fun (x25 : Int) =>
   L.semR Pr (.one (.agg [.str, .ptr])) (Instr.lookup z0s (.map x24) (.int .i64 x25) false) fun (x26 : ByteArray × Option Addr × Unit) =>
   L.call Pr z60 [.pointer x26.2.1, .int .i64 p2] rI fun (x27 : Int) =>
   L.ite (x27 == 0) (
    L.draw <|
    L.nonnil p0 fun a28 =>
    L.load (.one (.map)) (a28.add 1) fun (x29 : Option Nat) =>
    L.load eI6 ((⟨b22, 0, none⟩ : Addr).add 1) fun (x30 : Int) =>
    L.semU Pr (Instr.mapUpdate z4u (.map x29) (.int .i64 p2) (.int .i64 x30)) <|
    L.load eI6 ((⟨b22, 0, none⟩ : Addr).add 1) fun (x31 : Int) =>
    L.unmark Pr (d9 ++ []) <|
    K (.tuple #[.int .i64 x31, .bool true])) <|
   again19 (IntKind.wrap .i64 (y18.1 + 1), ())) <|
  L.unmark Pr (d9 ++ []) <|
  K (.tuple #[.int .i64 0, .bool false])) (
  L.unmark Pr (d9 ++ []) <|
  K (.tuple #[.int .i64 0, .bool false])) []
theorem zck (p0 : Option Addr) (p1 : ByteArray) (p2 : Int) {K : Value → PT} {w : World} (h : z82 p0 p1 p2 K w) : CT Pr z5w [.pointer p0, .string p1, .int .i64 p2] K w :=
 C_of (fn := Tryz.f183) (an := zct) (args := [.v (.pointer p0), .v (.string p1), .v (.int .i64 p2)]) (by kernel_rfl) (by kernel_rfl) (by kernel_rfl) h
def zcn : Ann := (.seq .auto (.seq (.seq .auto (.seq .auto .auto (some [(8, (.one (.int .i64))), (9, (.one (.int .i64)))])) none) .auto none) none)
def z7U (p0 : Option Addr) (p1 : Int) (K : Value → PT) : PT :=
 L.new [.int .i64 p1] z0h fun b1 =>
 L.new [.bool false] z6a fun b2 =>
 L.call Pr z1Y [.pointer p0] (.one (.one (.func))) fun (x3 : FV) =>
 L.range Pr none (.func x3.fn x3.fs x3.cs) [eI6, eI6] (fun l4 (y5 : Int × Int × Unit) R6 =>
  L.begin Pr l4 <|
  L.load eI6 (⟨b1, 0, none⟩) fun (x9 : Int) =>
  L.ite (y5.1 == x9) (
   L.store (⟨b2, 0, none⟩) [.bool true] <|
   L.endRound Pr l4 (some .ret) R6) <|
  L.endRound Pr l4 none R6) fun d7 j8 =>
 L.jump j8 (
  L.store (⟨b2, 0, none⟩) [.bool false] <|
  L.unmark Pr (d7 ++ []) <|
  L.load eB6 (⟨b2, 0, none⟩) fun (x10 : Bool) =>
  K (.bool x10)) (
  L.unmark Pr (d7 ++ []) <|
  L.load eB6 (⟨b2, 0, none⟩) fun (x11 : Bool) =>
  K (.bool x11)) []
theorem zca (p0 : Option Addr) (p1 : Int) {K : Value → PT} {w : World} (h : z7U p0 p1 K w) : CT Pr z5m [.pointer p0, .int .i64 p1] K w :=
 C_of (fn := Tryz.f184) (an := zcn) (args := [.v (.pointer p0), .v (.int .i64 p1)]) (by kernel_rfl) (by kernel_rfl) (by kernel_rfl) h
def zdA : Ann := (.seq .auto (.one [(7, (.one (.int .i64)))] .auto) none)
def z91 (p0 : FV) (c0 : Addr) (K : Value → PT) : PT :=
 L.load eL6 c0 fun (x1 : Sl) =>
 L.loop (Y := Int × Unit) (0, ()) fun y2 again3 =>
 L.ite (decide (y2.1 < ((x1.len : Nat) : Int))) (
  L.idx x1.a y2.1 x1.len 4 fun a4 =>
  L.load (.agg [.int .i64, .int .i64, .int .i64, .str]) a4 fun (x5 : pt10) =>
  L.new [.int .i64 0, .int .i64 0, .int .i64 0, .string s_] z0a fun b6 =>
  L.store (⟨b6, 0, none⟩) [.int .i64 x5.1, .int .i64 x5.2.1, .int .i64 x5.2.2.1, .string x5.2.2.2.1] <|
  L.load (.agg [.int .i64, .int .i64, .int .i64, .str]) (⟨b6, 0, none⟩) fun (x7 : pt10) =>
  L.call Pr z8B [.agg #[.int .i64 x7.1, .int .i64 x7.2.1, .int .i64 x7.2.2.1, .string x7.2.2.2.1]] rS fun (x8 : ByteArray) =>
  L.callV Pr (.func p0.fn p0.fs p0.cs) [.string x8] rB fun (x9 : Bool) =>
  L.ite (!x9) (
   K (.tuple #[])) <|
  again3 (IntKind.wrap .i64 (y2.1 + 1), ())) <|
 K (.tuple #[])
theorem zdl (p0 : FV) (c0 : Addr) {K : Value → PT} {w : World} (h : z91 p0 c0 K w) : CT Pr z3A [.func p0.fn p0.fs p0.cs, .pointer (some c0)] K w :=
 C_of (fn := Tryz.f185) (an := zdA) (args := [.v (.func p0.fn p0.fs p0.cs), .v (.pointer (some c0))]) (by kernel_rfl) (by kernel_rfl) (by kernel_rfl) h
theorem zdg : Enters Pr z3A := z0p (by kernel_rfl)
def zgF : Ann := (.seq .auto (.seq .auto (.seq (.one [(2, (.one (.str)))] .auto) .auto none) none) none)
def zbW (p0 : ht3) (K : Value → PT) : PT :=
 L.new [.int .i64 p0.1, .int .i64 p0.2.1, .int .i64 p0.2.2.1, .string p0.2.2.2.1] z0a fun b1 =>
 L.load eI6 ((⟨b1, 0, none⟩ : Addr).add 1) fun (x2 : Int) =>
 L.ite (x2 == 1) (
  L.load eI6 ((⟨b1, 0, none⟩ : Addr).add 0) fun (x3 : Int) =>
  L.load eI6 ((⟨b1, 0, none⟩ : Addr).add 2) fun (x4 : Int) =>
  L.new [.int .i64 x3, .int .i64 x4] z0h fun b5 =>
  L.call Pr z0m [.string zli, .slice (some ⟨b5, 0, none⟩) 2 2] rS fun (x6 : ByteArray) =>
  K (.string x6)) <|
 L.ite (x2 == 2) (
  L.load eI6 ((⟨b1, 0, none⟩ : Addr).add 0) fun (x7 : Int) =>
  L.new [.int .i64 x7] z0h fun b8 =>
  L.call Pr z0m [.string zld, .slice (some ⟨b8, 0, none⟩) 1 1] rS fun (x9 : ByteArray) =>
  K (.string x9)) <|
 L.ite (x2 == 3) (
  L.load eI6 ((⟨b1, 0, none⟩ : Addr).add 0) fun (x10 : Int) =>
  L.new [.int .i64 x10] z0h fun b11 =>
  L.call Pr z0m [.string zll, .slice (some ⟨b11, 0, none⟩) 1 1] rS fun (x12 : ByteArray) =>
  K (.string x12)) <|
 L.join (Y := ByteArray × Unit) (fun k13 =>
  L.draw <|
  L.load eI6 ((⟨b1, 0, none⟩ : Addr).add 0) fun (x15 : Int) =>
  L.load eS6 ((⟨b1, 0, none⟩ : Addr).add 3) fun (x16 : ByteArray) =>
  L.alts [(
    L.new [.int .i64 x15] z0h fun b17 =>
    L.chk ((⟨b1, 0, none⟩ : Addr).add 3) [.string x16] <|
    L.alts [(
      L.call Pr z0m [.string s_refused, .slice (some ⟨b17, 0, none⟩) 1 1] rS fun (x18 : ByteArray) =>
      L.chk ((⟨b1, 0, none⟩ : Addr).add 3) [.string x16] <|
      L.new [.string x16] z00 fun b19 =>
      L.chk ((⟨b1, 0, none⟩ : Addr).add 0) [.int .i64 x15] <|
      L.call Pr z0f [.string x18, .slice (some ⟨b19, 0, none⟩) 1 1] rS fun (x20 : ByteArray) =>
      k13 (x20, ())),(
      L.new [.string x16] z00 fun b21 =>
      L.chk ((⟨b1, 0, none⟩ : Addr).add 0) [.int .i64 x15] <|
      L.call Pr z0m [.string s_refused, .slice (some ⟨b17, 0, none⟩) 1 1] rS fun (x22 : ByteArray) =>
      L.chk ((⟨b1, 0, none⟩ : Addr).add 3) [.string x16] <|
      L.call Pr z0f [.string x22, .slice (some ⟨b21, 0, none⟩) 1 1] rS fun (x23 : ByteArray) =>
      k13 (x23, ()))]),(
    L.new [.string x16] z00 fun b24 =>
    L.chk ((⟨b1, 0, none⟩ : Addr).add 0) [.int .i64 x15] <|
    L.new [.int .i64 x15] z0h fun b25 =>
    L.chk ((⟨b1, 0, none⟩ : Addr).add 3) [.string x16] <|
    L.call Pr z0m [.string s_refused, .slice (some ⟨b25, 0, none⟩) 1 1] rS fun (x26 : ByteArray) =>
    L.chk ((⟨b1, 0, none⟩ : Addr).add 3) [.string x16] <|
    L.call Pr z0f [.string x26, .slice (some ⟨b24, 0, none⟩) 1 1] rS fun (x27 : ByteArray) =>
    k13 (x27, ()))]) fun z14 =>
 K (.string z14.1)
theorem zgq (p0 : ht3) {K : Value → PT} {w : World} (h : zbW p0 K w) : CT Pr z8B [(.ag (qc3 p0) : SV).toV] K w :=
 C_of (fn := Tryz.f186) (an := zgF) (args := [.ag (qc3 p0)]) (by kernel_rfl) (by kernel_rfl) (by kernel_rfl) h
def zaM (p0 : Option Addr) (p1 : Int) (K : Value → PT) : PT :=
 L.nonnil p0 fun a1 =>
 L.call Pr z5s [.pointer (some (a1.add 1)), .int .i64 p1] rI fun (x2 : Int) =>
 L.call Pr z6I [.pointer p0] (.tup []) fun (x3 : Unit) =>
 K (.int .i64 x2)
theorem zf0 (p0 : Option Addr) (p1 : Int) {K : Value → PT} {w : World} (h : zaM p0 p1 K w) : CT Pr z61 [.pointer p0, .int .i64 p1] K w :=
 C_of (fn := Tryz.f187) (an := .auto) (args := [.v (.pointer p0), .v (.int .i64 p1)]) (by kernel_rfl) (by kernel_rfl) (by kernel_rfl) h
def z7c (p0 : Option Addr) (K : Value → PT) : PT :=
 L.new [.pointer p0] z3E fun b1 =>
 K (.func (.func z2h) #[] #[.pointer (some (⟨b1, 0, none⟩))])
theorem zb8 (p0 : Option Addr) {K : Value → PT} {w : World} (h : z7c p0 K w) : CT Pr z1Y [.pointer p0] K w :=
 C_of (fn := Tryz.f188) (an := .auto) (args := [.v (.pointer p0)]) (by kernel_rfl) (by kernel_rfl) (by kernel_rfl) h
def z7i (p0 : FV) (K : Value → PT) : PT :=
 L.call Pr z6w [.func p0.fn p0.fs p0.cs] rL fun (x1 : Sl) =>
 L.call Pr z44 [.slice x1.a x1.len x1.cap] (.tup []) fun (x2 : Unit) =>
 K (.slice x1.a x1.len x1.cap)
theorem zbd (p0 : FV) {K : Value → PT} {w : World} (h : z7i p0 K w) : CT Pr z3n [.func p0.fn p0.fs p0.cs] K w :=
 C_of (fn := Tryz.f189) (an := .auto) (args := [.v (.func p0.fn p0.fs p0.cs)]) (by kernel_rfl) (by kernel_rfl) (by kernel_rfl) h
def z7X (p0 : Option Addr) (p1 : Int) (K : Value → PT) : PT :=
 L.nonnil p0 fun a1 =>
 L.load (.one (.map)) (a1.add 0) fun (x2 : Option Nat) =>
 L.semR Pr rB (Instr.lookup z2v (.map x2) (.int .i64 p1) false) fun (x3 : Bool) =>
 L.ite (!x3) (
  K (.int .i64 6)) <|
 L.nonnil p0 fun a4 =>
 L.load (.one (.map)) (a4.add 0) fun (x5 : Option Nat) =>
 L.sem Pr (.tup []) (Builtin.delete_ #[z2v, z0h] T_ #[.map x5, .int .i64 p1]) fun _ =>
 K (.int .i64 0)
theorem zce (p0 : Option Addr) (p1 : Int) {K : Value → PT} {w : World} (h : z7X p0 p1 K w) : CT Pr z5s [.pointer p0, .int .i64 p1] K w :=
 C_of (fn := Tryz.f191) (an := .auto) (args := [.v (.pointer p0), .v (.int .i64 p1)]) (by kernel_rfl) (by kernel_rfl) (by kernel_rfl) h
def z9S (p0 : Option Addr) (K : Value → PT) : PT :=
 L.nonnil p0 fun a1 =>
 L.load eI6 (a1.add 0) fun (x2 : Int) =>
 K (.int .i64 x2)
theorem zeI (p0 : Option Addr) {K : Value → PT} {w : World} (h : z9S p0 K w) : CT Pr z1k [.pointer p0] K w :=
 C_of (fn := Tryz.f192) (an := .auto) (args := [.v (.pointer p0)]) (by kernel_rfl) (by kernel_rfl) (by kernel_rfl) h
def z6Q : Ann := (.seq .auto (.one [(12, (.one (.int .i64)))] .auto) none)
def z3T (p0 : FV) (c0 : Addr) (K : Value → PT) : PT :=
 L.load eP6 c0 fun (x1 : Option Addr) =>
 L.nonnil x1 fun a2 =>
 L.load (.one (.map)) (a2.add 0) fun (x3 : Option Nat) =>
 L.call Pr z0S [.map x3] (.one (.one (.func))) fun (x4 : FV) =>
 L.call Pr z0O [.func x4.fn x4.fs x4.cs] rL fun (x5 : Sl) =>
 L.loop (Y := Int × Unit) (0, ()) fun y6 again7 =>
 L.ite (decide (y6.1 < ((x5.len : Nat) : Int))) (
  L.idx x5.a y6.1 x5.len 1 fun a8 =>
  L.load eS6 a8 fun (x9 : ByteArray) =>
  L.load eP6 c0 fun (x10 : Option Addr) =>
  L.nonnil x10 fun a11 =>
  L.load (.one (.map)) (a11.add 0) fun (x12 : Option Nat) =>
  L.semR Pr rP (Instr.lookup z0E (.map x12) (.string x9) false) fun (x13 : Option Addr) =>
  L.callV Pr (.func p0.fn p0.fs p0.cs) [.string x9, .pointer x13] rB fun (x14 : Bool) =>
  L.ite (!x14) (
   K (.tuple #[])) <|
  again7 (IntKind.wrap .i64 (y6.1 + 1), ())) <|
 K (.tuple #[])
theorem z6P (p0 : FV) (c0 : Addr) {K : Value → PT} {w : World} (h : z3T p0 c0 K w) : CT Pr z1i [.func p0.fn p0.fs p0.cs, .pointer (some c0)] K w :=
 C_of (fn := Tryz.f193) (an := z6Q) (args := [.v (.func p0.fn p0.fs p0.cs), .v (.pointer (some c0))]) (by kernel_rfl) (by kernel_rfl) (by kernel_rfl) h
theorem z6M : Enters Pr z1i := z0p (by kernel_rfl)
def z1s (p0 : Option Nat) (K : Value → PT) : PT :=
 L.new [.map p0] z0E fun b1 =>
 K (.func (.func z0d) #[] #[.pointer (some (⟨b1, 0, none⟩))])
theorem z2T (p0 : Option Nat) {K : Value → PT} {w : World} (h : z1s p0 K w) : CT Pr z0S [.map p0] K w :=
 C_of (fn := Tryz.f194) (an := .auto) (args := [.v (.map p0)]) (by kernel_rfl) (by kernel_rfl) (by kernel_rfl) h
def zbn : Ann := (.seq .auto (.seq .auto (.seq .auto (.seq (.seq .auto (.seq .auto .auto (some [(11, (.one (.int .i64))), (12, (.one (.int .i64)))])) none) .auto none) none) none) none)
def z7b (p0 : Option Addr) (p1 : Int) (K : Value → PT) : PT :=
 L.new [.int .i64 p1] z0h fun b1 =>
 L.new [.slice none 0 0] z1g fun b2 =>
 L.new [.slice none 0 0] z1f fun b3 =>
 L.call Pr z1Y [.pointer p0] (.one (.one (.func))) fun (x4 : FV) =>
 L.range Pr none (.func x4.fn x4.fs x4.cs) [eI6, eI6] (fun l5 (y6 : Int × Int × Unit) R7 =>
  L.begin Pr l5 <|
  L.load eI6 (⟨b1, 0, none⟩) fun (x10 : Int) =>
  L.ite (decide (y6.2.1 ≤ x10)) (
   L.load eL6 (⟨b2, 0, none⟩) fun (x11 : Sl) =>
   L.new [.int .i64 y6.1] z0h fun b12 =>
   L.sem Pr (.one (.one .slice)) (Builtin.append_ #[z1g, z1g] z1g #[.slice x11.a x11.len x11.cap, .slice (some ⟨b12, 0, none⟩) 1 1]) fun (s13 : Sl) =>
   L.store (⟨b2, 0, none⟩) [.slice s13.a s13.len s13.cap] <|
   L.endRound Pr l5 none R7) <|
  L.load eL6 (⟨b3, 0, none⟩) fun (x14 : Sl) =>
  L.new [.int .i64 y6.1, .int .i64 y6.2.1] z2j fun b15 =>
  L.sem Pr (.one (.one .slice)) (Builtin.append_ #[z1f, z1f] z1f #[.slice x14.a x14.len x14.cap, .slice (some ⟨b15, 0, none⟩) 1 1]) fun (s16 : Sl) =>
  L.store (⟨b3, 0, none⟩) [.slice s16.a s16.len s16.cap] <|
  L.endRound Pr l5 none R7) fun d8 j9 =>
 L.jump j9 (
  L.load eL6 (⟨b3, 0, none⟩) fun (x17 : Sl) =>
  L.nonnil p0 fun a18 =>
  L.store (a18.add 0) [.slice x17.a x17.len x17.cap] <|
  L.load eL6 (⟨b2, 0, none⟩) fun (x19 : Sl) =>
  L.call Pr z0V [.slice x19.a x19.len x19.cap] rL fun (x20 : Sl) =>
  L.unmark Pr (d8 ++ []) <|
  K (.slice x20.a x20.len x20.cap)) (
  L.unmark Pr (d8 ++ []) <|
  K (.slice none 0 0)) []
theorem zb7 (p0 : Option Addr) (p1 : Int) {K : Value → PT} {w : World} (h : z7b p0 p1 K w) : CT Pr z6Z [.pointer p0, .int .i64 p1] K w :=
 C_of (fn := Tryz.f195) (an := zbn) (args := [.v (.pointer p0), .v (.int .i64 p1)]) (by kernel_rfl) (by kernel_rfl) (by kernel_rfl) h
def z7g (p0 : Option Addr) (p1 : ByteArray) (K : Value → PT) : PT :=
 L.call Pr z3m [.pointer p0, .string p1, .func (.func z2W) #[] #[]] rS fun (x1 : ByteArray) =>
 L.call Pr z3m [.pointer p0, .string p1, .func (.func z1A) #[.pointer p0] #[]] rS fun (x2 : ByteArray) =>
 K (.tuple #[.string x1, .string x2])
theorem zbc (p0 : Option Addr) (p1 : ByteArray) {K : Value → PT} {w : World} (h : z7g p0 p1 K w) : CT Pr z4Z [.pointer p0, .string p1] K w :=
 C_of (fn := Tryz.f197) (an := .auto) (args := [.v (.pointer p0), .v (.string p1)]) (by kernel_rfl) (by kernel_rfl) (by kernel_rfl) h
def z7A : Ann := (.seq .auto (.one [(9, (.one (.int .i64)))] .auto) none)
def z4e (p0 : FV) (c0 : Addr) (K : Value → PT) : PT :=
 L.load (.one (.map)) c0 fun (x1 : Option Nat) =>
 L.call Pr z1u [.map x1] (.one (.one (.func))) fun (x2 : FV) =>
 L.call Pr z0O [.func x2.fn x2.fs x2.cs] rL fun (x3 : Sl) =>
 L.loop (Y := Int × Unit) (0, ()) fun y4 again5 =>
 L.ite (decide (y4.1 < ((x3.len : Nat) : Int))) (
  L.idx x3.a y4.1 x3.len 1 fun a6 =>
  L.load eS6 a6 fun (x7 : ByteArray) =>
  L.load (.one (.map)) c0 fun (x8 : Option Nat) =>
  L.semR Pr rI (Instr.lookup z0F (.map x8) (.string x7) false) fun (x9 : Int) =>
  L.callV Pr (.func p0.fn p0.fs p0.cs) [.string x7, .int .i64 x9] rB fun (x10 : Bool) =>
  L.ite (!x10) (
   K (.tuple #[])) <|
  again5 (IntKind.wrap .i64 (y4.1 + 1), ())) <|
 K (.tuple #[])
theorem z7x (p0 : FV) (c0 : Addr) {K : Value → PT} {w : World} (h : z4e p0 c0 K w) : CT Pr z1l [.func p0.fn p0.fs p0.cs, .pointer (some c0)] K w :=
 C_of (fn := Tryz.f198) (an := z7A) (args := [.v (.func p0.fn p0.fs p0.cs), .v (.pointer (some c0))]) (by kernel_rfl) (by kernel_rfl) (by kernel_rfl) h
theorem z7s : Enters Pr z1l := z0p (by kernel_rfl)
def z2u (p0 : Option Nat) (K : Value → PT) : PT :=
 L.new [.map p0] z0F fun b1 =>
 K (.func (.func z0v) #[] #[.pointer (some (⟨b1, 0, none⟩))])
theorem z4J (p0 : Option Nat) {K : Value → PT} {w : World} (h : z2u p0 K w) : CT Pr z1u [.map p0] K w :=
 C_of (fn := Tryz.f199) (an := .auto) (args := [.v (.map p0)]) (by kernel_rfl) (by kernel_rfl) (by kernel_rfl) h
def z6k : Ann := (.seq .auto (.one [(9, (.one (.int .i64)))] .auto) none)
def z3j (p0 : FV) (c0 : Addr) (K : Value → PT) : PT :=
 L.load (.one (.map)) c0 fun (x1 : Option Nat) =>
 L.call Pr z17 [.map x1] (.one (.one (.func))) fun (x2 : FV) =>
 L.call Pr z0O [.func x2.fn x2.fs x2.cs] rL fun (x3 : Sl) =>
 L.loop (Y := Int × Unit) (0, ()) fun y4 again5 =>
 L.ite (decide (y4.1 < ((x3.len : Nat) : Int))) (
  L.idx x3.a y4.1 x3.len 1 fun a6 =>
  L.load eS6 a6 fun (x7 : ByteArray) =>
  L.load (.one (.map)) c0 fun (x8 : Option Nat) =>
  L.semR Pr rS (Instr.lookup z0q (.map x8) (.string x7) false) fun (x9 : ByteArray) =>
  L.callV Pr (.func p0.fn p0.fs p0.cs) [.string x7, .string x9] rB fun (x10 : Bool) =>
  L.ite (!x10) (
   K (.tuple #[])) <|
  again5 (IntKind.wrap .i64 (y4.1 + 1), ())) <|
 K (.tuple #[])
theorem z6i (p0 : FV) (c0 : Addr) {K : Value → PT} {w : World} (h : z3j p0 c0 K w) : CT Pr z0Z [.func p0.fn p0.fs p0.cs, .pointer (some c0)] K w :=
 C_of (fn := Tryz.f200) (an := z6k) (args := [.v (.func p0.fn p0.fs p0.cs), .v (.pointer (some c0))]) (by kernel_rfl) (by kernel_rfl) (by kernel_rfl) h
theorem z6g : Enters Pr z0Z := z0p (by kernel_rfl)
def z1K (p0 : Option Nat) (K : Value → PT) : PT :=
 L.new [.map p0] z0q fun b1 =>
 K (.func (.func z0j) #[] #[.pointer (some (⟨b1, 0, none⟩))])
theorem z3y (p0 : Option Nat) {K : Value → PT} {w : World} (h : z1K p0 K w) : CT Pr z17 [.map p0] K w :=
 C_of (fn := Tryz.f201) (an := .auto) (args := [.v (.map p0)]) (by kernel_rfl) (by kernel_rfl) (by kernel_rfl) h
def z6j : Ann := (.seq .auto (.seq .auto (.seq (.seq .auto (.one [(5, (.one (.slice))), (12, (.one (.int .i64)))] (.seq .auto (.seq .auto (.seq (.seq .auto (.seq .auto (.one [(5, (.one (.slice))), (18, (.one (.int .i64)))] .auto) none) none) .auto none) none) none)) none) .auto none) none) none)
def z3i (p0 : FV) (p1 : Sl) (K : Value → PT) : PT :=
 L.loop (Y := Sl × Int × Unit) (⟨none, 0, 0⟩, 0, ()) fun y1 again2 =>
 L.ite (decide (y1.2.1 < ((p1.len : Nat) : Int))) (
  L.idx p1.a y1.2.1 p1.len 1 fun a3 =>
  L.load eL6 a3 fun (x4 : Sl) =>
  L.loop (Y := Sl × Int × Unit) (⟨y1.1.a, y1.1.len, y1.1.cap⟩, 0, ()) fun y5 again6 =>
  L.ite (decide (y5.2.1 < ((x4.len : Nat) : Int))) (
   L.idx x4.a y5.2.1 x4.len 2 fun a7 =>
   L.load (.agg [.str, .int .i64]) a7 fun (x8 : ByteArray × Int × Unit) =>
   L.new [.string s_, .int .i64 0] z0t fun b9 =>
   L.store (⟨b9, 0, none⟩) [.string x8.1, .int .i64 x8.2.1] <|
   L.load (.agg [.str, .int .i64]) (⟨b9, 0, none⟩) fun (x10 : ByteArray × Int × Unit) =>
   L.callV Pr (.func p0.fn p0.fs p0.cs) [.agg #[.string x10.1, .int .i64 x10.2.1]] rS fun (x11 : ByteArray) =>
   L.new [.string x11] z00 fun b12 =>
   L.sem Pr (.one (.one .slice)) (Builtin.append_ #[z06, z06] z06 #[.slice y5.1.a y5.1.len y5.1.cap, .slice (some ⟨b12, 0, none⟩) 1 1]) fun (s13 : Sl) =>
   again6 (⟨s13.a, s13.len, s13.cap⟩, IntKind.wrap .i64 (y5.2.1 + 1), ())) <|
  again2 (⟨y5.1.a, y5.1.len, y5.1.cap⟩, IntKind.wrap .i64 (y1.2.1 + 1), ())) <|
 L.call Pr z2A [.slice y1.1.a y1.1.len y1.1.cap] (.tup []) fun (x14 : Unit) =>
 L.call Pr z3h [.slice y1.1.a y1.1.len y1.1.cap] rL fun (x15 : Sl) =>
 K (.slice x15.a x15.len x15.cap)
theorem z6h (p0 : FV) (p1 : Sl) {K : Value → PT} {w : World} (h : z3i p0 p1 K w) : CT Pr z2i [.func p0.fn p0.fs p0.cs, .slice p1.a p1.len p1.cap] K w :=
 C_of (fn := Tryz.f202) (an := z6j) (args := [.v (.func p0.fn p0.fs p0.cs), .v (.slice p1.a p1.len p1.cap)]) (by kernel_rfl) (by kernel_rfl) (by kernel_rfl) h
def zfC (p0 : HT [.str, .int .i64]) (K : Value → PT) : PT :=
 L.new [.string p0.1, .int .i64 p0.2.1] z0t fun b1 =>
 L.load eS6 ((⟨b1, 0, none⟩ : Addr).add 0) fun (x2 : ByteArray) =>
 K (.string x2)
theorem zkI (p0 : HT [.str, .int .i64]) {K : Value → PT} {w : World} (h : zfC p0 K w) : CT Pr zad [(.ag [.string p0.1, .int .i64 p0.2.1] : SV).toV] K w :=
 C_of (fn := Tryz.f203) (an := .auto) (args := [.ag [.string p0.1, .int .i64 p0.2.1]]) (by kernel_rfl) (by kernel_rfl) (by kernel_rfl) h
theorem zkF : Enters Pr zad := z0p (by kernel_rfl)
def zc0 (p0 : Sl) (p1 : ByteArray) (K : Value → PT) : PT :=
 L.new [.string p1] z00 fun b1 =>
 L.call Pr z2n [.slice p0.a p0.len p0.cap, .func (.func z5r) #[] #[.pointer (some (⟨b1, 0, none⟩))]] rI fun (x2 : Int) =>
 L.ite (decide (x2 < 0)) (
  K (.int .i64 0)) <|
 L.idx p0.a x2 p0.len 2 fun a3 =>
 L.load eI6 (a3.add 1) fun (x4 : Int) =>
 K (.int .i64 x4)
theorem zgu (p0 : Sl) (p1 : ByteArray) {K : Value → PT} {w : World} (h : zc0 p0 p1 K w) : CT Pr z4k [.slice p0.a p0.len p0.cap, .string p1] K w :=
 C_of (fn := Tryz.f204) (an := .auto) (args := [.v (.slice p0.a p0.len p0.cap), .v (.string p1)]) (by kernel_rfl) (by kernel_rfl) (by kernel_rfl) h
def zcu : Ann := (.seq .auto (.seq .auto (.seq (.seq .auto (.seq .auto .auto (some [(11, (.one (.int .i64))), (12, (.one (.ptr)))])) none) .auto none) none) none)
def z83 (p0 : Option Addr) (p1 : ByteArray) (K : Value → PT) : PT :=
 L.new [.slice none 0 0] z1p fun b1 =>
 L.call Pr z2U [.pointer p0, .string p1] (.one (.one (.func))) fun (x2 : FV) =>
 L.range Pr none (.func x2.fn x2.fs x2.cs) [eI6, eP6] (fun l3 (y4 : Int × Option Addr × Unit) R5 =>
  L.begin Pr l3 <|
  L.draw <|
  L.load eL6 (⟨b1, 0, none⟩) fun (x8 : Sl) =>
  L.call Pr z1k [.pointer y4.2.1] rI fun (x9 : Int) =>
  L.chk (⟨b1, 0, none⟩) [.slice x8.a x8.len x8.cap] <|
  L.call Pr z2b [.pointer y4.2.1] rI fun (x10 : Int) =>
  L.chk (⟨b1, 0, none⟩) [.slice x8.a x8.len x8.cap] <|
  L.new [.int .i64 y4.1, .int .i64 x9, .int .i64 x10] z48 fun b11 =>
  L.chk (⟨b1, 0, none⟩) [.slice x8.a x8.len x8.cap] <|
  L.sem Pr (.one (.one .slice)) (Builtin.append_ #[z1p, z1p] z1p #[.slice x8.a x8.len x8.cap, .slice (some ⟨b11, 0, none⟩) 1 1]) fun (s12 : Sl) =>
  L.store (⟨b1, 0, none⟩) [.slice s12.a s12.len s12.cap] <|
  L.endRound Pr l3 none R5) fun d6 j7 =>
 L.jump j7 (
  L.load eL6 (⟨b1, 0, none⟩) fun (x13 : Sl) =>
  L.call Pr z1y [.slice x13.a x13.len x13.cap] rL fun (x14 : Sl) =>
  L.unmark Pr (d6 ++ []) <|
  K (.slice x14.a x14.len x14.cap)) (
  L.unmark Pr (d6 ++ []) <|
  K (.slice none 0 0)) []
theorem zcl (p0 : Option Addr) (p1 : ByteArray) {K : Value → PT} {w : World} (h : z83 p0 p1 K w) : CT Pr z5x [.pointer p0, .string p1] K w :=
 C_of (fn := Tryz.f205) (an := zcu) (args := [.v (.pointer p0), .v (.string p1)]) (by kernel_rfl) (by kernel_rfl) (by kernel_rfl) h
def z9b (p0 : Option Addr) (p1 : ByteArray) (K : Value → PT) : PT :=
 L.new [.pointer p0] z0J fun b1 =>
 L.new [.string p1] z00 fun b2 =>
 K (.func (.func z2X) #[] #[.pointer (some (⟨b1, 0, none⟩)), .pointer (some (⟨b2, 0, none⟩))])
theorem zdw (p0 : Option Addr) (p1 : ByteArray) {K : Value → PT} {w : World} (h : z9b p0 p1 K w) : CT Pr z2U [.pointer p0, .string p1] K w :=
 C_of (fn := Tryz.f207) (an := .auto) (args := [.v (.pointer p0), .v (.string p1)]) (by kernel_rfl) (by kernel_rfl) (by kernel_rfl) h
def z88 (p0 : Option Addr) (K : Value → PT) : PT :=
 L.nonnil p0 fun a1 =>
 L.load (.one (.map)) ((a1.add 1).add 0) fun (x2 : Option Nat) =>
 L.semR Pr rI (Builtin.len_ #[z2v] z0h #[.map x2]) fun (x3 : Int) =>
 K (.int .i64 x3)
theorem zaR (p0 : Option Addr) {K : Value → PT} {w : World} (h : z88 p0 K w) : CT Pr z2b [.pointer p0] K w :=
 C_of (fn := Tryz.f208) (an := .auto) (args := [.v (.pointer p0)]) (by kernel_rfl) (by kernel_rfl) (by kernel_rfl) h
def zgJ : Ann := (.seq .auto (.cond .auto .auto) none)
def zc2 (p0 : Option Addr) (K : Value → PT) : PT :=
 L.nonnil p0 fun a1 =>
 L.load eI6 (a1.add 0) fun (x2 : Int) =>
 L.ite (x2 == 3) (
  L.call Pr z2b [.pointer p0] rI fun (x3 : Int) =>
  L.ite (x3 == 0) (
   L.nonnil p0 fun a4 =>
   L.store (a4.add 0) [.int .i64 4] <|
   K (.tuple #[])) <|
  K (.tuple #[])) <|
 K (.tuple #[])
theorem zgw (p0 : Option Addr) {K : Value → PT} {w : World} (h : zc2 p0 K w) : CT Pr z6I [.pointer p0] K w :=
 C_of (fn := Tryz.f209) (an := zgJ) (args := [.v (.pointer p0)]) (by kernel_rfl) (by kernel_rfl) (by kernel_rfl) h
def z5F (p0 : FV) (K : Value → PT) : PT :=
 L.call Pr z1V [.slice none 0 0, .func p0.fn p0.fs p0.cs] rL fun (x1 : Sl) =>
 K (.slice x1.a x1.len x1.cap)
theorem z8T (p0 : FV) {K : Value → PT} {w : World} (h : z5F p0 K w) : CT Pr z5q [.func p0.fn p0.fs p0.cs] K w :=
 C_of (fn := Tryz.f210) (an := .auto) (args := [.v (.func p0.fn p0.fs p0.cs)]) (by kernel_rfl) (by kernel_rfl) (by kernel_rfl) h
def z2g : Ann := (.seq .auto (.one [] (.seq .auto (.seq (.cond .auto .auto) .auto none) none)) none)
def z0Y (p0 : FV) (c0 : Addr) (K : Value → PT) : PT :=
 L.load (.one (.map)) c0 fun (x1 : Option Nat) =>
 L.sem Pr (.one (.one .ptr)) (Instr.range z0i (.map x1)) fun (it2 : Option Addr) =>
 L.loop (Y := Unit) (()) fun y3 again4 =>
 L.next Pr [eS6, (.agg lf5)] (Instr.next (.pointer it2) false T_) (
  K (.tuple #[])) fun (x5 : pt22) =>
 L.sem Pr (.tup [eS6, (.agg lf5)]) (Instr.entry (.pointer it2)) fun (x6 : pt22) =>
 L.callV Pr (.func p0.fn p0.fs p0.cs) [.string x6.1] rB fun (x7 : Bool) =>
 L.ite (!x7) (
  K (.tuple #[])) <|
 again4 (())
theorem z2f (p0 : FV) (c0 : Addr) {K : Value → PT} {w : World} (h : z0Y p0 c0 K w) : CT Pr z09 [.func p0.fn p0.fs p0.cs, .pointer (some c0)] K w :=
 C_of (fn := Tryz.f212) (an := z2g) (args := [.v (.func p0.fn p0.fs p0.cs), .v (.pointer (some c0))]) (by kernel_rfl) (by kernel_rfl) (by kernel_rfl) h
theorem z2e : Enters Pr z09 := z0p (by kernel_rfl)
def z3V : Ann := (.seq .auto (.seq (.seq .auto (.one [(8, (.one (.int .i64)))] .auto) none) .auto none) none)
def z27 (p0 : Sl) (p1 : FV) (K : Value → PT) : PT :=
 L.loop (Y := Int × Unit) (0, ()) fun y1 again2 =>
 L.ite (decide (y1.1 < ((p0.len : Nat) : Int))) (
  L.idx p0.a y1.1 p0.len 3 fun a3 =>
  L.load (.agg [.str, .str, .int .i64]) a3 fun (x4 : pt9) =>
  L.callV Pr (.func p1.fn p1.fs p1.cs) [.agg #[.string x4.1, .string x4.2.1, .int .i64 x4.2.2.1]] rB fun (x5 : Bool) =>
  L.ite x5 (
   K (.int .i64 y1.1)) <|
  again2 (IntKind.wrap .i64 (y1.1 + 1), ())) <|
 K (.int .i64 (-1))
theorem z3U (p0 : Sl) (p1 : FV) {K : Value → PT} {w : World} (h : z27 p0 p1 K w) : CT Pr z25 [.slice p0.a p0.len p0.cap, .func p1.fn p1.fs p1.cs] K w :=
 C_of (fn := Tryz.f217) (an := z3V) (args := [.v (.slice p0.a p0.len p0.cap), .v (.func p1.fn p1.fs p1.cs)]) (by kernel_rfl) (by kernel_rfl) (by kernel_rfl) h
def z1r (p0 : Sl) (p1 : FV) (K : Value → PT) : PT :=
 L.call Pr z2z [.slice p0.a p0.len p0.cap, .int .i64 ((p0.len : Nat) : Int), .func p1.fn p1.fs p1.cs] (.tup []) fun (x1 : Unit) =>
 K (.tuple #[])
theorem z2S (p0 : Sl) (p1 : FV) {K : Value → PT} {w : World} (h : z1r p0 p1 K w) : CT Pr z0R [.slice p0.a p0.len p0.cap, .func p1.fn p1.fs p1.cs] K w :=
 C_of (fn := Tryz.f224) (an := .auto) (args := [.v (.slice p0.a p0.len p0.cap), .v (.func p1.fn p1.fs p1.cs)]) (by kernel_rfl) (by kernel_rfl) (by kernel_rfl) h
def z6D (p0 : HT [.int .i64, .int .i64]) (p1 : HT [.int .i64, .int .i64]) (K : Value → PT) : PT :=
 L.new [.int .i64 p0.1, .int .i64 p0.2.1] z0Q fun b1 =>
 L.new [.int .i64 p1.1, .int .i64 p1.2.1] z0Q fun b2 =>
 L.load eI6 ((⟨b1, 0, none⟩ : Addr).add 0) fun (x3 : Int) =>
 L.load eI6 ((⟨b2, 0, none⟩ : Addr).add 0) fun (x4 : Int) =>
 K (.int .i64 (IntKind.wrap .i64 (x3 - x4)))
theorem zaB (p0 : HT [.int .i64, .int .i64]) (p1 : HT [.int .i64, .int .i64]) {K : Value → PT} {w : World} (h : z6D p0 p1 K w) : CT Pr z1v [(.ag [.int .i64 p0.1, .int .i64 p0.2.1] : SV).toV, (.ag [.int .i64 p1.1, .int .i64 p1.2.1] : SV).toV] K w :=
 C_of (fn := Tryz.f225) (an := .auto) (args := [.ag [.int .i64 p0.1, .int .i64 p0.2.1], .ag [.int .i64 p1.1, .int .i64 p1.2.1]]) (by kernel_rfl) (by kernel_rfl) (by kernel_rfl) h
theorem zar : Enters Pr z1v := z0p (by kernel_rfl)
def zaL (p0 : Option Addr) (p1 : Int) (K : Value → PT) : PT :=
 L.nonnil p0 fun a1 =>
 L.load eI6 (a1.add 0) fun (x2 : Int) =>
 L.ite (x2 != 2) (
  K (.int .i64 9)) <|
 L.nonnil p0 fun a3 =>
 L.call Pr z8h [.pointer (some (a3.add 1)), .int .i64 p1] rI fun (x4 : Int) =>
 K (.int .i64 x4)
theorem zeZ (p0 : Option Addr) (p1 : Int) {K : Value → PT} {w : World} (h : zaL p0 p1 K w) : CT Pr z60 [.pointer p0, .int .i64 p1] K w :=
 C_of (fn := Tryz.f226) (an := .auto) (args := [.v (.pointer p0), .v (.int .i64 p1)]) (by kernel_rfl) (by kernel_rfl) (by kernel_rfl) h
def za7 : Ann := (.seq .auto (.one [(10, (.one (.int .i64)))] .auto) none)
def z6b (p0 : FV) (c0 : Addr) (K : Value → PT) : PT :=
 L.load eP6 c0 fun (x1 : Option Addr) =>
 L.nonnil x1 fun a2 =>
 L.load eL6 (a2.add 0) fun (x3 : Sl) =>
 L.loop (Y := Int × Unit) (0, ()) fun y4 again5 =>
 L.ite (decide (y4.1 < ((x3.len : Nat) : Int))) (
  L.idx x3.a y4.1 x3.len 2 fun a6 =>
  L.load (.agg [.int .i64, .int .i64]) a6 fun (x7 : Int × Int × Unit) =>
  L.new [.int .i64 0, .int .i64 0] z2j fun b8 =>
  L.store (⟨b8, 0, none⟩) [.int .i64 x7.1, .int .i64 x7.2.1] <|
  L.load eI6 ((⟨b8, 0, none⟩ : Addr).add 0) fun (x9 : Int) =>
  L.load eI6 ((⟨b8, 0, none⟩ : Addr).add 1) fun (x10 : Int) =>
  L.callV Pr (.func p0.fn p0.fs p0.cs) [.int .i64 x9, .int .i64 x10] rB fun (x11 : Bool) =>
  L.ite (!x11) (
   K (.tuple #[])) <|
  again5 (IntKind.wrap .i64 (y4.1 + 1), ())) <|
 K (.tuple #[])
theorem z9Z (p0 : FV) (c0 : Addr) {K : Value → PT} {w : World} (h : z6b p0 c0 K w) : CT Pr z2h [.func p0.fn p0.fs p0.cs, .pointer (some c0)] K w :=
 C_of (fn := Tryz.f227) (an := za7) (args := [.v (.func p0.fn p0.fs p0.cs), .v (.pointer (some c0))]) (by kernel_rfl) (by kernel_rfl) (by kernel_rfl) h
theorem z9V : Enters Pr z2h := z0p (by kernel_rfl)
def z6A (p0 : FV) (K : Value → PT) : PT :=
 L.call Pr z2O [.slice none 0 0, .func p0.fn p0.fs p0.cs] rL fun (x1 : Sl) =>
 K (.slice x1.a x1.len x1.cap)
theorem zay (p0 : FV) {K : Value → PT} {w : World} (h : z6A p0 K w) : CT Pr z6w [.func p0.fn p0.fs p0.cs] K w :=
 C_of (fn := Tryz.f228) (an := .auto) (args := [.v (.func p0.fn p0.fs p0.cs)]) (by kernel_rfl) (by kernel_rfl) (by kernel_rfl) h
def z2I : Ann := (.seq .auto (.one [] (.seq .auto (.seq (.cond .auto .auto) .auto none) none)) none)
def z1o (p0 : FV) (c0 : Addr) (K : Value → PT) : PT :=
 L.load (.one (.map)) c0 fun (x1 : Option Nat) =>
 L.sem Pr (.one (.one .ptr)) (Instr.range z0E (.map x1)) fun (it2 : Option Addr) =>
 L.loop (Y := Unit) (()) fun y3 again4 =>
 L.next Pr [eS6, eP6] (Instr.next (.pointer it2) false T_) (
  K (.tuple #[])) fun (x5 : ByteArray × Option Addr × Unit) =>
 L.sem Pr (.tup [eS6, eP6]) (Instr.entry (.pointer it2)) fun (x6 : ByteArray × Option Addr × Unit) =>
 L.callV Pr (.func p0.fn p0.fs p0.cs) [.string x6.1] rB fun (x7 : Bool) =>
 L.ite (!x7) (
  K (.tuple #[])) <|
 again4 (())
theorem z2H (p0 : FV) (c0 : Addr) {K : Value → PT} {w : World} (h : z1o p0 c0 K w) : CT Pr z0d [.func p0.fn p0.fs p0.cs, .pointer (some c0)] K w :=
 C_of (fn := Tryz.f230) (an := z2I) (args := [.v (.func p0.fn p0.fs p0.cs), .v (.pointer (some c0))]) (by kernel_rfl) (by kernel_rfl) (by kernel_rfl) h
theorem z2G : Enters Pr z0d := z0p (by kernel_rfl)
def zbo : Ann := (.seq .auto (.seq .auto (.seq (.seq .auto (.one [(18, (.one (.int .i64)))] (.seq .auto (.seq .auto (.seq (.seq .auto (.seq .auto (.seq .auto (.cond .auto .auto) none) none) none) .auto (some [])) none) none)) none) .auto none) none) none)
def z7f (p0 : Option Addr) (p1 : ByteArray) (p2 : FV) (K : Value → PT) : PT :=
 L.new [.string s_, .int .i64 0, .string s_, .int .i64 0, .int .i64 0, .int .i64 0, .int .i64 0, .int .i64 0] z0l fun b1 =>
 L.store (⟨b1, 0, none⟩) [.string s_, .int .i64 0, .string s_, .int .i64 0, .int .i64 0, .int .i64 0, .int .i64 0, .int .i64 0] <|
 L.nonnil p0 fun a2 =>
 L.load (.one (.map)) (a2.add 0) fun (x3 : Option Nat) =>
 L.call Pr z1j [.map x3] rL fun (x4 : Sl) =>
 L.loop (Y := Int × Unit) (0, ()) fun y5 again6 =>
 L.ite (decide (y5.1 < ((x4.len : Nat) : Int))) (
  L.join (Y := Unit) (fun k7 =>
   L.idx x4.a y5.1 x4.len 1 fun a9 =>
   L.load eS6 a9 fun (x10 : ByteArray) =>
   L.nonnil p0 fun a11 =>
   L.load (.one (.map)) (a11.add 0) fun (x12 : Option Nat) =>
   L.semR Pr (.one (.agg lf5)) (Instr.lookup z0i (.map x12) (.string x10) false) fun (x13 : pt14) =>
   L.new [.string s_, .int .i64 0, .string s_, .int .i64 0, .int .i64 0, .int .i64 0, .int .i64 0, .int .i64 0] z0l fun b14 =>
   L.store (⟨b14, 0, none⟩) [.string x13.1, .int .i64 x13.2.1, .string x13.2.2.1, .int .i64 x13.2.2.2.1, .int .i64 x13.2.2.2.2.1, .int .i64 x13.2.2.2.2.2.1, .int .i64 x13.2.2.2.2.2.2.1, .int .i64 x13.2.2.2.2.2.2.2.1] <|
   L.load eS6 (((⟨b14, 0, none⟩ : Addr).add 2).add 0) fun (x15 : ByteArray) =>
   L.ite (x15.toList == p1.toList) (
    L.load eI6 ((⟨b14, 0, none⟩ : Addr).add 1) fun (x16 : Int) =>
    L.load eI6 ((⟨b1, 0, none⟩ : Addr).add 1) fun (x17 : Int) =>
    L.ite (decide (x16 > x17)) (
     L.callV Pr (.func p2.fn p2.fs p2.cs) [.string x10] rB fun (x18 : Bool) =>
     L.ite x18 (
      L.load (.agg lf5) (⟨b14, 0, none⟩) fun (x19 : pt14) =>
      L.store (⟨b1, 0, none⟩) [.string x19.1, .int .i64 x19.2.1, .string x19.2.2.1, .int .i64 x19.2.2.2.1, .int .i64 x19.2.2.2.2.1, .int .i64 x19.2.2.2.2.2.1, .int .i64 x19.2.2.2.2.2.2.1, .int .i64 x19.2.2.2.2.2.2.2.1] <|
      k7 (())) <|
     k7 (())) <|
    k7 (())) <|
   k7 (())) fun z8 =>
  again6 (IntKind.wrap .i64 (y5.1 + 1), ())) <|
 L.load eS6 ((⟨b1, 0, none⟩ : Addr).add 0) fun (x20 : ByteArray) =>
 K (.string x20)
theorem zbb (p0 : Option Addr) (p1 : ByteArray) (p2 : FV) {K : Value → PT} {w : World} (h : z7f p0 p1 p2 K w) : CT Pr z3m [.pointer p0, .string p1, .func p2.fn p2.fs p2.cs] K w :=
 C_of (fn := Tryz.f233) (an := zbo) (args := [.v (.pointer p0), .v (.string p1), .v (.func p2.fn p2.fs p2.cs)]) (by kernel_rfl) (by kernel_rfl) (by kernel_rfl) h
def z6f (p0 : ByteArray) (K : Value → PT) : PT :=
 K (.bool true)
theorem za5 (p0 : ByteArray) {K : Value → PT} {w : World} (h : z6f p0 K w) : CT Pr z2W [.string p0] K w :=
 C_of (fn := Tryz.f234) (an := .auto) (args := [.v (.string p0)]) (by kernel_rfl) (by kernel_rfl) (by kernel_rfl) h
theorem z9Y : Enters Pr z2W := z0p (by kernel_rfl)
def z4h : Ann := (.seq .auto (.one [] (.seq .auto (.seq (.cond .auto .auto) .auto none) none)) none)
def z2k (p0 : FV) (c0 : Addr) (K : Value → PT) : PT :=
 L.load (.one (.map)) c0 fun (x1 : Option Nat) =>
 L.sem Pr (.one (.one .ptr)) (Instr.range z0F (.map x1)) fun (it2 : Option Addr) =>
 L.loop (Y := Unit) (()) fun y3 again4 =>
 L.next Pr [eS6, eI6] (Instr.next (.pointer it2) false T_) (
  K (.tuple #[])) fun (x5 : ByteArray × Int × Unit) =>
 L.sem Pr (.tup [eS6, eI6]) (Instr.entry (.pointer it2)) fun (x6 : ByteArray × Int × Unit) =>
 L.callV Pr (.func p0.fn p0.fs p0.cs) [.string x6.1] rB fun (x7 : Bool) =>
 L.ite (!x7) (
  K (.tuple #[])) <|
 again4 (())
theorem z4g (p0 : FV) (c0 : Addr) {K : Value → PT} {w : World} (h : z2k p0 c0 K w) : CT Pr z0v [.func p0.fn p0.fs p0.cs, .pointer (some c0)] K w :=
 C_of (fn := Tryz.f235) (an := z4h) (args := [.v (.func p0.fn p0.fs p0.cs), .v (.pointer (some c0))]) (by kernel_rfl) (by kernel_rfl) (by kernel_rfl) h
theorem z4f : Enters Pr z0v := z0p (by kernel_rfl)
def z3f : Ann := (.seq .auto (.one [] (.seq .auto (.seq (.cond .auto .auto) .auto none) none)) none)
def z1E (p0 : FV) (c0 : Addr) (K : Value → PT) : PT :=
 L.load (.one (.map)) c0 fun (x1 : Option Nat) =>
 L.sem Pr (.one (.one .ptr)) (Instr.range z0q (.map x1)) fun (it2 : Option Addr) =>
 L.loop (Y := Unit) (()) fun y3 again4 =>
 L.next Pr [eS6, eS6] (Instr.next (.pointer it2) false T_) (
  K (.tuple #[])) fun (x5 : ByteArray × ByteArray × Unit) =>
 L.sem Pr (.tup [eS6, eS6]) (Instr.entry (.pointer it2)) fun (x6 : ByteArray × ByteArray × Unit) =>
 L.callV Pr (.func p0.fn p0.fs p0.cs) [.string x6.1] rB fun (x7 : Bool) =>
 L.ite (!x7) (
  K (.tuple #[])) <|
 again4 (())
theorem z3d (p0 : FV) (c0 : Addr) {K : Value → PT} {w : World} (h : z1E p0 c0 K w) : CT Pr z0j [.func p0.fn p0.fs p0.cs, .pointer (some c0)] K w :=
 C_of (fn := Tryz.f236) (an := z3f) (args := [.v (.func p0.fn p0.fs p0.cs), .v (.pointer (some c0))]) (by kernel_rfl) (by kernel_rfl) (by kernel_rfl) h
theorem z3b : Enters Pr z0j := z0p (by kernel_rfl)
def z4w : Ann := (.seq .auto (.seq (.seq .auto (.one [(8, (.one (.int .i64)))] .auto) none) .auto none) none)
def z2p (p0 : Sl) (p1 : FV) (K : Value → PT) : PT :=
 L.loop (Y := Int × Unit) (0, ()) fun y1 again2 =>
 L.ite (decide (y1.1 < ((p0.len : Nat) : Int))) (
  L.idx p0.a y1.1 p0.len 2 fun a3 =>
  L.load (.agg [.str, .int .i64]) a3 fun (x4 : ByteArray × Int × Unit) =>
  L.callV Pr (.func p1.fn p1.fs p1.cs) [.agg #[.string x4.1, .int .i64 x4.2.1]] rB fun (x5 : Bool) =>
  L.ite x5 (
   K (.int .i64 y1.1)) <|
  again2 (IntKind.wrap .i64 (y1.1 + 1), ())) <|
 K (.int .i64 (-1))
theorem z4v (p0 : Sl) (p1 : FV) {K : Value → PT} {w : World} (h : z2p p0 p1 K w) : CT Pr z2n [.slice p0.a p0.len p0.cap, .func p1.fn p1.fs p1.cs] K w :=
 C_of (fn := Tryz.f238) (an := z4w) (args := [.v (.slice p0.a p0.len p0.cap), .v (.func p1.fn p1.fs p1.cs)]) (by kernel_rfl) (by kernel_rfl) (by kernel_rfl) h
def z9R (p0 : HT [.str, .int .i64]) (c0 : Addr) (K : Value → PT) : PT :=
 L.new [.string p0.1, .int .i64 p0.2.1] z0t fun b1 =>
 L.load eS6 ((⟨b1, 0, none⟩ : Addr).add 0) fun (x2 : ByteArray) =>
 L.load eS6 c0 fun (x3 : ByteArray) =>
 K (.bool (x2.toList == x3.toList))
theorem zeH (p0 : HT [.str, .int .i64]) (c0 : Addr) {K : Value → PT} {w : World} (h : z9R p0 c0 K w) : CT Pr z5r [(.ag [.string p0.1, .int .i64 p0.2.1] : SV).toV, .pointer (some c0)] K w :=
 C_of (fn := Tryz.f239) (an := .auto) (args := [.ag [.string p0.1, .int .i64 p0.2.1], .v (.pointer (some c0))]) (by kernel_rfl) (by kernel_rfl) (by kernel_rfl) h
theorem zeD : Enters Pr z5r := z0p (by kernel_rfl)
def z2w (p0 : Sl) (K : Value → PT) : PT :=
 L.ite ((p0.a).isNone) (
  K (.slice none 0 0)) <|
 L.new [] z48 fun b1 =>
 L.sem Pr (.one (.one .slice)) (Builtin.append_ #[z1p, z1p] z1p #[.slice (some ⟨b1, 0, none⟩) 0 0, .slice p0.a p0.len p0.cap]) fun (s2 : Sl) =>
 K (.slice s2.a s2.len s2.cap)
theorem z4Q (p0 : Sl) {K : Value → PT} {w : World} (h : z2w p0 K w) : CT Pr z1y [.slice p0.a p0.len p0.cap] K w :=
 C_of (fn := Tryz.f240) (an := .auto) (args := [.v (.slice p0.a p0.len p0.cap)]) (by kernel_rfl) (by kernel_rfl) (by kernel_rfl) h
def zcs : Ann := (.seq .auto (.one [(14, (.one (.int .i64)))] (.seq .auto (.seq .auto (.seq (.seq .auto (.seq .auto (.seq .auto (.cond .auto .auto) none) none) none) .auto (some [])) none) none)) none)
def z81 (p0 : FV) (c0 : Addr) (c1 : Addr) (K : Value → PT) : PT :=
 L.load eP6 c0 fun (x1 : Option Addr) =>
 L.nonnil x1 fun a2 =>
 L.load (.one (.map)) (a2.add 0) fun (x3 : Option Nat) =>
 L.call Pr z18 [.map x3] (.one (.one (.func))) fun (x4 : FV) =>
 L.call Pr z3n [.func x4.fn x4.fs x4.cs] rL fun (x5 : Sl) =>
 L.loop (Y := Int × Unit) (0, ()) fun y6 again7 =>
 L.ite (decide (y6.1 < ((x5.len : Nat) : Int))) (
  L.join (Y := Unit) (fun k8 =>
   L.idx x5.a y6.1 x5.len 1 fun a10 =>
   L.load eI6 a10 fun (x11 : Int) =>
   L.load eP6 c0 fun (x12 : Option Addr) =>
   L.nonnil x12 fun a13 =>
   L.load (.one (.map)) (a13.add 0) fun (x14 : Option Nat) =>
   L.semR Pr (.one (.agg [.str, .ptr])) (Instr.lookup z0s (.map x14) (.int .i64 x11) false) fun (x15 : ByteArray × Option Addr × Unit) =>
   L.new [.string s_, .pointer none] z57 fun b16 =>
   L.store (⟨b16, 0, none⟩) [.string x15.1, .pointer x15.2.1] <|
   L.load eS6 ((⟨b16, 0, none⟩ : Addr).add 0) fun (x17 : ByteArray) =>
   L.load eS6 c1 fun (x18 : ByteArray) =>
   L.ite (x17.toList == x18.toList) (
    L.load eP6 ((⟨b16, 0, none⟩ : Addr).add 1) fun (x19 : Option Addr) =>
    L.callV Pr (.func p0.fn p0.fs p0.cs) [.int .i64 x11, .pointer x19] rB fun (x20 : Bool) =>
    L.ite (!x20) (
     K (.tuple #[])) <|
    k8 (())) <|
   k8 (())) fun z9 =>
  again7 (IntKind.wrap .i64 (y6.1 + 1), ())) <|
 K (.tuple #[])
theorem zcj (p0 : FV) (c0 : Addr) (c1 : Addr) {K : Value → PT} {w : World} (h : z81 p0 c0 c1 K w) : CT Pr z2X [.func p0.fn p0.fs p0.cs, .pointer (some c0), .pointer (some c1)] K w :=
 C_of (fn := Tryz.f241) (an := zcs) (args := [.v (.func p0.fn p0.fs p0.cs), .v (.pointer (some c0)), .v (.pointer (some c1))]) (by kernel_rfl) (by kernel_rfl) (by kernel_rfl) h
theorem zc9 : Enters Pr z2X := z0p (by kernel_rfl)
def z1L (p0 : Option Nat) (K : Value → PT) : PT :=
 L.new [.map p0] z0s fun b1 =>
 K (.func (.func z0k) #[] #[.pointer (some (⟨b1, 0, none⟩))])
theorem z3z (p0 : Option Nat) {K : Value → PT} {w : World} (h : z1L p0 K w) : CT Pr z18 [.map p0] K w :=
 C_of (fn := Tryz.f242) (an := .auto) (args := [.v (.map p0)]) (by kernel_rfl) (by kernel_rfl) (by kernel_rfl) h
def z5L : Ann := (.seq .auto (.seq (.seq .auto (.seq .auto .auto (some [(7, (.one (.str)))])) none) .auto none) none)
def z35 (p0 : Sl) (p1 : FV) (K : Value → PT) : PT :=
 L.new [.slice p0.a p0.len p0.cap] z06 fun b1 =>
 L.range Pr none (.func p1.fn p1.fs p1.cs) [eS6] (fun l2 (y3 : ByteArray × Unit) R4 =>
  L.begin Pr l2 <|
  L.load eL6 (⟨b1, 0, none⟩) fun (x7 : Sl) =>
  L.new [.string y3.1] z00 fun b8 =>
  L.sem Pr (.one (.one .slice)) (Builtin.append_ #[z06, z06] z06 #[.slice x7.a x7.len x7.cap, .slice (some ⟨b8, 0, none⟩) 1 1]) fun (s9 : Sl) =>
  L.store (⟨b1, 0, none⟩) [.slice s9.a s9.len s9.cap] <|
  L.endRound Pr l2 none R4) fun d5 j6 =>
 L.jump j6 (
  L.load eL6 (⟨b1, 0, none⟩) fun (x10 : Sl) =>
  L.unmark Pr (d5 ++ []) <|
  K (.slice x10.a x10.len x10.cap)) (
  L.unmark Pr (d5 ++ []) <|
  K (.slice none 0 0)) []
theorem z5K (p0 : Sl) (p1 : FV) {K : Value → PT} {w : World} (h : z35 p0 p1 K w) : CT Pr z1V [.slice p0.a p0.len p0.cap, .func p1.fn p1.fs p1.cs] K w :=
 C_of (fn := Tryz.f243) (an := z5L) (args := [.v (.slice p0.a p0.len p0.cap), .v (.func p1.fn p1.fs p1.cs)]) (by kernel_rfl) (by kernel_rfl) (by kernel_rfl) h
def z5a : Ann := (.seq .auto (.seq .auto (.seq (.one [(7, (.one (.int .i64))), (8, (.one (.int .i64)))] .auto) (.seq .auto (.one [(6, (.one (.int .i64)))] (.seq .auto (.seq .auto (.seq (.one [(7, (.one (.int .i64))), (8, (.one (.int .i64)))] .auto) (.seq .auto .auto (some [])) none) none) none)) none) none) none) none)
def z2F (p0 : Sl) (p1 : Int) (p2 : FV) (K : Value → PT) : PT :=
 L.loop (Y := Int × Int × Unit) (0, 20, ()) fun y1 again2 =>
 L.ite (decide (y1.2.1 ≤ p1)) (
  L.call Pr z0N [.slice p0.a p0.len p0.cap, .int .i64 y1.1, .int .i64 y1.2.1, .func p2.fn p2.fs p2.cs] (.tup []) fun (x3 : Unit) =>
  again2 (y1.2.1, IntKind.wrap .i64 (y1.2.1 + 20), ())) <|
 L.call Pr z0N [.slice p0.a p0.len p0.cap, .int .i64 y1.1, .int .i64 p1, .func p2.fn p2.fs p2.cs] (.tup []) fun (x4 : Unit) =>
 L.loop (Y := Int × Unit) (20, ()) fun y5 again6 =>
 L.ite (decide (y5.1 < p1)) (
  L.loop (Y := Int × Int × Unit) (0, IntKind.wrap .i64 (2 * y5.1), ()) fun y7 again8 =>
  L.ite (decide (y7.2.1 ≤ p1)) (
   L.call Pr z0W [.slice p0.a p0.len p0.cap, .int .i64 y7.1, .int .i64 (IntKind.wrap .i64 (y7.1 + y5.1)), .int .i64 y7.2.1, .func p2.fn p2.fs p2.cs] (.tup []) fun (x9 : Unit) =>
   again8 (y7.2.1, IntKind.wrap .i64 (y7.2.1 + (IntKind.wrap .i64 (2 * y5.1))), ())) <|
  L.join (Y := Unit) (fun k10 =>
   L.ite (decide ((IntKind.wrap .i64 (y7.1 + y5.1)) < p1)) (
    L.call Pr z0W [.slice p0.a p0.len p0.cap, .int .i64 y7.1, .int .i64 (IntKind.wrap .i64 (y7.1 + y5.1)), .int .i64 p1, .func p2.fn p2.fs p2.cs] (.tup []) fun (x12 : Unit) =>
    k10 (())) <|
   k10 (())) fun z11 =>
  again6 (IntKind.wrap .i64 (y5.1 * 2), ())) <|
 K (.tuple #[])
theorem z59 (p0 : Sl) (p1 : Int) (p2 : FV) {K : Value → PT} {w : World} (h : z2F p0 p1 p2 K w) : CT Pr z2z [.slice p0.a p0.len p0.cap, .int .i64 p1, .func p2.fn p2.fs p2.cs] K w :=
 C_of (fn := Tryz.f256) (an := z5a) (args := [.v (.slice p0.a p0.len p0.cap), .v (.int .i64 p1), .v (.func p2.fn p2.fs p2.cs)]) (by kernel_rfl) (by kernel_rfl) (by kernel_rfl) h
def z8r (p0 : Option Addr) (p1 : Int) (K : Value → PT) : PT :=
 L.nonnil p0 fun a1 =>
 L.load (.one (.map)) (a1.add 0) fun (x2 : Option Nat) =>
 L.semR Pr rB (Instr.lookup z2v (.map x2) (.int .i64 p1) false) fun (x3 : Bool) =>
 L.ite x3 (
  K (.int .i64 5)) <|
 L.draw <|
 L.nonnil p0 fun a4 =>
 L.load (.one (.map)) (a4.add 0) fun (x5 : Option Nat) =>
 L.semR Pr rI (Builtin.len_ #[z2v] z0h #[.map x5]) fun (x6 : Int) =>
 L.nonnil p0 fun a7 =>
 L.load eI6 (a7.add 1) fun (x8 : Int) =>
 L.ite (decide (x6 ≥ x8)) (
  K (.int .i64 8)) <|
 L.nonnil p0 fun a9 =>
 L.load (.one (.map)) (a9.add 0) fun (x10 : Option Nat) =>
 L.semU Pr (Instr.mapUpdate z2v (.map x10) (.int .i64 p1) (.bool true)) <|
 K (.int .i64 0)
theorem zcP (p0 : Option Addr) (p1 : Int) {K : Value → PT} {w : World} (h : z8r p0 p1 K w) : CT Pr z8h [.pointer p0, .int .i64 p1] K w :=
 C_of (fn := Tryz.f257) (an := .auto) (args := [.v (.pointer p0), .v (.int .i64 p1)]) (by kernel_rfl) (by kernel_rfl) (by kernel_rfl) h
def z7G : Ann := (.seq .auto (.seq (.seq .auto (.seq .auto .auto (some [(7, (.one (.int .i64)))])) none) .auto none) none)
def z4y (p0 : Sl) (p1 : FV) (K : Value → PT) : PT :=
 L.new [.slice p0.a p0.len p0.cap] z1g fun b1 =>
 L.range Pr none (.func p1.fn p1.fs p1.cs) [eI6] (fun l2 (y3 : Int × Unit) R4 =>
  L.begin Pr l2 <|
  L.load eL6 (⟨b1, 0, none⟩) fun (x7 : Sl) =>
  L.new [.int .i64 y3.1] z0h fun b8 =>
  L.sem Pr (.one (.one .slice)) (Builtin.append_ #[z1g, z1g] z1g #[.slice x7.a x7.len x7.cap, .slice (some ⟨b8, 0, none⟩) 1 1]) fun (s9 : Sl) =>
  L.store (⟨b1, 0, none⟩) [.slice s9.a s9.len s9.cap] <|
  L.endRound Pr l2 none R4) fun d5 j6 =>
 L.jump j6 (
  L.load eL6 (⟨b1, 0, none⟩) fun (x10 : Sl) =>
  L.unmark Pr (d5 ++ []) <|
  K (.slice x10.a x10.len x10.cap)) (
  L.unmark Pr (d5 ++ []) <|
  K (.slice none 0 0)) []
theorem z7B (p0 : Sl) (p1 : FV) {K : Value → PT} {w : World} (h : z4y p0 p1 K w) : CT Pr z2O [.slice p0.a p0.len p0.cap, .func p1.fn p1.fs p1.cs] K w :=
 C_of (fn := Tryz.f258) (an := z7G) (args := [.v (.slice p0.a p0.len p0.cap), .v (.func p1.fn p1.fs p1.cs)]) (by kernel_rfl) (by kernel_rfl) (by kernel_rfl) h
def z3g : Ann := (.seq .auto (.one [] (.seq .auto (.seq (.cond .auto .auto) .auto none) none)) none)
def z1F (p0 : FV) (c0 : Addr) (K : Value → PT) : PT :=
 L.load (.one (.map)) c0 fun (x1 : Option Nat) =>
 L.sem Pr (.one (.one .ptr)) (Instr.range z0s (.map x1)) fun (it2 : Option Addr) =>
 L.loop (Y := Unit) (()) fun y3 again4 =>
 L.next Pr [eI6, (.agg [.str, .ptr])] (Instr.next (.pointer it2) false T_) (
  K (.tuple #[])) fun (x5 : pt23) =>
 L.sem Pr (.tup [eI6, (.agg [.str, .ptr])]) (Instr.entry (.pointer it2)) fun (x6 : pt23) =>
 L.callV Pr (.func p0.fn p0.fs p0.cs) [.int .i64 x6.1] rB fun (x7 : Bool) =>
 L.ite (!x7) (
  K (.tuple #[])) <|
 again4 (())
theorem z3e (p0 : FV) (c0 : Addr) {K : Value → PT} {w : World} (h : z1F p0 c0 K w) : CT Pr z0k [.func p0.fn p0.fs p0.cs, .pointer (some c0)] K w :=
 C_of (fn := Tryz.f269) (an := z3g) (args := [.v (.func p0.fn p0.fs p0.cs), .v (.pointer (some c0))]) (by kernel_rfl) (by kernel_rfl) (by kernel_rfl) h
theorem z3c : Enters Pr z0k := z0p (by kernel_rfl)
def z3G : Ann := (.seq .auto (.one [(8, (.one (.int .i64)))] (.seq .auto (.seq (.seq .auto (.one [(9, (.one (.int .i64)))] (.seq (.seq .auto (.cond .auto .auto) none) .auto none)) none) .auto (some [])) none)) none)
def z1T (p0 : Sl) (p1 : Int) (p2 : Int) (p3 : FV) (K : Value → PT) : PT :=
 L.loop (Y := Int × Unit) (IntKind.wrap .i64 (p1 + 1), ()) fun y1 again2 =>
 L.ite (decide (y1.1 < p2)) (
  L.join (Y := Unit) (fun k3 =>
   L.loop (Y := Int × Unit) (y1.1, ()) fun y5 again6 =>
   L.draw <|
   L.ite (decide (y5.1 > p1)) (
    L.idx p0.a y5.1 p0.len 2 fun a7 =>
    L.load (.agg [.int .i64, .int .i64]) a7 fun (x8 : Int × Int × Unit) =>
    L.idx p0.a (IntKind.wrap .i64 (y5.1 - 1)) p0.len 2 fun a9 =>
    L.load (.agg [.int .i64, .int .i64]) a9 fun (x10 : Int × Int × Unit) =>
    L.callV Pr (.func p3.fn p3.fs p3.cs) [.agg #[.int .i64 x8.1, .int .i64 x8.2.1], .agg #[.int .i64 x10.1, .int .i64 x10.2.1]] rI fun (x11 : Int) =>
    L.ite (decide (x11 < 0)) (
     L.draw <|
     L.idx p0.a (IntKind.wrap .i64 (y5.1 - 1)) p0.len 2 fun a12 =>
     L.load (.agg [.int .i64, .int .i64]) a12 fun (x13 : Int × Int × Unit) =>
     L.idx p0.a y5.1 p0.len 2 fun a14 =>
     L.load (.agg [.int .i64, .int .i64]) a14 fun (x15 : Int × Int × Unit) =>
     L.idx p0.a y5.1 p0.len 2 fun a16 =>
     L.store a16 [.int .i64 x13.1, .int .i64 x13.2.1] <|
     L.idx p0.a (IntKind.wrap .i64 (y5.1 - 1)) p0.len 2 fun a17 =>
     L.store a17 [.int .i64 x15.1, .int .i64 x15.2.1] <|
     again6 (IntKind.wrap .i64 (y5.1 - 1), ())) <|
    k3 (())) <|
   k3 (())) fun z4 =>
  again2 (IntKind.wrap .i64 (y1.1 + 1), ())) <|
 K (.tuple #[])
theorem z3F (p0 : Sl) (p1 : Int) (p2 : Int) (p3 : FV) {K : Value → PT} {w : World} (h : z1T p0 p1 p2 p3 K w) : CT Pr z0N [.slice p0.a p0.len p0.cap, .int .i64 p1, .int .i64 p2, .func p3.fn p3.fs p3.cs] K w :=
 C_of (fn := Tryz.f284) (an := z3G) (args := [.v (.slice p0.a p0.len p0.cap), .v (.int .i64 p1), .v (.int .i64 p2), .v (.func p3.fn p3.fs p3.cs)]) (by kernel_rfl) (by kernel_rfl) (by kernel_rfl) h
end Go.Proofs.YtkebppklbobjcaaGreatDoor
