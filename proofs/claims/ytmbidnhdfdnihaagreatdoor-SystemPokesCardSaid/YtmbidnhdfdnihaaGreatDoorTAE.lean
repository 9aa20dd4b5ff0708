/- What is proved on the way to a statement of the seat, pressed (text AE). No conditions beyond those its theorems state. -/
import Derived.Test.YtmbidnhdfdnihaaGreatDoorTAD
set_option linter.all false
namespace Go.Proofs.YtmbidnhdfdnihaaGreatDoor
set_option maxRecDepth 100000
open Go.Dm
def zc8 (p0 : Sl) (p1 : Sl) (p2 : Int) (p3 : Int) (K : Value → PT) : PT :=
 L.join (Y := Bool × Unit) (fun k1 =>
  L.ite (decide (p3 ≤ 0)) (
   k1 (true, ())) <|
  k1 (decide (p2 ≥ p3), ())) fun z2 =>
 L.ite z2.1 (
  L.call Pr z0w [.slice p1.a p1.len p1.cap] rL fun (x3 : Sl) =>
  K (.slice x3.a x3.len x3.cap)) <|
 L.ite (decide (p2 ≤ 0)) (
  L.call Pr z0w [.slice p0.a p0.len p0.cap] rL fun (x4 : Sl) =>
  K (.slice x4.a x4.len x4.cap)) <|
 L.new [.slice p0.a p0.len p0.cap, .slice p1.a p1.len p1.cap] z0B fun b5 =>
 L.call Pr z2j [.func (.func zaj) #[] #[], .slice (some ⟨b5, 0, none⟩) 2 2] rL fun (x6 : Sl) =>
 L.sem Pr (.one (.one .slice)) (Instr.makeSlice z1h (.int .i64 ((x6.len : Nat) : Int)) (.int .i64 ((x6.len : Nat) : Int))) fun (s7 : Sl) =>
 L.loop (Y := Int × Int × Unit) (0, 0, ()) fun y8 again9 =>
 L.ite (decide (y8.2.1 < ((x6.len : Nat) : Int))) (
  L.join (Y := Int × Unit) (fun k10 =>
   L.draw <|
   L.idx x6.a y8.2.1 x6.len 1 fun a12 =>
   L.load eS6 a12 fun (x13 : ByteArray) =>
   L.idx x6.a y8.2.1 x6.len 1 fun a14 =>
   L.load eS6 a14 fun (x15 : ByteArray) =>
   L.call Pr z4r [.slice p1.a p1.len p1.cap, .string x13] rI fun (x16 : Int) =>
   L.chk a14 [.string x15] <|
   L.call Pr z4r [.slice p0.a p0.len p0.cap, .string x15] rI fun (x17 : Int) =>
   L.ite (decide ((IntKind.wrap .i64 (x16 - x17)) > 0)) (
    L.guard (p3 ≠ (0 : Int)) <|
    L.idx s7.a y8.2.1 s7.len 1 fun a18 =>
    L.store a18 [.int .i64 (IntKind.wrap .i64 (Int.tdiv (IntKind.wrap .i64 ((IntKind.wrap .i64 (x16 - x17)) * p2)) p3))] <|
    L.idx s7.a y8.2.1 s7.len 1 fun a19 =>
    L.load eI6 a19 fun (x20 : Int) =>
    k10 (IntKind.wrap .i64 (y8.1 + x20), ())) <|
   k10 (y8.1, ())) fun z11 =>
  again9 (z11.1, IntKind.wrap .i64 (y8.2.1 + 1), ())) <|
 L.loop (Y := Int × Sl × Int × Unit) (y8.1, ⟨none, 0, 0⟩, 0, ()) fun y21 again22 =>
 L.ite (decide (y21.2.2.1 < ((x6.len : Nat) : Int))) (
  L.join (Y := Int × Sl × Unit) (fun k23 =>
   L.idx x6.a y21.2.2.1 x6.len 1 fun a25 =>
   L.load eS6 a25 fun (x26 : ByteArray) =>
   L.call Pr z4r [.slice p0.a p0.len p0.cap, .string x26] rI fun (x27 : Int) =>
   L.join (Y := Int × Unit) (fun k28 =>
    L.idx x6.a y21.2.2.1 x6.len 1 fun a30 =>
    L.load eS6 a30 fun (x31 : ByteArray) =>
    L.call Pr z4r [.slice p1.a p1.len p1.cap, .string x31] rI fun (x32 : Int) =>
    L.ite (decide ((IntKind.wrap .i64 (x27 - x32)) > 0)) (
     L.idx s7.a y21.2.2.1 s7.len 1 fun a33 =>
     L.store a33 [.int .i64 (IntKind.wrap .i64 (0 - (if y21.1 < (IntKind.wrap .i64 (x27 - x32)) then y21.1 else (IntKind.wrap .i64 (x27 - x32)))))] <|
     L.idx s7.a y21.2.2.1 s7.len 1 fun a34 =>
     L.load eI6 a34 fun (x35 : Int) =>
     k28 (IntKind.wrap .i64 (y21.1 + x35), ())) <|
    k28 (y21.1, ())) fun z29 =>
   L.idx s7.a y21.2.2.1 s7.len 1 fun a36 =>
   L.load eI6 a36 fun (x37 : Int) =>
   L.ite (decide ((IntKind.wrap .i64 (x27 + x37)) > 0)) (
    L.idx x6.a y21.2.2.1 x6.len 1 fun a38 =>
    L.load eS6 a38 fun (x39 : ByteArray) =>
    L.new [.string x39, .int .i64 (IntKind.wrap .i64 (x27 + x37))] z0t fun b40 =>
    L.sem Pr (.one (.one .slice)) (Builtin.append_ #[z0B, z0B] z0B #[.slice y21.2.1.a y21.2.1.len y21.2.1.cap, .slice (some ⟨b40, 0, none⟩) 1 1]) fun (s41 : Sl) =>
    k23 (z29.1, ⟨s41.a, s41.len, s41.cap⟩, ())) <|
   k23 (z29.1, ⟨y21.2.1.a, y21.2.1.len, y21.2.1.cap⟩, ())) fun z24 =>
  again22 (z24.1, ⟨z24.2.1.a, z24.2.1.len, z24.2.1.cap⟩, IntKind.wrap .i64 (y21.2.2.1 + 1), ())) <|
 L.call Pr z0w [.slice y21.2.1.a y21.2.1.len y21.2.1.cap] rL fun (x42 : Sl) =>
 K (.slice x42.a x42.len x42.cap)
theorem zgD (p0 : Sl) (p1 : Sl) (p2 : Int) (p3 : Int) {K : Value → PT} {w : World} (h : zc8 p0 p1 p2 p3 K w) : CT Pr z8C [.slice p0.a p0.len p0.cap, .slice p1.a p1.len p1.cap, .int .i64 p2, .int .i64 p3] K w :=
 C_of (fn := Tryz.f156) (an := zgQ) (args := [.v (.slice p0.a p0.len p0.cap), .v (.slice p1.a p1.len p1.cap), .v (.int .i64 p2), .v (.int .i64 p3)]) (by kernel_rfl) (by kernel_rfl) (by kernel_rfl) h
def z6E (p0 : Option Addr) (p1 : ByteArray) (K : Value → PT) : PT :=
 L.nonnil p0 fun a1 =>
 L.load eP6 (a1.add 3) fun (x2 : Option Addr) =>
 L.call Pr z5x [.pointer x2, .string p1] rL fun (x3 : Sl) =>
 K (.slice x3.a x3.len x3.cap)
theorem zay (p0 : Option Addr) (p1 : ByteArray) {K : Value → PT} {w : World} (h : z6E p0 p1 K w) : CT Pr z6z [.pointer p0, .string p1] K w :=
 C_of (fn := Tryz.f157) (an := .auto) (args := [.v (.pointer p0), .v (.string p1)]) (by kernel_rfl) (by kernel_rfl) (by kernel_rfl) h
def z6k (p0 : Option Addr) (K : Value → PT) : PT :=
 L.new [.pointer p0] z5A fun b1 =>
 K (.func (.func z1I) #[] #[.pointer (some (⟨b1, 0, none⟩))])
theorem zab (p0 : Option Addr) {K : Value → PT} {w : World} (h : z6k p0 K w) : CT Pr z4c [.pointer p0] K w :=
 C_of (fn := Tryz.f158) (an := .auto) (args := [.v (.pointer p0)]) (by kernel_rfl) (by kernel_rfl) (by kernel_rfl) h
def zdg (p0 : Int) (p1 : Int) (p2 : Int) (K : Value → PT) : PT :=
 L.ite (decide (p1 ≤ 0)) (
  K (.int .i64 0)) <|
 L.ite (decide (p2 ≤ 0)) (
  K (.int .i64 0)) <|
 L.guard ((IntKind.wrap .i64 (p1 * p2)) ≠ (0 : Int)) <|
 K (.int .i64 (IntKind.wrap .i64 (Int.tdiv (IntKind.wrap .i64 ((IntKind.wrap .i64 (p0 + (IntKind.wrap .i64 (p1 * p2)))) - 1)) (IntKind.wrap .i64 (p1 * p2)))))
theorem zi5 (p0 : Int) (p1 : Int) (p2 : Int) {K : Value → PT} {w : World} (h : zdg p0 p1 p2 K w) : CT Pr z4a [.int .i64 p0, .int .i64 p1, .int .i64 p2] K w :=
 C_of (fn := Tryz.f159) (an := .auto) (args := [.v (.int .i64 p0), .v (.int .i64 p1), .v (.int .i64 p2)]) (by kernel_rfl) (by kernel_rfl) (by kernel_rfl) h
def z6j (p0 : HT [.int .i64, .int .i64]) (p1 : Int) (p2 : Int) (K : Value → PT) : PT :=
 L.new [.int .i64 p0.1, .int .i64 p0.2.1] z0S fun b1 =>
 L.ite (decide (p1 ≥ (IntKind.wrap .i64 (2 * p2)))) (
  K (.int .i64 6)) <|
 L.load eI6 ((⟨b1, 0, none⟩ : Addr).add 1) fun (x2 : Int) =>
 K (.int .i64 (if 0 > (IntKind.wrap .i64 (x2 - 1)) then 0 else (IntKind.wrap .i64 (x2 - 1))))
theorem zaa (p0 : HT [.int .i64, .int .i64]) (p1 : Int) (p2 : Int) {K : Value → PT} {w : World} (h : z6j p0 p1 p2 K w) : CT Pr z32 [(.ag [.int .i64 p0.1, .int .i64 p0.2.1] : SV).toV, .int .i64 p1, .int .i64 p2] K w :=
 C_of (fn := Tryz.f160) (an := .auto) (args := [.ag [.int .i64 p0.1, .int .i64 p0.2.1], .v (.int .i64 p1), .v (.int .i64 p2)]) (by kernel_rfl) (by kernel_rfl) (by kernel_rfl) h
def z7X (p0 : HT [.int .i64, .int .i64]) (p1 : HT [.int .i64, .int .i64]) (K : Value → PT) : PT :=
 L.new [.int .i64 p0.1, .int .i64 p0.2.1] z0S fun b1 =>
 L.new [.int .i64 p1.1, .int .i64 p1.2.1] z9O fun b2 =>
 L.load eI6 ((⟨b1, 0, none⟩ : Addr).add 0) fun (x3 : Int) =>
 L.idx (some (⟨b2, 0, none⟩)) 0 2 1 fun a4 =>
 L.load eI6 a4 fun (x5 : Int) =>
 L.idx (some (⟨b2, 0, none⟩)) 1 2 1 fun a6 =>
 L.load eI6 a6 fun (x7 : Int) =>
 K (.int .i64 (if x7 > (if x5 > x3 then x5 else x3) then x7 else (if x5 > x3 then x5 else x3)))
theorem zcl (p0 : HT [.int .i64, .int .i64]) (p1 : HT [.int .i64, .int .i64]) {K : Value → PT} {w : World} (h : z7X p0 p1 K w) : CT Pr z5q [(.ag [.int .i64 p0.1, .int .i64 p0.2.1] : SV).toV, (.ag [.int .i64 p1.1, .int .i64 p1.2.1] : SV).toV] K w :=
 C_of (fn := Tryz.f161) (an := .auto) (args := [.ag [.int .i64 p0.1, .int .i64 p0.2.1], .ag [.int .i64 p1.1, .int .i64 p1.2.1]]) (by kernel_rfl) (by kernel_rfl) (by kernel_rfl) h
def zaN (p0 : ht0) (p1 : Int) (p2 : Int) (K : Value → PT) : PT :=
 L.new [.string p0.1, .int .i64 p0.2.1, .int .i64 p0.2.2.1, .int .i64 p0.2.2.2.1, .int .i64 p0.2.2.2.2.1, .int .i64 p0.2.2.2.2.2.1] z0d fun b1 =>
 L.new [.int .i64 0, .int .i64 0, .int .i64 0, .int .i64 0] zmn fun b2 =>
 L.guard (2 ≠ (0 : Int)) <|
 L.load eI6 ((⟨b1, 0, none⟩ : Addr).add 3) fun (x3 : Int) =>
 L.load eI6 ((⟨b1, 0, none⟩ : Addr).add 4) fun (x4 : Int) =>
 L.store (⟨b2, 0, none⟩) [.int .i64 (IntKind.wrap .i64 (4 * p2)), .int .i64 (IntKind.wrap .i64 (Int.tdiv p1 2)), .int .i64 x3, .int .i64 x4] <|
 L.load (.agg [.int .i64, .int .i64, .int .i64, .int .i64]) (⟨b2, 0, none⟩) fun (x5 : Int × Int × Int × Int × Unit) =>
 K (.agg #[.int .i64 x5.1, .int .i64 x5.2.1, .int .i64 x5.2.2.1, .int .i64 x5.2.2.2.1])
theorem zf7 (p0 : ht0) (p1 : Int) (p2 : Int) {K : Value → PT} {w : World} (h : zaN p0 p1 p2 K w) : CT Pr z89 [(.ag (qc0 p0) : SV).toV, .int .i64 p1, .int .i64 p2] K w :=
 C_of (fn := Tryz.f162) (an := .auto) (args := [.ag (qc0 p0), .v (.int .i64 p1), .v (.int .i64 p2)]) (by kernel_rfl) (by kernel_rfl) (by kernel_rfl) h
def zdM : Ann := (.seq .auto (.seq .auto (.seq (.seq .auto (.seq .auto .auto (some [(11, (.one (.int .i64))), (12, (.one (.ptr)))])) none) .auto none) none) none)
def z9b (p0 : Option Addr) (p1 : ByteArray) (K : Value → PT) : PT :=
 L.new [.int .i64 0] z0c fun b1 =>
 L.store (⟨b1, 0, none⟩) [.int .i64 0] <|
 L.call Pr z2X [.pointer p0, .string p1] (.one (.one (.func))) fun (x2 : FV) =>
 L.range Pr none (.func x2.fn x2.fs x2.cs) [eI6, eP6] (fun l3 (y4 : Int × Option Addr × Unit) R5 =>
  L.begin Pr l3 <|
  L.call Pr z1l [.pointer y4.2.1] rI fun (x8 : Int) =>
  L.ite (x8 != 3) (
   L.load eI6 (⟨b1, 0, none⟩) fun (x9 : Int) =>
   L.store (⟨b1, 0, none⟩) [.int .i64 (IntKind.wrap .i64 (x9 + 1))] <|
   L.endRound Pr l3 none R5) <|
  L.endRound Pr l3 none R5) fun d6 j7 =>
 L.jump j7 (
  L.load eI6 (⟨b1, 0, none⟩) fun (x10 : Int) =>
  L.unmark Pr (d6 ++ []) <|
  K (.int .i64 x10)) (
  L.unmark Pr (d6 ++ []) <|
  K (.int .i64 0)) []
theorem zdE (p0 : Option Addr) (p1 : ByteArray) {K : Value → PT} {w : World} (h : z9b p0 p1 K w) : CT Pr z6w [.pointer p0, .string p1] K w :=
 C_of (fn := Tryz.f163) (an := zdM) (args := [.v (.pointer p0), .v (.string p1)]) (by kernel_rfl) (by kernel_rfl) (by kernel_rfl) h
def zhW (p0 : Int) (K : Value → PT) : PT :=
 L.sem Pr (.one (.one .map)) (Instr.makeMap z3N none) fun (m1 : Option Nat) =>
 L.new [.int .i64 1, .map m1, .int .i64 p0] z9N fun b2 =>
 K (.pointer (some (⟨b2, 0, none⟩)))
theorem zmR (p0 : Int) {K : Value → PT} {w : World} (h : zhW p0 K w) : CT Pr zef [.int .i64 p0] K w :=
 C_of (fn := Tryz.f164) (an := .auto) (args := [.v (.int .i64 p0)]) (by kernel_rfl) (by kernel_rfl) (by kernel_rfl) h
def zbr : Ann := (.seq .auto (.seq .auto (.seq (.seq .auto (.seq .auto (.seq .auto (.seq .auto (.cond .auto .auto) none) none) (some [(13, (.one (.int .i64))), (14, (.one (.ptr)))])) none) .auto none) none) none)
def z7q (p0 : Option Addr) (p1 : ByteArray) (K : Value → PT) : PT :=
 L.new [.int .i64 0] z0c fun b1 =>
 L.new [.int .i64 0] z0c fun b2 =>
 L.new [.int .i64 0] z0c fun b3 =>
 L.store (⟨b1, 0, none⟩) [.int .i64 0] <|
 L.store (⟨b2, 0, none⟩) [.int .i64 3] <|
 L.store (⟨b3, 0, none⟩) [.int .i64 0] <|
 L.call Pr z2X [.pointer p0, .string p1] (.one (.one (.func))) fun (x4 : FV) =>
 L.range Pr none (.func x4.fn x4.fs x4.cs) [eI6, eP6] (fun l5 (y6 : Int × Option Addr × Unit) R7 =>
  L.begin Pr l5 <|
  L.call Pr z1l [.pointer y6.2.1] rI fun (x10 : Int) =>
  L.ite (x10 == 3) (
   L.endRound Pr l5 none R7) <|
  L.draw <|
  L.load eI6 (⟨b2, 0, none⟩) fun (x11 : Int) =>
  L.call Pr z1l [.pointer y6.2.1] rI fun (x12 : Int) =>
  L.chk (⟨b2, 0, none⟩) [.int .i64 x11] <|
  L.ite (decide (x12 < x11)) (
   L.call Pr z1l [.pointer y6.2.1] rI fun (x13 : Int) =>
   L.call Pr z2d [.pointer y6.2.1] rI fun (x14 : Int) =>
   L.store (⟨b1, 0, none⟩) [.int .i64 y6.1] <|
   L.store (⟨b2, 0, none⟩) [.int .i64 x13] <|
   L.store (⟨b3, 0, none⟩) [.int .i64 x14] <|
   L.endRound Pr l5 none R7) <|
  L.load eI6 (⟨b2, 0, none⟩) fun (x15 : Int) =>
  L.call Pr z1l [.pointer y6.2.1] rI fun (x16 : Int) =>
  L.chk (⟨b2, 0, none⟩) [.int .i64 x15] <|
  L.ite (x16 == x15) (
   L.load eI6 (⟨b3, 0, none⟩) fun (x17 : Int) =>
   L.call Pr z2d [.pointer y6.2.1] rI fun (x18 : Int) =>
   L.chk (⟨b3, 0, none⟩) [.int .i64 x17] <|
   L.ite (decide (x18 ≤ x17)) (
    L.call Pr z1l [.pointer y6.2.1] rI fun (x19 : Int) =>
    L.call Pr z2d [.pointer y6.2.1] rI fun (x20 : Int) =>
    L.store (⟨b1, 0, none⟩) [.int .i64 y6.1] <|
    L.store (⟨b2, 0, none⟩) [.int .i64 x19] <|
    L.store (⟨b3, 0, none⟩) [.int .i64 x20] <|
    L.endRound Pr l5 none R7) <|
   L.endRound Pr l5 none R7) <|
  L.endRound Pr l5 none R7) fun d8 j9 =>
 L.jump j9 (
  L.load eI6 (⟨b1, 0, none⟩) fun (x21 : Int) =>
  L.unmark Pr (d8 ++ []) <|
  K (.int .i64 x21)) (
  L.unmark Pr (d8 ++ []) <|
  K (.int .i64 0)) []
theorem zbk (p0 : Option Addr) (p1 : ByteArray) {K : Value → PT} {w : World} (h : z7q p0 p1 K w) : CT Pr z55 [.pointer p0, .string p1] K w :=
 C_of (fn := Tryz.f165) (an := zbr) (args := [.v (.pointer p0), .v (.string p1)]) (by kernel_rfl) (by kernel_rfl) (by kernel_rfl) h
def zeV : Ann := (.seq .auto (.seq (.seq .auto (.cond .auto .auto) none) .auto (some [])) none)
def z9U (p0 : Option Addr) (K : Value → PT) : PT :=
 L.join (Y := Unit) (fun k1 =>
  L.nonnil p0 fun a3 =>
  L.load eI6 (a3.add 0) fun (x4 : Int) =>
  L.ite (x4 != 1) (
   L.nonnil p0 fun a5 =>
   L.load eI6 (a5.add 0) fun (x6 : Int) =>
   L.ite (x6 != 2) (
    K (.int .i64 9)) <|
   k1 (())) <|
  k1 (())) fun z2 =>
 L.nonnil p0 fun a7 =>
 L.store (a7.add 0) [.int .i64 3] <|
 L.call Pr z8D [.pointer p0] (.tup []) fun (x8 : Unit) =>
 K (.int .i64 0)
theorem zeR (p0 : Option Addr) {K : Value → PT} {w : World} (h : z9U p0 K w) : CT Pr z7c [.pointer p0] K w :=
 C_of (fn := Tryz.f166) (an := zeV) (args := [.v (.pointer p0)]) (by kernel_rfl) (by kernel_rfl) (by kernel_rfl) h
def z7h (p0 : Option Addr) (K : Value → PT) : PT :=
 L.new [.pointer p0] z3I fun b1 =>
 K (.func (.func z2i) #[] #[.pointer (some (⟨b1, 0, none⟩))])
theorem zbc (p0 : Option Addr) {K : Value → PT} {w : World} (h : z7h p0 K w) : CT Pr z23 [.pointer p0] K w :=
 C_of (fn := Tryz.f169) (an := .auto) (args := [.v (.pointer p0)]) (by kernel_rfl) (by kernel_rfl) (by kernel_rfl) h
def zdi (p0 : Int) (K : Value → PT) : PT :=
 L.call Pr z64 [.int .i32 p0] rB fun (x1 : Bool) =>
 L.ite x1 (
  K (.bool true)) <|
 L.ite (decide (p0 ≥ 48)) (
  L.ite (decide (p0 ≤ 57)) (
   K (.bool true)) <|
  K (.bool (p0 == 45))) <|
 K (.bool (p0 == 45))
theorem zi7 (p0 : Int) {K : Value → PT} {w : World} (h : zdi p0 K w) : CT Pr z9D [.int .i32 p0] K w :=
 C_of (fn := Tryz.f172) (an := .auto) (args := [.v (.int .i32 p0)]) (by kernel_rfl) (by kernel_rfl) (by kernel_rfl) h
def zaR (p0 : Int) (K : Value → PT) : PT :=
 L.ite (decide (p0 ≥ 97)) (
  K (.bool (decide (p0 ≤ 122)))) <|
 K (.bool false)
theorem zfb (p0 : Int) {K : Value → PT} {w : World} (h : zaR p0 K w) : CT Pr z64 [.int .i32 p0] K w :=
 C_of (fn := Tryz.f173) (an := .auto) (args := [.v (.int .i32 p0)]) (by kernel_rfl) (by kernel_rfl) (by kernel_rfl) h
def z1K (p0 : Sl) (p1 : FV) (K : Value → PT) : PT :=
 L.call Pr z2a [.slice p0.a p0.len p0.cap, .func p1.fn p1.fs p1.cs] rI fun (x1 : Int) =>
 K (.bool (decide (x1 ≥ 0)))
theorem z3E (p0 : Sl) (p1 : FV) {K : Value → PT} {w : World} (h : z1K p0 p1 K w) : CT Pr z10 [.slice p0.a p0.len p0.cap, .func p1.fn p1.fs p1.cs] K w :=
 C_of (fn := Tryz.f174) (an := .auto) (args := [.v (.slice p0.a p0.len p0.cap), .v (.func p1.fn p1.fs p1.cs)]) (by kernel_rfl) (by kernel_rfl) (by kernel_rfl) h
def zde (p0 : HT [.str, .str, .int .i64]) (c0 : Addr) (K : Value → PT) : PT :=
 L.new [.string p0.1, .string p0.2.1, .int .i64 p0.2.2.1] z07 fun b1 =>
 L.load eS6 ((⟨b1, 0, none⟩ : Addr).add 1) fun (x2 : ByteArray) =>
 L.load eS6 (c0.add 1) fun (x3 : ByteArray) =>
 K (.bool (x2.toList == x3.toList))
theorem zi3 (p0 : HT [.str, .str, .int .i64]) (c0 : Addr) {K : Value → PT} {w : World} (h : zde p0 c0 K w) : CT Pr z5d [(.ag [.string p0.1, .string p0.2.1, .int .i64 p0.2.2.1] : SV).toV, .pointer (some c0)] K w :=
 C_of (fn := Tryz.f175) (an := .auto) (args := [.ag [.string p0.1, .string p0.2.1, .int .i64 p0.2.2.1], .v (.pointer (some c0))]) (by kernel_rfl) (by kernel_rfl) (by kernel_rfl) h
theorem zhX : Enters Pr z5d := z0n (by kernel_rfl)
def z2z (p0 : Sl) (K : Value → PT) : PT :=
 L.ite ((p0.a).isNone) (
  K (.slice none 0 0)) <|
 L.new [] z07 fun b1 =>
 L.sem Pr (.one (.one .slice)) (Builtin.append_ #[z66, z66] z66 #[.slice (some ⟨b1, 0, none⟩) 0 0, .slice p0.a p0.len p0.cap]) fun (s2 : Sl) =>
 K (.slice s2.a s2.len s2.cap)
theorem z4U (p0 : Sl) {K : Value → PT} {w : World} (h : z2z p0 K w) : CT Pr z1x [.slice p0.a p0.len p0.cap] K w :=
 C_of (fn := Tryz.f179) (an := .auto) (args := [.v (.slice p0.a p0.len p0.cap)]) (by kernel_rfl) (by kernel_rfl) (by kernel_rfl) h
def z7p (p0 : Option Addr) (p1 : ByteArray) (K : Value → PT) : PT :=
 L.new [.slice none 0 0, .slice none 0 0] z04 fun b1 =>
 L.nonnil p0 fun a2 =>
 L.load (.one (.map)) (a2.add 0) fun (x3 : Option Nat) =>
 L.semR Pr (.tup [(.agg lf11), .one .bool]) (Instr.lookup z1D (.map x3) (.string p1) true) fun (x4 : pt16) =>
 L.new [.slice none 0 0, .slice none 0 0, .int .i64 0, .int .i64 0, .slice none 0 0, .slice none 0 0] z1R fun b5 =>
 L.store (⟨b5, 0, none⟩) [.slice x4.1.1.a x4.1.1.len x4.1.1.cap, .slice x4.1.2.1.a x4.1.2.1.len x4.1.2.1.cap, .int .i64 x4.1.2.2.1, .int .i64 x4.1.2.2.2.1, .slice x4.1.2.2.2.2.1.a x4.1.2.2.2.2.1.len x4.1.2.2.2.2.1.cap, .slice x4.1.2.2.2.2.2.1.a x4.1.2.2.2.2.2.1.len x4.1.2.2.2.2.2.1.cap] <|
 L.ite (!x4.2.1) (
  L.store (⟨b1, 0, none⟩) [.slice none 0 0, .slice none 0 0] <|
  L.load (.agg [.slice, .slice]) (⟨b1, 0, none⟩) fun (x6 : Sl × Sl × Unit) =>
  K (.tuple #[.agg #[.slice x6.1.a x6.1.len x6.1.cap, .slice x6.2.1.a x6.2.1.len x6.2.1.cap], .bool false])) <|
 L.load (.agg [.slice, .slice]) ((⟨b5, 0, none⟩ : Addr).add 4) fun (x7 : Sl × Sl × Unit) =>
 L.call Pr z25 [.agg #[.slice x7.1.a x7.1.len x7.1.cap, .slice x7.2.1.a x7.2.1.len x7.2.1.cap]] (.one (.agg [.slice, .slice])) fun (x8 : Sl × Sl × Unit) =>
 L.store (⟨b1, 0, none⟩) [.slice x8.1.a x8.1.len x8.1.cap, .slice x8.2.1.a x8.2.1.len x8.2.1.cap] <|
 L.load (.agg [.slice, .slice]) (⟨b1, 0, none⟩) fun (x9 : Sl × Sl × Unit) =>
 K (.tuple #[.agg #[.slice x9.1.a x9.1.len x9.1.cap, .slice x9.2.1.a x9.2.1.len x9.2.1.cap], .bool true])
theorem zbj (p0 : Option Addr) (p1 : ByteArray) {K : Value → PT} {w : World} (h : z7p p0 p1 K w) : CT Pr z54 [.pointer p0, .string p1] K w :=
 C_of (fn := Tryz.f182) (an := .auto) (args := [.v (.pointer p0), .v (.string p1)]) (by kernel_rfl) (by kernel_rfl) (by kernel_rfl) h
def zcD : Ann := (.seq .auto (.seq .auto (.seq .auto (.seq (.seq .auto (.seq .auto .auto (some [(28, (.one (.int .i64))), (29, (.one (.ptr)))])) none) (.seq .auto (.seq (.seq .auto (.one [(41, (.one (.int .i64)))] .auto) none) .auto none) none) none) none) none) none)
def z84 (p0 : Option Addr) (p1 : ByteArray) (p2 : Int) (K : Value → PT) : PT :=
 L.nonnil p0 fun a1 =>
 L.load (.one (.map)) (a1.add 1) fun (x2 : Option Nat) =>
 L.semR Pr (.tup [eI6, .one .bool]) (Instr.lookup z6Q (.map x2) (.int .i64 p2) true) fun (x3 : Int × Bool × Unit) =>
 L.ite x3.2.1 (
  K (.tuple #[.int .i64 0, .bool false])) <|
 L.new [.slice none 0 0] z0W fun b4 =>
 L.call Pr z2X [.pointer p0, .string p1] (.one (.one (.func))) fun (x5 : FV) =>
 L.range Pr none (.func x5.fn x5.fs x5.cs) [eI6, eP6] (fun l6 (y7 : Int × Option Addr × Unit) R8 =>
  L.begin Pr l6 <|
  L.draw <|
  L.load eL6 (⟨b4, 0, none⟩) fun (x11 : Sl) =>
  L.call Pr z2d [.pointer y7.2.1] rI fun (x12 : Int) =>
  L.chk (⟨b4, 0, none⟩) [.slice x11.a x11.len x11.cap] <|
  L.new [.int .i64 x12, .int .i64 y7.1] z0O fun b13 =>
  L.chk (⟨b4, 0, none⟩) [.slice x11.a x11.len x11.cap] <|
  L.sem Pr (.one (.one .slice)) (Builtin.append_ #[z0W, z0W] z0W #[.slice x11.a x11.len x11.cap, .slice (some ⟨b13, 0, none⟩) 1 1]) fun (s14 : Sl) =>
  L.store (⟨b4, 0, none⟩) [.slice s14.a s14.len s14.cap] <|
  L.endRound Pr l6 none R8) fun d9 j10 =>
 L.jump j10 (
  L.load eL6 (⟨b4, 0, none⟩) fun (x15 : Sl) =>
  L.call Pr z0P [.slice x15.a x15.len x15.cap, .func (.func z1t) #[] #[]] (.tup []) fun (x16 : Unit) =>
  L.load eL6 (⟨b4, 0, none⟩) fun (x17 : Sl) =>
  L.loop (Y := Int × Unit) (0, ()) fun y18 again19 =>
  L.ite (decide (y18.1 < ((x17.len : Nat) : Int))) (
   L.idx x17.a y18.1 x17.len 2 fun a20 =>
   L.load (.agg [.int .i64, .int .i64]) a20 fun (x21 : Int × Int × Unit) =>
   L.new [.int .i64 0, .int .i64 0] z0O fun b22 =>
   L.store (⟨b22, 0, none⟩) [.int .i64 x21.1, .int .i64 x21.2.1] <|
   L.draw <|
   L.nonnil p0 fun a23 =>
   L.load (.one (.map)) (a23.add 0) fun (x24 : Option Nat) =>
   L.load eI6 ((⟨b22, 0, none⟩ : Addr).add 1) fun (x25 : Int) =>
   L.semR Pr (.one (.agg [.str, .ptr])) (Instr.lookup z0s (.map x24) (.int .i64 x25) false) fun (x26 : ByteArray × Option Addr × Unit) =>
   L.call Pr z62 [.pointer x26.2.1, .int .i64 p2] rI fun (x27 : Int) =>
   L.ite (x27 == 0) (
    L.draw <|
    L.nonnil p0 fun a28 =>
    L.load (.one (.map)) (a28.add 1) fun (x29 : Option Nat) =>
    L.load eI6 ((⟨b22, 0, none⟩ : Addr).add 1) fun (x30 : Int) =>
    L.semU Pr (Instr.mapUpdate z6Q (.map x29) (.int .i64 p2) (.int .i64 x30)) <|
    L.load eI6 ((⟨b22, 0, none⟩ : Addr).add 1) fun (x31 : Int) =>
    L.unmark Pr (d9 ++ []) <|
    K (.tuple #[.int .i64 x31, .bool true])) <|
   again19 (IntKind.wrap .i64 (y18.1 + 1), ())) <|
  L.unmark Pr (d9 ++ []) <|
  K (.tuple #[.int .i64 0, .bool false])) (
  L.unmark Pr (d9 ++ []) <|
  K (.tuple #[.int .i64 0, .bool false])) []
theorem zct (p0 : Option Addr) (p1 : ByteArray) (p2 : Int) {K : Value → PT} {w : World} (h : z84 p0 p1 p2 K w) : CT Pr z5w [.pointer p0, .string p1, .int .i64 p2] K w :=
 C_of (fn := Tryz.f183) (an := zcD) (args := [.v (.pointer p0), .v (.string p1), .v (.int .i64 p2)]) (by kernel_rfl) (by kernel_rfl) (by kernel_rfl) h
def zcw : Ann := (.seq .auto (.seq (.seq .auto (.seq .auto .auto (some [(8, (.one (.int .i64))), (9, (.one (.int .i64)))])) none) .auto none) none)
def z7U (p0 : Option Addr) (p1 : Int) (K : Value → PT) : PT :=
 L.new [.int .i64 p1] z0c fun b1 =>
 L.new [.bool false] z6d fun b2 =>
 L.call Pr z23 [.pointer p0] (.one (.one (.func))) fun (x3 : FV) =>
 L.range Pr none (.func x3.fn x3.fs x3.cs) [eI6, eI6] (fun l4 (y5 : Int × Int × Unit) R6 =>
  L.begin Pr l4 <|
  L.load eI6 (⟨b1, 0, none⟩) fun (x9 : Int) =>
  L.ite (y5.1 == x9) (
   L.store (⟨b2, 0, none⟩) [.bool true] <|
   L.endRound Pr l4 (some .ret) R6) <|
  L.endRound Pr l4 none R6) fun d7 j8 =>
 L.jump j8 (
  L.store (⟨b2, 0, none⟩) [.bool false] <|
  L.unmark Pr (d7 ++ []) <|
  L.load eB6 (⟨b2, 0, none⟩) fun (x10 : Bool) =>
  K (.bool x10)) (
  L.unmark Pr (d7 ++ []) <|
  L.load eB6 (⟨b2, 0, none⟩) fun (x11 : Bool) =>
  K (.bool x11)) []
theorem zch (p0 : Option Addr) (p1 : Int) {K : Value → PT} {w : World} (h : z7U p0 p1 K w) : CT Pr z5k [.pointer p0, .int .i64 p1] K w :=
 C_of (fn := Tryz.f184) (an := zcw) (args := [.v (.pointer p0), .v (.int .i64 p1)]) (by kernel_rfl) (by kernel_rfl) (by kernel_rfl) h
def zdJ : Ann := (.seq .auto (.one [(7, (.one (.int .i64)))] .auto) none)
def z93 (p0 : FV) (c0 : Addr) (K : Value → PT) : PT :=
 L.load eL6 c0 fun (x1 : Sl) =>
 L.loop (Y := Int × Unit) (0, ()) fun y2 again3 =>
 L.ite (decide (y2.1 < ((x1.len : Nat) : Int))) (
  L.idx x1.a y2.1 x1.len 4 fun a4 =>
  L.load (.agg [.int .i64, .int .i64, .int .i64, .str]) a4 fun (x5 : pt10) =>
  L.new [.int .i64 0, .int .i64 0, .int .i64 0, .string s_] z0h fun b6 =>
  L.store (⟨b6, 0, none⟩) [.int .i64 x5.1, .int .i64 x5.2.1, .int .i64 x5.2.2.1, .string x5.2.2.2.1] <|
  L.load (.agg [.int .i64, .int .i64, .int .i64, .str]) (⟨b6, 0, none⟩) fun (x7 : pt10) =>
  L.call Pr z8z [.agg #[.int .i64 x7.1, .int .i64 x7.2.1, .int .i64 x7.2.2.1, .string x7.2.2.2.1]] rS fun (x8 : ByteArray) =>
  L.callV Pr (.func p0.fn p0.fs p0.cs) [.string x8] rB fun (x9 : Bool) =>
  L.ite (!x9) (
   K (.tuple #[])) <|
  again3 (IntKind.wrap .i64 (y2.1 + 1), ())) <|
 K (.tuple #[])
theorem zdv (p0 : FV) (c0 : Addr) {K : Value → PT} {w : World} (h : z93 p0 c0 K w) : CT Pr z3H [.func p0.fn p0.fs p0.cs, .pointer (some c0)] K w :=
 C_of (fn := Tryz.f185) (an := zdJ) (args := [.v (.func p0.fn p0.fs p0.cs), .v (.pointer (some c0))]) (by kernel_rfl) (by kernel_rfl) (by kernel_rfl) h
theorem zdq : Enters Pr z3H := z0n (by kernel_rfl)
def zgN : Ann := (.seq .auto (.seq .auto (.seq (.one [(2, (.one (.str)))] .auto) .auto none) none) none)
def zc3 (p0 : ht3) (K : Value → PT) : PT :=
 L.new [.int .i64 p0.1, .int .i64 p0.2.1, .int .i64 p0.2.2.1, .string p0.2.2.2.1] z0h fun b1 =>
 L.load eI6 ((⟨b1, 0, none⟩ : Addr).add 1) fun (x2 : Int) =>
 L.ite (x2 == 1) (
  L.load eI6 ((⟨b1, 0, none⟩ : Addr).add 0) fun (x3 : Int) =>
  L.load eI6 ((⟨b1, 0, none⟩ : Addr).add 2) fun (x4 : Int) =>
  L.new [.int .i64 x3, .int .i64 x4] z0c fun b5 =>
  L.call Pr z0g [.string zo7, .slice (some ⟨b5, 0, none⟩) 2 2] rS fun (x6 : ByteArray) =>
  K (.string x6)) <|
 L.ite (x2 == 2) (
  L.load eI6 ((⟨b1, 0, none⟩ : Addr).add 0) fun (x7 : Int) =>
  L.new [.int .i64 x7] z0c fun b8 =>
  L.call Pr z0g [.string zlr, .slice (some ⟨b8, 0, none⟩) 1 1] rS fun (x9 : ByteArray) =>
  K (.string x9)) <|
 L.ite (x2 == 3) (
  L.load eI6 ((⟨b1, 0, none⟩ : Addr).add 0) fun (x10 : Int) =>
  L.new [.int .i64 x10] z0c fun b11 =>
  L.call Pr z0g [.string zog, .slice (some ⟨b11, 0, none⟩) 1 1] rS fun (x12 : ByteArray) =>
  K (.string x12)) <|
 L.join (Y := ByteArray × Unit) (fun k13 =>
  L.draw <|
  L.load eI6 ((⟨b1, 0, none⟩ : Addr).add 0) fun (x15 : Int) =>
  L.load eS6 ((⟨b1, 0, none⟩ : Addr).add 3) fun (x16 : ByteArray) =>
  L.alts [(
    L.new [.int .i64 x15] z0c fun b17 =>
    L.chk ((⟨b1, 0, none⟩ : Addr).add 3) [.string x16] <|
    L.alts [(
      L.call Pr z0g [.string s_refused, .slice (some ⟨b17, 0, none⟩) 1 1] rS fun (x18 : ByteArray) =>
      L.chk ((⟨b1, 0, none⟩ : Addr).add 3) [.string x16] <|
      L.new [.string x16] z00 fun b19 =>
      L.chk ((⟨b1, 0, none⟩ : Addr).add 0) [.int .i64 x15] <|
      L.call Pr z09 [.string x18, .slice (some ⟨b19, 0, none⟩) 1 1] rS fun (x20 : ByteArray) =>
      k13 (x20, ())),(
      L.new [.string x16] z00 fun b21 =>
      L.chk ((⟨b1, 0, none⟩ : Addr).add 0) [.int .i64 x15] <|
      L.call Pr z0g [.string s_refused, .slice (some ⟨b17, 0, none⟩) 1 1] rS fun (x22 : ByteArray) =>
      L.chk ((⟨b1, 0, none⟩ : Addr).add 3) [.string x16] <|
      L.call Pr z09 [.string x22, .slice (some ⟨b21, 0, none⟩) 1 1] rS fun (x23 : ByteArray) =>
      k13 (x23, ()))]),(
    L.new [.string x16] z00 fun b24 =>
    L.chk ((⟨b1, 0, none⟩ : Addr).add 0) [.int .i64 x15] <|
    L.new [.int .i64 x15] z0c fun b25 =>
    L.chk ((⟨b1, 0, none⟩ : Addr).add 3) [.string x16] <|
    L.call Pr z0g [.string s_refused, .slice (some ⟨b25, 0, none⟩) 1 1] rS fun (x26 : ByteArray) =>
    L.chk ((⟨b1, 0, none⟩ : Addr).add 3) [.string x16] <|
    L.call Pr z09 [.string x26, .slice (some ⟨b24, 0, none⟩) 1 1] rS fun (x27 : ByteArray) =>
    k13 (x27, ()))]) fun z14 =>
 K (.string z14.1)
theorem zgy (p0 : ht3) {K : Value → PT} {w : World} (h : zc3 p0 K w) : CT Pr z8z [(.ag (qc3 p0) : SV).toV] K w :=
 C_of (fn := Tryz.f186) (an := zgN) (args := [.ag (qc3 p0)]) (by kernel_rfl) (by kernel_rfl) (by kernel_rfl) h
def z7n (p0 : FV) (K : Value → PT) : PT :=
 L.call Pr z6A [.func p0.fn p0.fs p0.cs] rL fun (x1 : Sl) =>
 L.call Pr z49 [.slice x1.a x1.len x1.cap] (.tup []) fun (x2 : Unit) =>
 K (.slice x1.a x1.len x1.cap)
theorem zbh (p0 : FV) {K : Value → PT} {w : World} (h : z7n p0 K w) : CT Pr z3t [.func p0.fn p0.fs p0.cs] K w :=
 C_of (fn := Tryz.f188) (an := .auto) (args := [.v (.func p0.fn p0.fs p0.cs)]) (by kernel_rfl) (by kernel_rfl) (by kernel_rfl) h
def z9T (p0 : Option Addr) (K : Value → PT) : PT :=
 L.nonnil p0 fun a1 =>
 L.load eI6 (a1.add 0) fun (x2 : Int) =>
 K (.int .i64 x2)
theorem zeQ (p0 : Option Addr) {K : Value → PT} {w : World} (h : z9T p0 K w) : CT Pr z1l [.pointer p0] K w :=
 C_of (fn := Tryz.f191) (an := .auto) (args := [.v (.pointer p0)]) (by kernel_rfl) (by kernel_rfl) (by kernel_rfl) h
def z6W : Ann := (.seq .auto (.one [(12, (.one (.int .i64)))] .auto) none)
def z3Z (p0 : FV) (c0 : Addr) (K : Value → PT) : PT :=
 L.load eP6 c0 fun (x1 : Option Addr) =>
 L.nonnil x1 fun a2 =>
 L.load (.one (.map)) (a2.add 0) fun (x3 : Option Nat) =>
 L.call Pr z0Q [.map x3] (.one (.one (.func))) fun (x4 : FV) =>
 L.call Pr z0M [.func x4.fn x4.fs x4.cs] rL fun (x5 : Sl) =>
 L.loop (Y := Int × Unit) (0, ()) fun y6 again7 =>
 L.ite (decide (y6.1 < ((x5.len : Nat) : Int))) (
  L.idx x5.a y6.1 x5.len 1 fun a8 =>
  L.load eS6 a8 fun (x9 : ByteArray) =>
  L.load eP6 c0 fun (x10 : Option Addr) =>
  L.nonnil x10 fun a11 =>
  L.load (.one (.map)) (a11.add 0) fun (x12 : Option Nat) =>
  L.semR Pr rP (Instr.lookup z0E (.map x12) (.string x9) false) fun (x13 : Option Addr) =>
  L.callV Pr (.func p0.fn p0.fs p0.cs) [.string x9, .pointer x13] rB fun (x14 : Bool) =>
  L.ite (!x14) (
   K (.tuple #[])) <|
  again7 (IntKind.wrap .i64 (y6.1 + 1), ())) <|
 K (.tuple #[])
theorem z6V (p0 : FV) (c0 : Addr) {K : Value → PT} {w : World} (h : z3Z p0 c0 K w) : CT Pr z1j [.func p0.fn p0.fs p0.cs, .pointer (some c0)] K w :=
 C_of (fn := Tryz.f192) (an := z6W) (args := [.v (.func p0.fn p0.fs p0.cs), .v (.pointer (some c0))]) (by kernel_rfl) (by kernel_rfl) (by kernel_rfl) h
theorem z6S : Enters Pr z1j := z0n (by kernel_rfl)
def z5O (p0 : FV) (K : Value → PT) : PT :=
 L.call Pr z5p [.func p0.fn p0.fs p0.cs] rL fun (x1 : Sl) =>
 L.call Pr z2D [.slice x1.a x1.len x1.cap] (.tup []) fun (x2 : Unit) =>
 K (.slice x1.a x1.len x1.cap)
theorem z9m (p0 : FV) {K : Value → PT} {w : World} (h : z5O p0 K w) : CT Pr z0M [.func p0.fn p0.fs p0.cs] K w :=
 C_of (fn := Tryz.f193) (an := .auto) (args := [.v (.func p0.fn p0.fs p0.cs)]) (by kernel_rfl) (by kernel_rfl) (by kernel_rfl) h
def z1q (p0 : Option Nat) (K : Value → PT) : PT :=
 L.new [.map p0] z0E fun b1 =>
 K (.func (.func z0b) #[] #[.pointer (some (⟨b1, 0, none⟩))])
theorem z2W (p0 : Option Nat) {K : Value → PT} {w : World} (h : z1q p0 K w) : CT Pr z0Q [.map p0] K w :=
 C_of (fn := Tryz.f194) (an := .auto) (args := [.v (.map p0)]) (by kernel_rfl) (by kernel_rfl) (by kernel_rfl) h
def zbp : Ann := (.seq .auto (.seq .auto (.seq .auto (.seq (.seq .auto (.seq .auto .auto (some [(11, (.one (.int .i64))), (12, (.one (.int .i64)))])) none) .auto none) none) none) none)
def z7g (p0 : Option Addr) (p1 : Int) (K : Value → PT) : PT :=
 L.new [.int .i64 p1] z0c fun b1 =>
 L.new [.slice none 0 0] z1h fun b2 =>
 L.new [.slice none 0 0] z1g fun b3 =>
 L.call Pr z23 [.pointer p0] (.one (.one (.func))) fun (x4 : FV) =>
 L.range Pr none (.func x4.fn x4.fs x4.cs) [eI6, eI6] (fun l5 (y6 : Int × Int × Unit) R7 =>
  L.begin Pr l5 <|
  L.load eI6 (⟨b1, 0, none⟩) fun (x10 : Int) =>
  L.ite (decide (y6.2.1 ≤ x10)) (
   L.load eL6 (⟨b2, 0, none⟩) fun (x11 : Sl) =>
   L.new [.int .i64 y6.1] z0c fun b12 =>
   L.sem Pr (.one (.one .slice)) (Builtin.append_ #[z1h, z1h] z1h #[.slice x11.a x11.len x11.cap, .slice (some ⟨b12, 0, none⟩) 1 1]) fun (s13 : Sl) =>
   L.store (⟨b2, 0, none⟩) [.slice s13.a s13.len s13.cap] <|
   L.endRound Pr l5 none R7) <|
  L.load eL6 (⟨b3, 0, none⟩) fun (x14 : Sl) =>
  L.new [.int .i64 y6.1, .int .i64 y6.2.1] z2k fun b15 =>
  L.sem Pr (.one (.one .slice)) (Builtin.append_ #[z1g, z1g] z1g #[.slice x14.a x14.len x14.cap, .slice (some ⟨b15, 0, none⟩) 1 1]) fun (s16 : Sl) =>
  L.store (⟨b3, 0, none⟩) [.slice s16.a s16.len s16.cap] <|
  L.endRound Pr l5 none R7) fun d8 j9 =>
 L.jump j9 (
  L.load eL6 (⟨b3, 0, none⟩) fun (x17 : Sl) =>
  L.nonnil p0 fun a18 =>
  L.store (a18.add 0) [.slice x17.a x17.len x17.cap] <|
  L.load eL6 (⟨b2, 0, none⟩) fun (x19 : Sl) =>
  L.call Pr z0U [.slice x19.a x19.len x19.cap] rL fun (x20 : Sl) =>
  L.unmark Pr (d8 ++ []) <|
  K (.slice x20.a x20.len x20.cap)) (
  L.unmark Pr (d8 ++ []) <|
  K (.slice none 0 0)) []
theorem zbb (p0 : Option Addr) (p1 : Int) {K : Value → PT} {w : World} (h : z7g p0 p1 K w) : CT Pr z78 [.pointer p0, .int .i64 p1] K w :=
 C_of (fn := Tryz.f195) (an := zbp) (args := [.v (.pointer p0), .v (.int .i64 p1)]) (by kernel_rfl) (by kernel_rfl) (by kernel_rfl) h
def z3b (p0 : Option Nat) (K : Value → PT) : PT :=
 L.call Pr z1a [.map p0] (.one (.one (.func))) fun (x1 : FV) =>
 L.call Pr z0M [.func x1.fn x1.fs x1.cs] rL fun (x2 : Sl) =>
 K (.slice x2.a x2.len x2.cap)
theorem z5K (p0 : Option Nat) {K : Value → PT} {w : World} (h : z3b p0 K w) : CT Pr z1k [.map p0] K w :=
 C_of (fn := Tryz.f196) (an := .auto) (args := [.v (.map p0)]) (by kernel_rfl) (by kernel_rfl) (by kernel_rfl) h
def z7l (p0 : Option Addr) (p1 : ByteArray) (K : Value → PT) : PT :=
 L.call Pr z3s [.pointer p0, .string p1, .func (.func z30) #[] #[]] rS fun (x1 : ByteArray) =>
 L.call Pr z3s [.pointer p0, .string p1, .func (.func z1z) #[.pointer p0] #[]] rS fun (x2 : ByteArray) =>
 K (.tuple #[.string x1, .string x2])
theorem zbg (p0 : Option Addr) (p1 : ByteArray) {K : Value → PT} {w : World} (h : z7l p0 p1 K w) : CT Pr z52 [.pointer p0, .string p1] K w :=
 C_of (fn := Tryz.f197) (an := .auto) (args := [.v (.pointer p0), .v (.string p1)]) (by kernel_rfl) (by kernel_rfl) (by kernel_rfl) h
def z7D : Ann := (.seq .auto (.one [(9, (.one (.int .i64)))] .auto) none)
def z4m (p0 : FV) (c0 : Addr) (K : Value → PT) : PT :=
 L.load (.one (.map)) c0 fun (x1 : Option Nat) =>
 L.call Pr z1s [.map x1] (.one (.one (.func))) fun (x2 : FV) =>
 L.call Pr z0M [.func x2.fn x2.fs x2.cs] rL fun (x3 : Sl) =>
 L.loop (Y := Int × Unit) (0, ()) fun y4 again5 =>
 L.ite (decide (y4.1 < ((x3.len : Nat) : Int))) (
  L.idx x3.a y4.1 x3.len 1 fun a6 =>
  L.load eS6 a6 fun (x7 : ByteArray) =>
  L.load (.one (.map)) c0 fun (x8 : Option Nat) =>
  L.semR Pr rI (Instr.lookup z0G (.map x8) (.string x7) false) fun (x9 : Int) =>
  L.callV Pr (.func p0.fn p0.fs p0.cs) [.string x7, .int .i64 x9] rB fun (x10 : Bool) =>
  L.ite (!x10) (
   K (.tuple #[])) <|
  again5 (IntKind.wrap .i64 (y4.1 + 1), ())) <|
 K (.tuple #[])
theorem z7A (p0 : FV) (c0 : Addr) {K : Value → PT} {w : World} (h : z4m p0 c0 K w) : CT Pr z1m [.func p0.fn p0.fs p0.cs, .pointer (some c0)] K w :=
 C_of (fn := Tryz.f198) (an := z7D) (args := [.v (.func p0.fn p0.fs p0.cs), .v (.pointer (some c0))]) (by kernel_rfl) (by kernel_rfl) (by kernel_rfl) h
theorem z7v : Enters Pr z1m := z0n (by kernel_rfl)
def z2w (p0 : Option Nat) (K : Value → PT) : PT :=
 L.new [.map p0] z0G fun b1 =>
 K (.func (.func z0v) #[] #[.pointer (some (⟨b1, 0, none⟩))])
theorem z4K (p0 : Option Nat) {K : Value → PT} {w : World} (h : z2w p0 K w) : CT Pr z1s [.map p0] K w :=
 C_of (fn := Tryz.f199) (an := .auto) (args := [.v (.map p0)]) (by kernel_rfl) (by kernel_rfl) (by kernel_rfl) h
def z6p : Ann := (.seq .auto (.one [(9, (.one (.int .i64)))] .auto) none)
def z3r (p0 : FV) (c0 : Addr) (K : Value → PT) : PT :=
 L.load (.one (.map)) c0 fun (x1 : Option Nat) =>
 L.call Pr z18 [.map x1] (.one (.one (.func))) fun (x2 : FV) =>
 L.call Pr z0M [.func x2.fn x2.fs x2.cs] rL fun (x3 : Sl) =>
 L.loop (Y := Int × Unit) (0, ()) fun y4 again5 =>
 L.ite (decide (y4.1 < ((x3.len : Nat) : Int))) (
  L.idx x3.a y4.1 x3.len 1 fun a6 =>
  L.load eS6 a6 fun (x7 : ByteArray) =>
  L.load (.one (.map)) c0 fun (x8 : Option Nat) =>
  L.semR Pr rS (Instr.lookup z0q (.map x8) (.string x7) false) fun (x9 : ByteArray) =>
  L.callV Pr (.func p0.fn p0.fs p0.cs) [.string x7, .string x9] rB fun (x10 : Bool) =>
  L.ite (!x10) (
   K (.tuple #[])) <|
  again5 (IntKind.wrap .i64 (y4.1 + 1), ())) <|
 K (.tuple #[])
theorem z6n (p0 : FV) (c0 : Addr) {K : Value → PT} {w : World} (h : z3r p0 c0 K w) : CT Pr z0Z [.func p0.fn p0.fs p0.cs, .pointer (some c0)] K w :=
 C_of (fn := Tryz.f200) (an := z6p) (args := [.v (.func p0.fn p0.fs p0.cs), .v (.pointer (some c0))]) (by kernel_rfl) (by kernel_rfl) (by kernel_rfl) h
theorem z6l : Enters Pr z0Z := z0n (by kernel_rfl)
def z1L (p0 : Option Nat) (K : Value → PT) : PT :=
 L.new [.map p0] z0q fun b1 =>
 K (.func (.func z0k) #[] #[.pointer (some (⟨b1, 0, none⟩))])
theorem z3F (p0 : Option Nat) {K : Value → PT} {w : World} (h : z1L p0 K w) : CT Pr z18 [.map p0] K w :=
 C_of (fn := Tryz.f201) (an := .auto) (args := [.v (.map p0)]) (by kernel_rfl) (by kernel_rfl) (by kernel_rfl) h
def z2Q (p0 : Sl) (K : Value → PT) : PT :=
 L.ite ((p0.a).isNone) (
  K (.slice none 0 0)) <|
 L.new [] z0t fun b1 =>
 L.sem Pr (.one (.one .slice)) (Builtin.append_ #[z0B, z0B] z0B #[.slice (some ⟨b1, 0, none⟩) 0 0, .slice p0.a p0.len p0.cap]) fun (s2 : Sl) =>
 K (.slice s2.a s2.len s2.cap)
theorem z5i (p0 : Sl) {K : Value → PT} {w : World} (h : z2Q p0 K w) : CT Pr z0w [.slice p0.a p0.len p0.cap] K w :=
 C_of (fn := Tryz.f202) (an := .auto) (args := [.v (.slice p0.a p0.len p0.cap)]) (by kernel_rfl) (by kernel_rfl) (by kernel_rfl) h
def z2P (p0 : Sl) (K : Value → PT) : PT :=
 L.ite ((p0.a).isNone) (
  K (.slice none 0 0)) <|
 L.new [] z3a fun b1 =>
 L.sem Pr (.one (.one .slice)) (Builtin.append_ #[z3B, z3B] z3B #[.slice (some ⟨b1, 0, none⟩) 0 0, .slice p0.a p0.len p0.cap]) fun (s2 : Sl) =>
 K (.slice s2.a s2.len s2.cap)
theorem z5h (p0 : Sl) {K : Value → PT} {w : World} (h : z2P p0 K w) : CT Pr z1H [.slice p0.a p0.len p0.cap] K w :=
 C_of (fn := Tryz.f203) (an := .auto) (args := [.v (.slice p0.a p0.len p0.cap)]) (by kernel_rfl) (by kernel_rfl) (by kernel_rfl) h
def z6o : Ann := (.seq .auto (.seq .auto (.seq (.seq .auto (.one [(5, (.one (.slice))), (12, (.one (.int .i64)))] (.seq .auto (.seq .auto (.seq (.seq .auto (.seq .auto (.one [(5, (.one (.slice))), (18, (.one (.int .i64)))] .auto) none) none) .auto none) none) none)) none) .auto none) none) none)
def z3q (p0 : FV) (p1 : Sl) (K : Value → PT) : PT :=
 L.loop (Y := Sl × Int × Unit) (⟨none, 0, 0⟩, 0, ()) fun y1 again2 =>
 L.ite (decide (y1.2.1 < ((p1.len : Nat) : Int))) (
  L.idx p1.a y1.2.1 p1.len 1 fun a3 =>
  L.load eL6 a3 fun (x4 : Sl) =>
  L.loop (Y := Sl × Int × Unit) (⟨y1.1.a, y1.1.len, y1.1.cap⟩, 0, ()) fun y5 again6 =>
  L.ite (decide (y5.2.1 < ((x4.len : Nat) : Int))) (
   L.idx x4.a y5.2.1 x4.len 2 fun a7 =>
   L.load (.agg [.str, .int .i64]) a7 fun (x8 : ByteArray × Int × Unit) =>
   L.new [.string s_, .int .i64 0] z0t fun b9 =>
   L.store (⟨b9, 0, none⟩) [.string x8.1, .int .i64 x8.2.1] <|
   L.load (.agg [.str, .int .i64]) (⟨b9, 0, none⟩) fun (x10 : ByteArray × Int × Unit) =>
   L.callV Pr (.func p0.fn p0.fs p0.cs) [.agg #[.string x10.1, .int .i64 x10.2.1]] rS fun (x11 : ByteArray) =>
   L.new [.string x11] z00 fun b12 =>
   L.sem Pr (.one (.one .slice)) (Builtin.append_ #[z06, z06] z06 #[.slice y5.1.a y5.1.len y5.1.cap, .slice (some ⟨b12, 0, none⟩) 1 1]) fun (s13 : Sl) =>
   again6 (⟨s13.a, s13.len, s13.cap⟩, IntKind.wrap .i64 (y5.2.1 + 1), ())) <|
  again2 (⟨y5.1.a, y5.1.len, y5.1.cap⟩, IntKind.wrap .i64 (y1.2.1 + 1), ())) <|
 L.call Pr z2D [.slice y1.1.a y1.1.len y1.1.cap] (.tup []) fun (x14 : Unit) =>
 L.call Pr z3p [.slice y1.1.a y1.1.len y1.1.cap] rL fun (x15 : Sl) =>
 K (.slice x15.a x15.len x15.cap)
theorem z6m (p0 : FV) (p1 : Sl) {K : Value → PT} {w : World} (h : z3q p0 p1 K w) : CT Pr z2j [.func p0.fn p0.fs p0.cs, .slice p1.a p1.len p1.cap] K w :=
 C_of (fn := Tryz.f204) (an := z6o) (args := [.v (.func p0.fn p0.fs p0.cs), .v (.slice p1.a p1.len p1.cap)]) (by kernel_rfl) (by kernel_rfl) (by kernel_rfl) h
def zfL (p0 : HT [.str, .int .i64]) (K : Value → PT) : PT :=
 L.new [.string p0.1, .int .i64 p0.2.1] z0t fun b1 =>
 L.load eS6 ((⟨b1, 0, none⟩ : Addr).add 0) fun (x2 : ByteArray) =>
 K (.string x2)
theorem zkV (p0 : HT [.str, .int .i64]) {K : Value → PT} {w : World} (h : zfL p0 K w) : CT Pr zaj [(.ag [.string p0.1, .int .i64 p0.2.1] : SV).toV] K w :=
 C_of (fn := Tryz.f205) (an := .auto) (args := [.ag [.string p0.1, .int .i64 p0.2.1]]) (by kernel_rfl) (by kernel_rfl) (by kernel_rfl) h
theorem zkS : Enters Pr zaj := z0n (by kernel_rfl)
def zc7 (p0 : Sl) (p1 : ByteArray) (K : Value → PT) : PT :=
 L.new [.string p1] z00 fun b1 =>
 L.call Pr z2o [.slice p0.a p0.len p0.cap, .func (.func z5r) #[] #[.pointer (some (⟨b1, 0, none⟩))]] rI fun (x2 : Int) =>
 L.ite (decide (x2 < 0)) (
  K (.int .i64 0)) <|
 L.idx p0.a x2 p0.len 2 fun a3 =>
 L.load eI6 (a3.add 1) fun (x4 : Int) =>
 K (.int .i64 x4)
theorem zgC (p0 : Sl) (p1 : ByteArray) {K : Value → PT} {w : World} (h : zc7 p0 p1 K w) : CT Pr z4r [.slice p0.a p0.len p0.cap, .string p1] K w :=
 C_of (fn := Tryz.f206) (an := .auto) (args := [.v (.slice p0.a p0.len p0.cap), .v (.string p1)]) (by kernel_rfl) (by kernel_rfl) (by kernel_rfl) h
def zcE : Ann := (.seq .auto (.seq .auto (.seq (.seq .auto (.seq .auto .auto (some [(11, (.one (.int .i64))), (12, (.one (.ptr)))])) none) .auto none) none) none)
def z86 (p0 : Option Addr) (p1 : ByteArray) (K : Value → PT) : PT :=
 L.new [.slice none 0 0] z1o fun b1 =>
 L.call Pr z2X [.pointer p0, .string p1] (.one (.one (.func))) fun (x2 : FV) =>
 L.range Pr none (.func x2.fn x2.fs x2.cs) [eI6, eP6] (fun l3 (y4 : Int × Option Addr × Unit) R5 =>
  L.begin Pr l3 <|
  L.draw <|
  L.load eL6 (⟨b1, 0, none⟩) fun (x8 : Sl) =>
  L.call Pr z1l [.pointer y4.2.1] rI fun (x9 : Int) =>
  L.chk (⟨b1, 0, none⟩) [.slice x8.a x8.len x8.cap] <|
  L.call Pr z2d [.pointer y4.2.1] rI fun (x10 : Int) =>
  L.chk (⟨b1, 0, none⟩) [.slice x8.a x8.len x8.cap] <|
  L.new [.int .i64 y4.1, .int .i64 x9, .int .i64 x10] z4f fun b11 =>
  L.chk (⟨b1, 0, none⟩) [.slice x8.a x8.len x8.cap] <|
  L.sem Pr (.one (.one .slice)) (Builtin.append_ #[z1o, z1o] z1o #[.slice x8.a x8.len x8.cap, .slice (some ⟨b11, 0, none⟩) 1 1]) fun (s12 : Sl) =>
  L.store (⟨b1, 0, none⟩) [.slice s12.a s12.len s12.cap] <|
  L.endRound Pr l3 none R5) fun d6 j7 =>
 L.jump j7 (
  L.load eL6 (⟨b1, 0, none⟩) fun (x13 : Sl) =>
  L.call Pr z1w [.slice x13.a x13.len x13.cap] rL fun (x14 : Sl) =>
  L.unmark Pr (d6 ++ []) <|
  K (.slice x14.a x14.len x14.cap)) (
  L.unmark Pr (d6 ++ []) <|
  K (.slice none 0 0)) []
theorem zcu (p0 : Option Addr) (p1 : ByteArray) {K : Value → PT} {w : World} (h : z86 p0 p1 K w) : CT Pr z5x [.pointer p0, .string p1] K w :=
 C_of (fn := Tryz.f207) (an := zcE) (args := [.v (.pointer p0), .v (.string p1)]) (by kernel_rfl) (by kernel_rfl) (by kernel_rfl) h
def z8Z : Ann := (.seq .auto (.one [(3, (.one (.int .i64)))] .auto) none)
def z5I (p0 : FV) (c0 : Addr) (K : Value → PT) : PT :=
 L.loop (Y := Int × Unit) (1, ()) fun y1 again2 =>
 L.load eP6 c0 fun (x3 : Option Addr) =>
 L.nonnil x3 fun a4 =>
 L.load eI6 (a4.add 60) fun (x5 : Int) =>
 L.ite (decide (y1.1 ≤ (if 60 < x5 then 60 else x5))) (
  L.draw <|
  L.load eP6 c0 fun (x6 : Option Addr) =>
  L.load eP6 c0 fun (x7 : Option Addr) =>
  L.nonnil x7 fun a8 =>
  L.load eI6 (a8.add 60) fun (x9 : Int) =>
  L.guard (60 ≠ (0 : Int)) <|
  L.nonnil x6 fun a10 =>
  L.idx (some (a10.add 0)) (Int.tmod (IntKind.wrap .i64 (x9 - y1.1)) 60) 60 1 fun a11 =>
  L.load eI6 a11 fun (x12 : Int) =>
  L.callV Pr (.func p0.fn p0.fs p0.cs) [.int .i64 x12] rB fun (x13 : Bool) =>
  L.ite (!x13) (
   K (.tuple #[])) <|
  again2 (IntKind.wrap .i64 (y1.1 + 1), ())) <|
 K (.tuple #[])
theorem z8W (p0 : FV) (c0 : Addr) {K : Value → PT} {w : World} (h : z5I p0 c0 K w) : CT Pr z1I [.func p0.fn p0.fs p0.cs, .pointer (some c0)] K w :=
 C_of (fn := Tryz.f208) (an := z8Z) (args := [.v (.func p0.fn p0.fs p0.cs), .v (.pointer (some c0))]) (by kernel_rfl) (by kernel_rfl) (by kernel_rfl) h
theorem z8R : Enters Pr z1I := z0n (by kernel_rfl)
def z9c (p0 : Option Addr) (p1 : ByteArray) (K : Value → PT) : PT :=
 L.new [.pointer p0] z0I fun b1 =>
 L.new [.string p1] z00 fun b2 =>
 K (.func (.func z33) #[] #[.pointer (some (⟨b1, 0, none⟩)), .pointer (some (⟨b2, 0, none⟩))])
theorem zdF (p0 : Option Addr) (p1 : ByteArray) {K : Value → PT} {w : World} (h : z9c p0 p1 K w) : CT Pr z2X [.pointer p0, .string p1] K w :=
 C_of (fn := Tryz.f209) (an := .auto) (args := [.v (.pointer p0), .v (.string p1)]) (by kernel_rfl) (by kernel_rfl) (by kernel_rfl) h
def z8c (p0 : Option Addr) (K : Value → PT) : PT :=
 L.nonnil p0 fun a1 =>
 L.load (.one (.map)) ((a1.add 1).add 0) fun (x2 : Option Nat) =>
 L.semR Pr rI (Builtin.len_ #[z3N] z0c #[.map x2]) fun (x3 : Int) =>
 K (.int .i64 x3)
theorem zaU (p0 : Option Addr) {K : Value → PT} {w : World} (h : z8c p0 K w) : CT Pr z2d [.pointer p0] K w :=
 C_of (fn := Tryz.f210) (an := .auto) (args := [.v (.pointer p0)]) (by kernel_rfl) (by kernel_rfl) (by kernel_rfl) h
def zgR : Ann := (.seq .auto (.cond .auto .auto) none)
def zc9 (p0 : Option Addr) (K : Value → PT) : PT :=
 L.nonnil p0 fun a1 =>
 L.load eI6 (a1.add 0) fun (x2 : Int) =>
 L.ite (x2 == 3) (
  L.call Pr z2d [.pointer p0] rI fun (x3 : Int) =>
  L.ite (x3 == 0) (
   L.nonnil p0 fun a4 =>
   L.store (a4.add 0) [.int .i64 4] <|
   K (.tuple #[])) <|
  K (.tuple #[])) <|
 K (.tuple #[])
theorem zgE (p0 : Option Addr) {K : Value → PT} {w : World} (h : zc9 p0 K w) : CT Pr z8D [.pointer p0] K w :=
 C_of (fn := Tryz.f211) (an := zgR) (args := [.v (.pointer p0)]) (by kernel_rfl) (by kernel_rfl) (by kernel_rfl) h
def zac : Ann := (.seq .auto (.one [(10, (.one (.int .i64)))] .auto) none)
def z6e (p0 : FV) (c0 : Addr) (K : Value → PT) : PT :=
 L.load eP6 c0 fun (x1 : Option Addr) =>
 L.nonnil x1 fun a2 =>
 L.load eL6 (a2.add 0) fun (x3 : Sl) =>
 L.loop (Y := Int × Unit) (0, ()) fun y4 again5 =>
 L.ite (decide (y4.1 < ((x3.len : Nat) : Int))) (
  L.idx x3.a y4.1 x3.len 2 fun a6 =>
  L.load (.agg [.int .i64, .int .i64]) a6 fun (x7 : Int × Int × Unit) =>
  L.new [.int .i64 0, .int .i64 0] z2k fun b8 =>
  L.store (⟨b8, 0, none⟩) [.int .i64 x7.1, .int .i64 x7.2.1] <|
  L.load eI6 ((⟨b8, 0, none⟩ : Addr).add 0) fun (x9 : Int) =>
  L.load eI6 ((⟨b8, 0, none⟩ : Addr).add 1) fun (x10 : Int) =>
  L.callV Pr (.func p0.fn p0.fs p0.cs) [.int .i64 x9, .int .i64 x10] rB fun (x11 : Bool) =>
  L.ite (!x11) (
   K (.tuple #[])) <|
  again5 (IntKind.wrap .i64 (y4.1 + 1), ())) <|
 K (.tuple #[])
theorem za1 (p0 : FV) (c0 : Addr) {K : Value → PT} {w : World} (h : z6e p0 c0 K w) : CT Pr z2i [.func p0.fn p0.fs p0.cs, .pointer (some c0)] K w :=
 C_of (fn := Tryz.f223) (an := zac) (args := [.v (.func p0.fn p0.fs p0.cs), .v (.pointer (some c0))]) (by kernel_rfl) (by kernel_rfl) (by kernel_rfl) h
theorem z9W : Enters Pr z2i := z0n (by kernel_rfl)
def z41 : Ann := (.seq .auto (.seq (.seq .auto (.one [(8, (.one (.int .i64)))] .auto) none) .auto none) none)
def z2b (p0 : Sl) (p1 : FV) (K : Value → PT) : PT :=
 L.loop (Y := Int × Unit) (0, ()) fun y1 again2 =>
 L.ite (decide (y1.1 < ((p0.len : Nat) : Int))) (
  L.idx p0.a y1.1 p0.len 3 fun a3 =>
  L.load (.agg [.str, .str, .int .i64]) a3 fun (x4 : pt9) =>
  L.callV Pr (.func p1.fn p1.fs p1.cs) [.agg #[.string x4.1, .string x4.2.1, .int .i64 x4.2.2.1]] rB fun (x5 : Bool) =>
  L.ite x5 (
   K (.int .i64 y1.1)) <|
  again2 (IntKind.wrap .i64 (y1.1 + 1), ())) <|
 K (.int .i64 (-1))
theorem z40 (p0 : Sl) (p1 : FV) {K : Value → PT} {w : World} (h : z2b p0 p1 K w) : CT Pr z2a [.slice p0.a p0.len p0.cap, .func p1.fn p1.fs p1.cs] K w :=
 C_of (fn := Tryz.f228) (an := z41) (args := [.v (.slice p0.a p0.len p0.cap), .v (.func p1.fn p1.fs p1.cs)]) (by kernel_rfl) (by kernel_rfl) (by kernel_rfl) h
def z1p (p0 : Sl) (p1 : FV) (K : Value → PT) : PT :=
 L.call Pr z2C [.slice p0.a p0.len p0.cap, .int .i64 ((p0.len : Nat) : Int), .func p1.fn p1.fs p1.cs] (.tup []) fun (x1 : Unit) =>
 K (.tuple #[])
theorem z2V (p0 : Sl) (p1 : FV) {K : Value → PT} {w : World} (h : z1p p0 p1 K w) : CT Pr z0P [.slice p0.a p0.len p0.cap, .func p1.fn p1.fs p1.cs] K w :=
 C_of (fn := Tryz.f235) (an := .auto) (args := [.v (.slice p0.a p0.len p0.cap), .v (.func p1.fn p1.fs p1.cs)]) (by kernel_rfl) (by kernel_rfl) (by kernel_rfl) h
def z6J (p0 : HT [.int .i64, .int .i64]) (p1 : HT [.int .i64, .int .i64]) (K : Value → PT) : PT :=
 L.new [.int .i64 p0.1, .int .i64 p0.2.1] z0O fun b1 =>
 L.new [.int .i64 p1.1, .int .i64 p1.2.1] z0O fun b2 =>
 L.load eI6 ((⟨b1, 0, none⟩ : Addr).add 0) fun (x3 : Int) =>
 L.load eI6 ((⟨b2, 0, none⟩ : Addr).add 0) fun (x4 : Int) =>
 K (.int .i64 (IntKind.wrap .i64 (x3 - x4)))
theorem zaD (p0 : HT [.int .i64, .int .i64]) (p1 : HT [.int .i64, .int .i64]) {K : Value → PT} {w : World} (h : z6J p0 p1 K w) : CT Pr z1t [(.ag [.int .i64 p0.1, .int .i64 p0.2.1] : SV).toV, (.ag [.int .i64 p1.1, .int .i64 p1.2.1] : SV).toV] K w :=
 C_of (fn := Tryz.f236) (an := .auto) (args := [.ag [.int .i64 p0.1, .int .i64 p0.2.1], .ag [.int .i64 p1.1, .int .i64 p1.2.1]]) (by kernel_rfl) (by kernel_rfl) (by kernel_rfl) h
theorem zat : Enters Pr z1t := z0n (by kernel_rfl)
def zaP (p0 : Option Addr) (p1 : Int) (K : Value → PT) : PT :=
 L.nonnil p0 fun a1 =>
 L.load eI6 (a1.add 0) fun (x2 : Int) =>
 L.ite (x2 != 2) (
  K (.int .i64 9)) <|
 L.nonnil p0 fun a3 =>
 L.call Pr z8l [.pointer (some (a3.add 1)), .int .i64 p1] rI fun (x4 : Int) =>
 K (.int .i64 x4)
theorem zf9 (p0 : Option Addr) (p1 : Int) {K : Value → PT} {w : World} (h : zaP p0 p1 K w) : CT Pr z62 [.pointer p0, .int .i64 p1] K w :=
 C_of (fn := Tryz.f237) (an := .auto) (args := [.v (.pointer p0), .v (.int .i64 p1)]) (by kernel_rfl) (by kernel_rfl) (by kernel_rfl) h
def z6G (p0 : FV) (K : Value → PT) : PT :=
 L.call Pr z2R [.slice none 0 0, .func p0.fn p0.fs p0.cs] rL fun (x1 : Sl) =>
 K (.slice x1.a x1.len x1.cap)
theorem zaA (p0 : FV) {K : Value → PT} {w : World} (h : z6G p0 K w) : CT Pr z6A [.func p0.fn p0.fs p0.cs] K w :=
 C_of (fn := Tryz.f238) (an := .auto) (args := [.v (.func p0.fn p0.fs p0.cs)]) (by kernel_rfl) (by kernel_rfl) (by kernel_rfl) h
def z5F (p0 : FV) (K : Value → PT) : PT :=
 L.call Pr z1W [.slice none 0 0, .func p0.fn p0.fs p0.cs] rL fun (x1 : Sl) =>
 K (.slice x1.a x1.len x1.cap)
theorem z8T (p0 : FV) {K : Value → PT} {w : World} (h : z5F p0 K w) : CT Pr z5p [.func p0.fn p0.fs p0.cs] K w :=
 C_of (fn := Tryz.f240) (an := .auto) (args := [.v (.func p0.fn p0.fs p0.cs)]) (by kernel_rfl) (by kernel_rfl) (by kernel_rfl) h
def z2K : Ann := (.seq .auto (.one [] (.seq .auto (.seq (.cond .auto .auto) .auto none) none)) none)
def z1n (p0 : FV) (c0 : Addr) (K : Value → PT) : PT :=
 L.load (.one (.map)) c0 fun (x1 : Option Nat) =>
 L.sem Pr (.one (.one .ptr)) (Instr.range z0E (.map x1)) fun (it2 : Option Addr) =>
 L.loop (Y := Unit) (()) fun y3 again4 =>
 L.next Pr [eS6, eP6] (Instr.next (.pointer it2) false T_) (
  K (.tuple #[])) fun (x5 : ByteArray × Option Addr × Unit) =>
 L.sem Pr (.tup [eS6, eP6]) (Instr.entry (.pointer it2)) fun (x6 : ByteArray × Option Addr × Unit) =>
 L.callV Pr (.func p0.fn p0.fs p0.cs) [.string x6.1] rB fun (x7 : Bool) =>
 L.ite (!x7) (
  K (.tuple #[])) <|
 again4 (())
theorem z2J (p0 : FV) (c0 : Addr) {K : Value → PT} {w : World} (h : z1n p0 c0 K w) : CT Pr z0b [.func p0.fn p0.fs p0.cs, .pointer (some c0)] K w :=
 C_of (fn := Tryz.f242) (an := z2K) (args := [.v (.func p0.fn p0.fs p0.cs), .v (.pointer (some c0))]) (by kernel_rfl) (by kernel_rfl) (by kernel_rfl) h
theorem z2I : Enters Pr z0b := z0n (by kernel_rfl)
def z1b (p0 : Option Nat) (K : Value → PT) : PT :=
 L.new [.map p0] z0j fun b1 =>
 K (.func (.func z08) #[] #[.pointer (some (⟨b1, 0, none⟩))])
theorem z2m (p0 : Option Nat) {K : Value → PT} {w : World} (h : z1b p0 K w) : CT Pr z1a [.map p0] K w :=
 C_of (fn := Tryz.f243) (an := .auto) (args := [.v (.map p0)]) (by kernel_rfl) (by kernel_rfl) (by kernel_rfl) h
def zbq : Ann := (.seq .auto (.seq .auto (.seq (.seq .auto (.one [(18, (.one (.int .i64)))] (.seq .auto (.seq .auto (.seq (.seq .auto (.seq .auto (.seq .auto (.cond .auto .auto) none) none) none) .auto (some [])) none) none)) none) .auto none) none) none)
def z7k (p0 : Option Addr) (p1 : ByteArray) (p2 : FV) (K : Value → PT) : PT :=
 L.new [.string s_, .int .i64 0, .string s_, .int .i64 0, .int .i64 0, .int .i64 0, .int .i64 0, .int .i64 0] z0e fun b1 =>
 L.store (⟨b1, 0, none⟩) [.string s_, .int .i64 0, .string s_, .int .i64 0, .int .i64 0, .int .i64 0, .int .i64 0, .int .i64 0] <|
 L.nonnil p0 fun a2 =>
 L.load (.one (.map)) (a2.add 0) fun (x3 : Option Nat) =>
 L.call Pr z1k [.map x3] rL fun (x4 : Sl) =>
 L.loop (Y := Int × Unit) (0, ()) fun y5 again6 =>
 L.ite (decide (y5.1 < ((x4.len : Nat) : Int))) (
  L.join (Y := Unit) (fun k7 =>
   L.idx x4.a y5.1 x4.len 1 fun a9 =>
   L.load eS6 a9 fun (x10 : ByteArray) =>
   L.nonnil p0 fun a11 =>
   L.load (.one (.map)) (a11.add 0) fun (x12 : Option Nat) =>
   L.semR Pr (.one (.agg lf5)) (Instr.lookup z0j (.map x12) (.string x10) false) fun (x13 : pt14) =>
   L.new [.string s_, .int .i64 0, .string s_, .int .i64 0, .int .i64 0, .int .i64 0, .int .i64 0, .int .i64 0] z0e fun b14 =>
   L.store (⟨b14, 0, none⟩) [.string x13.1, .int .i64 x13.2.1, .string x13.2.2.1, .int .i64 x13.2.2.2.1, .int .i64 x13.2.2.2.2.1, .int .i64 x13.2.2.2.2.2.1, .int .i64 x13.2.2.2.2.2.2.1, .int .i64 x13.2.2.2.2.2.2.2.1] <|
   L.load eS6 (((⟨b14, 0, none⟩ : Addr).add 2).add 0) fun (x15 : ByteArray) =>
   L.ite (x15.toList == p1.toList) (
    L.load eI6 ((⟨b14, 0, none⟩ : Addr).add 1) fun (x16 : Int) =>
    L.load eI6 ((⟨b1, 0, none⟩ : Addr).add 1) fun (x17 : Int) =>
    L.ite (decide (x16 > x17)) (
     L.callV Pr (.func p2.fn p2.fs p2.cs) [.string x10] rB fun (x18 : Bool) =>
     L.ite x18 (
      L.load (.agg lf5) (⟨b14, 0, none⟩) fun (x19 : pt14) =>
      L.store (⟨b1, 0, none⟩) [.string x19.1, .int .i64 x19.2.1, .string x19.2.2.1, .int .i64 x19.2.2.2.1, .int .i64 x19.2.2.2.2.1, .int .i64 x19.2.2.2.2.2.1, .int .i64 x19.2.2.2.2.2.2.1, .int .i64 x19.2.2.2.2.2.2.2.1] <|
      k7 (())) <|
     k7 (())) <|
    k7 (())) <|
   k7 (())) fun z8 =>
  again6 (IntKind.wrap .i64 (y5.1 + 1), ())) <|
 L.load eS6 ((⟨b1, 0, none⟩ : Addr).add 0) fun (x20 : ByteArray) =>
 K (.string x20)
theorem zbf (p0 : Option Addr) (p1 : ByteArray) (p2 : FV) {K : Value → PT} {w : World} (h : z7k p0 p1 p2 K w) : CT Pr z3s [.pointer p0, .string p1, .func p2.fn p2.fs p2.cs] K w :=
 C_of (fn := Tryz.f244) (an := zbq) (args := [.v (.pointer p0), .v (.string p1), .v (.func p2.fn p2.fs p2.cs)]) (by kernel_rfl) (by kernel_rfl) (by kernel_rfl) h
def z6i (p0 : ByteArray) (K : Value → PT) : PT :=
 K (.bool true)
theorem za8 (p0 : ByteArray) {K : Value → PT} {w : World} (h : z6i p0 K w) : CT Pr z30 [.string p0] K w :=
 C_of (fn := Tryz.f245) (an := .auto) (args := [.v (.string p0)]) (by kernel_rfl) (by kernel_rfl) (by kernel_rfl) h
theorem za0 : Enters Pr z30 := z0n (by kernel_rfl)
def z4p : Ann := (.seq .auto (.one [] (.seq .auto (.seq (.cond .auto .auto) .auto none) none)) none)
def z2l (p0 : FV) (c0 : Addr) (K : Value → PT) : PT :=
 L.load (.one (.map)) c0 fun (x1 : Option Nat) =>
 L.sem Pr (.one (.one .ptr)) (Instr.range z0G (.map x1)) fun (it2 : Option Addr) =>
 L.loop (Y := Unit) (()) fun y3 again4 =>
 L.next Pr [eS6, eI6] (Instr.next (.pointer it2) false T_) (
  K (.tuple #[])) fun (x5 : ByteArray × Int × Unit) =>
 L.sem Pr (.tup [eS6, eI6]) (Instr.entry (.pointer it2)) fun (x6 : ByteArray × Int × Unit) =>
 L.callV Pr (.func p0.fn p0.fs p0.cs) [.string x6.1] rB fun (x7 : Bool) =>
 L.ite (!x7) (
  K (.tuple #[])) <|
 again4 (())
theorem z4o (p0 : FV) (c0 : Addr) {K : Value → PT} {w : World} (h : z2l p0 c0 K w) : CT Pr z0v [.func p0.fn p0.fs p0.cs, .pointer (some c0)] K w :=
 C_of (fn := Tryz.f246) (an := z4p) (args := [.v (.func p0.fn p0.fs p0.cs), .v (.pointer (some c0))]) (by kernel_rfl) (by kernel_rfl) (by kernel_rfl) h
theorem z4n : Enters Pr z0v := z0n (by kernel_rfl)
def z3n : Ann := (.seq .auto (.one [] (.seq .auto (.seq (.cond .auto .auto) .auto none) none)) none)
def z1E (p0 : FV) (c0 : Addr) (K : Value → PT) : PT :=
 L.load (.one (.map)) c0 fun (x1 : Option Nat) =>
 L.sem Pr (.one (.one .ptr)) (Instr.range z0q (.map x1)) fun (it2 : Option Addr) =>
 L.loop (Y := Unit) (()) fun y3 again4 =>
 L.next Pr [eS6, eS6] (Instr.next (.pointer it2) false T_) (
  K (.tuple #[])) fun (x5 : ByteArray × ByteArray × Unit) =>
 L.sem Pr (.tup [eS6, eS6]) (Instr.entry (.pointer it2)) fun (x6 : ByteArray × ByteArray × Unit) =>
 L.callV Pr (.func p0.fn p0.fs p0.cs) [.string x6.1] rB fun (x7 : Bool) =>
 L.ite (!x7) (
  K (.tuple #[])) <|
 again4 (())
theorem z3l (p0 : FV) (c0 : Addr) {K : Value → PT} {w : World} (h : z1E p0 c0 K w) : CT Pr z0k [.func p0.fn p0.fs p0.cs, .pointer (some c0)] K w :=
 C_of (fn := Tryz.f247) (an := z3n) (args := [.v (.func p0.fn p0.fs p0.cs), .v (.pointer (some c0))]) (by kernel_rfl) (by kernel_rfl) (by kernel_rfl) h
theorem z3j : Enters Pr z0k := z0n (by kernel_rfl)
def z4x : Ann := (.seq .auto (.seq (.seq .auto (.one [(8, (.one (.int .i64)))] .auto) none) .auto none) none)
def z2q (p0 : Sl) (p1 : FV) (K : Value → PT) : PT :=
 L.loop (Y := Int × Unit) (0, ()) fun y1 again2 =>
 L.ite (decide (y1.1 < ((p0.len : Nat) : Int))) (
  L.idx p0.a y1.1 p0.len 2 fun a3 =>
  L.load (.agg [.str, .int .i64]) a3 fun (x4 : ByteArray × Int × Unit) =>
  L.callV Pr (.func p1.fn p1.fs p1.cs) [.agg #[.string x4.1, .int .i64 x4.2.1]] rB fun (x5 : Bool) =>
  L.ite x5 (
   K (.int .i64 y1.1)) <|
  again2 (IntKind.wrap .i64 (y1.1 + 1), ())) <|
 K (.int .i64 (-1))
theorem z4w (p0 : Sl) (p1 : FV) {K : Value → PT} {w : World} (h : z2q p0 p1 K w) : CT Pr z2o [.slice p0.a p0.len p0.cap, .func p1.fn p1.fs p1.cs] K w :=
 C_of (fn := Tryz.f249) (an := z4x) (args := [.v (.slice p0.a p0.len p0.cap), .v (.func p1.fn p1.fs p1.cs)]) (by kernel_rfl) (by kernel_rfl) (by kernel_rfl) h
def z9S (p0 : HT [.str, .int .i64]) (c0 : Addr) (K : Value → PT) : PT :=
 L.new [.string p0.1, .int .i64 p0.2.1] z0t fun b1 =>
 L.load eS6 ((⟨b1, 0, none⟩ : Addr).add 0) fun (x2 : ByteArray) =>
 L.load eS6 c0 fun (x3 : ByteArray) =>
 K (.bool (x2.toList == x3.toList))
theorem zeP (p0 : HT [.str, .int .i64]) (c0 : Addr) {K : Value → PT} {w : World} (h : z9S p0 c0 K w) : CT Pr z5r [(.ag [.string p0.1, .int .i64 p0.2.1] : SV).toV, .pointer (some c0)] K w :=
 C_of (fn := Tryz.f250) (an := .auto) (args := [.ag [.string p0.1, .int .i64 p0.2.1], .v (.pointer (some c0))]) (by kernel_rfl) (by kernel_rfl) (by kernel_rfl) h
theorem zeL : Enters Pr z5r := z0n (by kernel_rfl)
def z2y (p0 : Sl) (K : Value → PT) : PT :=
 L.ite ((p0.a).isNone) (
  K (.slice none 0 0)) <|
 L.new [] z4f fun b1 =>
 L.sem Pr (.one (.one .slice)) (Builtin.append_ #[z1o, z1o] z1o #[.slice (some ⟨b1, 0, none⟩) 0 0, .slice p0.a p0.len p0.cap]) fun (s2 : Sl) =>
 K (.slice s2.a s2.len s2.cap)
theorem z4T (p0 : Sl) {K : Value → PT} {w : World} (h : z2y p0 K w) : CT Pr z1w [.slice p0.a p0.len p0.cap] K w :=
 C_of (fn := Tryz.f251) (an := .auto) (args := [.v (.slice p0.a p0.len p0.cap)]) (by kernel_rfl) (by kernel_rfl) (by kernel_rfl) h
def zcC : Ann := (.seq .auto (.one [(14, (.one (.int .i64)))] (.seq .auto (.seq .auto (.seq (.seq .auto (.seq .auto (.seq .auto (.cond .auto .auto) none) none) none) .auto (some [])) none) none)) none)
def z83 (p0 : FV) (c0 : Addr) (c1 : Addr) (K : Value → PT) : PT :=
 L.load eP6 c0 fun (x1 : Option Addr) =>
 L.nonnil x1 fun a2 =>
 L.load (.one (.map)) (a2.add 0) fun (x3 : Option Nat) =>
 L.call Pr z19 [.map x3] (.one (.one (.func))) fun (x4 : FV) =>
 L.call Pr z3t [.func x4.fn x4.fs x4.cs] rL fun (x5 : Sl) =>
 L.loop (Y := Int × Unit) (0, ()) fun y6 again7 =>
 L.ite (decide (y6.1 < ((x5.len : Nat) : Int))) (
  L.join (Y := Unit) (fun k8 =>
   L.idx x5.a y6.1 x5.len 1 fun a10 =>
   L.load eI6 a10 fun (x11 : Int) =>
   L.load eP6 c0 fun (x12 : Option Addr) =>
   L.nonnil x12 fun a13 =>
   L.load (.one (.map)) (a13.add 0) fun (x14 : Option Nat) =>
   L.semR Pr (.one (.agg [.str, .ptr])) (Instr.lookup z0s (.map x14) (.int .i64 x11) false) fun (x15 : ByteArray × Option Addr × Unit) =>
   L.new [.string s_, .pointer none] z5Y fun b16 =>
   L.store (⟨b16, 0, none⟩) [.string x15.1, .pointer x15.2.1] <|
   L.load eS6 ((⟨b16, 0, none⟩ : Addr).add 0) fun (x17 : ByteArray) =>
   L.load eS6 c1 fun (x18 : ByteArray) =>
   L.ite (x17.toList == x18.toList) (
    L.load eP6 ((⟨b16, 0, none⟩ : Addr).add 1) fun (x19 : Option Addr) =>
    L.callV Pr (.func p0.fn p0.fs p0.cs) [.int .i64 x11, .pointer x19] rB fun (x20 : Bool) =>
    L.ite (!x20) (
     K (.tuple #[])) <|
    k8 (())) <|
   k8 (())) fun z9 =>
  again7 (IntKind.wrap .i64 (y6.1 + 1), ())) <|
 K (.tuple #[])
theorem zcs (p0 : FV) (c0 : Addr) (c1 : Addr) {K : Value → PT} {w : World} (h : z83 p0 c0 c1 K w) : CT Pr z33 [.func p0.fn p0.fs p0.cs, .pointer (some c0), .pointer (some c1)] K w :=
 C_of (fn := Tryz.f252) (an := zcC) (args := [.v (.func p0.fn p0.fs p0.cs), .v (.pointer (some c0)), .v (.pointer (some c1))]) (by kernel_rfl) (by kernel_rfl) (by kernel_rfl) h
theorem zcg : Enters Pr z33 := z0n (by kernel_rfl)
def z1M (p0 : Option Nat) (K : Value → PT) : PT :=
 L.new [.map p0] z0s fun b1 =>
 K (.func (.func z0l) #[] #[.pointer (some (⟨b1, 0, none⟩))])
theorem z3G (p0 : Option Nat) {K : Value → PT} {w : World} (h : z1M p0 K w) : CT Pr z19 [.map p0] K w :=
 C_of (fn := Tryz.f253) (an := .auto) (args := [.v (.map p0)]) (by kernel_rfl) (by kernel_rfl) (by kernel_rfl) h
def z5b : Ann := (.seq .auto (.seq .auto (.seq (.one [(7, (.one (.int .i64))), (8, (.one (.int .i64)))] .auto) (.seq .auto (.one [(6, (.one (.int .i64)))] (.seq .auto (.seq .auto (.seq (.one [(7, (.one (.int .i64))), (8, (.one (.int .i64)))] .auto) (.seq .auto .auto (some [])) none) none) none)) none) none) none) none)
def z2H (p0 : Sl) (p1 : Int) (p2 : FV) (K : Value → PT) : PT :=
 L.loop (Y := Int × Int × Unit) (0, 20, ()) fun y1 again2 =>
 L.ite (decide (y1.2.1 ≤ p1)) (
  L.call Pr z0L [.slice p0.a p0.len p0.cap, .int .i64 y1.1, .int .i64 y1.2.1, .func p2.fn p2.fs p2.cs] (.tup []) fun (x3 : Unit) =>
  again2 (y1.2.1, IntKind.wrap .i64 (y1.2.1 + 20), ())) <|
 L.call Pr z0L [.slice p0.a p0.len p0.cap, .int .i64 y1.1, .int .i64 p1, .func p2.fn p2.fs p2.cs] (.tup []) fun (x4 : Unit) =>
 L.loop (Y := Int × Unit) (20, ()) fun y5 again6 =>
 L.ite (decide (y5.1 < p1)) (
  L.loop (Y := Int × Int × Unit) (0, IntKind.wrap .i64 (2 * y5.1), ()) fun y7 again8 =>
  L.ite (decide (y7.2.1 ≤ p1)) (
   L.call Pr z0V [.slice p0.a p0.len p0.cap, .int .i64 y7.1, .int .i64 (IntKind.wrap .i64 (y7.1 + y5.1)), .int .i64 y7.2.1, .func p2.fn p2.fs p2.cs] (.tup []) fun (x9 : Unit) =>
   again8 (y7.2.1, IntKind.wrap .i64 (y7.2.1 + (IntKind.wrap .i64 (2 * y5.1))), ())) <|
  L.join (Y := Unit) (fun k10 =>
   L.ite (decide ((IntKind.wrap .i64 (y7.1 + y5.1)) < p1)) (
    L.call Pr z0V [.slice p0.a p0.len p0.cap, .int .i64 y7.1, .int .i64 (IntKind.wrap .i64 (y7.1 + y5.1)), .int .i64 p1, .func p2.fn p2.fs p2.cs] (.tup []) fun (x12 : Unit) =>
    k10 (())) <|
   k10 (())) fun z11 =>
  again6 (IntKind.wrap .i64 (y5.1 * 2), ())) <|
 K (.tuple #[])
theorem z5a (p0 : Sl) (p1 : Int) (p2 : FV) {K : Value → PT} {w : World} (h : z2H p0 p1 p2 K w) : CT Pr z2C [.slice p0.a p0.len p0.cap, .int .i64 p1, .func p2.fn p2.fs p2.cs] K w :=
 C_of (fn := Tryz.f270) (an := z5b) (args := [.v (.slice p0.a p0.len p0.cap), .v (.int .i64 p1), .v (.func p2.fn p2.fs p2.cs)]) (by kernel_rfl) (by kernel_rfl) (by kernel_rfl) h
def z8r (p0 : Option Addr) (p1 : Int) (K : Value → PT) : PT :=
 L.nonnil p0 fun a1 =>
 L.load (.one (.map)) (a1.add 0) fun (x2 : Option Nat) =>
 L.semR Pr rB (Instr.lookup z3N (.map x2) (.int .i64 p1) false) fun (x3 : Bool) =>
 L.ite x3 (
  K (.int .i64 5)) <|
 L.draw <|
 L.nonnil p0 fun a4 =>
 L.load (.one (.map)) (a4.add 0) fun (x5 : Option Nat) =>
 L.semR Pr rI (Builtin.len_ #[z3N] z0c #[.map x5]) fun (x6 : Int) =>
 L.nonnil p0 fun a7 =>
 L.load eI6 (a7.add 1) fun (x8 : Int) =>
 L.ite (decide (x6 ≥ x8)) (
  K (.int .i64 8)) <|
 L.nonnil p0 fun a9 =>
 L.load (.one (.map)) (a9.add 0) fun (x10 : Option Nat) =>
 L.semU Pr (Instr.mapUpdate z3N (.map x10) (.int .i64 p1) (.bool true)) <|
 K (.int .i64 0)
theorem zcY (p0 : Option Addr) (p1 : Int) {K : Value → PT} {w : World} (h : z8r p0 p1 K w) : CT Pr z8l [.pointer p0, .int .i64 p1] K w :=
 C_of (fn := Tryz.f271) (an := .auto) (args := [.v (.pointer p0), .v (.int .i64 p1)]) (by kernel_rfl) (by kernel_rfl) (by kernel_rfl) h
def z7J : Ann := (.seq .auto (.seq (.seq .auto (.seq .auto .auto (some [(7, (.one (.int .i64)))])) none) .auto none) none)
def z4z (p0 : Sl) (p1 : FV) (K : Value → PT) : PT :=
 L.new [.slice p0.a p0.len p0.cap] z1h fun b1 =>
 L.range Pr none (.func p1.fn p1.fs p1.cs) [eI6] (fun l2 (y3 : Int × Unit) R4 =>
  L.begin Pr l2 <|
  L.load eL6 (⟨b1, 0, none⟩) fun (x7 : Sl) =>
  L.new [.int .i64 y3.1] z0c fun b8 =>
  L.sem Pr (.one (.one .slice)) (Builtin.append_ #[z1h, z1h] z1h #[.slice x7.a x7.len x7.cap, .slice (some ⟨b8, 0, none⟩) 1 1]) fun (s9 : Sl) =>
  L.store (⟨b1, 0, none⟩) [.slice s9.a s9.len s9.cap] <|
  L.endRound Pr l2 none R4) fun d5 j6 =>
 L.jump j6 (
  L.load eL6 (⟨b1, 0, none⟩) fun (x10 : Sl) =>
  L.unmark Pr (d5 ++ []) <|
  K (.slice x10.a x10.len x10.cap)) (
  L.unmark Pr (d5 ++ []) <|
  K (.slice none 0 0)) []
theorem z7E (p0 : Sl) (p1 : FV) {K : Value → PT} {w : World} (h : z4z p0 p1 K w) : CT Pr z2R [.slice p0.a p0.len p0.cap, .func p1.fn p1.fs p1.cs] K w :=
 C_of (fn := Tryz.f272) (an := z7J) (args := [.v (.slice p0.a p0.len p0.cap), .v (.func p1.fn p1.fs p1.cs)]) (by kernel_rfl) (by kernel_rfl) (by kernel_rfl) h
def z5M : Ann := (.seq .auto (.seq (.seq .auto (.seq .auto .auto (some [(7, (.one (.str)))])) none) .auto none) none)
def z3c (p0 : Sl) (p1 : FV) (K : Value → PT) : PT :=
 L.new [.slice p0.a p0.len p0.cap] z06 fun b1 =>
 L.range Pr none (.func p1.fn p1.fs p1.cs) [eS6] (fun l2 (y3 : ByteArray × Unit) R4 =>
  L.begin Pr l2 <|
  L.load eL6 (⟨b1, 0, none⟩) fun (x7 : Sl) =>
  L.new [.string y3.1] z00 fun b8 =>
  L.sem Pr (.one (.one .slice)) (Builtin.append_ #[z06, z06] z06 #[.slice x7.a x7.len x7.cap, .slice (some ⟨b8, 0, none⟩) 1 1]) fun (s9 : Sl) =>
  L.store (⟨b1, 0, none⟩) [.slice s9.a s9.len s9.cap] <|
  L.endRound Pr l2 none R4) fun d5 j6 =>
 L.jump j6 (
  L.load eL6 (⟨b1, 0, none⟩) fun (x10 : Sl) =>
  L.unmark Pr (d5 ++ []) <|
  K (.slice x10.a x10.len x10.cap)) (
  L.unmark Pr (d5 ++ []) <|
  K (.slice none 0 0)) []
theorem z5L (p0 : Sl) (p1 : FV) {K : Value → PT} {w : World} (h : z3c p0 p1 K w) : CT Pr z1W [.slice p0.a p0.len p0.cap, .func p1.fn p1.fs p1.cs] K w :=
 C_of (fn := Tryz.f273) (an := z5M) (args := [.v (.slice p0.a p0.len p0.cap), .v (.func p1.fn p1.fs p1.cs)]) (by kernel_rfl) (by kernel_rfl) (by kernel_rfl) h
def z2h : Ann := (.seq .auto (.one [] (.seq .auto (.seq (.cond .auto .auto) .auto none) none)) none)
def z0X (p0 : FV) (c0 : Addr) (K : Value → PT) : PT :=
 L.load (.one (.map)) c0 fun (x1 : Option Nat) =>
 L.sem Pr (.one (.one .ptr)) (Instr.range z0j (.map x1)) fun (it2 : Option Addr) =>
 L.loop (Y := Unit) (()) fun y3 again4 =>
 L.next Pr [eS6, (.agg lf5)] (Instr.next (.pointer it2) false T_) (
  K (.tuple #[])) fun (x5 : pt22) =>
 L.sem Pr (.tup [eS6, (.agg lf5)]) (Instr.entry (.pointer it2)) fun (x6 : pt22) =>
 L.callV Pr (.func p0.fn p0.fs p0.cs) [.string x6.1] rB fun (x7 : Bool) =>
 L.ite (!x7) (
  K (.tuple #[])) <|
 again4 (())
theorem z2g (p0 : FV) (c0 : Addr) {K : Value → PT} {w : World} (h : z0X p0 c0 K w) : CT Pr z08 [.func p0.fn p0.fs p0.cs, .pointer (some c0)] K w :=
 C_of (fn := Tryz.f275) (an := z2h) (args := [.v (.func p0.fn p0.fs p0.cs), .v (.pointer (some c0))]) (by kernel_rfl) (by kernel_rfl) (by kernel_rfl) h
theorem z2f : Enters Pr z08 := z0n (by kernel_rfl)
def z3o : Ann := (.seq .auto (.one [] (.seq .auto (.seq (.cond .auto .auto) .auto none) none)) none)
def z1F (p0 : FV) (c0 : Addr) (K : Value → PT) : PT :=
 L.load (.one (.map)) c0 fun (x1 : Option Nat) =>
 L.sem Pr (.one (.one .ptr)) (Instr.range z0s (.map x1)) fun (it2 : Option Addr) =>
 L.loop (Y := Unit) (()) fun y3 again4 =>
 L.next Pr [eI6, (.agg [.str, .ptr])] (Instr.next (.pointer it2) false T_) (
  K (.tuple #[])) fun (x5 : pt23) =>
 L.sem Pr (.tup [eI6, (.agg [.str, .ptr])]) (Instr.entry (.pointer it2)) fun (x6 : pt23) =>
 L.callV Pr (.func p0.fn p0.fs p0.cs) [.int .i64 x6.1] rB fun (x7 : Bool) =>
 L.ite (!x7) (
  K (.tuple #[])) <|
 again4 (())
theorem z3m (p0 : FV) (c0 : Addr) {K : Value → PT} {w : World} (h : z1F p0 c0 K w) : CT Pr z0l [.func p0.fn p0.fs p0.cs, .pointer (some c0)] K w :=
 C_of (fn := Tryz.f276) (an := z3o) (args := [.v (.func p0.fn p0.fs p0.cs), .v (.pointer (some c0))]) (by kernel_rfl) (by kernel_rfl) (by kernel_rfl) h
theorem z3k : Enters Pr z0l := z0n (by kernel_rfl)
def z3K : Ann := (.seq .auto (.one [(8, (.one (.int .i64)))] (.seq .auto (.seq (.seq .auto (.one [(9, (.one (.int .i64)))] (.seq (.seq .auto (.cond .auto .auto) none) .auto none)) none) .auto (some [])) none)) none)
def z1U (p0 : Sl) (p1 : Int) (p2 : Int) (p3 : FV) (K : Value → PT) : PT :=
 L.loop (Y := Int × Unit) (IntKind.wrap .i64 (p1 + 1), ()) fun y1 again2 =>
 L.ite (decide (y1.1 < p2)) (
  L.join (Y := Unit) (fun k3 =>
   L.loop (Y := Int × Unit) (y1.1, ()) fun y5 again6 =>
   L.draw <|
   L.ite (decide (y5.1 > p1)) (
    L.idx p0.a y5.1 p0.len 2 fun a7 =>
    L.load (.agg [.int .i64, .int .i64]) a7 fun (x8 : Int × Int × Unit) =>
    L.idx p0.a (IntKind.wrap .i64 (y5.1 - 1)) p0.len 2 fun a9 =>
    L.load (.agg [.int .i64, .int .i64]) a9 fun (x10 : Int × Int × Unit) =>
    L.callV Pr (.func p3.fn p3.fs p3.cs) [.agg #[.int .i64 x8.1, .int .i64 x8.2.1], .agg #[.int .i64 x10.1, .int .i64 x10.2.1]] rI fun (x11 : Int) =>
    L.ite (decide (x11 < 0)) (
     L.draw <|
     L.idx p0.a (IntKind.wrap .i64 (y5.1 - 1)) p0.len 2 fun a12 =>
     L.load (.agg [.int .i64, .int .i64]) a12 fun (x13 : Int × Int × Unit) =>
     L.idx p0.a y5.1 p0.len 2 fun a14 =>
     L.load (.agg [.int .i64, .int .i64]) a14 fun (x15 : Int × Int × Unit) =>
     L.idx p0.a y5.1 p0.len 2 fun a16 =>
     L.store a16 [.int .i64 x13.1, .int .i64 x13.2.1] <|
     L.idx p0.a (IntKind.wrap .i64 (y5.1 - 1)) p0.len 2 fun a17 =>
     L.store a17 [.int .i64 x15.1, .int .i64 x15.2.1] <|
     again6 (IntKind.wrap .i64 (y5.1 - 1), ())) <|
    k3 (())) <|
   k3 (())) fun z4 =>
  again2 (IntKind.wrap .i64 (y1.1 + 1), ())) <|
 K (.tuple #[])
theorem z3J (p0 : Sl) (p1 : Int) (p2 : Int) (p3 : FV) {K : Value → PT} {w : World} (h : z1U p0 p1 p2 p3 K w) : CT Pr z0L [.slice p0.a p0.len p0.cap, .int .i64 p1, .int .i64 p2, .func p3.fn p3.fs p3.cs] K w :=
 C_of (fn := Tryz.f283) (an := z3K) (args := [.v (.slice p0.a p0.len p0.cap), .v (.int .i64 p1), .v (.int .i64 p2), .v (.func p3.fn p3.fs p3.cs)]) (by kernel_rfl) (by kernel_rfl) (by kernel_rfl) h
end Go.Proofs.YtmbidnhdfdnihaaGreatDoor
