/- What is proved on the way to a statement of the seat, pressed (text AE). No conditions beyond those its theorems state. -/
import Derived.Test.YtkebppklbobjcaaGreatDoorSAD
set_option linter.all false
namespace Go.Proofs.YtkebppklbobjcaaGreatDoor
set_option maxRecDepth 100000
open Go.Dm
theorem z58 (p0 : Sl) {K : Value → PT} {w : World} (h : z2I p0 K w) : CT Pr z1E [.slice p0.a p0.len p0.cap] K w :=
 C_of (fn := Tryz.f168) (an := .auto) (args := [.v (.slice p0.a p0.len p0.cap)]) (by kernel_rfl) (by kernel_rfl) (by kernel_rfl) h
def z5C (p0 : FV) (K : Value → PT) : PT :=
 L.call Pr z5h [.func p0.fn p0.fs p0.cs] rL fun (x1 : Sl) =>
 L.call Pr z2w [.slice x1.a x1.len x1.cap] (.tup []) fun (x2 : Unit) =>
 K (.slice x1.a x1.len x1.cap)
theorem z91 (p0 : FV) {K : Value → PT} {w : World} (h : z5C p0 K w) : CT Pr z0N [.func p0.fn p0.fs p0.cs] K w :=
 C_of (fn := Tryz.f169) (an := .auto) (args := [.v (.func p0.fn p0.fs p0.cs)]) (by kernel_rfl) (by kernel_rfl) (by kernel_rfl) h
def z1b (p0 : Option Nat) (K : Value → PT) : PT :=
 L.new [.map p0] z0g fun b1 =>
 K (.func (.func z08) #[] #[.pointer (some (⟨b1, 0, none⟩))])
theorem z2j (p0 : Option Nat) {K : Value → PT} {w : World} (h : z1b p0 K w) : CT Pr z1a [.map p0] K w :=
 C_of (fn := Tryz.f170) (an := .auto) (args := [.v (.map p0)]) (by kernel_rfl) (by kernel_rfl) (by kernel_rfl) h
def zcJ (p0 : Int) (K : Value → PT) : PT :=
 L.call Pr z5S [.int .i32 p0] rB fun (x1 : Bool) =>
 L.ite x1 (
  K (.bool true)) <|
 L.ite (decide (p0 ≥ 48)) (
  L.ite (decide (p0 ≤ 57)) (
   K (.bool true)) <|
  K (.bool (p0 == 45))) <|
 K (.bool (p0 == 45))
theorem zht (p0 : Int) {K : Value → PT} {w : World} (h : zcJ p0 K w) : CT Pr z9i [.int .i32 p0] K w :=
 C_of (fn := Tryz.f173) (an := .auto) (args := [.v (.int .i32 p0)]) (by kernel_rfl) (by kernel_rfl) (by kernel_rfl) h
def zan (p0 : Int) (K : Value → PT) : PT :=
 L.ite (decide (p0 ≥ 97)) (
  K (.bool (decide (p0 ≤ 122)))) <|
 K (.bool false)
theorem zey (p0 : Int) {K : Value → PT} {w : World} (h : zan p0 K w) : CT Pr z5S [.int .i32 p0] K w :=
 C_of (fn := Tryz.f174) (an := .auto) (args := [.v (.int .i32 p0)]) (by kernel_rfl) (by kernel_rfl) (by kernel_rfl) h
def z1G (p0 : Sl) (p1 : FV) (K : Value → PT) : PT :=
 L.call Pr z1Z [.slice p0.a p0.len p0.cap, .func p1.fn p1.fs p1.cs] rI fun (x1 : Int) =>
 K (.bool (decide (x1 ≥ 0)))
theorem z3v (p0 : Sl) (p1 : FV) {K : Value → PT} {w : World} (h : z1G p0 p1 K w) : CT Pr z10 [.slice p0.a p0.len p0.cap, .func p1.fn p1.fs p1.cs] K w :=
 C_of (fn := Tryz.f175) (an := .auto) (args := [.v (.slice p0.a p0.len p0.cap), .v (.func p1.fn p1.fs p1.cs)]) (by kernel_rfl) (by kernel_rfl) (by kernel_rfl) h
def zcG (p0 : HT [.str, .str, .int .i64]) (c0 : Addr) (K : Value → PT) : PT :=
 L.new [.string p0.1, .string p0.2.1, .int .i64 p0.2.2.1] z07 fun b1 =>
 L.load eS6 ((⟨b1, 0, none⟩ : Addr).add 1) fun (x2 : ByteArray) =>
 L.load eS6 (c0.add 1) fun (x3 : ByteArray) =>
 K (.bool (x2.toList == x3.toList))
theorem zhq (p0 : HT [.str, .str, .int .i64]) (c0 : Addr) {K : Value → PT} {w : World} (h : zcG p0 c0 K w) : CT Pr z54 [(.ag [.string p0.1, .string p0.2.1, .int .i64 p0.2.2.1] : SV).toV, .pointer (some c0)] K w :=
 C_of (fn := Tryz.f176) (an := .auto) (args := [.ag [.string p0.1, .string p0.2.1, .int .i64 p0.2.2.1], .v (.pointer (some c0))]) (by kernel_rfl) (by kernel_rfl) (by kernel_rfl) h
theorem zhk : Enters Pr z54 := z0p (by kernel_rfl)
def z2t (p0 : Sl) (K : Value → PT) : PT :=
 L.ite ((p0.a).isNone) (
  K (.slice none 0 0)) <|
 L.new [] z07 fun b1 =>
 L.sem Pr (.one (.one .slice)) (Builtin.append_ #[z5U, z5U] z5U #[.slice (some ⟨b1, 0, none⟩) 0 0, .slice p0.a p0.len p0.cap]) fun (s2 : Sl) =>
 K (.slice s2.a s2.len s2.cap)
theorem z4M (p0 : Sl) {K : Value → PT} {w : World} (h : z2t p0 K w) : CT Pr z1w [.slice p0.a p0.len p0.cap] K w :=
 C_of (fn := Tryz.f180) (an := .auto) (args := [.v (.slice p0.a p0.len p0.cap)]) (by kernel_rfl) (by kernel_rfl) (by kernel_rfl) h
def zc3 : Ann := (.seq .auto (.seq .auto (.seq .auto (.seq (.seq .auto (.seq .auto .auto (some [(28, (.one (.int .i64))), (29, (.one (.ptr)))])) none) (.seq .auto (.seq (.seq .auto (.one [(41, (.one (.int .i64)))] .auto) none) .auto none) none) none) none) none) none)
def z7K (p0 : Option Addr) (p1 : ByteArray) (p2 : Int) (K : Value → PT) : PT :=
 L.nonnil p0 fun a1 =>
 L.load (.one (.map)) (a1.add 1) fun (x2 : Option Nat) =>
 L.semR Pr (.tup [eI6, .one .bool]) (Instr.lookup z6A (.map x2) (.int .i64 p2) true) fun (x3 : Int × Bool × Unit) =>
 L.ite x3.2.1 (
  K (.tuple #[.int .i64 0, .bool false])) <|
 L.new [.slice none 0 0] z0W fun b4 =>
 L.call Pr z2Q [.pointer p0, .string p1] (.one (.one (.func))) fun (x5 : FV) =>
 L.range Pr none (.func x5.fn x5.fs x5.cs) [eI6, eP6] (fun l6 (y7 : Int × Option Addr × Unit) R8 =>
  L.begin Pr l6 <|
  L.draw <|
  L.load eL6 (⟨b4, 0, none⟩) fun (x11 : Sl) =>
  L.call Pr z27 [.pointer y7.2.1] rI fun (x12 : Int) =>
  L.chk (⟨b4, 0, none⟩) [.slice x11.a x11.len x11.cap] <|
  L.new [.int .i64 x12, .int .i64 y7.1] z0Q fun b13 =>
  L.chk (⟨b4, 0, none⟩) [.slice x11.a x11.len x11.cap] <|
  L.sem Pr (.one (.one .slice)) (Builtin.append_ #[z0W, z0W] z0W #[.slice x11.a x11.len x11.cap, .slice (some ⟨b13, 0, none⟩) 1 1]) fun (s14 : Sl) =>
  L.store (⟨b4, 0, none⟩) [.slice s14.a s14.len s14.cap] <|
  L.endRound Pr l6 none R8) fun d9 j10 =>
 L.jump j10 (
  L.load eL6 (⟨b4, 0, none⟩) fun (x15 : Sl) =>
  L.call Pr z0R [.slice x15.a x15.len x15.cap, .func (.func z1s) #[] #[]] (.tup []) fun (x16 : Unit) =>
  L.load eL6 (⟨b4, 0, none⟩) fun (x17 : Sl) =>
  L.loop (Y := Int × Unit) (0, ()) fun y18 again19 =>
  L.ite (decide (y18.1 < ((x17.len : Nat) : Int))) (
   L.idx x17.a y18.1 x17.len 2 fun a20 =>
   L.load (.agg [.int .i64, .int .i64]) a20 fun (x21 : Int × Int × Unit) =>
   L.new [.int .i64 0, .int .i64 0] z0Q fun b22 =>
   L.store (⟨b22, 0, none⟩) [.int .i64 x21.1, .int .i64 x21.2.1] <|
   L.draw <|
   L.nonnil p0 fun a23 =>
   L.load (.one (.map)) (a23.add 0) fun (x24 : Option Nat) =>
   L.load eI6 ((⟨b22, 0, none⟩ : Addr).add 1) fun (x25 : Int) =>
   L.semR Pr (.one (.agg [.str, .ptr])) (Instr.lookup z0B (.map x24) (.int .i64 x25) false) fun (x26 : ByteArray × Option Addr × Unit) =>
   L.call Pr z5Q [.pointer x26.2.1, .int .i64 p2] rI fun (x27 : Int) =>
   L.ite (x27 == 0) (
    L.draw <|
    L.nonnil p0 fun a28 =>
    L.load (.one (.map)) (a28.add 1) fun (x29 : Option Nat) =>
    L.load eI6 ((⟨b22, 0, none⟩ : Addr).add 1) fun (x30 : Int) =>
    L.semU Pr (Instr.mapUpdate z6A (.map x29) (.int .i64 p2) (.int .i64 x30)) <|
    L.load eI6 ((⟨b22, 0, none⟩ : Addr).add 1) fun (x31 : Int) =>
    L.unmark Pr (d9 ++ []) <|
    K (.tuple #[.int .i64 x31, .bool true])) <|
   again19 (IntKind.wrap .i64 (y18.1 + 1), ())) <|
  L.unmark Pr (d9 ++ []) <|
  K (.tuple #[.int .i64 0, .bool false])) (
  L.unmark Pr (d9 ++ []) <|
  K (.tuple #[.int .i64 0, .bool false])) []
theorem zbV (p0 : Option Addr) (p1 : ByteArray) (p2 : Int) {K : Value → PT} {w : World} (h : z7K p0 p1 p2 K w) : CT Pr z5m [.pointer p0, .string p1, .int .i64 p2] K w :=
 C_of (fn := Tryz.f183) (an := zc3) (args := [.v (.pointer p0), .v (.string p1), .v (.int .i64 p2)]) (by kernel_rfl) (by kernel_rfl) (by kernel_rfl) h
def zbX : Ann := (.seq .auto (.seq (.seq .auto (.seq .auto .auto (some [(8, (.one (.int .i64))), (9, (.one (.int .i64)))])) none) .auto none) none)
def z7D (p0 : Option Addr) (p1 : Int) (K : Value → PT) : PT :=
 L.new [.int .i64 p1] z0j fun b1 =>
 L.new [.bool false] z5A fun b2 =>
 L.call Pr z1V [.pointer p0] (.one (.one (.func))) fun (x3 : FV) =>
 L.range Pr none (.func x3.fn x3.fs x3.cs) [eI6, eI6] (fun l4 (y5 : Int × Int × Unit) R6 =>
  L.begin Pr l4 <|
  L.load eI6 (⟨b1, 0, none⟩) fun (x9 : Int) =>
  L.ite (y5.1 == x9) (
   L.store (⟨b2, 0, none⟩) [.bool true] <|
   L.endRound Pr l4 (some .ret) R6) <|
  L.endRound Pr l4 none R6) fun d7 j8 =>
 L.jump j8 (
  L.store (⟨b2, 0, none⟩) [.bool false] <|
  L.unmark Pr (d7 ++ []) <|
  L.load eB6 (⟨b2, 0, none⟩) fun (x10 : Bool) =>
  K (.bool x10)) (
  L.unmark Pr (d7 ++ []) <|
  L.load eB6 (⟨b2, 0, none⟩) fun (x11 : Bool) =>
  K (.bool x11)) []
theorem zbM (p0 : Option Addr) (p1 : Int) {K : Value → PT} {w : World} (h : z7D p0 p1 K w) : CT Pr z5c [.pointer p0, .int .i64 p1] K w :=
 C_of (fn := Tryz.f184) (an := zbX) (args := [.v (.pointer p0), .v (.int .i64 p1)]) (by kernel_rfl) (by kernel_rfl) (by kernel_rfl) h
def zdb : Ann := (.seq .auto (.one [(7, (.one (.int .i64)))] .auto) none)
def z8I (p0 : FV) (c0 : Addr) (K : Value → PT) : PT :=
 L.load eL6 c0 fun (x1 : Sl) =>
 L.loop (Y := Int × Unit) (0, ()) fun y2 again3 =>
 L.ite (decide (y2.1 < ((x1.len : Nat) : Int))) (
  L.idx x1.a y2.1 x1.len 4 fun a4 =>
  L.load (.agg [.int .i64, .int .i64, .int .i64, .str]) a4 fun (x5 : pt10) =>
  L.new [.int .i64 0, .int .i64 0, .int .i64 0, .string s_] z0e fun b6 =>
  L.store (⟨b6, 0, none⟩) [.int .i64 x5.1, .int .i64 x5.2.1, .int .i64 x5.2.2.1, .string x5.2.2.2.1] <|
  L.load (.agg [.int .i64, .int .i64, .int .i64, .str]) (⟨b6, 0, none⟩) fun (x7 : pt10) =>
  L.call Pr z8k [.agg #[.int .i64 x7.1, .int .i64 x7.2.1, .int .i64 x7.2.2.1, .string x7.2.2.2.1]] rS fun (x8 : ByteArray) =>
  L.callV Pr (.func p0.fn p0.fs p0.cs) [.string x8] rB fun (x9 : Bool) =>
  L.ite (!x9) (
   K (.tuple #[])) <|
  again3 (IntKind.wrap .i64 (y2.1 + 1), ())) <|
 K (.tuple #[])
theorem zcX (p0 : FV) (c0 : Addr) {K : Value → PT} {w : World} (h : z8I p0 c0 K w) : CT Pr z3y [.func p0.fn p0.fs p0.cs, .pointer (some c0)] K w :=
 C_of (fn := Tryz.f185) (an := zdb) (args := [.v (.func p0.fn p0.fs p0.cs), .v (.pointer (some c0))]) (by kernel_rfl) (by kernel_rfl) (by kernel_rfl) h
theorem zcS : Enters Pr z3y := z0p (by kernel_rfl)
def zgc : Ann := (.seq .auto (.seq .auto (.seq (.one [(2, (.one (.str)))] .auto) .auto none) none) none)
def zby (p0 : ht3) (K : Value → PT) : PT :=
 L.new [.int .i64 p0.1, .int .i64 p0.2.1, .int .i64 p0.2.2.1, .string p0.2.2.2.1] z0e fun b1 =>
 L.load eI6 ((⟨b1, 0, none⟩ : Addr).add 1) fun (x2 : Int) =>
 L.ite (x2 == 1) (
  L.load eI6 ((⟨b1, 0, none⟩ : Addr).add 0) fun (x3 : Int) =>
  L.load eI6 ((⟨b1, 0, none⟩ : Addr).add 2) fun (x4 : Int) =>
  L.new [.int .i64 x3, .int .i64 x4] z0j fun b5 =>
  L.call Pr z0l [.string zkH, .slice (some ⟨b5, 0, none⟩) 2 2] rS fun (x6 : ByteArray) =>
  K (.string x6)) <|
 L.ite (x2 == 2) (
  L.load eI6 ((⟨b1, 0, none⟩ : Addr).add 0) fun (x7 : Int) =>
  L.new [.int .i64 x7] z0j fun b8 =>
  L.call Pr z0l [.string zkC, .slice (some ⟨b8, 0, none⟩) 1 1] rS fun (x9 : ByteArray) =>
  K (.string x9)) <|
 L.ite (x2 == 3) (
  L.load eI6 ((⟨b1, 0, none⟩ : Addr).add 0) fun (x10 : Int) =>
  L.new [.int .i64 x10] z0j fun b11 =>
  L.call Pr z0l [.string znu, .slice (some ⟨b11, 0, none⟩) 1 1] rS fun (x12 : ByteArray) =>
  K (.string x12)) <|
 L.join (Y := ByteArray × Unit) (fun k13 =>
  L.draw <|
  L.load eI6 ((⟨b1, 0, none⟩ : Addr).add 0) fun (x15 : Int) =>
  L.load eS6 ((⟨b1, 0, none⟩ : Addr).add 3) fun (x16 : ByteArray) =>
  L.alts [(
    L.new [.int .i64 x15] z0j fun b17 =>
    L.chk ((⟨b1, 0, none⟩ : Addr).add 3) [.string x16] <|
    L.alts [(
      L.call Pr z0l [.string s_refused, .slice (some ⟨b17, 0, none⟩) 1 1] rS fun (x18 : ByteArray) =>
      L.chk ((⟨b1, 0, none⟩ : Addr).add 3) [.string x16] <|
      L.new [.string x16] z00 fun b19 =>
      L.chk ((⟨b1, 0, none⟩ : Addr).add 0) [.int .i64 x15] <|
      L.call Pr z0c [.string x18, .slice (some ⟨b19, 0, none⟩) 1 1] rS fun (x20 : ByteArray) =>
      k13 (x20, ())),(
      L.new [.string x16] z00 fun b21 =>
      L.chk ((⟨b1, 0, none⟩ : Addr).add 0) [.int .i64 x15] <|
      L.call Pr z0l [.string s_refused, .slice (some ⟨b17, 0, none⟩) 1 1] rS fun (x22 : ByteArray) =>
      L.chk ((⟨b1, 0, none⟩ : Addr).add 3) [.string x16] <|
      L.call Pr z0c [.string x22, .slice (some ⟨b21, 0, none⟩) 1 1] rS fun (x23 : ByteArray) =>
      k13 (x23, ()))]),(
    L.new [.string x16] z00 fun b24 =>
    L.chk ((⟨b1, 0, none⟩ : Addr).add 0) [.int .i64 x15] <|
    L.new [.int .i64 x15] z0j fun b25 =>
    L.chk ((⟨b1, 0, none⟩ : Addr).add 3) [.string x16] <|
    L.call Pr z0l [.string s_refused, .slice (some ⟨b25, 0, none⟩) 1 1] rS fun (x26 : ByteArray) =>
    L.chk ((⟨b1, 0, none⟩ : Addr).add 3) [.string x16] <|
    L.call Pr z0c [.string x26, .slice (some ⟨b24, 0, none⟩) 1 1] rS fun (x27 : ByteArray) =>
    k13 (x27, ()))]) fun z14 =>
 K (.string z14.1)
theorem zfX (p0 : ht3) {K : Value → PT} {w : World} (h : zby p0 K w) : CT Pr z8k [(.ag (qc3 p0) : SV).toV] K w :=
 C_of (fn := Tryz.f186) (an := zgc) (args := [.ag (qc3 p0)]) (by kernel_rfl) (by kernel_rfl) (by kernel_rfl) h
def z6V (p0 : Option Addr) (K : Value → PT) : PT :=
 L.new [.pointer p0] z3A fun b1 =>
 K (.func (.func z2f) #[] #[.pointer (some (⟨b1, 0, none⟩))])
theorem zaI (p0 : Option Addr) {K : Value → PT} {w : World} (h : z6V p0 K w) : CT Pr z1V [.pointer p0] K w :=
 C_of (fn := Tryz.f188) (an := .auto) (args := [.v (.pointer p0)]) (by kernel_rfl) (by kernel_rfl) (by kernel_rfl) h
def z73 (p0 : FV) (K : Value → PT) : PT :=
 L.call Pr z6m [.func p0.fn p0.fs p0.cs] rL fun (x1 : Sl) =>
 L.call Pr z40 [.slice x1.a x1.len x1.cap] (.tup []) fun (x2 : Unit) =>
 K (.slice x1.a x1.len x1.cap)
theorem zaN (p0 : FV) {K : Value → PT} {w : World} (h : z73 p0 K w) : CT Pr z3k [.func p0.fn p0.fs p0.cs] K w :=
 C_of (fn := Tryz.f189) (an := .auto) (args := [.v (.func p0.fn p0.fs p0.cs)]) (by kernel_rfl) (by kernel_rfl) (by kernel_rfl) h
def z9y (p0 : Option Addr) (K : Value → PT) : PT :=
 L.nonnil p0 fun a1 =>
 L.load eI6 (a1.add 0) fun (x2 : Int) =>
 K (.int .i64 x2)
theorem zeg (p0 : Option Addr) {K : Value → PT} {w : World} (h : z9y p0 K w) : CT Pr z1j [.pointer p0] K w :=
 C_of (fn := Tryz.f192) (an := .auto) (args := [.v (.pointer p0)]) (by kernel_rfl) (by kernel_rfl) (by kernel_rfl) h
def z6G : Ann := (.seq .auto (.one [(12, (.one (.int .i64)))] .auto) none)
def z3Q (p0 : FV) (c0 : Addr) (K : Value → PT) : PT :=
 L.load eP6 c0 fun (x1 : Option Addr) =>
 L.nonnil x1 fun a2 =>
 L.load (.one (.map)) (a2.add 0) fun (x3 : Option Nat) =>
 L.call Pr z0S [.map x3] (.one (.one (.func))) fun (x4 : FV) =>
 L.call Pr z0N [.func x4.fn x4.fs x4.cs] rL fun (x5 : Sl) =>
 L.loop (Y := Int × Unit) (0, ()) fun y6 again7 =>
 L.ite (decide (y6.1 < ((x5.len : Nat) : Int))) (
  L.idx x5.a y6.1 x5.len 1 fun a8 =>
  L.load eS6 a8 fun (x9 : ByteArray) =>
  L.load eP6 c0 fun (x10 : Option Addr) =>
  L.nonnil x10 fun a11 =>
  L.load (.one (.map)) (a11.add 0) fun (x12 : Option Nat) =>
  L.semR Pr rP (Instr.lookup z0E (.map x12) (.string x9) false) fun (x13 : Option Addr) =>
  L.callV Pr (.func p0.fn p0.fs p0.cs) [.string x9, .pointer x13] rB fun (x14 : Bool) =>
  L.ite (!x14) (
   K (.tuple #[])) <|
  again7 (IntKind.wrap .i64 (y6.1 + 1), ())) <|
 K (.tuple #[])
theorem z6F (p0 : FV) (c0 : Addr) {K : Value → PT} {w : World} (h : z3Q p0 c0 K w) : CT Pr z1h [.func p0.fn p0.fs p0.cs, .pointer (some c0)] K w :=
 C_of (fn := Tryz.f193) (an := z6G) (args := [.v (.func p0.fn p0.fs p0.cs), .v (.pointer (some c0))]) (by kernel_rfl) (by kernel_rfl) (by kernel_rfl) h
theorem z6C : Enters Pr z1h := z0p (by kernel_rfl)
def z1p (p0 : Option Nat) (K : Value → PT) : PT :=
 L.new [.map p0] z0E fun b1 =>
 K (.func (.func z0b) #[] #[.pointer (some (⟨b1, 0, none⟩))])
theorem z2P (p0 : Option Nat) {K : Value → PT} {w : World} (h : z1p p0 K w) : CT Pr z0S [.map p0] K w :=
 C_of (fn := Tryz.f194) (an := .auto) (args := [.v (.map p0)]) (by kernel_rfl) (by kernel_rfl) (by kernel_rfl) h
def zaW : Ann := (.seq .auto (.seq .auto (.seq .auto (.seq (.seq .auto (.seq .auto .auto (some [(11, (.one (.int .i64))), (12, (.one (.int .i64)))])) none) .auto none) none) none) none)
def z6U (p0 : Option Addr) (p1 : Int) (K : Value → PT) : PT :=
 L.new [.int .i64 p1] z0j fun b1 =>
 L.new [.slice none 0 0] z0X fun b2 =>
 L.new [.slice none 0 0] z1f fun b3 =>
 L.call Pr z1V [.pointer p0] (.one (.one (.func))) fun (x4 : FV) =>
 L.range Pr none (.func x4.fn x4.fs x4.cs) [eI6, eI6] (fun l5 (y6 : Int × Int × Unit) R7 =>
  L.begin Pr l5 <|
  L.load eI6 (⟨b1, 0, none⟩) fun (x10 : Int) =>
  L.ite (decide (y6.2.1 ≤ x10)) (
   L.load eL6 (⟨b2, 0, none⟩) fun (x11 : Sl) =>
   L.new [.int .i64 y6.1] z0j fun b12 =>
   L.sem Pr (.one (.one .slice)) (Builtin.append_ #[z0X, z0X] z0X #[.slice x11.a x11.len x11.cap, .slice (some ⟨b12, 0, none⟩) 1 1]) fun (s13 : Sl) =>
   L.store (⟨b2, 0, none⟩) [.slice s13.a s13.len s13.cap] <|
   L.endRound Pr l5 none R7) <|
  L.load eL6 (⟨b3, 0, none⟩) fun (x14 : Sl) =>
  L.new [.int .i64 y6.1, .int .i64 y6.2.1] z2h fun b15 =>
  L.sem Pr (.one (.one .slice)) (Builtin.append_ #[z1f, z1f] z1f #[.slice x14.a x14.len x14.cap, .slice (some ⟨b15, 0, none⟩) 1 1]) fun (s16 : Sl) =>
  L.store (⟨b3, 0, none⟩) [.slice s16.a s16.len s16.cap] <|
  L.endRound Pr l5 none R7) fun d8 j9 =>
 L.jump j9 (
  L.load eL6 (⟨b3, 0, none⟩) fun (x17 : Sl) =>
  L.nonnil p0 fun a18 =>
  L.store (a18.add 0) [.slice x17.a x17.len x17.cap] <|
  L.load eL6 (⟨b2, 0, none⟩) fun (x19 : Sl) =>
  L.call Pr z0U [.slice x19.a x19.len x19.cap] rL fun (x20 : Sl) =>
  L.unmark Pr (d8 ++ []) <|
  K (.slice x20.a x20.len x20.cap)) (
  L.unmark Pr (d8 ++ []) <|
  K (.slice none 0 0)) []
theorem zaH (p0 : Option Addr) (p1 : Int) {K : Value → PT} {w : World} (h : z6U p0 p1 K w) : CT Pr z6M [.pointer p0, .int .i64 p1] K w :=
 C_of (fn := Tryz.f195) (an := zaW) (args := [.v (.pointer p0), .v (.int .i64 p1)]) (by kernel_rfl) (by kernel_rfl) (by kernel_rfl) h
def z6Z (p0 : Option Addr) (p1 : ByteArray) (K : Value → PT) : PT :=
 L.call Pr z3j [.pointer p0, .string p1, .func (.func z2T) #[] #[]] rS fun (x1 : ByteArray) =>
 L.call Pr z3j [.pointer p0, .string p1, .func (.func z1x) #[.pointer p0] #[]] rS fun (x2 : ByteArray) =>
 K (.tuple #[.string x1, .string x2])
theorem zaM (p0 : Option Addr) (p1 : ByteArray) {K : Value → PT} {w : World} (h : z6Z p0 p1 K w) : CT Pr z4S [.pointer p0, .string p1] K w :=
 C_of (fn := Tryz.f197) (an := .auto) (args := [.v (.pointer p0), .v (.string p1)]) (by kernel_rfl) (by kernel_rfl) (by kernel_rfl) h
def z7m : Ann := (.seq .auto (.one [(9, (.one (.int .i64)))] .auto) none)
def z4c (p0 : FV) (c0 : Addr) (K : Value → PT) : PT :=
 L.load (.one (.map)) c0 fun (x1 : Option Nat) =>
 L.call Pr z1r [.map x1] (.one (.one (.func))) fun (x2 : FV) =>
 L.call Pr z0N [.func x2.fn x2.fs x2.cs] rL fun (x3 : Sl) =>
 L.loop (Y := Int × Unit) (0, ()) fun y4 again5 =>
 L.ite (decide (y4.1 < ((x3.len : Nat) : Int))) (
  L.idx x3.a y4.1 x3.len 1 fun a6 =>
  L.load eS6 a6 fun (x7 : ByteArray) =>
  L.load (.one (.map)) c0 fun (x8 : Option Nat) =>
  L.semR Pr rI (Instr.lookup z0F (.map x8) (.string x7) false) fun (x9 : Int) =>
  L.callV Pr (.func p0.fn p0.fs p0.cs) [.string x7, .int .i64 x9] rB fun (x10 : Bool) =>
  L.ite (!x10) (
   K (.tuple #[])) <|
  again5 (IntKind.wrap .i64 (y4.1 + 1), ())) <|
 K (.tuple #[])
theorem z7j (p0 : FV) (c0 : Addr) {K : Value → PT} {w : World} (h : z4c p0 c0 K w) : CT Pr z1k [.func p0.fn p0.fs p0.cs, .pointer (some c0)] K w :=
 C_of (fn := Tryz.f198) (an := z7m) (args := [.v (.func p0.fn p0.fs p0.cs), .v (.pointer (some c0))]) (by kernel_rfl) (by kernel_rfl) (by kernel_rfl) h
theorem z7e : Enters Pr z1k := z0p (by kernel_rfl)
def z2r (p0 : Option Nat) (K : Value → PT) : PT :=
 L.new [.map p0] z0F fun b1 =>
 K (.func (.func z0v) #[] #[.pointer (some (⟨b1, 0, none⟩))])
theorem z4D (p0 : Option Nat) {K : Value → PT} {w : World} (h : z2r p0 K w) : CT Pr z1r [.map p0] K w :=
 C_of (fn := Tryz.f199) (an := .auto) (args := [.v (.map p0)]) (by kernel_rfl) (by kernel_rfl) (by kernel_rfl) h
def z69 : Ann := (.seq .auto (.one [(9, (.one (.int .i64)))] .auto) none)
def z3i (p0 : FV) (c0 : Addr) (K : Value → PT) : PT :=
 L.load (.one (.map)) c0 fun (x1 : Option Nat) =>
 L.call Pr z17 [.map x1] (.one (.one (.func))) fun (x2 : FV) =>
 L.call Pr z0N [.func x2.fn x2.fs x2.cs] rL fun (x3 : Sl) =>
 L.loop (Y := Int × Unit) (0, ()) fun y4 again5 =>
 L.ite (decide (y4.1 < ((x3.len : Nat) : Int))) (
  L.idx x3.a y4.1 x3.len 1 fun a6 =>
  L.load eS6 a6 fun (x7 : ByteArray) =>
  L.load (.one (.map)) c0 fun (x8 : Option Nat) =>
  L.semR Pr rS (Instr.lookup z0q (.map x8) (.string x7) false) fun (x9 : ByteArray) =>
  L.callV Pr (.func p0.fn p0.fs p0.cs) [.string x7, .string x9] rB fun (x10 : Bool) =>
  L.ite (!x10) (
   K (.tuple #[])) <|
  again5 (IntKind.wrap .i64 (y4.1 + 1), ())) <|
 K (.tuple #[])
theorem z67 (p0 : FV) (c0 : Addr) {K : Value → PT} {w : World} (h : z3i p0 c0 K w) : CT Pr z0Z [.func p0.fn p0.fs p0.cs, .pointer (some c0)] K w :=
 C_of (fn := Tryz.f200) (an := z69) (args := [.v (.func p0.fn p0.fs p0.cs), .v (.pointer (some c0))]) (by kernel_rfl) (by kernel_rfl) (by kernel_rfl) h
theorem z64 : Enters Pr z0Z := z0p (by kernel_rfl)
def z1H (p0 : Option Nat) (K : Value → PT) : PT :=
 L.new [.map p0] z0q fun b1 =>
 K (.func (.func z0h) #[] #[.pointer (some (⟨b1, 0, none⟩))])
theorem z3w (p0 : Option Nat) {K : Value → PT} {w : World} (h : z1H p0 K w) : CT Pr z17 [.map p0] K w :=
 C_of (fn := Tryz.f201) (an := .auto) (args := [.v (.map p0)]) (by kernel_rfl) (by kernel_rfl) (by kernel_rfl) h
def z68 : Ann := (.seq .auto (.seq .auto (.seq (.seq .auto (.one [(5, (.one (.slice))), (12, (.one (.int .i64)))] (.seq .auto (.seq .auto (.seq (.seq .auto (.seq .auto (.one [(5, (.one (.slice))), (18, (.one (.int .i64)))] .auto) none) none) .auto none) none) none)) none) .auto none) none) none)
def z3h (p0 : FV) (p1 : Sl) (K : Value → PT) : PT :=
 L.loop (Y := Sl × Int × Unit) (⟨none, 0, 0⟩, 0, ()) fun y1 again2 =>
 L.ite (decide (y1.2.1 < ((p1.len : Nat) : Int))) (
  L.idx p1.a y1.2.1 p1.len 1 fun a3 =>
  L.load eL6 a3 fun (x4 : Sl) =>
  L.loop (Y := Sl × Int × Unit) (⟨y1.1.a, y1.1.len, y1.1.cap⟩, 0, ()) fun y5 again6 =>
  L.ite (decide (y5.2.1 < ((x4.len : Nat) : Int))) (
   L.idx x4.a y5.2.1 x4.len 2 fun a7 =>
   L.load (.agg [.str, .int .i64]) a7 fun (x8 : ByteArray × Int × Unit) =>
   L.new [.string s_, .int .i64 0] z0s fun b9 =>
   L.store (⟨b9, 0, none⟩) [.string x8.1, .int .i64 x8.2.1] <|
   L.load (.agg [.str, .int .i64]) (⟨b9, 0, none⟩) fun (x10 : ByteArray × Int × Unit) =>
   L.callV Pr (.func p0.fn p0.fs p0.cs) [.agg #[.string x10.1, .int .i64 x10.2.1]] rS fun (x11 : ByteArray) =>
   L.new [.string x11] z00 fun b12 =>
   L.sem Pr (.one (.one .slice)) (Builtin.append_ #[z05, z05] z05 #[.slice y5.1.a y5.1.len y5.1.cap, .slice (some ⟨b12, 0, none⟩) 1 1]) fun (s13 : Sl) =>
   again6 (⟨s13.a, s13.len, s13.cap⟩, IntKind.wrap .i64 (y5.2.1 + 1), ())) <|
  again2 (⟨y5.1.a, y5.1.len, y5.1.cap⟩, IntKind.wrap .i64 (y1.2.1 + 1), ())) <|
 L.call Pr z2w [.slice y1.1.a y1.1.len y1.1.cap] (.tup []) fun (x14 : Unit) =>
 L.call Pr z3g [.slice y1.1.a y1.1.len y1.1.cap] rL fun (x15 : Sl) =>
 K (.slice x15.a x15.len x15.cap)
theorem z66 (p0 : FV) (p1 : Sl) {K : Value → PT} {w : World} (h : z3h p0 p1 K w) : CT Pr z2g [.func p0.fn p0.fs p0.cs, .slice p1.a p1.len p1.cap] K w :=
 C_of (fn := Tryz.f202) (an := z68) (args := [.v (.func p0.fn p0.fs p0.cs), .v (.slice p1.a p1.len p1.cap)]) (by kernel_rfl) (by kernel_rfl) (by kernel_rfl) h
def zf8 (p0 : HT [.str, .int .i64]) (K : Value → PT) : PT :=
 L.new [.string p0.1, .int .i64 p0.2.1] z0s fun b1 =>
 L.load eS6 ((⟨b1, 0, none⟩ : Addr).add 0) fun (x2 : ByteArray) =>
 K (.string x2)
theorem zk7 (p0 : HT [.str, .int .i64]) {K : Value → PT} {w : World} (h : zf8 p0 K w) : CT Pr z9R [(.ag [.string p0.1, .int .i64 p0.2.1] : SV).toV] K w :=
 C_of (fn := Tryz.f203) (an := .auto) (args := [.ag [.string p0.1, .int .i64 p0.2.1]]) (by kernel_rfl) (by kernel_rfl) (by kernel_rfl) h
theorem zk4 : Enters Pr z9R := z0p (by kernel_rfl)
def zbC (p0 : Sl) (p1 : ByteArray) (K : Value → PT) : PT :=
 L.new [.string p1] z00 fun b1 =>
 L.call Pr z2l [.slice p0.a p0.len p0.cap, .func (.func z5i) #[] #[.pointer (some (⟨b1, 0, none⟩))]] rI fun (x2 : Int) =>
 L.ite (decide (x2 < 0)) (
  K (.int .i64 0)) <|
 L.idx p0.a x2 p0.len 2 fun a3 =>
 L.load eI6 (a3.add 1) fun (x4 : Int) =>
 K (.int .i64 x4)
theorem zg1 (p0 : Sl) (p1 : ByteArray) {K : Value → PT} {w : World} (h : zbC p0 p1 K w) : CT Pr z4h [.slice p0.a p0.len p0.cap, .string p1] K w :=
 C_of (fn := Tryz.f204) (an := .auto) (args := [.v (.slice p0.a p0.len p0.cap), .v (.string p1)]) (by kernel_rfl) (by kernel_rfl) (by kernel_rfl) h
def zc4 : Ann := (.seq .auto (.seq .auto (.seq (.seq .auto (.seq .auto .auto (some [(11, (.one (.int .i64))), (12, (.one (.ptr)))])) none) .auto none) none) none)
def z7L (p0 : Option Addr) (p1 : ByteArray) (K : Value → PT) : PT :=
 L.new [.slice none 0 0] z1n fun b1 =>
 L.call Pr z2Q [.pointer p0, .string p1] (.one (.one (.func))) fun (x2 : FV) =>
 L.range Pr none (.func x2.fn x2.fs x2.cs) [eI6, eP6] (fun l3 (y4 : Int × Option Addr × Unit) R5 =>
  L.begin Pr l3 <|
  L.draw <|
  L.load eL6 (⟨b1, 0, none⟩) fun (x8 : Sl) =>
  L.call Pr z1j [.pointer y4.2.1] rI fun (x9 : Int) =>
  L.chk (⟨b1, 0, none⟩) [.slice x8.a x8.len x8.cap] <|
  L.call Pr z27 [.pointer y4.2.1] rI fun (x10 : Int) =>
  L.chk (⟨b1, 0, none⟩) [.slice x8.a x8.len x8.cap] <|
  L.new [.int .i64 y4.1, .int .i64 x9, .int .i64 x10] z44 fun b11 =>
  L.chk (⟨b1, 0, none⟩) [.slice x8.a x8.len x8.cap] <|
  L.sem Pr (.one (.one .slice)) (Builtin.append_ #[z1n, z1n] z1n #[.slice x8.a x8.len x8.cap, .slice (some ⟨b11, 0, none⟩) 1 1]) fun (s12 : Sl) =>
  L.store (⟨b1, 0, none⟩) [.slice s12.a s12.len s12.cap] <|
  L.endRound Pr l3 none R5) fun d6 j7 =>
 L.jump j7 (
  L.load eL6 (⟨b1, 0, none⟩) fun (x13 : Sl) =>
  L.call Pr z1v [.slice x13.a x13.len x13.cap] rL fun (x14 : Sl) =>
  L.unmark Pr (d6 ++ []) <|
  K (.slice x14.a x14.len x14.cap)) (
  L.unmark Pr (d6 ++ []) <|
  K (.slice none 0 0)) []
theorem zbW (p0 : Option Addr) (p1 : ByteArray) {K : Value → PT} {w : World} (h : z7L p0 p1 K w) : CT Pr z5n [.pointer p0, .string p1] K w :=
 C_of (fn := Tryz.f205) (an := zc4) (args := [.v (.pointer p0), .v (.string p1)]) (by kernel_rfl) (by kernel_rfl) (by kernel_rfl) h
def z8R (p0 : Option Addr) (p1 : ByteArray) (K : Value → PT) : PT :=
 L.new [.pointer p0] z0H fun b1 =>
 L.new [.string p1] z00 fun b2 =>
 K (.func (.func z2U) #[] #[.pointer (some (⟨b1, 0, none⟩)), .pointer (some (⟨b2, 0, none⟩))])
theorem zd7 (p0 : Option Addr) (p1 : ByteArray) {K : Value → PT} {w : World} (h : z8R p0 p1 K w) : CT Pr z2Q [.pointer p0, .string p1] K w :=
 C_of (fn := Tryz.f207) (an := .auto) (args := [.v (.pointer p0), .v (.string p1)]) (by kernel_rfl) (by kernel_rfl) (by kernel_rfl) h
def z7P (p0 : Option Addr) (K : Value → PT) : PT :=
 L.nonnil p0 fun a1 =>
 L.load (.one (.map)) ((a1.add 1).add 0) fun (x2 : Option Nat) =>
 L.semR Pr rI (Builtin.len_ #[z3F] z0j #[.map x2]) fun (x3 : Int) =>
 K (.int .i64 x3)
theorem zaq (p0 : Option Addr) {K : Value → PT} {w : World} (h : z7P p0 K w) : CT Pr z27 [.pointer p0] K w :=
 C_of (fn := Tryz.f208) (an := .auto) (args := [.v (.pointer p0)]) (by kernel_rfl) (by kernel_rfl) (by kernel_rfl) h
def zgg : Ann := (.seq .auto (.cond .auto .auto) none)
def zbE (p0 : Option Addr) (K : Value → PT) : PT :=
 L.nonnil p0 fun a1 =>
 L.load eI6 (a1.add 0) fun (x2 : Int) =>
 L.ite (x2 == 3) (
  L.call Pr z27 [.pointer p0] rI fun (x3 : Int) =>
  L.ite (x3 == 0) (
   L.nonnil p0 fun a4 =>
   L.store (a4.add 0) [.int .i64 4] <|
   K (.tuple #[])) <|
  K (.tuple #[])) <|
 K (.tuple #[])
theorem zg3 (p0 : Option Addr) {K : Value → PT} {w : World} (h : zbE p0 K w) : CT Pr z8o [.pointer p0] K w :=
 C_of (fn := Tryz.f209) (an := zgg) (args := [.v (.pointer p0)]) (by kernel_rfl) (by kernel_rfl) (by kernel_rfl) h
def z5t (p0 : FV) (K : Value → PT) : PT :=
 L.call Pr z1S [.slice none 0 0, .func p0.fn p0.fs p0.cs] rL fun (x1 : Sl) =>
 K (.slice x1.a x1.len x1.cap)
theorem z8A (p0 : FV) {K : Value → PT} {w : World} (h : z5t p0 K w) : CT Pr z5h [.func p0.fn p0.fs p0.cs] K w :=
 C_of (fn := Tryz.f210) (an := .auto) (args := [.v (.func p0.fn p0.fs p0.cs)]) (by kernel_rfl) (by kernel_rfl) (by kernel_rfl) h
def z2e : Ann := (.seq .auto (.one [] (.seq .auto (.seq (.cond .auto .auto) .auto none) none)) none)
def z0Y (p0 : FV) (c0 : Addr) (K : Value → PT) : PT :=
 L.load (.one (.map)) c0 fun (x1 : Option Nat) =>
 L.sem Pr (.one (.one .ptr)) (Instr.range z0g (.map x1)) fun (it2 : Option Addr) =>
 L.loop (Y := Unit) (()) fun y3 again4 =>
 L.next Pr [eS6, (.agg lf5)] (Instr.next (.pointer it2) false T_) (
  K (.tuple #[])) fun (x5 : pt22) =>
 L.sem Pr (.tup [eS6, (.agg lf5)]) (Instr.entry (.pointer it2)) fun (x6 : pt22) =>
 L.callV Pr (.func p0.fn p0.fs p0.cs) [.string x6.1] rB fun (x7 : Bool) =>
 L.ite (!x7) (
  K (.tuple #[])) <|
 again4 (())
theorem z2d (p0 : FV) (c0 : Addr) {K : Value → PT} {w : World} (h : z0Y p0 c0 K w) : CT Pr z08 [.func p0.fn p0.fs p0.cs, .pointer (some c0)] K w :=
 C_of (fn := Tryz.f212) (an := z2e) (args := [.v (.func p0.fn p0.fs p0.cs), .v (.pointer (some c0))]) (by kernel_rfl) (by kernel_rfl) (by kernel_rfl) h
theorem z2c : Enters Pr z08 := z0p (by kernel_rfl)
def z3S : Ann := (.seq .auto (.seq (.seq .auto (.one [(8, (.one (.int .i64)))] .auto) none) .auto none) none)
def z23 (p0 : Sl) (p1 : FV) (K : Value → PT) : PT :=
 L.loop (Y := Int × Unit) (0, ()) fun y1 again2 =>
 L.ite (decide (y1.1 < ((p0.len : Nat) : Int))) (
  L.idx p0.a y1.1 p0.len 3 fun a3 =>
  L.load (.agg [.str, .str, .int .i64]) a3 fun (x4 : pt9) =>
  L.callV Pr (.func p1.fn p1.fs p1.cs) [.agg #[.string x4.1, .string x4.2.1, .int .i64 x4.2.2.1]] rB fun (x5 : Bool) =>
  L.ite x5 (
   K (.int .i64 y1.1)) <|
  again2 (IntKind.wrap .i64 (y1.1 + 1), ())) <|
 K (.int .i64 (-1))
theorem z3R (p0 : Sl) (p1 : FV) {K : Value → PT} {w : World} (h : z23 p0 p1 K w) : CT Pr z1Z [.slice p0.a p0.len p0.cap, .func p1.fn p1.fs p1.cs] K w :=
 C_of (fn := Tryz.f217) (an := z3S) (args := [.v (.slice p0.a p0.len p0.cap), .v (.func p1.fn p1.fs p1.cs)]) (by kernel_rfl) (by kernel_rfl) (by kernel_rfl) h
def z1o (p0 : Sl) (p1 : FV) (K : Value → PT) : PT :=
 L.call Pr z2v [.slice p0.a p0.len p0.cap, .int .i64 ((p0.len : Nat) : Int), .func p1.fn p1.fs p1.cs] (.tup []) fun (x1 : Unit) =>
 K (.tuple #[])
theorem z2O (p0 : Sl) (p1 : FV) {K : Value → PT} {w : World} (h : z1o p0 p1 K w) : CT Pr z0R [.slice p0.a p0.len p0.cap, .func p1.fn p1.fs p1.cs] K w :=
 C_of (fn := Tryz.f224) (an := .auto) (args := [.v (.slice p0.a p0.len p0.cap), .v (.func p1.fn p1.fs p1.cs)]) (by kernel_rfl) (by kernel_rfl) (by kernel_rfl) h
def z6t (p0 : HT [.int .i64, .int .i64]) (p1 : HT [.int .i64, .int .i64]) (K : Value → PT) : PT :=
 L.new [.int .i64 p0.1, .int .i64 p0.2.1] z0Q fun b1 =>
 L.new [.int .i64 p1.1, .int .i64 p1.2.1] z0Q fun b2 =>
 L.load eI6 ((⟨b1, 0, none⟩ : Addr).add 0) fun (x3 : Int) =>
 L.load eI6 ((⟨b2, 0, none⟩ : Addr).add 0) fun (x4 : Int) =>
 K (.int .i64 (IntKind.wrap .i64 (x3 - x4)))
theorem zab (p0 : HT [.int .i64, .int .i64]) (p1 : HT [.int .i64, .int .i64]) {K : Value → PT} {w : World} (h : z6t p0 p1 K w) : CT Pr z1s [(.ag [.int .i64 p0.1, .int .i64 p0.2.1] : SV).toV, (.ag [.int .i64 p1.1, .int .i64 p1.2.1] : SV).toV] K w :=
 C_of (fn := Tryz.f225) (an := .auto) (args := [.ag [.int .i64 p0.1, .int .i64 p0.2.1], .ag [.int .i64 p1.1, .int .i64 p1.2.1]]) (by kernel_rfl) (by kernel_rfl) (by kernel_rfl) h
theorem za2 : Enters Pr z1s := z0p (by kernel_rfl)
def zal (p0 : Option Addr) (p1 : Int) (K : Value → PT) : PT :=
 L.nonnil p0 fun a1 =>
 L.load eI6 (a1.add 0) fun (x2 : Int) =>
 L.ite (x2 != 2) (
  K (.int .i64 9)) <|
 L.nonnil p0 fun a3 =>
 L.call Pr z80 [.pointer (some (a3.add 1)), .int .i64 p1] rI fun (x4 : Int) =>
 K (.int .i64 x4)
theorem zew (p0 : Option Addr) (p1 : Int) {K : Value → PT} {w : World} (h : zal p0 p1 K w) : CT Pr z5Q [.pointer p0, .int .i64 p1] K w :=
 C_of (fn := Tryz.f226) (an := .auto) (args := [.v (.pointer p0), .v (.int .i64 p1)]) (by kernel_rfl) (by kernel_rfl) (by kernel_rfl) h
def z9M : Ann := (.seq .auto (.one [(10, (.one (.int .i64)))] .auto) none)
def z60 (p0 : FV) (c0 : Addr) (K : Value → PT) : PT :=
 L.load eP6 c0 fun (x1 : Option Addr) =>
 L.nonnil x1 fun a2 =>
 L.load eL6 (a2.add 0) fun (x3 : Sl) =>
 L.loop (Y := Int × Unit) (0, ()) fun y4 again5 =>
 L.ite (decide (y4.1 < ((x3.len : Nat) : Int))) (
  L.idx x3.a y4.1 x3.len 2 fun a6 =>
  L.load (.agg [.int .i64, .int .i64]) a6 fun (x7 : Int × Int × Unit) =>
  L.new [.int .i64 0, .int .i64 0] z2h fun b8 =>
  L.store (⟨b8, 0, none⟩) [.int .i64 x7.1, .int .i64 x7.2.1] <|
  L.load eI6 ((⟨b8, 0, none⟩ : Addr).add 0) fun (x9 : Int) =>
  L.load eI6 ((⟨b8, 0, none⟩ : Addr).add 1) fun (x10 : Int) =>
  L.callV Pr (.func p0.fn p0.fs p0.cs) [.int .i64 x9, .int .i64 x10] rB fun (x11 : Bool) =>
  L.ite (!x11) (
   K (.tuple #[])) <|
  again5 (IntKind.wrap .i64 (y4.1 + 1), ())) <|
 K (.tuple #[])
theorem z9F (p0 : FV) (c0 : Addr) {K : Value → PT} {w : World} (h : z60 p0 c0 K w) : CT Pr z2f [.func p0.fn p0.fs p0.cs, .pointer (some c0)] K w :=
 C_of (fn := Tryz.f227) (an := z9M) (args := [.v (.func p0.fn p0.fs p0.cs), .v (.pointer (some c0))]) (by kernel_rfl) (by kernel_rfl) (by kernel_rfl) h
theorem z9B : Enters Pr z2f := z0p (by kernel_rfl)
def z6q (p0 : FV) (K : Value → PT) : PT :=
 L.call Pr z2K [.slice none 0 0, .func p0.fn p0.fs p0.cs] rL fun (x1 : Sl) =>
 K (.slice x1.a x1.len x1.cap)
theorem za8 (p0 : FV) {K : Value → PT} {w : World} (h : z6q p0 K w) : CT Pr z6m [.func p0.fn p0.fs p0.cs] K w :=
 C_of (fn := Tryz.f228) (an := .auto) (args := [.v (.func p0.fn p0.fs p0.cs)]) (by kernel_rfl) (by kernel_rfl) (by kernel_rfl) h
def z2E : Ann := (.seq .auto (.one [] (.seq .auto (.seq (.cond .auto .auto) .auto none) none)) none)
def z1l (p0 : FV) (c0 : Addr) (K : Value → PT) : PT :=
 L.load (.one (.map)) c0 fun (x1 : Option Nat) =>
 L.sem Pr (.one (.one .ptr)) (Instr.range z0E (.map x1)) fun (it2 : Option Addr) =>
 L.loop (Y := Unit) (()) fun y3 again4 =>
 L.next Pr [eS6, eP6] (Instr.next (.pointer it2) false T_) (
  K (.tuple #[])) fun (x5 : ByteArray × Option Addr × Unit) =>
 L.sem Pr (.tup [eS6, eP6]) (Instr.entry (.pointer it2)) fun (x6 : ByteArray × Option Addr × Unit) =>
 L.callV Pr (.func p0.fn p0.fs p0.cs) [.string x6.1] rB fun (x7 : Bool) =>
 L.ite (!x7) (
  K (.tuple #[])) <|
 again4 (())
theorem z2D (p0 : FV) (c0 : Addr) {K : Value → PT} {w : World} (h : z1l p0 c0 K w) : CT Pr z0b [.func p0.fn p0.fs p0.cs, .pointer (some c0)] K w :=
 C_of (fn := Tryz.f230) (an := z2E) (args := [.v (.func p0.fn p0.fs p0.cs), .v (.pointer (some c0))]) (by kernel_rfl) (by kernel_rfl) (by kernel_rfl) h
theorem z2C : Enters Pr z0b := z0p (by kernel_rfl)
def zaX : Ann := (.seq .auto (.seq .auto (.seq (.seq .auto (.one [(18, (.one (.int .i64)))] (.seq .auto (.seq .auto (.seq (.seq .auto (.seq .auto (.seq .auto (.cond .auto .auto) none) none) none) .auto (some [])) none) none)) none) .auto none) none) none)
def z6Y (p0 : Option Addr) (p1 : ByteArray) (p2 : FV) (K : Value → PT) : PT :=
 L.new [.string s_, .int .i64 0, .string s_, .int .i64 0, .int .i64 0, .int .i64 0, .int .i64 0, .int .i64 0] z0k fun b1 =>
 L.store (⟨b1, 0, none⟩) [.string s_, .int .i64 0, .string s_, .int .i64 0, .int .i64 0, .int .i64 0, .int .i64 0, .int .i64 0] <|
 L.nonnil p0 fun a2 =>
 L.load (.one (.map)) (a2.add 0) fun (x3 : Option Nat) =>
 L.call Pr z1i [.map x3] rL fun (x4 : Sl) =>
 L.loop (Y := Int × Unit) (0, ()) fun y5 again6 =>
 L.ite (decide (y5.1 < ((x4.len : Nat) : Int))) (
  L.join (Y := Unit) (fun k7 =>
   L.idx x4.a y5.1 x4.len 1 fun a9 =>
   L.load eS6 a9 fun (x10 : ByteArray) =>
   L.nonnil p0 fun a11 =>
   L.load (.one (.map)) (a11.add 0) fun (x12 : Option Nat) =>
   L.semR Pr (.one (.agg lf5)) (Instr.lookup z0g (.map x12) (.string x10) false) fun (x13 : pt14) =>
   L.new [.string s_, .int .i64 0, .string s_, .int .i64 0, .int .i64 0, .int .i64 0, .int .i64 0, .int .i64 0] z0k fun b14 =>
   L.store (⟨b14, 0, none⟩) [.string x13.1, .int .i64 x13.2.1, .string x13.2.2.1, .int .i64 x13.2.2.2.1, .int .i64 x13.2.2.2.2.1, .int .i64 x13.2.2.2.2.2.1, .int .i64 x13.2.2.2.2.2.2.1, .int .i64 x13.2.2.2.2.2.2.2.1] <|
   L.load eS6 (((⟨b14, 0, none⟩ : Addr).add 2).add 0) fun (x15 : ByteArray) =>
   L.ite (x15.toList == p1.toList) (
    L.load eI6 ((⟨b14, 0, none⟩ : Addr).add 1) fun (x16 : Int) =>
    L.load eI6 ((⟨b1, 0, none⟩ : Addr).add 1) fun (x17 : Int) =>
    L.ite (decide (x16 > x17)) (
     L.callV Pr (.func p2.fn p2.fs p2.cs) [.string x10] rB fun (x18 : Bool) =>
     L.ite x18 (
      L.load (.agg lf5) (⟨b14, 0, none⟩) fun (x19 : pt14) =>
      L.store (⟨b1, 0, none⟩) [.string x19.1, .int .i64 x19.2.1, .string x19.2.2.1, .int .i64 x19.2.2.2.1, .int .i64 x19.2.2.2.2.1, .int .i64 x19.2.2.2.2.2.1, .int .i64 x19.2.2.2.2.2.2.1, .int .i64 x19.2.2.2.2.2.2.2.1] <|
      k7 (())) <|
     k7 (())) <|
    k7 (())) <|
   k7 (())) fun z8 =>
  again6 (IntKind.wrap .i64 (y5.1 + 1), ())) <|
 L.load eS6 ((⟨b1, 0, none⟩ : Addr).add 0) fun (x20 : ByteArray) =>
 K (.string x20)
theorem zaL (p0 : Option Addr) (p1 : ByteArray) (p2 : FV) {K : Value → PT} {w : World} (h : z6Y p0 p1 p2 K w) : CT Pr z3j [.pointer p0, .string p1, .func p2.fn p2.fs p2.cs] K w :=
 C_of (fn := Tryz.f233) (an := zaX) (args := [.v (.pointer p0), .v (.string p1), .v (.func p2.fn p2.fs p2.cs)]) (by kernel_rfl) (by kernel_rfl) (by kernel_rfl) h
def z63 (p0 : ByteArray) (K : Value → PT) : PT :=
 K (.bool true)
theorem z9K (p0 : ByteArray) {K : Value → PT} {w : World} (h : z63 p0 K w) : CT Pr z2T [.string p0] K w :=
 C_of (fn := Tryz.f234) (an := .auto) (args := [.v (.string p0)]) (by kernel_rfl) (by kernel_rfl) (by kernel_rfl) h
theorem z9E : Enters Pr z2T := z0p (by kernel_rfl)
def z4f : Ann := (.seq .auto (.one [] (.seq .auto (.seq (.cond .auto .auto) .auto none) none)) none)
def z2i (p0 : FV) (c0 : Addr) (K : Value → PT) : PT :=
 L.load (.one (.map)) c0 fun (x1 : Option Nat) =>
 L.sem Pr (.one (.one .ptr)) (Instr.range z0F (.map x1)) fun (it2 : Option Addr) =>
 L.loop (Y := Unit) (()) fun y3 again4 =>
 L.next Pr [eS6, eI6] (Instr.next (.pointer it2) false T_) (
  K (.tuple #[])) fun (x5 : ByteArray × Int × Unit) =>
 L.sem Pr (.tup [eS6, eI6]) (Instr.entry (.pointer it2)) fun (x6 : ByteArray × Int × Unit) =>
 L.callV Pr (.func p0.fn p0.fs p0.cs) [.string x6.1] rB fun (x7 : Bool) =>
 L.ite (!x7) (
  K (.tuple #[])) <|
 again4 (())
theorem z4e (p0 : FV) (c0 : Addr) {K : Value → PT} {w : World} (h : z2i p0 c0 K w) : CT Pr z0v [.func p0.fn p0.fs p0.cs, .pointer (some c0)] K w :=
 C_of (fn := Tryz.f235) (an := z4f) (args := [.v (.func p0.fn p0.fs p0.cs), .v (.pointer (some c0))]) (by kernel_rfl) (by kernel_rfl) (by kernel_rfl) h
theorem z4d : Enters Pr z0v := z0p (by kernel_rfl)
def z3e : Ann := (.seq .auto (.one [] (.seq .auto (.seq (.cond .auto .auto) .auto none) none)) none)
def z1B (p0 : FV) (c0 : Addr) (K : Value → PT) : PT :=
 L.load (.one (.map)) c0 fun (x1 : Option Nat) =>
 L.sem Pr (.one (.one .ptr)) (Instr.range z0q (.map x1)) fun (it2 : Option Addr) =>
 L.loop (Y := Unit) (()) fun y3 again4 =>
 L.next Pr [eS6, eS6] (Instr.next (.pointer it2) false T_) (
  K (.tuple #[])) fun (x5 : ByteArray × ByteArray × Unit) =>
 L.sem Pr (.tup [eS6, eS6]) (Instr.entry (.pointer it2)) fun (x6 : ByteArray × ByteArray × Unit) =>
 L.callV Pr (.func p0.fn p0.fs p0.cs) [.string x6.1] rB fun (x7 : Bool) =>
 L.ite (!x7) (
  K (.tuple #[])) <|
 again4 (())
theorem z3c (p0 : FV) (c0 : Addr) {K : Value → PT} {w : World} (h : z1B p0 c0 K w) : CT Pr z0h [.func p0.fn p0.fs p0.cs, .pointer (some c0)] K w :=
 C_of (fn := Tryz.f236) (an := z3e) (args := [.v (.func p0.fn p0.fs p0.cs), .v (.pointer (some c0))]) (by kernel_rfl) (by kernel_rfl) (by kernel_rfl) h
theorem z3a : Enters Pr z0h := z0p (by kernel_rfl)
def z4q : Ann := (.seq .auto (.seq (.seq .auto (.one [(8, (.one (.int .i64)))] .auto) none) .auto none) none)
def z2n (p0 : Sl) (p1 : FV) (K : Value → PT) : PT :=
 L.loop (Y := Int × Unit) (0, ()) fun y1 again2 =>
 L.ite (decide (y1.1 < ((p0.len : Nat) : Int))) (
  L.idx p0.a y1.1 p0.len 2 fun a3 =>
  L.load (.agg [.str, .int .i64]) a3 fun (x4 : ByteArray × Int × Unit) =>
  L.callV Pr (.func p1.fn p1.fs p1.cs) [.agg #[.string x4.1, .int .i64 x4.2.1]] rB fun (x5 : Bool) =>
  L.ite x5 (
   K (.int .i64 y1.1)) <|
  again2 (IntKind.wrap .i64 (y1.1 + 1), ())) <|
 K (.int .i64 (-1))
theorem z4p (p0 : Sl) (p1 : FV) {K : Value → PT} {w : World} (h : z2n p0 p1 K w) : CT Pr z2l [.slice p0.a p0.len p0.cap, .func p1.fn p1.fs p1.cs] K w :=
 C_of (fn := Tryz.f238) (an := z4q) (args := [.v (.slice p0.a p0.len p0.cap), .v (.func p1.fn p1.fs p1.cs)]) (by kernel_rfl) (by kernel_rfl) (by kernel_rfl) h
def z9x (p0 : HT [.str, .int .i64]) (c0 : Addr) (K : Value → PT) : PT :=
 L.new [.string p0.1, .int .i64 p0.2.1] z0s fun b1 =>
 L.load eS6 ((⟨b1, 0, none⟩ : Addr).add 0) fun (x2 : ByteArray) =>
 L.load eS6 c0 fun (x3 : ByteArray) =>
 K (.bool (x2.toList == x3.toList))
theorem zef (p0 : HT [.str, .int .i64]) (c0 : Addr) {K : Value → PT} {w : World} (h : z9x p0 c0 K w) : CT Pr z5i [(.ag [.string p0.1, .int .i64 p0.2.1] : SV).toV, .pointer (some c0)] K w :=
 C_of (fn := Tryz.f239) (an := .auto) (args := [.ag [.string p0.1, .int .i64 p0.2.1], .v (.pointer (some c0))]) (by kernel_rfl) (by kernel_rfl) (by kernel_rfl) h
theorem zeb : Enters Pr z5i := z0p (by kernel_rfl)
def z2s (p0 : Sl) (K : Value → PT) : PT :=
 L.ite ((p0.a).isNone) (
  K (.slice none 0 0)) <|
 L.new [] z44 fun b1 =>
 L.sem Pr (.one (.one .slice)) (Builtin.append_ #[z1n, z1n] z1n #[.slice (some ⟨b1, 0, none⟩) 0 0, .slice p0.a p0.len p0.cap]) fun (s2 : Sl) =>
 K (.slice s2.a s2.len s2.cap)
theorem z4L (p0 : Sl) {K : Value → PT} {w : World} (h : z2s p0 K w) : CT Pr z1v [.slice p0.a p0.len p0.cap] K w :=
 C_of (fn := Tryz.f240) (an := .auto) (args := [.v (.slice p0.a p0.len p0.cap)]) (by kernel_rfl) (by kernel_rfl) (by kernel_rfl) h
def zc2 : Ann := (.seq .auto (.one [(14, (.one (.int .i64)))] (.seq .auto (.seq .auto (.seq (.seq .auto (.seq .auto (.seq .auto (.cond .auto .auto) none) none) none) .auto (some [])) none) none)) none)
def z7J (p0 : FV) (c0 : Addr) (c1 : Addr) (K : Value → PT) : PT :=
 L.load eP6 c0 fun (x1 : Option Addr) =>
 L.nonnil x1 fun a2 =>
 L.load (.one (.map)) (a2.add 0) fun (x3 : Option Nat) =>
 L.call Pr z19 [.map x3] (.one (.one (.func))) fun (x4 : FV) =>
 L.call Pr z3k [.func x4.fn x4.fs x4.cs] rL fun (x5 : Sl) =>
 L.loop (Y := Int × Unit) (0, ()) fun y6 again7 =>
 L.ite (decide (y6.1 < ((x5.len : Nat) : Int))) (
  L.join (Y := Unit) (fun k8 =>
   L.idx x5.a y6.1 x5.len 1 fun a10 =>
   L.load eI6 a10 fun (x11 : Int) =>
   L.load eP6 c0 fun (x12 : Option Addr) =>
   L.nonnil x12 fun a13 =>
   L.load (.one (.map)) (a13.add 0) fun (x14 : Option Nat) =>
   L.semR Pr (.one (.agg [.str, .ptr])) (Instr.lookup z0B (.map x14) (.int .i64 x11) false) fun (x15 : ByteArray × Option Addr × Unit) =>
   L.new [.string s_, .pointer none] z5M fun b16 =>
   L.store (⟨b16, 0, none⟩) [.string x15.1, .pointer x15.2.1] <|
   L.load eS6 ((⟨b16, 0, none⟩ : Addr).add 0) fun (x17 : ByteArray) =>
   L.load eS6 c1 fun (x18 : ByteArray) =>
   L.ite (x17.toList == x18.toList) (
    L.load eP6 ((⟨b16, 0, none⟩ : Addr).add 1) fun (x19 : Option Addr) =>
    L.callV Pr (.func p0.fn p0.fs p0.cs) [.int .i64 x11, .pointer x19] rB fun (x20 : Bool) =>
    L.ite (!x20) (
     K (.tuple #[])) <|
    k8 (())) <|
   k8 (())) fun z9 =>
  again7 (IntKind.wrap .i64 (y6.1 + 1), ())) <|
 K (.tuple #[])
theorem zbU (p0 : FV) (c0 : Addr) (c1 : Addr) {K : Value → PT} {w : World} (h : z7J p0 c0 c1 K w) : CT Pr z2U [.func p0.fn p0.fs p0.cs, .pointer (some c0), .pointer (some c1)] K w :=
 C_of (fn := Tryz.f241) (an := zc2) (args := [.v (.func p0.fn p0.fs p0.cs), .v (.pointer (some c0)), .v (.pointer (some c1))]) (by kernel_rfl) (by kernel_rfl) (by kernel_rfl) h
theorem zbL : Enters Pr z2U := z0p (by kernel_rfl)
def z1I (p0 : Option Nat) (K : Value → PT) : PT :=
 L.new [.map p0] z0B fun b1 =>
 K (.func (.func z0i) #[] #[.pointer (some (⟨b1, 0, none⟩))])
theorem z3x (p0 : Option Nat) {K : Value → PT} {w : World} (h : z1I p0 K w) : CT Pr z19 [.map p0] K w :=
 C_of (fn := Tryz.f242) (an := .auto) (args := [.v (.map p0)]) (by kernel_rfl) (by kernel_rfl) (by kernel_rfl) h
def z5z : Ann := (.seq .auto (.seq (.seq .auto (.seq .auto .auto (some [(7, (.one (.str)))])) none) .auto none) none)
def z32 (p0 : Sl) (p1 : FV) (K : Value → PT) : PT :=
 L.new [.slice p0.a p0.len p0.cap] z05 fun b1 =>
 L.range Pr none (.func p1.fn p1.fs p1.cs) [eS6] (fun l2 (y3 : ByteArray × Unit) R4 =>
  L.begin Pr l2 <|
  L.load eL6 (⟨b1, 0, none⟩) fun (x7 : Sl) =>
  L.new [.string y3.1] z00 fun b8 =>
  L.sem Pr (.one (.one .slice)) (Builtin.append_ #[z05, z05] z05 #[.slice x7.a x7.len x7.cap, .slice (some ⟨b8, 0, none⟩) 1 1]) fun (s9 : Sl) =>
  L.store (⟨b1, 0, none⟩) [.slice s9.a s9.len s9.cap] <|
  L.endRound Pr l2 none R4) fun d5 j6 =>
 L.jump j6 (
  L.load eL6 (⟨b1, 0, none⟩) fun (x10 : Sl) =>
  L.unmark Pr (d5 ++ []) <|
  K (.slice x10.a x10.len x10.cap)) (
  L.unmark Pr (d5 ++ []) <|
  K (.slice none 0 0)) []
theorem z5y (p0 : Sl) (p1 : FV) {K : Value → PT} {w : World} (h : z32 p0 p1 K w) : CT Pr z1S [.slice p0.a p0.len p0.cap, .func p1.fn p1.fs p1.cs] K w :=
 C_of (fn := Tryz.f243) (an := z5z) (args := [.v (.slice p0.a p0.len p0.cap), .v (.func p1.fn p1.fs p1.cs)]) (by kernel_rfl) (by kernel_rfl) (by kernel_rfl) h
def z50 : Ann := (.seq .auto (.seq .auto (.seq (.one [(7, (.one (.int .i64))), (8, (.one (.int .i64)))] .auto) (.seq .auto (.one [(6, (.one (.int .i64)))] (.seq .auto (.seq .auto (.seq (.one [(7, (.one (.int .i64))), (8, (.one (.int .i64)))] .auto) (.seq .auto .auto (some [])) none) none) none)) none) none) none) none)
def z2B (p0 : Sl) (p1 : Int) (p2 : FV) (K : Value → PT) : PT :=
 L.loop (Y := Int × Int × Unit) (0, 20, ()) fun y1 again2 =>
 L.ite (decide (y1.2.1 ≤ p1)) (
  L.call Pr z0L [.slice p0.a p0.len p0.cap, .int .i64 y1.1, .int .i64 y1.2.1, .func p2.fn p2.fs p2.cs] (.tup []) fun (x3 : Unit) =>
  again2 (y1.2.1, IntKind.wrap .i64 (y1.2.1 + 20), ())) <|
 L.call Pr z0L [.slice p0.a p0.len p0.cap, .int .i64 y1.1, .int .i64 p1, .func p2.fn p2.fs p2.cs] (.tup []) fun (x4 : Unit) =>
 L.loop (Y := Int × Unit) (20, ()) fun y5 again6 =>
 L.ite (decide (y5.1 < p1)) (
  L.loop (Y := Int × Int × Unit) (0, IntKind.wrap .i64 (2 * y5.1), ()) fun y7 again8 =>
  L.ite (decide (y7.2.1 ≤ p1)) (
   L.call Pr z0V [.slice p0.a p0.len p0.cap, .int .i64 y7.1, .int .i64 (IntKind.wrap .i64 (y7.1 + y5.1)), .int .i64 y7.2.1, .func p2.fn p2.fs p2.cs] (.tup []) fun (x9 : Unit) =>
   again8 (y7.2.1, IntKind.wrap .i64 (y7.2.1 + (IntKind.wrap .i64 (2 * y5.1))), ())) <|
  L.join (Y := Unit) (fun k10 =>
   L.ite (decide ((IntKind.wrap .i64 (y7.1 + y5.1)) < p1)) (
    L.call Pr z0V [.slice p0.a p0.len p0.cap, .int .i64 y7.1, .int .i64 (IntKind.wrap .i64 (y7.1 + y5.1)), .int .i64 p1, .func p2.fn p2.fs p2.cs] (.tup []) fun (x12 : Unit) =>
    k10 (())) <|
   k10 (())) fun z11 =>
  again6 (IntKind.wrap .i64 (y5.1 * 2), ())) <|
 K (.tuple #[])
theorem z4Z (p0 : Sl) (p1 : Int) (p2 : FV) {K : Value → PT} {w : World} (h : z2B p0 p1 p2 K w) : CT Pr z2v [.slice p0.a p0.len p0.cap, .int .i64 p1, .func p2.fn p2.fs p2.cs] K w :=
 C_of (fn := Tryz.f256) (an := z50) (args := [.v (.slice p0.a p0.len p0.cap), .v (.int .i64 p1), .v (.func p2.fn p2.fs p2.cs)]) (by kernel_rfl) (by kernel_rfl) (by kernel_rfl) h
def z8a (p0 : Option Addr) (p1 : Int) (K : Value → PT) : PT :=
 L.nonnil p0 fun a1 =>
 L.load (.one (.map)) (a1.add 0) fun (x2 : Option Nat) =>
 L.semR Pr rB (Instr.lookup z3F (.map x2) (.int .i64 p1) false) fun (x3 : Bool) =>
 L.ite x3 (
  K (.int .i64 5)) <|
 L.draw <|
 L.nonnil p0 fun a4 =>
 L.load (.one (.map)) (a4.add 0) fun (x5 : Option Nat) =>
 L.semR Pr rI (Builtin.len_ #[z3F] z0j #[.map x5]) fun (x6 : Int) =>
 L.nonnil p0 fun a7 =>
 L.load eI6 (a7.add 1) fun (x8 : Int) =>
 L.ite (decide (x6 ≥ x8)) (
  K (.int .i64 8)) <|
 L.nonnil p0 fun a9 =>
 L.load (.one (.map)) (a9.add 0) fun (x10 : Option Nat) =>
 L.semU Pr (Instr.mapUpdate z3F (.map x10) (.int .i64 p1) (.bool true)) <|
 K (.int .i64 0)
theorem zcn (p0 : Option Addr) (p1 : Int) {K : Value → PT} {w : World} (h : z8a p0 p1 K w) : CT Pr z80 [.pointer p0, .int .i64 p1] K w :=
 C_of (fn := Tryz.f257) (an := .auto) (args := [.v (.pointer p0), .v (.int .i64 p1)]) (by kernel_rfl) (by kernel_rfl) (by kernel_rfl) h
def z7s : Ann := (.seq .auto (.seq (.seq .auto (.seq .auto .auto (some [(7, (.one (.int .i64)))])) none) .auto none) none)
def z4s (p0 : Sl) (p1 : FV) (K : Value → PT) : PT :=
 L.new [.slice p0.a p0.len p0.cap] z0X fun b1 =>
 L.range Pr none (.func p1.fn p1.fs p1.cs) [eI6] (fun l2 (y3 : Int × Unit) R4 =>
  L.begin Pr l2 <|
  L.load eL6 (⟨b1, 0, none⟩) fun (x7 : Sl) =>
  L.new [.int .i64 y3.1] z0j fun b8 =>
  L.sem Pr (.one (.one .slice)) (Builtin.append_ #[z0X, z0X] z0X #[.slice x7.a x7.len x7.cap, .slice (some ⟨b8, 0, none⟩) 1 1]) fun (s9 : Sl) =>
  L.store (⟨b1, 0, none⟩) [.slice s9.a s9.len s9.cap] <|
  L.endRound Pr l2 none R4) fun d5 j6 =>
 L.jump j6 (
  L.load eL6 (⟨b1, 0, none⟩) fun (x10 : Sl) =>
  L.unmark Pr (d5 ++ []) <|
  K (.slice x10.a x10.len x10.cap)) (
  L.unmark Pr (d5 ++ []) <|
  K (.slice none 0 0)) []
theorem z7n (p0 : Sl) (p1 : FV) {K : Value → PT} {w : World} (h : z4s p0 p1 K w) : CT Pr z2K [.slice p0.a p0.len p0.cap, .func p1.fn p1.fs p1.cs] K w :=
 C_of (fn := Tryz.f258) (an := z7s) (args := [.v (.slice p0.a p0.len p0.cap), .v (.func p1.fn p1.fs p1.cs)]) (by kernel_rfl) (by kernel_rfl) (by kernel_rfl) h
def z3f : Ann := (.seq .auto (.one [] (.seq .auto (.seq (.cond .auto .auto) .auto none) none)) none)
def z1C (p0 : FV) (c0 : Addr) (K : Value → PT) : PT :=
 L.load (.one (.map)) c0 fun (x1 : Option Nat) =>
 L.sem Pr (.one (.one .ptr)) (Instr.range z0B (.map x1)) fun (it2 : Option Addr) =>
 L.loop (Y := Unit) (()) fun y3 again4 =>
 L.next Pr [eI6, (.agg [.str, .ptr])] (Instr.next (.pointer it2) false T_) (
  K (.tuple #[])) fun (x5 : pt23) =>
 L.sem Pr (.tup [eI6, (.agg [.str, .ptr])]) (Instr.entry (.pointer it2)) fun (x6 : pt23) =>
 L.callV Pr (.func p0.fn p0.fs p0.cs) [.int .i64 x6.1] rB fun (x7 : Bool) =>
 L.ite (!x7) (
  K (.tuple #[])) <|
 again4 (())
theorem z3d (p0 : FV) (c0 : Addr) {K : Value → PT} {w : World} (h : z1C p0 c0 K w) : CT Pr z0i [.func p0.fn p0.fs p0.cs, .pointer (some c0)] K w :=
 C_of (fn := Tryz.f269) (an := z3f) (args := [.v (.func p0.fn p0.fs p0.cs), .v (.pointer (some c0))]) (by kernel_rfl) (by kernel_rfl) (by kernel_rfl) h
theorem z3b : Enters Pr z0i := z0p (by kernel_rfl)
def z3C : Ann := (.seq .auto (.one [(8, (.one (.int .i64)))] (.seq .auto (.seq (.seq .auto (.one [(9, (.one (.int .i64)))] (.seq (.seq .auto (.cond .auto .auto) none) .auto none)) none) .auto (some [])) none)) none)
def z1P (p0 : Sl) (p1 : Int) (p2 : Int) (p3 : FV) (K : Value → PT) : PT :=
 L.loop (Y := Int × Unit) (IntKind.wrap .i64 (p1 + 1), ()) fun y1 again2 =>
 L.ite (decide (y1.1 < p2)) (
  L.join (Y := Unit) (fun k3 =>
   L.loop (Y := Int × Unit) (y1.1, ()) fun y5 again6 =>
   L.draw <|
   L.ite (decide (y5.1 > p1)) (
    L.idx p0.a y5.1 p0.len 2 fun a7 =>
    L.load (.agg [.int .i64, .int .i64]) a7 fun (x8 : Int × Int × Unit) =>
    L.idx p0.a (IntKind.wrap .i64 (y5.1 - 1)) p0.len 2 fun a9 =>
    L.load (.agg [.int .i64, .int .i64]) a9 fun (x10 : Int × Int × Unit) =>
    L.callV Pr (.func p3.fn p3.fs p3.cs) [.agg #[.int .i64 x8.1, .int .i64 x8.2.1], .agg #[.int .i64 x10.1, .int .i64 x10.2.1]] rI fun (x11 : Int) =>
    L.ite (decide (x11 < 0)) (
     L.draw <|
     L.idx p0.a (IntKind.wrap .i64 (y5.1 - 1)) p0.len 2 fun a12 =>
     L.load (.agg [.int .i64, .int .i64]) a12 fun (x13 : Int × Int × Unit) =>
     L.idx p0.a y5.1 p0.len 2 fun a14 =>
     L.load (.agg [.int .i64, .int .i64]) a14 fun (x15 : Int × Int × Unit) =>
     L.idx p0.a y5.1 p0.len 2 fun a16 =>
     L.store a16 [.int .i64 x13.1, .int .i64 x13.2.1] <|
     L.idx p0.a (IntKind.wrap .i64 (y5.1 - 1)) p0.len 2 fun a17 =>
     L.store a17 [.int .i64 x15.1, .int .i64 x15.2.1] <|
     again6 (IntKind.wrap .i64 (y5.1 - 1), ())) <|
    k3 (())) <|
   k3 (())) fun z4 =>
  again2 (IntKind.wrap .i64 (y1.1 + 1), ())) <|
 K (.tuple #[])
theorem z3B (p0 : Sl) (p1 : Int) (p2 : Int) (p3 : FV) {K : Value → PT} {w : World} (h : z1P p0 p1 p2 p3 K w) : CT Pr z0L [.slice p0.a p0.len p0.cap, .int .i64 p1, .int .i64 p2, .func p3.fn p3.fs p3.cs] K w :=
 C_of (fn := Tryz.f284) (an := z3C) (args := [.v (.slice p0.a p0.len p0.cap), .v (.int .i64 p1), .v (.int .i64 p2), .v (.func p3.fn p3.fs p3.cs)]) (by kernel_rfl) (by kernel_rfl) (by kernel_rfl) h
end Go.Proofs.YtkebppklbobjcaaGreatDoor
