/- What is proved on the way to a statement of the seat, pressed (text AE). No conditions beyond those its theorems state. -/
import Derived.Test.YtkmalcoocklikaaGreatDoorZAD
set_option linter.all false
namespace Go.Proofs.YtkmalcoocklikaaGreatDoor
set_option maxRecDepth 100000
open Go.Dm
def z0K (p0 : Sl) (p1 : Int) (p2 : Int) (p3 : Int) (p4 : FV) (K : Value → PT) : PT :=
 L.ite ((IntKind.wrap .i64 (p2 - p1)) == 1) (
  L.loop (Y := Int × Int × Unit) (p2, p3, ()) fun y1 again2 =>
  L.ite (decide (y1.1 < y1.2.1)) (
   L.guard ((0 : Int) ≤ 1) <|
   L.draw <|
   L.idx p0.a (IntKind.wrap .i64 (Int.fdiv (IntKind.wrap .u64 (IntKind.wrap .i64 (y1.1 + y1.2.1))) (2 ^ (min (Int.toNat 1) 64)))) p0.len 2 fun a3 =>
   L.load (.agg [.int .i64, .int .i64]) a3 fun (x4 : Int × Int × Unit) =>
   L.idx p0.a p1 p0.len 2 fun a5 =>
   L.load (.agg [.int .i64, .int .i64]) a5 fun (x6 : Int × Int × Unit) =>
   L.callV Pr (.func p4.fn p4.fs p4.cs) [.agg #[.int .i64 x4.1, .int .i64 x4.2.1], .agg #[.int .i64 x6.1, .int .i64 x6.2.1]] rI fun (x7 : Int) =>
   L.ite (decide (x7 < 0)) (
    again2 (IntKind.wrap .i64 ((IntKind.wrap .i64 (Int.fdiv (IntKind.wrap .u64 (IntKind.wrap .i64 (y1.1 + y1.2.1))) (2 ^ (min (Int.toNat 1) 64)))) + 1), y1.2.1, ())) <|
   again2 (y1.1, IntKind.wrap .i64 (Int.fdiv (IntKind.wrap .u64 (IntKind.wrap .i64 (y1.1 + y1.2.1))) (2 ^ (min (Int.toNat 1) 64))), ())) <|
  L.loop (Y := Int × Unit) (p1, ()) fun y8 again9 =>
  L.ite (decide (y8.1 < (IntKind.wrap .i64 (y1.1 - 1)))) (
   L.draw <|
   L.idx p0.a (IntKind.wrap .i64 (y8.1 + 1)) p0.len 2 fun a10 =>
   L.load (.agg [.int .i64, .int .i64]) a10 fun (x11 : Int × Int × Unit) =>
   L.idx p0.a y8.1 p0.len 2 fun a12 =>
   L.load (.agg [.int .i64, .int .i64]) a12 fun (x13 : Int × Int × Unit) =>
   L.idx p0.a y8.1 p0.len 2 fun a14 =>
   L.store a14 [.int .i64 x11.1, .int .i64 x11.2.1] <|
   L.idx p0.a (IntKind.wrap .i64 (y8.1 + 1)) p0.len 2 fun a15 =>
   L.store a15 [.int .i64 x13.1, .int .i64 x13.2.1] <|
   again9 (IntKind.wrap .i64 (y8.1 + 1), ())) <|
  K (.tuple #[])) <|
 L.ite ((IntKind.wrap .i64 (p3 - p2)) == 1) (
  L.loop (Y := Int × Int × Unit) (p1, p2, ()) fun y16 again17 =>
  L.ite (decide (y16.1 < y16.2.1)) (
   L.guard ((0 : Int) ≤ 1) <|
   L.draw <|
   L.idx p0.a p2 p0.len 2 fun a18 =>
   L.load (.agg [.int .i64, .int .i64]) a18 fun (x19 : Int × Int × Unit) =>
   L.idx p0.a (IntKind.wrap .i64 (Int.fdiv (IntKind.wrap .u64 (IntKind.wrap .i64 (y16.1 + y16.2.1))) (2 ^ (min (Int.toNat 1) 64)))) p0.len 2 fun a20 =>
   L.load (.agg [.int .i64, .int .i64]) a20 fun (x21 : Int × Int × Unit) =>
   L.callV Pr (.func p4.fn p4.fs p4.cs) [.agg #[.int .i64 x19.1, .int .i64 x19.2.1], .agg #[.int .i64 x21.1, .int .i64 x21.2.1]] rI fun (x22 : Int) =>
   L.ite (!(decide (x22 < 0))) (
    again17 (IntKind.wrap .i64 ((IntKind.wrap .i64 (Int.fdiv (IntKind.wrap .u64 (IntKind.wrap .i64 (y16.1 + y16.2.1))) (2 ^ (min (Int.toNat 1) 64)))) + 1), y16.2.1, ())) <|
   again17 (y16.1, IntKind.wrap .i64 (Int.fdiv (IntKind.wrap .u64 (IntKind.wrap .i64 (y16.1 + y16.2.1))) (2 ^ (min (Int.toNat 1) 64))), ())) <|
  L.loop (Y := Int × Unit) (p2, ()) fun y23 again24 =>
  L.ite (decide (y23.1 > y16.1)) (
   L.draw <|
   L.idx p0.a (IntKind.wrap .i64 (y23.1 - 1)) p0.len 2 fun a25 =>
   L.load (.agg [.int .i64, .int .i64]) a25 fun (x26 : Int × Int × Unit) =>
   L.idx p0.a y23.1 p0.len 2 fun a27 =>
   L.load (.agg [.int .i64, .int .i64]) a27 fun (x28 : Int × Int × Unit) =>
   L.idx p0.a y23.1 p0.len 2 fun a29 =>
   L.store a29 [.int .i64 x26.1, .int .i64 x26.2.1] <|
   L.idx p0.a (IntKind.wrap .i64 (y23.1 - 1)) p0.len 2 fun a30 =>
   L.store a30 [.int .i64 x28.1, .int .i64 x28.2.1] <|
   again24 (IntKind.wrap .i64 (y23.1 - 1), ())) <|
  K (.tuple #[])) <|
 L.guard ((0 : Int) ≤ 1) <|
 L.join (Y := Int × Int × Unit) (fun k31 =>
  L.ite (decide (p2 > (IntKind.wrap .i64 (Int.fdiv (IntKind.wrap .u64 (IntKind.wrap .i64 (p1 + p3))) (2 ^ (min (Int.toNat 1) 64)))))) (
   k31 (IntKind.wrap .i64 ((IntKind.wrap .i64 ((IntKind.wrap .i64 (Int.fdiv (IntKind.wrap .u64 (IntKind.wrap .i64 (p1 + p3))) (2 ^ (min (Int.toNat 1) 64)))) + p2)) - p3), IntKind.wrap .i64 (Int.fdiv (IntKind.wrap .u64 (IntKind.wrap .i64 (p1 + p3))) (2 ^ (min (Int.toNat 1) 64))), ())) <|
  k31 (p1, p2, ())) fun z32 =>
 L.loop (Y := Int × Int × Unit) (z32.1, z32.2.1, ()) fun y33 again34 =>
 L.ite (decide (y33.1 < y33.2.1)) (
  L.guard ((0 : Int) ≤ 1) <|
  L.draw <|
  L.idx p0.a (IntKind.wrap .i64 ((IntKind.wrap .i64 ((IntKind.wrap .i64 ((IntKind.wrap .i64 (Int.fdiv (IntKind.wrap .u64 (IntKind.wrap .i64 (p1 + p3))) (2 ^ (min (Int.toNat 1) 64)))) + p2)) - 1)) - (IntKind.wrap .i64 (Int.fdiv (IntKind.wrap .u64 (IntKind.wrap .i64 (y33.1 + y33.2.1))) (2 ^ (min (Int.toNat 1) 64)))))) p0.len 2 fun a35 =>
  L.load (.agg [.int .i64, .int .i64]) a35 fun (x36 : Int × Int × Unit) =>
  L.idx p0.a (IntKind.wrap .i64 (Int.fdiv (IntKind.wrap .u64 (IntKind.wrap .i64 (y33.1 + y33.2.1))) (2 ^ (min (Int.toNat 1) 64)))) p0.len 2 fun a37 =>
  L.load (.agg [.int .i64, .int .i64]) a37 fun (x38 : Int × Int × Unit) =>
  L.callV Pr (.func p4.fn p4.fs p4.cs) [.agg #[.int .i64 x36.1, .int .i64 x36.2.1], .agg #[.int .i64 x38.1, .int .i64 x38.2.1]] rI fun (x39 : Int) =>
  L.ite (!(decide (x39 < 0))) (
   again34 (IntKind.wrap .i64 ((IntKind.wrap .i64 (Int.fdiv (IntKind.wrap .u64 (IntKind.wrap .i64 (y33.1 + y33.2.1))) (2 ^ (min (Int.toNat 1) 64)))) + 1), y33.2.1, ())) <|
  again34 (y33.1, IntKind.wrap .i64 (Int.fdiv (IntKind.wrap .u64 (IntKind.wrap .i64 (y33.1 + y33.2.1))) (2 ^ (min (Int.toNat 1) 64))), ())) <|
 L.join (Y := Unit) (fun k40 =>
  L.ite (decide (y33.1 < p2)) (
   L.ite (decide (p2 < (IntKind.wrap .i64 ((IntKind.wrap .i64 ((IntKind.wrap .i64 (Int.fdiv (IntKind.wrap .u64 (IntKind.wrap .i64 (p1 + p3))) (2 ^ (min (Int.toNat 1) 64)))) + p2)) - y33.1)))) (
    L.call Pr z1e [.slice p0.a p0.len p0.cap, .int .i64 y33.1, .int .i64 p2, .int .i64 (IntKind.wrap .i64 ((IntKind.wrap .i64 ((IntKind.wrap .i64 (Int.fdiv (IntKind.wrap .u64 (IntKind.wrap .i64 (p1 + p3))) (2 ^ (min (Int.toNat 1) 64)))) + p2)) - y33.1)), .func p4.fn p4.fs p4.cs] (.tup []) fun (x42 : Unit) =>
    k40 (())) <|
   k40 (())) <|
  k40 (())) fun z41 =>
 L.join (Y := Unit) (fun k43 =>
  L.ite (decide (p1 < y33.1)) (
   L.ite (decide (y33.1 < (IntKind.wrap .i64 (Int.fdiv (IntKind.wrap .u64 (IntKind.wrap .i64 (p1 + p3))) (2 ^ (min (Int.toNat 1) 64)))))) (
    L.call Pr z09 [.slice p0.a p0.len p0.cap, .int .i64 p1, .int .i64 y33.1, .int .i64 (IntKind.wrap .i64 (Int.fdiv (IntKind.wrap .u64 (IntKind.wrap .i64 (p1 + p3))) (2 ^ (min (Int.toNat 1) 64)))), .func p4.fn p4.fs p4.cs] (.tup []) fun (x45 : Unit) =>
    k43 (())) <|
   k43 (())) <|
  k43 (())) fun z44 =>
 L.ite (decide ((IntKind.wrap .i64 (Int.fdiv (IntKind.wrap .u64 (IntKind.wrap .i64 (p1 + p3))) (2 ^ (min (Int.toNat 1) 64)))) < (IntKind.wrap .i64 ((IntKind.wrap .i64 ((IntKind.wrap .i64 (Int.fdiv (IntKind.wrap .u64 (IntKind.wrap .i64 (p1 + p3))) (2 ^ (min (Int.toNat 1) 64)))) + p2)) - y33.1)))) (
  L.ite (decide ((IntKind.wrap .i64 ((IntKind.wrap .i64 ((IntKind.wrap .i64 (Int.fdiv (IntKind.wrap .u64 (IntKind.wrap .i64 (p1 + p3))) (2 ^ (min (Int.toNat 1) 64)))) + p2)) - y33.1)) < p3)) (
   L.call Pr z09 [.slice p0.a p0.len p0.cap, .int .i64 (IntKind.wrap .i64 (Int.fdiv (IntKind.wrap .u64 (IntKind.wrap .i64 (p1 + p3))) (2 ^ (min (Int.toNat 1) 64)))), .int .i64 (IntKind.wrap .i64 ((IntKind.wrap .i64 ((IntKind.wrap .i64 (Int.fdiv (IntKind.wrap .u64 (IntKind.wrap .i64 (p1 + p3))) (2 ^ (min (Int.toNat 1) 64)))) + p2)) - y33.1)), .int .i64 p3, .func p4.fn p4.fs p4.cs] (.tup []) fun (x46 : Unit) =>
   K (.tuple #[])) <|
  K (.tuple #[])) <|
 K (.tuple #[])
theorem z1a (p0 : Sl) (p1 : Int) (p2 : Int) (p3 : Int) (p4 : FV) {K : Value → PT} {w : World} (h : z0K p0 p1 p2 p3 p4 K w) : CT Pr z09 [.slice p0.a p0.len p0.cap, .int .i64 p1, .int .i64 p2, .int .i64 p3, .func p4.fn p4.fs p4.cs] K w :=
 C_of (fn := Tryz.f313) (an := z3K) (args := [.v (.slice p0.a p0.len p0.cap), .v (.int .i64 p1), .v (.int .i64 p2), .v (.int .i64 p3), .v (.func p4.fn p4.fs p4.cs)]) (by kernel_rfl) (by kernel_rfl) (by kernel_rfl) h
def z42 : Ann := (.seq .auto (.seq .auto (.seq (.one [(10, (.one (.int .i64))), (11, (.one (.int .i64)))] .auto) .auto none) none) none)
def z29 (p0 : Sl) (p1 : Int) (p2 : Int) (p3 : Int) (p4 : FV) (K : Value → PT) : PT :=
 L.loop (Y := Int × Int × Unit) (IntKind.wrap .i64 (p2 - p1), IntKind.wrap .i64 (p3 - p2), ()) fun y1 again2 =>
 L.ite (y1.1 != y1.2.1) (
  L.ite (decide (y1.1 > y1.2.1)) (
   L.call Pr z0y [.slice p0.a p0.len p0.cap, .int .i64 (IntKind.wrap .i64 (p2 - y1.1)), .int .i64 p2, .int .i64 y1.2.1, .func p4.fn p4.fs p4.cs] (.tup []) fun (x3 : Unit) =>
   again2 (IntKind.wrap .i64 (y1.1 - y1.2.1), y1.2.1, ())) <|
  L.call Pr z0y [.slice p0.a p0.len p0.cap, .int .i64 (IntKind.wrap .i64 (p2 - y1.1)), .int .i64 (IntKind.wrap .i64 ((IntKind.wrap .i64 (p2 + y1.2.1)) - y1.1)), .int .i64 y1.1, .func p4.fn p4.fs p4.cs] (.tup []) fun (x4 : Unit) =>
  again2 (y1.1, IntKind.wrap .i64 (y1.2.1 - y1.1), ())) <|
 L.call Pr z0y [.slice p0.a p0.len p0.cap, .int .i64 (IntKind.wrap .i64 (p2 - y1.1)), .int .i64 p2, .int .i64 y1.1, .func p4.fn p4.fs p4.cs] (.tup []) fun (x5 : Unit) =>
 K (.tuple #[])
theorem z3Z (p0 : Sl) (p1 : Int) (p2 : Int) (p3 : Int) (p4 : FV) {K : Value → PT} {w : World} (h : z29 p0 p1 p2 p3 p4 K w) : CT Pr z1e [.slice p0.a p0.len p0.cap, .int .i64 p1, .int .i64 p2, .int .i64 p3, .func p4.fn p4.fs p4.cs] K w :=
 C_of (fn := Tryz.f320) (an := z42) (args := [.v (.slice p0.a p0.len p0.cap), .v (.int .i64 p1), .v (.int .i64 p2), .v (.int .i64 p3), .v (.func p4.fn p4.fs p4.cs)]) (by kernel_rfl) (by kernel_rfl) (by kernel_rfl) h
def z3y : Ann := (.seq .auto (.one [(10, (.one (.int .i64)))] .auto) none)
def z1J (p0 : Sl) (p1 : Int) (p2 : Int) (p3 : Int) (p4 : FV) (K : Value → PT) : PT :=
 L.loop (Y := Int × Unit) (0, ()) fun y1 again2 =>
 L.ite (decide (y1.1 < p3)) (
  L.draw <|
  L.idx p0.a (IntKind.wrap .i64 (p2 + y1.1)) p0.len 2 fun a3 =>
  L.load (.agg [.int .i64, .int .i64]) a3 fun (x4 : Int × Int × Unit) =>
  L.idx p0.a (IntKind.wrap .i64 (p1 + y1.1)) p0.len 2 fun a5 =>
  L.load (.agg [.int .i64, .int .i64]) a5 fun (x6 : Int × Int × Unit) =>
  L.idx p0.a (IntKind.wrap .i64 (p1 + y1.1)) p0.len 2 fun a7 =>
  L.store a7 [.int .i64 x4.1, .int .i64 x4.2.1] <|
  L.idx p0.a (IntKind.wrap .i64 (p2 + y1.1)) p0.len 2 fun a8 =>
  L.store a8 [.int .i64 x6.1, .int .i64 x6.2.1] <|
  again2 (IntKind.wrap .i64 (y1.1 + 1), ())) <|
 K (.tuple #[])
theorem z3x (p0 : Sl) (p1 : Int) (p2 : Int) (p3 : Int) (p4 : FV) {K : Value → PT} {w : World} (h : z1J p0 p1 p2 p3 p4 K w) : CT Pr z0y [.slice p0.a p0.len p0.cap, .int .i64 p1, .int .i64 p2, .int .i64 p3, .func p4.fn p4.fs p4.cs] K w :=
 C_of (fn := Tryz.f322) (an := z3y) (args := [.v (.slice p0.a p0.len p0.cap), .v (.int .i64 p1), .v (.int .i64 p2), .v (.int .i64 p3), .v (.func p4.fn p4.fs p4.cs)]) (by kernel_rfl) (by kernel_rfl) (by kernel_rfl) h
end Go.Proofs.YtkmalcoocklikaaGreatDoor
