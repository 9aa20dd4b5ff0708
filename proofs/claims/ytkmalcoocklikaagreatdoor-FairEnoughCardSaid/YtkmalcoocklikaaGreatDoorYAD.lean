/- What is proved on the way to a statement of the seat, pressed (text AD). No conditions beyond those its theorems state. -/
import Derived.Test.YtkmalcoocklikaaGreatDoorYAC
import Derived.Test.YtkmalcoocklikaaGreatDoorProg
set_option linter.all false
namespace Go.Proofs.YtkmalcoocklikaaGreatDoor
set_option maxRecDepth 100000
open Go.Dm
abbrev ht0 := HT [.str, .int .i64, .int .i64, .int .i64, .int .i64, .int .i64]
abbrev ht1 := HT [.int .i64, .str, .str, .int .i64, .int .i64, .str, .int .i64, .int .i64, .int .i64, .int .i64, .int .i64, .str, .str, .slice, .int .i64]
abbrev ht2 := HT [.str, .str, .slice, .int .i64]
abbrev ht3 := HT [.int .i64, .int .i64, .int .i64, .str]
abbrev qc0 (p : ht0) : List Value := [.string p.1, .int .i64 p.2.1, .int .i64 p.2.2.1, .int .i64 p.2.2.2.1, .int .i64 p.2.2.2.2.1, .int .i64 p.2.2.2.2.2.1]
abbrev qc1 (p : ht1) : List Value := [.int .i64 p.1, .string p.2.1, .string p.2.2.1, .int .i64 p.2.2.2.1, .int .i64 p.2.2.2.2.1, .string p.2.2.2.2.2.1, .int .i64 p.2.2.2.2.2.2.1, .int .i64 p.2.2.2.2.2.2.2.1, .int .i64 p.2.2.2.2.2.2.2.2.1, .int .i64 p.2.2.2.2.2.2.2.2.2.1, .int .i64 p.2.2.2.2.2.2.2.2.2.2.1, .string p.2.2.2.2.2.2.2.2.2.2.2.1, .string p.2.2.2.2.2.2.2.2.2.2.2.2.1, .slice p.2.2.2.2.2.2.2.2.2.2.2.2.2.1.a p.2.2.2.2.2.2.2.2.2.2.2.2.2.1.len p.2.2.2.2.2.2.2.2.2.2.2.2.2.1.cap, .int .i64 p.2.2.2.2.2.2.2.2.2.2.2.2.2.2.1]
abbrev qc2 (p : ht2) : List Value := [.string p.1, .string p.2.1, .slice p.2.2.1.a p.2.2.1.len p.2.2.1.cap, .int .i64 p.2.2.2.1]
abbrev qc3 (p : ht3) : List Value := [.int .i64 p.1, .int .i64 p.2.1, .int .i64 p.2.2.1, .string p.2.2.2.1]
abbrev CT (P : Program) (f : FuncId) (a : List Value) (K : Value → PT) (w : World) : Prop := Calls P f a.toArray w fun e w2 => ∃ v, e = .returned v ∧ K v w2
abbrev pt0 := ByteArray × Int × Int × Int × Int × Int × Unit
abbrev pt1 := Int × ByteArray × ByteArray × Int × Int × ByteArray × Int × Int × Int × Int × Int × ByteArray × ByteArray × Sl × Int × Unit
abbrev pt2 := (Bool × Bool × Bool × Bool × Bool × Bool × Unit) × Bool × Unit
abbrev pt3 := ByteArray × ByteArray × Sl × Int × Unit
abbrev pt7 := Int × (ByteArray × Int × Unit) × Unit
abbrev pt8 := Bool × Bool × Bool × Bool × Bool × Bool × Unit
abbrev pt9 := ByteArray × ByteArray × Int × Unit
abbrev pt10 := Int × Int × Int × ByteArray × Unit
abbrev pt18 := Int × Option (TypeId × Value) × Unit
abbrev pt23 := ByteArray × (ByteArray × Int × ByteArray × Int × Int × Int × Int × Int × Unit) × Unit
abbrev lf0 : List Lf := [.str, .int .i64, .int .i64, .int .i64, .int .i64, .int .i64]
abbrev lf1 : List Lf := [.int .i64, .str, .str, .int .i64, .int .i64, .str, .int .i64, .int .i64, .int .i64, .int .i64, .int .i64, .str, .str, .slice, .int .i64]
abbrev lf2 : List Lf := [.ptr, .ptr, .ptr, .ptr, .ptr, .map, .int .i64]
abbrev lf3 : List Lf := [.int .i64, .ptr, .ptr, .ptr, .ptr, .ptr, .slice]
abbrev lf4 : List Lf := [.bool, .bool, .bool, .bool, .bool, .bool]
abbrev lf5 : List Lf := [.str, .int .i64, .str, .int .i64, .int .i64, .int .i64, .int .i64, .int .i64]
abbrev lf6 : List Lf := [.ptr, .map, .map, .func, .int .i64, .int .i64]
abbrev lf7 : List Lf := [.ptr, .int .i64, .int .i64, .slice, .slice, .slice]
abbrev lf8 : List Lf := [.int .i64, .int .i64, .int .i64, .int .i64, .int .i64, .int .i64, .int .i64, .int .i64, .int .i64, .int .i64, .int .i64, .int .i64, .int .i64, .int .i64, .int .i64, .int .i64, .int .i64, .int .i64, .int .i64, .int .i64, .int .i64, .int .i64, .int .i64, .int .i64, .int .i64, .int .i64, .int .i64, .int .i64, .int .i64, .int .i64, .int .i64, .int .i64, .int .i64, .int .i64, .int .i64, .int .i64, .int .i64, .int .i64, .int .i64, .int .i64, .int .i64, .int .i64, .int .i64, .int .i64, .int .i64, .int .i64, .int .i64, .int .i64, .int .i64, .int .i64, .int .i64, .int .i64, .int .i64, .int .i64, .int .i64, .int .i64, .int .i64, .int .i64, .int .i64, .int .i64]
abbrev lf9 : List Lf := [.int .i64, .int .i64, .int .i64, .int .i64, .int .i64, .int .i64, .int .i64, .int .i64, .int .i64, .int .i64, .int .i64, .int .i64, .int .i64, .int .i64, .int .i64, .int .i64, .int .i64, .int .i64, .int .i64, .int .i64, .int .i64, .int .i64, .int .i64, .int .i64, .int .i64, .int .i64, .int .i64, .int .i64, .int .i64, .int .i64, .int .i64, .int .i64, .int .i64, .int .i64, .int .i64, .int .i64, .int .i64, .int .i64, .int .i64, .int .i64, .int .i64, .int .i64, .int .i64, .int .i64, .int .i64, .int .i64, .int .i64, .int .i64, .int .i64, .int .i64, .int .i64, .int .i64, .int .i64, .int .i64, .int .i64, .int .i64, .int .i64, .int .i64, .int .i64, .int .i64, .int .i64]
abbrev lf10 : List Lf := [.int .i64, .int .i64, .int .i64, .int .i64, .int .i64, .int .i64, .int .i64, .int .i64, .int .i64, .int .i64, .int .i64, .int .i64, .int .i64, .int .i64, .int .i64, .int .i64, .int .i64, .int .i64, .int .i64, .int .i64, .int .i64, .int .i64, .int .i64, .int .i64, .int .i64, .int .i64, .int .i64, .int .i64, .int .i64, .int .i64, .int .i64, .int .i64, .int .i64, .int .i64, .int .i64, .int .i64, .int .i64, .int .i64, .int .i64, .int .i64, .int .i64, .int .i64, .int .i64, .int .i64, .int .i64, .int .i64, .int .i64, .int .i64, .int .i64, .int .i64, .int .i64, .int .i64, .int .i64, .int .i64, .int .i64, .int .i64, .int .i64, .int .i64, .int .i64, .int .i64, .int .i64, .int .i64]
abbrev lf11 : List Lf := [.str, .int .i64, .int .i64, .int .i64, .int .i64, .int .i64, .int .i64, .int .i64, .bool]
abbrev lf12 : List Lf := [.str, .str, .slice, .int .i64, .int .i64, .int .i64, .bool]
abbrev lf13 : List Lf := [.slice, .slice, .int .i64, .int .i64, .slice, .slice]
abbrev lf14 : List Lf := [.int .u8, .int .u8, .int .u8, .int .u8, .int .u8, .int .u8, .int .u8, .int .u8, .int .u8, .int .u8, .int .u8, .int .u8, .int .u8, .int .u8, .int .u8, .int .u8, .int .u8, .int .u8, .int .u8, .int .u8, .int .u8, .int .u8, .int .u8, .int .u8]
abbrev lf15 : List Lf := [.int .u64, .int .u64, .int .u64, .int .u64, .int .u64, .int .u64, .int .u64, .int .u64, .int .u64, .int .u64, .int .u64, .int .u64, .int .u64, .int .u64, .int .u64, .int .u64, .int .u64, .int .u64, .int .u64, .int .u64]
abbrev lf16 : List Lf := [.int .u8, .int .u8, .int .u8, .int .u8, .int .u8, .int .u8, .int .u8, .int .u8, .int .u8, .int .u8, .int .u8, .int .u8, .int .u8, .int .u8, .int .u8, .int .u8, .int .u8, .int .u8, .int .u8, .int .u8, .int .u8, .int .u8, .int .u8, .int .u8, .int .u8, .int .u8, .int .u8, .int .u8, .int .u8, .int .u8, .int .u8, .int .u8, .int .u8, .int .u8, .int .u8, .int .u8, .int .u8, .int .u8, .int .u8, .int .u8, .int .u8, .int .u8, .int .u8, .int .u8, .int .u8, .int .u8, .int .u8, .int .u8, .int .u8, .int .u8, .int .u8, .int .u8, .int .u8, .int .u8, .int .u8, .int .u8, .int .u8, .int .u8, .int .u8, .int .u8, .int .u8, .int .u8, .int .u8, .int .u8, .int .u8]
abbrev lf17 : List Lf := [.int .u8, .int .u8, .int .u8, .int .u8, .int .u8, .int .u8, .int .u8, .int .u8, .int .u8, .int .u8, .int .u8, .int .u8, .int .u8, .int .u8, .int .u8, .int .u8, .int .u8, .int .u8, .int .u8, .int .u8, .int .u8, .int .u8, .int .u8, .int .u8, .int .u8, .int .u8, .int .u8, .int .u8, .int .u8, .int .u8, .int .u8, .int .u8]
abbrev lf18 : List Lf := [.int .u8, .int .u8, .int .u8, .int .u8, .int .u8, .int .u8, .int .u8, .int .u8, .int .u8, .int .u8, .int .u8, .int .u8, .int .u8, .int .u8, .int .u8, .int .u8, .int .u8, .int .u8, .int .u8, .int .u8, .int .u8, .int .u8, .int .u8, .int .u8, .int .u8, .int .u8, .int .u8, .int .u8, .int .u8, .int .u8, .int .u8, .int .u8, .int .u8, .int .u8, .int .u8, .int .u8, .int .u8, .int .u8, .int .u8, .int .u8, .int .u8, .int .u8, .int .u8, .int .u8, .int .u8, .int .u8, .int .u8, .int .u8, .int .u8, .int .u8, .int .u8, .int .u8, .int .u8, .int .u8, .int .u8, .int .u8, .int .u8, .int .u8, .int .u8, .int .u8, .int .u8, .int .u8, .int .u8, .int .u8]
abbrev lf19 : List Lf := [.int .u64, .int .u64, .int .u32, .int .u8, .int .u8, .int .u8, .int .u8, .func, .ptr, .int .i32, .int .i32]
abbrev lf20 : List Lf := [.int .i64, .str, .str, .int .i64, .int .i64, .int .i64, .int .i64, .int .i64, .str, .str, .slice, .int .i64, .int .i64, .int .i64, .bool]
abbrev lf21 : List Lf := [.str, .slice, .slice, .int .i64, .int .i64, .slice, .slice]
abbrev qa0 (p : pt0) : Value := .agg #[.string p.1, .int .i64 p.2.1, .int .i64 p.2.2.1, .int .i64 p.2.2.2.1, .int .i64 p.2.2.2.2.1, .int .i64 p.2.2.2.2.2.1]
abbrev qa1 (p : pt1) : Value := .agg #[.int .i64 p.1, .string p.2.1, .string p.2.2.1, .int .i64 p.2.2.2.1, .int .i64 p.2.2.2.2.1, .string p.2.2.2.2.2.1, .int .i64 p.2.2.2.2.2.2.1, .int .i64 p.2.2.2.2.2.2.2.1, .int .i64 p.2.2.2.2.2.2.2.2.1, .int .i64 p.2.2.2.2.2.2.2.2.2.1, .int .i64 p.2.2.2.2.2.2.2.2.2.2.1, .string p.2.2.2.2.2.2.2.2.2.2.2.1, .string p.2.2.2.2.2.2.2.2.2.2.2.2.1, .slice p.2.2.2.2.2.2.2.2.2.2.2.2.2.1.a p.2.2.2.2.2.2.2.2.2.2.2.2.2.1.len p.2.2.2.2.2.2.2.2.2.2.2.2.2.1.cap, .int .i64 p.2.2.2.2.2.2.2.2.2.2.2.2.2.2.1]
abbrev qa2 (p : pt8) : Value := .agg #[.bool p.1, .bool p.2.1, .bool p.2.2.1, .bool p.2.2.2.1, .bool p.2.2.2.2.1, .bool p.2.2.2.2.2.1]
abbrev eI6 : E1 := .one (.int .i64)
abbrev eS6 : E1 := .one .str
abbrev eL6 : E1 := .one .slice
abbrev eB6 : E1 := .one .bool
abbrev eP6 : E1 := .one .ptr
abbrev rI : RT := .one eI6
abbrev rS : RT := .one eS6
abbrev rL : RT := .one eL6
abbrev rB : RT := .one eB6
abbrev rP : RT := .one eP6
noncomputable abbrev Pr : Program := Tryz.prog
abbrev z2a : Nat := 5
abbrev z13 : Nat := 11
abbrev z48 : Nat := 18
abbrev z0M : Nat := 23
abbrev z23 : Nat := 24
abbrev z1a : Nat := 25
abbrev z2O : Nat := 26
abbrev z19 : Nat := 27
abbrev z3K : Nat := 30
abbrev z0p : Nat := 31
abbrev z1N : Nat := 32
abbrev z1q : Nat := 33
abbrev z1F : Nat := 34
abbrev z1T : Nat := 35
abbrev z1r : Nat := 36
abbrev z1U : Nat := 37
abbrev z2e : Nat := 38
abbrev z0E : Nat := 39
abbrev z0D : Nat := 40
abbrev z1D : Nat := 41
abbrev z1S : Nat := 42
abbrev z1E : Nat := 43
abbrev z1R : Nat := 44
abbrev z2g : Nat := 45
abbrev z0V : Nat := 49
abbrev z4U : Nat := 50
abbrev z4S : Nat := 51
abbrev z4R : Nat := 52
abbrev z5K : Nat := 53
abbrev z5M : Nat := 54
abbrev z2E : Nat := 59
abbrev z4a : Nat := 60
abbrev z0q : Nat := 61
abbrev z3J : Nat := 62
abbrev z22 : Nat := 63
abbrev z1g : Nat := 64
abbrev z1h : Nat := 65
abbrev z4b : Nat := 66
abbrev z3r : Nat := 67
abbrev z2P : Nat := 68
abbrev z1f : Nat := 69
abbrev z0f : Nat := 70
abbrev z08 : Nat := 71
abbrev z09 : Nat := 72
abbrev z1X : Nat := 73
abbrev z3q : Nat := 74
abbrev z6z : Nat := 75
abbrev z7p : Nat := 76
abbrev z2D : Nat := 81
abbrev z3G : Nat := 85
abbrev z0h : Nat := 86
abbrev z2F : Nat := 95
abbrev z2t : Nat := 96
abbrev z2G : Nat := 97
abbrev z2z : Nat := 113
abbrev z32 : Nat := 114
abbrev z0z : Nat := 115
abbrev z1e : Nat := 120
abbrev z2M : Nat := 121
abbrev z1s : Nat := 122
abbrev z1n : Nat := 123
abbrev z62 : Nat := 124
abbrev z0F : Nat := 126
abbrev z5i : Nat := 127
abbrev z1M : Nat := 128
abbrev z1H : Nat := 129
abbrev z2N : Nat := 130
abbrev z0o : Nat := 131
abbrev z3I : Nat := 132
abbrev z5J : Nat := 133
abbrev z5L : Nat := 149
abbrev z34 : Nat := 150
abbrev z30 : Nat := 152
abbrev z4J : Nat := 155
abbrev z0B : Nat := 159
abbrev z1P : Nat := 162
abbrev z2C : Nat := 163
abbrev z1V : Nat := 164
abbrev z4T : Nat := 166
abbrev z1d : Nat := 186
abbrev z0H : Nat := 192
abbrev z0m : Nat := 193
abbrev z39 : Nat := 194
abbrev z38 : Nat := 195
abbrev z36 : Nat := 196
abbrev z35 : Nat := 198
abbrev z1I : Nat := 200
abbrev z33 : Nat := 201
abbrev z4K : Nat := 202
abbrev z49 : Nat := 203
abbrev z2w : Nat := 204
abbrev z0l : Nat := 205
abbrev z29 : Nat := 206
abbrev z1m : Nat := 216
abbrev z3H : Nat := 217
abbrev z0r : Nat := 221
abbrev z0g : Nat := 222
abbrev z2Z : Nat := 223
abbrev z0R : Nat := 247
abbrev z2f : Nat := 250
abbrev z1G : Nat := 251
abbrev z02 : Nat := 252
abbrev z0K : Nat := 257
abbrev z03 : Nat := 268
abbrev z0G : Nat := 283
abbrev T_ : Nat := 0
abbrev z0v : Nat := 3
abbrev zd2 : Nat := 4
abbrev z04 : Nat := 9
abbrev z4Z : Nat := 20
abbrev z0A : Nat := 23
abbrev z1k : Nat := 24
abbrev z0e : Nat := 27
abbrev z06 : Nat := 33
abbrev z0N : Nat := 34
abbrev z3c : Nat := 37
abbrev z1K : Nat := 39
abbrev z0k : Nat := 69
abbrev z00 : Nat := 74
abbrev z15 : Nat := 79
abbrev z0u : Nat := 81
abbrev z4h : Nat := 83
abbrev z1O : Nat := 86
abbrev z6P : Nat := 92
abbrev z6S : Nat := 122
abbrev z0b : Nat := 143
abbrev z0y : Nat := 147
abbrev z7c : Nat := 175
abbrev z0Z : Nat := 183
abbrev z0i : Nat := 184
abbrev z6R : Nat := 189
abbrev z0t : Nat := 191
abbrev z2Q : Nat := 193
abbrev z4Y : Nat := 202
abbrev z8d : Nat := 203
abbrev z5q : Nat := 205
abbrev z5o : Nat := 213
abbrev z0w : Nat := 215
abbrev z5n : Nat := 217
abbrev z64 : Nat := 219
abbrev z4i : Nat := 220
abbrev z5p : Nat := 222
abbrev z6Q : Nat := 238
abbrev z2R : Nat := 285
abbrev z3b : Nat := 302
abbrev z9D : Nat := 307
abbrev z0J : Nat := 334
abbrev z6O : Nat := 338
abbrev zbL : Nat := 347
abbrev z25 : Nat := 348
abbrev z2i : Nat := 350
abbrev z2c : Nat := 351
abbrev z1t : Nat := 353
abbrev z1Y : Nat := 358
abbrev z0c : Nat := 360
abbrev z0a : Nat := 369
abbrev z1b : Nat := 372
abbrev z1o : Nat := 399
def s_ : ByteArray := ⟨#[]⟩
def zb8 : ByteArray := ⟨#[119, 101, 98]⟩
def s_tick_1 : ByteArray := ⟨#[116, 105, 99, 107, 32, 49]⟩
def zex : ByteArray := ⟨#[98, 97, 100]⟩
def s__ : ByteArray := ⟨#[45]⟩
def z5c : ByteArray := ⟨#[32]⟩
def zbb : ByteArray := ⟨#[116, 105, 99, 107]⟩
def s_ok : ByteArray := ⟨#[111, 107]⟩
def zcR : ByteArray := ⟨#[110, 97, 109, 101]⟩
def zdW : ByteArray := ⟨#[97, 114, 103]⟩
def zcT : ByteArray := ⟨#[108, 111, 110, 103]⟩
def zdU : ByteArray := ⟨#[115, 117, 109]⟩
def zba : ByteArray := ⟨#[116, 119, 105, 99, 101]⟩
def zcQ : ByteArray := ⟨#[110, 111, 110, 101]⟩
def z7M : ByteArray := ⟨#[101, 114, 114, 111, 114]⟩
def zbd : ByteArray := ⟨#[115, 116, 97, 108, 101]⟩
def zcV : ByteArray := ⟨#[102, 117, 108, 108]⟩
def zbc : ByteArray := ⟨#[115, 116, 97, 116, 101]⟩
def zdV : ByteArray := ⟨#[99, 117, 116]⟩
def zcS : ByteArray := ⟨#[109, 111, 114, 101]⟩
def zcU : ByteArray := ⟨#[107, 105, 110, 100]⟩
def s_refused : ByteArray := ⟨#[114, 101, 102, 117, 115, 101, 100]⟩
def z45 : ByteArray := ⟨#[116, 105, 109, 101, 111, 117, 116]⟩
def zc6 : ByteArray := ⟨#[58]⟩
def zc5 : ByteArray := ⟨#[61]⟩
def zcP : ByteArray := ⟨#[115, 101, 110, 116]⟩
def zb9 : ByteArray := ⟨#[119, 97, 105, 116, 115]⟩
def zcW : ByteArray := ⟨#[100, 111, 110, 101]⟩
def tq0 : TI := ⟨.func, 1, some (.one (.func)), some [.nilFunc]⟩
def tq1 : TI := ⟨.int .i64, 1, some (.one (.int .i64)), some [.int .i64 0]⟩
def tq2 : TI := ⟨.int .u8, 1, some (.one (.int .u8)), some [.int .u8 0]⟩
def tq3 : TI := ⟨.struct [(2, 0), (3, 1), (4, 2), (6, 3)], 4, some (.agg [.int .i64, .int .i64, .bool, .int .u8]), some [.int .i64 0, .int .i64 0, .bool false, .int .u8 0]⟩
def tq4 : TI := ⟨.str, 1, some (.one (.str)), some [.string s_]⟩
def tq5 : TI := ⟨.int .u64, 1, some (.one (.int .u64)), some [.int .u64 0]⟩
def tq6 : TI := ⟨.struct [(9, 0), (12, 1)], 2, some (.agg [.str, .int .u64]), some [.string s_, .int .u64 0]⟩
def tq7 : TI := ⟨.ptr, 1, some (.one (.ptr)), some [.pointer none]⟩
def tq8 : TI := ⟨.struct [(17, 0)], 1, some (.agg [.ptr]), some [.pointer none]⟩
def tq9 : TI := ⟨.iface, 1, some (.one (.iface)), some [.nilIface]⟩
def tq10 : TI := ⟨.int .i32, 1, some (.one (.int .i32)), some [.int .i32 0]⟩
def tq11 : TI := ⟨.struct [(9, 0), (3, 1), (3, 2), (3, 3), (3, 4), (3, 5)], 6, some (.agg lf0), some [.string s_, .int .i64 0, .int .i64 0, .int .i64 0, .int .i64 0, .int .i64 0]⟩
def tq12 : TI := ⟨.struct [(3, 0), (3, 1)], 2, some (.agg [.int .i64, .int .i64]), some [.int .i64 0, .int .i64 0]⟩
def tq13 : TI := ⟨.struct [(9, 0), (9, 1), (35, 2), (3, 3)], 4, some (.agg [.str, .str, .slice, .int .i64]), some [.string s_, .string s_, .slice none 0 0, .int .i64 0]⟩
def tq14 : TI := ⟨.struct [(3, 0), (9, 1), (9, 2), (3, 3), (3, 4), (23, 5), (37, 11)], 15, some (.agg lf1), some [.int .i64 0, .string s_, .string s_, .int .i64 0, .int .i64 0, .string s_, .int .i64 0, .int .i64 0, .int .i64 0, .int .i64 0, .int .i64 0, .string s_, .string s_, .slice none 0 0, .int .i64 0]⟩
def tq15 : TI := ⟨.struct [(3, 0), (3, 1), (3, 2)], 3, some (.agg [.int .i64, .int .i64, .int .i64]), some [.int .i64 0, .int .i64 0, .int .i64 0]⟩
def tq16 : TI := ⟨.struct [(9, 0), (9, 1), (3, 2)], 3, some (.agg [.str, .str, .int .i64]), some [.string s_, .string s_, .int .i64 0]⟩
def tq17 : TI := ⟨.map 9 86, 1, some (.one (.map)), some [.map none]⟩
def tq18 : TI := ⟨.struct [(75, 0), (76, 1), (77, 2), (78, 3), (79, 4), (81, 5), (3, 6)], 7, some (.agg lf2), some [.pointer none, .pointer none, .pointer none, .pointer none, .pointer none, .map none, .int .i64 0]⟩
def tq19 : TI := ⟨.struct [(90, 0), (89, 1)], 3, some (.agg [.ptr, .int .i64, .int .i64]), some [.pointer none, .int .i64 0, .int .i64 0]⟩
def tq20 : TI := ⟨.struct [(102, 0), (3, 1)], 2, some (.agg [.slice, .int .i64]), some [.slice none 0 0, .int .i64 0]⟩
def tq21 : TI := ⟨.struct [(106, 0), (107, 1)], 2, some (.agg [.slice, .slice]), some [.slice none 0 0, .slice none 0 0]⟩
def tq22 : TI := ⟨.struct [(111, 0)], 1, some (.agg [.slice]), some [.slice none 0 0]⟩
def tq23 : TI := ⟨.struct [(3, 0), (101, 1), (105, 2), (110, 3), (99, 4), (114, 5), (116, 6)], 7, some (.agg lf3), some [.int .i64 0, .pointer none, .pointer none, .pointer none, .pointer none, .pointer none, .slice none 0 0]⟩
def tq24 : TI := ⟨.struct [(4, 0), (4, 1), (4, 2), (4, 3), (4, 4), (4, 5)], 6, some (.agg lf4), some [.bool false, .bool false, .bool false, .bool false, .bool false, .bool false]⟩
def tq25 : TI := ⟨.struct [(3, 0), (3, 1), (3, 2), (9, 3)], 4, some (.agg [.int .i64, .int .i64, .int .i64, .str]), some [.int .i64 0, .int .i64 0, .int .i64 0, .string s_]⟩
def tq26 : TI := ⟨.struct [(166, 0), (167, 1)], 2, some (.agg [.slice, .slice]), some [.slice none 0 0, .slice none 0 0]⟩
def tq27 : TI := ⟨.struct [(9, 0), (3, 1), (23, 2)], 8, some (.agg lf5), some [.string s_, .int .i64 0, .string s_, .int .i64 0, .int .i64 0, .int .i64 0, .int .i64 0, .int .i64 0]⟩
def tq28 : TI := ⟨.struct [(184, 0), (185, 1)], 2, some (.agg [.map, .func]), some [.map none, .nilFunc]⟩
def tq29 : TI := ⟨.struct [(78, 0), (183, 1), (187, 2), (3, 4), (3, 5)], 6, some (.agg lf6), some [.pointer none, .map none, .map none, .nilFunc, .int .i64 0, .int .i64 0]⟩
def tq30 : TI := ⟨.struct [(9, 0), (3, 1)], 2, some (.agg [.str, .int .i64]), some [.string s_, .int .i64 0]⟩
def tq31 : TI := ⟨.struct [(202, 0), (203, 1), (3, 2), (3, 3)], 4, some (.agg [.map, .map, .int .i64, .int .i64]), some [.map none, .map none, .int .i64 0, .int .i64 0]⟩
def tq32 : TI := ⟨.struct [(206, 0), (209, 1), (3, 2)], 3, some (.agg [.ptr, .ptr, .int .i64]), some [.pointer none, .pointer none, .int .i64 0]⟩
def tq33 : TI := ⟨.map 9 175, 1, some (.one (.map)), some [.map none]⟩
def tq34 : TI := ⟨.map 9 4, 1, some (.one (.map)), some [.map none]⟩
def tq35 : TI := ⟨.struct [(215, 0), (217, 1)], 2, some (.agg [.map, .map]), some [.map none, .map none]⟩
def tq36 : TI := ⟨.struct [(220, 0)], 1, some (.agg [.map]), some [.map none]⟩
def tq37 : TI := ⟨.struct [(3, 0), (3, 1), (224, 2)], 3, some (.agg [.int .i64, .int .i64, .slice]), some [.int .i64 0, .int .i64 0, .slice none 0 0]⟩
def tq38 : TI := ⟨.struct [(99, 0), (3, 1), (3, 2), (227, 3), (33, 4), (228, 5)], 6, some (.agg lf7), some [.pointer none, .int .i64 0, .int .i64 0, .slice none 0 0, .slice none 0 0, .slice none 0 0]⟩
def tq39 : TI := ⟨.struct [(241, 0), (85, 1)], 2, some (.agg [.ptr, .slice]), some [.pointer none, .slice none 0 0]⟩
def tq40 : TI := ⟨.struct [(9, 0), (200, 1)], 2, some (.agg [.str, .ptr]), some [.string s_, .pointer none]⟩
def tq41 : TI := ⟨.struct [(281, 0), (3, 60)], 61, some (.agg lf9), some (List.replicate 61 (.int .i64 0))⟩
def tq42 : TI := ⟨.struct [(283, 0), (3, 61)], 62, some (.agg lf10), some (List.replicate 62 (.int .i64 0))⟩
def tq43 : TI := ⟨.struct [(23, 0), (3, 6), (3, 7), (4, 8)], 9, some (.agg lf11), some [.string s_, .int .i64 0, .int .i64 0, .int .i64 0, .int .i64 0, .int .i64 0, .int .i64 0, .int .i64 0, .bool false]⟩
def tq44 : TI := ⟨.struct [(37, 0), (3, 4), (3, 5), (4, 6)], 7, some (.agg lf12), some [.string s_, .string s_, .slice none 0 0, .int .i64 0, .int .i64 0, .int .i64 0, .bool false]⟩
def tq45 : TI := ⟨.struct [(9, 0), (9, 1)], 2, some (.agg [.str, .str]), some [.string s_, .string s_]⟩
def tq46 : TI := ⟨.arr 2 9, 2, some (.agg [.str, .str]), some [.string s_, .string s_]⟩
def tq47 : TI := ⟨.struct [(166, 0), (166, 1), (3, 2), (3, 3), (169, 4)], 6, some (.agg lf13), some [.slice none 0 0, .slice none 0 0, .int .i64 0, .int .i64 0, .slice none 0 0, .slice none 0 0]⟩
def tq48 : TI := ⟨.struct [(334, 0)], 1, some (.agg [.slice]), some [.slice none 0 0]⟩
def tq49 : TI := ⟨.struct [(336, 0), (3, 1)], 2, some (.agg [.slice, .int .i64]), some [.slice none 0 0, .int .i64 0]⟩
def tq50 : TI := ⟨.struct [(343, 0), (3, 1)], 2, some (.agg [.map, .int .i64]), some [.map none, .int .i64 0]⟩
def tq51 : TI := ⟨.struct [(3, 0), (345, 1)], 3, some (.agg [.int .i64, .map, .int .i64]), some [.int .i64 0, .map none, .int .i64 0]⟩
def tq52 : TI := ⟨.struct [(348, 0), (208, 1)], 2, some (.agg [.map, .func]), some [.map none, .nilFunc]⟩
def tq53 : TI := ⟨.struct [(351, 0), (211, 1)], 2, some (.agg [.map, .func]), some [.map none, .nilFunc]⟩
def tq54 : TI := ⟨.struct [(9, 0), (9, 1), (245, 2)], 3, some (.agg [.str, .str, .iface]), some [.string s_, .string s_, .nilIface]⟩
def tq55 : TI := ⟨.struct [(9, 0)], 1, some (.agg [.str]), some [.string s_]⟩
def tq56 : TI := ⟨.struct [(17, 0), (17, 1), (17, 2), (9, 3)], 4, some (.agg [.ptr, .ptr, .ptr, .str]), some [.pointer none, .pointer none, .pointer none, .string s_]⟩
def tq57 : TI := ⟨.struct [(469, 0)], 0, some (.agg []), some []⟩
def tq58 : TI := ⟨.struct [(12, 0), (12, 1), (396, 2), (472, 3), (5, 4), (5, 5), (473, 6), (474, 7), (366, 8), (475, 9), (476, 10)], 11, some (.agg lf19), some [.int .u64 0, .int .u64 0, .int .u32 0, .int .u8 0, .int .u8 0, .int .u8 0, .int .u8 0, .nilFunc, .pointer none, .int .i32 0, .int .i32 0]⟩
def tq59 : TI := ⟨.struct [(3, 0), (9, 1), (23, 2), (37, 8), (3, 12), (3, 13), (4, 14)], 15, some (.agg lf20), some [.int .i64 0, .string s_, .string s_, .int .i64 0, .int .i64 0, .int .i64 0, .int .i64 0, .int .i64 0, .string s_, .string s_, .slice none 0 0, .int .i64 0, .int .i64 0, .int .i64 0, .bool false]⟩
def tq60 : TI := ⟨.struct [(9, 0), (166, 1), (166, 2), (3, 3), (3, 4), (169, 5)], 7, some (.agg lf21), some [.string s_, .slice none 0 0, .slice none 0 0, .int .i64 0, .int .i64 0, .slice none 0 0, .slice none 0 0]⟩
def tq61 : TI := ⟨.struct [(9, 0), (491, 1), (31, 2)], 4, some (.agg [.str, .ptr, .int .i64, .int .i64]), some [.string s_, .pointer none, .int .i64 0, .int .i64 0]⟩
def tq62 : TI := ⟨.struct [(3, 0), (9, 1), (494, 2)], 3, some (.agg [.int .i64, .str, .ptr]), some [.int .i64 0, .string s_, .pointer none]⟩
def tq63 : TI := ⟨.struct [(3, 0), (3, 1), (9, 2)], 3, some (.agg [.int .i64, .int .i64, .str]), some [.int .i64 0, .int .i64 0, .string s_]⟩
def tq64 : TI := ⟨.struct [(3, 0), (499, 1)], 2, some (.agg [.int .i64, .slice]), some [.int .i64 0, .slice none 0 0]⟩
def tq65 : TI := ⟨.struct [(24, 0)], 1, some (.agg [.slice]), some [.slice none 0 0]⟩
def tq66 : TI := ⟨.struct [(3, 0), (3, 1), (24, 2)], 3, some (.agg [.int .i64, .int .i64, .slice]), some [.int .i64 0, .int .i64 0, .slice none 0 0]⟩
def Dt : Tb := ⟨508, 362, (.node ⟨.tuple [], 1, none, none⟩ (.node tq0 (.node tq1 (.node tq3 (.node tq7 (.node tq12 (.node tq0 (.node tq0 (.node tq0 .nil .nil) (.node tq0 .nil .nil)) (.node tq30 (.node tq0 .nil .nil) (.node tq0 .nil .nil))) (.node tq0 (.node ⟨.tuple [23, 3, 3, 4], 1, none, none⟩ (.node tq43 .nil .nil) (.node tq0 .nil .nil)) (.node tq0 (.node ⟨.map 9 292, 1, some (.one (.map)), some [.map none]⟩ .nil .nil) (.node tq0 .nil .nil)))) (.node tq0 (.node tq7 (.node ⟨.slice 147, 1, some (.one (.slice)), some [.slice none 0 0]⟩ (.node ⟨.tuple [270, 4], 1, none, none⟩ .nil .nil) (.node tq7 .nil .nil)) (.node tq0 (.node tq48 .nil .nil) (.node tq55 .nil .nil))) (.node ⟨.slice 482, 1, some (.one (.slice)), some [.slice none 0 0]⟩ (.node tq27 (.node tq0 .nil .nil) (.node tq0 .nil .nil)) (.node tq0 (.node tq0 .nil .nil) (.node tq62 .nil .nil))))) (.node tq11 (.node tq14 (.node tq0 (.node ⟨.tuple [3, 54], 1, none, none⟩ (.node tq0 .nil .nil) (.node tq0 .nil .nil)) (.node tq0 (.node tq0 .nil .nil) (.node tq0 .nil .nil))) (.node tq20 (.node ⟨.slice 307, 1, some (.one (.slice)), some [.slice none 0 0]⟩ (.node ⟨.map 9 3, 1, some (.one (.map)), some [.map none]⟩ .nil .nil) (.node tq0 .nil .nil)) (.node tq0 (.node tq0 .nil .nil) (.node tq59 .nil .nil)))) (.node ⟨.tuple [27, 54], 1, none, none⟩ (.node ⟨.tuple [86, 4], 1, none, none⟩ (.node tq0 (.node tq0 .nil .nil) (.node tq0 .nil .nil)) (.node tq33 (.node ⟨.map 3 4, 1, some (.one (.map)), some [.map none]⟩ .nil .nil) (.node tq57 .nil .nil))) (.node tq0 (.node ⟨.map 3 191, 1, some (.one (.map)), some [.map none]⟩ (.node tq0 .nil .nil) (.node tq0 .nil .nil)) (.node tq0 (.node tq0 .nil .nil) (.node tq65 .nil .nil)))))) (.node tq4 (.node tq8 (.node ⟨.slice 69, 1, some (.one (.slice)), some [.slice none 0 0]⟩ (.node tq0 (.node tq0 (.node tq0 .nil .nil) (.node tq0 .nil .nil)) (.node tq0 (.node tq0 .nil .nil) (.node tq0 .nil .nil))) (.node tq7 (.node tq0 (.node tq44 .nil .nil) (.node tq0 .nil .nil)) (.node ⟨.slice 485, 1, some (.one (.slice)), some [.slice none 0 0]⟩ (.node tq0 .nil .nil) (.node tq7 .nil .nil)))) (.node tq0 (.node tq18 (.node tq25 (.node tq0 .nil .nil) (.node tq0 .nil .nil)) (.node tq0 (.node tq0 .nil .nil) (.node tq56 .nil .nil))) (.node tq0 (.node tq0 (.node tq45 .nil .nil) (.node tq7 .nil .nil)) (.node tq39 (.node tq12 .nil .nil) (.node ⟨.slice 507, 1, some (.one (.slice)), some [.slice none 0 0]⟩ .nil .nil))))) (.node tq7 (.node tq0 (.node tq7 (.node tq0 (.node ⟨.tuple [9, 54], 1, none, none⟩ .nil .nil) (.node tq0 .nil .nil)) (.node ⟨.map 3 3, 1, some (.one (.map)), some [.map none]⟩ (.node tq5 .nil .nil) (.node tq0 .nil .nil))) (.node ⟨.slice 4, 1, some (.one (.slice)), some [.slice none 0 0]⟩ (.node tq0 (.node tq0 .nil .nil) (.node tq0 .nil .nil)) (.node tq0 (.node tq0 .nil .nil) (.node tq7 .nil .nil)))) (.node tq0 (.node tq19 (.node tq0 (.node tq41 .nil .nil) (.node ⟨.slice 413, 1, some (.one (.slice)), some [.slice none 0 0]⟩ .nil .nil)) (.node tq35 (.node tq51 .nil .nil) (.node tq10 .nil .nil))) (.node ⟨.tuple [122, 4], 1, none, none⟩ (.node tq28 (.node tq47 .nil .nil) (.node tq7 .nil .nil)) (.node tq0 (.node tq0 .nil .nil) (.node tq12 .nil .nil))))))) (.node tq2 (.node tq4 (.node tq7 (.node ⟨.slice 9, 1, some (.one (.slice)), some [.slice none 0 0]⟩ (.node tq0 (.node tq0 (.node tq0 .nil .nil) (.node tq0 .nil .nil)) (.node tq7 (.node tq0 .nil .nil) (.node tq0 .nil .nil))) (.node tq0 (.node ⟨.tuple [9, 4], 1, none, none⟩ (.node tq0 .nil .nil) (.node tq0 .nil .nil)) (.node tq37 (.node tq53 .nil .nil) (.node tq7 .nil .nil)))) (.node tq0 (.node tq17 (.node tq0 (.node ⟨.tuple [3, 4], 1, none, none⟩ .nil .nil) (.node tq0 .nil .nil)) (.node tq7 (.node tq49 .nil .nil) (.node ⟨.arr 64 5, 64, some (.agg lf18), some (List.replicate 64 (.int .u8 0))⟩ .nil .nil))) (.node tq22 (.node tq0 (.node tq0 .nil .nil) (.node ⟨.tuple [2, 245], 1, none, none⟩ .nil .nil)) (.node tq7 (.node tq7 .nil .nil) (.node tq63 .nil .nil))))) (.node tq0 (.node tq0 (.node tq0 (.node tq0 (.node tq0 .nil .nil) (.node tq0 .nil .nil)) (.node tq0 (.node tq0 .nil .nil) (.node tq0 .nil .nil))) (.node tq7 (.node tq26 (.node tq0 .nil .nil) (.node tq7 .nil .nil)) (.node tq0 (.node tq0 .nil .nil) (.node tq60 .nil .nil)))) (.node tq7 (.node tq12 (.node tq0 (.node ⟨.arr 60 3, 60, some (.agg lf8), some (List.replicate 60 (.int .i64 0))⟩ .nil .nil) (.node tq0 .nil .nil)) (.node tq34 (.node tq50 .nil .nil) (.node tq2 .nil .nil))) (.node tq24 (.node tq0 (.node tq46 .nil .nil) (.node ⟨.arr 65 5, 65, some (.agg lf16), some (List.replicate 65 (.int .u8 0))⟩ .nil .nil)) (.node tq0 (.node tq7 .nil .nil) (.node tq66 .nil .nil)))))) (.node tq6 (.node tq10 (.node tq13 (.node tq16 (.node tq0 (.node ⟨.tuple [147, 4], 1, none, none⟩ .nil .nil) (.node tq1 .nil .nil)) (.node tq0 (.node tq0 .nil .nil) (.node tq54 .nil .nil))) (.node tq7 (.node tq0 (.node ⟨.tuple [292, 4], 1, none, none⟩ .nil .nil) (.node tq5 .nil .nil)) (.node tq38 (.node tq0 .nil .nil) (.node tq7 .nil .nil)))) (.node ⟨.slice 52, 1, some (.one (.slice)), some [.slice none 0 0]⟩ (.node ⟨.slice 5, 1, some (.one (.slice)), some [.slice none 0 0]⟩ (.node ⟨.tuple [143, 54], 1, none, none⟩ (.node tq0 .nil .nil) (.node tq0 .nil .nil)) (.node tq32 (.node tq0 .nil .nil) (.node ⟨.arr 0 16, 0, some (.agg []), some []⟩ .nil .nil))) (.node tq23 (.node tq0 (.node ⟨.slice 313, 1, some (.one (.slice)), some [.slice none 0 0]⟩ .nil .nil) (.node tq0 .nil .nil)) (.node tq9 (.node tq0 .nil .nil) (.node tq64 .nil .nil))))) (.node tq0 (.node tq15 (.node tq7 (.node tq0 (.node tq40 .nil .nil) (.node tq0 .nil .nil)) (.node tq31 (.node tq0 .nil .nil) (.node tq7 .nil .nil))) (.node tq21 (.node tq0 (.node tq30 .nil .nil) (.node tq0 .nil .nil)) (.node tq12 (.node tq0 .nil .nil) (.node tq61 .nil .nil)))) (.node tq0 (.node tq0 (.node tq0 (.node tq42 .nil .nil) (.node tq12 .nil .nil)) (.node tq36 (.node tq52 .nil .nil) (.node tq58 .nil .nil))) (.node tq0 (.node tq29 (.node tq0 .nil .nil) (.node tq0 .nil .nil)) (.node tq0 (.node tq0 .nil .nil) .nil))))))) (.node tq1 (.node ⟨.bool, 1, some (.one (.bool)), some [.bool false]⟩ (.node tq3 (.node tq7 (.node tq0 (.node tq0 (.node tq0 (.node tq0 .nil .nil) (.node tq0 .nil .nil)) (.node tq0 (.node tq0 .nil .nil) (.node tq0 .nil .nil))) (.node tq0 (.node tq0 (.node ⟨.tuple [287, 4], 1, none, none⟩ .nil .nil) (.node tq7 .nil .nil)) (.node ⟨.slice 484, 1, some (.one (.slice)), some [.slice none 0 0]⟩ (.node tq53 .nil .nil) (.node tq0 .nil .nil)))) (.node tq0 (.node tq17 (.node tq0 (.node tq0 .nil .nil) (.node tq0 .nil .nil)) (.node tq0 (.node tq48 .nil .nil) (.node ⟨.arr 32 5, 32, some (.agg lf17), some (List.replicate 32 (.int .u8 0))⟩ .nil .nil))) (.node tq22 (.node ⟨.tuple [175, 4], 1, none, none⟩ (.node tq0 .nil .nil) (.node tq1 .nil .nil)) (.node tq0 (.node ⟨.tuple [191, 4], 1, none, none⟩ .nil .nil) (.node tq62 .nil .nil))))) (.node ⟨.slice 3, 1, some (.one (.slice)), some [.slice none 0 0]⟩ (.node ⟨.tuple [24, 24], 1, none, none⟩ (.node tq0 (.node tq0 (.node tq0 .nil .nil) (.node tq0 .nil .nil)) (.node tq7 (.node tq0 .nil .nil) (.node tq0 .nil .nil))) (.node tq20 (.node tq26 (.node ⟨.map 9 9, 1, some (.one (.map)), some [.map none]⟩ .nil .nil) (.node tq0 .nil .nil)) (.node tq0 (.node ⟨.slice 358, 1, some (.one (.slice)), some [.slice none 0 0]⟩ .nil .nil) (.node tq59 .nil .nil)))) (.node tq0 (.node tq0 (.node tq0 (.node tq0 .nil .nil) (.node ⟨.other, 1, none, none⟩ .nil .nil)) (.node tq34 (.node tq50 .nil .nil) (.node tq2 .nil .nil))) (.node tq0 (.node ⟨.map 9 193, 1, some (.one (.map)), some [.map none]⟩ (.node tq46 .nil .nil) (.node ⟨.arr 20 398, 20, some (.agg lf15), some (List.replicate 20 (.int .u64 0))⟩ .nil .nil)) (.node tq0 (.node tq0 .nil .nil) (.node tq66 .nil .nil)))))) (.node tq5 (.node tq9 (.node tq13 (.node tq16 (.node tq0 (.node tq0 .nil .nil) (.node tq0 .nil .nil)) (.node tq0 (.node tq0 .nil .nil) (.node tq0 .nil .nil))) (.node tq0 (.node ⟨.tuple [37, 3, 4], 1, none, none⟩ (.node tq44 .nil .nil) (.node tq0 .nil .nil)) (.node ⟨.slice 486, 1, some (.one (.slice)), some [.slice none 0 0]⟩ (.node tq0 .nil .nil) (.node tq7 .nil .nil)))) (.node ⟨.arr 3 3, 3, some (.agg [.int .i64, .int .i64, .int .i64]), some [.int .i64 0, .int .i64 0, .int .i64 0]⟩ (.node tq0 (.node tq0 (.node tq0 .nil .nil) (.node ⟨.arr 24 5, 24, some (.agg lf14), some (List.replicate 24 (.int .u8 0))⟩ .nil .nil)) (.node tq32 (.node tq0 .nil .nil) (.node tq56 .nil .nil))) (.node ⟨.slice 483, 1, some (.one (.slice)), some [.slice none 0 0]⟩ (.node tq0 (.node tq0 .nil .nil) (.node tq0 .nil .nil)) (.node tq9 (.node tq12 .nil .nil) (.node tq64 .nil .nil))))) (.node ⟨.tuple [27, 4], 1, none, none⟩ (.node tq15 (.node tq7 (.node tq0 (.node tq0 .nil .nil) (.node ⟨.int .u32, 1, some (.one (.int .u32)), some [.int .u32 0]⟩ .nil .nil)) (.node tq31 (.node tq0 .nil .nil) (.node tq0 .nil .nil))) (.node tq21 (.node tq0 (.node tq0 .nil .nil) (.node tq0 .nil .nil)) (.node tq0 (.node tq0 .nil .nil) (.node tq61 .nil .nil)))) (.node ⟨.tuple [3, 3, 3, 3], 1, none, none⟩ (.node tq19 (.node tq0 (.node tq42 .nil .nil) (.node tq12 .nil .nil)) (.node ⟨.map 9 315, 1, some (.one (.map)), some [.map none]⟩ (.node ⟨.map 9 287, 1, some (.one (.map)), some [.map none]⟩ .nil .nil) (.node tq10 .nil .nil))) (.node tq0 (.node tq29 (.node ⟨.tuple [315, 4], 1, none, none⟩ .nil .nil) (.node tq0 .nil .nil)) (.node tq0 (.node tq0 .nil .nil) .nil)))))) (.node tq2 (.node tq4 (.node tq8 (.node tq0 (.node tq0 (.node tq0 (.node tq0 .nil .nil) (.node tq0 .nil .nil)) (.node ⟨.tuple [193, 4], 1, none, none⟩ (.node ⟨.arr 2 3, 2, some (.agg [.int .i64, .int .i64]), some [.int .i64 0, .int .i64 0]⟩ .nil .nil) (.node ⟨.tuple [398, 245], 1, none, none⟩ .nil .nil))) (.node tq0 (.node tq0 (.node tq0 .nil .nil) (.node ⟨.slice 166, 1, some (.one (.slice)), some [.slice none 0 0]⟩ .nil .nil)) (.node tq37 (.node tq0 .nil .nil) (.node tq7 .nil .nil)))) (.node tq0 (.node tq18 (.node tq25 (.node tq0 .nil .nil) (.node tq0 .nil .nil)) (.node tq0 (.node tq49 .nil .nil) (.node tq0 .nil .nil))) (.node tq7 (.node tq0 (.node tq45 .nil .nil) (.node tq0 .nil .nil)) (.node tq39 (.node tq0 .nil .nil) (.node tq63 .nil .nil))))) (.node tq0 (.node ⟨.slice 45, 1, some (.one (.slice)), some [.slice none 0 0]⟩ (.node ⟨.map 3 34, 1, some (.one (.map)), some [.map none]⟩ (.node tq0 (.node tq0 .nil .nil) (.node tq0 .nil .nil)) (.node ⟨.map 3 270, 1, some (.one (.map)), some [.map none]⟩ (.node tq0 .nil .nil) (.node tq0 .nil .nil))) (.node ⟨.slice 175, 1, some (.one (.slice)), some [.slice none 0 0]⟩ (.node ⟨.tuple [169, 54], 1, none, none⟩ (.node tq0 .nil .nil) (.node tq0 .nil .nil)) (.node ⟨.tuple [9, 3, 4], 1, none, none⟩ (.node tq0 .nil .nil) (.node tq60 .nil .nil)))) (.node ⟨.tuple [57, 3], 1, none, none⟩ (.node tq7 (.node ⟨.tuple [24, 54], 1, none, none⟩ (.node tq41 .nil .nil) (.node tq0 .nil .nil)) (.node tq35 (.node tq51 .nil .nil) (.node tq0 .nil .nil))) (.node tq24 (.node tq28 (.node tq47 .nil .nil) (.node tq0 .nil .nil)) (.node tq0 (.node ⟨.tuple [9, 9], 1, none, none⟩ .nil .nil) (.node tq12 .nil .nil)))))) (.node tq6 (.node tq11 (.node tq14 (.node ⟨.slice 39, 1, some (.one (.slice)), some [.slice none 0 0]⟩ (.node tq0 (.node tq0 .nil .nil) (.node ⟨.tuple [3, 389], 1, none, none⟩ .nil .nil)) (.node tq0 (.node ⟨.arr 4 3, 4, some (.agg [.int .i64, .int .i64, .int .i64, .int .i64]), some [.int .i64 0, .int .i64 0, .int .i64 0, .int .i64 0]⟩ .nil .nil) (.node tq54 .nil .nil))) (.node ⟨.slice 481, 1, some (.one (.slice)), some [.slice none 0 0]⟩ (.node ⟨.slice 302, 1, some (.one (.slice)), some [.slice none 0 0]⟩ (.node tq0 .nil .nil) (.node tq0 .nil .nil)) (.node tq38 (.node tq0 .nil .nil) (.node tq7 .nil .nil)))) (.node tq1 (.node tq7 (.node tq0 (.node tq0 .nil .nil) (.node ⟨.tuple [85, 9], 1, none, none⟩ .nil .nil)) (.node tq33 (.node tq0 .nil .nil) (.node tq57 .nil .nil))) (.node tq23 (.node tq0 (.node ⟨.tuple [309, 309], 1, none, none⟩ .nil .nil) (.node tq0 .nil .nil)) (.node ⟨.tuple [3, 245], 1, none, none⟩ (.node tq0 .nil .nil) (.node tq65 .nil .nil))))) (.node tq12 (.node ⟨.tuple [3, 3], 1, none, none⟩ (.node tq7 (.node tq0 (.node tq40 .nil .nil) (.node tq5 .nil .nil)) (.node tq7 (.node ⟨.slice 372, 1, some (.one (.slice)), some [.slice none 0 0]⟩ .nil .nil) (.node tq55 .nil .nil))) (.node tq7 (.node tq27 (.node tq30 .nil .nil) (.node ⟨.tuple [396, 396], 1, none, none⟩ .nil .nil)) (.node tq12 (.node tq7 .nil .nil) (.node tq7 .nil .nil)))) (.node tq0 (.node tq0 (.node tq0 (.node tq43 .nil .nil) (.node tq0 .nil .nil)) (.node tq36 (.node tq52 .nil .nil) (.node tq58 .nil .nil))) (.node tq0 (.node tq30 (.node tq0 .nil .nil) (.node tq0 .nil .nil)) (.node ⟨.tuple [169, 4], 1, none, none⟩ (.node tq0 .nil .nil) .nil)))))))), (.node none (.node none (.node none (.node none (.node none (.node (some (.one (.one (.str)))) (.node (some (.one (.one (.bool)))) (.node (some (.one (.one (.func)))) .nil .nil) .nil) (.node (some (.one (.one (.slice)))) (.node (some (.one (.one (.slice)))) .nil .nil) (.node (some (.one (.one (.slice)))) .nil .nil))) .nil) (.node (some (.one (.one (.slice)))) (.node (some (.one (.one (.slice)))) (.node (some (.one (.one (.int .i64)))) .nil .nil) .nil) (.node none .nil (.node none .nil (.node (some (.tup [])) .nil .nil))))) (.node (some (.one (.one (.slice)))) (.node none (.node (some (.one (.one (.slice)))) (.node (some (.one (.one (.bool)))) (.node (some (.one (.one (.bool)))) .nil .nil) (.node (some (.one (.one (.slice)))) .nil .nil)) (.node none (.node (some (.one (.one (.slice)))) .nil .nil) .nil)) (.node (some (.one (.one (.ptr)))) .nil (.node (some (.one (.one (.slice)))) .nil .nil))) (.node (some (.one (.one (.int .i64)))) (.node (some (.one (.one (.slice)))) (.node (some (.one (.one (.str)))) .nil (.node (some (.one (.one (.bool)))) .nil .nil)) .nil) (.node (some (.one (.one (.slice)))) (.node none (.node (some (.one (.one (.func)))) (.node (some (.one (.one (.slice)))) .nil .nil) .nil) .nil) (.node (some (.one (.one (.bool)))) .nil (.node (some (.tup [])) .nil .nil)))))) (.node (some (.one (.one (.bool)))) (.node none (.node none (.node (some (.one (.one (.slice)))) (.node (some (.one (.one (.bool)))) (.node (some (.one (.one (.bool)))) (.node (some (.one (.one (.int .i64)))) .nil .nil) .nil) (.node (some (.one (.one (.func)))) .nil .nil)) (.node (some (.one (.one (.int .i64)))) .nil .nil)) (.node (some (.one (.one (.bool)))) (.node (some (.one (.one (.slice)))) .nil .nil) (.node (some (.tup [])) .nil .nil))) (.node (some (.one (.one (.int .i64)))) (.node (some (.one (.one (.slice)))) (.node (some (.one (.one (.str)))) .nil (.node (some (.one (.one (.int .i64)))) .nil .nil)) .nil) (.node none (.node none .nil (.node (some (.one (.one (.str)))) .nil .nil)) (.node (some (.one (.one (.bool)))) .nil .nil)))) (.node none (.node none (.node (some (.one (.one (.slice)))) (.node (some (.one (.one (.bool)))) (.node (some (.one (.one (.int .i64)))) .nil .nil) .nil) .nil) (.node (some (.one (.one (.ptr)))) (.node (some (.one (.one (.slice)))) (.node (some (.one (.agg [.int .i64, .int .i64, .int .i64, .str]))) .nil .nil) .nil) .nil)) (.node none (.node (some (.tup [(.one (.slice)), (.one (.slice))])) (.node none .nil (.node (some (.one (.one (.bool)))) .nil .nil)) .nil) (.node (some (.one (.one (.slice)))) (.node none .nil (.node (some (.tup [])) .nil .nil)) .nil))))) (.node none (.node none (.node none (.node none (.node (some (.one (.one (.str)))) (.node (some (.one (.one (.bool)))) (.node (some (.tup [(.one (.str)), (.one (.int .i64)), (.one (.bool))])) .nil .nil) (.node (some (.one (.one (.slice)))) .nil .nil)) (.node (some (.tup [])) .nil .nil)) .nil) (.node (some (.one (.one (.bool)))) (.node (some (.one (.one (.slice)))) (.node (some (.one (.one (.int .i64)))) .nil (.node (some (.tup [])) .nil .nil)) .nil) (.node none (.node none (.node (some (.one (.one (.int .i64)))) .nil .nil) (.node (some (.tup [])) .nil .nil)) (.node (some (.one (.one (.ptr)))) .nil .nil)))) (.node none (.node none (.node (some (.one (.one (.slice)))) (.node (some (.one (.one (.bool)))) (.node (some (.one (.one (.int .i64)))) .nil .nil) (.node (some (.one (.one (.slice)))) .nil .nil)) (.node none (.node (some (.tup [])) .nil .nil) .nil)) (.node (some (.one (.one (.ptr)))) .nil .nil)) (.node none (.node (some (.one (.one (.slice)))) (.node (some (.one (.one (.str)))) (.node none (.node (some (.tup [])) .nil .nil) .nil) (.node (some (.one (.one (.bool)))) .nil .nil)) .nil) (.node (some (.one (.one (.slice)))) .nil (.node (some (.one (.one (.ptr)))) .nil (.node (some (.tup [])) .nil .nil)))))) (.node none (.node none (.node (some (.tup [(.one (.ptr)), (.one (.int .i64))])) (.node (some (.one (.one (.slice)))) (.node (some (.one (.one (.bool)))) (.node (some (.one (.one (.bool)))) .nil .nil) (.node (some (.one (.one (.slice)))) .nil .nil)) (.node none (.node (some (.one (.one (.func)))) .nil .nil) .nil)) (.node (some (.one (.one (.ptr)))) .nil (.node (some (.one (.one (.slice)))) .nil .nil))) (.node (some (.one (.one (.int .i64)))) (.node (some (.one (.one (.slice)))) (.node (some (.one (.one (.str)))) .nil (.node (some (.tup [(.one (.int .i64)), (.one (.iface))])) .nil .nil)) .nil) (.node none .nil (.node (some (.one (.one (.ptr)))) (.node (some (.one (.one (.func)))) .nil .nil) (.node (some (.one (.one (.slice)))) .nil .nil))))) (.node none (.node none (.node (some (.one (.one (.slice)))) (.node (some (.one (.one (.bool)))) .nil (.node (some (.one (.one (.slice)))) .nil .nil)) (.node none (.node (some (.one (.one (.str)))) .nil .nil) .nil)) (.node (some (.one (.one (.ptr)))) (.node (some (.one (.one (.str)))) (.node (some (.one (.agg [.int .i64, .int .i64, .int .i64, .str]))) .nil .nil) .nil) .nil)) (.node (some (.one (.one (.int .i64)))) (.node none (.node none .nil (.node (some (.one (.one (.bool)))) .nil .nil)) .nil) (.node (some (.tup [(.agg lf4), (.one (.bool))])) (.node none .nil (.node (some (.one (.one (.func)))) .nil .nil)) (.node (some (.one (.one (.slice)))) .nil .nil)))))))⟩
theorem Tok : TbOk Pr Dt := zd9 (by kernel_rfl) (by kernel_rfl) (by kernel_rfl)
theorem C_of {f : FuncId} {fn : Func} {an : Ann} {args : List SV} {F : PT} {K : Value → PT} {w : World} (h1 : Pr.funcs[f]? = some fn) (h2 : okF args.length fn = true) (h3 : denF Pr Dt fn an args K = F) (h : F w) : CT Pr f (vals args) K w := zdn Tok h1 h2 ((congrFun h3 w).mpr h)
def z2b (p0 : Int) (p1 : Int) (K : Value → PT) : PT :=
 L.call Pr z23 [] rB fun (x1 : Bool) =>
 L.ite (!x1) (
  K (.bool false)) <|
 L.call Pr z1a [.int .i64 p0, .int .i64 8] rI fun (x2 : Int) =>
 L.call Pr z1a [.int .i64 p1, .int .i64 9] rI fun (x3 : Int) =>
 L.call Pr z2O [.int .i64 (IntKind.wrap .i64 (1 + x2)), .int .i64 x3] rI fun (x4 : Int) =>
 L.ite (decide ((IntKind.wrap .i64 ((IntKind.wrap .i64 (x4 - 2)) * (IntKind.wrap .i64 (1 + x2)))) ≥ x3)) (
  L.ite (x4 == 2) (
   L.call Pr z19 [.int .i64 (IntKind.wrap .i64 (1 + x2)), .int .i64 x3] rI fun (x5 : Int) =>
   K (.bool (x4 == x5))) <|
  L.ite (decide ((IntKind.wrap .i64 ((IntKind.wrap .i64 (x4 - 3)) * (IntKind.wrap .i64 (1 + x2)))) < x3)) (
   L.call Pr z19 [.int .i64 (IntKind.wrap .i64 (1 + x2)), .int .i64 x3] rI fun (x6 : Int) =>
   K (.bool (x4 == x6))) <|
  K (.bool false)) <|
 K (.bool false)
theorem z3E (p0 : Int) (p1 : Int) {K : Value → PT} {w : World} (h : z2b p0 p1 K w) : CT Pr z2a [.int .i64 p0, .int .i64 p1] K w :=
 C_of (fn := Tryz.f5) (an := .auto) (args := [.v (.int .i64 p0), .v (.int .i64 p1)]) (by kernel_rfl) (by kernel_rfl) (by kernel_rfl) h
def z3o (p0 : Option Addr) (p1 : ht1) (K : Value → PT) : PT :=
 L.new [.int .i64 p1.1, .string p1.2.1, .string p1.2.2.1, .int .i64 p1.2.2.2.1, .int .i64 p1.2.2.2.2.1, .string p1.2.2.2.2.2.1, .int .i64 p1.2.2.2.2.2.2.1, .int .i64 p1.2.2.2.2.2.2.2.1, .int .i64 p1.2.2.2.2.2.2.2.2.1, .int .i64 p1.2.2.2.2.2.2.2.2.2.1, .int .i64 p1.2.2.2.2.2.2.2.2.2.2.1, .string p1.2.2.2.2.2.2.2.2.2.2.2.1, .string p1.2.2.2.2.2.2.2.2.2.2.2.2.1, .slice p1.2.2.2.2.2.2.2.2.2.2.2.2.2.1.a p1.2.2.2.2.2.2.2.2.2.2.2.2.2.1.len p1.2.2.2.2.2.2.2.2.2.2.2.2.2.1.cap, .int .i64 p1.2.2.2.2.2.2.2.2.2.2.2.2.2.2.1] z1K fun b1 =>
 L.load (.agg lf1) (⟨b1, 0, none⟩) fun (x2 : pt1) =>
 L.call Pr z3K [(qa1 x2)] rI fun (x3 : Int) =>
 L.ite (x3 != 0) (
  L.call Pr z1N [.int .i64 x3] rS fun (x4 : ByteArray) =>
  L.new [.string x4] z04 fun b5 =>
  L.call Pr z0p [.string zex, .slice (some ⟨b5, 0, none⟩) 1 1] rS fun (x6 : ByteArray) =>
  L.new [.string x6] z04 fun b7 =>
  K (.slice (some ⟨b7, 0, none⟩) 1 1)) <|
 L.sem Pr (.one (.one .map)) (Instr.makeMap z00 none) fun (m8 : Option Nat) =>
 L.semU Pr (Instr.mapUpdate z00 (.map m8) (.int .i64 1) (.func (.func z1q) #[.pointer p0] #[])) <|
 L.semU Pr (Instr.mapUpdate z00 (.map m8) (.int .i64 2) (.func (.func z1F) #[.pointer p0] #[])) <|
 L.semU Pr (Instr.mapUpdate z00 (.map m8) (.int .i64 3) (.func (.func z1T) #[.pointer p0] #[])) <|
 L.semU Pr (Instr.mapUpdate z00 (.map m8) (.int .i64 4) (.func (.func z1r) #[.pointer p0] #[])) <|
 L.semU Pr (Instr.mapUpdate z00 (.map m8) (.int .i64 5) (.func (.func z1U) #[.pointer p0] #[])) <|
 L.semU Pr (Instr.mapUpdate z00 (.map m8) (.int .i64 6) (.func (.func z2e) #[.pointer p0] #[])) <|
 L.semU Pr (Instr.mapUpdate z00 (.map m8) (.int .i64 7) (.func (.func z0E) #[.pointer p0] #[])) <|
 L.semU Pr (Instr.mapUpdate z00 (.map m8) (.int .i64 8) (.func (.func z0E) #[.pointer p0] #[])) <|
 L.semU Pr (Instr.mapUpdate z00 (.map m8) (.int .i64 9) (.func (.func z0D) #[.pointer p0] #[])) <|
 L.semU Pr (Instr.mapUpdate z00 (.map m8) (.int .i64 10) (.func (.func z1D) #[.pointer p0] #[])) <|
 L.semU Pr (Instr.mapUpdate z00 (.map m8) (.int .i64 11) (.func (.func z1S) #[.pointer p0] #[])) <|
 L.semU Pr (Instr.mapUpdate z00 (.map m8) (.int .i64 12) (.func (.func z1E) #[.pointer p0] #[])) <|
 L.semU Pr (Instr.mapUpdate z00 (.map m8) (.int .i64 13) (.func (.func z1R) #[.pointer p0] #[])) <|
 L.load eI6 ((⟨b1, 0, none⟩ : Addr).add 0) fun (x9 : Int) =>
 L.semR Pr (.one (.one (.func))) (Instr.lookup z00 (.map m8) (.int .i64 x9) false) fun (x10 : FV) =>
 L.load (.agg lf1) (⟨b1, 0, none⟩) fun (x11 : pt1) =>
 L.callV Pr (.func x10.fn x10.fs x10.cs) [(qa1 x11)] rL fun (x12 : Sl) =>
 K (.slice x12.a x12.len x12.cap)
theorem z5B (p0 : Option Addr) (p1 : ht1) {K : Value → PT} {w : World} (h : z3o p0 p1 K w) : CT Pr z13 [.pointer p0, (.ag (qc1 p1) : SV).toV] K w :=
 C_of (fn := Tryz.f11) (an := .auto) (args := [.v (.pointer p0), .ag (qc1 p1)]) (by kernel_rfl) (by kernel_rfl) (by kernel_rfl) h
def z65 (p0 : Int) (p1 : Int) (p2 : Int) (K : Value → PT) : PT :=
 L.call Pr z0V [.int .i64 p0, .int .i64 1, .int .i64 30] rB fun (x1 : Bool) =>
 L.ite (!x1) (
  K (.tuple #[.pointer none, .int .i64 2])) <|
 L.call Pr z0V [.int .i64 p1, .int .i64 0, .int .i64 8] rB fun (x2 : Bool) =>
 L.ite (!x2) (
  K (.tuple #[.pointer none, .int .i64 2])) <|
 L.call Pr z0V [.int .i64 p2, .int .i64 1, .int .i64 50] rB fun (x3 : Bool) =>
 L.ite (!x3) (
  K (.tuple #[.pointer none, .int .i64 2])) <|
 L.call Pr z4U [.int .i64 p0] rP fun (x4 : Option Addr) =>
 L.call Pr z4S [] rP fun (x5 : Option Addr) =>
 L.call Pr z4R [] rP fun (x6 : Option Addr) =>
 L.call Pr z5K [] rP fun (x7 : Option Addr) =>
 L.call Pr z5M [.pointer x4, .int .i64 p1, .int .i64 p2] rP fun (x8 : Option Addr) =>
 L.sem Pr (.one (.one .map)) (Instr.makeMap z0u none) fun (m9 : Option Nat) =>
 L.new [.pointer x5, .pointer x6, .pointer x7, .pointer x4, .pointer x8, .map m9, .int .i64 0] z4h fun b10 =>
 K (.tuple #[.pointer (some (⟨b10, 0, none⟩)), .int .i64 0])
theorem z9a (p0 : Int) (p1 : Int) (p2 : Int) {K : Value → PT} {w : World} (h : z65 p0 p1 p2 K w) : CT Pr z48 [.int .i64 p0, .int .i64 p1, .int .i64 p2] K w :=
 C_of (fn := Tryz.f18) (an := .auto) (args := [.v (.int .i64 p0), .v (.int .i64 p1), .v (.int .i64 p2)]) (by kernel_rfl) (by kernel_rfl) (by kernel_rfl) h
def z16 (p0 : Option Addr) (K : Value → PT) : PT :=
 L.nonnil p0 fun a1 =>
 L.load eP6 (a1.add 1) fun (x2 : Option Addr) =>
 L.call Pr z2E [.pointer x2] rL fun (x3 : Sl) =>
 K (.slice x3.a x3.len x3.cap)
theorem z1Z (p0 : Option Addr) {K : Value → PT} {w : World} (h : z16 p0 K w) : CT Pr z0M [.pointer p0] K w :=
 C_of (fn := Tryz.f23) (an := .auto) (args := [.v (.pointer p0)]) (by kernel_rfl) (by kernel_rfl) (by kernel_rfl) h
def z3j  (K : Value → PT) : PT :=
 L.call Pr z48 [.int .i64 1, .int .i64 0, .int .i64 1] (.tup [eP6, eI6]) fun (x1 : Option Addr × Int × Unit) =>
 L.ite ((x1.1).isNone) (
  K (.bool false)) <|
 L.call Pr z4a [.pointer x1.1] rL fun (x2 : Sl) =>
 L.call Pr z2O [.int .i64 1, .int .i64 0] rI fun (x3 : Int) =>
 L.ite (x3 == 2) (
  L.ite (((x2.len : Nat) : Int) == 1) (
   L.idx x2.a 0 x2.len 1 fun a4 =>
   L.load eS6 a4 fun (x5 : ByteArray) =>
   K (.bool (x5.toList == s_tick_1.toList))) <|
  K (.bool false)) <|
 K (.bool false)
theorem z57  {K : Value → PT} {w : World} (h : z3j  K w) : CT Pr z23 [] K w :=
 C_of (fn := Tryz.f24) (an := .auto) (args := []) (by kernel_rfl) (by kernel_rfl) (by kernel_rfl) h
def z4H : Ann := (.seq .auto (.seq .auto (.seq .auto .auto (some [(5, (.one (.int .i64)))])) none) none)
def z2K (p0 : Int) (p1 : Int) (K : Value → PT) : PT :=
 L.guard (p1 ≠ (0 : Int)) <|
 L.join (Y := Int × Unit) (fun k1 =>
  L.ite (decide ((Int.tmod p0 p1) < 0)) (
   k1 (IntKind.wrap .i64 ((Int.tmod p0 p1) + p1), ())) <|
  k1 (Int.tmod p0 p1, ())) fun z2 =>
 K (.int .i64 z2.1)
theorem z4E (p0 : Int) (p1 : Int) {K : Value → PT} {w : World} (h : z2K p0 p1 K w) : CT Pr z1a [.int .i64 p0, .int .i64 p1] K w :=
 C_of (fn := Tryz.f25) (an := z4H) (args := [.v (.int .i64 p0), .v (.int .i64 p1)]) (by kernel_rfl) (by kernel_rfl) (by kernel_rfl) h
def z3P (p0 : Int) (p1 : Int) (K : Value → PT) : PT :=
 L.ite (decide (p0 ≤ 0)) (
  K (.int .i64 2)) <|
 L.guard (p0 ≠ (0 : Int)) <|
 K (.int .i64 (IntKind.wrap .i64 ((IntKind.wrap .i64 (Int.tdiv (IntKind.wrap .i64 ((IntKind.wrap .i64 ((if 0 > p1 then 0 else p1) + p0)) - 1)) p0)) + 2)))
theorem z5E (p0 : Int) (p1 : Int) {K : Value → PT} {w : World} (h : z3P p0 p1 K w) : CT Pr z2O [.int .i64 p0, .int .i64 p1] K w :=
 C_of (fn := Tryz.f26) (an := .auto) (args := [.v (.int .i64 p0), .v (.int .i64 p1)]) (by kernel_rfl) (by kernel_rfl) (by kernel_rfl) h
def z2J (p0 : Int) (p1 : Int) (K : Value → PT) : PT :=
 L.guard (p0 ≠ (0 : Int)) <|
 K (.int .i64 (IntKind.wrap .i64 ((IntKind.wrap .i64 (Int.tdiv (IntKind.wrap .i64 ((IntKind.wrap .i64 (p1 + p0)) - 1)) p0)) + 2)))
theorem z4D (p0 : Int) (p1 : Int) {K : Value → PT} {w : World} (h : z2J p0 p1 K w) : CT Pr z19 [.int .i64 p0, .int .i64 p1] K w :=
 C_of (fn := Tryz.f27) (an := .auto) (args := [.v (.int .i64 p0), .v (.int .i64 p1)]) (by kernel_rfl) (by kernel_rfl) (by kernel_rfl) h
def z8v : Ann := (.seq .auto (.seq .auto (.seq .auto (.seq (.seq .auto .auto (some [(61, (.one (.bool)))])) (.seq (.seq .auto (.cond .auto (.seq .auto (.cond .auto (.seq .auto (.cond .auto (.seq .auto (.cond .auto .auto) none)) none)) none)) none) .auto (some [])) none) none) none) none)
def z5A (p0 : ht1) (K : Value → PT) : PT :=
 L.new [.int .i64 p0.1, .string p0.2.1, .string p0.2.2.1, .int .i64 p0.2.2.2.1, .int .i64 p0.2.2.2.2.1, .string p0.2.2.2.2.2.1, .int .i64 p0.2.2.2.2.2.2.1, .int .i64 p0.2.2.2.2.2.2.2.1, .int .i64 p0.2.2.2.2.2.2.2.2.1, .int .i64 p0.2.2.2.2.2.2.2.2.2.1, .int .i64 p0.2.2.2.2.2.2.2.2.2.2.1, .string p0.2.2.2.2.2.2.2.2.2.2.2.1, .string p0.2.2.2.2.2.2.2.2.2.2.2.2.1, .slice p0.2.2.2.2.2.2.2.2.2.2.2.2.2.1.a p0.2.2.2.2.2.2.2.2.2.2.2.2.2.1.len p0.2.2.2.2.2.2.2.2.2.2.2.2.2.1.cap, .int .i64 p0.2.2.2.2.2.2.2.2.2.2.2.2.2.2.1] z1K fun b1 =>
 L.load eI6 ((⟨b1, 0, none⟩ : Addr).add 0) fun (x2 : Int) =>
 L.call Pr z3J [.int .i64 x2] (.tup [(.agg lf4), eB6]) fun (x3 : pt2) =>
 L.new [.bool false, .bool false, .bool false, .bool false, .bool false, .bool false] z6S fun b4 =>
 L.store (⟨b4, 0, none⟩) [.bool x3.1.1, .bool x3.1.2.1, .bool x3.1.2.2.1, .bool x3.1.2.2.2.1, .bool x3.1.2.2.2.2.1, .bool x3.1.2.2.2.2.2.1] <|
 L.ite (!x3.2.1) (
  K (.int .i64 12)) <|
 L.join (Y := Bool × Unit) (fun k5 =>
  L.load eB6 ((⟨b4, 0, none⟩ : Addr).add 0) fun (x7 : Bool) =>
  L.load eI6 ((⟨b1, 0, none⟩ : Addr).add 3) fun (x8 : Int) =>
  L.call Pr z22 [.bool x7, .int .i64 x8] rB fun (x9 : Bool) =>
  L.ite (!x9) (
   k5 (true, ())) <|
  L.load eB6 ((⟨b4, 0, none⟩ : Addr).add 1) fun (x10 : Bool) =>
  L.load eS6 ((⟨b1, 0, none⟩ : Addr).add 1) fun (x11 : ByteArray) =>
  L.call Pr z1g [.bool x10, .string x11] rB fun (x12 : Bool) =>
  L.ite (!x12) (
   k5 (true, ())) <|
  L.load eB6 ((⟨b4, 0, none⟩ : Addr).add 2) fun (x13 : Bool) =>
  L.load eS6 ((⟨b1, 0, none⟩ : Addr).add 2) fun (x14 : ByteArray) =>
  L.call Pr z1g [.bool x13, .string x14] rB fun (x15 : Bool) =>
  L.ite (!x15) (
   k5 (true, ())) <|
  L.load eB6 ((⟨b4, 0, none⟩ : Addr).add 3) fun (x16 : Bool) =>
  L.load eI6 ((⟨b1, 0, none⟩ : Addr).add 4) fun (x17 : Int) =>
  L.call Pr z22 [.bool x16, .int .i64 x17] rB fun (x18 : Bool) =>
  L.ite (!x18) (
   k5 (true, ())) <|
  L.load eB6 ((⟨b4, 0, none⟩ : Addr).add 4) fun (x19 : Bool) =>
  L.load (.agg lf0) ((⟨b1, 0, none⟩ : Addr).add 5) fun (x20 : pt0) =>
  L.call Pr z1h [.bool x19, (qa0 x20)] rB fun (x21 : Bool) =>
  L.ite (!x21) (
   k5 (true, ())) <|
  L.load eB6 ((⟨b4, 0, none⟩ : Addr).add 5) fun (x22 : Bool) =>
  L.ite (!x22) (
   L.load (.agg [.str, .str, .slice, .int .i64]) ((⟨b1, 0, none⟩ : Addr).add 11) fun (x23 : pt3) =>
   L.call Pr z4b [.agg #[.string x23.1, .string x23.2.1, .slice x23.2.2.1.a x23.2.2.1.len x23.2.2.1.cap, .int .i64 x23.2.2.2.1]] rB fun (x24 : Bool) =>
   k5 (!x24, ())) <|
  k5 (false, ())) fun z6 =>
 L.ite z6.1 (
  K (.int .i64 2)) <|
 L.join (Y := Unit) (fun k25 =>
  L.load eB6 ((⟨b4, 0, none⟩ : Addr).add 0) fun (x27 : Bool) =>
  L.ite x27 (
   L.load (.agg lf1) (⟨b1, 0, none⟩) fun (x28 : pt1) =>
   L.call Pr z3r [(qa1 x28)] rB fun (x29 : Bool) =>
   L.ite (!x29) (
    K (.int .i64 2)) <|
   L.load eB6 ((⟨b4, 0, none⟩ : Addr).add 1) fun (x30 : Bool) =>
   L.ite x30 (
    L.load (.agg lf1) (⟨b1, 0, none⟩) fun (x31 : pt1) =>
    L.call Pr z2P [(qa1 x31)] rB fun (x32 : Bool) =>
    L.ite (!x32) (
     K (.int .i64 1)) <|
    L.load eB6 ((⟨b4, 0, none⟩ : Addr).add 2) fun (x33 : Bool) =>
    L.ite x33 (
     L.load eS6 ((⟨b1, 0, none⟩ : Addr).add 2) fun (x34 : ByteArray) =>
     L.ite (!(x34.toList == s_.toList)) (
      L.load eS6 ((⟨b1, 0, none⟩ : Addr).add 2) fun (x35 : ByteArray) =>
      L.call Pr z1f [.string x35] rB fun (x36 : Bool) =>
      L.ite (!x36) (
       K (.int .i64 1)) <|
      L.load eB6 ((⟨b4, 0, none⟩ : Addr).add 3) fun (x37 : Bool) =>
      L.ite x37 (
       L.load eI6 ((⟨b1, 0, none⟩ : Addr).add 4) fun (x38 : Int) =>
       L.call Pr z0f [.int .i64 x38, .int .i64 0, .int .i64 2147483647] rB fun (x39 : Bool) =>
       L.ite (!x39) (
        K (.int .i64 2)) <|
       L.load eB6 ((⟨b4, 0, none⟩ : Addr).add 4) fun (x40 : Bool) =>
       L.ite x40 (
        L.load (.agg lf0) ((⟨b1, 0, none⟩ : Addr).add 5) fun (x41 : pt0) =>
        L.call Pr z08 [(qa0 x41)] rI fun (x42 : Int) =>
        K (.int .i64 x42)) <|
       L.load eB6 ((⟨b4, 0, none⟩ : Addr).add 5) fun (x43 : Bool) =>
       L.ite x43 (
        L.load (.agg [.str, .str, .slice, .int .i64]) ((⟨b1, 0, none⟩ : Addr).add 11) fun (x44 : pt3) =>
        L.call Pr z09 [.agg #[.string x44.1, .string x44.2.1, .slice x44.2.2.1.a x44.2.2.1.len x44.2.2.1.cap, .int .i64 x44.2.2.2.1]] rI fun (x45 : Int) =>
        K (.int .i64 x45)) <|
       k25 (())) <|
      L.load eB6 ((⟨b4, 0, none⟩ : Addr).add 4) fun (x46 : Bool) =>
      L.ite x46 (
       L.load (.agg lf0) ((⟨b1, 0, none⟩ : Addr).add 5) fun (x47 : pt0) =>
       L.call Pr z08 [(qa0 x47)] rI fun (x48 : Int) =>
       K (.int .i64 x48)) <|
      L.load eB6 ((⟨b4, 0, none⟩ : Addr).add 5) fun (x49 : Bool) =>
      L.ite x49 (
       L.load (.agg [.str, .str, .slice, .int .i64]) ((⟨b1, 0, none⟩ : Addr).add 11) fun (x50 : pt3) =>
       L.call Pr z09 [.agg #[.string x50.1, .string x50.2.1, .slice x50.2.2.1.a x50.2.2.1.len x50.2.2.1.cap, .int .i64 x50.2.2.2.1]] rI fun (x51 : Int) =>
       K (.int .i64 x51)) <|
      k25 (())) <|
     L.load eB6 ((⟨b4, 0, none⟩ : Addr).add 3) fun (x52 : Bool) =>
     L.ite x52 (
      L.load eI6 ((⟨b1, 0, none⟩ : Addr).add 4) fun (x53 : Int) =>
      L.call Pr z0f [.int .i64 x53, .int .i64 0, .int .i64 2147483647] rB fun (x54 : Bool) =>
      L.ite (!x54) (
       K (.int .i64 2)) <|
      L.load eB6 ((⟨b4, 0, none⟩ : Addr).add 4) fun (x55 : Bool) =>
      L.ite x55 (
       L.load (.agg lf0) ((⟨b1, 0, none⟩ : Addr).add 5) fun (x56 : pt0) =>
       L.call Pr z08 [(qa0 x56)] rI fun (x57 : Int) =>
       K (.int .i64 x57)) <|
      L.load eB6 ((⟨b4, 0, none⟩ : Addr).add 5) fun (x58 : Bool) =>
      L.ite x58 (
       L.load (.agg [.str, .str, .slice, .int .i64]) ((⟨b1, 0, none⟩ : Addr).add 11) fun (x59 : pt3) =>
       L.call Pr z09 [.agg #[.string x59.1, .string x59.2.1, .slice x59.2.2.1.a x59.2.2.1.len x59.2.2.1.cap, .int .i64 x59.2.2.2.1]] rI fun (x60 : Int) =>
       K (.int .i64 x60)) <|
      k25 (())) <|
     L.load eB6 ((⟨b4, 0, none⟩ : Addr).add 4) fun (x61 : Bool) =>
     L.ite x61 (
      L.load (.agg lf0) ((⟨b1, 0, none⟩ : Addr).add 5) fun (x62 : pt0) =>
      L.call Pr z08 [(qa0 x62)] rI fun (x63 : Int) =>
      K (.int .i64 x63)) <|
     L.load eB6 ((⟨b4, 0, none⟩ : Addr).add 5) fun (x64 : Bool) =>
     L.ite x64 (
      L.load (.agg [.str, .str, .slice, .int .i64]) ((⟨b1, 0, none⟩ : Addr).add 11) fun (x65 : pt3) =>
      L.call Pr z09 [.agg #[.string x65.1, .string x65.2.1, .slice x65.2.2.1.a x65.2.2.1.len x65.2.2.1.cap, .int .i64 x65.2.2.2.1]] rI fun (x66 : Int) =>
      K (.int .i64 x66)) <|
     k25 (())) <|
    L.load eB6 ((⟨b4, 0, none⟩ : Addr).add 3) fun (x67 : Bool) =>
    L.ite x67 (
     L.load eI6 ((⟨b1, 0, none⟩ : Addr).add 4) fun (x68 : Int) =>
     L.call Pr z0f [.int .i64 x68, .int .i64 0, .int .i64 2147483647] rB fun (x69 : Bool) =>
     L.ite (!x69) (
      K (.int .i64 2)) <|
     L.load eB6 ((⟨b4, 0, none⟩ : Addr).add 4) fun (x70 : Bool) =>
     L.ite x70 (
      L.load (.agg lf0) ((⟨b1, 0, none⟩ : Addr).add 5) fun (x71 : pt0) =>
      L.call Pr z08 [(qa0 x71)] rI fun (x72 : Int) =>
      K (.int .i64 x72)) <|
     L.load eB6 ((⟨b4, 0, none⟩ : Addr).add 5) fun (x73 : Bool) =>
     L.ite x73 (
      L.load (.agg [.str, .str, .slice, .int .i64]) ((⟨b1, 0, none⟩ : Addr).add 11) fun (x74 : pt3) =>
      L.call Pr z09 [.agg #[.string x74.1, .string x74.2.1, .slice x74.2.2.1.a x74.2.2.1.len x74.2.2.1.cap, .int .i64 x74.2.2.2.1]] rI fun (x75 : Int) =>
      K (.int .i64 x75)) <|
     k25 (())) <|
    L.load eB6 ((⟨b4, 0, none⟩ : Addr).add 4) fun (x76 : Bool) =>
    L.ite x76 (
     L.load (.agg lf0) ((⟨b1, 0, none⟩ : Addr).add 5) fun (x77 : pt0) =>
     L.call Pr z08 [(qa0 x77)] rI fun (x78 : Int) =>
     K (.int .i64 x78)) <|
    L.load eB6 ((⟨b4, 0, none⟩ : Addr).add 5) fun (x79 : Bool) =>
    L.ite x79 (
     L.load (.agg [.str, .str, .slice, .int .i64]) ((⟨b1, 0, none⟩ : Addr).add 11) fun (x80 : pt3) =>
     L.call Pr z09 [.agg #[.string x80.1, .string x80.2.1, .slice x80.2.2.1.a x80.2.2.1.len x80.2.2.1.cap, .int .i64 x80.2.2.2.1]] rI fun (x81 : Int) =>
     K (.int .i64 x81)) <|
    k25 (())) <|
   L.load eB6 ((⟨b4, 0, none⟩ : Addr).add 2) fun (x82 : Bool) =>
   L.ite x82 (
    L.load eS6 ((⟨b1, 0, none⟩ : Addr).add 2) fun (x83 : ByteArray) =>
    L.ite (!(x83.toList == s_.toList)) (
     L.load eS6 ((⟨b1, 0, none⟩ : Addr).add 2) fun (x84 : ByteArray) =>
     L.call Pr z1f [.string x84] rB fun (x85 : Bool) =>
     L.ite (!x85) (
      K (.int .i64 1)) <|
     L.load eB6 ((⟨b4, 0, none⟩ : Addr).add 3) fun (x86 : Bool) =>
     L.ite x86 (
      L.load eI6 ((⟨b1, 0, none⟩ : Addr).add 4) fun (x87 : Int) =>
      L.call Pr z0f [.int .i64 x87, .int .i64 0, .int .i64 2147483647] rB fun (x88 : Bool) =>
      L.ite (!x88) (
       K (.int .i64 2)) <|
      L.load eB6 ((⟨b4, 0, none⟩ : Addr).add 4) fun (x89 : Bool) =>
      L.ite x89 (
       L.load (.agg lf0) ((⟨b1, 0, none⟩ : Addr).add 5) fun (x90 : pt0) =>
       L.call Pr z08 [(qa0 x90)] rI fun (x91 : Int) =>
       K (.int .i64 x91)) <|
      L.load eB6 ((⟨b4, 0, none⟩ : Addr).add 5) fun (x92 : Bool) =>
      L.ite x92 (
       L.load (.agg [.str, .str, .slice, .int .i64]) ((⟨b1, 0, none⟩ : Addr).add 11) fun (x93 : pt3) =>
       L.call Pr z09 [.agg #[.string x93.1, .string x93.2.1, .slice x93.2.2.1.a x93.2.2.1.len x93.2.2.1.cap, .int .i64 x93.2.2.2.1]] rI fun (x94 : Int) =>
       K (.int .i64 x94)) <|
      k25 (())) <|
     L.load eB6 ((⟨b4, 0, none⟩ : Addr).add 4) fun (x95 : Bool) =>
     L.ite x95 (
      L.load (.agg lf0) ((⟨b1, 0, none⟩ : Addr).add 5) fun (x96 : pt0) =>
      L.call Pr z08 [(qa0 x96)] rI fun (x97 : Int) =>
      K (.int .i64 x97)) <|
     L.load eB6 ((⟨b4, 0, none⟩ : Addr).add 5) fun (x98 : Bool) =>
     L.ite x98 (
      L.load (.agg [.str, .str, .slice, .int .i64]) ((⟨b1, 0, none⟩ : Addr).add 11) fun (x99 : pt3) =>
      L.call Pr z09 [.agg #[.string x99.1, .string x99.2.1, .slice x99.2.2.1.a x99.2.2.1.len x99.2.2.1.cap, .int .i64 x99.2.2.2.1]] rI fun (x100 : Int) =>
      K (.int .i64 x100)) <|
     k25 (())) <|
    L.load eB6 ((⟨b4, 0, none⟩ : Addr).add 3) fun (x101 : Bool) =>
    L.ite x101 (
     L.load eI6 ((⟨b1, 0, none⟩ : Addr).add 4) fun (x102 : Int) =>
     L.call Pr z0f [.int .i64 x102, .int .i64 0, .int .i64 2147483647] rB fun (x103 : Bool) =>
     L.ite (!x103) (
      K (.int .i64 2)) <|
     L.load eB6 ((⟨b4, 0, none⟩ : Addr).add 4) fun (x104 : Bool) =>
     L.ite x104 (
      L.load (.agg lf0) ((⟨b1, 0, none⟩ : Addr).add 5) fun (x105 : pt0) =>
      L.call Pr z08 [(qa0 x105)] rI fun (x106 : Int) =>
      K (.int .i64 x106)) <|
     L.load eB6 ((⟨b4, 0, none⟩ : Addr).add 5) fun (x107 : Bool) =>
     L.ite x107 (
      L.load (.agg [.str, .str, .slice, .int .i64]) ((⟨b1, 0, none⟩ : Addr).add 11) fun (x108 : pt3) =>
      L.call Pr z09 [.agg #[.string x108.1, .string x108.2.1, .slice x108.2.2.1.a x108.2.2.1.len x108.2.2.1.cap, .int .i64 x108.2.2.2.1]] rI fun (x109 : Int) =>
      K (.int .i64 x109)) <|
     k25 (())) <|
    L.load eB6 ((⟨b4, 0, none⟩ : Addr).add 4) fun (x110 : Bool) =>
    L.ite x110 (
     L.load (.agg lf0) ((⟨b1, 0, none⟩ : Addr).add 5) fun (x111 : pt0) =>
     L.call Pr z08 [(qa0 x111)] rI fun (x112 : Int) =>
     K (.int .i64 x112)) <|
    L.load eB6 ((⟨b4, 0, none⟩ : Addr).add 5) fun (x113 : Bool) =>
    L.ite x113 (
     L.load (.agg [.str, .str, .slice, .int .i64]) ((⟨b1, 0, none⟩ : Addr).add 11) fun (x114 : pt3) =>
     L.call Pr z09 [.agg #[.string x114.1, .string x114.2.1, .slice x114.2.2.1.a x114.2.2.1.len x114.2.2.1.cap, .int .i64 x114.2.2.2.1]] rI fun (x115 : Int) =>
     K (.int .i64 x115)) <|
    k25 (())) <|
   L.load eB6 ((⟨b4, 0, none⟩ : Addr).add 3) fun (x116 : Bool) =>
   L.ite x116 (
    L.load eI6 ((⟨b1, 0, none⟩ : Addr).add 4) fun (x117 : Int) =>
    L.call Pr z0f [.int .i64 x117, .int .i64 0, .int .i64 2147483647] rB fun (x118 : Bool) =>
    L.ite (!x118) (
     K (.int .i64 2)) <|
    L.load eB6 ((⟨b4, 0, none⟩ : Addr).add 4) fun (x119 : Bool) =>
    L.ite x119 (
     L.load (.agg lf0) ((⟨b1, 0, none⟩ : Addr).add 5) fun (x120 : pt0) =>
     L.call Pr z08 [(qa0 x120)] rI fun (x121 : Int) =>
     K (.int .i64 x121)) <|
    L.load eB6 ((⟨b4, 0, none⟩ : Addr).add 5) fun (x122 : Bool) =>
    L.ite x122 (
     L.load (.agg [.str, .str, .slice, .int .i64]) ((⟨b1, 0, none⟩ : Addr).add 11) fun (x123 : pt3) =>
     L.call Pr z09 [.agg #[.string x123.1, .string x123.2.1, .slice x123.2.2.1.a x123.2.2.1.len x123.2.2.1.cap, .int .i64 x123.2.2.2.1]] rI fun (x124 : Int) =>
     K (.int .i64 x124)) <|
    k25 (())) <|
   L.load eB6 ((⟨b4, 0, none⟩ : Addr).add 4) fun (x125 : Bool) =>
   L.ite x125 (
    L.load (.agg lf0) ((⟨b1, 0, none⟩ : Addr).add 5) fun (x126 : pt0) =>
    L.call Pr z08 [(qa0 x126)] rI fun (x127 : Int) =>
    K (.int .i64 x127)) <|
   L.load eB6 ((⟨b4, 0, none⟩ : Addr).add 5) fun (x128 : Bool) =>
   L.ite x128 (
    L.load (.agg [.str, .str, .slice, .int .i64]) ((⟨b1, 0, none⟩ : Addr).add 11) fun (x129 : pt3) =>
    L.call Pr z09 [.agg #[.string x129.1, .string x129.2.1, .slice x129.2.2.1.a x129.2.2.1.len x129.2.2.1.cap, .int .i64 x129.2.2.2.1]] rI fun (x130 : Int) =>
    K (.int .i64 x130)) <|
   k25 (())) <|
  L.load eB6 ((⟨b4, 0, none⟩ : Addr).add 1) fun (x131 : Bool) =>
  L.ite x131 (
   L.load (.agg lf1) (⟨b1, 0, none⟩) fun (x132 : pt1) =>
   L.call Pr z2P [(qa1 x132)] rB fun (x133 : Bool) =>
   L.ite (!x133) (
    K (.int .i64 1)) <|
   L.load eB6 ((⟨b4, 0, none⟩ : Addr).add 2) fun (x134 : Bool) =>
   L.ite x134 (
    L.load eS6 ((⟨b1, 0, none⟩ : Addr).add 2) fun (x135 : ByteArray) =>
    L.ite (!(x135.toList == s_.toList)) (
     L.load eS6 ((⟨b1, 0, none⟩ : Addr).add 2) fun (x136 : ByteArray) =>
     L.call Pr z1f [.string x136] rB fun (x137 : Bool) =>
     L.ite (!x137) (
      K (.int .i64 1)) <|
     L.load eB6 ((⟨b4, 0, none⟩ : Addr).add 3) fun (x138 : Bool) =>
     L.ite x138 (
      L.load eI6 ((⟨b1, 0, none⟩ : Addr).add 4) fun (x139 : Int) =>
      L.call Pr z0f [.int .i64 x139, .int .i64 0, .int .i64 2147483647] rB fun (x140 : Bool) =>
      L.ite (!x140) (
       K (.int .i64 2)) <|
      L.load eB6 ((⟨b4, 0, none⟩ : Addr).add 4) fun (x141 : Bool) =>
      L.ite x141 (
       L.load (.agg lf0) ((⟨b1, 0, none⟩ : Addr).add 5) fun (x142 : pt0) =>
       L.call Pr z08 [(qa0 x142)] rI fun (x143 : Int) =>
       K (.int .i64 x143)) <|
      L.load eB6 ((⟨b4, 0, none⟩ : Addr).add 5) fun (x144 : Bool) =>
      L.ite x144 (
       L.load (.agg [.str, .str, .slice, .int .i64]) ((⟨b1, 0, none⟩ : Addr).add 11) fun (x145 : pt3) =>
       L.call Pr z09 [.agg #[.string x145.1, .string x145.2.1, .slice x145.2.2.1.a x145.2.2.1.len x145.2.2.1.cap, .int .i64 x145.2.2.2.1]] rI fun (x146 : Int) =>
       K (.int .i64 x146)) <|
      k25 (())) <|
     L.load eB6 ((⟨b4, 0, none⟩ : Addr).add 4) fun (x147 : Bool) =>
     L.ite x147 (
      L.load (.agg lf0) ((⟨b1, 0, none⟩ : Addr).add 5) fun (x148 : pt0) =>
      L.call Pr z08 [(qa0 x148)] rI fun (x149 : Int) =>
      K (.int .i64 x149)) <|
     L.load eB6 ((⟨b4, 0, none⟩ : Addr).add 5) fun (x150 : Bool) =>
     L.ite x150 (
      L.load (.agg [.str, .str, .slice, .int .i64]) ((⟨b1, 0, none⟩ : Addr).add 11) fun (x151 : pt3) =>
      L.call Pr z09 [.agg #[.string x151.1, .string x151.2.1, .slice x151.2.2.1.a x151.2.2.1.len x151.2.2.1.cap, .int .i64 x151.2.2.2.1]] rI fun (x152 : Int) =>
      K (.int .i64 x152)) <|
     k25 (())) <|
    L.load eB6 ((⟨b4, 0, none⟩ : Addr).add 3) fun (x153 : Bool) =>
    L.ite x153 (
     L.load eI6 ((⟨b1, 0, none⟩ : Addr).add 4) fun (x154 : Int) =>
     L.call Pr z0f [.int .i64 x154, .int .i64 0, .int .i64 2147483647] rB fun (x155 : Bool) =>
     L.ite (!x155) (
      K (.int .i64 2)) <|
     L.load eB6 ((⟨b4, 0, none⟩ : Addr).add 4) fun (x156 : Bool) =>
     L.ite x156 (
      L.load (.agg lf0) ((⟨b1, 0, none⟩ : Addr).add 5) fun (x157 : pt0) =>
      L.call Pr z08 [(qa0 x157)] rI fun (x158 : Int) =>
      K (.int .i64 x158)) <|
     L.load eB6 ((⟨b4, 0, none⟩ : Addr).add 5) fun (x159 : Bool) =>
     L.ite x159 (
      L.load (.agg [.str, .str, .slice, .int .i64]) ((⟨b1, 0, none⟩ : Addr).add 11) fun (x160 : pt3) =>
      L.call Pr z09 [.agg #[.string x160.1, .string x160.2.1, .slice x160.2.2.1.a x160.2.2.1.len x160.2.2.1.cap, .int .i64 x160.2.2.2.1]] rI fun (x161 : Int) =>
      K (.int .i64 x161)) <|
     k25 (())) <|
    L.load eB6 ((⟨b4, 0, none⟩ : Addr).add 4) fun (x162 : Bool) =>
    L.ite x162 (
     L.load (.agg lf0) ((⟨b1, 0, none⟩ : Addr).add 5) fun (x163 : pt0) =>
     L.call Pr z08 [(qa0 x163)] rI fun (x164 : Int) =>
     K (.int .i64 x164)) <|
    L.load eB6 ((⟨b4, 0, none⟩ : Addr).add 5) fun (x165 : Bool) =>
    L.ite x165 (
     L.load (.agg [.str, .str, .slice, .int .i64]) ((⟨b1, 0, none⟩ : Addr).add 11) fun (x166 : pt3) =>
     L.call Pr z09 [.agg #[.string x166.1, .string x166.2.1, .slice x166.2.2.1.a x166.2.2.1.len x166.2.2.1.cap, .int .i64 x166.2.2.2.1]] rI fun (x167 : Int) =>
     K (.int .i64 x167)) <|
    k25 (())) <|
   L.load eB6 ((⟨b4, 0, none⟩ : Addr).add 3) fun (x168 : Bool) =>
   L.ite x168 (
    L.load eI6 ((⟨b1, 0, none⟩ : Addr).add 4) fun (x169 : Int) =>
    L.call Pr z0f [.int .i64 x169, .int .i64 0, .int .i64 2147483647] rB fun (x170 : Bool) =>
    L.ite (!x170) (
     K (.int .i64 2)) <|
    L.load eB6 ((⟨b4, 0, none⟩ : Addr).add 4) fun (x171 : Bool) =>
    L.ite x171 (
     L.load (.agg lf0) ((⟨b1, 0, none⟩ : Addr).add 5) fun (x172 : pt0) =>
     L.call Pr z08 [(qa0 x172)] rI fun (x173 : Int) =>
     K (.int .i64 x173)) <|
    L.load eB6 ((⟨b4, 0, none⟩ : Addr).add 5) fun (x174 : Bool) =>
    L.ite x174 (
     L.load (.agg [.str, .str, .slice, .int .i64]) ((⟨b1, 0, none⟩ : Addr).add 11) fun (x175 : pt3) =>
     L.call Pr z09 [.agg #[.string x175.1, .string x175.2.1, .slice x175.2.2.1.a x175.2.2.1.len x175.2.2.1.cap, .int .i64 x175.2.2.2.1]] rI fun (x176 : Int) =>
     K (.int .i64 x176)) <|
    k25 (())) <|
   L.load eB6 ((⟨b4, 0, none⟩ : Addr).add 4) fun (x177 : Bool) =>
   L.ite x177 (
    L.load (.agg lf0) ((⟨b1, 0, none⟩ : Addr).add 5) fun (x178 : pt0) =>
    L.call Pr z08 [(qa0 x178)] rI fun (x179 : Int) =>
    K (.int .i64 x179)) <|
   L.load eB6 ((⟨b4, 0, none⟩ : Addr).add 5) fun (x180 : Bool) =>
   L.ite x180 (
    L.load (.agg [.str, .str, .slice, .int .i64]) ((⟨b1, 0, none⟩ : Addr).add 11) fun (x181 : pt3) =>
    L.call Pr z09 [.agg #[.string x181.1, .string x181.2.1, .slice x181.2.2.1.a x181.2.2.1.len x181.2.2.1.cap, .int .i64 x181.2.2.2.1]] rI fun (x182 : Int) =>
    K (.int .i64 x182)) <|
   k25 (())) <|
  L.load eB6 ((⟨b4, 0, none⟩ : Addr).add 2) fun (x183 : Bool) =>
  L.ite x183 (
   L.load eS6 ((⟨b1, 0, none⟩ : Addr).add 2) fun (x184 : ByteArray) =>
   L.ite (!(x184.toList == s_.toList)) (
    L.load eS6 ((⟨b1, 0, none⟩ : Addr).add 2) fun (x185 : ByteArray) =>
    L.call Pr z1f [.string x185] rB fun (x186 : Bool) =>
    L.ite (!x186) (
     K (.int .i64 1)) <|
    L.load eB6 ((⟨b4, 0, none⟩ : Addr).add 3) fun (x187 : Bool) =>
    L.ite x187 (
     L.load eI6 ((⟨b1, 0, none⟩ : Addr).add 4) fun (x188 : Int) =>
     L.call Pr z0f [.int .i64 x188, .int .i64 0, .int .i64 2147483647] rB fun (x189 : Bool) =>
     L.ite (!x189) (
      K (.int .i64 2)) <|
     L.load eB6 ((⟨b4, 0, none⟩ : Addr).add 4) fun (x190 : Bool) =>
     L.ite x190 (
      L.load (.agg lf0) ((⟨b1, 0, none⟩ : Addr).add 5) fun (x191 : pt0) =>
      L.call Pr z08 [(qa0 x191)] rI fun (x192 : Int) =>
      K (.int .i64 x192)) <|
     L.load eB6 ((⟨b4, 0, none⟩ : Addr).add 5) fun (x193 : Bool) =>
     L.ite x193 (
      L.load (.agg [.str, .str, .slice, .int .i64]) ((⟨b1, 0, none⟩ : Addr).add 11) fun (x194 : pt3) =>
      L.call Pr z09 [.agg #[.string x194.1, .string x194.2.1, .slice x194.2.2.1.a x194.2.2.1.len x194.2.2.1.cap, .int .i64 x194.2.2.2.1]] rI fun (x195 : Int) =>
      K (.int .i64 x195)) <|
     k25 (())) <|
    L.load eB6 ((⟨b4, 0, none⟩ : Addr).add 4) fun (x196 : Bool) =>
    L.ite x196 (
     L.load (.agg lf0) ((⟨b1, 0, none⟩ : Addr).add 5) fun (x197 : pt0) =>
     L.call Pr z08 [(qa0 x197)] rI fun (x198 : Int) =>
     K (.int .i64 x198)) <|
    L.load eB6 ((⟨b4, 0, none⟩ : Addr).add 5) fun (x199 : Bool) =>
    L.ite x199 (
     L.load (.agg [.str, .str, .slice, .int .i64]) ((⟨b1, 0, none⟩ : Addr).add 11) fun (x200 : pt3) =>
     L.call Pr z09 [.agg #[.string x200.1, .string x200.2.1, .slice x200.2.2.1.a x200.2.2.1.len x200.2.2.1.cap, .int .i64 x200.2.2.2.1]] rI fun (x201 : Int) =>
     K (.int .i64 x201)) <|
    k25 (())) <|
   L.load eB6 ((⟨b4, 0, none⟩ : Addr).add 3) fun (x202 : Bool) =>
   L.ite x202 (
    L.load eI6 ((⟨b1, 0, none⟩ : Addr).add 4) fun (x203 : Int) =>
    L.call Pr z0f [.int .i64 x203, .int .i64 0, .int .i64 2147483647] rB fun (x204 : Bool) =>
    L.ite (!x204) (
     K (.int .i64 2)) <|
    L.load eB6 ((⟨b4, 0, none⟩ : Addr).add 4) fun (x205 : Bool) =>
    L.ite x205 (
     L.load (.agg lf0) ((⟨b1, 0, none⟩ : Addr).add 5) fun (x206 : pt0) =>
     L.call Pr z08 [(qa0 x206)] rI fun (x207 : Int) =>
     K (.int .i64 x207)) <|
    L.load eB6 ((⟨b4, 0, none⟩ : Addr).add 5) fun (x208 : Bool) =>
    L.ite x208 (
     L.load (.agg [.str, .str, .slice, .int .i64]) ((⟨b1, 0, none⟩ : Addr).add 11) fun (x209 : pt3) =>
     L.call Pr z09 [.agg #[.string x209.1, .string x209.2.1, .slice x209.2.2.1.a x209.2.2.1.len x209.2.2.1.cap, .int .i64 x209.2.2.2.1]] rI fun (x210 : Int) =>
     K (.int .i64 x210)) <|
    k25 (())) <|
   L.load eB6 ((⟨b4, 0, none⟩ : Addr).add 4) fun (x211 : Bool) =>
   L.ite x211 (
    L.load (.agg lf0) ((⟨b1, 0, none⟩ : Addr).add 5) fun (x212 : pt0) =>
    L.call Pr z08 [(qa0 x212)] rI fun (x213 : Int) =>
    K (.int .i64 x213)) <|
   L.load eB6 ((⟨b4, 0, none⟩ : Addr).add 5) fun (x214 : Bool) =>
   L.ite x214 (
    L.load (.agg [.str, .str, .slice, .int .i64]) ((⟨b1, 0, none⟩ : Addr).add 11) fun (x215 : pt3) =>
    L.call Pr z09 [.agg #[.string x215.1, .string x215.2.1, .slice x215.2.2.1.a x215.2.2.1.len x215.2.2.1.cap, .int .i64 x215.2.2.2.1]] rI fun (x216 : Int) =>
    K (.int .i64 x216)) <|
   k25 (())) <|
  L.load eB6 ((⟨b4, 0, none⟩ : Addr).add 3) fun (x217 : Bool) =>
  L.ite x217 (
   L.load eI6 ((⟨b1, 0, none⟩ : Addr).add 4) fun (x218 : Int) =>
   L.call Pr z0f [.int .i64 x218, .int .i64 0, .int .i64 2147483647] rB fun (x219 : Bool) =>
   L.ite (!x219) (
    K (.int .i64 2)) <|
   L.load eB6 ((⟨b4, 0, none⟩ : Addr).add 4) fun (x220 : Bool) =>
   L.ite x220 (
    L.load (.agg lf0) ((⟨b1, 0, none⟩ : Addr).add 5) fun (x221 : pt0) =>
    L.call Pr z08 [(qa0 x221)] rI fun (x222 : Int) =>
    K (.int .i64 x222)) <|
   L.load eB6 ((⟨b4, 0, none⟩ : Addr).add 5) fun (x223 : Bool) =>
   L.ite x223 (
    L.load (.agg [.str, .str, .slice, .int .i64]) ((⟨b1, 0, none⟩ : Addr).add 11) fun (x224 : pt3) =>
    L.call Pr z09 [.agg #[.string x224.1, .string x224.2.1, .slice x224.2.2.1.a x224.2.2.1.len x224.2.2.1.cap, .int .i64 x224.2.2.2.1]] rI fun (x225 : Int) =>
    K (.int .i64 x225)) <|
   k25 (())) <|
  L.load eB6 ((⟨b4, 0, none⟩ : Addr).add 4) fun (x226 : Bool) =>
  L.ite x226 (
   L.load (.agg lf0) ((⟨b1, 0, none⟩ : Addr).add 5) fun (x227 : pt0) =>
   L.call Pr z08 [(qa0 x227)] rI fun (x228 : Int) =>
   K (.int .i64 x228)) <|
  L.load eB6 ((⟨b4, 0, none⟩ : Addr).add 5) fun (x229 : Bool) =>
  L.ite x229 (
   L.load (.agg [.str, .str, .slice, .int .i64]) ((⟨b1, 0, none⟩ : Addr).add 11) fun (x230 : pt3) =>
   L.call Pr z09 [.agg #[.string x230.1, .string x230.2.1, .slice x230.2.2.1.a x230.2.2.1.len x230.2.2.1.cap, .int .i64 x230.2.2.2.1]] rI fun (x231 : Int) =>
   K (.int .i64 x231)) <|
  k25 (())) fun z26 =>
 K (.int .i64 0)
theorem z8o (p0 : ht1) {K : Value → PT} {w : World} (h : z5A p0 K w) : CT Pr z3K [(.ag (qc1 p0) : SV).toV] K w :=
 C_of (fn := Tryz.f30) (an := z8v) (args := [.ag (qc1 p0)]) (by kernel_rfl) (by kernel_rfl) (by kernel_rfl) h
def z4F : Ann := (.seq .auto (.seq .auto (.seq (.seq .auto (.one [(5, (.one (.slice))), (14, (.one (.int .i64)))] (.seq .auto (.seq .auto (.seq .auto .auto (some [(5, (.one (.slice)))])) none) none)) none) .auto none) none) none)
def z2H (p0 : ByteArray) (p1 : Sl) (K : Value → PT) : PT :=
 L.new [.string p0] z04 fun b1 =>
 L.loop (Y := Sl × Int × Unit) (⟨some ⟨b1, 0, none⟩, 1, 1⟩, 0, ()) fun y2 again3 =>
 L.ite (decide (y2.2.1 < ((p1.len : Nat) : Int))) (
  L.join (Y := Sl × Unit) (fun k4 =>
   L.idx p1.a y2.2.1 p1.len 1 fun a6 =>
   L.load eS6 a6 fun (x7 : ByteArray) =>
   L.ite true (
    L.new [.string x7] z04 fun b8 =>
    L.sem Pr (.one (.one .slice)) (Builtin.append_ #[z06, z06] z06 #[.slice y2.1.a y2.1.len y2.1.cap, .slice (some ⟨b8, 0, none⟩) 1 1]) fun (s9 : Sl) =>
    k4 (⟨s9.a, s9.len, s9.cap⟩, ())) <|
   L.semR Pr (.tup [eI6, .one .bool]) (Instr.typeAssert (.iface z04 (.string x7)) z4Z z0v true) fun (x10 : Int × Bool × Unit) =>
   L.ite x10.2.1 (
    L.call Pr z1X [.int .i64 x10.1] rS fun (x11 : ByteArray) =>
    L.new [.string x11] z04 fun b12 =>
    L.sem Pr (.one (.one .slice)) (Builtin.append_ #[z06, z06] z06 #[.slice y2.1.a y2.1.len y2.1.cap, .slice (some ⟨b12, 0, none⟩) 1 1]) fun (s13 : Sl) =>
    k4 (⟨s13.a, s13.len, s13.cap⟩, ())) <|
   k4 (⟨y2.1.a, y2.1.len, y2.1.cap⟩, ())) fun z5 =>
  again3 (⟨z5.1.a, z5.1.len, z5.1.cap⟩, IntKind.wrap .i64 (y2.2.1 + 1), ())) <|
 L.call Pr z3q [.slice y2.1.a y2.1.len y2.1.cap, .string z5c] rS fun (x14 : ByteArray) =>
 K (.string x14)
theorem z4A (p0 : ByteArray) (p1 : Sl) {K : Value → PT} {w : World} (h : z2H p0 p1 K w) : CT Pr z0p [.string p0, .slice p1.a p1.len p1.cap] K w :=
 C_of (fn := Tryz.f31) (an := z4F) (args := [.v (.string p0), .v (.slice p1.a p1.len p1.cap)]) (by kernel_rfl) (by kernel_rfl) (by kernel_rfl) h
def z3D (p0 : Int) (K : Value → PT) : PT :=
 L.ite (decide (p0 ≤ 6)) (
  L.call Pr z6z [.int .i64 p0] rS fun (x1 : ByteArray) =>
  K (.string x1)) <|
 L.call Pr z7p [.int .i64 p0] rS fun (x2 : ByteArray) =>
 K (.string x2)
theorem z5W (p0 : Int) {K : Value → PT} {w : World} (h : z3D p0 K w) : CT Pr z1N [.int .i64 p0] K w :=
 C_of (fn := Tryz.f32) (an := .auto) (args := [.v (.int .i64 p0)]) (by kernel_rfl) (by kernel_rfl) (by kernel_rfl) h
def z4G : Ann := (.seq .auto (.seq .auto (.seq .auto (.seq .auto (.seq (.seq .auto (.one [(33, (.one (.int .i64)))] .auto) none) .auto none) none) none) none) none)
def z1W (p0 : Option Addr) (p1 : ht1) (K : Value → PT) : PT :=
 L.new [.int .i64 p1.1, .string p1.2.1, .string p1.2.2.1, .int .i64 p1.2.2.2.1, .int .i64 p1.2.2.2.2.1, .string p1.2.2.2.2.2.1, .int .i64 p1.2.2.2.2.2.2.1, .int .i64 p1.2.2.2.2.2.2.2.1, .int .i64 p1.2.2.2.2.2.2.2.2.1, .int .i64 p1.2.2.2.2.2.2.2.2.2.1, .int .i64 p1.2.2.2.2.2.2.2.2.2.2.1, .string p1.2.2.2.2.2.2.2.2.2.2.2.1, .string p1.2.2.2.2.2.2.2.2.2.2.2.2.1, .slice p1.2.2.2.2.2.2.2.2.2.2.2.2.2.1.a p1.2.2.2.2.2.2.2.2.2.2.2.2.2.1.len p1.2.2.2.2.2.2.2.2.2.2.2.2.2.1.cap, .int .i64 p1.2.2.2.2.2.2.2.2.2.2.2.2.2.2.1] z1K fun b1 =>
 L.nonnil p0 fun a2 =>
 L.load eI6 (a2.add 6) fun (x3 : Int) =>
 L.ite (decide (x3 ≥ 1048576)) (
  L.call Pr z2D [.int .i64 9] rL fun (x4 : Sl) =>
  K (.slice x4.a x4.len x4.cap)) <|
 L.nonnil p0 fun a5 =>
 L.load eI6 (a5.add 6) fun (x6 : Int) =>
 L.nonnil p0 fun a7 =>
 L.store (a7.add 6) [.int .i64 (IntKind.wrap .i64 (x6 + 1))] <|
 L.draw <|
 L.nonnil p0 fun a8 =>
 L.load eP6 (a8.add 4) fun (x9 : Option Addr) =>
 L.nonnil p0 fun a10 =>
 L.load eI6 (a10.add 6) fun (x11 : Int) =>
 L.call Pr z2F [.pointer x9, .int .i64 x11] rL fun (x12 : Sl) =>
 L.call Pr z0M [.pointer p0] rL fun (x13 : Sl) =>
 L.loop (Y := Int × Unit) (0, ()) fun y14 again15 =>
 L.ite (decide (y14.1 < ((x13.len : Nat) : Int))) (
  L.idx x13.a y14.1 x13.len 1 fun a16 =>
  L.load eS6 a16 fun (x17 : ByteArray) =>
  L.draw <|
  L.nonnil p0 fun a18 =>
  L.load (.one (.map)) (a18.add 5) fun (x19 : Option Nat) =>
  L.semR Pr rP (Instr.lookup z0u (.map x19) (.string x17) false) fun (x20 : Option Addr) =>
  L.nonnil x20 fun a21 =>
  L.load eP6 (a21.add 0) fun (x22 : Option Addr) =>
  L.nonnil p0 fun a23 =>
  L.load eP6 (a23.add 4) fun (x24 : Option Addr) =>
  L.call Pr z2G [.pointer x24, .string x17] rI fun (x25 : Int) =>
  L.chk (a21.add 0) [.pointer x22] <|
  L.chkSem Pr (Instr.lookup z0u (.map x19) (.string x17) false) (.pointer x20) <|
  L.chk (a18.add 5) [.map x19] <|
  L.call Pr z2t [.pointer x22, .int .i64 x25] (.tup []) fun (x26 : Unit) =>
  again15 (IntKind.wrap .i64 (y14.1 + 1), ())) <|
 L.nonnil p0 fun a27 =>
 L.load eI6 (a27.add 6) fun (x28 : Int) =>
 L.new [.int .i64 x28] z0v fun b29 =>
 L.call Pr z0h [.string zbb, .slice (some ⟨b29, 0, none⟩) 1 1] rS fun (x30 : ByteArray) =>
 L.new [.string x30] z04 fun b31 =>
 L.call Pr z3G [.slice x12.a x12.len x12.cap, .slice (some ⟨b31, 0, none⟩) 1 1] rL fun (x32 : Sl) =>
 K (.slice x32.a x32.len x32.cap)
theorem z4B (p0 : Option Addr) (p1 : ht1) {K : Value → PT} {w : World} (h : z1W p0 p1 K w) : CT Pr z0D [.pointer p0, (.ag (qc1 p1) : SV).toV] K w :=
 C_of (fn := Tryz.f40) (an := z4G) (args := [.v (.pointer p0), .ag (qc1 p1)]) (by kernel_rfl) (by kernel_rfl) (by kernel_rfl) h
theorem z4z : Enters Pr z0D := z1j (by kernel_rfl)
def z5F : Ann := (.seq .auto (.seq (.seq .auto (.one [(5, (.one (.slice)))] (.seq .auto (.seq (.cond .auto .auto) .auto none) none)) none) (.seq .auto (.seq .auto .auto (some [(4, (.one (.slice)))])) none) none) none)
def z3p (p0 : Option Addr) (p1 : ByteArray) (K : Value → PT) : PT :=
 L.nonnil p0 fun a1 =>
 L.load (.one (.map)) (a1.add 1) fun (x2 : Option Nat) =>
 L.sem Pr (.one (.one .ptr)) (Instr.range z0Z (.map x2)) fun (it3 : Option Addr) =>
 L.loop (Y := Sl × Unit) (⟨none, 0, 0⟩, ()) fun y4 again5 =>
 L.next Pr [eI6, (.agg [.str, .int .i64])] (Instr.next (.pointer it3) false T_) (
  L.call Pr z2z [.slice y4.1.a y4.1.len y4.1.cap] (.tup []) fun (x7 : Unit) =>
  L.join (Y := Sl × Unit) (fun k8 =>
   L.nonnil p0 fun a10 =>
   L.load (.one (.map)) ((a10.add 2).add 0) fun (x11 : Option Nat) =>
   L.semR Pr (.tup [eP6, .one .bool]) (Instr.lookup z0i (.map x11) (.string p1) true) fun (x12 : Option Addr × Bool × Unit) =>
   L.ite x12.2.1 (
    L.call Pr z32 [.pointer x12.1] rL fun (x13 : Sl) =>
    k8 (⟨x13.a, x13.len, x13.cap⟩, ())) <|
   k8 (⟨none, 0, 0⟩, ())) fun z9 =>
  L.call Pr z0z [.slice y4.1.a y4.1.len y4.1.cap] rL fun (x14 : Sl) =>
  K (.tuple #[.slice z9.1.a z9.1.len z9.1.cap, .slice x14.a x14.len x14.cap])) fun (x6 : pt7) =>
 L.sem Pr (.tup [eI6, (.agg [.str, .int .i64])]) (Instr.entry (.pointer it3)) fun (x15 : pt7) =>
 L.new [.string s_, .int .i64 0] z0t fun b16 =>
 L.store (⟨b16, 0, none⟩) [.string x15.2.1.1, .int .i64 x15.2.1.2.1] <|
 L.load (.agg [.str, .int .i64]) (⟨b16, 0, none⟩) fun (x17 : ByteArray × Int × Unit) =>
 L.chkSem Pr (do eqGuard .eql z0t (.tmp 0) (.tmp 0) (.agg #[.string x17.1, .int .i64 x17.2.1]) (.agg #[.string p1, .int .i64 1]); binOp .eql z0t (.agg #[.string x17.1, .int .i64 x17.2.1]) (.agg #[.string p1, .int .i64 1])) (.bool ((x17.1 == p1) && ((x17.2.1 == 1) && true))) <|
 L.ite ((x17.1 == p1) && ((x17.2.1 == 1) && true)) (
  L.new [.int .i64 x15.1] z0v fun b18 =>
  L.sem Pr (.one (.one .slice)) (Builtin.append_ #[z1k, z1k] z1k #[.slice y4.1.a y4.1.len y4.1.cap, .slice (some ⟨b18, 0, none⟩) 1 1]) fun (s19 : Sl) =>
  again5 (⟨s19.a, s19.len, s19.cap⟩, ())) <|
 again5 (⟨y4.1.a, y4.1.len, y4.1.cap⟩, ())
theorem z5D (p0 : Option Addr) (p1 : ByteArray) {K : Value → PT} {w : World} (h : z3p p0 p1 K w) : CT Pr z2g [.pointer p0, .string p1] K w :=
 C_of (fn := Tryz.f45) (an := z5F) (args := [.v (.pointer p0), .v (.string p1)]) (by kernel_rfl) (by kernel_rfl) (by kernel_rfl) h
def z3g (p0 : Int) (p1 : Int) (p2 : Int) (K : Value → PT) : PT :=
 L.ite (decide (p0 ≥ p1)) (
  K (.bool (decide (p0 ≤ p2)))) <|
 K (.bool false)
theorem z55 (p0 : Int) (p1 : Int) (p2 : Int) {K : Value → PT} {w : World} (h : z3g p0 p1 p2 K w) : CT Pr z0V [.int .i64 p0, .int .i64 p1, .int .i64 p2] K w :=
 C_of (fn := Tryz.f49) (an := .auto) (args := [.v (.int .i64 p0), .v (.int .i64 p1), .v (.int .i64 p2)]) (by kernel_rfl) (by kernel_rfl) (by kernel_rfl) h
def z6Y (p0 : Int) (K : Value → PT) : PT :=
 L.sem Pr (.one (.one .map)) (Instr.makeMap z4Y none) fun (m1 : Option Nat) =>
 L.sem Pr (.one (.one .map)) (Instr.makeMap z8d none) fun (m2 : Option Nat) =>
 L.new [.map m1, .map m2, .int .i64 p0, .int .i64 0] z5q fun b3 =>
 K (.pointer (some (⟨b3, 0, none⟩)))
theorem z9J (p0 : Int) {K : Value → PT} {w : World} (h : z6Y p0 K w) : CT Pr z4U [.int .i64 p0] K w :=
 C_of (fn := Tryz.f50) (an := .auto) (args := [.v (.int .i64 p0)]) (by kernel_rfl) (by kernel_rfl) (by kernel_rfl) h
def z6V  (K : Value → PT) : PT :=
 L.call Pr z1e [.func (.func z2M) #[] #[]] rP fun (x1 : Option Addr) =>
 L.call Pr z1s [.func (.func z1n) #[] #[]] rP fun (x2 : Option Addr) =>
 L.new [.pointer x1, .pointer x2, .int .i64 0] z5o fun b3 =>
 K (.pointer (some (⟨b3, 0, none⟩)))
theorem z9G  {K : Value → PT} {w : World} (h : z6V  K w) : CT Pr z4S [] K w :=
 C_of (fn := Tryz.f51) (an := .auto) (args := []) (by kernel_rfl) (by kernel_rfl) (by kernel_rfl) h
def z6U  (K : Value → PT) : PT :=
 L.sem Pr (.one (.one .map)) (Instr.makeMap z0w none) fun (m1 : Option Nat) =>
 L.sem Pr (.one (.one .map)) (Instr.makeMap z5n none) fun (m2 : Option Nat) =>
 L.new [.map m1, .map m2] z64 fun b3 =>
 K (.pointer (some (⟨b3, 0, none⟩)))
theorem z9F  {K : Value → PT} {w : World} (h : z6U  K w) : CT Pr z4R [] K w :=
 C_of (fn := Tryz.f52) (an := .auto) (args := []) (by kernel_rfl) (by kernel_rfl) (by kernel_rfl) h
def z7C  (K : Value → PT) : PT :=
 L.sem Pr (.one (.one .map)) (Instr.makeMap z4i none) fun (m1 : Option Nat) =>
 L.new [.map m1] z5p fun b2 =>
 K (.pointer (some (⟨b2, 0, none⟩)))
theorem zaP  {K : Value → PT} {w : World} (h : z7C  K w) : CT Pr z5K [] K w :=
 C_of (fn := Tryz.f53) (an := .auto) (args := []) (by kernel_rfl) (by kernel_rfl) (by kernel_rfl) h
def z7E (p0 : Option Addr) (p1 : Int) (p2 : Int) (K : Value → PT) : PT :=
 L.new [.int .i64 p1] z0v fun b1 =>
 L.sem Pr (.one (.one .map)) (Instr.makeMap z0Z none) fun (m2 : Option Nat) =>
 L.sem Pr (.one (.one .map)) (Instr.makeMap z0i none) fun (m3 : Option Nat) =>
 L.load eI6 (⟨b1, 0, none⟩) fun (x4 : Int) =>
 L.new [.pointer p0, .map m2, .map m3, .func (.func z62) #[] #[.pointer (some (⟨b1, 0, none⟩))], .int .i64 x4, .int .i64 p2] z6R fun b5 =>
 K (.pointer (some (⟨b5, 0, none⟩)))
theorem zaR (p0 : Option Addr) (p1 : Int) (p2 : Int) {K : Value → PT} {w : World} (h : z7E p0 p1 p2 K w) : CT Pr z5M [.pointer p0, .int .i64 p1, .int .i64 p2] K w :=
 C_of (fn := Tryz.f54) (an := .auto) (args := [.v (.pointer p0), .v (.int .i64 p1), .v (.int .i64 p2)]) (by kernel_rfl) (by kernel_rfl) (by kernel_rfl) h
def z3X (p0 : Option Addr) (K : Value → PT) : PT :=
 L.nonnil p0 fun a1 =>
 L.load (.one (.map)) (a1.add 0) fun (x2 : Option Nat) =>
 L.call Pr z0F [.map x2] rL fun (x3 : Sl) =>
 L.call Pr z0q [.slice x3.a x3.len x3.cap] rL fun (x4 : Sl) =>
 K (.slice x4.a x4.len x4.cap)
theorem z6k (p0 : Option Addr) {K : Value → PT} {w : World} (h : z3X p0 K w) : CT Pr z2E [.pointer p0] K w :=
 C_of (fn := Tryz.f59) (an := .auto) (args := [.v (.pointer p0)]) (by kernel_rfl) (by kernel_rfl) (by kernel_rfl) h
def z9i : Ann := (.seq .auto (.seq .auto (.seq (.seq .auto (.seq .auto .auto (some [(7, (.agg lf1))])) none) .auto none) none) none)
def z6a (p0 : Option Addr) (K : Value → PT) : PT :=
 L.new [.pointer p0] z0e fun b1 =>
 L.new [.slice none 0 0] z06 fun b2 =>
 L.load eP6 (⟨b1, 0, none⟩) fun (x3 : Option Addr) =>
 L.call Pr z5i [.pointer x3] (.one (.one (.func))) fun (x4 : FV) =>
 L.range Pr none (.func x4.fn x4.fs x4.cs) [(.agg lf1)] (fun l5 (y6 : (Int × ByteArray × ByteArray × Int × Int × ByteArray × Int × Int × Int × Int × Int × ByteArray × ByteArray × Sl × Int × Unit) × Unit) R7 =>
  L.new [.int .i64 0, .string s_, .string s_, .int .i64 0, .int .i64 0, .string s_, .int .i64 0, .int .i64 0, .int .i64 0, .int .i64 0, .int .i64 0, .string s_, .string s_, .slice none 0 0, .int .i64 0] z1K fun b10 =>
  L.store (⟨b10, 0, none⟩) [.int .i64 y6.1.1, .string y6.1.2.1, .string y6.1.2.2.1, .int .i64 y6.1.2.2.2.1, .int .i64 y6.1.2.2.2.2.1, .string y6.1.2.2.2.2.2.1, .int .i64 y6.1.2.2.2.2.2.2.1, .int .i64 y6.1.2.2.2.2.2.2.2.1, .int .i64 y6.1.2.2.2.2.2.2.2.2.1, .int .i64 y6.1.2.2.2.2.2.2.2.2.2.1, .int .i64 y6.1.2.2.2.2.2.2.2.2.2.2.1, .string y6.1.2.2.2.2.2.2.2.2.2.2.2.1, .string y6.1.2.2.2.2.2.2.2.2.2.2.2.2.1, .slice y6.1.2.2.2.2.2.2.2.2.2.2.2.2.2.1.a y6.1.2.2.2.2.2.2.2.2.2.2.2.2.2.1.len y6.1.2.2.2.2.2.2.2.2.2.2.2.2.2.1.cap, .int .i64 y6.1.2.2.2.2.2.2.2.2.2.2.2.2.2.2.1] <|
  L.begin Pr l5 <|
  L.draw <|
  L.load eL6 (⟨b2, 0, none⟩) fun (x11 : Sl) =>
  L.load eP6 (⟨b1, 0, none⟩) fun (x12 : Option Addr) =>
  L.load (.agg lf1) (⟨b10, 0, none⟩) fun (x13 : pt1) =>
  L.call Pr z13 [.pointer x12, (qa1 x13)] rL fun (x14 : Sl) =>
  L.chk (⟨b2, 0, none⟩) [.slice x11.a x11.len x11.cap] <|
  L.sem Pr (.one (.one .slice)) (Builtin.append_ #[z06, z06] z06 #[.slice x11.a x11.len x11.cap, .slice x14.a x14.len x14.cap]) fun (s15 : Sl) =>
  L.store (⟨b2, 0, none⟩) [.slice s15.a s15.len s15.cap] <|
  L.endRound Pr l5 none R7) fun d8 j9 =>
 L.jump j9 (
  L.load eL6 (⟨b2, 0, none⟩) fun (x16 : Sl) =>
  L.call Pr z0q [.slice x16.a x16.len x16.cap] rL fun (x17 : Sl) =>
  L.unmark Pr (d8 ++ []) <|
  K (.slice x17.a x17.len x17.cap)) (
  L.unmark Pr (d8 ++ []) <|
  K (.slice none 0 0)) []
theorem z9f (p0 : Option Addr) {K : Value → PT} {w : World} (h : z6a p0 K w) : CT Pr z4a [.pointer p0] K w :=
 C_of (fn := Tryz.f60) (an := z9i) (args := [.v (.pointer p0)]) (by kernel_rfl) (by kernel_rfl) (by kernel_rfl) h
def z1w (p0 : Sl) (K : Value → PT) : PT :=
 L.ite ((p0.a).isNone) (
  K (.slice none 0 0)) <|
 L.new [] z04 fun b1 =>
 L.sem Pr (.one (.one .slice)) (Builtin.append_ #[z06, z06] z06 #[.slice (some ⟨b1, 0, none⟩) 0 0, .slice p0.a p0.len p0.cap]) fun (s2 : Sl) =>
 K (.slice s2.a s2.len s2.cap)
theorem z2T (p0 : Sl) {K : Value → PT} {w : World} (h : z1w p0 K w) : CT Pr z0q [.slice p0.a p0.len p0.cap] K w :=
 C_of (fn := Tryz.f61) (an := .auto) (args := [.v (.slice p0.a p0.len p0.cap)]) (by kernel_rfl) (by kernel_rfl) (by kernel_rfl) h
def z8u : Ann := (.seq .auto (.seq (.seq .auto (.seq .auto (.cond .auto (.seq .auto (.cond .auto (.seq .auto (.cond .auto (.seq .auto (.cond .auto (.seq .auto (.cond .auto (.seq .auto (.cond .auto (.seq .auto .auto (some [(26, (.one (.bool)))]))) none)) (some [(17, (.one (.bool)))]))) none)) none)) none)) none) none) .auto none) none)
def z5y (p0 : Int) (K : Value → PT) : PT :=
 L.new [.bool false, .bool false, .bool false, .bool false, .bool false, .bool false] z6S fun b1 =>
 L.ite (p0 == 1) (
  L.store (⟨b1, 0, none⟩) [.bool true, .bool false, .bool false, .bool false, .bool true, .bool false] <|
  L.load (.agg lf4) (⟨b1, 0, none⟩) fun (x2 : pt8) =>
  K (.tuple #[(qa2 x2), .bool true])) <|
 L.ite (p0 == 2) (
  L.store (⟨b1, 0, none⟩) [.bool true, .bool false, .bool false, .bool false, .bool false, .bool true] <|
  L.load (.agg lf4) (⟨b1, 0, none⟩) fun (x3 : pt8) =>
  K (.tuple #[(qa2 x3), .bool true])) <|
 L.ite (p0 == 3) (
  L.store (⟨b1, 0, none⟩) [.bool true, .bool true, .bool false, .bool true, .bool false, .bool false] <|
  L.load (.agg lf4) (⟨b1, 0, none⟩) fun (x4 : pt8) =>
  K (.tuple #[(qa2 x4), .bool true])) <|
 L.ite (p0 == 4) (
  L.store (⟨b1, 0, none⟩) [.bool true, .bool true, .bool true, .bool true, .bool false, .bool false] <|
  L.load (.agg lf4) (⟨b1, 0, none⟩) fun (x5 : pt8) =>
  K (.tuple #[(qa2 x5), .bool true])) <|
 L.join (Y := Bool × Unit) (fun k6 =>
  L.ite (p0 == 5) (
   k6 (p0 == 5, ())) <|
  L.ite (p0 == 6) (
   k6 (p0 == 6, ())) <|
  L.ite (p0 == 7) (
   k6 (p0 == 7, ())) <|
  k6 (p0 == 8, ())) fun z7 =>
 L.ite z7.1 (
  L.store (⟨b1, 0, none⟩) [.bool true, .bool false, .bool false, .bool false, .bool false, .bool false] <|
  L.load (.agg lf4) (⟨b1, 0, none⟩) fun (x8 : pt8) =>
  K (.tuple #[(qa2 x8), .bool true])) <|
 L.ite (p0 == 9) (
  L.store (⟨b1, 0, none⟩) [.bool false, .bool false, .bool false, .bool false, .bool false, .bool false] <|
  L.load (.agg lf4) (⟨b1, 0, none⟩) fun (x9 : pt8) =>
  K (.tuple #[(qa2 x9), .bool true])) <|
 L.join (Y := Bool × Unit) (fun k10 =>
  L.ite (p0 == 10) (
   k10 (p0 == 10, ())) <|
  L.ite (p0 == 11) (
   k10 (p0 == 11, ())) <|
  L.ite (p0 == 12) (
   k10 (p0 == 12, ())) <|
  k10 (p0 == 13, ())) fun z11 =>
 L.ite z11.1 (
  L.store (⟨b1, 0, none⟩) [.bool false, .bool true, .bool false, .bool false, .bool false, .bool false] <|
  L.load (.agg lf4) (⟨b1, 0, none⟩) fun (x12 : pt8) =>
  K (.tuple #[(qa2 x12), .bool true])) <|
 L.store (⟨b1, 0, none⟩) [.bool false, .bool false, .bool false, .bool false, .bool false, .bool false] <|
 L.load (.agg lf4) (⟨b1, 0, none⟩) fun (x13 : pt8) =>
 K (.tuple #[(qa2 x13), .bool false])
theorem z8m (p0 : Int) {K : Value → PT} {w : World} (h : z5y p0 K w) : CT Pr z3J [.int .i64 p0] K w :=
 C_of (fn := Tryz.f62) (an := z8u) (args := [.v (.int .i64 p0)]) (by kernel_rfl) (by kernel_rfl) (by kernel_rfl) h
def z40 (p0 : Bool) (p1 : Int) (K : Value → PT) : PT :=
 L.ite p0 (
  K (.bool true)) <|
 K (.bool (p1 == 0))
theorem z6n (p0 : Bool) (p1 : Int) {K : Value → PT} {w : World} (h : z40 p0 p1 K w) : CT Pr z22 [.bool p0, .int .i64 p1] K w :=
 C_of (fn := Tryz.f63) (an := .auto) (args := [.v (.bool p0), .v (.int .i64 p1)]) (by kernel_rfl) (by kernel_rfl) (by kernel_rfl) h
def z3i (p0 : Bool) (p1 : ByteArray) (K : Value → PT) : PT :=
 L.ite p0 (
  K (.bool true)) <|
 K (.bool (p1.toList == s_.toList))
theorem z56 (p0 : Bool) (p1 : ByteArray) {K : Value → PT} {w : World} (h : z3i p0 p1 K w) : CT Pr z1g [.bool p0, .string p1] K w :=
 C_of (fn := Tryz.f64) (an := .auto) (args := [.v (.bool p0), .v (.string p1)]) (by kernel_rfl) (by kernel_rfl) (by kernel_rfl) h
def z2l (p0 : Bool) (p1 : ht0) (K : Value → PT) : PT :=
 L.new [.string p1.1, .int .i64 p1.2.1, .int .i64 p1.2.2.1, .int .i64 p1.2.2.2.1, .int .i64 p1.2.2.2.2.1, .int .i64 p1.2.2.2.2.2.1] z0A fun b1 =>
 L.new [.string s_, .int .i64 0, .int .i64 0, .int .i64 0, .int .i64 0, .int .i64 0] z0A fun b2 =>
 L.ite p0 (
  K (.bool true)) <|
 L.load (.agg lf0) (⟨b1, 0, none⟩) fun (x3 : pt0) =>
 L.load (.agg lf0) (⟨b2, 0, none⟩) fun (x4 : pt0) =>
 L.chkSem Pr (do eqGuard .eql z0A (.tmp 0) (.tmp 0) ((qa0 x3)) ((qa0 x4)); binOp .eql z0A ((qa0 x3)) ((qa0 x4))) (.bool ((x3.1 == x4.1) && ((x3.2.1 == x4.2.1) && ((x3.2.2.1 == x4.2.2.1) && ((x3.2.2.2.1 == x4.2.2.2.1) && ((x3.2.2.2.2.1 == x4.2.2.2.2.1) && ((x3.2.2.2.2.2.1 == x4.2.2.2.2.2.1) && true))))))) <|
 K (.bool ((x3.1 == x4.1) && ((x3.2.1 == x4.2.1) && ((x3.2.2.1 == x4.2.2.1) && ((x3.2.2.2.1 == x4.2.2.2.1) && ((x3.2.2.2.2.1 == x4.2.2.2.2.1) && ((x3.2.2.2.2.2.1 == x4.2.2.2.2.2.1) && true)))))))
theorem z3S (p0 : Bool) (p1 : ht0) {K : Value → PT} {w : World} (h : z2l p0 p1 K w) : CT Pr z1h [.bool p0, (.ag (qc0 p1) : SV).toV] K w :=
 C_of (fn := Tryz.f65) (an := .auto) (args := [.v (.bool p0), .ag (qc0 p1)]) (by kernel_rfl) (by kernel_rfl) (by kernel_rfl) h
def z6b (p0 : ht2) (K : Value → PT) : PT :=
 L.new [.string p0.1, .string p0.2.1, .slice p0.2.2.1.a p0.2.2.1.len p0.2.2.1.cap, .int .i64 p0.2.2.2.1] z3c fun b1 =>
 L.load eS6 ((⟨b1, 0, none⟩ : Addr).add 0) fun (x2 : ByteArray) =>
 L.ite (x2.toList == s_.toList) (
  L.load eS6 ((⟨b1, 0, none⟩ : Addr).add 1) fun (x3 : ByteArray) =>
  L.ite (x3.toList == s_.toList) (
   L.load eI6 ((⟨b1, 0, none⟩ : Addr).add 3) fun (x4 : Int) =>
   L.ite (x4 == 0) (
    L.load eL6 ((⟨b1, 0, none⟩ : Addr).add 2) fun (x5 : Sl) =>
    K (.bool (((x5.len : Nat) : Int) == 0))) <|
   K (.bool false)) <|
  K (.bool false)) <|
 K (.bool false)
theorem z9g (p0 : ht2) {K : Value → PT} {w : World} (h : z6b p0 K w) : CT Pr z4b [(.ag (qc2 p0) : SV).toV] K w :=
 C_of (fn := Tryz.f66) (an := .auto) (args := [.ag (qc2 p0)]) (by kernel_rfl) (by kernel_rfl) (by kernel_rfl) h
def z7i : Ann := (.seq .auto (.seq (.seq .auto (.seq .auto .auto (some [(5, (.one (.bool)))])) none) .auto none) none)
def z4O (p0 : ht1) (K : Value → PT) : PT :=
 L.new [.int .i64 p0.1, .string p0.2.1, .string p0.2.2.1, .int .i64 p0.2.2.2.1, .int .i64 p0.2.2.2.2.1, .string p0.2.2.2.2.2.1, .int .i64 p0.2.2.2.2.2.2.1, .int .i64 p0.2.2.2.2.2.2.2.1, .int .i64 p0.2.2.2.2.2.2.2.2.1, .int .i64 p0.2.2.2.2.2.2.2.2.2.1, .int .i64 p0.2.2.2.2.2.2.2.2.2.2.1, .string p0.2.2.2.2.2.2.2.2.2.2.2.1, .string p0.2.2.2.2.2.2.2.2.2.2.2.2.1, .slice p0.2.2.2.2.2.2.2.2.2.2.2.2.2.1.a p0.2.2.2.2.2.2.2.2.2.2.2.2.2.1.len p0.2.2.2.2.2.2.2.2.2.2.2.2.2.1.cap, .int .i64 p0.2.2.2.2.2.2.2.2.2.2.2.2.2.2.1] z1K fun b1 =>
 L.load eI6 ((⟨b1, 0, none⟩ : Addr).add 0) fun (x2 : Int) =>
 L.join (Y := Bool × Unit) (fun k3 =>
  L.ite (x2 == 1) (
   k3 (x2 == 1, ())) <|
  k3 (x2 == 2, ())) fun z4 =>
 L.ite z4.1 (
  L.load eI6 ((⟨b1, 0, none⟩ : Addr).add 3) fun (x5 : Int) =>
  L.call Pr z0f [.int .i64 x5, .int .i64 0, .int .i64 2147483647] rB fun (x6 : Bool) =>
  K (.bool x6)) <|
 L.ite (x2 == 3) (
  L.load eI6 ((⟨b1, 0, none⟩ : Addr).add 3) fun (x7 : Int) =>
  L.call Pr z0f [.int .i64 x7, .int .i64 1, .int .i64 2] rB fun (x8 : Bool) =>
  K (.bool x8)) <|
 L.load eI6 ((⟨b1, 0, none⟩ : Addr).add 3) fun (x9 : Int) =>
 L.call Pr z0f [.int .i64 x9, .int .i64 1, .int .i64 2147483647] rB fun (x10 : Bool) =>
 K (.bool x10)
theorem z7h (p0 : ht1) {K : Value → PT} {w : World} (h : z4O p0 K w) : CT Pr z3r [(.ag (qc1 p0) : SV).toV] K w :=
 C_of (fn := Tryz.f67) (an := z7i) (args := [.ag (qc1 p0)]) (by kernel_rfl) (by kernel_rfl) (by kernel_rfl) h
def z5z (p0 : ht1) (K : Value → PT) : PT :=
 L.new [.int .i64 p0.1, .string p0.2.1, .string p0.2.2.1, .int .i64 p0.2.2.2.1, .int .i64 p0.2.2.2.2.1, .string p0.2.2.2.2.2.1, .int .i64 p0.2.2.2.2.2.2.1, .int .i64 p0.2.2.2.2.2.2.2.1, .int .i64 p0.2.2.2.2.2.2.2.2.1, .int .i64 p0.2.2.2.2.2.2.2.2.2.1, .int .i64 p0.2.2.2.2.2.2.2.2.2.2.1, .string p0.2.2.2.2.2.2.2.2.2.2.2.1, .string p0.2.2.2.2.2.2.2.2.2.2.2.2.1, .slice p0.2.2.2.2.2.2.2.2.2.2.2.2.2.1.a p0.2.2.2.2.2.2.2.2.2.2.2.2.2.1.len p0.2.2.2.2.2.2.2.2.2.2.2.2.2.1.cap, .int .i64 p0.2.2.2.2.2.2.2.2.2.2.2.2.2.2.1] z1K fun b1 =>
 L.load eI6 ((⟨b1, 0, none⟩ : Addr).add 0) fun (x2 : Int) =>
 L.ite (x2 == 12) (
  L.load eS6 ((⟨b1, 0, none⟩ : Addr).add 1) fun (x3 : ByteArray) =>
  L.call Pr z1M [.string x3] (.tup [eS6, eI6, eB6]) fun (x4 : ByteArray × Int × Bool × Unit) =>
  K (.bool x4.2.2.1)) <|
 L.load eI6 ((⟨b1, 0, none⟩ : Addr).add 0) fun (x5 : Int) =>
 L.ite (x5 == 13) (
  L.load eS6 ((⟨b1, 0, none⟩ : Addr).add 1) fun (x6 : ByteArray) =>
  L.call Pr z1M [.string x6] (.tup [eS6, eI6, eB6]) fun (x7 : ByteArray × Int × Bool × Unit) =>
  K (.bool x7.2.2.1)) <|
 L.load eS6 ((⟨b1, 0, none⟩ : Addr).add 1) fun (x8 : ByteArray) =>
 L.call Pr z1H [.string x8] rB fun (x9 : Bool) =>
 K (.bool x9)
theorem z8n (p0 : ht1) {K : Value → PT} {w : World} (h : z5z p0 K w) : CT Pr z2P [(.ag (qc1 p0) : SV).toV] K w :=
 C_of (fn := Tryz.f68) (an := .auto) (args := [.ag (qc1 p0)]) (by kernel_rfl) (by kernel_rfl) (by kernel_rfl) h
def z6W (p0 : ByteArray) (K : Value → PT) : PT :=
 L.call Pr z2N [.string p0, .int .i64 8] rB fun (x1 : Bool) =>
 K (.bool x1)
theorem z9H (p0 : ByteArray) {K : Value → PT} {w : World} (h : z6W p0 K w) : CT Pr z1f [.string p0] K w :=
 C_of (fn := Tryz.f69) (an := .auto) (args := [.v (.string p0)]) (by kernel_rfl) (by kernel_rfl) (by kernel_rfl) h
def z4N (p0 : Int) (p1 : Int) (p2 : Int) (K : Value → PT) : PT :=
 L.ite (decide (p0 ≥ p1)) (
  K (.bool (decide (p0 ≤ p2)))) <|
 K (.bool false)
theorem z7g (p0 : Int) (p1 : Int) (p2 : Int) {K : Value → PT} {w : World} (h : z4N p0 p1 p2 K w) : CT Pr z0f [.int .i64 p0, .int .i64 p1, .int .i64 p2] K w :=
 C_of (fn := Tryz.f70) (an := .auto) (args := [.v (.int .i64 p0), .v (.int .i64 p1), .v (.int .i64 p2)]) (by kernel_rfl) (by kernel_rfl) (by kernel_rfl) h
def z8s : Ann := (.seq .auto (.seq (.seq .auto (.cond .auto (.seq .auto .auto (some [(8, (.one (.bool)))]))) none) .auto none) none)
def z5v (p0 : ht0) (K : Value → PT) : PT :=
 L.new [.string p0.1, .int .i64 p0.2.1, .int .i64 p0.2.2.1, .int .i64 p0.2.2.2.1, .int .i64 p0.2.2.2.2.1, .int .i64 p0.2.2.2.2.2.1] z0A fun b1 =>
 L.load eS6 ((⟨b1, 0, none⟩ : Addr).add 0) fun (x2 : ByteArray) =>
 L.call Pr z1H [.string x2] rB fun (x3 : Bool) =>
 L.ite (!x3) (
  K (.int .i64 1)) <|
 L.join (Y := Bool × Unit) (fun k4 =>
  L.load eI6 ((⟨b1, 0, none⟩ : Addr).add 1) fun (x6 : Int) =>
  L.call Pr z0o [.agg #[.int .i64 0, .int .i64 255], .int .i64 x6] rB fun (x7 : Bool) =>
  L.ite (!x7) (
   k4 (!x7, ())) <|
  L.load eI6 ((⟨b1, 0, none⟩ : Addr).add 2) fun (x8 : Int) =>
  L.call Pr z0o [.agg #[.int .i64 1, .int .i64 8], .int .i64 x8] rB fun (x9 : Bool) =>
  L.ite (!x9) (
   k4 (!x9, ())) <|
  L.load eI6 ((⟨b1, 0, none⟩ : Addr).add 4) fun (x10 : Int) =>
  L.call Pr z0o [.agg #[.int .i64 1, .int .i64 10], .int .i64 x10] rB fun (x11 : Bool) =>
  L.ite (!x11) (
   k4 (!x11, ())) <|
  L.load eI6 ((⟨b1, 0, none⟩ : Addr).add 4) fun (x12 : Int) =>
  L.load eI6 ((⟨b1, 0, none⟩ : Addr).add 3) fun (x13 : Int) =>
  L.call Pr z0o [.agg #[.int .i64 0, .int .i64 x12], .int .i64 x13] rB fun (x14 : Bool) =>
  L.ite (!x14) (
   k4 (!x14, ())) <|
  L.load eI6 ((⟨b1, 0, none⟩ : Addr).add 5) fun (x15 : Int) =>
  L.call Pr z0o [.agg #[.int .i64 0, .int .i64 30], .int .i64 x15] rB fun (x16 : Bool) =>
  k4 (!x16, ())) fun z5 =>
 L.ite z5.1 (
  K (.int .i64 2)) <|
 K (.int .i64 0)
theorem z8j (p0 : ht0) {K : Value → PT} {w : World} (h : z5v p0 K w) : CT Pr z08 [(.ag (qc0 p0) : SV).toV] K w :=
 C_of (fn := Tryz.f71) (an := z8s) (args := [.ag (qc0 p0)]) (by kernel_rfl) (by kernel_rfl) (by kernel_rfl) h
def z9h : Ann := (.seq .auto (.seq (.seq .auto .auto (some [(6, (.one (.bool)))])) (.seq (.seq .auto (.one [(31, (.one (.int .i64)))] .auto) none) .auto none) none) none)
def z67 (p0 : ht2) (K : Value → PT) : PT :=
 L.new [.string p0.1, .string p0.2.1, .slice p0.2.2.1.a p0.2.2.1.len p0.2.2.1.cap, .int .i64 p0.2.2.2.1] z3c fun b1 =>
 L.join (Y := Bool × Unit) (fun k2 =>
  L.load eS6 ((⟨b1, 0, none⟩ : Addr).add 0) fun (x4 : ByteArray) =>
  L.call Pr z1H [.string x4] rB fun (x5 : Bool) =>
  L.ite (!x5) (
   k2 (!x5, ())) <|
  L.load eS6 ((⟨b1, 0, none⟩ : Addr).add 1) fun (x6 : ByteArray) =>
  L.call Pr z1H [.string x6] rB fun (x7 : Bool) =>
  k2 (!x7, ())) fun z3 =>
 L.ite z3.1 (
  K (.int .i64 1)) <|
 L.load eI6 ((⟨b1, 0, none⟩ : Addr).add 3) fun (x8 : Int) =>
 L.call Pr z0o [.agg #[.int .i64 0, .int .i64 60], .int .i64 x8] rB fun (x9 : Bool) =>
 L.ite (!x9) (
  K (.int .i64 2)) <|
 L.load eL6 ((⟨b1, 0, none⟩ : Addr).add 2) fun (x10 : Sl) =>
 L.call Pr z0o [.agg #[.int .i64 1, .int .i64 6], .int .i64 ((x10.len : Nat) : Int)] rB fun (x11 : Bool) =>
 L.ite (!x11) (
  K (.int .i64 3)) <|
 L.load eL6 ((⟨b1, 0, none⟩ : Addr).add 2) fun (x12 : Sl) =>
 L.loop (Y := Int × Unit) (0, ()) fun y13 again14 =>
 L.ite (decide (y13.1 < ((x12.len : Nat) : Int))) (
  L.idx x12.a y13.1 x12.len 3 fun a15 =>
  L.load (.agg [.str, .str, .int .i64]) a15 fun (x16 : pt9) =>
  L.new [.string s_, .string s_, .int .i64 0] z0k fun b17 =>
  L.store (⟨b17, 0, none⟩) [.string x16.1, .string x16.2.1, .int .i64 x16.2.2.1] <|
  L.load (.agg [.str, .str, .int .i64]) (⟨b17, 0, none⟩) fun (x18 : pt9) =>
  L.call Pr z3I [.agg #[.string x18.1, .string x18.2.1, .int .i64 x18.2.2.1]] rI fun (x19 : Int) =>
  L.ite (x19 != 0) (
   K (.int .i64 x19)) <|
  again14 (IntKind.wrap .i64 (y13.1 + 1), ())) <|
 L.load eL6 ((⟨b1, 0, none⟩ : Addr).add 2) fun (x20 : Sl) =>
 L.call Pr z5J [.slice x20.a x20.len x20.cap] rI fun (x21 : Int) =>
 K (.int .i64 x21)
theorem z9c (p0 : ht2) {K : Value → PT} {w : World} (h : z67 p0 K w) : CT Pr z09 [(.ag (qc2 p0) : SV).toV] K w :=
 C_of (fn := Tryz.f72) (an := z9h) (args := [.ag (qc2 p0)]) (by kernel_rfl) (by kernel_rfl) (by kernel_rfl) h
def z6Z (p0 : Int) (K : Value → PT) : PT :=
 L.ite (p0 == 0) (
  K (.string s_ok)) <|
 L.ite (p0 == 1) (
  K (.string zcR)) <|
 L.ite (p0 == 2) (
  K (.string zdW)) <|
 L.ite (p0 == 3) (
  K (.string zcT)) <|
 L.ite (p0 == 4) (
  K (.string zdU)) <|
 L.ite (p0 == 5) (
  K (.string zba)) <|
 L.ite (p0 == 6) (
  K (.string zcQ)) <|
 K (.string z7M)
theorem z9K (p0 : Int) {K : Value → PT} {w : World} (h : z6Z p0 K w) : CT Pr z6z [.int .i64 p0] K w :=
 C_of (fn := Tryz.f75) (an := .auto) (args := [.v (.int .i64 p0)]) (by kernel_rfl) (by kernel_rfl) (by kernel_rfl) h
def z7F (p0 : Int) (K : Value → PT) : PT :=
 L.ite (p0 == 7) (
  K (.string zbd)) <|
 L.ite (p0 == 8) (
  K (.string zcV)) <|
 L.ite (p0 == 9) (
  K (.string zbc)) <|
 L.ite (p0 == 10) (
  K (.string zdV)) <|
 L.ite (p0 == 11) (
  K (.string zcS)) <|
 L.ite (p0 == 12) (
  K (.string zcU)) <|
 K (.string z7M)
theorem zaS (p0 : Int) {K : Value → PT} {w : World} (h : z7F p0 K w) : CT Pr z7p [.int .i64 p0] K w :=
 C_of (fn := Tryz.f76) (an := .auto) (args := [.v (.int .i64 p0)]) (by kernel_rfl) (by kernel_rfl) (by kernel_rfl) h
def z3V (p0 : Int) (K : Value → PT) : PT :=
 L.call Pr z1N [.int .i64 p0] rS fun (x1 : ByteArray) =>
 L.new [.string x1] z04 fun b2 =>
 L.call Pr z0p [.string s_refused, .slice (some ⟨b2, 0, none⟩) 1 1] rS fun (x3 : ByteArray) =>
 L.new [.string x3] z04 fun b4 =>
 K (.slice (some ⟨b4, 0, none⟩) 1 1)
theorem z6i (p0 : Int) {K : Value → PT} {w : World} (h : z3V p0 K w) : CT Pr z2D [.int .i64 p0] K w :=
 C_of (fn := Tryz.f81) (an := .auto) (args := [.v (.int .i64 p0)]) (by kernel_rfl) (by kernel_rfl) (by kernel_rfl) h
def z8p : Ann := (.seq .auto (.seq (.seq .auto (.seq .auto .auto (some [(8, (.one (.str)))])) none) .auto none) none)
def z5s (p0 : Sl) (p1 : Sl) (K : Value → PT) : PT :=
 L.new [.slice p1.a p1.len p1.cap] z06 fun b1 =>
 L.call Pr z4J [.slice p0.a p0.len p0.cap] (.one (.one (.func))) fun (x2 : FV) =>
 L.range Pr none (.func x2.fn x2.fs x2.cs) [eS6] (fun l3 (y4 : ByteArray × Unit) R5 =>
  L.begin Pr l3 <|
  L.load eL6 (⟨b1, 0, none⟩) fun (x8 : Sl) =>
  L.new [.string y4.1] z04 fun b9 =>
  L.sem Pr (.one (.one .slice)) (Builtin.append_ #[z06, z06] z06 #[.slice x8.a x8.len x8.cap, .slice (some ⟨b9, 0, none⟩) 1 1]) fun (s10 : Sl) =>
  L.store (⟨b1, 0, none⟩) [.slice s10.a s10.len s10.cap] <|
  L.endRound Pr l3 none R5) fun d6 j7 =>
 L.jump j7 (
  L.load eL6 (⟨b1, 0, none⟩) fun (x11 : Sl) =>
  L.call Pr z0q [.slice x11.a x11.len x11.cap] rL fun (x12 : Sl) =>
  L.unmark Pr (d6 ++ []) <|
  K (.slice x12.a x12.len x12.cap)) (
  L.unmark Pr (d6 ++ []) <|
  K (.slice none 0 0)) []
theorem z8g (p0 : Sl) (p1 : Sl) {K : Value → PT} {w : World} (h : z5s p0 p1 K w) : CT Pr z3G [.slice p0.a p0.len p0.cap, .slice p1.a p1.len p1.cap] K w :=
 C_of (fn := Tryz.f85) (an := z8p) (args := [.v (.slice p0.a p0.len p0.cap), .v (.slice p1.a p1.len p1.cap)]) (by kernel_rfl) (by kernel_rfl) (by kernel_rfl) h
def z5X : Ann := (.seq .auto (.seq .auto (.seq (.seq .auto (.one [(5, (.one (.slice))), (14, (.one (.int .i64)))] (.seq .auto (.seq .auto (.seq .auto .auto (some [(5, (.one (.slice)))])) none) none)) none) .auto none) none) none)
def z3B (p0 : ByteArray) (p1 : Sl) (K : Value → PT) : PT :=
 L.new [.string p0] z04 fun b1 =>
 L.loop (Y := Sl × Int × Unit) (⟨some ⟨b1, 0, none⟩, 1, 1⟩, 0, ()) fun y2 again3 =>
 L.ite (decide (y2.2.1 < ((p1.len : Nat) : Int))) (
  L.join (Y := Sl × Unit) (fun k4 =>
   L.idx p1.a y2.2.1 p1.len 1 fun a6 =>
   L.load eI6 a6 fun (x7 : Int) =>
   L.semR Pr (.tup [eS6, .one .bool]) (Instr.typeAssert (.iface z0v (.int .i64 x7)) z4Z z04 true) fun (x8 : ByteArray × Bool × Unit) =>
   L.ite x8.2.1 (
    L.new [.string x8.1] z04 fun b9 =>
    L.sem Pr (.one (.one .slice)) (Builtin.append_ #[z06, z06] z06 #[.slice y2.1.a y2.1.len y2.1.cap, .slice (some ⟨b9, 0, none⟩) 1 1]) fun (s10 : Sl) =>
    k4 (⟨s10.a, s10.len, s10.cap⟩, ())) <|
   L.ite true (
    L.call Pr z1X [.int .i64 x7] rS fun (x11 : ByteArray) =>
    L.new [.string x11] z04 fun b12 =>
    L.sem Pr (.one (.one .slice)) (Builtin.append_ #[z06, z06] z06 #[.slice y2.1.a y2.1.len y2.1.cap, .slice (some ⟨b12, 0, none⟩) 1 1]) fun (s13 : Sl) =>
    k4 (⟨s13.a, s13.len, s13.cap⟩, ())) <|
   k4 (⟨y2.1.a, y2.1.len, y2.1.cap⟩, ())) fun z5 =>
  again3 (⟨z5.1.a, z5.1.len, z5.1.cap⟩, IntKind.wrap .i64 (y2.2.1 + 1), ())) <|
 L.call Pr z3q [.slice y2.1.a y2.1.len y2.1.cap, .string z5c] rS fun (x14 : ByteArray) =>
 K (.string x14)
theorem z5U (p0 : ByteArray) (p1 : Sl) {K : Value → PT} {w : World} (h : z3B p0 p1 K w) : CT Pr z0h [.string p0, .slice p1.a p1.len p1.cap] K w :=
 C_of (fn := Tryz.f86) (an := z5X) (args := [.v (.string p0), .v (.slice p1.a p1.len p1.cap)]) (by kernel_rfl) (by kernel_rfl) (by kernel_rfl) h
def z6p : Ann := (.seq .auto (.seq .auto (.seq (.seq .auto (.seq .auto (.seq .auto (.one [(20, (.one (.int .i64)))] .auto) none) (some [(14, (.one (.str))), (15, (.one (.ptr)))])) none) .auto none) none) none)
def z3Y (p0 : Option Addr) (p1 : Int) (K : Value → PT) : PT :=
 L.new [.pointer p0] z15 fun b1 =>
 L.new [.int .i64 p1] z0v fun b2 =>
 L.new [.slice none 0 0] z0b fun b3 =>
 L.load eP6 (⟨b1, 0, none⟩) fun (x4 : Option Addr) =>
 L.nonnil x4 fun a5 =>
 L.call Pr z1P [.pointer (some (a5.add 2))] (.one (.one (.func))) fun (x6 : FV) =>
 L.range Pr none (.func x6.fn x6.fs x6.cs) [eS6, eP6] (fun l7 (y8 : ByteArray × Option Addr × Unit) R9 =>
  L.begin Pr l7 <|
  L.load eI6 (⟨b2, 0, none⟩) fun (x12 : Int) =>
  L.call Pr z2C [.pointer y8.2.1, .int .i64 x12] rL fun (x13 : Sl) =>
  L.loop (Y := Int × Unit) (0, ()) fun y14 again15 =>
  L.ite (decide (y14.1 < ((x13.len : Nat) : Int))) (
   L.idx x13.a y14.1 x13.len 1 fun a16 =>
   L.load eI6 a16 fun (x17 : Int) =>
   L.draw <|
   L.load eL6 (⟨b3, 0, none⟩) fun (x18 : Sl) =>
   L.load eP6 (⟨b1, 0, none⟩) fun (x19 : Option Addr) =>
   L.call Pr z5L [.string z45] (.one (.agg [.int .i64, .int .i64, .int .i64, .str])) fun (x20 : pt10) =>
   L.chk (⟨b1, 0, none⟩) [.pointer x19] <|
   L.chk (⟨b3, 0, none⟩) [.slice x18.a x18.len x18.cap] <|
   L.call Pr z34 [.pointer x19, .int .i64 x17, .string y8.1, .agg #[.int .i64 x20.1, .int .i64 x20.2.1, .int .i64 x20.2.2.1, .string x20.2.2.2.1]] (.one (.agg [.int .i64, .int .i64, .int .i64, .str])) fun (x21 : pt10) =>
   L.chk (⟨b3, 0, none⟩) [.slice x18.a x18.len x18.cap] <|
   L.new [.int .i64 x21.1, .int .i64 x21.2.1, .int .i64 x21.2.2.1, .string x21.2.2.2.1] z0y fun b22 =>
   L.chk (⟨b3, 0, none⟩) [.slice x18.a x18.len x18.cap] <|
   L.sem Pr (.one (.one .slice)) (Builtin.append_ #[z0b, z0b] z0b #[.slice x18.a x18.len x18.cap, .slice (some ⟨b22, 0, none⟩) 1 1]) fun (s23 : Sl) =>
   L.store (⟨b3, 0, none⟩) [.slice s23.a s23.len s23.cap] <|
   again15 (IntKind.wrap .i64 (y14.1 + 1), ())) <|
  L.endRound Pr l7 none R9) fun d10 j11 =>
 L.jump j11 (
  L.load eL6 (⟨b3, 0, none⟩) fun (x24 : Sl) =>
  L.call Pr z0B [.slice x24.a x24.len x24.cap] rL fun (x25 : Sl) =>
  L.unmark Pr (d10 ++ []) <|
  K (.slice x25.a x25.len x25.cap)) (
  L.unmark Pr (d10 ++ []) <|
  K (.slice none 0 0)) []
theorem z6l (p0 : Option Addr) (p1 : Int) {K : Value → PT} {w : World} (h : z3Y p0 p1 K w) : CT Pr z2F [.pointer p0, .int .i64 p1] K w :=
 C_of (fn := Tryz.f95) (an := z6p) (args := [.v (.pointer p0), .v (.int .i64 p1)]) (by kernel_rfl) (by kernel_rfl) (by kernel_rfl) h
def z3C (p0 : Option Addr) (p1 : Int) (K : Value → PT) : PT :=
 L.nonnil p0 fun a1 =>
 L.call Pr z1V [.pointer (some (a1.add 0)), .int .i64 (if 0 > p1 then 0 else p1)] (.tup []) fun (x2 : Unit) =>
 L.nonnil p0 fun a3 =>
 L.load eI6 (a3.add 61) fun (x4 : Int) =>
 L.nonnil p0 fun a5 =>
 L.store (a5.add 61) [.int .i64 (IntKind.wrap .i64 (x4 + 1))] <|
 L.ite (decide ((if 0 > p1 then 0 else p1) > 0)) (
  L.nonnil p0 fun a6 =>
  L.store (a6.add 61) [.int .i64 0] <|
  K (.tuple #[])) <|
 K (.tuple #[])
theorem z5V (p0 : Option Addr) (p1 : Int) {K : Value → PT} {w : World} (h : z3C p0 p1 K w) : CT Pr z2t [.pointer p0, .int .i64 p1] K w :=
 C_of (fn := Tryz.f96) (an := .auto) (args := [.v (.pointer p0), .v (.int .i64 p1)]) (by kernel_rfl) (by kernel_rfl) (by kernel_rfl) h
def z3Z (p0 : Option Addr) (p1 : ByteArray) (K : Value → PT) : PT :=
 L.call Pr z2g [.pointer p0, .string p1] (.tup [eL6, eL6]) fun (x1 : Sl × Sl × Unit) =>
 K (.int .i64 (IntKind.wrap .i64 (((x1.1.len : Nat) : Int) + ((x1.2.1.len : Nat) : Int))))
theorem z6m (p0 : Option Addr) (p1 : ByteArray) {K : Value → PT} {w : World} (h : z3Z p0 p1 K w) : CT Pr z2G [.pointer p0, .string p1] K w :=
 C_of (fn := Tryz.f97) (an := .auto) (args := [.v (.pointer p0), .v (.string p1)]) (by kernel_rfl) (by kernel_rfl) (by kernel_rfl) h
def z7a : Ann := (.seq .auto (.seq .auto (.seq (.seq .auto (.seq .auto .auto (some [(12, (.one (.int .i64))), (13, (.one (.int .i64)))])) none) .auto none) none) none)
def z4k (p0 : Option Addr) (K : Value → PT) : PT :=
 L.call Pr z30 [.pointer p0] rI fun (x1 : Int) =>
 L.sem Pr (.one (.one .slice)) (Instr.makeSlice z1k (.int .i64 0) (.int .i64 x1)) fun (s2 : Sl) =>
 L.new [.slice none 0 0] z1k fun b3 =>
 L.store (⟨b3, 0, none⟩) [.slice s2.a s2.len s2.cap] <|
 L.nonnil p0 fun a4 =>
 L.call Pr z1d [.pointer (some (a4.add 0))] (.one (.one (.func))) fun (x5 : FV) =>
 L.range Pr none (.func x5.fn x5.fs x5.cs) [eI6, eI6] (fun l6 (y7 : Int × Int × Unit) R8 =>
  L.begin Pr l6 <|
  L.load eL6 (⟨b3, 0, none⟩) fun (x11 : Sl) =>
  L.new [.int .i64 y7.1] z0v fun b12 =>
  L.sem Pr (.one (.one .slice)) (Builtin.append_ #[z1k, z1k] z1k #[.slice x11.a x11.len x11.cap, .slice (some ⟨b12, 0, none⟩) 1 1]) fun (s13 : Sl) =>
  L.store (⟨b3, 0, none⟩) [.slice s13.a s13.len s13.cap] <|
  L.endRound Pr l6 none R8) fun d9 j10 =>
 L.jump j10 (
  L.load eL6 (⟨b3, 0, none⟩) fun (x14 : Sl) =>
  L.unmark Pr (d9 ++ []) <|
  K (.slice x14.a x14.len x14.cap)) (
  L.unmark Pr (d9 ++ []) <|
  K (.slice none 0 0)) []
theorem z77 (p0 : Option Addr) {K : Value → PT} {w : World} (h : z4k p0 K w) : CT Pr z32 [.pointer p0] K w :=
 C_of (fn := Tryz.f114) (an := z7a) (args := [.v (.pointer p0)]) (by kernel_rfl) (by kernel_rfl) (by kernel_rfl) h
def z1u (p0 : Sl) (K : Value → PT) : PT :=
 L.ite ((p0.a).isNone) (
  K (.slice none 0 0)) <|
 L.new [] z0v fun b1 =>
 L.sem Pr (.one (.one .slice)) (Builtin.append_ #[z1k, z1k] z1k #[.slice (some ⟨b1, 0, none⟩) 0 0, .slice p0.a p0.len p0.cap]) fun (s2 : Sl) =>
 K (.slice s2.a s2.len s2.cap)
theorem z2r (p0 : Sl) {K : Value → PT} {w : World} (h : z1u p0 K w) : CT Pr z0z [.slice p0.a p0.len p0.cap] K w :=
 C_of (fn := Tryz.f115) (an := .auto) (args := [.v (.slice p0.a p0.len p0.cap)]) (by kernel_rfl) (by kernel_rfl) (by kernel_rfl) h
def z2k (p0 : FV) (K : Value → PT) : PT :=
 L.sem Pr (.one (.one .map)) (Instr.makeMap z25 none) fun (m1 : Option Nat) =>
 L.new [.map m1, .func p0.fn p0.fs p0.cs] z2i fun b2 =>
 K (.pointer (some (⟨b2, 0, none⟩)))
theorem z3R (p0 : FV) {K : Value → PT} {w : World} (h : z2k p0 K w) : CT Pr z1e [.func p0.fn p0.fs p0.cs] K w :=
 C_of (fn := Tryz.f120) (an := .auto) (args := [.v (.func p0.fn p0.fs p0.cs)]) (by kernel_rfl) (by kernel_rfl) (by kernel_rfl) h
def z2q (p0 : FV) (K : Value → PT) : PT :=
 L.sem Pr (.one (.one .map)) (Instr.makeMap z2c none) fun (m1 : Option Nat) =>
 L.new [.map m1, .func p0.fn p0.fs p0.cs] z1t fun b2 =>
 K (.pointer (some (⟨b2, 0, none⟩)))
theorem z42 (p0 : FV) {K : Value → PT} {w : World} (h : z2q p0 K w) : CT Pr z1s [.func p0.fn p0.fs p0.cs] K w :=
 C_of (fn := Tryz.f122) (an := .auto) (args := [.v (.func p0.fn p0.fs p0.cs)]) (by kernel_rfl) (by kernel_rfl) (by kernel_rfl) h
def z17 (p0 : Option Nat) (K : Value → PT) : PT :=
 L.call Pr z0m [.map p0] (.one (.one (.func))) fun (x1 : FV) =>
 L.call Pr z0H [.func x1.fn x1.fs x1.cs] rL fun (x2 : Sl) =>
 K (.slice x2.a x2.len x2.cap)
theorem z2m (p0 : Option Nat) {K : Value → PT} {w : World} (h : z17 p0 K w) : CT Pr z0F [.map p0] K w :=
 C_of (fn := Tryz.f126) (an := .auto) (args := [.v (.map p0)]) (by kernel_rfl) (by kernel_rfl) (by kernel_rfl) h
def z5x (p0 : Option Addr) (K : Value → PT) : PT :=
 L.new [.pointer p0] z0e fun b1 =>
 L.new [.func (.func z39) #[] #[], .func (.func z38) #[] #[], .func (.func z36) #[] #[.pointer (some (⟨b1, 0, none⟩))], .func (.func z35) #[] #[.pointer (some (⟨b1, 0, none⟩))]] z1Y fun b2 =>
 L.new [.slice none 0 0] z0c fun b3 =>
 L.store (⟨b3, 0, none⟩) [.slice (some ⟨b2, 0, none⟩) 4 4] <|
 K (.func (.func z1I) #[] #[.pointer (some (⟨b3, 0, none⟩)), .pointer (some (⟨b1, 0, none⟩))])
theorem z8l (p0 : Option Addr) {K : Value → PT} {w : World} (h : z5x p0 K w) : CT Pr z5i [.pointer p0] K w :=
 C_of (fn := Tryz.f127) (an := .auto) (args := [.v (.pointer p0)]) (by kernel_rfl) (by kernel_rfl) (by kernel_rfl) h
def z3O (p0 : ByteArray) (K : Value → PT) : PT :=
 L.call Pr z33 [.string p0, .string s__] rI fun (x1 : Int) =>
 L.ite (decide (x1 < 0)) (
  K (.tuple #[.string s_, .int .i64 0, .bool false])) <|
 L.guard ((0 : Int) ≤ (IntKind.wrap .i64 (x1 + 1)) ∧ (IntKind.wrap .i64 (x1 + 1)) ≤ (p0.size : Int) ∧ (p0.size : Int) ≤ p0.size) <|
 L.call Pr z4K [.string (p0.extract (Int.toNat (IntKind.wrap .i64 (x1 + 1))) (Int.toNat (p0.size : Int)))] (.tup [eI6, (.one (.iface))]) fun (x2 : pt18) =>
 L.ite (!(x2.2.1).isNone) (
  K (.tuple #[.string s_, .int .i64 0, .bool false])) <|
 L.guard ((0 : Int) ≤ 0 ∧ 0 ≤ x1 ∧ x1 ≤ p0.size) <|
 L.call Pr z4T [.string (p0.extract (Int.toNat 0) (Int.toNat x1)), .int .i64 x2.1] rS fun (x3 : ByteArray) =>
 L.ite (!(x3.toList == p0.toList)) (
  K (.tuple #[.string s_, .int .i64 0, .bool false])) <|
 L.guard ((0 : Int) ≤ 0 ∧ 0 ≤ x1 ∧ x1 ≤ p0.size) <|
 K (.tuple #[.string (p0.extract (Int.toNat 0) (Int.toNat x1)), .int .i64 x2.1, .bool true])
theorem z5C (p0 : ByteArray) {K : Value → PT} {w : World} (h : z3O p0 K w) : CT Pr z1M [.string p0] K w :=
 C_of (fn := Tryz.f128) (an := .auto) (args := [.v (.string p0)]) (by kernel_rfl) (by kernel_rfl) (by kernel_rfl) h
def z69 (p0 : ByteArray) (K : Value → PT) : PT :=
 L.call Pr z2N [.string p0, .int .i64 16] rB fun (x1 : Bool) =>
 K (.bool x1)
theorem z9e (p0 : ByteArray) {K : Value → PT} {w : World} (h : z69 p0 K w) : CT Pr z1H [.string p0] K w :=
 C_of (fn := Tryz.f129) (an := .auto) (args := [.v (.string p0)]) (by kernel_rfl) (by kernel_rfl) (by kernel_rfl) h
def z8t : Ann := (.seq .auto (.seq .auto (.seq (.seq .auto (.one [(5, (.one (.int .i32)))] (.seq .auto (.seq (.cond .auto .auto) (.seq .auto (.seq (.seq .auto (.cond .auto .auto) none) .auto (some [])) none) none) none)) none) .auto none) none) none)
def z5w (p0 : ByteArray) (p1 : Int) (K : Value → PT) : PT :=
 L.sem Pr (.one (.one .ptr)) (Instr.range z04 (.string p0)) fun (it1 : Option Addr) =>
 L.loop (Y := Int × Unit) (45, ()) fun y2 again3 =>
 L.next Pr [eI6, (.one (.int .i32))] (Instr.next (.pointer it1) true T_) (
  L.ite (y2.1 != 45) (
   K (.bool (decide ((p0.size : Int) ≤ p1)))) <|
  K (.bool false)) fun (x4 : Int × Int × Unit) =>
 L.join (Y := Unit) (fun k5 =>
  L.call Pr z49 [.int .i32 x4.2.1] rB fun (x7 : Bool) =>
  L.ite (!x7) (
   K (.bool false)) <|
  L.ite (x4.1 == 0) (
   L.call Pr z2w [.int .i32 x4.2.1] rB fun (x8 : Bool) =>
   L.ite (!x8) (
    K (.bool false)) <|
   k5 (())) <|
  k5 (())) fun z6 =>
 again3 (x4.2.1, ())
theorem z8k (p0 : ByteArray) (p1 : Int) {K : Value → PT} {w : World} (h : z5w p0 p1 K w) : CT Pr z2N [.string p0, .int .i64 p1] K w :=
 C_of (fn := Tryz.f130) (an := z8t) (args := [.v (.string p0), .v (.int .i64 p1)]) (by kernel_rfl) (by kernel_rfl) (by kernel_rfl) h
def z3h (p0 : HT [.int .i64, .int .i64]) (p1 : Int) (K : Value → PT) : PT :=
 L.new [.int .i64 p0.1, .int .i64 p0.2.1] z6Q fun b1 =>
 L.load eI6 ((⟨b1, 0, none⟩ : Addr).add 0) fun (x2 : Int) =>
 L.ite (decide (p1 ≥ x2)) (
  L.load eI6 ((⟨b1, 0, none⟩ : Addr).add 1) fun (x3 : Int) =>
  K (.bool (decide (p1 ≤ x3)))) <|
 K (.bool false)
theorem z4p (p0 : HT [.int .i64, .int .i64]) (p1 : Int) {K : Value → PT} {w : World} (h : z3h p0 p1 K w) : CT Pr z0o [(.ag [.int .i64 p0.1, .int .i64 p0.2.1] : SV).toV, .int .i64 p1] K w :=
 C_of (fn := Tryz.f131) (an := .auto) (args := [.ag [.int .i64 p0.1, .int .i64 p0.2.1], .v (.int .i64 p1)]) (by kernel_rfl) (by kernel_rfl) (by kernel_rfl) h
theorem z71 : Enters Pr z0o := z1j (by kernel_rfl)
def z8r : Ann := (.seq .auto (.seq .auto (.seq .auto (.seq (.seq (.seq .auto (.cond .auto .auto) none) .auto (some [(16, (.one (.bool)))])) .auto none) none) none) none)
def z5u (p0 : HT [.str, .str, .int .i64]) (K : Value → PT) : PT :=
 L.new [.string p0.1, .string p0.2.1, .int .i64 p0.2.2.1] z0k fun b1 =>
 L.load eS6 ((⟨b1, 0, none⟩ : Addr).add 0) fun (x2 : ByteArray) =>
 L.call Pr z1M [.string x2] (.tup [eS6, eI6, eB6]) fun (x3 : ByteArray × Int × Bool × Unit) =>
 L.join (Y := Bool × Unit) (fun k4 =>
  L.load eS6 ((⟨b1, 0, none⟩ : Addr).add 0) fun (x6 : ByteArray) =>
  L.ite (!(x6.toList == s_.toList)) (
   L.ite (!x3.2.2.1) (
    k4 (!x3.2.2.1, ())) <|
   L.load eS6 ((⟨b1, 0, none⟩ : Addr).add 1) fun (x7 : ByteArray) =>
   L.ite (!(x7.toList == s_.toList)) (
    L.load eS6 ((⟨b1, 0, none⟩ : Addr).add 1) fun (x8 : ByteArray) =>
    L.call Pr z1f [.string x8] rB fun (x9 : Bool) =>
    k4 (!x9, ())) <|
   k4 (false, ())) <|
  L.load eS6 ((⟨b1, 0, none⟩ : Addr).add 1) fun (x10 : ByteArray) =>
  L.ite (!(x10.toList == s_.toList)) (
   L.load eS6 ((⟨b1, 0, none⟩ : Addr).add 1) fun (x11 : ByteArray) =>
   L.call Pr z1f [.string x11] rB fun (x12 : Bool) =>
   k4 (!x12, ())) <|
  k4 (false, ())) fun z5 =>
 L.ite z5.1 (
  K (.int .i64 1)) <|
 L.load eI6 ((⟨b1, 0, none⟩ : Addr).add 2) fun (x13 : Int) =>
 L.callV Pr (.func (.func z0o) #[.agg #[.int .i64 0, .int .i64 100]] #[]) [.int .i64 x13] rB fun (x14 : Bool) =>
 L.ite (!x14) (
  K (.int .i64 2)) <|
 K (.int .i64 0)
theorem z8i (p0 : HT [.str, .str, .int .i64]) {K : Value → PT} {w : World} (h : z5u p0 K w) : CT Pr z3I [(.ag [.string p0.1, .string p0.2.1, .int .i64 p0.2.2.1] : SV).toV] K w :=
 C_of (fn := Tryz.f132) (an := z8r) (args := [.ag [.string p0.1, .string p0.2.1, .int .i64 p0.2.2.1]]) (by kernel_rfl) (by kernel_rfl) (by kernel_rfl) h
def zaT : Ann := (.seq .auto (.seq .auto (.seq (.seq .auto (.one [(3, (.one (.int .i64))), (8, (.one (.int .i64)))] (.seq .auto (.seq .auto (.seq (.seq .auto (.seq .auto (.seq .auto (.cond .auto .auto) none) none) none) .auto (some [(3, (.one (.int .i64)))])) none) none)) none) .auto none) none) none)
def z7B (p0 : Sl) (K : Value → PT) : PT :=
 L.loop (Y := Int × Int × Unit) (0, 0, ()) fun y1 again2 =>
 L.ite (decide (y1.2.1 < ((p0.len : Nat) : Int))) (
  L.join (Y := Int × Unit) (fun k3 =>
   L.idx p0.a y1.2.1 p0.len 3 fun a5 =>
   L.load (.agg [.str, .str, .int .i64]) a5 fun (x6 : pt9) =>
   L.new [.string s_, .string s_, .int .i64 0] z0k fun b7 =>
   L.store (⟨b7, 0, none⟩) [.string x6.1, .string x6.2.1, .int .i64 x6.2.2.1] <|
   L.load eI6 ((⟨b7, 0, none⟩ : Addr).add 2) fun (x8 : Int) =>
   L.load eS6 ((⟨b7, 0, none⟩ : Addr).add 1) fun (x9 : ByteArray) =>
   L.ite (!(x9.toList == s_.toList)) (
    L.guard (0 ≤ (0 : Int) ∧ (0 : Int) ≤ y1.2.1 ∧ y1.2.1 ≤ ((p0.cap : Nat) : Int) ∧ ((p0.cap : Nat) : Int) ≤ p0.cap) <|
    L.call Pr z0l [.slice (if Int.toNat ((p0.cap : Nat) : Int) = Int.toNat (0 : Int) then p0.a else Option.map (fun a : Addr => a.add (Int.toNat (0 : Int) * 3)) p0.a) (Int.toNat y1.2.1 - Int.toNat (0 : Int)) (Int.toNat ((p0.cap : Nat) : Int) - Int.toNat (0 : Int)), .func (.func z29) #[] #[.pointer (some (⟨b7, 0, none⟩))]] rB fun (x10 : Bool) =>
    L.ite x10 (
     K (.int .i64 5)) <|
    k3 (IntKind.wrap .i64 (y1.1 + x8), ())) <|
   k3 (IntKind.wrap .i64 (y1.1 + x8), ())) fun z4 =>
  again2 (z4.1, IntKind.wrap .i64 (y1.2.1 + 1), ())) <|
 L.ite (y1.1 != 100) (
  K (.int .i64 4)) <|
 K (.int .i64 0)
theorem zaO (p0 : Sl) {K : Value → PT} {w : World} (h : z7B p0 K w) : CT Pr z5J [.slice p0.a p0.len p0.cap] K w :=
 C_of (fn := Tryz.f133) (an := zaT) (args := [.v (.slice p0.a p0.len p0.cap)]) (by kernel_rfl) (by kernel_rfl) (by kernel_rfl) h
def z7D (p0 : ByteArray) (K : Value → PT) : PT :=
 L.new [.int .i64 0, .int .i64 0, .int .i64 0, .string s_] z0y fun b1 =>
 L.store (⟨b1, 0, none⟩) [.int .i64 0, .int .i64 4, .int .i64 0, .string p0] <|
 L.load (.agg [.int .i64, .int .i64, .int .i64, .str]) (⟨b1, 0, none⟩) fun (x2 : pt10) =>
 K (.agg #[.int .i64 x2.1, .int .i64 x2.2.1, .int .i64 x2.2.2.1, .string x2.2.2.2.1])
theorem zaQ (p0 : ByteArray) {K : Value → PT} {w : World} (h : z7D p0 K w) : CT Pr z5L [.string p0] K w :=
 C_of (fn := Tryz.f149) (an := .auto) (args := [.v (.string p0)]) (by kernel_rfl) (by kernel_rfl) (by kernel_rfl) h
def z4l (p0 : Option Addr) (p1 : Int) (p2 : ByteArray) (p3 : ht3) (K : Value → PT) : PT :=
 L.new [.int .i64 p3.1, .int .i64 p3.2.1, .int .i64 p3.2.2.1, .string p3.2.2.2.1] z0y fun b1 =>
 L.new [.int .i64 0, .int .i64 0, .int .i64 0, .string s_] z0y fun b2 =>
 L.store ((⟨b1, 0, none⟩ : Addr).add 0) [.int .i64 p1] <|
 L.draw <|
 L.nonnil p0 fun a3 =>
 L.load (.one (.map)) (a3.add 1) fun (x4 : Option Nat) =>
 L.load eI6 ((⟨b1, 0, none⟩ : Addr).add 1) fun (x5 : Int) =>
 L.semU Pr (Instr.mapUpdate z0Z (.map x4) (.int .i64 p1) (.agg #[.string p2, .int .i64 x5])) <|
 L.load (.agg [.int .i64, .int .i64, .int .i64, .str]) (⟨b1, 0, none⟩) fun (x6 : pt10) =>
 L.store (⟨b2, 0, none⟩) [.int .i64 x6.1, .int .i64 x6.2.1, .int .i64 x6.2.2.1, .string x6.2.2.2.1] <|
 L.load (.agg [.int .i64, .int .i64, .int .i64, .str]) (⟨b2, 0, none⟩) fun (x7 : pt10) =>
 K (.agg #[.int .i64 x7.1, .int .i64 x7.2.1, .int .i64 x7.2.2.1, .string x7.2.2.2.1])
theorem z78 (p0 : Option Addr) (p1 : Int) (p2 : ByteArray) (p3 : ht3) {K : Value → PT} {w : World} (h : z4l p0 p1 p2 p3 K w) : CT Pr z34 [.pointer p0, .int .i64 p1, .string p2, (.ag (qc3 p3) : SV).toV] K w :=
 C_of (fn := Tryz.f150) (an := .auto) (args := [.v (.pointer p0), .v (.int .i64 p1), .v (.string p2), .ag (qc3 p3)]) (by kernel_rfl) (by kernel_rfl) (by kernel_rfl) h
def z4j (p0 : Option Addr) (K : Value → PT) : PT :=
 L.nonnil p0 fun a1 =>
 L.load eL6 ((a1.add 0).add 0) fun (x2 : Sl) =>
 K (.int .i64 ((x2.len : Nat) : Int))
theorem z74 (p0 : Option Addr) {K : Value → PT} {w : World} (h : z4j p0 K w) : CT Pr z30 [.pointer p0] K w :=
 C_of (fn := Tryz.f152) (an := .auto) (args := [.v (.pointer p0)]) (by kernel_rfl) (by kernel_rfl) (by kernel_rfl) h
def z4L (p0 : Sl) (K : Value → PT) : PT :=
 L.new [.slice p0.a p0.len p0.cap] z0b fun b1 =>
 K (.func (.func z1m) #[] #[.pointer (some (⟨b1, 0, none⟩))])
theorem z7e (p0 : Sl) {K : Value → PT} {w : World} (h : z4L p0 K w) : CT Pr z4J [.slice p0.a p0.len p0.cap] K w :=
 C_of (fn := Tryz.f155) (an := .auto) (args := [.v (.slice p0.a p0.len p0.cap)]) (by kernel_rfl) (by kernel_rfl) (by kernel_rfl) h
def z10 (p0 : Sl) (K : Value → PT) : PT :=
 L.ite ((p0.a).isNone) (
  K (.slice none 0 0)) <|
 L.new [] z0y fun b1 =>
 L.sem Pr (.one (.one .slice)) (Builtin.append_ #[z0b, z0b] z0b #[.slice (some ⟨b1, 0, none⟩) 0 0, .slice p0.a p0.len p0.cap]) fun (s2 : Sl) =>
 K (.slice s2.a s2.len s2.cap)
theorem z2d (p0 : Sl) {K : Value → PT} {w : World} (h : z10 p0 K w) : CT Pr z0B [.slice p0.a p0.len p0.cap] K w :=
 C_of (fn := Tryz.f159) (an := .auto) (args := [.v (.slice p0.a p0.len p0.cap)]) (by kernel_rfl) (by kernel_rfl) (by kernel_rfl) h
def z1Q (p0 : Option Addr) (K : Value → PT) : PT :=
 L.new [.pointer p0] z0a fun b1 =>
 K (.func (.func z0r) #[] #[.pointer (some (⟨b1, 0, none⟩))])
theorem z3k (p0 : Option Addr) {K : Value → PT} {w : World} (h : z1Q p0 K w) : CT Pr z1P [.pointer p0] K w :=
 C_of (fn := Tryz.f162) (an := .auto) (args := [.v (.pointer p0)]) (by kernel_rfl) (by kernel_rfl) (by kernel_rfl) h
def z3U (p0 : Option Addr) (p1 : Int) (K : Value → PT) : PT :=
 L.nonnil p0 fun a1 =>
 L.call Pr z2Z [.pointer (some (a1.add 0)), .int .i64 p1] rL fun (x2 : Sl) =>
 K (.slice x2.a x2.len x2.cap)
theorem z6h (p0 : Option Addr) (p1 : Int) {K : Value → PT} {w : World} (h : z3U p0 p1 K w) : CT Pr z2C [.pointer p0, .int .i64 p1] K w :=
 C_of (fn := Tryz.f163) (an := .auto) (args := [.v (.pointer p0), .v (.int .i64 p1)]) (by kernel_rfl) (by kernel_rfl) (by kernel_rfl) h
def z2I (p0 : Option Addr) (p1 : Int) (K : Value → PT) : PT :=
 L.draw <|
 L.nonnil p0 fun a1 =>
 L.load eI6 (a1.add 60) fun (x2 : Int) =>
 L.guard (60 ≠ (0 : Int)) <|
 L.nonnil p0 fun a3 =>
 L.idx (some (a3.add 0)) (Int.tmod x2 60) 60 1 fun a4 =>
 L.store a4 [.int .i64 p1] <|
 L.nonnil p0 fun a5 =>
 L.load eI6 (a5.add 60) fun (x6 : Int) =>
 L.nonnil p0 fun a7 =>
 L.store (a7.add 60) [.int .i64 (IntKind.wrap .i64 (x6 + 1))] <|
 K (.tuple #[])
theorem z4C (p0 : Option Addr) (p1 : Int) {K : Value → PT} {w : World} (h : z2I p0 p1 K w) : CT Pr z1V [.pointer p0, .int .i64 p1] K w :=
 C_of (fn := Tryz.f164) (an := .auto) (args := [.v (.pointer p0), .v (.int .i64 p1)]) (by kernel_rfl) (by kernel_rfl) (by kernel_rfl) h
def z6X (p0 : ByteArray) (p1 : Int) (K : Value → PT) : PT :=
 L.call Pr z1H [.string p0] rB fun (x1 : Bool) =>
 L.ite (!x1) (
  K (.string s_)) <|
 L.ite (decide (p1 < 1)) (
  K (.string s_)) <|
 L.ite (decide (p1 > 999999)) (
  K (.string s_)) <|
 L.guard (((p0.size + s__.size : Nat) : Int) ≤ maxI64) <|
 L.call Pr z1X [.int .i64 p1] rS fun (x2 : ByteArray) =>
 L.guard ((((p0 ++ s__).size + x2.size : Nat) : Int) ≤ maxI64) <|
 K (.string ((p0 ++ s__) ++ x2))
theorem z9I (p0 : ByteArray) (p1 : Int) {K : Value → PT} {w : World} (h : z6X p0 p1 K w) : CT Pr z4T [.string p0, .int .i64 p1] K w :=
 C_of (fn := Tryz.f166) (an := .auto) (args := [.v (.string p0), .v (.int .i64 p1)]) (by kernel_rfl) (by kernel_rfl) (by kernel_rfl) h
def z3f (p0 : Option Addr) (K : Value → PT) : PT :=
 L.new [.pointer p0] z1o fun b1 =>
 K (.func (.func z0R) #[] #[.pointer (some (⟨b1, 0, none⟩))])
theorem z54 (p0 : Option Addr) {K : Value → PT} {w : World} (h : z3f p0 K w) : CT Pr z1d [.pointer p0] K w :=
 C_of (fn := Tryz.f186) (an := .auto) (args := [.v (.pointer p0)]) (by kernel_rfl) (by kernel_rfl) (by kernel_rfl) h
def z2p (p0 : FV) (K : Value → PT) : PT :=
 L.call Pr z2f [.func p0.fn p0.fs p0.cs] rL fun (x1 : Sl) =>
 L.call Pr z1G [.slice x1.a x1.len x1.cap] (.tup []) fun (x2 : Unit) =>
 K (.slice x1.a x1.len x1.cap)
theorem z41 (p0 : FV) {K : Value → PT} {w : World} (h : z2p p0 K w) : CT Pr z0H [.func p0.fn p0.fs p0.cs] K w :=
 C_of (fn := Tryz.f192) (an := .auto) (args := [.v (.func p0.fn p0.fs p0.cs)]) (by kernel_rfl) (by kernel_rfl) (by kernel_rfl) h
def z0n (p0 : Option Nat) (K : Value → PT) : PT :=
 L.new [.map p0] z0w fun b1 =>
 K (.func (.func z02) #[] #[.pointer (some (⟨b1, 0, none⟩))])
theorem z0S (p0 : Option Nat) {K : Value → PT} {w : World} (h : z0n p0 K w) : CT Pr z0m [.map p0] K w :=
 C_of (fn := Tryz.f193) (an := .auto) (args := [.v (.map p0)]) (by kernel_rfl) (by kernel_rfl) (by kernel_rfl) h
def z7b : Ann := (.seq (.seq .auto (.one [(12, (.one (.int .i64)))] (.seq .auto (.seq .auto (.seq (.seq .auto (.seq .auto (.one [(19, (.one (.int .i64)))] (.seq .auto (.seq .auto (.seq (.seq .auto (.seq .auto (.one [(27, (.one (.int .i64)))] .auto) none) none) .auto none) none) none)) none) none) .auto none) none) none)) none) .auto none)
def z4m (p0 : FV) (c0 : Addr) (c1 : Addr) (K : Value → PT) : PT :=
 L.load eL6 c0 fun (x1 : Sl) =>
 L.loop (Y := Int × Unit) (0, ()) fun y2 again3 =>
 L.ite (decide (y2.1 < ((x1.len : Nat) : Int))) (
  L.idx x1.a y2.1 x1.len 1 fun a4 =>
  L.load (.one (.func)) a4 fun (x5 : FV) =>
  L.load eP6 c1 fun (x6 : Option Addr) =>
  L.call Pr z0M [.pointer x6] rL fun (x7 : Sl) =>
  L.loop (Y := Int × Unit) (0, ()) fun y8 again9 =>
  L.ite (decide (y8.1 < ((x7.len : Nat) : Int))) (
   L.idx x7.a y8.1 x7.len 1 fun a10 =>
   L.load eS6 a10 fun (x11 : ByteArray) =>
   L.callV Pr (.func x5.fn x5.fs x5.cs) [.string x11] rL fun (x12 : Sl) =>
   L.loop (Y := Int × Unit) (0, ()) fun y13 again14 =>
   L.ite (decide (y13.1 < ((x12.len : Nat) : Int))) (
    L.idx x12.a y13.1 x12.len 15 fun a15 =>
    L.load (.agg lf1) a15 fun (x16 : pt1) =>
    L.new [.int .i64 0, .string s_, .string s_, .int .i64 0, .int .i64 0, .string s_, .int .i64 0, .int .i64 0, .int .i64 0, .int .i64 0, .int .i64 0, .string s_, .string s_, .slice none 0 0, .int .i64 0] z1K fun b17 =>
    L.store (⟨b17, 0, none⟩) [.int .i64 x16.1, .string x16.2.1, .string x16.2.2.1, .int .i64 x16.2.2.2.1, .int .i64 x16.2.2.2.2.1, .string x16.2.2.2.2.2.1, .int .i64 x16.2.2.2.2.2.2.1, .int .i64 x16.2.2.2.2.2.2.2.1, .int .i64 x16.2.2.2.2.2.2.2.2.1, .int .i64 x16.2.2.2.2.2.2.2.2.2.1, .int .i64 x16.2.2.2.2.2.2.2.2.2.2.1, .string x16.2.2.2.2.2.2.2.2.2.2.2.1, .string x16.2.2.2.2.2.2.2.2.2.2.2.2.1, .slice x16.2.2.2.2.2.2.2.2.2.2.2.2.2.1.a x16.2.2.2.2.2.2.2.2.2.2.2.2.2.1.len x16.2.2.2.2.2.2.2.2.2.2.2.2.2.1.cap, .int .i64 x16.2.2.2.2.2.2.2.2.2.2.2.2.2.2.1] <|
    L.load (.agg lf1) (⟨b17, 0, none⟩) fun (x18 : pt1) =>
    L.callV Pr (.func p0.fn p0.fs p0.cs) [(qa1 x18)] rB fun (x19 : Bool) =>
    L.ite (!x19) (
     K (.tuple #[])) <|
    again14 (IntKind.wrap .i64 (y13.1 + 1), ())) <|
   again9 (IntKind.wrap .i64 (y8.1 + 1), ())) <|
  again3 (IntKind.wrap .i64 (y2.1 + 1), ())) <|
 L.callV Pr (.func p0.fn p0.fs p0.cs) [.agg #[.int .i64 9, .string s_, .string s_, .int .i64 0, .int .i64 0, .string s_, .int .i64 0, .int .i64 0, .int .i64 0, .int .i64 0, .int .i64 0, .string s_, .string s_, .slice none 0 0, .int .i64 0]] rB fun (x20 : Bool) =>
 K (.tuple #[])
theorem z79 (p0 : FV) (c0 : Addr) (c1 : Addr) {K : Value → PT} {w : World} (h : z4m p0 c0 c1 K w) : CT Pr z1I [.func p0.fn p0.fs p0.cs, .pointer (some c0), .pointer (some c1)] K w :=
 C_of (fn := Tryz.f200) (an := z7b) (args := [.v (.func p0.fn p0.fs p0.cs), .v (.pointer (some c0)), .v (.pointer (some c1))]) (by kernel_rfl) (by kernel_rfl) (by kernel_rfl) h
theorem z73 : Enters Pr z1I := z1j (by kernel_rfl)
def z68 (p0 : Int) (K : Value → PT) : PT :=
 L.call Pr z2w [.int .i32 p0] rB fun (x1 : Bool) =>
 L.ite x1 (
  K (.bool true)) <|
 L.ite (decide (p0 ≥ 48)) (
  L.ite (decide (p0 ≤ 57)) (
   K (.bool true)) <|
  K (.bool (p0 == 45))) <|
 K (.bool (p0 == 45))
theorem z9d (p0 : Int) {K : Value → PT} {w : World} (h : z68 p0 K w) : CT Pr z49 [.int .i32 p0] K w :=
 C_of (fn := Tryz.f203) (an := .auto) (args := [.v (.int .i32 p0)]) (by kernel_rfl) (by kernel_rfl) (by kernel_rfl) h
def z4M (p0 : Int) (K : Value → PT) : PT :=
 L.ite (decide (p0 ≥ 97)) (
  K (.bool (decide (p0 ≤ 122)))) <|
 K (.bool false)
theorem z7f (p0 : Int) {K : Value → PT} {w : World} (h : z4M p0 K w) : CT Pr z2w [.int .i32 p0] K w :=
 C_of (fn := Tryz.f204) (an := .auto) (args := [.v (.int .i32 p0)]) (by kernel_rfl) (by kernel_rfl) (by kernel_rfl) h
def z0C (p0 : Sl) (p1 : FV) (K : Value → PT) : PT :=
 L.call Pr z0K [.slice p0.a p0.len p0.cap, .func p1.fn p1.fs p1.cs] rI fun (x1 : Int) =>
 K (.bool (decide (x1 ≥ 0)))
theorem z1l (p0 : Sl) (p1 : FV) {K : Value → PT} {w : World} (h : z0C p0 p1 K w) : CT Pr z0l [.slice p0.a p0.len p0.cap, .func p1.fn p1.fs p1.cs] K w :=
 C_of (fn := Tryz.f205) (an := .auto) (args := [.v (.slice p0.a p0.len p0.cap), .v (.func p1.fn p1.fs p1.cs)]) (by kernel_rfl) (by kernel_rfl) (by kernel_rfl) h
def z66 (p0 : HT [.str, .str, .int .i64]) (c0 : Addr) (K : Value → PT) : PT :=
 L.new [.string p0.1, .string p0.2.1, .int .i64 p0.2.2.1] z0k fun b1 =>
 L.load eS6 ((⟨b1, 0, none⟩ : Addr).add 1) fun (x2 : ByteArray) =>
 L.load eS6 (c0.add 1) fun (x3 : ByteArray) =>
 K (.bool (x2.toList == x3.toList))
theorem z9b (p0 : HT [.str, .str, .int .i64]) (c0 : Addr) {K : Value → PT} {w : World} (h : z66 p0 c0 K w) : CT Pr z29 [(.ag [.string p0.1, .string p0.2.1, .int .i64 p0.2.2.1] : SV).toV, .pointer (some c0)] K w :=
 C_of (fn := Tryz.f206) (an := .auto) (args := [.ag [.string p0.1, .string p0.2.1, .int .i64 p0.2.2.1], .v (.pointer (some c0))]) (by kernel_rfl) (by kernel_rfl) (by kernel_rfl) h
theorem z99 : Enters Pr z29 := z1j (by kernel_rfl)
def z6o : Ann := (.seq .auto (.one [(7, (.one (.int .i64)))] .auto) none)
def z3W (p0 : FV) (c0 : Addr) (K : Value → PT) : PT :=
 L.load eL6 c0 fun (x1 : Sl) =>
 L.loop (Y := Int × Unit) (0, ()) fun y2 again3 =>
 L.ite (decide (y2.1 < ((x1.len : Nat) : Int))) (
  L.idx x1.a y2.1 x1.len 4 fun a4 =>
  L.load (.agg [.int .i64, .int .i64, .int .i64, .str]) a4 fun (x5 : pt10) =>
  L.new [.int .i64 0, .int .i64 0, .int .i64 0, .string s_] z0y fun b6 =>
  L.store (⟨b6, 0, none⟩) [.int .i64 x5.1, .int .i64 x5.2.1, .int .i64 x5.2.2.1, .string x5.2.2.2.1] <|
  L.load (.agg [.int .i64, .int .i64, .int .i64, .str]) (⟨b6, 0, none⟩) fun (x7 : pt10) =>
  L.call Pr z3H [.agg #[.int .i64 x7.1, .int .i64 x7.2.1, .int .i64 x7.2.2.1, .string x7.2.2.2.1]] rS fun (x8 : ByteArray) =>
  L.callV Pr (.func p0.fn p0.fs p0.cs) [.string x8] rB fun (x9 : Bool) =>
  L.ite (!x9) (
   K (.tuple #[])) <|
  again3 (IntKind.wrap .i64 (y2.1 + 1), ())) <|
 K (.tuple #[])
theorem z6j (p0 : FV) (c0 : Addr) {K : Value → PT} {w : World} (h : z3W p0 c0 K w) : CT Pr z1m [.func p0.fn p0.fs p0.cs, .pointer (some c0)] K w :=
 C_of (fn := Tryz.f216) (an := z6o) (args := [.v (.func p0.fn p0.fs p0.cs), .v (.pointer (some c0))]) (by kernel_rfl) (by kernel_rfl) (by kernel_rfl) h
theorem z6g : Enters Pr z1m := z1j (by kernel_rfl)
def z8q : Ann := (.seq .auto (.seq .auto (.seq (.one [(2, (.one (.str)))] .auto) .auto none) none) none)
def z5t (p0 : ht3) (K : Value → PT) : PT :=
 L.new [.int .i64 p0.1, .int .i64 p0.2.1, .int .i64 p0.2.2.1, .string p0.2.2.2.1] z0y fun b1 =>
 L.load eI6 ((⟨b1, 0, none⟩ : Addr).add 1) fun (x2 : Int) =>
 L.ite (x2 == 1) (
  L.load eI6 ((⟨b1, 0, none⟩ : Addr).add 0) fun (x3 : Int) =>
  L.load eI6 ((⟨b1, 0, none⟩ : Addr).add 2) fun (x4 : Int) =>
  L.new [.int .i64 x3, .int .i64 x4] z0v fun b5 =>
  L.call Pr z0h [.string zcP, .slice (some ⟨b5, 0, none⟩) 2 2] rS fun (x6 : ByteArray) =>
  K (.string x6)) <|
 L.ite (x2 == 2) (
  L.load eI6 ((⟨b1, 0, none⟩ : Addr).add 0) fun (x7 : Int) =>
  L.new [.int .i64 x7] z0v fun b8 =>
  L.call Pr z0h [.string zb9, .slice (some ⟨b8, 0, none⟩) 1 1] rS fun (x9 : ByteArray) =>
  K (.string x9)) <|
 L.ite (x2 == 3) (
  L.load eI6 ((⟨b1, 0, none⟩ : Addr).add 0) fun (x10 : Int) =>
  L.new [.int .i64 x10] z0v fun b11 =>
  L.call Pr z0h [.string zcW, .slice (some ⟨b11, 0, none⟩) 1 1] rS fun (x12 : ByteArray) =>
  K (.string x12)) <|
 L.join (Y := ByteArray × Unit) (fun k13 =>
  L.draw <|
  L.load eI6 ((⟨b1, 0, none⟩ : Addr).add 0) fun (x15 : Int) =>
  L.load eS6 ((⟨b1, 0, none⟩ : Addr).add 3) fun (x16 : ByteArray) =>
  L.alts [(
    L.new [.int .i64 x15] z0v fun b17 =>
    L.chk ((⟨b1, 0, none⟩ : Addr).add 3) [.string x16] <|
    L.alts [(
      L.call Pr z0h [.string s_refused, .slice (some ⟨b17, 0, none⟩) 1 1] rS fun (x18 : ByteArray) =>
      L.chk ((⟨b1, 0, none⟩ : Addr).add 3) [.string x16] <|
      L.new [.string x16] z04 fun b19 =>
      L.chk ((⟨b1, 0, none⟩ : Addr).add 0) [.int .i64 x15] <|
      L.call Pr z0p [.string x18, .slice (some ⟨b19, 0, none⟩) 1 1] rS fun (x20 : ByteArray) =>
      k13 (x20, ())),(
      L.new [.string x16] z04 fun b21 =>
      L.chk ((⟨b1, 0, none⟩ : Addr).add 0) [.int .i64 x15] <|
      L.call Pr z0h [.string s_refused, .slice (some ⟨b17, 0, none⟩) 1 1] rS fun (x22 : ByteArray) =>
      L.chk ((⟨b1, 0, none⟩ : Addr).add 3) [.string x16] <|
      L.call Pr z0p [.string x22, .slice (some ⟨b21, 0, none⟩) 1 1] rS fun (x23 : ByteArray) =>
      k13 (x23, ()))]),(
    L.new [.string x16] z04 fun b24 =>
    L.chk ((⟨b1, 0, none⟩ : Addr).add 0) [.int .i64 x15] <|
    L.new [.int .i64 x15] z0v fun b25 =>
    L.chk ((⟨b1, 0, none⟩ : Addr).add 3) [.string x16] <|
    L.call Pr z0h [.string s_refused, .slice (some ⟨b25, 0, none⟩) 1 1] rS fun (x26 : ByteArray) =>
    L.chk ((⟨b1, 0, none⟩ : Addr).add 3) [.string x16] <|
    L.call Pr z0p [.string x26, .slice (some ⟨b24, 0, none⟩) 1 1] rS fun (x27 : ByteArray) =>
    k13 (x27, ()))]) fun z14 =>
 K (.string z14.1)
theorem z8h (p0 : ht3) {K : Value → PT} {w : World} (h : z5t p0 K w) : CT Pr z3H [(.ag (qc3 p0) : SV).toV] K w :=
 C_of (fn := Tryz.f217) (an := z8q) (args := [.ag (qc3 p0)]) (by kernel_rfl) (by kernel_rfl) (by kernel_rfl) h
def z2V : Ann := (.seq .auto (.one [(12, (.one (.int .i64)))] .auto) none)
def z1x (p0 : FV) (c0 : Addr) (K : Value → PT) : PT :=
 L.load eP6 c0 fun (x1 : Option Addr) =>
 L.nonnil x1 fun a2 =>
 L.load (.one (.map)) (a2.add 0) fun (x3 : Option Nat) =>
 L.call Pr z0g [.map x3] (.one (.one (.func))) fun (x4 : FV) =>
 L.call Pr z0H [.func x4.fn x4.fs x4.cs] rL fun (x5 : Sl) =>
 L.loop (Y := Int × Unit) (0, ()) fun y6 again7 =>
 L.ite (decide (y6.1 < ((x5.len : Nat) : Int))) (
  L.idx x5.a y6.1 x5.len 1 fun a8 =>
  L.load eS6 a8 fun (x9 : ByteArray) =>
  L.load eP6 c0 fun (x10 : Option Addr) =>
  L.nonnil x10 fun a11 =>
  L.load (.one (.map)) (a11.add 0) fun (x12 : Option Nat) =>
  L.semR Pr rP (Instr.lookup z0i (.map x12) (.string x9) false) fun (x13 : Option Addr) =>
  L.callV Pr (.func p0.fn p0.fs p0.cs) [.string x9, .pointer x13] rB fun (x14 : Bool) =>
  L.ite (!x14) (
   K (.tuple #[])) <|
  again7 (IntKind.wrap .i64 (y6.1 + 1), ())) <|
 K (.tuple #[])
theorem z2U (p0 : FV) (c0 : Addr) {K : Value → PT} {w : World} (h : z1x p0 c0 K w) : CT Pr z0r [.func p0.fn p0.fs p0.cs, .pointer (some c0)] K w :=
 C_of (fn := Tryz.f221) (an := z2V) (args := [.v (.func p0.fn p0.fs p0.cs), .v (.pointer (some c0))]) (by kernel_rfl) (by kernel_rfl) (by kernel_rfl) h
theorem z2S : Enters Pr z0r := z1j (by kernel_rfl)
def z0x (p0 : Option Nat) (K : Value → PT) : PT :=
 L.new [.map p0] z0i fun b1 =>
 K (.func (.func z03) #[] #[.pointer (some (⟨b1, 0, none⟩))])
theorem z12 (p0 : Option Nat) {K : Value → PT} {w : World} (h : z0x p0 K w) : CT Pr z0g [.map p0] K w :=
 C_of (fn := Tryz.f222) (an := .auto) (args := [.v (.map p0)]) (by kernel_rfl) (by kernel_rfl) (by kernel_rfl) h
def z58 : Ann := (.seq .auto (.seq .auto (.seq .auto (.seq (.seq .auto (.seq .auto .auto (some [(11, (.one (.int .i64))), (12, (.one (.int .i64)))])) none) .auto none) none) none) none)
def z3e (p0 : Option Addr) (p1 : Int) (K : Value → PT) : PT :=
 L.new [.int .i64 p1] z0v fun b1 =>
 L.new [.slice none 0 0] z1k fun b2 =>
 L.new [.slice none 0 0] z0J fun b3 =>
 L.call Pr z1d [.pointer p0] (.one (.one (.func))) fun (x4 : FV) =>
 L.range Pr none (.func x4.fn x4.fs x4.cs) [eI6, eI6] (fun l5 (y6 : Int × Int × Unit) R7 =>
  L.begin Pr l5 <|
  L.load eI6 (⟨b1, 0, none⟩) fun (x10 : Int) =>
  L.ite (decide (y6.2.1 ≤ x10)) (
   L.load eL6 (⟨b2, 0, none⟩) fun (x11 : Sl) =>
   L.new [.int .i64 y6.1] z0v fun b12 =>
   L.sem Pr (.one (.one .slice)) (Builtin.append_ #[z1k, z1k] z1k #[.slice x11.a x11.len x11.cap, .slice (some ⟨b12, 0, none⟩) 1 1]) fun (s13 : Sl) =>
   L.store (⟨b2, 0, none⟩) [.slice s13.a s13.len s13.cap] <|
   L.endRound Pr l5 none R7) <|
  L.load eL6 (⟨b3, 0, none⟩) fun (x14 : Sl) =>
  L.new [.int .i64 y6.1, .int .i64 y6.2.1] z1b fun b15 =>
  L.sem Pr (.one (.one .slice)) (Builtin.append_ #[z0J, z0J] z0J #[.slice x14.a x14.len x14.cap, .slice (some ⟨b15, 0, none⟩) 1 1]) fun (s16 : Sl) =>
  L.store (⟨b3, 0, none⟩) [.slice s16.a s16.len s16.cap] <|
  L.endRound Pr l5 none R7) fun d8 j9 =>
 L.jump j9 (
  L.load eL6 (⟨b3, 0, none⟩) fun (x17 : Sl) =>
  L.nonnil p0 fun a18 =>
  L.store (a18.add 0) [.slice x17.a x17.len x17.cap] <|
  L.load eL6 (⟨b2, 0, none⟩) fun (x19 : Sl) =>
  L.call Pr z0z [.slice x19.a x19.len x19.cap] rL fun (x20 : Sl) =>
  L.unmark Pr (d8 ++ []) <|
  K (.slice x20.a x20.len x20.cap)) (
  L.unmark Pr (d8 ++ []) <|
  K (.slice none 0 0)) []
theorem z52 (p0 : Option Addr) (p1 : Int) {K : Value → PT} {w : World} (h : z3e p0 p1 K w) : CT Pr z2Z [.pointer p0, .int .i64 p1] K w :=
 C_of (fn := Tryz.f223) (an := z58) (args := [.v (.pointer p0), .v (.int .i64 p1)]) (by kernel_rfl) (by kernel_rfl) (by kernel_rfl) h
def z4q : Ann := (.seq .auto (.one [(10, (.one (.int .i64)))] .auto) none)
def z2A (p0 : FV) (c0 : Addr) (K : Value → PT) : PT :=
 L.load eP6 c0 fun (x1 : Option Addr) =>
 L.nonnil x1 fun a2 =>
 L.load eL6 (a2.add 0) fun (x3 : Sl) =>
 L.loop (Y := Int × Unit) (0, ()) fun y4 again5 =>
 L.ite (decide (y4.1 < ((x3.len : Nat) : Int))) (
  L.idx x3.a y4.1 x3.len 2 fun a6 =>
  L.load (.agg [.int .i64, .int .i64]) a6 fun (x7 : Int × Int × Unit) =>
  L.new [.int .i64 0, .int .i64 0] z1b fun b8 =>
  L.store (⟨b8, 0, none⟩) [.int .i64 x7.1, .int .i64 x7.2.1] <|
  L.load eI6 ((⟨b8, 0, none⟩ : Addr).add 0) fun (x9 : Int) =>
  L.load eI6 ((⟨b8, 0, none⟩ : Addr).add 1) fun (x10 : Int) =>
  L.callV Pr (.func p0.fn p0.fs p0.cs) [.int .i64 x9, .int .i64 x10] rB fun (x11 : Bool) =>
  L.ite (!x11) (
   K (.tuple #[])) <|
  again5 (IntKind.wrap .i64 (y4.1 + 1), ())) <|
 K (.tuple #[])
theorem z4o (p0 : FV) (c0 : Addr) {K : Value → PT} {w : World} (h : z2A p0 c0 K w) : CT Pr z0R [.func p0.fn p0.fs p0.cs, .pointer (some c0)] K w :=
 C_of (fn := Tryz.f247) (an := z4q) (args := [.v (.func p0.fn p0.fs p0.cs), .v (.pointer (some c0))]) (by kernel_rfl) (by kernel_rfl) (by kernel_rfl) h
theorem z4n : Enters Pr z0R := z1j (by kernel_rfl)
def z2j (p0 : FV) (K : Value → PT) : PT :=
 L.call Pr z0G [.slice none 0 0, .func p0.fn p0.fs p0.cs] rL fun (x1 : Sl) =>
 K (.slice x1.a x1.len x1.cap)
theorem z3Q (p0 : FV) {K : Value → PT} {w : World} (h : z2j p0 K w) : CT Pr z2f [.func p0.fn p0.fs p0.cs] K w :=
 C_of (fn := Tryz.f250) (an := .auto) (args := [.v (.func p0.fn p0.fs p0.cs)]) (by kernel_rfl) (by kernel_rfl) (by kernel_rfl) h
def z0Q : Ann := (.seq .auto (.one [] (.seq .auto (.seq (.cond .auto .auto) .auto none) none)) none)
def z0j (p0 : FV) (c0 : Addr) (K : Value → PT) : PT :=
 L.load (.one (.map)) c0 fun (x1 : Option Nat) =>
 L.sem Pr (.one (.one .ptr)) (Instr.range z0w (.map x1)) fun (it2 : Option Addr) =>
 L.loop (Y := Unit) (()) fun y3 again4 =>
 L.next Pr [eS6, (.agg lf5)] (Instr.next (.pointer it2) false T_) (
  K (.tuple #[])) fun (x5 : pt23) =>
 L.sem Pr (.tup [eS6, (.agg lf5)]) (Instr.entry (.pointer it2)) fun (x6 : pt23) =>
 L.callV Pr (.func p0.fn p0.fs p0.cs) [.string x6.1] rB fun (x7 : Bool) =>
 L.ite (!x7) (
  K (.tuple #[])) <|
 again4 (())
theorem z0P (p0 : FV) (c0 : Addr) {K : Value → PT} {w : World} (h : z0j p0 c0 K w) : CT Pr z02 [.func p0.fn p0.fs p0.cs, .pointer (some c0)] K w :=
 C_of (fn := Tryz.f252) (an := z0Q) (args := [.v (.func p0.fn p0.fs p0.cs), .v (.pointer (some c0))]) (by kernel_rfl) (by kernel_rfl) (by kernel_rfl) h
theorem z0O : Enters Pr z02 := z1j (by kernel_rfl)
def z1z : Ann := (.seq .auto (.seq (.seq .auto (.one [(8, (.one (.int .i64)))] .auto) none) .auto none) none)
def z0L (p0 : Sl) (p1 : FV) (K : Value → PT) : PT :=
 L.loop (Y := Int × Unit) (0, ()) fun y1 again2 =>
 L.ite (decide (y1.1 < ((p0.len : Nat) : Int))) (
  L.idx p0.a y1.1 p0.len 3 fun a3 =>
  L.load (.agg [.str, .str, .int .i64]) a3 fun (x4 : pt9) =>
  L.callV Pr (.func p1.fn p1.fs p1.cs) [.agg #[.string x4.1, .string x4.2.1, .int .i64 x4.2.2.1]] rB fun (x5 : Bool) =>
  L.ite x5 (
   K (.int .i64 y1.1)) <|
  again2 (IntKind.wrap .i64 (y1.1 + 1), ())) <|
 K (.int .i64 (-1))
theorem z1y (p0 : Sl) (p1 : FV) {K : Value → PT} {w : World} (h : z0L p0 p1 K w) : CT Pr z0K [.slice p0.a p0.len p0.cap, .func p1.fn p1.fs p1.cs] K w :=
 C_of (fn := Tryz.f257) (an := z1z) (args := [.v (.slice p0.a p0.len p0.cap), .v (.func p1.fn p1.fs p1.cs)]) (by kernel_rfl) (by kernel_rfl) (by kernel_rfl) h
def z0Y : Ann := (.seq .auto (.one [] (.seq .auto (.seq (.cond .auto .auto) .auto none) none)) none)
def z0s (p0 : FV) (c0 : Addr) (K : Value → PT) : PT :=
 L.load (.one (.map)) c0 fun (x1 : Option Nat) =>
 L.sem Pr (.one (.one .ptr)) (Instr.range z0i (.map x1)) fun (it2 : Option Addr) =>
 L.loop (Y := Unit) (()) fun y3 again4 =>
 L.next Pr [eS6, eP6] (Instr.next (.pointer it2) false T_) (
  K (.tuple #[])) fun (x5 : ByteArray × Option Addr × Unit) =>
 L.sem Pr (.tup [eS6, eP6]) (Instr.entry (.pointer it2)) fun (x6 : ByteArray × Option Addr × Unit) =>
 L.callV Pr (.func p0.fn p0.fs p0.cs) [.string x6.1] rB fun (x7 : Bool) =>
 L.ite (!x7) (
  K (.tuple #[])) <|
 again4 (())
theorem z0X (p0 : FV) (c0 : Addr) {K : Value → PT} {w : World} (h : z0s p0 c0 K w) : CT Pr z03 [.func p0.fn p0.fs p0.cs, .pointer (some c0)] K w :=
 C_of (fn := Tryz.f268) (an := z0Y) (args := [.v (.func p0.fn p0.fs p0.cs), .v (.pointer (some c0))]) (by kernel_rfl) (by kernel_rfl) (by kernel_rfl) h
theorem z0W : Enters Pr z03 := z1j (by kernel_rfl)
def z2o : Ann := (.seq .auto (.seq (.seq .auto (.seq .auto .auto (some [(7, (.one (.str)))])) none) .auto none) none)
def z18 (p0 : Sl) (p1 : FV) (K : Value → PT) : PT :=
 L.new [.slice p0.a p0.len p0.cap] z06 fun b1 =>
 L.range Pr none (.func p1.fn p1.fs p1.cs) [eS6] (fun l2 (y3 : ByteArray × Unit) R4 =>
  L.begin Pr l2 <|
  L.load eL6 (⟨b1, 0, none⟩) fun (x7 : Sl) =>
  L.new [.string y3.1] z04 fun b8 =>
  L.sem Pr (.one (.one .slice)) (Builtin.append_ #[z06, z06] z06 #[.slice x7.a x7.len x7.cap, .slice (some ⟨b8, 0, none⟩) 1 1]) fun (s9 : Sl) =>
  L.store (⟨b1, 0, none⟩) [.slice s9.a s9.len s9.cap] <|
  L.endRound Pr l2 none R4) fun d5 j6 =>
 L.jump j6 (
  L.load eL6 (⟨b1, 0, none⟩) fun (x10 : Sl) =>
  L.unmark Pr (d5 ++ []) <|
  K (.slice x10.a x10.len x10.cap)) (
  L.unmark Pr (d5 ++ []) <|
  K (.slice none 0 0)) []
theorem z2n (p0 : Sl) (p1 : FV) {K : Value → PT} {w : World} (h : z18 p0 p1 K w) : CT Pr z0G [.slice p0.a p0.len p0.cap, .func p1.fn p1.fs p1.cs] K w :=
 C_of (fn := Tryz.f283) (an := z2o) (args := [.v (.slice p0.a p0.len p0.cap), .v (.func p1.fn p1.fs p1.cs)]) (by kernel_rfl) (by kernel_rfl) (by kernel_rfl) h
end Go.Proofs.YtkmalcoocklikaaGreatDoor
