/- What is proved on the way to a statement of the seat, pressed (text AD). No conditions beyond those its theorems state. -/
import Derived.Test.YtkmalcoocklikaaGreatDoorXAC
import Derived.Test.YtkmalcoocklikaaGreatDoorProg
set_option linter.all false
namespace Go.Proofs.YtkmalcoocklikaaGreatDoor
set_option maxRecDepth 100000
open Go.Dm
abbrev ht0 := HT [.str, .int .i64, .int .i64, .int .i64, .int .i64, .int .i64]
abbrev ht1 := HT [.int .i64, .str, .str, .int .i64, .int .i64, .str, .int .i64, .int .i64, .int .i64, .int .i64, .int .i64, .str, .str, .slice, .int .i64]
abbrev ht2 := HT [.str, .str, .slice, .int .i64]
abbrev ht3 := HT [.int .i64, .int .i64, .int .i64, .str]
abbrev qc0 (p : ht0) : List Value := [.string p.1, .int .i64 p.2.1, .int .i64 p.2.2.1, .int .i64 p.2.2.2.1, .int .i64 p.2.2.2.2.1, .int .i64 p.2.2.2.2.2.1]
abbrev qc1 (p : ht1) : List Value := [.int .i64 p.1, .string p.2.1, .string p.2.2.1, .int .i64 p.2.2.2.1, .int .i64 p.2.2.2.2.1, .string p.2.2.2.2.2.1, .int .i64 p.2.2.2.2.2.2.1, .int .i64 p.2.2.2.2.2.2.2.1, .int .i64 p.2.2.2.2.2.2.2.2.1, .int .i64 p.2.2.2.2.2.2.2.2.2.1, .int .i64 p.2.2.2.2.2.2.2.2.2.2.1, .string p.2.2.2.2.2.2.2.2.2.2.2.1, .string p.2.2.2.2.2.2.2.2.2.2.2.2.1, .slice p.2.2.2.2.2.2.2.2.2.2.2.2.2.1.a p.2.2.2.2.2.2.2.2.2.2.2.2.2.1.len p.2.2.2.2.2.2.2.2.2.2.2.2.2.1.cap, .int .i64 p.2.2.2.2.2.2.2.2.2.2.2.2.2.2.1]
abbrev qc2 (p : ht2) : List Value := [.string p.1, .string p.2.1, .slice p.2.2.1.a p.2.2.1.len p.2.2.1.cap, .int .i64 p.2.2.2.1]
abbrev qc3 (p : ht3) : List Value := [.int .i64 p.1, .int .i64 p.2.1, .int .i64 p.2.2.1, .string p.2.2.2.1]
abbrev CT (P : Program) (f : FuncId) (a : List Value) (K : Value → PT) (w : World) : Prop := Calls P f a.toArray w fun e w2 => ∃ v, e = .returned v ∧ K v w2
abbrev pt0 := ByteArray × Int × Int × Int × Int × Int × Unit
abbrev pt1 := Int × ByteArray × ByteArray × Int × Int × ByteArray × Int × Int × Int × Int × Int × ByteArray × ByteArray × Sl × Int × Unit
abbrev pt2 := (Bool × Bool × Bool × Bool × Bool × Bool × Unit) × Bool × Unit
abbrev pt3 := ByteArray × ByteArray × Sl × Int × Unit
abbrev pt7 := Int × (ByteArray × Int × Unit) × Unit
abbrev pt8 := Bool × Bool × Bool × Bool × Bool × Bool × Unit
abbrev pt9 := ByteArray × ByteArray × Int × Unit
abbrev pt10 := Int × Int × Int × ByteArray × Unit
abbrev pt18 := Int × Option (TypeId × Value) × Unit
abbrev pt23 := ByteArray × (ByteArray × Int × ByteArray × Int × Int × Int × Int × Int × Unit) × Unit
abbrev lf0 : List Lf := [.str, .int .i64, .int .i64, .int .i64, .int .i64, .int .i64]
abbrev lf1 : List Lf := [.int .i64, .str, .str, .int .i64, .int .i64, .str, .int .i64, .int .i64, .int .i64, .int .i64, .int .i64, .str, .str, .slice, .int .i64]
abbrev lf2 : List Lf := [.ptr, .ptr, .ptr, .ptr, .ptr, .map, .int .i64]
abbrev lf3 : List Lf := [.int .i64, .ptr, .ptr, .ptr, .ptr, .ptr, .slice]
abbrev lf4 : List Lf := [.bool, .bool, .bool, .bool, .bool, .bool]
abbrev lf5 : List Lf := [.str, .int .i64, .str, .int .i64, .int .i64, .int .i64, .int .i64, .int .i64]
abbrev lf6 : List Lf := [.ptr, .map, .map, .func, .int .i64, .int .i64]
abbrev lf7 : List Lf := [.ptr, .int .i64, .int .i64, .slice, .slice, .slice]
abbrev lf8 : List Lf := [.int .i64, .int .i64, .int .i64, .int .i64, .int .i64, .int .i64, .int .i64, .int .i64, .int .i64, .int .i64, .int .i64, .int .i64, .int .i64, .int .i64, .int .i64, .int .i64, .int .i64, .int .i64, .int .i64, .int .i64, .int .i64, .int .i64, .int .i64, .int .i64, .int .i64, .int .i64, .int .i64, .int .i64, .int .i64, .int .i64, .int .i64, .int .i64, .int .i64, .int .i64, .int .i64, .int .i64, .int .i64, .int .i64, .int .i64, .int .i64, .int .i64, .int .i64, .int .i64, .int .i64, .int .i64, .int .i64, .int .i64, .int .i64, .int .i64, .int .i64, .int .i64, .int .i64, .int .i64, .int .i64, .int .i64, .int .i64, .int .i64, .int .i64, .int .i64, .int .i64]
abbrev lf9 : List Lf := [.int .i64, .int .i64, .int .i64, .int .i64, .int .i64, .int .i64, .int .i64, .int .i64, .int .i64, .int .i64, .int .i64, .int .i64, .int .i64, .int .i64, .int .i64, .int .i64, .int .i64, .int .i64, .int .i64, .int .i64, .int .i64, .int .i64, .int .i64, .int .i64, .int .i64, .int .i64, .int .i64, .int .i64, .int .i64, .int .i64, .int .i64, .int .i64, .int .i64, .int .i64, .int .i64, .int .i64, .int .i64, .int .i64, .int .i64, .int .i64, .int .i64, .int .i64, .int .i64, .int .i64, .int .i64, .int .i64, .int .i64, .int .i64, .int .i64, .int .i64, .int .i64, .int .i64, .int .i64, .int .i64, .int .i64, .int .i64, .int .i64, .int .i64, .int .i64, .int .i64, .int .i64]
abbrev lf10 : List Lf := [.int .i64, .int .i64, .int .i64, .int .i64, .int .i64, .int .i64, .int .i64, .int .i64, .int .i64, .int .i64, .int .i64, .int .i64, .int .i64, .int .i64, .int .i64, .int .i64, .int .i64, .int .i64, .int .i64, .int .i64, .int .i64, .int .i64, .int .i64, .int .i64, .int .i64, .int .i64, .int .i64, .int .i64, .int .i64, .int .i64, .int .i64, .int .i64, .int .i64, .int .i64, .int .i64, .int .i64, .int .i64, .int .i64, .int .i64, .int .i64, .int .i64, .int .i64, .int .i64, .int .i64, .int .i64, .int .i64, .int .i64, .int .i64, .int .i64, .int .i64, .int .i64, .int .i64, .int .i64, .int .i64, .int .i64, .int .i64, .int .i64, .int .i64, .int .i64, .int .i64, .int .i64, .int .i64]
abbrev lf11 : List Lf := [.str, .int .i64, .int .i64, .int .i64, .int .i64, .int .i64, .int .i64, .int .i64, .bool]
abbrev lf12 : List Lf := [.str, .str, .slice, .int .i64, .int .i64, .int .i64, .bool]
abbrev lf13 : List Lf := [.slice, .slice, .int .i64, .int .i64, .slice, .slice]
abbrev lf14 : List Lf := [.int .u8, .int .u8, .int .u8, .int .u8, .int .u8, .int .u8, .int .u8, .int .u8, .int .u8, .int .u8, .int .u8, .int .u8, .int .u8, .int .u8, .int .u8, .int .u8, .int .u8, .int .u8, .int .u8, .int .u8, .int .u8, .int .u8, .int .u8, .int .u8]
abbrev lf15 : List Lf := [.int .u64, .int .u64, .int .u64, .int .u64, .int .u64, .int .u64, .int .u64, .int .u64, .int .u64, .int .u64, .int .u64, .int .u64, .int .u64, .int .u64, .int .u64, .int .u64, .int .u64, .int .u64, .int .u64, .int .u64]
abbrev lf16 : List Lf := [.int .u8, .int .u8, .int .u8, .int .u8, .int .u8, .int .u8, .int .u8, .int .u8, .int .u8, .int .u8, .int .u8, .int .u8, .int .u8, .int .u8, .int .u8, .int .u8, .int .u8, .int .u8, .int .u8, .int .u8, .int .u8, .int .u8, .int .u8, .int .u8, .int .u8, .int .u8, .int .u8, .int .u8, .int .u8, .int .u8, .int .u8, .int .u8, .int .u8, .int .u8, .int .u8, .int .u8, .int .u8, .int .u8, .int .u8, .int .u8, .int .u8, .int .u8, .int .u8, .int .u8, .int .u8, .int .u8, .int .u8, .int .u8, .int .u8, .int .u8, .int .u8, .int .u8, .int .u8, .int .u8, .int .u8, .int .u8, .int .u8, .int .u8, .int .u8, .int .u8, .int .u8, .int .u8, .int .u8, .int .u8, .int .u8]
abbrev lf17 : List Lf := [.int .u8, .int .u8, .int .u8, .int .u8, .int .u8, .int .u8, .int .u8, .int .u8, .int .u8, .int .u8, .int .u8, .int .u8, .int .u8, .int .u8, .int .u8, .int .u8, .int .u8, .int .u8, .int .u8, .int .u8, .int .u8, .int .u8, .int .u8, .int .u8, .int .u8, .int .u8, .int .u8, .int .u8, .int .u8, .int .u8, .int .u8, .int .u8]
abbrev lf18 : List Lf := [.int .u8, .int .u8, .int .u8, .int .u8, .int .u8, .int .u8, .int .u8, .int .u8, .int .u8, .int .u8, .int .u8, .int .u8, .int .u8, .int .u8, .int .u8, .int .u8, .int .u8, .int .u8, .int .u8, .int .u8, .int .u8, .int .u8, .int .u8, .int .u8, .int .u8, .int .u8, .int .u8, .int .u8, .int .u8, .int .u8, .int .u8, .int .u8, .int .u8, .int .u8, .int .u8, .int .u8, .int .u8, .int .u8, .int .u8, .int .u8, .int .u8, .int .u8, .int .u8, .int .u8, .int .u8, .int .u8, .int .u8, .int .u8, .int .u8, .int .u8, .int .u8, .int .u8, .int .u8, .int .u8, .int .u8, .int .u8, .int .u8, .int .u8, .int .u8, .int .u8, .int .u8, .int .u8, .int .u8, .int .u8]
abbrev lf19 : List Lf := [.int .u64, .int .u64, .int .u32, .int .u8, .int .u8, .int .u8, .int .u8, .func, .ptr, .int .i32, .int .i32]
abbrev lf20 : List Lf := [.int .i64, .str, .str, .int .i64, .int .i64, .int .i64, .int .i64, .int .i64, .str, .str, .slice, .int .i64, .int .i64, .int .i64, .bool]
abbrev lf21 : List Lf := [.str, .slice, .slice, .int .i64, .int .i64, .slice, .slice]
abbrev qa0 (p : pt0) : Value := .agg #[.string p.1, .int .i64 p.2.1, .int .i64 p.2.2.1, .int .i64 p.2.2.2.1, .int .i64 p.2.2.2.2.1, .int .i64 p.2.2.2.2.2.1]
abbrev qa1 (p : pt1) : Value := .agg #[.int .i64 p.1, .string p.2.1, .string p.2.2.1, .int .i64 p.2.2.2.1, .int .i64 p.2.2.2.2.1, .string p.2.2.2.2.2.1, .int .i64 p.2.2.2.2.2.2.1, .int .i64 p.2.2.2.2.2.2.2.1, .int .i64 p.2.2.2.2.2.2.2.2.1, .int .i64 p.2.2.2.2.2.2.2.2.2.1, .int .i64 p.2.2.2.2.2.2.2.2.2.2.1, .string p.2.2.2.2.2.2.2.2.2.2.2.1, .string p.2.2.2.2.2.2.2.2.2.2.2.2.1, .slice p.2.2.2.2.2.2.2.2.2.2.2.2.2.1.a p.2.2.2.2.2.2.2.2.2.2.2.2.2.1.len p.2.2.2.2.2.2.2.2.2.2.2.2.2.1.cap, .int .i64 p.2.2.2.2.2.2.2.2.2.2.2.2.2.2.1]
abbrev qa2 (p : pt8) : Value := .agg #[.bool p.1, .bool p.2.1, .bool p.2.2.1, .bool p.2.2.2.1, .bool p.2.2.2.2.1, .bool p.2.2.2.2.2.1]
abbrev eI6 : E1 := .one (.int .i64)
abbrev eS6 : E1 := .one .str
abbrev eL6 : E1 := .one .slice
abbrev eB6 : E1 := .one .bool
abbrev eP6 : E1 := .one .ptr
abbrev rI : RT := .one eI6
abbrev rS : RT := .one eS6
abbrev rL : RT := .one eL6
abbrev rB : RT := .one eB6
abbrev rP : RT := .one eP6
noncomputable abbrev Pr : Program := Tryz.prog
abbrev z2g : Nat := 4
abbrev z1Z : Nat := 7
abbrev z0W : Nat := 10
abbrev z0C : Nat := 11
abbrev z3r : Nat := 18
abbrev z2y : Nat := 19
abbrev z1q : Nat := 20
abbrev z1c : Nat := 21
abbrev z1T : Nat := 22
abbrev z0N : Nat := 23
abbrev z3U : Nat := 30
abbrev z0q : Nat := 31
abbrev z1L : Nat := 32
abbrev z1o : Nat := 33
abbrev z1E : Nat := 34
abbrev z1R : Nat := 35
abbrev z1p : Nat := 36
abbrev z1S : Nat := 37
abbrev z2b : Nat := 38
abbrev z0F : Nat := 39
abbrev z0E : Nat := 40
abbrev z1C : Nat := 41
abbrev z1Q : Nat := 42
abbrev z1D : Nat := 43
abbrev z1P : Nat := 44
abbrev z2d : Nat := 45
abbrev z0X : Nat := 49
abbrev z56 : Nat := 50
abbrev z54 : Nat := 51
abbrev z52 : Nat := 52
abbrev z5Y : Nat := 53
abbrev z60 : Nat := 54
abbrev z3E : Nat := 55
abbrev z3D : Nat := 56
abbrev z2e : Nat := 57
abbrev z2f : Nat := 58
abbrev z2K : Nat := 59
abbrev z0A : Nat := 61
abbrev z3T : Nat := 62
abbrev z1Y : Nat := 63
abbrev z1f : Nat := 64
abbrev z1g : Nat := 65
abbrev z4m : Nat := 66
abbrev z3x : Nat := 67
abbrev z2U : Nat := 68
abbrev z1e : Nat := 69
abbrev z0d : Nat := 70
abbrev z07 : Nat := 71
abbrev z08 : Nat := 72
abbrev z1W : Nat := 73
abbrev z3w : Nat := 74
abbrev z6Q : Nat := 75
abbrev z7C : Nat := 76
abbrev z2J : Nat := 81
abbrev z3Q : Nat := 85
abbrev z0h : Nat := 86
abbrev z2L : Nat := 95
abbrev z2x : Nat := 96
abbrev z2M : Nat := 97
abbrev z2F : Nat := 113
abbrev z39 : Nat := 114
abbrev z0x : Nat := 115
abbrev z1d : Nat := 120
abbrev z2S : Nat := 121
abbrev z1r : Nat := 122
abbrev z1l : Nat := 123
abbrev z6j : Nat := 124
abbrev z0G : Nat := 126
abbrev z1K : Nat := 128
abbrev z1G : Nat := 129
abbrev z2T : Nat := 130
abbrev z0o : Nat := 131
abbrev z3S : Nat := 132
abbrev z5X : Nat := 133
abbrev z5Z : Nat := 149
abbrev z3b : Nat := 150
abbrev z38 : Nat := 152
abbrev z4T : Nat := 155
abbrev z0B : Nat := 159
abbrev z1N : Nat := 162
abbrev z2I : Nat := 163
abbrev z1U : Nat := 164
abbrev z55 : Nat := 166
abbrev z1b : Nat := 186
abbrev z0I : Nat := 192
abbrev z0m : Nat := 193
abbrev z3a : Nat := 201
abbrev z4U : Nat := 202
abbrev z4l : Nat := 203
abbrev z2C : Nat := 204
abbrev z0l : Nat := 205
abbrev z27 : Nat := 206
abbrev z1k : Nat := 216
abbrev z3R : Nat := 217
abbrev z0r : Nat := 221
abbrev z0f : Nat := 222
abbrev z36 : Nat := 223
abbrev z0S : Nat := 247
abbrev z2c : Nat := 250
abbrev z1F : Nat := 251
abbrev z02 : Nat := 252
abbrev z0L : Nat := 257
abbrev z03 : Nat := 268
abbrev z0H : Nat := 283
abbrev T_ : Nat := 0
abbrev z0g : Nat := 3
abbrev zdj : Nat := 4
abbrev z05 : Nat := 9
abbrev z5a : Nat := 20
abbrev z0z : Nat := 23
abbrev z1i : Nat := 24
abbrev z0b : Nat := 33
abbrev z0O : Nat := 34
abbrev z3e : Nat := 37
abbrev z2z : Nat := 39
abbrev z8j : Nat := 52
abbrev z0k : Nat := 69
abbrev z00 : Nat := 74
abbrev z15 : Nat := 79
abbrev z0t : Nat := 81
abbrev z4r : Nat := 83
abbrev z1M : Nat := 86
abbrev z78 : Nat := 92
abbrev z5C : Nat := 104
abbrev z5E : Nat := 109
abbrev z4J : Nat := 113
abbrev z4I : Nat := 118
abbrev z7b : Nat := 122
abbrev z0a : Nat := 143
abbrev z0w : Nat := 147
abbrev z7p : Nat := 175
abbrev z0y : Nat := 183
abbrev z0i : Nat := 184
abbrev z7a : Nat := 189
abbrev z0p : Nat := 191
abbrev z2V : Nat := 193
abbrev z24 : Nat := 202
abbrev z0e : Nat := 203
abbrev z5B : Nat := 205
abbrev z5z : Nat := 213
abbrev z0u : Nat := 215
abbrev z5y : Nat := 217
abbrev z6l : Nat := 219
abbrev z4s : Nat := 220
abbrev z5A : Nat := 222
abbrev z5b : Nat := 226
abbrev z5D : Nat := 230
abbrev z79 : Nat := 238
abbrev z9N : Nat := 270
abbrev z2W : Nat := 285
abbrev z3d : Nat := 302
abbrev z9O : Nat := 307
abbrev z0K : Nat := 334
abbrev z77 : Nat := 338
abbrev zc1 : Nat := 347
abbrev z23 : Nat := 348
abbrev z2j : Nat := 350
abbrev z29 : Nat := 351
abbrev z1s : Nat := 353
abbrev z09 : Nat := 369
abbrev z19 : Nat := 372
abbrev z1m : Nat := 399
def s_ : ByteArray := ⟨#[]⟩
def zbn : ByteArray := ⟨#[119, 101, 98]⟩
def s_bad_kind : ByteArray := ⟨#[98, 97, 100, 32, 107, 105, 110, 100]⟩
def s_tick_1 : ByteArray := ⟨#[116, 105, 99, 107, 32, 49]⟩
def zds : ByteArray := ⟨#[98, 97, 100]⟩
def s__ : ByteArray := ⟨#[45]⟩
def z5n : ByteArray := ⟨#[32]⟩
def zbq : ByteArray := ⟨#[116, 105, 99, 107]⟩
def s_ok : ByteArray := ⟨#[111, 107]⟩
def zd8 : ByteArray := ⟨#[110, 97, 109, 101]⟩
def zec : ByteArray := ⟨#[97, 114, 103]⟩
def zda : ByteArray := ⟨#[108, 111, 110, 103]⟩
def zea : ByteArray := ⟨#[115, 117, 109]⟩
def zbp : ByteArray := ⟨#[116, 119, 105, 99, 101]⟩
def zd7 : ByteArray := ⟨#[110, 111, 110, 101]⟩
def z7Z : ByteArray := ⟨#[101, 114, 114, 111, 114]⟩
def zbs : ByteArray := ⟨#[115, 116, 97, 108, 101]⟩
def zdc : ByteArray := ⟨#[102, 117, 108, 108]⟩
def zbr : ByteArray := ⟨#[115, 116, 97, 116, 101]⟩
def zeb : ByteArray := ⟨#[99, 117, 116]⟩
def zd9 : ByteArray := ⟨#[109, 111, 114, 101]⟩
def zdb : ByteArray := ⟨#[107, 105, 110, 100]⟩
def s_refused : ByteArray := ⟨#[114, 101, 102, 117, 115, 101, 100]⟩
def z4j : ByteArray := ⟨#[116, 105, 109, 101, 111, 117, 116]⟩
def zco : ByteArray := ⟨#[58]⟩
def zcn : ByteArray := ⟨#[61]⟩
def zd6 : ByteArray := ⟨#[115, 101, 110, 116]⟩
def zbo : ByteArray := ⟨#[119, 97, 105, 116, 115]⟩
def zdd : ByteArray := ⟨#[100, 111, 110, 101]⟩
def tq0 : TI := ⟨.func, 1, some (.one (.func)), some [.nilFunc]⟩
def tq1 : TI := ⟨.int .i64, 1, some (.one (.int .i64)), some [.int .i64 0]⟩
def tq2 : TI := ⟨.int .u8, 1, some (.one (.int .u8)), some [.int .u8 0]⟩
def tq3 : TI := ⟨.struct [(2, 0), (3, 1), (4, 2), (6, 3)], 4, some (.agg [.int .i64, .int .i64, .bool, .int .u8]), some [.int .i64 0, .int .i64 0, .bool false, .int .u8 0]⟩
def tq4 : TI := ⟨.str, 1, some (.one (.str)), some [.string s_]⟩
def tq5 : TI := ⟨.int .u64, 1, some (.one (.int .u64)), some [.int .u64 0]⟩
def tq6 : TI := ⟨.struct [(9, 0), (12, 1)], 2, some (.agg [.str, .int .u64]), some [.string s_, .int .u64 0]⟩
def tq7 : TI := ⟨.ptr, 1, some (.one (.ptr)), some [.pointer none]⟩
def tq8 : TI := ⟨.struct [(17, 0)], 1, some (.agg [.ptr]), some [.pointer none]⟩
def tq9 : TI := ⟨.iface, 1, some (.one (.iface)), some [.nilIface]⟩
def tq10 : TI := ⟨.int .i32, 1, some (.one (.int .i32)), some [.int .i32 0]⟩
def tq11 : TI := ⟨.struct [(9, 0), (3, 1), (3, 2), (3, 3), (3, 4), (3, 5)], 6, some (.agg lf0), some [.string s_, .int .i64 0, .int .i64 0, .int .i64 0, .int .i64 0, .int .i64 0]⟩
def tq12 : TI := ⟨.struct [(3, 0), (3, 1)], 2, some (.agg [.int .i64, .int .i64]), some [.int .i64 0, .int .i64 0]⟩
def tq13 : TI := ⟨.struct [(9, 0), (9, 1), (35, 2), (3, 3)], 4, some (.agg [.str, .str, .slice, .int .i64]), some [.string s_, .string s_, .slice none 0 0, .int .i64 0]⟩
def tq14 : TI := ⟨.struct [(3, 0), (9, 1), (9, 2), (3, 3), (3, 4), (23, 5), (37, 11)], 15, some (.agg lf1), some [.int .i64 0, .string s_, .string s_, .int .i64 0, .int .i64 0, .string s_, .int .i64 0, .int .i64 0, .int .i64 0, .int .i64 0, .int .i64 0, .string s_, .string s_, .slice none 0 0, .int .i64 0]⟩
def tq15 : TI := ⟨.struct [(3, 0), (3, 1), (3, 2)], 3, some (.agg [.int .i64, .int .i64, .int .i64]), some [.int .i64 0, .int .i64 0, .int .i64 0]⟩
def tq16 : TI := ⟨.struct [(9, 0), (9, 1), (3, 2)], 3, some (.agg [.str, .str, .int .i64]), some [.string s_, .string s_, .int .i64 0]⟩
def tq17 : TI := ⟨.map 9 86, 1, some (.one (.map)), some [.map none]⟩
def tq18 : TI := ⟨.struct [(75, 0), (76, 1), (77, 2), (78, 3), (79, 4), (81, 5), (3, 6)], 7, some (.agg lf2), some [.pointer none, .pointer none, .pointer none, .pointer none, .pointer none, .map none, .int .i64 0]⟩
def tq19 : TI := ⟨.struct [(90, 0), (89, 1)], 3, some (.agg [.ptr, .int .i64, .int .i64]), some [.pointer none, .int .i64 0, .int .i64 0]⟩
def tq20 : TI := ⟨.struct [(102, 0), (3, 1)], 2, some (.agg [.slice, .int .i64]), some [.slice none 0 0, .int .i64 0]⟩
def tq21 : TI := ⟨.struct [(106, 0), (107, 1)], 2, some (.agg [.slice, .slice]), some [.slice none 0 0, .slice none 0 0]⟩
def tq22 : TI := ⟨.struct [(111, 0)], 1, some (.agg [.slice]), some [.slice none 0 0]⟩
def tq23 : TI := ⟨.struct [(3, 0), (101, 1), (105, 2), (110, 3), (99, 4), (114, 5), (116, 6)], 7, some (.agg lf3), some [.int .i64 0, .pointer none, .pointer none, .pointer none, .pointer none, .pointer none, .slice none 0 0]⟩
def tq24 : TI := ⟨.struct [(4, 0), (4, 1), (4, 2), (4, 3), (4, 4), (4, 5)], 6, some (.agg lf4), some [.bool false, .bool false, .bool false, .bool false, .bool false, .bool false]⟩
def tq25 : TI := ⟨.struct [(3, 0), (3, 1), (3, 2), (9, 3)], 4, some (.agg [.int .i64, .int .i64, .int .i64, .str]), some [.int .i64 0, .int .i64 0, .int .i64 0, .string s_]⟩
def tq26 : TI := ⟨.struct [(166, 0), (167, 1)], 2, some (.agg [.slice, .slice]), some [.slice none 0 0, .slice none 0 0]⟩
def tq27 : TI := ⟨.struct [(9, 0), (3, 1), (23, 2)], 8, some (.agg lf5), some [.string s_, .int .i64 0, .string s_, .int .i64 0, .int .i64 0, .int .i64 0, .int .i64 0, .int .i64 0]⟩
def tq28 : TI := ⟨.struct [(184, 0), (185, 1)], 2, some (.agg [.map, .func]), some [.map none, .nilFunc]⟩
def tq29 : TI := ⟨.struct [(78, 0), (183, 1), (187, 2), (3, 4), (3, 5)], 6, some (.agg lf6), some [.pointer none, .map none, .map none, .nilFunc, .int .i64 0, .int .i64 0]⟩
def tq30 : TI := ⟨.struct [(9, 0), (3, 1)], 2, some (.agg [.str, .int .i64]), some [.string s_, .int .i64 0]⟩
def tq31 : TI := ⟨.struct [(202, 0), (203, 1), (3, 2), (3, 3)], 4, some (.agg [.map, .map, .int .i64, .int .i64]), some [.map none, .map none, .int .i64 0, .int .i64 0]⟩
def tq32 : TI := ⟨.struct [(206, 0), (209, 1), (3, 2)], 3, some (.agg [.ptr, .ptr, .int .i64]), some [.pointer none, .pointer none, .int .i64 0]⟩
def tq33 : TI := ⟨.map 9 175, 1, some (.one (.map)), some [.map none]⟩
def tq34 : TI := ⟨.map 9 4, 1, some (.one (.map)), some [.map none]⟩
def tq35 : TI := ⟨.struct [(215, 0), (217, 1)], 2, some (.agg [.map, .map]), some [.map none, .map none]⟩
def tq36 : TI := ⟨.struct [(220, 0)], 1, some (.agg [.map]), some [.map none]⟩
def tq37 : TI := ⟨.struct [(3, 0), (3, 1), (224, 2)], 3, some (.agg [.int .i64, .int .i64, .slice]), some [.int .i64 0, .int .i64 0, .slice none 0 0]⟩
def tq38 : TI := ⟨.struct [(99, 0), (3, 1), (3, 2), (227, 3), (33, 4), (228, 5)], 6, some (.agg lf7), some [.pointer none, .int .i64 0, .int .i64 0, .slice none 0 0, .slice none 0 0, .slice none 0 0]⟩
def tq39 : TI := ⟨.struct [(241, 0), (85, 1)], 2, some (.agg [.ptr, .slice]), some [.pointer none, .slice none 0 0]⟩
def tq40 : TI := ⟨.struct [(9, 0), (200, 1)], 2, some (.agg [.str, .ptr]), some [.string s_, .pointer none]⟩
def tq41 : TI := ⟨.struct [(281, 0), (3, 60)], 61, some (.agg lf9), some (List.replicate 61 (.int .i64 0))⟩
def tq42 : TI := ⟨.struct [(283, 0), (3, 61)], 62, some (.agg lf10), some (List.replicate 62 (.int .i64 0))⟩
def tq43 : TI := ⟨.struct [(23, 0), (3, 6), (3, 7), (4, 8)], 9, some (.agg lf11), some [.string s_, .int .i64 0, .int .i64 0, .int .i64 0, .int .i64 0, .int .i64 0, .int .i64 0, .int .i64 0, .bool false]⟩
def tq44 : TI := ⟨.struct [(37, 0), (3, 4), (3, 5), (4, 6)], 7, some (.agg lf12), some [.string s_, .string s_, .slice none 0 0, .int .i64 0, .int .i64 0, .int .i64 0, .bool false]⟩
def tq45 : TI := ⟨.struct [(9, 0), (9, 1)], 2, some (.agg [.str, .str]), some [.string s_, .string s_]⟩
def tq46 : TI := ⟨.arr 2 9, 2, some (.agg [.str, .str]), some [.string s_, .string s_]⟩
def tq47 : TI := ⟨.struct [(166, 0), (166, 1), (3, 2), (3, 3), (169, 4)], 6, some (.agg lf13), some [.slice none 0 0, .slice none 0 0, .int .i64 0, .int .i64 0, .slice none 0 0, .slice none 0 0]⟩
def tq48 : TI := ⟨.struct [(334, 0)], 1, some (.agg [.slice]), some [.slice none 0 0]⟩
def tq49 : TI := ⟨.struct [(336, 0), (3, 1)], 2, some (.agg [.slice, .int .i64]), some [.slice none 0 0, .int .i64 0]⟩
def tq50 : TI := ⟨.struct [(343, 0), (3, 1)], 2, some (.agg [.map, .int .i64]), some [.map none, .int .i64 0]⟩
def tq51 : TI := ⟨.struct [(3, 0), (345, 1)], 3, some (.agg [.int .i64, .map, .int .i64]), some [.int .i64 0, .map none, .int .i64 0]⟩
def tq52 : TI := ⟨.struct [(348, 0), (208, 1)], 2, some (.agg [.map, .func]), some [.map none, .nilFunc]⟩
def tq53 : TI := ⟨.struct [(351, 0), (211, 1)], 2, some (.agg [.map, .func]), some [.map none, .nilFunc]⟩
def tq54 : TI := ⟨.struct [(9, 0), (9, 1), (245, 2)], 3, some (.agg [.str, .str, .iface]), some [.string s_, .string s_, .nilIface]⟩
def tq55 : TI := ⟨.struct [(9, 0)], 1, some (.agg [.str]), some [.string s_]⟩
def tq56 : TI := ⟨.struct [(17, 0), (17, 1), (17, 2), (9, 3)], 4, some (.agg [.ptr, .ptr, .ptr, .str]), some [.pointer none, .pointer none, .pointer none, .string s_]⟩
def tq57 : TI := ⟨.struct [(469, 0)], 0, some (.agg []), some []⟩
def tq58 : TI := ⟨.struct [(12, 0), (12, 1), (396, 2), (472, 3), (5, 4), (5, 5), (473, 6), (474, 7), (366, 8), (475, 9), (476, 10)], 11, some (.agg lf19), some [.int .u64 0, .int .u64 0, .int .u32 0, .int .u8 0, .int .u8 0, .int .u8 0, .int .u8 0, .nilFunc, .pointer none, .int .i32 0, .int .i32 0]⟩
def tq59 : TI := ⟨.struct [(3, 0), (9, 1), (23, 2), (37, 8), (3, 12), (3, 13), (4, 14)], 15, some (.agg lf20), some [.int .i64 0, .string s_, .string s_, .int .i64 0, .int .i64 0, .int .i64 0, .int .i64 0, .int .i64 0, .string s_, .string s_, .slice none 0 0, .int .i64 0, .int .i64 0, .int .i64 0, .bool false]⟩
def tq60 : TI := ⟨.struct [(9, 0), (166, 1), (166, 2), (3, 3), (3, 4), (169, 5)], 7, some (.agg lf21), some [.string s_, .slice none 0 0, .slice none 0 0, .int .i64 0, .int .i64 0, .slice none 0 0, .slice none 0 0]⟩
def tq61 : TI := ⟨.struct [(9, 0), (491, 1), (31, 2)], 4, some (.agg [.str, .ptr, .int .i64, .int .i64]), some [.string s_, .pointer none, .int .i64 0, .int .i64 0]⟩
def tq62 : TI := ⟨.struct [(3, 0), (9, 1), (494, 2)], 3, some (.agg [.int .i64, .str, .ptr]), some [.int .i64 0, .string s_, .pointer none]⟩
def tq63 : TI := ⟨.struct [(3, 0), (3, 1), (9, 2)], 3, some (.agg [.int .i64, .int .i64, .str]), some [.int .i64 0, .int .i64 0, .string s_]⟩
def tq64 : TI := ⟨.struct [(3, 0), (499, 1)], 2, some (.agg [.int .i64, .slice]), some [.int .i64 0, .slice none 0 0]⟩
def tq65 : TI := ⟨.struct [(24, 0)], 1, some (.agg [.slice]), some [.slice none 0 0]⟩
def tq66 : TI := ⟨.struct [(3, 0), (3, 1), (24, 2)], 3, some (.agg [.int .i64, .int .i64, .slice]), some [.int .i64 0, .int .i64 0, .slice none 0 0]⟩
def Dt : Tb := ⟨508, 362, (.node ⟨.tuple [], 1, none, none⟩ (.node tq0 (.node tq1 (.node tq3 (.node tq7 (.node tq12 (.node tq0 (.node tq0 (.node tq0 .nil .nil) (.node tq0 .nil .nil)) (.node tq30 (.node tq0 .nil .nil) (.node tq0 .nil .nil))) (.node tq0 (.node ⟨.tuple [23, 3, 3, 4], 1, none, none⟩ (.node tq43 .nil .nil) (.node tq0 .nil .nil)) (.node tq0 (.node ⟨.map 9 292, 1, some (.one (.map)), some [.map none]⟩ .nil .nil) (.node tq0 .nil .nil)))) (.node tq0 (.node tq7 (.node ⟨.slice 147, 1, some (.one (.slice)), some [.slice none 0 0]⟩ (.node ⟨.tuple [270, 4], 1, none, none⟩ .nil .nil) (.node tq7 .nil .nil)) (.node tq0 (.node tq48 .nil .nil) (.node tq55 .nil .nil))) (.node ⟨.slice 482, 1, some (.one (.slice)), some [.slice none 0 0]⟩ (.node tq27 (.node tq0 .nil .nil) (.node tq0 .nil .nil)) (.node tq0 (.node tq0 .nil .nil) (.node tq62 .nil .nil))))) (.node tq11 (.node tq14 (.node tq0 (.node ⟨.tuple [3, 54], 1, none, none⟩ (.node tq0 .nil .nil) (.node tq0 .nil .nil)) (.node tq0 (.node tq0 .nil .nil) (.node tq0 .nil .nil))) (.node tq20 (.node ⟨.slice 307, 1, some (.one (.slice)), some [.slice none 0 0]⟩ (.node ⟨.map 9 3, 1, some (.one (.map)), some [.map none]⟩ .nil .nil) (.node tq0 .nil .nil)) (.node tq0 (.node tq0 .nil .nil) (.node tq59 .nil .nil)))) (.node ⟨.tuple [27, 54], 1, none, none⟩ (.node ⟨.tuple [86, 4], 1, none, none⟩ (.node tq0 (.node tq0 .nil .nil) (.node tq0 .nil .nil)) (.node tq33 (.node ⟨.map 3 4, 1, some (.one (.map)), some [.map none]⟩ .nil .nil) (.node tq57 .nil .nil))) (.node tq0 (.node ⟨.map 3 191, 1, some (.one (.map)), some [.map none]⟩ (.node tq0 .nil .nil) (.node tq0 .nil .nil)) (.node tq0 (.node tq0 .nil .nil) (.node tq65 .nil .nil)))))) (.node tq4 (.node tq8 (.node ⟨.slice 69, 1, some (.one (.slice)), some [.slice none 0 0]⟩ (.node tq0 (.node tq0 (.node tq0 .nil .nil) (.node tq0 .nil .nil)) (.node tq0 (.node tq0 .nil .nil) (.node tq0 .nil .nil))) (.node tq7 (.node tq0 (.node tq44 .nil .nil) (.node tq0 .nil .nil)) (.node ⟨.slice 485, 1, some (.one (.slice)), some [.slice none 0 0]⟩ (.node tq0 .nil .nil) (.node tq7 .nil .nil)))) (.node tq0 (.node tq18 (.node tq25 (.node tq0 .nil .nil) (.node tq0 .nil .nil)) (.node tq0 (.node tq0 .nil .nil) (.node tq56 .nil .nil))) (.node tq0 (.node tq0 (.node tq45 .nil .nil) (.node tq7 .nil .nil)) (.node tq39 (.node tq12 .nil .nil) (.node ⟨.slice 507, 1, some (.one (.slice)), some [.slice none 0 0]⟩ .nil .nil))))) (.node tq7 (.node tq0 (.node tq7 (.node tq0 (.node ⟨.tuple [9, 54], 1, none, none⟩ .nil .nil) (.node tq0 .nil .nil)) (.node ⟨.map 3 3, 1, some (.one (.map)), some [.map none]⟩ (.node tq5 .nil .nil) (.node tq0 .nil .nil))) (.node ⟨.slice 4, 1, some (.one (.slice)), some [.slice none 0 0]⟩ (.node tq0 (.node tq0 .nil .nil) (.node tq0 .nil .nil)) (.node tq0 (.node tq0 .nil .nil) (.node tq7 .nil .nil)))) (.node tq0 (.node tq19 (.node tq0 (.node tq41 .nil .nil) (.node ⟨.slice 413, 1, some (.one (.slice)), some [.slice none 0 0]⟩ .nil .nil)) (.node tq35 (.node tq51 .nil .nil) (.node tq10 .nil .nil))) (.node ⟨.tuple [122, 4], 1, none, none⟩ (.node tq28 (.node tq47 .nil .nil) (.node tq7 .nil .nil)) (.node tq0 (.node tq0 .nil .nil) (.node tq12 .nil .nil))))))) (.node tq2 (.node tq4 (.node tq7 (.node ⟨.slice 9, 1, some (.one (.slice)), some [.slice none 0 0]⟩ (.node tq0 (.node tq0 (.node tq0 .nil .nil) (.node tq0 .nil .nil)) (.node tq7 (.node tq0 .nil .nil) (.node tq0 .nil .nil))) (.node tq0 (.node ⟨.tuple [9, 4], 1, none, none⟩ (.node tq0 .nil .nil) (.node tq0 .nil .nil)) (.node tq37 (.node tq53 .nil .nil) (.node tq7 .nil .nil)))) (.node tq0 (.node tq17 (.node tq0 (.node ⟨.tuple [3, 4], 1, none, none⟩ .nil .nil) (.node tq0 .nil .nil)) (.node tq7 (.node tq49 .nil .nil) (.node ⟨.arr 64 5, 64, some (.agg lf18), some (List.replicate 64 (.int .u8 0))⟩ .nil .nil))) (.node tq22 (.node tq0 (.node tq0 .nil .nil) (.node ⟨.tuple [2, 245], 1, none, none⟩ .nil .nil)) (.node tq7 (.node tq7 .nil .nil) (.node tq63 .nil .nil))))) (.node tq0 (.node tq0 (.node tq0 (.node tq0 (.node tq0 .nil .nil) (.node tq0 .nil .nil)) (.node tq0 (.node tq0 .nil .nil) (.node tq0 .nil .nil))) (.node tq7 (.node tq26 (.node tq0 .nil .nil) (.node tq7 .nil .nil)) (.node tq0 (.node tq0 .nil .nil) (.node tq60 .nil .nil)))) (.node tq7 (.node tq12 (.node tq0 (.node ⟨.arr 60 3, 60, some (.agg lf8), some (List.replicate 60 (.int .i64 0))⟩ .nil .nil) (.node tq0 .nil .nil)) (.node tq34 (.node tq50 .nil .nil) (.node tq2 .nil .nil))) (.node tq24 (.node tq0 (.node tq46 .nil .nil) (.node ⟨.arr 65 5, 65, some (.agg lf16), some (List.replicate 65 (.int .u8 0))⟩ .nil .nil)) (.node tq0 (.node tq7 .nil .nil) (.node tq66 .nil .nil)))))) (.node tq6 (.node tq10 (.node tq13 (.node tq16 (.node tq0 (.node ⟨.tuple [147, 4], 1, none, none⟩ .nil .nil) (.node tq1 .nil .nil)) (.node tq0 (.node tq0 .nil .nil) (.node tq54 .nil .nil))) (.node tq7 (.node tq0 (.node ⟨.tuple [292, 4], 1, none, none⟩ .nil .nil) (.node tq5 .nil .nil)) (.node tq38 (.node tq0 .nil .nil) (.node tq7 .nil .nil)))) (.node ⟨.slice 52, 1, some (.one (.slice)), some [.slice none 0 0]⟩ (.node ⟨.slice 5, 1, some (.one (.slice)), some [.slice none 0 0]⟩ (.node ⟨.tuple [143, 54], 1, none, none⟩ (.node tq0 .nil .nil) (.node tq0 .nil .nil)) (.node tq32 (.node tq0 .nil .nil) (.node ⟨.arr 0 16, 0, some (.agg []), some []⟩ .nil .nil))) (.node tq23 (.node tq0 (.node ⟨.slice 313, 1, some (.one (.slice)), some [.slice none 0 0]⟩ .nil .nil) (.node tq0 .nil .nil)) (.node tq9 (.node tq0 .nil .nil) (.node tq64 .nil .nil))))) (.node tq0 (.node tq15 (.node tq7 (.node tq0 (.node tq40 .nil .nil) (.node tq0 .nil .nil)) (.node tq31 (.node tq0 .nil .nil) (.node tq7 .nil .nil))) (.node tq21 (.node tq0 (.node tq30 .nil .nil) (.node tq0 .nil .nil)) (.node tq12 (.node tq0 .nil .nil) (.node tq61 .nil .nil)))) (.node tq0 (.node tq0 (.node tq0 (.node tq42 .nil .nil) (.node tq12 .nil .nil)) (.node tq36 (.node tq52 .nil .nil) (.node tq58 .nil .nil))) (.node tq0 (.node tq29 (.node tq0 .nil .nil) (.node tq0 .nil .nil)) (.node tq0 (.node tq0 .nil .nil) .nil))))))) (.node tq1 (.node ⟨.bool, 1, some (.one (.bool)), some [.bool false]⟩ (.node tq3 (.node tq7 (.node tq0 (.node tq0 (.node tq0 (.node tq0 .nil .nil) (.node tq0 .nil .nil)) (.node tq0 (.node tq0 .nil .nil) (.node tq0 .nil .nil))) (.node tq0 (.node tq0 (.node ⟨.tuple [287, 4], 1, none, none⟩ .nil .nil) (.node tq7 .nil .nil)) (.node ⟨.slice 484, 1, some (.one (.slice)), some [.slice none 0 0]⟩ (.node tq53 .nil .nil) (.node tq0 .nil .nil)))) (.node tq0 (.node tq17 (.node tq0 (.node tq0 .nil .nil) (.node tq0 .nil .nil)) (.node tq0 (.node tq48 .nil .nil) (.node ⟨.arr 32 5, 32, some (.agg lf17), some (List.replicate 32 (.int .u8 0))⟩ .nil .nil))) (.node tq22 (.node ⟨.tuple [175, 4], 1, none, none⟩ (.node tq0 .nil .nil) (.node tq1 .nil .nil)) (.node tq0 (.node ⟨.tuple [191, 4], 1, none, none⟩ .nil .nil) (.node tq62 .nil .nil))))) (.node ⟨.slice 3, 1, some (.one (.slice)), some [.slice none 0 0]⟩ (.node ⟨.tuple [24, 24], 1, none, none⟩ (.node tq0 (.node tq0 (.node tq0 .nil .nil) (.node tq0 .nil .nil)) (.node tq7 (.node tq0 .nil .nil) (.node tq0 .nil .nil))) (.node tq20 (.node tq26 (.node ⟨.map 9 9, 1, some (.one (.map)), some [.map none]⟩ .nil .nil) (.node tq0 .nil .nil)) (.node tq0 (.node ⟨.slice 358, 1, some (.one (.slice)), some [.slice none 0 0]⟩ .nil .nil) (.node tq59 .nil .nil)))) (.node tq0 (.node tq0 (.node tq0 (.node tq0 .nil .nil) (.node ⟨.other, 1, none, none⟩ .nil .nil)) (.node tq34 (.node tq50 .nil .nil) (.node tq2 .nil .nil))) (.node tq0 (.node ⟨.map 9 193, 1, some (.one (.map)), some [.map none]⟩ (.node tq46 .nil .nil) (.node ⟨.arr 20 398, 20, some (.agg lf15), some (List.replicate 20 (.int .u64 0))⟩ .nil .nil)) (.node tq0 (.node tq0 .nil .nil) (.node tq66 .nil .nil)))))) (.node tq5 (.node tq9 (.node tq13 (.node tq16 (.node tq0 (.node tq0 .nil .nil) (.node tq0 .nil .nil)) (.node tq0 (.node tq0 .nil .nil) (.node tq0 .nil .nil))) (.node tq0 (.node ⟨.tuple [37, 3, 4], 1, none, none⟩ (.node tq44 .nil .nil) (.node tq0 .nil .nil)) (.node ⟨.slice 486, 1, some (.one (.slice)), some [.slice none 0 0]⟩ (.node tq0 .nil .nil) (.node tq7 .nil .nil)))) (.node ⟨.arr 3 3, 3, some (.agg [.int .i64, .int .i64, .int .i64]), some [.int .i64 0, .int .i64 0, .int .i64 0]⟩ (.node tq0 (.node tq0 (.node tq0 .nil .nil) (.node ⟨.arr 24 5, 24, some (.agg lf14), some (List.replicate 24 (.int .u8 0))⟩ .nil .nil)) (.node tq32 (.node tq0 .nil .nil) (.node tq56 .nil .nil))) (.node ⟨.slice 483, 1, some (.one (.slice)), some [.slice none 0 0]⟩ (.node tq0 (.node tq0 .nil .nil) (.node tq0 .nil .nil)) (.node tq9 (.node tq12 .nil .nil) (.node tq64 .nil .nil))))) (.node ⟨.tuple [27, 4], 1, none, none⟩ (.node tq15 (.node tq7 (.node tq0 (.node tq0 .nil .nil) (.node ⟨.int .u32, 1, some (.one (.int .u32)), some [.int .u32 0]⟩ .nil .nil)) (.node tq31 (.node tq0 .nil .nil) (.node tq0 .nil .nil))) (.node tq21 (.node tq0 (.node tq0 .nil .nil) (.node tq0 .nil .nil)) (.node tq0 (.node tq0 .nil .nil) (.node tq61 .nil .nil)))) (.node ⟨.tuple [3, 3, 3, 3], 1, none, none⟩ (.node tq19 (.node tq0 (.node tq42 .nil .nil) (.node tq12 .nil .nil)) (.node ⟨.map 9 315, 1, some (.one (.map)), some [.map none]⟩ (.node ⟨.map 9 287, 1, some (.one (.map)), some [.map none]⟩ .nil .nil) (.node tq10 .nil .nil))) (.node tq0 (.node tq29 (.node ⟨.tuple [315, 4], 1, none, none⟩ .nil .nil) (.node tq0 .nil .nil)) (.node tq0 (.node tq0 .nil .nil) .nil)))))) (.node tq2 (.node tq4 (.node tq8 (.node tq0 (.node tq0 (.node tq0 (.node tq0 .nil .nil) (.node tq0 .nil .nil)) (.node ⟨.tuple [193, 4], 1, none, none⟩ (.node ⟨.arr 2 3, 2, some (.agg [.int .i64, .int .i64]), some [.int .i64 0, .int .i64 0]⟩ .nil .nil) (.node ⟨.tuple [398, 245], 1, none, none⟩ .nil .nil))) (.node tq0 (.node tq0 (.node tq0 .nil .nil) (.node ⟨.slice 166, 1, some (.one (.slice)), some [.slice none 0 0]⟩ .nil .nil)) (.node tq37 (.node tq0 .nil .nil) (.node tq7 .nil .nil)))) (.node tq0 (.node tq18 (.node tq25 (.node tq0 .nil .nil) (.node tq0 .nil .nil)) (.node tq0 (.node tq49 .nil .nil) (.node tq0 .nil .nil))) (.node tq7 (.node tq0 (.node tq45 .nil .nil) (.node tq0 .nil .nil)) (.node tq39 (.node tq0 .nil .nil) (.node tq63 .nil .nil))))) (.node tq0 (.node ⟨.slice 45, 1, some (.one (.slice)), some [.slice none 0 0]⟩ (.node ⟨.map 3 34, 1, some (.one (.map)), some [.map none]⟩ (.node tq0 (.node tq0 .nil .nil) (.node tq0 .nil .nil)) (.node ⟨.map 3 270, 1, some (.one (.map)), some [.map none]⟩ (.node tq0 .nil .nil) (.node tq0 .nil .nil))) (.node ⟨.slice 175, 1, some (.one (.slice)), some [.slice none 0 0]⟩ (.node ⟨.tuple [169, 54], 1, none, none⟩ (.node tq0 .nil .nil) (.node tq0 .nil .nil)) (.node ⟨.tuple [9, 3, 4], 1, none, none⟩ (.node tq0 .nil .nil) (.node tq60 .nil .nil)))) (.node ⟨.tuple [57, 3], 1, none, none⟩ (.node tq7 (.node ⟨.tuple [24, 54], 1, none, none⟩ (.node tq41 .nil .nil) (.node tq0 .nil .nil)) (.node tq35 (.node tq51 .nil .nil) (.node tq0 .nil .nil))) (.node tq24 (.node tq28 (.node tq47 .nil .nil) (.node tq0 .nil .nil)) (.node tq0 (.node ⟨.tuple [9, 9], 1, none, none⟩ .nil .nil) (.node tq12 .nil .nil)))))) (.node tq6 (.node tq11 (.node tq14 (.node ⟨.slice 39, 1, some (.one (.slice)), some [.slice none 0 0]⟩ (.node tq0 (.node tq0 .nil .nil) (.node ⟨.tuple [3, 389], 1, none, none⟩ .nil .nil)) (.node tq0 (.node ⟨.arr 4 3, 4, some (.agg [.int .i64, .int .i64, .int .i64, .int .i64]), some [.int .i64 0, .int .i64 0, .int .i64 0, .int .i64 0]⟩ .nil .nil) (.node tq54 .nil .nil))) (.node ⟨.slice 481, 1, some (.one (.slice)), some [.slice none 0 0]⟩ (.node ⟨.slice 302, 1, some (.one (.slice)), some [.slice none 0 0]⟩ (.node tq0 .nil .nil) (.node tq0 .nil .nil)) (.node tq38 (.node tq0 .nil .nil) (.node tq7 .nil .nil)))) (.node tq1 (.node tq7 (.node tq0 (.node tq0 .nil .nil) (.node ⟨.tuple [85, 9], 1, none, none⟩ .nil .nil)) (.node tq33 (.node tq0 .nil .nil) (.node tq57 .nil .nil))) (.node tq23 (.node tq0 (.node ⟨.tuple [309, 309], 1, none, none⟩ .nil .nil) (.node tq0 .nil .nil)) (.node ⟨.tuple [3, 245], 1, none, none⟩ (.node tq0 .nil .nil) (.node tq65 .nil .nil))))) (.node tq12 (.node ⟨.tuple [3, 3], 1, none, none⟩ (.node tq7 (.node tq0 (.node tq40 .nil .nil) (.node tq5 .nil .nil)) (.node tq7 (.node ⟨.slice 372, 1, some (.one (.slice)), some [.slice none 0 0]⟩ .nil .nil) (.node tq55 .nil .nil))) (.node tq7 (.node tq27 (.node tq30 .nil .nil) (.node ⟨.tuple [396, 396], 1, none, none⟩ .nil .nil)) (.node tq12 (.node tq7 .nil .nil) (.node tq7 .nil .nil)))) (.node tq0 (.node tq0 (.node tq0 (.node tq43 .nil .nil) (.node tq0 .nil .nil)) (.node tq36 (.node tq52 .nil .nil) (.node tq58 .nil .nil))) (.node tq0 (.node tq30 (.node tq0 .nil .nil) (.node tq0 .nil .nil)) (.node ⟨.tuple [169, 4], 1, none, none⟩ (.node tq0 .nil .nil) .nil)))))))), (.node none (.node none (.node none (.node (some (.one (.one (.bool)))) (.node none (.node (some (.one (.one (.str)))) (.node (some (.one (.one (.bool)))) .nil .nil) (.node (some (.one (.one (.slice)))) (.node (some (.one (.one (.slice)))) .nil .nil) (.node (some (.one (.one (.slice)))) .nil .nil))) .nil) (.node (some (.one (.one (.slice)))) (.node (some (.one (.one (.slice)))) (.node (some (.one (.one (.int .i64)))) .nil .nil) .nil) (.node (some (.one (.one (.ptr)))) .nil (.node none .nil (.node (some (.tup [])) .nil .nil))))) (.node (some (.one (.one (.slice)))) (.node (some (.tup [(.one (.ptr)), (.one (.int .i64))])) (.node (some (.one (.one (.slice)))) (.node (some (.one (.one (.bool)))) (.node (some (.one (.one (.bool)))) .nil .nil) .nil) (.node none (.node (some (.one (.one (.slice)))) .nil .nil) .nil)) (.node (some (.one (.one (.ptr)))) .nil (.node (some (.one (.one (.slice)))) .nil .nil))) (.node none (.node (some (.one (.one (.slice)))) (.node (some (.one (.one (.str)))) .nil (.node (some (.one (.one (.bool)))) .nil .nil)) .nil) (.node (some (.one (.one (.slice)))) (.node none (.node (some (.one (.one (.func)))) (.node (some (.one (.one (.slice)))) .nil .nil) .nil) .nil) (.node (some (.one (.one (.bool)))) .nil (.node (some (.tup [])) .nil .nil)))))) (.node none (.node none (.node none (.node (some (.one (.one (.slice)))) (.node (some (.one (.one (.bool)))) (.node (some (.one (.one (.bool)))) (.node (some (.one (.one (.int .i64)))) .nil .nil) .nil) (.node (some (.one (.one (.func)))) .nil .nil)) (.node (some (.one (.one (.int .i64)))) .nil .nil)) (.node (some (.one (.one (.bool)))) (.node (some (.one (.one (.slice)))) .nil .nil) (.node (some (.tup [])) .nil .nil))) (.node none (.node (some (.one (.one (.slice)))) (.node (some (.one (.one (.str)))) .nil (.node (some (.one (.one (.int .i64)))) .nil .nil)) .nil) (.node (some (.tup [(.one (.int .i64)), (.one (.int .i64)), (.one (.int .i64)), (.one (.int .i64))])) (.node none .nil (.node (some (.one (.one (.str)))) .nil .nil)) (.node (some (.one (.one (.bool)))) .nil .nil)))) (.node none (.node (some (.one (.one (.int .i64)))) (.node (some (.one (.one (.slice)))) (.node (some (.one (.one (.bool)))) (.node (some (.one (.one (.int .i64)))) .nil .nil) .nil) .nil) (.node (some (.one (.one (.ptr)))) (.node (some (.one (.one (.slice)))) (.node (some (.one (.agg [.int .i64, .int .i64, .int .i64, .str]))) .nil .nil) .nil) .nil)) (.node none (.node (some (.tup [(.one (.slice)), (.one (.slice))])) (.node none .nil (.node (some (.one (.one (.bool)))) .nil .nil)) .nil) (.node (some (.one (.one (.slice)))) (.node none .nil (.node (some (.tup [])) .nil .nil)) .nil))))) (.node none (.node (some (.one (.one (.bool)))) (.node none (.node none (.node (some (.one (.one (.str)))) (.node (some (.one (.one (.bool)))) (.node (some (.tup [(.one (.str)), (.one (.int .i64)), (.one (.bool))])) .nil .nil) (.node (some (.one (.one (.slice)))) .nil .nil)) (.node (some (.tup [])) .nil .nil)) .nil) (.node none (.node (some (.one (.one (.slice)))) (.node (some (.one (.one (.int .i64)))) .nil .nil) .nil) (.node (some (.one (.one (.ptr)))) (.node none (.node (some (.one (.one (.int .i64)))) .nil .nil) (.node (some (.tup [])) .nil .nil)) (.node (some (.one (.one (.ptr)))) .nil .nil)))) (.node none (.node (some (.tup [(.one (.int .i64)), (.one (.int .i64)), (.one (.int .i64)), (.one (.int .i64))])) (.node (some (.one (.one (.slice)))) (.node (some (.one (.one (.bool)))) (.node (some (.one (.one (.int .i64)))) .nil .nil) .nil) (.node none (.node (some (.tup [])) .nil .nil) .nil)) (.node (some (.one (.one (.ptr)))) .nil .nil)) (.node none (.node (some (.one (.one (.slice)))) (.node (some (.one (.one (.str)))) (.node none (.node (some (.tup [])) .nil .nil) .nil) (.node (some (.one (.one (.bool)))) .nil .nil)) .nil) (.node none .nil (.node (some (.one (.one (.ptr)))) .nil (.node (some (.tup [])) .nil .nil)))))) (.node none (.node (some (.one (.one (.int .i64)))) (.node (some (.tup [(.one (.ptr)), (.one (.int .i64))])) (.node (some (.one (.one (.slice)))) (.node (some (.one (.one (.bool)))) (.node (some (.one (.one (.bool)))) .nil .nil) .nil) (.node none (.node (some (.one (.one (.func)))) .nil .nil) .nil)) (.node (some (.one (.one (.ptr)))) .nil (.node (some (.one (.one (.slice)))) .nil .nil))) (.node none (.node (some (.one (.one (.slice)))) (.node (some (.one (.one (.str)))) .nil (.node (some (.tup [(.one (.int .i64)), (.one (.iface))])) .nil .nil)) .nil) (.node (some (.one (.one (.int .i64)))) .nil (.node (some (.one (.one (.ptr)))) (.node (some (.one (.one (.func)))) .nil .nil) (.node (some (.one (.one (.slice)))) .nil .nil))))) (.node none (.node (some (.one (.one (.int .i64)))) (.node (some (.one (.one (.slice)))) (.node (some (.one (.one (.bool)))) .nil .nil) (.node none (.node (some (.one (.one (.str)))) .nil .nil) .nil)) (.node (some (.one (.one (.ptr)))) (.node (some (.one (.one (.str)))) (.node (some (.one (.agg [.int .i64, .int .i64, .int .i64, .str]))) .nil .nil) .nil) .nil)) (.node (some (.one (.one (.int .i64)))) (.node none (.node none .nil (.node (some (.one (.one (.bool)))) .nil .nil)) .nil) (.node (some (.tup [(.agg lf4), (.one (.bool))])) (.node none .nil (.node (some (.one (.one (.func)))) .nil .nil)) (.node (some (.one (.one (.slice)))) .nil .nil)))))))⟩
theorem Tok : TbOk Pr Dt := zdq (by kernel_rfl) (by kernel_rfl) (by kernel_rfl)
theorem C_of {f : FuncId} {fn : Func} {an : Ann} {args : List SV} {F : PT} {K : Value → PT} {w : World} (h1 : Pr.funcs[f]? = some fn) (h2 : okF args.length fn = true) (h3 : denF Pr Dt fn an args K = F) (h : F w) : CT Pr f (vals args) K w := zdE Tok h1 h2 ((congrFun h3 w).mpr h)
def z43 : Ann := (.seq .auto (.seq .auto (.seq .auto (.seq (.seq .auto (.one [(10, (.one (.int .i64)))] (.seq .auto (.seq .auto .auto (some [])) none)) none) .auto none) none) none) none)
def z2o (p0 : Int) (p1 : Int) (p2 : Int) (p3 : Int) (K : Value → PT) : PT :=
 L.call Pr z1Z [] rB fun (x1 : Bool) =>
 L.ite (!x1) (
  K (.bool false)) <|
 L.call Pr z0W [.int .i64 p0, .int .i64 30] rI fun (x2 : Int) =>
 L.call Pr z0W [.int .i64 p1, .int .i64 9] rI fun (x3 : Int) =>
 L.call Pr z0W [.int .i64 p2, .int .i64 50] rI fun (x4 : Int) =>
 L.new [.int .i64 p0, .int .i64 p1, .int .i64 p2, .int .i64 (IntKind.wrap .i64 (1 + x2)), .int .i64 x3, .int .i64 (IntKind.wrap .i64 (1 + x4)), .int .i64 0, .int .i64 1, .int .i64 1, .int .i64 31, .int .i64 1, .int .i64 1, .int .i64 1, .int .i64 (-1), .int .i64 1, .int .i64 1, .int .i64 9, .int .i64 1, .int .i64 1, .int .i64 1, .int .i64 0, .int .i64 1, .int .i64 1, .int .i64 51, .int .i64 30, .int .i64 8, .int .i64 50, .int .i64 1, .int .i64 0, .int .i64 1] z8j fun b5 =>
 L.loop (Y := Int × Unit) (0, ()) fun y6 again7 =>
 L.ite (decide (y6.1 < ((10 : Nat) : Int))) (
  L.join (Y := Unit) (fun k8 =>
   L.draw <|
   L.idx (some ⟨b5, 0, none⟩) y6.1 10 3 fun a10 =>
   L.idx (some a10) 0 3 1 fun a11 =>
   L.load eI6 a11 fun (x12 : Int) =>
   L.idx (some ⟨b5, 0, none⟩) y6.1 10 3 fun a13 =>
   L.idx (some a13) 1 3 1 fun a14 =>
   L.load eI6 a14 fun (x15 : Int) =>
   L.idx (some ⟨b5, 0, none⟩) y6.1 10 3 fun a16 =>
   L.idx (some a16) 2 3 1 fun a17 =>
   L.load eI6 a17 fun (x18 : Int) =>
   L.call Pr z3r [.int .i64 x12, .int .i64 x15, .int .i64 x18] (.tup [eP6, eI6]) fun (x19 : Option Addr × Int × Unit) =>
   L.draw <|
   L.idx (some ⟨b5, 0, none⟩) y6.1 10 3 fun a20 =>
   L.idx (some a20) 0 3 1 fun a21 =>
   L.load eI6 a21 fun (x22 : Int) =>
   L.idx (some ⟨b5, 0, none⟩) y6.1 10 3 fun a23 =>
   L.idx (some a23) 1 3 1 fun a24 =>
   L.load eI6 a24 fun (x25 : Int) =>
   L.idx (some ⟨b5, 0, none⟩) y6.1 10 3 fun a26 =>
   L.idx (some a26) 2 3 1 fun a27 =>
   L.load eI6 a27 fun (x28 : Int) =>
   L.call Pr z2y [.int .i64 x22, .int .i64 x25, .int .i64 x28] (.tup [eP6, eI6]) fun (x29 : Option Addr × Int × Unit) =>
   L.ite (x19.2.1 != x29.2.1) (
    K (.bool false)) <|
   L.ite (!(((x19.1).isNone) == (x19.2.1 != 0))) (
    K (.bool false)) <|
   L.ite (!(x19.1).isNone) (
    L.call Pr z1q [.pointer x19.1] (.tup [eI6, eI6, eI6, eI6]) fun (x30 : Int × Int × Int × Int × Unit) =>
    L.call Pr z1c [.pointer x19.1] rI fun (x31 : Int) =>
    L.ite (x31 != 0) (
     K (.bool false)) <|
    L.call Pr z1T [.pointer x19.1] rI fun (x32 : Int) =>
    L.ite (x32 != 0) (
     K (.bool false)) <|
    L.call Pr z0N [.pointer x19.1] rL fun (x33 : Sl) =>
    L.ite (((x33.len : Nat) : Int) != 0) (
     K (.bool false)) <|
    L.ite ((IntKind.wrap .i64 ((IntKind.wrap .i64 ((IntKind.wrap .i64 (x30.1 + x30.2.1)) + x30.2.2.1)) + x30.2.2.2.1)) != 0) (
     K (.bool false)) <|
    k8 (())) <|
   k8 (())) fun z9 =>
  again7 (IntKind.wrap .i64 (y6.1 + 1), ())) <|
 K (.bool true)
theorem z42 (p0 : Int) (p1 : Int) (p2 : Int) (p3 : Int) {K : Value → PT} {w : World} (h : z2o p0 p1 p2 p3 K w) : CT Pr z2g [.int .i64 p0, .int .i64 p1, .int .i64 p2, .int .i64 p3] K w :=
 C_of (fn := Tryz.f4) (an := z43) (args := [.v (.int .i64 p0), .v (.int .i64 p1), .v (.int .i64 p2), .v (.int .i64 p3)]) (by kernel_rfl) (by kernel_rfl) (by kernel_rfl) h
def z3m  (K : Value → PT) : PT :=
 L.call Pr z3r [.int .i64 3, .int .i64 2, .int .i64 5] (.tup [eP6, eI6]) fun (x1 : Option Addr × Int × Unit) =>
 L.ite ((x1.1).isNone) (
  K (.bool false)) <|
 L.ite (x1.2.1 != 0) (
  K (.bool false)) <|
 L.call Pr z0C [.pointer x1.1, .agg #[.int .i64 0, .string s_, .string s_, .int .i64 0, .int .i64 0, .string s_, .int .i64 0, .int .i64 0, .int .i64 0, .int .i64 0, .int .i64 0, .string s_, .string s_, .slice none 0 0, .int .i64 0]] rL fun (x2 : Sl) =>
 L.call Pr z0C [.pointer x1.1, .agg #[.int .i64 9, .string s_, .string s_, .int .i64 0, .int .i64 0, .string s_, .int .i64 0, .int .i64 0, .int .i64 0, .int .i64 0, .int .i64 0, .string s_, .string s_, .slice none 0 0, .int .i64 0]] rL fun (x3 : Sl) =>
 L.ite (((x2.len : Nat) : Int) == 1) (
  L.idx x2.a 0 x2.len 1 fun a4 =>
  L.load eS6 a4 fun (x5 : ByteArray) =>
  L.ite (x5.toList == s_bad_kind.toList) (
   L.ite (((x3.len : Nat) : Int) == 1) (
    L.idx x3.a 0 x3.len 1 fun a6 =>
    L.load eS6 a6 fun (x7 : ByteArray) =>
    L.ite (x7.toList == s_tick_1.toList) (
     L.call Pr z1c [.pointer x1.1] rI fun (x8 : Int) =>
     K (.bool (x8 == 1))) <|
    K (.bool false)) <|
   K (.bool false)) <|
  K (.bool false)) <|
 K (.bool false)
theorem z5i  {K : Value → PT} {w : World} (h : z3m  K w) : CT Pr z1Z [] K w :=
 C_of (fn := Tryz.f7) (an := .auto) (args := []) (by kernel_rfl) (by kernel_rfl) (by kernel_rfl) h
def z4S : Ann := (.seq .auto (.seq .auto (.seq .auto .auto (some [(5, (.one (.int .i64)))])) none) none)
def z2Q (p0 : Int) (p1 : Int) (K : Value → PT) : PT :=
 L.guard (p1 ≠ (0 : Int)) <|
 L.join (Y := Int × Unit) (fun k1 =>
  L.ite (decide ((Int.tmod p0 p1) < 0)) (
   k1 (IntKind.wrap .i64 ((Int.tmod p0 p1) + p1), ())) <|
  k1 (Int.tmod p0 p1, ())) fun z2 =>
 K (.int .i64 z2.1)
theorem z4P (p0 : Int) (p1 : Int) {K : Value → PT} {w : World} (h : z2Q p0 p1 K w) : CT Pr z0W [.int .i64 p0, .int .i64 p1] K w :=
 C_of (fn := Tryz.f10) (an := z4S) (args := [.v (.int .i64 p0), .v (.int .i64 p1)]) (by kernel_rfl) (by kernel_rfl) (by kernel_rfl) h
def z2k (p0 : Option Addr) (p1 : ht1) (K : Value → PT) : PT :=
 L.new [.int .i64 p1.1, .string p1.2.1, .string p1.2.2.1, .int .i64 p1.2.2.2.1, .int .i64 p1.2.2.2.2.1, .string p1.2.2.2.2.2.1, .int .i64 p1.2.2.2.2.2.2.1, .int .i64 p1.2.2.2.2.2.2.2.1, .int .i64 p1.2.2.2.2.2.2.2.2.1, .int .i64 p1.2.2.2.2.2.2.2.2.2.1, .int .i64 p1.2.2.2.2.2.2.2.2.2.2.1, .string p1.2.2.2.2.2.2.2.2.2.2.2.1, .string p1.2.2.2.2.2.2.2.2.2.2.2.2.1, .slice p1.2.2.2.2.2.2.2.2.2.2.2.2.2.1.a p1.2.2.2.2.2.2.2.2.2.2.2.2.2.1.len p1.2.2.2.2.2.2.2.2.2.2.2.2.2.1.cap, .int .i64 p1.2.2.2.2.2.2.2.2.2.2.2.2.2.2.1] z2z fun b1 =>
 L.load (.agg lf1) (⟨b1, 0, none⟩) fun (x2 : pt1) =>
 L.call Pr z3U [(qa1 x2)] rI fun (x3 : Int) =>
 L.ite (x3 != 0) (
  L.call Pr z1L [.int .i64 x3] rS fun (x4 : ByteArray) =>
  L.new [.string x4] z05 fun b5 =>
  L.call Pr z0q [.string zds, .slice (some ⟨b5, 0, none⟩) 1 1] rS fun (x6 : ByteArray) =>
  L.new [.string x6] z05 fun b7 =>
  K (.slice (some ⟨b7, 0, none⟩) 1 1)) <|
 L.sem Pr (.one (.one .map)) (Instr.makeMap z00 none) fun (m8 : Option Nat) =>
 L.semU Pr (Instr.mapUpdate z00 (.map m8) (.int .i64 1) (.func (.func z1o) #[.pointer p0] #[])) <|
 L.semU Pr (Instr.mapUpdate z00 (.map m8) (.int .i64 2) (.func (.func z1E) #[.pointer p0] #[])) <|
 L.semU Pr (Instr.mapUpdate z00 (.map m8) (.int .i64 3) (.func (.func z1R) #[.pointer p0] #[])) <|
 L.semU Pr (Instr.mapUpdate z00 (.map m8) (.int .i64 4) (.func (.func z1p) #[.pointer p0] #[])) <|
 L.semU Pr (Instr.mapUpdate z00 (.map m8) (.int .i64 5) (.func (.func z1S) #[.pointer p0] #[])) <|
 L.semU Pr (Instr.mapUpdate z00 (.map m8) (.int .i64 6) (.func (.func z2b) #[.pointer p0] #[])) <|
 L.semU Pr (Instr.mapUpdate z00 (.map m8) (.int .i64 7) (.func (.func z0F) #[.pointer p0] #[])) <|
 L.semU Pr (Instr.mapUpdate z00 (.map m8) (.int .i64 8) (.func (.func z0F) #[.pointer p0] #[])) <|
 L.semU Pr (Instr.mapUpdate z00 (.map m8) (.int .i64 9) (.func (.func z0E) #[.pointer p0] #[])) <|
 L.semU Pr (Instr.mapUpdate z00 (.map m8) (.int .i64 10) (.func (.func z1C) #[.pointer p0] #[])) <|
 L.semU Pr (Instr.mapUpdate z00 (.map m8) (.int .i64 11) (.func (.func z1Q) #[.pointer p0] #[])) <|
 L.semU Pr (Instr.mapUpdate z00 (.map m8) (.int .i64 12) (.func (.func z1D) #[.pointer p0] #[])) <|
 L.semU Pr (Instr.mapUpdate z00 (.map m8) (.int .i64 13) (.func (.func z1P) #[.pointer p0] #[])) <|
 L.load eI6 ((⟨b1, 0, none⟩ : Addr).add 0) fun (x9 : Int) =>
 L.semR Pr (.one (.one (.func))) (Instr.lookup z00 (.map m8) (.int .i64 x9) false) fun (x10 : FV) =>
 L.load (.agg lf1) (⟨b1, 0, none⟩) fun (x11 : pt1) =>
 L.callV Pr (.func x10.fn x10.fs x10.cs) [(qa1 x11)] rL fun (x12 : Sl) =>
 K (.slice x12.a x12.len x12.cap)
theorem z3v (p0 : Option Addr) (p1 : ht1) {K : Value → PT} {w : World} (h : z2k p0 p1 K w) : CT Pr z0C [.pointer p0, (.ag (qc1 p1) : SV).toV] K w :=
 C_of (fn := Tryz.f11) (an := .auto) (args := [.v (.pointer p0), .ag (qc1 p1)]) (by kernel_rfl) (by kernel_rfl) (by kernel_rfl) h
def z6m (p0 : Int) (p1 : Int) (p2 : Int) (K : Value → PT) : PT :=
 L.call Pr z0X [.int .i64 p0, .int .i64 1, .int .i64 30] rB fun (x1 : Bool) =>
 L.ite (!x1) (
  K (.tuple #[.pointer none, .int .i64 2])) <|
 L.call Pr z0X [.int .i64 p1, .int .i64 0, .int .i64 8] rB fun (x2 : Bool) =>
 L.ite (!x2) (
  K (.tuple #[.pointer none, .int .i64 2])) <|
 L.call Pr z0X [.int .i64 p2, .int .i64 1, .int .i64 50] rB fun (x3 : Bool) =>
 L.ite (!x3) (
  K (.tuple #[.pointer none, .int .i64 2])) <|
 L.call Pr z56 [.int .i64 p0] rP fun (x4 : Option Addr) =>
 L.call Pr z54 [] rP fun (x5 : Option Addr) =>
 L.call Pr z52 [] rP fun (x6 : Option Addr) =>
 L.call Pr z5Y [] rP fun (x7 : Option Addr) =>
 L.call Pr z60 [.pointer x4, .int .i64 p1, .int .i64 p2] rP fun (x8 : Option Addr) =>
 L.sem Pr (.one (.one .map)) (Instr.makeMap z0t none) fun (m9 : Option Nat) =>
 L.new [.pointer x5, .pointer x6, .pointer x7, .pointer x4, .pointer x8, .map m9, .int .i64 0] z4r fun b10 =>
 K (.tuple #[.pointer (some (⟨b10, 0, none⟩)), .int .i64 0])
theorem z9l (p0 : Int) (p1 : Int) (p2 : Int) {K : Value → PT} {w : World} (h : z6m p0 p1 p2 K w) : CT Pr z3r [.int .i64 p0, .int .i64 p1, .int .i64 p2] K w :=
 C_of (fn := Tryz.f18) (an := .auto) (args := [.v (.int .i64 p0), .v (.int .i64 p1), .v (.int .i64 p2)]) (by kernel_rfl) (by kernel_rfl) (by kernel_rfl) h
def z3L (p0 : Int) (p1 : Int) (p2 : Int) (K : Value → PT) : PT :=
 L.ite (decide (p0 < 1)) (
  K (.tuple #[.pointer none, .int .i64 2])) <|
 L.ite (decide (p0 > 30)) (
  K (.tuple #[.pointer none, .int .i64 2])) <|
 L.ite (decide (p1 < 0)) (
  K (.tuple #[.pointer none, .int .i64 2])) <|
 L.ite (decide (p1 > 8)) (
  K (.tuple #[.pointer none, .int .i64 2])) <|
 L.ite (decide (p2 < 1)) (
  K (.tuple #[.pointer none, .int .i64 2])) <|
 L.ite (decide (p2 > 50)) (
  K (.tuple #[.pointer none, .int .i64 2])) <|
 L.call Pr z3E [.int .i64 p0] rP fun (x1 : Option Addr) =>
 L.new [.slice none 0 0, .int .i64 0] z5C fun b2 =>
 L.new [.slice none 0 0, .slice none 0 0] z5E fun b3 =>
 L.new [.slice none 0 0] z4J fun b4 =>
 L.call Pr z3D [.pointer x1, .int .i64 p1, .int .i64 p2] rP fun (x5 : Option Addr) =>
 L.new [.int .i64 0, .pointer (some (⟨b2, 0, none⟩)), .pointer (some (⟨b3, 0, none⟩)), .pointer (some (⟨b4, 0, none⟩)), .pointer x1, .pointer x5, .slice none 0 0] z4I fun b6 =>
 K (.tuple #[.pointer (some (⟨b6, 0, none⟩)), .int .i64 0])
theorem z6a (p0 : Int) (p1 : Int) (p2 : Int) {K : Value → PT} {w : World} (h : z3L p0 p1 p2 K w) : CT Pr z2y [.int .i64 p0, .int .i64 p1, .int .i64 p2] K w :=
 C_of (fn := Tryz.f19) (an := .auto) (args := [.v (.int .i64 p0), .v (.int .i64 p1), .v (.int .i64 p2)]) (by kernel_rfl) (by kernel_rfl) (by kernel_rfl) h
def z2s (p0 : Option Addr) (K : Value → PT) : PT :=
 L.nonnil p0 fun a1 =>
 L.load eP6 (a1.add 4) fun (x2 : Option Addr) =>
 L.call Pr z2e [.pointer x2] (.tup [eI6, eI6, eI6, eI6]) fun (x3 : Int × Int × Int × Int × Unit) =>
 K (.tuple #[.int .i64 x3.1, .int .i64 x3.2.1, .int .i64 x3.2.2.1, .int .i64 x3.2.2.2.1])
theorem z4e (p0 : Option Addr) {K : Value → PT} {w : World} (h : z2s p0 K w) : CT Pr z1q [.pointer p0] K w :=
 C_of (fn := Tryz.f20) (an := .auto) (args := [.v (.pointer p0)]) (by kernel_rfl) (by kernel_rfl) (by kernel_rfl) h
def z3j (p0 : Option Addr) (K : Value → PT) : PT :=
 L.nonnil p0 fun a1 =>
 L.load eI6 (a1.add 6) fun (x2 : Int) =>
 K (.int .i64 x2)
theorem z5g (p0 : Option Addr) {K : Value → PT} {w : World} (h : z3j p0 K w) : CT Pr z1c [.pointer p0] K w :=
 C_of (fn := Tryz.f21) (an := .auto) (args := [.v (.pointer p0)]) (by kernel_rfl) (by kernel_rfl) (by kernel_rfl) h
def z2O (p0 : Option Addr) (K : Value → PT) : PT :=
 L.nonnil p0 fun a1 =>
 L.load eP6 (a1.add 3) fun (x2 : Option Addr) =>
 L.call Pr z2f [.pointer x2] rI fun (x3 : Int) =>
 K (.int .i64 x3)
theorem z4N (p0 : Option Addr) {K : Value → PT} {w : World} (h : z2O p0 K w) : CT Pr z1T [.pointer p0] K w :=
 C_of (fn := Tryz.f22) (an := .auto) (args := [.v (.pointer p0)]) (by kernel_rfl) (by kernel_rfl) (by kernel_rfl) h
def z16 (p0 : Option Addr) (K : Value → PT) : PT :=
 L.nonnil p0 fun a1 =>
 L.load eP6 (a1.add 1) fun (x2 : Option Addr) =>
 L.call Pr z2K [.pointer x2] rL fun (x3 : Sl) =>
 K (.slice x3.a x3.len x3.cap)
theorem z1X (p0 : Option Addr) {K : Value → PT} {w : World} (h : z16 p0 K w) : CT Pr z0N [.pointer p0] K w :=
 C_of (fn := Tryz.f23) (an := .auto) (args := [.v (.pointer p0)]) (by kernel_rfl) (by kernel_rfl) (by kernel_rfl) h
def z8z : Ann := (.seq .auto (.seq .auto (.seq .auto (.seq (.seq .auto .auto (some [(61, (.one (.bool)))])) (.seq (.seq .auto (.cond .auto (.seq .auto (.cond .auto (.seq .auto (.cond .auto (.seq .auto (.cond .auto .auto) none)) none)) none)) none) .auto (some [])) none) none) none) none)
def z5N (p0 : ht1) (K : Value → PT) : PT :=
 L.new [.int .i64 p0.1, .string p0.2.1, .string p0.2.2.1, .int .i64 p0.2.2.2.1, .int .i64 p0.2.2.2.2.1, .string p0.2.2.2.2.2.1, .int .i64 p0.2.2.2.2.2.2.1, .int .i64 p0.2.2.2.2.2.2.2.1, .int .i64 p0.2.2.2.2.2.2.2.2.1, .int .i64 p0.2.2.2.2.2.2.2.2.2.1, .int .i64 p0.2.2.2.2.2.2.2.2.2.2.1, .string p0.2.2.2.2.2.2.2.2.2.2.2.1, .string p0.2.2.2.2.2.2.2.2.2.2.2.2.1, .slice p0.2.2.2.2.2.2.2.2.2.2.2.2.2.1.a p0.2.2.2.2.2.2.2.2.2.2.2.2.2.1.len p0.2.2.2.2.2.2.2.2.2.2.2.2.2.1.cap, .int .i64 p0.2.2.2.2.2.2.2.2.2.2.2.2.2.2.1] z2z fun b1 =>
 L.load eI6 ((⟨b1, 0, none⟩ : Addr).add 0) fun (x2 : Int) =>
 L.call Pr z3T [.int .i64 x2] (.tup [(.agg lf4), eB6]) fun (x3 : pt2) =>
 L.new [.bool false, .bool false, .bool false, .bool false, .bool false, .bool false] z7b fun b4 =>
 L.store (⟨b4, 0, none⟩) [.bool x3.1.1, .bool x3.1.2.1, .bool x3.1.2.2.1, .bool x3.1.2.2.2.1, .bool x3.1.2.2.2.2.1, .bool x3.1.2.2.2.2.2.1] <|
 L.ite (!x3.2.1) (
  K (.int .i64 12)) <|
 L.join (Y := Bool × Unit) (fun k5 =>
  L.load eB6 ((⟨b4, 0, none⟩ : Addr).add 0) fun (x7 : Bool) =>
  L.load eI6 ((⟨b1, 0, none⟩ : Addr).add 3) fun (x8 : Int) =>
  L.call Pr z1Y [.bool x7, .int .i64 x8] rB fun (x9 : Bool) =>
  L.ite (!x9) (
   k5 (true, ())) <|
  L.load eB6 ((⟨b4, 0, none⟩ : Addr).add 1) fun (x10 : Bool) =>
  L.load eS6 ((⟨b1, 0, none⟩ : Addr).add 1) fun (x11 : ByteArray) =>
  L.call Pr z1f [.bool x10, .string x11] rB fun (x12 : Bool) =>
  L.ite (!x12) (
   k5 (true, ())) <|
  L.load eB6 ((⟨b4, 0, none⟩ : Addr).add 2) fun (x13 : Bool) =>
  L.load eS6 ((⟨b1, 0, none⟩ : Addr).add 2) fun (x14 : ByteArray) =>
  L.call Pr z1f [.bool x13, .string x14] rB fun (x15 : Bool) =>
  L.ite (!x15) (
   k5 (true, ())) <|
  L.load eB6 ((⟨b4, 0, none⟩ : Addr).add 3) fun (x16 : Bool) =>
  L.load eI6 ((⟨b1, 0, none⟩ : Addr).add 4) fun (x17 : Int) =>
  L.call Pr z1Y [.bool x16, .int .i64 x17] rB fun (x18 : Bool) =>
  L.ite (!x18) (
   k5 (true, ())) <|
  L.load eB6 ((⟨b4, 0, none⟩ : Addr).add 4) fun (x19 : Bool) =>
  L.load (.agg lf0) ((⟨b1, 0, none⟩ : Addr).add 5) fun (x20 : pt0) =>
  L.call Pr z1g [.bool x19, (qa0 x20)] rB fun (x21 : Bool) =>
  L.ite (!x21) (
   k5 (true, ())) <|
  L.load eB6 ((⟨b4, 0, none⟩ : Addr).add 5) fun (x22 : Bool) =>
  L.ite (!x22) (
   L.load (.agg [.str, .str, .slice, .int .i64]) ((⟨b1, 0, none⟩ : Addr).add 11) fun (x23 : pt3) =>
   L.call Pr z4m [.agg #[.string x23.1, .string x23.2.1, .slice x23.2.2.1.a x23.2.2.1.len x23.2.2.1.cap, .int .i64 x23.2.2.2.1]] rB fun (x24 : Bool) =>
   k5 (!x24, ())) <|
  k5 (false, ())) fun z6 =>
 L.ite z6.1 (
  K (.int .i64 2)) <|
 L.join (Y := Unit) (fun k25 =>
  L.load eB6 ((⟨b4, 0, none⟩ : Addr).add 0) fun (x27 : Bool) =>
  L.ite x27 (
   L.load (.agg lf1) (⟨b1, 0, none⟩) fun (x28 : pt1) =>
   L.call Pr z3x [(qa1 x28)] rB fun (x29 : Bool) =>
   L.ite (!x29) (
    K (.int .i64 2)) <|
   L.load eB6 ((⟨b4, 0, none⟩ : Addr).add 1) fun (x30 : Bool) =>
   L.ite x30 (
    L.load (.agg lf1) (⟨b1, 0, none⟩) fun (x31 : pt1) =>
    L.call Pr z2U [(qa1 x31)] rB fun (x32 : Bool) =>
    L.ite (!x32) (
     K (.int .i64 1)) <|
    L.load eB6 ((⟨b4, 0, none⟩ : Addr).add 2) fun (x33 : Bool) =>
    L.ite x33 (
     L.load eS6 ((⟨b1, 0, none⟩ : Addr).add 2) fun (x34 : ByteArray) =>
     L.ite (!(x34.toList == s_.toList)) (
      L.load eS6 ((⟨b1, 0, none⟩ : Addr).add 2) fun (x35 : ByteArray) =>
      L.call Pr z1e [.string x35] rB fun (x36 : Bool) =>
      L.ite (!x36) (
       K (.int .i64 1)) <|
      L.load eB6 ((⟨b4, 0, none⟩ : Addr).add 3) fun (x37 : Bool) =>
      L.ite x37 (
       L.load eI6 ((⟨b1, 0, none⟩ : Addr).add 4) fun (x38 : Int) =>
       L.call Pr z0d [.int .i64 x38, .int .i64 0, .int .i64 2147483647] rB fun (x39 : Bool) =>
       L.ite (!x39) (
        K (.int .i64 2)) <|
       L.load eB6 ((⟨b4, 0, none⟩ : Addr).add 4) fun (x40 : Bool) =>
       L.ite x40 (
        L.load (.agg lf0) ((⟨b1, 0, none⟩ : Addr).add 5) fun (x41 : pt0) =>
        L.call Pr z07 [(qa0 x41)] rI fun (x42 : Int) =>
        K (.int .i64 x42)) <|
       L.load eB6 ((⟨b4, 0, none⟩ : Addr).add 5) fun (x43 : Bool) =>
       L.ite x43 (
        L.load (.agg [.str, .str, .slice, .int .i64]) ((⟨b1, 0, none⟩ : Addr).add 11) fun (x44 : pt3) =>
        L.call Pr z08 [.agg #[.string x44.1, .string x44.2.1, .slice x44.2.2.1.a x44.2.2.1.len x44.2.2.1.cap, .int .i64 x44.2.2.2.1]] rI fun (x45 : Int) =>
        K (.int .i64 x45)) <|
       k25 (())) <|
      L.load eB6 ((⟨b4, 0, none⟩ : Addr).add 4) fun (x46 : Bool) =>
      L.ite x46 (
       L.load (.agg lf0) ((⟨b1, 0, none⟩ : Addr).add 5) fun (x47 : pt0) =>
       L.call Pr z07 [(qa0 x47)] rI fun (x48 : Int) =>
       K (.int .i64 x48)) <|
      L.load eB6 ((⟨b4, 0, none⟩ : Addr).add 5) fun (x49 : Bool) =>
      L.ite x49 (
       L.load (.agg [.str, .str, .slice, .int .i64]) ((⟨b1, 0, none⟩ : Addr).add 11) fun (x50 : pt3) =>
       L.call Pr z08 [.agg #[.string x50.1, .string x50.2.1, .slice x50.2.2.1.a x50.2.2.1.len x50.2.2.1.cap, .int .i64 x50.2.2.2.1]] rI fun (x51 : Int) =>
       K (.int .i64 x51)) <|
      k25 (())) <|
     L.load eB6 ((⟨b4, 0, none⟩ : Addr).add 3) fun (x52 : Bool) =>
     L.ite x52 (
      L.load eI6 ((⟨b1, 0, none⟩ : Addr).add 4) fun (x53 : Int) =>
      L.call Pr z0d [.int .i64 x53, .int .i64 0, .int .i64 2147483647] rB fun (x54 : Bool) =>
      L.ite (!x54) (
       K (.int .i64 2)) <|
      L.load eB6 ((⟨b4, 0, none⟩ : Addr).add 4) fun (x55 : Bool) =>
      L.ite x55 (
       L.load (.agg lf0) ((⟨b1, 0, none⟩ : Addr).add 5) fun (x56 : pt0) =>
       L.call Pr z07 [(qa0 x56)] rI fun (x57 : Int) =>
       K (.int .i64 x57)) <|
      L.load eB6 ((⟨b4, 0, none⟩ : Addr).add 5) fun (x58 : Bool) =>
      L.ite x58 (
       L.load (.agg [.str, .str, .slice, .int .i64]) ((⟨b1, 0, none⟩ : Addr).add 11) fun (x59 : pt3) =>
       L.call Pr z08 [.agg #[.string x59.1, .string x59.2.1, .slice x59.2.2.1.a x59.2.2.1.len x59.2.2.1.cap, .int .i64 x59.2.2.2.1]] rI fun (x60 : Int) =>
       K (.int .i64 x60)) <|
      k25 (())) <|
     L.load eB6 ((⟨b4, 0, none⟩ : Addr).add 4) fun (x61 : Bool) =>
     L.ite x61 (
      L.load (.agg lf0) ((⟨b1, 0, none⟩ : Addr).add 5) fun (x62 : pt0) =>
      L.call Pr z07 [(qa0 x62)] rI fun (x63 : Int) =>
      K (.int .i64 x63)) <|
     L.load eB6 ((⟨b4, 0, none⟩ : Addr).add 5) fun (x64 : Bool) =>
     L.ite x64 (
      L.load (.agg [.str, .str, .slice, .int .i64]) ((⟨b1, 0, none⟩ : Addr).add 11) fun (x65 : pt3) =>
      L.call Pr z08 [.agg #[.string x65.1, .string x65.2.1, .slice x65.2.2.1.a x65.2.2.1.len x65.2.2.1.cap, .int .i64 x65.2.2.2.1]] rI fun (x66 : Int) =>
      K (.int .i64 x66)) <|
     k25 (())) <|
    L.load eB6 ((⟨b4, 0, none⟩ : Addr).add 3) fun (x67 : Bool) =>
    L.ite x67 (
     L.load eI6 ((⟨b1, 0, none⟩ : Addr).add 4) fun (x68 : Int) =>
     L.call Pr z0d [.int .i64 x68, .int .i64 0, .int .i64 2147483647] rB fun (x69 : Bool) =>
     L.ite (!x69) (
      K (.int .i64 2)) <|
     L.load eB6 ((⟨b4, 0, none⟩ : Addr).add 4) fun (x70 : Bool) =>
     L.ite x70 (
      L.load (.agg lf0) ((⟨b1, 0, none⟩ : Addr).add 5) fun (x71 : pt0) =>
      L.call Pr z07 [(qa0 x71)] rI fun (x72 : Int) =>
      K (.int .i64 x72)) <|
     L.load eB6 ((⟨b4, 0, none⟩ : Addr).add 5) fun (x73 : Bool) =>
     L.ite x73 (
      L.load (.agg [.str, .str, .slice, .int .i64]) ((⟨b1, 0, none⟩ : Addr).add 11) fun (x74 : pt3) =>
      L.call Pr z08 [.agg #[.string x74.1, .string x74.2.1, .slice x74.2.2.1.a x74.2.2.1.len x74.2.2.1.cap, .int .i64 x74.2.2.2.1]] rI fun (x75 : Int) =>
      K (.int .i64 x75)) <|
     k25 (())) <|
    L.load eB6 ((⟨b4, 0, none⟩ : Addr).add 4) fun (x76 : Bool) =>
    L.ite x76 (
     L.load (.agg lf0) ((⟨b1, 0, none⟩ : Addr).add 5) fun (x77 : pt0) =>
     L.call Pr z07 [(qa0 x77)] rI fun (x78 : Int) =>
     K (.int .i64 x78)) <|
    L.load eB6 ((⟨b4, 0, none⟩ : Addr).add 5) fun (x79 : Bool) =>
    L.ite x79 (
     L.load (.agg [.str, .str, .slice, .int .i64]) ((⟨b1, 0, none⟩ : Addr).add 11) fun (x80 : pt3) =>
     L.call Pr z08 [.agg #[.string x80.1, .string x80.2.1, .slice x80.2.2.1.a x80.2.2.1.len x80.2.2.1.cap, .int .i64 x80.2.2.2.1]] rI fun (x81 : Int) =>
     K (.int .i64 x81)) <|
    k25 (())) <|
   L.load eB6 ((⟨b4, 0, none⟩ : Addr).add 2) fun (x82 : Bool) =>
   L.ite x82 (
    L.load eS6 ((⟨b1, 0, none⟩ : Addr).add 2) fun (x83 : ByteArray) =>
    L.ite (!(x83.toList == s_.toList)) (
     L.load eS6 ((⟨b1, 0, none⟩ : Addr).add 2) fun (x84 : ByteArray) =>
     L.call Pr z1e [.string x84] rB fun (x85 : Bool) =>
     L.ite (!x85) (
      K (.int .i64 1)) <|
     L.load eB6 ((⟨b4, 0, none⟩ : Addr).add 3) fun (x86 : Bool) =>
     L.ite x86 (
      L.load eI6 ((⟨b1, 0, none⟩ : Addr).add 4) fun (x87 : Int) =>
      L.call Pr z0d [.int .i64 x87, .int .i64 0, .int .i64 2147483647] rB fun (x88 : Bool) =>
      L.ite (!x88) (
       K (.int .i64 2)) <|
      L.load eB6 ((⟨b4, 0, none⟩ : Addr).add 4) fun (x89 : Bool) =>
      L.ite x89 (
       L.load (.agg lf0) ((⟨b1, 0, none⟩ : Addr).add 5) fun (x90 : pt0) =>
       L.call Pr z07 [(qa0 x90)] rI fun (x91 : Int) =>
       K (.int .i64 x91)) <|
      L.load eB6 ((⟨b4, 0, none⟩ : Addr).add 5) fun (x92 : Bool) =>
      L.ite x92 (
       L.load (.agg [.str, .str, .slice, .int .i64]) ((⟨b1, 0, none⟩ : Addr).add 11) fun (x93 : pt3) =>
       L.call Pr z08 [.agg #[.string x93.1, .string x93.2.1, .slice x93.2.2.1.a x93.2.2.1.len x93.2.2.1.cap, .int .i64 x93.2.2.2.1]] rI fun (x94 : Int) =>
       K (.int .i64 x94)) <|
      k25 (())) <|
     L.load eB6 ((⟨b4, 0, none⟩ : Addr).add 4) fun (x95 : Bool) =>
     L.ite x95 (
      L.load (.agg lf0) ((⟨b1, 0, none⟩ : Addr).add 5) fun (x96 : pt0) =>
      L.call Pr z07 [(qa0 x96)] rI fun (x97 : Int) =>
      K (.int .i64 x97)) <|
     L.load eB6 ((⟨b4, 0, none⟩ : Addr).add 5) fun (x98 : Bool) =>
     L.ite x98 (
      L.load (.agg [.str, .str, .slice, .int .i64]) ((⟨b1, 0, none⟩ : Addr).add 11) fun (x99 : pt3) =>
      L.call Pr z08 [.agg #[.string x99.1, .string x99.2.1, .slice x99.2.2.1.a x99.2.2.1.len x99.2.2.1.cap, .int .i64 x99.2.2.2.1]] rI fun (x100 : Int) =>
      K (.int .i64 x100)) <|
     k25 (())) <|
    L.load eB6 ((⟨b4, 0, none⟩ : Addr).add 3) fun (x101 : Bool) =>
    L.ite x101 (
     L.load eI6 ((⟨b1, 0, none⟩ : Addr).add 4) fun (x102 : Int) =>
     L.call Pr z0d [.int .i64 x102, .int .i64 0, .int .i64 2147483647] rB fun (x103 : Bool) =>
     L.ite (!x103) (
      K (.int .i64 2)) <|
     L.load eB6 ((⟨b4, 0, none⟩ : Addr).add 4) fun (x104 : Bool) =>
     L.ite x104 (
      L.load (.agg lf0) ((⟨b1, 0, none⟩ : Addr).add 5) fun (x105 : pt0) =>
      L.call Pr z07 [(qa0 x105)] rI fun (x106 : Int) =>
      K (.int .i64 x106)) <|
     L.load eB6 ((⟨b4, 0, none⟩ : Addr).add 5) fun (x107 : Bool) =>
     L.ite x107 (
      L.load (.agg [.str, .str, .slice, .int .i64]) ((⟨b1, 0, none⟩ : Addr).add 11) fun (x108 : pt3) =>
      L.call Pr z08 [.agg #[.string x108.1, .string x108.2.1, .slice x108.2.2.1.a x108.2.2.1.len x108.2.2.1.cap, .int .i64 x108.2.2.2.1]] rI fun (x109 : Int) =>
      K (.int .i64 x109)) <|
     k25 (())) <|
    L.load eB6 ((⟨b4, 0, none⟩ : Addr).add 4) fun (x110 : Bool) =>
    L.ite x110 (
     L.load (.agg lf0) ((⟨b1, 0, none⟩ : Addr).add 5) fun (x111 : pt0) =>
     L.call Pr z07 [(qa0 x111)] rI fun (x112 : Int) =>
     K (.int .i64 x112)) <|
    L.load eB6 ((⟨b4, 0, none⟩ : Addr).add 5) fun (x113 : Bool) =>
    L.ite x113 (
     L.load (.agg [.str, .str, .slice, .int .i64]) ((⟨b1, 0, none⟩ : Addr).add 11) fun (x114 : pt3) =>
     L.call Pr z08 [.agg #[.string x114.1, .string x114.2.1, .slice x114.2.2.1.a x114.2.2.1.len x114.2.2.1.cap, .int .i64 x114.2.2.2.1]] rI fun (x115 : Int) =>
     K (.int .i64 x115)) <|
    k25 (())) <|
   L.load eB6 ((⟨b4, 0, none⟩ : Addr).add 3) fun (x116 : Bool) =>
   L.ite x116 (
    L.load eI6 ((⟨b1, 0, none⟩ : Addr).add 4) fun (x117 : Int) =>
    L.call Pr z0d [.int .i64 x117, .int .i64 0, .int .i64 2147483647] rB fun (x118 : Bool) =>
    L.ite (!x118) (
     K (.int .i64 2)) <|
    L.load eB6 ((⟨b4, 0, none⟩ : Addr).add 4) fun (x119 : Bool) =>
    L.ite x119 (
     L.load (.agg lf0) ((⟨b1, 0, none⟩ : Addr).add 5) fun (x120 : pt0) =>
     L.call Pr z07 [(qa0 x120)] rI fun (x121 : Int) =>
     K (.int .i64 x121)) <|
    L.load eB6 ((⟨b4, 0, none⟩ : Addr).add 5) fun (x122 : Bool) =>
    L.ite x122 (
     L.load (.agg [.str, .str, .slice, .int .i64]) ((⟨b1, 0, none⟩ : Addr).add 11) fun (x123 : pt3) =>
     L.call Pr z08 [.agg #[.string x123.1, .string x123.2.1, .slice x123.2.2.1.a x123.2.2.1.len x123.2.2.1.cap, .int .i64 x123.2.2.2.1]] rI fun (x124 : Int) =>
     K (.int .i64 x124)) <|
    k25 (())) <|
   L.load eB6 ((⟨b4, 0, none⟩ : Addr).add 4) fun (x125 : Bool) =>
   L.ite x125 (
    L.load (.agg lf0) ((⟨b1, 0, none⟩ : Addr).add 5) fun (x126 : pt0) =>
    L.call Pr z07 [(qa0 x126)] rI fun (x127 : Int) =>
    K (.int .i64 x127)) <|
   L.load eB6 ((⟨b4, 0, none⟩ : Addr).add 5) fun (x128 : Bool) =>
   L.ite x128 (
    L.load (.agg [.str, .str, .slice, .int .i64]) ((⟨b1, 0, none⟩ : Addr).add 11) fun (x129 : pt3) =>
    L.call Pr z08 [.agg #[.string x129.1, .string x129.2.1, .slice x129.2.2.1.a x129.2.2.1.len x129.2.2.1.cap, .int .i64 x129.2.2.2.1]] rI fun (x130 : Int) =>
    K (.int .i64 x130)) <|
   k25 (())) <|
  L.load eB6 ((⟨b4, 0, none⟩ : Addr).add 1) fun (x131 : Bool) =>
  L.ite x131 (
   L.load (.agg lf1) (⟨b1, 0, none⟩) fun (x132 : pt1) =>
   L.call Pr z2U [(qa1 x132)] rB fun (x133 : Bool) =>
   L.ite (!x133) (
    K (.int .i64 1)) <|
   L.load eB6 ((⟨b4, 0, none⟩ : Addr).add 2) fun (x134 : Bool) =>
   L.ite x134 (
    L.load eS6 ((⟨b1, 0, none⟩ : Addr).add 2) fun (x135 : ByteArray) =>
    L.ite (!(x135.toList == s_.toList)) (
     L.load eS6 ((⟨b1, 0, none⟩ : Addr).add 2) fun (x136 : ByteArray) =>
     L.call Pr z1e [.string x136] rB fun (x137 : Bool) =>
     L.ite (!x137) (
      K (.int .i64 1)) <|
     L.load eB6 ((⟨b4, 0, none⟩ : Addr).add 3) fun (x138 : Bool) =>
     L.ite x138 (
      L.load eI6 ((⟨b1, 0, none⟩ : Addr).add 4) fun (x139 : Int) =>
      L.call Pr z0d [.int .i64 x139, .int .i64 0, .int .i64 2147483647] rB fun (x140 : Bool) =>
      L.ite (!x140) (
       K (.int .i64 2)) <|
      L.load eB6 ((⟨b4, 0, none⟩ : Addr).add 4) fun (x141 : Bool) =>
      L.ite x141 (
       L.load (.agg lf0) ((⟨b1, 0, none⟩ : Addr).add 5) fun (x142 : pt0) =>
       L.call Pr z07 [(qa0 x142)] rI fun (x143 : Int) =>
       K (.int .i64 x143)) <|
      L.load eB6 ((⟨b4, 0, none⟩ : Addr).add 5) fun (x144 : Bool) =>
      L.ite x144 (
       L.load (.agg [.str, .str, .slice, .int .i64]) ((⟨b1, 0, none⟩ : Addr).add 11) fun (x145 : pt3) =>
       L.call Pr z08 [.agg #[.string x145.1, .string x145.2.1, .slice x145.2.2.1.a x145.2.2.1.len x145.2.2.1.cap, .int .i64 x145.2.2.2.1]] rI fun (x146 : Int) =>
       K (.int .i64 x146)) <|
      k25 (())) <|
     L.load eB6 ((⟨b4, 0, none⟩ : Addr).add 4) fun (x147 : Bool) =>
     L.ite x147 (
      L.load (.agg lf0) ((⟨b1, 0, none⟩ : Addr).add 5) fun (x148 : pt0) =>
      L.call Pr z07 [(qa0 x148)] rI fun (x149 : Int) =>
      K (.int .i64 x149)) <|
     L.load eB6 ((⟨b4, 0, none⟩ : Addr).add 5) fun (x150 : Bool) =>
     L.ite x150 (
      L.load (.agg [.str, .str, .slice, .int .i64]) ((⟨b1, 0, none⟩ : Addr).add 11) fun (x151 : pt3) =>
      L.call Pr z08 [.agg #[.string x151.1, .string x151.2.1, .slice x151.2.2.1.a x151.2.2.1.len x151.2.2.1.cap, .int .i64 x151.2.2.2.1]] rI fun (x152 : Int) =>
      K (.int .i64 x152)) <|
     k25 (())) <|
    L.load eB6 ((⟨b4, 0, none⟩ : Addr).add 3) fun (x153 : Bool) =>
    L.ite x153 (
     L.load eI6 ((⟨b1, 0, none⟩ : Addr).add 4) fun (x154 : Int) =>
     L.call Pr z0d [.int .i64 x154, .int .i64 0, .int .i64 2147483647] rB fun (x155 : Bool) =>
     L.ite (!x155) (
      K (.int .i64 2)) <|
     L.load eB6 ((⟨b4, 0, none⟩ : Addr).add 4) fun (x156 : Bool) =>
     L.ite x156 (
      L.load (.agg lf0) ((⟨b1, 0, none⟩ : Addr).add 5) fun (x157 : pt0) =>
      L.call Pr z07 [(qa0 x157)] rI fun (x158 : Int) =>
      K (.int .i64 x158)) <|
     L.load eB6 ((⟨b4, 0, none⟩ : Addr).add 5) fun (x159 : Bool) =>
     L.ite x159 (
      L.load (.agg [.str, .str, .slice, .int .i64]) ((⟨b1, 0, none⟩ : Addr).add 11) fun (x160 : pt3) =>
      L.call Pr z08 [.agg #[.string x160.1, .string x160.2.1, .slice x160.2.2.1.a x160.2.2.1.len x160.2.2.1.cap, .int .i64 x160.2.2.2.1]] rI fun (x161 : Int) =>
      K (.int .i64 x161)) <|
     k25 (())) <|
    L.load eB6 ((⟨b4, 0, none⟩ : Addr).add 4) fun (x162 : Bool) =>
    L.ite x162 (
     L.load (.agg lf0) ((⟨b1, 0, none⟩ : Addr).add 5) fun (x163 : pt0) =>
     L.call Pr z07 [(qa0 x163)] rI fun (x164 : Int) =>
     K (.int .i64 x164)) <|
    L.load eB6 ((⟨b4, 0, none⟩ : Addr).add 5) fun (x165 : Bool) =>
    L.ite x165 (
     L.load (.agg [.str, .str, .slice, .int .i64]) ((⟨b1, 0, none⟩ : Addr).add 11) fun (x166 : pt3) =>
     L.call Pr z08 [.agg #[.string x166.1, .string x166.2.1, .slice x166.2.2.1.a x166.2.2.1.len x166.2.2.1.cap, .int .i64 x166.2.2.2.1]] rI fun (x167 : Int) =>
     K (.int .i64 x167)) <|
    k25 (())) <|
   L.load eB6 ((⟨b4, 0, none⟩ : Addr).add 3) fun (x168 : Bool) =>
   L.ite x168 (
    L.load eI6 ((⟨b1, 0, none⟩ : Addr).add 4) fun (x169 : Int) =>
    L.call Pr z0d [.int .i64 x169, .int .i64 0, .int .i64 2147483647] rB fun (x170 : Bool) =>
    L.ite (!x170) (
     K (.int .i64 2)) <|
    L.load eB6 ((⟨b4, 0, none⟩ : Addr).add 4) fun (x171 : Bool) =>
    L.ite x171 (
     L.load (.agg lf0) ((⟨b1, 0, none⟩ : Addr).add 5) fun (x172 : pt0) =>
     L.call Pr z07 [(qa0 x172)] rI fun (x173 : Int) =>
     K (.int .i64 x173)) <|
    L.load eB6 ((⟨b4, 0, none⟩ : Addr).add 5) fun (x174 : Bool) =>
    L.ite x174 (
     L.load (.agg [.str, .str, .slice, .int .i64]) ((⟨b1, 0, none⟩ : Addr).add 11) fun (x175 : pt3) =>
     L.call Pr z08 [.agg #[.string x175.1, .string x175.2.1, .slice x175.2.2.1.a x175.2.2.1.len x175.2.2.1.cap, .int .i64 x175.2.2.2.1]] rI fun (x176 : Int) =>
     K (.int .i64 x176)) <|
    k25 (())) <|
   L.load eB6 ((⟨b4, 0, none⟩ : Addr).add 4) fun (x177 : Bool) =>
   L.ite x177 (
    L.load (.agg lf0) ((⟨b1, 0, none⟩ : Addr).add 5) fun (x178 : pt0) =>
    L.call Pr z07 [(qa0 x178)] rI fun (x179 : Int) =>
    K (.int .i64 x179)) <|
   L.load eB6 ((⟨b4, 0, none⟩ : Addr).add 5) fun (x180 : Bool) =>
   L.ite x180 (
    L.load (.agg [.str, .str, .slice, .int .i64]) ((⟨b1, 0, none⟩ : Addr).add 11) fun (x181 : pt3) =>
    L.call Pr z08 [.agg #[.string x181.1, .string x181.2.1, .slice x181.2.2.1.a x181.2.2.1.len x181.2.2.1.cap, .int .i64 x181.2.2.2.1]] rI fun (x182 : Int) =>
    K (.int .i64 x182)) <|
   k25 (())) <|
  L.load eB6 ((⟨b4, 0, none⟩ : Addr).add 2) fun (x183 : Bool) =>
  L.ite x183 (
   L.load eS6 ((⟨b1, 0, none⟩ : Addr).add 2) fun (x184 : ByteArray) =>
   L.ite (!(x184.toList == s_.toList)) (
    L.load eS6 ((⟨b1, 0, none⟩ : Addr).add 2) fun (x185 : ByteArray) =>
    L.call Pr z1e [.string x185] rB fun (x186 : Bool) =>
    L.ite (!x186) (
     K (.int .i64 1)) <|
    L.load eB6 ((⟨b4, 0, none⟩ : Addr).add 3) fun (x187 : Bool) =>
    L.ite x187 (
     L.load eI6 ((⟨b1, 0, none⟩ : Addr).add 4) fun (x188 : Int) =>
     L.call Pr z0d [.int .i64 x188, .int .i64 0, .int .i64 2147483647] rB fun (x189 : Bool) =>
     L.ite (!x189) (
      K (.int .i64 2)) <|
     L.load eB6 ((⟨b4, 0, none⟩ : Addr).add 4) fun (x190 : Bool) =>
     L.ite x190 (
      L.load (.agg lf0) ((⟨b1, 0, none⟩ : Addr).add 5) fun (x191 : pt0) =>
      L.call Pr z07 [(qa0 x191)] rI fun (x192 : Int) =>
      K (.int .i64 x192)) <|
     L.load eB6 ((⟨b4, 0, none⟩ : Addr).add 5) fun (x193 : Bool) =>
     L.ite x193 (
      L.load (.agg [.str, .str, .slice, .int .i64]) ((⟨b1, 0, none⟩ : Addr).add 11) fun (x194 : pt3) =>
      L.call Pr z08 [.agg #[.string x194.1, .string x194.2.1, .slice x194.2.2.1.a x194.2.2.1.len x194.2.2.1.cap, .int .i64 x194.2.2.2.1]] rI fun (x195 : Int) =>
      K (.int .i64 x195)) <|
     k25 (())) <|
    L.load eB6 ((⟨b4, 0, none⟩ : Addr).add 4) fun (x196 : Bool) =>
    L.ite x196 (
     L.load (.agg lf0) ((⟨b1, 0, none⟩ : Addr).add 5) fun (x197 : pt0) =>
     L.call Pr z07 [(qa0 x197)] rI fun (x198 : Int) =>
     K (.int .i64 x198)) <|
    L.load eB6 ((⟨b4, 0, none⟩ : Addr).add 5) fun (x199 : Bool) =>
    L.ite x199 (
     L.load (.agg [.str, .str, .slice, .int .i64]) ((⟨b1, 0, none⟩ : Addr).add 11) fun (x200 : pt3) =>
     L.call Pr z08 [.agg #[.string x200.1, .string x200.2.1, .slice x200.2.2.1.a x200.2.2.1.len x200.2.2.1.cap, .int .i64 x200.2.2.2.1]] rI fun (x201 : Int) =>
     K (.int .i64 x201)) <|
    k25 (())) <|
   L.load eB6 ((⟨b4, 0, none⟩ : Addr).add 3) fun (x202 : Bool) =>
   L.ite x202 (
    L.load eI6 ((⟨b1, 0, none⟩ : Addr).add 4) fun (x203 : Int) =>
    L.call Pr z0d [.int .i64 x203, .int .i64 0, .int .i64 2147483647] rB fun (x204 : Bool) =>
    L.ite (!x204) (
     K (.int .i64 2)) <|
    L.load eB6 ((⟨b4, 0, none⟩ : Addr).add 4) fun (x205 : Bool) =>
    L.ite x205 (
     L.load (.agg lf0) ((⟨b1, 0, none⟩ : Addr).add 5) fun (x206 : pt0) =>
     L.call Pr z07 [(qa0 x206)] rI fun (x207 : Int) =>
     K (.int .i64 x207)) <|
    L.load eB6 ((⟨b4, 0, none⟩ : Addr).add 5) fun (x208 : Bool) =>
    L.ite x208 (
     L.load (.agg [.str, .str, .slice, .int .i64]) ((⟨b1, 0, none⟩ : Addr).add 11) fun (x209 : pt3) =>
     L.call Pr z08 [.agg #[.string x209.1, .string x209.2.1, .slice x209.2.2.1.a x209.2.2.1.len x209.2.2.1.cap, .int .i64 x209.2.2.2.1]] rI fun (x210 : Int) =>
     K (.int .i64 x210)) <|
    k25 (())) <|
   L.load eB6 ((⟨b4, 0, none⟩ : Addr).add 4) fun (x211 : Bool) =>
   L.ite x211 (
    L.load (.agg lf0) ((⟨b1, 0, none⟩ : Addr).add 5) fun (x212 : pt0) =>
    L.call Pr z07 [(qa0 x212)] rI fun (x213 : Int) =>
    K (.int .i64 x213)) <|
   L.load eB6 ((⟨b4, 0, none⟩ : Addr).add 5) fun (x214 : Bool) =>
   L.ite x214 (
    L.load (.agg [.str, .str, .slice, .int .i64]) ((⟨b1, 0, none⟩ : Addr).add 11) fun (x215 : pt3) =>
    L.call Pr z08 [.agg #[.string x215.1, .string x215.2.1, .slice x215.2.2.1.a x215.2.2.1.len x215.2.2.1.cap, .int .i64 x215.2.2.2.1]] rI fun (x216 : Int) =>
    K (.int .i64 x216)) <|
   k25 (())) <|
  L.load eB6 ((⟨b4, 0, none⟩ : Addr).add 3) fun (x217 : Bool) =>
  L.ite x217 (
   L.load eI6 ((⟨b1, 0, none⟩ : Addr).add 4) fun (x218 : Int) =>
   L.call Pr z0d [.int .i64 x218, .int .i64 0, .int .i64 2147483647] rB fun (x219 : Bool) =>
   L.ite (!x219) (
    K (.int .i64 2)) <|
   L.load eB6 ((⟨b4, 0, none⟩ : Addr).add 4) fun (x220 : Bool) =>
   L.ite x220 (
    L.load (.agg lf0) ((⟨b1, 0, none⟩ : Addr).add 5) fun (x221 : pt0) =>
    L.call Pr z07 [(qa0 x221)] rI fun (x222 : Int) =>
    K (.int .i64 x222)) <|
   L.load eB6 ((⟨b4, 0, none⟩ : Addr).add 5) fun (x223 : Bool) =>
   L.ite x223 (
    L.load (.agg [.str, .str, .slice, .int .i64]) ((⟨b1, 0, none⟩ : Addr).add 11) fun (x224 : pt3) =>
    L.call Pr z08 [.agg #[.string x224.1, .string x224.2.1, .slice x224.2.2.1.a x224.2.2.1.len x224.2.2.1.cap, .int .i64 x224.2.2.2.1]] rI fun (x225 : Int) =>
    K (.int .i64 x225)) <|
   k25 (())) <|
  L.load eB6 ((⟨b4, 0, none⟩ : Addr).add 4) fun (x226 : Bool) =>
  L.ite x226 (
   L.load (.agg lf0) ((⟨b1, 0, none⟩ : Addr).add 5) fun (x227 : pt0) =>
   L.call Pr z07 [(qa0 x227)] rI fun (x228 : Int) =>
   K (.int .i64 x228)) <|
  L.load eB6 ((⟨b4, 0, none⟩ : Addr).add 5) fun (x229 : Bool) =>
  L.ite x229 (
   L.load (.agg [.str, .str, .slice, .int .i64]) ((⟨b1, 0, none⟩ : Addr).add 11) fun (x230 : pt3) =>
   L.call Pr z08 [.agg #[.string x230.1, .string x230.2.1, .slice x230.2.2.1.a x230.2.2.1.len x230.2.2.1.cap, .int .i64 x230.2.2.2.1]] rI fun (x231 : Int) =>
   K (.int .i64 x231)) <|
  k25 (())) fun z26 =>
 K (.int .i64 0)
theorem z8s (p0 : ht1) {K : Value → PT} {w : World} (h : z5N p0 K w) : CT Pr z3U [(.ag (qc1 p0) : SV).toV] K w :=
 C_of (fn := Tryz.f30) (an := z8z) (args := [.ag (qc1 p0)]) (by kernel_rfl) (by kernel_rfl) (by kernel_rfl) h
def z4Q : Ann := (.seq .auto (.seq .auto (.seq (.seq .auto (.one [(5, (.one (.slice))), (14, (.one (.int .i64)))] (.seq .auto (.seq .auto (.seq .auto .auto (some [(5, (.one (.slice)))])) none) none)) none) .auto none) none) none)
def z2N (p0 : ByteArray) (p1 : Sl) (K : Value → PT) : PT :=
 L.new [.string p0] z05 fun b1 =>
 L.loop (Y := Sl × Int × Unit) (⟨some ⟨b1, 0, none⟩, 1, 1⟩, 0, ()) fun y2 again3 =>
 L.ite (decide (y2.2.1 < ((p1.len : Nat) : Int))) (
  L.join (Y := Sl × Unit) (fun k4 =>
   L.idx p1.a y2.2.1 p1.len 1 fun a6 =>
   L.load eS6 a6 fun (x7 : ByteArray) =>
   L.ite true (
    L.new [.string x7] z05 fun b8 =>
    L.sem Pr (.one (.one .slice)) (Builtin.append_ #[z0b, z0b] z0b #[.slice y2.1.a y2.1.len y2.1.cap, .slice (some ⟨b8, 0, none⟩) 1 1]) fun (s9 : Sl) =>
    k4 (⟨s9.a, s9.len, s9.cap⟩, ())) <|
   L.semR Pr (.tup [eI6, .one .bool]) (Instr.typeAssert (.iface z05 (.string x7)) z5a z0g true) fun (x10 : Int × Bool × Unit) =>
   L.ite x10.2.1 (
    L.call Pr z1W [.int .i64 x10.1] rS fun (x11 : ByteArray) =>
    L.new [.string x11] z05 fun b12 =>
    L.sem Pr (.one (.one .slice)) (Builtin.append_ #[z0b, z0b] z0b #[.slice y2.1.a y2.1.len y2.1.cap, .slice (some ⟨b12, 0, none⟩) 1 1]) fun (s13 : Sl) =>
    k4 (⟨s13.a, s13.len, s13.cap⟩, ())) <|
   k4 (⟨y2.1.a, y2.1.len, y2.1.cap⟩, ())) fun z5 =>
  again3 (⟨z5.1.a, z5.1.len, z5.1.cap⟩, IntKind.wrap .i64 (y2.2.1 + 1), ())) <|
 L.call Pr z3w [.slice y2.1.a y2.1.len y2.1.cap, .string z5n] rS fun (x14 : ByteArray) =>
 K (.string x14)
theorem z4L (p0 : ByteArray) (p1 : Sl) {K : Value → PT} {w : World} (h : z2N p0 p1 K w) : CT Pr z0q [.string p0, .slice p1.a p1.len p1.cap] K w :=
 C_of (fn := Tryz.f31) (an := z4Q) (args := [.v (.string p0), .v (.slice p1.a p1.len p1.cap)]) (by kernel_rfl) (by kernel_rfl) (by kernel_rfl) h
def z3O (p0 : Int) (K : Value → PT) : PT :=
 L.ite (decide (p0 ≤ 6)) (
  L.call Pr z6Q [.int .i64 p0] rS fun (x1 : ByteArray) =>
  K (.string x1)) <|
 L.call Pr z7C [.int .i64 p0] rS fun (x2 : ByteArray) =>
 K (.string x2)
theorem z6d (p0 : Int) {K : Value → PT} {w : World} (h : z3O p0 K w) : CT Pr z1L [.int .i64 p0] K w :=
 C_of (fn := Tryz.f32) (an := .auto) (args := [.v (.int .i64 p0)]) (by kernel_rfl) (by kernel_rfl) (by kernel_rfl) h
def z4R : Ann := (.seq .auto (.seq .auto (.seq .auto (.seq .auto (.seq (.seq .auto (.one [(33, (.one (.int .i64)))] .auto) none) .auto none) none) none) none) none)
def z1V (p0 : Option Addr) (p1 : ht1) (K : Value → PT) : PT :=
 L.new [.int .i64 p1.1, .string p1.2.1, .string p1.2.2.1, .int .i64 p1.2.2.2.1, .int .i64 p1.2.2.2.2.1, .string p1.2.2.2.2.2.1, .int .i64 p1.2.2.2.2.2.2.1, .int .i64 p1.2.2.2.2.2.2.2.1, .int .i64 p1.2.2.2.2.2.2.2.2.1, .int .i64 p1.2.2.2.2.2.2.2.2.2.1, .int .i64 p1.2.2.2.2.2.2.2.2.2.2.1, .string p1.2.2.2.2.2.2.2.2.2.2.2.1, .string p1.2.2.2.2.2.2.2.2.2.2.2.2.1, .slice p1.2.2.2.2.2.2.2.2.2.2.2.2.2.1.a p1.2.2.2.2.2.2.2.2.2.2.2.2.2.1.len p1.2.2.2.2.2.2.2.2.2.2.2.2.2.1.cap, .int .i64 p1.2.2.2.2.2.2.2.2.2.2.2.2.2.2.1] z2z fun b1 =>
 L.nonnil p0 fun a2 =>
 L.load eI6 (a2.add 6) fun (x3 : Int) =>
 L.ite (decide (x3 ≥ 1048576)) (
  L.call Pr z2J [.int .i64 9] rL fun (x4 : Sl) =>
  K (.slice x4.a x4.len x4.cap)) <|
 L.nonnil p0 fun a5 =>
 L.load eI6 (a5.add 6) fun (x6 : Int) =>
 L.nonnil p0 fun a7 =>
 L.store (a7.add 6) [.int .i64 (IntKind.wrap .i64 (x6 + 1))] <|
 L.draw <|
 L.nonnil p0 fun a8 =>
 L.load eP6 (a8.add 4) fun (x9 : Option Addr) =>
 L.nonnil p0 fun a10 =>
 L.load eI6 (a10.add 6) fun (x11 : Int) =>
 L.call Pr z2L [.pointer x9, .int .i64 x11] rL fun (x12 : Sl) =>
 L.call Pr z0N [.pointer p0] rL fun (x13 : Sl) =>
 L.loop (Y := Int × Unit) (0, ()) fun y14 again15 =>
 L.ite (decide (y14.1 < ((x13.len : Nat) : Int))) (
  L.idx x13.a y14.1 x13.len 1 fun a16 =>
  L.load eS6 a16 fun (x17 : ByteArray) =>
  L.draw <|
  L.nonnil p0 fun a18 =>
  L.load (.one (.map)) (a18.add 5) fun (x19 : Option Nat) =>
  L.semR Pr rP (Instr.lookup z0t (.map x19) (.string x17) false) fun (x20 : Option Addr) =>
  L.nonnil x20 fun a21 =>
  L.load eP6 (a21.add 0) fun (x22 : Option Addr) =>
  L.nonnil p0 fun a23 =>
  L.load eP6 (a23.add 4) fun (x24 : Option Addr) =>
  L.call Pr z2M [.pointer x24, .string x17] rI fun (x25 : Int) =>
  L.chk (a21.add 0) [.pointer x22] <|
  L.chkSem Pr (Instr.lookup z0t (.map x19) (.string x17) false) (.pointer x20) <|
  L.chk (a18.add 5) [.map x19] <|
  L.call Pr z2x [.pointer x22, .int .i64 x25] (.tup []) fun (x26 : Unit) =>
  again15 (IntKind.wrap .i64 (y14.1 + 1), ())) <|
 L.nonnil p0 fun a27 =>
 L.load eI6 (a27.add 6) fun (x28 : Int) =>
 L.new [.int .i64 x28] z0g fun b29 =>
 L.call Pr z0h [.string zbq, .slice (some ⟨b29, 0, none⟩) 1 1] rS fun (x30 : ByteArray) =>
 L.new [.string x30] z05 fun b31 =>
 L.call Pr z3Q [.slice x12.a x12.len x12.cap, .slice (some ⟨b31, 0, none⟩) 1 1] rL fun (x32 : Sl) =>
 K (.slice x32.a x32.len x32.cap)
theorem z4M (p0 : Option Addr) (p1 : ht1) {K : Value → PT} {w : World} (h : z1V p0 p1 K w) : CT Pr z0E [.pointer p0, (.ag (qc1 p1) : SV).toV] K w :=
 C_of (fn := Tryz.f40) (an := z4R) (args := [.v (.pointer p0), .ag (qc1 p1)]) (by kernel_rfl) (by kernel_rfl) (by kernel_rfl) h
theorem z4K : Enters Pr z0E := z1I (by kernel_rfl)
def z5S : Ann := (.seq .auto (.seq (.seq .auto (.one [(5, (.one (.slice)))] (.seq .auto (.seq (.cond .auto .auto) .auto none) none)) none) (.seq .auto (.seq .auto .auto (some [(4, (.one (.slice)))])) none) none) none)
def z3s (p0 : Option Addr) (p1 : ByteArray) (K : Value → PT) : PT :=
 L.nonnil p0 fun a1 =>
 L.load (.one (.map)) (a1.add 1) fun (x2 : Option Nat) =>
 L.sem Pr (.one (.one .ptr)) (Instr.range z0y (.map x2)) fun (it3 : Option Addr) =>
 L.loop (Y := Sl × Unit) (⟨none, 0, 0⟩, ()) fun y4 again5 =>
 L.next Pr [eI6, (.agg [.str, .int .i64])] (Instr.next (.pointer it3) false T_) (
  L.call Pr z2F [.slice y4.1.a y4.1.len y4.1.cap] (.tup []) fun (x7 : Unit) =>
  L.join (Y := Sl × Unit) (fun k8 =>
   L.nonnil p0 fun a10 =>
   L.load (.one (.map)) ((a10.add 2).add 0) fun (x11 : Option Nat) =>
   L.semR Pr (.tup [eP6, .one .bool]) (Instr.lookup z0i (.map x11) (.string p1) true) fun (x12 : Option Addr × Bool × Unit) =>
   L.ite x12.2.1 (
    L.call Pr z39 [.pointer x12.1] rL fun (x13 : Sl) =>
    k8 (⟨x13.a, x13.len, x13.cap⟩, ())) <|
   k8 (⟨none, 0, 0⟩, ())) fun z9 =>
  L.call Pr z0x [.slice y4.1.a y4.1.len y4.1.cap] rL fun (x14 : Sl) =>
  K (.tuple #[.slice z9.1.a z9.1.len z9.1.cap, .slice x14.a x14.len x14.cap])) fun (x6 : pt7) =>
 L.sem Pr (.tup [eI6, (.agg [.str, .int .i64])]) (Instr.entry (.pointer it3)) fun (x15 : pt7) =>
 L.new [.string s_, .int .i64 0] z0p fun b16 =>
 L.store (⟨b16, 0, none⟩) [.string x15.2.1.1, .int .i64 x15.2.1.2.1] <|
 L.load (.agg [.str, .int .i64]) (⟨b16, 0, none⟩) fun (x17 : ByteArray × Int × Unit) =>
 L.chkSem Pr (do eqGuard .eql z0p (.tmp 0) (.tmp 0) (.agg #[.string x17.1, .int .i64 x17.2.1]) (.agg #[.string p1, .int .i64 1]); binOp .eql z0p (.agg #[.string x17.1, .int .i64 x17.2.1]) (.agg #[.string p1, .int .i64 1])) (.bool ((x17.1 == p1) && ((x17.2.1 == 1) && true))) <|
 L.ite ((x17.1 == p1) && ((x17.2.1 == 1) && true)) (
  L.new [.int .i64 x15.1] z0g fun b18 =>
  L.sem Pr (.one (.one .slice)) (Builtin.append_ #[z1i, z1i] z1i #[.slice y4.1.a y4.1.len y4.1.cap, .slice (some ⟨b18, 0, none⟩) 1 1]) fun (s19 : Sl) =>
  again5 (⟨s19.a, s19.len, s19.cap⟩, ())) <|
 again5 (⟨y4.1.a, y4.1.len, y4.1.cap⟩, ())
theorem z5P (p0 : Option Addr) (p1 : ByteArray) {K : Value → PT} {w : World} (h : z3s p0 p1 K w) : CT Pr z2d [.pointer p0, .string p1] K w :=
 C_of (fn := Tryz.f45) (an := z5S) (args := [.v (.pointer p0), .v (.string p1)]) (by kernel_rfl) (by kernel_rfl) (by kernel_rfl) h
def z3i (p0 : Int) (p1 : Int) (p2 : Int) (K : Value → PT) : PT :=
 L.ite (decide (p0 ≥ p1)) (
  K (.bool (decide (p0 ≤ p2)))) <|
 K (.bool false)
theorem z5f (p0 : Int) (p1 : Int) (p2 : Int) {K : Value → PT} {w : World} (h : z3i p0 p1 p2 K w) : CT Pr z0X [.int .i64 p0, .int .i64 p1, .int .i64 p2] K w :=
 C_of (fn := Tryz.f49) (an := .auto) (args := [.v (.int .i64 p0), .v (.int .i64 p1), .v (.int .i64 p2)]) (by kernel_rfl) (by kernel_rfl) (by kernel_rfl) h
def z7h (p0 : Int) (K : Value → PT) : PT :=
 L.sem Pr (.one (.one .map)) (Instr.makeMap z24 none) fun (m1 : Option Nat) =>
 L.sem Pr (.one (.one .map)) (Instr.makeMap z0e none) fun (m2 : Option Nat) =>
 L.new [.map m1, .map m2, .int .i64 p0, .int .i64 0] z5B fun b3 =>
 K (.pointer (some (⟨b3, 0, none⟩)))
theorem z9V (p0 : Int) {K : Value → PT} {w : World} (h : z7h p0 K w) : CT Pr z56 [.int .i64 p0] K w :=
 C_of (fn := Tryz.f50) (an := .auto) (args := [.v (.int .i64 p0)]) (by kernel_rfl) (by kernel_rfl) (by kernel_rfl) h
def z7e  (K : Value → PT) : PT :=
 L.call Pr z1d [.func (.func z2S) #[] #[]] rP fun (x1 : Option Addr) =>
 L.call Pr z1r [.func (.func z1l) #[] #[]] rP fun (x2 : Option Addr) =>
 L.new [.pointer x1, .pointer x2, .int .i64 0] z5z fun b3 =>
 K (.pointer (some (⟨b3, 0, none⟩)))
theorem z9S  {K : Value → PT} {w : World} (h : z7e  K w) : CT Pr z54 [] K w :=
 C_of (fn := Tryz.f51) (an := .auto) (args := []) (by kernel_rfl) (by kernel_rfl) (by kernel_rfl) h
def z7d  (K : Value → PT) : PT :=
 L.sem Pr (.one (.one .map)) (Instr.makeMap z0u none) fun (m1 : Option Nat) =>
 L.sem Pr (.one (.one .map)) (Instr.makeMap z5y none) fun (m2 : Option Nat) =>
 L.new [.map m1, .map m2] z6l fun b3 =>
 K (.pointer (some (⟨b3, 0, none⟩)))
theorem z9R  {K : Value → PT} {w : World} (h : z7d  K w) : CT Pr z52 [] K w :=
 C_of (fn := Tryz.f52) (an := .auto) (args := []) (by kernel_rfl) (by kernel_rfl) (by kernel_rfl) h
def z7O  (K : Value → PT) : PT :=
 L.sem Pr (.one (.one .map)) (Instr.makeMap z4s none) fun (m1 : Option Nat) =>
 L.new [.map m1] z5A fun b2 =>
 K (.pointer (some (⟨b2, 0, none⟩)))
theorem zb3  {K : Value → PT} {w : World} (h : z7O  K w) : CT Pr z5Y [] K w :=
 C_of (fn := Tryz.f53) (an := .auto) (args := []) (by kernel_rfl) (by kernel_rfl) (by kernel_rfl) h
def z7Q (p0 : Option Addr) (p1 : Int) (p2 : Int) (K : Value → PT) : PT :=
 L.new [.int .i64 p1] z0g fun b1 =>
 L.sem Pr (.one (.one .map)) (Instr.makeMap z0y none) fun (m2 : Option Nat) =>
 L.sem Pr (.one (.one .map)) (Instr.makeMap z0i none) fun (m3 : Option Nat) =>
 L.load eI6 (⟨b1, 0, none⟩) fun (x4 : Int) =>
 L.new [.pointer p0, .map m2, .map m3, .func (.func z6j) #[] #[.pointer (some (⟨b1, 0, none⟩))], .int .i64 x4, .int .i64 p2] z7a fun b5 =>
 K (.pointer (some (⟨b5, 0, none⟩)))
theorem zb5 (p0 : Option Addr) (p1 : Int) (p2 : Int) {K : Value → PT} {w : World} (h : z7Q p0 p1 p2 K w) : CT Pr z60 [.pointer p0, .int .i64 p1, .int .i64 p2] K w :=
 C_of (fn := Tryz.f54) (an := .auto) (args := [.v (.pointer p0), .v (.int .i64 p1), .v (.int .i64 p2)]) (by kernel_rfl) (by kernel_rfl) (by kernel_rfl) h
def z3N (p0 : Int) (K : Value → PT) : PT :=
 L.new [.int .i64 p0, .int .i64 0, .slice none 0 0] z5b fun b1 =>
 K (.pointer (some (⟨b1, 0, none⟩)))
theorem z6c (p0 : Int) {K : Value → PT} {w : World} (h : z3N p0 K w) : CT Pr z3E [.int .i64 p0] K w :=
 C_of (fn := Tryz.f55) (an := .auto) (args := [.v (.int .i64 p0)]) (by kernel_rfl) (by kernel_rfl) (by kernel_rfl) h
def z3M (p0 : Option Addr) (p1 : Int) (p2 : Int) (K : Value → PT) : PT :=
 L.new [.pointer p0, .int .i64 p1, .int .i64 p2, .slice none 0 0, .slice none 0 0, .slice none 0 0] z5D fun b1 =>
 K (.pointer (some (⟨b1, 0, none⟩)))
theorem z6b (p0 : Option Addr) (p1 : Int) (p2 : Int) {K : Value → PT} {w : World} (h : z3M p0 p1 p2 K w) : CT Pr z3D [.pointer p0, .int .i64 p1, .int .i64 p2] K w :=
 C_of (fn := Tryz.f56) (an := .auto) (args := [.v (.pointer p0), .v (.int .i64 p1), .v (.int .i64 p2)]) (by kernel_rfl) (by kernel_rfl) (by kernel_rfl) h
def z5T : Ann := (.seq .auto (.seq .auto (.seq (.seq .auto (.one [] (.seq .auto (.seq (.cond .auto .auto) .auto none) none)) none) .auto none) none) none)
def z3t (p0 : Option Addr) (K : Value → PT) : PT :=
 L.sem Pr (.one (.one .map)) (Instr.makeMap z0e none) fun (m1 : Option Nat) =>
 L.nonnil p0 fun a2 =>
 L.load (.one (.map)) (a2.add 1) fun (x3 : Option Nat) =>
 L.sem Pr (.one (.one .ptr)) (Instr.range z0y (.map x3)) fun (it4 : Option Addr) =>
 L.loop (Y := Unit) (()) fun y5 again6 =>
 L.next Pr [eI6, (.agg [.str, .int .i64])] (Instr.next (.pointer it4) false T_) (
  L.draw <|
  L.nonnil p0 fun a8 =>
  L.load (.one (.map)) (a8.add 1) fun (x9 : Option Nat) =>
  L.semR Pr rI (Builtin.len_ #[z0y] z0g #[.map x9]) fun (x10 : Int) =>
  L.semR Pr rI (Instr.lookup z0e (.map m1) (.int .i64 2) false) fun (x11 : Int) =>
  L.semR Pr rI (Instr.lookup z0e (.map m1) (.int .i64 1) false) fun (x12 : Int) =>
  L.semR Pr rI (Instr.lookup z0e (.map m1) (.int .i64 3) false) fun (x13 : Int) =>
  L.semR Pr rI (Instr.lookup z0e (.map m1) (.int .i64 4) false) fun (x14 : Int) =>
  L.chkSem Pr (Instr.lookup z0e (.map m1) (.int .i64 4) false) (.int .i64 x14) <|
  L.chkSem Pr (Instr.lookup z0e (.map m1) (.int .i64 3) false) (.int .i64 x13) <|
  L.chkSem Pr (Instr.lookup z0e (.map m1) (.int .i64 1) false) (.int .i64 x12) <|
  L.chkSem Pr (Instr.lookup z0e (.map m1) (.int .i64 2) false) (.int .i64 x11) <|
  L.chkSem Pr (Instr.lookup z0e (.map m1) (.int .i64 4) false) (.int .i64 x14) <|
  L.chkSem Pr (Instr.lookup z0e (.map m1) (.int .i64 3) false) (.int .i64 x13) <|
  L.chkSem Pr (Instr.lookup z0e (.map m1) (.int .i64 1) false) (.int .i64 x12) <|
  L.chkSem Pr (Instr.lookup z0e (.map m1) (.int .i64 4) false) (.int .i64 x14) <|
  L.chkSem Pr (Instr.lookup z0e (.map m1) (.int .i64 3) false) (.int .i64 x13) <|
  K (.tuple #[.int .i64 x10, .int .i64 x11, .int .i64 x12, .int .i64 (IntKind.wrap .i64 (x13 + x14))])) fun (x7 : pt7) =>
 L.sem Pr (.tup [eI6, (.agg [.str, .int .i64])]) (Instr.entry (.pointer it4)) fun (x15 : pt7) =>
 L.new [.string s_, .int .i64 0] z0p fun b16 =>
 L.store (⟨b16, 0, none⟩) [.string x15.2.1.1, .int .i64 x15.2.1.2.1] <|
 L.load eI6 ((⟨b16, 0, none⟩ : Addr).add 1) fun (x17 : Int) =>
 L.semR Pr rI (Instr.lookup z0e (.map m1) (.int .i64 x17) false) fun (x18 : Int) =>
 L.semU Pr (Instr.mapUpdate z0e (.map m1) (.int .i64 x17) (.int .i64 (IntKind.wrap .i64 (x18 + 1)))) <|
 again6 (())
theorem z5Q (p0 : Option Addr) {K : Value → PT} {w : World} (h : z3t p0 K w) : CT Pr z2e [.pointer p0] K w :=
 C_of (fn := Tryz.f57) (an := z5T) (args := [.v (.pointer p0)]) (by kernel_rfl) (by kernel_rfl) (by kernel_rfl) h
def z3u (p0 : Option Addr) (K : Value → PT) : PT :=
 L.nonnil p0 fun a1 =>
 L.load (.one (.map)) (a1.add 0) fun (x2 : Option Nat) =>
 L.semR Pr rI (Builtin.len_ #[z24] z0g #[.map x2]) fun (x3 : Int) =>
 K (.int .i64 x3)
theorem z5R (p0 : Option Addr) {K : Value → PT} {w : World} (h : z3u p0 K w) : CT Pr z2f [.pointer p0] K w :=
 C_of (fn := Tryz.f58) (an := .auto) (args := [.v (.pointer p0)]) (by kernel_rfl) (by kernel_rfl) (by kernel_rfl) h
def z4a (p0 : Option Addr) (K : Value → PT) : PT :=
 L.nonnil p0 fun a1 =>
 L.load (.one (.map)) (a1.add 0) fun (x2 : Option Nat) =>
 L.call Pr z0G [.map x2] rL fun (x3 : Sl) =>
 L.call Pr z0A [.slice x3.a x3.len x3.cap] rL fun (x4 : Sl) =>
 K (.slice x4.a x4.len x4.cap)
theorem z6A (p0 : Option Addr) {K : Value → PT} {w : World} (h : z4a p0 K w) : CT Pr z2K [.pointer p0] K w :=
 C_of (fn := Tryz.f59) (an := .auto) (args := [.v (.pointer p0)]) (by kernel_rfl) (by kernel_rfl) (by kernel_rfl) h
def z1v (p0 : Sl) (K : Value → PT) : PT :=
 L.ite ((p0.a).isNone) (
  K (.slice none 0 0)) <|
 L.new [] z05 fun b1 =>
 L.sem Pr (.one (.one .slice)) (Builtin.append_ #[z0b, z0b] z0b #[.slice (some ⟨b1, 0, none⟩) 0 0, .slice p0.a p0.len p0.cap]) fun (s2 : Sl) =>
 K (.slice s2.a s2.len s2.cap)
theorem z2Y (p0 : Sl) {K : Value → PT} {w : World} (h : z1v p0 K w) : CT Pr z0A [.slice p0.a p0.len p0.cap] K w :=
 C_of (fn := Tryz.f61) (an := .auto) (args := [.v (.slice p0.a p0.len p0.cap)]) (by kernel_rfl) (by kernel_rfl) (by kernel_rfl) h
def z8y : Ann := (.seq .auto (.seq (.seq .auto (.seq .auto (.cond .auto (.seq .auto (.cond .auto (.seq .auto (.cond .auto (.seq .auto (.cond .auto (.seq .auto (.cond .auto (.seq .auto (.cond .auto (.seq .auto .auto (some [(26, (.one (.bool)))]))) none)) (some [(17, (.one (.bool)))]))) none)) none)) none)) none) none) .auto none) none)
def z5L (p0 : Int) (K : Value → PT) : PT :=
 L.new [.bool false, .bool false, .bool false, .bool false, .bool false, .bool false] z7b fun b1 =>
 L.ite (p0 == 1) (
  L.store (⟨b1, 0, none⟩) [.bool true, .bool false, .bool false, .bool false, .bool true, .bool false] <|
  L.load (.agg lf4) (⟨b1, 0, none⟩) fun (x2 : pt8) =>
  K (.tuple #[(qa2 x2), .bool true])) <|
 L.ite (p0 == 2) (
  L.store (⟨b1, 0, none⟩) [.bool true, .bool false, .bool false, .bool false, .bool false, .bool true] <|
  L.load (.agg lf4) (⟨b1, 0, none⟩) fun (x3 : pt8) =>
  K (.tuple #[(qa2 x3), .bool true])) <|
 L.ite (p0 == 3) (
  L.store (⟨b1, 0, none⟩) [.bool true, .bool true, .bool false, .bool true, .bool false, .bool false] <|
  L.load (.agg lf4) (⟨b1, 0, none⟩) fun (x4 : pt8) =>
  K (.tuple #[(qa2 x4), .bool true])) <|
 L.ite (p0 == 4) (
  L.store (⟨b1, 0, none⟩) [.bool true, .bool true, .bool true, .bool true, .bool false, .bool false] <|
  L.load (.agg lf4) (⟨b1, 0, none⟩) fun (x5 : pt8) =>
  K (.tuple #[(qa2 x5), .bool true])) <|
 L.join (Y := Bool × Unit) (fun k6 =>
  L.ite (p0 == 5) (
   k6 (p0 == 5, ())) <|
  L.ite (p0 == 6) (
   k6 (p0 == 6, ())) <|
  L.ite (p0 == 7) (
   k6 (p0 == 7, ())) <|
  k6 (p0 == 8, ())) fun z7 =>
 L.ite z7.1 (
  L.store (⟨b1, 0, none⟩) [.bool true, .bool false, .bool false, .bool false, .bool false, .bool false] <|
  L.load (.agg lf4) (⟨b1, 0, none⟩) fun (x8 : pt8) =>
  K (.tuple #[(qa2 x8), .bool true])) <|
 L.ite (p0 == 9) (
  L.store (⟨b1, 0, none⟩) [.bool false, .bool false, .bool false, .bool false, .bool false, .bool false] <|
  L.load (.agg lf4) (⟨b1, 0, none⟩) fun (x9 : pt8) =>
  K (.tuple #[(qa2 x9), .bool true])) <|
 L.join (Y := Bool × Unit) (fun k10 =>
  L.ite (p0 == 10) (
   k10 (p0 == 10, ())) <|
  L.ite (p0 == 11) (
   k10 (p0 == 11, ())) <|
  L.ite (p0 == 12) (
   k10 (p0 == 12, ())) <|
  k10 (p0 == 13, ())) fun z11 =>
 L.ite z11.1 (
  L.store (⟨b1, 0, none⟩) [.bool false, .bool true, .bool false, .bool false, .bool false, .bool false] <|
  L.load (.agg lf4) (⟨b1, 0, none⟩) fun (x12 : pt8) =>
  K (.tuple #[(qa2 x12), .bool true])) <|
 L.store (⟨b1, 0, none⟩) [.bool false, .bool false, .bool false, .bool false, .bool false, .bool false] <|
 L.load (.agg lf4) (⟨b1, 0, none⟩) fun (x13 : pt8) =>
 K (.tuple #[(qa2 x13), .bool false])
theorem z8q (p0 : Int) {K : Value → PT} {w : World} (h : z5L p0 K w) : CT Pr z3T [.int .i64 p0] K w :=
 C_of (fn := Tryz.f62) (an := z8y) (args := [.v (.int .i64 p0)]) (by kernel_rfl) (by kernel_rfl) (by kernel_rfl) h
def z4d (p0 : Bool) (p1 : Int) (K : Value → PT) : PT :=
 L.ite p0 (
  K (.bool true)) <|
 K (.bool (p1 == 0))
theorem z6D (p0 : Bool) (p1 : Int) {K : Value → PT} {w : World} (h : z4d p0 p1 K w) : CT Pr z1Y [.bool p0, .int .i64 p1] K w :=
 C_of (fn := Tryz.f63) (an := .auto) (args := [.v (.bool p0), .v (.int .i64 p1)]) (by kernel_rfl) (by kernel_rfl) (by kernel_rfl) h
def z3l (p0 : Bool) (p1 : ByteArray) (K : Value → PT) : PT :=
 L.ite p0 (
  K (.bool true)) <|
 K (.bool (p1.toList == s_.toList))
theorem z5h (p0 : Bool) (p1 : ByteArray) {K : Value → PT} {w : World} (h : z3l p0 p1 K w) : CT Pr z1f [.bool p0, .string p1] K w :=
 C_of (fn := Tryz.f64) (an := .auto) (args := [.v (.bool p0), .v (.string p1)]) (by kernel_rfl) (by kernel_rfl) (by kernel_rfl) h
def z2n (p0 : Bool) (p1 : ht0) (K : Value → PT) : PT :=
 L.new [.string p1.1, .int .i64 p1.2.1, .int .i64 p1.2.2.1, .int .i64 p1.2.2.2.1, .int .i64 p1.2.2.2.2.1, .int .i64 p1.2.2.2.2.2.1] z0z fun b1 =>
 L.new [.string s_, .int .i64 0, .int .i64 0, .int .i64 0, .int .i64 0, .int .i64 0] z0z fun b2 =>
 L.ite p0 (
  K (.bool true)) <|
 L.load (.agg lf0) (⟨b1, 0, none⟩) fun (x3 : pt0) =>
 L.load (.agg lf0) (⟨b2, 0, none⟩) fun (x4 : pt0) =>
 L.chkSem Pr (do eqGuard .eql z0z (.tmp 0) (.tmp 0) ((qa0 x3)) ((qa0 x4)); binOp .eql z0z ((qa0 x3)) ((qa0 x4))) (.bool ((x3.1 == x4.1) && ((x3.2.1 == x4.2.1) && ((x3.2.2.1 == x4.2.2.1) && ((x3.2.2.2.1 == x4.2.2.2.1) && ((x3.2.2.2.2.1 == x4.2.2.2.2.1) && ((x3.2.2.2.2.2.1 == x4.2.2.2.2.2.1) && true))))))) <|
 K (.bool ((x3.1 == x4.1) && ((x3.2.1 == x4.2.1) && ((x3.2.2.1 == x4.2.2.1) && ((x3.2.2.2.1 == x4.2.2.2.1) && ((x3.2.2.2.2.1 == x4.2.2.2.2.1) && ((x3.2.2.2.2.2.1 == x4.2.2.2.2.2.1) && true)))))))
theorem z41 (p0 : Bool) (p1 : ht0) {K : Value → PT} {w : World} (h : z2n p0 p1 K w) : CT Pr z1g [.bool p0, (.ag (qc0 p1) : SV).toV] K w :=
 C_of (fn := Tryz.f65) (an := .auto) (args := [.v (.bool p0), .ag (qc0 p1)]) (by kernel_rfl) (by kernel_rfl) (by kernel_rfl) h
def z6r (p0 : ht2) (K : Value → PT) : PT :=
 L.new [.string p0.1, .string p0.2.1, .slice p0.2.2.1.a p0.2.2.1.len p0.2.2.1.cap, .int .i64 p0.2.2.2.1] z3e fun b1 =>
 L.load eS6 ((⟨b1, 0, none⟩ : Addr).add 0) fun (x2 : ByteArray) =>
 L.ite (x2.toList == s_.toList) (
  L.load eS6 ((⟨b1, 0, none⟩ : Addr).add 1) fun (x3 : ByteArray) =>
  L.ite (x3.toList == s_.toList) (
   L.load eI6 ((⟨b1, 0, none⟩ : Addr).add 3) fun (x4 : Int) =>
   L.ite (x4 == 0) (
    L.load eL6 ((⟨b1, 0, none⟩ : Addr).add 2) fun (x5 : Sl) =>
    K (.bool (((x5.len : Nat) : Int) == 0))) <|
   K (.bool false)) <|
  K (.bool false)) <|
 K (.bool false)
theorem z9q (p0 : ht2) {K : Value → PT} {w : World} (h : z6r p0 K w) : CT Pr z4m [(.ag (qc2 p0) : SV).toV] K w :=
 C_of (fn := Tryz.f66) (an := .auto) (args := [.ag (qc2 p0)]) (by kernel_rfl) (by kernel_rfl) (by kernel_rfl) h
def z7v : Ann := (.seq .auto (.seq (.seq .auto (.seq .auto .auto (some [(5, (.one (.bool)))])) none) .auto none) none)
def z4Y (p0 : ht1) (K : Value → PT) : PT :=
 L.new [.int .i64 p0.1, .string p0.2.1, .string p0.2.2.1, .int .i64 p0.2.2.2.1, .int .i64 p0.2.2.2.2.1, .string p0.2.2.2.2.2.1, .int .i64 p0.2.2.2.2.2.2.1, .int .i64 p0.2.2.2.2.2.2.2.1, .int .i64 p0.2.2.2.2.2.2.2.2.1, .int .i64 p0.2.2.2.2.2.2.2.2.2.1, .int .i64 p0.2.2.2.2.2.2.2.2.2.2.1, .string p0.2.2.2.2.2.2.2.2.2.2.2.1, .string p0.2.2.2.2.2.2.2.2.2.2.2.2.1, .slice p0.2.2.2.2.2.2.2.2.2.2.2.2.2.1.a p0.2.2.2.2.2.2.2.2.2.2.2.2.2.1.len p0.2.2.2.2.2.2.2.2.2.2.2.2.2.1.cap, .int .i64 p0.2.2.2.2.2.2.2.2.2.2.2.2.2.2.1] z2z fun b1 =>
 L.load eI6 ((⟨b1, 0, none⟩ : Addr).add 0) fun (x2 : Int) =>
 L.join (Y := Bool × Unit) (fun k3 =>
  L.ite (x2 == 1) (
   k3 (x2 == 1, ())) <|
  k3 (x2 == 2, ())) fun z4 =>
 L.ite z4.1 (
  L.load eI6 ((⟨b1, 0, none⟩ : Addr).add 3) fun (x5 : Int) =>
  L.call Pr z0d [.int .i64 x5, .int .i64 0, .int .i64 2147483647] rB fun (x6 : Bool) =>
  K (.bool x6)) <|
 L.ite (x2 == 3) (
  L.load eI6 ((⟨b1, 0, none⟩ : Addr).add 3) fun (x7 : Int) =>
  L.call Pr z0d [.int .i64 x7, .int .i64 1, .int .i64 2] rB fun (x8 : Bool) =>
  K (.bool x8)) <|
 L.load eI6 ((⟨b1, 0, none⟩ : Addr).add 3) fun (x9 : Int) =>
 L.call Pr z0d [.int .i64 x9, .int .i64 1, .int .i64 2147483647] rB fun (x10 : Bool) =>
 K (.bool x10)
theorem z7u (p0 : ht1) {K : Value → PT} {w : World} (h : z4Y p0 K w) : CT Pr z3x [(.ag (qc1 p0) : SV).toV] K w :=
 C_of (fn := Tryz.f67) (an := z7v) (args := [.ag (qc1 p0)]) (by kernel_rfl) (by kernel_rfl) (by kernel_rfl) h
def z5M (p0 : ht1) (K : Value → PT) : PT :=
 L.new [.int .i64 p0.1, .string p0.2.1, .string p0.2.2.1, .int .i64 p0.2.2.2.1, .int .i64 p0.2.2.2.2.1, .string p0.2.2.2.2.2.1, .int .i64 p0.2.2.2.2.2.2.1, .int .i64 p0.2.2.2.2.2.2.2.1, .int .i64 p0.2.2.2.2.2.2.2.2.1, .int .i64 p0.2.2.2.2.2.2.2.2.2.1, .int .i64 p0.2.2.2.2.2.2.2.2.2.2.1, .string p0.2.2.2.2.2.2.2.2.2.2.2.1, .string p0.2.2.2.2.2.2.2.2.2.2.2.2.1, .slice p0.2.2.2.2.2.2.2.2.2.2.2.2.2.1.a p0.2.2.2.2.2.2.2.2.2.2.2.2.2.1.len p0.2.2.2.2.2.2.2.2.2.2.2.2.2.1.cap, .int .i64 p0.2.2.2.2.2.2.2.2.2.2.2.2.2.2.1] z2z fun b1 =>
 L.load eI6 ((⟨b1, 0, none⟩ : Addr).add 0) fun (x2 : Int) =>
 L.ite (x2 == 12) (
  L.load eS6 ((⟨b1, 0, none⟩ : Addr).add 1) fun (x3 : ByteArray) =>
  L.call Pr z1K [.string x3] (.tup [eS6, eI6, eB6]) fun (x4 : ByteArray × Int × Bool × Unit) =>
  K (.bool x4.2.2.1)) <|
 L.load eI6 ((⟨b1, 0, none⟩ : Addr).add 0) fun (x5 : Int) =>
 L.ite (x5 == 13) (
  L.load eS6 ((⟨b1, 0, none⟩ : Addr).add 1) fun (x6 : ByteArray) =>
  L.call Pr z1K [.string x6] (.tup [eS6, eI6, eB6]) fun (x7 : ByteArray × Int × Bool × Unit) =>
  K (.bool x7.2.2.1)) <|
 L.load eS6 ((⟨b1, 0, none⟩ : Addr).add 1) fun (x8 : ByteArray) =>
 L.call Pr z1G [.string x8] rB fun (x9 : Bool) =>
 K (.bool x9)
theorem z8r (p0 : ht1) {K : Value → PT} {w : World} (h : z5M p0 K w) : CT Pr z2U [(.ag (qc1 p0) : SV).toV] K w :=
 C_of (fn := Tryz.f68) (an := .auto) (args := [.ag (qc1 p0)]) (by kernel_rfl) (by kernel_rfl) (by kernel_rfl) h
def z7f (p0 : ByteArray) (K : Value → PT) : PT :=
 L.call Pr z2T [.string p0, .int .i64 8] rB fun (x1 : Bool) =>
 K (.bool x1)
theorem z9T (p0 : ByteArray) {K : Value → PT} {w : World} (h : z7f p0 K w) : CT Pr z1e [.string p0] K w :=
 C_of (fn := Tryz.f69) (an := .auto) (args := [.v (.string p0)]) (by kernel_rfl) (by kernel_rfl) (by kernel_rfl) h
def z4X (p0 : Int) (p1 : Int) (p2 : Int) (K : Value → PT) : PT :=
 L.ite (decide (p0 ≥ p1)) (
  K (.bool (decide (p0 ≤ p2)))) <|
 K (.bool false)
theorem z7t (p0 : Int) (p1 : Int) (p2 : Int) {K : Value → PT} {w : World} (h : z4X p0 p1 p2 K w) : CT Pr z0d [.int .i64 p0, .int .i64 p1, .int .i64 p2] K w :=
 C_of (fn := Tryz.f70) (an := .auto) (args := [.v (.int .i64 p0), .v (.int .i64 p1), .v (.int .i64 p2)]) (by kernel_rfl) (by kernel_rfl) (by kernel_rfl) h
def z8w : Ann := (.seq .auto (.seq (.seq .auto (.cond .auto (.seq .auto .auto (some [(8, (.one (.bool)))]))) none) .auto none) none)
def z5J (p0 : ht0) (K : Value → PT) : PT :=
 L.new [.string p0.1, .int .i64 p0.2.1, .int .i64 p0.2.2.1, .int .i64 p0.2.2.2.1, .int .i64 p0.2.2.2.2.1, .int .i64 p0.2.2.2.2.2.1] z0z fun b1 =>
 L.load eS6 ((⟨b1, 0, none⟩ : Addr).add 0) fun (x2 : ByteArray) =>
 L.call Pr z1G [.string x2] rB fun (x3 : Bool) =>
 L.ite (!x3) (
  K (.int .i64 1)) <|
 L.join (Y := Bool × Unit) (fun k4 =>
  L.load eI6 ((⟨b1, 0, none⟩ : Addr).add 1) fun (x6 : Int) =>
  L.call Pr z0o [.agg #[.int .i64 0, .int .i64 255], .int .i64 x6] rB fun (x7 : Bool) =>
  L.ite (!x7) (
   k4 (!x7, ())) <|
  L.load eI6 ((⟨b1, 0, none⟩ : Addr).add 2) fun (x8 : Int) =>
  L.call Pr z0o [.agg #[.int .i64 1, .int .i64 8], .int .i64 x8] rB fun (x9 : Bool) =>
  L.ite (!x9) (
   k4 (!x9, ())) <|
  L.load eI6 ((⟨b1, 0, none⟩ : Addr).add 4) fun (x10 : Int) =>
  L.call Pr z0o [.agg #[.int .i64 1, .int .i64 10], .int .i64 x10] rB fun (x11 : Bool) =>
  L.ite (!x11) (
   k4 (!x11, ())) <|
  L.load eI6 ((⟨b1, 0, none⟩ : Addr).add 4) fun (x12 : Int) =>
  L.load eI6 ((⟨b1, 0, none⟩ : Addr).add 3) fun (x13 : Int) =>
  L.call Pr z0o [.agg #[.int .i64 0, .int .i64 x12], .int .i64 x13] rB fun (x14 : Bool) =>
  L.ite (!x14) (
   k4 (!x14, ())) <|
  L.load eI6 ((⟨b1, 0, none⟩ : Addr).add 5) fun (x15 : Int) =>
  L.call Pr z0o [.agg #[.int .i64 0, .int .i64 30], .int .i64 x15] rB fun (x16 : Bool) =>
  k4 (!x16, ())) fun z5 =>
 L.ite z5.1 (
  K (.int .i64 2)) <|
 K (.int .i64 0)
theorem z8o (p0 : ht0) {K : Value → PT} {w : World} (h : z5J p0 K w) : CT Pr z07 [(.ag (qc0 p0) : SV).toV] K w :=
 C_of (fn := Tryz.f71) (an := z8w) (args := [.ag (qc0 p0)]) (by kernel_rfl) (by kernel_rfl) (by kernel_rfl) h
def z9r : Ann := (.seq .auto (.seq (.seq .auto .auto (some [(6, (.one (.bool)))])) (.seq (.seq .auto (.one [(31, (.one (.int .i64)))] .auto) none) .auto none) none) none)
def z6o (p0 : ht2) (K : Value → PT) : PT :=
 L.new [.string p0.1, .string p0.2.1, .slice p0.2.2.1.a p0.2.2.1.len p0.2.2.1.cap, .int .i64 p0.2.2.2.1] z3e fun b1 =>
 L.join (Y := Bool × Unit) (fun k2 =>
  L.load eS6 ((⟨b1, 0, none⟩ : Addr).add 0) fun (x4 : ByteArray) =>
  L.call Pr z1G [.string x4] rB fun (x5 : Bool) =>
  L.ite (!x5) (
   k2 (!x5, ())) <|
  L.load eS6 ((⟨b1, 0, none⟩ : Addr).add 1) fun (x6 : ByteArray) =>
  L.call Pr z1G [.string x6] rB fun (x7 : Bool) =>
  k2 (!x7, ())) fun z3 =>
 L.ite z3.1 (
  K (.int .i64 1)) <|
 L.load eI6 ((⟨b1, 0, none⟩ : Addr).add 3) fun (x8 : Int) =>
 L.call Pr z0o [.agg #[.int .i64 0, .int .i64 60], .int .i64 x8] rB fun (x9 : Bool) =>
 L.ite (!x9) (
  K (.int .i64 2)) <|
 L.load eL6 ((⟨b1, 0, none⟩ : Addr).add 2) fun (x10 : Sl) =>
 L.call Pr z0o [.agg #[.int .i64 1, .int .i64 6], .int .i64 ((x10.len : Nat) : Int)] rB fun (x11 : Bool) =>
 L.ite (!x11) (
  K (.int .i64 3)) <|
 L.load eL6 ((⟨b1, 0, none⟩ : Addr).add 2) fun (x12 : Sl) =>
 L.loop (Y := Int × Unit) (0, ()) fun y13 again14 =>
 L.ite (decide (y13.1 < ((x12.len : Nat) : Int))) (
  L.idx x12.a y13.1 x12.len 3 fun a15 =>
  L.load (.agg [.str, .str, .int .i64]) a15 fun (x16 : pt9) =>
  L.new [.string s_, .string s_, .int .i64 0] z0k fun b17 =>
  L.store (⟨b17, 0, none⟩) [.string x16.1, .string x16.2.1, .int .i64 x16.2.2.1] <|
  L.load (.agg [.str, .str, .int .i64]) (⟨b17, 0, none⟩) fun (x18 : pt9) =>
  L.call Pr z3S [.agg #[.string x18.1, .string x18.2.1, .int .i64 x18.2.2.1]] rI fun (x19 : Int) =>
  L.ite (x19 != 0) (
   K (.int .i64 x19)) <|
  again14 (IntKind.wrap .i64 (y13.1 + 1), ())) <|
 L.load eL6 ((⟨b1, 0, none⟩ : Addr).add 2) fun (x20 : Sl) =>
 L.call Pr z5X [.slice x20.a x20.len x20.cap] rI fun (x21 : Int) =>
 K (.int .i64 x21)
theorem z9n (p0 : ht2) {K : Value → PT} {w : World} (h : z6o p0 K w) : CT Pr z08 [(.ag (qc2 p0) : SV).toV] K w :=
 C_of (fn := Tryz.f72) (an := z9r) (args := [.ag (qc2 p0)]) (by kernel_rfl) (by kernel_rfl) (by kernel_rfl) h
def z7i (p0 : Int) (K : Value → PT) : PT :=
 L.ite (p0 == 0) (
  K (.string s_ok)) <|
 L.ite (p0 == 1) (
  K (.string zd8)) <|
 L.ite (p0 == 2) (
  K (.string zec)) <|
 L.ite (p0 == 3) (
  K (.string zda)) <|
 L.ite (p0 == 4) (
  K (.string zea)) <|
 L.ite (p0 == 5) (
  K (.string zbp)) <|
 L.ite (p0 == 6) (
  K (.string zd7)) <|
 K (.string z7Z)
theorem z9W (p0 : Int) {K : Value → PT} {w : World} (h : z7i p0 K w) : CT Pr z6Q [.int .i64 p0] K w :=
 C_of (fn := Tryz.f75) (an := .auto) (args := [.v (.int .i64 p0)]) (by kernel_rfl) (by kernel_rfl) (by kernel_rfl) h
def z7R (p0 : Int) (K : Value → PT) : PT :=
 L.ite (p0 == 7) (
  K (.string zbs)) <|
 L.ite (p0 == 8) (
  K (.string zdc)) <|
 L.ite (p0 == 9) (
  K (.string zbr)) <|
 L.ite (p0 == 10) (
  K (.string zeb)) <|
 L.ite (p0 == 11) (
  K (.string zd9)) <|
 L.ite (p0 == 12) (
  K (.string zdb)) <|
 K (.string z7Z)
theorem zb6 (p0 : Int) {K : Value → PT} {w : World} (h : z7R p0 K w) : CT Pr z7C [.int .i64 p0] K w :=
 C_of (fn := Tryz.f76) (an := .auto) (args := [.v (.int .i64 p0)]) (by kernel_rfl) (by kernel_rfl) (by kernel_rfl) h
def z48 (p0 : Int) (K : Value → PT) : PT :=
 L.call Pr z1L [.int .i64 p0] rS fun (x1 : ByteArray) =>
 L.new [.string x1] z05 fun b2 =>
 L.call Pr z0q [.string s_refused, .slice (some ⟨b2, 0, none⟩) 1 1] rS fun (x3 : ByteArray) =>
 L.new [.string x3] z05 fun b4 =>
 K (.slice (some ⟨b4, 0, none⟩) 1 1)
theorem z6y (p0 : Int) {K : Value → PT} {w : World} (h : z48 p0 K w) : CT Pr z2J [.int .i64 p0] K w :=
 C_of (fn := Tryz.f81) (an := .auto) (args := [.v (.int .i64 p0)]) (by kernel_rfl) (by kernel_rfl) (by kernel_rfl) h
def z8t : Ann := (.seq .auto (.seq (.seq .auto (.seq .auto .auto (some [(8, (.one (.str)))])) none) .auto none) none)
def z5G (p0 : Sl) (p1 : Sl) (K : Value → PT) : PT :=
 L.new [.slice p1.a p1.len p1.cap] z0b fun b1 =>
 L.call Pr z4T [.slice p0.a p0.len p0.cap] (.one (.one (.func))) fun (x2 : FV) =>
 L.range Pr none (.func x2.fn x2.fs x2.cs) [eS6] (fun l3 (y4 : ByteArray × Unit) R5 =>
  L.begin Pr l3 <|
  L.load eL6 (⟨b1, 0, none⟩) fun (x8 : Sl) =>
  L.new [.string y4.1] z05 fun b9 =>
  L.sem Pr (.one (.one .slice)) (Builtin.append_ #[z0b, z0b] z0b #[.slice x8.a x8.len x8.cap, .slice (some ⟨b9, 0, none⟩) 1 1]) fun (s10 : Sl) =>
  L.store (⟨b1, 0, none⟩) [.slice s10.a s10.len s10.cap] <|
  L.endRound Pr l3 none R5) fun d6 j7 =>
 L.jump j7 (
  L.load eL6 (⟨b1, 0, none⟩) fun (x11 : Sl) =>
  L.call Pr z0A [.slice x11.a x11.len x11.cap] rL fun (x12 : Sl) =>
  L.unmark Pr (d6 ++ []) <|
  K (.slice x12.a x12.len x12.cap)) (
  L.unmark Pr (d6 ++ []) <|
  K (.slice none 0 0)) []
theorem z8l (p0 : Sl) (p1 : Sl) {K : Value → PT} {w : World} (h : z5G p0 p1 K w) : CT Pr z3Q [.slice p0.a p0.len p0.cap, .slice p1.a p1.len p1.cap] K w :=
 C_of (fn := Tryz.f85) (an := z8t) (args := [.v (.slice p0.a p0.len p0.cap), .v (.slice p1.a p1.len p1.cap)]) (by kernel_rfl) (by kernel_rfl) (by kernel_rfl) h
def z6e : Ann := (.seq .auto (.seq .auto (.seq (.seq .auto (.one [(5, (.one (.slice))), (14, (.one (.int .i64)))] (.seq .auto (.seq .auto (.seq .auto .auto (some [(5, (.one (.slice)))])) none) none)) none) .auto none) none) none)
def z3J (p0 : ByteArray) (p1 : Sl) (K : Value → PT) : PT :=
 L.new [.string p0] z05 fun b1 =>
 L.loop (Y := Sl × Int × Unit) (⟨some ⟨b1, 0, none⟩, 1, 1⟩, 0, ()) fun y2 again3 =>
 L.ite (decide (y2.2.1 < ((p1.len : Nat) : Int))) (
  L.join (Y := Sl × Unit) (fun k4 =>
   L.idx p1.a y2.2.1 p1.len 1 fun a6 =>
   L.load eI6 a6 fun (x7 : Int) =>
   L.semR Pr (.tup [eS6, .one .bool]) (Instr.typeAssert (.iface z0g (.int .i64 x7)) z5a z05 true) fun (x8 : ByteArray × Bool × Unit) =>
   L.ite x8.2.1 (
    L.new [.string x8.1] z05 fun b9 =>
    L.sem Pr (.one (.one .slice)) (Builtin.append_ #[z0b, z0b] z0b #[.slice y2.1.a y2.1.len y2.1.cap, .slice (some ⟨b9, 0, none⟩) 1 1]) fun (s10 : Sl) =>
    k4 (⟨s10.a, s10.len, s10.cap⟩, ())) <|
   L.ite true (
    L.call Pr z1W [.int .i64 x7] rS fun (x11 : ByteArray) =>
    L.new [.string x11] z05 fun b12 =>
    L.sem Pr (.one (.one .slice)) (Builtin.append_ #[z0b, z0b] z0b #[.slice y2.1.a y2.1.len y2.1.cap, .slice (some ⟨b12, 0, none⟩) 1 1]) fun (s13 : Sl) =>
    k4 (⟨s13.a, s13.len, s13.cap⟩, ())) <|
   k4 (⟨y2.1.a, y2.1.len, y2.1.cap⟩, ())) fun z5 =>
  again3 (⟨z5.1.a, z5.1.len, z5.1.cap⟩, IntKind.wrap .i64 (y2.2.1 + 1), ())) <|
 L.call Pr z3w [.slice y2.1.a y2.1.len y2.1.cap, .string z5n] rS fun (x14 : ByteArray) =>
 K (.string x14)
theorem z68 (p0 : ByteArray) (p1 : Sl) {K : Value → PT} {w : World} (h : z3J p0 p1 K w) : CT Pr z0h [.string p0, .slice p1.a p1.len p1.cap] K w :=
 C_of (fn := Tryz.f86) (an := z6e) (args := [.v (.string p0), .v (.slice p1.a p1.len p1.cap)]) (by kernel_rfl) (by kernel_rfl) (by kernel_rfl) h
def z6F : Ann := (.seq .auto (.seq .auto (.seq (.seq .auto (.seq .auto (.seq .auto (.one [(20, (.one (.int .i64)))] .auto) none) (some [(14, (.one (.str))), (15, (.one (.ptr)))])) none) .auto none) none) none)
def z4b (p0 : Option Addr) (p1 : Int) (K : Value → PT) : PT :=
 L.new [.pointer p0] z15 fun b1 =>
 L.new [.int .i64 p1] z0g fun b2 =>
 L.new [.slice none 0 0] z0a fun b3 =>
 L.load eP6 (⟨b1, 0, none⟩) fun (x4 : Option Addr) =>
 L.nonnil x4 fun a5 =>
 L.call Pr z1N [.pointer (some (a5.add 2))] (.one (.one (.func))) fun (x6 : FV) =>
 L.range Pr none (.func x6.fn x6.fs x6.cs) [eS6, eP6] (fun l7 (y8 : ByteArray × Option Addr × Unit) R9 =>
  L.begin Pr l7 <|
  L.load eI6 (⟨b2, 0, none⟩) fun (x12 : Int) =>
  L.call Pr z2I [.pointer y8.2.1, .int .i64 x12] rL fun (x13 : Sl) =>
  L.loop (Y := Int × Unit) (0, ()) fun y14 again15 =>
  L.ite (decide (y14.1 < ((x13.len : Nat) : Int))) (
   L.idx x13.a y14.1 x13.len 1 fun a16 =>
   L.load eI6 a16 fun (x17 : Int) =>
   L.draw <|
   L.load eL6 (⟨b3, 0, none⟩) fun (x18 : Sl) =>
   L.load eP6 (⟨b1, 0, none⟩) fun (x19 : Option Addr) =>
   L.call Pr z5Z [.string z4j] (.one (.agg [.int .i64, .int .i64, .int .i64, .str])) fun (x20 : pt10) =>
   L.chk (⟨b1, 0, none⟩) [.pointer x19] <|
   L.chk (⟨b3, 0, none⟩) [.slice x18.a x18.len x18.cap] <|
   L.call Pr z3b [.pointer x19, .int .i64 x17, .string y8.1, .agg #[.int .i64 x20.1, .int .i64 x20.2.1, .int .i64 x20.2.2.1, .string x20.2.2.2.1]] (.one (.agg [.int .i64, .int .i64, .int .i64, .str])) fun (x21 : pt10) =>
   L.chk (⟨b3, 0, none⟩) [.slice x18.a x18.len x18.cap] <|
   L.new [.int .i64 x21.1, .int .i64 x21.2.1, .int .i64 x21.2.2.1, .string x21.2.2.2.1] z0w fun b22 =>
   L.chk (⟨b3, 0, none⟩) [.slice x18.a x18.len x18.cap] <|
   L.sem Pr (.one (.one .slice)) (Builtin.append_ #[z0a, z0a] z0a #[.slice x18.a x18.len x18.cap, .slice (some ⟨b22, 0, none⟩) 1 1]) fun (s23 : Sl) =>
   L.store (⟨b3, 0, none⟩) [.slice s23.a s23.len s23.cap] <|
   again15 (IntKind.wrap .i64 (y14.1 + 1), ())) <|
  L.endRound Pr l7 none R9) fun d10 j11 =>
 L.jump j11 (
  L.load eL6 (⟨b3, 0, none⟩) fun (x24 : Sl) =>
  L.call Pr z0B [.slice x24.a x24.len x24.cap] rL fun (x25 : Sl) =>
  L.unmark Pr (d10 ++ []) <|
  K (.slice x25.a x25.len x25.cap)) (
  L.unmark Pr (d10 ++ []) <|
  K (.slice none 0 0)) []
theorem z6B (p0 : Option Addr) (p1 : Int) {K : Value → PT} {w : World} (h : z4b p0 p1 K w) : CT Pr z2L [.pointer p0, .int .i64 p1] K w :=
 C_of (fn := Tryz.f95) (an := z6F) (args := [.v (.pointer p0), .v (.int .i64 p1)]) (by kernel_rfl) (by kernel_rfl) (by kernel_rfl) h
def z3K (p0 : Option Addr) (p1 : Int) (K : Value → PT) : PT :=
 L.nonnil p0 fun a1 =>
 L.call Pr z1U [.pointer (some (a1.add 0)), .int .i64 (if 0 > p1 then 0 else p1)] (.tup []) fun (x2 : Unit) =>
 L.nonnil p0 fun a3 =>
 L.load eI6 (a3.add 61) fun (x4 : Int) =>
 L.nonnil p0 fun a5 =>
 L.store (a5.add 61) [.int .i64 (IntKind.wrap .i64 (x4 + 1))] <|
 L.ite (decide ((if 0 > p1 then 0 else p1) > 0)) (
  L.nonnil p0 fun a6 =>
  L.store (a6.add 61) [.int .i64 0] <|
  K (.tuple #[])) <|
 K (.tuple #[])
theorem z69 (p0 : Option Addr) (p1 : Int) {K : Value → PT} {w : World} (h : z3K p0 p1 K w) : CT Pr z2x [.pointer p0, .int .i64 p1] K w :=
 C_of (fn := Tryz.f96) (an := .auto) (args := [.v (.pointer p0), .v (.int .i64 p1)]) (by kernel_rfl) (by kernel_rfl) (by kernel_rfl) h
def z4c (p0 : Option Addr) (p1 : ByteArray) (K : Value → PT) : PT :=
 L.call Pr z2d [.pointer p0, .string p1] (.tup [eL6, eL6]) fun (x1 : Sl × Sl × Unit) =>
 K (.int .i64 (IntKind.wrap .i64 (((x1.1.len : Nat) : Int) + ((x1.2.1.len : Nat) : Int))))
theorem z6C (p0 : Option Addr) (p1 : ByteArray) {K : Value → PT} {w : World} (h : z4c p0 p1 K w) : CT Pr z2M [.pointer p0, .string p1] K w :=
 C_of (fn := Tryz.f97) (an := .auto) (args := [.v (.pointer p0), .v (.string p1)]) (by kernel_rfl) (by kernel_rfl) (by kernel_rfl) h
def z7n : Ann := (.seq .auto (.seq .auto (.seq (.seq .auto (.seq .auto .auto (some [(12, (.one (.int .i64))), (13, (.one (.int .i64)))])) none) .auto none) none) none)
def z4u (p0 : Option Addr) (K : Value → PT) : PT :=
 L.call Pr z38 [.pointer p0] rI fun (x1 : Int) =>
 L.sem Pr (.one (.one .slice)) (Instr.makeSlice z1i (.int .i64 0) (.int .i64 x1)) fun (s2 : Sl) =>
 L.new [.slice none 0 0] z1i fun b3 =>
 L.store (⟨b3, 0, none⟩) [.slice s2.a s2.len s2.cap] <|
 L.nonnil p0 fun a4 =>
 L.call Pr z1b [.pointer (some (a4.add 0))] (.one (.one (.func))) fun (x5 : FV) =>
 L.range Pr none (.func x5.fn x5.fs x5.cs) [eI6, eI6] (fun l6 (y7 : Int × Int × Unit) R8 =>
  L.begin Pr l6 <|
  L.load eL6 (⟨b3, 0, none⟩) fun (x11 : Sl) =>
  L.new [.int .i64 y7.1] z0g fun b12 =>
  L.sem Pr (.one (.one .slice)) (Builtin.append_ #[z1i, z1i] z1i #[.slice x11.a x11.len x11.cap, .slice (some ⟨b12, 0, none⟩) 1 1]) fun (s13 : Sl) =>
  L.store (⟨b3, 0, none⟩) [.slice s13.a s13.len s13.cap] <|
  L.endRound Pr l6 none R8) fun d9 j10 =>
 L.jump j10 (
  L.load eL6 (⟨b3, 0, none⟩) fun (x14 : Sl) =>
  L.unmark Pr (d9 ++ []) <|
  K (.slice x14.a x14.len x14.cap)) (
  L.unmark Pr (d9 ++ []) <|
  K (.slice none 0 0)) []
theorem z7l (p0 : Option Addr) {K : Value → PT} {w : World} (h : z4u p0 K w) : CT Pr z39 [.pointer p0] K w :=
 C_of (fn := Tryz.f114) (an := z7n) (args := [.v (.pointer p0)]) (by kernel_rfl) (by kernel_rfl) (by kernel_rfl) h
def z1t (p0 : Sl) (K : Value → PT) : PT :=
 L.ite ((p0.a).isNone) (
  K (.slice none 0 0)) <|
 L.new [] z0g fun b1 =>
 L.sem Pr (.one (.one .slice)) (Builtin.append_ #[z1i, z1i] z1i #[.slice (some ⟨b1, 0, none⟩) 0 0, .slice p0.a p0.len p0.cap]) fun (s2 : Sl) =>
 K (.slice s2.a s2.len s2.cap)
theorem z2v (p0 : Sl) {K : Value → PT} {w : World} (h : z1t p0 K w) : CT Pr z0x [.slice p0.a p0.len p0.cap] K w :=
 C_of (fn := Tryz.f115) (an := .auto) (args := [.v (.slice p0.a p0.len p0.cap)]) (by kernel_rfl) (by kernel_rfl) (by kernel_rfl) h
def z2m (p0 : FV) (K : Value → PT) : PT :=
 L.sem Pr (.one (.one .map)) (Instr.makeMap z23 none) fun (m1 : Option Nat) =>
 L.new [.map m1, .func p0.fn p0.fs p0.cs] z2j fun b2 =>
 K (.pointer (some (⟨b2, 0, none⟩)))
theorem z40 (p0 : FV) {K : Value → PT} {w : World} (h : z2m p0 K w) : CT Pr z1d [.func p0.fn p0.fs p0.cs] K w :=
 C_of (fn := Tryz.f120) (an := .auto) (args := [.v (.func p0.fn p0.fs p0.cs)]) (by kernel_rfl) (by kernel_rfl) (by kernel_rfl) h
def z2u (p0 : FV) (K : Value → PT) : PT :=
 L.sem Pr (.one (.one .map)) (Instr.makeMap z29 none) fun (m1 : Option Nat) =>
 L.new [.map m1, .func p0.fn p0.fs p0.cs] z1s fun b2 =>
 K (.pointer (some (⟨b2, 0, none⟩)))
theorem z4g (p0 : FV) {K : Value → PT} {w : World} (h : z2u p0 K w) : CT Pr z1r [.func p0.fn p0.fs p0.cs] K w :=
 C_of (fn := Tryz.f122) (an := .auto) (args := [.v (.func p0.fn p0.fs p0.cs)]) (by kernel_rfl) (by kernel_rfl) (by kernel_rfl) h
def z17 (p0 : Option Nat) (K : Value → PT) : PT :=
 L.call Pr z0m [.map p0] (.one (.one (.func))) fun (x1 : FV) =>
 L.call Pr z0I [.func x1.fn x1.fs x1.cs] rL fun (x2 : Sl) =>
 K (.slice x2.a x2.len x2.cap)
theorem z2p (p0 : Option Nat) {K : Value → PT} {w : World} (h : z17 p0 K w) : CT Pr z0G [.map p0] K w :=
 C_of (fn := Tryz.f126) (an := .auto) (args := [.v (.map p0)]) (by kernel_rfl) (by kernel_rfl) (by kernel_rfl) h
def z3Y (p0 : ByteArray) (K : Value → PT) : PT :=
 L.call Pr z3a [.string p0, .string s__] rI fun (x1 : Int) =>
 L.ite (decide (x1 < 0)) (
  K (.tuple #[.string s_, .int .i64 0, .bool false])) <|
 L.guard ((0 : Int) ≤ (IntKind.wrap .i64 (x1 + 1)) ∧ (IntKind.wrap .i64 (x1 + 1)) ≤ (p0.size : Int) ∧ (p0.size : Int) ≤ p0.size) <|
 L.call Pr z4U [.string (p0.extract (Int.toNat (IntKind.wrap .i64 (x1 + 1))) (Int.toNat (p0.size : Int)))] (.tup [eI6, (.one (.iface))]) fun (x2 : pt18) =>
 L.ite (!(x2.2.1).isNone) (
  K (.tuple #[.string s_, .int .i64 0, .bool false])) <|
 L.guard ((0 : Int) ≤ 0 ∧ 0 ≤ x1 ∧ x1 ≤ p0.size) <|
 L.call Pr z55 [.string (p0.extract (Int.toNat 0) (Int.toNat x1)), .int .i64 x2.1] rS fun (x3 : ByteArray) =>
 L.ite (!(x3.toList == p0.toList)) (
  K (.tuple #[.string s_, .int .i64 0, .bool false])) <|
 L.guard ((0 : Int) ≤ 0 ∧ 0 ≤ x1 ∧ x1 ≤ p0.size) <|
 K (.tuple #[.string (p0.extract (Int.toNat 0) (Int.toNat x1)), .int .i64 x2.1, .bool true])
theorem z5O (p0 : ByteArray) {K : Value → PT} {w : World} (h : z3Y p0 K w) : CT Pr z1K [.string p0] K w :=
 C_of (fn := Tryz.f128) (an := .auto) (args := [.v (.string p0)]) (by kernel_rfl) (by kernel_rfl) (by kernel_rfl) h
def z6q (p0 : ByteArray) (K : Value → PT) : PT :=
 L.call Pr z2T [.string p0, .int .i64 16] rB fun (x1 : Bool) =>
 K (.bool x1)
theorem z9p (p0 : ByteArray) {K : Value → PT} {w : World} (h : z6q p0 K w) : CT Pr z1G [.string p0] K w :=
 C_of (fn := Tryz.f129) (an := .auto) (args := [.v (.string p0)]) (by kernel_rfl) (by kernel_rfl) (by kernel_rfl) h
def z8x : Ann := (.seq .auto (.seq .auto (.seq (.seq .auto (.one [(5, (.one (.int .i32)))] (.seq .auto (.seq (.cond .auto .auto) (.seq .auto (.seq (.seq .auto (.cond .auto .auto) none) .auto (some [])) none) none) none)) none) .auto none) none) none)
def z5K (p0 : ByteArray) (p1 : Int) (K : Value → PT) : PT :=
 L.sem Pr (.one (.one .ptr)) (Instr.range z05 (.string p0)) fun (it1 : Option Addr) =>
 L.loop (Y := Int × Unit) (45, ()) fun y2 again3 =>
 L.next Pr [eI6, (.one (.int .i32))] (Instr.next (.pointer it1) true T_) (
  L.ite (y2.1 != 45) (
   K (.bool (decide ((p0.size : Int) ≤ p1)))) <|
  K (.bool false)) fun (x4 : Int × Int × Unit) =>
 L.join (Y := Unit) (fun k5 =>
  L.call Pr z4l [.int .i32 x4.2.1] rB fun (x7 : Bool) =>
  L.ite (!x7) (
   K (.bool false)) <|
  L.ite (x4.1 == 0) (
   L.call Pr z2C [.int .i32 x4.2.1] rB fun (x8 : Bool) =>
   L.ite (!x8) (
    K (.bool false)) <|
   k5 (())) <|
  k5 (())) fun z6 =>
 again3 (x4.2.1, ())
theorem z8p (p0 : ByteArray) (p1 : Int) {K : Value → PT} {w : World} (h : z5K p0 p1 K w) : CT Pr z2T [.string p0, .int .i64 p1] K w :=
 C_of (fn := Tryz.f130) (an := z8x) (args := [.v (.string p0), .v (.int .i64 p1)]) (by kernel_rfl) (by kernel_rfl) (by kernel_rfl) h
def z3k (p0 : HT [.int .i64, .int .i64]) (p1 : Int) (K : Value → PT) : PT :=
 L.new [.int .i64 p0.1, .int .i64 p0.2.1] z79 fun b1 =>
 L.load eI6 ((⟨b1, 0, none⟩ : Addr).add 0) fun (x2 : Int) =>
 L.ite (decide (p1 ≥ x2)) (
  L.load eI6 ((⟨b1, 0, none⟩ : Addr).add 1) fun (x3 : Int) =>
  K (.bool (decide (p1 ≤ x3)))) <|
 K (.bool false)
theorem z4y (p0 : HT [.int .i64, .int .i64]) (p1 : Int) {K : Value → PT} {w : World} (h : z3k p0 p1 K w) : CT Pr z0o [(.ag [.int .i64 p0.1, .int .i64 p0.2.1] : SV).toV, .int .i64 p1] K w :=
 C_of (fn := Tryz.f131) (an := .auto) (args := [.ag [.int .i64 p0.1, .int .i64 p0.2.1], .v (.int .i64 p1)]) (by kernel_rfl) (by kernel_rfl) (by kernel_rfl) h
theorem z7j : Enters Pr z0o := z1I (by kernel_rfl)
def z8v : Ann := (.seq .auto (.seq .auto (.seq .auto (.seq (.seq (.seq .auto (.cond .auto .auto) none) .auto (some [(16, (.one (.bool)))])) .auto none) none) none) none)
def z5I (p0 : HT [.str, .str, .int .i64]) (K : Value → PT) : PT :=
 L.new [.string p0.1, .string p0.2.1, .int .i64 p0.2.2.1] z0k fun b1 =>
 L.load eS6 ((⟨b1, 0, none⟩ : Addr).add 0) fun (x2 : ByteArray) =>
 L.call Pr z1K [.string x2] (.tup [eS6, eI6, eB6]) fun (x3 : ByteArray × Int × Bool × Unit) =>
 L.join (Y := Bool × Unit) (fun k4 =>
  L.load eS6 ((⟨b1, 0, none⟩ : Addr).add 0) fun (x6 : ByteArray) =>
  L.ite (!(x6.toList == s_.toList)) (
   L.ite (!x3.2.2.1) (
    k4 (!x3.2.2.1, ())) <|
   L.load eS6 ((⟨b1, 0, none⟩ : Addr).add 1) fun (x7 : ByteArray) =>
   L.ite (!(x7.toList == s_.toList)) (
    L.load eS6 ((⟨b1, 0, none⟩ : Addr).add 1) fun (x8 : ByteArray) =>
    L.call Pr z1e [.string x8] rB fun (x9 : Bool) =>
    k4 (!x9, ())) <|
   k4 (false, ())) <|
  L.load eS6 ((⟨b1, 0, none⟩ : Addr).add 1) fun (x10 : ByteArray) =>
  L.ite (!(x10.toList == s_.toList)) (
   L.load eS6 ((⟨b1, 0, none⟩ : Addr).add 1) fun (x11 : ByteArray) =>
   L.call Pr z1e [.string x11] rB fun (x12 : Bool) =>
   k4 (!x12, ())) <|
  k4 (false, ())) fun z5 =>
 L.ite z5.1 (
  K (.int .i64 1)) <|
 L.load eI6 ((⟨b1, 0, none⟩ : Addr).add 2) fun (x13 : Int) =>
 L.callV Pr (.func (.func z0o) #[.agg #[.int .i64 0, .int .i64 100]] #[]) [.int .i64 x13] rB fun (x14 : Bool) =>
 L.ite (!x14) (
  K (.int .i64 2)) <|
 K (.int .i64 0)
theorem z8n (p0 : HT [.str, .str, .int .i64]) {K : Value → PT} {w : World} (h : z5I p0 K w) : CT Pr z3S [(.ag [.string p0.1, .string p0.2.1, .int .i64 p0.2.2.1] : SV).toV] K w :=
 C_of (fn := Tryz.f132) (an := z8v) (args := [.ag [.string p0.1, .string p0.2.1, .int .i64 p0.2.2.1]]) (by kernel_rfl) (by kernel_rfl) (by kernel_rfl) h
def zb7 : Ann := (.seq .auto (.seq .auto (.seq (.seq .auto (.one [(3, (.one (.int .i64))), (8, (.one (.int .i64)))] (.seq .auto (.seq .auto (.seq (.seq .auto (.seq .auto (.seq .auto (.cond .auto .auto) none) none) none) .auto (some [(3, (.one (.int .i64)))])) none) none)) none) .auto none) none) none)
def z7N (p0 : Sl) (K : Value → PT) : PT :=
 L.loop (Y := Int × Int × Unit) (0, 0, ()) fun y1 again2 =>
 L.ite (decide (y1.2.1 < ((p0.len : Nat) : Int))) (
  L.join (Y := Int × Unit) (fun k3 =>
   L.idx p0.a y1.2.1 p0.len 3 fun a5 =>
   L.load (.agg [.str, .str, .int .i64]) a5 fun (x6 : pt9) =>
   L.new [.string s_, .string s_, .int .i64 0] z0k fun b7 =>
   L.store (⟨b7, 0, none⟩) [.string x6.1, .string x6.2.1, .int .i64 x6.2.2.1] <|
   L.load eI6 ((⟨b7, 0, none⟩ : Addr).add 2) fun (x8 : Int) =>
   L.load eS6 ((⟨b7, 0, none⟩ : Addr).add 1) fun (x9 : ByteArray) =>
   L.ite (!(x9.toList == s_.toList)) (
    L.guard (0 ≤ (0 : Int) ∧ (0 : Int) ≤ y1.2.1 ∧ y1.2.1 ≤ ((p0.cap : Nat) : Int) ∧ ((p0.cap : Nat) : Int) ≤ p0.cap) <|
    L.call Pr z0l [.slice (if Int.toNat ((p0.cap : Nat) : Int) = Int.toNat (0 : Int) then p0.a else Option.map (fun a : Addr => a.add (Int.toNat (0 : Int) * 3)) p0.a) (Int.toNat y1.2.1 - Int.toNat (0 : Int)) (Int.toNat ((p0.cap : Nat) : Int) - Int.toNat (0 : Int)), .func (.func z27) #[] #[.pointer (some (⟨b7, 0, none⟩))]] rB fun (x10 : Bool) =>
    L.ite x10 (
     K (.int .i64 5)) <|
    k3 (IntKind.wrap .i64 (y1.1 + x8), ())) <|
   k3 (IntKind.wrap .i64 (y1.1 + x8), ())) fun z4 =>
  again2 (z4.1, IntKind.wrap .i64 (y1.2.1 + 1), ())) <|
 L.ite (y1.1 != 100) (
  K (.int .i64 4)) <|
 K (.int .i64 0)
theorem zb2 (p0 : Sl) {K : Value → PT} {w : World} (h : z7N p0 K w) : CT Pr z5X [.slice p0.a p0.len p0.cap] K w :=
 C_of (fn := Tryz.f133) (an := zb7) (args := [.v (.slice p0.a p0.len p0.cap)]) (by kernel_rfl) (by kernel_rfl) (by kernel_rfl) h
def z7P (p0 : ByteArray) (K : Value → PT) : PT :=
 L.new [.int .i64 0, .int .i64 0, .int .i64 0, .string s_] z0w fun b1 =>
 L.store (⟨b1, 0, none⟩) [.int .i64 0, .int .i64 4, .int .i64 0, .string p0] <|
 L.load (.agg [.int .i64, .int .i64, .int .i64, .str]) (⟨b1, 0, none⟩) fun (x2 : pt10) =>
 K (.agg #[.int .i64 x2.1, .int .i64 x2.2.1, .int .i64 x2.2.2.1, .string x2.2.2.2.1])
theorem zb4 (p0 : ByteArray) {K : Value → PT} {w : World} (h : z7P p0 K w) : CT Pr z5Z [.string p0] K w :=
 C_of (fn := Tryz.f149) (an := .auto) (args := [.v (.string p0)]) (by kernel_rfl) (by kernel_rfl) (by kernel_rfl) h
def z4v (p0 : Option Addr) (p1 : Int) (p2 : ByteArray) (p3 : ht3) (K : Value → PT) : PT :=
 L.new [.int .i64 p3.1, .int .i64 p3.2.1, .int .i64 p3.2.2.1, .string p3.2.2.2.1] z0w fun b1 =>
 L.new [.int .i64 0, .int .i64 0, .int .i64 0, .string s_] z0w fun b2 =>
 L.store ((⟨b1, 0, none⟩ : Addr).add 0) [.int .i64 p1] <|
 L.draw <|
 L.nonnil p0 fun a3 =>
 L.load (.one (.map)) (a3.add 1) fun (x4 : Option Nat) =>
 L.load eI6 ((⟨b1, 0, none⟩ : Addr).add 1) fun (x5 : Int) =>
 L.semU Pr (Instr.mapUpdate z0y (.map x4) (.int .i64 p1) (.agg #[.string p2, .int .i64 x5])) <|
 L.load (.agg [.int .i64, .int .i64, .int .i64, .str]) (⟨b1, 0, none⟩) fun (x6 : pt10) =>
 L.store (⟨b2, 0, none⟩) [.int .i64 x6.1, .int .i64 x6.2.1, .int .i64 x6.2.2.1, .string x6.2.2.2.1] <|
 L.load (.agg [.int .i64, .int .i64, .int .i64, .str]) (⟨b2, 0, none⟩) fun (x7 : pt10) =>
 K (.agg #[.int .i64 x7.1, .int .i64 x7.2.1, .int .i64 x7.2.2.1, .string x7.2.2.2.1])
theorem z7m (p0 : Option Addr) (p1 : Int) (p2 : ByteArray) (p3 : ht3) {K : Value → PT} {w : World} (h : z4v p0 p1 p2 p3 K w) : CT Pr z3b [.pointer p0, .int .i64 p1, .string p2, (.ag (qc3 p3) : SV).toV] K w :=
 C_of (fn := Tryz.f150) (an := .auto) (args := [.v (.pointer p0), .v (.int .i64 p1), .v (.string p2), .ag (qc3 p3)]) (by kernel_rfl) (by kernel_rfl) (by kernel_rfl) h
def z4t (p0 : Option Addr) (K : Value → PT) : PT :=
 L.nonnil p0 fun a1 =>
 L.load eL6 ((a1.add 0).add 0) fun (x2 : Sl) =>
 K (.int .i64 ((x2.len : Nat) : Int))
theorem z7k (p0 : Option Addr) {K : Value → PT} {w : World} (h : z4t p0 K w) : CT Pr z38 [.pointer p0] K w :=
 C_of (fn := Tryz.f152) (an := .auto) (args := [.v (.pointer p0)]) (by kernel_rfl) (by kernel_rfl) (by kernel_rfl) h
def z4V (p0 : Sl) (K : Value → PT) : PT :=
 L.new [.slice p0.a p0.len p0.cap] z0a fun b1 =>
 K (.func (.func z1k) #[] #[.pointer (some (⟨b1, 0, none⟩))])
theorem z7r (p0 : Sl) {K : Value → PT} {w : World} (h : z4V p0 K w) : CT Pr z4T [.slice p0.a p0.len p0.cap] K w :=
 C_of (fn := Tryz.f155) (an := .auto) (args := [.v (.slice p0.a p0.len p0.cap)]) (by kernel_rfl) (by kernel_rfl) (by kernel_rfl) h
def z12 (p0 : Sl) (K : Value → PT) : PT :=
 L.ite ((p0.a).isNone) (
  K (.slice none 0 0)) <|
 L.new [] z0w fun b1 =>
 L.sem Pr (.one (.one .slice)) (Builtin.append_ #[z0a, z0a] z0a #[.slice (some ⟨b1, 0, none⟩) 0 0, .slice p0.a p0.len p0.cap]) fun (s2 : Sl) =>
 K (.slice s2.a s2.len s2.cap)
theorem z2a (p0 : Sl) {K : Value → PT} {w : World} (h : z12 p0 K w) : CT Pr z0B [.slice p0.a p0.len p0.cap] K w :=
 C_of (fn := Tryz.f159) (an := .auto) (args := [.v (.slice p0.a p0.len p0.cap)]) (by kernel_rfl) (by kernel_rfl) (by kernel_rfl) h
def z1O (p0 : Option Addr) (K : Value → PT) : PT :=
 L.new [.pointer p0] z09 fun b1 =>
 K (.func (.func z0r) #[] #[.pointer (some (⟨b1, 0, none⟩))])
theorem z3n (p0 : Option Addr) {K : Value → PT} {w : World} (h : z1O p0 K w) : CT Pr z1N [.pointer p0] K w :=
 C_of (fn := Tryz.f162) (an := .auto) (args := [.v (.pointer p0)]) (by kernel_rfl) (by kernel_rfl) (by kernel_rfl) h
def z47 (p0 : Option Addr) (p1 : Int) (K : Value → PT) : PT :=
 L.nonnil p0 fun a1 =>
 L.call Pr z36 [.pointer (some (a1.add 0)), .int .i64 p1] rL fun (x2 : Sl) =>
 K (.slice x2.a x2.len x2.cap)
theorem z6x (p0 : Option Addr) (p1 : Int) {K : Value → PT} {w : World} (h : z47 p0 p1 K w) : CT Pr z2I [.pointer p0, .int .i64 p1] K w :=
 C_of (fn := Tryz.f163) (an := .auto) (args := [.v (.pointer p0), .v (.int .i64 p1)]) (by kernel_rfl) (by kernel_rfl) (by kernel_rfl) h
def z2P (p0 : Option Addr) (p1 : Int) (K : Value → PT) : PT :=
 L.draw <|
 L.nonnil p0 fun a1 =>
 L.load eI6 (a1.add 60) fun (x2 : Int) =>
 L.guard (60 ≠ (0 : Int)) <|
 L.nonnil p0 fun a3 =>
 L.idx (some (a3.add 0)) (Int.tmod x2 60) 60 1 fun a4 =>
 L.store a4 [.int .i64 p1] <|
 L.nonnil p0 fun a5 =>
 L.load eI6 (a5.add 60) fun (x6 : Int) =>
 L.nonnil p0 fun a7 =>
 L.store (a7.add 60) [.int .i64 (IntKind.wrap .i64 (x6 + 1))] <|
 K (.tuple #[])
theorem z4O (p0 : Option Addr) (p1 : Int) {K : Value → PT} {w : World} (h : z2P p0 p1 K w) : CT Pr z1U [.pointer p0, .int .i64 p1] K w :=
 C_of (fn := Tryz.f164) (an := .auto) (args := [.v (.pointer p0), .v (.int .i64 p1)]) (by kernel_rfl) (by kernel_rfl) (by kernel_rfl) h
def z7g (p0 : ByteArray) (p1 : Int) (K : Value → PT) : PT :=
 L.call Pr z1G [.string p0] rB fun (x1 : Bool) =>
 L.ite (!x1) (
  K (.string s_)) <|
 L.ite (decide (p1 < 1)) (
  K (.string s_)) <|
 L.ite (decide (p1 > 999999)) (
  K (.string s_)) <|
 L.guard (((p0.size + s__.size : Nat) : Int) ≤ maxI64) <|
 L.call Pr z1W [.int .i64 p1] rS fun (x2 : ByteArray) =>
 L.guard ((((p0 ++ s__).size + x2.size : Nat) : Int) ≤ maxI64) <|
 K (.string ((p0 ++ s__) ++ x2))
theorem z9U (p0 : ByteArray) (p1 : Int) {K : Value → PT} {w : World} (h : z7g p0 p1 K w) : CT Pr z55 [.string p0, .int .i64 p1] K w :=
 C_of (fn := Tryz.f166) (an := .auto) (args := [.v (.string p0), .v (.int .i64 p1)]) (by kernel_rfl) (by kernel_rfl) (by kernel_rfl) h
def z3h (p0 : Option Addr) (K : Value → PT) : PT :=
 L.new [.pointer p0] z1m fun b1 =>
 K (.func (.func z0S) #[] #[.pointer (some (⟨b1, 0, none⟩))])
theorem z5e (p0 : Option Addr) {K : Value → PT} {w : World} (h : z3h p0 K w) : CT Pr z1b [.pointer p0] K w :=
 C_of (fn := Tryz.f186) (an := .auto) (args := [.v (.pointer p0)]) (by kernel_rfl) (by kernel_rfl) (by kernel_rfl) h
def z2t (p0 : FV) (K : Value → PT) : PT :=
 L.call Pr z2c [.func p0.fn p0.fs p0.cs] rL fun (x1 : Sl) =>
 L.call Pr z1F [.slice x1.a x1.len x1.cap] (.tup []) fun (x2 : Unit) =>
 K (.slice x1.a x1.len x1.cap)
theorem z4f (p0 : FV) {K : Value → PT} {w : World} (h : z2t p0 K w) : CT Pr z0I [.func p0.fn p0.fs p0.cs] K w :=
 C_of (fn := Tryz.f192) (an := .auto) (args := [.v (.func p0.fn p0.fs p0.cs)]) (by kernel_rfl) (by kernel_rfl) (by kernel_rfl) h
def z0n (p0 : Option Nat) (K : Value → PT) : PT :=
 L.new [.map p0] z0u fun b1 =>
 K (.func (.func z02) #[] #[.pointer (some (⟨b1, 0, none⟩))])
theorem z0T (p0 : Option Nat) {K : Value → PT} {w : World} (h : z0n p0 K w) : CT Pr z0m [.map p0] K w :=
 C_of (fn := Tryz.f193) (an := .auto) (args := [.v (.map p0)]) (by kernel_rfl) (by kernel_rfl) (by kernel_rfl) h
def z6p (p0 : Int) (K : Value → PT) : PT :=
 L.call Pr z2C [.int .i32 p0] rB fun (x1 : Bool) =>
 L.ite x1 (
  K (.bool true)) <|
 L.ite (decide (p0 ≥ 48)) (
  L.ite (decide (p0 ≤ 57)) (
   K (.bool true)) <|
  K (.bool (p0 == 45))) <|
 K (.bool (p0 == 45))
theorem z9o (p0 : Int) {K : Value → PT} {w : World} (h : z6p p0 K w) : CT Pr z4l [.int .i32 p0] K w :=
 C_of (fn := Tryz.f203) (an := .auto) (args := [.v (.int .i32 p0)]) (by kernel_rfl) (by kernel_rfl) (by kernel_rfl) h
def z4W (p0 : Int) (K : Value → PT) : PT :=
 L.ite (decide (p0 ≥ 97)) (
  K (.bool (decide (p0 ≤ 122)))) <|
 K (.bool false)
theorem z7s (p0 : Int) {K : Value → PT} {w : World} (h : z4W p0 K w) : CT Pr z2C [.int .i32 p0] K w :=
 C_of (fn := Tryz.f204) (an := .auto) (args := [.v (.int .i32 p0)]) (by kernel_rfl) (by kernel_rfl) (by kernel_rfl) h
def z0D (p0 : Sl) (p1 : FV) (K : Value → PT) : PT :=
 L.call Pr z0L [.slice p0.a p0.len p0.cap, .func p1.fn p1.fs p1.cs] rI fun (x1 : Int) =>
 K (.bool (decide (x1 ≥ 0)))
theorem z1j (p0 : Sl) (p1 : FV) {K : Value → PT} {w : World} (h : z0D p0 p1 K w) : CT Pr z0l [.slice p0.a p0.len p0.cap, .func p1.fn p1.fs p1.cs] K w :=
 C_of (fn := Tryz.f205) (an := .auto) (args := [.v (.slice p0.a p0.len p0.cap), .v (.func p1.fn p1.fs p1.cs)]) (by kernel_rfl) (by kernel_rfl) (by kernel_rfl) h
def z6n (p0 : HT [.str, .str, .int .i64]) (c0 : Addr) (K : Value → PT) : PT :=
 L.new [.string p0.1, .string p0.2.1, .int .i64 p0.2.2.1] z0k fun b1 =>
 L.load eS6 ((⟨b1, 0, none⟩ : Addr).add 1) fun (x2 : ByteArray) =>
 L.load eS6 (c0.add 1) fun (x3 : ByteArray) =>
 K (.bool (x2.toList == x3.toList))
theorem z9m (p0 : HT [.str, .str, .int .i64]) (c0 : Addr) {K : Value → PT} {w : World} (h : z6n p0 c0 K w) : CT Pr z27 [(.ag [.string p0.1, .string p0.2.1, .int .i64 p0.2.2.1] : SV).toV, .pointer (some c0)] K w :=
 C_of (fn := Tryz.f206) (an := .auto) (args := [.ag [.string p0.1, .string p0.2.1, .int .i64 p0.2.2.1], .v (.pointer (some c0))]) (by kernel_rfl) (by kernel_rfl) (by kernel_rfl) h
theorem z9k : Enters Pr z27 := z1I (by kernel_rfl)
def z6E : Ann := (.seq .auto (.one [(7, (.one (.int .i64)))] .auto) none)
def z49 (p0 : FV) (c0 : Addr) (K : Value → PT) : PT :=
 L.load eL6 c0 fun (x1 : Sl) =>
 L.loop (Y := Int × Unit) (0, ()) fun y2 again3 =>
 L.ite (decide (y2.1 < ((x1.len : Nat) : Int))) (
  L.idx x1.a y2.1 x1.len 4 fun a4 =>
  L.load (.agg [.int .i64, .int .i64, .int .i64, .str]) a4 fun (x5 : pt10) =>
  L.new [.int .i64 0, .int .i64 0, .int .i64 0, .string s_] z0w fun b6 =>
  L.store (⟨b6, 0, none⟩) [.int .i64 x5.1, .int .i64 x5.2.1, .int .i64 x5.2.2.1, .string x5.2.2.2.1] <|
  L.load (.agg [.int .i64, .int .i64, .int .i64, .str]) (⟨b6, 0, none⟩) fun (x7 : pt10) =>
  L.call Pr z3R [.agg #[.int .i64 x7.1, .int .i64 x7.2.1, .int .i64 x7.2.2.1, .string x7.2.2.2.1]] rS fun (x8 : ByteArray) =>
  L.callV Pr (.func p0.fn p0.fs p0.cs) [.string x8] rB fun (x9 : Bool) =>
  L.ite (!x9) (
   K (.tuple #[])) <|
  again3 (IntKind.wrap .i64 (y2.1 + 1), ())) <|
 K (.tuple #[])
theorem z6z (p0 : FV) (c0 : Addr) {K : Value → PT} {w : World} (h : z49 p0 c0 K w) : CT Pr z1k [.func p0.fn p0.fs p0.cs, .pointer (some c0)] K w :=
 C_of (fn := Tryz.f216) (an := z6E) (args := [.v (.func p0.fn p0.fs p0.cs), .v (.pointer (some c0))]) (by kernel_rfl) (by kernel_rfl) (by kernel_rfl) h
theorem z6w : Enters Pr z1k := z1I (by kernel_rfl)
def z8u : Ann := (.seq .auto (.seq .auto (.seq (.one [(2, (.one (.str)))] .auto) .auto none) none) none)
def z5H (p0 : ht3) (K : Value → PT) : PT :=
 L.new [.int .i64 p0.1, .int .i64 p0.2.1, .int .i64 p0.2.2.1, .string p0.2.2.2.1] z0w fun b1 =>
 L.load eI6 ((⟨b1, 0, none⟩ : Addr).add 1) fun (x2 : Int) =>
 L.ite (x2 == 1) (
  L.load eI6 ((⟨b1, 0, none⟩ : Addr).add 0) fun (x3 : Int) =>
  L.load eI6 ((⟨b1, 0, none⟩ : Addr).add 2) fun (x4 : Int) =>
  L.new [.int .i64 x3, .int .i64 x4] z0g fun b5 =>
  L.call Pr z0h [.string zd6, .slice (some ⟨b5, 0, none⟩) 2 2] rS fun (x6 : ByteArray) =>
  K (.string x6)) <|
 L.ite (x2 == 2) (
  L.load eI6 ((⟨b1, 0, none⟩ : Addr).add 0) fun (x7 : Int) =>
  L.new [.int .i64 x7] z0g fun b8 =>
  L.call Pr z0h [.string zbo, .slice (some ⟨b8, 0, none⟩) 1 1] rS fun (x9 : ByteArray) =>
  K (.string x9)) <|
 L.ite (x2 == 3) (
  L.load eI6 ((⟨b1, 0, none⟩ : Addr).add 0) fun (x10 : Int) =>
  L.new [.int .i64 x10] z0g fun b11 =>
  L.call Pr z0h [.string zdd, .slice (some ⟨b11, 0, none⟩) 1 1] rS fun (x12 : ByteArray) =>
  K (.string x12)) <|
 L.join (Y := ByteArray × Unit) (fun k13 =>
  L.draw <|
  L.load eI6 ((⟨b1, 0, none⟩ : Addr).add 0) fun (x15 : Int) =>
  L.load eS6 ((⟨b1, 0, none⟩ : Addr).add 3) fun (x16 : ByteArray) =>
  L.alts [(
    L.new [.int .i64 x15] z0g fun b17 =>
    L.chk ((⟨b1, 0, none⟩ : Addr).add 3) [.string x16] <|
    L.alts [(
      L.call Pr z0h [.string s_refused, .slice (some ⟨b17, 0, none⟩) 1 1] rS fun (x18 : ByteArray) =>
      L.chk ((⟨b1, 0, none⟩ : Addr).add 3) [.string x16] <|
      L.new [.string x16] z05 fun b19 =>
      L.chk ((⟨b1, 0, none⟩ : Addr).add 0) [.int .i64 x15] <|
      L.call Pr z0q [.string x18, .slice (some ⟨b19, 0, none⟩) 1 1] rS fun (x20 : ByteArray) =>
      k13 (x20, ())),(
      L.new [.string x16] z05 fun b21 =>
      L.chk ((⟨b1, 0, none⟩ : Addr).add 0) [.int .i64 x15] <|
      L.call Pr z0h [.string s_refused, .slice (some ⟨b17, 0, none⟩) 1 1] rS fun (x22 : ByteArray) =>
      L.chk ((⟨b1, 0, none⟩ : Addr).add 3) [.string x16] <|
      L.call Pr z0q [.string x22, .slice (some ⟨b21, 0, none⟩) 1 1] rS fun (x23 : ByteArray) =>
      k13 (x23, ()))]),(
    L.new [.string x16] z05 fun b24 =>
    L.chk ((⟨b1, 0, none⟩ : Addr).add 0) [.int .i64 x15] <|
    L.new [.int .i64 x15] z0g fun b25 =>
    L.chk ((⟨b1, 0, none⟩ : Addr).add 3) [.string x16] <|
    L.call Pr z0h [.string s_refused, .slice (some ⟨b25, 0, none⟩) 1 1] rS fun (x26 : ByteArray) =>
    L.chk ((⟨b1, 0, none⟩ : Addr).add 3) [.string x16] <|
    L.call Pr z0q [.string x26, .slice (some ⟨b24, 0, none⟩) 1 1] rS fun (x27 : ByteArray) =>
    k13 (x27, ()))]) fun z14 =>
 K (.string z14.1)
theorem z8m (p0 : ht3) {K : Value → PT} {w : World} (h : z5H p0 K w) : CT Pr z3R [(.ag (qc3 p0) : SV).toV] K w :=
 C_of (fn := Tryz.f217) (an := z8u) (args := [.ag (qc3 p0)]) (by kernel_rfl) (by kernel_rfl) (by kernel_rfl) h
def z30 : Ann := (.seq .auto (.one [(12, (.one (.int .i64)))] .auto) none)
def z1w (p0 : FV) (c0 : Addr) (K : Value → PT) : PT :=
 L.load eP6 c0 fun (x1 : Option Addr) =>
 L.nonnil x1 fun a2 =>
 L.load (.one (.map)) (a2.add 0) fun (x3 : Option Nat) =>
 L.call Pr z0f [.map x3] (.one (.one (.func))) fun (x4 : FV) =>
 L.call Pr z0I [.func x4.fn x4.fs x4.cs] rL fun (x5 : Sl) =>
 L.loop (Y := Int × Unit) (0, ()) fun y6 again7 =>
 L.ite (decide (y6.1 < ((x5.len : Nat) : Int))) (
  L.idx x5.a y6.1 x5.len 1 fun a8 =>
  L.load eS6 a8 fun (x9 : ByteArray) =>
  L.load eP6 c0 fun (x10 : Option Addr) =>
  L.nonnil x10 fun a11 =>
  L.load (.one (.map)) (a11.add 0) fun (x12 : Option Nat) =>
  L.semR Pr rP (Instr.lookup z0i (.map x12) (.string x9) false) fun (x13 : Option Addr) =>
  L.callV Pr (.func p0.fn p0.fs p0.cs) [.string x9, .pointer x13] rB fun (x14 : Bool) =>
  L.ite (!x14) (
   K (.tuple #[])) <|
  again7 (IntKind.wrap .i64 (y6.1 + 1), ())) <|
 K (.tuple #[])
theorem z2Z (p0 : FV) (c0 : Addr) {K : Value → PT} {w : World} (h : z1w p0 c0 K w) : CT Pr z0r [.func p0.fn p0.fs p0.cs, .pointer (some c0)] K w :=
 C_of (fn := Tryz.f221) (an := z30) (args := [.v (.func p0.fn p0.fs p0.cs), .v (.pointer (some c0))]) (by kernel_rfl) (by kernel_rfl) (by kernel_rfl) h
theorem z2X : Enters Pr z0r := z1I (by kernel_rfl)
def z0v (p0 : Option Nat) (K : Value → PT) : PT :=
 L.new [.map p0] z0i fun b1 =>
 K (.func (.func z03) #[] #[.pointer (some (⟨b1, 0, none⟩))])
theorem z13 (p0 : Option Nat) {K : Value → PT} {w : World} (h : z0v p0 K w) : CT Pr z0f [.map p0] K w :=
 C_of (fn := Tryz.f222) (an := .auto) (args := [.v (.map p0)]) (by kernel_rfl) (by kernel_rfl) (by kernel_rfl) h
def z5j : Ann := (.seq .auto (.seq .auto (.seq .auto (.seq (.seq .auto (.seq .auto .auto (some [(11, (.one (.int .i64))), (12, (.one (.int .i64)))])) none) .auto none) none) none) none)
def z3g (p0 : Option Addr) (p1 : Int) (K : Value → PT) : PT :=
 L.new [.int .i64 p1] z0g fun b1 =>
 L.new [.slice none 0 0] z1i fun b2 =>
 L.new [.slice none 0 0] z0K fun b3 =>
 L.call Pr z1b [.pointer p0] (.one (.one (.func))) fun (x4 : FV) =>
 L.range Pr none (.func x4.fn x4.fs x4.cs) [eI6, eI6] (fun l5 (y6 : Int × Int × Unit) R7 =>
  L.begin Pr l5 <|
  L.load eI6 (⟨b1, 0, none⟩) fun (x10 : Int) =>
  L.ite (decide (y6.2.1 ≤ x10)) (
   L.load eL6 (⟨b2, 0, none⟩) fun (x11 : Sl) =>
   L.new [.int .i64 y6.1] z0g fun b12 =>
   L.sem Pr (.one (.one .slice)) (Builtin.append_ #[z1i, z1i] z1i #[.slice x11.a x11.len x11.cap, .slice (some ⟨b12, 0, none⟩) 1 1]) fun (s13 : Sl) =>
   L.store (⟨b2, 0, none⟩) [.slice s13.a s13.len s13.cap] <|
   L.endRound Pr l5 none R7) <|
  L.load eL6 (⟨b3, 0, none⟩) fun (x14 : Sl) =>
  L.new [.int .i64 y6.1, .int .i64 y6.2.1] z19 fun b15 =>
  L.sem Pr (.one (.one .slice)) (Builtin.append_ #[z0K, z0K] z0K #[.slice x14.a x14.len x14.cap, .slice (some ⟨b15, 0, none⟩) 1 1]) fun (s16 : Sl) =>
  L.store (⟨b3, 0, none⟩) [.slice s16.a s16.len s16.cap] <|
  L.endRound Pr l5 none R7) fun d8 j9 =>
 L.jump j9 (
  L.load eL6 (⟨b3, 0, none⟩) fun (x17 : Sl) =>
  L.nonnil p0 fun a18 =>
  L.store (a18.add 0) [.slice x17.a x17.len x17.cap] <|
  L.load eL6 (⟨b2, 0, none⟩) fun (x19 : Sl) =>
  L.call Pr z0x [.slice x19.a x19.len x19.cap] rL fun (x20 : Sl) =>
  L.unmark Pr (d8 ++ []) <|
  K (.slice x20.a x20.len x20.cap)) (
  L.unmark Pr (d8 ++ []) <|
  K (.slice none 0 0)) []
theorem z5d (p0 : Option Addr) (p1 : Int) {K : Value → PT} {w : World} (h : z3g p0 p1 K w) : CT Pr z36 [.pointer p0, .int .i64 p1] K w :=
 C_of (fn := Tryz.f223) (an := z5j) (args := [.v (.pointer p0), .v (.int .i64 p1)]) (by kernel_rfl) (by kernel_rfl) (by kernel_rfl) h
def z4z : Ann := (.seq .auto (.one [(10, (.one (.int .i64)))] .auto) none)
def z2G (p0 : FV) (c0 : Addr) (K : Value → PT) : PT :=
 L.load eP6 c0 fun (x1 : Option Addr) =>
 L.nonnil x1 fun a2 =>
 L.load eL6 (a2.add 0) fun (x3 : Sl) =>
 L.loop (Y := Int × Unit) (0, ()) fun y4 again5 =>
 L.ite (decide (y4.1 < ((x3.len : Nat) : Int))) (
  L.idx x3.a y4.1 x3.len 2 fun a6 =>
  L.load (.agg [.int .i64, .int .i64]) a6 fun (x7 : Int × Int × Unit) =>
  L.new [.int .i64 0, .int .i64 0] z19 fun b8 =>
  L.store (⟨b8, 0, none⟩) [.int .i64 x7.1, .int .i64 x7.2.1] <|
  L.load eI6 ((⟨b8, 0, none⟩ : Addr).add 0) fun (x9 : Int) =>
  L.load eI6 ((⟨b8, 0, none⟩ : Addr).add 1) fun (x10 : Int) =>
  L.callV Pr (.func p0.fn p0.fs p0.cs) [.int .i64 x9, .int .i64 x10] rB fun (x11 : Bool) =>
  L.ite (!x11) (
   K (.tuple #[])) <|
  again5 (IntKind.wrap .i64 (y4.1 + 1), ())) <|
 K (.tuple #[])
theorem z4x (p0 : FV) (c0 : Addr) {K : Value → PT} {w : World} (h : z2G p0 c0 K w) : CT Pr z0S [.func p0.fn p0.fs p0.cs, .pointer (some c0)] K w :=
 C_of (fn := Tryz.f247) (an := z4z) (args := [.v (.func p0.fn p0.fs p0.cs), .v (.pointer (some c0))]) (by kernel_rfl) (by kernel_rfl) (by kernel_rfl) h
theorem z4w : Enters Pr z0S := z1I (by kernel_rfl)
def z2l (p0 : FV) (K : Value → PT) : PT :=
 L.call Pr z0H [.slice none 0 0, .func p0.fn p0.fs p0.cs] rL fun (x1 : Sl) =>
 K (.slice x1.a x1.len x1.cap)
theorem z3Z (p0 : FV) {K : Value → PT} {w : World} (h : z2l p0 K w) : CT Pr z2c [.func p0.fn p0.fs p0.cs] K w :=
 C_of (fn := Tryz.f250) (an := .auto) (args := [.v (.func p0.fn p0.fs p0.cs)]) (by kernel_rfl) (by kernel_rfl) (by kernel_rfl) h
def z0R : Ann := (.seq .auto (.one [] (.seq .auto (.seq (.cond .auto .auto) .auto none) none)) none)
def z0j (p0 : FV) (c0 : Addr) (K : Value → PT) : PT :=
 L.load (.one (.map)) c0 fun (x1 : Option Nat) =>
 L.sem Pr (.one (.one .ptr)) (Instr.range z0u (.map x1)) fun (it2 : Option Addr) =>
 L.loop (Y := Unit) (()) fun y3 again4 =>
 L.next Pr [eS6, (.agg lf5)] (Instr.next (.pointer it2) false T_) (
  K (.tuple #[])) fun (x5 : pt23) =>
 L.sem Pr (.tup [eS6, (.agg lf5)]) (Instr.entry (.pointer it2)) fun (x6 : pt23) =>
 L.callV Pr (.func p0.fn p0.fs p0.cs) [.string x6.1] rB fun (x7 : Bool) =>
 L.ite (!x7) (
  K (.tuple #[])) <|
 again4 (())
theorem z0Q (p0 : FV) (c0 : Addr) {K : Value → PT} {w : World} (h : z0j p0 c0 K w) : CT Pr z02 [.func p0.fn p0.fs p0.cs, .pointer (some c0)] K w :=
 C_of (fn := Tryz.f252) (an := z0R) (args := [.v (.func p0.fn p0.fs p0.cs), .v (.pointer (some c0))]) (by kernel_rfl) (by kernel_rfl) (by kernel_rfl) h
theorem z0P : Enters Pr z02 := z1I (by kernel_rfl)
def z1y : Ann := (.seq .auto (.seq (.seq .auto (.one [(8, (.one (.int .i64)))] .auto) none) .auto none) none)
def z0M (p0 : Sl) (p1 : FV) (K : Value → PT) : PT :=
 L.loop (Y := Int × Unit) (0, ()) fun y1 again2 =>
 L.ite (decide (y1.1 < ((p0.len : Nat) : Int))) (
  L.idx p0.a y1.1 p0.len 3 fun a3 =>
  L.load (.agg [.str, .str, .int .i64]) a3 fun (x4 : pt9) =>
  L.callV Pr (.func p1.fn p1.fs p1.cs) [.agg #[.string x4.1, .string x4.2.1, .int .i64 x4.2.2.1]] rB fun (x5 : Bool) =>
  L.ite x5 (
   K (.int .i64 y1.1)) <|
  again2 (IntKind.wrap .i64 (y1.1 + 1), ())) <|
 K (.int .i64 (-1))
theorem z1x (p0 : Sl) (p1 : FV) {K : Value → PT} {w : World} (h : z0M p0 p1 K w) : CT Pr z0L [.slice p0.a p0.len p0.cap, .func p1.fn p1.fs p1.cs] K w :=
 C_of (fn := Tryz.f257) (an := z1y) (args := [.v (.slice p0.a p0.len p0.cap), .v (.func p1.fn p1.fs p1.cs)]) (by kernel_rfl) (by kernel_rfl) (by kernel_rfl) h
def z10 : Ann := (.seq .auto (.one [] (.seq .auto (.seq (.cond .auto .auto) .auto none) none)) none)
def z0s (p0 : FV) (c0 : Addr) (K : Value → PT) : PT :=
 L.load (.one (.map)) c0 fun (x1 : Option Nat) =>
 L.sem Pr (.one (.one .ptr)) (Instr.range z0i (.map x1)) fun (it2 : Option Addr) =>
 L.loop (Y := Unit) (()) fun y3 again4 =>
 L.next Pr [eS6, eP6] (Instr.next (.pointer it2) false T_) (
  K (.tuple #[])) fun (x5 : ByteArray × Option Addr × Unit) =>
 L.sem Pr (.tup [eS6, eP6]) (Instr.entry (.pointer it2)) fun (x6 : ByteArray × Option Addr × Unit) =>
 L.callV Pr (.func p0.fn p0.fs p0.cs) [.string x6.1] rB fun (x7 : Bool) =>
 L.ite (!x7) (
  K (.tuple #[])) <|
 again4 (())
theorem z0Z (p0 : FV) (c0 : Addr) {K : Value → PT} {w : World} (h : z0s p0 c0 K w) : CT Pr z03 [.func p0.fn p0.fs p0.cs, .pointer (some c0)] K w :=
 C_of (fn := Tryz.f268) (an := z10) (args := [.v (.func p0.fn p0.fs p0.cs), .v (.pointer (some c0))]) (by kernel_rfl) (by kernel_rfl) (by kernel_rfl) h
theorem z0Y : Enters Pr z03 := z1I (by kernel_rfl)
def z2r : Ann := (.seq .auto (.seq (.seq .auto (.seq .auto .auto (some [(7, (.one (.str)))])) none) .auto none) none)
def z18 (p0 : Sl) (p1 : FV) (K : Value → PT) : PT :=
 L.new [.slice p0.a p0.len p0.cap] z0b fun b1 =>
 L.range Pr none (.func p1.fn p1.fs p1.cs) [eS6] (fun l2 (y3 : ByteArray × Unit) R4 =>
  L.begin Pr l2 <|
  L.load eL6 (⟨b1, 0, none⟩) fun (x7 : Sl) =>
  L.new [.string y3.1] z05 fun b8 =>
  L.sem Pr (.one (.one .slice)) (Builtin.append_ #[z0b, z0b] z0b #[.slice x7.a x7.len x7.cap, .slice (some ⟨b8, 0, none⟩) 1 1]) fun (s9 : Sl) =>
  L.store (⟨b1, 0, none⟩) [.slice s9.a s9.len s9.cap] <|
  L.endRound Pr l2 none R4) fun d5 j6 =>
 L.jump j6 (
  L.load eL6 (⟨b1, 0, none⟩) fun (x10 : Sl) =>
  L.unmark Pr (d5 ++ []) <|
  K (.slice x10.a x10.len x10.cap)) (
  L.unmark Pr (d5 ++ []) <|
  K (.slice none 0 0)) []
theorem z2q (p0 : Sl) (p1 : FV) {K : Value → PT} {w : World} (h : z18 p0 p1 K w) : CT Pr z0H [.slice p0.a p0.len p0.cap, .func p1.fn p1.fs p1.cs] K w :=
 C_of (fn := Tryz.f283) (an := z2r) (args := [.v (.slice p0.a p0.len p0.cap), .v (.func p1.fn p1.fs p1.cs)]) (by kernel_rfl) (by kernel_rfl) (by kernel_rfl) h
end Go.Proofs.YtkmalcoocklikaaGreatDoor
