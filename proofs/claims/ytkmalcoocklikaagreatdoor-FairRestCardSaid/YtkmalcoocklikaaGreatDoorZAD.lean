/- What is proved on the way to a statement of the seat, pressed (text AD). No conditions beyond those its theorems state. -/
import Derived.Test.YtkmalcoocklikaaGreatDoorZAC
import Derived.Test.YtkmalcoocklikaaGreatDoorProg
set_option linter.all false
namespace Go.Proofs.YtkmalcoocklikaaGreatDoor
set_option maxRecDepth 100000
open Go.Dm
abbrev ht0 := HT [.str, .int .i64, .int .i64, .int .i64, .int .i64, .int .i64]
abbrev ht1 := HT [.int .i64, .str, .str, .int .i64, .int .i64, .str, .int .i64, .int .i64, .int .i64, .int .i64, .int .i64, .str, .str, .slice, .int .i64]
abbrev ht2 := HT [.str, .str, .slice, .int .i64]
abbrev ht3 := HT [.int .i64, .int .i64, .int .i64, .str]
abbrev qc0 (p : ht0) : List Value := [.string p.1, .int .i64 p.2.1, .int .i64 p.2.2.1, .int .i64 p.2.2.2.1, .int .i64 p.2.2.2.2.1, .int .i64 p.2.2.2.2.2.1]
abbrev qc1 (p : ht1) : List Value := [.int .i64 p.1, .string p.2.1, .string p.2.2.1, .int .i64 p.2.2.2.1, .int .i64 p.2.2.2.2.1, .string p.2.2.2.2.2.1, .int .i64 p.2.2.2.2.2.2.1, .int .i64 p.2.2.2.2.2.2.2.1, .int .i64 p.2.2.2.2.2.2.2.2.1, .int .i64 p.2.2.2.2.2.2.2.2.2.1, .int .i64 p.2.2.2.2.2.2.2.2.2.2.1, .string p.2.2.2.2.2.2.2.2.2.2.2.1, .string p.2.2.2.2.2.2.2.2.2.2.2.2.1, .slice p.2.2.2.2.2.2.2.2.2.2.2.2.2.1.a p.2.2.2.2.2.2.2.2.2.2.2.2.2.1.len p.2.2.2.2.2.2.2.2.2.2.2.2.2.1.cap, .int .i64 p.2.2.2.2.2.2.2.2.2.2.2.2.2.2.1]
abbrev qc2 (p : ht2) : List Value := [.string p.1, .string p.2.1, .slice p.2.2.1.a p.2.2.1.len p.2.2.1.cap, .int .i64 p.2.2.2.1]
abbrev qc3 (p : ht3) : List Value := [.int .i64 p.1, .int .i64 p.2.1, .int .i64 p.2.2.1, .string p.2.2.2.1]
abbrev CT (P : Program) (f : FuncId) (a : List Value) (K : Value → PT) (w : World) : Prop := Calls P f a.toArray w fun e w2 => ∃ v, e = .returned v ∧ K v w2
abbrev pt0 := ByteArray × Int × Int × Int × Int × Int × Unit
abbrev pt1 := Int × ByteArray × ByteArray × Int × Int × ByteArray × Int × Int × Int × Int × Int × ByteArray × ByteArray × Sl × Int × Unit
abbrev pt2 := (Bool × Bool × Bool × Bool × Bool × Bool × Unit) × Bool × Unit
abbrev pt3 := ByteArray × ByteArray × Sl × Int × Unit
abbrev pt4 := (ByteArray × Int × Int × Int × Int × Int × Unit) × Int × Int × Bool × Unit
abbrev pt6 := (ByteArray × Int × ByteArray × Int × Int × Int × Int × Int × Unit) × Bool × Unit
abbrev pt7 := Int × (ByteArray × Int × Unit) × Unit
abbrev pt8 := Bool × Bool × Bool × Bool × Bool × Bool × Unit
abbrev pt9 := ByteArray × ByteArray × Int × Unit
abbrev pt10 := Int × Int × Int × ByteArray × Unit
abbrev pt11 := (Int × Int × Int × ByteArray × Unit) × Bool × Unit
abbrev pt12 := (ByteArray × Option Addr × Unit) × Bool × Unit
abbrev pt13 := (ByteArray × Int × Int × Int × Int × Int × Int × Int × Bool × Unit) × Bool × Unit
abbrev pt14 := ByteArray × Int × ByteArray × Int × Int × Int × Int × Int × Unit
abbrev pt18 := Int × Option (TypeId × Value) × Unit
abbrev pt19 := ByteArray × Int × Int × Int × Int × Int × Int × Int × Bool × Unit
abbrev pt22 := Int × (ByteArray × Option Addr × Unit) × Unit
abbrev pt23 := ByteArray × (ByteArray × Int × ByteArray × Int × Int × Int × Int × Int × Unit) × Unit
abbrev lf0 : List Lf := [.str, .int .i64, .int .i64, .int .i64, .int .i64, .int .i64]
abbrev lf1 : List Lf := [.int .i64, .str, .str, .int .i64, .int .i64, .str, .int .i64, .int .i64, .int .i64, .int .i64, .int .i64, .str, .str, .slice, .int .i64]
abbrev lf2 : List Lf := [.ptr, .ptr, .ptr, .ptr, .ptr, .map, .int .i64]
abbrev lf3 : List Lf := [.int .i64, .ptr, .ptr, .ptr, .ptr, .ptr, .slice]
abbrev lf4 : List Lf := [.bool, .bool, .bool, .bool, .bool, .bool]
abbrev lf5 : List Lf := [.str, .int .i64, .str, .int .i64, .int .i64, .int .i64, .int .i64, .int .i64]
abbrev lf6 : List Lf := [.ptr, .map, .map, .func, .int .i64, .int .i64]
abbrev lf7 : List Lf := [.ptr, .int .i64, .int .i64, .slice, .slice, .slice]
abbrev lf8 : List Lf := [.int .i64, .int .i64, .int .i64, .int .i64, .int .i64, .int .i64, .int .i64, .int .i64, .int .i64, .int .i64, .int .i64, .int .i64, .int .i64, .int .i64, .int .i64, .int .i64, .int .i64, .int .i64, .int .i64, .int .i64, .int .i64, .int .i64, .int .i64, .int .i64, .int .i64, .int .i64, .int .i64, .int .i64, .int .i64, .int .i64, .int .i64, .int .i64, .int .i64, .int .i64, .int .i64, .int .i64, .int .i64, .int .i64, .int .i64, .int .i64, .int .i64, .int .i64, .int .i64, .int .i64, .int .i64, .int .i64, .int .i64, .int .i64, .int .i64, .int .i64, .int .i64, .int .i64, .int .i64, .int .i64, .int .i64, .int .i64, .int .i64, .int .i64, .int .i64, .int .i64]
abbrev lf9 : List Lf := [.int .i64, .int .i64, .int .i64, .int .i64, .int .i64, .int .i64, .int .i64, .int .i64, .int .i64, .int .i64, .int .i64, .int .i64, .int .i64, .int .i64, .int .i64, .int .i64, .int .i64, .int .i64, .int .i64, .int .i64, .int .i64, .int .i64, .int .i64, .int .i64, .int .i64, .int .i64, .int .i64, .int .i64, .int .i64, .int .i64, .int .i64, .int .i64, .int .i64, .int .i64, .int .i64, .int .i64, .int .i64, .int .i64, .int .i64, .int .i64, .int .i64, .int .i64, .int .i64, .int .i64, .int .i64, .int .i64, .int .i64, .int .i64, .int .i64, .int .i64, .int .i64, .int .i64, .int .i64, .int .i64, .int .i64, .int .i64, .int .i64, .int .i64, .int .i64, .int .i64, .int .i64]
abbrev lf10 : List Lf := [.int .i64, .int .i64, .int .i64, .int .i64, .int .i64, .int .i64, .int .i64, .int .i64, .int .i64, .int .i64, .int .i64, .int .i64, .int .i64, .int .i64, .int .i64, .int .i64, .int .i64, .int .i64, .int .i64, .int .i64, .int .i64, .int .i64, .int .i64, .int .i64, .int .i64, .int .i64, .int .i64, .int .i64, .int .i64, .int .i64, .int .i64, .int .i64, .int .i64, .int .i64, .int .i64, .int .i64, .int .i64, .int .i64, .int .i64, .int .i64, .int .i64, .int .i64, .int .i64, .int .i64, .int .i64, .int .i64, .int .i64, .int .i64, .int .i64, .int .i64, .int .i64, .int .i64, .int .i64, .int .i64, .int .i64, .int .i64, .int .i64, .int .i64, .int .i64, .int .i64, .int .i64, .int .i64]
abbrev lf11 : List Lf := [.str, .int .i64, .int .i64, .int .i64, .int .i64, .int .i64, .int .i64, .int .i64, .bool]
abbrev lf12 : List Lf := [.str, .str, .slice, .int .i64, .int .i64, .int .i64, .bool]
abbrev lf13 : List Lf := [.slice, .slice, .int .i64, .int .i64, .slice, .slice]
abbrev lf14 : List Lf := [.int .u8, .int .u8, .int .u8, .int .u8, .int .u8, .int .u8, .int .u8, .int .u8, .int .u8, .int .u8, .int .u8, .int .u8, .int .u8, .int .u8, .int .u8, .int .u8, .int .u8, .int .u8, .int .u8, .int .u8, .int .u8, .int .u8, .int .u8, .int .u8]
abbrev lf15 : List Lf := [.int .u64, .int .u64, .int .u64, .int .u64, .int .u64, .int .u64, .int .u64, .int .u64, .int .u64, .int .u64, .int .u64, .int .u64, .int .u64, .int .u64, .int .u64, .int .u64, .int .u64, .int .u64, .int .u64, .int .u64]
abbrev lf16 : List Lf := [.int .u8, .int .u8, .int .u8, .int .u8, .int .u8, .int .u8, .int .u8, .int .u8, .int .u8, .int .u8, .int .u8, .int .u8, .int .u8, .int .u8, .int .u8, .int .u8, .int .u8, .int .u8, .int .u8, .int .u8, .int .u8, .int .u8, .int .u8, .int .u8, .int .u8, .int .u8, .int .u8, .int .u8, .int .u8, .int .u8, .int .u8, .int .u8, .int .u8, .int .u8, .int .u8, .int .u8, .int .u8, .int .u8, .int .u8, .int .u8, .int .u8, .int .u8, .int .u8, .int .u8, .int .u8, .int .u8, .int .u8, .int .u8, .int .u8, .int .u8, .int .u8, .int .u8, .int .u8, .int .u8, .int .u8, .int .u8, .int .u8, .int .u8, .int .u8, .int .u8, .int .u8, .int .u8, .int .u8, .int .u8, .int .u8]
abbrev lf17 : List Lf := [.int .u8, .int .u8, .int .u8, .int .u8, .int .u8, .int .u8, .int .u8, .int .u8, .int .u8, .int .u8, .int .u8, .int .u8, .int .u8, .int .u8, .int .u8, .int .u8, .int .u8, .int .u8, .int .u8, .int .u8, .int .u8, .int .u8, .int .u8, .int .u8, .int .u8, .int .u8, .int .u8, .int .u8, .int .u8, .int .u8, .int .u8, .int .u8]
abbrev lf18 : List Lf := [.int .u8, .int .u8, .int .u8, .int .u8, .int .u8, .int .u8, .int .u8, .int .u8, .int .u8, .int .u8, .int .u8, .int .u8, .int .u8, .int .u8, .int .u8, .int .u8, .int .u8, .int .u8, .int .u8, .int .u8, .int .u8, .int .u8, .int .u8, .int .u8, .int .u8, .int .u8, .int .u8, .int .u8, .int .u8, .int .u8, .int .u8, .int .u8, .int .u8, .int .u8, .int .u8, .int .u8, .int .u8, .int .u8, .int .u8, .int .u8, .int .u8, .int .u8, .int .u8, .int .u8, .int .u8, .int .u8, .int .u8, .int .u8, .int .u8, .int .u8, .int .u8, .int .u8, .int .u8, .int .u8, .int .u8, .int .u8, .int .u8, .int .u8, .int .u8, .int .u8, .int .u8, .int .u8, .int .u8, .int .u8]
abbrev lf19 : List Lf := [.int .u64, .int .u64, .int .u32, .int .u8, .int .u8, .int .u8, .int .u8, .func, .ptr, .int .i32, .int .i32]
abbrev lf20 : List Lf := [.int .i64, .str, .str, .int .i64, .int .i64, .int .i64, .int .i64, .int .i64, .str, .str, .slice, .int .i64, .int .i64, .int .i64, .bool]
abbrev lf21 : List Lf := [.str, .slice, .slice, .int .i64, .int .i64, .slice, .slice]
abbrev qa0 (p : pt0) : Value := .agg #[.string p.1, .int .i64 p.2.1, .int .i64 p.2.2.1, .int .i64 p.2.2.2.1, .int .i64 p.2.2.2.2.1, .int .i64 p.2.2.2.2.2.1]
abbrev qa1 (p : pt1) : Value := .agg #[.int .i64 p.1, .string p.2.1, .string p.2.2.1, .int .i64 p.2.2.2.1, .int .i64 p.2.2.2.2.1, .string p.2.2.2.2.2.1, .int .i64 p.2.2.2.2.2.2.1, .int .i64 p.2.2.2.2.2.2.2.1, .int .i64 p.2.2.2.2.2.2.2.2.1, .int .i64 p.2.2.2.2.2.2.2.2.2.1, .int .i64 p.2.2.2.2.2.2.2.2.2.2.1, .string p.2.2.2.2.2.2.2.2.2.2.2.1, .string p.2.2.2.2.2.2.2.2.2.2.2.2.1, .slice p.2.2.2.2.2.2.2.2.2.2.2.2.2.1.a p.2.2.2.2.2.2.2.2.2.2.2.2.2.1.len p.2.2.2.2.2.2.2.2.2.2.2.2.2.1.cap, .int .i64 p.2.2.2.2.2.2.2.2.2.2.2.2.2.2.1]
abbrev qa2 (p : pt8) : Value := .agg #[.bool p.1, .bool p.2.1, .bool p.2.2.1, .bool p.2.2.2.1, .bool p.2.2.2.2.1, .bool p.2.2.2.2.2.1]
abbrev qa3 (p : pt14) : Value := .agg #[.string p.1, .int .i64 p.2.1, .string p.2.2.1, .int .i64 p.2.2.2.1, .int .i64 p.2.2.2.2.1, .int .i64 p.2.2.2.2.2.1, .int .i64 p.2.2.2.2.2.2.1, .int .i64 p.2.2.2.2.2.2.2.1]
abbrev qa5 (p : pt19) : Value := .agg #[.string p.1, .int .i64 p.2.1, .int .i64 p.2.2.1, .int .i64 p.2.2.2.1, .int .i64 p.2.2.2.2.1, .int .i64 p.2.2.2.2.2.1, .int .i64 p.2.2.2.2.2.2.1, .int .i64 p.2.2.2.2.2.2.2.1, .bool p.2.2.2.2.2.2.2.2.1]
abbrev eI6 : E1 := .one (.int .i64)
abbrev eS6 : E1 := .one .str
abbrev eL6 : E1 := .one .slice
abbrev eB6 : E1 := .one .bool
abbrev eP6 : E1 := .one .ptr
abbrev rI : RT := .one eI6
abbrev rS : RT := .one eS6
abbrev rL : RT := .one eL6
abbrev rB : RT := .one eB6
abbrev rP : RT := .one eP6
noncomputable abbrev Pr : Program := Tryz.prog
abbrev z4y : Nat := 6
abbrev z0g : Nat := 11
abbrev z2V : Nat := 12
abbrev z1p : Nat := 13
abbrev z1M : Nat := 17
abbrev z65 : Nat := 18
abbrev z3F : Nat := 22
abbrev z1y : Nat := 23
abbrev z3Y : Nat := 24
abbrev z19 : Nat := 25
abbrev z9C : Nat := 26
abbrev z67 : Nat := 28
abbrev z6S : Nat := 30
abbrev z0f : Nat := 31
abbrev z3u : Nat := 32
abbrev z1b : Nat := 33
abbrev z3f : Nat := 34
abbrev z3D : Nat := 35
abbrev z2U : Nat := 36
abbrev z3E : Nat := 37
abbrev z1I : Nat := 38
abbrev z1o : Nat := 39
abbrev z1n : Nat := 40
abbrev z1g : Nat := 41
abbrev z3C : Nat := 42
abbrev z1h : Nat := 43
abbrev z18 : Nat := 44
abbrev z33 : Nat := 45
abbrev z4k : Nat := 46
abbrev z2q : Nat := 48
abbrev z1U : Nat := 49
abbrev z9a : Nat := 50
abbrev z98 : Nat := 51
abbrev z97 : Nat := 52
abbrev zaz : Nat := 53
abbrev zaB : Nat := 54
abbrev z4l : Nat := 58
abbrev z4Z : Nat := 59
abbrev z4R : Nat := 60
abbrev z0I : Nat := 61
abbrev z6R : Nat := 62
abbrev z3S : Nat := 63
abbrev z2D : Nat := 64
abbrev z2E : Nat := 65
abbrev z7J : Nat := 66
abbrev z6o : Nat := 67
abbrev z5m : Nat := 68
abbrev z2C : Nat := 69
abbrev z0C : Nat := 70
abbrev z0j : Nat := 71
abbrev z0r : Nat := 72
abbrev z3L : Nat := 73
abbrev z6l : Nat := 74
abbrev zbZ : Nat := 75
abbrev zd1 : Nat := 76
abbrev z2B : Nat := 77
abbrev z7F : Nat := 78
abbrev z1d : Nat := 81
abbrev z5k : Nat := 85
abbrev z0d : Nat := 86
abbrev z3R : Nat := 88
abbrev z56 : Nat := 89
abbrev z3V : Nat := 90
abbrev z4e : Nat := 91
abbrev z54 : Nat := 92
abbrev z52 : Nat := 95
abbrev z4H : Nat := 96
abbrev z3Q : Nat := 97
abbrev z2u : Nat := 98
abbrev z4d : Nat := 99
abbrev z99 : Nat := 100
abbrev z2j : Nat := 105
abbrev z2l : Nat := 106
abbrev z1R : Nat := 107
abbrev z30 : Nat := 108
abbrev z6n : Nat := 109
abbrev z4h : Nat := 110
abbrev z3X : Nat := 111
abbrev z2e : Nat := 112
abbrev z3h : Nat := 113
abbrev z4c : Nat := 114
abbrev z0J : Nat := 115
abbrev z2k : Nat := 116
abbrev z0Y : Nat := 117
abbrev z1z : Nat := 118
abbrev z1c : Nat := 119
abbrev z2A : Nat := 120
abbrev z0V : Nat := 121
abbrev z2W : Nat := 122
abbrev z2N : Nat := 123
abbrev z66 : Nat := 124
abbrev zax : Nat := 125
abbrev z1r : Nat := 126
abbrev z9B : Nat := 127
abbrev z3t : Nat := 128
abbrev z3j : Nat := 129
abbrev z5l : Nat := 130
abbrev z0T : Nat := 131
abbrev z6O : Nat := 132
abbrev zay : Nat := 133
abbrev z1X : Nat := 138
abbrev z1W : Nat := 139
abbrev zaA : Nat := 149
abbrev z4i : Nat := 150
abbrev z2v : Nat := 151
abbrev z5y : Nat := 152
abbrev z50 : Nat := 153
abbrev z8Q : Nat := 155
abbrev z7G : Nat := 157
abbrev z5x : Nat := 158
abbrev z0U : Nat := 159
abbrev z4I : Nat := 161
abbrev z3z : Nat := 162
abbrev z4Y : Nat := 163
abbrev z3G : Nat := 164
abbrev z1Y : Nat := 165
abbrev z6Q : Nat := 166
abbrev z3k : Nat := 175
abbrev z3i : Nat := 176
abbrev z2m : Nat := 177
abbrev z4g : Nat := 178
abbrev z6m : Nat := 179
abbrev z55 : Nat := 180
abbrev zbY : Nat := 181
abbrev z3W : Nat := 182
abbrev z5A : Nat := 183
abbrev z1T : Nat := 186
abbrev z2n : Nat := 187
abbrev z2z : Nat := 188
abbrev z0Q : Nat := 189
abbrev z1t : Nat := 192
abbrev z0R : Nat := 193
abbrev z25 : Nat := 194
abbrev z24 : Nat := 195
abbrev z23 : Nat := 196
abbrev zaC : Nat := 197
abbrev z22 : Nat := 198
abbrev z7I : Nat := 199
abbrev z1Z : Nat := 200
abbrev z5z : Nat := 201
abbrev z8R : Nat := 202
abbrev z7H : Nat := 203
abbrev z4N : Nat := 204
abbrev z0P : Nat := 205
abbrev z45 : Nat := 206
abbrev z4j : Nat := 214
abbrev z2M : Nat := 216
abbrev z6N : Nat := 217
abbrev z0W : Nat := 221
abbrev z0E : Nat := 222
abbrev z5w : Nat := 223
abbrev z1j : Nat := 234
abbrev z6P : Nat := 235
abbrev z1G : Nat := 247
abbrev z57 : Nat := 248
abbrev z0h : Nat := 249
abbrev z4f : Nat := 250
abbrev z3g : Nat := 251
abbrev z08 : Nat := 252
abbrev z1w : Nat := 257
abbrev z0u : Nat := 264
abbrev z0q : Nat := 265
abbrev z4M : Nat := 266
abbrev z0c : Nat := 268
abbrev z2h : Nat := 282
abbrev z1s : Nat := 283
abbrev z1V : Nat := 295
abbrev z6v : Nat := 296
abbrev z0D : Nat := 312
abbrev z09 : Nat := 313
abbrev z1e : Nat := 320
abbrev z0y : Nat := 322
abbrev T_ : Nat := 0
abbrev z0i : Nat := 3
abbrev z68 : Nat := 4
abbrev z01 : Nat := 9
abbrev z9d : Nat := 20
abbrev z0b : Nat := 23
abbrev z0X : Nat := 24
abbrev z06 : Nat := 27
abbrev z05 : Nat := 33
abbrev z1B : Nat := 34
abbrev z5G : Nat := 37
abbrev z0p : Nat := 39
abbrev z10 : Nat := 42
abbrev z0N : Nat := 45
abbrev z0O : Nat := 69
abbrev z2H : Nat := 70
abbrev z02 : Nat := 74
abbrev z0A : Nat := 78
abbrev z2o : Nat := 79
abbrev z0v : Nat := 81
abbrev z7R : Nat := 83
abbrev z3w : Nat := 86
abbrev z0H : Nat := 89
abbrev z3m : Nat := 92
abbrev zcf : Nat := 122
abbrev z0m : Nat := 143
abbrev z0z : Nat := 147
abbrev z0l : Nat := 175
abbrev z2f : Nat := 183
abbrev z0t : Nat := 184
abbrev zce : Nat := 189
abbrev z12 : Nat := 191
abbrev z2I : Nat := 193
abbrev z0o : Nat := 202
abbrev z5n : Nat := 203
abbrev z9S : Nat := 205
abbrev z9Q : Nat := 213
abbrev z0k : Nat := 215
abbrev z35 : Nat := 217
abbrev zb2 : Nat := 219
abbrev z7T : Nat := 220
abbrev z9R : Nat := 222
abbrev zcd : Nat := 238
abbrev z4J : Nat := 270
abbrev z2J : Nat := 285
abbrev z0a : Nat := 287
abbrev z5F : Nat := 302
abbrev zfZ : Nat := 307
abbrev z7U : Nat := 322
abbrev zjc : Nat := 326
abbrev z1v : Nat := 334
abbrev z5E : Nat := 338
abbrev z2T : Nat := 343
abbrev z7S : Nat := 347
abbrev z0n : Nat := 348
abbrev z0B : Nat := 350
abbrev z49 : Nat := 351
abbrev z2X : Nat := 353
abbrev z3N : Nat := 358
abbrev z07 : Nat := 360
abbrev z0s : Nat := 369
abbrev z27 : Nat := 372
abbrev z4m : Nat := 377
abbrev z2O : Nat := 399
abbrev z0L : Nat := 411
abbrev z04 : Nat := 413
def s_ : ByteArray := ⟨#[]⟩
def zbW : ByteArray := ⟨#[119, 101, 98, 45, 49]⟩
def s_web : ByteArray := ⟨#[119, 101, 98]⟩
def s_tick_1 : ByteArray := ⟨#[116, 105, 99, 107, 32, 49]⟩
def zlc : ByteArray := ⟨#[98, 97, 100]⟩
def s__ : ByteArray := ⟨#[45]⟩
def z9v : ByteArray := ⟨#[32]⟩
def zdz : ByteArray := ⟨#[99, 111, 110, 102, 105, 103]⟩
def zlb : ByteArray := ⟨#[114, 111, 117, 116, 101]⟩
def zit : ByteArray := ⟨#[100, 114, 111, 112, 112, 101, 100]⟩
def s_scale : ByteArray := ⟨#[115, 99, 97, 108, 101]⟩
def s_up : ByteArray := ⟨#[117, 112]⟩
def zbE : ByteArray := ⟨#[112, 114, 111, 118, 101, 100]⟩
def zmn : ByteArray := ⟨#[100, 111, 119, 110]⟩
def ziq : ByteArray := ⟨#[116, 105, 99, 107]⟩
def zkH : ByteArray := ⟨#[115, 97, 109, 101]⟩
def z8q : ByteArray := ⟨#[114, 101, 118, 105, 115, 105, 111, 110]⟩
def zla : ByteArray := ⟨#[116, 97, 98, 108, 101]⟩
def zkL : ByteArray := ⟨#[109, 97, 100, 101]⟩
def zkO : ByteArray := ⟨#[103, 111, 110, 101]⟩
def s_fleet : ByteArray := ⟨#[102, 108, 101, 101, 116]⟩
def s_ok : ByteArray := ⟨#[111, 107]⟩
def zkJ : ByteArray := ⟨#[110, 97, 109, 101]⟩
def zmp : ByteArray := ⟨#[97, 114, 103]⟩
def zkM : ByteArray := ⟨#[108, 111, 110, 103]⟩
def zmm : ByteArray := ⟨#[115, 117, 109]⟩
def zfv : ByteArray := ⟨#[116, 119, 105, 99, 101]⟩
def zkI : ByteArray := ⟨#[110, 111, 110, 101]⟩
def zdy : ByteArray := ⟨#[101, 114, 114, 111, 114]⟩
def zis : ByteArray := ⟨#[115, 116, 97, 108, 101]⟩
def zkP : ByteArray := ⟨#[102, 117, 108, 108]⟩
def zir : ByteArray := ⟨#[115, 116, 97, 116, 101]⟩
def zmo : ByteArray := ⟨#[99, 117, 116]⟩
def zkK : ByteArray := ⟨#[109, 111, 114, 101]⟩
def zkN : ByteArray := ⟨#[107, 105, 110, 100]⟩
def s_refused : ByteArray := ⟨#[114, 101, 102, 117, 115, 101, 100]⟩
def zhc : ByteArray := ⟨#[110, 111, 45, 114, 111, 117, 116, 101]⟩
def zhb : ByteArray := ⟨#[111, 118, 101, 114, 102, 108, 111, 119]⟩
def zha : ByteArray := ⟨#[112, 111, 100, 45, 108, 111, 115, 116]⟩
def s_timeout : ByteArray := ⟨#[116, 105, 109, 101, 111, 117, 116]⟩
def zjI : ByteArray := ⟨#[58]⟩
def zjH : ByteArray := ⟨#[61]⟩
def zkG : ByteArray := ⟨#[115, 101, 110, 116]⟩
def zio : ByteArray := ⟨#[119, 97, 105, 116, 115]⟩
def zkQ : ByteArray := ⟨#[100, 111, 110, 101]⟩
def tq0 : TI := ⟨.func, 1, some (.one (.func)), some [.nilFunc]⟩
def tq1 : TI := ⟨.int .i64, 1, some (.one (.int .i64)), some [.int .i64 0]⟩
def tq2 : TI := ⟨.int .u8, 1, some (.one (.int .u8)), some [.int .u8 0]⟩
def tq3 : TI := ⟨.struct [(2, 0), (3, 1), (4, 2), (6, 3)], 4, some (.agg [.int .i64, .int .i64, .bool, .int .u8]), some [.int .i64 0, .int .i64 0, .bool false, .int .u8 0]⟩
def tq4 : TI := ⟨.str, 1, some (.one (.str)), some [.string s_]⟩
def tq5 : TI := ⟨.int .u64, 1, some (.one (.int .u64)), some [.int .u64 0]⟩
def tq6 : TI := ⟨.struct [(9, 0), (12, 1)], 2, some (.agg [.str, .int .u64]), some [.string s_, .int .u64 0]⟩
def tq7 : TI := ⟨.ptr, 1, some (.one (.ptr)), some [.pointer none]⟩
def tq8 : TI := ⟨.struct [(17, 0)], 1, some (.agg [.ptr]), some [.pointer none]⟩
def tq9 : TI := ⟨.iface, 1, some (.one (.iface)), some [.nilIface]⟩
def tq10 : TI := ⟨.int .i32, 1, some (.one (.int .i32)), some [.int .i32 0]⟩
def tq11 : TI := ⟨.struct [(9, 0), (3, 1), (3, 2), (3, 3), (3, 4), (3, 5)], 6, some (.agg lf0), some [.string s_, .int .i64 0, .int .i64 0, .int .i64 0, .int .i64 0, .int .i64 0]⟩
def tq12 : TI := ⟨.struct [(3, 0), (3, 1)], 2, some (.agg [.int .i64, .int .i64]), some [.int .i64 0, .int .i64 0]⟩
def tq13 : TI := ⟨.struct [(9, 0), (9, 1), (35, 2), (3, 3)], 4, some (.agg [.str, .str, .slice, .int .i64]), some [.string s_, .string s_, .slice none 0 0, .int .i64 0]⟩
def tq14 : TI := ⟨.struct [(3, 0), (9, 1), (9, 2), (3, 3), (3, 4), (23, 5), (37, 11)], 15, some (.agg lf1), some [.int .i64 0, .string s_, .string s_, .int .i64 0, .int .i64 0, .string s_, .int .i64 0, .int .i64 0, .int .i64 0, .int .i64 0, .int .i64 0, .string s_, .string s_, .slice none 0 0, .int .i64 0]⟩
def tq15 : TI := ⟨.struct [(3, 0), (3, 1), (3, 2)], 3, some (.agg [.int .i64, .int .i64, .int .i64]), some [.int .i64 0, .int .i64 0, .int .i64 0]⟩
def tq16 : TI := ⟨.struct [(9, 0), (9, 1), (3, 2)], 3, some (.agg [.str, .str, .int .i64]), some [.string s_, .string s_, .int .i64 0]⟩
def tq17 : TI := ⟨.map 9 86, 1, some (.one (.map)), some [.map none]⟩
def tq18 : TI := ⟨.struct [(75, 0), (76, 1), (77, 2), (78, 3), (79, 4), (81, 5), (3, 6)], 7, some (.agg lf2), some [.pointer none, .pointer none, .pointer none, .pointer none, .pointer none, .map none, .int .i64 0]⟩
def tq19 : TI := ⟨.struct [(90, 0), (89, 1)], 3, some (.agg [.ptr, .int .i64, .int .i64]), some [.pointer none, .int .i64 0, .int .i64 0]⟩
def tq20 : TI := ⟨.struct [(102, 0), (3, 1)], 2, some (.agg [.slice, .int .i64]), some [.slice none 0 0, .int .i64 0]⟩
def tq21 : TI := ⟨.struct [(106, 0), (107, 1)], 2, some (.agg [.slice, .slice]), some [.slice none 0 0, .slice none 0 0]⟩
def tq22 : TI := ⟨.struct [(111, 0)], 1, some (.agg [.slice]), some [.slice none 0 0]⟩
def tq23 : TI := ⟨.struct [(3, 0), (101, 1), (105, 2), (110, 3), (99, 4), (114, 5), (116, 6)], 7, some (.agg lf3), some [.int .i64 0, .pointer none, .pointer none, .pointer none, .pointer none, .pointer none, .slice none 0 0]⟩
def tq24 : TI := ⟨.struct [(4, 0), (4, 1), (4, 2), (4, 3), (4, 4), (4, 5)], 6, some (.agg lf4), some [.bool false, .bool false, .bool false, .bool false, .bool false, .bool false]⟩
def tq25 : TI := ⟨.struct [(3, 0), (3, 1), (3, 2), (9, 3)], 4, some (.agg [.int .i64, .int .i64, .int .i64, .str]), some [.int .i64 0, .int .i64 0, .int .i64 0, .string s_]⟩
def tq26 : TI := ⟨.struct [(166, 0), (167, 1)], 2, some (.agg [.slice, .slice]), some [.slice none 0 0, .slice none 0 0]⟩
def tq27 : TI := ⟨.struct [(9, 0), (3, 1), (23, 2)], 8, some (.agg lf5), some [.string s_, .int .i64 0, .string s_, .int .i64 0, .int .i64 0, .int .i64 0, .int .i64 0, .int .i64 0]⟩
def tq28 : TI := ⟨.struct [(184, 0), (185, 1)], 2, some (.agg [.map, .func]), some [.map none, .nilFunc]⟩
def tq29 : TI := ⟨.struct [(78, 0), (183, 1), (187, 2), (3, 4), (3, 5)], 6, some (.agg lf6), some [.pointer none, .map none, .map none, .nilFunc, .int .i64 0, .int .i64 0]⟩
def tq30 : TI := ⟨.struct [(9, 0), (3, 1)], 2, some (.agg [.str, .int .i64]), some [.string s_, .int .i64 0]⟩
def tq31 : TI := ⟨.struct [(202, 0), (203, 1), (3, 2), (3, 3)], 4, some (.agg [.map, .map, .int .i64, .int .i64]), some [.map none, .map none, .int .i64 0, .int .i64 0]⟩
def tq32 : TI := ⟨.struct [(206, 0), (209, 1), (3, 2)], 3, some (.agg [.ptr, .ptr, .int .i64]), some [.pointer none, .pointer none, .int .i64 0]⟩
def tq33 : TI := ⟨.map 9 175, 1, some (.one (.map)), some [.map none]⟩
def tq34 : TI := ⟨.map 9 4, 1, some (.one (.map)), some [.map none]⟩
def tq35 : TI := ⟨.struct [(215, 0), (217, 1)], 2, some (.agg [.map, .map]), some [.map none, .map none]⟩
def tq36 : TI := ⟨.struct [(220, 0)], 1, some (.agg [.map]), some [.map none]⟩
def tq37 : TI := ⟨.struct [(3, 0), (3, 1), (224, 2)], 3, some (.agg [.int .i64, .int .i64, .slice]), some [.int .i64 0, .int .i64 0, .slice none 0 0]⟩
def tq38 : TI := ⟨.struct [(99, 0), (3, 1), (3, 2), (227, 3), (33, 4), (228, 5)], 6, some (.agg lf7), some [.pointer none, .int .i64 0, .int .i64 0, .slice none 0 0, .slice none 0 0, .slice none 0 0]⟩
def tq39 : TI := ⟨.struct [(241, 0), (85, 1)], 2, some (.agg [.ptr, .slice]), some [.pointer none, .slice none 0 0]⟩
def tq40 : TI := ⟨.struct [(9, 0), (200, 1)], 2, some (.agg [.str, .ptr]), some [.string s_, .pointer none]⟩
def tq41 : TI := ⟨.struct [(281, 0), (3, 60)], 61, some (.agg lf9), some (List.replicate 61 (.int .i64 0))⟩
def tq42 : TI := ⟨.struct [(283, 0), (3, 61)], 62, some (.agg lf10), some (List.replicate 62 (.int .i64 0))⟩
def tq43 : TI := ⟨.struct [(23, 0), (3, 6), (3, 7), (4, 8)], 9, some (.agg lf11), some [.string s_, .int .i64 0, .int .i64 0, .int .i64 0, .int .i64 0, .int .i64 0, .int .i64 0, .int .i64 0, .bool false]⟩
def tq44 : TI := ⟨.struct [(37, 0), (3, 4), (3, 5), (4, 6)], 7, some (.agg lf12), some [.string s_, .string s_, .slice none 0 0, .int .i64 0, .int .i64 0, .int .i64 0, .bool false]⟩
def tq45 : TI := ⟨.struct [(9, 0), (9, 1)], 2, some (.agg [.str, .str]), some [.string s_, .string s_]⟩
def tq46 : TI := ⟨.arr 2 9, 2, some (.agg [.str, .str]), some [.string s_, .string s_]⟩
def tq47 : TI := ⟨.struct [(166, 0), (166, 1), (3, 2), (3, 3), (169, 4)], 6, some (.agg lf13), some [.slice none 0 0, .slice none 0 0, .int .i64 0, .int .i64 0, .slice none 0 0, .slice none 0 0]⟩
def tq48 : TI := ⟨.struct [(334, 0)], 1, some (.agg [.slice]), some [.slice none 0 0]⟩
def tq49 : TI := ⟨.struct [(336, 0), (3, 1)], 2, some (.agg [.slice, .int .i64]), some [.slice none 0 0, .int .i64 0]⟩
def tq50 : TI := ⟨.struct [(343, 0), (3, 1)], 2, some (.agg [.map, .int .i64]), some [.map none, .int .i64 0]⟩
def tq51 : TI := ⟨.struct [(3, 0), (345, 1)], 3, some (.agg [.int .i64, .map, .int .i64]), some [.int .i64 0, .map none, .int .i64 0]⟩
def tq52 : TI := ⟨.struct [(348, 0), (208, 1)], 2, some (.agg [.map, .func]), some [.map none, .nilFunc]⟩
def tq53 : TI := ⟨.struct [(351, 0), (211, 1)], 2, some (.agg [.map, .func]), some [.map none, .nilFunc]⟩
def tq54 : TI := ⟨.struct [(9, 0), (9, 1), (245, 2)], 3, some (.agg [.str, .str, .iface]), some [.string s_, .string s_, .nilIface]⟩
def tq55 : TI := ⟨.struct [(9, 0)], 1, some (.agg [.str]), some [.string s_]⟩
def tq56 : TI := ⟨.struct [(17, 0), (17, 1), (17, 2), (9, 3)], 4, some (.agg [.ptr, .ptr, .ptr, .str]), some [.pointer none, .pointer none, .pointer none, .string s_]⟩
def tq57 : TI := ⟨.struct [(469, 0)], 0, some (.agg []), some []⟩
def tq58 : TI := ⟨.struct [(12, 0), (12, 1), (396, 2), (472, 3), (5, 4), (5, 5), (473, 6), (474, 7), (366, 8), (475, 9), (476, 10)], 11, some (.agg lf19), some [.int .u64 0, .int .u64 0, .int .u32 0, .int .u8 0, .int .u8 0, .int .u8 0, .int .u8 0, .nilFunc, .pointer none, .int .i32 0, .int .i32 0]⟩
def tq59 : TI := ⟨.struct [(3, 0), (9, 1), (23, 2), (37, 8), (3, 12), (3, 13), (4, 14)], 15, some (.agg lf20), some [.int .i64 0, .string s_, .string s_, .int .i64 0, .int .i64 0, .int .i64 0, .int .i64 0, .int .i64 0, .string s_, .string s_, .slice none 0 0, .int .i64 0, .int .i64 0, .int .i64 0, .bool false]⟩
def tq60 : TI := ⟨.struct [(9, 0), (166, 1), (166, 2), (3, 3), (3, 4), (169, 5)], 7, some (.agg lf21), some [.string s_, .slice none 0 0, .slice none 0 0, .int .i64 0, .int .i64 0, .slice none 0 0, .slice none 0 0]⟩
def tq61 : TI := ⟨.struct [(9, 0), (491, 1), (31, 2)], 4, some (.agg [.str, .ptr, .int .i64, .int .i64]), some [.string s_, .pointer none, .int .i64 0, .int .i64 0]⟩
def tq62 : TI := ⟨.struct [(3, 0), (9, 1), (494, 2)], 3, some (.agg [.int .i64, .str, .ptr]), some [.int .i64 0, .string s_, .pointer none]⟩
def tq63 : TI := ⟨.struct [(3, 0), (3, 1), (9, 2)], 3, some (.agg [.int .i64, .int .i64, .str]), some [.int .i64 0, .int .i64 0, .string s_]⟩
def tq64 : TI := ⟨.struct [(3, 0), (499, 1)], 2, some (.agg [.int .i64, .slice]), some [.int .i64 0, .slice none 0 0]⟩
def tq65 : TI := ⟨.struct [(24, 0)], 1, some (.agg [.slice]), some [.slice none 0 0]⟩
def tq66 : TI := ⟨.struct [(3, 0), (3, 1), (24, 2)], 3, some (.agg [.int .i64, .int .i64, .slice]), some [.int .i64 0, .int .i64 0, .slice none 0 0]⟩
def Dt : Tb := ⟨508, 362, (.node ⟨.tuple [], 1, none, none⟩ (.node tq0 (.node tq1 (.node tq3 (.node tq7 (.node tq12 (.node tq0 (.node tq0 (.node tq0 .nil .nil) (.node tq0 .nil .nil)) (.node tq30 (.node tq0 .nil .nil) (.node tq0 .nil .nil))) (.node tq0 (.node ⟨.tuple [23, 3, 3, 4], 1, none, none⟩ (.node tq43 .nil .nil) (.node tq0 .nil .nil)) (.node tq0 (.node ⟨.map 9 292, 1, some (.one (.map)), some [.map none]⟩ .nil .nil) (.node tq0 .nil .nil)))) (.node tq0 (.node tq7 (.node ⟨.slice 147, 1, some (.one (.slice)), some [.slice none 0 0]⟩ (.node ⟨.tuple [270, 4], 1, none, none⟩ .nil .nil) (.node tq7 .nil .nil)) (.node tq0 (.node tq48 .nil .nil) (.node tq55 .nil .nil))) (.node ⟨.slice 482, 1, some (.one (.slice)), some [.slice none 0 0]⟩ (.node tq27 (.node tq0 .nil .nil) (.node tq0 .nil .nil)) (.node tq0 (.node tq0 .nil .nil) (.node tq62 .nil .nil))))) (.node tq11 (.node tq14 (.node tq0 (.node ⟨.tuple [3, 54], 1, none, none⟩ (.node tq0 .nil .nil) (.node tq0 .nil .nil)) (.node tq0 (.node tq0 .nil .nil) (.node tq0 .nil .nil))) (.node tq20 (.node ⟨.slice 307, 1, some (.one (.slice)), some [.slice none 0 0]⟩ (.node ⟨.map 9 3, 1, some (.one (.map)), some [.map none]⟩ .nil .nil) (.node tq0 .nil .nil)) (.node tq0 (.node tq0 .nil .nil) (.node tq59 .nil .nil)))) (.node ⟨.tuple [27, 54], 1, none, none⟩ (.node ⟨.tuple [86, 4], 1, none, none⟩ (.node tq0 (.node tq0 .nil .nil) (.node tq0 .nil .nil)) (.node tq33 (.node ⟨.map 3 4, 1, some (.one (.map)), some [.map none]⟩ .nil .nil) (.node tq57 .nil .nil))) (.node tq0 (.node ⟨.map 3 191, 1, some (.one (.map)), some [.map none]⟩ (.node tq0 .nil .nil) (.node tq0 .nil .nil)) (.node tq0 (.node tq0 .nil .nil) (.node tq65 .nil .nil)))))) (.node tq4 (.node tq8 (.node ⟨.slice 69, 1, some (.one (.slice)), some [.slice none 0 0]⟩ (.node tq0 (.node tq0 (.node tq0 .nil .nil) (.node tq0 .nil .nil)) (.node tq0 (.node tq0 .nil .nil) (.node tq0 .nil .nil))) (.node tq7 (.node tq0 (.node tq44 .nil .nil) (.node tq0 .nil .nil)) (.node ⟨.slice 485, 1, some (.one (.slice)), some [.slice none 0 0]⟩ (.node tq0 .nil .nil) (.node tq7 .nil .nil)))) (.node tq0 (.node tq18 (.node tq25 (.node tq0 .nil .nil) (.node tq0 .nil .nil)) (.node tq0 (.node tq0 .nil .nil) (.node tq56 .nil .nil))) (.node tq0 (.node tq0 (.node tq45 .nil .nil) (.node tq7 .nil .nil)) (.node tq39 (.node tq12 .nil .nil) (.node ⟨.slice 507, 1, some (.one (.slice)), some [.slice none 0 0]⟩ .nil .nil))))) (.node tq7 (.node tq0 (.node tq7 (.node tq0 (.node ⟨.tuple [9, 54], 1, none, none⟩ .nil .nil) (.node tq0 .nil .nil)) (.node ⟨.map 3 3, 1, some (.one (.map)), some [.map none]⟩ (.node tq5 .nil .nil) (.node tq0 .nil .nil))) (.node ⟨.slice 4, 1, some (.one (.slice)), some [.slice none 0 0]⟩ (.node tq0 (.node tq0 .nil .nil) (.node tq0 .nil .nil)) (.node tq0 (.node tq0 .nil .nil) (.node tq7 .nil .nil)))) (.node tq0 (.node tq19 (.node tq0 (.node tq41 .nil .nil) (.node ⟨.slice 413, 1, some (.one (.slice)), some [.slice none 0 0]⟩ .nil .nil)) (.node tq35 (.node tq51 .nil .nil) (.node tq10 .nil .nil))) (.node ⟨.tuple [122, 4], 1, none, none⟩ (.node tq28 (.node tq47 .nil .nil) (.node tq7 .nil .nil)) (.node tq0 (.node tq0 .nil .nil) (.node tq12 .nil .nil))))))) (.node tq2 (.node tq4 (.node tq7 (.node ⟨.slice 9, 1, some (.one (.slice)), some [.slice none 0 0]⟩ (.node tq0 (.node tq0 (.node tq0 .nil .nil) (.node tq0 .nil .nil)) (.node tq7 (.node tq0 .nil .nil) (.node tq0 .nil .nil))) (.node tq0 (.node ⟨.tuple [9, 4], 1, none, none⟩ (.node tq0 .nil .nil) (.node tq0 .nil .nil)) (.node tq37 (.node tq53 .nil .nil) (.node tq7 .nil .nil)))) (.node tq0 (.node tq17 (.node tq0 (.node ⟨.tuple [3, 4], 1, none, none⟩ .nil .nil) (.node tq0 .nil .nil)) (.node tq7 (.node tq49 .nil .nil) (.node ⟨.arr 64 5, 64, some (.agg lf18), some (List.replicate 64 (.int .u8 0))⟩ .nil .nil))) (.node tq22 (.node tq0 (.node tq0 .nil .nil) (.node ⟨.tuple [2, 245], 1, none, none⟩ .nil .nil)) (.node tq7 (.node tq7 .nil .nil) (.node tq63 .nil .nil))))) (.node tq0 (.node tq0 (.node tq0 (.node tq0 (.node tq0 .nil .nil) (.node tq0 .nil .nil)) (.node tq0 (.node tq0 .nil .nil) (.node tq0 .nil .nil))) (.node tq7 (.node tq26 (.node tq0 .nil .nil) (.node tq7 .nil .nil)) (.node tq0 (.node tq0 .nil .nil) (.node tq60 .nil .nil)))) (.node tq7 (.node tq12 (.node tq0 (.node ⟨.arr 60 3, 60, some (.agg lf8), some (List.replicate 60 (.int .i64 0))⟩ .nil .nil) (.node tq0 .nil .nil)) (.node tq34 (.node tq50 .nil .nil) (.node tq2 .nil .nil))) (.node tq24 (.node tq0 (.node tq46 .nil .nil) (.node ⟨.arr 65 5, 65, some (.agg lf16), some (List.replicate 65 (.int .u8 0))⟩ .nil .nil)) (.node tq0 (.node tq7 .nil .nil) (.node tq66 .nil .nil)))))) (.node tq6 (.node tq10 (.node tq13 (.node tq16 (.node tq0 (.node ⟨.tuple [147, 4], 1, none, none⟩ .nil .nil) (.node tq1 .nil .nil)) (.node tq0 (.node tq0 .nil .nil) (.node tq54 .nil .nil))) (.node tq7 (.node tq0 (.node ⟨.tuple [292, 4], 1, none, none⟩ .nil .nil) (.node tq5 .nil .nil)) (.node tq38 (.node tq0 .nil .nil) (.node tq7 .nil .nil)))) (.node ⟨.slice 52, 1, some (.one (.slice)), some [.slice none 0 0]⟩ (.node ⟨.slice 5, 1, some (.one (.slice)), some [.slice none 0 0]⟩ (.node ⟨.tuple [143, 54], 1, none, none⟩ (.node tq0 .nil .nil) (.node tq0 .nil .nil)) (.node tq32 (.node tq0 .nil .nil) (.node ⟨.arr 0 16, 0, some (.agg []), some []⟩ .nil .nil))) (.node tq23 (.node tq0 (.node ⟨.slice 313, 1, some (.one (.slice)), some [.slice none 0 0]⟩ .nil .nil) (.node tq0 .nil .nil)) (.node tq9 (.node tq0 .nil .nil) (.node tq64 .nil .nil))))) (.node tq0 (.node tq15 (.node tq7 (.node tq0 (.node tq40 .nil .nil) (.node tq0 .nil .nil)) (.node tq31 (.node tq0 .nil .nil) (.node tq7 .nil .nil))) (.node tq21 (.node tq0 (.node tq30 .nil .nil) (.node tq0 .nil .nil)) (.node tq12 (.node tq0 .nil .nil) (.node tq61 .nil .nil)))) (.node tq0 (.node tq0 (.node tq0 (.node tq42 .nil .nil) (.node tq12 .nil .nil)) (.node tq36 (.node tq52 .nil .nil) (.node tq58 .nil .nil))) (.node tq0 (.node tq29 (.node tq0 .nil .nil) (.node tq0 .nil .nil)) (.node tq0 (.node tq0 .nil .nil) .nil))))))) (.node tq1 (.node ⟨.bool, 1, some (.one (.bool)), some [.bool false]⟩ (.node tq3 (.node tq7 (.node tq0 (.node tq0 (.node tq0 (.node tq0 .nil .nil) (.node tq0 .nil .nil)) (.node tq0 (.node tq0 .nil .nil) (.node tq0 .nil .nil))) (.node tq0 (.node tq0 (.node ⟨.tuple [287, 4], 1, none, none⟩ .nil .nil) (.node tq7 .nil .nil)) (.node ⟨.slice 484, 1, some (.one (.slice)), some [.slice none 0 0]⟩ (.node tq53 .nil .nil) (.node tq0 .nil .nil)))) (.node tq0 (.node tq17 (.node tq0 (.node tq0 .nil .nil) (.node tq0 .nil .nil)) (.node tq0 (.node tq48 .nil .nil) (.node ⟨.arr 32 5, 32, some (.agg lf17), some (List.replicate 32 (.int .u8 0))⟩ .nil .nil))) (.node tq22 (.node ⟨.tuple [175, 4], 1, none, none⟩ (.node tq0 .nil .nil) (.node tq1 .nil .nil)) (.node tq0 (.node ⟨.tuple [191, 4], 1, none, none⟩ .nil .nil) (.node tq62 .nil .nil))))) (.node ⟨.slice 3, 1, some (.one (.slice)), some [.slice none 0 0]⟩ (.node ⟨.tuple [24, 24], 1, none, none⟩ (.node tq0 (.node tq0 (.node tq0 .nil .nil) (.node tq0 .nil .nil)) (.node tq7 (.node tq0 .nil .nil) (.node tq0 .nil .nil))) (.node tq20 (.node tq26 (.node ⟨.map 9 9, 1, some (.one (.map)), some [.map none]⟩ .nil .nil) (.node tq0 .nil .nil)) (.node tq0 (.node ⟨.slice 358, 1, some (.one (.slice)), some [.slice none 0 0]⟩ .nil .nil) (.node tq59 .nil .nil)))) (.node tq0 (.node tq0 (.node tq0 (.node tq0 .nil .nil) (.node ⟨.other, 1, none, none⟩ .nil .nil)) (.node tq34 (.node tq50 .nil .nil) (.node tq2 .nil .nil))) (.node tq0 (.node ⟨.map 9 193, 1, some (.one (.map)), some [.map none]⟩ (.node tq46 .nil .nil) (.node ⟨.arr 20 398, 20, some (.agg lf15), some (List.replicate 20 (.int .u64 0))⟩ .nil .nil)) (.node tq0 (.node tq0 .nil .nil) (.node tq66 .nil .nil)))))) (.node tq5 (.node tq9 (.node tq13 (.node tq16 (.node tq0 (.node tq0 .nil .nil) (.node tq0 .nil .nil)) (.node tq0 (.node tq0 .nil .nil) (.node tq0 .nil .nil))) (.node tq0 (.node ⟨.tuple [37, 3, 4], 1, none, none⟩ (.node tq44 .nil .nil) (.node tq0 .nil .nil)) (.node ⟨.slice 486, 1, some (.one (.slice)), some [.slice none 0 0]⟩ (.node tq0 .nil .nil) (.node tq7 .nil .nil)))) (.node ⟨.arr 3 3, 3, some (.agg [.int .i64, .int .i64, .int .i64]), some [.int .i64 0, .int .i64 0, .int .i64 0]⟩ (.node tq0 (.node tq0 (.node tq0 .nil .nil) (.node ⟨.arr 24 5, 24, some (.agg lf14), some (List.replicate 24 (.int .u8 0))⟩ .nil .nil)) (.node tq32 (.node tq0 .nil .nil) (.node tq56 .nil .nil))) (.node ⟨.slice 483, 1, some (.one (.slice)), some [.slice none 0 0]⟩ (.node tq0 (.node tq0 .nil .nil) (.node tq0 .nil .nil)) (.node tq9 (.node tq12 .nil .nil) (.node tq64 .nil .nil))))) (.node ⟨.tuple [27, 4], 1, none, none⟩ (.node tq15 (.node tq7 (.node tq0 (.node tq0 .nil .nil) (.node ⟨.int .u32, 1, some (.one (.int .u32)), some [.int .u32 0]⟩ .nil .nil)) (.node tq31 (.node tq0 .nil .nil) (.node tq0 .nil .nil))) (.node tq21 (.node tq0 (.node tq0 .nil .nil) (.node tq0 .nil .nil)) (.node tq0 (.node tq0 .nil .nil) (.node tq61 .nil .nil)))) (.node ⟨.tuple [3, 3, 3, 3], 1, none, none⟩ (.node tq19 (.node tq0 (.node tq42 .nil .nil) (.node tq12 .nil .nil)) (.node ⟨.map 9 315, 1, some (.one (.map)), some [.map none]⟩ (.node ⟨.map 9 287, 1, some (.one (.map)), some [.map none]⟩ .nil .nil) (.node tq10 .nil .nil))) (.node tq0 (.node tq29 (.node ⟨.tuple [315, 4], 1, none, none⟩ .nil .nil) (.node tq0 .nil .nil)) (.node tq0 (.node tq0 .nil .nil) .nil)))))) (.node tq2 (.node tq4 (.node tq8 (.node tq0 (.node tq0 (.node tq0 (.node tq0 .nil .nil) (.node tq0 .nil .nil)) (.node ⟨.tuple [193, 4], 1, none, none⟩ (.node ⟨.arr 2 3, 2, some (.agg [.int .i64, .int .i64]), some [.int .i64 0, .int .i64 0]⟩ .nil .nil) (.node ⟨.tuple [398, 245], 1, none, none⟩ .nil .nil))) (.node tq0 (.node tq0 (.node tq0 .nil .nil) (.node ⟨.slice 166, 1, some (.one (.slice)), some [.slice none 0 0]⟩ .nil .nil)) (.node tq37 (.node tq0 .nil .nil) (.node tq7 .nil .nil)))) (.node tq0 (.node tq18 (.node tq25 (.node tq0 .nil .nil) (.node tq0 .nil .nil)) (.node tq0 (.node tq49 .nil .nil) (.node tq0 .nil .nil))) (.node tq7 (.node tq0 (.node tq45 .nil .nil) (.node tq0 .nil .nil)) (.node tq39 (.node tq0 .nil .nil) (.node tq63 .nil .nil))))) (.node tq0 (.node ⟨.slice 45, 1, some (.one (.slice)), some [.slice none 0 0]⟩ (.node ⟨.map 3 34, 1, some (.one (.map)), some [.map none]⟩ (.node tq0 (.node tq0 .nil .nil) (.node tq0 .nil .nil)) (.node ⟨.map 3 270, 1, some (.one (.map)), some [.map none]⟩ (.node tq0 .nil .nil) (.node tq0 .nil .nil))) (.node ⟨.slice 175, 1, some (.one (.slice)), some [.slice none 0 0]⟩ (.node ⟨.tuple [169, 54], 1, none, none⟩ (.node tq0 .nil .nil) (.node tq0 .nil .nil)) (.node ⟨.tuple [9, 3, 4], 1, none, none⟩ (.node tq0 .nil .nil) (.node tq60 .nil .nil)))) (.node ⟨.tuple [57, 3], 1, none, none⟩ (.node tq7 (.node ⟨.tuple [24, 54], 1, none, none⟩ (.node tq41 .nil .nil) (.node tq0 .nil .nil)) (.node tq35 (.node tq51 .nil .nil) (.node tq0 .nil .nil))) (.node tq24 (.node tq28 (.node tq47 .nil .nil) (.node tq0 .nil .nil)) (.node tq0 (.node ⟨.tuple [9, 9], 1, none, none⟩ .nil .nil) (.node tq12 .nil .nil)))))) (.node tq6 (.node tq11 (.node tq14 (.node ⟨.slice 39, 1, some (.one (.slice)), some [.slice none 0 0]⟩ (.node tq0 (.node tq0 .nil .nil) (.node ⟨.tuple [3, 389], 1, none, none⟩ .nil .nil)) (.node tq0 (.node ⟨.arr 4 3, 4, some (.agg [.int .i64, .int .i64, .int .i64, .int .i64]), some [.int .i64 0, .int .i64 0, .int .i64 0, .int .i64 0]⟩ .nil .nil) (.node tq54 .nil .nil))) (.node ⟨.slice 481, 1, some (.one (.slice)), some [.slice none 0 0]⟩ (.node ⟨.slice 302, 1, some (.one (.slice)), some [.slice none 0 0]⟩ (.node tq0 .nil .nil) (.node tq0 .nil .nil)) (.node tq38 (.node tq0 .nil .nil) (.node tq7 .nil .nil)))) (.node tq1 (.node tq7 (.node tq0 (.node tq0 .nil .nil) (.node ⟨.tuple [85, 9], 1, none, none⟩ .nil .nil)) (.node tq33 (.node tq0 .nil .nil) (.node tq57 .nil .nil))) (.node tq23 (.node tq0 (.node ⟨.tuple [309, 309], 1, none, none⟩ .nil .nil) (.node tq0 .nil .nil)) (.node ⟨.tuple [3, 245], 1, none, none⟩ (.node tq0 .nil .nil) (.node tq65 .nil .nil))))) (.node tq12 (.node ⟨.tuple [3, 3], 1, none, none⟩ (.node tq7 (.node tq0 (.node tq40 .nil .nil) (.node tq5 .nil .nil)) (.node tq7 (.node ⟨.slice 372, 1, some (.one (.slice)), some [.slice none 0 0]⟩ .nil .nil) (.node tq55 .nil .nil))) (.node tq7 (.node tq27 (.node tq30 .nil .nil) (.node ⟨.tuple [396, 396], 1, none, none⟩ .nil .nil)) (.node tq12 (.node tq7 .nil .nil) (.node tq7 .nil .nil)))) (.node tq0 (.node tq0 (.node tq0 (.node tq43 .nil .nil) (.node tq0 .nil .nil)) (.node tq36 (.node tq52 .nil .nil) (.node tq58 .nil .nil))) (.node tq0 (.node tq30 (.node tq0 .nil .nil) (.node tq0 .nil .nil)) (.node ⟨.tuple [169, 4], 1, none, none⟩ (.node tq0 .nil .nil) .nil)))))))), (.node none (.node none (.node none (.node none (.node none (.node (some (.one (.one (.str)))) (.node (some (.one (.one (.bool)))) (.node (some (.one (.one (.func)))) .nil .nil) .nil) (.node (some (.one (.one (.slice)))) (.node (some (.one (.one (.slice)))) .nil .nil) (.node (some (.one (.one (.slice)))) .nil .nil))) (.node none .nil (.node (some (.tup [(.one (.slice)), (.one (.slice))])) (.node (some (.one (.one (.func)))) .nil .nil) .nil))) (.node (some (.one (.one (.slice)))) (.node (some (.one (.one (.slice)))) (.node (some (.one (.one (.int .i64)))) .nil (.node (some (.one (.one (.slice)))) .nil .nil)) (.node none (.node none (.node (some (.tup [])) .nil .nil) .nil) .nil)) (.node none (.node none (.node (some (.one (.one (.ptr)))) .nil .nil) .nil) (.node (some (.one (.one (.slice)))) (.node (some (.one (.one (.int .i64)))) .nil .nil) (.node (some (.tup [])) .nil .nil))))) (.node (some (.one (.one (.slice)))) (.node none (.node (some (.one (.one (.slice)))) (.node (some (.one (.one (.bool)))) (.node (some (.one (.one (.bool)))) .nil .nil) (.node (some (.one (.one (.slice)))) .nil .nil)) (.node (some (.tup [(.one (.str)), (.one (.bool))])) (.node (some (.one (.one (.slice)))) .nil .nil) .nil)) (.node (some (.one (.one (.ptr)))) .nil (.node (some (.one (.one (.slice)))) (.node (some (.one (.agg [.int .i64, .int .i64, .int .i64, .int .i64]))) .nil .nil) .nil))) (.node none (.node (some (.one (.one (.slice)))) (.node (some (.one (.one (.str)))) (.node (some (.tup [])) .nil .nil) (.node (some (.one (.one (.bool)))) .nil .nil)) (.node (some (.one (.one (.bool)))) .nil (.node (some (.tup [])) .nil .nil))) (.node (some (.one (.one (.slice)))) (.node (some (.one (.one (.int .i64)))) (.node (some (.one (.one (.func)))) (.node (some (.one (.one (.slice)))) .nil .nil) .nil) .nil) (.node (some (.one (.one (.bool)))) (.node (some (.tup [])) .nil .nil) (.node (some (.tup [])) .nil .nil)))))) (.node none (.node none (.node (some (.one (.one (.int .i64)))) (.node (some (.one (.one (.slice)))) (.node (some (.one (.one (.bool)))) (.node (some (.one (.one (.bool)))) (.node (some (.one (.one (.int .i64)))) .nil .nil) .nil) (.node (some (.one (.one (.func)))) .nil .nil)) (.node (some (.one (.one (.int .i64)))) (.node (some (.tup [])) .nil .nil) .nil)) (.node (some (.one (.one (.bool)))) (.node (some (.one (.one (.slice)))) .nil .nil) (.node (some (.tup [])) (.node (some (.one (.one (.int .i64)))) .nil .nil) .nil))) (.node (some (.one (.one (.int .i64)))) (.node (some (.one (.one (.slice)))) (.node (some (.one (.one (.str)))) (.node none (.node (some (.one (.one (.int .i64)))) .nil .nil) .nil) (.node (some (.one (.one (.int .i64)))) .nil .nil)) (.node (some (.tup [(.agg lf5), (.one (.bool))])) .nil .nil)) (.node none (.node (some (.one (.one (.str)))) (.node (some (.tup [(.agg [.int .i64, .int .i64, .int .i64, .str]), (.one (.bool))])) .nil .nil) (.node (some (.one (.one (.str)))) .nil .nil)) (.node (some (.one (.one (.bool)))) (.node none (.node (some (.tup [])) .nil .nil) .nil) (.node (some (.tup [])) .nil .nil))))) (.node (some (.one (.one (.slice)))) (.node none (.node (some (.one (.one (.slice)))) (.node (some (.one (.one (.bool)))) (.node (some (.one (.one (.int .i64)))) .nil .nil) (.node (some (.one (.one (.slice)))) .nil .nil)) (.node none (.node (some (.tup [(.agg lf11), (.one (.bool))])) .nil .nil) .nil)) (.node (some (.one (.one (.ptr)))) (.node (some (.one (.one (.slice)))) (.node (some (.one (.agg [.int .i64, .int .i64, .int .i64, .str]))) .nil .nil) .nil) (.node (some (.one (.one (.int .i64)))) (.node (some (.one (.one (.ptr)))) .nil .nil) .nil))) (.node none (.node (some (.tup [(.one (.slice)), (.one (.slice))])) (.node (some (.tup [(.one (.int .i64)), (.one (.int .i64))])) .nil (.node (some (.one (.one (.bool)))) .nil .nil)) (.node (some (.one (.agg [.int .i64, .int .i64]))) .nil .nil)) (.node (some (.one (.one (.slice)))) (.node none (.node (some (.one (.one (.int .i64)))) .nil .nil) (.node (some (.tup [])) .nil .nil)) (.node (some (.one (.one (.ptr)))) (.node (some (.one (.one (.func)))) .nil .nil) .nil)))))) (.node none (.node none (.node none (.node none (.node (some (.one (.one (.str)))) (.node (some (.one (.one (.bool)))) (.node (some (.tup [(.one (.str)), (.one (.int .i64)), (.one (.bool))])) .nil .nil) (.node (some (.one (.one (.slice)))) (.node (some (.tup [])) .nil .nil) .nil)) (.node (some (.tup [])) .nil .nil)) (.node (some (.tup [(.one (.ptr)), (.one (.bool))])) .nil (.node (some (.one (.one (.bool)))) (.node (some (.one (.one (.int .i64)))) .nil .nil) .nil))) (.node (some (.one (.one (.bool)))) (.node (some (.one (.one (.slice)))) (.node (some (.one (.one (.int .i64)))) (.node none (.node (some (.tup [])) .nil .nil) .nil) (.node (some (.tup [])) .nil .nil)) (.node none (.node none (.node (some (.one (.one (.int .i64)))) .nil .nil) .nil) .nil)) (.node none (.node (some (.one (.one (.int .i64)))) (.node (some (.one (.one (.int .i64)))) .nil .nil) (.node (some (.tup [])) .nil .nil)) (.node (some (.one (.one (.ptr)))) (.node none (.node (some (.tup [])) .nil .nil) .nil) (.node (some (.one (.one (.slice)))) .nil .nil))))) (.node (some (.tup [(.one (.slice)), (.one (.slice))])) (.node none (.node (some (.one (.one (.slice)))) (.node (some (.one (.one (.bool)))) (.node (some (.one (.one (.int .i64)))) .nil .nil) (.node (some (.one (.one (.slice)))) .nil .nil)) (.node (some (.one (.one (.ptr)))) (.node (some (.tup [])) .nil .nil) .nil)) (.node (some (.one (.one (.ptr)))) .nil (.node (some (.one (.one (.func)))) (.node (some (.one (.one (.int .i64)))) .nil .nil) .nil))) (.node (some (.one (.one (.slice)))) (.node (some (.one (.one (.slice)))) (.node (some (.one (.one (.str)))) (.node none (.node (some (.tup [])) .nil .nil) .nil) (.node (some (.one (.one (.bool)))) .nil .nil)) (.node (some (.tup [(.one (.int .i64)), (.one (.int .i64))])) .nil .nil)) (.node (some (.one (.one (.slice)))) (.node (some (.one (.one (.slice)))) .nil .nil) (.node (some (.one (.one (.ptr)))) (.node (some (.one (.one (.slice)))) .nil .nil) (.node (some (.tup [])) .nil .nil)))))) (.node (some (.one (.one (.bool)))) (.node none (.node (some (.tup [(.one (.ptr)), (.one (.int .i64))])) (.node (some (.one (.one (.slice)))) (.node (some (.one (.one (.bool)))) (.node (some (.one (.one (.bool)))) .nil .nil) (.node (some (.one (.one (.slice)))) (.node (some (.tup [])) .nil .nil) .nil)) (.node (some (.tup [(.agg lf0), (.one (.int .i64)), (.one (.int .i64)), (.one (.bool))])) (.node (some (.one (.one (.func)))) .nil .nil) .nil)) (.node (some (.one (.one (.ptr)))) .nil (.node (some (.one (.one (.slice)))) (.node (some (.one (.one (.int .i64)))) .nil .nil) .nil))) (.node (some (.one (.one (.int .i64)))) (.node (some (.one (.one (.slice)))) (.node (some (.one (.one (.str)))) (.node (some (.one (.one (.int .i64)))) (.node (some (.one (.one (.int .i64)))) .nil .nil) .nil) (.node (some (.tup [(.one (.int .i64)), (.one (.iface))])) .nil .nil)) (.node (some (.one (.one (.int .i64)))) .nil (.node (some (.tup [])) .nil .nil))) (.node (some (.one (.one (.int .i64)))) (.node (some (.one (.one (.bool)))) (.node none (.node (some (.one (.one (.slice)))) .nil .nil) .nil) .nil) (.node (some (.one (.one (.ptr)))) (.node (some (.one (.one (.func)))) .nil .nil) (.node (some (.one (.one (.slice)))) .nil .nil))))) (.node none (.node (some (.one (.one (.int .i64)))) (.node (some (.one (.one (.slice)))) (.node (some (.one (.one (.bool)))) .nil (.node (some (.one (.one (.slice)))) .nil .nil)) (.node none (.node (some (.one (.one (.str)))) .nil .nil) .nil)) (.node (some (.one (.one (.ptr)))) (.node (some (.one (.one (.str)))) (.node (some (.one (.agg [.int .i64, .int .i64, .int .i64, .str]))) .nil .nil) (.node (some (.tup [(.one (.int .i64)), (.one (.bool))])) .nil .nil)) (.node (some (.one (.one (.int .i64)))) (.node (some (.one (.one (.int .i64)))) .nil .nil) .nil))) (.node (some (.one (.one (.int .i64)))) (.node (some (.one (.one (.slice)))) (.node (some (.one (.one (.slice)))) .nil (.node (some (.one (.one (.bool)))) .nil .nil)) (.node (some (.one (.one (.int .i64)))) .nil .nil)) (.node (some (.tup [(.agg lf4), (.one (.bool))])) (.node none (.node (some (.tup [(.one (.int .i64)), (.one (.bool))])) .nil .nil) (.node (some (.one (.one (.func)))) .nil .nil)) (.node (some (.one (.one (.slice)))) .nil .nil)))))))⟩
theorem Tok : TbOk Pr Dt := zl3 (by kernel_rfl) (by kernel_rfl) (by kernel_rfl)
theorem C_of {f : FuncId} {fn : Func} {an : Ann} {args : List SV} {F : PT} {K : Value → PT} {w : World} (h1 : Pr.funcs[f]? = some fn) (h2 : okF args.length fn = true) (h3 : denF Pr Dt fn an args K = F) (h : F w) : CT Pr f (vals args) K w := zlz Tok h1 h2 ((congrFun h3 w).mpr h)
def z7A : Ann := (.seq .auto (.seq .auto (.seq .auto (.seq .auto (.seq .auto (.seq .auto (.seq .auto (.seq .auto (.seq .auto (.seq .auto (.seq .auto (.seq .auto (.seq .auto (.seq .auto (.seq (.seq .auto (.one [(9, (.one (.int .i64)))] .auto) none) .auto none) none) none) none) none) none) none) none) none) none) none) none) none) none) none)
def z4D (p0 : ht0) (p1 : Int) (K : Value → PT) : PT :=
 L.new [.string p0.1, .int .i64 p0.2.1, .int .i64 p0.2.2.1, .int .i64 p0.2.2.2.1, .int .i64 p0.2.2.2.2.1, .int .i64 p0.2.2.2.2.2.1] z0b fun b1 =>
 L.call Pr z3Y [] rB fun (x2 : Bool) =>
 L.ite (!x2) (
  K (.bool false)) <|
 L.call Pr z65 [.int .i64 30, .int .i64 8, .int .i64 50] (.tup [eP6, eI6]) fun (x3 : Option Addr × Int × Unit) =>
 L.ite ((x3.1).isNone) (
  K (.bool false)) <|
 L.ite (x3.2.1 != 0) (
  K (.bool false)) <|
 L.draw <|
 L.load eI6 ((⟨b1, 0, none⟩ : Addr).add 2) fun (x4 : Int) =>
 L.load eI6 ((⟨b1, 0, none⟩ : Addr).add 4) fun (x5 : Int) =>
 L.call Pr z19 [.int .i64 x4, .int .i64 8] rI fun (x6 : Int) =>
 L.chk ((⟨b1, 0, none⟩ : Addr).add 4) [.int .i64 x5] <|
 L.call Pr z19 [.int .i64 x5, .int .i64 10] rI fun (x7 : Int) =>
 L.store ((⟨b1, 0, none⟩ : Addr).add 0) [.string s_web] <|
 L.store ((⟨b1, 0, none⟩ : Addr).add 1) [.int .i64 0] <|
 L.store ((⟨b1, 0, none⟩ : Addr).add 2) [.int .i64 (IntKind.wrap .i64 (1 + x6))] <|
 L.store ((⟨b1, 0, none⟩ : Addr).add 4) [.int .i64 (IntKind.wrap .i64 (1 + x7))] <|
 L.draw <|
 L.load eI6 ((⟨b1, 0, none⟩ : Addr).add 3) fun (x8 : Int) =>
 L.load eI6 ((⟨b1, 0, none⟩ : Addr).add 4) fun (x9 : Int) =>
 L.load eI6 ((⟨b1, 0, none⟩ : Addr).add 5) fun (x10 : Int) =>
 L.call Pr z19 [.int .i64 x8, .int .i64 (IntKind.wrap .i64 (x9 + 1))] rI fun (x11 : Int) =>
 L.chk ((⟨b1, 0, none⟩ : Addr).add 5) [.int .i64 x10] <|
 L.call Pr z19 [.int .i64 x10, .int .i64 31] rI fun (x12 : Int) =>
 L.store ((⟨b1, 0, none⟩ : Addr).add 3) [.int .i64 x11] <|
 L.store ((⟨b1, 0, none⟩ : Addr).add 5) [.int .i64 x12] <|
 L.load (.agg lf0) (⟨b1, 0, none⟩) fun (x13 : pt0) =>
 L.call Pr z0g [.pointer x3.1, .agg #[.int .i64 1, .string s_, .string s_, .int .i64 0, .int .i64 0, .string x13.1, .int .i64 x13.2.1, .int .i64 x13.2.2.1, .int .i64 x13.2.2.2.1, .int .i64 x13.2.2.2.2.1, .int .i64 x13.2.2.2.2.2.1, .string s_, .string s_, .slice none 0 0, .int .i64 0]] rL fun (x14 : Sl) =>
 L.call Pr z0g [.pointer x3.1, .agg #[.int .i64 10, .string s_web, .string s_, .int .i64 0, .int .i64 0, .string s_, .int .i64 0, .int .i64 0, .int .i64 0, .int .i64 0, .int .i64 0, .string s_, .string s_, .slice none 0 0, .int .i64 0]] rL fun (x15 : Sl) =>
 L.call Pr z19 [.int .i64 p1, .int .i64 10] rI fun (x16 : Int) =>
 L.call Pr z67 [.pointer x3.1, .int .i64 (IntKind.wrap .i64 (40 + x16))] rL fun (x17 : Sl) =>
 L.call Pr z1p [.pointer x3.1, .string zbW] rL fun (x18 : Sl) =>
 L.draw <|
 L.load eI6 ((⟨b1, 0, none⟩ : Addr).add 3) fun (x19 : Int) =>
 L.ite (((x18.len : Nat) : Int) != x19) (
  K (.bool false)) <|
 L.load eI6 ((⟨b1, 0, none⟩ : Addr).add 3) fun (x20 : Int) =>
 L.call Pr z1M [.pointer x3.1, .string zbW] rI fun (x21 : Int) =>
 L.chk ((⟨b1, 0, none⟩ : Addr).add 3) [.int .i64 x20] <|
 L.ite (x21 != x20) (
  K (.bool false)) <|
 L.load eI6 ((⟨b1, 0, none⟩ : Addr).add 3) fun (x22 : Int) =>
 L.call Pr z3F [.pointer x3.1] rI fun (x23 : Int) =>
 L.chk ((⟨b1, 0, none⟩ : Addr).add 3) [.int .i64 x22] <|
 L.ite (x23 != x22) (
  K (.bool false)) <|
 L.call Pr z67 [.pointer x3.1, .int .i64 5] rL fun (x24 : Sl) =>
 L.call Pr z1p [.pointer x3.1, .string zbW] rL fun (x25 : Sl) =>
 L.ite (((x25.len : Nat) : Int) != ((x18.len : Nat) : Int)) (
  K (.bool false)) <|
 L.loop (Y := Int × Unit) (0, ()) fun y26 again27 =>
 L.ite (decide (y26.1 < ((x18.len : Nat) : Int))) (
  L.draw <|
  L.idx x18.a y26.1 x18.len 3 fun a28 =>
  L.load (.agg [.int .i64, .int .i64, .int .i64]) a28 fun (x29 : Int × Int × Int × Unit) =>
  L.idx x25.a y26.1 x25.len 3 fun a30 =>
  L.load (.agg [.int .i64, .int .i64, .int .i64]) a30 fun (x31 : Int × Int × Int × Unit) =>
  L.chkSem Pr (do eqGuard .neq z0N (.tmp 0) (.tmp 0) (.agg #[.int .i64 x29.1, .int .i64 x29.2.1, .int .i64 x29.2.2.1]) (.agg #[.int .i64 x31.1, .int .i64 x31.2.1, .int .i64 x31.2.2.1]); binOp .neq z0N (.agg #[.int .i64 x29.1, .int .i64 x29.2.1, .int .i64 x29.2.2.1]) (.agg #[.int .i64 x31.1, .int .i64 x31.2.1, .int .i64 x31.2.2.1])) (.bool (!((x29.1 == x31.1) && ((x29.2.1 == x31.2.1) && ((x29.2.2.1 == x31.2.2.1) && true))))) <|
  L.ite (!((x29.1 == x31.1) && ((x29.2.1 == x31.2.1) && ((x29.2.2.1 == x31.2.2.1) && true)))) (
   K (.bool false)) <|
  L.idx x18.a y26.1 x18.len 3 fun a32 =>
  L.load eI6 (a32.add 1) fun (x33 : Int) =>
  L.ite (x33 != 2) (
   K (.bool false)) <|
  again27 (IntKind.wrap .i64 (y26.1 + 1), ())) <|
 K (.bool true)
theorem z7z (p0 : ht0) (p1 : Int) {K : Value → PT} {w : World} (h : z4D p0 p1 K w) : CT Pr z4y [(.ag (qc0 p0) : SV).toV, .int .i64 p1] K w :=
 C_of (fn := Tryz.f6) (an := z7A) (args := [.ag (qc0 p0), .v (.int .i64 p1)]) (by kernel_rfl) (by kernel_rfl) (by kernel_rfl) h
def z6a (p0 : Option Addr) (p1 : ht1) (K : Value → PT) : PT :=
 L.new [.int .i64 p1.1, .string p1.2.1, .string p1.2.2.1, .int .i64 p1.2.2.2.1, .int .i64 p1.2.2.2.2.1, .string p1.2.2.2.2.2.1, .int .i64 p1.2.2.2.2.2.2.1, .int .i64 p1.2.2.2.2.2.2.2.1, .int .i64 p1.2.2.2.2.2.2.2.2.1, .int .i64 p1.2.2.2.2.2.2.2.2.2.1, .int .i64 p1.2.2.2.2.2.2.2.2.2.2.1, .string p1.2.2.2.2.2.2.2.2.2.2.2.1, .string p1.2.2.2.2.2.2.2.2.2.2.2.2.1, .slice p1.2.2.2.2.2.2.2.2.2.2.2.2.2.1.a p1.2.2.2.2.2.2.2.2.2.2.2.2.2.1.len p1.2.2.2.2.2.2.2.2.2.2.2.2.2.1.cap, .int .i64 p1.2.2.2.2.2.2.2.2.2.2.2.2.2.2.1] z0p fun b1 =>
 L.load (.agg lf1) (⟨b1, 0, none⟩) fun (x2 : pt1) =>
 L.call Pr z6S [(qa1 x2)] rI fun (x3 : Int) =>
 L.ite (x3 != 0) (
  L.call Pr z3u [.int .i64 x3] rS fun (x4 : ByteArray) =>
  L.new [.string x4] z01 fun b5 =>
  L.call Pr z0f [.string zlc, .slice (some ⟨b5, 0, none⟩) 1 1] rS fun (x6 : ByteArray) =>
  L.new [.string x6] z01 fun b7 =>
  K (.slice (some ⟨b7, 0, none⟩) 1 1)) <|
 L.sem Pr (.one (.one .map)) (Instr.makeMap z02 none) fun (m8 : Option Nat) =>
 L.semU Pr (Instr.mapUpdate z02 (.map m8) (.int .i64 1) (.func (.func z1b) #[.pointer p0] #[])) <|
 L.semU Pr (Instr.mapUpdate z02 (.map m8) (.int .i64 2) (.func (.func z3f) #[.pointer p0] #[])) <|
 L.semU Pr (Instr.mapUpdate z02 (.map m8) (.int .i64 3) (.func (.func z3D) #[.pointer p0] #[])) <|
 L.semU Pr (Instr.mapUpdate z02 (.map m8) (.int .i64 4) (.func (.func z2U) #[.pointer p0] #[])) <|
 L.semU Pr (Instr.mapUpdate z02 (.map m8) (.int .i64 5) (.func (.func z3E) #[.pointer p0] #[])) <|
 L.semU Pr (Instr.mapUpdate z02 (.map m8) (.int .i64 6) (.func (.func z1I) #[.pointer p0] #[])) <|
 L.semU Pr (Instr.mapUpdate z02 (.map m8) (.int .i64 7) (.func (.func z1o) #[.pointer p0] #[])) <|
 L.semU Pr (Instr.mapUpdate z02 (.map m8) (.int .i64 8) (.func (.func z1o) #[.pointer p0] #[])) <|
 L.semU Pr (Instr.mapUpdate z02 (.map m8) (.int .i64 9) (.func (.func z1n) #[.pointer p0] #[])) <|
 L.semU Pr (Instr.mapUpdate z02 (.map m8) (.int .i64 10) (.func (.func z1g) #[.pointer p0] #[])) <|
 L.semU Pr (Instr.mapUpdate z02 (.map m8) (.int .i64 11) (.func (.func z3C) #[.pointer p0] #[])) <|
 L.semU Pr (Instr.mapUpdate z02 (.map m8) (.int .i64 12) (.func (.func z1h) #[.pointer p0] #[])) <|
 L.semU Pr (Instr.mapUpdate z02 (.map m8) (.int .i64 13) (.func (.func z18) #[.pointer p0] #[])) <|
 L.load eI6 ((⟨b1, 0, none⟩ : Addr).add 0) fun (x9 : Int) =>
 L.semR Pr (.one (.one (.func))) (Instr.lookup z02 (.map m8) (.int .i64 x9) false) fun (x10 : FV) =>
 L.load (.agg lf1) (⟨b1, 0, none⟩) fun (x11 : pt1) =>
 L.callV Pr (.func x10.fn x10.fs x10.cs) [(qa1 x11)] rL fun (x12 : Sl) =>
 K (.slice x12.a x12.len x12.cap)
theorem zab (p0 : Option Addr) (p1 : ht1) {K : Value → PT} {w : World} (h : z6a p0 p1 K w) : CT Pr z0g [.pointer p0, (.ag (qc1 p1) : SV).toV] K w :=
 C_of (fn := Tryz.f11) (an := .auto) (args := [.v (.pointer p0), .ag (qc1 p1)]) (by kernel_rfl) (by kernel_rfl) (by kernel_rfl) h
def z4A (p0 : Option Addr) (p1 : ByteArray) (K : Value → PT) : PT :=
 L.nonnil p0 fun a1 =>
 L.load eP6 (a1.add 4) fun (x2 : Option Addr) =>
 L.call Pr z33 [.pointer x2, .string p1] (.tup [eL6, eL6]) fun (x3 : Sl × Sl × Unit) =>
 K (.tuple #[.slice x3.1.a x3.1.len x3.1.cap, .slice x3.2.1.a x3.2.1.len x3.2.1.cap])
theorem z7w (p0 : Option Addr) (p1 : ByteArray) {K : Value → PT} {w : World} (h : z4A p0 p1 K w) : CT Pr z2V [.pointer p0, .string p1] K w :=
 C_of (fn := Tryz.f12) (an := .auto) (args := [.v (.pointer p0), .v (.string p1)]) (by kernel_rfl) (by kernel_rfl) (by kernel_rfl) h
def z3J (p0 : Option Addr) (p1 : ByteArray) (K : Value → PT) : PT :=
 L.nonnil p0 fun a1 =>
 L.load eP6 (a1.add 3) fun (x2 : Option Addr) =>
 L.call Pr z4k [.pointer x2, .string p1] rL fun (x3 : Sl) =>
 K (.slice x3.a x3.len x3.cap)
theorem z5i (p0 : Option Addr) (p1 : ByteArray) {K : Value → PT} {w : World} (h : z3J p0 p1 K w) : CT Pr z1p [.pointer p0, .string p1] K w :=
 C_of (fn := Tryz.f13) (an := .auto) (args := [.v (.pointer p0), .v (.string p1)]) (by kernel_rfl) (by kernel_rfl) (by kernel_rfl) h
def z59 (p0 : Option Addr) (p1 : ByteArray) (K : Value → PT) : PT :=
 L.nonnil p0 fun a1 =>
 L.load (.one (.map)) (a1.add 5) fun (x2 : Option Nat) =>
 L.call Pr z2q [.map x2, .string p1] (.tup [eP6, eB6]) fun (x3 : Option Addr × Bool × Unit) =>
 L.ite x3.2.1 (
  L.nonnil x3.1 fun a4 =>
  L.load eI6 ((a4.add 1).add 0) fun (x5 : Int) =>
  K (.int .i64 x5)) <|
 K (.int .i64 0)
theorem z8F (p0 : Option Addr) (p1 : ByteArray) {K : Value → PT} {w : World} (h : z59 p0 p1 K w) : CT Pr z1M [.pointer p0, .string p1] K w :=
 C_of (fn := Tryz.f17) (an := .auto) (args := [.v (.pointer p0), .v (.string p1)]) (by kernel_rfl) (by kernel_rfl) (by kernel_rfl) h
def zb4 (p0 : Int) (p1 : Int) (p2 : Int) (K : Value → PT) : PT :=
 L.call Pr z1U [.int .i64 p0, .int .i64 1, .int .i64 30] rB fun (x1 : Bool) =>
 L.ite (!x1) (
  K (.tuple #[.pointer none, .int .i64 2])) <|
 L.call Pr z1U [.int .i64 p1, .int .i64 0, .int .i64 8] rB fun (x2 : Bool) =>
 L.ite (!x2) (
  K (.tuple #[.pointer none, .int .i64 2])) <|
 L.call Pr z1U [.int .i64 p2, .int .i64 1, .int .i64 50] rB fun (x3 : Bool) =>
 L.ite (!x3) (
  K (.tuple #[.pointer none, .int .i64 2])) <|
 L.call Pr z9a [.int .i64 p0] rP fun (x4 : Option Addr) =>
 L.call Pr z98 [] rP fun (x5 : Option Addr) =>
 L.call Pr z97 [] rP fun (x6 : Option Addr) =>
 L.call Pr zaz [] rP fun (x7 : Option Addr) =>
 L.call Pr zaB [.pointer x4, .int .i64 p1, .int .i64 p2] rP fun (x8 : Option Addr) =>
 L.sem Pr (.one (.one .map)) (Instr.makeMap z0v none) fun (m9 : Option Nat) =>
 L.new [.pointer x5, .pointer x6, .pointer x7, .pointer x4, .pointer x8, .map m9, .int .i64 0] z7R fun b10 =>
 K (.tuple #[.pointer (some (⟨b10, 0, none⟩)), .int .i64 0])
theorem zfb (p0 : Int) (p1 : Int) (p2 : Int) {K : Value → PT} {w : World} (h : zb4 p0 p1 p2 K w) : CT Pr z65 [.int .i64 p0, .int .i64 p1, .int .i64 p2] K w :=
 C_of (fn := Tryz.f18) (an := .auto) (args := [.v (.int .i64 p0), .v (.int .i64 p1), .v (.int .i64 p2)]) (by kernel_rfl) (by kernel_rfl) (by kernel_rfl) h
def z5a (p0 : Option Addr) (K : Value → PT) : PT :=
 L.nonnil p0 fun a1 =>
 L.load eP6 (a1.add 3) fun (x2 : Option Addr) =>
 L.call Pr z4l [.pointer x2] rI fun (x3 : Int) =>
 K (.int .i64 x3)
theorem z8G (p0 : Option Addr) {K : Value → PT} {w : World} (h : z5a p0 K w) : CT Pr z3F [.pointer p0] K w :=
 C_of (fn := Tryz.f22) (an := .auto) (args := [.v (.pointer p0)]) (by kernel_rfl) (by kernel_rfl) (by kernel_rfl) h
def z2p (p0 : Option Addr) (K : Value → PT) : PT :=
 L.nonnil p0 fun a1 =>
 L.load eP6 (a1.add 1) fun (x2 : Option Addr) =>
 L.call Pr z4Z [.pointer x2] rL fun (x3 : Sl) =>
 K (.slice x3.a x3.len x3.cap)
theorem z3O (p0 : Option Addr) {K : Value → PT} {w : World} (h : z2p p0 K w) : CT Pr z1y [.pointer p0] K w :=
 C_of (fn := Tryz.f23) (an := .auto) (args := [.v (.pointer p0)]) (by kernel_rfl) (by kernel_rfl) (by kernel_rfl) h
def z5T  (K : Value → PT) : PT :=
 L.call Pr z65 [.int .i64 1, .int .i64 0, .int .i64 1] (.tup [eP6, eI6]) fun (x1 : Option Addr × Int × Unit) =>
 L.ite ((x1.1).isNone) (
  K (.bool false)) <|
 L.call Pr z4R [.pointer x1.1] rL fun (x2 : Sl) =>
 L.call Pr z9C [.int .i64 1, .int .i64 0] rI fun (x3 : Int) =>
 L.ite (x3 == 2) (
  L.ite (((x2.len : Nat) : Int) == 1) (
   L.idx x2.a 0 x2.len 1 fun a4 =>
   L.load eS6 a4 fun (x5 : ByteArray) =>
   K (.bool (x5.toList == s_tick_1.toList))) <|
  K (.bool false)) <|
 K (.bool false)
theorem z9n  {K : Value → PT} {w : World} (h : z5T  K w) : CT Pr z3Y [] K w :=
 C_of (fn := Tryz.f24) (an := .auto) (args := []) (by kernel_rfl) (by kernel_rfl) (by kernel_rfl) h
def z8P : Ann := (.seq .auto (.seq .auto (.seq .auto .auto (some [(5, (.one (.int .i64)))])) none) none)
def z5f (p0 : Int) (p1 : Int) (K : Value → PT) : PT :=
 L.guard (p1 ≠ (0 : Int)) <|
 L.join (Y := Int × Unit) (fun k1 =>
  L.ite (decide ((Int.tmod p0 p1) < 0)) (
   k1 (IntKind.wrap .i64 ((Int.tmod p0 p1) + p1), ())) <|
  k1 (Int.tmod p0 p1, ())) fun z2 =>
 K (.int .i64 z2.1)
theorem z8L (p0 : Int) (p1 : Int) {K : Value → PT} {w : World} (h : z5f p0 p1 K w) : CT Pr z19 [.int .i64 p0, .int .i64 p1] K w :=
 C_of (fn := Tryz.f25) (an := z8P) (args := [.v (.int .i64 p0), .v (.int .i64 p1)]) (by kernel_rfl) (by kernel_rfl) (by kernel_rfl) h
def za4 (p0 : Int) (p1 : Int) (K : Value → PT) : PT :=
 L.ite (decide (p0 ≤ 0)) (
  K (.int .i64 2)) <|
 L.guard (p0 ≠ (0 : Int)) <|
 K (.int .i64 (IntKind.wrap .i64 ((IntKind.wrap .i64 (Int.tdiv (IntKind.wrap .i64 ((IntKind.wrap .i64 ((if 0 > p1 then 0 else p1) + p0)) - 1)) p0)) + 2)))
theorem ze4 (p0 : Int) (p1 : Int) {K : Value → PT} {w : World} (h : za4 p0 p1 K w) : CT Pr z9C [.int .i64 p0, .int .i64 p1] K w :=
 C_of (fn := Tryz.f26) (an := .auto) (args := [.v (.int .i64 p0), .v (.int .i64 p1)]) (by kernel_rfl) (by kernel_rfl) (by kernel_rfl) h
def zfp : Ann := (.seq .auto (.seq .auto (.seq (.seq .auto (.one [(5, (.one (.slice))), (8, (.one (.int .i64)))] .auto) none) .auto none) none) none)
def zbd (p0 : Option Addr) (p1 : Int) (K : Value → PT) : PT :=
 L.loop (Y := Sl × Int × Unit) (⟨none, 0, 0⟩, 0, ()) fun y1 again2 =>
 L.ite (decide (y1.2.1 < (if 0 > p1 then 0 else p1))) (
  L.call Pr z4R [.pointer p0] rL fun (x3 : Sl) =>
  L.sem Pr (.one (.one .slice)) (Builtin.append_ #[z05, z05] z05 #[.slice y1.1.a y1.1.len y1.1.cap, .slice x3.a x3.len x3.cap]) fun (s4 : Sl) =>
  again2 (⟨s4.a, s4.len, s4.cap⟩, IntKind.wrap .i64 (y1.2.1 + 1), ())) <|
 L.call Pr z0I [.slice y1.1.a y1.1.len y1.1.cap] rL fun (x5 : Sl) =>
 K (.slice x5.a x5.len x5.cap)
theorem zfk (p0 : Option Addr) (p1 : Int) {K : Value → PT} {w : World} (h : zbd p0 p1 K w) : CT Pr z67 [.pointer p0, .int .i64 p1] K w :=
 C_of (fn := Tryz.f28) (an := zfp) (args := [.v (.pointer p0), .v (.int .i64 p1)]) (by kernel_rfl) (by kernel_rfl) (by kernel_rfl) h
def zef : Ann := (.seq .auto (.seq .auto (.seq .auto (.seq (.seq .auto .auto (some [(61, (.one (.bool)))])) (.seq (.seq .auto (.cond .auto (.seq .auto (.cond .auto (.seq .auto (.cond .auto (.seq .auto (.cond .auto .auto) none)) none)) none)) none) .auto (some [])) none) none) none) none)
def za7 (p0 : ht1) (K : Value → PT) : PT :=
 L.new [.int .i64 p0.1, .string p0.2.1, .string p0.2.2.1, .int .i64 p0.2.2.2.1, .int .i64 p0.2.2.2.2.1, .string p0.2.2.2.2.2.1, .int .i64 p0.2.2.2.2.2.2.1, .int .i64 p0.2.2.2.2.2.2.2.1, .int .i64 p0.2.2.2.2.2.2.2.2.1, .int .i64 p0.2.2.2.2.2.2.2.2.2.1, .int .i64 p0.2.2.2.2.2.2.2.2.2.2.1, .string p0.2.2.2.2.2.2.2.2.2.2.2.1, .string p0.2.2.2.2.2.2.2.2.2.2.2.2.1, .slice p0.2.2.2.2.2.2.2.2.2.2.2.2.2.1.a p0.2.2.2.2.2.2.2.2.2.2.2.2.2.1.len p0.2.2.2.2.2.2.2.2.2.2.2.2.2.1.cap, .int .i64 p0.2.2.2.2.2.2.2.2.2.2.2.2.2.2.1] z0p fun b1 =>
 L.load eI6 ((⟨b1, 0, none⟩ : Addr).add 0) fun (x2 : Int) =>
 L.call Pr z6R [.int .i64 x2] (.tup [(.agg lf4), eB6]) fun (x3 : pt2) =>
 L.new [.bool false, .bool false, .bool false, .bool false, .bool false, .bool false] zcf fun b4 =>
 L.store (⟨b4, 0, none⟩) [.bool x3.1.1, .bool x3.1.2.1, .bool x3.1.2.2.1, .bool x3.1.2.2.2.1, .bool x3.1.2.2.2.2.1, .bool x3.1.2.2.2.2.2.1] <|
 L.ite (!x3.2.1) (
  K (.int .i64 12)) <|
 L.join (Y := Bool × Unit) (fun k5 =>
  L.load eB6 ((⟨b4, 0, none⟩ : Addr).add 0) fun (x7 : Bool) =>
  L.load eI6 ((⟨b1, 0, none⟩ : Addr).add 3) fun (x8 : Int) =>
  L.call Pr z3S [.bool x7, .int .i64 x8] rB fun (x9 : Bool) =>
  L.ite (!x9) (
   k5 (true, ())) <|
  L.load eB6 ((⟨b4, 0, none⟩ : Addr).add 1) fun (x10 : Bool) =>
  L.load eS6 ((⟨b1, 0, none⟩ : Addr).add 1) fun (x11 : ByteArray) =>
  L.call Pr z2D [.bool x10, .string x11] rB fun (x12 : Bool) =>
  L.ite (!x12) (
   k5 (true, ())) <|
  L.load eB6 ((⟨b4, 0, none⟩ : Addr).add 2) fun (x13 : Bool) =>
  L.load eS6 ((⟨b1, 0, none⟩ : Addr).add 2) fun (x14 : ByteArray) =>
  L.call Pr z2D [.bool x13, .string x14] rB fun (x15 : Bool) =>
  L.ite (!x15) (
   k5 (true, ())) <|
  L.load eB6 ((⟨b4, 0, none⟩ : Addr).add 3) fun (x16 : Bool) =>
  L.load eI6 ((⟨b1, 0, none⟩ : Addr).add 4) fun (x17 : Int) =>
  L.call Pr z3S [.bool x16, .int .i64 x17] rB fun (x18 : Bool) =>
  L.ite (!x18) (
   k5 (true, ())) <|
  L.load eB6 ((⟨b4, 0, none⟩ : Addr).add 4) fun (x19 : Bool) =>
  L.load (.agg lf0) ((⟨b1, 0, none⟩ : Addr).add 5) fun (x20 : pt0) =>
  L.call Pr z2E [.bool x19, (qa0 x20)] rB fun (x21 : Bool) =>
  L.ite (!x21) (
   k5 (true, ())) <|
  L.load eB6 ((⟨b4, 0, none⟩ : Addr).add 5) fun (x22 : Bool) =>
  L.ite (!x22) (
   L.load (.agg [.str, .str, .slice, .int .i64]) ((⟨b1, 0, none⟩ : Addr).add 11) fun (x23 : pt3) =>
   L.call Pr z7J [.agg #[.string x23.1, .string x23.2.1, .slice x23.2.2.1.a x23.2.2.1.len x23.2.2.1.cap, .int .i64 x23.2.2.2.1]] rB fun (x24 : Bool) =>
   k5 (!x24, ())) <|
  k5 (false, ())) fun z6 =>
 L.ite z6.1 (
  K (.int .i64 2)) <|
 L.join (Y := Unit) (fun k25 =>
  L.load eB6 ((⟨b4, 0, none⟩ : Addr).add 0) fun (x27 : Bool) =>
  L.ite x27 (
   L.load (.agg lf1) (⟨b1, 0, none⟩) fun (x28 : pt1) =>
   L.call Pr z6o [(qa1 x28)] rB fun (x29 : Bool) =>
   L.ite (!x29) (
    K (.int .i64 2)) <|
   L.load eB6 ((⟨b4, 0, none⟩ : Addr).add 1) fun (x30 : Bool) =>
   L.ite x30 (
    L.load (.agg lf1) (⟨b1, 0, none⟩) fun (x31 : pt1) =>
    L.call Pr z5m [(qa1 x31)] rB fun (x32 : Bool) =>
    L.ite (!x32) (
     K (.int .i64 1)) <|
    L.load eB6 ((⟨b4, 0, none⟩ : Addr).add 2) fun (x33 : Bool) =>
    L.ite x33 (
     L.load eS6 ((⟨b1, 0, none⟩ : Addr).add 2) fun (x34 : ByteArray) =>
     L.ite (!(x34.toList == s_.toList)) (
      L.load eS6 ((⟨b1, 0, none⟩ : Addr).add 2) fun (x35 : ByteArray) =>
      L.call Pr z2C [.string x35] rB fun (x36 : Bool) =>
      L.ite (!x36) (
       K (.int .i64 1)) <|
      L.load eB6 ((⟨b4, 0, none⟩ : Addr).add 3) fun (x37 : Bool) =>
      L.ite x37 (
       L.load eI6 ((⟨b1, 0, none⟩ : Addr).add 4) fun (x38 : Int) =>
       L.call Pr z0C [.int .i64 x38, .int .i64 0, .int .i64 2147483647] rB fun (x39 : Bool) =>
       L.ite (!x39) (
        K (.int .i64 2)) <|
       L.load eB6 ((⟨b4, 0, none⟩ : Addr).add 4) fun (x40 : Bool) =>
       L.ite x40 (
        L.load (.agg lf0) ((⟨b1, 0, none⟩ : Addr).add 5) fun (x41 : pt0) =>
        L.call Pr z0j [(qa0 x41)] rI fun (x42 : Int) =>
        K (.int .i64 x42)) <|
       L.load eB6 ((⟨b4, 0, none⟩ : Addr).add 5) fun (x43 : Bool) =>
       L.ite x43 (
        L.load (.agg [.str, .str, .slice, .int .i64]) ((⟨b1, 0, none⟩ : Addr).add 11) fun (x44 : pt3) =>
        L.call Pr z0r [.agg #[.string x44.1, .string x44.2.1, .slice x44.2.2.1.a x44.2.2.1.len x44.2.2.1.cap, .int .i64 x44.2.2.2.1]] rI fun (x45 : Int) =>
        K (.int .i64 x45)) <|
       k25 (())) <|
      L.load eB6 ((⟨b4, 0, none⟩ : Addr).add 4) fun (x46 : Bool) =>
      L.ite x46 (
       L.load (.agg lf0) ((⟨b1, 0, none⟩ : Addr).add 5) fun (x47 : pt0) =>
       L.call Pr z0j [(qa0 x47)] rI fun (x48 : Int) =>
       K (.int .i64 x48)) <|
      L.load eB6 ((⟨b4, 0, none⟩ : Addr).add 5) fun (x49 : Bool) =>
      L.ite x49 (
       L.load (.agg [.str, .str, .slice, .int .i64]) ((⟨b1, 0, none⟩ : Addr).add 11) fun (x50 : pt3) =>
       L.call Pr z0r [.agg #[.string x50.1, .string x50.2.1, .slice x50.2.2.1.a x50.2.2.1.len x50.2.2.1.cap, .int .i64 x50.2.2.2.1]] rI fun (x51 : Int) =>
       K (.int .i64 x51)) <|
      k25 (())) <|
     L.load eB6 ((⟨b4, 0, none⟩ : Addr).add 3) fun (x52 : Bool) =>
     L.ite x52 (
      L.load eI6 ((⟨b1, 0, none⟩ : Addr).add 4) fun (x53 : Int) =>
      L.call Pr z0C [.int .i64 x53, .int .i64 0, .int .i64 2147483647] rB fun (x54 : Bool) =>
      L.ite (!x54) (
       K (.int .i64 2)) <|
      L.load eB6 ((⟨b4, 0, none⟩ : Addr).add 4) fun (x55 : Bool) =>
      L.ite x55 (
       L.load (.agg lf0) ((⟨b1, 0, none⟩ : Addr).add 5) fun (x56 : pt0) =>
       L.call Pr z0j [(qa0 x56)] rI fun (x57 : Int) =>
       K (.int .i64 x57)) <|
      L.load eB6 ((⟨b4, 0, none⟩ : Addr).add 5) fun (x58 : Bool) =>
      L.ite x58 (
       L.load (.agg [.str, .str, .slice, .int .i64]) ((⟨b1, 0, none⟩ : Addr).add 11) fun (x59 : pt3) =>
       L.call Pr z0r [.agg #[.string x59.1, .string x59.2.1, .slice x59.2.2.1.a x59.2.2.1.len x59.2.2.1.cap, .int .i64 x59.2.2.2.1]] rI fun (x60 : Int) =>
       K (.int .i64 x60)) <|
      k25 (())) <|
     L.load eB6 ((⟨b4, 0, none⟩ : Addr).add 4) fun (x61 : Bool) =>
     L.ite x61 (
      L.load (.agg lf0) ((⟨b1, 0, none⟩ : Addr).add 5) fun (x62 : pt0) =>
      L.call Pr z0j [(qa0 x62)] rI fun (x63 : Int) =>
      K (.int .i64 x63)) <|
     L.load eB6 ((⟨b4, 0, none⟩ : Addr).add 5) fun (x64 : Bool) =>
     L.ite x64 (
      L.load (.agg [.str, .str, .slice, .int .i64]) ((⟨b1, 0, none⟩ : Addr).add 11) fun (x65 : pt3) =>
      L.call Pr z0r [.agg #[.string x65.1, .string x65.2.1, .slice x65.2.2.1.a x65.2.2.1.len x65.2.2.1.cap, .int .i64 x65.2.2.2.1]] rI fun (x66 : Int) =>
      K (.int .i64 x66)) <|
     k25 (())) <|
    L.load eB6 ((⟨b4, 0, none⟩ : Addr).add 3) fun (x67 : Bool) =>
    L.ite x67 (
     L.load eI6 ((⟨b1, 0, none⟩ : Addr).add 4) fun (x68 : Int) =>
     L.call Pr z0C [.int .i64 x68, .int .i64 0, .int .i64 2147483647] rB fun (x69 : Bool) =>
     L.ite (!x69) (
      K (.int .i64 2)) <|
     L.load eB6 ((⟨b4, 0, none⟩ : Addr).add 4) fun (x70 : Bool) =>
     L.ite x70 (
      L.load (.agg lf0) ((⟨b1, 0, none⟩ : Addr).add 5) fun (x71 : pt0) =>
      L.call Pr z0j [(qa0 x71)] rI fun (x72 : Int) =>
      K (.int .i64 x72)) <|
     L.load eB6 ((⟨b4, 0, none⟩ : Addr).add 5) fun (x73 : Bool) =>
     L.ite x73 (
      L.load (.agg [.str, .str, .slice, .int .i64]) ((⟨b1, 0, none⟩ : Addr).add 11) fun (x74 : pt3) =>
      L.call Pr z0r [.agg #[.string x74.1, .string x74.2.1, .slice x74.2.2.1.a x74.2.2.1.len x74.2.2.1.cap, .int .i64 x74.2.2.2.1]] rI fun (x75 : Int) =>
      K (.int .i64 x75)) <|
     k25 (())) <|
    L.load eB6 ((⟨b4, 0, none⟩ : Addr).add 4) fun (x76 : Bool) =>
    L.ite x76 (
     L.load (.agg lf0) ((⟨b1, 0, none⟩ : Addr).add 5) fun (x77 : pt0) =>
     L.call Pr z0j [(qa0 x77)] rI fun (x78 : Int) =>
     K (.int .i64 x78)) <|
    L.load eB6 ((⟨b4, 0, none⟩ : Addr).add 5) fun (x79 : Bool) =>
    L.ite x79 (
     L.load (.agg [.str, .str, .slice, .int .i64]) ((⟨b1, 0, none⟩ : Addr).add 11) fun (x80 : pt3) =>
     L.call Pr z0r [.agg #[.string x80.1, .string x80.2.1, .slice x80.2.2.1.a x80.2.2.1.len x80.2.2.1.cap, .int .i64 x80.2.2.2.1]] rI fun (x81 : Int) =>
     K (.int .i64 x81)) <|
    k25 (())) <|
   L.load eB6 ((⟨b4, 0, none⟩ : Addr).add 2) fun (x82 : Bool) =>
   L.ite x82 (
    L.load eS6 ((⟨b1, 0, none⟩ : Addr).add 2) fun (x83 : ByteArray) =>
    L.ite (!(x83.toList == s_.toList)) (
     L.load eS6 ((⟨b1, 0, none⟩ : Addr).add 2) fun (x84 : ByteArray) =>
     L.call Pr z2C [.string x84] rB fun (x85 : Bool) =>
     L.ite (!x85) (
      K (.int .i64 1)) <|
     L.load eB6 ((⟨b4, 0, none⟩ : Addr).add 3) fun (x86 : Bool) =>
     L.ite x86 (
      L.load eI6 ((⟨b1, 0, none⟩ : Addr).add 4) fun (x87 : Int) =>
      L.call Pr z0C [.int .i64 x87, .int .i64 0, .int .i64 2147483647] rB fun (x88 : Bool) =>
      L.ite (!x88) (
       K (.int .i64 2)) <|
      L.load eB6 ((⟨b4, 0, none⟩ : Addr).add 4) fun (x89 : Bool) =>
      L.ite x89 (
       L.load (.agg lf0) ((⟨b1, 0, none⟩ : Addr).add 5) fun (x90 : pt0) =>
       L.call Pr z0j [(qa0 x90)] rI fun (x91 : Int) =>
       K (.int .i64 x91)) <|
      L.load eB6 ((⟨b4, 0, none⟩ : Addr).add 5) fun (x92 : Bool) =>
      L.ite x92 (
       L.load (.agg [.str, .str, .slice, .int .i64]) ((⟨b1, 0, none⟩ : Addr).add 11) fun (x93 : pt3) =>
       L.call Pr z0r [.agg #[.string x93.1, .string x93.2.1, .slice x93.2.2.1.a x93.2.2.1.len x93.2.2.1.cap, .int .i64 x93.2.2.2.1]] rI fun (x94 : Int) =>
       K (.int .i64 x94)) <|
      k25 (())) <|
     L.load eB6 ((⟨b4, 0, none⟩ : Addr).add 4) fun (x95 : Bool) =>
     L.ite x95 (
      L.load (.agg lf0) ((⟨b1, 0, none⟩ : Addr).add 5) fun (x96 : pt0) =>
      L.call Pr z0j [(qa0 x96)] rI fun (x97 : Int) =>
      K (.int .i64 x97)) <|
     L.load eB6 ((⟨b4, 0, none⟩ : Addr).add 5) fun (x98 : Bool) =>
     L.ite x98 (
      L.load (.agg [.str, .str, .slice, .int .i64]) ((⟨b1, 0, none⟩ : Addr).add 11) fun (x99 : pt3) =>
      L.call Pr z0r [.agg #[.string x99.1, .string x99.2.1, .slice x99.2.2.1.a x99.2.2.1.len x99.2.2.1.cap, .int .i64 x99.2.2.2.1]] rI fun (x100 : Int) =>
      K (.int .i64 x100)) <|
     k25 (())) <|
    L.load eB6 ((⟨b4, 0, none⟩ : Addr).add 3) fun (x101 : Bool) =>
    L.ite x101 (
     L.load eI6 ((⟨b1, 0, none⟩ : Addr).add 4) fun (x102 : Int) =>
     L.call Pr z0C [.int .i64 x102, .int .i64 0, .int .i64 2147483647] rB fun (x103 : Bool) =>
     L.ite (!x103) (
      K (.int .i64 2)) <|
     L.load eB6 ((⟨b4, 0, none⟩ : Addr).add 4) fun (x104 : Bool) =>
     L.ite x104 (
      L.load (.agg lf0) ((⟨b1, 0, none⟩ : Addr).add 5) fun (x105 : pt0) =>
      L.call Pr z0j [(qa0 x105)] rI fun (x106 : Int) =>
      K (.int .i64 x106)) <|
     L.load eB6 ((⟨b4, 0, none⟩ : Addr).add 5) fun (x107 : Bool) =>
     L.ite x107 (
      L.load (.agg [.str, .str, .slice, .int .i64]) ((⟨b1, 0, none⟩ : Addr).add 11) fun (x108 : pt3) =>
      L.call Pr z0r [.agg #[.string x108.1, .string x108.2.1, .slice x108.2.2.1.a x108.2.2.1.len x108.2.2.1.cap, .int .i64 x108.2.2.2.1]] rI fun (x109 : Int) =>
      K (.int .i64 x109)) <|
     k25 (())) <|
    L.load eB6 ((⟨b4, 0, none⟩ : Addr).add 4) fun (x110 : Bool) =>
    L.ite x110 (
     L.load (.agg lf0) ((⟨b1, 0, none⟩ : Addr).add 5) fun (x111 : pt0) =>
     L.call Pr z0j [(qa0 x111)] rI fun (x112 : Int) =>
     K (.int .i64 x112)) <|
    L.load eB6 ((⟨b4, 0, none⟩ : Addr).add 5) fun (x113 : Bool) =>
    L.ite x113 (
     L.load (.agg [.str, .str, .slice, .int .i64]) ((⟨b1, 0, none⟩ : Addr).add 11) fun (x114 : pt3) =>
     L.call Pr z0r [.agg #[.string x114.1, .string x114.2.1, .slice x114.2.2.1.a x114.2.2.1.len x114.2.2.1.cap, .int .i64 x114.2.2.2.1]] rI fun (x115 : Int) =>
     K (.int .i64 x115)) <|
    k25 (())) <|
   L.load eB6 ((⟨b4, 0, none⟩ : Addr).add 3) fun (x116 : Bool) =>
   L.ite x116 (
    L.load eI6 ((⟨b1, 0, none⟩ : Addr).add 4) fun (x117 : Int) =>
    L.call Pr z0C [.int .i64 x117, .int .i64 0, .int .i64 2147483647] rB fun (x118 : Bool) =>
    L.ite (!x118) (
     K (.int .i64 2)) <|
    L.load eB6 ((⟨b4, 0, none⟩ : Addr).add 4) fun (x119 : Bool) =>
    L.ite x119 (
     L.load (.agg lf0) ((⟨b1, 0, none⟩ : Addr).add 5) fun (x120 : pt0) =>
     L.call Pr z0j [(qa0 x120)] rI fun (x121 : Int) =>
     K (.int .i64 x121)) <|
    L.load eB6 ((⟨b4, 0, none⟩ : Addr).add 5) fun (x122 : Bool) =>
    L.ite x122 (
     L.load (.agg [.str, .str, .slice, .int .i64]) ((⟨b1, 0, none⟩ : Addr).add 11) fun (x123 : pt3) =>
     L.call Pr z0r [.agg #[.string x123.1, .string x123.2.1, .slice x123.2.2.1.a x123.2.2.1.len x123.2.2.1.cap, .int .i64 x123.2.2.2.1]] rI fun (x124 : Int) =>
     K (.int .i64 x124)) <|
    k25 (())) <|
   L.load eB6 ((⟨b4, 0, none⟩ : Addr).add 4) fun (x125 : Bool) =>
   L.ite x125 (
    L.load (.agg lf0) ((⟨b1, 0, none⟩ : Addr).add 5) fun (x126 : pt0) =>
    L.call Pr z0j [(qa0 x126)] rI fun (x127 : Int) =>
    K (.int .i64 x127)) <|
   L.load eB6 ((⟨b4, 0, none⟩ : Addr).add 5) fun (x128 : Bool) =>
   L.ite x128 (
    L.load (.agg [.str, .str, .slice, .int .i64]) ((⟨b1, 0, none⟩ : Addr).add 11) fun (x129 : pt3) =>
    L.call Pr z0r [.agg #[.string x129.1, .string x129.2.1, .slice x129.2.2.1.a x129.2.2.1.len x129.2.2.1.cap, .int .i64 x129.2.2.2.1]] rI fun (x130 : Int) =>
    K (.int .i64 x130)) <|
   k25 (())) <|
  L.load eB6 ((⟨b4, 0, none⟩ : Addr).add 1) fun (x131 : Bool) =>
  L.ite x131 (
   L.load (.agg lf1) (⟨b1, 0, none⟩) fun (x132 : pt1) =>
   L.call Pr z5m [(qa1 x132)] rB fun (x133 : Bool) =>
   L.ite (!x133) (
    K (.int .i64 1)) <|
   L.load eB6 ((⟨b4, 0, none⟩ : Addr).add 2) fun (x134 : Bool) =>
   L.ite x134 (
    L.load eS6 ((⟨b1, 0, none⟩ : Addr).add 2) fun (x135 : ByteArray) =>
    L.ite (!(x135.toList == s_.toList)) (
     L.load eS6 ((⟨b1, 0, none⟩ : Addr).add 2) fun (x136 : ByteArray) =>
     L.call Pr z2C [.string x136] rB fun (x137 : Bool) =>
     L.ite (!x137) (
      K (.int .i64 1)) <|
     L.load eB6 ((⟨b4, 0, none⟩ : Addr).add 3) fun (x138 : Bool) =>
     L.ite x138 (
      L.load eI6 ((⟨b1, 0, none⟩ : Addr).add 4) fun (x139 : Int) =>
      L.call Pr z0C [.int .i64 x139, .int .i64 0, .int .i64 2147483647] rB fun (x140 : Bool) =>
      L.ite (!x140) (
       K (.int .i64 2)) <|
      L.load eB6 ((⟨b4, 0, none⟩ : Addr).add 4) fun (x141 : Bool) =>
      L.ite x141 (
       L.load (.agg lf0) ((⟨b1, 0, none⟩ : Addr).add 5) fun (x142 : pt0) =>
       L.call Pr z0j [(qa0 x142)] rI fun (x143 : Int) =>
       K (.int .i64 x143)) <|
      L.load eB6 ((⟨b4, 0, none⟩ : Addr).add 5) fun (x144 : Bool) =>
      L.ite x144 (
       L.load (.agg [.str, .str, .slice, .int .i64]) ((⟨b1, 0, none⟩ : Addr).add 11) fun (x145 : pt3) =>
       L.call Pr z0r [.agg #[.string x145.1, .string x145.2.1, .slice x145.2.2.1.a x145.2.2.1.len x145.2.2.1.cap, .int .i64 x145.2.2.2.1]] rI fun (x146 : Int) =>
       K (.int .i64 x146)) <|
      k25 (())) <|
     L.load eB6 ((⟨b4, 0, none⟩ : Addr).add 4) fun (x147 : Bool) =>
     L.ite x147 (
      L.load (.agg lf0) ((⟨b1, 0, none⟩ : Addr).add 5) fun (x148 : pt0) =>
      L.call Pr z0j [(qa0 x148)] rI fun (x149 : Int) =>
      K (.int .i64 x149)) <|
     L.load eB6 ((⟨b4, 0, none⟩ : Addr).add 5) fun (x150 : Bool) =>
     L.ite x150 (
      L.load (.agg [.str, .str, .slice, .int .i64]) ((⟨b1, 0, none⟩ : Addr).add 11) fun (x151 : pt3) =>
      L.call Pr z0r [.agg #[.string x151.1, .string x151.2.1, .slice x151.2.2.1.a x151.2.2.1.len x151.2.2.1.cap, .int .i64 x151.2.2.2.1]] rI fun (x152 : Int) =>
      K (.int .i64 x152)) <|
     k25 (())) <|
    L.load eB6 ((⟨b4, 0, none⟩ : Addr).add 3) fun (x153 : Bool) =>
    L.ite x153 (
     L.load eI6 ((⟨b1, 0, none⟩ : Addr).add 4) fun (x154 : Int) =>
     L.call Pr z0C [.int .i64 x154, .int .i64 0, .int .i64 2147483647] rB fun (x155 : Bool) =>
     L.ite (!x155) (
      K (.int .i64 2)) <|
     L.load eB6 ((⟨b4, 0, none⟩ : Addr).add 4) fun (x156 : Bool) =>
     L.ite x156 (
      L.load (.agg lf0) ((⟨b1, 0, none⟩ : Addr).add 5) fun (x157 : pt0) =>
      L.call Pr z0j [(qa0 x157)] rI fun (x158 : Int) =>
      K (.int .i64 x158)) <|
     L.load eB6 ((⟨b4, 0, none⟩ : Addr).add 5) fun (x159 : Bool) =>
     L.ite x159 (
      L.load (.agg [.str, .str, .slice, .int .i64]) ((⟨b1, 0, none⟩ : Addr).add 11) fun (x160 : pt3) =>
      L.call Pr z0r [.agg #[.string x160.1, .string x160.2.1, .slice x160.2.2.1.a x160.2.2.1.len x160.2.2.1.cap, .int .i64 x160.2.2.2.1]] rI fun (x161 : Int) =>
      K (.int .i64 x161)) <|
     k25 (())) <|
    L.load eB6 ((⟨b4, 0, none⟩ : Addr).add 4) fun (x162 : Bool) =>
    L.ite x162 (
     L.load (.agg lf0) ((⟨b1, 0, none⟩ : Addr).add 5) fun (x163 : pt0) =>
     L.call Pr z0j [(qa0 x163)] rI fun (x164 : Int) =>
     K (.int .i64 x164)) <|
    L.load eB6 ((⟨b4, 0, none⟩ : Addr).add 5) fun (x165 : Bool) =>
    L.ite x165 (
     L.load (.agg [.str, .str, .slice, .int .i64]) ((⟨b1, 0, none⟩ : Addr).add 11) fun (x166 : pt3) =>
     L.call Pr z0r [.agg #[.string x166.1, .string x166.2.1, .slice x166.2.2.1.a x166.2.2.1.len x166.2.2.1.cap, .int .i64 x166.2.2.2.1]] rI fun (x167 : Int) =>
     K (.int .i64 x167)) <|
    k25 (())) <|
   L.load eB6 ((⟨b4, 0, none⟩ : Addr).add 3) fun (x168 : Bool) =>
   L.ite x168 (
    L.load eI6 ((⟨b1, 0, none⟩ : Addr).add 4) fun (x169 : Int) =>
    L.call Pr z0C [.int .i64 x169, .int .i64 0, .int .i64 2147483647] rB fun (x170 : Bool) =>
    L.ite (!x170) (
     K (.int .i64 2)) <|
    L.load eB6 ((⟨b4, 0, none⟩ : Addr).add 4) fun (x171 : Bool) =>
    L.ite x171 (
     L.load (.agg lf0) ((⟨b1, 0, none⟩ : Addr).add 5) fun (x172 : pt0) =>
     L.call Pr z0j [(qa0 x172)] rI fun (x173 : Int) =>
     K (.int .i64 x173)) <|
    L.load eB6 ((⟨b4, 0, none⟩ : Addr).add 5) fun (x174 : Bool) =>
    L.ite x174 (
     L.load (.agg [.str, .str, .slice, .int .i64]) ((⟨b1, 0, none⟩ : Addr).add 11) fun (x175 : pt3) =>
     L.call Pr z0r [.agg #[.string x175.1, .string x175.2.1, .slice x175.2.2.1.a x175.2.2.1.len x175.2.2.1.cap, .int .i64 x175.2.2.2.1]] rI fun (x176 : Int) =>
     K (.int .i64 x176)) <|
    k25 (())) <|
   L.load eB6 ((⟨b4, 0, none⟩ : Addr).add 4) fun (x177 : Bool) =>
   L.ite x177 (
    L.load (.agg lf0) ((⟨b1, 0, none⟩ : Addr).add 5) fun (x178 : pt0) =>
    L.call Pr z0j [(qa0 x178)] rI fun (x179 : Int) =>
    K (.int .i64 x179)) <|
   L.load eB6 ((⟨b4, 0, none⟩ : Addr).add 5) fun (x180 : Bool) =>
   L.ite x180 (
    L.load (.agg [.str, .str, .slice, .int .i64]) ((⟨b1, 0, none⟩ : Addr).add 11) fun (x181 : pt3) =>
    L.call Pr z0r [.agg #[.string x181.1, .string x181.2.1, .slice x181.2.2.1.a x181.2.2.1.len x181.2.2.1.cap, .int .i64 x181.2.2.2.1]] rI fun (x182 : Int) =>
    K (.int .i64 x182)) <|
   k25 (())) <|
  L.load eB6 ((⟨b4, 0, none⟩ : Addr).add 2) fun (x183 : Bool) =>
  L.ite x183 (
   L.load eS6 ((⟨b1, 0, none⟩ : Addr).add 2) fun (x184 : ByteArray) =>
   L.ite (!(x184.toList == s_.toList)) (
    L.load eS6 ((⟨b1, 0, none⟩ : Addr).add 2) fun (x185 : ByteArray) =>
    L.call Pr z2C [.string x185] rB fun (x186 : Bool) =>
    L.ite (!x186) (
     K (.int .i64 1)) <|
    L.load eB6 ((⟨b4, 0, none⟩ : Addr).add 3) fun (x187 : Bool) =>
    L.ite x187 (
     L.load eI6 ((⟨b1, 0, none⟩ : Addr).add 4) fun (x188 : Int) =>
     L.call Pr z0C [.int .i64 x188, .int .i64 0, .int .i64 2147483647] rB fun (x189 : Bool) =>
     L.ite (!x189) (
      K (.int .i64 2)) <|
     L.load eB6 ((⟨b4, 0, none⟩ : Addr).add 4) fun (x190 : Bool) =>
     L.ite x190 (
      L.load (.agg lf0) ((⟨b1, 0, none⟩ : Addr).add 5) fun (x191 : pt0) =>
      L.call Pr z0j [(qa0 x191)] rI fun (x192 : Int) =>
      K (.int .i64 x192)) <|
     L.load eB6 ((⟨b4, 0, none⟩ : Addr).add 5) fun (x193 : Bool) =>
     L.ite x193 (
      L.load (.agg [.str, .str, .slice, .int .i64]) ((⟨b1, 0, none⟩ : Addr).add 11) fun (x194 : pt3) =>
      L.call Pr z0r [.agg #[.string x194.1, .string x194.2.1, .slice x194.2.2.1.a x194.2.2.1.len x194.2.2.1.cap, .int .i64 x194.2.2.2.1]] rI fun (x195 : Int) =>
      K (.int .i64 x195)) <|
     k25 (())) <|
    L.load eB6 ((⟨b4, 0, none⟩ : Addr).add 4) fun (x196 : Bool) =>
    L.ite x196 (
     L.load (.agg lf0) ((⟨b1, 0, none⟩ : Addr).add 5) fun (x197 : pt0) =>
     L.call Pr z0j [(qa0 x197)] rI fun (x198 : Int) =>
     K (.int .i64 x198)) <|
    L.load eB6 ((⟨b4, 0, none⟩ : Addr).add 5) fun (x199 : Bool) =>
    L.ite x199 (
     L.load (.agg [.str, .str, .slice, .int .i64]) ((⟨b1, 0, none⟩ : Addr).add 11) fun (x200 : pt3) =>
     L.call Pr z0r [.agg #[.string x200.1, .string x200.2.1, .slice x200.2.2.1.a x200.2.2.1.len x200.2.2.1.cap, .int .i64 x200.2.2.2.1]] rI fun (x201 : Int) =>
     K (.int .i64 x201)) <|
    k25 (())) <|
   L.load eB6 ((⟨b4, 0, none⟩ : Addr).add 3) fun (x202 : Bool) =>
   L.ite x202 (
    L.load eI6 ((⟨b1, 0, none⟩ : Addr).add 4) fun (x203 : Int) =>
    L.call Pr z0C [.int .i64 x203, .int .i64 0, .int .i64 2147483647] rB fun (x204 : Bool) =>
    L.ite (!x204) (
     K (.int .i64 2)) <|
    L.load eB6 ((⟨b4, 0, none⟩ : Addr).add 4) fun (x205 : Bool) =>
    L.ite x205 (
     L.load (.agg lf0) ((⟨b1, 0, none⟩ : Addr).add 5) fun (x206 : pt0) =>
     L.call Pr z0j [(qa0 x206)] rI fun (x207 : Int) =>
     K (.int .i64 x207)) <|
    L.load eB6 ((⟨b4, 0, none⟩ : Addr).add 5) fun (x208 : Bool) =>
    L.ite x208 (
     L.load (.agg [.str, .str, .slice, .int .i64]) ((⟨b1, 0, none⟩ : Addr).add 11) fun (x209 : pt3) =>
     L.call Pr z0r [.agg #[.string x209.1, .string x209.2.1, .slice x209.2.2.1.a x209.2.2.1.len x209.2.2.1.cap, .int .i64 x209.2.2.2.1]] rI fun (x210 : Int) =>
     K (.int .i64 x210)) <|
    k25 (())) <|
   L.load eB6 ((⟨b4, 0, none⟩ : Addr).add 4) fun (x211 : Bool) =>
   L.ite x211 (
    L.load (.agg lf0) ((⟨b1, 0, none⟩ : Addr).add 5) fun (x212 : pt0) =>
    L.call Pr z0j [(qa0 x212)] rI fun (x213 : Int) =>
    K (.int .i64 x213)) <|
   L.load eB6 ((⟨b4, 0, none⟩ : Addr).add 5) fun (x214 : Bool) =>
   L.ite x214 (
    L.load (.agg [.str, .str, .slice, .int .i64]) ((⟨b1, 0, none⟩ : Addr).add 11) fun (x215 : pt3) =>
    L.call Pr z0r [.agg #[.string x215.1, .string x215.2.1, .slice x215.2.2.1.a x215.2.2.1.len x215.2.2.1.cap, .int .i64 x215.2.2.2.1]] rI fun (x216 : Int) =>
    K (.int .i64 x216)) <|
   k25 (())) <|
  L.load eB6 ((⟨b4, 0, none⟩ : Addr).add 3) fun (x217 : Bool) =>
  L.ite x217 (
   L.load eI6 ((⟨b1, 0, none⟩ : Addr).add 4) fun (x218 : Int) =>
   L.call Pr z0C [.int .i64 x218, .int .i64 0, .int .i64 2147483647] rB fun (x219 : Bool) =>
   L.ite (!x219) (
    K (.int .i64 2)) <|
   L.load eB6 ((⟨b4, 0, none⟩ : Addr).add 4) fun (x220 : Bool) =>
   L.ite x220 (
    L.load (.agg lf0) ((⟨b1, 0, none⟩ : Addr).add 5) fun (x221 : pt0) =>
    L.call Pr z0j [(qa0 x221)] rI fun (x222 : Int) =>
    K (.int .i64 x222)) <|
   L.load eB6 ((⟨b4, 0, none⟩ : Addr).add 5) fun (x223 : Bool) =>
   L.ite x223 (
    L.load (.agg [.str, .str, .slice, .int .i64]) ((⟨b1, 0, none⟩ : Addr).add 11) fun (x224 : pt3) =>
    L.call Pr z0r [.agg #[.string x224.1, .string x224.2.1, .slice x224.2.2.1.a x224.2.2.1.len x224.2.2.1.cap, .int .i64 x224.2.2.2.1]] rI fun (x225 : Int) =>
    K (.int .i64 x225)) <|
   k25 (())) <|
  L.load eB6 ((⟨b4, 0, none⟩ : Addr).add 4) fun (x226 : Bool) =>
  L.ite x226 (
   L.load (.agg lf0) ((⟨b1, 0, none⟩ : Addr).add 5) fun (x227 : pt0) =>
   L.call Pr z0j [(qa0 x227)] rI fun (x228 : Int) =>
   K (.int .i64 x228)) <|
  L.load eB6 ((⟨b4, 0, none⟩ : Addr).add 5) fun (x229 : Bool) =>
  L.ite x229 (
   L.load (.agg [.str, .str, .slice, .int .i64]) ((⟨b1, 0, none⟩ : Addr).add 11) fun (x230 : pt3) =>
   L.call Pr z0r [.agg #[.string x230.1, .string x230.2.1, .slice x230.2.2.1.a x230.2.2.1.len x230.2.2.1.cap, .int .i64 x230.2.2.2.1]] rI fun (x231 : Int) =>
   K (.int .i64 x231)) <|
  k25 (())) fun z26 =>
 K (.int .i64 0)
theorem ze7 (p0 : ht1) {K : Value → PT} {w : World} (h : za7 p0 K w) : CT Pr z6S [(.ag (qc1 p0) : SV).toV] K w :=
 C_of (fn := Tryz.f30) (an := zef) (args := [.ag (qc1 p0)]) (by kernel_rfl) (by kernel_rfl) (by kernel_rfl) h
def z8M : Ann := (.seq .auto (.seq .auto (.seq (.seq .auto (.one [(5, (.one (.slice))), (14, (.one (.int .i64)))] (.seq .auto (.seq .auto (.seq .auto .auto (some [(5, (.one (.slice)))])) none) none)) none) .auto none) none) none)
def z58 (p0 : ByteArray) (p1 : Sl) (K : Value → PT) : PT :=
 L.new [.string p0] z01 fun b1 =>
 L.loop (Y := Sl × Int × Unit) (⟨some ⟨b1, 0, none⟩, 1, 1⟩, 0, ()) fun y2 again3 =>
 L.ite (decide (y2.2.1 < ((p1.len : Nat) : Int))) (
  L.join (Y := Sl × Unit) (fun k4 =>
   L.idx p1.a y2.2.1 p1.len 1 fun a6 =>
   L.load eS6 a6 fun (x7 : ByteArray) =>
   L.ite true (
    L.new [.string x7] z01 fun b8 =>
    L.sem Pr (.one (.one .slice)) (Builtin.append_ #[z05, z05] z05 #[.slice y2.1.a y2.1.len y2.1.cap, .slice (some ⟨b8, 0, none⟩) 1 1]) fun (s9 : Sl) =>
    k4 (⟨s9.a, s9.len, s9.cap⟩, ())) <|
   L.semR Pr (.tup [eI6, .one .bool]) (Instr.typeAssert (.iface z01 (.string x7)) z9d z0i true) fun (x10 : Int × Bool × Unit) =>
   L.ite x10.2.1 (
    L.call Pr z3L [.int .i64 x10.1] rS fun (x11 : ByteArray) =>
    L.new [.string x11] z01 fun b12 =>
    L.sem Pr (.one (.one .slice)) (Builtin.append_ #[z05, z05] z05 #[.slice y2.1.a y2.1.len y2.1.cap, .slice (some ⟨b12, 0, none⟩) 1 1]) fun (s13 : Sl) =>
    k4 (⟨s13.a, s13.len, s13.cap⟩, ())) <|
   k4 (⟨y2.1.a, y2.1.len, y2.1.cap⟩, ())) fun z5 =>
  again3 (⟨z5.1.a, z5.1.len, z5.1.cap⟩, IntKind.wrap .i64 (y2.2.1 + 1), ())) <|
 L.call Pr z6l [.slice y2.1.a y2.1.len y2.1.cap, .string z9v] rS fun (x14 : ByteArray) =>
 K (.string x14)
theorem z8D (p0 : ByteArray) (p1 : Sl) {K : Value → PT} {w : World} (h : z58 p0 p1 K w) : CT Pr z0f [.string p0, .slice p1.a p1.len p1.cap] K w :=
 C_of (fn := Tryz.f31) (an := z8M) (args := [.v (.string p0), .v (.slice p1.a p1.len p1.cap)]) (by kernel_rfl) (by kernel_rfl) (by kernel_rfl) h
def z6I (p0 : Int) (K : Value → PT) : PT :=
 L.ite (decide (p0 ≤ 6)) (
  L.call Pr zbZ [.int .i64 p0] rS fun (x1 : ByteArray) =>
  K (.string x1)) <|
 L.call Pr zd1 [.int .i64 p0] rS fun (x2 : ByteArray) =>
 K (.string x2)
theorem zaT (p0 : Int) {K : Value → PT} {w : World} (h : z6I p0 K w) : CT Pr z3u [.int .i64 p0] K w :=
 C_of (fn := Tryz.f32) (an := .auto) (args := [.v (.int .i64 p0)]) (by kernel_rfl) (by kernel_rfl) (by kernel_rfl) h
def z2Y (p0 : Option Addr) (p1 : ht1) (K : Value → PT) : PT :=
 L.new [.int .i64 p1.1, .string p1.2.1, .string p1.2.2.1, .int .i64 p1.2.2.2.1, .int .i64 p1.2.2.2.2.1, .string p1.2.2.2.2.2.1, .int .i64 p1.2.2.2.2.2.2.1, .int .i64 p1.2.2.2.2.2.2.2.1, .int .i64 p1.2.2.2.2.2.2.2.2.1, .int .i64 p1.2.2.2.2.2.2.2.2.2.1, .int .i64 p1.2.2.2.2.2.2.2.2.2.2.1, .string p1.2.2.2.2.2.2.2.2.2.2.2.1, .string p1.2.2.2.2.2.2.2.2.2.2.2.2.1, .slice p1.2.2.2.2.2.2.2.2.2.2.2.2.2.1.a p1.2.2.2.2.2.2.2.2.2.2.2.2.2.1.len p1.2.2.2.2.2.2.2.2.2.2.2.2.2.1.cap, .int .i64 p1.2.2.2.2.2.2.2.2.2.2.2.2.2.2.1] z0p fun b1 =>
 L.draw <|
 L.nonnil p0 fun a2 =>
 L.load eP6 (a2.add 0) fun (x3 : Option Addr) =>
 L.load (.agg lf0) ((⟨b1, 0, none⟩ : Addr).add 5) fun (x4 : pt0) =>
 L.load eI6 ((⟨b1, 0, none⟩ : Addr).add 3) fun (x5 : Int) =>
 L.call Pr z2B [.pointer x3, (qa0 x4), .int .i64 x5] (.tup [eI6, eI6]) fun (x6 : Int × Int × Unit) =>
 L.load eS6 (((⟨b1, 0, none⟩ : Addr).add 5).add 0) fun (x7 : ByteArray) =>
 L.call Pr z7F [.string zdz, .string x7, .int .i64 x6.1, .int .i64 x6.2.1] rL fun (x8 : Sl) =>
 K (.slice x8.a x8.len x8.cap)
theorem z7v (p0 : Option Addr) (p1 : ht1) {K : Value → PT} {w : World} (h : z2Y p0 p1 K w) : CT Pr z1b [.pointer p0, (.ag (qc1 p1) : SV).toV] K w :=
 C_of (fn := Tryz.f33) (an := .auto) (args := [.v (.pointer p0), .ag (qc1 p1)]) (by kernel_rfl) (by kernel_rfl) (by kernel_rfl) h
theorem z7t : Enters Pr z1b := z0w (by kernel_rfl)
def zao : Ann := (.seq .auto (.seq .auto (.seq .auto (.seq .auto (.seq .auto .auto (some [(7, (.one (.slice)))])) none) none) none) none)
def z4n (p0 : Option Addr) (p1 : ht1) (K : Value → PT) : PT :=
 L.new [.int .i64 p1.1, .string p1.2.1, .string p1.2.2.1, .int .i64 p1.2.2.2.1, .int .i64 p1.2.2.2.2.1, .string p1.2.2.2.2.2.1, .int .i64 p1.2.2.2.2.2.2.1, .int .i64 p1.2.2.2.2.2.2.2.1, .int .i64 p1.2.2.2.2.2.2.2.2.1, .int .i64 p1.2.2.2.2.2.2.2.2.2.1, .int .i64 p1.2.2.2.2.2.2.2.2.2.2.1, .string p1.2.2.2.2.2.2.2.2.2.2.2.1, .string p1.2.2.2.2.2.2.2.2.2.2.2.2.1, .slice p1.2.2.2.2.2.2.2.2.2.2.2.2.2.1.a p1.2.2.2.2.2.2.2.2.2.2.2.2.2.1.len p1.2.2.2.2.2.2.2.2.2.2.2.2.2.1.cap, .int .i64 p1.2.2.2.2.2.2.2.2.2.2.2.2.2.2.1] z0p fun b1 =>
 L.draw <|
 L.nonnil p0 fun a2 =>
 L.load eP6 (a2.add 3) fun (x3 : Option Addr) =>
 L.load eI6 ((⟨b1, 0, none⟩ : Addr).add 3) fun (x4 : Int) =>
 L.call Pr z3R [.pointer x3, .int .i64 x4] rI fun (x5 : Int) =>
 L.ite (x5 != 0) (
  L.call Pr z1d [.int .i64 x5] rL fun (x6 : Sl) =>
  K (.slice x6.a x6.len x6.cap)) <|
 L.draw <|
 L.nonnil p0 fun a7 =>
 L.load eP6 (a7.add 3) fun (x8 : Option Addr) =>
 L.load eI6 ((⟨b1, 0, none⟩ : Addr).add 3) fun (x9 : Int) =>
 L.call Pr z56 [.pointer x8, .int .i64 x9] rS fun (x10 : ByteArray) =>
 L.load eI6 ((⟨b1, 0, none⟩ : Addr).add 3) fun (x11 : Int) =>
 L.new [.int .i64 x11] z0i fun b12 =>
 L.call Pr z0d [.string s_up, .slice (some ⟨b12, 0, none⟩) 1 1] rS fun (x13 : ByteArray) =>
 L.new [.string x13] z01 fun b14 =>
 L.join (Y := Sl × Unit) (fun k15 =>
  L.nonnil p0 fun a17 =>
  L.load eP6 (a17.add 1) fun (x18 : Option Addr) =>
  L.call Pr z3V [.pointer x18, .string x10] rB fun (x19 : Bool) =>
  L.ite (!x19) (
   L.nonnil p0 fun a20 =>
   L.load eP6 (a20.add 1) fun (x21 : Option Addr) =>
   L.call Pr z4e [.pointer x21, .string x10] rI fun (x22 : Int) =>
   L.new [.string x10] z01 fun b23 =>
   L.call Pr z0f [.string zbE, .slice (some ⟨b23, 0, none⟩) 1 1] rS fun (x24 : ByteArray) =>
   L.new [.string x24] z01 fun b25 =>
   L.sem Pr (.one (.one .slice)) (Builtin.append_ #[z05, z05] z05 #[.slice (some ⟨b14, 0, none⟩) 1 1, .slice (some ⟨b25, 0, none⟩) 1 1]) fun (s26 : Sl) =>
   k15 (⟨s26.a, s26.len, s26.cap⟩, ())) <|
  k15 (⟨some ⟨b14, 0, none⟩, 1, 1⟩, ())) fun z16 =>
 L.nonnil p0 fun a27 =>
 L.load eP6 (a27.add 4) fun (x28 : Option Addr) =>
 L.call Pr z54 [.pointer x28, .string x10] rL fun (x29 : Sl) =>
 L.call Pr z5k [.slice x29.a x29.len x29.cap, .slice z16.1.a z16.1.len z16.1.cap] rL fun (x30 : Sl) =>
 K (.slice x30.a x30.len x30.cap)
theorem zaa (p0 : Option Addr) (p1 : ht1) {K : Value → PT} {w : World} (h : z4n p0 p1 K w) : CT Pr z1I [.pointer p0, (.ag (qc1 p1) : SV).toV] K w :=
 C_of (fn := Tryz.f38) (an := zao) (args := [.v (.pointer p0), .ag (qc1 p1)]) (by kernel_rfl) (by kernel_rfl) (by kernel_rfl) h
theorem za8 : Enters Pr z1I := z0w (by kernel_rfl)
def z8N : Ann := (.seq .auto (.seq .auto (.seq .auto (.seq .auto (.seq (.seq .auto (.one [(33, (.one (.int .i64)))] .auto) none) .auto none) none) none) none) none)
def z3I (p0 : Option Addr) (p1 : ht1) (K : Value → PT) : PT :=
 L.new [.int .i64 p1.1, .string p1.2.1, .string p1.2.2.1, .int .i64 p1.2.2.2.1, .int .i64 p1.2.2.2.2.1, .string p1.2.2.2.2.2.1, .int .i64 p1.2.2.2.2.2.2.1, .int .i64 p1.2.2.2.2.2.2.2.1, .int .i64 p1.2.2.2.2.2.2.2.2.1, .int .i64 p1.2.2.2.2.2.2.2.2.2.1, .int .i64 p1.2.2.2.2.2.2.2.2.2.2.1, .string p1.2.2.2.2.2.2.2.2.2.2.2.1, .string p1.2.2.2.2.2.2.2.2.2.2.2.2.1, .slice p1.2.2.2.2.2.2.2.2.2.2.2.2.2.1.a p1.2.2.2.2.2.2.2.2.2.2.2.2.2.1.len p1.2.2.2.2.2.2.2.2.2.2.2.2.2.1.cap, .int .i64 p1.2.2.2.2.2.2.2.2.2.2.2.2.2.2.1] z0p fun b1 =>
 L.nonnil p0 fun a2 =>
 L.load eI6 (a2.add 6) fun (x3 : Int) =>
 L.ite (decide (x3 ≥ 1048576)) (
  L.call Pr z1d [.int .i64 9] rL fun (x4 : Sl) =>
  K (.slice x4.a x4.len x4.cap)) <|
 L.nonnil p0 fun a5 =>
 L.load eI6 (a5.add 6) fun (x6 : Int) =>
 L.nonnil p0 fun a7 =>
 L.store (a7.add 6) [.int .i64 (IntKind.wrap .i64 (x6 + 1))] <|
 L.draw <|
 L.nonnil p0 fun a8 =>
 L.load eP6 (a8.add 4) fun (x9 : Option Addr) =>
 L.nonnil p0 fun a10 =>
 L.load eI6 (a10.add 6) fun (x11 : Int) =>
 L.call Pr z52 [.pointer x9, .int .i64 x11] rL fun (x12 : Sl) =>
 L.call Pr z1y [.pointer p0] rL fun (x13 : Sl) =>
 L.loop (Y := Int × Unit) (0, ()) fun y14 again15 =>
 L.ite (decide (y14.1 < ((x13.len : Nat) : Int))) (
  L.idx x13.a y14.1 x13.len 1 fun a16 =>
  L.load eS6 a16 fun (x17 : ByteArray) =>
  L.draw <|
  L.nonnil p0 fun a18 =>
  L.load (.one (.map)) (a18.add 5) fun (x19 : Option Nat) =>
  L.semR Pr rP (Instr.lookup z0v (.map x19) (.string x17) false) fun (x20 : Option Addr) =>
  L.nonnil x20 fun a21 =>
  L.load eP6 (a21.add 0) fun (x22 : Option Addr) =>
  L.nonnil p0 fun a23 =>
  L.load eP6 (a23.add 4) fun (x24 : Option Addr) =>
  L.call Pr z3Q [.pointer x24, .string x17] rI fun (x25 : Int) =>
  L.chk (a21.add 0) [.pointer x22] <|
  L.chkSem Pr (Instr.lookup z0v (.map x19) (.string x17) false) (.pointer x20) <|
  L.chk (a18.add 5) [.map x19] <|
  L.call Pr z4H [.pointer x22, .int .i64 x25] (.tup []) fun (x26 : Unit) =>
  again15 (IntKind.wrap .i64 (y14.1 + 1), ())) <|
 L.nonnil p0 fun a27 =>
 L.load eI6 (a27.add 6) fun (x28 : Int) =>
 L.new [.int .i64 x28] z0i fun b29 =>
 L.call Pr z0d [.string ziq, .slice (some ⟨b29, 0, none⟩) 1 1] rS fun (x30 : ByteArray) =>
 L.new [.string x30] z01 fun b31 =>
 L.call Pr z5k [.slice x12.a x12.len x12.cap, .slice (some ⟨b31, 0, none⟩) 1 1] rL fun (x32 : Sl) =>
 K (.slice x32.a x32.len x32.cap)
theorem z8E (p0 : Option Addr) (p1 : ht1) {K : Value → PT} {w : World} (h : z3I p0 p1 K w) : CT Pr z1n [.pointer p0, (.ag (qc1 p1) : SV).toV] K w :=
 C_of (fn := Tryz.f40) (an := z8N) (args := [.v (.pointer p0), .ag (qc1 p1)]) (by kernel_rfl) (by kernel_rfl) (by kernel_rfl) h
theorem z8B : Enters Pr z1n := z0w (by kernel_rfl)
def z8k : Ann := (.seq .auto (.seq (.one [(5, (.one (.adr))), (7, (.one (.int .i64))), (8, (.one (.bool)))] .auto) .auto none) none)
def z3n (p0 : Option Addr) (p1 : ht1) (K : Value → PT) : PT :=
 L.new [.int .i64 p1.1, .string p1.2.1, .string p1.2.2.1, .int .i64 p1.2.2.2.1, .int .i64 p1.2.2.2.2.1, .string p1.2.2.2.2.2.1, .int .i64 p1.2.2.2.2.2.2.1, .int .i64 p1.2.2.2.2.2.2.2.1, .int .i64 p1.2.2.2.2.2.2.2.2.1, .int .i64 p1.2.2.2.2.2.2.2.2.2.1, .int .i64 p1.2.2.2.2.2.2.2.2.2.2.1, .string p1.2.2.2.2.2.2.2.2.2.2.2.1, .string p1.2.2.2.2.2.2.2.2.2.2.2.2.1, .slice p1.2.2.2.2.2.2.2.2.2.2.2.2.2.1.a p1.2.2.2.2.2.2.2.2.2.2.2.2.2.1.len p1.2.2.2.2.2.2.2.2.2.2.2.2.2.1.cap, .int .i64 p1.2.2.2.2.2.2.2.2.2.2.2.2.2.2.1] z0p fun b1 =>
 L.join (Y := Addr × Int × Bool × Unit) (fun k2 =>
  L.draw <|
  L.nonnil p0 fun a4 =>
  L.load eP6 (a4.add 0) fun (x5 : Option Addr) =>
  L.load eS6 ((⟨b1, 0, none⟩ : Addr).add 1) fun (x6 : ByteArray) =>
  L.alts [(
    L.call Pr z2u [.pointer x5, .string x6] (.tup [(.agg lf0), eI6, eI6, eB6]) fun (x7 : pt4) =>
    L.new [.string s_, .int .i64 0, .int .i64 0, .int .i64 0, .int .i64 0, .int .i64 0] z0b fun b8 =>
    L.chk ((⟨b1, 0, none⟩ : Addr).add 1) [.string x6] <|
    L.chk (a4.add 0) [.pointer x5] <|
    L.store (⟨b8, 0, none⟩) [.string x7.1.1, .int .i64 x7.1.2.1, .int .i64 x7.1.2.2.1, .int .i64 x7.1.2.2.2.1, .int .i64 x7.1.2.2.2.2.1, .int .i64 x7.1.2.2.2.2.2.1] <|
    k2 (⟨b8, 0, none⟩, x7.2.2.1, x7.2.2.2.1, ())),(
    L.new [.string s_, .int .i64 0, .int .i64 0, .int .i64 0, .int .i64 0, .int .i64 0] z0b fun b9 =>
    L.chk ((⟨b1, 0, none⟩ : Addr).add 1) [.string x6] <|
    L.chk (a4.add 0) [.pointer x5] <|
    L.call Pr z2u [.pointer x5, .string x6] (.tup [(.agg lf0), eI6, eI6, eB6]) fun (x10 : pt4) =>
    L.store (⟨b9, 0, none⟩) [.string x10.1.1, .int .i64 x10.1.2.1, .int .i64 x10.1.2.2.1, .int .i64 x10.1.2.2.2.1, .int .i64 x10.1.2.2.2.2.1, .int .i64 x10.1.2.2.2.2.2.1] <|
    k2 (⟨b9, 0, none⟩, x10.2.2.1, x10.2.2.2.1, ()))]) fun z3 =>
 L.ite (!z3.2.2.1) (
  L.call Pr z1d [.int .i64 6] rL fun (x11 : Sl) =>
  K (.slice x11.a x11.len x11.cap)) <|
 L.ite (decide (z3.2.1 > 999999)) (
  L.call Pr z1d [.int .i64 3] rL fun (x12 : Sl) =>
  K (.slice x12.a x12.len x12.cap)) <|
 L.draw <|
 L.nonnil p0 fun a13 =>
 L.load eP6 (a13.add 1) fun (x14 : Option Addr) =>
 L.load (.agg lf0) z3.1 fun (x15 : pt0) =>
 L.call Pr z4d [.pointer x14, (qa0 x15), .int .i64 z3.2.1] (.tup [eS6, eB6]) fun (x16 : ByteArray × Bool × Unit) =>
 L.ite (!x16.2.1) (
  L.new [.string x16.1] z01 fun b17 =>
  L.call Pr z0f [.string zkH, .slice (some ⟨b17, 0, none⟩) 1 1] rS fun (x18 : ByteArray) =>
  L.new [.string x18] z01 fun b19 =>
  K (.slice (some ⟨b19, 0, none⟩) 1 1)) <|
 L.load eI6 (z3.1.add 3) fun (x20 : Int) =>
 L.draw <|
 L.nonnil p0 fun a21 =>
 L.load (.one (.map)) (a21.add 5) fun (x22 : Option Nat) =>
 L.call Pr z99 [] rP fun (x23 : Option Addr) =>
 L.chk (a21.add 5) [.map x22] <|
 L.new [.pointer x23, .int .i64 (if 1 > x20 then 1 else x20), .int .i64 0] z3m fun b24 =>
 L.chk (a21.add 5) [.map x22] <|
 L.semU Pr (Instr.mapUpdate z0v (.map x22) (.string x16.1) (.pointer (some (⟨b24, 0, none⟩)))) <|
 L.new [.string x16.1] z01 fun b25 =>
 L.call Pr z0f [.string z8q, .slice (some ⟨b25, 0, none⟩) 1 1] rS fun (x26 : ByteArray) =>
 L.new [.string x16.1] z01 fun b27 =>
 L.call Pr z0f [.string s_scale, .slice (some ⟨b27, 0, none⟩) 1 1] rS fun (x28 : ByteArray) =>
 L.new [.int .i64 (if 1 > x20 then 1 else x20)] z0i fun b29 =>
 L.call Pr z0d [.string x28, .slice (some ⟨b29, 0, none⟩) 1 1] rS fun (x30 : ByteArray) =>
 L.new [.string x26, .string x30] z01 fun b31 =>
 K (.slice (some ⟨b31, 0, none⟩) 2 2)
theorem z8c (p0 : Option Addr) (p1 : ht1) {K : Value → PT} {w : World} (h : z3n p0 p1 K w) : CT Pr z1g [.pointer p0, (.ag (qc1 p1) : SV).toV] K w :=
 C_of (fn := Tryz.f41) (an := z8k) (args := [.v (.pointer p0), .ag (qc1 p1)]) (by kernel_rfl) (by kernel_rfl) (by kernel_rfl) h
theorem z88 : Enters Pr z1g := z0w (by kernel_rfl)
def z8l : Ann := (.seq .auto (.seq (.one [(5, (.one (.adr))), (6, (.one (.bool)))] .auto) (.seq .auto (.seq .auto (.seq .auto (.seq .auto (.seq .auto (.seq .auto (.seq (.one [(4, (.one (.slice)))] .auto) .auto none) none) none) none) none) none) none) none) none)
def z3o (p0 : Option Addr) (p1 : ht1) (K : Value → PT) : PT :=
 L.new [.int .i64 p1.1, .string p1.2.1, .string p1.2.2.1, .int .i64 p1.2.2.2.1, .int .i64 p1.2.2.2.2.1, .string p1.2.2.2.2.2.1, .int .i64 p1.2.2.2.2.2.2.1, .int .i64 p1.2.2.2.2.2.2.2.1, .int .i64 p1.2.2.2.2.2.2.2.2.1, .int .i64 p1.2.2.2.2.2.2.2.2.2.1, .int .i64 p1.2.2.2.2.2.2.2.2.2.2.1, .string p1.2.2.2.2.2.2.2.2.2.2.2.1, .string p1.2.2.2.2.2.2.2.2.2.2.2.2.1, .slice p1.2.2.2.2.2.2.2.2.2.2.2.2.2.1.a p1.2.2.2.2.2.2.2.2.2.2.2.2.2.1.len p1.2.2.2.2.2.2.2.2.2.2.2.2.2.1.cap, .int .i64 p1.2.2.2.2.2.2.2.2.2.2.2.2.2.2.1] z0p fun b1 =>
 L.join (Y := Addr × Bool × Unit) (fun k2 =>
  L.draw <|
  L.nonnil p0 fun a4 =>
  L.load eP6 (a4.add 1) fun (x5 : Option Addr) =>
  L.load eS6 ((⟨b1, 0, none⟩ : Addr).add 1) fun (x6 : ByteArray) =>
  L.alts [(
    L.call Pr z2j [.pointer x5, .string x6] (.tup [(.agg lf5), eB6]) fun (x7 : pt6) =>
    L.new [.string s_, .int .i64 0, .string s_, .int .i64 0, .int .i64 0, .int .i64 0, .int .i64 0, .int .i64 0] z0l fun b8 =>
    L.chk ((⟨b1, 0, none⟩ : Addr).add 1) [.string x6] <|
    L.chk (a4.add 1) [.pointer x5] <|
    L.store (⟨b8, 0, none⟩) [.string x7.1.1, .int .i64 x7.1.2.1, .string x7.1.2.2.1, .int .i64 x7.1.2.2.2.1, .int .i64 x7.1.2.2.2.2.1, .int .i64 x7.1.2.2.2.2.2.1, .int .i64 x7.1.2.2.2.2.2.2.1, .int .i64 x7.1.2.2.2.2.2.2.2.1] <|
    k2 (⟨b8, 0, none⟩, x7.2.1, ())),(
    L.new [.string s_, .int .i64 0, .string s_, .int .i64 0, .int .i64 0, .int .i64 0, .int .i64 0, .int .i64 0] z0l fun b9 =>
    L.chk ((⟨b1, 0, none⟩ : Addr).add 1) [.string x6] <|
    L.chk (a4.add 1) [.pointer x5] <|
    L.call Pr z2j [.pointer x5, .string x6] (.tup [(.agg lf5), eB6]) fun (x10 : pt6) =>
    L.store (⟨b9, 0, none⟩) [.string x10.1.1, .int .i64 x10.1.2.1, .string x10.1.2.2.1, .int .i64 x10.1.2.2.2.1, .int .i64 x10.1.2.2.2.2.1, .int .i64 x10.1.2.2.2.2.2.1, .int .i64 x10.1.2.2.2.2.2.2.1, .int .i64 x10.1.2.2.2.2.2.2.2.1] <|
    k2 (⟨b9, 0, none⟩, x10.2.1, ()))]) fun z3 =>
 L.ite (!z3.2.1) (
  L.call Pr z1d [.int .i64 6] rL fun (x11 : Sl) =>
  K (.slice x11.a x11.len x11.cap)) <|
 L.draw <|
 L.nonnil p0 fun a12 =>
 L.load (.one (.map)) (a12.add 5) fun (x13 : Option Nat) =>
 L.load eS6 ((⟨b1, 0, none⟩ : Addr).add 1) fun (x14 : ByteArray) =>
 L.semR Pr rP (Instr.lookup z0v (.map x13) (.string x14) false) fun (x15 : Option Addr) =>
 L.load eS6 ((⟨b1, 0, none⟩ : Addr).add 1) fun (x16 : ByteArray) =>
 L.call Pr z2l [.pointer p0, .string x16, .func (.func z1R) #[] #[]] rI fun (x17 : Int) =>
 L.nonnil x15 fun a18 =>
 L.load eP6 (a18.add 0) fun (x19 : Option Addr) =>
 L.call Pr z30 [.pointer x19, .int .i64 6] (.tup [eI6, eI6]) fun (x20 : Int × Int × Unit) =>
 L.nonnil x15 fun a21 =>
 L.load eP6 (a21.add 0) fun (x22 : Option Addr) =>
 L.call Pr z30 [.pointer x22, .int .i64 2] (.tup [eI6, eI6]) fun (x23 : Int × Int × Unit) =>
 L.draw <|
 L.nonnil x15 fun a24 =>
 L.load (.agg [.int .i64, .int .i64]) (a24.add 1) fun (x25 : Int × Int × Unit) =>
 L.load (.agg lf0) (z3.1.add 2) fun (x26 : pt0) =>
 L.nonnil p0 fun a27 =>
 L.load eP6 (a27.add 4) fun (x28 : Option Addr) =>
 L.load eS6 ((⟨b1, 0, none⟩ : Addr).add 1) fun (x29 : ByteArray) =>
 L.nonnil x15 fun a30 =>
 L.load eP6 (a30.add 0) fun (x31 : Option Addr) =>
 L.call Pr z3Q [.pointer x28, .string x29] rI fun (x32 : Int) =>
 L.chk (a30.add 0) [.pointer x31] <|
 L.chk (z3.1.add 2) [.string x26.1, .int .i64 x26.2.1, .int .i64 x26.2.2.1, .int .i64 x26.2.2.2.1, .int .i64 x26.2.2.2.2.1, .int .i64 x26.2.2.2.2.2.1] <|
 L.chk (a24.add 1) [.int .i64 x25.1, .int .i64 x25.2.1] <|
 L.call Pr z4h [.pointer x31] rI fun (x33 : Int) =>
 L.chk (z3.1.add 2) [.string x26.1, .int .i64 x26.2.1, .int .i64 x26.2.2.1, .int .i64 x26.2.2.2.1, .int .i64 x26.2.2.2.2.1, .int .i64 x26.2.2.2.2.2.1] <|
 L.chk (a24.add 1) [.int .i64 x25.1, .int .i64 x25.2.1] <|
 L.call Pr z6n [.agg #[.int .i64 x25.1, .int .i64 x25.2.1], (qa0 x26), .int .i64 x17, .int .i64 x32, .int .i64 x20.1, .int .i64 x20.2.1, .int .i64 x23.1, .int .i64 x23.2.1, .int .i64 x33] (.one (.agg [.int .i64, .int .i64])) fun (x34 : Int × Int × Unit) =>
 L.nonnil x15 fun a35 =>
 L.store (a35.add 1) [.int .i64 x34.1, .int .i64 x34.2.1] <|
 L.join (Y := Sl × Unit) (fun k36 =>
  L.draw <|
  L.load eS6 ((⟨b1, 0, none⟩ : Addr).add 1) fun (x38 : ByteArray) =>
  L.nonnil x15 fun a39 =>
  L.load eI6 ((a39.add 1).add 0) fun (x40 : Int) =>
  L.alts [(
    L.new [.string x38] z01 fun b41 =>
    L.chk ((a39.add 1).add 0) [.int .i64 x40] <|
    L.alts [(
      L.call Pr z0f [.string s_scale, .slice (some ⟨b41, 0, none⟩) 1 1] rS fun (x42 : ByteArray) =>
      L.chk ((a39.add 1).add 0) [.int .i64 x40] <|
      L.new [.int .i64 x40] z0i fun b43 =>
      L.chk ((⟨b1, 0, none⟩ : Addr).add 1) [.string x38] <|
      L.call Pr z0d [.string x42, .slice (some ⟨b43, 0, none⟩) 1 1] rS fun (x44 : ByteArray) =>
      L.new [.string x44] z01 fun b45 =>
      k36 (⟨some ⟨b45, 0, none⟩, 1, 1⟩, ())),(
      L.new [.int .i64 x40] z0i fun b46 =>
      L.chk ((⟨b1, 0, none⟩ : Addr).add 1) [.string x38] <|
      L.call Pr z0f [.string s_scale, .slice (some ⟨b41, 0, none⟩) 1 1] rS fun (x47 : ByteArray) =>
      L.chk ((a39.add 1).add 0) [.int .i64 x40] <|
      L.call Pr z0d [.string x47, .slice (some ⟨b46, 0, none⟩) 1 1] rS fun (x48 : ByteArray) =>
      L.new [.string x48] z01 fun b49 =>
      k36 (⟨some ⟨b49, 0, none⟩, 1, 1⟩, ()))]),(
    L.new [.int .i64 x40] z0i fun b50 =>
    L.chk ((⟨b1, 0, none⟩ : Addr).add 1) [.string x38] <|
    L.new [.string x38] z01 fun b51 =>
    L.chk ((a39.add 1).add 0) [.int .i64 x40] <|
    L.call Pr z0f [.string s_scale, .slice (some ⟨b51, 0, none⟩) 1 1] rS fun (x52 : ByteArray) =>
    L.chk ((a39.add 1).add 0) [.int .i64 x40] <|
    L.call Pr z0d [.string x52, .slice (some ⟨b50, 0, none⟩) 1 1] rS fun (x53 : ByteArray) =>
    L.new [.string x53] z01 fun b54 =>
    k36 (⟨some ⟨b54, 0, none⟩, 1, 1⟩, ()))]) fun z37 =>
 K (.slice z37.1.a z37.1.len z37.1.cap)
theorem z8d (p0 : Option Addr) (p1 : ht1) {K : Value → PT} {w : World} (h : z3o p0 p1 K w) : CT Pr z1h [.pointer p0, (.ag (qc1 p1) : SV).toV] K w :=
 C_of (fn := Tryz.f43) (an := z8l) (args := [.v (.pointer p0), .ag (qc1 p1)]) (by kernel_rfl) (by kernel_rfl) (by kernel_rfl) h
theorem z89 : Enters Pr z1h := z0w (by kernel_rfl)
def z8O : Ann := (.seq .auto (.seq (.one [(5, (.one (.adr))), (6, (.one (.bool)))] .auto) (.seq .auto (.seq .auto (.seq .auto (.seq (.seq .auto (.one [(9, (.one (.slice))), (47, (.one (.int .i64)))] .auto) none) (.seq (.seq .auto (.one [(9, (.one (.slice))), (60, (.one (.int .i64)))] .auto) none) .auto none) none) none) none) none) none) none)
def z1P (p0 : Option Addr) (p1 : ht1) (K : Value → PT) : PT :=
 L.new [.int .i64 p1.1, .string p1.2.1, .string p1.2.2.1, .int .i64 p1.2.2.2.1, .int .i64 p1.2.2.2.2.1, .string p1.2.2.2.2.2.1, .int .i64 p1.2.2.2.2.2.2.1, .int .i64 p1.2.2.2.2.2.2.2.1, .int .i64 p1.2.2.2.2.2.2.2.2.1, .int .i64 p1.2.2.2.2.2.2.2.2.2.1, .int .i64 p1.2.2.2.2.2.2.2.2.2.2.1, .string p1.2.2.2.2.2.2.2.2.2.2.2.1, .string p1.2.2.2.2.2.2.2.2.2.2.2.2.1, .slice p1.2.2.2.2.2.2.2.2.2.2.2.2.2.1.a p1.2.2.2.2.2.2.2.2.2.2.2.2.2.1.len p1.2.2.2.2.2.2.2.2.2.2.2.2.2.1.cap, .int .i64 p1.2.2.2.2.2.2.2.2.2.2.2.2.2.2.1] z0p fun b1 =>
 L.join (Y := Addr × Bool × Unit) (fun k2 =>
  L.draw <|
  L.nonnil p0 fun a4 =>
  L.load eP6 (a4.add 1) fun (x5 : Option Addr) =>
  L.load eS6 ((⟨b1, 0, none⟩ : Addr).add 1) fun (x6 : ByteArray) =>
  L.alts [(
    L.call Pr z2j [.pointer x5, .string x6] (.tup [(.agg lf5), eB6]) fun (x7 : pt6) =>
    L.new [.string s_, .int .i64 0, .string s_, .int .i64 0, .int .i64 0, .int .i64 0, .int .i64 0, .int .i64 0] z0l fun b8 =>
    L.chk ((⟨b1, 0, none⟩ : Addr).add 1) [.string x6] <|
    L.chk (a4.add 1) [.pointer x5] <|
    L.store (⟨b8, 0, none⟩) [.string x7.1.1, .int .i64 x7.1.2.1, .string x7.1.2.2.1, .int .i64 x7.1.2.2.2.1, .int .i64 x7.1.2.2.2.2.1, .int .i64 x7.1.2.2.2.2.2.1, .int .i64 x7.1.2.2.2.2.2.2.1, .int .i64 x7.1.2.2.2.2.2.2.2.1] <|
    k2 (⟨b8, 0, none⟩, x7.2.1, ())),(
    L.new [.string s_, .int .i64 0, .string s_, .int .i64 0, .int .i64 0, .int .i64 0, .int .i64 0, .int .i64 0] z0l fun b9 =>
    L.chk ((⟨b1, 0, none⟩ : Addr).add 1) [.string x6] <|
    L.chk (a4.add 1) [.pointer x5] <|
    L.call Pr z2j [.pointer x5, .string x6] (.tup [(.agg lf5), eB6]) fun (x10 : pt6) =>
    L.store (⟨b9, 0, none⟩) [.string x10.1.1, .int .i64 x10.1.2.1, .string x10.1.2.2.1, .int .i64 x10.1.2.2.2.1, .int .i64 x10.1.2.2.2.2.1, .int .i64 x10.1.2.2.2.2.2.1, .int .i64 x10.1.2.2.2.2.2.2.1, .int .i64 x10.1.2.2.2.2.2.2.2.1] <|
    k2 (⟨b9, 0, none⟩, x10.2.1, ()))]) fun z3 =>
 L.ite (!z3.2.1) (
  L.call Pr z1d [.int .i64 6] rL fun (x11 : Sl) =>
  K (.slice x11.a x11.len x11.cap)) <|
 L.draw <|
 L.nonnil p0 fun a12 =>
 L.load eP6 (a12.add 3) fun (x13 : Option Addr) =>
 L.load eS6 ((⟨b1, 0, none⟩ : Addr).add 1) fun (x14 : ByteArray) =>
 L.load eI6 ((z3.1.add 2).add 2) fun (x15 : Int) =>
 L.load eS6 ((⟨b1, 0, none⟩ : Addr).add 1) fun (x16 : ByteArray) =>
 L.call Pr z1M [.pointer p0, .string x16] rI fun (x17 : Int) =>
 L.chk ((z3.1.add 2).add 2) [.int .i64 x15] <|
 L.chk ((⟨b1, 0, none⟩ : Addr).add 1) [.string x14] <|
 L.chk (a12.add 3) [.pointer x13] <|
 L.call Pr z3X [.pointer x13, .string x14, .int .i64 x15, .int .i64 x17] (.tup [eL6, eL6]) fun (x18 : Sl × Sl × Unit) =>
 L.loop (Y := Sl × Int × Unit) (⟨none, 0, 0⟩, 0, ()) fun y19 again20 =>
 L.ite (decide (y19.2.1 < ((x18.1.len : Nat) : Int))) (
  L.idx x18.1.a y19.2.1 x18.1.len 1 fun a21 =>
  L.load eI6 a21 fun (x22 : Int) =>
  L.new [.int .i64 x22] z0i fun b23 =>
  L.call Pr z0d [.string zkL, .slice (some ⟨b23, 0, none⟩) 1 1] rS fun (x24 : ByteArray) =>
  L.new [.string x24] z01 fun b25 =>
  L.sem Pr (.one (.one .slice)) (Builtin.append_ #[z05, z05] z05 #[.slice y19.1.a y19.1.len y19.1.cap, .slice (some ⟨b25, 0, none⟩) 1 1]) fun (s26 : Sl) =>
  again20 (⟨s26.a, s26.len, s26.cap⟩, IntKind.wrap .i64 (y19.2.1 + 1), ())) <|
 L.loop (Y := Sl × Int × Unit) (⟨y19.1.a, y19.1.len, y19.1.cap⟩, 0, ()) fun y27 again28 =>
 L.ite (decide (y27.2.1 < ((x18.2.1.len : Nat) : Int))) (
  L.idx x18.2.1.a y27.2.1 x18.2.1.len 1 fun a29 =>
  L.load eI6 a29 fun (x30 : Int) =>
  L.new [.int .i64 x30] z0i fun b31 =>
  L.call Pr z0d [.string zkO, .slice (some ⟨b31, 0, none⟩) 1 1] rS fun (x32 : ByteArray) =>
  L.new [.string x32] z01 fun b33 =>
  L.sem Pr (.one (.one .slice)) (Builtin.append_ #[z05, z05] z05 #[.slice y27.1.a y27.1.len y27.1.cap, .slice (some ⟨b33, 0, none⟩) 1 1]) fun (s34 : Sl) =>
  again28 (⟨s34.a, s34.len, s34.cap⟩, IntKind.wrap .i64 (y27.2.1 + 1), ())) <|
 L.load eS6 ((⟨b1, 0, none⟩ : Addr).add 1) fun (x35 : ByteArray) =>
 L.call Pr z2l [.pointer p0, .string x35, .func (.func z2e) #[] #[]] rI fun (x36 : Int) =>
 L.load eS6 ((⟨b1, 0, none⟩ : Addr).add 1) fun (x37 : ByteArray) =>
 L.new [.string x37] z01 fun b38 =>
 L.call Pr z0f [.string s_fleet, .slice (some ⟨b38, 0, none⟩) 1 1] rS fun (x39 : ByteArray) =>
 L.new [.int .i64 x36] z0i fun b40 =>
 L.call Pr z0d [.string x39, .slice (some ⟨b40, 0, none⟩) 1 1] rS fun (x41 : ByteArray) =>
 L.new [.string x41] z01 fun b42 =>
 L.sem Pr (.one (.one .slice)) (Builtin.append_ #[z05, z05] z05 #[.slice y27.1.a y27.1.len y27.1.cap, .slice (some ⟨b42, 0, none⟩) 1 1]) fun (s43 : Sl) =>
 K (.slice s43.a s43.len s43.cap)
theorem z5h (p0 : Option Addr) (p1 : ht1) {K : Value → PT} {w : World} (h : z1P p0 p1 K w) : CT Pr z18 [.pointer p0, (.ag (qc1 p1) : SV).toV] K w :=
 C_of (fn := Tryz.f44) (an := z8O) (args := [.v (.pointer p0), .ag (qc1 p1)]) (by kernel_rfl) (by kernel_rfl) (by kernel_rfl) h
theorem z5g : Enters Pr z18 := z0w (by kernel_rfl)
def zaq : Ann := (.seq .auto (.seq (.seq .auto (.one [(5, (.one (.slice)))] (.seq .auto (.seq (.cond .auto .auto) .auto none) none)) none) (.seq .auto (.seq .auto .auto (some [(4, (.one (.slice)))])) none) none) none)
def z6g (p0 : Option Addr) (p1 : ByteArray) (K : Value → PT) : PT :=
 L.nonnil p0 fun a1 =>
 L.load (.one (.map)) (a1.add 1) fun (x2 : Option Nat) =>
 L.sem Pr (.one (.one .ptr)) (Instr.range z2f (.map x2)) fun (it3 : Option Addr) =>
 L.loop (Y := Sl × Unit) (⟨none, 0, 0⟩, ()) fun y4 again5 =>
 L.next Pr [eI6, (.agg [.str, .int .i64])] (Instr.next (.pointer it3) false T_) (
  L.call Pr z3h [.slice y4.1.a y4.1.len y4.1.cap] (.tup []) fun (x7 : Unit) =>
  L.join (Y := Sl × Unit) (fun k8 =>
   L.nonnil p0 fun a10 =>
   L.load (.one (.map)) ((a10.add 2).add 0) fun (x11 : Option Nat) =>
   L.semR Pr (.tup [eP6, .one .bool]) (Instr.lookup z0t (.map x11) (.string p1) true) fun (x12 : Option Addr × Bool × Unit) =>
   L.ite x12.2.1 (
    L.call Pr z4c [.pointer x12.1] rL fun (x13 : Sl) =>
    k8 (⟨x13.a, x13.len, x13.cap⟩, ())) <|
   k8 (⟨none, 0, 0⟩, ())) fun z9 =>
  L.call Pr z0J [.slice y4.1.a y4.1.len y4.1.cap] rL fun (x14 : Sl) =>
  K (.tuple #[.slice z9.1.a z9.1.len z9.1.cap, .slice x14.a x14.len x14.cap])) fun (x6 : pt7) =>
 L.sem Pr (.tup [eI6, (.agg [.str, .int .i64])]) (Instr.entry (.pointer it3)) fun (x15 : pt7) =>
 L.new [.string s_, .int .i64 0] z12 fun b16 =>
 L.store (⟨b16, 0, none⟩) [.string x15.2.1.1, .int .i64 x15.2.1.2.1] <|
 L.load (.agg [.str, .int .i64]) (⟨b16, 0, none⟩) fun (x17 : ByteArray × Int × Unit) =>
 L.chkSem Pr (do eqGuard .eql z12 (.tmp 0) (.tmp 0) (.agg #[.string x17.1, .int .i64 x17.2.1]) (.agg #[.string p1, .int .i64 1]); binOp .eql z12 (.agg #[.string x17.1, .int .i64 x17.2.1]) (.agg #[.string p1, .int .i64 1])) (.bool ((x17.1 == p1) && ((x17.2.1 == 1) && true))) <|
 L.ite ((x17.1 == p1) && ((x17.2.1 == 1) && true)) (
  L.new [.int .i64 x15.1] z0i fun b18 =>
  L.sem Pr (.one (.one .slice)) (Builtin.append_ #[z0X, z0X] z0X #[.slice y4.1.a y4.1.len y4.1.cap, .slice (some ⟨b18, 0, none⟩) 1 1]) fun (s19 : Sl) =>
  again5 (⟨s19.a, s19.len, s19.cap⟩, ())) <|
 again5 (⟨y4.1.a, y4.1.len, y4.1.cap⟩, ())
theorem zai (p0 : Option Addr) (p1 : ByteArray) {K : Value → PT} {w : World} (h : z6g p0 p1 K w) : CT Pr z33 [.pointer p0, .string p1] K w :=
 C_of (fn := Tryz.f45) (an := zaq) (args := [.v (.pointer p0), .v (.string p1)]) (by kernel_rfl) (by kernel_rfl) (by kernel_rfl) h
def zat : Ann := (.seq .auto (.seq .auto (.seq (.seq .auto (.seq .auto .auto (some [(11, (.one (.int .i64))), (12, (.one (.ptr)))])) none) .auto none) none) none)
def z6j (p0 : Option Addr) (p1 : ByteArray) (K : Value → PT) : PT :=
 L.new [.slice none 0 0] z10 fun b1 =>
 L.call Pr z2k [.pointer p0, .string p1] (.one (.one (.func))) fun (x2 : FV) =>
 L.range Pr none (.func x2.fn x2.fs x2.cs) [eI6, eP6] (fun l3 (y4 : Int × Option Addr × Unit) R5 =>
  L.begin Pr l3 <|
  L.draw <|
  L.load eL6 (⟨b1, 0, none⟩) fun (x8 : Sl) =>
  L.call Pr z0Y [.pointer y4.2.1] rI fun (x9 : Int) =>
  L.chk (⟨b1, 0, none⟩) [.slice x8.a x8.len x8.cap] <|
  L.call Pr z1z [.pointer y4.2.1] rI fun (x10 : Int) =>
  L.chk (⟨b1, 0, none⟩) [.slice x8.a x8.len x8.cap] <|
  L.new [.int .i64 y4.1, .int .i64 x9, .int .i64 x10] z0N fun b11 =>
  L.chk (⟨b1, 0, none⟩) [.slice x8.a x8.len x8.cap] <|
  L.sem Pr (.one (.one .slice)) (Builtin.append_ #[z10, z10] z10 #[.slice x8.a x8.len x8.cap, .slice (some ⟨b11, 0, none⟩) 1 1]) fun (s12 : Sl) =>
  L.store (⟨b1, 0, none⟩) [.slice s12.a s12.len s12.cap] <|
  L.endRound Pr l3 none R5) fun d6 j7 =>
 L.jump j7 (
  L.load eL6 (⟨b1, 0, none⟩) fun (x13 : Sl) =>
  L.call Pr z1c [.slice x13.a x13.len x13.cap] rL fun (x14 : Sl) =>
  L.unmark Pr (d6 ++ []) <|
  K (.slice x14.a x14.len x14.cap)) (
  L.unmark Pr (d6 ++ []) <|
  K (.slice none 0 0)) []
theorem zal (p0 : Option Addr) (p1 : ByteArray) {K : Value → PT} {w : World} (h : z6j p0 p1 K w) : CT Pr z4k [.pointer p0, .string p1] K w :=
 C_of (fn := Tryz.f46) (an := zat) (args := [.v (.pointer p0), .v (.string p1)]) (by kernel_rfl) (by kernel_rfl) (by kernel_rfl) h
def z2r (p0 : Option Nat) (p1 : ByteArray) (K : Value → PT) : PT :=
 L.semR Pr (.tup [eP6, .one .bool]) (Instr.lookup z0v (.map p0) (.string p1) true) fun (x1 : Option Addr × Bool × Unit) =>
 K (.tuple #[.pointer x1.1, .bool x1.2.1])
theorem z4u (p0 : Option Nat) (p1 : ByteArray) {K : Value → PT} {w : World} (h : z2r p0 p1 K w) : CT Pr z2q [.map p0, .string p1] K w :=
 C_of (fn := Tryz.f48) (an := .auto) (args := [.v (.map p0), .v (.string p1)]) (by kernel_rfl) (by kernel_rfl) (by kernel_rfl) h
def z5L (p0 : Int) (p1 : Int) (p2 : Int) (K : Value → PT) : PT :=
 L.ite (decide (p0 ≥ p1)) (
  K (.bool (decide (p0 ≤ p2)))) <|
 K (.bool false)
theorem z9h (p0 : Int) (p1 : Int) (p2 : Int) {K : Value → PT} {w : World} (h : z5L p0 p1 p2 K w) : CT Pr z1U [.int .i64 p0, .int .i64 p1, .int .i64 p2] K w :=
 C_of (fn := Tryz.f49) (an := .auto) (args := [.v (.int .i64 p0), .v (.int .i64 p1), .v (.int .i64 p2)]) (by kernel_rfl) (by kernel_rfl) (by kernel_rfl) h
def zco (p0 : Int) (K : Value → PT) : PT :=
 L.sem Pr (.one (.one .map)) (Instr.makeMap z0o none) fun (m1 : Option Nat) =>
 L.sem Pr (.one (.one .map)) (Instr.makeMap z5n none) fun (m2 : Option Nat) =>
 L.new [.map m1, .map m2, .int .i64 p0, .int .i64 0] z9S fun b3 =>
 K (.pointer (some (⟨b3, 0, none⟩)))
theorem zgc (p0 : Int) {K : Value → PT} {w : World} (h : zco p0 K w) : CT Pr z9a [.int .i64 p0] K w :=
 C_of (fn := Tryz.f50) (an := .auto) (args := [.v (.int .i64 p0)]) (by kernel_rfl) (by kernel_rfl) (by kernel_rfl) h
def zck  (K : Value → PT) : PT :=
 L.call Pr z2A [.func (.func z0V) #[] #[]] rP fun (x1 : Option Addr) =>
 L.call Pr z2W [.func (.func z2N) #[] #[]] rP fun (x2 : Option Addr) =>
 L.new [.pointer x1, .pointer x2, .int .i64 0] z9Q fun b3 =>
 K (.pointer (some (⟨b3, 0, none⟩)))
theorem zg8  {K : Value → PT} {w : World} (h : zck  K w) : CT Pr z98 [] K w :=
 C_of (fn := Tryz.f51) (an := .auto) (args := []) (by kernel_rfl) (by kernel_rfl) (by kernel_rfl) h
def zcj  (K : Value → PT) : PT :=
 L.sem Pr (.one (.one .map)) (Instr.makeMap z0k none) fun (m1 : Option Nat) =>
 L.sem Pr (.one (.one .map)) (Instr.makeMap z35 none) fun (m2 : Option Nat) =>
 L.new [.map m1, .map m2] zb2 fun b3 =>
 K (.pointer (some (⟨b3, 0, none⟩)))
theorem zg7  {K : Value → PT} {w : World} (h : zcj  K w) : CT Pr z97 [] K w :=
 C_of (fn := Tryz.f52) (an := .auto) (args := []) (by kernel_rfl) (by kernel_rfl) (by kernel_rfl) h
def zdj  (K : Value → PT) : PT :=
 L.sem Pr (.one (.one .map)) (Instr.makeMap z7T none) fun (m1 : Option Nat) =>
 L.new [.map m1] z9R fun b2 =>
 K (.pointer (some (⟨b2, 0, none⟩)))
theorem zhT  {K : Value → PT} {w : World} (h : zdj  K w) : CT Pr zaz [] K w :=
 C_of (fn := Tryz.f53) (an := .auto) (args := []) (by kernel_rfl) (by kernel_rfl) (by kernel_rfl) h
def zdl (p0 : Option Addr) (p1 : Int) (p2 : Int) (K : Value → PT) : PT :=
 L.new [.int .i64 p1] z0i fun b1 =>
 L.sem Pr (.one (.one .map)) (Instr.makeMap z2f none) fun (m2 : Option Nat) =>
 L.sem Pr (.one (.one .map)) (Instr.makeMap z0t none) fun (m3 : Option Nat) =>
 L.load eI6 (⟨b1, 0, none⟩) fun (x4 : Int) =>
 L.new [.pointer p0, .map m2, .map m3, .func (.func z66) #[] #[.pointer (some (⟨b1, 0, none⟩))], .int .i64 x4, .int .i64 p2] zce fun b5 =>
 K (.pointer (some (⟨b5, 0, none⟩)))
theorem zhV (p0 : Option Addr) (p1 : Int) (p2 : Int) {K : Value → PT} {w : World} (h : zdl p0 p1 p2 K w) : CT Pr zaB [.pointer p0, .int .i64 p1, .int .i64 p2] K w :=
 C_of (fn := Tryz.f54) (an := .auto) (args := [.v (.pointer p0), .v (.int .i64 p1), .v (.int .i64 p2)]) (by kernel_rfl) (by kernel_rfl) (by kernel_rfl) h
def z6k (p0 : Option Addr) (K : Value → PT) : PT :=
 L.nonnil p0 fun a1 =>
 L.load (.one (.map)) (a1.add 0) fun (x2 : Option Nat) =>
 L.semR Pr rI (Builtin.len_ #[z0o] z0i #[.map x2]) fun (x3 : Int) =>
 K (.int .i64 x3)
theorem zam (p0 : Option Addr) {K : Value → PT} {w : World} (h : z6k p0 K w) : CT Pr z4l [.pointer p0] K w :=
 C_of (fn := Tryz.f58) (an := .auto) (args := [.v (.pointer p0)]) (by kernel_rfl) (by kernel_rfl) (by kernel_rfl) h
def z7i (p0 : Option Addr) (K : Value → PT) : PT :=
 L.nonnil p0 fun a1 =>
 L.load (.one (.map)) (a1.add 0) fun (x2 : Option Nat) =>
 L.call Pr z1r [.map x2] rL fun (x3 : Sl) =>
 L.call Pr z0I [.slice x3.a x3.len x3.cap] rL fun (x4 : Sl) =>
 K (.slice x4.a x4.len x4.cap)
theorem zbp (p0 : Option Addr) {K : Value → PT} {w : World} (h : z7i p0 K w) : CT Pr z4Z [.pointer p0] K w :=
 C_of (fn := Tryz.f59) (an := .auto) (args := [.v (.pointer p0)]) (by kernel_rfl) (by kernel_rfl) (by kernel_rfl) h
def zfo : Ann := (.seq .auto (.seq .auto (.seq (.seq .auto (.seq .auto .auto (some [(7, (.agg lf1))])) none) .auto none) none) none)
def z86 (p0 : Option Addr) (K : Value → PT) : PT :=
 L.new [.pointer p0] z06 fun b1 =>
 L.new [.slice none 0 0] z05 fun b2 =>
 L.load eP6 (⟨b1, 0, none⟩) fun (x3 : Option Addr) =>
 L.call Pr z9B [.pointer x3] (.one (.one (.func))) fun (x4 : FV) =>
 L.range Pr none (.func x4.fn x4.fs x4.cs) [(.agg lf1)] (fun l5 (y6 : (Int × ByteArray × ByteArray × Int × Int × ByteArray × Int × Int × Int × Int × Int × ByteArray × ByteArray × Sl × Int × Unit) × Unit) R7 =>
  L.new [.int .i64 0, .string s_, .string s_, .int .i64 0, .int .i64 0, .string s_, .int .i64 0, .int .i64 0, .int .i64 0, .int .i64 0, .int .i64 0, .string s_, .string s_, .slice none 0 0, .int .i64 0] z0p fun b10 =>
  L.store (⟨b10, 0, none⟩) [.int .i64 y6.1.1, .string y6.1.2.1, .string y6.1.2.2.1, .int .i64 y6.1.2.2.2.1, .int .i64 y6.1.2.2.2.2.1, .string y6.1.2.2.2.2.2.1, .int .i64 y6.1.2.2.2.2.2.2.1, .int .i64 y6.1.2.2.2.2.2.2.2.1, .int .i64 y6.1.2.2.2.2.2.2.2.2.1, .int .i64 y6.1.2.2.2.2.2.2.2.2.2.1, .int .i64 y6.1.2.2.2.2.2.2.2.2.2.2.1, .string y6.1.2.2.2.2.2.2.2.2.2.2.2.1, .string y6.1.2.2.2.2.2.2.2.2.2.2.2.2.1, .slice y6.1.2.2.2.2.2.2.2.2.2.2.2.2.2.1.a y6.1.2.2.2.2.2.2.2.2.2.2.2.2.2.1.len y6.1.2.2.2.2.2.2.2.2.2.2.2.2.2.1.cap, .int .i64 y6.1.2.2.2.2.2.2.2.2.2.2.2.2.2.2.1] <|
  L.begin Pr l5 <|
  L.draw <|
  L.load eL6 (⟨b2, 0, none⟩) fun (x11 : Sl) =>
  L.load eP6 (⟨b1, 0, none⟩) fun (x12 : Option Addr) =>
  L.load (.agg lf1) (⟨b10, 0, none⟩) fun (x13 : pt1) =>
  L.call Pr z0g [.pointer x12, (qa1 x13)] rL fun (x14 : Sl) =>
  L.chk (⟨b2, 0, none⟩) [.slice x11.a x11.len x11.cap] <|
  L.sem Pr (.one (.one .slice)) (Builtin.append_ #[z05, z05] z05 #[.slice x11.a x11.len x11.cap, .slice x14.a x14.len x14.cap]) fun (s15 : Sl) =>
  L.store (⟨b2, 0, none⟩) [.slice s15.a s15.len s15.cap] <|
  L.endRound Pr l5 none R7) fun d8 j9 =>
 L.jump j9 (
  L.load eL6 (⟨b2, 0, none⟩) fun (x16 : Sl) =>
  L.call Pr z0I [.slice x16.a x16.len x16.cap] rL fun (x17 : Sl) =>
  L.unmark Pr (d8 ++ []) <|
  K (.slice x17.a x17.len x17.cap)) (
  L.unmark Pr (d8 ++ []) <|
  K (.slice none 0 0)) []
theorem zbf (p0 : Option Addr) {K : Value → PT} {w : World} (h : z86 p0 K w) : CT Pr z4R [.pointer p0] K w :=
 C_of (fn := Tryz.f60) (an := zfo) (args := [.v (.pointer p0)]) (by kernel_rfl) (by kernel_rfl) (by kernel_rfl) h
def z36 (p0 : Sl) (K : Value → PT) : PT :=
 L.ite ((p0.a).isNone) (
  K (.slice none 0 0)) <|
 L.new [] z01 fun b1 =>
 L.sem Pr (.one (.one .slice)) (Builtin.append_ #[z05, z05] z05 #[.slice (some ⟨b1, 0, none⟩) 0 0, .slice p0.a p0.len p0.cap]) fun (s2 : Sl) =>
 K (.slice s2.a s2.len s2.cap)
theorem z5p (p0 : Sl) {K : Value → PT} {w : World} (h : z36 p0 K w) : CT Pr z0I [.slice p0.a p0.len p0.cap] K w :=
 C_of (fn := Tryz.f61) (an := .auto) (args := [.v (.slice p0.a p0.len p0.cap)]) (by kernel_rfl) (by kernel_rfl) (by kernel_rfl) h
def zee : Ann := (.seq .auto (.seq (.seq .auto (.seq .auto (.cond .auto (.seq .auto (.cond .auto (.seq .auto (.cond .auto (.seq .auto (.cond .auto (.seq .auto (.cond .auto (.seq .auto (.cond .auto (.seq .auto .auto (some [(26, (.one (.bool)))]))) none)) (some [(17, (.one (.bool)))]))) none)) none)) none)) none) none) .auto none) none)
def za5 (p0 : Int) (K : Value → PT) : PT :=
 L.new [.bool false, .bool false, .bool false, .bool false, .bool false, .bool false] zcf fun b1 =>
 L.ite (p0 == 1) (
  L.store (⟨b1, 0, none⟩) [.bool true, .bool false, .bool false, .bool false, .bool true, .bool false] <|
  L.load (.agg lf4) (⟨b1, 0, none⟩) fun (x2 : pt8) =>
  K (.tuple #[(qa2 x2), .bool true])) <|
 L.ite (p0 == 2) (
  L.store (⟨b1, 0, none⟩) [.bool true, .bool false, .bool false, .bool false, .bool false, .bool true] <|
  L.load (.agg lf4) (⟨b1, 0, none⟩) fun (x3 : pt8) =>
  K (.tuple #[(qa2 x3), .bool true])) <|
 L.ite (p0 == 3) (
  L.store (⟨b1, 0, none⟩) [.bool true, .bool true, .bool false, .bool true, .bool false, .bool false] <|
  L.load (.agg lf4) (⟨b1, 0, none⟩) fun (x4 : pt8) =>
  K (.tuple #[(qa2 x4), .bool true])) <|
 L.ite (p0 == 4) (
  L.store (⟨b1, 0, none⟩) [.bool true, .bool true, .bool true, .bool true, .bool false, .bool false] <|
  L.load (.agg lf4) (⟨b1, 0, none⟩) fun (x5 : pt8) =>
  K (.tuple #[(qa2 x5), .bool true])) <|
 L.join (Y := Bool × Unit) (fun k6 =>
  L.ite (p0 == 5) (
   k6 (p0 == 5, ())) <|
  L.ite (p0 == 6) (
   k6 (p0 == 6, ())) <|
  L.ite (p0 == 7) (
   k6 (p0 == 7, ())) <|
  k6 (p0 == 8, ())) fun z7 =>
 L.ite z7.1 (
  L.store (⟨b1, 0, none⟩) [.bool true, .bool false, .bool false, .bool false, .bool false, .bool false] <|
  L.load (.agg lf4) (⟨b1, 0, none⟩) fun (x8 : pt8) =>
  K (.tuple #[(qa2 x8), .bool true])) <|
 L.ite (p0 == 9) (
  L.store (⟨b1, 0, none⟩) [.bool false, .bool false, .bool false, .bool false, .bool false, .bool false] <|
  L.load (.agg lf4) (⟨b1, 0, none⟩) fun (x9 : pt8) =>
  K (.tuple #[(qa2 x9), .bool true])) <|
 L.join (Y := Bool × Unit) (fun k10 =>
  L.ite (p0 == 10) (
   k10 (p0 == 10, ())) <|
  L.ite (p0 == 11) (
   k10 (p0 == 11, ())) <|
  L.ite (p0 == 12) (
   k10 (p0 == 12, ())) <|
  k10 (p0 == 13, ())) fun z11 =>
 L.ite z11.1 (
  L.store (⟨b1, 0, none⟩) [.bool false, .bool true, .bool false, .bool false, .bool false, .bool false] <|
  L.load (.agg lf4) (⟨b1, 0, none⟩) fun (x12 : pt8) =>
  K (.tuple #[(qa2 x12), .bool true])) <|
 L.store (⟨b1, 0, none⟩) [.bool false, .bool false, .bool false, .bool false, .bool false, .bool false] <|
 L.load (.agg lf4) (⟨b1, 0, none⟩) fun (x13 : pt8) =>
 K (.tuple #[(qa2 x13), .bool false])
theorem ze5 (p0 : Int) {K : Value → PT} {w : World} (h : za5 p0 K w) : CT Pr z6R [.int .i64 p0] K w :=
 C_of (fn := Tryz.f62) (an := zee) (args := [.v (.int .i64 p0)]) (by kernel_rfl) (by kernel_rfl) (by kernel_rfl) h
def z7r (p0 : Bool) (p1 : Int) (K : Value → PT) : PT :=
 L.ite p0 (
  K (.bool true)) <|
 K (.bool (p1 == 0))
theorem zby (p0 : Bool) (p1 : Int) {K : Value → PT} {w : World} (h : z7r p0 p1 K w) : CT Pr z3S [.bool p0, .int .i64 p1] K w :=
 C_of (fn := Tryz.f63) (an := .auto) (args := [.v (.bool p0), .v (.int .i64 p1)]) (by kernel_rfl) (by kernel_rfl) (by kernel_rfl) h
def z5S (p0 : Bool) (p1 : ByteArray) (K : Value → PT) : PT :=
 L.ite p0 (
  K (.bool true)) <|
 K (.bool (p1.toList == s_.toList))
theorem z9m (p0 : Bool) (p1 : ByteArray) {K : Value → PT} {w : World} (h : z5S p0 p1 K w) : CT Pr z2D [.bool p0, .string p1] K w :=
 C_of (fn := Tryz.f64) (an := .auto) (args := [.v (.bool p0), .v (.string p1)]) (by kernel_rfl) (by kernel_rfl) (by kernel_rfl) h
def z4t (p0 : Bool) (p1 : ht0) (K : Value → PT) : PT :=
 L.new [.string p1.1, .int .i64 p1.2.1, .int .i64 p1.2.2.1, .int .i64 p1.2.2.2.1, .int .i64 p1.2.2.2.2.1, .int .i64 p1.2.2.2.2.2.1] z0b fun b1 =>
 L.new [.string s_, .int .i64 0, .int .i64 0, .int .i64 0, .int .i64 0, .int .i64 0] z0b fun b2 =>
 L.ite p0 (
  K (.bool true)) <|
 L.load (.agg lf0) (⟨b1, 0, none⟩) fun (x3 : pt0) =>
 L.load (.agg lf0) (⟨b2, 0, none⟩) fun (x4 : pt0) =>
 L.chkSem Pr (do eqGuard .eql z0b (.tmp 0) (.tmp 0) ((qa0 x3)) ((qa0 x4)); binOp .eql z0b ((qa0 x3)) ((qa0 x4))) (.bool ((x3.1 == x4.1) && ((x3.2.1 == x4.2.1) && ((x3.2.2.1 == x4.2.2.1) && ((x3.2.2.2.1 == x4.2.2.2.1) && ((x3.2.2.2.2.1 == x4.2.2.2.2.1) && ((x3.2.2.2.2.2.1 == x4.2.2.2.2.2.1) && true))))))) <|
 K (.bool ((x3.1 == x4.1) && ((x3.2.1 == x4.2.1) && ((x3.2.2.1 == x4.2.2.1) && ((x3.2.2.2.1 == x4.2.2.2.1) && ((x3.2.2.2.2.1 == x4.2.2.2.2.1) && ((x3.2.2.2.2.2.1 == x4.2.2.2.2.2.1) && true)))))))
theorem z7a (p0 : Bool) (p1 : ht0) {K : Value → PT} {w : World} (h : z4t p0 p1 K w) : CT Pr z2E [.bool p0, (.ag (qc0 p1) : SV).toV] K w :=
 C_of (fn := Tryz.f65) (an := .auto) (args := [.v (.bool p0), .ag (qc0 p1)]) (by kernel_rfl) (by kernel_rfl) (by kernel_rfl) h
def zbe (p0 : ht2) (K : Value → PT) : PT :=
 L.new [.string p0.1, .string p0.2.1, .slice p0.2.2.1.a p0.2.2.1.len p0.2.2.1.cap, .int .i64 p0.2.2.2.1] z5G fun b1 =>
 L.load eS6 ((⟨b1, 0, none⟩ : Addr).add 0) fun (x2 : ByteArray) =>
 L.ite (x2.toList == s_.toList) (
  L.load eS6 ((⟨b1, 0, none⟩ : Addr).add 1) fun (x3 : ByteArray) =>
  L.ite (x3.toList == s_.toList) (
   L.load eI6 ((⟨b1, 0, none⟩ : Addr).add 3) fun (x4 : Int) =>
   L.ite (x4 == 0) (
    L.load eL6 ((⟨b1, 0, none⟩ : Addr).add 2) fun (x5 : Sl) =>
    K (.bool (((x5.len : Nat) : Int) == 0))) <|
   K (.bool false)) <|
  K (.bool false)) <|
 K (.bool false)
theorem zfl (p0 : ht2) {K : Value → PT} {w : World} (h : zbe p0 K w) : CT Pr z7J [(.ag (qc2 p0) : SV).toV] K w :=
 C_of (fn := Tryz.f66) (an := .auto) (args := [.ag (qc2 p0)]) (by kernel_rfl) (by kernel_rfl) (by kernel_rfl) h
def zcS : Ann := (.seq .auto (.seq (.seq .auto (.seq .auto .auto (some [(5, (.one (.bool)))])) none) .auto none) none)
def z8Z (p0 : ht1) (K : Value → PT) : PT :=
 L.new [.int .i64 p0.1, .string p0.2.1, .string p0.2.2.1, .int .i64 p0.2.2.2.1, .int .i64 p0.2.2.2.2.1, .string p0.2.2.2.2.2.1, .int .i64 p0.2.2.2.2.2.2.1, .int .i64 p0.2.2.2.2.2.2.2.1, .int .i64 p0.2.2.2.2.2.2.2.2.1, .int .i64 p0.2.2.2.2.2.2.2.2.2.1, .int .i64 p0.2.2.2.2.2.2.2.2.2.2.1, .string p0.2.2.2.2.2.2.2.2.2.2.2.1, .string p0.2.2.2.2.2.2.2.2.2.2.2.2.1, .slice p0.2.2.2.2.2.2.2.2.2.2.2.2.2.1.a p0.2.2.2.2.2.2.2.2.2.2.2.2.2.1.len p0.2.2.2.2.2.2.2.2.2.2.2.2.2.1.cap, .int .i64 p0.2.2.2.2.2.2.2.2.2.2.2.2.2.2.1] z0p fun b1 =>
 L.load eI6 ((⟨b1, 0, none⟩ : Addr).add 0) fun (x2 : Int) =>
 L.join (Y := Bool × Unit) (fun k3 =>
  L.ite (x2 == 1) (
   k3 (x2 == 1, ())) <|
  k3 (x2 == 2, ())) fun z4 =>
 L.ite z4.1 (
  L.load eI6 ((⟨b1, 0, none⟩ : Addr).add 3) fun (x5 : Int) =>
  L.call Pr z0C [.int .i64 x5, .int .i64 0, .int .i64 2147483647] rB fun (x6 : Bool) =>
  K (.bool x6)) <|
 L.ite (x2 == 3) (
  L.load eI6 ((⟨b1, 0, none⟩ : Addr).add 3) fun (x7 : Int) =>
  L.call Pr z0C [.int .i64 x7, .int .i64 1, .int .i64 2] rB fun (x8 : Bool) =>
  K (.bool x8)) <|
 L.load eI6 ((⟨b1, 0, none⟩ : Addr).add 3) fun (x9 : Int) =>
 L.call Pr z0C [.int .i64 x9, .int .i64 1, .int .i64 2147483647] rB fun (x10 : Bool) =>
 K (.bool x10)
theorem zcQ (p0 : ht1) {K : Value → PT} {w : World} (h : z8Z p0 K w) : CT Pr z6o [(.ag (qc1 p0) : SV).toV] K w :=
 C_of (fn := Tryz.f67) (an := zcS) (args := [.ag (qc1 p0)]) (by kernel_rfl) (by kernel_rfl) (by kernel_rfl) h
def za6 (p0 : ht1) (K : Value → PT) : PT :=
 L.new [.int .i64 p0.1, .string p0.2.1, .string p0.2.2.1, .int .i64 p0.2.2.2.1, .int .i64 p0.2.2.2.2.1, .string p0.2.2.2.2.2.1, .int .i64 p0.2.2.2.2.2.2.1, .int .i64 p0.2.2.2.2.2.2.2.1, .int .i64 p0.2.2.2.2.2.2.2.2.1, .int .i64 p0.2.2.2.2.2.2.2.2.2.1, .int .i64 p0.2.2.2.2.2.2.2.2.2.2.1, .string p0.2.2.2.2.2.2.2.2.2.2.2.1, .string p0.2.2.2.2.2.2.2.2.2.2.2.2.1, .slice p0.2.2.2.2.2.2.2.2.2.2.2.2.2.1.a p0.2.2.2.2.2.2.2.2.2.2.2.2.2.1.len p0.2.2.2.2.2.2.2.2.2.2.2.2.2.1.cap, .int .i64 p0.2.2.2.2.2.2.2.2.2.2.2.2.2.2.1] z0p fun b1 =>
 L.load eI6 ((⟨b1, 0, none⟩ : Addr).add 0) fun (x2 : Int) =>
 L.ite (x2 == 12) (
  L.load eS6 ((⟨b1, 0, none⟩ : Addr).add 1) fun (x3 : ByteArray) =>
  L.call Pr z3t [.string x3] (.tup [eS6, eI6, eB6]) fun (x4 : ByteArray × Int × Bool × Unit) =>
  K (.bool x4.2.2.1)) <|
 L.load eI6 ((⟨b1, 0, none⟩ : Addr).add 0) fun (x5 : Int) =>
 L.ite (x5 == 13) (
  L.load eS6 ((⟨b1, 0, none⟩ : Addr).add 1) fun (x6 : ByteArray) =>
  L.call Pr z3t [.string x6] (.tup [eS6, eI6, eB6]) fun (x7 : ByteArray × Int × Bool × Unit) =>
  K (.bool x7.2.2.1)) <|
 L.load eS6 ((⟨b1, 0, none⟩ : Addr).add 1) fun (x8 : ByteArray) =>
 L.call Pr z3j [.string x8] rB fun (x9 : Bool) =>
 K (.bool x9)
theorem ze6 (p0 : ht1) {K : Value → PT} {w : World} (h : za6 p0 K w) : CT Pr z5m [(.ag (qc1 p0) : SV).toV] K w :=
 C_of (fn := Tryz.f68) (an := .auto) (args := [.ag (qc1 p0)]) (by kernel_rfl) (by kernel_rfl) (by kernel_rfl) h
def zcl (p0 : ByteArray) (K : Value → PT) : PT :=
 L.call Pr z5l [.string p0, .int .i64 8] rB fun (x1 : Bool) =>
 K (.bool x1)
theorem zg9 (p0 : ByteArray) {K : Value → PT} {w : World} (h : zcl p0 K w) : CT Pr z2C [.string p0] K w :=
 C_of (fn := Tryz.f69) (an := .auto) (args := [.v (.string p0)]) (by kernel_rfl) (by kernel_rfl) (by kernel_rfl) h
def z8Y (p0 : Int) (p1 : Int) (p2 : Int) (K : Value → PT) : PT :=
 L.ite (decide (p0 ≥ p1)) (
  K (.bool (decide (p0 ≤ p2)))) <|
 K (.bool false)
theorem zcP (p0 : Int) (p1 : Int) (p2 : Int) {K : Value → PT} {w : World} (h : z8Y p0 p1 p2 K w) : CT Pr z0C [.int .i64 p0, .int .i64 p1, .int .i64 p2] K w :=
 C_of (fn := Tryz.f70) (an := .auto) (args := [.v (.int .i64 p0), .v (.int .i64 p1), .v (.int .i64 p2)]) (by kernel_rfl) (by kernel_rfl) (by kernel_rfl) h
def zeb : Ann := (.seq .auto (.seq (.seq .auto (.cond .auto (.seq .auto .auto (some [(8, (.one (.bool)))]))) none) .auto none) none)
def za0 (p0 : ht0) (K : Value → PT) : PT :=
 L.new [.string p0.1, .int .i64 p0.2.1, .int .i64 p0.2.2.1, .int .i64 p0.2.2.2.1, .int .i64 p0.2.2.2.2.1, .int .i64 p0.2.2.2.2.2.1] z0b fun b1 =>
 L.load eS6 ((⟨b1, 0, none⟩ : Addr).add 0) fun (x2 : ByteArray) =>
 L.call Pr z3j [.string x2] rB fun (x3 : Bool) =>
 L.ite (!x3) (
  K (.int .i64 1)) <|
 L.join (Y := Bool × Unit) (fun k4 =>
  L.load eI6 ((⟨b1, 0, none⟩ : Addr).add 1) fun (x6 : Int) =>
  L.call Pr z0T [.agg #[.int .i64 0, .int .i64 255], .int .i64 x6] rB fun (x7 : Bool) =>
  L.ite (!x7) (
   k4 (!x7, ())) <|
  L.load eI6 ((⟨b1, 0, none⟩ : Addr).add 2) fun (x8 : Int) =>
  L.call Pr z0T [.agg #[.int .i64 1, .int .i64 8], .int .i64 x8] rB fun (x9 : Bool) =>
  L.ite (!x9) (
   k4 (!x9, ())) <|
  L.load eI6 ((⟨b1, 0, none⟩ : Addr).add 4) fun (x10 : Int) =>
  L.call Pr z0T [.agg #[.int .i64 1, .int .i64 10], .int .i64 x10] rB fun (x11 : Bool) =>
  L.ite (!x11) (
   k4 (!x11, ())) <|
  L.load eI6 ((⟨b1, 0, none⟩ : Addr).add 4) fun (x12 : Int) =>
  L.load eI6 ((⟨b1, 0, none⟩ : Addr).add 3) fun (x13 : Int) =>
  L.call Pr z0T [.agg #[.int .i64 0, .int .i64 x12], .int .i64 x13] rB fun (x14 : Bool) =>
  L.ite (!x14) (
   k4 (!x14, ())) <|
  L.load eI6 ((⟨b1, 0, none⟩ : Addr).add 5) fun (x15 : Int) =>
  L.call Pr z0T [.agg #[.int .i64 0, .int .i64 30], .int .i64 x15] rB fun (x16 : Bool) =>
  k4 (!x16, ())) fun z5 =>
 L.ite z5.1 (
  K (.int .i64 2)) <|
 K (.int .i64 0)
theorem ze0 (p0 : ht0) {K : Value → PT} {w : World} (h : za0 p0 K w) : CT Pr z0j [(.ag (qc0 p0) : SV).toV] K w :=
 C_of (fn := Tryz.f71) (an := zeb) (args := [.ag (qc0 p0)]) (by kernel_rfl) (by kernel_rfl) (by kernel_rfl) h
def zfm : Ann := (.seq .auto (.seq (.seq .auto .auto (some [(6, (.one (.bool)))])) (.seq (.seq .auto (.one [(31, (.one (.int .i64)))] .auto) none) .auto none) none) none)
def zb6 (p0 : ht2) (K : Value → PT) : PT :=
 L.new [.string p0.1, .string p0.2.1, .slice p0.2.2.1.a p0.2.2.1.len p0.2.2.1.cap, .int .i64 p0.2.2.2.1] z5G fun b1 =>
 L.join (Y := Bool × Unit) (fun k2 =>
  L.load eS6 ((⟨b1, 0, none⟩ : Addr).add 0) fun (x4 : ByteArray) =>
  L.call Pr z3j [.string x4] rB fun (x5 : Bool) =>
  L.ite (!x5) (
   k2 (!x5, ())) <|
  L.load eS6 ((⟨b1, 0, none⟩ : Addr).add 1) fun (x6 : ByteArray) =>
  L.call Pr z3j [.string x6] rB fun (x7 : Bool) =>
  k2 (!x7, ())) fun z3 =>
 L.ite z3.1 (
  K (.int .i64 1)) <|
 L.load eI6 ((⟨b1, 0, none⟩ : Addr).add 3) fun (x8 : Int) =>
 L.call Pr z0T [.agg #[.int .i64 0, .int .i64 60], .int .i64 x8] rB fun (x9 : Bool) =>
 L.ite (!x9) (
  K (.int .i64 2)) <|
 L.load eL6 ((⟨b1, 0, none⟩ : Addr).add 2) fun (x10 : Sl) =>
 L.call Pr z0T [.agg #[.int .i64 1, .int .i64 6], .int .i64 ((x10.len : Nat) : Int)] rB fun (x11 : Bool) =>
 L.ite (!x11) (
  K (.int .i64 3)) <|
 L.load eL6 ((⟨b1, 0, none⟩ : Addr).add 2) fun (x12 : Sl) =>
 L.loop (Y := Int × Unit) (0, ()) fun y13 again14 =>
 L.ite (decide (y13.1 < ((x12.len : Nat) : Int))) (
  L.idx x12.a y13.1 x12.len 3 fun a15 =>
  L.load (.agg [.str, .str, .int .i64]) a15 fun (x16 : pt9) =>
  L.new [.string s_, .string s_, .int .i64 0] z0O fun b17 =>
  L.store (⟨b17, 0, none⟩) [.string x16.1, .string x16.2.1, .int .i64 x16.2.2.1] <|
  L.load (.agg [.str, .str, .int .i64]) (⟨b17, 0, none⟩) fun (x18 : pt9) =>
  L.call Pr z6O [.agg #[.string x18.1, .string x18.2.1, .int .i64 x18.2.2.1]] rI fun (x19 : Int) =>
  L.ite (x19 != 0) (
   K (.int .i64 x19)) <|
  again14 (IntKind.wrap .i64 (y13.1 + 1), ())) <|
 L.load eL6 ((⟨b1, 0, none⟩ : Addr).add 2) fun (x20 : Sl) =>
 L.call Pr zay [.slice x20.a x20.len x20.cap] rI fun (x21 : Int) =>
 K (.int .i64 x21)
theorem zfd (p0 : ht2) {K : Value → PT} {w : World} (h : zb6 p0 K w) : CT Pr z0r [(.ag (qc2 p0) : SV).toV] K w :=
 C_of (fn := Tryz.f72) (an := zfm) (args := [.ag (qc2 p0)]) (by kernel_rfl) (by kernel_rfl) (by kernel_rfl) h
def zcp (p0 : Int) (K : Value → PT) : PT :=
 L.ite (p0 == 0) (
  K (.string s_ok)) <|
 L.ite (p0 == 1) (
  K (.string zkJ)) <|
 L.ite (p0 == 2) (
  K (.string zmp)) <|
 L.ite (p0 == 3) (
  K (.string zkM)) <|
 L.ite (p0 == 4) (
  K (.string zmm)) <|
 L.ite (p0 == 5) (
  K (.string zfv)) <|
 L.ite (p0 == 6) (
  K (.string zkI)) <|
 K (.string zdy)
theorem zgd (p0 : Int) {K : Value → PT} {w : World} (h : zcp p0 K w) : CT Pr zbZ [.int .i64 p0] K w :=
 C_of (fn := Tryz.f75) (an := .auto) (args := [.v (.int .i64 p0)]) (by kernel_rfl) (by kernel_rfl) (by kernel_rfl) h
def zdn (p0 : Int) (K : Value → PT) : PT :=
 L.ite (p0 == 7) (
  K (.string zis)) <|
 L.ite (p0 == 8) (
  K (.string zkP)) <|
 L.ite (p0 == 9) (
  K (.string zir)) <|
 L.ite (p0 == 10) (
  K (.string zmo)) <|
 L.ite (p0 == 11) (
  K (.string zkK)) <|
 L.ite (p0 == 12) (
  K (.string zkN)) <|
 K (.string zdy)
theorem zhX (p0 : Int) {K : Value → PT} {w : World} (h : zdn p0 K w) : CT Pr zd1 [.int .i64 p0] K w :=
 C_of (fn := Tryz.f76) (an := .auto) (args := [.v (.int .i64 p0)]) (by kernel_rfl) (by kernel_rfl) (by kernel_rfl) h
def z7b : Ann := (.seq .auto (.seq .auto (.seq .auto .auto (some [(8, (.one (.int .i64)))])) none) none)
def z4r (p0 : Option Addr) (p1 : ht0) (p2 : Int) (K : Value → PT) : PT :=
 L.new [.string p1.1, .int .i64 p1.2.1, .int .i64 p1.2.2.1, .int .i64 p1.2.2.2.1, .int .i64 p1.2.2.2.2.1, .int .i64 p1.2.2.2.2.2.1] z0b fun b1 =>
 L.load (.agg lf0) (⟨b1, 0, none⟩) fun (x2 : pt0) =>
 L.call Pr z0j [(qa0 x2)] rI fun (x3 : Int) =>
 L.join (Y := Int × Unit) (fun k4 =>
  L.ite (x3 == 0) (
   L.draw <|
   L.nonnil p0 fun a6 =>
   L.load eP6 (a6.add 0) fun (x7 : Option Addr) =>
   L.load eS6 ((⟨b1, 0, none⟩ : Addr).add 0) fun (x8 : ByteArray) =>
   L.call Pr z1X [.pointer x7, .string x8, .int .i64 p2, .bool true] rI fun (x9 : Int) =>
   k4 (x9, ())) <|
  k4 (x3, ())) fun z5 =>
 L.ite (z5.1 != 0) (
  K (.tuple #[.int .i64 0, .int .i64 z5.1])) <|
 L.nonnil p0 fun a10 =>
 L.load eI6 (a10.add 2) fun (x11 : Int) =>
 L.nonnil p0 fun a12 =>
 L.store (a12.add 2) [.int .i64 (IntKind.wrap .i64 (x11 + 1))] <|
 L.draw <|
 L.nonnil p0 fun a13 =>
 L.load eP6 (a13.add 0) fun (x14 : Option Addr) =>
 L.load eS6 ((⟨b1, 0, none⟩ : Addr).add 0) fun (x15 : ByteArray) =>
 L.load (.agg lf0) (⟨b1, 0, none⟩) fun (x16 : pt0) =>
 L.nonnil p0 fun a17 =>
 L.load eI6 (a17.add 2) fun (x18 : Int) =>
 L.call Pr z1W [.pointer x14, .string x15, (qa0 x16), .int .i64 x18] (.tup []) fun (x19 : Unit) =>
 L.nonnil p0 fun a20 =>
 L.load eI6 (a20.add 2) fun (x21 : Int) =>
 K (.tuple #[.int .i64 x21, .int .i64 0])
theorem z78 (p0 : Option Addr) (p1 : ht0) (p2 : Int) {K : Value → PT} {w : World} (h : z4r p0 p1 p2 K w) : CT Pr z2B [.pointer p0, (.ag (qc0 p1) : SV).toV, .int .i64 p2] K w :=
 C_of (fn := Tryz.f77) (an := z7b) (args := [.v (.pointer p0), .ag (qc0 p1), .v (.int .i64 p2)]) (by kernel_rfl) (by kernel_rfl) (by kernel_rfl) h
def zb3 (p0 : ByteArray) (p1 : ByteArray) (p2 : Int) (p3 : Int) (K : Value → PT) : PT :=
 L.ite (p3 != 0) (
  L.call Pr z1d [.int .i64 p3] rL fun (x1 : Sl) =>
  K (.slice x1.a x1.len x1.cap)) <|
 L.new [.string p1] z01 fun b2 =>
 L.call Pr z0f [.string p0, .slice (some ⟨b2, 0, none⟩) 1 1] rS fun (x3 : ByteArray) =>
 L.new [.int .i64 p2] z0i fun b4 =>
 L.call Pr z0d [.string x3, .slice (some ⟨b4, 0, none⟩) 1 1] rS fun (x5 : ByteArray) =>
 L.new [.string x5] z01 fun b6 =>
 K (.slice (some ⟨b6, 0, none⟩) 1 1)
theorem zfa (p0 : ByteArray) (p1 : ByteArray) (p2 : Int) (p3 : Int) {K : Value → PT} {w : World} (h : zb3 p0 p1 p2 p3 K w) : CT Pr z7F [.string p0, .string p1, .int .i64 p2, .int .i64 p3] K w :=
 C_of (fn := Tryz.f78) (an := .auto) (args := [.v (.string p0), .v (.string p1), .v (.int .i64 p2), .v (.int .i64 p3)]) (by kernel_rfl) (by kernel_rfl) (by kernel_rfl) h
def z7f (p0 : Int) (K : Value → PT) : PT :=
 L.call Pr z3u [.int .i64 p0] rS fun (x1 : ByteArray) =>
 L.new [.string x1] z01 fun b2 =>
 L.call Pr z0f [.string s_refused, .slice (some ⟨b2, 0, none⟩) 1 1] rS fun (x3 : ByteArray) =>
 L.new [.string x3] z01 fun b4 =>
 K (.slice (some ⟨b4, 0, none⟩) 1 1)
theorem zbm (p0 : Int) {K : Value → PT} {w : World} (h : z7f p0 K w) : CT Pr z1d [.int .i64 p0] K w :=
 C_of (fn := Tryz.f81) (an := .auto) (args := [.v (.int .i64 p0)]) (by kernel_rfl) (by kernel_rfl) (by kernel_rfl) h
def ze8 : Ann := (.seq .auto (.seq (.seq .auto (.seq .auto .auto (some [(8, (.one (.str)))])) none) .auto none) none)
def z9X (p0 : Sl) (p1 : Sl) (K : Value → PT) : PT :=
 L.new [.slice p1.a p1.len p1.cap] z05 fun b1 =>
 L.call Pr z8Q [.slice p0.a p0.len p0.cap] (.one (.one (.func))) fun (x2 : FV) =>
 L.range Pr none (.func x2.fn x2.fs x2.cs) [eS6] (fun l3 (y4 : ByteArray × Unit) R5 =>
  L.begin Pr l3 <|
  L.load eL6 (⟨b1, 0, none⟩) fun (x8 : Sl) =>
  L.new [.string y4.1] z01 fun b9 =>
  L.sem Pr (.one (.one .slice)) (Builtin.append_ #[z05, z05] z05 #[.slice x8.a x8.len x8.cap, .slice (some ⟨b9, 0, none⟩) 1 1]) fun (s10 : Sl) =>
  L.store (⟨b1, 0, none⟩) [.slice s10.a s10.len s10.cap] <|
  L.endRound Pr l3 none R5) fun d6 j7 =>
 L.jump j7 (
  L.load eL6 (⟨b1, 0, none⟩) fun (x11 : Sl) =>
  L.call Pr z0I [.slice x11.a x11.len x11.cap] rL fun (x12 : Sl) =>
  L.unmark Pr (d6 ++ []) <|
  K (.slice x12.a x12.len x12.cap)) (
  L.unmark Pr (d6 ++ []) <|
  K (.slice none 0 0)) []
theorem zdX (p0 : Sl) (p1 : Sl) {K : Value → PT} {w : World} (h : z9X p0 p1 K w) : CT Pr z5k [.slice p0.a p0.len p0.cap, .slice p1.a p1.len p1.cap] K w :=
 C_of (fn := Tryz.f85) (an := ze8) (args := [.v (.slice p0.a p0.len p0.cap), .v (.slice p1.a p1.len p1.cap)]) (by kernel_rfl) (by kernel_rfl) (by kernel_rfl) h
def zaU : Ann := (.seq .auto (.seq .auto (.seq (.seq .auto (.one [(5, (.one (.slice))), (14, (.one (.int .i64)))] (.seq .auto (.seq .auto (.seq .auto .auto (some [(5, (.one (.slice)))])) none) none)) none) .auto none) none) none)
def z6E (p0 : ByteArray) (p1 : Sl) (K : Value → PT) : PT :=
 L.new [.string p0] z01 fun b1 =>
 L.loop (Y := Sl × Int × Unit) (⟨some ⟨b1, 0, none⟩, 1, 1⟩, 0, ()) fun y2 again3 =>
 L.ite (decide (y2.2.1 < ((p1.len : Nat) : Int))) (
  L.join (Y := Sl × Unit) (fun k4 =>
   L.idx p1.a y2.2.1 p1.len 1 fun a6 =>
   L.load eI6 a6 fun (x7 : Int) =>
   L.semR Pr (.tup [eS6, .one .bool]) (Instr.typeAssert (.iface z0i (.int .i64 x7)) z9d z01 true) fun (x8 : ByteArray × Bool × Unit) =>
   L.ite x8.2.1 (
    L.new [.string x8.1] z01 fun b9 =>
    L.sem Pr (.one (.one .slice)) (Builtin.append_ #[z05, z05] z05 #[.slice y2.1.a y2.1.len y2.1.cap, .slice (some ⟨b9, 0, none⟩) 1 1]) fun (s10 : Sl) =>
    k4 (⟨s10.a, s10.len, s10.cap⟩, ())) <|
   L.ite true (
    L.call Pr z3L [.int .i64 x7] rS fun (x11 : ByteArray) =>
    L.new [.string x11] z01 fun b12 =>
    L.sem Pr (.one (.one .slice)) (Builtin.append_ #[z05, z05] z05 #[.slice y2.1.a y2.1.len y2.1.cap, .slice (some ⟨b12, 0, none⟩) 1 1]) fun (s13 : Sl) =>
    k4 (⟨s13.a, s13.len, s13.cap⟩, ())) <|
   k4 (⟨y2.1.a, y2.1.len, y2.1.cap⟩, ())) fun z5 =>
  again3 (⟨z5.1.a, z5.1.len, z5.1.cap⟩, IntKind.wrap .i64 (y2.2.1 + 1), ())) <|
 L.call Pr z6l [.slice y2.1.a y2.1.len y2.1.cap, .string z9v] rS fun (x14 : ByteArray) =>
 K (.string x14)
theorem zaP (p0 : ByteArray) (p1 : Sl) {K : Value → PT} {w : World} (h : z6E p0 p1 K w) : CT Pr z0d [.string p0, .slice p1.a p1.len p1.cap] K w :=
 C_of (fn := Tryz.f86) (an := zaU) (args := [.v (.string p0), .v (.slice p1.a p1.len p1.cap)]) (by kernel_rfl) (by kernel_rfl) (by kernel_rfl) h
def z7p (p0 : Option Addr) (p1 : Int) (K : Value → PT) : PT :=
 L.nonnil p0 fun a1 =>
 L.load (.one (.map)) (a1.add 0) fun (x2 : Option Nat) =>
 L.semR Pr (.tup [(.agg [.str, .ptr]), .one .bool]) (Instr.lookup z0o (.map x2) (.int .i64 p1) true) fun (x3 : pt12) =>
 L.new [.string s_, .pointer none] z4J fun b4 =>
 L.store (⟨b4, 0, none⟩) [.string x3.1.1, .pointer x3.1.2.1] <|
 L.ite (!x3.2.1) (
  K (.int .i64 6)) <|
 L.load eP6 ((⟨b4, 0, none⟩ : Addr).add 1) fun (x5 : Option Addr) =>
 L.call Pr z7G [.pointer x5] rI fun (x6 : Int) =>
 K (.int .i64 x6)
theorem zbw (p0 : Option Addr) (p1 : Int) {K : Value → PT} {w : World} (h : z7p p0 p1 K w) : CT Pr z3R [.pointer p0, .int .i64 p1] K w :=
 C_of (fn := Tryz.f88) (an := .auto) (args := [.v (.pointer p0), .v (.int .i64 p1)]) (by kernel_rfl) (by kernel_rfl) (by kernel_rfl) h
def z7q (p0 : Option Addr) (p1 : Int) (K : Value → PT) : PT :=
 L.nonnil p0 fun a1 =>
 L.load (.one (.map)) (a1.add 0) fun (x2 : Option Nat) =>
 L.semR Pr (.one (.agg [.str, .ptr])) (Instr.lookup z0o (.map x2) (.int .i64 p1) false) fun (x3 : ByteArray × Option Addr × Unit) =>
 K (.string x3.1)
theorem zbx (p0 : Option Addr) (p1 : Int) {K : Value → PT} {w : World} (h : z7q p0 p1 K w) : CT Pr z56 [.pointer p0, .int .i64 p1] K w :=
 C_of (fn := Tryz.f89) (an := .auto) (args := [.v (.pointer p0), .v (.int .i64 p1)]) (by kernel_rfl) (by kernel_rfl) (by kernel_rfl) h
def z5M (p0 : Option Addr) (p1 : ByteArray) (K : Value → PT) : PT :=
 L.nonnil p0 fun a1 =>
 L.load (.one (.map)) (a1.add 1) fun (x2 : Option Nat) =>
 L.semR Pr rB (Instr.lookup z35 (.map x2) (.string p1) false) fun (x3 : Bool) =>
 K (.bool x3)
theorem z9i (p0 : Option Addr) (p1 : ByteArray) {K : Value → PT} {w : World} (h : z5M p0 p1 K w) : CT Pr z3V [.pointer p0, .string p1] K w :=
 C_of (fn := Tryz.f90) (an := .auto) (args := [.v (.pointer p0), .v (.string p1)]) (by kernel_rfl) (by kernel_rfl) (by kernel_rfl) h
def z6c (p0 : Option Addr) (p1 : ByteArray) (K : Value → PT) : PT :=
 L.nonnil p0 fun a1 =>
 L.load (.one (.map)) (a1.add 0) fun (x2 : Option Nat) =>
 L.semR Pr (.tup [(.agg lf5), .one .bool]) (Instr.lookup z0k (.map x2) (.string p1) true) fun (x3 : pt6) =>
 L.new [.string s_, .int .i64 0, .string s_, .int .i64 0, .int .i64 0, .int .i64 0, .int .i64 0, .int .i64 0] z0l fun b4 =>
 L.store (⟨b4, 0, none⟩) [.string x3.1.1, .int .i64 x3.1.2.1, .string x3.1.2.2.1, .int .i64 x3.1.2.2.2.1, .int .i64 x3.1.2.2.2.2.1, .int .i64 x3.1.2.2.2.2.2.1, .int .i64 x3.1.2.2.2.2.2.2.1, .int .i64 x3.1.2.2.2.2.2.2.2.1] <|
 L.ite (!x3.2.1) (
  K (.int .i64 6)) <|
 L.nonnil p0 fun a5 =>
 L.load (.one (.map)) (a5.add 1) fun (x6 : Option Nat) =>
 L.semU Pr (Instr.mapUpdate z35 (.map x6) (.string p1) (.bool true)) <|
 K (.int .i64 0)
theorem zad (p0 : Option Addr) (p1 : ByteArray) {K : Value → PT} {w : World} (h : z6c p0 p1 K w) : CT Pr z4e [.pointer p0, .string p1] K w :=
 C_of (fn := Tryz.f91) (an := .auto) (args := [.v (.pointer p0), .v (.string p1)]) (by kernel_rfl) (by kernel_rfl) (by kernel_rfl) h
def zbB : Ann := (.seq .auto (.seq .auto (.seq .auto (.seq (.seq .auto (.one [(5, (.one (.slice))), (19, (.one (.int .i64)))] .auto) none) .auto (some [(5, (.one (.slice)))])) none) none) none)
def z7l (p0 : Option Addr) (p1 : ByteArray) (K : Value → PT) : PT :=
 L.nonnil p0 fun a1 =>
 L.call Pr z2v [.pointer (some (a1.add 2)), .string p1] rP fun (x2 : Option Addr) =>
 L.join (Y := Sl × Unit) (fun k3 =>
  L.call Pr z4c [.pointer x2] rL fun (x5 : Sl) =>
  L.loop (Y := Sl × Int × Unit) (⟨none, 0, 0⟩, 0, ()) fun y6 again7 =>
  L.ite (decide (y6.2.1 < ((x5.len : Nat) : Int))) (
   L.idx x5.a y6.2.1 x5.len 1 fun a8 =>
   L.load eI6 a8 fun (x9 : Int) =>
   L.call Pr z50 [.pointer p0, .int .i64 x9, .string p1] (.tup [(.agg [.int .i64, .int .i64, .int .i64, .str]), eB6]) fun (x10 : pt11) =>
   L.new [.int .i64 0, .int .i64 0, .int .i64 0, .string s_] z0z fun b11 =>
   L.store (⟨b11, 0, none⟩) [.int .i64 x10.1.1, .int .i64 x10.1.2.1, .int .i64 x10.1.2.2.1, .string x10.1.2.2.2.1] <|
   L.ite (!x10.2.1) (
    k3 (⟨y6.1.a, y6.1.len, y6.1.cap⟩, ())) <|
   L.call Pr z5x [.pointer x2] (.tup [eI6, eB6]) fun (x12 : Int × Bool × Unit) =>
   L.load (.agg [.int .i64, .int .i64, .int .i64, .str]) (⟨b11, 0, none⟩) fun (x13 : pt10) =>
   L.new [.int .i64 x13.1, .int .i64 x13.2.1, .int .i64 x13.2.2.1, .string x13.2.2.2.1] z0z fun b14 =>
   L.sem Pr (.one (.one .slice)) (Builtin.append_ #[z0m, z0m] z0m #[.slice y6.1.a y6.1.len y6.1.cap, .slice (some ⟨b14, 0, none⟩) 1 1]) fun (s15 : Sl) =>
   again7 (⟨s15.a, s15.len, s15.cap⟩, IntKind.wrap .i64 (y6.2.1 + 1), ())) <|
  k3 (⟨y6.1.a, y6.1.len, y6.1.cap⟩, ())) fun z4 =>
 L.call Pr z0U [.slice z4.1.a z4.1.len z4.1.cap] rL fun (x16 : Sl) =>
 K (.slice x16.a x16.len x16.cap)
theorem zbs (p0 : Option Addr) (p1 : ByteArray) {K : Value → PT} {w : World} (h : z7l p0 p1 K w) : CT Pr z54 [.pointer p0, .string p1] K w :=
 C_of (fn := Tryz.f92) (an := zbB) (args := [.v (.pointer p0), .v (.string p1)]) (by kernel_rfl) (by kernel_rfl) (by kernel_rfl) h
def zbA : Ann := (.seq .auto (.seq .auto (.seq (.seq .auto (.seq .auto (.seq .auto (.one [(20, (.one (.int .i64)))] .auto) none) (some [(14, (.one (.str))), (15, (.one (.ptr)))])) none) .auto none) none) none)
def z7k (p0 : Option Addr) (p1 : Int) (K : Value → PT) : PT :=
 L.new [.pointer p0] z2o fun b1 =>
 L.new [.int .i64 p1] z0i fun b2 =>
 L.new [.slice none 0 0] z0m fun b3 =>
 L.load eP6 (⟨b1, 0, none⟩) fun (x4 : Option Addr) =>
 L.nonnil x4 fun a5 =>
 L.call Pr z3z [.pointer (some (a5.add 2))] (.one (.one (.func))) fun (x6 : FV) =>
 L.range Pr none (.func x6.fn x6.fs x6.cs) [eS6, eP6] (fun l7 (y8 : ByteArray × Option Addr × Unit) R9 =>
  L.begin Pr l7 <|
  L.load eI6 (⟨b2, 0, none⟩) fun (x12 : Int) =>
  L.call Pr z4Y [.pointer y8.2.1, .int .i64 x12] rL fun (x13 : Sl) =>
  L.loop (Y := Int × Unit) (0, ()) fun y14 again15 =>
  L.ite (decide (y14.1 < ((x13.len : Nat) : Int))) (
   L.idx x13.a y14.1 x13.len 1 fun a16 =>
   L.load eI6 a16 fun (x17 : Int) =>
   L.draw <|
   L.load eL6 (⟨b3, 0, none⟩) fun (x18 : Sl) =>
   L.load eP6 (⟨b1, 0, none⟩) fun (x19 : Option Addr) =>
   L.call Pr zaA [.string s_timeout] (.one (.agg [.int .i64, .int .i64, .int .i64, .str])) fun (x20 : pt10) =>
   L.chk (⟨b1, 0, none⟩) [.pointer x19] <|
   L.chk (⟨b3, 0, none⟩) [.slice x18.a x18.len x18.cap] <|
   L.call Pr z4i [.pointer x19, .int .i64 x17, .string y8.1, .agg #[.int .i64 x20.1, .int .i64 x20.2.1, .int .i64 x20.2.2.1, .string x20.2.2.2.1]] (.one (.agg [.int .i64, .int .i64, .int .i64, .str])) fun (x21 : pt10) =>
   L.chk (⟨b3, 0, none⟩) [.slice x18.a x18.len x18.cap] <|
   L.new [.int .i64 x21.1, .int .i64 x21.2.1, .int .i64 x21.2.2.1, .string x21.2.2.2.1] z0z fun b22 =>
   L.chk (⟨b3, 0, none⟩) [.slice x18.a x18.len x18.cap] <|
   L.sem Pr (.one (.one .slice)) (Builtin.append_ #[z0m, z0m] z0m #[.slice x18.a x18.len x18.cap, .slice (some ⟨b22, 0, none⟩) 1 1]) fun (s23 : Sl) =>
   L.store (⟨b3, 0, none⟩) [.slice s23.a s23.len s23.cap] <|
   again15 (IntKind.wrap .i64 (y14.1 + 1), ())) <|
  L.endRound Pr l7 none R9) fun d10 j11 =>
 L.jump j11 (
  L.load eL6 (⟨b3, 0, none⟩) fun (x24 : Sl) =>
  L.call Pr z0U [.slice x24.a x24.len x24.cap] rL fun (x25 : Sl) =>
  L.unmark Pr (d10 ++ []) <|
  K (.slice x25.a x25.len x25.cap)) (
  L.unmark Pr (d10 ++ []) <|
  K (.slice none 0 0)) []
theorem zbr (p0 : Option Addr) (p1 : Int) {K : Value → PT} {w : World} (h : z7k p0 p1 K w) : CT Pr z52 [.pointer p0, .int .i64 p1] K w :=
 C_of (fn := Tryz.f95) (an := zbA) (args := [.v (.pointer p0), .v (.int .i64 p1)]) (by kernel_rfl) (by kernel_rfl) (by kernel_rfl) h
def z6G (p0 : Option Addr) (p1 : Int) (K : Value → PT) : PT :=
 L.nonnil p0 fun a1 =>
 L.call Pr z3G [.pointer (some (a1.add 0)), .int .i64 (if 0 > p1 then 0 else p1)] (.tup []) fun (x2 : Unit) =>
 L.nonnil p0 fun a3 =>
 L.load eI6 (a3.add 61) fun (x4 : Int) =>
 L.nonnil p0 fun a5 =>
 L.store (a5.add 61) [.int .i64 (IntKind.wrap .i64 (x4 + 1))] <|
 L.ite (decide ((if 0 > p1 then 0 else p1) > 0)) (
  L.nonnil p0 fun a6 =>
  L.store (a6.add 61) [.int .i64 0] <|
  K (.tuple #[])) <|
 K (.tuple #[])
theorem zaR (p0 : Option Addr) (p1 : Int) {K : Value → PT} {w : World} (h : z6G p0 p1 K w) : CT Pr z4H [.pointer p0, .int .i64 p1] K w :=
 C_of (fn := Tryz.f96) (an := .auto) (args := [.v (.pointer p0), .v (.int .i64 p1)]) (by kernel_rfl) (by kernel_rfl) (by kernel_rfl) h
def z7m (p0 : Option Addr) (p1 : ByteArray) (K : Value → PT) : PT :=
 L.call Pr z33 [.pointer p0, .string p1] (.tup [eL6, eL6]) fun (x1 : Sl × Sl × Unit) =>
 K (.int .i64 (IntKind.wrap .i64 (((x1.1.len : Nat) : Int) + ((x1.2.1.len : Nat) : Int))))
theorem zbt (p0 : Option Addr) (p1 : ByteArray) {K : Value → PT} {w : World} (h : z7m p0 p1 K w) : CT Pr z3Q [.pointer p0, .string p1] K w :=
 C_of (fn := Tryz.f97) (an := .auto) (args := [.v (.pointer p0), .v (.string p1)]) (by kernel_rfl) (by kernel_rfl) (by kernel_rfl) h
def z5c (p0 : Option Addr) (p1 : ByteArray) (K : Value → PT) : PT :=
 L.new [.string s_, .int .i64 0, .int .i64 0, .int .i64 0, .int .i64 0, .int .i64 0] z0b fun b1 =>
 L.nonnil p0 fun a2 =>
 L.load eP6 (a2.add 0) fun (x3 : Option Addr) =>
 L.call Pr z1Y [.pointer x3, .string p1] (.tup [(.agg lf11), eB6]) fun (x4 : pt13) =>
 L.new [.string s_, .int .i64 0, .int .i64 0, .int .i64 0, .int .i64 0, .int .i64 0, .int .i64 0, .int .i64 0, .bool false] z0a fun b5 =>
 L.store (⟨b5, 0, none⟩) [.string x4.1.1, .int .i64 x4.1.2.1, .int .i64 x4.1.2.2.1, .int .i64 x4.1.2.2.2.1, .int .i64 x4.1.2.2.2.2.1, .int .i64 x4.1.2.2.2.2.2.1, .int .i64 x4.1.2.2.2.2.2.2.1, .int .i64 x4.1.2.2.2.2.2.2.2.1, .bool x4.1.2.2.2.2.2.2.2.2.1] <|
 L.ite (!x4.2.1) (
  L.store (⟨b1, 0, none⟩) [.string s_, .int .i64 0, .int .i64 0, .int .i64 0, .int .i64 0, .int .i64 0] <|
  L.load (.agg lf0) (⟨b1, 0, none⟩) fun (x6 : pt0) =>
  K (.tuple #[(qa0 x6), .int .i64 0, .int .i64 0, .bool false])) <|
 L.draw <|
 L.load (.agg lf0) ((⟨b5, 0, none⟩ : Addr).add 0) fun (x7 : pt0) =>
 L.load eI6 ((⟨b5, 0, none⟩ : Addr).add 6) fun (x8 : Int) =>
 L.load eI6 ((⟨b5, 0, none⟩ : Addr).add 7) fun (x9 : Int) =>
 L.store (⟨b1, 0, none⟩) [.string x7.1, .int .i64 x7.2.1, .int .i64 x7.2.2.1, .int .i64 x7.2.2.2.1, .int .i64 x7.2.2.2.2.1, .int .i64 x7.2.2.2.2.2.1] <|
 L.chk ((⟨b5, 0, none⟩ : Addr).add 7) [.int .i64 x9] <|
 L.chk ((⟨b5, 0, none⟩ : Addr).add 6) [.int .i64 x8] <|
 L.chk ((⟨b5, 0, none⟩ : Addr).add 7) [.int .i64 x9] <|
 L.load (.agg lf0) (⟨b1, 0, none⟩) fun (x10 : pt0) =>
 K (.tuple #[(qa0 x10), .int .i64 x8, .int .i64 x9, .bool true])
theorem z8I (p0 : Option Addr) (p1 : ByteArray) {K : Value → PT} {w : World} (h : z5c p0 p1 K w) : CT Pr z2u [.pointer p0, .string p1] K w :=
 C_of (fn := Tryz.f98) (an := .auto) (args := [.v (.pointer p0), .v (.string p1)]) (by kernel_rfl) (by kernel_rfl) (by kernel_rfl) h
def z6b (p0 : Option Addr) (p1 : ht0) (p2 : Int) (K : Value → PT) : PT :=
 L.new [.string p1.1, .int .i64 p1.2.1, .int .i64 p1.2.2.1, .int .i64 p1.2.2.2.1, .int .i64 p1.2.2.2.2.1, .int .i64 p1.2.2.2.2.2.1] z0b fun b1 =>
 L.load eS6 ((⟨b1, 0, none⟩ : Addr).add 0) fun (x2 : ByteArray) =>
 L.call Pr z6Q [.string x2, .int .i64 p2] rS fun (x3 : ByteArray) =>
 L.ite (x3.toList == s_.toList) (
  K (.tuple #[.string x3, .bool false])) <|
 L.nonnil p0 fun a4 =>
 L.load (.one (.map)) (a4.add 0) fun (x5 : Option Nat) =>
 L.semR Pr (.one (.agg lf5)) (Instr.lookup z0k (.map x5) (.string x3) false) fun (x6 : pt14) =>
 L.chkSem Pr (do eqGuard .neq z0l (.tmp 0) (.tmp 0) ((qa3 x6)) (.agg #[.string s_, .int .i64 0, .string s_, .int .i64 0, .int .i64 0, .int .i64 0, .int .i64 0, .int .i64 0]); binOp .neq z0l ((qa3 x6)) (.agg #[.string s_, .int .i64 0, .string s_, .int .i64 0, .int .i64 0, .int .i64 0, .int .i64 0, .int .i64 0])) (.bool (!((x6.1 == s_) && ((x6.2.1 == 0) && ((x6.2.2.1 == s_) && ((x6.2.2.2.1 == 0) && ((x6.2.2.2.2.1 == 0) && ((x6.2.2.2.2.2.1 == 0) && ((x6.2.2.2.2.2.2.1 == 0) && ((x6.2.2.2.2.2.2.2.1 == 0) && true)))))))))) <|
 L.ite (!((x6.1 == s_) && ((x6.2.1 == 0) && ((x6.2.2.1 == s_) && ((x6.2.2.2.1 == 0) && ((x6.2.2.2.2.1 == 0) && ((x6.2.2.2.2.2.1 == 0) && ((x6.2.2.2.2.2.2.1 == 0) && ((x6.2.2.2.2.2.2.2.1 == 0) && true))))))))) (
  K (.tuple #[.string x3, .bool false])) <|
 L.draw <|
 L.nonnil p0 fun a7 =>
 L.load (.one (.map)) (a7.add 0) fun (x8 : Option Nat) =>
 L.load (.agg lf0) (⟨b1, 0, none⟩) fun (x9 : pt0) =>
 L.semU Pr (Instr.mapUpdate z0k (.map x8) (.string x3) (.agg #[.string x3, .int .i64 p2, .string x9.1, .int .i64 x9.2.1, .int .i64 x9.2.2.1, .int .i64 x9.2.2.2.1, .int .i64 x9.2.2.2.2.1, .int .i64 x9.2.2.2.2.2.1])) <|
 K (.tuple #[.string x3, .bool true])
theorem zac (p0 : Option Addr) (p1 : ht0) (p2 : Int) {K : Value → PT} {w : World} (h : z6b p0 p1 p2 K w) : CT Pr z4d [.pointer p0, (.ag (qc0 p1) : SV).toV, .int .i64 p2] K w :=
 C_of (fn := Tryz.f99) (an := .auto) (args := [.v (.pointer p0), .ag (qc0 p1), .v (.int .i64 p2)]) (by kernel_rfl) (by kernel_rfl) (by kernel_rfl) h
def zcn  (K : Value → PT) : PT :=
 L.new [.int .i64 0, .int .i64 0, .int .i64 0, .int .i64 0, .int .i64 0, .int .i64 0, .int .i64 0, .int .i64 0, .int .i64 0, .int .i64 0, .int .i64 0, .int .i64 0, .int .i64 0, .int .i64 0, .int .i64 0, .int .i64 0, .int .i64 0, .int .i64 0, .int .i64 0, .int .i64 0, .int .i64 0, .int .i64 0, .int .i64 0, .int .i64 0, .int .i64 0, .int .i64 0, .int .i64 0, .int .i64 0, .int .i64 0, .int .i64 0, .int .i64 0, .int .i64 0, .int .i64 0, .int .i64 0, .int .i64 0, .int .i64 0, .int .i64 0, .int .i64 0, .int .i64 0, .int .i64 0, .int .i64 0, .int .i64 0, .int .i64 0, .int .i64 0, .int .i64 0, .int .i64 0, .int .i64 0, .int .i64 0, .int .i64 0, .int .i64 0, .int .i64 0, .int .i64 0, .int .i64 0, .int .i64 0, .int .i64 0, .int .i64 0, .int .i64 0, .int .i64 0, .int .i64 0, .int .i64 0, .int .i64 0, .int .i64 0] z2J fun b1 =>
 K (.pointer (some (⟨b1, 0, none⟩)))
theorem zgb  {K : Value → PT} {w : World} (h : zcn  K w) : CT Pr z99 [] K w :=
 C_of (fn := Tryz.f100) (an := .auto) (args := []) (by kernel_rfl) (by kernel_rfl) (by kernel_rfl) h
def z7h (p0 : Option Addr) (p1 : ByteArray) (K : Value → PT) : PT :=
 L.new [.string s_, .int .i64 0, .string s_, .int .i64 0, .int .i64 0, .int .i64 0, .int .i64 0, .int .i64 0] z0l fun b1 =>
 L.nonnil p0 fun a2 =>
 L.load (.one (.map)) (a2.add 0) fun (x3 : Option Nat) =>
 L.semR Pr (.tup [(.agg lf5), .one .bool]) (Instr.lookup z0k (.map x3) (.string p1) true) fun (x4 : pt6) =>
 L.new [.string s_, .int .i64 0, .string s_, .int .i64 0, .int .i64 0, .int .i64 0, .int .i64 0, .int .i64 0] z0l fun b5 =>
 L.store (⟨b5, 0, none⟩) [.string x4.1.1, .int .i64 x4.1.2.1, .string x4.1.2.2.1, .int .i64 x4.1.2.2.2.1, .int .i64 x4.1.2.2.2.2.1, .int .i64 x4.1.2.2.2.2.2.1, .int .i64 x4.1.2.2.2.2.2.2.1, .int .i64 x4.1.2.2.2.2.2.2.2.1] <|
 L.load (.agg lf5) (⟨b5, 0, none⟩) fun (x6 : pt14) =>
 L.store (⟨b1, 0, none⟩) [.string x6.1, .int .i64 x6.2.1, .string x6.2.2.1, .int .i64 x6.2.2.2.1, .int .i64 x6.2.2.2.2.1, .int .i64 x6.2.2.2.2.2.1, .int .i64 x6.2.2.2.2.2.2.1, .int .i64 x6.2.2.2.2.2.2.2.1] <|
 L.load (.agg lf5) (⟨b1, 0, none⟩) fun (x7 : pt14) =>
 K (.tuple #[(qa3 x7), .bool x4.2.1])
theorem zbo (p0 : Option Addr) (p1 : ByteArray) {K : Value → PT} {w : World} (h : z7h p0 p1 K w) : CT Pr z2j [.pointer p0, .string p1] K w :=
 C_of (fn := Tryz.f105) (an := .auto) (args := [.v (.pointer p0), .v (.string p1)]) (by kernel_rfl) (by kernel_rfl) (by kernel_rfl) h
def z8m : Ann := (.seq .auto (.seq .auto (.seq (.seq .auto (.one [(7, (.one (.int .i64))), (14, (.one (.int .i64)))] (.seq .auto (.seq .auto (.seq .auto .auto (some [(7, (.one (.int .i64)))])) none) none)) none) .auto none) none) none)
def z4T (p0 : Option Addr) (p1 : ByteArray) (p2 : FV) (K : Value → PT) : PT :=
 L.call Pr z1p [.pointer p0, .string p1] rL fun (x1 : Sl) =>
 L.loop (Y := Int × Int × Unit) (0, 0, ()) fun y2 again3 =>
 L.ite (decide (y2.2.1 < ((x1.len : Nat) : Int))) (
  L.join (Y := Int × Unit) (fun k4 =>
   L.idx x1.a y2.2.1 x1.len 3 fun a6 =>
   L.load (.agg [.int .i64, .int .i64, .int .i64]) a6 fun (x7 : Int × Int × Int × Unit) =>
   L.new [.int .i64 0, .int .i64 0, .int .i64 0] z0N fun b8 =>
   L.store (⟨b8, 0, none⟩) [.int .i64 x7.1, .int .i64 x7.2.1, .int .i64 x7.2.2.1] <|
   L.load eI6 ((⟨b8, 0, none⟩ : Addr).add 1) fun (x9 : Int) =>
   L.callV Pr (.func p2.fn p2.fs p2.cs) [.int .i64 x9] rB fun (x10 : Bool) =>
   L.ite x10 (
    k4 (IntKind.wrap .i64 (y2.1 + 1), ())) <|
   k4 (y2.1, ())) fun z5 =>
  again3 (z5.1, IntKind.wrap .i64 (y2.2.1 + 1), ())) <|
 K (.int .i64 y2.1)
theorem z8e (p0 : Option Addr) (p1 : ByteArray) (p2 : FV) {K : Value → PT} {w : World} (h : z4T p0 p1 p2 K w) : CT Pr z2l [.pointer p0, .string p1, .func p2.fn p2.fs p2.cs] K w :=
 C_of (fn := Tryz.f106) (an := z8m) (args := [.v (.pointer p0), .v (.string p1), .v (.func p2.fn p2.fs p2.cs)]) (by kernel_rfl) (by kernel_rfl) (by kernel_rfl) h
def z4o (p0 : Int) (K : Value → PT) : PT :=
 K (.bool (p0 == 2))
theorem z73 (p0 : Int) {K : Value → PT} {w : World} (h : z4o p0 K w) : CT Pr z1R [.int .i64 p0] K w :=
 C_of (fn := Tryz.f107) (an := .auto) (args := [.v (.int .i64 p0)]) (by kernel_rfl) (by kernel_rfl) (by kernel_rfl) h
theorem z6Z : Enters Pr z1R := z0w (by kernel_rfl)
def zap : Ann := (.seq .auto (.seq (.seq .auto (.seq .auto .auto (some [(11, (.one (.int .i64)))])) none) .auto none) none)
def z6e (p0 : Option Addr) (p1 : Int) (K : Value → PT) : PT :=
 L.new [.int .i64 p1] z0i fun b1 =>
 L.new [.int .i64 0] z0i fun b2 =>
 L.new [.int .i64 0] z0i fun b3 =>
 L.nonnil p0 fun a4 =>
 L.call Pr z3k [.pointer (some (a4.add 0))] (.one (.one (.func))) fun (x5 : FV) =>
 L.range Pr none (.func x5.fn x5.fs x5.cs) [eI6] (fun l6 (y7 : Int × Unit) R8 =>
  L.begin Pr l6 <|
  L.load eI6 (⟨b3, 0, none⟩) fun (x11 : Int) =>
  L.load eI6 (⟨b1, 0, none⟩) fun (x12 : Int) =>
  L.ite (decide (x11 ≥ x12)) (
   L.endRound Pr l6 (some (.exit 0)) R8) <|
  L.load eI6 (⟨b2, 0, none⟩) fun (x13 : Int) =>
  L.store (⟨b2, 0, none⟩) [.int .i64 (IntKind.wrap .i64 (x13 + y7.1))] <|
  L.load eI6 (⟨b3, 0, none⟩) fun (x14 : Int) =>
  L.store (⟨b3, 0, none⟩) [.int .i64 (IntKind.wrap .i64 (x14 + 1))] <|
  L.endRound Pr l6 none R8) fun d9 j10 =>
 L.jump j10 (
  L.draw <|
  L.load eI6 (⟨b2, 0, none⟩) fun (x19 : Int) =>
  L.load eI6 (⟨b3, 0, none⟩) fun (x20 : Int) =>
  L.store (⟨b2, 0, none⟩) [.int .i64 x19] <|
  L.chk (⟨b3, 0, none⟩) [.int .i64 x20] <|
  L.store (⟨b3, 0, none⟩) [.int .i64 x20] <|
  L.unmark Pr (d9 ++ []) <|
  L.load eI6 (⟨b2, 0, none⟩) fun (x21 : Int) =>
  L.load eI6 (⟨b3, 0, none⟩) fun (x22 : Int) =>
  K (.tuple #[.int .i64 x21, .int .i64 x22])) (
  L.unmark Pr (d9 ++ []) <|
  L.load eI6 (⟨b2, 0, none⟩) fun (x23 : Int) =>
  L.load eI6 (⟨b3, 0, none⟩) fun (x24 : Int) =>
  K (.tuple #[.int .i64 x23, .int .i64 x24])) [(0, (
    L.draw <|
    L.load eI6 (⟨b2, 0, none⟩) fun (x15 : Int) =>
    L.load eI6 (⟨b3, 0, none⟩) fun (x16 : Int) =>
    L.store (⟨b2, 0, none⟩) [.int .i64 x15] <|
    L.chk (⟨b3, 0, none⟩) [.int .i64 x16] <|
    L.store (⟨b3, 0, none⟩) [.int .i64 x16] <|
    L.unmark Pr (d9 ++ []) <|
    L.load eI6 (⟨b2, 0, none⟩) fun (x17 : Int) =>
    L.load eI6 (⟨b3, 0, none⟩) fun (x18 : Int) =>
    K (.tuple #[.int .i64 x17, .int .i64 x18])))]
theorem zag (p0 : Option Addr) (p1 : Int) {K : Value → PT} {w : World} (h : z6e p0 p1 K w) : CT Pr z30 [.pointer p0, .int .i64 p1] K w :=
 C_of (fn := Tryz.f108) (an := zap) (args := [.v (.pointer p0), .v (.int .i64 p1)]) (by kernel_rfl) (by kernel_rfl) (by kernel_rfl) h
def zcR : Ann := (.seq .auto (.seq (.one [(19, (.one (.adr)))] .auto) (.seq .auto (.seq (.one [(21, (.one (.adr)))] .auto) (.seq .auto (.seq (.seq .auto (.cond .auto .auto) none) .auto (some [])) (some [])) none) none) none) none)
def z8V (p0 : HT [.int .i64, .int .i64]) (p1 : ht0) (p2 : Int) (p3 : Int) (p4 : Int) (p5 : Int) (p6 : Int) (p7 : Int) (p8 : Int) (K : Value → PT) : PT :=
 L.new [.int .i64 p0.1, .int .i64 p0.2.1] z0H fun b1 =>
 L.new [.string p1.1, .int .i64 p1.2.1, .int .i64 p1.2.2.1, .int .i64 p1.2.2.2.1, .int .i64 p1.2.2.2.2.1, .int .i64 p1.2.2.2.2.2.1] z0b fun b2 =>
 L.new [.int .i64 0, .int .i64 0] z0H fun b3 =>
 L.join (Y := Addr × Unit) (fun k4 =>
  L.draw <|
  L.load eI6 ((⟨b2, 0, none⟩ : Addr).add 2) fun (x6 : Int) =>
  L.load eI6 ((⟨b2, 0, none⟩ : Addr).add 2) fun (x7 : Int) =>
  L.alts [(
    L.call Pr z3i [.int .i64 p4, .int .i64 p5, .int .i64 x6] rI fun (x8 : Int) =>
    L.chk ((⟨b2, 0, none⟩ : Addr).add 2) [.int .i64 x7] <|
    L.alts [(
      L.call Pr z3i [.int .i64 p6, .int .i64 p7, .int .i64 x7] rI fun (x9 : Int) =>
      L.new [.int .i64 0, .int .i64 0] z7U fun b10 =>
      L.chk ((⟨b2, 0, none⟩ : Addr).add 2) [.int .i64 x7] <|
      L.chk ((⟨b2, 0, none⟩ : Addr).add 2) [.int .i64 x6] <|
      L.store (⟨b10, 0, none⟩) [.int .i64 x8, .int .i64 x9] <|
      k4 (⟨b10, 0, none⟩, ())),(
      L.new [.int .i64 0, .int .i64 0] z7U fun b11 =>
      L.chk ((⟨b2, 0, none⟩ : Addr).add 2) [.int .i64 x7] <|
      L.chk ((⟨b2, 0, none⟩ : Addr).add 2) [.int .i64 x6] <|
      L.call Pr z3i [.int .i64 p6, .int .i64 p7, .int .i64 x7] rI fun (x12 : Int) =>
      L.store (⟨b11, 0, none⟩) [.int .i64 x8, .int .i64 x12] <|
      k4 (⟨b11, 0, none⟩, ()))]),(
    L.new [.int .i64 0, .int .i64 0] z7U fun b13 =>
    L.chk ((⟨b2, 0, none⟩ : Addr).add 2) [.int .i64 x7] <|
    L.chk ((⟨b2, 0, none⟩ : Addr).add 2) [.int .i64 x6] <|
    L.call Pr z3i [.int .i64 p4, .int .i64 p5, .int .i64 x6] rI fun (x14 : Int) =>
    L.chk ((⟨b2, 0, none⟩ : Addr).add 2) [.int .i64 x7] <|
    L.call Pr z3i [.int .i64 p6, .int .i64 p7, .int .i64 x7] rI fun (x15 : Int) =>
    L.store (⟨b13, 0, none⟩) [.int .i64 x14, .int .i64 x15] <|
    k4 (⟨b13, 0, none⟩, ()))]) fun z5 =>
 L.join (Y := Addr × Unit) (fun k16 =>
  L.draw <|
  L.idx (some z5.1) 0 2 1 fun a18 =>
  L.load eI6 a18 fun (x19 : Int) =>
  L.load (.agg [.int .i64, .int .i64]) (⟨b1, 0, none⟩) fun (x20 : Int × Int × Unit) =>
  L.idx (some z5.1) 1 2 1 fun a21 =>
  L.load eI6 a21 fun (x22 : Int) =>
  L.alts [(
    L.call Pr z2m [.agg #[.int .i64 x20.1, .int .i64 x20.2.1], .int .i64 x22, .int .i64 (if p2 > 1 then p2 else 1)] rI fun (x23 : Int) =>
    L.chk a18 [.int .i64 x19] <|
    L.new [.int .i64 0, .int .i64 0] z0H fun b24 =>
    L.chk a21 [.int .i64 x22] <|
    L.chk (⟨b1, 0, none⟩) [.int .i64 x20.1, .int .i64 x20.2.1] <|
    L.chk a18 [.int .i64 x19] <|
    L.store (⟨b24, 0, none⟩) [.int .i64 x19, .int .i64 x23] <|
    k16 (⟨b24, 0, none⟩, ())),(
    L.new [.int .i64 0, .int .i64 0] z0H fun b25 =>
    L.chk a21 [.int .i64 x22] <|
    L.chk (⟨b1, 0, none⟩) [.int .i64 x20.1, .int .i64 x20.2.1] <|
    L.chk a18 [.int .i64 x19] <|
    L.call Pr z2m [.agg #[.int .i64 x20.1, .int .i64 x20.2.1], .int .i64 x22, .int .i64 (if p2 > 1 then p2 else 1)] rI fun (x26 : Int) =>
    L.chk a18 [.int .i64 x19] <|
    L.store (⟨b25, 0, none⟩) [.int .i64 x19, .int .i64 x26] <|
    k16 (⟨b25, 0, none⟩, ()))]) fun z17 =>
 L.join (Y := Unit) (fun k27 =>
  L.load eI6 (z17.1.add 1) fun (x29 : Int) =>
  L.ite (decide (x29 > 0)) (
   L.load (.agg [.int .i64, .int .i64]) (⟨b1, 0, none⟩) fun (x30 : Int × Int × Unit) =>
   L.load (.agg [.int .i64, .int .i64]) z5.1 fun (x31 : Int × Int × Unit) =>
   L.call Pr z4g [.agg #[.int .i64 x30.1, .int .i64 x30.2.1], .agg #[.int .i64 x31.1, .int .i64 x31.2.1]] rI fun (x32 : Int) =>
   L.store (z17.1.add 0) [.int .i64 x32] <|
   k27 (())) <|
  k27 (())) fun z28 =>
 L.join (Y := Unit) (fun k33 =>
  L.load eI6 (z17.1.add 0) fun (x35 : Int) =>
  L.ite (x35 == 0) (
   L.ite (decide (p3 > 0)) (
    L.store (z17.1.add 0) [.int .i64 1] <|
    k33 (())) <|
   L.load eI6 ((⟨b1, 0, none⟩ : Addr).add 0) fun (x36 : Int) =>
   L.ite (decide (x36 > 0)) (
    L.load eI6 ((⟨b2, 0, none⟩ : Addr).add 5) fun (x37 : Int) =>
    L.ite (decide (p8 < x37)) (
     L.store (z17.1.add 0) [.int .i64 1] <|
     k33 (())) <|
    k33 (())) <|
   k33 (())) <|
  k33 (())) fun z34 =>
 L.load (.agg lf0) (⟨b2, 0, none⟩) fun (x38 : pt0) =>
 L.call Pr z6m [(qa0 x38), .int .i64 p2, .int .i64 (if p2 > 1 then p2 else 1)] (.one (.agg [.int .i64, .int .i64, .int .i64, .int .i64])) fun (x39 : Int × Int × Int × Int × Unit) =>
 L.new [.int .i64 0, .int .i64 0, .int .i64 0, .int .i64 0] zjc fun b40 =>
 L.store (⟨b40, 0, none⟩) [.int .i64 x39.1, .int .i64 x39.2.1, .int .i64 x39.2.2.1, .int .i64 x39.2.2.2.1] <|
 L.load eI6 (z17.1.add 0) fun (x41 : Int) =>
 L.idx (some (⟨b40, 0, none⟩)) 0 4 1 fun a42 =>
 L.load eI6 a42 fun (x43 : Int) =>
 L.idx (some (⟨b40, 0, none⟩)) 1 4 1 fun a44 =>
 L.load eI6 a44 fun (x45 : Int) =>
 L.idx (some (⟨b40, 0, none⟩)) 2 4 1 fun a46 =>
 L.load eI6 a46 fun (x47 : Int) =>
 L.idx (some (⟨b40, 0, none⟩)) 3 4 1 fun a48 =>
 L.load eI6 a48 fun (x49 : Int) =>
 L.store (z17.1.add 0) [.int .i64 (if x49 < (if x47 > (if x45 > (if x43 < x41 then x43 else x41) then x45 else (if x43 < x41 then x43 else x41)) then x47 else (if x45 > (if x43 < x41 then x43 else x41) then x45 else (if x43 < x41 then x43 else x41))) then x49 else (if x47 > (if x45 > (if x43 < x41 then x43 else x41) then x45 else (if x43 < x41 then x43 else x41)) then x47 else (if x45 > (if x43 < x41 then x43 else x41) then x45 else (if x43 < x41 then x43 else x41))))] <|
 L.load (.agg [.int .i64, .int .i64]) z17.1 fun (x50 : Int × Int × Unit) =>
 L.store (⟨b3, 0, none⟩) [.int .i64 x50.1, .int .i64 x50.2.1] <|
 L.load (.agg [.int .i64, .int .i64]) (⟨b3, 0, none⟩) fun (x51 : Int × Int × Unit) =>
 K (.agg #[.int .i64 x51.1, .int .i64 x51.2.1])
theorem zcM (p0 : HT [.int .i64, .int .i64]) (p1 : ht0) (p2 : Int) (p3 : Int) (p4 : Int) (p5 : Int) (p6 : Int) (p7 : Int) (p8 : Int) {K : Value → PT} {w : World} (h : z8V p0 p1 p2 p3 p4 p5 p6 p7 p8 K w) : CT Pr z6n [(.ag [.int .i64 p0.1, .int .i64 p0.2.1] : SV).toV, (.ag (qc0 p1) : SV).toV, .int .i64 p2, .int .i64 p3, .int .i64 p4, .int .i64 p5, .int .i64 p6, .int .i64 p7, .int .i64 p8] K w :=
 C_of (fn := Tryz.f109) (an := zcR) (args := [.ag [.int .i64 p0.1, .int .i64 p0.2.1], .ag (qc0 p1), .v (.int .i64 p2), .v (.int .i64 p3), .v (.int .i64 p4), .v (.int .i64 p5), .v (.int .i64 p6), .v (.int .i64 p7), .v (.int .i64 p8)]) (by kernel_rfl) (by kernel_rfl) (by kernel_rfl) h
def z6f (p0 : Option Addr) (K : Value → PT) : PT :=
 L.nonnil p0 fun a1 =>
 L.load eI6 (a1.add 61) fun (x2 : Int) =>
 K (.int .i64 x2)
theorem zah (p0 : Option Addr) {K : Value → PT} {w : World} (h : z6f p0 K w) : CT Pr z4h [.pointer p0] K w :=
 C_of (fn := Tryz.f110) (an := .auto) (args := [.v (.pointer p0)]) (by kernel_rfl) (by kernel_rfl) (by kernel_rfl) h
def z9q : Ann := (.seq .auto (.seq .auto (.seq (.one [(8, (.one (.slice))), (10, (.one (.int .i64)))] (.seq (.seq .auto (.cond .auto .auto) none) .auto none)) (.seq (.one [(9, (.one (.slice))), (10, (.one (.int .i64)))] .auto) .auto none) (some [(8, (.one (.slice))), (10, (.one (.int .i64)))])) none) none)
def z5Q (p0 : Option Addr) (p1 : ByteArray) (p2 : Int) (p3 : Int) (K : Value → PT) : PT :=
 L.call Pr z55 [.pointer p0, .string p1] rI fun (x1 : Int) =>
 L.join (Y := Sl × Int × Unit) (fun k2 =>
  L.loop (Y := Sl × Int × Unit) (⟨none, 0, 0⟩, x1, ()) fun y4 again5 =>
  L.draw <|
  L.ite (decide (y4.2.1 < p3)) (
   L.nonnil p0 fun a6 =>
   L.load (.one (.map)) (a6.add 0) fun (x7 : Option Nat) =>
   L.semR Pr rI (Builtin.len_ #[z0o] z0i #[.map x7]) fun (x8 : Int) =>
   L.nonnil p0 fun a9 =>
   L.load eI6 (a9.add 2) fun (x10 : Int) =>
   L.ite (decide (x8 < x10)) (
    L.nonnil p0 fun a11 =>
    L.load eI6 (a11.add 3) fun (x12 : Int) =>
    L.nonnil p0 fun a13 =>
    L.store (a13.add 3) [.int .i64 (IntKind.wrap .i64 (x12 + 1))] <|
    L.draw <|
    L.nonnil p0 fun a14 =>
    L.load (.one (.map)) (a14.add 0) fun (x15 : Option Nat) =>
    L.nonnil p0 fun a16 =>
    L.load eI6 (a16.add 3) fun (x17 : Int) =>
    L.call Pr zbY [.int .i64 p2] rP fun (x18 : Option Addr) =>
    L.chk (a16.add 3) [.int .i64 x17] <|
    L.chk (a14.add 0) [.map x15] <|
    L.semU Pr (Instr.mapUpdate z0o (.map x15) (.int .i64 x17) (.agg #[.string p1, .pointer x18])) <|
    L.nonnil p0 fun a19 =>
    L.load eI6 (a19.add 3) fun (x20 : Int) =>
    L.new [.int .i64 x20] z0i fun b21 =>
    L.sem Pr (.one (.one .slice)) (Builtin.append_ #[z0X, z0X] z0X #[.slice y4.1.a y4.1.len y4.1.cap, .slice (some ⟨b21, 0, none⟩) 1 1]) fun (s22 : Sl) =>
    again5 (⟨s22.a, s22.len, s22.cap⟩, IntKind.wrap .i64 (y4.2.1 + 1), ())) <|
   k2 (⟨y4.1.a, y4.1.len, y4.1.cap⟩, y4.2.1, ())) <|
  k2 (⟨y4.1.a, y4.1.len, y4.1.cap⟩, y4.2.1, ())) fun z3 =>
 L.loop (Y := Sl × Int × Unit) (⟨none, 0, 0⟩, z3.2.1, ()) fun y23 again24 =>
 L.ite (decide (y23.2.1 > (if 0 > p3 then 0 else p3))) (
  L.call Pr z3W [.pointer p0, .string p1] rI fun (x25 : Int) =>
  L.nonnil p0 fun a26 =>
  L.load (.one (.map)) (a26.add 0) fun (x27 : Option Nat) =>
  L.semR Pr (.one (.agg [.str, .ptr])) (Instr.lookup z0o (.map x27) (.int .i64 x25) false) fun (x28 : ByteArray × Option Addr × Unit) =>
  L.call Pr z5A [.pointer x28.2.1] rI fun (x29 : Int) =>
  L.call Pr z4I [.pointer p0, .int .i64 x25] (.tup []) fun (x30 : Unit) =>
  L.new [.int .i64 x25] z0i fun b31 =>
  L.sem Pr (.one (.one .slice)) (Builtin.append_ #[z0X, z0X] z0X #[.slice y23.1.a y23.1.len y23.1.cap, .slice (some ⟨b31, 0, none⟩) 1 1]) fun (s32 : Sl) =>
  again24 (⟨s32.a, s32.len, s32.cap⟩, IntKind.wrap .i64 (y23.2.1 - 1), ())) <|
 L.call Pr z0J [.slice z3.1.a z3.1.len z3.1.cap] rL fun (x33 : Sl) =>
 L.call Pr z0J [.slice y23.1.a y23.1.len y23.1.cap] rL fun (x34 : Sl) =>
 K (.tuple #[.slice x33.a x33.len x33.cap, .slice x34.a x34.len x34.cap])
theorem z9l (p0 : Option Addr) (p1 : ByteArray) (p2 : Int) (p3 : Int) {K : Value → PT} {w : World} (h : z5Q p0 p1 p2 p3 K w) : CT Pr z3X [.pointer p0, .string p1, .int .i64 p2, .int .i64 p3] K w :=
 C_of (fn := Tryz.f111) (an := z9q) (args := [.v (.pointer p0), .v (.string p1), .v (.int .i64 p2), .v (.int .i64 p3)]) (by kernel_rfl) (by kernel_rfl) (by kernel_rfl) h
def z4z (p0 : Int) (K : Value → PT) : PT :=
 K (.bool (p0 != 3))
theorem z7u (p0 : Int) {K : Value → PT} {w : World} (h : z4z p0 K w) : CT Pr z2e [.int .i64 p0] K w :=
 C_of (fn := Tryz.f112) (an := .auto) (args := [.v (.int .i64 p0)]) (by kernel_rfl) (by kernel_rfl) (by kernel_rfl) h
theorem z7s : Enters Pr z2e := z0w (by kernel_rfl)
def zcG : Ann := (.seq .auto (.seq .auto (.seq (.seq .auto (.seq .auto .auto (some [(12, (.one (.int .i64))), (13, (.one (.int .i64)))])) none) .auto none) none) none)
def z7X (p0 : Option Addr) (K : Value → PT) : PT :=
 L.call Pr z5y [.pointer p0] rI fun (x1 : Int) =>
 L.sem Pr (.one (.one .slice)) (Instr.makeSlice z0X (.int .i64 0) (.int .i64 x1)) fun (s2 : Sl) =>
 L.new [.slice none 0 0] z0X fun b3 =>
 L.store (⟨b3, 0, none⟩) [.slice s2.a s2.len s2.cap] <|
 L.nonnil p0 fun a4 =>
 L.call Pr z1T [.pointer (some (a4.add 0))] (.one (.one (.func))) fun (x5 : FV) =>
 L.range Pr none (.func x5.fn x5.fs x5.cs) [eI6, eI6] (fun l6 (y7 : Int × Int × Unit) R8 =>
  L.begin Pr l6 <|
  L.load eL6 (⟨b3, 0, none⟩) fun (x11 : Sl) =>
  L.new [.int .i64 y7.1] z0i fun b12 =>
  L.sem Pr (.one (.one .slice)) (Builtin.append_ #[z0X, z0X] z0X #[.slice x11.a x11.len x11.cap, .slice (some ⟨b12, 0, none⟩) 1 1]) fun (s13 : Sl) =>
  L.store (⟨b3, 0, none⟩) [.slice s13.a s13.len s13.cap] <|
  L.endRound Pr l6 none R8) fun d9 j10 =>
 L.jump j10 (
  L.load eL6 (⟨b3, 0, none⟩) fun (x14 : Sl) =>
  L.unmark Pr (d9 ++ []) <|
  K (.slice x14.a x14.len x14.cap)) (
  L.unmark Pr (d9 ++ []) <|
  K (.slice none 0 0)) []
theorem zcx (p0 : Option Addr) {K : Value → PT} {w : World} (h : z7X p0 K w) : CT Pr z4c [.pointer p0] K w :=
 C_of (fn := Tryz.f114) (an := zcG) (args := [.v (.pointer p0)]) (by kernel_rfl) (by kernel_rfl) (by kernel_rfl) h
def z2Z (p0 : Sl) (K : Value → PT) : PT :=
 L.ite ((p0.a).isNone) (
  K (.slice none 0 0)) <|
 L.new [] z0i fun b1 =>
 L.sem Pr (.one (.one .slice)) (Builtin.append_ #[z0X, z0X] z0X #[.slice (some ⟨b1, 0, none⟩) 0 0, .slice p0.a p0.len p0.cap]) fun (s2 : Sl) =>
 K (.slice s2.a s2.len s2.cap)
theorem z4E (p0 : Sl) {K : Value → PT} {w : World} (h : z2Z p0 K w) : CT Pr z0J [.slice p0.a p0.len p0.cap] K w :=
 C_of (fn := Tryz.f115) (an := .auto) (args := [.v (.slice p0.a p0.len p0.cap)]) (by kernel_rfl) (by kernel_rfl) (by kernel_rfl) h
def z7o (p0 : Option Addr) (p1 : ByteArray) (K : Value → PT) : PT :=
 L.new [.pointer p0] z0A fun b1 =>
 L.new [.string p1] z01 fun b2 =>
 K (.func (.func z2n) #[] #[.pointer (some (⟨b1, 0, none⟩)), .pointer (some (⟨b2, 0, none⟩))])
theorem zbv (p0 : Option Addr) (p1 : ByteArray) {K : Value → PT} {w : World} (h : z7o p0 p1 K w) : CT Pr z2k [.pointer p0, .string p1] K w :=
 C_of (fn := Tryz.f116) (an := .auto) (args := [.v (.pointer p0), .v (.string p1)]) (by kernel_rfl) (by kernel_rfl) (by kernel_rfl) h
def z7Y (p0 : Option Addr) (K : Value → PT) : PT :=
 L.nonnil p0 fun a1 =>
 L.load eI6 (a1.add 0) fun (x2 : Int) =>
 K (.int .i64 x2)
theorem zcy (p0 : Option Addr) {K : Value → PT} {w : World} (h : z7Y p0 K w) : CT Pr z0Y [.pointer p0] K w :=
 C_of (fn := Tryz.f117) (an := .auto) (args := [.v (.pointer p0)]) (by kernel_rfl) (by kernel_rfl) (by kernel_rfl) h
def z6p (p0 : Option Addr) (K : Value → PT) : PT :=
 L.nonnil p0 fun a1 =>
 L.load (.one (.map)) ((a1.add 1).add 0) fun (x2 : Option Nat) =>
 L.semR Pr rI (Builtin.len_ #[z2T] z0i #[.map x2]) fun (x3 : Int) =>
 K (.int .i64 x3)
theorem z90 (p0 : Option Addr) {K : Value → PT} {w : World} (h : z6p p0 K w) : CT Pr z1z [.pointer p0] K w :=
 C_of (fn := Tryz.f118) (an := .auto) (args := [.v (.pointer p0)]) (by kernel_rfl) (by kernel_rfl) (by kernel_rfl) h
def z1S (p0 : Sl) (K : Value → PT) : PT :=
 L.ite ((p0.a).isNone) (
  K (.slice none 0 0)) <|
 L.new [] z0N fun b1 =>
 L.sem Pr (.one (.one .slice)) (Builtin.append_ #[z10, z10] z10 #[.slice (some ⟨b1, 0, none⟩) 0 0, .slice p0.a p0.len p0.cap]) fun (s2 : Sl) =>
 K (.slice s2.a s2.len s2.cap)
theorem z3P (p0 : Sl) {K : Value → PT} {w : World} (h : z1S p0 K w) : CT Pr z1c [.slice p0.a p0.len p0.cap] K w :=
 C_of (fn := Tryz.f119) (an := .auto) (args := [.v (.slice p0.a p0.len p0.cap)]) (by kernel_rfl) (by kernel_rfl) (by kernel_rfl) h
def z4q (p0 : FV) (K : Value → PT) : PT :=
 L.sem Pr (.one (.one .map)) (Instr.makeMap z0n none) fun (m1 : Option Nat) =>
 L.new [.map m1, .func p0.fn p0.fs p0.cs] z0B fun b2 =>
 K (.pointer (some (⟨b2, 0, none⟩)))
theorem z77 (p0 : FV) {K : Value → PT} {w : World} (h : z4q p0 K w) : CT Pr z2A [.func p0.fn p0.fs p0.cs] K w :=
 C_of (fn := Tryz.f120) (an := .auto) (args := [.v (.func p0.fn p0.fs p0.cs)]) (by kernel_rfl) (by kernel_rfl) (by kernel_rfl) h
def za1 (p0 : ht0) (p1 : ht0) (K : Value → PT) : PT :=
 L.new [.string p0.1, .int .i64 p0.2.1, .int .i64 p0.2.2.1, .int .i64 p0.2.2.2.1, .int .i64 p0.2.2.2.2.1, .int .i64 p0.2.2.2.2.2.1] z0b fun b1 =>
 L.new [.string p1.1, .int .i64 p1.2.1, .int .i64 p1.2.2.1, .int .i64 p1.2.2.2.1, .int .i64 p1.2.2.2.2.1, .int .i64 p1.2.2.2.2.2.1] z0b fun b2 =>
 L.load (.agg lf0) (⟨b1, 0, none⟩) fun (x3 : pt0) =>
 L.load (.agg lf0) (⟨b2, 0, none⟩) fun (x4 : pt0) =>
 L.chkSem Pr (do eqGuard .eql z0b (.tmp 0) (.tmp 0) ((qa0 x3)) ((qa0 x4)); binOp .eql z0b ((qa0 x3)) ((qa0 x4))) (.bool ((x3.1 == x4.1) && ((x3.2.1 == x4.2.1) && ((x3.2.2.1 == x4.2.2.1) && ((x3.2.2.2.1 == x4.2.2.2.1) && ((x3.2.2.2.2.1 == x4.2.2.2.2.1) && ((x3.2.2.2.2.2.1 == x4.2.2.2.2.2.1) && true))))))) <|
 K (.bool ((x3.1 == x4.1) && ((x3.2.1 == x4.2.1) && ((x3.2.2.1 == x4.2.2.1) && ((x3.2.2.2.1 == x4.2.2.2.1) && ((x3.2.2.2.2.1 == x4.2.2.2.2.1) && ((x3.2.2.2.2.2.1 == x4.2.2.2.2.2.1) && true)))))))
theorem ze1 (p0 : ht0) (p1 : ht0) {K : Value → PT} {w : World} (h : za1 p0 p1 K w) : CT Pr z0V [(.ag (qc0 p0) : SV).toV, (.ag (qc0 p1) : SV).toV] K w :=
 C_of (fn := Tryz.f121) (an := .auto) (args := [.ag (qc0 p0), .ag (qc0 p1)]) (by kernel_rfl) (by kernel_rfl) (by kernel_rfl) h
theorem zdW : Enters Pr z0V := z0w (by kernel_rfl)
def z4C (p0 : FV) (K : Value → PT) : PT :=
 L.sem Pr (.one (.one .map)) (Instr.makeMap z49 none) fun (m1 : Option Nat) =>
 L.new [.map m1, .func p0.fn p0.fs p0.cs] z2X fun b2 =>
 K (.pointer (some (⟨b2, 0, none⟩)))
theorem z7y (p0 : FV) {K : Value → PT} {w : World} (h : z4C p0 K w) : CT Pr z2W [.func p0.fn p0.fs p0.cs] K w :=
 C_of (fn := Tryz.f122) (an := .auto) (args := [.v (.func p0.fn p0.fs p0.cs)]) (by kernel_rfl) (by kernel_rfl) (by kernel_rfl) h
def zbb (c0 : Addr) (K : Value → PT) : PT :=
 L.load eI6 c0 fun (x1 : Int) =>
 L.call Pr zax [.int .i64 x1] rP fun (x2 : Option Addr) =>
 K (.pointer x2)
theorem zfi (c0 : Addr) {K : Value → PT} {w : World} (h : zbb c0 K w) : CT Pr z66 [.pointer (some c0)] K w :=
 C_of (fn := Tryz.f124) (an := .auto) (args := [.v (.pointer (some c0))]) (by kernel_rfl) (by kernel_rfl) (by kernel_rfl) h
theorem zf9 : Enters Pr z66 := z0w (by kernel_rfl)
def zdh (p0 : Int) (K : Value → PT) : PT :=
 L.new [.slice none 0 0, .int .i64 p0] z5E fun b1 =>
 K (.pointer (some (⟨b1, 0, none⟩)))
theorem zhR (p0 : Int) {K : Value → PT} {w : World} (h : zdh p0 K w) : CT Pr zax [.int .i64 p0] K w :=
 C_of (fn := Tryz.f125) (an := .auto) (args := [.v (.int .i64 p0)]) (by kernel_rfl) (by kernel_rfl) (by kernel_rfl) h
def z2s (p0 : Option Nat) (K : Value → PT) : PT :=
 L.call Pr z0R [.map p0] (.one (.one (.func))) fun (x1 : FV) =>
 L.call Pr z1t [.func x1.fn x1.fs x1.cs] rL fun (x2 : Sl) =>
 K (.slice x2.a x2.len x2.cap)
theorem z4v (p0 : Option Nat) {K : Value → PT} {w : World} (h : z2s p0 K w) : CT Pr z1r [.map p0] K w :=
 C_of (fn := Tryz.f126) (an := .auto) (args := [.v (.map p0)]) (by kernel_rfl) (by kernel_rfl) (by kernel_rfl) h
def z6Y (p0 : Option Addr) (K : Value → PT) : PT :=
 L.new [.pointer p0] z06 fun b1 =>
 L.new [.func (.func z25) #[] #[], .func (.func z24) #[] #[], .func (.func z23) #[] #[.pointer (some (⟨b1, 0, none⟩))], .func (.func z22) #[] #[.pointer (some (⟨b1, 0, none⟩))]] z3N fun b2 =>
 L.new [.slice none 0 0] z07 fun b3 =>
 L.store (⟨b3, 0, none⟩) [.slice (some ⟨b2, 0, none⟩) 4 4] <|
 K (.func (.func z1Z) #[] #[.pointer (some (⟨b3, 0, none⟩)), .pointer (some (⟨b1, 0, none⟩))])
theorem zan (p0 : Option Addr) {K : Value → PT} {w : World} (h : z6Y p0 K w) : CT Pr z9B [.pointer p0] K w :=
 C_of (fn := Tryz.f127) (an := .auto) (args := [.v (.pointer p0)]) (by kernel_rfl) (by kernel_rfl) (by kernel_rfl) h
def z6X (p0 : ByteArray) (K : Value → PT) : PT :=
 L.call Pr z5z [.string p0, .string s__] rI fun (x1 : Int) =>
 L.ite (decide (x1 < 0)) (
  K (.tuple #[.string s_, .int .i64 0, .bool false])) <|
 L.guard ((0 : Int) ≤ (IntKind.wrap .i64 (x1 + 1)) ∧ (IntKind.wrap .i64 (x1 + 1)) ≤ (p0.size : Int) ∧ (p0.size : Int) ≤ p0.size) <|
 L.call Pr z8R [.string (p0.extract (Int.toNat (IntKind.wrap .i64 (x1 + 1))) (Int.toNat (p0.size : Int)))] (.tup [eI6, (.one (.iface))]) fun (x2 : pt18) =>
 L.ite (!(x2.2.1).isNone) (
  K (.tuple #[.string s_, .int .i64 0, .bool false])) <|
 L.guard ((0 : Int) ≤ 0 ∧ 0 ≤ x1 ∧ x1 ≤ p0.size) <|
 L.call Pr z6Q [.string (p0.extract (Int.toNat 0) (Int.toNat x1)), .int .i64 x2.1] rS fun (x3 : ByteArray) =>
 L.ite (!(x3.toList == p0.toList)) (
  K (.tuple #[.string s_, .int .i64 0, .bool false])) <|
 L.guard ((0 : Int) ≤ 0 ∧ 0 ≤ x1 ∧ x1 ≤ p0.size) <|
 K (.tuple #[.string (p0.extract (Int.toNat 0) (Int.toNat x1)), .int .i64 x2.1, .bool true])
theorem zaf (p0 : ByteArray) {K : Value → PT} {w : World} (h : z6X p0 K w) : CT Pr z3t [.string p0] K w :=
 C_of (fn := Tryz.f128) (an := .auto) (args := [.v (.string p0)]) (by kernel_rfl) (by kernel_rfl) (by kernel_rfl) h
def zba (p0 : ByteArray) (K : Value → PT) : PT :=
 L.call Pr z5l [.string p0, .int .i64 16] rB fun (x1 : Bool) =>
 K (.bool x1)
theorem zfh (p0 : ByteArray) {K : Value → PT} {w : World} (h : zba p0 K w) : CT Pr z3j [.string p0] K w :=
 C_of (fn := Tryz.f129) (an := .auto) (args := [.v (.string p0)]) (by kernel_rfl) (by kernel_rfl) (by kernel_rfl) h
def zed : Ann := (.seq .auto (.seq .auto (.seq (.seq .auto (.one [(5, (.one (.int .i32)))] (.seq .auto (.seq (.cond .auto .auto) (.seq .auto (.seq (.seq .auto (.cond .auto .auto) none) .auto (some [])) none) none) none)) none) .auto none) none) none)
def za3 (p0 : ByteArray) (p1 : Int) (K : Value → PT) : PT :=
 L.sem Pr (.one (.one .ptr)) (Instr.range z01 (.string p0)) fun (it1 : Option Addr) =>
 L.loop (Y := Int × Unit) (45, ()) fun y2 again3 =>
 L.next Pr [eI6, (.one (.int .i32))] (Instr.next (.pointer it1) true T_) (
  L.ite (y2.1 != 45) (
   K (.bool (decide ((p0.size : Int) ≤ p1)))) <|
  K (.bool false)) fun (x4 : Int × Int × Unit) =>
 L.join (Y := Unit) (fun k5 =>
  L.call Pr z7H [.int .i32 x4.2.1] rB fun (x7 : Bool) =>
  L.ite (!x7) (
   K (.bool false)) <|
  L.ite (x4.1 == 0) (
   L.call Pr z4N [.int .i32 x4.2.1] rB fun (x8 : Bool) =>
   L.ite (!x8) (
    K (.bool false)) <|
   k5 (())) <|
  k5 (())) fun z6 =>
 again3 (x4.2.1, ())
theorem ze3 (p0 : ByteArray) (p1 : Int) {K : Value → PT} {w : World} (h : za3 p0 p1 K w) : CT Pr z5l [.string p0, .int .i64 p1] K w :=
 C_of (fn := Tryz.f130) (an := zed) (args := [.v (.string p0), .v (.int .i64 p1)]) (by kernel_rfl) (by kernel_rfl) (by kernel_rfl) h
def z5N (p0 : HT [.int .i64, .int .i64]) (p1 : Int) (K : Value → PT) : PT :=
 L.new [.int .i64 p0.1, .int .i64 p0.2.1] zcd fun b1 =>
 L.load eI6 ((⟨b1, 0, none⟩ : Addr).add 0) fun (x2 : Int) =>
 L.ite (decide (p1 ≥ x2)) (
  L.load eI6 ((⟨b1, 0, none⟩ : Addr).add 1) fun (x3 : Int) =>
  K (.bool (decide (p1 ≤ x3)))) <|
 K (.bool false)
theorem z8f (p0 : HT [.int .i64, .int .i64]) (p1 : Int) {K : Value → PT} {w : World} (h : z5N p0 p1 K w) : CT Pr z0T [(.ag [.int .i64 p0.1, .int .i64 p0.2.1] : SV).toV, .int .i64 p1] K w :=
 C_of (fn := Tryz.f131) (an := .auto) (args := [.ag [.int .i64 p0.1, .int .i64 p0.2.1], .v (.int .i64 p1)]) (by kernel_rfl) (by kernel_rfl) (by kernel_rfl) h
theorem zcq : Enters Pr z0T := z0w (by kernel_rfl)
def zea : Ann := (.seq .auto (.seq .auto (.seq .auto (.seq (.seq (.seq .auto (.cond .auto .auto) none) .auto (some [(16, (.one (.bool)))])) .auto none) none) none) none)
def z9Z (p0 : HT [.str, .str, .int .i64]) (K : Value → PT) : PT :=
 L.new [.string p0.1, .string p0.2.1, .int .i64 p0.2.2.1] z0O fun b1 =>
 L.load eS6 ((⟨b1, 0, none⟩ : Addr).add 0) fun (x2 : ByteArray) =>
 L.call Pr z3t [.string x2] (.tup [eS6, eI6, eB6]) fun (x3 : ByteArray × Int × Bool × Unit) =>
 L.join (Y := Bool × Unit) (fun k4 =>
  L.load eS6 ((⟨b1, 0, none⟩ : Addr).add 0) fun (x6 : ByteArray) =>
  L.ite (!(x6.toList == s_.toList)) (
   L.ite (!x3.2.2.1) (
    k4 (!x3.2.2.1, ())) <|
   L.load eS6 ((⟨b1, 0, none⟩ : Addr).add 1) fun (x7 : ByteArray) =>
   L.ite (!(x7.toList == s_.toList)) (
    L.load eS6 ((⟨b1, 0, none⟩ : Addr).add 1) fun (x8 : ByteArray) =>
    L.call Pr z2C [.string x8] rB fun (x9 : Bool) =>
    k4 (!x9, ())) <|
   k4 (false, ())) <|
  L.load eS6 ((⟨b1, 0, none⟩ : Addr).add 1) fun (x10 : ByteArray) =>
  L.ite (!(x10.toList == s_.toList)) (
   L.load eS6 ((⟨b1, 0, none⟩ : Addr).add 1) fun (x11 : ByteArray) =>
   L.call Pr z2C [.string x11] rB fun (x12 : Bool) =>
   k4 (!x12, ())) <|
  k4 (false, ())) fun z5 =>
 L.ite z5.1 (
  K (.int .i64 1)) <|
 L.load eI6 ((⟨b1, 0, none⟩ : Addr).add 2) fun (x13 : Int) =>
 L.callV Pr (.func (.func z0T) #[.agg #[.int .i64 0, .int .i64 100]] #[]) [.int .i64 x13] rB fun (x14 : Bool) =>
 L.ite (!x14) (
  K (.int .i64 2)) <|
 K (.int .i64 0)
theorem zdZ (p0 : HT [.str, .str, .int .i64]) {K : Value → PT} {w : World} (h : z9Z p0 K w) : CT Pr z6O [(.ag [.string p0.1, .string p0.2.1, .int .i64 p0.2.2.1] : SV).toV] K w :=
 C_of (fn := Tryz.f132) (an := zea) (args := [.ag [.string p0.1, .string p0.2.1, .int .i64 p0.2.2.1]]) (by kernel_rfl) (by kernel_rfl) (by kernel_rfl) h
def zhY : Ann := (.seq .auto (.seq .auto (.seq (.seq .auto (.one [(3, (.one (.int .i64))), (8, (.one (.int .i64)))] (.seq .auto (.seq .auto (.seq (.seq .auto (.seq .auto (.seq .auto (.cond .auto .auto) none) none) none) .auto (some [(3, (.one (.int .i64)))])) none) none)) none) .auto none) none) none)
def zdi (p0 : Sl) (K : Value → PT) : PT :=
 L.loop (Y := Int × Int × Unit) (0, 0, ()) fun y1 again2 =>
 L.ite (decide (y1.2.1 < ((p0.len : Nat) : Int))) (
  L.join (Y := Int × Unit) (fun k3 =>
   L.idx p0.a y1.2.1 p0.len 3 fun a5 =>
   L.load (.agg [.str, .str, .int .i64]) a5 fun (x6 : pt9) =>
   L.new [.string s_, .string s_, .int .i64 0] z0O fun b7 =>
   L.store (⟨b7, 0, none⟩) [.string x6.1, .string x6.2.1, .int .i64 x6.2.2.1] <|
   L.load eI6 ((⟨b7, 0, none⟩ : Addr).add 2) fun (x8 : Int) =>
   L.load eS6 ((⟨b7, 0, none⟩ : Addr).add 1) fun (x9 : ByteArray) =>
   L.ite (!(x9.toList == s_.toList)) (
    L.guard (0 ≤ (0 : Int) ∧ (0 : Int) ≤ y1.2.1 ∧ y1.2.1 ≤ ((p0.cap : Nat) : Int) ∧ ((p0.cap : Nat) : Int) ≤ p0.cap) <|
    L.call Pr z0P [.slice (if Int.toNat ((p0.cap : Nat) : Int) = Int.toNat (0 : Int) then p0.a else Option.map (fun a : Addr => a.add (Int.toNat (0 : Int) * 3)) p0.a) (Int.toNat y1.2.1 - Int.toNat (0 : Int)) (Int.toNat ((p0.cap : Nat) : Int) - Int.toNat (0 : Int)), .func (.func z45) #[] #[.pointer (some (⟨b7, 0, none⟩))]] rB fun (x10 : Bool) =>
    L.ite x10 (
     K (.int .i64 5)) <|
    k3 (IntKind.wrap .i64 (y1.1 + x8), ())) <|
   k3 (IntKind.wrap .i64 (y1.1 + x8), ())) fun z4 =>
  again2 (z4.1, IntKind.wrap .i64 (y1.2.1 + 1), ())) <|
 L.ite (y1.1 != 100) (
  K (.int .i64 4)) <|
 K (.int .i64 0)
theorem zhS (p0 : Sl) {K : Value → PT} {w : World} (h : zdi p0 K w) : CT Pr zay [.slice p0.a p0.len p0.cap] K w :=
 C_of (fn := Tryz.f133) (an := zhY) (args := [.v (.slice p0.a p0.len p0.cap)]) (by kernel_rfl) (by kernel_rfl) (by kernel_rfl) h
def z5Y : Ann := (.seq .auto (.seq .auto (.seq (.seq .auto (.cond .auto (.seq .auto (.cond .auto .auto) none)) none) .auto (some [])) none) none)
def z3q (p0 : Option Addr) (p1 : ByteArray) (p2 : Int) (p3 : Bool) (K : Value → PT) : PT :=
 L.nonnil p0 fun a1 =>
 L.load (.one (.map)) (a1.add 0) fun (x2 : Option Nat) =>
 L.semR Pr (.one (.agg lf11)) (Instr.lookup z0n (.map x2) (.string p1) false) fun (x3 : pt19) =>
 L.new [.string s_, .int .i64 0, .int .i64 0, .int .i64 0, .int .i64 0, .int .i64 0, .int .i64 0, .int .i64 0, .bool false] z0a fun b4 =>
 L.store (⟨b4, 0, none⟩) [.string x3.1, .int .i64 x3.2.1, .int .i64 x3.2.2.1, .int .i64 x3.2.2.2.1, .int .i64 x3.2.2.2.2.1, .int .i64 x3.2.2.2.2.2.1, .int .i64 x3.2.2.2.2.2.2.1, .int .i64 x3.2.2.2.2.2.2.2.1, .bool x3.2.2.2.2.2.2.2.2.1] <|
 L.join (Y := Unit) (fun k5 =>
  L.ite p3 (
   L.ite (p2 == 0) (
    L.load eB6 ((⟨b4, 0, none⟩ : Addr).add 8) fun (x7 : Bool) =>
    L.ite x7 (
     K (.int .i64 5)) <|
    L.ite p3 (
     L.ite (p2 == 0) (
      K (.int .i64 0)) <|
     L.load eB6 ((⟨b4, 0, none⟩ : Addr).add 8) fun (x8 : Bool) =>
     L.ite (!x8) (
      K (.int .i64 6)) <|
     L.load eI6 ((⟨b4, 0, none⟩ : Addr).add 6) fun (x9 : Int) =>
     L.ite (x9 != p2) (
      K (.int .i64 7)) <|
     k5 (())) <|
    L.load eB6 ((⟨b4, 0, none⟩ : Addr).add 8) fun (x10 : Bool) =>
    L.ite (!x10) (
     K (.int .i64 6)) <|
    L.load eI6 ((⟨b4, 0, none⟩ : Addr).add 6) fun (x11 : Int) =>
    L.ite (x11 != p2) (
     K (.int .i64 7)) <|
    k5 (())) <|
   L.ite p3 (
    L.ite (p2 == 0) (
     K (.int .i64 0)) <|
    L.load eB6 ((⟨b4, 0, none⟩ : Addr).add 8) fun (x12 : Bool) =>
    L.ite (!x12) (
     K (.int .i64 6)) <|
    L.load eI6 ((⟨b4, 0, none⟩ : Addr).add 6) fun (x13 : Int) =>
    L.ite (x13 != p2) (
     K (.int .i64 7)) <|
    k5 (())) <|
   L.load eB6 ((⟨b4, 0, none⟩ : Addr).add 8) fun (x14 : Bool) =>
   L.ite (!x14) (
    K (.int .i64 6)) <|
   L.load eI6 ((⟨b4, 0, none⟩ : Addr).add 6) fun (x15 : Int) =>
   L.ite (x15 != p2) (
    K (.int .i64 7)) <|
   k5 (())) <|
  L.ite p3 (
   L.ite (p2 == 0) (
    K (.int .i64 0)) <|
   L.load eB6 ((⟨b4, 0, none⟩ : Addr).add 8) fun (x16 : Bool) =>
   L.ite (!x16) (
    K (.int .i64 6)) <|
   L.load eI6 ((⟨b4, 0, none⟩ : Addr).add 6) fun (x17 : Int) =>
   L.ite (x17 != p2) (
    K (.int .i64 7)) <|
   k5 (())) <|
  L.load eB6 ((⟨b4, 0, none⟩ : Addr).add 8) fun (x18 : Bool) =>
  L.ite (!x18) (
   K (.int .i64 6)) <|
  L.load eI6 ((⟨b4, 0, none⟩ : Addr).add 6) fun (x19 : Int) =>
  L.ite (x19 != p2) (
   K (.int .i64 7)) <|
  k5 (())) fun z6 =>
 K (.int .i64 0)
theorem z5V (p0 : Option Addr) (p1 : ByteArray) (p2 : Int) (p3 : Bool) {K : Value → PT} {w : World} (h : z3q p0 p1 p2 p3 K w) : CT Pr z1X [.pointer p0, .string p1, .int .i64 p2, .bool p3] K w :=
 C_of (fn := Tryz.f138) (an := z5Y) (args := [.v (.pointer p0), .v (.string p1), .v (.int .i64 p2), .v (.bool p3)]) (by kernel_rfl) (by kernel_rfl) (by kernel_rfl) h
def z5X : Ann := (.seq .auto (.seq .auto (.seq .auto .auto (some [])) none) none)
def z3p (p0 : Option Addr) (p1 : ByteArray) (p2 : ht0) (p3 : Int) (K : Value → PT) : PT :=
 L.new [.string p2.1, .int .i64 p2.2.1, .int .i64 p2.2.2.1, .int .i64 p2.2.2.2.1, .int .i64 p2.2.2.2.2.1, .int .i64 p2.2.2.2.2.2.1] z0b fun b1 =>
 L.nonnil p0 fun a2 =>
 L.load (.one (.map)) (a2.add 0) fun (x3 : Option Nat) =>
 L.semR Pr (.one (.agg lf11)) (Instr.lookup z0n (.map x3) (.string p1) false) fun (x4 : pt19) =>
 L.new [.string s_, .int .i64 0, .int .i64 0, .int .i64 0, .int .i64 0, .int .i64 0, .int .i64 0, .int .i64 0, .bool false] z0a fun b5 =>
 L.store (⟨b5, 0, none⟩) [.string x4.1, .int .i64 x4.2.1, .int .i64 x4.2.2.1, .int .i64 x4.2.2.2.1, .int .i64 x4.2.2.2.2.1, .int .i64 x4.2.2.2.2.2.1, .int .i64 x4.2.2.2.2.2.2.1, .int .i64 x4.2.2.2.2.2.2.2.1, .bool x4.2.2.2.2.2.2.2.2.1] <|
 L.join (Y := Unit) (fun k6 =>
  L.draw <|
  L.load eB6 ((⟨b5, 0, none⟩ : Addr).add 8) fun (x8 : Bool) =>
  L.ite (!x8) (
   L.load eI6 ((⟨b5, 0, none⟩ : Addr).add 7) fun (x9 : Int) =>
   L.store ((⟨b5, 0, none⟩ : Addr).add 7) [.int .i64 (IntKind.wrap .i64 (x9 + 1))] <|
   k6 (())) <|
  L.nonnil p0 fun a10 =>
  L.load (.one (.func)) (a10.add 1) fun (x11 : FV) =>
  L.load (.agg lf0) ((⟨b5, 0, none⟩ : Addr).add 0) fun (x12 : pt0) =>
  L.load (.agg lf0) (⟨b1, 0, none⟩) fun (x13 : pt0) =>
  L.callV Pr (.func x11.fn x11.fs x11.cs) [(qa0 x12), (qa0 x13)] rB fun (x14 : Bool) =>
  L.ite (!x14) (
   L.load eI6 ((⟨b5, 0, none⟩ : Addr).add 7) fun (x15 : Int) =>
   L.store ((⟨b5, 0, none⟩ : Addr).add 7) [.int .i64 (IntKind.wrap .i64 (x15 + 1))] <|
   k6 (())) <|
  k6 (())) fun z7 =>
 L.draw <|
 L.nonnil p0 fun a16 =>
 L.load (.one (.map)) (a16.add 0) fun (x17 : Option Nat) =>
 L.load (.agg lf0) (⟨b1, 0, none⟩) fun (x18 : pt0) =>
 L.load eI6 ((⟨b5, 0, none⟩ : Addr).add 7) fun (x19 : Int) =>
 L.semU Pr (Instr.mapUpdate z0n (.map x17) (.string p1) (.agg #[.string x18.1, .int .i64 x18.2.1, .int .i64 x18.2.2.1, .int .i64 x18.2.2.2.1, .int .i64 x18.2.2.2.2.1, .int .i64 x18.2.2.2.2.2.1, .int .i64 p3, .int .i64 x19, .bool true])) <|
 K (.tuple #[])
theorem z5U (p0 : Option Addr) (p1 : ByteArray) (p2 : ht0) (p3 : Int) {K : Value → PT} {w : World} (h : z3p p0 p1 p2 p3 K w) : CT Pr z1W [.pointer p0, .string p1, (.ag (qc0 p2) : SV).toV, .int .i64 p3] K w :=
 C_of (fn := Tryz.f139) (an := z5X) (args := [.v (.pointer p0), .v (.string p1), .ag (qc0 p2), .v (.int .i64 p3)]) (by kernel_rfl) (by kernel_rfl) (by kernel_rfl) h
def zdk (p0 : ByteArray) (K : Value → PT) : PT :=
 L.new [.int .i64 0, .int .i64 0, .int .i64 0, .string s_] z0z fun b1 =>
 L.store (⟨b1, 0, none⟩) [.int .i64 0, .int .i64 4, .int .i64 0, .string p0] <|
 L.load (.agg [.int .i64, .int .i64, .int .i64, .str]) (⟨b1, 0, none⟩) fun (x2 : pt10) =>
 K (.agg #[.int .i64 x2.1, .int .i64 x2.2.1, .int .i64 x2.2.2.1, .string x2.2.2.2.1])
theorem zhU (p0 : ByteArray) {K : Value → PT} {w : World} (h : zdk p0 K w) : CT Pr zaA [.string p0] K w :=
 C_of (fn := Tryz.f149) (an := .auto) (args := [.v (.string p0)]) (by kernel_rfl) (by kernel_rfl) (by kernel_rfl) h
def z80 (p0 : Option Addr) (p1 : Int) (p2 : ByteArray) (p3 : ht3) (K : Value → PT) : PT :=
 L.new [.int .i64 p3.1, .int .i64 p3.2.1, .int .i64 p3.2.2.1, .string p3.2.2.2.1] z0z fun b1 =>
 L.new [.int .i64 0, .int .i64 0, .int .i64 0, .string s_] z0z fun b2 =>
 L.store ((⟨b1, 0, none⟩ : Addr).add 0) [.int .i64 p1] <|
 L.draw <|
 L.nonnil p0 fun a3 =>
 L.load (.one (.map)) (a3.add 1) fun (x4 : Option Nat) =>
 L.load eI6 ((⟨b1, 0, none⟩ : Addr).add 1) fun (x5 : Int) =>
 L.semU Pr (Instr.mapUpdate z2f (.map x4) (.int .i64 p1) (.agg #[.string p2, .int .i64 x5])) <|
 L.load (.agg [.int .i64, .int .i64, .int .i64, .str]) (⟨b1, 0, none⟩) fun (x6 : pt10) =>
 L.store (⟨b2, 0, none⟩) [.int .i64 x6.1, .int .i64 x6.2.1, .int .i64 x6.2.2.1, .string x6.2.2.2.1] <|
 L.load (.agg [.int .i64, .int .i64, .int .i64, .str]) (⟨b2, 0, none⟩) fun (x7 : pt10) =>
 K (.agg #[.int .i64 x7.1, .int .i64 x7.2.1, .int .i64 x7.2.2.1, .string x7.2.2.2.1])
theorem zcA (p0 : Option Addr) (p1 : Int) (p2 : ByteArray) (p3 : ht3) {K : Value → PT} {w : World} (h : z80 p0 p1 p2 p3 K w) : CT Pr z4i [.pointer p0, .int .i64 p1, .string p2, (.ag (qc3 p3) : SV).toV] K w :=
 C_of (fn := Tryz.f150) (an := .auto) (args := [.v (.pointer p0), .v (.int .i64 p1), .v (.string p2), .ag (qc3 p3)]) (by kernel_rfl) (by kernel_rfl) (by kernel_rfl) h
def z6K : Ann := (.seq .auto (.seq .auto .auto (some [])) none)
def z48 (p0 : Option Addr) (p1 : ByteArray) (K : Value → PT) : PT :=
 L.join (Y := Unit) (fun k1 =>
  L.nonnil p0 fun a3 =>
  L.load (.one (.map)) (a3.add 0) fun (x4 : Option Nat) =>
  L.semR Pr (.tup [eP6, .one .bool]) (Instr.lookup z0t (.map x4) (.string p1) true) fun (x5 : Option Addr × Bool × Unit) =>
  L.ite (!x5.2.1) (
   L.draw <|
   L.nonnil p0 fun a6 =>
   L.load (.one (.map)) (a6.add 0) fun (x7 : Option Nat) =>
   L.nonnil p0 fun a8 =>
   L.load (.one (.func)) (a8.add 1) fun (x9 : FV) =>
   L.callV Pr (.func x9.fn x9.fs x9.cs) [] rP fun (x10 : Option Addr) =>
   L.chk (a6.add 0) [.map x7] <|
   L.semU Pr (Instr.mapUpdate z0t (.map x7) (.string p1) (.pointer x10)) <|
   k1 (())) <|
  k1 (())) fun z2 =>
 L.nonnil p0 fun a11 =>
 L.load (.one (.map)) (a11.add 0) fun (x12 : Option Nat) =>
 L.semR Pr rP (Instr.lookup z0t (.map x12) (.string p1) false) fun (x13 : Option Addr) =>
 K (.pointer x13)
theorem z6J (p0 : Option Addr) (p1 : ByteArray) {K : Value → PT} {w : World} (h : z48 p0 p1 K w) : CT Pr z2v [.pointer p0, .string p1] K w :=
 C_of (fn := Tryz.f151) (an := z6K) (args := [.v (.pointer p0), .v (.string p1)]) (by kernel_rfl) (by kernel_rfl) (by kernel_rfl) h
def z7W (p0 : Option Addr) (K : Value → PT) : PT :=
 L.nonnil p0 fun a1 =>
 L.load eL6 ((a1.add 0).add 0) fun (x2 : Sl) =>
 K (.int .i64 ((x2.len : Nat) : Int))
theorem zcw (p0 : Option Addr) {K : Value → PT} {w : World} (h : z7W p0 K w) : CT Pr z5y [.pointer p0] K w :=
 C_of (fn := Tryz.f152) (an := .auto) (args := [.v (.pointer p0)]) (by kernel_rfl) (by kernel_rfl) (by kernel_rfl) h
def z7j (p0 : Option Addr) (p1 : Int) (p2 : ByteArray) (K : Value → PT) : PT :=
 L.new [.int .i64 0, .int .i64 0, .int .i64 0, .string s_] z0z fun b1 =>
 L.nonnil p0 fun a2 =>
 L.load eP6 (a2.add 0) fun (x3 : Option Addr) =>
 L.call Pr z4j [.pointer x3, .string p2, .int .i64 p1] (.tup [eI6, eB6]) fun (x4 : Int × Bool × Unit) =>
 L.ite (!x4.2.1) (
  L.store (⟨b1, 0, none⟩) [.int .i64 0, .int .i64 0, .int .i64 0, .string s_] <|
  L.load (.agg [.int .i64, .int .i64, .int .i64, .str]) (⟨b1, 0, none⟩) fun (x5 : pt10) =>
  K (.tuple #[.agg #[.int .i64 x5.1, .int .i64 x5.2.1, .int .i64 x5.2.2.1, .string x5.2.2.2.1], .bool false])) <|
 L.call Pr z4i [.pointer p0, .int .i64 p1, .string p2, .agg #[.int .i64 0, .int .i64 1, .int .i64 x4.1, .string s_]] (.one (.agg [.int .i64, .int .i64, .int .i64, .str])) fun (x6 : pt10) =>
 L.store (⟨b1, 0, none⟩) [.int .i64 x6.1, .int .i64 x6.2.1, .int .i64 x6.2.2.1, .string x6.2.2.2.1] <|
 L.load (.agg [.int .i64, .int .i64, .int .i64, .str]) (⟨b1, 0, none⟩) fun (x7 : pt10) =>
 K (.tuple #[.agg #[.int .i64 x7.1, .int .i64 x7.2.1, .int .i64 x7.2.2.1, .string x7.2.2.2.1], .bool true])
theorem zbq (p0 : Option Addr) (p1 : Int) (p2 : ByteArray) {K : Value → PT} {w : World} (h : z7j p0 p1 p2 K w) : CT Pr z50 [.pointer p0, .int .i64 p1, .string p2] K w :=
 C_of (fn := Tryz.f153) (an := .auto) (args := [.v (.pointer p0), .v (.int .i64 p1), .v (.string p2)]) (by kernel_rfl) (by kernel_rfl) (by kernel_rfl) h
def z8T (p0 : Sl) (K : Value → PT) : PT :=
 L.new [.slice p0.a p0.len p0.cap] z0m fun b1 =>
 K (.func (.func z2M) #[] #[.pointer (some (⟨b1, 0, none⟩))])
theorem zcK (p0 : Sl) {K : Value → PT} {w : World} (h : z8T p0 K w) : CT Pr z8Q [.slice p0.a p0.len p0.cap] K w :=
 C_of (fn := Tryz.f155) (an := .auto) (args := [.v (.slice p0.a p0.len p0.cap)]) (by kernel_rfl) (by kernel_rfl) (by kernel_rfl) h
def zb8 (p0 : Option Addr) (K : Value → PT) : PT :=
 L.nonnil p0 fun a1 =>
 L.load eI6 (a1.add 0) fun (x2 : Int) =>
 L.ite (x2 != 1) (
  K (.int .i64 9)) <|
 L.nonnil p0 fun a3 =>
 L.store (a3.add 0) [.int .i64 2] <|
 K (.int .i64 0)
theorem zff (p0 : Option Addr) {K : Value → PT} {w : World} (h : zb8 p0 K w) : CT Pr z7G [.pointer p0] K w :=
 C_of (fn := Tryz.f157) (an := .auto) (args := [.v (.pointer p0)]) (by kernel_rfl) (by kernel_rfl) (by kernel_rfl) h
def zcF : Ann := (.seq .auto (.seq (.seq .auto (.seq .auto .auto (some [(9, (.one (.int .i64))), (10, (.one (.int .i64)))])) none) .auto none) none)
def z7V (p0 : Option Addr) (K : Value → PT) : PT :=
 L.new [.pointer p0] z2I fun b1 =>
 L.new [.int .i64 0] z0i fun b2 =>
 L.new [.bool false] z68 fun b3 =>
 L.load eP6 (⟨b1, 0, none⟩) fun (x4 : Option Addr) =>
 L.nonnil x4 fun a5 =>
 L.call Pr z1T [.pointer (some (a5.add 0))] (.one (.one (.func))) fun (x6 : FV) =>
 L.range Pr none (.func x6.fn x6.fs x6.cs) [eI6, eI6] (fun l7 (y8 : Int × Int × Unit) R9 =>
  L.begin Pr l7 <|
  L.draw <|
  L.load eP6 (⟨b1, 0, none⟩) fun (x12 : Option Addr) =>
  L.load eP6 (⟨b1, 0, none⟩) fun (x13 : Option Addr) =>
  L.nonnil x13 fun a14 =>
  L.load eL6 ((a14.add 0).add 0) fun (x15 : Sl) =>
  L.guard (0 ≤ (1 : Int) ∧ (1 : Int) ≤ ((x15.len : Nat) : Int) ∧ ((x15.len : Nat) : Int) ≤ ((x15.cap : Nat) : Int) ∧ ((x15.cap : Nat) : Int) ≤ x15.cap) <|
  L.nonnil x12 fun a16 =>
  L.store ((a16.add 0).add 0) [.slice (if Int.toNat ((x15.cap : Nat) : Int) = Int.toNat (1 : Int) then x15.a else Option.map (fun a : Addr => a.add (Int.toNat (1 : Int) * 2)) x15.a) (Int.toNat ((x15.len : Nat) : Int) - Int.toNat (1 : Int)) (Int.toNat ((x15.cap : Nat) : Int) - Int.toNat (1 : Int))] <|
  L.store (⟨b2, 0, none⟩) [.int .i64 y8.1] <|
  L.store (⟨b3, 0, none⟩) [.bool true] <|
  L.endRound Pr l7 (some .ret) R9) fun d10 j11 =>
 L.jump j11 (
  L.store (⟨b2, 0, none⟩) [.int .i64 0] <|
  L.store (⟨b3, 0, none⟩) [.bool false] <|
  L.unmark Pr (d10 ++ []) <|
  L.load eI6 (⟨b2, 0, none⟩) fun (x17 : Int) =>
  L.load eB6 (⟨b3, 0, none⟩) fun (x18 : Bool) =>
  K (.tuple #[.int .i64 x17, .bool x18])) (
  L.unmark Pr (d10 ++ []) <|
  L.load eI6 (⟨b2, 0, none⟩) fun (x19 : Int) =>
  L.load eB6 (⟨b3, 0, none⟩) fun (x20 : Bool) =>
  K (.tuple #[.int .i64 x19, .bool x20])) []
theorem zcv (p0 : Option Addr) {K : Value → PT} {w : World} (h : z7V p0 K w) : CT Pr z5x [.pointer p0] K w :=
 C_of (fn := Tryz.f158) (an := zcF) (args := [.v (.pointer p0)]) (by kernel_rfl) (by kernel_rfl) (by kernel_rfl) h
def z2g (p0 : Sl) (K : Value → PT) : PT :=
 L.ite ((p0.a).isNone) (
  K (.slice none 0 0)) <|
 L.new [] z0z fun b1 =>
 L.sem Pr (.one (.one .slice)) (Builtin.append_ #[z0m, z0m] z0m #[.slice (some ⟨b1, 0, none⟩) 0 0, .slice p0.a p0.len p0.cap]) fun (s2 : Sl) =>
 K (.slice s2.a s2.len s2.cap)
theorem z4a (p0 : Sl) {K : Value → PT} {w : World} (h : z2g p0 K w) : CT Pr z0U [.slice p0.a p0.len p0.cap] K w :=
 C_of (fn := Tryz.f159) (an := .auto) (args := [.v (.slice p0.a p0.len p0.cap)]) (by kernel_rfl) (by kernel_rfl) (by kernel_rfl) h
def z6H (p0 : Option Addr) (p1 : Int) (K : Value → PT) : PT :=
 L.nonnil p0 fun a1 =>
 L.load (.one (.map)) (a1.add 0) fun (x2 : Option Nat) =>
 L.semR Pr (.one (.agg [.str, .ptr])) (Instr.lookup z0o (.map x2) (.int .i64 p1) false) fun (x3 : ByteArray × Option Addr × Unit) =>
 L.call Pr z0Y [.pointer x3.2.1] rI fun (x4 : Int) =>
 L.ite (x4 == 4) (
  L.nonnil p0 fun a5 =>
  L.load (.one (.map)) (a5.add 0) fun (x6 : Option Nat) =>
  L.sem Pr (.tup []) (Builtin.delete_ #[z0o, z0i] T_ #[.map x6, .int .i64 p1]) fun _ =>
  K (.tuple #[])) <|
 K (.tuple #[])
theorem zaS (p0 : Option Addr) (p1 : Int) {K : Value → PT} {w : World} (h : z6H p0 p1 K w) : CT Pr z4I [.pointer p0, .int .i64 p1] K w :=
 C_of (fn := Tryz.f161) (an := .auto) (args := [.v (.pointer p0), .v (.int .i64 p1)]) (by kernel_rfl) (by kernel_rfl) (by kernel_rfl) h
def z3B (p0 : Option Addr) (K : Value → PT) : PT :=
 L.new [.pointer p0] z0s fun b1 =>
 K (.func (.func z0W) #[] #[.pointer (some (⟨b1, 0, none⟩))])
theorem z60 (p0 : Option Addr) {K : Value → PT} {w : World} (h : z3B p0 K w) : CT Pr z3z [.pointer p0] K w :=
 C_of (fn := Tryz.f162) (an := .auto) (args := [.v (.pointer p0)]) (by kernel_rfl) (by kernel_rfl) (by kernel_rfl) h
def z7e (p0 : Option Addr) (p1 : Int) (K : Value → PT) : PT :=
 L.nonnil p0 fun a1 =>
 L.call Pr z5w [.pointer (some (a1.add 0)), .int .i64 p1] rL fun (x2 : Sl) =>
 K (.slice x2.a x2.len x2.cap)
theorem zbl (p0 : Option Addr) (p1 : Int) {K : Value → PT} {w : World} (h : z7e p0 p1 K w) : CT Pr z4Y [.pointer p0, .int .i64 p1] K w :=
 C_of (fn := Tryz.f163) (an := .auto) (args := [.v (.pointer p0), .v (.int .i64 p1)]) (by kernel_rfl) (by kernel_rfl) (by kernel_rfl) h
def z5d (p0 : Option Addr) (p1 : Int) (K : Value → PT) : PT :=
 L.draw <|
 L.nonnil p0 fun a1 =>
 L.load eI6 (a1.add 60) fun (x2 : Int) =>
 L.guard (60 ≠ (0 : Int)) <|
 L.nonnil p0 fun a3 =>
 L.idx (some (a3.add 0)) (Int.tmod x2 60) 60 1 fun a4 =>
 L.store a4 [.int .i64 p1] <|
 L.nonnil p0 fun a5 =>
 L.load eI6 (a5.add 60) fun (x6 : Int) =>
 L.nonnil p0 fun a7 =>
 L.store (a7.add 60) [.int .i64 (IntKind.wrap .i64 (x6 + 1))] <|
 K (.tuple #[])
theorem z8J (p0 : Option Addr) (p1 : Int) {K : Value → PT} {w : World} (h : z5d p0 p1 K w) : CT Pr z3G [.pointer p0, .int .i64 p1] K w :=
 C_of (fn := Tryz.f164) (an := .auto) (args := [.v (.pointer p0), .v (.int .i64 p1)]) (by kernel_rfl) (by kernel_rfl) (by kernel_rfl) h
def z3r (p0 : Option Addr) (p1 : ByteArray) (K : Value → PT) : PT :=
 L.new [.string s_, .int .i64 0, .int .i64 0, .int .i64 0, .int .i64 0, .int .i64 0, .int .i64 0, .int .i64 0, .bool false] z0a fun b1 =>
 L.nonnil p0 fun a2 =>
 L.load (.one (.map)) (a2.add 0) fun (x3 : Option Nat) =>
 L.semR Pr (.one (.agg lf11)) (Instr.lookup z0n (.map x3) (.string p1) false) fun (x4 : pt19) =>
 L.new [.string s_, .int .i64 0, .int .i64 0, .int .i64 0, .int .i64 0, .int .i64 0, .int .i64 0, .int .i64 0, .bool false] z0a fun b5 =>
 L.store (⟨b5, 0, none⟩) [.string x4.1, .int .i64 x4.2.1, .int .i64 x4.2.2.1, .int .i64 x4.2.2.2.1, .int .i64 x4.2.2.2.2.1, .int .i64 x4.2.2.2.2.2.1, .int .i64 x4.2.2.2.2.2.2.1, .int .i64 x4.2.2.2.2.2.2.2.1, .bool x4.2.2.2.2.2.2.2.2.1] <|
 L.draw <|
 L.load (.agg lf11) (⟨b5, 0, none⟩) fun (x6 : pt19) =>
 L.load eB6 ((⟨b5, 0, none⟩ : Addr).add 8) fun (x7 : Bool) =>
 L.store (⟨b1, 0, none⟩) [.string x6.1, .int .i64 x6.2.1, .int .i64 x6.2.2.1, .int .i64 x6.2.2.2.1, .int .i64 x6.2.2.2.2.1, .int .i64 x6.2.2.2.2.2.1, .int .i64 x6.2.2.2.2.2.2.1, .int .i64 x6.2.2.2.2.2.2.2.1, .bool x6.2.2.2.2.2.2.2.2.1] <|
 L.chk ((⟨b5, 0, none⟩ : Addr).add 8) [.bool x7] <|
 L.load (.agg lf11) (⟨b1, 0, none⟩) fun (x8 : pt19) =>
 K (.tuple #[(qa5 x8), .bool x7])
theorem z5W (p0 : Option Addr) (p1 : ByteArray) {K : Value → PT} {w : World} (h : z3r p0 p1 K w) : CT Pr z1Y [.pointer p0, .string p1] K w :=
 C_of (fn := Tryz.f165) (an := .auto) (args := [.v (.pointer p0), .v (.string p1)]) (by kernel_rfl) (by kernel_rfl) (by kernel_rfl) h
def zcm (p0 : ByteArray) (p1 : Int) (K : Value → PT) : PT :=
 L.call Pr z3j [.string p0] rB fun (x1 : Bool) =>
 L.ite (!x1) (
  K (.string s_)) <|
 L.ite (decide (p1 < 1)) (
  K (.string s_)) <|
 L.ite (decide (p1 > 999999)) (
  K (.string s_)) <|
 L.guard (((p0.size + s__.size : Nat) : Int) ≤ maxI64) <|
 L.call Pr z3L [.int .i64 p1] rS fun (x2 : ByteArray) =>
 L.guard ((((p0 ++ s__).size + x2.size : Nat) : Int) ≤ maxI64) <|
 K (.string ((p0 ++ s__) ++ x2))
theorem zga (p0 : ByteArray) (p1 : Int) {K : Value → PT} {w : World} (h : zcm p0 p1 K w) : CT Pr z6Q [.string p0, .int .i64 p1] K w :=
 C_of (fn := Tryz.f166) (an := .auto) (args := [.v (.string p0), .v (.int .i64 p1)]) (by kernel_rfl) (by kernel_rfl) (by kernel_rfl) h
def z4V (p0 : Option Addr) (K : Value → PT) : PT :=
 L.new [.pointer p0] z4m fun b1 =>
 K (.func (.func z1j) #[] #[.pointer (some (⟨b1, 0, none⟩))])
theorem z8h (p0 : Option Addr) {K : Value → PT} {w : World} (h : z4V p0 K w) : CT Pr z3k [.pointer p0] K w :=
 C_of (fn := Tryz.f175) (an := .auto) (args := [.v (.pointer p0)]) (by kernel_rfl) (by kernel_rfl) (by kernel_rfl) h
def zb7 (p0 : Int) (p1 : Int) (p2 : Int) (K : Value → PT) : PT :=
 L.ite (decide (p1 ≤ 0)) (
  K (.int .i64 0)) <|
 L.ite (decide (p2 ≤ 0)) (
  K (.int .i64 0)) <|
 L.guard ((IntKind.wrap .i64 (p1 * p2)) ≠ (0 : Int)) <|
 K (.int .i64 (IntKind.wrap .i64 (Int.tdiv (IntKind.wrap .i64 ((IntKind.wrap .i64 (p0 + (IntKind.wrap .i64 (p1 * p2)))) - 1)) (IntKind.wrap .i64 (p1 * p2)))))
theorem zfe (p0 : Int) (p1 : Int) (p2 : Int) {K : Value → PT} {w : World} (h : zb7 p0 p1 p2 K w) : CT Pr z3i [.int .i64 p0, .int .i64 p1, .int .i64 p2] K w :=
 C_of (fn := Tryz.f176) (an := .auto) (args := [.v (.int .i64 p0), .v (.int .i64 p1), .v (.int .i64 p2)]) (by kernel_rfl) (by kernel_rfl) (by kernel_rfl) h
def z4U (p0 : HT [.int .i64, .int .i64]) (p1 : Int) (p2 : Int) (K : Value → PT) : PT :=
 L.new [.int .i64 p0.1, .int .i64 p0.2.1] z0H fun b1 =>
 L.ite (decide (p1 ≥ (IntKind.wrap .i64 (2 * p2)))) (
  K (.int .i64 6)) <|
 L.load eI6 ((⟨b1, 0, none⟩ : Addr).add 1) fun (x2 : Int) =>
 K (.int .i64 (if 0 > (IntKind.wrap .i64 (x2 - 1)) then 0 else (IntKind.wrap .i64 (x2 - 1))))
theorem z8g (p0 : HT [.int .i64, .int .i64]) (p1 : Int) (p2 : Int) {K : Value → PT} {w : World} (h : z4U p0 p1 p2 K w) : CT Pr z2m [(.ag [.int .i64 p0.1, .int .i64 p0.2.1] : SV).toV, .int .i64 p1, .int .i64 p2] K w :=
 C_of (fn := Tryz.f177) (an := .auto) (args := [.ag [.int .i64 p0.1, .int .i64 p0.2.1], .v (.int .i64 p1), .v (.int .i64 p2)]) (by kernel_rfl) (by kernel_rfl) (by kernel_rfl) h
def z6d (p0 : HT [.int .i64, .int .i64]) (p1 : HT [.int .i64, .int .i64]) (K : Value → PT) : PT :=
 L.new [.int .i64 p0.1, .int .i64 p0.2.1] z0H fun b1 =>
 L.new [.int .i64 p1.1, .int .i64 p1.2.1] z7U fun b2 =>
 L.load eI6 ((⟨b1, 0, none⟩ : Addr).add 0) fun (x3 : Int) =>
 L.idx (some (⟨b2, 0, none⟩)) 0 2 1 fun a4 =>
 L.load eI6 a4 fun (x5 : Int) =>
 L.idx (some (⟨b2, 0, none⟩)) 1 2 1 fun a6 =>
 L.load eI6 a6 fun (x7 : Int) =>
 K (.int .i64 (if x7 > (if x5 > x3 then x5 else x3) then x7 else (if x5 > x3 then x5 else x3)))
theorem zae (p0 : HT [.int .i64, .int .i64]) (p1 : HT [.int .i64, .int .i64]) {K : Value → PT} {w : World} (h : z6d p0 p1 K w) : CT Pr z4g [(.ag [.int .i64 p0.1, .int .i64 p0.2.1] : SV).toV, (.ag [.int .i64 p1.1, .int .i64 p1.2.1] : SV).toV] K w :=
 C_of (fn := Tryz.f178) (an := .auto) (args := [.ag [.int .i64 p0.1, .int .i64 p0.2.1], .ag [.int .i64 p1.1, .int .i64 p1.2.1]]) (by kernel_rfl) (by kernel_rfl) (by kernel_rfl) h
def z8U (p0 : ht0) (p1 : Int) (p2 : Int) (K : Value → PT) : PT :=
 L.new [.string p0.1, .int .i64 p0.2.1, .int .i64 p0.2.2.1, .int .i64 p0.2.2.2.1, .int .i64 p0.2.2.2.2.1, .int .i64 p0.2.2.2.2.2.1] z0b fun b1 =>
 L.new [.int .i64 0, .int .i64 0, .int .i64 0, .int .i64 0] zjc fun b2 =>
 L.guard (2 ≠ (0 : Int)) <|
 L.load eI6 ((⟨b1, 0, none⟩ : Addr).add 3) fun (x3 : Int) =>
 L.load eI6 ((⟨b1, 0, none⟩ : Addr).add 4) fun (x4 : Int) =>
 L.store (⟨b2, 0, none⟩) [.int .i64 (IntKind.wrap .i64 (4 * p2)), .int .i64 (IntKind.wrap .i64 (Int.tdiv p1 2)), .int .i64 x3, .int .i64 x4] <|
 L.load (.agg [.int .i64, .int .i64, .int .i64, .int .i64]) (⟨b2, 0, none⟩) fun (x5 : Int × Int × Int × Int × Unit) =>
 K (.agg #[.int .i64 x5.1, .int .i64 x5.2.1, .int .i64 x5.2.2.1, .int .i64 x5.2.2.2.1])
theorem zcL (p0 : ht0) (p1 : Int) (p2 : Int) {K : Value → PT} {w : World} (h : z8U p0 p1 p2 K w) : CT Pr z6m [(.ag (qc0 p0) : SV).toV, .int .i64 p1, .int .i64 p2] K w :=
 C_of (fn := Tryz.f179) (an := .auto) (args := [.ag (qc0 p0), .v (.int .i64 p1), .v (.int .i64 p2)]) (by kernel_rfl) (by kernel_rfl) (by kernel_rfl) h
def zbC : Ann := (.seq .auto (.seq .auto (.seq (.seq .auto (.seq .auto .auto (some [(11, (.one (.int .i64))), (12, (.one (.ptr)))])) none) .auto none) none) none)
def z7n (p0 : Option Addr) (p1 : ByteArray) (K : Value → PT) : PT :=
 L.new [.int .i64 0] z0i fun b1 =>
 L.store (⟨b1, 0, none⟩) [.int .i64 0] <|
 L.call Pr z2k [.pointer p0, .string p1] (.one (.one (.func))) fun (x2 : FV) =>
 L.range Pr none (.func x2.fn x2.fs x2.cs) [eI6, eP6] (fun l3 (y4 : Int × Option Addr × Unit) R5 =>
  L.begin Pr l3 <|
  L.call Pr z0Y [.pointer y4.2.1] rI fun (x8 : Int) =>
  L.ite (x8 != 3) (
   L.load eI6 (⟨b1, 0, none⟩) fun (x9 : Int) =>
   L.store (⟨b1, 0, none⟩) [.int .i64 (IntKind.wrap .i64 (x9 + 1))] <|
   L.endRound Pr l3 none R5) <|
  L.endRound Pr l3 none R5) fun d6 j7 =>
 L.jump j7 (
  L.load eI6 (⟨b1, 0, none⟩) fun (x10 : Int) =>
  L.unmark Pr (d6 ++ []) <|
  K (.int .i64 x10)) (
  L.unmark Pr (d6 ++ []) <|
  K (.int .i64 0)) []
theorem zbu (p0 : Option Addr) (p1 : ByteArray) {K : Value → PT} {w : World} (h : z7n p0 p1 K w) : CT Pr z55 [.pointer p0, .string p1] K w :=
 C_of (fn := Tryz.f180) (an := zbC) (args := [.v (.pointer p0), .v (.string p1)]) (by kernel_rfl) (by kernel_rfl) (by kernel_rfl) h
def zf7 (p0 : Int) (K : Value → PT) : PT :=
 L.sem Pr (.one (.one .map)) (Instr.makeMap z2T none) fun (m1 : Option Nat) =>
 L.new [.int .i64 1, .map m1, .int .i64 p0] z7S fun b2 =>
 K (.pointer (some (⟨b2, 0, none⟩)))
theorem zjx (p0 : Int) {K : Value → PT} {w : World} (h : zf7 p0 K w) : CT Pr zbY [.int .i64 p0] K w :=
 C_of (fn := Tryz.f181) (an := .auto) (args := [.v (.int .i64 p0)]) (by kernel_rfl) (by kernel_rfl) (by kernel_rfl) h
def z9p : Ann := (.seq .auto (.seq .auto (.seq (.seq .auto (.seq .auto (.seq .auto (.seq .auto (.cond .auto .auto) none) none) (some [(13, (.one (.int .i64))), (14, (.one (.ptr)))])) none) .auto none) none) none)
def z5P (p0 : Option Addr) (p1 : ByteArray) (K : Value → PT) : PT :=
 L.new [.int .i64 0] z0i fun b1 =>
 L.new [.int .i64 0] z0i fun b2 =>
 L.new [.int .i64 0] z0i fun b3 =>
 L.store (⟨b1, 0, none⟩) [.int .i64 0] <|
 L.store (⟨b2, 0, none⟩) [.int .i64 3] <|
 L.store (⟨b3, 0, none⟩) [.int .i64 0] <|
 L.call Pr z2k [.pointer p0, .string p1] (.one (.one (.func))) fun (x4 : FV) =>
 L.range Pr none (.func x4.fn x4.fs x4.cs) [eI6, eP6] (fun l5 (y6 : Int × Option Addr × Unit) R7 =>
  L.begin Pr l5 <|
  L.call Pr z0Y [.pointer y6.2.1] rI fun (x10 : Int) =>
  L.ite (x10 == 3) (
   L.endRound Pr l5 none R7) <|
  L.draw <|
  L.load eI6 (⟨b2, 0, none⟩) fun (x11 : Int) =>
  L.call Pr z0Y [.pointer y6.2.1] rI fun (x12 : Int) =>
  L.chk (⟨b2, 0, none⟩) [.int .i64 x11] <|
  L.ite (decide (x12 < x11)) (
   L.call Pr z0Y [.pointer y6.2.1] rI fun (x13 : Int) =>
   L.call Pr z1z [.pointer y6.2.1] rI fun (x14 : Int) =>
   L.store (⟨b1, 0, none⟩) [.int .i64 y6.1] <|
   L.store (⟨b2, 0, none⟩) [.int .i64 x13] <|
   L.store (⟨b3, 0, none⟩) [.int .i64 x14] <|
   L.endRound Pr l5 none R7) <|
  L.load eI6 (⟨b2, 0, none⟩) fun (x15 : Int) =>
  L.call Pr z0Y [.pointer y6.2.1] rI fun (x16 : Int) =>
  L.chk (⟨b2, 0, none⟩) [.int .i64 x15] <|
  L.ite (x16 == x15) (
   L.load eI6 (⟨b3, 0, none⟩) fun (x17 : Int) =>
   L.call Pr z1z [.pointer y6.2.1] rI fun (x18 : Int) =>
   L.chk (⟨b3, 0, none⟩) [.int .i64 x17] <|
   L.ite (decide (x18 ≤ x17)) (
    L.call Pr z0Y [.pointer y6.2.1] rI fun (x19 : Int) =>
    L.call Pr z1z [.pointer y6.2.1] rI fun (x20 : Int) =>
    L.store (⟨b1, 0, none⟩) [.int .i64 y6.1] <|
    L.store (⟨b2, 0, none⟩) [.int .i64 x19] <|
    L.store (⟨b3, 0, none⟩) [.int .i64 x20] <|
    L.endRound Pr l5 none R7) <|
   L.endRound Pr l5 none R7) <|
  L.endRound Pr l5 none R7) fun d8 j9 =>
 L.jump j9 (
  L.load eI6 (⟨b1, 0, none⟩) fun (x21 : Int) =>
  L.unmark Pr (d8 ++ []) <|
  K (.int .i64 x21)) (
  L.unmark Pr (d8 ++ []) <|
  K (.int .i64 0)) []
theorem z9k (p0 : Option Addr) (p1 : ByteArray) {K : Value → PT} {w : World} (h : z5P p0 p1 K w) : CT Pr z3W [.pointer p0, .string p1] K w :=
 C_of (fn := Tryz.f182) (an := z9p) (args := [.v (.pointer p0), .v (.string p1)]) (by kernel_rfl) (by kernel_rfl) (by kernel_rfl) h
def zcH : Ann := (.seq .auto (.seq (.seq .auto (.cond .auto .auto) none) .auto (some [])) none)
def z7Z (p0 : Option Addr) (K : Value → PT) : PT :=
 L.join (Y := Unit) (fun k1 =>
  L.nonnil p0 fun a3 =>
  L.load eI6 (a3.add 0) fun (x4 : Int) =>
  L.ite (x4 != 1) (
   L.nonnil p0 fun a5 =>
   L.load eI6 (a5.add 0) fun (x6 : Int) =>
   L.ite (x6 != 2) (
    K (.int .i64 9)) <|
   k1 (())) <|
  k1 (())) fun z2 =>
 L.nonnil p0 fun a7 =>
 L.store (a7.add 0) [.int .i64 3] <|
 L.call Pr z6P [.pointer p0] (.tup []) fun (x8 : Unit) =>
 K (.int .i64 0)
theorem zcz (p0 : Option Addr) {K : Value → PT} {w : World} (h : z7Z p0 K w) : CT Pr z5A [.pointer p0] K w :=
 C_of (fn := Tryz.f183) (an := zcH) (args := [.v (.pointer p0)]) (by kernel_rfl) (by kernel_rfl) (by kernel_rfl) h
def z5K (p0 : Option Addr) (K : Value → PT) : PT :=
 L.new [.pointer p0] z2O fun b1 =>
 K (.func (.func z1G) #[] #[.pointer (some (⟨b1, 0, none⟩))])
theorem z9g (p0 : Option Addr) {K : Value → PT} {w : World} (h : z5K p0 K w) : CT Pr z1T [.pointer p0] K w :=
 C_of (fn := Tryz.f186) (an := .auto) (args := [.v (.pointer p0)]) (by kernel_rfl) (by kernel_rfl) (by kernel_rfl) h
def zar : Ann := (.seq .auto (.one [(14, (.one (.int .i64)))] (.seq .auto (.seq .auto (.seq (.seq .auto (.seq .auto (.seq .auto (.cond .auto .auto) none) none) none) .auto (some [])) none) none)) none)
def z6h (p0 : FV) (c0 : Addr) (c1 : Addr) (K : Value → PT) : PT :=
 L.load eP6 c0 fun (x1 : Option Addr) =>
 L.nonnil x1 fun a2 =>
 L.load (.one (.map)) (a2.add 0) fun (x3 : Option Nat) =>
 L.call Pr z0Q [.map x3] (.one (.one (.func))) fun (x4 : FV) =>
 L.call Pr z2z [.func x4.fn x4.fs x4.cs] rL fun (x5 : Sl) =>
 L.loop (Y := Int × Unit) (0, ()) fun y6 again7 =>
 L.ite (decide (y6.1 < ((x5.len : Nat) : Int))) (
  L.join (Y := Unit) (fun k8 =>
   L.idx x5.a y6.1 x5.len 1 fun a10 =>
   L.load eI6 a10 fun (x11 : Int) =>
   L.load eP6 c0 fun (x12 : Option Addr) =>
   L.nonnil x12 fun a13 =>
   L.load (.one (.map)) (a13.add 0) fun (x14 : Option Nat) =>
   L.semR Pr (.one (.agg [.str, .ptr])) (Instr.lookup z0o (.map x14) (.int .i64 x11) false) fun (x15 : ByteArray × Option Addr × Unit) =>
   L.new [.string s_, .pointer none] z4J fun b16 =>
   L.store (⟨b16, 0, none⟩) [.string x15.1, .pointer x15.2.1] <|
   L.load eS6 ((⟨b16, 0, none⟩ : Addr).add 0) fun (x17 : ByteArray) =>
   L.load eS6 c1 fun (x18 : ByteArray) =>
   L.ite (x17.toList == x18.toList) (
    L.load eP6 ((⟨b16, 0, none⟩ : Addr).add 1) fun (x19 : Option Addr) =>
    L.callV Pr (.func p0.fn p0.fs p0.cs) [.int .i64 x11, .pointer x19] rB fun (x20 : Bool) =>
    L.ite (!x20) (
     K (.tuple #[])) <|
    k8 (())) <|
   k8 (())) fun z9 =>
  again7 (IntKind.wrap .i64 (y6.1 + 1), ())) <|
 K (.tuple #[])
theorem zaj (p0 : FV) (c0 : Addr) (c1 : Addr) {K : Value → PT} {w : World} (h : z6h p0 c0 c1 K w) : CT Pr z2n [.func p0.fn p0.fs p0.cs, .pointer (some c0), .pointer (some c1)] K w :=
 C_of (fn := Tryz.f187) (an := zar) (args := [.v (.func p0.fn p0.fs p0.cs), .v (.pointer (some c0)), .v (.pointer (some c1))]) (by kernel_rfl) (by kernel_rfl) (by kernel_rfl) h
theorem za9 : Enters Pr z2n := z0w (by kernel_rfl)
def z5O (p0 : FV) (K : Value → PT) : PT :=
 L.call Pr z57 [.func p0.fn p0.fs p0.cs] rL fun (x1 : Sl) =>
 L.call Pr z3h [.slice x1.a x1.len x1.cap] (.tup []) fun (x2 : Unit) =>
 K (.slice x1.a x1.len x1.cap)
theorem z9j (p0 : FV) {K : Value → PT} {w : World} (h : z5O p0 K w) : CT Pr z2z [.func p0.fn p0.fs p0.cs] K w :=
 C_of (fn := Tryz.f188) (an := .auto) (args := [.v (.func p0.fn p0.fs p0.cs)]) (by kernel_rfl) (by kernel_rfl) (by kernel_rfl) h
def z1m (p0 : Option Nat) (K : Value → PT) : PT :=
 L.new [.map p0] z0o fun b1 =>
 K (.func (.func z0h) #[] #[.pointer (some (⟨b1, 0, none⟩))])
theorem z2L (p0 : Option Nat) {K : Value → PT} {w : World} (h : z1m p0 K w) : CT Pr z0Q [.map p0] K w :=
 C_of (fn := Tryz.f189) (an := .auto) (args := [.v (.map p0)]) (by kernel_rfl) (by kernel_rfl) (by kernel_rfl) h
def z4B (p0 : FV) (K : Value → PT) : PT :=
 L.call Pr z4f [.func p0.fn p0.fs p0.cs] rL fun (x1 : Sl) =>
 L.call Pr z3g [.slice x1.a x1.len x1.cap] (.tup []) fun (x2 : Unit) =>
 K (.slice x1.a x1.len x1.cap)
theorem z7x (p0 : FV) {K : Value → PT} {w : World} (h : z4B p0 K w) : CT Pr z1t [.func p0.fn p0.fs p0.cs] K w :=
 C_of (fn := Tryz.f192) (an := .auto) (args := [.v (.func p0.fn p0.fs p0.cs)]) (by kernel_rfl) (by kernel_rfl) (by kernel_rfl) h
def z0S (p0 : Option Nat) (K : Value → PT) : PT :=
 L.new [.map p0] z0k fun b1 =>
 K (.func (.func z08) #[] #[.pointer (some (⟨b1, 0, none⟩))])
theorem z1H (p0 : Option Nat) {K : Value → PT} {w : World} (h : z0S p0 K w) : CT Pr z0R [.map p0] K w :=
 C_of (fn := Tryz.f193) (an := .auto) (args := [.v (.map p0)]) (by kernel_rfl) (by kernel_rfl) (by kernel_rfl) h
def z84 (p0 : ByteArray) (K : Value → PT) : PT :=
 L.new [.int .i64 12, .string p0, .string s_, .int .i64 0, .int .i64 0, .string s_, .int .i64 0, .int .i64 0, .int .i64 0, .int .i64 0, .int .i64 0, .string s_, .string s_, .slice none 0 0, .int .i64 0] z0p fun b1 =>
 K (.slice (some ⟨b1, 0, none⟩) 1 1)
theorem zcE (p0 : ByteArray) {K : Value → PT} {w : World} (h : z84 p0 K w) : CT Pr z25 [.string p0] K w :=
 C_of (fn := Tryz.f194) (an := .auto) (args := [.v (.string p0)]) (by kernel_rfl) (by kernel_rfl) (by kernel_rfl) h
theorem zcu : Enters Pr z25 := z0w (by kernel_rfl)
def z83 (p0 : ByteArray) (K : Value → PT) : PT :=
 L.new [.int .i64 13, .string p0, .string s_, .int .i64 0, .int .i64 0, .string s_, .int .i64 0, .int .i64 0, .int .i64 0, .int .i64 0, .int .i64 0, .string s_, .string s_, .slice none 0 0, .int .i64 0] z0p fun b1 =>
 K (.slice (some ⟨b1, 0, none⟩) 1 1)
theorem zcD (p0 : ByteArray) {K : Value → PT} {w : World} (h : z83 p0 K w) : CT Pr z24 [.string p0] K w :=
 C_of (fn := Tryz.f195) (an := .auto) (args := [.v (.string p0)]) (by kernel_rfl) (by kernel_rfl) (by kernel_rfl) h
theorem zct : Enters Pr z24 := z0w (by kernel_rfl)
def z82 (p0 : ByteArray) (c0 : Addr) (K : Value → PT) : PT :=
 L.load eP6 c0 fun (x1 : Option Addr) =>
 L.call Pr zaC [.pointer x1, .string p0] rL fun (x2 : Sl) =>
 K (.slice x2.a x2.len x2.cap)
theorem zcC (p0 : ByteArray) (c0 : Addr) {K : Value → PT} {w : World} (h : z82 p0 c0 K w) : CT Pr z23 [.string p0, .pointer (some c0)] K w :=
 C_of (fn := Tryz.f196) (an := .auto) (args := [.v (.string p0), .v (.pointer (some c0))]) (by kernel_rfl) (by kernel_rfl) (by kernel_rfl) h
theorem zcs : Enters Pr z23 := z0w (by kernel_rfl)
def zhZ : Ann := (.seq .auto (.seq .auto (.seq (.seq .auto (.one [(5, (.one (.slice))), (12, (.one (.int .i64)))] (.seq .auto (.seq .auto (.seq .auto .auto (some [(5, (.one (.slice)))])) none) none)) none) .auto none) none) none)
def zdm (p0 : Option Addr) (p1 : ByteArray) (K : Value → PT) : PT :=
 L.call Pr z1p [.pointer p0, .string p1] rL fun (x1 : Sl) =>
 L.loop (Y := Sl × Int × Unit) (⟨none, 0, 0⟩, 0, ()) fun y2 again3 =>
 L.ite (decide (y2.2.1 < ((x1.len : Nat) : Int))) (
  L.join (Y := Sl × Unit) (fun k4 =>
   L.idx x1.a y2.2.1 x1.len 3 fun a6 =>
   L.load (.agg [.int .i64, .int .i64, .int .i64]) a6 fun (x7 : Int × Int × Int × Unit) =>
   L.new [.int .i64 0, .int .i64 0, .int .i64 0] z0N fun b8 =>
   L.store (⟨b8, 0, none⟩) [.int .i64 x7.1, .int .i64 x7.2.1, .int .i64 x7.2.2.1] <|
   L.load eI6 ((⟨b8, 0, none⟩ : Addr).add 1) fun (x9 : Int) =>
   L.ite (x9 == 1) (
    L.load eI6 ((⟨b8, 0, none⟩ : Addr).add 0) fun (x10 : Int) =>
    L.new [.int .i64 6, .string s_, .string s_, .int .i64 x10, .int .i64 0, .string s_, .int .i64 0, .int .i64 0, .int .i64 0, .int .i64 0, .int .i64 0, .string s_, .string s_, .slice none 0 0, .int .i64 0] z0p fun b11 =>
    L.sem Pr (.one (.one .slice)) (Builtin.append_ #[z2H, z2H] z2H #[.slice y2.1.a y2.1.len y2.1.cap, .slice (some ⟨b11, 0, none⟩) 1 1]) fun (s12 : Sl) =>
    k4 (⟨s12.a, s12.len, s12.cap⟩, ())) <|
   k4 (⟨y2.1.a, y2.1.len, y2.1.cap⟩, ())) fun z5 =>
  again3 (⟨z5.1.a, z5.1.len, z5.1.cap⟩, IntKind.wrap .i64 (y2.2.1 + 1), ())) <|
 K (.slice y2.1.a y2.1.len y2.1.cap)
theorem zhW (p0 : Option Addr) (p1 : ByteArray) {K : Value → PT} {w : World} (h : zdm p0 p1 K w) : CT Pr zaC [.pointer p0, .string p1] K w :=
 C_of (fn := Tryz.f197) (an := zhZ) (args := [.v (.pointer p0), .v (.string p1)]) (by kernel_rfl) (by kernel_rfl) (by kernel_rfl) h
def z81 (p0 : ByteArray) (c0 : Addr) (K : Value → PT) : PT :=
 L.load eP6 c0 fun (x1 : Option Addr) =>
 L.call Pr z7I [.pointer x1, .string p0] rL fun (x2 : Sl) =>
 K (.slice x2.a x2.len x2.cap)
theorem zcB (p0 : ByteArray) (c0 : Addr) {K : Value → PT} {w : World} (h : z81 p0 c0 K w) : CT Pr z22 [.string p0, .pointer (some c0)] K w :=
 C_of (fn := Tryz.f198) (an := .auto) (args := [.v (.string p0), .v (.pointer (some c0))]) (by kernel_rfl) (by kernel_rfl) (by kernel_rfl) h
theorem zcr : Enters Pr z22 := z0w (by kernel_rfl)
def zfn : Ann := (.seq .auto (.seq .auto (.seq .auto (.seq (.seq .auto (.one [(5, (.one (.slice))), (18, (.one (.int .i64)))] .auto) none) .auto none) none) none) none)
def zbc (p0 : Option Addr) (p1 : ByteArray) (K : Value → PT) : PT :=
 L.call Pr z2V [.pointer p0, .string p1] (.tup [eL6, eL6]) fun (x1 : Sl × Sl × Unit) =>
 L.loop (Y := Sl × Int × Unit) (⟨none, 0, 0⟩, 0, ()) fun y2 again3 =>
 L.ite (decide (y2.2.1 < ((x1.2.1.len : Nat) : Int))) (
  L.idx x1.2.1.a y2.2.1 x1.2.1.len 1 fun a4 =>
  L.load eI6 a4 fun (x5 : Int) =>
  L.new [.int .i64 5, .string s_, .string s_, .int .i64 x5, .int .i64 0, .string s_, .int .i64 0, .int .i64 0, .int .i64 0, .int .i64 0, .int .i64 0, .string s_, .string s_, .slice none 0 0, .int .i64 0] z0p fun b6 =>
  L.sem Pr (.one (.one .slice)) (Builtin.append_ #[z2H, z2H] z2H #[.slice y2.1.a y2.1.len y2.1.cap, .slice (some ⟨b6, 0, none⟩) 1 1]) fun (s7 : Sl) =>
  again3 (⟨s7.a, s7.len, s7.cap⟩, IntKind.wrap .i64 (y2.2.1 + 1), ())) <|
 K (.slice y2.1.a y2.1.len y2.1.cap)
theorem zfj (p0 : Option Addr) (p1 : ByteArray) {K : Value → PT} {w : World} (h : zbc p0 p1 K w) : CT Pr z7I [.pointer p0, .string p1] K w :=
 C_of (fn := Tryz.f199) (an := zfn) (args := [.v (.pointer p0), .v (.string p1)]) (by kernel_rfl) (by kernel_rfl) (by kernel_rfl) h
def zcI : Ann := (.seq (.seq .auto (.one [(12, (.one (.int .i64)))] (.seq .auto (.seq .auto (.seq (.seq .auto (.seq .auto (.one [(19, (.one (.int .i64)))] (.seq .auto (.seq .auto (.seq (.seq .auto (.seq .auto (.one [(27, (.one (.int .i64)))] .auto) none) none) .auto none) none) none)) none) none) .auto none) none) none)) none) .auto none)
def z5R (p0 : FV) (c0 : Addr) (c1 : Addr) (K : Value → PT) : PT :=
 L.load eL6 c0 fun (x1 : Sl) =>
 L.loop (Y := Int × Unit) (0, ()) fun y2 again3 =>
 L.ite (decide (y2.1 < ((x1.len : Nat) : Int))) (
  L.idx x1.a y2.1 x1.len 1 fun a4 =>
  L.load (.one (.func)) a4 fun (x5 : FV) =>
  L.load eP6 c1 fun (x6 : Option Addr) =>
  L.call Pr z1y [.pointer x6] rL fun (x7 : Sl) =>
  L.loop (Y := Int × Unit) (0, ()) fun y8 again9 =>
  L.ite (decide (y8.1 < ((x7.len : Nat) : Int))) (
   L.idx x7.a y8.1 x7.len 1 fun a10 =>
   L.load eS6 a10 fun (x11 : ByteArray) =>
   L.callV Pr (.func x5.fn x5.fs x5.cs) [.string x11] rL fun (x12 : Sl) =>
   L.loop (Y := Int × Unit) (0, ()) fun y13 again14 =>
   L.ite (decide (y13.1 < ((x12.len : Nat) : Int))) (
    L.idx x12.a y13.1 x12.len 15 fun a15 =>
    L.load (.agg lf1) a15 fun (x16 : pt1) =>
    L.new [.int .i64 0, .string s_, .string s_, .int .i64 0, .int .i64 0, .string s_, .int .i64 0, .int .i64 0, .int .i64 0, .int .i64 0, .int .i64 0, .string s_, .string s_, .slice none 0 0, .int .i64 0] z0p fun b17 =>
    L.store (⟨b17, 0, none⟩) [.int .i64 x16.1, .string x16.2.1, .string x16.2.2.1, .int .i64 x16.2.2.2.1, .int .i64 x16.2.2.2.2.1, .string x16.2.2.2.2.2.1, .int .i64 x16.2.2.2.2.2.2.1, .int .i64 x16.2.2.2.2.2.2.2.1, .int .i64 x16.2.2.2.2.2.2.2.2.1, .int .i64 x16.2.2.2.2.2.2.2.2.2.1, .int .i64 x16.2.2.2.2.2.2.2.2.2.2.1, .string x16.2.2.2.2.2.2.2.2.2.2.2.1, .string x16.2.2.2.2.2.2.2.2.2.2.2.2.1, .slice x16.2.2.2.2.2.2.2.2.2.2.2.2.2.1.a x16.2.2.2.2.2.2.2.2.2.2.2.2.2.1.len x16.2.2.2.2.2.2.2.2.2.2.2.2.2.1.cap, .int .i64 x16.2.2.2.2.2.2.2.2.2.2.2.2.2.2.1] <|
    L.load (.agg lf1) (⟨b17, 0, none⟩) fun (x18 : pt1) =>
    L.callV Pr (.func p0.fn p0.fs p0.cs) [(qa1 x18)] rB fun (x19 : Bool) =>
    L.ite (!x19) (
     K (.tuple #[])) <|
    again14 (IntKind.wrap .i64 (y13.1 + 1), ())) <|
   again9 (IntKind.wrap .i64 (y8.1 + 1), ())) <|
  again3 (IntKind.wrap .i64 (y2.1 + 1), ())) <|
 L.callV Pr (.func p0.fn p0.fs p0.cs) [.agg #[.int .i64 9, .string s_, .string s_, .int .i64 0, .int .i64 0, .string s_, .int .i64 0, .int .i64 0, .int .i64 0, .int .i64 0, .int .i64 0, .string s_, .string s_, .slice none 0 0, .int .i64 0]] rB fun (x20 : Bool) =>
 K (.tuple #[])
theorem z8i (p0 : FV) (c0 : Addr) (c1 : Addr) {K : Value → PT} {w : World} (h : z5R p0 c0 c1 K w) : CT Pr z1Z [.func p0.fn p0.fs p0.cs, .pointer (some c0), .pointer (some c1)] K w :=
 C_of (fn := Tryz.f200) (an := zcI) (args := [.v (.func p0.fn p0.fs p0.cs), .v (.pointer (some c0)), .v (.pointer (some c1))]) (by kernel_rfl) (by kernel_rfl) (by kernel_rfl) h
theorem z8a : Enters Pr z1Z := z0w (by kernel_rfl)
def zb9 (p0 : Int) (K : Value → PT) : PT :=
 L.call Pr z4N [.int .i32 p0] rB fun (x1 : Bool) =>
 L.ite x1 (
  K (.bool true)) <|
 L.ite (decide (p0 ≥ 48)) (
  L.ite (decide (p0 ≤ 57)) (
   K (.bool true)) <|
  K (.bool (p0 == 45))) <|
 K (.bool (p0 == 45))
theorem zfg (p0 : Int) {K : Value → PT} {w : World} (h : zb9 p0 K w) : CT Pr z7H [.int .i32 p0] K w :=
 C_of (fn := Tryz.f203) (an := .auto) (args := [.v (.int .i32 p0)]) (by kernel_rfl) (by kernel_rfl) (by kernel_rfl) h
def z8X (p0 : Int) (K : Value → PT) : PT :=
 L.ite (decide (p0 ≥ 97)) (
  K (.bool (decide (p0 ≤ 122)))) <|
 K (.bool false)
theorem zcO (p0 : Int) {K : Value → PT} {w : World} (h : z8X p0 K w) : CT Pr z4N [.int .i32 p0] K w :=
 C_of (fn := Tryz.f204) (an := .auto) (args := [.v (.int .i32 p0)]) (by kernel_rfl) (by kernel_rfl) (by kernel_rfl) h
def z1l (p0 : Sl) (p1 : FV) (K : Value → PT) : PT :=
 L.call Pr z1w [.slice p0.a p0.len p0.cap, .func p1.fn p1.fs p1.cs] rI fun (x1 : Int) =>
 K (.bool (decide (x1 ≥ 0)))
theorem z2K (p0 : Sl) (p1 : FV) {K : Value → PT} {w : World} (h : z1l p0 p1 K w) : CT Pr z0P [.slice p0.a p0.len p0.cap, .func p1.fn p1.fs p1.cs] K w :=
 C_of (fn := Tryz.f205) (an := .auto) (args := [.v (.slice p0.a p0.len p0.cap), .v (.func p1.fn p1.fs p1.cs)]) (by kernel_rfl) (by kernel_rfl) (by kernel_rfl) h
def zb5 (p0 : HT [.str, .str, .int .i64]) (c0 : Addr) (K : Value → PT) : PT :=
 L.new [.string p0.1, .string p0.2.1, .int .i64 p0.2.2.1] z0O fun b1 =>
 L.load eS6 ((⟨b1, 0, none⟩ : Addr).add 1) fun (x2 : ByteArray) =>
 L.load eS6 (c0.add 1) fun (x3 : ByteArray) =>
 K (.bool (x2.toList == x3.toList))
theorem zfc (p0 : HT [.str, .str, .int .i64]) (c0 : Addr) {K : Value → PT} {w : World} (h : zb5 p0 c0 K w) : CT Pr z45 [(.ag [.string p0.1, .string p0.2.1, .int .i64 p0.2.2.1] : SV).toV, .pointer (some c0)] K w :=
 C_of (fn := Tryz.f206) (an := .auto) (args := [.ag [.string p0.1, .string p0.2.1, .int .i64 p0.2.2.1], .v (.pointer (some c0))]) (by kernel_rfl) (by kernel_rfl) (by kernel_rfl) h
theorem zf8 : Enters Pr z45 := z0w (by kernel_rfl)
def zas : Ann := (.seq .auto (.seq .auto (.seq .auto (.seq (.seq .auto (.seq .auto .auto (some [(28, (.one (.int .i64))), (29, (.one (.ptr)))])) none) (.seq .auto (.seq (.seq .auto (.one [(41, (.one (.int .i64)))] .auto) none) .auto none) none) none) none) none) none)
def z6i (p0 : Option Addr) (p1 : ByteArray) (p2 : Int) (K : Value → PT) : PT :=
 L.nonnil p0 fun a1 =>
 L.load (.one (.map)) (a1.add 1) fun (x2 : Option Nat) =>
 L.semR Pr (.tup [eI6, .one .bool]) (Instr.lookup z5n (.map x2) (.int .i64 p2) true) fun (x3 : Int × Bool × Unit) =>
 L.ite x3.2.1 (
  K (.tuple #[.int .i64 0, .bool false])) <|
 L.new [.slice none 0 0] z0L fun b4 =>
 L.call Pr z2k [.pointer p0, .string p1] (.one (.one (.func))) fun (x5 : FV) =>
 L.range Pr none (.func x5.fn x5.fs x5.cs) [eI6, eP6] (fun l6 (y7 : Int × Option Addr × Unit) R8 =>
  L.begin Pr l6 <|
  L.draw <|
  L.load eL6 (⟨b4, 0, none⟩) fun (x11 : Sl) =>
  L.call Pr z1z [.pointer y7.2.1] rI fun (x12 : Int) =>
  L.chk (⟨b4, 0, none⟩) [.slice x11.a x11.len x11.cap] <|
  L.new [.int .i64 x12, .int .i64 y7.1] z04 fun b13 =>
  L.chk (⟨b4, 0, none⟩) [.slice x11.a x11.len x11.cap] <|
  L.sem Pr (.one (.one .slice)) (Builtin.append_ #[z0L, z0L] z0L #[.slice x11.a x11.len x11.cap, .slice (some ⟨b13, 0, none⟩) 1 1]) fun (s14 : Sl) =>
  L.store (⟨b4, 0, none⟩) [.slice s14.a s14.len s14.cap] <|
  L.endRound Pr l6 none R8) fun d9 j10 =>
 L.jump j10 (
  L.load eL6 (⟨b4, 0, none⟩) fun (x15 : Sl) =>
  L.call Pr z0u [.slice x15.a x15.len x15.cap, .func (.func z0q) #[] #[]] (.tup []) fun (x16 : Unit) =>
  L.load eL6 (⟨b4, 0, none⟩) fun (x17 : Sl) =>
  L.loop (Y := Int × Unit) (0, ()) fun y18 again19 =>
  L.ite (decide (y18.1 < ((x17.len : Nat) : Int))) (
   L.idx x17.a y18.1 x17.len 2 fun a20 =>
   L.load (.agg [.int .i64, .int .i64]) a20 fun (x21 : Int × Int × Unit) =>
   L.new [.int .i64 0, .int .i64 0] z04 fun b22 =>
   L.store (⟨b22, 0, none⟩) [.int .i64 x21.1, .int .i64 x21.2.1] <|
   L.draw <|
   L.nonnil p0 fun a23 =>
   L.load (.one (.map)) (a23.add 0) fun (x24 : Option Nat) =>
   L.load eI6 ((⟨b22, 0, none⟩ : Addr).add 1) fun (x25 : Int) =>
   L.semR Pr (.one (.agg [.str, .ptr])) (Instr.lookup z0o (.map x24) (.int .i64 x25) false) fun (x26 : ByteArray × Option Addr × Unit) =>
   L.call Pr z4M [.pointer x26.2.1, .int .i64 p2] rI fun (x27 : Int) =>
   L.ite (x27 == 0) (
    L.draw <|
    L.nonnil p0 fun a28 =>
    L.load (.one (.map)) (a28.add 1) fun (x29 : Option Nat) =>
    L.load eI6 ((⟨b22, 0, none⟩ : Addr).add 1) fun (x30 : Int) =>
    L.semU Pr (Instr.mapUpdate z5n (.map x29) (.int .i64 p2) (.int .i64 x30)) <|
    L.load eI6 ((⟨b22, 0, none⟩ : Addr).add 1) fun (x31 : Int) =>
    L.unmark Pr (d9 ++ []) <|
    K (.tuple #[.int .i64 x31, .bool true])) <|
   again19 (IntKind.wrap .i64 (y18.1 + 1), ())) <|
  L.unmark Pr (d9 ++ []) <|
  K (.tuple #[.int .i64 0, .bool false])) (
  L.unmark Pr (d9 ++ []) <|
  K (.tuple #[.int .i64 0, .bool false])) []
theorem zak (p0 : Option Addr) (p1 : ByteArray) (p2 : Int) {K : Value → PT} {w : World} (h : z6i p0 p1 p2 K w) : CT Pr z4j [.pointer p0, .string p1, .int .i64 p2] K w :=
 C_of (fn := Tryz.f214) (an := zas) (args := [.v (.pointer p0), .v (.string p1), .v (.int .i64 p2)]) (by kernel_rfl) (by kernel_rfl) (by kernel_rfl) h
def zbz : Ann := (.seq .auto (.one [(7, (.one (.int .i64)))] .auto) none)
def z7g (p0 : FV) (c0 : Addr) (K : Value → PT) : PT :=
 L.load eL6 c0 fun (x1 : Sl) =>
 L.loop (Y := Int × Unit) (0, ()) fun y2 again3 =>
 L.ite (decide (y2.1 < ((x1.len : Nat) : Int))) (
  L.idx x1.a y2.1 x1.len 4 fun a4 =>
  L.load (.agg [.int .i64, .int .i64, .int .i64, .str]) a4 fun (x5 : pt10) =>
  L.new [.int .i64 0, .int .i64 0, .int .i64 0, .string s_] z0z fun b6 =>
  L.store (⟨b6, 0, none⟩) [.int .i64 x5.1, .int .i64 x5.2.1, .int .i64 x5.2.2.1, .string x5.2.2.2.1] <|
  L.load (.agg [.int .i64, .int .i64, .int .i64, .str]) (⟨b6, 0, none⟩) fun (x7 : pt10) =>
  L.call Pr z6N [.agg #[.int .i64 x7.1, .int .i64 x7.2.1, .int .i64 x7.2.2.1, .string x7.2.2.2.1]] rS fun (x8 : ByteArray) =>
  L.callV Pr (.func p0.fn p0.fs p0.cs) [.string x8] rB fun (x9 : Bool) =>
  L.ite (!x9) (
   K (.tuple #[])) <|
  again3 (IntKind.wrap .i64 (y2.1 + 1), ())) <|
 K (.tuple #[])
theorem zbn (p0 : FV) (c0 : Addr) {K : Value → PT} {w : World} (h : z7g p0 c0 K w) : CT Pr z2M [.func p0.fn p0.fs p0.cs, .pointer (some c0)] K w :=
 C_of (fn := Tryz.f216) (an := zbz) (args := [.v (.func p0.fn p0.fs p0.cs), .v (.pointer (some c0))]) (by kernel_rfl) (by kernel_rfl) (by kernel_rfl) h
theorem zbk : Enters Pr z2M := z0w (by kernel_rfl)
def ze9 : Ann := (.seq .auto (.seq .auto (.seq (.one [(2, (.one (.str)))] .auto) .auto none) none) none)
def z9Y (p0 : ht3) (K : Value → PT) : PT :=
 L.new [.int .i64 p0.1, .int .i64 p0.2.1, .int .i64 p0.2.2.1, .string p0.2.2.2.1] z0z fun b1 =>
 L.load eI6 ((⟨b1, 0, none⟩ : Addr).add 1) fun (x2 : Int) =>
 L.ite (x2 == 1) (
  L.load eI6 ((⟨b1, 0, none⟩ : Addr).add 0) fun (x3 : Int) =>
  L.load eI6 ((⟨b1, 0, none⟩ : Addr).add 2) fun (x4 : Int) =>
  L.new [.int .i64 x3, .int .i64 x4] z0i fun b5 =>
  L.call Pr z0d [.string zkG, .slice (some ⟨b5, 0, none⟩) 2 2] rS fun (x6 : ByteArray) =>
  K (.string x6)) <|
 L.ite (x2 == 2) (
  L.load eI6 ((⟨b1, 0, none⟩ : Addr).add 0) fun (x7 : Int) =>
  L.new [.int .i64 x7] z0i fun b8 =>
  L.call Pr z0d [.string zio, .slice (some ⟨b8, 0, none⟩) 1 1] rS fun (x9 : ByteArray) =>
  K (.string x9)) <|
 L.ite (x2 == 3) (
  L.load eI6 ((⟨b1, 0, none⟩ : Addr).add 0) fun (x10 : Int) =>
  L.new [.int .i64 x10] z0i fun b11 =>
  L.call Pr z0d [.string zkQ, .slice (some ⟨b11, 0, none⟩) 1 1] rS fun (x12 : ByteArray) =>
  K (.string x12)) <|
 L.join (Y := ByteArray × Unit) (fun k13 =>
  L.draw <|
  L.load eI6 ((⟨b1, 0, none⟩ : Addr).add 0) fun (x15 : Int) =>
  L.load eS6 ((⟨b1, 0, none⟩ : Addr).add 3) fun (x16 : ByteArray) =>
  L.alts [(
    L.new [.int .i64 x15] z0i fun b17 =>
    L.chk ((⟨b1, 0, none⟩ : Addr).add 3) [.string x16] <|
    L.alts [(
      L.call Pr z0d [.string s_refused, .slice (some ⟨b17, 0, none⟩) 1 1] rS fun (x18 : ByteArray) =>
      L.chk ((⟨b1, 0, none⟩ : Addr).add 3) [.string x16] <|
      L.new [.string x16] z01 fun b19 =>
      L.chk ((⟨b1, 0, none⟩ : Addr).add 0) [.int .i64 x15] <|
      L.call Pr z0f [.string x18, .slice (some ⟨b19, 0, none⟩) 1 1] rS fun (x20 : ByteArray) =>
      k13 (x20, ())),(
      L.new [.string x16] z01 fun b21 =>
      L.chk ((⟨b1, 0, none⟩ : Addr).add 0) [.int .i64 x15] <|
      L.call Pr z0d [.string s_refused, .slice (some ⟨b17, 0, none⟩) 1 1] rS fun (x22 : ByteArray) =>
      L.chk ((⟨b1, 0, none⟩ : Addr).add 3) [.string x16] <|
      L.call Pr z0f [.string x22, .slice (some ⟨b21, 0, none⟩) 1 1] rS fun (x23 : ByteArray) =>
      k13 (x23, ()))]),(
    L.new [.string x16] z01 fun b24 =>
    L.chk ((⟨b1, 0, none⟩ : Addr).add 0) [.int .i64 x15] <|
    L.new [.int .i64 x15] z0i fun b25 =>
    L.chk ((⟨b1, 0, none⟩ : Addr).add 3) [.string x16] <|
    L.call Pr z0d [.string s_refused, .slice (some ⟨b25, 0, none⟩) 1 1] rS fun (x26 : ByteArray) =>
    L.chk ((⟨b1, 0, none⟩ : Addr).add 3) [.string x16] <|
    L.call Pr z0f [.string x26, .slice (some ⟨b24, 0, none⟩) 1 1] rS fun (x27 : ByteArray) =>
    k13 (x27, ()))]) fun z14 =>
 K (.string z14.1)
theorem zdY (p0 : ht3) {K : Value → PT} {w : World} (h : z9Y p0 K w) : CT Pr z6N [(.ag (qc3 p0) : SV).toV] K w :=
 C_of (fn := Tryz.f217) (an := ze9) (args := [.ag (qc3 p0)]) (by kernel_rfl) (by kernel_rfl) (by kernel_rfl) h
def z5r : Ann := (.seq .auto (.one [(12, (.one (.int .i64)))] .auto) none)
def z38 (p0 : FV) (c0 : Addr) (K : Value → PT) : PT :=
 L.load eP6 c0 fun (x1 : Option Addr) =>
 L.nonnil x1 fun a2 =>
 L.load (.one (.map)) (a2.add 0) fun (x3 : Option Nat) =>
 L.call Pr z0E [.map x3] (.one (.one (.func))) fun (x4 : FV) =>
 L.call Pr z1t [.func x4.fn x4.fs x4.cs] rL fun (x5 : Sl) =>
 L.loop (Y := Int × Unit) (0, ()) fun y6 again7 =>
 L.ite (decide (y6.1 < ((x5.len : Nat) : Int))) (
  L.idx x5.a y6.1 x5.len 1 fun a8 =>
  L.load eS6 a8 fun (x9 : ByteArray) =>
  L.load eP6 c0 fun (x10 : Option Addr) =>
  L.nonnil x10 fun a11 =>
  L.load (.one (.map)) (a11.add 0) fun (x12 : Option Nat) =>
  L.semR Pr rP (Instr.lookup z0t (.map x12) (.string x9) false) fun (x13 : Option Addr) =>
  L.callV Pr (.func p0.fn p0.fs p0.cs) [.string x9, .pointer x13] rB fun (x14 : Bool) =>
  L.ite (!x14) (
   K (.tuple #[])) <|
  again7 (IntKind.wrap .i64 (y6.1 + 1), ())) <|
 K (.tuple #[])
theorem z5q (p0 : FV) (c0 : Addr) {K : Value → PT} {w : World} (h : z38 p0 c0 K w) : CT Pr z0W [.func p0.fn p0.fs p0.cs, .pointer (some c0)] K w :=
 C_of (fn := Tryz.f221) (an := z5r) (args := [.v (.func p0.fn p0.fs p0.cs), .v (.pointer (some c0))]) (by kernel_rfl) (by kernel_rfl) (by kernel_rfl) h
theorem z5o : Enters Pr z0W := z0w (by kernel_rfl)
def z13 (p0 : Option Nat) (K : Value → PT) : PT :=
 L.new [.map p0] z0t fun b1 =>
 K (.func (.func z0c) #[] #[.pointer (some (⟨b1, 0, none⟩))])
theorem z2i (p0 : Option Nat) {K : Value → PT} {w : World} (h : z13 p0 K w) : CT Pr z0E [.map p0] K w :=
 C_of (fn := Tryz.f222) (an := .auto) (args := [.v (.map p0)]) (by kernel_rfl) (by kernel_rfl) (by kernel_rfl) h
def z9o : Ann := (.seq .auto (.seq .auto (.seq .auto (.seq (.seq .auto (.seq .auto .auto (some [(11, (.one (.int .i64))), (12, (.one (.int .i64)))])) none) .auto none) none) none) none)
def z5J (p0 : Option Addr) (p1 : Int) (K : Value → PT) : PT :=
 L.new [.int .i64 p1] z0i fun b1 =>
 L.new [.slice none 0 0] z0X fun b2 =>
 L.new [.slice none 0 0] z1v fun b3 =>
 L.call Pr z1T [.pointer p0] (.one (.one (.func))) fun (x4 : FV) =>
 L.range Pr none (.func x4.fn x4.fs x4.cs) [eI6, eI6] (fun l5 (y6 : Int × Int × Unit) R7 =>
  L.begin Pr l5 <|
  L.load eI6 (⟨b1, 0, none⟩) fun (x10 : Int) =>
  L.ite (decide (y6.2.1 ≤ x10)) (
   L.load eL6 (⟨b2, 0, none⟩) fun (x11 : Sl) =>
   L.new [.int .i64 y6.1] z0i fun b12 =>
   L.sem Pr (.one (.one .slice)) (Builtin.append_ #[z0X, z0X] z0X #[.slice x11.a x11.len x11.cap, .slice (some ⟨b12, 0, none⟩) 1 1]) fun (s13 : Sl) =>
   L.store (⟨b2, 0, none⟩) [.slice s13.a s13.len s13.cap] <|
   L.endRound Pr l5 none R7) <|
  L.load eL6 (⟨b3, 0, none⟩) fun (x14 : Sl) =>
  L.new [.int .i64 y6.1, .int .i64 y6.2.1] z27 fun b15 =>
  L.sem Pr (.one (.one .slice)) (Builtin.append_ #[z1v, z1v] z1v #[.slice x14.a x14.len x14.cap, .slice (some ⟨b15, 0, none⟩) 1 1]) fun (s16 : Sl) =>
  L.store (⟨b3, 0, none⟩) [.slice s16.a s16.len s16.cap] <|
  L.endRound Pr l5 none R7) fun d8 j9 =>
 L.jump j9 (
  L.load eL6 (⟨b3, 0, none⟩) fun (x17 : Sl) =>
  L.nonnil p0 fun a18 =>
  L.store (a18.add 0) [.slice x17.a x17.len x17.cap] <|
  L.load eL6 (⟨b2, 0, none⟩) fun (x19 : Sl) =>
  L.call Pr z0J [.slice x19.a x19.len x19.cap] rL fun (x20 : Sl) =>
  L.unmark Pr (d8 ++ []) <|
  K (.slice x20.a x20.len x20.cap)) (
  L.unmark Pr (d8 ++ []) <|
  K (.slice none 0 0)) []
theorem z9f (p0 : Option Addr) (p1 : Int) {K : Value → PT} {w : World} (h : z5J p0 p1 K w) : CT Pr z5w [.pointer p0, .int .i64 p1] K w :=
 C_of (fn := Tryz.f223) (an := z9o) (args := [.v (.pointer p0), .v (.int .i64 p1)]) (by kernel_rfl) (by kernel_rfl) (by kernel_rfl) h
def z7c : Ann := (.seq .auto (.one [(3, (.one (.int .i64)))] .auto) none)
def z4s (p0 : FV) (c0 : Addr) (K : Value → PT) : PT :=
 L.loop (Y := Int × Unit) (1, ()) fun y1 again2 =>
 L.load eP6 c0 fun (x3 : Option Addr) =>
 L.nonnil x3 fun a4 =>
 L.load eI6 (a4.add 60) fun (x5 : Int) =>
 L.ite (decide (y1.1 ≤ (if 60 < x5 then 60 else x5))) (
  L.draw <|
  L.load eP6 c0 fun (x6 : Option Addr) =>
  L.load eP6 c0 fun (x7 : Option Addr) =>
  L.nonnil x7 fun a8 =>
  L.load eI6 (a8.add 60) fun (x9 : Int) =>
  L.guard (60 ≠ (0 : Int)) <|
  L.nonnil x6 fun a10 =>
  L.idx (some (a10.add 0)) (Int.tmod (IntKind.wrap .i64 (x9 - y1.1)) 60) 60 1 fun a11 =>
  L.load eI6 a11 fun (x12 : Int) =>
  L.callV Pr (.func p0.fn p0.fs p0.cs) [.int .i64 x12] rB fun (x13 : Bool) =>
  L.ite (!x13) (
   K (.tuple #[])) <|
  again2 (IntKind.wrap .i64 (y1.1 + 1), ())) <|
 K (.tuple #[])
theorem z79 (p0 : FV) (c0 : Addr) {K : Value → PT} {w : World} (h : z4s p0 c0 K w) : CT Pr z1j [.func p0.fn p0.fs p0.cs, .pointer (some c0)] K w :=
 C_of (fn := Tryz.f234) (an := z7c) (args := [.v (.func p0.fn p0.fs p0.cs), .v (.pointer (some c0))]) (by kernel_rfl) (by kernel_rfl) (by kernel_rfl) h
theorem z71 : Enters Pr z1j := z0w (by kernel_rfl)
def zec : Ann := (.seq .auto (.cond .auto .auto) none)
def za2 (p0 : Option Addr) (K : Value → PT) : PT :=
 L.nonnil p0 fun a1 =>
 L.load eI6 (a1.add 0) fun (x2 : Int) =>
 L.ite (x2 == 3) (
  L.call Pr z1z [.pointer p0] rI fun (x3 : Int) =>
  L.ite (x3 == 0) (
   L.nonnil p0 fun a4 =>
   L.store (a4.add 0) [.int .i64 4] <|
   K (.tuple #[])) <|
  K (.tuple #[])) <|
 K (.tuple #[])
theorem ze2 (p0 : Option Addr) {K : Value → PT} {w : World} (h : za2 p0 K w) : CT Pr z6P [.pointer p0] K w :=
 C_of (fn := Tryz.f235) (an := zec) (args := [.v (.pointer p0)]) (by kernel_rfl) (by kernel_rfl) (by kernel_rfl) h
def z8j : Ann := (.seq .auto (.one [(10, (.one (.int .i64)))] .auto) none)
def z4S (p0 : FV) (c0 : Addr) (K : Value → PT) : PT :=
 L.load eP6 c0 fun (x1 : Option Addr) =>
 L.nonnil x1 fun a2 =>
 L.load eL6 (a2.add 0) fun (x3 : Sl) =>
 L.loop (Y := Int × Unit) (0, ()) fun y4 again5 =>
 L.ite (decide (y4.1 < ((x3.len : Nat) : Int))) (
  L.idx x3.a y4.1 x3.len 2 fun a6 =>
  L.load (.agg [.int .i64, .int .i64]) a6 fun (x7 : Int × Int × Unit) =>
  L.new [.int .i64 0, .int .i64 0] z27 fun b8 =>
  L.store (⟨b8, 0, none⟩) [.int .i64 x7.1, .int .i64 x7.2.1] <|
  L.load eI6 ((⟨b8, 0, none⟩ : Addr).add 0) fun (x9 : Int) =>
  L.load eI6 ((⟨b8, 0, none⟩ : Addr).add 1) fun (x10 : Int) =>
  L.callV Pr (.func p0.fn p0.fs p0.cs) [.int .i64 x9, .int .i64 x10] rB fun (x11 : Bool) =>
  L.ite (!x11) (
   K (.tuple #[])) <|
  again5 (IntKind.wrap .i64 (y4.1 + 1), ())) <|
 K (.tuple #[])
theorem z8b (p0 : FV) (c0 : Addr) {K : Value → PT} {w : World} (h : z4S p0 c0 K w) : CT Pr z1G [.func p0.fn p0.fs p0.cs, .pointer (some c0)] K w :=
 C_of (fn := Tryz.f247) (an := z8j) (args := [.v (.func p0.fn p0.fs p0.cs), .v (.pointer (some c0))]) (by kernel_rfl) (by kernel_rfl) (by kernel_rfl) h
theorem z87 : Enters Pr z1G := z0w (by kernel_rfl)
def z5b (p0 : FV) (K : Value → PT) : PT :=
 L.call Pr z2h [.slice none 0 0, .func p0.fn p0.fs p0.cs] rL fun (x1 : Sl) =>
 K (.slice x1.a x1.len x1.cap)
theorem z8H (p0 : FV) {K : Value → PT} {w : World} (h : z5b p0 K w) : CT Pr z57 [.func p0.fn p0.fs p0.cs] K w :=
 C_of (fn := Tryz.f248) (an := .auto) (args := [.v (.func p0.fn p0.fs p0.cs)]) (by kernel_rfl) (by kernel_rfl) (by kernel_rfl) h
def z2y : Ann := (.seq .auto (.one [] (.seq .auto (.seq (.cond .auto .auto) .auto none) none)) none)
def z1i (p0 : FV) (c0 : Addr) (K : Value → PT) : PT :=
 L.load (.one (.map)) c0 fun (x1 : Option Nat) =>
 L.sem Pr (.one (.one .ptr)) (Instr.range z0o (.map x1)) fun (it2 : Option Addr) =>
 L.loop (Y := Unit) (()) fun y3 again4 =>
 L.next Pr [eI6, (.agg [.str, .ptr])] (Instr.next (.pointer it2) false T_) (
  K (.tuple #[])) fun (x5 : pt22) =>
 L.sem Pr (.tup [eI6, (.agg [.str, .ptr])]) (Instr.entry (.pointer it2)) fun (x6 : pt22) =>
 L.callV Pr (.func p0.fn p0.fs p0.cs) [.int .i64 x6.1] rB fun (x7 : Bool) =>
 L.ite (!x7) (
  K (.tuple #[])) <|
 again4 (())
theorem z2x (p0 : FV) (c0 : Addr) {K : Value → PT} {w : World} (h : z1i p0 c0 K w) : CT Pr z0h [.func p0.fn p0.fs p0.cs, .pointer (some c0)] K w :=
 C_of (fn := Tryz.f249) (an := z2y) (args := [.v (.func p0.fn p0.fs p0.cs), .v (.pointer (some c0))]) (by kernel_rfl) (by kernel_rfl) (by kernel_rfl) h
theorem z2w : Enters Pr z0h := z0w (by kernel_rfl)
def z4p (p0 : FV) (K : Value → PT) : PT :=
 L.call Pr z1s [.slice none 0 0, .func p0.fn p0.fs p0.cs] rL fun (x1 : Sl) =>
 K (.slice x1.a x1.len x1.cap)
theorem z74 (p0 : FV) {K : Value → PT} {w : World} (h : z4p p0 K w) : CT Pr z4f [.func p0.fn p0.fs p0.cs] K w :=
 C_of (fn := Tryz.f250) (an := .auto) (args := [.v (.func p0.fn p0.fs p0.cs)]) (by kernel_rfl) (by kernel_rfl) (by kernel_rfl) h
def z1E : Ann := (.seq .auto (.one [] (.seq .auto (.seq (.cond .auto .auto) .auto none) none)) none)
def z0M (p0 : FV) (c0 : Addr) (K : Value → PT) : PT :=
 L.load (.one (.map)) c0 fun (x1 : Option Nat) =>
 L.sem Pr (.one (.one .ptr)) (Instr.range z0k (.map x1)) fun (it2 : Option Addr) =>
 L.loop (Y := Unit) (()) fun y3 again4 =>
 L.next Pr [eS6, (.agg lf5)] (Instr.next (.pointer it2) false T_) (
  K (.tuple #[])) fun (x5 : pt23) =>
 L.sem Pr (.tup [eS6, (.agg lf5)]) (Instr.entry (.pointer it2)) fun (x6 : pt23) =>
 L.callV Pr (.func p0.fn p0.fs p0.cs) [.string x6.1] rB fun (x7 : Bool) =>
 L.ite (!x7) (
  K (.tuple #[])) <|
 again4 (())
theorem z1D (p0 : FV) (c0 : Addr) {K : Value → PT} {w : World} (h : z0M p0 c0 K w) : CT Pr z08 [.func p0.fn p0.fs p0.cs, .pointer (some c0)] K w :=
 C_of (fn := Tryz.f252) (an := z1E) (args := [.v (.func p0.fn p0.fs p0.cs), .v (.pointer (some c0))]) (by kernel_rfl) (by kernel_rfl) (by kernel_rfl) h
theorem z1C : Enters Pr z08 := z0w (by kernel_rfl)
def z3a : Ann := (.seq .auto (.seq (.seq .auto (.one [(8, (.one (.int .i64)))] .auto) none) .auto none) none)
def z1x (p0 : Sl) (p1 : FV) (K : Value → PT) : PT :=
 L.loop (Y := Int × Unit) (0, ()) fun y1 again2 =>
 L.ite (decide (y1.1 < ((p0.len : Nat) : Int))) (
  L.idx p0.a y1.1 p0.len 3 fun a3 =>
  L.load (.agg [.str, .str, .int .i64]) a3 fun (x4 : pt9) =>
  L.callV Pr (.func p1.fn p1.fs p1.cs) [.agg #[.string x4.1, .string x4.2.1, .int .i64 x4.2.2.1]] rB fun (x5 : Bool) =>
  L.ite x5 (
   K (.int .i64 y1.1)) <|
  again2 (IntKind.wrap .i64 (y1.1 + 1), ())) <|
 K (.int .i64 (-1))
theorem z39 (p0 : Sl) (p1 : FV) {K : Value → PT} {w : World} (h : z1x p0 p1 K w) : CT Pr z1w [.slice p0.a p0.len p0.cap, .func p1.fn p1.fs p1.cs] K w :=
 C_of (fn := Tryz.f257) (an := z3a) (args := [.v (.slice p0.a p0.len p0.cap), .v (.func p1.fn p1.fs p1.cs)]) (by kernel_rfl) (by kernel_rfl) (by kernel_rfl) h
def z0F (p0 : Sl) (p1 : FV) (K : Value → PT) : PT :=
 L.call Pr z1V [.slice p0.a p0.len p0.cap, .int .i64 ((p0.len : Nat) : Int), .func p1.fn p1.fs p1.cs] (.tup []) fun (x1 : Unit) =>
 K (.tuple #[])
theorem z15 (p0 : Sl) (p1 : FV) {K : Value → PT} {w : World} (h : z0F p0 p1 K w) : CT Pr z0u [.slice p0.a p0.len p0.cap, .func p1.fn p1.fs p1.cs] K w :=
 C_of (fn := Tryz.f264) (an := .auto) (args := [.v (.slice p0.a p0.len p0.cap), .v (.func p1.fn p1.fs p1.cs)]) (by kernel_rfl) (by kernel_rfl) (by kernel_rfl) h
def z5e (p0 : HT [.int .i64, .int .i64]) (p1 : HT [.int .i64, .int .i64]) (K : Value → PT) : PT :=
 L.new [.int .i64 p0.1, .int .i64 p0.2.1] z04 fun b1 =>
 L.new [.int .i64 p1.1, .int .i64 p1.2.1] z04 fun b2 =>
 L.load eI6 ((⟨b1, 0, none⟩ : Addr).add 0) fun (x3 : Int) =>
 L.load eI6 ((⟨b2, 0, none⟩ : Addr).add 0) fun (x4 : Int) =>
 K (.int .i64 (IntKind.wrap .i64 (x3 - x4)))
theorem z8K (p0 : HT [.int .i64, .int .i64]) (p1 : HT [.int .i64, .int .i64]) {K : Value → PT} {w : World} (h : z5e p0 p1 K w) : CT Pr z0q [(.ag [.int .i64 p0.1, .int .i64 p0.2.1] : SV).toV, (.ag [.int .i64 p1.1, .int .i64 p1.2.1] : SV).toV] K w :=
 C_of (fn := Tryz.f265) (an := .auto) (args := [.ag [.int .i64 p0.1, .int .i64 p0.2.1], .ag [.int .i64 p1.1, .int .i64 p1.2.1]]) (by kernel_rfl) (by kernel_rfl) (by kernel_rfl) h
theorem z8C : Enters Pr z0q := z0w (by kernel_rfl)
def z8W (p0 : Option Addr) (p1 : Int) (K : Value → PT) : PT :=
 L.nonnil p0 fun a1 =>
 L.load eI6 (a1.add 0) fun (x2 : Int) =>
 L.ite (x2 != 2) (
  K (.int .i64 9)) <|
 L.nonnil p0 fun a3 =>
 L.call Pr z6v [.pointer (some (a3.add 1)), .int .i64 p1] rI fun (x4 : Int) =>
 K (.int .i64 x4)
theorem zcN (p0 : Option Addr) (p1 : Int) {K : Value → PT} {w : World} (h : z8W p0 p1 K w) : CT Pr z4M [.pointer p0, .int .i64 p1] K w :=
 C_of (fn := Tryz.f266) (an := .auto) (args := [.v (.pointer p0), .v (.int .i64 p1)]) (by kernel_rfl) (by kernel_rfl) (by kernel_rfl) h
def z2d : Ann := (.seq .auto (.one [] (.seq .auto (.seq (.cond .auto .auto) .auto none) none)) none)
def z0Z (p0 : FV) (c0 : Addr) (K : Value → PT) : PT :=
 L.load (.one (.map)) c0 fun (x1 : Option Nat) =>
 L.sem Pr (.one (.one .ptr)) (Instr.range z0t (.map x1)) fun (it2 : Option Addr) =>
 L.loop (Y := Unit) (()) fun y3 again4 =>
 L.next Pr [eS6, eP6] (Instr.next (.pointer it2) false T_) (
  K (.tuple #[])) fun (x5 : ByteArray × Option Addr × Unit) =>
 L.sem Pr (.tup [eS6, eP6]) (Instr.entry (.pointer it2)) fun (x6 : ByteArray × Option Addr × Unit) =>
 L.callV Pr (.func p0.fn p0.fs p0.cs) [.string x6.1] rB fun (x7 : Bool) =>
 L.ite (!x7) (
  K (.tuple #[])) <|
 again4 (())
theorem z2c (p0 : FV) (c0 : Addr) {K : Value → PT} {w : World} (h : z0Z p0 c0 K w) : CT Pr z0c [.func p0.fn p0.fs p0.cs, .pointer (some c0)] K w :=
 C_of (fn := Tryz.f268) (an := z2d) (args := [.v (.func p0.fn p0.fs p0.cs), .v (.pointer (some c0))]) (by kernel_rfl) (by kernel_rfl) (by kernel_rfl) h
theorem z2a : Enters Pr z0c := z0w (by kernel_rfl)
def z61 : Ann := (.seq .auto (.seq (.seq .auto (.seq .auto .auto (some [(7, (.one (.int .i64)))])) none) .auto none) none)
def z3A (p0 : Sl) (p1 : FV) (K : Value → PT) : PT :=
 L.new [.slice p0.a p0.len p0.cap] z0X fun b1 =>
 L.range Pr none (.func p1.fn p1.fs p1.cs) [eI6] (fun l2 (y3 : Int × Unit) R4 =>
  L.begin Pr l2 <|
  L.load eL6 (⟨b1, 0, none⟩) fun (x7 : Sl) =>
  L.new [.int .i64 y3.1] z0i fun b8 =>
  L.sem Pr (.one (.one .slice)) (Builtin.append_ #[z0X, z0X] z0X #[.slice x7.a x7.len x7.cap, .slice (some ⟨b8, 0, none⟩) 1 1]) fun (s9 : Sl) =>
  L.store (⟨b1, 0, none⟩) [.slice s9.a s9.len s9.cap] <|
  L.endRound Pr l2 none R4) fun d5 j6 =>
 L.jump j6 (
  L.load eL6 (⟨b1, 0, none⟩) fun (x10 : Sl) =>
  L.unmark Pr (d5 ++ []) <|
  K (.slice x10.a x10.len x10.cap)) (
  L.unmark Pr (d5 ++ []) <|
  K (.slice none 0 0)) []
theorem z5Z (p0 : Sl) (p1 : FV) {K : Value → PT} {w : World} (h : z3A p0 p1 K w) : CT Pr z2h [.slice p0.a p0.len p0.cap, .func p1.fn p1.fs p1.cs] K w :=
 C_of (fn := Tryz.f282) (an := z61) (args := [.v (.slice p0.a p0.len p0.cap), .v (.func p1.fn p1.fs p1.cs)]) (by kernel_rfl) (by kernel_rfl) (by kernel_rfl) h
def z4x : Ann := (.seq .auto (.seq (.seq .auto (.seq .auto .auto (some [(7, (.one (.str)))])) none) .auto none) none)
def z2t (p0 : Sl) (p1 : FV) (K : Value → PT) : PT :=
 L.new [.slice p0.a p0.len p0.cap] z05 fun b1 =>
 L.range Pr none (.func p1.fn p1.fs p1.cs) [eS6] (fun l2 (y3 : ByteArray × Unit) R4 =>
  L.begin Pr l2 <|
  L.load eL6 (⟨b1, 0, none⟩) fun (x7 : Sl) =>
  L.new [.string y3.1] z01 fun b8 =>
  L.sem Pr (.one (.one .slice)) (Builtin.append_ #[z05, z05] z05 #[.slice x7.a x7.len x7.cap, .slice (some ⟨b8, 0, none⟩) 1 1]) fun (s9 : Sl) =>
  L.store (⟨b1, 0, none⟩) [.slice s9.a s9.len s9.cap] <|
  L.endRound Pr l2 none R4) fun d5 j6 =>
 L.jump j6 (
  L.load eL6 (⟨b1, 0, none⟩) fun (x10 : Sl) =>
  L.unmark Pr (d5 ++ []) <|
  K (.slice x10.a x10.len x10.cap)) (
  L.unmark Pr (d5 ++ []) <|
  K (.slice none 0 0)) []
theorem z4w (p0 : Sl) (p1 : FV) {K : Value → PT} {w : World} (h : z2t p0 p1 K w) : CT Pr z1s [.slice p0.a p0.len p0.cap, .func p1.fn p1.fs p1.cs] K w :=
 C_of (fn := Tryz.f283) (an := z4x) (args := [.v (.slice p0.a p0.len p0.cap), .v (.func p1.fn p1.fs p1.cs)]) (by kernel_rfl) (by kernel_rfl) (by kernel_rfl) h
def z40 : Ann := (.seq .auto (.seq .auto (.seq (.one [(7, (.one (.int .i64))), (8, (.one (.int .i64)))] .auto) (.seq .auto (.one [(6, (.one (.int .i64)))] (.seq .auto (.seq .auto (.seq (.one [(7, (.one (.int .i64))), (8, (.one (.int .i64)))] .auto) (.seq .auto .auto (some [])) none) none) none)) none) none) none) none)
def z1f (p0 : Sl) (p1 : Int) (p2 : FV) (K : Value → PT) : PT :=
 L.loop (Y := Int × Int × Unit) (0, 20, ()) fun y1 again2 =>
 L.ite (decide (y1.2.1 ≤ p1)) (
  L.call Pr z0D [.slice p0.a p0.len p0.cap, .int .i64 y1.1, .int .i64 y1.2.1, .func p2.fn p2.fs p2.cs] (.tup []) fun (x3 : Unit) =>
  again2 (y1.2.1, IntKind.wrap .i64 (y1.2.1 + 20), ())) <|
 L.call Pr z0D [.slice p0.a p0.len p0.cap, .int .i64 y1.1, .int .i64 p1, .func p2.fn p2.fs p2.cs] (.tup []) fun (x4 : Unit) =>
 L.loop (Y := Int × Unit) (20, ()) fun y5 again6 =>
 L.ite (decide (y5.1 < p1)) (
  L.loop (Y := Int × Int × Unit) (0, IntKind.wrap .i64 (2 * y5.1), ()) fun y7 again8 =>
  L.ite (decide (y7.2.1 ≤ p1)) (
   L.call Pr z09 [.slice p0.a p0.len p0.cap, .int .i64 y7.1, .int .i64 (IntKind.wrap .i64 (y7.1 + y5.1)), .int .i64 y7.2.1, .func p2.fn p2.fs p2.cs] (.tup []) fun (x9 : Unit) =>
   again8 (y7.2.1, IntKind.wrap .i64 (y7.2.1 + (IntKind.wrap .i64 (2 * y5.1))), ())) <|
  L.join (Y := Unit) (fun k10 =>
   L.ite (decide ((IntKind.wrap .i64 (y7.1 + y5.1)) < p1)) (
    L.call Pr z09 [.slice p0.a p0.len p0.cap, .int .i64 y7.1, .int .i64 (IntKind.wrap .i64 (y7.1 + y5.1)), .int .i64 p1, .func p2.fn p2.fs p2.cs] (.tup []) fun (x12 : Unit) =>
    k10 (())) <|
   k10 (())) fun z11 =>
  again6 (IntKind.wrap .i64 (y5.1 * 2), ())) <|
 K (.tuple #[])
theorem z2b (p0 : Sl) (p1 : Int) (p2 : FV) {K : Value → PT} {w : World} (h : z1f p0 p1 p2 K w) : CT Pr z1V [.slice p0.a p0.len p0.cap, .int .i64 p1, .func p2.fn p2.fs p2.cs] K w :=
 C_of (fn := Tryz.f295) (an := z40) (args := [.v (.slice p0.a p0.len p0.cap), .v (.int .i64 p1), .v (.func p2.fn p2.fs p2.cs)]) (by kernel_rfl) (by kernel_rfl) (by kernel_rfl) h
def z6F (p0 : Option Addr) (p1 : Int) (K : Value → PT) : PT :=
 L.nonnil p0 fun a1 =>
 L.load (.one (.map)) (a1.add 0) fun (x2 : Option Nat) =>
 L.semR Pr rB (Instr.lookup z2T (.map x2) (.int .i64 p1) false) fun (x3 : Bool) =>
 L.ite x3 (
  K (.int .i64 5)) <|
 L.draw <|
 L.nonnil p0 fun a4 =>
 L.load (.one (.map)) (a4.add 0) fun (x5 : Option Nat) =>
 L.semR Pr rI (Builtin.len_ #[z2T] z0i #[.map x5]) fun (x6 : Int) =>
 L.nonnil p0 fun a7 =>
 L.load eI6 (a7.add 1) fun (x8 : Int) =>
 L.ite (decide (x6 ≥ x8)) (
  K (.int .i64 8)) <|
 L.nonnil p0 fun a9 =>
 L.load (.one (.map)) (a9.add 0) fun (x10 : Option Nat) =>
 L.semU Pr (Instr.mapUpdate z2T (.map x10) (.int .i64 p1) (.bool true)) <|
 K (.int .i64 0)
theorem zaQ (p0 : Option Addr) (p1 : Int) {K : Value → PT} {w : World} (h : z6F p0 p1 K w) : CT Pr z6v [.pointer p0, .int .i64 p1] K w :=
 C_of (fn := Tryz.f296) (an := .auto) (args := [.v (.pointer p0), .v (.int .i64 p1)]) (by kernel_rfl) (by kernel_rfl) (by kernel_rfl) h
def z2Q : Ann := (.seq .auto (.one [(8, (.one (.int .i64)))] (.seq .auto (.seq (.seq .auto (.one [(9, (.one (.int .i64)))] (.seq (.seq .auto (.cond .auto .auto) none) .auto none)) none) .auto (some [])) none)) none)
def z1q (p0 : Sl) (p1 : Int) (p2 : Int) (p3 : FV) (K : Value → PT) : PT :=
 L.loop (Y := Int × Unit) (IntKind.wrap .i64 (p1 + 1), ()) fun y1 again2 =>
 L.ite (decide (y1.1 < p2)) (
  L.join (Y := Unit) (fun k3 =>
   L.loop (Y := Int × Unit) (y1.1, ()) fun y5 again6 =>
   L.draw <|
   L.ite (decide (y5.1 > p1)) (
    L.idx p0.a y5.1 p0.len 2 fun a7 =>
    L.load (.agg [.int .i64, .int .i64]) a7 fun (x8 : Int × Int × Unit) =>
    L.idx p0.a (IntKind.wrap .i64 (y5.1 - 1)) p0.len 2 fun a9 =>
    L.load (.agg [.int .i64, .int .i64]) a9 fun (x10 : Int × Int × Unit) =>
    L.callV Pr (.func p3.fn p3.fs p3.cs) [.agg #[.int .i64 x8.1, .int .i64 x8.2.1], .agg #[.int .i64 x10.1, .int .i64 x10.2.1]] rI fun (x11 : Int) =>
    L.ite (decide (x11 < 0)) (
     L.draw <|
     L.idx p0.a (IntKind.wrap .i64 (y5.1 - 1)) p0.len 2 fun a12 =>
     L.load (.agg [.int .i64, .int .i64]) a12 fun (x13 : Int × Int × Unit) =>
     L.idx p0.a y5.1 p0.len 2 fun a14 =>
     L.load (.agg [.int .i64, .int .i64]) a14 fun (x15 : Int × Int × Unit) =>
     L.idx p0.a y5.1 p0.len 2 fun a16 =>
     L.store a16 [.int .i64 x13.1, .int .i64 x13.2.1] <|
     L.idx p0.a (IntKind.wrap .i64 (y5.1 - 1)) p0.len 2 fun a17 =>
     L.store a17 [.int .i64 x15.1, .int .i64 x15.2.1] <|
     again6 (IntKind.wrap .i64 (y5.1 - 1), ())) <|
    k3 (())) <|
   k3 (())) fun z4 =>
  again2 (IntKind.wrap .i64 (y1.1 + 1), ())) <|
 K (.tuple #[])
theorem z2P (p0 : Sl) (p1 : Int) (p2 : Int) (p3 : FV) {K : Value → PT} {w : World} (h : z1q p0 p1 p2 p3 K w) : CT Pr z0D [.slice p0.a p0.len p0.cap, .int .i64 p1, .int .i64 p2, .func p3.fn p3.fs p3.cs] K w :=
 C_of (fn := Tryz.f312) (an := z2Q) (args := [.v (.slice p0.a p0.len p0.cap), .v (.int .i64 p1), .v (.int .i64 p2), .v (.func p3.fn p3.fs p3.cs)]) (by kernel_rfl) (by kernel_rfl) (by kernel_rfl) h
def z3K : Ann := (.seq (.seq .auto (.cond (.seq .auto (.seq .auto (.seq (.one [(10, (.one (.int .i64))), (11, (.one (.int .i64)))] .auto) (.seq (.seq .auto (.one [(13, (.one (.int .i64)))] .auto) none) .auto none) none) none) none) .auto) none) (.seq (.seq .auto (.cond (.seq .auto (.seq .auto (.seq (.one [(14, (.one (.int .i64))), (15, (.one (.int .i64)))] .auto) (.seq (.seq .auto (.one [(17, (.one (.int .i64)))] .auto) none) .auto none) none) none) none) .auto) none) (.seq .auto (.seq .auto (.seq .auto (.seq .auto (.seq .auto (.seq (.one [(20, (.one (.int .i64))), (21, (.one (.int .i64)))] .auto) (.seq .auto (.seq (.seq .auto (.cond .auto .auto) none) (.seq (.seq .auto (.cond .auto .auto) none) (.seq .auto (.cond .auto .auto) none) (some [])) (some [])) none) none) none) (some [(20, (.one (.int .i64))), (21, (.one (.int .i64)))])) none) none) none) none) none)
end Go.Proofs.YtkmalcoocklikaaGreatDoor
