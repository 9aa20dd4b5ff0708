/- What is proved on the way to a statement of the seat, pressed (text AD). No conditions beyond those its theorems state. -/
import Derived.Test.YtmbidnhdfdnihaaGreatDoorVAC
import Derived.Test.YtmbidnhdfdnihaaGreatDoorProg
set_option linter.all false
namespace Go.Proofs.YtmbidnhdfdnihaaGreatDoor
set_option maxRecDepth 100000
open Go.Dm
abbrev ht0 := HT [.str, .int .i64, .int .i64, .int .i64, .int .i64, .int .i64]
abbrev ht1 := HT [.int .i64, .str, .str, .int .i64, .int .i64, .str, .int .i64, .int .i64, .int .i64, .int .i64, .int .i64, .str, .str, .slice, .int .i64]
abbrev ht2 := HT [.str, .str, .slice, .int .i64]
abbrev ht3 := HT [.int .i64, .int .i64, .int .i64, .str]
abbrev qc0 (p : ht0) : List Value := [.string p.1, .int .i64 p.2.1, .int .i64 p.2.2.1, .int .i64 p.2.2.2.1, .int .i64 p.2.2.2.2.1, .int .i64 p.2.2.2.2.2.1]
abbrev qc1 (p : ht1) : List Value := [.int .i64 p.1, .string p.2.1, .string p.2.2.1, .int .i64 p.2.2.2.1, .int .i64 p.2.2.2.2.1, .string p.2.2.2.2.2.1, .int .i64 p.2.2.2.2.2.2.1, .int .i64 p.2.2.2.2.2.2.2.1, .int .i64 p.2.2.2.2.2.2.2.2.1, .int .i64 p.2.2.2.2.2.2.2.2.2.1, .int .i64 p.2.2.2.2.2.2.2.2.2.2.1, .string p.2.2.2.2.2.2.2.2.2.2.2.1, .string p.2.2.2.2.2.2.2.2.2.2.2.2.1, .slice p.2.2.2.2.2.2.2.2.2.2.2.2.2.1.a p.2.2.2.2.2.2.2.2.2.2.2.2.2.1.len p.2.2.2.2.2.2.2.2.2.2.2.2.2.1.cap, .int .i64 p.2.2.2.2.2.2.2.2.2.2.2.2.2.2.1]
abbrev qc2 (p : ht2) : List Value := [.string p.1, .string p.2.1, .slice p.2.2.1.a p.2.2.1.len p.2.2.1.cap, .int .i64 p.2.2.2.1]
abbrev qc3 (p : ht3) : List Value := [.int .i64 p.1, .int .i64 p.2.1, .int .i64 p.2.2.1, .string p.2.2.2.1]
abbrev CT (P : Program) (f : FuncId) (a : List Value) (K : Value → PT) (w : World) : Prop := Calls P f a.toArray w fun e w2 => ∃ v, e = .returned v ∧ K v w2
abbrev pt0 := ByteArray × Int × Int × Int × Int × Int × Unit
abbrev pt1 := Int × ByteArray × ByteArray × Int × Int × ByteArray × Int × Int × Int × Int × Int × ByteArray × ByteArray × Sl × Int × Unit
abbrev pt2 := (Bool × Bool × Bool × Bool × Bool × Bool × Unit) × Bool × Unit
abbrev pt3 := ByteArray × ByteArray × Sl × Int × Unit
abbrev pt4 := (ByteArray × Int × Int × Int × Int × Int × Unit) × Int × Int × Bool × Unit
abbrev pt5 := (ByteArray × ByteArray × Sl × Int × Unit) × Int × Bool × Unit
abbrev pt6 := (ByteArray × Int × ByteArray × Int × Int × Int × Int × Int × Unit) × Bool × Unit
abbrev pt7 := Int × (ByteArray × Int × Unit) × Unit
abbrev pt8 := Bool × Bool × Bool × Bool × Bool × Bool × Unit
abbrev pt9 := ByteArray × ByteArray × Int × Unit
abbrev pt10 := Int × Int × Int × ByteArray × Unit
abbrev pt11 := (Int × Int × Int × ByteArray × Unit) × Bool × Unit
abbrev pt12 := (ByteArray × Option Addr × Unit) × Bool × Unit
abbrev pt13 := (ByteArray × Int × Int × Int × Int × Int × Int × Int × Bool × Unit) × Bool × Unit
abbrev pt14 := ByteArray × Int × ByteArray × Int × Int × Int × Int × Int × Unit
abbrev pt15 := (ByteArray × ByteArray × Sl × Int × Int × Int × Bool × Unit) × Bool × Unit
abbrev pt16 := (Sl × Sl × Int × Int × Sl × Sl × Unit) × Bool × Unit
abbrev pt17 := Sl × Sl × Int × Int × Sl × Sl × Unit
abbrev pt18 := Int × Option (TypeId × Value) × Unit
abbrev pt19 := ByteArray × Int × Int × Int × Int × Int × Int × Int × Bool × Unit
abbrev pt20 := ByteArray × ByteArray × Sl × Int × Int × Int × Bool × Unit
abbrev pt21 := (ByteArray × Int × Unit) × Bool × Unit
abbrev pt22 := ByteArray × (ByteArray × Int × ByteArray × Int × Int × Int × Int × Int × Unit) × Unit
abbrev pt23 := Int × (ByteArray × Option Addr × Unit) × Unit
abbrev lf0 : List Lf := [.str, .int .i64, .int .i64, .int .i64, .int .i64, .int .i64]
abbrev lf1 : List Lf := [.int .i64, .str, .str, .int .i64, .int .i64, .str, .int .i64, .int .i64, .int .i64, .int .i64, .int .i64, .str, .str, .slice, .int .i64]
abbrev lf2 : List Lf := [.ptr, .ptr, .ptr, .ptr, .ptr, .map, .int .i64]
abbrev lf3 : List Lf := [.ptr, .map, .map, .func, .int .i64, .int .i64]
abbrev lf4 : List Lf := [.bool, .bool, .bool, .bool, .bool, .bool]
abbrev lf5 : List Lf := [.str, .int .i64, .str, .int .i64, .int .i64, .int .i64, .int .i64, .int .i64]
abbrev lf6 : List Lf := [.int .i64, .int .i64, .int .i64, .int .i64, .int .i64, .int .i64, .int .i64, .int .i64, .int .i64, .int .i64, .int .i64, .int .i64, .int .i64, .int .i64, .int .i64, .int .i64, .int .i64, .int .i64, .int .i64, .int .i64, .int .i64, .int .i64, .int .i64, .int .i64, .int .i64, .int .i64, .int .i64, .int .i64, .int .i64, .int .i64, .int .i64, .int .i64, .int .i64, .int .i64, .int .i64, .int .i64, .int .i64, .int .i64, .int .i64, .int .i64, .int .i64, .int .i64, .int .i64, .int .i64, .int .i64, .int .i64, .int .i64, .int .i64, .int .i64, .int .i64, .int .i64, .int .i64, .int .i64, .int .i64, .int .i64, .int .i64, .int .i64, .int .i64, .int .i64, .int .i64]
abbrev lf7 : List Lf := [.int .i64, .int .i64, .int .i64, .int .i64, .int .i64, .int .i64, .int .i64, .int .i64, .int .i64, .int .i64, .int .i64, .int .i64, .int .i64, .int .i64, .int .i64, .int .i64, .int .i64, .int .i64, .int .i64, .int .i64, .int .i64, .int .i64, .int .i64, .int .i64, .int .i64, .int .i64, .int .i64, .int .i64, .int .i64, .int .i64, .int .i64, .int .i64, .int .i64, .int .i64, .int .i64, .int .i64, .int .i64, .int .i64, .int .i64, .int .i64, .int .i64, .int .i64, .int .i64, .int .i64, .int .i64, .int .i64, .int .i64, .int .i64, .int .i64, .int .i64, .int .i64, .int .i64, .int .i64, .int .i64, .int .i64, .int .i64, .int .i64, .int .i64, .int .i64, .int .i64, .int .i64]
abbrev lf8 : List Lf := [.int .i64, .int .i64, .int .i64, .int .i64, .int .i64, .int .i64, .int .i64, .int .i64, .int .i64, .int .i64, .int .i64, .int .i64, .int .i64, .int .i64, .int .i64, .int .i64, .int .i64, .int .i64, .int .i64, .int .i64, .int .i64, .int .i64, .int .i64, .int .i64, .int .i64, .int .i64, .int .i64, .int .i64, .int .i64, .int .i64, .int .i64, .int .i64, .int .i64, .int .i64, .int .i64, .int .i64, .int .i64, .int .i64, .int .i64, .int .i64, .int .i64, .int .i64, .int .i64, .int .i64, .int .i64, .int .i64, .int .i64, .int .i64, .int .i64, .int .i64, .int .i64, .int .i64, .int .i64, .int .i64, .int .i64, .int .i64, .int .i64, .int .i64, .int .i64, .int .i64, .int .i64, .int .i64]
abbrev lf9 : List Lf := [.str, .int .i64, .int .i64, .int .i64, .int .i64, .int .i64, .int .i64, .int .i64, .bool]
abbrev lf10 : List Lf := [.str, .str, .slice, .int .i64, .int .i64, .int .i64, .bool]
abbrev lf11 : List Lf := [.slice, .slice, .int .i64, .int .i64, .slice, .slice]
abbrev lf12 : List Lf := [.int .u8, .int .u8, .int .u8, .int .u8, .int .u8, .int .u8, .int .u8, .int .u8, .int .u8, .int .u8, .int .u8, .int .u8, .int .u8, .int .u8, .int .u8, .int .u8, .int .u8, .int .u8, .int .u8, .int .u8, .int .u8, .int .u8, .int .u8, .int .u8]
abbrev lf13 : List Lf := [.int .u64, .int .u64, .int .u64, .int .u64, .int .u64, .int .u64, .int .u64, .int .u64, .int .u64, .int .u64, .int .u64, .int .u64, .int .u64, .int .u64, .int .u64, .int .u64, .int .u64, .int .u64, .int .u64, .int .u64]
abbrev lf14 : List Lf := [.int .u8, .int .u8, .int .u8, .int .u8, .int .u8, .int .u8, .int .u8, .int .u8, .int .u8, .int .u8, .int .u8, .int .u8, .int .u8, .int .u8, .int .u8, .int .u8, .int .u8, .int .u8, .int .u8, .int .u8, .int .u8, .int .u8, .int .u8, .int .u8, .int .u8, .int .u8, .int .u8, .int .u8, .int .u8, .int .u8, .int .u8, .int .u8, .int .u8, .int .u8, .int .u8, .int .u8, .int .u8, .int .u8, .int .u8, .int .u8, .int .u8, .int .u8, .int .u8, .int .u8, .int .u8, .int .u8, .int .u8, .int .u8, .int .u8, .int .u8, .int .u8, .int .u8, .int .u8, .int .u8, .int .u8, .int .u8, .int .u8, .int .u8, .int .u8, .int .u8, .int .u8, .int .u8, .int .u8, .int .u8, .int .u8]
abbrev lf15 : List Lf := [.int .u8, .int .u8, .int .u8, .int .u8, .int .u8, .int .u8, .int .u8, .int .u8, .int .u8, .int .u8, .int .u8, .int .u8, .int .u8, .int .u8, .int .u8, .int .u8, .int .u8, .int .u8, .int .u8, .int .u8, .int .u8, .int .u8, .int .u8, .int .u8, .int .u8, .int .u8, .int .u8, .int .u8, .int .u8, .int .u8, .int .u8, .int .u8]
abbrev lf16 : List Lf := [.int .u8, .int .u8, .int .u8, .int .u8, .int .u8, .int .u8, .int .u8, .int .u8, .int .u8, .int .u8, .int .u8, .int .u8, .int .u8, .int .u8, .int .u8, .int .u8, .int .u8, .int .u8, .int .u8, .int .u8, .int .u8, .int .u8, .int .u8, .int .u8, .int .u8, .int .u8, .int .u8, .int .u8, .int .u8, .int .u8, .int .u8, .int .u8, .int .u8, .int .u8, .int .u8, .int .u8, .int .u8, .int .u8, .int .u8, .int .u8, .int .u8, .int .u8, .int .u8, .int .u8, .int .u8, .int .u8, .int .u8, .int .u8, .int .u8, .int .u8, .int .u8, .int .u8, .int .u8, .int .u8, .int .u8, .int .u8, .int .u8, .int .u8, .int .u8, .int .u8, .int .u8, .int .u8, .int .u8, .int .u8]
abbrev lf17 : List Lf := [.int .u64, .int .u64, .int .u32, .int .u8, .int .u8, .int .u8, .int .u8, .func, .ptr, .int .i32, .int .i32]
abbrev qa0 (p : pt0) : Value := .agg #[.string p.1, .int .i64 p.2.1, .int .i64 p.2.2.1, .int .i64 p.2.2.2.1, .int .i64 p.2.2.2.2.1, .int .i64 p.2.2.2.2.2.1]
abbrev qa1 (p : pt1) : Value := .agg #[.int .i64 p.1, .string p.2.1, .string p.2.2.1, .int .i64 p.2.2.2.1, .int .i64 p.2.2.2.2.1, .string p.2.2.2.2.2.1, .int .i64 p.2.2.2.2.2.2.1, .int .i64 p.2.2.2.2.2.2.2.1, .int .i64 p.2.2.2.2.2.2.2.2.1, .int .i64 p.2.2.2.2.2.2.2.2.2.1, .int .i64 p.2.2.2.2.2.2.2.2.2.2.1, .string p.2.2.2.2.2.2.2.2.2.2.2.1, .string p.2.2.2.2.2.2.2.2.2.2.2.2.1, .slice p.2.2.2.2.2.2.2.2.2.2.2.2.2.1.a p.2.2.2.2.2.2.2.2.2.2.2.2.2.1.len p.2.2.2.2.2.2.2.2.2.2.2.2.2.1.cap, .int .i64 p.2.2.2.2.2.2.2.2.2.2.2.2.2.2.1]
abbrev qa2 (p : pt8) : Value := .agg #[.bool p.1, .bool p.2.1, .bool p.2.2.1, .bool p.2.2.2.1, .bool p.2.2.2.2.1, .bool p.2.2.2.2.2.1]
abbrev qa3 (p : pt14) : Value := .agg #[.string p.1, .int .i64 p.2.1, .string p.2.2.1, .int .i64 p.2.2.2.1, .int .i64 p.2.2.2.2.1, .int .i64 p.2.2.2.2.2.1, .int .i64 p.2.2.2.2.2.2.1, .int .i64 p.2.2.2.2.2.2.2.1]
abbrev qa4 (p : pt17) : Value := .agg #[.slice p.1.a p.1.len p.1.cap, .slice p.2.1.a p.2.1.len p.2.1.cap, .int .i64 p.2.2.1, .int .i64 p.2.2.2.1, .slice p.2.2.2.2.1.a p.2.2.2.2.1.len p.2.2.2.2.1.cap, .slice p.2.2.2.2.2.1.a p.2.2.2.2.2.1.len p.2.2.2.2.2.1.cap]
abbrev qa5 (p : pt19) : Value := .agg #[.string p.1, .int .i64 p.2.1, .int .i64 p.2.2.1, .int .i64 p.2.2.2.1, .int .i64 p.2.2.2.2.1, .int .i64 p.2.2.2.2.2.1, .int .i64 p.2.2.2.2.2.2.1, .int .i64 p.2.2.2.2.2.2.2.1, .bool p.2.2.2.2.2.2.2.2.1]
abbrev qa6 (p : pt20) : Value := .agg #[.string p.1, .string p.2.1, .slice p.2.2.1.a p.2.2.1.len p.2.2.1.cap, .int .i64 p.2.2.2.1, .int .i64 p.2.2.2.2.1, .int .i64 p.2.2.2.2.2.1, .bool p.2.2.2.2.2.2.1]
abbrev eI6 : E1 := .one (.int .i64)
abbrev eS6 : E1 := .one .str
abbrev eL6 : E1 := .one .slice
abbrev eB6 : E1 := .one .bool
abbrev eP6 : E1 := .one .ptr
abbrev rI : RT := .one eI6
abbrev rS : RT := .one eS6
abbrev rL : RT := .one eL6
abbrev rB : RT := .one eB6
abbrev rP : RT := .one eP6
noncomputable abbrev Pr : Program := Tryz.prog
abbrev z5e : Nat := 6
abbrev z52 : Nat := 7
abbrev z7O : Nat := 8
abbrev z3a : Nat := 10
abbrev z05 : Nat := 11
abbrev z50 : Nat := 12
abbrev z4D : Nat := 14
abbrev z1p : Nat := 15
abbrev z3L : Nat := 17
abbrev z4V : Nat := 18
abbrev z2y : Nat := 19
abbrev zaY : Nat := 20
abbrev zaW : Nat := 21
abbrev zaV : Nat := 22
abbrev zcD : Nat := 23
abbrev zcE : Nat := 24
abbrev z8H : Nat := 26
abbrev z0f : Nat := 27
abbrev z4o : Nat := 28
abbrev z1x : Nat := 29
abbrev z1F : Nat := 30
abbrev z4B : Nat := 31
abbrev z1y : Nat := 32
abbrev z4C : Nat := 33
abbrev z2m : Nat := 34
abbrev z0Y : Nat := 35
abbrev z1P : Nat := 36
abbrev z1E : Nat := 37
abbrev z1Q : Nat := 38
abbrev z42 : Nat := 39
abbrev z1u : Nat := 40
abbrev z1V : Nat := 42
abbrev z5v : Nat := 43
abbrev z5w : Nat := 44
abbrev z3r : Nat := 45
abbrev z1j : Nat := 46
abbrev z3M : Nat := 47
abbrev z0C : Nat := 48
abbrev z7P : Nat := 49
abbrev zcB : Nat := 50
abbrev z8G : Nat := 51
abbrev z4U : Nat := 52
abbrev z3v : Nat := 53
abbrev z3w : Nat := 54
abbrev z9y : Nat := 55
abbrev z86 : Nat := 56
abbrev z6N : Nat := 57
abbrev z3u : Nat := 58
abbrev z0M : Nat := 59
abbrev z0n : Nat := 60
abbrev z0u : Nat := 61
abbrev z3K : Nat := 62
abbrev z61 : Nat := 63
abbrev ze9 : Nat := 64
abbrev zfb : Nat := 65
abbrev z3t : Nat := 66
abbrev z7N : Nat := 67
abbrev z3N : Nat := 68
abbrev z1e : Nat := 70
abbrev z44 : Nat := 72
abbrev z5x : Nat := 73
abbrev z3p : Nat := 74
abbrev z0e : Nat := 75
abbrev z4T : Nat := 77
abbrev z6w : Nat := 78
abbrev z1D : Nat := 79
abbrev z5q : Nat := 80
abbrev z6t : Nat := 81
abbrev z5A : Nat := 82
abbrev z4S : Nat := 83
abbrev z6r : Nat := 84
abbrev z4K : Nat := 85
abbrev z5X : Nat := 86
abbrev z6u : Nat := 87
abbrev z39 : Nat := 88
abbrev z5p : Nat := 89
abbrev zaX : Nat := 90
abbrev z3s : Nat := 91
abbrev z64 : Nat := 92
abbrev z9u : Nat := 93
abbrev z5u : Nat := 94
abbrev z3F : Nat := 95
abbrev z43 : Nat := 96
abbrev z4Z : Nat := 101
abbrev z2K : Nat := 102
abbrev z45 : Nat := 103
abbrev z5o : Nat := 104
abbrev z0R : Nat := 105
abbrev z0B : Nat := 106
abbrev z78 : Nat := 107
abbrev z4m : Nat := 108
abbrev z47 : Nat := 109
abbrev z6M : Nat := 110
abbrev z1f : Nat := 111
abbrev z8A : Nat := 112
abbrev zcC : Nat := 113
abbrev z2C : Nat := 118
abbrev z2B : Nat := 119
abbrev z2R : Nat := 120
abbrev z2Q : Nat := 121
abbrev z8B : Nat := 122
abbrev z6c : Nat := 125
abbrev z9v : Nat := 126
abbrev z8y : Nat := 127
abbrev z6s : Nat := 128
abbrev z5d : Nat := 129
abbrev z1o : Nat := 130
abbrev z2o : Nat := 131
abbrev z41 : Nat := 132
abbrev z4R : Nat := 133
abbrev z4Q : Nat := 134
abbrev zaG : Nat := 135
abbrev z1J : Nat := 136
abbrev z9w : Nat := 138
abbrev z74 : Nat := 139
abbrev z0T : Nat := 140
abbrev z63 : Nat := 141
abbrev z4n : Nat := 142
abbrev z4t : Nat := 143
abbrev z6p : Nat := 144
abbrev z6q : Nat := 145
abbrev z4E : Nat := 146
abbrev z2D : Nat := 147
abbrev z8F : Nat := 148
abbrev z2S : Nat := 149
abbrev z8E : Nat := 150
abbrev z4L : Nat := 151
abbrev z3R : Nat := 152
abbrev z23 : Nat := 153
abbrev z8x : Nat := 154
abbrev z1g : Nat := 155
abbrev z8C : Nat := 156
abbrev z6y : Nat := 157
abbrev z6v : Nat := 163
abbrev ze8 : Nat := 164
abbrev z4Y : Nat := 165
abbrev z79 : Nat := 166
abbrev z1Z : Nat := 169
abbrev z77 : Nat := 170
abbrev zaH : Nat := 171
abbrev z9x : Nat := 172
abbrev z65 : Nat := 173
abbrev z19 : Nat := 174
abbrev z5c : Nat := 175
abbrev z1A : Nat := 179
abbrev z4X : Nat := 182
abbrev z5y : Nat := 183
abbrev z5n : Nat := 184
abbrev z3E : Nat := 185
abbrev z8z : Nat := 186
abbrev z22 : Nat := 188
abbrev z1L : Nat := 189
abbrev z5t : Nat := 190
abbrev z1m : Nat := 191
abbrev z1k : Nat := 192
abbrev z0Q : Nat := 193
abbrev z0V : Nat := 194
abbrev z73 : Nat := 195
abbrev z1l : Nat := 196
abbrev z4W : Nat := 197
abbrev z1n : Nat := 198
abbrev z1v : Nat := 199
abbrev z18 : Nat := 200
abbrev z1a : Nat := 201
abbrev z0w : Nat := 202
abbrev z1K : Nat := 203
abbrev z2i : Nat := 204
abbrev zab : Nat := 205
abbrev z4l : Nat := 206
abbrev z5z : Nat := 207
abbrev z2V : Nat := 209
abbrev z2c : Nat := 210
abbrev z8D : Nat := 211
abbrev z2h : Nat := 223
abbrev z27 : Nat := 228
abbrev z0U : Nat := 235
abbrev z1w : Nat := 236
abbrev z62 : Nat := 237
abbrev z6z : Nat := 238
abbrev z0G : Nat := 239
abbrev z5r : Nat := 240
abbrev z2A : Nat := 241
abbrev z0a : Nat := 242
abbrev z1c : Nat := 243
abbrev z3q : Nat := 244
abbrev z2W : Nat := 245
abbrev z0v : Nat := 246
abbrev z0k : Nat := 247
abbrev z3l : Nat := 248
abbrev z2n : Nat := 249
abbrev z5s : Nat := 250
abbrev z1z : Nat := 251
abbrev z2X : Nat := 252
abbrev z1b : Nat := 253
abbrev z2z : Nat := 270
abbrev z8f : Nat := 271
abbrev z2P : Nat := 272
abbrev z1W : Nat := 273
abbrev z08 : Nat := 275
abbrev z0l : Nat := 276
abbrev z0P : Nat := 283
abbrev z0Z : Nat := 284
abbrev T_ : Nat := 0
abbrev z0d : Nat := 3
abbrev z6d : Nat := 4
abbrev zep : Nat := 5
abbrev z00 : Nat := 9
abbrev zb2 : Nat := 20
abbrev z0g : Nat := 23
abbrev z67 : Nat := 31
abbrev z0p : Nat := 33
abbrev z0D : Nat := 35
abbrev z06 : Nat := 37
abbrev z2d : Nat := 38
abbrev z1i : Nat := 46
abbrev z0K : Nat := 53
abbrev z30 : Nat := 61
abbrev z0O : Nat := 64
abbrev z9K : Nat := 66
abbrev z02 : Nat := 70
abbrev z07 : Nat := 72
abbrev z4q : Nat := 73
abbrev z7b : Nat := 80
abbrev zhD : Nat := 81
abbrev z0s : Nat := 82
abbrev z0I : Nat := 83
abbrev zbO : Nat := 85
abbrev zbN : Nat := 93
abbrev z0j : Nat := 95
abbrev z3S : Nat := 97
abbrev zd5 : Nat := 99
abbrev z1G : Nat := 100
abbrev z8M : Nat := 102
abbrev z0X : Nat := 103
abbrev z0E : Nat := 104
abbrev z3A : Nat := 105
abbrev zer : Nat := 111
abbrev zes : Nat := 113
abbrev z0i : Nat := 134
abbrev z0b : Nat := 138
abbrev z0A : Nat := 158
abbrev z3z : Nat := 159
abbrev z03 : Nat := 161
abbrev z0m : Nat := 167
abbrev z0F : Nat := 177
abbrev z0r : Nat := 182
abbrev z0L : Nat := 184
abbrev z0x : Nat := 185
abbrev z0y : Nat := 187
abbrev z1h : Nat := 190
abbrev z5Y : Nat := 194
abbrev zeq : Nat := 199
abbrev z54 : Nat := 233
abbrev z5E : Nat := 248
abbrev z09 : Nat := 250
abbrev z0h : Nat := 255
abbrev z0H : Nat := 258
abbrev z0q : Nat := 259
abbrev z0t : Nat := 265
abbrev z34 : Nat := 270
abbrev z33 : Nat := 272
abbrev z2Z : Nat := 276
abbrev z1R : Nat := 278
abbrev z1r : Nat := 282
abbrev z4a : Nat := 285
abbrev z0z : Nat := 311
abbrev z2j : Nat := 314
abbrev z1B : Nat := 316
abbrev z8k : Nat := 320
abbrev z3G : Nat := 351
abbrev z10 : Nat := 362
abbrev z0S : Nat := 364
def s_ : ByteArray := ⟨#[]⟩
def z9s : ByteArray := ⟨#[119, 101, 98]⟩
def z4z : ByteArray := ⟨#[119, 101, 98, 45, 49]⟩
def z4A : ByteArray := ⟨#[102, 114, 111, 110, 116]⟩
def s_refused__3bb3 : ByteArray := ⟨#[114, 101, 102, 117, 115, 101, 100, 32]⟩
def s_waits__c0ad : ByteArray := ⟨#[119, 97, 105, 116, 115, 32]⟩
def s__timeout_d08c : ByteArray := ⟨#[32, 116, 105, 109, 101, 111, 117, 116]⟩
def s_bad_kind : ByteArray := ⟨#[98, 97, 100, 32, 107, 105, 110, 100]⟩
def s_tick_1 : ByteArray := ⟨#[116, 105, 99, 107, 32, 49]⟩
def zlf : ByteArray := ⟨#[98, 97, 100]⟩
def s_table_front_web_1_100 : ByteArray := ⟨#[116, 97, 98, 108, 101, 32, 102, 114, 111, 110, 116, 32, 119, 101, 98, 45, 49, 58, 49, 48, 48]⟩
def s__ : ByteArray := ⟨#[45]⟩
def za7 : ByteArray := ⟨#[32]⟩
def zbt : ByteArray := ⟨#[99, 111, 110, 102, 105, 103]⟩
def zid : ByteArray := ⟨#[114, 111, 117, 116, 101]⟩
def zle : ByteArray := ⟨#[100, 114, 111, 112, 112, 101, 100]⟩
def s_scale : ByteArray := ⟨#[115, 99, 97, 108, 101]⟩
def s_up : ByteArray := ⟨#[117, 112]⟩
def zbs : ByteArray := ⟨#[112, 114, 111, 118, 101, 100]⟩
def zf5 : ByteArray := ⟨#[100, 111, 119, 110]⟩
def zl9 : ByteArray := ⟨#[116, 105, 99, 107]⟩
def znT : ByteArray := ⟨#[115, 97, 109, 101]⟩
def z8b : ByteArray := ⟨#[114, 101, 118, 105, 115, 105, 111, 110]⟩
def zla : ByteArray := ⟨#[116, 97, 98, 108, 101]⟩
def zld : ByteArray := ⟨#[109, 97, 100, 101]⟩
def znZ : ByteArray := ⟨#[103, 111, 110, 101]⟩
def s_fleet : ByteArray := ⟨#[102, 108, 101, 101, 116]⟩
def s_ok : ByteArray := ⟨#[111, 107]⟩
def znV : ByteArray := ⟨#[110, 97, 109, 101]⟩
def zpB : ByteArray := ⟨#[97, 114, 103]⟩
def znX : ByteArray := ⟨#[108, 111, 110, 103]⟩
def zpz : ByteArray := ⟨#[115, 117, 109]⟩
def s_twice : ByteArray := ⟨#[116, 119, 105, 99, 101]⟩
def znU : ByteArray := ⟨#[110, 111, 110, 101]⟩
def zg2 : ByteArray := ⟨#[101, 114, 114, 111, 114]⟩
def zlc : ByteArray := ⟨#[115, 116, 97, 108, 101]⟩
def zo0 : ByteArray := ⟨#[102, 117, 108, 108]⟩
def zlb : ByteArray := ⟨#[115, 116, 97, 116, 101]⟩
def zpA : ByteArray := ⟨#[99, 117, 116]⟩
def znW : ByteArray := ⟨#[109, 111, 114, 101]⟩
def znY : ByteArray := ⟨#[107, 105, 110, 100]⟩
def s_refused : ByteArray := ⟨#[114, 101, 102, 117, 115, 101, 100]⟩
def s_no_route : ByteArray := ⟨#[110, 111, 45, 114, 111, 117, 116, 101]⟩
def s_overflow : ByteArray := ⟨#[111, 118, 101, 114, 102, 108, 111, 119]⟩
def s_pod_lost : ByteArray := ⟨#[112, 111, 100, 45, 108, 111, 115, 116]⟩
def s_timeout : ByteArray := ⟨#[116, 105, 109, 101, 111, 117, 116]⟩
def s___b5df : ByteArray := ⟨#[58]⟩
def s___b5e2 : ByteArray := ⟨#[61]⟩
def znS : ByteArray := ⟨#[115, 101, 110, 116]⟩
def zl8 : ByteArray := ⟨#[119, 97, 105, 116, 115]⟩
def zo1 : ByteArray := ⟨#[100, 111, 110, 101]⟩
def tq0 : TI := ⟨.func, 1, some (.one (.func)), some [.nilFunc]⟩
def tq1 : TI := ⟨.int .i64, 1, some (.one (.int .i64)), some [.int .i64 0]⟩
def tq2 : TI := ⟨.int .u8, 1, some (.one (.int .u8)), some [.int .u8 0]⟩
def tq3 : TI := ⟨.struct [(2, 0), (3, 1), (4, 2), (6, 3)], 4, some (.agg [.int .i64, .int .i64, .bool, .int .u8]), some [.int .i64 0, .int .i64 0, .bool false, .int .u8 0]⟩
def tq4 : TI := ⟨.str, 1, some (.one (.str)), some [.string s_]⟩
def tq5 : TI := ⟨.int .u64, 1, some (.one (.int .u64)), some [.int .u64 0]⟩
def tq6 : TI := ⟨.struct [(9, 0), (12, 1)], 2, some (.agg [.str, .int .u64]), some [.string s_, .int .u64 0]⟩
def tq7 : TI := ⟨.ptr, 1, some (.one (.ptr)), some [.pointer none]⟩
def tq8 : TI := ⟨.struct [(17, 0)], 1, some (.agg [.ptr]), some [.pointer none]⟩
def tq9 : TI := ⟨.iface, 1, some (.one (.iface)), some [.nilIface]⟩
def tq10 : TI := ⟨.int .i32, 1, some (.one (.int .i32)), some [.int .i32 0]⟩
def tq11 : TI := ⟨.struct [(9, 0), (3, 1), (3, 2), (3, 3), (3, 4), (3, 5)], 6, some (.agg lf0), some [.string s_, .int .i64 0, .int .i64 0, .int .i64 0, .int .i64 0, .int .i64 0]⟩
def tq12 : TI := ⟨.struct [(9, 0), (9, 1), (31, 2), (3, 3)], 4, some (.agg [.str, .str, .slice, .int .i64]), some [.string s_, .string s_, .slice none 0 0, .int .i64 0]⟩
def tq13 : TI := ⟨.struct [(3, 0), (9, 1), (9, 2), (3, 3), (3, 4), (23, 5), (33, 11)], 15, some (.agg lf1), some [.int .i64 0, .string s_, .string s_, .int .i64 0, .int .i64 0, .string s_, .int .i64 0, .int .i64 0, .int .i64 0, .int .i64 0, .int .i64 0, .string s_, .string s_, .slice none 0 0, .int .i64 0]⟩
def tq14 : TI := ⟨.map 9 73, 1, some (.one (.map)), some [.map none]⟩
def tq15 : TI := ⟨.struct [(55, 0), (57, 1), (59, 2), (53, 3), (61, 4), (64, 5), (3, 6)], 7, some (.agg lf2), some [.pointer none, .pointer none, .pointer none, .pointer none, .pointer none, .map none, .int .i64 0]⟩
def tq16 : TI := ⟨.struct [(9, 0), (9, 1), (3, 2)], 3, some (.agg [.str, .str, .int .i64]), some [.string s_, .string s_, .int .i64 0]⟩
def tq17 : TI := ⟨.struct [(3, 0), (3, 1)], 2, some (.agg [.int .i64, .int .i64]), some [.int .i64 0, .int .i64 0]⟩
def tq18 : TI := ⟨.struct [(78, 0), (77, 1)], 3, some (.agg [.ptr, .int .i64, .int .i64]), some [.pointer none, .int .i64 0, .int .i64 0]⟩
def tq19 : TI := ⟨.struct [(82, 0), (83, 1), (3, 2), (3, 3)], 4, some (.agg [.map, .map, .int .i64, .int .i64]), some [.map none, .map none, .int .i64 0, .int .i64 0]⟩
def tq20 : TI := ⟨.struct [(86, 0), (89, 1), (3, 2)], 3, some (.agg [.ptr, .ptr, .int .i64]), some [.pointer none, .pointer none, .int .i64 0]⟩
def tq21 : TI := ⟨.map 9 167, 1, some (.one (.map)), some [.map none]⟩
def tq22 : TI := ⟨.map 9 4, 1, some (.one (.map)), some [.map none]⟩
def tq23 : TI := ⟨.struct [(95, 0), (97, 1)], 2, some (.agg [.map, .map]), some [.map none, .map none]⟩
def tq24 : TI := ⟨.struct [(100, 0)], 1, some (.agg [.map]), some [.map none]⟩
def tq25 : TI := ⟨.struct [(104, 0), (107, 1)], 2, some (.agg [.map, .func]), some [.map none, .nilFunc]⟩
def tq26 : TI := ⟨.struct [(53, 0), (103, 1), (109, 2), (3, 4), (3, 5)], 6, some (.agg lf3), some [.pointer none, .map none, .map none, .nilFunc, .int .i64 0, .int .i64 0]⟩
def tq27 : TI := ⟨.struct [(4, 0), (4, 1), (4, 2), (4, 3), (4, 4), (4, 5)], 6, some (.agg lf4), some [.bool false, .bool false, .bool false, .bool false, .bool false, .bool false]⟩
def tq28 : TI := ⟨.struct [(3, 0), (3, 1), (3, 2), (9, 3)], 4, some (.agg [.int .i64, .int .i64, .int .i64, .str]), some [.int .i64 0, .int .i64 0, .int .i64 0, .string s_]⟩
def tq29 : TI := ⟨.struct [(158, 0), (159, 1)], 2, some (.agg [.slice, .slice]), some [.slice none 0 0, .slice none 0 0]⟩
def tq30 : TI := ⟨.struct [(9, 0), (3, 1), (23, 2)], 8, some (.agg lf5), some [.string s_, .int .i64 0, .string s_, .int .i64 0, .int .i64 0, .int .i64 0, .int .i64 0, .int .i64 0]⟩
def tq31 : TI := ⟨.struct [(9, 0), (3, 1)], 2, some (.agg [.str, .int .i64]), some [.string s_, .int .i64 0]⟩
def tq32 : TI := ⟨.struct [(182, 0), (88, 1)], 2, some (.agg [.map, .func]), some [.map none, .nilFunc]⟩
def tq33 : TI := ⟨.struct [(185, 0), (91, 1)], 2, some (.agg [.map, .func]), some [.map none, .nilFunc]⟩
def tq34 : TI := ⟨.struct [(190, 0)], 1, some (.agg [.slice]), some [.slice none 0 0]⟩
def tq35 : TI := ⟨.struct [(192, 0), (3, 1)], 2, some (.agg [.slice, .int .i64]), some [.slice none 0 0, .int .i64 0]⟩
def tq36 : TI := ⟨.struct [(202, 0), (81, 1)], 2, some (.agg [.ptr, .slice]), some [.pointer none, .slice none 0 0]⟩
def tq37 : TI := ⟨.struct [(9, 0), (231, 1)], 2, some (.agg [.str, .ptr]), some [.string s_, .pointer none]⟩
def tq38 : TI := ⟨.struct [(244, 0), (3, 60)], 61, some (.agg lf7), some (List.replicate 61 (.int .i64 0))⟩
def tq39 : TI := ⟨.struct [(246, 0), (3, 61)], 62, some (.agg lf8), some (List.replicate 62 (.int .i64 0))⟩
def tq40 : TI := ⟨.struct [(23, 0), (3, 6), (3, 7), (4, 8)], 9, some (.agg lf9), some [.string s_, .int .i64 0, .int .i64 0, .int .i64 0, .int .i64 0, .int .i64 0, .int .i64 0, .int .i64 0, .bool false]⟩
def tq41 : TI := ⟨.struct [(33, 0), (3, 4), (3, 5), (4, 6)], 7, some (.agg lf10), some [.string s_, .string s_, .slice none 0 0, .int .i64 0, .int .i64 0, .int .i64 0, .bool false]⟩
def tq42 : TI := ⟨.struct [(9, 0), (9, 1)], 2, some (.agg [.str, .str]), some [.string s_, .string s_]⟩
def tq43 : TI := ⟨.arr 2 9, 2, some (.agg [.str, .str]), some [.string s_, .string s_]⟩
def tq44 : TI := ⟨.struct [(158, 0), (158, 1), (3, 2), (3, 3), (161, 4)], 6, some (.agg lf11), some [.slice none 0 0, .slice none 0 0, .int .i64 0, .int .i64 0, .slice none 0 0, .slice none 0 0]⟩
def tq45 : TI := ⟨.struct [(3, 0), (3, 1), (3, 2)], 3, some (.agg [.int .i64, .int .i64, .int .i64]), some [.int .i64 0, .int .i64 0, .int .i64 0]⟩
def tq46 : TI := ⟨.struct [(316, 0), (3, 1)], 2, some (.agg [.map, .int .i64]), some [.map none, .int .i64 0]⟩
def tq47 : TI := ⟨.struct [(3, 0), (318, 1)], 3, some (.agg [.int .i64, .map, .int .i64]), some [.int .i64 0, .map none, .int .i64 0]⟩
def tq48 : TI := ⟨.struct [(9, 0), (9, 1), (206, 2)], 3, some (.agg [.str, .str, .iface]), some [.string s_, .string s_, .nilIface]⟩
def tq49 : TI := ⟨.struct [(9, 0)], 1, some (.agg [.str]), some [.string s_]⟩
def tq50 : TI := ⟨.struct [(17, 0), (17, 1), (17, 2), (9, 3)], 4, some (.agg [.ptr, .ptr, .ptr, .str]), some [.pointer none, .pointer none, .pointer none, .string s_]⟩
def tq51 : TI := ⟨.struct [(425, 0)], 0, some (.agg []), some []⟩
def tq52 : TI := ⟨.struct [(12, 0), (12, 1), (348, 2), (428, 3), (5, 4), (5, 5), (429, 6), (430, 7), (308, 8), (431, 9), (432, 10)], 11, some (.agg lf17), some [.int .u64 0, .int .u64 0, .int .u32 0, .int .u8 0, .int .u8 0, .int .u8 0, .int .u8 0, .nilFunc, .pointer none, .int .i32 0, .int .i32 0]⟩
def Dt : Tb := ⟨436, 333, (.node ⟨.tuple [], 1, none, none⟩ (.node tq0 (.node tq1 (.node tq3 (.node tq7 (.node ⟨.slice 72, 1, some (.one (.slice)), some [.slice none 0 0]⟩ (.node tq14 (.node tq0 (.node tq41 .nil .nil) (.node ⟨.tuple [348, 348], 1, none, none⟩ .nil .nil)) (.node tq34 (.node tq47 .nil .nil) .nil)) (.node tq21 (.node ⟨.slice 270, 1, some (.one (.slice)), some [.slice none 0 0]⟩ (.node tq0 .nil .nil) (.node tq7 .nil .nil)) (.node tq0 (.node tq7 .nil .nil) .nil))) (.node ⟨.tuple [46, 46], 1, none, none⟩ (.node tq18 (.node tq0 (.node tq0 .nil .nil) (.node tq7 .nil .nil)) (.node ⟨.tuple [3, 206], 1, none, none⟩ (.node tq0 .nil .nil) .nil)) (.node tq26 (.node tq0 (.node tq0 .nil .nil) (.node tq10 .nil .nil)) (.node tq0 (.node tq7 .nil .nil) .nil)))) (.node tq11 (.node tq0 (.node tq16 (.node tq0 (.node tq0 .nil .nil) (.node tq0 .nil .nil)) (.node tq17 (.node ⟨.tuple [9, 9], 1, none, none⟩ .nil .nil) .nil)) (.node ⟨.map 3 177, 1, some (.one (.map)), some [.map none]⟩ (.node tq30 (.node tq0 .nil .nil) (.node tq50 .nil .nil)) (.node tq7 (.node ⟨.other, 1, none, none⟩ .nil .nil) .nil))) (.node tq7 (.node tq0 (.node ⟨.tuple [23, 3, 3, 4], 1, none, none⟩ (.node ⟨.tuple [278, 4], 1, none, none⟩ .nil .nil) (.node tq0 .nil .nil)) (.node ⟨.tuple [161, 4], 1, none, none⟩ (.node tq0 .nil .nil) .nil)) (.node tq0 (.node tq32 (.node tq7 .nil .nil) .nil) (.node tq39 (.node tq0 .nil .nil) .nil))))) (.node tq4 (.node tq8 (.node tq13 (.node tq0 (.node tq0 (.node ⟨.map 9 9, 1, some (.one (.map)), some [.map none]⟩ .nil .nil) (.node tq0 .nil .nil)) (.node ⟨.tuple [9, 3, 4], 1, none, none⟩ (.node tq0 .nil .nil) .nil)) (.node tq23 (.node tq0 (.node tq0 .nil .nil) (.node ⟨.arr 64 5, 64, some (.agg lf16), some (List.replicate 64 (.int .u8 0))⟩ .nil .nil)) (.node tq0 (.node ⟨.arr 24 5, 24, some (.agg lf12), some (List.replicate 24 (.int .u8 0))⟩ .nil .nil) .nil))) (.node tq0 (.node ⟨.map 3 3, 1, some (.one (.map)), some [.map none]⟩ (.node tq0 (.node tq43 .nil .nil) (.node tq0 .nil .nil)) (.node tq0 (.node tq0 .nil .nil) .nil)) (.node tq0 (.node ⟨.tuple [105, 4], 1, none, none⟩ (.node tq0 .nil .nil) (.node tq0 .nil .nil)) (.node tq0 (.node ⟨.slice 158, 1, some (.one (.slice)), some [.slice none 0 0]⟩ .nil .nil) .nil)))) (.node ⟨.tuple [25, 26], 1, none, none⟩ (.node tq0 (.node tq0 (.node tq0 (.node tq0 .nil .nil) (.node tq0 .nil .nil)) (.node tq36 (.node tq0 .nil .nil) .nil)) (.node tq0 (.node tq0 (.node tq5 .nil .nil) (.node tq51 .nil .nil)) (.node tq0 (.node tq17 .nil .nil) .nil))) (.node tq7 (.node tq0 (.node tq0 (.node tq0 .nil .nil) (.node tq0 .nil .nil)) (.node tq0 (.node tq0 .nil .nil) .nil)) (.node tq0 (.node tq33 (.node tq0 .nil .nil) .nil) (.node ⟨.tuple [250, 4], 1, none, none⟩ (.node tq0 .nil .nil) .nil)))))) (.node tq2 (.node tq4 (.node tq7 (.node tq12 (.node tq15 (.node tq0 (.node tq0 .nil .nil) (.node tq1 .nil .nil)) (.node tq35 (.node tq0 .nil .nil) .nil)) (.node tq22 (.node tq29 (.node tq0 .nil .nil) (.node tq49 .nil .nil)) (.node tq0 (.node tq0 .nil .nil) .nil))) (.node tq0 (.node ⟨.slice 5, 1, some (.one (.slice)), some [.slice none 0 0]⟩ (.node ⟨.tuple [46, 26], 1, none, none⟩ (.node ⟨.tuple [272, 272], 1, none, none⟩ .nil .nil) (.node ⟨.tuple [350, 206], 1, none, none⟩ .nil .nil)) (.node tq0 (.node tq0 .nil .nil) .nil)) (.node tq27 (.node tq31 (.node tq0 .nil .nil) (.node tq52 .nil .nil)) (.node tq0 (.node tq0 .nil .nil) .nil)))) (.node tq7 (.node tq0 (.node tq7 (.node tq28 (.node tq31 .nil .nil) (.node ⟨.arr 20 350, 20, some (.agg lf13), some (List.replicate 20 (.int .u64 0))⟩ .nil .nil)) (.node tq0 (.node tq0 .nil .nil) .nil)) (.node tq7 (.node tq0 (.node tq0 .nil .nil) (.node ⟨.arr 0 16, 0, some (.agg []), some []⟩ .nil .nil)) (.node tq37 (.node tq0 .nil .nil) .nil))) (.node tq7 (.node tq7 (.node ⟨.tuple [9, 4], 1, none, none⟩ (.node tq0 .nil .nil) (.node tq0 .nil .nil)) (.node tq0 (.node tq0 .nil .nil) .nil)) (.node tq0 (.node ⟨.map 9 255, 1, some (.one (.map)), some [.map none]⟩ (.node tq17 .nil .nil) .nil) (.node tq40 (.node tq5 .nil .nil) .nil))))) (.node tq6 (.node tq10 (.node ⟨.slice 9, 1, some (.one (.slice)), some [.slice none 0 0]⟩ (.node tq0 (.node tq0 (.node tq0 .nil .nil) (.node tq0 .nil .nil)) (.node tq0 (.node tq0 .nil .nil) .nil)) (.node tq24 (.node tq0 (.node tq0 .nil .nil) (.node tq0 .nil .nil)) (.node ⟨.tuple [9, 26], 1, none, none⟩ (.node ⟨.tuple [81, 9], 1, none, none⟩ .nil .nil) .nil))) (.node tq7 (.node tq19 (.node tq0 (.node tq44 .nil .nil) (.node tq48 .nil .nil)) (.node tq0 (.node tq1 .nil .nil) .nil)) (.node tq0 (.node tq0 (.node tq0 .nil .nil) .nil) (.node tq38 (.node tq0 .nil .nil) .nil)))) (.node tq0 (.node tq0 (.node tq17 (.node tq0 (.node tq42 .nil .nil) (.node tq0 .nil .nil)) (.node tq9 (.node tq0 .nil .nil) .nil)) (.node tq25 (.node tq0 (.node tq0 .nil .nil) (.node tq2 .nil .nil)) (.node tq0 (.node tq0 .nil .nil) .nil))) (.node tq7 (.node tq20 (.node tq0 (.node tq45 .nil .nil) (.node tq0 .nil .nil)) (.node tq0 (.node tq0 .nil .nil) .nil)) (.node tq0 (.node tq0 (.node tq46 .nil .nil) .nil) (.node tq0 (.node tq7 .nil .nil) .nil))))))) (.node tq1 (.node ⟨.bool, 1, some (.one (.bool)), some [.bool false]⟩ (.node tq3 (.node tq7 (.node tq12 (.node tq14 (.node tq0 (.node ⟨.tuple [255, 4], 1, none, none⟩ .nil .nil) (.node tq0 .nil .nil)) (.node tq34 (.node tq47 .nil .nil) .nil)) (.node tq22 (.node tq29 (.node tq0 .nil .nil) (.node tq49 .nil .nil)) (.node tq0 (.node tq0 .nil .nil) .nil))) (.node tq0 (.node tq18 (.node tq0 (.node ⟨.slice 276, 1, some (.one (.slice)), some [.slice none 0 0]⟩ .nil .nil) (.node tq0 .nil .nil)) (.node tq0 (.node tq0 .nil .nil) .nil)) (.node tq27 (.node tq31 (.node tq0 .nil .nil) (.node tq10 .nil .nil)) (.node tq0 (.node tq0 .nil .nil) .nil)))) (.node tq0 (.node ⟨.tuple [25, 4], 1, none, none⟩ (.node tq16 (.node tq0 (.node tq31 .nil .nil) (.node tq0 .nil .nil)) (.node tq0 (.node tq0 .nil .nil) .nil)) (.node ⟨.map 9 105, 1, some (.one (.map)), some [.map none]⟩ (.node ⟨.tuple [167, 4], 1, none, none⟩ (.node tq0 .nil .nil) (.node tq50 .nil .nil)) (.node tq37 (.node tq0 .nil .nil) .nil))) (.node tq0 (.node tq0 (.node tq0 (.node tq0 .nil .nil) (.node tq0 .nil .nil)) (.node tq0 (.node tq0 .nil .nil) .nil)) (.node tq0 (.node tq32 (.node tq0 .nil .nil) .nil) (.node tq39 (.node tq0 .nil .nil) .nil))))) (.node tq5 (.node tq9 (.node ⟨.slice 35, 1, some (.one (.slice)), some [.slice none 0 0]⟩ (.node tq0 (.node tq0 (.node tq0 .nil .nil) (.node tq7 .nil .nil)) (.node tq0 (.node tq0 .nil .nil) .nil)) (.node ⟨.map 9 278, 1, some (.one (.map)), some [.map none]⟩ (.node tq0 (.node tq0 .nil .nil) (.node tq0 .nil .nil)) (.node tq0 (.node tq0 .nil .nil) .nil))) (.node tq0 (.node tq19 (.node tq0 (.node tq43 .nil .nil) (.node tq48 .nil .nil)) (.node tq0 (.node tq0 .nil .nil) .nil)) (.node tq0 (.node tq0 (.node tq7 .nil .nil) .nil) (.node ⟨.arr 60 3, 60, some (.agg lf6), some (List.replicate 60 (.int .i64 0))⟩ (.node tq0 .nil .nil) .nil)))) (.node tq0 (.node tq0 (.node tq17 (.node ⟨.tuple [134, 26], 1, none, none⟩ (.node tq0 .nil .nil) (.node tq0 .nil .nil)) (.node tq36 (.node tq0 .nil .nil) .nil)) (.node tq25 (.node ⟨.tuple [3, 3], 1, none, none⟩ (.node tq0 .nil .nil) (.node tq2 .nil .nil)) (.node ⟨.tuple [3, 4], 1, none, none⟩ (.node tq17 .nil .nil) .nil))) (.node tq0 (.node tq20 (.node ⟨.tuple [33, 3, 4], 1, none, none⟩ (.node tq45 .nil .nil) (.node tq0 .nil .nil)) (.node tq0 (.node ⟨.int .u32, 1, some (.one (.int .u32)), some [.int .u32 0]⟩ .nil .nil) .nil)) (.node tq0 (.node tq0 (.node ⟨.map 3 4, 1, some (.one (.map)), some [.map none]⟩ .nil .nil) .nil) (.node tq0 (.node tq0 .nil .nil) .nil)))))) (.node tq2 (.node tq4 (.node tq8 (.node tq13 (.node tq15 (.node tq0 (.node ⟨.map 9 3, 1, some (.one (.map)), some [.map none]⟩ .nil .nil) (.node ⟨.tuple [2, 206], 1, none, none⟩ .nil .nil)) (.node tq35 (.node tq0 .nil .nil) .nil)) (.node tq23 (.node ⟨.tuple [161, 26], 1, none, none⟩ (.node ⟨.arr 2 3, 2, some (.agg [.int .i64, .int .i64]), some [.int .i64 0, .int .i64 0]⟩ .nil .nil) (.node ⟨.arr 32 5, 32, some (.agg lf15), some (List.replicate 32 (.int .u8 0))⟩ .nil .nil)) (.node tq0 (.node tq0 .nil .nil) .nil))) (.node ⟨.tuple [3, 3, 3, 3], 1, none, none⟩ (.node ⟨.map 3 233, 1, some (.one (.map)), some [.map none]⟩ (.node tq0 (.node tq0 .nil .nil) (.node tq0 .nil .nil)) (.node tq0 (.node tq0 .nil .nil) .nil)) (.node ⟨.tuple [113, 4], 1, none, none⟩ (.node tq0 (.node tq0 .nil .nil) (.node tq52 .nil .nil)) (.node tq0 (.node tq0 .nil .nil) .nil)))) (.node tq1 (.node tq0 (.node ⟨.tuple [73, 4], 1, none, none⟩ (.node tq28 (.node tq0 .nil .nil) (.node ⟨.arr 65 5, 65, some (.agg lf14), some (List.replicate 65 (.int .u8 0))⟩ .nil .nil)) (.node tq7 (.node tq0 .nil .nil) .nil)) (.node tq0 (.node tq0 (.node tq0 .nil .nil) (.node tq51 .nil .nil)) (.node ⟨.tuple [233, 4], 1, none, none⟩ (.node ⟨.slice 364, 1, some (.one (.slice)), some [.slice none 0 0]⟩ .nil .nil) .nil))) (.node tq0 (.node tq0 (.node tq0 (.node ⟨.slice 285, 1, some (.one (.slice)), some [.slice none 0 0]⟩ .nil .nil) (.node tq0 .nil .nil)) (.node tq0 (.node tq0 .nil .nil) .nil)) (.node tq0 (.node tq33 (.node tq17 .nil .nil) .nil) (.node tq40 (.node tq0 .nil .nil) .nil))))) (.node tq6 (.node tq11 (.node tq0 (.node ⟨.map 3 38, 1, some (.one (.map)), some [.map none]⟩ (.node ⟨.slice 138, 1, some (.one (.slice)), some [.slice none 0 0]⟩ (.node tq0 .nil .nil) (.node tq0 .nil .nil)) (.node tq17 (.node tq7 .nil .nil) .nil)) (.node tq24 (.node tq30 (.node ⟨.arr 4 3, 4, some (.agg [.int .i64, .int .i64, .int .i64, .int .i64]), some [.int .i64 0, .int .i64 0, .int .i64 0, .int .i64 0]⟩ .nil .nil) (.node tq0 .nil .nil)) (.node tq0 (.node tq0 .nil .nil) .nil))) (.node tq0 (.node tq7 (.node tq0 (.node tq44 .nil .nil) (.node tq0 .nil .nil)) (.node tq0 (.node ⟨.tuple [3, 341], 1, none, none⟩ .nil .nil) .nil)) (.node tq0 (.node ⟨.map 9 250, 1, some (.one (.map)), some [.map none]⟩ (.node ⟨.tuple [177, 4], 1, none, none⟩ .nil .nil) .nil) (.node tq38 (.node tq0 .nil .nil) .nil)))) (.node tq0 (.node ⟨.slice 3, 1, some (.one (.slice)), some [.slice none 0 0]⟩ (.node tq7 (.node tq0 (.node tq42 .nil .nil) (.node tq0 .nil .nil)) (.node tq9 (.node tq0 .nil .nil) .nil)) (.node tq26 (.node tq0 (.node tq0 .nil .nil) (.node tq0 .nil .nil)) (.node tq0 (.node tq0 .nil .nil) .nil))) (.node tq0 (.node tq21 (.node ⟨.slice 265, 1, some (.one (.slice)), some [.slice none 0 0]⟩ (.node tq0 .nil .nil) (.node tq0 .nil .nil)) (.node ⟨.tuple [138, 4], 1, none, none⟩ (.node tq5 .nil .nil) .nil)) (.node ⟨.tuple [3, 26], 1, none, none⟩ (.node ⟨.slice 314, 1, some (.one (.slice)), some [.slice none 0 0]⟩ (.node tq46 .nil .nil) .nil) (.node tq41 (.node tq0 .nil .nil) .nil)))))))), (.node none (.node none (.node none (.node (some (.one (.one (.bool)))) (.node (some (.one (.one (.str)))) (.node (some (.one (.one (.slice)))) (.node (some (.one (.one (.str)))) (.node (some (.tup [(.one (.str)), (.one (.bool))])) .nil .nil) (.node (some (.one (.one (.int .i64)))) .nil .nil)) (.node (some (.tup [(.agg lf5), (.one (.bool))])) .nil (.node (some (.tup [])) .nil .nil))) (.node (some (.one (.one (.ptr)))) (.node (some (.one (.one (.bool)))) (.node (some (.one (.one (.func)))) (.node (some (.one (.one (.int .i64)))) .nil .nil) .nil) (.node (some (.one (.one (.slice)))) .nil .nil)) (.node (some (.one (.one (.bool)))) (.node (some (.one (.one (.bool)))) .nil .nil) (.node (some (.tup [])) .nil .nil)))) (.node (some (.one (.one (.ptr)))) (.node (some (.one (.one (.slice)))) (.node none (.node (some (.one (.one (.func)))) .nil .nil) (.node (some (.one (.one (.func)))) .nil .nil)) (.node (some (.tup [])) .nil .nil)) (.node (some (.one (.one (.bool)))) (.node (some (.one (.one (.int .i64)))) (.node (some (.one (.one (.func)))) .nil .nil) .nil) (.node (some (.tup [])) (.node (some (.tup [(.one (.int .i64)), (.one (.bool))])) .nil .nil) (.node (some (.tup [])) .nil .nil))))) (.node (some (.one (.one (.slice)))) (.node (some (.one (.one (.bool)))) (.node (some (.one (.one (.slice)))) (.node (some (.one (.one (.slice)))) (.node (some (.one (.one (.ptr)))) .nil .nil) (.node (some (.one (.one (.slice)))) .nil .nil)) (.node none (.node (some (.one (.one (.int .i64)))) .nil .nil) .nil)) (.node (some (.tup [(.agg lf4), (.one (.bool))])) (.node (some (.one (.one (.slice)))) (.node (some (.tup [(.agg lf9), (.one (.bool))])) (.node (some (.tup [])) .nil .nil) .nil) (.node (some (.tup [])) .nil .nil)) (.node none (.node (some (.one (.one (.slice)))) .nil .nil) (.node (some (.one (.one (.func)))) .nil .nil)))) (.node (some (.one (.one (.str)))) (.node (some (.tup [(.one (.slice)), (.one (.slice))])) (.node (some (.one (.one (.str)))) (.node (some (.tup [(.one (.int .i64)), (.one (.bool))])) .nil .nil) (.node (some (.one (.one (.slice)))) .nil .nil)) (.node (some (.one (.one (.bool)))) (.node (some (.tup [(.one (.int .i64)), (.one (.iface))])) .nil .nil) (.node (some (.tup [])) .nil .nil))) (.node (some (.one (.one (.bool)))) (.node (some (.tup [(.agg [.str, .str, .slice, .int .i64]), (.one (.int .i64)), (.one (.bool))])) (.node (some (.one (.one (.bool)))) (.node (some (.tup [])) .nil .nil) .nil) .nil) (.node none .nil (.node (some (.one (.one (.slice)))) .nil .nil)))))) (.node none (.node none (.node (some (.tup [(.one (.int .i64)), (.one (.int .i64)), (.one (.int .i64)), (.one (.int .i64))])) (.node (some (.one (.one (.slice)))) (.node (some (.one (.one (.str)))) (.node (some (.one (.agg [.int .i64, .int .i64, .int .i64, .str]))) .nil .nil) (.node (some (.one (.one (.slice)))) .nil .nil)) .nil) (.node (some (.one (.one (.ptr)))) (.node (some (.one (.one (.slice)))) (.node (some (.one (.one (.slice)))) (.node (some (.one (.one (.slice)))) .nil .nil) .nil) (.node (some (.one (.one (.func)))) .nil .nil)) (.node (some (.one (.one (.int .i64)))) .nil (.node (some (.tup [])) .nil .nil)))) (.node none (.node none (.node (some (.one (.one (.slice)))) .nil (.node (some (.one (.one (.func)))) .nil .nil)) (.node (some (.one (.one (.slice)))) (.node (some (.one (.one (.func)))) .nil .nil) .nil)) (.node (some (.one (.one (.bool)))) (.node (some (.tup [(.one (.str)), (.one (.bool))])) (.node (some (.one (.agg [.slice, .slice]))) .nil .nil) .nil) (.node (some (.tup [])) (.node (some (.tup [])) .nil .nil) (.node (some (.one (.one (.int .i64)))) .nil .nil))))) (.node none (.node (some (.one (.one (.ptr)))) (.node (some (.one (.one (.slice)))) (.node none (.node (some (.tup [(.agg [.int .i64, .int .i64, .int .i64, .str]), (.one (.bool))])) .nil .nil) (.node (some (.tup [(.one (.str)), (.one (.str))])) .nil .nil)) (.node (some (.tup [(.one (.slice)), (.one (.slice))])) (.node (some (.one (.one (.int .i64)))) .nil .nil) .nil)) (.node (some (.one (.one (.bool)))) (.node (some (.one (.one (.slice)))) (.node (some (.tup [(.agg lf10), (.one (.bool))])) .nil .nil) .nil) (.node none .nil (.node (some (.one (.one (.bool)))) .nil .nil)))) (.node (some (.one (.one (.slice)))) (.node (some (.one (.one (.ptr)))) (.node (some (.one (.one (.int .i64)))) (.node (some (.tup [(.one (.slice)), (.one (.int .i64))])) .nil .nil) (.node (some (.one (.one (.str)))) .nil .nil)) (.node (some (.one (.one (.bool)))) (.node (some (.one (.one (.bool)))) .nil .nil) (.node (some (.one (.one (.int .i64)))) .nil .nil))) (.node (some (.one (.one (.int .i64)))) (.node (some (.one (.one (.str)))) (.node (some (.one (.one (.slice)))) .nil .nil) .nil) (.node (some (.tup [(.agg [.slice, .slice]), (.one (.bool))])) (.node (some (.one (.one (.func)))) .nil .nil) (.node (some (.one (.one (.func)))) .nil .nil))))))) (.node none (.node none (.node (some (.tup [(.one (.ptr)), (.one (.int .i64))])) (.node none (.node (some (.one (.one (.slice)))) (.node (some (.one (.one (.str)))) (.node (some (.one (.one (.bool)))) .nil .nil) (.node (some (.tup [])) .nil .nil)) (.node (some (.one (.one (.int .i64)))) .nil .nil)) (.node (some (.one (.one (.bool)))) (.node (some (.one (.one (.int .i64)))) (.node (some (.one (.one (.slice)))) (.node (some (.one (.one (.slice)))) .nil .nil) .nil) .nil) (.node (some (.one (.one (.int .i64)))) .nil (.node (some (.one (.one (.slice)))) .nil .nil)))) (.node (some (.one (.one (.ptr)))) (.node (some (.one (.one (.slice)))) (.node (some (.one (.one (.str)))) (.node (some (.one (.one (.slice)))) .nil .nil) (.node (some (.tup [])) .nil .nil)) (.node (some (.one (.one (.slice)))) .nil .nil)) (.node (some (.one (.one (.bool)))) (.node (some (.tup [(.agg lf0), (.one (.int .i64)), (.one (.int .i64)), (.one (.bool))])) (.node (some (.one (.one (.func)))) .nil .nil) .nil) (.node (some (.one (.one (.int .i64)))) (.node (some (.one (.one (.bool)))) .nil .nil) (.node (some (.one (.one (.slice)))) .nil .nil))))) (.node (some (.tup [(.one (.ptr)), (.one (.bool))])) (.node (some (.one (.one (.ptr)))) (.node (some (.one (.one (.slice)))) (.node (some (.tup [(.one (.int .i64)), (.one (.int .i64))])) (.node (some (.one (.one (.int .i64)))) .nil .nil) (.node (some (.one (.one (.slice)))) .nil .nil)) (.node none (.node (some (.one (.one (.ptr)))) .nil .nil) (.node (some (.one (.one (.int .i64)))) .nil .nil))) (.node (some (.one (.one (.bool)))) (.node (some (.one (.one (.slice)))) (.node (some (.one (.one (.str)))) (.node (some (.tup [])) .nil .nil) .nil) .nil) (.node none .nil (.node (some (.one (.one (.str)))) .nil .nil)))) (.node (some (.one (.one (.str)))) (.node (some (.tup [(.one (.int .i64)), (.one (.int .i64)), (.one (.int .i64)), (.one (.int .i64))])) (.node none (.node (some (.one (.one (.slice)))) .nil .nil) (.node (some (.one (.one (.slice)))) .nil .nil)) (.node (some (.tup [(.one (.str)), (.one (.int .i64)), (.one (.bool))])) (.node (some (.one (.one (.bool)))) .nil .nil) (.node (some (.one (.one (.int .i64)))) .nil .nil))) (.node (some (.one (.one (.int .i64)))) (.node (some (.tup [(.agg [.slice, .slice]), (.one (.int .i64))])) (.node (some (.one (.one (.slice)))) (.node (some (.tup [])) .nil .nil) .nil) .nil) (.node none (.node (some (.one (.one (.slice)))) .nil .nil) (.node (some (.tup [])) .nil .nil)))))) (.node (some (.one (.one (.bool)))) (.node (some (.one (.one (.int .i64)))) (.node (some (.one (.one (.int .i64)))) (.node (some (.one (.one (.slice)))) (.node (some (.tup [(.one (.int .i64)), (.one (.int .i64))])) (.node (some (.one (.agg [.int .i64, .int .i64, .int .i64, .str]))) .nil .nil) (.node (some (.one (.one (.func)))) .nil .nil)) .nil) (.node (some (.one (.one (.ptr)))) (.node (some (.tup [(.one (.slice)), (.one (.int .i64))])) (.node (some (.tup [])) .nil .nil) (.node (some (.one (.one (.int .i64)))) .nil .nil)) (.node none .nil (.node (some (.tup [])) .nil .nil)))) (.node (some (.one (.one (.int .i64)))) (.node (some (.tup [(.one (.ptr)), (.one (.bool))])) (.node (some (.one (.one (.slice)))) (.node (some (.one (.one (.int .i64)))) .nil .nil) (.node (some (.one (.one (.slice)))) .nil .nil)) (.node (some (.one (.one (.bool)))) (.node (some (.one (.one (.int .i64)))) .nil .nil) .nil)) (.node (some (.one (.one (.bool)))) (.node (some (.one (.one (.ptr)))) (.node (some (.tup [(.one (.slice)), (.one (.slice))])) .nil .nil) .nil) (.node (some (.one (.agg [.str, .str, .slice, .int .i64]))) (.node (some (.one (.one (.str)))) .nil .nil) (.node (some (.one (.one (.bool)))) .nil .nil))))) (.node (some (.one (.one (.int .i64)))) (.node (some (.one (.one (.ptr)))) (.node (some (.one (.one (.slice)))) (.node (some (.one (.one (.slice)))) (.node (some (.one (.one (.int .i64)))) .nil .nil) (.node (some (.tup [])) .nil .nil)) (.node (some (.one (.one (.bool)))) (.node (some (.one (.one (.int .i64)))) .nil .nil) .nil)) (.node (some (.one (.one (.bool)))) (.node (some (.tup [])) (.node (some (.tup [(.one (.str)), (.one (.int .i64))])) .nil .nil) .nil) (.node (some (.one (.one (.int .i64)))) (.node (some (.tup [(.agg [.slice, .slice]), (.one (.bool))])) .nil .nil) (.node (some (.tup [])) .nil .nil)))) (.node (some (.one (.one (.slice)))) (.node (some (.one (.one (.bool)))) (.node (some (.one (.one (.str)))) (.node (some (.tup [])) (.node (some (.tup [])) .nil .nil) .nil) (.node (some (.one (.one (.int .i64)))) .nil .nil)) (.node (some (.one (.one (.bool)))) (.node (some (.one (.one (.bool)))) .nil .nil) (.node (some (.one (.one (.slice)))) .nil .nil))) (.node (some (.one (.one (.str)))) (.node (some (.one (.agg [.slice, .slice]))) .nil .nil) (.node (some (.one (.one (.str)))) (.node (some (.one (.one (.int .i64)))) .nil .nil) .nil)))))))⟩
theorem Tok : TbOk Pr Dt := zoe (by kernel_rfl) (by kernel_rfl) (by kernel_rfl)
theorem C_of {f : FuncId} {fn : Func} {an : Ann} {args : List SV} {F : PT} {K : Value → PT} {w : World} (h1 : Pr.funcs[f]? = some fn) (h2 : okF args.length fn = true) (h3 : denF Pr Dt fn an args K = F) (h : F w) : CT Pr f (vals args) K w := zoG Tok h1 h2 ((congrFun h3 w).mpr h)
def z8u : Ann := (.seq .auto (.seq .auto (.seq .auto (.seq .auto (.seq .auto (.seq .auto (.seq .auto (.seq (.seq .auto (.one [(9, (.one (.int .i64)))] .auto) none) (.seq (.seq .auto (.one [(11, (.one (.int .i64)))] (.seq .auto (.seq (.seq .auto (.seq (.seq .auto (.cond .auto .auto) none) (.seq .auto (.one [(13, (.one (.int .i64)))] .auto) none) (some [])) none) .auto none) none)) none) .auto none) none) none) none) none) none) none) none) none)
def z5g (p0 : Int) (p1 : Int) (K : Value → PT) : PT :=
 L.call Pr z52 [] rB fun (x1 : Bool) =>
 L.ite (!x1) (
  K (.bool false)) <|
 L.call Pr z3a [.int .i64 p0, .int .i64 50] rI fun (x2 : Int) =>
 L.call Pr z50 [.agg #[.string s_, .int .i64 0, .int .i64 1, .int .i64 0, .int .i64 1, .int .i64 1], .int .i64 3, .int .i64 3, .int .i64 (IntKind.wrap .i64 (1 + x2))] (.tup [eP6, eB6]) fun (x3 : Option Addr × Bool × Unit) =>
 L.ite ((x3.1).isNone) (
  K (.bool false)) <|
 L.ite (!x3.2.1) (
  K (.bool false)) <|
 L.call Pr z05 [.pointer x3.1, .agg #[.int .i64 8, .string s_, .string s_, .int .i64 1, .int .i64 0, .string s_, .int .i64 0, .int .i64 0, .int .i64 0, .int .i64 0, .int .i64 0, .string s_, .string s_, .slice none 0 0, .int .i64 0]] rL fun (x4 : Sl) =>
 L.call Pr z3a [.int .i64 p1, .int .i64 3] rI fun (x5 : Int) =>
 L.loop (Y := Int × Unit) (1, ()) fun y6 again7 =>
 L.ite (decide (y6.1 ≤ (IntKind.wrap .i64 (1 + x5)))) (
  L.call Pr z05 [.pointer x3.1, .agg #[.int .i64 4, .string z4A, .string s_, .int .i64 y6.1, .int .i64 0, .string s_, .int .i64 0, .int .i64 0, .int .i64 0, .int .i64 0, .int .i64 0, .string s_, .string s_, .slice none 0 0, .int .i64 0]] rL fun (x8 : Sl) =>
  L.draw <|
  L.ite (decide (((x8.len : Nat) : Int) < 1)) (
   K (.bool false)) <|
  L.idx x8.a 0 x8.len 1 fun a9 =>
  L.load eS6 a9 fun (x10 : ByteArray) =>
  L.call Pr z1p [.int .i64 y6.1] rS fun (x11 : ByteArray) =>
  L.chk a9 [.string x10] <|
  L.guard (((s_waits__c0ad.size + x11.size : Nat) : Int) ≤ maxI64) <|
  L.ite (!(x10.toList == (s_waits__c0ad ++ x11).toList)) (
   K (.bool false)) <|
  again7 (IntKind.wrap .i64 (y6.1 + 1), ())) <|
 L.loop (Y := Int × Unit) (1, ()) fun y12 again13 =>
 L.ite (decide (y12.1 ≤ (IntKind.wrap .i64 (1 + x2)))) (
  L.call Pr z05 [.pointer x3.1, .agg #[.int .i64 9, .string s_, .string s_, .int .i64 0, .int .i64 0, .string s_, .int .i64 0, .int .i64 0, .int .i64 0, .int .i64 0, .int .i64 0, .string s_, .string s_, .slice none 0 0, .int .i64 0]] rL fun (x14 : Sl) =>
  L.join (Y := Unit) (fun k15 =>
   L.ite (decide (y12.1 < (IntKind.wrap .i64 (1 + x2)))) (
    L.ite (((x14.len : Nat) : Int) != 1) (
     K (.bool false)) <|
    L.ite (y12.1 == (IntKind.wrap .i64 (1 + x2))) (
     L.ite (((x14.len : Nat) : Int) != (IntKind.wrap .i64 (1 + (IntKind.wrap .i64 (1 + x5))))) (
      K (.bool false)) <|
     k15 (())) <|
    k15 (())) <|
   L.ite (y12.1 == (IntKind.wrap .i64 (1 + x2))) (
    L.ite (((x14.len : Nat) : Int) != (IntKind.wrap .i64 (1 + (IntKind.wrap .i64 (1 + x5))))) (
     K (.bool false)) <|
    k15 (())) <|
   k15 (())) fun z16 =>
  L.loop (Y := Int × Unit) (1, ()) fun y17 again18 =>
  L.ite (decide (y17.1 < ((x14.len : Nat) : Int))) (
   L.draw <|
   L.idx x14.a y17.1 x14.len 1 fun a19 =>
   L.load eS6 a19 fun (x20 : ByteArray) =>
   L.call Pr z1p [.int .i64 y17.1] rS fun (x21 : ByteArray) =>
   L.chk a19 [.string x20] <|
   L.guard (((s_refused__3bb3.size + x21.size : Nat) : Int) ≤ maxI64) <|
   L.guard ((((s_refused__3bb3 ++ x21).size + s__timeout_d08c.size : Nat) : Int) ≤ maxI64) <|
   L.ite (!(x20.toList == ((s_refused__3bb3 ++ x21) ++ s__timeout_d08c).toList)) (
    K (.bool false)) <|
   again18 (IntKind.wrap .i64 (y17.1 + 1), ())) <|
  again13 (IntKind.wrap .i64 (y12.1 + 1), ())) <|
 L.call Pr z3L [.pointer x3.1] (.tup [eI6, eI6, eI6, eI6]) fun (x22 : Int × Int × Int × Int × Unit) =>
 L.ite (x22.1 == (IntKind.wrap .i64 (1 + x5))) (
  L.ite (x22.2.1 == 0) (
   L.ite (x22.2.2.1 == 0) (
    K (.bool (x22.2.2.2.1 == (IntKind.wrap .i64 (1 + x5))))) <|
   K (.bool false)) <|
  K (.bool false)) <|
 K (.bool false)
theorem z8s (p0 : Int) (p1 : Int) {K : Value → PT} {w : World} (h : z5g p0 p1 K w) : CT Pr z5e [.int .i64 p0, .int .i64 p1] K w :=
 C_of (fn := Tryz.f6) (an := z8u) (args := [.v (.int .i64 p0), .v (.int .i64 p1)]) (by kernel_rfl) (by kernel_rfl) (by kernel_rfl) h
def z7s  (K : Value → PT) : PT :=
 L.call Pr z7O [.int .i64 3, .int .i64 2, .int .i64 5] (.tup [eP6, eI6]) fun (x1 : Option Addr × Int × Unit) =>
 L.ite ((x1.1).isNone) (
  K (.bool false)) <|
 L.ite (x1.2.1 != 0) (
  K (.bool false)) <|
 L.call Pr z05 [.pointer x1.1, .agg #[.int .i64 0, .string s_, .string s_, .int .i64 0, .int .i64 0, .string s_, .int .i64 0, .int .i64 0, .int .i64 0, .int .i64 0, .int .i64 0, .string s_, .string s_, .slice none 0 0, .int .i64 0]] rL fun (x2 : Sl) =>
 L.call Pr z05 [.pointer x1.1, .agg #[.int .i64 9, .string s_, .string s_, .int .i64 0, .int .i64 0, .string s_, .int .i64 0, .int .i64 0, .int .i64 0, .int .i64 0, .int .i64 0, .string s_, .string s_, .slice none 0 0, .int .i64 0]] rL fun (x3 : Sl) =>
 L.ite (((x2.len : Nat) : Int) == 1) (
  L.idx x2.a 0 x2.len 1 fun a4 =>
  L.load eS6 a4 fun (x5 : ByteArray) =>
  L.ite (x5.toList == s_bad_kind.toList) (
   L.ite (((x3.len : Nat) : Int) == 1) (
    L.idx x3.a 0 x3.len 1 fun a6 =>
    L.load eS6 a6 fun (x7 : ByteArray) =>
    L.ite (x7.toList == s_tick_1.toList) (
     L.call Pr z4V [.pointer x1.1] rI fun (x8 : Int) =>
     K (.bool (x8 == 1))) <|
    K (.bool false)) <|
   K (.bool false)) <|
  K (.bool false)) <|
 K (.bool false)
theorem zbj  {K : Value → PT} {w : World} (h : z7s  K w) : CT Pr z52 [] K w :=
 C_of (fn := Tryz.f7) (an := .auto) (args := []) (by kernel_rfl) (by kernel_rfl) (by kernel_rfl) h
def zd9 (p0 : Int) (p1 : Int) (p2 : Int) (K : Value → PT) : PT :=
 L.call Pr z2y [.int .i64 p0, .int .i64 1, .int .i64 30] rB fun (x1 : Bool) =>
 L.ite (!x1) (
  K (.tuple #[.pointer none, .int .i64 2])) <|
 L.call Pr z2y [.int .i64 p1, .int .i64 0, .int .i64 8] rB fun (x2 : Bool) =>
 L.ite (!x2) (
  K (.tuple #[.pointer none, .int .i64 2])) <|
 L.call Pr z2y [.int .i64 p2, .int .i64 1, .int .i64 50] rB fun (x3 : Bool) =>
 L.ite (!x3) (
  K (.tuple #[.pointer none, .int .i64 2])) <|
 L.call Pr zaY [.int .i64 p0] rP fun (x4 : Option Addr) =>
 L.call Pr zaW [] rP fun (x5 : Option Addr) =>
 L.call Pr zaV [] rP fun (x6 : Option Addr) =>
 L.call Pr zcD [] rP fun (x7 : Option Addr) =>
 L.call Pr zcE [.pointer x4, .int .i64 p1, .int .i64 p2] rP fun (x8 : Option Addr) =>
 L.sem Pr (.one (.one .map)) (Instr.makeMap z0O none) fun (m9 : Option Nat) =>
 L.new [.pointer x5, .pointer x6, .pointer x7, .pointer x4, .pointer x8, .map m9, .int .i64 0] z9K fun b10 =>
 K (.tuple #[.pointer (some (⟨b10, 0, none⟩)), .int .i64 0])
theorem zhX (p0 : Int) (p1 : Int) (p2 : Int) {K : Value → PT} {w : World} (h : zd9 p0 p1 p2 K w) : CT Pr z7O [.int .i64 p0, .int .i64 p1, .int .i64 p2] K w :=
 C_of (fn := Tryz.f8) (an := .auto) (args := [.v (.int .i64 p0), .v (.int .i64 p1), .v (.int .i64 p2)]) (by kernel_rfl) (by kernel_rfl) (by kernel_rfl) h
def zaF : Ann := (.seq .auto (.seq .auto (.seq .auto .auto (some [(5, (.one (.int .i64)))])) none) none)
def z6I (p0 : Int) (p1 : Int) (K : Value → PT) : PT :=
 L.guard (p1 ≠ (0 : Int)) <|
 L.join (Y := Int × Unit) (fun k1 =>
  L.ite (decide ((Int.tmod p0 p1) < 0)) (
   k1 (IntKind.wrap .i64 ((Int.tmod p0 p1) + p1), ())) <|
  k1 (Int.tmod p0 p1, ())) fun z2 =>
 K (.int .i64 z2.1)
theorem zaz (p0 : Int) (p1 : Int) {K : Value → PT} {w : World} (h : z6I p0 p1 K w) : CT Pr z3a [.int .i64 p0, .int .i64 p1] K w :=
 C_of (fn := Tryz.f10) (an := zaF) (args := [.v (.int .i64 p0), .v (.int .i64 p1)]) (by kernel_rfl) (by kernel_rfl) (by kernel_rfl) h
def z5H (p0 : Option Addr) (p1 : ht1) (K : Value → PT) : PT :=
 L.new [.int .i64 p1.1, .string p1.2.1, .string p1.2.2.1, .int .i64 p1.2.2.2.1, .int .i64 p1.2.2.2.2.1, .string p1.2.2.2.2.2.1, .int .i64 p1.2.2.2.2.2.2.1, .int .i64 p1.2.2.2.2.2.2.2.1, .int .i64 p1.2.2.2.2.2.2.2.2.1, .int .i64 p1.2.2.2.2.2.2.2.2.2.1, .int .i64 p1.2.2.2.2.2.2.2.2.2.2.1, .string p1.2.2.2.2.2.2.2.2.2.2.2.1, .string p1.2.2.2.2.2.2.2.2.2.2.2.2.1, .slice p1.2.2.2.2.2.2.2.2.2.2.2.2.2.1.a p1.2.2.2.2.2.2.2.2.2.2.2.2.2.1.len p1.2.2.2.2.2.2.2.2.2.2.2.2.2.1.cap, .int .i64 p1.2.2.2.2.2.2.2.2.2.2.2.2.2.2.1] z0D fun b1 =>
 L.load (.agg lf1) (⟨b1, 0, none⟩) fun (x2 : pt1) =>
 L.call Pr z8H [(qa1 x2)] rI fun (x3 : Int) =>
 L.ite (x3 != 0) (
  L.call Pr z4o [.int .i64 x3] rS fun (x4 : ByteArray) =>
  L.new [.string x4] z00 fun b5 =>
  L.call Pr z0f [.string zlf, .slice (some ⟨b5, 0, none⟩) 1 1] rS fun (x6 : ByteArray) =>
  L.new [.string x6] z00 fun b7 =>
  K (.slice (some ⟨b7, 0, none⟩) 1 1)) <|
 L.sem Pr (.one (.one .map)) (Instr.makeMap z02 none) fun (m8 : Option Nat) =>
 L.semU Pr (Instr.mapUpdate z02 (.map m8) (.int .i64 1) (.func (.func z1x) #[.pointer p0] #[])) <|
 L.semU Pr (Instr.mapUpdate z02 (.map m8) (.int .i64 2) (.func (.func z1F) #[.pointer p0] #[])) <|
 L.semU Pr (Instr.mapUpdate z02 (.map m8) (.int .i64 3) (.func (.func z4B) #[.pointer p0] #[])) <|
 L.semU Pr (Instr.mapUpdate z02 (.map m8) (.int .i64 4) (.func (.func z1y) #[.pointer p0] #[])) <|
 L.semU Pr (Instr.mapUpdate z02 (.map m8) (.int .i64 5) (.func (.func z4C) #[.pointer p0] #[])) <|
 L.semU Pr (Instr.mapUpdate z02 (.map m8) (.int .i64 6) (.func (.func z2m) #[.pointer p0] #[])) <|
 L.semU Pr (Instr.mapUpdate z02 (.map m8) (.int .i64 7) (.func (.func z0Y) #[.pointer p0] #[])) <|
 L.semU Pr (Instr.mapUpdate z02 (.map m8) (.int .i64 8) (.func (.func z0Y) #[.pointer p0] #[])) <|
 L.semU Pr (Instr.mapUpdate z02 (.map m8) (.int .i64 9) (.func (.func z1P) #[.pointer p0] #[])) <|
 L.semU Pr (Instr.mapUpdate z02 (.map m8) (.int .i64 10) (.func (.func z1E) #[.pointer p0] #[])) <|
 L.semU Pr (Instr.mapUpdate z02 (.map m8) (.int .i64 11) (.func (.func z1Q) #[.pointer p0] #[])) <|
 L.semU Pr (Instr.mapUpdate z02 (.map m8) (.int .i64 12) (.func (.func z42) #[.pointer p0] #[])) <|
 L.semU Pr (Instr.mapUpdate z02 (.map m8) (.int .i64 13) (.func (.func z1u) #[.pointer p0] #[])) <|
 L.load eI6 ((⟨b1, 0, none⟩ : Addr).add 0) fun (x9 : Int) =>
 L.semR Pr (.one (.one (.func))) (Instr.lookup z02 (.map m8) (.int .i64 x9) false) fun (x10 : FV) =>
 L.load (.agg lf1) (⟨b1, 0, none⟩) fun (x11 : pt1) =>
 L.callV Pr (.func x10.fn x10.fs x10.cs) [(qa1 x11)] rL fun (x12 : Sl) =>
 K (.slice x12.a x12.len x12.cap)
theorem z84 (p0 : Option Addr) (p1 : ht1) {K : Value → PT} {w : World} (h : z5H p0 p1 K w) : CT Pr z05 [.pointer p0, (.ag (qc1 p1) : SV).toV] K w :=
 C_of (fn := Tryz.f11) (an := .auto) (args := [.v (.pointer p0), .ag (qc1 p1)]) (by kernel_rfl) (by kernel_rfl) (by kernel_rfl) h
def zbo : Ann := (.seq .auto (.seq .auto (.seq .auto (.seq .auto (.seq .auto (.seq .auto (.seq (.seq .auto (.one [(13, (.one (.str))), (14, (.one (.int .i64)))] .auto) none) .auto none) none) none) none) none) none) none)
def z7r (p0 : ht0) (p1 : Int) (p2 : Int) (p3 : Int) (K : Value → PT) : PT :=
 L.new [.string p0.1, .int .i64 p0.2.1, .int .i64 p0.2.2.1, .int .i64 p0.2.2.2.1, .int .i64 p0.2.2.2.2.1, .int .i64 p0.2.2.2.2.2.1] z0g fun b1 =>
 L.call Pr z7O [.int .i64 p1, .int .i64 p2, .int .i64 p3] (.tup [eP6, eI6]) fun (x2 : Option Addr × Int × Unit) =>
 L.ite ((x2.1).isNone) (
  K (.tuple #[.pointer none, .bool false])) <|
 L.ite (x2.2.1 != 0) (
  K (.tuple #[.pointer none, .bool false])) <|
 L.store ((⟨b1, 0, none⟩ : Addr).add 0) [.string z9s] <|
 L.load (.agg lf0) (⟨b1, 0, none⟩) fun (x3 : pt0) =>
 L.new [.string s_, .string s_, .int .i64 100] z07 fun b4 =>
 L.new [.int .i64 1, .string s_, .string s_, .int .i64 0, .int .i64 0, .string x3.1, .int .i64 x3.2.1, .int .i64 x3.2.2.1, .int .i64 x3.2.2.2.1, .int .i64 x3.2.2.2.2.1, .int .i64 x3.2.2.2.2.2.1, .string s_, .string s_, .slice none 0 0, .int .i64 0, .int .i64 2, .string s_, .string s_, .int .i64 0, .int .i64 0, .string s_, .int .i64 0, .int .i64 0, .int .i64 0, .int .i64 0, .int .i64 0, .string z4A, .string z9s, .slice (some ⟨b4, 0, none⟩) 1 1, .int .i64 0, .int .i64 10, .string z9s, .string s_, .int .i64 0, .int .i64 0, .string s_, .int .i64 0, .int .i64 0, .int .i64 0, .int .i64 0, .int .i64 0, .string s_, .string s_, .slice none 0 0, .int .i64 0, .int .i64 13, .string z4z, .string s_, .int .i64 0, .int .i64 0, .string s_, .int .i64 0, .int .i64 0, .int .i64 0, .int .i64 0, .int .i64 0, .string s_, .string s_, .slice none 0 0, .int .i64 0, .int .i64 6, .string s_, .string s_, .int .i64 1, .int .i64 0, .string s_, .int .i64 0, .int .i64 0, .int .i64 0, .int .i64 0, .int .i64 0, .string s_, .string s_, .slice none 0 0, .int .i64 0, .int .i64 11, .string z4A, .string s_, .int .i64 0, .int .i64 0, .string s_, .int .i64 0, .int .i64 0, .int .i64 0, .int .i64 0, .int .i64 0, .string s_, .string s_, .slice none 0 0, .int .i64 0] z0D fun b5 =>
 L.loop (Y := ByteArray × Int × Unit) (s_, 0, ()) fun y6 again7 =>
 L.ite (decide (y6.2.1 < ((6 : Nat) : Int))) (
  L.idx (some ⟨b5, 0, none⟩) y6.2.1 6 15 fun a8 =>
  L.load (.agg lf1) a8 fun (x9 : pt1) =>
  L.call Pr z05 [.pointer x2.1, (qa1 x9)] rL fun (x10 : Sl) =>
  L.ite (((x10.len : Nat) : Int) == 0) (
   K (.tuple #[.pointer x2.1, .bool false])) <|
  L.idx x10.a (IntKind.wrap .i64 (((x10.len : Nat) : Int) - 1)) x10.len 1 fun a11 =>
  L.load eS6 a11 fun (x12 : ByteArray) =>
  again7 (x12, IntKind.wrap .i64 (y6.2.1 + 1), ())) <|
 K (.tuple #[.pointer x2.1, .bool (y6.1.toList == s_table_front_web_1_100.toList)])
theorem zbi (p0 : ht0) (p1 : Int) (p2 : Int) (p3 : Int) {K : Value → PT} {w : World} (h : z7r p0 p1 p2 p3 K w) : CT Pr z50 [(.ag (qc0 p0) : SV).toV, .int .i64 p1, .int .i64 p2, .int .i64 p3] K w :=
 C_of (fn := Tryz.f12) (an := zbo) (args := [.ag (qc0 p0), .v (.int .i64 p1), .v (.int .i64 p2), .v (.int .i64 p3)]) (by kernel_rfl) (by kernel_rfl) (by kernel_rfl) h
def z6C (p0 : Option Addr) (p1 : ByteArray) (K : Value → PT) : PT :=
 L.nonnil p0 fun a1 =>
 L.load (.one (.map)) (a1.add 5) fun (x2 : Option Nat) =>
 L.call Pr z1V [.map x2, .string p1] (.tup [eP6, eB6]) fun (x3 : Option Addr × Bool × Unit) =>
 L.ite x3.2.1 (
  L.nonnil x3.1 fun a4 =>
  L.load eI6 ((a4.add 1).add 0) fun (x5 : Int) =>
  K (.int .i64 x5)) <|
 K (.int .i64 0)
theorem zat (p0 : Option Addr) (p1 : ByteArray) {K : Value → PT} {w : World} (h : z6C p0 p1 K w) : CT Pr z4D [.pointer p0, .string p1] K w :=
 C_of (fn := Tryz.f14) (an := .auto) (args := [.v (.pointer p0), .v (.string p1)]) (by kernel_rfl) (by kernel_rfl) (by kernel_rfl) h
def z7q (p0 : Int) (K : Value → PT) : PT :=
 L.ite (decide (p0 < 0)) (
  L.call Pr z1p [.int .i64 (IntKind.wrap .i64 (0 - p0))] rS fun (x1 : ByteArray) =>
  L.guard (((s__.size + x1.size : Nat) : Int) ≤ maxI64) <|
  K (.string (s__ ++ x1))) <|
 L.ite (decide (p0 ≥ 10)) (
  L.guard (10 ≠ (0 : Int)) <|
  L.call Pr z1p [.int .i64 (IntKind.wrap .i64 (Int.tdiv p0 10))] rS fun (x2 : ByteArray) =>
  L.guard (10 ≠ (0 : Int)) <|
  L.call Pr z1p [.int .i64 (Int.tmod p0 10)] rS fun (x3 : ByteArray) =>
  L.guard (((x2.size + x3.size : Nat) : Int) ≤ maxI64) <|
  K (.string (x2 ++ x3))) <|
 L.new [.int .u8 (IntKind.wrap .u8 (IntKind.wrap .i64 (48 + p0)))] zep fun b4 =>
 L.sem Pr rS (convert zhD z00 (.slice (some ⟨b4, 0, none⟩) 1 1)) fun (x5 : ByteArray) =>
 K (.string x5)
theorem zbh (p0 : Int) {K : Value → PT} {w : World} (h : z7q p0 K w) : CT Pr z1p [.int .i64 p0] K w :=
 C_of (fn := Tryz.f15) (an := .auto) (args := [.v (.int .i64 p0)]) (by kernel_rfl) (by kernel_rfl) (by kernel_rfl) h
def z5R (p0 : Option Addr) (K : Value → PT) : PT :=
 L.nonnil p0 fun a1 =>
 L.load eP6 (a1.add 4) fun (x2 : Option Addr) =>
 L.call Pr z5w [.pointer x2] (.tup [eI6, eI6, eI6, eI6]) fun (x3 : Int × Int × Int × Int × Unit) =>
 K (.tuple #[.int .i64 x3.1, .int .i64 x3.2.1, .int .i64 x3.2.2.1, .int .i64 x3.2.2.2.1])
theorem z9h (p0 : Option Addr) {K : Value → PT} {w : World} (h : z5R p0 K w) : CT Pr z3L [.pointer p0] K w :=
 C_of (fn := Tryz.f17) (an := .auto) (args := [.v (.pointer p0)]) (by kernel_rfl) (by kernel_rfl) (by kernel_rfl) h
def z7g (p0 : Option Addr) (K : Value → PT) : PT :=
 L.nonnil p0 fun a1 =>
 L.load eI6 (a1.add 6) fun (x2 : Int) =>
 K (.int .i64 x2)
theorem zb8 (p0 : Option Addr) {K : Value → PT} {w : World} (h : z7g p0 K w) : CT Pr z4V [.pointer p0] K w :=
 C_of (fn := Tryz.f18) (an := .auto) (args := [.v (.pointer p0)]) (by kernel_rfl) (by kernel_rfl) (by kernel_rfl) h
def z7f (p0 : Int) (p1 : Int) (p2 : Int) (K : Value → PT) : PT :=
 L.ite (decide (p0 ≥ p1)) (
  K (.bool (decide (p0 ≤ p2)))) <|
 K (.bool false)
theorem zb7 (p0 : Int) (p1 : Int) (p2 : Int) {K : Value → PT} {w : World} (h : z7f p0 p1 p2 K w) : CT Pr z2y [.int .i64 p0, .int .i64 p1, .int .i64 p2] K w :=
 C_of (fn := Tryz.f19) (an := .auto) (args := [.v (.int .i64 p0), .v (.int .i64 p1), .v (.int .i64 p2)]) (by kernel_rfl) (by kernel_rfl) (by kernel_rfl) h
def zeD (p0 : Int) (K : Value → PT) : PT :=
 L.sem Pr (.one (.one .map)) (Instr.makeMap z0s none) fun (m1 : Option Nat) =>
 L.sem Pr (.one (.one .map)) (Instr.makeMap z0I none) fun (m2 : Option Nat) =>
 L.new [.map m1, .map m2, .int .i64 p0, .int .i64 0] zbO fun b3 =>
 K (.pointer (some (⟨b3, 0, none⟩)))
theorem ziM (p0 : Int) {K : Value → PT} {w : World} (h : zeD p0 K w) : CT Pr zaY [.int .i64 p0] K w :=
 C_of (fn := Tryz.f20) (an := .auto) (args := [.v (.int .i64 p0)]) (by kernel_rfl) (by kernel_rfl) (by kernel_rfl) h
def zez  (K : Value → PT) : PT :=
 L.call Pr z3r [.func (.func z1j) #[] #[]] rP fun (x1 : Option Addr) =>
 L.call Pr z3M [.func (.func z0C) #[] #[]] rP fun (x2 : Option Addr) =>
 L.new [.pointer x1, .pointer x2, .int .i64 0] zbN fun b3 =>
 K (.pointer (some (⟨b3, 0, none⟩)))
theorem ziI  {K : Value → PT} {w : World} (h : zez  K w) : CT Pr zaW [] K w :=
 C_of (fn := Tryz.f21) (an := .auto) (args := []) (by kernel_rfl) (by kernel_rfl) (by kernel_rfl) h
def zew  (K : Value → PT) : PT :=
 L.sem Pr (.one (.one .map)) (Instr.makeMap z0j none) fun (m1 : Option Nat) =>
 L.sem Pr (.one (.one .map)) (Instr.makeMap z3S none) fun (m2 : Option Nat) =>
 L.new [.map m1, .map m2] zd5 fun b3 =>
 K (.pointer (some (⟨b3, 0, none⟩)))
theorem ziF  {K : Value → PT} {w : World} (h : zew  K w) : CT Pr zaV [] K w :=
 C_of (fn := Tryz.f22) (an := .auto) (args := []) (by kernel_rfl) (by kernel_rfl) (by kernel_rfl) h
def zfz  (K : Value → PT) : PT :=
 L.sem Pr (.one (.one .map)) (Instr.makeMap z1G none) fun (m1 : Option Nat) =>
 L.new [.map m1] z8M fun b2 =>
 K (.pointer (some (⟨b2, 0, none⟩)))
theorem zkH  {K : Value → PT} {w : World} (h : zfz  K w) : CT Pr zcD [] K w :=
 C_of (fn := Tryz.f23) (an := .auto) (args := []) (by kernel_rfl) (by kernel_rfl) (by kernel_rfl) h
def zfB (p0 : Option Addr) (p1 : Int) (p2 : Int) (K : Value → PT) : PT :=
 L.new [.int .i64 p1] z0d fun b1 =>
 L.sem Pr (.one (.one .map)) (Instr.makeMap z0X none) fun (m2 : Option Nat) =>
 L.sem Pr (.one (.one .map)) (Instr.makeMap z0E none) fun (m3 : Option Nat) =>
 L.load eI6 (⟨b1, 0, none⟩) fun (x4 : Int) =>
 L.new [.pointer p0, .map m2, .map m3, .func (.func z7P) #[] #[.pointer (some (⟨b1, 0, none⟩))], .int .i64 x4, .int .i64 p2] zer fun b5 =>
 K (.pointer (some (⟨b5, 0, none⟩)))
theorem zkJ (p0 : Option Addr) (p1 : Int) (p2 : Int) {K : Value → PT} {w : World} (h : zfB p0 p1 p2 K w) : CT Pr zcE [.pointer p0, .int .i64 p1, .int .i64 p2] K w :=
 C_of (fn := Tryz.f24) (an := .auto) (args := [.v (.pointer p0), .v (.int .i64 p1), .v (.int .i64 p2)]) (by kernel_rfl) (by kernel_rfl) (by kernel_rfl) h
def zgP : Ann := (.seq .auto (.seq .auto (.seq .auto (.seq (.seq .auto .auto (some [(61, (.one (.bool)))])) (.seq (.seq .auto (.cond .auto (.seq .auto (.cond .auto (.seq .auto (.cond .auto (.seq .auto (.cond .auto .auto) none)) none)) none)) none) .auto (some [])) none) none) none) none)
def zc5 (p0 : ht1) (K : Value → PT) : PT :=
 L.new [.int .i64 p0.1, .string p0.2.1, .string p0.2.2.1, .int .i64 p0.2.2.2.1, .int .i64 p0.2.2.2.2.1, .string p0.2.2.2.2.2.1, .int .i64 p0.2.2.2.2.2.2.1, .int .i64 p0.2.2.2.2.2.2.2.1, .int .i64 p0.2.2.2.2.2.2.2.2.1, .int .i64 p0.2.2.2.2.2.2.2.2.2.1, .int .i64 p0.2.2.2.2.2.2.2.2.2.2.1, .string p0.2.2.2.2.2.2.2.2.2.2.2.1, .string p0.2.2.2.2.2.2.2.2.2.2.2.2.1, .slice p0.2.2.2.2.2.2.2.2.2.2.2.2.2.1.a p0.2.2.2.2.2.2.2.2.2.2.2.2.2.1.len p0.2.2.2.2.2.2.2.2.2.2.2.2.2.1.cap, .int .i64 p0.2.2.2.2.2.2.2.2.2.2.2.2.2.2.1] z0D fun b1 =>
 L.load eI6 ((⟨b1, 0, none⟩ : Addr).add 0) fun (x2 : Int) =>
 L.call Pr z8G [.int .i64 x2] (.tup [(.agg lf4), eB6]) fun (x3 : pt2) =>
 L.new [.bool false, .bool false, .bool false, .bool false, .bool false, .bool false] zes fun b4 =>
 L.store (⟨b4, 0, none⟩) [.bool x3.1.1, .bool x3.1.2.1, .bool x3.1.2.2.1, .bool x3.1.2.2.2.1, .bool x3.1.2.2.2.2.1, .bool x3.1.2.2.2.2.2.1] <|
 L.ite (!x3.2.1) (
  K (.int .i64 12)) <|
 L.join (Y := Bool × Unit) (fun k5 =>
  L.load eB6 ((⟨b4, 0, none⟩ : Addr).add 0) fun (x7 : Bool) =>
  L.load eI6 ((⟨b1, 0, none⟩ : Addr).add 3) fun (x8 : Int) =>
  L.call Pr z4U [.bool x7, .int .i64 x8] rB fun (x9 : Bool) =>
  L.ite (!x9) (
   k5 (true, ())) <|
  L.load eB6 ((⟨b4, 0, none⟩ : Addr).add 1) fun (x10 : Bool) =>
  L.load eS6 ((⟨b1, 0, none⟩ : Addr).add 1) fun (x11 : ByteArray) =>
  L.call Pr z3v [.bool x10, .string x11] rB fun (x12 : Bool) =>
  L.ite (!x12) (
   k5 (true, ())) <|
  L.load eB6 ((⟨b4, 0, none⟩ : Addr).add 2) fun (x13 : Bool) =>
  L.load eS6 ((⟨b1, 0, none⟩ : Addr).add 2) fun (x14 : ByteArray) =>
  L.call Pr z3v [.bool x13, .string x14] rB fun (x15 : Bool) =>
  L.ite (!x15) (
   k5 (true, ())) <|
  L.load eB6 ((⟨b4, 0, none⟩ : Addr).add 3) fun (x16 : Bool) =>
  L.load eI6 ((⟨b1, 0, none⟩ : Addr).add 4) fun (x17 : Int) =>
  L.call Pr z4U [.bool x16, .int .i64 x17] rB fun (x18 : Bool) =>
  L.ite (!x18) (
   k5 (true, ())) <|
  L.load eB6 ((⟨b4, 0, none⟩ : Addr).add 4) fun (x19 : Bool) =>
  L.load (.agg lf0) ((⟨b1, 0, none⟩ : Addr).add 5) fun (x20 : pt0) =>
  L.call Pr z3w [.bool x19, (qa0 x20)] rB fun (x21 : Bool) =>
  L.ite (!x21) (
   k5 (true, ())) <|
  L.load eB6 ((⟨b4, 0, none⟩ : Addr).add 5) fun (x22 : Bool) =>
  L.ite (!x22) (
   L.load (.agg [.str, .str, .slice, .int .i64]) ((⟨b1, 0, none⟩ : Addr).add 11) fun (x23 : pt3) =>
   L.call Pr z9y [.agg #[.string x23.1, .string x23.2.1, .slice x23.2.2.1.a x23.2.2.1.len x23.2.2.1.cap, .int .i64 x23.2.2.2.1]] rB fun (x24 : Bool) =>
   k5 (!x24, ())) <|
  k5 (false, ())) fun z6 =>
 L.ite z6.1 (
  K (.int .i64 2)) <|
 L.join (Y := Unit) (fun k25 =>
  L.load eB6 ((⟨b4, 0, none⟩ : Addr).add 0) fun (x27 : Bool) =>
  L.ite x27 (
   L.load (.agg lf1) (⟨b1, 0, none⟩) fun (x28 : pt1) =>
   L.call Pr z86 [(qa1 x28)] rB fun (x29 : Bool) =>
   L.ite (!x29) (
    K (.int .i64 2)) <|
   L.load eB6 ((⟨b4, 0, none⟩ : Addr).add 1) fun (x30 : Bool) =>
   L.ite x30 (
    L.load (.agg lf1) (⟨b1, 0, none⟩) fun (x31 : pt1) =>
    L.call Pr z6N [(qa1 x31)] rB fun (x32 : Bool) =>
    L.ite (!x32) (
     K (.int .i64 1)) <|
    L.load eB6 ((⟨b4, 0, none⟩ : Addr).add 2) fun (x33 : Bool) =>
    L.ite x33 (
     L.load eS6 ((⟨b1, 0, none⟩ : Addr).add 2) fun (x34 : ByteArray) =>
     L.ite (!(x34.toList == s_.toList)) (
      L.load eS6 ((⟨b1, 0, none⟩ : Addr).add 2) fun (x35 : ByteArray) =>
      L.call Pr z3u [.string x35] rB fun (x36 : Bool) =>
      L.ite (!x36) (
       K (.int .i64 1)) <|
      L.load eB6 ((⟨b4, 0, none⟩ : Addr).add 3) fun (x37 : Bool) =>
      L.ite x37 (
       L.load eI6 ((⟨b1, 0, none⟩ : Addr).add 4) fun (x38 : Int) =>
       L.call Pr z0M [.int .i64 x38, .int .i64 0, .int .i64 2147483647] rB fun (x39 : Bool) =>
       L.ite (!x39) (
        K (.int .i64 2)) <|
       L.load eB6 ((⟨b4, 0, none⟩ : Addr).add 4) fun (x40 : Bool) =>
       L.ite x40 (
        L.load (.agg lf0) ((⟨b1, 0, none⟩ : Addr).add 5) fun (x41 : pt0) =>
        L.call Pr z0n [(qa0 x41)] rI fun (x42 : Int) =>
        K (.int .i64 x42)) <|
       L.load eB6 ((⟨b4, 0, none⟩ : Addr).add 5) fun (x43 : Bool) =>
       L.ite x43 (
        L.load (.agg [.str, .str, .slice, .int .i64]) ((⟨b1, 0, none⟩ : Addr).add 11) fun (x44 : pt3) =>
        L.call Pr z0u [.agg #[.string x44.1, .string x44.2.1, .slice x44.2.2.1.a x44.2.2.1.len x44.2.2.1.cap, .int .i64 x44.2.2.2.1]] rI fun (x45 : Int) =>
        K (.int .i64 x45)) <|
       k25 (())) <|
      L.load eB6 ((⟨b4, 0, none⟩ : Addr).add 4) fun (x46 : Bool) =>
      L.ite x46 (
       L.load (.agg lf0) ((⟨b1, 0, none⟩ : Addr).add 5) fun (x47 : pt0) =>
       L.call Pr z0n [(qa0 x47)] rI fun (x48 : Int) =>
       K (.int .i64 x48)) <|
      L.load eB6 ((⟨b4, 0, none⟩ : Addr).add 5) fun (x49 : Bool) =>
      L.ite x49 (
       L.load (.agg [.str, .str, .slice, .int .i64]) ((⟨b1, 0, none⟩ : Addr).add 11) fun (x50 : pt3) =>
       L.call Pr z0u [.agg #[.string x50.1, .string x50.2.1, .slice x50.2.2.1.a x50.2.2.1.len x50.2.2.1.cap, .int .i64 x50.2.2.2.1]] rI fun (x51 : Int) =>
       K (.int .i64 x51)) <|
      k25 (())) <|
     L.load eB6 ((⟨b4, 0, none⟩ : Addr).add 3) fun (x52 : Bool) =>
     L.ite x52 (
      L.load eI6 ((⟨b1, 0, none⟩ : Addr).add 4) fun (x53 : Int) =>
      L.call Pr z0M [.int .i64 x53, .int .i64 0, .int .i64 2147483647] rB fun (x54 : Bool) =>
      L.ite (!x54) (
       K (.int .i64 2)) <|
      L.load eB6 ((⟨b4, 0, none⟩ : Addr).add 4) fun (x55 : Bool) =>
      L.ite x55 (
       L.load (.agg lf0) ((⟨b1, 0, none⟩ : Addr).add 5) fun (x56 : pt0) =>
       L.call Pr z0n [(qa0 x56)] rI fun (x57 : Int) =>
       K (.int .i64 x57)) <|
      L.load eB6 ((⟨b4, 0, none⟩ : Addr).add 5) fun (x58 : Bool) =>
      L.ite x58 (
       L.load (.agg [.str, .str, .slice, .int .i64]) ((⟨b1, 0, none⟩ : Addr).add 11) fun (x59 : pt3) =>
       L.call Pr z0u [.agg #[.string x59.1, .string x59.2.1, .slice x59.2.2.1.a x59.2.2.1.len x59.2.2.1.cap, .int .i64 x59.2.2.2.1]] rI fun (x60 : Int) =>
       K (.int .i64 x60)) <|
      k25 (())) <|
     L.load eB6 ((⟨b4, 0, none⟩ : Addr).add 4) fun (x61 : Bool) =>
     L.ite x61 (
      L.load (.agg lf0) ((⟨b1, 0, none⟩ : Addr).add 5) fun (x62 : pt0) =>
      L.call Pr z0n [(qa0 x62)] rI fun (x63 : Int) =>
      K (.int .i64 x63)) <|
     L.load eB6 ((⟨b4, 0, none⟩ : Addr).add 5) fun (x64 : Bool) =>
     L.ite x64 (
      L.load (.agg [.str, .str, .slice, .int .i64]) ((⟨b1, 0, none⟩ : Addr).add 11) fun (x65 : pt3) =>
      L.call Pr z0u [.agg #[.string x65.1, .string x65.2.1, .slice x65.2.2.1.a x65.2.2.1.len x65.2.2.1.cap, .int .i64 x65.2.2.2.1]] rI fun (x66 : Int) =>
      K (.int .i64 x66)) <|
     k25 (())) <|
    L.load eB6 ((⟨b4, 0, none⟩ : Addr).add 3) fun (x67 : Bool) =>
    L.ite x67 (
     L.load eI6 ((⟨b1, 0, none⟩ : Addr).add 4) fun (x68 : Int) =>
     L.call Pr z0M [.int .i64 x68, .int .i64 0, .int .i64 2147483647] rB fun (x69 : Bool) =>
     L.ite (!x69) (
      K (.int .i64 2)) <|
     L.load eB6 ((⟨b4, 0, none⟩ : Addr).add 4) fun (x70 : Bool) =>
     L.ite x70 (
      L.load (.agg lf0) ((⟨b1, 0, none⟩ : Addr).add 5) fun (x71 : pt0) =>
      L.call Pr z0n [(qa0 x71)] rI fun (x72 : Int) =>
      K (.int .i64 x72)) <|
     L.load eB6 ((⟨b4, 0, none⟩ : Addr).add 5) fun (x73 : Bool) =>
     L.ite x73 (
      L.load (.agg [.str, .str, .slice, .int .i64]) ((⟨b1, 0, none⟩ : Addr).add 11) fun (x74 : pt3) =>
      L.call Pr z0u [.agg #[.string x74.1, .string x74.2.1, .slice x74.2.2.1.a x74.2.2.1.len x74.2.2.1.cap, .int .i64 x74.2.2.2.1]] rI fun (x75 : Int) =>
      K (.int .i64 x75)) <|
     k25 (())) <|
    L.load eB6 ((⟨b4, 0, none⟩ : Addr).add 4) fun (x76 : Bool) =>
    L.ite x76 (
     L.load (.agg lf0) ((⟨b1, 0, none⟩ : Addr).add 5) fun (x77 : pt0) =>
     L.call Pr z0n [(qa0 x77)] rI fun (x78 : Int) =>
     K (.int .i64 x78)) <|
    L.load eB6 ((⟨b4, 0, none⟩ : Addr).add 5) fun (x79 : Bool) =>
    L.ite x79 (
     L.load (.agg [.str, .str, .slice, .int .i64]) ((⟨b1, 0, none⟩ : Addr).add 11) fun (x80 : pt3) =>
     L.call Pr z0u [.agg #[.string x80.1, .string x80.2.1, .slice x80.2.2.1.a x80.2.2.1.len x80.2.2.1.cap, .int .i64 x80.2.2.2.1]] rI fun (x81 : Int) =>
     K (.int .i64 x81)) <|
    k25 (())) <|
   L.load eB6 ((⟨b4, 0, none⟩ : Addr).add 2) fun (x82 : Bool) =>
   L.ite x82 (
    L.load eS6 ((⟨b1, 0, none⟩ : Addr).add 2) fun (x83 : ByteArray) =>
    L.ite (!(x83.toList == s_.toList)) (
     L.load eS6 ((⟨b1, 0, none⟩ : Addr).add 2) fun (x84 : ByteArray) =>
     L.call Pr z3u [.string x84] rB fun (x85 : Bool) =>
     L.ite (!x85) (
      K (.int .i64 1)) <|
     L.load eB6 ((⟨b4, 0, none⟩ : Addr).add 3) fun (x86 : Bool) =>
     L.ite x86 (
      L.load eI6 ((⟨b1, 0, none⟩ : Addr).add 4) fun (x87 : Int) =>
      L.call Pr z0M [.int .i64 x87, .int .i64 0, .int .i64 2147483647] rB fun (x88 : Bool) =>
      L.ite (!x88) (
       K (.int .i64 2)) <|
      L.load eB6 ((⟨b4, 0, none⟩ : Addr).add 4) fun (x89 : Bool) =>
      L.ite x89 (
       L.load (.agg lf0) ((⟨b1, 0, none⟩ : Addr).add 5) fun (x90 : pt0) =>
       L.call Pr z0n [(qa0 x90)] rI fun (x91 : Int) =>
       K (.int .i64 x91)) <|
      L.load eB6 ((⟨b4, 0, none⟩ : Addr).add 5) fun (x92 : Bool) =>
      L.ite x92 (
       L.load (.agg [.str, .str, .slice, .int .i64]) ((⟨b1, 0, none⟩ : Addr).add 11) fun (x93 : pt3) =>
       L.call Pr z0u [.agg #[.string x93.1, .string x93.2.1, .slice x93.2.2.1.a x93.2.2.1.len x93.2.2.1.cap, .int .i64 x93.2.2.2.1]] rI fun (x94 : Int) =>
       K (.int .i64 x94)) <|
      k25 (())) <|
     L.load eB6 ((⟨b4, 0, none⟩ : Addr).add 4) fun (x95 : Bool) =>
     L.ite x95 (
      L.load (.agg lf0) ((⟨b1, 0, none⟩ : Addr).add 5) fun (x96 : pt0) =>
      L.call Pr z0n [(qa0 x96)] rI fun (x97 : Int) =>
      K (.int .i64 x97)) <|
     L.load eB6 ((⟨b4, 0, none⟩ : Addr).add 5) fun (x98 : Bool) =>
     L.ite x98 (
      L.load (.agg [.str, .str, .slice, .int .i64]) ((⟨b1, 0, none⟩ : Addr).add 11) fun (x99 : pt3) =>
      L.call Pr z0u [.agg #[.string x99.1, .string x99.2.1, .slice x99.2.2.1.a x99.2.2.1.len x99.2.2.1.cap, .int .i64 x99.2.2.2.1]] rI fun (x100 : Int) =>
      K (.int .i64 x100)) <|
     k25 (())) <|
    L.load eB6 ((⟨b4, 0, none⟩ : Addr).add 3) fun (x101 : Bool) =>
    L.ite x101 (
     L.load eI6 ((⟨b1, 0, none⟩ : Addr).add 4) fun (x102 : Int) =>
     L.call Pr z0M [.int .i64 x102, .int .i64 0, .int .i64 2147483647] rB fun (x103 : Bool) =>
     L.ite (!x103) (
      K (.int .i64 2)) <|
     L.load eB6 ((⟨b4, 0, none⟩ : Addr).add 4) fun (x104 : Bool) =>
     L.ite x104 (
      L.load (.agg lf0) ((⟨b1, 0, none⟩ : Addr).add 5) fun (x105 : pt0) =>
      L.call Pr z0n [(qa0 x105)] rI fun (x106 : Int) =>
      K (.int .i64 x106)) <|
     L.load eB6 ((⟨b4, 0, none⟩ : Addr).add 5) fun (x107 : Bool) =>
     L.ite x107 (
      L.load (.agg [.str, .str, .slice, .int .i64]) ((⟨b1, 0, none⟩ : Addr).add 11) fun (x108 : pt3) =>
      L.call Pr z0u [.agg #[.string x108.1, .string x108.2.1, .slice x108.2.2.1.a x108.2.2.1.len x108.2.2.1.cap, .int .i64 x108.2.2.2.1]] rI fun (x109 : Int) =>
      K (.int .i64 x109)) <|
     k25 (())) <|
    L.load eB6 ((⟨b4, 0, none⟩ : Addr).add 4) fun (x110 : Bool) =>
    L.ite x110 (
     L.load (.agg lf0) ((⟨b1, 0, none⟩ : Addr).add 5) fun (x111 : pt0) =>
     L.call Pr z0n [(qa0 x111)] rI fun (x112 : Int) =>
     K (.int .i64 x112)) <|
    L.load eB6 ((⟨b4, 0, none⟩ : Addr).add 5) fun (x113 : Bool) =>
    L.ite x113 (
     L.load (.agg [.str, .str, .slice, .int .i64]) ((⟨b1, 0, none⟩ : Addr).add 11) fun (x114 : pt3) =>
     L.call Pr z0u [.agg #[.string x114.1, .string x114.2.1, .slice x114.2.2.1.a x114.2.2.1.len x114.2.2.1.cap, .int .i64 x114.2.2.2.1]] rI fun (x115 : Int) =>
     K (.int .i64 x115)) <|
    k25 (())) <|
   L.load eB6 ((⟨b4, 0, none⟩ : Addr).add 3) fun (x116 : Bool) =>
   L.ite x116 (
    L.load eI6 ((⟨b1, 0, none⟩ : Addr).add 4) fun (x117 : Int) =>
    L.call Pr z0M [.int .i64 x117, .int .i64 0, .int .i64 2147483647] rB fun (x118 : Bool) =>
    L.ite (!x118) (
     K (.int .i64 2)) <|
    L.load eB6 ((⟨b4, 0, none⟩ : Addr).add 4) fun (x119 : Bool) =>
    L.ite x119 (
     L.load (.agg lf0) ((⟨b1, 0, none⟩ : Addr).add 5) fun (x120 : pt0) =>
     L.call Pr z0n [(qa0 x120)] rI fun (x121 : Int) =>
     K (.int .i64 x121)) <|
    L.load eB6 ((⟨b4, 0, none⟩ : Addr).add 5) fun (x122 : Bool) =>
    L.ite x122 (
     L.load (.agg [.str, .str, .slice, .int .i64]) ((⟨b1, 0, none⟩ : Addr).add 11) fun (x123 : pt3) =>
     L.call Pr z0u [.agg #[.string x123.1, .string x123.2.1, .slice x123.2.2.1.a x123.2.2.1.len x123.2.2.1.cap, .int .i64 x123.2.2.2.1]] rI fun (x124 : Int) =>
     K (.int .i64 x124)) <|
    k25 (())) <|
   L.load eB6 ((⟨b4, 0, none⟩ : Addr).add 4) fun (x125 : Bool) =>
   L.ite x125 (
    L.load (.agg lf0) ((⟨b1, 0, none⟩ : Addr).add 5) fun (x126 : pt0) =>
    L.call Pr z0n [(qa0 x126)] rI fun (x127 : Int) =>
    K (.int .i64 x127)) <|
   L.load eB6 ((⟨b4, 0, none⟩ : Addr).add 5) fun (x128 : Bool) =>
   L.ite x128 (
    L.load (.agg [.str, .str, .slice, .int .i64]) ((⟨b1, 0, none⟩ : Addr).add 11) fun (x129 : pt3) =>
    L.call Pr z0u [.agg #[.string x129.1, .string x129.2.1, .slice x129.2.2.1.a x129.2.2.1.len x129.2.2.1.cap, .int .i64 x129.2.2.2.1]] rI fun (x130 : Int) =>
    K (.int .i64 x130)) <|
   k25 (())) <|
  L.load eB6 ((⟨b4, 0, none⟩ : Addr).add 1) fun (x131 : Bool) =>
  L.ite x131 (
   L.load (.agg lf1) (⟨b1, 0, none⟩) fun (x132 : pt1) =>
   L.call Pr z6N [(qa1 x132)] rB fun (x133 : Bool) =>
   L.ite (!x133) (
    K (.int .i64 1)) <|
   L.load eB6 ((⟨b4, 0, none⟩ : Addr).add 2) fun (x134 : Bool) =>
   L.ite x134 (
    L.load eS6 ((⟨b1, 0, none⟩ : Addr).add 2) fun (x135 : ByteArray) =>
    L.ite (!(x135.toList == s_.toList)) (
     L.load eS6 ((⟨b1, 0, none⟩ : Addr).add 2) fun (x136 : ByteArray) =>
     L.call Pr z3u [.string x136] rB fun (x137 : Bool) =>
     L.ite (!x137) (
      K (.int .i64 1)) <|
     L.load eB6 ((⟨b4, 0, none⟩ : Addr).add 3) fun (x138 : Bool) =>
     L.ite x138 (
      L.load eI6 ((⟨b1, 0, none⟩ : Addr).add 4) fun (x139 : Int) =>
      L.call Pr z0M [.int .i64 x139, .int .i64 0, .int .i64 2147483647] rB fun (x140 : Bool) =>
      L.ite (!x140) (
       K (.int .i64 2)) <|
      L.load eB6 ((⟨b4, 0, none⟩ : Addr).add 4) fun (x141 : Bool) =>
      L.ite x141 (
       L.load (.agg lf0) ((⟨b1, 0, none⟩ : Addr).add 5) fun (x142 : pt0) =>
       L.call Pr z0n [(qa0 x142)] rI fun (x143 : Int) =>
       K (.int .i64 x143)) <|
      L.load eB6 ((⟨b4, 0, none⟩ : Addr).add 5) fun (x144 : Bool) =>
      L.ite x144 (
       L.load (.agg [.str, .str, .slice, .int .i64]) ((⟨b1, 0, none⟩ : Addr).add 11) fun (x145 : pt3) =>
       L.call Pr z0u [.agg #[.string x145.1, .string x145.2.1, .slice x145.2.2.1.a x145.2.2.1.len x145.2.2.1.cap, .int .i64 x145.2.2.2.1]] rI fun (x146 : Int) =>
       K (.int .i64 x146)) <|
      k25 (())) <|
     L.load eB6 ((⟨b4, 0, none⟩ : Addr).add 4) fun (x147 : Bool) =>
     L.ite x147 (
      L.load (.agg lf0) ((⟨b1, 0, none⟩ : Addr).add 5) fun (x148 : pt0) =>
      L.call Pr z0n [(qa0 x148)] rI fun (x149 : Int) =>
      K (.int .i64 x149)) <|
     L.load eB6 ((⟨b4, 0, none⟩ : Addr).add 5) fun (x150 : Bool) =>
     L.ite x150 (
      L.load (.agg [.str, .str, .slice, .int .i64]) ((⟨b1, 0, none⟩ : Addr).add 11) fun (x151 : pt3) =>
      L.call Pr z0u [.agg #[.string x151.1, .string x151.2.1, .slice x151.2.2.1.a x151.2.2.1.len x151.2.2.1.cap, .int .i64 x151.2.2.2.1]] rI fun (x152 : Int) =>
      K (.int .i64 x152)) <|
     k25 (())) <|
    L.load eB6 ((⟨b4, 0, none⟩ : Addr).add 3) fun (x153 : Bool) =>
    L.ite x153 (
     L.load eI6 ((⟨b1, 0, none⟩ : Addr).add 4) fun (x154 : Int) =>
     L.call Pr z0M [.int .i64 x154, .int .i64 0, .int .i64 2147483647] rB fun (x155 : Bool) =>
     L.ite (!x155) (
      K (.int .i64 2)) <|
     L.load eB6 ((⟨b4, 0, none⟩ : Addr).add 4) fun (x156 : Bool) =>
     L.ite x156 (
      L.load (.agg lf0) ((⟨b1, 0, none⟩ : Addr).add 5) fun (x157 : pt0) =>
      L.call Pr z0n [(qa0 x157)] rI fun (x158 : Int) =>
      K (.int .i64 x158)) <|
     L.load eB6 ((⟨b4, 0, none⟩ : Addr).add 5) fun (x159 : Bool) =>
     L.ite x159 (
      L.load (.agg [.str, .str, .slice, .int .i64]) ((⟨b1, 0, none⟩ : Addr).add 11) fun (x160 : pt3) =>
      L.call Pr z0u [.agg #[.string x160.1, .string x160.2.1, .slice x160.2.2.1.a x160.2.2.1.len x160.2.2.1.cap, .int .i64 x160.2.2.2.1]] rI fun (x161 : Int) =>
      K (.int .i64 x161)) <|
     k25 (())) <|
    L.load eB6 ((⟨b4, 0, none⟩ : Addr).add 4) fun (x162 : Bool) =>
    L.ite x162 (
     L.load (.agg lf0) ((⟨b1, 0, none⟩ : Addr).add 5) fun (x163 : pt0) =>
     L.call Pr z0n [(qa0 x163)] rI fun (x164 : Int) =>
     K (.int .i64 x164)) <|
    L.load eB6 ((⟨b4, 0, none⟩ : Addr).add 5) fun (x165 : Bool) =>
    L.ite x165 (
     L.load (.agg [.str, .str, .slice, .int .i64]) ((⟨b1, 0, none⟩ : Addr).add 11) fun (x166 : pt3) =>
     L.call Pr z0u [.agg #[.string x166.1, .string x166.2.1, .slice x166.2.2.1.a x166.2.2.1.len x166.2.2.1.cap, .int .i64 x166.2.2.2.1]] rI fun (x167 : Int) =>
     K (.int .i64 x167)) <|
    k25 (())) <|
   L.load eB6 ((⟨b4, 0, none⟩ : Addr).add 3) fun (x168 : Bool) =>
   L.ite x168 (
    L.load eI6 ((⟨b1, 0, none⟩ : Addr).add 4) fun (x169 : Int) =>
    L.call Pr z0M [.int .i64 x169, .int .i64 0, .int .i64 2147483647] rB fun (x170 : Bool) =>
    L.ite (!x170) (
     K (.int .i64 2)) <|
    L.load eB6 ((⟨b4, 0, none⟩ : Addr).add 4) fun (x171 : Bool) =>
    L.ite x171 (
     L.load (.agg lf0) ((⟨b1, 0, none⟩ : Addr).add 5) fun (x172 : pt0) =>
     L.call Pr z0n [(qa0 x172)] rI fun (x173 : Int) =>
     K (.int .i64 x173)) <|
    L.load eB6 ((⟨b4, 0, none⟩ : Addr).add 5) fun (x174 : Bool) =>
    L.ite x174 (
     L.load (.agg [.str, .str, .slice, .int .i64]) ((⟨b1, 0, none⟩ : Addr).add 11) fun (x175 : pt3) =>
     L.call Pr z0u [.agg #[.string x175.1, .string x175.2.1, .slice x175.2.2.1.a x175.2.2.1.len x175.2.2.1.cap, .int .i64 x175.2.2.2.1]] rI fun (x176 : Int) =>
     K (.int .i64 x176)) <|
    k25 (())) <|
   L.load eB6 ((⟨b4, 0, none⟩ : Addr).add 4) fun (x177 : Bool) =>
   L.ite x177 (
    L.load (.agg lf0) ((⟨b1, 0, none⟩ : Addr).add 5) fun (x178 : pt0) =>
    L.call Pr z0n [(qa0 x178)] rI fun (x179 : Int) =>
    K (.int .i64 x179)) <|
   L.load eB6 ((⟨b4, 0, none⟩ : Addr).add 5) fun (x180 : Bool) =>
   L.ite x180 (
    L.load (.agg [.str, .str, .slice, .int .i64]) ((⟨b1, 0, none⟩ : Addr).add 11) fun (x181 : pt3) =>
    L.call Pr z0u [.agg #[.string x181.1, .string x181.2.1, .slice x181.2.2.1.a x181.2.2.1.len x181.2.2.1.cap, .int .i64 x181.2.2.2.1]] rI fun (x182 : Int) =>
    K (.int .i64 x182)) <|
   k25 (())) <|
  L.load eB6 ((⟨b4, 0, none⟩ : Addr).add 2) fun (x183 : Bool) =>
  L.ite x183 (
   L.load eS6 ((⟨b1, 0, none⟩ : Addr).add 2) fun (x184 : ByteArray) =>
   L.ite (!(x184.toList == s_.toList)) (
    L.load eS6 ((⟨b1, 0, none⟩ : Addr).add 2) fun (x185 : ByteArray) =>
    L.call Pr z3u [.string x185] rB fun (x186 : Bool) =>
    L.ite (!x186) (
     K (.int .i64 1)) <|
    L.load eB6 ((⟨b4, 0, none⟩ : Addr).add 3) fun (x187 : Bool) =>
    L.ite x187 (
     L.load eI6 ((⟨b1, 0, none⟩ : Addr).add 4) fun (x188 : Int) =>
     L.call Pr z0M [.int .i64 x188, .int .i64 0, .int .i64 2147483647] rB fun (x189 : Bool) =>
     L.ite (!x189) (
      K (.int .i64 2)) <|
     L.load eB6 ((⟨b4, 0, none⟩ : Addr).add 4) fun (x190 : Bool) =>
     L.ite x190 (
      L.load (.agg lf0) ((⟨b1, 0, none⟩ : Addr).add 5) fun (x191 : pt0) =>
      L.call Pr z0n [(qa0 x191)] rI fun (x192 : Int) =>
      K (.int .i64 x192)) <|
     L.load eB6 ((⟨b4, 0, none⟩ : Addr).add 5) fun (x193 : Bool) =>
     L.ite x193 (
      L.load (.agg [.str, .str, .slice, .int .i64]) ((⟨b1, 0, none⟩ : Addr).add 11) fun (x194 : pt3) =>
      L.call Pr z0u [.agg #[.string x194.1, .string x194.2.1, .slice x194.2.2.1.a x194.2.2.1.len x194.2.2.1.cap, .int .i64 x194.2.2.2.1]] rI fun (x195 : Int) =>
      K (.int .i64 x195)) <|
     k25 (())) <|
    L.load eB6 ((⟨b4, 0, none⟩ : Addr).add 4) fun (x196 : Bool) =>
    L.ite x196 (
     L.load (.agg lf0) ((⟨b1, 0, none⟩ : Addr).add 5) fun (x197 : pt0) =>
     L.call Pr z0n [(qa0 x197)] rI fun (x198 : Int) =>
     K (.int .i64 x198)) <|
    L.load eB6 ((⟨b4, 0, none⟩ : Addr).add 5) fun (x199 : Bool) =>
    L.ite x199 (
     L.load (.agg [.str, .str, .slice, .int .i64]) ((⟨b1, 0, none⟩ : Addr).add 11) fun (x200 : pt3) =>
     L.call Pr z0u [.agg #[.string x200.1, .string x200.2.1, .slice x200.2.2.1.a x200.2.2.1.len x200.2.2.1.cap, .int .i64 x200.2.2.2.1]] rI fun (x201 : Int) =>
     K (.int .i64 x201)) <|
    k25 (())) <|
   L.load eB6 ((⟨b4, 0, none⟩ : Addr).add 3) fun (x202 : Bool) =>
   L.ite x202 (
    L.load eI6 ((⟨b1, 0, none⟩ : Addr).add 4) fun (x203 : Int) =>
    L.call Pr z0M [.int .i64 x203, .int .i64 0, .int .i64 2147483647] rB fun (x204 : Bool) =>
    L.ite (!x204) (
     K (.int .i64 2)) <|
    L.load eB6 ((⟨b4, 0, none⟩ : Addr).add 4) fun (x205 : Bool) =>
    L.ite x205 (
     L.load (.agg lf0) ((⟨b1, 0, none⟩ : Addr).add 5) fun (x206 : pt0) =>
     L.call Pr z0n [(qa0 x206)] rI fun (x207 : Int) =>
     K (.int .i64 x207)) <|
    L.load eB6 ((⟨b4, 0, none⟩ : Addr).add 5) fun (x208 : Bool) =>
    L.ite x208 (
     L.load (.agg [.str, .str, .slice, .int .i64]) ((⟨b1, 0, none⟩ : Addr).add 11) fun (x209 : pt3) =>
     L.call Pr z0u [.agg #[.string x209.1, .string x209.2.1, .slice x209.2.2.1.a x209.2.2.1.len x209.2.2.1.cap, .int .i64 x209.2.2.2.1]] rI fun (x210 : Int) =>
     K (.int .i64 x210)) <|
    k25 (())) <|
   L.load eB6 ((⟨b4, 0, none⟩ : Addr).add 4) fun (x211 : Bool) =>
   L.ite x211 (
    L.load (.agg lf0) ((⟨b1, 0, none⟩ : Addr).add 5) fun (x212 : pt0) =>
    L.call Pr z0n [(qa0 x212)] rI fun (x213 : Int) =>
    K (.int .i64 x213)) <|
   L.load eB6 ((⟨b4, 0, none⟩ : Addr).add 5) fun (x214 : Bool) =>
   L.ite x214 (
    L.load (.agg [.str, .str, .slice, .int .i64]) ((⟨b1, 0, none⟩ : Addr).add 11) fun (x215 : pt3) =>
    L.call Pr z0u [.agg #[.string x215.1, .string x215.2.1, .slice x215.2.2.1.a x215.2.2.1.len x215.2.2.1.cap, .int .i64 x215.2.2.2.1]] rI fun (x216 : Int) =>
    K (.int .i64 x216)) <|
   k25 (())) <|
  L.load eB6 ((⟨b4, 0, none⟩ : Addr).add 3) fun (x217 : Bool) =>
  L.ite x217 (
   L.load eI6 ((⟨b1, 0, none⟩ : Addr).add 4) fun (x218 : Int) =>
   L.call Pr z0M [.int .i64 x218, .int .i64 0, .int .i64 2147483647] rB fun (x219 : Bool) =>
   L.ite (!x219) (
    K (.int .i64 2)) <|
   L.load eB6 ((⟨b4, 0, none⟩ : Addr).add 4) fun (x220 : Bool) =>
   L.ite x220 (
    L.load (.agg lf0) ((⟨b1, 0, none⟩ : Addr).add 5) fun (x221 : pt0) =>
    L.call Pr z0n [(qa0 x221)] rI fun (x222 : Int) =>
    K (.int .i64 x222)) <|
   L.load eB6 ((⟨b4, 0, none⟩ : Addr).add 5) fun (x223 : Bool) =>
   L.ite x223 (
    L.load (.agg [.str, .str, .slice, .int .i64]) ((⟨b1, 0, none⟩ : Addr).add 11) fun (x224 : pt3) =>
    L.call Pr z0u [.agg #[.string x224.1, .string x224.2.1, .slice x224.2.2.1.a x224.2.2.1.len x224.2.2.1.cap, .int .i64 x224.2.2.2.1]] rI fun (x225 : Int) =>
    K (.int .i64 x225)) <|
   k25 (())) <|
  L.load eB6 ((⟨b4, 0, none⟩ : Addr).add 4) fun (x226 : Bool) =>
  L.ite x226 (
   L.load (.agg lf0) ((⟨b1, 0, none⟩ : Addr).add 5) fun (x227 : pt0) =>
   L.call Pr z0n [(qa0 x227)] rI fun (x228 : Int) =>
   K (.int .i64 x228)) <|
  L.load eB6 ((⟨b4, 0, none⟩ : Addr).add 5) fun (x229 : Bool) =>
  L.ite x229 (
   L.load (.agg [.str, .str, .slice, .int .i64]) ((⟨b1, 0, none⟩ : Addr).add 11) fun (x230 : pt3) =>
   L.call Pr z0u [.agg #[.string x230.1, .string x230.2.1, .slice x230.2.2.1.a x230.2.2.1.len x230.2.2.1.cap, .int .i64 x230.2.2.2.1]] rI fun (x231 : Int) =>
   K (.int .i64 x231)) <|
  k25 (())) fun z26 =>
 K (.int .i64 0)
theorem zgE (p0 : ht1) {K : Value → PT} {w : World} (h : zc5 p0 K w) : CT Pr z8H [(.ag (qc1 p0) : SV).toV] K w :=
 C_of (fn := Tryz.f26) (an := zgP) (args := [.ag (qc1 p0)]) (by kernel_rfl) (by kernel_rfl) (by kernel_rfl) h
def zaA : Ann := (.seq .auto (.seq .auto (.seq (.seq .auto (.one [(5, (.one (.slice))), (14, (.one (.int .i64)))] (.seq .auto (.seq .auto (.seq .auto .auto (some [(5, (.one (.slice)))])) none) none)) none) .auto none) none) none)
def z6B (p0 : ByteArray) (p1 : Sl) (K : Value → PT) : PT :=
 L.new [.string p0] z00 fun b1 =>
 L.loop (Y := Sl × Int × Unit) (⟨some ⟨b1, 0, none⟩, 1, 1⟩, 0, ()) fun y2 again3 =>
 L.ite (decide (y2.2.1 < ((p1.len : Nat) : Int))) (
  L.join (Y := Sl × Unit) (fun k4 =>
   L.idx p1.a y2.2.1 p1.len 1 fun a6 =>
   L.load eS6 a6 fun (x7 : ByteArray) =>
   L.ite true (
    L.new [.string x7] z00 fun b8 =>
    L.sem Pr (.one (.one .slice)) (Builtin.append_ #[z06, z06] z06 #[.slice y2.1.a y2.1.len y2.1.cap, .slice (some ⟨b8, 0, none⟩) 1 1]) fun (s9 : Sl) =>
    k4 (⟨s9.a, s9.len, s9.cap⟩, ())) <|
   L.semR Pr (.tup [eI6, .one .bool]) (Instr.typeAssert (.iface z00 (.string x7)) zb2 z0d true) fun (x10 : Int × Bool × Unit) =>
   L.ite x10.2.1 (
    L.call Pr z3K [.int .i64 x10.1] rS fun (x11 : ByteArray) =>
    L.new [.string x11] z00 fun b12 =>
    L.sem Pr (.one (.one .slice)) (Builtin.append_ #[z06, z06] z06 #[.slice y2.1.a y2.1.len y2.1.cap, .slice (some ⟨b12, 0, none⟩) 1 1]) fun (s13 : Sl) =>
    k4 (⟨s13.a, s13.len, s13.cap⟩, ())) <|
   k4 (⟨y2.1.a, y2.1.len, y2.1.cap⟩, ())) fun z5 =>
  again3 (⟨z5.1.a, z5.1.len, z5.1.cap⟩, IntKind.wrap .i64 (y2.2.1 + 1), ())) <|
 L.call Pr z61 [.slice y2.1.a y2.1.len y2.1.cap, .string za7] rS fun (x14 : ByteArray) =>
 K (.string x14)
theorem zap (p0 : ByteArray) (p1 : Sl) {K : Value → PT} {w : World} (h : z6B p0 p1 K w) : CT Pr z0f [.string p0, .slice p1.a p1.len p1.cap] K w :=
 C_of (fn := Tryz.f27) (an := zaA) (args := [.v (.string p0), .v (.slice p1.a p1.len p1.cap)]) (by kernel_rfl) (by kernel_rfl) (by kernel_rfl) h
def z8q (p0 : Int) (K : Value → PT) : PT :=
 L.ite (decide (p0 ≤ 6)) (
  L.call Pr ze9 [.int .i64 p0] rS fun (x1 : ByteArray) =>
  K (.string x1)) <|
 L.call Pr zfb [.int .i64 p0] rS fun (x2 : ByteArray) =>
 K (.string x2)
theorem zcW (p0 : Int) {K : Value → PT} {w : World} (h : z8q p0 K w) : CT Pr z4o [.int .i64 p0] K w :=
 C_of (fn := Tryz.f28) (an := .auto) (args := [.v (.int .i64 p0)]) (by kernel_rfl) (by kernel_rfl) (by kernel_rfl) h
def z3O (p0 : Option Addr) (p1 : ht1) (K : Value → PT) : PT :=
 L.new [.int .i64 p1.1, .string p1.2.1, .string p1.2.2.1, .int .i64 p1.2.2.2.1, .int .i64 p1.2.2.2.2.1, .string p1.2.2.2.2.2.1, .int .i64 p1.2.2.2.2.2.2.1, .int .i64 p1.2.2.2.2.2.2.2.1, .int .i64 p1.2.2.2.2.2.2.2.2.1, .int .i64 p1.2.2.2.2.2.2.2.2.2.1, .int .i64 p1.2.2.2.2.2.2.2.2.2.2.1, .string p1.2.2.2.2.2.2.2.2.2.2.2.1, .string p1.2.2.2.2.2.2.2.2.2.2.2.2.1, .slice p1.2.2.2.2.2.2.2.2.2.2.2.2.2.1.a p1.2.2.2.2.2.2.2.2.2.2.2.2.2.1.len p1.2.2.2.2.2.2.2.2.2.2.2.2.2.1.cap, .int .i64 p1.2.2.2.2.2.2.2.2.2.2.2.2.2.2.1] z0D fun b1 =>
 L.draw <|
 L.nonnil p0 fun a2 =>
 L.load eP6 (a2.add 0) fun (x3 : Option Addr) =>
 L.load (.agg lf0) ((⟨b1, 0, none⟩ : Addr).add 5) fun (x4 : pt0) =>
 L.load eI6 ((⟨b1, 0, none⟩ : Addr).add 3) fun (x5 : Int) =>
 L.call Pr z3t [.pointer x3, (qa0 x4), .int .i64 x5] (.tup [eI6, eI6]) fun (x6 : Int × Int × Unit) =>
 L.load eS6 (((⟨b1, 0, none⟩ : Addr).add 5).add 0) fun (x7 : ByteArray) =>
 L.call Pr z7N [.string zbt, .string x7, .int .i64 x6.1, .int .i64 x6.2.1] rL fun (x8 : Sl) =>
 K (.slice x8.a x8.len x8.cap)
theorem z9f (p0 : Option Addr) (p1 : ht1) {K : Value → PT} {w : World} (h : z3O p0 p1 K w) : CT Pr z1x [.pointer p0, (.ag (qc1 p1) : SV).toV] K w :=
 C_of (fn := Tryz.f29) (an := .auto) (args := [.v (.pointer p0), .ag (qc1 p1)]) (by kernel_rfl) (by kernel_rfl) (by kernel_rfl) h
theorem z9c : Enters Pr z1x := z0o (by kernel_rfl)
def z4c (p0 : Option Addr) (p1 : ht1) (K : Value → PT) : PT :=
 L.new [.int .i64 p1.1, .string p1.2.1, .string p1.2.2.1, .int .i64 p1.2.2.2.1, .int .i64 p1.2.2.2.2.1, .string p1.2.2.2.2.2.1, .int .i64 p1.2.2.2.2.2.2.1, .int .i64 p1.2.2.2.2.2.2.2.1, .int .i64 p1.2.2.2.2.2.2.2.2.1, .int .i64 p1.2.2.2.2.2.2.2.2.2.1, .int .i64 p1.2.2.2.2.2.2.2.2.2.2.1, .string p1.2.2.2.2.2.2.2.2.2.2.2.1, .string p1.2.2.2.2.2.2.2.2.2.2.2.2.1, .slice p1.2.2.2.2.2.2.2.2.2.2.2.2.2.1.a p1.2.2.2.2.2.2.2.2.2.2.2.2.2.1.len p1.2.2.2.2.2.2.2.2.2.2.2.2.2.1.cap, .int .i64 p1.2.2.2.2.2.2.2.2.2.2.2.2.2.2.1] z0D fun b1 =>
 L.draw <|
 L.nonnil p0 fun a2 =>
 L.load eP6 (a2.add 0) fun (x3 : Option Addr) =>
 L.load (.agg [.str, .str, .slice, .int .i64]) ((⟨b1, 0, none⟩ : Addr).add 11) fun (x4 : pt3) =>
 L.load eI6 ((⟨b1, 0, none⟩ : Addr).add 3) fun (x5 : Int) =>
 L.call Pr z3N [.pointer x3, .agg #[.string x4.1, .string x4.2.1, .slice x4.2.2.1.a x4.2.2.1.len x4.2.2.1.cap, .int .i64 x4.2.2.2.1], .int .i64 x5] (.tup [eI6, eI6]) fun (x6 : Int × Int × Unit) =>
 L.load eS6 (((⟨b1, 0, none⟩ : Addr).add 11).add 0) fun (x7 : ByteArray) =>
 L.call Pr z7N [.string zid, .string x7, .int .i64 x6.1, .int .i64 x6.2.1] rL fun (x8 : Sl) =>
 K (.slice x8.a x8.len x8.cap)
theorem z9Y (p0 : Option Addr) (p1 : ht1) {K : Value → PT} {w : World} (h : z4c p0 p1 K w) : CT Pr z1F [.pointer p0, (.ag (qc1 p1) : SV).toV] K w :=
 C_of (fn := Tryz.f30) (an := .auto) (args := [.v (.pointer p0), .ag (qc1 p1)]) (by kernel_rfl) (by kernel_rfl) (by kernel_rfl) h
theorem z9U : Enters Pr z1F := z0o (by kernel_rfl)
def z9l : Ann := (.seq .auto (.seq .auto (.seq .auto (.seq .auto (.seq .auto (.seq (.seq .auto (.cond .auto .auto) none) .auto (some [(7, (.one (.slice)))])) none) none) none) none) none)
def z3P (p0 : Option Addr) (p1 : ht1) (K : Value → PT) : PT :=
 L.new [.int .i64 p1.1, .string p1.2.1, .string p1.2.2.1, .int .i64 p1.2.2.2.1, .int .i64 p1.2.2.2.2.1, .string p1.2.2.2.2.2.1, .int .i64 p1.2.2.2.2.2.2.1, .int .i64 p1.2.2.2.2.2.2.2.1, .int .i64 p1.2.2.2.2.2.2.2.2.1, .int .i64 p1.2.2.2.2.2.2.2.2.2.1, .int .i64 p1.2.2.2.2.2.2.2.2.2.2.1, .string p1.2.2.2.2.2.2.2.2.2.2.2.1, .string p1.2.2.2.2.2.2.2.2.2.2.2.2.1, .slice p1.2.2.2.2.2.2.2.2.2.2.2.2.2.1.a p1.2.2.2.2.2.2.2.2.2.2.2.2.2.1.len p1.2.2.2.2.2.2.2.2.2.2.2.2.2.1.cap, .int .i64 p1.2.2.2.2.2.2.2.2.2.2.2.2.2.2.1] z0D fun b1 =>
 L.load (.agg lf1) (⟨b1, 0, none⟩) fun (x2 : pt1) =>
 L.call Pr z44 [.pointer p0, (qa1 x2)] rS fun (x3 : ByteArray) =>
 L.draw <|
 L.nonnil p0 fun a4 =>
 L.load eP6 (a4.add 4) fun (x5 : Option Addr) =>
 L.load eI6 ((⟨b1, 0, none⟩ : Addr).add 3) fun (x6 : Int) =>
 L.nonnil p0 fun a7 =>
 L.load eI6 (a7.add 6) fun (x8 : Int) =>
 L.call Pr z5x [.pointer x5, .int .i64 x6, .string x3, .int .i64 x8] rL fun (x9 : Sl) =>
 L.call Pr z3p [.slice x9.a x9.len x9.cap, .slice none 0 0] rL fun (x10 : Sl) =>
 L.nonnil p0 fun a11 =>
 L.load (.one (.map)) (a11.add 5) fun (x12 : Option Nat) =>
 L.call Pr z1V [.map x12, .string x3] (.tup [eP6, eB6]) fun (x13 : Option Addr × Bool × Unit) =>
 L.join (Y := Sl × Unit) (fun k14 =>
  L.ite x13.2.1 (
   L.ite (decide (((x9.len : Nat) : Int) > 0)) (
    L.idx x9.a 0 x9.len 4 fun a16 =>
    L.load eI6 (a16.add 1) fun (x17 : Int) =>
    L.ite (x17 == 2) (
     L.nonnil x13.1 fun a18 =>
     L.load eI6 ((a18.add 1).add 0) fun (x19 : Int) =>
     L.ite (x19 == 0) (
      L.nonnil x13.1 fun a20 =>
      L.store ((a20.add 1).add 0) [.int .i64 1] <|
      L.new [.string x3] z00 fun b21 =>
      L.call Pr z0f [.string s_scale, .slice (some ⟨b21, 0, none⟩) 1 1] rS fun (x22 : ByteArray) =>
      L.new [.int .i64 1] z0d fun b23 =>
      L.call Pr z0e [.string x22, .slice (some ⟨b23, 0, none⟩) 1 1] rS fun (x24 : ByteArray) =>
      L.new [.string x24] z00 fun b25 =>
      L.sem Pr (.one (.one .slice)) (Builtin.append_ #[z06, z06] z06 #[.slice x10.a x10.len x10.cap, .slice (some ⟨b25, 0, none⟩) 1 1]) fun (s26 : Sl) =>
      k14 (⟨s26.a, s26.len, s26.cap⟩, ())) <|
     k14 (⟨x10.a, x10.len, x10.cap⟩, ())) <|
    k14 (⟨x10.a, x10.len, x10.cap⟩, ())) <|
   k14 (⟨x10.a, x10.len, x10.cap⟩, ())) <|
  k14 (⟨x10.a, x10.len, x10.cap⟩, ())) fun z15 =>
 K (.slice z15.1.a z15.1.len z15.1.cap)
theorem z9g (p0 : Option Addr) (p1 : ht1) {K : Value → PT} {w : World} (h : z3P p0 p1 K w) : CT Pr z1y [.pointer p0, (.ag (qc1 p1) : SV).toV] K w :=
 C_of (fn := Tryz.f32) (an := z9l) (args := [.v (.pointer p0), .ag (qc1 p1)]) (by kernel_rfl) (by kernel_rfl) (by kernel_rfl) h
theorem z9d : Enters Pr z1y := z0o (by kernel_rfl)
def zcn : Ann := (.seq .auto (.seq .auto (.seq .auto (.seq .auto (.seq .auto .auto (some [(7, (.one (.slice)))])) none) none) none) none)
def z5G (p0 : Option Addr) (p1 : ht1) (K : Value → PT) : PT :=
 L.new [.int .i64 p1.1, .string p1.2.1, .string p1.2.2.1, .int .i64 p1.2.2.2.1, .int .i64 p1.2.2.2.2.1, .string p1.2.2.2.2.2.1, .int .i64 p1.2.2.2.2.2.2.1, .int .i64 p1.2.2.2.2.2.2.2.1, .int .i64 p1.2.2.2.2.2.2.2.2.1, .int .i64 p1.2.2.2.2.2.2.2.2.2.1, .int .i64 p1.2.2.2.2.2.2.2.2.2.2.1, .string p1.2.2.2.2.2.2.2.2.2.2.2.1, .string p1.2.2.2.2.2.2.2.2.2.2.2.2.1, .slice p1.2.2.2.2.2.2.2.2.2.2.2.2.2.1.a p1.2.2.2.2.2.2.2.2.2.2.2.2.2.1.len p1.2.2.2.2.2.2.2.2.2.2.2.2.2.1.cap, .int .i64 p1.2.2.2.2.2.2.2.2.2.2.2.2.2.2.1] z0D fun b1 =>
 L.draw <|
 L.nonnil p0 fun a2 =>
 L.load eP6 (a2.add 3) fun (x3 : Option Addr) =>
 L.load eI6 ((⟨b1, 0, none⟩ : Addr).add 3) fun (x4 : Int) =>
 L.call Pr z4T [.pointer x3, .int .i64 x4] rI fun (x5 : Int) =>
 L.ite (x5 != 0) (
  L.call Pr z1e [.int .i64 x5] rL fun (x6 : Sl) =>
  K (.slice x6.a x6.len x6.cap)) <|
 L.draw <|
 L.nonnil p0 fun a7 =>
 L.load eP6 (a7.add 3) fun (x8 : Option Addr) =>
 L.load eI6 ((⟨b1, 0, none⟩ : Addr).add 3) fun (x9 : Int) =>
 L.call Pr z6w [.pointer x8, .int .i64 x9] rS fun (x10 : ByteArray) =>
 L.load eI6 ((⟨b1, 0, none⟩ : Addr).add 3) fun (x11 : Int) =>
 L.new [.int .i64 x11] z0d fun b12 =>
 L.call Pr z0e [.string s_up, .slice (some ⟨b12, 0, none⟩) 1 1] rS fun (x13 : ByteArray) =>
 L.new [.string x13] z00 fun b14 =>
 L.join (Y := Sl × Unit) (fun k15 =>
  L.nonnil p0 fun a17 =>
  L.load eP6 (a17.add 1) fun (x18 : Option Addr) =>
  L.call Pr z1D [.pointer x18, .string x10] rB fun (x19 : Bool) =>
  L.ite (!x19) (
   L.nonnil p0 fun a20 =>
   L.load eP6 (a20.add 1) fun (x21 : Option Addr) =>
   L.call Pr z5q [.pointer x21, .string x10] rI fun (x22 : Int) =>
   L.new [.string x10] z00 fun b23 =>
   L.call Pr z0f [.string zbs, .slice (some ⟨b23, 0, none⟩) 1 1] rS fun (x24 : ByteArray) =>
   L.new [.string x24] z00 fun b25 =>
   L.sem Pr (.one (.one .slice)) (Builtin.append_ #[z06, z06] z06 #[.slice (some ⟨b14, 0, none⟩) 1 1, .slice (some ⟨b25, 0, none⟩) 1 1]) fun (s26 : Sl) =>
   k15 (⟨s26.a, s26.len, s26.cap⟩, ())) <|
  k15 (⟨some ⟨b14, 0, none⟩, 1, 1⟩, ())) fun z16 =>
 L.nonnil p0 fun a27 =>
 L.load eP6 (a27.add 4) fun (x28 : Option Addr) =>
 L.call Pr z6t [.pointer x28, .string x10] rL fun (x29 : Sl) =>
 L.call Pr z3p [.slice x29.a x29.len x29.cap, .slice z16.1.a z16.1.len z16.1.cap] rL fun (x30 : Sl) =>
 K (.slice x30.a x30.len x30.cap)
theorem zc9 (p0 : Option Addr) (p1 : ht1) {K : Value → PT} {w : World} (h : z5G p0 p1 K w) : CT Pr z2m [.pointer p0, (.ag (qc1 p1) : SV).toV] K w :=
 C_of (fn := Tryz.f34) (an := zcn) (args := [.v (.pointer p0), .ag (qc1 p1)]) (by kernel_rfl) (by kernel_rfl) (by kernel_rfl) h
theorem zc6 : Enters Pr z2m := z0o (by kernel_rfl)
def zaE : Ann := (.seq .auto (.seq .auto (.seq .auto (.seq (.one [(4, (.one (.slice)))] .auto) .auto none) none) none) none)
def z4H (p0 : Option Addr) (p1 : ht1) (K : Value → PT) : PT :=
 L.new [.int .i64 p1.1, .string p1.2.1, .string p1.2.2.1, .int .i64 p1.2.2.2.1, .int .i64 p1.2.2.2.2.1, .string p1.2.2.2.2.2.1, .int .i64 p1.2.2.2.2.2.2.1, .int .i64 p1.2.2.2.2.2.2.2.1, .int .i64 p1.2.2.2.2.2.2.2.2.1, .int .i64 p1.2.2.2.2.2.2.2.2.2.1, .int .i64 p1.2.2.2.2.2.2.2.2.2.2.1, .string p1.2.2.2.2.2.2.2.2.2.2.2.1, .string p1.2.2.2.2.2.2.2.2.2.2.2.2.1, .slice p1.2.2.2.2.2.2.2.2.2.2.2.2.2.1.a p1.2.2.2.2.2.2.2.2.2.2.2.2.2.1.len p1.2.2.2.2.2.2.2.2.2.2.2.2.2.1.cap, .int .i64 p1.2.2.2.2.2.2.2.2.2.2.2.2.2.2.1] z0D fun b1 =>
 L.draw <|
 L.nonnil p0 fun a2 =>
 L.load eP6 (a2.add 3) fun (x3 : Option Addr) =>
 L.load eI6 ((⟨b1, 0, none⟩ : Addr).add 3) fun (x4 : Int) =>
 L.call Pr z5A [.pointer x3, .int .i64 x4] (.tup [eL6, eI6]) fun (x5 : Sl × Int × Unit) =>
 L.ite (x5.2.1 != 0) (
  L.call Pr z1e [.int .i64 x5.2.1] rL fun (x6 : Sl) =>
  K (.slice x6.a x6.len x6.cap)) <|
 L.join (Y := Sl × Unit) (fun k7 =>
  L.draw <|
  L.nonnil p0 fun a9 =>
  L.load eP6 (a9.add 4) fun (x10 : Option Addr) =>
  L.load eI6 ((⟨b1, 0, none⟩ : Addr).add 3) fun (x11 : Int) =>
  L.alts [(
    L.call Pr z4S [.pointer x10, .slice x5.1.a x5.1.len x5.1.cap] rL fun (x12 : Sl) =>
    L.chk ((⟨b1, 0, none⟩ : Addr).add 3) [.int .i64 x11] <|
    L.new [.int .i64 x11] z0d fun b13 =>
    L.chk (a9.add 4) [.pointer x10] <|
    L.call Pr z0e [.string zf5, .slice (some ⟨b13, 0, none⟩) 1 1] rS fun (x14 : ByteArray) =>
    L.new [.string x14] z00 fun b15 =>
    L.call Pr z3p [.slice x12.a x12.len x12.cap, .slice (some ⟨b15, 0, none⟩) 1 1] rL fun (x16 : Sl) =>
    k7 (⟨x16.a, x16.len, x16.cap⟩, ())),(
    L.new [.int .i64 x11] z0d fun b17 =>
    L.chk (a9.add 4) [.pointer x10] <|
    L.call Pr z4S [.pointer x10, .slice x5.1.a x5.1.len x5.1.cap] rL fun (x18 : Sl) =>
    L.chk ((⟨b1, 0, none⟩ : Addr).add 3) [.int .i64 x11] <|
    L.call Pr z0e [.string zf5, .slice (some ⟨b17, 0, none⟩) 1 1] rS fun (x19 : ByteArray) =>
    L.new [.string x19] z00 fun b20 =>
    L.call Pr z3p [.slice x18.a x18.len x18.cap, .slice (some ⟨b20, 0, none⟩) 1 1] rL fun (x21 : Sl) =>
    k7 (⟨x21.a, x21.len, x21.cap⟩, ()))]) fun z8 =>
 K (.slice z8.1.a z8.1.len z8.1.cap)
theorem zas (p0 : Option Addr) (p1 : ht1) {K : Value → PT} {w : World} (h : z4H p0 p1 K w) : CT Pr z0Y [.pointer p0, (.ag (qc1 p1) : SV).toV] K w :=
 C_of (fn := Tryz.f35) (an := zaE) (args := [.v (.pointer p0), .ag (qc1 p1)]) (by kernel_rfl) (by kernel_rfl) (by kernel_rfl) h
theorem zan : Enters Pr z0Y := z0o (by kernel_rfl)
def zaB : Ann := (.seq .auto (.seq .auto (.seq .auto (.seq .auto (.seq (.seq .auto (.one [(33, (.one (.int .i64)))] .auto) none) .auto none) none) none) none) none)
def z4F (p0 : Option Addr) (p1 : ht1) (K : Value → PT) : PT :=
 L.new [.int .i64 p1.1, .string p1.2.1, .string p1.2.2.1, .int .i64 p1.2.2.2.1, .int .i64 p1.2.2.2.2.1, .string p1.2.2.2.2.2.1, .int .i64 p1.2.2.2.2.2.2.1, .int .i64 p1.2.2.2.2.2.2.2.1, .int .i64 p1.2.2.2.2.2.2.2.2.1, .int .i64 p1.2.2.2.2.2.2.2.2.2.1, .int .i64 p1.2.2.2.2.2.2.2.2.2.2.1, .string p1.2.2.2.2.2.2.2.2.2.2.2.1, .string p1.2.2.2.2.2.2.2.2.2.2.2.2.1, .slice p1.2.2.2.2.2.2.2.2.2.2.2.2.2.1.a p1.2.2.2.2.2.2.2.2.2.2.2.2.2.1.len p1.2.2.2.2.2.2.2.2.2.2.2.2.2.1.cap, .int .i64 p1.2.2.2.2.2.2.2.2.2.2.2.2.2.2.1] z0D fun b1 =>
 L.nonnil p0 fun a2 =>
 L.load eI6 (a2.add 6) fun (x3 : Int) =>
 L.ite (decide (x3 ≥ 1048576)) (
  L.call Pr z1e [.int .i64 9] rL fun (x4 : Sl) =>
  K (.slice x4.a x4.len x4.cap)) <|
 L.nonnil p0 fun a5 =>
 L.load eI6 (a5.add 6) fun (x6 : Int) =>
 L.nonnil p0 fun a7 =>
 L.store (a7.add 6) [.int .i64 (IntKind.wrap .i64 (x6 + 1))] <|
 L.draw <|
 L.nonnil p0 fun a8 =>
 L.load eP6 (a8.add 4) fun (x9 : Option Addr) =>
 L.nonnil p0 fun a10 =>
 L.load eI6 (a10.add 6) fun (x11 : Int) =>
 L.call Pr z6r [.pointer x9, .int .i64 x11] rL fun (x12 : Sl) =>
 L.call Pr z4K [.pointer p0] rL fun (x13 : Sl) =>
 L.loop (Y := Int × Unit) (0, ()) fun y14 again15 =>
 L.ite (decide (y14.1 < ((x13.len : Nat) : Int))) (
  L.idx x13.a y14.1 x13.len 1 fun a16 =>
  L.load eS6 a16 fun (x17 : ByteArray) =>
  L.draw <|
  L.nonnil p0 fun a18 =>
  L.load (.one (.map)) (a18.add 5) fun (x19 : Option Nat) =>
  L.semR Pr rP (Instr.lookup z0O (.map x19) (.string x17) false) fun (x20 : Option Addr) =>
  L.nonnil x20 fun a21 =>
  L.load eP6 (a21.add 0) fun (x22 : Option Addr) =>
  L.nonnil p0 fun a23 =>
  L.load eP6 (a23.add 4) fun (x24 : Option Addr) =>
  L.call Pr z6u [.pointer x24, .string x17] rI fun (x25 : Int) =>
  L.chk (a21.add 0) [.pointer x22] <|
  L.chkSem Pr (Instr.lookup z0O (.map x19) (.string x17) false) (.pointer x20) <|
  L.chk (a18.add 5) [.map x19] <|
  L.call Pr z5X [.pointer x22, .int .i64 x25] (.tup []) fun (x26 : Unit) =>
  again15 (IntKind.wrap .i64 (y14.1 + 1), ())) <|
 L.nonnil p0 fun a27 =>
 L.load eI6 (a27.add 6) fun (x28 : Int) =>
 L.new [.int .i64 x28] z0d fun b29 =>
 L.call Pr z0e [.string zl9, .slice (some ⟨b29, 0, none⟩) 1 1] rS fun (x30 : ByteArray) =>
 L.new [.string x30] z00 fun b31 =>
 L.call Pr z3p [.slice x12.a x12.len x12.cap, .slice (some ⟨b31, 0, none⟩) 1 1] rL fun (x32 : Sl) =>
 K (.slice x32.a x32.len x32.cap)
theorem zaq (p0 : Option Addr) (p1 : ht1) {K : Value → PT} {w : World} (h : z4F p0 p1 K w) : CT Pr z1P [.pointer p0, (.ag (qc1 p1) : SV).toV] K w :=
 C_of (fn := Tryz.f36) (an := zaB) (args := [.v (.pointer p0), .ag (qc1 p1)]) (by kernel_rfl) (by kernel_rfl) (by kernel_rfl) h
theorem zal : Enters Pr z1P := z0o (by kernel_rfl)
def za5 : Ann := (.seq .auto (.seq (.one [(5, (.one (.adr))), (7, (.one (.int .i64))), (8, (.one (.bool)))] .auto) .auto none) none)
def z4b (p0 : Option Addr) (p1 : ht1) (K : Value → PT) : PT :=
 L.new [.int .i64 p1.1, .string p1.2.1, .string p1.2.2.1, .int .i64 p1.2.2.2.1, .int .i64 p1.2.2.2.2.1, .string p1.2.2.2.2.2.1, .int .i64 p1.2.2.2.2.2.2.1, .int .i64 p1.2.2.2.2.2.2.2.1, .int .i64 p1.2.2.2.2.2.2.2.2.1, .int .i64 p1.2.2.2.2.2.2.2.2.2.1, .int .i64 p1.2.2.2.2.2.2.2.2.2.2.1, .string p1.2.2.2.2.2.2.2.2.2.2.2.1, .string p1.2.2.2.2.2.2.2.2.2.2.2.2.1, .slice p1.2.2.2.2.2.2.2.2.2.2.2.2.2.1.a p1.2.2.2.2.2.2.2.2.2.2.2.2.2.1.len p1.2.2.2.2.2.2.2.2.2.2.2.2.2.1.cap, .int .i64 p1.2.2.2.2.2.2.2.2.2.2.2.2.2.2.1] z0D fun b1 =>
 L.join (Y := Addr × Int × Bool × Unit) (fun k2 =>
  L.draw <|
  L.nonnil p0 fun a4 =>
  L.load eP6 (a4.add 0) fun (x5 : Option Addr) =>
  L.load eS6 ((⟨b1, 0, none⟩ : Addr).add 1) fun (x6 : ByteArray) =>
  L.alts [(
    L.call Pr z39 [.pointer x5, .string x6] (.tup [(.agg lf0), eI6, eI6, eB6]) fun (x7 : pt4) =>
    L.new [.string s_, .int .i64 0, .int .i64 0, .int .i64 0, .int .i64 0, .int .i64 0] z0g fun b8 =>
    L.chk ((⟨b1, 0, none⟩ : Addr).add 1) [.string x6] <|
    L.chk (a4.add 0) [.pointer x5] <|
    L.store (⟨b8, 0, none⟩) [.string x7.1.1, .int .i64 x7.1.2.1, .int .i64 x7.1.2.2.1, .int .i64 x7.1.2.2.2.1, .int .i64 x7.1.2.2.2.2.1, .int .i64 x7.1.2.2.2.2.2.1] <|
    k2 (⟨b8, 0, none⟩, x7.2.2.1, x7.2.2.2.1, ())),(
    L.new [.string s_, .int .i64 0, .int .i64 0, .int .i64 0, .int .i64 0, .int .i64 0] z0g fun b9 =>
    L.chk ((⟨b1, 0, none⟩ : Addr).add 1) [.string x6] <|
    L.chk (a4.add 0) [.pointer x5] <|
    L.call Pr z39 [.pointer x5, .string x6] (.tup [(.agg lf0), eI6, eI6, eB6]) fun (x10 : pt4) =>
    L.store (⟨b9, 0, none⟩) [.string x10.1.1, .int .i64 x10.1.2.1, .int .i64 x10.1.2.2.1, .int .i64 x10.1.2.2.2.1, .int .i64 x10.1.2.2.2.2.1, .int .i64 x10.1.2.2.2.2.2.1] <|
    k2 (⟨b9, 0, none⟩, x10.2.2.1, x10.2.2.2.1, ()))]) fun z3 =>
 L.ite (!z3.2.2.1) (
  L.call Pr z1e [.int .i64 6] rL fun (x11 : Sl) =>
  K (.slice x11.a x11.len x11.cap)) <|
 L.ite (decide (z3.2.1 > 999999)) (
  L.call Pr z1e [.int .i64 3] rL fun (x12 : Sl) =>
  K (.slice x12.a x12.len x12.cap)) <|
 L.draw <|
 L.nonnil p0 fun a13 =>
 L.load eP6 (a13.add 1) fun (x14 : Option Addr) =>
 L.load (.agg lf0) z3.1 fun (x15 : pt0) =>
 L.call Pr z5p [.pointer x14, (qa0 x15), .int .i64 z3.2.1] (.tup [eS6, eB6]) fun (x16 : ByteArray × Bool × Unit) =>
 L.ite (!x16.2.1) (
  L.new [.string x16.1] z00 fun b17 =>
  L.call Pr z0f [.string znT, .slice (some ⟨b17, 0, none⟩) 1 1] rS fun (x18 : ByteArray) =>
  L.new [.string x18] z00 fun b19 =>
  K (.slice (some ⟨b19, 0, none⟩) 1 1)) <|
 L.load eI6 (z3.1.add 3) fun (x20 : Int) =>
 L.draw <|
 L.nonnil p0 fun a21 =>
 L.load (.one (.map)) (a21.add 5) fun (x22 : Option Nat) =>
 L.call Pr zaX [] rP fun (x23 : Option Addr) =>
 L.chk (a21.add 5) [.map x22] <|
 L.new [.pointer x23, .int .i64 (if 1 > x20 then 1 else x20), .int .i64 0] z7b fun b24 =>
 L.chk (a21.add 5) [.map x22] <|
 L.semU Pr (Instr.mapUpdate z0O (.map x22) (.string x16.1) (.pointer (some (⟨b24, 0, none⟩)))) <|
 L.new [.string x16.1] z00 fun b25 =>
 L.call Pr z0f [.string z8b, .slice (some ⟨b25, 0, none⟩) 1 1] rS fun (x26 : ByteArray) =>
 L.new [.string x16.1] z00 fun b27 =>
 L.call Pr z0f [.string s_scale, .slice (some ⟨b27, 0, none⟩) 1 1] rS fun (x28 : ByteArray) =>
 L.new [.int .i64 (if 1 > x20 then 1 else x20)] z0d fun b29 =>
 L.call Pr z0e [.string x28, .slice (some ⟨b29, 0, none⟩) 1 1] rS fun (x30 : ByteArray) =>
 L.new [.string x26, .string x30] z00 fun b31 =>
 K (.slice (some ⟨b31, 0, none⟩) 2 2)
theorem z9X (p0 : Option Addr) (p1 : ht1) {K : Value → PT} {w : World} (h : z4b p0 p1 K w) : CT Pr z1E [.pointer p0, (.ag (qc1 p1) : SV).toV] K w :=
 C_of (fn := Tryz.f37) (an := za5) (args := [.v (.pointer p0), .ag (qc1 p1)]) (by kernel_rfl) (by kernel_rfl) (by kernel_rfl) h
theorem z9T : Enters Pr z1E := z0o (by kernel_rfl)
def zaD : Ann := (.seq .auto (.seq (.one [(5, (.one (.adr))), (7, (.one (.bool)))] .auto) (.seq .auto (.seq (.one [(8, (.one (.adr))), (9, (.one (.int .i64)))] .auto) .auto none) none) none) none)
def z4G (p0 : Option Addr) (p1 : ht1) (K : Value → PT) : PT :=
 L.new [.int .i64 p1.1, .string p1.2.1, .string p1.2.2.1, .int .i64 p1.2.2.2.1, .int .i64 p1.2.2.2.2.1, .string p1.2.2.2.2.2.1, .int .i64 p1.2.2.2.2.2.2.1, .int .i64 p1.2.2.2.2.2.2.2.1, .int .i64 p1.2.2.2.2.2.2.2.2.1, .int .i64 p1.2.2.2.2.2.2.2.2.2.1, .int .i64 p1.2.2.2.2.2.2.2.2.2.2.1, .string p1.2.2.2.2.2.2.2.2.2.2.2.1, .string p1.2.2.2.2.2.2.2.2.2.2.2.2.1, .slice p1.2.2.2.2.2.2.2.2.2.2.2.2.2.1.a p1.2.2.2.2.2.2.2.2.2.2.2.2.2.1.len p1.2.2.2.2.2.2.2.2.2.2.2.2.2.1.cap, .int .i64 p1.2.2.2.2.2.2.2.2.2.2.2.2.2.2.1] z0D fun b1 =>
 L.join (Y := Addr × Bool × Unit) (fun k2 =>
  L.draw <|
  L.nonnil p0 fun a4 =>
  L.load eP6 (a4.add 0) fun (x5 : Option Addr) =>
  L.load eS6 ((⟨b1, 0, none⟩ : Addr).add 1) fun (x6 : ByteArray) =>
  L.alts [(
    L.call Pr z3s [.pointer x5, .string x6] (.tup [(.agg [.str, .str, .slice, .int .i64]), eI6, eB6]) fun (x7 : pt5) =>
    L.new [.string s_, .string s_, .slice none 0 0, .int .i64 0] z0p fun b8 =>
    L.chk ((⟨b1, 0, none⟩ : Addr).add 1) [.string x6] <|
    L.chk (a4.add 0) [.pointer x5] <|
    L.store (⟨b8, 0, none⟩) [.string x7.1.1, .string x7.1.2.1, .slice x7.1.2.2.1.a x7.1.2.2.1.len x7.1.2.2.1.cap, .int .i64 x7.1.2.2.2.1] <|
    k2 (⟨b8, 0, none⟩, x7.2.2.1, ())),(
    L.new [.string s_, .string s_, .slice none 0 0, .int .i64 0] z0p fun b9 =>
    L.chk ((⟨b1, 0, none⟩ : Addr).add 1) [.string x6] <|
    L.chk (a4.add 0) [.pointer x5] <|
    L.call Pr z3s [.pointer x5, .string x6] (.tup [(.agg [.str, .str, .slice, .int .i64]), eI6, eB6]) fun (x10 : pt5) =>
    L.store (⟨b9, 0, none⟩) [.string x10.1.1, .string x10.1.2.1, .slice x10.1.2.2.1.a x10.1.2.2.1.len x10.1.2.2.1.cap, .int .i64 x10.1.2.2.2.1] <|
    k2 (⟨b9, 0, none⟩, x10.2.2.1, ()))]) fun z3 =>
 L.ite (!z3.2.1) (
  L.call Pr z1e [.int .i64 6] rL fun (x11 : Sl) =>
  K (.slice x11.a x11.len x11.cap)) <|
 L.join (Y := Addr × Int × Unit) (fun k12 =>
  L.draw <|
  L.load (.agg [.str, .str, .slice, .int .i64]) z3.1 fun (x14 : pt3) =>
  L.nonnil p0 fun a15 =>
  L.load eP6 (a15.add 1) fun (x16 : Option Addr) =>
  L.alts [(
    L.call Pr z64 [.agg #[.string x14.1, .string x14.2.1, .slice x14.2.2.1.a x14.2.2.1.len x14.2.2.1.cap, .int .i64 x14.2.2.2.1], .pointer x16] (.tup [(.agg [.slice, .slice]), eI6]) fun (x17 : (Sl × Sl × Unit) × Int × Unit) =>
    L.new [.slice none 0 0, .slice none 0 0] z03 fun b18 =>
    L.chk (a15.add 1) [.pointer x16] <|
    L.chk z3.1 [.string x14.1, .string x14.2.1, .slice x14.2.2.1.a x14.2.2.1.len x14.2.2.1.cap, .int .i64 x14.2.2.2.1] <|
    L.store (⟨b18, 0, none⟩) [.slice x17.1.1.a x17.1.1.len x17.1.1.cap, .slice x17.1.2.1.a x17.1.2.1.len x17.1.2.1.cap] <|
    k12 (⟨b18, 0, none⟩, x17.2.1, ())),(
    L.new [.slice none 0 0, .slice none 0 0] z03 fun b19 =>
    L.chk (a15.add 1) [.pointer x16] <|
    L.chk z3.1 [.string x14.1, .string x14.2.1, .slice x14.2.2.1.a x14.2.2.1.len x14.2.2.1.cap, .int .i64 x14.2.2.2.1] <|
    L.call Pr z64 [.agg #[.string x14.1, .string x14.2.1, .slice x14.2.2.1.a x14.2.2.1.len x14.2.2.1.cap, .int .i64 x14.2.2.2.1], .pointer x16] (.tup [(.agg [.slice, .slice]), eI6]) fun (x20 : (Sl × Sl × Unit) × Int × Unit) =>
    L.store (⟨b19, 0, none⟩) [.slice x20.1.1.a x20.1.1.len x20.1.1.cap, .slice x20.1.2.1.a x20.1.2.1.len x20.1.2.1.cap] <|
    k12 (⟨b19, 0, none⟩, x20.2.1, ()))]) fun z13 =>
 L.ite (z13.2.1 != 0) (
  L.call Pr z1e [.int .i64 z13.2.1] rL fun (x21 : Sl) =>
  K (.slice x21.a x21.len x21.cap)) <|
 L.draw <|
 L.load eS6 ((⟨b1, 0, none⟩ : Addr).add 1) fun (x22 : ByteArray) =>
 L.nonnil p0 fun a23 =>
 L.load eP6 (a23.add 2) fun (x24 : Option Addr) =>
 L.load eS6 ((⟨b1, 0, none⟩ : Addr).add 1) fun (x25 : ByteArray) =>
 L.load (.agg [.slice, .slice]) z13.1 fun (x26 : Sl × Sl × Unit) =>
 L.nonnil p0 fun a27 =>
 L.load eI6 (a27.add 6) fun (x28 : Int) =>
 L.load eI6 (z3.1.add 3) fun (x29 : Int) =>
 L.call Pr z5u [.pointer x24, .string x25, .agg #[.slice x26.1.a x26.1.len x26.1.cap, .slice x26.2.1.a x26.2.1.len x26.2.1.cap], .int .i64 x28, .int .i64 x29] (.one (.agg [.slice, .slice])) fun (x30 : Sl × Sl × Unit) =>
 L.chk ((⟨b1, 0, none⟩ : Addr).add 1) [.string x22] <|
 L.call Pr z9u [.agg #[.slice x30.1.a x30.1.len x30.1.cap, .slice x30.2.1.a x30.2.1.len x30.2.1.cap]] rS fun (x31 : ByteArray) =>
 L.chk ((⟨b1, 0, none⟩ : Addr).add 1) [.string x22] <|
 L.new [.string x22, .string x31] z00 fun b32 =>
 L.call Pr z0f [.string zla, .slice (some ⟨b32, 0, none⟩) 2 2] rS fun (x33 : ByteArray) =>
 L.new [.string x33] z00 fun b34 =>
 K (.slice (some ⟨b34, 0, none⟩) 1 1)
theorem zar (p0 : Option Addr) (p1 : ht1) {K : Value → PT} {w : World} (h : z4G p0 p1 K w) : CT Pr z1Q [.pointer p0, (.ag (qc1 p1) : SV).toV] K w :=
 C_of (fn := Tryz.f38) (an := zaD) (args := [.v (.pointer p0), .ag (qc1 p1)]) (by kernel_rfl) (by kernel_rfl) (by kernel_rfl) h
theorem zam : Enters Pr z1Q := z0o (by kernel_rfl)
def zaC : Ann := (.seq .auto (.seq (.one [(5, (.one (.adr))), (6, (.one (.bool)))] .auto) (.seq .auto (.seq .auto (.seq .auto (.seq (.seq .auto (.one [(9, (.one (.slice))), (47, (.one (.int .i64)))] .auto) none) (.seq (.seq .auto (.one [(9, (.one (.slice))), (60, (.one (.int .i64)))] .auto) none) .auto none) none) none) none) none) none) none)
def z2s (p0 : Option Addr) (p1 : ht1) (K : Value → PT) : PT :=
 L.new [.int .i64 p1.1, .string p1.2.1, .string p1.2.2.1, .int .i64 p1.2.2.2.1, .int .i64 p1.2.2.2.2.1, .string p1.2.2.2.2.2.1, .int .i64 p1.2.2.2.2.2.2.1, .int .i64 p1.2.2.2.2.2.2.2.1, .int .i64 p1.2.2.2.2.2.2.2.2.1, .int .i64 p1.2.2.2.2.2.2.2.2.2.1, .int .i64 p1.2.2.2.2.2.2.2.2.2.2.1, .string p1.2.2.2.2.2.2.2.2.2.2.2.1, .string p1.2.2.2.2.2.2.2.2.2.2.2.2.1, .slice p1.2.2.2.2.2.2.2.2.2.2.2.2.2.1.a p1.2.2.2.2.2.2.2.2.2.2.2.2.2.1.len p1.2.2.2.2.2.2.2.2.2.2.2.2.2.1.cap, .int .i64 p1.2.2.2.2.2.2.2.2.2.2.2.2.2.2.1] z0D fun b1 =>
 L.join (Y := Addr × Bool × Unit) (fun k2 =>
  L.draw <|
  L.nonnil p0 fun a4 =>
  L.load eP6 (a4.add 1) fun (x5 : Option Addr) =>
  L.load eS6 ((⟨b1, 0, none⟩ : Addr).add 1) fun (x6 : ByteArray) =>
  L.alts [(
    L.call Pr z3F [.pointer x5, .string x6] (.tup [(.agg lf5), eB6]) fun (x7 : pt6) =>
    L.new [.string s_, .int .i64 0, .string s_, .int .i64 0, .int .i64 0, .int .i64 0, .int .i64 0, .int .i64 0] z0m fun b8 =>
    L.chk ((⟨b1, 0, none⟩ : Addr).add 1) [.string x6] <|
    L.chk (a4.add 1) [.pointer x5] <|
    L.store (⟨b8, 0, none⟩) [.string x7.1.1, .int .i64 x7.1.2.1, .string x7.1.2.2.1, .int .i64 x7.1.2.2.2.1, .int .i64 x7.1.2.2.2.2.1, .int .i64 x7.1.2.2.2.2.2.1, .int .i64 x7.1.2.2.2.2.2.2.1, .int .i64 x7.1.2.2.2.2.2.2.2.1] <|
    k2 (⟨b8, 0, none⟩, x7.2.1, ())),(
    L.new [.string s_, .int .i64 0, .string s_, .int .i64 0, .int .i64 0, .int .i64 0, .int .i64 0, .int .i64 0] z0m fun b9 =>
    L.chk ((⟨b1, 0, none⟩ : Addr).add 1) [.string x6] <|
    L.chk (a4.add 1) [.pointer x5] <|
    L.call Pr z3F [.pointer x5, .string x6] (.tup [(.agg lf5), eB6]) fun (x10 : pt6) =>
    L.store (⟨b9, 0, none⟩) [.string x10.1.1, .int .i64 x10.1.2.1, .string x10.1.2.2.1, .int .i64 x10.1.2.2.2.1, .int .i64 x10.1.2.2.2.2.1, .int .i64 x10.1.2.2.2.2.2.1, .int .i64 x10.1.2.2.2.2.2.2.1, .int .i64 x10.1.2.2.2.2.2.2.2.1] <|
    k2 (⟨b9, 0, none⟩, x10.2.1, ()))]) fun z3 =>
 L.ite (!z3.2.1) (
  L.call Pr z1e [.int .i64 6] rL fun (x11 : Sl) =>
  K (.slice x11.a x11.len x11.cap)) <|
 L.draw <|
 L.nonnil p0 fun a12 =>
 L.load eP6 (a12.add 3) fun (x13 : Option Addr) =>
 L.load eS6 ((⟨b1, 0, none⟩ : Addr).add 1) fun (x14 : ByteArray) =>
 L.load eI6 ((z3.1.add 2).add 2) fun (x15 : Int) =>
 L.load eS6 ((⟨b1, 0, none⟩ : Addr).add 1) fun (x16 : ByteArray) =>
 L.call Pr z4D [.pointer p0, .string x16] rI fun (x17 : Int) =>
 L.chk ((z3.1.add 2).add 2) [.int .i64 x15] <|
 L.chk ((⟨b1, 0, none⟩ : Addr).add 1) [.string x14] <|
 L.chk (a12.add 3) [.pointer x13] <|
 L.call Pr z4Z [.pointer x13, .string x14, .int .i64 x15, .int .i64 x17] (.tup [eL6, eL6]) fun (x18 : Sl × Sl × Unit) =>
 L.loop (Y := Sl × Int × Unit) (⟨none, 0, 0⟩, 0, ()) fun y19 again20 =>
 L.ite (decide (y19.2.1 < ((x18.1.len : Nat) : Int))) (
  L.idx x18.1.a y19.2.1 x18.1.len 1 fun a21 =>
  L.load eI6 a21 fun (x22 : Int) =>
  L.new [.int .i64 x22] z0d fun b23 =>
  L.call Pr z0e [.string zld, .slice (some ⟨b23, 0, none⟩) 1 1] rS fun (x24 : ByteArray) =>
  L.new [.string x24] z00 fun b25 =>
  L.sem Pr (.one (.one .slice)) (Builtin.append_ #[z06, z06] z06 #[.slice y19.1.a y19.1.len y19.1.cap, .slice (some ⟨b25, 0, none⟩) 1 1]) fun (s26 : Sl) =>
  again20 (⟨s26.a, s26.len, s26.cap⟩, IntKind.wrap .i64 (y19.2.1 + 1), ())) <|
 L.loop (Y := Sl × Int × Unit) (⟨y19.1.a, y19.1.len, y19.1.cap⟩, 0, ()) fun y27 again28 =>
 L.ite (decide (y27.2.1 < ((x18.2.1.len : Nat) : Int))) (
  L.idx x18.2.1.a y27.2.1 x18.2.1.len 1 fun a29 =>
  L.load eI6 a29 fun (x30 : Int) =>
  L.new [.int .i64 x30] z0d fun b31 =>
  L.call Pr z0e [.string znZ, .slice (some ⟨b31, 0, none⟩) 1 1] rS fun (x32 : ByteArray) =>
  L.new [.string x32] z00 fun b33 =>
  L.sem Pr (.one (.one .slice)) (Builtin.append_ #[z06, z06] z06 #[.slice y27.1.a y27.1.len y27.1.cap, .slice (some ⟨b33, 0, none⟩) 1 1]) fun (s34 : Sl) =>
  again28 (⟨s34.a, s34.len, s34.cap⟩, IntKind.wrap .i64 (y27.2.1 + 1), ())) <|
 L.load eS6 ((⟨b1, 0, none⟩ : Addr).add 1) fun (x35 : ByteArray) =>
 L.call Pr z43 [.pointer p0, .string x35, .func (.func z2K) #[] #[]] rI fun (x36 : Int) =>
 L.load eS6 ((⟨b1, 0, none⟩ : Addr).add 1) fun (x37 : ByteArray) =>
 L.new [.string x37] z00 fun b38 =>
 L.call Pr z0f [.string s_fleet, .slice (some ⟨b38, 0, none⟩) 1 1] rS fun (x39 : ByteArray) =>
 L.new [.int .i64 x36] z0d fun b40 =>
 L.call Pr z0e [.string x39, .slice (some ⟨b40, 0, none⟩) 1 1] rS fun (x41 : ByteArray) =>
 L.new [.string x41] z00 fun b42 =>
 L.sem Pr (.one (.one .slice)) (Builtin.append_ #[z06, z06] z06 #[.slice y27.1.a y27.1.len y27.1.cap, .slice (some ⟨b42, 0, none⟩) 1 1]) fun (s43 : Sl) =>
 K (.slice s43.a s43.len s43.cap)
theorem z6K (p0 : Option Addr) (p1 : ht1) {K : Value → PT} {w : World} (h : z2s p0 p1 K w) : CT Pr z1u [.pointer p0, (.ag (qc1 p1) : SV).toV] K w :=
 C_of (fn := Tryz.f40) (an := zaC) (args := [.v (.pointer p0), .ag (qc1 p1)]) (by kernel_rfl) (by kernel_rfl) (by kernel_rfl) h
theorem z6J : Enters Pr z1u := z0o (by kernel_rfl)
def z1X (p0 : Option Nat) (p1 : ByteArray) (K : Value → PT) : PT :=
 L.semR Pr (.tup [eP6, .one .bool]) (Instr.lookup z0O (.map p0) (.string p1) true) fun (x1 : Option Addr × Bool × Unit) =>
 K (.tuple #[.pointer x1.1, .bool x1.2.1])
theorem z38 (p0 : Option Nat) (p1 : ByteArray) {K : Value → PT} {w : World} (h : z1X p0 p1 K w) : CT Pr z1V [.map p0, .string p1] K w :=
 C_of (fn := Tryz.f42) (an := .auto) (args := [.v (.map p0), .v (.string p1)]) (by kernel_rfl) (by kernel_rfl) (by kernel_rfl) h
def zcp : Ann := (.seq .auto (.seq (.seq .auto (.one [(5, (.one (.slice)))] (.seq .auto (.seq (.cond .auto .auto) .auto none) none)) none) (.seq .auto (.seq .auto .auto (some [(4, (.one (.slice)))])) none) none) none)
def z7X (p0 : Option Addr) (p1 : ByteArray) (K : Value → PT) : PT :=
 L.nonnil p0 fun a1 =>
 L.load (.one (.map)) (a1.add 1) fun (x2 : Option Nat) =>
 L.sem Pr (.one (.one .ptr)) (Instr.range z0X (.map x2)) fun (it3 : Option Addr) =>
 L.loop (Y := Sl × Unit) (⟨none, 0, 0⟩, ()) fun y4 again5 =>
 L.next Pr [eI6, (.agg [.str, .int .i64])] (Instr.next (.pointer it3) false T_) (
  L.call Pr z45 [.slice y4.1.a y4.1.len y4.1.cap] (.tup []) fun (x7 : Unit) =>
  L.join (Y := Sl × Unit) (fun k8 =>
   L.nonnil p0 fun a10 =>
   L.load (.one (.map)) ((a10.add 2).add 0) fun (x11 : Option Nat) =>
   L.semR Pr (.tup [eP6, .one .bool]) (Instr.lookup z0E (.map x11) (.string p1) true) fun (x12 : Option Addr × Bool × Unit) =>
   L.ite x12.2.1 (
    L.call Pr z5o [.pointer x12.1] rL fun (x13 : Sl) =>
    k8 (⟨x13.a, x13.len, x13.cap⟩, ())) <|
   k8 (⟨none, 0, 0⟩, ())) fun z9 =>
  L.call Pr z0R [.slice y4.1.a y4.1.len y4.1.cap] rL fun (x14 : Sl) =>
  K (.tuple #[.slice z9.1.a z9.1.len z9.1.cap, .slice x14.a x14.len x14.cap])) fun (x6 : pt7) =>
 L.sem Pr (.tup [eI6, (.agg [.str, .int .i64])]) (Instr.entry (.pointer it3)) fun (x15 : pt7) =>
 L.new [.string s_, .int .i64 0] z0F fun b16 =>
 L.store (⟨b16, 0, none⟩) [.string x15.2.1.1, .int .i64 x15.2.1.2.1] <|
 L.load (.agg [.str, .int .i64]) (⟨b16, 0, none⟩) fun (x17 : ByteArray × Int × Unit) =>
 L.chkSem Pr (do eqGuard .eql z0F (.tmp 0) (.tmp 0) (.agg #[.string x17.1, .int .i64 x17.2.1]) (.agg #[.string p1, .int .i64 1]); binOp .eql z0F (.agg #[.string x17.1, .int .i64 x17.2.1]) (.agg #[.string p1, .int .i64 1])) (.bool ((x17.1 == p1) && ((x17.2.1 == 1) && true))) <|
 L.ite ((x17.1 == p1) && ((x17.2.1 == 1) && true)) (
  L.new [.int .i64 x15.1] z0d fun b18 =>
  L.sem Pr (.one (.one .slice)) (Builtin.append_ #[z1i, z1i] z1i #[.slice y4.1.a y4.1.len y4.1.cap, .slice (some ⟨b18, 0, none⟩) 1 1]) fun (s19 : Sl) =>
  again5 (⟨s19.a, s19.len, s19.cap⟩, ())) <|
 again5 (⟨y4.1.a, y4.1.len, y4.1.cap⟩, ())
theorem zcf (p0 : Option Addr) (p1 : ByteArray) {K : Value → PT} {w : World} (h : z7X p0 p1 K w) : CT Pr z5v [.pointer p0, .string p1] K w :=
 C_of (fn := Tryz.f43) (an := zcp) (args := [.v (.pointer p0), .v (.string p1)]) (by kernel_rfl) (by kernel_rfl) (by kernel_rfl) h
def zcq : Ann := (.seq .auto (.seq .auto (.seq (.seq .auto (.one [] (.seq .auto (.seq (.cond .auto .auto) .auto none) none)) none) .auto none) none) none)
def z7Y (p0 : Option Addr) (K : Value → PT) : PT :=
 L.sem Pr (.one (.one .map)) (Instr.makeMap z0I none) fun (m1 : Option Nat) =>
 L.nonnil p0 fun a2 =>
 L.load (.one (.map)) (a2.add 1) fun (x3 : Option Nat) =>
 L.sem Pr (.one (.one .ptr)) (Instr.range z0X (.map x3)) fun (it4 : Option Addr) =>
 L.loop (Y := Unit) (()) fun y5 again6 =>
 L.next Pr [eI6, (.agg [.str, .int .i64])] (Instr.next (.pointer it4) false T_) (
  L.draw <|
  L.nonnil p0 fun a8 =>
  L.load (.one (.map)) (a8.add 1) fun (x9 : Option Nat) =>
  L.semR Pr rI (Builtin.len_ #[z0X] z0d #[.map x9]) fun (x10 : Int) =>
  L.semR Pr rI (Instr.lookup z0I (.map m1) (.int .i64 2) false) fun (x11 : Int) =>
  L.semR Pr rI (Instr.lookup z0I (.map m1) (.int .i64 1) false) fun (x12 : Int) =>
  L.semR Pr rI (Instr.lookup z0I (.map m1) (.int .i64 3) false) fun (x13 : Int) =>
  L.semR Pr rI (Instr.lookup z0I (.map m1) (.int .i64 4) false) fun (x14 : Int) =>
  L.chkSem Pr (Instr.lookup z0I (.map m1) (.int .i64 4) false) (.int .i64 x14) <|
  L.chkSem Pr (Instr.lookup z0I (.map m1) (.int .i64 3) false) (.int .i64 x13) <|
  L.chkSem Pr (Instr.lookup z0I (.map m1) (.int .i64 1) false) (.int .i64 x12) <|
  L.chkSem Pr (Instr.lookup z0I (.map m1) (.int .i64 2) false) (.int .i64 x11) <|
  L.chkSem Pr (Instr.lookup z0I (.map m1) (.int .i64 4) false) (.int .i64 x14) <|
  L.chkSem Pr (Instr.lookup z0I (.map m1) (.int .i64 3) false) (.int .i64 x13) <|
  L.chkSem Pr (Instr.lookup z0I (.map m1) (.int .i64 1) false) (.int .i64 x12) <|
  L.chkSem Pr (Instr.lookup z0I (.map m1) (.int .i64 4) false) (.int .i64 x14) <|
  L.chkSem Pr (Instr.lookup z0I (.map m1) (.int .i64 3) false) (.int .i64 x13) <|
  K (.tuple #[.int .i64 x10, .int .i64 x11, .int .i64 x12, .int .i64 (IntKind.wrap .i64 (x13 + x14))])) fun (x7 : pt7) =>
 L.sem Pr (.tup [eI6, (.agg [.str, .int .i64])]) (Instr.entry (.pointer it4)) fun (x15 : pt7) =>
 L.new [.string s_, .int .i64 0] z0F fun b16 =>
 L.store (⟨b16, 0, none⟩) [.string x15.2.1.1, .int .i64 x15.2.1.2.1] <|
 L.load eI6 ((⟨b16, 0, none⟩ : Addr).add 1) fun (x17 : Int) =>
 L.semR Pr rI (Instr.lookup z0I (.map m1) (.int .i64 x17) false) fun (x18 : Int) =>
 L.semU Pr (Instr.mapUpdate z0I (.map m1) (.int .i64 x17) (.int .i64 (IntKind.wrap .i64 (x18 + 1)))) <|
 again6 (())
theorem zcg (p0 : Option Addr) {K : Value → PT} {w : World} (h : z7Y p0 K w) : CT Pr z5w [.pointer p0] K w :=
 C_of (fn := Tryz.f44) (an := zcq) (args := [.v (.pointer p0)]) (by kernel_rfl) (by kernel_rfl) (by kernel_rfl) h
def z5J (p0 : FV) (K : Value → PT) : PT :=
 L.sem Pr (.one (.one .map)) (Instr.makeMap z0r none) fun (m1 : Option Nat) =>
 L.new [.map m1, .func p0.fn p0.fs p0.cs] z0L fun b2 =>
 K (.pointer (some (⟨b2, 0, none⟩)))
theorem z8Q (p0 : FV) {K : Value → PT} {w : World} (h : z5J p0 K w) : CT Pr z3r [.func p0.fn p0.fs p0.cs] K w :=
 C_of (fn := Tryz.f45) (an := .auto) (args := [.v (.func p0.fn p0.fs p0.cs)]) (by kernel_rfl) (by kernel_rfl) (by kernel_rfl) h
def zbX (p0 : ht0) (p1 : ht0) (K : Value → PT) : PT :=
 L.new [.string p0.1, .int .i64 p0.2.1, .int .i64 p0.2.2.1, .int .i64 p0.2.2.2.1, .int .i64 p0.2.2.2.2.1, .int .i64 p0.2.2.2.2.2.1] z0g fun b1 =>
 L.new [.string p1.1, .int .i64 p1.2.1, .int .i64 p1.2.2.1, .int .i64 p1.2.2.2.1, .int .i64 p1.2.2.2.2.1, .int .i64 p1.2.2.2.2.2.1] z0g fun b2 =>
 L.load (.agg lf0) (⟨b1, 0, none⟩) fun (x3 : pt0) =>
 L.load (.agg lf0) (⟨b2, 0, none⟩) fun (x4 : pt0) =>
 L.chkSem Pr (do eqGuard .eql z0g (.tmp 0) (.tmp 0) ((qa0 x3)) ((qa0 x4)); binOp .eql z0g ((qa0 x3)) ((qa0 x4))) (.bool ((x3.1 == x4.1) && ((x3.2.1 == x4.2.1) && ((x3.2.2.1 == x4.2.2.1) && ((x3.2.2.2.1 == x4.2.2.2.1) && ((x3.2.2.2.2.1 == x4.2.2.2.2.1) && ((x3.2.2.2.2.2.1 == x4.2.2.2.2.2.1) && true))))))) <|
 K (.bool ((x3.1 == x4.1) && ((x3.2.1 == x4.2.1) && ((x3.2.2.1 == x4.2.2.1) && ((x3.2.2.2.1 == x4.2.2.2.1) && ((x3.2.2.2.2.1 == x4.2.2.2.2.1) && ((x3.2.2.2.2.2.1 == x4.2.2.2.2.2.1) && true)))))))
theorem zgw (p0 : ht0) (p1 : ht0) {K : Value → PT} {w : World} (h : zbX p0 p1 K w) : CT Pr z1j [(.ag (qc0 p0) : SV).toV, (.ag (qc0 p1) : SV).toV] K w :=
 C_of (fn := Tryz.f46) (an := .auto) (args := [.ag (qc0 p0), .ag (qc0 p1)]) (by kernel_rfl) (by kernel_rfl) (by kernel_rfl) h
theorem zgp : Enters Pr z1j := z0o (by kernel_rfl)
def z5T (p0 : FV) (K : Value → PT) : PT :=
 L.sem Pr (.one (.one .map)) (Instr.makeMap z0x none) fun (m1 : Option Nat) =>
 L.new [.map m1, .func p0.fn p0.fs p0.cs] z0y fun b2 =>
 K (.pointer (some (⟨b2, 0, none⟩)))
theorem z9j (p0 : FV) {K : Value → PT} {w : World} (h : z5T p0 K w) : CT Pr z3M [.func p0.fn p0.fs p0.cs] K w :=
 C_of (fn := Tryz.f47) (an := .auto) (args := [.v (.func p0.fn p0.fs p0.cs)]) (by kernel_rfl) (by kernel_rfl) (by kernel_rfl) h
def z6x (p0 : ht2) (p1 : ht2) (K : Value → PT) : PT :=
 L.new [.string p0.1, .string p0.2.1, .slice p0.2.2.1.a p0.2.2.1.len p0.2.2.1.cap, .int .i64 p0.2.2.2.1] z0p fun b1 =>
 L.new [.string p1.1, .string p1.2.1, .slice p1.2.2.1.a p1.2.2.1.len p1.2.2.1.cap, .int .i64 p1.2.2.2.1] z0p fun b2 =>
 L.load eS6 ((⟨b1, 0, none⟩ : Addr).add 0) fun (x3 : ByteArray) =>
 L.load eS6 ((⟨b2, 0, none⟩ : Addr).add 0) fun (x4 : ByteArray) =>
 L.ite (x3.toList == x4.toList) (
  L.load eS6 ((⟨b1, 0, none⟩ : Addr).add 1) fun (x5 : ByteArray) =>
  L.load eS6 ((⟨b2, 0, none⟩ : Addr).add 1) fun (x6 : ByteArray) =>
  L.ite (x5.toList == x6.toList) (
   L.load eI6 ((⟨b1, 0, none⟩ : Addr).add 3) fun (x7 : Int) =>
   L.load eI6 ((⟨b2, 0, none⟩ : Addr).add 3) fun (x8 : Int) =>
   L.ite (x7 == x8) (
    L.load eL6 ((⟨b1, 0, none⟩ : Addr).add 2) fun (x9 : Sl) =>
    L.load eL6 ((⟨b2, 0, none⟩ : Addr).add 2) fun (x10 : Sl) =>
    L.call Pr z0B [.slice x9.a x9.len x9.cap, .slice x10.a x10.len x10.cap, .func (.func z78) #[] #[]] rB fun (x11 : Bool) =>
    K (.bool x11)) <|
   K (.bool false)) <|
  K (.bool false)) <|
 K (.bool false)
theorem zdt (p0 : ht2) (p1 : ht2) {K : Value → PT} {w : World} (h : z6x p0 p1 K w) : CT Pr z0C [(.ag (qc2 p0) : SV).toV, (.ag (qc2 p1) : SV).toV] K w :=
 C_of (fn := Tryz.f48) (an := .auto) (args := [.ag (qc2 p0), .ag (qc2 p1)]) (by kernel_rfl) (by kernel_rfl) (by kernel_rfl) h
theorem zdm : Enters Pr z0C := z0o (by kernel_rfl)
def zdf (c0 : Addr) (K : Value → PT) : PT :=
 L.load eI6 c0 fun (x1 : Int) =>
 L.call Pr zcB [.int .i64 x1] rP fun (x2 : Option Addr) =>
 K (.pointer x2)
theorem zi3 (c0 : Addr) {K : Value → PT} {w : World} (h : zdf c0 K w) : CT Pr z7P [.pointer (some c0)] K w :=
 C_of (fn := Tryz.f49) (an := .auto) (args := [.v (.pointer (some c0))]) (by kernel_rfl) (by kernel_rfl) (by kernel_rfl) h
theorem zhT : Enters Pr z7P := z0o (by kernel_rfl)
def zfv (p0 : Int) (K : Value → PT) : PT :=
 L.new [.slice none 0 0, .int .i64 p0] z5Y fun b1 =>
 K (.pointer (some (⟨b1, 0, none⟩)))
theorem zkD (p0 : Int) {K : Value → PT} {w : World} (h : zfv p0 K w) : CT Pr zcB [.int .i64 p0] K w :=
 C_of (fn := Tryz.f50) (an := .auto) (args := [.v (.int .i64 p0)]) (by kernel_rfl) (by kernel_rfl) (by kernel_rfl) h
def zgO : Ann := (.seq .auto (.seq (.seq .auto (.seq .auto (.cond .auto (.seq .auto (.cond .auto (.seq .auto (.cond .auto (.seq .auto (.cond .auto (.seq .auto (.cond .auto (.seq .auto (.cond .auto (.seq .auto .auto (some [(26, (.one (.bool)))]))) none)) (some [(17, (.one (.bool)))]))) none)) none)) none)) none) none) .auto none) none)
def zc3 (p0 : Int) (K : Value → PT) : PT :=
 L.new [.bool false, .bool false, .bool false, .bool false, .bool false, .bool false] zes fun b1 =>
 L.ite (p0 == 1) (
  L.store (⟨b1, 0, none⟩) [.bool true, .bool false, .bool false, .bool false, .bool true, .bool false] <|
  L.load (.agg lf4) (⟨b1, 0, none⟩) fun (x2 : pt8) =>
  K (.tuple #[(qa2 x2), .bool true])) <|
 L.ite (p0 == 2) (
  L.store (⟨b1, 0, none⟩) [.bool true, .bool false, .bool false, .bool false, .bool false, .bool true] <|
  L.load (.agg lf4) (⟨b1, 0, none⟩) fun (x3 : pt8) =>
  K (.tuple #[(qa2 x3), .bool true])) <|
 L.ite (p0 == 3) (
  L.store (⟨b1, 0, none⟩) [.bool true, .bool true, .bool false, .bool true, .bool false, .bool false] <|
  L.load (.agg lf4) (⟨b1, 0, none⟩) fun (x4 : pt8) =>
  K (.tuple #[(qa2 x4), .bool true])) <|
 L.ite (p0 == 4) (
  L.store (⟨b1, 0, none⟩) [.bool true, .bool true, .bool true, .bool true, .bool false, .bool false] <|
  L.load (.agg lf4) (⟨b1, 0, none⟩) fun (x5 : pt8) =>
  K (.tuple #[(qa2 x5), .bool true])) <|
 L.join (Y := Bool × Unit) (fun k6 =>
  L.ite (p0 == 5) (
   k6 (p0 == 5, ())) <|
  L.ite (p0 == 6) (
   k6 (p0 == 6, ())) <|
  L.ite (p0 == 7) (
   k6 (p0 == 7, ())) <|
  k6 (p0 == 8, ())) fun z7 =>
 L.ite z7.1 (
  L.store (⟨b1, 0, none⟩) [.bool true, .bool false, .bool false, .bool false, .bool false, .bool false] <|
  L.load (.agg lf4) (⟨b1, 0, none⟩) fun (x8 : pt8) =>
  K (.tuple #[(qa2 x8), .bool true])) <|
 L.ite (p0 == 9) (
  L.store (⟨b1, 0, none⟩) [.bool false, .bool false, .bool false, .bool false, .bool false, .bool false] <|
  L.load (.agg lf4) (⟨b1, 0, none⟩) fun (x9 : pt8) =>
  K (.tuple #[(qa2 x9), .bool true])) <|
 L.join (Y := Bool × Unit) (fun k10 =>
  L.ite (p0 == 10) (
   k10 (p0 == 10, ())) <|
  L.ite (p0 == 11) (
   k10 (p0 == 11, ())) <|
  L.ite (p0 == 12) (
   k10 (p0 == 12, ())) <|
  k10 (p0 == 13, ())) fun z11 =>
 L.ite z11.1 (
  L.store (⟨b1, 0, none⟩) [.bool false, .bool true, .bool false, .bool false, .bool false, .bool false] <|
  L.load (.agg lf4) (⟨b1, 0, none⟩) fun (x12 : pt8) =>
  K (.tuple #[(qa2 x12), .bool true])) <|
 L.store (⟨b1, 0, none⟩) [.bool false, .bool false, .bool false, .bool false, .bool false, .bool false] <|
 L.load (.agg lf4) (⟨b1, 0, none⟩) fun (x13 : pt8) =>
 K (.tuple #[(qa2 x13), .bool false])
theorem zgC (p0 : Int) {K : Value → PT} {w : World} (h : zc3 p0 K w) : CT Pr z8G [.int .i64 p0] K w :=
 C_of (fn := Tryz.f51) (an := zgO) (args := [.v (.int .i64 p0)]) (by kernel_rfl) (by kernel_rfl) (by kernel_rfl) h
def z9a (p0 : Bool) (p1 : Int) (K : Value → PT) : PT :=
 L.ite p0 (
  K (.bool true)) <|
 K (.bool (p1 == 0))
theorem zdE (p0 : Bool) (p1 : Int) {K : Value → PT} {w : World} (h : z9a p0 p1 K w) : CT Pr z4U [.bool p0, .int .i64 p1] K w :=
 C_of (fn := Tryz.f52) (an := .auto) (args := [.v (.bool p0), .v (.int .i64 p1)]) (by kernel_rfl) (by kernel_rfl) (by kernel_rfl) h
def z7p (p0 : Bool) (p1 : ByteArray) (K : Value → PT) : PT :=
 L.ite p0 (
  K (.bool true)) <|
 K (.bool (p1.toList == s_.toList))
theorem zbg (p0 : Bool) (p1 : ByteArray) {K : Value → PT} {w : World} (h : z7p p0 p1 K w) : CT Pr z3v [.bool p0, .string p1] K w :=
 C_of (fn := Tryz.f53) (an := .auto) (args := [.v (.bool p0), .v (.string p1)]) (by kernel_rfl) (by kernel_rfl) (by kernel_rfl) h
def z5L (p0 : Bool) (p1 : ht0) (K : Value → PT) : PT :=
 L.new [.string p1.1, .int .i64 p1.2.1, .int .i64 p1.2.2.1, .int .i64 p1.2.2.2.1, .int .i64 p1.2.2.2.2.1, .int .i64 p1.2.2.2.2.2.1] z0g fun b1 =>
 L.new [.string s_, .int .i64 0, .int .i64 0, .int .i64 0, .int .i64 0, .int .i64 0] z0g fun b2 =>
 L.ite p0 (
  K (.bool true)) <|
 L.load (.agg lf0) (⟨b1, 0, none⟩) fun (x3 : pt0) =>
 L.load (.agg lf0) (⟨b2, 0, none⟩) fun (x4 : pt0) =>
 L.chkSem Pr (do eqGuard .eql z0g (.tmp 0) (.tmp 0) ((qa0 x3)) ((qa0 x4)); binOp .eql z0g ((qa0 x3)) ((qa0 x4))) (.bool ((x3.1 == x4.1) && ((x3.2.1 == x4.2.1) && ((x3.2.2.1 == x4.2.2.1) && ((x3.2.2.2.1 == x4.2.2.2.1) && ((x3.2.2.2.2.1 == x4.2.2.2.2.1) && ((x3.2.2.2.2.2.1 == x4.2.2.2.2.2.1) && true))))))) <|
 K (.bool ((x3.1 == x4.1) && ((x3.2.1 == x4.2.1) && ((x3.2.2.1 == x4.2.2.1) && ((x3.2.2.2.1 == x4.2.2.2.1) && ((x3.2.2.2.2.1 == x4.2.2.2.2.1) && ((x3.2.2.2.2.2.1 == x4.2.2.2.2.2.1) && true)))))))
theorem z8S (p0 : Bool) (p1 : ht0) {K : Value → PT} {w : World} (h : z5L p0 p1 K w) : CT Pr z3w [.bool p0, (.ag (qc0 p1) : SV).toV] K w :=
 C_of (fn := Tryz.f54) (an := .auto) (args := [.v (.bool p0), .ag (qc0 p1)]) (by kernel_rfl) (by kernel_rfl) (by kernel_rfl) h
def zdg (p0 : ht2) (K : Value → PT) : PT :=
 L.new [.string p0.1, .string p0.2.1, .slice p0.2.2.1.a p0.2.2.1.len p0.2.2.1.cap, .int .i64 p0.2.2.2.1] z0p fun b1 =>
 L.load eS6 ((⟨b1, 0, none⟩ : Addr).add 0) fun (x2 : ByteArray) =>
 L.ite (x2.toList == s_.toList) (
  L.load eS6 ((⟨b1, 0, none⟩ : Addr).add 1) fun (x3 : ByteArray) =>
  L.ite (x3.toList == s_.toList) (
   L.load eI6 ((⟨b1, 0, none⟩ : Addr).add 3) fun (x4 : Int) =>
   L.ite (x4 == 0) (
    L.load eL6 ((⟨b1, 0, none⟩ : Addr).add 2) fun (x5 : Sl) =>
    K (.bool (((x5.len : Nat) : Int) == 0))) <|
   K (.bool false)) <|
  K (.bool false)) <|
 K (.bool false)
theorem zi4 (p0 : ht2) {K : Value → PT} {w : World} (h : zdg p0 K w) : CT Pr z9y [(.ag (qc2 p0) : SV).toV] K w :=
 C_of (fn := Tryz.f55) (an := .auto) (args := [.ag (qc2 p0)]) (by kernel_rfl) (by kernel_rfl) (by kernel_rfl) h
def zf2 : Ann := (.seq .auto (.seq (.seq .auto (.seq .auto .auto (some [(5, (.one (.bool)))])) none) .auto none) none)
def zaP (p0 : ht1) (K : Value → PT) : PT :=
 L.new [.int .i64 p0.1, .string p0.2.1, .string p0.2.2.1, .int .i64 p0.2.2.2.1, .int .i64 p0.2.2.2.2.1, .string p0.2.2.2.2.2.1, .int .i64 p0.2.2.2.2.2.2.1, .int .i64 p0.2.2.2.2.2.2.2.1, .int .i64 p0.2.2.2.2.2.2.2.2.1, .int .i64 p0.2.2.2.2.2.2.2.2.2.1, .int .i64 p0.2.2.2.2.2.2.2.2.2.2.1, .string p0.2.2.2.2.2.2.2.2.2.2.2.1, .string p0.2.2.2.2.2.2.2.2.2.2.2.2.1, .slice p0.2.2.2.2.2.2.2.2.2.2.2.2.2.1.a p0.2.2.2.2.2.2.2.2.2.2.2.2.2.1.len p0.2.2.2.2.2.2.2.2.2.2.2.2.2.1.cap, .int .i64 p0.2.2.2.2.2.2.2.2.2.2.2.2.2.2.1] z0D fun b1 =>
 L.load eI6 ((⟨b1, 0, none⟩ : Addr).add 0) fun (x2 : Int) =>
 L.join (Y := Bool × Unit) (fun k3 =>
  L.ite (x2 == 1) (
   k3 (x2 == 1, ())) <|
  k3 (x2 == 2, ())) fun z4 =>
 L.ite z4.1 (
  L.load eI6 ((⟨b1, 0, none⟩ : Addr).add 3) fun (x5 : Int) =>
  L.call Pr z0M [.int .i64 x5, .int .i64 0, .int .i64 2147483647] rB fun (x6 : Bool) =>
  K (.bool x6)) <|
 L.ite (x2 == 3) (
  L.load eI6 ((⟨b1, 0, none⟩ : Addr).add 3) fun (x7 : Int) =>
  L.call Pr z0M [.int .i64 x7, .int .i64 1, .int .i64 2] rB fun (x8 : Bool) =>
  K (.bool x8)) <|
 L.load eI6 ((⟨b1, 0, none⟩ : Addr).add 3) fun (x9 : Int) =>
 L.call Pr z0M [.int .i64 x9, .int .i64 1, .int .i64 2147483647] rB fun (x10 : Bool) =>
 K (.bool x10)
theorem zeZ (p0 : ht1) {K : Value → PT} {w : World} (h : zaP p0 K w) : CT Pr z86 [(.ag (qc1 p0) : SV).toV] K w :=
 C_of (fn := Tryz.f56) (an := zf2) (args := [.ag (qc1 p0)]) (by kernel_rfl) (by kernel_rfl) (by kernel_rfl) h
def zc4 (p0 : ht1) (K : Value → PT) : PT :=
 L.new [.int .i64 p0.1, .string p0.2.1, .string p0.2.2.1, .int .i64 p0.2.2.2.1, .int .i64 p0.2.2.2.2.1, .string p0.2.2.2.2.2.1, .int .i64 p0.2.2.2.2.2.2.1, .int .i64 p0.2.2.2.2.2.2.2.1, .int .i64 p0.2.2.2.2.2.2.2.2.1, .int .i64 p0.2.2.2.2.2.2.2.2.2.1, .int .i64 p0.2.2.2.2.2.2.2.2.2.2.1, .string p0.2.2.2.2.2.2.2.2.2.2.2.1, .string p0.2.2.2.2.2.2.2.2.2.2.2.2.1, .slice p0.2.2.2.2.2.2.2.2.2.2.2.2.2.1.a p0.2.2.2.2.2.2.2.2.2.2.2.2.2.1.len p0.2.2.2.2.2.2.2.2.2.2.2.2.2.1.cap, .int .i64 p0.2.2.2.2.2.2.2.2.2.2.2.2.2.2.1] z0D fun b1 =>
 L.load eI6 ((⟨b1, 0, none⟩ : Addr).add 0) fun (x2 : Int) =>
 L.ite (x2 == 12) (
  L.load eS6 ((⟨b1, 0, none⟩ : Addr).add 1) fun (x3 : ByteArray) =>
  L.call Pr z4m [.string x3] (.tup [eS6, eI6, eB6]) fun (x4 : ByteArray × Int × Bool × Unit) =>
  K (.bool x4.2.2.1)) <|
 L.load eI6 ((⟨b1, 0, none⟩ : Addr).add 0) fun (x5 : Int) =>
 L.ite (x5 == 13) (
  L.load eS6 ((⟨b1, 0, none⟩ : Addr).add 1) fun (x6 : ByteArray) =>
  L.call Pr z4m [.string x6] (.tup [eS6, eI6, eB6]) fun (x7 : ByteArray × Int × Bool × Unit) =>
  K (.bool x7.2.2.1)) <|
 L.load eS6 ((⟨b1, 0, none⟩ : Addr).add 1) fun (x8 : ByteArray) =>
 L.call Pr z47 [.string x8] rB fun (x9 : Bool) =>
 K (.bool x9)
theorem zgD (p0 : ht1) {K : Value → PT} {w : World} (h : zc4 p0 K w) : CT Pr z6N [(.ag (qc1 p0) : SV).toV] K w :=
 C_of (fn := Tryz.f57) (an := .auto) (args := [.ag (qc1 p0)]) (by kernel_rfl) (by kernel_rfl) (by kernel_rfl) h
def zeA (p0 : ByteArray) (K : Value → PT) : PT :=
 L.call Pr z6M [.string p0, .int .i64 8] rB fun (x1 : Bool) =>
 K (.bool x1)
theorem ziJ (p0 : ByteArray) {K : Value → PT} {w : World} (h : zeA p0 K w) : CT Pr z3u [.string p0] K w :=
 C_of (fn := Tryz.f58) (an := .auto) (args := [.v (.string p0)]) (by kernel_rfl) (by kernel_rfl) (by kernel_rfl) h
def zaO (p0 : Int) (p1 : Int) (p2 : Int) (K : Value → PT) : PT :=
 L.ite (decide (p0 ≥ p1)) (
  K (.bool (decide (p0 ≤ p2)))) <|
 K (.bool false)
theorem zeY (p0 : Int) (p1 : Int) (p2 : Int) {K : Value → PT} {w : World} (h : zaO p0 p1 p2 K w) : CT Pr z0M [.int .i64 p0, .int .i64 p1, .int .i64 p2] K w :=
 C_of (fn := Tryz.f59) (an := .auto) (args := [.v (.int .i64 p0), .v (.int .i64 p1), .v (.int .i64 p2)]) (by kernel_rfl) (by kernel_rfl) (by kernel_rfl) h
def zgK : Ann := (.seq .auto (.seq (.seq .auto (.cond .auto (.seq .auto .auto (some [(8, (.one (.bool)))]))) none) .auto none) none)
def zbW (p0 : ht0) (K : Value → PT) : PT :=
 L.new [.string p0.1, .int .i64 p0.2.1, .int .i64 p0.2.2.1, .int .i64 p0.2.2.2.1, .int .i64 p0.2.2.2.2.1, .int .i64 p0.2.2.2.2.2.1] z0g fun b1 =>
 L.load eS6 ((⟨b1, 0, none⟩ : Addr).add 0) fun (x2 : ByteArray) =>
 L.call Pr z47 [.string x2] rB fun (x3 : Bool) =>
 L.ite (!x3) (
  K (.int .i64 1)) <|
 L.join (Y := Bool × Unit) (fun k4 =>
  L.load eI6 ((⟨b1, 0, none⟩ : Addr).add 1) fun (x6 : Int) =>
  L.call Pr z1f [.agg #[.int .i64 0, .int .i64 255], .int .i64 x6] rB fun (x7 : Bool) =>
  L.ite (!x7) (
   k4 (!x7, ())) <|
  L.load eI6 ((⟨b1, 0, none⟩ : Addr).add 2) fun (x8 : Int) =>
  L.call Pr z1f [.agg #[.int .i64 1, .int .i64 8], .int .i64 x8] rB fun (x9 : Bool) =>
  L.ite (!x9) (
   k4 (!x9, ())) <|
  L.load eI6 ((⟨b1, 0, none⟩ : Addr).add 4) fun (x10 : Int) =>
  L.call Pr z1f [.agg #[.int .i64 1, .int .i64 10], .int .i64 x10] rB fun (x11 : Bool) =>
  L.ite (!x11) (
   k4 (!x11, ())) <|
  L.load eI6 ((⟨b1, 0, none⟩ : Addr).add 4) fun (x12 : Int) =>
  L.load eI6 ((⟨b1, 0, none⟩ : Addr).add 3) fun (x13 : Int) =>
  L.call Pr z1f [.agg #[.int .i64 0, .int .i64 x12], .int .i64 x13] rB fun (x14 : Bool) =>
  L.ite (!x14) (
   k4 (!x14, ())) <|
  L.load eI6 ((⟨b1, 0, none⟩ : Addr).add 5) fun (x15 : Int) =>
  L.call Pr z1f [.agg #[.int .i64 0, .int .i64 30], .int .i64 x15] rB fun (x16 : Bool) =>
  k4 (!x16, ())) fun z5 =>
 L.ite z5.1 (
  K (.int .i64 2)) <|
 K (.int .i64 0)
theorem zgv (p0 : ht0) {K : Value → PT} {w : World} (h : zbW p0 K w) : CT Pr z0n [(.ag (qc0 p0) : SV).toV] K w :=
 C_of (fn := Tryz.f60) (an := zgK) (args := [.ag (qc0 p0)]) (by kernel_rfl) (by kernel_rfl) (by kernel_rfl) h
def zi7 : Ann := (.seq .auto (.seq (.seq .auto .auto (some [(6, (.one (.bool)))])) (.seq (.seq .auto (.one [(31, (.one (.int .i64)))] .auto) none) .auto none) none) none)
def zdb (p0 : ht2) (K : Value → PT) : PT :=
 L.new [.string p0.1, .string p0.2.1, .slice p0.2.2.1.a p0.2.2.1.len p0.2.2.1.cap, .int .i64 p0.2.2.2.1] z0p fun b1 =>
 L.join (Y := Bool × Unit) (fun k2 =>
  L.load eS6 ((⟨b1, 0, none⟩ : Addr).add 0) fun (x4 : ByteArray) =>
  L.call Pr z47 [.string x4] rB fun (x5 : Bool) =>
  L.ite (!x5) (
   k2 (!x5, ())) <|
  L.load eS6 ((⟨b1, 0, none⟩ : Addr).add 1) fun (x6 : ByteArray) =>
  L.call Pr z47 [.string x6] rB fun (x7 : Bool) =>
  k2 (!x7, ())) fun z3 =>
 L.ite z3.1 (
  K (.int .i64 1)) <|
 L.load eI6 ((⟨b1, 0, none⟩ : Addr).add 3) fun (x8 : Int) =>
 L.call Pr z1f [.agg #[.int .i64 0, .int .i64 60], .int .i64 x8] rB fun (x9 : Bool) =>
 L.ite (!x9) (
  K (.int .i64 2)) <|
 L.load eL6 ((⟨b1, 0, none⟩ : Addr).add 2) fun (x10 : Sl) =>
 L.call Pr z1f [.agg #[.int .i64 1, .int .i64 6], .int .i64 ((x10.len : Nat) : Int)] rB fun (x11 : Bool) =>
 L.ite (!x11) (
  K (.int .i64 3)) <|
 L.load eL6 ((⟨b1, 0, none⟩ : Addr).add 2) fun (x12 : Sl) =>
 L.loop (Y := Int × Unit) (0, ()) fun y13 again14 =>
 L.ite (decide (y13.1 < ((x12.len : Nat) : Int))) (
  L.idx x12.a y13.1 x12.len 3 fun a15 =>
  L.load (.agg [.str, .str, .int .i64]) a15 fun (x16 : pt9) =>
  L.new [.string s_, .string s_, .int .i64 0] z07 fun b17 =>
  L.store (⟨b17, 0, none⟩) [.string x16.1, .string x16.2.1, .int .i64 x16.2.2.1] <|
  L.load (.agg [.str, .str, .int .i64]) (⟨b17, 0, none⟩) fun (x18 : pt9) =>
  L.call Pr z8A [.agg #[.string x18.1, .string x18.2.1, .int .i64 x18.2.2.1]] rI fun (x19 : Int) =>
  L.ite (x19 != 0) (
   K (.int .i64 x19)) <|
  again14 (IntKind.wrap .i64 (y13.1 + 1), ())) <|
 L.load eL6 ((⟨b1, 0, none⟩ : Addr).add 2) fun (x20 : Sl) =>
 L.call Pr zcC [.slice x20.a x20.len x20.cap] rI fun (x21 : Int) =>
 K (.int .i64 x21)
theorem zhZ (p0 : ht2) {K : Value → PT} {w : World} (h : zdb p0 K w) : CT Pr z0u [(.ag (qc2 p0) : SV).toV] K w :=
 C_of (fn := Tryz.f61) (an := zi7) (args := [.ag (qc2 p0)]) (by kernel_rfl) (by kernel_rfl) (by kernel_rfl) h
def zeE (p0 : Int) (K : Value → PT) : PT :=
 L.ite (p0 == 0) (
  K (.string s_ok)) <|
 L.ite (p0 == 1) (
  K (.string znV)) <|
 L.ite (p0 == 2) (
  K (.string zpB)) <|
 L.ite (p0 == 3) (
  K (.string znX)) <|
 L.ite (p0 == 4) (
  K (.string zpz)) <|
 L.ite (p0 == 5) (
  K (.string s_twice)) <|
 L.ite (p0 == 6) (
  K (.string znU)) <|
 K (.string zg2)
theorem ziN (p0 : Int) {K : Value → PT} {w : World} (h : zeE p0 K w) : CT Pr ze9 [.int .i64 p0] K w :=
 C_of (fn := Tryz.f64) (an := .auto) (args := [.v (.int .i64 p0)]) (by kernel_rfl) (by kernel_rfl) (by kernel_rfl) h
def zfC (p0 : Int) (K : Value → PT) : PT :=
 L.ite (p0 == 7) (
  K (.string zlc)) <|
 L.ite (p0 == 8) (
  K (.string zo0)) <|
 L.ite (p0 == 9) (
  K (.string zlb)) <|
 L.ite (p0 == 10) (
  K (.string zpA)) <|
 L.ite (p0 == 11) (
  K (.string znW)) <|
 L.ite (p0 == 12) (
  K (.string znY)) <|
 K (.string zg2)
theorem zkK (p0 : Int) {K : Value → PT} {w : World} (h : zfC p0 K w) : CT Pr zfb [.int .i64 p0] K w :=
 C_of (fn := Tryz.f65) (an := .auto) (args := [.v (.int .i64 p0)]) (by kernel_rfl) (by kernel_rfl) (by kernel_rfl) h
def z8T : Ann := (.seq .auto (.seq .auto (.seq .auto .auto (some [(8, (.one (.int .i64)))])) none) none)
def z5K (p0 : Option Addr) (p1 : ht0) (p2 : Int) (K : Value → PT) : PT :=
 L.new [.string p1.1, .int .i64 p1.2.1, .int .i64 p1.2.2.1, .int .i64 p1.2.2.2.1, .int .i64 p1.2.2.2.2.1, .int .i64 p1.2.2.2.2.2.1] z0g fun b1 =>
 L.load (.agg lf0) (⟨b1, 0, none⟩) fun (x2 : pt0) =>
 L.call Pr z0n [(qa0 x2)] rI fun (x3 : Int) =>
 L.join (Y := Int × Unit) (fun k4 =>
  L.ite (x3 == 0) (
   L.draw <|
   L.nonnil p0 fun a6 =>
   L.load eP6 (a6.add 0) fun (x7 : Option Addr) =>
   L.load eS6 ((⟨b1, 0, none⟩ : Addr).add 0) fun (x8 : ByteArray) =>
   L.call Pr z2C [.pointer x7, .string x8, .int .i64 p2, .bool true] rI fun (x9 : Int) =>
   k4 (x9, ())) <|
  k4 (x3, ())) fun z5 =>
 L.ite (z5.1 != 0) (
  K (.tuple #[.int .i64 0, .int .i64 z5.1])) <|
 L.nonnil p0 fun a10 =>
 L.load eI6 (a10.add 2) fun (x11 : Int) =>
 L.nonnil p0 fun a12 =>
 L.store (a12.add 2) [.int .i64 (IntKind.wrap .i64 (x11 + 1))] <|
 L.draw <|
 L.nonnil p0 fun a13 =>
 L.load eP6 (a13.add 0) fun (x14 : Option Addr) =>
 L.load eS6 ((⟨b1, 0, none⟩ : Addr).add 0) fun (x15 : ByteArray) =>
 L.load (.agg lf0) (⟨b1, 0, none⟩) fun (x16 : pt0) =>
 L.nonnil p0 fun a17 =>
 L.load eI6 (a17.add 2) fun (x18 : Int) =>
 L.call Pr z2B [.pointer x14, .string x15, (qa0 x16), .int .i64 x18] (.tup []) fun (x19 : Unit) =>
 L.nonnil p0 fun a20 =>
 L.load eI6 (a20.add 2) fun (x21 : Int) =>
 K (.tuple #[.int .i64 x21, .int .i64 0])
theorem z8R (p0 : Option Addr) (p1 : ht0) (p2 : Int) {K : Value → PT} {w : World} (h : z5K p0 p1 p2 K w) : CT Pr z3t [.pointer p0, (.ag (qc0 p1) : SV).toV, .int .i64 p2] K w :=
 C_of (fn := Tryz.f66) (an := z8T) (args := [.v (.pointer p0), .ag (qc0 p1), .v (.int .i64 p2)]) (by kernel_rfl) (by kernel_rfl) (by kernel_rfl) h
def zd8 (p0 : ByteArray) (p1 : ByteArray) (p2 : Int) (p3 : Int) (K : Value → PT) : PT :=
 L.ite (p3 != 0) (
  L.call Pr z1e [.int .i64 p3] rL fun (x1 : Sl) =>
  K (.slice x1.a x1.len x1.cap)) <|
 L.new [.string p1] z00 fun b2 =>
 L.call Pr z0f [.string p0, .slice (some ⟨b2, 0, none⟩) 1 1] rS fun (x3 : ByteArray) =>
 L.new [.int .i64 p2] z0d fun b4 =>
 L.call Pr z0e [.string x3, .slice (some ⟨b4, 0, none⟩) 1 1] rS fun (x5 : ByteArray) =>
 L.new [.string x5] z00 fun b6 =>
 K (.slice (some ⟨b6, 0, none⟩) 1 1)
theorem zhW (p0 : ByteArray) (p1 : ByteArray) (p2 : Int) (p3 : Int) {K : Value → PT} {w : World} (h : zd8 p0 p1 p2 p3 K w) : CT Pr z7N [.string p0, .string p1, .int .i64 p2, .int .i64 p3] K w :=
 C_of (fn := Tryz.f67) (an := .auto) (args := [.v (.string p0), .v (.string p1), .v (.int .i64 p2), .v (.int .i64 p3)]) (by kernel_rfl) (by kernel_rfl) (by kernel_rfl) h
def z9m : Ann := (.seq .auto (.seq .auto (.seq .auto .auto (some [(8, (.one (.int .i64)))])) none) none)
def z5U (p0 : Option Addr) (p1 : ht2) (p2 : Int) (K : Value → PT) : PT :=
 L.new [.string p1.1, .string p1.2.1, .slice p1.2.2.1.a p1.2.2.1.len p1.2.2.1.cap, .int .i64 p1.2.2.2.1] z0p fun b1 =>
 L.load (.agg [.str, .str, .slice, .int .i64]) (⟨b1, 0, none⟩) fun (x2 : pt3) =>
 L.call Pr z0u [.agg #[.string x2.1, .string x2.2.1, .slice x2.2.2.1.a x2.2.2.1.len x2.2.2.1.cap, .int .i64 x2.2.2.2.1]] rI fun (x3 : Int) =>
 L.join (Y := Int × Unit) (fun k4 =>
  L.ite (x3 == 0) (
   L.draw <|
   L.nonnil p0 fun a6 =>
   L.load eP6 (a6.add 1) fun (x7 : Option Addr) =>
   L.load eS6 ((⟨b1, 0, none⟩ : Addr).add 0) fun (x8 : ByteArray) =>
   L.call Pr z2R [.pointer x7, .string x8, .int .i64 p2, .bool true] rI fun (x9 : Int) =>
   k4 (x9, ())) <|
  k4 (x3, ())) fun z5 =>
 L.ite (z5.1 != 0) (
  K (.tuple #[.int .i64 0, .int .i64 z5.1])) <|
 L.nonnil p0 fun a10 =>
 L.load eI6 (a10.add 2) fun (x11 : Int) =>
 L.nonnil p0 fun a12 =>
 L.store (a12.add 2) [.int .i64 (IntKind.wrap .i64 (x11 + 1))] <|
 L.draw <|
 L.nonnil p0 fun a13 =>
 L.load eP6 (a13.add 1) fun (x14 : Option Addr) =>
 L.load eS6 ((⟨b1, 0, none⟩ : Addr).add 0) fun (x15 : ByteArray) =>
 L.load (.agg [.str, .str, .slice, .int .i64]) (⟨b1, 0, none⟩) fun (x16 : pt3) =>
 L.nonnil p0 fun a17 =>
 L.load eI6 (a17.add 2) fun (x18 : Int) =>
 L.call Pr z8B [.agg #[.string x16.1, .string x16.2.1, .slice x16.2.2.1.a x16.2.2.1.len x16.2.2.1.cap, .int .i64 x16.2.2.2.1]] (.one (.agg [.str, .str, .slice, .int .i64])) fun (x19 : pt3) =>
 L.chk (a17.add 2) [.int .i64 x18] <|
 L.chk ((⟨b1, 0, none⟩ : Addr).add 0) [.string x15] <|
 L.chk (a13.add 1) [.pointer x14] <|
 L.call Pr z2Q [.pointer x14, .string x15, .agg #[.string x19.1, .string x19.2.1, .slice x19.2.2.1.a x19.2.2.1.len x19.2.2.1.cap, .int .i64 x19.2.2.2.1], .int .i64 x18] (.tup []) fun (x20 : Unit) =>
 L.nonnil p0 fun a21 =>
 L.load eI6 (a21.add 2) fun (x22 : Int) =>
 K (.tuple #[.int .i64 x22, .int .i64 0])
theorem z9k (p0 : Option Addr) (p1 : ht2) (p2 : Int) {K : Value → PT} {w : World} (h : z5U p0 p1 p2 K w) : CT Pr z3N [.pointer p0, (.ag (qc2 p1) : SV).toV, .int .i64 p2] K w :=
 C_of (fn := Tryz.f68) (an := z9m) (args := [.v (.pointer p0), .ag (qc2 p1), .v (.int .i64 p2)]) (by kernel_rfl) (by kernel_rfl) (by kernel_rfl) h
def z8W (p0 : Int) (K : Value → PT) : PT :=
 L.call Pr z4o [.int .i64 p0] rS fun (x1 : ByteArray) =>
 L.new [.string x1] z00 fun b2 =>
 L.call Pr z0f [.string s_refused, .slice (some ⟨b2, 0, none⟩) 1 1] rS fun (x3 : ByteArray) =>
 L.new [.string x3] z00 fun b4 =>
 K (.slice (some ⟨b4, 0, none⟩) 1 1)
theorem zdp (p0 : Int) {K : Value → PT} {w : World} (h : z8W p0 K w) : CT Pr z1e [.int .i64 p0] K w :=
 C_of (fn := Tryz.f70) (an := .auto) (args := [.v (.int .i64 p0)]) (by kernel_rfl) (by kernel_rfl) (by kernel_rfl) h
def z6g (p0 : Option Addr) (p1 : ht1) (K : Value → PT) : PT :=
 L.new [.int .i64 p1.1, .string p1.2.1, .string p1.2.2.1, .int .i64 p1.2.2.2.1, .int .i64 p1.2.2.2.2.1, .string p1.2.2.2.2.2.1, .int .i64 p1.2.2.2.2.2.2.1, .int .i64 p1.2.2.2.2.2.2.2.1, .int .i64 p1.2.2.2.2.2.2.2.2.1, .int .i64 p1.2.2.2.2.2.2.2.2.2.1, .int .i64 p1.2.2.2.2.2.2.2.2.2.2.1, .string p1.2.2.2.2.2.2.2.2.2.2.2.1, .string p1.2.2.2.2.2.2.2.2.2.2.2.2.1, .slice p1.2.2.2.2.2.2.2.2.2.2.2.2.2.1.a p1.2.2.2.2.2.2.2.2.2.2.2.2.2.1.len p1.2.2.2.2.2.2.2.2.2.2.2.2.2.1.cap, .int .i64 p1.2.2.2.2.2.2.2.2.2.2.2.2.2.2.1] z0D fun b1 =>
 L.load eS6 ((⟨b1, 0, none⟩ : Addr).add 1) fun (x2 : ByteArray) =>
 L.call Pr z6c [.pointer p0, .string x2] (.tup [(.agg [.slice, .slice]), eB6]) fun (x3 : (Sl × Sl × Unit) × Bool × Unit) =>
 L.new [.slice none 0 0, .slice none 0 0] z03 fun b4 =>
 L.store (⟨b4, 0, none⟩) [.slice x3.1.1.a x3.1.1.len x3.1.1.cap, .slice x3.1.2.1.a x3.1.2.1.len x3.1.2.1.cap] <|
 L.ite (!x3.2.1) (
  K (.string s_)) <|
 L.load eS6 ((⟨b1, 0, none⟩ : Addr).add 2) fun (x5 : ByteArray) =>
 L.ite (x5.toList == s_.toList) (
  L.load (.agg [.slice, .slice]) (⟨b4, 0, none⟩) fun (x6 : Sl × Sl × Unit) =>
  L.load eI6 ((⟨b1, 0, none⟩ : Addr).add 4) fun (x7 : Int) =>
  L.call Pr z9v [.agg #[.slice x6.1.a x6.1.len x6.1.cap, .slice x6.2.1.a x6.2.1.len x6.2.1.cap], .int .i64 x7] rS fun (x8 : ByteArray) =>
  K (.string x8)) <|
 L.load (.agg [.slice, .slice]) (⟨b4, 0, none⟩) fun (x9 : Sl × Sl × Unit) =>
 L.load eS6 ((⟨b1, 0, none⟩ : Addr).add 2) fun (x10 : ByteArray) =>
 L.call Pr z8y [.agg #[.slice x9.1.a x9.1.len x9.1.cap, .slice x9.2.1.a x9.2.1.len x9.2.1.cap], .string x10] (.tup [eS6, eB6]) fun (x11 : ByteArray × Bool × Unit) =>
 K (.string x11.1)
theorem za0 (p0 : Option Addr) (p1 : ht1) {K : Value → PT} {w : World} (h : z6g p0 p1 K w) : CT Pr z44 [.pointer p0, (.ag (qc1 p1) : SV).toV] K w :=
 C_of (fn := Tryz.f72) (an := .auto) (args := [.v (.pointer p0), .ag (qc1 p1)]) (by kernel_rfl) (by kernel_rfl) (by kernel_rfl) h
def zcr : Ann := (.seq .auto (.seq .auto (.seq .auto (.seq .auto (.seq .auto .auto (some [])) none) none) none) none)
def z7Z (p0 : Option Addr) (p1 : Int) (p2 : ByteArray) (p3 : Int) (K : Value → PT) : PT :=
 L.call Pr z6s [.pointer p0, .int .i64 p1] rB fun (x1 : Bool) =>
 L.ite x1 (
  L.call Pr z5d [.string s_twice] (.one (.agg [.int .i64, .int .i64, .int .i64, .str])) fun (x2 : pt10) =>
  L.new [.int .i64 0, .int .i64 0, .int .i64 0, .string s_] z0b fun b3 =>
  L.store (⟨b3, 0, none⟩) [.int .i64 x2.1, .int .i64 x2.2.1, .int .i64 x2.2.2.1, .string x2.2.2.2.1] <|
  L.store ((⟨b3, 0, none⟩ : Addr).add 0) [.int .i64 p1] <|
  L.load (.agg [.int .i64, .int .i64, .int .i64, .str]) (⟨b3, 0, none⟩) fun (x4 : pt10) =>
  L.new [.int .i64 x4.1, .int .i64 x4.2.1, .int .i64 x4.2.2.1, .string x4.2.2.2.1] z0b fun b5 =>
  K (.slice (some ⟨b5, 0, none⟩) 1 1)) <|
 L.ite (p2.toList == s_.toList) (
  L.call Pr z5d [.string s_no_route] (.one (.agg [.int .i64, .int .i64, .int .i64, .str])) fun (x6 : pt10) =>
  L.call Pr z1o [.pointer p0, .int .i64 p1, .string s_, .agg #[.int .i64 x6.1, .int .i64 x6.2.1, .int .i64 x6.2.2.1, .string x6.2.2.2.1]] (.one (.agg [.int .i64, .int .i64, .int .i64, .str])) fun (x7 : pt10) =>
  L.new [.int .i64 x7.1, .int .i64 x7.2.1, .int .i64 x7.2.2.1, .string x7.2.2.2.1] z0b fun b8 =>
  K (.slice (some ⟨b8, 0, none⟩) 1 1)) <|
 L.nonnil p0 fun a9 =>
 L.call Pr z2o [.pointer (some (a9.add 2)), .string p2] rP fun (x10 : Option Addr) =>
 L.join (Y := Unit) (fun k11 =>
  L.call Pr z41 [.pointer x10] rI fun (x13 : Int) =>
  L.ite (x13 == 0) (
   L.call Pr z4R [.pointer p0, .int .i64 p1, .string p2] (.tup [(.agg [.int .i64, .int .i64, .int .i64, .str]), eB6]) fun (x14 : pt11) =>
   L.new [.int .i64 0, .int .i64 0, .int .i64 0, .string s_] z0b fun b15 =>
   L.store (⟨b15, 0, none⟩) [.int .i64 x14.1.1, .int .i64 x14.1.2.1, .int .i64 x14.1.2.2.1, .string x14.1.2.2.2.1] <|
   L.ite x14.2.1 (
    L.load (.agg [.int .i64, .int .i64, .int .i64, .str]) (⟨b15, 0, none⟩) fun (x16 : pt10) =>
    L.new [.int .i64 x16.1, .int .i64 x16.2.1, .int .i64 x16.2.2.1, .string x16.2.2.2.1] z0b fun b17 =>
    K (.slice (some ⟨b17, 0, none⟩) 1 1)) <|
   k11 (())) <|
  k11 (())) fun z12 =>
 L.nonnil p0 fun a18 =>
 L.load eI6 (a18.add 5) fun (x19 : Int) =>
 L.call Pr z4Q [.pointer x10, .int .i64 p1, .int .i64 (IntKind.wrap .i64 (p3 + x19))] rI fun (x20 : Int) =>
 L.ite (x20 != 0) (
  L.call Pr z5d [.string s_overflow] (.one (.agg [.int .i64, .int .i64, .int .i64, .str])) fun (x21 : pt10) =>
  L.call Pr z1o [.pointer p0, .int .i64 p1, .string p2, .agg #[.int .i64 x21.1, .int .i64 x21.2.1, .int .i64 x21.2.2.1, .string x21.2.2.2.1]] (.one (.agg [.int .i64, .int .i64, .int .i64, .str])) fun (x22 : pt10) =>
  L.new [.int .i64 x22.1, .int .i64 x22.2.1, .int .i64 x22.2.2.1, .string x22.2.2.2.1] z0b fun b23 =>
  K (.slice (some ⟨b23, 0, none⟩) 1 1)) <|
 L.call Pr z1o [.pointer p0, .int .i64 p1, .string p2, .agg #[.int .i64 0, .int .i64 2, .int .i64 0, .string s_]] (.one (.agg [.int .i64, .int .i64, .int .i64, .str])) fun (x24 : pt10) =>
 L.new [.int .i64 x24.1, .int .i64 x24.2.1, .int .i64 x24.2.2.1, .string x24.2.2.2.1] z0b fun b25 =>
 K (.slice (some ⟨b25, 0, none⟩) 1 1)
theorem zch (p0 : Option Addr) (p1 : Int) (p2 : ByteArray) (p3 : Int) {K : Value → PT} {w : World} (h : z7Z p0 p1 p2 p3 K w) : CT Pr z5x [.pointer p0, .int .i64 p1, .string p2, .int .i64 p3] K w :=
 C_of (fn := Tryz.f73) (an := zcr) (args := [.v (.pointer p0), .v (.int .i64 p1), .v (.string p2), .v (.int .i64 p3)]) (by kernel_rfl) (by kernel_rfl) (by kernel_rfl) h
def zgH : Ann := (.seq .auto (.seq (.seq .auto (.seq .auto .auto (some [(8, (.one (.str)))])) none) .auto none) none)
def zbT (p0 : Sl) (p1 : Sl) (K : Value → PT) : PT :=
 L.new [.slice p1.a p1.len p1.cap] z06 fun b1 =>
 L.call Pr zaG [.slice p0.a p0.len p0.cap] (.one (.one (.func))) fun (x2 : FV) =>
 L.range Pr none (.func x2.fn x2.fs x2.cs) [eS6] (fun l3 (y4 : ByteArray × Unit) R5 =>
  L.begin Pr l3 <|
  L.load eL6 (⟨b1, 0, none⟩) fun (x8 : Sl) =>
  L.new [.string y4.1] z00 fun b9 =>
  L.sem Pr (.one (.one .slice)) (Builtin.append_ #[z06, z06] z06 #[.slice x8.a x8.len x8.cap, .slice (some ⟨b9, 0, none⟩) 1 1]) fun (s10 : Sl) =>
  L.store (⟨b1, 0, none⟩) [.slice s10.a s10.len s10.cap] <|
  L.endRound Pr l3 none R5) fun d6 j7 =>
 L.jump j7 (
  L.load eL6 (⟨b1, 0, none⟩) fun (x11 : Sl) =>
  L.call Pr z1J [.slice x11.a x11.len x11.cap] rL fun (x12 : Sl) =>
  L.unmark Pr (d6 ++ []) <|
  K (.slice x12.a x12.len x12.cap)) (
  L.unmark Pr (d6 ++ []) <|
  K (.slice none 0 0)) []
theorem zgs (p0 : Sl) (p1 : Sl) {K : Value → PT} {w : World} (h : zbT p0 p1 K w) : CT Pr z3p [.slice p0.a p0.len p0.cap, .slice p1.a p1.len p1.cap] K w :=
 C_of (fn := Tryz.f74) (an := zgH) (args := [.v (.slice p0.a p0.len p0.cap), .v (.slice p1.a p1.len p1.cap)]) (by kernel_rfl) (by kernel_rfl) (by kernel_rfl) h
def zcX : Ann := (.seq .auto (.seq .auto (.seq (.seq .auto (.one [(5, (.one (.slice))), (14, (.one (.int .i64)))] (.seq .auto (.seq .auto (.seq .auto .auto (some [(5, (.one (.slice)))])) none) none)) none) .auto none) none) none)
def z8m (p0 : ByteArray) (p1 : Sl) (K : Value → PT) : PT :=
 L.new [.string p0] z00 fun b1 =>
 L.loop (Y := Sl × Int × Unit) (⟨some ⟨b1, 0, none⟩, 1, 1⟩, 0, ()) fun y2 again3 =>
 L.ite (decide (y2.2.1 < ((p1.len : Nat) : Int))) (
  L.join (Y := Sl × Unit) (fun k4 =>
   L.idx p1.a y2.2.1 p1.len 1 fun a6 =>
   L.load eI6 a6 fun (x7 : Int) =>
   L.semR Pr (.tup [eS6, .one .bool]) (Instr.typeAssert (.iface z0d (.int .i64 x7)) zb2 z00 true) fun (x8 : ByteArray × Bool × Unit) =>
   L.ite x8.2.1 (
    L.new [.string x8.1] z00 fun b9 =>
    L.sem Pr (.one (.one .slice)) (Builtin.append_ #[z06, z06] z06 #[.slice y2.1.a y2.1.len y2.1.cap, .slice (some ⟨b9, 0, none⟩) 1 1]) fun (s10 : Sl) =>
    k4 (⟨s10.a, s10.len, s10.cap⟩, ())) <|
   L.ite true (
    L.call Pr z3K [.int .i64 x7] rS fun (x11 : ByteArray) =>
    L.new [.string x11] z00 fun b12 =>
    L.sem Pr (.one (.one .slice)) (Builtin.append_ #[z06, z06] z06 #[.slice y2.1.a y2.1.len y2.1.cap, .slice (some ⟨b12, 0, none⟩) 1 1]) fun (s13 : Sl) =>
    k4 (⟨s13.a, s13.len, s13.cap⟩, ())) <|
   k4 (⟨y2.1.a, y2.1.len, y2.1.cap⟩, ())) fun z5 =>
  again3 (⟨z5.1.a, z5.1.len, z5.1.cap⟩, IntKind.wrap .i64 (y2.2.1 + 1), ())) <|
 L.call Pr z61 [.slice y2.1.a y2.1.len y2.1.cap, .string za7] rS fun (x14 : ByteArray) =>
 K (.string x14)
theorem zcS (p0 : ByteArray) (p1 : Sl) {K : Value → PT} {w : World} (h : z8m p0 p1 K w) : CT Pr z0e [.string p0, .slice p1.a p1.len p1.cap] K w :=
 C_of (fn := Tryz.f75) (an := zcX) (args := [.v (.string p0), .v (.slice p1.a p1.len p1.cap)]) (by kernel_rfl) (by kernel_rfl) (by kernel_rfl) h
def z98 (p0 : Option Addr) (p1 : Int) (K : Value → PT) : PT :=
 L.nonnil p0 fun a1 =>
 L.load (.one (.map)) (a1.add 0) fun (x2 : Option Nat) =>
 L.semR Pr (.tup [(.agg [.str, .ptr]), .one .bool]) (Instr.lookup z0s (.map x2) (.int .i64 p1) true) fun (x3 : pt12) =>
 L.new [.string s_, .pointer none] z54 fun b4 =>
 L.store (⟨b4, 0, none⟩) [.string x3.1.1, .pointer x3.1.2.1] <|
 L.ite (!x3.2.1) (
  K (.int .i64 6)) <|
 L.load eP6 ((⟨b4, 0, none⟩ : Addr).add 1) fun (x5 : Option Addr) =>
 L.call Pr z9w [.pointer x5] rI fun (x6 : Int) =>
 K (.int .i64 x6)
theorem zdC (p0 : Option Addr) (p1 : Int) {K : Value → PT} {w : World} (h : z98 p0 p1 K w) : CT Pr z4T [.pointer p0, .int .i64 p1] K w :=
 C_of (fn := Tryz.f77) (an := .auto) (args := [.v (.pointer p0), .v (.int .i64 p1)]) (by kernel_rfl) (by kernel_rfl) (by kernel_rfl) h
def z99 (p0 : Option Addr) (p1 : Int) (K : Value → PT) : PT :=
 L.nonnil p0 fun a1 =>
 L.load (.one (.map)) (a1.add 0) fun (x2 : Option Nat) =>
 L.semR Pr (.one (.agg [.str, .ptr])) (Instr.lookup z0s (.map x2) (.int .i64 p1) false) fun (x3 : ByteArray × Option Addr × Unit) =>
 K (.string x3.1)
theorem zdD (p0 : Option Addr) (p1 : Int) {K : Value → PT} {w : World} (h : z99 p0 p1 K w) : CT Pr z6w [.pointer p0, .int .i64 p1] K w :=
 C_of (fn := Tryz.f78) (an := .auto) (args := [.v (.pointer p0), .v (.int .i64 p1)]) (by kernel_rfl) (by kernel_rfl) (by kernel_rfl) h
def z55 (p0 : Option Addr) (p1 : ByteArray) (K : Value → PT) : PT :=
 L.nonnil p0 fun a1 =>
 L.load (.one (.map)) (a1.add 1) fun (x2 : Option Nat) =>
 L.semR Pr rB (Instr.lookup z3S (.map x2) (.string p1) false) fun (x3 : Bool) =>
 K (.bool x3)
theorem z7u (p0 : Option Addr) (p1 : ByteArray) {K : Value → PT} {w : World} (h : z55 p0 p1 K w) : CT Pr z1D [.pointer p0, .string p1] K w :=
 C_of (fn := Tryz.f79) (an := .auto) (args := [.v (.pointer p0), .v (.string p1)]) (by kernel_rfl) (by kernel_rfl) (by kernel_rfl) h
theorem zb4 : Enters Pr z1D := z0o (by kernel_rfl)
def z7U (p0 : Option Addr) (p1 : ByteArray) (K : Value → PT) : PT :=
 L.nonnil p0 fun a1 =>
 L.load (.one (.map)) (a1.add 0) fun (x2 : Option Nat) =>
 L.semR Pr (.tup [(.agg lf5), .one .bool]) (Instr.lookup z0j (.map x2) (.string p1) true) fun (x3 : pt6) =>
 L.new [.string s_, .int .i64 0, .string s_, .int .i64 0, .int .i64 0, .int .i64 0, .int .i64 0, .int .i64 0] z0m fun b4 =>
 L.store (⟨b4, 0, none⟩) [.string x3.1.1, .int .i64 x3.1.2.1, .string x3.1.2.2.1, .int .i64 x3.1.2.2.2.1, .int .i64 x3.1.2.2.2.2.1, .int .i64 x3.1.2.2.2.2.2.1, .int .i64 x3.1.2.2.2.2.2.2.1, .int .i64 x3.1.2.2.2.2.2.2.2.1] <|
 L.ite (!x3.2.1) (
  K (.int .i64 6)) <|
 L.nonnil p0 fun a5 =>
 L.load (.one (.map)) (a5.add 1) fun (x6 : Option Nat) =>
 L.semU Pr (Instr.mapUpdate z3S (.map x6) (.string p1) (.bool true)) <|
 K (.int .i64 0)
theorem zcb (p0 : Option Addr) (p1 : ByteArray) {K : Value → PT} {w : World} (h : z7U p0 p1 K w) : CT Pr z5q [.pointer p0, .string p1] K w :=
 C_of (fn := Tryz.f80) (an := .auto) (args := [.v (.pointer p0), .v (.string p1)]) (by kernel_rfl) (by kernel_rfl) (by kernel_rfl) h
def zdI : Ann := (.seq .auto (.seq .auto (.seq .auto (.seq (.seq .auto (.one [(5, (.one (.slice))), (19, (.one (.int .i64)))] .auto) none) .auto (some [(5, (.one (.slice)))])) none) none) none)
def z94 (p0 : Option Addr) (p1 : ByteArray) (K : Value → PT) : PT :=
 L.nonnil p0 fun a1 =>
 L.call Pr z2o [.pointer (some (a1.add 2)), .string p1] rP fun (x2 : Option Addr) =>
 L.join (Y := Sl × Unit) (fun k3 =>
  L.call Pr z5o [.pointer x2] rL fun (x5 : Sl) =>
  L.loop (Y := Sl × Int × Unit) (⟨none, 0, 0⟩, 0, ()) fun y6 again7 =>
  L.ite (decide (y6.2.1 < ((x5.len : Nat) : Int))) (
   L.idx x5.a y6.2.1 x5.len 1 fun a8 =>
   L.load eI6 a8 fun (x9 : Int) =>
   L.call Pr z4R [.pointer p0, .int .i64 x9, .string p1] (.tup [(.agg [.int .i64, .int .i64, .int .i64, .str]), eB6]) fun (x10 : pt11) =>
   L.new [.int .i64 0, .int .i64 0, .int .i64 0, .string s_] z0b fun b11 =>
   L.store (⟨b11, 0, none⟩) [.int .i64 x10.1.1, .int .i64 x10.1.2.1, .int .i64 x10.1.2.2.1, .string x10.1.2.2.2.1] <|
   L.ite (!x10.2.1) (
    k3 (⟨y6.1.a, y6.1.len, y6.1.cap⟩, ())) <|
   L.call Pr z74 [.pointer x2] (.tup [eI6, eB6]) fun (x12 : Int × Bool × Unit) =>
   L.load (.agg [.int .i64, .int .i64, .int .i64, .str]) (⟨b11, 0, none⟩) fun (x13 : pt10) =>
   L.new [.int .i64 x13.1, .int .i64 x13.2.1, .int .i64 x13.2.2.1, .string x13.2.2.2.1] z0b fun b14 =>
   L.sem Pr (.one (.one .slice)) (Builtin.append_ #[z0i, z0i] z0i #[.slice y6.1.a y6.1.len y6.1.cap, .slice (some ⟨b14, 0, none⟩) 1 1]) fun (s15 : Sl) =>
   again7 (⟨s15.a, s15.len, s15.cap⟩, IntKind.wrap .i64 (y6.2.1 + 1), ())) <|
  k3 (⟨y6.1.a, y6.1.len, y6.1.cap⟩, ())) fun z4 =>
 L.call Pr z0T [.slice z4.1.a z4.1.len z4.1.cap] rL fun (x16 : Sl) =>
 K (.slice x16.a x16.len x16.cap)
theorem zdy (p0 : Option Addr) (p1 : ByteArray) {K : Value → PT} {w : World} (h : z94 p0 p1 K w) : CT Pr z6t [.pointer p0, .string p1] K w :=
 C_of (fn := Tryz.f81) (an := zdI) (args := [.v (.pointer p0), .v (.string p1)]) (by kernel_rfl) (by kernel_rfl) (by kernel_rfl) h
def zcv : Ann := (.seq .auto (.seq .auto (.seq .auto (.seq .auto (.seq (.seq .auto (.one [(29, (.one (.int .i64)))] .auto) none) .auto none) none) none) none) none)
def z83 (p0 : Option Addr) (p1 : Int) (K : Value → PT) : PT :=
 L.nonnil p0 fun a1 =>
 L.load (.one (.map)) (a1.add 0) fun (x2 : Option Nat) =>
 L.semR Pr (.tup [(.agg [.str, .ptr]), .one .bool]) (Instr.lookup z0s (.map x2) (.int .i64 p1) true) fun (x3 : pt12) =>
 L.new [.string s_, .pointer none] z54 fun b4 =>
 L.store (⟨b4, 0, none⟩) [.string x3.1.1, .pointer x3.1.2.1] <|
 L.ite (!x3.2.1) (
  K (.tuple #[.slice none 0 0, .int .i64 6])) <|
 L.load eP6 ((⟨b4, 0, none⟩ : Addr).add 1) fun (x5 : Option Addr) =>
 L.call Pr z63 [.pointer x5] (.tup [eL6, eI6]) fun (x6 : Sl × Int × Unit) =>
 L.loop (Y := Int × Unit) (0, ()) fun y7 again8 =>
 L.ite (decide (y7.1 < ((x6.1.len : Nat) : Int))) (
  L.idx x6.1.a y7.1 x6.1.len 1 fun a9 =>
  L.load eI6 a9 fun (x10 : Int) =>
  L.nonnil p0 fun a11 =>
  L.load (.one (.map)) (a11.add 1) fun (x12 : Option Nat) =>
  L.sem Pr (.tup []) (Builtin.delete_ #[z0I, z0d] T_ #[.map x12, .int .i64 x10]) fun _ =>
  again8 (IntKind.wrap .i64 (y7.1 + 1), ())) <|
 L.call Pr z4n [.pointer p0, .int .i64 p1] (.tup []) fun (x13 : Unit) =>
 K (.tuple #[.slice x6.1.a x6.1.len x6.1.cap, .int .i64 x6.2.1])
theorem zcl (p0 : Option Addr) (p1 : Int) {K : Value → PT} {w : World} (h : z83 p0 p1 K w) : CT Pr z5A [.pointer p0, .int .i64 p1] K w :=
 C_of (fn := Tryz.f82) (an := zcv) (args := [.v (.pointer p0), .v (.int .i64 p1)]) (by kernel_rfl) (by kernel_rfl) (by kernel_rfl) h
def zdH : Ann := (.seq .auto (.seq .auto (.seq (.seq .auto (.one [(5, (.one (.slice))), (11, (.one (.int .i64)))] (.seq .auto (.seq .auto (.seq .auto .auto (some [(5, (.one (.slice)))])) none) none)) none) .auto none) none) none)
def z93 (p0 : Option Addr) (p1 : Sl) (K : Value → PT) : PT :=
 L.loop (Y := Sl × Int × Unit) (⟨none, 0, 0⟩, 0, ()) fun y1 again2 =>
 L.ite (decide (y1.2.1 < ((p1.len : Nat) : Int))) (
  L.join (Y := Sl × Unit) (fun k3 =>
   L.idx p1.a y1.2.1 p1.len 1 fun a5 =>
   L.load eI6 a5 fun (x6 : Int) =>
   L.nonnil p0 fun a7 =>
   L.load (.one (.map)) (a7.add 1) fun (x8 : Option Nat) =>
   L.semR Pr (.one (.agg [.str, .int .i64])) (Instr.lookup z0X (.map x8) (.int .i64 x6) false) fun (x9 : ByteArray × Int × Unit) =>
   L.new [.string s_, .int .i64 0] z0F fun b10 =>
   L.store (⟨b10, 0, none⟩) [.string x9.1, .int .i64 x9.2.1] <|
   L.load (.agg [.str, .int .i64]) (⟨b10, 0, none⟩) fun (x11 : ByteArray × Int × Unit) =>
   L.load eS6 ((⟨b10, 0, none⟩ : Addr).add 0) fun (x12 : ByteArray) =>
   L.chkSem Pr (do eqGuard .eql z0F (.tmp 0) (.tmp 0) (.agg #[.string x11.1, .int .i64 x11.2.1]) (.agg #[.string x12, .int .i64 1]); binOp .eql z0F (.agg #[.string x11.1, .int .i64 x11.2.1]) (.agg #[.string x12, .int .i64 1])) (.bool ((x11.1 == x12) && ((x11.2.1 == 1) && true))) <|
   L.ite ((x11.1 == x12) && ((x11.2.1 == 1) && true)) (
    L.draw <|
    L.load eS6 ((⟨b10, 0, none⟩ : Addr).add 0) fun (x13 : ByteArray) =>
    L.call Pr z5d [.string s_pod_lost] (.one (.agg [.int .i64, .int .i64, .int .i64, .str])) fun (x14 : pt10) =>
    L.chk ((⟨b10, 0, none⟩ : Addr).add 0) [.string x13] <|
    L.call Pr z1o [.pointer p0, .int .i64 x6, .string x13, .agg #[.int .i64 x14.1, .int .i64 x14.2.1, .int .i64 x14.2.2.1, .string x14.2.2.2.1]] (.one (.agg [.int .i64, .int .i64, .int .i64, .str])) fun (x15 : pt10) =>
    L.new [.int .i64 x15.1, .int .i64 x15.2.1, .int .i64 x15.2.2.1, .string x15.2.2.2.1] z0b fun b16 =>
    L.sem Pr (.one (.one .slice)) (Builtin.append_ #[z0i, z0i] z0i #[.slice y1.1.a y1.1.len y1.1.cap, .slice (some ⟨b16, 0, none⟩) 1 1]) fun (s17 : Sl) =>
    k3 (⟨s17.a, s17.len, s17.cap⟩, ())) <|
   k3 (⟨y1.1.a, y1.1.len, y1.1.cap⟩, ())) fun z4 =>
  again2 (⟨z4.1.a, z4.1.len, z4.1.cap⟩, IntKind.wrap .i64 (y1.2.1 + 1), ())) <|
 L.call Pr z0T [.slice y1.1.a y1.1.len y1.1.cap] rL fun (x18 : Sl) =>
 K (.slice x18.a x18.len x18.cap)
theorem zdx (p0 : Option Addr) (p1 : Sl) {K : Value → PT} {w : World} (h : z93 p0 p1 K w) : CT Pr z4S [.pointer p0, .slice p1.a p1.len p1.cap] K w :=
 C_of (fn := Tryz.f83) (an := zdH) (args := [.v (.pointer p0), .v (.slice p1.a p1.len p1.cap)]) (by kernel_rfl) (by kernel_rfl) (by kernel_rfl) h
def zdG : Ann := (.seq .auto (.seq .auto (.seq (.seq .auto (.seq .auto (.seq .auto (.one [(20, (.one (.int .i64)))] .auto) none) (some [(14, (.one (.str))), (15, (.one (.ptr)))])) none) .auto none) none) none)
def z91 (p0 : Option Addr) (p1 : Int) (K : Value → PT) : PT :=
 L.new [.pointer p0] z30 fun b1 =>
 L.new [.int .i64 p1] z0d fun b2 =>
 L.new [.slice none 0 0] z0i fun b3 =>
 L.load eP6 (⟨b1, 0, none⟩) fun (x4 : Option Addr) =>
 L.nonnil x4 fun a5 =>
 L.call Pr z4t [.pointer (some (a5.add 2))] (.one (.one (.func))) fun (x6 : FV) =>
 L.range Pr none (.func x6.fn x6.fs x6.cs) [eS6, eP6] (fun l7 (y8 : ByteArray × Option Addr × Unit) R9 =>
  L.begin Pr l7 <|
  L.load eI6 (⟨b2, 0, none⟩) fun (x12 : Int) =>
  L.call Pr z6p [.pointer y8.2.1, .int .i64 x12] rL fun (x13 : Sl) =>
  L.loop (Y := Int × Unit) (0, ()) fun y14 again15 =>
  L.ite (decide (y14.1 < ((x13.len : Nat) : Int))) (
   L.idx x13.a y14.1 x13.len 1 fun a16 =>
   L.load eI6 a16 fun (x17 : Int) =>
   L.draw <|
   L.load eL6 (⟨b3, 0, none⟩) fun (x18 : Sl) =>
   L.load eP6 (⟨b1, 0, none⟩) fun (x19 : Option Addr) =>
   L.call Pr z5d [.string s_timeout] (.one (.agg [.int .i64, .int .i64, .int .i64, .str])) fun (x20 : pt10) =>
   L.chk (⟨b1, 0, none⟩) [.pointer x19] <|
   L.chk (⟨b3, 0, none⟩) [.slice x18.a x18.len x18.cap] <|
   L.call Pr z1o [.pointer x19, .int .i64 x17, .string y8.1, .agg #[.int .i64 x20.1, .int .i64 x20.2.1, .int .i64 x20.2.2.1, .string x20.2.2.2.1]] (.one (.agg [.int .i64, .int .i64, .int .i64, .str])) fun (x21 : pt10) =>
   L.chk (⟨b3, 0, none⟩) [.slice x18.a x18.len x18.cap] <|
   L.new [.int .i64 x21.1, .int .i64 x21.2.1, .int .i64 x21.2.2.1, .string x21.2.2.2.1] z0b fun b22 =>
   L.chk (⟨b3, 0, none⟩) [.slice x18.a x18.len x18.cap] <|
   L.sem Pr (.one (.one .slice)) (Builtin.append_ #[z0i, z0i] z0i #[.slice x18.a x18.len x18.cap, .slice (some ⟨b22, 0, none⟩) 1 1]) fun (s23 : Sl) =>
   L.store (⟨b3, 0, none⟩) [.slice s23.a s23.len s23.cap] <|
   again15 (IntKind.wrap .i64 (y14.1 + 1), ())) <|
  L.endRound Pr l7 none R9) fun d10 j11 =>
 L.jump j11 (
  L.load eL6 (⟨b3, 0, none⟩) fun (x24 : Sl) =>
  L.call Pr z0T [.slice x24.a x24.len x24.cap] rL fun (x25 : Sl) =>
  L.unmark Pr (d10 ++ []) <|
  K (.slice x25.a x25.len x25.cap)) (
  L.unmark Pr (d10 ++ []) <|
  K (.slice none 0 0)) []
theorem zdv (p0 : Option Addr) (p1 : Int) {K : Value → PT} {w : World} (h : z91 p0 p1 K w) : CT Pr z6r [.pointer p0, .int .i64 p1] K w :=
 C_of (fn := Tryz.f84) (an := zdG) (args := [.v (.pointer p0), .v (.int .i64 p1)]) (by kernel_rfl) (by kernel_rfl) (by kernel_rfl) h
def z4M (p0 : Option Addr) (K : Value → PT) : PT :=
 L.nonnil p0 fun a1 =>
 L.load eP6 (a1.add 1) fun (x2 : Option Addr) =>
 L.call Pr z6q [.pointer x2] rL fun (x3 : Sl) =>
 K (.slice x3.a x3.len x3.cap)
theorem z88 (p0 : Option Addr) {K : Value → PT} {w : World} (h : z4M p0 K w) : CT Pr z4K [.pointer p0] K w :=
 C_of (fn := Tryz.f85) (an := .auto) (args := [.v (.pointer p0)]) (by kernel_rfl) (by kernel_rfl) (by kernel_rfl) h
def z8o (p0 : Option Addr) (p1 : Int) (K : Value → PT) : PT :=
 L.nonnil p0 fun a1 =>
 L.call Pr z4E [.pointer (some (a1.add 0)), .int .i64 (if 0 > p1 then 0 else p1)] (.tup []) fun (x2 : Unit) =>
 L.nonnil p0 fun a3 =>
 L.load eI6 (a3.add 61) fun (x4 : Int) =>
 L.nonnil p0 fun a5 =>
 L.store (a5.add 61) [.int .i64 (IntKind.wrap .i64 (x4 + 1))] <|
 L.ite (decide ((if 0 > p1 then 0 else p1) > 0)) (
  L.nonnil p0 fun a6 =>
  L.store (a6.add 61) [.int .i64 0] <|
  K (.tuple #[])) <|
 K (.tuple #[])
theorem zcU (p0 : Option Addr) (p1 : Int) {K : Value → PT} {w : World} (h : z8o p0 p1 K w) : CT Pr z5X [.pointer p0, .int .i64 p1] K w :=
 C_of (fn := Tryz.f86) (an := .auto) (args := [.v (.pointer p0), .v (.int .i64 p1)]) (by kernel_rfl) (by kernel_rfl) (by kernel_rfl) h
def z95 (p0 : Option Addr) (p1 : ByteArray) (K : Value → PT) : PT :=
 L.call Pr z5v [.pointer p0, .string p1] (.tup [eL6, eL6]) fun (x1 : Sl × Sl × Unit) =>
 K (.int .i64 (IntKind.wrap .i64 (((x1.1.len : Nat) : Int) + ((x1.2.1.len : Nat) : Int))))
theorem zdz (p0 : Option Addr) (p1 : ByteArray) {K : Value → PT} {w : World} (h : z95 p0 p1 K w) : CT Pr z6u [.pointer p0, .string p1] K w :=
 C_of (fn := Tryz.f87) (an := .auto) (args := [.v (.pointer p0), .v (.string p1)]) (by kernel_rfl) (by kernel_rfl) (by kernel_rfl) h
def z6F (p0 : Option Addr) (p1 : ByteArray) (K : Value → PT) : PT :=
 L.new [.string s_, .int .i64 0, .int .i64 0, .int .i64 0, .int .i64 0, .int .i64 0] z0g fun b1 =>
 L.nonnil p0 fun a2 =>
 L.load eP6 (a2.add 0) fun (x3 : Option Addr) =>
 L.call Pr z2D [.pointer x3, .string p1] (.tup [(.agg lf9), eB6]) fun (x4 : pt13) =>
 L.new [.string s_, .int .i64 0, .int .i64 0, .int .i64 0, .int .i64 0, .int .i64 0, .int .i64 0, .int .i64 0, .bool false] z09 fun b5 =>
 L.store (⟨b5, 0, none⟩) [.string x4.1.1, .int .i64 x4.1.2.1, .int .i64 x4.1.2.2.1, .int .i64 x4.1.2.2.2.1, .int .i64 x4.1.2.2.2.2.1, .int .i64 x4.1.2.2.2.2.2.1, .int .i64 x4.1.2.2.2.2.2.2.1, .int .i64 x4.1.2.2.2.2.2.2.2.1, .bool x4.1.2.2.2.2.2.2.2.2.1] <|
 L.ite (!x4.2.1) (
  L.store (⟨b1, 0, none⟩) [.string s_, .int .i64 0, .int .i64 0, .int .i64 0, .int .i64 0, .int .i64 0] <|
  L.load (.agg lf0) (⟨b1, 0, none⟩) fun (x6 : pt0) =>
  K (.tuple #[(qa0 x6), .int .i64 0, .int .i64 0, .bool false])) <|
 L.draw <|
 L.load (.agg lf0) ((⟨b5, 0, none⟩ : Addr).add 0) fun (x7 : pt0) =>
 L.load eI6 ((⟨b5, 0, none⟩ : Addr).add 6) fun (x8 : Int) =>
 L.load eI6 ((⟨b5, 0, none⟩ : Addr).add 7) fun (x9 : Int) =>
 L.store (⟨b1, 0, none⟩) [.string x7.1, .int .i64 x7.2.1, .int .i64 x7.2.2.1, .int .i64 x7.2.2.2.1, .int .i64 x7.2.2.2.2.1, .int .i64 x7.2.2.2.2.2.1] <|
 L.chk ((⟨b5, 0, none⟩ : Addr).add 7) [.int .i64 x9] <|
 L.chk ((⟨b5, 0, none⟩ : Addr).add 6) [.int .i64 x8] <|
 L.chk ((⟨b5, 0, none⟩ : Addr).add 7) [.int .i64 x9] <|
 L.load (.agg lf0) (⟨b1, 0, none⟩) fun (x10 : pt0) =>
 K (.tuple #[(qa0 x10), .int .i64 x8, .int .i64 x9, .bool true])
theorem zaw (p0 : Option Addr) (p1 : ByteArray) {K : Value → PT} {w : World} (h : z6F p0 p1 K w) : CT Pr z39 [.pointer p0, .string p1] K w :=
 C_of (fn := Tryz.f88) (an := .auto) (args := [.v (.pointer p0), .v (.string p1)]) (by kernel_rfl) (by kernel_rfl) (by kernel_rfl) h
def z7T (p0 : Option Addr) (p1 : ht0) (p2 : Int) (K : Value → PT) : PT :=
 L.new [.string p1.1, .int .i64 p1.2.1, .int .i64 p1.2.2.1, .int .i64 p1.2.2.2.1, .int .i64 p1.2.2.2.2.1, .int .i64 p1.2.2.2.2.2.1] z0g fun b1 =>
 L.load eS6 ((⟨b1, 0, none⟩ : Addr).add 0) fun (x2 : ByteArray) =>
 L.call Pr z8F [.string x2, .int .i64 p2] rS fun (x3 : ByteArray) =>
 L.ite (x3.toList == s_.toList) (
  K (.tuple #[.string x3, .bool false])) <|
 L.nonnil p0 fun a4 =>
 L.load (.one (.map)) (a4.add 0) fun (x5 : Option Nat) =>
 L.semR Pr (.one (.agg lf5)) (Instr.lookup z0j (.map x5) (.string x3) false) fun (x6 : pt14) =>
 L.chkSem Pr (do eqGuard .neq z0m (.tmp 0) (.tmp 0) ((qa3 x6)) (.agg #[.string s_, .int .i64 0, .string s_, .int .i64 0, .int .i64 0, .int .i64 0, .int .i64 0, .int .i64 0]); binOp .neq z0m ((qa3 x6)) (.agg #[.string s_, .int .i64 0, .string s_, .int .i64 0, .int .i64 0, .int .i64 0, .int .i64 0, .int .i64 0])) (.bool (!((x6.1 == s_) && ((x6.2.1 == 0) && ((x6.2.2.1 == s_) && ((x6.2.2.2.1 == 0) && ((x6.2.2.2.2.1 == 0) && ((x6.2.2.2.2.2.1 == 0) && ((x6.2.2.2.2.2.2.1 == 0) && ((x6.2.2.2.2.2.2.2.1 == 0) && true)))))))))) <|
 L.ite (!((x6.1 == s_) && ((x6.2.1 == 0) && ((x6.2.2.1 == s_) && ((x6.2.2.2.1 == 0) && ((x6.2.2.2.2.1 == 0) && ((x6.2.2.2.2.2.1 == 0) && ((x6.2.2.2.2.2.2.1 == 0) && ((x6.2.2.2.2.2.2.2.1 == 0) && true))))))))) (
  K (.tuple #[.string x3, .bool false])) <|
 L.draw <|
 L.nonnil p0 fun a7 =>
 L.load (.one (.map)) (a7.add 0) fun (x8 : Option Nat) =>
 L.load (.agg lf0) (⟨b1, 0, none⟩) fun (x9 : pt0) =>
 L.semU Pr (Instr.mapUpdate z0j (.map x8) (.string x3) (.agg #[.string x3, .int .i64 p2, .string x9.1, .int .i64 x9.2.1, .int .i64 x9.2.2.1, .int .i64 x9.2.2.2.1, .int .i64 x9.2.2.2.2.1, .int .i64 x9.2.2.2.2.2.1])) <|
 K (.tuple #[.string x3, .bool true])
theorem zca (p0 : Option Addr) (p1 : ht0) (p2 : Int) {K : Value → PT} {w : World} (h : z7T p0 p1 p2 K w) : CT Pr z5p [.pointer p0, (.ag (qc0 p1) : SV).toV, .int .i64 p2] K w :=
 C_of (fn := Tryz.f89) (an := .auto) (args := [.v (.pointer p0), .ag (qc0 p1), .v (.int .i64 p2)]) (by kernel_rfl) (by kernel_rfl) (by kernel_rfl) h
def zeC  (K : Value → PT) : PT :=
 L.new [.int .i64 0, .int .i64 0, .int .i64 0, .int .i64 0, .int .i64 0, .int .i64 0, .int .i64 0, .int .i64 0, .int .i64 0, .int .i64 0, .int .i64 0, .int .i64 0, .int .i64 0, .int .i64 0, .int .i64 0, .int .i64 0, .int .i64 0, .int .i64 0, .int .i64 0, .int .i64 0, .int .i64 0, .int .i64 0, .int .i64 0, .int .i64 0, .int .i64 0, .int .i64 0, .int .i64 0, .int .i64 0, .int .i64 0, .int .i64 0, .int .i64 0, .int .i64 0, .int .i64 0, .int .i64 0, .int .i64 0, .int .i64 0, .int .i64 0, .int .i64 0, .int .i64 0, .int .i64 0, .int .i64 0, .int .i64 0, .int .i64 0, .int .i64 0, .int .i64 0, .int .i64 0, .int .i64 0, .int .i64 0, .int .i64 0, .int .i64 0, .int .i64 0, .int .i64 0, .int .i64 0, .int .i64 0, .int .i64 0, .int .i64 0, .int .i64 0, .int .i64 0, .int .i64 0, .int .i64 0, .int .i64 0, .int .i64 0] z5E fun b1 =>
 K (.pointer (some (⟨b1, 0, none⟩)))
theorem ziL  {K : Value → PT} {w : World} (h : zeC  K w) : CT Pr zaX [] K w :=
 C_of (fn := Tryz.f90) (an := .auto) (args := []) (by kernel_rfl) (by kernel_rfl) (by kernel_rfl) h
def z7l (p0 : Option Addr) (p1 : ByteArray) (K : Value → PT) : PT :=
 L.new [.string s_, .string s_, .slice none 0 0, .int .i64 0] z0p fun b1 =>
 L.nonnil p0 fun a2 =>
 L.load eP6 (a2.add 1) fun (x3 : Option Addr) =>
 L.call Pr z2S [.pointer x3, .string p1] (.tup [(.agg lf10), eB6]) fun (x4 : pt15) =>
 L.new [.string s_, .string s_, .slice none 0 0, .int .i64 0, .int .i64 0, .int .i64 0, .bool false] z0h fun b5 =>
 L.store (⟨b5, 0, none⟩) [.string x4.1.1, .string x4.1.2.1, .slice x4.1.2.2.1.a x4.1.2.2.1.len x4.1.2.2.1.cap, .int .i64 x4.1.2.2.2.1, .int .i64 x4.1.2.2.2.2.1, .int .i64 x4.1.2.2.2.2.2.1, .bool x4.1.2.2.2.2.2.2.1] <|
 L.ite (!x4.2.1) (
  L.store (⟨b1, 0, none⟩) [.string s_, .string s_, .slice none 0 0, .int .i64 0] <|
  L.load (.agg [.str, .str, .slice, .int .i64]) (⟨b1, 0, none⟩) fun (x6 : pt3) =>
  K (.tuple #[.agg #[.string x6.1, .string x6.2.1, .slice x6.2.2.1.a x6.2.2.1.len x6.2.2.1.cap, .int .i64 x6.2.2.2.1], .int .i64 0, .bool false])) <|
 L.draw <|
 L.load (.agg [.str, .str, .slice, .int .i64]) ((⟨b5, 0, none⟩ : Addr).add 0) fun (x7 : pt3) =>
 L.load eI6 ((⟨b5, 0, none⟩ : Addr).add 4) fun (x8 : Int) =>
 L.call Pr z8B [.agg #[.string x7.1, .string x7.2.1, .slice x7.2.2.1.a x7.2.2.1.len x7.2.2.1.cap, .int .i64 x7.2.2.2.1]] (.one (.agg [.str, .str, .slice, .int .i64])) fun (x9 : pt3) =>
 L.chk ((⟨b5, 0, none⟩ : Addr).add 4) [.int .i64 x8] <|
 L.store (⟨b1, 0, none⟩) [.string x9.1, .string x9.2.1, .slice x9.2.2.1.a x9.2.2.1.len x9.2.2.1.cap, .int .i64 x9.2.2.2.1] <|
 L.chk ((⟨b5, 0, none⟩ : Addr).add 4) [.int .i64 x8] <|
 L.load (.agg [.str, .str, .slice, .int .i64]) (⟨b1, 0, none⟩) fun (x10 : pt3) =>
 K (.tuple #[.agg #[.string x10.1, .string x10.2.1, .slice x10.2.2.1.a x10.2.2.1.len x10.2.2.1.cap, .int .i64 x10.2.2.2.1], .int .i64 x8, .bool true])
theorem zbc (p0 : Option Addr) (p1 : ByteArray) {K : Value → PT} {w : World} (h : z7l p0 p1 K w) : CT Pr z3s [.pointer p0, .string p1] K w :=
 C_of (fn := Tryz.f91) (an := .auto) (args := [.v (.pointer p0), .v (.string p1)]) (by kernel_rfl) (by kernel_rfl) (by kernel_rfl) h
def zf1 : Ann := (.seq .auto (.seq .auto (.seq (.seq .auto (.one [(5, (.one (.int .i64))), (22, (.one (.int .i64)))] (.seq .auto (.seq .auto (.seq .auto .auto (some [(5, (.one (.int .i64)))])) none) none)) none) (.seq .auto (.seq (.seq .auto (.seq .auto .auto (some [(53, (.one (.str))), (54, (.one (.int .i64)))])) none) (.seq (.seq .auto (.seq .auto .auto (some [(67, (.one (.str))), (68, (.one (.str)))])) none) .auto none) none) none) none) none) none)
def zaM (p0 : ht2) (p1 : Option Addr) (K : Value → PT) : PT :=
 L.new [.string p0.1, .string p0.2.1, .slice p0.2.2.1.a p0.2.2.1.len p0.2.2.1.cap, .int .i64 p0.2.2.2.1] z0p fun b1 =>
 L.new [.slice none 0 0, .slice none 0 0] z03 fun b2 =>
 L.sem Pr (.one (.one .map)) (Instr.makeMap z0H none) fun (m3 : Option Nat) =>
 L.sem Pr (.one (.one .map)) (Instr.makeMap z0q none) fun (m4 : Option Nat) =>
 L.load eL6 ((⟨b1, 0, none⟩ : Addr).add 2) fun (x5 : Sl) =>
 L.loop (Y := Int × Int × Unit) (0, 0, ()) fun y6 again7 =>
 L.ite (decide (y6.2.1 < ((x5.len : Nat) : Int))) (
  L.join (Y := Int × Unit) (fun k8 =>
   L.idx x5.a y6.2.1 x5.len 3 fun a10 =>
   L.load (.agg [.str, .str, .int .i64]) a10 fun (x11 : pt9) =>
   L.new [.string s_, .string s_, .int .i64 0] z07 fun b12 =>
   L.store (⟨b12, 0, none⟩) [.string x11.1, .string x11.2.1, .int .i64 x11.2.2.1] <|
   L.load (.agg [.str, .str, .int .i64]) (⟨b12, 0, none⟩) fun (x13 : pt9) =>
   L.load (.agg [.str, .str, .slice, .int .i64]) (⟨b1, 0, none⟩) fun (x14 : pt3) =>
   L.call Pr z8E [.agg #[.string x13.1, .string x13.2.1, .int .i64 x13.2.2.1], .agg #[.string x14.1, .string x14.2.1, .slice x14.2.2.1.a x14.2.2.1.len x14.2.2.1.cap, .int .i64 x14.2.2.2.1], .pointer p1] (.tup [eS6, eI6]) fun (x15 : ByteArray × Int × Unit) =>
   L.ite (x15.2.1 != 0) (
    L.store (⟨b2, 0, none⟩) [.slice none 0 0, .slice none 0 0] <|
    L.load (.agg [.slice, .slice]) (⟨b2, 0, none⟩) fun (x16 : Sl × Sl × Unit) =>
    K (.tuple #[.agg #[.slice x16.1.a x16.1.len x16.1.cap, .slice x16.2.1.a x16.2.1.len x16.2.1.cap], .int .i64 x15.2.1])) <|
   L.semR Pr rI (Instr.lookup z0H (.map m3) (.string x15.1) false) fun (x17 : Int) =>
   L.load eI6 ((⟨b12, 0, none⟩ : Addr).add 2) fun (x18 : Int) =>
   L.semU Pr (Instr.mapUpdate z0H (.map m3) (.string x15.1) (.int .i64 (IntKind.wrap .i64 (x17 + x18)))) <|
   L.load eS6 ((⟨b12, 0, none⟩ : Addr).add 1) fun (x19 : ByteArray) =>
   L.ite (!(x19.toList == s_.toList)) (
    L.load eS6 ((⟨b12, 0, none⟩ : Addr).add 1) fun (x20 : ByteArray) =>
    L.semU Pr (Instr.mapUpdate z0q (.map m4) (.string x20) (.string x15.1)) <|
    k8 (y6.1, ())) <|
   k8 (y6.1, ())) fun z9 =>
  again7 (z9.1, IntKind.wrap .i64 (y6.2.1 + 1), ())) <|
 L.new [.slice none 0 0, .slice none 0 0] z03 fun b21 =>
 L.call Pr z4L [.map m3] (.one (.one (.func))) fun (x22 : FV) =>
 L.range Pr none (.func x22.fn x22.fs x22.cs) [eS6, eI6] (fun l23 (y24 : ByteArray × Int × Unit) R25 =>
  L.begin Pr l23 <|
  L.ite (decide (y24.2.1 > 0)) (
   L.load eL6 ((⟨b21, 0, none⟩ : Addr).add 0) fun (x28 : Sl) =>
   L.new [.string y24.1, .int .i64 y24.2.1] z0t fun b29 =>
   L.sem Pr (.one (.one .slice)) (Builtin.append_ #[z0A, z0A] z0A #[.slice x28.a x28.len x28.cap, .slice (some ⟨b29, 0, none⟩) 1 1]) fun (s30 : Sl) =>
   L.store ((⟨b21, 0, none⟩ : Addr).add 0) [.slice s30.a s30.len s30.cap] <|
   L.endRound Pr l23 none R25) <|
  L.endRound Pr l23 none R25) fun d26 j27 =>
 L.jump j27 (
  L.call Pr z3R [.map m4] (.one (.one (.func))) fun (x31 : FV) =>
  L.range Pr none (.func x31.fn x31.fs x31.cs) [eS6, eS6] (fun l32 (y33 : ByteArray × ByteArray × Unit) R34 =>
   L.begin Pr l32 <|
   L.load eL6 ((⟨b21, 0, none⟩ : Addr).add 1) fun (x37 : Sl) =>
   L.new [.string y33.1, .string y33.2.1] z34 fun b38 =>
   L.sem Pr (.one (.one .slice)) (Builtin.append_ #[z3z, z3z] z3z #[.slice x37.a x37.len x37.cap, .slice (some ⟨b38, 0, none⟩) 1 1]) fun (s39 : Sl) =>
   L.store ((⟨b21, 0, none⟩ : Addr).add 1) [.slice s39.a s39.len s39.cap] <|
   L.endRound Pr l32 none R34) fun d35 j36 =>
  L.jump j36 (
   L.load (.agg [.slice, .slice]) (⟨b21, 0, none⟩) fun (x40 : Sl × Sl × Unit) =>
   L.call Pr z23 [.agg #[.slice x40.1.a x40.1.len x40.1.cap, .slice x40.2.1.a x40.2.1.len x40.2.1.cap]] (.one (.agg [.slice, .slice])) fun (x41 : Sl × Sl × Unit) =>
   L.store (⟨b2, 0, none⟩) [.slice x41.1.a x41.1.len x41.1.cap, .slice x41.2.1.a x41.2.1.len x41.2.1.cap] <|
   L.unmark Pr (d35 ++ (d26 ++ [])) <|
   L.load (.agg [.slice, .slice]) (⟨b2, 0, none⟩) fun (x42 : Sl × Sl × Unit) =>
   K (.tuple #[.agg #[.slice x42.1.a x42.1.len x42.1.cap, .slice x42.2.1.a x42.2.1.len x42.2.1.cap], .int .i64 0])) (
   L.unmark Pr (d35 ++ (d26 ++ [])) <|
   L.load (.agg [.slice, .slice]) (⟨b2, 0, none⟩) fun (x43 : Sl × Sl × Unit) =>
   K (.tuple #[.agg #[.slice x43.1.a x43.1.len x43.1.cap, .slice x43.2.1.a x43.2.1.len x43.2.1.cap], .int .i64 y6.1])) []) (
  L.unmark Pr (d26 ++ []) <|
  L.load (.agg [.slice, .slice]) (⟨b2, 0, none⟩) fun (x44 : Sl × Sl × Unit) =>
  K (.tuple #[.agg #[.slice x44.1.a x44.1.len x44.1.cap, .slice x44.2.1.a x44.2.1.len x44.2.1.cap], .int .i64 y6.1])) []
theorem zeW (p0 : ht2) (p1 : Option Addr) {K : Value → PT} {w : World} (h : zaM p0 p1 K w) : CT Pr z64 [(.ag (qc2 p0) : SV).toV, .pointer p1] K w :=
 C_of (fn := Tryz.f92) (an := zf1) (args := [.ag (qc2 p0), .v (.pointer p1)]) (by kernel_rfl) (by kernel_rfl) (by kernel_rfl) h
def zi5 : Ann := (.seq .auto (.seq .auto (.seq .auto (.seq (.seq .auto (.one [(5, (.one (.slice))), (17, (.one (.int .i64)))] .auto) none) (.seq (.seq .auto (.one [(5, (.one (.slice))), (33, (.one (.int .i64)))] .auto) none) .auto none) none) none) none) none)
def zd6 (p0 : HT [.slice, .slice]) (K : Value → PT) : PT :=
 L.new [.slice p0.1.a p0.1.len p0.1.cap, .slice p0.2.1.a p0.2.1.len p0.2.1.cap] z03 fun b1 =>
 L.load (.agg [.slice, .slice]) (⟨b1, 0, none⟩) fun (x2 : Sl × Sl × Unit) =>
 L.call Pr z8x [.agg #[.slice x2.1.a x2.1.len x2.1.cap, .slice x2.2.1.a x2.2.1.len x2.2.1.cap]] (.tup [eL6, eL6]) fun (x3 : Sl × Sl × Unit) =>
 L.loop (Y := Sl × Int × Unit) (⟨none, 0, 0⟩, 0, ()) fun y4 again5 =>
 L.ite (decide (y4.2.1 < ((x3.1.len : Nat) : Int))) (
  L.idx x3.1.a y4.2.1 x3.1.len 2 fun a6 =>
  L.load (.agg [.str, .str]) a6 fun (x7 : ByteArray × ByteArray × Unit) =>
  L.new [.string s_, .string s_] z2Z fun b8 =>
  L.store (⟨b8, 0, none⟩) [.string x7.1, .string x7.2.1] <|
  L.idx (some (⟨b8, 0, none⟩)) 0 2 1 fun a9 =>
  L.load eS6 a9 fun (x10 : ByteArray) =>
  L.guard (((x10.size + s___b5df.size : Nat) : Int) ≤ maxI64) <|
  L.idx (some (⟨b8, 0, none⟩)) 1 2 1 fun a11 =>
  L.load eS6 a11 fun (x12 : ByteArray) =>
  L.guard ((((x10 ++ s___b5df).size + x12.size : Nat) : Int) ≤ maxI64) <|
  L.new [.string ((x10 ++ s___b5df) ++ x12)] z00 fun b13 =>
  L.sem Pr (.one (.one .slice)) (Builtin.append_ #[z06, z06] z06 #[.slice y4.1.a y4.1.len y4.1.cap, .slice (some ⟨b13, 0, none⟩) 1 1]) fun (s14 : Sl) =>
  again5 (⟨s14.a, s14.len, s14.cap⟩, IntKind.wrap .i64 (y4.2.1 + 1), ())) <|
 L.loop (Y := Sl × Int × Unit) (⟨y4.1.a, y4.1.len, y4.1.cap⟩, 0, ()) fun y15 again16 =>
 L.ite (decide (y15.2.1 < ((x3.2.1.len : Nat) : Int))) (
  L.idx x3.2.1.a y15.2.1 x3.2.1.len 2 fun a17 =>
  L.load (.agg [.str, .str]) a17 fun (x18 : ByteArray × ByteArray × Unit) =>
  L.new [.string s_, .string s_] z2Z fun b19 =>
  L.store (⟨b19, 0, none⟩) [.string x18.1, .string x18.2.1] <|
  L.idx (some (⟨b19, 0, none⟩)) 0 2 1 fun a20 =>
  L.load eS6 a20 fun (x21 : ByteArray) =>
  L.guard (((x21.size + s___b5e2.size : Nat) : Int) ≤ maxI64) <|
  L.idx (some (⟨b19, 0, none⟩)) 1 2 1 fun a22 =>
  L.load eS6 a22 fun (x23 : ByteArray) =>
  L.guard ((((x21 ++ s___b5e2).size + x23.size : Nat) : Int) ≤ maxI64) <|
  L.new [.string ((x21 ++ s___b5e2) ++ x23)] z00 fun b24 =>
  L.sem Pr (.one (.one .slice)) (Builtin.append_ #[z06, z06] z06 #[.slice y15.1.a y15.1.len y15.1.cap, .slice (some ⟨b24, 0, none⟩) 1 1]) fun (s25 : Sl) =>
  again16 (⟨s25.a, s25.len, s25.cap⟩, IntKind.wrap .i64 (y15.2.1 + 1), ())) <|
 L.call Pr z61 [.slice y15.1.a y15.1.len y15.1.cap, .string za7] rS fun (x26 : ByteArray) =>
 K (.string x26)
theorem zhU (p0 : HT [.slice, .slice]) {K : Value → PT} {w : World} (h : zd6 p0 K w) : CT Pr z9u [(.ag [.slice p0.1.a p0.1.len p0.1.cap, .slice p0.2.1.a p0.2.1.len p0.2.1.cap] : SV).toV] K w :=
 C_of (fn := Tryz.f93) (an := zi5) (args := [.ag [.slice p0.1.a p0.1.len p0.1.cap, .slice p0.2.1.a p0.2.1.len p0.2.1.cap]]) (by kernel_rfl) (by kernel_rfl) (by kernel_rfl) h
def zco : Ann := (.seq .auto (.seq .auto (.seq .auto .auto (some [])) none) none)
def z7W (p0 : Option Addr) (p1 : ByteArray) (p2 : HT [.slice, .slice]) (p3 : Int) (p4 : Int) (K : Value → PT) : PT :=
 L.new [.slice p2.1.a p2.1.len p2.1.cap, .slice p2.2.1.a p2.2.1.len p2.2.1.cap] z03 fun b1 =>
 L.new [.slice none 0 0, .slice none 0 0] z03 fun b2 =>
 L.nonnil p0 fun a3 =>
 L.load (.one (.map)) (a3.add 0) fun (x4 : Option Nat) =>
 L.semR Pr (.tup [(.agg lf11), .one .bool]) (Instr.lookup z1G (.map x4) (.string p1) true) fun (x5 : pt16) =>
 L.new [.slice none 0 0, .slice none 0 0, .int .i64 0, .int .i64 0, .slice none 0 0, .slice none 0 0] z1R fun b6 =>
 L.store (⟨b6, 0, none⟩) [.slice x5.1.1.a x5.1.1.len x5.1.1.cap, .slice x5.1.2.1.a x5.1.2.1.len x5.1.2.1.cap, .int .i64 x5.1.2.2.1, .int .i64 x5.1.2.2.2.1, .slice x5.1.2.2.2.2.1.a x5.1.2.2.2.2.1.len x5.1.2.2.2.2.1.cap, .slice x5.1.2.2.2.2.2.1.a x5.1.2.2.2.2.2.1.len x5.1.2.2.2.2.2.1.cap] <|
 L.join (Y := Unit) (fun k7 =>
  L.ite (!x5.2.1) (
   L.draw <|
   L.load (.agg [.slice, .slice]) (⟨b1, 0, none⟩) fun (x9 : Sl × Sl × Unit) =>
   L.load (.agg [.slice, .slice]) (⟨b1, 0, none⟩) fun (x10 : Sl × Sl × Unit) =>
   L.call Pr z23 [.agg #[.slice x9.1.a x9.1.len x9.1.cap, .slice x9.2.1.a x9.2.1.len x9.2.1.cap]] (.one (.agg [.slice, .slice])) fun (x11 : Sl × Sl × Unit) =>
   L.chk (⟨b1, 0, none⟩) [.slice x10.1.a x10.1.len x10.1.cap, .slice x10.2.1.a x10.2.1.len x10.2.1.cap] <|
   L.call Pr z23 [.agg #[.slice x10.1.a x10.1.len x10.1.cap, .slice x10.2.1.a x10.2.1.len x10.2.1.cap]] (.one (.agg [.slice, .slice])) fun (x12 : Sl × Sl × Unit) =>
   L.store (⟨b6, 0, none⟩) [.slice x11.1.a x11.1.len x11.1.cap, .slice x12.1.a x12.1.len x12.1.cap, .int .i64 p3, .int .i64 p4, .slice none 0 0, .slice none 0 0] <|
   k7 (())) <|
  L.load eL6 ((⟨b6, 0, none⟩ : Addr).add 1) fun (x13 : Sl) =>
  L.load eL6 ((⟨b1, 0, none⟩ : Addr).add 0) fun (x14 : Sl) =>
  L.call Pr z1g [.slice x13.a x13.len x13.cap, .slice x14.a x14.len x14.cap] rB fun (x15 : Bool) =>
  L.ite (!x15) (
   L.draw <|
   L.load eL6 (((⟨b6, 0, none⟩ : Addr).add 4).add 0) fun (x16 : Sl) =>
   L.load (.agg [.slice, .slice]) (⟨b1, 0, none⟩) fun (x17 : Sl × Sl × Unit) =>
   L.call Pr z23 [.agg #[.slice x17.1.a x17.1.len x17.1.cap, .slice x17.2.1.a x17.2.1.len x17.2.1.cap]] (.one (.agg [.slice, .slice])) fun (x18 : Sl × Sl × Unit) =>
   L.chk (((⟨b6, 0, none⟩ : Addr).add 4).add 0) [.slice x16.a x16.len x16.cap] <|
   L.store (⟨b6, 0, none⟩) [.slice x16.a x16.len x16.cap, .slice x18.1.a x18.1.len x18.1.cap, .int .i64 p3, .int .i64 p4, .slice none 0 0, .slice none 0 0] <|
   k7 (())) <|
  L.load eI6 ((⟨b6, 0, none⟩ : Addr).add 3) fun (x19 : Int) =>
  L.ite (x19 != p4) (
   L.draw <|
   L.load eL6 (((⟨b6, 0, none⟩ : Addr).add 4).add 0) fun (x20 : Sl) =>
   L.load (.agg [.slice, .slice]) (⟨b1, 0, none⟩) fun (x21 : Sl × Sl × Unit) =>
   L.call Pr z23 [.agg #[.slice x21.1.a x21.1.len x21.1.cap, .slice x21.2.1.a x21.2.1.len x21.2.1.cap]] (.one (.agg [.slice, .slice])) fun (x22 : Sl × Sl × Unit) =>
   L.chk (((⟨b6, 0, none⟩ : Addr).add 4).add 0) [.slice x20.a x20.len x20.cap] <|
   L.store (⟨b6, 0, none⟩) [.slice x20.a x20.len x20.cap, .slice x22.1.a x22.1.len x22.1.cap, .int .i64 p3, .int .i64 p4, .slice none 0 0, .slice none 0 0] <|
   k7 (())) <|
  k7 (())) fun z8 =>
 L.draw <|
 L.load eL6 ((⟨b6, 0, none⟩ : Addr).add 0) fun (x23 : Sl) =>
 L.load eL6 ((⟨b6, 0, none⟩ : Addr).add 1) fun (x24 : Sl) =>
 L.load eI6 ((⟨b6, 0, none⟩ : Addr).add 2) fun (x25 : Int) =>
 L.load (.agg [.slice, .slice]) (⟨b1, 0, none⟩) fun (x26 : Sl × Sl × Unit) =>
 L.call Pr z8C [.slice x23.a x23.len x23.cap, .slice x24.a x24.len x24.cap, .int .i64 (IntKind.wrap .i64 (p3 - x25)), .int .i64 p4] rL fun (x27 : Sl) =>
 L.chk (⟨b1, 0, none⟩) [.slice x26.1.a x26.1.len x26.1.cap, .slice x26.2.1.a x26.2.1.len x26.2.1.cap] <|
 L.call Pr z23 [.agg #[.slice x26.1.a x26.1.len x26.1.cap, .slice x26.2.1.a x26.2.1.len x26.2.1.cap]] (.one (.agg [.slice, .slice])) fun (x28 : Sl × Sl × Unit) =>
 L.store ((⟨b6, 0, none⟩ : Addr).add 4) [.slice x27.a x27.len x27.cap, .slice x28.2.1.a x28.2.1.len x28.2.1.cap] <|
 L.draw <|
 L.nonnil p0 fun a29 =>
 L.load (.one (.map)) (a29.add 0) fun (x30 : Option Nat) =>
 L.load (.agg lf11) (⟨b6, 0, none⟩) fun (x31 : pt17) =>
 L.semU Pr (Instr.mapUpdate z1G (.map x30) (.string p1) ((qa4 x31))) <|
 L.load (.agg [.slice, .slice]) ((⟨b6, 0, none⟩ : Addr).add 4) fun (x32 : Sl × Sl × Unit) =>
 L.call Pr z23 [.agg #[.slice x32.1.a x32.1.len x32.1.cap, .slice x32.2.1.a x32.2.1.len x32.2.1.cap]] (.one (.agg [.slice, .slice])) fun (x33 : Sl × Sl × Unit) =>
 L.store (⟨b2, 0, none⟩) [.slice x33.1.a x33.1.len x33.1.cap, .slice x33.2.1.a x33.2.1.len x33.2.1.cap] <|
 L.load (.agg [.slice, .slice]) (⟨b2, 0, none⟩) fun (x34 : Sl × Sl × Unit) =>
 K (.agg #[.slice x34.1.a x34.1.len x34.1.cap, .slice x34.2.1.a x34.2.1.len x34.2.1.cap])
theorem zcd (p0 : Option Addr) (p1 : ByteArray) (p2 : HT [.slice, .slice]) (p3 : Int) (p4 : Int) {K : Value → PT} {w : World} (h : z7W p0 p1 p2 p3 p4 K w) : CT Pr z5u [.pointer p0, .string p1, (.ag [.slice p2.1.a p2.1.len p2.1.cap, .slice p2.2.1.a p2.2.1.len p2.2.1.cap] : SV).toV, .int .i64 p3, .int .i64 p4] K w :=
 C_of (fn := Tryz.f94) (an := zco) (args := [.v (.pointer p0), .v (.string p1), .ag [.slice p2.1.a p2.1.len p2.1.cap, .slice p2.2.1.a p2.2.1.len p2.2.1.cap], .v (.int .i64 p3), .v (.int .i64 p4)]) (by kernel_rfl) (by kernel_rfl) (by kernel_rfl) h
def z8Y (p0 : Option Addr) (p1 : ByteArray) (K : Value → PT) : PT :=
 L.new [.string s_, .int .i64 0, .string s_, .int .i64 0, .int .i64 0, .int .i64 0, .int .i64 0, .int .i64 0] z0m fun b1 =>
 L.nonnil p0 fun a2 =>
 L.load (.one (.map)) (a2.add 0) fun (x3 : Option Nat) =>
 L.semR Pr (.tup [(.agg lf5), .one .bool]) (Instr.lookup z0j (.map x3) (.string p1) true) fun (x4 : pt6) =>
 L.new [.string s_, .int .i64 0, .string s_, .int .i64 0, .int .i64 0, .int .i64 0, .int .i64 0, .int .i64 0] z0m fun b5 =>
 L.store (⟨b5, 0, none⟩) [.string x4.1.1, .int .i64 x4.1.2.1, .string x4.1.2.2.1, .int .i64 x4.1.2.2.2.1, .int .i64 x4.1.2.2.2.2.1, .int .i64 x4.1.2.2.2.2.2.1, .int .i64 x4.1.2.2.2.2.2.2.1, .int .i64 x4.1.2.2.2.2.2.2.2.1] <|
 L.load (.agg lf5) (⟨b5, 0, none⟩) fun (x6 : pt14) =>
 L.store (⟨b1, 0, none⟩) [.string x6.1, .int .i64 x6.2.1, .string x6.2.2.1, .int .i64 x6.2.2.2.1, .int .i64 x6.2.2.2.2.1, .int .i64 x6.2.2.2.2.2.1, .int .i64 x6.2.2.2.2.2.2.1, .int .i64 x6.2.2.2.2.2.2.2.1] <|
 L.load (.agg lf5) (⟨b1, 0, none⟩) fun (x7 : pt14) =>
 K (.tuple #[(qa3 x7), .bool x4.2.1])
theorem zdr (p0 : Option Addr) (p1 : ByteArray) {K : Value → PT} {w : World} (h : z8Y p0 p1 K w) : CT Pr z3F [.pointer p0, .string p1] K w :=
 C_of (fn := Tryz.f95) (an := .auto) (args := [.v (.pointer p0), .v (.string p1)]) (by kernel_rfl) (by kernel_rfl) (by kernel_rfl) h
def za6 : Ann := (.seq .auto (.seq .auto (.seq (.seq .auto (.one [(7, (.one (.int .i64))), (14, (.one (.int .i64)))] (.seq .auto (.seq .auto (.seq .auto .auto (some [(7, (.one (.int .i64)))])) none) none)) none) .auto none) none) none)
def z6f (p0 : Option Addr) (p1 : ByteArray) (p2 : FV) (K : Value → PT) : PT :=
 L.call Pr z6y [.pointer p0, .string p1] rL fun (x1 : Sl) =>
 L.loop (Y := Int × Int × Unit) (0, 0, ()) fun y2 again3 =>
 L.ite (decide (y2.2.1 < ((x1.len : Nat) : Int))) (
  L.join (Y := Int × Unit) (fun k4 =>
   L.idx x1.a y2.2.1 x1.len 3 fun a6 =>
   L.load (.agg [.int .i64, .int .i64, .int .i64]) a6 fun (x7 : Int × Int × Int × Unit) =>
   L.new [.int .i64 0, .int .i64 0, .int .i64 0] z4a fun b8 =>
   L.store (⟨b8, 0, none⟩) [.int .i64 x7.1, .int .i64 x7.2.1, .int .i64 x7.2.2.1] <|
   L.load eI6 ((⟨b8, 0, none⟩ : Addr).add 1) fun (x9 : Int) =>
   L.callV Pr (.func p2.fn p2.fs p2.cs) [.int .i64 x9] rB fun (x10 : Bool) =>
   L.ite x10 (
    k4 (IntKind.wrap .i64 (y2.1 + 1), ())) <|
   k4 (y2.1, ())) fun z5 =>
  again3 (z5.1, IntKind.wrap .i64 (y2.2.1 + 1), ())) <|
 K (.int .i64 y2.1)
theorem z9Z (p0 : Option Addr) (p1 : ByteArray) (p2 : FV) {K : Value → PT} {w : World} (h : z6f p0 p1 p2 K w) : CT Pr z43 [.pointer p0, .string p1, .func p2.fn p2.fs p2.cs] K w :=
 C_of (fn := Tryz.f96) (an := za6) (args := [.v (.pointer p0), .v (.string p1), .v (.func p2.fn p2.fs p2.cs)]) (by kernel_rfl) (by kernel_rfl) (by kernel_rfl) h
def zbn : Ann := (.seq .auto (.seq .auto (.seq (.one [(8, (.one (.slice))), (10, (.one (.int .i64)))] (.seq (.seq .auto (.cond .auto .auto) none) .auto none)) (.seq (.one [(9, (.one (.slice))), (10, (.one (.int .i64)))] .auto) .auto none) (some [(8, (.one (.slice))), (10, (.one (.int .i64)))])) none) none)
def z7o (p0 : Option Addr) (p1 : ByteArray) (p2 : Int) (p3 : Int) (K : Value → PT) : PT :=
 L.call Pr z6v [.pointer p0, .string p1] rI fun (x1 : Int) =>
 L.join (Y := Sl × Int × Unit) (fun k2 =>
  L.loop (Y := Sl × Int × Unit) (⟨none, 0, 0⟩, x1, ()) fun y4 again5 =>
  L.draw <|
  L.ite (decide (y4.2.1 < p3)) (
   L.nonnil p0 fun a6 =>
   L.load (.one (.map)) (a6.add 0) fun (x7 : Option Nat) =>
   L.semR Pr rI (Builtin.len_ #[z0s] z0d #[.map x7]) fun (x8 : Int) =>
   L.nonnil p0 fun a9 =>
   L.load eI6 (a9.add 2) fun (x10 : Int) =>
   L.ite (decide (x8 < x10)) (
    L.nonnil p0 fun a11 =>
    L.load eI6 (a11.add 3) fun (x12 : Int) =>
    L.nonnil p0 fun a13 =>
    L.store (a13.add 3) [.int .i64 (IntKind.wrap .i64 (x12 + 1))] <|
    L.draw <|
    L.nonnil p0 fun a14 =>
    L.load (.one (.map)) (a14.add 0) fun (x15 : Option Nat) =>
    L.nonnil p0 fun a16 =>
    L.load eI6 (a16.add 3) fun (x17 : Int) =>
    L.call Pr ze8 [.int .i64 p2] rP fun (x18 : Option Addr) =>
    L.chk (a16.add 3) [.int .i64 x17] <|
    L.chk (a14.add 0) [.map x15] <|
    L.semU Pr (Instr.mapUpdate z0s (.map x15) (.int .i64 x17) (.agg #[.string p1, .pointer x18])) <|
    L.nonnil p0 fun a19 =>
    L.load eI6 (a19.add 3) fun (x20 : Int) =>
    L.new [.int .i64 x20] z0d fun b21 =>
    L.sem Pr (.one (.one .slice)) (Builtin.append_ #[z1i, z1i] z1i #[.slice y4.1.a y4.1.len y4.1.cap, .slice (some ⟨b21, 0, none⟩) 1 1]) fun (s22 : Sl) =>
    again5 (⟨s22.a, s22.len, s22.cap⟩, IntKind.wrap .i64 (y4.2.1 + 1), ())) <|
   k2 (⟨y4.1.a, y4.1.len, y4.1.cap⟩, y4.2.1, ())) <|
  k2 (⟨y4.1.a, y4.1.len, y4.1.cap⟩, y4.2.1, ())) fun z3 =>
 L.loop (Y := Sl × Int × Unit) (⟨none, 0, 0⟩, z3.2.1, ()) fun y23 again24 =>
 L.ite (decide (y23.2.1 > (if 0 > p3 then 0 else p3))) (
  L.call Pr z4Y [.pointer p0, .string p1] rI fun (x25 : Int) =>
  L.nonnil p0 fun a26 =>
  L.load (.one (.map)) (a26.add 0) fun (x27 : Option Nat) =>
  L.semR Pr (.one (.agg [.str, .ptr])) (Instr.lookup z0s (.map x27) (.int .i64 x25) false) fun (x28 : ByteArray × Option Addr × Unit) =>
  L.call Pr z79 [.pointer x28.2.1] rI fun (x29 : Int) =>
  L.call Pr z4n [.pointer p0, .int .i64 x25] (.tup []) fun (x30 : Unit) =>
  L.new [.int .i64 x25] z0d fun b31 =>
  L.sem Pr (.one (.one .slice)) (Builtin.append_ #[z1i, z1i] z1i #[.slice y23.1.a y23.1.len y23.1.cap, .slice (some ⟨b31, 0, none⟩) 1 1]) fun (s32 : Sl) =>
  again24 (⟨s32.a, s32.len, s32.cap⟩, IntKind.wrap .i64 (y23.2.1 - 1), ())) <|
 L.call Pr z0R [.slice z3.1.a z3.1.len z3.1.cap] rL fun (x33 : Sl) =>
 L.call Pr z0R [.slice y23.1.a y23.1.len y23.1.cap] rL fun (x34 : Sl) =>
 K (.tuple #[.slice x33.a x33.len x33.cap, .slice x34.a x34.len x34.cap])
theorem zbf (p0 : Option Addr) (p1 : ByteArray) (p2 : Int) (p3 : Int) {K : Value → PT} {w : World} (h : z7o p0 p1 p2 p3 K w) : CT Pr z4Z [.pointer p0, .string p1, .int .i64 p2, .int .i64 p3] K w :=
 C_of (fn := Tryz.f101) (an := zbn) (args := [.v (.pointer p0), .v (.string p1), .v (.int .i64 p2), .v (.int .i64 p3)]) (by kernel_rfl) (by kernel_rfl) (by kernel_rfl) h
def z5Q (p0 : Int) (K : Value → PT) : PT :=
 K (.bool (p0 != 3))
theorem z9e (p0 : Int) {K : Value → PT} {w : World} (h : z5Q p0 K w) : CT Pr z2K [.int .i64 p0] K w :=
 C_of (fn := Tryz.f102) (an := .auto) (args := [.v (.int .i64 p0)]) (by kernel_rfl) (by kernel_rfl) (by kernel_rfl) h
theorem z9b : Enters Pr z2K := z0o (by kernel_rfl)
def zeP : Ann := (.seq .auto (.seq .auto (.seq (.seq .auto (.seq .auto .auto (some [(12, (.one (.int .i64))), (13, (.one (.int .i64)))])) none) .auto none) none) none)
def z9N (p0 : Option Addr) (K : Value → PT) : PT :=
 L.call Pr z41 [.pointer p0] rI fun (x1 : Int) =>
 L.sem Pr (.one (.one .slice)) (Instr.makeSlice z1i (.int .i64 0) (.int .i64 x1)) fun (s2 : Sl) =>
 L.new [.slice none 0 0] z1i fun b3 =>
 L.store (⟨b3, 0, none⟩) [.slice s2.a s2.len s2.cap] <|
 L.nonnil p0 fun a4 =>
 L.call Pr z1Z [.pointer (some (a4.add 0))] (.one (.one (.func))) fun (x5 : FV) =>
 L.range Pr none (.func x5.fn x5.fs x5.cs) [eI6, eI6] (fun l6 (y7 : Int × Int × Unit) R8 =>
  L.begin Pr l6 <|
  L.load eL6 (⟨b3, 0, none⟩) fun (x11 : Sl) =>
  L.new [.int .i64 y7.1] z0d fun b12 =>
  L.sem Pr (.one (.one .slice)) (Builtin.append_ #[z1i, z1i] z1i #[.slice x11.a x11.len x11.cap, .slice (some ⟨b12, 0, none⟩) 1 1]) fun (s13 : Sl) =>
  L.store (⟨b3, 0, none⟩) [.slice s13.a s13.len s13.cap] <|
  L.endRound Pr l6 none R8) fun d9 j10 =>
 L.jump j10 (
  L.load eL6 (⟨b3, 0, none⟩) fun (x14 : Sl) =>
  L.unmark Pr (d9 ++ []) <|
  K (.slice x14.a x14.len x14.cap)) (
  L.unmark Pr (d9 ++ []) <|
  K (.slice none 0 0)) []
theorem zeJ (p0 : Option Addr) {K : Value → PT} {w : World} (h : z9N p0 K w) : CT Pr z5o [.pointer p0] K w :=
 C_of (fn := Tryz.f104) (an := zeP) (args := [.v (.pointer p0)]) (by kernel_rfl) (by kernel_rfl) (by kernel_rfl) h
def z3Q (p0 : Sl) (K : Value → PT) : PT :=
 L.ite ((p0.a).isNone) (
  K (.slice none 0 0)) <|
 L.new [] z0d fun b1 =>
 L.sem Pr (.one (.one .slice)) (Builtin.append_ #[z1i, z1i] z1i #[.slice (some ⟨b1, 0, none⟩) 0 0, .slice p0.a p0.len p0.cap]) fun (s2 : Sl) =>
 K (.slice s2.a s2.len s2.cap)
theorem z5V (p0 : Sl) {K : Value → PT} {w : World} (h : z3Q p0 K w) : CT Pr z0R [.slice p0.a p0.len p0.cap] K w :=
 C_of (fn := Tryz.f105) (an := .auto) (args := [.v (.slice p0.a p0.len p0.cap)]) (by kernel_rfl) (by kernel_rfl) (by kernel_rfl) h
def z1T : Ann := (.seq .auto (.seq .auto (.seq (.seq .auto (.one [(17, (.one (.int .i64)))] .auto) none) .auto none) none) none)
def z0W (p0 : Sl) (p1 : Sl) (p2 : FV) (K : Value → PT) : PT :=
 L.ite (((p0.len : Nat) : Int) != ((p1.len : Nat) : Int)) (
  K (.bool false)) <|
 L.loop (Y := Int × Unit) (0, ()) fun y1 again2 =>
 L.ite (decide (y1.1 < ((p0.len : Nat) : Int))) (
  L.idx p0.a y1.1 p0.len 3 fun a3 =>
  L.load (.agg [.str, .str, .int .i64]) a3 fun (x4 : pt9) =>
  L.new [.string s_, .string s_, .int .i64 0] z07 fun b5 =>
  L.store (⟨b5, 0, none⟩) [.string x4.1, .string x4.2.1, .int .i64 x4.2.2.1] <|
  L.idx p1.a y1.1 p1.len 3 fun a6 =>
  L.load (.agg [.str, .str, .int .i64]) a6 fun (x7 : pt9) =>
  L.new [.string s_, .string s_, .int .i64 0] z07 fun b8 =>
  L.store (⟨b8, 0, none⟩) [.string x7.1, .string x7.2.1, .int .i64 x7.2.2.1] <|
  L.load (.agg [.str, .str, .int .i64]) (⟨b5, 0, none⟩) fun (x9 : pt9) =>
  L.load (.agg [.str, .str, .int .i64]) (⟨b8, 0, none⟩) fun (x10 : pt9) =>
  L.callV Pr (.func p2.fn p2.fs p2.cs) [.agg #[.string x9.1, .string x9.2.1, .int .i64 x9.2.2.1], .agg #[.string x10.1, .string x10.2.1, .int .i64 x10.2.2.1]] rB fun (x11 : Bool) =>
  L.ite (!x11) (
   K (.bool false)) <|
  again2 (IntKind.wrap .i64 (y1.1 + 1), ())) <|
 K (.bool true)
theorem z1S (p0 : Sl) (p1 : Sl) (p2 : FV) {K : Value → PT} {w : World} (h : z0W p0 p1 p2 K w) : CT Pr z0B [.slice p0.a p0.len p0.cap, .slice p1.a p1.len p1.cap, .func p2.fn p2.fs p2.cs] K w :=
 C_of (fn := Tryz.f106) (an := z1T) (args := [.v (.slice p0.a p0.len p0.cap), .v (.slice p1.a p1.len p1.cap), .v (.func p2.fn p2.fs p2.cs)]) (by kernel_rfl) (by kernel_rfl) (by kernel_rfl) h
def zex (p0 : HT [.str, .str, .int .i64]) (p1 : HT [.str, .str, .int .i64]) (K : Value → PT) : PT :=
 L.new [.string p0.1, .string p0.2.1, .int .i64 p0.2.2.1] z07 fun b1 =>
 L.new [.string p1.1, .string p1.2.1, .int .i64 p1.2.2.1] z07 fun b2 =>
 L.load (.agg [.str, .str, .int .i64]) (⟨b1, 0, none⟩) fun (x3 : pt9) =>
 L.load (.agg [.str, .str, .int .i64]) (⟨b2, 0, none⟩) fun (x4 : pt9) =>
 L.chkSem Pr (do eqGuard .eql z07 (.tmp 0) (.tmp 0) (.agg #[.string x3.1, .string x3.2.1, .int .i64 x3.2.2.1]) (.agg #[.string x4.1, .string x4.2.1, .int .i64 x4.2.2.1]); binOp .eql z07 (.agg #[.string x3.1, .string x3.2.1, .int .i64 x3.2.2.1]) (.agg #[.string x4.1, .string x4.2.1, .int .i64 x4.2.2.1])) (.bool ((x3.1 == x4.1) && ((x3.2.1 == x4.2.1) && ((x3.2.2.1 == x4.2.2.1) && true)))) <|
 K (.bool ((x3.1 == x4.1) && ((x3.2.1 == x4.2.1) && ((x3.2.2.1 == x4.2.2.1) && true))))
theorem ziG (p0 : HT [.str, .str, .int .i64]) (p1 : HT [.str, .str, .int .i64]) {K : Value → PT} {w : World} (h : zex p0 p1 K w) : CT Pr z78 [(.ag [.string p0.1, .string p0.2.1, .int .i64 p0.2.2.1] : SV).toV, (.ag [.string p1.1, .string p1.2.1, .int .i64 p1.2.2.1] : SV).toV] K w :=
 C_of (fn := Tryz.f107) (an := .auto) (args := [.ag [.string p0.1, .string p0.2.1, .int .i64 p0.2.2.1], .ag [.string p1.1, .string p1.2.1, .int .i64 p1.2.2.1]]) (by kernel_rfl) (by kernel_rfl) (by kernel_rfl) h
theorem ziE : Enters Pr z78 := z0o (by kernel_rfl)
def z8O (p0 : ByteArray) (K : Value → PT) : PT :=
 L.call Pr z77 [.string p0, .string s__] rI fun (x1 : Int) =>
 L.ite (decide (x1 < 0)) (
  K (.tuple #[.string s_, .int .i64 0, .bool false])) <|
 L.guard ((0 : Int) ≤ (IntKind.wrap .i64 (x1 + 1)) ∧ (IntKind.wrap .i64 (x1 + 1)) ≤ (p0.size : Int) ∧ (p0.size : Int) ≤ p0.size) <|
 L.call Pr zaH [.string (p0.extract (Int.toNat (IntKind.wrap .i64 (x1 + 1))) (Int.toNat (p0.size : Int)))] (.tup [eI6, (.one (.iface))]) fun (x2 : pt18) =>
 L.ite (!(x2.2.1).isNone) (
  K (.tuple #[.string s_, .int .i64 0, .bool false])) <|
 L.guard ((0 : Int) ≤ 0 ∧ 0 ≤ x1 ∧ x1 ≤ p0.size) <|
 L.call Pr z8F [.string (p0.extract (Int.toNat 0) (Int.toNat x1)), .int .i64 x2.1] rS fun (x3 : ByteArray) =>
 L.ite (!(x3.toList == p0.toList)) (
  K (.tuple #[.string s_, .int .i64 0, .bool false])) <|
 L.guard ((0 : Int) ≤ 0 ∧ 0 ≤ x1 ∧ x1 ≤ p0.size) <|
 K (.tuple #[.string (p0.extract (Int.toNat 0) (Int.toNat x1)), .int .i64 x2.1, .bool true])
theorem zce (p0 : ByteArray) {K : Value → PT} {w : World} (h : z8O p0 K w) : CT Pr z4m [.string p0] K w :=
 C_of (fn := Tryz.f108) (an := .auto) (args := [.v (.string p0)]) (by kernel_rfl) (by kernel_rfl) (by kernel_rfl) h
def zde (p0 : ByteArray) (K : Value → PT) : PT :=
 L.call Pr z6M [.string p0, .int .i64 16] rB fun (x1 : Bool) =>
 K (.bool x1)
theorem zi2 (p0 : ByteArray) {K : Value → PT} {w : World} (h : zde p0 K w) : CT Pr z47 [.string p0] K w :=
 C_of (fn := Tryz.f109) (an := .auto) (args := [.v (.string p0)]) (by kernel_rfl) (by kernel_rfl) (by kernel_rfl) h
def zgN : Ann := (.seq .auto (.seq .auto (.seq (.seq .auto (.one [(5, (.one (.int .i32)))] (.seq .auto (.seq (.cond .auto .auto) (.seq .auto (.seq (.seq .auto (.cond .auto .auto) none) .auto (some [])) none) none) none)) none) .auto none) none) none)
def zc2 (p0 : ByteArray) (p1 : Int) (K : Value → PT) : PT :=
 L.sem Pr (.one (.one .ptr)) (Instr.range z00 (.string p0)) fun (it1 : Option Addr) =>
 L.loop (Y := Int × Unit) (45, ()) fun y2 again3 =>
 L.next Pr [eI6, (.one (.int .i32))] (Instr.next (.pointer it1) true T_) (
  L.ite (y2.1 != 45) (
   K (.bool (decide ((p0.size : Int) ≤ p1)))) <|
  K (.bool false)) fun (x4 : Int × Int × Unit) =>
 L.join (Y := Unit) (fun k5 =>
  L.call Pr z9x [.int .i32 x4.2.1] rB fun (x7 : Bool) =>
  L.ite (!x7) (
   K (.bool false)) <|
  L.ite (x4.1 == 0) (
   L.call Pr z65 [.int .i32 x4.2.1] rB fun (x8 : Bool) =>
   L.ite (!x8) (
    K (.bool false)) <|
   k5 (())) <|
  k5 (())) fun z6 =>
 again3 (x4.2.1, ())
theorem zgB (p0 : ByteArray) (p1 : Int) {K : Value → PT} {w : World} (h : zc2 p0 p1 K w) : CT Pr z6M [.string p0, .int .i64 p1] K w :=
 C_of (fn := Tryz.f110) (an := zgN) (args := [.v (.string p0), .v (.int .i64 p1)]) (by kernel_rfl) (by kernel_rfl) (by kernel_rfl) h
def z7j (p0 : HT [.int .i64, .int .i64]) (p1 : Int) (K : Value → PT) : PT :=
 L.new [.int .i64 p0.1, .int .i64 p0.2.1] zeq fun b1 =>
 L.load eI6 ((⟨b1, 0, none⟩ : Addr).add 0) fun (x2 : Int) =>
 L.ite (decide (p1 ≥ x2)) (
  L.load eI6 ((⟨b1, 0, none⟩ : Addr).add 1) fun (x3 : Int) =>
  K (.bool (decide (p1 ≤ x3)))) <|
 K (.bool false)
theorem za3 (p0 : HT [.int .i64, .int .i64]) (p1 : Int) {K : Value → PT} {w : World} (h : z7j p0 p1 K w) : CT Pr z1f [(.ag [.int .i64 p0.1, .int .i64 p0.2.1] : SV).toV, .int .i64 p1] K w :=
 C_of (fn := Tryz.f111) (an := .auto) (args := [.ag [.int .i64 p0.1, .int .i64 p0.2.1], .v (.int .i64 p1)]) (by kernel_rfl) (by kernel_rfl) (by kernel_rfl) h
theorem zeF : Enters Pr z1f := z0o (by kernel_rfl)
def zgJ : Ann := (.seq .auto (.seq .auto (.seq .auto (.seq (.seq (.seq .auto (.cond .auto .auto) none) .auto (some [(16, (.one (.bool)))])) .auto none) none) none) none)
def zbV (p0 : HT [.str, .str, .int .i64]) (K : Value → PT) : PT :=
 L.new [.string p0.1, .string p0.2.1, .int .i64 p0.2.2.1] z07 fun b1 =>
 L.load eS6 ((⟨b1, 0, none⟩ : Addr).add 0) fun (x2 : ByteArray) =>
 L.call Pr z4m [.string x2] (.tup [eS6, eI6, eB6]) fun (x3 : ByteArray × Int × Bool × Unit) =>
 L.join (Y := Bool × Unit) (fun k4 =>
  L.load eS6 ((⟨b1, 0, none⟩ : Addr).add 0) fun (x6 : ByteArray) =>
  L.ite (!(x6.toList == s_.toList)) (
   L.ite (!x3.2.2.1) (
    k4 (!x3.2.2.1, ())) <|
   L.load eS6 ((⟨b1, 0, none⟩ : Addr).add 1) fun (x7 : ByteArray) =>
   L.ite (!(x7.toList == s_.toList)) (
    L.load eS6 ((⟨b1, 0, none⟩ : Addr).add 1) fun (x8 : ByteArray) =>
    L.call Pr z3u [.string x8] rB fun (x9 : Bool) =>
    k4 (!x9, ())) <|
   k4 (false, ())) <|
  L.load eS6 ((⟨b1, 0, none⟩ : Addr).add 1) fun (x10 : ByteArray) =>
  L.ite (!(x10.toList == s_.toList)) (
   L.load eS6 ((⟨b1, 0, none⟩ : Addr).add 1) fun (x11 : ByteArray) =>
   L.call Pr z3u [.string x11] rB fun (x12 : Bool) =>
   k4 (!x12, ())) <|
  k4 (false, ())) fun z5 =>
 L.ite z5.1 (
  K (.int .i64 1)) <|
 L.load eI6 ((⟨b1, 0, none⟩ : Addr).add 2) fun (x13 : Int) =>
 L.callV Pr (.func (.func z1f) #[.agg #[.int .i64 0, .int .i64 100]] #[]) [.int .i64 x13] rB fun (x14 : Bool) =>
 L.ite (!x14) (
  K (.int .i64 2)) <|
 K (.int .i64 0)
theorem zgu (p0 : HT [.str, .str, .int .i64]) {K : Value → PT} {w : World} (h : zbV p0 K w) : CT Pr z8A [(.ag [.string p0.1, .string p0.2.1, .int .i64 p0.2.2.1] : SV).toV] K w :=
 C_of (fn := Tryz.f112) (an := zgJ) (args := [.ag [.string p0.1, .string p0.2.1, .int .i64 p0.2.2.1]]) (by kernel_rfl) (by kernel_rfl) (by kernel_rfl) h
def zkL : Ann := (.seq .auto (.seq .auto (.seq (.seq .auto (.one [(3, (.one (.int .i64))), (8, (.one (.int .i64)))] (.seq .auto (.seq .auto (.seq (.seq .auto (.seq .auto (.seq .auto (.cond .auto .auto) none) none) none) .auto (some [(3, (.one (.int .i64)))])) none) none)) none) .auto none) none) none)
def zfw (p0 : Sl) (K : Value → PT) : PT :=
 L.loop (Y := Int × Int × Unit) (0, 0, ()) fun y1 again2 =>
 L.ite (decide (y1.2.1 < ((p0.len : Nat) : Int))) (
  L.join (Y := Int × Unit) (fun k3 =>
   L.idx p0.a y1.2.1 p0.len 3 fun a5 =>
   L.load (.agg [.str, .str, .int .i64]) a5 fun (x6 : pt9) =>
   L.new [.string s_, .string s_, .int .i64 0] z07 fun b7 =>
   L.store (⟨b7, 0, none⟩) [.string x6.1, .string x6.2.1, .int .i64 x6.2.2.1] <|
   L.load eI6 ((⟨b7, 0, none⟩ : Addr).add 2) fun (x8 : Int) =>
   L.load eS6 ((⟨b7, 0, none⟩ : Addr).add 1) fun (x9 : ByteArray) =>
   L.ite (!(x9.toList == s_.toList)) (
    L.guard (0 ≤ (0 : Int) ∧ (0 : Int) ≤ y1.2.1 ∧ y1.2.1 ≤ ((p0.cap : Nat) : Int) ∧ ((p0.cap : Nat) : Int) ≤ p0.cap) <|
    L.call Pr z19 [.slice (if Int.toNat ((p0.cap : Nat) : Int) = Int.toNat (0 : Int) then p0.a else Option.map (fun a : Addr => a.add (Int.toNat (0 : Int) * 3)) p0.a) (Int.toNat y1.2.1 - Int.toNat (0 : Int)) (Int.toNat ((p0.cap : Nat) : Int) - Int.toNat (0 : Int)), .func (.func z5c) #[] #[.pointer (some (⟨b7, 0, none⟩))]] rB fun (x10 : Bool) =>
    L.ite x10 (
     K (.int .i64 5)) <|
    k3 (IntKind.wrap .i64 (y1.1 + x8), ())) <|
   k3 (IntKind.wrap .i64 (y1.1 + x8), ())) fun z4 =>
  again2 (z4.1, IntKind.wrap .i64 (y1.2.1 + 1), ())) <|
 L.ite (y1.1 != 100) (
  K (.int .i64 4)) <|
 K (.int .i64 0)
theorem zkE (p0 : Sl) {K : Value → PT} {w : World} (h : zfw p0 K w) : CT Pr zcC [.slice p0.a p0.len p0.cap] K w :=
 C_of (fn := Tryz.f113) (an := zkL) (args := [.v (.slice p0.a p0.len p0.cap)]) (by kernel_rfl) (by kernel_rfl) (by kernel_rfl) h
def z7A : Ann := (.seq .auto (.seq .auto (.seq (.seq .auto (.cond .auto (.seq .auto (.cond .auto .auto) none)) none) .auto (some [])) none) none)
def z4e (p0 : Option Addr) (p1 : ByteArray) (p2 : Int) (p3 : Bool) (K : Value → PT) : PT :=
 L.nonnil p0 fun a1 =>
 L.load (.one (.map)) (a1.add 0) fun (x2 : Option Nat) =>
 L.semR Pr (.one (.agg lf9)) (Instr.lookup z0r (.map x2) (.string p1) false) fun (x3 : pt19) =>
 L.new [.string s_, .int .i64 0, .int .i64 0, .int .i64 0, .int .i64 0, .int .i64 0, .int .i64 0, .int .i64 0, .bool false] z09 fun b4 =>
 L.store (⟨b4, 0, none⟩) [.string x3.1, .int .i64 x3.2.1, .int .i64 x3.2.2.1, .int .i64 x3.2.2.2.1, .int .i64 x3.2.2.2.2.1, .int .i64 x3.2.2.2.2.2.1, .int .i64 x3.2.2.2.2.2.2.1, .int .i64 x3.2.2.2.2.2.2.2.1, .bool x3.2.2.2.2.2.2.2.2.1] <|
 L.join (Y := Unit) (fun k5 =>
  L.ite p3 (
   L.ite (p2 == 0) (
    L.load eB6 ((⟨b4, 0, none⟩ : Addr).add 8) fun (x7 : Bool) =>
    L.ite x7 (
     K (.int .i64 5)) <|
    L.ite p3 (
     L.ite (p2 == 0) (
      K (.int .i64 0)) <|
     L.load eB6 ((⟨b4, 0, none⟩ : Addr).add 8) fun (x8 : Bool) =>
     L.ite (!x8) (
      K (.int .i64 6)) <|
     L.load eI6 ((⟨b4, 0, none⟩ : Addr).add 6) fun (x9 : Int) =>
     L.ite (x9 != p2) (
      K (.int .i64 7)) <|
     k5 (())) <|
    L.load eB6 ((⟨b4, 0, none⟩ : Addr).add 8) fun (x10 : Bool) =>
    L.ite (!x10) (
     K (.int .i64 6)) <|
    L.load eI6 ((⟨b4, 0, none⟩ : Addr).add 6) fun (x11 : Int) =>
    L.ite (x11 != p2) (
     K (.int .i64 7)) <|
    k5 (())) <|
   L.ite p3 (
    L.ite (p2 == 0) (
     K (.int .i64 0)) <|
    L.load eB6 ((⟨b4, 0, none⟩ : Addr).add 8) fun (x12 : Bool) =>
    L.ite (!x12) (
     K (.int .i64 6)) <|
    L.load eI6 ((⟨b4, 0, none⟩ : Addr).add 6) fun (x13 : Int) =>
    L.ite (x13 != p2) (
     K (.int .i64 7)) <|
    k5 (())) <|
   L.load eB6 ((⟨b4, 0, none⟩ : Addr).add 8) fun (x14 : Bool) =>
   L.ite (!x14) (
    K (.int .i64 6)) <|
   L.load eI6 ((⟨b4, 0, none⟩ : Addr).add 6) fun (x15 : Int) =>
   L.ite (x15 != p2) (
    K (.int .i64 7)) <|
   k5 (())) <|
  L.ite p3 (
   L.ite (p2 == 0) (
    K (.int .i64 0)) <|
   L.load eB6 ((⟨b4, 0, none⟩ : Addr).add 8) fun (x16 : Bool) =>
   L.ite (!x16) (
    K (.int .i64 6)) <|
   L.load eI6 ((⟨b4, 0, none⟩ : Addr).add 6) fun (x17 : Int) =>
   L.ite (x17 != p2) (
    K (.int .i64 7)) <|
   k5 (())) <|
  L.load eB6 ((⟨b4, 0, none⟩ : Addr).add 8) fun (x18 : Bool) =>
  L.ite (!x18) (
   K (.int .i64 6)) <|
  L.load eI6 ((⟨b4, 0, none⟩ : Addr).add 6) fun (x19 : Int) =>
  L.ite (x19 != p2) (
   K (.int .i64 7)) <|
  k5 (())) fun z6 =>
 K (.int .i64 0)
theorem z7w (p0 : Option Addr) (p1 : ByteArray) (p2 : Int) (p3 : Bool) {K : Value → PT} {w : World} (h : z4e p0 p1 p2 p3 K w) : CT Pr z2C [.pointer p0, .string p1, .int .i64 p2, .bool p3] K w :=
 C_of (fn := Tryz.f118) (an := z7A) (args := [.v (.pointer p0), .v (.string p1), .v (.int .i64 p2), .v (.bool p3)]) (by kernel_rfl) (by kernel_rfl) (by kernel_rfl) h
def z7z : Ann := (.seq .auto (.seq .auto (.seq .auto .auto (some [])) none) none)
def z4d (p0 : Option Addr) (p1 : ByteArray) (p2 : ht0) (p3 : Int) (K : Value → PT) : PT :=
 L.new [.string p2.1, .int .i64 p2.2.1, .int .i64 p2.2.2.1, .int .i64 p2.2.2.2.1, .int .i64 p2.2.2.2.2.1, .int .i64 p2.2.2.2.2.2.1] z0g fun b1 =>
 L.nonnil p0 fun a2 =>
 L.load (.one (.map)) (a2.add 0) fun (x3 : Option Nat) =>
 L.semR Pr (.one (.agg lf9)) (Instr.lookup z0r (.map x3) (.string p1) false) fun (x4 : pt19) =>
 L.new [.string s_, .int .i64 0, .int .i64 0, .int .i64 0, .int .i64 0, .int .i64 0, .int .i64 0, .int .i64 0, .bool false] z09 fun b5 =>
 L.store (⟨b5, 0, none⟩) [.string x4.1, .int .i64 x4.2.1, .int .i64 x4.2.2.1, .int .i64 x4.2.2.2.1, .int .i64 x4.2.2.2.2.1, .int .i64 x4.2.2.2.2.2.1, .int .i64 x4.2.2.2.2.2.2.1, .int .i64 x4.2.2.2.2.2.2.2.1, .bool x4.2.2.2.2.2.2.2.2.1] <|
 L.join (Y := Unit) (fun k6 =>
  L.draw <|
  L.load eB6 ((⟨b5, 0, none⟩ : Addr).add 8) fun (x8 : Bool) =>
  L.ite (!x8) (
   L.load eI6 ((⟨b5, 0, none⟩ : Addr).add 7) fun (x9 : Int) =>
   L.store ((⟨b5, 0, none⟩ : Addr).add 7) [.int .i64 (IntKind.wrap .i64 (x9 + 1))] <|
   k6 (())) <|
  L.nonnil p0 fun a10 =>
  L.load (.one (.func)) (a10.add 1) fun (x11 : FV) =>
  L.load (.agg lf0) ((⟨b5, 0, none⟩ : Addr).add 0) fun (x12 : pt0) =>
  L.load (.agg lf0) (⟨b1, 0, none⟩) fun (x13 : pt0) =>
  L.callV Pr (.func x11.fn x11.fs x11.cs) [(qa0 x12), (qa0 x13)] rB fun (x14 : Bool) =>
  L.ite (!x14) (
   L.load eI6 ((⟨b5, 0, none⟩ : Addr).add 7) fun (x15 : Int) =>
   L.store ((⟨b5, 0, none⟩ : Addr).add 7) [.int .i64 (IntKind.wrap .i64 (x15 + 1))] <|
   k6 (())) <|
  k6 (())) fun z7 =>
 L.draw <|
 L.nonnil p0 fun a16 =>
 L.load (.one (.map)) (a16.add 0) fun (x17 : Option Nat) =>
 L.load (.agg lf0) (⟨b1, 0, none⟩) fun (x18 : pt0) =>
 L.load eI6 ((⟨b5, 0, none⟩ : Addr).add 7) fun (x19 : Int) =>
 L.semU Pr (Instr.mapUpdate z0r (.map x17) (.string p1) (.agg #[.string x18.1, .int .i64 x18.2.1, .int .i64 x18.2.2.1, .int .i64 x18.2.2.2.1, .int .i64 x18.2.2.2.2.1, .int .i64 x18.2.2.2.2.2.1, .int .i64 p3, .int .i64 x19, .bool true])) <|
 K (.tuple #[])
theorem z7v (p0 : Option Addr) (p1 : ByteArray) (p2 : ht0) (p3 : Int) {K : Value → PT} {w : World} (h : z4d p0 p1 p2 p3 K w) : CT Pr z2B [.pointer p0, .string p1, (.ag (qc0 p2) : SV).toV, .int .i64 p3] K w :=
 C_of (fn := Tryz.f119) (an := z7z) (args := [.v (.pointer p0), .v (.string p1), .ag (qc0 p2), .v (.int .i64 p3)]) (by kernel_rfl) (by kernel_rfl) (by kernel_rfl) h
def z7J : Ann := (.seq .auto (.seq .auto (.seq (.seq .auto (.cond .auto (.seq .auto (.cond .auto .auto) none)) none) .auto (some [])) none) none)
def z4w (p0 : Option Addr) (p1 : ByteArray) (p2 : Int) (p3 : Bool) (K : Value → PT) : PT :=
 L.nonnil p0 fun a1 =>
 L.load (.one (.map)) (a1.add 0) fun (x2 : Option Nat) =>
 L.semR Pr (.one (.agg lf10)) (Instr.lookup z0x (.map x2) (.string p1) false) fun (x3 : pt20) =>
 L.new [.string s_, .string s_, .slice none 0 0, .int .i64 0, .int .i64 0, .int .i64 0, .bool false] z0h fun b4 =>
 L.store (⟨b4, 0, none⟩) [.string x3.1, .string x3.2.1, .slice x3.2.2.1.a x3.2.2.1.len x3.2.2.1.cap, .int .i64 x3.2.2.2.1, .int .i64 x3.2.2.2.2.1, .int .i64 x3.2.2.2.2.2.1, .bool x3.2.2.2.2.2.2.1] <|
 L.join (Y := Unit) (fun k5 =>
  L.ite p3 (
   L.ite (p2 == 0) (
    L.load eB6 ((⟨b4, 0, none⟩ : Addr).add 6) fun (x7 : Bool) =>
    L.ite x7 (
     K (.int .i64 5)) <|
    L.ite p3 (
     L.ite (p2 == 0) (
      K (.int .i64 0)) <|
     L.load eB6 ((⟨b4, 0, none⟩ : Addr).add 6) fun (x8 : Bool) =>
     L.ite (!x8) (
      K (.int .i64 6)) <|
     L.load eI6 ((⟨b4, 0, none⟩ : Addr).add 4) fun (x9 : Int) =>
     L.ite (x9 != p2) (
      K (.int .i64 7)) <|
     k5 (())) <|
    L.load eB6 ((⟨b4, 0, none⟩ : Addr).add 6) fun (x10 : Bool) =>
    L.ite (!x10) (
     K (.int .i64 6)) <|
    L.load eI6 ((⟨b4, 0, none⟩ : Addr).add 4) fun (x11 : Int) =>
    L.ite (x11 != p2) (
     K (.int .i64 7)) <|
    k5 (())) <|
   L.ite p3 (
    L.ite (p2 == 0) (
     K (.int .i64 0)) <|
    L.load eB6 ((⟨b4, 0, none⟩ : Addr).add 6) fun (x12 : Bool) =>
    L.ite (!x12) (
     K (.int .i64 6)) <|
    L.load eI6 ((⟨b4, 0, none⟩ : Addr).add 4) fun (x13 : Int) =>
    L.ite (x13 != p2) (
     K (.int .i64 7)) <|
    k5 (())) <|
   L.load eB6 ((⟨b4, 0, none⟩ : Addr).add 6) fun (x14 : Bool) =>
   L.ite (!x14) (
    K (.int .i64 6)) <|
   L.load eI6 ((⟨b4, 0, none⟩ : Addr).add 4) fun (x15 : Int) =>
   L.ite (x15 != p2) (
    K (.int .i64 7)) <|
   k5 (())) <|
  L.ite p3 (
   L.ite (p2 == 0) (
    K (.int .i64 0)) <|
   L.load eB6 ((⟨b4, 0, none⟩ : Addr).add 6) fun (x16 : Bool) =>
   L.ite (!x16) (
    K (.int .i64 6)) <|
   L.load eI6 ((⟨b4, 0, none⟩ : Addr).add 4) fun (x17 : Int) =>
   L.ite (x17 != p2) (
    K (.int .i64 7)) <|
   k5 (())) <|
  L.load eB6 ((⟨b4, 0, none⟩ : Addr).add 6) fun (x18 : Bool) =>
  L.ite (!x18) (
   K (.int .i64 6)) <|
  L.load eI6 ((⟨b4, 0, none⟩ : Addr).add 4) fun (x19 : Int) =>
  L.ite (x19 != p2) (
   K (.int .i64 7)) <|
  k5 (())) fun z6 =>
 K (.int .i64 0)
theorem z7E (p0 : Option Addr) (p1 : ByteArray) (p2 : Int) (p3 : Bool) {K : Value → PT} {w : World} (h : z4w p0 p1 p2 p3 K w) : CT Pr z2R [.pointer p0, .string p1, .int .i64 p2, .bool p3] K w :=
 C_of (fn := Tryz.f120) (an := z7J) (args := [.v (.pointer p0), .v (.string p1), .v (.int .i64 p2), .v (.bool p3)]) (by kernel_rfl) (by kernel_rfl) (by kernel_rfl) h
def z7I : Ann := (.seq .auto (.seq .auto (.seq .auto .auto (some [])) none) none)
def z4v (p0 : Option Addr) (p1 : ByteArray) (p2 : ht2) (p3 : Int) (K : Value → PT) : PT :=
 L.new [.string p2.1, .string p2.2.1, .slice p2.2.2.1.a p2.2.2.1.len p2.2.2.1.cap, .int .i64 p2.2.2.2.1] z0p fun b1 =>
 L.nonnil p0 fun a2 =>
 L.load (.one (.map)) (a2.add 0) fun (x3 : Option Nat) =>
 L.semR Pr (.one (.agg lf10)) (Instr.lookup z0x (.map x3) (.string p1) false) fun (x4 : pt20) =>
 L.new [.string s_, .string s_, .slice none 0 0, .int .i64 0, .int .i64 0, .int .i64 0, .bool false] z0h fun b5 =>
 L.store (⟨b5, 0, none⟩) [.string x4.1, .string x4.2.1, .slice x4.2.2.1.a x4.2.2.1.len x4.2.2.1.cap, .int .i64 x4.2.2.2.1, .int .i64 x4.2.2.2.2.1, .int .i64 x4.2.2.2.2.2.1, .bool x4.2.2.2.2.2.2.1] <|
 L.join (Y := Unit) (fun k6 =>
  L.draw <|
  L.load eB6 ((⟨b5, 0, none⟩ : Addr).add 6) fun (x8 : Bool) =>
  L.ite (!x8) (
   L.load eI6 ((⟨b5, 0, none⟩ : Addr).add 5) fun (x9 : Int) =>
   L.store ((⟨b5, 0, none⟩ : Addr).add 5) [.int .i64 (IntKind.wrap .i64 (x9 + 1))] <|
   k6 (())) <|
  L.nonnil p0 fun a10 =>
  L.load (.one (.func)) (a10.add 1) fun (x11 : FV) =>
  L.load (.agg [.str, .str, .slice, .int .i64]) ((⟨b5, 0, none⟩ : Addr).add 0) fun (x12 : pt3) =>
  L.load (.agg [.str, .str, .slice, .int .i64]) (⟨b1, 0, none⟩) fun (x13 : pt3) =>
  L.callV Pr (.func x11.fn x11.fs x11.cs) [.agg #[.string x12.1, .string x12.2.1, .slice x12.2.2.1.a x12.2.2.1.len x12.2.2.1.cap, .int .i64 x12.2.2.2.1], .agg #[.string x13.1, .string x13.2.1, .slice x13.2.2.1.a x13.2.2.1.len x13.2.2.1.cap, .int .i64 x13.2.2.2.1]] rB fun (x14 : Bool) =>
  L.ite (!x14) (
   L.load eI6 ((⟨b5, 0, none⟩ : Addr).add 5) fun (x15 : Int) =>
   L.store ((⟨b5, 0, none⟩ : Addr).add 5) [.int .i64 (IntKind.wrap .i64 (x15 + 1))] <|
   k6 (())) <|
  k6 (())) fun z7 =>
 L.draw <|
 L.nonnil p0 fun a16 =>
 L.load (.one (.map)) (a16.add 0) fun (x17 : Option Nat) =>
 L.load (.agg [.str, .str, .slice, .int .i64]) (⟨b1, 0, none⟩) fun (x18 : pt3) =>
 L.load eI6 ((⟨b5, 0, none⟩ : Addr).add 5) fun (x19 : Int) =>
 L.semU Pr (Instr.mapUpdate z0x (.map x17) (.string p1) (.agg #[.string x18.1, .string x18.2.1, .slice x18.2.2.1.a x18.2.2.1.len x18.2.2.1.cap, .int .i64 x18.2.2.2.1, .int .i64 p3, .int .i64 x19, .bool true])) <|
 K (.tuple #[])
theorem z7D (p0 : Option Addr) (p1 : ByteArray) (p2 : ht2) (p3 : Int) {K : Value → PT} {w : World} (h : z4v p0 p1 p2 p3 K w) : CT Pr z2Q [.pointer p0, .string p1, (.ag (qc2 p2) : SV).toV, .int .i64 p3] K w :=
 C_of (fn := Tryz.f121) (an := z7I) (args := [.v (.pointer p0), .v (.string p1), .ag (qc2 p2), .v (.int .i64 p3)]) (by kernel_rfl) (by kernel_rfl) (by kernel_rfl) h
def zey (p0 : ht2) (K : Value → PT) : PT :=
 L.new [.string p0.1, .string p0.2.1, .slice p0.2.2.1.a p0.2.2.1.len p0.2.2.1.cap, .int .i64 p0.2.2.2.1] z0p fun b1 =>
 L.new [.string s_, .string s_, .slice none 0 0, .int .i64 0] z0p fun b2 =>
 L.load eL6 ((⟨b1, 0, none⟩ : Addr).add 2) fun (x3 : Sl) =>
 L.call Pr z1A [.slice x3.a x3.len x3.cap] rL fun (x4 : Sl) =>
 L.store ((⟨b1, 0, none⟩ : Addr).add 2) [.slice x4.a x4.len x4.cap] <|
 L.load (.agg [.str, .str, .slice, .int .i64]) (⟨b1, 0, none⟩) fun (x5 : pt3) =>
 L.store (⟨b2, 0, none⟩) [.string x5.1, .string x5.2.1, .slice x5.2.2.1.a x5.2.2.1.len x5.2.2.1.cap, .int .i64 x5.2.2.2.1] <|
 L.load (.agg [.str, .str, .slice, .int .i64]) (⟨b2, 0, none⟩) fun (x6 : pt3) =>
 K (.agg #[.string x6.1, .string x6.2.1, .slice x6.2.2.1.a x6.2.2.1.len x6.2.2.1.cap, .int .i64 x6.2.2.2.1])
theorem ziH (p0 : ht2) {K : Value → PT} {w : World} (h : zey p0 K w) : CT Pr z8B [(.ag (qc2 p0) : SV).toV] K w :=
 C_of (fn := Tryz.f122) (an := .auto) (args := [.ag (qc2 p0)]) (by kernel_rfl) (by kernel_rfl) (by kernel_rfl) h
def z6h (p0 : Option Addr) (p1 : ByteArray) (K : Value → PT) : PT :=
 L.new [.slice none 0 0, .slice none 0 0] z03 fun b1 =>
 L.nonnil p0 fun a2 =>
 L.load eP6 (a2.add 2) fun (x3 : Option Addr) =>
 L.call Pr z4X [.pointer x3, .string p1] (.tup [(.agg [.slice, .slice]), eB6]) fun (x4 : (Sl × Sl × Unit) × Bool × Unit) =>
 L.store (⟨b1, 0, none⟩) [.slice x4.1.1.a x4.1.1.len x4.1.1.cap, .slice x4.1.2.1.a x4.1.2.1.len x4.1.2.1.cap] <|
 L.load (.agg [.slice, .slice]) (⟨b1, 0, none⟩) fun (x5 : Sl × Sl × Unit) =>
 K (.tuple #[.agg #[.slice x5.1.a x5.1.len x5.1.cap, .slice x5.2.1.a x5.2.1.len x5.2.1.cap], .bool x4.2.1])
theorem za1 (p0 : Option Addr) (p1 : ByteArray) {K : Value → PT} {w : World} (h : z6h p0 p1 K w) : CT Pr z6c [.pointer p0, .string p1] K w :=
 C_of (fn := Tryz.f125) (an := .auto) (args := [.v (.pointer p0), .v (.string p1)]) (by kernel_rfl) (by kernel_rfl) (by kernel_rfl) h
def zi6 : Ann := (.seq .auto (.seq .auto (.seq (.seq .auto (.one [(1, (.one (.int .i64))), (14, (.one (.int .i64)))] .auto) none) .auto none) none) none)
def zd7 (p0 : HT [.slice, .slice]) (p1 : Int) (K : Value → PT) : PT :=
 L.new [.slice p0.1.a p0.1.len p0.1.cap, .slice p0.2.1.a p0.2.1.len p0.2.1.cap] z03 fun b1 =>
 L.guard (100 ≠ (0 : Int)) <|
 L.guard (100 ≠ (0 : Int)) <|
 L.load eL6 ((⟨b1, 0, none⟩ : Addr).add 0) fun (x2 : Sl) =>
 L.loop (Y := Int × Int × Unit) (Int.tmod (IntKind.wrap .i64 ((Int.tmod p1 100) + 100)) 100, 0, ()) fun y3 again4 =>
 L.ite (decide (y3.2.1 < ((x2.len : Nat) : Int))) (
  L.idx x2.a y3.2.1 x2.len 2 fun a5 =>
  L.load (.agg [.str, .int .i64]) a5 fun (x6 : ByteArray × Int × Unit) =>
  L.new [.string s_, .int .i64 0] z0t fun b7 =>
  L.store (⟨b7, 0, none⟩) [.string x6.1, .int .i64 x6.2.1] <|
  L.load eI6 ((⟨b7, 0, none⟩ : Addr).add 1) fun (x8 : Int) =>
  L.ite (decide (y3.1 < x8)) (
   L.load eS6 ((⟨b7, 0, none⟩ : Addr).add 0) fun (x9 : ByteArray) =>
   K (.string x9)) <|
  L.load eI6 ((⟨b7, 0, none⟩ : Addr).add 1) fun (x10 : Int) =>
  again4 (IntKind.wrap .i64 (y3.1 - x10), IntKind.wrap .i64 (y3.2.1 + 1), ())) <|
 K (.string s_)
theorem zhV (p0 : HT [.slice, .slice]) (p1 : Int) {K : Value → PT} {w : World} (h : zd7 p0 p1 K w) : CT Pr z9v [(.ag [.slice p0.1.a p0.1.len p0.1.cap, .slice p0.2.1.a p0.2.1.len p0.2.1.cap] : SV).toV, .int .i64 p1] K w :=
 C_of (fn := Tryz.f126) (an := zi6) (args := [.ag [.slice p0.1.a p0.1.len p0.1.cap, .slice p0.2.1.a p0.2.1.len p0.2.1.cap], .v (.int .i64 p1)]) (by kernel_rfl) (by kernel_rfl) (by kernel_rfl) h
def zgG : Ann := (.seq .auto (.seq (.seq .auto (.one [(11, (.one (.int .i64)))] .auto) none) .auto none) none)
def zbS (p0 : HT [.slice, .slice]) (p1 : ByteArray) (K : Value → PT) : PT :=
 L.new [.slice p0.1.a p0.1.len p0.1.cap, .slice p0.2.1.a p0.2.1.len p0.2.1.cap] z03 fun b1 =>
 L.load eL6 ((⟨b1, 0, none⟩ : Addr).add 1) fun (x2 : Sl) =>
 L.loop (Y := Int × Unit) (0, ()) fun y3 again4 =>
 L.ite (decide (y3.1 < ((x2.len : Nat) : Int))) (
  L.idx x2.a y3.1 x2.len 2 fun a5 =>
  L.load (.agg [.str, .str]) a5 fun (x6 : ByteArray × ByteArray × Unit) =>
  L.new [.string s_, .string s_] z34 fun b7 =>
  L.store (⟨b7, 0, none⟩) [.string x6.1, .string x6.2.1] <|
  L.load eS6 ((⟨b7, 0, none⟩ : Addr).add 0) fun (x8 : ByteArray) =>
  L.ite (x8.toList == p1.toList) (
   L.load eS6 ((⟨b7, 0, none⟩ : Addr).add 1) fun (x9 : ByteArray) =>
   K (.tuple #[.string x9, .bool true])) <|
  again4 (IntKind.wrap .i64 (y3.1 + 1), ())) <|
 K (.tuple #[.string s_, .bool false])
theorem zgr (p0 : HT [.slice, .slice]) (p1 : ByteArray) {K : Value → PT} {w : World} (h : zbS p0 p1 K w) : CT Pr z8y [(.ag [.slice p0.1.a p0.1.len p0.1.cap, .slice p0.2.1.a p0.2.1.len p0.2.1.cap] : SV).toV, .string p1] K w :=
 C_of (fn := Tryz.f127) (an := zgG) (args := [.ag [.slice p0.1.a p0.1.len p0.1.cap, .slice p0.2.1.a p0.2.1.len p0.2.1.cap], .v (.string p1)]) (by kernel_rfl) (by kernel_rfl) (by kernel_rfl) h
def z92 (p0 : Option Addr) (p1 : Int) (K : Value → PT) : PT :=
 L.nonnil p0 fun a1 =>
 L.load (.one (.map)) (a1.add 1) fun (x2 : Option Nat) =>
 L.semR Pr (.tup [(.agg [.str, .int .i64]), .one .bool]) (Instr.lookup z0X (.map x2) (.int .i64 p1) true) fun (x3 : pt21) =>
 L.new [.string s_, .int .i64 0] z0F fun b4 =>
 L.store (⟨b4, 0, none⟩) [.string x3.1.1, .int .i64 x3.1.2.1] <|
 K (.bool x3.2.1)
theorem zdw (p0 : Option Addr) (p1 : Int) {K : Value → PT} {w : World} (h : z92 p0 p1 K w) : CT Pr z6s [.pointer p0, .int .i64 p1] K w :=
 C_of (fn := Tryz.f128) (an := .auto) (args := [.v (.pointer p0), .v (.int .i64 p1)]) (by kernel_rfl) (by kernel_rfl) (by kernel_rfl) h
def zfA (p0 : ByteArray) (K : Value → PT) : PT :=
 L.new [.int .i64 0, .int .i64 0, .int .i64 0, .string s_] z0b fun b1 =>
 L.store (⟨b1, 0, none⟩) [.int .i64 0, .int .i64 4, .int .i64 0, .string p0] <|
 L.load (.agg [.int .i64, .int .i64, .int .i64, .str]) (⟨b1, 0, none⟩) fun (x2 : pt10) =>
 K (.agg #[.int .i64 x2.1, .int .i64 x2.2.1, .int .i64 x2.2.2.1, .string x2.2.2.2.1])
theorem zkI (p0 : ByteArray) {K : Value → PT} {w : World} (h : zfA p0 K w) : CT Pr z5d [.string p0] K w :=
 C_of (fn := Tryz.f129) (an := .auto) (args := [.v (.string p0)]) (by kernel_rfl) (by kernel_rfl) (by kernel_rfl) h
def z9R (p0 : Option Addr) (p1 : Int) (p2 : ByteArray) (p3 : ht3) (K : Value → PT) : PT :=
 L.new [.int .i64 p3.1, .int .i64 p3.2.1, .int .i64 p3.2.2.1, .string p3.2.2.2.1] z0b fun b1 =>
 L.new [.int .i64 0, .int .i64 0, .int .i64 0, .string s_] z0b fun b2 =>
 L.store ((⟨b1, 0, none⟩ : Addr).add 0) [.int .i64 p1] <|
 L.draw <|
 L.nonnil p0 fun a3 =>
 L.load (.one (.map)) (a3.add 1) fun (x4 : Option Nat) =>
 L.load eI6 ((⟨b1, 0, none⟩ : Addr).add 1) fun (x5 : Int) =>
 L.semU Pr (Instr.mapUpdate z0X (.map x4) (.int .i64 p1) (.agg #[.string p2, .int .i64 x5])) <|
 L.load (.agg [.int .i64, .int .i64, .int .i64, .str]) (⟨b1, 0, none⟩) fun (x6 : pt10) =>
 L.store (⟨b2, 0, none⟩) [.int .i64 x6.1, .int .i64 x6.2.1, .int .i64 x6.2.2.1, .string x6.2.2.2.1] <|
 L.load (.agg [.int .i64, .int .i64, .int .i64, .str]) (⟨b2, 0, none⟩) fun (x7 : pt10) =>
 K (.agg #[.int .i64 x7.1, .int .i64 x7.2.1, .int .i64 x7.2.2.1, .string x7.2.2.2.1])
theorem zeN (p0 : Option Addr) (p1 : Int) (p2 : ByteArray) (p3 : ht3) {K : Value → PT} {w : World} (h : z9R p0 p1 p2 p3 K w) : CT Pr z1o [.pointer p0, .int .i64 p1, .string p2, (.ag (qc3 p3) : SV).toV] K w :=
 C_of (fn := Tryz.f130) (an := .auto) (args := [.v (.pointer p0), .v (.int .i64 p1), .v (.string p2), .ag (qc3 p3)]) (by kernel_rfl) (by kernel_rfl) (by kernel_rfl) h
def z8t : Ann := (.seq .auto (.seq .auto .auto (some [])) none)
def z5f (p0 : Option Addr) (p1 : ByteArray) (K : Value → PT) : PT :=
 L.join (Y := Unit) (fun k1 =>
  L.nonnil p0 fun a3 =>
  L.load (.one (.map)) (a3.add 0) fun (x4 : Option Nat) =>
  L.semR Pr (.tup [eP6, .one .bool]) (Instr.lookup z0E (.map x4) (.string p1) true) fun (x5 : Option Addr × Bool × Unit) =>
  L.ite (!x5.2.1) (
   L.draw <|
   L.nonnil p0 fun a6 =>
   L.load (.one (.map)) (a6.add 0) fun (x7 : Option Nat) =>
   L.nonnil p0 fun a8 =>
   L.load (.one (.func)) (a8.add 1) fun (x9 : FV) =>
   L.callV Pr (.func x9.fn x9.fs x9.cs) [] rP fun (x10 : Option Addr) =>
   L.chk (a6.add 0) [.map x7] <|
   L.semU Pr (Instr.mapUpdate z0E (.map x7) (.string p1) (.pointer x10)) <|
   k1 (())) <|
  k1 (())) fun z2 =>
 L.nonnil p0 fun a11 =>
 L.load (.one (.map)) (a11.add 0) fun (x12 : Option Nat) =>
 L.semR Pr rP (Instr.lookup z0E (.map x12) (.string p1) false) fun (x13 : Option Addr) =>
 K (.pointer x13)
theorem z8r (p0 : Option Addr) (p1 : ByteArray) {K : Value → PT} {w : World} (h : z5f p0 p1 K w) : CT Pr z2o [.pointer p0, .string p1] K w :=
 C_of (fn := Tryz.f131) (an := z8t) (args := [.v (.pointer p0), .v (.string p1)]) (by kernel_rfl) (by kernel_rfl) (by kernel_rfl) h
def z9M (p0 : Option Addr) (K : Value → PT) : PT :=
 L.nonnil p0 fun a1 =>
 L.load eL6 ((a1.add 0).add 0) fun (x2 : Sl) =>
 K (.int .i64 ((x2.len : Nat) : Int))
theorem zeI (p0 : Option Addr) {K : Value → PT} {w : World} (h : z9M p0 K w) : CT Pr z41 [.pointer p0] K w :=
 C_of (fn := Tryz.f132) (an := .auto) (args := [.v (.pointer p0)]) (by kernel_rfl) (by kernel_rfl) (by kernel_rfl) h
def z90 (p0 : Option Addr) (p1 : Int) (p2 : ByteArray) (K : Value → PT) : PT :=
 L.new [.int .i64 0, .int .i64 0, .int .i64 0, .string s_] z0b fun b1 =>
 L.nonnil p0 fun a2 =>
 L.load eP6 (a2.add 0) fun (x3 : Option Addr) =>
 L.call Pr z5y [.pointer x3, .string p2, .int .i64 p1] (.tup [eI6, eB6]) fun (x4 : Int × Bool × Unit) =>
 L.ite (!x4.2.1) (
  L.store (⟨b1, 0, none⟩) [.int .i64 0, .int .i64 0, .int .i64 0, .string s_] <|
  L.load (.agg [.int .i64, .int .i64, .int .i64, .str]) (⟨b1, 0, none⟩) fun (x5 : pt10) =>
  K (.tuple #[.agg #[.int .i64 x5.1, .int .i64 x5.2.1, .int .i64 x5.2.2.1, .string x5.2.2.2.1], .bool false])) <|
 L.call Pr z1o [.pointer p0, .int .i64 p1, .string p2, .agg #[.int .i64 0, .int .i64 1, .int .i64 x4.1, .string s_]] (.one (.agg [.int .i64, .int .i64, .int .i64, .str])) fun (x6 : pt10) =>
 L.store (⟨b1, 0, none⟩) [.int .i64 x6.1, .int .i64 x6.2.1, .int .i64 x6.2.2.1, .string x6.2.2.2.1] <|
 L.load (.agg [.int .i64, .int .i64, .int .i64, .str]) (⟨b1, 0, none⟩) fun (x7 : pt10) =>
 K (.tuple #[.agg #[.int .i64 x7.1, .int .i64 x7.2.1, .int .i64 x7.2.2.1, .string x7.2.2.2.1], .bool true])
theorem zdu (p0 : Option Addr) (p1 : Int) (p2 : ByteArray) {K : Value → PT} {w : World} (h : z90 p0 p1 p2 K w) : CT Pr z4R [.pointer p0, .int .i64 p1, .string p2] K w :=
 C_of (fn := Tryz.f133) (an := .auto) (args := [.v (.pointer p0), .v (.int .i64 p1), .v (.string p2)]) (by kernel_rfl) (by kernel_rfl) (by kernel_rfl) h
def z8U (p0 : Option Addr) (p1 : Int) (p2 : Int) (K : Value → PT) : PT :=
 L.nonnil p0 fun a1 =>
 L.call Pr z5n [.pointer (some (a1.add 0)), .int .i64 p1] rB fun (x2 : Bool) =>
 L.ite x2 (
  K (.int .i64 5)) <|
 L.draw <|
 L.nonnil p0 fun a3 =>
 L.load eI6 (a3.add 1) fun (x4 : Int) =>
 L.call Pr z41 [.pointer p0] rI fun (x5 : Int) =>
 L.chk (a3.add 1) [.int .i64 x4] <|
 L.ite (decide (x5 ≥ x4)) (
  K (.int .i64 8)) <|
 L.nonnil p0 fun a6 =>
 L.load eL6 ((a6.add 0).add 0) fun (x7 : Sl) =>
 L.new [.int .i64 p1, .int .i64 p2] z2j fun b8 =>
 L.sem Pr (.one (.one .slice)) (Builtin.append_ #[z1h, z1h] z1h #[.slice x7.a x7.len x7.cap, .slice (some ⟨b8, 0, none⟩) 1 1]) fun (s9 : Sl) =>
 L.nonnil p0 fun a10 =>
 L.store ((a10.add 0).add 0) [.slice s9.a s9.len s9.cap] <|
 K (.int .i64 0)
theorem zdn (p0 : Option Addr) (p1 : Int) (p2 : Int) {K : Value → PT} {w : World} (h : z8U p0 p1 p2 K w) : CT Pr z4Q [.pointer p0, .int .i64 p1, .int .i64 p2] K w :=
 C_of (fn := Tryz.f134) (an := .auto) (args := [.v (.pointer p0), .v (.int .i64 p1), .v (.int .i64 p2)]) (by kernel_rfl) (by kernel_rfl) (by kernel_rfl) h
def zaJ (p0 : Sl) (K : Value → PT) : PT :=
 L.new [.slice p0.a p0.len p0.cap] z0i fun b1 =>
 K (.func (.func z3E) #[] #[.pointer (some (⟨b1, 0, none⟩))])
theorem zeT (p0 : Sl) {K : Value → PT} {w : World} (h : zaJ p0 K w) : CT Pr zaG [.slice p0.a p0.len p0.cap] K w :=
 C_of (fn := Tryz.f135) (an := .auto) (args := [.v (.slice p0.a p0.len p0.cap)]) (by kernel_rfl) (by kernel_rfl) (by kernel_rfl) h
def z3T (p0 : Sl) (K : Value → PT) : PT :=
 L.ite ((p0.a).isNone) (
  K (.slice none 0 0)) <|
 L.new [] z00 fun b1 =>
 L.sem Pr (.one (.one .slice)) (Builtin.append_ #[z06, z06] z06 #[.slice (some ⟨b1, 0, none⟩) 0 0, .slice p0.a p0.len p0.cap]) fun (s2 : Sl) =>
 K (.slice s2.a s2.len s2.cap)
theorem z6Q (p0 : Sl) {K : Value → PT} {w : World} (h : z3T p0 K w) : CT Pr z1J [.slice p0.a p0.len p0.cap] K w :=
 C_of (fn := Tryz.f136) (an := .auto) (args := [.v (.slice p0.a p0.len p0.cap)]) (by kernel_rfl) (by kernel_rfl) (by kernel_rfl) h
def zdc (p0 : Option Addr) (K : Value → PT) : PT :=
 L.nonnil p0 fun a1 =>
 L.load eI6 (a1.add 0) fun (x2 : Int) =>
 L.ite (x2 != 1) (
  K (.int .i64 9)) <|
 L.nonnil p0 fun a3 =>
 L.store (a3.add 0) [.int .i64 2] <|
 K (.int .i64 0)
theorem zi0 (p0 : Option Addr) {K : Value → PT} {w : World} (h : zdc p0 K w) : CT Pr z9w [.pointer p0] K w :=
 C_of (fn := Tryz.f138) (an := .auto) (args := [.v (.pointer p0)]) (by kernel_rfl) (by kernel_rfl) (by kernel_rfl) h
def zeO : Ann := (.seq .auto (.seq (.seq .auto (.seq .auto .auto (some [(9, (.one (.int .i64))), (10, (.one (.int .i64)))])) none) .auto none) none)
def z9L (p0 : Option Addr) (K : Value → PT) : PT :=
 L.new [.pointer p0] z3A fun b1 =>
 L.new [.int .i64 0] z0d fun b2 =>
 L.new [.bool false] z6d fun b3 =>
 L.load eP6 (⟨b1, 0, none⟩) fun (x4 : Option Addr) =>
 L.nonnil x4 fun a5 =>
 L.call Pr z1Z [.pointer (some (a5.add 0))] (.one (.one (.func))) fun (x6 : FV) =>
 L.range Pr none (.func x6.fn x6.fs x6.cs) [eI6, eI6] (fun l7 (y8 : Int × Int × Unit) R9 =>
  L.begin Pr l7 <|
  L.draw <|
  L.load eP6 (⟨b1, 0, none⟩) fun (x12 : Option Addr) =>
  L.load eP6 (⟨b1, 0, none⟩) fun (x13 : Option Addr) =>
  L.nonnil x13 fun a14 =>
  L.load eL6 ((a14.add 0).add 0) fun (x15 : Sl) =>
  L.guard (0 ≤ (1 : Int) ∧ (1 : Int) ≤ ((x15.len : Nat) : Int) ∧ ((x15.len : Nat) : Int) ≤ ((x15.cap : Nat) : Int) ∧ ((x15.cap : Nat) : Int) ≤ x15.cap) <|
  L.nonnil x12 fun a16 =>
  L.store ((a16.add 0).add 0) [.slice (if Int.toNat ((x15.cap : Nat) : Int) = Int.toNat (1 : Int) then x15.a else Option.map (fun a : Addr => a.add (Int.toNat (1 : Int) * 2)) x15.a) (Int.toNat ((x15.len : Nat) : Int) - Int.toNat (1 : Int)) (Int.toNat ((x15.cap : Nat) : Int) - Int.toNat (1 : Int))] <|
  L.store (⟨b2, 0, none⟩) [.int .i64 y8.1] <|
  L.store (⟨b3, 0, none⟩) [.bool true] <|
  L.endRound Pr l7 (some .ret) R9) fun d10 j11 =>
 L.jump j11 (
  L.store (⟨b2, 0, none⟩) [.int .i64 0] <|
  L.store (⟨b3, 0, none⟩) [.bool false] <|
  L.unmark Pr (d10 ++ []) <|
  L.load eI6 (⟨b2, 0, none⟩) fun (x17 : Int) =>
  L.load eB6 (⟨b3, 0, none⟩) fun (x18 : Bool) =>
  K (.tuple #[.int .i64 x17, .bool x18])) (
  L.unmark Pr (d10 ++ []) <|
  L.load eI6 (⟨b2, 0, none⟩) fun (x19 : Int) =>
  L.load eB6 (⟨b3, 0, none⟩) fun (x20 : Bool) =>
  K (.tuple #[.int .i64 x19, .bool x20])) []
theorem zeH (p0 : Option Addr) {K : Value → PT} {w : World} (h : z9L p0 K w) : CT Pr z74 [.pointer p0] K w :=
 C_of (fn := Tryz.f139) (an := zeO) (args := [.v (.pointer p0)]) (by kernel_rfl) (by kernel_rfl) (by kernel_rfl) h
def z2M (p0 : Sl) (K : Value → PT) : PT :=
 L.ite ((p0.a).isNone) (
  K (.slice none 0 0)) <|
 L.new [] z0b fun b1 =>
 L.sem Pr (.one (.one .slice)) (Builtin.append_ #[z0i, z0i] z0i #[.slice (some ⟨b1, 0, none⟩) 0 0, .slice p0.a p0.len p0.cap]) fun (s2 : Sl) =>
 K (.slice s2.a s2.len s2.cap)
theorem z5i (p0 : Sl) {K : Value → PT} {w : World} (h : z2M p0 K w) : CT Pr z0T [.slice p0.a p0.len p0.cap] K w :=
 C_of (fn := Tryz.f140) (an := .auto) (args := [.v (.slice p0.a p0.len p0.cap)]) (by kernel_rfl) (by kernel_rfl) (by kernel_rfl) h
def zf0 : Ann := (.seq .auto (.seq .auto (.seq .auto (.seq (.seq .auto (.one [(21, (.one (.int .i64)))] .auto) none) .auto none) none) none) none)
def zaL (p0 : Option Addr) (K : Value → PT) : PT :=
 L.nonnil p0 fun a1 =>
 L.load eI6 (a1.add 0) fun (x2 : Int) =>
 L.ite (x2 == 4) (
  K (.tuple #[.slice none 0 0, .int .i64 9])) <|
 L.nonnil p0 fun a3 =>
 L.load (.one (.map)) ((a3.add 1).add 0) fun (x4 : Option Nat) =>
 L.call Pr z1L [.map x4] (.one (.one (.func))) fun (x5 : FV) =>
 L.call Pr z22 [.func x5.fn x5.fs x5.cs] rL fun (x6 : Sl) =>
 L.call Pr z0R [.slice x6.a x6.len x6.cap] rL fun (x7 : Sl) =>
 L.loop (Y := Int × Unit) (0, ()) fun y8 again9 =>
 L.ite (decide (y8.1 < ((x7.len : Nat) : Int))) (
  L.idx x7.a y8.1 x7.len 1 fun a10 =>
  L.load eI6 a10 fun (x11 : Int) =>
  L.nonnil p0 fun a12 =>
  L.call Pr z5t [.pointer (some (a12.add 1)), .int .i64 x11] rI fun (x13 : Int) =>
  again9 (IntKind.wrap .i64 (y8.1 + 1), ())) <|
 L.nonnil p0 fun a14 =>
 L.store (a14.add 0) [.int .i64 4] <|
 K (.tuple #[.slice x7.a x7.len x7.cap, .int .i64 0])
theorem zeV (p0 : Option Addr) {K : Value → PT} {w : World} (h : zaL p0 K w) : CT Pr z63 [.pointer p0] K w :=
 C_of (fn := Tryz.f141) (an := zf0) (args := [.v (.pointer p0)]) (by kernel_rfl) (by kernel_rfl) (by kernel_rfl) h
def z8p (p0 : Option Addr) (p1 : Int) (K : Value → PT) : PT :=
 L.nonnil p0 fun a1 =>
 L.load (.one (.map)) (a1.add 0) fun (x2 : Option Nat) =>
 L.semR Pr (.one (.agg [.str, .ptr])) (Instr.lookup z0s (.map x2) (.int .i64 p1) false) fun (x3 : ByteArray × Option Addr × Unit) =>
 L.call Pr z1m [.pointer x3.2.1] rI fun (x4 : Int) =>
 L.ite (x4 == 4) (
  L.nonnil p0 fun a5 =>
  L.load (.one (.map)) (a5.add 0) fun (x6 : Option Nat) =>
  L.sem Pr (.tup []) (Builtin.delete_ #[z0s, z0d] T_ #[.map x6, .int .i64 p1]) fun _ =>
  K (.tuple #[])) <|
 K (.tuple #[])
theorem zcV (p0 : Option Addr) (p1 : Int) {K : Value → PT} {w : World} (h : z8p p0 p1 K w) : CT Pr z4n [.pointer p0, .int .i64 p1] K w :=
 C_of (fn := Tryz.f142) (an := .auto) (args := [.v (.pointer p0), .v (.int .i64 p1)]) (by kernel_rfl) (by kernel_rfl) (by kernel_rfl) h
def z4y (p0 : Option Addr) (K : Value → PT) : PT :=
 L.new [.pointer p0] z0z fun b1 =>
 K (.func (.func z1k) #[] #[.pointer (some (⟨b1, 0, none⟩))])
theorem z7G (p0 : Option Addr) {K : Value → PT} {w : World} (h : z4y p0 K w) : CT Pr z4t [.pointer p0] K w :=
 C_of (fn := Tryz.f143) (an := .auto) (args := [.v (.pointer p0)]) (by kernel_rfl) (by kernel_rfl) (by kernel_rfl) h
def z8V (p0 : Option Addr) (p1 : Int) (K : Value → PT) : PT :=
 L.nonnil p0 fun a1 =>
 L.call Pr z73 [.pointer (some (a1.add 0)), .int .i64 p1] rL fun (x2 : Sl) =>
 K (.slice x2.a x2.len x2.cap)
theorem zdo (p0 : Option Addr) (p1 : Int) {K : Value → PT} {w : World} (h : z8V p0 p1 K w) : CT Pr z6p [.pointer p0, .int .i64 p1] K w :=
 C_of (fn := Tryz.f144) (an := .auto) (args := [.v (.pointer p0), .v (.int .i64 p1)]) (by kernel_rfl) (by kernel_rfl) (by kernel_rfl) h
def z8Z (p0 : Option Addr) (K : Value → PT) : PT :=
 L.nonnil p0 fun a1 =>
 L.load (.one (.map)) (a1.add 0) fun (x2 : Option Nat) =>
 L.call Pr z1l [.map x2] rL fun (x3 : Sl) =>
 L.call Pr z1J [.slice x3.a x3.len x3.cap] rL fun (x4 : Sl) =>
 K (.slice x4.a x4.len x4.cap)
theorem zds (p0 : Option Addr) {K : Value → PT} {w : World} (h : z8Z p0 K w) : CT Pr z6q [.pointer p0] K w :=
 C_of (fn := Tryz.f145) (an := .auto) (args := [.v (.pointer p0)]) (by kernel_rfl) (by kernel_rfl) (by kernel_rfl) h
def z6G (p0 : Option Addr) (p1 : Int) (K : Value → PT) : PT :=
 L.draw <|
 L.nonnil p0 fun a1 =>
 L.load eI6 (a1.add 60) fun (x2 : Int) =>
 L.guard (60 ≠ (0 : Int)) <|
 L.nonnil p0 fun a3 =>
 L.idx (some (a3.add 0)) (Int.tmod x2 60) 60 1 fun a4 =>
 L.store a4 [.int .i64 p1] <|
 L.nonnil p0 fun a5 =>
 L.load eI6 (a5.add 60) fun (x6 : Int) =>
 L.nonnil p0 fun a7 =>
 L.store (a7.add 60) [.int .i64 (IntKind.wrap .i64 (x6 + 1))] <|
 K (.tuple #[])
theorem zax (p0 : Option Addr) (p1 : Int) {K : Value → PT} {w : World} (h : z6G p0 p1 K w) : CT Pr z4E [.pointer p0, .int .i64 p1] K w :=
 C_of (fn := Tryz.f146) (an := .auto) (args := [.v (.pointer p0), .v (.int .i64 p1)]) (by kernel_rfl) (by kernel_rfl) (by kernel_rfl) h
def z4f (p0 : Option Addr) (p1 : ByteArray) (K : Value → PT) : PT :=
 L.new [.string s_, .int .i64 0, .int .i64 0, .int .i64 0, .int .i64 0, .int .i64 0, .int .i64 0, .int .i64 0, .bool false] z09 fun b1 =>
 L.nonnil p0 fun a2 =>
 L.load (.one (.map)) (a2.add 0) fun (x3 : Option Nat) =>
 L.semR Pr (.one (.agg lf9)) (Instr.lookup z0r (.map x3) (.string p1) false) fun (x4 : pt19) =>
 L.new [.string s_, .int .i64 0, .int .i64 0, .int .i64 0, .int .i64 0, .int .i64 0, .int .i64 0, .int .i64 0, .bool false] z09 fun b5 =>
 L.store (⟨b5, 0, none⟩) [.string x4.1, .int .i64 x4.2.1, .int .i64 x4.2.2.1, .int .i64 x4.2.2.2.1, .int .i64 x4.2.2.2.2.1, .int .i64 x4.2.2.2.2.2.1, .int .i64 x4.2.2.2.2.2.2.1, .int .i64 x4.2.2.2.2.2.2.2.1, .bool x4.2.2.2.2.2.2.2.2.1] <|
 L.draw <|
 L.load (.agg lf9) (⟨b5, 0, none⟩) fun (x6 : pt19) =>
 L.load eB6 ((⟨b5, 0, none⟩ : Addr).add 8) fun (x7 : Bool) =>
 L.store (⟨b1, 0, none⟩) [.string x6.1, .int .i64 x6.2.1, .int .i64 x6.2.2.1, .int .i64 x6.2.2.2.1, .int .i64 x6.2.2.2.2.1, .int .i64 x6.2.2.2.2.2.1, .int .i64 x6.2.2.2.2.2.2.1, .int .i64 x6.2.2.2.2.2.2.2.1, .bool x6.2.2.2.2.2.2.2.2.1] <|
 L.chk ((⟨b5, 0, none⟩ : Addr).add 8) [.bool x7] <|
 L.load (.agg lf9) (⟨b1, 0, none⟩) fun (x8 : pt19) =>
 K (.tuple #[(qa5 x8), .bool x7])
theorem z7x (p0 : Option Addr) (p1 : ByteArray) {K : Value → PT} {w : World} (h : z4f p0 p1 K w) : CT Pr z2D [.pointer p0, .string p1] K w :=
 C_of (fn := Tryz.f147) (an := .auto) (args := [.v (.pointer p0), .v (.string p1)]) (by kernel_rfl) (by kernel_rfl) (by kernel_rfl) h
def zeB (p0 : ByteArray) (p1 : Int) (K : Value → PT) : PT :=
 L.call Pr z47 [.string p0] rB fun (x1 : Bool) =>
 L.ite (!x1) (
  K (.string s_)) <|
 L.ite (decide (p1 < 1)) (
  K (.string s_)) <|
 L.ite (decide (p1 > 999999)) (
  K (.string s_)) <|
 L.guard (((p0.size + s__.size : Nat) : Int) ≤ maxI64) <|
 L.call Pr z3K [.int .i64 p1] rS fun (x2 : ByteArray) =>
 L.guard ((((p0 ++ s__).size + x2.size : Nat) : Int) ≤ maxI64) <|
 K (.string ((p0 ++ s__) ++ x2))
theorem ziK (p0 : ByteArray) (p1 : Int) {K : Value → PT} {w : World} (h : zeB p0 p1 K w) : CT Pr z8F [.string p0, .int .i64 p1] K w :=
 C_of (fn := Tryz.f148) (an := .auto) (args := [.v (.string p0), .v (.int .i64 p1)]) (by kernel_rfl) (by kernel_rfl) (by kernel_rfl) h
def z4x (p0 : Option Addr) (p1 : ByteArray) (K : Value → PT) : PT :=
 L.new [.string s_, .string s_, .slice none 0 0, .int .i64 0, .int .i64 0, .int .i64 0, .bool false] z0h fun b1 =>
 L.nonnil p0 fun a2 =>
 L.load (.one (.map)) (a2.add 0) fun (x3 : Option Nat) =>
 L.semR Pr (.one (.agg lf10)) (Instr.lookup z0x (.map x3) (.string p1) false) fun (x4 : pt20) =>
 L.new [.string s_, .string s_, .slice none 0 0, .int .i64 0, .int .i64 0, .int .i64 0, .bool false] z0h fun b5 =>
 L.store (⟨b5, 0, none⟩) [.string x4.1, .string x4.2.1, .slice x4.2.2.1.a x4.2.2.1.len x4.2.2.1.cap, .int .i64 x4.2.2.2.1, .int .i64 x4.2.2.2.2.1, .int .i64 x4.2.2.2.2.2.1, .bool x4.2.2.2.2.2.2.1] <|
 L.draw <|
 L.load (.agg lf10) (⟨b5, 0, none⟩) fun (x6 : pt20) =>
 L.load eB6 ((⟨b5, 0, none⟩ : Addr).add 6) fun (x7 : Bool) =>
 L.store (⟨b1, 0, none⟩) [.string x6.1, .string x6.2.1, .slice x6.2.2.1.a x6.2.2.1.len x6.2.2.1.cap, .int .i64 x6.2.2.2.1, .int .i64 x6.2.2.2.2.1, .int .i64 x6.2.2.2.2.2.1, .bool x6.2.2.2.2.2.2.1] <|
 L.chk ((⟨b5, 0, none⟩ : Addr).add 6) [.bool x7] <|
 L.load (.agg lf10) (⟨b1, 0, none⟩) fun (x8 : pt20) =>
 K (.tuple #[(qa6 x8), .bool x7])
theorem z7F (p0 : Option Addr) (p1 : ByteArray) {K : Value → PT} {w : World} (h : z4x p0 p1 K w) : CT Pr z2S [.pointer p0, .string p1] K w :=
 C_of (fn := Tryz.f149) (an := .auto) (args := [.v (.pointer p0), .v (.string p1)]) (by kernel_rfl) (by kernel_rfl) (by kernel_rfl) h
def zc1 (p0 : HT [.str, .str, .int .i64]) (p1 : ht2) (p2 : Option Addr) (K : Value → PT) : PT :=
 L.new [.string p0.1, .string p0.2.1, .int .i64 p0.2.2.1] z07 fun b1 =>
 L.new [.string p1.1, .string p1.2.1, .slice p1.2.2.1.a p1.2.2.1.len p1.2.2.1.cap, .int .i64 p1.2.2.2.1] z0p fun b2 =>
 L.load eS6 ((⟨b1, 0, none⟩ : Addr).add 0) fun (x3 : ByteArray) =>
 L.ite (x3.toList == s_.toList) (
  L.load eS6 ((⟨b2, 0, none⟩ : Addr).add 1) fun (x4 : ByteArray) =>
  L.call Pr z4W [.pointer p2, .string x4] (.tup [eS6, eS6]) fun (x5 : ByteArray × ByteArray × Unit) =>
  L.ite (x5.2.1.toList == s_.toList) (
   K (.tuple #[.string s_, .int .i64 9])) <|
  K (.tuple #[.string x5.2.1, .int .i64 0])) <|
 L.load eS6 ((⟨b1, 0, none⟩ : Addr).add 0) fun (x6 : ByteArray) =>
 L.call Pr z3F [.pointer p2, .string x6] (.tup [(.agg lf5), eB6]) fun (x7 : pt6) =>
 L.new [.string s_, .int .i64 0, .string s_, .int .i64 0, .int .i64 0, .int .i64 0, .int .i64 0, .int .i64 0] z0m fun b8 =>
 L.store (⟨b8, 0, none⟩) [.string x7.1.1, .int .i64 x7.1.2.1, .string x7.1.2.2.1, .int .i64 x7.1.2.2.2.1, .int .i64 x7.1.2.2.2.2.1, .int .i64 x7.1.2.2.2.2.2.1, .int .i64 x7.1.2.2.2.2.2.2.1, .int .i64 x7.1.2.2.2.2.2.2.2.1] <|
 L.ite (!x7.2.1) (
  K (.tuple #[.string s_, .int .i64 6])) <|
 L.load eS6 ((⟨b1, 0, none⟩ : Addr).add 0) fun (x9 : ByteArray) =>
 L.call Pr z1D [.pointer p2, .string x9] rB fun (x10 : Bool) =>
 L.ite (!x10) (
  K (.tuple #[.string s_, .int .i64 9])) <|
 L.load eS6 ((⟨b1, 0, none⟩ : Addr).add 0) fun (x11 : ByteArray) =>
 K (.tuple #[.string x11, .int .i64 0])
theorem zgA (p0 : HT [.str, .str, .int .i64]) (p1 : ht2) (p2 : Option Addr) {K : Value → PT} {w : World} (h : zc1 p0 p1 p2 K w) : CT Pr z8E [(.ag [.string p0.1, .string p0.2.1, .int .i64 p0.2.2.1] : SV).toV, (.ag (qc2 p1) : SV).toV, .pointer p2] K w :=
 C_of (fn := Tryz.f150) (an := .auto) (args := [.ag [.string p0.1, .string p0.2.1, .int .i64 p0.2.2.1], .ag (qc2 p1), .v (.pointer p2)]) (by kernel_rfl) (by kernel_rfl) (by kernel_rfl) h
def z4N (p0 : Option Nat) (K : Value → PT) : PT :=
 L.new [.map p0] z0H fun b1 =>
 K (.func (.func z1n) #[] #[.pointer (some (⟨b1, 0, none⟩))])
theorem z89 (p0 : Option Nat) {K : Value → PT} {w : World} (h : z4N p0 K w) : CT Pr z4L [.map p0] K w :=
 C_of (fn := Tryz.f151) (an := .auto) (args := [.v (.map p0)]) (by kernel_rfl) (by kernel_rfl) (by kernel_rfl) h
def z3U (p0 : Option Nat) (K : Value → PT) : PT :=
 L.new [.map p0] z0q fun b1 =>
 K (.func (.func z18) #[] #[.pointer (some (⟨b1, 0, none⟩))])
theorem z6R (p0 : Option Nat) {K : Value → PT} {w : World} (h : z3U p0 K w) : CT Pr z3R [.map p0] K w :=
 C_of (fn := Tryz.f152) (an := .auto) (args := [.v (.map p0)]) (by kernel_rfl) (by kernel_rfl) (by kernel_rfl) h
def zfy (p0 : HT [.slice, .slice]) (K : Value → PT) : PT :=
 L.new [.slice p0.1.a p0.1.len p0.1.cap, .slice p0.2.1.a p0.2.1.len p0.2.1.cap] z03 fun b1 =>
 L.new [.slice none 0 0, .slice none 0 0] z03 fun b2 =>
 L.draw <|
 L.load eL6 ((⟨b1, 0, none⟩ : Addr).add 0) fun (x3 : Sl) =>
 L.load eL6 ((⟨b1, 0, none⟩ : Addr).add 1) fun (x4 : Sl) =>
 L.call Pr z0w [.slice x3.a x3.len x3.cap] rL fun (x5 : Sl) =>
 L.chk ((⟨b1, 0, none⟩ : Addr).add 1) [.slice x4.a x4.len x4.cap] <|
 L.call Pr z1K [.slice x4.a x4.len x4.cap] rL fun (x6 : Sl) =>
 L.store (⟨b2, 0, none⟩) [.slice x5.a x5.len x5.cap, .slice x6.a x6.len x6.cap] <|
 L.load (.agg [.slice, .slice]) (⟨b2, 0, none⟩) fun (x7 : Sl × Sl × Unit) =>
 K (.agg #[.slice x7.1.a x7.1.len x7.1.cap, .slice x7.2.1.a x7.2.1.len x7.2.1.cap])
theorem zkG (p0 : HT [.slice, .slice]) {K : Value → PT} {w : World} (h : zfy p0 K w) : CT Pr z23 [(.ag [.slice p0.1.a p0.1.len p0.1.cap, .slice p0.2.1.a p0.2.1.len p0.2.1.cap] : SV).toV] K w :=
 C_of (fn := Tryz.f153) (an := .auto) (args := [.ag [.slice p0.1.a p0.1.len p0.1.cap, .slice p0.2.1.a p0.2.1.len p0.2.1.cap]]) (by kernel_rfl) (by kernel_rfl) (by kernel_rfl) h
def zgF : Ann := (.seq .auto (.seq (.seq .auto (.one [(2, (.one (.slice))), (11, (.one (.int .i64)))] .auto) none) (.seq (.seq .auto (.one [(3, (.one (.slice))), (28, (.one (.int .i64)))] .auto) none) .auto none) none) none)
def zbR (p0 : HT [.slice, .slice]) (K : Value → PT) : PT :=
 L.new [.slice p0.1.a p0.1.len p0.1.cap, .slice p0.2.1.a p0.2.1.len p0.2.1.cap] z03 fun b1 =>
 L.load eL6 ((⟨b1, 0, none⟩ : Addr).add 0) fun (x2 : Sl) =>
 L.loop (Y := Sl × Int × Unit) (⟨none, 0, 0⟩, 0, ()) fun y3 again4 =>
 L.ite (decide (y3.2.1 < ((x2.len : Nat) : Int))) (
  L.idx x2.a y3.2.1 x2.len 2 fun a5 =>
  L.load (.agg [.str, .int .i64]) a5 fun (x6 : ByteArray × Int × Unit) =>
  L.new [.string s_, .int .i64 0] z0t fun b7 =>
  L.store (⟨b7, 0, none⟩) [.string x6.1, .int .i64 x6.2.1] <|
  L.draw <|
  L.load eS6 ((⟨b7, 0, none⟩ : Addr).add 0) fun (x8 : ByteArray) =>
  L.load eI6 ((⟨b7, 0, none⟩ : Addr).add 1) fun (x9 : Int) =>
  L.call Pr z3K [.int .i64 x9] rS fun (x10 : ByteArray) =>
  L.chk ((⟨b7, 0, none⟩ : Addr).add 0) [.string x8] <|
  L.new [.string x8, .string x10] z2Z fun b11 =>
  L.sem Pr (.one (.one .slice)) (Builtin.append_ #[z33, z33] z33 #[.slice y3.1.a y3.1.len y3.1.cap, .slice (some ⟨b11, 0, none⟩) 1 1]) fun (s12 : Sl) =>
  again4 (⟨s12.a, s12.len, s12.cap⟩, IntKind.wrap .i64 (y3.2.1 + 1), ())) <|
 L.load eL6 ((⟨b1, 0, none⟩ : Addr).add 1) fun (x13 : Sl) =>
 L.loop (Y := Sl × Int × Unit) (⟨none, 0, 0⟩, 0, ()) fun y14 again15 =>
 L.ite (decide (y14.2.1 < ((x13.len : Nat) : Int))) (
  L.idx x13.a y14.2.1 x13.len 2 fun a16 =>
  L.load (.agg [.str, .str]) a16 fun (x17 : ByteArray × ByteArray × Unit) =>
  L.new [.string s_, .string s_] z34 fun b18 =>
  L.store (⟨b18, 0, none⟩) [.string x17.1, .string x17.2.1] <|
  L.load eS6 ((⟨b18, 0, none⟩ : Addr).add 0) fun (x19 : ByteArray) =>
  L.load eS6 ((⟨b18, 0, none⟩ : Addr).add 1) fun (x20 : ByteArray) =>
  L.new [.string x19, .string x20] z2Z fun b21 =>
  L.sem Pr (.one (.one .slice)) (Builtin.append_ #[z33, z33] z33 #[.slice y14.1.a y14.1.len y14.1.cap, .slice (some ⟨b21, 0, none⟩) 1 1]) fun (s22 : Sl) =>
  again15 (⟨s22.a, s22.len, s22.cap⟩, IntKind.wrap .i64 (y14.2.1 + 1), ())) <|
 K (.tuple #[.slice y3.1.a y3.1.len y3.1.cap, .slice y14.1.a y14.1.len y14.1.cap])
theorem zgq (p0 : HT [.slice, .slice]) {K : Value → PT} {w : World} (h : zbR p0 K w) : CT Pr z8x [(.ag [.slice p0.1.a p0.1.len p0.1.cap, .slice p0.2.1.a p0.2.1.len p0.2.1.cap] : SV).toV] K w :=
 C_of (fn := Tryz.f154) (an := zgF) (args := [.ag [.slice p0.1.a p0.1.len p0.1.cap, .slice p0.2.1.a p0.2.1.len p0.2.1.cap]]) (by kernel_rfl) (by kernel_rfl) (by kernel_rfl) h
def z5l : Ann := (.seq .auto (.seq .auto (.seq (.seq .auto (.one [(13, (.one (.int .i64)))] .auto) none) .auto none) none) none)
def z2L (p0 : Sl) (p1 : Sl) (K : Value → PT) : PT :=
 L.ite (((p0.len : Nat) : Int) != ((p1.len : Nat) : Int)) (
  K (.bool false)) <|
 L.loop (Y := Int × Unit) (0, ()) fun y1 again2 =>
 L.ite (decide (y1.1 < ((p0.len : Nat) : Int))) (
  L.draw <|
  L.idx p0.a y1.1 p0.len 2 fun a3 =>
  L.load (.agg [.str, .int .i64]) a3 fun (x4 : ByteArray × Int × Unit) =>
  L.idx p1.a y1.1 p1.len 2 fun a5 =>
  L.load (.agg [.str, .int .i64]) a5 fun (x6 : ByteArray × Int × Unit) =>
  L.chkSem Pr (do eqGuard .neq z0t (.tmp 0) (.tmp 0) (.agg #[.string x4.1, .int .i64 x4.2.1]) (.agg #[.string x6.1, .int .i64 x6.2.1]); binOp .neq z0t (.agg #[.string x4.1, .int .i64 x4.2.1]) (.agg #[.string x6.1, .int .i64 x6.2.1])) (.bool (!((x4.1 == x6.1) && ((x4.2.1 == x6.2.1) && true)))) <|
  L.ite (!((x4.1 == x6.1) && ((x4.2.1 == x6.2.1) && true))) (
   K (.bool false)) <|
  again2 (IntKind.wrap .i64 (y1.1 + 1), ())) <|
 K (.bool true)
theorem z5h (p0 : Sl) (p1 : Sl) {K : Value → PT} {w : World} (h : z2L p0 p1 K w) : CT Pr z1g [.slice p0.a p0.len p0.cap, .slice p1.a p1.len p1.cap] K w :=
 C_of (fn := Tryz.f155) (an := z5l) (args := [.v (.slice p0.a p0.len p0.cap), .v (.slice p1.a p1.len p1.cap)]) (by kernel_rfl) (by kernel_rfl) (by kernel_rfl) h
def zgL : Ann := (.seq .auto (.seq (.seq .auto .auto (some [(18, (.one (.bool)))])) (.seq .auto (.seq .auto (.seq .auto (.seq (.seq .auto (.one [(11, (.one (.int .i64))), (42, (.one (.int .i64)))] (.seq .auto (.seq .auto (.seq .auto .auto (some [(11, (.one (.int .i64)))])) none) none)) none) (.seq .auto (.seq (.seq .auto (.one [(11, (.one (.int .i64))), (14, (.one (.slice))), (77, (.one (.int .i64)))] (.seq .auto (.seq .auto (.seq (.seq .auto (.seq .auto (.seq .auto .auto (some [(11, (.one (.int .i64)))])) none) none) .auto (some [(11, (.one (.int .i64))), (14, (.one (.slice)))])) none) none)) none) .auto none) none) none) none) none) none) none) none)
def zbZ (p0 : Sl) (p1 : Sl) (p2 : Int) (p3 : Int) (K : Value → PT) : PT :=
 L.join (Y := Bool × Unit) (fun k1 =>
  L.ite (decide (p3 ≤ 0)) (
   k1 (true, ())) <|
  k1 (decide (p2 ≥ p3), ())) fun z2 =>
 L.ite z2.1 (
  L.call Pr z0w [.slice p1.a p1.len p1.cap] rL fun (x3 : Sl) =>
  K (.slice x3.a x3.len x3.cap)) <|
 L.ite (decide (p2 ≤ 0)) (
  L.call Pr z0w [.slice p0.a p0.len p0.cap] rL fun (x4 : Sl) =>
  K (.slice x4.a x4.len x4.cap)) <|
 L.new [.slice p0.a p0.len p0.cap, .slice p1.a p1.len p1.cap] z0A fun b5 =>
 L.call Pr z2i [.func (.func zab) #[] #[], .slice (some ⟨b5, 0, none⟩) 2 2] rL fun (x6 : Sl) =>
 L.sem Pr (.one (.one .slice)) (Instr.makeSlice z1i (.int .i64 ((x6.len : Nat) : Int)) (.int .i64 ((x6.len : Nat) : Int))) fun (s7 : Sl) =>
 L.loop (Y := Int × Int × Unit) (0, 0, ()) fun y8 again9 =>
 L.ite (decide (y8.2.1 < ((x6.len : Nat) : Int))) (
  L.join (Y := Int × Unit) (fun k10 =>
   L.draw <|
   L.idx x6.a y8.2.1 x6.len 1 fun a12 =>
   L.load eS6 a12 fun (x13 : ByteArray) =>
   L.idx x6.a y8.2.1 x6.len 1 fun a14 =>
   L.load eS6 a14 fun (x15 : ByteArray) =>
   L.call Pr z4l [.slice p1.a p1.len p1.cap, .string x13] rI fun (x16 : Int) =>
   L.chk a14 [.string x15] <|
   L.call Pr z4l [.slice p0.a p0.len p0.cap, .string x15] rI fun (x17 : Int) =>
   L.ite (decide ((IntKind.wrap .i64 (x16 - x17)) > 0)) (
    L.guard (p3 ≠ (0 : Int)) <|
    L.idx s7.a y8.2.1 s7.len 1 fun a18 =>
    L.store a18 [.int .i64 (IntKind.wrap .i64 (Int.tdiv (IntKind.wrap .i64 ((IntKind.wrap .i64 (x16 - x17)) * p2)) p3))] <|
    L.idx s7.a y8.2.1 s7.len 1 fun a19 =>
    L.load eI6 a19 fun (x20 : Int) =>
    k10 (IntKind.wrap .i64 (y8.1 + x20), ())) <|
   k10 (y8.1, ())) fun z11 =>
  again9 (z11.1, IntKind.wrap .i64 (y8.2.1 + 1), ())) <|
 L.loop (Y := Int × Sl × Int × Unit) (y8.1, ⟨none, 0, 0⟩, 0, ()) fun y21 again22 =>
 L.ite (decide (y21.2.2.1 < ((x6.len : Nat) : Int))) (
  L.join (Y := Int × Sl × Unit) (fun k23 =>
   L.idx x6.a y21.2.2.1 x6.len 1 fun a25 =>
   L.load eS6 a25 fun (x26 : ByteArray) =>
   L.call Pr z4l [.slice p0.a p0.len p0.cap, .string x26] rI fun (x27 : Int) =>
   L.join (Y := Int × Unit) (fun k28 =>
    L.idx x6.a y21.2.2.1 x6.len 1 fun a30 =>
    L.load eS6 a30 fun (x31 : ByteArray) =>
    L.call Pr z4l [.slice p1.a p1.len p1.cap, .string x31] rI fun (x32 : Int) =>
    L.ite (decide ((IntKind.wrap .i64 (x27 - x32)) > 0)) (
     L.idx s7.a y21.2.2.1 s7.len 1 fun a33 =>
     L.store a33 [.int .i64 (IntKind.wrap .i64 (0 - (if y21.1 < (IntKind.wrap .i64 (x27 - x32)) then y21.1 else (IntKind.wrap .i64 (x27 - x32)))))] <|
     L.idx s7.a y21.2.2.1 s7.len 1 fun a34 =>
     L.load eI6 a34 fun (x35 : Int) =>
     k28 (IntKind.wrap .i64 (y21.1 + x35), ())) <|
    k28 (y21.1, ())) fun z29 =>
   L.idx s7.a y21.2.2.1 s7.len 1 fun a36 =>
   L.load eI6 a36 fun (x37 : Int) =>
   L.ite (decide ((IntKind.wrap .i64 (x27 + x37)) > 0)) (
    L.idx x6.a y21.2.2.1 x6.len 1 fun a38 =>
    L.load eS6 a38 fun (x39 : ByteArray) =>
    L.new [.string x39, .int .i64 (IntKind.wrap .i64 (x27 + x37))] z0t fun b40 =>
    L.sem Pr (.one (.one .slice)) (Builtin.append_ #[z0A, z0A] z0A #[.slice y21.2.1.a y21.2.1.len y21.2.1.cap, .slice (some ⟨b40, 0, none⟩) 1 1]) fun (s41 : Sl) =>
    k23 (z29.1, ⟨s41.a, s41.len, s41.cap⟩, ())) <|
   k23 (z29.1, ⟨y21.2.1.a, y21.2.1.len, y21.2.1.cap⟩, ())) fun z24 =>
  again22 (z24.1, ⟨z24.2.1.a, z24.2.1.len, z24.2.1.cap⟩, IntKind.wrap .i64 (y21.2.2.1 + 1), ())) <|
 L.call Pr z0w [.slice y21.2.1.a y21.2.1.len y21.2.1.cap] rL fun (x42 : Sl) =>
 K (.slice x42.a x42.len x42.cap)
theorem zgy (p0 : Sl) (p1 : Sl) (p2 : Int) (p3 : Int) {K : Value → PT} {w : World} (h : zbZ p0 p1 p2 p3 K w) : CT Pr z8C [.slice p0.a p0.len p0.cap, .slice p1.a p1.len p1.cap, .int .i64 p2, .int .i64 p3] K w :=
 C_of (fn := Tryz.f156) (an := zgL) (args := [.v (.slice p0.a p0.len p0.cap), .v (.slice p1.a p1.len p1.cap), .v (.int .i64 p2), .v (.int .i64 p3)]) (by kernel_rfl) (by kernel_rfl) (by kernel_rfl) h
def z6D (p0 : Option Addr) (p1 : ByteArray) (K : Value → PT) : PT :=
 L.nonnil p0 fun a1 =>
 L.load eP6 (a1.add 3) fun (x2 : Option Addr) =>
 L.call Pr z5z [.pointer x2, .string p1] rL fun (x3 : Sl) =>
 K (.slice x3.a x3.len x3.cap)
theorem zau (p0 : Option Addr) (p1 : ByteArray) {K : Value → PT} {w : World} (h : z6D p0 p1 K w) : CT Pr z6y [.pointer p0, .string p1] K w :=
 C_of (fn := Tryz.f157) (an := .auto) (args := [.v (.pointer p0), .v (.string p1)]) (by kernel_rfl) (by kernel_rfl) (by kernel_rfl) h
def zdJ : Ann := (.seq .auto (.seq .auto (.seq (.seq .auto (.seq .auto .auto (some [(11, (.one (.int .i64))), (12, (.one (.ptr)))])) none) .auto none) none) none)
def z96 (p0 : Option Addr) (p1 : ByteArray) (K : Value → PT) : PT :=
 L.new [.int .i64 0] z0d fun b1 =>
 L.store (⟨b1, 0, none⟩) [.int .i64 0] <|
 L.call Pr z2V [.pointer p0, .string p1] (.one (.one (.func))) fun (x2 : FV) =>
 L.range Pr none (.func x2.fn x2.fs x2.cs) [eI6, eP6] (fun l3 (y4 : Int × Option Addr × Unit) R5 =>
  L.begin Pr l3 <|
  L.call Pr z1m [.pointer y4.2.1] rI fun (x8 : Int) =>
  L.ite (x8 != 3) (
   L.load eI6 (⟨b1, 0, none⟩) fun (x9 : Int) =>
   L.store (⟨b1, 0, none⟩) [.int .i64 (IntKind.wrap .i64 (x9 + 1))] <|
   L.endRound Pr l3 none R5) <|
  L.endRound Pr l3 none R5) fun d6 j7 =>
 L.jump j7 (
  L.load eI6 (⟨b1, 0, none⟩) fun (x10 : Int) =>
  L.unmark Pr (d6 ++ []) <|
  K (.int .i64 x10)) (
  L.unmark Pr (d6 ++ []) <|
  K (.int .i64 0)) []
theorem zdA (p0 : Option Addr) (p1 : ByteArray) {K : Value → PT} {w : World} (h : z96 p0 p1 K w) : CT Pr z6v [.pointer p0, .string p1] K w :=
 C_of (fn := Tryz.f163) (an := zdJ) (args := [.v (.pointer p0), .v (.string p1)]) (by kernel_rfl) (by kernel_rfl) (by kernel_rfl) h
def zhR (p0 : Int) (K : Value → PT) : PT :=
 L.sem Pr (.one (.one .map)) (Instr.makeMap z1B none) fun (m1 : Option Nat) =>
 L.new [.int .i64 1, .map m1, .int .i64 p0] z8k fun b2 =>
 K (.pointer (some (⟨b2, 0, none⟩)))
theorem zmB (p0 : Int) {K : Value → PT} {w : World} (h : zhR p0 K w) : CT Pr ze8 [.int .i64 p0] K w :=
 C_of (fn := Tryz.f164) (an := .auto) (args := [.v (.int .i64 p0)]) (by kernel_rfl) (by kernel_rfl) (by kernel_rfl) h
def zbm : Ann := (.seq .auto (.seq .auto (.seq (.seq .auto (.seq .auto (.seq .auto (.seq .auto (.cond .auto .auto) none) none) (some [(13, (.one (.int .i64))), (14, (.one (.ptr)))])) none) .auto none) none) none)
end Go.Proofs.YtmbidnhdfdnihaaGreatDoor
