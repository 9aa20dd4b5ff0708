/- What is proved on the way to a statement of the seat, pressed (text AD). No conditions beyond those its theorems state. -/
import Derived.Test.YtdcdhcgmeahfmaaGreatDoorBAC
import Derived.Test.YtdcdhcgmeahfmaaGreatDoorProg
set_option linter.all false
namespace Go.Proofs.YtdcdhcgmeahfmaaGreatDoor
set_option maxRecDepth 100000
open Go.Dm
variable {K:Value→PT}{w:World}
abbrev ht0:=HT [.str,.int .i64,.int .i64,.int .i64,.int .i64,.int .i64]
abbrev ht1:=HT [.int .i64,.str,.str,.int .i64,.int .i64,.str,.int .i64,.int .i64,.int .i64,.int .i64,.int .i64,.str,.str,.slice,.int .i64]
abbrev ht2:=HT [.str,.str,.slice,.int .i64]
abbrev ht3:=HT [.int .i64,.int .i64,.int .i64,.str]
abbrev qc0(p:ht0):List Value:=[.string p.1,.int .i64 p.2.1,.int .i64 p.2.2.1,.int .i64 p.2.2.2.1,.int .i64 p.2.2.2.2.1,.int .i64 p.2.2.2.2.2.1]
abbrev qc1(p:ht1):List Value:=[.int .i64 p.1,.string p.2.1,.string p.2.2.1,.int .i64 p.2.2.2.1,.int .i64 p.2.2.2.2.1,.string p.2.2.2.2.2.1,.int .i64 p.2.2.2.2.2.2.1,.int .i64 p.2.2.2.2.2.2.2.1,.int .i64 p.2.2.2.2.2.2.2.2.1,.int .i64 p.2.2.2.2.2.2.2.2.2.1,.int .i64 p.2.2.2.2.2.2.2.2.2.2.1,.string p.2.2.2.2.2.2.2.2.2.2.2.1,.string p.2.2.2.2.2.2.2.2.2.2.2.2.1,.slice p.2.2.2.2.2.2.2.2.2.2.2.2.2.1.a p.2.2.2.2.2.2.2.2.2.2.2.2.2.1.len p.2.2.2.2.2.2.2.2.2.2.2.2.2.1.cap,.int .i64 p.2.2.2.2.2.2.2.2.2.2.2.2.2.2.1]
abbrev qc2(p:ht2):List Value:=[.string p.1,.string p.2.1,.slice p.2.2.1.a p.2.2.1.len p.2.2.1.cap,.int .i64 p.2.2.2.1]
abbrev qc3(p:ht3):List Value:=[.int .i64 p.1,.int .i64 p.2.1,.int .i64 p.2.2.1,.string p.2.2.2.1]
abbrev pt0:=ByteArray×Int×Int×Int×Int×Int×Unit
abbrev pt1:=Int×ByteArray×ByteArray×Int×Int×ByteArray×Int×Int×Int×Int×Int×ByteArray×ByteArray×Sl×Int×Unit
abbrev pt2:=(Bool×Bool×Bool×Bool×Bool×Bool×Unit)×Bool×Unit
abbrev pt3:=ByteArray×ByteArray×Sl×Int×Unit
abbrev pt4:=(ByteArray×Int×Int×Int×Int×Int×Unit)×Int×Int×Bool×Unit
abbrev pt5:=(ByteArray×ByteArray×Sl×Int×Unit)×Int×Bool×Unit
abbrev pt6:=(ByteArray×Int×ByteArray×Int×Int×Int×Int×Int×Unit)×Bool×Unit
abbrev pt7:=Int×(ByteArray×Int×Unit)×Unit
abbrev pt8:=Bool×Bool×Bool×Bool×Bool×Bool×Unit
abbrev pt9:=ByteArray×ByteArray×Int×Unit
abbrev pt10:=Int×Int×Int×ByteArray×Unit
abbrev pt11:=(Int×Int×Int×ByteArray×Unit)×Bool×Unit
abbrev pt12:=(ByteArray×Option Addr×Unit)×Bool×Unit
abbrev pt13:=(ByteArray×Int×Int×Int×Int×Int×Int×Int×Bool×Unit)×Bool×Unit
abbrev pt14:=ByteArray×Int×ByteArray×Int×Int×Int×Int×Int×Unit
abbrev pt15:=(ByteArray×ByteArray×Sl×Int×Int×Int×Bool×Unit)×Bool×Unit
abbrev pt16:=(Sl×Sl×Int×Int×Sl×Sl×Unit)×Bool×Unit
abbrev pt17:=Sl×Sl×Int×Int×Sl×Sl×Unit
abbrev pt18:=Int×Option (TypeId×Value)×Unit
abbrev pt19:=ByteArray×Int×Int×Int×Int×Int×Int×Int×Bool×Unit
abbrev pt20:=ByteArray×ByteArray×Sl×Int×Int×Int×Bool×Unit
abbrev pt21:=(ByteArray×Int×Unit)×Bool×Unit
abbrev pt22:=Int×(ByteArray×Option Addr×Unit)×Unit
abbrev pt23:=ByteArray×(ByteArray×Int×ByteArray×Int×Int×Int×Int×Int×Unit)×Unit
abbrev lf0:List Lf:=[.str,.int .i64,.int .i64,.int .i64,.int .i64,.int .i64]
abbrev lf1:List Lf:=[.int .i64,.str,.str,.int .i64,.int .i64,.str,.int .i64,.int .i64,.int .i64,.int .i64,.int .i64,.str,.str,.slice,.int .i64]
abbrev lf2:List Lf:=[.ptr,.ptr,.ptr,.ptr,.ptr,.map,.int .i64]
abbrev lf3:List Lf:=[.bool,.bool,.bool,.bool,.bool,.bool]
abbrev lf4:List Lf:=[.str,.int .i64,.str,.int .i64,.int .i64,.int .i64,.int .i64,.int .i64]
abbrev lf5:List Lf:=[.ptr,.map,.map,.func,.int .i64,.int .i64]
abbrev lf6:List Lf:=[.int .i64,.int .i64,.int .i64,.int .i64,.int .i64,.int .i64,.int .i64,.int .i64,.int .i64,.int .i64,.int .i64,.int .i64,.int .i64,.int .i64,.int .i64,.int .i64,.int .i64,.int .i64,.int .i64,.int .i64,.int .i64,.int .i64,.int .i64,.int .i64,.int .i64,.int .i64,.int .i64,.int .i64,.int .i64,.int .i64,.int .i64,.int .i64,.int .i64,.int .i64,.int .i64,.int .i64,.int .i64,.int .i64,.int .i64,.int .i64,.int .i64,.int .i64,.int .i64,.int .i64,.int .i64,.int .i64,.int .i64,.int .i64,.int .i64,.int .i64,.int .i64,.int .i64,.int .i64,.int .i64,.int .i64,.int .i64,.int .i64,.int .i64,.int .i64,.int .i64]
abbrev lf7:List Lf:=[.int .i64,.int .i64,.int .i64,.int .i64,.int .i64,.int .i64,.int .i64,.int .i64,.int .i64,.int .i64,.int .i64,.int .i64,.int .i64,.int .i64,.int .i64,.int .i64,.int .i64,.int .i64,.int .i64,.int .i64,.int .i64,.int .i64,.int .i64,.int .i64,.int .i64,.int .i64,.int .i64,.int .i64,.int .i64,.int .i64,.int .i64,.int .i64,.int .i64,.int .i64,.int .i64,.int .i64,.int .i64,.int .i64,.int .i64,.int .i64,.int .i64,.int .i64,.int .i64,.int .i64,.int .i64,.int .i64,.int .i64,.int .i64,.int .i64,.int .i64,.int .i64,.int .i64,.int .i64,.int .i64,.int .i64,.int .i64,.int .i64,.int .i64,.int .i64,.int .i64,.int .i64]
abbrev lf8:List Lf:=[.int .i64,.int .i64,.int .i64,.int .i64,.int .i64,.int .i64,.int .i64,.int .i64,.int .i64,.int .i64,.int .i64,.int .i64,.int .i64,.int .i64,.int .i64,.int .i64,.int .i64,.int .i64,.int .i64,.int .i64,.int .i64,.int .i64,.int .i64,.int .i64,.int .i64,.int .i64,.int .i64,.int .i64,.int .i64,.int .i64,.int .i64,.int .i64,.int .i64,.int .i64,.int .i64,.int .i64,.int .i64,.int .i64,.int .i64,.int .i64,.int .i64,.int .i64,.int .i64,.int .i64,.int .i64,.int .i64,.int .i64,.int .i64,.int .i64,.int .i64,.int .i64,.int .i64,.int .i64,.int .i64,.int .i64,.int .i64,.int .i64,.int .i64,.int .i64,.int .i64,.int .i64,.int .i64]
abbrev lf9:List Lf:=[.str,.int .i64,.int .i64,.int .i64,.int .i64,.int .i64,.int .i64,.int .i64,.bool]
abbrev lf10:List Lf:=[.str,.str,.slice,.int .i64,.int .i64,.int .i64,.bool]
abbrev lf11:List Lf:=[.slice,.slice,.int .i64,.int .i64,.slice,.slice]
abbrev lf12:List Lf:=[.int .u8,.int .u8,.int .u8,.int .u8,.int .u8,.int .u8,.int .u8,.int .u8,.int .u8,.int .u8,.int .u8,.int .u8,.int .u8,.int .u8,.int .u8,.int .u8,.int .u8,.int .u8,.int .u8,.int .u8,.int .u8,.int .u8,.int .u8,.int .u8]
abbrev lf13:List Lf:=[.int .u64,.int .u64,.int .u64,.int .u64,.int .u64,.int .u64,.int .u64,.int .u64,.int .u64,.int .u64,.int .u64,.int .u64,.int .u64,.int .u64,.int .u64,.int .u64,.int .u64,.int .u64,.int .u64,.int .u64]
abbrev lf14:List Lf:=[.int .u8,.int .u8,.int .u8,.int .u8,.int .u8,.int .u8,.int .u8,.int .u8,.int .u8,.int .u8,.int .u8,.int .u8,.int .u8,.int .u8,.int .u8,.int .u8,.int .u8,.int .u8,.int .u8,.int .u8,.int .u8,.int .u8,.int .u8,.int .u8,.int .u8,.int .u8,.int .u8,.int .u8,.int .u8,.int .u8,.int .u8,.int .u8,.int .u8,.int .u8,.int .u8,.int .u8,.int .u8,.int .u8,.int .u8,.int .u8,.int .u8,.int .u8,.int .u8,.int .u8,.int .u8,.int .u8,.int .u8,.int .u8,.int .u8,.int .u8,.int .u8,.int .u8,.int .u8,.int .u8,.int .u8,.int .u8,.int .u8,.int .u8,.int .u8,.int .u8,.int .u8,.int .u8,.int .u8,.int .u8,.int .u8]
abbrev lf15:List Lf:=[.int .u8,.int .u8,.int .u8,.int .u8,.int .u8,.int .u8,.int .u8,.int .u8,.int .u8,.int .u8,.int .u8,.int .u8,.int .u8,.int .u8,.int .u8,.int .u8,.int .u8,.int .u8,.int .u8,.int .u8,.int .u8,.int .u8,.int .u8,.int .u8,.int .u8,.int .u8,.int .u8,.int .u8,.int .u8,.int .u8,.int .u8,.int .u8]
abbrev lf16:List Lf:=[.int .u8,.int .u8,.int .u8,.int .u8,.int .u8,.int .u8,.int .u8,.int .u8,.int .u8,.int .u8,.int .u8,.int .u8,.int .u8,.int .u8,.int .u8,.int .u8,.int .u8,.int .u8,.int .u8,.int .u8,.int .u8,.int .u8,.int .u8,.int .u8,.int .u8,.int .u8,.int .u8,.int .u8,.int .u8,.int .u8,.int .u8,.int .u8,.int .u8,.int .u8,.int .u8,.int .u8,.int .u8,.int .u8,.int .u8,.int .u8,.int .u8,.int .u8,.int .u8,.int .u8,.int .u8,.int .u8,.int .u8,.int .u8,.int .u8,.int .u8,.int .u8,.int .u8,.int .u8,.int .u8,.int .u8,.int .u8,.int .u8,.int .u8,.int .u8,.int .u8,.int .u8,.int .u8,.int .u8,.int .u8]
abbrev lf17:List Lf:=[.int .u64,.int .u64,.int .u32,.int .u8,.int .u8,.int .u8,.int .u8,.func,.ptr,.int .i32,.int .i32]
abbrev qa0(p:pt0):Value:=.agg #[.string p.1,.int .i64 p.2.1,.int .i64 p.2.2.1,.int .i64 p.2.2.2.1,.int .i64 p.2.2.2.2.1,.int .i64 p.2.2.2.2.2.1]
abbrev qa1(p:pt1):Value:=.agg #[.int .i64 p.1,.string p.2.1,.string p.2.2.1,.int .i64 p.2.2.2.1,.int .i64 p.2.2.2.2.1,.string p.2.2.2.2.2.1,.int .i64 p.2.2.2.2.2.2.1,.int .i64 p.2.2.2.2.2.2.2.1,.int .i64 p.2.2.2.2.2.2.2.2.1,.int .i64 p.2.2.2.2.2.2.2.2.2.1,.int .i64 p.2.2.2.2.2.2.2.2.2.2.1,.string p.2.2.2.2.2.2.2.2.2.2.2.1,.string p.2.2.2.2.2.2.2.2.2.2.2.2.1,.slice p.2.2.2.2.2.2.2.2.2.2.2.2.2.1.a p.2.2.2.2.2.2.2.2.2.2.2.2.2.1.len p.2.2.2.2.2.2.2.2.2.2.2.2.2.1.cap,.int .i64 p.2.2.2.2.2.2.2.2.2.2.2.2.2.2.1]
abbrev qa2(p:pt8):Value:=.agg #[.bool p.1,.bool p.2.1,.bool p.2.2.1,.bool p.2.2.2.1,.bool p.2.2.2.2.1,.bool p.2.2.2.2.2.1]
abbrev qa3(p:pt14):Value:=.agg #[.string p.1,.int .i64 p.2.1,.string p.2.2.1,.int .i64 p.2.2.2.1,.int .i64 p.2.2.2.2.1,.int .i64 p.2.2.2.2.2.1,.int .i64 p.2.2.2.2.2.2.1,.int .i64 p.2.2.2.2.2.2.2.1]
abbrev qa4(p:pt17):Value:=.agg #[.slice p.1.a p.1.len p.1.cap,.slice p.2.1.a p.2.1.len p.2.1.cap,.int .i64 p.2.2.1,.int .i64 p.2.2.2.1,.slice p.2.2.2.2.1.a p.2.2.2.2.1.len p.2.2.2.2.1.cap,.slice p.2.2.2.2.2.1.a p.2.2.2.2.2.1.len p.2.2.2.2.2.1.cap]
abbrev qa5(p:pt19):Value:=.agg #[.string p.1,.int .i64 p.2.1,.int .i64 p.2.2.1,.int .i64 p.2.2.2.1,.int .i64 p.2.2.2.2.1,.int .i64 p.2.2.2.2.2.1,.int .i64 p.2.2.2.2.2.2.1,.int .i64 p.2.2.2.2.2.2.2.1,.bool p.2.2.2.2.2.2.2.2.1]
abbrev qa6(p:pt20):Value:=.agg #[.string p.1,.string p.2.1,.slice p.2.2.1.a p.2.2.1.len p.2.2.1.cap,.int .i64 p.2.2.2.1,.int .i64 p.2.2.2.2.1,.int .i64 p.2.2.2.2.2.1,.bool p.2.2.2.2.2.2.1]
abbrev eI6:E1:=.one (.int .i64)
abbrev eS6:E1:=.one .str
abbrev eL6:E1:=.one .slice
abbrev eB6:E1:=.one .bool
abbrev eP6:E1:=.one .ptr
abbrev rI:RT:=.one eI6
abbrev rS:RT:=.one eS6
abbrev rL:RT:=.one eL6
abbrev rB:RT:=.one eB6
abbrev rP:RT:=.one eP6
abbrev Sv6(v:Sl):Value:=.slice v.a v.len v.cap
abbrev Ad6(b n:Nat):Addr:=(⟨b,0,none⟩:Addr).add n
noncomputable abbrev Pr:Program:=Tryz.prog
abbrev z56:Nat:=3
abbrev z5G:Nat:=7
abbrev z5E:Nat:=8
abbrev z5F:Nat:=9
abbrev z2K:Nat:=10
abbrev z02:Nat:=11
abbrev z2h:Nat:=12
abbrev z3x:Nat:=13
abbrev z4U:Nat:=14
abbrev z5f:Nat:=15
abbrev z1J:Nat:=16
abbrev z2J:Nat:=17
abbrev z8z:Nat:=19
abbrev z5z:Nat:=27
abbrev z1u:Nat:=28
abbrev z9x:Nat:=29
abbrev z0e:Nat:=30
abbrev z4V:Nat:=31
abbrev z1D:Nat:=32
abbrev z1N:Nat:=33
abbrev z5d:Nat:=34
abbrev z1E:Nat:=35
abbrev z27:Nat:=36
abbrev z2A:Nat:=37
abbrev z25:Nat:=38
abbrev z1Z:Nat:=39
abbrev z1L:Nat:=40
abbrev z23:Nat:=41
abbrev z1M:Nat:=42
abbrev z1z:Nat:=43
abbrev z4k:Nat:=44
abbrev z6a:Nat:=45
abbrev z4l:Nat:=46
abbrev z2e:Nat:=47
abbrev z2T:Nat:=49
abbrev zbV:Nat:=50
abbrev zbT:Nat:=51
abbrev zbS:Nat:=52
abbrev zdK:Nat:=53
abbrev zdL:Nat:=54
abbrev z1R:Nat:=56
abbrev z9w:Nat:=60
abbrev z5y:Nat:=61
abbrev z3Q:Nat:=62
abbrev z3R:Nat:=63
abbrev zav:Nat:=64
abbrev z8W:Nat:=65
abbrev z7v:Nat:=66
abbrev z3P:Nat:=67
abbrev z0R:Nat:=68
abbrev z0q:Nat:=69
abbrev z0y:Nat:=70
abbrev z4c:Nat:=71
abbrev z6B:Nat:=72
abbrev zfv:Nat:=73
abbrev zgJ:Nat:=74
abbrev z3O:Nat:=75
abbrev z8y:Nat:=76
abbrev z4e:Nat:=77
abbrev z1b:Nat:=79
abbrev z4y:Nat:=81
abbrev z68:Nat:=82
abbrev z4Q:Nat:=83
abbrev z0k:Nat:=84
abbrev z7c:Nat:=85
abbrev z5x:Nat:=86
abbrev z7e:Nat:=87
abbrev z1H:Nat:=88
abbrev z61:Nat:=89
abbrev z43:Nat:=90
abbrev z7a:Nat:=93
abbrev z5m:Nat:=94
abbrev z6w:Nat:=95
abbrev z5w:Nat:=96
abbrev z3y:Nat:=97
abbrev z60:Nat:=98
abbrev zbU:Nat:=99
abbrev z3N:Nat:=100
abbrev z6E:Nat:=101
abbrev zar:Nat:=102
abbrev z66:Nat:=103
abbrev z2G:Nat:=104
abbrev z3l:Nat:=105
abbrev z2P:Nat:=106
abbrev z4j:Nat:=107
abbrev z8V:Nat:=108
abbrev z67:Nat:=109
abbrev z5D:Nat:=110
abbrev z38:Nat:=111
abbrev z4z:Nat:=112
abbrev z5Z:Nat:=113
abbrev z19:Nat:=114
abbrev z3j:Nat:=115
abbrev z1r:Nat:=116
abbrev z2q:Nat:=117
abbrev z1F:Nat:=118
abbrev z3M:Nat:=120
abbrev z1o:Nat:=121
abbrev z4d:Nat:=122
abbrev z0I:Nat:=123
abbrev z8A:Nat:=124
abbrev zdI:Nat:=125
abbrev z4S:Nat:=132
abbrev z4B:Nat:=133
abbrev z7u:Nat:=134
abbrev z1k:Nat:=135
abbrev z9r:Nat:=136
abbrev zdJ:Nat:=137
abbrev z2X:Nat:=142
abbrev z2W:Nat:=143
abbrev z3g:Nat:=144
abbrev z3f:Nat:=145
abbrev z9s:Nat:=146
abbrev z6K:Nat:=149
abbrev zas:Nat:=150
abbrev z9p:Nat:=151
abbrev z7b:Nat:=152
abbrev z6x:Nat:=153
abbrev z1t:Nat:=154
abbrev z2C:Nat:=155
abbrev z4x:Nat:=156
abbrev z5v:Nat:=157
abbrev z5u:Nat:=158
abbrev zbA:Nat:=159
abbrev z6b:Nat:=160
abbrev zat:Nat:=161
abbrev z7L:Nat:=162
abbrev z1m:Nat:=163
abbrev z4T:Nat:=165
abbrev z55:Nat:=166
abbrev z78:Nat:=167
abbrev z79:Nat:=168
abbrev z5e:Nat:=169
abbrev z2Y:Nat:=170
abbrev z9v:Nat:=171
abbrev z3h:Nat:=172
abbrev z9u:Nat:=173
abbrev z5n:Nat:=174
abbrev z4i:Nat:=175
abbrev z2l:Nat:=176
abbrev z9o:Nat:=177
abbrev z1l:Nat:=178
abbrev z9t:Nat:=179
abbrev z4C:Nat:=180
abbrev z4A:Nat:=181
abbrev z3n:Nat:=182
abbrev z63:Nat:=183
abbrev z8U:Nat:=184
abbrev z7d:Nat:=185
abbrev zfu:Nat:=186
abbrev z5C:Nat:=187
abbrev z7O:Nat:=188
abbrev z2k:Nat:=191
abbrev z3o:Nat:=192
abbrev z3L:Nat:=193
abbrev z1h:Nat:=194
abbrev z0H:Nat:=202
abbrev z7N:Nat:=203
abbrev z7M:Nat:=210
abbrev zbB:Nat:=211
abbrev zau:Nat:=212
abbrev z6F:Nat:=213
abbrev z1f:Nat:=214
abbrev z5N:Nat:=215
abbrev z1G:Nat:=219
abbrev z5B:Nat:=222
abbrev z69:Nat:=223
abbrev z5Y:Nat:=224
abbrev z42:Nat:=225
abbrev z9q:Nat:=226
abbrev z6D:Nat:=227
abbrev z65:Nat:=229
abbrev z1p:Nat:=230
abbrev z0T:Nat:=231
abbrev z0V:Nat:=232
abbrev z7K:Nat:=233
abbrev z1q:Nat:=234
abbrev z5A:Nat:=235
abbrev z1s:Nat:=236
abbrev z1A:Nat:=237
abbrev z1e:Nat:=238
abbrev z1g:Nat:=239
abbrev z0A:Nat:=240
abbrev z1S:Nat:=241
abbrev z2w:Nat:=242
abbrev zbb:Nat:=243
abbrev z4R:Nat:=244
abbrev z1U:Nat:=245
abbrev z7t:Nat:=246
abbrev z2v:Nat:=258
abbrev z7g:Nat:=259
abbrev z0o:Nat:=260
abbrev z2n:Nat:=272
abbrev z0K:Nat:=279
abbrev z0x:Nat:=280
abbrev z6C:Nat:=281
abbrev z62:Nat:=283
abbrev z2V:Nat:=284
abbrev z0i:Nat:=285
abbrev z1i:Nat:=286
abbrev z3K:Nat:=287
abbrev z3m:Nat:=288
abbrev z0z:Nat:=289
abbrev z0n:Nat:=290
abbrev z3F:Nat:=291
abbrev z2B:Nat:=292
abbrev z64:Nat:=293
abbrev z3e:Nat:=300
abbrev z2U:Nat:=314
abbrev z95:Nat:=315
abbrev z2f:Nat:=316
abbrev z0a:Nat:=318
abbrev z0S:Nat:=325
abbrev z0c:Nat:=326
abbrev z1I:Nat:=338
abbrev z0O:Nat:=343
abbrev T_:Nat:=0
abbrev z0g:Nat:=3
abbrev z6P:Nat:=4
abbrev zfR:Nat:=5
abbrev z01:Nat:=9
abbrev zbZ:Nat:=20
abbrev z05:Nat:=23
abbrev z0Y:Nat:=24
abbrev z0G:Nat:=31
abbrev z08:Nat:=33
abbrev z2r:Nat:=34
abbrev z6G:Nat:=35
abbrev z0r:Nat:=37
abbrev z0w:Nat:=39
abbrev z1w:Nat:=42
abbrev z3G:Nat:=45
abbrev z09:Nat:=56
abbrev z03:Nat:=69
abbrev z0P:Nat:=73
abbrev z3r:Nat:=74
abbrev z0L:Nat:=76
abbrev zaD:Nat:=78
abbrev zja:Nat:=80
abbrev z4X:Nat:=81
abbrev z0X:Nat:=84
abbrev z4E:Nat:=87
abbrev z0v:Nat:=101
abbrev z0F:Nat:=102
abbrev z3U:Nat:=103
abbrev z04:Nat:=105
abbrev zfU:Nat:=107
abbrev z0d:Nat:=128
abbrev z0b:Nat:=132
abbrev z0j:Nat:=157
abbrev z2i:Nat:=165
abbrev z0J:Nat:=166
abbrev zfT:Nat:=171
abbrev z0U:Nat:=173
abbrev z3V:Nat:=175
abbrev z0u:Nat:=187
abbrev z4Y:Nat:=188
abbrev zcP:Nat:=190
abbrev zcO:Nat:=198
abbrev z0m:Nat:=200
abbrev z4o:Nat:=202
abbrev zeb:Nat:=204
abbrev z1O:Nat:=205
abbrev z9F:Nat:=207
abbrev z3t:Nat:=217
abbrev zfS:Nat:=226
abbrev z5H:Nat:=256
abbrev z3W:Nat:=271
abbrev z0f:Nat:=273
abbrev z0l:Nat:=277
abbrev z0M:Nat:=280
abbrev z0s:Nat:=281
abbrev z3s:Nat:=290
abbrev z3q:Nat:=294
abbrev z2a:Nat:=296
abbrev zaF:Nat:=303
abbrev zo3:Nat:=307
abbrev z1n:Nat:=315
abbrev z6y:Nat:=319
abbrev z2Q:Nat:=324
abbrev zaE:Nat:=328
abbrev z0t:Nat:=332
abbrev z0Q:Nat:=334
abbrev z0B:Nat:=335
abbrev z0C:Nat:=337
abbrev z0E:Nat:=353
abbrev z2x:Nat:=356
abbrev z6d:Nat:=362
abbrev z48:Nat:=385
abbrev z1c:Nat:=404
abbrev z07:Nat:=406
def s_:ByteArray:=⟨#[]⟩
def z2j:ByteArray:=⟨#[102,114,111,110,116]⟩
def z2O:ByteArray:=⟨#[119,101,98,45,49]⟩
def s_scale_web_1__1ec9:ByteArray:=⟨#[115,99,97,108,101,32,119,101,98,45,49,32]⟩
def s_web:ByteArray:=⟨#[119,101,98]⟩
def zq7:ByteArray:=⟨#[115,101,110,116]⟩
def s_bad_kind:ByteArray:=⟨#[98,97,100,32,107,105,110,100]⟩
def s_tick_1:ByteArray:=⟨#[116,105,99,107,32,49]⟩
def zlH:ByteArray:=⟨#[97,112,105]⟩
def zlI:ByteArray:=⟨#[97,45,98]⟩
def s_table_front_web_1_100:ByteArray:=⟨#[116,97,98,108,101,32,102,114,111,110,116,32,119,101,98,45,49,58,49,48,48]⟩
def zne:ByteArray:=⟨#[98,97,100]⟩
def s__:ByteArray:=⟨#[45]⟩
def z9n:ByteArray:=⟨#[32]⟩
def zcx:ByteArray:=⟨#[99,111,110,102,105,103]⟩
def zjL:ByteArray:=⟨#[114,111,117,116,101]⟩
def znd:ByteArray:=⟨#[100,114,111,112,112,101,100]⟩
def s_scale:ByteArray:=⟨#[115,99,97,108,101]⟩
def s_up:ByteArray:=⟨#[117,112]⟩
def zcw:ByteArray:=⟨#[112,114,111,118,101,100]⟩
def zs2:ByteArray:=⟨#[100,111,119,110]⟩
def zn8:ByteArray:=⟨#[116,105,99,107]⟩
def zq8:ByteArray:=⟨#[115,97,109,101]⟩
def z91:ByteArray:=⟨#[114,101,118,105,115,105,111,110]⟩
def zn9:ByteArray:=⟨#[116,97,98,108,101]⟩
def znc:ByteArray:=⟨#[109,97,100,101]⟩
def zqe:ByteArray:=⟨#[103,111,110,101]⟩
def s_fleet:ByteArray:=⟨#[102,108,101,101,116]⟩
def s_ok:ByteArray:=⟨#[111,107]⟩
def zqa:ByteArray:=⟨#[110,97,109,101]⟩
def zs4:ByteArray:=⟨#[97,114,103]⟩
def zqc:ByteArray:=⟨#[108,111,110,103]⟩
def zs1:ByteArray:=⟨#[115,117,109]⟩
def s_twice:ByteArray:=⟨#[116,119,105,99,101]⟩
def zq9:ByteArray:=⟨#[110,111,110,101]⟩
def zhp:ByteArray:=⟨#[101,114,114,111,114]⟩
def znb:ByteArray:=⟨#[115,116,97,108,101]⟩
def zqf:ByteArray:=⟨#[102,117,108,108]⟩
def zna:ByteArray:=⟨#[115,116,97,116,101]⟩
def zs3:ByteArray:=⟨#[99,117,116]⟩
def zqb:ByteArray:=⟨#[109,111,114,101]⟩
def zqd:ByteArray:=⟨#[107,105,110,100]⟩
def s_refused:ByteArray:=⟨#[114,101,102,117,115,101,100]⟩
def s_no_route:ByteArray:=⟨#[110,111,45,114,111,117,116,101]⟩
def s_overflow:ByteArray:=⟨#[111,118,101,114,102,108,111,119]⟩
def zlG:ByteArray:=⟨#[112,111,100,45,108,111,115,116]⟩
def s_timeout:ByteArray:=⟨#[116,105,109,101,111,117,116]⟩
def s___b5df:ByteArray:=⟨#[58]⟩
def s___b5e2:ByteArray:=⟨#[61]⟩
def zn7:ByteArray:=⟨#[119,97,105,116,115]⟩
def zqg:ByteArray:=⟨#[100,111,110,101]⟩
def tq0:TI:=⟨.func,1,some (.one (.func)),some [.nilFunc]⟩
def tq1:TI:=⟨.int .i64,1,some (.one (.int .i64)),some [.int .i64 0]⟩
def tq2:TI:=⟨.int .u8,1,some (.one (.int .u8)),some [.int .u8 0]⟩
def tq3:TI:=⟨.struct [(2,0),(3,1),(4,2),(6,3)],4,some (.agg [.int .i64,.int .i64,.bool,.int .u8]),some [.int .i64 0,.int .i64 0,.bool false,.int .u8 0]⟩
def tq4:TI:=⟨.str,1,some (.one (.str)),some [.string s_]⟩
def tq5:TI:=⟨.int .u64,1,some (.one (.int .u64)),some [.int .u64 0]⟩
def tq6:TI:=⟨.struct [(9,0),(12,1)],2,some (.agg [.str,.int .u64]),some [.string s_,.int .u64 0]⟩
def tq7:TI:=⟨.ptr,1,some (.one (.ptr)),some [.pointer none]⟩
def tq8:TI:=⟨.struct [(17,0)],1,some (.agg [.ptr]),some [.pointer none]⟩
def tq9:TI:=⟨.iface,1,some (.one (.iface)),some [.nilIface]⟩
def tq10:TI:=⟨.int .i32,1,some (.one (.int .i32)),some [.int .i32 0]⟩
def tq11:TI:=⟨.struct [(9,0),(3,1),(3,2),(3,3),(3,4),(3,5)],6,some (.agg lf0),some [.string s_,.int .i64 0,.int .i64 0,.int .i64 0,.int .i64 0,.int .i64 0]⟩
def tq12:TI:=⟨.struct [(3,0),(3,1)],2,some (.agg [.int .i64,.int .i64]),some [.int .i64 0,.int .i64 0]⟩
def tq13:TI:=⟨.struct [(9,0),(9,1),(35,2),(3,3)],4,some (.agg [.str,.str,.slice,.int .i64]),some [.string s_,.string s_,.slice none 0 0,.int .i64 0]⟩
def tq14:TI:=⟨.struct [(3,0),(9,1),(9,2),(3,3),(3,4),(23,5),(37,11)],15,some (.agg lf1),some [.int .i64 0,.string s_,.string s_,.int .i64 0,.int .i64 0,.string s_,.int .i64 0,.int .i64 0,.int .i64 0,.int .i64 0,.int .i64 0,.string s_,.string s_,.slice none 0 0,.int .i64 0]⟩
def tq15:TI:=⟨.struct [(3,0),(3,1),(3,2)],3,some (.agg [.int .i64,.int .i64,.int .i64]),some [.int .i64 0,.int .i64 0,.int .i64 0]⟩
def tq16:TI:=⟨.struct [(9,0),(9,1),(3,2)],3,some (.agg [.str,.str,.int .i64]),some [.string s_,.string s_,.int .i64 0]⟩
def tq17:TI:=⟨.map 9 81,1,some (.one (.map)),some [.map none]⟩
def tq18:TI:=⟨.struct [(70,0),(71,1),(72,2),(73,3),(74,4),(76,5),(3,6)],7,some (.agg lf2),some [.pointer none,.pointer none,.pointer none,.pointer none,.pointer none,.map none,.int .i64 0]⟩
def tq19:TI:=⟨.struct [(85,0),(84,1)],3,some (.agg [.ptr,.int .i64,.int .i64]),some [.pointer none,.int .i64 0,.int .i64 0]⟩
def tq20:TI:=⟨.struct [(9,0),(3,1)],2,some (.agg [.str,.int .i64]),some [.string s_,.int .i64 0]⟩
def tq21:TI:=⟨.struct [(102,0),(103,1)],2,some (.agg [.slice,.slice]),some [.slice none 0 0,.slice none 0 0]⟩
def tq22:TI:=⟨.struct [(4,0),(4,1),(4,2),(4,3),(4,4),(4,5)],6,some (.agg lf3),some [.bool false,.bool false,.bool false,.bool false,.bool false,.bool false]⟩
def tq23:TI:=⟨.struct [(3,0),(3,1),(3,2),(9,3)],4,some (.agg [.int .i64,.int .i64,.int .i64,.str]),some [.int .i64 0,.int .i64 0,.int .i64 0,.string s_]⟩
def tq24:TI:=⟨.struct [(9,0),(3,1),(23,2)],8,some (.agg lf4),some [.string s_,.int .i64 0,.string s_,.int .i64 0,.int .i64 0,.int .i64 0,.int .i64 0,.int .i64 0]⟩
def tq25:TI:=⟨.struct [(166,0),(167,1)],2,some (.agg [.map,.func]),some [.map none,.nilFunc]⟩
def tq26:TI:=⟨.struct [(73,0),(165,1),(169,2),(3,4),(3,5)],6,some (.agg lf5),some [.pointer none,.map none,.map none,.nilFunc,.int .i64 0,.int .i64 0]⟩
def tq27:TI:=⟨.struct [(187,0),(188,1),(3,2),(3,3)],4,some (.agg [.map,.map,.int .i64,.int .i64]),some [.map none,.map none,.int .i64 0,.int .i64 0]⟩
def tq28:TI:=⟨.struct [(191,0),(194,1),(3,2)],3,some (.agg [.ptr,.ptr,.int .i64]),some [.pointer none,.pointer none,.int .i64 0]⟩
def tq29:TI:=⟨.map 9 157,1,some (.one (.map)),some [.map none]⟩
def tq30:TI:=⟨.map 9 4,1,some (.one (.map)),some [.map none]⟩
def tq31:TI:=⟨.struct [(200,0),(202,1)],2,some (.agg [.map,.map]),some [.map none,.map none]⟩
def tq32:TI:=⟨.struct [(205,0)],1,some (.agg [.map]),some [.map none]⟩
def tq33:TI:=⟨.struct [(33,0)],1,some (.agg [.slice]),some [.slice none 0 0]⟩
def tq34:TI:=⟨.struct [(9,0),(9,1)],2,some (.agg [.str,.str]),some [.string s_,.string s_]⟩
def tq35:TI:=⟨.struct [(229,0),(80,1)],2,some (.agg [.ptr,.slice]),some [.pointer none,.slice none 0 0]⟩
def tq36:TI:=⟨.struct [(9,0),(182,1)],2,some (.agg [.str,.ptr]),some [.string s_,.pointer none]⟩
def tq37:TI:=⟨.struct [(267,0),(3,60)],61,some (.agg lf7),some (List.replicate 61 (.int .i64 0))⟩
def tq38:TI:=⟨.struct [(269,0),(3,61)],62,some (.agg lf8),some (List.replicate 62 (.int .i64 0))⟩
def tq39:TI:=⟨.struct [(23,0),(3,6),(3,7),(4,8)],9,some (.agg lf9),some [.string s_,.int .i64 0,.int .i64 0,.int .i64 0,.int .i64 0,.int .i64 0,.int .i64 0,.int .i64 0,.bool false]⟩
def tq40:TI:=⟨.struct [(37,0),(3,4),(3,5),(4,6)],7,some (.agg lf10),some [.string s_,.string s_,.slice none 0 0,.int .i64 0,.int .i64 0,.int .i64 0,.bool false]⟩
def tq41:TI:=⟨.arr 2 9,2,some (.agg [.str,.str]),some [.string s_,.string s_]⟩
def tq42:TI:=⟨.struct [(102,0),(102,1),(3,2),(3,3),(105,4)],6,some (.agg lf11),some [.slice none 0 0,.slice none 0 0,.int .i64 0,.int .i64 0,.slice none 0 0,.slice none 0 0]⟩
def tq43:TI:=⟨.struct [(315,0)],1,some (.agg [.slice]),some [.slice none 0 0]⟩
def tq44:TI:=⟨.struct [(317,0),(3,1)],2,some (.agg [.slice,.int .i64]),some [.slice none 0 0,.int .i64 0]⟩
def tq45:TI:=⟨.struct [(324,0),(3,1)],2,some (.agg [.map,.int .i64]),some [.map none,.int .i64 0]⟩
def tq46:TI:=⟨.struct [(3,0),(326,1)],3,some (.agg [.int .i64,.map,.int .i64]),some [.int .i64 0,.map none,.int .i64 0]⟩
def tq47:TI:=⟨.struct [(332,0),(193,1)],2,some (.agg [.map,.func]),some [.map none,.nilFunc]⟩
def tq48:TI:=⟨.struct [(335,0),(196,1)],2,some (.agg [.map,.func]),some [.map none,.nilFunc]⟩
def tq49:TI:=⟨.struct [(80,0),(4,1)],2,some (.agg [.slice,.bool]),some [.slice none 0 0,.bool false]⟩
def tq50:TI:=⟨.struct [(9,0),(9,1),(233,2)],3,some (.agg [.str,.str,.iface]),some [.string s_,.string s_,.nilIface]⟩
def tq51:TI:=⟨.struct [(9,0)],1,some (.agg [.str]),some [.string s_]⟩
def tq52:TI:=⟨.struct [(17,0),(17,1),(17,2),(9,3)],4,some (.agg [.ptr,.ptr,.ptr,.str]),some [.pointer none,.pointer none,.pointer none,.string s_]⟩
def tq53:TI:=⟨.struct [(465,0)],0,some (.agg []),some []⟩
def tq54:TI:=⟨.struct [(12,0),(12,1),(382,2),(468,3),(5,4),(5,5),(469,6),(470,7),(350,8),(471,9),(472,10)],11,some (.agg lf17),some [.int .u64 0,.int .u64 0,.int .u32 0,.int .u8 0,.int .u8 0,.int .u8 0,.int .u8 0,.nilFunc,.pointer none,.int .i32 0,.int .i32 0]⟩
def Dt:Tb:=⟨476,377,(.node ⟨.tuple [],1,none,none⟩ (.node tq0 (.node tq1 (.node tq3 (.node tq7 (.node tq12 (.node tq0 (.node tq0 (.node tq36 .nil .nil) (.node tq0 .nil .nil)) (.node tq7 (.node tq44 .nil .nil) (.node tq0 .nil .nil))) (.node tq0 (.node tq0 (.node tq0 .nil .nil) (.node tq0 .nil .nil)) (.node tq0 (.node tq0 .nil .nil) .nil))) (.node tq0 (.node tq0 (.node tq0 (.node tq38 .nil .nil) (.node ⟨.tuple [80,9],1,none,none⟩ .nil .nil)) (.node tq32 (.node ⟨.map 9 277,1,some (.one (.map)),some [.map none]⟩ .nil .nil) (.node tq52 .nil .nil))) (.node tq0 (.node tq7 (.node ⟨.arr 2 3,2,some (.agg [.int .i64,.int .i64]),some [.int .i64 0,.int .i64 0]⟩ .nil .nil) (.node tq0 .nil .nil)) (.node tq0 (.node tq0 .nil .nil) .nil)))) (.node tq11 (.node tq14 (.node tq7 (.node tq0 (.node tq0 .nil .nil) (.node tq0 .nil .nil)) (.node tq29 (.node tq46 .nil .nil) (.node tq7 .nil .nil))) (.node ⟨.slice 217,1,some (.one (.slice)),some [.slice none 0 0]⟩ (.node tq0 (.node tq42 .nil .nil) (.node tq0 .nil .nil)) (.node tq35 (.node tq0 .nil .nil) .nil))) (.node tq16 (.node tq19 (.node tq0 (.node tq0 .nil .nil) (.node tq0 .nil .nil)) (.node tq0 (.node ⟨.tuple [39,52],1,none,none⟩ .nil .nil) (.node tq10 .nil .nil))) (.node tq0 (.node tq0 (.node tq0 .nil .nil) (.node tq7 .nil .nil)) (.node tq0 (.node ⟨.tuple [3,374],1,none,none⟩ .nil .nil) .nil))))) (.node tq4 (.node tq8 (.node ⟨.slice 56,1,some (.one (.slice)),some [.slice none 0 0]⟩ (.node tq0 (.node tq23 (.node ⟨.tuple [3,4],1,none,none⟩ .nil .nil) (.node tq0 .nil .nil)) (.node tq0 (.node tq0 .nil .nil) (.node tq0 .nil .nil))) (.node tq0 (.node tq0 (.node ⟨.tuple [290,290],1,none,none⟩ .nil .nil) (.node tq0 .nil .nil)) (.node tq0 (.node tq12 .nil .nil) .nil))) (.node tq0 (.node tq0 (.node ⟨.tuple [9,4],1,none,none⟩ (.node tq0 .nil .nil) (.node tq0 .nil .nil)) (.node tq33 (.node tq0 .nil .nil) (.node tq53 .nil .nil))) (.node tq0 (.node tq0 (.node ⟨.arr 4 3,4,some (.agg [.int .i64,.int .i64,.int .i64,.int .i64]),some [.int .i64 0,.int .i64 0,.int .i64 0,.int .i64 0]⟩ .nil .nil) (.node ⟨.arr 65 5,65,some (.agg lf14),some (List.replicate 65 (.int .u8 0))⟩ .nil .nil)) (.node tq0 (.node tq0 .nil .nil) .nil)))) (.node tq7 (.node tq0 (.node tq17 (.node ⟨.tuple [24,52],1,none,none⟩ (.node ⟨.arr 60 3,60,some (.agg lf6),some (List.replicate 60 (.int .i64 0))⟩ .nil .nil) (.node tq0 .nil .nil)) (.node tq31 (.node ⟨.slice 329,1,some (.one (.slice)),some [.slice none 0 0]⟩ .nil .nil) (.node ⟨.arr 64 5,64,some (.agg lf16),some (List.replicate 64 (.int .u8 0))⟩ .nil .nil))) (.node tq22 (.node tq26 (.node tq0 .nil .nil) (.node tq1 .nil .nil)) (.node tq0 (.node ⟨.tuple [9,9],1,none,none⟩ .nil .nil) .nil))) (.node tq0 (.node tq0 (.node tq0 (.node tq0 .nil .nil) (.node tq0 .nil .nil)) (.node tq0 (.node tq0 .nil .nil) (.node tq0 .nil .nil))) (.node tq0 (.node ⟨.map 3 256,1,some (.one (.map)),some [.map none]⟩ (.node ⟨.slice 356,1,some (.one (.slice)),some [.slice none 0 0]⟩ .nil .nil) (.node tq0 .nil .nil)) (.node tq0 (.node tq0 .nil .nil) .nil)))))) (.node tq2 (.node tq4 (.node tq7 (.node ⟨.slice 9,1,some (.one (.slice)),some [.slice none 0 0]⟩ (.node tq0 (.node tq0 (.node ⟨.tuple [256,4],1,none,none⟩ .nil .nil) (.node tq7 .nil .nil)) (.node tq0 (.node tq0 .nil .nil) (.node tq0 .nil .nil))) (.node tq0 (.node tq0 (.node tq0 .nil .nil) (.node tq0 .nil .nil)) (.node tq12 (.node tq7 .nil .nil) .nil))) (.node tq0 (.node tq7 (.node ⟨.tuple [23,3,3,4],1,none,none⟩ (.node tq39 .nil .nil) (.node ⟨.other,1,none,none⟩ .nil .nil)) (.node tq7 (.node tq48 .nil .nil) (.node ⟨.arr 0 16,0,some (.agg []),some []⟩ .nil .nil))) (.node tq0 (.node tq0 (.node tq0 .nil .nil) (.node tq0 .nil .nil)) (.node tq0 (.node tq0 .nil .nil) .nil)))) (.node tq0 (.node tq0 (.node tq7 (.node tq0 (.node tq0 .nil .nil) (.node tq0 .nil .nil)) (.node tq30 (.node tq0 .nil .nil) (.node tq51 .nil .nil))) (.node tq21 (.node tq25 (.node ⟨.tuple [296,4],1,none,none⟩ .nil .nil) (.node ⟨.tuple [382,382],1,none,none⟩ .nil .nil)) (.node tq9 (.node tq0 .nil .nil) .nil))) (.node ⟨.slice 39,1,some (.one (.slice)),some [.slice none 0 0]⟩ (.node tq0 (.node tq0 (.node ⟨.map 9 9,1,some (.one (.map)),some [.map none]⟩ .nil .nil) (.node tq7 .nil .nil)) (.node tq34 (.node tq0 .nil .nil) (.node tq54 .nil .nil))) (.node tq0 (.node tq0 (.node tq0 .nil .nil) (.node ⟨.tuple [384,233],1,none,none⟩ .nil .nil)) (.node ⟨.tuple [132,4],1,none,none⟩ (.node tq0 .nil .nil) .nil))))) (.node tq6 (.node tq10 (.node tq13 (.node ⟨.map 3 34,1,some (.one (.map)),some [.map none]⟩ (.node tq0 (.node tq0 .nil .nil) (.node tq49 .nil .nil)) (.node tq28 (.node tq45 .nil .nil) (.node tq0 .nil .nil))) (.node tq20 (.node ⟨.map 3 173,1,some (.one (.map)),some [.map none]⟩ (.node tq41 .nil .nil) (.node tq0 .nil .nil)) (.node tq7 (.node tq0 .nil .nil) .nil))) (.node ⟨.tuple [27,52],1,none,none⟩ (.node tq7 (.node tq0 (.node tq40 .nil .nil) (.node tq12 .nil .nil)) (.node tq0 (.node ⟨.slice 80,1,some (.one (.slice)),some [.slice none 0 0]⟩ .nil .nil) (.node tq2 .nil .nil))) (.node tq0 (.node tq0 (.node tq0 .nil .nil) (.node tq0 .nil .nil)) (.node tq0 (.node tq0 .nil .nil) .nil)))) (.node tq0 (.node tq15 (.node tq18 (.node tq0 (.node tq37 .nil .nil) (.node ⟨.arr 24 5,24,some (.agg lf12),some (List.replicate 24 (.int .u8 0))⟩ .nil .nil)) (.node ⟨.map 9 296,1,some (.one (.map)),some [.map none]⟩ (.node tq47 .nil .nil) (.node tq0 .nil .nil))) (.node tq0 (.node tq20 (.node tq0 .nil .nil) (.node tq0 .nil .nil)) (.node tq0 (.node tq0 .nil .nil) .nil))) (.node tq0 (.node tq0 (.node tq24 (.node tq0 .nil .nil) (.node ⟨.slice 102,1,some (.one (.slice)),some [.slice none 0 0]⟩ .nil .nil)) (.node tq0 (.node tq0 .nil .nil) .nil)) (.node tq0 (.node tq27 (.node tq43 .nil .nil) (.node tq50 .nil .nil)) (.node ⟨.tuple [9,52],1,none,none⟩ (.node tq0 .nil .nil) .nil))))))) (.node tq1 (.node ⟨.bool,1,some (.one (.bool)),some [.bool false]⟩ (.node tq3 (.node tq7 (.node tq0 (.node tq0 (.node ⟨.slice 132,1,some (.one (.slice)),some [.slice none 0 0]⟩ (.node tq36 .nil .nil) (.node tq5 .nil .nil)) (.node tq0 (.node tq0 .nil .nil) (.node tq0 .nil .nil))) (.node ⟨.tuple [33,52],1,none,none⟩ (.node tq0 (.node tq0 .nil .nil) (.node tq5 .nil .nil)) (.node tq0 (.node ⟨.tuple [173,4],1,none,none⟩ .nil .nil) .nil))) (.node tq0 (.node ⟨.slice 5,1,some (.one (.slice)),some [.slice none 0 0]⟩ (.node tq0 (.node tq39 .nil .nil) (.node tq0 .nil .nil)) (.node tq0 (.node tq48 .nil .nil) (.node tq52 .nil .nil))) (.node tq0 (.node ⟨.tuple [175,4],1,none,none⟩ (.node tq0 .nil .nil) (.node tq0 .nil .nil)) (.node tq0 (.node tq0 .nil .nil) .nil)))) (.node ⟨.slice 3,1,some (.one (.slice)),some [.slice none 0 0]⟩ (.node ⟨.tuple [24,24],1,none,none⟩ (.node tq7 (.node tq0 (.node tq0 .nil .nil) (.node tq0 .nil .nil)) (.node tq29 (.node tq46 .nil .nil) (.node tq51 .nil .nil))) (.node tq21 (.node tq25 (.node tq42 .nil .nil) (.node ⟨.slice 420,1,some (.one (.slice)),some [.slice none 0 0]⟩ .nil .nil)) (.node tq9 (.node tq0 .nil .nil) .nil))) (.node tq16 (.node tq0 (.node ⟨.tuple [105,52],1,none,none⟩ (.node ⟨.map 9 3,1,some (.one (.map)),some [.map none]⟩ .nil .nil) (.node tq0 .nil .nil)) (.node tq34 (.node tq0 .nil .nil) (.node tq10 .nil .nil))) (.node ⟨.tuple [3,52],1,none,none⟩ (.node tq0 (.node tq5 .nil .nil) (.node tq0 .nil .nil)) (.node tq0 (.node tq0 .nil .nil) .nil))))) (.node tq5 (.node tq9 (.node tq13 (.node tq0 (.node tq23 (.node tq0 .nil .nil) (.node tq7 .nil .nil)) (.node tq0 (.node ⟨.map 3 4,1,some (.one (.map)),some [.map none]⟩ .nil .nil) (.node tq0 .nil .nil))) (.node tq20 (.node tq0 (.node tq0 .nil .nil) (.node tq7 .nil .nil)) (.node tq0 (.node tq12 .nil .nil) .nil))) (.node tq1 (.node tq12 (.node tq0 (.node tq40 .nil .nil) (.node ⟨.slice 406,1,some (.one (.slice)),some [.slice none 0 0]⟩ .nil .nil)) (.node tq0 (.node tq0 .nil .nil) (.node tq2 .nil .nil))) (.node tq0 (.node tq0 (.node tq0 .nil .nil) (.node tq0 .nil .nil)) (.node tq0 (.node tq0 .nil .nil) .nil)))) (.node ⟨.tuple [27,4],1,none,none⟩ (.node tq15 (.node tq17 (.node tq0 (.node tq37 .nil .nil) (.node tq0 .nil .nil)) (.node tq31 (.node ⟨.map 9 273,1,some (.one (.map)),some [.map none]⟩ .nil .nil) (.node tq0 .nil .nil))) (.node ⟨.tuple [107,4],1,none,none⟩ (.node tq20 (.node tq0 .nil .nil) (.node ⟨.tuple [2,233],1,none,none⟩ .nil .nil)) (.node tq0 (.node tq0 .nil .nil) .nil))) (.node tq0 (.node tq0 (.node tq24 (.node tq0 .nil .nil) (.node tq0 .nil .nil)) (.node tq0 (.node tq0 .nil .nil) .nil)) (.node tq0 (.node ⟨.map 3 3,1,some (.one (.map)),some [.map none]⟩ (.node tq43 .nil .nil) (.node tq50 .nil .nil)) (.node tq0 (.node tq0 .nil .nil) .nil)))))) (.node tq2 (.node tq4 (.node tq8 (.node tq0 (.node tq0 (.node tq0 (.node tq0 .nil .nil) (.node tq0 .nil .nil)) (.node tq7 (.node tq0 .nil .nil) (.node tq0 .nil .nil))) (.node tq0 (.node tq0 (.node ⟨.slice 294,1,some (.one (.slice)),some [.slice none 0 0]⟩ .nil .nil) (.node tq0 .nil .nil)) (.node tq12 (.node tq0 .nil .nil) .nil))) (.node tq0 (.node ⟨.tuple [81,4],1,none,none⟩ (.node tq0 (.node ⟨.tuple [273,4],1,none,none⟩ .nil .nil) (.node tq0 .nil .nil)) (.node tq33 (.node tq0 .nil .nil) (.node tq53 .nil .nil))) (.node tq0 (.node tq0 (.node tq0 .nil .nil) (.node ⟨.arr 20 384,20,some (.agg lf13),some (List.replicate 20 (.int .u64 0))⟩ .nil .nil)) (.node ⟨.tuple [105,4],1,none,none⟩ (.node tq0 .nil .nil) .nil)))) (.node tq0 (.node ⟨.slice 45,1,some (.one (.slice)),some [.slice none 0 0]⟩ (.node tq7 (.node tq0 (.node tq0 .nil .nil) (.node tq0 .nil .nil)) (.node tq30 (.node tq0 .nil .nil) (.node ⟨.arr 32 5,32,some (.agg lf15),some (List.replicate 32 (.int .u8 0))⟩ .nil .nil))) (.node tq22 (.node tq26 (.node tq0 .nil .nil) (.node tq0 .nil .nil)) (.node ⟨.tuple [3,233],1,none,none⟩ (.node tq7 .nil .nil) .nil))) (.node ⟨.tuple [3,3,3,3],1,none,none⟩ (.node tq0 (.node tq0 (.node tq0 .nil .nil) (.node tq0 .nil .nil)) (.node tq0 (.node tq0 .nil .nil) (.node tq54 .nil .nil))) (.node tq0 (.node tq0 (.node tq0 .nil .nil) (.node tq0 .nil .nil)) (.node tq0 (.node tq0 .nil .nil) .nil))))) (.node tq6 (.node tq11 (.node tq14 (.node tq7 (.node ⟨.tuple [128,52],1,none,none⟩ (.node tq0 .nil .nil) (.node tq49 .nil .nil)) (.node tq28 (.node tq45 .nil .nil) (.node tq0 .nil .nil))) (.node ⟨.slice 101,1,some (.one (.slice)),some [.slice none 0 0]⟩ (.node ⟨.map 9 175,1,some (.one (.map)),some [.map none]⟩ (.node tq41 .nil .nil) (.node tq0 .nil .nil)) (.node tq35 (.node tq0 .nil .nil) .nil))) (.node tq0 (.node tq19 (.node ⟨.tuple [37,3,4],1,none,none⟩ (.node ⟨.tuple [277,4],1,none,none⟩ .nil .nil) (.node tq12 .nil .nil)) (.node tq0 (.node tq0 .nil .nil) (.node tq0 .nil .nil))) (.node tq0 (.node tq7 (.node tq0 .nil .nil) (.node tq0 .nil .nil)) (.node tq0 (.node tq1 .nil .nil) .nil)))) (.node tq12 (.node ⟨.tuple [3,3],1,none,none⟩ (.node tq18 (.node tq0 (.node tq38 .nil .nil) (.node tq0 .nil .nil)) (.node tq32 (.node tq47 .nil .nil) (.node tq0 .nil .nil))) (.node tq0 (.node tq0 (.node tq0 .nil .nil) (.node tq7 .nil .nil)) (.node tq0 (.node tq0 .nil .nil) .nil))) (.node tq0 (.node tq0 (.node ⟨.tuple [157,4],1,none,none⟩ (.node tq0 .nil .nil) (.node tq0 .nil .nil)) (.node ⟨.tuple [9,3,4],1,none,none⟩ (.node tq7 .nil .nil) .nil)) (.node tq0 (.node tq27 (.node tq44 .nil .nil) (.node tq0 .nil .nil)) (.node tq0 (.node ⟨.int .u32,1,some (.one (.int .u32)),some [.int .u32 0]⟩ .nil .nil) .nil)))))))),(.node none (.node none (.node (some (.one (.one (.bool)))) (.node (some (.one (.one (.bool)))) (.node (some (.one (.agg [.int .i64,.int .i64]))) (.node (some (.one (.one (.str)))) (.node (some (.one (.one (.bool)))) .nil (.node (some (.one (.one (.func)))) .nil .nil)) (.node (some (.tup [])) (.node (some (.one (.one (.func)))) (.node (some (.one (.one (.str)))) .nil .nil) .nil) (.node (some (.tup [(.one (.int .i64)),(.one (.bool))])) .nil .nil))) (.node (some (.tup [(.one (.ptr)),(.one (.bool))])) (.node (some (.one (.one (.slice)))) (.node (some (.tup [])) .nil .nil) .nil) (.node (some (.one (.one (.bool)))) (.node (some (.one (.one (.func)))) .nil .nil) (.node (some (.one (.one (.func)))) .nil .nil)))) (.node none (.node (some (.one (.one (.slice)))) (.node (some (.one (.one (.str)))) (.node (some (.one (.one (.bool)))) .nil .nil) .nil) (.node (some (.one (.agg [.slice,.slice]))) (.node (some (.one (.one (.slice)))) .nil .nil) (.node (some (.one (.one (.slice)))) .nil .nil))) (.node none (.node (some (.one (.one (.str)))) (.node (some (.tup [(.one (.str)),(.one (.bool))])) (.node (some (.tup [])) .nil .nil) .nil) (.node (some (.one (.one (.bool)))) (.node (some (.tup [])) .nil .nil) .nil)) (.node none (.node (some (.one (.one (.int .i64)))) .nil .nil) .nil)))) (.node (some (.one (.one (.slice)))) (.node (some (.tup [(.one (.ptr)),(.one (.int .i64))])) (.node (some (.one (.one (.slice)))) (.node (some (.one (.one (.bool)))) (.node none (.node (some (.one (.one (.slice)))) .nil .nil) .nil) .nil) (.node (some (.one (.one (.ptr)))) (.node (some (.one (.one (.slice)))) (.node (some (.one (.one (.slice)))) .nil .nil) .nil) (.node (some (.one (.one (.int .i64)))) .nil .nil))) (.node (some (.one (.one (.ptr)))) (.node (some (.one (.one (.slice)))) .nil (.node (some (.tup [(.one (.int .i64)),(.one (.iface))])) .nil .nil)) (.node (some (.one (.one (.func)))) (.node (some (.one (.one (.slice)))) .nil .nil) (.node (some (.one (.one (.str)))) .nil .nil)))) (.node (some (.one (.one (.int .i64)))) (.node (some (.one (.one (.slice)))) (.node (some (.tup [(.one (.int .i64)),(.one (.int .i64))])) .nil (.node (some (.one (.one (.bool)))) .nil .nil)) (.node (some (.tup [(.one (.int .i64)),(.one (.int .i64))])) (.node (some (.one (.one (.str)))) .nil .nil) (.node (some (.tup [(.one (.str)),(.one (.str))])) .nil .nil))) (.node none (.node none (.node (some (.one (.one (.ptr)))) (.node (some (.one (.one (.slice)))) .nil .nil) .nil) (.node (some (.one (.one (.slice)))) .nil .nil)) (.node (some (.one (.one (.bool)))) (.node (some (.one (.one (.int .i64)))) (.node (some (.one (.one (.int .i64)))) .nil .nil) .nil) .nil))))) (.node none (.node (some (.tup [(.one (.ptr)),(.one (.bool))])) (.node (some (.one (.one (.int .i64)))) (.node (some (.one (.one (.slice)))) (.node (some (.one (.one (.bool)))) .nil (.node (some (.one (.one (.slice)))) .nil .nil)) (.node (some (.tup [(.agg lf0),(.one (.int .i64)),(.one (.int .i64)),(.one (.bool))])) (.node (some (.one (.one (.int .i64)))) (.node (some (.tup [])) .nil .nil) .nil) (.node (some (.tup [])) .nil .nil))) (.node (some (.one (.one (.bool)))) (.node (some (.one (.one (.str)))) (.node (some (.tup [])) .nil .nil) .nil) (.node (some (.one (.one (.slice)))) (.node (some (.tup [(.one (.slice)),(.one (.slice))])) .nil .nil) (.node (some (.one (.one (.slice)))) .nil .nil)))) (.node none (.node (some (.one (.one (.slice)))) (.node (some (.one (.one (.str)))) (.node (some (.one (.one (.int .i64)))) .nil .nil) .nil) (.node (some (.one (.one (.int .i64)))) (.node (some (.tup [])) .nil .nil) (.node (some (.one (.one (.slice)))) .nil .nil))) (.node none (.node (some (.one (.one (.int .i64)))) (.node (some (.one (.agg [.int .i64,.int .i64,.int .i64,.str]))) (.node (some (.one (.one (.int .i64)))) .nil .nil) .nil) .nil) (.node (some (.one (.one (.bool)))) (.node (some (.one (.one (.int .i64)))) .nil .nil) .nil)))) (.node (some (.one (.one (.slice)))) (.node none (.node (some (.one (.one (.slice)))) (.node (some (.one (.one (.int .i64)))) (.node (some (.one (.one (.bool)))) .nil .nil) (.node none (.node (some (.tup [])) .nil .nil) .nil)) (.node (some (.tup [(.agg [.slice,.slice]),(.one (.int .i64))])) (.node (some (.tup [])) (.node (some (.one (.one (.bool)))) .nil .nil) .nil) (.node (some (.one (.one (.int .i64)))) .nil .nil))) (.node (some (.one (.one (.ptr)))) (.node (some (.tup [(.one (.slice)),(.one (.int .i64))])) (.node (some (.tup [(.agg [.slice,.slice]),(.one (.bool))])) .nil .nil) (.node (some (.one (.one (.bool)))) .nil .nil)) (.node (some (.one (.one (.int .i64)))) (.node (some (.one (.one (.int .i64)))) .nil .nil) (.node (some (.tup [])) .nil .nil)))) (.node (some (.one (.one (.int .i64)))) (.node (some (.one (.one (.slice)))) (.node (some (.tup [(.one (.int .i64)),(.one (.int .i64))])) .nil .nil) (.node (some (.one (.one (.int .i64)))) (.node (some (.tup [(.one (.str)),(.one (.int .i64))])) .nil .nil) (.node (some (.one (.one (.func)))) .nil .nil))) (.node (some (.one (.one (.bool)))) (.node (some (.one (.one (.slice)))) (.node (some (.tup [(.agg [.int .i64,.int .i64,.int .i64,.str]),(.one (.bool))])) (.node (some (.tup [])) .nil .nil) .nil) .nil) (.node (some (.one (.one (.ptr)))) .nil .nil)))))) (.node none (.node none (.node (some (.one (.agg lf0))) (.node (some (.one (.one (.str)))) (.node (some (.one (.one (.slice)))) (.node (some (.one (.one (.bool)))) .nil (.node (some (.tup [])) .nil .nil)) (.node (some (.one (.one (.int .i64)))) (.node (some (.tup [(.one (.str)),(.one (.int .i64))])) (.node (some (.one (.one (.bool)))) .nil .nil) .nil) (.node (some (.one (.one (.bool)))) .nil .nil))) (.node none (.node none (.node (some (.one (.one (.int .i64)))) (.node (some (.one (.one (.int .i64)))) .nil .nil) .nil) .nil) (.node (some (.tup [])) (.node (some (.one (.agg [.slice,.slice]))) .nil .nil) (.node (some (.one (.one (.slice)))) .nil .nil)))) (.node none (.node (some (.one (.one (.slice)))) (.node (some (.one (.one (.str)))) (.node (some (.one (.one (.int .i64)))) .nil .nil) .nil) (.node (some (.tup [(.agg lf4),(.one (.bool))])) (.node (some (.one (.one (.slice)))) .nil .nil) (.node (some (.one (.one (.func)))) .nil .nil))) (.node (some (.one (.one (.slice)))) (.node (some (.one (.one (.bool)))) (.node (some (.one (.one (.bool)))) (.node (some (.one (.one (.int .i64)))) .nil .nil) .nil) .nil) (.node (some (.one (.one (.ptr)))) (.node (some (.one (.agg [.int .i64,.int .i64,.int .i64,.int .i64]))) .nil .nil) .nil)))) (.node (some (.tup [(.one (.slice)),(.one (.slice))])) (.node none (.node (some (.one (.one (.slice)))) (.node (some (.one (.one (.bool)))) (.node (some (.tup [(.one (.str)),(.one (.int .i64)),(.one (.bool))])) (.node (some (.tup [])) .nil .nil) .nil) .nil) (.node (some (.tup [(.agg [.str,.str,.slice,.int .i64]),(.one (.int .i64)),(.one (.bool))])) (.node none (.node (some (.one (.one (.int .i64)))) .nil .nil) .nil) .nil)) (.node (some (.one (.one (.ptr)))) (.node (some (.one (.one (.str)))) .nil (.node (some (.one (.one (.bool)))) .nil .nil)) (.node (some (.one (.one (.int .i64)))) (.node (some (.one (.one (.func)))) .nil .nil) (.node (some (.one (.one (.int .i64)))) .nil .nil)))) (.node (some (.one (.one (.int .i64)))) (.node (some (.tup [(.one (.slice)),(.one (.slice))])) (.node (some (.one (.one (.slice)))) .nil .nil) (.node (some (.one (.agg [.int .i64,.int .i64]))) (.node (some (.tup [(.agg lf10),(.one (.bool))])) (.node (some (.one (.one (.slice)))) .nil .nil) .nil) (.node (some (.tup [])) .nil .nil))) (.node (some (.tup [(.agg lf3),(.one (.bool))])) (.node none (.node (some (.one (.one (.int .i64)))) (.node (some (.tup [])) .nil .nil) .nil) .nil) (.node (some (.one (.one (.ptr)))) (.node (some (.one (.one (.int .i64)))) (.node (some (.one (.one (.slice)))) .nil .nil) .nil) .nil))))) (.node none (.node (some (.one (.one (.int .i64)))) (.node none (.node (some (.one (.one (.slice)))) (.node (some (.one (.one (.bool)))) (.node none (.node (some (.tup [])) .nil .nil) .nil) (.node (some (.one (.one (.func)))) .nil .nil)) (.node (some (.tup [(.one (.str)),(.one (.bool))])) (.node (some (.tup [(.one (.int .i64)),(.one (.bool))])) (.node (some (.tup [])) .nil .nil) .nil) (.node (some (.one (.one (.str)))) .nil .nil))) (.node (some (.one (.one (.ptr)))) (.node (some (.one (.one (.slice)))) (.node (some (.one (.agg [.str,.str,.slice,.int .i64]))) .nil .nil) (.node (some (.one (.one (.int .i64)))) (.node (some (.tup [])) .nil .nil) .nil)) (.node (some (.one (.one (.slice)))) (.node (some (.one (.one (.bool)))) .nil .nil) (.node (some (.one (.one (.slice)))) .nil .nil)))) (.node none (.node (some (.one (.one (.slice)))) (.node (some (.one (.one (.str)))) .nil (.node (some (.one (.one (.bool)))) .nil .nil)) (.node (some (.one (.one (.bool)))) (.node (some (.tup [(.agg lf9),(.one (.bool))])) .nil .nil) (.node (some (.one (.one (.slice)))) .nil .nil))) (.node none (.node (some (.one (.one (.slice)))) (.node (some (.one (.agg [.int .i64,.int .i64,.int .i64,.str]))) .nil .nil) .nil) (.node (some (.one (.one (.ptr)))) (.node (some (.one (.one (.ptr)))) (.node (some (.tup [])) .nil .nil) .nil) .nil)))) (.node (some (.tup [(.one (.int .i64)),(.one (.int .i64))])) (.node none (.node (some (.one (.one (.slice)))) (.node (some (.one (.one (.int .i64)))) (.node (some (.one (.one (.bool)))) .nil .nil) (.node none (.node (some (.tup [])) .nil .nil) .nil)) (.node (some (.one (.one (.str)))) (.node (some (.one (.one (.func)))) .nil .nil) (.node (some (.tup [])) .nil .nil))) (.node (some (.one (.one (.ptr)))) (.node (some (.one (.one (.int .i64)))) (.node (some (.one (.one (.str)))) .nil .nil) (.node (some (.one (.one (.bool)))) .nil .nil)) (.node (some (.one (.one (.slice)))) (.node (some (.one (.one (.int .i64)))) .nil .nil) (.node (some (.tup [])) .nil .nil)))) (.node (some (.one (.one (.str)))) (.node (some (.one (.one (.int .i64)))) (.node none (.node (some (.one (.one (.int .i64)))) .nil .nil) .nil) (.node (some (.tup [(.one (.slice)),(.one (.slice))])) (.node (some (.one (.one (.func)))) .nil .nil) (.node (some (.tup [])) .nil .nil))) (.node (some (.one (.one (.bool)))) (.node (some (.one (.one (.slice)))) (.node (some (.one (.one (.int .i64)))) (.node (some (.one (.one (.func)))) .nil .nil) .nil) (.node (some (.tup [(.agg [.slice,.slice]),(.one (.bool))])) .nil .nil)) (.node none (.node none (.node (some (.tup [])) .nil .nil) .nil) .nil)))))))⟩
theorem Tok:TbOk Pr Dt:=zqu (by kernel_rfl) (by kernel_rfl) (by kernel_rfl)
abbrev CV(f:FuncId)(a:List SV)(K:Value→PT)(w:World):Prop:=Calls Pr f (vals a).toArray w fun e w2=>∃v,e = .returned v∧K v w2
theorem C_of{f:FuncId}(fn:Func)(an:Ann)(args:List SV){F:PT}(h:F w)(h1:Pr.funcs[f]? = some fn:=by kernel_rfl)(h2:okF args.length fn=true:=by kernel_rfl)(h3:denF Pr Dt fn an args K=F:=by kernel_rfl):CV f args K w:=zr1 Tok h1 h2 ((congrFun h3 w).mpr h)
def z8u:Ann:=(.seq .auto (.seq .auto (.seq .auto (.seq .auto (.seq .auto (.seq .auto (.seq .auto (.seq .auto (.seq .auto (.seq .auto (.seq (.seq .auto (.one [(11,(.one (.slice))),(12,(.one (.int .i64))),(13,(.one (.int .i64))),(14,(.one (.int .i64)))] (.seq (.seq .auto (.cond .auto .auto) none) (.seq (.seq (.seq .auto (.one [(12,(.one (.int .i64))),(15,(.one (.int .i64)))] .auto) none) (.seq .auto (.seq (.seq .auto (.cond (.seq .auto (.seq .auto (.one [(20,(.one (.int .i64)))] .auto) none) none) .auto) none) (.seq .auto (.seq .auto (.seq .auto (.seq .auto (.seq .auto (.seq .auto (.seq (.seq .auto (.one [(23,(.one (.int .i64))),(25,(.one (.int .i64)))] (.seq .auto (.seq .auto .auto (some [(23,(.one (.int .i64)))])) none)) none) (.seq .auto (.seq .auto (.seq .auto (.seq (.one [(30,(.one (.int .i64)))] (.seq (.seq .auto (.cond .auto .auto) none) .auto none)) (.seq .auto (.seq .auto (.seq .auto (.seq .auto (.seq (.seq .auto (.one [(13,(.one (.int .i64))),(32,(.one (.int .i64)))] .auto) none) .auto none) none) none) none) none) (some [(30,(.one (.int .i64)))])) none) none) none) none) none) none) none) none) none) none) (some [])) (some [])) none) .auto (some [(11,(.one (.slice))),(12,(.one (.int .i64))),(13,(.one (.int .i64)))])) none)) none) .auto (some [])) none) none) none) none) none) none) none) none) none) none)
def z5c(p0:ht0)(p1:Sl)(p2:Int)(K:Value→PT):PT:=
 L.new [.string p0.1,.int .i64 p0.2.1,.int .i64 p0.2.2.1,.int .i64 p0.2.2.2.1,.int .i64 p0.2.2.2.2.1,.int .i64 p0.2.2.2.2.2.1] z05 fun b1=>
 L.call Pr z5G [] rB fun(x2:Bool)=>
 L.ite (!x2) (
  K (.bool false))<|
 L.load (.agg lf0) (⟨b1,0,none⟩) fun(x3:pt0)=>
 L.call Pr z5E [(qa0 x3),.int .i64 0] (.one (.agg lf0)) fun(x4:pt0)=>
 L.new [.string s_,.int .i64 0,.int .i64 0,.int .i64 0,.int .i64 0,.int .i64 0] z05 fun b5=>
 L.store (⟨b5,0,none⟩) [.string x4.1,.int .i64 x4.2.1,.int .i64 x4.2.2.1,.int .i64 x4.2.2.2.1,.int .i64 x4.2.2.2.2.1,.int .i64 x4.2.2.2.2.2.1]<|
 L.store (Ad6 b5 3) [.int .i64 0]<|
 L.load (.agg lf0) (⟨b5,0,none⟩) fun(x6:pt0)=>
 L.call Pr z5F [(qa0 x6),.int .i64 30,.int .i64 8,.int .i64 50] (.tup [eP6,eB6]) fun(x7:Option Addr×Bool×Unit)=>
 L.ite ((x7.1).isNone) (
  K (.bool false))<|
 L.ite (!x7.2.1) (
  K (.bool false))<|
 L.new [.int .i64 0,.int .i64 0] z0G fun b8=>
 L.store (⟨b8,0,none⟩) [.int .i64 1,.int .i64 0]<|
 L.join (Y:=Unit) (fun k9=>
  L.loop (Y:=Sl×Int×Int×Int×Unit) (⟨none,0,0⟩,1,1,0,()) fun y11 again12=>
  L.ite (decide (y11.2.2.2.1<((p1.len:Nat):Int))) (
   L.ite (decide (y11.2.2.2.1<30)) (
    L.join (Y:=Sl×Int×Int×Unit) (fun k13=>
     L.loop (Y:=Int×Int×Unit) (y11.2.1,0,()) fun y15 again16=>
     L.idx p1.a y11.2.2.2.1 p1.len 1 fun a17=>
     L.load eI6 a17 fun(x18:Int)=>
     L.call Pr z2K [.int .i64 x18,.int .i64 4] rI fun(x19:Int)=>
     L.ite (decide (y15.2.1<x19)) (
      L.call Pr z02 [.pointer x7.1,.agg #[.int .i64 4,.string z2j,.string s_,.int .i64 y15.1,.int .i64 0,.string s_,.int .i64 0,.int .i64 0,.int .i64 0,.int .i64 0,.int .i64 0,.string s_,.string s_,.slice none 0 0,.int .i64 0]] rL fun(x20:Sl)=>
      again16 (IntKind.wrap .i64 (y15.1+1),IntKind.wrap .i64 (y15.2.1+1),()))<|
     L.join (Y:=Unit) (fun k21=>
      L.load eI6 (Ad6 b8 0) fun(x23:Int)=>
      L.ite (x23 == 0) (
       L.call Pr z2h [.pointer x7.1,.string z2O] (.tup [eL6,eL6]) fun(x24:Sl×Sl×Unit)=>
       L.ite (decide (((x24.1.len:Nat):Int)>0)) (
        L.store (Ad6 b8 0) [.int .i64 1]<|
        k21 (()))<|
       k21 (()))<|
      k21 (())) fun z22=>
     L.join (Y:=Unit) (fun k25=>
      L.idx p1.a y11.2.2.2.1 p1.len 1 fun a27=>
      L.load eI6 a27 fun(x28:Int)=>
      L.guard (4≠(0:Int))<|
      L.call Pr z2K [.int .i64 (IntKind.wrap .i64 (Int.tdiv x28 4)),.int .i64 3] rI fun(x29:Int)=>
      L.ite (x29 == 0) (
       L.call Pr z2h [.pointer x7.1,.string z2O] (.tup [eL6,eL6]) fun(x30:Sl×Sl×Unit)=>
       L.loop (Y:=Int×Unit) (0,()) fun y31 again32=>
       L.ite (decide (y31.1<((x30.2.1.len:Nat):Int))) (
        L.idx x30.2.1.a y31.1 x30.2.1.len 1 fun a33=>
        L.load eI6 a33 fun(x34:Int)=>
        L.call Pr z02 [.pointer x7.1,.agg #[.int .i64 5,.string s_,.string s_,.int .i64 x34,.int .i64 0,.string s_,.int .i64 0,.int .i64 0,.int .i64 0,.int .i64 0,.int .i64 0,.string s_,.string s_,.slice none 0 0,.int .i64 0]] rL fun(x35:Sl)=>
        again32 (IntKind.wrap .i64 (y31.1+1),()))<|
       k25 (()))<|
      k25 (())) fun z26=>
     L.call Pr z02 [.pointer x7.1,.agg #[.int .i64 9,.string s_,.string s_,.int .i64 0,.int .i64 0,.string s_,.int .i64 0,.int .i64 0,.int .i64 0,.int .i64 0,.int .i64 0,.string s_,.string s_,.slice none 0 0,.int .i64 0]] rL fun(x36:Sl)=>
     L.call Pr z2h [.pointer x7.1,.string z2O] (.tup [eL6,eL6]) fun(x37:Sl×Sl×Unit)=>
     L.new [.int .i64 (IntKind.wrap .i64 (((x37.1.len:Nat):Int)+((x37.2.1.len:Nat):Int)))] z0g fun b38=>
     L.sem Pr (.one (.one .slice)) (Builtin.append_ #[z0Y,z0Y] z0Y #[Sv6 y11.1,.slice (some ⟨b38,0,none⟩) 1 1]) fun(s39:Sl)=>
     L.call Pr z2K [.int .i64 p2,.int .i64 3] rI fun(x40:Int)=>
     L.guard (3≠(0:Int))<|
     L.ite (decide ((Int.tmod (IntKind.wrap .i64 (y11.2.2.2.1+x40)) 3)>0)) (
      k13 (⟨s39.a,s39.len,s39.cap⟩,y15.1,y11.2.2.1,()))<|
     L.call Pr z3x [.pointer x7.1,.string z2O] rL fun(x41:Sl)=>
     L.loop (Y:=Int×Int×Unit) (0,0,()) fun y42 again43=>
     L.ite (decide (y42.2.1<((x41.len:Nat):Int))) (
      L.join (Y:=Int×Unit) (fun k44=>
       L.idx x41.a y42.2.1 x41.len 3 fun a46=>
       L.load eI6 (a46.add 1) fun(x47:Int)=>
       L.ite (x47 == 2) (
        k44 (IntKind.wrap .i64 (y42.1+1),()))<|
       k44 (y42.1,())) fun z45=>
      again43 (z45.1,IntKind.wrap .i64 (y42.2.1+1),()))<|
     L.call Pr z4U [Sv6 s39,.int .i64 6] (.tup [eI6,eI6]) fun(x48:Int×Int×Unit)=>
     L.call Pr z4U [Sv6 s39,.int .i64 2] (.tup [eI6,eI6]) fun(x49:Int×Int×Unit)=>
     L.join (Y:=Int×Unit) (fun k50=>
      L.loop (Y:=Int×Unit) (0,()) fun y52 again53=>
      L.ite (decide (y52.1<((s39.len:Nat):Int))) (
       L.idx s39.a (IntKind.wrap .i64 ((IntKind.wrap .i64 (((s39.len:Nat):Int)-1))-y52.1)) s39.len 1 fun a54=>
       L.load eI6 a54 fun(x55:Int)=>
       L.ite (x55 == 0) (
        again53 (IntKind.wrap .i64 (y52.1+1),()))<|
       k50 (y52.1,()))<|
      k50 (y52.1,())) fun z51=>
     L.load (.agg [.int .i64,.int .i64]) (⟨b8,0,none⟩) fun(x56:Int×Int×Unit)=>
     L.load (.agg lf0) (⟨b5,0,none⟩) fun(x57:pt0)=>
     L.call Pr z5f [.agg #[.int .i64 x56.1,.int .i64 x56.2.1],(qa0 x57),.int .i64 y42.1,.int .i64 (IntKind.wrap .i64 (((x37.1.len:Nat):Int)+((x37.2.1.len:Nat):Int))),.int .i64 x48.1,.int .i64 x48.2.1,.int .i64 x49.1,.int .i64 x49.2.1,.int .i64 z51.1] (.one (.agg [.int .i64,.int .i64])) fun(x58:Int×Int×Unit)=>
     L.store (⟨b8,0,none⟩) [.int .i64 x58.1,.int .i64 x58.2.1]<|
     L.call Pr z02 [.pointer x7.1,.agg #[.int .i64 12,.string z2O,.string s_,.int .i64 0,.int .i64 0,.string s_,.int .i64 0,.int .i64 0,.int .i64 0,.int .i64 0,.int .i64 0,.string s_,.string s_,.slice none 0 0,.int .i64 0]] rL fun(x59:Sl)=>
     L.draw<|
     L.ite (((x59.len:Nat):Int) != 1) (
      K (.bool false))<|
     L.idx x59.a 0 x59.len 1 fun a60=>
     L.load eS6 a60 fun(x61:ByteArray)=>
     L.load eI6 (Ad6 b8 0) fun(x62:Int)=>
     L.call Pr z1J [.int .i64 x62] rS fun(x63:ByteArray)=>
     L.chk a60 [.string x61]<|
     L.guard (((s_scale_web_1__1ec9.size+x63.size:Nat):Int)≤maxI64)<|
     L.ite (!(x61.toList == (s_scale_web_1__1ec9++x63).toList)) (
      K (.bool false))<|
     L.load eI6 (Ad6 b8 0) fun(x64:Int)=>
     L.call Pr z2J [.pointer x7.1,.string z2O] rI fun(x65:Int)=>
     L.chk (Ad6 b8 0) [.int .i64 x64]<|
     L.ite (x65 != x64) (
      K (.bool false))<|
     L.call Pr z02 [.pointer x7.1,.agg #[.int .i64 13,.string z2O,.string s_,.int .i64 0,.int .i64 0,.string s_,.int .i64 0,.int .i64 0,.int .i64 0,.int .i64 0,.int .i64 0,.string s_,.string s_,.slice none 0 0,.int .i64 0]] rL fun(x66:Sl)=>
     L.loop (Y:=Int×Int×Unit) (y11.2.2.1,0,()) fun y67 again68=>
     L.ite (decide (y67.2.1<12)) (
      L.call Pr z02 [.pointer x7.1,.agg #[.int .i64 6,.string s_,.string s_,.int .i64 (IntKind.wrap .i64 (y67.1+1)),.int .i64 0,.string s_,.int .i64 0,.int .i64 0,.int .i64 0,.int .i64 0,.int .i64 0,.string s_,.string s_,.slice none 0 0,.int .i64 0]] rL fun(x69:Sl)=>
      again68 (IntKind.wrap .i64 (y67.1+1),IntKind.wrap .i64 (y67.2.1+1),()))<|
     k13 (⟨s39.a,s39.len,s39.cap⟩,y15.1,1,())) fun z14=>
    again12 (⟨z14.1.a,z14.1.len,z14.1.cap⟩,z14.2.1,z14.2.2.1,IntKind.wrap .i64 (y11.2.2.2.1+1),()))<|
   k9 (()))<|
  k9 (())) fun z10=>
 K (.bool true)
theorem z8q(p0:ht0)(p1:Sl)(p2:Int)(h:z5c p0 p1 p2 K w):CV z56 [.ag (qc0 p0),.v (.slice p1.a p1.len p1.cap),.v (.int .i64 p2)] K w:=C_of Tryz.f3 z8u _ h
def z8b  (K:Value→PT):PT:=
 L.call Pr z8z [.int .i64 3,.int .i64 2,.int .i64 5] (.tup [eP6,eI6]) fun(x1:Option Addr×Int×Unit)=>
 L.ite ((x1.1).isNone) (
  K (.bool false))<|
 L.ite (x1.2.1 != 0) (
  K (.bool false))<|
 L.call Pr z02 [.pointer x1.1,.agg #[.int .i64 0,.string s_,.string s_,.int .i64 0,.int .i64 0,.string s_,.int .i64 0,.int .i64 0,.int .i64 0,.int .i64 0,.int .i64 0,.string s_,.string s_,.slice none 0 0,.int .i64 0]] rL fun(x2:Sl)=>
 L.call Pr z02 [.pointer x1.1,.agg #[.int .i64 9,.string s_,.string s_,.int .i64 0,.int .i64 0,.string s_,.int .i64 0,.int .i64 0,.int .i64 0,.int .i64 0,.int .i64 0,.string s_,.string s_,.slice none 0 0,.int .i64 0]] rL fun(x3:Sl)=>
 L.ite (((x2.len:Nat):Int) == 1) (
  L.idx x2.a 0 x2.len 1 fun a4=>
  L.load eS6 a4 fun(x5:ByteArray)=>
  L.ite (x5.toList == s_bad_kind.toList) (
   L.ite (((x3.len:Nat):Int) == 1) (
    L.idx x3.a 0 x3.len 1 fun a6=>
    L.load eS6 a6 fun(x7:ByteArray)=>
    L.ite (x7.toList == s_tick_1.toList) (
     L.call Pr z5z [.pointer x1.1] rI fun(x8:Int)=>
     K (.bool (x8 == 1)))<|
    K (.bool false))<|
   K (.bool false))<|
  K (.bool false))<|
 K (.bool false)
theorem zck(h:z8b  K w):CV z5G [] K w:=C_of Tryz.f7 .auto _ h
def z89(p0:ht0)(p1:Int)(K:Value→PT):PT:=
 L.new [.string p0.1,.int .i64 p0.2.1,.int .i64 p0.2.2.1,.int .i64 p0.2.2.2.1,.int .i64 p0.2.2.2.2.1,.int .i64 p0.2.2.2.2.2.1] z05 fun b1=>
 L.new [.string s_,.int .i64 0,.int .i64 0,.int .i64 0,.int .i64 0,.int .i64 0] z05 fun b2=>
 L.new [.string s_web,.string zlH,.string zlI] z01 fun b3=>
 L.call Pr z1u [.int .i64 p1,.int .i64 3] rI fun(x4:Int)=>
 L.idx (some ⟨b3,0,none⟩) x4 3 1 fun a5=>
 L.load eS6 a5 fun(x6:ByteArray)=>
 L.store (Ad6 b1 0) [.string x6]<|
 L.load eI6 (Ad6 b1 1) fun(x7:Int)=>
 L.call Pr z1u [.int .i64 x7,.int .i64 256] rI fun(x8:Int)=>
 L.store (Ad6 b1 1) [.int .i64 x8]<|
 L.load eI6 (Ad6 b1 2) fun(x9:Int)=>
 L.call Pr z1u [.int .i64 x9,.int .i64 8] rI fun(x10:Int)=>
 L.store (Ad6 b1 2) [.int .i64 (IntKind.wrap .i64 (1+x10))]<|
 L.load eI6 (Ad6 b1 4) fun(x11:Int)=>
 L.call Pr z1u [.int .i64 x11,.int .i64 10] rI fun(x12:Int)=>
 L.store (Ad6 b1 4) [.int .i64 (IntKind.wrap .i64 (1+x12))]<|
 L.load eI6 (Ad6 b1 3) fun(x13:Int)=>
 L.load eI6 (Ad6 b1 4) fun(x14:Int)=>
 L.call Pr z1u [.int .i64 x13,.int .i64 (IntKind.wrap .i64 (x14+1))] rI fun(x15:Int)=>
 L.store (Ad6 b1 3) [.int .i64 x15]<|
 L.load eI6 (Ad6 b1 5) fun(x16:Int)=>
 L.call Pr z1u [.int .i64 x16,.int .i64 31] rI fun(x17:Int)=>
 L.store (Ad6 b1 5) [.int .i64 x17]<|
 L.load (.agg lf0) (⟨b1,0,none⟩) fun(x18:pt0)=>
 L.store (⟨b2,0,none⟩) [.string x18.1,.int .i64 x18.2.1,.int .i64 x18.2.2.1,.int .i64 x18.2.2.2.1,.int .i64 x18.2.2.2.2.1,.int .i64 x18.2.2.2.2.2.1]<|
 L.load (.agg lf0) (⟨b2,0,none⟩) fun(x19:pt0)=>
 K ((qa0 x19))
theorem zci(p0:ht0)(p1:Int)(h:z89 p0 p1 K w):CV z5E [.ag (qc0 p0),.v (.int .i64 p1)] K w:=C_of Tryz.f8 .auto _ h
def zcq:Ann:=(.seq .auto (.seq .auto (.seq .auto (.seq .auto (.seq .auto (.seq .auto (.seq (.seq .auto (.one [(13,(.one (.str))),(14,(.one (.int .i64)))] .auto) none) .auto none) none) none) none) none) none) none)
def z8a(p0:ht0)(p1 p2 p3:Int)(K:Value→PT):PT:=
 L.new [.string p0.1,.int .i64 p0.2.1,.int .i64 p0.2.2.1,.int .i64 p0.2.2.2.1,.int .i64 p0.2.2.2.2.1,.int .i64 p0.2.2.2.2.2.1] z05 fun b1=>
 L.call Pr z8z [.int .i64 p1,.int .i64 p2,.int .i64 p3] (.tup [eP6,eI6]) fun(x2:Option Addr×Int×Unit)=>
 L.ite ((x2.1).isNone) (
  K (.tuple #[.pointer none,.bool false]))<|
 L.ite (x2.2.1 != 0) (
  K (.tuple #[.pointer none,.bool false]))<|
 L.store (Ad6 b1 0) [.string s_web]<|
 L.load (.agg lf0) (⟨b1,0,none⟩) fun(x3:pt0)=>
 L.new [.string s_,.string s_,.int .i64 100] z09 fun b4=>
 L.new [.int .i64 1,.string s_,.string s_,.int .i64 0,.int .i64 0,.string x3.1,.int .i64 x3.2.1,.int .i64 x3.2.2.1,.int .i64 x3.2.2.2.1,.int .i64 x3.2.2.2.2.1,.int .i64 x3.2.2.2.2.2.1,.string s_,.string s_,.slice none 0 0,.int .i64 0,.int .i64 2,.string s_,.string s_,.int .i64 0,.int .i64 0,.string s_,.int .i64 0,.int .i64 0,.int .i64 0,.int .i64 0,.int .i64 0,.string z2j,.string s_web,.slice (some ⟨b4,0,none⟩) 1 1,.int .i64 0,.int .i64 10,.string s_web,.string s_,.int .i64 0,.int .i64 0,.string s_,.int .i64 0,.int .i64 0,.int .i64 0,.int .i64 0,.int .i64 0,.string s_,.string s_,.slice none 0 0,.int .i64 0,.int .i64 13,.string z2O,.string s_,.int .i64 0,.int .i64 0,.string s_,.int .i64 0,.int .i64 0,.int .i64 0,.int .i64 0,.int .i64 0,.string s_,.string s_,.slice none 0 0,.int .i64 0,.int .i64 6,.string s_,.string s_,.int .i64 1,.int .i64 0,.string s_,.int .i64 0,.int .i64 0,.int .i64 0,.int .i64 0,.int .i64 0,.string s_,.string s_,.slice none 0 0,.int .i64 0,.int .i64 11,.string z2j,.string s_,.int .i64 0,.int .i64 0,.string s_,.int .i64 0,.int .i64 0,.int .i64 0,.int .i64 0,.int .i64 0,.string s_,.string s_,.slice none 0 0,.int .i64 0] z0w fun b5=>
 L.loop (Y:=ByteArray×Int×Unit) (s_,0,()) fun y6 again7=>
 L.ite (decide (y6.2.1<((6:Nat):Int))) (
  L.idx (some ⟨b5,0,none⟩) y6.2.1 6 15 fun a8=>
  L.load (.agg lf1) a8 fun(x9:pt1)=>
  L.call Pr z02 [.pointer x2.1,(qa1 x9)] rL fun(x10:Sl)=>
  L.ite (((x10.len:Nat):Int) == 0) (
   K (.tuple #[.pointer x2.1,.bool false]))<|
  L.idx x10.a (IntKind.wrap .i64 (((x10.len:Nat):Int)-1)) x10.len 1 fun a11=>
  L.load eS6 a11 fun(x12:ByteArray)=>
  again7 (x12,IntKind.wrap .i64 (y6.2.1+1),()))<|
 K (.tuple #[.pointer x2.1,.bool (y6.1.toList == s_table_front_web_1_100.toList)])
theorem zcj(p0:ht0)(p1 p2 p3:Int)(h:z8a p0 p1 p2 p3 K w):CV z5F [.ag (qc0 p0),.v (.int .i64 p1),.v (.int .i64 p2),.v (.int .i64 p3)] K w:=C_of Tryz.f9 zcq _ h
def zbz:Ann:=(.seq .auto (.seq .auto (.seq .auto .auto (some [(5,(.one (.int .i64)))])) none) none)
def z7o(p0 p1:Int)(K:Value→PT):PT:=
 L.guard (p1≠(0:Int))<|
 L.join (Y:=Int×Unit) (fun k1=>
  L.ite (decide ((Int.tmod p0 p1)<0)) (
   k1 (IntKind.wrap .i64 ((Int.tmod p0 p1)+p1),()))<|
  k1 (Int.tmod p0 p1,())) fun z2=>
 K (.int .i64 z2.1)
theorem zbt(p0 p1:Int)(h:z7o p0 p1 K w):CV z2K [.v (.int .i64 p0),.v (.int .i64 p1)] K w:=C_of Tryz.f10 zbz _ h
def z6g(p0:Option Addr)(p1:ht1)(K:Value→PT):PT:=
 L.new [.int .i64 p1.1,.string p1.2.1,.string p1.2.2.1,.int .i64 p1.2.2.2.1,.int .i64 p1.2.2.2.2.1,.string p1.2.2.2.2.2.1,.int .i64 p1.2.2.2.2.2.2.1,.int .i64 p1.2.2.2.2.2.2.2.1,.int .i64 p1.2.2.2.2.2.2.2.2.1,.int .i64 p1.2.2.2.2.2.2.2.2.2.1,.int .i64 p1.2.2.2.2.2.2.2.2.2.2.1,.string p1.2.2.2.2.2.2.2.2.2.2.2.1,.string p1.2.2.2.2.2.2.2.2.2.2.2.2.1,Sv6 p1.2.2.2.2.2.2.2.2.2.2.2.2.2.1,.int .i64 p1.2.2.2.2.2.2.2.2.2.2.2.2.2.2.1] z0w fun b1=>
 L.load (.agg lf1) (⟨b1,0,none⟩) fun(x2:pt1)=>
 L.call Pr z9x [(qa1 x2)] rI fun(x3:Int)=>
 L.ite (x3 != 0) (
  L.call Pr z4V [.int .i64 x3] rS fun(x4:ByteArray)=>
  L.new [.string x4] z01 fun b5=>
  L.call Pr z0e [.string zne,.slice (some ⟨b5,0,none⟩) 1 1] rS fun(x6:ByteArray)=>
  L.new [.string x6] z01 fun b7=>
  K (.slice (some ⟨b7,0,none⟩) 1 1))<|
 L.sem Pr (.one (.one .map)) (Instr.makeMap z03 none) fun(m8:Option Nat)=>
 L.semU Pr (Instr.mapUpdate z03 (.map m8) (.int .i64 1) (.func (.func z1D) #[.pointer p0] #[]))<|
 L.semU Pr (Instr.mapUpdate z03 (.map m8) (.int .i64 2) (.func (.func z1N) #[.pointer p0] #[]))<|
 L.semU Pr (Instr.mapUpdate z03 (.map m8) (.int .i64 3) (.func (.func z5d) #[.pointer p0] #[]))<|
 L.semU Pr (Instr.mapUpdate z03 (.map m8) (.int .i64 4) (.func (.func z1E) #[.pointer p0] #[]))<|
 L.semU Pr (Instr.mapUpdate z03 (.map m8) (.int .i64 5) (.func (.func z27) #[.pointer p0] #[]))<|
 L.semU Pr (Instr.mapUpdate z03 (.map m8) (.int .i64 6) (.func (.func z2A) #[.pointer p0] #[]))<|
 L.semU Pr (Instr.mapUpdate z03 (.map m8) (.int .i64 7) (.func (.func z25) #[.pointer p0] #[]))<|
 L.semU Pr (Instr.mapUpdate z03 (.map m8) (.int .i64 8) (.func (.func z25) #[.pointer p0] #[]))<|
 L.semU Pr (Instr.mapUpdate z03 (.map m8) (.int .i64 9) (.func (.func z1Z) #[.pointer p0] #[]))<|
 L.semU Pr (Instr.mapUpdate z03 (.map m8) (.int .i64 10) (.func (.func z1L) #[.pointer p0] #[]))<|
 L.semU Pr (Instr.mapUpdate z03 (.map m8) (.int .i64 11) (.func (.func z23) #[.pointer p0] #[]))<|
 L.semU Pr (Instr.mapUpdate z03 (.map m8) (.int .i64 12) (.func (.func z1M) #[.pointer p0] #[]))<|
 L.semU Pr (Instr.mapUpdate z03 (.map m8) (.int .i64 13) (.func (.func z1z) #[.pointer p0] #[]))<|
 L.load eI6 (Ad6 b1 0) fun(x9:Int)=>
 L.semR Pr (.one (.one (.func))) (Instr.lookup z03 (.map m8) (.int .i64 x9) false) fun(x10:FV)=>
 L.load (.agg lf1) (⟨b1,0,none⟩) fun(x11:pt1)=>
 L.callV Pr (.func x10.fn x10.fs x10.cs) [(qa1 x11)] rL fun(x12:Sl)=>
 K (.slice x12.a x12.len x12.cap)
theorem z8T(p0:Option Addr)(p1:ht1)(h:z6g p0 p1 K w):CV z02 [.v (.pointer p0),.ag (qc1 p1)] K w:=C_of Tryz.f11 .auto _ h
def z6q(p0:Option Addr)(p1:ByteArray)(K:Value→PT):PT:=
 L.nonnil p0 fun a1=>
 L.load eP6 (a1.add 4) fun(x2:Option Addr)=>
 L.call Pr z4k [.pointer x2,.string p1] (.tup [eL6,eL6]) fun(x3:Sl×Sl×Unit)=>
 K (.tuple #[Sv6 x3.1,Sv6 x3.2.1])
theorem zaf(p0:Option Addr)(p1:ByteArray)(h:z6q p0 p1 K w):CV z2h [.v (.pointer p0),.v (.string p1)] K w:=C_of Tryz.f12 .auto _ h
def z5j(p0:Option Addr)(p1:ByteArray)(K:Value→PT):PT:=
 L.nonnil p0 fun a1=>
 L.load eP6 (a1.add 3) fun(x2:Option Addr)=>
 L.call Pr z6a [.pointer x2,.string p1] rL fun(x3:Sl)=>
 K (.slice x3.a x3.len x3.cap)
theorem z7r(p0:Option Addr)(p1:ByteArray)(h:z5j p0 p1 K w):CV z3x [.v (.pointer p0),.v (.string p1)] K w:=C_of Tryz.f13 .auto _ h
def ze3:Ann:=(.seq .auto (.seq .auto (.seq .auto (.seq (.seq .auto (.one [(6,(.one (.int .i64))),(8,(.one (.int .i64)))] .auto) none) .auto none) none) none) none)
def z9j(p0:Sl)(p1:Int)(K:Value→PT):PT:=
 L.loop (Y:=Int×Int×Unit) (0,IntKind.wrap .i64 (((p0.len:Nat):Int)-(if((p0.len:Nat):Int)<p1 then((p0.len:Nat):Int)else p1)),()) fun y1 again2=>
 L.ite (decide (y1.2.1<((p0.len:Nat):Int))) (
  L.idx p0.a y1.2.1 p0.len 1 fun a3=>
  L.load eI6 a3 fun(x4:Int)=>
  again2 (IntKind.wrap .i64 (y1.1+x4),IntKind.wrap .i64 (y1.2.1+1),()))<|
 K (.tuple #[.int .i64 y1.1,.int .i64 (if((p0.len:Nat):Int)<p1 then((p0.len:Nat):Int)else p1)])
theorem ze0(p0:Sl)(p1:Int)(h:z9j p0 p1 K w):CV z4U [.v (.slice p0.a p0.len p0.cap),.v (.int .i64 p1)] K w:=C_of Tryz.f14 ze3 _ h
def zby:Ann:=(.seq .auto (.seq .auto (.seq .auto (.seq .auto (.seq .auto (.seq .auto (.seq (.seq .auto (.cond .auto .auto) none) .auto (some [])) (some [])) (some [])) none) none) none) none)
def z7n(p0:HT [.int .i64,.int .i64])(p1:ht0)(p2 p3 p4 p5 p6 p7 p8:Int)(K:Value→PT):PT:=
 L.new [.int .i64 p0.1,.int .i64 p0.2.1] z0G fun b1=>
 L.new [.string p1.1,.int .i64 p1.2.1,.int .i64 p1.2.2.1,.int .i64 p1.2.2.2.1,.int .i64 p1.2.2.2.2.1,.int .i64 p1.2.2.2.2.2.1] z05 fun b2=>
 L.new [.int .i64 0,.int .i64 0] z0G fun b3=>
 L.draw<|
 L.load eI6 (Ad6 b2 2) fun(x4:Int)=>
 L.load eI6 (Ad6 b2 2) fun(x5:Int)=>
 L.call Pr z4l [.int .i64 p4,.int .i64 p5,.int .i64 x4] rI fun(x6:Int)=>
 L.chk (Ad6 b2 2) [.int .i64 x5]<|
 L.call Pr z4l [.int .i64 p6,.int .i64 p7,.int .i64 x5] rI fun(x7:Int)=>
 L.load eI6 (Ad6 b1 1) fun(x8:Int)=>
 L.new [.int .i64 0,.int .i64 0] z0G fun b9=>
 L.store (⟨b9,0,none⟩) [.int .i64 x6,.int .i64 (if(IntKind.wrap .i64 (x8-1))>0 then(IntKind.wrap .i64 (x8-1))else 0)]<|
 L.join (Y:=Unit) (fun k10=>
  L.ite (decide (x7≥(IntKind.wrap .i64 (2*(if p2>1 then p2 else 1))))) (
   L.store (Ad6 b9 1) [.int .i64 6]<|
   k10 (()))<|
  k10 (())) fun z11=>
 L.join (Y:=Unit) (fun k12=>
  L.load eI6 (Ad6 b9 1) fun(x14:Int)=>
  L.ite (decide (x14>0)) (
   L.load eI6 (Ad6 b1 0) fun(x15:Int)=>
   L.store (Ad6 b9 0) [.int .i64 (if x15>(if x7>x6 then x7 else x6)then x15 else(if x7>x6 then x7 else x6))]<|
   k12 (()))<|
  k12 (())) fun z13=>
 L.join (Y:=Unit) (fun k16=>
  L.load eI6 (Ad6 b9 0) fun(x18:Int)=>
  L.ite (x18 == 0) (
   L.ite (decide (p3>0)) (
    L.store (Ad6 b9 0) [.int .i64 1]<|
    k16 (()))<|
   L.load eI6 (Ad6 b1 0) fun(x19:Int)=>
   L.ite (decide (x19>0)) (
    L.load eI6 (Ad6 b2 5) fun(x20:Int)=>
    L.ite (decide (p8<x20)) (
     L.store (Ad6 b9 0) [.int .i64 1]<|
     k16 (()))<|
    k16 (()))<|
   k16 (()))<|
  k16 (())) fun z17=>
 L.load eI6 (Ad6 b9 0) fun(x21:Int)=>
 L.store (Ad6 b9 0) [.int .i64 (if(IntKind.wrap .i64 (4*(if p2>1 then p2 else 1)))<x21 then(IntKind.wrap .i64 (4*(if p2>1 then p2 else 1)))else x21)]<|
 L.load eI6 (Ad6 b9 0) fun(x22:Int)=>
 L.guard (2≠(0:Int))<|
 L.store (Ad6 b9 0) [.int .i64 (if(IntKind.wrap .i64 (Int.tdiv p2 2))>x22 then(IntKind.wrap .i64 (Int.tdiv p2 2))else x22)]<|
 L.load eI6 (Ad6 b9 0) fun(x23:Int)=>
 L.load eI6 (Ad6 b2 3) fun(x24:Int)=>
 L.store (Ad6 b9 0) [.int .i64 (if x24>x23 then x24 else x23)]<|
 L.load eI6 (Ad6 b9 0) fun(x25:Int)=>
 L.load eI6 (Ad6 b2 4) fun(x26:Int)=>
 L.store (Ad6 b9 0) [.int .i64 (if x26<x25 then x26 else x25)]<|
 L.load (.agg [.int .i64,.int .i64]) (⟨b9,0,none⟩) fun(x27:Int×Int×Unit)=>
 L.store (⟨b3,0,none⟩) [.int .i64 x27.1,.int .i64 x27.2.1]<|
 L.load (.agg [.int .i64,.int .i64]) (⟨b3,0,none⟩) fun(x28:Int×Int×Unit)=>
 K (.agg #[.int .i64 x28.1,.int .i64 x28.2.1])
theorem zbs(p0:HT [.int .i64,.int .i64])(p1:ht0)(p2 p3 p4 p5 p6 p7 p8:Int)(h:z7n p0 p1 p2 p3 p4 p5 p6 p7 p8 K w):CV z5f [.ag [.int .i64 p0.1,.int .i64 p0.2.1],.ag (qc0 p1),.v (.int .i64 p2),.v (.int .i64 p3),.v (.int .i64 p4),.v (.int .i64 p5),.v (.int .i64 p6),.v (.int .i64 p7),.v (.int .i64 p8)] K w:=C_of Tryz.f15 zby _ h
def z87(p0:Int)(K:Value→PT):PT:=
 L.ite (decide (p0<0)) (
  L.call Pr z1J [.int .i64 (IntKind.wrap .i64 (0-p0))] rS fun(x1:ByteArray)=>
  L.guard (((s__.size+x1.size:Nat):Int)≤maxI64)<|
  K (.string (s__++x1)))<|
 L.ite (decide (p0≥10)) (
  L.guard (10≠(0:Int))<|
  L.call Pr z1J [.int .i64 (IntKind.wrap .i64 (Int.tdiv p0 10))] rS fun(x2:ByteArray)=>
  L.guard (10≠(0:Int))<|
  L.call Pr z1J [.int .i64 (Int.tmod p0 10)] rS fun(x3:ByteArray)=>
  L.guard (((x2.size+x3.size:Nat):Int)≤maxI64)<|
  K (.string (x2++x3)))<|
 L.new [.int .u8 (IntKind.wrap .u8 (IntKind.wrap .i64 (48+p0)))] zfR fun b4=>
 L.sem Pr rS (convert zja z01 (.slice (some ⟨b4,0,none⟩) 1 1)) fun(x5:ByteArray)=>
 K (.string x5)
theorem zcg(p0:Int)(h:z87 p0 K w):CV z1J [.v (.int .i64 p0)] K w:=C_of Tryz.f16 .auto _ h
def z7i(p0:Option Addr)(p1:ByteArray)(K:Value→PT):PT:=
 L.nonnil p0 fun a1=>
 L.load (.one (.map)) (a1.add 5) fun(x2:Option Nat)=>
 L.call Pr z2e [.map x2,.string p1] (.tup [eP6,eB6]) fun(x3:Option Addr×Bool×Unit)=>
 L.ite x3.2.1 (
  L.nonnil x3.1 fun a4=>
  L.load eI6 ((a4.add 1).add 0) fun(x5:Int)=>
  K (.int .i64 x5))<|
 K (.int .i64 0)
theorem zbn(p0:Option Addr)(p1:ByteArray)(h:z7i p0 p1 K w):CV z2J [.v (.pointer p0),.v (.string p1)] K w:=C_of Tryz.f17 .auto _ h
def zef(p0 p1 p2:Int)(K:Value→PT):PT:=
 L.call Pr z2T [.int .i64 p0,.int .i64 1,.int .i64 30] rB fun(x1:Bool)=>
 L.ite (!x1) (
  K (.tuple #[.pointer none,.int .i64 2]))<|
 L.call Pr z2T [.int .i64 p1,.int .i64 0,.int .i64 8] rB fun(x2:Bool)=>
 L.ite (!x2) (
  K (.tuple #[.pointer none,.int .i64 2]))<|
 L.call Pr z2T [.int .i64 p2,.int .i64 1,.int .i64 50] rB fun(x3:Bool)=>
 L.ite (!x3) (
  K (.tuple #[.pointer none,.int .i64 2]))<|
 L.call Pr zbV [.int .i64 p0] rP fun(x4:Option Addr)=>
 L.call Pr zbT [] rP fun(x5:Option Addr)=>
 L.call Pr zbS [] rP fun(x6:Option Addr)=>
 L.call Pr zdK [] rP fun(x7:Option Addr)=>
 L.call Pr zdL [.pointer x4,.int .i64 p1,.int .i64 p2] rP fun(x8:Option Addr)=>
 L.sem Pr (.one (.one .map)) (Instr.makeMap z0L none) fun(m9:Option Nat)=>
 L.new [.pointer x5,.pointer x6,.pointer x7,.pointer x4,.pointer x8,.map m9,.int .i64 0] zaD fun b10=>
 K (.tuple #[.pointer (some (⟨b10,0,none⟩)),.int .i64 0])
theorem zjv(p0 p1 p2:Int)(h:zef p0 p1 p2 K w):CV z8z [.v (.int .i64 p0),.v (.int .i64 p1),.v (.int .i64 p2)] K w:=C_of Tryz.f19 .auto _ h
def z7W(p0:Option Addr)(K:Value→PT):PT:=
 L.nonnil p0 fun a1=>
 L.load eI6 (a1.add 6) fun(x2:Int)=>
 K (.int .i64 x2)
theorem zc7(p0:Option Addr)(h:z7W p0 K w):CV z5z [.v (.pointer p0)] K w:=C_of Tryz.f27 .auto _ h
def zcp:Ann:=(.seq .auto (.seq .auto (.seq .auto .auto (some [(5,(.one (.int .i64)))])) none) none)
def z88(p0 p1:Int)(K:Value→PT):PT:=
 L.guard (p1≠(0:Int))<|
 L.join (Y:=Int×Unit) (fun k1=>
  L.ite (decide ((Int.tmod p0 p1)<0)) (
   k1 (IntKind.wrap .i64 ((Int.tmod p0 p1)+p1),()))<|
  k1 (Int.tmod p0 p1,())) fun z2=>
 K (.int .i64 z2.1)
theorem zch(p0 p1:Int)(h:z88 p0 p1 K w):CV z1u [.v (.int .i64 p0),.v (.int .i64 p1)] K w:=C_of Tryz.f28 zcp _ h
def zid:Ann:=(.seq .auto (.seq .auto (.seq .auto (.seq (.seq .auto .auto (some [(61,(.one (.bool)))])) (.seq (.seq .auto (.cond .auto (.seq .auto (.cond .auto (.seq .auto (.cond .auto (.seq .auto (.cond .auto .auto) none)) none)) none)) none) .auto (some [])) none) none) none) none)
def zd7(p0:ht1)(K:Value→PT):PT:=
 L.new [.int .i64 p0.1,.string p0.2.1,.string p0.2.2.1,.int .i64 p0.2.2.2.1,.int .i64 p0.2.2.2.2.1,.string p0.2.2.2.2.2.1,.int .i64 p0.2.2.2.2.2.2.1,.int .i64 p0.2.2.2.2.2.2.2.1,.int .i64 p0.2.2.2.2.2.2.2.2.1,.int .i64 p0.2.2.2.2.2.2.2.2.2.1,.int .i64 p0.2.2.2.2.2.2.2.2.2.2.1,.string p0.2.2.2.2.2.2.2.2.2.2.2.1,.string p0.2.2.2.2.2.2.2.2.2.2.2.2.1,Sv6 p0.2.2.2.2.2.2.2.2.2.2.2.2.2.1,.int .i64 p0.2.2.2.2.2.2.2.2.2.2.2.2.2.2.1] z0w fun b1=>
 L.load eI6 (Ad6 b1 0) fun(x2:Int)=>
 L.call Pr z9w [.int .i64 x2] (.tup [(.agg lf3),eB6]) fun(x3:pt2)=>
 L.new [.bool false,.bool false,.bool false,.bool false,.bool false,.bool false] zfU fun b4=>
 L.store (⟨b4,0,none⟩) [.bool x3.1.1,.bool x3.1.2.1,.bool x3.1.2.2.1,.bool x3.1.2.2.2.1,.bool x3.1.2.2.2.2.1,.bool x3.1.2.2.2.2.2.1]<|
 L.ite (!x3.2.1) (
  K (.int .i64 12))<|
 L.join (Y:=Bool×Unit) (fun k5=>
  L.load eB6 (Ad6 b4 0) fun(x7:Bool)=>
  L.load eI6 (Ad6 b1 3) fun(x8:Int)=>
  L.call Pr z5y [.bool x7,.int .i64 x8] rB fun(x9:Bool)=>
  L.ite (!x9) (
   k5 (true,()))<|
  L.load eB6 (Ad6 b4 1) fun(x10:Bool)=>
  L.load eS6 (Ad6 b1 1) fun(x11:ByteArray)=>
  L.call Pr z3Q [.bool x10,.string x11] rB fun(x12:Bool)=>
  L.ite (!x12) (
   k5 (true,()))<|
  L.load eB6 (Ad6 b4 2) fun(x13:Bool)=>
  L.load eS6 (Ad6 b1 2) fun(x14:ByteArray)=>
  L.call Pr z3Q [.bool x13,.string x14] rB fun(x15:Bool)=>
  L.ite (!x15) (
   k5 (true,()))<|
  L.load eB6 (Ad6 b4 3) fun(x16:Bool)=>
  L.load eI6 (Ad6 b1 4) fun(x17:Int)=>
  L.call Pr z5y [.bool x16,.int .i64 x17] rB fun(x18:Bool)=>
  L.ite (!x18) (
   k5 (true,()))<|
  L.load eB6 (Ad6 b4 4) fun(x19:Bool)=>
  L.load (.agg lf0) (Ad6 b1 5) fun(x20:pt0)=>
  L.call Pr z3R [.bool x19,(qa0 x20)] rB fun(x21:Bool)=>
  L.ite (!x21) (
   k5 (true,()))<|
  L.load eB6 (Ad6 b4 5) fun(x22:Bool)=>
  L.ite (!x22) (
   L.load (.agg [.str,.str,.slice,.int .i64]) (Ad6 b1 11) fun(x23:pt3)=>
   L.call Pr zav [.agg #[.string x23.1,.string x23.2.1,Sv6 x23.2.2.1,.int .i64 x23.2.2.2.1]] rB fun(x24:Bool)=>
   k5 (!x24,()))<|
  k5 (false,())) fun z6=>
 L.ite z6.1 (
  K (.int .i64 2))<|
 L.join (Y:=Unit) (fun k25=>
  L.load eB6 (Ad6 b4 0) fun(x27:Bool)=>
  L.ite x27 (
   L.load (.agg lf1) (⟨b1,0,none⟩) fun(x28:pt1)=>
   L.call Pr z8W [(qa1 x28)] rB fun(x29:Bool)=>
   L.ite (!x29) (
    K (.int .i64 2))<|
   L.load eB6 (Ad6 b4 1) fun(x30:Bool)=>
   L.ite x30 (
    L.load (.agg lf1) (⟨b1,0,none⟩) fun(x31:pt1)=>
    L.call Pr z7v [(qa1 x31)] rB fun(x32:Bool)=>
    L.ite (!x32) (
     K (.int .i64 1))<|
    L.load eB6 (Ad6 b4 2) fun(x33:Bool)=>
    L.ite x33 (
     L.load eS6 (Ad6 b1 2) fun(x34:ByteArray)=>
     L.ite (!(x34.toList == s_.toList)) (
      L.load eS6 (Ad6 b1 2) fun(x35:ByteArray)=>
      L.call Pr z3P [.string x35] rB fun(x36:Bool)=>
      L.ite (!x36) (
       K (.int .i64 1))<|
      L.load eB6 (Ad6 b4 3) fun(x37:Bool)=>
      L.ite x37 (
       L.load eI6 (Ad6 b1 4) fun(x38:Int)=>
       L.call Pr z0R [.int .i64 x38,.int .i64 0,.int .i64 2147483647] rB fun(x39:Bool)=>
       L.ite (!x39) (
        K (.int .i64 2))<|
       L.load eB6 (Ad6 b4 4) fun(x40:Bool)=>
       L.ite x40 (
        L.load (.agg lf0) (Ad6 b1 5) fun(x41:pt0)=>
        L.call Pr z0q [(qa0 x41)] rI fun(x42:Int)=>
        K (.int .i64 x42))<|
       L.load eB6 (Ad6 b4 5) fun(x43:Bool)=>
       L.ite x43 (
        L.load (.agg [.str,.str,.slice,.int .i64]) (Ad6 b1 11) fun(x44:pt3)=>
        L.call Pr z0y [.agg #[.string x44.1,.string x44.2.1,Sv6 x44.2.2.1,.int .i64 x44.2.2.2.1]] rI fun(x45:Int)=>
        K (.int .i64 x45))<|
       k25 (()))<|
      L.load eB6 (Ad6 b4 4) fun(x46:Bool)=>
      L.ite x46 (
       L.load (.agg lf0) (Ad6 b1 5) fun(x47:pt0)=>
       L.call Pr z0q [(qa0 x47)] rI fun(x48:Int)=>
       K (.int .i64 x48))<|
      L.load eB6 (Ad6 b4 5) fun(x49:Bool)=>
      L.ite x49 (
       L.load (.agg [.str,.str,.slice,.int .i64]) (Ad6 b1 11) fun(x50:pt3)=>
       L.call Pr z0y [.agg #[.string x50.1,.string x50.2.1,Sv6 x50.2.2.1,.int .i64 x50.2.2.2.1]] rI fun(x51:Int)=>
       K (.int .i64 x51))<|
      k25 (()))<|
     L.load eB6 (Ad6 b4 3) fun(x52:Bool)=>
     L.ite x52 (
      L.load eI6 (Ad6 b1 4) fun(x53:Int)=>
      L.call Pr z0R [.int .i64 x53,.int .i64 0,.int .i64 2147483647] rB fun(x54:Bool)=>
      L.ite (!x54) (
       K (.int .i64 2))<|
      L.load eB6 (Ad6 b4 4) fun(x55:Bool)=>
      L.ite x55 (
       L.load (.agg lf0) (Ad6 b1 5) fun(x56:pt0)=>
       L.call Pr z0q [(qa0 x56)] rI fun(x57:Int)=>
       K (.int .i64 x57))<|
      L.load eB6 (Ad6 b4 5) fun(x58:Bool)=>
      L.ite x58 (
       L.load (.agg [.str,.str,.slice,.int .i64]) (Ad6 b1 11) fun(x59:pt3)=>
       L.call Pr z0y [.agg #[.string x59.1,.string x59.2.1,Sv6 x59.2.2.1,.int .i64 x59.2.2.2.1]] rI fun(x60:Int)=>
       K (.int .i64 x60))<|
      k25 (()))<|
     L.load eB6 (Ad6 b4 4) fun(x61:Bool)=>
     L.ite x61 (
      L.load (.agg lf0) (Ad6 b1 5) fun(x62:pt0)=>
      L.call Pr z0q [(qa0 x62)] rI fun(x63:Int)=>
      K (.int .i64 x63))<|
     L.load eB6 (Ad6 b4 5) fun(x64:Bool)=>
     L.ite x64 (
      L.load (.agg [.str,.str,.slice,.int .i64]) (Ad6 b1 11) fun(x65:pt3)=>
      L.call Pr z0y [.agg #[.string x65.1,.string x65.2.1,Sv6 x65.2.2.1,.int .i64 x65.2.2.2.1]] rI fun(x66:Int)=>
      K (.int .i64 x66))<|
     k25 (()))<|
    L.load eB6 (Ad6 b4 3) fun(x67:Bool)=>
    L.ite x67 (
     L.load eI6 (Ad6 b1 4) fun(x68:Int)=>
     L.call Pr z0R [.int .i64 x68,.int .i64 0,.int .i64 2147483647] rB fun(x69:Bool)=>
     L.ite (!x69) (
      K (.int .i64 2))<|
     L.load eB6 (Ad6 b4 4) fun(x70:Bool)=>
     L.ite x70 (
      L.load (.agg lf0) (Ad6 b1 5) fun(x71:pt0)=>
      L.call Pr z0q [(qa0 x71)] rI fun(x72:Int)=>
      K (.int .i64 x72))<|
     L.load eB6 (Ad6 b4 5) fun(x73:Bool)=>
     L.ite x73 (
      L.load (.agg [.str,.str,.slice,.int .i64]) (Ad6 b1 11) fun(x74:pt3)=>
      L.call Pr z0y [.agg #[.string x74.1,.string x74.2.1,Sv6 x74.2.2.1,.int .i64 x74.2.2.2.1]] rI fun(x75:Int)=>
      K (.int .i64 x75))<|
     k25 (()))<|
    L.load eB6 (Ad6 b4 4) fun(x76:Bool)=>
    L.ite x76 (
     L.load (.agg lf0) (Ad6 b1 5) fun(x77:pt0)=>
     L.call Pr z0q [(qa0 x77)] rI fun(x78:Int)=>
     K (.int .i64 x78))<|
    L.load eB6 (Ad6 b4 5) fun(x79:Bool)=>
    L.ite x79 (
     L.load (.agg [.str,.str,.slice,.int .i64]) (Ad6 b1 11) fun(x80:pt3)=>
     L.call Pr z0y [.agg #[.string x80.1,.string x80.2.1,Sv6 x80.2.2.1,.int .i64 x80.2.2.2.1]] rI fun(x81:Int)=>
     K (.int .i64 x81))<|
    k25 (()))<|
   L.load eB6 (Ad6 b4 2) fun(x82:Bool)=>
   L.ite x82 (
    L.load eS6 (Ad6 b1 2) fun(x83:ByteArray)=>
    L.ite (!(x83.toList == s_.toList)) (
     L.load eS6 (Ad6 b1 2) fun(x84:ByteArray)=>
     L.call Pr z3P [.string x84] rB fun(x85:Bool)=>
     L.ite (!x85) (
      K (.int .i64 1))<|
     L.load eB6 (Ad6 b4 3) fun(x86:Bool)=>
     L.ite x86 (
      L.load eI6 (Ad6 b1 4) fun(x87:Int)=>
      L.call Pr z0R [.int .i64 x87,.int .i64 0,.int .i64 2147483647] rB fun(x88:Bool)=>
      L.ite (!x88) (
       K (.int .i64 2))<|
      L.load eB6 (Ad6 b4 4) fun(x89:Bool)=>
      L.ite x89 (
       L.load (.agg lf0) (Ad6 b1 5) fun(x90:pt0)=>
       L.call Pr z0q [(qa0 x90)] rI fun(x91:Int)=>
       K (.int .i64 x91))<|
      L.load eB6 (Ad6 b4 5) fun(x92:Bool)=>
      L.ite x92 (
       L.load (.agg [.str,.str,.slice,.int .i64]) (Ad6 b1 11) fun(x93:pt3)=>
       L.call Pr z0y [.agg #[.string x93.1,.string x93.2.1,Sv6 x93.2.2.1,.int .i64 x93.2.2.2.1]] rI fun(x94:Int)=>
       K (.int .i64 x94))<|
      k25 (()))<|
     L.load eB6 (Ad6 b4 4) fun(x95:Bool)=>
     L.ite x95 (
      L.load (.agg lf0) (Ad6 b1 5) fun(x96:pt0)=>
      L.call Pr z0q [(qa0 x96)] rI fun(x97:Int)=>
      K (.int .i64 x97))<|
     L.load eB6 (Ad6 b4 5) fun(x98:Bool)=>
     L.ite x98 (
      L.load (.agg [.str,.str,.slice,.int .i64]) (Ad6 b1 11) fun(x99:pt3)=>
      L.call Pr z0y [.agg #[.string x99.1,.string x99.2.1,Sv6 x99.2.2.1,.int .i64 x99.2.2.2.1]] rI fun(x100:Int)=>
      K (.int .i64 x100))<|
     k25 (()))<|
    L.load eB6 (Ad6 b4 3) fun(x101:Bool)=>
    L.ite x101 (
     L.load eI6 (Ad6 b1 4) fun(x102:Int)=>
     L.call Pr z0R [.int .i64 x102,.int .i64 0,.int .i64 2147483647] rB fun(x103:Bool)=>
     L.ite (!x103) (
      K (.int .i64 2))<|
     L.load eB6 (Ad6 b4 4) fun(x104:Bool)=>
     L.ite x104 (
      L.load (.agg lf0) (Ad6 b1 5) fun(x105:pt0)=>
      L.call Pr z0q [(qa0 x105)] rI fun(x106:Int)=>
      K (.int .i64 x106))<|
     L.load eB6 (Ad6 b4 5) fun(x107:Bool)=>
     L.ite x107 (
      L.load (.agg [.str,.str,.slice,.int .i64]) (Ad6 b1 11) fun(x108:pt3)=>
      L.call Pr z0y [.agg #[.string x108.1,.string x108.2.1,Sv6 x108.2.2.1,.int .i64 x108.2.2.2.1]] rI fun(x109:Int)=>
      K (.int .i64 x109))<|
     k25 (()))<|
    L.load eB6 (Ad6 b4 4) fun(x110:Bool)=>
    L.ite x110 (
     L.load (.agg lf0) (Ad6 b1 5) fun(x111:pt0)=>
     L.call Pr z0q [(qa0 x111)] rI fun(x112:Int)=>
     K (.int .i64 x112))<|
    L.load eB6 (Ad6 b4 5) fun(x113:Bool)=>
    L.ite x113 (
     L.load (.agg [.str,.str,.slice,.int .i64]) (Ad6 b1 11) fun(x114:pt3)=>
     L.call Pr z0y [.agg #[.string x114.1,.string x114.2.1,Sv6 x114.2.2.1,.int .i64 x114.2.2.2.1]] rI fun(x115:Int)=>
     K (.int .i64 x115))<|
    k25 (()))<|
   L.load eB6 (Ad6 b4 3) fun(x116:Bool)=>
   L.ite x116 (
    L.load eI6 (Ad6 b1 4) fun(x117:Int)=>
    L.call Pr z0R [.int .i64 x117,.int .i64 0,.int .i64 2147483647] rB fun(x118:Bool)=>
    L.ite (!x118) (
     K (.int .i64 2))<|
    L.load eB6 (Ad6 b4 4) fun(x119:Bool)=>
    L.ite x119 (
     L.load (.agg lf0) (Ad6 b1 5) fun(x120:pt0)=>
     L.call Pr z0q [(qa0 x120)] rI fun(x121:Int)=>
     K (.int .i64 x121))<|
    L.load eB6 (Ad6 b4 5) fun(x122:Bool)=>
    L.ite x122 (
     L.load (.agg [.str,.str,.slice,.int .i64]) (Ad6 b1 11) fun(x123:pt3)=>
     L.call Pr z0y [.agg #[.string x123.1,.string x123.2.1,Sv6 x123.2.2.1,.int .i64 x123.2.2.2.1]] rI fun(x124:Int)=>
     K (.int .i64 x124))<|
    k25 (()))<|
   L.load eB6 (Ad6 b4 4) fun(x125:Bool)=>
   L.ite x125 (
    L.load (.agg lf0) (Ad6 b1 5) fun(x126:pt0)=>
    L.call Pr z0q [(qa0 x126)] rI fun(x127:Int)=>
    K (.int .i64 x127))<|
   L.load eB6 (Ad6 b4 5) fun(x128:Bool)=>
   L.ite x128 (
    L.load (.agg [.str,.str,.slice,.int .i64]) (Ad6 b1 11) fun(x129:pt3)=>
    L.call Pr z0y [.agg #[.string x129.1,.string x129.2.1,Sv6 x129.2.2.1,.int .i64 x129.2.2.2.1]] rI fun(x130:Int)=>
    K (.int .i64 x130))<|
   k25 (()))<|
  L.load eB6 (Ad6 b4 1) fun(x131:Bool)=>
  L.ite x131 (
   L.load (.agg lf1) (⟨b1,0,none⟩) fun(x132:pt1)=>
   L.call Pr z7v [(qa1 x132)] rB fun(x133:Bool)=>
   L.ite (!x133) (
    K (.int .i64 1))<|
   L.load eB6 (Ad6 b4 2) fun(x134:Bool)=>
   L.ite x134 (
    L.load eS6 (Ad6 b1 2) fun(x135:ByteArray)=>
    L.ite (!(x135.toList == s_.toList)) (
     L.load eS6 (Ad6 b1 2) fun(x136:ByteArray)=>
     L.call Pr z3P [.string x136] rB fun(x137:Bool)=>
     L.ite (!x137) (
      K (.int .i64 1))<|
     L.load eB6 (Ad6 b4 3) fun(x138:Bool)=>
     L.ite x138 (
      L.load eI6 (Ad6 b1 4) fun(x139:Int)=>
      L.call Pr z0R [.int .i64 x139,.int .i64 0,.int .i64 2147483647] rB fun(x140:Bool)=>
      L.ite (!x140) (
       K (.int .i64 2))<|
      L.load eB6 (Ad6 b4 4) fun(x141:Bool)=>
      L.ite x141 (
       L.load (.agg lf0) (Ad6 b1 5) fun(x142:pt0)=>
       L.call Pr z0q [(qa0 x142)] rI fun(x143:Int)=>
       K (.int .i64 x143))<|
      L.load eB6 (Ad6 b4 5) fun(x144:Bool)=>
      L.ite x144 (
       L.load (.agg [.str,.str,.slice,.int .i64]) (Ad6 b1 11) fun(x145:pt3)=>
       L.call Pr z0y [.agg #[.string x145.1,.string x145.2.1,Sv6 x145.2.2.1,.int .i64 x145.2.2.2.1]] rI fun(x146:Int)=>
       K (.int .i64 x146))<|
      k25 (()))<|
     L.load eB6 (Ad6 b4 4) fun(x147:Bool)=>
     L.ite x147 (
      L.load (.agg lf0) (Ad6 b1 5) fun(x148:pt0)=>
      L.call Pr z0q [(qa0 x148)] rI fun(x149:Int)=>
      K (.int .i64 x149))<|
     L.load eB6 (Ad6 b4 5) fun(x150:Bool)=>
     L.ite x150 (
      L.load (.agg [.str,.str,.slice,.int .i64]) (Ad6 b1 11) fun(x151:pt3)=>
      L.call Pr z0y [.agg #[.string x151.1,.string x151.2.1,Sv6 x151.2.2.1,.int .i64 x151.2.2.2.1]] rI fun(x152:Int)=>
      K (.int .i64 x152))<|
     k25 (()))<|
    L.load eB6 (Ad6 b4 3) fun(x153:Bool)=>
    L.ite x153 (
     L.load eI6 (Ad6 b1 4) fun(x154:Int)=>
     L.call Pr z0R [.int .i64 x154,.int .i64 0,.int .i64 2147483647] rB fun(x155:Bool)=>
     L.ite (!x155) (
      K (.int .i64 2))<|
     L.load eB6 (Ad6 b4 4) fun(x156:Bool)=>
     L.ite x156 (
      L.load (.agg lf0) (Ad6 b1 5) fun(x157:pt0)=>
      L.call Pr z0q [(qa0 x157)] rI fun(x158:Int)=>
      K (.int .i64 x158))<|
     L.load eB6 (Ad6 b4 5) fun(x159:Bool)=>
     L.ite x159 (
      L.load (.agg [.str,.str,.slice,.int .i64]) (Ad6 b1 11) fun(x160:pt3)=>
      L.call Pr z0y [.agg #[.string x160.1,.string x160.2.1,Sv6 x160.2.2.1,.int .i64 x160.2.2.2.1]] rI fun(x161:Int)=>
      K (.int .i64 x161))<|
     k25 (()))<|
    L.load eB6 (Ad6 b4 4) fun(x162:Bool)=>
    L.ite x162 (
     L.load (.agg lf0) (Ad6 b1 5) fun(x163:pt0)=>
     L.call Pr z0q [(qa0 x163)] rI fun(x164:Int)=>
     K (.int .i64 x164))<|
    L.load eB6 (Ad6 b4 5) fun(x165:Bool)=>
    L.ite x165 (
     L.load (.agg [.str,.str,.slice,.int .i64]) (Ad6 b1 11) fun(x166:pt3)=>
     L.call Pr z0y [.agg #[.string x166.1,.string x166.2.1,Sv6 x166.2.2.1,.int .i64 x166.2.2.2.1]] rI fun(x167:Int)=>
     K (.int .i64 x167))<|
    k25 (()))<|
   L.load eB6 (Ad6 b4 3) fun(x168:Bool)=>
   L.ite x168 (
    L.load eI6 (Ad6 b1 4) fun(x169:Int)=>
    L.call Pr z0R [.int .i64 x169,.int .i64 0,.int .i64 2147483647] rB fun(x170:Bool)=>
    L.ite (!x170) (
     K (.int .i64 2))<|
    L.load eB6 (Ad6 b4 4) fun(x171:Bool)=>
    L.ite x171 (
     L.load (.agg lf0) (Ad6 b1 5) fun(x172:pt0)=>
     L.call Pr z0q [(qa0 x172)] rI fun(x173:Int)=>
     K (.int .i64 x173))<|
    L.load eB6 (Ad6 b4 5) fun(x174:Bool)=>
    L.ite x174 (
     L.load (.agg [.str,.str,.slice,.int .i64]) (Ad6 b1 11) fun(x175:pt3)=>
     L.call Pr z0y [.agg #[.string x175.1,.string x175.2.1,Sv6 x175.2.2.1,.int .i64 x175.2.2.2.1]] rI fun(x176:Int)=>
     K (.int .i64 x176))<|
    k25 (()))<|
   L.load eB6 (Ad6 b4 4) fun(x177:Bool)=>
   L.ite x177 (
    L.load (.agg lf0) (Ad6 b1 5) fun(x178:pt0)=>
    L.call Pr z0q [(qa0 x178)] rI fun(x179:Int)=>
    K (.int .i64 x179))<|
   L.load eB6 (Ad6 b4 5) fun(x180:Bool)=>
   L.ite x180 (
    L.load (.agg [.str,.str,.slice,.int .i64]) (Ad6 b1 11) fun(x181:pt3)=>
    L.call Pr z0y [.agg #[.string x181.1,.string x181.2.1,Sv6 x181.2.2.1,.int .i64 x181.2.2.2.1]] rI fun(x182:Int)=>
    K (.int .i64 x182))<|
   k25 (()))<|
  L.load eB6 (Ad6 b4 2) fun(x183:Bool)=>
  L.ite x183 (
   L.load eS6 (Ad6 b1 2) fun(x184:ByteArray)=>
   L.ite (!(x184.toList == s_.toList)) (
    L.load eS6 (Ad6 b1 2) fun(x185:ByteArray)=>
    L.call Pr z3P [.string x185] rB fun(x186:Bool)=>
    L.ite (!x186) (
     K (.int .i64 1))<|
    L.load eB6 (Ad6 b4 3) fun(x187:Bool)=>
    L.ite x187 (
     L.load eI6 (Ad6 b1 4) fun(x188:Int)=>
     L.call Pr z0R [.int .i64 x188,.int .i64 0,.int .i64 2147483647] rB fun(x189:Bool)=>
     L.ite (!x189) (
      K (.int .i64 2))<|
     L.load eB6 (Ad6 b4 4) fun(x190:Bool)=>
     L.ite x190 (
      L.load (.agg lf0) (Ad6 b1 5) fun(x191:pt0)=>
      L.call Pr z0q [(qa0 x191)] rI fun(x192:Int)=>
      K (.int .i64 x192))<|
     L.load eB6 (Ad6 b4 5) fun(x193:Bool)=>
     L.ite x193 (
      L.load (.agg [.str,.str,.slice,.int .i64]) (Ad6 b1 11) fun(x194:pt3)=>
      L.call Pr z0y [.agg #[.string x194.1,.string x194.2.1,Sv6 x194.2.2.1,.int .i64 x194.2.2.2.1]] rI fun(x195:Int)=>
      K (.int .i64 x195))<|
     k25 (()))<|
    L.load eB6 (Ad6 b4 4) fun(x196:Bool)=>
    L.ite x196 (
     L.load (.agg lf0) (Ad6 b1 5) fun(x197:pt0)=>
     L.call Pr z0q [(qa0 x197)] rI fun(x198:Int)=>
     K (.int .i64 x198))<|
    L.load eB6 (Ad6 b4 5) fun(x199:Bool)=>
    L.ite x199 (
     L.load (.agg [.str,.str,.slice,.int .i64]) (Ad6 b1 11) fun(x200:pt3)=>
     L.call Pr z0y [.agg #[.string x200.1,.string x200.2.1,Sv6 x200.2.2.1,.int .i64 x200.2.2.2.1]] rI fun(x201:Int)=>
     K (.int .i64 x201))<|
    k25 (()))<|
   L.load eB6 (Ad6 b4 3) fun(x202:Bool)=>
   L.ite x202 (
    L.load eI6 (Ad6 b1 4) fun(x203:Int)=>
    L.call Pr z0R [.int .i64 x203,.int .i64 0,.int .i64 2147483647] rB fun(x204:Bool)=>
    L.ite (!x204) (
     K (.int .i64 2))<|
    L.load eB6 (Ad6 b4 4) fun(x205:Bool)=>
    L.ite x205 (
     L.load (.agg lf0) (Ad6 b1 5) fun(x206:pt0)=>
     L.call Pr z0q [(qa0 x206)] rI fun(x207:Int)=>
     K (.int .i64 x207))<|
    L.load eB6 (Ad6 b4 5) fun(x208:Bool)=>
    L.ite x208 (
     L.load (.agg [.str,.str,.slice,.int .i64]) (Ad6 b1 11) fun(x209:pt3)=>
     L.call Pr z0y [.agg #[.string x209.1,.string x209.2.1,Sv6 x209.2.2.1,.int .i64 x209.2.2.2.1]] rI fun(x210:Int)=>
     K (.int .i64 x210))<|
    k25 (()))<|
   L.load eB6 (Ad6 b4 4) fun(x211:Bool)=>
   L.ite x211 (
    L.load (.agg lf0) (Ad6 b1 5) fun(x212:pt0)=>
    L.call Pr z0q [(qa0 x212)] rI fun(x213:Int)=>
    K (.int .i64 x213))<|
   L.load eB6 (Ad6 b4 5) fun(x214:Bool)=>
   L.ite x214 (
    L.load (.agg [.str,.str,.slice,.int .i64]) (Ad6 b1 11) fun(x215:pt3)=>
    L.call Pr z0y [.agg #[.string x215.1,.string x215.2.1,Sv6 x215.2.2.1,.int .i64 x215.2.2.2.1]] rI fun(x216:Int)=>
    K (.int .i64 x216))<|
   k25 (()))<|
  L.load eB6 (Ad6 b4 3) fun(x217:Bool)=>
  L.ite x217 (
   L.load eI6 (Ad6 b1 4) fun(x218:Int)=>
   L.call Pr z0R [.int .i64 x218,.int .i64 0,.int .i64 2147483647] rB fun(x219:Bool)=>
   L.ite (!x219) (
    K (.int .i64 2))<|
   L.load eB6 (Ad6 b4 4) fun(x220:Bool)=>
   L.ite x220 (
    L.load (.agg lf0) (Ad6 b1 5) fun(x221:pt0)=>
    L.call Pr z0q [(qa0 x221)] rI fun(x222:Int)=>
    K (.int .i64 x222))<|
   L.load eB6 (Ad6 b4 5) fun(x223:Bool)=>
   L.ite x223 (
    L.load (.agg [.str,.str,.slice,.int .i64]) (Ad6 b1 11) fun(x224:pt3)=>
    L.call Pr z0y [.agg #[.string x224.1,.string x224.2.1,Sv6 x224.2.2.1,.int .i64 x224.2.2.2.1]] rI fun(x225:Int)=>
    K (.int .i64 x225))<|
   k25 (()))<|
  L.load eB6 (Ad6 b4 4) fun(x226:Bool)=>
  L.ite x226 (
   L.load (.agg lf0) (Ad6 b1 5) fun(x227:pt0)=>
   L.call Pr z0q [(qa0 x227)] rI fun(x228:Int)=>
   K (.int .i64 x228))<|
  L.load eB6 (Ad6 b4 5) fun(x229:Bool)=>
  L.ite x229 (
   L.load (.agg [.str,.str,.slice,.int .i64]) (Ad6 b1 11) fun(x230:pt3)=>
   L.call Pr z0y [.agg #[.string x230.1,.string x230.2.1,Sv6 x230.2.2.1,.int .i64 x230.2.2.2.1]] rI fun(x231:Int)=>
   K (.int .i64 x231))<|
  k25 (())) fun z26=>
 K (.int .i64 0)
theorem zi2(p0:ht1)(h:zd7 p0 K w):CV z9x [.ag (qc1 p0)] K w:=C_of Tryz.f29 zid _ h
def zbu:Ann:=(.seq .auto (.seq .auto (.seq (.seq .auto (.one [(5,(.one (.slice))),(14,(.one (.int .i64)))] (.seq .auto (.seq .auto (.seq .auto .auto (some [(5,(.one (.slice)))])) none) none)) none) .auto none) none) none)
def z7h(p0:ByteArray)(p1:Sl)(K:Value→PT):PT:=
 L.new [.string p0] z01 fun b1=>
 L.loop (Y:=Sl×Int×Unit) (⟨some ⟨b1,0,none⟩,1,1⟩,0,()) fun y2 again3=>
 L.ite (decide (y2.2.1<((p1.len:Nat):Int))) (
  L.join (Y:=Sl×Unit) (fun k4=>
   L.idx p1.a y2.2.1 p1.len 1 fun a6=>
   L.load eS6 a6 fun(x7:ByteArray)=>
   L.ite true (
    L.new [.string x7] z01 fun b8=>
    L.sem Pr (.one (.one .slice)) (Builtin.append_ #[z08,z08] z08 #[Sv6 y2.1,.slice (some ⟨b8,0,none⟩) 1 1]) fun(s9:Sl)=>
    k4 (⟨s9.a,s9.len,s9.cap⟩,()))<|
   L.semR Pr (.tup [eI6,.one .bool]) (Instr.typeAssert (.iface z01 (.string x7)) zbZ z0g true) fun(x10:Int×Bool×Unit)=>
   L.ite x10.2.1 (
    L.call Pr z4c [.int .i64 x10.1] rS fun(x11:ByteArray)=>
    L.new [.string x11] z01 fun b12=>
    L.sem Pr (.one (.one .slice)) (Builtin.append_ #[z08,z08] z08 #[Sv6 y2.1,.slice (some ⟨b12,0,none⟩) 1 1]) fun(s13:Sl)=>
    k4 (⟨s13.a,s13.len,s13.cap⟩,()))<|
   k4 (⟨y2.1.a,y2.1.len,y2.1.cap⟩,())) fun z5=>
  again3 (⟨z5.1.a,z5.1.len,z5.1.cap⟩,IntKind.wrap .i64 (y2.2.1+1),()))<|
 L.call Pr z6B [Sv6 y2.1,.string z9n] rS fun(x14:ByteArray)=>
 K (.string x14)
theorem zbj(p0:ByteArray)(p1:Sl)(h:z7h p0 p1 K w):CV z0e [.v (.string p0),.v (.slice p1.a p1.len p1.cap)] K w:=C_of Tryz.f30 zbu _ h
def z9k(p0:Int)(K:Value→PT):PT:=
 L.ite (decide (p0≤6)) (
  L.call Pr zfv [.int .i64 p0] rS fun(x1:ByteArray)=>
  K (.string x1))<|
 L.call Pr zgJ [.int .i64 p0] rS fun(x2:ByteArray)=>
 K (.string x2)
theorem ze1(p0:Int)(h:z9k p0 K w):CV z4V [.v (.int .i64 p0)] K w:=C_of Tryz.f31 .auto _ h
def z4f(p0:Option Addr)(p1:ht1)(K:Value→PT):PT:=
 L.new [.int .i64 p1.1,.string p1.2.1,.string p1.2.2.1,.int .i64 p1.2.2.2.1,.int .i64 p1.2.2.2.2.1,.string p1.2.2.2.2.2.1,.int .i64 p1.2.2.2.2.2.2.1,.int .i64 p1.2.2.2.2.2.2.2.1,.int .i64 p1.2.2.2.2.2.2.2.2.1,.int .i64 p1.2.2.2.2.2.2.2.2.2.1,.int .i64 p1.2.2.2.2.2.2.2.2.2.2.1,.string p1.2.2.2.2.2.2.2.2.2.2.2.1,.string p1.2.2.2.2.2.2.2.2.2.2.2.2.1,Sv6 p1.2.2.2.2.2.2.2.2.2.2.2.2.2.1,.int .i64 p1.2.2.2.2.2.2.2.2.2.2.2.2.2.2.1] z0w fun b1=>
 L.draw<|
 L.nonnil p0 fun a2=>
 L.load eP6 (a2.add 0) fun(x3:Option Addr)=>
 L.load (.agg lf0) (Ad6 b1 5) fun(x4:pt0)=>
 L.load eI6 (Ad6 b1 3) fun(x5:Int)=>
 L.call Pr z3O [.pointer x3,(qa0 x4),.int .i64 x5] (.tup [eI6,eI6]) fun(x6:Int×Int×Unit)=>
 L.load eS6 ((Ad6 b1 5).add 0) fun(x7:ByteArray)=>
 L.call Pr z8y [.string zcx,.string x7,.int .i64 x6.1,.int .i64 x6.2.1] rL fun(x8:Sl)=>
 K (.slice x8.a x8.len x8.cap)
theorem zad(p0:Option Addr)(p1:ht1)(h:z4f p0 p1 K w):CV z1D [.v (.pointer p0),.ag (qc1 p1)] K w:=C_of Tryz.f32 .auto _ h
theorem zaa:Enters Pr z1D:=z0p (by kernel_rfl)
def z4H(p0:Option Addr)(p1:ht1)(K:Value→PT):PT:=
 L.new [.int .i64 p1.1,.string p1.2.1,.string p1.2.2.1,.int .i64 p1.2.2.2.1,.int .i64 p1.2.2.2.2.1,.string p1.2.2.2.2.2.1,.int .i64 p1.2.2.2.2.2.2.1,.int .i64 p1.2.2.2.2.2.2.2.1,.int .i64 p1.2.2.2.2.2.2.2.2.1,.int .i64 p1.2.2.2.2.2.2.2.2.2.1,.int .i64 p1.2.2.2.2.2.2.2.2.2.2.1,.string p1.2.2.2.2.2.2.2.2.2.2.2.1,.string p1.2.2.2.2.2.2.2.2.2.2.2.2.1,Sv6 p1.2.2.2.2.2.2.2.2.2.2.2.2.2.1,.int .i64 p1.2.2.2.2.2.2.2.2.2.2.2.2.2.2.1] z0w fun b1=>
 L.draw<|
 L.nonnil p0 fun a2=>
 L.load eP6 (a2.add 0) fun(x3:Option Addr)=>
 L.load (.agg [.str,.str,.slice,.int .i64]) (Ad6 b1 11) fun(x4:pt3)=>
 L.load eI6 (Ad6 b1 3) fun(x5:Int)=>
 L.call Pr z4e [.pointer x3,.agg #[.string x4.1,.string x4.2.1,Sv6 x4.2.2.1,.int .i64 x4.2.2.2.1],.int .i64 x5] (.tup [eI6,eI6]) fun(x6:Int×Int×Unit)=>
 L.load eS6 ((Ad6 b1 11).add 0) fun(x7:ByteArray)=>
 L.call Pr z8y [.string zjL,.string x7,.int .i64 x6.1,.int .i64 x6.2.1] rL fun(x8:Sl)=>
 K (.slice x8.a x8.len x8.cap)
theorem zaV(p0:Option Addr)(p1:ht1)(h:z4H p0 p1 K w):CV z1N [.v (.pointer p0),.ag (qc1 p1)] K w:=C_of Tryz.f33 .auto _ h
theorem zaQ:Enters Pr z1N:=z0p (by kernel_rfl)
def zaj:Ann:=(.seq .auto (.seq .auto (.seq .auto (.seq .auto (.seq .auto (.seq (.seq .auto (.cond .auto .auto) none) .auto (some [(7,(.one (.slice)))])) none) none) none) none) none)
def z4g(p0:Option Addr)(p1:ht1)(K:Value→PT):PT:=
 L.new [.int .i64 p1.1,.string p1.2.1,.string p1.2.2.1,.int .i64 p1.2.2.2.1,.int .i64 p1.2.2.2.2.1,.string p1.2.2.2.2.2.1,.int .i64 p1.2.2.2.2.2.2.1,.int .i64 p1.2.2.2.2.2.2.2.1,.int .i64 p1.2.2.2.2.2.2.2.2.1,.int .i64 p1.2.2.2.2.2.2.2.2.2.1,.int .i64 p1.2.2.2.2.2.2.2.2.2.2.1,.string p1.2.2.2.2.2.2.2.2.2.2.2.1,.string p1.2.2.2.2.2.2.2.2.2.2.2.2.1,Sv6 p1.2.2.2.2.2.2.2.2.2.2.2.2.2.1,.int .i64 p1.2.2.2.2.2.2.2.2.2.2.2.2.2.2.1] z0w fun b1=>
 L.load (.agg lf1) (⟨b1,0,none⟩) fun(x2:pt1)=>
 L.call Pr z4y [.pointer p0,(qa1 x2)] rS fun(x3:ByteArray)=>
 L.draw<|
 L.nonnil p0 fun a4=>
 L.load eP6 (a4.add 4) fun(x5:Option Addr)=>
 L.load eI6 (Ad6 b1 3) fun(x6:Int)=>
 L.nonnil p0 fun a7=>
 L.load eI6 (a7.add 6) fun(x8:Int)=>
 L.call Pr z68 [.pointer x5,.int .i64 x6,.string x3,.int .i64 x8] rL fun(x9:Sl)=>
 L.call Pr z4Q [Sv6 x9,.slice none 0 0] rL fun(x10:Sl)=>
 L.nonnil p0 fun a11=>
 L.load (.one (.map)) (a11.add 5) fun(x12:Option Nat)=>
 L.call Pr z2e [.map x12,.string x3] (.tup [eP6,eB6]) fun(x13:Option Addr×Bool×Unit)=>
 L.join (Y:=Sl×Unit) (fun k14=>
  L.ite x13.2.1 (
   L.ite (decide (((x9.len:Nat):Int)>0)) (
    L.idx x9.a 0 x9.len 4 fun a16=>
    L.load eI6 (a16.add 1) fun(x17:Int)=>
    L.ite (x17 == 2) (
     L.nonnil x13.1 fun a18=>
     L.load eI6 ((a18.add 1).add 0) fun(x19:Int)=>
     L.ite (x19 == 0) (
      L.nonnil x13.1 fun a20=>
      L.store ((a20.add 1).add 0) [.int .i64 1]<|
      L.new [.string x3] z01 fun b21=>
      L.call Pr z0e [.string s_scale,.slice (some ⟨b21,0,none⟩) 1 1] rS fun(x22:ByteArray)=>
      L.new [.int .i64 1] z0g fun b23=>
      L.call Pr z0k [.string x22,.slice (some ⟨b23,0,none⟩) 1 1] rS fun(x24:ByteArray)=>
      L.new [.string x24] z01 fun b25=>
      L.sem Pr (.one (.one .slice)) (Builtin.append_ #[z08,z08] z08 #[Sv6 x10,.slice (some ⟨b25,0,none⟩) 1 1]) fun(s26:Sl)=>
      k14 (⟨s26.a,s26.len,s26.cap⟩,()))<|
     k14 (⟨x10.a,x10.len,x10.cap⟩,()))<|
    k14 (⟨x10.a,x10.len,x10.cap⟩,()))<|
   k14 (⟨x10.a,x10.len,x10.cap⟩,()))<|
  k14 (⟨x10.a,x10.len,x10.cap⟩,())) fun z15=>
 K (.slice z15.1.a z15.1.len z15.1.cap)
theorem zae(p0:Option Addr)(p1:ht1)(h:z4g p0 p1 K w):CV z1E [.v (.pointer p0),.ag (qc1 p1)] K w:=C_of Tryz.f35 zaj _ h
theorem zab:Enters Pr z1E:=z0p (by kernel_rfl)
def z5i(p0:Option Addr)(p1:ht1)(K:Value→PT):PT:=
 L.new [.int .i64 p1.1,.string p1.2.1,.string p1.2.2.1,.int .i64 p1.2.2.2.1,.int .i64 p1.2.2.2.2.1,.string p1.2.2.2.2.2.1,.int .i64 p1.2.2.2.2.2.2.1,.int .i64 p1.2.2.2.2.2.2.2.1,.int .i64 p1.2.2.2.2.2.2.2.2.1,.int .i64 p1.2.2.2.2.2.2.2.2.2.1,.int .i64 p1.2.2.2.2.2.2.2.2.2.2.1,.string p1.2.2.2.2.2.2.2.2.2.2.2.1,.string p1.2.2.2.2.2.2.2.2.2.2.2.2.1,Sv6 p1.2.2.2.2.2.2.2.2.2.2.2.2.2.1,.int .i64 p1.2.2.2.2.2.2.2.2.2.2.2.2.2.2.1] z0w fun b1=>
 L.draw<|
 L.nonnil p0 fun a2=>
 L.load eP6 (a2.add 4) fun(x3:Option Addr)=>
 L.load eI6 (Ad6 b1 3) fun(x4:Int)=>
 L.call Pr z7c [.pointer x3,.int .i64 x4] (.tup [eL6,eI6]) fun(x5:Sl×Int×Unit)=>
 L.ite (x5.2.1 != 0) (
  L.call Pr z1b [.int .i64 x5.2.1] rL fun(x6:Sl)=>
  K (.slice x6.a x6.len x6.cap))<|
 L.call Pr z4Q [Sv6 x5.1,.slice none 0 0] rL fun(x7:Sl)=>
 K (.slice x7.a x7.len x7.cap)
theorem zbm(p0:Option Addr)(p1:ht1)(h:z5i p0 p1 K w):CV z27 [.v (.pointer p0),.ag (qc1 p1)] K w:=C_of Tryz.f36 .auto _ h
theorem zbh:Enters Pr z27:=z0p (by kernel_rfl)
def zds:Ann:=(.seq .auto (.seq .auto (.seq .auto (.seq .auto (.seq .auto .auto (some [(7,(.one (.slice)))])) none) none) none) none)
def z6e(p0:Option Addr)(p1:ht1)(K:Value→PT):PT:=
 L.new [.int .i64 p1.1,.string p1.2.1,.string p1.2.2.1,.int .i64 p1.2.2.2.1,.int .i64 p1.2.2.2.2.1,.string p1.2.2.2.2.2.1,.int .i64 p1.2.2.2.2.2.2.1,.int .i64 p1.2.2.2.2.2.2.2.1,.int .i64 p1.2.2.2.2.2.2.2.2.1,.int .i64 p1.2.2.2.2.2.2.2.2.2.1,.int .i64 p1.2.2.2.2.2.2.2.2.2.2.1,.string p1.2.2.2.2.2.2.2.2.2.2.2.1,.string p1.2.2.2.2.2.2.2.2.2.2.2.2.1,Sv6 p1.2.2.2.2.2.2.2.2.2.2.2.2.2.1,.int .i64 p1.2.2.2.2.2.2.2.2.2.2.2.2.2.2.1] z0w fun b1=>
 L.draw<|
 L.nonnil p0 fun a2=>
 L.load eP6 (a2.add 3) fun(x3:Option Addr)=>
 L.load eI6 (Ad6 b1 3) fun(x4:Int)=>
 L.call Pr z5x [.pointer x3,.int .i64 x4] rI fun(x5:Int)=>
 L.ite (x5 != 0) (
  L.call Pr z1b [.int .i64 x5] rL fun(x6:Sl)=>
  K (.slice x6.a x6.len x6.cap))<|
 L.draw<|
 L.nonnil p0 fun a7=>
 L.load eP6 (a7.add 3) fun(x8:Option Addr)=>
 L.load eI6 (Ad6 b1 3) fun(x9:Int)=>
 L.call Pr z7e [.pointer x8,.int .i64 x9] rS fun(x10:ByteArray)=>
 L.load eI6 (Ad6 b1 3) fun(x11:Int)=>
 L.new [.int .i64 x11] z0g fun b12=>
 L.call Pr z0k [.string s_up,.slice (some ⟨b12,0,none⟩) 1 1] rS fun(x13:ByteArray)=>
 L.new [.string x13] z01 fun b14=>
 L.join (Y:=Sl×Unit) (fun k15=>
  L.nonnil p0 fun a17=>
  L.load eP6 (a17.add 1) fun(x18:Option Addr)=>
  L.call Pr z1H [.pointer x18,.string x10] rB fun(x19:Bool)=>
  L.ite (!x19) (
   L.nonnil p0 fun a20=>
   L.load eP6 (a20.add 1) fun(x21:Option Addr)=>
   L.call Pr z61 [.pointer x21,.string x10] rI fun(x22:Int)=>
   L.new [.string x10] z01 fun b23=>
   L.call Pr z0e [.string zcw,.slice (some ⟨b23,0,none⟩) 1 1] rS fun(x24:ByteArray)=>
   L.new [.string x24] z01 fun b25=>
   L.sem Pr (.one (.one .slice)) (Builtin.append_ #[z08,z08] z08 #[.slice (some ⟨b14,0,none⟩) 1 1,.slice (some ⟨b25,0,none⟩) 1 1]) fun(s26:Sl)=>
   k15 (⟨s26.a,s26.len,s26.cap⟩,()))<|
  k15 (⟨some ⟨b14,0,none⟩,1,1⟩,())) fun z16=>
 L.nonnil p0 fun a27=>
 L.load eP6 (a27.add 4) fun(x28:Option Addr)=>
 L.call Pr z43 [.pointer x28,.string x10] rL fun(x29:Sl)=>
 L.call Pr z4Q [Sv6 x29,Sv6 z16.1] rL fun(x30:Sl)=>
 K (.slice x30.a x30.len x30.cap)
theorem zdb(p0:Option Addr)(p1:ht1)(h:z6e p0 p1 K w):CV z2A [.v (.pointer p0),.ag (qc1 p1)] K w:=C_of Tryz.f37 zds _ h
theorem zd8:Enters Pr z2A:=z0p (by kernel_rfl)
def zbv:Ann:=(.seq .auto (.seq .auto (.seq .auto (.seq .auto (.seq (.seq .auto (.one [(33,(.one (.int .i64)))] .auto) none) .auto none) none) none) none) none)
def z5g(p0:Option Addr)(p1:ht1)(K:Value→PT):PT:=
 L.new [.int .i64 p1.1,.string p1.2.1,.string p1.2.2.1,.int .i64 p1.2.2.2.1,.int .i64 p1.2.2.2.2.1,.string p1.2.2.2.2.2.1,.int .i64 p1.2.2.2.2.2.2.1,.int .i64 p1.2.2.2.2.2.2.2.1,.int .i64 p1.2.2.2.2.2.2.2.2.1,.int .i64 p1.2.2.2.2.2.2.2.2.2.1,.int .i64 p1.2.2.2.2.2.2.2.2.2.2.1,.string p1.2.2.2.2.2.2.2.2.2.2.2.1,.string p1.2.2.2.2.2.2.2.2.2.2.2.2.1,Sv6 p1.2.2.2.2.2.2.2.2.2.2.2.2.2.1,.int .i64 p1.2.2.2.2.2.2.2.2.2.2.2.2.2.2.1] z0w fun b1=>
 L.nonnil p0 fun a2=>
 L.load eI6 (a2.add 6) fun(x3:Int)=>
 L.ite (decide (x3≥1048576)) (
  L.call Pr z1b [.int .i64 9] rL fun(x4:Sl)=>
  K (.slice x4.a x4.len x4.cap))<|
 L.nonnil p0 fun a5=>
 L.load eI6 (a5.add 6) fun(x6:Int)=>
 L.nonnil p0 fun a7=>
 L.store (a7.add 6) [.int .i64 (IntKind.wrap .i64 (x6+1))]<|
 L.draw<|
 L.nonnil p0 fun a8=>
 L.load eP6 (a8.add 4) fun(x9:Option Addr)=>
 L.nonnil p0 fun a10=>
 L.load eI6 (a10.add 6) fun(x11:Int)=>
 L.call Pr z7a [.pointer x9,.int .i64 x11] rL fun(x12:Sl)=>
 L.call Pr z5m [.pointer p0] rL fun(x13:Sl)=>
 L.loop (Y:=Int×Unit) (0,()) fun y14 again15=>
 L.ite (decide (y14.1<((x13.len:Nat):Int))) (
  L.idx x13.a y14.1 x13.len 1 fun a16=>
  L.load eS6 a16 fun(x17:ByteArray)=>
  L.draw<|
  L.nonnil p0 fun a18=>
  L.load (.one (.map)) (a18.add 5) fun(x19:Option Nat)=>
  L.semR Pr rP (Instr.lookup z0L (.map x19) (.string x17) false) fun(x20:Option Addr)=>
  L.nonnil x20 fun a21=>
  L.load eP6 (a21.add 0) fun(x22:Option Addr)=>
  L.nonnil p0 fun a23=>
  L.load eP6 (a23.add 4) fun(x24:Option Addr)=>
  L.call Pr z5w [.pointer x24,.string x17] rI fun(x25:Int)=>
  L.chk (a21.add 0) [.pointer x22]<|
  L.chkSem Pr (Instr.lookup z0L (.map x19) (.string x17) false) (.pointer x20)<|
  L.chk (a18.add 5) [.map x19]<|
  L.call Pr z6w [.pointer x22,.int .i64 x25] (.tup []) fun(x26:Unit)=>
  again15 (IntKind.wrap .i64 (y14.1+1),()))<|
 L.nonnil p0 fun a27=>
 L.load eI6 (a27.add 6) fun(x28:Int)=>
 L.new [.int .i64 x28] z0g fun b29=>
 L.call Pr z0k [.string zn8,.slice (some ⟨b29,0,none⟩) 1 1] rS fun(x30:ByteArray)=>
 L.new [.string x30] z01 fun b31=>
 L.call Pr z4Q [Sv6 x12,.slice (some ⟨b31,0,none⟩) 1 1] rL fun(x32:Sl)=>
 K (.slice x32.a x32.len x32.cap)
theorem zbk(p0:Option Addr)(p1:ht1)(h:z5g p0 p1 K w):CV z1Z [.v (.pointer p0),.ag (qc1 p1)] K w:=C_of Tryz.f39 zbv _ h
theorem zbf:Enters Pr z1Z:=z0p (by kernel_rfl)
def zb4:Ann:=(.seq .auto (.seq (.one [(5,(.one (.adr))),(7,(.one (.int .i64))),(8,(.one (.bool)))] .auto) .auto none) none)
def z4F(p0:Option Addr)(p1:ht1)(K:Value→PT):PT:=
 L.new [.int .i64 p1.1,.string p1.2.1,.string p1.2.2.1,.int .i64 p1.2.2.2.1,.int .i64 p1.2.2.2.2.1,.string p1.2.2.2.2.2.1,.int .i64 p1.2.2.2.2.2.2.1,.int .i64 p1.2.2.2.2.2.2.2.1,.int .i64 p1.2.2.2.2.2.2.2.2.1,.int .i64 p1.2.2.2.2.2.2.2.2.2.1,.int .i64 p1.2.2.2.2.2.2.2.2.2.2.1,.string p1.2.2.2.2.2.2.2.2.2.2.2.1,.string p1.2.2.2.2.2.2.2.2.2.2.2.2.1,Sv6 p1.2.2.2.2.2.2.2.2.2.2.2.2.2.1,.int .i64 p1.2.2.2.2.2.2.2.2.2.2.2.2.2.2.1] z0w fun b1=>
 L.join (Y:=Addr×Int×Bool×Unit) (fun k2=>
  L.draw<|
  L.nonnil p0 fun a4=>
  L.load eP6 (a4.add 0) fun(x5:Option Addr)=>
  L.load eS6 (Ad6 b1 1) fun(x6:ByteArray)=>
  L.alts [(
    L.call Pr z3y [.pointer x5,.string x6] (.tup [(.agg lf0),eI6,eI6,eB6]) fun(x7:pt4)=>
    L.new [.string s_,.int .i64 0,.int .i64 0,.int .i64 0,.int .i64 0,.int .i64 0] z05 fun b8=>
    L.chk (Ad6 b1 1) [.string x6]<|
    L.chk (a4.add 0) [.pointer x5]<|
    L.store (⟨b8,0,none⟩) [.string x7.1.1,.int .i64 x7.1.2.1,.int .i64 x7.1.2.2.1,.int .i64 x7.1.2.2.2.1,.int .i64 x7.1.2.2.2.2.1,.int .i64 x7.1.2.2.2.2.2.1]<|
    k2 (⟨b8,0,none⟩,x7.2.2.1,x7.2.2.2.1,())),(
    L.new [.string s_,.int .i64 0,.int .i64 0,.int .i64 0,.int .i64 0,.int .i64 0] z05 fun b9=>
    L.chk (Ad6 b1 1) [.string x6]<|
    L.chk (a4.add 0) [.pointer x5]<|
    L.call Pr z3y [.pointer x5,.string x6] (.tup [(.agg lf0),eI6,eI6,eB6]) fun(x10:pt4)=>
    L.store (⟨b9,0,none⟩) [.string x10.1.1,.int .i64 x10.1.2.1,.int .i64 x10.1.2.2.1,.int .i64 x10.1.2.2.2.1,.int .i64 x10.1.2.2.2.2.1,.int .i64 x10.1.2.2.2.2.2.1]<|
    k2 (⟨b9,0,none⟩,x10.2.2.1,x10.2.2.2.1,()))]) fun z3=>
 L.ite (!z3.2.2.1) (
  L.call Pr z1b [.int .i64 6] rL fun(x11:Sl)=>
  K (.slice x11.a x11.len x11.cap))<|
 L.ite (decide (z3.2.1>999999)) (
  L.call Pr z1b [.int .i64 3] rL fun(x12:Sl)=>
  K (.slice x12.a x12.len x12.cap))<|
 L.draw<|
 L.nonnil p0 fun a13=>
 L.load eP6 (a13.add 1) fun(x14:Option Addr)=>
 L.load (.agg lf0) z3.1 fun(x15:pt0)=>
 L.call Pr z60 [.pointer x14,(qa0 x15),.int .i64 z3.2.1] (.tup [eS6,eB6]) fun(x16:ByteArray×Bool×Unit)=>
 L.ite (!x16.2.1) (
  L.new [.string x16.1] z01 fun b17=>
  L.call Pr z0e [.string zq8,.slice (some ⟨b17,0,none⟩) 1 1] rS fun(x18:ByteArray)=>
  L.new [.string x18] z01 fun b19=>
  K (.slice (some ⟨b19,0,none⟩) 1 1))<|
 L.load eI6 (z3.1.add 3) fun(x20:Int)=>
 L.draw<|
 L.nonnil p0 fun a21=>
 L.load (.one (.map)) (a21.add 5) fun(x22:Option Nat)=>
 L.call Pr zbU [] rP fun(x23:Option Addr)=>
 L.chk (a21.add 5) [.map x22]<|
 L.new [.pointer x23,.int .i64 (if 1>x20 then 1 else x20),.int .i64 0] z4E fun b24=>
 L.chk (a21.add 5) [.map x22]<|
 L.semU Pr (Instr.mapUpdate z0L (.map x22) (.string x16.1) (.pointer (some (⟨b24,0,none⟩))))<|
 L.new [.string x16.1] z01 fun b25=>
 L.call Pr z0e [.string z91,.slice (some ⟨b25,0,none⟩) 1 1] rS fun(x26:ByteArray)=>
 L.new [.string x16.1] z01 fun b27=>
 L.call Pr z0e [.string s_scale,.slice (some ⟨b27,0,none⟩) 1 1] rS fun(x28:ByteArray)=>
 L.new [.int .i64 (if 1>x20 then 1 else x20)] z0g fun b29=>
 L.call Pr z0k [.string x28,.slice (some ⟨b29,0,none⟩) 1 1] rS fun(x30:ByteArray)=>
 L.new [.string x26,.string x30] z01 fun b31=>
 K (.slice (some ⟨b31,0,none⟩) 2 2)
theorem zaT(p0:Option Addr)(p1:ht1)(h:z4F p0 p1 K w):CV z1L [.v (.pointer p0),.ag (qc1 p1)] K w:=C_of Tryz.f40 zb4 _ h
theorem zaO:Enters Pr z1L:=z0p (by kernel_rfl)
def zbx:Ann:=(.seq .auto (.seq (.one [(5,(.one (.adr))),(7,(.one (.bool)))] .auto) (.seq .auto (.seq (.one [(8,(.one (.adr))),(9,(.one (.int .i64)))] .auto) .auto none) none) none) none)
def z5h(p0:Option Addr)(p1:ht1)(K:Value→PT):PT:=
 L.new [.int .i64 p1.1,.string p1.2.1,.string p1.2.2.1,.int .i64 p1.2.2.2.1,.int .i64 p1.2.2.2.2.1,.string p1.2.2.2.2.2.1,.int .i64 p1.2.2.2.2.2.2.1,.int .i64 p1.2.2.2.2.2.2.2.1,.int .i64 p1.2.2.2.2.2.2.2.2.1,.int .i64 p1.2.2.2.2.2.2.2.2.2.1,.int .i64 p1.2.2.2.2.2.2.2.2.2.2.1,.string p1.2.2.2.2.2.2.2.2.2.2.2.1,.string p1.2.2.2.2.2.2.2.2.2.2.2.2.1,Sv6 p1.2.2.2.2.2.2.2.2.2.2.2.2.2.1,.int .i64 p1.2.2.2.2.2.2.2.2.2.2.2.2.2.2.1] z0w fun b1=>
 L.join (Y:=Addr×Bool×Unit) (fun k2=>
  L.draw<|
  L.nonnil p0 fun a4=>
  L.load eP6 (a4.add 0) fun(x5:Option Addr)=>
  L.load eS6 (Ad6 b1 1) fun(x6:ByteArray)=>
  L.alts [(
    L.call Pr z3N [.pointer x5,.string x6] (.tup [(.agg [.str,.str,.slice,.int .i64]),eI6,eB6]) fun(x7:pt5)=>
    L.new [.string s_,.string s_,.slice none 0 0,.int .i64 0] z0r fun b8=>
    L.chk (Ad6 b1 1) [.string x6]<|
    L.chk (a4.add 0) [.pointer x5]<|
    L.store (⟨b8,0,none⟩) [.string x7.1.1,.string x7.1.2.1,Sv6 x7.1.2.2.1,.int .i64 x7.1.2.2.2.1]<|
    k2 (⟨b8,0,none⟩,x7.2.2.1,())),(
    L.new [.string s_,.string s_,.slice none 0 0,.int .i64 0] z0r fun b9=>
    L.chk (Ad6 b1 1) [.string x6]<|
    L.chk (a4.add 0) [.pointer x5]<|
    L.call Pr z3N [.pointer x5,.string x6] (.tup [(.agg [.str,.str,.slice,.int .i64]),eI6,eB6]) fun(x10:pt5)=>
    L.store (⟨b9,0,none⟩) [.string x10.1.1,.string x10.1.2.1,Sv6 x10.1.2.2.1,.int .i64 x10.1.2.2.2.1]<|
    k2 (⟨b9,0,none⟩,x10.2.2.1,()))]) fun z3=>
 L.ite (!z3.2.1) (
  L.call Pr z1b [.int .i64 6] rL fun(x11:Sl)=>
  K (.slice x11.a x11.len x11.cap))<|
 L.join (Y:=Addr×Int×Unit) (fun k12=>
  L.draw<|
  L.load (.agg [.str,.str,.slice,.int .i64]) z3.1 fun(x14:pt3)=>
  L.nonnil p0 fun a15=>
  L.load eP6 (a15.add 1) fun(x16:Option Addr)=>
  L.alts [(
    L.call Pr z6E [.agg #[.string x14.1,.string x14.2.1,Sv6 x14.2.2.1,.int .i64 x14.2.2.2.1],.pointer x16] (.tup [(.agg [.slice,.slice]),eI6]) fun(x17:(Sl×Sl×Unit)×Int×Unit)=>
    L.new [.slice none 0 0,.slice none 0 0] z04 fun b18=>
    L.chk (a15.add 1) [.pointer x16]<|
    L.chk z3.1 [.string x14.1,.string x14.2.1,Sv6 x14.2.2.1,.int .i64 x14.2.2.2.1]<|
    L.store (⟨b18,0,none⟩) [Sv6 x17.1.1,Sv6 x17.1.2.1]<|
    k12 (⟨b18,0,none⟩,x17.2.1,())),(
    L.new [.slice none 0 0,.slice none 0 0] z04 fun b19=>
    L.chk (a15.add 1) [.pointer x16]<|
    L.chk z3.1 [.string x14.1,.string x14.2.1,Sv6 x14.2.2.1,.int .i64 x14.2.2.2.1]<|
    L.call Pr z6E [.agg #[.string x14.1,.string x14.2.1,Sv6 x14.2.2.1,.int .i64 x14.2.2.2.1],.pointer x16] (.tup [(.agg [.slice,.slice]),eI6]) fun(x20:(Sl×Sl×Unit)×Int×Unit)=>
    L.store (⟨b19,0,none⟩) [Sv6 x20.1.1,Sv6 x20.1.2.1]<|
    k12 (⟨b19,0,none⟩,x20.2.1,()))]) fun z13=>
 L.ite (z13.2.1 != 0) (
  L.call Pr z1b [.int .i64 z13.2.1] rL fun(x21:Sl)=>
  K (.slice x21.a x21.len x21.cap))<|
 L.draw<|
 L.load eS6 (Ad6 b1 1) fun(x22:ByteArray)=>
 L.nonnil p0 fun a23=>
 L.load eP6 (a23.add 2) fun(x24:Option Addr)=>
 L.load eS6 (Ad6 b1 1) fun(x25:ByteArray)=>
 L.load (.agg [.slice,.slice]) z13.1 fun(x26:Sl×Sl×Unit)=>
 L.nonnil p0 fun a27=>
 L.load eI6 (a27.add 6) fun(x28:Int)=>
 L.load eI6 (z3.1.add 3) fun(x29:Int)=>
 L.call Pr z66 [.pointer x24,.string x25,.agg #[Sv6 x26.1,Sv6 x26.2.1],.int .i64 x28,.int .i64 x29] (.one (.agg [.slice,.slice])) fun(x30:Sl×Sl×Unit)=>
 L.chk (Ad6 b1 1) [.string x22]<|
 L.call Pr zar [.agg #[Sv6 x30.1,Sv6 x30.2.1]] rS fun(x31:ByteArray)=>
 L.chk (Ad6 b1 1) [.string x22]<|
 L.new [.string x22,.string x31] z01 fun b32=>
 L.call Pr z0e [.string zn9,.slice (some ⟨b32,0,none⟩) 2 2] rS fun(x33:ByteArray)=>
 L.new [.string x33] z01 fun b34=>
 K (.slice (some ⟨b34,0,none⟩) 1 1)
theorem zbl(p0:Option Addr)(p1:ht1)(h:z5h p0 p1 K w):CV z23 [.v (.pointer p0),.ag (qc1 p1)] K w:=C_of Tryz.f41 zbx _ h
theorem zbg:Enters Pr z23:=z0p (by kernel_rfl)
def zb5:Ann:=(.seq .auto (.seq (.one [(5,(.one (.adr))),(6,(.one (.bool)))] .auto) (.seq .auto (.seq .auto (.seq .auto (.seq .auto (.seq .auto (.seq .auto (.seq (.one [(4,(.one (.slice)))] .auto) .auto none) none) none) none) none) none) none) none) none)
def z4G(p0:Option Addr)(p1:ht1)(K:Value→PT):PT:=
 L.new [.int .i64 p1.1,.string p1.2.1,.string p1.2.2.1,.int .i64 p1.2.2.2.1,.int .i64 p1.2.2.2.2.1,.string p1.2.2.2.2.2.1,.int .i64 p1.2.2.2.2.2.2.1,.int .i64 p1.2.2.2.2.2.2.2.1,.int .i64 p1.2.2.2.2.2.2.2.2.1,.int .i64 p1.2.2.2.2.2.2.2.2.2.1,.int .i64 p1.2.2.2.2.2.2.2.2.2.2.1,.string p1.2.2.2.2.2.2.2.2.2.2.2.1,.string p1.2.2.2.2.2.2.2.2.2.2.2.2.1,Sv6 p1.2.2.2.2.2.2.2.2.2.2.2.2.2.1,.int .i64 p1.2.2.2.2.2.2.2.2.2.2.2.2.2.2.1] z0w fun b1=>
 L.join (Y:=Addr×Bool×Unit) (fun k2=>
  L.draw<|
  L.nonnil p0 fun a4=>
  L.load eP6 (a4.add 1) fun(x5:Option Addr)=>
  L.load eS6 (Ad6 b1 1) fun(x6:ByteArray)=>
  L.alts [(
    L.call Pr z2G [.pointer x5,.string x6] (.tup [(.agg lf4),eB6]) fun(x7:pt6)=>
    L.new [.string s_,.int .i64 0,.string s_,.int .i64 0,.int .i64 0,.int .i64 0,.int .i64 0,.int .i64 0] z0j fun b8=>
    L.chk (Ad6 b1 1) [.string x6]<|
    L.chk (a4.add 1) [.pointer x5]<|
    L.store (⟨b8,0,none⟩) [.string x7.1.1,.int .i64 x7.1.2.1,.string x7.1.2.2.1,.int .i64 x7.1.2.2.2.1,.int .i64 x7.1.2.2.2.2.1,.int .i64 x7.1.2.2.2.2.2.1,.int .i64 x7.1.2.2.2.2.2.2.1,.int .i64 x7.1.2.2.2.2.2.2.2.1]<|
    k2 (⟨b8,0,none⟩,x7.2.1,())),(
    L.new [.string s_,.int .i64 0,.string s_,.int .i64 0,.int .i64 0,.int .i64 0,.int .i64 0,.int .i64 0] z0j fun b9=>
    L.chk (Ad6 b1 1) [.string x6]<|
    L.chk (a4.add 1) [.pointer x5]<|
    L.call Pr z2G [.pointer x5,.string x6] (.tup [(.agg lf4),eB6]) fun(x10:pt6)=>
    L.store (⟨b9,0,none⟩) [.string x10.1.1,.int .i64 x10.1.2.1,.string x10.1.2.2.1,.int .i64 x10.1.2.2.2.1,.int .i64 x10.1.2.2.2.2.1,.int .i64 x10.1.2.2.2.2.2.1,.int .i64 x10.1.2.2.2.2.2.2.1,.int .i64 x10.1.2.2.2.2.2.2.2.1]<|
    k2 (⟨b9,0,none⟩,x10.2.1,()))]) fun z3=>
 L.ite (!z3.2.1) (
  L.call Pr z1b [.int .i64 6] rL fun(x11:Sl)=>
  K (.slice x11.a x11.len x11.cap))<|
 L.draw<|
 L.nonnil p0 fun a12=>
 L.load (.one (.map)) (a12.add 5) fun(x13:Option Nat)=>
 L.load eS6 (Ad6 b1 1) fun(x14:ByteArray)=>
 L.semR Pr rP (Instr.lookup z0L (.map x13) (.string x14) false) fun(x15:Option Addr)=>
 L.load eS6 (Ad6 b1 1) fun(x16:ByteArray)=>
 L.call Pr z3l [.pointer p0,.string x16,.func (.func z2P) #[] #[]] rI fun(x17:Int)=>
 L.nonnil x15 fun a18=>
 L.load eP6 (a18.add 0) fun(x19:Option Addr)=>
 L.call Pr z4j [.pointer x19,.int .i64 6] (.tup [eI6,eI6]) fun(x20:Int×Int×Unit)=>
 L.nonnil x15 fun a21=>
 L.load eP6 (a21.add 0) fun(x22:Option Addr)=>
 L.call Pr z4j [.pointer x22,.int .i64 2] (.tup [eI6,eI6]) fun(x23:Int×Int×Unit)=>
 L.draw<|
 L.nonnil x15 fun a24=>
 L.load (.agg [.int .i64,.int .i64]) (a24.add 1) fun(x25:Int×Int×Unit)=>
 L.load (.agg lf0) (z3.1.add 2) fun(x26:pt0)=>
 L.nonnil p0 fun a27=>
 L.load eP6 (a27.add 4) fun(x28:Option Addr)=>
 L.load eS6 (Ad6 b1 1) fun(x29:ByteArray)=>
 L.nonnil x15 fun a30=>
 L.load eP6 (a30.add 0) fun(x31:Option Addr)=>
 L.call Pr z5w [.pointer x28,.string x29] rI fun(x32:Int)=>
 L.chk (a30.add 0) [.pointer x31]<|
 L.chk (z3.1.add 2) [.string x26.1,.int .i64 x26.2.1,.int .i64 x26.2.2.1,.int .i64 x26.2.2.2.1,.int .i64 x26.2.2.2.2.1,.int .i64 x26.2.2.2.2.2.1]<|
 L.chk (a24.add 1) [.int .i64 x25.1,.int .i64 x25.2.1]<|
 L.call Pr z67 [.pointer x31] rI fun(x33:Int)=>
 L.chk (z3.1.add 2) [.string x26.1,.int .i64 x26.2.1,.int .i64 x26.2.2.1,.int .i64 x26.2.2.2.1,.int .i64 x26.2.2.2.2.1,.int .i64 x26.2.2.2.2.2.1]<|
 L.chk (a24.add 1) [.int .i64 x25.1,.int .i64 x25.2.1]<|
 L.call Pr z8V [.agg #[.int .i64 x25.1,.int .i64 x25.2.1],(qa0 x26),.int .i64 x17,.int .i64 x32,.int .i64 x20.1,.int .i64 x20.2.1,.int .i64 x23.1,.int .i64 x23.2.1,.int .i64 x33] (.one (.agg [.int .i64,.int .i64])) fun(x34:Int×Int×Unit)=>
 L.nonnil x15 fun a35=>
 L.store (a35.add 1) [.int .i64 x34.1,.int .i64 x34.2.1]<|
 L.join (Y:=Sl×Unit) (fun k36=>
  L.draw<|
  L.load eS6 (Ad6 b1 1) fun(x38:ByteArray)=>
  L.nonnil x15 fun a39=>
  L.load eI6 ((a39.add 1).add 0) fun(x40:Int)=>
  L.alts [(
    L.new [.string x38] z01 fun b41=>
    L.chk ((a39.add 1).add 0) [.int .i64 x40]<|
    L.alts [(
      L.call Pr z0e [.string s_scale,.slice (some ⟨b41,0,none⟩) 1 1] rS fun(x42:ByteArray)=>
      L.chk ((a39.add 1).add 0) [.int .i64 x40]<|
      L.new [.int .i64 x40] z0g fun b43=>
      L.chk (Ad6 b1 1) [.string x38]<|
      L.call Pr z0k [.string x42,.slice (some ⟨b43,0,none⟩) 1 1] rS fun(x44:ByteArray)=>
      L.new [.string x44] z01 fun b45=>
      k36 (⟨some ⟨b45,0,none⟩,1,1⟩,())),(
      L.new [.int .i64 x40] z0g fun b46=>
      L.chk (Ad6 b1 1) [.string x38]<|
      L.call Pr z0e [.string s_scale,.slice (some ⟨b41,0,none⟩) 1 1] rS fun(x47:ByteArray)=>
      L.chk ((a39.add 1).add 0) [.int .i64 x40]<|
      L.call Pr z0k [.string x47,.slice (some ⟨b46,0,none⟩) 1 1] rS fun(x48:ByteArray)=>
      L.new [.string x48] z01 fun b49=>
      k36 (⟨some ⟨b49,0,none⟩,1,1⟩,()))]),(
    L.new [.int .i64 x40] z0g fun b50=>
    L.chk (Ad6 b1 1) [.string x38]<|
    L.new [.string x38] z01 fun b51=>
    L.chk ((a39.add 1).add 0) [.int .i64 x40]<|
    L.call Pr z0e [.string s_scale,.slice (some ⟨b51,0,none⟩) 1 1] rS fun(x52:ByteArray)=>
    L.chk ((a39.add 1).add 0) [.int .i64 x40]<|
    L.call Pr z0k [.string x52,.slice (some ⟨b50,0,none⟩) 1 1] rS fun(x53:ByteArray)=>
    L.new [.string x53] z01 fun b54=>
    k36 (⟨some ⟨b54,0,none⟩,1,1⟩,()))]) fun z37=>
 K (.slice z37.1.a z37.1.len z37.1.cap)
theorem zaU(p0:Option Addr)(p1:ht1)(h:z4G p0 p1 K w):CV z1M [.v (.pointer p0),.ag (qc1 p1)] K w:=C_of Tryz.f42 zb5 _ h
theorem zaP:Enters Pr z1M:=z0p (by kernel_rfl)
def zbw:Ann:=(.seq .auto (.seq (.one [(5,(.one (.adr))),(6,(.one (.bool)))] .auto) (.seq .auto (.seq .auto (.seq .auto (.seq (.seq .auto (.one [(9,(.one (.slice))),(47,(.one (.int .i64)))] .auto) none) (.seq (.seq .auto (.one [(9,(.one (.slice))),(60,(.one (.int .i64)))] .auto) none) .auto none) none) none) none) none) none) none)
def z2M(p0:Option Addr)(p1:ht1)(K:Value→PT):PT:=
 L.new [.int .i64 p1.1,.string p1.2.1,.string p1.2.2.1,.int .i64 p1.2.2.2.1,.int .i64 p1.2.2.2.2.1,.string p1.2.2.2.2.2.1,.int .i64 p1.2.2.2.2.2.2.1,.int .i64 p1.2.2.2.2.2.2.2.1,.int .i64 p1.2.2.2.2.2.2.2.2.1,.int .i64 p1.2.2.2.2.2.2.2.2.2.1,.int .i64 p1.2.2.2.2.2.2.2.2.2.2.1,.string p1.2.2.2.2.2.2.2.2.2.2.2.1,.string p1.2.2.2.2.2.2.2.2.2.2.2.2.1,Sv6 p1.2.2.2.2.2.2.2.2.2.2.2.2.2.1,.int .i64 p1.2.2.2.2.2.2.2.2.2.2.2.2.2.2.1] z0w fun b1=>
 L.join (Y:=Addr×Bool×Unit) (fun k2=>
  L.draw<|
  L.nonnil p0 fun a4=>
  L.load eP6 (a4.add 1) fun(x5:Option Addr)=>
  L.load eS6 (Ad6 b1 1) fun(x6:ByteArray)=>
  L.alts [(
    L.call Pr z2G [.pointer x5,.string x6] (.tup [(.agg lf4),eB6]) fun(x7:pt6)=>
    L.new [.string s_,.int .i64 0,.string s_,.int .i64 0,.int .i64 0,.int .i64 0,.int .i64 0,.int .i64 0] z0j fun b8=>
    L.chk (Ad6 b1 1) [.string x6]<|
    L.chk (a4.add 1) [.pointer x5]<|
    L.store (⟨b8,0,none⟩) [.string x7.1.1,.int .i64 x7.1.2.1,.string x7.1.2.2.1,.int .i64 x7.1.2.2.2.1,.int .i64 x7.1.2.2.2.2.1,.int .i64 x7.1.2.2.2.2.2.1,.int .i64 x7.1.2.2.2.2.2.2.1,.int .i64 x7.1.2.2.2.2.2.2.2.1]<|
    k2 (⟨b8,0,none⟩,x7.2.1,())),(
    L.new [.string s_,.int .i64 0,.string s_,.int .i64 0,.int .i64 0,.int .i64 0,.int .i64 0,.int .i64 0] z0j fun b9=>
    L.chk (Ad6 b1 1) [.string x6]<|
    L.chk (a4.add 1) [.pointer x5]<|
    L.call Pr z2G [.pointer x5,.string x6] (.tup [(.agg lf4),eB6]) fun(x10:pt6)=>
    L.store (⟨b9,0,none⟩) [.string x10.1.1,.int .i64 x10.1.2.1,.string x10.1.2.2.1,.int .i64 x10.1.2.2.2.1,.int .i64 x10.1.2.2.2.2.1,.int .i64 x10.1.2.2.2.2.2.1,.int .i64 x10.1.2.2.2.2.2.2.1,.int .i64 x10.1.2.2.2.2.2.2.2.1]<|
    k2 (⟨b9,0,none⟩,x10.2.1,()))]) fun z3=>
 L.ite (!z3.2.1) (
  L.call Pr z1b [.int .i64 6] rL fun(x11:Sl)=>
  K (.slice x11.a x11.len x11.cap))<|
 L.draw<|
 L.nonnil p0 fun a12=>
 L.load eP6 (a12.add 3) fun(x13:Option Addr)=>
 L.load eS6 (Ad6 b1 1) fun(x14:ByteArray)=>
 L.load eI6 ((z3.1.add 2).add 2) fun(x15:Int)=>
 L.load eS6 (Ad6 b1 1) fun(x16:ByteArray)=>
 L.call Pr z2J [.pointer p0,.string x16] rI fun(x17:Int)=>
 L.chk ((z3.1.add 2).add 2) [.int .i64 x15]<|
 L.chk (Ad6 b1 1) [.string x14]<|
 L.chk (a12.add 3) [.pointer x13]<|
 L.call Pr z5D [.pointer x13,.string x14,.int .i64 x15,.int .i64 x17] (.tup [eL6,eL6]) fun(x18:Sl×Sl×Unit)=>
 L.loop (Y:=Sl×Int×Unit) (⟨none,0,0⟩,0,()) fun y19 again20=>
 L.ite (decide (y19.2.1<((x18.1.len:Nat):Int))) (
  L.idx x18.1.a y19.2.1 x18.1.len 1 fun a21=>
  L.load eI6 a21 fun(x22:Int)=>
  L.new [.int .i64 x22] z0g fun b23=>
  L.call Pr z0k [.string znc,.slice (some ⟨b23,0,none⟩) 1 1] rS fun(x24:ByteArray)=>
  L.new [.string x24] z01 fun b25=>
  L.sem Pr (.one (.one .slice)) (Builtin.append_ #[z08,z08] z08 #[Sv6 y19.1,.slice (some ⟨b25,0,none⟩) 1 1]) fun(s26:Sl)=>
  again20 (⟨s26.a,s26.len,s26.cap⟩,IntKind.wrap .i64 (y19.2.1+1),()))<|
 L.loop (Y:=Sl×Int×Unit) (⟨y19.1.a,y19.1.len,y19.1.cap⟩,0,()) fun y27 again28=>
 L.ite (decide (y27.2.1<((x18.2.1.len:Nat):Int))) (
  L.idx x18.2.1.a y27.2.1 x18.2.1.len 1 fun a29=>
  L.load eI6 a29 fun(x30:Int)=>
  L.new [.int .i64 x30] z0g fun b31=>
  L.call Pr z0k [.string zqe,.slice (some ⟨b31,0,none⟩) 1 1] rS fun(x32:ByteArray)=>
  L.new [.string x32] z01 fun b33=>
  L.sem Pr (.one (.one .slice)) (Builtin.append_ #[z08,z08] z08 #[Sv6 y27.1,.slice (some ⟨b33,0,none⟩) 1 1]) fun(s34:Sl)=>
  again28 (⟨s34.a,s34.len,s34.cap⟩,IntKind.wrap .i64 (y27.2.1+1),()))<|
 L.load eS6 (Ad6 b1 1) fun(x35:ByteArray)=>
 L.call Pr z3l [.pointer p0,.string x35,.func (.func z38) #[] #[]] rI fun(x36:Int)=>
 L.load eS6 (Ad6 b1 1) fun(x37:ByteArray)=>
 L.new [.string x37] z01 fun b38=>
 L.call Pr z0e [.string s_fleet,.slice (some ⟨b38,0,none⟩) 1 1] rS fun(x39:ByteArray)=>
 L.new [.int .i64 x36] z0g fun b40=>
 L.call Pr z0k [.string x39,.slice (some ⟨b40,0,none⟩) 1 1] rS fun(x41:ByteArray)=>
 L.new [.string x41] z01 fun b42=>
 L.sem Pr (.one (.one .slice)) (Builtin.append_ #[z08,z08] z08 #[Sv6 y27.1,.slice (some ⟨b42,0,none⟩) 1 1]) fun(s43:Sl)=>
 K (.slice s43.a s43.len s43.cap)
theorem z7q(p0:Option Addr)(p1:ht1)(h:z2M p0 p1 K w):CV z1z [.v (.pointer p0),.ag (qc1 p1)] K w:=C_of Tryz.f43 zbw _ h
theorem z7p:Enters Pr z1z:=z0p (by kernel_rfl)
def zdv:Ann:=(.seq .auto (.seq (.seq .auto (.one [(5,(.one (.slice)))] (.seq .auto (.seq (.cond .auto .auto) .auto none) none)) none) (.seq .auto (.seq .auto .auto (some [(4,(.one (.slice)))])) none) none) none)
def z8M(p0:Option Addr)(p1:ByteArray)(K:Value→PT):PT:=
 L.nonnil p0 fun a1=>
 L.load (.one (.map)) (a1.add 1) fun(x2:Option Nat)=>
 L.sem Pr (.one (.one .ptr)) (Instr.range z2i (.map x2)) fun(it3:Option Addr)=>
 L.loop (Y:=Sl×Unit) (⟨none,0,0⟩,()) fun y4 again5=>
 L.next Pr [eI6,(.agg [.str,.int .i64])] (Instr.next (.pointer it3) false T_) (
  L.call Pr z4z [Sv6 y4.1] (.tup []) fun(x7:Unit)=>
  L.join (Y:=Sl×Unit) (fun k8=>
   L.nonnil p0 fun a10=>
   L.load (.one (.map)) ((a10.add 2).add 0) fun(x11:Option Nat)=>
   L.semR Pr (.tup [eP6,.one .bool]) (Instr.lookup z0J (.map x11) (.string p1) true) fun(x12:Option Addr×Bool×Unit)=>
   L.ite x12.2.1 (
    L.call Pr z5Z [.pointer x12.1] rL fun(x13:Sl)=>
    k8 (⟨x13.a,x13.len,x13.cap⟩,()))<|
   k8 (⟨none,0,0⟩,())) fun z9=>
  L.call Pr z19 [Sv6 y4.1] rL fun(x14:Sl)=>
  K (.tuple #[Sv6 z9.1,Sv6 x14])) fun(x6:pt7)=>
 L.sem Pr (.tup [eI6,(.agg [.str,.int .i64])]) (Instr.entry (.pointer it3)) fun(x15:pt7)=>
 L.new [.string s_,.int .i64 0] z0U fun b16=>
 L.store (⟨b16,0,none⟩) [.string x15.2.1.1,.int .i64 x15.2.1.2.1]<|
 L.load (.agg [.str,.int .i64]) (⟨b16,0,none⟩) fun(x17:ByteArray×Int×Unit)=>
 L.chkSem Pr (do eqGuard .eql z0U (.tmp 0) (.tmp 0) (.agg #[.string x17.1,.int .i64 x17.2.1]) (.agg #[.string p1,.int .i64 1]);binOp .eql z0U (.agg #[.string x17.1,.int .i64 x17.2.1]) (.agg #[.string p1,.int .i64 1])) (.bool ((x17.1 == p1)&&((x17.2.1 == 1)&&true)))<|
 L.ite ((x17.1 == p1)&&((x17.2.1 == 1)&&true)) (
  L.new [.int .i64 x15.1] z0g fun b18=>
  L.sem Pr (.one (.one .slice)) (Builtin.append_ #[z0Y,z0Y] z0Y #[Sv6 y4.1,.slice (some ⟨b18,0,none⟩) 1 1]) fun(s19:Sl)=>
  again5 (⟨s19.a,s19.len,s19.cap⟩,()))<|
 again5 (⟨y4.1.a,y4.1.len,y4.1.cap⟩,())
theorem zdk(p0:Option Addr)(p1:ByteArray)(h:z8M p0 p1 K w):CV z4k [.v (.pointer p0),.v (.string p1)] K w:=C_of Tryz.f44 zdv _ h
def zdz:Ann:=(.seq .auto (.seq .auto (.seq (.seq .auto (.seq .auto .auto (some [(11,(.one (.int .i64))),(12,(.one (.ptr)))])) none) .auto none) none) none)
def z8Q(p0:Option Addr)(p1:ByteArray)(K:Value→PT):PT:=
 L.new [.slice none 0 0] z1w fun b1=>
 L.call Pr z3j [.pointer p0,.string p1] (.one (.one (.func))) fun(x2:FV)=>
 L.range Pr none (.func x2.fn x2.fs x2.cs) [eI6,eP6] (fun l3(y4:Int×Option Addr×Unit) R5=>
  L.begin Pr l3<|
  L.draw<|
  L.load eL6 (⟨b1,0,none⟩) fun(x8:Sl)=>
  L.call Pr z1r [.pointer y4.2.1] rI fun(x9:Int)=>
  L.chk (⟨b1,0,none⟩) [Sv6 x8]<|
  L.call Pr z2q [.pointer y4.2.1] rI fun(x10:Int)=>
  L.chk (⟨b1,0,none⟩) [Sv6 x8]<|
  L.new [.int .i64 y4.1,.int .i64 x9,.int .i64 x10] z3G fun b11=>
  L.chk (⟨b1,0,none⟩) [Sv6 x8]<|
  L.sem Pr (.one (.one .slice)) (Builtin.append_ #[z1w,z1w] z1w #[Sv6 x8,.slice (some ⟨b11,0,none⟩) 1 1]) fun(s12:Sl)=>
  L.store (⟨b1,0,none⟩) [Sv6 s12]<|
  L.endRound Pr l3 none R5) fun d6 j7=>
 L.jump j7 (
  L.load eL6 (⟨b1,0,none⟩) fun(x13:Sl)=>
  L.call Pr z1F [Sv6 x13] rL fun(x14:Sl)=>
  L.unmark Pr (d6++[])<|
  K (.slice x14.a x14.len x14.cap)) (
  L.unmark Pr (d6++[])<|
  K (.slice none 0 0)) []
theorem zdo(p0:Option Addr)(p1:ByteArray)(h:z8Q p0 p1 K w):CV z6a [.v (.pointer p0),.v (.string p1)] K w:=C_of Tryz.f45 zdz _ h
def z8S(p0 p1 p2:Int)(K:Value→PT):PT:=
 L.ite (p1 == 0) (
  K (.int .i64 0))<|
 L.guard ((IntKind.wrap .i64 (p1*p2))≠(0:Int))<|
 K (.int .i64 (IntKind.wrap .i64 (Int.tdiv (IntKind.wrap .i64 ((IntKind.wrap .i64 (p0+(IntKind.wrap .i64 (p1*p2))))-1)) (IntKind.wrap .i64 (p1*p2)))))
theorem zdq(p0 p1 p2:Int)(h:z8S p0 p1 p2 K w):CV z4l [.v (.int .i64 p0),.v (.int .i64 p1),.v (.int .i64 p2)] K w:=C_of Tryz.f46 .auto _ h
def z2g(p0:Option Nat)(p1:ByteArray)(K:Value→PT):PT:=
 L.semR Pr (.tup [eP6,.one .bool]) (Instr.lookup z0L (.map p0) (.string p1) true) fun(x1:Option Addr×Bool×Unit)=>
 K (.tuple #[.pointer x1.1,.bool x1.2.1])
theorem z3w(p0:Option Nat)(p1:ByteArray)(h:z2g p0 p1 K w):CV z2e [.v (.map p0),.v (.string p1)] K w:=C_of Tryz.f47 .auto _ h
def z7V(p0 p1 p2:Int)(K:Value→PT):PT:=
 L.ite (decide (p0≥p1)) (
  K (.bool (decide (p0≤p2))))<|
 K (.bool false)
theorem zc6(p0 p1 p2:Int)(h:z7V p0 p1 p2 K w):CV z2T [.v (.int .i64 p0),.v (.int .i64 p1),.v (.int .i64 p2)] K w:=C_of Tryz.f49 .auto _ h
def zg5(p0:Int)(K:Value→PT):PT:=
 L.sem Pr (.one (.one .map)) (Instr.makeMap z0u none) fun(m1:Option Nat)=>
 L.sem Pr (.one (.one .map)) (Instr.makeMap z4Y none) fun(m2:Option Nat)=>
 L.new [.map m1,.map m2,.int .i64 p0,.int .i64 0] zcP fun b3=>
 K (.pointer (some (⟨b3,0,none⟩)))
theorem zko(p0:Int)(h:zg5 p0 K w):CV zbV [.v (.int .i64 p0)] K w:=C_of Tryz.f50 .auto _ h
def zg1  (K:Value→PT):PT:=
 L.call Pr z3M [.func (.func z1o) #[] #[]] rP fun(x1:Option Addr)=>
 L.call Pr z4d [.func (.func z0I) #[] #[]] rP fun(x2:Option Addr)=>
 L.new [.pointer x1,.pointer x2,.int .i64 0] zcO fun b3=>
 K (.pointer (some (⟨b3,0,none⟩)))
theorem zkk(h:zg1  K w):CV zbT [] K w:=C_of Tryz.f51 .auto _ h
def zfY  (K:Value→PT):PT:=
 L.sem Pr (.one (.one .map)) (Instr.makeMap z0m none) fun(m1:Option Nat)=>
 L.sem Pr (.one (.one .map)) (Instr.makeMap z4o none) fun(m2:Option Nat)=>
 L.new [.map m1,.map m2] zeb fun b3=>
 K (.pointer (some (⟨b3,0,none⟩)))
theorem zkh(h:zfY  K w):CV zbS [] K w:=C_of Tryz.f52 .auto _ h
def zh9  (K:Value→PT):PT:=
 L.sem Pr (.one (.one .map)) (Instr.makeMap z1O none) fun(m1:Option Nat)=>
 L.new [.map m1] z9F fun b2=>
 K (.pointer (some (⟨b2,0,none⟩)))
theorem zmA(h:zh9  K w):CV zdK [] K w:=C_of Tryz.f53 .auto _ h
def zhb(p0:Option Addr)(p1 p2:Int)(K:Value→PT):PT:=
 L.new [.int .i64 p1] z0g fun b1=>
 L.sem Pr (.one (.one .map)) (Instr.makeMap z2i none) fun(m2:Option Nat)=>
 L.sem Pr (.one (.one .map)) (Instr.makeMap z0J none) fun(m3:Option Nat)=>
 L.load eI6 (⟨b1,0,none⟩) fun(x4:Int)=>
 L.new [.pointer p0,.map m2,.map m3,.func (.func z8A) #[] #[.pointer (some (⟨b1,0,none⟩))],.int .i64 x4,.int .i64 p2] zfT fun b5=>
 K (.pointer (some (⟨b5,0,none⟩)))
theorem zmC(p0:Option Addr)(p1 p2:Int)(h:zhb p0 p1 p2 K w):CV zdL [.v (.pointer p0),.v (.int .i64 p1),.v (.int .i64 p2)] K w:=C_of Tryz.f54 .auto _ h
def z4p(p0:Sl)(K:Value→PT):PT:=
 L.ite ((p0.a).isNone) (
  K (.slice none 0 0))<|
 L.new [] z01 fun b1=>
 L.sem Pr (.one (.one .slice)) (Builtin.append_ #[z08,z08] z08 #[.slice (some ⟨b1,0,none⟩) 0 0,Sv6 p0]) fun(s2:Sl)=>
 K (.slice s2.a s2.len s2.cap)
theorem z7y(p0:Sl)(h:z4p p0 K w):CV z1R [.v (.slice p0.a p0.len p0.cap)] K w:=C_of Tryz.f56 .auto _ h
def zic:Ann:=(.seq .auto (.seq (.seq .auto (.seq .auto (.cond .auto (.seq .auto (.cond .auto (.seq .auto (.cond .auto (.seq .auto (.cond .auto (.seq .auto (.cond .auto (.seq .auto (.cond .auto (.seq .auto .auto (some [(26,(.one (.bool)))]))) none)) (some [(17,(.one (.bool)))]))) none)) none)) none)) none) none) .auto none) none)
def zd5(p0:Int)(K:Value→PT):PT:=
 L.new [.bool false,.bool false,.bool false,.bool false,.bool false,.bool false] zfU fun b1=>
 L.ite (p0 == 1) (
  L.store (⟨b1,0,none⟩) [.bool true,.bool false,.bool false,.bool false,.bool true,.bool false]<|
  L.load (.agg lf3) (⟨b1,0,none⟩) fun(x2:pt8)=>
  K (.tuple #[(qa2 x2),.bool true]))<|
 L.ite (p0 == 2) (
  L.store (⟨b1,0,none⟩) [.bool true,.bool false,.bool false,.bool false,.bool false,.bool true]<|
  L.load (.agg lf3) (⟨b1,0,none⟩) fun(x3:pt8)=>
  K (.tuple #[(qa2 x3),.bool true]))<|
 L.ite (p0 == 3) (
  L.store (⟨b1,0,none⟩) [.bool true,.bool true,.bool false,.bool true,.bool false,.bool false]<|
  L.load (.agg lf3) (⟨b1,0,none⟩) fun(x4:pt8)=>
  K (.tuple #[(qa2 x4),.bool true]))<|
 L.ite (p0 == 4) (
  L.store (⟨b1,0,none⟩) [.bool true,.bool true,.bool true,.bool true,.bool false,.bool false]<|
  L.load (.agg lf3) (⟨b1,0,none⟩) fun(x5:pt8)=>
  K (.tuple #[(qa2 x5),.bool true]))<|
 L.join (Y:=Bool×Unit) (fun k6=>
  L.ite (p0 == 5) (
   k6 (p0 == 5,()))<|
  L.ite (p0 == 6) (
   k6 (p0 == 6,()))<|
  L.ite (p0 == 7) (
   k6 (p0 == 7,()))<|
  k6 (p0 == 8,())) fun z7=>
 L.ite z7.1 (
  L.store (⟨b1,0,none⟩) [.bool true,.bool false,.bool false,.bool false,.bool false,.bool false]<|
  L.load (.agg lf3) (⟨b1,0,none⟩) fun(x8:pt8)=>
  K (.tuple #[(qa2 x8),.bool true]))<|
 L.ite (p0 == 9) (
  L.store (⟨b1,0,none⟩) [.bool false,.bool false,.bool false,.bool false,.bool false,.bool false]<|
  L.load (.agg lf3) (⟨b1,0,none⟩) fun(x9:pt8)=>
  K (.tuple #[(qa2 x9),.bool true]))<|
 L.join (Y:=Bool×Unit) (fun k10=>
  L.ite (p0 == 10) (
   k10 (p0 == 10,()))<|
  L.ite (p0 == 11) (
   k10 (p0 == 11,()))<|
  L.ite (p0 == 12) (
   k10 (p0 == 12,()))<|
  k10 (p0 == 13,())) fun z11=>
 L.ite z11.1 (
  L.store (⟨b1,0,none⟩) [.bool false,.bool true,.bool false,.bool false,.bool false,.bool false]<|
  L.load (.agg lf3) (⟨b1,0,none⟩) fun(x12:pt8)=>
  K (.tuple #[(qa2 x12),.bool true]))<|
 L.store (⟨b1,0,none⟩) [.bool false,.bool false,.bool false,.bool false,.bool false,.bool false]<|
 L.load (.agg lf3) (⟨b1,0,none⟩) fun(x13:pt8)=>
 K (.tuple #[(qa2 x13),.bool false])
theorem zi0(p0:Int)(h:zd5 p0 K w):CV z9w [.v (.int .i64 p0)] K w:=C_of Tryz.f60 zic _ h
def za8(p0:Bool)(p1:Int)(K:Value→PT):PT:=
 L.ite p0 (
  K (.bool true))<|
 K (.bool (p1 == 0))
theorem zeL(p0:Bool)(p1:Int)(h:za8 p0 p1 K w):CV z5y [.v (.bool p0),.v (.int .i64 p1)] K w:=C_of Tryz.f61 .auto _ h
def z86(p0:Bool)(p1:ByteArray)(K:Value→PT):PT:=
 L.ite p0 (
  K (.bool true))<|
 K (.bool (p1.toList == s_.toList))
theorem zcf(p0:Bool)(p1:ByteArray)(h:z86 p0 p1 K w):CV z3Q [.v (.bool p0),.v (.string p1)] K w:=C_of Tryz.f62 .auto _ h
def z6l(p0:Bool)(p1:ht0)(K:Value→PT):PT:=
 L.new [.string p1.1,.int .i64 p1.2.1,.int .i64 p1.2.2.1,.int .i64 p1.2.2.2.1,.int .i64 p1.2.2.2.2.1,.int .i64 p1.2.2.2.2.2.1] z05 fun b1=>
 L.new [.string s_,.int .i64 0,.int .i64 0,.int .i64 0,.int .i64 0,.int .i64 0] z05 fun b2=>
 L.ite p0 (
  K (.bool true))<|
 L.load (.agg lf0) (⟨b1,0,none⟩) fun(x3:pt0)=>
 L.load (.agg lf0) (⟨b2,0,none⟩) fun(x4:pt0)=>
 L.chkSem Pr (do eqGuard .eql z05 (.tmp 0) (.tmp 0) ((qa0 x3)) ((qa0 x4));binOp .eql z05 ((qa0 x3)) ((qa0 x4))) (.bool ((x3.1 == x4.1)&&((x3.2.1 == x4.2.1)&&((x3.2.2.1 == x4.2.2.1)&&((x3.2.2.2.1 == x4.2.2.2.1)&&((x3.2.2.2.2.1 == x4.2.2.2.2.1)&&((x3.2.2.2.2.2.1 == x4.2.2.2.2.2.1)&&true)))))))<|
 K (.bool ((x3.1 == x4.1)&&((x3.2.1 == x4.2.1)&&((x3.2.2.1 == x4.2.2.1)&&((x3.2.2.2.1 == x4.2.2.2.1)&&((x3.2.2.2.2.1 == x4.2.2.2.2.1)&&((x3.2.2.2.2.2.1 == x4.2.2.2.2.2.1)&&true)))))))
theorem z9P(p0:Bool)(p1:ht0)(h:z6l p0 p1 K w):CV z3R [.v (.bool p0),.ag (qc0 p1)] K w:=C_of Tryz.f63 .auto _ h
def zen(p0:ht2)(K:Value→PT):PT:=
 L.new [.string p0.1,.string p0.2.1,Sv6 p0.2.2.1,.int .i64 p0.2.2.2.1] z0r fun b1=>
 L.load eS6 (Ad6 b1 0) fun(x2:ByteArray)=>
 L.ite (x2.toList == s_.toList) (
  L.load eS6 (Ad6 b1 1) fun(x3:ByteArray)=>
  L.ite (x3.toList == s_.toList) (
   L.load eI6 (Ad6 b1 3) fun(x4:Int)=>
   L.ite (x4 == 0) (
    L.load eL6 (Ad6 b1 2) fun(x5:Sl)=>
    K (.bool (((x5.len:Nat):Int) == 0)))<|
   K (.bool false))<|
  K (.bool false))<|
 K (.bool false)
theorem zjD(p0:ht2)(h:zen p0 K w):CV zav [.ag (qc2 p0)] K w:=C_of Tryz.f64 .auto _ h
def zgw:Ann:=(.seq .auto (.seq (.seq .auto (.seq .auto .auto (some [(5,(.one (.bool)))])) none) .auto none) none)
def zbK(p0:ht1)(K:Value→PT):PT:=
 L.new [.int .i64 p0.1,.string p0.2.1,.string p0.2.2.1,.int .i64 p0.2.2.2.1,.int .i64 p0.2.2.2.2.1,.string p0.2.2.2.2.2.1,.int .i64 p0.2.2.2.2.2.2.1,.int .i64 p0.2.2.2.2.2.2.2.1,.int .i64 p0.2.2.2.2.2.2.2.2.1,.int .i64 p0.2.2.2.2.2.2.2.2.2.1,.int .i64 p0.2.2.2.2.2.2.2.2.2.2.1,.string p0.2.2.2.2.2.2.2.2.2.2.2.1,.string p0.2.2.2.2.2.2.2.2.2.2.2.2.1,Sv6 p0.2.2.2.2.2.2.2.2.2.2.2.2.2.1,.int .i64 p0.2.2.2.2.2.2.2.2.2.2.2.2.2.2.1] z0w fun b1=>
 L.load eI6 (Ad6 b1 0) fun(x2:Int)=>
 L.join (Y:=Bool×Unit) (fun k3=>
  L.ite (x2 == 1) (
   k3 (x2 == 1,()))<|
  k3 (x2 == 2,())) fun z4=>
 L.ite z4.1 (
  L.load eI6 (Ad6 b1 3) fun(x5:Int)=>
  L.call Pr z0R [.int .i64 x5,.int .i64 0,.int .i64 2147483647] rB fun(x6:Bool)=>
  K (.bool x6))<|
 L.ite (x2 == 3) (
  L.load eI6 (Ad6 b1 3) fun(x7:Int)=>
  L.call Pr z0R [.int .i64 x7,.int .i64 1,.int .i64 2] rB fun(x8:Bool)=>
  K (.bool x8))<|
 L.load eI6 (Ad6 b1 3) fun(x9:Int)=>
 L.call Pr z0R [.int .i64 x9,.int .i64 1,.int .i64 2147483647] rB fun(x10:Bool)=>
 K (.bool x10)
theorem zgt(p0:ht1)(h:zbK p0 K w):CV z8W [.ag (qc1 p0)] K w:=C_of Tryz.f65 zgw _ h
def zd6(p0:ht1)(K:Value→PT):PT:=
 L.new [.int .i64 p0.1,.string p0.2.1,.string p0.2.2.1,.int .i64 p0.2.2.2.1,.int .i64 p0.2.2.2.2.1,.string p0.2.2.2.2.2.1,.int .i64 p0.2.2.2.2.2.2.1,.int .i64 p0.2.2.2.2.2.2.2.1,.int .i64 p0.2.2.2.2.2.2.2.2.1,.int .i64 p0.2.2.2.2.2.2.2.2.2.1,.int .i64 p0.2.2.2.2.2.2.2.2.2.2.1,.string p0.2.2.2.2.2.2.2.2.2.2.2.1,.string p0.2.2.2.2.2.2.2.2.2.2.2.2.1,Sv6 p0.2.2.2.2.2.2.2.2.2.2.2.2.2.1,.int .i64 p0.2.2.2.2.2.2.2.2.2.2.2.2.2.2.1] z0w fun b1=>
 L.load eI6 (Ad6 b1 0) fun(x2:Int)=>
 L.ite (x2 == 12) (
  L.load eS6 (Ad6 b1 1) fun(x3:ByteArray)=>
  L.call Pr z4S [.string x3] (.tup [eS6,eI6,eB6]) fun(x4:ByteArray×Int×Bool×Unit)=>
  K (.bool x4.2.2.1))<|
 L.load eI6 (Ad6 b1 0) fun(x5:Int)=>
 L.ite (x5 == 13) (
  L.load eS6 (Ad6 b1 1) fun(x6:ByteArray)=>
  L.call Pr z4S [.string x6] (.tup [eS6,eI6,eB6]) fun(x7:ByteArray×Int×Bool×Unit)=>
  K (.bool x7.2.2.1))<|
 L.load eS6 (Ad6 b1 1) fun(x8:ByteArray)=>
 L.call Pr z4B [.string x8] rB fun(x9:Bool)=>
 K (.bool x9)
theorem zi1(p0:ht1)(h:zd6 p0 K w):CV z7v [.ag (qc1 p0)] K w:=C_of Tryz.f66 .auto _ h
def zg2(p0:ByteArray)(K:Value→PT):PT:=
 L.call Pr z7u [.string p0,.int .i64 8] rB fun(x1:Bool)=>
 K (.bool x1)
theorem zkl(p0:ByteArray)(h:zg2 p0 K w):CV z3P [.v (.string p0)] K w:=C_of Tryz.f67 .auto _ h
def zbJ(p0 p1 p2:Int)(K:Value→PT):PT:=
 L.ite (decide (p0≥p1)) (
  K (.bool (decide (p0≤p2))))<|
 K (.bool false)
theorem zgs(p0 p1 p2:Int)(h:zbJ p0 p1 p2 K w):CV z0R [.v (.int .i64 p0),.v (.int .i64 p1),.v (.int .i64 p2)] K w:=C_of Tryz.f68 .auto _ h
def zi8:Ann:=(.seq .auto (.seq (.seq .auto (.cond .auto (.seq .auto .auto (some [(8,(.one (.bool)))]))) none) .auto none) none)
def zcY(p0:ht0)(K:Value→PT):PT:=
 L.new [.string p0.1,.int .i64 p0.2.1,.int .i64 p0.2.2.1,.int .i64 p0.2.2.2.1,.int .i64 p0.2.2.2.2.1,.int .i64 p0.2.2.2.2.2.1] z05 fun b1=>
 L.load eS6 (Ad6 b1 0) fun(x2:ByteArray)=>
 L.call Pr z4B [.string x2] rB fun(x3:Bool)=>
 L.ite (!x3) (
  K (.int .i64 1))<|
 L.join (Y:=Bool×Unit) (fun k4=>
  L.load eI6 (Ad6 b1 1) fun(x6:Int)=>
  L.call Pr z1k [.agg #[.int .i64 0,.int .i64 255],.int .i64 x6] rB fun(x7:Bool)=>
  L.ite (!x7) (
   k4 (!x7,()))<|
  L.load eI6 (Ad6 b1 2) fun(x8:Int)=>
  L.call Pr z1k [.agg #[.int .i64 1,.int .i64 8],.int .i64 x8] rB fun(x9:Bool)=>
  L.ite (!x9) (
   k4 (!x9,()))<|
  L.load eI6 (Ad6 b1 4) fun(x10:Int)=>
  L.call Pr z1k [.agg #[.int .i64 1,.int .i64 10],.int .i64 x10] rB fun(x11:Bool)=>
  L.ite (!x11) (
   k4 (!x11,()))<|
  L.load eI6 (Ad6 b1 4) fun(x12:Int)=>
  L.load eI6 (Ad6 b1 3) fun(x13:Int)=>
  L.call Pr z1k [.agg #[.int .i64 0,.int .i64 x12],.int .i64 x13] rB fun(x14:Bool)=>
  L.ite (!x14) (
   k4 (!x14,()))<|
  L.load eI6 (Ad6 b1 5) fun(x15:Int)=>
  L.call Pr z1k [.agg #[.int .i64 0,.int .i64 30],.int .i64 x15] rB fun(x16:Bool)=>
  k4 (!x16,())) fun z5=>
 L.ite z5.1 (
  K (.int .i64 2))<|
 K (.int .i64 0)
theorem zhT(p0:ht0)(h:zcY p0 K w):CV z0q [.ag (qc0 p0)] K w:=C_of Tryz.f69 zi8 _ h
def zjG:Ann:=(.seq .auto (.seq (.seq .auto .auto (some [(6,(.one (.bool)))])) (.seq (.seq .auto (.one [(31,(.one (.int .i64)))] .auto) none) .auto none) none) none)
def zeh(p0:ht2)(K:Value→PT):PT:=
 L.new [.string p0.1,.string p0.2.1,Sv6 p0.2.2.1,.int .i64 p0.2.2.2.1] z0r fun b1=>
 L.join (Y:=Bool×Unit) (fun k2=>
  L.load eS6 (Ad6 b1 0) fun(x4:ByteArray)=>
  L.call Pr z4B [.string x4] rB fun(x5:Bool)=>
  L.ite (!x5) (
   k2 (!x5,()))<|
  L.load eS6 (Ad6 b1 1) fun(x6:ByteArray)=>
  L.call Pr z4B [.string x6] rB fun(x7:Bool)=>
  k2 (!x7,())) fun z3=>
 L.ite z3.1 (
  K (.int .i64 1))<|
 L.load eI6 (Ad6 b1 3) fun(x8:Int)=>
 L.call Pr z1k [.agg #[.int .i64 0,.int .i64 60],.int .i64 x8] rB fun(x9:Bool)=>
 L.ite (!x9) (
  K (.int .i64 2))<|
 L.load eL6 (Ad6 b1 2) fun(x10:Sl)=>
 L.call Pr z1k [.agg #[.int .i64 1,.int .i64 6],.int .i64 ((x10.len:Nat):Int)] rB fun(x11:Bool)=>
 L.ite (!x11) (
  K (.int .i64 3))<|
 L.load eL6 (Ad6 b1 2) fun(x12:Sl)=>
 L.loop (Y:=Int×Unit) (0,()) fun y13 again14=>
 L.ite (decide (y13.1<((x12.len:Nat):Int))) (
  L.idx x12.a y13.1 x12.len 3 fun a15=>
  L.load (.agg [.str,.str,.int .i64]) a15 fun(x16:pt9)=>
  L.new [.string s_,.string s_,.int .i64 0] z09 fun b17=>
  L.store (⟨b17,0,none⟩) [.string x16.1,.string x16.2.1,.int .i64 x16.2.2.1]<|
  L.load (.agg [.str,.str,.int .i64]) (⟨b17,0,none⟩) fun(x18:pt9)=>
  L.call Pr z9r [.agg #[.string x18.1,.string x18.2.1,.int .i64 x18.2.2.1]] rI fun(x19:Int)=>
  L.ite (x19 != 0) (
   K (.int .i64 x19))<|
  again14 (IntKind.wrap .i64 (y13.1+1),()))<|
 L.load eL6 (Ad6 b1 2) fun(x20:Sl)=>
 L.call Pr zdJ [Sv6 x20] rI fun(x21:Int)=>
 K (.int .i64 x21)
theorem zjx(p0:ht2)(h:zeh p0 K w):CV z0y [.ag (qc2 p0)] K w:=C_of Tryz.f70 zjG _ h
def zg6(p0:Int)(K:Value→PT):PT:=
 L.ite (p0 == 0) (
  K (.string s_ok))<|
 L.ite (p0 == 1) (
  K (.string zqa))<|
 L.ite (p0 == 2) (
  K (.string zs4))<|
 L.ite (p0 == 3) (
  K (.string zqc))<|
 L.ite (p0 == 4) (
  K (.string zs1))<|
 L.ite (p0 == 5) (
  K (.string s_twice))<|
 L.ite (p0 == 6) (
  K (.string zq9))<|
 K (.string zhp)
theorem zkp(p0:Int)(h:zg6 p0 K w):CV zfv [.v (.int .i64 p0)] K w:=C_of Tryz.f73 .auto _ h
def zhc(p0:Int)(K:Value→PT):PT:=
 L.ite (p0 == 7) (
  K (.string znb))<|
 L.ite (p0 == 8) (
  K (.string zqf))<|
 L.ite (p0 == 9) (
  K (.string zna))<|
 L.ite (p0 == 10) (
  K (.string zs3))<|
 L.ite (p0 == 11) (
  K (.string zqb))<|
 L.ite (p0 == 12) (
  K (.string zqd))<|
 K (.string zhp)
theorem zmD(p0:Int)(h:zhc p0 K w):CV zgJ [.v (.int .i64 p0)] K w:=C_of Tryz.f74 .auto _ h
def z9Q:Ann:=(.seq .auto (.seq .auto (.seq .auto .auto (some [(8,(.one (.int .i64)))])) none) none)
def z6j(p0:Option Addr)(p1:ht0)(p2:Int)(K:Value→PT):PT:=
 L.new [.string p1.1,.int .i64 p1.2.1,.int .i64 p1.2.2.1,.int .i64 p1.2.2.2.1,.int .i64 p1.2.2.2.2.1,.int .i64 p1.2.2.2.2.2.1] z05 fun b1=>
 L.load (.agg lf0) (⟨b1,0,none⟩) fun(x2:pt0)=>
 L.call Pr z0q [(qa0 x2)] rI fun(x3:Int)=>
 L.join (Y:=Int×Unit) (fun k4=>
  L.ite (x3 == 0) (
   L.draw<|
   L.nonnil p0 fun a6=>
   L.load eP6 (a6.add 0) fun(x7:Option Addr)=>
   L.load eS6 (Ad6 b1 0) fun(x8:ByteArray)=>
   L.call Pr z2X [.pointer x7,.string x8,.int .i64 p2,.bool true] rI fun(x9:Int)=>
   k4 (x9,()))<|
  k4 (x3,())) fun z5=>
 L.ite (z5.1 != 0) (
  K (.tuple #[.int .i64 0,.int .i64 z5.1]))<|
 L.nonnil p0 fun a10=>
 L.load eI6 (a10.add 2) fun(x11:Int)=>
 L.nonnil p0 fun a12=>
 L.store (a12.add 2) [.int .i64 (IntKind.wrap .i64 (x11+1))]<|
 L.draw<|
 L.nonnil p0 fun a13=>
 L.load eP6 (a13.add 0) fun(x14:Option Addr)=>
 L.load eS6 (Ad6 b1 0) fun(x15:ByteArray)=>
 L.load (.agg lf0) (⟨b1,0,none⟩) fun(x16:pt0)=>
 L.nonnil p0 fun a17=>
 L.load eI6 (a17.add 2) fun(x18:Int)=>
 L.call Pr z2W [.pointer x14,.string x15,(qa0 x16),.int .i64 x18] (.tup []) fun(x19:Unit)=>
 L.nonnil p0 fun a20=>
 L.load eI6 (a20.add 2) fun(x21:Int)=>
 K (.tuple #[.int .i64 x21,.int .i64 0])
theorem z9N(p0:Option Addr)(p1:ht0)(p2:Int)(h:z6j p0 p1 p2 K w):CV z3O [.v (.pointer p0),.ag (qc0 p1),.v (.int .i64 p2)] K w:=C_of Tryz.f75 z9Q _ h
def zee(p0 p1:ByteArray)(p2 p3:Int)(K:Value→PT):PT:=
 L.ite (p3 != 0) (
  L.call Pr z1b [.int .i64 p3] rL fun(x1:Sl)=>
  K (.slice x1.a x1.len x1.cap))<|
 L.new [.string p1] z01 fun b2=>
 L.call Pr z0e [.string p0,.slice (some ⟨b2,0,none⟩) 1 1] rS fun(x3:ByteArray)=>
 L.new [.int .i64 p2] z0g fun b4=>
 L.call Pr z0k [.string x3,.slice (some ⟨b4,0,none⟩) 1 1] rS fun(x5:ByteArray)=>
 L.new [.string x5] z01 fun b6=>
 K (.slice (some ⟨b6,0,none⟩) 1 1)
theorem zju(p0 p1:ByteArray)(p2 p3:Int)(h:zee p0 p1 p2 p3 K w):CV z8y [.v (.string p0),.v (.string p1),.v (.int .i64 p2),.v (.int .i64 p3)] K w:=C_of Tryz.f76 .auto _ h
def zak:Ann:=(.seq .auto (.seq .auto (.seq .auto .auto (some [(8,(.one (.int .i64)))])) none) none)
def z6t(p0:Option Addr)(p1:ht2)(p2:Int)(K:Value→PT):PT:=
 L.new [.string p1.1,.string p1.2.1,Sv6 p1.2.2.1,.int .i64 p1.2.2.2.1] z0r fun b1=>
 L.load (.agg [.str,.str,.slice,.int .i64]) (⟨b1,0,none⟩) fun(x2:pt3)=>
 L.call Pr z0y [.agg #[.string x2.1,.string x2.2.1,Sv6 x2.2.2.1,.int .i64 x2.2.2.2.1]] rI fun(x3:Int)=>
 L.join (Y:=Int×Unit) (fun k4=>
  L.ite (x3 == 0) (
   L.draw<|
   L.nonnil p0 fun a6=>
   L.load eP6 (a6.add 1) fun(x7:Option Addr)=>
   L.load eS6 (Ad6 b1 0) fun(x8:ByteArray)=>
   L.call Pr z3g [.pointer x7,.string x8,.int .i64 p2,.bool true] rI fun(x9:Int)=>
   k4 (x9,()))<|
  k4 (x3,())) fun z5=>
 L.ite (z5.1 != 0) (
  K (.tuple #[.int .i64 0,.int .i64 z5.1]))<|
 L.nonnil p0 fun a10=>
 L.load eI6 (a10.add 2) fun(x11:Int)=>
 L.nonnil p0 fun a12=>
 L.store (a12.add 2) [.int .i64 (IntKind.wrap .i64 (x11+1))]<|
 L.draw<|
 L.nonnil p0 fun a13=>
 L.load eP6 (a13.add 1) fun(x14:Option Addr)=>
 L.load eS6 (Ad6 b1 0) fun(x15:ByteArray)=>
 L.load (.agg [.str,.str,.slice,.int .i64]) (⟨b1,0,none⟩) fun(x16:pt3)=>
 L.nonnil p0 fun a17=>
 L.load eI6 (a17.add 2) fun(x18:Int)=>
 L.call Pr z9s [.agg #[.string x16.1,.string x16.2.1,Sv6 x16.2.2.1,.int .i64 x16.2.2.2.1]] (.one (.agg [.str,.str,.slice,.int .i64])) fun(x19:pt3)=>
 L.chk (a17.add 2) [.int .i64 x18]<|
 L.chk (Ad6 b1 0) [.string x15]<|
 L.chk (a13.add 1) [.pointer x14]<|
 L.call Pr z3f [.pointer x14,.string x15,.agg #[.string x19.1,.string x19.2.1,Sv6 x19.2.2.1,.int .i64 x19.2.2.2.1],.int .i64 x18] (.tup []) fun(x20:Unit)=>
 L.nonnil p0 fun a21=>
 L.load eI6 (a21.add 2) fun(x22:Int)=>
 K (.tuple #[.int .i64 x22,.int .i64 0])
theorem zai(p0:Option Addr)(p1:ht2)(p2:Int)(h:z6t p0 p1 p2 K w):CV z4e [.v (.pointer p0),.ag (qc2 p1),.v (.int .i64 p2)] K w:=C_of Tryz.f77 zak _ h
def z9U(p0:Int)(K:Value→PT):PT:=
 L.call Pr z4V [.int .i64 p0] rS fun(x1:ByteArray)=>
 L.new [.string x1] z01 fun b2=>
 L.call Pr z0e [.string s_refused,.slice (some ⟨b2,0,none⟩) 1 1] rS fun(x3:ByteArray)=>
 L.new [.string x3] z01 fun b4=>
 K (.slice (some ⟨b4,0,none⟩) 1 1)
theorem zew(p0:Int)(h:z9U p0 K w):CV z1b [.v (.int .i64 p0)] K w:=C_of Tryz.f79 .auto _ h
def z6S(p0:Option Addr)(p1:ht1)(K:Value→PT):PT:=
 L.new [.int .i64 p1.1,.string p1.2.1,.string p1.2.2.1,.int .i64 p1.2.2.2.1,.int .i64 p1.2.2.2.2.1,.string p1.2.2.2.2.2.1,.int .i64 p1.2.2.2.2.2.2.1,.int .i64 p1.2.2.2.2.2.2.2.1,.int .i64 p1.2.2.2.2.2.2.2.2.1,.int .i64 p1.2.2.2.2.2.2.2.2.2.1,.int .i64 p1.2.2.2.2.2.2.2.2.2.2.1,.string p1.2.2.2.2.2.2.2.2.2.2.2.1,.string p1.2.2.2.2.2.2.2.2.2.2.2.2.1,Sv6 p1.2.2.2.2.2.2.2.2.2.2.2.2.2.1,.int .i64 p1.2.2.2.2.2.2.2.2.2.2.2.2.2.2.1] z0w fun b1=>
 L.load eS6 (Ad6 b1 1) fun(x2:ByteArray)=>
 L.call Pr z6K [.pointer p0,.string x2] (.tup [(.agg [.slice,.slice]),eB6]) fun(x3:(Sl×Sl×Unit)×Bool×Unit)=>
 L.new [.slice none 0 0,.slice none 0 0] z04 fun b4=>
 L.store (⟨b4,0,none⟩) [Sv6 x3.1.1,Sv6 x3.1.2.1]<|
 L.ite (!x3.2.1) (
  K (.string s_))<|
 L.load eS6 (Ad6 b1 2) fun(x5:ByteArray)=>
 L.ite (x5.toList == s_.toList) (
  L.load (.agg [.slice,.slice]) (⟨b4,0,none⟩) fun(x6:Sl×Sl×Unit)=>
  L.load eI6 (Ad6 b1 4) fun(x7:Int)=>
  L.call Pr zas [.agg #[Sv6 x6.1,Sv6 x6.2.1],.int .i64 x7] rS fun(x8:ByteArray)=>
  K (.string x8))<|
 L.load (.agg [.slice,.slice]) (⟨b4,0,none⟩) fun(x9:Sl×Sl×Unit)=>
 L.load eS6 (Ad6 b1 2) fun(x10:ByteArray)=>
 L.call Pr z9p [.agg #[Sv6 x9.1,Sv6 x9.2.1],.string x10] (.tup [eS6,eB6]) fun(x11:ByteArray×Bool×Unit)=>
 K (.string x11.1)
theorem zaX(p0:Option Addr)(p1:ht1)(h:z6S p0 p1 K w):CV z4y [.v (.pointer p0),.ag (qc1 p1)] K w:=C_of Tryz.f81 .auto _ h
def zdw:Ann:=(.seq .auto (.seq .auto (.seq .auto (.seq .auto (.seq .auto .auto (some [])) none) none) none) none)
def z8N(p0:Option Addr)(p1:Int)(p2:ByteArray)(p3:Int)(K:Value→PT):PT:=
 L.call Pr z7b [.pointer p0,.int .i64 p1] rB fun(x1:Bool)=>
 L.ite x1 (
  L.call Pr z6x [.string s_twice] (.one (.agg [.int .i64,.int .i64,.int .i64,.str])) fun(x2:pt10)=>
  L.new [.int .i64 0,.int .i64 0,.int .i64 0,.string s_] z0b fun b3=>
  L.store (⟨b3,0,none⟩) [.int .i64 x2.1,.int .i64 x2.2.1,.int .i64 x2.2.2.1,.string x2.2.2.2.1]<|
  L.store (Ad6 b3 0) [.int .i64 p1]<|
  L.load (.agg [.int .i64,.int .i64,.int .i64,.str]) (⟨b3,0,none⟩) fun(x4:pt10)=>
  L.new [.int .i64 x4.1,.int .i64 x4.2.1,.int .i64 x4.2.2.1,.string x4.2.2.2.1] z0b fun b5=>
  K (.slice (some ⟨b5,0,none⟩) 1 1))<|
 L.ite (p2.toList == s_.toList) (
  L.call Pr z6x [.string s_no_route] (.one (.agg [.int .i64,.int .i64,.int .i64,.str])) fun(x6:pt10)=>
  L.call Pr z1t [.pointer p0,.int .i64 p1,.string s_,.agg #[.int .i64 x6.1,.int .i64 x6.2.1,.int .i64 x6.2.2.1,.string x6.2.2.2.1]] (.one (.agg [.int .i64,.int .i64,.int .i64,.str])) fun(x7:pt10)=>
  L.new [.int .i64 x7.1,.int .i64 x7.2.1,.int .i64 x7.2.2.1,.string x7.2.2.2.1] z0b fun b8=>
  K (.slice (some ⟨b8,0,none⟩) 1 1))<|
 L.nonnil p0 fun a9=>
 L.call Pr z2C [.pointer (some (a9.add 2)),.string p2] rP fun(x10:Option Addr)=>
 L.join (Y:=Unit) (fun k11=>
  L.call Pr z4x [.pointer x10] rI fun(x13:Int)=>
  L.ite (x13 == 0) (
   L.call Pr z5v [.pointer p0,.int .i64 p1,.string p2] (.tup [(.agg [.int .i64,.int .i64,.int .i64,.str]),eB6]) fun(x14:pt11)=>
   L.new [.int .i64 0,.int .i64 0,.int .i64 0,.string s_] z0b fun b15=>
   L.store (⟨b15,0,none⟩) [.int .i64 x14.1.1,.int .i64 x14.1.2.1,.int .i64 x14.1.2.2.1,.string x14.1.2.2.2.1]<|
   L.ite x14.2.1 (
    L.load (.agg [.int .i64,.int .i64,.int .i64,.str]) (⟨b15,0,none⟩) fun(x16:pt10)=>
    L.new [.int .i64 x16.1,.int .i64 x16.2.1,.int .i64 x16.2.2.1,.string x16.2.2.2.1] z0b fun b17=>
    K (.slice (some ⟨b17,0,none⟩) 1 1))<|
   k11 (()))<|
  k11 (())) fun z12=>
 L.nonnil p0 fun a18=>
 L.load eI6 (a18.add 5) fun(x19:Int)=>
 L.call Pr z5u [.pointer x10,.int .i64 p1,.int .i64 (IntKind.wrap .i64 (p3+x19))] rI fun(x20:Int)=>
 L.ite (x20 != 0) (
  L.call Pr z6x [.string s_overflow] (.one (.agg [.int .i64,.int .i64,.int .i64,.str])) fun(x21:pt10)=>
  L.call Pr z1t [.pointer p0,.int .i64 p1,.string p2,.agg #[.int .i64 x21.1,.int .i64 x21.2.1,.int .i64 x21.2.2.1,.string x21.2.2.2.1]] (.one (.agg [.int .i64,.int .i64,.int .i64,.str])) fun(x22:pt10)=>
  L.new [.int .i64 x22.1,.int .i64 x22.2.1,.int .i64 x22.2.2.1,.string x22.2.2.2.1] z0b fun b23=>
  K (.slice (some ⟨b23,0,none⟩) 1 1))<|
 L.call Pr z1t [.pointer p0,.int .i64 p1,.string p2,.agg #[.int .i64 0,.int .i64 2,.int .i64 0,.string s_]] (.one (.agg [.int .i64,.int .i64,.int .i64,.str])) fun(x24:pt10)=>
 L.new [.int .i64 x24.1,.int .i64 x24.2.1,.int .i64 x24.2.2.1,.string x24.2.2.2.1] z0b fun b25=>
 K (.slice (some ⟨b25,0,none⟩) 1 1)
theorem zdl(p0:Option Addr)(p1:Int)(p2:ByteArray)(p3:Int)(h:z8N p0 p1 p2 p3 K w):CV z68 [.v (.pointer p0),.v (.int .i64 p1),.v (.string p2),.v (.int .i64 p3)] K w:=C_of Tryz.f82 zdw _ h
def zi5:Ann:=(.seq .auto (.seq (.seq .auto (.seq .auto .auto (some [(8,(.one (.str)))])) none) .auto none) none)
def zcV(p0 p1:Sl)(K:Value→PT):PT:=
 L.new [Sv6 p1] z08 fun b1=>
 L.call Pr zbA [Sv6 p0] (.one (.one (.func))) fun(x2:FV)=>
 L.range Pr none (.func x2.fn x2.fs x2.cs) [eS6] (fun l3(y4:ByteArray×Unit) R5=>
  L.begin Pr l3<|
  L.load eL6 (⟨b1,0,none⟩) fun(x8:Sl)=>
  L.new [.string y4.1] z01 fun b9=>
  L.sem Pr (.one (.one .slice)) (Builtin.append_ #[z08,z08] z08 #[Sv6 x8,.slice (some ⟨b9,0,none⟩) 1 1]) fun(s10:Sl)=>
  L.store (⟨b1,0,none⟩) [Sv6 s10]<|
  L.endRound Pr l3 none R5) fun d6 j7=>
 L.jump j7 (
  L.load eL6 (⟨b1,0,none⟩) fun(x11:Sl)=>
  L.call Pr z1R [Sv6 x11] rL fun(x12:Sl)=>
  L.unmark Pr (d6++[])<|
  K (.slice x12.a x12.len x12.cap)) (
  L.unmark Pr (d6++[])<|
  K (.slice none 0 0)) []
theorem zhQ(p0 p1:Sl)(h:zcV p0 p1 K w):CV z4Q [.v (.slice p0.a p0.len p0.cap),.v (.slice p1.a p1.len p1.cap)] K w:=C_of Tryz.f83 zi5 _ h
def ze2:Ann:=(.seq .auto (.seq .auto (.seq (.seq .auto (.one [(5,(.one (.slice))),(14,(.one (.int .i64)))] (.seq .auto (.seq .auto (.seq .auto .auto (some [(5,(.one (.slice)))])) none) none)) none) .auto none) none) none)
def z9f(p0:ByteArray)(p1:Sl)(K:Value→PT):PT:=
 L.new [.string p0] z01 fun b1=>
 L.loop (Y:=Sl×Int×Unit) (⟨some ⟨b1,0,none⟩,1,1⟩,0,()) fun y2 again3=>
 L.ite (decide (y2.2.1<((p1.len:Nat):Int))) (
  L.join (Y:=Sl×Unit) (fun k4=>
   L.idx p1.a y2.2.1 p1.len 1 fun a6=>
   L.load eI6 a6 fun(x7:Int)=>
   L.semR Pr (.tup [eS6,.one .bool]) (Instr.typeAssert (.iface z0g (.int .i64 x7)) zbZ z01 true) fun(x8:ByteArray×Bool×Unit)=>
   L.ite x8.2.1 (
    L.new [.string x8.1] z01 fun b9=>
    L.sem Pr (.one (.one .slice)) (Builtin.append_ #[z08,z08] z08 #[Sv6 y2.1,.slice (some ⟨b9,0,none⟩) 1 1]) fun(s10:Sl)=>
    k4 (⟨s10.a,s10.len,s10.cap⟩,()))<|
   L.ite true (
    L.call Pr z4c [.int .i64 x7] rS fun(x11:ByteArray)=>
    L.new [.string x11] z01 fun b12=>
    L.sem Pr (.one (.one .slice)) (Builtin.append_ #[z08,z08] z08 #[Sv6 y2.1,.slice (some ⟨b12,0,none⟩) 1 1]) fun(s13:Sl)=>
    k4 (⟨s13.a,s13.len,s13.cap⟩,()))<|
   k4 (⟨y2.1.a,y2.1.len,y2.1.cap⟩,())) fun z5=>
  again3 (⟨z5.1.a,z5.1.len,z5.1.cap⟩,IntKind.wrap .i64 (y2.2.1+1),()))<|
 L.call Pr z6B [Sv6 y2.1,.string z9n] rS fun(x14:ByteArray)=>
 K (.string x14)
theorem zdW(p0:ByteArray)(p1:Sl)(h:z9f p0 p1 K w):CV z0k [.v (.string p0),.v (.slice p1.a p1.len p1.cap)] K w:=C_of Tryz.f84 ze2 _ h
def zeP:Ann:=(.seq .auto (.seq .auto (.seq .auto (.seq .auto (.seq (.one [(4,(.one (.slice))),(5,(.one (.int .i64)))] .auto) .auto none) none) none) none) none)
def za2(p0:Option Addr)(p1:Int)(K:Value→PT):PT:=
 L.nonnil p0 fun a1=>
 L.load eP6 (a1.add 0) fun(x2:Option Addr)=>
 L.call Pr z6b [.pointer x2,.int .i64 p1] (.tup [eS6,eI6]) fun(x3:ByteArray×Int×Unit)=>
 L.ite (x3.2.1 != 0) (
  K (.tuple #[.slice none 0 0,.int .i64 x3.2.1]))<|
 L.call Pr z1t [.pointer p0,.int .i64 p1,.string x3.1,.agg #[.int .i64 0,.int .i64 3,.int .i64 0,.string s_]] (.one (.agg [.int .i64,.int .i64,.int .i64,.str])) fun(x4:pt10)=>
 L.new [.int .i64 0,.int .i64 0,.int .i64 0,.string s_] z0b fun b5=>
 L.store (⟨b5,0,none⟩) [.int .i64 x4.1,.int .i64 x4.2.1,.int .i64 x4.2.2.1,.string x4.2.2.2.1]<|
 L.join (Y:=Sl×Int×Unit) (fun k6=>
  L.draw<|
  L.load (.agg [.int .i64,.int .i64,.int .i64,.str]) (⟨b5,0,none⟩) fun(x8:pt10)=>
  L.alts [(
    L.new [.int .i64 x8.1,.int .i64 x8.2.1,.int .i64 x8.2.2.1,.string x8.2.2.2.1] z0b fun b9=>
    L.call Pr z43 [.pointer p0,.string x3.1] rL fun(x10:Sl)=>
    L.chk (⟨b5,0,none⟩) [.int .i64 x8.1,.int .i64 x8.2.1,.int .i64 x8.2.2.1,.string x8.2.2.2.1]<|
    L.sem Pr (.one (.one .slice)) (Builtin.append_ #[z0d,z0d] z0d #[.slice (some ⟨b9,0,none⟩) 1 1,Sv6 x10]) fun(s11:Sl)=>
    k6 (⟨s11.a,s11.len,s11.cap⟩,0,())),(
    L.call Pr z43 [.pointer p0,.string x3.1] rL fun(x12:Sl)=>
    L.chk (⟨b5,0,none⟩) [.int .i64 x8.1,.int .i64 x8.2.1,.int .i64 x8.2.2.1,.string x8.2.2.2.1]<|
    L.new [.int .i64 x8.1,.int .i64 x8.2.1,.int .i64 x8.2.2.1,.string x8.2.2.2.1] z0b fun b13=>
    L.sem Pr (.one (.one .slice)) (Builtin.append_ #[z0d,z0d] z0d #[.slice (some ⟨b13,0,none⟩) 1 1,Sv6 x12]) fun(s14:Sl)=>
    k6 (⟨s14.a,s14.len,s14.cap⟩,0,()))]) fun z7=>
 K (.tuple #[Sv6 z7.1,.int .i64 z7.2.1])
theorem zeF(p0:Option Addr)(p1:Int)(h:za2 p0 p1 K w):CV z7c [.v (.pointer p0),.v (.int .i64 p1)] K w:=C_of Tryz.f85 zeP _ h
def za6(p0:Option Addr)(p1:Int)(K:Value→PT):PT:=
 L.nonnil p0 fun a1=>
 L.load (.one (.map)) (a1.add 0) fun(x2:Option Nat)=>
 L.semR Pr (.tup [(.agg [.str,.ptr]),.one .bool]) (Instr.lookup z0u (.map x2) (.int .i64 p1) true) fun(x3:pt12)=>
 L.new [.string s_,.pointer none] z5H fun b4=>
 L.store (⟨b4,0,none⟩) [.string x3.1.1,.pointer x3.1.2.1]<|
 L.ite (!x3.2.1) (
  K (.int .i64 6))<|
 L.load eP6 (Ad6 b4 1) fun(x5:Option Addr)=>
 L.call Pr zat [.pointer x5] rI fun(x6:Int)=>
 K (.int .i64 x6)
theorem zeJ(p0:Option Addr)(p1:Int)(h:za6 p0 p1 K w):CV z5x [.v (.pointer p0),.v (.int .i64 p1)] K w:=C_of Tryz.f86 .auto _ h
def za7(p0:Option Addr)(p1:Int)(K:Value→PT):PT:=
 L.nonnil p0 fun a1=>
 L.load (.one (.map)) (a1.add 0) fun(x2:Option Nat)=>
 L.semR Pr (.one (.agg [.str,.ptr])) (Instr.lookup z0u (.map x2) (.int .i64 p1) false) fun(x3:ByteArray×Option Addr×Unit)=>
 K (.string x3.1)
theorem zeK(p0:Option Addr)(p1:Int)(h:za7 p0 p1 K w):CV z7e [.v (.pointer p0),.v (.int .i64 p1)] K w:=C_of Tryz.f87 .auto _ h
def z5I(p0:Option Addr)(p1:ByteArray)(K:Value→PT):PT:=
 L.nonnil p0 fun a1=>
 L.load (.one (.map)) (a1.add 1) fun(x2:Option Nat)=>
 L.semR Pr rB (Instr.lookup z4o (.map x2) (.string p1) false) fun(x3:Bool)=>
 K (.bool x3)
theorem z8d(p0:Option Addr)(p1:ByteArray)(h:z5I p0 p1 K w):CV z1H [.v (.pointer p0),.v (.string p1)] K w:=C_of Tryz.f88 .auto _ h
theorem zc3:Enters Pr z1H:=z0p (by kernel_rfl)
def z8G(p0:Option Addr)(p1:ByteArray)(K:Value→PT):PT:=
 L.nonnil p0 fun a1=>
 L.load (.one (.map)) (a1.add 0) fun(x2:Option Nat)=>
 L.semR Pr (.tup [(.agg lf4),.one .bool]) (Instr.lookup z0m (.map x2) (.string p1) true) fun(x3:pt6)=>
 L.new [.string s_,.int .i64 0,.string s_,.int .i64 0,.int .i64 0,.int .i64 0,.int .i64 0,.int .i64 0] z0j fun b4=>
 L.store (⟨b4,0,none⟩) [.string x3.1.1,.int .i64 x3.1.2.1,.string x3.1.2.2.1,.int .i64 x3.1.2.2.2.1,.int .i64 x3.1.2.2.2.2.1,.int .i64 x3.1.2.2.2.2.2.1,.int .i64 x3.1.2.2.2.2.2.2.1,.int .i64 x3.1.2.2.2.2.2.2.2.1]<|
 L.ite (!x3.2.1) (
  K (.int .i64 6))<|
 L.nonnil p0 fun a5=>
 L.load (.one (.map)) (a5.add 1) fun(x6:Option Nat)=>
 L.semU Pr (Instr.mapUpdate z4o (.map x6) (.string p1) (.bool true))<|
 K (.int .i64 0)
theorem zdd(p0:Option Addr)(p1:ByteArray)(h:z8G p0 p1 K w):CV z61 [.v (.pointer p0),.v (.string p1)] K w:=C_of Tryz.f89 .auto _ h
def zeO:Ann:=(.seq .auto (.seq .auto (.seq .auto (.seq (.seq .auto (.one [(5,(.one (.slice))),(19,(.one (.int .i64)))] .auto) none) .auto (some [(5,(.one (.slice)))])) none) none) none)
def za1(p0:Option Addr)(p1:ByteArray)(K:Value→PT):PT:=
 L.nonnil p0 fun a1=>
 L.call Pr z2C [.pointer (some (a1.add 2)),.string p1] rP fun(x2:Option Addr)=>
 L.join (Y:=Sl×Unit) (fun k3=>
  L.call Pr z5Z [.pointer x2] rL fun(x5:Sl)=>
  L.loop (Y:=Sl×Int×Unit) (⟨none,0,0⟩,0,()) fun y6 again7=>
  L.ite (decide (y6.2.1<((x5.len:Nat):Int))) (
   L.idx x5.a y6.2.1 x5.len 1 fun a8=>
   L.load eI6 a8 fun(x9:Int)=>
   L.call Pr z5v [.pointer p0,.int .i64 x9,.string p1] (.tup [(.agg [.int .i64,.int .i64,.int .i64,.str]),eB6]) fun(x10:pt11)=>
   L.new [.int .i64 0,.int .i64 0,.int .i64 0,.string s_] z0b fun b11=>
   L.store (⟨b11,0,none⟩) [.int .i64 x10.1.1,.int .i64 x10.1.2.1,.int .i64 x10.1.2.2.1,.string x10.1.2.2.2.1]<|
   L.ite (!x10.2.1) (
    k3 (⟨y6.1.a,y6.1.len,y6.1.cap⟩,()))<|
   L.call Pr z7L [.pointer x2] (.tup [eI6,eB6]) fun(x12:Int×Bool×Unit)=>
   L.load (.agg [.int .i64,.int .i64,.int .i64,.str]) (⟨b11,0,none⟩) fun(x13:pt10)=>
   L.new [.int .i64 x13.1,.int .i64 x13.2.1,.int .i64 x13.2.2.1,.string x13.2.2.2.1] z0b fun b14=>
   L.sem Pr (.one (.one .slice)) (Builtin.append_ #[z0d,z0d] z0d #[Sv6 y6.1,.slice (some ⟨b14,0,none⟩) 1 1]) fun(s15:Sl)=>
   again7 (⟨s15.a,s15.len,s15.cap⟩,IntKind.wrap .i64 (y6.2.1+1),()))<|
  k3 (⟨y6.1.a,y6.1.len,y6.1.cap⟩,())) fun z4=>
 L.call Pr z1m [Sv6 z4.1] rL fun(x16:Sl)=>
 K (.slice x16.a x16.len x16.cap)
theorem zeE(p0:Option Addr)(p1:ByteArray)(h:za1 p0 p1 K w):CV z43 [.v (.pointer p0),.v (.string p1)] K w:=C_of Tryz.f90 zeO _ h
def zeN:Ann:=(.seq .auto (.seq .auto (.seq (.seq .auto (.seq .auto (.seq .auto (.one [(20,(.one (.int .i64)))] .auto) none) (some [(14,(.one (.str))),(15,(.one (.ptr)))])) none) .auto none) none) none)
def z9Z(p0:Option Addr)(p1:Int)(K:Value→PT):PT:=
 L.new [.pointer p0] z3r fun b1=>
 L.new [.int .i64 p1] z0g fun b2=>
 L.new [.slice none 0 0] z0d fun b3=>
 L.load eP6 (⟨b1,0,none⟩) fun(x4:Option Addr)=>
 L.nonnil x4 fun a5=>
 L.call Pr z55 [.pointer (some (a5.add 2))] (.one (.one (.func))) fun(x6:FV)=>
 L.range Pr none (.func x6.fn x6.fs x6.cs) [eS6,eP6] (fun l7(y8:ByteArray×Option Addr×Unit) R9=>
  L.begin Pr l7<|
  L.load eI6 (⟨b2,0,none⟩) fun(x12:Int)=>
  L.call Pr z78 [.pointer y8.2.1,.int .i64 x12] rL fun(x13:Sl)=>
  L.loop (Y:=Int×Unit) (0,()) fun y14 again15=>
  L.ite (decide (y14.1<((x13.len:Nat):Int))) (
   L.idx x13.a y14.1 x13.len 1 fun a16=>
   L.load eI6 a16 fun(x17:Int)=>
   L.draw<|
   L.load eL6 (⟨b3,0,none⟩) fun(x18:Sl)=>
   L.load eP6 (⟨b1,0,none⟩) fun(x19:Option Addr)=>
   L.call Pr z6x [.string s_timeout] (.one (.agg [.int .i64,.int .i64,.int .i64,.str])) fun(x20:pt10)=>
   L.chk (⟨b1,0,none⟩) [.pointer x19]<|
   L.chk (⟨b3,0,none⟩) [Sv6 x18]<|
   L.call Pr z1t [.pointer x19,.int .i64 x17,.string y8.1,.agg #[.int .i64 x20.1,.int .i64 x20.2.1,.int .i64 x20.2.2.1,.string x20.2.2.2.1]] (.one (.agg [.int .i64,.int .i64,.int .i64,.str])) fun(x21:pt10)=>
   L.chk (⟨b3,0,none⟩) [Sv6 x18]<|
   L.new [.int .i64 x21.1,.int .i64 x21.2.1,.int .i64 x21.2.2.1,.string x21.2.2.2.1] z0b fun b22=>
   L.chk (⟨b3,0,none⟩) [Sv6 x18]<|
   L.sem Pr (.one (.one .slice)) (Builtin.append_ #[z0d,z0d] z0d #[Sv6 x18,.slice (some ⟨b22,0,none⟩) 1 1]) fun(s23:Sl)=>
   L.store (⟨b3,0,none⟩) [Sv6 s23]<|
   again15 (IntKind.wrap .i64 (y14.1+1),()))<|
  L.endRound Pr l7 none R9) fun d10 j11=>
 L.jump j11 (
  L.load eL6 (⟨b3,0,none⟩) fun(x24:Sl)=>
  L.call Pr z1m [Sv6 x24] rL fun(x25:Sl)=>
  L.unmark Pr (d10++[])<|
  K (.slice x25.a x25.len x25.cap)) (
  L.unmark Pr (d10++[])<|
  K (.slice none 0 0)) []
theorem zeC(p0:Option Addr)(p1:Int)(h:z9Z p0 p1 K w):CV z7a [.v (.pointer p0),.v (.int .i64 p1)] K w:=C_of Tryz.f93 zeN _ h
def z5q(p0:Option Addr)(K:Value→PT):PT:=
 L.nonnil p0 fun a1=>
 L.load eP6 (a1.add 1) fun(x2:Option Addr)=>
 L.call Pr z79 [.pointer x2] rL fun(x3:Sl)=>
 K (.slice x3.a x3.len x3.cap)
theorem z8Y(p0:Option Addr)(h:z5q p0 K w):CV z5m [.v (.pointer p0)] K w:=C_of Tryz.f94 .auto _ h
def z9h(p0:Option Addr)(p1:Int)(K:Value→PT):PT:=
 L.nonnil p0 fun a1=>
 L.call Pr z5e [.pointer (some (a1.add 0)),.int .i64 (if 0>p1 then 0 else p1)] (.tup []) fun(x2:Unit)=>
 L.nonnil p0 fun a3=>
 L.load eI6 (a3.add 61) fun(x4:Int)=>
 L.nonnil p0 fun a5=>
 L.store (a5.add 61) [.int .i64 (IntKind.wrap .i64 (x4+1))]<|
 L.ite (decide ((if 0>p1 then 0 else p1)>0)) (
  L.nonnil p0 fun a6=>
  L.store (a6.add 61) [.int .i64 0]<|
  K (.tuple #[]))<|
 K (.tuple #[])
theorem zdY(p0:Option Addr)(p1:Int)(h:z9h p0 p1 K w):CV z6w [.v (.pointer p0),.v (.int .i64 p1)] K w:=C_of Tryz.f95 .auto _ h
def za3(p0:Option Addr)(p1:ByteArray)(K:Value→PT):PT:=
 L.call Pr z4k [.pointer p0,.string p1] (.tup [eL6,eL6]) fun(x1:Sl×Sl×Unit)=>
 K (.int .i64 (IntKind.wrap .i64 (((x1.1.len:Nat):Int)+((x1.2.1.len:Nat):Int))))
theorem zeG(p0:Option Addr)(p1:ByteArray)(h:za3 p0 p1 K w):CV z5w [.v (.pointer p0),.v (.string p1)] K w:=C_of Tryz.f96 .auto _ h
def z7k(p0:Option Addr)(p1:ByteArray)(K:Value→PT):PT:=
 L.new [.string s_,.int .i64 0,.int .i64 0,.int .i64 0,.int .i64 0,.int .i64 0] z05 fun b1=>
 L.nonnil p0 fun a2=>
 L.load eP6 (a2.add 0) fun(x3:Option Addr)=>
 L.call Pr z2Y [.pointer x3,.string p1] (.tup [(.agg lf9),eB6]) fun(x4:pt13)=>
 L.new [.string s_,.int .i64 0,.int .i64 0,.int .i64 0,.int .i64 0,.int .i64 0,.int .i64 0,.int .i64 0,.bool false] z0f fun b5=>
 L.store (⟨b5,0,none⟩) [.string x4.1.1,.int .i64 x4.1.2.1,.int .i64 x4.1.2.2.1,.int .i64 x4.1.2.2.2.1,.int .i64 x4.1.2.2.2.2.1,.int .i64 x4.1.2.2.2.2.2.1,.int .i64 x4.1.2.2.2.2.2.2.1,.int .i64 x4.1.2.2.2.2.2.2.2.1,.bool x4.1.2.2.2.2.2.2.2.2.1]<|
 L.ite (!x4.2.1) (
  L.store (⟨b1,0,none⟩) [.string s_,.int .i64 0,.int .i64 0,.int .i64 0,.int .i64 0,.int .i64 0]<|
  L.load (.agg lf0) (⟨b1,0,none⟩) fun(x6:pt0)=>
  K (.tuple #[(qa0 x6),.int .i64 0,.int .i64 0,.bool false]))<|
 L.draw<|
 L.load (.agg lf0) (Ad6 b5 0) fun(x7:pt0)=>
 L.load eI6 (Ad6 b5 6) fun(x8:Int)=>
 L.load eI6 (Ad6 b5 7) fun(x9:Int)=>
 L.store (⟨b1,0,none⟩) [.string x7.1,.int .i64 x7.2.1,.int .i64 x7.2.2.1,.int .i64 x7.2.2.2.1,.int .i64 x7.2.2.2.2.1,.int .i64 x7.2.2.2.2.2.1]<|
 L.chk (Ad6 b5 7) [.int .i64 x9]<|
 L.chk (Ad6 b5 6) [.int .i64 x8]<|
 L.chk (Ad6 b5 7) [.int .i64 x9]<|
 L.load (.agg lf0) (⟨b1,0,none⟩) fun(x10:pt0)=>
 K (.tuple #[(qa0 x10),.int .i64 x8,.int .i64 x9,.bool true])
theorem zbp(p0:Option Addr)(p1:ByteArray)(h:z7k p0 p1 K w):CV z3y [.v (.pointer p0),.v (.string p1)] K w:=C_of Tryz.f97 .auto _ h
def z8F(p0:Option Addr)(p1:ht0)(p2:Int)(K:Value→PT):PT:=
 L.new [.string p1.1,.int .i64 p1.2.1,.int .i64 p1.2.2.1,.int .i64 p1.2.2.2.1,.int .i64 p1.2.2.2.2.1,.int .i64 p1.2.2.2.2.2.1] z05 fun b1=>
 L.load eS6 (Ad6 b1 0) fun(x2:ByteArray)=>
 L.call Pr z9v [.string x2,.int .i64 p2] rS fun(x3:ByteArray)=>
 L.ite (x3.toList == s_.toList) (
  K (.tuple #[.string x3,.bool false]))<|
 L.nonnil p0 fun a4=>
 L.load (.one (.map)) (a4.add 0) fun(x5:Option Nat)=>
 L.semR Pr (.one (.agg lf4)) (Instr.lookup z0m (.map x5) (.string x3) false) fun(x6:pt14)=>
 L.chkSem Pr (do eqGuard .neq z0j (.tmp 0) (.tmp 0) ((qa3 x6)) (.agg #[.string s_,.int .i64 0,.string s_,.int .i64 0,.int .i64 0,.int .i64 0,.int .i64 0,.int .i64 0]);binOp .neq z0j ((qa3 x6)) (.agg #[.string s_,.int .i64 0,.string s_,.int .i64 0,.int .i64 0,.int .i64 0,.int .i64 0,.int .i64 0])) (.bool (!((x6.1 == s_)&&((x6.2.1 == 0)&&((x6.2.2.1 == s_)&&((x6.2.2.2.1 == 0)&&((x6.2.2.2.2.1 == 0)&&((x6.2.2.2.2.2.1 == 0)&&((x6.2.2.2.2.2.2.1 == 0)&&((x6.2.2.2.2.2.2.2.1 == 0)&&true))))))))))<|
 L.ite (!((x6.1 == s_)&&((x6.2.1 == 0)&&((x6.2.2.1 == s_)&&((x6.2.2.2.1 == 0)&&((x6.2.2.2.2.1 == 0)&&((x6.2.2.2.2.2.1 == 0)&&((x6.2.2.2.2.2.2.1 == 0)&&((x6.2.2.2.2.2.2.2.1 == 0)&&true))))))))) (
  K (.tuple #[.string x3,.bool false]))<|
 L.draw<|
 L.nonnil p0 fun a7=>
 L.load (.one (.map)) (a7.add 0) fun(x8:Option Nat)=>
 L.load (.agg lf0) (⟨b1,0,none⟩) fun(x9:pt0)=>
 L.semU Pr (Instr.mapUpdate z0m (.map x8) (.string x3) (.agg #[.string x3,.int .i64 p2,.string x9.1,.int .i64 x9.2.1,.int .i64 x9.2.2.1,.int .i64 x9.2.2.2.1,.int .i64 x9.2.2.2.2.1,.int .i64 x9.2.2.2.2.2.1]))<|
 K (.tuple #[.string x3,.bool true])
theorem zdc(p0:Option Addr)(p1:ht0)(p2:Int)(h:z8F p0 p1 p2 K w):CV z60 [.v (.pointer p0),.ag (qc0 p1),.v (.int .i64 p2)] K w:=C_of Tryz.f98 .auto _ h
def zg4  (K:Value→PT):PT:=
 L.new [.int .i64 0,.int .i64 0,.int .i64 0,.int .i64 0,.int .i64 0,.int .i64 0,.int .i64 0,.int .i64 0,.int .i64 0,.int .i64 0,.int .i64 0,.int .i64 0,.int .i64 0,.int .i64 0,.int .i64 0,.int .i64 0,.int .i64 0,.int .i64 0,.int .i64 0,.int .i64 0,.int .i64 0,.int .i64 0,.int .i64 0,.int .i64 0,.int .i64 0,.int .i64 0,.int .i64 0,.int .i64 0,.int .i64 0,.int .i64 0,.int .i64 0,.int .i64 0,.int .i64 0,.int .i64 0,.int .i64 0,.int .i64 0,.int .i64 0,.int .i64 0,.int .i64 0,.int .i64 0,.int .i64 0,.int .i64 0,.int .i64 0,.int .i64 0,.int .i64 0,.int .i64 0,.int .i64 0,.int .i64 0,.int .i64 0,.int .i64 0,.int .i64 0,.int .i64 0,.int .i64 0,.int .i64 0,.int .i64 0,.int .i64 0,.int .i64 0,.int .i64 0,.int .i64 0,.int .i64 0,.int .i64 0,.int .i64 0] z3W fun b1=>
 K (.pointer (some (⟨b1,0,none⟩)))
theorem zkn(h:zg4  K w):CV zbU [] K w:=C_of Tryz.f99 .auto _ h
def z81(p0:Option Addr)(p1:ByteArray)(K:Value→PT):PT:=
 L.new [.string s_,.string s_,.slice none 0 0,.int .i64 0] z0r fun b1=>
 L.nonnil p0 fun a2=>
 L.load eP6 (a2.add 1) fun(x3:Option Addr)=>
 L.call Pr z3h [.pointer x3,.string p1] (.tup [(.agg lf10),eB6]) fun(x4:pt15)=>
 L.new [.string s_,.string s_,.slice none 0 0,.int .i64 0,.int .i64 0,.int .i64 0,.bool false] z0l fun b5=>
 L.store (⟨b5,0,none⟩) [.string x4.1.1,.string x4.1.2.1,Sv6 x4.1.2.2.1,.int .i64 x4.1.2.2.2.1,.int .i64 x4.1.2.2.2.2.1,.int .i64 x4.1.2.2.2.2.2.1,.bool x4.1.2.2.2.2.2.2.1]<|
 L.ite (!x4.2.1) (
  L.store (⟨b1,0,none⟩) [.string s_,.string s_,.slice none 0 0,.int .i64 0]<|
  L.load (.agg [.str,.str,.slice,.int .i64]) (⟨b1,0,none⟩) fun(x6:pt3)=>
  K (.tuple #[.agg #[.string x6.1,.string x6.2.1,Sv6 x6.2.2.1,.int .i64 x6.2.2.2.1],.int .i64 0,.bool false]))<|
 L.draw<|
 L.load (.agg [.str,.str,.slice,.int .i64]) (Ad6 b5 0) fun(x7:pt3)=>
 L.load eI6 (Ad6 b5 4) fun(x8:Int)=>
 L.call Pr z9s [.agg #[.string x7.1,.string x7.2.1,Sv6 x7.2.2.1,.int .i64 x7.2.2.2.1]] (.one (.agg [.str,.str,.slice,.int .i64])) fun(x9:pt3)=>
 L.chk (Ad6 b5 4) [.int .i64 x8]<|
 L.store (⟨b1,0,none⟩) [.string x9.1,.string x9.2.1,Sv6 x9.2.2.1,.int .i64 x9.2.2.2.1]<|
 L.chk (Ad6 b5 4) [.int .i64 x8]<|
 L.load (.agg [.str,.str,.slice,.int .i64]) (⟨b1,0,none⟩) fun(x10:pt3)=>
 K (.tuple #[.agg #[.string x10.1,.string x10.2.1,Sv6 x10.2.2.1,.int .i64 x10.2.2.2.1],.int .i64 x8,.bool true])
theorem zcb(p0:Option Addr)(p1:ByteArray)(h:z81 p0 p1 K w):CV z3N [.v (.pointer p0),.v (.string p1)] K w:=C_of Tryz.f100 .auto _ h
def zgv:Ann:=(.seq .auto (.seq .auto (.seq (.seq .auto (.one [(5,(.one (.int .i64))),(22,(.one (.int .i64)))] (.seq .auto (.seq .auto (.seq .auto .auto (some [(5,(.one (.int .i64)))])) none) none)) none) (.seq .auto (.seq (.seq .auto (.seq .auto .auto (some [(53,(.one (.str))),(54,(.one (.int .i64)))])) none) (.seq (.seq .auto (.seq .auto .auto (some [(67,(.one (.str))),(68,(.one (.str)))])) none) .auto none) none) none) none) none) none)
def zbH(p0:ht2)(p1:Option Addr)(K:Value→PT):PT:=
 L.new [.string p0.1,.string p0.2.1,Sv6 p0.2.2.1,.int .i64 p0.2.2.2.1] z0r fun b1=>
 L.new [.slice none 0 0,.slice none 0 0] z04 fun b2=>
 L.sem Pr (.one (.one .map)) (Instr.makeMap z0M none) fun(m3:Option Nat)=>
 L.sem Pr (.one (.one .map)) (Instr.makeMap z0s none) fun(m4:Option Nat)=>
 L.load eL6 (Ad6 b1 2) fun(x5:Sl)=>
 L.loop (Y:=Int×Int×Unit) (0,0,()) fun y6 again7=>
 L.ite (decide (y6.2.1<((x5.len:Nat):Int))) (
  L.join (Y:=Int×Unit) (fun k8=>
   L.idx x5.a y6.2.1 x5.len 3 fun a10=>
   L.load (.agg [.str,.str,.int .i64]) a10 fun(x11:pt9)=>
   L.new [.string s_,.string s_,.int .i64 0] z09 fun b12=>
   L.store (⟨b12,0,none⟩) [.string x11.1,.string x11.2.1,.int .i64 x11.2.2.1]<|
   L.load (.agg [.str,.str,.int .i64]) (⟨b12,0,none⟩) fun(x13:pt9)=>
   L.load (.agg [.str,.str,.slice,.int .i64]) (⟨b1,0,none⟩) fun(x14:pt3)=>
   L.call Pr z9u [.agg #[.string x13.1,.string x13.2.1,.int .i64 x13.2.2.1],.agg #[.string x14.1,.string x14.2.1,Sv6 x14.2.2.1,.int .i64 x14.2.2.2.1],.pointer p1] (.tup [eS6,eI6]) fun(x15:ByteArray×Int×Unit)=>
   L.ite (x15.2.1 != 0) (
    L.store (⟨b2,0,none⟩) [.slice none 0 0,.slice none 0 0]<|
    L.load (.agg [.slice,.slice]) (⟨b2,0,none⟩) fun(x16:Sl×Sl×Unit)=>
    K (.tuple #[.agg #[Sv6 x16.1,Sv6 x16.2.1],.int .i64 x15.2.1]))<|
   L.semR Pr rI (Instr.lookup z0M (.map m3) (.string x15.1) false) fun(x17:Int)=>
   L.load eI6 (Ad6 b12 2) fun(x18:Int)=>
   L.semU Pr (Instr.mapUpdate z0M (.map m3) (.string x15.1) (.int .i64 (IntKind.wrap .i64 (x17+x18))))<|
   L.load eS6 (Ad6 b12 1) fun(x19:ByteArray)=>
   L.ite (!(x19.toList == s_.toList)) (
    L.load eS6 (Ad6 b12 1) fun(x20:ByteArray)=>
    L.semU Pr (Instr.mapUpdate z0s (.map m4) (.string x20) (.string x15.1))<|
    k8 (y6.1,()))<|
   k8 (y6.1,())) fun z9=>
  again7 (z9.1,IntKind.wrap .i64 (y6.2.1+1),()))<|
 L.new [.slice none 0 0,.slice none 0 0] z04 fun b21=>
 L.call Pr z5n [.map m3] (.one (.one (.func))) fun(x22:FV)=>
 L.range Pr none (.func x22.fn x22.fs x22.cs) [eS6,eI6] (fun l23(y24:ByteArray×Int×Unit) R25=>
  L.begin Pr l23<|
  L.ite (decide (y24.2.1>0)) (
   L.load eL6 (Ad6 b21 0) fun(x28:Sl)=>
   L.new [.string y24.1,.int .i64 y24.2.1] z0v fun b29=>
   L.sem Pr (.one (.one .slice)) (Builtin.append_ #[z0F,z0F] z0F #[Sv6 x28,.slice (some ⟨b29,0,none⟩) 1 1]) fun(s30:Sl)=>
   L.store (Ad6 b21 0) [Sv6 s30]<|
   L.endRound Pr l23 none R25)<|
  L.endRound Pr l23 none R25) fun d26 j27=>
 L.jump j27 (
  L.call Pr z4i [.map m4] (.one (.one (.func))) fun(x31:FV)=>
  L.range Pr none (.func x31.fn x31.fs x31.cs) [eS6,eS6] (fun l32(y33:ByteArray×ByteArray×Unit) R34=>
   L.begin Pr l32<|
   L.load eL6 (Ad6 b21 1) fun(x37:Sl)=>
   L.new [.string y33.1,.string y33.2.1] z3t fun b38=>
   L.sem Pr (.one (.one .slice)) (Builtin.append_ #[z3U,z3U] z3U #[Sv6 x37,.slice (some ⟨b38,0,none⟩) 1 1]) fun(s39:Sl)=>
   L.store (Ad6 b21 1) [Sv6 s39]<|
   L.endRound Pr l32 none R34) fun d35 j36=>
  L.jump j36 (
   L.load (.agg [.slice,.slice]) (⟨b21,0,none⟩) fun(x40:Sl×Sl×Unit)=>
   L.call Pr z2l [.agg #[Sv6 x40.1,Sv6 x40.2.1]] (.one (.agg [.slice,.slice])) fun(x41:Sl×Sl×Unit)=>
   L.store (⟨b2,0,none⟩) [Sv6 x41.1,Sv6 x41.2.1]<|
   L.unmark Pr (d35++(d26++[]))<|
   L.load (.agg [.slice,.slice]) (⟨b2,0,none⟩) fun(x42:Sl×Sl×Unit)=>
   K (.tuple #[.agg #[Sv6 x42.1,Sv6 x42.2.1],.int .i64 0])) (
   L.unmark Pr (d35++(d26++[]))<|
   L.load (.agg [.slice,.slice]) (⟨b2,0,none⟩) fun(x43:Sl×Sl×Unit)=>
   K (.tuple #[.agg #[Sv6 x43.1,Sv6 x43.2.1],.int .i64 y6.1])) []) (
  L.unmark Pr (d26++[])<|
  L.load (.agg [.slice,.slice]) (⟨b2,0,none⟩) fun(x44:Sl×Sl×Unit)=>
  K (.tuple #[.agg #[Sv6 x44.1,Sv6 x44.2.1],.int .i64 y6.1])) []
theorem zgq(p0:ht2)(p1:Option Addr)(h:zbH p0 p1 K w):CV z6E [.ag (qc2 p0),.v (.pointer p1)] K w:=C_of Tryz.f101 zgv _ h
def zjE:Ann:=(.seq .auto (.seq .auto (.seq .auto (.seq (.seq .auto (.one [(5,(.one (.slice))),(17,(.one (.int .i64)))] .auto) none) (.seq (.seq .auto (.one [(5,(.one (.slice))),(33,(.one (.int .i64)))] .auto) none) .auto none) none) none) none) none)
def zec(p0:HT [.slice,.slice])(K:Value→PT):PT:=
 L.new [Sv6 p0.1,Sv6 p0.2.1] z04 fun b1=>
 L.load (.agg [.slice,.slice]) (⟨b1,0,none⟩) fun(x2:Sl×Sl×Unit)=>
 L.call Pr z9o [.agg #[Sv6 x2.1,Sv6 x2.2.1]] (.tup [eL6,eL6]) fun(x3:Sl×Sl×Unit)=>
 L.loop (Y:=Sl×Int×Unit) (⟨none,0,0⟩,0,()) fun y4 again5=>
 L.ite (decide (y4.2.1<((x3.1.len:Nat):Int))) (
  L.idx x3.1.a y4.2.1 x3.1.len 2 fun a6=>
  L.load (.agg [.str,.str]) a6 fun(x7:ByteArray×ByteArray×Unit)=>
  L.new [.string s_,.string s_] z3q fun b8=>
  L.store (⟨b8,0,none⟩) [.string x7.1,.string x7.2.1]<|
  L.idx (some (⟨b8,0,none⟩)) 0 2 1 fun a9=>
  L.load eS6 a9 fun(x10:ByteArray)=>
  L.guard (((x10.size+s___b5df.size:Nat):Int)≤maxI64)<|
  L.idx (some (⟨b8,0,none⟩)) 1 2 1 fun a11=>
  L.load eS6 a11 fun(x12:ByteArray)=>
  L.guard ((((x10++s___b5df).size+x12.size:Nat):Int)≤maxI64)<|
  L.new [.string ((x10++s___b5df)++x12)] z01 fun b13=>
  L.sem Pr (.one (.one .slice)) (Builtin.append_ #[z08,z08] z08 #[Sv6 y4.1,.slice (some ⟨b13,0,none⟩) 1 1]) fun(s14:Sl)=>
  again5 (⟨s14.a,s14.len,s14.cap⟩,IntKind.wrap .i64 (y4.2.1+1),()))<|
 L.loop (Y:=Sl×Int×Unit) (⟨y4.1.a,y4.1.len,y4.1.cap⟩,0,()) fun y15 again16=>
 L.ite (decide (y15.2.1<((x3.2.1.len:Nat):Int))) (
  L.idx x3.2.1.a y15.2.1 x3.2.1.len 2 fun a17=>
  L.load (.agg [.str,.str]) a17 fun(x18:ByteArray×ByteArray×Unit)=>
  L.new [.string s_,.string s_] z3q fun b19=>
  L.store (⟨b19,0,none⟩) [.string x18.1,.string x18.2.1]<|
  L.idx (some (⟨b19,0,none⟩)) 0 2 1 fun a20=>
  L.load eS6 a20 fun(x21:ByteArray)=>
  L.guard (((x21.size+s___b5e2.size:Nat):Int)≤maxI64)<|
  L.idx (some (⟨b19,0,none⟩)) 1 2 1 fun a22=>
  L.load eS6 a22 fun(x23:ByteArray)=>
  L.guard ((((x21++s___b5e2).size+x23.size:Nat):Int)≤maxI64)<|
  L.new [.string ((x21++s___b5e2)++x23)] z01 fun b24=>
  L.sem Pr (.one (.one .slice)) (Builtin.append_ #[z08,z08] z08 #[Sv6 y15.1,.slice (some ⟨b24,0,none⟩) 1 1]) fun(s25:Sl)=>
  again16 (⟨s25.a,s25.len,s25.cap⟩,IntKind.wrap .i64 (y15.2.1+1),()))<|
 L.call Pr z6B [Sv6 y15.1,.string z9n] rS fun(x26:ByteArray)=>
 K (.string x26)
theorem zjs(p0:HT [.slice,.slice])(h:zec p0 K w):CV zar [.ag [.slice p0.1.a p0.1.len p0.1.cap,.slice p0.2.1.a p0.2.1.len p0.2.1.cap]] K w:=C_of Tryz.f102 zjE _ h
def zdt:Ann:=(.seq .auto (.seq .auto (.seq .auto .auto (some [])) none) none)
def z8J(p0:Option Addr)(p1:ByteArray)(p2:HT [.slice,.slice])(p3 p4:Int)(K:Value→PT):PT:=
 L.new [Sv6 p2.1,Sv6 p2.2.1] z04 fun b1=>
 L.new [.slice none 0 0,.slice none 0 0] z04 fun b2=>
 L.nonnil p0 fun a3=>
 L.load (.one (.map)) (a3.add 0) fun(x4:Option Nat)=>
 L.semR Pr (.tup [(.agg lf11),.one .bool]) (Instr.lookup z1O (.map x4) (.string p1) true) fun(x5:pt16)=>
 L.new [.slice none 0 0,.slice none 0 0,.int .i64 0,.int .i64 0,.slice none 0 0,.slice none 0 0] z2a fun b6=>
 L.store (⟨b6,0,none⟩) [Sv6 x5.1.1,Sv6 x5.1.2.1,.int .i64 x5.1.2.2.1,.int .i64 x5.1.2.2.2.1,Sv6 x5.1.2.2.2.2.1,Sv6 x5.1.2.2.2.2.2.1]<|
 L.join (Y:=Unit) (fun k7=>
  L.ite (!x5.2.1) (
   L.draw<|
   L.load (.agg [.slice,.slice]) (⟨b1,0,none⟩) fun(x9:Sl×Sl×Unit)=>
   L.load (.agg [.slice,.slice]) (⟨b1,0,none⟩) fun(x10:Sl×Sl×Unit)=>
   L.call Pr z2l [.agg #[Sv6 x9.1,Sv6 x9.2.1]] (.one (.agg [.slice,.slice])) fun(x11:Sl×Sl×Unit)=>
   L.chk (⟨b1,0,none⟩) [Sv6 x10.1,Sv6 x10.2.1]<|
   L.call Pr z2l [.agg #[Sv6 x10.1,Sv6 x10.2.1]] (.one (.agg [.slice,.slice])) fun(x12:Sl×Sl×Unit)=>
   L.store (⟨b6,0,none⟩) [Sv6 x11.1,Sv6 x12.1,.int .i64 p3,.int .i64 p4,.slice none 0 0,.slice none 0 0]<|
   k7 (()))<|
  L.load eL6 (Ad6 b6 1) fun(x13:Sl)=>
  L.load eL6 (Ad6 b1 0) fun(x14:Sl)=>
  L.call Pr z1l [Sv6 x13,Sv6 x14] rB fun(x15:Bool)=>
  L.ite (!x15) (
   L.draw<|
   L.load eL6 ((Ad6 b6 4).add 0) fun(x16:Sl)=>
   L.load (.agg [.slice,.slice]) (⟨b1,0,none⟩) fun(x17:Sl×Sl×Unit)=>
   L.call Pr z2l [.agg #[Sv6 x17.1,Sv6 x17.2.1]] (.one (.agg [.slice,.slice])) fun(x18:Sl×Sl×Unit)=>
   L.chk ((Ad6 b6 4).add 0) [Sv6 x16]<|
   L.store (⟨b6,0,none⟩) [Sv6 x16,Sv6 x18.1,.int .i64 p3,.int .i64 p4,.slice none 0 0,.slice none 0 0]<|
   k7 (()))<|
  L.load eI6 (Ad6 b6 3) fun(x19:Int)=>
  L.ite (x19 != p4) (
   L.draw<|
   L.load eL6 ((Ad6 b6 4).add 0) fun(x20:Sl)=>
   L.load (.agg [.slice,.slice]) (⟨b1,0,none⟩) fun(x21:Sl×Sl×Unit)=>
   L.call Pr z2l [.agg #[Sv6 x21.1,Sv6 x21.2.1]] (.one (.agg [.slice,.slice])) fun(x22:Sl×Sl×Unit)=>
   L.chk ((Ad6 b6 4).add 0) [Sv6 x20]<|
   L.store (⟨b6,0,none⟩) [Sv6 x20,Sv6 x22.1,.int .i64 p3,.int .i64 p4,.slice none 0 0,.slice none 0 0]<|
   k7 (()))<|
  k7 (())) fun z8=>
 L.draw<|
 L.load eL6 (Ad6 b6 0) fun(x23:Sl)=>
 L.load eL6 (Ad6 b6 1) fun(x24:Sl)=>
 L.load eI6 (Ad6 b6 2) fun(x25:Int)=>
 L.load (.agg [.slice,.slice]) (⟨b1,0,none⟩) fun(x26:Sl×Sl×Unit)=>
 L.call Pr z9t [Sv6 x23,Sv6 x24,.int .i64 (IntKind.wrap .i64 (p3-x25)),.int .i64 p4] rL fun(x27:Sl)=>
 L.chk (⟨b1,0,none⟩) [Sv6 x26.1,Sv6 x26.2.1]<|
 L.call Pr z2l [.agg #[Sv6 x26.1,Sv6 x26.2.1]] (.one (.agg [.slice,.slice])) fun(x28:Sl×Sl×Unit)=>
 L.store (Ad6 b6 4) [Sv6 x27,Sv6 x28.2.1]<|
 L.draw<|
 L.nonnil p0 fun a29=>
 L.load (.one (.map)) (a29.add 0) fun(x30:Option Nat)=>
 L.load (.agg lf11) (⟨b6,0,none⟩) fun(x31:pt17)=>
 L.semU Pr (Instr.mapUpdate z1O (.map x30) (.string p1) ((qa4 x31)))<|
 L.load (.agg [.slice,.slice]) (Ad6 b6 4) fun(x32:Sl×Sl×Unit)=>
 L.call Pr z2l [.agg #[Sv6 x32.1,Sv6 x32.2.1]] (.one (.agg [.slice,.slice])) fun(x33:Sl×Sl×Unit)=>
 L.store (⟨b2,0,none⟩) [Sv6 x33.1,Sv6 x33.2.1]<|
 L.load (.agg [.slice,.slice]) (⟨b2,0,none⟩) fun(x34:Sl×Sl×Unit)=>
 K (.agg #[Sv6 x34.1,Sv6 x34.2.1])
theorem zdg(p0:Option Addr)(p1:ByteArray)(p2:HT [.slice,.slice])(p3 p4:Int)(h:z8J p0 p1 p2 p3 p4 K w):CV z66 [.v (.pointer p0),.v (.string p1),.ag [.slice p2.1.a p2.1.len p2.1.cap,.slice p2.2.1.a p2.2.1.len p2.2.1.cap],.v (.int .i64 p3),.v (.int .i64 p4)] K w:=C_of Tryz.f103 zdt _ h
def z9W(p0:Option Addr)(p1:ByteArray)(K:Value→PT):PT:=
 L.new [.string s_,.int .i64 0,.string s_,.int .i64 0,.int .i64 0,.int .i64 0,.int .i64 0,.int .i64 0] z0j fun b1=>
 L.nonnil p0 fun a2=>
 L.load (.one (.map)) (a2.add 0) fun(x3:Option Nat)=>
 L.semR Pr (.tup [(.agg lf4),.one .bool]) (Instr.lookup z0m (.map x3) (.string p1) true) fun(x4:pt6)=>
 L.new [.string s_,.int .i64 0,.string s_,.int .i64 0,.int .i64 0,.int .i64 0,.int .i64 0,.int .i64 0] z0j fun b5=>
 L.store (⟨b5,0,none⟩) [.string x4.1.1,.int .i64 x4.1.2.1,.string x4.1.2.2.1,.int .i64 x4.1.2.2.2.1,.int .i64 x4.1.2.2.2.2.1,.int .i64 x4.1.2.2.2.2.2.1,.int .i64 x4.1.2.2.2.2.2.2.1,.int .i64 x4.1.2.2.2.2.2.2.2.1]<|
 L.load (.agg lf4) (⟨b5,0,none⟩) fun(x6:pt14)=>
 L.store (⟨b1,0,none⟩) [.string x6.1,.int .i64 x6.2.1,.string x6.2.2.1,.int .i64 x6.2.2.2.1,.int .i64 x6.2.2.2.2.1,.int .i64 x6.2.2.2.2.2.1,.int .i64 x6.2.2.2.2.2.2.1,.int .i64 x6.2.2.2.2.2.2.2.1]<|
 L.load (.agg lf4) (⟨b1,0,none⟩) fun(x7:pt14)=>
 K (.tuple #[(qa3 x7),.bool x4.2.1])
theorem zey(p0:Option Addr)(p1:ByteArray)(h:z9W p0 p1 K w):CV z2G [.v (.pointer p0),.v (.string p1)] K w:=C_of Tryz.f104 .auto _ h
def zb6:Ann:=(.seq .auto (.seq .auto (.seq (.seq .auto (.one [(7,(.one (.int .i64))),(14,(.one (.int .i64)))] (.seq .auto (.seq .auto (.seq .auto .auto (some [(7,(.one (.int .i64)))])) none) none)) none) .auto none) none) none)
def z6R(p0:Option Addr)(p1:ByteArray)(p2:FV)(K:Value→PT):PT:=
 L.call Pr z3x [.pointer p0,.string p1] rL fun(x1:Sl)=>
 L.loop (Y:=Int×Int×Unit) (0,0,()) fun y2 again3=>
 L.ite (decide (y2.2.1<((x1.len:Nat):Int))) (
  L.join (Y:=Int×Unit) (fun k4=>
   L.idx x1.a y2.2.1 x1.len 3 fun a6=>
   L.load (.agg [.int .i64,.int .i64,.int .i64]) a6 fun(x7:Int×Int×Int×Unit)=>
   L.new [.int .i64 0,.int .i64 0,.int .i64 0] z3G fun b8=>
   L.store (⟨b8,0,none⟩) [.int .i64 x7.1,.int .i64 x7.2.1,.int .i64 x7.2.2.1]<|
   L.load eI6 (Ad6 b8 1) fun(x9:Int)=>
   L.callV Pr (.func p2.fn p2.fs p2.cs) [.int .i64 x9] rB fun(x10:Bool)=>
   L.ite x10 (
    k4 (IntKind.wrap .i64 (y2.1+1),()))<|
   k4 (y2.1,())) fun z5=>
  again3 (z5.1,IntKind.wrap .i64 (y2.2.1+1),()))<|
 K (.int .i64 y2.1)
theorem zaW(p0:Option Addr)(p1:ByteArray)(p2:FV)(h:z6R p0 p1 p2 K w):CV z3l [.v (.pointer p0),.v (.string p1),.v (.func p2.fn p2.fs p2.cs)] K w:=C_of Tryz.f105 zb6 _ h
def z6f(p0:Int)(K:Value→PT):PT:=
 K (.bool (p0 == 2))
theorem z9K(p0:Int)(h:z6f p0 K w):CV z2P [.v (.int .i64 p0)] K w:=C_of Tryz.f106 .auto _ h
theorem z9I:Enters Pr z2P:=z0p (by kernel_rfl)
def zdu:Ann:=(.seq .auto (.seq (.seq .auto (.seq .auto .auto (some [(11,(.one (.int .i64)))])) none) .auto none) none)
def z8K(p0:Option Addr)(p1:Int)(K:Value→PT):PT:=
 L.new [.int .i64 p1] z0g fun b1=>
 L.new [.int .i64 0] z0g fun b2=>
 L.new [.int .i64 0] z0g fun b3=>
 L.nonnil p0 fun a4=>
 L.call Pr z4C [.pointer (some (a4.add 0))] (.one (.one (.func))) fun(x5:FV)=>
 L.range Pr none (.func x5.fn x5.fs x5.cs) [eI6] (fun l6(y7:Int×Unit) R8=>
  L.begin Pr l6<|
  L.load eI6 (⟨b3,0,none⟩) fun(x11:Int)=>
  L.load eI6 (⟨b1,0,none⟩) fun(x12:Int)=>
  L.ite (decide (x11≥x12)) (
   L.endRound Pr l6 (some (.exit 0)) R8)<|
  L.load eI6 (⟨b2,0,none⟩) fun(x13:Int)=>
  L.store (⟨b2,0,none⟩) [.int .i64 (IntKind.wrap .i64 (x13+y7.1))]<|
  L.load eI6 (⟨b3,0,none⟩) fun(x14:Int)=>
  L.store (⟨b3,0,none⟩) [.int .i64 (IntKind.wrap .i64 (x14+1))]<|
  L.endRound Pr l6 none R8) fun d9 j10=>
 L.jump j10 (
  L.draw<|
  L.load eI6 (⟨b2,0,none⟩) fun(x19:Int)=>
  L.load eI6 (⟨b3,0,none⟩) fun(x20:Int)=>
  L.store (⟨b2,0,none⟩) [.int .i64 x19]<|
  L.chk (⟨b3,0,none⟩) [.int .i64 x20]<|
  L.store (⟨b3,0,none⟩) [.int .i64 x20]<|
  L.unmark Pr (d9++[])<|
  L.load eI6 (⟨b2,0,none⟩) fun(x21:Int)=>
  L.load eI6 (⟨b3,0,none⟩) fun(x22:Int)=>
  K (.tuple #[.int .i64 x21,.int .i64 x22])) (
  L.unmark Pr (d9++[])<|
  L.load eI6 (⟨b2,0,none⟩) fun(x23:Int)=>
  L.load eI6 (⟨b3,0,none⟩) fun(x24:Int)=>
  K (.tuple #[.int .i64 x23,.int .i64 x24])) [(0,(
    L.draw<|
    L.load eI6 (⟨b2,0,none⟩) fun(x15:Int)=>
    L.load eI6 (⟨b3,0,none⟩) fun(x16:Int)=>
    L.store (⟨b2,0,none⟩) [.int .i64 x15]<|
    L.chk (⟨b3,0,none⟩) [.int .i64 x16]<|
    L.store (⟨b3,0,none⟩) [.int .i64 x16]<|
    L.unmark Pr (d9++[])<|
    L.load eI6 (⟨b2,0,none⟩) fun(x17:Int)=>
    L.load eI6 (⟨b3,0,none⟩) fun(x18:Int)=>
    K (.tuple #[.int .i64 x17,.int .i64 x18])))]
theorem zdi(p0:Option Addr)(p1:Int)(h:z8K p0 p1 K w):CV z4j [.v (.pointer p0),.v (.int .i64 p1)] K w:=C_of Tryz.f107 zdu _ h
def zgu:Ann:=(.seq .auto (.seq (.one [(19,(.one (.adr)))] .auto) (.seq .auto (.seq (.one [(21,(.one (.adr)))] .auto) (.seq .auto (.seq (.seq .auto (.cond .auto .auto) none) .auto (some [])) (some [])) none) none) none) none)
def zbE(p0:HT [.int .i64,.int .i64])(p1:ht0)(p2 p3 p4 p5 p6 p7 p8:Int)(K:Value→PT):PT:=
 L.new [.int .i64 p0.1,.int .i64 p0.2.1] z0X fun b1=>
 L.new [.string p1.1,.int .i64 p1.2.1,.int .i64 p1.2.2.1,.int .i64 p1.2.2.2.1,.int .i64 p1.2.2.2.2.1,.int .i64 p1.2.2.2.2.2.1] z05 fun b2=>
 L.new [.int .i64 0,.int .i64 0] z0X fun b3=>
 L.join (Y:=Addr×Unit) (fun k4=>
  L.draw<|
  L.load eI6 (Ad6 b2 2) fun(x6:Int)=>
  L.load eI6 (Ad6 b2 2) fun(x7:Int)=>
  L.alts [(
    L.call Pr z4A [.int .i64 p4,.int .i64 p5,.int .i64 x6] rI fun(x8:Int)=>
    L.chk (Ad6 b2 2) [.int .i64 x7]<|
    L.alts [(
      L.call Pr z4A [.int .i64 p6,.int .i64 p7,.int .i64 x7] rI fun(x9:Int)=>
      L.new [.int .i64 0,.int .i64 0] zaF fun b10=>
      L.chk (Ad6 b2 2) [.int .i64 x7]<|
      L.chk (Ad6 b2 2) [.int .i64 x6]<|
      L.store (⟨b10,0,none⟩) [.int .i64 x8,.int .i64 x9]<|
      k4 (⟨b10,0,none⟩,())),(
      L.new [.int .i64 0,.int .i64 0] zaF fun b11=>
      L.chk (Ad6 b2 2) [.int .i64 x7]<|
      L.chk (Ad6 b2 2) [.int .i64 x6]<|
      L.call Pr z4A [.int .i64 p6,.int .i64 p7,.int .i64 x7] rI fun(x12:Int)=>
      L.store (⟨b11,0,none⟩) [.int .i64 x8,.int .i64 x12]<|
      k4 (⟨b11,0,none⟩,()))]),(
    L.new [.int .i64 0,.int .i64 0] zaF fun b13=>
    L.chk (Ad6 b2 2) [.int .i64 x7]<|
    L.chk (Ad6 b2 2) [.int .i64 x6]<|
    L.call Pr z4A [.int .i64 p4,.int .i64 p5,.int .i64 x6] rI fun(x14:Int)=>
    L.chk (Ad6 b2 2) [.int .i64 x7]<|
    L.call Pr z4A [.int .i64 p6,.int .i64 p7,.int .i64 x7] rI fun(x15:Int)=>
    L.store (⟨b13,0,none⟩) [.int .i64 x14,.int .i64 x15]<|
    k4 (⟨b13,0,none⟩,()))]) fun z5=>
 L.join (Y:=Addr×Unit) (fun k16=>
  L.draw<|
  L.idx (some z5.1) 0 2 1 fun a18=>
  L.load eI6 a18 fun(x19:Int)=>
  L.load (.agg [.int .i64,.int .i64]) (⟨b1,0,none⟩) fun(x20:Int×Int×Unit)=>
  L.idx (some z5.1) 1 2 1 fun a21=>
  L.load eI6 a21 fun(x22:Int)=>
  L.alts [(
    L.call Pr z3n [.agg #[.int .i64 x20.1,.int .i64 x20.2.1],.int .i64 x22,.int .i64 (if p2>1 then p2 else 1)] rI fun(x23:Int)=>
    L.chk a18 [.int .i64 x19]<|
    L.new [.int .i64 0,.int .i64 0] z0X fun b24=>
    L.chk a21 [.int .i64 x22]<|
    L.chk (⟨b1,0,none⟩) [.int .i64 x20.1,.int .i64 x20.2.1]<|
    L.chk a18 [.int .i64 x19]<|
    L.store (⟨b24,0,none⟩) [.int .i64 x19,.int .i64 x23]<|
    k16 (⟨b24,0,none⟩,())),(
    L.new [.int .i64 0,.int .i64 0] z0X fun b25=>
    L.chk a21 [.int .i64 x22]<|
    L.chk (⟨b1,0,none⟩) [.int .i64 x20.1,.int .i64 x20.2.1]<|
    L.chk a18 [.int .i64 x19]<|
    L.call Pr z3n [.agg #[.int .i64 x20.1,.int .i64 x20.2.1],.int .i64 x22,.int .i64 (if p2>1 then p2 else 1)] rI fun(x26:Int)=>
    L.chk a18 [.int .i64 x19]<|
    L.store (⟨b25,0,none⟩) [.int .i64 x19,.int .i64 x26]<|
    k16 (⟨b25,0,none⟩,()))]) fun z17=>
 L.join (Y:=Unit) (fun k27=>
  L.load eI6 (z17.1.add 1) fun(x29:Int)=>
  L.ite (decide (x29>0)) (
   L.load (.agg [.int .i64,.int .i64]) (⟨b1,0,none⟩) fun(x30:Int×Int×Unit)=>
   L.load (.agg [.int .i64,.int .i64]) z5.1 fun(x31:Int×Int×Unit)=>
   L.call Pr z63 [.agg #[.int .i64 x30.1,.int .i64 x30.2.1],.agg #[.int .i64 x31.1,.int .i64 x31.2.1]] rI fun(x32:Int)=>
   L.store (z17.1.add 0) [.int .i64 x32]<|
   k27 (()))<|
  k27 (())) fun z28=>
 L.join (Y:=Unit) (fun k33=>
  L.load eI6 (z17.1.add 0) fun(x35:Int)=>
  L.ite (x35 == 0) (
   L.ite (decide (p3>0)) (
    L.store (z17.1.add 0) [.int .i64 1]<|
    k33 (()))<|
   L.load eI6 (Ad6 b1 0) fun(x36:Int)=>
   L.ite (decide (x36>0)) (
    L.load eI6 (Ad6 b2 5) fun(x37:Int)=>
    L.ite (decide (p8<x37)) (
     L.store (z17.1.add 0) [.int .i64 1]<|
     k33 (()))<|
    k33 (()))<|
   k33 (()))<|
  k33 (())) fun z34=>
 L.load (.agg lf0) (⟨b2,0,none⟩) fun(x38:pt0)=>
 L.call Pr z8U [(qa0 x38),.int .i64 p2,.int .i64 (if p2>1 then p2 else 1)] (.one (.agg [.int .i64,.int .i64,.int .i64,.int .i64])) fun(x39:Int×Int×Int×Int×Unit)=>
 L.new [.int .i64 0,.int .i64 0,.int .i64 0,.int .i64 0] zo3 fun b40=>
 L.store (⟨b40,0,none⟩) [.int .i64 x39.1,.int .i64 x39.2.1,.int .i64 x39.2.2.1,.int .i64 x39.2.2.2.1]<|
 L.load eI6 (z17.1.add 0) fun(x41:Int)=>
 L.idx (some (⟨b40,0,none⟩)) 0 4 1 fun a42=>
 L.load eI6 a42 fun(x43:Int)=>
 L.idx (some (⟨b40,0,none⟩)) 1 4 1 fun a44=>
 L.load eI6 a44 fun(x45:Int)=>
 L.idx (some (⟨b40,0,none⟩)) 2 4 1 fun a46=>
 L.load eI6 a46 fun(x47:Int)=>
 L.idx (some (⟨b40,0,none⟩)) 3 4 1 fun a48=>
 L.load eI6 a48 fun(x49:Int)=>
 L.store (z17.1.add 0) [.int .i64 (if x49<(if x47>(if x45>(if x43<x41 then x43 else x41)then x45 else(if x43<x41 then x43 else x41))then x47 else(if x45>(if x43<x41 then x43 else x41)then x45 else(if x43<x41 then x43 else x41)))then x49 else(if x47>(if x45>(if x43<x41 then x43 else x41)then x45 else(if x43<x41 then x43 else x41))then x47 else(if x45>(if x43<x41 then x43 else x41)then x45 else(if x43<x41 then x43 else x41))))]<|
 L.load (.agg [.int .i64,.int .i64]) z17.1 fun(x50:Int×Int×Unit)=>
 L.store (⟨b3,0,none⟩) [.int .i64 x50.1,.int .i64 x50.2.1]<|
 L.load (.agg [.int .i64,.int .i64]) (⟨b3,0,none⟩) fun(x51:Int×Int×Unit)=>
 K (.agg #[.int .i64 x51.1,.int .i64 x51.2.1])
theorem zgn(p0:HT [.int .i64,.int .i64])(p1:ht0)(p2 p3 p4 p5 p6 p7 p8:Int)(h:zbE p0 p1 p2 p3 p4 p5 p6 p7 p8 K w):CV z8V [.ag [.int .i64 p0.1,.int .i64 p0.2.1],.ag (qc0 p1),.v (.int .i64 p2),.v (.int .i64 p3),.v (.int .i64 p4),.v (.int .i64 p5),.v (.int .i64 p6),.v (.int .i64 p7),.v (.int .i64 p8)] K w:=C_of Tryz.f108 zgu _ h
def z8L(p0:Option Addr)(K:Value→PT):PT:=
 L.nonnil p0 fun a1=>
 L.load eI6 (a1.add 61) fun(x2:Int)=>
 K (.int .i64 x2)
theorem zdj(p0:Option Addr)(h:z8L p0 K w):CV z67 [.v (.pointer p0)] K w:=C_of Tryz.f109 .auto _ h
def zco:Ann:=(.seq .auto (.seq .auto (.seq (.one [(8,(.one (.slice))),(10,(.one (.int .i64)))] (.seq (.seq .auto (.cond .auto .auto) none) .auto none)) (.seq (.one [(9,(.one (.slice))),(10,(.one (.int .i64)))] .auto) .auto none) (some [(8,(.one (.slice))),(10,(.one (.int .i64)))])) none) none)
def z84(p0:Option Addr)(p1:ByteArray)(p2 p3:Int)(K:Value→PT):PT:=
 L.call Pr z7d [.pointer p0,.string p1] rI fun(x1:Int)=>
 L.join (Y:=Sl×Int×Unit) (fun k2=>
  L.loop (Y:=Sl×Int×Unit) (⟨none,0,0⟩,x1,()) fun y4 again5=>
  L.draw<|
  L.ite (decide (y4.2.1<p3)) (
   L.nonnil p0 fun a6=>
   L.load (.one (.map)) (a6.add 0) fun(x7:Option Nat)=>
   L.semR Pr rI (Builtin.len_ #[z0u] z0g #[.map x7]) fun(x8:Int)=>
   L.nonnil p0 fun a9=>
   L.load eI6 (a9.add 2) fun(x10:Int)=>
   L.ite (decide (x8<x10)) (
    L.nonnil p0 fun a11=>
    L.load eI6 (a11.add 3) fun(x12:Int)=>
    L.nonnil p0 fun a13=>
    L.store (a13.add 3) [.int .i64 (IntKind.wrap .i64 (x12+1))]<|
    L.draw<|
    L.nonnil p0 fun a14=>
    L.load (.one (.map)) (a14.add 0) fun(x15:Option Nat)=>
    L.nonnil p0 fun a16=>
    L.load eI6 (a16.add 3) fun(x17:Int)=>
    L.call Pr zfu [.int .i64 p2] rP fun(x18:Option Addr)=>
    L.chk (a16.add 3) [.int .i64 x17]<|
    L.chk (a14.add 0) [.map x15]<|
    L.semU Pr (Instr.mapUpdate z0u (.map x15) (.int .i64 x17) (.agg #[.string p1,.pointer x18]))<|
    L.nonnil p0 fun a19=>
    L.load eI6 (a19.add 3) fun(x20:Int)=>
    L.new [.int .i64 x20] z0g fun b21=>
    L.sem Pr (.one (.one .slice)) (Builtin.append_ #[z0Y,z0Y] z0Y #[Sv6 y4.1,.slice (some ⟨b21,0,none⟩) 1 1]) fun(s22:Sl)=>
    again5 (⟨s22.a,s22.len,s22.cap⟩,IntKind.wrap .i64 (y4.2.1+1),()))<|
   k2 (⟨y4.1.a,y4.1.len,y4.1.cap⟩,y4.2.1,()))<|
  k2 (⟨y4.1.a,y4.1.len,y4.1.cap⟩,y4.2.1,())) fun z3=>
 L.loop (Y:=Sl×Int×Unit) (⟨none,0,0⟩,z3.2.1,()) fun y23 again24=>
 L.ite (decide (y23.2.1>(if 0>p3 then 0 else p3))) (
  L.call Pr z5C [.pointer p0,.string p1] rI fun(x25:Int)=>
  L.nonnil p0 fun a26=>
  L.load (.one (.map)) (a26.add 0) fun(x27:Option Nat)=>
  L.semR Pr (.one (.agg [.str,.ptr])) (Instr.lookup z0u (.map x27) (.int .i64 x25) false) fun(x28:ByteArray×Option Addr×Unit)=>
  L.call Pr z7O [.pointer x28.2.1] rI fun(x29:Int)=>
  L.call Pr z4T [.pointer p0,.int .i64 x25] (.tup []) fun(x30:Unit)=>
  L.new [.int .i64 x25] z0g fun b31=>
  L.sem Pr (.one (.one .slice)) (Builtin.append_ #[z0Y,z0Y] z0Y #[Sv6 y23.1,.slice (some ⟨b31,0,none⟩) 1 1]) fun(s32:Sl)=>
  again24 (⟨s32.a,s32.len,s32.cap⟩,IntKind.wrap .i64 (y23.2.1-1),()))<|
 L.call Pr z19 [Sv6 z3.1] rL fun(x33:Sl)=>
 L.call Pr z19 [Sv6 y23.1] rL fun(x34:Sl)=>
 K (.tuple #[Sv6 x33,Sv6 x34])
theorem zce(p0:Option Addr)(p1:ByteArray)(p2 p3:Int)(h:z84 p0 p1 p2 p3 K w):CV z5D [.v (.pointer p0),.v (.string p1),.v (.int .i64 p2),.v (.int .i64 p3)] K w:=C_of Tryz.f110 zco _ h
def z6p(p0:Int)(K:Value→PT):PT:=
 K (.bool (p0 != 3))
theorem zac(p0:Int)(h:z6p p0 K w):CV z38 [.v (.int .i64 p0)] K w:=C_of Tryz.f111 .auto _ h
theorem za9:Enters Pr z38:=z0p (by kernel_rfl)
def zgh:Ann:=(.seq .auto (.seq .auto (.seq (.seq .auto (.seq .auto .auto (some [(12,(.one (.int .i64))),(13,(.one (.int .i64)))])) none) .auto none) none) none)
def zaI(p0:Option Addr)(K:Value→PT):PT:=
 L.call Pr z4x [.pointer p0] rI fun(x1:Int)=>
 L.sem Pr (.one (.one .slice)) (Instr.makeSlice z0Y (.int .i64 0) (.int .i64 x1)) fun(s2:Sl)=>
 L.new [.slice none 0 0] z0Y fun b3=>
 L.store (⟨b3,0,none⟩) [Sv6 s2]<|
 L.nonnil p0 fun a4=>
 L.call Pr z2k [.pointer (some (a4.add 0))] (.one (.one (.func))) fun(x5:FV)=>
 L.range Pr none (.func x5.fn x5.fs x5.cs) [eI6,eI6] (fun l6(y7:Int×Int×Unit) R8=>
  L.begin Pr l6<|
  L.load eL6 (⟨b3,0,none⟩) fun(x11:Sl)=>
  L.new [.int .i64 y7.1] z0g fun b12=>
  L.sem Pr (.one (.one .slice)) (Builtin.append_ #[z0Y,z0Y] z0Y #[Sv6 x11,.slice (some ⟨b12,0,none⟩) 1 1]) fun(s13:Sl)=>
  L.store (⟨b3,0,none⟩) [Sv6 s13]<|
  L.endRound Pr l6 none R8) fun d9 j10=>
 L.jump j10 (
  L.load eL6 (⟨b3,0,none⟩) fun(x14:Sl)=>
  L.unmark Pr (d9++[])<|
  K (.slice x14.a x14.len x14.cap)) (
  L.unmark Pr (d9++[])<|
  K (.slice none 0 0)) []
theorem zgb(p0:Option Addr)(h:zaI p0 K w):CV z5Z [.v (.pointer p0)] K w:=C_of Tryz.f113 zgh _ h
def z4h(p0:Sl)(K:Value→PT):PT:=
 L.ite ((p0.a).isNone) (
  K (.slice none 0 0))<|
 L.new [] z0g fun b1=>
 L.sem Pr (.one (.one .slice)) (Builtin.append_ #[z0Y,z0Y] z0Y #[.slice (some ⟨b1,0,none⟩) 0 0,Sv6 p0]) fun(s2:Sl)=>
 K (.slice s2.a s2.len s2.cap)
theorem z6u(p0:Sl)(h:z4h p0 K w):CV z19 [.v (.slice p0.a p0.len p0.cap)] K w:=C_of Tryz.f114 .auto _ h
def za5(p0:Option Addr)(p1:ByteArray)(K:Value→PT):PT:=
 L.new [.pointer p0] z0P fun b1=>
 L.new [.string p1] z01 fun b2=>
 K (.func (.func z3o) #[] #[.pointer (some (⟨b1,0,none⟩)),.pointer (some (⟨b2,0,none⟩))])
theorem zeI(p0:Option Addr)(p1:ByteArray)(h:za5 p0 p1 K w):CV z3j [.v (.pointer p0),.v (.string p1)] K w:=C_of Tryz.f115 .auto _ h
def zaK(p0:Option Addr)(K:Value→PT):PT:=
 L.nonnil p0 fun a1=>
 L.load eI6 (a1.add 0) fun(x2:Int)=>
 K (.int .i64 x2)
theorem zgd(p0:Option Addr)(h:zaK p0 K w):CV z1r [.v (.pointer p0)] K w:=C_of Tryz.f116 .auto _ h
def z8X(p0:Option Addr)(K:Value→PT):PT:=
 L.nonnil p0 fun a1=>
 L.load (.one (.map)) ((a1.add 1).add 0) fun(x2:Option Nat)=>
 L.semR Pr rI (Builtin.len_ #[z2Q] z0g #[.map x2]) fun(x3:Int)=>
 K (.int .i64 x3)
theorem zbL(p0:Option Addr)(h:z8X p0 K w):CV z2q [.v (.pointer p0)] K w:=C_of Tryz.f117 .auto _ h
def z2R(p0:Sl)(K:Value→PT):PT:=
 L.ite ((p0.a).isNone) (
  K (.slice none 0 0))<|
 L.new [] z3G fun b1=>
 L.sem Pr (.one (.one .slice)) (Builtin.append_ #[z1w,z1w] z1w #[.slice (some ⟨b1,0,none⟩) 0 0,Sv6 p0]) fun(s2:Sl)=>
 K (.slice s2.a s2.len s2.cap)
theorem z5s(p0:Sl)(h:z2R p0 K w):CV z1F [.v (.slice p0.a p0.len p0.cap)] K w:=C_of Tryz.f118 .auto _ h
def z6i(p0:FV)(K:Value→PT):PT:=
 L.sem Pr (.one (.one .map)) (Instr.makeMap z0t none) fun(m1:Option Nat)=>
 L.new [.map m1,.func p0.fn p0.fs p0.cs] z0Q fun b2=>
 K (.pointer (some (⟨b2,0,none⟩)))
theorem z9M(p0:FV)(h:z6i p0 K w):CV z3M [.v (.func p0.fn p0.fs p0.cs)] K w:=C_of Tryz.f120 .auto _ h
def zcZ(p0 p1:ht0)(K:Value→PT):PT:=
 L.new [.string p0.1,.int .i64 p0.2.1,.int .i64 p0.2.2.1,.int .i64 p0.2.2.2.1,.int .i64 p0.2.2.2.2.1,.int .i64 p0.2.2.2.2.2.1] z05 fun b1=>
 L.new [.string p1.1,.int .i64 p1.2.1,.int .i64 p1.2.2.1,.int .i64 p1.2.2.2.1,.int .i64 p1.2.2.2.2.1,.int .i64 p1.2.2.2.2.2.1] z05 fun b2=>
 L.load (.agg lf0) (⟨b1,0,none⟩) fun(x3:pt0)=>
 L.load (.agg lf0) (⟨b2,0,none⟩) fun(x4:pt0)=>
 L.chkSem Pr (do eqGuard .eql z05 (.tmp 0) (.tmp 0) ((qa0 x3)) ((qa0 x4));binOp .eql z05 ((qa0 x3)) ((qa0 x4))) (.bool ((x3.1 == x4.1)&&((x3.2.1 == x4.2.1)&&((x3.2.2.1 == x4.2.2.1)&&((x3.2.2.2.1 == x4.2.2.2.1)&&((x3.2.2.2.2.1 == x4.2.2.2.2.1)&&((x3.2.2.2.2.2.1 == x4.2.2.2.2.2.1)&&true)))))))<|
 K (.bool ((x3.1 == x4.1)&&((x3.2.1 == x4.2.1)&&((x3.2.2.1 == x4.2.2.1)&&((x3.2.2.2.1 == x4.2.2.2.1)&&((x3.2.2.2.2.1 == x4.2.2.2.2.1)&&((x3.2.2.2.2.2.1 == x4.2.2.2.2.2.1)&&true)))))))
theorem zhU(p0 p1:ht0)(h:zcZ p0 p1 K w):CV z1o [.ag (qc0 p0),.ag (qc0 p1)] K w:=C_of Tryz.f121 .auto _ h
theorem zhN:Enters Pr z1o:=z0p (by kernel_rfl)
def z6s(p0:FV)(K:Value→PT):PT:=
 L.sem Pr (.one (.one .map)) (Instr.makeMap z0B none) fun(m1:Option Nat)=>
 L.new [.map m1,.func p0.fn p0.fs p0.cs] z0C fun b2=>
 K (.pointer (some (⟨b2,0,none⟩)))
theorem zah(p0:FV)(h:z6s p0 K w):CV z4d [.v (.func p0.fn p0.fs p0.cs)] K w:=C_of Tryz.f122 .auto _ h
def z7f(p0 p1:ht2)(K:Value→PT):PT:=
 L.new [.string p0.1,.string p0.2.1,Sv6 p0.2.2.1,.int .i64 p0.2.2.2.1] z0r fun b1=>
 L.new [.string p1.1,.string p1.2.1,Sv6 p1.2.2.1,.int .i64 p1.2.2.2.1] z0r fun b2=>
 L.load eS6 (Ad6 b1 0) fun(x3:ByteArray)=>
 L.load eS6 (Ad6 b2 0) fun(x4:ByteArray)=>
 L.ite (x3.toList == x4.toList) (
  L.load eS6 (Ad6 b1 1) fun(x5:ByteArray)=>
  L.load eS6 (Ad6 b2 1) fun(x6:ByteArray)=>
  L.ite (x5.toList == x6.toList) (
   L.load eI6 (Ad6 b1 3) fun(x7:Int)=>
   L.load eI6 (Ad6 b2 3) fun(x8:Int)=>
   L.ite (x7 == x8) (
    L.load eL6 (Ad6 b1 2) fun(x9:Sl)=>
    L.load eL6 (Ad6 b2 2) fun(x10:Sl)=>
    L.call Pr z0H [Sv6 x9,Sv6 x10,.func (.func z7N) #[] #[]] rB fun(x11:Bool)=>
    K (.bool x11))<|
   K (.bool false))<|
  K (.bool false))<|
 K (.bool false)
theorem zeA(p0 p1:ht2)(h:z7f p0 p1 K w):CV z0I [.ag (qc2 p0),.ag (qc2 p1)] K w:=C_of Tryz.f123 .auto _ h
theorem zet:Enters Pr z0I:=z0p (by kernel_rfl)
def zem(c0:Addr)(K:Value→PT):PT:=
 L.load eI6 c0 fun(x1:Int)=>
 L.call Pr zdI [.int .i64 x1] rP fun(x2:Option Addr)=>
 K (.pointer x2)
theorem zjC(c0:Addr)(h:zem c0 K w):CV z8A [.v (.pointer (some c0))] K w:=C_of Tryz.f124 .auto _ h
theorem zjr:Enters Pr z8A:=z0p (by kernel_rfl)
def zh5(p0:Int)(K:Value→PT):PT:=
 L.new [.slice none 0 0,.int .i64 p0] z6y fun b1=>
 K (.pointer (some (⟨b1,0,none⟩)))
theorem zmw(p0:Int)(h:zh5 p0 K w):CV zdI [.v (.int .i64 p0)] K w:=C_of Tryz.f125 .auto _ h
def z9H(p0:ByteArray)(K:Value→PT):PT:=
 L.call Pr z7M [.string p0,.string s__] rI fun(x1:Int)=>
 L.ite (decide (x1<0)) (
  K (.tuple #[.string s_,.int .i64 0,.bool false]))<|
 L.guard ((0:Int)≤(IntKind.wrap .i64 (x1+1))∧(IntKind.wrap .i64 (x1+1))≤(p0.size:Int)∧(p0.size:Int)≤p0.size)<|
 L.call Pr zbB [.string (p0.extract (Int.toNat (IntKind.wrap .i64 (x1+1))) (Int.toNat (p0.size:Int)))] (.tup [eI6,(.one (.iface))]) fun(x2:pt18)=>
 L.ite (!(x2.2.1).isNone) (
  K (.tuple #[.string s_,.int .i64 0,.bool false]))<|
 L.guard ((0:Int)≤0∧0≤x1∧x1≤p0.size)<|
 L.call Pr z9v [.string (p0.extract (Int.toNat 0) (Int.toNat x1)),.int .i64 x2.1] rS fun(x3:ByteArray)=>
 L.ite (!(x3.toList == p0.toList)) (
  K (.tuple #[.string s_,.int .i64 0,.bool false]))<|
 L.guard ((0:Int)≤0∧0≤x1∧x1≤p0.size)<|
 K (.tuple #[.string (p0.extract (Int.toNat 0) (Int.toNat x1)),.int .i64 x2.1,.bool true])
theorem zdh(p0:ByteArray)(h:z9H p0 K w):CV z4S [.v (.string p0)] K w:=C_of Tryz.f132 .auto _ h
def zel(p0:ByteArray)(K:Value→PT):PT:=
 L.call Pr z7u [.string p0,.int .i64 16] rB fun(x1:Bool)=>
 K (.bool x1)
theorem zjB(p0:ByteArray)(h:zel p0 K w):CV z4B [.v (.string p0)] K w:=C_of Tryz.f133 .auto _ h
def zib:Ann:=(.seq .auto (.seq .auto (.seq (.seq .auto (.one [(5,(.one (.int .i32)))] (.seq .auto (.seq (.cond .auto .auto) (.seq .auto (.seq (.seq .auto (.cond .auto .auto) none) .auto (some [])) none) none) none)) none) .auto none) none) none)
def zd4(p0:ByteArray)(p1:Int)(K:Value→PT):PT:=
 L.sem Pr (.one (.one .ptr)) (Instr.range z01 (.string p0)) fun(it1:Option Addr)=>
 L.loop (Y:=Int×Unit) (45,()) fun y2 again3=>
 L.next Pr [eI6,(.one (.int .i32))] (Instr.next (.pointer it1) true T_) (
  L.ite (y2.1 != 45) (
   K (.bool (decide ((p0.size:Int)≤p1))))<|
  K (.bool false)) fun(x4:Int×Int×Unit)=>
 L.join (Y:=Unit) (fun k5=>
  L.call Pr zau [.int .i32 x4.2.1] rB fun(x7:Bool)=>
  L.ite (!x7) (
   K (.bool false))<|
  L.ite (x4.1 == 0) (
   L.call Pr z6F [.int .i32 x4.2.1] rB fun(x8:Bool)=>
   L.ite (!x8) (
    K (.bool false))<|
   k5 (()))<|
  k5 (())) fun z6=>
 again3 (x4.2.1,())
theorem zhZ(p0:ByteArray)(p1:Int)(h:zd4 p0 p1 K w):CV z7u [.v (.string p0),.v (.int .i64 p1)] K w:=C_of Tryz.f134 zib _ h
def z7Z(p0:HT [.int .i64,.int .i64])(p1:Int)(K:Value→PT):PT:=
 L.new [.int .i64 p0.1,.int .i64 p0.2.1] zfS fun b1=>
 L.load eI6 (Ad6 b1 0) fun(x2:Int)=>
 L.ite (decide (p1≥x2)) (
  L.load eI6 (Ad6 b1 1) fun(x3:Int)=>
  K (.bool (decide (p1≤x3))))<|
 K (.bool false)
theorem zb0(p0:HT [.int .i64,.int .i64])(p1:Int)(h:z7Z p0 p1 K w):CV z1k [.ag [.int .i64 p0.1,.int .i64 p0.2.1],.v (.int .i64 p1)] K w:=C_of Tryz.f135 .auto _ h
theorem zg7:Enters Pr z1k:=z0p (by kernel_rfl)
def zi7:Ann:=(.seq .auto (.seq .auto (.seq .auto (.seq (.seq (.seq .auto (.cond .auto .auto) none) .auto (some [(16,(.one (.bool)))])) .auto none) none) none) none)
def zcX(p0:HT [.str,.str,.int .i64])(K:Value→PT):PT:=
 L.new [.string p0.1,.string p0.2.1,.int .i64 p0.2.2.1] z09 fun b1=>
 L.load eS6 (Ad6 b1 0) fun(x2:ByteArray)=>
 L.call Pr z4S [.string x2] (.tup [eS6,eI6,eB6]) fun(x3:ByteArray×Int×Bool×Unit)=>
 L.join (Y:=Bool×Unit) (fun k4=>
  L.load eS6 (Ad6 b1 0) fun(x6:ByteArray)=>
  L.ite (!(x6.toList == s_.toList)) (
   L.ite (!x3.2.2.1) (
    k4 (!x3.2.2.1,()))<|
   L.load eS6 (Ad6 b1 1) fun(x7:ByteArray)=>
   L.ite (!(x7.toList == s_.toList)) (
    L.load eS6 (Ad6 b1 1) fun(x8:ByteArray)=>
    L.call Pr z3P [.string x8] rB fun(x9:Bool)=>
    k4 (!x9,()))<|
   k4 (false,()))<|
  L.load eS6 (Ad6 b1 1) fun(x10:ByteArray)=>
  L.ite (!(x10.toList == s_.toList)) (
   L.load eS6 (Ad6 b1 1) fun(x11:ByteArray)=>
   L.call Pr z3P [.string x11] rB fun(x12:Bool)=>
   k4 (!x12,()))<|
  k4 (false,())) fun z5=>
 L.ite z5.1 (
  K (.int .i64 1))<|
 L.load eI6 (Ad6 b1 2) fun(x13:Int)=>
 L.callV Pr (.func (.func z1k) #[.agg #[.int .i64 0,.int .i64 100]] #[]) [.int .i64 x13] rB fun(x14:Bool)=>
 L.ite (!x14) (
  K (.int .i64 2))<|
 K (.int .i64 0)
theorem zhS(p0:HT [.str,.str,.int .i64])(h:zcX p0 K w):CV z9r [.ag [.string p0.1,.string p0.2.1,.int .i64 p0.2.2.1]] K w:=C_of Tryz.f136 zi7 _ h
def zmE:Ann:=(.seq .auto (.seq .auto (.seq (.seq .auto (.one [(3,(.one (.int .i64))),(8,(.one (.int .i64)))] (.seq .auto (.seq .auto (.seq (.seq .auto (.seq .auto (.seq .auto (.cond .auto .auto) none) none) none) .auto (some [(3,(.one (.int .i64)))])) none) none)) none) .auto none) none) none)
def zh6(p0:Sl)(K:Value→PT):PT:=
 L.loop (Y:=Int×Int×Unit) (0,0,()) fun y1 again2=>
 L.ite (decide (y1.2.1<((p0.len:Nat):Int))) (
  L.join (Y:=Int×Unit) (fun k3=>
   L.idx p0.a y1.2.1 p0.len 3 fun a5=>
   L.load (.agg [.str,.str,.int .i64]) a5 fun(x6:pt9)=>
   L.new [.string s_,.string s_,.int .i64 0] z09 fun b7=>
   L.store (⟨b7,0,none⟩) [.string x6.1,.string x6.2.1,.int .i64 x6.2.2.1]<|
   L.load eI6 (Ad6 b7 2) fun(x8:Int)=>
   L.load eS6 (Ad6 b7 1) fun(x9:ByteArray)=>
   L.ite (!(x9.toList == s_.toList)) (
    L.guard (0≤(0:Int)∧(0:Int)≤y1.2.1∧y1.2.1≤((p0.cap:Nat):Int)∧((p0.cap:Nat):Int)≤p0.cap)<|
    L.call Pr z1f [.slice (if Int.toNat ((p0.cap:Nat):Int)=Int.toNat (0:Int)then p0.a else Option.map (fun a:Addr=>a.add (Int.toNat (0:Int)*3)) p0.a) (Int.toNat y1.2.1-Int.toNat (0:Int)) (Int.toNat ((p0.cap:Nat):Int)-Int.toNat (0:Int)),.func (.func z5N) #[] #[.pointer (some (⟨b7,0,none⟩))]] rB fun(x10:Bool)=>
    L.ite x10 (
     K (.int .i64 5))<|
    k3 (IntKind.wrap .i64 (y1.1+x8),()))<|
   k3 (IntKind.wrap .i64 (y1.1+x8),())) fun z4=>
  again2 (z4.1,IntKind.wrap .i64 (y1.2.1+1),()))<|
 L.ite (y1.1 != 100) (
  K (.int .i64 4))<|
 K (.int .i64 0)
theorem zmx(p0:Sl)(h:zh6 p0 K w):CV zdJ [.v (.slice p0.a p0.len p0.cap)] K w:=C_of Tryz.f137 zmE _ h
def z8j:Ann:=(.seq .auto (.seq .auto (.seq (.seq .auto (.cond .auto (.seq .auto (.cond .auto .auto) none)) none) .auto (some [])) none) none)
def z4J(p0:Option Addr)(p1:ByteArray)(p2:Int)(p3:Bool)(K:Value→PT):PT:=
 L.nonnil p0 fun a1=>
 L.load (.one (.map)) (a1.add 0) fun(x2:Option Nat)=>
 L.semR Pr (.one (.agg lf9)) (Instr.lookup z0t (.map x2) (.string p1) false) fun(x3:pt19)=>
 L.new [.string s_,.int .i64 0,.int .i64 0,.int .i64 0,.int .i64 0,.int .i64 0,.int .i64 0,.int .i64 0,.bool false] z0f fun b4=>
 L.store (⟨b4,0,none⟩) [.string x3.1,.int .i64 x3.2.1,.int .i64 x3.2.2.1,.int .i64 x3.2.2.2.1,.int .i64 x3.2.2.2.2.1,.int .i64 x3.2.2.2.2.2.1,.int .i64 x3.2.2.2.2.2.2.1,.int .i64 x3.2.2.2.2.2.2.2.1,.bool x3.2.2.2.2.2.2.2.2.1]<|
 L.join (Y:=Unit) (fun k5=>
  L.ite p3 (
   L.ite (p2 == 0) (
    L.load eB6 (Ad6 b4 8) fun(x7:Bool)=>
    L.ite x7 (
     K (.int .i64 5))<|
    L.ite p3 (
     L.ite (p2 == 0) (
      K (.int .i64 0))<|
     L.load eB6 (Ad6 b4 8) fun(x8:Bool)=>
     L.ite (!x8) (
      K (.int .i64 6))<|
     L.load eI6 (Ad6 b4 6) fun(x9:Int)=>
     L.ite (x9 != p2) (
      K (.int .i64 7))<|
     k5 (()))<|
    L.load eB6 (Ad6 b4 8) fun(x10:Bool)=>
    L.ite (!x10) (
     K (.int .i64 6))<|
    L.load eI6 (Ad6 b4 6) fun(x11:Int)=>
    L.ite (x11 != p2) (
     K (.int .i64 7))<|
    k5 (()))<|
   L.ite p3 (
    L.ite (p2 == 0) (
     K (.int .i64 0))<|
    L.load eB6 (Ad6 b4 8) fun(x12:Bool)=>
    L.ite (!x12) (
     K (.int .i64 6))<|
    L.load eI6 (Ad6 b4 6) fun(x13:Int)=>
    L.ite (x13 != p2) (
     K (.int .i64 7))<|
    k5 (()))<|
   L.load eB6 (Ad6 b4 8) fun(x14:Bool)=>
   L.ite (!x14) (
    K (.int .i64 6))<|
   L.load eI6 (Ad6 b4 6) fun(x15:Int)=>
   L.ite (x15 != p2) (
    K (.int .i64 7))<|
   k5 (()))<|
  L.ite p3 (
   L.ite (p2 == 0) (
    K (.int .i64 0))<|
   L.load eB6 (Ad6 b4 8) fun(x16:Bool)=>
   L.ite (!x16) (
    K (.int .i64 6))<|
   L.load eI6 (Ad6 b4 6) fun(x17:Int)=>
   L.ite (x17 != p2) (
    K (.int .i64 7))<|
   k5 (()))<|
  L.load eB6 (Ad6 b4 8) fun(x18:Bool)=>
  L.ite (!x18) (
   K (.int .i64 6))<|
  L.load eI6 (Ad6 b4 6) fun(x19:Int)=>
  L.ite (x19 != p2) (
   K (.int .i64 7))<|
  k5 (())) fun z6=>
 K (.int .i64 0)
theorem z8f(p0:Option Addr)(p1:ByteArray)(p2:Int)(p3:Bool)(h:z4J p0 p1 p2 p3 K w):CV z2X [.v (.pointer p0),.v (.string p1),.v (.int .i64 p2),.v (.bool p3)] K w:=C_of Tryz.f142 z8j _ h
def z8i:Ann:=(.seq .auto (.seq .auto (.seq .auto .auto (some [])) none) none)
def z4I(p0:Option Addr)(p1:ByteArray)(p2:ht0)(p3:Int)(K:Value→PT):PT:=
 L.new [.string p2.1,.int .i64 p2.2.1,.int .i64 p2.2.2.1,.int .i64 p2.2.2.2.1,.int .i64 p2.2.2.2.2.1,.int .i64 p2.2.2.2.2.2.1] z05 fun b1=>
 L.nonnil p0 fun a2=>
 L.load (.one (.map)) (a2.add 0) fun(x3:Option Nat)=>
 L.semR Pr (.one (.agg lf9)) (Instr.lookup z0t (.map x3) (.string p1) false) fun(x4:pt19)=>
 L.new [.string s_,.int .i64 0,.int .i64 0,.int .i64 0,.int .i64 0,.int .i64 0,.int .i64 0,.int .i64 0,.bool false] z0f fun b5=>
 L.store (⟨b5,0,none⟩) [.string x4.1,.int .i64 x4.2.1,.int .i64 x4.2.2.1,.int .i64 x4.2.2.2.1,.int .i64 x4.2.2.2.2.1,.int .i64 x4.2.2.2.2.2.1,.int .i64 x4.2.2.2.2.2.2.1,.int .i64 x4.2.2.2.2.2.2.2.1,.bool x4.2.2.2.2.2.2.2.2.1]<|
 L.join (Y:=Unit) (fun k6=>
  L.draw<|
  L.load eB6 (Ad6 b5 8) fun(x8:Bool)=>
  L.ite (!x8) (
   L.load eI6 (Ad6 b5 7) fun(x9:Int)=>
   L.store (Ad6 b5 7) [.int .i64 (IntKind.wrap .i64 (x9+1))]<|
   k6 (()))<|
  L.nonnil p0 fun a10=>
  L.load (.one (.func)) (a10.add 1) fun(x11:FV)=>
  L.load (.agg lf0) (Ad6 b5 0) fun(x12:pt0)=>
  L.load (.agg lf0) (⟨b1,0,none⟩) fun(x13:pt0)=>
  L.callV Pr (.func x11.fn x11.fs x11.cs) [(qa0 x12),(qa0 x13)] rB fun(x14:Bool)=>
  L.ite (!x14) (
   L.load eI6 (Ad6 b5 7) fun(x15:Int)=>
   L.store (Ad6 b5 7) [.int .i64 (IntKind.wrap .i64 (x15+1))]<|
   k6 (()))<|
  k6 (())) fun z7=>
 L.draw<|
 L.nonnil p0 fun a16=>
 L.load (.one (.map)) (a16.add 0) fun(x17:Option Nat)=>
 L.load (.agg lf0) (⟨b1,0,none⟩) fun(x18:pt0)=>
 L.load eI6 (Ad6 b5 7) fun(x19:Int)=>
 L.semU Pr (Instr.mapUpdate z0t (.map x17) (.string p1) (.agg #[.string x18.1,.int .i64 x18.2.1,.int .i64 x18.2.2.1,.int .i64 x18.2.2.2.1,.int .i64 x18.2.2.2.2.1,.int .i64 x18.2.2.2.2.2.1,.int .i64 p3,.int .i64 x19,.bool true]))<|
 K (.tuple #[])
theorem z8e(p0:Option Addr)(p1:ByteArray)(p2:ht0)(p3:Int)(h:z4I p0 p1 p2 p3 K w):CV z2W [.v (.pointer p0),.v (.string p1),.ag (qc0 p2),.v (.int .i64 p3)] K w:=C_of Tryz.f143 z8i _ h
def z8t:Ann:=(.seq .auto (.seq .auto (.seq (.seq .auto (.cond .auto (.seq .auto (.cond .auto .auto) none)) none) .auto (some [])) none) none)
def z59(p0:Option Addr)(p1:ByteArray)(p2:Int)(p3:Bool)(K:Value→PT):PT:=
 L.nonnil p0 fun a1=>
 L.load (.one (.map)) (a1.add 0) fun(x2:Option Nat)=>
 L.semR Pr (.one (.agg lf10)) (Instr.lookup z0B (.map x2) (.string p1) false) fun(x3:pt20)=>
 L.new [.string s_,.string s_,.slice none 0 0,.int .i64 0,.int .i64 0,.int .i64 0,.bool false] z0l fun b4=>
 L.store (⟨b4,0,none⟩) [.string x3.1,.string x3.2.1,Sv6 x3.2.2.1,.int .i64 x3.2.2.2.1,.int .i64 x3.2.2.2.2.1,.int .i64 x3.2.2.2.2.2.1,.bool x3.2.2.2.2.2.2.1]<|
 L.join (Y:=Unit) (fun k5=>
  L.ite p3 (
   L.ite (p2 == 0) (
    L.load eB6 (Ad6 b4 6) fun(x7:Bool)=>
    L.ite x7 (
     K (.int .i64 5))<|
    L.ite p3 (
     L.ite (p2 == 0) (
      K (.int .i64 0))<|
     L.load eB6 (Ad6 b4 6) fun(x8:Bool)=>
     L.ite (!x8) (
      K (.int .i64 6))<|
     L.load eI6 (Ad6 b4 4) fun(x9:Int)=>
     L.ite (x9 != p2) (
      K (.int .i64 7))<|
     k5 (()))<|
    L.load eB6 (Ad6 b4 6) fun(x10:Bool)=>
    L.ite (!x10) (
     K (.int .i64 6))<|
    L.load eI6 (Ad6 b4 4) fun(x11:Int)=>
    L.ite (x11 != p2) (
     K (.int .i64 7))<|
    k5 (()))<|
   L.ite p3 (
    L.ite (p2 == 0) (
     K (.int .i64 0))<|
    L.load eB6 (Ad6 b4 6) fun(x12:Bool)=>
    L.ite (!x12) (
     K (.int .i64 6))<|
    L.load eI6 (Ad6 b4 4) fun(x13:Int)=>
    L.ite (x13 != p2) (
     K (.int .i64 7))<|
    k5 (()))<|
   L.load eB6 (Ad6 b4 6) fun(x14:Bool)=>
   L.ite (!x14) (
    K (.int .i64 6))<|
   L.load eI6 (Ad6 b4 4) fun(x15:Int)=>
   L.ite (x15 != p2) (
    K (.int .i64 7))<|
   k5 (()))<|
  L.ite p3 (
   L.ite (p2 == 0) (
    K (.int .i64 0))<|
   L.load eB6 (Ad6 b4 6) fun(x16:Bool)=>
   L.ite (!x16) (
    K (.int .i64 6))<|
   L.load eI6 (Ad6 b4 4) fun(x17:Int)=>
   L.ite (x17 != p2) (
    K (.int .i64 7))<|
   k5 (()))<|
  L.load eB6 (Ad6 b4 6) fun(x18:Bool)=>
  L.ite (!x18) (
   K (.int .i64 6))<|
  L.load eI6 (Ad6 b4 4) fun(x19:Int)=>
  L.ite (x19 != p2) (
   K (.int .i64 7))<|
  k5 (())) fun z6=>
 K (.int .i64 0)
theorem z8n(p0:Option Addr)(p1:ByteArray)(p2:Int)(p3:Bool)(h:z59 p0 p1 p2 p3 K w):CV z3g [.v (.pointer p0),.v (.string p1),.v (.int .i64 p2),.v (.bool p3)] K w:=C_of Tryz.f144 z8t _ h
def z8s:Ann:=(.seq .auto (.seq .auto (.seq .auto .auto (some [])) none) none)
def z58(p0:Option Addr)(p1:ByteArray)(p2:ht2)(p3:Int)(K:Value→PT):PT:=
 L.new [.string p2.1,.string p2.2.1,Sv6 p2.2.2.1,.int .i64 p2.2.2.2.1] z0r fun b1=>
 L.nonnil p0 fun a2=>
 L.load (.one (.map)) (a2.add 0) fun(x3:Option Nat)=>
 L.semR Pr (.one (.agg lf10)) (Instr.lookup z0B (.map x3) (.string p1) false) fun(x4:pt20)=>
 L.new [.string s_,.string s_,.slice none 0 0,.int .i64 0,.int .i64 0,.int .i64 0,.bool false] z0l fun b5=>
 L.store (⟨b5,0,none⟩) [.string x4.1,.string x4.2.1,Sv6 x4.2.2.1,.int .i64 x4.2.2.2.1,.int .i64 x4.2.2.2.2.1,.int .i64 x4.2.2.2.2.2.1,.bool x4.2.2.2.2.2.2.1]<|
 L.join (Y:=Unit) (fun k6=>
  L.draw<|
  L.load eB6 (Ad6 b5 6) fun(x8:Bool)=>
  L.ite (!x8) (
   L.load eI6 (Ad6 b5 5) fun(x9:Int)=>
   L.store (Ad6 b5 5) [.int .i64 (IntKind.wrap .i64 (x9+1))]<|
   k6 (()))<|
  L.nonnil p0 fun a10=>
  L.load (.one (.func)) (a10.add 1) fun(x11:FV)=>
  L.load (.agg [.str,.str,.slice,.int .i64]) (Ad6 b5 0) fun(x12:pt3)=>
  L.load (.agg [.str,.str,.slice,.int .i64]) (⟨b1,0,none⟩) fun(x13:pt3)=>
  L.callV Pr (.func x11.fn x11.fs x11.cs) [.agg #[.string x12.1,.string x12.2.1,Sv6 x12.2.2.1,.int .i64 x12.2.2.2.1],.agg #[.string x13.1,.string x13.2.1,Sv6 x13.2.2.1,.int .i64 x13.2.2.2.1]] rB fun(x14:Bool)=>
  L.ite (!x14) (
   L.load eI6 (Ad6 b5 5) fun(x15:Int)=>
   L.store (Ad6 b5 5) [.int .i64 (IntKind.wrap .i64 (x15+1))]<|
   k6 (()))<|
  k6 (())) fun z7=>
 L.draw<|
 L.nonnil p0 fun a16=>
 L.load (.one (.map)) (a16.add 0) fun(x17:Option Nat)=>
 L.load (.agg [.str,.str,.slice,.int .i64]) (⟨b1,0,none⟩) fun(x18:pt3)=>
 L.load eI6 (Ad6 b5 5) fun(x19:Int)=>
 L.semU Pr (Instr.mapUpdate z0B (.map x17) (.string p1) (.agg #[.string x18.1,.string x18.2.1,Sv6 x18.2.2.1,.int .i64 x18.2.2.2.1,.int .i64 p3,.int .i64 x19,.bool true]))<|
 K (.tuple #[])
theorem z8m(p0:Option Addr)(p1:ByteArray)(p2:ht2)(p3:Int)(h:z58 p0 p1 p2 p3 K w):CV z3f [.v (.pointer p0),.v (.string p1),.ag (qc2 p2),.v (.int .i64 p3)] K w:=C_of Tryz.f145 z8s _ h
def zg0(p0:ht2)(K:Value→PT):PT:=
 L.new [.string p0.1,.string p0.2.1,Sv6 p0.2.2.1,.int .i64 p0.2.2.2.1] z0r fun b1=>
 L.new [.string s_,.string s_,.slice none 0 0,.int .i64 0] z0r fun b2=>
 L.load eL6 (Ad6 b1 2) fun(x3:Sl)=>
 L.call Pr z1G [Sv6 x3] rL fun(x4:Sl)=>
 L.store (Ad6 b1 2) [Sv6 x4]<|
 L.load (.agg [.str,.str,.slice,.int .i64]) (⟨b1,0,none⟩) fun(x5:pt3)=>
 L.store (⟨b2,0,none⟩) [.string x5.1,.string x5.2.1,Sv6 x5.2.2.1,.int .i64 x5.2.2.2.1]<|
 L.load (.agg [.str,.str,.slice,.int .i64]) (⟨b2,0,none⟩) fun(x6:pt3)=>
 K (.agg #[.string x6.1,.string x6.2.1,Sv6 x6.2.2.1,.int .i64 x6.2.2.2.1])
theorem zkj(p0:ht2)(h:zg0 p0 K w):CV z9s [.ag (qc2 p0)] K w:=C_of Tryz.f146 .auto _ h
def z6T(p0:Option Addr)(p1:ByteArray)(K:Value→PT):PT:=
 L.new [.slice none 0 0,.slice none 0 0] z04 fun b1=>
 L.nonnil p0 fun a2=>
 L.load eP6 (a2.add 2) fun(x3:Option Addr)=>
 L.call Pr z5B [.pointer x3,.string p1] (.tup [(.agg [.slice,.slice]),eB6]) fun(x4:(Sl×Sl×Unit)×Bool×Unit)=>
 L.store (⟨b1,0,none⟩) [Sv6 x4.1.1,Sv6 x4.1.2.1]<|
 L.load (.agg [.slice,.slice]) (⟨b1,0,none⟩) fun(x5:Sl×Sl×Unit)=>
 K (.tuple #[.agg #[Sv6 x5.1,Sv6 x5.2.1],.bool x4.2.1])
theorem zaY(p0:Option Addr)(p1:ByteArray)(h:z6T p0 p1 K w):CV z6K [.v (.pointer p0),.v (.string p1)] K w:=C_of Tryz.f149 .auto _ h
def zjF:Ann:=(.seq .auto (.seq .auto (.seq (.seq .auto (.one [(1,(.one (.int .i64))),(14,(.one (.int .i64)))] .auto) none) .auto none) none) none)
def zed(p0:HT [.slice,.slice])(p1:Int)(K:Value→PT):PT:=
 L.new [Sv6 p0.1,Sv6 p0.2.1] z04 fun b1=>
 L.guard (100≠(0:Int))<|
 L.guard (100≠(0:Int))<|
 L.load eL6 (Ad6 b1 0) fun(x2:Sl)=>
 L.loop (Y:=Int×Int×Unit) (Int.tmod (IntKind.wrap .i64 ((Int.tmod p1 100)+100)) 100,0,()) fun y3 again4=>
 L.ite (decide (y3.2.1<((x2.len:Nat):Int))) (
  L.idx x2.a y3.2.1 x2.len 2 fun a5=>
  L.load (.agg [.str,.int .i64]) a5 fun(x6:ByteArray×Int×Unit)=>
  L.new [.string s_,.int .i64 0] z0v fun b7=>
  L.store (⟨b7,0,none⟩) [.string x6.1,.int .i64 x6.2.1]<|
  L.load eI6 (Ad6 b7 1) fun(x8:Int)=>
  L.ite (decide (y3.1<x8)) (
   L.load eS6 (Ad6 b7 0) fun(x9:ByteArray)=>
   K (.string x9))<|
  L.load eI6 (Ad6 b7 1) fun(x10:Int)=>
  again4 (IntKind.wrap .i64 (y3.1-x10),IntKind.wrap .i64 (y3.2.1+1),()))<|
 K (.string s_)
theorem zjt(p0:HT [.slice,.slice])(p1:Int)(h:zed p0 p1 K w):CV zas [.ag [.slice p0.1.a p0.1.len p0.1.cap,.slice p0.2.1.a p0.2.1.len p0.2.1.cap],.v (.int .i64 p1)] K w:=C_of Tryz.f150 zjF _ h
def zi4:Ann:=(.seq .auto (.seq (.seq .auto (.one [(11,(.one (.int .i64)))] .auto) none) .auto none) none)
def zcU(p0:HT [.slice,.slice])(p1:ByteArray)(K:Value→PT):PT:=
 L.new [Sv6 p0.1,Sv6 p0.2.1] z04 fun b1=>
 L.load eL6 (Ad6 b1 1) fun(x2:Sl)=>
 L.loop (Y:=Int×Unit) (0,()) fun y3 again4=>
 L.ite (decide (y3.1<((x2.len:Nat):Int))) (
  L.idx x2.a y3.1 x2.len 2 fun a5=>
  L.load (.agg [.str,.str]) a5 fun(x6:ByteArray×ByteArray×Unit)=>
  L.new [.string s_,.string s_] z3t fun b7=>
  L.store (⟨b7,0,none⟩) [.string x6.1,.string x6.2.1]<|
  L.load eS6 (Ad6 b7 0) fun(x8:ByteArray)=>
  L.ite (x8.toList == p1.toList) (
   L.load eS6 (Ad6 b7 1) fun(x9:ByteArray)=>
   K (.tuple #[.string x9,.bool true]))<|
  again4 (IntKind.wrap .i64 (y3.1+1),()))<|
 K (.tuple #[.string s_,.bool false])
theorem zhP(p0:HT [.slice,.slice])(p1:ByteArray)(h:zcU p0 p1 K w):CV z9p [.ag [.slice p0.1.a p0.1.len p0.1.cap,.slice p0.2.1.a p0.2.1.len p0.2.1.cap],.v (.string p1)] K w:=C_of Tryz.f151 zi4 _ h
def za0(p0:Option Addr)(p1:Int)(K:Value→PT):PT:=
 L.nonnil p0 fun a1=>
 L.load (.one (.map)) (a1.add 1) fun(x2:Option Nat)=>
 L.semR Pr (.tup [(.agg [.str,.int .i64]),.one .bool]) (Instr.lookup z2i (.map x2) (.int .i64 p1) true) fun(x3:pt21)=>
 L.new [.string s_,.int .i64 0] z0U fun b4=>
 L.store (⟨b4,0,none⟩) [.string x3.1.1,.int .i64 x3.1.2.1]<|
 K (.bool x3.2.1)
theorem zeD(p0:Option Addr)(p1:Int)(h:za0 p0 p1 K w):CV z7b [.v (.pointer p0),.v (.int .i64 p1)] K w:=C_of Tryz.f152 .auto _ h
def zha(p0:ByteArray)(K:Value→PT):PT:=
 L.new [.int .i64 0,.int .i64 0,.int .i64 0,.string s_] z0b fun b1=>
 L.store (⟨b1,0,none⟩) [.int .i64 0,.int .i64 4,.int .i64 0,.string p0]<|
 L.load (.agg [.int .i64,.int .i64,.int .i64,.str]) (⟨b1,0,none⟩) fun(x2:pt10)=>
 K (.agg #[.int .i64 x2.1,.int .i64 x2.2.1,.int .i64 x2.2.2.1,.string x2.2.2.2.1])
theorem zmB(p0:ByteArray)(h:zha p0 K w):CV z6x [.v (.string p0)] K w:=C_of Tryz.f153 .auto _ h
def zaM(p0:Option Addr)(p1:Int)(p2:ByteArray)(p3:ht3)(K:Value→PT):PT:=
 L.new [.int .i64 p3.1,.int .i64 p3.2.1,.int .i64 p3.2.2.1,.string p3.2.2.2.1] z0b fun b1=>
 L.new [.int .i64 0,.int .i64 0,.int .i64 0,.string s_] z0b fun b2=>
 L.store (Ad6 b1 0) [.int .i64 p1]<|
 L.draw<|
 L.nonnil p0 fun a3=>
 L.load (.one (.map)) (a3.add 1) fun(x4:Option Nat)=>
 L.load eI6 (Ad6 b1 1) fun(x5:Int)=>
 L.semU Pr (Instr.mapUpdate z2i (.map x4) (.int .i64 p1) (.agg #[.string p2,.int .i64 x5]))<|
 L.load (.agg [.int .i64,.int .i64,.int .i64,.str]) (⟨b1,0,none⟩) fun(x6:pt10)=>
 L.store (⟨b2,0,none⟩) [.int .i64 x6.1,.int .i64 x6.2.1,.int .i64 x6.2.2.1,.string x6.2.2.2.1]<|
 L.load (.agg [.int .i64,.int .i64,.int .i64,.str]) (⟨b2,0,none⟩) fun(x7:pt10)=>
 K (.agg #[.int .i64 x7.1,.int .i64 x7.2.1,.int .i64 x7.2.2.1,.string x7.2.2.2.1])
theorem zgf(p0:Option Addr)(p1:Int)(p2:ByteArray)(p3:ht3)(h:zaM p0 p1 p2 p3 K w):CV z1t [.v (.pointer p0),.v (.int .i64 p1),.v (.string p2),.ag (qc3 p3)] K w:=C_of Tryz.f154 .auto _ h
def z9m:Ann:=(.seq .auto (.seq .auto .auto (some [])) none)
def z5P(p0:Option Addr)(p1:ByteArray)(K:Value→PT):PT:=
 L.join (Y:=Unit) (fun k1=>
  L.nonnil p0 fun a3=>
  L.load (.one (.map)) (a3.add 0) fun(x4:Option Nat)=>
  L.semR Pr (.tup [eP6,.one .bool]) (Instr.lookup z0J (.map x4) (.string p1) true) fun(x5:Option Addr×Bool×Unit)=>
  L.ite (!x5.2.1) (
   L.draw<|
   L.nonnil p0 fun a6=>
   L.load (.one (.map)) (a6.add 0) fun(x7:Option Nat)=>
   L.nonnil p0 fun a8=>
   L.load (.one (.func)) (a8.add 1) fun(x9:FV)=>
   L.callV Pr (.func x9.fn x9.fs x9.cs) [] rP fun(x10:Option Addr)=>
   L.chk (a6.add 0) [.map x7]<|
   L.semU Pr (Instr.mapUpdate z0J (.map x7) (.string p1) (.pointer x10))<|
   k1 (()))<|
  k1 (())) fun z2=>
 L.nonnil p0 fun a11=>
 L.load (.one (.map)) (a11.add 0) fun(x12:Option Nat)=>
 L.semR Pr rP (Instr.lookup z0J (.map x12) (.string p1) false) fun(x13:Option Addr)=>
 K (.pointer x13)
theorem z9l(p0:Option Addr)(p1:ByteArray)(h:z5P p0 p1 K w):CV z2C [.v (.pointer p0),.v (.string p1)] K w:=C_of Tryz.f155 z9m _ h
def zaH(p0:Option Addr)(K:Value→PT):PT:=
 L.nonnil p0 fun a1=>
 L.load eL6 ((a1.add 0).add 0) fun(x2:Sl)=>
 K (.int .i64 ((x2.len:Nat):Int))
theorem zga(p0:Option Addr)(h:zaH p0 K w):CV z4x [.v (.pointer p0)] K w:=C_of Tryz.f156 .auto _ h
def z9Y(p0:Option Addr)(p1:Int)(p2:ByteArray)(K:Value→PT):PT:=
 L.new [.int .i64 0,.int .i64 0,.int .i64 0,.string s_] z0b fun b1=>
 L.nonnil p0 fun a2=>
 L.load eP6 (a2.add 0) fun(x3:Option Addr)=>
 L.call Pr z69 [.pointer x3,.string p2,.int .i64 p1] (.tup [eI6,eB6]) fun(x4:Int×Bool×Unit)=>
 L.ite (!x4.2.1) (
  L.store (⟨b1,0,none⟩) [.int .i64 0,.int .i64 0,.int .i64 0,.string s_]<|
  L.load (.agg [.int .i64,.int .i64,.int .i64,.str]) (⟨b1,0,none⟩) fun(x5:pt10)=>
  K (.tuple #[.agg #[.int .i64 x5.1,.int .i64 x5.2.1,.int .i64 x5.2.2.1,.string x5.2.2.2.1],.bool false]))<|
 L.call Pr z1t [.pointer p0,.int .i64 p1,.string p2,.agg #[.int .i64 0,.int .i64 1,.int .i64 x4.1,.string s_]] (.one (.agg [.int .i64,.int .i64,.int .i64,.str])) fun(x6:pt10)=>
 L.store (⟨b1,0,none⟩) [.int .i64 x6.1,.int .i64 x6.2.1,.int .i64 x6.2.2.1,.string x6.2.2.2.1]<|
 L.load (.agg [.int .i64,.int .i64,.int .i64,.str]) (⟨b1,0,none⟩) fun(x7:pt10)=>
 K (.tuple #[.agg #[.int .i64 x7.1,.int .i64 x7.2.1,.int .i64 x7.2.2.1,.string x7.2.2.2.1],.bool true])
theorem zeB(p0:Option Addr)(p1:Int)(p2:ByteArray)(h:z9Y p0 p1 p2 K w):CV z5v [.v (.pointer p0),.v (.int .i64 p1),.v (.string p2)] K w:=C_of Tryz.f157 .auto _ h
def z9S(p0:Option Addr)(p1 p2:Int)(K:Value→PT):PT:=
 L.nonnil p0 fun a1=>
 L.call Pr z5Y [.pointer (some (a1.add 0)),.int .i64 p1] rB fun(x2:Bool)=>
 L.ite x2 (
  K (.int .i64 5))<|
 L.draw<|
 L.nonnil p0 fun a3=>
 L.load eI6 (a3.add 1) fun(x4:Int)=>
 L.call Pr z4x [.pointer p0] rI fun(x5:Int)=>
 L.chk (a3.add 1) [.int .i64 x4]<|
 L.ite (decide (x5≥x4)) (
  K (.int .i64 8))<|
 L.nonnil p0 fun a6=>
 L.load eL6 ((a6.add 0).add 0) fun(x7:Sl)=>
 L.new [.int .i64 p1,.int .i64 p2] z2x fun b8=>
 L.sem Pr (.one (.one .slice)) (Builtin.append_ #[z1n,z1n] z1n #[Sv6 x7,.slice (some ⟨b8,0,none⟩) 1 1]) fun(s9:Sl)=>
 L.nonnil p0 fun a10=>
 L.store ((a10.add 0).add 0) [Sv6 s9]<|
 K (.int .i64 0)
theorem zeu(p0:Option Addr)(p1 p2:Int)(h:z9S p0 p1 p2 K w):CV z5u [.v (.pointer p0),.v (.int .i64 p1),.v (.int .i64 p2)] K w:=C_of Tryz.f158 .auto _ h
def zbC(p0:Sl)(K:Value→PT):PT:=
 L.new [Sv6 p0] z0d fun b1=>
 K (.func (.func z42) #[] #[.pointer (some (⟨b1,0,none⟩))])
theorem zgl(p0:Sl)(h:zbC p0 K w):CV zbA [.v (.slice p0.a p0.len p0.cap)] K w:=C_of Tryz.f159 .auto _ h
def z8R(p0:Option Addr)(p1:Int)(K:Value→PT):PT:=
 L.nonnil p0 fun a1=>
 L.load (.one (.map)) (a1.add 1) fun(x2:Option Nat)=>
 L.semR Pr (.tup [eI6,.one .bool]) (Instr.lookup z4Y (.map x2) (.int .i64 p1) true) fun(x3:Int×Bool×Unit)=>
 L.ite (!x3.2.1) (
  K (.tuple #[.string s_,.int .i64 6]))<|
 L.nonnil p0 fun a4=>
 L.load (.one (.map)) (a4.add 0) fun(x5:Option Nat)=>
 L.semR Pr (.one (.agg [.str,.ptr])) (Instr.lookup z0u (.map x5) (.int .i64 x3.1) false) fun(x6:ByteArray×Option Addr×Unit)=>
 L.new [.string s_,.pointer none] z5H fun b7=>
 L.store (⟨b7,0,none⟩) [.string x6.1,.pointer x6.2.1]<|
 L.load eP6 (Ad6 b7 1) fun(x8:Option Addr)=>
 L.call Pr z6D [.pointer x8,.int .i64 p1] rI fun(x9:Int)=>
 L.nonnil p0 fun a10=>
 L.load (.one (.map)) (a10.add 1) fun(x11:Option Nat)=>
 L.sem Pr (.tup []) (Builtin.delete_ #[z4Y,z0g] T_ #[.map x11,.int .i64 p1]) fun _=>
 L.call Pr z4T [.pointer p0,.int .i64 x3.1] (.tup []) fun(x12:Unit)=>
 L.load eS6 (Ad6 b7 0) fun(x13:ByteArray)=>
 K (.tuple #[.string x13,.int .i64 0])
theorem zdp(p0:Option Addr)(p1:Int)(h:z8R p0 p1 K w):CV z6b [.v (.pointer p0),.v (.int .i64 p1)] K w:=C_of Tryz.f160 .auto _ h
def zej(p0:Option Addr)(K:Value→PT):PT:=
 L.nonnil p0 fun a1=>
 L.load eI6 (a1.add 0) fun(x2:Int)=>
 L.ite (x2 != 1) (
  K (.int .i64 9))<|
 L.nonnil p0 fun a3=>
 L.store (a3.add 0) [.int .i64 2]<|
 K (.int .i64 0)
theorem zjz(p0:Option Addr)(h:zej p0 K w):CV zat [.v (.pointer p0)] K w:=C_of Tryz.f161 .auto _ h
def zgg:Ann:=(.seq .auto (.seq (.seq .auto (.seq .auto .auto (some [(9,(.one (.int .i64))),(10,(.one (.int .i64)))])) none) .auto none) none)
def zaG(p0:Option Addr)(K:Value→PT):PT:=
 L.new [.pointer p0] z3V fun b1=>
 L.new [.int .i64 0] z0g fun b2=>
 L.new [.bool false] z6P fun b3=>
 L.load eP6 (⟨b1,0,none⟩) fun(x4:Option Addr)=>
 L.nonnil x4 fun a5=>
 L.call Pr z2k [.pointer (some (a5.add 0))] (.one (.one (.func))) fun(x6:FV)=>
 L.range Pr none (.func x6.fn x6.fs x6.cs) [eI6,eI6] (fun l7(y8:Int×Int×Unit) R9=>
  L.begin Pr l7<|
  L.draw<|
  L.load eP6 (⟨b1,0,none⟩) fun(x12:Option Addr)=>
  L.load eP6 (⟨b1,0,none⟩) fun(x13:Option Addr)=>
  L.nonnil x13 fun a14=>
  L.load eL6 ((a14.add 0).add 0) fun(x15:Sl)=>
  L.guard (0≤(1:Int)∧(1:Int)≤((x15.len:Nat):Int)∧((x15.len:Nat):Int)≤((x15.cap:Nat):Int)∧((x15.cap:Nat):Int)≤x15.cap)<|
  L.nonnil x12 fun a16=>
  L.store ((a16.add 0).add 0) [.slice (if Int.toNat ((x15.cap:Nat):Int)=Int.toNat (1:Int)then x15.a else Option.map (fun a:Addr=>a.add (Int.toNat (1:Int)*2)) x15.a) (Int.toNat ((x15.len:Nat):Int)-Int.toNat (1:Int)) (Int.toNat ((x15.cap:Nat):Int)-Int.toNat (1:Int))]<|
  L.store (⟨b2,0,none⟩) [.int .i64 y8.1]<|
  L.store (⟨b3,0,none⟩) [.bool true]<|
  L.endRound Pr l7 (some .ret) R9) fun d10 j11=>
 L.jump j11 (
  L.store (⟨b2,0,none⟩) [.int .i64 0]<|
  L.store (⟨b3,0,none⟩) [.bool false]<|
  L.unmark Pr (d10++[])<|
  L.load eI6 (⟨b2,0,none⟩) fun(x17:Int)=>
  L.load eB6 (⟨b3,0,none⟩) fun(x18:Bool)=>
  K (.tuple #[.int .i64 x17,.bool x18])) (
  L.unmark Pr (d10++[])<|
  L.load eI6 (⟨b2,0,none⟩) fun(x19:Int)=>
  L.load eB6 (⟨b3,0,none⟩) fun(x20:Bool)=>
  K (.tuple #[.int .i64 x19,.bool x20])) []
theorem zg9(p0:Option Addr)(h:zaG p0 K w):CV z7L [.v (.pointer p0)] K w:=C_of Tryz.f162 zgg _ h
def z3b(p0:Sl)(K:Value→PT):PT:=
 L.ite ((p0.a).isNone) (
  K (.slice none 0 0))<|
 L.new [] z0b fun b1=>
 L.sem Pr (.one (.one .slice)) (Builtin.append_ #[z0d,z0d] z0d #[.slice (some ⟨b1,0,none⟩) 0 0,Sv6 p0]) fun(s2:Sl)=>
 K (.slice s2.a s2.len s2.cap)
theorem z5R(p0:Sl)(h:z3b p0 K w):CV z1m [.v (.slice p0.a p0.len p0.cap)] K w:=C_of Tryz.f163 .auto _ h
def z9i(p0:Option Addr)(p1:Int)(K:Value→PT):PT:=
 L.nonnil p0 fun a1=>
 L.load (.one (.map)) (a1.add 0) fun(x2:Option Nat)=>
 L.semR Pr (.one (.agg [.str,.ptr])) (Instr.lookup z0u (.map x2) (.int .i64 p1) false) fun(x3:ByteArray×Option Addr×Unit)=>
 L.call Pr z1r [.pointer x3.2.1] rI fun(x4:Int)=>
 L.ite (x4 == 4) (
  L.nonnil p0 fun a5=>
  L.load (.one (.map)) (a5.add 0) fun(x6:Option Nat)=>
  L.sem Pr (.tup []) (Builtin.delete_ #[z0u,z0g] T_ #[.map x6,.int .i64 p1]) fun _=>
  K (.tuple #[]))<|
 K (.tuple #[])
theorem zdZ(p0:Option Addr)(p1:Int)(h:z9i p0 p1 K w):CV z4T [.v (.pointer p0),.v (.int .i64 p1)] K w:=C_of Tryz.f165 .auto _ h
def z5b(p0:Option Addr)(K:Value→PT):PT:=
 L.new [.pointer p0] z0E fun b1=>
 K (.func (.func z1p) #[] #[.pointer (some (⟨b1,0,none⟩))])
theorem z8p(p0:Option Addr)(h:z5b p0 K w):CV z55 [.v (.pointer p0)] K w:=C_of Tryz.f166 .auto _ h
def z9T(p0:Option Addr)(p1:Int)(K:Value→PT):PT:=
 L.nonnil p0 fun a1=>
 L.call Pr z7K [.pointer (some (a1.add 0)),.int .i64 p1] rL fun(x2:Sl)=>
 K (.slice x2.a x2.len x2.cap)
theorem zev(p0:Option Addr)(p1:Int)(h:z9T p0 p1 K w):CV z78 [.v (.pointer p0),.v (.int .i64 p1)] K w:=C_of Tryz.f167 .auto _ h
def z9X(p0:Option Addr)(K:Value→PT):PT:=
 L.nonnil p0 fun a1=>
 L.load (.one (.map)) (a1.add 0) fun(x2:Option Nat)=>
 L.call Pr z1q [.map x2] rL fun(x3:Sl)=>
 L.call Pr z1R [Sv6 x3] rL fun(x4:Sl)=>
 K (.slice x4.a x4.len x4.cap)
theorem zez(p0:Option Addr)(h:z9X p0 K w):CV z79 [.v (.pointer p0)] K w:=C_of Tryz.f168 .auto _ h
def z7l(p0:Option Addr)(p1:Int)(K:Value→PT):PT:=
 L.draw<|
 L.nonnil p0 fun a1=>
 L.load eI6 (a1.add 60) fun(x2:Int)=>
 L.guard (60≠(0:Int))<|
 L.nonnil p0 fun a3=>
 L.idx (some (a3.add 0)) (Int.tmod x2 60) 60 1 fun a4=>
 L.store a4 [.int .i64 p1]<|
 L.nonnil p0 fun a5=>
 L.load eI6 (a5.add 60) fun(x6:Int)=>
 L.nonnil p0 fun a7=>
 L.store (a7.add 60) [.int .i64 (IntKind.wrap .i64 (x6+1))]<|
 K (.tuple #[])
theorem zbq(p0:Option Addr)(p1:Int)(h:z7l p0 p1 K w):CV z5e [.v (.pointer p0),.v (.int .i64 p1)] K w:=C_of Tryz.f169 .auto _ h
def z4K(p0:Option Addr)(p1:ByteArray)(K:Value→PT):PT:=
 L.new [.string s_,.int .i64 0,.int .i64 0,.int .i64 0,.int .i64 0,.int .i64 0,.int .i64 0,.int .i64 0,.bool false] z0f fun b1=>
 L.nonnil p0 fun a2=>
 L.load (.one (.map)) (a2.add 0) fun(x3:Option Nat)=>
 L.semR Pr (.one (.agg lf9)) (Instr.lookup z0t (.map x3) (.string p1) false) fun(x4:pt19)=>
 L.new [.string s_,.int .i64 0,.int .i64 0,.int .i64 0,.int .i64 0,.int .i64 0,.int .i64 0,.int .i64 0,.bool false] z0f fun b5=>
 L.store (⟨b5,0,none⟩) [.string x4.1,.int .i64 x4.2.1,.int .i64 x4.2.2.1,.int .i64 x4.2.2.2.1,.int .i64 x4.2.2.2.2.1,.int .i64 x4.2.2.2.2.2.1,.int .i64 x4.2.2.2.2.2.2.1,.int .i64 x4.2.2.2.2.2.2.2.1,.bool x4.2.2.2.2.2.2.2.2.1]<|
 L.draw<|
 L.load (.agg lf9) (⟨b5,0,none⟩) fun(x6:pt19)=>
 L.load eB6 (Ad6 b5 8) fun(x7:Bool)=>
 L.store (⟨b1,0,none⟩) [.string x6.1,.int .i64 x6.2.1,.int .i64 x6.2.2.1,.int .i64 x6.2.2.2.1,.int .i64 x6.2.2.2.2.1,.int .i64 x6.2.2.2.2.2.1,.int .i64 x6.2.2.2.2.2.2.1,.int .i64 x6.2.2.2.2.2.2.2.1,.bool x6.2.2.2.2.2.2.2.2.1]<|
 L.chk (Ad6 b5 8) [.bool x7]<|
 L.load (.agg lf9) (⟨b1,0,none⟩) fun(x8:pt19)=>
 K (.tuple #[(qa5 x8),.bool x7])
theorem z8g(p0:Option Addr)(p1:ByteArray)(h:z4K p0 p1 K w):CV z2Y [.v (.pointer p0),.v (.string p1)] K w:=C_of Tryz.f170 .auto _ h
def zg3(p0:ByteArray)(p1:Int)(K:Value→PT):PT:=
 L.call Pr z4B [.string p0] rB fun(x1:Bool)=>
 L.ite (!x1) (
  K (.string s_))<|
 L.ite (decide (p1<1)) (
  K (.string s_))<|
 L.ite (decide (p1>999999)) (
  K (.string s_))<|
 L.guard (((p0.size+s__.size:Nat):Int)≤maxI64)<|
 L.call Pr z4c [.int .i64 p1] rS fun(x2:ByteArray)=>
 L.guard ((((p0++s__).size+x2.size:Nat):Int)≤maxI64)<|
 K (.string ((p0++s__)++x2))
theorem zkm(p0:ByteArray)(p1:Int)(h:zg3 p0 p1 K w):CV z9v [.v (.string p0),.v (.int .i64 p1)] K w:=C_of Tryz.f171 .auto _ h
def z5a(p0:Option Addr)(p1:ByteArray)(K:Value→PT):PT:=
 L.new [.string s_,.string s_,.slice none 0 0,.int .i64 0,.int .i64 0,.int .i64 0,.bool false] z0l fun b1=>
 L.nonnil p0 fun a2=>
 L.load (.one (.map)) (a2.add 0) fun(x3:Option Nat)=>
 L.semR Pr (.one (.agg lf10)) (Instr.lookup z0B (.map x3) (.string p1) false) fun(x4:pt20)=>
 L.new [.string s_,.string s_,.slice none 0 0,.int .i64 0,.int .i64 0,.int .i64 0,.bool false] z0l fun b5=>
 L.store (⟨b5,0,none⟩) [.string x4.1,.string x4.2.1,Sv6 x4.2.2.1,.int .i64 x4.2.2.2.1,.int .i64 x4.2.2.2.2.1,.int .i64 x4.2.2.2.2.2.1,.bool x4.2.2.2.2.2.2.1]<|
 L.draw<|
 L.load (.agg lf10) (⟨b5,0,none⟩) fun(x6:pt20)=>
 L.load eB6 (Ad6 b5 6) fun(x7:Bool)=>
 L.store (⟨b1,0,none⟩) [.string x6.1,.string x6.2.1,Sv6 x6.2.2.1,.int .i64 x6.2.2.2.1,.int .i64 x6.2.2.2.2.1,.int .i64 x6.2.2.2.2.2.1,.bool x6.2.2.2.2.2.2.1]<|
 L.chk (Ad6 b5 6) [.bool x7]<|
 L.load (.agg lf10) (⟨b1,0,none⟩) fun(x8:pt20)=>
 K (.tuple #[(qa6 x8),.bool x7])
theorem z8o(p0:Option Addr)(p1:ByteArray)(h:z5a p0 p1 K w):CV z3h [.v (.pointer p0),.v (.string p1)] K w:=C_of Tryz.f172 .auto _ h
def zd3(p0:HT [.str,.str,.int .i64])(p1:ht2)(p2:Option Addr)(K:Value→PT):PT:=
 L.new [.string p0.1,.string p0.2.1,.int .i64 p0.2.2.1] z09 fun b1=>
 L.new [.string p1.1,.string p1.2.1,Sv6 p1.2.2.1,.int .i64 p1.2.2.2.1] z0r fun b2=>
 L.load eS6 (Ad6 b1 0) fun(x3:ByteArray)=>
 L.ite (x3.toList == s_.toList) (
  L.load eS6 (Ad6 b2 1) fun(x4:ByteArray)=>
  L.call Pr z5A [.pointer p2,.string x4] (.tup [eS6,eS6]) fun(x5:ByteArray×ByteArray×Unit)=>
  L.ite (x5.2.1.toList == s_.toList) (
   K (.tuple #[.string s_,.int .i64 9]))<|
  K (.tuple #[.string x5.2.1,.int .i64 0]))<|
 L.load eS6 (Ad6 b1 0) fun(x6:ByteArray)=>
 L.call Pr z2G [.pointer p2,.string x6] (.tup [(.agg lf4),eB6]) fun(x7:pt6)=>
 L.new [.string s_,.int .i64 0,.string s_,.int .i64 0,.int .i64 0,.int .i64 0,.int .i64 0,.int .i64 0] z0j fun b8=>
 L.store (⟨b8,0,none⟩) [.string x7.1.1,.int .i64 x7.1.2.1,.string x7.1.2.2.1,.int .i64 x7.1.2.2.2.1,.int .i64 x7.1.2.2.2.2.1,.int .i64 x7.1.2.2.2.2.2.1,.int .i64 x7.1.2.2.2.2.2.2.1,.int .i64 x7.1.2.2.2.2.2.2.2.1]<|
 L.ite (!x7.2.1) (
  K (.tuple #[.string s_,.int .i64 6]))<|
 L.load eS6 (Ad6 b1 0) fun(x9:ByteArray)=>
 L.call Pr z1H [.pointer p2,.string x9] rB fun(x10:Bool)=>
 L.ite (!x10) (
  K (.tuple #[.string s_,.int .i64 9]))<|
 L.load eS6 (Ad6 b1 0) fun(x11:ByteArray)=>
 K (.tuple #[.string x11,.int .i64 0])
theorem zhY(p0:HT [.str,.str,.int .i64])(p1:ht2)(p2:Option Addr)(h:zd3 p0 p1 p2 K w):CV z9u [.ag [.string p0.1,.string p0.2.1,.int .i64 p0.2.2.1],.ag (qc2 p1),.v (.pointer p2)] K w:=C_of Tryz.f173 .auto _ h
def z5r(p0:Option Nat)(K:Value→PT):PT:=
 L.new [.map p0] z0M fun b1=>
 K (.func (.func z1s) #[] #[.pointer (some (⟨b1,0,none⟩))])
theorem z8Z(p0:Option Nat)(h:z5r p0 K w):CV z5n [.v (.map p0)] K w:=C_of Tryz.f174 .auto _ h
def z4q(p0:Option Nat)(K:Value→PT):PT:=
 L.new [.map p0] z0s fun b1=>
 K (.func (.func z1e) #[] #[.pointer (some (⟨b1,0,none⟩))])
theorem z7z(p0:Option Nat)(h:z4q p0 K w):CV z4i [.v (.map p0)] K w:=C_of Tryz.f175 .auto _ h
def zh8(p0:HT [.slice,.slice])(K:Value→PT):PT:=
 L.new [Sv6 p0.1,Sv6 p0.2.1] z04 fun b1=>
 L.new [.slice none 0 0,.slice none 0 0] z04 fun b2=>
 L.draw<|
 L.load eL6 (Ad6 b1 0) fun(x3:Sl)=>
 L.load eL6 (Ad6 b1 1) fun(x4:Sl)=>
 L.call Pr z0A [Sv6 x3] rL fun(x5:Sl)=>
 L.chk (Ad6 b1 1) [Sv6 x4]<|
 L.call Pr z1S [Sv6 x4] rL fun(x6:Sl)=>
 L.store (⟨b2,0,none⟩) [Sv6 x5,Sv6 x6]<|
 L.load (.agg [.slice,.slice]) (⟨b2,0,none⟩) fun(x7:Sl×Sl×Unit)=>
 K (.agg #[Sv6 x7.1,Sv6 x7.2.1])
theorem zmz(p0:HT [.slice,.slice])(h:zh8 p0 K w):CV z2l [.ag [.slice p0.1.a p0.1.len p0.1.cap,.slice p0.2.1.a p0.2.1.len p0.2.1.cap]] K w:=C_of Tryz.f176 .auto _ h
def zi3:Ann:=(.seq .auto (.seq (.seq .auto (.one [(2,(.one (.slice))),(11,(.one (.int .i64)))] .auto) none) (.seq (.seq .auto (.one [(3,(.one (.slice))),(28,(.one (.int .i64)))] .auto) none) .auto none) none) none)
def zcT(p0:HT [.slice,.slice])(K:Value→PT):PT:=
 L.new [Sv6 p0.1,Sv6 p0.2.1] z04 fun b1=>
 L.load eL6 (Ad6 b1 0) fun(x2:Sl)=>
 L.loop (Y:=Sl×Int×Unit) (⟨none,0,0⟩,0,()) fun y3 again4=>
 L.ite (decide (y3.2.1<((x2.len:Nat):Int))) (
  L.idx x2.a y3.2.1 x2.len 2 fun a5=>
  L.load (.agg [.str,.int .i64]) a5 fun(x6:ByteArray×Int×Unit)=>
  L.new [.string s_,.int .i64 0] z0v fun b7=>
  L.store (⟨b7,0,none⟩) [.string x6.1,.int .i64 x6.2.1]<|
  L.draw<|
  L.load eS6 (Ad6 b7 0) fun(x8:ByteArray)=>
  L.load eI6 (Ad6 b7 1) fun(x9:Int)=>
  L.call Pr z4c [.int .i64 x9] rS fun(x10:ByteArray)=>
  L.chk (Ad6 b7 0) [.string x8]<|
  L.new [.string x8,.string x10] z3q fun b11=>
  L.sem Pr (.one (.one .slice)) (Builtin.append_ #[z3s,z3s] z3s #[Sv6 y3.1,.slice (some ⟨b11,0,none⟩) 1 1]) fun(s12:Sl)=>
  again4 (⟨s12.a,s12.len,s12.cap⟩,IntKind.wrap .i64 (y3.2.1+1),()))<|
 L.load eL6 (Ad6 b1 1) fun(x13:Sl)=>
 L.loop (Y:=Sl×Int×Unit) (⟨none,0,0⟩,0,()) fun y14 again15=>
 L.ite (decide (y14.2.1<((x13.len:Nat):Int))) (
  L.idx x13.a y14.2.1 x13.len 2 fun a16=>
  L.load (.agg [.str,.str]) a16 fun(x17:ByteArray×ByteArray×Unit)=>
  L.new [.string s_,.string s_] z3t fun b18=>
  L.store (⟨b18,0,none⟩) [.string x17.1,.string x17.2.1]<|
  L.load eS6 (Ad6 b18 0) fun(x19:ByteArray)=>
  L.load eS6 (Ad6 b18 1) fun(x20:ByteArray)=>
  L.new [.string x19,.string x20] z3q fun b21=>
  L.sem Pr (.one (.one .slice)) (Builtin.append_ #[z3s,z3s] z3s #[Sv6 y14.1,.slice (some ⟨b21,0,none⟩) 1 1]) fun(s22:Sl)=>
  again15 (⟨s22.a,s22.len,s22.cap⟩,IntKind.wrap .i64 (y14.2.1+1),()))<|
 K (.tuple #[Sv6 y3.1,Sv6 y14.1])
theorem zhO(p0:HT [.slice,.slice])(h:zcT p0 K w):CV z9o [.ag [.slice p0.1.a p0.1.len p0.1.cap,.slice p0.2.1.a p0.2.1.len p0.2.1.cap]] K w:=C_of Tryz.f177 zi3 _ h
def z5U:Ann:=(.seq .auto (.seq .auto (.seq (.seq .auto (.one [(13,(.one (.int .i64)))] .auto) none) .auto none) none) none)
def z3a(p0 p1:Sl)(K:Value→PT):PT:=
 L.ite (((p0.len:Nat):Int) != ((p1.len:Nat):Int)) (
  K (.bool false))<|
 L.loop (Y:=Int×Unit) (0,()) fun y1 again2=>
 L.ite (decide (y1.1<((p0.len:Nat):Int))) (
  L.draw<|
  L.idx p0.a y1.1 p0.len 2 fun a3=>
  L.load (.agg [.str,.int .i64]) a3 fun(x4:ByteArray×Int×Unit)=>
  L.idx p1.a y1.1 p1.len 2 fun a5=>
  L.load (.agg [.str,.int .i64]) a5 fun(x6:ByteArray×Int×Unit)=>
  L.chkSem Pr (do eqGuard .neq z0v (.tmp 0) (.tmp 0) (.agg #[.string x4.1,.int .i64 x4.2.1]) (.agg #[.string x6.1,.int .i64 x6.2.1]);binOp .neq z0v (.agg #[.string x4.1,.int .i64 x4.2.1]) (.agg #[.string x6.1,.int .i64 x6.2.1])) (.bool (!((x4.1 == x6.1)&&((x4.2.1 == x6.2.1)&&true))))<|
  L.ite (!((x4.1 == x6.1)&&((x4.2.1 == x6.2.1)&&true))) (
   K (.bool false))<|
  again2 (IntKind.wrap .i64 (y1.1+1),()))<|
 K (.bool true)
theorem z5Q(p0 p1:Sl)(h:z3a p0 p1 K w):CV z1l [.v (.slice p0.a p0.len p0.cap),.v (.slice p1.a p1.len p1.cap)] K w:=C_of Tryz.f178 z5U _ h
def zi9:Ann:=(.seq .auto (.seq (.seq .auto .auto (some [(18,(.one (.bool)))])) (.seq .auto (.seq .auto (.seq .auto (.seq (.seq .auto (.one [(11,(.one (.int .i64))),(42,(.one (.int .i64)))] (.seq .auto (.seq .auto (.seq .auto .auto (some [(11,(.one (.int .i64)))])) none) none)) none) (.seq .auto (.seq (.seq .auto (.one [(11,(.one (.int .i64))),(14,(.one (.slice))),(77,(.one (.int .i64)))] (.seq .auto (.seq .auto (.seq (.seq .auto (.seq .auto (.seq .auto .auto (some [(11,(.one (.int .i64)))])) none) none) .auto (some [(11,(.one (.int .i64))),(14,(.one (.slice)))])) none) none)) none) .auto none) none) none) none) none) none) none) none)
def zd1(p0 p1:Sl)(p2 p3:Int)(K:Value→PT):PT:=
 L.join (Y:=Bool×Unit) (fun k1=>
  L.ite (decide (p3≤0)) (
   k1 (true,()))<|
  k1 (decide (p2≥p3),())) fun z2=>
 L.ite z2.1 (
  L.call Pr z0A [Sv6 p1] rL fun(x3:Sl)=>
  K (.slice x3.a x3.len x3.cap))<|
 L.ite (decide (p2≤0)) (
  L.call Pr z0A [Sv6 p0] rL fun(x4:Sl)=>
  K (.slice x4.a x4.len x4.cap))<|
 L.new [Sv6 p0,Sv6 p1] z0F fun b5=>
 L.call Pr z2w [.func (.func zbb) #[] #[],.slice (some ⟨b5,0,none⟩) 2 2] rL fun(x6:Sl)=>
 L.sem Pr (.one (.one .slice)) (Instr.makeSlice z0Y (.int .i64 ((x6.len:Nat):Int)) (.int .i64 ((x6.len:Nat):Int))) fun(s7:Sl)=>
 L.loop (Y:=Int×Int×Unit) (0,0,()) fun y8 again9=>
 L.ite (decide (y8.2.1<((x6.len:Nat):Int))) (
  L.join (Y:=Int×Unit) (fun k10=>
   L.draw<|
   L.idx x6.a y8.2.1 x6.len 1 fun a12=>
   L.load eS6 a12 fun(x13:ByteArray)=>
   L.idx x6.a y8.2.1 x6.len 1 fun a14=>
   L.load eS6 a14 fun(x15:ByteArray)=>
   L.call Pr z4R [Sv6 p1,.string x13] rI fun(x16:Int)=>
   L.chk a14 [.string x15]<|
   L.call Pr z4R [Sv6 p0,.string x15] rI fun(x17:Int)=>
   L.ite (decide ((IntKind.wrap .i64 (x16-x17))>0)) (
    L.guard (p3≠(0:Int))<|
    L.idx s7.a y8.2.1 s7.len 1 fun a18=>
    L.store a18 [.int .i64 (IntKind.wrap .i64 (Int.tdiv (IntKind.wrap .i64 ((IntKind.wrap .i64 (x16-x17))*p2)) p3))]<|
    L.idx s7.a y8.2.1 s7.len 1 fun a19=>
    L.load eI6 a19 fun(x20:Int)=>
    k10 (IntKind.wrap .i64 (y8.1+x20),()))<|
   k10 (y8.1,())) fun z11=>
  again9 (z11.1,IntKind.wrap .i64 (y8.2.1+1),()))<|
 L.loop (Y:=Int×Sl×Int×Unit) (y8.1,⟨none,0,0⟩,0,()) fun y21 again22=>
 L.ite (decide (y21.2.2.1<((x6.len:Nat):Int))) (
  L.join (Y:=Int×Sl×Unit) (fun k23=>
   L.idx x6.a y21.2.2.1 x6.len 1 fun a25=>
   L.load eS6 a25 fun(x26:ByteArray)=>
   L.call Pr z4R [Sv6 p0,.string x26] rI fun(x27:Int)=>
   L.join (Y:=Int×Unit) (fun k28=>
    L.idx x6.a y21.2.2.1 x6.len 1 fun a30=>
    L.load eS6 a30 fun(x31:ByteArray)=>
    L.call Pr z4R [Sv6 p1,.string x31] rI fun(x32:Int)=>
    L.ite (decide ((IntKind.wrap .i64 (x27-x32))>0)) (
     L.idx s7.a y21.2.2.1 s7.len 1 fun a33=>
     L.store a33 [.int .i64 (IntKind.wrap .i64 (0-(if y21.1<(IntKind.wrap .i64 (x27-x32))then y21.1 else(IntKind.wrap .i64 (x27-x32)))))]<|
     L.idx s7.a y21.2.2.1 s7.len 1 fun a34=>
     L.load eI6 a34 fun(x35:Int)=>
     k28 (IntKind.wrap .i64 (y21.1+x35),()))<|
    k28 (y21.1,())) fun z29=>
   L.idx s7.a y21.2.2.1 s7.len 1 fun a36=>
   L.load eI6 a36 fun(x37:Int)=>
   L.ite (decide ((IntKind.wrap .i64 (x27+x37))>0)) (
    L.idx x6.a y21.2.2.1 x6.len 1 fun a38=>
    L.load eS6 a38 fun(x39:ByteArray)=>
    L.new [.string x39,.int .i64 (IntKind.wrap .i64 (x27+x37))] z0v fun b40=>
    L.sem Pr (.one (.one .slice)) (Builtin.append_ #[z0F,z0F] z0F #[Sv6 y21.2.1,.slice (some ⟨b40,0,none⟩) 1 1]) fun(s41:Sl)=>
    k23 (z29.1,⟨s41.a,s41.len,s41.cap⟩,()))<|
   k23 (z29.1,⟨y21.2.1.a,y21.2.1.len,y21.2.1.cap⟩,())) fun z24=>
  again22 (z24.1,⟨z24.2.1.a,z24.2.1.len,z24.2.1.cap⟩,IntKind.wrap .i64 (y21.2.2.1+1),()))<|
 L.call Pr z0A [Sv6 y21.2.1] rL fun(x42:Sl)=>
 K (.slice x42.a x42.len x42.cap)
theorem zhW(p0 p1:Sl)(p2 p3:Int)(h:zd1 p0 p1 p2 p3 K w):CV z9t [.v (.slice p0.a p0.len p0.cap),.v (.slice p1.a p1.len p1.cap),.v (.int .i64 p2),.v (.int .i64 p3)] K w:=C_of Tryz.f179 zi9 _ h
def z6W(p0:Option Addr)(K:Value→PT):PT:=
 L.new [.pointer p0] z6d fun b1=>
 K (.func (.func z1U) #[] #[.pointer (some (⟨b1,0,none⟩))])
theorem zb2(p0:Option Addr)(h:z6W p0 K w):CV z4C [.v (.pointer p0)] K w:=C_of Tryz.f180 .auto _ h
def zei(p0 p1 p2:Int)(K:Value→PT):PT:=
 L.ite (decide (p1≤0)) (
  K (.int .i64 0))<|
 L.ite (decide (p2≤0)) (
  K (.int .i64 0))<|
 L.guard ((IntKind.wrap .i64 (p1*p2))≠(0:Int))<|
 K (.int .i64 (IntKind.wrap .i64 (Int.tdiv (IntKind.wrap .i64 ((IntKind.wrap .i64 (p0+(IntKind.wrap .i64 (p1*p2))))-1)) (IntKind.wrap .i64 (p1*p2)))))
theorem zjy(p0 p1 p2:Int)(h:zei p0 p1 p2 K w):CV z4A [.v (.int .i64 p0),.v (.int .i64 p1),.v (.int .i64 p2)] K w:=C_of Tryz.f181 .auto _ h
def z6V(p0:HT [.int .i64,.int .i64])(p1 p2:Int)(K:Value→PT):PT:=
 L.new [.int .i64 p0.1,.int .i64 p0.2.1] z0X fun b1=>
 L.ite (decide (p1≥(IntKind.wrap .i64 (2*p2)))) (
  K (.int .i64 6))<|
 L.load eI6 (Ad6 b1 1) fun(x2:Int)=>
 K (.int .i64 (if 0>(IntKind.wrap .i64 (x2-1))then 0 else(IntKind.wrap .i64 (x2-1))))
theorem zb1(p0:HT [.int .i64,.int .i64])(p1 p2:Int)(h:z6V p0 p1 p2 K w):CV z3n [.ag [.int .i64 p0.1,.int .i64 p0.2.1],.v (.int .i64 p1),.v (.int .i64 p2)] K w:=C_of Tryz.f182 .auto _ h
def z8H(p0 p1:HT [.int .i64,.int .i64])(K:Value→PT):PT:=
 L.new [.int .i64 p0.1,.int .i64 p0.2.1] z0X fun b1=>
 L.new [.int .i64 p1.1,.int .i64 p1.2.1] zaF fun b2=>
 L.load eI6 (Ad6 b1 0) fun(x3:Int)=>
 L.idx (some (⟨b2,0,none⟩)) 0 2 1 fun a4=>
 L.load eI6 a4 fun(x5:Int)=>
 L.idx (some (⟨b2,0,none⟩)) 1 2 1 fun a6=>
 L.load eI6 a6 fun(x7:Int)=>
 K (.int .i64 (if x7>(if x5>x3 then x5 else x3)then x7 else(if x5>x3 then x5 else x3)))
theorem zde(p0 p1:HT [.int .i64,.int .i64])(h:z8H p0 p1 K w):CV z63 [.ag [.int .i64 p0.1,.int .i64 p0.2.1],.ag [.int .i64 p1.1,.int .i64 p1.2.1]] K w:=C_of Tryz.f183 .auto _ h
def zbD(p0:ht0)(p1 p2:Int)(K:Value→PT):PT:=
 L.new [.string p0.1,.int .i64 p0.2.1,.int .i64 p0.2.2.1,.int .i64 p0.2.2.2.1,.int .i64 p0.2.2.2.2.1,.int .i64 p0.2.2.2.2.2.1] z05 fun b1=>
 L.new [.int .i64 0,.int .i64 0,.int .i64 0,.int .i64 0] zo3 fun b2=>
 L.guard (2≠(0:Int))<|
 L.load eI6 (Ad6 b1 3) fun(x3:Int)=>
 L.load eI6 (Ad6 b1 4) fun(x4:Int)=>
 L.store (⟨b2,0,none⟩) [.int .i64 (IntKind.wrap .i64 (4*p2)),.int .i64 (IntKind.wrap .i64 (Int.tdiv p1 2)),.int .i64 x3,.int .i64 x4]<|
 L.load (.agg [.int .i64,.int .i64,.int .i64,.int .i64]) (⟨b2,0,none⟩) fun(x5:Int×Int×Int×Int×Unit)=>
 K (.agg #[.int .i64 x5.1,.int .i64 x5.2.1,.int .i64 x5.2.2.1,.int .i64 x5.2.2.2.1])
theorem zgm(p0:ht0)(p1 p2:Int)(h:zbD p0 p1 p2 K w):CV z8U [.ag (qc0 p0),.v (.int .i64 p1),.v (.int .i64 p2)] K w:=C_of Tryz.f184 .auto _ h
def zeQ:Ann:=(.seq .auto (.seq .auto (.seq (.seq .auto (.seq .auto .auto (some [(11,(.one (.int .i64))),(12,(.one (.ptr)))])) none) .auto none) none) none)
def za4(p0:Option Addr)(p1:ByteArray)(K:Value→PT):PT:=
 L.new [.int .i64 0] z0g fun b1=>
 L.store (⟨b1,0,none⟩) [.int .i64 0]<|
 L.call Pr z3j [.pointer p0,.string p1] (.one (.one (.func))) fun(x2:FV)=>
 L.range Pr none (.func x2.fn x2.fs x2.cs) [eI6,eP6] (fun l3(y4:Int×Option Addr×Unit) R5=>
  L.begin Pr l3<|
  L.call Pr z1r [.pointer y4.2.1] rI fun(x8:Int)=>
  L.ite (x8 != 3) (
   L.load eI6 (⟨b1,0,none⟩) fun(x9:Int)=>
   L.store (⟨b1,0,none⟩) [.int .i64 (IntKind.wrap .i64 (x9+1))]<|
   L.endRound Pr l3 none R5)<|
  L.endRound Pr l3 none R5) fun d6 j7=>
 L.jump j7 (
  L.load eI6 (⟨b1,0,none⟩) fun(x10:Int)=>
  L.unmark Pr (d6++[])<|
  K (.int .i64 x10)) (
  L.unmark Pr (d6++[])<|
  K (.int .i64 0)) []
theorem zeH(p0:Option Addr)(p1:ByteArray)(h:za4 p0 p1 K w):CV z7d [.v (.pointer p0),.v (.string p1)] K w:=C_of Tryz.f185 zeQ _ h
def zjp(p0:Int)(K:Value→PT):PT:=
 L.sem Pr (.one (.one .map)) (Instr.makeMap z2Q none) fun(m1:Option Nat)=>
 L.new [.int .i64 1,.map m1,.int .i64 p0] zaE fun b2=>
 K (.pointer (some (⟨b2,0,none⟩)))
theorem zoB(p0:Int)(h:zjp p0 K w):CV zfu [.v (.int .i64 p0)] K w:=C_of Tryz.f186 .auto _ h
def zcn:Ann:=(.seq .auto (.seq .auto (.seq (.seq .auto (.seq .auto (.seq .auto (.seq .auto (.cond .auto .auto) none) none) (some [(13,(.one (.int .i64))),(14,(.one (.ptr)))])) none) .auto none) none) none)
def z83(p0:Option Addr)(p1:ByteArray)(K:Value→PT):PT:=
 L.new [.int .i64 0] z0g fun b1=>
 L.new [.int .i64 0] z0g fun b2=>
 L.new [.int .i64 0] z0g fun b3=>
 L.store (⟨b1,0,none⟩) [.int .i64 0]<|
 L.store (⟨b2,0,none⟩) [.int .i64 3]<|
 L.store (⟨b3,0,none⟩) [.int .i64 0]<|
 L.call Pr z3j [.pointer p0,.string p1] (.one (.one (.func))) fun(x4:FV)=>
 L.range Pr none (.func x4.fn x4.fs x4.cs) [eI6,eP6] (fun l5(y6:Int×Option Addr×Unit) R7=>
  L.begin Pr l5<|
  L.call Pr z1r [.pointer y6.2.1] rI fun(x10:Int)=>
  L.ite (x10 == 3) (
   L.endRound Pr l5 none R7)<|
  L.draw<|
  L.load eI6 (⟨b2,0,none⟩) fun(x11:Int)=>
  L.call Pr z1r [.pointer y6.2.1] rI fun(x12:Int)=>
  L.chk (⟨b2,0,none⟩) [.int .i64 x11]<|
  L.ite (decide (x12<x11)) (
   L.call Pr z1r [.pointer y6.2.1] rI fun(x13:Int)=>
   L.call Pr z2q [.pointer y6.2.1] rI fun(x14:Int)=>
   L.store (⟨b1,0,none⟩) [.int .i64 y6.1]<|
   L.store (⟨b2,0,none⟩) [.int .i64 x13]<|
   L.store (⟨b3,0,none⟩) [.int .i64 x14]<|
   L.endRound Pr l5 none R7)<|
  L.load eI6 (⟨b2,0,none⟩) fun(x15:Int)=>
  L.call Pr z1r [.pointer y6.2.1] rI fun(x16:Int)=>
  L.chk (⟨b2,0,none⟩) [.int .i64 x15]<|
  L.ite (x16 == x15) (
   L.load eI6 (⟨b3,0,none⟩) fun(x17:Int)=>
   L.call Pr z2q [.pointer y6.2.1] rI fun(x18:Int)=>
   L.chk (⟨b3,0,none⟩) [.int .i64 x17]<|
   L.ite (decide (x18≤x17)) (
    L.call Pr z1r [.pointer y6.2.1] rI fun(x19:Int)=>
    L.call Pr z2q [.pointer y6.2.1] rI fun(x20:Int)=>
    L.store (⟨b1,0,none⟩) [.int .i64 y6.1]<|
    L.store (⟨b2,0,none⟩) [.int .i64 x19]<|
    L.store (⟨b3,0,none⟩) [.int .i64 x20]<|
    L.endRound Pr l5 none R7)<|
   L.endRound Pr l5 none R7)<|
  L.endRound Pr l5 none R7) fun d8 j9=>
 L.jump j9 (
  L.load eI6 (⟨b1,0,none⟩) fun(x21:Int)=>
  L.unmark Pr (d8++[])<|
  K (.int .i64 x21)) (
  L.unmark Pr (d8++[])<|
  K (.int .i64 0)) []
theorem zcd(p0:Option Addr)(p1:ByteArray)(h:z83 p0 p1 K w):CV z5C [.v (.pointer p0),.v (.string p1)] K w:=C_of Tryz.f187 zcn _ h
def zgi:Ann:=(.seq .auto (.seq (.seq .auto (.cond .auto .auto) none) .auto (some [])) none)
def zaL(p0:Option Addr)(K:Value→PT):PT:=
 L.join (Y:=Unit) (fun k1=>
  L.nonnil p0 fun a3=>
  L.load eI6 (a3.add 0) fun(x4:Int)=>
  L.ite (x4 != 1) (
   L.nonnil p0 fun a5=>
   L.load eI6 (a5.add 0) fun(x6:Int)=>
   L.ite (x6 != 2) (
    K (.int .i64 9))<|
   k1 (()))<|
  k1 (())) fun z2=>
 L.nonnil p0 fun a7=>
 L.store (a7.add 0) [.int .i64 3]<|
 L.call Pr z7t [.pointer p0] (.tup []) fun(x8:Unit)=>
 K (.int .i64 0)
theorem zge(p0:Option Addr)(h:zaL p0 K w):CV z7O [.v (.pointer p0)] K w:=C_of Tryz.f188 zgi _ h
def z7U(p0:Option Addr)(K:Value→PT):PT:=
 L.new [.pointer p0] z48 fun b1=>
 K (.func (.func z2v) #[] #[.pointer (some (⟨b1,0,none⟩))])
theorem zc5(p0:Option Addr)(h:z7U p0 K w):CV z2k [.v (.pointer p0)] K w:=C_of Tryz.f191 .auto _ h
def zdx:Ann:=(.seq .auto (.one [(14,(.one (.int .i64)))] (.seq .auto (.seq .auto (.seq (.seq .auto (.seq .auto (.seq .auto (.cond .auto .auto) none) none) none) .auto (some [])) none) none)) none)
def z8O(p0:FV)(c0:Addr)(c1:Addr)(K:Value→PT):PT:=
 L.load eP6 c0 fun(x1:Option Addr)=>
 L.nonnil x1 fun a2=>
 L.load (.one (.map)) (a2.add 0) fun(x3:Option Nat)=>
 L.call Pr z1h [.map x3] (.one (.one (.func))) fun(x4:FV)=>
 L.call Pr z3L [.func x4.fn x4.fs x4.cs] rL fun(x5:Sl)=>
 L.loop (Y:=Int×Unit) (0,()) fun y6 again7=>
 L.ite (decide (y6.1<((x5.len:Nat):Int))) (
  L.join (Y:=Unit) (fun k8=>
   L.idx x5.a y6.1 x5.len 1 fun a10=>
   L.load eI6 a10 fun(x11:Int)=>
   L.load eP6 c0 fun(x12:Option Addr)=>
   L.nonnil x12 fun a13=>
   L.load (.one (.map)) (a13.add 0) fun(x14:Option Nat)=>
   L.semR Pr (.one (.agg [.str,.ptr])) (Instr.lookup z0u (.map x14) (.int .i64 x11) false) fun(x15:ByteArray×Option Addr×Unit)=>
   L.new [.string s_,.pointer none] z5H fun b16=>
   L.store (⟨b16,0,none⟩) [.string x15.1,.pointer x15.2.1]<|
   L.load eS6 (Ad6 b16 0) fun(x17:ByteArray)=>
   L.load eS6 c1 fun(x18:ByteArray)=>
   L.ite (x17.toList == x18.toList) (
    L.load eP6 (Ad6 b16 1) fun(x19:Option Addr)=>
    L.callV Pr (.func p0.fn p0.fs p0.cs) [.int .i64 x11,.pointer x19] rB fun(x20:Bool)=>
    L.ite (!x20) (
     K (.tuple #[]))<|
    k8 (()))<|
   k8 (())) fun z9=>
  again7 (IntKind.wrap .i64 (y6.1+1),()))<|
 K (.tuple #[])
theorem zdm(p0:FV)(c0 c1:Addr)(h:z8O p0 c0 c1 K w):CV z3o [.v (.func p0.fn p0.fs p0.cs),.v (.pointer (some c0)),.v (.pointer (some c1))] K w:=C_of Tryz.f192 zdx _ h
theorem zd9:Enters Pr z3o:=z0p (by kernel_rfl)
def z80(p0:FV)(K:Value→PT):PT:=
 L.call Pr z7g [.func p0.fn p0.fs p0.cs] rL fun(x1:Sl)=>
 L.call Pr z4z [Sv6 x1] (.tup []) fun(x2:Unit)=>
 K (.slice x1.a x1.len x1.cap)
theorem zca(p0:FV)(h:z80 p0 K w):CV z3L [.v (.func p0.fn p0.fs p0.cs)] K w:=C_of Tryz.f193 .auto _ h
def z1Y(p0:Option Nat)(K:Value→PT):PT:=
 L.new [.map p0] z0u fun b1=>
 K (.func (.func z0o) #[] #[.pointer (some (⟨b1,0,none⟩))])
theorem z3Z(p0:Option Nat)(h:z1Y p0 K w):CV z1h [.v (.map p0)] K w:=C_of Tryz.f194 .auto _ h
def z2c:Ann:=(.seq .auto (.seq .auto (.seq (.seq .auto (.one [(17,(.one (.int .i64)))] .auto) none) .auto none) none) none)
def z0Z(p0 p1:Sl)(p2:FV)(K:Value→PT):PT:=
 L.ite (((p0.len:Nat):Int) != ((p1.len:Nat):Int)) (
  K (.bool false))<|
 L.loop (Y:=Int×Unit) (0,()) fun y1 again2=>
 L.ite (decide (y1.1<((p0.len:Nat):Int))) (
  L.idx p0.a y1.1 p0.len 3 fun a3=>
  L.load (.agg [.str,.str,.int .i64]) a3 fun(x4:pt9)=>
  L.new [.string s_,.string s_,.int .i64 0] z09 fun b5=>
  L.store (⟨b5,0,none⟩) [.string x4.1,.string x4.2.1,.int .i64 x4.2.2.1]<|
  L.idx p1.a y1.1 p1.len 3 fun a6=>
  L.load (.agg [.str,.str,.int .i64]) a6 fun(x7:pt9)=>
  L.new [.string s_,.string s_,.int .i64 0] z09 fun b8=>
  L.store (⟨b8,0,none⟩) [.string x7.1,.string x7.2.1,.int .i64 x7.2.2.1]<|
  L.load (.agg [.str,.str,.int .i64]) (⟨b5,0,none⟩) fun(x9:pt9)=>
  L.load (.agg [.str,.str,.int .i64]) (⟨b8,0,none⟩) fun(x10:pt9)=>
  L.callV Pr (.func p2.fn p2.fs p2.cs) [.agg #[.string x9.1,.string x9.2.1,.int .i64 x9.2.2.1],.agg #[.string x10.1,.string x10.2.1,.int .i64 x10.2.2.1]] rB fun(x11:Bool)=>
  L.ite (!x11) (
   K (.bool false))<|
  again2 (IntKind.wrap .i64 (y1.1+1),()))<|
 K (.bool true)
theorem z2b(p0 p1:Sl)(p2:FV)(h:z0Z p0 p1 p2 K w):CV z0H [.v (.slice p0.a p0.len p0.cap),.v (.slice p1.a p1.len p1.cap),.v (.func p2.fn p2.fs p2.cs)] K w:=C_of Tryz.f202 z2c _ h
def zfZ(p0 p1:HT [.str,.str,.int .i64])(K:Value→PT):PT:=
 L.new [.string p0.1,.string p0.2.1,.int .i64 p0.2.2.1] z09 fun b1=>
 L.new [.string p1.1,.string p1.2.1,.int .i64 p1.2.2.1] z09 fun b2=>
 L.load (.agg [.str,.str,.int .i64]) (⟨b1,0,none⟩) fun(x3:pt9)=>
 L.load (.agg [.str,.str,.int .i64]) (⟨b2,0,none⟩) fun(x4:pt9)=>
 L.chkSem Pr (do eqGuard .eql z09 (.tmp 0) (.tmp 0) (.agg #[.string x3.1,.string x3.2.1,.int .i64 x3.2.2.1]) (.agg #[.string x4.1,.string x4.2.1,.int .i64 x4.2.2.1]);binOp .eql z09 (.agg #[.string x3.1,.string x3.2.1,.int .i64 x3.2.2.1]) (.agg #[.string x4.1,.string x4.2.1,.int .i64 x4.2.2.1])) (.bool ((x3.1 == x4.1)&&((x3.2.1 == x4.2.1)&&((x3.2.2.1 == x4.2.2.1)&&true))))<|
 K (.bool ((x3.1 == x4.1)&&((x3.2.1 == x4.2.1)&&((x3.2.2.1 == x4.2.2.1)&&true))))
theorem zki(p0 p1:HT [.str,.str,.int .i64])(h:zfZ p0 p1 K w):CV z7N [.ag [.string p0.1,.string p0.2.1,.int .i64 p0.2.2.1],.ag [.string p1.1,.string p1.2.1,.int .i64 p1.2.2.1]] K w:=C_of Tryz.f203 .auto _ h
theorem zkg:Enters Pr z7N:=z0p (by kernel_rfl)
def zek(p0:Int)(K:Value→PT):PT:=
 L.call Pr z6F [.int .i32 p0] rB fun(x1:Bool)=>
 L.ite x1 (
  K (.bool true))<|
 L.ite (decide (p0≥48)) (
  L.ite (decide (p0≤57)) (
   K (.bool true))<|
  K (.bool (p0 == 45)))<|
 K (.bool (p0 == 45))
theorem zjA(p0:Int)(h:zek p0 K w):CV zau [.v (.int .i32 p0)] K w:=C_of Tryz.f212 .auto _ h
def zbI(p0:Int)(K:Value→PT):PT:=
 L.ite (decide (p0≥97)) (
  K (.bool (decide (p0≤122))))<|
 K (.bool false)
theorem zgr(p0:Int)(h:zbI p0 K w):CV z6F [.v (.int .i32 p0)] K w:=C_of Tryz.f213 .auto _ h
def z1W(p0:Sl)(p1:FV)(K:Value→PT):PT:=
 L.call Pr z2n [Sv6 p0,.func p1.fn p1.fs p1.cs] rI fun(x1:Int)=>
 K (.bool (decide (x1≥0)))
theorem z3X(p0:Sl)(p1:FV)(h:z1W p0 p1 K w):CV z1f [.v (.slice p0.a p0.len p0.cap),.v (.func p1.fn p1.fs p1.cs)] K w:=C_of Tryz.f214 .auto _ h
def zeg(p0:HT [.str,.str,.int .i64])(c0:Addr)(K:Value→PT):PT:=
 L.new [.string p0.1,.string p0.2.1,.int .i64 p0.2.2.1] z09 fun b1=>
 L.load eS6 (Ad6 b1 1) fun(x2:ByteArray)=>
 L.load eS6 (c0.add 1) fun(x3:ByteArray)=>
 K (.bool (x2.toList == x3.toList))
theorem zjw(p0:HT [.str,.str,.int .i64])(c0:Addr)(h:zeg p0 c0 K w):CV z5N [.ag [.string p0.1,.string p0.2.1,.int .i64 p0.2.2.1],.v (.pointer (some c0))] K w:=C_of Tryz.f215 .auto _ h
theorem zjq:Enters Pr z5N:=z0p (by kernel_rfl)
def z2S(p0:Sl)(K:Value→PT):PT:=
 L.ite ((p0.a).isNone) (
  K (.slice none 0 0))<|
 L.new [] z09 fun b1=>
 L.sem Pr (.one (.one .slice)) (Builtin.append_ #[z6G,z6G] z6G #[.slice (some ⟨b1,0,none⟩) 0 0,Sv6 p0]) fun(s2:Sl)=>
 K (.slice s2.a s2.len s2.cap)
theorem z5t(p0:Sl)(h:z2S p0 K w):CV z1G [.v (.slice p0.a p0.len p0.cap)] K w:=C_of Tryz.f219 .auto _ h
def z82(p0:Option Addr)(p1:ByteArray)(K:Value→PT):PT:=
 L.new [.slice none 0 0,.slice none 0 0] z04 fun b1=>
 L.nonnil p0 fun a2=>
 L.load (.one (.map)) (a2.add 0) fun(x3:Option Nat)=>
 L.semR Pr (.tup [(.agg lf11),.one .bool]) (Instr.lookup z1O (.map x3) (.string p1) true) fun(x4:pt16)=>
 L.new [.slice none 0 0,.slice none 0 0,.int .i64 0,.int .i64 0,.slice none 0 0,.slice none 0 0] z2a fun b5=>
 L.store (⟨b5,0,none⟩) [Sv6 x4.1.1,Sv6 x4.1.2.1,.int .i64 x4.1.2.2.1,.int .i64 x4.1.2.2.2.1,Sv6 x4.1.2.2.2.2.1,Sv6 x4.1.2.2.2.2.2.1]<|
 L.ite (!x4.2.1) (
  L.store (⟨b1,0,none⟩) [.slice none 0 0,.slice none 0 0]<|
  L.load (.agg [.slice,.slice]) (⟨b1,0,none⟩) fun(x6:Sl×Sl×Unit)=>
  K (.tuple #[.agg #[Sv6 x6.1,Sv6 x6.2.1],.bool false]))<|
 L.load (.agg [.slice,.slice]) (Ad6 b5 4) fun(x7:Sl×Sl×Unit)=>
 L.call Pr z2l [.agg #[Sv6 x7.1,Sv6 x7.2.1]] (.one (.agg [.slice,.slice])) fun(x8:Sl×Sl×Unit)=>
 L.store (⟨b1,0,none⟩) [Sv6 x8.1,Sv6 x8.2.1]<|
 L.load (.agg [.slice,.slice]) (⟨b1,0,none⟩) fun(x9:Sl×Sl×Unit)=>
 K (.tuple #[.agg #[Sv6 x9.1,Sv6 x9.2.1],.bool true])
theorem zcc(p0:Option Addr)(p1:ByteArray)(h:z82 p0 p1 K w):CV z5B [.v (.pointer p0),.v (.string p1)] K w:=C_of Tryz.f222 .auto _ h
def zdy:Ann:=(.seq .auto (.seq .auto (.seq .auto (.seq (.seq .auto (.seq .auto .auto (some [(28,(.one (.int .i64))),(29,(.one (.ptr)))])) none) (.seq .auto (.seq (.seq .auto (.one [(41,(.one (.int .i64)))] .auto) none) .auto none) none) none) none) none) none)
def z8P(p0:Option Addr)(p1:ByteArray)(p2:Int)(K:Value→PT):PT:=
 L.nonnil p0 fun a1=>
 L.load (.one (.map)) (a1.add 1) fun(x2:Option Nat)=>
 L.semR Pr (.tup [eI6,.one .bool]) (Instr.lookup z4Y (.map x2) (.int .i64 p2) true) fun(x3:Int×Bool×Unit)=>
 L.ite x3.2.1 (
  K (.tuple #[.int .i64 0,.bool false]))<|
 L.new [.slice none 0 0] z1c fun b4=>
 L.call Pr z3j [.pointer p0,.string p1] (.one (.one (.func))) fun(x5:FV)=>
 L.range Pr none (.func x5.fn x5.fs x5.cs) [eI6,eP6] (fun l6(y7:Int×Option Addr×Unit) R8=>
  L.begin Pr l6<|
  L.draw<|
  L.load eL6 (⟨b4,0,none⟩) fun(x11:Sl)=>
  L.call Pr z2q [.pointer y7.2.1] rI fun(x12:Int)=>
  L.chk (⟨b4,0,none⟩) [Sv6 x11]<|
  L.new [.int .i64 x12,.int .i64 y7.1] z07 fun b13=>
  L.chk (⟨b4,0,none⟩) [Sv6 x11]<|
  L.sem Pr (.one (.one .slice)) (Builtin.append_ #[z1c,z1c] z1c #[Sv6 x11,.slice (some ⟨b13,0,none⟩) 1 1]) fun(s14:Sl)=>
  L.store (⟨b4,0,none⟩) [Sv6 s14]<|
  L.endRound Pr l6 none R8) fun d9 j10=>
 L.jump j10 (
  L.load eL6 (⟨b4,0,none⟩) fun(x15:Sl)=>
  L.call Pr z0K [Sv6 x15,.func (.func z0x) #[] #[]] (.tup []) fun(x16:Unit)=>
  L.load eL6 (⟨b4,0,none⟩) fun(x17:Sl)=>
  L.loop (Y:=Int×Unit) (0,()) fun y18 again19=>
  L.ite (decide (y18.1<((x17.len:Nat):Int))) (
   L.idx x17.a y18.1 x17.len 2 fun a20=>
   L.load (.agg [.int .i64,.int .i64]) a20 fun(x21:Int×Int×Unit)=>
   L.new [.int .i64 0,.int .i64 0] z07 fun b22=>
   L.store (⟨b22,0,none⟩) [.int .i64 x21.1,.int .i64 x21.2.1]<|
   L.draw<|
   L.nonnil p0 fun a23=>
   L.load (.one (.map)) (a23.add 0) fun(x24:Option Nat)=>
   L.load eI6 (Ad6 b22 1) fun(x25:Int)=>
   L.semR Pr (.one (.agg [.str,.ptr])) (Instr.lookup z0u (.map x24) (.int .i64 x25) false) fun(x26:ByteArray×Option Addr×Unit)=>
   L.call Pr z6C [.pointer x26.2.1,.int .i64 p2] rI fun(x27:Int)=>
   L.ite (x27 == 0) (
    L.draw<|
    L.nonnil p0 fun a28=>
    L.load (.one (.map)) (a28.add 1) fun(x29:Option Nat)=>
    L.load eI6 (Ad6 b22 1) fun(x30:Int)=>
    L.semU Pr (Instr.mapUpdate z4Y (.map x29) (.int .i64 p2) (.int .i64 x30))<|
    L.load eI6 (Ad6 b22 1) fun(x31:Int)=>
    L.unmark Pr (d9++[])<|
    K (.tuple #[.int .i64 x31,.bool true]))<|
   again19 (IntKind.wrap .i64 (y18.1+1),()))<|
  L.unmark Pr (d9++[])<|
  K (.tuple #[.int .i64 0,.bool false])) (
  L.unmark Pr (d9++[])<|
  K (.tuple #[.int .i64 0,.bool false])) []
theorem zdn(p0:Option Addr)(p1:ByteArray)(p2:Int)(h:z8P p0 p1 p2 K w):CV z69 [.v (.pointer p0),.v (.string p1),.v (.int .i64 p2)] K w:=C_of Tryz.f223 zdy _ h
def zdr:Ann:=(.seq .auto (.seq (.seq .auto (.seq .auto .auto (some [(8,(.one (.int .i64))),(9,(.one (.int .i64)))])) none) .auto none) none)
def z8E(p0:Option Addr)(p1:Int)(K:Value→PT):PT:=
 L.new [.int .i64 p1] z0g fun b1=>
 L.new [.bool false] z6P fun b2=>
 L.call Pr z2k [.pointer p0] (.one (.one (.func))) fun(x3:FV)=>
 L.range Pr none (.func x3.fn x3.fs x3.cs) [eI6,eI6] (fun l4(y5:Int×Int×Unit) R6=>
  L.begin Pr l4<|
  L.load eI6 (⟨b1,0,none⟩) fun(x9:Int)=>
  L.ite (y5.1 == x9) (
   L.store (⟨b2,0,none⟩) [.bool true]<|
   L.endRound Pr l4 (some .ret) R6)<|
  L.endRound Pr l4 none R6) fun d7 j8=>
 L.jump j8 (
  L.store (⟨b2,0,none⟩) [.bool false]<|
  L.unmark Pr (d7++[])<|
  L.load eB6 (⟨b2,0,none⟩) fun(x10:Bool)=>
  K (.bool x10)) (
  L.unmark Pr (d7++[])<|
  L.load eB6 (⟨b2,0,none⟩) fun(x11:Bool)=>
  K (.bool x11)) []
theorem zda(p0:Option Addr)(p1:Int)(h:z8E p0 p1 K w):CV z5Y [.v (.pointer p0),.v (.int .i64 p1)] K w:=C_of Tryz.f224 zdr _ h
def zeM:Ann:=(.seq .auto (.one [(7,(.one (.int .i64)))] .auto) none)
def z9V(p0:FV)(c0:Addr)(K:Value→PT):PT:=
 L.load eL6 c0 fun(x1:Sl)=>
 L.loop (Y:=Int×Unit) (0,()) fun y2 again3=>
 L.ite (decide (y2.1<((x1.len:Nat):Int))) (
  L.idx x1.a y2.1 x1.len 4 fun a4=>
  L.load (.agg [.int .i64,.int .i64,.int .i64,.str]) a4 fun(x5:pt10)=>
  L.new [.int .i64 0,.int .i64 0,.int .i64 0,.string s_] z0b fun b6=>
  L.store (⟨b6,0,none⟩) [.int .i64 x5.1,.int .i64 x5.2.1,.int .i64 x5.2.2.1,.string x5.2.2.2.1]<|
  L.load (.agg [.int .i64,.int .i64,.int .i64,.str]) (⟨b6,0,none⟩) fun(x7:pt10)=>
  L.call Pr z9q [.agg #[.int .i64 x7.1,.int .i64 x7.2.1,.int .i64 x7.2.2.1,.string x7.2.2.2.1]] rS fun(x8:ByteArray)=>
  L.callV Pr (.func p0.fn p0.fs p0.cs) [.string x8] rB fun(x9:Bool)=>
  L.ite (!x9) (
   K (.tuple #[]))<|
  again3 (IntKind.wrap .i64 (y2.1+1),()))<|
 K (.tuple #[])
theorem zex(p0:FV)(c0:Addr)(h:z9V p0 c0 K w):CV z42 [.v (.func p0.fn p0.fs p0.cs),.v (.pointer (some c0))] K w:=C_of Tryz.f225 zeM _ h
theorem zes:Enters Pr z42:=z0p (by kernel_rfl)
def zi6:Ann:=(.seq .auto (.seq .auto (.seq (.one [(2,(.one (.str)))] .auto) .auto none) none) none)
def zcW(p0:ht3)(K:Value→PT):PT:=
 L.new [.int .i64 p0.1,.int .i64 p0.2.1,.int .i64 p0.2.2.1,.string p0.2.2.2.1] z0b fun b1=>
 L.load eI6 (Ad6 b1 1) fun(x2:Int)=>
 L.ite (x2 == 1) (
  L.load eI6 (Ad6 b1 0) fun(x3:Int)=>
  L.load eI6 (Ad6 b1 2) fun(x4:Int)=>
  L.new [.int .i64 x3,.int .i64 x4] z0g fun b5=>
  L.call Pr z0k [.string zq7,.slice (some ⟨b5,0,none⟩) 2 2] rS fun(x6:ByteArray)=>
  K (.string x6))<|
 L.ite (x2 == 2) (
  L.load eI6 (Ad6 b1 0) fun(x7:Int)=>
  L.new [.int .i64 x7] z0g fun b8=>
  L.call Pr z0k [.string zn7,.slice (some ⟨b8,0,none⟩) 1 1] rS fun(x9:ByteArray)=>
  K (.string x9))<|
 L.ite (x2 == 3) (
  L.load eI6 (Ad6 b1 0) fun(x10:Int)=>
  L.new [.int .i64 x10] z0g fun b11=>
  L.call Pr z0k [.string zqg,.slice (some ⟨b11,0,none⟩) 1 1] rS fun(x12:ByteArray)=>
  K (.string x12))<|
 L.join (Y:=ByteArray×Unit) (fun k13=>
  L.draw<|
  L.load eI6 (Ad6 b1 0) fun(x15:Int)=>
  L.load eS6 (Ad6 b1 3) fun(x16:ByteArray)=>
  L.alts [(
    L.new [.int .i64 x15] z0g fun b17=>
    L.chk (Ad6 b1 3) [.string x16]<|
    L.alts [(
      L.call Pr z0k [.string s_refused,.slice (some ⟨b17,0,none⟩) 1 1] rS fun(x18:ByteArray)=>
      L.chk (Ad6 b1 3) [.string x16]<|
      L.new [.string x16] z01 fun b19=>
      L.chk (Ad6 b1 0) [.int .i64 x15]<|
      L.call Pr z0e [.string x18,.slice (some ⟨b19,0,none⟩) 1 1] rS fun(x20:ByteArray)=>
      k13 (x20,())),(
      L.new [.string x16] z01 fun b21=>
      L.chk (Ad6 b1 0) [.int .i64 x15]<|
      L.call Pr z0k [.string s_refused,.slice (some ⟨b17,0,none⟩) 1 1] rS fun(x22:ByteArray)=>
      L.chk (Ad6 b1 3) [.string x16]<|
      L.call Pr z0e [.string x22,.slice (some ⟨b21,0,none⟩) 1 1] rS fun(x23:ByteArray)=>
      k13 (x23,()))]),(
    L.new [.string x16] z01 fun b24=>
    L.chk (Ad6 b1 0) [.int .i64 x15]<|
    L.new [.int .i64 x15] z0g fun b25=>
    L.chk (Ad6 b1 3) [.string x16]<|
    L.call Pr z0k [.string s_refused,.slice (some ⟨b25,0,none⟩) 1 1] rS fun(x26:ByteArray)=>
    L.chk (Ad6 b1 3) [.string x16]<|
    L.call Pr z0e [.string x26,.slice (some ⟨b24,0,none⟩) 1 1] rS fun(x27:ByteArray)=>
    k13 (x27,()))]) fun z14=>
 K (.string z14.1)
theorem zhR(p0:ht3)(h:zcW p0 K w):CV z9q [.ag (qc3 p0)] K w:=C_of Tryz.f226 zi6 _ h
def zbG(p0:Option Addr)(p1:Int)(K:Value→PT):PT:=
 L.nonnil p0 fun a1=>
 L.call Pr z65 [.pointer (some (a1.add 1)),.int .i64 p1] rI fun(x2:Int)=>
 L.call Pr z7t [.pointer p0] (.tup []) fun(x3:Unit)=>
 K (.int .i64 x2)
theorem zgp(p0:Option Addr)(p1:Int)(h:zbG p0 p1 K w):CV z6D [.v (.pointer p0),.v (.int .i64 p1)] K w:=C_of Tryz.f227 .auto _ h
def z8I(p0:Option Addr)(p1:Int)(K:Value→PT):PT:=
 L.nonnil p0 fun a1=>
 L.load (.one (.map)) (a1.add 0) fun(x2:Option Nat)=>
 L.semR Pr rB (Instr.lookup z2Q (.map x2) (.int .i64 p1) false) fun(x3:Bool)=>
 L.ite (!x3) (
  K (.int .i64 6))<|
 L.nonnil p0 fun a4=>
 L.load (.one (.map)) (a4.add 0) fun(x5:Option Nat)=>
 L.sem Pr (.tup []) (Builtin.delete_ #[z2Q,z0g] T_ #[.map x5,.int .i64 p1]) fun _=>
 K (.int .i64 0)
theorem zdf(p0:Option Addr)(p1:Int)(h:z8I p0 p1 K w):CV z65 [.v (.pointer p0),.v (.int .i64 p1)] K w:=C_of Tryz.f229 .auto _ h
def z7B:Ann:=(.seq .auto (.one [(12,(.one (.int .i64)))] .auto) none)
def z4r(p0:FV)(c0:Addr)(K:Value→PT):PT:=
 L.load eP6 c0 fun(x1:Option Addr)=>
 L.nonnil x1 fun a2=>
 L.load (.one (.map)) (a2.add 0) fun(x3:Option Nat)=>
 L.call Pr z0V [.map x3] (.one (.one (.func))) fun(x4:FV)=>
 L.call Pr z0T [.func x4.fn x4.fs x4.cs] rL fun(x5:Sl)=>
 L.loop (Y:=Int×Unit) (0,()) fun y6 again7=>
 L.ite (decide (y6.1<((x5.len:Nat):Int))) (
  L.idx x5.a y6.1 x5.len 1 fun a8=>
  L.load eS6 a8 fun(x9:ByteArray)=>
  L.load eP6 c0 fun(x10:Option Addr)=>
  L.nonnil x10 fun a11=>
  L.load (.one (.map)) (a11.add 0) fun(x12:Option Nat)=>
  L.semR Pr rP (Instr.lookup z0J (.map x12) (.string x9) false) fun(x13:Option Addr)=>
  L.callV Pr (.func p0.fn p0.fs p0.cs) [.string x9,.pointer x13] rB fun(x14:Bool)=>
  L.ite (!x14) (
   K (.tuple #[]))<|
  again7 (IntKind.wrap .i64 (y6.1+1),()))<|
 K (.tuple #[])
theorem z7A(p0:FV)(c0:Addr)(h:z4r p0 c0 K w):CV z1p [.v (.func p0.fn p0.fs p0.cs),.v (.pointer (some c0))] K w:=C_of Tryz.f230 z7B _ h
theorem z7x:Enters Pr z1p:=z0p (by kernel_rfl)
def z6r(p0:FV)(K:Value→PT):PT:=
 L.call Pr z62 [.func p0.fn p0.fs p0.cs] rL fun(x1:Sl)=>
 L.call Pr z2V [Sv6 x1] (.tup []) fun(x2:Unit)=>
 K (.slice x1.a x1.len x1.cap)
theorem zag(p0:FV)(h:z6r p0 K w):CV z0T [.v (.func p0.fn p0.fs p0.cs)] K w:=C_of Tryz.f231 .auto _ h
def z1x(p0:Option Nat)(K:Value→PT):PT:=
 L.new [.map p0] z0J fun b1=>
 K (.func (.func z0i) #[] #[.pointer (some (⟨b1,0,none⟩))])
theorem z3i(p0:Option Nat)(h:z1x p0 K w):CV z0V [.v (.map p0)] K w:=C_of Tryz.f232 .auto _ h
def zcl:Ann:=(.seq .auto (.seq .auto (.seq .auto (.seq (.seq .auto (.seq .auto .auto (some [(11,(.one (.int .i64))),(12,(.one (.int .i64)))])) none) .auto none) none) none) none)
def z7T(p0:Option Addr)(p1:Int)(K:Value→PT):PT:=
 L.new [.int .i64 p1] z0g fun b1=>
 L.new [.slice none 0 0] z0Y fun b2=>
 L.new [.slice none 0 0] z1n fun b3=>
 L.call Pr z2k [.pointer p0] (.one (.one (.func))) fun(x4:FV)=>
 L.range Pr none (.func x4.fn x4.fs x4.cs) [eI6,eI6] (fun l5(y6:Int×Int×Unit) R7=>
  L.begin Pr l5<|
  L.load eI6 (⟨b1,0,none⟩) fun(x10:Int)=>
  L.ite (decide (y6.2.1≤x10)) (
   L.load eL6 (⟨b2,0,none⟩) fun(x11:Sl)=>
   L.new [.int .i64 y6.1] z0g fun b12=>
   L.sem Pr (.one (.one .slice)) (Builtin.append_ #[z0Y,z0Y] z0Y #[Sv6 x11,.slice (some ⟨b12,0,none⟩) 1 1]) fun(s13:Sl)=>
   L.store (⟨b2,0,none⟩) [Sv6 s13]<|
   L.endRound Pr l5 none R7)<|
  L.load eL6 (⟨b3,0,none⟩) fun(x14:Sl)=>
  L.new [.int .i64 y6.1,.int .i64 y6.2.1] z2x fun b15=>
  L.sem Pr (.one (.one .slice)) (Builtin.append_ #[z1n,z1n] z1n #[Sv6 x14,.slice (some ⟨b15,0,none⟩) 1 1]) fun(s16:Sl)=>
  L.store (⟨b3,0,none⟩) [Sv6 s16]<|
  L.endRound Pr l5 none R7) fun d8 j9=>
 L.jump j9 (
  L.load eL6 (⟨b3,0,none⟩) fun(x17:Sl)=>
  L.nonnil p0 fun a18=>
  L.store (a18.add 0) [Sv6 x17]<|
  L.load eL6 (⟨b2,0,none⟩) fun(x19:Sl)=>
  L.call Pr z19 [Sv6 x19] rL fun(x20:Sl)=>
  L.unmark Pr (d8++[])<|
  K (.slice x20.a x20.len x20.cap)) (
  L.unmark Pr (d8++[])<|
  K (.slice none 0 0)) []
theorem zc4(p0:Option Addr)(p1:Int)(h:z7T p0 p1 K w):CV z7K [.v (.pointer p0),.v (.int .i64 p1)] K w:=C_of Tryz.f233 zcl _ h
def z3u(p0:Option Nat)(K:Value→PT):PT:=
 L.call Pr z1i [.map p0] (.one (.one (.func))) fun(x1:FV)=>
 L.call Pr z0T [.func x1.fn x1.fs x1.cs] rL fun(x2:Sl)=>
 K (.slice x2.a x2.len x2.cap)
theorem z6m(p0:Option Nat)(h:z3u p0 K w):CV z1q [.v (.map p0)] K w:=C_of Tryz.f234 .auto _ h
def z7Y(p0:Option Addr)(p1:ByteArray)(K:Value→PT):PT:=
 L.call Pr z3K [.pointer p0,.string p1,.func (.func z3m) #[] #[]] rS fun(x1:ByteArray)=>
 L.call Pr z3K [.pointer p0,.string p1,.func (.func z1H) #[.pointer p0] #[]] rS fun(x2:ByteArray)=>
 K (.tuple #[.string x1,.string x2])
theorem zc9(p0:Option Addr)(p1:ByteArray)(h:z7Y p0 p1 K w):CV z5A [.v (.pointer p0),.v (.string p1)] K w:=C_of Tryz.f235 .auto _ h
def z8k:Ann:=(.seq .auto (.one [(9,(.one (.int .i64)))] .auto) none)
def z4L(p0:FV)(c0:Addr)(K:Value→PT):PT:=
 L.load (.one (.map)) c0 fun(x1:Option Nat)=>
 L.call Pr z1A [.map x1] (.one (.one (.func))) fun(x2:FV)=>
 L.call Pr z0T [.func x2.fn x2.fs x2.cs] rL fun(x3:Sl)=>
 L.loop (Y:=Int×Unit) (0,()) fun y4 again5=>
 L.ite (decide (y4.1<((x3.len:Nat):Int))) (
  L.idx x3.a y4.1 x3.len 1 fun a6=>
  L.load eS6 a6 fun(x7:ByteArray)=>
  L.load (.one (.map)) c0 fun(x8:Option Nat)=>
  L.semR Pr rI (Instr.lookup z0M (.map x8) (.string x7) false) fun(x9:Int)=>
  L.callV Pr (.func p0.fn p0.fs p0.cs) [.string x7,.int .i64 x9] rB fun(x10:Bool)=>
  L.ite (!x10) (
   K (.tuple #[]))<|
  again5 (IntKind.wrap .i64 (y4.1+1),()))<|
 K (.tuple #[])
theorem z8h(p0:FV)(c0:Addr)(h:z4L p0 c0 K w):CV z1s [.v (.func p0.fn p0.fs p0.cs),.v (.pointer (some c0))] K w:=C_of Tryz.f236 z8k _ h
theorem z8c:Enters Pr z1s:=z0p (by kernel_rfl)
def z2N(p0:Option Nat)(K:Value→PT):PT:=
 L.new [.map p0] z0M fun b1=>
 K (.func (.func z0z) #[] #[.pointer (some (⟨b1,0,none⟩))])
theorem z5k(p0:Option Nat)(h:z2N p0 K w):CV z1A [.v (.map p0)] K w:=C_of Tryz.f237 .auto _ h
def z73:Ann:=(.seq .auto (.one [(9,(.one (.int .i64)))] .auto) none)
def z3I(p0:FV)(c0:Addr)(K:Value→PT):PT:=
 L.load (.one (.map)) c0 fun(x1:Option Nat)=>
 L.call Pr z1g [.map x1] (.one (.one (.func))) fun(x2:FV)=>
 L.call Pr z0T [.func x2.fn x2.fs x2.cs] rL fun(x3:Sl)=>
 L.loop (Y:=Int×Unit) (0,()) fun y4 again5=>
 L.ite (decide (y4.1<((x3.len:Nat):Int))) (
  L.idx x3.a y4.1 x3.len 1 fun a6=>
  L.load eS6 a6 fun(x7:ByteArray)=>
  L.load (.one (.map)) c0 fun(x8:Option Nat)=>
  L.semR Pr rS (Instr.lookup z0s (.map x8) (.string x7) false) fun(x9:ByteArray)=>
  L.callV Pr (.func p0.fn p0.fs p0.cs) [.string x7,.string x9] rB fun(x10:Bool)=>
  L.ite (!x10) (
   K (.tuple #[]))<|
  again5 (IntKind.wrap .i64 (y4.1+1),()))<|
 K (.tuple #[])
theorem z6Z(p0:FV)(c0:Addr)(h:z3I p0 c0 K w):CV z1e [.v (.func p0.fn p0.fs p0.cs),.v (.pointer (some c0))] K w:=C_of Tryz.f238 z73 _ h
theorem z6X:Enters Pr z1e:=z0p (by kernel_rfl)
def z1X(p0:Option Nat)(K:Value→PT):PT:=
 L.new [.map p0] z0s fun b1=>
 K (.func (.func z0n) #[] #[.pointer (some (⟨b1,0,none⟩))])
theorem z3Y(p0:Option Nat)(h:z1X p0 K w):CV z1g [.v (.map p0)] K w:=C_of Tryz.f239 .auto _ h
def z3d(p0:Sl)(K:Value→PT):PT:=
 L.ite ((p0.a).isNone) (
  K (.slice none 0 0))<|
 L.new [] z0v fun b1=>
 L.sem Pr (.one (.one .slice)) (Builtin.append_ #[z0F,z0F] z0F #[.slice (some ⟨b1,0,none⟩) 0 0,Sv6 p0]) fun(s2:Sl)=>
 K (.slice s2.a s2.len s2.cap)
theorem z5T(p0:Sl)(h:z3d p0 K w):CV z0A [.v (.slice p0.a p0.len p0.cap)] K w:=C_of Tryz.f240 .auto _ h
def z3c(p0:Sl)(K:Value→PT):PT:=
 L.ite ((p0.a).isNone) (
  K (.slice none 0 0))<|
 L.new [] z3t fun b1=>
 L.sem Pr (.one (.one .slice)) (Builtin.append_ #[z3U,z3U] z3U #[.slice (some ⟨b1,0,none⟩) 0 0,Sv6 p0]) fun(s2:Sl)=>
 K (.slice s2.a s2.len s2.cap)
theorem z5S(p0:Sl)(h:z3c p0 K w):CV z1S [.v (.slice p0.a p0.len p0.cap)] K w:=C_of Tryz.f241 .auto _ h
def z71:Ann:=(.seq .auto (.seq .auto (.seq (.seq .auto (.one [(5,(.one (.slice))),(12,(.one (.int .i64)))] (.seq .auto (.seq .auto (.seq (.seq .auto (.seq .auto (.one [(5,(.one (.slice))),(18,(.one (.int .i64)))] .auto) none) none) .auto none) none) none)) none) .auto none) none) none)
end Go.Proofs.YtdcdhcgmeahfmaaGreatDoor
