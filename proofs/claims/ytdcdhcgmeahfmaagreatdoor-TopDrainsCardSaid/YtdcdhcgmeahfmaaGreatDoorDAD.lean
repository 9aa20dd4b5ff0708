/- What is proved on the way to a statement of the seat, pressed (text AD). No conditions beyond those its theorems state. -/
import Derived.Test.YtdcdhcgmeahfmaaGreatDoorDAC
import Derived.Test.YtdcdhcgmeahfmaaGreatDoorProg
set_option linter.all false
namespace Go.Proofs.YtdcdhcgmeahfmaaGreatDoor
set_option maxRecDepth 100000
open Go.Dm
variable {K:Value→PT}{w:World}
abbrev ht0:=HT [.str,.int .i64,.int .i64,.int .i64,.int .i64,.int .i64]
abbrev ht1:=HT [.int .i64,.str,.str,.int .i64,.int .i64,.str,.int .i64,.int .i64,.int .i64,.int .i64,.int .i64,.str,.str,.slice,.int .i64]
abbrev ht2:=HT [.str,.str,.slice,.int .i64]
abbrev ht3:=HT [.int .i64,.int .i64,.int .i64,.str]
abbrev qc0(p:ht0):List Value:=[.string p.1,.int .i64 p.2.1,.int .i64 p.2.2.1,.int .i64 p.2.2.2.1,.int .i64 p.2.2.2.2.1,.int .i64 p.2.2.2.2.2.1]
abbrev qc1(p:ht1):List Value:=[.int .i64 p.1,.string p.2.1,.string p.2.2.1,.int .i64 p.2.2.2.1,.int .i64 p.2.2.2.2.1,.string p.2.2.2.2.2.1,.int .i64 p.2.2.2.2.2.2.1,.int .i64 p.2.2.2.2.2.2.2.1,.int .i64 p.2.2.2.2.2.2.2.2.1,.int .i64 p.2.2.2.2.2.2.2.2.2.1,.int .i64 p.2.2.2.2.2.2.2.2.2.2.1,.string p.2.2.2.2.2.2.2.2.2.2.2.1,.string p.2.2.2.2.2.2.2.2.2.2.2.2.1,.slice p.2.2.2.2.2.2.2.2.2.2.2.2.2.1.a p.2.2.2.2.2.2.2.2.2.2.2.2.2.1.len p.2.2.2.2.2.2.2.2.2.2.2.2.2.1.cap,.int .i64 p.2.2.2.2.2.2.2.2.2.2.2.2.2.2.1]
abbrev qc2(p:ht2):List Value:=[.string p.1,.string p.2.1,.slice p.2.2.1.a p.2.2.1.len p.2.2.1.cap,.int .i64 p.2.2.2.1]
abbrev qc3(p:ht3):List Value:=[.int .i64 p.1,.int .i64 p.2.1,.int .i64 p.2.2.1,.string p.2.2.2.1]
abbrev pt0:=ByteArray×Int×Int×Int×Int×Int×Unit
abbrev pt1:=Int×ByteArray×ByteArray×Int×Int×ByteArray×Int×Int×Int×Int×Int×ByteArray×ByteArray×Sl×Int×Unit
abbrev pt2:=(Bool×Bool×Bool×Bool×Bool×Bool×Unit)×Bool×Unit
abbrev pt3:=ByteArray×ByteArray×Sl×Int×Unit
abbrev pt4:=(ByteArray×Int×Int×Int×Int×Int×Unit)×Int×Int×Bool×Unit
abbrev pt5:=(ByteArray×ByteArray×Sl×Int×Unit)×Int×Bool×Unit
abbrev pt6:=(ByteArray×Int×ByteArray×Int×Int×Int×Int×Int×Unit)×Bool×Unit
abbrev pt7:=Int×(ByteArray×Int×Unit)×Unit
abbrev pt8:=Bool×Bool×Bool×Bool×Bool×Bool×Unit
abbrev pt9:=ByteArray×ByteArray×Int×Unit
abbrev pt10:=Int×Int×Int×ByteArray×Unit
abbrev pt11:=(Int×Int×Int×ByteArray×Unit)×Bool×Unit
abbrev pt12:=(ByteArray×Option Addr×Unit)×Bool×Unit
abbrev pt13:=(ByteArray×Int×Int×Int×Int×Int×Int×Int×Bool×Unit)×Bool×Unit
abbrev pt14:=ByteArray×Int×ByteArray×Int×Int×Int×Int×Int×Unit
abbrev pt15:=(ByteArray×ByteArray×Sl×Int×Int×Int×Bool×Unit)×Bool×Unit
abbrev pt16:=(Sl×Sl×Int×Int×Sl×Sl×Unit)×Bool×Unit
abbrev pt17:=Sl×Sl×Int×Int×Sl×Sl×Unit
abbrev pt18:=Int×Option (TypeId×Value)×Unit
abbrev pt19:=ByteArray×Int×Int×Int×Int×Int×Int×Int×Bool×Unit
abbrev pt20:=ByteArray×ByteArray×Sl×Int×Int×Int×Bool×Unit
abbrev pt21:=(ByteArray×Int×Unit)×Bool×Unit
abbrev pt22:=Int×(ByteArray×Option Addr×Unit)×Unit
abbrev pt23:=ByteArray×(ByteArray×Int×ByteArray×Int×Int×Int×Int×Int×Unit)×Unit
abbrev lf0:List Lf:=[.str,.int .i64,.int .i64,.int .i64,.int .i64,.int .i64]
abbrev lf1:List Lf:=[.int .i64,.str,.str,.int .i64,.int .i64,.str,.int .i64,.int .i64,.int .i64,.int .i64,.int .i64,.str,.str,.slice,.int .i64]
abbrev lf2:List Lf:=[.ptr,.ptr,.ptr,.ptr,.ptr,.map,.int .i64]
abbrev lf3:List Lf:=[.bool,.bool,.bool,.bool,.bool,.bool]
abbrev lf4:List Lf:=[.str,.int .i64,.str,.int .i64,.int .i64,.int .i64,.int .i64,.int .i64]
abbrev lf5:List Lf:=[.ptr,.map,.map,.func,.int .i64,.int .i64]
abbrev lf6:List Lf:=[.int .i64,.int .i64,.int .i64,.int .i64,.int .i64,.int .i64,.int .i64,.int .i64,.int .i64,.int .i64,.int .i64,.int .i64,.int .i64,.int .i64,.int .i64,.int .i64,.int .i64,.int .i64,.int .i64,.int .i64,.int .i64,.int .i64,.int .i64,.int .i64,.int .i64,.int .i64,.int .i64,.int .i64,.int .i64,.int .i64,.int .i64,.int .i64,.int .i64,.int .i64,.int .i64,.int .i64,.int .i64,.int .i64,.int .i64,.int .i64,.int .i64,.int .i64,.int .i64,.int .i64,.int .i64,.int .i64,.int .i64,.int .i64,.int .i64,.int .i64,.int .i64,.int .i64,.int .i64,.int .i64,.int .i64,.int .i64,.int .i64,.int .i64,.int .i64,.int .i64]
abbrev lf7:List Lf:=[.int .i64,.int .i64,.int .i64,.int .i64,.int .i64,.int .i64,.int .i64,.int .i64,.int .i64,.int .i64,.int .i64,.int .i64,.int .i64,.int .i64,.int .i64,.int .i64,.int .i64,.int .i64,.int .i64,.int .i64,.int .i64,.int .i64,.int .i64,.int .i64,.int .i64,.int .i64,.int .i64,.int .i64,.int .i64,.int .i64,.int .i64,.int .i64,.int .i64,.int .i64,.int .i64,.int .i64,.int .i64,.int .i64,.int .i64,.int .i64,.int .i64,.int .i64,.int .i64,.int .i64,.int .i64,.int .i64,.int .i64,.int .i64,.int .i64,.int .i64,.int .i64,.int .i64,.int .i64,.int .i64,.int .i64,.int .i64,.int .i64,.int .i64,.int .i64,.int .i64,.int .i64]
abbrev lf8:List Lf:=[.int .i64,.int .i64,.int .i64,.int .i64,.int .i64,.int .i64,.int .i64,.int .i64,.int .i64,.int .i64,.int .i64,.int .i64,.int .i64,.int .i64,.int .i64,.int .i64,.int .i64,.int .i64,.int .i64,.int .i64,.int .i64,.int .i64,.int .i64,.int .i64,.int .i64,.int .i64,.int .i64,.int .i64,.int .i64,.int .i64,.int .i64,.int .i64,.int .i64,.int .i64,.int .i64,.int .i64,.int .i64,.int .i64,.int .i64,.int .i64,.int .i64,.int .i64,.int .i64,.int .i64,.int .i64,.int .i64,.int .i64,.int .i64,.int .i64,.int .i64,.int .i64,.int .i64,.int .i64,.int .i64,.int .i64,.int .i64,.int .i64,.int .i64,.int .i64,.int .i64,.int .i64,.int .i64]
abbrev lf9:List Lf:=[.str,.int .i64,.int .i64,.int .i64,.int .i64,.int .i64,.int .i64,.int .i64,.bool]
abbrev lf10:List Lf:=[.str,.str,.slice,.int .i64,.int .i64,.int .i64,.bool]
abbrev lf11:List Lf:=[.slice,.slice,.int .i64,.int .i64,.slice,.slice]
abbrev lf12:List Lf:=[.int .u8,.int .u8,.int .u8,.int .u8,.int .u8,.int .u8,.int .u8,.int .u8,.int .u8,.int .u8,.int .u8,.int .u8,.int .u8,.int .u8,.int .u8,.int .u8,.int .u8,.int .u8,.int .u8,.int .u8,.int .u8,.int .u8,.int .u8,.int .u8]
abbrev lf13:List Lf:=[.int .u64,.int .u64,.int .u64,.int .u64,.int .u64,.int .u64,.int .u64,.int .u64,.int .u64,.int .u64,.int .u64,.int .u64,.int .u64,.int .u64,.int .u64,.int .u64,.int .u64,.int .u64,.int .u64,.int .u64]
abbrev lf14:List Lf:=[.int .u8,.int .u8,.int .u8,.int .u8,.int .u8,.int .u8,.int .u8,.int .u8,.int .u8,.int .u8,.int .u8,.int .u8,.int .u8,.int .u8,.int .u8,.int .u8,.int .u8,.int .u8,.int .u8,.int .u8,.int .u8,.int .u8,.int .u8,.int .u8,.int .u8,.int .u8,.int .u8,.int .u8,.int .u8,.int .u8,.int .u8,.int .u8,.int .u8,.int .u8,.int .u8,.int .u8,.int .u8,.int .u8,.int .u8,.int .u8,.int .u8,.int .u8,.int .u8,.int .u8,.int .u8,.int .u8,.int .u8,.int .u8,.int .u8,.int .u8,.int .u8,.int .u8,.int .u8,.int .u8,.int .u8,.int .u8,.int .u8,.int .u8,.int .u8,.int .u8,.int .u8,.int .u8,.int .u8,.int .u8,.int .u8]
abbrev lf15:List Lf:=[.int .u8,.int .u8,.int .u8,.int .u8,.int .u8,.int .u8,.int .u8,.int .u8,.int .u8,.int .u8,.int .u8,.int .u8,.int .u8,.int .u8,.int .u8,.int .u8,.int .u8,.int .u8,.int .u8,.int .u8,.int .u8,.int .u8,.int .u8,.int .u8,.int .u8,.int .u8,.int .u8,.int .u8,.int .u8,.int .u8,.int .u8,.int .u8]
abbrev lf16:List Lf:=[.int .u8,.int .u8,.int .u8,.int .u8,.int .u8,.int .u8,.int .u8,.int .u8,.int .u8,.int .u8,.int .u8,.int .u8,.int .u8,.int .u8,.int .u8,.int .u8,.int .u8,.int .u8,.int .u8,.int .u8,.int .u8,.int .u8,.int .u8,.int .u8,.int .u8,.int .u8,.int .u8,.int .u8,.int .u8,.int .u8,.int .u8,.int .u8,.int .u8,.int .u8,.int .u8,.int .u8,.int .u8,.int .u8,.int .u8,.int .u8,.int .u8,.int .u8,.int .u8,.int .u8,.int .u8,.int .u8,.int .u8,.int .u8,.int .u8,.int .u8,.int .u8,.int .u8,.int .u8,.int .u8,.int .u8,.int .u8,.int .u8,.int .u8,.int .u8,.int .u8,.int .u8,.int .u8,.int .u8,.int .u8]
abbrev lf17:List Lf:=[.int .u64,.int .u64,.int .u32,.int .u8,.int .u8,.int .u8,.int .u8,.func,.ptr,.int .i32,.int .i32]
abbrev qa0(p:pt0):Value:=.agg #[.string p.1,.int .i64 p.2.1,.int .i64 p.2.2.1,.int .i64 p.2.2.2.1,.int .i64 p.2.2.2.2.1,.int .i64 p.2.2.2.2.2.1]
abbrev qa1(p:pt1):Value:=.agg #[.int .i64 p.1,.string p.2.1,.string p.2.2.1,.int .i64 p.2.2.2.1,.int .i64 p.2.2.2.2.1,.string p.2.2.2.2.2.1,.int .i64 p.2.2.2.2.2.2.1,.int .i64 p.2.2.2.2.2.2.2.1,.int .i64 p.2.2.2.2.2.2.2.2.1,.int .i64 p.2.2.2.2.2.2.2.2.2.1,.int .i64 p.2.2.2.2.2.2.2.2.2.2.1,.string p.2.2.2.2.2.2.2.2.2.2.2.1,.string p.2.2.2.2.2.2.2.2.2.2.2.2.1,.slice p.2.2.2.2.2.2.2.2.2.2.2.2.2.1.a p.2.2.2.2.2.2.2.2.2.2.2.2.2.1.len p.2.2.2.2.2.2.2.2.2.2.2.2.2.1.cap,.int .i64 p.2.2.2.2.2.2.2.2.2.2.2.2.2.2.1]
abbrev qa2(p:pt8):Value:=.agg #[.bool p.1,.bool p.2.1,.bool p.2.2.1,.bool p.2.2.2.1,.bool p.2.2.2.2.1,.bool p.2.2.2.2.2.1]
abbrev qa3(p:pt14):Value:=.agg #[.string p.1,.int .i64 p.2.1,.string p.2.2.1,.int .i64 p.2.2.2.1,.int .i64 p.2.2.2.2.1,.int .i64 p.2.2.2.2.2.1,.int .i64 p.2.2.2.2.2.2.1,.int .i64 p.2.2.2.2.2.2.2.1]
abbrev qa4(p:pt17):Value:=.agg #[.slice p.1.a p.1.len p.1.cap,.slice p.2.1.a p.2.1.len p.2.1.cap,.int .i64 p.2.2.1,.int .i64 p.2.2.2.1,.slice p.2.2.2.2.1.a p.2.2.2.2.1.len p.2.2.2.2.1.cap,.slice p.2.2.2.2.2.1.a p.2.2.2.2.2.1.len p.2.2.2.2.2.1.cap]
abbrev qa5(p:pt19):Value:=.agg #[.string p.1,.int .i64 p.2.1,.int .i64 p.2.2.1,.int .i64 p.2.2.2.1,.int .i64 p.2.2.2.2.1,.int .i64 p.2.2.2.2.2.1,.int .i64 p.2.2.2.2.2.2.1,.int .i64 p.2.2.2.2.2.2.2.1,.bool p.2.2.2.2.2.2.2.2.1]
abbrev qa6(p:pt20):Value:=.agg #[.string p.1,.string p.2.1,.slice p.2.2.1.a p.2.2.1.len p.2.2.1.cap,.int .i64 p.2.2.2.1,.int .i64 p.2.2.2.2.1,.int .i64 p.2.2.2.2.2.1,.bool p.2.2.2.2.2.2.1]
abbrev eI6:E1:=.one (.int .i64)
abbrev eS6:E1:=.one .str
abbrev eL6:E1:=.one .slice
abbrev eB6:E1:=.one .bool
abbrev eP6:E1:=.one .ptr
abbrev rI:RT:=.one eI6
abbrev rS:RT:=.one eS6
abbrev rL:RT:=.one eL6
abbrev rB:RT:=.one eB6
abbrev rP:RT:=.one eP6
abbrev Sv6(v:Sl):Value:=.slice v.a v.len v.cap
abbrev Ad6(b n:Nat):Addr:=(⟨b,0,none⟩:Addr).add n
noncomputable abbrev Pr:Program:=Tryz.prog
abbrev z6M:Nat:=5
abbrev z04:Nat:=11
abbrev z4e:Nat:=12
abbrev z7f:Nat:=13
abbrev z1M:Nat:=16
abbrev z5c:Nat:=17
abbrev z6L:Nat:=19
abbrev z4f:Nat:=22
abbrev z6x:Nat:=24
abbrev z3l:Nat:=25
abbrev z7d:Nat:=26
abbrev z7x:Nat:=29
abbrev z0i:Nat:=30
abbrev z3x:Nat:=31
abbrev z1G:Nat:=32
abbrev z1P:Nat:=33
abbrev z5b:Nat:=34
abbrev z1H:Nat:=35
abbrev z27:Nat:=36
abbrev z2C:Nat:=37
abbrev z22:Nat:=38
abbrev z1Y:Nat:=39
abbrev z1O:Nat:=40
abbrev z1Z:Nat:=41
abbrev z4z:Nat:=42
abbrev z1C:Nat:=43
abbrev z4m:Nat:=44
abbrev z67:Nat:=45
abbrev z2e:Nat:=47
abbrev z2S:Nat:=49
abbrev zbV:Nat:=50
abbrev zbS:Nat:=51
abbrev zbR:Nat:=52
abbrev zdA:Nat:=53
abbrev zdB:Nat:=54
abbrev z64:Nat:=55
abbrev z0Z:Nat:=56
abbrev zdz:Nat:=57
abbrev z6y:Nat:=58
abbrev z9r:Nat:=59
abbrev z7v:Nat:=60
abbrev z5x:Nat:=61
abbrev z3P:Nat:=62
abbrev z3Q:Nat:=63
abbrev zau:Nat:=64
abbrev z8V:Nat:=65
abbrev z7w:Nat:=66
abbrev z3p:Nat:=67
abbrev z0R:Nat:=68
abbrev z0r:Nat:=69
abbrev z0z:Nat:=70
abbrev z4d:Nat:=71
abbrev z6C:Nat:=72
abbrev zfq:Nat:=73
abbrev zgG:Nat:=74
abbrev z3N:Nat:=75
abbrev z8C:Nat:=76
abbrev z4h:Nat:=77
abbrev z1k:Nat:=79
abbrev z4B:Nat:=81
abbrev z65:Nat:=82
abbrev z4R:Nat:=83
abbrev z0q:Nat:=84
abbrev z79:Nat:=85
abbrev z5w:Nat:=86
abbrev z7c:Nat:=87
abbrev z1K:Nat:=88
abbrev z5Z:Nat:=89
abbrev z43:Nat:=90
abbrev z77:Nat:=93
abbrev z5m:Nat:=94
abbrev z6v:Nat:=95
abbrev z7a:Nat:=96
abbrev z3v:Nat:=97
abbrev z5Y:Nat:=98
abbrev zbU:Nat:=99
abbrev z3M:Nat:=100
abbrev z6F:Nat:=101
abbrev zap:Nat:=102
abbrev z63:Nat:=103
abbrev z42:Nat:=104
abbrev z4A:Nat:=105
abbrev z5B:Nat:=110
abbrev z36:Nat:=111
abbrev z4C:Nat:=112
abbrev z5X:Nat:=113
abbrev z18:Nat:=114
abbrev z3i:Nat:=115
abbrev z1u:Nat:=116
abbrev z2q:Nat:=117
abbrev z1I:Nat:=118
abbrev z3L:Nat:=120
abbrev z1q:Nat:=121
abbrev z4g:Nat:=122
abbrev z0H:Nat:=123
abbrev z8D:Nat:=124
abbrev zdx:Nat:=125
abbrev z9x:Nat:=126
abbrev z6u:Nat:=127
abbrev z7s:Nat:=128
abbrev z6B:Nat:=129
abbrev ze0:Nat:=130
abbrev zdZ:Nat:=131
abbrev z3O:Nat:=132
abbrev z4D:Nat:=133
abbrev z7u:Nat:=134
abbrev z1l:Nat:=135
abbrev z9u:Nat:=136
abbrev zdy:Nat:=137
abbrev z2W:Nat:=142
abbrev z2V:Nat:=143
abbrev z3f:Nat:=144
abbrev z3e:Nat:=145
abbrev z9v:Nat:=146
abbrev z6K:Nat:=149
abbrev zaq:Nat:=150
abbrev z9s:Nat:=151
abbrev z78:Nat:=152
abbrev z6w:Nat:=153
abbrev z1w:Nat:=154
abbrev z2E:Nat:=155
abbrev z4y:Nat:=156
abbrev z5v:Nat:=157
abbrev z5u:Nat:=158
abbrev zbw:Nat:=159
abbrev z68:Nat:=160
abbrev zar:Nat:=161
abbrev z7O:Nat:=162
abbrev z1n:Nat:=163
abbrev z4T:Nat:=165
abbrev z54:Nat:=166
abbrev z73:Nat:=167
abbrev z74:Nat:=168
abbrev z5d:Nat:=169
abbrev z2X:Nat:=170
abbrev z9z:Nat:=171
abbrev z3g:Nat:=172
abbrev z9y:Nat:=173
abbrev z5o:Nat:=174
abbrev z4l:Nat:=175
abbrev z2l:Nat:=176
abbrev z9q:Nat:=177
abbrev z1m:Nat:=178
abbrev z9w:Nat:=179
abbrev z7b:Nat:=185
abbrev zfp:Nat:=186
abbrev z5A:Nat:=187
abbrev z7R:Nat:=188
abbrev z2k:Nat:=191
abbrev z3k:Nat:=192
abbrev z3K:Nat:=193
abbrev z1g:Nat:=194
abbrev z0G:Nat:=202
abbrev z7Q:Nat:=203
abbrev z5n:Nat:=204
abbrev zbW:Nat:=205
abbrev z9A:Nat:=206
abbrev zbT:Nat:=207
abbrev z5l:Nat:=208
abbrev z5k:Nat:=209
abbrev z7P:Nat:=210
abbrev zbx:Nat:=211
abbrev zas:Nat:=212
abbrev z6G:Nat:=213
abbrev z1e:Nat:=214
abbrev z5K:Nat:=215
abbrev z1J:Nat:=219
abbrev z5z:Nat:=222
abbrev z66:Nat:=223
abbrev z5W:Nat:=224
abbrev z40:Nat:=225
abbrev z9t:Nat:=226
abbrev z6E:Nat:=227
abbrev z62:Nat:=229
abbrev z1r:Nat:=230
abbrev z0V:Nat:=231
abbrev z0W:Nat:=232
abbrev z7N:Nat:=233
abbrev z1s:Nat:=234
abbrev z5y:Nat:=235
abbrev z1v:Nat:=236
abbrev z1D:Nat:=237
abbrev z1d:Nat:=238
abbrev z1f:Nat:=239
abbrev z0B:Nat:=240
abbrev z1T:Nat:=241
abbrev z2x:Nat:=242
abbrev zb7:Nat:=243
abbrev z4S:Nat:=244
abbrev z7t:Nat:=246
abbrev z2w:Nat:=258
abbrev z7g:Nat:=259
abbrev z0o:Nat:=260
abbrev z1t:Nat:=261
abbrev z8U:Nat:=262
abbrev z3w:Nat:=263
abbrev z2y:Nat:=264
abbrev z7S:Nat:=265
abbrev zat:Nat:=266
abbrev zbc:Nat:=267
abbrev z2n:Nat:=272
abbrev z0J:Nat:=279
abbrev z0y:Nat:=280
abbrev z6D:Nat:=281
abbrev z60:Nat:=283
abbrev z2U:Nat:=284
abbrev z0f:Nat:=285
abbrev z1i:Nat:=286
abbrev z3J:Nat:=287
abbrev z3j:Nat:=288
abbrev z0A:Nat:=289
abbrev z0n:Nat:=290
abbrev z3F:Nat:=291
abbrev z2D:Nat:=292
abbrev z61:Nat:=293
abbrev z3d:Nat:=300
abbrev z45:Nat:=301
abbrev z3c:Nat:=302
abbrev z5C:Nat:=303
abbrev z2T:Nat:=314
abbrev z97:Nat:=315
abbrev z2f:Nat:=316
abbrev z09:Nat:=318
abbrev z0U:Nat:=325
abbrev z0b:Nat:=326
abbrev z1L:Nat:=338
abbrev z0N:Nat:=343
abbrev T_:Nat:=0
abbrev z0h:Nat:=3
abbrev z1U:Nat:=4
abbrev z3T:Nat:=5
abbrev z00:Nat:=9
abbrev zbZ:Nat:=20
abbrev z0t:Nat:=23
abbrev z1b:Nat:=24
abbrev z1z:Nat:=27
abbrev z07:Nat:=33
abbrev z2s:Nat:=34
abbrev z6H:Nat:=35
abbrev z0s:Nat:=37
abbrev z0c:Nat:=39
abbrev z1y:Nat:=42
abbrev z4G:Nat:=45
abbrev z08:Nat:=56
abbrev z03:Nat:=69
abbrev z0P:Nat:=73
abbrev z3o:Nat:=74
abbrev z0T:Nat:=76
abbrev zaC:Nat:=78
abbrev z2j:Nat:=80
abbrev z4X:Nat:=81
abbrev z7V:Nat:=87
abbrev z0m:Nat:=101
abbrev z0F:Nat:=102
abbrev z3U:Nat:=103
abbrev z02:Nat:=105
abbrev z3r:Nat:=107
abbrev z0d:Nat:=128
abbrev z0a:Nat:=132
abbrev z0p:Nat:=157
abbrev z1p:Nat:=165
abbrev z0I:Nat:=166
abbrev zfN:Nat:=171
abbrev z0S:Nat:=173
abbrev z3V:Nat:=175
abbrev z0x:Nat:=187
abbrev z0K:Nat:=188
abbrev zcF:Nat:=190
abbrev zcE:Nat:=198
abbrev z0l:Nat:=200
abbrev z4n:Nat:=202
abbrev ze3:Nat:=204
abbrev z1Q:Nat:=205
abbrev z9I:Nat:=207
abbrev z2r:Nat:=209
abbrev zfM:Nat:=211
abbrev z2J:Nat:=217
abbrev zfL:Nat:=226
abbrev z5D:Nat:=256
abbrev z6c:Nat:=271
abbrev z0e:Nat:=273
abbrev z0k:Nat:=277
abbrev z0L:Nat:=280
abbrev z0v:Nat:=281
abbrev z3q:Nat:=290
abbrev z3n:Nat:=294
abbrev z2a:Nat:=296
abbrev z1o:Nat:=315
abbrev z6z:Nat:=319
abbrev z2O:Nat:=324
abbrev zaD:Nat:=328
abbrev z0w:Nat:=332
abbrev z0Q:Nat:=334
abbrev z0C:Nat:=335
abbrev z0D:Nat:=337
abbrev z0O:Nat:=341
abbrev z0E:Nat:=353
abbrev z2z:Nat:=356
abbrev z48:Nat:=385
abbrev zbz:Nat:=390
abbrev z1a:Nat:=404
abbrev z06:Nat:=406
def s_:ByteArray:=⟨#[]⟩
def z5U:ByteArray:=⟨#[102,114,111,110,116]⟩
def zhn:ByteArray:=⟨#[119,101,98,45,49]⟩
def zbO:ByteArray:=⟨#[119,101,98]⟩
def s_sent:ByteArray:=⟨#[115,101,110,116]⟩
def s_done__51ab:ByteArray:=⟨#[100,111,110,101,32]⟩
def zqv:ByteArray:=⟨#[98,97,100]⟩
def s__:ByteArray:=⟨#[45]⟩
def zgf:ByteArray:=⟨#[97,45,49]⟩
def z8A:ByteArray:=⟨#[32]⟩
def zhp:ByteArray:=⟨#[99,111,110,102,105,103]⟩
def znf:ByteArray:=⟨#[114,111,117,116,101]⟩
def zng:ByteArray:=⟨#[100,114,111,112,112,101,100]⟩
def s_scale:ByteArray:=⟨#[115,99,97,108,101]⟩
def s_up:ByteArray:=⟨#[117,112]⟩
def zeT:ByteArray:=⟨#[112,114,111,118,101,100]⟩
def zrR:ByteArray:=⟨#[100,111,119,110]⟩
def znb:ByteArray:=⟨#[116,105,99,107]⟩
def zq1:ByteArray:=⟨#[115,97,109,101]⟩
def zb4:ByteArray:=⟨#[114,101,118,105,115,105,111,110]⟩
def znc:ByteArray:=⟨#[116,97,98,108,101]⟩
def zq5:ByteArray:=⟨#[109,97,100,101]⟩
def zq8:ByteArray:=⟨#[103,111,110,101]⟩
def s_fleet:ByteArray:=⟨#[102,108,101,101,116]⟩
def s_ok:ByteArray:=⟨#[111,107]⟩
def zq3:ByteArray:=⟨#[110,97,109,101]⟩
def zrT:ByteArray:=⟨#[97,114,103]⟩
def zq6:ByteArray:=⟨#[108,111,110,103]⟩
def zrQ:ByteArray:=⟨#[115,117,109]⟩
def s_twice:ByteArray:=⟨#[116,119,105,99,101]⟩
def zq2:ByteArray:=⟨#[110,111,110,101]⟩
def zho:ByteArray:=⟨#[101,114,114,111,114]⟩
def zne:ByteArray:=⟨#[115,116,97,108,101]⟩
def zq9:ByteArray:=⟨#[102,117,108,108]⟩
def znd:ByteArray:=⟨#[115,116,97,116,101]⟩
def zrS:ByteArray:=⟨#[99,117,116]⟩
def zq4:ByteArray:=⟨#[109,111,114,101]⟩
def zq7:ByteArray:=⟨#[107,105,110,100]⟩
def s_refused:ByteArray:=⟨#[114,101,102,117,115,101,100]⟩
def s_no_route:ByteArray:=⟨#[110,111,45,114,111,117,116,101]⟩
def s_overflow:ByteArray:=⟨#[111,118,101,114,102,108,111,119]⟩
def zlQ:ByteArray:=⟨#[112,111,100,45,108,111,115,116]⟩
def s_timeout:ByteArray:=⟨#[116,105,109,101,111,117,116]⟩
def s___b5df:ByteArray:=⟨#[58]⟩
def s___b5e2:ByteArray:=⟨#[61]⟩
def s_bad__764c:ByteArray:=⟨#[98,97,100,32]⟩
def zna:ByteArray:=⟨#[119,97,105,116,115]⟩
def zkT:ByteArray:=⟨#[100,111,110,101]⟩
def tq0:TI:=⟨.func,1,some (.one (.func)),some [.nilFunc]⟩
def tq1:TI:=⟨.int .i64,1,some (.one (.int .i64)),some [.int .i64 0]⟩
def tq2:TI:=⟨.int .u8,1,some (.one (.int .u8)),some [.int .u8 0]⟩
def tq3:TI:=⟨.struct [(2,0),(3,1),(4,2),(6,3)],4,some (.agg [.int .i64,.int .i64,.bool,.int .u8]),some [.int .i64 0,.int .i64 0,.bool false,.int .u8 0]⟩
def tq4:TI:=⟨.str,1,some (.one (.str)),some [.string s_]⟩
def tq5:TI:=⟨.int .u64,1,some (.one (.int .u64)),some [.int .u64 0]⟩
def tq6:TI:=⟨.struct [(9,0),(12,1)],2,some (.agg [.str,.int .u64]),some [.string s_,.int .u64 0]⟩
def tq7:TI:=⟨.ptr,1,some (.one (.ptr)),some [.pointer none]⟩
def tq8:TI:=⟨.struct [(17,0)],1,some (.agg [.ptr]),some [.pointer none]⟩
def tq9:TI:=⟨.iface,1,some (.one (.iface)),some [.nilIface]⟩
def tq10:TI:=⟨.int .i32,1,some (.one (.int .i32)),some [.int .i32 0]⟩
def tq11:TI:=⟨.struct [(9,0),(3,1),(3,2),(3,3),(3,4),(3,5)],6,some (.agg lf0),some [.string s_,.int .i64 0,.int .i64 0,.int .i64 0,.int .i64 0,.int .i64 0]⟩
def tq12:TI:=⟨.struct [(3,0),(3,1)],2,some (.agg [.int .i64,.int .i64]),some [.int .i64 0,.int .i64 0]⟩
def tq13:TI:=⟨.struct [(9,0),(9,1),(35,2),(3,3)],4,some (.agg [.str,.str,.slice,.int .i64]),some [.string s_,.string s_,.slice none 0 0,.int .i64 0]⟩
def tq14:TI:=⟨.struct [(3,0),(9,1),(9,2),(3,3),(3,4),(23,5),(37,11)],15,some (.agg lf1),some [.int .i64 0,.string s_,.string s_,.int .i64 0,.int .i64 0,.string s_,.int .i64 0,.int .i64 0,.int .i64 0,.int .i64 0,.int .i64 0,.string s_,.string s_,.slice none 0 0,.int .i64 0]⟩
def tq15:TI:=⟨.struct [(3,0),(3,1),(3,2)],3,some (.agg [.int .i64,.int .i64,.int .i64]),some [.int .i64 0,.int .i64 0,.int .i64 0]⟩
def tq16:TI:=⟨.struct [(9,0),(9,1),(3,2)],3,some (.agg [.str,.str,.int .i64]),some [.string s_,.string s_,.int .i64 0]⟩
def tq17:TI:=⟨.map 9 81,1,some (.one (.map)),some [.map none]⟩
def tq18:TI:=⟨.struct [(70,0),(71,1),(72,2),(73,3),(74,4),(76,5),(3,6)],7,some (.agg lf2),some [.pointer none,.pointer none,.pointer none,.pointer none,.pointer none,.map none,.int .i64 0]⟩
def tq19:TI:=⟨.struct [(85,0),(84,1)],3,some (.agg [.ptr,.int .i64,.int .i64]),some [.pointer none,.int .i64 0,.int .i64 0]⟩
def tq20:TI:=⟨.struct [(9,0),(3,1)],2,some (.agg [.str,.int .i64]),some [.string s_,.int .i64 0]⟩
def tq21:TI:=⟨.struct [(102,0),(103,1)],2,some (.agg [.slice,.slice]),some [.slice none 0 0,.slice none 0 0]⟩
def tq22:TI:=⟨.struct [(4,0),(4,1),(4,2),(4,3),(4,4),(4,5)],6,some (.agg lf3),some [.bool false,.bool false,.bool false,.bool false,.bool false,.bool false]⟩
def tq23:TI:=⟨.struct [(3,0),(3,1),(3,2),(9,3)],4,some (.agg [.int .i64,.int .i64,.int .i64,.str]),some [.int .i64 0,.int .i64 0,.int .i64 0,.string s_]⟩
def tq24:TI:=⟨.struct [(9,0),(3,1),(23,2)],8,some (.agg lf4),some [.string s_,.int .i64 0,.string s_,.int .i64 0,.int .i64 0,.int .i64 0,.int .i64 0,.int .i64 0]⟩
def tq25:TI:=⟨.struct [(166,0),(167,1)],2,some (.agg [.map,.func]),some [.map none,.nilFunc]⟩
def tq26:TI:=⟨.struct [(73,0),(165,1),(169,2),(3,4),(3,5)],6,some (.agg lf5),some [.pointer none,.map none,.map none,.nilFunc,.int .i64 0,.int .i64 0]⟩
def tq27:TI:=⟨.struct [(187,0),(188,1),(3,2),(3,3)],4,some (.agg [.map,.map,.int .i64,.int .i64]),some [.map none,.map none,.int .i64 0,.int .i64 0]⟩
def tq28:TI:=⟨.struct [(191,0),(194,1),(3,2)],3,some (.agg [.ptr,.ptr,.int .i64]),some [.pointer none,.pointer none,.int .i64 0]⟩
def tq29:TI:=⟨.map 9 157,1,some (.one (.map)),some [.map none]⟩
def tq30:TI:=⟨.map 9 4,1,some (.one (.map)),some [.map none]⟩
def tq31:TI:=⟨.struct [(200,0),(202,1)],2,some (.agg [.map,.map]),some [.map none,.map none]⟩
def tq32:TI:=⟨.struct [(205,0)],1,some (.agg [.map]),some [.map none]⟩
def tq33:TI:=⟨.struct [(33,0)],1,some (.agg [.slice]),some [.slice none 0 0]⟩
def tq34:TI:=⟨.struct [(9,0),(9,1)],2,some (.agg [.str,.str]),some [.string s_,.string s_]⟩
def tq35:TI:=⟨.struct [(229,0),(80,1)],2,some (.agg [.ptr,.slice]),some [.pointer none,.slice none 0 0]⟩
def tq36:TI:=⟨.struct [(9,0),(182,1)],2,some (.agg [.str,.ptr]),some [.string s_,.pointer none]⟩
def tq37:TI:=⟨.struct [(267,0),(3,60)],61,some (.agg lf7),some (List.replicate 61 (.int .i64 0))⟩
def tq38:TI:=⟨.struct [(269,0),(3,61)],62,some (.agg lf8),some (List.replicate 62 (.int .i64 0))⟩
def tq39:TI:=⟨.struct [(23,0),(3,6),(3,7),(4,8)],9,some (.agg lf9),some [.string s_,.int .i64 0,.int .i64 0,.int .i64 0,.int .i64 0,.int .i64 0,.int .i64 0,.int .i64 0,.bool false]⟩
def tq40:TI:=⟨.struct [(37,0),(3,4),(3,5),(4,6)],7,some (.agg lf10),some [.string s_,.string s_,.slice none 0 0,.int .i64 0,.int .i64 0,.int .i64 0,.bool false]⟩
def tq41:TI:=⟨.arr 2 9,2,some (.agg [.str,.str]),some [.string s_,.string s_]⟩
def tq42:TI:=⟨.struct [(102,0),(102,1),(3,2),(3,3),(105,4)],6,some (.agg lf11),some [.slice none 0 0,.slice none 0 0,.int .i64 0,.int .i64 0,.slice none 0 0,.slice none 0 0]⟩
def tq43:TI:=⟨.struct [(315,0)],1,some (.agg [.slice]),some [.slice none 0 0]⟩
def tq44:TI:=⟨.struct [(317,0),(3,1)],2,some (.agg [.slice,.int .i64]),some [.slice none 0 0,.int .i64 0]⟩
def tq45:TI:=⟨.struct [(324,0),(3,1)],2,some (.agg [.map,.int .i64]),some [.map none,.int .i64 0]⟩
def tq46:TI:=⟨.struct [(3,0),(326,1)],3,some (.agg [.int .i64,.map,.int .i64]),some [.int .i64 0,.map none,.int .i64 0]⟩
def tq47:TI:=⟨.struct [(332,0),(193,1)],2,some (.agg [.map,.func]),some [.map none,.nilFunc]⟩
def tq48:TI:=⟨.struct [(335,0),(196,1)],2,some (.agg [.map,.func]),some [.map none,.nilFunc]⟩
def tq49:TI:=⟨.struct [(80,0),(4,1)],2,some (.agg [.slice,.bool]),some [.slice none 0 0,.bool false]⟩
def tq50:TI:=⟨.struct [(9,0),(9,1),(233,2)],3,some (.agg [.str,.str,.iface]),some [.string s_,.string s_,.nilIface]⟩
def tq51:TI:=⟨.struct [(9,0)],1,some (.agg [.str]),some [.string s_]⟩
def tq52:TI:=⟨.struct [(17,0),(17,1),(17,2),(9,3)],4,some (.agg [.ptr,.ptr,.ptr,.str]),some [.pointer none,.pointer none,.pointer none,.string s_]⟩
def tq53:TI:=⟨.struct [(465,0)],0,some (.agg []),some []⟩
def tq54:TI:=⟨.struct [(12,0),(12,1),(382,2),(468,3),(5,4),(5,5),(469,6),(470,7),(350,8),(471,9),(472,10)],11,some (.agg lf17),some [.int .u64 0,.int .u64 0,.int .u32 0,.int .u8 0,.int .u8 0,.int .u8 0,.int .u8 0,.nilFunc,.pointer none,.int .i32 0,.int .i32 0]⟩
def Dt:Tb:=⟨476,377,(.node ⟨.tuple [],1,none,none⟩ (.node tq0 (.node tq1 (.node tq3 (.node tq7 (.node tq12 (.node tq0 (.node tq0 (.node tq36 .nil .nil) (.node tq0 .nil .nil)) (.node tq7 (.node tq44 .nil .nil) (.node tq0 .nil .nil))) (.node tq0 (.node tq0 (.node tq0 .nil .nil) (.node tq0 .nil .nil)) (.node tq0 (.node tq0 .nil .nil) .nil))) (.node tq0 (.node tq0 (.node tq0 (.node tq38 .nil .nil) (.node ⟨.tuple [80,9],1,none,none⟩ .nil .nil)) (.node tq32 (.node ⟨.map 9 277,1,some (.one (.map)),some [.map none]⟩ .nil .nil) (.node tq52 .nil .nil))) (.node tq0 (.node tq7 (.node ⟨.arr 2 3,2,some (.agg [.int .i64,.int .i64]),some [.int .i64 0,.int .i64 0]⟩ .nil .nil) (.node tq0 .nil .nil)) (.node tq0 (.node tq0 .nil .nil) .nil)))) (.node tq11 (.node tq14 (.node tq7 (.node tq0 (.node tq0 .nil .nil) (.node tq0 .nil .nil)) (.node tq29 (.node tq46 .nil .nil) (.node tq7 .nil .nil))) (.node ⟨.slice 217,1,some (.one (.slice)),some [.slice none 0 0]⟩ (.node tq0 (.node tq42 .nil .nil) (.node tq0 .nil .nil)) (.node tq35 (.node tq0 .nil .nil) .nil))) (.node tq16 (.node tq19 (.node tq0 (.node tq0 .nil .nil) (.node tq0 .nil .nil)) (.node tq0 (.node ⟨.tuple [39,52],1,none,none⟩ .nil .nil) (.node tq10 .nil .nil))) (.node tq0 (.node tq0 (.node tq0 .nil .nil) (.node tq7 .nil .nil)) (.node tq0 (.node ⟨.tuple [3,374],1,none,none⟩ .nil .nil) .nil))))) (.node tq4 (.node tq8 (.node ⟨.slice 56,1,some (.one (.slice)),some [.slice none 0 0]⟩ (.node tq0 (.node tq23 (.node ⟨.tuple [3,4],1,none,none⟩ .nil .nil) (.node tq0 .nil .nil)) (.node tq0 (.node tq0 .nil .nil) (.node tq0 .nil .nil))) (.node tq0 (.node tq0 (.node ⟨.tuple [290,290],1,none,none⟩ .nil .nil) (.node tq0 .nil .nil)) (.node tq0 (.node tq12 .nil .nil) .nil))) (.node tq0 (.node tq0 (.node ⟨.tuple [9,4],1,none,none⟩ (.node tq0 .nil .nil) (.node tq0 .nil .nil)) (.node tq33 (.node tq0 .nil .nil) (.node tq53 .nil .nil))) (.node tq0 (.node tq0 (.node ⟨.arr 4 3,4,some (.agg [.int .i64,.int .i64,.int .i64,.int .i64]),some [.int .i64 0,.int .i64 0,.int .i64 0,.int .i64 0]⟩ .nil .nil) (.node ⟨.arr 65 5,65,some (.agg lf14),some (List.replicate 65 (.int .u8 0))⟩ .nil .nil)) (.node tq0 (.node tq0 .nil .nil) .nil)))) (.node tq7 (.node tq0 (.node tq17 (.node ⟨.tuple [24,52],1,none,none⟩ (.node ⟨.arr 60 3,60,some (.agg lf6),some (List.replicate 60 (.int .i64 0))⟩ .nil .nil) (.node tq0 .nil .nil)) (.node tq31 (.node ⟨.slice 329,1,some (.one (.slice)),some [.slice none 0 0]⟩ .nil .nil) (.node ⟨.arr 64 5,64,some (.agg lf16),some (List.replicate 64 (.int .u8 0))⟩ .nil .nil))) (.node tq22 (.node tq26 (.node tq0 .nil .nil) (.node tq1 .nil .nil)) (.node tq0 (.node ⟨.tuple [9,9],1,none,none⟩ .nil .nil) .nil))) (.node tq0 (.node tq0 (.node tq0 (.node tq0 .nil .nil) (.node tq0 .nil .nil)) (.node tq0 (.node tq0 .nil .nil) (.node tq0 .nil .nil))) (.node tq0 (.node ⟨.map 3 256,1,some (.one (.map)),some [.map none]⟩ (.node ⟨.slice 356,1,some (.one (.slice)),some [.slice none 0 0]⟩ .nil .nil) (.node tq0 .nil .nil)) (.node tq0 (.node tq0 .nil .nil) .nil)))))) (.node tq2 (.node tq4 (.node tq7 (.node ⟨.slice 9,1,some (.one (.slice)),some [.slice none 0 0]⟩ (.node tq0 (.node tq0 (.node ⟨.tuple [256,4],1,none,none⟩ .nil .nil) (.node tq7 .nil .nil)) (.node tq0 (.node tq0 .nil .nil) (.node tq0 .nil .nil))) (.node tq0 (.node tq0 (.node tq0 .nil .nil) (.node tq0 .nil .nil)) (.node tq12 (.node tq7 .nil .nil) .nil))) (.node tq0 (.node tq7 (.node ⟨.tuple [23,3,3,4],1,none,none⟩ (.node tq39 .nil .nil) (.node ⟨.other,1,none,none⟩ .nil .nil)) (.node tq7 (.node tq48 .nil .nil) (.node ⟨.arr 0 16,0,some (.agg []),some []⟩ .nil .nil))) (.node tq0 (.node tq0 (.node tq0 .nil .nil) (.node tq0 .nil .nil)) (.node tq0 (.node tq0 .nil .nil) .nil)))) (.node tq0 (.node tq0 (.node tq7 (.node tq0 (.node tq0 .nil .nil) (.node tq0 .nil .nil)) (.node tq30 (.node tq0 .nil .nil) (.node tq51 .nil .nil))) (.node tq21 (.node tq25 (.node ⟨.tuple [296,4],1,none,none⟩ .nil .nil) (.node ⟨.tuple [382,382],1,none,none⟩ .nil .nil)) (.node tq9 (.node tq0 .nil .nil) .nil))) (.node ⟨.slice 39,1,some (.one (.slice)),some [.slice none 0 0]⟩ (.node tq0 (.node tq0 (.node ⟨.map 9 9,1,some (.one (.map)),some [.map none]⟩ .nil .nil) (.node tq7 .nil .nil)) (.node tq34 (.node tq0 .nil .nil) (.node tq54 .nil .nil))) (.node tq0 (.node tq0 (.node tq0 .nil .nil) (.node ⟨.tuple [384,233],1,none,none⟩ .nil .nil)) (.node ⟨.tuple [132,4],1,none,none⟩ (.node tq0 .nil .nil) .nil))))) (.node tq6 (.node tq10 (.node tq13 (.node ⟨.map 3 34,1,some (.one (.map)),some [.map none]⟩ (.node tq0 (.node tq0 .nil .nil) (.node tq49 .nil .nil)) (.node tq28 (.node tq45 .nil .nil) (.node tq0 .nil .nil))) (.node tq20 (.node ⟨.map 3 173,1,some (.one (.map)),some [.map none]⟩ (.node tq41 .nil .nil) (.node tq0 .nil .nil)) (.node tq7 (.node tq0 .nil .nil) .nil))) (.node ⟨.tuple [27,52],1,none,none⟩ (.node tq7 (.node tq0 (.node tq40 .nil .nil) (.node tq12 .nil .nil)) (.node tq0 (.node ⟨.slice 80,1,some (.one (.slice)),some [.slice none 0 0]⟩ .nil .nil) (.node tq2 .nil .nil))) (.node tq0 (.node tq0 (.node tq0 .nil .nil) (.node tq0 .nil .nil)) (.node tq0 (.node tq0 .nil .nil) .nil)))) (.node tq0 (.node tq15 (.node tq18 (.node tq0 (.node tq37 .nil .nil) (.node ⟨.arr 24 5,24,some (.agg lf12),some (List.replicate 24 (.int .u8 0))⟩ .nil .nil)) (.node ⟨.map 9 296,1,some (.one (.map)),some [.map none]⟩ (.node tq47 .nil .nil) (.node tq0 .nil .nil))) (.node tq0 (.node tq20 (.node tq0 .nil .nil) (.node tq0 .nil .nil)) (.node tq0 (.node tq0 .nil .nil) .nil))) (.node tq0 (.node tq0 (.node tq24 (.node tq0 .nil .nil) (.node ⟨.slice 102,1,some (.one (.slice)),some [.slice none 0 0]⟩ .nil .nil)) (.node tq0 (.node tq0 .nil .nil) .nil)) (.node tq0 (.node tq27 (.node tq43 .nil .nil) (.node tq50 .nil .nil)) (.node ⟨.tuple [9,52],1,none,none⟩ (.node tq0 .nil .nil) .nil))))))) (.node tq1 (.node ⟨.bool,1,some (.one (.bool)),some [.bool false]⟩ (.node tq3 (.node tq7 (.node tq0 (.node tq0 (.node ⟨.slice 132,1,some (.one (.slice)),some [.slice none 0 0]⟩ (.node tq36 .nil .nil) (.node tq5 .nil .nil)) (.node tq0 (.node tq0 .nil .nil) (.node tq0 .nil .nil))) (.node ⟨.tuple [33,52],1,none,none⟩ (.node tq0 (.node tq0 .nil .nil) (.node tq5 .nil .nil)) (.node tq0 (.node ⟨.tuple [173,4],1,none,none⟩ .nil .nil) .nil))) (.node tq0 (.node ⟨.slice 5,1,some (.one (.slice)),some [.slice none 0 0]⟩ (.node tq0 (.node tq39 .nil .nil) (.node tq0 .nil .nil)) (.node tq0 (.node tq48 .nil .nil) (.node tq52 .nil .nil))) (.node tq0 (.node ⟨.tuple [175,4],1,none,none⟩ (.node tq0 .nil .nil) (.node tq0 .nil .nil)) (.node tq0 (.node tq0 .nil .nil) .nil)))) (.node ⟨.slice 3,1,some (.one (.slice)),some [.slice none 0 0]⟩ (.node ⟨.tuple [24,24],1,none,none⟩ (.node tq7 (.node tq0 (.node tq0 .nil .nil) (.node tq0 .nil .nil)) (.node tq29 (.node tq46 .nil .nil) (.node tq51 .nil .nil))) (.node tq21 (.node tq25 (.node tq42 .nil .nil) (.node ⟨.slice 420,1,some (.one (.slice)),some [.slice none 0 0]⟩ .nil .nil)) (.node tq9 (.node tq0 .nil .nil) .nil))) (.node tq16 (.node tq0 (.node ⟨.tuple [105,52],1,none,none⟩ (.node ⟨.map 9 3,1,some (.one (.map)),some [.map none]⟩ .nil .nil) (.node tq0 .nil .nil)) (.node tq34 (.node tq0 .nil .nil) (.node tq10 .nil .nil))) (.node ⟨.tuple [3,52],1,none,none⟩ (.node tq0 (.node tq5 .nil .nil) (.node tq0 .nil .nil)) (.node tq0 (.node tq0 .nil .nil) .nil))))) (.node tq5 (.node tq9 (.node tq13 (.node tq0 (.node tq23 (.node tq0 .nil .nil) (.node tq7 .nil .nil)) (.node tq0 (.node ⟨.map 3 4,1,some (.one (.map)),some [.map none]⟩ .nil .nil) (.node tq0 .nil .nil))) (.node tq20 (.node tq0 (.node tq0 .nil .nil) (.node tq7 .nil .nil)) (.node tq0 (.node tq12 .nil .nil) .nil))) (.node tq1 (.node tq12 (.node tq0 (.node tq40 .nil .nil) (.node ⟨.slice 406,1,some (.one (.slice)),some [.slice none 0 0]⟩ .nil .nil)) (.node tq0 (.node tq0 .nil .nil) (.node tq2 .nil .nil))) (.node tq0 (.node tq0 (.node tq0 .nil .nil) (.node tq0 .nil .nil)) (.node tq0 (.node tq0 .nil .nil) .nil)))) (.node ⟨.tuple [27,4],1,none,none⟩ (.node tq15 (.node tq17 (.node tq0 (.node tq37 .nil .nil) (.node tq0 .nil .nil)) (.node tq31 (.node ⟨.map 9 273,1,some (.one (.map)),some [.map none]⟩ .nil .nil) (.node tq0 .nil .nil))) (.node ⟨.tuple [107,4],1,none,none⟩ (.node tq20 (.node tq0 .nil .nil) (.node ⟨.tuple [2,233],1,none,none⟩ .nil .nil)) (.node tq0 (.node tq0 .nil .nil) .nil))) (.node tq0 (.node tq0 (.node tq24 (.node tq0 .nil .nil) (.node tq0 .nil .nil)) (.node tq0 (.node tq0 .nil .nil) .nil)) (.node tq0 (.node ⟨.map 3 3,1,some (.one (.map)),some [.map none]⟩ (.node tq43 .nil .nil) (.node tq50 .nil .nil)) (.node tq0 (.node tq0 .nil .nil) .nil)))))) (.node tq2 (.node tq4 (.node tq8 (.node tq0 (.node tq0 (.node tq0 (.node tq0 .nil .nil) (.node tq0 .nil .nil)) (.node tq7 (.node tq0 .nil .nil) (.node tq0 .nil .nil))) (.node tq0 (.node tq0 (.node ⟨.slice 294,1,some (.one (.slice)),some [.slice none 0 0]⟩ .nil .nil) (.node tq0 .nil .nil)) (.node tq12 (.node tq0 .nil .nil) .nil))) (.node tq0 (.node ⟨.tuple [81,4],1,none,none⟩ (.node tq0 (.node ⟨.tuple [273,4],1,none,none⟩ .nil .nil) (.node tq0 .nil .nil)) (.node tq33 (.node tq0 .nil .nil) (.node tq53 .nil .nil))) (.node tq0 (.node tq0 (.node tq0 .nil .nil) (.node ⟨.arr 20 384,20,some (.agg lf13),some (List.replicate 20 (.int .u64 0))⟩ .nil .nil)) (.node ⟨.tuple [105,4],1,none,none⟩ (.node tq0 .nil .nil) .nil)))) (.node tq0 (.node ⟨.slice 45,1,some (.one (.slice)),some [.slice none 0 0]⟩ (.node tq7 (.node tq0 (.node tq0 .nil .nil) (.node tq0 .nil .nil)) (.node tq30 (.node tq0 .nil .nil) (.node ⟨.arr 32 5,32,some (.agg lf15),some (List.replicate 32 (.int .u8 0))⟩ .nil .nil))) (.node tq22 (.node tq26 (.node tq0 .nil .nil) (.node tq0 .nil .nil)) (.node ⟨.tuple [3,233],1,none,none⟩ (.node tq7 .nil .nil) .nil))) (.node ⟨.tuple [3,3,3,3],1,none,none⟩ (.node tq0 (.node tq0 (.node tq0 .nil .nil) (.node tq0 .nil .nil)) (.node tq0 (.node tq0 .nil .nil) (.node tq54 .nil .nil))) (.node tq0 (.node tq0 (.node tq0 .nil .nil) (.node tq0 .nil .nil)) (.node tq0 (.node tq0 .nil .nil) .nil))))) (.node tq6 (.node tq11 (.node tq14 (.node tq7 (.node ⟨.tuple [128,52],1,none,none⟩ (.node tq0 .nil .nil) (.node tq49 .nil .nil)) (.node tq28 (.node tq45 .nil .nil) (.node tq0 .nil .nil))) (.node ⟨.slice 101,1,some (.one (.slice)),some [.slice none 0 0]⟩ (.node ⟨.map 9 175,1,some (.one (.map)),some [.map none]⟩ (.node tq41 .nil .nil) (.node tq0 .nil .nil)) (.node tq35 (.node tq0 .nil .nil) .nil))) (.node tq0 (.node tq19 (.node ⟨.tuple [37,3,4],1,none,none⟩ (.node ⟨.tuple [277,4],1,none,none⟩ .nil .nil) (.node tq12 .nil .nil)) (.node tq0 (.node tq0 .nil .nil) (.node tq0 .nil .nil))) (.node tq0 (.node tq7 (.node tq0 .nil .nil) (.node tq0 .nil .nil)) (.node tq0 (.node tq1 .nil .nil) .nil)))) (.node tq12 (.node ⟨.tuple [3,3],1,none,none⟩ (.node tq18 (.node tq0 (.node tq38 .nil .nil) (.node tq0 .nil .nil)) (.node tq32 (.node tq47 .nil .nil) (.node tq0 .nil .nil))) (.node tq0 (.node tq0 (.node tq0 .nil .nil) (.node tq7 .nil .nil)) (.node tq0 (.node tq0 .nil .nil) .nil))) (.node tq0 (.node tq0 (.node ⟨.tuple [157,4],1,none,none⟩ (.node tq0 .nil .nil) (.node tq0 .nil .nil)) (.node ⟨.tuple [9,3,4],1,none,none⟩ (.node tq7 .nil .nil) .nil)) (.node tq0 (.node tq27 (.node tq44 .nil .nil) (.node tq0 .nil .nil)) (.node tq0 (.node ⟨.int .u32,1,some (.one (.int .u32)),some [.int .u32 0]⟩ .nil .nil) .nil)))))))),(.node none (.node none (.node none (.node none (.node none (.node (some (.one (.one (.str)))) (.node (some (.one (.one (.bool)))) (.node (some (.tup [])) .nil .nil) (.node (some (.one (.one (.func)))) .nil .nil)) (.node (some (.tup [])) (.node (some (.one (.one (.func)))) (.node (some (.one (.one (.str)))) .nil .nil) .nil) (.node (some (.tup [(.one (.int .i64)),(.one (.bool))])) .nil .nil))) (.node (some (.tup [(.one (.ptr)),(.one (.bool))])) (.node (some (.one (.one (.slice)))) (.node (some (.tup [])) .nil .nil) (.node (some (.tup [])) .nil .nil)) (.node (some (.one (.one (.bool)))) (.node (some (.one (.one (.func)))) (.node (some (.one (.one (.slice)))) .nil .nil) .nil) (.node (some (.one (.one (.func)))) .nil .nil)))) (.node none (.node (some (.one (.one (.slice)))) (.node (some (.one (.one (.str)))) (.node (some (.one (.one (.bool)))) (.node (some (.one (.one (.slice)))) .nil .nil) .nil) .nil) (.node (some (.one (.agg [.slice,.slice]))) (.node (some (.one (.one (.slice)))) .nil .nil) (.node (some (.one (.one (.slice)))) .nil .nil))) (.node (some (.tup [(.one (.int .i64)),(.one (.int .i64)),(.one (.int .i64)),(.one (.int .i64))])) (.node (some (.one (.one (.str)))) (.node (some (.tup [(.one (.str)),(.one (.bool))])) (.node (some (.tup [])) .nil .nil) .nil) (.node (some (.one (.one (.bool)))) (.node (some (.tup [])) .nil .nil) .nil)) .nil))) (.node (some (.one (.one (.slice)))) (.node (some (.tup [(.one (.ptr)),(.one (.int .i64))])) (.node (some (.one (.one (.slice)))) (.node (some (.one (.one (.bool)))) (.node (some (.one (.one (.func)))) (.node (some (.one (.one (.slice)))) .nil .nil) .nil) .nil) (.node (some (.one (.one (.ptr)))) (.node (some (.one (.one (.slice)))) (.node (some (.one (.one (.slice)))) .nil .nil) .nil) (.node (some (.one (.one (.int .i64)))) .nil .nil))) (.node (some (.one (.one (.ptr)))) (.node (some (.one (.one (.slice)))) .nil (.node (some (.tup [(.one (.int .i64)),(.one (.iface))])) .nil .nil)) (.node (some (.one (.one (.func)))) (.node (some (.one (.one (.slice)))) .nil .nil) (.node (some (.one (.one (.str)))) .nil .nil)))) (.node none (.node (some (.one (.one (.slice)))) (.node (some (.tup [(.one (.int .i64)),(.one (.int .i64))])) (.node none (.node (some (.one (.agg [.str,.str,.slice,.int .i64]))) .nil .nil) .nil) (.node (some (.one (.one (.bool)))) .nil .nil)) (.node none (.node (some (.one (.one (.str)))) .nil .nil) (.node (some (.tup [(.one (.str)),(.one (.str))])) .nil .nil))) (.node (some (.one (.one (.bool)))) (.node none (.node (some (.one (.one (.ptr)))) (.node (some (.one (.one (.slice)))) .nil .nil) .nil) (.node (some (.one (.one (.slice)))) .nil .nil)) (.node (some (.one (.one (.bool)))) (.node (some (.one (.one (.int .i64)))) (.node (some (.one (.one (.int .i64)))) .nil .nil) .nil) .nil))))) (.node (some (.one (.one (.bool)))) (.node none (.node (some (.one (.one (.int .i64)))) (.node (some (.one (.one (.slice)))) (.node (some (.one (.one (.bool)))) (.node (some (.one (.one (.bool)))) .nil .nil) (.node (some (.one (.one (.slice)))) .nil .nil)) (.node (some (.tup [(.agg lf0),(.one (.int .i64)),(.one (.int .i64)),(.one (.bool))])) (.node (some (.one (.one (.int .i64)))) (.node (some (.tup [])) .nil .nil) .nil) (.node (some (.tup [])) .nil .nil))) (.node (some (.one (.one (.bool)))) (.node (some (.one (.one (.str)))) (.node (some (.tup [])) .nil .nil) (.node (some (.tup [])) .nil .nil)) (.node (some (.one (.one (.slice)))) (.node (some (.tup [(.one (.slice)),(.one (.slice))])) .nil .nil) (.node (some (.one (.one (.slice)))) .nil .nil)))) (.node (some (.one (.one (.int .i64)))) (.node (some (.one (.one (.slice)))) (.node (some (.one (.one (.str)))) (.node (some (.one (.one (.int .i64)))) (.node (some (.one (.one (.str)))) .nil .nil) .nil) .nil) (.node (some (.one (.one (.int .i64)))) (.node (some (.tup [])) .nil .nil) (.node (some (.one (.one (.slice)))) .nil .nil))) (.node (some (.tup [(.one (.slice)),(.one (.int .i64))])) (.node (some (.one (.one (.int .i64)))) (.node (some (.one (.agg [.int .i64,.int .i64,.int .i64,.str]))) (.node (some (.one (.one (.int .i64)))) .nil .nil) .nil) .nil) (.node (some (.one (.one (.bool)))) (.node (some (.one (.one (.int .i64)))) .nil .nil) .nil)))) (.node (some (.one (.one (.slice)))) (.node none (.node (some (.one (.one (.slice)))) (.node (some (.one (.one (.int .i64)))) (.node (some (.one (.one (.bool)))) (.node (some (.tup [])) .nil .nil) .nil) (.node none (.node (some (.tup [])) .nil .nil) .nil)) (.node (some (.tup [(.agg [.slice,.slice]),(.one (.int .i64))])) (.node (some (.tup [])) (.node (some (.one (.one (.bool)))) .nil .nil) .nil) (.node (some (.one (.one (.int .i64)))) .nil .nil))) (.node (some (.one (.one (.ptr)))) (.node (some (.tup [(.one (.slice)),(.one (.int .i64))])) (.node (some (.tup [(.agg [.slice,.slice]),(.one (.bool))])) .nil .nil) (.node (some (.one (.one (.bool)))) .nil .nil)) (.node (some (.one (.one (.int .i64)))) .nil .nil))) (.node (some (.one (.one (.int .i64)))) (.node (some (.one (.one (.slice)))) (.node (some (.tup [(.one (.int .i64)),(.one (.int .i64))])) .nil (.node (some (.one (.one (.slice)))) .nil .nil)) (.node none (.node (some (.tup [(.one (.str)),(.one (.int .i64))])) (.node (some (.tup [])) .nil .nil) .nil) (.node (some (.one (.one (.func)))) .nil .nil))) (.node (some (.one (.one (.bool)))) (.node (some (.one (.one (.slice)))) (.node (some (.tup [(.agg [.int .i64,.int .i64,.int .i64,.str]),(.one (.bool))])) (.node (some (.tup [])) .nil .nil) .nil) .nil) (.node (some (.one (.one (.ptr)))) .nil .nil)))))) (.node none (.node none (.node none (.node (some (.one (.one (.str)))) (.node (some (.one (.one (.slice)))) (.node (some (.one (.one (.bool)))) (.node (some (.one (.one (.bool)))) .nil .nil) (.node (some (.tup [])) .nil .nil)) (.node (some (.one (.one (.int .i64)))) (.node (some (.tup [(.one (.str)),(.one (.int .i64))])) (.node (some (.one (.one (.bool)))) .nil .nil) .nil) (.node (some (.one (.one (.bool)))) .nil .nil))) (.node none (.node none (.node (some (.one (.one (.int .i64)))) (.node (some (.one (.one (.int .i64)))) .nil .nil) .nil) (.node (some (.tup [])) .nil .nil)) (.node (some (.tup [])) (.node (some (.one (.agg [.slice,.slice]))) .nil .nil) (.node (some (.one (.one (.slice)))) .nil .nil)))) (.node (some (.one (.one (.bool)))) (.node (some (.one (.one (.slice)))) (.node (some (.one (.one (.str)))) (.node (some (.one (.one (.int .i64)))) (.node (some (.one (.one (.int .i64)))) .nil .nil) .nil) .nil) (.node (some (.tup [(.agg lf4),(.one (.bool))])) (.node (some (.one (.one (.slice)))) .nil .nil) (.node (some (.one (.one (.func)))) .nil .nil))) (.node (some (.one (.one (.slice)))) (.node (some (.one (.one (.bool)))) (.node (some (.one (.one (.bool)))) (.node (some (.one (.one (.int .i64)))) .nil .nil) .nil) .nil) (.node (some (.one (.one (.ptr)))) .nil .nil)))) (.node (some (.tup [(.one (.slice)),(.one (.slice))])) (.node none (.node (some (.one (.one (.slice)))) (.node (some (.one (.one (.bool)))) (.node (some (.tup [(.one (.str)),(.one (.int .i64)),(.one (.bool))])) (.node (some (.tup [])) .nil .nil) .nil) .nil) (.node (some (.tup [(.agg [.str,.str,.slice,.int .i64]),(.one (.int .i64)),(.one (.bool))])) (.node none (.node (some (.one (.one (.int .i64)))) .nil .nil) .nil) .nil)) (.node (some (.one (.one (.ptr)))) (.node (some (.one (.one (.str)))) .nil (.node (some (.one (.one (.bool)))) .nil .nil)) (.node (some (.one (.one (.int .i64)))) .nil (.node (some (.one (.one (.int .i64)))) .nil .nil)))) (.node none (.node (some (.tup [(.one (.slice)),(.one (.slice))])) (.node (some (.one (.one (.slice)))) .nil (.node (some (.one (.one (.func)))) .nil .nil)) (.node none (.node (some (.tup [(.agg lf10),(.one (.bool))])) (.node (some (.one (.one (.slice)))) .nil .nil) .nil) (.node (some (.tup [])) .nil .nil))) (.node (some (.tup [(.agg lf3),(.one (.bool))])) (.node none (.node (some (.one (.one (.int .i64)))) (.node (some (.tup [])) .nil .nil) .nil) .nil) (.node (some (.one (.one (.ptr)))) (.node (some (.one (.one (.int .i64)))) (.node (some (.one (.one (.slice)))) .nil .nil) .nil) .nil))))) (.node none (.node none (.node none (.node (some (.one (.one (.slice)))) (.node (some (.one (.one (.bool)))) (.node (some (.one (.one (.func)))) (.node (some (.tup [])) .nil .nil) .nil) (.node (some (.one (.one (.func)))) .nil .nil)) (.node (some (.tup [(.one (.str)),(.one (.bool))])) (.node (some (.tup [(.one (.int .i64)),(.one (.bool))])) (.node (some (.tup [])) .nil .nil) .nil) (.node (some (.one (.one (.str)))) .nil .nil))) (.node (some (.one (.one (.ptr)))) (.node (some (.one (.one (.slice)))) (.node (some (.one (.agg [.str,.str,.slice,.int .i64]))) .nil .nil) (.node (some (.one (.one (.int .i64)))) (.node (some (.tup [])) .nil .nil) .nil)) (.node (some (.one (.one (.slice)))) (.node (some (.one (.one (.bool)))) .nil .nil) (.node (some (.one (.one (.slice)))) .nil .nil)))) (.node (some (.one (.one (.str)))) (.node (some (.one (.one (.slice)))) (.node (some (.one (.one (.str)))) (.node none (.node (some (.one (.agg lf0))) .nil .nil) .nil) (.node (some (.one (.one (.bool)))) .nil .nil)) (.node none (.node (some (.tup [(.agg lf9),(.one (.bool))])) .nil .nil) (.node (some (.one (.one (.slice)))) .nil .nil))) (.node (some (.one (.one (.bool)))) (.node (some (.one (.one (.slice)))) (.node (some (.one (.agg [.int .i64,.int .i64,.int .i64,.str]))) .nil .nil) .nil) (.node (some (.one (.one (.ptr)))) (.node (some (.one (.one (.ptr)))) (.node (some (.tup [])) .nil .nil) .nil) .nil)))) (.node none (.node (some (.tup [(.one (.int .i64)),(.one (.int .i64)),(.one (.int .i64)),(.one (.int .i64))])) (.node (some (.one (.one (.slice)))) (.node (some (.one (.one (.int .i64)))) (.node (some (.one (.one (.bool)))) (.node (some (.one (.one (.func)))) .nil .nil) .nil) (.node none (.node (some (.tup [])) .nil .nil) .nil)) (.node (some (.one (.one (.str)))) (.node (some (.one (.one (.func)))) .nil .nil) (.node (some (.tup [])) .nil .nil))) (.node (some (.one (.one (.ptr)))) (.node (some (.one (.one (.int .i64)))) (.node (some (.one (.one (.str)))) .nil .nil) (.node (some (.one (.one (.bool)))) .nil .nil)) (.node (some (.one (.one (.slice)))) .nil (.node (some (.tup [])) .nil .nil)))) (.node (some (.one (.one (.str)))) (.node none (.node none (.node (some (.one (.one (.int .i64)))) .nil .nil) (.node (some (.tup [(.agg lf1),(.one (.int .i64))])) .nil .nil)) (.node (some (.tup [(.one (.slice)),(.one (.slice))])) (.node (some (.one (.one (.func)))) (.node (some (.one (.one (.slice)))) .nil .nil) .nil) (.node (some (.tup [])) .nil .nil))) (.node (some (.one (.one (.bool)))) (.node (some (.one (.one (.slice)))) (.node (some (.one (.one (.int .i64)))) (.node (some (.one (.one (.func)))) .nil .nil) .nil) (.node (some (.tup [(.agg [.slice,.slice]),(.one (.bool))])) .nil .nil)) (.node (some (.one (.one (.func)))) (.node none (.node (some (.tup [])) .nil .nil) .nil) .nil)))))))⟩
theorem Tok:TbOk Pr Dt:=zqq (by kernel_rfl) (by kernel_rfl) (by kernel_rfl)
abbrev CV(f:FuncId)(a:List SV)(K:Value→PT)(w:World):Prop:=Calls Pr f (vals a).toArray w fun e w2=>∃v,e = .returned v∧K v w2
theorem C_of{f:FuncId}(fn:Func)(an:Ann)(args:List SV){F:PT}(h:F w)(h1:Pr.funcs[f]? = some fn:=by kernel_rfl)(h2:okF args.length fn=true:=by kernel_rfl)(h3:denF Pr Dt fn an args K=F:=by kernel_rfl):CV f args K w:=zqQ Tok h1 h2 ((congrFun h3 w).mpr h)
def zb3:Ann:=(.seq .auto (.seq .auto (.seq .auto (.seq .auto (.seq .auto (.seq .auto (.seq (.seq .auto (.one [(11,(.one (.int .i64)))] .auto) none) (.seq .auto (.seq (.seq .auto (.one [(13,(.one (.int .i64)))] .auto) none) (.seq .auto (.seq .auto (.seq (.seq .auto (.one [(15,(.one (.int .i64))),(16,(.one (.int .i64)))] (.seq .auto (.seq (.seq .auto (.seq .auto (.seq .auto (.seq .auto .auto (some [(19,(.one (.int .i64)))])) none) none) none) .auto none) none)) none) .auto none) none) none) none) none) none) none) none) none) none) none) none)
def z6T(p0 p1:Int)(p2:Sl)(K:Value→PT):PT:=
 L.call Pr z6x [] rB fun(x1:Bool)=>
 L.ite (!x1) (
  K (.bool false))<|
 L.call Pr z3l [.int .i64 p0,.int .i64 8] rI fun(x2:Int)=>
 L.call Pr z6L [.int .i64 5,.int .i64 8,.int .i64 50] (.tup [eP6,eI6]) fun(x3:Option Addr×Int×Unit)=>
 L.ite ((x3.1).isNone) (
  K (.bool false))<|
 L.ite (x3.2.1 != 0) (
  K (.bool false))<|
 L.new [.string s_,.string s_,.int .i64 100] z08 fun b4=>
 L.new [.int .i64 1,.string s_,.string s_,.int .i64 0,.int .i64 0,.string zbO,.int .i64 0,.int .i64 (IntKind.wrap .i64 (1+x2)),.int .i64 2,.int .i64 2,.int .i64 0,.string s_,.string s_,.slice none 0 0,.int .i64 0,.int .i64 2,.string s_,.string s_,.int .i64 0,.int .i64 0,.string s_,.int .i64 0,.int .i64 0,.int .i64 0,.int .i64 0,.int .i64 0,.string z5U,.string zbO,.slice (some ⟨b4,0,none⟩) 1 1,.int .i64 0,.int .i64 10,.string zbO,.string s_,.int .i64 0,.int .i64 0,.string s_,.int .i64 0,.int .i64 0,.int .i64 0,.int .i64 0,.int .i64 0,.string s_,.string s_,.slice none 0 0,.int .i64 0,.int .i64 13,.string zhn,.string s_,.int .i64 0,.int .i64 0,.string s_,.int .i64 0,.int .i64 0,.int .i64 0,.int .i64 0,.int .i64 0,.string s_,.string s_,.slice none 0 0,.int .i64 0,.int .i64 6,.string s_,.string s_,.int .i64 1,.int .i64 0,.string s_,.int .i64 0,.int .i64 0,.int .i64 0,.int .i64 0,.int .i64 0,.string s_,.string s_,.slice none 0 0,.int .i64 0,.int .i64 6,.string s_,.string s_,.int .i64 2,.int .i64 0,.string s_,.int .i64 0,.int .i64 0,.int .i64 0,.int .i64 0,.int .i64 0,.string s_,.string s_,.slice none 0 0,.int .i64 0,.int .i64 11,.string z5U,.string s_,.int .i64 0,.int .i64 0,.string s_,.int .i64 0,.int .i64 0,.int .i64 0,.int .i64 0,.int .i64 0,.string s_,.string s_,.slice none 0 0,.int .i64 0] z0c fun b5=>
 L.loop (Y:=Int×Unit) (0,()) fun y6 again7=>
 L.ite (decide (y6.1<((7:Nat):Int))) (
  L.idx (some ⟨b5,0,none⟩) y6.1 7 15 fun a8=>
  L.load (.agg lf1) a8 fun(x9:pt1)=>
  L.call Pr z04 [.pointer x3.1,(qa1 x9)] rL fun(x10:Sl)=>
  again7 (IntKind.wrap .i64 (y6.1+1),()))<|
 L.call Pr z3l [.int .i64 p1,.int .i64 (IntKind.wrap .i64 ((IntKind.wrap .i64 (2*(IntKind.wrap .i64 (1+x2))))+1))] rI fun(x11:Int)=>
 L.loop (Y:=Int×Unit) (1,()) fun y12 again13=>
 L.ite (decide (y12.1≤x11)) (
  L.call Pr z04 [.pointer x3.1,.agg #[.int .i64 4,.string z5U,.string s_,.int .i64 y12.1,.int .i64 0,.string s_,.int .i64 0,.int .i64 0,.int .i64 0,.int .i64 0,.int .i64 0,.string s_,.string s_,.slice none 0 0,.int .i64 0]] rL fun(x14:Sl)=>
  L.ite (((x14.len:Nat):Int) != 1) (
   K (.bool false))<|
  L.idx x14.a 0 x14.len 1 fun a15=>
  L.load eS6 a15 fun(x16:ByteArray)=>
  L.call Pr z7d [.string x16,.int .i64 0] rS fun(x17:ByteArray)=>
  L.ite (!(x17.toList == s_sent.toList)) (
   K (.bool false))<|
  again13 (IntKind.wrap .i64 (y12.1+1),()))<|
 L.call Pr z04 [.pointer x3.1,.agg #[.int .i64 1,.string s_,.string s_,.int .i64 1,.int .i64 0,.string zbO,.int .i64 0,.int .i64 (IntKind.wrap .i64 (1+x2)),.int .i64 0,.int .i64 1,.int .i64 0,.string s_,.string s_,.slice none 0 0,.int .i64 0]] rL fun(x18:Sl)=>
 L.loop (Y:=Int×Int×Unit) (x11,0,()) fun y19 again20=>
 L.ite (decide (y19.2.1<x11)) (
  L.call Pr z4e [.pointer x3.1,.string zhn] (.tup [eL6,eL6]) fun(x21:Sl×Sl×Unit)=>
  L.ite (((x21.2.1.len:Nat):Int) != y19.1) (
   K (.bool false))<|
  L.join (Y:=Int×Unit) (fun k22=>
   L.ite (decide (y19.2.1<((p2.len:Nat):Int))) (
    L.idx p2.a y19.2.1 p2.len 1 fun a24=>
    L.load eI6 a24 fun(x25:Int)=>
    k22 (x25,()))<|
   k22 (y19.2.1,())) fun z23=>
  L.call Pr z3l [.int .i64 z23.1,.int .i64 ((x21.2.1.len:Nat):Int)] rI fun(x26:Int)=>
  L.idx x21.2.1.a x26 x21.2.1.len 1 fun a27=>
  L.load eI6 a27 fun(x28:Int)=>
  L.call Pr z04 [.pointer x3.1,.agg #[.int .i64 5,.string s_,.string s_,.int .i64 x28,.int .i64 0,.string s_,.int .i64 0,.int .i64 0,.int .i64 0,.int .i64 0,.int .i64 0,.string s_,.string s_,.slice none 0 0,.int .i64 0]] rL fun(x29:Sl)=>
  L.draw<|
  L.ite (((x29.len:Nat):Int) != 1) (
   K (.bool false))<|
  L.idx x29.a 0 x29.len 1 fun a30=>
  L.load eS6 a30 fun(x31:ByteArray)=>
  L.call Pr z1M [.int .i64 x28] rS fun(x32:ByteArray)=>
  L.chk a30 [.string x31]<|
  L.guard (((s_done__51ab.size+x32.size:Nat):Int)≤maxI64)<|
  L.ite (!(x31.toList == (s_done__51ab++x32).toList)) (
   K (.bool false))<|
  again20 (IntKind.wrap .i64 (y19.1-1),IntKind.wrap .i64 (y19.2.1+1),()))<|
 L.call Pr z4f [.pointer x3.1] (.tup [eI6,eI6,eI6,eI6]) fun(x33:Int×Int×Int×Int×Unit)=>
 L.ite (x33.1 == x11) (
  L.ite (x33.2.1 == 0) (
   L.ite (x33.2.2.1 == 0) (
    K (.bool (x33.2.2.2.1 == x11)))<|
   K (.bool false))<|
  K (.bool false))<|
 K (.bool false)
theorem zaY(p0 p1:Int)(p2:Sl)(h:z6T p0 p1 p2 K w):CV z6M [.v (.int .i64 p0),.v (.int .i64 p1),.v (.slice p2.a p2.len p2.cap)] K w:=C_of Tryz.f5 zb3 _ h
def z8H(p0:Option Addr)(p1:ht1)(K:Value→PT):PT:=
 L.new [.int .i64 p1.1,.string p1.2.1,.string p1.2.2.1,.int .i64 p1.2.2.2.1,.int .i64 p1.2.2.2.2.1,.string p1.2.2.2.2.2.1,.int .i64 p1.2.2.2.2.2.2.1,.int .i64 p1.2.2.2.2.2.2.2.1,.int .i64 p1.2.2.2.2.2.2.2.2.1,.int .i64 p1.2.2.2.2.2.2.2.2.2.1,.int .i64 p1.2.2.2.2.2.2.2.2.2.2.1,.string p1.2.2.2.2.2.2.2.2.2.2.2.1,.string p1.2.2.2.2.2.2.2.2.2.2.2.2.1,Sv6 p1.2.2.2.2.2.2.2.2.2.2.2.2.2.1,.int .i64 p1.2.2.2.2.2.2.2.2.2.2.2.2.2.2.1] z0c fun b1=>
 L.load (.agg lf1) (⟨b1,0,none⟩) fun(x2:pt1)=>
 L.call Pr z7x [(qa1 x2)] rI fun(x3:Int)=>
 L.ite (x3 != 0) (
  L.call Pr z3x [.int .i64 x3] rS fun(x4:ByteArray)=>
  L.new [.string x4] z00 fun b5=>
  L.call Pr z0i [.string zqv,.slice (some ⟨b5,0,none⟩) 1 1] rS fun(x6:ByteArray)=>
  L.new [.string x6] z00 fun b7=>
  K (.slice (some ⟨b7,0,none⟩) 1 1))<|
 L.sem Pr (.one (.one .map)) (Instr.makeMap z03 none) fun(m8:Option Nat)=>
 L.semU Pr (Instr.mapUpdate z03 (.map m8) (.int .i64 1) (.func (.func z1G) #[.pointer p0] #[]))<|
 L.semU Pr (Instr.mapUpdate z03 (.map m8) (.int .i64 2) (.func (.func z1P) #[.pointer p0] #[]))<|
 L.semU Pr (Instr.mapUpdate z03 (.map m8) (.int .i64 3) (.func (.func z5b) #[.pointer p0] #[]))<|
 L.semU Pr (Instr.mapUpdate z03 (.map m8) (.int .i64 4) (.func (.func z1H) #[.pointer p0] #[]))<|
 L.semU Pr (Instr.mapUpdate z03 (.map m8) (.int .i64 5) (.func (.func z27) #[.pointer p0] #[]))<|
 L.semU Pr (Instr.mapUpdate z03 (.map m8) (.int .i64 6) (.func (.func z2C) #[.pointer p0] #[]))<|
 L.semU Pr (Instr.mapUpdate z03 (.map m8) (.int .i64 7) (.func (.func z22) #[.pointer p0] #[]))<|
 L.semU Pr (Instr.mapUpdate z03 (.map m8) (.int .i64 8) (.func (.func z22) #[.pointer p0] #[]))<|
 L.semU Pr (Instr.mapUpdate z03 (.map m8) (.int .i64 9) (.func (.func z1Y) #[.pointer p0] #[]))<|
 L.semU Pr (Instr.mapUpdate z03 (.map m8) (.int .i64 10) (.func (.func z1O) #[.pointer p0] #[]))<|
 L.semU Pr (Instr.mapUpdate z03 (.map m8) (.int .i64 11) (.func (.func z1Z) #[.pointer p0] #[]))<|
 L.semU Pr (Instr.mapUpdate z03 (.map m8) (.int .i64 12) (.func (.func z4z) #[.pointer p0] #[]))<|
 L.semU Pr (Instr.mapUpdate z03 (.map m8) (.int .i64 13) (.func (.func z1C) #[.pointer p0] #[]))<|
 L.load eI6 (Ad6 b1 0) fun(x9:Int)=>
 L.semR Pr (.one (.one (.func))) (Instr.lookup z03 (.map m8) (.int .i64 x9) false) fun(x10:FV)=>
 L.load (.agg lf1) (⟨b1,0,none⟩) fun(x11:pt1)=>
 L.callV Pr (.func x10.fn x10.fs x10.cs) [(qa1 x11)] rL fun(x12:Sl)=>
 K (.slice x12.a x12.len x12.cap)
theorem zd5(p0:Option Addr)(p1:ht1)(h:z8H p0 p1 K w):CV z04 [.v (.pointer p0),.ag (qc1 p1)] K w:=C_of Tryz.f11 .auto _ h
def z6n(p0:Option Addr)(p1:ByteArray)(K:Value→PT):PT:=
 L.nonnil p0 fun a1=>
 L.load eP6 (a1.add 4) fun(x2:Option Addr)=>
 L.call Pr z4m [.pointer x2,.string p1] (.tup [eL6,eL6]) fun(x3:Sl×Sl×Unit)=>
 K (.tuple #[Sv6 x3.1,Sv6 x3.2.1])
theorem zaf(p0:Option Addr)(p1:ByteArray)(h:z6n p0 p1 K w):CV z4e [.v (.pointer p0),.v (.string p1)] K w:=C_of Tryz.f12 .auto _ h
def z7k(p0:Option Addr)(p1:ByteArray)(K:Value→PT):PT:=
 L.nonnil p0 fun a1=>
 L.load eP6 (a1.add 3) fun(x2:Option Addr)=>
 L.call Pr z67 [.pointer x2,.string p1] rL fun(x3:Sl)=>
 K (.slice x3.a x3.len x3.cap)
theorem zbn(p0:Option Addr)(p1:ByteArray)(h:z7k p0 p1 K w):CV z7f [.v (.pointer p0),.v (.string p1)] K w:=C_of Tryz.f13 .auto _ h
def z8b(p0:Int)(K:Value→PT):PT:=
 L.ite (decide (p0<0)) (
  L.call Pr z1M [.int .i64 (IntKind.wrap .i64 (0-p0))] rS fun(x1:ByteArray)=>
  L.guard (((s__.size+x1.size:Nat):Int)≤maxI64)<|
  K (.string (s__++x1)))<|
 L.ite (decide (p0≥10)) (
  L.guard (10≠(0:Int))<|
  L.call Pr z1M [.int .i64 (IntKind.wrap .i64 (Int.tdiv p0 10))] rS fun(x2:ByteArray)=>
  L.guard (10≠(0:Int))<|
  L.call Pr z1M [.int .i64 (Int.tmod p0 10)] rS fun(x3:ByteArray)=>
  L.guard (((x2.size+x3.size:Nat):Int)≤maxI64)<|
  K (.string (x2++x3)))<|
 L.new [.int .u8 (IntKind.wrap .u8 (IntKind.wrap .i64 (48+p0)))] z3T fun b4=>
 L.sem Pr rS (convert z2j z00 (.slice (some ⟨b4,0,none⟩) 1 1)) fun(x5:ByteArray)=>
 K (.string x5)
theorem zcf(p0:Int)(h:z8b p0 K w):CV z1M [.v (.int .i64 p0)] K w:=C_of Tryz.f16 .auto _ h
def z7j(p0:Option Addr)(p1:ByteArray)(K:Value→PT):PT:=
 L.nonnil p0 fun a1=>
 L.load (.one (.map)) (a1.add 5) fun(x2:Option Nat)=>
 L.call Pr z2e [.map x2,.string p1] (.tup [eP6,eB6]) fun(x3:Option Addr×Bool×Unit)=>
 L.ite x3.2.1 (
  L.nonnil x3.1 fun a4=>
  L.load eI6 ((a4.add 1).add 0) fun(x5:Int)=>
  K (.int .i64 x5))<|
 K (.int .i64 0)
theorem zbm(p0:Option Addr)(p1:ByteArray)(h:z7j p0 p1 K w):CV z5c [.v (.pointer p0),.v (.string p1)] K w:=C_of Tryz.f17 .auto _ h
def ze9(p0 p1 p2:Int)(K:Value→PT):PT:=
 L.call Pr z2S [.int .i64 p0,.int .i64 1,.int .i64 30] rB fun(x1:Bool)=>
 L.ite (!x1) (
  K (.tuple #[.pointer none,.int .i64 2]))<|
 L.call Pr z2S [.int .i64 p1,.int .i64 0,.int .i64 8] rB fun(x2:Bool)=>
 L.ite (!x2) (
  K (.tuple #[.pointer none,.int .i64 2]))<|
 L.call Pr z2S [.int .i64 p2,.int .i64 1,.int .i64 50] rB fun(x3:Bool)=>
 L.ite (!x3) (
  K (.tuple #[.pointer none,.int .i64 2]))<|
 L.call Pr zbV [.int .i64 p0] rP fun(x4:Option Addr)=>
 L.call Pr zbS [] rP fun(x5:Option Addr)=>
 L.call Pr zbR [] rP fun(x6:Option Addr)=>
 L.call Pr zdA [] rP fun(x7:Option Addr)=>
 L.call Pr zdB [.pointer x4,.int .i64 p1,.int .i64 p2] rP fun(x8:Option Addr)=>
 L.sem Pr (.one (.one .map)) (Instr.makeMap z0T none) fun(m9:Option Nat)=>
 L.new [.pointer x5,.pointer x6,.pointer x7,.pointer x4,.pointer x8,.map m9,.int .i64 0] zaC fun b10=>
 K (.tuple #[.pointer (some (⟨b10,0,none⟩)),.int .i64 0])
theorem zjI(p0 p1 p2:Int)(h:ze9 p0 p1 p2 K w):CV z6L [.v (.int .i64 p0),.v (.int .i64 p1),.v (.int .i64 p2)] K w:=C_of Tryz.f19 .auto _ h
def z6o(p0:Option Addr)(K:Value→PT):PT:=
 L.nonnil p0 fun a1=>
 L.load eP6 (a1.add 4) fun(x2:Option Addr)=>
 L.call Pr z64 [.pointer x2] (.tup [eI6,eI6,eI6,eI6]) fun(x3:Int×Int×Int×Int×Unit)=>
 K (.tuple #[.int .i64 x3.1,.int .i64 x3.2.1,.int .i64 x3.2.2.1,.int .i64 x3.2.2.2.1])
theorem zag(p0:Option Addr)(h:z6o p0 K w):CV z4f [.v (.pointer p0)] K w:=C_of Tryz.f22 .auto _ h
def z9k  (K:Value→PT):PT:=
 L.call Pr z6L [.int .i64 2,.int .i64 1,.int .i64 3] (.tup [eP6,eI6]) fun(x1:Option Addr×Int×Unit)=>
 L.new [.int .u8 0,.int .u8 1,.int .u8 9] z3T fun b2=>
 L.call Pr zdz [.int .i64 2,.int .i64 1,.int .i64 3,.slice (some ⟨b2,0,none⟩) 3 3] (.tup [eL6,eI6]) fun(x3:Sl×Int×Unit)=>
 L.ite (!(x1.1).isNone) (
  L.ite (x1.2.1 == 0) (
   L.ite (x3.2.1 == 0) (
    L.ite (((x3.1.len:Nat):Int) == 1) (
     L.call Pr z04 [.pointer x1.1,.agg #[.int .i64 9,.string s_,.string s_,.int .i64 0,.int .i64 0,.string s_,.int .i64 0,.int .i64 0,.int .i64 0,.int .i64 0,.int .i64 0,.string s_,.string s_,.slice none 0 0,.int .i64 0]] rL fun(x4:Sl)=>
     L.call Pr z6y [Sv6 x4,Sv6 x3.1] rB fun(x5:Bool)=>
     L.ite x5 (
      L.new [.string zgf,.int .i64 100] z0m fun b6=>
      L.call Pr z9r [.agg #[.slice (some ⟨b6,0,none⟩) 1 1,.slice none 0 0]] rB fun(x7:Bool)=>
      K (.bool x7))<|
     K (.bool false))<|
    K (.bool false))<|
   K (.bool false))<|
  K (.bool false))<|
 K (.bool false)
theorem zdQ(h:z9k  K w):CV z6x [] K w:=C_of Tryz.f24 .auto _ h
def zds:Ann:=(.seq .auto (.seq .auto (.seq .auto .auto (some [(5,(.one (.int .i64)))])) none) none)
def z8T(p0 p1:Int)(K:Value→PT):PT:=
 L.guard (p1≠(0:Int))<|
 L.join (Y:=Int×Unit) (fun k1=>
  L.ite (decide ((Int.tmod p0 p1)<0)) (
   k1 (IntKind.wrap .i64 ((Int.tmod p0 p1)+p1),()))<|
  k1 (Int.tmod p0 p1,())) fun z2=>
 K (.int .i64 z2.1)
theorem zdi(p0 p1:Int)(h:z8T p0 p1 K w):CV z3l [.v (.int .i64 p0),.v (.int .i64 p1)] K w:=C_of Tryz.f25 zds _ h
def zeQ:Ann:=(.seq .auto (.seq .auto (.seq (.one [(1,(.one (.int .i64))),(5,(.one (.int .i64)))] (.seq .auto (.seq .auto (.seq (.one [(6,(.one (.int .i64)))] (.seq (.seq .auto (.cond .auto .auto) none) .auto none)) .auto (some [(6,(.one (.int .i64)))])) none) none)) .auto none) none) none)
def za8(p0:ByteArray)(p1:Int)(K:Value→PT):PT:=
 L.loop (Y:=Int×Int×Unit) (p1,0,()) fun y1 again2=>
 L.ite (decide (y1.1≥0)) (
  L.join (Y:=Int×Unit) (fun k3=>
   L.loop (Y:=Int×Unit) (y1.2.1,()) fun y5 again6=>
   L.ite (decide (y5.1<(p0.size:Int))) (
    L.guard ((0:Int)≤y5.1∧y5.1<p0.size)<|
    L.ite ((byteAt p0 y5.1) != 32) (
     again6 (IntKind.wrap .i64 (y5.1+1),()))<|
    k3 (y5.1,()))<|
   k3 (y5.1,())) fun z4=>
  L.ite (y1.1 == 0) (
   L.guard ((0:Int)≤y1.2.1∧y1.2.1≤z4.1∧z4.1≤p0.size)<|
   K (.string (p0.extract (Int.toNat y1.2.1) (Int.toNat z4.1))))<|
  L.ite (decide (z4.1≥(p0.size:Int))) (
   K (.string s_))<|
  again2 (IntKind.wrap .i64 (y1.1-1),IntKind.wrap .i64 (z4.1+1),()))<|
 K (.string s_)
theorem zeJ(p0:ByteArray)(p1:Int)(h:za8 p0 p1 K w):CV z7d [.v (.string p0),.v (.int .i64 p1)] K w:=C_of Tryz.f26 zeQ _ h
def zil:Ann:=(.seq .auto (.seq .auto (.seq .auto (.seq (.seq .auto .auto (some [(61,(.one (.bool)))])) (.seq (.seq .auto (.cond .auto (.seq .auto (.cond .auto (.seq .auto (.cond .auto (.seq .auto (.cond .auto .auto) none)) none)) none)) none) .auto (some [])) none) none) none) none)
def zd0(p0:ht1)(K:Value→PT):PT:=
 L.new [.int .i64 p0.1,.string p0.2.1,.string p0.2.2.1,.int .i64 p0.2.2.2.1,.int .i64 p0.2.2.2.2.1,.string p0.2.2.2.2.2.1,.int .i64 p0.2.2.2.2.2.2.1,.int .i64 p0.2.2.2.2.2.2.2.1,.int .i64 p0.2.2.2.2.2.2.2.2.1,.int .i64 p0.2.2.2.2.2.2.2.2.2.1,.int .i64 p0.2.2.2.2.2.2.2.2.2.2.1,.string p0.2.2.2.2.2.2.2.2.2.2.2.1,.string p0.2.2.2.2.2.2.2.2.2.2.2.2.1,Sv6 p0.2.2.2.2.2.2.2.2.2.2.2.2.2.1,.int .i64 p0.2.2.2.2.2.2.2.2.2.2.2.2.2.2.1] z0c fun b1=>
 L.load eI6 (Ad6 b1 0) fun(x2:Int)=>
 L.call Pr z7v [.int .i64 x2] (.tup [(.agg lf3),eB6]) fun(x3:pt2)=>
 L.new [.bool false,.bool false,.bool false,.bool false,.bool false,.bool false] z3r fun b4=>
 L.store (⟨b4,0,none⟩) [.bool x3.1.1,.bool x3.1.2.1,.bool x3.1.2.2.1,.bool x3.1.2.2.2.1,.bool x3.1.2.2.2.2.1,.bool x3.1.2.2.2.2.2.1]<|
 L.ite (!x3.2.1) (
  K (.int .i64 12))<|
 L.join (Y:=Bool×Unit) (fun k5=>
  L.load eB6 (Ad6 b4 0) fun(x7:Bool)=>
  L.load eI6 (Ad6 b1 3) fun(x8:Int)=>
  L.call Pr z5x [.bool x7,.int .i64 x8] rB fun(x9:Bool)=>
  L.ite (!x9) (
   k5 (true,()))<|
  L.load eB6 (Ad6 b4 1) fun(x10:Bool)=>
  L.load eS6 (Ad6 b1 1) fun(x11:ByteArray)=>
  L.call Pr z3P [.bool x10,.string x11] rB fun(x12:Bool)=>
  L.ite (!x12) (
   k5 (true,()))<|
  L.load eB6 (Ad6 b4 2) fun(x13:Bool)=>
  L.load eS6 (Ad6 b1 2) fun(x14:ByteArray)=>
  L.call Pr z3P [.bool x13,.string x14] rB fun(x15:Bool)=>
  L.ite (!x15) (
   k5 (true,()))<|
  L.load eB6 (Ad6 b4 3) fun(x16:Bool)=>
  L.load eI6 (Ad6 b1 4) fun(x17:Int)=>
  L.call Pr z5x [.bool x16,.int .i64 x17] rB fun(x18:Bool)=>
  L.ite (!x18) (
   k5 (true,()))<|
  L.load eB6 (Ad6 b4 4) fun(x19:Bool)=>
  L.load (.agg lf0) (Ad6 b1 5) fun(x20:pt0)=>
  L.call Pr z3Q [.bool x19,(qa0 x20)] rB fun(x21:Bool)=>
  L.ite (!x21) (
   k5 (true,()))<|
  L.load eB6 (Ad6 b4 5) fun(x22:Bool)=>
  L.ite (!x22) (
   L.load (.agg [.str,.str,.slice,.int .i64]) (Ad6 b1 11) fun(x23:pt3)=>
   L.call Pr zau [.agg #[.string x23.1,.string x23.2.1,Sv6 x23.2.2.1,.int .i64 x23.2.2.2.1]] rB fun(x24:Bool)=>
   k5 (!x24,()))<|
  k5 (false,())) fun z6=>
 L.ite z6.1 (
  K (.int .i64 2))<|
 L.join (Y:=Unit) (fun k25=>
  L.load eB6 (Ad6 b4 0) fun(x27:Bool)=>
  L.ite x27 (
   L.load (.agg lf1) (⟨b1,0,none⟩) fun(x28:pt1)=>
   L.call Pr z8V [(qa1 x28)] rB fun(x29:Bool)=>
   L.ite (!x29) (
    K (.int .i64 2))<|
   L.load eB6 (Ad6 b4 1) fun(x30:Bool)=>
   L.ite x30 (
    L.load (.agg lf1) (⟨b1,0,none⟩) fun(x31:pt1)=>
    L.call Pr z7w [(qa1 x31)] rB fun(x32:Bool)=>
    L.ite (!x32) (
     K (.int .i64 1))<|
    L.load eB6 (Ad6 b4 2) fun(x33:Bool)=>
    L.ite x33 (
     L.load eS6 (Ad6 b1 2) fun(x34:ByteArray)=>
     L.ite (!(x34.toList == s_.toList)) (
      L.load eS6 (Ad6 b1 2) fun(x35:ByteArray)=>
      L.call Pr z3p [.string x35] rB fun(x36:Bool)=>
      L.ite (!x36) (
       K (.int .i64 1))<|
      L.load eB6 (Ad6 b4 3) fun(x37:Bool)=>
      L.ite x37 (
       L.load eI6 (Ad6 b1 4) fun(x38:Int)=>
       L.call Pr z0R [.int .i64 x38,.int .i64 0,.int .i64 2147483647] rB fun(x39:Bool)=>
       L.ite (!x39) (
        K (.int .i64 2))<|
       L.load eB6 (Ad6 b4 4) fun(x40:Bool)=>
       L.ite x40 (
        L.load (.agg lf0) (Ad6 b1 5) fun(x41:pt0)=>
        L.call Pr z0r [(qa0 x41)] rI fun(x42:Int)=>
        K (.int .i64 x42))<|
       L.load eB6 (Ad6 b4 5) fun(x43:Bool)=>
       L.ite x43 (
        L.load (.agg [.str,.str,.slice,.int .i64]) (Ad6 b1 11) fun(x44:pt3)=>
        L.call Pr z0z [.agg #[.string x44.1,.string x44.2.1,Sv6 x44.2.2.1,.int .i64 x44.2.2.2.1]] rI fun(x45:Int)=>
        K (.int .i64 x45))<|
       k25 (()))<|
      L.load eB6 (Ad6 b4 4) fun(x46:Bool)=>
      L.ite x46 (
       L.load (.agg lf0) (Ad6 b1 5) fun(x47:pt0)=>
       L.call Pr z0r [(qa0 x47)] rI fun(x48:Int)=>
       K (.int .i64 x48))<|
      L.load eB6 (Ad6 b4 5) fun(x49:Bool)=>
      L.ite x49 (
       L.load (.agg [.str,.str,.slice,.int .i64]) (Ad6 b1 11) fun(x50:pt3)=>
       L.call Pr z0z [.agg #[.string x50.1,.string x50.2.1,Sv6 x50.2.2.1,.int .i64 x50.2.2.2.1]] rI fun(x51:Int)=>
       K (.int .i64 x51))<|
      k25 (()))<|
     L.load eB6 (Ad6 b4 3) fun(x52:Bool)=>
     L.ite x52 (
      L.load eI6 (Ad6 b1 4) fun(x53:Int)=>
      L.call Pr z0R [.int .i64 x53,.int .i64 0,.int .i64 2147483647] rB fun(x54:Bool)=>
      L.ite (!x54) (
       K (.int .i64 2))<|
      L.load eB6 (Ad6 b4 4) fun(x55:Bool)=>
      L.ite x55 (
       L.load (.agg lf0) (Ad6 b1 5) fun(x56:pt0)=>
       L.call Pr z0r [(qa0 x56)] rI fun(x57:Int)=>
       K (.int .i64 x57))<|
      L.load eB6 (Ad6 b4 5) fun(x58:Bool)=>
      L.ite x58 (
       L.load (.agg [.str,.str,.slice,.int .i64]) (Ad6 b1 11) fun(x59:pt3)=>
       L.call Pr z0z [.agg #[.string x59.1,.string x59.2.1,Sv6 x59.2.2.1,.int .i64 x59.2.2.2.1]] rI fun(x60:Int)=>
       K (.int .i64 x60))<|
      k25 (()))<|
     L.load eB6 (Ad6 b4 4) fun(x61:Bool)=>
     L.ite x61 (
      L.load (.agg lf0) (Ad6 b1 5) fun(x62:pt0)=>
      L.call Pr z0r [(qa0 x62)] rI fun(x63:Int)=>
      K (.int .i64 x63))<|
     L.load eB6 (Ad6 b4 5) fun(x64:Bool)=>
     L.ite x64 (
      L.load (.agg [.str,.str,.slice,.int .i64]) (Ad6 b1 11) fun(x65:pt3)=>
      L.call Pr z0z [.agg #[.string x65.1,.string x65.2.1,Sv6 x65.2.2.1,.int .i64 x65.2.2.2.1]] rI fun(x66:Int)=>
      K (.int .i64 x66))<|
     k25 (()))<|
    L.load eB6 (Ad6 b4 3) fun(x67:Bool)=>
    L.ite x67 (
     L.load eI6 (Ad6 b1 4) fun(x68:Int)=>
     L.call Pr z0R [.int .i64 x68,.int .i64 0,.int .i64 2147483647] rB fun(x69:Bool)=>
     L.ite (!x69) (
      K (.int .i64 2))<|
     L.load eB6 (Ad6 b4 4) fun(x70:Bool)=>
     L.ite x70 (
      L.load (.agg lf0) (Ad6 b1 5) fun(x71:pt0)=>
      L.call Pr z0r [(qa0 x71)] rI fun(x72:Int)=>
      K (.int .i64 x72))<|
     L.load eB6 (Ad6 b4 5) fun(x73:Bool)=>
     L.ite x73 (
      L.load (.agg [.str,.str,.slice,.int .i64]) (Ad6 b1 11) fun(x74:pt3)=>
      L.call Pr z0z [.agg #[.string x74.1,.string x74.2.1,Sv6 x74.2.2.1,.int .i64 x74.2.2.2.1]] rI fun(x75:Int)=>
      K (.int .i64 x75))<|
     k25 (()))<|
    L.load eB6 (Ad6 b4 4) fun(x76:Bool)=>
    L.ite x76 (
     L.load (.agg lf0) (Ad6 b1 5) fun(x77:pt0)=>
     L.call Pr z0r [(qa0 x77)] rI fun(x78:Int)=>
     K (.int .i64 x78))<|
    L.load eB6 (Ad6 b4 5) fun(x79:Bool)=>
    L.ite x79 (
     L.load (.agg [.str,.str,.slice,.int .i64]) (Ad6 b1 11) fun(x80:pt3)=>
     L.call Pr z0z [.agg #[.string x80.1,.string x80.2.1,Sv6 x80.2.2.1,.int .i64 x80.2.2.2.1]] rI fun(x81:Int)=>
     K (.int .i64 x81))<|
    k25 (()))<|
   L.load eB6 (Ad6 b4 2) fun(x82:Bool)=>
   L.ite x82 (
    L.load eS6 (Ad6 b1 2) fun(x83:ByteArray)=>
    L.ite (!(x83.toList == s_.toList)) (
     L.load eS6 (Ad6 b1 2) fun(x84:ByteArray)=>
     L.call Pr z3p [.string x84] rB fun(x85:Bool)=>
     L.ite (!x85) (
      K (.int .i64 1))<|
     L.load eB6 (Ad6 b4 3) fun(x86:Bool)=>
     L.ite x86 (
      L.load eI6 (Ad6 b1 4) fun(x87:Int)=>
      L.call Pr z0R [.int .i64 x87,.int .i64 0,.int .i64 2147483647] rB fun(x88:Bool)=>
      L.ite (!x88) (
       K (.int .i64 2))<|
      L.load eB6 (Ad6 b4 4) fun(x89:Bool)=>
      L.ite x89 (
       L.load (.agg lf0) (Ad6 b1 5) fun(x90:pt0)=>
       L.call Pr z0r [(qa0 x90)] rI fun(x91:Int)=>
       K (.int .i64 x91))<|
      L.load eB6 (Ad6 b4 5) fun(x92:Bool)=>
      L.ite x92 (
       L.load (.agg [.str,.str,.slice,.int .i64]) (Ad6 b1 11) fun(x93:pt3)=>
       L.call Pr z0z [.agg #[.string x93.1,.string x93.2.1,Sv6 x93.2.2.1,.int .i64 x93.2.2.2.1]] rI fun(x94:Int)=>
       K (.int .i64 x94))<|
      k25 (()))<|
     L.load eB6 (Ad6 b4 4) fun(x95:Bool)=>
     L.ite x95 (
      L.load (.agg lf0) (Ad6 b1 5) fun(x96:pt0)=>
      L.call Pr z0r [(qa0 x96)] rI fun(x97:Int)=>
      K (.int .i64 x97))<|
     L.load eB6 (Ad6 b4 5) fun(x98:Bool)=>
     L.ite x98 (
      L.load (.agg [.str,.str,.slice,.int .i64]) (Ad6 b1 11) fun(x99:pt3)=>
      L.call Pr z0z [.agg #[.string x99.1,.string x99.2.1,Sv6 x99.2.2.1,.int .i64 x99.2.2.2.1]] rI fun(x100:Int)=>
      K (.int .i64 x100))<|
     k25 (()))<|
    L.load eB6 (Ad6 b4 3) fun(x101:Bool)=>
    L.ite x101 (
     L.load eI6 (Ad6 b1 4) fun(x102:Int)=>
     L.call Pr z0R [.int .i64 x102,.int .i64 0,.int .i64 2147483647] rB fun(x103:Bool)=>
     L.ite (!x103) (
      K (.int .i64 2))<|
     L.load eB6 (Ad6 b4 4) fun(x104:Bool)=>
     L.ite x104 (
      L.load (.agg lf0) (Ad6 b1 5) fun(x105:pt0)=>
      L.call Pr z0r [(qa0 x105)] rI fun(x106:Int)=>
      K (.int .i64 x106))<|
     L.load eB6 (Ad6 b4 5) fun(x107:Bool)=>
     L.ite x107 (
      L.load (.agg [.str,.str,.slice,.int .i64]) (Ad6 b1 11) fun(x108:pt3)=>
      L.call Pr z0z [.agg #[.string x108.1,.string x108.2.1,Sv6 x108.2.2.1,.int .i64 x108.2.2.2.1]] rI fun(x109:Int)=>
      K (.int .i64 x109))<|
     k25 (()))<|
    L.load eB6 (Ad6 b4 4) fun(x110:Bool)=>
    L.ite x110 (
     L.load (.agg lf0) (Ad6 b1 5) fun(x111:pt0)=>
     L.call Pr z0r [(qa0 x111)] rI fun(x112:Int)=>
     K (.int .i64 x112))<|
    L.load eB6 (Ad6 b4 5) fun(x113:Bool)=>
    L.ite x113 (
     L.load (.agg [.str,.str,.slice,.int .i64]) (Ad6 b1 11) fun(x114:pt3)=>
     L.call Pr z0z [.agg #[.string x114.1,.string x114.2.1,Sv6 x114.2.2.1,.int .i64 x114.2.2.2.1]] rI fun(x115:Int)=>
     K (.int .i64 x115))<|
    k25 (()))<|
   L.load eB6 (Ad6 b4 3) fun(x116:Bool)=>
   L.ite x116 (
    L.load eI6 (Ad6 b1 4) fun(x117:Int)=>
    L.call Pr z0R [.int .i64 x117,.int .i64 0,.int .i64 2147483647] rB fun(x118:Bool)=>
    L.ite (!x118) (
     K (.int .i64 2))<|
    L.load eB6 (Ad6 b4 4) fun(x119:Bool)=>
    L.ite x119 (
     L.load (.agg lf0) (Ad6 b1 5) fun(x120:pt0)=>
     L.call Pr z0r [(qa0 x120)] rI fun(x121:Int)=>
     K (.int .i64 x121))<|
    L.load eB6 (Ad6 b4 5) fun(x122:Bool)=>
    L.ite x122 (
     L.load (.agg [.str,.str,.slice,.int .i64]) (Ad6 b1 11) fun(x123:pt3)=>
     L.call Pr z0z [.agg #[.string x123.1,.string x123.2.1,Sv6 x123.2.2.1,.int .i64 x123.2.2.2.1]] rI fun(x124:Int)=>
     K (.int .i64 x124))<|
    k25 (()))<|
   L.load eB6 (Ad6 b4 4) fun(x125:Bool)=>
   L.ite x125 (
    L.load (.agg lf0) (Ad6 b1 5) fun(x126:pt0)=>
    L.call Pr z0r [(qa0 x126)] rI fun(x127:Int)=>
    K (.int .i64 x127))<|
   L.load eB6 (Ad6 b4 5) fun(x128:Bool)=>
   L.ite x128 (
    L.load (.agg [.str,.str,.slice,.int .i64]) (Ad6 b1 11) fun(x129:pt3)=>
    L.call Pr z0z [.agg #[.string x129.1,.string x129.2.1,Sv6 x129.2.2.1,.int .i64 x129.2.2.2.1]] rI fun(x130:Int)=>
    K (.int .i64 x130))<|
   k25 (()))<|
  L.load eB6 (Ad6 b4 1) fun(x131:Bool)=>
  L.ite x131 (
   L.load (.agg lf1) (⟨b1,0,none⟩) fun(x132:pt1)=>
   L.call Pr z7w [(qa1 x132)] rB fun(x133:Bool)=>
   L.ite (!x133) (
    K (.int .i64 1))<|
   L.load eB6 (Ad6 b4 2) fun(x134:Bool)=>
   L.ite x134 (
    L.load eS6 (Ad6 b1 2) fun(x135:ByteArray)=>
    L.ite (!(x135.toList == s_.toList)) (
     L.load eS6 (Ad6 b1 2) fun(x136:ByteArray)=>
     L.call Pr z3p [.string x136] rB fun(x137:Bool)=>
     L.ite (!x137) (
      K (.int .i64 1))<|
     L.load eB6 (Ad6 b4 3) fun(x138:Bool)=>
     L.ite x138 (
      L.load eI6 (Ad6 b1 4) fun(x139:Int)=>
      L.call Pr z0R [.int .i64 x139,.int .i64 0,.int .i64 2147483647] rB fun(x140:Bool)=>
      L.ite (!x140) (
       K (.int .i64 2))<|
      L.load eB6 (Ad6 b4 4) fun(x141:Bool)=>
      L.ite x141 (
       L.load (.agg lf0) (Ad6 b1 5) fun(x142:pt0)=>
       L.call Pr z0r [(qa0 x142)] rI fun(x143:Int)=>
       K (.int .i64 x143))<|
      L.load eB6 (Ad6 b4 5) fun(x144:Bool)=>
      L.ite x144 (
       L.load (.agg [.str,.str,.slice,.int .i64]) (Ad6 b1 11) fun(x145:pt3)=>
       L.call Pr z0z [.agg #[.string x145.1,.string x145.2.1,Sv6 x145.2.2.1,.int .i64 x145.2.2.2.1]] rI fun(x146:Int)=>
       K (.int .i64 x146))<|
      k25 (()))<|
     L.load eB6 (Ad6 b4 4) fun(x147:Bool)=>
     L.ite x147 (
      L.load (.agg lf0) (Ad6 b1 5) fun(x148:pt0)=>
      L.call Pr z0r [(qa0 x148)] rI fun(x149:Int)=>
      K (.int .i64 x149))<|
     L.load eB6 (Ad6 b4 5) fun(x150:Bool)=>
     L.ite x150 (
      L.load (.agg [.str,.str,.slice,.int .i64]) (Ad6 b1 11) fun(x151:pt3)=>
      L.call Pr z0z [.agg #[.string x151.1,.string x151.2.1,Sv6 x151.2.2.1,.int .i64 x151.2.2.2.1]] rI fun(x152:Int)=>
      K (.int .i64 x152))<|
     k25 (()))<|
    L.load eB6 (Ad6 b4 3) fun(x153:Bool)=>
    L.ite x153 (
     L.load eI6 (Ad6 b1 4) fun(x154:Int)=>
     L.call Pr z0R [.int .i64 x154,.int .i64 0,.int .i64 2147483647] rB fun(x155:Bool)=>
     L.ite (!x155) (
      K (.int .i64 2))<|
     L.load eB6 (Ad6 b4 4) fun(x156:Bool)=>
     L.ite x156 (
      L.load (.agg lf0) (Ad6 b1 5) fun(x157:pt0)=>
      L.call Pr z0r [(qa0 x157)] rI fun(x158:Int)=>
      K (.int .i64 x158))<|
     L.load eB6 (Ad6 b4 5) fun(x159:Bool)=>
     L.ite x159 (
      L.load (.agg [.str,.str,.slice,.int .i64]) (Ad6 b1 11) fun(x160:pt3)=>
      L.call Pr z0z [.agg #[.string x160.1,.string x160.2.1,Sv6 x160.2.2.1,.int .i64 x160.2.2.2.1]] rI fun(x161:Int)=>
      K (.int .i64 x161))<|
     k25 (()))<|
    L.load eB6 (Ad6 b4 4) fun(x162:Bool)=>
    L.ite x162 (
     L.load (.agg lf0) (Ad6 b1 5) fun(x163:pt0)=>
     L.call Pr z0r [(qa0 x163)] rI fun(x164:Int)=>
     K (.int .i64 x164))<|
    L.load eB6 (Ad6 b4 5) fun(x165:Bool)=>
    L.ite x165 (
     L.load (.agg [.str,.str,.slice,.int .i64]) (Ad6 b1 11) fun(x166:pt3)=>
     L.call Pr z0z [.agg #[.string x166.1,.string x166.2.1,Sv6 x166.2.2.1,.int .i64 x166.2.2.2.1]] rI fun(x167:Int)=>
     K (.int .i64 x167))<|
    k25 (()))<|
   L.load eB6 (Ad6 b4 3) fun(x168:Bool)=>
   L.ite x168 (
    L.load eI6 (Ad6 b1 4) fun(x169:Int)=>
    L.call Pr z0R [.int .i64 x169,.int .i64 0,.int .i64 2147483647] rB fun(x170:Bool)=>
    L.ite (!x170) (
     K (.int .i64 2))<|
    L.load eB6 (Ad6 b4 4) fun(x171:Bool)=>
    L.ite x171 (
     L.load (.agg lf0) (Ad6 b1 5) fun(x172:pt0)=>
     L.call Pr z0r [(qa0 x172)] rI fun(x173:Int)=>
     K (.int .i64 x173))<|
    L.load eB6 (Ad6 b4 5) fun(x174:Bool)=>
    L.ite x174 (
     L.load (.agg [.str,.str,.slice,.int .i64]) (Ad6 b1 11) fun(x175:pt3)=>
     L.call Pr z0z [.agg #[.string x175.1,.string x175.2.1,Sv6 x175.2.2.1,.int .i64 x175.2.2.2.1]] rI fun(x176:Int)=>
     K (.int .i64 x176))<|
    k25 (()))<|
   L.load eB6 (Ad6 b4 4) fun(x177:Bool)=>
   L.ite x177 (
    L.load (.agg lf0) (Ad6 b1 5) fun(x178:pt0)=>
    L.call Pr z0r [(qa0 x178)] rI fun(x179:Int)=>
    K (.int .i64 x179))<|
   L.load eB6 (Ad6 b4 5) fun(x180:Bool)=>
   L.ite x180 (
    L.load (.agg [.str,.str,.slice,.int .i64]) (Ad6 b1 11) fun(x181:pt3)=>
    L.call Pr z0z [.agg #[.string x181.1,.string x181.2.1,Sv6 x181.2.2.1,.int .i64 x181.2.2.2.1]] rI fun(x182:Int)=>
    K (.int .i64 x182))<|
   k25 (()))<|
  L.load eB6 (Ad6 b4 2) fun(x183:Bool)=>
  L.ite x183 (
   L.load eS6 (Ad6 b1 2) fun(x184:ByteArray)=>
   L.ite (!(x184.toList == s_.toList)) (
    L.load eS6 (Ad6 b1 2) fun(x185:ByteArray)=>
    L.call Pr z3p [.string x185] rB fun(x186:Bool)=>
    L.ite (!x186) (
     K (.int .i64 1))<|
    L.load eB6 (Ad6 b4 3) fun(x187:Bool)=>
    L.ite x187 (
     L.load eI6 (Ad6 b1 4) fun(x188:Int)=>
     L.call Pr z0R [.int .i64 x188,.int .i64 0,.int .i64 2147483647] rB fun(x189:Bool)=>
     L.ite (!x189) (
      K (.int .i64 2))<|
     L.load eB6 (Ad6 b4 4) fun(x190:Bool)=>
     L.ite x190 (
      L.load (.agg lf0) (Ad6 b1 5) fun(x191:pt0)=>
      L.call Pr z0r [(qa0 x191)] rI fun(x192:Int)=>
      K (.int .i64 x192))<|
     L.load eB6 (Ad6 b4 5) fun(x193:Bool)=>
     L.ite x193 (
      L.load (.agg [.str,.str,.slice,.int .i64]) (Ad6 b1 11) fun(x194:pt3)=>
      L.call Pr z0z [.agg #[.string x194.1,.string x194.2.1,Sv6 x194.2.2.1,.int .i64 x194.2.2.2.1]] rI fun(x195:Int)=>
      K (.int .i64 x195))<|
     k25 (()))<|
    L.load eB6 (Ad6 b4 4) fun(x196:Bool)=>
    L.ite x196 (
     L.load (.agg lf0) (Ad6 b1 5) fun(x197:pt0)=>
     L.call Pr z0r [(qa0 x197)] rI fun(x198:Int)=>
     K (.int .i64 x198))<|
    L.load eB6 (Ad6 b4 5) fun(x199:Bool)=>
    L.ite x199 (
     L.load (.agg [.str,.str,.slice,.int .i64]) (Ad6 b1 11) fun(x200:pt3)=>
     L.call Pr z0z [.agg #[.string x200.1,.string x200.2.1,Sv6 x200.2.2.1,.int .i64 x200.2.2.2.1]] rI fun(x201:Int)=>
     K (.int .i64 x201))<|
    k25 (()))<|
   L.load eB6 (Ad6 b4 3) fun(x202:Bool)=>
   L.ite x202 (
    L.load eI6 (Ad6 b1 4) fun(x203:Int)=>
    L.call Pr z0R [.int .i64 x203,.int .i64 0,.int .i64 2147483647] rB fun(x204:Bool)=>
    L.ite (!x204) (
     K (.int .i64 2))<|
    L.load eB6 (Ad6 b4 4) fun(x205:Bool)=>
    L.ite x205 (
     L.load (.agg lf0) (Ad6 b1 5) fun(x206:pt0)=>
     L.call Pr z0r [(qa0 x206)] rI fun(x207:Int)=>
     K (.int .i64 x207))<|
    L.load eB6 (Ad6 b4 5) fun(x208:Bool)=>
    L.ite x208 (
     L.load (.agg [.str,.str,.slice,.int .i64]) (Ad6 b1 11) fun(x209:pt3)=>
     L.call Pr z0z [.agg #[.string x209.1,.string x209.2.1,Sv6 x209.2.2.1,.int .i64 x209.2.2.2.1]] rI fun(x210:Int)=>
     K (.int .i64 x210))<|
    k25 (()))<|
   L.load eB6 (Ad6 b4 4) fun(x211:Bool)=>
   L.ite x211 (
    L.load (.agg lf0) (Ad6 b1 5) fun(x212:pt0)=>
    L.call Pr z0r [(qa0 x212)] rI fun(x213:Int)=>
    K (.int .i64 x213))<|
   L.load eB6 (Ad6 b4 5) fun(x214:Bool)=>
   L.ite x214 (
    L.load (.agg [.str,.str,.slice,.int .i64]) (Ad6 b1 11) fun(x215:pt3)=>
    L.call Pr z0z [.agg #[.string x215.1,.string x215.2.1,Sv6 x215.2.2.1,.int .i64 x215.2.2.2.1]] rI fun(x216:Int)=>
    K (.int .i64 x216))<|
   k25 (()))<|
  L.load eB6 (Ad6 b4 3) fun(x217:Bool)=>
  L.ite x217 (
   L.load eI6 (Ad6 b1 4) fun(x218:Int)=>
   L.call Pr z0R [.int .i64 x218,.int .i64 0,.int .i64 2147483647] rB fun(x219:Bool)=>
   L.ite (!x219) (
    K (.int .i64 2))<|
   L.load eB6 (Ad6 b4 4) fun(x220:Bool)=>
   L.ite x220 (
    L.load (.agg lf0) (Ad6 b1 5) fun(x221:pt0)=>
    L.call Pr z0r [(qa0 x221)] rI fun(x222:Int)=>
    K (.int .i64 x222))<|
   L.load eB6 (Ad6 b4 5) fun(x223:Bool)=>
   L.ite x223 (
    L.load (.agg [.str,.str,.slice,.int .i64]) (Ad6 b1 11) fun(x224:pt3)=>
    L.call Pr z0z [.agg #[.string x224.1,.string x224.2.1,Sv6 x224.2.2.1,.int .i64 x224.2.2.2.1]] rI fun(x225:Int)=>
    K (.int .i64 x225))<|
   k25 (()))<|
  L.load eB6 (Ad6 b4 4) fun(x226:Bool)=>
  L.ite x226 (
   L.load (.agg lf0) (Ad6 b1 5) fun(x227:pt0)=>
   L.call Pr z0r [(qa0 x227)] rI fun(x228:Int)=>
   K (.int .i64 x228))<|
  L.load eB6 (Ad6 b4 5) fun(x229:Bool)=>
  L.ite x229 (
   L.load (.agg [.str,.str,.slice,.int .i64]) (Ad6 b1 11) fun(x230:pt3)=>
   L.call Pr z0z [.agg #[.string x230.1,.string x230.2.1,Sv6 x230.2.2.1,.int .i64 x230.2.2.2.1]] rI fun(x231:Int)=>
   K (.int .i64 x231))<|
  k25 (())) fun z26=>
 K (.int .i64 0)
theorem zi8(p0:ht1)(h:zd0 p0 K w):CV z7x [.ag (qc1 p0)] K w:=C_of Tryz.f29 zil _ h
def zbs:Ann:=(.seq .auto (.seq .auto (.seq (.seq .auto (.one [(5,(.one (.slice))),(14,(.one (.int .i64)))] (.seq .auto (.seq .auto (.seq .auto .auto (some [(5,(.one (.slice)))])) none) none)) none) .auto none) none) none)
def z7i(p0:ByteArray)(p1:Sl)(K:Value→PT):PT:=
 L.new [.string p0] z00 fun b1=>
 L.loop (Y:=Sl×Int×Unit) (⟨some ⟨b1,0,none⟩,1,1⟩,0,()) fun y2 again3=>
 L.ite (decide (y2.2.1<((p1.len:Nat):Int))) (
  L.join (Y:=Sl×Unit) (fun k4=>
   L.idx p1.a y2.2.1 p1.len 1 fun a6=>
   L.load eS6 a6 fun(x7:ByteArray)=>
   L.ite true (
    L.new [.string x7] z00 fun b8=>
    L.sem Pr (.one (.one .slice)) (Builtin.append_ #[z07,z07] z07 #[Sv6 y2.1,.slice (some ⟨b8,0,none⟩) 1 1]) fun(s9:Sl)=>
    k4 (⟨s9.a,s9.len,s9.cap⟩,()))<|
   L.semR Pr (.tup [eI6,.one .bool]) (Instr.typeAssert (.iface z00 (.string x7)) zbZ z0h true) fun(x10:Int×Bool×Unit)=>
   L.ite x10.2.1 (
    L.call Pr z4d [.int .i64 x10.1] rS fun(x11:ByteArray)=>
    L.new [.string x11] z00 fun b12=>
    L.sem Pr (.one (.one .slice)) (Builtin.append_ #[z07,z07] z07 #[Sv6 y2.1,.slice (some ⟨b12,0,none⟩) 1 1]) fun(s13:Sl)=>
    k4 (⟨s13.a,s13.len,s13.cap⟩,()))<|
   k4 (⟨y2.1.a,y2.1.len,y2.1.cap⟩,())) fun z5=>
  again3 (⟨z5.1.a,z5.1.len,z5.1.cap⟩,IntKind.wrap .i64 (y2.2.1+1),()))<|
 L.call Pr z6C [Sv6 y2.1,.string z8A] rS fun(x14:ByteArray)=>
 K (.string x14)
theorem zbi(p0:ByteArray)(p1:Sl)(h:z7i p0 p1 K w):CV z0i [.v (.string p0),.v (.slice p1.a p1.len p1.cap)] K w:=C_of Tryz.f30 zbs _ h
def z9m(p0:Int)(K:Value→PT):PT:=
 L.ite (decide (p0≤6)) (
  L.call Pr zfq [.int .i64 p0] rS fun(x1:ByteArray)=>
  K (.string x1))<|
 L.call Pr zgG [.int .i64 p0] rS fun(x2:ByteArray)=>
 K (.string x2)
theorem zdS(p0:Int)(h:z9m p0 K w):CV z3x [.v (.int .i64 p0)] K w:=C_of Tryz.f31 .auto _ h
def z4i(p0:Option Addr)(p1:ht1)(K:Value→PT):PT:=
 L.new [.int .i64 p1.1,.string p1.2.1,.string p1.2.2.1,.int .i64 p1.2.2.2.1,.int .i64 p1.2.2.2.2.1,.string p1.2.2.2.2.2.1,.int .i64 p1.2.2.2.2.2.2.1,.int .i64 p1.2.2.2.2.2.2.2.1,.int .i64 p1.2.2.2.2.2.2.2.2.1,.int .i64 p1.2.2.2.2.2.2.2.2.2.1,.int .i64 p1.2.2.2.2.2.2.2.2.2.2.1,.string p1.2.2.2.2.2.2.2.2.2.2.2.1,.string p1.2.2.2.2.2.2.2.2.2.2.2.2.1,Sv6 p1.2.2.2.2.2.2.2.2.2.2.2.2.2.1,.int .i64 p1.2.2.2.2.2.2.2.2.2.2.2.2.2.2.1] z0c fun b1=>
 L.draw<|
 L.nonnil p0 fun a2=>
 L.load eP6 (a2.add 0) fun(x3:Option Addr)=>
 L.load (.agg lf0) (Ad6 b1 5) fun(x4:pt0)=>
 L.load eI6 (Ad6 b1 3) fun(x5:Int)=>
 L.call Pr z3N [.pointer x3,(qa0 x4),.int .i64 x5] (.tup [eI6,eI6]) fun(x6:Int×Int×Unit)=>
 L.load eS6 ((Ad6 b1 5).add 0) fun(x7:ByteArray)=>
 L.call Pr z8C [.string zhp,.string x7,.int .i64 x6.1,.int .i64 x6.2.1] rL fun(x8:Sl)=>
 K (.slice x8.a x8.len x8.cap)
theorem zad(p0:Option Addr)(p1:ht1)(h:z4i p0 p1 K w):CV z1G [.v (.pointer p0),.ag (qc1 p1)] K w:=C_of Tryz.f32 .auto _ h
theorem zaa:Enters Pr z1G:=z0j (by kernel_rfl)
def z4I(p0:Option Addr)(p1:ht1)(K:Value→PT):PT:=
 L.new [.int .i64 p1.1,.string p1.2.1,.string p1.2.2.1,.int .i64 p1.2.2.2.1,.int .i64 p1.2.2.2.2.1,.string p1.2.2.2.2.2.1,.int .i64 p1.2.2.2.2.2.2.1,.int .i64 p1.2.2.2.2.2.2.2.1,.int .i64 p1.2.2.2.2.2.2.2.2.1,.int .i64 p1.2.2.2.2.2.2.2.2.2.1,.int .i64 p1.2.2.2.2.2.2.2.2.2.2.1,.string p1.2.2.2.2.2.2.2.2.2.2.2.1,.string p1.2.2.2.2.2.2.2.2.2.2.2.2.1,Sv6 p1.2.2.2.2.2.2.2.2.2.2.2.2.2.1,.int .i64 p1.2.2.2.2.2.2.2.2.2.2.2.2.2.2.1] z0c fun b1=>
 L.draw<|
 L.nonnil p0 fun a2=>
 L.load eP6 (a2.add 0) fun(x3:Option Addr)=>
 L.load (.agg [.str,.str,.slice,.int .i64]) (Ad6 b1 11) fun(x4:pt3)=>
 L.load eI6 (Ad6 b1 3) fun(x5:Int)=>
 L.call Pr z4h [.pointer x3,.agg #[.string x4.1,.string x4.2.1,Sv6 x4.2.2.1,.int .i64 x4.2.2.2.1],.int .i64 x5] (.tup [eI6,eI6]) fun(x6:Int×Int×Unit)=>
 L.load eS6 ((Ad6 b1 11).add 0) fun(x7:ByteArray)=>
 L.call Pr z8C [.string znf,.string x7,.int .i64 x6.1,.int .i64 x6.2.1] rL fun(x8:Sl)=>
 K (.slice x8.a x8.len x8.cap)
theorem zaR(p0:Option Addr)(p1:ht1)(h:z4I p0 p1 K w):CV z1P [.v (.pointer p0),.ag (qc1 p1)] K w:=C_of Tryz.f33 .auto _ h
theorem zaN:Enters Pr z1P:=z0j (by kernel_rfl)
def zak:Ann:=(.seq .auto (.seq .auto (.seq .auto (.seq .auto (.seq .auto (.seq (.seq .auto (.cond .auto .auto) none) .auto (some [(7,(.one (.slice)))])) none) none) none) none) none)
def z4j(p0:Option Addr)(p1:ht1)(K:Value→PT):PT:=
 L.new [.int .i64 p1.1,.string p1.2.1,.string p1.2.2.1,.int .i64 p1.2.2.2.1,.int .i64 p1.2.2.2.2.1,.string p1.2.2.2.2.2.1,.int .i64 p1.2.2.2.2.2.2.1,.int .i64 p1.2.2.2.2.2.2.2.1,.int .i64 p1.2.2.2.2.2.2.2.2.1,.int .i64 p1.2.2.2.2.2.2.2.2.2.1,.int .i64 p1.2.2.2.2.2.2.2.2.2.2.1,.string p1.2.2.2.2.2.2.2.2.2.2.2.1,.string p1.2.2.2.2.2.2.2.2.2.2.2.2.1,Sv6 p1.2.2.2.2.2.2.2.2.2.2.2.2.2.1,.int .i64 p1.2.2.2.2.2.2.2.2.2.2.2.2.2.2.1] z0c fun b1=>
 L.load (.agg lf1) (⟨b1,0,none⟩) fun(x2:pt1)=>
 L.call Pr z4B [.pointer p0,(qa1 x2)] rS fun(x3:ByteArray)=>
 L.draw<|
 L.nonnil p0 fun a4=>
 L.load eP6 (a4.add 4) fun(x5:Option Addr)=>
 L.load eI6 (Ad6 b1 3) fun(x6:Int)=>
 L.nonnil p0 fun a7=>
 L.load eI6 (a7.add 6) fun(x8:Int)=>
 L.call Pr z65 [.pointer x5,.int .i64 x6,.string x3,.int .i64 x8] rL fun(x9:Sl)=>
 L.call Pr z4R [Sv6 x9,.slice none 0 0] rL fun(x10:Sl)=>
 L.nonnil p0 fun a11=>
 L.load (.one (.map)) (a11.add 5) fun(x12:Option Nat)=>
 L.call Pr z2e [.map x12,.string x3] (.tup [eP6,eB6]) fun(x13:Option Addr×Bool×Unit)=>
 L.join (Y:=Sl×Unit) (fun k14=>
  L.ite x13.2.1 (
   L.ite (decide (((x9.len:Nat):Int)>0)) (
    L.idx x9.a 0 x9.len 4 fun a16=>
    L.load eI6 (a16.add 1) fun(x17:Int)=>
    L.ite (x17 == 2) (
     L.nonnil x13.1 fun a18=>
     L.load eI6 ((a18.add 1).add 0) fun(x19:Int)=>
     L.ite (x19 == 0) (
      L.nonnil x13.1 fun a20=>
      L.store ((a20.add 1).add 0) [.int .i64 1]<|
      L.new [.string x3] z00 fun b21=>
      L.call Pr z0i [.string s_scale,.slice (some ⟨b21,0,none⟩) 1 1] rS fun(x22:ByteArray)=>
      L.new [.int .i64 1] z0h fun b23=>
      L.call Pr z0q [.string x22,.slice (some ⟨b23,0,none⟩) 1 1] rS fun(x24:ByteArray)=>
      L.new [.string x24] z00 fun b25=>
      L.sem Pr (.one (.one .slice)) (Builtin.append_ #[z07,z07] z07 #[Sv6 x10,.slice (some ⟨b25,0,none⟩) 1 1]) fun(s26:Sl)=>
      k14 (⟨s26.a,s26.len,s26.cap⟩,()))<|
     k14 (⟨x10.a,x10.len,x10.cap⟩,()))<|
    k14 (⟨x10.a,x10.len,x10.cap⟩,()))<|
   k14 (⟨x10.a,x10.len,x10.cap⟩,()))<|
  k14 (⟨x10.a,x10.len,x10.cap⟩,())) fun z15=>
 K (.slice z15.1.a z15.1.len z15.1.cap)
theorem zae(p0:Option Addr)(p1:ht1)(h:z4j p0 p1 K w):CV z1H [.v (.pointer p0),.ag (qc1 p1)] K w:=C_of Tryz.f35 zak _ h
theorem zab:Enters Pr z1H:=z0j (by kernel_rfl)
def z5g(p0:Option Addr)(p1:ht1)(K:Value→PT):PT:=
 L.new [.int .i64 p1.1,.string p1.2.1,.string p1.2.2.1,.int .i64 p1.2.2.2.1,.int .i64 p1.2.2.2.2.1,.string p1.2.2.2.2.2.1,.int .i64 p1.2.2.2.2.2.2.1,.int .i64 p1.2.2.2.2.2.2.2.1,.int .i64 p1.2.2.2.2.2.2.2.2.1,.int .i64 p1.2.2.2.2.2.2.2.2.2.1,.int .i64 p1.2.2.2.2.2.2.2.2.2.2.1,.string p1.2.2.2.2.2.2.2.2.2.2.2.1,.string p1.2.2.2.2.2.2.2.2.2.2.2.2.1,Sv6 p1.2.2.2.2.2.2.2.2.2.2.2.2.2.1,.int .i64 p1.2.2.2.2.2.2.2.2.2.2.2.2.2.2.1] z0c fun b1=>
 L.draw<|
 L.nonnil p0 fun a2=>
 L.load eP6 (a2.add 4) fun(x3:Option Addr)=>
 L.load eI6 (Ad6 b1 3) fun(x4:Int)=>
 L.call Pr z79 [.pointer x3,.int .i64 x4] (.tup [eL6,eI6]) fun(x5:Sl×Int×Unit)=>
 L.ite (x5.2.1 != 0) (
  L.call Pr z1k [.int .i64 x5.2.1] rL fun(x6:Sl)=>
  K (.slice x6.a x6.len x6.cap))<|
 L.call Pr z4R [Sv6 x5.1,.slice none 0 0] rL fun(x7:Sl)=>
 K (.slice x7.a x7.len x7.cap)
theorem zbl(p0:Option Addr)(p1:ht1)(h:z5g p0 p1 K w):CV z27 [.v (.pointer p0),.ag (qc1 p1)] K w:=C_of Tryz.f36 .auto _ h
theorem zbg:Enters Pr z27:=z0j (by kernel_rfl)
def zdk:Ann:=(.seq .auto (.seq .auto (.seq .auto (.seq .auto (.seq .auto .auto (some [(7,(.one (.slice)))])) none) none) none) none)
def z6e(p0:Option Addr)(p1:ht1)(K:Value→PT):PT:=
 L.new [.int .i64 p1.1,.string p1.2.1,.string p1.2.2.1,.int .i64 p1.2.2.2.1,.int .i64 p1.2.2.2.2.1,.string p1.2.2.2.2.2.1,.int .i64 p1.2.2.2.2.2.2.1,.int .i64 p1.2.2.2.2.2.2.2.1,.int .i64 p1.2.2.2.2.2.2.2.2.1,.int .i64 p1.2.2.2.2.2.2.2.2.2.1,.int .i64 p1.2.2.2.2.2.2.2.2.2.2.1,.string p1.2.2.2.2.2.2.2.2.2.2.2.1,.string p1.2.2.2.2.2.2.2.2.2.2.2.2.1,Sv6 p1.2.2.2.2.2.2.2.2.2.2.2.2.2.1,.int .i64 p1.2.2.2.2.2.2.2.2.2.2.2.2.2.2.1] z0c fun b1=>
 L.draw<|
 L.nonnil p0 fun a2=>
 L.load eP6 (a2.add 3) fun(x3:Option Addr)=>
 L.load eI6 (Ad6 b1 3) fun(x4:Int)=>
 L.call Pr z5w [.pointer x3,.int .i64 x4] rI fun(x5:Int)=>
 L.ite (x5 != 0) (
  L.call Pr z1k [.int .i64 x5] rL fun(x6:Sl)=>
  K (.slice x6.a x6.len x6.cap))<|
 L.draw<|
 L.nonnil p0 fun a7=>
 L.load eP6 (a7.add 3) fun(x8:Option Addr)=>
 L.load eI6 (Ad6 b1 3) fun(x9:Int)=>
 L.call Pr z7c [.pointer x8,.int .i64 x9] rS fun(x10:ByteArray)=>
 L.load eI6 (Ad6 b1 3) fun(x11:Int)=>
 L.new [.int .i64 x11] z0h fun b12=>
 L.call Pr z0q [.string s_up,.slice (some ⟨b12,0,none⟩) 1 1] rS fun(x13:ByteArray)=>
 L.new [.string x13] z00 fun b14=>
 L.join (Y:=Sl×Unit) (fun k15=>
  L.nonnil p0 fun a17=>
  L.load eP6 (a17.add 1) fun(x18:Option Addr)=>
  L.call Pr z1K [.pointer x18,.string x10] rB fun(x19:Bool)=>
  L.ite (!x19) (
   L.nonnil p0 fun a20=>
   L.load eP6 (a20.add 1) fun(x21:Option Addr)=>
   L.call Pr z5Z [.pointer x21,.string x10] rI fun(x22:Int)=>
   L.new [.string x10] z00 fun b23=>
   L.call Pr z0i [.string zeT,.slice (some ⟨b23,0,none⟩) 1 1] rS fun(x24:ByteArray)=>
   L.new [.string x24] z00 fun b25=>
   L.sem Pr (.one (.one .slice)) (Builtin.append_ #[z07,z07] z07 #[.slice (some ⟨b14,0,none⟩) 1 1,.slice (some ⟨b25,0,none⟩) 1 1]) fun(s26:Sl)=>
   k15 (⟨s26.a,s26.len,s26.cap⟩,()))<|
  k15 (⟨some ⟨b14,0,none⟩,1,1⟩,())) fun z16=>
 L.nonnil p0 fun a27=>
 L.load eP6 (a27.add 4) fun(x28:Option Addr)=>
 L.call Pr z43 [.pointer x28,.string x10] rL fun(x29:Sl)=>
 L.call Pr z4R [Sv6 x29,Sv6 z16.1] rL fun(x30:Sl)=>
 K (.slice x30.a x30.len x30.cap)
theorem zd4(p0:Option Addr)(p1:ht1)(h:z6e p0 p1 K w):CV z2C [.v (.pointer p0),.ag (qc1 p1)] K w:=C_of Tryz.f37 zdk _ h
theorem zd1:Enters Pr z2C:=z0j (by kernel_rfl)
def zbt:Ann:=(.seq .auto (.seq .auto (.seq .auto (.seq .auto (.seq (.seq .auto (.one [(33,(.one (.int .i64)))] .auto) none) .auto none) none) none) none) none)
def z5e(p0:Option Addr)(p1:ht1)(K:Value→PT):PT:=
 L.new [.int .i64 p1.1,.string p1.2.1,.string p1.2.2.1,.int .i64 p1.2.2.2.1,.int .i64 p1.2.2.2.2.1,.string p1.2.2.2.2.2.1,.int .i64 p1.2.2.2.2.2.2.1,.int .i64 p1.2.2.2.2.2.2.2.1,.int .i64 p1.2.2.2.2.2.2.2.2.1,.int .i64 p1.2.2.2.2.2.2.2.2.2.1,.int .i64 p1.2.2.2.2.2.2.2.2.2.2.1,.string p1.2.2.2.2.2.2.2.2.2.2.2.1,.string p1.2.2.2.2.2.2.2.2.2.2.2.2.1,Sv6 p1.2.2.2.2.2.2.2.2.2.2.2.2.2.1,.int .i64 p1.2.2.2.2.2.2.2.2.2.2.2.2.2.2.1] z0c fun b1=>
 L.nonnil p0 fun a2=>
 L.load eI6 (a2.add 6) fun(x3:Int)=>
 L.ite (decide (x3≥1048576)) (
  L.call Pr z1k [.int .i64 9] rL fun(x4:Sl)=>
  K (.slice x4.a x4.len x4.cap))<|
 L.nonnil p0 fun a5=>
 L.load eI6 (a5.add 6) fun(x6:Int)=>
 L.nonnil p0 fun a7=>
 L.store (a7.add 6) [.int .i64 (IntKind.wrap .i64 (x6+1))]<|
 L.draw<|
 L.nonnil p0 fun a8=>
 L.load eP6 (a8.add 4) fun(x9:Option Addr)=>
 L.nonnil p0 fun a10=>
 L.load eI6 (a10.add 6) fun(x11:Int)=>
 L.call Pr z77 [.pointer x9,.int .i64 x11] rL fun(x12:Sl)=>
 L.call Pr z5m [.pointer p0] rL fun(x13:Sl)=>
 L.loop (Y:=Int×Unit) (0,()) fun y14 again15=>
 L.ite (decide (y14.1<((x13.len:Nat):Int))) (
  L.idx x13.a y14.1 x13.len 1 fun a16=>
  L.load eS6 a16 fun(x17:ByteArray)=>
  L.draw<|
  L.nonnil p0 fun a18=>
  L.load (.one (.map)) (a18.add 5) fun(x19:Option Nat)=>
  L.semR Pr rP (Instr.lookup z0T (.map x19) (.string x17) false) fun(x20:Option Addr)=>
  L.nonnil x20 fun a21=>
  L.load eP6 (a21.add 0) fun(x22:Option Addr)=>
  L.nonnil p0 fun a23=>
  L.load eP6 (a23.add 4) fun(x24:Option Addr)=>
  L.call Pr z7a [.pointer x24,.string x17] rI fun(x25:Int)=>
  L.chk (a21.add 0) [.pointer x22]<|
  L.chkSem Pr (Instr.lookup z0T (.map x19) (.string x17) false) (.pointer x20)<|
  L.chk (a18.add 5) [.map x19]<|
  L.call Pr z6v [.pointer x22,.int .i64 x25] (.tup []) fun(x26:Unit)=>
  again15 (IntKind.wrap .i64 (y14.1+1),()))<|
 L.nonnil p0 fun a27=>
 L.load eI6 (a27.add 6) fun(x28:Int)=>
 L.new [.int .i64 x28] z0h fun b29=>
 L.call Pr z0q [.string znb,.slice (some ⟨b29,0,none⟩) 1 1] rS fun(x30:ByteArray)=>
 L.new [.string x30] z00 fun b31=>
 L.call Pr z4R [Sv6 x12,.slice (some ⟨b31,0,none⟩) 1 1] rL fun(x32:Sl)=>
 K (.slice x32.a x32.len x32.cap)
theorem zbj(p0:Option Addr)(p1:ht1)(h:z5e p0 p1 K w):CV z1Y [.v (.pointer p0),.ag (qc1 p1)] K w:=C_of Tryz.f39 zbt _ h
theorem zbe:Enters Pr z1Y:=z0j (by kernel_rfl)
def zb0:Ann:=(.seq .auto (.seq (.one [(5,(.one (.adr))),(7,(.one (.int .i64))),(8,(.one (.bool)))] .auto) .auto none) none)
def z4H(p0:Option Addr)(p1:ht1)(K:Value→PT):PT:=
 L.new [.int .i64 p1.1,.string p1.2.1,.string p1.2.2.1,.int .i64 p1.2.2.2.1,.int .i64 p1.2.2.2.2.1,.string p1.2.2.2.2.2.1,.int .i64 p1.2.2.2.2.2.2.1,.int .i64 p1.2.2.2.2.2.2.2.1,.int .i64 p1.2.2.2.2.2.2.2.2.1,.int .i64 p1.2.2.2.2.2.2.2.2.2.1,.int .i64 p1.2.2.2.2.2.2.2.2.2.2.1,.string p1.2.2.2.2.2.2.2.2.2.2.2.1,.string p1.2.2.2.2.2.2.2.2.2.2.2.2.1,Sv6 p1.2.2.2.2.2.2.2.2.2.2.2.2.2.1,.int .i64 p1.2.2.2.2.2.2.2.2.2.2.2.2.2.2.1] z0c fun b1=>
 L.join (Y:=Addr×Int×Bool×Unit) (fun k2=>
  L.draw<|
  L.nonnil p0 fun a4=>
  L.load eP6 (a4.add 0) fun(x5:Option Addr)=>
  L.load eS6 (Ad6 b1 1) fun(x6:ByteArray)=>
  L.alts [(
    L.call Pr z3v [.pointer x5,.string x6] (.tup [(.agg lf0),eI6,eI6,eB6]) fun(x7:pt4)=>
    L.new [.string s_,.int .i64 0,.int .i64 0,.int .i64 0,.int .i64 0,.int .i64 0] z0t fun b8=>
    L.chk (Ad6 b1 1) [.string x6]<|
    L.chk (a4.add 0) [.pointer x5]<|
    L.store (⟨b8,0,none⟩) [.string x7.1.1,.int .i64 x7.1.2.1,.int .i64 x7.1.2.2.1,.int .i64 x7.1.2.2.2.1,.int .i64 x7.1.2.2.2.2.1,.int .i64 x7.1.2.2.2.2.2.1]<|
    k2 (⟨b8,0,none⟩,x7.2.2.1,x7.2.2.2.1,())),(
    L.new [.string s_,.int .i64 0,.int .i64 0,.int .i64 0,.int .i64 0,.int .i64 0] z0t fun b9=>
    L.chk (Ad6 b1 1) [.string x6]<|
    L.chk (a4.add 0) [.pointer x5]<|
    L.call Pr z3v [.pointer x5,.string x6] (.tup [(.agg lf0),eI6,eI6,eB6]) fun(x10:pt4)=>
    L.store (⟨b9,0,none⟩) [.string x10.1.1,.int .i64 x10.1.2.1,.int .i64 x10.1.2.2.1,.int .i64 x10.1.2.2.2.1,.int .i64 x10.1.2.2.2.2.1,.int .i64 x10.1.2.2.2.2.2.1]<|
    k2 (⟨b9,0,none⟩,x10.2.2.1,x10.2.2.2.1,()))]) fun z3=>
 L.ite (!z3.2.2.1) (
  L.call Pr z1k [.int .i64 6] rL fun(x11:Sl)=>
  K (.slice x11.a x11.len x11.cap))<|
 L.ite (decide (z3.2.1>999999)) (
  L.call Pr z1k [.int .i64 3] rL fun(x12:Sl)=>
  K (.slice x12.a x12.len x12.cap))<|
 L.draw<|
 L.nonnil p0 fun a13=>
 L.load eP6 (a13.add 1) fun(x14:Option Addr)=>
 L.load (.agg lf0) z3.1 fun(x15:pt0)=>
 L.call Pr z5Y [.pointer x14,(qa0 x15),.int .i64 z3.2.1] (.tup [eS6,eB6]) fun(x16:ByteArray×Bool×Unit)=>
 L.ite (!x16.2.1) (
  L.new [.string x16.1] z00 fun b17=>
  L.call Pr z0i [.string zq1,.slice (some ⟨b17,0,none⟩) 1 1] rS fun(x18:ByteArray)=>
  L.new [.string x18] z00 fun b19=>
  K (.slice (some ⟨b19,0,none⟩) 1 1))<|
 L.load eI6 (z3.1.add 3) fun(x20:Int)=>
 L.draw<|
 L.nonnil p0 fun a21=>
 L.load (.one (.map)) (a21.add 5) fun(x22:Option Nat)=>
 L.call Pr zbU [] rP fun(x23:Option Addr)=>
 L.chk (a21.add 5) [.map x22]<|
 L.new [.pointer x23,.int .i64 (if 1>x20 then 1 else x20),.int .i64 0] z7V fun b24=>
 L.chk (a21.add 5) [.map x22]<|
 L.semU Pr (Instr.mapUpdate z0T (.map x22) (.string x16.1) (.pointer (some (⟨b24,0,none⟩))))<|
 L.new [.string x16.1] z00 fun b25=>
 L.call Pr z0i [.string zb4,.slice (some ⟨b25,0,none⟩) 1 1] rS fun(x26:ByteArray)=>
 L.new [.string x16.1] z00 fun b27=>
 L.call Pr z0i [.string s_scale,.slice (some ⟨b27,0,none⟩) 1 1] rS fun(x28:ByteArray)=>
 L.new [.int .i64 (if 1>x20 then 1 else x20)] z0h fun b29=>
 L.call Pr z0q [.string x28,.slice (some ⟨b29,0,none⟩) 1 1] rS fun(x30:ByteArray)=>
 L.new [.string x26,.string x30] z00 fun b31=>
 K (.slice (some ⟨b31,0,none⟩) 2 2)
theorem zaQ(p0:Option Addr)(p1:ht1)(h:z4H p0 p1 K w):CV z1O [.v (.pointer p0),.ag (qc1 p1)] K w:=C_of Tryz.f40 zb0 _ h
theorem zaM:Enters Pr z1O:=z0j (by kernel_rfl)
def zbv:Ann:=(.seq .auto (.seq (.one [(5,(.one (.adr))),(7,(.one (.bool)))] .auto) (.seq .auto (.seq (.one [(8,(.one (.adr))),(9,(.one (.int .i64)))] .auto) .auto none) none) none) none)
def z5f(p0:Option Addr)(p1:ht1)(K:Value→PT):PT:=
 L.new [.int .i64 p1.1,.string p1.2.1,.string p1.2.2.1,.int .i64 p1.2.2.2.1,.int .i64 p1.2.2.2.2.1,.string p1.2.2.2.2.2.1,.int .i64 p1.2.2.2.2.2.2.1,.int .i64 p1.2.2.2.2.2.2.2.1,.int .i64 p1.2.2.2.2.2.2.2.2.1,.int .i64 p1.2.2.2.2.2.2.2.2.2.1,.int .i64 p1.2.2.2.2.2.2.2.2.2.2.1,.string p1.2.2.2.2.2.2.2.2.2.2.2.1,.string p1.2.2.2.2.2.2.2.2.2.2.2.2.1,Sv6 p1.2.2.2.2.2.2.2.2.2.2.2.2.2.1,.int .i64 p1.2.2.2.2.2.2.2.2.2.2.2.2.2.2.1] z0c fun b1=>
 L.join (Y:=Addr×Bool×Unit) (fun k2=>
  L.draw<|
  L.nonnil p0 fun a4=>
  L.load eP6 (a4.add 0) fun(x5:Option Addr)=>
  L.load eS6 (Ad6 b1 1) fun(x6:ByteArray)=>
  L.alts [(
    L.call Pr z3M [.pointer x5,.string x6] (.tup [(.agg [.str,.str,.slice,.int .i64]),eI6,eB6]) fun(x7:pt5)=>
    L.new [.string s_,.string s_,.slice none 0 0,.int .i64 0] z0s fun b8=>
    L.chk (Ad6 b1 1) [.string x6]<|
    L.chk (a4.add 0) [.pointer x5]<|
    L.store (⟨b8,0,none⟩) [.string x7.1.1,.string x7.1.2.1,Sv6 x7.1.2.2.1,.int .i64 x7.1.2.2.2.1]<|
    k2 (⟨b8,0,none⟩,x7.2.2.1,())),(
    L.new [.string s_,.string s_,.slice none 0 0,.int .i64 0] z0s fun b9=>
    L.chk (Ad6 b1 1) [.string x6]<|
    L.chk (a4.add 0) [.pointer x5]<|
    L.call Pr z3M [.pointer x5,.string x6] (.tup [(.agg [.str,.str,.slice,.int .i64]),eI6,eB6]) fun(x10:pt5)=>
    L.store (⟨b9,0,none⟩) [.string x10.1.1,.string x10.1.2.1,Sv6 x10.1.2.2.1,.int .i64 x10.1.2.2.2.1]<|
    k2 (⟨b9,0,none⟩,x10.2.2.1,()))]) fun z3=>
 L.ite (!z3.2.1) (
  L.call Pr z1k [.int .i64 6] rL fun(x11:Sl)=>
  K (.slice x11.a x11.len x11.cap))<|
 L.join (Y:=Addr×Int×Unit) (fun k12=>
  L.draw<|
  L.load (.agg [.str,.str,.slice,.int .i64]) z3.1 fun(x14:pt3)=>
  L.nonnil p0 fun a15=>
  L.load eP6 (a15.add 1) fun(x16:Option Addr)=>
  L.alts [(
    L.call Pr z6F [.agg #[.string x14.1,.string x14.2.1,Sv6 x14.2.2.1,.int .i64 x14.2.2.2.1],.pointer x16] (.tup [(.agg [.slice,.slice]),eI6]) fun(x17:(Sl×Sl×Unit)×Int×Unit)=>
    L.new [.slice none 0 0,.slice none 0 0] z02 fun b18=>
    L.chk (a15.add 1) [.pointer x16]<|
    L.chk z3.1 [.string x14.1,.string x14.2.1,Sv6 x14.2.2.1,.int .i64 x14.2.2.2.1]<|
    L.store (⟨b18,0,none⟩) [Sv6 x17.1.1,Sv6 x17.1.2.1]<|
    k12 (⟨b18,0,none⟩,x17.2.1,())),(
    L.new [.slice none 0 0,.slice none 0 0] z02 fun b19=>
    L.chk (a15.add 1) [.pointer x16]<|
    L.chk z3.1 [.string x14.1,.string x14.2.1,Sv6 x14.2.2.1,.int .i64 x14.2.2.2.1]<|
    L.call Pr z6F [.agg #[.string x14.1,.string x14.2.1,Sv6 x14.2.2.1,.int .i64 x14.2.2.2.1],.pointer x16] (.tup [(.agg [.slice,.slice]),eI6]) fun(x20:(Sl×Sl×Unit)×Int×Unit)=>
    L.store (⟨b19,0,none⟩) [Sv6 x20.1.1,Sv6 x20.1.2.1]<|
    k12 (⟨b19,0,none⟩,x20.2.1,()))]) fun z13=>
 L.ite (z13.2.1 != 0) (
  L.call Pr z1k [.int .i64 z13.2.1] rL fun(x21:Sl)=>
  K (.slice x21.a x21.len x21.cap))<|
 L.draw<|
 L.load eS6 (Ad6 b1 1) fun(x22:ByteArray)=>
 L.nonnil p0 fun a23=>
 L.load eP6 (a23.add 2) fun(x24:Option Addr)=>
 L.load eS6 (Ad6 b1 1) fun(x25:ByteArray)=>
 L.load (.agg [.slice,.slice]) z13.1 fun(x26:Sl×Sl×Unit)=>
 L.nonnil p0 fun a27=>
 L.load eI6 (a27.add 6) fun(x28:Int)=>
 L.load eI6 (z3.1.add 3) fun(x29:Int)=>
 L.call Pr z63 [.pointer x24,.string x25,.agg #[Sv6 x26.1,Sv6 x26.2.1],.int .i64 x28,.int .i64 x29] (.one (.agg [.slice,.slice])) fun(x30:Sl×Sl×Unit)=>
 L.chk (Ad6 b1 1) [.string x22]<|
 L.call Pr zap [.agg #[Sv6 x30.1,Sv6 x30.2.1]] rS fun(x31:ByteArray)=>
 L.chk (Ad6 b1 1) [.string x22]<|
 L.new [.string x22,.string x31] z00 fun b32=>
 L.call Pr z0i [.string znc,.slice (some ⟨b32,0,none⟩) 2 2] rS fun(x33:ByteArray)=>
 L.new [.string x33] z00 fun b34=>
 K (.slice (some ⟨b34,0,none⟩) 1 1)
theorem zbk(p0:Option Addr)(p1:ht1)(h:z5f p0 p1 K w):CV z1Z [.v (.pointer p0),.ag (qc1 p1)] K w:=C_of Tryz.f41 zbv _ h
theorem zbf:Enters Pr z1Z:=z0j (by kernel_rfl)
def zbu:Ann:=(.seq .auto (.seq (.one [(5,(.one (.adr))),(6,(.one (.bool)))] .auto) (.seq .auto (.seq .auto (.seq .auto (.seq (.seq .auto (.one [(9,(.one (.slice))),(47,(.one (.int .i64)))] .auto) none) (.seq (.seq .auto (.one [(9,(.one (.slice))),(60,(.one (.int .i64)))] .auto) none) .auto none) none) none) none) none) none) none)
def z2L(p0:Option Addr)(p1:ht1)(K:Value→PT):PT:=
 L.new [.int .i64 p1.1,.string p1.2.1,.string p1.2.2.1,.int .i64 p1.2.2.2.1,.int .i64 p1.2.2.2.2.1,.string p1.2.2.2.2.2.1,.int .i64 p1.2.2.2.2.2.2.1,.int .i64 p1.2.2.2.2.2.2.2.1,.int .i64 p1.2.2.2.2.2.2.2.2.1,.int .i64 p1.2.2.2.2.2.2.2.2.2.1,.int .i64 p1.2.2.2.2.2.2.2.2.2.2.1,.string p1.2.2.2.2.2.2.2.2.2.2.2.1,.string p1.2.2.2.2.2.2.2.2.2.2.2.2.1,Sv6 p1.2.2.2.2.2.2.2.2.2.2.2.2.2.1,.int .i64 p1.2.2.2.2.2.2.2.2.2.2.2.2.2.2.1] z0c fun b1=>
 L.join (Y:=Addr×Bool×Unit) (fun k2=>
  L.draw<|
  L.nonnil p0 fun a4=>
  L.load eP6 (a4.add 1) fun(x5:Option Addr)=>
  L.load eS6 (Ad6 b1 1) fun(x6:ByteArray)=>
  L.alts [(
    L.call Pr z42 [.pointer x5,.string x6] (.tup [(.agg lf4),eB6]) fun(x7:pt6)=>
    L.new [.string s_,.int .i64 0,.string s_,.int .i64 0,.int .i64 0,.int .i64 0,.int .i64 0,.int .i64 0] z0p fun b8=>
    L.chk (Ad6 b1 1) [.string x6]<|
    L.chk (a4.add 1) [.pointer x5]<|
    L.store (⟨b8,0,none⟩) [.string x7.1.1,.int .i64 x7.1.2.1,.string x7.1.2.2.1,.int .i64 x7.1.2.2.2.1,.int .i64 x7.1.2.2.2.2.1,.int .i64 x7.1.2.2.2.2.2.1,.int .i64 x7.1.2.2.2.2.2.2.1,.int .i64 x7.1.2.2.2.2.2.2.2.1]<|
    k2 (⟨b8,0,none⟩,x7.2.1,())),(
    L.new [.string s_,.int .i64 0,.string s_,.int .i64 0,.int .i64 0,.int .i64 0,.int .i64 0,.int .i64 0] z0p fun b9=>
    L.chk (Ad6 b1 1) [.string x6]<|
    L.chk (a4.add 1) [.pointer x5]<|
    L.call Pr z42 [.pointer x5,.string x6] (.tup [(.agg lf4),eB6]) fun(x10:pt6)=>
    L.store (⟨b9,0,none⟩) [.string x10.1.1,.int .i64 x10.1.2.1,.string x10.1.2.2.1,.int .i64 x10.1.2.2.2.1,.int .i64 x10.1.2.2.2.2.1,.int .i64 x10.1.2.2.2.2.2.1,.int .i64 x10.1.2.2.2.2.2.2.1,.int .i64 x10.1.2.2.2.2.2.2.2.1]<|
    k2 (⟨b9,0,none⟩,x10.2.1,()))]) fun z3=>
 L.ite (!z3.2.1) (
  L.call Pr z1k [.int .i64 6] rL fun(x11:Sl)=>
  K (.slice x11.a x11.len x11.cap))<|
 L.draw<|
 L.nonnil p0 fun a12=>
 L.load eP6 (a12.add 3) fun(x13:Option Addr)=>
 L.load eS6 (Ad6 b1 1) fun(x14:ByteArray)=>
 L.load eI6 ((z3.1.add 2).add 2) fun(x15:Int)=>
 L.load eS6 (Ad6 b1 1) fun(x16:ByteArray)=>
 L.call Pr z5c [.pointer p0,.string x16] rI fun(x17:Int)=>
 L.chk ((z3.1.add 2).add 2) [.int .i64 x15]<|
 L.chk (Ad6 b1 1) [.string x14]<|
 L.chk (a12.add 3) [.pointer x13]<|
 L.call Pr z5B [.pointer x13,.string x14,.int .i64 x15,.int .i64 x17] (.tup [eL6,eL6]) fun(x18:Sl×Sl×Unit)=>
 L.loop (Y:=Sl×Int×Unit) (⟨none,0,0⟩,0,()) fun y19 again20=>
 L.ite (decide (y19.2.1<((x18.1.len:Nat):Int))) (
  L.idx x18.1.a y19.2.1 x18.1.len 1 fun a21=>
  L.load eI6 a21 fun(x22:Int)=>
  L.new [.int .i64 x22] z0h fun b23=>
  L.call Pr z0q [.string zq5,.slice (some ⟨b23,0,none⟩) 1 1] rS fun(x24:ByteArray)=>
  L.new [.string x24] z00 fun b25=>
  L.sem Pr (.one (.one .slice)) (Builtin.append_ #[z07,z07] z07 #[Sv6 y19.1,.slice (some ⟨b25,0,none⟩) 1 1]) fun(s26:Sl)=>
  again20 (⟨s26.a,s26.len,s26.cap⟩,IntKind.wrap .i64 (y19.2.1+1),()))<|
 L.loop (Y:=Sl×Int×Unit) (⟨y19.1.a,y19.1.len,y19.1.cap⟩,0,()) fun y27 again28=>
 L.ite (decide (y27.2.1<((x18.2.1.len:Nat):Int))) (
  L.idx x18.2.1.a y27.2.1 x18.2.1.len 1 fun a29=>
  L.load eI6 a29 fun(x30:Int)=>
  L.new [.int .i64 x30] z0h fun b31=>
  L.call Pr z0q [.string zq8,.slice (some ⟨b31,0,none⟩) 1 1] rS fun(x32:ByteArray)=>
  L.new [.string x32] z00 fun b33=>
  L.sem Pr (.one (.one .slice)) (Builtin.append_ #[z07,z07] z07 #[Sv6 y27.1,.slice (some ⟨b33,0,none⟩) 1 1]) fun(s34:Sl)=>
  again28 (⟨s34.a,s34.len,s34.cap⟩,IntKind.wrap .i64 (y27.2.1+1),()))<|
 L.load eS6 (Ad6 b1 1) fun(x35:ByteArray)=>
 L.call Pr z4A [.pointer p0,.string x35,.func (.func z36) #[] #[]] rI fun(x36:Int)=>
 L.load eS6 (Ad6 b1 1) fun(x37:ByteArray)=>
 L.new [.string x37] z00 fun b38=>
 L.call Pr z0i [.string s_fleet,.slice (some ⟨b38,0,none⟩) 1 1] rS fun(x39:ByteArray)=>
 L.new [.int .i64 x36] z0h fun b40=>
 L.call Pr z0q [.string x39,.slice (some ⟨b40,0,none⟩) 1 1] rS fun(x41:ByteArray)=>
 L.new [.string x41] z00 fun b42=>
 L.sem Pr (.one (.one .slice)) (Builtin.append_ #[z07,z07] z07 #[Sv6 y27.1,.slice (some ⟨b42,0,none⟩) 1 1]) fun(s43:Sl)=>
 K (.slice s43.a s43.len s43.cap)
theorem z7q(p0:Option Addr)(p1:ht1)(h:z2L p0 p1 K w):CV z1C [.v (.pointer p0),.ag (qc1 p1)] K w:=C_of Tryz.f43 zbu _ h
theorem z7p:Enters Pr z1C:=z0j (by kernel_rfl)
def zdm:Ann:=(.seq .auto (.seq (.seq .auto (.one [(5,(.one (.slice)))] (.seq .auto (.seq (.cond .auto .auto) .auto none) none)) none) (.seq .auto (.seq .auto .auto (some [(4,(.one (.slice)))])) none) none) none)
def z8M(p0:Option Addr)(p1:ByteArray)(K:Value→PT):PT:=
 L.nonnil p0 fun a1=>
 L.load (.one (.map)) (a1.add 1) fun(x2:Option Nat)=>
 L.sem Pr (.one (.one .ptr)) (Instr.range z1p (.map x2)) fun(it3:Option Addr)=>
 L.loop (Y:=Sl×Unit) (⟨none,0,0⟩,()) fun y4 again5=>
 L.next Pr [eI6,(.agg [.str,.int .i64])] (Instr.next (.pointer it3) false T_) (
  L.call Pr z4C [Sv6 y4.1] (.tup []) fun(x7:Unit)=>
  L.join (Y:=Sl×Unit) (fun k8=>
   L.nonnil p0 fun a10=>
   L.load (.one (.map)) ((a10.add 2).add 0) fun(x11:Option Nat)=>
   L.semR Pr (.tup [eP6,.one .bool]) (Instr.lookup z0I (.map x11) (.string p1) true) fun(x12:Option Addr×Bool×Unit)=>
   L.ite x12.2.1 (
    L.call Pr z5X [.pointer x12.1] rL fun(x13:Sl)=>
    k8 (⟨x13.a,x13.len,x13.cap⟩,()))<|
   k8 (⟨none,0,0⟩,())) fun z9=>
  L.call Pr z18 [Sv6 y4.1] rL fun(x14:Sl)=>
  K (.tuple #[Sv6 z9.1,Sv6 x14])) fun(x6:pt7)=>
 L.sem Pr (.tup [eI6,(.agg [.str,.int .i64])]) (Instr.entry (.pointer it3)) fun(x15:pt7)=>
 L.new [.string s_,.int .i64 0] z0S fun b16=>
 L.store (⟨b16,0,none⟩) [.string x15.2.1.1,.int .i64 x15.2.1.2.1]<|
 L.load (.agg [.str,.int .i64]) (⟨b16,0,none⟩) fun(x17:ByteArray×Int×Unit)=>
 L.chkSem Pr (do eqGuard .eql z0S (.tmp 0) (.tmp 0) (.agg #[.string x17.1,.int .i64 x17.2.1]) (.agg #[.string p1,.int .i64 1]);binOp .eql z0S (.agg #[.string x17.1,.int .i64 x17.2.1]) (.agg #[.string p1,.int .i64 1])) (.bool ((x17.1 == p1)&&((x17.2.1 == 1)&&true)))<|
 L.ite ((x17.1 == p1)&&((x17.2.1 == 1)&&true)) (
  L.new [.int .i64 x15.1] z0h fun b18=>
  L.sem Pr (.one (.one .slice)) (Builtin.append_ #[z1b,z1b] z1b #[Sv6 y4.1,.slice (some ⟨b18,0,none⟩) 1 1]) fun(s19:Sl)=>
  again5 (⟨s19.a,s19.len,s19.cap⟩,()))<|
 again5 (⟨y4.1.a,y4.1.len,y4.1.cap⟩,())
theorem zdb(p0:Option Addr)(p1:ByteArray)(h:z8M p0 p1 K w):CV z4m [.v (.pointer p0),.v (.string p1)] K w:=C_of Tryz.f44 zdm _ h
def zdr:Ann:=(.seq .auto (.seq .auto (.seq (.seq .auto (.seq .auto .auto (some [(11,(.one (.int .i64))),(12,(.one (.ptr)))])) none) .auto none) none) none)
def z8R(p0:Option Addr)(p1:ByteArray)(K:Value→PT):PT:=
 L.new [.slice none 0 0] z1y fun b1=>
 L.call Pr z3i [.pointer p0,.string p1] (.one (.one (.func))) fun(x2:FV)=>
 L.range Pr none (.func x2.fn x2.fs x2.cs) [eI6,eP6] (fun l3(y4:Int×Option Addr×Unit) R5=>
  L.begin Pr l3<|
  L.draw<|
  L.load eL6 (⟨b1,0,none⟩) fun(x8:Sl)=>
  L.call Pr z1u [.pointer y4.2.1] rI fun(x9:Int)=>
  L.chk (⟨b1,0,none⟩) [Sv6 x8]<|
  L.call Pr z2q [.pointer y4.2.1] rI fun(x10:Int)=>
  L.chk (⟨b1,0,none⟩) [Sv6 x8]<|
  L.new [.int .i64 y4.1,.int .i64 x9,.int .i64 x10] z4G fun b11=>
  L.chk (⟨b1,0,none⟩) [Sv6 x8]<|
  L.sem Pr (.one (.one .slice)) (Builtin.append_ #[z1y,z1y] z1y #[Sv6 x8,.slice (some ⟨b11,0,none⟩) 1 1]) fun(s12:Sl)=>
  L.store (⟨b1,0,none⟩) [Sv6 s12]<|
  L.endRound Pr l3 none R5) fun d6 j7=>
 L.jump j7 (
  L.load eL6 (⟨b1,0,none⟩) fun(x13:Sl)=>
  L.call Pr z1I [Sv6 x13] rL fun(x14:Sl)=>
  L.unmark Pr (d6++[])<|
  K (.slice x14.a x14.len x14.cap)) (
  L.unmark Pr (d6++[])<|
  K (.slice none 0 0)) []
theorem zdg(p0:Option Addr)(p1:ByteArray)(h:z8R p0 p1 K w):CV z67 [.v (.pointer p0),.v (.string p1)] K w:=C_of Tryz.f45 zdr _ h
def z2g(p0:Option Nat)(p1:ByteArray)(K:Value→PT):PT:=
 L.semR Pr (.tup [eP6,.one .bool]) (Instr.lookup z0T (.map p0) (.string p1) true) fun(x1:Option Addr×Bool×Unit)=>
 K (.tuple #[.pointer x1.1,.bool x1.2.1])
theorem z3u(p0:Option Nat)(p1:ByteArray)(h:z2g p0 p1 K w):CV z2e [.v (.map p0),.v (.string p1)] K w:=C_of Tryz.f47 .auto _ h
def z7Z(p0 p1 p2:Int)(K:Value→PT):PT:=
 L.ite (decide (p0≥p1)) (
  K (.bool (decide (p0≤p2))))<|
 K (.bool false)
theorem zc5(p0 p1 p2:Int)(h:z7Z p0 p1 p2 K w):CV z2S [.v (.int .i64 p0),.v (.int .i64 p1),.v (.int .i64 p2)] K w:=C_of Tryz.f49 .auto _ h
def zfZ(p0:Int)(K:Value→PT):PT:=
 L.sem Pr (.one (.one .map)) (Instr.makeMap z0x none) fun(m1:Option Nat)=>
 L.sem Pr (.one (.one .map)) (Instr.makeMap z0K none) fun(m2:Option Nat)=>
 L.new [.map m1,.map m2,.int .i64 p0,.int .i64 0] zcF fun b3=>
 K (.pointer (some (⟨b3,0,none⟩)))
theorem zkE(p0:Int)(h:zfZ p0 K w):CV zbV [.v (.int .i64 p0)] K w:=C_of Tryz.f50 .auto _ h
def zfV  (K:Value→PT):PT:=
 L.call Pr z3L [.func (.func z1q) #[] #[]] rP fun(x1:Option Addr)=>
 L.call Pr z4g [.func (.func z0H) #[] #[]] rP fun(x2:Option Addr)=>
 L.new [.pointer x1,.pointer x2,.int .i64 0] zcE fun b3=>
 K (.pointer (some (⟨b3,0,none⟩)))
theorem zkA(h:zfV  K w):CV zbS [] K w:=C_of Tryz.f51 .auto _ h
def zfS  (K:Value→PT):PT:=
 L.sem Pr (.one (.one .map)) (Instr.makeMap z0l none) fun(m1:Option Nat)=>
 L.sem Pr (.one (.one .map)) (Instr.makeMap z4n none) fun(m2:Option Nat)=>
 L.new [.map m1,.map m2] ze3 fun b3=>
 K (.pointer (some (⟨b3,0,none⟩)))
theorem zkx(h:zfS  K w):CV zbR [] K w:=C_of Tryz.f52 .auto _ h
def zh5  (K:Value→PT):PT:=
 L.sem Pr (.one (.one .map)) (Instr.makeMap z1Q none) fun(m1:Option Nat)=>
 L.new [.map m1] z9I fun b2=>
 K (.pointer (some (⟨b2,0,none⟩)))
theorem zmG(h:zh5  K w):CV zdA [] K w:=C_of Tryz.f53 .auto _ h
def zh7(p0:Option Addr)(p1 p2:Int)(K:Value→PT):PT:=
 L.new [.int .i64 p1] z0h fun b1=>
 L.sem Pr (.one (.one .map)) (Instr.makeMap z1p none) fun(m2:Option Nat)=>
 L.sem Pr (.one (.one .map)) (Instr.makeMap z0I none) fun(m3:Option Nat)=>
 L.load eI6 (⟨b1,0,none⟩) fun(x4:Int)=>
 L.new [.pointer p0,.map m2,.map m3,.func (.func z8D) #[] #[.pointer (some (⟨b1,0,none⟩))],.int .i64 x4,.int .i64 p2] zfN fun b5=>
 K (.pointer (some (⟨b5,0,none⟩)))
theorem zmI(p0:Option Addr)(p1 p2:Int)(h:zh7 p0 p1 p2 K w):CV zdB [.v (.pointer p0),.v (.int .i64 p1),.v (.int .i64 p2)] K w:=C_of Tryz.f54 .auto _ h
def zdn:Ann:=(.seq .auto (.seq .auto (.seq (.seq .auto (.one [] (.seq .auto (.seq (.cond .auto .auto) .auto none) none)) none) .auto none) none) none)
def z8N(p0:Option Addr)(K:Value→PT):PT:=
 L.sem Pr (.one (.one .map)) (Instr.makeMap z0K none) fun(m1:Option Nat)=>
 L.nonnil p0 fun a2=>
 L.load (.one (.map)) (a2.add 1) fun(x3:Option Nat)=>
 L.sem Pr (.one (.one .ptr)) (Instr.range z1p (.map x3)) fun(it4:Option Addr)=>
 L.loop (Y:=Unit) (()) fun y5 again6=>
 L.next Pr [eI6,(.agg [.str,.int .i64])] (Instr.next (.pointer it4) false T_) (
  L.draw<|
  L.nonnil p0 fun a8=>
  L.load (.one (.map)) (a8.add 1) fun(x9:Option Nat)=>
  L.semR Pr rI (Builtin.len_ #[z1p] z0h #[.map x9]) fun(x10:Int)=>
  L.semR Pr rI (Instr.lookup z0K (.map m1) (.int .i64 2) false) fun(x11:Int)=>
  L.semR Pr rI (Instr.lookup z0K (.map m1) (.int .i64 1) false) fun(x12:Int)=>
  L.semR Pr rI (Instr.lookup z0K (.map m1) (.int .i64 3) false) fun(x13:Int)=>
  L.semR Pr rI (Instr.lookup z0K (.map m1) (.int .i64 4) false) fun(x14:Int)=>
  L.chkSem Pr (Instr.lookup z0K (.map m1) (.int .i64 4) false) (.int .i64 x14)<|
  L.chkSem Pr (Instr.lookup z0K (.map m1) (.int .i64 3) false) (.int .i64 x13)<|
  L.chkSem Pr (Instr.lookup z0K (.map m1) (.int .i64 1) false) (.int .i64 x12)<|
  L.chkSem Pr (Instr.lookup z0K (.map m1) (.int .i64 2) false) (.int .i64 x11)<|
  L.chkSem Pr (Instr.lookup z0K (.map m1) (.int .i64 4) false) (.int .i64 x14)<|
  L.chkSem Pr (Instr.lookup z0K (.map m1) (.int .i64 3) false) (.int .i64 x13)<|
  L.chkSem Pr (Instr.lookup z0K (.map m1) (.int .i64 1) false) (.int .i64 x12)<|
  L.chkSem Pr (Instr.lookup z0K (.map m1) (.int .i64 4) false) (.int .i64 x14)<|
  L.chkSem Pr (Instr.lookup z0K (.map m1) (.int .i64 3) false) (.int .i64 x13)<|
  K (.tuple #[.int .i64 x10,.int .i64 x11,.int .i64 x12,.int .i64 (IntKind.wrap .i64 (x13+x14))])) fun(x7:pt7)=>
 L.sem Pr (.tup [eI6,(.agg [.str,.int .i64])]) (Instr.entry (.pointer it4)) fun(x15:pt7)=>
 L.new [.string s_,.int .i64 0] z0S fun b16=>
 L.store (⟨b16,0,none⟩) [.string x15.2.1.1,.int .i64 x15.2.1.2.1]<|
 L.load eI6 (Ad6 b16 1) fun(x17:Int)=>
 L.semR Pr rI (Instr.lookup z0K (.map m1) (.int .i64 x17) false) fun(x18:Int)=>
 L.semU Pr (Instr.mapUpdate z0K (.map m1) (.int .i64 x17) (.int .i64 (IntKind.wrap .i64 (x18+1))))<|
 again6 (())
theorem zdc(p0:Option Addr)(h:z8N p0 K w):CV z64 [.v (.pointer p0)] K w:=C_of Tryz.f55 zdn _ h
def z2N(p0:Sl)(K:Value→PT):PT:=
 L.ite ((p0.a).isNone) (
  K (.slice none 0 0))<|
 L.new [] z00 fun b1=>
 L.sem Pr (.one (.one .slice)) (Builtin.append_ #[z07,z07] z07 #[.slice (some ⟨b1,0,none⟩) 0 0,Sv6 p0]) fun(s2:Sl)=>
 K (.slice s2.a s2.len s2.cap)
theorem z4q(p0:Sl)(h:z2N p0 K w):CV z0Z [.v (.slice p0.a p0.len p0.cap)] K w:=C_of Tryz.f56 .auto _ h
def zmL:Ann:=(.seq .auto (.seq .auto (.seq .auto (.seq .auto (.seq (.seq .auto (.seq .auto .auto (some [(28,(.one (.slice)))])) none) .auto none) none) none) none) none)
def zh3(p0 p1 p2:Int)(p3:Sl)(K:Value→PT):PT:=
 L.call Pr z6L [.int .i64 p0,.int .i64 p1,.int .i64 p2] (.tup [eP6,eI6]) fun(x1:Option Addr×Int×Unit)=>
 L.new [.pointer none] z1z fun b2=>
 L.store (⟨b2,0,none⟩) [.pointer x1.1]<|
 L.ite (x1.2.1 != 0) (
  K (.tuple #[.slice none 0 0,.int .i64 x1.2.1]))<|
 L.new [.slice none 0 0] zfM fun b3=>
 L.new [.pointer none] z2r fun b4=>
 L.store (⟨b4,0,none⟩) [.pointer (some (⟨b3,0,none⟩))]<|
 L.call Pr z9x [Sv6 p3] (.one (.one (.func))) fun(x5:FV)=>
 L.range Pr none (.func x5.fn x5.fs x5.cs) [eL6] (fun l6(y7:Sl×Unit) R8=>
  L.begin Pr l6<|
  L.load eP6 (⟨b4,0,none⟩) fun(x11:Option Addr)=>
  L.load eP6 (⟨b2,0,none⟩) fun(x12:Option Addr)=>
  L.call Pr z6u [.pointer x11,.pointer x12,Sv6 y7.1] (.tup []) fun(x13:Unit)=>
  L.endRound Pr l6 none R8) fun d9 j10=>
 L.jump j10 (
  L.load eP6 (⟨b4,0,none⟩) fun(x14:Option Addr)=>
  L.nonnil x14 fun a15=>
  L.load eL6 (a15.add 0) fun(x16:Sl)=>
  L.call Pr z0Z [Sv6 x16] rL fun(x17:Sl)=>
  L.unmark Pr (d9++[])<|
  K (.tuple #[Sv6 x17,.int .i64 0])) (
  L.unmark Pr (d9++[])<|
  K (.tuple #[.slice none 0 0,.int .i64 0])) []
theorem zmE(p0 p1 p2:Int)(p3:Sl)(h:zh3 p0 p1 p2 p3 K w):CV zdz [.v (.int .i64 p0),.v (.int .i64 p1),.v (.int .i64 p2),.v (.slice p3.a p3.len p3.cap)] K w:=C_of Tryz.f57 zmL _ h
def zdU:Ann:=(.seq .auto (.seq .auto (.seq (.seq .auto (.one [(5,(.one (.int .i64)))] .auto) none) .auto none) none) none)
def z9l(p0 p1:Sl)(K:Value→PT):PT:=
 L.ite (((p0.len:Nat):Int) != ((p1.len:Nat):Int)) (
  K (.bool false))<|
 L.loop (Y:=Int×Unit) (0,()) fun y1 again2=>
 L.ite (decide (y1.1<((p0.len:Nat):Int))) (
  L.draw<|
  L.idx p0.a y1.1 p0.len 1 fun a3=>
  L.load eS6 a3 fun(x4:ByteArray)=>
  L.idx p1.a y1.1 p1.len 1 fun a5=>
  L.load eS6 a5 fun(x6:ByteArray)=>
  L.ite (!(x4.toList == x6.toList)) (
   K (.bool false))<|
  again2 (IntKind.wrap .i64 (y1.1+1),()))<|
 K (.bool true)
theorem zdR(p0 p1:Sl)(h:z9l p0 p1 K w):CV z6y [.v (.slice p0.a p0.len p0.cap),.v (.slice p1.a p1.len p1.cap)] K w:=C_of Tryz.f58 zdU _ h
def zia:Ann:=(.seq .auto (.seq .auto (.seq (.seq .auto (.one [(3,(.one (.int .i64))),(11,(.one (.int .i64)))] .auto) none) (.seq (.seq .auto (.one [(37,(.one (.int .i64)))] .auto) none) .auto none) none) none) none)
def zcK(p0:HT [.slice,.slice])(K:Value→PT):PT:=
 L.new [Sv6 p0.1,Sv6 p0.2.1] z02 fun b1=>
 L.load eL6 (Ad6 b1 0) fun(x2:Sl)=>
 L.loop (Y:=Int×Int×Unit) (0,0,()) fun y3 again4=>
 L.ite (decide (y3.2.1<((x2.len:Nat):Int))) (
  L.idx x2.a y3.2.1 x2.len 2 fun a5=>
  L.load (.agg [.str,.int .i64]) a5 fun(x6:ByteArray×Int×Unit)=>
  L.new [.string s_,.int .i64 0] z0m fun b7=>
  L.store (⟨b7,0,none⟩) [.string x6.1,.int .i64 x6.2.1]<|
  L.load eS6 (Ad6 b7 0) fun(x8:ByteArray)=>
  L.call Pr z7s [.string x8] rB fun(x9:Bool)=>
  L.ite (!x9) (
   K (.bool false))<|
  L.load eI6 (Ad6 b7 1) fun(x10:Int)=>
  L.ite (decide (x10<1)) (
   K (.bool false))<|
  L.load eI6 (Ad6 b7 1) fun(x11:Int)=>
  L.ite (decide (x11>100)) (
   K (.bool false))<|
  L.load eI6 (Ad6 b7 1) fun(x12:Int)=>
  again4 (IntKind.wrap .i64 (y3.1+x12),IntKind.wrap .i64 (y3.2.1+1),()))<|
 L.load eL6 (Ad6 b1 1) fun(x13:Sl)=>
 L.loop (Y:=Int×Unit) (0,()) fun y14 again15=>
 L.ite (decide (y14.1<((x13.len:Nat):Int))) (
  L.idx x13.a y14.1 x13.len 2 fun a16=>
  L.load (.agg [.str,.str]) a16 fun(x17:ByteArray×ByteArray×Unit)=>
  L.new [.string s_,.string s_] z2J fun b18=>
  L.store (⟨b18,0,none⟩) [.string x17.1,.string x17.2.1]<|
  L.load eS6 (Ad6 b18 0) fun(x19:ByteArray)=>
  L.call Pr z3p [.string x19] rB fun(x20:Bool)=>
  L.ite (!x20) (
   K (.bool false))<|
  L.load eS6 (Ad6 b18 1) fun(x21:ByteArray)=>
  L.call Pr z7s [.string x21] rB fun(x22:Bool)=>
  L.ite (!x22) (
   K (.bool false))<|
  again15 (IntKind.wrap .i64 (y14.1+1),()))<|
 L.ite (y3.1 == 100) (
  L.load (.agg [.slice,.slice]) (⟨b1,0,none⟩) fun(x23:Sl×Sl×Unit)=>
  L.call Pr ze0 [.agg #[Sv6 x23.1,Sv6 x23.2.1]] (.one (.one (.func))) fun(x24:FV)=>
  L.call Pr z6B [.func x24.fn x24.fs x24.cs] rB fun(x25:Bool)=>
  L.ite x25 (
   L.load (.agg [.slice,.slice]) (⟨b1,0,none⟩) fun(x26:Sl×Sl×Unit)=>
   L.call Pr zdZ [.agg #[Sv6 x26.1,Sv6 x26.2.1]] (.one (.one (.func))) fun(x27:FV)=>
   L.call Pr z6B [.func x27.fn x27.fs x27.cs] rB fun(x28:Bool)=>
   K (.bool x28))<|
  K (.bool false))<|
 K (.bool false)
theorem zhS(p0:HT [.slice,.slice])(h:zcK p0 K w):CV z9r [.ag [.slice p0.1.a p0.1.len p0.1.cap,.slice p0.2.1.a p0.2.1.len p0.2.1.cap]] K w:=C_of Tryz.f59 zia _ h
def zij:Ann:=(.seq .auto (.seq (.seq .auto (.seq .auto (.cond .auto (.seq .auto (.cond .auto (.seq .auto (.cond .auto (.seq .auto (.cond .auto (.seq .auto (.cond .auto (.seq .auto (.cond .auto (.seq .auto .auto (some [(26,(.one (.bool)))]))) none)) (some [(17,(.one (.bool)))]))) none)) none)) none)) none) none) .auto none) none)
def zcX(p0:Int)(K:Value→PT):PT:=
 L.new [.bool false,.bool false,.bool false,.bool false,.bool false,.bool false] z3r fun b1=>
 L.ite (p0 == 1) (
  L.store (⟨b1,0,none⟩) [.bool true,.bool false,.bool false,.bool false,.bool true,.bool false]<|
  L.load (.agg lf3) (⟨b1,0,none⟩) fun(x2:pt8)=>
  K (.tuple #[(qa2 x2),.bool true]))<|
 L.ite (p0 == 2) (
  L.store (⟨b1,0,none⟩) [.bool true,.bool false,.bool false,.bool false,.bool false,.bool true]<|
  L.load (.agg lf3) (⟨b1,0,none⟩) fun(x3:pt8)=>
  K (.tuple #[(qa2 x3),.bool true]))<|
 L.ite (p0 == 3) (
  L.store (⟨b1,0,none⟩) [.bool true,.bool true,.bool false,.bool true,.bool false,.bool false]<|
  L.load (.agg lf3) (⟨b1,0,none⟩) fun(x4:pt8)=>
  K (.tuple #[(qa2 x4),.bool true]))<|
 L.ite (p0 == 4) (
  L.store (⟨b1,0,none⟩) [.bool true,.bool true,.bool true,.bool true,.bool false,.bool false]<|
  L.load (.agg lf3) (⟨b1,0,none⟩) fun(x5:pt8)=>
  K (.tuple #[(qa2 x5),.bool true]))<|
 L.join (Y:=Bool×Unit) (fun k6=>
  L.ite (p0 == 5) (
   k6 (p0 == 5,()))<|
  L.ite (p0 == 6) (
   k6 (p0 == 6,()))<|
  L.ite (p0 == 7) (
   k6 (p0 == 7,()))<|
  k6 (p0 == 8,())) fun z7=>
 L.ite z7.1 (
  L.store (⟨b1,0,none⟩) [.bool true,.bool false,.bool false,.bool false,.bool false,.bool false]<|
  L.load (.agg lf3) (⟨b1,0,none⟩) fun(x8:pt8)=>
  K (.tuple #[(qa2 x8),.bool true]))<|
 L.ite (p0 == 9) (
  L.store (⟨b1,0,none⟩) [.bool false,.bool false,.bool false,.bool false,.bool false,.bool false]<|
  L.load (.agg lf3) (⟨b1,0,none⟩) fun(x9:pt8)=>
  K (.tuple #[(qa2 x9),.bool true]))<|
 L.join (Y:=Bool×Unit) (fun k10=>
  L.ite (p0 == 10) (
   k10 (p0 == 10,()))<|
  L.ite (p0 == 11) (
   k10 (p0 == 11,()))<|
  L.ite (p0 == 12) (
   k10 (p0 == 12,()))<|
  k10 (p0 == 13,())) fun z11=>
 L.ite z11.1 (
  L.store (⟨b1,0,none⟩) [.bool false,.bool true,.bool false,.bool false,.bool false,.bool false]<|
  L.load (.agg lf3) (⟨b1,0,none⟩) fun(x12:pt8)=>
  K (.tuple #[(qa2 x12),.bool true]))<|
 L.store (⟨b1,0,none⟩) [.bool false,.bool false,.bool false,.bool false,.bool false,.bool false]<|
 L.load (.agg lf3) (⟨b1,0,none⟩) fun(x13:pt8)=>
 K (.tuple #[(qa2 x13),.bool false])
theorem zi5(p0:Int)(h:zcX p0 K w):CV z7v [.v (.int .i64 p0)] K w:=C_of Tryz.f60 zij _ h
def za7(p0:Bool)(p1:Int)(K:Value→PT):PT:=
 L.ite p0 (
  K (.bool true))<|
 K (.bool (p1 == 0))
theorem zeI(p0:Bool)(p1:Int)(h:za7 p0 p1 K w):CV z5x [.v (.bool p0),.v (.int .i64 p1)] K w:=C_of Tryz.f61 .auto _ h
def z8a(p0:Bool)(p1:ByteArray)(K:Value→PT):PT:=
 L.ite p0 (
  K (.bool true))<|
 K (.bool (p1.toList == s_.toList))
theorem zce(p0:Bool)(p1:ByteArray)(h:z8a p0 p1 K w):CV z3P [.v (.bool p0),.v (.string p1)] K w:=C_of Tryz.f62 .auto _ h
def z6i(p0:Bool)(p1:ht0)(K:Value→PT):PT:=
 L.new [.string p1.1,.int .i64 p1.2.1,.int .i64 p1.2.2.1,.int .i64 p1.2.2.2.1,.int .i64 p1.2.2.2.2.1,.int .i64 p1.2.2.2.2.2.1] z0t fun b1=>
 L.new [.string s_,.int .i64 0,.int .i64 0,.int .i64 0,.int .i64 0,.int .i64 0] z0t fun b2=>
 L.ite p0 (
  K (.bool true))<|
 L.load (.agg lf0) (⟨b1,0,none⟩) fun(x3:pt0)=>
 L.load (.agg lf0) (⟨b2,0,none⟩) fun(x4:pt0)=>
 L.chkSem Pr (do eqGuard .eql z0t (.tmp 0) (.tmp 0) ((qa0 x3)) ((qa0 x4));binOp .eql z0t ((qa0 x3)) ((qa0 x4))) (.bool ((x3.1 == x4.1)&&((x3.2.1 == x4.2.1)&&((x3.2.2.1 == x4.2.2.1)&&((x3.2.2.2.1 == x4.2.2.2.1)&&((x3.2.2.2.2.1 == x4.2.2.2.2.1)&&((x3.2.2.2.2.2.1 == x4.2.2.2.2.2.1)&&true)))))))<|
 K (.bool ((x3.1 == x4.1)&&((x3.2.1 == x4.2.1)&&((x3.2.2.1 == x4.2.2.1)&&((x3.2.2.2.1 == x4.2.2.2.1)&&((x3.2.2.2.2.1 == x4.2.2.2.2.1)&&((x3.2.2.2.2.2.1 == x4.2.2.2.2.2.1)&&true)))))))
theorem z9O(p0:Bool)(p1:ht0)(h:z6i p0 p1 K w):CV z3Q [.v (.bool p0),.ag (qc0 p1)] K w:=C_of Tryz.f63 .auto _ h
def zeg(p0:ht2)(K:Value→PT):PT:=
 L.new [.string p0.1,.string p0.2.1,Sv6 p0.2.2.1,.int .i64 p0.2.2.2.1] z0s fun b1=>
 L.load eS6 (Ad6 b1 0) fun(x2:ByteArray)=>
 L.ite (x2.toList == s_.toList) (
  L.load eS6 (Ad6 b1 1) fun(x3:ByteArray)=>
  L.ite (x3.toList == s_.toList) (
   L.load eI6 (Ad6 b1 3) fun(x4:Int)=>
   L.ite (x4 == 0) (
    L.load eL6 (Ad6 b1 2) fun(x5:Sl)=>
    K (.bool (((x5.len:Nat):Int) == 0)))<|
   K (.bool false))<|
  K (.bool false))<|
 K (.bool false)
theorem zjP(p0:ht2)(h:zeg p0 K w):CV zau [.ag (qc2 p0)] K w:=C_of Tryz.f64 .auto _ h
def zgy:Ann:=(.seq .auto (.seq (.seq .auto (.seq .auto .auto (some [(5,(.one (.bool)))])) none) .auto none) none)
def zbK(p0:ht1)(K:Value→PT):PT:=
 L.new [.int .i64 p0.1,.string p0.2.1,.string p0.2.2.1,.int .i64 p0.2.2.2.1,.int .i64 p0.2.2.2.2.1,.string p0.2.2.2.2.2.1,.int .i64 p0.2.2.2.2.2.2.1,.int .i64 p0.2.2.2.2.2.2.2.1,.int .i64 p0.2.2.2.2.2.2.2.2.1,.int .i64 p0.2.2.2.2.2.2.2.2.2.1,.int .i64 p0.2.2.2.2.2.2.2.2.2.2.1,.string p0.2.2.2.2.2.2.2.2.2.2.2.1,.string p0.2.2.2.2.2.2.2.2.2.2.2.2.1,Sv6 p0.2.2.2.2.2.2.2.2.2.2.2.2.2.1,.int .i64 p0.2.2.2.2.2.2.2.2.2.2.2.2.2.2.1] z0c fun b1=>
 L.load eI6 (Ad6 b1 0) fun(x2:Int)=>
 L.join (Y:=Bool×Unit) (fun k3=>
  L.ite (x2 == 1) (
   k3 (x2 == 1,()))<|
  k3 (x2 == 2,())) fun z4=>
 L.ite z4.1 (
  L.load eI6 (Ad6 b1 3) fun(x5:Int)=>
  L.call Pr z0R [.int .i64 x5,.int .i64 0,.int .i64 2147483647] rB fun(x6:Bool)=>
  K (.bool x6))<|
 L.ite (x2 == 3) (
  L.load eI6 (Ad6 b1 3) fun(x7:Int)=>
  L.call Pr z0R [.int .i64 x7,.int .i64 1,.int .i64 2] rB fun(x8:Bool)=>
  K (.bool x8))<|
 L.load eI6 (Ad6 b1 3) fun(x9:Int)=>
 L.call Pr z0R [.int .i64 x9,.int .i64 1,.int .i64 2147483647] rB fun(x10:Bool)=>
 K (.bool x10)
theorem zgt(p0:ht1)(h:zbK p0 K w):CV z8V [.ag (qc1 p0)] K w:=C_of Tryz.f65 zgy _ h
def zcY(p0:ht1)(K:Value→PT):PT:=
 L.new [.int .i64 p0.1,.string p0.2.1,.string p0.2.2.1,.int .i64 p0.2.2.2.1,.int .i64 p0.2.2.2.2.1,.string p0.2.2.2.2.2.1,.int .i64 p0.2.2.2.2.2.2.1,.int .i64 p0.2.2.2.2.2.2.2.1,.int .i64 p0.2.2.2.2.2.2.2.2.1,.int .i64 p0.2.2.2.2.2.2.2.2.2.1,.int .i64 p0.2.2.2.2.2.2.2.2.2.2.1,.string p0.2.2.2.2.2.2.2.2.2.2.2.1,.string p0.2.2.2.2.2.2.2.2.2.2.2.2.1,Sv6 p0.2.2.2.2.2.2.2.2.2.2.2.2.2.1,.int .i64 p0.2.2.2.2.2.2.2.2.2.2.2.2.2.2.1] z0c fun b1=>
 L.load eI6 (Ad6 b1 0) fun(x2:Int)=>
 L.ite (x2 == 12) (
  L.load eS6 (Ad6 b1 1) fun(x3:ByteArray)=>
  L.call Pr z3O [.string x3] (.tup [eS6,eI6,eB6]) fun(x4:ByteArray×Int×Bool×Unit)=>
  K (.bool x4.2.2.1))<|
 L.load eI6 (Ad6 b1 0) fun(x5:Int)=>
 L.ite (x5 == 13) (
  L.load eS6 (Ad6 b1 1) fun(x6:ByteArray)=>
  L.call Pr z3O [.string x6] (.tup [eS6,eI6,eB6]) fun(x7:ByteArray×Int×Bool×Unit)=>
  K (.bool x7.2.2.1))<|
 L.load eS6 (Ad6 b1 1) fun(x8:ByteArray)=>
 L.call Pr z4D [.string x8] rB fun(x9:Bool)=>
 K (.bool x9)
theorem zi6(p0:ht1)(h:zcY p0 K w):CV z7w [.ag (qc1 p0)] K w:=C_of Tryz.f66 .auto _ h
def zfW(p0:ByteArray)(K:Value→PT):PT:=
 L.call Pr z7u [.string p0,.int .i64 8] rB fun(x1:Bool)=>
 K (.bool x1)
theorem zkB(p0:ByteArray)(h:zfW p0 K w):CV z3p [.v (.string p0)] K w:=C_of Tryz.f67 .auto _ h
def zbI(p0 p1 p2:Int)(K:Value→PT):PT:=
 L.ite (decide (p0≥p1)) (
  K (.bool (decide (p0≤p2))))<|
 K (.bool false)
theorem zgr(p0 p1 p2:Int)(h:zbI p0 p1 p2 K w):CV z0R [.v (.int .i64 p0),.v (.int .i64 p1),.v (.int .i64 p2)] K w:=C_of Tryz.f68 .auto _ h
def zif:Ann:=(.seq .auto (.seq (.seq .auto (.cond .auto (.seq .auto .auto (some [(8,(.one (.bool)))]))) none) .auto none) none)
def zcP(p0:ht0)(K:Value→PT):PT:=
 L.new [.string p0.1,.int .i64 p0.2.1,.int .i64 p0.2.2.1,.int .i64 p0.2.2.2.1,.int .i64 p0.2.2.2.2.1,.int .i64 p0.2.2.2.2.2.1] z0t fun b1=>
 L.load eS6 (Ad6 b1 0) fun(x2:ByteArray)=>
 L.call Pr z4D [.string x2] rB fun(x3:Bool)=>
 L.ite (!x3) (
  K (.int .i64 1))<|
 L.join (Y:=Bool×Unit) (fun k4=>
  L.load eI6 (Ad6 b1 1) fun(x6:Int)=>
  L.call Pr z1l [.agg #[.int .i64 0,.int .i64 255],.int .i64 x6] rB fun(x7:Bool)=>
  L.ite (!x7) (
   k4 (!x7,()))<|
  L.load eI6 (Ad6 b1 2) fun(x8:Int)=>
  L.call Pr z1l [.agg #[.int .i64 1,.int .i64 8],.int .i64 x8] rB fun(x9:Bool)=>
  L.ite (!x9) (
   k4 (!x9,()))<|
  L.load eI6 (Ad6 b1 4) fun(x10:Int)=>
  L.call Pr z1l [.agg #[.int .i64 1,.int .i64 10],.int .i64 x10] rB fun(x11:Bool)=>
  L.ite (!x11) (
   k4 (!x11,()))<|
  L.load eI6 (Ad6 b1 4) fun(x12:Int)=>
  L.load eI6 (Ad6 b1 3) fun(x13:Int)=>
  L.call Pr z1l [.agg #[.int .i64 0,.int .i64 x12],.int .i64 x13] rB fun(x14:Bool)=>
  L.ite (!x14) (
   k4 (!x14,()))<|
  L.load eI6 (Ad6 b1 5) fun(x15:Int)=>
  L.call Pr z1l [.agg #[.int .i64 0,.int .i64 30],.int .i64 x15] rB fun(x16:Bool)=>
  k4 (!x16,())) fun z5=>
 L.ite z5.1 (
  K (.int .i64 2))<|
 K (.int .i64 0)
theorem zhX(p0:ht0)(h:zcP p0 K w):CV z0r [.ag (qc0 p0)] K w:=C_of Tryz.f69 zif _ h
def zjS:Ann:=(.seq .auto (.seq (.seq .auto .auto (some [(6,(.one (.bool)))])) (.seq (.seq .auto (.one [(31,(.one (.int .i64)))] .auto) none) .auto none) none) none)
def zeb(p0:ht2)(K:Value→PT):PT:=
 L.new [.string p0.1,.string p0.2.1,Sv6 p0.2.2.1,.int .i64 p0.2.2.2.1] z0s fun b1=>
 L.join (Y:=Bool×Unit) (fun k2=>
  L.load eS6 (Ad6 b1 0) fun(x4:ByteArray)=>
  L.call Pr z4D [.string x4] rB fun(x5:Bool)=>
  L.ite (!x5) (
   k2 (!x5,()))<|
  L.load eS6 (Ad6 b1 1) fun(x6:ByteArray)=>
  L.call Pr z4D [.string x6] rB fun(x7:Bool)=>
  k2 (!x7,())) fun z3=>
 L.ite z3.1 (
  K (.int .i64 1))<|
 L.load eI6 (Ad6 b1 3) fun(x8:Int)=>
 L.call Pr z1l [.agg #[.int .i64 0,.int .i64 60],.int .i64 x8] rB fun(x9:Bool)=>
 L.ite (!x9) (
  K (.int .i64 2))<|
 L.load eL6 (Ad6 b1 2) fun(x10:Sl)=>
 L.call Pr z1l [.agg #[.int .i64 1,.int .i64 6],.int .i64 ((x10.len:Nat):Int)] rB fun(x11:Bool)=>
 L.ite (!x11) (
  K (.int .i64 3))<|
 L.load eL6 (Ad6 b1 2) fun(x12:Sl)=>
 L.loop (Y:=Int×Unit) (0,()) fun y13 again14=>
 L.ite (decide (y13.1<((x12.len:Nat):Int))) (
  L.idx x12.a y13.1 x12.len 3 fun a15=>
  L.load (.agg [.str,.str,.int .i64]) a15 fun(x16:pt9)=>
  L.new [.string s_,.string s_,.int .i64 0] z08 fun b17=>
  L.store (⟨b17,0,none⟩) [.string x16.1,.string x16.2.1,.int .i64 x16.2.2.1]<|
  L.load (.agg [.str,.str,.int .i64]) (⟨b17,0,none⟩) fun(x18:pt9)=>
  L.call Pr z9u [.agg #[.string x18.1,.string x18.2.1,.int .i64 x18.2.2.1]] rI fun(x19:Int)=>
  L.ite (x19 != 0) (
   K (.int .i64 x19))<|
  again14 (IntKind.wrap .i64 (y13.1+1),()))<|
 L.load eL6 (Ad6 b1 2) fun(x20:Sl)=>
 L.call Pr zdy [Sv6 x20] rI fun(x21:Int)=>
 K (.int .i64 x21)
theorem zjK(p0:ht2)(h:zeb p0 K w):CV z0z [.ag (qc2 p0)] K w:=C_of Tryz.f70 zjS _ h
def zg1(p0:Int)(K:Value→PT):PT:=
 L.ite (p0 == 0) (
  K (.string s_ok))<|
 L.ite (p0 == 1) (
  K (.string zq3))<|
 L.ite (p0 == 2) (
  K (.string zrT))<|
 L.ite (p0 == 3) (
  K (.string zq6))<|
 L.ite (p0 == 4) (
  K (.string zrQ))<|
 L.ite (p0 == 5) (
  K (.string s_twice))<|
 L.ite (p0 == 6) (
  K (.string zq2))<|
 K (.string zho)
theorem zkG(p0:Int)(h:zg1 p0 K w):CV zfq [.v (.int .i64 p0)] K w:=C_of Tryz.f73 .auto _ h
def zh8(p0:Int)(K:Value→PT):PT:=
 L.ite (p0 == 7) (
  K (.string zne))<|
 L.ite (p0 == 8) (
  K (.string zq9))<|
 L.ite (p0 == 9) (
  K (.string znd))<|
 L.ite (p0 == 10) (
  K (.string zrS))<|
 L.ite (p0 == 11) (
  K (.string zq4))<|
 L.ite (p0 == 12) (
  K (.string zq7))<|
 K (.string zho)
theorem zmJ(p0:Int)(h:zh8 p0 K w):CV zgG [.v (.int .i64 p0)] K w:=C_of Tryz.f74 .auto _ h
def z9P:Ann:=(.seq .auto (.seq .auto (.seq .auto .auto (some [(8,(.one (.int .i64)))])) none) none)
def z6h(p0:Option Addr)(p1:ht0)(p2:Int)(K:Value→PT):PT:=
 L.new [.string p1.1,.int .i64 p1.2.1,.int .i64 p1.2.2.1,.int .i64 p1.2.2.2.1,.int .i64 p1.2.2.2.2.1,.int .i64 p1.2.2.2.2.2.1] z0t fun b1=>
 L.load (.agg lf0) (⟨b1,0,none⟩) fun(x2:pt0)=>
 L.call Pr z0r [(qa0 x2)] rI fun(x3:Int)=>
 L.join (Y:=Int×Unit) (fun k4=>
  L.ite (x3 == 0) (
   L.draw<|
   L.nonnil p0 fun a6=>
   L.load eP6 (a6.add 0) fun(x7:Option Addr)=>
   L.load eS6 (Ad6 b1 0) fun(x8:ByteArray)=>
   L.call Pr z2W [.pointer x7,.string x8,.int .i64 p2,.bool true] rI fun(x9:Int)=>
   k4 (x9,()))<|
  k4 (x3,())) fun z5=>
 L.ite (z5.1 != 0) (
  K (.tuple #[.int .i64 0,.int .i64 z5.1]))<|
 L.nonnil p0 fun a10=>
 L.load eI6 (a10.add 2) fun(x11:Int)=>
 L.nonnil p0 fun a12=>
 L.store (a12.add 2) [.int .i64 (IntKind.wrap .i64 (x11+1))]<|
 L.draw<|
 L.nonnil p0 fun a13=>
 L.load eP6 (a13.add 0) fun(x14:Option Addr)=>
 L.load eS6 (Ad6 b1 0) fun(x15:ByteArray)=>
 L.load (.agg lf0) (⟨b1,0,none⟩) fun(x16:pt0)=>
 L.nonnil p0 fun a17=>
 L.load eI6 (a17.add 2) fun(x18:Int)=>
 L.call Pr z2V [.pointer x14,.string x15,(qa0 x16),.int .i64 x18] (.tup []) fun(x19:Unit)=>
 L.nonnil p0 fun a20=>
 L.load eI6 (a20.add 2) fun(x21:Int)=>
 K (.tuple #[.int .i64 x21,.int .i64 0])
theorem z9N(p0:Option Addr)(p1:ht0)(p2:Int)(h:z6h p0 p1 p2 K w):CV z3N [.v (.pointer p0),.ag (qc0 p1),.v (.int .i64 p2)] K w:=C_of Tryz.f75 z9P _ h
def ze8(p0 p1:ByteArray)(p2 p3:Int)(K:Value→PT):PT:=
 L.ite (p3 != 0) (
  L.call Pr z1k [.int .i64 p3] rL fun(x1:Sl)=>
  K (.slice x1.a x1.len x1.cap))<|
 L.new [.string p1] z00 fun b2=>
 L.call Pr z0i [.string p0,.slice (some ⟨b2,0,none⟩) 1 1] rS fun(x3:ByteArray)=>
 L.new [.int .i64 p2] z0h fun b4=>
 L.call Pr z0q [.string x3,.slice (some ⟨b4,0,none⟩) 1 1] rS fun(x5:ByteArray)=>
 L.new [.string x5] z00 fun b6=>
 K (.slice (some ⟨b6,0,none⟩) 1 1)
theorem zjH(p0 p1:ByteArray)(p2 p3:Int)(h:ze8 p0 p1 p2 p3 K w):CV z8C [.v (.string p0),.v (.string p1),.v (.int .i64 p2),.v (.int .i64 p3)] K w:=C_of Tryz.f76 .auto _ h
def zal:Ann:=(.seq .auto (.seq .auto (.seq .auto .auto (some [(8,(.one (.int .i64)))])) none) none)
def z6r(p0:Option Addr)(p1:ht2)(p2:Int)(K:Value→PT):PT:=
 L.new [.string p1.1,.string p1.2.1,Sv6 p1.2.2.1,.int .i64 p1.2.2.2.1] z0s fun b1=>
 L.load (.agg [.str,.str,.slice,.int .i64]) (⟨b1,0,none⟩) fun(x2:pt3)=>
 L.call Pr z0z [.agg #[.string x2.1,.string x2.2.1,Sv6 x2.2.2.1,.int .i64 x2.2.2.2.1]] rI fun(x3:Int)=>
 L.join (Y:=Int×Unit) (fun k4=>
  L.ite (x3 == 0) (
   L.draw<|
   L.nonnil p0 fun a6=>
   L.load eP6 (a6.add 1) fun(x7:Option Addr)=>
   L.load eS6 (Ad6 b1 0) fun(x8:ByteArray)=>
   L.call Pr z3f [.pointer x7,.string x8,.int .i64 p2,.bool true] rI fun(x9:Int)=>
   k4 (x9,()))<|
  k4 (x3,())) fun z5=>
 L.ite (z5.1 != 0) (
  K (.tuple #[.int .i64 0,.int .i64 z5.1]))<|
 L.nonnil p0 fun a10=>
 L.load eI6 (a10.add 2) fun(x11:Int)=>
 L.nonnil p0 fun a12=>
 L.store (a12.add 2) [.int .i64 (IntKind.wrap .i64 (x11+1))]<|
 L.draw<|
 L.nonnil p0 fun a13=>
 L.load eP6 (a13.add 1) fun(x14:Option Addr)=>
 L.load eS6 (Ad6 b1 0) fun(x15:ByteArray)=>
 L.load (.agg [.str,.str,.slice,.int .i64]) (⟨b1,0,none⟩) fun(x16:pt3)=>
 L.nonnil p0 fun a17=>
 L.load eI6 (a17.add 2) fun(x18:Int)=>
 L.call Pr z9v [.agg #[.string x16.1,.string x16.2.1,Sv6 x16.2.2.1,.int .i64 x16.2.2.2.1]] (.one (.agg [.str,.str,.slice,.int .i64])) fun(x19:pt3)=>
 L.chk (a17.add 2) [.int .i64 x18]<|
 L.chk (Ad6 b1 0) [.string x15]<|
 L.chk (a13.add 1) [.pointer x14]<|
 L.call Pr z3e [.pointer x14,.string x15,.agg #[.string x19.1,.string x19.2.1,Sv6 x19.2.2.1,.int .i64 x19.2.2.2.1],.int .i64 x18] (.tup []) fun(x20:Unit)=>
 L.nonnil p0 fun a21=>
 L.load eI6 (a21.add 2) fun(x22:Int)=>
 K (.tuple #[.int .i64 x22,.int .i64 0])
theorem zaj(p0:Option Addr)(p1:ht2)(p2:Int)(h:z6r p0 p1 p2 K w):CV z4h [.v (.pointer p0),.ag (qc2 p1),.v (.int .i64 p2)] K w:=C_of Tryz.f77 zal _ h
def z9S(p0:Int)(K:Value→PT):PT:=
 L.call Pr z3x [.int .i64 p0] rS fun(x1:ByteArray)=>
 L.new [.string x1] z00 fun b2=>
 L.call Pr z0i [.string s_refused,.slice (some ⟨b2,0,none⟩) 1 1] rS fun(x3:ByteArray)=>
 L.new [.string x3] z00 fun b4=>
 K (.slice (some ⟨b4,0,none⟩) 1 1)
theorem zes(p0:Int)(h:z9S p0 K w):CV z1k [.v (.int .i64 p0)] K w:=C_of Tryz.f79 .auto _ h
def z6P(p0:Option Addr)(p1:ht1)(K:Value→PT):PT:=
 L.new [.int .i64 p1.1,.string p1.2.1,.string p1.2.2.1,.int .i64 p1.2.2.2.1,.int .i64 p1.2.2.2.2.1,.string p1.2.2.2.2.2.1,.int .i64 p1.2.2.2.2.2.2.1,.int .i64 p1.2.2.2.2.2.2.2.1,.int .i64 p1.2.2.2.2.2.2.2.2.1,.int .i64 p1.2.2.2.2.2.2.2.2.2.1,.int .i64 p1.2.2.2.2.2.2.2.2.2.2.1,.string p1.2.2.2.2.2.2.2.2.2.2.2.1,.string p1.2.2.2.2.2.2.2.2.2.2.2.2.1,Sv6 p1.2.2.2.2.2.2.2.2.2.2.2.2.2.1,.int .i64 p1.2.2.2.2.2.2.2.2.2.2.2.2.2.2.1] z0c fun b1=>
 L.load eS6 (Ad6 b1 1) fun(x2:ByteArray)=>
 L.call Pr z6K [.pointer p0,.string x2] (.tup [(.agg [.slice,.slice]),eB6]) fun(x3:(Sl×Sl×Unit)×Bool×Unit)=>
 L.new [.slice none 0 0,.slice none 0 0] z02 fun b4=>
 L.store (⟨b4,0,none⟩) [Sv6 x3.1.1,Sv6 x3.1.2.1]<|
 L.ite (!x3.2.1) (
  K (.string s_))<|
 L.load eS6 (Ad6 b1 2) fun(x5:ByteArray)=>
 L.ite (x5.toList == s_.toList) (
  L.load (.agg [.slice,.slice]) (⟨b4,0,none⟩) fun(x6:Sl×Sl×Unit)=>
  L.load eI6 (Ad6 b1 4) fun(x7:Int)=>
  L.call Pr zaq [.agg #[Sv6 x6.1,Sv6 x6.2.1],.int .i64 x7] rS fun(x8:ByteArray)=>
  K (.string x8))<|
 L.load (.agg [.slice,.slice]) (⟨b4,0,none⟩) fun(x9:Sl×Sl×Unit)=>
 L.load eS6 (Ad6 b1 2) fun(x10:ByteArray)=>
 L.call Pr z9s [.agg #[Sv6 x9.1,Sv6 x9.2.1],.string x10] (.tup [eS6,eB6]) fun(x11:ByteArray×Bool×Unit)=>
 K (.string x11.1)
theorem zaT(p0:Option Addr)(p1:ht1)(h:z6P p0 p1 K w):CV z4B [.v (.pointer p0),.ag (qc1 p1)] K w:=C_of Tryz.f81 .auto _ h
def zdo:Ann:=(.seq .auto (.seq .auto (.seq .auto (.seq .auto (.seq .auto .auto (some [])) none) none) none) none)
def z8O(p0:Option Addr)(p1:Int)(p2:ByteArray)(p3:Int)(K:Value→PT):PT:=
 L.call Pr z78 [.pointer p0,.int .i64 p1] rB fun(x1:Bool)=>
 L.ite x1 (
  L.call Pr z6w [.string s_twice] (.one (.agg [.int .i64,.int .i64,.int .i64,.str])) fun(x2:pt10)=>
  L.new [.int .i64 0,.int .i64 0,.int .i64 0,.string s_] z0a fun b3=>
  L.store (⟨b3,0,none⟩) [.int .i64 x2.1,.int .i64 x2.2.1,.int .i64 x2.2.2.1,.string x2.2.2.2.1]<|
  L.store (Ad6 b3 0) [.int .i64 p1]<|
  L.load (.agg [.int .i64,.int .i64,.int .i64,.str]) (⟨b3,0,none⟩) fun(x4:pt10)=>
  L.new [.int .i64 x4.1,.int .i64 x4.2.1,.int .i64 x4.2.2.1,.string x4.2.2.2.1] z0a fun b5=>
  K (.slice (some ⟨b5,0,none⟩) 1 1))<|
 L.ite (p2.toList == s_.toList) (
  L.call Pr z6w [.string s_no_route] (.one (.agg [.int .i64,.int .i64,.int .i64,.str])) fun(x6:pt10)=>
  L.call Pr z1w [.pointer p0,.int .i64 p1,.string s_,.agg #[.int .i64 x6.1,.int .i64 x6.2.1,.int .i64 x6.2.2.1,.string x6.2.2.2.1]] (.one (.agg [.int .i64,.int .i64,.int .i64,.str])) fun(x7:pt10)=>
  L.new [.int .i64 x7.1,.int .i64 x7.2.1,.int .i64 x7.2.2.1,.string x7.2.2.2.1] z0a fun b8=>
  K (.slice (some ⟨b8,0,none⟩) 1 1))<|
 L.nonnil p0 fun a9=>
 L.call Pr z2E [.pointer (some (a9.add 2)),.string p2] rP fun(x10:Option Addr)=>
 L.join (Y:=Unit) (fun k11=>
  L.call Pr z4y [.pointer x10] rI fun(x13:Int)=>
  L.ite (x13 == 0) (
   L.call Pr z5v [.pointer p0,.int .i64 p1,.string p2] (.tup [(.agg [.int .i64,.int .i64,.int .i64,.str]),eB6]) fun(x14:pt11)=>
   L.new [.int .i64 0,.int .i64 0,.int .i64 0,.string s_] z0a fun b15=>
   L.store (⟨b15,0,none⟩) [.int .i64 x14.1.1,.int .i64 x14.1.2.1,.int .i64 x14.1.2.2.1,.string x14.1.2.2.2.1]<|
   L.ite x14.2.1 (
    L.load (.agg [.int .i64,.int .i64,.int .i64,.str]) (⟨b15,0,none⟩) fun(x16:pt10)=>
    L.new [.int .i64 x16.1,.int .i64 x16.2.1,.int .i64 x16.2.2.1,.string x16.2.2.2.1] z0a fun b17=>
    K (.slice (some ⟨b17,0,none⟩) 1 1))<|
   k11 (()))<|
  k11 (())) fun z12=>
 L.nonnil p0 fun a18=>
 L.load eI6 (a18.add 5) fun(x19:Int)=>
 L.call Pr z5u [.pointer x10,.int .i64 p1,.int .i64 (IntKind.wrap .i64 (p3+x19))] rI fun(x20:Int)=>
 L.ite (x20 != 0) (
  L.call Pr z6w [.string s_overflow] (.one (.agg [.int .i64,.int .i64,.int .i64,.str])) fun(x21:pt10)=>
  L.call Pr z1w [.pointer p0,.int .i64 p1,.string p2,.agg #[.int .i64 x21.1,.int .i64 x21.2.1,.int .i64 x21.2.2.1,.string x21.2.2.2.1]] (.one (.agg [.int .i64,.int .i64,.int .i64,.str])) fun(x22:pt10)=>
  L.new [.int .i64 x22.1,.int .i64 x22.2.1,.int .i64 x22.2.2.1,.string x22.2.2.2.1] z0a fun b23=>
  K (.slice (some ⟨b23,0,none⟩) 1 1))<|
 L.call Pr z1w [.pointer p0,.int .i64 p1,.string p2,.agg #[.int .i64 0,.int .i64 2,.int .i64 0,.string s_]] (.one (.agg [.int .i64,.int .i64,.int .i64,.str])) fun(x24:pt10)=>
 L.new [.int .i64 x24.1,.int .i64 x24.2.1,.int .i64 x24.2.2.1,.string x24.2.2.2.1] z0a fun b25=>
 K (.slice (some ⟨b25,0,none⟩) 1 1)
theorem zdd(p0:Option Addr)(p1:Int)(p2:ByteArray)(p3:Int)(h:z8O p0 p1 p2 p3 K w):CV z65 [.v (.pointer p0),.v (.int .i64 p1),.v (.string p2),.v (.int .i64 p3)] K w:=C_of Tryz.f82 zdo _ h
def zic:Ann:=(.seq .auto (.seq (.seq .auto (.seq .auto .auto (some [(8,(.one (.str)))])) none) .auto none) none)
def zcM(p0 p1:Sl)(K:Value→PT):PT:=
 L.new [Sv6 p1] z07 fun b1=>
 L.call Pr zbw [Sv6 p0] (.one (.one (.func))) fun(x2:FV)=>
 L.range Pr none (.func x2.fn x2.fs x2.cs) [eS6] (fun l3(y4:ByteArray×Unit) R5=>
  L.begin Pr l3<|
  L.load eL6 (⟨b1,0,none⟩) fun(x8:Sl)=>
  L.new [.string y4.1] z00 fun b9=>
  L.sem Pr (.one (.one .slice)) (Builtin.append_ #[z07,z07] z07 #[Sv6 x8,.slice (some ⟨b9,0,none⟩) 1 1]) fun(s10:Sl)=>
  L.store (⟨b1,0,none⟩) [Sv6 s10]<|
  L.endRound Pr l3 none R5) fun d6 j7=>
 L.jump j7 (
  L.load eL6 (⟨b1,0,none⟩) fun(x11:Sl)=>
  L.call Pr z0Z [Sv6 x11] rL fun(x12:Sl)=>
  L.unmark Pr (d6++[])<|
  K (.slice x12.a x12.len x12.cap)) (
  L.unmark Pr (d6++[])<|
  K (.slice none 0 0)) []
theorem zhU(p0 p1:Sl)(h:zcM p0 p1 K w):CV z4R [.v (.slice p0.a p0.len p0.cap),.v (.slice p1.a p1.len p1.cap)] K w:=C_of Tryz.f83 zic _ h
def zdT:Ann:=(.seq .auto (.seq .auto (.seq (.seq .auto (.one [(5,(.one (.slice))),(14,(.one (.int .i64)))] (.seq .auto (.seq .auto (.seq .auto .auto (some [(5,(.one (.slice)))])) none) none)) none) .auto none) none) none)
def z9g(p0:ByteArray)(p1:Sl)(K:Value→PT):PT:=
 L.new [.string p0] z00 fun b1=>
 L.loop (Y:=Sl×Int×Unit) (⟨some ⟨b1,0,none⟩,1,1⟩,0,()) fun y2 again3=>
 L.ite (decide (y2.2.1<((p1.len:Nat):Int))) (
  L.join (Y:=Sl×Unit) (fun k4=>
   L.idx p1.a y2.2.1 p1.len 1 fun a6=>
   L.load eI6 a6 fun(x7:Int)=>
   L.semR Pr (.tup [eS6,.one .bool]) (Instr.typeAssert (.iface z0h (.int .i64 x7)) zbZ z00 true) fun(x8:ByteArray×Bool×Unit)=>
   L.ite x8.2.1 (
    L.new [.string x8.1] z00 fun b9=>
    L.sem Pr (.one (.one .slice)) (Builtin.append_ #[z07,z07] z07 #[Sv6 y2.1,.slice (some ⟨b9,0,none⟩) 1 1]) fun(s10:Sl)=>
    k4 (⟨s10.a,s10.len,s10.cap⟩,()))<|
   L.ite true (
    L.call Pr z4d [.int .i64 x7] rS fun(x11:ByteArray)=>
    L.new [.string x11] z00 fun b12=>
    L.sem Pr (.one (.one .slice)) (Builtin.append_ #[z07,z07] z07 #[Sv6 y2.1,.slice (some ⟨b12,0,none⟩) 1 1]) fun(s13:Sl)=>
    k4 (⟨s13.a,s13.len,s13.cap⟩,()))<|
   k4 (⟨y2.1.a,y2.1.len,y2.1.cap⟩,())) fun z5=>
  again3 (⟨z5.1.a,z5.1.len,z5.1.cap⟩,IntKind.wrap .i64 (y2.2.1+1),()))<|
 L.call Pr z6C [Sv6 y2.1,.string z8A] rS fun(x14:ByteArray)=>
 K (.string x14)
theorem zdM(p0:ByteArray)(p1:Sl)(h:z9g p0 p1 K w):CV z0q [.v (.string p0),.v (.slice p1.a p1.len p1.cap)] K w:=C_of Tryz.f84 zdT _ h
def zeN:Ann:=(.seq .auto (.seq .auto (.seq .auto (.seq .auto (.seq (.one [(4,(.one (.slice))),(5,(.one (.int .i64)))] .auto) .auto none) none) none) none) none)
def za0(p0:Option Addr)(p1:Int)(K:Value→PT):PT:=
 L.nonnil p0 fun a1=>
 L.load eP6 (a1.add 0) fun(x2:Option Addr)=>
 L.call Pr z68 [.pointer x2,.int .i64 p1] (.tup [eS6,eI6]) fun(x3:ByteArray×Int×Unit)=>
 L.ite (x3.2.1 != 0) (
  K (.tuple #[.slice none 0 0,.int .i64 x3.2.1]))<|
 L.call Pr z1w [.pointer p0,.int .i64 p1,.string x3.1,.agg #[.int .i64 0,.int .i64 3,.int .i64 0,.string s_]] (.one (.agg [.int .i64,.int .i64,.int .i64,.str])) fun(x4:pt10)=>
 L.new [.int .i64 0,.int .i64 0,.int .i64 0,.string s_] z0a fun b5=>
 L.store (⟨b5,0,none⟩) [.int .i64 x4.1,.int .i64 x4.2.1,.int .i64 x4.2.2.1,.string x4.2.2.2.1]<|
 L.join (Y:=Sl×Int×Unit) (fun k6=>
  L.draw<|
  L.load (.agg [.int .i64,.int .i64,.int .i64,.str]) (⟨b5,0,none⟩) fun(x8:pt10)=>
  L.alts [(
    L.new [.int .i64 x8.1,.int .i64 x8.2.1,.int .i64 x8.2.2.1,.string x8.2.2.2.1] z0a fun b9=>
    L.call Pr z43 [.pointer p0,.string x3.1] rL fun(x10:Sl)=>
    L.chk (⟨b5,0,none⟩) [.int .i64 x8.1,.int .i64 x8.2.1,.int .i64 x8.2.2.1,.string x8.2.2.2.1]<|
    L.sem Pr (.one (.one .slice)) (Builtin.append_ #[z0d,z0d] z0d #[.slice (some ⟨b9,0,none⟩) 1 1,Sv6 x10]) fun(s11:Sl)=>
    k6 (⟨s11.a,s11.len,s11.cap⟩,0,())),(
    L.call Pr z43 [.pointer p0,.string x3.1] rL fun(x12:Sl)=>
    L.chk (⟨b5,0,none⟩) [.int .i64 x8.1,.int .i64 x8.2.1,.int .i64 x8.2.2.1,.string x8.2.2.2.1]<|
    L.new [.int .i64 x8.1,.int .i64 x8.2.1,.int .i64 x8.2.2.1,.string x8.2.2.2.1] z0a fun b13=>
    L.sem Pr (.one (.one .slice)) (Builtin.append_ #[z0d,z0d] z0d #[.slice (some ⟨b13,0,none⟩) 1 1,Sv6 x12]) fun(s14:Sl)=>
    k6 (⟨s14.a,s14.len,s14.cap⟩,0,()))]) fun z7=>
 K (.tuple #[Sv6 z7.1,.int .i64 z7.2.1])
theorem zeB(p0:Option Addr)(p1:Int)(h:za0 p0 p1 K w):CV z79 [.v (.pointer p0),.v (.int .i64 p1)] K w:=C_of Tryz.f85 zeN _ h
def za4(p0:Option Addr)(p1:Int)(K:Value→PT):PT:=
 L.nonnil p0 fun a1=>
 L.load (.one (.map)) (a1.add 0) fun(x2:Option Nat)=>
 L.semR Pr (.tup [(.agg [.str,.ptr]),.one .bool]) (Instr.lookup z0x (.map x2) (.int .i64 p1) true) fun(x3:pt12)=>
 L.new [.string s_,.pointer none] z5D fun b4=>
 L.store (⟨b4,0,none⟩) [.string x3.1.1,.pointer x3.1.2.1]<|
 L.ite (!x3.2.1) (
  K (.int .i64 6))<|
 L.load eP6 (Ad6 b4 1) fun(x5:Option Addr)=>
 L.call Pr zar [.pointer x5] rI fun(x6:Int)=>
 K (.int .i64 x6)
theorem zeF(p0:Option Addr)(p1:Int)(h:za4 p0 p1 K w):CV z5w [.v (.pointer p0),.v (.int .i64 p1)] K w:=C_of Tryz.f86 .auto _ h
def za5(p0:Option Addr)(p1:Int)(K:Value→PT):PT:=
 L.nonnil p0 fun a1=>
 L.load (.one (.map)) (a1.add 0) fun(x2:Option Nat)=>
 L.semR Pr (.one (.agg [.str,.ptr])) (Instr.lookup z0x (.map x2) (.int .i64 p1) false) fun(x3:ByteArray×Option Addr×Unit)=>
 K (.string x3.1)
theorem zeG(p0:Option Addr)(p1:Int)(h:za5 p0 p1 K w):CV z7c [.v (.pointer p0),.v (.int .i64 p1)] K w:=C_of Tryz.f87 .auto _ h
def z5E(p0:Option Addr)(p1:ByteArray)(K:Value→PT):PT:=
 L.nonnil p0 fun a1=>
 L.load (.one (.map)) (a1.add 1) fun(x2:Option Nat)=>
 L.semR Pr rB (Instr.lookup z4n (.map x2) (.string p1) false) fun(x3:Bool)=>
 K (.bool x3)
theorem z8e(p0:Option Addr)(p1:ByteArray)(h:z5E p0 p1 K w):CV z1K [.v (.pointer p0),.v (.string p1)] K w:=C_of Tryz.f88 .auto _ h
theorem zc1:Enters Pr z1K:=z0j (by kernel_rfl)
def z8J(p0:Option Addr)(p1:ByteArray)(K:Value→PT):PT:=
 L.nonnil p0 fun a1=>
 L.load (.one (.map)) (a1.add 0) fun(x2:Option Nat)=>
 L.semR Pr (.tup [(.agg lf4),.one .bool]) (Instr.lookup z0l (.map x2) (.string p1) true) fun(x3:pt6)=>
 L.new [.string s_,.int .i64 0,.string s_,.int .i64 0,.int .i64 0,.int .i64 0,.int .i64 0,.int .i64 0] z0p fun b4=>
 L.store (⟨b4,0,none⟩) [.string x3.1.1,.int .i64 x3.1.2.1,.string x3.1.2.2.1,.int .i64 x3.1.2.2.2.1,.int .i64 x3.1.2.2.2.2.1,.int .i64 x3.1.2.2.2.2.2.1,.int .i64 x3.1.2.2.2.2.2.2.1,.int .i64 x3.1.2.2.2.2.2.2.2.1]<|
 L.ite (!x3.2.1) (
  K (.int .i64 6))<|
 L.nonnil p0 fun a5=>
 L.load (.one (.map)) (a5.add 1) fun(x6:Option Nat)=>
 L.semU Pr (Instr.mapUpdate z4n (.map x6) (.string p1) (.bool true))<|
 K (.int .i64 0)
theorem zd7(p0:Option Addr)(p1:ByteArray)(h:z8J p0 p1 K w):CV z5Z [.v (.pointer p0),.v (.string p1)] K w:=C_of Tryz.f89 .auto _ h
def zeM:Ann:=(.seq .auto (.seq .auto (.seq .auto (.seq (.seq .auto (.one [(5,(.one (.slice))),(19,(.one (.int .i64)))] .auto) none) .auto (some [(5,(.one (.slice)))])) none) none) none)
def z9Z(p0:Option Addr)(p1:ByteArray)(K:Value→PT):PT:=
 L.nonnil p0 fun a1=>
 L.call Pr z2E [.pointer (some (a1.add 2)),.string p1] rP fun(x2:Option Addr)=>
 L.join (Y:=Sl×Unit) (fun k3=>
  L.call Pr z5X [.pointer x2] rL fun(x5:Sl)=>
  L.loop (Y:=Sl×Int×Unit) (⟨none,0,0⟩,0,()) fun y6 again7=>
  L.ite (decide (y6.2.1<((x5.len:Nat):Int))) (
   L.idx x5.a y6.2.1 x5.len 1 fun a8=>
   L.load eI6 a8 fun(x9:Int)=>
   L.call Pr z5v [.pointer p0,.int .i64 x9,.string p1] (.tup [(.agg [.int .i64,.int .i64,.int .i64,.str]),eB6]) fun(x10:pt11)=>
   L.new [.int .i64 0,.int .i64 0,.int .i64 0,.string s_] z0a fun b11=>
   L.store (⟨b11,0,none⟩) [.int .i64 x10.1.1,.int .i64 x10.1.2.1,.int .i64 x10.1.2.2.1,.string x10.1.2.2.2.1]<|
   L.ite (!x10.2.1) (
    k3 (⟨y6.1.a,y6.1.len,y6.1.cap⟩,()))<|
   L.call Pr z7O [.pointer x2] (.tup [eI6,eB6]) fun(x12:Int×Bool×Unit)=>
   L.load (.agg [.int .i64,.int .i64,.int .i64,.str]) (⟨b11,0,none⟩) fun(x13:pt10)=>
   L.new [.int .i64 x13.1,.int .i64 x13.2.1,.int .i64 x13.2.2.1,.string x13.2.2.2.1] z0a fun b14=>
   L.sem Pr (.one (.one .slice)) (Builtin.append_ #[z0d,z0d] z0d #[Sv6 y6.1,.slice (some ⟨b14,0,none⟩) 1 1]) fun(s15:Sl)=>
   again7 (⟨s15.a,s15.len,s15.cap⟩,IntKind.wrap .i64 (y6.2.1+1),()))<|
  k3 (⟨y6.1.a,y6.1.len,y6.1.cap⟩,())) fun z4=>
 L.call Pr z1n [Sv6 z4.1] rL fun(x16:Sl)=>
 K (.slice x16.a x16.len x16.cap)
theorem zeA(p0:Option Addr)(p1:ByteArray)(h:z9Z p0 p1 K w):CV z43 [.v (.pointer p0),.v (.string p1)] K w:=C_of Tryz.f90 zeM _ h
def zeL:Ann:=(.seq .auto (.seq .auto (.seq (.seq .auto (.seq .auto (.seq .auto (.one [(20,(.one (.int .i64)))] .auto) none) (some [(14,(.one (.str))),(15,(.one (.ptr)))])) none) .auto none) none) none)
def z9X(p0:Option Addr)(p1:Int)(K:Value→PT):PT:=
 L.new [.pointer p0] z3o fun b1=>
 L.new [.int .i64 p1] z0h fun b2=>
 L.new [.slice none 0 0] z0d fun b3=>
 L.load eP6 (⟨b1,0,none⟩) fun(x4:Option Addr)=>
 L.nonnil x4 fun a5=>
 L.call Pr z54 [.pointer (some (a5.add 2))] (.one (.one (.func))) fun(x6:FV)=>
 L.range Pr none (.func x6.fn x6.fs x6.cs) [eS6,eP6] (fun l7(y8:ByteArray×Option Addr×Unit) R9=>
  L.begin Pr l7<|
  L.load eI6 (⟨b2,0,none⟩) fun(x12:Int)=>
  L.call Pr z73 [.pointer y8.2.1,.int .i64 x12] rL fun(x13:Sl)=>
  L.loop (Y:=Int×Unit) (0,()) fun y14 again15=>
  L.ite (decide (y14.1<((x13.len:Nat):Int))) (
   L.idx x13.a y14.1 x13.len 1 fun a16=>
   L.load eI6 a16 fun(x17:Int)=>
   L.draw<|
   L.load eL6 (⟨b3,0,none⟩) fun(x18:Sl)=>
   L.load eP6 (⟨b1,0,none⟩) fun(x19:Option Addr)=>
   L.call Pr z6w [.string s_timeout] (.one (.agg [.int .i64,.int .i64,.int .i64,.str])) fun(x20:pt10)=>
   L.chk (⟨b1,0,none⟩) [.pointer x19]<|
   L.chk (⟨b3,0,none⟩) [Sv6 x18]<|
   L.call Pr z1w [.pointer x19,.int .i64 x17,.string y8.1,.agg #[.int .i64 x20.1,.int .i64 x20.2.1,.int .i64 x20.2.2.1,.string x20.2.2.2.1]] (.one (.agg [.int .i64,.int .i64,.int .i64,.str])) fun(x21:pt10)=>
   L.chk (⟨b3,0,none⟩) [Sv6 x18]<|
   L.new [.int .i64 x21.1,.int .i64 x21.2.1,.int .i64 x21.2.2.1,.string x21.2.2.2.1] z0a fun b22=>
   L.chk (⟨b3,0,none⟩) [Sv6 x18]<|
   L.sem Pr (.one (.one .slice)) (Builtin.append_ #[z0d,z0d] z0d #[Sv6 x18,.slice (some ⟨b22,0,none⟩) 1 1]) fun(s23:Sl)=>
   L.store (⟨b3,0,none⟩) [Sv6 s23]<|
   again15 (IntKind.wrap .i64 (y14.1+1),()))<|
  L.endRound Pr l7 none R9) fun d10 j11=>
 L.jump j11 (
  L.load eL6 (⟨b3,0,none⟩) fun(x24:Sl)=>
  L.call Pr z1n [Sv6 x24] rL fun(x25:Sl)=>
  L.unmark Pr (d10++[])<|
  K (.slice x25.a x25.len x25.cap)) (
  L.unmark Pr (d10++[])<|
  K (.slice none 0 0)) []
theorem zey(p0:Option Addr)(p1:Int)(h:z9X p0 p1 K w):CV z77 [.v (.pointer p0),.v (.int .i64 p1)] K w:=C_of Tryz.f93 zeL _ h
def z5p(p0:Option Addr)(K:Value→PT):PT:=
 L.nonnil p0 fun a1=>
 L.load eP6 (a1.add 1) fun(x2:Option Addr)=>
 L.call Pr z74 [.pointer x2] rL fun(x3:Sl)=>
 K (.slice x3.a x3.len x3.cap)
theorem z8Y(p0:Option Addr)(h:z5p p0 K w):CV z5m [.v (.pointer p0)] K w:=C_of Tryz.f94 .auto _ h
def z9i(p0:Option Addr)(p1:Int)(K:Value→PT):PT:=
 L.nonnil p0 fun a1=>
 L.call Pr z5d [.pointer (some (a1.add 0)),.int .i64 (if 0>p1 then 0 else p1)] (.tup []) fun(x2:Unit)=>
 L.nonnil p0 fun a3=>
 L.load eI6 (a3.add 61) fun(x4:Int)=>
 L.nonnil p0 fun a5=>
 L.store (a5.add 61) [.int .i64 (IntKind.wrap .i64 (x4+1))]<|
 L.ite (decide ((if 0>p1 then 0 else p1)>0)) (
  L.nonnil p0 fun a6=>
  L.store (a6.add 61) [.int .i64 0]<|
  K (.tuple #[]))<|
 K (.tuple #[])
theorem zdO(p0:Option Addr)(p1:Int)(h:z9i p0 p1 K w):CV z6v [.v (.pointer p0),.v (.int .i64 p1)] K w:=C_of Tryz.f95 .auto _ h
def za1(p0:Option Addr)(p1:ByteArray)(K:Value→PT):PT:=
 L.call Pr z4m [.pointer p0,.string p1] (.tup [eL6,eL6]) fun(x1:Sl×Sl×Unit)=>
 K (.int .i64 (IntKind.wrap .i64 (((x1.1.len:Nat):Int)+((x1.2.1.len:Nat):Int))))
theorem zeC(p0:Option Addr)(p1:ByteArray)(h:za1 p0 p1 K w):CV z7a [.v (.pointer p0),.v (.string p1)] K w:=C_of Tryz.f96 .auto _ h
def z7m(p0:Option Addr)(p1:ByteArray)(K:Value→PT):PT:=
 L.new [.string s_,.int .i64 0,.int .i64 0,.int .i64 0,.int .i64 0,.int .i64 0] z0t fun b1=>
 L.nonnil p0 fun a2=>
 L.load eP6 (a2.add 0) fun(x3:Option Addr)=>
 L.call Pr z2X [.pointer x3,.string p1] (.tup [(.agg lf9),eB6]) fun(x4:pt13)=>
 L.new [.string s_,.int .i64 0,.int .i64 0,.int .i64 0,.int .i64 0,.int .i64 0,.int .i64 0,.int .i64 0,.bool false] z0e fun b5=>
 L.store (⟨b5,0,none⟩) [.string x4.1.1,.int .i64 x4.1.2.1,.int .i64 x4.1.2.2.1,.int .i64 x4.1.2.2.2.1,.int .i64 x4.1.2.2.2.2.1,.int .i64 x4.1.2.2.2.2.2.1,.int .i64 x4.1.2.2.2.2.2.2.1,.int .i64 x4.1.2.2.2.2.2.2.2.1,.bool x4.1.2.2.2.2.2.2.2.2.1]<|
 L.ite (!x4.2.1) (
  L.store (⟨b1,0,none⟩) [.string s_,.int .i64 0,.int .i64 0,.int .i64 0,.int .i64 0,.int .i64 0]<|
  L.load (.agg lf0) (⟨b1,0,none⟩) fun(x6:pt0)=>
  K (.tuple #[(qa0 x6),.int .i64 0,.int .i64 0,.bool false]))<|
 L.draw<|
 L.load (.agg lf0) (Ad6 b5 0) fun(x7:pt0)=>
 L.load eI6 (Ad6 b5 6) fun(x8:Int)=>
 L.load eI6 (Ad6 b5 7) fun(x9:Int)=>
 L.store (⟨b1,0,none⟩) [.string x7.1,.int .i64 x7.2.1,.int .i64 x7.2.2.1,.int .i64 x7.2.2.2.1,.int .i64 x7.2.2.2.2.1,.int .i64 x7.2.2.2.2.2.1]<|
 L.chk (Ad6 b5 7) [.int .i64 x9]<|
 L.chk (Ad6 b5 6) [.int .i64 x8]<|
 L.chk (Ad6 b5 7) [.int .i64 x9]<|
 L.load (.agg lf0) (⟨b1,0,none⟩) fun(x10:pt0)=>
 K (.tuple #[(qa0 x10),.int .i64 x8,.int .i64 x9,.bool true])
theorem zbp(p0:Option Addr)(p1:ByteArray)(h:z7m p0 p1 K w):CV z3v [.v (.pointer p0),.v (.string p1)] K w:=C_of Tryz.f97 .auto _ h
def z8I(p0:Option Addr)(p1:ht0)(p2:Int)(K:Value→PT):PT:=
 L.new [.string p1.1,.int .i64 p1.2.1,.int .i64 p1.2.2.1,.int .i64 p1.2.2.2.1,.int .i64 p1.2.2.2.2.1,.int .i64 p1.2.2.2.2.2.1] z0t fun b1=>
 L.load eS6 (Ad6 b1 0) fun(x2:ByteArray)=>
 L.call Pr z9z [.string x2,.int .i64 p2] rS fun(x3:ByteArray)=>
 L.ite (x3.toList == s_.toList) (
  K (.tuple #[.string x3,.bool false]))<|
 L.nonnil p0 fun a4=>
 L.load (.one (.map)) (a4.add 0) fun(x5:Option Nat)=>
 L.semR Pr (.one (.agg lf4)) (Instr.lookup z0l (.map x5) (.string x3) false) fun(x6:pt14)=>
 L.chkSem Pr (do eqGuard .neq z0p (.tmp 0) (.tmp 0) ((qa3 x6)) (.agg #[.string s_,.int .i64 0,.string s_,.int .i64 0,.int .i64 0,.int .i64 0,.int .i64 0,.int .i64 0]);binOp .neq z0p ((qa3 x6)) (.agg #[.string s_,.int .i64 0,.string s_,.int .i64 0,.int .i64 0,.int .i64 0,.int .i64 0,.int .i64 0])) (.bool (!((x6.1 == s_)&&((x6.2.1 == 0)&&((x6.2.2.1 == s_)&&((x6.2.2.2.1 == 0)&&((x6.2.2.2.2.1 == 0)&&((x6.2.2.2.2.2.1 == 0)&&((x6.2.2.2.2.2.2.1 == 0)&&((x6.2.2.2.2.2.2.2.1 == 0)&&true))))))))))<|
 L.ite (!((x6.1 == s_)&&((x6.2.1 == 0)&&((x6.2.2.1 == s_)&&((x6.2.2.2.1 == 0)&&((x6.2.2.2.2.1 == 0)&&((x6.2.2.2.2.2.1 == 0)&&((x6.2.2.2.2.2.2.1 == 0)&&((x6.2.2.2.2.2.2.2.1 == 0)&&true))))))))) (
  K (.tuple #[.string x3,.bool false]))<|
 L.draw<|
 L.nonnil p0 fun a7=>
 L.load (.one (.map)) (a7.add 0) fun(x8:Option Nat)=>
 L.load (.agg lf0) (⟨b1,0,none⟩) fun(x9:pt0)=>
 L.semU Pr (Instr.mapUpdate z0l (.map x8) (.string x3) (.agg #[.string x3,.int .i64 p2,.string x9.1,.int .i64 x9.2.1,.int .i64 x9.2.2.1,.int .i64 x9.2.2.2.1,.int .i64 x9.2.2.2.2.1,.int .i64 x9.2.2.2.2.2.1]))<|
 K (.tuple #[.string x3,.bool true])
theorem zd6(p0:Option Addr)(p1:ht0)(p2:Int)(h:z8I p0 p1 p2 K w):CV z5Y [.v (.pointer p0),.ag (qc0 p1),.v (.int .i64 p2)] K w:=C_of Tryz.f98 .auto _ h
def zfY  (K:Value→PT):PT:=
 L.new [.int .i64 0,.int .i64 0,.int .i64 0,.int .i64 0,.int .i64 0,.int .i64 0,.int .i64 0,.int .i64 0,.int .i64 0,.int .i64 0,.int .i64 0,.int .i64 0,.int .i64 0,.int .i64 0,.int .i64 0,.int .i64 0,.int .i64 0,.int .i64 0,.int .i64 0,.int .i64 0,.int .i64 0,.int .i64 0,.int .i64 0,.int .i64 0,.int .i64 0,.int .i64 0,.int .i64 0,.int .i64 0,.int .i64 0,.int .i64 0,.int .i64 0,.int .i64 0,.int .i64 0,.int .i64 0,.int .i64 0,.int .i64 0,.int .i64 0,.int .i64 0,.int .i64 0,.int .i64 0,.int .i64 0,.int .i64 0,.int .i64 0,.int .i64 0,.int .i64 0,.int .i64 0,.int .i64 0,.int .i64 0,.int .i64 0,.int .i64 0,.int .i64 0,.int .i64 0,.int .i64 0,.int .i64 0,.int .i64 0,.int .i64 0,.int .i64 0,.int .i64 0,.int .i64 0,.int .i64 0,.int .i64 0,.int .i64 0] z6c fun b1=>
 K (.pointer (some (⟨b1,0,none⟩)))
theorem zkD(h:zfY  K w):CV zbU [] K w:=C_of Tryz.f99 .auto _ h
def z84(p0:Option Addr)(p1:ByteArray)(K:Value→PT):PT:=
 L.new [.string s_,.string s_,.slice none 0 0,.int .i64 0] z0s fun b1=>
 L.nonnil p0 fun a2=>
 L.load eP6 (a2.add 1) fun(x3:Option Addr)=>
 L.call Pr z3g [.pointer x3,.string p1] (.tup [(.agg lf10),eB6]) fun(x4:pt15)=>
 L.new [.string s_,.string s_,.slice none 0 0,.int .i64 0,.int .i64 0,.int .i64 0,.bool false] z0k fun b5=>
 L.store (⟨b5,0,none⟩) [.string x4.1.1,.string x4.1.2.1,Sv6 x4.1.2.2.1,.int .i64 x4.1.2.2.2.1,.int .i64 x4.1.2.2.2.2.1,.int .i64 x4.1.2.2.2.2.2.1,.bool x4.1.2.2.2.2.2.2.1]<|
 L.ite (!x4.2.1) (
  L.store (⟨b1,0,none⟩) [.string s_,.string s_,.slice none 0 0,.int .i64 0]<|
  L.load (.agg [.str,.str,.slice,.int .i64]) (⟨b1,0,none⟩) fun(x6:pt3)=>
  K (.tuple #[.agg #[.string x6.1,.string x6.2.1,Sv6 x6.2.2.1,.int .i64 x6.2.2.2.1],.int .i64 0,.bool false]))<|
 L.draw<|
 L.load (.agg [.str,.str,.slice,.int .i64]) (Ad6 b5 0) fun(x7:pt3)=>
 L.load eI6 (Ad6 b5 4) fun(x8:Int)=>
 L.call Pr z9v [.agg #[.string x7.1,.string x7.2.1,Sv6 x7.2.2.1,.int .i64 x7.2.2.2.1]] (.one (.agg [.str,.str,.slice,.int .i64])) fun(x9:pt3)=>
 L.chk (Ad6 b5 4) [.int .i64 x8]<|
 L.store (⟨b1,0,none⟩) [.string x9.1,.string x9.2.1,Sv6 x9.2.2.1,.int .i64 x9.2.2.2.1]<|
 L.chk (Ad6 b5 4) [.int .i64 x8]<|
 L.load (.agg [.str,.str,.slice,.int .i64]) (⟨b1,0,none⟩) fun(x10:pt3)=>
 K (.tuple #[.agg #[.string x10.1,.string x10.2.1,Sv6 x10.2.2.1,.int .i64 x10.2.2.2.1],.int .i64 x8,.bool true])
theorem zc9(p0:Option Addr)(p1:ByteArray)(h:z84 p0 p1 K w):CV z3M [.v (.pointer p0),.v (.string p1)] K w:=C_of Tryz.f100 .auto _ h
def zgx:Ann:=(.seq .auto (.seq .auto (.seq (.seq .auto (.one [(5,(.one (.int .i64))),(22,(.one (.int .i64)))] (.seq .auto (.seq .auto (.seq .auto .auto (some [(5,(.one (.int .i64)))])) none) none)) none) (.seq .auto (.seq (.seq .auto (.seq .auto .auto (some [(53,(.one (.str))),(54,(.one (.int .i64)))])) none) (.seq (.seq .auto (.seq .auto .auto (some [(67,(.one (.str))),(68,(.one (.str)))])) none) .auto none) none) none) none) none) none)
def zbG(p0:ht2)(p1:Option Addr)(K:Value→PT):PT:=
 L.new [.string p0.1,.string p0.2.1,Sv6 p0.2.2.1,.int .i64 p0.2.2.2.1] z0s fun b1=>
 L.new [.slice none 0 0,.slice none 0 0] z02 fun b2=>
 L.sem Pr (.one (.one .map)) (Instr.makeMap z0L none) fun(m3:Option Nat)=>
 L.sem Pr (.one (.one .map)) (Instr.makeMap z0v none) fun(m4:Option Nat)=>
 L.load eL6 (Ad6 b1 2) fun(x5:Sl)=>
 L.loop (Y:=Int×Int×Unit) (0,0,()) fun y6 again7=>
 L.ite (decide (y6.2.1<((x5.len:Nat):Int))) (
  L.join (Y:=Int×Unit) (fun k8=>
   L.idx x5.a y6.2.1 x5.len 3 fun a10=>
   L.load (.agg [.str,.str,.int .i64]) a10 fun(x11:pt9)=>
   L.new [.string s_,.string s_,.int .i64 0] z08 fun b12=>
   L.store (⟨b12,0,none⟩) [.string x11.1,.string x11.2.1,.int .i64 x11.2.2.1]<|
   L.load (.agg [.str,.str,.int .i64]) (⟨b12,0,none⟩) fun(x13:pt9)=>
   L.load (.agg [.str,.str,.slice,.int .i64]) (⟨b1,0,none⟩) fun(x14:pt3)=>
   L.call Pr z9y [.agg #[.string x13.1,.string x13.2.1,.int .i64 x13.2.2.1],.agg #[.string x14.1,.string x14.2.1,Sv6 x14.2.2.1,.int .i64 x14.2.2.2.1],.pointer p1] (.tup [eS6,eI6]) fun(x15:ByteArray×Int×Unit)=>
   L.ite (x15.2.1 != 0) (
    L.store (⟨b2,0,none⟩) [.slice none 0 0,.slice none 0 0]<|
    L.load (.agg [.slice,.slice]) (⟨b2,0,none⟩) fun(x16:Sl×Sl×Unit)=>
    K (.tuple #[.agg #[Sv6 x16.1,Sv6 x16.2.1],.int .i64 x15.2.1]))<|
   L.semR Pr rI (Instr.lookup z0L (.map m3) (.string x15.1) false) fun(x17:Int)=>
   L.load eI6 (Ad6 b12 2) fun(x18:Int)=>
   L.semU Pr (Instr.mapUpdate z0L (.map m3) (.string x15.1) (.int .i64 (IntKind.wrap .i64 (x17+x18))))<|
   L.load eS6 (Ad6 b12 1) fun(x19:ByteArray)=>
   L.ite (!(x19.toList == s_.toList)) (
    L.load eS6 (Ad6 b12 1) fun(x20:ByteArray)=>
    L.semU Pr (Instr.mapUpdate z0v (.map m4) (.string x20) (.string x15.1))<|
    k8 (y6.1,()))<|
   k8 (y6.1,())) fun z9=>
  again7 (z9.1,IntKind.wrap .i64 (y6.2.1+1),()))<|
 L.new [.slice none 0 0,.slice none 0 0] z02 fun b21=>
 L.call Pr z5o [.map m3] (.one (.one (.func))) fun(x22:FV)=>
 L.range Pr none (.func x22.fn x22.fs x22.cs) [eS6,eI6] (fun l23(y24:ByteArray×Int×Unit) R25=>
  L.begin Pr l23<|
  L.ite (decide (y24.2.1>0)) (
   L.load eL6 (Ad6 b21 0) fun(x28:Sl)=>
   L.new [.string y24.1,.int .i64 y24.2.1] z0m fun b29=>
   L.sem Pr (.one (.one .slice)) (Builtin.append_ #[z0F,z0F] z0F #[Sv6 x28,.slice (some ⟨b29,0,none⟩) 1 1]) fun(s30:Sl)=>
   L.store (Ad6 b21 0) [Sv6 s30]<|
   L.endRound Pr l23 none R25)<|
  L.endRound Pr l23 none R25) fun d26 j27=>
 L.jump j27 (
  L.call Pr z4l [.map m4] (.one (.one (.func))) fun(x31:FV)=>
  L.range Pr none (.func x31.fn x31.fs x31.cs) [eS6,eS6] (fun l32(y33:ByteArray×ByteArray×Unit) R34=>
   L.begin Pr l32<|
   L.load eL6 (Ad6 b21 1) fun(x37:Sl)=>
   L.new [.string y33.1,.string y33.2.1] z2J fun b38=>
   L.sem Pr (.one (.one .slice)) (Builtin.append_ #[z3U,z3U] z3U #[Sv6 x37,.slice (some ⟨b38,0,none⟩) 1 1]) fun(s39:Sl)=>
   L.store (Ad6 b21 1) [Sv6 s39]<|
   L.endRound Pr l32 none R34) fun d35 j36=>
  L.jump j36 (
   L.load (.agg [.slice,.slice]) (⟨b21,0,none⟩) fun(x40:Sl×Sl×Unit)=>
   L.call Pr z2l [.agg #[Sv6 x40.1,Sv6 x40.2.1]] (.one (.agg [.slice,.slice])) fun(x41:Sl×Sl×Unit)=>
   L.store (⟨b2,0,none⟩) [Sv6 x41.1,Sv6 x41.2.1]<|
   L.unmark Pr (d35++(d26++[]))<|
   L.load (.agg [.slice,.slice]) (⟨b2,0,none⟩) fun(x42:Sl×Sl×Unit)=>
   K (.tuple #[.agg #[Sv6 x42.1,Sv6 x42.2.1],.int .i64 0])) (
   L.unmark Pr (d35++(d26++[]))<|
   L.load (.agg [.slice,.slice]) (⟨b2,0,none⟩) fun(x43:Sl×Sl×Unit)=>
   K (.tuple #[.agg #[Sv6 x43.1,Sv6 x43.2.1],.int .i64 y6.1])) []) (
  L.unmark Pr (d26++[])<|
  L.load (.agg [.slice,.slice]) (⟨b2,0,none⟩) fun(x44:Sl×Sl×Unit)=>
  K (.tuple #[.agg #[Sv6 x44.1,Sv6 x44.2.1],.int .i64 y6.1])) []
theorem zgp(p0:ht2)(p1:Option Addr)(h:zbG p0 p1 K w):CV z6F [.ag (qc2 p0),.v (.pointer p1)] K w:=C_of Tryz.f101 zgx _ h
def zjQ:Ann:=(.seq .auto (.seq .auto (.seq .auto (.seq (.seq .auto (.one [(5,(.one (.slice))),(17,(.one (.int .i64)))] .auto) none) (.seq (.seq .auto (.one [(5,(.one (.slice))),(33,(.one (.int .i64)))] .auto) none) .auto none) none) none) none) none)
def ze6(p0:HT [.slice,.slice])(K:Value→PT):PT:=
 L.new [Sv6 p0.1,Sv6 p0.2.1] z02 fun b1=>
 L.load (.agg [.slice,.slice]) (⟨b1,0,none⟩) fun(x2:Sl×Sl×Unit)=>
 L.call Pr z9q [.agg #[Sv6 x2.1,Sv6 x2.2.1]] (.tup [eL6,eL6]) fun(x3:Sl×Sl×Unit)=>
 L.loop (Y:=Sl×Int×Unit) (⟨none,0,0⟩,0,()) fun y4 again5=>
 L.ite (decide (y4.2.1<((x3.1.len:Nat):Int))) (
  L.idx x3.1.a y4.2.1 x3.1.len 2 fun a6=>
  L.load (.agg [.str,.str]) a6 fun(x7:ByteArray×ByteArray×Unit)=>
  L.new [.string s_,.string s_] z3n fun b8=>
  L.store (⟨b8,0,none⟩) [.string x7.1,.string x7.2.1]<|
  L.idx (some (⟨b8,0,none⟩)) 0 2 1 fun a9=>
  L.load eS6 a9 fun(x10:ByteArray)=>
  L.guard (((x10.size+s___b5df.size:Nat):Int)≤maxI64)<|
  L.idx (some (⟨b8,0,none⟩)) 1 2 1 fun a11=>
  L.load eS6 a11 fun(x12:ByteArray)=>
  L.guard ((((x10++s___b5df).size+x12.size:Nat):Int)≤maxI64)<|
  L.new [.string ((x10++s___b5df)++x12)] z00 fun b13=>
  L.sem Pr (.one (.one .slice)) (Builtin.append_ #[z07,z07] z07 #[Sv6 y4.1,.slice (some ⟨b13,0,none⟩) 1 1]) fun(s14:Sl)=>
  again5 (⟨s14.a,s14.len,s14.cap⟩,IntKind.wrap .i64 (y4.2.1+1),()))<|
 L.loop (Y:=Sl×Int×Unit) (⟨y4.1.a,y4.1.len,y4.1.cap⟩,0,()) fun y15 again16=>
 L.ite (decide (y15.2.1<((x3.2.1.len:Nat):Int))) (
  L.idx x3.2.1.a y15.2.1 x3.2.1.len 2 fun a17=>
  L.load (.agg [.str,.str]) a17 fun(x18:ByteArray×ByteArray×Unit)=>
  L.new [.string s_,.string s_] z3n fun b19=>
  L.store (⟨b19,0,none⟩) [.string x18.1,.string x18.2.1]<|
  L.idx (some (⟨b19,0,none⟩)) 0 2 1 fun a20=>
  L.load eS6 a20 fun(x21:ByteArray)=>
  L.guard (((x21.size+s___b5e2.size:Nat):Int)≤maxI64)<|
  L.idx (some (⟨b19,0,none⟩)) 1 2 1 fun a22=>
  L.load eS6 a22 fun(x23:ByteArray)=>
  L.guard ((((x21++s___b5e2).size+x23.size:Nat):Int)≤maxI64)<|
  L.new [.string ((x21++s___b5e2)++x23)] z00 fun b24=>
  L.sem Pr (.one (.one .slice)) (Builtin.append_ #[z07,z07] z07 #[Sv6 y15.1,.slice (some ⟨b24,0,none⟩) 1 1]) fun(s25:Sl)=>
  again16 (⟨s25.a,s25.len,s25.cap⟩,IntKind.wrap .i64 (y15.2.1+1),()))<|
 L.call Pr z6C [Sv6 y15.1,.string z8A] rS fun(x26:ByteArray)=>
 K (.string x26)
theorem zjF(p0:HT [.slice,.slice])(h:ze6 p0 K w):CV zap [.ag [.slice p0.1.a p0.1.len p0.1.cap,.slice p0.2.1.a p0.2.1.len p0.2.1.cap]] K w:=C_of Tryz.f102 zjQ _ h
def zdl:Ann:=(.seq .auto (.seq .auto (.seq .auto .auto (some [])) none) none)
def z8L(p0:Option Addr)(p1:ByteArray)(p2:HT [.slice,.slice])(p3 p4:Int)(K:Value→PT):PT:=
 L.new [Sv6 p2.1,Sv6 p2.2.1] z02 fun b1=>
 L.new [.slice none 0 0,.slice none 0 0] z02 fun b2=>
 L.nonnil p0 fun a3=>
 L.load (.one (.map)) (a3.add 0) fun(x4:Option Nat)=>
 L.semR Pr (.tup [(.agg lf11),.one .bool]) (Instr.lookup z1Q (.map x4) (.string p1) true) fun(x5:pt16)=>
 L.new [.slice none 0 0,.slice none 0 0,.int .i64 0,.int .i64 0,.slice none 0 0,.slice none 0 0] z2a fun b6=>
 L.store (⟨b6,0,none⟩) [Sv6 x5.1.1,Sv6 x5.1.2.1,.int .i64 x5.1.2.2.1,.int .i64 x5.1.2.2.2.1,Sv6 x5.1.2.2.2.2.1,Sv6 x5.1.2.2.2.2.2.1]<|
 L.join (Y:=Unit) (fun k7=>
  L.ite (!x5.2.1) (
   L.draw<|
   L.load (.agg [.slice,.slice]) (⟨b1,0,none⟩) fun(x9:Sl×Sl×Unit)=>
   L.load (.agg [.slice,.slice]) (⟨b1,0,none⟩) fun(x10:Sl×Sl×Unit)=>
   L.call Pr z2l [.agg #[Sv6 x9.1,Sv6 x9.2.1]] (.one (.agg [.slice,.slice])) fun(x11:Sl×Sl×Unit)=>
   L.chk (⟨b1,0,none⟩) [Sv6 x10.1,Sv6 x10.2.1]<|
   L.call Pr z2l [.agg #[Sv6 x10.1,Sv6 x10.2.1]] (.one (.agg [.slice,.slice])) fun(x12:Sl×Sl×Unit)=>
   L.store (⟨b6,0,none⟩) [Sv6 x11.1,Sv6 x12.1,.int .i64 p3,.int .i64 p4,.slice none 0 0,.slice none 0 0]<|
   k7 (()))<|
  L.load eL6 (Ad6 b6 1) fun(x13:Sl)=>
  L.load eL6 (Ad6 b1 0) fun(x14:Sl)=>
  L.call Pr z1m [Sv6 x13,Sv6 x14] rB fun(x15:Bool)=>
  L.ite (!x15) (
   L.draw<|
   L.load eL6 ((Ad6 b6 4).add 0) fun(x16:Sl)=>
   L.load (.agg [.slice,.slice]) (⟨b1,0,none⟩) fun(x17:Sl×Sl×Unit)=>
   L.call Pr z2l [.agg #[Sv6 x17.1,Sv6 x17.2.1]] (.one (.agg [.slice,.slice])) fun(x18:Sl×Sl×Unit)=>
   L.chk ((Ad6 b6 4).add 0) [Sv6 x16]<|
   L.store (⟨b6,0,none⟩) [Sv6 x16,Sv6 x18.1,.int .i64 p3,.int .i64 p4,.slice none 0 0,.slice none 0 0]<|
   k7 (()))<|
  L.load eI6 (Ad6 b6 3) fun(x19:Int)=>
  L.ite (x19 != p4) (
   L.draw<|
   L.load eL6 ((Ad6 b6 4).add 0) fun(x20:Sl)=>
   L.load (.agg [.slice,.slice]) (⟨b1,0,none⟩) fun(x21:Sl×Sl×Unit)=>
   L.call Pr z2l [.agg #[Sv6 x21.1,Sv6 x21.2.1]] (.one (.agg [.slice,.slice])) fun(x22:Sl×Sl×Unit)=>
   L.chk ((Ad6 b6 4).add 0) [Sv6 x20]<|
   L.store (⟨b6,0,none⟩) [Sv6 x20,Sv6 x22.1,.int .i64 p3,.int .i64 p4,.slice none 0 0,.slice none 0 0]<|
   k7 (()))<|
  k7 (())) fun z8=>
 L.draw<|
 L.load eL6 (Ad6 b6 0) fun(x23:Sl)=>
 L.load eL6 (Ad6 b6 1) fun(x24:Sl)=>
 L.load eI6 (Ad6 b6 2) fun(x25:Int)=>
 L.load (.agg [.slice,.slice]) (⟨b1,0,none⟩) fun(x26:Sl×Sl×Unit)=>
 L.call Pr z9w [Sv6 x23,Sv6 x24,.int .i64 (IntKind.wrap .i64 (p3-x25)),.int .i64 p4] rL fun(x27:Sl)=>
 L.chk (⟨b1,0,none⟩) [Sv6 x26.1,Sv6 x26.2.1]<|
 L.call Pr z2l [.agg #[Sv6 x26.1,Sv6 x26.2.1]] (.one (.agg [.slice,.slice])) fun(x28:Sl×Sl×Unit)=>
 L.store (Ad6 b6 4) [Sv6 x27,Sv6 x28.2.1]<|
 L.draw<|
 L.nonnil p0 fun a29=>
 L.load (.one (.map)) (a29.add 0) fun(x30:Option Nat)=>
 L.load (.agg lf11) (⟨b6,0,none⟩) fun(x31:pt17)=>
 L.semU Pr (Instr.mapUpdate z1Q (.map x30) (.string p1) ((qa4 x31)))<|
 L.load (.agg [.slice,.slice]) (Ad6 b6 4) fun(x32:Sl×Sl×Unit)=>
 L.call Pr z2l [.agg #[Sv6 x32.1,Sv6 x32.2.1]] (.one (.agg [.slice,.slice])) fun(x33:Sl×Sl×Unit)=>
 L.store (⟨b2,0,none⟩) [Sv6 x33.1,Sv6 x33.2.1]<|
 L.load (.agg [.slice,.slice]) (⟨b2,0,none⟩) fun(x34:Sl×Sl×Unit)=>
 K (.agg #[Sv6 x34.1,Sv6 x34.2.1])
theorem zd9(p0:Option Addr)(p1:ByteArray)(p2:HT [.slice,.slice])(p3 p4:Int)(h:z8L p0 p1 p2 p3 p4 K w):CV z63 [.v (.pointer p0),.v (.string p1),.ag [.slice p2.1.a p2.1.len p2.1.cap,.slice p2.2.1.a p2.2.1.len p2.2.1.cap],.v (.int .i64 p3),.v (.int .i64 p4)] K w:=C_of Tryz.f103 zdl _ h
def z9U(p0:Option Addr)(p1:ByteArray)(K:Value→PT):PT:=
 L.new [.string s_,.int .i64 0,.string s_,.int .i64 0,.int .i64 0,.int .i64 0,.int .i64 0,.int .i64 0] z0p fun b1=>
 L.nonnil p0 fun a2=>
 L.load (.one (.map)) (a2.add 0) fun(x3:Option Nat)=>
 L.semR Pr (.tup [(.agg lf4),.one .bool]) (Instr.lookup z0l (.map x3) (.string p1) true) fun(x4:pt6)=>
 L.new [.string s_,.int .i64 0,.string s_,.int .i64 0,.int .i64 0,.int .i64 0,.int .i64 0,.int .i64 0] z0p fun b5=>
 L.store (⟨b5,0,none⟩) [.string x4.1.1,.int .i64 x4.1.2.1,.string x4.1.2.2.1,.int .i64 x4.1.2.2.2.1,.int .i64 x4.1.2.2.2.2.1,.int .i64 x4.1.2.2.2.2.2.1,.int .i64 x4.1.2.2.2.2.2.2.1,.int .i64 x4.1.2.2.2.2.2.2.2.1]<|
 L.load (.agg lf4) (⟨b5,0,none⟩) fun(x6:pt14)=>
 L.store (⟨b1,0,none⟩) [.string x6.1,.int .i64 x6.2.1,.string x6.2.2.1,.int .i64 x6.2.2.2.1,.int .i64 x6.2.2.2.2.1,.int .i64 x6.2.2.2.2.2.1,.int .i64 x6.2.2.2.2.2.2.1,.int .i64 x6.2.2.2.2.2.2.2.1]<|
 L.load (.agg lf4) (⟨b1,0,none⟩) fun(x7:pt14)=>
 K (.tuple #[(qa3 x7),.bool x4.2.1])
theorem zeu(p0:Option Addr)(p1:ByteArray)(h:z9U p0 p1 K w):CV z42 [.v (.pointer p0),.v (.string p1)] K w:=C_of Tryz.f104 .auto _ h
def zb1:Ann:=(.seq .auto (.seq .auto (.seq (.seq .auto (.one [(7,(.one (.int .i64))),(14,(.one (.int .i64)))] (.seq .auto (.seq .auto (.seq .auto .auto (some [(7,(.one (.int .i64)))])) none) none)) none) .auto none) none) none)
def z6O(p0:Option Addr)(p1:ByteArray)(p2:FV)(K:Value→PT):PT:=
 L.call Pr z7f [.pointer p0,.string p1] rL fun(x1:Sl)=>
 L.loop (Y:=Int×Int×Unit) (0,0,()) fun y2 again3=>
 L.ite (decide (y2.2.1<((x1.len:Nat):Int))) (
  L.join (Y:=Int×Unit) (fun k4=>
   L.idx x1.a y2.2.1 x1.len 3 fun a6=>
   L.load (.agg [.int .i64,.int .i64,.int .i64]) a6 fun(x7:Int×Int×Int×Unit)=>
   L.new [.int .i64 0,.int .i64 0,.int .i64 0] z4G fun b8=>
   L.store (⟨b8,0,none⟩) [.int .i64 x7.1,.int .i64 x7.2.1,.int .i64 x7.2.2.1]<|
   L.load eI6 (Ad6 b8 1) fun(x9:Int)=>
   L.callV Pr (.func p2.fn p2.fs p2.cs) [.int .i64 x9] rB fun(x10:Bool)=>
   L.ite x10 (
    k4 (IntKind.wrap .i64 (y2.1+1),()))<|
   k4 (y2.1,())) fun z5=>
  again3 (z5.1,IntKind.wrap .i64 (y2.2.1+1),()))<|
 K (.int .i64 y2.1)
theorem zaS(p0:Option Addr)(p1:ByteArray)(p2:FV)(h:z6O p0 p1 p2 K w):CV z4A [.v (.pointer p0),.v (.string p1),.v (.func p2.fn p2.fs p2.cs)] K w:=C_of Tryz.f105 zb1 _ h
def zcj:Ann:=(.seq .auto (.seq .auto (.seq (.one [(8,(.one (.slice))),(10,(.one (.int .i64)))] (.seq (.seq .auto (.cond .auto .auto) none) .auto none)) (.seq (.one [(9,(.one (.slice))),(10,(.one (.int .i64)))] .auto) .auto none) (some [(8,(.one (.slice))),(10,(.one (.int .i64)))])) none) none)
def z88(p0:Option Addr)(p1:ByteArray)(p2 p3:Int)(K:Value→PT):PT:=
 L.call Pr z7b [.pointer p0,.string p1] rI fun(x1:Int)=>
 L.join (Y:=Sl×Int×Unit) (fun k2=>
  L.loop (Y:=Sl×Int×Unit) (⟨none,0,0⟩,x1,()) fun y4 again5=>
  L.draw<|
  L.ite (decide (y4.2.1<p3)) (
   L.nonnil p0 fun a6=>
   L.load (.one (.map)) (a6.add 0) fun(x7:Option Nat)=>
   L.semR Pr rI (Builtin.len_ #[z0x] z0h #[.map x7]) fun(x8:Int)=>
   L.nonnil p0 fun a9=>
   L.load eI6 (a9.add 2) fun(x10:Int)=>
   L.ite (decide (x8<x10)) (
    L.nonnil p0 fun a11=>
    L.load eI6 (a11.add 3) fun(x12:Int)=>
    L.nonnil p0 fun a13=>
    L.store (a13.add 3) [.int .i64 (IntKind.wrap .i64 (x12+1))]<|
    L.draw<|
    L.nonnil p0 fun a14=>
    L.load (.one (.map)) (a14.add 0) fun(x15:Option Nat)=>
    L.nonnil p0 fun a16=>
    L.load eI6 (a16.add 3) fun(x17:Int)=>
    L.call Pr zfp [.int .i64 p2] rP fun(x18:Option Addr)=>
    L.chk (a16.add 3) [.int .i64 x17]<|
    L.chk (a14.add 0) [.map x15]<|
    L.semU Pr (Instr.mapUpdate z0x (.map x15) (.int .i64 x17) (.agg #[.string p1,.pointer x18]))<|
    L.nonnil p0 fun a19=>
    L.load eI6 (a19.add 3) fun(x20:Int)=>
    L.new [.int .i64 x20] z0h fun b21=>
    L.sem Pr (.one (.one .slice)) (Builtin.append_ #[z1b,z1b] z1b #[Sv6 y4.1,.slice (some ⟨b21,0,none⟩) 1 1]) fun(s22:Sl)=>
    again5 (⟨s22.a,s22.len,s22.cap⟩,IntKind.wrap .i64 (y4.2.1+1),()))<|
   k2 (⟨y4.1.a,y4.1.len,y4.1.cap⟩,y4.2.1,()))<|
  k2 (⟨y4.1.a,y4.1.len,y4.1.cap⟩,y4.2.1,())) fun z3=>
 L.loop (Y:=Sl×Int×Unit) (⟨none,0,0⟩,z3.2.1,()) fun y23 again24=>
 L.ite (decide (y23.2.1>(if 0>p3 then 0 else p3))) (
  L.call Pr z5A [.pointer p0,.string p1] rI fun(x25:Int)=>
  L.nonnil p0 fun a26=>
  L.load (.one (.map)) (a26.add 0) fun(x27:Option Nat)=>
  L.semR Pr (.one (.agg [.str,.ptr])) (Instr.lookup z0x (.map x27) (.int .i64 x25) false) fun(x28:ByteArray×Option Addr×Unit)=>
  L.call Pr z7R [.pointer x28.2.1] rI fun(x29:Int)=>
  L.call Pr z4T [.pointer p0,.int .i64 x25] (.tup []) fun(x30:Unit)=>
  L.new [.int .i64 x25] z0h fun b31=>
  L.sem Pr (.one (.one .slice)) (Builtin.append_ #[z1b,z1b] z1b #[Sv6 y23.1,.slice (some ⟨b31,0,none⟩) 1 1]) fun(s32:Sl)=>
  again24 (⟨s32.a,s32.len,s32.cap⟩,IntKind.wrap .i64 (y23.2.1-1),()))<|
 L.call Pr z18 [Sv6 z3.1] rL fun(x33:Sl)=>
 L.call Pr z18 [Sv6 y23.1] rL fun(x34:Sl)=>
 K (.tuple #[Sv6 x33,Sv6 x34])
theorem zcc(p0:Option Addr)(p1:ByteArray)(p2 p3:Int)(h:z88 p0 p1 p2 p3 K w):CV z5B [.v (.pointer p0),.v (.string p1),.v (.int .i64 p2),.v (.int .i64 p3)] K w:=C_of Tryz.f110 zcj _ h
def z6m(p0:Int)(K:Value→PT):PT:=
 K (.bool (p0 != 3))
theorem zac(p0:Int)(h:z6m p0 K w):CV z36 [.v (.int .i64 p0)] K w:=C_of Tryz.f111 .auto _ h
theorem za9:Enters Pr z36:=z0j (by kernel_rfl)
def zgc:Ann:=(.seq .auto (.seq .auto (.seq (.seq .auto (.seq .auto .auto (some [(12,(.one (.int .i64))),(13,(.one (.int .i64)))])) none) .auto none) none) none)
def zaG(p0:Option Addr)(K:Value→PT):PT:=
 L.call Pr z4y [.pointer p0] rI fun(x1:Int)=>
 L.sem Pr (.one (.one .slice)) (Instr.makeSlice z1b (.int .i64 0) (.int .i64 x1)) fun(s2:Sl)=>
 L.new [.slice none 0 0] z1b fun b3=>
 L.store (⟨b3,0,none⟩) [Sv6 s2]<|
 L.nonnil p0 fun a4=>
 L.call Pr z2k [.pointer (some (a4.add 0))] (.one (.one (.func))) fun(x5:FV)=>
 L.range Pr none (.func x5.fn x5.fs x5.cs) [eI6,eI6] (fun l6(y7:Int×Int×Unit) R8=>
  L.begin Pr l6<|
  L.load eL6 (⟨b3,0,none⟩) fun(x11:Sl)=>
  L.new [.int .i64 y7.1] z0h fun b12=>
  L.sem Pr (.one (.one .slice)) (Builtin.append_ #[z1b,z1b] z1b #[Sv6 x11,.slice (some ⟨b12,0,none⟩) 1 1]) fun(s13:Sl)=>
  L.store (⟨b3,0,none⟩) [Sv6 s13]<|
  L.endRound Pr l6 none R8) fun d9 j10=>
 L.jump j10 (
  L.load eL6 (⟨b3,0,none⟩) fun(x14:Sl)=>
  L.unmark Pr (d9++[])<|
  K (.slice x14.a x14.len x14.cap)) (
  L.unmark Pr (d9++[])<|
  K (.slice none 0 0)) []
theorem zg6(p0:Option Addr)(h:zaG p0 K w):CV z5X [.v (.pointer p0)] K w:=C_of Tryz.f113 zgc _ h
def z4k(p0:Sl)(K:Value→PT):PT:=
 L.ite ((p0.a).isNone) (
  K (.slice none 0 0))<|
 L.new [] z0h fun b1=>
 L.sem Pr (.one (.one .slice)) (Builtin.append_ #[z1b,z1b] z1b #[.slice (some ⟨b1,0,none⟩) 0 0,Sv6 p0]) fun(s2:Sl)=>
 K (.slice s2.a s2.len s2.cap)
theorem z6s(p0:Sl)(h:z4k p0 K w):CV z18 [.v (.slice p0.a p0.len p0.cap)] K w:=C_of Tryz.f114 .auto _ h
def za3(p0:Option Addr)(p1:ByteArray)(K:Value→PT):PT:=
 L.new [.pointer p0] z0P fun b1=>
 L.new [.string p1] z00 fun b2=>
 K (.func (.func z3k) #[] #[.pointer (some (⟨b1,0,none⟩)),.pointer (some (⟨b2,0,none⟩))])
theorem zeE(p0:Option Addr)(p1:ByteArray)(h:za3 p0 p1 K w):CV z3i [.v (.pointer p0),.v (.string p1)] K w:=C_of Tryz.f115 .auto _ h
def zaI(p0:Option Addr)(K:Value→PT):PT:=
 L.nonnil p0 fun a1=>
 L.load eI6 (a1.add 0) fun(x2:Int)=>
 K (.int .i64 x2)
theorem zg8(p0:Option Addr)(h:zaI p0 K w):CV z1u [.v (.pointer p0)] K w:=C_of Tryz.f116 .auto _ h
def z8X(p0:Option Addr)(K:Value→PT):PT:=
 L.nonnil p0 fun a1=>
 L.load (.one (.map)) ((a1.add 1).add 0) fun(x2:Option Nat)=>
 L.semR Pr rI (Builtin.len_ #[z2O] z0h #[.map x2]) fun(x3:Int)=>
 K (.int .i64 x3)
theorem zbL(p0:Option Addr)(h:z8X p0 K w):CV z2q [.v (.pointer p0)] K w:=C_of Tryz.f117 .auto _ h
def z2P(p0:Sl)(K:Value→PT):PT:=
 L.ite ((p0.a).isNone) (
  K (.slice none 0 0))<|
 L.new [] z4G fun b1=>
 L.sem Pr (.one (.one .slice)) (Builtin.append_ #[z1y,z1y] z1y #[.slice (some ⟨b1,0,none⟩) 0 0,Sv6 p0]) fun(s2:Sl)=>
 K (.slice s2.a s2.len s2.cap)
theorem z5s(p0:Sl)(h:z2P p0 K w):CV z1I [.v (.slice p0.a p0.len p0.cap)] K w:=C_of Tryz.f118 .auto _ h
def z6g(p0:FV)(K:Value→PT):PT:=
 L.sem Pr (.one (.one .map)) (Instr.makeMap z0w none) fun(m1:Option Nat)=>
 L.new [.map m1,.func p0.fn p0.fs p0.cs] z0Q fun b2=>
 K (.pointer (some (⟨b2,0,none⟩)))
theorem z9M(p0:FV)(h:z6g p0 K w):CV z3L [.v (.func p0.fn p0.fs p0.cs)] K w:=C_of Tryz.f120 .auto _ h
def zcQ(p0 p1:ht0)(K:Value→PT):PT:=
 L.new [.string p0.1,.int .i64 p0.2.1,.int .i64 p0.2.2.1,.int .i64 p0.2.2.2.1,.int .i64 p0.2.2.2.2.1,.int .i64 p0.2.2.2.2.2.1] z0t fun b1=>
 L.new [.string p1.1,.int .i64 p1.2.1,.int .i64 p1.2.2.1,.int .i64 p1.2.2.2.1,.int .i64 p1.2.2.2.2.1,.int .i64 p1.2.2.2.2.2.1] z0t fun b2=>
 L.load (.agg lf0) (⟨b1,0,none⟩) fun(x3:pt0)=>
 L.load (.agg lf0) (⟨b2,0,none⟩) fun(x4:pt0)=>
 L.chkSem Pr (do eqGuard .eql z0t (.tmp 0) (.tmp 0) ((qa0 x3)) ((qa0 x4));binOp .eql z0t ((qa0 x3)) ((qa0 x4))) (.bool ((x3.1 == x4.1)&&((x3.2.1 == x4.2.1)&&((x3.2.2.1 == x4.2.2.1)&&((x3.2.2.2.1 == x4.2.2.2.1)&&((x3.2.2.2.2.1 == x4.2.2.2.2.1)&&((x3.2.2.2.2.2.1 == x4.2.2.2.2.2.1)&&true)))))))<|
 K (.bool ((x3.1 == x4.1)&&((x3.2.1 == x4.2.1)&&((x3.2.2.1 == x4.2.2.1)&&((x3.2.2.2.1 == x4.2.2.2.1)&&((x3.2.2.2.2.1 == x4.2.2.2.2.1)&&((x3.2.2.2.2.2.1 == x4.2.2.2.2.2.1)&&true)))))))
theorem zhY(p0 p1:ht0)(h:zcQ p0 p1 K w):CV z1q [.ag (qc0 p0),.ag (qc0 p1)] K w:=C_of Tryz.f121 .auto _ h
theorem zhP:Enters Pr z1q:=z0j (by kernel_rfl)
def z6q(p0:FV)(K:Value→PT):PT:=
 L.sem Pr (.one (.one .map)) (Instr.makeMap z0C none) fun(m1:Option Nat)=>
 L.new [.map m1,.func p0.fn p0.fs p0.cs] z0D fun b2=>
 K (.pointer (some (⟨b2,0,none⟩)))
theorem zai(p0:FV)(h:z6q p0 K w):CV z4g [.v (.func p0.fn p0.fs p0.cs)] K w:=C_of Tryz.f122 .auto _ h
def z7e(p0 p1:ht2)(K:Value→PT):PT:=
 L.new [.string p0.1,.string p0.2.1,Sv6 p0.2.2.1,.int .i64 p0.2.2.2.1] z0s fun b1=>
 L.new [.string p1.1,.string p1.2.1,Sv6 p1.2.2.1,.int .i64 p1.2.2.2.1] z0s fun b2=>
 L.load eS6 (Ad6 b1 0) fun(x3:ByteArray)=>
 L.load eS6 (Ad6 b2 0) fun(x4:ByteArray)=>
 L.ite (x3.toList == x4.toList) (
  L.load eS6 (Ad6 b1 1) fun(x5:ByteArray)=>
  L.load eS6 (Ad6 b2 1) fun(x6:ByteArray)=>
  L.ite (x5.toList == x6.toList) (
   L.load eI6 (Ad6 b1 3) fun(x7:Int)=>
   L.load eI6 (Ad6 b2 3) fun(x8:Int)=>
   L.ite (x7 == x8) (
    L.load eL6 (Ad6 b1 2) fun(x9:Sl)=>
    L.load eL6 (Ad6 b2 2) fun(x10:Sl)=>
    L.call Pr z0G [Sv6 x9,Sv6 x10,.func (.func z7Q) #[] #[]] rB fun(x11:Bool)=>
    K (.bool x11))<|
   K (.bool false))<|
  K (.bool false))<|
 K (.bool false)
theorem zew(p0 p1:ht2)(h:z7e p0 p1 K w):CV z0H [.ag (qc2 p0),.ag (qc2 p1)] K w:=C_of Tryz.f123 .auto _ h
theorem zeo:Enters Pr z0H:=z0j (by kernel_rfl)
def zef(c0:Addr)(K:Value→PT):PT:=
 L.load eI6 c0 fun(x1:Int)=>
 L.call Pr zdx [.int .i64 x1] rP fun(x2:Option Addr)=>
 K (.pointer x2)
theorem zjO(c0:Addr)(h:zef c0 K w):CV z8D [.v (.pointer (some c0))] K w:=C_of Tryz.f124 .auto _ h
theorem zjC:Enters Pr z8D:=z0j (by kernel_rfl)
def zh0(p0:Int)(K:Value→PT):PT:=
 L.new [.slice none 0 0,.int .i64 p0] z6z fun b1=>
 K (.pointer (some (⟨b1,0,none⟩)))
theorem zmB(p0:Int)(h:zh0 p0 K w):CV zdx [.v (.int .i64 p0)] K w:=C_of Tryz.f125 .auto _ h
def zcU(p0:Sl)(K:Value→PT):PT:=
 L.call Pr zbW [Sv6 p0] rL fun(x1:Sl)=>
 L.call Pr z5n [Sv6 x1] (.one (.one (.func))) fun(x2:FV)=>
 K (.func x2.fn x2.fs x2.cs)
theorem zi2(p0:Sl)(h:zcU p0 K w):CV z9x [.v (.slice p0.a p0.len p0.cap)] K w:=C_of Tryz.f126 .auto _ h
def zcJ(p0:ByteArray)(K:Value→PT):PT:=
 L.call Pr z3O [.string p0] (.tup [eS6,eI6,eB6]) fun(x1:ByteArray×Int×Bool×Unit)=>
 K (.bool x1.2.2.1)
theorem zhR(p0:ByteArray)(h:zcJ p0 K w):CV z7s [.v (.string p0)] K w:=C_of Tryz.f128 .auto _ h
def zgv:Ann:=(.seq .auto (.seq .auto (.seq (.seq .auto (.seq .auto (.seq (.seq .auto (.cond .auto .auto) none) .auto (some [])) (some [(7,(.one (.str)))])) none) .auto none) none) none)
def zbB(p0:FV)(K:Value→PT):PT:=
 L.new [.bool false] z1U fun b1=>
 L.new [.string s_] z00 fun b2=>
 L.new [.bool false] z1U fun b3=>
 L.store (⟨b2,0,none⟩) [.string s_]<|
 L.store (⟨b3,0,none⟩) [.bool true]<|
 L.range Pr none (.func p0.fn p0.fs p0.cs) [eS6] (fun l4(y5:ByteArray×Unit) R6=>
  L.begin Pr l4<|
  L.join (Y:=Unit) (fun k9=>
   L.load eB6 (⟨b3,0,none⟩) fun(x11:Bool)=>
   L.ite (!x11) (
    L.load eS6 (⟨b2,0,none⟩) fun(x12:ByteArray)=>
    L.ite ((Op.bytesLess y5.1.toList x12.toList)||(y5.1.toList == x12.toList)) (
     L.store (⟨b1,0,none⟩) [.bool false]<|
     L.endRound Pr l4 (some .ret) R6)<|
    k9 (()))<|
   k9 (())) fun z10=>
  L.store (⟨b2,0,none⟩) [.string y5.1]<|
  L.store (⟨b3,0,none⟩) [.bool false]<|
  L.endRound Pr l4 none R6) fun d7 j8=>
 L.jump j8 (
  L.store (⟨b1,0,none⟩) [.bool true]<|
  L.unmark Pr (d7++[])<|
  L.load eB6 (⟨b1,0,none⟩) fun(x13:Bool)=>
  K (.bool x13)) (
  L.unmark Pr (d7++[])<|
  L.load eB6 (⟨b1,0,none⟩) fun(x14:Bool)=>
  K (.bool x14)) []
theorem zgk(p0:FV)(h:zbB p0 K w):CV z6B [.v (.func p0.fn p0.fs p0.cs)] K w:=C_of Tryz.f129 zgv _ h
def ze5(p0:HT [.slice,.slice])(K:Value→PT):PT:=
 L.new [Sv6 p0.1,Sv6 p0.2.1] z02 fun b1=>
 K (.func (.func z5l) #[] #[.pointer (some (⟨b1,0,none⟩))])
theorem zjE(p0:HT [.slice,.slice])(h:ze5 p0 K w):CV ze0 [.ag [.slice p0.1.a p0.1.len p0.1.cap,.slice p0.2.1.a p0.2.1.len p0.2.1.cap]] K w:=C_of Tryz.f130 .auto _ h
def ze4(p0:HT [.slice,.slice])(K:Value→PT):PT:=
 L.new [Sv6 p0.1,Sv6 p0.2.1] z02 fun b1=>
 K (.func (.func z5k) #[] #[.pointer (some (⟨b1,0,none⟩))])
theorem zjD(p0:HT [.slice,.slice])(h:ze4 p0 K w):CV zdZ [.ag [.slice p0.1.a p0.1.len p0.1.cap,.slice p0.2.1.a p0.2.1.len p0.2.1.cap]] K w:=C_of Tryz.f131 .auto _ h
def z9K(p0:ByteArray)(K:Value→PT):PT:=
 L.call Pr z7P [.string p0,.string s__] rI fun(x1:Int)=>
 L.ite (decide (x1<0)) (
  K (.tuple #[.string s_,.int .i64 0,.bool false]))<|
 L.guard ((0:Int)≤(IntKind.wrap .i64 (x1+1))∧(IntKind.wrap .i64 (x1+1))≤(p0.size:Int)∧(p0.size:Int)≤p0.size)<|
 L.call Pr zbx [.string (p0.extract (Int.toNat (IntKind.wrap .i64 (x1+1))) (Int.toNat (p0.size:Int)))] (.tup [eI6,(.one (.iface))]) fun(x2:pt18)=>
 L.ite (!(x2.2.1).isNone) (
  K (.tuple #[.string s_,.int .i64 0,.bool false]))<|
 L.guard ((0:Int)≤0∧0≤x1∧x1≤p0.size)<|
 L.call Pr z9z [.string (p0.extract (Int.toNat 0) (Int.toNat x1)),.int .i64 x2.1] rS fun(x3:ByteArray)=>
 L.ite (!(x3.toList == p0.toList)) (
  K (.tuple #[.string s_,.int .i64 0,.bool false]))<|
 L.guard ((0:Int)≤0∧0≤x1∧x1≤p0.size)<|
 K (.tuple #[.string (p0.extract (Int.toNat 0) (Int.toNat x1)),.int .i64 x2.1,.bool true])
theorem zda(p0:ByteArray)(h:z9K p0 K w):CV z3O [.v (.string p0)] K w:=C_of Tryz.f132 .auto _ h
def zee(p0:ByteArray)(K:Value→PT):PT:=
 L.call Pr z7u [.string p0,.int .i64 16] rB fun(x1:Bool)=>
 K (.bool x1)
theorem zjN(p0:ByteArray)(h:zee p0 K w):CV z4D [.v (.string p0)] K w:=C_of Tryz.f133 .auto _ h
def zii:Ann:=(.seq .auto (.seq .auto (.seq (.seq .auto (.one [(5,(.one (.int .i32)))] (.seq .auto (.seq (.cond .auto .auto) (.seq .auto (.seq (.seq .auto (.cond .auto .auto) none) .auto (some [])) none) none) none)) none) .auto none) none) none)
def zcW(p0:ByteArray)(p1:Int)(K:Value→PT):PT:=
 L.sem Pr (.one (.one .ptr)) (Instr.range z00 (.string p0)) fun(it1:Option Addr)=>
 L.loop (Y:=Int×Unit) (45,()) fun y2 again3=>
 L.next Pr [eI6,(.one (.int .i32))] (Instr.next (.pointer it1) true T_) (
  L.ite (y2.1 != 45) (
   K (.bool (decide ((p0.size:Int)≤p1))))<|
  K (.bool false)) fun(x4:Int×Int×Unit)=>
 L.join (Y:=Unit) (fun k5=>
  L.call Pr zas [.int .i32 x4.2.1] rB fun(x7:Bool)=>
  L.ite (!x7) (
   K (.bool false))<|
  L.ite (x4.1 == 0) (
   L.call Pr z6G [.int .i32 x4.2.1] rB fun(x8:Bool)=>
   L.ite (!x8) (
    K (.bool false))<|
   k5 (()))<|
  k5 (())) fun z6=>
 again3 (x4.2.1,())
theorem zi4(p0:ByteArray)(p1:Int)(h:zcW p0 p1 K w):CV z7u [.v (.string p0),.v (.int .i64 p1)] K w:=C_of Tryz.f134 zii _ h
def z82(p0:HT [.int .i64,.int .i64])(p1:Int)(K:Value→PT):PT:=
 L.new [.int .i64 p0.1,.int .i64 p0.2.1] zfL fun b1=>
 L.load eI6 (Ad6 b1 0) fun(x2:Int)=>
 L.ite (decide (p1≥x2)) (
  L.load eI6 (Ad6 b1 1) fun(x3:Int)=>
  K (.bool (decide (p1≤x3))))<|
 K (.bool false)
theorem zaW(p0:HT [.int .i64,.int .i64])(p1:Int)(h:z82 p0 p1 K w):CV z1l [.ag [.int .i64 p0.1,.int .i64 p0.2.1],.v (.int .i64 p1)] K w:=C_of Tryz.f135 .auto _ h
theorem zg2:Enters Pr z1l:=z0j (by kernel_rfl)
def zie:Ann:=(.seq .auto (.seq .auto (.seq .auto (.seq (.seq (.seq .auto (.cond .auto .auto) none) .auto (some [(16,(.one (.bool)))])) .auto none) none) none) none)
def zcO(p0:HT [.str,.str,.int .i64])(K:Value→PT):PT:=
 L.new [.string p0.1,.string p0.2.1,.int .i64 p0.2.2.1] z08 fun b1=>
 L.load eS6 (Ad6 b1 0) fun(x2:ByteArray)=>
 L.call Pr z3O [.string x2] (.tup [eS6,eI6,eB6]) fun(x3:ByteArray×Int×Bool×Unit)=>
 L.join (Y:=Bool×Unit) (fun k4=>
  L.load eS6 (Ad6 b1 0) fun(x6:ByteArray)=>
  L.ite (!(x6.toList == s_.toList)) (
   L.ite (!x3.2.2.1) (
    k4 (!x3.2.2.1,()))<|
   L.load eS6 (Ad6 b1 1) fun(x7:ByteArray)=>
   L.ite (!(x7.toList == s_.toList)) (
    L.load eS6 (Ad6 b1 1) fun(x8:ByteArray)=>
    L.call Pr z3p [.string x8] rB fun(x9:Bool)=>
    k4 (!x9,()))<|
   k4 (false,()))<|
  L.load eS6 (Ad6 b1 1) fun(x10:ByteArray)=>
  L.ite (!(x10.toList == s_.toList)) (
   L.load eS6 (Ad6 b1 1) fun(x11:ByteArray)=>
   L.call Pr z3p [.string x11] rB fun(x12:Bool)=>
   k4 (!x12,()))<|
  k4 (false,())) fun z5=>
 L.ite z5.1 (
  K (.int .i64 1))<|
 L.load eI6 (Ad6 b1 2) fun(x13:Int)=>
 L.callV Pr (.func (.func z1l) #[.agg #[.int .i64 0,.int .i64 100]] #[]) [.int .i64 x13] rB fun(x14:Bool)=>
 L.ite (!x14) (
  K (.int .i64 2))<|
 K (.int .i64 0)
theorem zhW(p0:HT [.str,.str,.int .i64])(h:zcO p0 K w):CV z9u [.ag [.string p0.1,.string p0.2.1,.int .i64 p0.2.2.1]] K w:=C_of Tryz.f136 zie _ h
def zmK:Ann:=(.seq .auto (.seq .auto (.seq (.seq .auto (.one [(3,(.one (.int .i64))),(8,(.one (.int .i64)))] (.seq .auto (.seq .auto (.seq (.seq .auto (.seq .auto (.seq .auto (.cond .auto .auto) none) none) none) .auto (some [(3,(.one (.int .i64)))])) none) none)) none) .auto none) none) none)
def zh1(p0:Sl)(K:Value→PT):PT:=
 L.loop (Y:=Int×Int×Unit) (0,0,()) fun y1 again2=>
 L.ite (decide (y1.2.1<((p0.len:Nat):Int))) (
  L.join (Y:=Int×Unit) (fun k3=>
   L.idx p0.a y1.2.1 p0.len 3 fun a5=>
   L.load (.agg [.str,.str,.int .i64]) a5 fun(x6:pt9)=>
   L.new [.string s_,.string s_,.int .i64 0] z08 fun b7=>
   L.store (⟨b7,0,none⟩) [.string x6.1,.string x6.2.1,.int .i64 x6.2.2.1]<|
   L.load eI6 (Ad6 b7 2) fun(x8:Int)=>
   L.load eS6 (Ad6 b7 1) fun(x9:ByteArray)=>
   L.ite (!(x9.toList == s_.toList)) (
    L.guard (0≤(0:Int)∧(0:Int)≤y1.2.1∧y1.2.1≤((p0.cap:Nat):Int)∧((p0.cap:Nat):Int)≤p0.cap)<|
    L.call Pr z1e [.slice (if Int.toNat ((p0.cap:Nat):Int)=Int.toNat (0:Int)then p0.a else Option.map (fun a:Addr=>a.add (Int.toNat (0:Int)*3)) p0.a) (Int.toNat y1.2.1-Int.toNat (0:Int)) (Int.toNat ((p0.cap:Nat):Int)-Int.toNat (0:Int)),.func (.func z5K) #[] #[.pointer (some (⟨b7,0,none⟩))]] rB fun(x10:Bool)=>
    L.ite x10 (
     K (.int .i64 5))<|
    k3 (IntKind.wrap .i64 (y1.1+x8),()))<|
   k3 (IntKind.wrap .i64 (y1.1+x8),())) fun z4=>
  again2 (z4.1,IntKind.wrap .i64 (y1.2.1+1),()))<|
 L.ite (y1.1 != 100) (
  K (.int .i64 4))<|
 K (.int .i64 0)
theorem zmC(p0:Sl)(h:zh1 p0 K w):CV zdy [.v (.slice p0.a p0.len p0.cap)] K w:=C_of Tryz.f137 zmK _ h
def z8m:Ann:=(.seq .auto (.seq .auto (.seq (.seq .auto (.cond .auto (.seq .auto (.cond .auto .auto) none)) none) .auto (some [])) none) none)
def z4L(p0:Option Addr)(p1:ByteArray)(p2:Int)(p3:Bool)(K:Value→PT):PT:=
 L.nonnil p0 fun a1=>
 L.load (.one (.map)) (a1.add 0) fun(x2:Option Nat)=>
 L.semR Pr (.one (.agg lf9)) (Instr.lookup z0w (.map x2) (.string p1) false) fun(x3:pt19)=>
 L.new [.string s_,.int .i64 0,.int .i64 0,.int .i64 0,.int .i64 0,.int .i64 0,.int .i64 0,.int .i64 0,.bool false] z0e fun b4=>
 L.store (⟨b4,0,none⟩) [.string x3.1,.int .i64 x3.2.1,.int .i64 x3.2.2.1,.int .i64 x3.2.2.2.1,.int .i64 x3.2.2.2.2.1,.int .i64 x3.2.2.2.2.2.1,.int .i64 x3.2.2.2.2.2.2.1,.int .i64 x3.2.2.2.2.2.2.2.1,.bool x3.2.2.2.2.2.2.2.2.1]<|
 L.join (Y:=Unit) (fun k5=>
  L.ite p3 (
   L.ite (p2 == 0) (
    L.load eB6 (Ad6 b4 8) fun(x7:Bool)=>
    L.ite x7 (
     K (.int .i64 5))<|
    L.ite p3 (
     L.ite (p2 == 0) (
      K (.int .i64 0))<|
     L.load eB6 (Ad6 b4 8) fun(x8:Bool)=>
     L.ite (!x8) (
      K (.int .i64 6))<|
     L.load eI6 (Ad6 b4 6) fun(x9:Int)=>
     L.ite (x9 != p2) (
      K (.int .i64 7))<|
     k5 (()))<|
    L.load eB6 (Ad6 b4 8) fun(x10:Bool)=>
    L.ite (!x10) (
     K (.int .i64 6))<|
    L.load eI6 (Ad6 b4 6) fun(x11:Int)=>
    L.ite (x11 != p2) (
     K (.int .i64 7))<|
    k5 (()))<|
   L.ite p3 (
    L.ite (p2 == 0) (
     K (.int .i64 0))<|
    L.load eB6 (Ad6 b4 8) fun(x12:Bool)=>
    L.ite (!x12) (
     K (.int .i64 6))<|
    L.load eI6 (Ad6 b4 6) fun(x13:Int)=>
    L.ite (x13 != p2) (
     K (.int .i64 7))<|
    k5 (()))<|
   L.load eB6 (Ad6 b4 8) fun(x14:Bool)=>
   L.ite (!x14) (
    K (.int .i64 6))<|
   L.load eI6 (Ad6 b4 6) fun(x15:Int)=>
   L.ite (x15 != p2) (
    K (.int .i64 7))<|
   k5 (()))<|
  L.ite p3 (
   L.ite (p2 == 0) (
    K (.int .i64 0))<|
   L.load eB6 (Ad6 b4 8) fun(x16:Bool)=>
   L.ite (!x16) (
    K (.int .i64 6))<|
   L.load eI6 (Ad6 b4 6) fun(x17:Int)=>
   L.ite (x17 != p2) (
    K (.int .i64 7))<|
   k5 (()))<|
  L.load eB6 (Ad6 b4 8) fun(x18:Bool)=>
  L.ite (!x18) (
   K (.int .i64 6))<|
  L.load eI6 (Ad6 b4 6) fun(x19:Int)=>
  L.ite (x19 != p2) (
   K (.int .i64 7))<|
  k5 (())) fun z6=>
 K (.int .i64 0)
theorem z8h(p0:Option Addr)(p1:ByteArray)(p2:Int)(p3:Bool)(h:z4L p0 p1 p2 p3 K w):CV z2W [.v (.pointer p0),.v (.string p1),.v (.int .i64 p2),.v (.bool p3)] K w:=C_of Tryz.f142 z8m _ h
def z8l:Ann:=(.seq .auto (.seq .auto (.seq .auto .auto (some [])) none) none)
def z4K(p0:Option Addr)(p1:ByteArray)(p2:ht0)(p3:Int)(K:Value→PT):PT:=
 L.new [.string p2.1,.int .i64 p2.2.1,.int .i64 p2.2.2.1,.int .i64 p2.2.2.2.1,.int .i64 p2.2.2.2.2.1,.int .i64 p2.2.2.2.2.2.1] z0t fun b1=>
 L.nonnil p0 fun a2=>
 L.load (.one (.map)) (a2.add 0) fun(x3:Option Nat)=>
 L.semR Pr (.one (.agg lf9)) (Instr.lookup z0w (.map x3) (.string p1) false) fun(x4:pt19)=>
 L.new [.string s_,.int .i64 0,.int .i64 0,.int .i64 0,.int .i64 0,.int .i64 0,.int .i64 0,.int .i64 0,.bool false] z0e fun b5=>
 L.store (⟨b5,0,none⟩) [.string x4.1,.int .i64 x4.2.1,.int .i64 x4.2.2.1,.int .i64 x4.2.2.2.1,.int .i64 x4.2.2.2.2.1,.int .i64 x4.2.2.2.2.2.1,.int .i64 x4.2.2.2.2.2.2.1,.int .i64 x4.2.2.2.2.2.2.2.1,.bool x4.2.2.2.2.2.2.2.2.1]<|
 L.join (Y:=Unit) (fun k6=>
  L.draw<|
  L.load eB6 (Ad6 b5 8) fun(x8:Bool)=>
  L.ite (!x8) (
   L.load eI6 (Ad6 b5 7) fun(x9:Int)=>
   L.store (Ad6 b5 7) [.int .i64 (IntKind.wrap .i64 (x9+1))]<|
   k6 (()))<|
  L.nonnil p0 fun a10=>
  L.load (.one (.func)) (a10.add 1) fun(x11:FV)=>
  L.load (.agg lf0) (Ad6 b5 0) fun(x12:pt0)=>
  L.load (.agg lf0) (⟨b1,0,none⟩) fun(x13:pt0)=>
  L.callV Pr (.func x11.fn x11.fs x11.cs) [(qa0 x12),(qa0 x13)] rB fun(x14:Bool)=>
  L.ite (!x14) (
   L.load eI6 (Ad6 b5 7) fun(x15:Int)=>
   L.store (Ad6 b5 7) [.int .i64 (IntKind.wrap .i64 (x15+1))]<|
   k6 (()))<|
  k6 (())) fun z7=>
 L.draw<|
 L.nonnil p0 fun a16=>
 L.load (.one (.map)) (a16.add 0) fun(x17:Option Nat)=>
 L.load (.agg lf0) (⟨b1,0,none⟩) fun(x18:pt0)=>
 L.load eI6 (Ad6 b5 7) fun(x19:Int)=>
 L.semU Pr (Instr.mapUpdate z0w (.map x17) (.string p1) (.agg #[.string x18.1,.int .i64 x18.2.1,.int .i64 x18.2.2.1,.int .i64 x18.2.2.2.1,.int .i64 x18.2.2.2.2.1,.int .i64 x18.2.2.2.2.2.1,.int .i64 p3,.int .i64 x19,.bool true]))<|
 K (.tuple #[])
theorem z8g(p0:Option Addr)(p1:ByteArray)(p2:ht0)(p3:Int)(h:z4K p0 p1 p2 p3 K w):CV z2V [.v (.pointer p0),.v (.string p1),.ag (qc0 p2),.v (.int .i64 p3)] K w:=C_of Tryz.f143 z8l _ h
def z8w:Ann:=(.seq .auto (.seq .auto (.seq (.seq .auto (.cond .auto (.seq .auto (.cond .auto .auto) none)) none) .auto (some [])) none) none)
def z58(p0:Option Addr)(p1:ByteArray)(p2:Int)(p3:Bool)(K:Value→PT):PT:=
 L.nonnil p0 fun a1=>
 L.load (.one (.map)) (a1.add 0) fun(x2:Option Nat)=>
 L.semR Pr (.one (.agg lf10)) (Instr.lookup z0C (.map x2) (.string p1) false) fun(x3:pt20)=>
 L.new [.string s_,.string s_,.slice none 0 0,.int .i64 0,.int .i64 0,.int .i64 0,.bool false] z0k fun b4=>
 L.store (⟨b4,0,none⟩) [.string x3.1,.string x3.2.1,Sv6 x3.2.2.1,.int .i64 x3.2.2.2.1,.int .i64 x3.2.2.2.2.1,.int .i64 x3.2.2.2.2.2.1,.bool x3.2.2.2.2.2.2.1]<|
 L.join (Y:=Unit) (fun k5=>
  L.ite p3 (
   L.ite (p2 == 0) (
    L.load eB6 (Ad6 b4 6) fun(x7:Bool)=>
    L.ite x7 (
     K (.int .i64 5))<|
    L.ite p3 (
     L.ite (p2 == 0) (
      K (.int .i64 0))<|
     L.load eB6 (Ad6 b4 6) fun(x8:Bool)=>
     L.ite (!x8) (
      K (.int .i64 6))<|
     L.load eI6 (Ad6 b4 4) fun(x9:Int)=>
     L.ite (x9 != p2) (
      K (.int .i64 7))<|
     k5 (()))<|
    L.load eB6 (Ad6 b4 6) fun(x10:Bool)=>
    L.ite (!x10) (
     K (.int .i64 6))<|
    L.load eI6 (Ad6 b4 4) fun(x11:Int)=>
    L.ite (x11 != p2) (
     K (.int .i64 7))<|
    k5 (()))<|
   L.ite p3 (
    L.ite (p2 == 0) (
     K (.int .i64 0))<|
    L.load eB6 (Ad6 b4 6) fun(x12:Bool)=>
    L.ite (!x12) (
     K (.int .i64 6))<|
    L.load eI6 (Ad6 b4 4) fun(x13:Int)=>
    L.ite (x13 != p2) (
     K (.int .i64 7))<|
    k5 (()))<|
   L.load eB6 (Ad6 b4 6) fun(x14:Bool)=>
   L.ite (!x14) (
    K (.int .i64 6))<|
   L.load eI6 (Ad6 b4 4) fun(x15:Int)=>
   L.ite (x15 != p2) (
    K (.int .i64 7))<|
   k5 (()))<|
  L.ite p3 (
   L.ite (p2 == 0) (
    K (.int .i64 0))<|
   L.load eB6 (Ad6 b4 6) fun(x16:Bool)=>
   L.ite (!x16) (
    K (.int .i64 6))<|
   L.load eI6 (Ad6 b4 4) fun(x17:Int)=>
   L.ite (x17 != p2) (
    K (.int .i64 7))<|
   k5 (()))<|
  L.load eB6 (Ad6 b4 6) fun(x18:Bool)=>
  L.ite (!x18) (
   K (.int .i64 6))<|
  L.load eI6 (Ad6 b4 4) fun(x19:Int)=>
  L.ite (x19 != p2) (
   K (.int .i64 7))<|
  k5 (())) fun z6=>
 K (.int .i64 0)
theorem z8r(p0:Option Addr)(p1:ByteArray)(p2:Int)(p3:Bool)(h:z58 p0 p1 p2 p3 K w):CV z3f [.v (.pointer p0),.v (.string p1),.v (.int .i64 p2),.v (.bool p3)] K w:=C_of Tryz.f144 z8w _ h
def z8v:Ann:=(.seq .auto (.seq .auto (.seq .auto .auto (some [])) none) none)
def z57(p0:Option Addr)(p1:ByteArray)(p2:ht2)(p3:Int)(K:Value→PT):PT:=
 L.new [.string p2.1,.string p2.2.1,Sv6 p2.2.2.1,.int .i64 p2.2.2.2.1] z0s fun b1=>
 L.nonnil p0 fun a2=>
 L.load (.one (.map)) (a2.add 0) fun(x3:Option Nat)=>
 L.semR Pr (.one (.agg lf10)) (Instr.lookup z0C (.map x3) (.string p1) false) fun(x4:pt20)=>
 L.new [.string s_,.string s_,.slice none 0 0,.int .i64 0,.int .i64 0,.int .i64 0,.bool false] z0k fun b5=>
 L.store (⟨b5,0,none⟩) [.string x4.1,.string x4.2.1,Sv6 x4.2.2.1,.int .i64 x4.2.2.2.1,.int .i64 x4.2.2.2.2.1,.int .i64 x4.2.2.2.2.2.1,.bool x4.2.2.2.2.2.2.1]<|
 L.join (Y:=Unit) (fun k6=>
  L.draw<|
  L.load eB6 (Ad6 b5 6) fun(x8:Bool)=>
  L.ite (!x8) (
   L.load eI6 (Ad6 b5 5) fun(x9:Int)=>
   L.store (Ad6 b5 5) [.int .i64 (IntKind.wrap .i64 (x9+1))]<|
   k6 (()))<|
  L.nonnil p0 fun a10=>
  L.load (.one (.func)) (a10.add 1) fun(x11:FV)=>
  L.load (.agg [.str,.str,.slice,.int .i64]) (Ad6 b5 0) fun(x12:pt3)=>
  L.load (.agg [.str,.str,.slice,.int .i64]) (⟨b1,0,none⟩) fun(x13:pt3)=>
  L.callV Pr (.func x11.fn x11.fs x11.cs) [.agg #[.string x12.1,.string x12.2.1,Sv6 x12.2.2.1,.int .i64 x12.2.2.2.1],.agg #[.string x13.1,.string x13.2.1,Sv6 x13.2.2.1,.int .i64 x13.2.2.2.1]] rB fun(x14:Bool)=>
  L.ite (!x14) (
   L.load eI6 (Ad6 b5 5) fun(x15:Int)=>
   L.store (Ad6 b5 5) [.int .i64 (IntKind.wrap .i64 (x15+1))]<|
   k6 (()))<|
  k6 (())) fun z7=>
 L.draw<|
 L.nonnil p0 fun a16=>
 L.load (.one (.map)) (a16.add 0) fun(x17:Option Nat)=>
 L.load (.agg [.str,.str,.slice,.int .i64]) (⟨b1,0,none⟩) fun(x18:pt3)=>
 L.load eI6 (Ad6 b5 5) fun(x19:Int)=>
 L.semU Pr (Instr.mapUpdate z0C (.map x17) (.string p1) (.agg #[.string x18.1,.string x18.2.1,Sv6 x18.2.2.1,.int .i64 x18.2.2.2.1,.int .i64 p3,.int .i64 x19,.bool true]))<|
 K (.tuple #[])
theorem z8q(p0:Option Addr)(p1:ByteArray)(p2:ht2)(p3:Int)(h:z57 p0 p1 p2 p3 K w):CV z3e [.v (.pointer p0),.v (.string p1),.ag (qc2 p2),.v (.int .i64 p3)] K w:=C_of Tryz.f145 z8v _ h
def zfU(p0:ht2)(K:Value→PT):PT:=
 L.new [.string p0.1,.string p0.2.1,Sv6 p0.2.2.1,.int .i64 p0.2.2.2.1] z0s fun b1=>
 L.new [.string s_,.string s_,.slice none 0 0,.int .i64 0] z0s fun b2=>
 L.load eL6 (Ad6 b1 2) fun(x3:Sl)=>
 L.call Pr z1J [Sv6 x3] rL fun(x4:Sl)=>
 L.store (Ad6 b1 2) [Sv6 x4]<|
 L.load (.agg [.str,.str,.slice,.int .i64]) (⟨b1,0,none⟩) fun(x5:pt3)=>
 L.store (⟨b2,0,none⟩) [.string x5.1,.string x5.2.1,Sv6 x5.2.2.1,.int .i64 x5.2.2.2.1]<|
 L.load (.agg [.str,.str,.slice,.int .i64]) (⟨b2,0,none⟩) fun(x6:pt3)=>
 K (.agg #[.string x6.1,.string x6.2.1,Sv6 x6.2.2.1,.int .i64 x6.2.2.2.1])
theorem zkz(p0:ht2)(h:zfU p0 K w):CV z9v [.ag (qc2 p0)] K w:=C_of Tryz.f146 .auto _ h
def z6Q(p0:Option Addr)(p1:ByteArray)(K:Value→PT):PT:=
 L.new [.slice none 0 0,.slice none 0 0] z02 fun b1=>
 L.nonnil p0 fun a2=>
 L.load eP6 (a2.add 2) fun(x3:Option Addr)=>
 L.call Pr z5z [.pointer x3,.string p1] (.tup [(.agg [.slice,.slice]),eB6]) fun(x4:(Sl×Sl×Unit)×Bool×Unit)=>
 L.store (⟨b1,0,none⟩) [Sv6 x4.1.1,Sv6 x4.1.2.1]<|
 L.load (.agg [.slice,.slice]) (⟨b1,0,none⟩) fun(x5:Sl×Sl×Unit)=>
 K (.tuple #[.agg #[Sv6 x5.1,Sv6 x5.2.1],.bool x4.2.1])
theorem zaU(p0:Option Addr)(p1:ByteArray)(h:z6Q p0 p1 K w):CV z6K [.v (.pointer p0),.v (.string p1)] K w:=C_of Tryz.f149 .auto _ h
def zjR:Ann:=(.seq .auto (.seq .auto (.seq (.seq .auto (.one [(1,(.one (.int .i64))),(14,(.one (.int .i64)))] .auto) none) .auto none) none) none)
def ze7(p0:HT [.slice,.slice])(p1:Int)(K:Value→PT):PT:=
 L.new [Sv6 p0.1,Sv6 p0.2.1] z02 fun b1=>
 L.guard (100≠(0:Int))<|
 L.guard (100≠(0:Int))<|
 L.load eL6 (Ad6 b1 0) fun(x2:Sl)=>
 L.loop (Y:=Int×Int×Unit) (Int.tmod (IntKind.wrap .i64 ((Int.tmod p1 100)+100)) 100,0,()) fun y3 again4=>
 L.ite (decide (y3.2.1<((x2.len:Nat):Int))) (
  L.idx x2.a y3.2.1 x2.len 2 fun a5=>
  L.load (.agg [.str,.int .i64]) a5 fun(x6:ByteArray×Int×Unit)=>
  L.new [.string s_,.int .i64 0] z0m fun b7=>
  L.store (⟨b7,0,none⟩) [.string x6.1,.int .i64 x6.2.1]<|
  L.load eI6 (Ad6 b7 1) fun(x8:Int)=>
  L.ite (decide (y3.1<x8)) (
   L.load eS6 (Ad6 b7 0) fun(x9:ByteArray)=>
   K (.string x9))<|
  L.load eI6 (Ad6 b7 1) fun(x10:Int)=>
  again4 (IntKind.wrap .i64 (y3.1-x10),IntKind.wrap .i64 (y3.2.1+1),()))<|
 K (.string s_)
theorem zjG(p0:HT [.slice,.slice])(p1:Int)(h:ze7 p0 p1 K w):CV zaq [.ag [.slice p0.1.a p0.1.len p0.1.cap,.slice p0.2.1.a p0.2.1.len p0.2.1.cap],.v (.int .i64 p1)] K w:=C_of Tryz.f150 zjR _ h
def zib:Ann:=(.seq .auto (.seq (.seq .auto (.one [(11,(.one (.int .i64)))] .auto) none) .auto none) none)
def zcL(p0:HT [.slice,.slice])(p1:ByteArray)(K:Value→PT):PT:=
 L.new [Sv6 p0.1,Sv6 p0.2.1] z02 fun b1=>
 L.load eL6 (Ad6 b1 1) fun(x2:Sl)=>
 L.loop (Y:=Int×Unit) (0,()) fun y3 again4=>
 L.ite (decide (y3.1<((x2.len:Nat):Int))) (
  L.idx x2.a y3.1 x2.len 2 fun a5=>
  L.load (.agg [.str,.str]) a5 fun(x6:ByteArray×ByteArray×Unit)=>
  L.new [.string s_,.string s_] z2J fun b7=>
  L.store (⟨b7,0,none⟩) [.string x6.1,.string x6.2.1]<|
  L.load eS6 (Ad6 b7 0) fun(x8:ByteArray)=>
  L.ite (x8.toList == p1.toList) (
   L.load eS6 (Ad6 b7 1) fun(x9:ByteArray)=>
   K (.tuple #[.string x9,.bool true]))<|
  again4 (IntKind.wrap .i64 (y3.1+1),()))<|
 K (.tuple #[.string s_,.bool false])
theorem zhT(p0:HT [.slice,.slice])(p1:ByteArray)(h:zcL p0 p1 K w):CV z9s [.ag [.slice p0.1.a p0.1.len p0.1.cap,.slice p0.2.1.a p0.2.1.len p0.2.1.cap],.v (.string p1)] K w:=C_of Tryz.f151 zib _ h
def z9Y(p0:Option Addr)(p1:Int)(K:Value→PT):PT:=
 L.nonnil p0 fun a1=>
 L.load (.one (.map)) (a1.add 1) fun(x2:Option Nat)=>
 L.semR Pr (.tup [(.agg [.str,.int .i64]),.one .bool]) (Instr.lookup z1p (.map x2) (.int .i64 p1) true) fun(x3:pt21)=>
 L.new [.string s_,.int .i64 0] z0S fun b4=>
 L.store (⟨b4,0,none⟩) [.string x3.1.1,.int .i64 x3.1.2.1]<|
 K (.bool x3.2.1)
theorem zez(p0:Option Addr)(p1:Int)(h:z9Y p0 p1 K w):CV z78 [.v (.pointer p0),.v (.int .i64 p1)] K w:=C_of Tryz.f152 .auto _ h
def zh6(p0:ByteArray)(K:Value→PT):PT:=
 L.new [.int .i64 0,.int .i64 0,.int .i64 0,.string s_] z0a fun b1=>
 L.store (⟨b1,0,none⟩) [.int .i64 0,.int .i64 4,.int .i64 0,.string p0]<|
 L.load (.agg [.int .i64,.int .i64,.int .i64,.str]) (⟨b1,0,none⟩) fun(x2:pt10)=>
 K (.agg #[.int .i64 x2.1,.int .i64 x2.2.1,.int .i64 x2.2.2.1,.string x2.2.2.2.1])
theorem zmH(p0:ByteArray)(h:zh6 p0 K w):CV z6w [.v (.string p0)] K w:=C_of Tryz.f153 .auto _ h
def zaK(p0:Option Addr)(p1:Int)(p2:ByteArray)(p3:ht3)(K:Value→PT):PT:=
 L.new [.int .i64 p3.1,.int .i64 p3.2.1,.int .i64 p3.2.2.1,.string p3.2.2.2.1] z0a fun b1=>
 L.new [.int .i64 0,.int .i64 0,.int .i64 0,.string s_] z0a fun b2=>
 L.store (Ad6 b1 0) [.int .i64 p1]<|
 L.draw<|
 L.nonnil p0 fun a3=>
 L.load (.one (.map)) (a3.add 1) fun(x4:Option Nat)=>
 L.load eI6 (Ad6 b1 1) fun(x5:Int)=>
 L.semU Pr (Instr.mapUpdate z1p (.map x4) (.int .i64 p1) (.agg #[.string p2,.int .i64 x5]))<|
 L.load (.agg [.int .i64,.int .i64,.int .i64,.str]) (⟨b1,0,none⟩) fun(x6:pt10)=>
 L.store (⟨b2,0,none⟩) [.int .i64 x6.1,.int .i64 x6.2.1,.int .i64 x6.2.2.1,.string x6.2.2.2.1]<|
 L.load (.agg [.int .i64,.int .i64,.int .i64,.str]) (⟨b2,0,none⟩) fun(x7:pt10)=>
 K (.agg #[.int .i64 x7.1,.int .i64 x7.2.1,.int .i64 x7.2.2.1,.string x7.2.2.2.1])
theorem zga(p0:Option Addr)(p1:Int)(p2:ByteArray)(p3:ht3)(h:zaK p0 p1 p2 p3 K w):CV z1w [.v (.pointer p0),.v (.int .i64 p1),.v (.string p2),.ag (qc3 p3)] K w:=C_of Tryz.f154 .auto _ h
def z9p:Ann:=(.seq .auto (.seq .auto .auto (some [])) none)
def z5N(p0:Option Addr)(p1:ByteArray)(K:Value→PT):PT:=
 L.join (Y:=Unit) (fun k1=>
  L.nonnil p0 fun a3=>
  L.load (.one (.map)) (a3.add 0) fun(x4:Option Nat)=>
  L.semR Pr (.tup [eP6,.one .bool]) (Instr.lookup z0I (.map x4) (.string p1) true) fun(x5:Option Addr×Bool×Unit)=>
  L.ite (!x5.2.1) (
   L.draw<|
   L.nonnil p0 fun a6=>
   L.load (.one (.map)) (a6.add 0) fun(x7:Option Nat)=>
   L.nonnil p0 fun a8=>
   L.load (.one (.func)) (a8.add 1) fun(x9:FV)=>
   L.callV Pr (.func x9.fn x9.fs x9.cs) [] rP fun(x10:Option Addr)=>
   L.chk (a6.add 0) [.map x7]<|
   L.semU Pr (Instr.mapUpdate z0I (.map x7) (.string p1) (.pointer x10))<|
   k1 (()))<|
  k1 (())) fun z2=>
 L.nonnil p0 fun a11=>
 L.load (.one (.map)) (a11.add 0) fun(x12:Option Nat)=>
 L.semR Pr rP (Instr.lookup z0I (.map x12) (.string p1) false) fun(x13:Option Addr)=>
 K (.pointer x13)
theorem z9o(p0:Option Addr)(p1:ByteArray)(h:z5N p0 p1 K w):CV z2E [.v (.pointer p0),.v (.string p1)] K w:=C_of Tryz.f155 z9p _ h
def zaF(p0:Option Addr)(K:Value→PT):PT:=
 L.nonnil p0 fun a1=>
 L.load eL6 ((a1.add 0).add 0) fun(x2:Sl)=>
 K (.int .i64 ((x2.len:Nat):Int))
theorem zg5(p0:Option Addr)(h:zaF p0 K w):CV z4y [.v (.pointer p0)] K w:=C_of Tryz.f156 .auto _ h
def z9W(p0:Option Addr)(p1:Int)(p2:ByteArray)(K:Value→PT):PT:=
 L.new [.int .i64 0,.int .i64 0,.int .i64 0,.string s_] z0a fun b1=>
 L.nonnil p0 fun a2=>
 L.load eP6 (a2.add 0) fun(x3:Option Addr)=>
 L.call Pr z66 [.pointer x3,.string p2,.int .i64 p1] (.tup [eI6,eB6]) fun(x4:Int×Bool×Unit)=>
 L.ite (!x4.2.1) (
  L.store (⟨b1,0,none⟩) [.int .i64 0,.int .i64 0,.int .i64 0,.string s_]<|
  L.load (.agg [.int .i64,.int .i64,.int .i64,.str]) (⟨b1,0,none⟩) fun(x5:pt10)=>
  K (.tuple #[.agg #[.int .i64 x5.1,.int .i64 x5.2.1,.int .i64 x5.2.2.1,.string x5.2.2.2.1],.bool false]))<|
 L.call Pr z1w [.pointer p0,.int .i64 p1,.string p2,.agg #[.int .i64 0,.int .i64 1,.int .i64 x4.1,.string s_]] (.one (.agg [.int .i64,.int .i64,.int .i64,.str])) fun(x6:pt10)=>
 L.store (⟨b1,0,none⟩) [.int .i64 x6.1,.int .i64 x6.2.1,.int .i64 x6.2.2.1,.string x6.2.2.2.1]<|
 L.load (.agg [.int .i64,.int .i64,.int .i64,.str]) (⟨b1,0,none⟩) fun(x7:pt10)=>
 K (.tuple #[.agg #[.int .i64 x7.1,.int .i64 x7.2.1,.int .i64 x7.2.2.1,.string x7.2.2.2.1],.bool true])
theorem zex(p0:Option Addr)(p1:Int)(p2:ByteArray)(h:z9W p0 p1 p2 K w):CV z5v [.v (.pointer p0),.v (.int .i64 p1),.v (.string p2)] K w:=C_of Tryz.f157 .auto _ h
def z9Q(p0:Option Addr)(p1 p2:Int)(K:Value→PT):PT:=
 L.nonnil p0 fun a1=>
 L.call Pr z5W [.pointer (some (a1.add 0)),.int .i64 p1] rB fun(x2:Bool)=>
 L.ite x2 (
  K (.int .i64 5))<|
 L.draw<|
 L.nonnil p0 fun a3=>
 L.load eI6 (a3.add 1) fun(x4:Int)=>
 L.call Pr z4y [.pointer p0] rI fun(x5:Int)=>
 L.chk (a3.add 1) [.int .i64 x4]<|
 L.ite (decide (x5≥x4)) (
  K (.int .i64 8))<|
 L.nonnil p0 fun a6=>
 L.load eL6 ((a6.add 0).add 0) fun(x7:Sl)=>
 L.new [.int .i64 p1,.int .i64 p2] z2z fun b8=>
 L.sem Pr (.one (.one .slice)) (Builtin.append_ #[z1o,z1o] z1o #[Sv6 x7,.slice (some ⟨b8,0,none⟩) 1 1]) fun(s9:Sl)=>
 L.nonnil p0 fun a10=>
 L.store ((a10.add 0).add 0) [Sv6 s9]<|
 K (.int .i64 0)
theorem zeq(p0:Option Addr)(p1 p2:Int)(h:z9Q p0 p1 p2 K w):CV z5u [.v (.pointer p0),.v (.int .i64 p1),.v (.int .i64 p2)] K w:=C_of Tryz.f158 .auto _ h
def zbD(p0:Sl)(K:Value→PT):PT:=
 L.new [Sv6 p0] z0d fun b1=>
 K (.func (.func z40) #[] #[.pointer (some (⟨b1,0,none⟩))])
theorem zgm(p0:Sl)(h:zbD p0 K w):CV zbw [.v (.slice p0.a p0.len p0.cap)] K w:=C_of Tryz.f159 .auto _ h
def z8S(p0:Option Addr)(p1:Int)(K:Value→PT):PT:=
 L.nonnil p0 fun a1=>
 L.load (.one (.map)) (a1.add 1) fun(x2:Option Nat)=>
 L.semR Pr (.tup [eI6,.one .bool]) (Instr.lookup z0K (.map x2) (.int .i64 p1) true) fun(x3:Int×Bool×Unit)=>
 L.ite (!x3.2.1) (
  K (.tuple #[.string s_,.int .i64 6]))<|
 L.nonnil p0 fun a4=>
 L.load (.one (.map)) (a4.add 0) fun(x5:Option Nat)=>
 L.semR Pr (.one (.agg [.str,.ptr])) (Instr.lookup z0x (.map x5) (.int .i64 x3.1) false) fun(x6:ByteArray×Option Addr×Unit)=>
 L.new [.string s_,.pointer none] z5D fun b7=>
 L.store (⟨b7,0,none⟩) [.string x6.1,.pointer x6.2.1]<|
 L.load eP6 (Ad6 b7 1) fun(x8:Option Addr)=>
 L.call Pr z6E [.pointer x8,.int .i64 p1] rI fun(x9:Int)=>
 L.nonnil p0 fun a10=>
 L.load (.one (.map)) (a10.add 1) fun(x11:Option Nat)=>
 L.sem Pr (.tup []) (Builtin.delete_ #[z0K,z0h] T_ #[.map x11,.int .i64 p1]) fun _=>
 L.call Pr z4T [.pointer p0,.int .i64 x3.1] (.tup []) fun(x12:Unit)=>
 L.load eS6 (Ad6 b7 0) fun(x13:ByteArray)=>
 K (.tuple #[.string x13,.int .i64 0])
theorem zdh(p0:Option Addr)(p1:Int)(h:z8S p0 p1 K w):CV z68 [.v (.pointer p0),.v (.int .i64 p1)] K w:=C_of Tryz.f160 .auto _ h
def zec(p0:Option Addr)(K:Value→PT):PT:=
 L.nonnil p0 fun a1=>
 L.load eI6 (a1.add 0) fun(x2:Int)=>
 L.ite (x2 != 1) (
  K (.int .i64 9))<|
 L.nonnil p0 fun a3=>
 L.store (a3.add 0) [.int .i64 2]<|
 K (.int .i64 0)
theorem zjL(p0:Option Addr)(h:zec p0 K w):CV zar [.v (.pointer p0)] K w:=C_of Tryz.f161 .auto _ h
def zgb:Ann:=(.seq .auto (.seq (.seq .auto (.seq .auto .auto (some [(9,(.one (.int .i64))),(10,(.one (.int .i64)))])) none) .auto none) none)
def zaE(p0:Option Addr)(K:Value→PT):PT:=
 L.new [.pointer p0] z3V fun b1=>
 L.new [.int .i64 0] z0h fun b2=>
 L.new [.bool false] z1U fun b3=>
 L.load eP6 (⟨b1,0,none⟩) fun(x4:Option Addr)=>
 L.nonnil x4 fun a5=>
 L.call Pr z2k [.pointer (some (a5.add 0))] (.one (.one (.func))) fun(x6:FV)=>
 L.range Pr none (.func x6.fn x6.fs x6.cs) [eI6,eI6] (fun l7(y8:Int×Int×Unit) R9=>
  L.begin Pr l7<|
  L.draw<|
  L.load eP6 (⟨b1,0,none⟩) fun(x12:Option Addr)=>
  L.load eP6 (⟨b1,0,none⟩) fun(x13:Option Addr)=>
  L.nonnil x13 fun a14=>
  L.load eL6 ((a14.add 0).add 0) fun(x15:Sl)=>
  L.guard (0≤(1:Int)∧(1:Int)≤((x15.len:Nat):Int)∧((x15.len:Nat):Int)≤((x15.cap:Nat):Int)∧((x15.cap:Nat):Int)≤x15.cap)<|
  L.nonnil x12 fun a16=>
  L.store ((a16.add 0).add 0) [.slice (if Int.toNat ((x15.cap:Nat):Int)=Int.toNat (1:Int)then x15.a else Option.map (fun a:Addr=>a.add (Int.toNat (1:Int)*2)) x15.a) (Int.toNat ((x15.len:Nat):Int)-Int.toNat (1:Int)) (Int.toNat ((x15.cap:Nat):Int)-Int.toNat (1:Int))]<|
  L.store (⟨b2,0,none⟩) [.int .i64 y8.1]<|
  L.store (⟨b3,0,none⟩) [.bool true]<|
  L.endRound Pr l7 (some .ret) R9) fun d10 j11=>
 L.jump j11 (
  L.store (⟨b2,0,none⟩) [.int .i64 0]<|
  L.store (⟨b3,0,none⟩) [.bool false]<|
  L.unmark Pr (d10++[])<|
  L.load eI6 (⟨b2,0,none⟩) fun(x17:Int)=>
  L.load eB6 (⟨b3,0,none⟩) fun(x18:Bool)=>
  K (.tuple #[.int .i64 x17,.bool x18])) (
  L.unmark Pr (d10++[])<|
  L.load eI6 (⟨b2,0,none⟩) fun(x19:Int)=>
  L.load eB6 (⟨b3,0,none⟩) fun(x20:Bool)=>
  K (.tuple #[.int .i64 x19,.bool x20])) []
theorem zg4(p0:Option Addr)(h:zaE p0 K w):CV z7O [.v (.pointer p0)] K w:=C_of Tryz.f162 zgb _ h
def z39(p0:Sl)(K:Value→PT):PT:=
 L.ite ((p0.a).isNone) (
  K (.slice none 0 0))<|
 L.new [] z0a fun b1=>
 L.sem Pr (.one (.one .slice)) (Builtin.append_ #[z0d,z0d] z0d #[.slice (some ⟨b1,0,none⟩) 0 0,Sv6 p0]) fun(s2:Sl)=>
 K (.slice s2.a s2.len s2.cap)
theorem z5P(p0:Sl)(h:z39 p0 K w):CV z1n [.v (.slice p0.a p0.len p0.cap)] K w:=C_of Tryz.f163 .auto _ h
def z9j(p0:Option Addr)(p1:Int)(K:Value→PT):PT:=
 L.nonnil p0 fun a1=>
 L.load (.one (.map)) (a1.add 0) fun(x2:Option Nat)=>
 L.semR Pr (.one (.agg [.str,.ptr])) (Instr.lookup z0x (.map x2) (.int .i64 p1) false) fun(x3:ByteArray×Option Addr×Unit)=>
 L.call Pr z1u [.pointer x3.2.1] rI fun(x4:Int)=>
 L.ite (x4 == 4) (
  L.nonnil p0 fun a5=>
  L.load (.one (.map)) (a5.add 0) fun(x6:Option Nat)=>
  L.sem Pr (.tup []) (Builtin.delete_ #[z0x,z0h] T_ #[.map x6,.int .i64 p1]) fun _=>
  K (.tuple #[]))<|
 K (.tuple #[])
theorem zdP(p0:Option Addr)(p1:Int)(h:z9j p0 p1 K w):CV z4T [.v (.pointer p0),.v (.int .i64 p1)] K w:=C_of Tryz.f165 .auto _ h
def z5a(p0:Option Addr)(K:Value→PT):PT:=
 L.new [.pointer p0] z0E fun b1=>
 K (.func (.func z1r) #[] #[.pointer (some (⟨b1,0,none⟩))])
theorem z8t(p0:Option Addr)(h:z5a p0 K w):CV z54 [.v (.pointer p0)] K w:=C_of Tryz.f166 .auto _ h
def z9R(p0:Option Addr)(p1:Int)(K:Value→PT):PT:=
 L.nonnil p0 fun a1=>
 L.call Pr z7N [.pointer (some (a1.add 0)),.int .i64 p1] rL fun(x2:Sl)=>
 K (.slice x2.a x2.len x2.cap)
theorem zer(p0:Option Addr)(p1:Int)(h:z9R p0 p1 K w):CV z73 [.v (.pointer p0),.v (.int .i64 p1)] K w:=C_of Tryz.f167 .auto _ h
def z9V(p0:Option Addr)(K:Value→PT):PT:=
 L.nonnil p0 fun a1=>
 L.load (.one (.map)) (a1.add 0) fun(x2:Option Nat)=>
 L.call Pr z1s [.map x2] rL fun(x3:Sl)=>
 L.call Pr z0Z [Sv6 x3] rL fun(x4:Sl)=>
 K (.slice x4.a x4.len x4.cap)
theorem zev(p0:Option Addr)(h:z9V p0 K w):CV z74 [.v (.pointer p0)] K w:=C_of Tryz.f168 .auto _ h
def z7n(p0:Option Addr)(p1:Int)(K:Value→PT):PT:=
 L.draw<|
 L.nonnil p0 fun a1=>
 L.load eI6 (a1.add 60) fun(x2:Int)=>
 L.guard (60≠(0:Int))<|
 L.nonnil p0 fun a3=>
 L.idx (some (a3.add 0)) (Int.tmod x2 60) 60 1 fun a4=>
 L.store a4 [.int .i64 p1]<|
 L.nonnil p0 fun a5=>
 L.load eI6 (a5.add 60) fun(x6:Int)=>
 L.nonnil p0 fun a7=>
 L.store (a7.add 60) [.int .i64 (IntKind.wrap .i64 (x6+1))]<|
 K (.tuple #[])
theorem zbq(p0:Option Addr)(p1:Int)(h:z7n p0 p1 K w):CV z5d [.v (.pointer p0),.v (.int .i64 p1)] K w:=C_of Tryz.f169 .auto _ h
def z4M(p0:Option Addr)(p1:ByteArray)(K:Value→PT):PT:=
 L.new [.string s_,.int .i64 0,.int .i64 0,.int .i64 0,.int .i64 0,.int .i64 0,.int .i64 0,.int .i64 0,.bool false] z0e fun b1=>
 L.nonnil p0 fun a2=>
 L.load (.one (.map)) (a2.add 0) fun(x3:Option Nat)=>
 L.semR Pr (.one (.agg lf9)) (Instr.lookup z0w (.map x3) (.string p1) false) fun(x4:pt19)=>
 L.new [.string s_,.int .i64 0,.int .i64 0,.int .i64 0,.int .i64 0,.int .i64 0,.int .i64 0,.int .i64 0,.bool false] z0e fun b5=>
 L.store (⟨b5,0,none⟩) [.string x4.1,.int .i64 x4.2.1,.int .i64 x4.2.2.1,.int .i64 x4.2.2.2.1,.int .i64 x4.2.2.2.2.1,.int .i64 x4.2.2.2.2.2.1,.int .i64 x4.2.2.2.2.2.2.1,.int .i64 x4.2.2.2.2.2.2.2.1,.bool x4.2.2.2.2.2.2.2.2.1]<|
 L.draw<|
 L.load (.agg lf9) (⟨b5,0,none⟩) fun(x6:pt19)=>
 L.load eB6 (Ad6 b5 8) fun(x7:Bool)=>
 L.store (⟨b1,0,none⟩) [.string x6.1,.int .i64 x6.2.1,.int .i64 x6.2.2.1,.int .i64 x6.2.2.2.1,.int .i64 x6.2.2.2.2.1,.int .i64 x6.2.2.2.2.2.1,.int .i64 x6.2.2.2.2.2.2.1,.int .i64 x6.2.2.2.2.2.2.2.1,.bool x6.2.2.2.2.2.2.2.2.1]<|
 L.chk (Ad6 b5 8) [.bool x7]<|
 L.load (.agg lf9) (⟨b1,0,none⟩) fun(x8:pt19)=>
 K (.tuple #[(qa5 x8),.bool x7])
theorem z8i(p0:Option Addr)(p1:ByteArray)(h:z4M p0 p1 K w):CV z2X [.v (.pointer p0),.v (.string p1)] K w:=C_of Tryz.f170 .auto _ h
def zfX(p0:ByteArray)(p1:Int)(K:Value→PT):PT:=
 L.call Pr z4D [.string p0] rB fun(x1:Bool)=>
 L.ite (!x1) (
  K (.string s_))<|
 L.ite (decide (p1<1)) (
  K (.string s_))<|
 L.ite (decide (p1>999999)) (
  K (.string s_))<|
 L.guard (((p0.size+s__.size:Nat):Int)≤maxI64)<|
 L.call Pr z4d [.int .i64 p1] rS fun(x2:ByteArray)=>
 L.guard ((((p0++s__).size+x2.size:Nat):Int)≤maxI64)<|
 K (.string ((p0++s__)++x2))
theorem zkC(p0:ByteArray)(p1:Int)(h:zfX p0 p1 K w):CV z9z [.v (.string p0),.v (.int .i64 p1)] K w:=C_of Tryz.f171 .auto _ h
def z59(p0:Option Addr)(p1:ByteArray)(K:Value→PT):PT:=
 L.new [.string s_,.string s_,.slice none 0 0,.int .i64 0,.int .i64 0,.int .i64 0,.bool false] z0k fun b1=>
 L.nonnil p0 fun a2=>
 L.load (.one (.map)) (a2.add 0) fun(x3:Option Nat)=>
 L.semR Pr (.one (.agg lf10)) (Instr.lookup z0C (.map x3) (.string p1) false) fun(x4:pt20)=>
 L.new [.string s_,.string s_,.slice none 0 0,.int .i64 0,.int .i64 0,.int .i64 0,.bool false] z0k fun b5=>
 L.store (⟨b5,0,none⟩) [.string x4.1,.string x4.2.1,Sv6 x4.2.2.1,.int .i64 x4.2.2.2.1,.int .i64 x4.2.2.2.2.1,.int .i64 x4.2.2.2.2.2.1,.bool x4.2.2.2.2.2.2.1]<|
 L.draw<|
 L.load (.agg lf10) (⟨b5,0,none⟩) fun(x6:pt20)=>
 L.load eB6 (Ad6 b5 6) fun(x7:Bool)=>
 L.store (⟨b1,0,none⟩) [.string x6.1,.string x6.2.1,Sv6 x6.2.2.1,.int .i64 x6.2.2.2.1,.int .i64 x6.2.2.2.2.1,.int .i64 x6.2.2.2.2.2.1,.bool x6.2.2.2.2.2.2.1]<|
 L.chk (Ad6 b5 6) [.bool x7]<|
 L.load (.agg lf10) (⟨b1,0,none⟩) fun(x8:pt20)=>
 K (.tuple #[(qa6 x8),.bool x7])
theorem z8s(p0:Option Addr)(p1:ByteArray)(h:z59 p0 p1 K w):CV z3g [.v (.pointer p0),.v (.string p1)] K w:=C_of Tryz.f172 .auto _ h
def zcV(p0:HT [.str,.str,.int .i64])(p1:ht2)(p2:Option Addr)(K:Value→PT):PT:=
 L.new [.string p0.1,.string p0.2.1,.int .i64 p0.2.2.1] z08 fun b1=>
 L.new [.string p1.1,.string p1.2.1,Sv6 p1.2.2.1,.int .i64 p1.2.2.2.1] z0s fun b2=>
 L.load eS6 (Ad6 b1 0) fun(x3:ByteArray)=>
 L.ite (x3.toList == s_.toList) (
  L.load eS6 (Ad6 b2 1) fun(x4:ByteArray)=>
  L.call Pr z5y [.pointer p2,.string x4] (.tup [eS6,eS6]) fun(x5:ByteArray×ByteArray×Unit)=>
  L.ite (x5.2.1.toList == s_.toList) (
   K (.tuple #[.string s_,.int .i64 9]))<|
  K (.tuple #[.string x5.2.1,.int .i64 0]))<|
 L.load eS6 (Ad6 b1 0) fun(x6:ByteArray)=>
 L.call Pr z42 [.pointer p2,.string x6] (.tup [(.agg lf4),eB6]) fun(x7:pt6)=>
 L.new [.string s_,.int .i64 0,.string s_,.int .i64 0,.int .i64 0,.int .i64 0,.int .i64 0,.int .i64 0] z0p fun b8=>
 L.store (⟨b8,0,none⟩) [.string x7.1.1,.int .i64 x7.1.2.1,.string x7.1.2.2.1,.int .i64 x7.1.2.2.2.1,.int .i64 x7.1.2.2.2.2.1,.int .i64 x7.1.2.2.2.2.2.1,.int .i64 x7.1.2.2.2.2.2.2.1,.int .i64 x7.1.2.2.2.2.2.2.2.1]<|
 L.ite (!x7.2.1) (
  K (.tuple #[.string s_,.int .i64 6]))<|
 L.load eS6 (Ad6 b1 0) fun(x9:ByteArray)=>
 L.call Pr z1K [.pointer p2,.string x9] rB fun(x10:Bool)=>
 L.ite (!x10) (
  K (.tuple #[.string s_,.int .i64 9]))<|
 L.load eS6 (Ad6 b1 0) fun(x11:ByteArray)=>
 K (.tuple #[.string x11,.int .i64 0])
theorem zi3(p0:HT [.str,.str,.int .i64])(p1:ht2)(p2:Option Addr)(h:zcV p0 p1 p2 K w):CV z9y [.ag [.string p0.1,.string p0.2.1,.int .i64 p0.2.2.1],.ag (qc2 p1),.v (.pointer p2)] K w:=C_of Tryz.f173 .auto _ h
def z5r(p0:Option Nat)(K:Value→PT):PT:=
 L.new [.map p0] z0L fun b1=>
 K (.func (.func z1v) #[] #[.pointer (some (⟨b1,0,none⟩))])
theorem z90(p0:Option Nat)(h:z5r p0 K w):CV z5o [.v (.map p0)] K w:=C_of Tryz.f174 .auto _ h
def z4o(p0:Option Nat)(K:Value→PT):PT:=
 L.new [.map p0] z0v fun b1=>
 K (.func (.func z1d) #[] #[.pointer (some (⟨b1,0,none⟩))])
theorem z7B(p0:Option Nat)(h:z4o p0 K w):CV z4l [.v (.map p0)] K w:=C_of Tryz.f175 .auto _ h
def zh4(p0:HT [.slice,.slice])(K:Value→PT):PT:=
 L.new [Sv6 p0.1,Sv6 p0.2.1] z02 fun b1=>
 L.new [.slice none 0 0,.slice none 0 0] z02 fun b2=>
 L.draw<|
 L.load eL6 (Ad6 b1 0) fun(x3:Sl)=>
 L.load eL6 (Ad6 b1 1) fun(x4:Sl)=>
 L.call Pr z0B [Sv6 x3] rL fun(x5:Sl)=>
 L.chk (Ad6 b1 1) [Sv6 x4]<|
 L.call Pr z1T [Sv6 x4] rL fun(x6:Sl)=>
 L.store (⟨b2,0,none⟩) [Sv6 x5,Sv6 x6]<|
 L.load (.agg [.slice,.slice]) (⟨b2,0,none⟩) fun(x7:Sl×Sl×Unit)=>
 K (.agg #[Sv6 x7.1,Sv6 x7.2.1])
theorem zmF(p0:HT [.slice,.slice])(h:zh4 p0 K w):CV z2l [.ag [.slice p0.1.a p0.1.len p0.1.cap,.slice p0.2.1.a p0.2.1.len p0.2.1.cap]] K w:=C_of Tryz.f176 .auto _ h
def zi9:Ann:=(.seq .auto (.seq (.seq .auto (.one [(2,(.one (.slice))),(11,(.one (.int .i64)))] .auto) none) (.seq (.seq .auto (.one [(3,(.one (.slice))),(28,(.one (.int .i64)))] .auto) none) .auto none) none) none)
def zcI(p0:HT [.slice,.slice])(K:Value→PT):PT:=
 L.new [Sv6 p0.1,Sv6 p0.2.1] z02 fun b1=>
 L.load eL6 (Ad6 b1 0) fun(x2:Sl)=>
 L.loop (Y:=Sl×Int×Unit) (⟨none,0,0⟩,0,()) fun y3 again4=>
 L.ite (decide (y3.2.1<((x2.len:Nat):Int))) (
  L.idx x2.a y3.2.1 x2.len 2 fun a5=>
  L.load (.agg [.str,.int .i64]) a5 fun(x6:ByteArray×Int×Unit)=>
  L.new [.string s_,.int .i64 0] z0m fun b7=>
  L.store (⟨b7,0,none⟩) [.string x6.1,.int .i64 x6.2.1]<|
  L.draw<|
  L.load eS6 (Ad6 b7 0) fun(x8:ByteArray)=>
  L.load eI6 (Ad6 b7 1) fun(x9:Int)=>
  L.call Pr z4d [.int .i64 x9] rS fun(x10:ByteArray)=>
  L.chk (Ad6 b7 0) [.string x8]<|
  L.new [.string x8,.string x10] z3n fun b11=>
  L.sem Pr (.one (.one .slice)) (Builtin.append_ #[z3q,z3q] z3q #[Sv6 y3.1,.slice (some ⟨b11,0,none⟩) 1 1]) fun(s12:Sl)=>
  again4 (⟨s12.a,s12.len,s12.cap⟩,IntKind.wrap .i64 (y3.2.1+1),()))<|
 L.load eL6 (Ad6 b1 1) fun(x13:Sl)=>
 L.loop (Y:=Sl×Int×Unit) (⟨none,0,0⟩,0,()) fun y14 again15=>
 L.ite (decide (y14.2.1<((x13.len:Nat):Int))) (
  L.idx x13.a y14.2.1 x13.len 2 fun a16=>
  L.load (.agg [.str,.str]) a16 fun(x17:ByteArray×ByteArray×Unit)=>
  L.new [.string s_,.string s_] z2J fun b18=>
  L.store (⟨b18,0,none⟩) [.string x17.1,.string x17.2.1]<|
  L.load eS6 (Ad6 b18 0) fun(x19:ByteArray)=>
  L.load eS6 (Ad6 b18 1) fun(x20:ByteArray)=>
  L.new [.string x19,.string x20] z3n fun b21=>
  L.sem Pr (.one (.one .slice)) (Builtin.append_ #[z3q,z3q] z3q #[Sv6 y14.1,.slice (some ⟨b21,0,none⟩) 1 1]) fun(s22:Sl)=>
  again15 (⟨s22.a,s22.len,s22.cap⟩,IntKind.wrap .i64 (y14.2.1+1),()))<|
 K (.tuple #[Sv6 y3.1,Sv6 y14.1])
theorem zhQ(p0:HT [.slice,.slice])(h:zcI p0 K w):CV z9q [.ag [.slice p0.1.a p0.1.len p0.1.cap,.slice p0.2.1.a p0.2.1.len p0.2.1.cap]] K w:=C_of Tryz.f177 zi9 _ h
def z5S:Ann:=(.seq .auto (.seq .auto (.seq (.seq .auto (.one [(13,(.one (.int .i64)))] .auto) none) .auto none) none) none)
def z38(p0 p1:Sl)(K:Value→PT):PT:=
 L.ite (((p0.len:Nat):Int) != ((p1.len:Nat):Int)) (
  K (.bool false))<|
 L.loop (Y:=Int×Unit) (0,()) fun y1 again2=>
 L.ite (decide (y1.1<((p0.len:Nat):Int))) (
  L.draw<|
  L.idx p0.a y1.1 p0.len 2 fun a3=>
  L.load (.agg [.str,.int .i64]) a3 fun(x4:ByteArray×Int×Unit)=>
  L.idx p1.a y1.1 p1.len 2 fun a5=>
  L.load (.agg [.str,.int .i64]) a5 fun(x6:ByteArray×Int×Unit)=>
  L.chkSem Pr (do eqGuard .neq z0m (.tmp 0) (.tmp 0) (.agg #[.string x4.1,.int .i64 x4.2.1]) (.agg #[.string x6.1,.int .i64 x6.2.1]);binOp .neq z0m (.agg #[.string x4.1,.int .i64 x4.2.1]) (.agg #[.string x6.1,.int .i64 x6.2.1])) (.bool (!((x4.1 == x6.1)&&((x4.2.1 == x6.2.1)&&true))))<|
  L.ite (!((x4.1 == x6.1)&&((x4.2.1 == x6.2.1)&&true))) (
   K (.bool false))<|
  again2 (IntKind.wrap .i64 (y1.1+1),()))<|
 K (.bool true)
theorem z5O(p0 p1:Sl)(h:z38 p0 p1 K w):CV z1m [.v (.slice p0.a p0.len p0.cap),.v (.slice p1.a p1.len p1.cap)] K w:=C_of Tryz.f178 z5S _ h
def zig:Ann:=(.seq .auto (.seq (.seq .auto .auto (some [(18,(.one (.bool)))])) (.seq .auto (.seq .auto (.seq .auto (.seq (.seq .auto (.one [(11,(.one (.int .i64))),(42,(.one (.int .i64)))] (.seq .auto (.seq .auto (.seq .auto .auto (some [(11,(.one (.int .i64)))])) none) none)) none) (.seq .auto (.seq (.seq .auto (.one [(11,(.one (.int .i64))),(14,(.one (.slice))),(77,(.one (.int .i64)))] (.seq .auto (.seq .auto (.seq (.seq .auto (.seq .auto (.seq .auto .auto (some [(11,(.one (.int .i64)))])) none) none) .auto (some [(11,(.one (.int .i64))),(14,(.one (.slice)))])) none) none)) none) .auto none) none) none) none) none) none) none) none)
def zcS(p0 p1:Sl)(p2 p3:Int)(K:Value→PT):PT:=
 L.join (Y:=Bool×Unit) (fun k1=>
  L.ite (decide (p3≤0)) (
   k1 (true,()))<|
  k1 (decide (p2≥p3),())) fun z2=>
 L.ite z2.1 (
  L.call Pr z0B [Sv6 p1] rL fun(x3:Sl)=>
  K (.slice x3.a x3.len x3.cap))<|
 L.ite (decide (p2≤0)) (
  L.call Pr z0B [Sv6 p0] rL fun(x4:Sl)=>
  K (.slice x4.a x4.len x4.cap))<|
 L.new [Sv6 p0,Sv6 p1] z0F fun b5=>
 L.call Pr z2x [.func (.func zb7) #[] #[],.slice (some ⟨b5,0,none⟩) 2 2] rL fun(x6:Sl)=>
 L.sem Pr (.one (.one .slice)) (Instr.makeSlice z1b (.int .i64 ((x6.len:Nat):Int)) (.int .i64 ((x6.len:Nat):Int))) fun(s7:Sl)=>
 L.loop (Y:=Int×Int×Unit) (0,0,()) fun y8 again9=>
 L.ite (decide (y8.2.1<((x6.len:Nat):Int))) (
  L.join (Y:=Int×Unit) (fun k10=>
   L.draw<|
   L.idx x6.a y8.2.1 x6.len 1 fun a12=>
   L.load eS6 a12 fun(x13:ByteArray)=>
   L.idx x6.a y8.2.1 x6.len 1 fun a14=>
   L.load eS6 a14 fun(x15:ByteArray)=>
   L.call Pr z4S [Sv6 p1,.string x13] rI fun(x16:Int)=>
   L.chk a14 [.string x15]<|
   L.call Pr z4S [Sv6 p0,.string x15] rI fun(x17:Int)=>
   L.ite (decide ((IntKind.wrap .i64 (x16-x17))>0)) (
    L.guard (p3≠(0:Int))<|
    L.idx s7.a y8.2.1 s7.len 1 fun a18=>
    L.store a18 [.int .i64 (IntKind.wrap .i64 (Int.tdiv (IntKind.wrap .i64 ((IntKind.wrap .i64 (x16-x17))*p2)) p3))]<|
    L.idx s7.a y8.2.1 s7.len 1 fun a19=>
    L.load eI6 a19 fun(x20:Int)=>
    k10 (IntKind.wrap .i64 (y8.1+x20),()))<|
   k10 (y8.1,())) fun z11=>
  again9 (z11.1,IntKind.wrap .i64 (y8.2.1+1),()))<|
 L.loop (Y:=Int×Sl×Int×Unit) (y8.1,⟨none,0,0⟩,0,()) fun y21 again22=>
 L.ite (decide (y21.2.2.1<((x6.len:Nat):Int))) (
  L.join (Y:=Int×Sl×Unit) (fun k23=>
   L.idx x6.a y21.2.2.1 x6.len 1 fun a25=>
   L.load eS6 a25 fun(x26:ByteArray)=>
   L.call Pr z4S [Sv6 p0,.string x26] rI fun(x27:Int)=>
   L.join (Y:=Int×Unit) (fun k28=>
    L.idx x6.a y21.2.2.1 x6.len 1 fun a30=>
    L.load eS6 a30 fun(x31:ByteArray)=>
    L.call Pr z4S [Sv6 p1,.string x31] rI fun(x32:Int)=>
    L.ite (decide ((IntKind.wrap .i64 (x27-x32))>0)) (
     L.idx s7.a y21.2.2.1 s7.len 1 fun a33=>
     L.store a33 [.int .i64 (IntKind.wrap .i64 (0-(if y21.1<(IntKind.wrap .i64 (x27-x32))then y21.1 else(IntKind.wrap .i64 (x27-x32)))))]<|
     L.idx s7.a y21.2.2.1 s7.len 1 fun a34=>
     L.load eI6 a34 fun(x35:Int)=>
     k28 (IntKind.wrap .i64 (y21.1+x35),()))<|
    k28 (y21.1,())) fun z29=>
   L.idx s7.a y21.2.2.1 s7.len 1 fun a36=>
   L.load eI6 a36 fun(x37:Int)=>
   L.ite (decide ((IntKind.wrap .i64 (x27+x37))>0)) (
    L.idx x6.a y21.2.2.1 x6.len 1 fun a38=>
    L.load eS6 a38 fun(x39:ByteArray)=>
    L.new [.string x39,.int .i64 (IntKind.wrap .i64 (x27+x37))] z0m fun b40=>
    L.sem Pr (.one (.one .slice)) (Builtin.append_ #[z0F,z0F] z0F #[Sv6 y21.2.1,.slice (some ⟨b40,0,none⟩) 1 1]) fun(s41:Sl)=>
    k23 (z29.1,⟨s41.a,s41.len,s41.cap⟩,()))<|
   k23 (z29.1,⟨y21.2.1.a,y21.2.1.len,y21.2.1.cap⟩,())) fun z24=>
  again22 (z24.1,⟨z24.2.1.a,z24.2.1.len,z24.2.1.cap⟩,IntKind.wrap .i64 (y21.2.2.1+1),()))<|
 L.call Pr z0B [Sv6 y21.2.1] rL fun(x42:Sl)=>
 K (.slice x42.a x42.len x42.cap)
theorem zi0(p0 p1:Sl)(p2 p3:Int)(h:zcS p0 p1 p2 p3 K w):CV z9w [.v (.slice p0.a p0.len p0.cap),.v (.slice p1.a p1.len p1.cap),.v (.int .i64 p2),.v (.int .i64 p3)] K w:=C_of Tryz.f179 zig _ h
def zeO:Ann:=(.seq .auto (.seq .auto (.seq (.seq .auto (.seq .auto .auto (some [(11,(.one (.int .i64))),(12,(.one (.ptr)))])) none) .auto none) none) none)
def za2(p0:Option Addr)(p1:ByteArray)(K:Value→PT):PT:=
 L.new [.int .i64 0] z0h fun b1=>
 L.store (⟨b1,0,none⟩) [.int .i64 0]<|
 L.call Pr z3i [.pointer p0,.string p1] (.one (.one (.func))) fun(x2:FV)=>
 L.range Pr none (.func x2.fn x2.fs x2.cs) [eI6,eP6] (fun l3(y4:Int×Option Addr×Unit) R5=>
  L.begin Pr l3<|
  L.call Pr z1u [.pointer y4.2.1] rI fun(x8:Int)=>
  L.ite (x8 != 3) (
   L.load eI6 (⟨b1,0,none⟩) fun(x9:Int)=>
   L.store (⟨b1,0,none⟩) [.int .i64 (IntKind.wrap .i64 (x9+1))]<|
   L.endRound Pr l3 none R5)<|
  L.endRound Pr l3 none R5) fun d6 j7=>
 L.jump j7 (
  L.load eI6 (⟨b1,0,none⟩) fun(x10:Int)=>
  L.unmark Pr (d6++[])<|
  K (.int .i64 x10)) (
  L.unmark Pr (d6++[])<|
  K (.int .i64 0)) []
theorem zeD(p0:Option Addr)(p1:ByteArray)(h:za2 p0 p1 K w):CV z7b [.v (.pointer p0),.v (.string p1)] K w:=C_of Tryz.f185 zeO _ h
def zjA(p0:Int)(K:Value→PT):PT:=
 L.sem Pr (.one (.one .map)) (Instr.makeMap z2O none) fun(m1:Option Nat)=>
 L.new [.int .i64 1,.map m1,.int .i64 p0] zaD fun b2=>
 K (.pointer (some (⟨b2,0,none⟩)))
theorem zov(p0:Int)(h:zjA p0 K w):CV zfp [.v (.int .i64 p0)] K w:=C_of Tryz.f186 .auto _ h
def zci:Ann:=(.seq .auto (.seq .auto (.seq (.seq .auto (.seq .auto (.seq .auto (.seq .auto (.cond .auto .auto) none) none) (some [(13,(.one (.int .i64))),(14,(.one (.ptr)))])) none) .auto none) none) none)
def z87(p0:Option Addr)(p1:ByteArray)(K:Value→PT):PT:=
 L.new [.int .i64 0] z0h fun b1=>
 L.new [.int .i64 0] z0h fun b2=>
 L.new [.int .i64 0] z0h fun b3=>
 L.store (⟨b1,0,none⟩) [.int .i64 0]<|
 L.store (⟨b2,0,none⟩) [.int .i64 3]<|
 L.store (⟨b3,0,none⟩) [.int .i64 0]<|
 L.call Pr z3i [.pointer p0,.string p1] (.one (.one (.func))) fun(x4:FV)=>
 L.range Pr none (.func x4.fn x4.fs x4.cs) [eI6,eP6] (fun l5(y6:Int×Option Addr×Unit) R7=>
  L.begin Pr l5<|
  L.call Pr z1u [.pointer y6.2.1] rI fun(x10:Int)=>
  L.ite (x10 == 3) (
   L.endRound Pr l5 none R7)<|
  L.draw<|
  L.load eI6 (⟨b2,0,none⟩) fun(x11:Int)=>
  L.call Pr z1u [.pointer y6.2.1] rI fun(x12:Int)=>
  L.chk (⟨b2,0,none⟩) [.int .i64 x11]<|
  L.ite (decide (x12<x11)) (
   L.call Pr z1u [.pointer y6.2.1] rI fun(x13:Int)=>
   L.call Pr z2q [.pointer y6.2.1] rI fun(x14:Int)=>
   L.store (⟨b1,0,none⟩) [.int .i64 y6.1]<|
   L.store (⟨b2,0,none⟩) [.int .i64 x13]<|
   L.store (⟨b3,0,none⟩) [.int .i64 x14]<|
   L.endRound Pr l5 none R7)<|
  L.load eI6 (⟨b2,0,none⟩) fun(x15:Int)=>
  L.call Pr z1u [.pointer y6.2.1] rI fun(x16:Int)=>
  L.chk (⟨b2,0,none⟩) [.int .i64 x15]<|
  L.ite (x16 == x15) (
   L.load eI6 (⟨b3,0,none⟩) fun(x17:Int)=>
   L.call Pr z2q [.pointer y6.2.1] rI fun(x18:Int)=>
   L.chk (⟨b3,0,none⟩) [.int .i64 x17]<|
   L.ite (decide (x18≤x17)) (
    L.call Pr z1u [.pointer y6.2.1] rI fun(x19:Int)=>
    L.call Pr z2q [.pointer y6.2.1] rI fun(x20:Int)=>
    L.store (⟨b1,0,none⟩) [.int .i64 y6.1]<|
    L.store (⟨b2,0,none⟩) [.int .i64 x19]<|
    L.store (⟨b3,0,none⟩) [.int .i64 x20]<|
    L.endRound Pr l5 none R7)<|
   L.endRound Pr l5 none R7)<|
  L.endRound Pr l5 none R7) fun d8 j9=>
 L.jump j9 (
  L.load eI6 (⟨b1,0,none⟩) fun(x21:Int)=>
  L.unmark Pr (d8++[])<|
  K (.int .i64 x21)) (
  L.unmark Pr (d8++[])<|
  K (.int .i64 0)) []
theorem zcb(p0:Option Addr)(p1:ByteArray)(h:z87 p0 p1 K w):CV z5A [.v (.pointer p0),.v (.string p1)] K w:=C_of Tryz.f187 zci _ h
def zgd:Ann:=(.seq .auto (.seq (.seq .auto (.cond .auto .auto) none) .auto (some [])) none)
def zaJ(p0:Option Addr)(K:Value→PT):PT:=
 L.join (Y:=Unit) (fun k1=>
  L.nonnil p0 fun a3=>
  L.load eI6 (a3.add 0) fun(x4:Int)=>
  L.ite (x4 != 1) (
   L.nonnil p0 fun a5=>
   L.load eI6 (a5.add 0) fun(x6:Int)=>
   L.ite (x6 != 2) (
    K (.int .i64 9))<|
   k1 (()))<|
  k1 (())) fun z2=>
 L.nonnil p0 fun a7=>
 L.store (a7.add 0) [.int .i64 3]<|
 L.call Pr z7t [.pointer p0] (.tup []) fun(x8:Unit)=>
 K (.int .i64 0)
theorem zg9(p0:Option Addr)(h:zaJ p0 K w):CV z7R [.v (.pointer p0)] K w:=C_of Tryz.f188 zgd _ h
def z7Y(p0:Option Addr)(K:Value→PT):PT:=
 L.new [.pointer p0] z48 fun b1=>
 K (.func (.func z2w) #[] #[.pointer (some (⟨b1,0,none⟩))])
theorem zc4(p0:Option Addr)(h:z7Y p0 K w):CV z2k [.v (.pointer p0)] K w:=C_of Tryz.f191 .auto _ h
def zdp:Ann:=(.seq .auto (.one [(14,(.one (.int .i64)))] (.seq .auto (.seq .auto (.seq (.seq .auto (.seq .auto (.seq .auto (.cond .auto .auto) none) none) none) .auto (some [])) none) none)) none)
def z8P(p0:FV)(c0:Addr)(c1:Addr)(K:Value→PT):PT:=
 L.load eP6 c0 fun(x1:Option Addr)=>
 L.nonnil x1 fun a2=>
 L.load (.one (.map)) (a2.add 0) fun(x3:Option Nat)=>
 L.call Pr z1g [.map x3] (.one (.one (.func))) fun(x4:FV)=>
 L.call Pr z3K [.func x4.fn x4.fs x4.cs] rL fun(x5:Sl)=>
 L.loop (Y:=Int×Unit) (0,()) fun y6 again7=>
 L.ite (decide (y6.1<((x5.len:Nat):Int))) (
  L.join (Y:=Unit) (fun k8=>
   L.idx x5.a y6.1 x5.len 1 fun a10=>
   L.load eI6 a10 fun(x11:Int)=>
   L.load eP6 c0 fun(x12:Option Addr)=>
   L.nonnil x12 fun a13=>
   L.load (.one (.map)) (a13.add 0) fun(x14:Option Nat)=>
   L.semR Pr (.one (.agg [.str,.ptr])) (Instr.lookup z0x (.map x14) (.int .i64 x11) false) fun(x15:ByteArray×Option Addr×Unit)=>
   L.new [.string s_,.pointer none] z5D fun b16=>
   L.store (⟨b16,0,none⟩) [.string x15.1,.pointer x15.2.1]<|
   L.load eS6 (Ad6 b16 0) fun(x17:ByteArray)=>
   L.load eS6 c1 fun(x18:ByteArray)=>
   L.ite (x17.toList == x18.toList) (
    L.load eP6 (Ad6 b16 1) fun(x19:Option Addr)=>
    L.callV Pr (.func p0.fn p0.fs p0.cs) [.int .i64 x11,.pointer x19] rB fun(x20:Bool)=>
    L.ite (!x20) (
     K (.tuple #[]))<|
    k8 (()))<|
   k8 (())) fun z9=>
  again7 (IntKind.wrap .i64 (y6.1+1),()))<|
 K (.tuple #[])
theorem zde(p0:FV)(c0 c1:Addr)(h:z8P p0 c0 c1 K w):CV z3k [.v (.func p0.fn p0.fs p0.cs),.v (.pointer (some c0)),.v (.pointer (some c1))] K w:=C_of Tryz.f192 zdp _ h
theorem zd2:Enters Pr z3k:=z0j (by kernel_rfl)
def z83(p0:FV)(K:Value→PT):PT:=
 L.call Pr z7g [.func p0.fn p0.fs p0.cs] rL fun(x1:Sl)=>
 L.call Pr z4C [Sv6 x1] (.tup []) fun(x2:Unit)=>
 K (.slice x1.a x1.len x1.cap)
theorem zc8(p0:FV)(h:z83 p0 K w):CV z3K [.v (.func p0.fn p0.fs p0.cs)] K w:=C_of Tryz.f193 .auto _ h
def z1X(p0:Option Nat)(K:Value→PT):PT:=
 L.new [.map p0] z0x fun b1=>
 K (.func (.func z0o) #[] #[.pointer (some (⟨b1,0,none⟩))])
theorem z3Y(p0:Option Nat)(h:z1X p0 K w):CV z1g [.v (.map p0)] K w:=C_of Tryz.f194 .auto _ h
def z2c:Ann:=(.seq .auto (.seq .auto (.seq (.seq .auto (.one [(17,(.one (.int .i64)))] .auto) none) .auto none) none) none)
def z0Y(p0 p1:Sl)(p2:FV)(K:Value→PT):PT:=
 L.ite (((p0.len:Nat):Int) != ((p1.len:Nat):Int)) (
  K (.bool false))<|
 L.loop (Y:=Int×Unit) (0,()) fun y1 again2=>
 L.ite (decide (y1.1<((p0.len:Nat):Int))) (
  L.idx p0.a y1.1 p0.len 3 fun a3=>
  L.load (.agg [.str,.str,.int .i64]) a3 fun(x4:pt9)=>
  L.new [.string s_,.string s_,.int .i64 0] z08 fun b5=>
  L.store (⟨b5,0,none⟩) [.string x4.1,.string x4.2.1,.int .i64 x4.2.2.1]<|
  L.idx p1.a y1.1 p1.len 3 fun a6=>
  L.load (.agg [.str,.str,.int .i64]) a6 fun(x7:pt9)=>
  L.new [.string s_,.string s_,.int .i64 0] z08 fun b8=>
  L.store (⟨b8,0,none⟩) [.string x7.1,.string x7.2.1,.int .i64 x7.2.2.1]<|
  L.load (.agg [.str,.str,.int .i64]) (⟨b5,0,none⟩) fun(x9:pt9)=>
  L.load (.agg [.str,.str,.int .i64]) (⟨b8,0,none⟩) fun(x10:pt9)=>
  L.callV Pr (.func p2.fn p2.fs p2.cs) [.agg #[.string x9.1,.string x9.2.1,.int .i64 x9.2.2.1],.agg #[.string x10.1,.string x10.2.1,.int .i64 x10.2.2.1]] rB fun(x11:Bool)=>
  L.ite (!x11) (
   K (.bool false))<|
  again2 (IntKind.wrap .i64 (y1.1+1),()))<|
 K (.bool true)
theorem z2b(p0 p1:Sl)(p2:FV)(h:z0Y p0 p1 p2 K w):CV z0G [.v (.slice p0.a p0.len p0.cap),.v (.slice p1.a p1.len p1.cap),.v (.func p2.fn p2.fs p2.cs)] K w:=C_of Tryz.f202 z2c _ h
def zfT(p0 p1:HT [.str,.str,.int .i64])(K:Value→PT):PT:=
 L.new [.string p0.1,.string p0.2.1,.int .i64 p0.2.2.1] z08 fun b1=>
 L.new [.string p1.1,.string p1.2.1,.int .i64 p1.2.2.1] z08 fun b2=>
 L.load (.agg [.str,.str,.int .i64]) (⟨b1,0,none⟩) fun(x3:pt9)=>
 L.load (.agg [.str,.str,.int .i64]) (⟨b2,0,none⟩) fun(x4:pt9)=>
 L.chkSem Pr (do eqGuard .eql z08 (.tmp 0) (.tmp 0) (.agg #[.string x3.1,.string x3.2.1,.int .i64 x3.2.2.1]) (.agg #[.string x4.1,.string x4.2.1,.int .i64 x4.2.2.1]);binOp .eql z08 (.agg #[.string x3.1,.string x3.2.1,.int .i64 x3.2.2.1]) (.agg #[.string x4.1,.string x4.2.1,.int .i64 x4.2.2.1])) (.bool ((x3.1 == x4.1)&&((x3.2.1 == x4.2.1)&&((x3.2.2.1 == x4.2.2.1)&&true))))<|
 K (.bool ((x3.1 == x4.1)&&((x3.2.1 == x4.2.1)&&((x3.2.2.1 == x4.2.2.1)&&true))))
theorem zky(p0 p1:HT [.str,.str,.int .i64])(h:zfT p0 p1 K w):CV z7Q [.ag [.string p0.1,.string p0.2.1,.int .i64 p0.2.2.1],.ag [.string p1.1,.string p1.2.1,.int .i64 p1.2.2.1]] K w:=C_of Tryz.f203 .auto _ h
theorem zkw:Enters Pr z7Q:=z0j (by kernel_rfl)
def z5q(p0:Sl)(K:Value→PT):PT:=
 L.new [Sv6 p0] z0O fun b1=>
 K (.func (.func z1t) #[] #[.pointer (some (⟨b1,0,none⟩))])
theorem z8Z(p0:Sl)(h:z5q p0 K w):CV z5n [.v (.slice p0.a p0.len p0.cap)] K w:=C_of Tryz.f204 .auto _ h
def zkH:Ann:=(.seq .auto (.seq .auto (.seq (.seq .auto (.seq .auto .auto (some [(7,(.one (.slice)))])) none) .auto none) none) none)
def zg0(p0:Sl)(K:Value→PT):PT:=
 L.new [.slice none 0 0] z0O fun b1=>
 L.call Pr z8U [Sv6 p0] (.one (.one (.func))) fun(x2:FV)=>
 L.range Pr none (.func x2.fn x2.fs x2.cs) [eL6] (fun l3(y4:Sl×Unit) R5=>
  L.begin Pr l3<|
  L.load eL6 (⟨b1,0,none⟩) fun(x8:Sl)=>
  L.new [Sv6 y4.1] z2j fun b9=>
  L.sem Pr (.one (.one .slice)) (Builtin.append_ #[z0O,z0O] z0O #[Sv6 x8,.slice (some ⟨b9,0,none⟩) 1 1]) fun(s10:Sl)=>
  L.store (⟨b1,0,none⟩) [Sv6 s10]<|
  L.endRound Pr l3 none R5) fun d6 j7=>
 L.jump j7 (
  L.load eL6 (⟨b1,0,none⟩) fun(x11:Sl)=>
  L.call Pr z3w [Sv6 x11] rL fun(x12:Sl)=>
  L.unmark Pr (d6++[])<|
  K (.slice x12.a x12.len x12.cap)) (
  L.unmark Pr (d6++[])<|
  K (.slice none 0 0)) []
theorem zkF(p0:Sl)(h:zg0 p0 K w):CV zbW [.v (.slice p0.a p0.len p0.cap)] K w:=C_of Tryz.f205 zkH _ h
def zik:Ann:=(.seq .auto (.seq .auto (.seq .auto (.seq .auto (.seq .auto (.seq .auto (.seq .auto (.seq .auto (.seq .auto (.seq .auto (.seq .auto .auto (some [])) (some [])) (some [])) (some [])) (some [])) (some [])) none) none) none) none) none)
def zcZ(p0:Sl)(K:Value→PT):PT:=
 L.new [.int .i64 0,.string s_,.string s_,.int .i64 0,.int .i64 0,.string s_,.int .i64 0,.int .i64 0,.int .i64 0,.int .i64 0,.int .i64 0,.string s_,.string s_,.slice none 0 0,.int .i64 0] z0c fun b1=>
 L.new [Sv6 p0,.bool false] zbz fun b2=>
 L.call Pr z2y [.pointer (some (⟨b2,0,none⟩)),.int .i64 1] rI fun(x3:Int)=>
 L.new [.int .i64 0,.string s_,.string s_,.int .i64 0,.int .i64 0,.string s_,.int .i64 0,.int .i64 0,.int .i64 0,.int .i64 0,.int .i64 0,.string s_,.string s_,.slice none 0 0,.int .i64 0] z0c fun b4=>
 L.store (⟨b4,0,none⟩) [.int .i64 x3,.string s_,.string s_,.int .i64 0,.int .i64 0,.string s_,.int .i64 0,.int .i64 0,.int .i64 0,.int .i64 0,.int .i64 0,.string s_,.string s_,.slice none 0 0,.int .i64 0]<|
 L.load eI6 (Ad6 b4 0) fun(x5:Int)=>
 L.call Pr z7v [.int .i64 x5] (.tup [(.agg lf3),eB6]) fun(x6:pt2)=>
 L.new [.bool false,.bool false,.bool false,.bool false,.bool false,.bool false] z3r fun b7=>
 L.store (⟨b7,0,none⟩) [.bool x6.1.1,.bool x6.1.2.1,.bool x6.1.2.2.1,.bool x6.1.2.2.2.1,.bool x6.1.2.2.2.2.1,.bool x6.1.2.2.2.2.2.1]<|
 L.nonnil (some (⟨b2,0,none⟩)) fun a8=>
 L.load eB6 (a8.add 1) fun(x9:Bool)=>
 L.ite x9 (
  L.store (⟨b1,0,none⟩) [.int .i64 0,.string s_,.string s_,.int .i64 0,.int .i64 0,.string s_,.int .i64 0,.int .i64 0,.int .i64 0,.int .i64 0,.int .i64 0,.string s_,.string s_,.slice none 0 0,.int .i64 0]<|
  L.load (.agg lf1) (⟨b1,0,none⟩) fun(x10:pt1)=>
  K (.tuple #[(qa1 x10),.int .i64 10]))<|
 L.ite (!x6.2.1) (
  L.store (⟨b1,0,none⟩) [.int .i64 0,.string s_,.string s_,.int .i64 0,.int .i64 0,.string s_,.int .i64 0,.int .i64 0,.int .i64 0,.int .i64 0,.int .i64 0,.string s_,.string s_,.slice none 0 0,.int .i64 0]<|
  L.load (.agg lf1) (⟨b1,0,none⟩) fun(x11:pt1)=>
  K (.tuple #[(qa1 x11),.int .i64 12]))<|
 L.join (Y:=Unit) (fun k12=>
  L.load eB6 (Ad6 b7 0) fun(x14:Bool)=>
  L.ite x14 (
   L.call Pr z2y [.pointer (some (⟨b2,0,none⟩)),.int .i64 4] rI fun(x15:Int)=>
   L.store (Ad6 b4 3) [.int .i64 x15]<|
   k12 (()))<|
  k12 (())) fun z13=>
 L.join (Y:=Unit) (fun k16=>
  L.load eB6 (Ad6 b7 1) fun(x18:Bool)=>
  L.ite x18 (
   L.call Pr z7S [.pointer (some (⟨b2,0,none⟩))] rS fun(x19:ByteArray)=>
   L.store (Ad6 b4 1) [.string x19]<|
   k16 (()))<|
  k16 (())) fun z17=>
 L.join (Y:=Unit) (fun k20=>
  L.load eB6 (Ad6 b7 2) fun(x22:Bool)=>
  L.ite x22 (
   L.call Pr z7S [.pointer (some (⟨b2,0,none⟩))] rS fun(x23:ByteArray)=>
   L.store (Ad6 b4 2) [.string x23]<|
   k20 (()))<|
  k20 (())) fun z21=>
 L.join (Y:=Unit) (fun k24=>
  L.load eB6 (Ad6 b7 3) fun(x26:Bool)=>
  L.ite x26 (
   L.call Pr z2y [.pointer (some (⟨b2,0,none⟩)),.int .i64 4] rI fun(x27:Int)=>
   L.store (Ad6 b4 4) [.int .i64 x27]<|
   k24 (()))<|
  k24 (())) fun z25=>
 L.join (Y:=Unit) (fun k28=>
  L.load eB6 (Ad6 b7 4) fun(x30:Bool)=>
  L.ite x30 (
   L.call Pr zat [.pointer (some (⟨b2,0,none⟩))] (.one (.agg lf0)) fun(x31:pt0)=>
   L.store (Ad6 b4 5) [.string x31.1,.int .i64 x31.2.1,.int .i64 x31.2.2.1,.int .i64 x31.2.2.2.1,.int .i64 x31.2.2.2.2.1,.int .i64 x31.2.2.2.2.2.1]<|
   k28 (()))<|
  k28 (())) fun z29=>
 L.join (Y:=Unit) (fun k32=>
  L.load eB6 (Ad6 b7 5) fun(x34:Bool)=>
  L.ite x34 (
   L.call Pr zbc [.pointer (some (⟨b2,0,none⟩))] (.one (.agg [.str,.str,.slice,.int .i64])) fun(x35:pt3)=>
   L.store (Ad6 b4 11) [.string x35.1,.string x35.2.1,Sv6 x35.2.2.1,.int .i64 x35.2.2.2.1]<|
   k32 (()))<|
  k32 (())) fun z33=>
 L.nonnil (some (⟨b2,0,none⟩)) fun a36=>
 L.load eB6 (a36.add 1) fun(x37:Bool)=>
 L.ite x37 (
  L.store (⟨b1,0,none⟩) [.int .i64 0,.string s_,.string s_,.int .i64 0,.int .i64 0,.string s_,.int .i64 0,.int .i64 0,.int .i64 0,.int .i64 0,.int .i64 0,.string s_,.string s_,.slice none 0 0,.int .i64 0]<|
  L.load (.agg lf1) (⟨b1,0,none⟩) fun(x38:pt1)=>
  K (.tuple #[(qa1 x38),.int .i64 10]))<|
 L.nonnil (some (⟨b2,0,none⟩)) fun a39=>
 L.load eL6 (a39.add 0) fun(x40:Sl)=>
 L.ite (decide (((x40.len:Nat):Int)>0)) (
  L.store (⟨b1,0,none⟩) [.int .i64 0,.string s_,.string s_,.int .i64 0,.int .i64 0,.string s_,.int .i64 0,.int .i64 0,.int .i64 0,.int .i64 0,.int .i64 0,.string s_,.string s_,.slice none 0 0,.int .i64 0]<|
  L.load (.agg lf1) (⟨b1,0,none⟩) fun(x41:pt1)=>
  K (.tuple #[(qa1 x41),.int .i64 11]))<|
 L.load (.agg lf1) (⟨b4,0,none⟩) fun(x42:pt1)=>
 L.call Pr z7x [(qa1 x42)] rI fun(x43:Int)=>
 L.ite (x43 != 0) (
  L.store (⟨b1,0,none⟩) [.int .i64 0,.string s_,.string s_,.int .i64 0,.int .i64 0,.string s_,.int .i64 0,.int .i64 0,.int .i64 0,.int .i64 0,.int .i64 0,.string s_,.string s_,.slice none 0 0,.int .i64 0]<|
  L.load (.agg lf1) (⟨b1,0,none⟩) fun(x44:pt1)=>
  K (.tuple #[(qa1 x44),.int .i64 x43]))<|
 L.load (.agg lf1) (⟨b4,0,none⟩) fun(x45:pt1)=>
 L.store (⟨b1,0,none⟩) [.int .i64 x45.1,.string x45.2.1,.string x45.2.2.1,.int .i64 x45.2.2.2.1,.int .i64 x45.2.2.2.2.1,.string x45.2.2.2.2.2.1,.int .i64 x45.2.2.2.2.2.2.1,.int .i64 x45.2.2.2.2.2.2.2.1,.int .i64 x45.2.2.2.2.2.2.2.2.1,.int .i64 x45.2.2.2.2.2.2.2.2.2.1,.int .i64 x45.2.2.2.2.2.2.2.2.2.2.1,.string x45.2.2.2.2.2.2.2.2.2.2.2.1,.string x45.2.2.2.2.2.2.2.2.2.2.2.2.1,Sv6 x45.2.2.2.2.2.2.2.2.2.2.2.2.2.1,.int .i64 x45.2.2.2.2.2.2.2.2.2.2.2.2.2.2.1]<|
 L.load (.agg lf1) (⟨b1,0,none⟩) fun(x46:pt1)=>
 K (.tuple #[(qa1 x46),.int .i64 0])
theorem zi7(p0:Sl)(h:zcZ p0 K w):CV z9A [.v (.slice p0.a p0.len p0.cap)] K w:=C_of Tryz.f206 zik _ h
def z5F(c0:Addr)(c1:Addr)(K:Value→PT):PT:=
 L.draw<|
 L.load eP6 c0 fun(x1:Option Addr)=>
 L.load eP6 c0 fun(x2:Option Addr)=>
 L.nonnil x2 fun a3=>
 L.load eL6 (a3.add 0) fun(x4:Sl)=>
 L.load eL6 c1 fun(x5:Sl)=>
 L.sem Pr (.one (.one .slice)) (Builtin.append_ #[z07,z07] z07 #[Sv6 x4,Sv6 x5]) fun(s6:Sl)=>
 L.chk c0 [.pointer x1]<|
 L.nonnil x1 fun a7=>
 L.store (a7.add 0) [Sv6 s6]<|
 K (.tuple #[])
theorem zc2:Enters Pr zbT:=z0j (by kernel_rfl)
def zgw:Ann:=(.seq .auto (.one [(8,(.one (.int .i64)))] .auto) none)
def zbC(p0:FV)(c0:Addr)(K:Value→PT):PT:=
 L.load eL6 (c0.add 0) fun(x1:Sl)=>
 L.loop (Y:=Int×Unit) (0,()) fun y2 again3=>
 L.ite (decide (y2.1<((x1.len:Nat):Int))) (
  L.idx x1.a y2.1 x1.len 2 fun a4=>
  L.load (.agg [.str,.int .i64]) a4 fun(x5:ByteArray×Int×Unit)=>
  L.new [.string s_,.int .i64 0] z0m fun b6=>
  L.store (⟨b6,0,none⟩) [.string x5.1,.int .i64 x5.2.1]<|
  L.load eS6 (Ad6 b6 0) fun(x7:ByteArray)=>
  L.callV Pr (.func p0.fn p0.fs p0.cs) [.string x7] rB fun(x8:Bool)=>
  L.ite (!x8) (
   K (.tuple #[]))<|
  again3 (IntKind.wrap .i64 (y2.1+1),()))<|
 K (.tuple #[])
theorem zgl(p0:FV)(c0:Addr)(h:zbC p0 c0 K w):CV z5l [.v (.func p0.fn p0.fs p0.cs),.v (.pointer (some c0))] K w:=C_of Tryz.f208 zgw _ h
theorem zgi:Enters Pr z5l:=z0j (by kernel_rfl)
def zgu:Ann:=(.seq .auto (.one [(8,(.one (.int .i64)))] .auto) none)
def zbA(p0:FV)(c0:Addr)(K:Value→PT):PT:=
 L.load eL6 (c0.add 1) fun(x1:Sl)=>
 L.loop (Y:=Int×Unit) (0,()) fun y2 again3=>
 L.ite (decide (y2.1<((x1.len:Nat):Int))) (
  L.idx x1.a y2.1 x1.len 2 fun a4=>
  L.load (.agg [.str,.str]) a4 fun(x5:ByteArray×ByteArray×Unit)=>
  L.new [.string s_,.string s_] z2J fun b6=>
  L.store (⟨b6,0,none⟩) [.string x5.1,.string x5.2.1]<|
  L.load eS6 (Ad6 b6 0) fun(x7:ByteArray)=>
  L.callV Pr (.func p0.fn p0.fs p0.cs) [.string x7] rB fun(x8:Bool)=>
  L.ite (!x8) (
   K (.tuple #[]))<|
  again3 (IntKind.wrap .i64 (y2.1+1),()))<|
 K (.tuple #[])
theorem zgj(p0:FV)(c0:Addr)(h:zbA p0 c0 K w):CV z5k [.v (.func p0.fn p0.fs p0.cs),.v (.pointer (some c0))] K w:=C_of Tryz.f209 zgu _ h
theorem zgh:Enters Pr z5k:=z0j (by kernel_rfl)
def zed(p0:Int)(K:Value→PT):PT:=
 L.call Pr z6G [.int .i32 p0] rB fun(x1:Bool)=>
 L.ite x1 (
  K (.bool true))<|
 L.ite (decide (p0≥48)) (
  L.ite (decide (p0≤57)) (
   K (.bool true))<|
  K (.bool (p0 == 45)))<|
 K (.bool (p0 == 45))
theorem zjM(p0:Int)(h:zed p0 K w):CV zas [.v (.int .i32 p0)] K w:=C_of Tryz.f212 .auto _ h
def zbH(p0:Int)(K:Value→PT):PT:=
 L.ite (decide (p0≥97)) (
  K (.bool (decide (p0≤122))))<|
 K (.bool false)
theorem zgq(p0:Int)(h:zbH p0 K w):CV z6G [.v (.int .i32 p0)] K w:=C_of Tryz.f213 .auto _ h
def z1V(p0:Sl)(p1:FV)(K:Value→PT):PT:=
 L.call Pr z2n [Sv6 p0,.func p1.fn p1.fs p1.cs] rI fun(x1:Int)=>
 K (.bool (decide (x1≥0)))
theorem z3W(p0:Sl)(p1:FV)(h:z1V p0 p1 K w):CV z1e [.v (.slice p0.a p0.len p0.cap),.v (.func p1.fn p1.fs p1.cs)] K w:=C_of Tryz.f214 .auto _ h
def zea(p0:HT [.str,.str,.int .i64])(c0:Addr)(K:Value→PT):PT:=
 L.new [.string p0.1,.string p0.2.1,.int .i64 p0.2.2.1] z08 fun b1=>
 L.load eS6 (Ad6 b1 1) fun(x2:ByteArray)=>
 L.load eS6 (c0.add 1) fun(x3:ByteArray)=>
 K (.bool (x2.toList == x3.toList))
theorem zjJ(p0:HT [.str,.str,.int .i64])(c0:Addr)(h:zea p0 c0 K w):CV z5K [.ag [.string p0.1,.string p0.2.1,.int .i64 p0.2.2.1],.v (.pointer (some c0))] K w:=C_of Tryz.f215 .auto _ h
theorem zjB:Enters Pr z5K:=z0j (by kernel_rfl)
def z2Q(p0:Sl)(K:Value→PT):PT:=
 L.ite ((p0.a).isNone) (
  K (.slice none 0 0))<|
 L.new [] z08 fun b1=>
 L.sem Pr (.one (.one .slice)) (Builtin.append_ #[z6H,z6H] z6H #[.slice (some ⟨b1,0,none⟩) 0 0,Sv6 p0]) fun(s2:Sl)=>
 K (.slice s2.a s2.len s2.cap)
theorem z5t(p0:Sl)(h:z2Q p0 K w):CV z1J [.v (.slice p0.a p0.len p0.cap)] K w:=C_of Tryz.f219 .auto _ h
def z86(p0:Option Addr)(p1:ByteArray)(K:Value→PT):PT:=
 L.new [.slice none 0 0,.slice none 0 0] z02 fun b1=>
 L.nonnil p0 fun a2=>
 L.load (.one (.map)) (a2.add 0) fun(x3:Option Nat)=>
 L.semR Pr (.tup [(.agg lf11),.one .bool]) (Instr.lookup z1Q (.map x3) (.string p1) true) fun(x4:pt16)=>
 L.new [.slice none 0 0,.slice none 0 0,.int .i64 0,.int .i64 0,.slice none 0 0,.slice none 0 0] z2a fun b5=>
 L.store (⟨b5,0,none⟩) [Sv6 x4.1.1,Sv6 x4.1.2.1,.int .i64 x4.1.2.2.1,.int .i64 x4.1.2.2.2.1,Sv6 x4.1.2.2.2.2.1,Sv6 x4.1.2.2.2.2.2.1]<|
 L.ite (!x4.2.1) (
  L.store (⟨b1,0,none⟩) [.slice none 0 0,.slice none 0 0]<|
  L.load (.agg [.slice,.slice]) (⟨b1,0,none⟩) fun(x6:Sl×Sl×Unit)=>
  K (.tuple #[.agg #[Sv6 x6.1,Sv6 x6.2.1],.bool false]))<|
 L.load (.agg [.slice,.slice]) (Ad6 b5 4) fun(x7:Sl×Sl×Unit)=>
 L.call Pr z2l [.agg #[Sv6 x7.1,Sv6 x7.2.1]] (.one (.agg [.slice,.slice])) fun(x8:Sl×Sl×Unit)=>
 L.store (⟨b1,0,none⟩) [Sv6 x8.1,Sv6 x8.2.1]<|
 L.load (.agg [.slice,.slice]) (⟨b1,0,none⟩) fun(x9:Sl×Sl×Unit)=>
 K (.tuple #[.agg #[Sv6 x9.1,Sv6 x9.2.1],.bool true])
theorem zca(p0:Option Addr)(p1:ByteArray)(h:z86 p0 p1 K w):CV z5z [.v (.pointer p0),.v (.string p1)] K w:=C_of Tryz.f222 .auto _ h
def zdq:Ann:=(.seq .auto (.seq .auto (.seq .auto (.seq (.seq .auto (.seq .auto .auto (some [(28,(.one (.int .i64))),(29,(.one (.ptr)))])) none) (.seq .auto (.seq (.seq .auto (.one [(41,(.one (.int .i64)))] .auto) none) .auto none) none) none) none) none) none)
def z8Q(p0:Option Addr)(p1:ByteArray)(p2:Int)(K:Value→PT):PT:=
 L.nonnil p0 fun a1=>
 L.load (.one (.map)) (a1.add 1) fun(x2:Option Nat)=>
 L.semR Pr (.tup [eI6,.one .bool]) (Instr.lookup z0K (.map x2) (.int .i64 p2) true) fun(x3:Int×Bool×Unit)=>
 L.ite x3.2.1 (
  K (.tuple #[.int .i64 0,.bool false]))<|
 L.new [.slice none 0 0] z1a fun b4=>
 L.call Pr z3i [.pointer p0,.string p1] (.one (.one (.func))) fun(x5:FV)=>
 L.range Pr none (.func x5.fn x5.fs x5.cs) [eI6,eP6] (fun l6(y7:Int×Option Addr×Unit) R8=>
  L.begin Pr l6<|
  L.draw<|
  L.load eL6 (⟨b4,0,none⟩) fun(x11:Sl)=>
  L.call Pr z2q [.pointer y7.2.1] rI fun(x12:Int)=>
  L.chk (⟨b4,0,none⟩) [Sv6 x11]<|
  L.new [.int .i64 x12,.int .i64 y7.1] z06 fun b13=>
  L.chk (⟨b4,0,none⟩) [Sv6 x11]<|
  L.sem Pr (.one (.one .slice)) (Builtin.append_ #[z1a,z1a] z1a #[Sv6 x11,.slice (some ⟨b13,0,none⟩) 1 1]) fun(s14:Sl)=>
  L.store (⟨b4,0,none⟩) [Sv6 s14]<|
  L.endRound Pr l6 none R8) fun d9 j10=>
 L.jump j10 (
  L.load eL6 (⟨b4,0,none⟩) fun(x15:Sl)=>
  L.call Pr z0J [Sv6 x15,.func (.func z0y) #[] #[]] (.tup []) fun(x16:Unit)=>
  L.load eL6 (⟨b4,0,none⟩) fun(x17:Sl)=>
  L.loop (Y:=Int×Unit) (0,()) fun y18 again19=>
  L.ite (decide (y18.1<((x17.len:Nat):Int))) (
   L.idx x17.a y18.1 x17.len 2 fun a20=>
   L.load (.agg [.int .i64,.int .i64]) a20 fun(x21:Int×Int×Unit)=>
   L.new [.int .i64 0,.int .i64 0] z06 fun b22=>
   L.store (⟨b22,0,none⟩) [.int .i64 x21.1,.int .i64 x21.2.1]<|
   L.draw<|
   L.nonnil p0 fun a23=>
   L.load (.one (.map)) (a23.add 0) fun(x24:Option Nat)=>
   L.load eI6 (Ad6 b22 1) fun(x25:Int)=>
   L.semR Pr (.one (.agg [.str,.ptr])) (Instr.lookup z0x (.map x24) (.int .i64 x25) false) fun(x26:ByteArray×Option Addr×Unit)=>
   L.call Pr z6D [.pointer x26.2.1,.int .i64 p2] rI fun(x27:Int)=>
   L.ite (x27 == 0) (
    L.draw<|
    L.nonnil p0 fun a28=>
    L.load (.one (.map)) (a28.add 1) fun(x29:Option Nat)=>
    L.load eI6 (Ad6 b22 1) fun(x30:Int)=>
    L.semU Pr (Instr.mapUpdate z0K (.map x29) (.int .i64 p2) (.int .i64 x30))<|
    L.load eI6 (Ad6 b22 1) fun(x31:Int)=>
    L.unmark Pr (d9++[])<|
    K (.tuple #[.int .i64 x31,.bool true]))<|
   again19 (IntKind.wrap .i64 (y18.1+1),()))<|
  L.unmark Pr (d9++[])<|
  K (.tuple #[.int .i64 0,.bool false])) (
  L.unmark Pr (d9++[])<|
  K (.tuple #[.int .i64 0,.bool false])) []
theorem zdf(p0:Option Addr)(p1:ByteArray)(p2:Int)(h:z8Q p0 p1 p2 K w):CV z66 [.v (.pointer p0),.v (.string p1),.v (.int .i64 p2)] K w:=C_of Tryz.f223 zdq _ h
def zdj:Ann:=(.seq .auto (.seq (.seq .auto (.seq .auto .auto (some [(8,(.one (.int .i64))),(9,(.one (.int .i64)))])) none) .auto none) none)
def z8G(p0:Option Addr)(p1:Int)(K:Value→PT):PT:=
 L.new [.int .i64 p1] z0h fun b1=>
 L.new [.bool false] z1U fun b2=>
 L.call Pr z2k [.pointer p0] (.one (.one (.func))) fun(x3:FV)=>
 L.range Pr none (.func x3.fn x3.fs x3.cs) [eI6,eI6] (fun l4(y5:Int×Int×Unit) R6=>
  L.begin Pr l4<|
  L.load eI6 (⟨b1,0,none⟩) fun(x9:Int)=>
  L.ite (y5.1 == x9) (
   L.store (⟨b2,0,none⟩) [.bool true]<|
   L.endRound Pr l4 (some .ret) R6)<|
  L.endRound Pr l4 none R6) fun d7 j8=>
 L.jump j8 (
  L.store (⟨b2,0,none⟩) [.bool false]<|
  L.unmark Pr (d7++[])<|
  L.load eB6 (⟨b2,0,none⟩) fun(x10:Bool)=>
  K (.bool x10)) (
  L.unmark Pr (d7++[])<|
  L.load eB6 (⟨b2,0,none⟩) fun(x11:Bool)=>
  K (.bool x11)) []
theorem zd3(p0:Option Addr)(p1:Int)(h:z8G p0 p1 K w):CV z5W [.v (.pointer p0),.v (.int .i64 p1)] K w:=C_of Tryz.f224 zdj _ h
def zeK:Ann:=(.seq .auto (.one [(7,(.one (.int .i64)))] .auto) none)
def z9T(p0:FV)(c0:Addr)(K:Value→PT):PT:=
 L.load eL6 c0 fun(x1:Sl)=>
 L.loop (Y:=Int×Unit) (0,()) fun y2 again3=>
 L.ite (decide (y2.1<((x1.len:Nat):Int))) (
  L.idx x1.a y2.1 x1.len 4 fun a4=>
  L.load (.agg [.int .i64,.int .i64,.int .i64,.str]) a4 fun(x5:pt10)=>
  L.new [.int .i64 0,.int .i64 0,.int .i64 0,.string s_] z0a fun b6=>
  L.store (⟨b6,0,none⟩) [.int .i64 x5.1,.int .i64 x5.2.1,.int .i64 x5.2.2.1,.string x5.2.2.2.1]<|
  L.load (.agg [.int .i64,.int .i64,.int .i64,.str]) (⟨b6,0,none⟩) fun(x7:pt10)=>
  L.call Pr z9t [.agg #[.int .i64 x7.1,.int .i64 x7.2.1,.int .i64 x7.2.2.1,.string x7.2.2.2.1]] rS fun(x8:ByteArray)=>
  L.callV Pr (.func p0.fn p0.fs p0.cs) [.string x8] rB fun(x9:Bool)=>
  L.ite (!x9) (
   K (.tuple #[]))<|
  again3 (IntKind.wrap .i64 (y2.1+1),()))<|
 K (.tuple #[])
theorem zet(p0:FV)(c0:Addr)(h:z9T p0 c0 K w):CV z40 [.v (.func p0.fn p0.fs p0.cs),.v (.pointer (some c0))] K w:=C_of Tryz.f225 zeK _ h
theorem zen:Enters Pr z40:=z0j (by kernel_rfl)
def zid:Ann:=(.seq .auto (.seq .auto (.seq (.one [(2,(.one (.str)))] .auto) .auto none) none) none)
def zcN(p0:ht3)(K:Value→PT):PT:=
 L.new [.int .i64 p0.1,.int .i64 p0.2.1,.int .i64 p0.2.2.1,.string p0.2.2.2.1] z0a fun b1=>
 L.load eI6 (Ad6 b1 1) fun(x2:Int)=>
 L.ite (x2 == 1) (
  L.load eI6 (Ad6 b1 0) fun(x3:Int)=>
  L.load eI6 (Ad6 b1 2) fun(x4:Int)=>
  L.new [.int .i64 x3,.int .i64 x4] z0h fun b5=>
  L.call Pr z0q [.string s_sent,.slice (some ⟨b5,0,none⟩) 2 2] rS fun(x6:ByteArray)=>
  K (.string x6))<|
 L.ite (x2 == 2) (
  L.load eI6 (Ad6 b1 0) fun(x7:Int)=>
  L.new [.int .i64 x7] z0h fun b8=>
  L.call Pr z0q [.string zna,.slice (some ⟨b8,0,none⟩) 1 1] rS fun(x9:ByteArray)=>
  K (.string x9))<|
 L.ite (x2 == 3) (
  L.load eI6 (Ad6 b1 0) fun(x10:Int)=>
  L.new [.int .i64 x10] z0h fun b11=>
  L.call Pr z0q [.string zkT,.slice (some ⟨b11,0,none⟩) 1 1] rS fun(x12:ByteArray)=>
  K (.string x12))<|
 L.join (Y:=ByteArray×Unit) (fun k13=>
  L.draw<|
  L.load eI6 (Ad6 b1 0) fun(x15:Int)=>
  L.load eS6 (Ad6 b1 3) fun(x16:ByteArray)=>
  L.alts [(
    L.new [.int .i64 x15] z0h fun b17=>
    L.chk (Ad6 b1 3) [.string x16]<|
    L.alts [(
      L.call Pr z0q [.string s_refused,.slice (some ⟨b17,0,none⟩) 1 1] rS fun(x18:ByteArray)=>
      L.chk (Ad6 b1 3) [.string x16]<|
      L.new [.string x16] z00 fun b19=>
      L.chk (Ad6 b1 0) [.int .i64 x15]<|
      L.call Pr z0i [.string x18,.slice (some ⟨b19,0,none⟩) 1 1] rS fun(x20:ByteArray)=>
      k13 (x20,())),(
      L.new [.string x16] z00 fun b21=>
      L.chk (Ad6 b1 0) [.int .i64 x15]<|
      L.call Pr z0q [.string s_refused,.slice (some ⟨b17,0,none⟩) 1 1] rS fun(x22:ByteArray)=>
      L.chk (Ad6 b1 3) [.string x16]<|
      L.call Pr z0i [.string x22,.slice (some ⟨b21,0,none⟩) 1 1] rS fun(x23:ByteArray)=>
      k13 (x23,()))]),(
    L.new [.string x16] z00 fun b24=>
    L.chk (Ad6 b1 0) [.int .i64 x15]<|
    L.new [.int .i64 x15] z0h fun b25=>
    L.chk (Ad6 b1 3) [.string x16]<|
    L.call Pr z0q [.string s_refused,.slice (some ⟨b25,0,none⟩) 1 1] rS fun(x26:ByteArray)=>
    L.chk (Ad6 b1 3) [.string x16]<|
    L.call Pr z0i [.string x26,.slice (some ⟨b24,0,none⟩) 1 1] rS fun(x27:ByteArray)=>
    k13 (x27,()))]) fun z14=>
 K (.string z14.1)
theorem zhV(p0:ht3)(h:zcN p0 K w):CV z9t [.ag (qc3 p0)] K w:=C_of Tryz.f226 zid _ h
def zbF(p0:Option Addr)(p1:Int)(K:Value→PT):PT:=
 L.nonnil p0 fun a1=>
 L.call Pr z62 [.pointer (some (a1.add 1)),.int .i64 p1] rI fun(x2:Int)=>
 L.call Pr z7t [.pointer p0] (.tup []) fun(x3:Unit)=>
 K (.int .i64 x2)
theorem zgo(p0:Option Addr)(p1:Int)(h:zbF p0 p1 K w):CV z6E [.v (.pointer p0),.v (.int .i64 p1)] K w:=C_of Tryz.f227 .auto _ h
def z8K(p0:Option Addr)(p1:Int)(K:Value→PT):PT:=
 L.nonnil p0 fun a1=>
 L.load (.one (.map)) (a1.add 0) fun(x2:Option Nat)=>
 L.semR Pr rB (Instr.lookup z2O (.map x2) (.int .i64 p1) false) fun(x3:Bool)=>
 L.ite (!x3) (
  K (.int .i64 6))<|
 L.nonnil p0 fun a4=>
 L.load (.one (.map)) (a4.add 0) fun(x5:Option Nat)=>
 L.sem Pr (.tup []) (Builtin.delete_ #[z2O,z0h] T_ #[.map x5,.int .i64 p1]) fun _=>
 K (.int .i64 0)
theorem zd8(p0:Option Addr)(p1:Int)(h:z8K p0 p1 K w):CV z62 [.v (.pointer p0),.v (.int .i64 p1)] K w:=C_of Tryz.f229 .auto _ h
def z7D:Ann:=(.seq .auto (.one [(12,(.one (.int .i64)))] .auto) none)
def z4p(p0:FV)(c0:Addr)(K:Value→PT):PT:=
 L.load eP6 c0 fun(x1:Option Addr)=>
 L.nonnil x1 fun a2=>
 L.load (.one (.map)) (a2.add 0) fun(x3:Option Nat)=>
 L.call Pr z0W [.map x3] (.one (.one (.func))) fun(x4:FV)=>
 L.call Pr z0V [.func x4.fn x4.fs x4.cs] rL fun(x5:Sl)=>
 L.loop (Y:=Int×Unit) (0,()) fun y6 again7=>
 L.ite (decide (y6.1<((x5.len:Nat):Int))) (
  L.idx x5.a y6.1 x5.len 1 fun a8=>
  L.load eS6 a8 fun(x9:ByteArray)=>
  L.load eP6 c0 fun(x10:Option Addr)=>
  L.nonnil x10 fun a11=>
  L.load (.one (.map)) (a11.add 0) fun(x12:Option Nat)=>
  L.semR Pr rP (Instr.lookup z0I (.map x12) (.string x9) false) fun(x13:Option Addr)=>
  L.callV Pr (.func p0.fn p0.fs p0.cs) [.string x9,.pointer x13] rB fun(x14:Bool)=>
  L.ite (!x14) (
   K (.tuple #[]))<|
  again7 (IntKind.wrap .i64 (y6.1+1),()))<|
 K (.tuple #[])
theorem z7C(p0:FV)(c0:Addr)(h:z4p p0 c0 K w):CV z1r [.v (.func p0.fn p0.fs p0.cs),.v (.pointer (some c0))] K w:=C_of Tryz.f230 z7D _ h
theorem z7A:Enters Pr z1r:=z0j (by kernel_rfl)
def z6p(p0:FV)(K:Value→PT):PT:=
 L.call Pr z60 [.func p0.fn p0.fs p0.cs] rL fun(x1:Sl)=>
 L.call Pr z2U [Sv6 x1] (.tup []) fun(x2:Unit)=>
 K (.slice x1.a x1.len x1.cap)
theorem zah(p0:FV)(h:z6p p0 K w):CV z0V [.v (.func p0.fn p0.fs p0.cs)] K w:=C_of Tryz.f231 .auto _ h
def z1A(p0:Option Nat)(K:Value→PT):PT:=
 L.new [.map p0] z0I fun b1=>
 K (.func (.func z0f) #[] #[.pointer (some (⟨b1,0,none⟩))])
theorem z3h(p0:Option Nat)(h:z1A p0 K w):CV z0W [.v (.map p0)] K w:=C_of Tryz.f232 .auto _ h
def zcg:Ann:=(.seq .auto (.seq .auto (.seq .auto (.seq (.seq .auto (.seq .auto .auto (some [(11,(.one (.int .i64))),(12,(.one (.int .i64)))])) none) .auto none) none) none) none)
def z7X(p0:Option Addr)(p1:Int)(K:Value→PT):PT:=
 L.new [.int .i64 p1] z0h fun b1=>
 L.new [.slice none 0 0] z1b fun b2=>
 L.new [.slice none 0 0] z1o fun b3=>
 L.call Pr z2k [.pointer p0] (.one (.one (.func))) fun(x4:FV)=>
 L.range Pr none (.func x4.fn x4.fs x4.cs) [eI6,eI6] (fun l5(y6:Int×Int×Unit) R7=>
  L.begin Pr l5<|
  L.load eI6 (⟨b1,0,none⟩) fun(x10:Int)=>
  L.ite (decide (y6.2.1≤x10)) (
   L.load eL6 (⟨b2,0,none⟩) fun(x11:Sl)=>
   L.new [.int .i64 y6.1] z0h fun b12=>
   L.sem Pr (.one (.one .slice)) (Builtin.append_ #[z1b,z1b] z1b #[Sv6 x11,.slice (some ⟨b12,0,none⟩) 1 1]) fun(s13:Sl)=>
   L.store (⟨b2,0,none⟩) [Sv6 s13]<|
   L.endRound Pr l5 none R7)<|
  L.load eL6 (⟨b3,0,none⟩) fun(x14:Sl)=>
  L.new [.int .i64 y6.1,.int .i64 y6.2.1] z2z fun b15=>
  L.sem Pr (.one (.one .slice)) (Builtin.append_ #[z1o,z1o] z1o #[Sv6 x14,.slice (some ⟨b15,0,none⟩) 1 1]) fun(s16:Sl)=>
  L.store (⟨b3,0,none⟩) [Sv6 s16]<|
  L.endRound Pr l5 none R7) fun d8 j9=>
 L.jump j9 (
  L.load eL6 (⟨b3,0,none⟩) fun(x17:Sl)=>
  L.nonnil p0 fun a18=>
  L.store (a18.add 0) [Sv6 x17]<|
  L.load eL6 (⟨b2,0,none⟩) fun(x19:Sl)=>
  L.call Pr z18 [Sv6 x19] rL fun(x20:Sl)=>
  L.unmark Pr (d8++[])<|
  K (.slice x20.a x20.len x20.cap)) (
  L.unmark Pr (d8++[])<|
  K (.slice none 0 0)) []
theorem zc3(p0:Option Addr)(p1:Int)(h:z7X p0 p1 K w):CV z7N [.v (.pointer p0),.v (.int .i64 p1)] K w:=C_of Tryz.f233 zcg _ h
def z3s(p0:Option Nat)(K:Value→PT):PT:=
 L.call Pr z1i [.map p0] (.one (.one (.func))) fun(x1:FV)=>
 L.call Pr z0V [.func x1.fn x1.fs x1.cs] rL fun(x2:Sl)=>
 K (.slice x2.a x2.len x2.cap)
theorem z6j(p0:Option Nat)(h:z3s p0 K w):CV z1s [.v (.map p0)] K w:=C_of Tryz.f234 .auto _ h
def z81(p0:Option Addr)(p1:ByteArray)(K:Value→PT):PT:=
 L.call Pr z3J [.pointer p0,.string p1,.func (.func z3j) #[] #[]] rS fun(x1:ByteArray)=>
 L.call Pr z3J [.pointer p0,.string p1,.func (.func z1K) #[.pointer p0] #[]] rS fun(x2:ByteArray)=>
 K (.tuple #[.string x1,.string x2])
theorem zc7(p0:Option Addr)(p1:ByteArray)(h:z81 p0 p1 K w):CV z5y [.v (.pointer p0),.v (.string p1)] K w:=C_of Tryz.f235 .auto _ h
def z8n:Ann:=(.seq .auto (.one [(9,(.one (.int .i64)))] .auto) none)
def z4N(p0:FV)(c0:Addr)(K:Value→PT):PT:=
 L.load (.one (.map)) c0 fun(x1:Option Nat)=>
 L.call Pr z1D [.map x1] (.one (.one (.func))) fun(x2:FV)=>
 L.call Pr z0V [.func x2.fn x2.fs x2.cs] rL fun(x3:Sl)=>
 L.loop (Y:=Int×Unit) (0,()) fun y4 again5=>
 L.ite (decide (y4.1<((x3.len:Nat):Int))) (
  L.idx x3.a y4.1 x3.len 1 fun a6=>
  L.load eS6 a6 fun(x7:ByteArray)=>
  L.load (.one (.map)) c0 fun(x8:Option Nat)=>
  L.semR Pr rI (Instr.lookup z0L (.map x8) (.string x7) false) fun(x9:Int)=>
  L.callV Pr (.func p0.fn p0.fs p0.cs) [.string x7,.int .i64 x9] rB fun(x10:Bool)=>
  L.ite (!x10) (
   K (.tuple #[]))<|
  again5 (IntKind.wrap .i64 (y4.1+1),()))<|
 K (.tuple #[])
theorem z8j(p0:FV)(c0:Addr)(h:z4N p0 c0 K w):CV z1v [.v (.func p0.fn p0.fs p0.cs),.v (.pointer (some c0))] K w:=C_of Tryz.f236 z8n _ h
theorem z8d:Enters Pr z1v:=z0j (by kernel_rfl)
def z2M(p0:Option Nat)(K:Value→PT):PT:=
 L.new [.map p0] z0L fun b1=>
 K (.func (.func z0A) #[] #[.pointer (some (⟨b1,0,none⟩))])
theorem z5h(p0:Option Nat)(h:z2M p0 K w):CV z1D [.v (.map p0)] K w:=C_of Tryz.f237 .auto _ h
def z6Y:Ann:=(.seq .auto (.one [(9,(.one (.int .i64)))] .auto) none)
def z3H(p0:FV)(c0:Addr)(K:Value→PT):PT:=
 L.load (.one (.map)) c0 fun(x1:Option Nat)=>
 L.call Pr z1f [.map x1] (.one (.one (.func))) fun(x2:FV)=>
 L.call Pr z0V [.func x2.fn x2.fs x2.cs] rL fun(x3:Sl)=>
 L.loop (Y:=Int×Unit) (0,()) fun y4 again5=>
 L.ite (decide (y4.1<((x3.len:Nat):Int))) (
  L.idx x3.a y4.1 x3.len 1 fun a6=>
  L.load eS6 a6 fun(x7:ByteArray)=>
  L.load (.one (.map)) c0 fun(x8:Option Nat)=>
  L.semR Pr rS (Instr.lookup z0v (.map x8) (.string x7) false) fun(x9:ByteArray)=>
  L.callV Pr (.func p0.fn p0.fs p0.cs) [.string x7,.string x9] rB fun(x10:Bool)=>
  L.ite (!x10) (
   K (.tuple #[]))<|
  again5 (IntKind.wrap .i64 (y4.1+1),()))<|
 K (.tuple #[])
theorem z6W(p0:FV)(c0:Addr)(h:z3H p0 c0 K w):CV z1d [.v (.func p0.fn p0.fs p0.cs),.v (.pointer (some c0))] K w:=C_of Tryz.f238 z6Y _ h
theorem z6U:Enters Pr z1d:=z0j (by kernel_rfl)
def z1W(p0:Option Nat)(K:Value→PT):PT:=
 L.new [.map p0] z0v fun b1=>
 K (.func (.func z0n) #[] #[.pointer (some (⟨b1,0,none⟩))])
theorem z3X(p0:Option Nat)(h:z1W p0 K w):CV z1f [.v (.map p0)] K w:=C_of Tryz.f239 .auto _ h
def z3b(p0:Sl)(K:Value→PT):PT:=
 L.ite ((p0.a).isNone) (
  K (.slice none 0 0))<|
 L.new [] z0m fun b1=>
 L.sem Pr (.one (.one .slice)) (Builtin.append_ #[z0F,z0F] z0F #[.slice (some ⟨b1,0,none⟩) 0 0,Sv6 p0]) fun(s2:Sl)=>
 K (.slice s2.a s2.len s2.cap)
theorem z5R(p0:Sl)(h:z3b p0 K w):CV z0B [.v (.slice p0.a p0.len p0.cap)] K w:=C_of Tryz.f240 .auto _ h
def z3a(p0:Sl)(K:Value→PT):PT:=
 L.ite ((p0.a).isNone) (
  K (.slice none 0 0))<|
 L.new [] z2J fun b1=>
 L.sem Pr (.one (.one .slice)) (Builtin.append_ #[z3U,z3U] z3U #[.slice (some ⟨b1,0,none⟩) 0 0,Sv6 p0]) fun(s2:Sl)=>
 K (.slice s2.a s2.len s2.cap)
theorem z5Q(p0:Sl)(h:z3a p0 K w):CV z1T [.v (.slice p0.a p0.len p0.cap)] K w:=C_of Tryz.f241 .auto _ h
def z6X:Ann:=(.seq .auto (.seq .auto (.seq (.seq .auto (.one [(5,(.one (.slice))),(12,(.one (.int .i64)))] (.seq .auto (.seq .auto (.seq (.seq .auto (.seq .auto (.one [(5,(.one (.slice))),(18,(.one (.int .i64)))] .auto) none) none) .auto none) none) none)) none) .auto none) none) none)
def z3G(p0:FV)(p1:Sl)(K:Value→PT):PT:=
 L.loop (Y:=Sl×Int×Unit) (⟨none,0,0⟩,0,()) fun y1 again2=>
 L.ite (decide (y1.2.1<((p1.len:Nat):Int))) (
  L.idx p1.a y1.2.1 p1.len 1 fun a3=>
  L.load eL6 a3 fun(x4:Sl)=>
  L.loop (Y:=Sl×Int×Unit) (⟨y1.1.a,y1.1.len,y1.1.cap⟩,0,()) fun y5 again6=>
  L.ite (decide (y5.2.1<((x4.len:Nat):Int))) (
   L.idx x4.a y5.2.1 x4.len 2 fun a7=>
   L.load (.agg [.str,.int .i64]) a7 fun(x8:ByteArray×Int×Unit)=>
   L.new [.string s_,.int .i64 0] z0m fun b9=>
   L.store (⟨b9,0,none⟩) [.string x8.1,.int .i64 x8.2.1]<|
   L.load (.agg [.str,.int .i64]) (⟨b9,0,none⟩) fun(x10:ByteArray×Int×Unit)=>
   L.callV Pr (.func p0.fn p0.fs p0.cs) [.agg #[.string x10.1,.int .i64 x10.2.1]] rS fun(x11:ByteArray)=>
   L.new [.string x11] z00 fun b12=>
   L.sem Pr (.one (.one .slice)) (Builtin.append_ #[z07,z07] z07 #[Sv6 y5.1,.slice (some ⟨b12,0,none⟩) 1 1]) fun(s13:Sl)=>
   again6 (⟨s13.a,s13.len,s13.cap⟩,IntKind.wrap .i64 (y5.2.1+1),()))<|
  again2 (⟨y5.1.a,y5.1.len,y5.1.cap⟩,IntKind.wrap .i64 (y1.2.1+1),()))<|
 L.call Pr z2U [Sv6 y1.1] (.tup []) fun(x14:Unit)=>
 L.call Pr z3F [Sv6 y1.1] rL fun(x15:Sl)=>
 K (.slice x15.a x15.len x15.cap)
theorem z6V(p0:FV)(p1:Sl)(h:z3G p0 p1 K w):CV z2x [.v (.func p0.fn p0.fs p0.cs),.v (.slice p1.a p1.len p1.cap)] K w:=C_of Tryz.f242 z6X _ h
def zh2(p0:HT [.str,.int .i64])(K:Value→PT):PT:=
 L.new [.string p0.1,.int .i64 p0.2.1] z0m fun b1=>
 L.load eS6 (Ad6 b1 0) fun(x2:ByteArray)=>
 K (.string x2)
theorem zmD(p0:HT [.str,.int .i64])(h:zh2 p0 K w):CV zb7 [.ag [.string p0.1,.int .i64 p0.2.1]] K w:=C_of Tryz.f243 .auto _ h
theorem zmA:Enters Pr zb7:=z0j (by kernel_rfl)
def zcR(p0:Sl)(p1:ByteArray)(K:Value→PT):PT:=
 L.new [.string p1] z00 fun b1=>
 L.call Pr z2D [Sv6 p0,.func (.func z61) #[] #[.pointer (some (⟨b1,0,none⟩))]] rI fun(x2:Int)=>
 L.ite (decide (x2<0)) (
  K (.int .i64 0))<|
 L.idx p0.a x2 p0.len 2 fun a3=>
 L.load eI6 (a3.add 1) fun(x4:Int)=>
 K (.int .i64 x4)
theorem zhZ(p0:Sl)(p1:ByteArray)(h:zcR p0 p1 K w):CV z4S [.v (.slice p0.a p0.len p0.cap),.v (.string p1)] K w:=C_of Tryz.f244 .auto _ h
def zih:Ann:=(.seq .auto (.cond .auto .auto) none)
def zcT(p0:Option Addr)(K:Value→PT):PT:=
 L.nonnil p0 fun a1=>
 L.load eI6 (a1.add 0) fun(x2:Int)=>
 L.ite (x2 == 3) (
  L.call Pr z2q [.pointer p0] rI fun(x3:Int)=>
  L.ite (x3 == 0) (
   L.nonnil p0 fun a4=>
   L.store (a4.add 0) [.int .i64 4]<|
   K (.tuple #[]))<|
  K (.tuple #[]))<|
 K (.tuple #[])
theorem zi1(p0:Option Addr)(h:zcT p0 K w):CV z7t [.v (.pointer p0)] K w:=C_of Tryz.f246 zih _ h
def zaZ:Ann:=(.seq .auto (.one [(10,(.one (.int .i64)))] .auto) none)
def z6N(p0:FV)(c0:Addr)(K:Value→PT):PT:=
 L.load eP6 c0 fun(x1:Option Addr)=>
 L.nonnil x1 fun a2=>
 L.load eL6 (a2.add 0) fun(x3:Sl)=>
 L.loop (Y:=Int×Unit) (0,()) fun y4 again5=>
 L.ite (decide (y4.1<((x3.len:Nat):Int))) (
  L.idx x3.a y4.1 x3.len 2 fun a6=>
  L.load (.agg [.int .i64,.int .i64]) a6 fun(x7:Int×Int×Unit)=>
  L.new [.int .i64 0,.int .i64 0] z2z fun b8=>
  L.store (⟨b8,0,none⟩) [.int .i64 x7.1,.int .i64 x7.2.1]<|
  L.load eI6 (Ad6 b8 0) fun(x9:Int)=>
  L.load eI6 (Ad6 b8 1) fun(x10:Int)=>
  L.callV Pr (.func p0.fn p0.fs p0.cs) [.int .i64 x9,.int .i64 x10] rB fun(x11:Bool)=>
  L.ite (!x11) (
   K (.tuple #[]))<|
  again5 (IntKind.wrap .i64 (y4.1+1),()))<|
 K (.tuple #[])
theorem zaP(p0:FV)(c0:Addr)(h:z6N p0 c0 K w):CV z2w [.v (.func p0.fn p0.fs p0.cs),.v (.pointer (some c0))] K w:=C_of Tryz.f258 zaZ _ h
theorem zaL:Enters Pr z2w:=z0j (by kernel_rfl)
def z7l(p0:FV)(K:Value→PT):PT:=
 L.call Pr z3d [.slice none 0 0,.func p0.fn p0.fs p0.cs] rL fun(x1:Sl)=>
 K (.slice x1.a x1.len x1.cap)
theorem zbo(p0:FV)(h:z7l p0 K w):CV z7g [.v (.func p0.fn p0.fs p0.cs)] K w:=C_of Tryz.f259 .auto _ h
def z3E:Ann:=(.seq .auto (.one [] (.seq .auto (.seq (.cond .auto .auto) .auto none) none)) none)
def z1S(p0:FV)(c0:Addr)(K:Value→PT):PT:=
 L.load (.one (.map)) c0 fun(x1:Option Nat)=>
 L.sem Pr (.one (.one .ptr)) (Instr.range z0x (.map x1)) fun(it2:Option Addr)=>
 L.loop (Y:=Unit) (()) fun y3 again4=>
 L.next Pr [eI6,(.agg [.str,.ptr])] (Instr.next (.pointer it2) false T_) (
  K (.tuple #[])) fun(x5:pt22)=>
 L.sem Pr (.tup [eI6,(.agg [.str,.ptr])]) (Instr.entry (.pointer it2)) fun(x6:pt22)=>
 L.callV Pr (.func p0.fn p0.fs p0.cs) [.int .i64 x6.1] rB fun(x7:Bool)=>
 L.ite (!x7) (
  K (.tuple #[]))<|
 again4 (())
theorem z3C(p0:FV)(c0:Addr)(h:z1S p0 c0 K w):CV z0o [.v (.func p0.fn p0.fs p0.cs),.v (.pointer (some c0))] K w:=C_of Tryz.f260 z3E _ h
theorem z3A:Enters Pr z0o:=z0j (by kernel_rfl)
def z8k:Ann:=(.seq .auto (.one [(7,(.one (.int .i64)))] .auto) none)
def z4J(p0:FV)(c0:Addr)(K:Value→PT):PT:=
 L.load eL6 c0 fun(x1:Sl)=>
 L.loop (Y:=Int×Unit) (0,()) fun y2 again3=>
 L.ite (decide (y2.1<((x1.len:Nat):Int))) (
  L.idx x1.a y2.1 x1.len 1 fun a4=>
  L.load eL6 a4 fun(x5:Sl)=>
  L.callV Pr (.func p0.fn p0.fs p0.cs) [Sv6 x5] rB fun(x6:Bool)=>
  L.ite (!x6) (
   K (.tuple #[]))<|
  again3 (IntKind.wrap .i64 (y2.1+1),()))<|
 K (.tuple #[])
theorem z8f(p0:FV)(c0:Addr)(h:z4J p0 c0 K w):CV z1t [.v (.func p0.fn p0.fs p0.cs),.v (.pointer (some c0))] K w:=C_of Tryz.f261 z8k _ h
theorem z8c:Enters Pr z1t:=z0j (by kernel_rfl)
def zbJ(p0:Sl)(K:Value→PT):PT:=
 L.new [Sv6 p0] z2j fun b1=>
 K (.func (.func z45) #[] #[.pointer (some (⟨b1,0,none⟩))])
theorem zgs(p0:Sl)(h:zbJ p0 K w):CV z8U [.v (.slice p0.a p0.len p0.cap)] K w:=C_of Tryz.f262 .auto _ h
def z5M(p0:Sl)(K:Value→PT):PT:=
 L.ite ((p0.a).isNone) (
  K (.slice none 0 0))<|
 L.new [] z2j fun b1=>
 L.sem Pr (.one (.one .slice)) (Builtin.append_ #[z0O,z0O] z0O #[.slice (some ⟨b1,0,none⟩) 0 0,Sv6 p0]) fun(s2:Sl)=>
 K (.slice s2.a s2.len s2.cap)
theorem z9n(p0:Sl)(h:z5M p0 K w):CV z3w [.v (.slice p0.a p0.len p0.cap)] K w:=C_of Tryz.f263 .auto _ h
def zb2:Ann:=(.seq .auto (.seq .auto (.seq (.seq .auto (.one [(5,(.one (.int .i64))),(12,(.one (.int .i64)))] .auto) none) .auto none) none) none)
def z6S(p0:Option Addr)(p1:Int)(K:Value→PT):PT:=
 L.call Pr z5C [.pointer p0,.int .i64 p1] rL fun(x1:Sl)=>
 L.loop (Y:=Int×Int×Unit) (0,0,()) fun y2 again3=>
 L.ite (decide (y2.2.1<((x1.len:Nat):Int))) (
  L.idx x1.a y2.2.1 x1.len 1 fun a4=>
  L.load (.one (.int .u8)) a4 fun(x5:Int)=>
  L.guard ((0:Int)≤8)<|
  again3 (IntKind.wrap .i64 (((BitVec.ofInt 64 (IntKind.wrap .i64 (y2.1*2 ^ (min (Int.toNat 8) 64)))) ||| (BitVec.ofInt 64 (IntKind.wrap .i64 x5))).toNat:Int),IntKind.wrap .i64 (y2.2.1+1),()))<|
 K (.int .i64 y2.1)
theorem zaX(p0:Option Addr)(p1:Int)(h:z6S p0 p1 K w):CV z2y [.v (.pointer p0),.v (.int .i64 p1)] K w:=C_of Tryz.f264 zb2 _ h
def z4s:Ann:=(.seq .auto (.seq (.seq .auto (.one [(8,(.one (.int .i64)))] .auto) none) .auto none) none)
def z2o(p0:Sl)(p1:FV)(K:Value→PT):PT:=
 L.loop (Y:=Int×Unit) (0,()) fun y1 again2=>
 L.ite (decide (y1.1<((p0.len:Nat):Int))) (
  L.idx p0.a y1.1 p0.len 3 fun a3=>
  L.load (.agg [.str,.str,.int .i64]) a3 fun(x4:pt9)=>
  L.callV Pr (.func p1.fn p1.fs p1.cs) [.agg #[.string x4.1,.string x4.2.1,.int .i64 x4.2.2.1]] rB fun(x5:Bool)=>
  L.ite x5 (
   K (.int .i64 y1.1))<|
  again2 (IntKind.wrap .i64 (y1.1+1),()))<|
 K (.int .i64 (-1))
theorem z4r(p0:Sl)(p1:FV)(h:z2o p0 p1 K w):CV z2n [.v (.slice p0.a p0.len p0.cap),.v (.func p1.fn p1.fs p1.cs)] K w:=C_of Tryz.f272 z4s _ h
def z0X(p0:Sl)(p1:FV)(K:Value→PT):PT:=
 L.call Pr z2T [Sv6 p0,.int .i64 ((p0.len:Nat):Int),.func p1.fn p1.fs p1.cs] (.tup []) fun(x1:Unit)=>
 K (.tuple #[])
theorem z1B(p0:Sl)(p1:FV)(h:z0X p0 p1 K w):CV z0J [.v (.slice p0.a p0.len p0.cap),.v (.func p1.fn p1.fs p1.cs)] K w:=C_of Tryz.f279 .auto _ h
def z7o(p0 p1:HT [.int .i64,.int .i64])(K:Value→PT):PT:=
 L.new [.int .i64 p0.1,.int .i64 p0.2.1] z06 fun b1=>
 L.new [.int .i64 p1.1,.int .i64 p1.2.1] z06 fun b2=>
 L.load eI6 (Ad6 b1 0) fun(x3:Int)=>
 L.load eI6 (Ad6 b2 0) fun(x4:Int)=>
 K (.int .i64 (IntKind.wrap .i64 (x3-x4)))
theorem zbr(p0 p1:HT [.int .i64,.int .i64])(h:z7o p0 p1 K w):CV z0y [.ag [.int .i64 p0.1,.int .i64 p0.2.1],.ag [.int .i64 p1.1,.int .i64 p1.2.1]] K w:=C_of Tryz.f280 .auto _ h
theorem zbh:Enters Pr z0y:=z0j (by kernel_rfl)
def zbE(p0:Option Addr)(p1:Int)(K:Value→PT):PT:=
 L.nonnil p0 fun a1=>
 L.load eI6 (a1.add 0) fun(x2:Int)=>
 L.ite (x2 != 2) (
  K (.int .i64 9))<|
 L.nonnil p0 fun a3=>
 L.call Pr z97 [.pointer (some (a3.add 1)),.int .i64 p1] rI fun(x4:Int)=>
 K (.int .i64 x4)
theorem zgn(p0:Option Addr)(p1:Int)(h:zbE p0 p1 K w):CV z6D [.v (.pointer p0),.v (.int .i64 p1)] K w:=C_of Tryz.f281 .auto _ h
def z6f(p0:FV)(K:Value→PT):PT:=
 L.call Pr z2f [.slice none 0 0,.func p0.fn p0.fs p0.cs] rL fun(x1:Sl)=>
 K (.slice x1.a x1.len x1.cap)
theorem z9L(p0:FV)(h:z6f p0 K w):CV z60 [.v (.func p0.fn p0.fs p0.cs)] K w:=C_of Tryz.f283 .auto _ h
def z35:Ann:=(.seq .auto (.one [] (.seq .auto (.seq (.cond .auto .auto) .auto none) none)) none)
def z1x(p0:FV)(c0:Addr)(K:Value→PT):PT:=
 L.load (.one (.map)) c0 fun(x1:Option Nat)=>
 L.sem Pr (.one (.one .ptr)) (Instr.range z0I (.map x1)) fun(it2:Option Addr)=>
 L.loop (Y:=Unit) (()) fun y3 again4=>
 L.next Pr [eS6,eP6] (Instr.next (.pointer it2) false T_) (
  K (.tuple #[])) fun(x5:ByteArray×Option Addr×Unit)=>
 L.sem Pr (.tup [eS6,eP6]) (Instr.entry (.pointer it2)) fun(x6:ByteArray×Option Addr×Unit)=>
 L.callV Pr (.func p0.fn p0.fs p0.cs) [.string x6.1] rB fun(x7:Bool)=>
 L.ite (!x7) (
  K (.tuple #[]))<|
 again4 (())
theorem z34(p0:FV)(c0:Addr)(h:z1x p0 c0 K w):CV z0f [.v (.func p0.fn p0.fs p0.cs),.v (.pointer (some c0))] K w:=C_of Tryz.f285 z35 _ h
theorem z2Z:Enters Pr z0f:=z0j (by kernel_rfl)
def z1j(p0:Option Nat)(K:Value→PT):PT:=
 L.new [.map p0] z0l fun b1=>
 K (.func (.func z09) #[] #[.pointer (some (⟨b1,0,none⟩))])
theorem z2B(p0:Option Nat)(h:z1j p0 K w):CV z1i [.v (.map p0)] K w:=C_of Tryz.f286 .auto _ h
end Go.Proofs.YtdcdhcgmeahfmaaGreatDoor
