/- What is proved on the way to a statement of the seat, pressed (text AD). No conditions beyond those its theorems state. -/
import Derived.Test.YtimahgbgejngiaaGreatDoorNAC
import Derived.Test.YtimahgbgejngiaaGreatDoorProg
set_option linter.all false
namespace Go.Proofs.YtimahgbgejngiaaGreatDoor
set_option maxRecDepth 100000
open Go.Dm
variable {K:Value→PT}{w:World}
abbrev I(n:Int):Value:=.int .i64 n
abbrev Jf:Lf:=.int .i64
abbrev J8:Lf:=.int .u8
abbrev ht0:=HT [.str,.int .i64,.int .i64,.int .i64,.int .i64,.int .i64]
abbrev ht1:=HT [.int .i64,.str,.str,.int .i64,.int .i64,.str,.int .i64,.int .i64,.int .i64,.int .i64,.int .i64,.str,.str,.slice,.int .i64]
abbrev ht2:=HT [.str,.str,.slice,.int .i64]
abbrev ht3:=HT [.int .i64,.int .i64,.int .i64,.str]
abbrev qc0(p:ht0):List Value:=[.string p.1,I p.2.1,I p.2.2.1,I p.2.2.2.1,I p.2.2.2.2.1,I p.2.2.2.2.2.1]
abbrev qc1(p:ht1):List Value:=[I p.1,.string p.2.1,.string p.2.2.1,I p.2.2.2.1,I p.2.2.2.2.1,.string p.2.2.2.2.2.1,I p.2.2.2.2.2.2.1,I p.2.2.2.2.2.2.2.1,I p.2.2.2.2.2.2.2.2.1,I p.2.2.2.2.2.2.2.2.2.1,I p.2.2.2.2.2.2.2.2.2.2.1,.string p.2.2.2.2.2.2.2.2.2.2.2.1,.string p.2.2.2.2.2.2.2.2.2.2.2.2.1,.slice p.2.2.2.2.2.2.2.2.2.2.2.2.2.1.a p.2.2.2.2.2.2.2.2.2.2.2.2.2.1.len p.2.2.2.2.2.2.2.2.2.2.2.2.2.1.cap,I p.2.2.2.2.2.2.2.2.2.2.2.2.2.2.1]
abbrev qc2(p:ht2):List Value:=[.string p.1,.string p.2.1,.slice p.2.2.1.a p.2.2.1.len p.2.2.1.cap,I p.2.2.2.1]
abbrev qc3(p:ht3):List Value:=[I p.1,I p.2.1,I p.2.2.1,.string p.2.2.2.1]
abbrev pt0:=B0×Int×Int×Int×Int×Int×Unit
abbrev pt1:=Int×B0×B0×Int×Int×B0×Int×Int×Int×Int×Int×B0×B0×Sl×Int×Unit
abbrev pt2:=(Bool×Bool×Bool×Bool×Bool×Bool×Unit)×Bool×Unit
abbrev pt3:=B0×B0×Sl×Int×Unit
abbrev pt4:=(B0×Int×Int×Int×Int×Int×Unit)×Int×Int×Bool×Unit
abbrev pt5:=(B0×B0×Sl×Int×Unit)×Int×Bool×Unit
abbrev pt6:=(B0×Int×B0×Int×Int×Int×Int×Int×Unit)×Bool×Unit
abbrev pt7:=Int×(B0×Int×Unit)×Unit
abbrev pt8:=Bool×Bool×Bool×Bool×Bool×Bool×Unit
abbrev pt9:=B0×B0×Int×Unit
abbrev kS:=Int×Int×Int×B0×Unit
abbrev z22:=(Int×Int×Int×B0×Unit)×Bool×Unit
abbrev z1Z:=(B0×Option Addr×Unit)×Bool×Unit
abbrev z2P:=(B0×Int×Int×Int×Int×Int×Int×Int×Bool×Unit)×Bool×Unit
abbrev am:=B0×Int×B0×Int×Int×Int×Int×Int×Unit
abbrev z2O:=(B0×B0×Sl×Int×Int×Int×Bool×Unit)×Bool×Unit
abbrev z1Y:=(Sl×Sl×Int×Int×Sl×Sl×Unit)×Bool×Unit
abbrev z1X:=Sl×Sl×Int×Int×Sl×Sl×Unit
abbrev z2N:=Int×Option (TypeId×Value)×Unit
abbrev Rf:=B0×Int×Int×Int×Int×Int×Int×Int×Bool×Unit
abbrev Re:=B0×B0×Sl×Int×Int×Int×Bool×Unit
abbrev z2M:=(B0×Int×Unit)×Bool×Unit
abbrev z1W:=B0×(B0×Int×B0×Int×Int×Int×Int×Int×Unit)×Unit
abbrev z1V:=Int×(B0×Option Addr×Unit)×Unit
abbrev lf0:List Lf:=[.str,Jf,Jf,Jf,Jf,Jf]
abbrev lf1:List Lf:=[Jf,.str,.str,Jf,Jf,.str,Jf,Jf,Jf,Jf,Jf,.str,.str,.slice,Jf]
abbrev lf2:List Lf:=[.ptr,.ptr,.ptr,.ptr,.ptr,.map,Jf]
abbrev lf3:List Lf:=[Jf,.ptr,.ptr,.ptr,.ptr,.ptr,.slice]
abbrev lf4:List Lf:=[.ptr,.map,.map,.func,Jf,Jf]
abbrev lf5:List Lf:=[.bool,.bool,.bool,.bool,.bool,.bool]
abbrev lf6:List Lf:=[.str,Jf,.str,Jf,Jf,Jf,Jf,Jf]
abbrev lf7:List Lf:=[.ptr,Jf,Jf,.slice,.slice,.slice]
abbrev lf8:List Lf:=[Jf,Jf,Jf,Jf,Jf,Jf,Jf,Jf,Jf,Jf,Jf,Jf,Jf,Jf,Jf,Jf,Jf,Jf,Jf,Jf,Jf,Jf,Jf,Jf,Jf,Jf,Jf,Jf,Jf,Jf,Jf,Jf,Jf,Jf,Jf,Jf,Jf,Jf,Jf,Jf,Jf,Jf,Jf,Jf,Jf,Jf,Jf,Jf,Jf,Jf,Jf,Jf,Jf,Jf,Jf,Jf,Jf,Jf,Jf,Jf]
abbrev lf9:List Lf:=[Jf,Jf,Jf,Jf,Jf,Jf,Jf,Jf,Jf,Jf,Jf,Jf,Jf,Jf,Jf,Jf,Jf,Jf,Jf,Jf,Jf,Jf,Jf,Jf,Jf,Jf,Jf,Jf,Jf,Jf,Jf,Jf,Jf,Jf,Jf,Jf,Jf,Jf,Jf,Jf,Jf,Jf,Jf,Jf,Jf,Jf,Jf,Jf,Jf,Jf,Jf,Jf,Jf,Jf,Jf,Jf,Jf,Jf,Jf,Jf,Jf]
abbrev z35:List Lf:=[Jf,Jf,Jf,Jf,Jf,Jf,Jf,Jf,Jf,Jf,Jf,Jf,Jf,Jf,Jf,Jf,Jf,Jf,Jf,Jf,Jf,Jf,Jf,Jf,Jf,Jf,Jf,Jf,Jf,Jf,Jf,Jf,Jf,Jf,Jf,Jf,Jf,Jf,Jf,Jf,Jf,Jf,Jf,Jf,Jf,Jf,Jf,Jf,Jf,Jf,Jf,Jf,Jf,Jf,Jf,Jf,Jf,Jf,Jf,Jf,Jf,Jf]
abbrev wP:List Lf:=[.str,Jf,Jf,Jf,Jf,Jf,Jf,Jf,.bool]
abbrev wO:List Lf:=[.str,.str,.slice,Jf,Jf,Jf,.bool]
abbrev Hh:List Lf:=[.slice,.slice,Jf,Jf,.slice,.slice]
abbrev z30:List Lf:=[J8,J8,J8,J8,J8,J8,J8,J8,J8,J8,J8,J8,J8,J8,J8,J8,J8,J8,J8,J8,J8,J8,J8,J8]
abbrev z2Z:List Lf:=[.int .u64,.int .u64,.int .u64,.int .u64,.int .u64,.int .u64,.int .u64,.int .u64,.int .u64,.int .u64,.int .u64,.int .u64,.int .u64,.int .u64,.int .u64,.int .u64,.int .u64,.int .u64,.int .u64,.int .u64]
abbrev z2Y:List Lf:=[J8,J8,J8,J8,J8,J8,J8,J8,J8,J8,J8,J8,J8,J8,J8,J8,J8,J8,J8,J8,J8,J8,J8,J8,J8,J8,J8,J8,J8,J8,J8,J8,J8,J8,J8,J8,J8,J8,J8,J8,J8,J8,J8,J8,J8,J8,J8,J8,J8,J8,J8,J8,J8,J8,J8,J8,J8,J8,J8,J8,J8,J8,J8,J8,J8]
abbrev z2X:List Lf:=[J8,J8,J8,J8,J8,J8,J8,J8,J8,J8,J8,J8,J8,J8,J8,J8,J8,J8,J8,J8,J8,J8,J8,J8,J8,J8,J8,J8,J8,J8,J8,J8]
abbrev z2W:List Lf:=[J8,J8,J8,J8,J8,J8,J8,J8,J8,J8,J8,J8,J8,J8,J8,J8,J8,J8,J8,J8,J8,J8,J8,J8,J8,J8,J8,J8,J8,J8,J8,J8,J8,J8,J8,J8,J8,J8,J8,J8,J8,J8,J8,J8,J8,J8,J8,J8,J8,J8,J8,J8,J8,J8,J8,J8,J8,J8,J8,J8,J8,J8,J8,J8]
abbrev z2V:List Lf:=[.int .u64,.int .u64,.int .u32,J8,J8,J8,J8,.func,.ptr,.int .i32,.int .i32]
abbrev z2U:List Lf:=[Jf,.str,.str,Jf,Jf,Jf,Jf,Jf,.str,.str,.slice,Jf,Jf,Jf,.bool]
abbrev z2T:List Lf:=[.str,.slice,.slice,Jf,Jf,.slice,.slice]
abbrev qa0(p:pt0):Value:=.agg #[.string p.1,I p.2.1,I p.2.2.1,I p.2.2.2.1,I p.2.2.2.2.1,I p.2.2.2.2.2.1]
abbrev qa1(p:pt1):Value:=.agg #[I p.1,.string p.2.1,.string p.2.2.1,I p.2.2.2.1,I p.2.2.2.2.1,.string p.2.2.2.2.2.1,I p.2.2.2.2.2.2.1,I p.2.2.2.2.2.2.2.1,I p.2.2.2.2.2.2.2.2.1,I p.2.2.2.2.2.2.2.2.2.1,I p.2.2.2.2.2.2.2.2.2.2.1,.string p.2.2.2.2.2.2.2.2.2.2.2.1,.string p.2.2.2.2.2.2.2.2.2.2.2.2.1,.slice p.2.2.2.2.2.2.2.2.2.2.2.2.2.1.a p.2.2.2.2.2.2.2.2.2.2.2.2.2.1.len p.2.2.2.2.2.2.2.2.2.2.2.2.2.1.cap,I p.2.2.2.2.2.2.2.2.2.2.2.2.2.2.1]
abbrev qa2(p:pt8):Value:=.agg #[.bool p.1,.bool p.2.1,.bool p.2.2.1,.bool p.2.2.2.1,.bool p.2.2.2.2.1,.bool p.2.2.2.2.2.1]
abbrev qa3(p:am):Value:=.agg #[.string p.1,I p.2.1,.string p.2.2.1,I p.2.2.2.1,I p.2.2.2.2.1,I p.2.2.2.2.2.1,I p.2.2.2.2.2.2.1,I p.2.2.2.2.2.2.2.1]
abbrev qa4(p:z1X):Value:=.agg #[.slice p.1.a p.1.len p.1.cap,.slice p.2.1.a p.2.1.len p.2.1.cap,I p.2.2.1,I p.2.2.2.1,.slice p.2.2.2.2.1.a p.2.2.2.2.1.len p.2.2.2.2.1.cap,.slice p.2.2.2.2.2.1.a p.2.2.2.2.2.1.len p.2.2.2.2.2.1.cap]
abbrev qa5(p:Rf):Value:=.agg #[.string p.1,I p.2.1,I p.2.2.1,I p.2.2.2.1,I p.2.2.2.2.1,I p.2.2.2.2.2.1,I p.2.2.2.2.2.2.1,I p.2.2.2.2.2.2.2.1,.bool p.2.2.2.2.2.2.2.2.1]
abbrev qa6(p:Re):Value:=.agg #[.string p.1,.string p.2.1,.slice p.2.2.1.a p.2.2.1.len p.2.2.1.cap,I p.2.2.2.1,I p.2.2.2.2.1,I p.2.2.2.2.2.1,.bool p.2.2.2.2.2.2.1]
abbrev eI6:E1:=.one (.int .i64)
abbrev eS6:E1:=.one .str
abbrev eL6:E1:=.one .slice
abbrev eB6:E1:=.one .bool
abbrev eP6:E1:=.one .ptr
abbrev rI:RT:=.one eI6
abbrev rS:RT:=.one eS6
abbrev rL:RT:=.one eL6
abbrev rB:RT:=.one eB6
abbrev rP:RT:=.one eP6
abbrev Sv6(v:Sl):Value:=.slice v.a v.len v.cap
abbrev Ad6(b n:Nat):Addr:=(⟨b,0,none⟩:Addr).add n
noncomputable abbrev Pr:Program:=Tryz.prog
abbrev Qs:Nat:=5
abbrev gD:Nat:=8
abbrev zx:Nat:=10
abbrev QD:Nat:=15
abbrev yq:Nat:=16
abbrev qv:Nat:=17
abbrev Ut:Nat:=18
abbrev jR:Nat:=22
abbrev fC:Nat:=23
abbrev fA:Nat:=24
abbrev fx:Nat:=25
abbrev MH:Nat:=26
abbrev MI:Nat:=27
abbrev vJ:Nat:=28
abbrev zD:Nat:=29
abbrev JZ:Nat:=30
abbrev yY:Nat:=31
abbrev Ym:Nat:=32
abbrev YF:Nat:=33
abbrev yZ:Nat:=34
abbrev YG:Nat:=35
abbrev jm:Nat:=36
abbrev ZP:Nat:=37
abbrev YD:Nat:=38
abbrev Yk:Nat:=39
abbrev YE:Nat:=40
abbrev Yl:Nat:=41
abbrev yS:Nat:=42
abbrev uj:Nat:=43
abbrev ZX:Nat:=45
abbrev oQ:Nat:=47
abbrev Up:Nat:=48
abbrev ol:Nat:=49
abbrev oj:Nat:=50
abbrev JX:Nat:=52
abbrev xP:Nat:=56
abbrev yj:Nat:=57
abbrev Xg:Nat:=58
abbrev Zo:Nat:=59
abbrev kf:Nat:=60
abbrev MF:Nat:=61
abbrev vH:Nat:=62
abbrev Qh:Nat:=63
abbrev xH:Nat:=64
abbrev xT:Nat:=65
abbrev gH:Nat:=66
abbrev kY:Nat:=67
abbrev vI:Nat:=68
abbrev ZE:Nat:=69
abbrev zW:Nat:=70
abbrev Zc:Nat:=71
abbrev xM:Nat:=72
abbrev Ul:Nat:=73
abbrev cm:Nat:=74
abbrev dO:Nat:=75
abbrev xQ:Nat:=76
abbrev ke:Nat:=77
abbrev Xh:Nat:=78
abbrev ue:Nat:=79
abbrev ZF:Nat:=80
abbrev uh:Nat:=81
abbrev XP:Nat:=82
abbrev uk:Nat:=83
abbrev Jh:Nat:=84
abbrev YP:Nat:=85
abbrev zL:Nat:=86
abbrev vi:Nat:=87
abbrev Qg:Nat:=88
abbrev vk:Nat:=89
abbrev Ye:Nat:=90
abbrev ud:Nat:=91
abbrev xR:Nat:=92
abbrev uq:Nat:=93
abbrev Qe:Nat:=94
abbrev vg:Nat:=95
abbrev Qp:Nat:=96
abbrev Us:Nat:=97
abbrev Qf:Nat:=98
abbrev JW:Nat:=99
abbrev uc:Nat:=100
abbrev fB:Nat:=101
abbrev xF:Nat:=102
abbrev Uq:Nat:=103
abbrev gB:Nat:=104
abbrev ug:Nat:=105
abbrev jn:Nat:=106
abbrev JM:Nat:=107
abbrev jL:Nat:=108
abbrev Xl:Nat:=109
abbrev kW:Nat:=110
abbrev ui:Nat:=111
abbrev QC:Nat:=112
abbrev qu:Nat:=113
abbrev jY:Nat:=114
abbrev XQ:Nat:=115
abbrev QV:Nat:=116
abbrev ZN:Nat:=117
abbrev Qq:Nat:=119
abbrev fD:Nat:=120
abbrev oS:Nat:=121
abbrev mq:Nat:=122
abbrev QI:Nat:=123
abbrev vG:Nat:=124
abbrev Zt:Nat:=127
abbrev vR:Nat:=128
abbrev Xk:Nat:=129
abbrev ye:Nat:=130
abbrev oO:Nat:=131
abbrev MG:Nat:=132
abbrev YK:Nat:=137
abbrev Jb:Nat:=138
abbrev YR:Nat:=139
abbrev Jx:Nat:=140
abbrev oh:Nat:=141
abbrev xl:Nat:=142
abbrev xO:Nat:=143
abbrev UH:Nat:=144
abbrev gC:Nat:=145
abbrev oM:Nat:=146
abbrev vh:Nat:=147
abbrev qx:Nat:=148
abbrev yf:Nat:=149
abbrev jv:Nat:=150
abbrev Xz:Nat:=151
abbrev Qd:Nat:=152
abbrev Qb:Nat:=153
abbrev ft:Nat:=154
abbrev ur:Nat:=155
abbrev gF:Nat:=156
abbrev Vl:Nat:=157
abbrev ZR:Nat:=158
abbrev Un:Nat:=159
abbrev JY:Nat:=160
abbrev qy:Nat:=161
abbrev vd:Nat:=162
abbrev vf:Nat:=163
abbrev qw:Nat:=164
abbrev Jc:Nat:=165
abbrev vT:Nat:=166
abbrev Jy:Nat:=167
abbrev oR:Nat:=168
abbrev Qr:Nat:=169
abbrev XA:Nat:=170
abbrev YA:Nat:=171
abbrev oL:Nat:=172
abbrev yz:Nat:=173
abbrev oP:Nat:=174
abbrev vQ:Nat:=175
abbrev XR:Nat:=176
abbrev Xi:Nat:=177
abbrev JO:Nat:=178
abbrev uf:Nat:=179
abbrev kV:Nat:=180
abbrev vj:Nat:=181
abbrev tT:Nat:=182
abbrev QB:Nat:=183
abbrev Vm:Nat:=184
abbrev YX:Nat:=187
abbrev yb:Nat:=195
abbrev kX:Nat:=196
abbrev xk:Nat:=197
abbrev ZH:Nat:=198
abbrev yd:Nat:=199
abbrev XS:Nat:=200
abbrev qz:Nat:=201
abbrev Vy:Nat:=202
abbrev fu:Nat:=203
abbrev gG:Nat:=204
abbrev Ur:Nat:=205
abbrev ym:Nat:=206
abbrev Qc:Nat:=207
abbrev Yg:Nat:=211
abbrev jO:Nat:=212
abbrev Ja:Nat:=213
abbrev QA:Nat:=214
abbrev ul:Nat:=215
abbrev ub:Nat:=216
abbrev xL:Nat:=217
abbrev oN:Nat:=218
abbrev Uo:Nat:=219
abbrev YY:Nat:=220
abbrev YL:Nat:=221
abbrev Xj:Nat:=222
abbrev yA:Nat:=223
abbrev yB:Nat:=224
abbrev ZM:Nat:=225
abbrev ZU:Nat:=226
abbrev Vx:Nat:=227
abbrev yJ:Nat:=228
abbrev Qz:Nat:=229
abbrev yK:Nat:=230
abbrev Ya:Nat:=231
abbrev yg:Nat:=232
abbrev yn:Nat:=233
abbrev Zl:Nat:=234
abbrev Yz:Nat:=235
abbrev jo:Nat:=236
abbrev gE:Nat:=237
abbrev XJ:Nat:=238
abbrev uo:Nat:=239
abbrev YH:Nat:=240
abbrev Jp:Nat:=241
abbrev YS:Nat:=242
abbrev vF:Nat:=243
abbrev jg:Nat:=255
abbrev xS:Nat:=256
abbrev Jv:Nat:=257
abbrev xG:Nat:=258
abbrev jh:Nat:=263
abbrev Zw:Nat:=270
abbrev Zf:Nat:=271
abbrev Um:Nat:=272
abbrev vS:Nat:=273
abbrev Zy:Nat:=274
abbrev uF:Nat:=275
abbrev jZ:Nat:=276
abbrev zQ:Nat:=277
abbrev yp:Nat:=278
abbrev xE:Nat:=279
abbrev JN:Nat:=280
abbrev Zk:Nat:=281
abbrev zY:Nat:=282
abbrev xN:Nat:=283
abbrev jA:Nat:=284
abbrev QW:Nat:=285
abbrev Yf:Nat:=286
abbrev Jz:Nat:=287
abbrev yo:Nat:=288
abbrev Ji:Nat:=305
abbrev oi:Nat:=306
abbrev Jw:Nat:=307
abbrev YQ:Nat:=308
abbrev zH:Nat:=310
abbrev zZ:Nat:=311
abbrev ZL:Nat:=318
abbrev zI:Nat:=319
abbrev Yr:Nat:=331
abbrev ZD:Nat:=336
abbrev T_:Nat:=0
abbrev zp:Nat:=3
abbrev qG:Nat:=4
abbrev Uw:Nat:=5
abbrev zc:Nat:=9
abbrev fS:Nat:=20
abbrev zF:Nat:=23
abbrev ZS:Nat:=24
abbrev yl:Nat:=27
abbrev JG:Nat:=32
abbrev zG:Nat:=34
abbrev zP:Nat:=36
abbrev zu:Nat:=38
abbrev zm:Nat:=40
abbrev jf:Nat:=41
abbrev yO:Nat:=48
abbrev Zg:Nat:=49
abbrev Zb:Nat:=60
abbrev Zh:Nat:=61
abbrev xo:Nat:=62
abbrev zl:Nat:=64
abbrev ZB:Nat:=66
abbrev Jk:Nat:=74
abbrev Zx:Nat:=77
abbrev Gm:Nat:=79
abbrev zq:Nat:=83
abbrev yV:Nat:=86
abbrev cG:Nat:=88
abbrev MW:Nat:=98
abbrev MY:Nat:=103
abbrev fV:Nat:=107
abbrev fU:Nat:=112
abbrev Jl:Nat:=115
abbrev Za:Nat:=120
abbrev xq:Nat:=121
abbrev Mc:Nat:=123
abbrev Mb:Nat:=131
abbrev zV:Nat:=133
abbrev Xr:Nat:=135
abbrev PP:Nat:=137
abbrev yI:Nat:=138
abbrev oV:Nat:=140
abbrev Yb:Nat:=141
abbrev Zr:Nat:=142
abbrev xp:Nat:=143
abbrev cH:Nat:=149
abbrev vV:Nat:=151
abbrev zC:Nat:=172
abbrev qf:Nat:=175
abbrev zz:Nat:=179
abbrev ZQ:Nat:=181
abbrev XE:Nat:=184
abbrev zO:Nat:=210
abbrev Zu:Nat:=220
abbrev mr:Nat:=234
abbrev MX:Nat:=238
abbrev zR:Nat:=242
abbrev ZG:Nat:=244
abbrev zT:Nat:=245
abbrev Zj:Nat:=247
abbrev yk:Nat:=250
abbrev uL:Nat:=254
abbrev cF:Nat:=256
abbrev Xe:Nat:=287
abbrev xr:Nat:=302
abbrev zM:Nat:=304
abbrev zU:Nat:=309
abbrev Zv:Nat:=312
abbrev Ze:Nat:=313
abbrev JF:Nat:=322
abbrev Jg:Nat:=326
abbrev Yh:Nat:=328
abbrev yE:Nat:=332
abbrev Xs:Nat:=335
abbrev oz:Nat:=340
abbrev Bz:Nat:=344
abbrev fT:Nat:=360
abbrev Zn:Nat:=372
abbrev jc:Nat:=375
abbrev yU:Nat:=377
abbrev kM:Nat:=381
abbrev uu:Nat:=387
abbrev xV:Nat:=413
abbrev By:Nat:=416
abbrev ZY:Nat:=427
abbrev zr:Nat:=429
def s_:B0:=⟨#[]⟩
def WY:B0:=⟨#[119,101,98]⟩
def s__:B0:=⟨#[59]⟩
def sq:B0:=⟨#[98,97,100]⟩
def fe:B0:=⟨#[116,105,99,107,32,49]⟩
def Oj:B0:=⟨#[32]⟩
def la:B0:=⟨#[99,111,110,102,105,103]⟩
def Bb:B0:=⟨#[114,111,117,116,101]⟩
def tL:B0:=⟨#[100,114,111,112,112,101,100]⟩
def JL:B0:=⟨#[115,99,97,108,101]⟩
def WZ:B0:=⟨#[117,112]⟩
def Pf:B0:=⟨#[112,114,111,118,101,100]⟩
def tM:B0:=⟨#[100,111,119,110]⟩
def Ra:B0:=⟨#[116,105,99,107]⟩
def AR:B0:=⟨#[115,97,109,101]⟩
def gw:B0:=⟨#[114,101,118,105,115,105,111,110]⟩
def bY:B0:=⟨#[116,97,98,108,101]⟩
def AW:B0:=⟨#[109,97,100,101]⟩
def AZ:B0:=⟨#[103,111,110,101]⟩
def CF:B0:=⟨#[102,108,101,101,116]⟩
def qt:B0:=⟨#[98,97,100,32]⟩
def z1S:B0:=⟨#[111,107]⟩
def AU:B0:=⟨#[110,97,109,101]⟩
def iN:B0:=⟨#[97,114,103]⟩
def AX:B0:=⟨#[108,111,110,103]⟩
def iL:B0:=⟨#[115,117,109]⟩
def Pe:B0:=⟨#[116,119,105,99,101]⟩
def AS:B0:=⟨#[110,111,110,101]⟩
def CG:B0:=⟨#[101,114,114,111,114]⟩
def Ba:B0:=⟨#[115,116,97,108,101]⟩
def sj:B0:=⟨#[102,117,108,108]⟩
def bZ:B0:=⟨#[115,116,97,116,101]⟩
def iM:B0:=⟨#[99,117,116]⟩
def AV:B0:=⟨#[109,111,114,101]⟩
def AY:B0:=⟨#[107,105,110,100]⟩
def uD:B0:=⟨#[114,101,102,117,115,101,100]⟩
def gx:B0:=⟨#[110,111,45,114,111,117,116,101]⟩
def kQ:B0:=⟨#[111,118,101,114,102,108,111,119]⟩
def UX:B0:=⟨#[112,111,100,45,108,111,115,116]⟩
def kF:B0:=⟨#[116,105,109,101,111,117,116]⟩
def Oi:B0:=⟨#[58]⟩
def Oh:B0:=⟨#[61]⟩
def xJ:B0:=⟨#[45]⟩
def AQ:B0:=⟨#[115,101,110,116]⟩
def bX:B0:=⟨#[119,97,105,116,115]⟩
def sn:B0:=⟨#[100,111,110,101]⟩
def tq0:TI:=⟨.func,1,some (.one (.func)),some [.nilFunc]⟩
def tq1:TI:=⟨.int .i64,1,some (.one (.int .i64)),some [I 0]⟩
def tq2:TI:=⟨.int .u8,1,some (.one (.int .u8)),some [.int .u8 0]⟩
def tq3:TI:=⟨.struct [(2,0),(3,1),(4,2),(6,3)],4,some (.agg [.int .i64,.int .i64,.bool,.int .u8]),some [I 0,I 0,.bool false,.int .u8 0]⟩
def tq4:TI:=⟨.str,1,some (.one (.str)),some [.string s_]⟩
def tq5:TI:=⟨.int .u64,1,some (.one (.int .u64)),some [.int .u64 0]⟩
def tq6:TI:=⟨.struct [(9,0),(12,1)],2,some (.agg [.str,.int .u64]),some [.string s_,.int .u64 0]⟩
def tq7:TI:=⟨.ptr,1,some (.one (.ptr)),some [.pointer none]⟩
def tq8:TI:=⟨.struct [(17,0)],1,some (.agg [.ptr]),some [.pointer none]⟩
def tq9:TI:=⟨.iface,1,some (.one (.iface)),some [.nilIface]⟩
def Im:TI:=⟨.int .i32,1,some (.one (.int .i32)),some [.int .i32 0]⟩
def z1P:TI:=⟨.struct [(9,0),(3,1),(3,2),(3,3),(3,4),(3,5)],6,some (.agg lf0),some [.string s_,I 0,I 0,I 0,I 0,I 0]⟩
def z1O:TI:=⟨.struct [(9,0),(9,1),(32,2),(3,3)],4,some (.agg [.str,.str,.slice,.int .i64]),some [.string s_,.string s_,.slice none 0 0,I 0]⟩
def z1N:TI:=⟨.struct [(3,0),(9,1),(9,2),(3,3),(3,4),(23,5),(34,11)],15,some (.agg lf1),some [I 0,.string s_,.string s_,I 0,I 0,.string s_,I 0,I 0,I 0,I 0,I 0,.string s_,.string s_,.slice none 0 0,I 0]⟩
def z1M:TI:=⟨.struct [(9,0),(9,1),(3,2)],3,some (.agg [.str,.str,.int .i64]),some [.string s_,.string s_,I 0]⟩
def EK:TI:=⟨.struct [(9,0),(3,1)],2,some (.agg [.str,.int .i64]),some [.string s_,I 0]⟩
def z1L:TI:=⟨.struct [(61,0),(62,1)],2,some (.agg [.slice,.slice]),some [.slice none 0 0,.slice none 0 0]⟩
def z1K:TI:=⟨.map 9 175,1,some (.one (.map)),some [.map none]⟩
def z1J:TI:=⟨.struct [(68,0),(70,1),(72,2),(66,3),(74,4),(77,5),(3,6)],7,some (.agg lf2),some [.pointer none,.pointer none,.pointer none,.pointer none,.pointer none,.map none,I 0]⟩
def z1I:TI:=⟨.struct [(40,0)],1,some (.agg [.slice]),some [.slice none 0 0]⟩
def z1H:TI:=⟨.struct [(96,0),(3,1)],2,some (.agg [.slice,.int .i64]),some [.slice none 0 0,I 0]⟩
def z1G:TI:=⟨.struct [(100,0),(101,1)],2,some (.agg [.slice,.slice]),some [.slice none 0 0,.slice none 0 0]⟩
def z1F:TI:=⟨.struct [(105,0)],1,some (.agg [.slice]),some [.slice none 0 0]⟩
def z1E:TI:=⟨.struct [(3,0),(95,1),(99,2),(104,3),(93,4),(108,5),(110,6)],7,some (.agg lf3),some [I 0,.pointer none,.pointer none,.pointer none,.pointer none,.pointer none,.slice none 0 0]⟩
def z1D:TI:=⟨.struct [(9,0),(9,1)],2,some (.agg [.str,.str]),some [.string s_,.string s_]⟩
def z1C:TI:=⟨.struct [(120,0),(121,1),(3,2),(3,3)],4,some (.agg [.map,.map,.int .i64,.int .i64]),some [.map none,.map none,I 0,I 0]⟩
def z1B:TI:=⟨.struct [(124,0),(127,1),(3,2)],3,some (.agg [.ptr,.ptr,.int .i64]),some [.pointer none,.pointer none,I 0]⟩
def z1A:TI:=⟨.map 9 210,1,some (.one (.map)),some [.map none]⟩
def z1z:TI:=⟨.map 9 4,1,some (.one (.map)),some [.map none]⟩
def z1y:TI:=⟨.struct [(133,0),(135,1)],2,some (.agg [.map,.map]),some [.map none,.map none]⟩
def z1x:TI:=⟨.struct [(138,0)],1,some (.agg [.map]),some [.map none]⟩
def z1w:TI:=⟨.struct [(142,0),(145,1)],2,some (.agg [.map,.func]),some [.map none,.nilFunc]⟩
def z1v:TI:=⟨.struct [(66,0),(141,1),(147,2),(3,4),(3,5)],6,some (.agg lf4),some [.pointer none,.map none,.map none,.nilFunc,I 0,I 0]⟩
def z1u:TI:=⟨.struct [(4,0),(4,1),(4,2),(4,3),(4,4),(4,5)],6,some (.agg lf5),some [.bool false,.bool false,.bool false,.bool false,.bool false,.bool false]⟩
def z1t:TI:=⟨.struct [(3,0),(3,1),(3,2),(9,3)],4,some (.agg [.int .i64,.int .i64,.int .i64,.str]),some [I 0,I 0,I 0,.string s_]⟩
def CR:TI:=⟨.struct [(3,0),(3,1)],2,some (.agg [.int .i64,.int .i64]),some [I 0,I 0]⟩
def z1s:TI:=⟨.struct [(182,0),(181,1)],3,some (.agg [.ptr,.int .i64,.int .i64]),some [.pointer none,I 0,I 0]⟩
def z1r:TI:=⟨.struct [(9,0),(3,1),(23,2)],8,some (.agg lf6),some [.string s_,I 0,.string s_,I 0,I 0,I 0,I 0,I 0]⟩
def z1q:TI:=⟨.struct [(3,0),(3,1),(232,2)],3,some (.agg [.int .i64,.int .i64,.slice]),some [I 0,I 0,.slice none 0 0]⟩
def z1p:TI:=⟨.struct [(93,0),(3,1),(3,2),(235,3),(40,4),(236,5)],6,some (.agg lf7),some [.pointer none,I 0,I 0,.slice none 0 0,.slice none 0 0,.slice none 0 0]⟩
def z1o:TI:=⟨.struct [(242,0),(126,1)],2,some (.agg [.map,.func]),some [.map none,.nilFunc]⟩
def z1n:TI:=⟨.struct [(245,0),(129,1)],2,some (.agg [.map,.func]),some [.map none,.nilFunc]⟩
def z1m:TI:=⟨.struct [(250,0)],1,some (.agg [.slice]),some [.slice none 0 0]⟩
def z1l:TI:=⟨.struct [(252,0),(3,1)],2,some (.agg [.slice,.int .i64]),some [.slice none 0 0,I 0]⟩
def z1k:TI:=⟨.struct [(259,0),(48,1)],2,some (.agg [.ptr,.slice]),some [.pointer none,.slice none 0 0]⟩
def z1j:TI:=⟨.struct [(9,0),(285,1)],2,some (.agg [.str,.ptr]),some [.string s_,.pointer none]⟩
def z1i:TI:=⟨.struct [(298,0),(3,60)],61,some (.agg lf9),some (List.replicate 61 (I 0))⟩
def z1h:TI:=⟨.struct [(300,0),(3,61)],62,some (.agg z35),some (List.replicate 62 (I 0))⟩
def z1g:TI:=⟨.struct [(23,0),(3,6),(3,7),(4,8)],9,some (.agg wP),some [.string s_,I 0,I 0,I 0,I 0,I 0,I 0,I 0,.bool false]⟩
def z1f:TI:=⟨.struct [(34,0),(3,4),(3,5),(4,6)],7,some (.agg wO),some [.string s_,.string s_,.slice none 0 0,I 0,I 0,I 0,.bool false]⟩
def z1e:TI:=⟨.arr 2 9,2,some (.agg [.str,.str]),some [.string s_,.string s_]⟩
def z1d:TI:=⟨.struct [(61,0),(61,1),(3,2),(3,3),(64,4)],6,some (.agg Hh),some [.slice none 0 0,.slice none 0 0,I 0,I 0,.slice none 0 0,.slice none 0 0]⟩
def z1c:TI:=⟨.struct [(3,0),(3,1),(3,2)],3,some (.agg [.int .i64,.int .i64,.int .i64]),some [I 0,I 0,I 0]⟩
def z1b:TI:=⟨.struct [(48,0),(4,1)],2,some (.agg [.slice,.bool]),some [.slice none 0 0,.bool false]⟩
def z1a:TI:=⟨.struct [(377,0),(3,1)],2,some (.agg [.map,.int .i64]),some [.map none,I 0]⟩
def z19:TI:=⟨.struct [(3,0),(379,1)],3,some (.agg [.int .i64,.map,.int .i64]),some [I 0,.map none,I 0]⟩
def z18:TI:=⟨.struct [(9,0),(9,1),(263,2)],3,some (.agg [.str,.str,.iface]),some [.string s_,.string s_,.nilIface]⟩
def z0Z:TI:=⟨.struct [(9,0)],1,some (.agg [.str]),some [.string s_]⟩
def z0Y:TI:=⟨.struct [(17,0),(17,1),(17,2),(9,3)],4,some (.agg [.ptr,.ptr,.ptr,.str]),some [.pointer none,.pointer none,.pointer none,.string s_]⟩
def z0X:TI:=⟨.struct [(488,0)],0,some (.agg []),some []⟩
def z0W:TI:=⟨.struct [(12,0),(12,1),(410,2),(491,3),(5,4),(5,5),(492,6),(493,7),(369,8),(494,9),(495,10)],11,some (.agg z2V),some [.int .u64 0,.int .u64 0,.int .u32 0,.int .u8 0,.int .u8 0,.int .u8 0,.int .u8 0,.nilFunc,.pointer none,.int .i32 0,.int .i32 0]⟩
def z0V:TI:=⟨.struct [(3,0),(9,1),(23,2),(34,8),(3,12),(3,13),(4,14)],15,some (.agg z2U),some [I 0,.string s_,.string s_,I 0,I 0,I 0,I 0,I 0,.string s_,.string s_,.slice none 0 0,I 0,I 0,I 0,.bool false]⟩
def z0U:TI:=⟨.struct [(9,0),(61,1),(61,2),(3,3),(3,4),(64,5)],7,some (.agg z2T),some [.string s_,.slice none 0 0,.slice none 0 0,I 0,I 0,.slice none 0 0,.slice none 0 0]⟩
def z0T:TI:=⟨.struct [(9,0),(510,1),(511,2)],4,some (.agg [.str,.ptr,.int .i64,.int .i64]),some [.string s_,.pointer none,I 0,I 0]⟩
def z0S:TI:=⟨.struct [(3,0),(9,1),(514,2)],3,some (.agg [.int .i64,.str,.ptr]),some [I 0,.string s_,.pointer none]⟩
def z0R:TI:=⟨.struct [(3,0),(3,1),(9,2)],3,some (.agg [.int .i64,.int .i64,.str]),some [I 0,I 0,.string s_]⟩
def z0Q:TI:=⟨.struct [(3,0),(519,1)],2,some (.agg [.int .i64,.slice]),some [I 0,.slice none 0 0]⟩
def z0P:TI:=⟨.struct [(24,0)],1,some (.agg [.slice]),some [.slice none 0 0]⟩
def z0O:TI:=⟨.struct [(3,0),(3,1),(24,2)],3,some (.agg [.int .i64,.int .i64,.slice]),some [I 0,I 0,.slice none 0 0]⟩
def Dt:Tb:=⟨528,379,(.node ⟨.tuple [],1,none,none⟩ (.node tq0 (.node tq1 (.node tq3 (.node tq7 (.node tq0 (.node z1L (.node tq7 (.node CR (.node CR .nil .nil) .nil) (.node tq0 .nil .nil)) (.node ⟨.tuple [24,28],1,none,none⟩ (.node tq0 .nil .nil) (.node ⟨.tuple [410,410],1,none,none⟩ .nil .nil))) (.node tq7 (.node tq0 (.node z1j .nil .nil) (.node tq0 .nil .nil)) (.node tq0 (.node tq0 .nil .nil) (.node z0Z .nil .nil)))) (.node tq0 (.node z1J (.node tq7 (.node tq0 (.node CR .nil .nil) .nil) (.node tq0 .nil .nil)) (.node tq0 (.node z1c .nil .nil) (.node tq0 .nil .nil))) (.node z1E (.node tq7 (.node z1g .nil .nil) (.node tq0 .nil .nil)) (.node ⟨.tuple [9,3,4],1,none,none⟩ (.node tq0 .nil .nil) (.node Im .nil .nil))))) (.node z1P (.node ⟨.slice 36,1,some eL6,some [.slice none 0 0]⟩ (.node tq0 (.node z1z (.node tq9 (.node ⟨.slice 527,1,some eL6,some [.slice none 0 0]⟩ .nil .nil) .nil) (.node tq0 .nil .nil)) (.node tq0 (.node z1d .nil .nil) (.node tq0 .nil .nil))) (.node z1G (.node tq0 (.node tq0 .nil .nil) (.node ⟨.tuple [48,9],1,none,none⟩ .nil .nil)) (.node tq0 (.node z1b .nil .nil) (.node z0Y .nil .nil)))) (.node tq0 (.node z1I (.node z1u (.node ⟨.tuple [179,4],1,none,none⟩ .nil .nil) (.node tq0 .nil .nil)) (.node tq0 (.node tq0 .nil .nil) (.node tq0 .nil .nil))) (.node tq0 (.node z1s (.node tq0 .nil .nil) (.node tq0 .nil .nil)) (.node z1n (.node CR .nil .nil) (.node tq7 .nil .nil)))))) (.node tq4 (.node tq8 (.node z1N (.node tq0 (.node z1B (.node tq7 (.node z0S .nil .nil) .nil) (.node tq7 .nil .nil)) (.node tq0 (.node ⟨.tuple [322,322],1,none,none⟩ .nil .nil) (.node tq0 .nil .nil))) (.node tq7 (.node tq0 (.node tq0 .nil .nil) (.node tq0 .nil .nil)) (.node tq0 (.node ⟨.slice 353,1,some eL6,some [.slice none 0 0]⟩ .nil .nil) (.node tq0 .nil .nil)))) (.node tq0 (.node ⟨.map 3 41,1,some (.one (.map)),some [.map none]⟩ (.node z1w (.node tq0 .nil .nil) (.node ⟨.tuple [3,402],1,none,none⟩ .nil .nil)) (.node ⟨.tuple [210,4],1,none,none⟩ (.node tq0 .nil .nil) (.node z18 .nil .nil))) (.node z1D (.node z1t (.node tq0 .nil .nil) (.node tq0 .nil .nil)) (.node z1o (.node ⟨.tuple [220,4],1,none,none⟩ .nil .nil) (.node tq0 .nil .nil))))) (.node tq7 (.node tq0 (.node tq0 (.node z1x (.node tq0 (.node z0P .nil .nil) .nil) (.node tq0 .nil .nil)) (.node ⟨.tuple [34,3,4],1,none,none⟩ (.node tq0 .nil .nil) (.node tq0 .nil .nil))) (.node z1F (.node tq0 (.node z1i .nil .nil) (.node ⟨.slice 429,1,some eL6,some [.slice none 0 0]⟩ .nil .nil)) (.node ⟨.slice 504,1,some eL6,some [.slice none 0 0]⟩ (.node tq0 .nil .nil) (.node tq2 .nil .nil)))) (.node EK (.node tq0 (.node tq0 (.node ⟨.tuple [9,28],1,none,none⟩ .nil .nil) (.node tq0 .nil .nil)) (.node EK (.node tq0 .nil .nil) (.node tq0 .nil .nil))) (.node z1C (.node tq0 (.node tq0 .nil .nil) (.node tq0 .nil .nil)) (.node z1m (.node z1a .nil .nil) (.node z0V .nil .nil))))))) (.node tq2 (.node tq4 (.node tq7 (.node z1O (.node tq0 (.node tq0 (.node tq0 (.node z0T .nil .nil) .nil) (.node tq0 .nil .nil)) (.node tq0 (.node tq0 .nil .nil) (.node tq1 .nil .nil))) (.node z1H (.node tq0 (.node tq0 .nil .nil) (.node ⟨.slice 416,1,some eL6,some [.slice none 0 0]⟩ .nil .nil)) (.node tq0 (.node tq0 .nil .nil) (.node ⟨.arr 32 5,32,some (.agg z2X),some (List.replicate 32 (.int .u8 0))⟩ .nil .nil)))) (.node ⟨.slice 48,1,some eL6,some [.slice none 0 0]⟩ (.node tq0 (.node tq0 (.node tq0 .nil .nil) (.node tq0 .nil .nil)) (.node z1r (.node tq0 .nil .nil) (.node tq0 .nil .nil))) (.node tq0 (.node tq0 (.node ⟨.tuple [304,4],1,none,none⟩ .nil .nil) (.node tq0 .nil .nil)) (.node tq0 (.node tq7 .nil .nil) (.node z0W .nil .nil))))) (.node tq0 (.node tq0 (.node tq0 (.node z1y (.node tq0 (.node z0Q .nil .nil) .nil) (.node tq0 .nil .nil)) (.node tq0 (.node ⟨.tuple [328,4],1,none,none⟩ .nil .nil) (.node ⟨.arr 65 5,65,some (.agg z2Y),some (List.replicate 65 (.int .u8 0))⟩ .nil .nil))) (.node ⟨.slice 501,1,some eL6,some [.slice none 0 0]⟩ (.node tq0 (.node tq0 .nil .nil) (.node ⟨.other,1,none,none⟩ .nil .nil)) (.node z1q (.node tq0 .nil .nil) (.node z0X .nil .nil)))) (.node tq0 (.node tq0 (.node tq0 (.node tq0 .nil .nil) (.node tq0 .nil .nil)) (.node tq0 (.node tq0 .nil .nil) (.node tq0 .nil .nil))) (.node ⟨.map 3 3,1,some (.one (.map)),some [.map none]⟩ (.node tq0 (.node ⟨.map 9 9,1,some (.one (.map)),some [.map none]⟩ .nil .nil) (.node tq0 .nil .nil)) (.node tq0 (.node ⟨.map 3 4,1,some (.one (.map)),some [.map none]⟩ .nil .nil) (.node tq7 .nil .nil)))))) (.node tq6 (.node Im (.node z1M (.node tq0 (.node z1A (.node z1k (.node z0R .nil .nil) .nil) (.node tq0 .nil .nil)) (.node tq0 (.node z1e .nil .nil) (.node tq0 .nil .nil))) (.node ⟨.slice 4,1,some eL6,some [.slice none 0 0]⟩ (.node tq0 (.node tq0 .nil .nil) (.node ⟨.arr 24 5,24,some (.agg z30),some (List.replicate 24 (.int .u8 0))⟩ .nil .nil)) (.node tq0 (.node tq0 .nil .nil) (.node tq0 .nil .nil)))) (.node tq7 (.node tq0 (.node z1v (.node tq0 .nil .nil) (.node tq0 .nil .nil)) (.node tq0 (.node tq0 .nil .nil) (.node tq0 .nil .nil))) (.node tq0 (.node CR (.node z1f .nil .nil) (.node tq0 .nil .nil)) (.node ⟨.map 9 309,1,some (.one (.map)),some [.map none]⟩ (.node tq0 .nil .nil) (.node tq7 .nil .nil))))) (.node ⟨.tuple [27,28],1,none,none⟩ (.node ⟨.tuple [3,3,3,3],1,none,none⟩ (.node z1K (.node ⟨.map 3 220,1,some (.one (.map)),some [.map none]⟩ (.node tq0 (.node z0O .nil .nil) .nil) (.node tq0 .nil .nil)) (.node ⟨.tuple [64,28],1,none,none⟩ (.node tq0 .nil .nil) (.node tq0 .nil .nil))) (.node tq0 (.node tq0 (.node z1h .nil .nil) (.node CR .nil .nil)) (.node z1p (.node tq0 .nil .nil) (.node tq0 .nil .nil)))) (.node ⟨.slice 60,1,some eL6,some [.slice none 0 0]⟩ (.node tq7 (.node tq0 (.node tq7 .nil .nil) (.node tq7 .nil .nil)) (.node tq0 (.node tq5 .nil .nil) (.node tq0 .nil .nil))) (.node tq0 (.node tq0 (.node tq0 .nil .nil) (.node tq0 .nil .nil)) (.node z1l (.node z19 .nil .nil) (.node z0U .nil .nil)))))))) (.node tq1 (.node ⟨.bool,1,some eB6,some [.bool false]⟩ (.node tq3 (.node tq7 (.node ⟨.slice 38,1,some eL6,some [.slice none 0 0]⟩ (.node z1L (.node tq0 (.node CR (.node z0T .nil .nil) .nil) (.node tq0 .nil .nil)) (.node tq0 (.node tq0 .nil .nil) (.node tq0 .nil .nil))) (.node ⟨.slice 500,1,some eL6,some [.slice none 0 0]⟩ (.node tq0 (.node ⟨.tuple [287,4],1,none,none⟩ .nil .nil) (.node tq7 .nil .nil)) (.node tq0 (.node tq0 .nil .nil) (.node z0Z .nil .nil)))) (.node ⟨.slice 5,1,some eL6,some [.slice none 0 0]⟩ (.node tq0 (.node tq0 (.node ⟨.tuple [64,4],1,none,none⟩ .nil .nil) (.node tq0 .nil .nil)) (.node tq0 (.node tq0 .nil .nil) (.node ⟨.tuple [412,263],1,none,none⟩ .nil .nil))) (.node z1E (.node ⟨.tuple [175,4],1,none,none⟩ (.node z1g .nil .nil) (.node tq7 .nil .nil)) (.node tq0 (.node tq0 .nil .nil) (.node z0W .nil .nil))))) (.node ⟨.slice 3,1,some eL6,some [.slice none 0 0]⟩ (.node ⟨.slice 9,1,some eL6,some [.slice none 0 0]⟩ (.node tq7 (.node z1y (.node ⟨.tuple [3,263],1,none,none⟩ (.node z0Q .nil .nil) .nil) (.node tq0 .nil .nil)) (.node ⟨.tuple [9,4],1,none,none⟩ (.node z1d .nil .nil) (.node ⟨.arr 20 412,20,some (.agg z2Z),some (List.replicate 20 (.int .u64 0))⟩ .nil .nil))) (.node tq7 (.node tq0 (.node tq0 .nil .nil) (.node tq0 .nil .nil)) (.node ⟨.slice 503,1,some eL6,some [.slice none 0 0]⟩ (.node z1b .nil .nil) (.node ⟨.arr 0 16,0,some (.agg []),some []⟩ .nil .nil)))) (.node tq0 (.node z1I (.node ⟨.tuple [151,4],1,none,none⟩ (.node tq0 .nil .nil) (.node tq0 .nil .nil)) (.node tq0 (.node ⟨.arr 4 3,4,some (.agg [.int .i64,.int .i64,.int .i64,.int .i64]),some [I 0,I 0,I 0,I 0]⟩ .nil .nil) (.node tq0 .nil .nil))) (.node ⟨.map 3 287,1,some (.one (.map)),some [.map none]⟩ (.node z1s (.node ⟨.map 9 3,1,some (.one (.map)),some [.map none]⟩ .nil .nil) (.node tq0 .nil .nil)) (.node tq0 (.node tq0 .nil .nil) (.node tq7 .nil .nil)))))) (.node tq5 (.node tq9 (.node z1N (.node tq7 (.node z1A (.node z1k (.node z0S .nil .nil) .nil) (.node ⟨.tuple [9,9],1,none,none⟩ .nil .nil)) (.node tq0 (.node tq0 .nil .nil) (.node tq7 .nil .nil))) (.node ⟨.slice 210,1,some eL6,some [.slice none 0 0]⟩ (.node ⟨.tuple [3,28],1,none,none⟩ (.node tq0 .nil .nil) (.node tq0 .nil .nil)) (.node tq0 (.node tq0 .nil .nil) (.node tq0 .nil .nil)))) (.node tq0 (.node tq0 (.node z1v (.node tq0 .nil .nil) (.node tq0 .nil .nil)) (.node tq0 (.node ⟨.arr 2 3,2,some (.agg [.int .i64,.int .i64]),some [I 0,I 0]⟩ .nil .nil) (.node z18 .nil .nil))) (.node tq0 (.node CR (.node z1f .nil .nil) (.node ⟨.slice 61,1,some eL6,some [.slice none 0 0]⟩ .nil .nil)) (.node z1o (.node tq7 .nil .nil) (.node tq7 .nil .nil))))) (.node tq1 (.node tq0 (.node z1K (.node z1x (.node tq0 (.node z0O .nil .nil) .nil) (.node tq0 .nil .nil)) (.node tq0 (.node ⟨.slice 335,1,some eL6,some [.slice none 0 0]⟩ .nil .nil) (.node tq0 .nil .nil))) (.node tq7 (.node ⟨.slice 179,1,some eL6,some [.slice none 0 0]⟩ (.node z1i .nil .nil) (.node CR .nil .nil)) (.node ⟨.slice 505,1,some eL6,some [.slice none 0 0]⟩ (.node tq0 .nil .nil) (.node tq2 .nil .nil)))) (.node EK (.node tq0 (.node tq0 (.node tq0 .nil .nil) (.node tq5 .nil .nil)) (.node EK (.node tq0 .nil .nil) (.node tq0 .nil .nil))) (.node tq7 (.node tq0 (.node tq0 .nil .nil) (.node tq0 .nil .nil)) (.node z1m (.node z19 .nil .nil) (.node z0U .nil .nil))))))) (.node tq2 (.node tq4 (.node tq8 (.node z1O (.node tq7 (.node z1B (.node tq0 (.node tq7 .nil .nil) .nil) (.node tq0 .nil .nil)) (.node tq0 (.node ⟨.slice 326,1,some eL6,some [.slice none 0 0]⟩ .nil .nil) (.node ⟨.tuple [2,263],1,none,none⟩ .nil .nil))) (.node z1H (.node tq0 (.node ⟨.tuple [3,4],1,none,none⟩ .nil .nil) (.node tq0 .nil .nil)) (.node tq0 (.node tq0 .nil .nil) (.node ⟨.arr 64 5,64,some (.agg z2W),some (List.replicate 64 (.int .u8 0))⟩ .nil .nil)))) (.node ⟨.tuple [40,28],1,none,none⟩ (.node tq0 (.node z1w (.node tq0 .nil .nil) (.node tq1 .nil .nil)) (.node z1r (.node tq0 .nil .nil) (.node tq0 .nil .nil))) (.node z1D (.node z1t (.node tq0 .nil .nil) (.node tq0 .nil .nil)) (.node ⟨.map 9 304,1,some (.one (.map)),some [.map none]⟩ (.node tq0 .nil .nil) (.node tq0 .nil .nil))))) (.node tq0 (.node ⟨.tuple [24,24],1,none,none⟩ (.node tq7 (.node ⟨.map 9 328,1,some (.one (.map)),some [.map none]⟩ (.node tq0 (.node z0P .nil .nil) .nil) (.node tq0 .nil .nil)) (.node tq0 (.node tq0 .nil .nil) (.node tq0 .nil .nil))) (.node z1F (.node tq0 (.node ⟨.arr 60 3,60,some (.agg lf8),some (List.replicate 60 (I 0))⟩ .nil .nil) (.node tq0 .nil .nil)) (.node z1q (.node tq0 .nil .nil) (.node z0X .nil .nil)))) (.node tq0 (.node tq0 (.node tq0 (.node tq0 .nil .nil) (.node ⟨.int .u32,1,some (.one (.int .u32)),some [.int .u32 0]⟩ .nil .nil)) (.node tq0 (.node tq0 .nil .nil) (.node tq0 .nil .nil))) (.node z1C (.node ⟨.tuple [172,28],1,none,none⟩ (.node tq0 .nil .nil) (.node tq5 .nil .nil)) (.node ⟨.slice 375,1,some eL6,some [.slice none 0 0]⟩ (.node z1a .nil .nil) (.node z0V .nil .nil)))))) (.node tq6 (.node z1P (.node z1M (.node tq7 (.node z1z (.node tq9 (.node z0R .nil .nil) .nil) (.node tq0 .nil .nil)) (.node ⟨.tuple [23,3,3,4],1,none,none⟩ (.node z1e .nil .nil) (.node tq0 .nil .nil))) (.node z1G (.node tq0 (.node tq0 .nil .nil) (.node tq0 .nil .nil)) (.node ⟨.tuple [36,28],1,none,none⟩ (.node tq7 .nil .nil) (.node z0Y .nil .nil)))) (.node ⟨.tuple [53,3],1,none,none⟩ (.node tq7 (.node z1u (.node tq0 .nil .nil) (.node tq0 .nil .nil)) (.node ⟨.tuple [3,3],1,none,none⟩ (.node tq0 .nil .nil) (.node tq0 .nil .nil))) (.node tq0 (.node tq7 (.node ⟨.tuple [309,4],1,none,none⟩ .nil .nil) (.node tq0 .nil .nil)) (.node z1n (.node CR .nil .nil) (.node tq7 .nil .nil))))) (.node tq0 (.node tq0 (.node z1J (.node ⟨.map 9 143,1,some (.one (.map)),some [.map none]⟩ (.node tq0 (.node CR .nil .nil) .nil) (.node tq0 .nil .nil)) (.node tq0 (.node z1c .nil .nil) (.node tq7 .nil .nil))) (.node ⟨.slice 502,1,some eL6,some [.slice none 0 0]⟩ (.node tq0 (.node z1h .nil .nil) (.node tq0 .nil .nil)) (.node z1p (.node tq0 .nil .nil) (.node Im .nil .nil)))) (.node ⟨.slice 115,1,some eL6,some [.slice none 0 0]⟩ (.node tq0 (.node tq0 (.node z1j .nil .nil) (.node tq0 .nil .nil)) (.node ⟨.tuple [143,4],1,none,none⟩ (.node tq0 .nil .nil) (.node tq7 .nil .nil))) (.node tq0 (.node tq0 (.node tq0 .nil .nil) (.node tq0 .nil .nil)) (.node z1l (.node tq0 .nil .nil) (.node tq7 .nil .nil))))))))),(.node none (.node none (.node none (.node none (.node (some rB) (.node (some rL) (.node (some rB) (.node (some rB) (.node (some (.tup [])) .nil .nil) .nil) (.node none (.node (some (.tup [])) .nil .nil) .nil)) (.node (some rL) (.node (some (.tup [eL6,eI6])) (.node (some (.tup [])) .nil .nil) .nil) (.node (some rI) .nil .nil))) (.node (some (.one (.one (.func)))) (.node (some rI) (.node (some rI) (.node (some rI) .nil .nil) .nil) (.node (some rB) .nil .nil)) (.node (some rI) (.node (some rL) .nil .nil) (.node (some rL) .nil .nil)))) (.node (some rP) (.node (some rL) (.node (some rI) (.node none (.node (some rI) .nil .nil) .nil) (.node (some rS) .nil .nil)) (.node (some (.tup [(.agg [.slice,.slice]),eI6])) (.node (some (.tup [(.agg wO),eB6])) .nil .nil) (.node (some (.one (.one (.func)))) .nil .nil))) (.node none (.node (some (.tup [eL6,eI6])) (.node (some rI) (.node (some rS) .nil .nil) .nil) (.node (some (.tup [eI6,eB6])) .nil .nil)) (.node (some (.one (.one (.func)))) (.node (some rI) (.node (some (.tup [])) .nil .nil) .nil) .nil)))) (.node none (.node none (.node (some rL) (.node (some rB) (.node (some rI) .nil .nil) (.node (some (.tup [])) .nil .nil)) (.node (some (.tup [(.agg lf0),eI6,eI6,eB6])) (.node (some rL) .nil .nil) (.node (some rL) .nil .nil))) (.node none (.node (some rL) (.node (some rB) (.node (some rL) .nil .nil) .nil) (.node (some rL) .nil .nil)) (.node (some (.tup [])) (.node (some rI) (.node (some rL) .nil .nil) .nil) (.node (some (.tup [])) .nil .nil)))) (.node (some rP) (.node (some (.tup [eL6,eL6])) (.node (some rS) (.node (some rI) .nil .nil) (.node (some (.tup [eI6,(.one (.iface))])) (.node (some (.tup [])) .nil .nil) .nil)) (.node (some rI) (.node (some (.one (.agg [.slice,.slice]))) .nil .nil) (.node (some rL) .nil .nil))) (.node (some rB) (.node (some rI) (.node (some (.tup [eS6,eI6])) (.node (some rL) .nil .nil) .nil) (.node (some rI) .nil .nil)) (.node (some (.tup [eS6,eI6,eB6])) (.node (some (.one (.one (.func)))) .nil .nil) .nil))))) (.node (some rB) (.node none (.node (some (.tup [eL6,eI6])) (.node (some rL) (.node (some rB) (.node (some rB) (.node (some rL) .nil .nil) .nil) .nil) (.node (some (.tup [])) (.node (some (.one (.one (.func)))) .nil .nil) (.node (some rL) .nil .nil))) (.node (some rP) (.node (some (.tup [])) (.node (some rS) (.node (some rL) .nil .nil) .nil) .nil) (.node (some rI) (.node (some rI) (.node (some (.tup [])) .nil .nil) .nil) (.node (some (.one (.one (.func)))) .nil .nil)))) (.node (some rP) (.node (some rL) (.node (some rS) (.node (some rI) .nil .nil) (.node (some (.one (.agg [.str,.str,.slice,.int .i64]))) .nil .nil)) (.node (some (.one (.agg [.slice,.slice]))) (.node (some (.one (.one (.func)))) .nil .nil) (.node (some (.one (.one (.func)))) .nil .nil))) (.node (some rB) (.node (some rS) (.node (some rI) (.node (some (.tup [])) .nil .nil) .nil) (.node (some (.tup [])) .nil .nil)) (.node (some (.tup [(.agg lf1),eI6])) .nil .nil)))) (.node none (.node none (.node (some rL) (.node (some rB) .nil (.node (some rL) .nil .nil)) (.node (some rP) (.node (some (.tup [(.agg wP),eB6])) .nil .nil) (.node (some (.tup [eS6,eS6])) .nil .nil))) (.node none (.node (some (.tup [eP6,eB6])) (.node (some (.one (.agg [.int .i64,.int .i64,.int .i64,.str]))) (.node (some (.tup [])) .nil .nil) .nil) (.node (some (.tup [])) .nil .nil)) (.node (some rL) (.node (some rI) .nil .nil) .nil))) (.node (some rS) (.node (some rL) (.node (some rL) (.node (some (.one (.agg [.str,.str,.slice,.int .i64]))) .nil .nil) (.node (some rB) .nil .nil)) (.node (some (.tup [eI6,eI6])) (.node (some rB) .nil .nil) (.node (some rS) .nil .nil))) (.node (some rP) (.node (some (.tup [eL6,eI6])) (.node (some (.tup [eI6,eB6])) (.node (some rB) .nil .nil) .nil) (.node (some (.one (.one (.func)))) .nil .nil)) .nil))))) (.node none (.node none (.node (some (.tup [eP6,eI6])) (.node (some rI) (.node (some rL) (.node (some rB) (.node (some rB) (.node (some (.tup [])) .nil .nil) .nil) .nil) (.node (some rL) (.node (some (.tup [])) (.node (some (.one (.one (.func)))) .nil .nil) .nil) (.node (some (.tup [])) .nil .nil))) (.node (some (.tup [])) (.node (some rL) (.node (some (.tup [(.agg [.slice,.slice]),eB6])) (.node (some rI) .nil .nil) .nil) (.node none (.node (some (.tup [])) .nil .nil) .nil)) (.node (some (.tup [eL6,eL6])) (.node (some (.one (.one (.func)))) .nil .nil) (.node (some (.tup [])) .nil .nil)))) (.node (some rP) (.node (some rL) (.node (some rS) .nil (.node (some (.one (.agg lf0))) .nil .nil)) (.node (some rS) (.node (some (.tup [eS6,eI6])) .nil .nil) (.node (some (.tup [])) .nil .nil))) (.node (some rP) (.node (some rI) (.node (some (.tup [(.agg [.int .i64,.int .i64,.int .i64,.str]),eB6])) (.node (some rB) .nil .nil) .nil) (.node (some rB) .nil .nil)) (.node (some rL) (.node (some rI) .nil .nil) .nil)))) (.node none (.node none (.node (some rL) (.node (some rB) (.node (some rI) .nil .nil) (.node (some (.one (.one (.func)))) .nil .nil)) (.node (some (.tup [eS6,eB6])) (.node (some (.tup [])) .nil .nil) (.node (some rL) .nil .nil))) (.node (some rB) (.node (some rL) (.node (some (.one (.agg [.int .i64,.int .i64,.int .i64,.str]))) (.node (some (.tup [])) .nil .nil) .nil) (.node (some (.tup [])) .nil .nil)) (.node (some rL) (.node (some (.one (.agg [.int .i64,.int .i64,.int .i64,.int .i64]))) (.node (some rL) .nil .nil) .nil) .nil))) (.node (some rI) (.node none (.node (some (.tup [eI6,eI6])) (.node (some (.tup [])) .nil .nil) (.node (some rB) .nil .nil)) (.node (some rB) (.node (some (.tup [eL6,eL6])) .nil .nil) (.node (some rL) .nil .nil))) (.node (some rP) (.node (some rL) (.node (some rI) (.node (some rI) .nil .nil) .nil) (.node (some rL) .nil .nil)) (.node (some rB) .nil .nil))))) (.node none (.node (some rL) (.node (some (.tup [eP6,eI6])) (.node (some rL) (.node (some rB) (.node (some rB) (.node (some rL) .nil .nil) .nil) .nil) (.node (some rI) (.node (some rL) .nil .nil) (.node (some (.one (.one (.func)))) .nil .nil))) (.node (some rP) (.node (some rS) (.node (some (.tup [eS6,eB6])) (.node (some (.tup [])) .nil .nil) .nil) .nil) (.node (some rB) (.node (some rI) (.node (some rI) .nil .nil) .nil) (.node (some rI) .nil .nil)))) (.node (some rP) (.node (some rL) (.node (some rS) (.node (some (.tup [])) .nil .nil) (.node (some rI) .nil .nil)) (.node (some (.tup [(.agg lf6),eB6])) (.node (some (.one (.one (.func)))) .nil .nil) (.node (some rL) .nil .nil))) (.node (some rP) (.node (some rB) (.node (some (.one (.one (.func)))) (.node (some (.tup [])) .nil .nil) .nil) (.node (some rS) .nil .nil)) (.node (some (.tup [])) .nil .nil)))) (.node none (.node (some rB) (.node (some rL) (.node (some rI) .nil (.node (some rI) .nil .nil)) (.node (some (.tup [(.agg [.str,.str,.slice,.int .i64]),eI6,eB6])) (.node (some rS) .nil .nil) (.node (some (.tup [])) .nil .nil))) (.node none (.node (some rS) (.node (some rP) (.node (some (.one (.one (.func)))) .nil .nil) .nil) (.node (some (.tup [(.agg [.slice,.slice]),eB6])) .nil .nil)) (.node none (.node (some rP) (.node (some (.tup [])) .nil .nil) .nil) .nil))) (.node (some rS) (.node none (.node (some (.tup [eI6,eI6])) (.node (some rI) (.node (some (.tup [])) .nil .nil) .nil) (.node (some rB) .nil .nil)) (.node (some (.one (.agg [.int .i64,.int .i64]))) (.node (some rL) .nil .nil) (.node (some rI) .nil .nil))) (.node (some (.tup [(.agg lf5),eB6])) (.node (some rL) (.node (some rL) (.node (some rL) .nil .nil) .nil) (.node (some rI) .nil .nil)) (.node none (.node none (.node (some (.tup [])) .nil .nil) .nil) .nil)))))))⟩
def Tok:Xq Pr Dt:=EL (by kernel_rfl) (by kernel_rfl) (by kernel_rfl)
abbrev CV(f:FuncId)(a:List SV)(K:Value→PT)(w:World):Prop:=Calls Pr f (jV a).toArray w λe w2=>∃v,e = .returned v∧K v w2
def zy{f:FuncId}(fn:Func)(an:Ann)(args:List SV){F:PT}(h:F w)(h1:Pr.funcs[f]? = some fn:=by kernel_rfl)(h2:okF args.length fn=true:=by kernel_rfl)(h3:nl Pr Dt fn an args K=F:=by kernel_rfl):CV f args K w:=Ht Tok h1 h2 ((congrFun h3 w).mpr h)
def Qx(p0 p1 p2:Int)(p3:Sl)(K:Value→PT):PT:=
  L.call Pr QD [] rB λ(x1:Bool)=>L.ite (!x1) (K (.bool false))<|L.ite (decide (((p3.len:Nat):Int)>200)) (K (.bool true))<|L.call Pr qv [I p0,I p1,I p2,Sv6 p3] (.tup [eL6,eI6]) λ(x2:Sl×Int×Unit)=>L.call Pr Ut [I p0,I p1,I p2] (.tup [eP6,eI6]) λ(x3:Option Addr×Int×Unit)=>L.call Pr yq [I p0,I 30] rI λ(x4:Int)=>L.call Pr yq [I p1,I 9] rI λ(x5:Int)=>L.call Pr yq [I p2,I 50] rI λ(x6:Int)=>L.call Pr qv [I (Wi (1+x4)),I x5,I (Wi (1+x6)),Sv6 p3] (.tup [eL6,eI6]) λ(x7:Sl×Int×Unit)=>L.ite (x2.2.1 == x3.2.1) (L.ite (x2.2.1 == 0) (K (.bool (x7.2.1 == 0)))<|L.ite (((x2.1.len:Nat):Int) == 0) (K (.bool (x7.2.1 == 0)))<|K (.bool false))<|K (.bool false)
def KY(p0 p1 p2:Int)(p3:Sl)(h:Qx p0 p1 p2 p3 K w):CV Qs [.v (.int .i64 p0),.v (.int .i64 p1),.v (.int .i64 p2),.v (.slice p3.a p3.len p3.cap)] K w:=zy Tryz.f5 .auto _ h
def PX(p0 p1 p2:Int)(K:Value→PT):PT:=
  L.call Pr jR [I p0,I 1,I 30] rB λ(x1:Bool)=>L.ite (!x1) (K (.tuple #[.pointer none,I 2]))<|L.call Pr jR [I p1,I 0,I 8] rB λ(x2:Bool)=>L.ite (!x2) (K (.tuple #[.pointer none,I 2]))<|L.call Pr jR [I p2,I 1,I 50] rB λ(x3:Bool)=>L.ite (!x3) (K (.tuple #[.pointer none,I 2]))<|L.call Pr fC [I p0] rP λ(x4:Option Addr)=>L.call Pr fA [] rP λ(x5:Option Addr)=>L.call Pr fx [] rP λ(x6:Option Addr)=>L.call Pr MH [] rP λ(x7:Option Addr)=>L.call Pr MI [.pointer x4,I p1,I p2] rP λ(x8:Option Addr)=>L.sem Pr (.one (.one .map)) (Instr.makeMap Zx none) λ(m9:Option Nat)=>L.new [.pointer x5,.pointer x6,.pointer x7,.pointer x4,.pointer x8,.map m9,I 0] Gm λb10=>K (.tuple #[.pointer (some (⟨b10,0,none⟩)),I 0])
def Wz(p0 p1 p2:Int)(h:PX p0 p1 p2 K w):CV gD [.v (.int .i64 p0),.v (.int .i64 p1),.v (.int .i64 p2)] K w:=zy Tryz.f8 .auto _ h
def Kr(p0:Option Addr)(p1:ht1)(K:Value→PT):PT:=
  L.new [I p1.1,.string p1.2.1,.string p1.2.2.1,I p1.2.2.2.1,I p1.2.2.2.2.1,.string p1.2.2.2.2.2.1,I p1.2.2.2.2.2.2.1,I p1.2.2.2.2.2.2.2.1,I p1.2.2.2.2.2.2.2.2.1,I p1.2.2.2.2.2.2.2.2.2.1,I p1.2.2.2.2.2.2.2.2.2.2.1,.string p1.2.2.2.2.2.2.2.2.2.2.2.1,.string p1.2.2.2.2.2.2.2.2.2.2.2.2.1,Sv6 p1.2.2.2.2.2.2.2.2.2.2.2.2.2.1,I p1.2.2.2.2.2.2.2.2.2.2.2.2.2.2.1] zP λb1=>L.load (.agg lf1) (⟨b1,0,none⟩) λ(x2:pt1)=>L.call Pr vJ [(qa1 x2)] rI λ(x3:Int)=>L.ite (x3 != 0) (L.call Pr JZ [I x3] rS λ(x4:B0)=>L.new [.string x4] zc λb5=>L.call Pr zD [.string sq,.slice (some ⟨b5,0,none⟩) 1 1] rS λ(x6:B0)=>L.new [.string x6] zc λb7=>K (.slice (some ⟨b7,0,none⟩) 1 1))<|L.sem Pr (.one (.one .map)) (Instr.makeMap zq none) λ(m8:Option Nat)=>L.semU Pr (Instr.mapUpdate zq (.map m8) (I 1) (.func (.func yY) #[.pointer p0] #[]))<|L.semU Pr (Instr.mapUpdate zq (.map m8) (I 2) (.func (.func Ym) #[.pointer p0] #[]))<|L.semU Pr (Instr.mapUpdate zq (.map m8) (I 3) (.func (.func YF) #[.pointer p0] #[]))<|L.semU Pr (Instr.mapUpdate zq (.map m8) (I 4) (.func (.func yZ) #[.pointer p0] #[]))<|L.semU Pr (Instr.mapUpdate zq (.map m8) (I 5) (.func (.func YG) #[.pointer p0] #[]))<|L.semU Pr (Instr.mapUpdate zq (.map m8) (I 6) (.func (.func jm) #[.pointer p0] #[]))<|L.semU Pr (Instr.mapUpdate zq (.map m8) (I 7) (.func (.func ZP) #[.pointer p0] #[]))<|L.semU Pr (Instr.mapUpdate zq (.map m8) (I 8) (.func (.func ZP) #[.pointer p0] #[]))<|L.semU Pr (Instr.mapUpdate zq (.map m8) (I 9) (.func (.func YD) #[.pointer p0] #[]))<|L.semU Pr (Instr.mapUpdate zq (.map m8) (I 10) (.func (.func Yk) #[.pointer p0] #[]))<|L.semU Pr (Instr.mapUpdate zq (.map m8) (I 11) (.func (.func YE) #[.pointer p0] #[]))<|L.semU Pr (Instr.mapUpdate zq (.map m8) (I 12) (.func (.func Yl) #[.pointer p0] #[]))<|L.semU Pr (Instr.mapUpdate zq (.map m8) (I 13) (.func (.func yS) #[.pointer p0] #[]))<|L.load eI6 (Ad6 b1 0) λ(x9:Int)=>L.semR Pr (.one (.one (.func))) (Instr.lookup zq (.map m8) (I x9) false) λ(x10:FV)=>L.load (.agg lf1) (⟨b1,0,none⟩) λ(x11:pt1)=>L.callV Pr (.func x10.fn x10.fs x10.cs) [(qa1 x11)] rL λ(x12:Sl)=>K (.slice x12.a x12.len x12.cap)
def pj(p0:Option Addr)(p1:ht1)(h:Kr p0 p1 K w):CV zx [.v (.pointer p0),.ag (qc1 p1)] K w:=zy Tryz.f10 .auto _ h
def VR  (K:Value→PT):PT:=
  L.call Pr qv [I 1,I 1,I 1,.slice none 0 0] (.tup [eL6,eI6]) λ(x1:Sl×Int×Unit)=>L.new [.int .u8 0,.int .u8 1,.int .u8 9] Uw λb2=>L.call Pr qv [I 1,I 1,I 1,.slice (some ⟨b2,0,none⟩) 3 3] (.tup [eL6,eI6]) λ(x3:Sl×Int×Unit)=>L.ite (((x1.1.len:Nat):Int) == 0) (L.ite (x1.2.1 == 0) (L.ite (x3.2.1 == 0) (L.ite (((x3.1.len:Nat):Int) == 1) (L.idx x3.1.a 0 x3.1.len 1 λa4=>L.load eS6 a4 λ(x5:B0)=>K (.bool (x5.toList == fe.toList)))<|K (.bool false))<|K (.bool false))<|K (.bool false))<|K (.bool false)
def mM(h:VR  K w):CV QD [] K w:=zy Tryz.f15 .auto _ h
def FM:Ann:=(.q2 (.q2 (.q2 .auto (some [(5,eI6)])) none) none)
def Vf(p0 p1:Int)(K:Value→PT):PT:=
  L.guard (p1≠(0:Int))<|L.join (Y:=Int×Unit) (λk1=>L.ite (decide ((Int.tmod p0 p1)<0)) (k1 (Wi ((Int.tmod p0 p1)+p1),()))<|k1 (Int.tmod p0 p1,())) λz2=>K (I z2.1)
def FE(p0 p1:Int)(h:Vf p0 p1 K w):CV yq [.v (.int .i64 p0),.v (.int .i64 p1)] K w:=zy Tryz.f16 FM _ h
def bK:Ann:=(.q2 (.q2 (.q2 (.q2 (.seq (.q2 (.q2 .auto (some [(28,eL6)])) none) .auto none) none) none) none) none)
def pb(p0 p1 p2:Int)(p3:Sl)(K:Value→PT):PT:=
  L.call Pr gD [I p0,I p1,I p2] (.tup [eP6,eI6]) λ(x1:Option Addr×Int×Unit)=>L.new [.pointer none] yl λb2=>L.store (⟨b2,0,none⟩) [.pointer x1.1]<|L.ite (x1.2.1 != 0) (K (.tuple #[.slice none 0 0,I x1.2.1]))<|L.new [.slice none 0 0] cG λb3=>L.new [.pointer none] yV λb4=>L.store (⟨b4,0,none⟩) [.pointer (some (⟨b3,0,none⟩))]<|L.call Pr oQ [Sv6 p3] (.one (.one (.func))) λ(x5:FV)=>L.range Pr none (.func x5.fn x5.fs x5.cs) [eL6] (λl6(y7:Sl×Unit) R8=>L.begin Pr l6<|L.load eP6 (⟨b4,0,none⟩) λ(x11:Option Addr)=>L.load eP6 (⟨b2,0,none⟩) λ(x12:Option Addr)=>L.call Pr Up [.pointer x11,.pointer x12,Sv6 y7.1] (.tup []) λ(x13:Unit)=>L.endRound Pr l6 none R8) λd9 j10=>L.jump j10 (L.load eP6 (⟨b4,0,none⟩) λ(x14:Option Addr)=>L.nonnil x14 λa15=>L.load eL6 (a15.add 0) λ(x16:Sl)=>L.call Pr ZX [Sv6 x16] rL λ(x17:Sl)=>L.unmark Pr (d9++[])<|K (.tuple #[Sv6 x17,I 0])) (L.unmark Pr (d9++[])<|K (.tuple #[.slice none 0 0,I 0])) []
def DQ(p0 p1 p2:Int)(p3:Sl)(h:pb p0 p1 p2 p3 K w):CV qv [.v (.int .i64 p0),.v (.int .i64 p1),.v (.int .i64 p2),.v (.slice p3.a p3.len p3.cap)] K w:=zy Tryz.f17 bK _ h
def oF(p0 p1 p2:Int)(K:Value→PT):PT:=
  L.ite (decide (p0<1)) (K (.tuple #[.pointer none,I 2]))<|L.ite (decide (p0>30)) (K (.tuple #[.pointer none,I 2]))<|L.ite (decide (p1<0)) (K (.tuple #[.pointer none,I 2]))<|L.ite (decide (p1>8)) (K (.tuple #[.pointer none,I 2]))<|L.ite (decide (p2<1)) (K (.tuple #[.pointer none,I 2]))<|L.ite (decide (p2>50)) (K (.tuple #[.pointer none,I 2]))<|L.call Pr ol [I p0] rP λ(x1:Option Addr)=>L.new [.slice none 0 0,I 0] MW λb2=>L.new [.slice none 0 0,.slice none 0 0] MY λb3=>L.new [.slice none 0 0] fV λb4=>L.call Pr oj [.pointer x1,I p1,I p2] rP λ(x5:Option Addr)=>L.new [I 0,.pointer (some (⟨b2,0,none⟩)),.pointer (some (⟨b3,0,none⟩)),.pointer (some (⟨b4,0,none⟩)),.pointer x1,.pointer x5,.slice none 0 0] fU λb6=>K (.tuple #[.pointer (some (⟨b6,0,none⟩)),I 0])
def tr(p0 p1 p2:Int)(h:oF p0 p1 p2 K w):CV Ut [.v (.int .i64 p0),.v (.int .i64 p1),.v (.int .i64 p2)] K w:=zy Tryz.f18 .auto _ h
def VG(p0 p1 p2:Int)(K:Value→PT):PT:=
  L.ite (decide (p0≥p1)) (K (.bool (decide (p0≤p2))))<|K (.bool false)
def mB(p0 p1 p2:Int)(h:VG p0 p1 p2 K w):CV jR [.v (.int .i64 p0),.v (.int .i64 p1),.v (.int .i64 p2)] K w:=zy Tryz.f22 .auto _ h
def cP(p0:Int)(K:Value→PT):PT:=
  L.sem Pr (.one (.one .map)) (Instr.makeMap Za none) λ(m1:Option Nat)=>L.sem Pr (.one (.one .map)) (Instr.makeMap xq none) λ(m2:Option Nat)=>L.new [.map m1,.map m2,I p0,I 0] Mc λb3=>K (.pointer (some (⟨b3,0,none⟩)))
def rp(p0:Int)(h:cP p0 K w):CV fC [.v (.int .i64 p0)] K w:=zy Tryz.f23 .auto _ h
def cM  (K:Value→PT):PT:=
  L.call Pr xP [.func (.func yj) #[] #[]] rP λ(x1:Option Addr)=>L.call Pr Xg [.func (.func Zo) #[] #[]] rP λ(x2:Option Addr)=>L.new [.pointer x1,.pointer x2,I 0] Mb λb3=>K (.pointer (some (⟨b3,0,none⟩)))
def rh(h:cM  K w):CV fA [] K w:=zy Tryz.f24 .auto _ h
def cJ  (K:Value→PT):PT:=
  L.sem Pr (.one (.one .map)) (Instr.makeMap zV none) λ(m1:Option Nat)=>L.sem Pr (.one (.one .map)) (Instr.makeMap Xr none) λ(m2:Option Nat)=>L.new [.map m1,.map m2] PP λb3=>K (.pointer (some (⟨b3,0,none⟩)))
def LY(h:cJ  K w):CV fx [] K w:=zy Tryz.f25 .auto _ h
def DF  (K:Value→PT):PT:=
  L.sem Pr (.one (.one .map)) (Instr.makeMap yI none) λ(m1:Option Nat)=>L.new [.map m1] oV λb2=>K (.pointer (some (⟨b2,0,none⟩)))
def bF(h:DF  K w):CV MH [] K w:=zy Tryz.f26 .auto _ h
def DH(p0:Option Addr)(p1 p2:Int)(K:Value→PT):PT:=
  L.new [I p1] zp λb1=>L.sem Pr (.one (.one .map)) (Instr.makeMap Yb none) λ(m2:Option Nat)=>L.sem Pr (.one (.one .map)) (Instr.makeMap Zr none) λ(m3:Option Nat)=>L.load eI6 (⟨b1,0,none⟩) λ(x4:Int)=>L.new [.pointer p0,.map m2,.map m3,.func (.func kf) #[] #[.pointer (some (⟨b1,0,none⟩))],I x4,I p2] cH λb5=>K (.pointer (some (⟨b5,0,none⟩)))
def bH(p0:Option Addr)(p1 p2:Int)(h:DH p0 p1 p2 K w):CV MI [.v (.pointer p0),.v (.int .i64 p1),.v (.int .i64 p2)] K w:=zy Tryz.f27 .auto _ h
def Nc:Ann:=(.q2 (.q2 (.q2 (.seq (.q2 .auto (some [(61,eB6)])) (.seq (.q2 (.cond .auto (.q2 (.cond .auto (.q2 (.cond .auto (.q2 (.cond .auto .auto) none)) none)) none)) none) .auto (some [])) none) none) none) none)
def Mw(p0:ht1)(K:Value→PT):PT:=
  L.new [I p0.1,.string p0.2.1,.string p0.2.2.1,I p0.2.2.2.1,I p0.2.2.2.2.1,.string p0.2.2.2.2.2.1,I p0.2.2.2.2.2.2.1,I p0.2.2.2.2.2.2.2.1,I p0.2.2.2.2.2.2.2.2.1,I p0.2.2.2.2.2.2.2.2.2.1,I p0.2.2.2.2.2.2.2.2.2.2.1,.string p0.2.2.2.2.2.2.2.2.2.2.2.1,.string p0.2.2.2.2.2.2.2.2.2.2.2.2.1,Sv6 p0.2.2.2.2.2.2.2.2.2.2.2.2.2.1,I p0.2.2.2.2.2.2.2.2.2.2.2.2.2.2.1] zP λb1=>L.load eI6 (Ad6 b1 0) λ(x2:Int)=>L.call Pr vH [I x2] (.tup [(.agg lf5),eB6]) λ(x3:pt2)=>L.new [.bool false,.bool false,.bool false,.bool false,.bool false,.bool false] vV λb4=>L.store (⟨b4,0,none⟩) [.bool x3.1.1,.bool x3.1.2.1,.bool x3.1.2.2.1,.bool x3.1.2.2.2.1,.bool x3.1.2.2.2.2.1,.bool x3.1.2.2.2.2.2.1]<|L.ite (!x3.2.1) (K (I 12))<|L.join (Y:=Bool×Unit) (λk5=>L.load eB6 (Ad6 b4 0) λ(x7:Bool)=>L.load eI6 (Ad6 b1 3) λ(x8:Int)=>L.call Pr Qh [.bool x7,I x8] rB λ(x9:Bool)=>L.ite (!x9) (k5 (true,()))<|L.load eB6 (Ad6 b4 1) λ(x10:Bool)=>L.load eS6 (Ad6 b1 1) λ(x11:B0)=>L.call Pr xH [.bool x10,.string x11] rB λ(x12:Bool)=>L.ite (!x12) (k5 (true,()))<|L.load eB6 (Ad6 b4 2) λ(x13:Bool)=>L.load eS6 (Ad6 b1 2) λ(x14:B0)=>L.call Pr xH [.bool x13,.string x14] rB λ(x15:Bool)=>L.ite (!x15) (k5 (true,()))<|L.load eB6 (Ad6 b4 3) λ(x16:Bool)=>L.load eI6 (Ad6 b1 4) λ(x17:Int)=>L.call Pr Qh [.bool x16,I x17] rB λ(x18:Bool)=>L.ite (!x18) (k5 (true,()))<|L.load eB6 (Ad6 b4 4) λ(x19:Bool)=>L.load (.agg lf0) (Ad6 b1 5) λ(x20:pt0)=>L.call Pr xT [.bool x19,(qa0 x20)] rB λ(x21:Bool)=>L.ite (!x21) (k5 (true,()))<|L.load eB6 (Ad6 b4 5) λ(x22:Bool)=>L.ite (!x22) (L.load (.agg [.str,.str,.slice,.int .i64]) (Ad6 b1 11) λ(x23:pt3)=>L.call Pr gH [.agg #[.string x23.1,.string x23.2.1,Sv6 x23.2.2.1,I x23.2.2.2.1]] rB λ(x24:Bool)=>k5 (!x24,()))<|k5 (false,())) λz6=>L.ite z6.1 (K (I 2))<|L.join (Y:=Unit) (λk25=>L.load eB6 (Ad6 b4 0) λ(x27:Bool)=>L.ite x27 (L.load (.agg lf1) (⟨b1,0,none⟩) λ(x28:pt1)=>L.call Pr kY [(qa1 x28)] rB λ(x29:Bool)=>L.ite (!x29) (K (I 2))<|L.load eB6 (Ad6 b4 1) λ(x30:Bool)=>L.ite x30 (L.load (.agg lf1) (⟨b1,0,none⟩) λ(x31:pt1)=>L.call Pr vI [(qa1 x31)] rB λ(x32:Bool)=>L.ite (!x32) (K (I 1))<|L.load eB6 (Ad6 b4 2) λ(x33:Bool)=>L.ite x33 (L.load eS6 (Ad6 b1 2) λ(x34:B0)=>L.ite (!(x34.toList == s_.toList)) (L.load eS6 (Ad6 b1 2) λ(x35:B0)=>L.call Pr JX [.string x35] rB λ(x36:Bool)=>L.ite (!x36) (K (I 1))<|L.load eB6 (Ad6 b4 3) λ(x37:Bool)=>L.ite x37 (L.load eI6 (Ad6 b1 4) λ(x38:Int)=>L.call Pr ZE [I x38,I 0,I 2147483647] rB λ(x39:Bool)=>L.ite (!x39) (K (I 2))<|L.load eB6 (Ad6 b4 4) λ(x40:Bool)=>L.ite x40 (L.load (.agg lf0) (Ad6 b1 5) λ(x41:pt0)=>L.call Pr zW [(qa0 x41)] rI λ(x42:Int)=>K (I x42))<|L.load eB6 (Ad6 b4 5) λ(x43:Bool)=>L.ite x43 (L.load (.agg [.str,.str,.slice,.int .i64]) (Ad6 b1 11) λ(x44:pt3)=>L.call Pr Zc [.agg #[.string x44.1,.string x44.2.1,Sv6 x44.2.2.1,I x44.2.2.2.1]] rI λ(x45:Int)=>K (I x45))<|k25 (()))<|L.load eB6 (Ad6 b4 4) λ(x46:Bool)=>L.ite x46 (L.load (.agg lf0) (Ad6 b1 5) λ(x47:pt0)=>L.call Pr zW [(qa0 x47)] rI λ(x48:Int)=>K (I x48))<|L.load eB6 (Ad6 b4 5) λ(x49:Bool)=>L.ite x49 (L.load (.agg [.str,.str,.slice,.int .i64]) (Ad6 b1 11) λ(x50:pt3)=>L.call Pr Zc [.agg #[.string x50.1,.string x50.2.1,Sv6 x50.2.2.1,I x50.2.2.2.1]] rI λ(x51:Int)=>K (I x51))<|k25 (()))<|L.load eB6 (Ad6 b4 3) λ(x52:Bool)=>L.ite x52 (L.load eI6 (Ad6 b1 4) λ(x53:Int)=>L.call Pr ZE [I x53,I 0,I 2147483647] rB λ(x54:Bool)=>L.ite (!x54) (K (I 2))<|L.load eB6 (Ad6 b4 4) λ(x55:Bool)=>L.ite x55 (L.load (.agg lf0) (Ad6 b1 5) λ(x56:pt0)=>L.call Pr zW [(qa0 x56)] rI λ(x57:Int)=>K (I x57))<|L.load eB6 (Ad6 b4 5) λ(x58:Bool)=>L.ite x58 (L.load (.agg [.str,.str,.slice,.int .i64]) (Ad6 b1 11) λ(x59:pt3)=>L.call Pr Zc [.agg #[.string x59.1,.string x59.2.1,Sv6 x59.2.2.1,I x59.2.2.2.1]] rI λ(x60:Int)=>K (I x60))<|k25 (()))<|L.load eB6 (Ad6 b4 4) λ(x61:Bool)=>L.ite x61 (L.load (.agg lf0) (Ad6 b1 5) λ(x62:pt0)=>L.call Pr zW [(qa0 x62)] rI λ(x63:Int)=>K (I x63))<|L.load eB6 (Ad6 b4 5) λ(x64:Bool)=>L.ite x64 (L.load (.agg [.str,.str,.slice,.int .i64]) (Ad6 b1 11) λ(x65:pt3)=>L.call Pr Zc [.agg #[.string x65.1,.string x65.2.1,Sv6 x65.2.2.1,I x65.2.2.2.1]] rI λ(x66:Int)=>K (I x66))<|k25 (()))<|L.load eB6 (Ad6 b4 3) λ(x67:Bool)=>L.ite x67 (L.load eI6 (Ad6 b1 4) λ(x68:Int)=>L.call Pr ZE [I x68,I 0,I 2147483647] rB λ(x69:Bool)=>L.ite (!x69) (K (I 2))<|L.load eB6 (Ad6 b4 4) λ(x70:Bool)=>L.ite x70 (L.load (.agg lf0) (Ad6 b1 5) λ(x71:pt0)=>L.call Pr zW [(qa0 x71)] rI λ(x72:Int)=>K (I x72))<|L.load eB6 (Ad6 b4 5) λ(x73:Bool)=>L.ite x73 (L.load (.agg [.str,.str,.slice,.int .i64]) (Ad6 b1 11) λ(x74:pt3)=>L.call Pr Zc [.agg #[.string x74.1,.string x74.2.1,Sv6 x74.2.2.1,I x74.2.2.2.1]] rI λ(x75:Int)=>K (I x75))<|k25 (()))<|L.load eB6 (Ad6 b4 4) λ(x76:Bool)=>L.ite x76 (L.load (.agg lf0) (Ad6 b1 5) λ(x77:pt0)=>L.call Pr zW [(qa0 x77)] rI λ(x78:Int)=>K (I x78))<|L.load eB6 (Ad6 b4 5) λ(x79:Bool)=>L.ite x79 (L.load (.agg [.str,.str,.slice,.int .i64]) (Ad6 b1 11) λ(x80:pt3)=>L.call Pr Zc [.agg #[.string x80.1,.string x80.2.1,Sv6 x80.2.2.1,I x80.2.2.2.1]] rI λ(x81:Int)=>K (I x81))<|k25 (()))<|L.load eB6 (Ad6 b4 2) λ(x82:Bool)=>L.ite x82 (L.load eS6 (Ad6 b1 2) λ(x83:B0)=>L.ite (!(x83.toList == s_.toList)) (L.load eS6 (Ad6 b1 2) λ(x84:B0)=>L.call Pr JX [.string x84] rB λ(x85:Bool)=>L.ite (!x85) (K (I 1))<|L.load eB6 (Ad6 b4 3) λ(x86:Bool)=>L.ite x86 (L.load eI6 (Ad6 b1 4) λ(x87:Int)=>L.call Pr ZE [I x87,I 0,I 2147483647] rB λ(x88:Bool)=>L.ite (!x88) (K (I 2))<|L.load eB6 (Ad6 b4 4) λ(x89:Bool)=>L.ite x89 (L.load (.agg lf0) (Ad6 b1 5) λ(x90:pt0)=>L.call Pr zW [(qa0 x90)] rI λ(x91:Int)=>K (I x91))<|L.load eB6 (Ad6 b4 5) λ(x92:Bool)=>L.ite x92 (L.load (.agg [.str,.str,.slice,.int .i64]) (Ad6 b1 11) λ(x93:pt3)=>L.call Pr Zc [.agg #[.string x93.1,.string x93.2.1,Sv6 x93.2.2.1,I x93.2.2.2.1]] rI λ(x94:Int)=>K (I x94))<|k25 (()))<|L.load eB6 (Ad6 b4 4) λ(x95:Bool)=>L.ite x95 (L.load (.agg lf0) (Ad6 b1 5) λ(x96:pt0)=>L.call Pr zW [(qa0 x96)] rI λ(x97:Int)=>K (I x97))<|L.load eB6 (Ad6 b4 5) λ(x98:Bool)=>L.ite x98 (L.load (.agg [.str,.str,.slice,.int .i64]) (Ad6 b1 11) λ(x99:pt3)=>L.call Pr Zc [.agg #[.string x99.1,.string x99.2.1,Sv6 x99.2.2.1,I x99.2.2.2.1]] rI λ(x100:Int)=>K (I x100))<|k25 (()))<|L.load eB6 (Ad6 b4 3) λ(x101:Bool)=>L.ite x101 (L.load eI6 (Ad6 b1 4) λ(x102:Int)=>L.call Pr ZE [I x102,I 0,I 2147483647] rB λ(x103:Bool)=>L.ite (!x103) (K (I 2))<|L.load eB6 (Ad6 b4 4) λ(x104:Bool)=>L.ite x104 (L.load (.agg lf0) (Ad6 b1 5) λ(x105:pt0)=>L.call Pr zW [(qa0 x105)] rI λ(x106:Int)=>K (I x106))<|L.load eB6 (Ad6 b4 5) λ(x107:Bool)=>L.ite x107 (L.load (.agg [.str,.str,.slice,.int .i64]) (Ad6 b1 11) λ(x108:pt3)=>L.call Pr Zc [.agg #[.string x108.1,.string x108.2.1,Sv6 x108.2.2.1,I x108.2.2.2.1]] rI λ(x109:Int)=>K (I x109))<|k25 (()))<|L.load eB6 (Ad6 b4 4) λ(x110:Bool)=>L.ite x110 (L.load (.agg lf0) (Ad6 b1 5) λ(x111:pt0)=>L.call Pr zW [(qa0 x111)] rI λ(x112:Int)=>K (I x112))<|L.load eB6 (Ad6 b4 5) λ(x113:Bool)=>L.ite x113 (L.load (.agg [.str,.str,.slice,.int .i64]) (Ad6 b1 11) λ(x114:pt3)=>L.call Pr Zc [.agg #[.string x114.1,.string x114.2.1,Sv6 x114.2.2.1,I x114.2.2.2.1]] rI λ(x115:Int)=>K (I x115))<|k25 (()))<|L.load eB6 (Ad6 b4 3) λ(x116:Bool)=>L.ite x116 (L.load eI6 (Ad6 b1 4) λ(x117:Int)=>L.call Pr ZE [I x117,I 0,I 2147483647] rB λ(x118:Bool)=>L.ite (!x118) (K (I 2))<|L.load eB6 (Ad6 b4 4) λ(x119:Bool)=>L.ite x119 (L.load (.agg lf0) (Ad6 b1 5) λ(x120:pt0)=>L.call Pr zW [(qa0 x120)] rI λ(x121:Int)=>K (I x121))<|L.load eB6 (Ad6 b4 5) λ(x122:Bool)=>L.ite x122 (L.load (.agg [.str,.str,.slice,.int .i64]) (Ad6 b1 11) λ(x123:pt3)=>L.call Pr Zc [.agg #[.string x123.1,.string x123.2.1,Sv6 x123.2.2.1,I x123.2.2.2.1]] rI λ(x124:Int)=>K (I x124))<|k25 (()))<|L.load eB6 (Ad6 b4 4) λ(x125:Bool)=>L.ite x125 (L.load (.agg lf0) (Ad6 b1 5) λ(x126:pt0)=>L.call Pr zW [(qa0 x126)] rI λ(x127:Int)=>K (I x127))<|L.load eB6 (Ad6 b4 5) λ(x128:Bool)=>L.ite x128 (L.load (.agg [.str,.str,.slice,.int .i64]) (Ad6 b1 11) λ(x129:pt3)=>L.call Pr Zc [.agg #[.string x129.1,.string x129.2.1,Sv6 x129.2.2.1,I x129.2.2.2.1]] rI λ(x130:Int)=>K (I x130))<|k25 (()))<|L.load eB6 (Ad6 b4 1) λ(x131:Bool)=>L.ite x131 (L.load (.agg lf1) (⟨b1,0,none⟩) λ(x132:pt1)=>L.call Pr vI [(qa1 x132)] rB λ(x133:Bool)=>L.ite (!x133) (K (I 1))<|L.load eB6 (Ad6 b4 2) λ(x134:Bool)=>L.ite x134 (L.load eS6 (Ad6 b1 2) λ(x135:B0)=>L.ite (!(x135.toList == s_.toList)) (L.load eS6 (Ad6 b1 2) λ(x136:B0)=>L.call Pr JX [.string x136] rB λ(x137:Bool)=>L.ite (!x137) (K (I 1))<|L.load eB6 (Ad6 b4 3) λ(x138:Bool)=>L.ite x138 (L.load eI6 (Ad6 b1 4) λ(x139:Int)=>L.call Pr ZE [I x139,I 0,I 2147483647] rB λ(x140:Bool)=>L.ite (!x140) (K (I 2))<|L.load eB6 (Ad6 b4 4) λ(x141:Bool)=>L.ite x141 (L.load (.agg lf0) (Ad6 b1 5) λ(x142:pt0)=>L.call Pr zW [(qa0 x142)] rI λ(x143:Int)=>K (I x143))<|L.load eB6 (Ad6 b4 5) λ(x144:Bool)=>L.ite x144 (L.load (.agg [.str,.str,.slice,.int .i64]) (Ad6 b1 11) λ(x145:pt3)=>L.call Pr Zc [.agg #[.string x145.1,.string x145.2.1,Sv6 x145.2.2.1,I x145.2.2.2.1]] rI λ(x146:Int)=>K (I x146))<|k25 (()))<|L.load eB6 (Ad6 b4 4) λ(x147:Bool)=>L.ite x147 (L.load (.agg lf0) (Ad6 b1 5) λ(x148:pt0)=>L.call Pr zW [(qa0 x148)] rI λ(x149:Int)=>K (I x149))<|L.load eB6 (Ad6 b4 5) λ(x150:Bool)=>L.ite x150 (L.load (.agg [.str,.str,.slice,.int .i64]) (Ad6 b1 11) λ(x151:pt3)=>L.call Pr Zc [.agg #[.string x151.1,.string x151.2.1,Sv6 x151.2.2.1,I x151.2.2.2.1]] rI λ(x152:Int)=>K (I x152))<|k25 (()))<|L.load eB6 (Ad6 b4 3) λ(x153:Bool)=>L.ite x153 (L.load eI6 (Ad6 b1 4) λ(x154:Int)=>L.call Pr ZE [I x154,I 0,I 2147483647] rB λ(x155:Bool)=>L.ite (!x155) (K (I 2))<|L.load eB6 (Ad6 b4 4) λ(x156:Bool)=>L.ite x156 (L.load (.agg lf0) (Ad6 b1 5) λ(x157:pt0)=>L.call Pr zW [(qa0 x157)] rI λ(x158:Int)=>K (I x158))<|L.load eB6 (Ad6 b4 5) λ(x159:Bool)=>L.ite x159 (L.load (.agg [.str,.str,.slice,.int .i64]) (Ad6 b1 11) λ(x160:pt3)=>L.call Pr Zc [.agg #[.string x160.1,.string x160.2.1,Sv6 x160.2.2.1,I x160.2.2.2.1]] rI λ(x161:Int)=>K (I x161))<|k25 (()))<|L.load eB6 (Ad6 b4 4) λ(x162:Bool)=>L.ite x162 (L.load (.agg lf0) (Ad6 b1 5) λ(x163:pt0)=>L.call Pr zW [(qa0 x163)] rI λ(x164:Int)=>K (I x164))<|L.load eB6 (Ad6 b4 5) λ(x165:Bool)=>L.ite x165 (L.load (.agg [.str,.str,.slice,.int .i64]) (Ad6 b1 11) λ(x166:pt3)=>L.call Pr Zc [.agg #[.string x166.1,.string x166.2.1,Sv6 x166.2.2.1,I x166.2.2.2.1]] rI λ(x167:Int)=>K (I x167))<|k25 (()))<|L.load eB6 (Ad6 b4 3) λ(x168:Bool)=>L.ite x168 (L.load eI6 (Ad6 b1 4) λ(x169:Int)=>L.call Pr ZE [I x169,I 0,I 2147483647] rB λ(x170:Bool)=>L.ite (!x170) (K (I 2))<|L.load eB6 (Ad6 b4 4) λ(x171:Bool)=>L.ite x171 (L.load (.agg lf0) (Ad6 b1 5) λ(x172:pt0)=>L.call Pr zW [(qa0 x172)] rI λ(x173:Int)=>K (I x173))<|L.load eB6 (Ad6 b4 5) λ(x174:Bool)=>L.ite x174 (L.load (.agg [.str,.str,.slice,.int .i64]) (Ad6 b1 11) λ(x175:pt3)=>L.call Pr Zc [.agg #[.string x175.1,.string x175.2.1,Sv6 x175.2.2.1,I x175.2.2.2.1]] rI λ(x176:Int)=>K (I x176))<|k25 (()))<|L.load eB6 (Ad6 b4 4) λ(x177:Bool)=>L.ite x177 (L.load (.agg lf0) (Ad6 b1 5) λ(x178:pt0)=>L.call Pr zW [(qa0 x178)] rI λ(x179:Int)=>K (I x179))<|L.load eB6 (Ad6 b4 5) λ(x180:Bool)=>L.ite x180 (L.load (.agg [.str,.str,.slice,.int .i64]) (Ad6 b1 11) λ(x181:pt3)=>L.call Pr Zc [.agg #[.string x181.1,.string x181.2.1,Sv6 x181.2.2.1,I x181.2.2.2.1]] rI λ(x182:Int)=>K (I x182))<|k25 (()))<|L.load eB6 (Ad6 b4 2) λ(x183:Bool)=>L.ite x183 (L.load eS6 (Ad6 b1 2) λ(x184:B0)=>L.ite (!(x184.toList == s_.toList)) (L.load eS6 (Ad6 b1 2) λ(x185:B0)=>L.call Pr JX [.string x185] rB λ(x186:Bool)=>L.ite (!x186) (K (I 1))<|L.load eB6 (Ad6 b4 3) λ(x187:Bool)=>L.ite x187 (L.load eI6 (Ad6 b1 4) λ(x188:Int)=>L.call Pr ZE [I x188,I 0,I 2147483647] rB λ(x189:Bool)=>L.ite (!x189) (K (I 2))<|L.load eB6 (Ad6 b4 4) λ(x190:Bool)=>L.ite x190 (L.load (.agg lf0) (Ad6 b1 5) λ(x191:pt0)=>L.call Pr zW [(qa0 x191)] rI λ(x192:Int)=>K (I x192))<|L.load eB6 (Ad6 b4 5) λ(x193:Bool)=>L.ite x193 (L.load (.agg [.str,.str,.slice,.int .i64]) (Ad6 b1 11) λ(x194:pt3)=>L.call Pr Zc [.agg #[.string x194.1,.string x194.2.1,Sv6 x194.2.2.1,I x194.2.2.2.1]] rI λ(x195:Int)=>K (I x195))<|k25 (()))<|L.load eB6 (Ad6 b4 4) λ(x196:Bool)=>L.ite x196 (L.load (.agg lf0) (Ad6 b1 5) λ(x197:pt0)=>L.call Pr zW [(qa0 x197)] rI λ(x198:Int)=>K (I x198))<|L.load eB6 (Ad6 b4 5) λ(x199:Bool)=>L.ite x199 (L.load (.agg [.str,.str,.slice,.int .i64]) (Ad6 b1 11) λ(x200:pt3)=>L.call Pr Zc [.agg #[.string x200.1,.string x200.2.1,Sv6 x200.2.2.1,I x200.2.2.2.1]] rI λ(x201:Int)=>K (I x201))<|k25 (()))<|L.load eB6 (Ad6 b4 3) λ(x202:Bool)=>L.ite x202 (L.load eI6 (Ad6 b1 4) λ(x203:Int)=>L.call Pr ZE [I x203,I 0,I 2147483647] rB λ(x204:Bool)=>L.ite (!x204) (K (I 2))<|L.load eB6 (Ad6 b4 4) λ(x205:Bool)=>L.ite x205 (L.load (.agg lf0) (Ad6 b1 5) λ(x206:pt0)=>L.call Pr zW [(qa0 x206)] rI λ(x207:Int)=>K (I x207))<|L.load eB6 (Ad6 b4 5) λ(x208:Bool)=>L.ite x208 (L.load (.agg [.str,.str,.slice,.int .i64]) (Ad6 b1 11) λ(x209:pt3)=>L.call Pr Zc [.agg #[.string x209.1,.string x209.2.1,Sv6 x209.2.2.1,I x209.2.2.2.1]] rI λ(x210:Int)=>K (I x210))<|k25 (()))<|L.load eB6 (Ad6 b4 4) λ(x211:Bool)=>L.ite x211 (L.load (.agg lf0) (Ad6 b1 5) λ(x212:pt0)=>L.call Pr zW [(qa0 x212)] rI λ(x213:Int)=>K (I x213))<|L.load eB6 (Ad6 b4 5) λ(x214:Bool)=>L.ite x214 (L.load (.agg [.str,.str,.slice,.int .i64]) (Ad6 b1 11) λ(x215:pt3)=>L.call Pr Zc [.agg #[.string x215.1,.string x215.2.1,Sv6 x215.2.2.1,I x215.2.2.2.1]] rI λ(x216:Int)=>K (I x216))<|k25 (()))<|L.load eB6 (Ad6 b4 3) λ(x217:Bool)=>L.ite x217 (L.load eI6 (Ad6 b1 4) λ(x218:Int)=>L.call Pr ZE [I x218,I 0,I 2147483647] rB λ(x219:Bool)=>L.ite (!x219) (K (I 2))<|L.load eB6 (Ad6 b4 4) λ(x220:Bool)=>L.ite x220 (L.load (.agg lf0) (Ad6 b1 5) λ(x221:pt0)=>L.call Pr zW [(qa0 x221)] rI λ(x222:Int)=>K (I x222))<|L.load eB6 (Ad6 b4 5) λ(x223:Bool)=>L.ite x223 (L.load (.agg [.str,.str,.slice,.int .i64]) (Ad6 b1 11) λ(x224:pt3)=>L.call Pr Zc [.agg #[.string x224.1,.string x224.2.1,Sv6 x224.2.2.1,I x224.2.2.2.1]] rI λ(x225:Int)=>K (I x225))<|k25 (()))<|L.load eB6 (Ad6 b4 4) λ(x226:Bool)=>L.ite x226 (L.load (.agg lf0) (Ad6 b1 5) λ(x227:pt0)=>L.call Pr zW [(qa0 x227)] rI λ(x228:Int)=>K (I x228))<|L.load eB6 (Ad6 b4 5) λ(x229:Bool)=>L.ite x229 (L.load (.agg [.str,.str,.slice,.int .i64]) (Ad6 b1 11) λ(x230:pt3)=>L.call Pr Zc [.agg #[.string x230.1,.string x230.2.1,Sv6 x230.2.2.1,I x230.2.2.2.1]] rI λ(x231:Int)=>K (I x231))<|k25 (())) λz26=>K (I 0)
def nQ(p0:ht1)(h:Mw p0 K w):CV vJ [.ag (qc1 p0)] K w:=zy Tryz.f28 Nc _ h
def FF:Ann:=(.q2 (.q2 (.seq (.q2 (.one [(5,eL6),(14,eI6)] (.q2 (.q2 (.q2 .auto (some [(5,eL6)])) none) none)) none) .auto none) none) none)
def vX(p0:B0)(p1:Sl)(K:Value→PT):PT:=
  L.new [.string p0] zc λb1=>L.loop (Y:=Sl×Int×Unit) (⟨some ⟨b1,0,none⟩,1,1⟩,0,()) λy2 again3=>L.ite (decide (y2.2.1<((p1.len:Nat):Int))) (L.join (Y:=Sl×Unit) (λk4=>L.idx p1.a y2.2.1 p1.len 1 λa6=>L.load eS6 a6 λ(x7:B0)=>L.ite true (L.new [.string x7] zc λb8=>L.sem Pr (.one (.one .slice)) (Builtin.append_ #[zm,zm] zm #[Sv6 y2.1,.slice (some ⟨b8,0,none⟩) 1 1]) λ(s9:Sl)=>k4 (⟨s9.a,s9.len,s9.cap⟩,()))<|L.semR Pr (.tup [eI6,.one .bool]) (Instr.typeAssert (.iface zc (.string x7)) fS zp true) λ(x10:Int×Bool×Unit)=>L.ite x10.2.1 (L.call Pr xM [I x10.1] rS λ(x11:B0)=>L.new [.string x11] zc λb12=>L.sem Pr (.one (.one .slice)) (Builtin.append_ #[zm,zm] zm #[Sv6 y2.1,.slice (some ⟨b12,0,none⟩) 1 1]) λ(s13:Sl)=>k4 (⟨s13.a,s13.len,s13.cap⟩,()))<|k4 (⟨y2.1.a,y2.1.len,y2.1.cap⟩,())) λz5=>again3 (⟨z5.1.a,z5.1.len,z5.1.cap⟩,Wi (y2.2.1+1),()))<|L.call Pr Ul [Sv6 y2.1,.string Oj] rS λ(x14:B0)=>K (.string x14)
def Fq(p0:B0)(p1:Sl)(h:vX p0 p1 K w):CV zD [.v (.string p0),.v (.slice p1.a p1.len p1.cap)] K w:=zy Tryz.f29 FF _ h
def oI(p0:Int)(K:Value→PT):PT:=
  L.ite (decide (p0≤6)) (L.call Pr cm [I p0] rS λ(x1:B0)=>K (.string x1))<|L.call Pr dO [I p0] rS λ(x2:B0)=>K (.string x2)
def tx(p0:Int)(h:oI p0 K w):CV JZ [.v (.int .i64 p0)] K w:=zy Tryz.f30 .auto _ h
def Xt(p0:Option Addr)(p1:ht1)(K:Value→PT):PT:=
  L.new [I p1.1,.string p1.2.1,.string p1.2.2.1,I p1.2.2.2.1,I p1.2.2.2.2.1,.string p1.2.2.2.2.2.1,I p1.2.2.2.2.2.2.1,I p1.2.2.2.2.2.2.2.1,I p1.2.2.2.2.2.2.2.2.1,I p1.2.2.2.2.2.2.2.2.2.1,I p1.2.2.2.2.2.2.2.2.2.2.1,.string p1.2.2.2.2.2.2.2.2.2.2.2.1,.string p1.2.2.2.2.2.2.2.2.2.2.2.2.1,Sv6 p1.2.2.2.2.2.2.2.2.2.2.2.2.2.1,I p1.2.2.2.2.2.2.2.2.2.2.2.2.2.2.1] zP λb1=>L.draw<|L.nonnil p0 λa2=>L.load eP6 (a2.add 0) λ(x3:Option Addr)=>L.load (.agg lf0) (Ad6 b1 5) λ(x4:pt0)=>L.load eI6 (Ad6 b1 3) λ(x5:Int)=>L.call Pr xQ [.pointer x3,(qa0 x4),I x5] (.tup [eI6,eI6]) λ(x6:Int×Int×Unit)=>L.load eS6 ((Ad6 b1 5).add 0) λ(x7:B0)=>L.call Pr ke [.string la,.string x7,I x6.1,I x6.2.1] rL λ(x8:Sl)=>K (.slice x8.a x8.len x8.cap)
def gT(p0:Option Addr)(p1:ht1)(h:Xt p0 p1 K w):CV yY [.v (.pointer p0),.ag (qc1 p1)] K w:=zy Tryz.f31 .auto _ h
def gQ:ZO Pr yY:=zK (by kernel_rfl)
def XW(p0:Option Addr)(p1:ht1)(K:Value→PT):PT:=
  L.new [I p1.1,.string p1.2.1,.string p1.2.2.1,I p1.2.2.2.1,I p1.2.2.2.2.1,.string p1.2.2.2.2.2.1,I p1.2.2.2.2.2.2.1,I p1.2.2.2.2.2.2.2.1,I p1.2.2.2.2.2.2.2.2.1,I p1.2.2.2.2.2.2.2.2.2.1,I p1.2.2.2.2.2.2.2.2.2.2.1,.string p1.2.2.2.2.2.2.2.2.2.2.2.1,.string p1.2.2.2.2.2.2.2.2.2.2.2.2.1,Sv6 p1.2.2.2.2.2.2.2.2.2.2.2.2.2.1,I p1.2.2.2.2.2.2.2.2.2.2.2.2.2.2.1] zP λb1=>L.draw<|L.nonnil p0 λa2=>L.load eP6 (a2.add 0) λ(x3:Option Addr)=>L.load (.agg [.str,.str,.slice,.int .i64]) (Ad6 b1 11) λ(x4:pt3)=>L.load eI6 (Ad6 b1 3) λ(x5:Int)=>L.call Pr Xh [.pointer x3,.agg #[.string x4.1,.string x4.2.1,Sv6 x4.2.2.1,I x4.2.2.2.1],I x5] (.tup [eI6,eI6]) λ(x6:Int×Int×Unit)=>L.load eS6 ((Ad6 b1 11).add 0) λ(x7:B0)=>L.call Pr ke [.string Bb,.string x7,I x6.1,I x6.2.1] rL λ(x8:Sl)=>K (.slice x8.a x8.len x8.cap)
def GH(p0:Option Addr)(p1:ht1)(h:XW p0 p1 K w):CV Ym [.v (.pointer p0),.ag (qc1 p1)] K w:=zy Tryz.f32 .auto _ h
def GC:ZO Pr Ym:=zK (by kernel_rfl)
def FJ:Ann:=(.q2 (.q2 (.q2 .auto (some [])) none) none)
def qJ(p0:Option Addr)(p1:ht1)(K:Value→PT):PT:=
  L.new [I p1.1,.string p1.2.1,.string p1.2.2.1,I p1.2.2.2.1,I p1.2.2.2.2.1,.string p1.2.2.2.2.2.1,I p1.2.2.2.2.2.2.1,I p1.2.2.2.2.2.2.2.1,I p1.2.2.2.2.2.2.2.2.1,I p1.2.2.2.2.2.2.2.2.2.1,I p1.2.2.2.2.2.2.2.2.2.2.1,.string p1.2.2.2.2.2.2.2.2.2.2.2.1,.string p1.2.2.2.2.2.2.2.2.2.2.2.2.1,Sv6 p1.2.2.2.2.2.2.2.2.2.2.2.2.2.1,I p1.2.2.2.2.2.2.2.2.2.2.2.2.2.2.1] zP λb1=>L.draw<|L.nonnil p0 λa2=>L.load eP6 (a2.add 0) λ(x3:Option Addr)=>L.load eI6 (Ad6 b1 3) λ(x4:Int)=>L.load eS6 (Ad6 b1 1) λ(x5:B0)=>L.load eI6 (Ad6 b1 4) λ(x6:Int)=>L.call Pr ue [.pointer x3,I x4,.string x5,I x6] rI λ(x7:Int)=>L.ite (x7 != 0) (L.call Pr ZF [I x7] rL λ(x8:Sl)=>K (.slice x8.a x8.len x8.cap))<|L.join (Y:=Unit) (λk9=>L.load eI6 (Ad6 b1 3) λ(x11:Int)=>L.ite (x11 == 2) (L.draw<|L.nonnil p0 λa12=>L.load eP6 (a12.add 2) λ(x13:Option Addr)=>L.load eS6 (Ad6 b1 1) λ(x14:B0)=>L.call Pr uh [.pointer x13,.string x14] (.tup []) λ(x15:Unit)=>k9 (()))<|k9 (())) λz10=>L.load eS6 (Ad6 b1 1) λ(x16:B0)=>L.new [.string x16] zc λb17=>L.call Pr zD [.string tL,.slice (some ⟨b17,0,none⟩) 1 1] rS λ(x18:B0)=>L.new [.string x18] zc λb19=>K (.slice (some ⟨b19,0,none⟩) 1 1)
def Fu(p0:Option Addr)(p1:ht1)(h:qJ p0 p1 K w):CV YF [.v (.pointer p0),.ag (qc1 p1)] K w:=zy Tryz.f33 FJ _ h
def Fm:ZO Pr YF:=zK (by kernel_rfl)
def gY:Ann:=(.q2 (.q2 (.q2 (.q2 (.q2 (.seq (.q2 (.cond .auto .auto) none) .auto (some [(7,eL6)])) none) none) none) none) none)
def Xu(p0:Option Addr)(p1:ht1)(K:Value→PT):PT:=
  L.new [I p1.1,.string p1.2.1,.string p1.2.2.1,I p1.2.2.2.1,I p1.2.2.2.2.1,.string p1.2.2.2.2.2.1,I p1.2.2.2.2.2.2.1,I p1.2.2.2.2.2.2.2.1,I p1.2.2.2.2.2.2.2.2.1,I p1.2.2.2.2.2.2.2.2.2.1,I p1.2.2.2.2.2.2.2.2.2.2.1,.string p1.2.2.2.2.2.2.2.2.2.2.2.1,.string p1.2.2.2.2.2.2.2.2.2.2.2.2.1,Sv6 p1.2.2.2.2.2.2.2.2.2.2.2.2.2.1,I p1.2.2.2.2.2.2.2.2.2.2.2.2.2.2.1] zP λb1=>L.load (.agg lf1) (⟨b1,0,none⟩) λ(x2:pt1)=>L.call Pr XP [.pointer p0,(qa1 x2)] rS λ(x3:B0)=>L.draw<|L.nonnil p0 λa4=>L.load eP6 (a4.add 4) λ(x5:Option Addr)=>L.load eI6 (Ad6 b1 3) λ(x6:Int)=>L.nonnil p0 λa7=>L.load eI6 (a7.add 6) λ(x8:Int)=>L.call Pr uk [.pointer x5,I x6,.string x3,I x8] rL λ(x9:Sl)=>L.call Pr Jh [Sv6 x9,.slice none 0 0] rL λ(x10:Sl)=>L.nonnil p0 λa11=>L.load (.one (.map)) (a11.add 5) λ(x12:Option Nat)=>L.call Pr YP [.map x12,.string x3] (.tup [eP6,eB6]) λ(x13:Option Addr×Bool×Unit)=>L.join (Y:=Sl×Unit) (λk14=>L.ite x13.2.1 (L.ite (decide (((x9.len:Nat):Int)>0)) (L.idx x9.a 0 x9.len 4 λa16=>L.load eI6 (a16.add 1) λ(x17:Int)=>L.ite (x17 == 2) (L.nonnil x13.1 λa18=>L.load eI6 ((a18.add 1).add 0) λ(x19:Int)=>L.ite (x19 == 0) (L.nonnil x13.1 λa20=>L.store ((a20.add 1).add 0) [I 1]<|L.new [.string x3] zc λb21=>L.call Pr zD [.string JL,.slice (some ⟨b21,0,none⟩) 1 1] rS λ(x22:B0)=>L.new [I 1] zp λb23=>L.call Pr zL [.string x22,.slice (some ⟨b23,0,none⟩) 1 1] rS λ(x24:B0)=>L.new [.string x24] zc λb25=>L.sem Pr (.one (.one .slice)) (Builtin.append_ #[zm,zm] zm #[Sv6 x10,.slice (some ⟨b25,0,none⟩) 1 1]) λ(s26:Sl)=>k14 (⟨s26.a,s26.len,s26.cap⟩,()))<|k14 (⟨x10.a,x10.len,x10.cap⟩,()))<|k14 (⟨x10.a,x10.len,x10.cap⟩,()))<|k14 (⟨x10.a,x10.len,x10.cap⟩,()))<|k14 (⟨x10.a,x10.len,x10.cap⟩,())) λz15=>K (.slice z15.1.a z15.1.len z15.1.cap)
def gU(p0:Option Addr)(p1:ht1)(h:Xu p0 p1 K w):CV yZ [.v (.pointer p0),.ag (qc1 p1)] K w:=zy Tryz.f34 gY _ h
def gR:ZO Pr yZ:=zK (by kernel_rfl)
def qL(p0:Option Addr)(p1:ht1)(K:Value→PT):PT:=
  L.new [I p1.1,.string p1.2.1,.string p1.2.2.1,I p1.2.2.2.1,I p1.2.2.2.2.1,.string p1.2.2.2.2.2.1,I p1.2.2.2.2.2.2.1,I p1.2.2.2.2.2.2.2.1,I p1.2.2.2.2.2.2.2.2.1,I p1.2.2.2.2.2.2.2.2.2.1,I p1.2.2.2.2.2.2.2.2.2.2.1,.string p1.2.2.2.2.2.2.2.2.2.2.2.1,.string p1.2.2.2.2.2.2.2.2.2.2.2.2.1,Sv6 p1.2.2.2.2.2.2.2.2.2.2.2.2.2.1,I p1.2.2.2.2.2.2.2.2.2.2.2.2.2.2.1] zP λb1=>L.draw<|L.nonnil p0 λa2=>L.load eP6 (a2.add 4) λ(x3:Option Addr)=>L.load eI6 (Ad6 b1 3) λ(x4:Int)=>L.call Pr vi [.pointer x3,I x4] (.tup [eL6,eI6]) λ(x5:Sl×Int×Unit)=>L.ite (x5.2.1 != 0) (L.call Pr ZF [I x5.2.1] rL λ(x6:Sl)=>K (.slice x6.a x6.len x6.cap))<|L.call Pr Jh [Sv6 x5.1,.slice none 0 0] rL λ(x7:Sl)=>K (.slice x7.a x7.len x7.cap)
def Fv(p0:Option Addr)(p1:ht1)(h:qL p0 p1 K w):CV YG [.v (.pointer p0),.ag (qc1 p1)] K w:=zy Tryz.f35 .auto _ h
def Fo:ZO Pr YG:=zK (by kernel_rfl)
def pJ:Ann:=(.q2 (.q2 (.q2 (.q2 (.q2 .auto (some [(7,eL6)])) none) none) none) none)
def uv(p0:Option Addr)(p1:ht1)(K:Value→PT):PT:=
  L.new [I p1.1,.string p1.2.1,.string p1.2.2.1,I p1.2.2.2.1,I p1.2.2.2.2.1,.string p1.2.2.2.2.2.1,I p1.2.2.2.2.2.2.1,I p1.2.2.2.2.2.2.2.1,I p1.2.2.2.2.2.2.2.2.1,I p1.2.2.2.2.2.2.2.2.2.1,I p1.2.2.2.2.2.2.2.2.2.2.1,.string p1.2.2.2.2.2.2.2.2.2.2.2.1,.string p1.2.2.2.2.2.2.2.2.2.2.2.2.1,Sv6 p1.2.2.2.2.2.2.2.2.2.2.2.2.2.1,I p1.2.2.2.2.2.2.2.2.2.2.2.2.2.2.1] zP λb1=>L.draw<|L.nonnil p0 λa2=>L.load eP6 (a2.add 3) λ(x3:Option Addr)=>L.load eI6 (Ad6 b1 3) λ(x4:Int)=>L.call Pr Qg [.pointer x3,I x4] rI λ(x5:Int)=>L.ite (x5 != 0) (L.call Pr ZF [I x5] rL λ(x6:Sl)=>K (.slice x6.a x6.len x6.cap))<|L.draw<|L.nonnil p0 λa7=>L.load eP6 (a7.add 3) λ(x8:Option Addr)=>L.load eI6 (Ad6 b1 3) λ(x9:Int)=>L.call Pr vk [.pointer x8,I x9] rS λ(x10:B0)=>L.load eI6 (Ad6 b1 3) λ(x11:Int)=>L.new [I x11] zp λb12=>L.call Pr zL [.string WZ,.slice (some ⟨b12,0,none⟩) 1 1] rS λ(x13:B0)=>L.new [.string x13] zc λb14=>L.join (Y:=Sl×Unit) (λk15=>L.nonnil p0 λa17=>L.load eP6 (a17.add 1) λ(x18:Option Addr)=>L.call Pr Ye [.pointer x18,.string x10] rB λ(x19:Bool)=>L.ite (!x19) (L.nonnil p0 λa20=>L.load eP6 (a20.add 1) λ(x21:Option Addr)=>L.call Pr ud [.pointer x21,.string x10] rI λ(x22:Int)=>L.new [.string x10] zc λb23=>L.call Pr zD [.string Pf,.slice (some ⟨b23,0,none⟩) 1 1] rS λ(x24:B0)=>L.new [.string x24] zc λb25=>L.sem Pr (.one (.one .slice)) (Builtin.append_ #[zm,zm] zm #[.slice (some ⟨b14,0,none⟩) 1 1,.slice (some ⟨b25,0,none⟩) 1 1]) λ(s26:Sl)=>k15 (⟨s26.a,s26.len,s26.cap⟩,()))<|k15 (⟨some ⟨b14,0,none⟩,1,1⟩,())) λz16=>L.nonnil p0 λa27=>L.load eP6 (a27.add 4) λ(x28:Option Addr)=>L.call Pr xR [.pointer x28,.string x10] rL λ(x29:Sl)=>L.call Pr Jh [Sv6 x29,Sv6 z16.1] rL λ(x30:Sl)=>K (.slice x30.a x30.len x30.cap)
def pi(p0:Option Addr)(p1:ht1)(h:uv p0 p1 K w):CV jm [.v (.pointer p0),.ag (qc1 p1)] K w:=zy Tryz.f36 pJ _ h
def pf:ZO Pr jm:=zK (by kernel_rfl)
def FK:Ann:=(.q2 (.q2 (.q2 (.seq (.one [(4,eL6)] .auto) .auto none) none) none) none)
def qK(p0:Option Addr)(p1:ht1)(K:Value→PT):PT:=
  L.new [I p1.1,.string p1.2.1,.string p1.2.2.1,I p1.2.2.2.1,I p1.2.2.2.2.1,.string p1.2.2.2.2.2.1,I p1.2.2.2.2.2.2.1,I p1.2.2.2.2.2.2.2.1,I p1.2.2.2.2.2.2.2.2.1,I p1.2.2.2.2.2.2.2.2.2.1,I p1.2.2.2.2.2.2.2.2.2.2.1,.string p1.2.2.2.2.2.2.2.2.2.2.2.1,.string p1.2.2.2.2.2.2.2.2.2.2.2.2.1,Sv6 p1.2.2.2.2.2.2.2.2.2.2.2.2.2.1,I p1.2.2.2.2.2.2.2.2.2.2.2.2.2.2.1] zP λb1=>L.draw<|L.nonnil p0 λa2=>L.load eP6 (a2.add 3) λ(x3:Option Addr)=>L.load eI6 (Ad6 b1 3) λ(x4:Int)=>L.call Pr uq [.pointer x3,I x4] (.tup [eL6,eI6]) λ(x5:Sl×Int×Unit)=>L.ite (x5.2.1 != 0) (L.call Pr ZF [I x5.2.1] rL λ(x6:Sl)=>K (.slice x6.a x6.len x6.cap))<|L.join (Y:=Sl×Unit) (λk7=>L.draw<|L.nonnil p0 λa9=>L.load eP6 (a9.add 4) λ(x10:Option Addr)=>L.load eI6 (Ad6 b1 3) λ(x11:Int)=>L.alts [(L.call Pr Qe [.pointer x10,Sv6 x5.1] rL λ(x12:Sl)=>L.chk (Ad6 b1 3) [I x11]<|L.new [I x11] zp λb13=>L.chk (a9.add 4) [.pointer x10]<|L.call Pr zL [.string tM,.slice (some ⟨b13,0,none⟩) 1 1] rS λ(x14:B0)=>L.new [.string x14] zc λb15=>L.call Pr Jh [Sv6 x12,.slice (some ⟨b15,0,none⟩) 1 1] rL λ(x16:Sl)=>k7 (⟨x16.a,x16.len,x16.cap⟩,())),(L.new [I x11] zp λb17=>L.chk (a9.add 4) [.pointer x10]<|L.call Pr Qe [.pointer x10,Sv6 x5.1] rL λ(x18:Sl)=>L.chk (Ad6 b1 3) [I x11]<|L.call Pr zL [.string tM,.slice (some ⟨b17,0,none⟩) 1 1] rS λ(x19:B0)=>L.new [.string x19] zc λb20=>L.call Pr Jh [Sv6 x18,.slice (some ⟨b20,0,none⟩) 1 1] rL λ(x21:Sl)=>k7 (⟨x21.a,x21.len,x21.cap⟩,()))]) λz8=>K (.slice z8.1.a z8.1.len z8.1.cap)
def Vj(p0:Option Addr)(p1:ht1)(h:qK p0 p1 K w):CV ZP [.v (.pointer p0),.ag (qc1 p1)] K w:=zy Tryz.f37 FK _ h
def Vh:ZO Pr ZP:=zK (by kernel_rfl)
def FG:Ann:=(.q2 (.q2 (.q2 (.q2 (.seq (.q2 (.one [(33,eI6)] .auto) none) .auto none) none) none) none) none)
def qH(p0:Option Addr)(p1:ht1)(K:Value→PT):PT:=
  L.new [I p1.1,.string p1.2.1,.string p1.2.2.1,I p1.2.2.2.1,I p1.2.2.2.2.1,.string p1.2.2.2.2.2.1,I p1.2.2.2.2.2.2.1,I p1.2.2.2.2.2.2.2.1,I p1.2.2.2.2.2.2.2.2.1,I p1.2.2.2.2.2.2.2.2.2.1,I p1.2.2.2.2.2.2.2.2.2.2.1,.string p1.2.2.2.2.2.2.2.2.2.2.2.1,.string p1.2.2.2.2.2.2.2.2.2.2.2.2.1,Sv6 p1.2.2.2.2.2.2.2.2.2.2.2.2.2.1,I p1.2.2.2.2.2.2.2.2.2.2.2.2.2.2.1] zP λb1=>L.nonnil p0 λa2=>L.load eI6 (a2.add 6) λ(x3:Int)=>L.ite (decide (x3≥1048576)) (L.call Pr ZF [I 9] rL λ(x4:Sl)=>K (.slice x4.a x4.len x4.cap))<|L.nonnil p0 λa5=>L.load eI6 (a5.add 6) λ(x6:Int)=>L.nonnil p0 λa7=>L.store (a7.add 6) [I (Wi (x6+1))]<|L.draw<|L.nonnil p0 λa8=>L.load eP6 (a8.add 4) λ(x9:Option Addr)=>L.nonnil p0 λa10=>L.load eI6 (a10.add 6) λ(x11:Int)=>L.call Pr vg [.pointer x9,I x11] rL λ(x12:Sl)=>L.call Pr Qp [.pointer p0] rL λ(x13:Sl)=>L.loop (Y:=Int×Unit) (0,()) λy14 again15=>L.ite (decide (y14.1<((x13.len:Nat):Int))) (L.idx x13.a y14.1 x13.len 1 λa16=>L.load eS6 a16 λ(x17:B0)=>L.draw<|L.nonnil p0 λa18=>L.load (.one (.map)) (a18.add 5) λ(x19:Option Nat)=>L.semR Pr rP (Instr.lookup Zx (.map x19) (.string x17) false) λ(x20:Option Addr)=>L.nonnil x20 λa21=>L.load eP6 (a21.add 0) λ(x22:Option Addr)=>L.nonnil p0 λa23=>L.load eP6 (a23.add 4) λ(x24:Option Addr)=>L.call Pr Qf [.pointer x24,.string x17] rI λ(x25:Int)=>L.chk (a21.add 0) [.pointer x22]<|L.chkSem Pr (Instr.lookup Zx (.map x19) (.string x17) false) (.pointer x20)<|L.chk (a18.add 5) [.map x19]<|L.call Pr Us [.pointer x22,I x25] (.tup []) λ(x26:Unit)=>again15 (Wi (y14.1+1),()))<|L.nonnil p0 λa27=>L.load eI6 (a27.add 6) λ(x28:Int)=>L.new [I x28] zp λb29=>L.call Pr zL [.string Ra,.slice (some ⟨b29,0,none⟩) 1 1] rS λ(x30:B0)=>L.new [.string x30] zc λb31=>L.call Pr Jh [Sv6 x12,.slice (some ⟨b31,0,none⟩) 1 1] rL λ(x32:Sl)=>K (.slice x32.a x32.len x32.cap)
def Fs(p0:Option Addr)(p1:ht1)(h:qH p0 p1 K w):CV YD [.v (.pointer p0),.ag (qc1 p1)] K w:=zy Tryz.f38 FG _ h
def Fk:ZO Pr YD:=zK (by kernel_rfl)
def GT:Ann:=(.q2 (.seq (.one [(5,(.one (.adr))),(7,eI6),(8,eB6)] .auto) .auto none) none)
def XU(p0:Option Addr)(p1:ht1)(K:Value→PT):PT:=
  L.new [I p1.1,.string p1.2.1,.string p1.2.2.1,I p1.2.2.2.1,I p1.2.2.2.2.1,.string p1.2.2.2.2.2.1,I p1.2.2.2.2.2.2.1,I p1.2.2.2.2.2.2.2.1,I p1.2.2.2.2.2.2.2.2.1,I p1.2.2.2.2.2.2.2.2.2.1,I p1.2.2.2.2.2.2.2.2.2.2.1,.string p1.2.2.2.2.2.2.2.2.2.2.2.1,.string p1.2.2.2.2.2.2.2.2.2.2.2.2.1,Sv6 p1.2.2.2.2.2.2.2.2.2.2.2.2.2.1,I p1.2.2.2.2.2.2.2.2.2.2.2.2.2.2.1] zP λb1=>L.join (Y:=Addr×Int×Bool×Unit) (λk2=>L.draw<|L.nonnil p0 λa4=>L.load eP6 (a4.add 0) λ(x5:Option Addr)=>L.load eS6 (Ad6 b1 1) λ(x6:B0)=>L.alts [(L.call Pr JW [.pointer x5,.string x6] (.tup [(.agg lf0),eI6,eI6,eB6]) λ(x7:pt4)=>L.new [.string s_,I 0,I 0,I 0,I 0,I 0] zF λb8=>L.chk (Ad6 b1 1) [.string x6]<|L.chk (a4.add 0) [.pointer x5]<|L.store (⟨b8,0,none⟩) [.string x7.1.1,I x7.1.2.1,I x7.1.2.2.1,I x7.1.2.2.2.1,I x7.1.2.2.2.2.1,I x7.1.2.2.2.2.2.1]<|k2 (⟨b8,0,none⟩,x7.2.2.1,x7.2.2.2.1,())),(L.new [.string s_,I 0,I 0,I 0,I 0,I 0] zF λb9=>L.chk (Ad6 b1 1) [.string x6]<|L.chk (a4.add 0) [.pointer x5]<|L.call Pr JW [.pointer x5,.string x6] (.tup [(.agg lf0),eI6,eI6,eB6]) λ(x10:pt4)=>L.store (⟨b9,0,none⟩) [.string x10.1.1,I x10.1.2.1,I x10.1.2.2.1,I x10.1.2.2.2.1,I x10.1.2.2.2.2.1,I x10.1.2.2.2.2.2.1]<|k2 (⟨b9,0,none⟩,x10.2.2.1,x10.2.2.2.1,()))]) λz3=>L.ite (!z3.2.2.1) (L.call Pr ZF [I 6] rL λ(x11:Sl)=>K (.slice x11.a x11.len x11.cap))<|L.ite (decide (z3.2.1>999999)) (L.call Pr ZF [I 3] rL λ(x12:Sl)=>K (.slice x12.a x12.len x12.cap))<|L.draw<|L.nonnil p0 λa13=>L.load eP6 (a13.add 1) λ(x14:Option Addr)=>L.load (.agg lf0) z3.1 λ(x15:pt0)=>L.call Pr uc [.pointer x14,(qa0 x15),I z3.2.1] (.tup [eS6,eB6]) λ(x16:B0×Bool×Unit)=>L.ite (!x16.2.1) (L.new [.string x16.1] zc λb17=>L.call Pr zD [.string AR,.slice (some ⟨b17,0,none⟩) 1 1] rS λ(x18:B0)=>L.new [.string x18] zc λb19=>K (.slice (some ⟨b19,0,none⟩) 1 1))<|L.load eI6 (z3.1.add 3) λ(x20:Int)=>L.draw<|L.nonnil p0 λa21=>L.load (.one (.map)) (a21.add 5) λ(x22:Option Nat)=>L.call Pr fB [] rP λ(x23:Option Addr)=>L.chk (a21.add 5) [.map x22]<|L.new [.pointer x23,I (if 1>x20 then 1 else x20),I 0] XE λb24=>L.chk (a21.add 5) [.map x22]<|L.semU Pr (Instr.mapUpdate Zx (.map x22) (.string x16.1) (.pointer (some (⟨b24,0,none⟩))))<|L.new [.string x16.1] zc λb25=>L.call Pr zD [.string gw,.slice (some ⟨b25,0,none⟩) 1 1] rS λ(x26:B0)=>L.new [.string x16.1] zc λb27=>L.call Pr zD [.string JL,.slice (some ⟨b27,0,none⟩) 1 1] rS λ(x28:B0)=>L.new [I (if 1>x20 then 1 else x20)] zp λb29=>L.call Pr zL [.string x28,.slice (some ⟨b29,0,none⟩) 1 1] rS λ(x30:B0)=>L.new [.string x26,.string x30] zc λb31=>K (.slice (some ⟨b31,0,none⟩) 2 2)
def GF(p0:Option Addr)(p1:ht1)(h:XU p0 p1 K w):CV Yk [.v (.pointer p0),.ag (qc1 p1)] K w:=zy Tryz.f39 GT _ h
def GA:ZO Pr Yk:=zK (by kernel_rfl)
def FI:Ann:=(.q2 (.seq (.one [(5,(.one (.adr))),(7,eB6)] .auto) (.q2 (.seq (.one [(8,(.one (.adr))),(9,eI6)] .auto) .auto none) none) none) none)
def qI(p0:Option Addr)(p1:ht1)(K:Value→PT):PT:=
  L.new [I p1.1,.string p1.2.1,.string p1.2.2.1,I p1.2.2.2.1,I p1.2.2.2.2.1,.string p1.2.2.2.2.2.1,I p1.2.2.2.2.2.2.1,I p1.2.2.2.2.2.2.2.1,I p1.2.2.2.2.2.2.2.2.1,I p1.2.2.2.2.2.2.2.2.2.1,I p1.2.2.2.2.2.2.2.2.2.2.1,.string p1.2.2.2.2.2.2.2.2.2.2.2.1,.string p1.2.2.2.2.2.2.2.2.2.2.2.2.1,Sv6 p1.2.2.2.2.2.2.2.2.2.2.2.2.2.1,I p1.2.2.2.2.2.2.2.2.2.2.2.2.2.2.1] zP λb1=>L.join (Y:=Addr×Bool×Unit) (λk2=>L.draw<|L.nonnil p0 λa4=>L.load eP6 (a4.add 0) λ(x5:Option Addr)=>L.load eS6 (Ad6 b1 1) λ(x6:B0)=>L.alts [(L.call Pr xF [.pointer x5,.string x6] (.tup [(.agg [.str,.str,.slice,.int .i64]),eI6,eB6]) λ(x7:pt5)=>L.new [.string s_,.string s_,.slice none 0 0,I 0] zG λb8=>L.chk (Ad6 b1 1) [.string x6]<|L.chk (a4.add 0) [.pointer x5]<|L.store (⟨b8,0,none⟩) [.string x7.1.1,.string x7.1.2.1,Sv6 x7.1.2.2.1,I x7.1.2.2.2.1]<|k2 (⟨b8,0,none⟩,x7.2.2.1,())),(L.new [.string s_,.string s_,.slice none 0 0,I 0] zG λb9=>L.chk (Ad6 b1 1) [.string x6]<|L.chk (a4.add 0) [.pointer x5]<|L.call Pr xF [.pointer x5,.string x6] (.tup [(.agg [.str,.str,.slice,.int .i64]),eI6,eB6]) λ(x10:pt5)=>L.store (⟨b9,0,none⟩) [.string x10.1.1,.string x10.1.2.1,Sv6 x10.1.2.2.1,I x10.1.2.2.2.1]<|k2 (⟨b9,0,none⟩,x10.2.2.1,()))]) λz3=>L.ite (!z3.2.1) (L.call Pr ZF [I 6] rL λ(x11:Sl)=>K (.slice x11.a x11.len x11.cap))<|L.join (Y:=Addr×Int×Unit) (λk12=>L.draw<|L.load (.agg [.str,.str,.slice,.int .i64]) z3.1 λ(x14:pt3)=>L.nonnil p0 λa15=>L.load eP6 (a15.add 1) λ(x16:Option Addr)=>L.alts [(L.call Pr Uq [.agg #[.string x14.1,.string x14.2.1,Sv6 x14.2.2.1,I x14.2.2.2.1],.pointer x16] (.tup [(.agg [.slice,.slice]),eI6]) λ(x17:(Sl×Sl×Unit)×Int×Unit)=>L.new [.slice none 0 0,.slice none 0 0] zl λb18=>L.chk (a15.add 1) [.pointer x16]<|L.chk z3.1 [.string x14.1,.string x14.2.1,Sv6 x14.2.2.1,I x14.2.2.2.1]<|L.store (⟨b18,0,none⟩) [Sv6 x17.1.1,Sv6 x17.1.2.1]<|k12 (⟨b18,0,none⟩,x17.2.1,())),(L.new [.slice none 0 0,.slice none 0 0] zl λb19=>L.chk (a15.add 1) [.pointer x16]<|L.chk z3.1 [.string x14.1,.string x14.2.1,Sv6 x14.2.2.1,I x14.2.2.2.1]<|L.call Pr Uq [.agg #[.string x14.1,.string x14.2.1,Sv6 x14.2.2.1,I x14.2.2.2.1],.pointer x16] (.tup [(.agg [.slice,.slice]),eI6]) λ(x20:(Sl×Sl×Unit)×Int×Unit)=>L.store (⟨b19,0,none⟩) [Sv6 x20.1.1,Sv6 x20.1.2.1]<|k12 (⟨b19,0,none⟩,x20.2.1,()))]) λz13=>L.ite (z13.2.1 != 0) (L.call Pr ZF [I z13.2.1] rL λ(x21:Sl)=>K (.slice x21.a x21.len x21.cap))<|L.draw<|L.load eS6 (Ad6 b1 1) λ(x22:B0)=>L.nonnil p0 λa23=>L.load eP6 (a23.add 2) λ(x24:Option Addr)=>L.load eS6 (Ad6 b1 1) λ(x25:B0)=>L.load (.agg [.slice,.slice]) z13.1 λ(x26:Sl×Sl×Unit)=>L.nonnil p0 λa27=>L.load eI6 (a27.add 6) λ(x28:Int)=>L.load eI6 (z3.1.add 3) λ(x29:Int)=>L.call Pr ug [.pointer x24,.string x25,.agg #[Sv6 x26.1,Sv6 x26.2.1],I x28,I x29] (.one (.agg [.slice,.slice])) λ(x30:Sl×Sl×Unit)=>L.chk (Ad6 b1 1) [.string x22]<|L.call Pr gB [.agg #[Sv6 x30.1,Sv6 x30.2.1]] rS λ(x31:B0)=>L.chk (Ad6 b1 1) [.string x22]<|L.new [.string x22,.string x31] zc λb32=>L.call Pr zD [.string bY,.slice (some ⟨b32,0,none⟩) 2 2] rS λ(x33:B0)=>L.new [.string x33] zc λb34=>K (.slice (some ⟨b34,0,none⟩) 1 1)
def Ft(p0:Option Addr)(p1:ht1)(h:qI p0 p1 K w):CV YE [.v (.pointer p0),.ag (qc1 p1)] K w:=zy Tryz.f40 FI _ h
def Fl:ZO Pr YE:=zK (by kernel_rfl)
def GU:Ann:=(.q2 (.seq (.one [(5,(.one (.adr))),(6,eB6)] .auto) (.q2 (.q2 (.q2 (.q2 (.q2 (.q2 (.seq (.one [(4,eL6)] .auto) .auto none) none) none) none) none) none) none) none) none)
def XV(p0:Option Addr)(p1:ht1)(K:Value→PT):PT:=
  L.new [I p1.1,.string p1.2.1,.string p1.2.2.1,I p1.2.2.2.1,I p1.2.2.2.2.1,.string p1.2.2.2.2.2.1,I p1.2.2.2.2.2.2.1,I p1.2.2.2.2.2.2.2.1,I p1.2.2.2.2.2.2.2.2.1,I p1.2.2.2.2.2.2.2.2.2.1,I p1.2.2.2.2.2.2.2.2.2.2.1,.string p1.2.2.2.2.2.2.2.2.2.2.2.1,.string p1.2.2.2.2.2.2.2.2.2.2.2.2.1,Sv6 p1.2.2.2.2.2.2.2.2.2.2.2.2.2.1,I p1.2.2.2.2.2.2.2.2.2.2.2.2.2.2.1] zP λb1=>L.join (Y:=Addr×Bool×Unit) (λk2=>L.draw<|L.nonnil p0 λa4=>L.load eP6 (a4.add 1) λ(x5:Option Addr)=>L.load eS6 (Ad6 b1 1) λ(x6:B0)=>L.alts [(L.call Pr jn [.pointer x5,.string x6] (.tup [(.agg lf6),eB6]) λ(x7:pt6)=>L.new [.string s_,I 0,.string s_,I 0,I 0,I 0,I 0,I 0] zO λb8=>L.chk (Ad6 b1 1) [.string x6]<|L.chk (a4.add 1) [.pointer x5]<|L.store (⟨b8,0,none⟩) [.string x7.1.1,I x7.1.2.1,.string x7.1.2.2.1,I x7.1.2.2.2.1,I x7.1.2.2.2.2.1,I x7.1.2.2.2.2.2.1,I x7.1.2.2.2.2.2.2.1,I x7.1.2.2.2.2.2.2.2.1]<|k2 (⟨b8,0,none⟩,x7.2.1,())),(L.new [.string s_,I 0,.string s_,I 0,I 0,I 0,I 0,I 0] zO λb9=>L.chk (Ad6 b1 1) [.string x6]<|L.chk (a4.add 1) [.pointer x5]<|L.call Pr jn [.pointer x5,.string x6] (.tup [(.agg lf6),eB6]) λ(x10:pt6)=>L.store (⟨b9,0,none⟩) [.string x10.1.1,I x10.1.2.1,.string x10.1.2.2.1,I x10.1.2.2.2.1,I x10.1.2.2.2.2.1,I x10.1.2.2.2.2.2.1,I x10.1.2.2.2.2.2.2.1,I x10.1.2.2.2.2.2.2.2.1]<|k2 (⟨b9,0,none⟩,x10.2.1,()))]) λz3=>L.ite (!z3.2.1) (L.call Pr ZF [I 6] rL λ(x11:Sl)=>K (.slice x11.a x11.len x11.cap))<|L.draw<|L.nonnil p0 λa12=>L.load (.one (.map)) (a12.add 5) λ(x13:Option Nat)=>L.load eS6 (Ad6 b1 1) λ(x14:B0)=>L.semR Pr rP (Instr.lookup Zx (.map x13) (.string x14) false) λ(x15:Option Addr)=>L.load eS6 (Ad6 b1 1) λ(x16:B0)=>L.call Pr JM [.pointer p0,.string x16,.func (.func jL) #[] #[]] rI λ(x17:Int)=>L.nonnil x15 λa18=>L.load eP6 (a18.add 0) λ(x19:Option Addr)=>L.call Pr Xl [.pointer x19,I 6] (.tup [eI6,eI6]) λ(x20:Int×Int×Unit)=>L.nonnil x15 λa21=>L.load eP6 (a21.add 0) λ(x22:Option Addr)=>L.call Pr Xl [.pointer x22,I 2] (.tup [eI6,eI6]) λ(x23:Int×Int×Unit)=>L.draw<|L.nonnil x15 λa24=>L.load (.agg [.int .i64,.int .i64]) (a24.add 1) λ(x25:Int×Int×Unit)=>L.load (.agg lf0) (z3.1.add 2) λ(x26:pt0)=>L.nonnil p0 λa27=>L.load eP6 (a27.add 4) λ(x28:Option Addr)=>L.load eS6 (Ad6 b1 1) λ(x29:B0)=>L.nonnil x15 λa30=>L.load eP6 (a30.add 0) λ(x31:Option Addr)=>L.call Pr Qf [.pointer x28,.string x29] rI λ(x32:Int)=>L.chk (a30.add 0) [.pointer x31]<|L.chk (z3.1.add 2) [.string x26.1,I x26.2.1,I x26.2.2.1,I x26.2.2.2.1,I x26.2.2.2.2.1,I x26.2.2.2.2.2.1]<|L.chk (a24.add 1) [I x25.1,I x25.2.1]<|L.call Pr ui [.pointer x31] rI λ(x33:Int)=>L.chk (z3.1.add 2) [.string x26.1,I x26.2.1,I x26.2.2.1,I x26.2.2.2.1,I x26.2.2.2.2.1,I x26.2.2.2.2.2.1]<|L.chk (a24.add 1) [I x25.1,I x25.2.1]<|L.call Pr kW [.agg #[I x25.1,I x25.2.1],(qa0 x26),I x17,I x32,I x20.1,I x20.2.1,I x23.1,I x23.2.1,I x33] (.one (.agg [.int .i64,.int .i64])) λ(x34:Int×Int×Unit)=>L.nonnil x15 λa35=>L.store (a35.add 1) [I x34.1,I x34.2.1]<|L.join (Y:=Sl×Unit) (λk36=>L.draw<|L.load eS6 (Ad6 b1 1) λ(x38:B0)=>L.nonnil x15 λa39=>L.load eI6 ((a39.add 1).add 0) λ(x40:Int)=>L.alts [(L.new [.string x38] zc λb41=>L.chk ((a39.add 1).add 0) [I x40]<|L.alts [(L.call Pr zD [.string JL,.slice (some ⟨b41,0,none⟩) 1 1] rS λ(x42:B0)=>L.chk ((a39.add 1).add 0) [I x40]<|L.new [I x40] zp λb43=>L.chk (Ad6 b1 1) [.string x38]<|L.call Pr zL [.string x42,.slice (some ⟨b43,0,none⟩) 1 1] rS λ(x44:B0)=>L.new [.string x44] zc λb45=>k36 (⟨some ⟨b45,0,none⟩,1,1⟩,())),(L.new [I x40] zp λb46=>L.chk (Ad6 b1 1) [.string x38]<|L.call Pr zD [.string JL,.slice (some ⟨b41,0,none⟩) 1 1] rS λ(x47:B0)=>L.chk ((a39.add 1).add 0) [I x40]<|L.call Pr zL [.string x47,.slice (some ⟨b46,0,none⟩) 1 1] rS λ(x48:B0)=>L.new [.string x48] zc λb49=>k36 (⟨some ⟨b49,0,none⟩,1,1⟩,()))]),(L.new [I x40] zp λb50=>L.chk (Ad6 b1 1) [.string x38]<|L.new [.string x38] zc λb51=>L.chk ((a39.add 1).add 0) [I x40]<|L.call Pr zD [.string JL,.slice (some ⟨b51,0,none⟩) 1 1] rS λ(x52:B0)=>L.chk ((a39.add 1).add 0) [I x40]<|L.call Pr zL [.string x52,.slice (some ⟨b50,0,none⟩) 1 1] rS λ(x53:B0)=>L.new [.string x53] zc λb54=>k36 (⟨some ⟨b54,0,none⟩,1,1⟩,()))]) λz37=>K (.slice z37.1.a z37.1.len z37.1.cap)
def GG(p0:Option Addr)(p1:ht1)(h:XV p0 p1 K w):CV Yl [.v (.pointer p0),.ag (qc1 p1)] K w:=zy Tryz.f41 GU _ h
def GB:ZO Pr Yl:=zK (by kernel_rfl)
def FH:Ann:=(.q2 (.seq (.one [(5,(.one (.adr))),(6,eB6)] .auto) (.q2 (.q2 (.q2 (.seq (.q2 (.one [(9,eL6),(47,eI6)] .auto) none) (.seq (.q2 (.one [(9,eL6),(60,eI6)] .auto) none) .auto none) none) none) none) none) none) none)
def jG(p0:Option Addr)(p1:ht1)(K:Value→PT):PT:=
  L.new [I p1.1,.string p1.2.1,.string p1.2.2.1,I p1.2.2.2.1,I p1.2.2.2.2.1,.string p1.2.2.2.2.2.1,I p1.2.2.2.2.2.2.1,I p1.2.2.2.2.2.2.2.1,I p1.2.2.2.2.2.2.2.2.1,I p1.2.2.2.2.2.2.2.2.2.1,I p1.2.2.2.2.2.2.2.2.2.2.1,.string p1.2.2.2.2.2.2.2.2.2.2.2.1,.string p1.2.2.2.2.2.2.2.2.2.2.2.2.1,Sv6 p1.2.2.2.2.2.2.2.2.2.2.2.2.2.1,I p1.2.2.2.2.2.2.2.2.2.2.2.2.2.2.1] zP λb1=>L.join (Y:=Addr×Bool×Unit) (λk2=>L.draw<|L.nonnil p0 λa4=>L.load eP6 (a4.add 1) λ(x5:Option Addr)=>L.load eS6 (Ad6 b1 1) λ(x6:B0)=>L.alts [(L.call Pr jn [.pointer x5,.string x6] (.tup [(.agg lf6),eB6]) λ(x7:pt6)=>L.new [.string s_,I 0,.string s_,I 0,I 0,I 0,I 0,I 0] zO λb8=>L.chk (Ad6 b1 1) [.string x6]<|L.chk (a4.add 1) [.pointer x5]<|L.store (⟨b8,0,none⟩) [.string x7.1.1,I x7.1.2.1,.string x7.1.2.2.1,I x7.1.2.2.2.1,I x7.1.2.2.2.2.1,I x7.1.2.2.2.2.2.1,I x7.1.2.2.2.2.2.2.1,I x7.1.2.2.2.2.2.2.2.1]<|k2 (⟨b8,0,none⟩,x7.2.1,())),(L.new [.string s_,I 0,.string s_,I 0,I 0,I 0,I 0,I 0] zO λb9=>L.chk (Ad6 b1 1) [.string x6]<|L.chk (a4.add 1) [.pointer x5]<|L.call Pr jn [.pointer x5,.string x6] (.tup [(.agg lf6),eB6]) λ(x10:pt6)=>L.store (⟨b9,0,none⟩) [.string x10.1.1,I x10.1.2.1,.string x10.1.2.2.1,I x10.1.2.2.2.1,I x10.1.2.2.2.2.1,I x10.1.2.2.2.2.2.1,I x10.1.2.2.2.2.2.2.1,I x10.1.2.2.2.2.2.2.2.1]<|k2 (⟨b9,0,none⟩,x10.2.1,()))]) λz3=>L.ite (!z3.2.1) (L.call Pr ZF [I 6] rL λ(x11:Sl)=>K (.slice x11.a x11.len x11.cap))<|L.draw<|L.nonnil p0 λa12=>L.load eP6 (a12.add 3) λ(x13:Option Addr)=>L.load eS6 (Ad6 b1 1) λ(x14:B0)=>L.load eI6 ((z3.1.add 2).add 2) λ(x15:Int)=>L.load eS6 (Ad6 b1 1) λ(x16:B0)=>L.call Pr qu [.pointer p0,.string x16] rI λ(x17:Int)=>L.chk ((z3.1.add 2).add 2) [I x15]<|L.chk (Ad6 b1 1) [.string x14]<|L.chk (a12.add 3) [.pointer x13]<|L.call Pr QC [.pointer x13,.string x14,I x15,I x17] (.tup [eL6,eL6]) λ(x18:Sl×Sl×Unit)=>L.loop (Y:=Sl×Int×Unit) (⟨none,0,0⟩,0,()) λy19 again20=>L.ite (decide (y19.2.1<((x18.1.len:Nat):Int))) (L.idx x18.1.a y19.2.1 x18.1.len 1 λa21=>L.load eI6 a21 λ(x22:Int)=>L.new [I x22] zp λb23=>L.call Pr zL [.string AW,.slice (some ⟨b23,0,none⟩) 1 1] rS λ(x24:B0)=>L.new [.string x24] zc λb25=>L.sem Pr (.one (.one .slice)) (Builtin.append_ #[zm,zm] zm #[Sv6 y19.1,.slice (some ⟨b25,0,none⟩) 1 1]) λ(s26:Sl)=>again20 (⟨s26.a,s26.len,s26.cap⟩,Wi (y19.2.1+1),()))<|L.loop (Y:=Sl×Int×Unit) (⟨y19.1.a,y19.1.len,y19.1.cap⟩,0,()) λy27 again28=>L.ite (decide (y27.2.1<((x18.2.1.len:Nat):Int))) (L.idx x18.2.1.a y27.2.1 x18.2.1.len 1 λa29=>L.load eI6 a29 λ(x30:Int)=>L.new [I x30] zp λb31=>L.call Pr zL [.string AZ,.slice (some ⟨b31,0,none⟩) 1 1] rS λ(x32:B0)=>L.new [.string x32] zc λb33=>L.sem Pr (.one (.one .slice)) (Builtin.append_ #[zm,zm] zm #[Sv6 y27.1,.slice (some ⟨b33,0,none⟩) 1 1]) λ(s34:Sl)=>again28 (⟨s34.a,s34.len,s34.cap⟩,Wi (y27.2.1+1),()))<|L.load eS6 (Ad6 b1 1) λ(x35:B0)=>L.call Pr JM [.pointer p0,.string x35,.func (.func jY) #[] #[]] rI λ(x36:Int)=>L.load eS6 (Ad6 b1 1) λ(x37:B0)=>L.new [.string x37] zc λb38=>L.call Pr zD [.string CF,.slice (some ⟨b38,0,none⟩) 1 1] rS λ(x39:B0)=>L.new [I x36] zp λb40=>L.call Pr zL [.string x39,.slice (some ⟨b40,0,none⟩) 1 1] rS λ(x41:B0)=>L.new [.string x41] zc λb42=>L.sem Pr (.one (.one .slice)) (Builtin.append_ #[zm,zm] zm #[Sv6 y27.1,.slice (some ⟨b42,0,none⟩) 1 1]) λ(s43:Sl)=>K (.slice s43.a s43.len s43.cap)
def Vi(p0:Option Addr)(p1:ht1)(h:jG p0 p1 K w):CV yS [.v (.pointer p0),.ag (qc1 p1)] K w:=zy Tryz.f42 FH _ h
def Vg:ZO Pr yS:=zK (by kernel_rfl)
def pN:Ann:=(.q2 (.seq (.q2 (.one [(5,eL6)] (.q2 (.seq (.cond .auto .auto) .auto none) none)) none) (.q2 (.q2 .auto (some [(4,eL6)])) none) none) none)
def KD(p0:Option Addr)(p1:B0)(K:Value→PT):PT:=
  L.nonnil p0 λa1=>L.load (.one (.map)) (a1.add 1) λ(x2:Option Nat)=>L.sem Pr (.one (.one .ptr)) (Instr.range Yb (.map x2)) λ(it3:Option Addr)=>L.loop (Y:=Sl×Unit) (⟨none,0,0⟩,()) λy4 again5=>L.next Pr [eI6,(.agg [.str,.int .i64])] (Instr.next (.pointer it3) false T_) (L.call Pr XQ [Sv6 y4.1] (.tup []) λ(x7:Unit)=>L.join (Y:=Sl×Unit) (λk8=>L.nonnil p0 λa10=>L.load (.one (.map)) ((a10.add 2).add 0) λ(x11:Option Nat)=>L.semR Pr (.tup [eP6,.one .bool]) (Instr.lookup Zr (.map x11) (.string p1) true) λ(x12:Option Addr×Bool×Unit)=>L.ite x12.2.1 (L.call Pr QV [.pointer x12.1] rL λ(x13:Sl)=>k8 (⟨x13.a,x13.len,x13.cap⟩,()))<|k8 (⟨none,0,0⟩,())) λz9=>L.call Pr ZN [Sv6 y4.1] rL λ(x14:Sl)=>K (.tuple #[Sv6 z9.1,Sv6 x14])) λ(x6:pt7)=>L.sem Pr (.tup [eI6,(.agg [.str,.int .i64])]) (Instr.entry (.pointer it3)) λ(x15:pt7)=>L.new [.string s_,I 0] Zu λb16=>L.store (⟨b16,0,none⟩) [.string x15.2.1.1,I x15.2.1.2.1]<|L.load (.agg [.str,.int .i64]) (⟨b16,0,none⟩) λ(x17:B0×Int×Unit)=>L.chkSem Pr (do eqGuard .eql Zu (.tmp 0) (.tmp 0) (.agg #[.string x17.1,I x17.2.1]) (.agg #[.string p1,I 1]);binOp .eql Zu (.agg #[.string x17.1,I x17.2.1]) (.agg #[.string p1,I 1])) (.bool ((x17.1 == p1)&&((x17.2.1 == 1)&&true)))<|L.ite ((x17.1 == p1)&&((x17.2.1 == 1)&&true)) (L.new [I x15.1] zp λb18=>L.sem Pr (.one (.one .slice)) (Builtin.append_ #[ZS,ZS] ZS #[Sv6 y4.1,.slice (some ⟨b18,0,none⟩) 1 1]) λ(s19:Sl)=>again5 (⟨s19.a,s19.len,s19.cap⟩,()))<|again5 (⟨y4.1.a,y4.1.len,y4.1.cap⟩,())
def pz(p0:Option Addr)(p1:B0)(h:KD p0 p1 K w):CV uj [.v (.pointer p0),.v (.string p1)] K w:=zy Tryz.f43 pN _ h
def jP(p0:Sl)(K:Value→PT):PT:=
  L.ite ((p0.a).isNone) (K (.slice none 0 0))<|L.new [] zc λb1=>L.sem Pr (.one (.one .slice)) (Builtin.append_ #[zm,zm] zm #[.slice (some ⟨b1,0,none⟩) 0 0,Sv6 p0]) λ(s2:Sl)=>K (.slice s2.a s2.len s2.cap)
def XI(p0:Sl)(h:jP p0 K w):CV ZX [.v (.slice p0.a p0.len p0.cap)] K w:=zy Tryz.f45 .auto _ h
def Mp(p0:Sl)(K:Value→PT):PT:=
  L.call Pr fD [Sv6 p0] rL λ(x1:Sl)=>L.call Pr Qq [Sv6 x1] (.one (.one (.func))) λ(x2:FV)=>K (.func x2.fn x2.fs x2.cs)
def nI(p0:Sl)(h:Mp p0 K w):CV oQ [.v (.slice p0.a p0.len p0.cap)] K w:=zy Tryz.f47 .auto _ h
def oH(p0:Int)(K:Value→PT):PT:=
  L.new [I p0,I 0,.slice none 0 0] mr λb1=>K (.pointer (some (⟨b1,0,none⟩)))
def tu(p0:Int)(h:oH p0 K w):CV ol [.v (.int .i64 p0)] K w:=zy Tryz.f49 .auto _ h
def oG(p0:Option Addr)(p1 p2:Int)(K:Value→PT):PT:=
  L.new [.pointer p0,I p1,I p2,.slice none 0 0,.slice none 0 0,.slice none 0 0] MX λb1=>K (.pointer (some (⟨b1,0,none⟩)))
def tt(p0:Option Addr)(p1 p2:Int)(h:oG p0 p1 p2 K w):CV oj [.v (.pointer p0),.v (.int .i64 p1),.v (.int .i64 p2)] K w:=zy Tryz.f50 .auto _ h
def cN(p0:B0)(K:Value→PT):PT:=
  L.call Pr vG [.string p0,I 8] rB λ(x1:Bool)=>K (.bool x1)
def rk(p0:B0)(h:cN p0 K w):CV JX [.v (.string p0)] K w:=zy Tryz.f52 .auto _ h
def uP(p0:FV)(K:Value→PT):PT:=
  L.sem Pr (.one (.one .map)) (Instr.makeMap zR none) λ(m1:Option Nat)=>L.new [.map m1,.func p0.fn p0.fs p0.cs] ZG λb2=>K (.pointer (some (⟨b2,0,none⟩)))
def OT(p0:FV)(h:uP p0 K w):CV xP [.v (.func p0.fn p0.fs p0.cs)] K w:=zy Tryz.f56 .auto _ h
def Ml(p0 p1:ht0)(K:Value→PT):PT:=
  L.new [.string p0.1,I p0.2.1,I p0.2.2.1,I p0.2.2.2.1,I p0.2.2.2.2.1,I p0.2.2.2.2.2.1] zF λb1=>L.new [.string p1.1,I p1.2.1,I p1.2.2.1,I p1.2.2.2.1,I p1.2.2.2.2.1,I p1.2.2.2.2.2.1] zF λb2=>L.load (.agg lf0) (⟨b1,0,none⟩) λ(x3:pt0)=>L.load (.agg lf0) (⟨b2,0,none⟩) λ(x4:pt0)=>L.chkSem Pr (do eqGuard .eql zF (.tmp 0) (.tmp 0) ((qa0 x3)) ((qa0 x4));binOp .eql zF ((qa0 x3)) ((qa0 x4))) (.bool ((x3.1 == x4.1)&&((x3.2.1 == x4.2.1)&&((x3.2.2.1 == x4.2.2.1)&&((x3.2.2.2.1 == x4.2.2.2.1)&&((x3.2.2.2.2.1 == x4.2.2.2.2.1)&&((x3.2.2.2.2.2.1 == x4.2.2.2.2.2.1)&&true)))))))<|K (.bool ((x3.1 == x4.1)&&((x3.2.1 == x4.2.1)&&((x3.2.2.1 == x4.2.2.1)&&((x3.2.2.2.1 == x4.2.2.2.1)&&((x3.2.2.2.2.1 == x4.2.2.2.2.1)&&((x3.2.2.2.2.2.1 == x4.2.2.2.2.2.1)&&true)))))))
def nE(p0 p1:ht0)(h:Ml p0 p1 K w):CV yj [.ag (qc0 p0),.ag (qc0 p1)] K w:=zy Tryz.f57 .auto _ h
def nv:ZO Pr yj:=zK (by kernel_rfl)
def Uz(p0:FV)(K:Value→PT):PT:=
  L.sem Pr (.one (.one .map)) (Instr.makeMap zT none) λ(m1:Option Nat)=>L.new [.map m1,.func p0.fn p0.fs p0.cs] Zj λb2=>K (.pointer (some (⟨b2,0,none⟩)))
def gW(p0:FV)(h:Uz p0 K w):CV Xg [.v (.func p0.fn p0.fs p0.cs)] K w:=zy Tryz.f58 .auto _ h
def vw(p0 p1:ht2)(K:Value→PT):PT:=
  L.new [.string p0.1,.string p0.2.1,Sv6 p0.2.2.1,I p0.2.2.2.1] zG λb1=>L.new [.string p1.1,.string p1.2.1,Sv6 p1.2.2.1,I p1.2.2.2.1] zG λb2=>L.load eS6 (Ad6 b1 0) λ(x3:B0)=>L.load eS6 (Ad6 b2 0) λ(x4:B0)=>L.ite (x3.toList == x4.toList) (L.load eS6 (Ad6 b1 1) λ(x5:B0)=>L.load eS6 (Ad6 b2 1) λ(x6:B0)=>L.ite (x5.toList == x6.toList) (L.load eI6 (Ad6 b1 3) λ(x7:Int)=>L.load eI6 (Ad6 b2 3) λ(x8:Int)=>L.ite (x7 == x8) (L.load eL6 (Ad6 b1 2) λ(x9:Sl)=>L.load eL6 (Ad6 b2 2) λ(x10:Sl)=>L.call Pr Zt [Sv6 x9,Sv6 x10,.func (.func vR) #[] #[]] rB λ(x11:Bool)=>K (.bool x11))<|K (.bool false))<|K (.bool false))<|K (.bool false)
def Ty(p0 p1:ht2)(h:vw p0 p1 K w):CV Zo [.ag (qc2 p0),.ag (qc2 p1)] K w:=zy Tryz.f59 .auto _ h
def Tp:ZO Pr Zo:=zK (by kernel_rfl)
def tj(c0:Addr)(K:Value→PT):PT:=
  L.load eI6 c0 λ(x1:Int)=>L.call Pr MF [I x1] rP λ(x2:Option Addr)=>K (.pointer x2)
def WG(c0:Addr)(h:tj c0 K w):CV kf [.v (.pointer (some c0))] K w:=zy Tryz.f60 .auto _ h
def Wu:ZO Pr kf:=zK (by kernel_rfl)
def DB(p0:Int)(K:Value→PT):PT:=
  L.new [.slice none 0 0,I p0] uL λb1=>K (.pointer (some (⟨b1,0,none⟩)))
def bz(p0:Int)(h:DB p0 K w):CV MF [.v (.int .i64 p0)] K w:=zy Tryz.f61 .auto _ h
def Na:Ann:=(.q2 (.seq (.q2 (.q2 (.cond .auto (.q2 (.cond .auto (.q2 (.cond .auto (.q2 (.cond .auto (.q2 (.cond .auto (.q2 (.cond .auto (.q2 .auto (some [(26,eB6)]))) none)) (some [(17,eB6)]))) none)) none)) none)) none) none) .auto none) none)
def Mt(p0:Int)(K:Value→PT):PT:=
  L.new [.bool false,.bool false,.bool false,.bool false,.bool false,.bool false] vV λb1=>L.ite (p0 == 1) (L.store (⟨b1,0,none⟩) [.bool true,.bool false,.bool false,.bool false,.bool true,.bool false]<|L.load (.agg lf5) (⟨b1,0,none⟩) λ(x2:pt8)=>K (.tuple #[(qa2 x2),.bool true]))<|L.ite (p0 == 2) (L.store (⟨b1,0,none⟩) [.bool true,.bool false,.bool false,.bool false,.bool false,.bool true]<|L.load (.agg lf5) (⟨b1,0,none⟩) λ(x3:pt8)=>K (.tuple #[(qa2 x3),.bool true]))<|L.ite (p0 == 3) (L.store (⟨b1,0,none⟩) [.bool true,.bool true,.bool false,.bool true,.bool false,.bool false]<|L.load (.agg lf5) (⟨b1,0,none⟩) λ(x4:pt8)=>K (.tuple #[(qa2 x4),.bool true]))<|L.ite (p0 == 4) (L.store (⟨b1,0,none⟩) [.bool true,.bool true,.bool true,.bool true,.bool false,.bool false]<|L.load (.agg lf5) (⟨b1,0,none⟩) λ(x5:pt8)=>K (.tuple #[(qa2 x5),.bool true]))<|L.join (Y:=Bool×Unit) (λk6=>L.ite (p0 == 5) (k6 (p0 == 5,()))<|L.ite (p0 == 6) (k6 (p0 == 6,()))<|L.ite (p0 == 7) (k6 (p0 == 7,()))<|k6 (p0 == 8,())) λz7=>L.ite z7.1 (L.store (⟨b1,0,none⟩) [.bool true,.bool false,.bool false,.bool false,.bool false,.bool false]<|L.load (.agg lf5) (⟨b1,0,none⟩) λ(x8:pt8)=>K (.tuple #[(qa2 x8),.bool true]))<|L.ite (p0 == 9) (L.store (⟨b1,0,none⟩) [.bool false,.bool false,.bool false,.bool false,.bool false,.bool false]<|L.load (.agg lf5) (⟨b1,0,none⟩) λ(x9:pt8)=>K (.tuple #[(qa2 x9),.bool true]))<|L.join (Y:=Bool×Unit) (λk10=>L.ite (p0 == 10) (k10 (p0 == 10,()))<|L.ite (p0 == 11) (k10 (p0 == 11,()))<|L.ite (p0 == 12) (k10 (p0 == 12,()))<|k10 (p0 == 13,())) λz11=>L.ite z11.1 (L.store (⟨b1,0,none⟩) [.bool false,.bool true,.bool false,.bool false,.bool false,.bool false]<|L.load (.agg lf5) (⟨b1,0,none⟩) λ(x12:pt8)=>K (.tuple #[(qa2 x12),.bool true]))<|L.store (⟨b1,0,none⟩) [.bool false,.bool false,.bool false,.bool false,.bool false,.bool false]<|L.load (.agg lf5) (⟨b1,0,none⟩) λ(x13:pt8)=>K (.tuple #[(qa2 x13),.bool false])
def nM(p0:Int)(h:Mt p0 K w):CV vH [.v (.int .i64 p0)] K w:=zy Tryz.f62 Na _ h
def ON(p0:Bool)(p1:Int)(K:Value→PT):PT:=
  L.ite p0 (K (.bool true))<|K (.bool (p1 == 0))
def TP(p0:Bool)(p1:Int)(h:ON p0 p1 K w):CV Qh [.v (.bool p0),.v (.int .i64 p1)] K w:=zy Tryz.f63 .auto _ h
def VQ(p0:Bool)(p1:B0)(K:Value→PT):PT:=
  L.ite p0 (K (.bool true))<|K (.bool (p1.toList == s_.toList))
def mL(p0:Bool)(p1:B0)(h:VQ p0 p1 K w):CV xH [.v (.bool p0),.v (.string p1)] K w:=zy Tryz.f64 .auto _ h
def uS(p0:Bool)(p1:ht0)(K:Value→PT):PT:=
  L.new [.string p1.1,I p1.2.1,I p1.2.2.1,I p1.2.2.2.1,I p1.2.2.2.2.1,I p1.2.2.2.2.2.1] zF λb1=>L.new [.string s_,I 0,I 0,I 0,I 0,I 0] zF λb2=>L.ite p0 (K (.bool true))<|L.load (.agg lf0) (⟨b1,0,none⟩) λ(x3:pt0)=>L.load (.agg lf0) (⟨b2,0,none⟩) λ(x4:pt0)=>L.chkSem Pr (do eqGuard .eql zF (.tmp 0) (.tmp 0) ((qa0 x3)) ((qa0 x4));binOp .eql zF ((qa0 x3)) ((qa0 x4))) (.bool ((x3.1 == x4.1)&&((x3.2.1 == x4.2.1)&&((x3.2.2.1 == x4.2.2.1)&&((x3.2.2.2.1 == x4.2.2.2.1)&&((x3.2.2.2.2.1 == x4.2.2.2.2.1)&&((x3.2.2.2.2.2.1 == x4.2.2.2.2.2.1)&&true)))))))<|K (.bool ((x3.1 == x4.1)&&((x3.2.1 == x4.2.1)&&((x3.2.2.1 == x4.2.2.1)&&((x3.2.2.2.1 == x4.2.2.2.1)&&((x3.2.2.2.2.1 == x4.2.2.2.2.1)&&((x3.2.2.2.2.2.1 == x4.2.2.2.2.2.1)&&true)))))))
def OW(p0:Bool)(p1:ht0)(h:uS p0 p1 K w):CV xT [.v (.bool p0),.ag (qc0 p1)] K w:=zy Tryz.f65 .auto _ h
def tk(p0:ht2)(K:Value→PT):PT:=
  L.new [.string p0.1,.string p0.2.1,Sv6 p0.2.2.1,I p0.2.2.2.1] zG λb1=>L.load eS6 (Ad6 b1 0) λ(x2:B0)=>L.ite (x2.toList == s_.toList) (L.load eS6 (Ad6 b1 1) λ(x3:B0)=>L.ite (x3.toList == s_.toList) (L.load eI6 (Ad6 b1 3) λ(x4:Int)=>L.ite (x4 == 0) (L.load eL6 (Ad6 b1 2) λ(x5:Sl)=>K (.bool (((x5.len:Nat):Int) == 0)))<|K (.bool false))<|K (.bool false))<|K (.bool false)
def WH(p0:ht2)(h:tk p0 K w):CV gH [.ag (qc2 p0)] K w:=zy Tryz.f66 .auto _ h
def DZ:Ann:=(.q2 (.seq (.q2 (.q2 .auto (some [(5,eB6)])) none) .auto none) none)
def Fj(p0:ht1)(K:Value→PT):PT:=
  L.new [I p0.1,.string p0.2.1,.string p0.2.2.1,I p0.2.2.2.1,I p0.2.2.2.2.1,.string p0.2.2.2.2.2.1,I p0.2.2.2.2.2.2.1,I p0.2.2.2.2.2.2.2.1,I p0.2.2.2.2.2.2.2.2.1,I p0.2.2.2.2.2.2.2.2.2.1,I p0.2.2.2.2.2.2.2.2.2.2.1,.string p0.2.2.2.2.2.2.2.2.2.2.2.1,.string p0.2.2.2.2.2.2.2.2.2.2.2.2.1,Sv6 p0.2.2.2.2.2.2.2.2.2.2.2.2.2.1,I p0.2.2.2.2.2.2.2.2.2.2.2.2.2.2.1] zP λb1=>L.load eI6 (Ad6 b1 0) λ(x2:Int)=>L.join (Y:=Bool×Unit) (λk3=>L.ite (x2 == 1) (k3 (x2 == 1,()))<|k3 (x2 == 2,())) λz4=>L.ite z4.1 (L.load eI6 (Ad6 b1 3) λ(x5:Int)=>L.call Pr ZE [I x5,I 0,I 2147483647] rB λ(x6:Bool)=>K (.bool x6))<|L.ite (x2 == 3) (L.load eI6 (Ad6 b1 3) λ(x7:Int)=>L.call Pr ZE [I x7,I 1,I 2] rB λ(x8:Bool)=>K (.bool x8))<|L.load eI6 (Ad6 b1 3) λ(x9:Int)=>L.call Pr ZE [I x9,I 1,I 2147483647] rB λ(x10:Bool)=>K (.bool x10)
def DV(p0:ht1)(h:Fj p0 K w):CV kY [.ag (qc1 p0)] K w:=zy Tryz.f67 DZ _ h
def Mu(p0:ht1)(K:Value→PT):PT:=
  L.new [I p0.1,.string p0.2.1,.string p0.2.2.1,I p0.2.2.2.1,I p0.2.2.2.2.1,.string p0.2.2.2.2.2.1,I p0.2.2.2.2.2.2.1,I p0.2.2.2.2.2.2.2.1,I p0.2.2.2.2.2.2.2.2.1,I p0.2.2.2.2.2.2.2.2.2.1,I p0.2.2.2.2.2.2.2.2.2.2.1,.string p0.2.2.2.2.2.2.2.2.2.2.2.1,.string p0.2.2.2.2.2.2.2.2.2.2.2.2.1,Sv6 p0.2.2.2.2.2.2.2.2.2.2.2.2.2.1,I p0.2.2.2.2.2.2.2.2.2.2.2.2.2.2.1] zP λb1=>L.load eI6 (Ad6 b1 0) λ(x2:Int)=>L.ite (x2 == 12) (L.load eS6 (Ad6 b1 1) λ(x3:B0)=>L.call Pr QI [.string x3] (.tup [eS6,eI6,eB6]) λ(x4:B0×Int×Bool×Unit)=>K (.bool x4.2.2.1))<|L.load eI6 (Ad6 b1 0) λ(x5:Int)=>L.ite (x5 == 13) (L.load eS6 (Ad6 b1 1) λ(x6:B0)=>L.call Pr QI [.string x6] (.tup [eS6,eI6,eB6]) λ(x7:B0×Int×Bool×Unit)=>K (.bool x7.2.2.1))<|L.load eS6 (Ad6 b1 1) λ(x8:B0)=>L.call Pr Xk [.string x8] rB λ(x9:Bool)=>K (.bool x9)
def nN(p0:ht1)(h:Mu p0 K w):CV vI [.ag (qc1 p0)] K w:=zy Tryz.f68 .auto _ h
def Fh(p0 p1 p2:Int)(K:Value→PT):PT:=
  L.ite (decide (p0≥p1)) (K (.bool (decide (p0≤p2))))<|K (.bool false)
def DT(p0 p1 p2:Int)(h:Fh p0 p1 p2 K w):CV ZE [.v (.int .i64 p0),.v (.int .i64 p1),.v (.int .i64 p2)] K w:=zy Tryz.f69 .auto _ h
def nW:Ann:=(.q2 (.seq (.q2 (.cond .auto (.q2 .auto (some [(8,eB6)]))) none) .auto none) none)
def Mk(p0:ht0)(K:Value→PT):PT:=
  L.new [.string p0.1,I p0.2.1,I p0.2.2.1,I p0.2.2.2.1,I p0.2.2.2.2.1,I p0.2.2.2.2.2.1] zF λb1=>L.load eS6 (Ad6 b1 0) λ(x2:B0)=>L.call Pr Xk [.string x2] rB λ(x3:Bool)=>L.ite (!x3) (K (I 1))<|L.join (Y:=Bool×Unit) (λk4=>L.load eI6 (Ad6 b1 1) λ(x6:Int)=>L.call Pr ye [.agg #[I 0,I 255],I x6] rB λ(x7:Bool)=>L.ite (!x7) (k4 (!x7,()))<|L.load eI6 (Ad6 b1 2) λ(x8:Int)=>L.call Pr ye [.agg #[I 1,I 8],I x8] rB λ(x9:Bool)=>L.ite (!x9) (k4 (!x9,()))<|L.load eI6 (Ad6 b1 4) λ(x10:Int)=>L.call Pr ye [.agg #[I 1,I 10],I x10] rB λ(x11:Bool)=>L.ite (!x11) (k4 (!x11,()))<|L.load eI6 (Ad6 b1 4) λ(x12:Int)=>L.load eI6 (Ad6 b1 3) λ(x13:Int)=>L.call Pr ye [.agg #[I 0,I x12],I x13] rB λ(x14:Bool)=>L.ite (!x14) (k4 (!x14,()))<|L.load eI6 (Ad6 b1 5) λ(x15:Int)=>L.call Pr ye [.agg #[I 0,I 30],I x15] rB λ(x16:Bool)=>k4 (!x16,())) λz5=>L.ite z5.1 (K (I 2))<|K (I 0)
def nD(p0:ht0)(h:Mk p0 K w):CV zW [.ag (qc0 p0)] K w:=zy Tryz.f70 nW _ h
def WK:Ann:=(.q2 (.seq (.q2 .auto (some [(6,eB6)])) (.seq (.q2 (.one [(31,eI6)] .auto) none) .auto none) none) none)
def PZ(p0:ht2)(K:Value→PT):PT:=
  L.new [.string p0.1,.string p0.2.1,Sv6 p0.2.2.1,I p0.2.2.2.1] zG λb1=>L.join (Y:=Bool×Unit) (λk2=>L.load eS6 (Ad6 b1 0) λ(x4:B0)=>L.call Pr Xk [.string x4] rB λ(x5:Bool)=>L.ite (!x5) (k2 (!x5,()))<|L.load eS6 (Ad6 b1 1) λ(x6:B0)=>L.call Pr Xk [.string x6] rB λ(x7:Bool)=>k2 (!x7,())) λz3=>L.ite z3.1 (K (I 1))<|L.load eI6 (Ad6 b1 3) λ(x8:Int)=>L.call Pr ye [.agg #[I 0,I 60],I x8] rB λ(x9:Bool)=>L.ite (!x9) (K (I 2))<|L.load eL6 (Ad6 b1 2) λ(x10:Sl)=>L.call Pr ye [.agg #[I 1,I 6],I ((x10.len:Nat):Int)] rB λ(x11:Bool)=>L.ite (!x11) (K (I 3))<|L.load eL6 (Ad6 b1 2) λ(x12:Sl)=>L.loop (Y:=Int×Unit) (0,()) λy13 again14=>L.ite (decide (y13.1<((x12.len:Nat):Int))) (L.idx x12.a y13.1 x12.len 3 λa15=>L.load (.agg [.str,.str,.int .i64]) a15 λ(x16:pt9)=>L.new [.string s_,.string s_,I 0] zu λb17=>L.store (⟨b17,0,none⟩) [.string x16.1,.string x16.2.1,I x16.2.2.1]<|L.load (.agg [.str,.str,.int .i64]) (⟨b17,0,none⟩) λ(x18:pt9)=>L.call Pr oO [.agg #[.string x18.1,.string x18.2.1,I x18.2.2.1]] rI λ(x19:Int)=>L.ite (x19 != 0) (K (I x19))<|again14 (Wi (y13.1+1),()))<|L.load eL6 (Ad6 b1 2) λ(x20:Sl)=>L.call Pr MG [Sv6 x20] rI λ(x21:Int)=>K (I x21)
def WB(p0:ht2)(h:PZ p0 K w):CV Zc [.ag (qc2 p0)] K w:=zy Tryz.f71 WK _ h
def cR(p0:Int)(K:Value→PT):PT:=
  L.ite (p0 == 0) (K (.string z1S))<|L.ite (p0 == 1) (K (.string AU))<|L.ite (p0 == 2) (K (.string iN))<|L.ite (p0 == 3) (K (.string AX))<|L.ite (p0 == 4) (K (.string iL))<|L.ite (p0 == 5) (K (.string Pe))<|L.ite (p0 == 6) (K (.string AS))<|K (.string CG)
def ru(p0:Int)(h:cR p0 K w):CV cm [.v (.int .i64 p0)] K w:=zy Tryz.f74 .auto _ h
def DI(p0:Int)(K:Value→PT):PT:=
  L.ite (p0 == 7) (K (.string Ba))<|L.ite (p0 == 8) (K (.string sj))<|L.ite (p0 == 9) (K (.string bZ))<|L.ite (p0 == 10) (K (.string iM))<|L.ite (p0 == 11) (K (.string AV))<|L.ite (p0 == 12) (K (.string AY))<|K (.string CG)
def bI(p0:Int)(h:DI p0 K w):CV dO [.v (.int .i64 p0)] K w:=zy Tryz.f75 .auto _ h
def OY:Ann:=(.q2 (.q2 (.q2 .auto (some [(8,eI6)])) none) none)
def uQ(p0:Option Addr)(p1:ht0)(p2:Int)(K:Value→PT):PT:=
  L.new [.string p1.1,I p1.2.1,I p1.2.2.1,I p1.2.2.2.1,I p1.2.2.2.2.1,I p1.2.2.2.2.2.1] zF λb1=>L.load (.agg lf0) (⟨b1,0,none⟩) λ(x2:pt0)=>L.call Pr zW [(qa0 x2)] rI λ(x3:Int)=>L.join (Y:=Int×Unit) (λk4=>L.ite (x3 == 0) (L.draw<|L.nonnil p0 λa6=>L.load eP6 (a6.add 0) λ(x7:Option Addr)=>L.load eS6 (Ad6 b1 0) λ(x8:B0)=>L.call Pr YK [.pointer x7,.string x8,I p2,.bool true] rI λ(x9:Int)=>k4 (x9,()))<|k4 (x3,())) λz5=>L.ite (z5.1 != 0) (K (.tuple #[I 0,I z5.1]))<|L.nonnil p0 λa10=>L.load eI6 (a10.add 2) λ(x11:Int)=>L.nonnil p0 λa12=>L.store (a12.add 2) [I (Wi (x11+1))]<|L.draw<|L.nonnil p0 λa13=>L.load eP6 (a13.add 0) λ(x14:Option Addr)=>L.load eS6 (Ad6 b1 0) λ(x15:B0)=>L.load (.agg lf0) (⟨b1,0,none⟩) λ(x16:pt0)=>L.nonnil p0 λa17=>L.load eI6 (a17.add 2) λ(x18:Int)=>L.call Pr Jb [.pointer x14,.string x15,(qa0 x16),I x18] (.tup []) λ(x19:Unit)=>L.nonnil p0 λa20=>L.load eI6 (a20.add 2) λ(x21:Int)=>K (.tuple #[I x21,I 0])
def OU(p0:Option Addr)(p1:ht0)(p2:Int)(h:uQ p0 p1 p2 K w):CV xQ [.v (.pointer p0),.ag (qc0 p1),.v (.int .i64 p2)] K w:=zy Tryz.f76 OY _ h
def PW(p0 p1:B0)(p2 p3:Int)(K:Value→PT):PT:=
  L.ite (p3 != 0) (L.call Pr ZF [I p3] rL λ(x1:Sl)=>K (.slice x1.a x1.len x1.cap))<|L.new [.string p1] zc λb2=>L.call Pr zD [.string p0,.slice (some ⟨b2,0,none⟩) 1 1] rS λ(x3:B0)=>L.new [I p2] zp λb4=>L.call Pr zL [.string x3,.slice (some ⟨b4,0,none⟩) 1 1] rS λ(x5:B0)=>L.new [.string x5] zc λb6=>K (.slice (some ⟨b6,0,none⟩) 1 1)
def Wx(p0 p1:B0)(p2 p3:Int)(h:PW p0 p1 p2 p3 K w):CV ke [.v (.string p0),.v (.string p1),.v (.int .i64 p2),.v (.int .i64 p3)] K w:=zy Tryz.f77 .auto _ h
def gZ:Ann:=(.q2 (.q2 (.q2 .auto (some [(8,eI6)])) none) none)
def UA(p0:Option Addr)(p1:ht2)(p2:Int)(K:Value→PT):PT:=
  L.new [.string p1.1,.string p1.2.1,Sv6 p1.2.2.1,I p1.2.2.2.1] zG λb1=>L.load (.agg [.str,.str,.slice,.int .i64]) (⟨b1,0,none⟩) λ(x2:pt3)=>L.call Pr Zc [.agg #[.string x2.1,.string x2.2.1,Sv6 x2.2.2.1,I x2.2.2.2.1]] rI λ(x3:Int)=>L.join (Y:=Int×Unit) (λk4=>L.ite (x3 == 0) (L.draw<|L.nonnil p0 λa6=>L.load eP6 (a6.add 1) λ(x7:Option Addr)=>L.load eS6 (Ad6 b1 0) λ(x8:B0)=>L.call Pr YR [.pointer x7,.string x8,I p2,.bool true] rI λ(x9:Int)=>k4 (x9,()))<|k4 (x3,())) λz5=>L.ite (z5.1 != 0) (K (.tuple #[I 0,I z5.1]))<|L.nonnil p0 λa10=>L.load eI6 (a10.add 2) λ(x11:Int)=>L.nonnil p0 λa12=>L.store (a12.add 2) [I (Wi (x11+1))]<|L.draw<|L.nonnil p0 λa13=>L.load eP6 (a13.add 1) λ(x14:Option Addr)=>L.load eS6 (Ad6 b1 0) λ(x15:B0)=>L.load (.agg [.str,.str,.slice,.int .i64]) (⟨b1,0,none⟩) λ(x16:pt3)=>L.nonnil p0 λa17=>L.load eI6 (a17.add 2) λ(x18:Int)=>L.call Pr oh [.agg #[.string x16.1,.string x16.2.1,Sv6 x16.2.2.1,I x16.2.2.2.1]] (.one (.agg [.str,.str,.slice,.int .i64])) λ(x19:pt3)=>L.chk (a17.add 2) [I x18]<|L.chk (Ad6 b1 0) [.string x15]<|L.chk (a13.add 1) [.pointer x14]<|L.call Pr Jx [.pointer x14,.string x15,.agg #[.string x19.1,.string x19.2.1,Sv6 x19.2.2.1,I x19.2.2.2.1],I x18] (.tup []) λ(x20:Unit)=>L.nonnil p0 λa21=>L.load eI6 (a21.add 2) λ(x22:Int)=>K (.tuple #[I x22,I 0])
def gX(p0:Option Addr)(p1:ht2)(p2:Int)(h:UA p0 p1 p2 K w):CV Xh [.v (.pointer p0),.ag (qc2 p1),.v (.int .i64 p2)] K w:=zy Tryz.f78 gZ _ h
def pK:Ann:=(.q2 (.q2 (.q2 (.q2 .auto (some [])) (some [(9,eI6)])) none) none)
def Ku(p0:Option Addr)(p1:Int)(p2:B0)(p3:Int)(K:Value→PT):PT:=
  L.join (Y:=Int×Unit) (λk1=>L.ite (p1 == 1) (L.nonnil p0 λa3=>L.load eP6 (a3.add 0) λ(x4:Option Addr)=>L.call Pr xl [.pointer x4,.string p2,I p3] rI λ(x5:Int)=>k1 (x5,()))<|L.ite (p1 == 2) (L.nonnil p0 λa6=>L.load eP6 (a6.add 1) λ(x7:Option Addr)=>L.call Pr xO [.pointer x7,.string p2,I p3] rI λ(x8:Int)=>k1 (x8,()))<|k1 (12,())) λz2=>L.join (Y:=Unit) (λk9=>L.ite (z2.1 == 0) (L.nonnil p0 λa11=>L.load eI6 (a11.add 2) λ(x12:Int)=>L.nonnil p0 λa13=>L.store (a13.add 2) [I (Wi (x12+1))]<|k9 (()))<|k9 (())) λz10=>K (I z2.1)
def po(p0:Option Addr)(p1:Int)(p2:B0)(p3:Int)(h:Ku p0 p1 p2 p3 K w):CV ue [.v (.pointer p0),.v (.int .i64 p1),.v (.string p2),.v (.int .i64 p3)] K w:=zy Tryz.f79 pK _ h
def Ox(p0:Int)(K:Value→PT):PT:=
  L.call Pr JZ [I p0] rS λ(x1:B0)=>L.new [.string x1] zc λb2=>L.call Pr zD [.string uD,.slice (some ⟨b2,0,none⟩) 1 1] rS λ(x3:B0)=>L.new [.string x3] zc λb4=>K (.slice (some ⟨b4,0,none⟩) 1 1)
def Tu(p0:Int)(h:Ox p0 K w):CV ZF [.v (.int .i64 p0)] K w:=zy Tryz.f80 .auto _ h
def KA(p0:Option Addr)(p1:B0)(K:Value→PT):PT:=
  L.nonnil p0 λa1=>L.load (.one (.map)) (a1.add 0) λ(x2:Option Nat)=>L.sem Pr (.tup []) (Builtin.delete_ #[yI,zc] T_ #[.map x2,.string p1]) λ_=>K (.tuple #[])
def pt(p0:Option Addr)(p1:B0)(h:KA p0 p1 K w):CV uh [.v (.pointer p0),.v (.string p1)] K w:=zy Tryz.f81 .auto _ h
def UK(p0:Option Addr)(p1:ht1)(K:Value→PT):PT:=
  L.new [I p1.1,.string p1.2.1,.string p1.2.2.1,I p1.2.2.2.1,I p1.2.2.2.2.1,.string p1.2.2.2.2.2.1,I p1.2.2.2.2.2.2.1,I p1.2.2.2.2.2.2.2.1,I p1.2.2.2.2.2.2.2.2.1,I p1.2.2.2.2.2.2.2.2.2.1,I p1.2.2.2.2.2.2.2.2.2.2.1,.string p1.2.2.2.2.2.2.2.2.2.2.2.1,.string p1.2.2.2.2.2.2.2.2.2.2.2.2.1,Sv6 p1.2.2.2.2.2.2.2.2.2.2.2.2.2.1,I p1.2.2.2.2.2.2.2.2.2.2.2.2.2.2.1] zP λb1=>L.load eS6 (Ad6 b1 1) λ(x2:B0)=>L.call Pr UH [.pointer p0,.string x2] (.tup [(.agg [.slice,.slice]),eB6]) λ(x3:(Sl×Sl×Unit)×Bool×Unit)=>L.new [.slice none 0 0,.slice none 0 0] zl λb4=>L.store (⟨b4,0,none⟩) [Sv6 x3.1.1,Sv6 x3.1.2.1]<|L.ite (!x3.2.1) (K (.string s_))<|L.load eS6 (Ad6 b1 2) λ(x5:B0)=>L.ite (x5.toList == s_.toList) (L.load (.agg [.slice,.slice]) (⟨b4,0,none⟩) λ(x6:Sl×Sl×Unit)=>L.load eI6 (Ad6 b1 4) λ(x7:Int)=>L.call Pr gC [.agg #[Sv6 x6.1,Sv6 x6.2.1],I x7] rS λ(x8:B0)=>K (.string x8))<|L.load (.agg [.slice,.slice]) (⟨b4,0,none⟩) λ(x9:Sl×Sl×Unit)=>L.load eS6 (Ad6 b1 2) λ(x10:B0)=>L.call Pr oM [.agg #[Sv6 x9.1,Sv6 x9.2.1],.string x10] (.tup [eS6,eB6]) λ(x11:B0×Bool×Unit)=>K (.string x11.1)
def GK(p0:Option Addr)(p1:ht1)(h:UK p0 p1 K w):CV XP [.v (.pointer p0),.ag (qc1 p1)] K w:=zy Tryz.f82 .auto _ h
def pP:Ann:=(.q2 (.q2 (.q2 (.q2 (.q2 .auto (some [])) none) none) none) none)
def KE(p0:Option Addr)(p1:Int)(p2:B0)(p3:Int)(K:Value→PT):PT:=
  L.call Pr vh [.pointer p0,I p1] rB λ(x1:Bool)=>L.ite x1 (L.call Pr qx [.string Pe] (.one (.agg [.int .i64,.int .i64,.int .i64,.str])) λ(x2:kS)=>L.new [I 0,I 0,I 0,.string s_] zz λb3=>L.store (⟨b3,0,none⟩) [I x2.1,I x2.2.1,I x2.2.2.1,.string x2.2.2.2.1]<|L.store (Ad6 b3 0) [I p1]<|L.load (.agg [.int .i64,.int .i64,.int .i64,.str]) (⟨b3,0,none⟩) λ(x4:kS)=>L.new [I x4.1,I x4.2.1,I x4.2.2.1,.string x4.2.2.2.1] zz λb5=>K (.slice (some ⟨b5,0,none⟩) 1 1))<|L.ite (p2.toList == s_.toList) (L.call Pr qx [.string gx] (.one (.agg [.int .i64,.int .i64,.int .i64,.str])) λ(x6:kS)=>L.call Pr yf [.pointer p0,I p1,.string s_,.agg #[I x6.1,I x6.2.1,I x6.2.2.1,.string x6.2.2.2.1]] (.one (.agg [.int .i64,.int .i64,.int .i64,.str])) λ(x7:kS)=>L.new [I x7.1,I x7.2.1,I x7.2.2.1,.string x7.2.2.2.1] zz λb8=>K (.slice (some ⟨b8,0,none⟩) 1 1))<|L.nonnil p0 λa9=>L.call Pr jv [.pointer (some (a9.add 2)),.string p2] rP λ(x10:Option Addr)=>L.join (Y:=Unit) (λk11=>L.call Pr Xz [.pointer x10] rI λ(x13:Int)=>L.ite (x13 == 0) (L.call Pr Qd [.pointer p0,I p1,.string p2] (.tup [(.agg [.int .i64,.int .i64,.int .i64,.str]),eB6]) λ(x14:z22)=>L.new [I 0,I 0,I 0,.string s_] zz λb15=>L.store (⟨b15,0,none⟩) [I x14.1.1,I x14.1.2.1,I x14.1.2.2.1,.string x14.1.2.2.2.1]<|L.ite x14.2.1 (L.load (.agg [.int .i64,.int .i64,.int .i64,.str]) (⟨b15,0,none⟩) λ(x16:kS)=>L.new [I x16.1,I x16.2.1,I x16.2.2.1,.string x16.2.2.2.1] zz λb17=>K (.slice (some ⟨b17,0,none⟩) 1 1))<|k11 (()))<|k11 (())) λz12=>L.nonnil p0 λa18=>L.load eI6 (a18.add 5) λ(x19:Int)=>L.call Pr Qb [.pointer x10,I p1,I (Wi (p3+x19))] rI λ(x20:Int)=>L.ite (x20 != 0) (L.call Pr qx [.string kQ] (.one (.agg [.int .i64,.int .i64,.int .i64,.str])) λ(x21:kS)=>L.call Pr yf [.pointer p0,I p1,.string p2,.agg #[I x21.1,I x21.2.1,I x21.2.2.1,.string x21.2.2.2.1]] (.one (.agg [.int .i64,.int .i64,.int .i64,.str])) λ(x22:kS)=>L.new [I x22.1,I x22.2.1,I x22.2.2.1,.string x22.2.2.2.1] zz λb23=>K (.slice (some ⟨b23,0,none⟩) 1 1))<|L.call Pr yf [.pointer p0,I p1,.string p2,.agg #[I 0,I 2,I 0,.string s_]] (.one (.agg [.int .i64,.int .i64,.int .i64,.str])) λ(x24:kS)=>L.new [I x24.1,I x24.2.1,I x24.2.2.1,.string x24.2.2.2.1] zz λb25=>K (.slice (some ⟨b25,0,none⟩) 1 1)
def pC(p0:Option Addr)(p1:Int)(p2:B0)(p3:Int)(h:KE p0 p1 p2 p3 K w):CV uk [.v (.pointer p0),.v (.int .i64 p1),.v (.string p2),.v (.int .i64 p3)] K w:=zy Tryz.f83 pP _ h
def nT:Ann:=(.q2 (.seq (.q2 (.q2 .auto (some [(8,eS6)])) none) .auto none) none)
def Mh(p0 p1:Sl)(K:Value→PT):PT:=
  L.new [Sv6 p1] zm λb1=>L.call Pr ft [Sv6 p0] (.one (.one (.func))) λ(x2:FV)=>L.range Pr none (.func x2.fn x2.fs x2.cs) [eS6] (λl3(y4:B0×Unit) R5=>L.begin Pr l3<|L.load eL6 (⟨b1,0,none⟩) λ(x8:Sl)=>L.new [.string y4.1] zc λb9=>L.sem Pr (.one (.one .slice)) (Builtin.append_ #[zm,zm] zm #[Sv6 x8,.slice (some ⟨b9,0,none⟩) 1 1]) λ(s10:Sl)=>L.store (⟨b1,0,none⟩) [Sv6 s10]<|L.endRound Pr l3 none R5) λd6 j7=>L.jump j7 (L.load eL6 (⟨b1,0,none⟩) λ(x11:Sl)=>L.call Pr ZX [Sv6 x11] rL λ(x12:Sl)=>L.unmark Pr (d6++[])<|K (.slice x12.a x12.len x12.cap)) (L.unmark Pr (d6++[])<|K (.slice none 0 0)) []
def nA(p0 p1:Sl)(h:Mh p0 p1 K w):CV Jh [.v (.slice p0.a p0.len p0.cap),.v (.slice p1.a p1.len p1.cap)] K w:=zy Tryz.f84 nT _ h
def YT(p0:Option Nat)(p1:B0)(K:Value→PT):PT:=
  L.semR Pr (.tup [eP6,.one .bool]) (Instr.lookup Zx (.map p0) (.string p1) true) λ(x1:Option Addr×Bool×Unit)=>K (.tuple #[.pointer x1.1,.bool x1.2.1])
def xh(p0:Option Nat)(p1:B0)(h:YT p0 p1 K w):CV YP [.v (.map p0),.v (.string p1)] K w:=zy Tryz.f85 .auto _ h
def tC:Ann:=(.q2 (.q2 (.seq (.q2 (.one [(5,eL6),(14,eI6)] (.q2 (.q2 (.q2 .auto (some [(5,eL6)])) none) none)) none) .auto none) none) none)
def oB(p0:B0)(p1:Sl)(K:Value→PT):PT:=
  L.new [.string p0] zc λb1=>L.loop (Y:=Sl×Int×Unit) (⟨some ⟨b1,0,none⟩,1,1⟩,0,()) λy2 again3=>L.ite (decide (y2.2.1<((p1.len:Nat):Int))) (L.join (Y:=Sl×Unit) (λk4=>L.idx p1.a y2.2.1 p1.len 1 λa6=>L.load eI6 a6 λ(x7:Int)=>L.semR Pr (.tup [eS6,.one .bool]) (Instr.typeAssert (.iface zp (I x7)) fS zc true) λ(x8:B0×Bool×Unit)=>L.ite x8.2.1 (L.new [.string x8.1] zc λb9=>L.sem Pr (.one (.one .slice)) (Builtin.append_ #[zm,zm] zm #[Sv6 y2.1,.slice (some ⟨b9,0,none⟩) 1 1]) λ(s10:Sl)=>k4 (⟨s10.a,s10.len,s10.cap⟩,()))<|L.ite true (L.call Pr xM [I x7] rS λ(x11:B0)=>L.new [.string x11] zc λb12=>L.sem Pr (.one (.one .slice)) (Builtin.append_ #[zm,zm] zm #[Sv6 y2.1,.slice (some ⟨b12,0,none⟩) 1 1]) λ(s13:Sl)=>k4 (⟨s13.a,s13.len,s13.cap⟩,()))<|k4 (⟨y2.1.a,y2.1.len,y2.1.cap⟩,())) λz5=>again3 (⟨z5.1.a,z5.1.len,z5.1.cap⟩,Wi (y2.2.1+1),()))<|L.call Pr Ul [Sv6 y2.1,.string Oj] rS λ(x14:B0)=>K (.string x14)
def tl(p0:B0)(p1:Sl)(h:oB p0 p1 K w):CV zL [.v (.string p0),.v (.slice p1.a p1.len p1.cap)] K w:=zy Tryz.f86 tC _ h
def TW:Ann:=(.q2 (.q2 (.q2 (.q2 (.seq (.one [(4,eL6),(5,eI6)] .auto) .auto none) none) none) none) none)
def OG(p0:Option Addr)(p1:Int)(K:Value→PT):PT:=
  L.nonnil p0 λa1=>L.load eP6 (a1.add 0) λ(x2:Option Addr)=>L.call Pr ur [.pointer x2,I p1] (.tup [eS6,eI6]) λ(x3:B0×Int×Unit)=>L.ite (x3.2.1 != 0) (K (.tuple #[.slice none 0 0,I x3.2.1]))<|L.call Pr yf [.pointer p0,I p1,.string x3.1,.agg #[I 0,I 3,I 0,.string s_]] (.one (.agg [.int .i64,.int .i64,.int .i64,.str])) λ(x4:kS)=>L.new [I 0,I 0,I 0,.string s_] zz λb5=>L.store (⟨b5,0,none⟩) [I x4.1,I x4.2.1,I x4.2.2.1,.string x4.2.2.2.1]<|L.join (Y:=Sl×Int×Unit) (λk6=>L.draw<|L.load (.agg [.int .i64,.int .i64,.int .i64,.str]) (⟨b5,0,none⟩) λ(x8:kS)=>L.alts [(L.new [I x8.1,I x8.2.1,I x8.2.2.1,.string x8.2.2.2.1] zz λb9=>L.call Pr xR [.pointer p0,.string x3.1] rL λ(x10:Sl)=>L.chk (⟨b5,0,none⟩) [I x8.1,I x8.2.1,I x8.2.2.1,.string x8.2.2.2.1]<|L.sem Pr (.one (.one .slice)) (Builtin.append_ #[zC,zC] zC #[.slice (some ⟨b9,0,none⟩) 1 1,Sv6 x10]) λ(s11:Sl)=>k6 (⟨s11.a,s11.len,s11.cap⟩,0,())),(L.call Pr xR [.pointer p0,.string x3.1] rL λ(x12:Sl)=>L.chk (⟨b5,0,none⟩) [I x8.1,I x8.2.1,I x8.2.2.1,.string x8.2.2.2.1]<|L.new [I x8.1,I x8.2.1,I x8.2.2.1,.string x8.2.2.2.1] zz λb13=>L.sem Pr (.one (.one .slice)) (Builtin.append_ #[zC,zC] zC #[.slice (some ⟨b13,0,none⟩) 1 1,Sv6 x12]) λ(s14:Sl)=>k6 (⟨s14.a,s14.len,s14.cap⟩,0,()))]) λz7=>K (.tuple #[Sv6 z7.1,I z7.2.1])
def TF(p0:Option Addr)(p1:Int)(h:OG p0 p1 K w):CV vi [.v (.pointer p0),.v (.int .i64 p1)] K w:=zy Tryz.f87 TW _ h
def OK(p0:Option Addr)(p1:Int)(K:Value→PT):PT:=
  L.nonnil p0 λa1=>L.load (.one (.map)) (a1.add 0) λ(x2:Option Nat)=>L.semR Pr (.tup [(.agg [.str,.ptr]),.one .bool]) (Instr.lookup Za (.map x2) (I p1) true) λ(x3:z1Z)=>L.new [.string s_,.pointer none] Xe λb4=>L.store (⟨b4,0,none⟩) [.string x3.1.1,.pointer x3.1.2.1]<|L.ite (!x3.2.1) (K (I 6))<|L.load eP6 (Ad6 b4 1) λ(x5:Option Addr)=>L.call Pr gF [.pointer x5] rI λ(x6:Int)=>K (I x6)
def TM(p0:Option Addr)(p1:Int)(h:OK p0 p1 K w):CV Qg [.v (.pointer p0),.v (.int .i64 p1)] K w:=zy Tryz.f88 .auto _ h
def OL(p0:Option Addr)(p1:Int)(K:Value→PT):PT:=
  L.nonnil p0 λa1=>L.load (.one (.map)) (a1.add 0) λ(x2:Option Nat)=>L.semR Pr (.one (.agg [.str,.ptr])) (Instr.lookup Za (.map x2) (I p1) false) λ(x3:B0×Option Addr×Unit)=>K (.string x3.1)
def TN(p0:Option Addr)(p1:Int)(h:OL p0 p1 K w):CV vk [.v (.pointer p0),.v (.int .i64 p1)] K w:=zy Tryz.f89 .auto _ h
def QE(p0:Option Addr)(p1:B0)(K:Value→PT):PT:=
  L.nonnil p0 λa1=>L.load (.one (.map)) (a1.add 1) λ(x2:Option Nat)=>L.semR Pr rB (Instr.lookup Xr (.map x2) (.string p1) false) λ(x3:Bool)=>K (.bool x3)
def VS(p0:Option Addr)(p1:B0)(h:QE p0 p1 K w):CV Ye [.v (.pointer p0),.v (.string p1)] K w:=zy Tryz.f90 .auto _ h
def mu:ZO Pr Ye:=zK (by kernel_rfl)
def Kt(p0:Option Addr)(p1:B0)(K:Value→PT):PT:=
  L.nonnil p0 λa1=>L.load (.one (.map)) (a1.add 0) λ(x2:Option Nat)=>L.semR Pr (.tup [(.agg lf6),.one .bool]) (Instr.lookup zV (.map x2) (.string p1) true) λ(x3:pt6)=>L.new [.string s_,I 0,.string s_,I 0,I 0,I 0,I 0,I 0] zO λb4=>L.store (⟨b4,0,none⟩) [.string x3.1.1,I x3.1.2.1,.string x3.1.2.2.1,I x3.1.2.2.2.1,I x3.1.2.2.2.2.1,I x3.1.2.2.2.2.2.1,I x3.1.2.2.2.2.2.2.1,I x3.1.2.2.2.2.2.2.2.1]<|L.ite (!x3.2.1) (K (I 6))<|L.nonnil p0 λa5=>L.load (.one (.map)) (a5.add 1) λ(x6:Option Nat)=>L.semU Pr (Instr.mapUpdate Xr (.map x6) (.string p1) (.bool true))<|K (I 0)
def pn(p0:Option Addr)(p1:B0)(h:Kt p0 p1 K w):CV ud [.v (.pointer p0),.v (.string p1)] K w:=zy Tryz.f91 .auto _ h
def TU:Ann:=(.q2 (.q2 (.q2 (.seq (.q2 (.one [(5,eL6),(19,eI6)] .auto) none) .auto (some [(5,eL6)])) none) none) none)
def OF(p0:Option Addr)(p1:B0)(K:Value→PT):PT:=
  L.nonnil p0 λa1=>L.call Pr jv [.pointer (some (a1.add 2)),.string p1] rP λ(x2:Option Addr)=>L.join (Y:=Sl×Unit) (λk3=>L.call Pr QV [.pointer x2] rL λ(x5:Sl)=>L.loop (Y:=Sl×Int×Unit) (⟨none,0,0⟩,0,()) λy6 again7=>L.ite (decide (y6.2.1<((x5.len:Nat):Int))) (L.idx x5.a y6.2.1 x5.len 1 λa8=>L.load eI6 a8 λ(x9:Int)=>L.call Pr Qd [.pointer p0,I x9,.string p1] (.tup [(.agg [.int .i64,.int .i64,.int .i64,.str]),eB6]) λ(x10:z22)=>L.new [I 0,I 0,I 0,.string s_] zz λb11=>L.store (⟨b11,0,none⟩) [I x10.1.1,I x10.1.2.1,I x10.1.2.2.1,.string x10.1.2.2.2.1]<|L.ite (!x10.2.1) (k3 (⟨y6.1.a,y6.1.len,y6.1.cap⟩,()))<|L.call Pr Vl [.pointer x2] (.tup [eI6,eB6]) λ(x12:Int×Bool×Unit)=>L.load (.agg [.int .i64,.int .i64,.int .i64,.str]) (⟨b11,0,none⟩) λ(x13:kS)=>L.new [I x13.1,I x13.2.1,I x13.2.2.1,.string x13.2.2.2.1] zz λb14=>L.sem Pr (.one (.one .slice)) (Builtin.append_ #[zC,zC] zC #[Sv6 y6.1,.slice (some ⟨b14,0,none⟩) 1 1]) λ(s15:Sl)=>again7 (⟨s15.a,s15.len,s15.cap⟩,Wi (y6.2.1+1),()))<|k3 (⟨y6.1.a,y6.1.len,y6.1.cap⟩,())) λz4=>L.call Pr ZR [Sv6 z4.1] rL λ(x16:Sl)=>K (.slice x16.a x16.len x16.cap)
def TE(p0:Option Addr)(p1:B0)(h:OF p0 p1 K w):CV xR [.v (.pointer p0),.v (.string p1)] K w:=zy Tryz.f92 TU _ h
def pU:Ann:=(.q2 (.q2 (.q2 (.q2 (.seq (.q2 (.one [(29,eI6)] .auto) none) .auto none) none) none) none) none)
def KJ(p0:Option Addr)(p1:Int)(K:Value→PT):PT:=
  L.nonnil p0 λa1=>L.load (.one (.map)) (a1.add 0) λ(x2:Option Nat)=>L.semR Pr (.tup [(.agg [.str,.ptr]),.one .bool]) (Instr.lookup Za (.map x2) (I p1) true) λ(x3:z1Z)=>L.new [.string s_,.pointer none] Xe λb4=>L.store (⟨b4,0,none⟩) [.string x3.1.1,.pointer x3.1.2.1]<|L.ite (!x3.2.1) (K (.tuple #[.slice none 0 0,I 6]))<|L.load eP6 (Ad6 b4 1) λ(x5:Option Addr)=>L.call Pr Un [.pointer x5] (.tup [eL6,eI6]) λ(x6:Sl×Int×Unit)=>L.loop (Y:=Int×Unit) (0,()) λy7 again8=>L.ite (decide (y7.1<((x6.1.len:Nat):Int))) (L.idx x6.1.a y7.1 x6.1.len 1 λa9=>L.load eI6 a9 λ(x10:Int)=>L.nonnil p0 λa11=>L.load (.one (.map)) (a11.add 1) λ(x12:Option Nat)=>L.sem Pr (.tup []) (Builtin.delete_ #[xq,zp] T_ #[.map x12,I x10]) λ_=>again8 (Wi (y7.1+1),()))<|L.call Pr JY [.pointer p0,I p1] (.tup []) λ(x13:Unit)=>K (.tuple #[Sv6 x6.1,I x6.2.1])
def pG(p0:Option Addr)(p1:Int)(h:KJ p0 p1 K w):CV uq [.v (.pointer p0),.v (.int .i64 p1)] K w:=zy Tryz.f93 pU _ h
def TS:Ann:=(.q2 (.q2 (.seq (.q2 (.one [(5,eL6),(11,eI6)] (.q2 (.q2 (.q2 .auto (some [(5,eL6)])) none) none)) none) .auto none) none) none)
def OE(p0:Option Addr)(p1:Sl)(K:Value→PT):PT:=
  L.loop (Y:=Sl×Int×Unit) (⟨none,0,0⟩,0,()) λy1 again2=>L.ite (decide (y1.2.1<((p1.len:Nat):Int))) (L.join (Y:=Sl×Unit) (λk3=>L.idx p1.a y1.2.1 p1.len 1 λa5=>L.load eI6 a5 λ(x6:Int)=>L.nonnil p0 λa7=>L.load (.one (.map)) (a7.add 1) λ(x8:Option Nat)=>L.semR Pr (.one (.agg [.str,.int .i64])) (Instr.lookup Yb (.map x8) (I x6) false) λ(x9:B0×Int×Unit)=>L.new [.string s_,I 0] Zu λb10=>L.store (⟨b10,0,none⟩) [.string x9.1,I x9.2.1]<|L.load (.agg [.str,.int .i64]) (⟨b10,0,none⟩) λ(x11:B0×Int×Unit)=>L.load eS6 (Ad6 b10 0) λ(x12:B0)=>L.chkSem Pr (do eqGuard .eql Zu (.tmp 0) (.tmp 0) (.agg #[.string x11.1,I x11.2.1]) (.agg #[.string x12,I 1]);binOp .eql Zu (.agg #[.string x11.1,I x11.2.1]) (.agg #[.string x12,I 1])) (.bool ((x11.1 == x12)&&((x11.2.1 == 1)&&true)))<|L.ite ((x11.1 == x12)&&((x11.2.1 == 1)&&true)) (L.draw<|L.load eS6 (Ad6 b10 0) λ(x13:B0)=>L.call Pr qx [.string UX] (.one (.agg [.int .i64,.int .i64,.int .i64,.str])) λ(x14:kS)=>L.chk (Ad6 b10 0) [.string x13]<|L.call Pr yf [.pointer p0,I x6,.string x13,.agg #[I x14.1,I x14.2.1,I x14.2.2.1,.string x14.2.2.2.1]] (.one (.agg [.int .i64,.int .i64,.int .i64,.str])) λ(x15:kS)=>L.new [I x15.1,I x15.2.1,I x15.2.2.1,.string x15.2.2.2.1] zz λb16=>L.sem Pr (.one (.one .slice)) (Builtin.append_ #[zC,zC] zC #[Sv6 y1.1,.slice (some ⟨b16,0,none⟩) 1 1]) λ(s17:Sl)=>k3 (⟨s17.a,s17.len,s17.cap⟩,()))<|k3 (⟨y1.1.a,y1.1.len,y1.1.cap⟩,())) λz4=>again2 (⟨z4.1.a,z4.1.len,z4.1.cap⟩,Wi (y1.2.1+1),()))<|L.call Pr ZR [Sv6 y1.1] rL λ(x18:Sl)=>K (.slice x18.a x18.len x18.cap)
def TC(p0:Option Addr)(p1:Sl)(h:OE p0 p1 K w):CV Qe [.v (.pointer p0),.v (.slice p1.a p1.len p1.cap)] K w:=zy Tryz.f94 TS _ h
def TR:Ann:=(.q2 (.q2 (.seq (.q2 (.q2 (.q2 (.one [(20,eI6)] .auto) none) (some [(14,eS6),(15,eP6)])) none) .auto none) none) none)
def OC(p0:Option Addr)(p1:Int)(K:Value→PT):PT:=
  L.new [.pointer p0] Jk λb1=>L.new [I p1] zp λb2=>L.new [.slice none 0 0] zC λb3=>L.load eP6 (⟨b1,0,none⟩) λ(x4:Option Addr)=>L.nonnil x4 λa5=>L.call Pr qy [.pointer (some (a5.add 2))] (.one (.one (.func))) λ(x6:FV)=>L.range Pr none (.func x6.fn x6.fs x6.cs) [eS6,eP6] (λl7(y8:B0×Option Addr×Unit) R9=>L.begin Pr l7<|L.load eI6 (⟨b2,0,none⟩) λ(x12:Int)=>L.call Pr vd [.pointer y8.2.1,I x12] rL λ(x13:Sl)=>L.loop (Y:=Int×Unit) (0,()) λy14 again15=>L.ite (decide (y14.1<((x13.len:Nat):Int))) (L.idx x13.a y14.1 x13.len 1 λa16=>L.load eI6 a16 λ(x17:Int)=>L.draw<|L.load eL6 (⟨b3,0,none⟩) λ(x18:Sl)=>L.load eP6 (⟨b1,0,none⟩) λ(x19:Option Addr)=>L.call Pr qx [.string kF] (.one (.agg [.int .i64,.int .i64,.int .i64,.str])) λ(x20:kS)=>L.chk (⟨b1,0,none⟩) [.pointer x19]<|L.chk (⟨b3,0,none⟩) [Sv6 x18]<|L.call Pr yf [.pointer x19,I x17,.string y8.1,.agg #[I x20.1,I x20.2.1,I x20.2.2.1,.string x20.2.2.2.1]] (.one (.agg [.int .i64,.int .i64,.int .i64,.str])) λ(x21:kS)=>L.chk (⟨b3,0,none⟩) [Sv6 x18]<|L.new [I x21.1,I x21.2.1,I x21.2.2.1,.string x21.2.2.2.1] zz λb22=>L.chk (⟨b3,0,none⟩) [Sv6 x18]<|L.sem Pr (.one (.one .slice)) (Builtin.append_ #[zC,zC] zC #[Sv6 x18,.slice (some ⟨b22,0,none⟩) 1 1]) λ(s23:Sl)=>L.store (⟨b3,0,none⟩) [Sv6 s23]<|again15 (Wi (y14.1+1),()))<|L.endRound Pr l7 none R9) λd10 j11=>L.jump j11 (L.load eL6 (⟨b3,0,none⟩) λ(x24:Sl)=>L.call Pr ZR [Sv6 x24] rL λ(x25:Sl)=>L.unmark Pr (d10++[])<|K (.slice x25.a x25.len x25.cap)) (L.unmark Pr (d10++[])<|K (.slice none 0 0)) []
def TA(p0:Option Addr)(p1:Int)(h:OC p0 p1 K w):CV vg [.v (.pointer p0),.v (.int .i64 p1)] K w:=zy Tryz.f95 TR _ h
def Qu(p0:Option Addr)(K:Value→PT):PT:=
  L.nonnil p0 λa1=>L.load eP6 (a1.add 1) λ(x2:Option Addr)=>L.call Pr vf [.pointer x2] rL λ(x3:Sl)=>K (.slice x3.a x3.len x3.cap)
def KV(p0:Option Addr)(h:Qu p0 K w):CV Qp [.v (.pointer p0)] K w:=zy Tryz.f96 .auto _ h
def oD(p0:Option Addr)(p1:Int)(K:Value→PT):PT:=
  L.nonnil p0 λa1=>L.call Pr qw [.pointer (some (a1.add 0)),I (if 0>p1 then 0 else p1)] (.tup []) λ(x2:Unit)=>L.nonnil p0 λa3=>L.load eI6 (a3.add 61) λ(x4:Int)=>L.nonnil p0 λa5=>L.store (a5.add 61) [I (Wi (x4+1))]<|L.ite (decide ((if 0>p1 then 0 else p1)>0)) (L.nonnil p0 λa6=>L.store (a6.add 61) [I 0]<|K (.tuple #[]))<|K (.tuple #[])
def tn(p0:Option Addr)(p1:Int)(h:oD p0 p1 K w):CV Us [.v (.pointer p0),.v (.int .i64 p1)] K w:=zy Tryz.f97 .auto _ h
def OH(p0:Option Addr)(p1:B0)(K:Value→PT):PT:=
  L.call Pr uj [.pointer p0,.string p1] (.tup [eL6,eL6]) λ(x1:Sl×Sl×Unit)=>K (I (Wi (((x1.1.len:Nat):Int)+((x1.2.1.len:Nat):Int))))
def TG(p0:Option Addr)(p1:B0)(h:OH p0 p1 K w):CV Qf [.v (.pointer p0),.v (.string p1)] K w:=zy Tryz.f98 .auto _ h
def Vb(p0:Option Addr)(p1:B0)(K:Value→PT):PT:=
  L.new [.string s_,I 0,I 0,I 0,I 0,I 0] zF λb1=>L.nonnil p0 λa2=>L.load eP6 (a2.add 0) λ(x3:Option Addr)=>L.call Pr Jc [.pointer x3,.string p1] (.tup [(.agg wP),eB6]) λ(x4:z2P)=>L.new [.string s_,I 0,I 0,I 0,I 0,I 0,I 0,I 0,.bool false] zM λb5=>L.store (⟨b5,0,none⟩) [.string x4.1.1,I x4.1.2.1,I x4.1.2.2.1,I x4.1.2.2.2.1,I x4.1.2.2.2.2.1,I x4.1.2.2.2.2.2.1,I x4.1.2.2.2.2.2.2.1,I x4.1.2.2.2.2.2.2.2.1,.bool x4.1.2.2.2.2.2.2.2.2.1]<|L.ite (!x4.2.1) (L.store (⟨b1,0,none⟩) [.string s_,I 0,I 0,I 0,I 0,I 0]<|L.load (.agg lf0) (⟨b1,0,none⟩) λ(x6:pt0)=>K (.tuple #[(qa0 x6),I 0,I 0,.bool false]))<|L.draw<|L.load (.agg lf0) (Ad6 b5 0) λ(x7:pt0)=>L.load eI6 (Ad6 b5 6) λ(x8:Int)=>L.load eI6 (Ad6 b5 7) λ(x9:Int)=>L.store (⟨b1,0,none⟩) [.string x7.1,I x7.2.1,I x7.2.2.1,I x7.2.2.2.1,I x7.2.2.2.2.1,I x7.2.2.2.2.2.1]<|L.chk (Ad6 b5 7) [I x9]<|L.chk (Ad6 b5 6) [I x8]<|L.chk (Ad6 b5 7) [I x9]<|L.load (.agg lf0) (⟨b1,0,none⟩) λ(x10:pt0)=>K (.tuple #[(qa0 x10),I x8,I x9,.bool true])
def Fz(p0:Option Addr)(p1:B0)(h:Vb p0 p1 K w):CV JW [.v (.pointer p0),.v (.string p1)] K w:=zy Tryz.f99 .auto _ h
def Ks(p0:Option Addr)(p1:ht0)(p2:Int)(K:Value→PT):PT:=
  L.new [.string p1.1,I p1.2.1,I p1.2.2.1,I p1.2.2.2.1,I p1.2.2.2.2.1,I p1.2.2.2.2.2.1] zF λb1=>L.load eS6 (Ad6 b1 0) λ(x2:B0)=>L.call Pr vT [.string x2,I p2] rS λ(x3:B0)=>L.ite (x3.toList == s_.toList) (K (.tuple #[.string x3,.bool false]))<|L.nonnil p0 λa4=>L.load (.one (.map)) (a4.add 0) λ(x5:Option Nat)=>L.semR Pr (.one (.agg lf6)) (Instr.lookup zV (.map x5) (.string x3) false) λ(x6:am)=>L.chkSem Pr (do eqGuard .neq zO (.tmp 0) (.tmp 0) ((qa3 x6)) (.agg #[.string s_,I 0,.string s_,I 0,I 0,I 0,I 0,I 0]);binOp .neq zO ((qa3 x6)) (.agg #[.string s_,I 0,.string s_,I 0,I 0,I 0,I 0,I 0])) (.bool (!((x6.1 == s_)&&((x6.2.1 == 0)&&((x6.2.2.1 == s_)&&((x6.2.2.2.1 == 0)&&((x6.2.2.2.2.1 == 0)&&((x6.2.2.2.2.2.1 == 0)&&((x6.2.2.2.2.2.2.1 == 0)&&((x6.2.2.2.2.2.2.2.1 == 0)&&true))))))))))<|L.ite (!((x6.1 == s_)&&((x6.2.1 == 0)&&((x6.2.2.1 == s_)&&((x6.2.2.2.1 == 0)&&((x6.2.2.2.2.1 == 0)&&((x6.2.2.2.2.2.1 == 0)&&((x6.2.2.2.2.2.2.1 == 0)&&((x6.2.2.2.2.2.2.2.1 == 0)&&true))))))))) (K (.tuple #[.string x3,.bool false]))<|L.draw<|L.nonnil p0 λa7=>L.load (.one (.map)) (a7.add 0) λ(x8:Option Nat)=>L.load (.agg lf0) (⟨b1,0,none⟩) λ(x9:pt0)=>L.semU Pr (Instr.mapUpdate zV (.map x8) (.string x3) (.agg #[.string x3,I p2,.string x9.1,I x9.2.1,I x9.2.2.1,I x9.2.2.2.1,I x9.2.2.2.2.1,I x9.2.2.2.2.2.1]))<|K (.tuple #[.string x3,.bool true])
def pm(p0:Option Addr)(p1:ht0)(p2:Int)(h:Ks p0 p1 p2 K w):CV uc [.v (.pointer p0),.ag (qc0 p1),.v (.int .i64 p2)] K w:=zy Tryz.f100 .auto _ h
def cO  (K:Value→PT):PT:=
  L.new [I 0,I 0,I 0,I 0,I 0,I 0,I 0,I 0,I 0,I 0,I 0,I 0,I 0,I 0,I 0,I 0,I 0,I 0,I 0,I 0,I 0,I 0,I 0,I 0,I 0,I 0,I 0,I 0,I 0,I 0,I 0,I 0,I 0,I 0,I 0,I 0,I 0,I 0,I 0,I 0,I 0,I 0,I 0,I 0,I 0,I 0,I 0,I 0,I 0,I 0,I 0,I 0,I 0,I 0,I 0,I 0,I 0,I 0,I 0,I 0,I 0,I 0] xr λb1=>K (.pointer (some (⟨b1,0,none⟩)))
def rl(h:cO  K w):CV fB [] K w:=zy Tryz.f101 .auto _ h
def VK(p0:Option Addr)(p1:B0)(K:Value→PT):PT:=
  L.new [.string s_,.string s_,.slice none 0 0,I 0] zG λb1=>L.nonnil p0 λa2=>L.load eP6 (a2.add 1) λ(x3:Option Addr)=>L.call Pr Jy [.pointer x3,.string p1] (.tup [(.agg wO),eB6]) λ(x4:z2O)=>L.new [.string s_,.string s_,.slice none 0 0,I 0,I 0,I 0,.bool false] zU λb5=>L.store (⟨b5,0,none⟩) [.string x4.1.1,.string x4.1.2.1,Sv6 x4.1.2.2.1,I x4.1.2.2.2.1,I x4.1.2.2.2.2.1,I x4.1.2.2.2.2.2.1,.bool x4.1.2.2.2.2.2.2.1]<|L.ite (!x4.2.1) (L.store (⟨b1,0,none⟩) [.string s_,.string s_,.slice none 0 0,I 0]<|L.load (.agg [.str,.str,.slice,.int .i64]) (⟨b1,0,none⟩) λ(x6:pt3)=>K (.tuple #[.agg #[.string x6.1,.string x6.2.1,Sv6 x6.2.2.1,I x6.2.2.2.1],I 0,.bool false]))<|L.draw<|L.load (.agg [.str,.str,.slice,.int .i64]) (Ad6 b5 0) λ(x7:pt3)=>L.load eI6 (Ad6 b5 4) λ(x8:Int)=>L.call Pr oh [.agg #[.string x7.1,.string x7.2.1,Sv6 x7.2.2.1,I x7.2.2.2.1]] (.one (.agg [.str,.str,.slice,.int .i64])) λ(x9:pt3)=>L.chk (Ad6 b5 4) [I x8]<|L.store (⟨b1,0,none⟩) [.string x9.1,.string x9.2.1,Sv6 x9.2.2.1,I x9.2.2.2.1]<|L.chk (Ad6 b5 4) [I x8]<|L.load (.agg [.str,.str,.slice,.int .i64]) (⟨b1,0,none⟩) λ(x10:pt3)=>K (.tuple #[.agg #[.string x10.1,.string x10.2.1,Sv6 x10.2.2.1,I x10.2.2.2.1],I x8,.bool true])
def mF(p0:Option Addr)(p1:B0)(h:VK p0 p1 K w):CV xF [.v (.pointer p0),.v (.string p1)] K w:=zy Tryz.f102 .auto _ h
def DY:Ann:=(.q2 (.q2 (.seq (.q2 (.one [(5,eI6),(22,eI6)] (.q2 (.q2 (.q2 .auto (some [(5,eI6)])) none) none)) none) (.q2 (.seq (.q2 (.q2 .auto (some [(53,eS6),(54,eI6)])) none) (.seq (.q2 (.q2 .auto (some [(67,eS6),(68,eS6)])) none) .auto none) none) none) none) none) none)
def Fe(p0:ht2)(p1:Option Addr)(K:Value→PT):PT:=
  L.new [.string p0.1,.string p0.2.1,Sv6 p0.2.2.1,I p0.2.2.2.1] zG λb1=>L.new [.slice none 0 0,.slice none 0 0] zl λb2=>L.sem Pr (.one (.one .map)) (Instr.makeMap Zv none) λ(m3:Option Nat)=>L.sem Pr (.one (.one .map)) (Instr.makeMap Ze none) λ(m4:Option Nat)=>L.load eL6 (Ad6 b1 2) λ(x5:Sl)=>L.loop (Y:=Int×Int×Unit) (0,0,()) λy6 again7=>L.ite (decide (y6.2.1<((x5.len:Nat):Int))) (L.join (Y:=Int×Unit) (λk8=>L.idx x5.a y6.2.1 x5.len 3 λa10=>L.load (.agg [.str,.str,.int .i64]) a10 λ(x11:pt9)=>L.new [.string s_,.string s_,I 0] zu λb12=>L.store (⟨b12,0,none⟩) [.string x11.1,.string x11.2.1,I x11.2.2.1]<|L.load (.agg [.str,.str,.int .i64]) (⟨b12,0,none⟩) λ(x13:pt9)=>L.load (.agg [.str,.str,.slice,.int .i64]) (⟨b1,0,none⟩) λ(x14:pt3)=>L.call Pr oR [.agg #[.string x13.1,.string x13.2.1,I x13.2.2.1],.agg #[.string x14.1,.string x14.2.1,Sv6 x14.2.2.1,I x14.2.2.2.1],.pointer p1] (.tup [eS6,eI6]) λ(x15:B0×Int×Unit)=>L.ite (x15.2.1 != 0) (L.store (⟨b2,0,none⟩) [.slice none 0 0,.slice none 0 0]<|L.load (.agg [.slice,.slice]) (⟨b2,0,none⟩) λ(x16:Sl×Sl×Unit)=>K (.tuple #[.agg #[Sv6 x16.1,Sv6 x16.2.1],I x15.2.1]))<|L.semR Pr rI (Instr.lookup Zv (.map m3) (.string x15.1) false) λ(x17:Int)=>L.load eI6 (Ad6 b12 2) λ(x18:Int)=>L.semU Pr (Instr.mapUpdate Zv (.map m3) (.string x15.1) (I (Wi (x17+x18))))<|L.load eS6 (Ad6 b12 1) λ(x19:B0)=>L.ite (!(x19.toList == s_.toList)) (L.load eS6 (Ad6 b12 1) λ(x20:B0)=>L.semU Pr (Instr.mapUpdate Ze (.map m4) (.string x20) (.string x15.1))<|k8 (y6.1,()))<|k8 (y6.1,())) λz9=>again7 (z9.1,Wi (y6.2.1+1),()))<|L.new [.slice none 0 0,.slice none 0 0] zl λb21=>L.call Pr Qr [.map m3] (.one (.one (.func))) λ(x22:FV)=>L.range Pr none (.func x22.fn x22.fs x22.cs) [eS6,eI6] (λl23(y24:B0×Int×Unit) R25=>L.begin Pr l23<|L.ite (decide (y24.2.1>0)) (L.load eL6 (Ad6 b21 0) λ(x28:Sl)=>L.new [.string y24.1,I y24.2.1] Zb λb29=>L.sem Pr (.one (.one .slice)) (Builtin.append_ #[Zh,Zh] Zh #[Sv6 x28,.slice (some ⟨b29,0,none⟩) 1 1]) λ(s30:Sl)=>L.store (Ad6 b21 0) [Sv6 s30]<|L.endRound Pr l23 none R25)<|L.endRound Pr l23 none R25) λd26 j27=>L.jump j27 (L.call Pr XA [.map m4] (.one (.one (.func))) λ(x31:FV)=>L.range Pr none (.func x31.fn x31.fs x31.cs) [eS6,eS6] (λl32(y33:B0×B0×Unit) R34=>L.begin Pr l32<|L.load eL6 (Ad6 b21 1) λ(x37:Sl)=>L.new [.string y33.1,.string y33.2.1] Jl λb38=>L.sem Pr (.one (.one .slice)) (Builtin.append_ #[xo,xo] xo #[Sv6 x37,.slice (some ⟨b38,0,none⟩) 1 1]) λ(s39:Sl)=>L.store (Ad6 b21 1) [Sv6 s39]<|L.endRound Pr l32 none R34) λd35 j36=>L.jump j36 (L.load (.agg [.slice,.slice]) (⟨b21,0,none⟩) λ(x40:Sl×Sl×Unit)=>L.call Pr YA [.agg #[Sv6 x40.1,Sv6 x40.2.1]] (.one (.agg [.slice,.slice])) λ(x41:Sl×Sl×Unit)=>L.store (⟨b2,0,none⟩) [Sv6 x41.1,Sv6 x41.2.1]<|L.unmark Pr (d35++(d26++[]))<|L.load (.agg [.slice,.slice]) (⟨b2,0,none⟩) λ(x42:Sl×Sl×Unit)=>K (.tuple #[.agg #[Sv6 x42.1,Sv6 x42.2.1],I 0])) (L.unmark Pr (d35++(d26++[]))<|L.load (.agg [.slice,.slice]) (⟨b2,0,none⟩) λ(x43:Sl×Sl×Unit)=>K (.tuple #[.agg #[Sv6 x43.1,Sv6 x43.2.1],I y6.1])) []) (L.unmark Pr (d26++[])<|L.load (.agg [.slice,.slice]) (⟨b2,0,none⟩) λ(x44:Sl×Sl×Unit)=>K (.tuple #[.agg #[Sv6 x44.1,Sv6 x44.2.1],I y6.1])) []
def DR(p0:ht2)(p1:Option Addr)(h:Fe p0 p1 K w):CV Uq [.ag (qc2 p0),.v (.pointer p1)] K w:=zy Tryz.f103 DY _ h
def WI:Ann:=(.q2 (.q2 (.q2 (.seq (.q2 (.one [(5,eL6),(17,eI6)] .auto) none) (.seq (.q2 (.one [(5,eL6),(33,eI6)] .auto) none) .auto none) none) none) none) none)
def PU(p0:HT [.slice,.slice])(K:Value→PT):PT:=
  L.new [Sv6 p0.1,Sv6 p0.2.1] zl λb1=>L.load (.agg [.slice,.slice]) (⟨b1,0,none⟩) λ(x2:Sl×Sl×Unit)=>L.call Pr oL [.agg #[Sv6 x2.1,Sv6 x2.2.1]] (.tup [eL6,eL6]) λ(x3:Sl×Sl×Unit)=>L.loop (Y:=Sl×Int×Unit) (⟨none,0,0⟩,0,()) λy4 again5=>L.ite (decide (y4.2.1<((x3.1.len:Nat):Int))) (L.idx x3.1.a y4.2.1 x3.1.len 2 λa6=>L.load (.agg [.str,.str]) a6 λ(x7:B0×B0×Unit)=>L.new [.string s_,.string s_] Jg λb8=>L.store (⟨b8,0,none⟩) [.string x7.1,.string x7.2.1]<|L.idx (some (⟨b8,0,none⟩)) 0 2 1 λa9=>L.load eS6 a9 λ(x10:B0)=>L.guard (((x10.size+Oi.size:Nat):Int)≤XT)<|L.idx (some (⟨b8,0,none⟩)) 1 2 1 λa11=>L.load eS6 a11 λ(x12:B0)=>L.guard ((((x10++Oi).size+x12.size:Nat):Int)≤XT)<|L.new [.string ((x10++Oi)++x12)] zc λb13=>L.sem Pr (.one (.one .slice)) (Builtin.append_ #[zm,zm] zm #[Sv6 y4.1,.slice (some ⟨b13,0,none⟩) 1 1]) λ(s14:Sl)=>again5 (⟨s14.a,s14.len,s14.cap⟩,Wi (y4.2.1+1),()))<|L.loop (Y:=Sl×Int×Unit) (⟨y4.1.a,y4.1.len,y4.1.cap⟩,0,()) λy15 again16=>L.ite (decide (y15.2.1<((x3.2.1.len:Nat):Int))) (L.idx x3.2.1.a y15.2.1 x3.2.1.len 2 λa17=>L.load (.agg [.str,.str]) a17 λ(x18:B0×B0×Unit)=>L.new [.string s_,.string s_] Jg λb19=>L.store (⟨b19,0,none⟩) [.string x18.1,.string x18.2.1]<|L.idx (some (⟨b19,0,none⟩)) 0 2 1 λa20=>L.load eS6 a20 λ(x21:B0)=>L.guard (((x21.size+Oh.size:Nat):Int)≤XT)<|L.idx (some (⟨b19,0,none⟩)) 1 2 1 λa22=>L.load eS6 a22 λ(x23:B0)=>L.guard ((((x21++Oh).size+x23.size:Nat):Int)≤XT)<|L.new [.string ((x21++Oh)++x23)] zc λb24=>L.sem Pr (.one (.one .slice)) (Builtin.append_ #[zm,zm] zm #[Sv6 y15.1,.slice (some ⟨b24,0,none⟩) 1 1]) λ(s25:Sl)=>again16 (⟨s25.a,s25.len,s25.cap⟩,Wi (y15.2.1+1),()))<|L.call Pr Ul [Sv6 y15.1,.string Oj] rS λ(x26:B0)=>K (.string x26)
def Wv(p0:HT [.slice,.slice])(h:PU p0 K w):CV gB [.ag [.slice p0.1.a p0.1.len p0.1.cap,.slice p0.2.1.a p0.2.1.len p0.2.1.cap]] K w:=zy Tryz.f104 WI _ h
def pL:Ann:=(.q2 (.q2 (.q2 .auto (some [])) none) none)
def Kz(p0:Option Addr)(p1:B0)(p2:HT [.slice,.slice])(p3 p4:Int)(K:Value→PT):PT:=
  L.new [Sv6 p2.1,Sv6 p2.2.1] zl λb1=>L.new [.slice none 0 0,.slice none 0 0] zl λb2=>L.nonnil p0 λa3=>L.load (.one (.map)) (a3.add 0) λ(x4:Option Nat)=>L.semR Pr (.tup [(.agg Hh),.one .bool]) (Instr.lookup yI (.map x4) (.string p1) true) λ(x5:z1Y)=>L.new [.slice none 0 0,.slice none 0 0,I 0,I 0,.slice none 0 0,.slice none 0 0] Yh λb6=>L.store (⟨b6,0,none⟩) [Sv6 x5.1.1,Sv6 x5.1.2.1,I x5.1.2.2.1,I x5.1.2.2.2.1,Sv6 x5.1.2.2.2.2.1,Sv6 x5.1.2.2.2.2.2.1]<|L.join (Y:=Unit) (λk7=>L.ite (!x5.2.1) (L.draw<|L.load (.agg [.slice,.slice]) (⟨b1,0,none⟩) λ(x9:Sl×Sl×Unit)=>L.load (.agg [.slice,.slice]) (⟨b1,0,none⟩) λ(x10:Sl×Sl×Unit)=>L.call Pr YA [.agg #[Sv6 x9.1,Sv6 x9.2.1]] (.one (.agg [.slice,.slice])) λ(x11:Sl×Sl×Unit)=>L.chk (⟨b1,0,none⟩) [Sv6 x10.1,Sv6 x10.2.1]<|L.call Pr YA [.agg #[Sv6 x10.1,Sv6 x10.2.1]] (.one (.agg [.slice,.slice])) λ(x12:Sl×Sl×Unit)=>L.store (⟨b6,0,none⟩) [Sv6 x11.1,Sv6 x12.1,I p3,I p4,.slice none 0 0,.slice none 0 0]<|k7 (()))<|L.load eL6 (Ad6 b6 1) λ(x13:Sl)=>L.load eL6 (Ad6 b1 0) λ(x14:Sl)=>L.call Pr yz [Sv6 x13,Sv6 x14] rB λ(x15:Bool)=>L.ite (!x15) (L.draw<|L.load eL6 ((Ad6 b6 4).add 0) λ(x16:Sl)=>L.load (.agg [.slice,.slice]) (⟨b1,0,none⟩) λ(x17:Sl×Sl×Unit)=>L.call Pr YA [.agg #[Sv6 x17.1,Sv6 x17.2.1]] (.one (.agg [.slice,.slice])) λ(x18:Sl×Sl×Unit)=>L.chk ((Ad6 b6 4).add 0) [Sv6 x16]<|L.store (⟨b6,0,none⟩) [Sv6 x16,Sv6 x18.1,I p3,I p4,.slice none 0 0,.slice none 0 0]<|k7 (()))<|L.load eI6 (Ad6 b6 3) λ(x19:Int)=>L.ite (x19 != p4) (L.draw<|L.load eL6 ((Ad6 b6 4).add 0) λ(x20:Sl)=>L.load (.agg [.slice,.slice]) (⟨b1,0,none⟩) λ(x21:Sl×Sl×Unit)=>L.call Pr YA [.agg #[Sv6 x21.1,Sv6 x21.2.1]] (.one (.agg [.slice,.slice])) λ(x22:Sl×Sl×Unit)=>L.chk ((Ad6 b6 4).add 0) [Sv6 x20]<|L.store (⟨b6,0,none⟩) [Sv6 x20,Sv6 x22.1,I p3,I p4,.slice none 0 0,.slice none 0 0]<|k7 (()))<|k7 (())) λz8=>L.draw<|L.load eL6 (Ad6 b6 0) λ(x23:Sl)=>L.load eL6 (Ad6 b6 1) λ(x24:Sl)=>L.load eI6 (Ad6 b6 2) λ(x25:Int)=>L.load (.agg [.slice,.slice]) (⟨b1,0,none⟩) λ(x26:Sl×Sl×Unit)=>L.call Pr oP [Sv6 x23,Sv6 x24,I (Wi (p3-x25)),I p4] rL λ(x27:Sl)=>L.chk (⟨b1,0,none⟩) [Sv6 x26.1,Sv6 x26.2.1]<|L.call Pr YA [.agg #[Sv6 x26.1,Sv6 x26.2.1]] (.one (.agg [.slice,.slice])) λ(x28:Sl×Sl×Unit)=>L.store (Ad6 b6 4) [Sv6 x27,Sv6 x28.2.1]<|L.draw<|L.nonnil p0 λa29=>L.load (.one (.map)) (a29.add 0) λ(x30:Option Nat)=>L.load (.agg Hh) (⟨b6,0,none⟩) λ(x31:z1X)=>L.semU Pr (Instr.mapUpdate yI (.map x30) (.string p1) ((qa4 x31)))<|L.load (.agg [.slice,.slice]) (Ad6 b6 4) λ(x32:Sl×Sl×Unit)=>L.call Pr YA [.agg #[Sv6 x32.1,Sv6 x32.2.1]] (.one (.agg [.slice,.slice])) λ(x33:Sl×Sl×Unit)=>L.store (⟨b2,0,none⟩) [Sv6 x33.1,Sv6 x33.2.1]<|L.load (.agg [.slice,.slice]) (⟨b2,0,none⟩) λ(x34:Sl×Sl×Unit)=>K (.agg #[Sv6 x34.1,Sv6 x34.2.1])
def pr(p0:Option Addr)(p1:B0)(p2:HT [.slice,.slice])(p3 p4:Int)(h:Kz p0 p1 p2 p3 p4 K w):CV ug [.v (.pointer p0),.v (.string p1),.ag [.slice p2.1.a p2.1.len p2.1.cap,.slice p2.2.1.a p2.2.1.len p2.2.1.cap],.v (.int .i64 p3),.v (.int .i64 p4)] K w:=zy Tryz.f105 pL _ h
def Oz(p0:Option Addr)(p1:B0)(K:Value→PT):PT:=
  L.new [.string s_,I 0,.string s_,I 0,I 0,I 0,I 0,I 0] zO λb1=>L.nonnil p0 λa2=>L.load (.one (.map)) (a2.add 0) λ(x3:Option Nat)=>L.semR Pr (.tup [(.agg lf6),.one .bool]) (Instr.lookup zV (.map x3) (.string p1) true) λ(x4:pt6)=>L.new [.string s_,I 0,.string s_,I 0,I 0,I 0,I 0,I 0] zO λb5=>L.store (⟨b5,0,none⟩) [.string x4.1.1,I x4.1.2.1,.string x4.1.2.2.1,I x4.1.2.2.2.1,I x4.1.2.2.2.2.1,I x4.1.2.2.2.2.2.1,I x4.1.2.2.2.2.2.2.1,I x4.1.2.2.2.2.2.2.2.1]<|L.load (.agg lf6) (⟨b5,0,none⟩) λ(x6:am)=>L.store (⟨b1,0,none⟩) [.string x6.1,I x6.2.1,.string x6.2.2.1,I x6.2.2.2.1,I x6.2.2.2.2.1,I x6.2.2.2.2.2.1,I x6.2.2.2.2.2.2.1,I x6.2.2.2.2.2.2.2.1]<|L.load (.agg lf6) (⟨b1,0,none⟩) λ(x7:am)=>K (.tuple #[(qa3 x7),.bool x4.2.1])
def Tw(p0:Option Addr)(p1:B0)(h:Oz p0 p1 K w):CV jn [.v (.pointer p0),.v (.string p1)] K w:=zy Tryz.f106 .auto _ h
def GV:Ann:=(.q2 (.q2 (.seq (.q2 (.one [(7,eI6),(14,eI6)] (.q2 (.q2 (.q2 .auto (some [(7,eI6)])) none) none)) none) .auto none) none) none)
def UJ(p0:Option Addr)(p1:B0)(p2:FV)(K:Value→PT):PT:=
  L.call Pr vQ [.pointer p0,.string p1] rL λ(x1:Sl)=>L.loop (Y:=Int×Int×Unit) (0,0,()) λy2 again3=>L.ite (decide (y2.2.1<((x1.len:Nat):Int))) (L.join (Y:=Int×Unit) (λk4=>L.idx x1.a y2.2.1 x1.len 3 λa6=>L.load (.agg [.int .i64,.int .i64,.int .i64]) a6 λ(x7:Int×Int×Int×Unit)=>L.new [I 0,I 0,I 0] Xs λb8=>L.store (⟨b8,0,none⟩) [I x7.1,I x7.2.1,I x7.2.2.1]<|L.load eI6 (Ad6 b8 1) λ(x9:Int)=>L.callV Pr (.func p2.fn p2.fs p2.cs) [I x9] rB λ(x10:Bool)=>L.ite x10 (k4 (Wi (y2.1+1),()))<|k4 (y2.1,())) λz5=>again3 (z5.1,Wi (y2.2.1+1),()))<|K (I y2.1)
def GJ(p0:Option Addr)(p1:B0)(p2:FV)(h:UJ p0 p1 p2 K w):CV JM [.v (.pointer p0),.v (.string p1),.v (.func p2.fn p2.fs p2.cs)] K w:=zy Tryz.f107 GV _ h
def uM(p0:Int)(K:Value→PT):PT:=
  K (.bool (p0 == 2))
def OQ(p0:Int)(h:uM p0 K w):CV jL [.v (.int .i64 p0)] K w:=zy Tryz.f108 .auto _ h
def OO:ZO Pr jL:=zK (by kernel_rfl)
def pM:Ann:=(.q2 (.seq (.q2 (.q2 .auto (some [(11,eI6)])) none) .auto none) none)
def KB(p0:Option Addr)(p1:Int)(K:Value→PT):PT:=
  L.new [I p1] zp λb1=>L.new [I 0] zp λb2=>L.new [I 0] zp λb3=>L.nonnil p0 λa4=>L.call Pr XR [.pointer (some (a4.add 0))] (.one (.one (.func))) λ(x5:FV)=>L.range Pr none (.func x5.fn x5.fs x5.cs) [eI6] (λl6(y7:Int×Unit) R8=>L.begin Pr l6<|L.load eI6 (⟨b3,0,none⟩) λ(x11:Int)=>L.load eI6 (⟨b1,0,none⟩) λ(x12:Int)=>L.ite (decide (x11≥x12)) (L.endRound Pr l6 (some (.exit 0)) R8)<|L.load eI6 (⟨b2,0,none⟩) λ(x13:Int)=>L.store (⟨b2,0,none⟩) [I (Wi (x13+y7.1))]<|L.load eI6 (⟨b3,0,none⟩) λ(x14:Int)=>L.store (⟨b3,0,none⟩) [I (Wi (x14+1))]<|L.endRound Pr l6 none R8) λd9 j10=>L.jump j10 (L.draw<|L.load eI6 (⟨b2,0,none⟩) λ(x19:Int)=>L.load eI6 (⟨b3,0,none⟩) λ(x20:Int)=>L.store (⟨b2,0,none⟩) [I x19]<|L.chk (⟨b3,0,none⟩) [I x20]<|L.store (⟨b3,0,none⟩) [I x20]<|L.unmark Pr (d9++[])<|L.load eI6 (⟨b2,0,none⟩) λ(x21:Int)=>L.load eI6 (⟨b3,0,none⟩) λ(x22:Int)=>K (.tuple #[I x21,I x22])) (L.unmark Pr (d9++[])<|L.load eI6 (⟨b2,0,none⟩) λ(x23:Int)=>L.load eI6 (⟨b3,0,none⟩) λ(x24:Int)=>K (.tuple #[I x23,I x24])) [(0,(L.draw<|L.load eI6 (⟨b2,0,none⟩) λ(x15:Int)=>L.load eI6 (⟨b3,0,none⟩) λ(x16:Int)=>L.store (⟨b2,0,none⟩) [I x15]<|L.chk (⟨b3,0,none⟩) [I x16]<|L.store (⟨b3,0,none⟩) [I x16]<|L.unmark Pr (d9++[])<|L.load eI6 (⟨b2,0,none⟩) λ(x17:Int)=>L.load eI6 (⟨b3,0,none⟩) λ(x18:Int)=>K (.tuple #[I x17,I x18])))]
def px(p0:Option Addr)(p1:Int)(h:KB p0 p1 K w):CV Xl [.v (.pointer p0),.v (.int .i64 p1)] K w:=zy Tryz.f109 pM _ h
def DW:Ann:=(.q2 (.seq (.one [(19,(.one (.adr)))] .auto) (.q2 (.seq (.one [(21,(.one (.adr)))] .auto) (.q2 (.seq (.q2 (.cond .auto .auto) none) .auto (some [])) (some [])) none) none) none) none)
def Fa(p0:HT [.int .i64,.int .i64])(p1:ht0)(p2 p3 p4 p5 p6 p7 p8:Int)(K:Value→PT):PT:=
  L.new [I p0.1,I p0.2.1] ZQ λb1=>L.new [.string p1.1,I p1.2.1,I p1.2.2.1,I p1.2.2.2.1,I p1.2.2.2.2.1,I p1.2.2.2.2.2.1] zF λb2=>L.new [I 0,I 0] ZQ λb3=>L.join (Y:=Addr×Unit) (λk4=>L.draw<|L.load eI6 (Ad6 b2 2) λ(x6:Int)=>L.load eI6 (Ad6 b2 2) λ(x7:Int)=>L.alts [(L.call Pr Xi [I p4,I p5,I x6] rI λ(x8:Int)=>L.chk (Ad6 b2 2) [I x7]<|L.alts [(L.call Pr Xi [I p6,I p7,I x7] rI λ(x9:Int)=>L.new [I 0,I 0] oz λb10=>L.chk (Ad6 b2 2) [I x7]<|L.chk (Ad6 b2 2) [I x6]<|L.store (⟨b10,0,none⟩) [I x8,I x9]<|k4 (⟨b10,0,none⟩,())),(L.new [I 0,I 0] oz λb11=>L.chk (Ad6 b2 2) [I x7]<|L.chk (Ad6 b2 2) [I x6]<|L.call Pr Xi [I p6,I p7,I x7] rI λ(x12:Int)=>L.store (⟨b11,0,none⟩) [I x8,I x12]<|k4 (⟨b11,0,none⟩,()))]),(L.new [I 0,I 0] oz λb13=>L.chk (Ad6 b2 2) [I x7]<|L.chk (Ad6 b2 2) [I x6]<|L.call Pr Xi [I p4,I p5,I x6] rI λ(x14:Int)=>L.chk (Ad6 b2 2) [I x7]<|L.call Pr Xi [I p6,I p7,I x7] rI λ(x15:Int)=>L.store (⟨b13,0,none⟩) [I x14,I x15]<|k4 (⟨b13,0,none⟩,()))]) λz5=>L.join (Y:=Addr×Unit) (λk16=>L.draw<|L.idx (some z5.1) 0 2 1 λa18=>L.load eI6 a18 λ(x19:Int)=>L.load (.agg [.int .i64,.int .i64]) (⟨b1,0,none⟩) λ(x20:Int×Int×Unit)=>L.idx (some z5.1) 1 2 1 λa21=>L.load eI6 a21 λ(x22:Int)=>L.alts [(L.call Pr JO [.agg #[I x20.1,I x20.2.1],I x22,I (if p2>1 then p2 else 1)] rI λ(x23:Int)=>L.chk a18 [I x19]<|L.new [I 0,I 0] ZQ λb24=>L.chk a21 [I x22]<|L.chk (⟨b1,0,none⟩) [I x20.1,I x20.2.1]<|L.chk a18 [I x19]<|L.store (⟨b24,0,none⟩) [I x19,I x23]<|k16 (⟨b24,0,none⟩,())),(L.new [I 0,I 0] ZQ λb25=>L.chk a21 [I x22]<|L.chk (⟨b1,0,none⟩) [I x20.1,I x20.2.1]<|L.chk a18 [I x19]<|L.call Pr JO [.agg #[I x20.1,I x20.2.1],I x22,I (if p2>1 then p2 else 1)] rI λ(x26:Int)=>L.chk a18 [I x19]<|L.store (⟨b25,0,none⟩) [I x19,I x26]<|k16 (⟨b25,0,none⟩,()))]) λz17=>L.join (Y:=Unit) (λk27=>L.load eI6 (z17.1.add 1) λ(x29:Int)=>L.ite (decide (x29>0)) (L.load (.agg [.int .i64,.int .i64]) (⟨b1,0,none⟩) λ(x30:Int×Int×Unit)=>L.load (.agg [.int .i64,.int .i64]) z5.1 λ(x31:Int×Int×Unit)=>L.call Pr uf [.agg #[I x30.1,I x30.2.1],.agg #[I x31.1,I x31.2.1]] rI λ(x32:Int)=>L.store (z17.1.add 0) [I x32]<|k27 (()))<|k27 (())) λz28=>L.join (Y:=Unit) (λk33=>L.load eI6 (z17.1.add 0) λ(x35:Int)=>L.ite (x35 == 0) (L.ite (decide (p3>0)) (L.store (z17.1.add 0) [I 1]<|k33 (()))<|L.load eI6 (Ad6 b1 0) λ(x36:Int)=>L.ite (decide (x36>0)) (L.load eI6 (Ad6 b2 5) λ(x37:Int)=>L.ite (decide (p8<x37)) (L.store (z17.1.add 0) [I 1]<|k33 (()))<|k33 (()))<|k33 (()))<|k33 (())) λz34=>L.load (.agg lf0) (⟨b2,0,none⟩) λ(x38:pt0)=>L.call Pr kV [(qa0 x38),I p2,I (if p2>1 then p2 else 1)] (.one (.agg [.int .i64,.int .i64,.int .i64,.int .i64])) λ(x39:Int×Int×Int×Int×Unit)=>L.new [I 0,I 0,I 0,I 0] Bz λb40=>L.store (⟨b40,0,none⟩) [I x39.1,I x39.2.1,I x39.2.2.1,I x39.2.2.2.1]<|L.load eI6 (z17.1.add 0) λ(x41:Int)=>L.idx (some (⟨b40,0,none⟩)) 0 4 1 λa42=>L.load eI6 a42 λ(x43:Int)=>L.idx (some (⟨b40,0,none⟩)) 1 4 1 λa44=>L.load eI6 a44 λ(x45:Int)=>L.idx (some (⟨b40,0,none⟩)) 2 4 1 λa46=>L.load eI6 a46 λ(x47:Int)=>L.idx (some (⟨b40,0,none⟩)) 3 4 1 λa48=>L.load eI6 a48 λ(x49:Int)=>L.store (z17.1.add 0) [I (if x49<(if x47>(if x45>(if x43<x41 then x43 else x41)then x45 else(if x43<x41 then x43 else x41))then x47 else(if x45>(if x43<x41 then x43 else x41)then x45 else(if x43<x41 then x43 else x41)))then x49 else(if x47>(if x45>(if x43<x41 then x43 else x41)then x45 else(if x43<x41 then x43 else x41))then x47 else(if x45>(if x43<x41 then x43 else x41)then x45 else(if x43<x41 then x43 else x41))))]<|L.load (.agg [.int .i64,.int .i64]) z17.1 λ(x50:Int×Int×Unit)=>L.store (⟨b3,0,none⟩) [I x50.1,I x50.2.1]<|L.load (.agg [.int .i64,.int .i64]) (⟨b3,0,none⟩) λ(x51:Int×Int×Unit)=>K (.agg #[I x51.1,I x51.2.1])
def DM(p0:HT [.int .i64,.int .i64])(p1:ht0)(p2 p3 p4 p5 p6 p7 p8:Int)(h:Fa p0 p1 p2 p3 p4 p5 p6 p7 p8 K w):CV kW [.ag [.int .i64 p0.1,.int .i64 p0.2.1],.ag (qc0 p1),.v (.int .i64 p2),.v (.int .i64 p3),.v (.int .i64 p4),.v (.int .i64 p5),.v (.int .i64 p6),.v (.int .i64 p7),.v (.int .i64 p8)] K w:=zy Tryz.f110 DW _ h
def KC(p0:Option Addr)(K:Value→PT):PT:=
  L.nonnil p0 λa1=>L.load eI6 (a1.add 61) λ(x2:Int)=>K (I x2)
def py(p0:Option Addr)(h:KC p0 K w):CV ui [.v (.pointer p0)] K w:=zy Tryz.f111 .auto _ h
def mQ:Ann:=(.q2 (.q2 (.seq (.one [(8,eL6),(10,eI6)] (.seq (.q2 (.cond .auto .auto) none) .auto none)) (.seq (.one [(9,eL6),(10,eI6)] .auto) .auto none) (some [(8,eL6),(10,eI6)])) none) none)
def VN(p0:Option Addr)(p1:B0)(p2 p3:Int)(K:Value→PT):PT:=
  L.call Pr vj [.pointer p0,.string p1] rI λ(x1:Int)=>L.join (Y:=Sl×Int×Unit) (λk2=>L.loop (Y:=Sl×Int×Unit) (⟨none,0,0⟩,x1,()) λy4 again5=>L.draw<|L.ite (decide (y4.2.1<p3)) (L.nonnil p0 λa6=>L.load (.one (.map)) (a6.add 0) λ(x7:Option Nat)=>L.semR Pr rI (Builtin.len_ #[Za] zp #[.map x7]) λ(x8:Int)=>L.nonnil p0 λa9=>L.load eI6 (a9.add 2) λ(x10:Int)=>L.ite (decide (x8<x10)) (L.nonnil p0 λa11=>L.load eI6 (a11.add 3) λ(x12:Int)=>L.nonnil p0 λa13=>L.store (a13.add 3) [I (Wi (x12+1))]<|L.draw<|L.nonnil p0 λa14=>L.load (.one (.map)) (a14.add 0) λ(x15:Option Nat)=>L.nonnil p0 λa16=>L.load eI6 (a16.add 3) λ(x17:Int)=>L.call Pr tT [I p2] rP λ(x18:Option Addr)=>L.chk (a16.add 3) [I x17]<|L.chk (a14.add 0) [.map x15]<|L.semU Pr (Instr.mapUpdate Za (.map x15) (I x17) (.agg #[.string p1,.pointer x18]))<|L.nonnil p0 λa19=>L.load eI6 (a19.add 3) λ(x20:Int)=>L.new [I x20] zp λb21=>L.sem Pr (.one (.one .slice)) (Builtin.append_ #[ZS,ZS] ZS #[Sv6 y4.1,.slice (some ⟨b21,0,none⟩) 1 1]) λ(s22:Sl)=>again5 (⟨s22.a,s22.len,s22.cap⟩,Wi (y4.2.1+1),()))<|k2 (⟨y4.1.a,y4.1.len,y4.1.cap⟩,y4.2.1,()))<|k2 (⟨y4.1.a,y4.1.len,y4.1.cap⟩,y4.2.1,())) λz3=>L.loop (Y:=Sl×Int×Unit) (⟨none,0,0⟩,z3.2.1,()) λy23 again24=>L.ite (decide (y23.2.1>(if 0>p3 then 0 else p3))) (L.call Pr QB [.pointer p0,.string p1] rI λ(x25:Int)=>L.nonnil p0 λa26=>L.load (.one (.map)) (a26.add 0) λ(x27:Option Nat)=>L.semR Pr (.one (.agg [.str,.ptr])) (Instr.lookup Za (.map x27) (I x25) false) λ(x28:B0×Option Addr×Unit)=>L.call Pr Vm [.pointer x28.2.1] rI λ(x29:Int)=>L.call Pr JY [.pointer p0,I x25] (.tup []) λ(x30:Unit)=>L.new [I x25] zp λb31=>L.sem Pr (.one (.one .slice)) (Builtin.append_ #[ZS,ZS] ZS #[Sv6 y23.1,.slice (some ⟨b31,0,none⟩) 1 1]) λ(s32:Sl)=>again24 (⟨s32.a,s32.len,s32.cap⟩,Wi (y23.2.1-1),()))<|L.call Pr ZN [Sv6 z3.1] rL λ(x33:Sl)=>L.call Pr ZN [Sv6 y23.1] rL λ(x34:Sl)=>K (.tuple #[Sv6 x33,Sv6 x34])
def mI(p0:Option Addr)(p1:B0)(p2 p3:Int)(h:VN p0 p1 p2 p3 K w):CV QC [.v (.pointer p0),.v (.string p1),.v (.int .i64 p2),.v (.int .i64 p3)] K w:=zy Tryz.f112 mQ _ h
def vY(p0:Option Addr)(p1:B0)(K:Value→PT):PT:=
  L.nonnil p0 λa1=>L.load (.one (.map)) (a1.add 5) λ(x2:Option Nat)=>L.call Pr YP [.map x2,.string p1] (.tup [eP6,eB6]) λ(x3:Option Addr×Bool×Unit)=>L.ite x3.2.1 (L.nonnil x3.1 λa4=>L.load eI6 ((a4.add 1).add 0) λ(x5:Int)=>K (I x5))<|K (I 0)
def Fw(p0:Option Addr)(p1:B0)(h:vY p0 p1 K w):CV qu [.v (.pointer p0),.v (.string p1)] K w:=zy Tryz.f113 .auto _ h
def Ux(p0:Int)(K:Value→PT):PT:=
  K (.bool (p0 != 3))
def gS(p0:Int)(h:Ux p0 K w):CV jY [.v (.int .i64 p0)] K w:=zy Tryz.f114 .auto _ h
def gP:ZO Pr jY:=zK (by kernel_rfl)
def Cn:Ann:=(.q2 (.q2 (.seq (.q2 (.q2 .auto (some [(12,eI6),(13,eI6)])) none) .auto none) none) none)
def Gq(p0:Option Addr)(K:Value→PT):PT:=
  L.call Pr Xz [.pointer p0] rI λ(x1:Int)=>L.sem Pr (.one (.one .slice)) (Instr.makeSlice ZS (I 0) (I x1)) λ(s2:Sl)=>L.new [.slice none 0 0] ZS λb3=>L.store (⟨b3,0,none⟩) [Sv6 s2]<|L.nonnil p0 λa4=>L.call Pr YX [.pointer (some (a4.add 0))] (.one (.one (.func))) λ(x5:FV)=>L.range Pr none (.func x5.fn x5.fs x5.cs) [eI6,eI6] (λl6(y7:Int×Int×Unit) R8=>L.begin Pr l6<|L.load eL6 (⟨b3,0,none⟩) λ(x11:Sl)=>L.new [I y7.1] zp λb12=>L.sem Pr (.one (.one .slice)) (Builtin.append_ #[ZS,ZS] ZS #[Sv6 x11,.slice (some ⟨b12,0,none⟩) 1 1]) λ(s13:Sl)=>L.store (⟨b3,0,none⟩) [Sv6 s13]<|L.endRound Pr l6 none R8) λd9 j10=>L.jump j10 (L.load eL6 (⟨b3,0,none⟩) λ(x14:Sl)=>L.unmark Pr (d9++[])<|K (.slice x14.a x14.len x14.cap)) (L.unmark Pr (d9++[])<|K (.slice none 0 0)) []
def Cg(p0:Option Addr)(h:Gq p0 K w):CV QV [.v (.pointer p0)] K w:=zy Tryz.f116 Cn _ h
def Xv(p0:Sl)(K:Value→PT):PT:=
  L.ite ((p0.a).isNone) (K (.slice none 0 0))<|L.new [] zp λb1=>L.sem Pr (.one (.one .slice)) (Builtin.append_ #[ZS,ZS] ZS #[.slice (some ⟨b1,0,none⟩) 0 0,Sv6 p0]) λ(s2:Sl)=>K (.slice s2.a s2.len s2.cap)
def UC(p0:Sl)(h:Xv p0 K w):CV ZN [.v (.slice p0.a p0.len p0.cap)] K w:=zy Tryz.f117 .auto _ h
def Qv(p0:Sl)(K:Value→PT):PT:=
  L.new [Sv6 p0] Zg λb1=>K (.func (.func yb) #[] #[.pointer (some (⟨b1,0,none⟩))])
def KW(p0:Sl)(h:Qv p0 K w):CV Qq [.v (.slice p0.a p0.len p0.cap)] K w:=zy Tryz.f119 .auto _ h
def rz:Ann:=(.q2 (.q2 (.seq (.q2 (.q2 .auto (some [(7,eL6)])) none) .auto none) none) none)
def cQ(p0:Sl)(K:Value→PT):PT:=
  L.new [.slice none 0 0] Zg λb1=>L.call Pr kX [Sv6 p0] (.one (.one (.func))) λ(x2:FV)=>L.range Pr none (.func x2.fn x2.fs x2.cs) [eL6] (λl3(y4:Sl×Unit) R5=>L.begin Pr l3<|L.load eL6 (⟨b1,0,none⟩) λ(x8:Sl)=>L.new [Sv6 y4.1] yO λb9=>L.sem Pr (.one (.one .slice)) (Builtin.append_ #[Zg,Zg] Zg #[Sv6 x8,.slice (some ⟨b9,0,none⟩) 1 1]) λ(s10:Sl)=>L.store (⟨b1,0,none⟩) [Sv6 s10]<|L.endRound Pr l3 none R5) λd6 j7=>L.jump j7 (L.load eL6 (⟨b1,0,none⟩) λ(x11:Sl)=>L.call Pr xk [Sv6 x11] rL λ(x12:Sl)=>L.unmark Pr (d6++[])<|K (.slice x12.a x12.len x12.cap)) (L.unmark Pr (d6++[])<|K (.slice none 0 0)) []
def rq(p0:Sl)(h:cQ p0 K w):CV fD [.v (.slice p0.a p0.len p0.cap)] K w:=zy Tryz.f120 rz _ h
def Nb:Ann:=(.q2 (.q2 (.q2 (.q2 (.q2 (.q2 (.q2 (.q2 (.q2 (.q2 (.q2 .auto (some [])) (some [])) (some [])) (some [])) (some [])) (some [])) none) none) none) none) none)
def Mv(p0:Sl)(K:Value→PT):PT:=
  L.new [I 0,.string s_,.string s_,I 0,I 0,.string s_,I 0,I 0,I 0,I 0,I 0,.string s_,.string s_,.slice none 0 0,I 0] zP λb1=>L.new [Sv6 p0,.bool false] fT λb2=>L.call Pr ZH [.pointer (some (⟨b2,0,none⟩)),I 1] rI λ(x3:Int)=>L.new [I 0,.string s_,.string s_,I 0,I 0,.string s_,I 0,I 0,I 0,I 0,I 0,.string s_,.string s_,.slice none 0 0,I 0] zP λb4=>L.store (⟨b4,0,none⟩) [I x3,.string s_,.string s_,I 0,I 0,.string s_,I 0,I 0,I 0,I 0,I 0,.string s_,.string s_,.slice none 0 0,I 0]<|L.load eI6 (Ad6 b4 0) λ(x5:Int)=>L.call Pr vH [I x5] (.tup [(.agg lf5),eB6]) λ(x6:pt2)=>L.new [.bool false,.bool false,.bool false,.bool false,.bool false,.bool false] vV λb7=>L.store (⟨b7,0,none⟩) [.bool x6.1.1,.bool x6.1.2.1,.bool x6.1.2.2.1,.bool x6.1.2.2.2.1,.bool x6.1.2.2.2.2.1,.bool x6.1.2.2.2.2.2.1]<|L.nonnil (some (⟨b2,0,none⟩)) λa8=>L.load eB6 (a8.add 1) λ(x9:Bool)=>L.ite x9 (L.store (⟨b1,0,none⟩) [I 0,.string s_,.string s_,I 0,I 0,.string s_,I 0,I 0,I 0,I 0,I 0,.string s_,.string s_,.slice none 0 0,I 0]<|L.load (.agg lf1) (⟨b1,0,none⟩) λ(x10:pt1)=>K (.tuple #[(qa1 x10),I 10]))<|L.ite (!x6.2.1) (L.store (⟨b1,0,none⟩) [I 0,.string s_,.string s_,I 0,I 0,.string s_,I 0,I 0,I 0,I 0,I 0,.string s_,.string s_,.slice none 0 0,I 0]<|L.load (.agg lf1) (⟨b1,0,none⟩) λ(x11:pt1)=>K (.tuple #[(qa1 x11),I 12]))<|L.join (Y:=Unit) (λk12=>L.load eB6 (Ad6 b7 0) λ(x14:Bool)=>L.ite x14 (L.call Pr ZH [.pointer (some (⟨b2,0,none⟩)),I 4] rI λ(x15:Int)=>L.store (Ad6 b4 3) [I x15]<|k12 (()))<|k12 (())) λz13=>L.join (Y:=Unit) (λk16=>L.load eB6 (Ad6 b7 1) λ(x18:Bool)=>L.ite x18 (L.call Pr yd [.pointer (some (⟨b2,0,none⟩))] rS λ(x19:B0)=>L.store (Ad6 b4 1) [.string x19]<|k16 (()))<|k16 (())) λz17=>L.join (Y:=Unit) (λk20=>L.load eB6 (Ad6 b7 2) λ(x22:Bool)=>L.ite x22 (L.call Pr yd [.pointer (some (⟨b2,0,none⟩))] rS λ(x23:B0)=>L.store (Ad6 b4 2) [.string x23]<|k20 (()))<|k20 (())) λz21=>L.join (Y:=Unit) (λk24=>L.load eB6 (Ad6 b7 3) λ(x26:Bool)=>L.ite x26 (L.call Pr ZH [.pointer (some (⟨b2,0,none⟩)),I 4] rI λ(x27:Int)=>L.store (Ad6 b4 4) [I x27]<|k24 (()))<|k24 (())) λz25=>L.join (Y:=Unit) (λk28=>L.load eB6 (Ad6 b7 4) λ(x30:Bool)=>L.ite x30 (L.call Pr XS [.pointer (some (⟨b2,0,none⟩))] (.one (.agg lf0)) λ(x31:pt0)=>L.store (Ad6 b4 5) [.string x31.1,I x31.2.1,I x31.2.2.1,I x31.2.2.2.1,I x31.2.2.2.2.1,I x31.2.2.2.2.2.1]<|k28 (()))<|k28 (())) λz29=>L.join (Y:=Unit) (λk32=>L.load eB6 (Ad6 b7 5) λ(x34:Bool)=>L.ite x34 (L.call Pr qz [.pointer (some (⟨b2,0,none⟩))] (.one (.agg [.str,.str,.slice,.int .i64])) λ(x35:pt3)=>L.store (Ad6 b4 11) [.string x35.1,.string x35.2.1,Sv6 x35.2.2.1,I x35.2.2.2.1]<|k32 (()))<|k32 (())) λz33=>L.nonnil (some (⟨b2,0,none⟩)) λa36=>L.load eB6 (a36.add 1) λ(x37:Bool)=>L.ite x37 (L.store (⟨b1,0,none⟩) [I 0,.string s_,.string s_,I 0,I 0,.string s_,I 0,I 0,I 0,I 0,I 0,.string s_,.string s_,.slice none 0 0,I 0]<|L.load (.agg lf1) (⟨b1,0,none⟩) λ(x38:pt1)=>K (.tuple #[(qa1 x38),I 10]))<|L.nonnil (some (⟨b2,0,none⟩)) λa39=>L.load eL6 (a39.add 0) λ(x40:Sl)=>L.ite (decide (((x40.len:Nat):Int)>0)) (L.store (⟨b1,0,none⟩) [I 0,.string s_,.string s_,I 0,I 0,.string s_,I 0,I 0,I 0,I 0,I 0,.string s_,.string s_,.slice none 0 0,I 0]<|L.load (.agg lf1) (⟨b1,0,none⟩) λ(x41:pt1)=>K (.tuple #[(qa1 x41),I 11]))<|L.load (.agg lf1) (⟨b4,0,none⟩) λ(x42:pt1)=>L.call Pr vJ [(qa1 x42)] rI λ(x43:Int)=>L.ite (x43 != 0) (L.store (⟨b1,0,none⟩) [I 0,.string s_,.string s_,I 0,I 0,.string s_,I 0,I 0,I 0,I 0,I 0,.string s_,.string s_,.slice none 0 0,I 0]<|L.load (.agg lf1) (⟨b1,0,none⟩) λ(x44:pt1)=>K (.tuple #[(qa1 x44),I x43]))<|L.load (.agg lf1) (⟨b4,0,none⟩) λ(x45:pt1)=>L.store (⟨b1,0,none⟩) [I x45.1,.string x45.2.1,.string x45.2.2.1,I x45.2.2.2.1,I x45.2.2.2.2.1,.string x45.2.2.2.2.2.1,I x45.2.2.2.2.2.2.1,I x45.2.2.2.2.2.2.2.1,I x45.2.2.2.2.2.2.2.2.1,I x45.2.2.2.2.2.2.2.2.2.1,I x45.2.2.2.2.2.2.2.2.2.2.1,.string x45.2.2.2.2.2.2.2.2.2.2.2.1,.string x45.2.2.2.2.2.2.2.2.2.2.2.2.1,Sv6 x45.2.2.2.2.2.2.2.2.2.2.2.2.2.1,I x45.2.2.2.2.2.2.2.2.2.2.2.2.2.2.1]<|L.load (.agg lf1) (⟨b1,0,none⟩) λ(x46:pt1)=>K (.tuple #[(qa1 x46),I 0])
def nO(p0:Sl)(h:Mv p0 K w):CV oS [.v (.slice p0.a p0.len p0.cap)] K w:=zy Tryz.f121 Nb _ h
def xI(c0:Addr)(c1:Addr)(K:Value→PT):PT:=
  L.draw<|L.load eP6 c0 λ(x1:Option Addr)=>L.load eP6 c0 λ(x2:Option Addr)=>L.nonnil x2 λa3=>L.load eL6 (a3.add 0) λ(x4:Sl)=>L.load eL6 c1 λ(x5:Sl)=>L.sem Pr (.one (.one .slice)) (Builtin.append_ #[zm,zm] zm #[Sv6 x4,Sv6 x5]) λ(s6:Sl)=>L.chk c0 [.pointer x1]<|L.nonnil x1 λa7=>L.store (a7.add 0) [Sv6 s6]<|K (.tuple #[])
def mw:ZO Pr mq:=zK (by kernel_rfl)
def Ms(p0:B0)(K:Value→PT):PT:=
  L.call Pr Vy [.string p0,.string xJ] rI λ(x1:Int)=>L.ite (decide (x1<0)) (K (.tuple #[.string s_,I 0,.bool false]))<|L.guard ((0:Int)≤(Wi (x1+1))∧(Wi (x1+1))≤(p0.size:Int)∧(p0.size:Int)≤p0.size)<|L.call Pr fu [.string (p0.extract (Int.toNat (Wi (x1+1))) (Int.toNat (p0.size:Int)))] (.tup [eI6,(.one (.iface))]) λ(x2:z2N)=>L.ite (!(x2.2.1).isNone) (K (.tuple #[.string s_,I 0,.bool false]))<|L.guard ((0:Int)≤(0:Int)∧(0:Int)≤x1∧x1≤p0.size)<|L.call Pr vT [.string (p0.extract (Int.toNat 0) (Int.toNat x1)),I x2.1] rS λ(x3:B0)=>L.ite (!(x3.toList == p0.toList)) (K (.tuple #[.string s_,I 0,.bool false]))<|L.guard ((0:Int)≤(0:Int)∧(0:Int)≤x1∧x1≤p0.size)<|K (.tuple #[.string (p0.extract (Int.toNat 0) (Int.toNat x1)),I x2.1,.bool true])
def nL(p0:B0)(h:Ms p0 K w):CV QI [.v (.string p0)] K w:=zy Tryz.f123 .auto _ h
def nZ:Ann:=(.q2 (.q2 (.seq (.q2 (.one [(5,(.one (.int .i32)))] (.q2 (.seq (.cond .auto .auto) (.q2 (.seq (.q2 (.cond .auto .auto) none) .auto (some [])) none) none) none)) none) .auto none) none) none)
def Mr(p0:B0)(p1:Int)(K:Value→PT):PT:=
  L.sem Pr (.one (.one .ptr)) (Instr.range zc (.string p0)) λ(it1:Option Addr)=>L.loop (Y:=Int×Unit) (45,()) λy2 again3=>L.next Pr [eI6,(.one (.int .i32))] (Instr.next (.pointer it1) true T_) (L.ite (y2.1 != 45) (K (.bool (decide ((p0.size:Int)≤p1))))<|K (.bool false)) λ(x4:Int×Int×Unit)=>L.join (Y:=Unit) (λk5=>L.call Pr gG [.int .i32 x4.2.1] rB λ(x7:Bool)=>L.ite (!x7) (K (.bool false))<|L.ite (x4.1 == 0) (L.call Pr Ur [.int .i32 x4.2.1] rB λ(x8:Bool)=>L.ite (!x8) (K (.bool false))<|k5 (()))<|k5 (())) λz6=>again3 (x4.2.1,())
def nK(p0:B0)(p1:Int)(h:Mr p0 p1 K w):CV vG [.v (.string p0),.v (.int .i64 p1)] K w:=zy Tryz.f124 nZ _ h
def YW:Ann:=(.q2 (.q2 (.seq (.q2 (.one [(17,eI6)] .auto) none) .auto none) none) none)
def ya(p0 p1:Sl)(p2:FV)(K:Value→PT):PT:=
  L.ite (((p0.len:Nat):Int) != ((p1.len:Nat):Int)) (K (.bool false))<|L.loop (Y:=Int×Unit) (0,()) λy1 again2=>L.ite (decide (y1.1<((p0.len:Nat):Int))) (L.idx p0.a y1.1 p0.len 3 λa3=>L.load (.agg [.str,.str,.int .i64]) a3 λ(x4:pt9)=>L.new [.string s_,.string s_,I 0] zu λb5=>L.store (⟨b5,0,none⟩) [.string x4.1,.string x4.2.1,I x4.2.2.1]<|L.idx p1.a y1.1 p1.len 3 λa6=>L.load (.agg [.str,.str,.int .i64]) a6 λ(x7:pt9)=>L.new [.string s_,.string s_,I 0] zu λb8=>L.store (⟨b8,0,none⟩) [.string x7.1,.string x7.2.1,I x7.2.2.1]<|L.load (.agg [.str,.str,.int .i64]) (⟨b5,0,none⟩) λ(x9:pt9)=>L.load (.agg [.str,.str,.int .i64]) (⟨b8,0,none⟩) λ(x10:pt9)=>L.callV Pr (.func p2.fn p2.fs p2.cs) [.agg #[.string x9.1,.string x9.2.1,I x9.2.2.1],.agg #[.string x10.1,.string x10.2.1,I x10.2.2.1]] rB λ(x11:Bool)=>L.ite (!x11) (K (.bool false))<|again2 (Wi (y1.1+1),()))<|K (.bool true)
def YV(p0 p1:Sl)(p2:FV)(h:ya p0 p1 p2 K w):CV Zt [.v (.slice p0.a p0.len p0.cap),.v (.slice p1.a p1.len p1.cap),.v (.func p2.fn p2.fs p2.cs)] K w:=zy Tryz.f127 YW _ h
def cK(p0 p1:HT [.str,.str,.int .i64])(K:Value→PT):PT:=
  L.new [.string p0.1,.string p0.2.1,I p0.2.2.1] zu λb1=>L.new [.string p1.1,.string p1.2.1,I p1.2.2.1] zu λb2=>L.load (.agg [.str,.str,.int .i64]) (⟨b1,0,none⟩) λ(x3:pt9)=>L.load (.agg [.str,.str,.int .i64]) (⟨b2,0,none⟩) λ(x4:pt9)=>L.chkSem Pr (do eqGuard .eql zu (.tmp 0) (.tmp 0) (.agg #[.string x3.1,.string x3.2.1,I x3.2.2.1]) (.agg #[.string x4.1,.string x4.2.1,I x4.2.2.1]);binOp .eql zu (.agg #[.string x3.1,.string x3.2.1,I x3.2.2.1]) (.agg #[.string x4.1,.string x4.2.1,I x4.2.2.1])) (.bool ((x3.1 == x4.1)&&((x3.2.1 == x4.2.1)&&((x3.2.2.1 == x4.2.2.1)&&true))))<|K (.bool ((x3.1 == x4.1)&&((x3.2.1 == x4.2.1)&&((x3.2.2.1 == x4.2.2.1)&&true))))
def LZ(p0 p1:HT [.str,.str,.int .i64])(h:cK p0 p1 K w):CV vR [.ag [.string p0.1,.string p0.2.1,.int .i64 p0.2.2.1],.ag [.string p1.1,.string p1.2.1,.int .i64 p1.2.2.1]] K w:=zy Tryz.f128 .auto _ h
def LX:ZO Pr vR:=zK (by kernel_rfl)
def th(p0:B0)(K:Value→PT):PT:=
  L.call Pr vG [.string p0,I 16] rB λ(x1:Bool)=>K (.bool x1)
def WF(p0:B0)(h:th p0 K w):CV Xk [.v (.string p0)] K w:=zy Tryz.f129 .auto _ h
def Vq(p0:HT [.int .i64,.int .i64])(p1:Int)(K:Value→PT):PT:=
  L.new [I p0.1,I p0.2.1] cF λb1=>L.load eI6 (Ad6 b1 0) λ(x2:Int)=>L.ite (decide (p1≥x2)) (L.load eI6 (Ad6 b1 1) λ(x3:Int)=>K (.bool (decide (p1≤x3))))<|K (.bool false)
def Gv(p0:HT [.int .i64,.int .i64])(p1:Int)(h:Vq p0 p1 K w):CV ye [.ag [.int .i64 p0.1,.int .i64 p0.2.1],.v (.int .i64 p1)] K w:=zy Tryz.f130 .auto _ h
def Cc:ZO Pr ye:=zK (by kernel_rfl)
def nV:Ann:=(.q2 (.q2 (.q2 (.seq (.seq (.q2 (.cond .auto .auto) none) .auto (some [(16,eB6)])) .auto none) none) none) none)
def Mj(p0:HT [.str,.str,.int .i64])(K:Value→PT):PT:=
  L.new [.string p0.1,.string p0.2.1,I p0.2.2.1] zu λb1=>L.load eS6 (Ad6 b1 0) λ(x2:B0)=>L.call Pr QI [.string x2] (.tup [eS6,eI6,eB6]) λ(x3:B0×Int×Bool×Unit)=>L.join (Y:=Bool×Unit) (λk4=>L.load eS6 (Ad6 b1 0) λ(x6:B0)=>L.ite (!(x6.toList == s_.toList)) (L.ite (!x3.2.2.1) (k4 (!x3.2.2.1,()))<|L.load eS6 (Ad6 b1 1) λ(x7:B0)=>L.ite (!(x7.toList == s_.toList)) (L.load eS6 (Ad6 b1 1) λ(x8:B0)=>L.call Pr JX [.string x8] rB λ(x9:Bool)=>k4 (!x9,()))<|k4 (false,()))<|L.load eS6 (Ad6 b1 1) λ(x10:B0)=>L.ite (!(x10.toList == s_.toList)) (L.load eS6 (Ad6 b1 1) λ(x11:B0)=>L.call Pr JX [.string x11] rB λ(x12:Bool)=>k4 (!x12,()))<|k4 (false,())) λz5=>L.ite z5.1 (K (I 1))<|L.load eI6 (Ad6 b1 2) λ(x13:Int)=>L.callV Pr (.func (.func ye) #[.agg #[I 0,I 100]] #[]) [I x13] rB λ(x14:Bool)=>L.ite (!x14) (K (I 2))<|K (I 0)
def nC(p0:HT [.str,.str,.int .i64])(h:Mj p0 K w):CV oO [.ag [.string p0.1,.string p0.2.1,.int .i64 p0.2.2.1]] K w:=zy Tryz.f131 nV _ h
def bJ:Ann:=(.q2 (.q2 (.seq (.q2 (.one [(3,eI6),(8,eI6)] (.q2 (.q2 (.seq (.q2 (.q2 (.q2 (.cond .auto .auto) none) none) none) .auto (some [(3,eI6)])) none) none)) none) .auto none) none) none)
def DC(p0:Sl)(K:Value→PT):PT:=
  L.loop (Y:=Int×Int×Unit) (0,0,()) λy1 again2=>L.ite (decide (y1.2.1<((p0.len:Nat):Int))) (L.join (Y:=Int×Unit) (λk3=>L.idx p0.a y1.2.1 p0.len 3 λa5=>L.load (.agg [.str,.str,.int .i64]) a5 λ(x6:pt9)=>L.new [.string s_,.string s_,I 0] zu λb7=>L.store (⟨b7,0,none⟩) [.string x6.1,.string x6.2.1,I x6.2.2.1]<|L.load eI6 (Ad6 b7 2) λ(x8:Int)=>L.load eS6 (Ad6 b7 1) λ(x9:B0)=>L.ite (!(x9.toList == s_.toList)) (L.guard (0≤(0:Int)∧(0:Int)≤y1.2.1∧y1.2.1≤((p0.cap:Nat):Int)∧((p0.cap:Nat):Int)≤p0.cap)<|L.call Pr ym [.slice (if Int.toNat ((p0.cap:Nat):Int)=Int.toNat (0:Int)then p0.a else Option.map (λa:Addr=>a.add (Int.toNat (0:Int)*3)) p0.a) (Int.toNat y1.2.1-Int.toNat (0:Int)) (Int.toNat ((p0.cap:Nat):Int)-Int.toNat (0:Int)),.func (.func Qc) #[] #[.pointer (some (⟨b7,0,none⟩))]] rB λ(x10:Bool)=>L.ite x10 (K (I 5))<|k3 (Wi (y1.1+x8),()))<|k3 (Wi (y1.1+x8),())) λz4=>again2 (z4.1,Wi (y1.2.1+1),()))<|L.ite (y1.1 != 100) (K (I 4))<|K (I 0)
def bC(p0:Sl)(h:DC p0 K w):CV MG [.v (.slice p0.a p0.len p0.cap)] K w:=zy Tryz.f132 bJ _ h
def kD:Ann:=(.q2 (.q2 (.seq (.q2 (.cond .auto (.q2 (.cond .auto .auto) none)) none) .auto (some [])) none) none)
def qj(p0:Option Addr)(p1:B0)(p2:Int)(p3:Bool)(K:Value→PT):PT:=
  L.nonnil p0 λa1=>L.load (.one (.map)) (a1.add 0) λ(x2:Option Nat)=>L.semR Pr (.one (.agg wP)) (Instr.lookup zR (.map x2) (.string p1) false) λ(x3:Rf)=>L.new [.string s_,I 0,I 0,I 0,I 0,I 0,I 0,I 0,.bool false] zM λb4=>L.store (⟨b4,0,none⟩) [.string x3.1,I x3.2.1,I x3.2.2.1,I x3.2.2.2.1,I x3.2.2.2.2.1,I x3.2.2.2.2.2.1,I x3.2.2.2.2.2.2.1,I x3.2.2.2.2.2.2.2.1,.bool x3.2.2.2.2.2.2.2.2.1]<|L.join (Y:=Unit) (λk5=>L.ite p3 (L.ite (p2 == 0) (L.load eB6 (Ad6 b4 8) λ(x7:Bool)=>L.ite x7 (K (I 5))<|L.ite p3 (L.ite (p2 == 0) (K (I 0))<|L.load eB6 (Ad6 b4 8) λ(x8:Bool)=>L.ite (!x8) (K (I 6))<|L.load eI6 (Ad6 b4 6) λ(x9:Int)=>L.ite (x9 != p2) (K (I 7))<|k5 (()))<|L.load eB6 (Ad6 b4 8) λ(x10:Bool)=>L.ite (!x10) (K (I 6))<|L.load eI6 (Ad6 b4 6) λ(x11:Int)=>L.ite (x11 != p2) (K (I 7))<|k5 (()))<|L.ite p3 (L.ite (p2 == 0) (K (I 0))<|L.load eB6 (Ad6 b4 8) λ(x12:Bool)=>L.ite (!x12) (K (I 6))<|L.load eI6 (Ad6 b4 6) λ(x13:Int)=>L.ite (x13 != p2) (K (I 7))<|k5 (()))<|L.load eB6 (Ad6 b4 8) λ(x14:Bool)=>L.ite (!x14) (K (I 6))<|L.load eI6 (Ad6 b4 6) λ(x15:Int)=>L.ite (x15 != p2) (K (I 7))<|k5 (()))<|L.ite p3 (L.ite (p2 == 0) (K (I 0))<|L.load eB6 (Ad6 b4 8) λ(x16:Bool)=>L.ite (!x16) (K (I 6))<|L.load eI6 (Ad6 b4 6) λ(x17:Int)=>L.ite (x17 != p2) (K (I 7))<|k5 (()))<|L.load eB6 (Ad6 b4 8) λ(x18:Bool)=>L.ite (!x18) (K (I 6))<|L.load eI6 (Ad6 b4 6) λ(x19:Int)=>L.ite (x19 != p2) (K (I 7))<|k5 (())) λz6=>K (I 0)
def ky(p0:Option Addr)(p1:B0)(p2:Int)(p3:Bool)(h:qj p0 p1 p2 p3 K w):CV YK [.v (.pointer p0),.v (.string p1),.v (.int .i64 p2),.v (.bool p3)] K w:=zy Tryz.f137 kD _ h
def kC:Ann:=(.q2 (.q2 (.q2 .auto (some [])) none) none)
def qi(p0:Option Addr)(p1:B0)(p2:ht0)(p3:Int)(K:Value→PT):PT:=
  L.new [.string p2.1,I p2.2.1,I p2.2.2.1,I p2.2.2.2.1,I p2.2.2.2.2.1,I p2.2.2.2.2.2.1] zF λb1=>L.nonnil p0 λa2=>L.load (.one (.map)) (a2.add 0) λ(x3:Option Nat)=>L.semR Pr (.one (.agg wP)) (Instr.lookup zR (.map x3) (.string p1) false) λ(x4:Rf)=>L.new [.string s_,I 0,I 0,I 0,I 0,I 0,I 0,I 0,.bool false] zM λb5=>L.store (⟨b5,0,none⟩) [.string x4.1,I x4.2.1,I x4.2.2.1,I x4.2.2.2.1,I x4.2.2.2.2.1,I x4.2.2.2.2.2.1,I x4.2.2.2.2.2.2.1,I x4.2.2.2.2.2.2.2.1,.bool x4.2.2.2.2.2.2.2.2.1]<|L.join (Y:=Unit) (λk6=>L.draw<|L.load eB6 (Ad6 b5 8) λ(x8:Bool)=>L.ite (!x8) (L.load eI6 (Ad6 b5 7) λ(x9:Int)=>L.store (Ad6 b5 7) [I (Wi (x9+1))]<|k6 (()))<|L.nonnil p0 λa10=>L.load (.one (.func)) (a10.add 1) λ(x11:FV)=>L.load (.agg lf0) (Ad6 b5 0) λ(x12:pt0)=>L.load (.agg lf0) (⟨b1,0,none⟩) λ(x13:pt0)=>L.callV Pr (.func x11.fn x11.fs x11.cs) [(qa0 x12),(qa0 x13)] rB λ(x14:Bool)=>L.ite (!x14) (L.load eI6 (Ad6 b5 7) λ(x15:Int)=>L.store (Ad6 b5 7) [I (Wi (x15+1))]<|k6 (()))<|k6 (())) λz7=>L.draw<|L.nonnil p0 λa16=>L.load (.one (.map)) (a16.add 0) λ(x17:Option Nat)=>L.load (.agg lf0) (⟨b1,0,none⟩) λ(x18:pt0)=>L.load eI6 (Ad6 b5 7) λ(x19:Int)=>L.semU Pr (Instr.mapUpdate zR (.map x17) (.string p1) (.agg #[.string x18.1,I x18.2.1,I x18.2.2.1,I x18.2.2.2.1,I x18.2.2.2.2.1,I x18.2.2.2.2.2.1,I p3,I x19,.bool true]))<|K (.tuple #[])
def kx(p0:Option Addr)(p1:B0)(p2:ht0)(p3:Int)(h:qi p0 p1 p2 p3 K w):CV Jb [.v (.pointer p0),.v (.string p1),.ag (qc0 p2),.v (.int .i64 p3)] K w:=zy Tryz.f138 kC _ h
def KU:Ann:=(.q2 (.q2 (.seq (.q2 (.cond .auto (.q2 (.cond .auto .auto) none)) none) .auto (some [])) none) none)
def qP(p0:Option Addr)(p1:B0)(p2:Int)(p3:Bool)(K:Value→PT):PT:=
  L.nonnil p0 λa1=>L.load (.one (.map)) (a1.add 0) λ(x2:Option Nat)=>L.semR Pr (.one (.agg wO)) (Instr.lookup zT (.map x2) (.string p1) false) λ(x3:Re)=>L.new [.string s_,.string s_,.slice none 0 0,I 0,I 0,I 0,.bool false] zU λb4=>L.store (⟨b4,0,none⟩) [.string x3.1,.string x3.2.1,Sv6 x3.2.2.1,I x3.2.2.2.1,I x3.2.2.2.2.1,I x3.2.2.2.2.2.1,.bool x3.2.2.2.2.2.2.1]<|L.join (Y:=Unit) (λk5=>L.ite p3 (L.ite (p2 == 0) (L.load eB6 (Ad6 b4 6) λ(x7:Bool)=>L.ite x7 (K (I 5))<|L.ite p3 (L.ite (p2 == 0) (K (I 0))<|L.load eB6 (Ad6 b4 6) λ(x8:Bool)=>L.ite (!x8) (K (I 6))<|L.load eI6 (Ad6 b4 4) λ(x9:Int)=>L.ite (x9 != p2) (K (I 7))<|k5 (()))<|L.load eB6 (Ad6 b4 6) λ(x10:Bool)=>L.ite (!x10) (K (I 6))<|L.load eI6 (Ad6 b4 4) λ(x11:Int)=>L.ite (x11 != p2) (K (I 7))<|k5 (()))<|L.ite p3 (L.ite (p2 == 0) (K (I 0))<|L.load eB6 (Ad6 b4 6) λ(x12:Bool)=>L.ite (!x12) (K (I 6))<|L.load eI6 (Ad6 b4 4) λ(x13:Int)=>L.ite (x13 != p2) (K (I 7))<|k5 (()))<|L.load eB6 (Ad6 b4 6) λ(x14:Bool)=>L.ite (!x14) (K (I 6))<|L.load eI6 (Ad6 b4 4) λ(x15:Int)=>L.ite (x15 != p2) (K (I 7))<|k5 (()))<|L.ite p3 (L.ite (p2 == 0) (K (I 0))<|L.load eB6 (Ad6 b4 6) λ(x16:Bool)=>L.ite (!x16) (K (I 6))<|L.load eI6 (Ad6 b4 4) λ(x17:Int)=>L.ite (x17 != p2) (K (I 7))<|k5 (()))<|L.load eB6 (Ad6 b4 6) λ(x18:Bool)=>L.ite (!x18) (K (I 6))<|L.load eI6 (Ad6 b4 4) λ(x19:Int)=>L.ite (x19 != p2) (K (I 7))<|k5 (())) λz6=>K (I 0)
def KO(p0:Option Addr)(p1:B0)(p2:Int)(p3:Bool)(h:qP p0 p1 p2 p3 K w):CV YR [.v (.pointer p0),.v (.string p1),.v (.int .i64 p2),.v (.bool p3)] K w:=zy Tryz.f139 KU _ h
def KT:Ann:=(.q2 (.q2 (.q2 .auto (some [])) none) none)
def qO(p0:Option Addr)(p1:B0)(p2:ht2)(p3:Int)(K:Value→PT):PT:=
  L.new [.string p2.1,.string p2.2.1,Sv6 p2.2.2.1,I p2.2.2.2.1] zG λb1=>L.nonnil p0 λa2=>L.load (.one (.map)) (a2.add 0) λ(x3:Option Nat)=>L.semR Pr (.one (.agg wO)) (Instr.lookup zT (.map x3) (.string p1) false) λ(x4:Re)=>L.new [.string s_,.string s_,.slice none 0 0,I 0,I 0,I 0,.bool false] zU λb5=>L.store (⟨b5,0,none⟩) [.string x4.1,.string x4.2.1,Sv6 x4.2.2.1,I x4.2.2.2.1,I x4.2.2.2.2.1,I x4.2.2.2.2.2.1,.bool x4.2.2.2.2.2.2.1]<|L.join (Y:=Unit) (λk6=>L.draw<|L.load eB6 (Ad6 b5 6) λ(x8:Bool)=>L.ite (!x8) (L.load eI6 (Ad6 b5 5) λ(x9:Int)=>L.store (Ad6 b5 5) [I (Wi (x9+1))]<|k6 (()))<|L.nonnil p0 λa10=>L.load (.one (.func)) (a10.add 1) λ(x11:FV)=>L.load (.agg [.str,.str,.slice,.int .i64]) (Ad6 b5 0) λ(x12:pt3)=>L.load (.agg [.str,.str,.slice,.int .i64]) (⟨b1,0,none⟩) λ(x13:pt3)=>L.callV Pr (.func x11.fn x11.fs x11.cs) [.agg #[.string x12.1,.string x12.2.1,Sv6 x12.2.2.1,I x12.2.2.2.1],.agg #[.string x13.1,.string x13.2.1,Sv6 x13.2.2.1,I x13.2.2.2.1]] rB λ(x14:Bool)=>L.ite (!x14) (L.load eI6 (Ad6 b5 5) λ(x15:Int)=>L.store (Ad6 b5 5) [I (Wi (x15+1))]<|k6 (()))<|k6 (())) λz7=>L.draw<|L.nonnil p0 λa16=>L.load (.one (.map)) (a16.add 0) λ(x17:Option Nat)=>L.load (.agg [.str,.str,.slice,.int .i64]) (⟨b1,0,none⟩) λ(x18:pt3)=>L.load eI6 (Ad6 b5 5) λ(x19:Int)=>L.semU Pr (Instr.mapUpdate zT (.map x17) (.string p1) (.agg #[.string x18.1,.string x18.2.1,Sv6 x18.2.2.1,I x18.2.2.2.1,I p3,I x19,.bool true]))<|K (.tuple #[])
def KN(p0:Option Addr)(p1:B0)(p2:ht2)(p3:Int)(h:qO p0 p1 p2 p3 K w):CV Jx [.v (.pointer p0),.v (.string p1),.ag (qc2 p2),.v (.int .i64 p3)] K w:=zy Tryz.f140 KT _ h
def cL(p0:ht2)(K:Value→PT):PT:=
  L.new [.string p0.1,.string p0.2.1,Sv6 p0.2.2.1,I p0.2.2.2.1] zG λb1=>L.new [.string s_,.string s_,.slice none 0 0,I 0] zG λb2=>L.load eL6 (Ad6 b1 2) λ(x3:Sl)=>L.call Pr Yg [Sv6 x3] rL λ(x4:Sl)=>L.store (Ad6 b1 2) [Sv6 x4]<|L.load (.agg [.str,.str,.slice,.int .i64]) (⟨b1,0,none⟩) λ(x5:pt3)=>L.store (⟨b2,0,none⟩) [.string x5.1,.string x5.2.1,Sv6 x5.2.2.1,I x5.2.2.2.1]<|L.load (.agg [.str,.str,.slice,.int .i64]) (⟨b2,0,none⟩) λ(x6:pt3)=>K (.agg #[.string x6.1,.string x6.2.1,Sv6 x6.2.2.1,I x6.2.2.2.1])
def rg(p0:ht2)(h:cL p0 K w):CV oh [.ag (qc2 p0)] K w:=zy Tryz.f141 .auto _ h
def Oa:Ann:=(.q2 (.q2 (.q2 .auto (some [])) none) none)
def QL(p0:Option Addr)(p1:B0)(p2:Int)(K:Value→PT):PT:=
  L.call Pr YK [.pointer p0,.string p1,I p2,.bool false] rI λ(x1:Int)=>L.join (Y:=Unit) (λk2=>L.ite (x1 == 0) (L.call Pr jO [.pointer p0,.string p1] (.tup []) λ(x4:Unit)=>k2 (()))<|k2 (())) λz3=>K (I x1)
def oY(p0:Option Addr)(p1:B0)(p2:Int)(h:QL p0 p1 p2 K w):CV xl [.v (.pointer p0),.v (.string p1),.v (.int .i64 p2)] K w:=zy Tryz.f142 Oa _ h
def OX:Ann:=(.q2 (.q2 (.q2 .auto (some [])) none) none)
def uO(p0:Option Addr)(p1:B0)(p2:Int)(K:Value→PT):PT:=
  L.call Pr YR [.pointer p0,.string p1,I p2,.bool false] rI λ(x1:Int)=>L.join (Y:=Unit) (λk2=>L.ite (x1 == 0) (L.call Pr Ja [.pointer p0,.string p1] (.tup []) λ(x4:Unit)=>k2 (()))<|k2 (())) λz3=>K (I x1)
def OS(p0:Option Addr)(p1:B0)(p2:Int)(h:uO p0 p1 p2 K w):CV xO [.v (.pointer p0),.v (.string p1),.v (.int .i64 p2)] K w:=zy Tryz.f143 OX _ h
def UL(p0:Option Addr)(p1:B0)(K:Value→PT):PT:=
  L.new [.slice none 0 0,.slice none 0 0] zl λb1=>L.nonnil p0 λa2=>L.load eP6 (a2.add 2) λ(x3:Option Addr)=>L.call Pr QA [.pointer x3,.string p1] (.tup [(.agg [.slice,.slice]),eB6]) λ(x4:(Sl×Sl×Unit)×Bool×Unit)=>L.store (⟨b1,0,none⟩) [Sv6 x4.1.1,Sv6 x4.1.2.1]<|L.load (.agg [.slice,.slice]) (⟨b1,0,none⟩) λ(x5:Sl×Sl×Unit)=>K (.tuple #[.agg #[Sv6 x5.1,Sv6 x5.2.1],.bool x4.2.1])
def GL(p0:Option Addr)(p1:B0)(h:UL p0 p1 K w):CV UH [.v (.pointer p0),.v (.string p1)] K w:=zy Tryz.f144 .auto _ h
def WJ:Ann:=(.q2 (.q2 (.seq (.q2 (.one [(1,eI6),(14,eI6)] .auto) none) .auto none) none) none)
def PV(p0:HT [.slice,.slice])(p1:Int)(K:Value→PT):PT:=
  L.new [Sv6 p0.1,Sv6 p0.2.1] zl λb1=>L.guard (100≠(0:Int))<|L.guard (100≠(0:Int))<|L.load eL6 (Ad6 b1 0) λ(x2:Sl)=>L.loop (Y:=Int×Int×Unit) (Int.tmod (Wi ((Int.tmod p1 100)+100)) 100,0,()) λy3 again4=>L.ite (decide (y3.2.1<((x2.len:Nat):Int))) (L.idx x2.a y3.2.1 x2.len 2 λa5=>L.load (.agg [.str,.int .i64]) a5 λ(x6:B0×Int×Unit)=>L.new [.string s_,I 0] Zb λb7=>L.store (⟨b7,0,none⟩) [.string x6.1,I x6.2.1]<|L.load eI6 (Ad6 b7 1) λ(x8:Int)=>L.ite (decide (y3.1<x8)) (L.load eS6 (Ad6 b7 0) λ(x9:B0)=>K (.string x9))<|L.load eI6 (Ad6 b7 1) λ(x10:Int)=>again4 (Wi (y3.1-x10),Wi (y3.2.1+1),()))<|K (.string s_)
def Ww(p0:HT [.slice,.slice])(p1:Int)(h:PV p0 p1 K w):CV gC [.ag [.slice p0.1.a p0.1.len p0.1.cap,.slice p0.2.1.a p0.2.1.len p0.2.1.cap],.v (.int .i64 p1)] K w:=zy Tryz.f145 WJ _ h
def nS:Ann:=(.q2 (.seq (.q2 (.one [(11,eI6)] .auto) none) .auto none) none)
def Mg(p0:HT [.slice,.slice])(p1:B0)(K:Value→PT):PT:=
  L.new [Sv6 p0.1,Sv6 p0.2.1] zl λb1=>L.load eL6 (Ad6 b1 1) λ(x2:Sl)=>L.loop (Y:=Int×Unit) (0,()) λy3 again4=>L.ite (decide (y3.1<((x2.len:Nat):Int))) (L.idx x2.a y3.1 x2.len 2 λa5=>L.load (.agg [.str,.str]) a5 λ(x6:B0×B0×Unit)=>L.new [.string s_,.string s_] Jl λb7=>L.store (⟨b7,0,none⟩) [.string x6.1,.string x6.2.1]<|L.load eS6 (Ad6 b7 0) λ(x8:B0)=>L.ite (x8.toList == p1.toList) (L.load eS6 (Ad6 b7 1) λ(x9:B0)=>K (.tuple #[.string x9,.bool true]))<|again4 (Wi (y3.1+1),()))<|K (.tuple #[.string s_,.bool false])
def nz(p0:HT [.slice,.slice])(p1:B0)(h:Mg p0 p1 K w):CV oM [.ag [.slice p0.1.a p0.1.len p0.1.cap,.slice p0.2.1.a p0.2.1.len p0.2.1.cap],.v (.string p1)] K w:=zy Tryz.f146 nS _ h
def OD(p0:Option Addr)(p1:Int)(K:Value→PT):PT:=
  L.nonnil p0 λa1=>L.load (.one (.map)) (a1.add 1) λ(x2:Option Nat)=>L.semR Pr (.tup [(.agg [.str,.int .i64]),.one .bool]) (Instr.lookup Yb (.map x2) (I p1) true) λ(x3:z2M)=>L.new [.string s_,I 0] Zu λb4=>L.store (⟨b4,0,none⟩) [.string x3.1.1,I x3.1.2.1]<|K (.bool x3.2.1)
def TB(p0:Option Addr)(p1:Int)(h:OD p0 p1 K w):CV vh [.v (.pointer p0),.v (.int .i64 p1)] K w:=zy Tryz.f147 .auto _ h
def DG(p0:B0)(K:Value→PT):PT:=
  L.new [I 0,I 0,I 0,.string s_] zz λb1=>L.store (⟨b1,0,none⟩) [I 0,I 4,I 0,.string p0]<|L.load (.agg [.int .i64,.int .i64,.int .i64,.str]) (⟨b1,0,none⟩) λ(x2:kS)=>K (.agg #[I x2.1,I x2.2.1,I x2.2.2.1,.string x2.2.2.2.1])
def bG(p0:B0)(h:DG p0 K w):CV qx [.v (.string p0)] K w:=zy Tryz.f148 .auto _ h
def Gu(p0:Option Addr)(p1:Int)(p2:B0)(p3:ht3)(K:Value→PT):PT:=
  L.new [I p3.1,I p3.2.1,I p3.2.2.1,.string p3.2.2.2.1] zz λb1=>L.new [I 0,I 0,I 0,.string s_] zz λb2=>L.store (Ad6 b1 0) [I p1]<|L.draw<|L.nonnil p0 λa3=>L.load (.one (.map)) (a3.add 1) λ(x4:Option Nat)=>L.load eI6 (Ad6 b1 1) λ(x5:Int)=>L.semU Pr (Instr.mapUpdate Yb (.map x4) (I p1) (.agg #[.string p2,I x5]))<|L.load (.agg [.int .i64,.int .i64,.int .i64,.str]) (⟨b1,0,none⟩) λ(x6:kS)=>L.store (⟨b2,0,none⟩) [I x6.1,I x6.2.1,I x6.2.2.1,.string x6.2.2.2.1]<|L.load (.agg [.int .i64,.int .i64,.int .i64,.str]) (⟨b2,0,none⟩) λ(x7:kS)=>K (.agg #[I x7.1,I x7.2.1,I x7.2.2.1,.string x7.2.2.2.1])
def Ck(p0:Option Addr)(p1:Int)(p2:B0)(p3:ht3)(h:Gu p0 p1 p2 p3 K w):CV yf [.v (.pointer p0),.v (.int .i64 p1),.v (.string p2),.ag (qc3 p3)] K w:=zy Tryz.f149 .auto _ h
def Oc:Ann:=(.q2 (.q2 .auto (some [])) none)
def QM(p0:Option Addr)(p1:B0)(K:Value→PT):PT:=
  L.join (Y:=Unit) (λk1=>L.nonnil p0 λa3=>L.load (.one (.map)) (a3.add 0) λ(x4:Option Nat)=>L.semR Pr (.tup [eP6,.one .bool]) (Instr.lookup Zr (.map x4) (.string p1) true) λ(x5:Option Addr×Bool×Unit)=>L.ite (!x5.2.1) (L.draw<|L.nonnil p0 λa6=>L.load (.one (.map)) (a6.add 0) λ(x7:Option Nat)=>L.nonnil p0 λa8=>L.load (.one (.func)) (a8.add 1) λ(x9:FV)=>L.callV Pr (.func x9.fn x9.fs x9.cs) [] rP λ(x10:Option Addr)=>L.chk (a6.add 0) [.map x7]<|L.semU Pr (Instr.mapUpdate Zr (.map x7) (.string p1) (.pointer x10))<|k1 (()))<|k1 (())) λz2=>L.nonnil p0 λa11=>L.load (.one (.map)) (a11.add 0) λ(x12:Option Nat)=>L.semR Pr rP (Instr.lookup Zr (.map x12) (.string p1) false) λ(x13:Option Addr)=>K (.pointer x13)
def oZ(p0:Option Addr)(p1:B0)(h:QM p0 p1 K w):CV jv [.v (.pointer p0),.v (.string p1)] K w:=zy Tryz.f150 Oc _ h
def Gp(p0:Option Addr)(K:Value→PT):PT:=
  L.nonnil p0 λa1=>L.load eL6 ((a1.add 0).add 0) λ(x2:Sl)=>K (I ((x2.len:Nat):Int))
def Cf(p0:Option Addr)(h:Gp p0 K w):CV Xz [.v (.pointer p0)] K w:=zy Tryz.f151 .auto _ h
def OB(p0:Option Addr)(p1:Int)(p2:B0)(K:Value→PT):PT:=
  L.new [I 0,I 0,I 0,.string s_] zz λb1=>L.nonnil p0 λa2=>L.load eP6 (a2.add 0) λ(x3:Option Addr)=>L.call Pr ul [.pointer x3,.string p2,I p1] (.tup [eI6,eB6]) λ(x4:Int×Bool×Unit)=>L.ite (!x4.2.1) (L.store (⟨b1,0,none⟩) [I 0,I 0,I 0,.string s_]<|L.load (.agg [.int .i64,.int .i64,.int .i64,.str]) (⟨b1,0,none⟩) λ(x5:kS)=>K (.tuple #[.agg #[I x5.1,I x5.2.1,I x5.2.2.1,.string x5.2.2.2.1],.bool false]))<|L.call Pr yf [.pointer p0,I p1,.string p2,.agg #[I 0,I 1,I x4.1,.string s_]] (.one (.agg [.int .i64,.int .i64,.int .i64,.str])) λ(x6:kS)=>L.store (⟨b1,0,none⟩) [I x6.1,I x6.2.1,I x6.2.2.1,.string x6.2.2.2.1]<|L.load (.agg [.int .i64,.int .i64,.int .i64,.str]) (⟨b1,0,none⟩) λ(x7:kS)=>K (.tuple #[.agg #[I x7.1,I x7.2.1,I x7.2.2.1,.string x7.2.2.2.1],.bool true])
def Tz(p0:Option Addr)(p1:Int)(p2:B0)(h:OB p0 p1 p2 K w):CV Qd [.v (.pointer p0),.v (.int .i64 p1),.v (.string p2)] K w:=zy Tryz.f152 .auto _ h
def Ov(p0:Option Addr)(p1 p2:Int)(K:Value→PT):PT:=
  L.nonnil p0 λa1=>L.call Pr ub [.pointer (some (a1.add 0)),I p1] rB λ(x2:Bool)=>L.ite x2 (K (I 5))<|L.draw<|L.nonnil p0 λa3=>L.load eI6 (a3.add 1) λ(x4:Int)=>L.call Pr Xz [.pointer p0] rI λ(x5:Int)=>L.chk (a3.add 1) [I x4]<|L.ite (decide (x5≥x4)) (K (I 8))<|L.nonnil p0 λa6=>L.load eL6 ((a6.add 0).add 0) λ(x7:Sl)=>L.new [I p1,I p2] jc λb8=>L.sem Pr (.one (.one .slice)) (Builtin.append_ #[yk,yk] yk #[Sv6 x7,.slice (some ⟨b8,0,none⟩) 1 1]) λ(s9:Sl)=>L.nonnil p0 λa10=>L.store ((a10.add 0).add 0) [Sv6 s9]<|K (I 0)
def Ts(p0:Option Addr)(p1 p2:Int)(h:Ov p0 p1 p2 K w):CV Qb [.v (.pointer p0),.v (.int .i64 p1),.v (.int .i64 p2)] K w:=zy Tryz.f153 .auto _ h
def fY(p0:Sl)(K:Value→PT):PT:=
  L.new [Sv6 p0] zC λb1=>K (.func (.func xL) #[] #[.pointer (some (⟨b1,0,none⟩))])
def DK(p0:Sl)(h:fY p0 K w):CV ft [.v (.slice p0.a p0.len p0.cap)] K w:=zy Tryz.f154 .auto _ h
def KK(p0:Option Addr)(p1:Int)(K:Value→PT):PT:=
  L.nonnil p0 λa1=>L.load (.one (.map)) (a1.add 1) λ(x2:Option Nat)=>L.semR Pr (.tup [eI6,.one .bool]) (Instr.lookup xq (.map x2) (I p1) true) λ(x3:Int×Bool×Unit)=>L.ite (!x3.2.1) (K (.tuple #[.string s_,I 6]))<|L.nonnil p0 λa4=>L.load (.one (.map)) (a4.add 0) λ(x5:Option Nat)=>L.semR Pr (.one (.agg [.str,.ptr])) (Instr.lookup Za (.map x5) (I x3.1) false) λ(x6:B0×Option Addr×Unit)=>L.new [.string s_,.pointer none] Xe λb7=>L.store (⟨b7,0,none⟩) [.string x6.1,.pointer x6.2.1]<|L.load eP6 (Ad6 b7 1) λ(x8:Option Addr)=>L.call Pr Uo [.pointer x8,I p1] rI λ(x9:Int)=>L.nonnil p0 λa10=>L.load (.one (.map)) (a10.add 1) λ(x11:Option Nat)=>L.sem Pr (.tup []) (Builtin.delete_ #[xq,zp] T_ #[.map x11,I p1]) λ_=>L.call Pr JY [.pointer p0,I x3.1] (.tup []) λ(x12:Unit)=>L.load eS6 (Ad6 b7 0) λ(x13:B0)=>K (.tuple #[.string x13,I 0])
def pH(p0:Option Addr)(p1:Int)(h:KK p0 p1 K w):CV ur [.v (.pointer p0),.v (.int .i64 p1)] K w:=zy Tryz.f155 .auto _ h
def tb(p0:Option Addr)(K:Value→PT):PT:=
  L.nonnil p0 λa1=>L.load eI6 (a1.add 0) λ(x2:Int)=>L.ite (x2 != 1) (K (I 9))<|L.nonnil p0 λa3=>L.store (a3.add 0) [I 2]<|K (I 0)
def WD(p0:Option Addr)(h:tb p0 K w):CV gF [.v (.pointer p0)] K w:=zy Tryz.f156 .auto _ h
def Cm:Ann:=(.q2 (.seq (.q2 (.q2 .auto (some [(9,eI6),(10,eI6)])) none) .auto none) none)
def Gn(p0:Option Addr)(K:Value→PT):PT:=
  L.new [.pointer p0] xp λb1=>L.new [I 0] zp λb2=>L.new [.bool false] qG λb3=>L.load eP6 (⟨b1,0,none⟩) λ(x4:Option Addr)=>L.nonnil x4 λa5=>L.call Pr YX [.pointer (some (a5.add 0))] (.one (.one (.func))) λ(x6:FV)=>L.range Pr none (.func x6.fn x6.fs x6.cs) [eI6,eI6] (λl7(y8:Int×Int×Unit) R9=>L.begin Pr l7<|L.draw<|L.load eP6 (⟨b1,0,none⟩) λ(x12:Option Addr)=>L.load eP6 (⟨b1,0,none⟩) λ(x13:Option Addr)=>L.nonnil x13 λa14=>L.load eL6 ((a14.add 0).add 0) λ(x15:Sl)=>L.guard (0≤(1:Int)∧(1:Int)≤((x15.len:Nat):Int)∧((x15.len:Nat):Int)≤((x15.cap:Nat):Int)∧((x15.cap:Nat):Int)≤x15.cap)<|L.nonnil x12 λa16=>L.store ((a16.add 0).add 0) [.slice (if Int.toNat ((x15.cap:Nat):Int)=Int.toNat (1:Int)then x15.a else Option.map (λa:Addr=>a.add (Int.toNat (1:Int)*2)) x15.a) (Int.toNat ((x15.len:Nat):Int)-Int.toNat (1:Int)) (Int.toNat ((x15.cap:Nat):Int)-Int.toNat (1:Int))]<|L.store (⟨b2,0,none⟩) [I y8.1]<|L.store (⟨b3,0,none⟩) [.bool true]<|L.endRound Pr l7 (some .ret) R9) λd10 j11=>L.jump j11 (L.store (⟨b2,0,none⟩) [I 0]<|L.store (⟨b3,0,none⟩) [.bool false]<|L.unmark Pr (d10++[])<|L.load eI6 (⟨b2,0,none⟩) λ(x17:Int)=>L.load eB6 (⟨b3,0,none⟩) λ(x18:Bool)=>K (.tuple #[I x17,.bool x18])) (L.unmark Pr (d10++[])<|L.load eI6 (⟨b2,0,none⟩) λ(x19:Int)=>L.load eB6 (⟨b3,0,none⟩) λ(x20:Bool)=>K (.tuple #[I x19,.bool x20])) []
def Ce(p0:Option Addr)(h:Gn p0 K w):CV Vl [.v (.pointer p0)] K w:=zy Tryz.f157 Cm _ h
def JI(p0:Sl)(K:Value→PT):PT:=
  L.ite ((p0.a).isNone) (K (.slice none 0 0))<|L.new [] zz λb1=>L.sem Pr (.one (.one .slice)) (Builtin.append_ #[zC,zC] zC #[.slice (some ⟨b1,0,none⟩) 0 0,Sv6 p0]) λ(s2:Sl)=>K (.slice s2.a s2.len s2.cap)
def ux(p0:Sl)(h:JI p0 K w):CV ZR [.v (.slice p0.a p0.len p0.cap)] K w:=zy Tryz.f158 .auto _ h
def DX:Ann:=(.q2 (.q2 (.q2 (.seq (.q2 (.one [(21,eI6)] .auto) none) .auto none) none) none) none)
def Fc(p0:Option Addr)(K:Value→PT):PT:=
  L.nonnil p0 λa1=>L.load eI6 (a1.add 0) λ(x2:Int)=>L.ite (x2 == 4) (K (.tuple #[.slice none 0 0,I 9]))<|L.nonnil p0 λa3=>L.load (.one (.map)) ((a3.add 1).add 0) λ(x4:Option Nat)=>L.call Pr YL [.map x4] (.one (.one (.func))) λ(x5:FV)=>L.call Pr YY [.func x5.fn x5.fs x5.cs] rL λ(x6:Sl)=>L.call Pr ZN [Sv6 x6] rL λ(x7:Sl)=>L.loop (Y:=Int×Unit) (0,()) λy8 again9=>L.ite (decide (y8.1<((x7.len:Nat):Int))) (L.idx x7.a y8.1 x7.len 1 λa10=>L.load eI6 a10 λ(x11:Int)=>L.nonnil p0 λa12=>L.call Pr Xj [.pointer (some (a12.add 1)),I x11] rI λ(x13:Int)=>again9 (Wi (y8.1+1),()))<|L.nonnil p0 λa14=>L.store (a14.add 0) [I 4]<|K (.tuple #[Sv6 x7,I 0])
def DO(p0:Option Addr)(h:Fc p0 K w):CV Un [.v (.pointer p0)] K w:=zy Tryz.f159 DX _ h
def oE(p0:Option Addr)(p1:Int)(K:Value→PT):PT:=
  L.nonnil p0 λa1=>L.load (.one (.map)) (a1.add 0) λ(x2:Option Nat)=>L.semR Pr (.one (.agg [.str,.ptr])) (Instr.lookup Za (.map x2) (I p1) false) λ(x3:B0×Option Addr×Unit)=>L.call Pr yA [.pointer x3.2.1] rI λ(x4:Int)=>L.ite (x4 == 4) (L.nonnil p0 λa5=>L.load (.one (.map)) (a5.add 0) λ(x6:Option Nat)=>L.sem Pr (.tup []) (Builtin.delete_ #[Za,zp] T_ #[.map x6,I p1]) λ_=>K (.tuple #[]))<|K (.tuple #[])
def tq(p0:Option Addr)(p1:Int)(h:oE p0 p1 K w):CV JY [.v (.pointer p0),.v (.int .i64 p1)] K w:=zy Tryz.f160 .auto _ h
def qR(p0:Option Addr)(K:Value→PT):PT:=
  L.new [.pointer p0] Zn λb1=>K (.func (.func yB) #[] #[.pointer (some (⟨b1,0,none⟩))])
def KQ(p0:Option Addr)(h:qR p0 K w):CV qy [.v (.pointer p0)] K w:=zy Tryz.f161 .auto _ h
def Ow(p0:Option Addr)(p1:Int)(K:Value→PT):PT:=
  L.nonnil p0 λa1=>L.call Pr Vx [.pointer (some (a1.add 0)),I p1] rL λ(x2:Sl)=>K (.slice x2.a x2.len x2.cap)
def Tt(p0:Option Addr)(p1:Int)(h:Ow p0 p1 K w):CV vd [.v (.pointer p0),.v (.int .i64 p1)] K w:=zy Tryz.f162 .auto _ h
def OA(p0:Option Addr)(K:Value→PT):PT:=
  L.nonnil p0 λa1=>L.load (.one (.map)) (a1.add 0) λ(x2:Option Nat)=>L.call Pr yJ [.map x2] rL λ(x3:Sl)=>L.call Pr ZX [Sv6 x3] rL λ(x4:Sl)=>K (.slice x4.a x4.len x4.cap)
def Tx(p0:Option Addr)(h:OA p0 K w):CV vf [.v (.pointer p0)] K w:=zy Tryz.f163 .auto _ h
def Vc(p0:Option Addr)(p1:Int)(K:Value→PT):PT:=
  L.draw<|L.nonnil p0 λa1=>L.load eI6 (a1.add 60) λ(x2:Int)=>L.guard (60≠(0:Int))<|L.nonnil p0 λa3=>L.idx (some (a3.add 0)) (Int.tmod x2 60) 60 1 λa4=>L.store a4 [I p1]<|L.nonnil p0 λa5=>L.load eI6 (a5.add 60) λ(x6:Int)=>L.nonnil p0 λa7=>L.store (a7.add 60) [I (Wi (x6+1))]<|K (.tuple #[])
def FB(p0:Option Addr)(p1:Int)(h:Vc p0 p1 K w):CV qw [.v (.pointer p0),.v (.int .i64 p1)] K w:=zy Tryz.f164 .auto _ h
def qk(p0:Option Addr)(p1:B0)(K:Value→PT):PT:=
  L.new [.string s_,I 0,I 0,I 0,I 0,I 0,I 0,I 0,.bool false] zM λb1=>L.nonnil p0 λa2=>L.load (.one (.map)) (a2.add 0) λ(x3:Option Nat)=>L.semR Pr (.one (.agg wP)) (Instr.lookup zR (.map x3) (.string p1) false) λ(x4:Rf)=>L.new [.string s_,I 0,I 0,I 0,I 0,I 0,I 0,I 0,.bool false] zM λb5=>L.store (⟨b5,0,none⟩) [.string x4.1,I x4.2.1,I x4.2.2.1,I x4.2.2.2.1,I x4.2.2.2.2.1,I x4.2.2.2.2.2.1,I x4.2.2.2.2.2.2.1,I x4.2.2.2.2.2.2.2.1,.bool x4.2.2.2.2.2.2.2.2.1]<|L.draw<|L.load (.agg wP) (⟨b5,0,none⟩) λ(x6:Rf)=>L.load eB6 (Ad6 b5 8) λ(x7:Bool)=>L.store (⟨b1,0,none⟩) [.string x6.1,I x6.2.1,I x6.2.2.1,I x6.2.2.2.1,I x6.2.2.2.2.1,I x6.2.2.2.2.2.1,I x6.2.2.2.2.2.2.1,I x6.2.2.2.2.2.2.2.1,.bool x6.2.2.2.2.2.2.2.2.1]<|L.chk (Ad6 b5 8) [.bool x7]<|L.load (.agg wP) (⟨b1,0,none⟩) λ(x8:Rf)=>K (.tuple #[(qa5 x8),.bool x7])
def kz(p0:Option Addr)(p1:B0)(h:qk p0 p1 K w):CV Jc [.v (.pointer p0),.v (.string p1)] K w:=zy Tryz.f165 .auto _ h
def Fg(p0:B0)(p1:Int)(K:Value→PT):PT:=
  L.call Pr Xk [.string p0] rB λ(x1:Bool)=>L.ite (!x1) (K (.string s_))<|L.ite (decide (p1<1)) (K (.string s_))<|L.ite (decide (p1>999999)) (K (.string s_))<|L.guard (((p0.size+xJ.size:Nat):Int)≤XT)<|L.call Pr xM [I p1] rS λ(x2:B0)=>L.guard ((((p0++xJ).size+x2.size:Nat):Int)≤XT)<|K (.string ((p0++xJ)++x2))
def cT(p0:B0)(p1:Int)(h:Fg p0 p1 K w):CV vT [.v (.string p0),.v (.int .i64 p1)] K w:=zy Tryz.f166 .auto _ h
def qQ(p0:Option Addr)(p1:B0)(K:Value→PT):PT:=
  L.new [.string s_,.string s_,.slice none 0 0,I 0,I 0,I 0,.bool false] zU λb1=>L.nonnil p0 λa2=>L.load (.one (.map)) (a2.add 0) λ(x3:Option Nat)=>L.semR Pr (.one (.agg wO)) (Instr.lookup zT (.map x3) (.string p1) false) λ(x4:Re)=>L.new [.string s_,.string s_,.slice none 0 0,I 0,I 0,I 0,.bool false] zU λb5=>L.store (⟨b5,0,none⟩) [.string x4.1,.string x4.2.1,Sv6 x4.2.2.1,I x4.2.2.2.1,I x4.2.2.2.2.1,I x4.2.2.2.2.2.1,.bool x4.2.2.2.2.2.2.1]<|L.draw<|L.load (.agg wO) (⟨b5,0,none⟩) λ(x6:Re)=>L.load eB6 (Ad6 b5 6) λ(x7:Bool)=>L.store (⟨b1,0,none⟩) [.string x6.1,.string x6.2.1,Sv6 x6.2.2.1,I x6.2.2.2.1,I x6.2.2.2.2.1,I x6.2.2.2.2.2.1,.bool x6.2.2.2.2.2.2.1]<|L.chk (Ad6 b5 6) [.bool x7]<|L.load (.agg wO) (⟨b1,0,none⟩) λ(x8:Re)=>K (.tuple #[(qa6 x8),.bool x7])
def KP(p0:Option Addr)(p1:B0)(h:qQ p0 p1 K w):CV Jy [.v (.pointer p0),.v (.string p1)] K w:=zy Tryz.f167 .auto _ h
def Mq(p0:HT [.str,.str,.int .i64])(p1:ht2)(p2:Option Addr)(K:Value→PT):PT:=
  L.new [.string p0.1,.string p0.2.1,I p0.2.2.1] zu λb1=>L.new [.string p1.1,.string p1.2.1,Sv6 p1.2.2.1,I p1.2.2.2.1] zG λb2=>L.load eS6 (Ad6 b1 0) λ(x3:B0)=>L.ite (x3.toList == s_.toList) (L.load eS6 (Ad6 b2 1) λ(x4:B0)=>L.call Pr Qz [.pointer p2,.string x4] (.tup [eS6,eS6]) λ(x5:B0×B0×Unit)=>L.ite (x5.2.1.toList == s_.toList) (K (.tuple #[.string s_,I 9]))<|K (.tuple #[.string x5.2.1,I 0]))<|L.load eS6 (Ad6 b1 0) λ(x6:B0)=>L.call Pr jn [.pointer p2,.string x6] (.tup [(.agg lf6),eB6]) λ(x7:pt6)=>L.new [.string s_,I 0,.string s_,I 0,I 0,I 0,I 0,I 0] zO λb8=>L.store (⟨b8,0,none⟩) [.string x7.1.1,I x7.1.2.1,.string x7.1.2.2.1,I x7.1.2.2.2.1,I x7.1.2.2.2.2.1,I x7.1.2.2.2.2.2.1,I x7.1.2.2.2.2.2.2.1,I x7.1.2.2.2.2.2.2.2.1]<|L.ite (!x7.2.1) (K (.tuple #[.string s_,I 6]))<|L.load eS6 (Ad6 b1 0) λ(x9:B0)=>L.call Pr Ye [.pointer p2,.string x9] rB λ(x10:Bool)=>L.ite (!x10) (K (.tuple #[.string s_,I 9]))<|L.load eS6 (Ad6 b1 0) λ(x11:B0)=>K (.tuple #[.string x11,I 0])
def nJ(p0:HT [.str,.str,.int .i64])(p1:ht2)(p2:Option Addr)(h:Mq p0 p1 p2 K w):CV oR [.ag [.string p0.1,.string p0.2.1,.int .i64 p0.2.2.1],.ag (qc2 p1),.v (.pointer p2)] K w:=zy Tryz.f168 .auto _ h
def Qw(p0:Option Nat)(K:Value→PT):PT:=
  L.new [.map p0] Zv λb1=>K (.func (.func yK) #[] #[.pointer (some (⟨b1,0,none⟩))])
def KX(p0:Option Nat)(h:Qw p0 K w):CV Qr [.v (.map p0)] K w:=zy Tryz.f169 .auto _ h
def XG(p0:Option Nat)(K:Value→PT):PT:=
  L.new [.map p0] Ze λb1=>K (.func (.func yg) #[] #[.pointer (some (⟨b1,0,none⟩))])
def Vt(p0:Option Nat)(h:XG p0 K w):CV XA [.v (.map p0)] K w:=zy Tryz.f170 .auto _ h
def DE(p0:HT [.slice,.slice])(K:Value→PT):PT:=
  L.new [Sv6 p0.1,Sv6 p0.2.1] zl λb1=>L.new [.slice none 0 0,.slice none 0 0] zl λb2=>L.draw<|L.load eL6 (Ad6 b1 0) λ(x3:Sl)=>L.load eL6 (Ad6 b1 1) λ(x4:Sl)=>L.call Pr Zl [Sv6 x3] rL λ(x5:Sl)=>L.chk (Ad6 b1 1) [Sv6 x4]<|L.call Pr Yz [Sv6 x4] rL λ(x6:Sl)=>L.store (⟨b2,0,none⟩) [Sv6 x5,Sv6 x6]<|L.load (.agg [.slice,.slice]) (⟨b2,0,none⟩) λ(x7:Sl×Sl×Unit)=>K (.agg #[Sv6 x7.1,Sv6 x7.2.1])
def bE(p0:HT [.slice,.slice])(h:DE p0 K w):CV YA [.ag [.slice p0.1.a p0.1.len p0.1.cap,.slice p0.2.1.a p0.2.1.len p0.2.1.cap]] K w:=zy Tryz.f171 .auto _ h
def nR:Ann:=(.q2 (.seq (.q2 (.one [(2,eL6),(11,eI6)] .auto) none) (.seq (.q2 (.one [(3,eL6),(28,eI6)] .auto) none) .auto none) none) none)
def Mf(p0:HT [.slice,.slice])(K:Value→PT):PT:=
  L.new [Sv6 p0.1,Sv6 p0.2.1] zl λb1=>L.load eL6 (Ad6 b1 0) λ(x2:Sl)=>L.loop (Y:=Sl×Int×Unit) (⟨none,0,0⟩,0,()) λy3 again4=>L.ite (decide (y3.2.1<((x2.len:Nat):Int))) (L.idx x2.a y3.2.1 x2.len 2 λa5=>L.load (.agg [.str,.int .i64]) a5 λ(x6:B0×Int×Unit)=>L.new [.string s_,I 0] Zb λb7=>L.store (⟨b7,0,none⟩) [.string x6.1,I x6.2.1]<|L.draw<|L.load eS6 (Ad6 b7 0) λ(x8:B0)=>L.load eI6 (Ad6 b7 1) λ(x9:Int)=>L.call Pr xM [I x9] rS λ(x10:B0)=>L.chk (Ad6 b7 0) [.string x8]<|L.new [.string x8,.string x10] Jg λb11=>L.sem Pr (.one (.one .slice)) (Builtin.append_ #[JF,JF] JF #[Sv6 y3.1,.slice (some ⟨b11,0,none⟩) 1 1]) λ(s12:Sl)=>again4 (⟨s12.a,s12.len,s12.cap⟩,Wi (y3.2.1+1),()))<|L.load eL6 (Ad6 b1 1) λ(x13:Sl)=>L.loop (Y:=Sl×Int×Unit) (⟨none,0,0⟩,0,()) λy14 again15=>L.ite (decide (y14.2.1<((x13.len:Nat):Int))) (L.idx x13.a y14.2.1 x13.len 2 λa16=>L.load (.agg [.str,.str]) a16 λ(x17:B0×B0×Unit)=>L.new [.string s_,.string s_] Jl λb18=>L.store (⟨b18,0,none⟩) [.string x17.1,.string x17.2.1]<|L.load eS6 (Ad6 b18 0) λ(x19:B0)=>L.load eS6 (Ad6 b18 1) λ(x20:B0)=>L.new [.string x19,.string x20] Jg λb21=>L.sem Pr (.one (.one .slice)) (Builtin.append_ #[JF,JF] JF #[Sv6 y14.1,.slice (some ⟨b21,0,none⟩) 1 1]) λ(s22:Sl)=>again15 (⟨s22.a,s22.len,s22.cap⟩,Wi (y14.2.1+1),()))<|K (.tuple #[Sv6 y3.1,Sv6 y14.1])
def ny(p0:HT [.slice,.slice])(h:Mf p0 K w):CV oL [.ag [.slice p0.1.a p0.1.len p0.1.cap,.slice p0.2.1.a p0.2.1.len p0.2.1.cap]] K w:=zy Tryz.f172 nR _ h
def uB:Ann:=(.q2 (.q2 (.seq (.q2 (.one [(13,eI6)] .auto) none) .auto none) none) none)
def JH(p0 p1:Sl)(K:Value→PT):PT:=
  L.ite (((p0.len:Nat):Int) != ((p1.len:Nat):Int)) (K (.bool false))<|L.loop (Y:=Int×Unit) (0,()) λy1 again2=>L.ite (decide (y1.1<((p0.len:Nat):Int))) (L.draw<|L.idx p0.a y1.1 p0.len 2 λa3=>L.load (.agg [.str,.int .i64]) a3 λ(x4:B0×Int×Unit)=>L.idx p1.a y1.1 p1.len 2 λa5=>L.load (.agg [.str,.int .i64]) a5 λ(x6:B0×Int×Unit)=>L.chkSem Pr (do eqGuard .neq Zb (.tmp 0) (.tmp 0) (.agg #[.string x4.1,I x4.2.1]) (.agg #[.string x6.1,I x6.2.1]);binOp .neq Zb (.agg #[.string x4.1,I x4.2.1]) (.agg #[.string x6.1,I x6.2.1])) (.bool (!((x4.1 == x6.1)&&((x4.2.1 == x6.2.1)&&true))))<|L.ite (!((x4.1 == x6.1)&&((x4.2.1 == x6.2.1)&&true))) (K (.bool false))<|again2 (Wi (y1.1+1),()))<|K (.bool true)
def uw(p0 p1:Sl)(h:JH p0 p1 K w):CV yz [.v (.slice p0.a p0.len p0.cap),.v (.slice p1.a p1.len p1.cap)] K w:=zy Tryz.f173 uB _ h
def nX:Ann:=(.q2 (.seq (.q2 .auto (some [(18,eB6)])) (.q2 (.q2 (.q2 (.seq (.q2 (.one [(11,eI6),(42,eI6)] (.q2 (.q2 (.q2 .auto (some [(11,eI6)])) none) none)) none) (.q2 (.seq (.q2 (.one [(11,eI6),(14,eL6),(77,eI6)] (.q2 (.q2 (.seq (.q2 (.q2 (.q2 .auto (some [(11,eI6)])) none) none) .auto (some [(11,eI6),(14,eL6)])) none) none)) none) .auto none) none) none) none) none) none) none) none)
def Mn(p0 p1:Sl)(p2 p3:Int)(K:Value→PT):PT:=
  L.join (Y:=Bool×Unit) (λk1=>L.ite (decide (p3≤0)) (k1 (true,()))<|k1 (decide (p2≥p3),())) λz2=>L.ite z2.1 (L.call Pr Zl [Sv6 p1] rL λ(x3:Sl)=>K (.slice x3.a x3.len x3.cap))<|L.ite (decide (p2≤0)) (L.call Pr Zl [Sv6 p0] rL λ(x4:Sl)=>K (.slice x4.a x4.len x4.cap))<|L.new [Sv6 p0,Sv6 p1] Zh λb5=>L.call Pr jo [.func (.func gE) #[] #[],.slice (some ⟨b5,0,none⟩) 2 2] rL λ(x6:Sl)=>L.sem Pr (.one (.one .slice)) (Instr.makeSlice ZS (I ((x6.len:Nat):Int)) (I ((x6.len:Nat):Int))) λ(s7:Sl)=>L.loop (Y:=Int×Int×Unit) (0,0,()) λy8 again9=>L.ite (decide (y8.2.1<((x6.len:Nat):Int))) (L.join (Y:=Int×Unit) (λk10=>L.draw<|L.idx x6.a y8.2.1 x6.len 1 λa12=>L.load eS6 a12 λ(x13:B0)=>L.idx x6.a y8.2.1 x6.len 1 λa14=>L.load eS6 a14 λ(x15:B0)=>L.call Pr XJ [Sv6 p1,.string x13] rI λ(x16:Int)=>L.chk a14 [.string x15]<|L.call Pr XJ [Sv6 p0,.string x15] rI λ(x17:Int)=>L.ite (decide ((Wi (x16-x17))>0)) (L.guard (p3≠(0:Int))<|L.idx s7.a y8.2.1 s7.len 1 λa18=>L.store a18 [I (Wi (Int.tdiv (Wi ((Wi (x16-x17))*p2)) p3))]<|L.idx s7.a y8.2.1 s7.len 1 λa19=>L.load eI6 a19 λ(x20:Int)=>k10 (Wi (y8.1+x20),()))<|k10 (y8.1,())) λz11=>again9 (z11.1,Wi (y8.2.1+1),()))<|L.loop (Y:=Int×Sl×Int×Unit) (y8.1,⟨none,0,0⟩,0,()) λy21 again22=>L.ite (decide (y21.2.2.1<((x6.len:Nat):Int))) (L.join (Y:=Int×Sl×Unit) (λk23=>L.idx x6.a y21.2.2.1 x6.len 1 λa25=>L.load eS6 a25 λ(x26:B0)=>L.call Pr XJ [Sv6 p0,.string x26] rI λ(x27:Int)=>L.join (Y:=Int×Unit) (λk28=>L.idx x6.a y21.2.2.1 x6.len 1 λa30=>L.load eS6 a30 λ(x31:B0)=>L.call Pr XJ [Sv6 p1,.string x31] rI λ(x32:Int)=>L.ite (decide ((Wi (x27-x32))>0)) (L.idx s7.a y21.2.2.1 s7.len 1 λa33=>L.store a33 [I (Wi (0-(if y21.1<(Wi (x27-x32))then y21.1 else(Wi (x27-x32)))))]<|L.idx s7.a y21.2.2.1 s7.len 1 λa34=>L.load eI6 a34 λ(x35:Int)=>k28 (Wi (y21.1+x35),()))<|k28 (y21.1,())) λz29=>L.idx s7.a y21.2.2.1 s7.len 1 λa36=>L.load eI6 a36 λ(x37:Int)=>L.ite (decide ((Wi (x27+x37))>0)) (L.idx x6.a y21.2.2.1 x6.len 1 λa38=>L.load eS6 a38 λ(x39:B0)=>L.new [.string x39,I (Wi (x27+x37))] Zb λb40=>L.sem Pr (.one (.one .slice)) (Builtin.append_ #[Zh,Zh] Zh #[Sv6 y21.2.1,.slice (some ⟨b40,0,none⟩) 1 1]) λ(s41:Sl)=>k23 (z29.1,⟨s41.a,s41.len,s41.cap⟩,()))<|k23 (z29.1,⟨y21.2.1.a,y21.2.1.len,y21.2.1.cap⟩,())) λz24=>again22 (z24.1,⟨z24.2.1.a,z24.2.1.len,z24.2.1.cap⟩,Wi (y21.2.2.1+1),()))<|L.call Pr Zl [Sv6 y21.2.1] rL λ(x42:Sl)=>K (.slice x42.a x42.len x42.cap)
def nG(p0 p1:Sl)(p2 p3:Int)(h:Mn p0 p1 p2 p3 K w):CV oP [.v (.slice p0.a p0.len p0.cap),.v (.slice p1.a p1.len p1.cap),.v (.int .i64 p2),.v (.int .i64 p3)] K w:=zy Tryz.f174 nX _ h
def vZ(p0:Option Addr)(p1:B0)(K:Value→PT):PT:=
  L.nonnil p0 λa1=>L.load eP6 (a1.add 3) λ(x2:Option Addr)=>L.call Pr uo [.pointer x2,.string p1] rL λ(x3:Sl)=>K (.slice x3.a x3.len x3.cap)
def Fx(p0:Option Addr)(p1:B0)(h:vZ p0 p1 K w):CV vQ [.v (.pointer p0),.v (.string p1)] K w:=zy Tryz.f175 .auto _ h
def UO(p0:Option Addr)(K:Value→PT):PT:=
  L.new [.pointer p0] uu λb1=>K (.func (.func YH) #[] #[.pointer (some (⟨b1,0,none⟩))])
def GO(p0:Option Addr)(h:UO p0 K w):CV XR [.v (.pointer p0)] K w:=zy Tryz.f176 .auto _ h
def ta(p0 p1 p2:Int)(K:Value→PT):PT:=
  L.ite (decide (p1≤0)) (K (I 0))<|L.ite (decide (p2≤0)) (K (I 0))<|L.guard ((Wi (p1*p2))≠(0:Int))<|K (I (Wi (Int.tdiv (Wi ((Wi (p0+(Wi (p1*p2))))-1)) (Wi (p1*p2)))))
def WC(p0 p1 p2:Int)(h:ta p0 p1 p2 K w):CV Xi [.v (.int .i64 p0),.v (.int .i64 p1),.v (.int .i64 p2)] K w:=zy Tryz.f177 .auto _ h
def UN(p0:HT [.int .i64,.int .i64])(p1 p2:Int)(K:Value→PT):PT:=
  L.new [I p0.1,I p0.2.1] ZQ λb1=>L.ite (decide (p1≥(Wi (2*p2)))) (K (I 6))<|L.load eI6 (Ad6 b1 1) λ(x2:Int)=>K (I (if 0>(Wi (x2-1))then 0 else(Wi (x2-1))))
def GN(p0:HT [.int .i64,.int .i64])(p1 p2:Int)(h:UN p0 p1 p2 K w):CV JO [.ag [.int .i64 p0.1,.int .i64 p0.2.1],.v (.int .i64 p1),.v (.int .i64 p2)] K w:=zy Tryz.f178 .auto _ h
def Kv(p0 p1:HT [.int .i64,.int .i64])(K:Value→PT):PT:=
  L.new [I p0.1,I p0.2.1] ZQ λb1=>L.new [I p1.1,I p1.2.1] oz λb2=>L.load eI6 (Ad6 b1 0) λ(x3:Int)=>L.idx (some (⟨b2,0,none⟩)) 0 2 1 λa4=>L.load eI6 a4 λ(x5:Int)=>L.idx (some (⟨b2,0,none⟩)) 1 2 1 λa6=>L.load eI6 a6 λ(x7:Int)=>K (I (if x7>(if x5>x3 then x5 else x3)then x7 else(if x5>x3 then x5 else x3)))
def pp(p0 p1:HT [.int .i64,.int .i64])(h:Kv p0 p1 K w):CV uf [.ag [.int .i64 p0.1,.int .i64 p0.2.1],.ag [.int .i64 p1.1,.int .i64 p1.2.1]] K w:=zy Tryz.f179 .auto _ h
def fZ(p0:ht0)(p1 p2:Int)(K:Value→PT):PT:=
  L.new [.string p0.1,I p0.2.1,I p0.2.2.1,I p0.2.2.2.1,I p0.2.2.2.2.1,I p0.2.2.2.2.2.1] zF λb1=>L.new [I 0,I 0,I 0,I 0] Bz λb2=>L.guard (2≠(0:Int))<|L.load eI6 (Ad6 b1 3) λ(x3:Int)=>L.load eI6 (Ad6 b1 4) λ(x4:Int)=>L.store (⟨b2,0,none⟩) [I (Wi (4*p2)),I (Wi (Int.tdiv p1 2)),I x3,I x4]<|L.load (.agg [.int .i64,.int .i64,.int .i64,.int .i64]) (⟨b2,0,none⟩) λ(x5:Int×Int×Int×Int×Unit)=>K (.agg #[I x5.1,I x5.2.1,I x5.2.2.1,I x5.2.2.2.1])
def DL(p0:ht0)(p1 p2:Int)(h:fZ p0 p1 p2 K w):CV kV [.ag (qc0 p0),.v (.int .i64 p1),.v (.int .i64 p2)] K w:=zy Tryz.f180 .auto _ h
def TX:Ann:=(.q2 (.q2 (.seq (.q2 (.q2 .auto (some [(11,eI6),(12,eP6)])) none) .auto none) none) none)
def OI(p0:Option Addr)(p1:B0)(K:Value→PT):PT:=
  L.new [I 0] zp λb1=>L.store (⟨b1,0,none⟩) [I 0]<|L.call Pr Jp [.pointer p0,.string p1] (.one (.one (.func))) λ(x2:FV)=>L.range Pr none (.func x2.fn x2.fs x2.cs) [eI6,eP6] (λl3(y4:Int×Option Addr×Unit) R5=>L.begin Pr l3<|L.call Pr yA [.pointer y4.2.1] rI λ(x8:Int)=>L.ite (x8 != 3) (L.load eI6 (⟨b1,0,none⟩) λ(x9:Int)=>L.store (⟨b1,0,none⟩) [I (Wi (x9+1))]<|L.endRound Pr l3 none R5)<|L.endRound Pr l3 none R5) λd6 j7=>L.jump j7 (L.load eI6 (⟨b1,0,none⟩) λ(x10:Int)=>L.unmark Pr (d6++[])<|K (I x10)) (L.unmark Pr (d6++[])<|K (I 0)) []
def TH(p0:Option Addr)(p1:B0)(h:OI p0 p1 K w):CV vj [.v (.pointer p0),.v (.string p1)] K w:=zy Tryz.f181 TX _ h
def wp(p0:Int)(K:Value→PT):PT:=
  L.sem Pr (.one (.one .map)) (Instr.makeMap yU none) λ(m1:Option Nat)=>L.new [I 1,.map m1,I p0] kM λb2=>K (.pointer (some (⟨b2,0,none⟩)))
def Au(p0:Int)(h:wp p0 K w):CV tT [.v (.int .i64 p0)] K w:=zy Tryz.f182 .auto _ h
def mP:Ann:=(.q2 (.q2 (.seq (.q2 (.q2 (.q2 (.q2 (.cond .auto .auto) none) none) (some [(13,eI6),(14,eP6)])) none) .auto none) none) none)
def VM(p0:Option Addr)(p1:B0)(K:Value→PT):PT:=
  L.new [I 0] zp λb1=>L.new [I 0] zp λb2=>L.new [I 0] zp λb3=>L.store (⟨b1,0,none⟩) [I 0]<|L.store (⟨b2,0,none⟩) [I 3]<|L.store (⟨b3,0,none⟩) [I 0]<|L.call Pr Jp [.pointer p0,.string p1] (.one (.one (.func))) λ(x4:FV)=>L.range Pr none (.func x4.fn x4.fs x4.cs) [eI6,eP6] (λl5(y6:Int×Option Addr×Unit) R7=>L.begin Pr l5<|L.call Pr yA [.pointer y6.2.1] rI λ(x10:Int)=>L.ite (x10 == 3) (L.endRound Pr l5 none R7)<|L.draw<|L.load eI6 (⟨b2,0,none⟩) λ(x11:Int)=>L.call Pr yA [.pointer y6.2.1] rI λ(x12:Int)=>L.chk (⟨b2,0,none⟩) [I x11]<|L.ite (decide (x12<x11)) (L.call Pr yA [.pointer y6.2.1] rI λ(x13:Int)=>L.call Pr YS [.pointer y6.2.1] rI λ(x14:Int)=>L.store (⟨b1,0,none⟩) [I y6.1]<|L.store (⟨b2,0,none⟩) [I x13]<|L.store (⟨b3,0,none⟩) [I x14]<|L.endRound Pr l5 none R7)<|L.load eI6 (⟨b2,0,none⟩) λ(x15:Int)=>L.call Pr yA [.pointer y6.2.1] rI λ(x16:Int)=>L.chk (⟨b2,0,none⟩) [I x15]<|L.ite (x16 == x15) (L.load eI6 (⟨b3,0,none⟩) λ(x17:Int)=>L.call Pr YS [.pointer y6.2.1] rI λ(x18:Int)=>L.chk (⟨b3,0,none⟩) [I x17]<|L.ite (decide (x18≤x17)) (L.call Pr yA [.pointer y6.2.1] rI λ(x19:Int)=>L.call Pr YS [.pointer y6.2.1] rI λ(x20:Int)=>L.store (⟨b1,0,none⟩) [I y6.1]<|L.store (⟨b2,0,none⟩) [I x19]<|L.store (⟨b3,0,none⟩) [I x20]<|L.endRound Pr l5 none R7)<|L.endRound Pr l5 none R7)<|L.endRound Pr l5 none R7) λd8 j9=>L.jump j9 (L.load eI6 (⟨b1,0,none⟩) λ(x21:Int)=>L.unmark Pr (d8++[])<|K (I x21)) (L.unmark Pr (d8++[])<|K (I 0)) []
def mH(p0:Option Addr)(p1:B0)(h:VM p0 p1 K w):CV QB [.v (.pointer p0),.v (.string p1)] K w:=zy Tryz.f183 mP _ h
def Co:Ann:=(.q2 (.seq (.q2 (.cond .auto .auto) none) .auto (some [])) none)
def Gt(p0:Option Addr)(K:Value→PT):PT:=
  L.join (Y:=Unit) (λk1=>L.nonnil p0 λa3=>L.load eI6 (a3.add 0) λ(x4:Int)=>L.ite (x4 != 1) (L.nonnil p0 λa5=>L.load eI6 (a5.add 0) λ(x6:Int)=>L.ite (x6 != 2) (K (I 9))<|k1 (()))<|k1 (())) λz2=>L.nonnil p0 λa7=>L.store (a7.add 0) [I 3]<|L.call Pr vF [.pointer p0] (.tup []) λ(x8:Unit)=>K (I 0)
def Cj(p0:Option Addr)(h:Gt p0 K w):CV Vm [.v (.pointer p0)] K w:=zy Tryz.f184 Co _ h
def VF(p0:Option Addr)(K:Value→PT):PT:=
  L.new [.pointer p0] xV λb1=>K (.func (.func jg) #[] #[.pointer (some (⟨b1,0,none⟩))])
def mz(p0:Option Addr)(h:VF p0 K w):CV YX [.v (.pointer p0)] K w:=zy Tryz.f187 .auto _ h
def kB:Ann:=(.q2 (.one [(7,eI6)] .auto) none)
def qg(p0:FV)(c0:Addr)(K:Value→PT):PT:=
  L.load eL6 c0 λ(x1:Sl)=>L.loop (Y:=Int×Unit) (0,()) λy2 again3=>L.ite (decide (y2.1<((x1.len:Nat):Int))) (L.idx x1.a y2.1 x1.len 1 λa4=>L.load eL6 a4 λ(x5:Sl)=>L.callV Pr (.func p0.fn p0.fs p0.cs) [Sv6 x5] rB λ(x6:Bool)=>L.ite (!x6) (K (.tuple #[]))<|again3 (Wi (y2.1+1),()))<|K (.tuple #[])
def ku(p0:FV)(c0:Addr)(h:qg p0 c0 K w):CV yb [.v (.func p0.fn p0.fs p0.cs),.v (.pointer (some c0))] K w:=zy Tryz.f195 kB _ h
def ko:ZO Pr yb:=zK (by kernel_rfl)
def Fi(p0:Sl)(K:Value→PT):PT:=
  L.new [Sv6 p0] yO λb1=>K (.func (.func xS) #[] #[.pointer (some (⟨b1,0,none⟩))])
def DU(p0:Sl)(h:Fi p0 K w):CV kX [.v (.slice p0.a p0.len p0.cap)] K w:=zy Tryz.f196 .auto _ h
def QK(p0:Sl)(K:Value→PT):PT:=
  L.ite ((p0.a).isNone) (K (.slice none 0 0))<|L.new [] yO λb1=>L.sem Pr (.one (.one .slice)) (Builtin.append_ #[Zg,Zg] Zg #[.slice (some ⟨b1,0,none⟩) 0 0,Sv6 p0]) λ(s2:Sl)=>K (.slice s2.a s2.len s2.cap)
def oX(p0:Sl)(h:QK p0 K w):CV xk [.v (.slice p0.a p0.len p0.cap)] K w:=zy Tryz.f197 .auto _ h
def GW:Ann:=(.q2 (.q2 (.seq (.q2 (.one [(5,eI6),(12,eI6)] .auto) none) .auto none) none) none)
def UP(p0:Option Addr)(p1:Int)(K:Value→PT):PT:=
  L.call Pr xG [.pointer p0,I p1] rL λ(x1:Sl)=>L.loop (Y:=Int×Int×Unit) (0,0,()) λy2 again3=>L.ite (decide (y2.2.1<((x1.len:Nat):Int))) (L.idx x1.a y2.2.1 x1.len 1 λa4=>L.load (.one (.int .u8)) a4 λ(x5:Int)=>L.guard ((0:Int)≤8)<|again3 (Wi (((BitVec.ofInt 64 (Wi (y2.1*2 ^ (min (Int.toNat 8) 64)))) ||| (BitVec.ofInt 64 (Wi x5))).toNat:Int),Wi (y2.2.1+1),()))<|K (I y2.1)
def GP(p0:Option Addr)(p1:Int)(h:UP p0 p1 K w):CV ZH [.v (.pointer p0),.v (.int .i64 p1)] K w:=zy Tryz.f198 GW _ h
def VO(p0:Option Addr)(K:Value→PT):PT:=
  L.call Pr ZH [.pointer p0,I 1] rI λ(x1:Int)=>L.call Pr xG [.pointer p0,I x1] rL λ(x2:Sl)=>L.sem Pr rS (convert yO zc (.slice x2.a x2.len x2.cap)) λ(x3:B0)=>K (.string x3)
def mJ(p0:Option Addr)(h:VO p0 K w):CV yd [.v (.pointer p0)] K w:=zy Tryz.f199 .auto _ h
def GX:Ann:=(.q2 (.q2 (.seq (.q2 (.one [(16,eI6)] .auto) none) .auto none) none) none)
def UQ(p0:Option Addr)(K:Value→PT):PT:=
  L.new [.string s_,I 0,I 0,I 0,I 0,I 0] zF λb1=>L.call Pr yd [.pointer p0] rS λ(x2:B0)=>L.new [.string s_,I 0,I 0,I 0,I 0,I 0] zF λb3=>L.store (⟨b3,0,none⟩) [.string x2,I 0,I 0,I 0,I 0,I 0]<|L.new [.pointer (some (Ad6 b3 1)),.pointer (some (Ad6 b3 2)),.pointer (some (Ad6 b3 3)),.pointer (some (Ad6 b3 4)),.pointer (some (Ad6 b3 5))] By λb4=>L.loop (Y:=Int×Unit) (0,()) λy5 again6=>L.ite (decide (y5.1<((5:Nat):Int))) (L.idx (some ⟨b4,0,none⟩) y5.1 5 1 λa7=>L.load eP6 a7 λ(x8:Option Addr)=>L.call Pr ZH [.pointer p0,I 1] rI λ(x9:Int)=>L.nonnil x8 λa10=>L.store a10 [I x9]<|again6 (Wi (y5.1+1),()))<|L.load (.agg lf0) (⟨b3,0,none⟩) λ(x11:pt0)=>L.store (⟨b1,0,none⟩) [.string x11.1,I x11.2.1,I x11.2.2.1,I x11.2.2.2.1,I x11.2.2.2.2.1,I x11.2.2.2.2.2.1]<|L.load (.agg lf0) (⟨b1,0,none⟩) λ(x12:pt0)=>K ((qa0 x12))
def GQ(p0:Option Addr)(h:UQ p0 K w):CV XS [.v (.pointer p0)] K w:=zy Tryz.f200 GX _ h
def FL:Ann:=(.q2 (.q2 (.seq (.q2 (.one [(14,eI6)] .auto) none) .auto (some [])) none) none)
def Ve(p0:Option Addr)(K:Value→PT):PT:=
  L.new [.string s_,.string s_,.slice none 0 0,I 0] zG λb1=>L.call Pr yd [.pointer p0] rS λ(x2:B0)=>L.call Pr yd [.pointer p0] rS λ(x3:B0)=>L.call Pr ZH [.pointer p0,I 1] rI λ(x4:Int)=>L.new [.string s_,.string s_,.slice none 0 0,I 0] zG λb5=>L.store (⟨b5,0,none⟩) [.string x2,.string x3,.slice none 0 0,I x4]<|L.join (Y:=Unit) (λk6=>L.call Pr ZH [.pointer p0,I 1] rI λ(x8:Int)=>L.loop (Y:=Int×Unit) (0,()) λy9 again10=>L.ite (decide (y9.1<x8)) (L.call Pr yd [.pointer p0] rS λ(x11:B0)=>L.call Pr yd [.pointer p0] rS λ(x12:B0)=>L.call Pr ZH [.pointer p0,I 1] rI λ(x13:Int)=>L.new [.string s_,.string s_,I 0] zu λb14=>L.store (⟨b14,0,none⟩) [.string x11,.string x12,I x13]<|L.nonnil p0 λa15=>L.load eB6 (a15.add 1) λ(x16:Bool)=>L.ite x16 (k6 (()))<|L.load eL6 (Ad6 b5 2) λ(x17:Sl)=>L.load (.agg [.str,.str,.int .i64]) (⟨b14,0,none⟩) λ(x18:pt9)=>L.new [.string x18.1,.string x18.2.1,I x18.2.2.1] zu λb19=>L.sem Pr (.one (.one .slice)) (Builtin.append_ #[JG,JG] JG #[Sv6 x17,.slice (some ⟨b19,0,none⟩) 1 1]) λ(s20:Sl)=>L.store (Ad6 b5 2) [Sv6 s20]<|again10 (Wi (y9.1+1),()))<|k6 (())) λz7=>L.load (.agg [.str,.str,.slice,.int .i64]) (⟨b5,0,none⟩) λ(x21:pt3)=>L.store (⟨b1,0,none⟩) [.string x21.1,.string x21.2.1,Sv6 x21.2.2.1,I x21.2.2.2.1]<|L.load (.agg [.str,.str,.slice,.int .i64]) (⟨b1,0,none⟩) λ(x22:pt3)=>K (.agg #[.string x22.1,.string x22.2.1,Sv6 x22.2.2.1,I x22.2.2.2.1])
def FD(p0:Option Addr)(h:Ve p0 K w):CV qz [.v (.pointer p0)] K w:=zy Tryz.f201 FL _ h
def tc(p0:Int)(K:Value→PT):PT:=
  L.call Pr Ur [.int .i32 p0] rB λ(x1:Bool)=>L.ite x1 (K (.bool true))<|L.ite (decide (p0≥48)) (L.ite (decide (p0≤57)) (K (.bool true))<|K (.bool (p0 == 45)))<|K (.bool (p0 == 45))
def WE(p0:Int)(h:tc p0 K w):CV gG [.v (.int .i32 p0)] K w:=zy Tryz.f204 .auto _ h
def Ff(p0:Int)(K:Value→PT):PT:=
  L.ite (decide (p0≥97)) (K (.bool (decide (p0≤122))))<|K (.bool false)
def DS(p0:Int)(h:Ff p0 K w):CV Ur [.v (.int .i32 p0)] K w:=zy Tryz.f205 .auto _ h
def YM(p0:Sl)(p1:FV)(K:Value→PT):PT:=
  L.call Pr jh [Sv6 p0,.func p1.fn p1.fs p1.cs] rI λ(x1:Int)=>K (.bool (decide (x1≥0)))
def xZ(p0:Sl)(p1:FV)(h:YM p0 p1 K w):CV ym [.v (.slice p0.a p0.len p0.cap),.v (.func p1.fn p1.fs p1.cs)] K w:=zy Tryz.f206 .auto _ h
def PY(p0:HT [.str,.str,.int .i64])(c0:Addr)(K:Value→PT):PT:=
  L.new [.string p0.1,.string p0.2.1,I p0.2.2.1] zu λb1=>L.load eS6 (Ad6 b1 1) λ(x2:B0)=>L.load eS6 (c0.add 1) λ(x3:B0)=>K (.bool (x2.toList == x3.toList))
def WA(p0:HT [.str,.str,.int .i64])(c0:Addr)(h:PY p0 c0 K w):CV Qc [.ag [.string p0.1,.string p0.2.1,.int .i64 p0.2.2.1],.v (.pointer (some c0))] K w:=zy Tryz.f207 .auto _ h
def Wt:ZO Pr Qc:=zK (by kernel_rfl)
def jU(p0:Sl)(K:Value→PT):PT:=
  L.ite ((p0.a).isNone) (K (.slice none 0 0))<|L.new [] zu λb1=>L.sem Pr (.one (.one .slice)) (Builtin.append_ #[JG,JG] JG #[.slice (some ⟨b1,0,none⟩) 0 0,Sv6 p0]) λ(s2:Sl)=>K (.slice s2.a s2.len s2.cap)
def QG(p0:Sl)(h:jU p0 K w):CV Yg [.v (.slice p0.a p0.len p0.cap)] K w:=zy Tryz.f211 .auto _ h
def XF(p0:Option Addr)(p1:B0)(K:Value→PT):PT:=
  L.draw<|L.nonnil p0 λa1=>L.load (.one (.map)) (a1.add 0) λ(x2:Option Nat)=>L.nonnil p0 λa3=>L.load (.one (.map)) (a3.add 0) λ(x4:Option Nat)=>L.semR Pr (.one (.agg wP)) (Instr.lookup zR (.map x4) (.string p1) false) λ(x5:Rf)=>L.semU Pr (Instr.mapUpdate zR (.map x2) (.string p1) (.agg #[.string s_,I 0,I 0,I 0,I 0,I 0,I 0,I x5.2.2.2.2.2.2.2.1,.bool false]))<|K (.tuple #[])
def Vs(p0:Option Addr)(p1:B0)(h:XF p0 p1 K w):CV jO [.v (.pointer p0),.v (.string p1)] K w:=zy Tryz.f212 .auto _ h
def qh(p0:Option Addr)(p1:B0)(K:Value→PT):PT:=
  L.draw<|L.nonnil p0 λa1=>L.load (.one (.map)) (a1.add 0) λ(x2:Option Nat)=>L.nonnil p0 λa3=>L.load (.one (.map)) (a3.add 0) λ(x4:Option Nat)=>L.semR Pr (.one (.agg wO)) (Instr.lookup zT (.map x4) (.string p1) false) λ(x5:Re)=>L.semU Pr (Instr.mapUpdate zT (.map x2) (.string p1) (.agg #[.string s_,.string s_,.slice none 0 0,I 0,I 0,I x5.2.2.2.2.2.1,.bool false]))<|K (.tuple #[])
def kw(p0:Option Addr)(p1:B0)(h:qh p0 p1 K w):CV Ja [.v (.pointer p0),.v (.string p1)] K w:=zy Tryz.f213 .auto _ h
def VL(p0:Option Addr)(p1:B0)(K:Value→PT):PT:=
  L.new [.slice none 0 0,.slice none 0 0] zl λb1=>L.nonnil p0 λa2=>L.load (.one (.map)) (a2.add 0) λ(x3:Option Nat)=>L.semR Pr (.tup [(.agg Hh),.one .bool]) (Instr.lookup yI (.map x3) (.string p1) true) λ(x4:z1Y)=>L.new [.slice none 0 0,.slice none 0 0,I 0,I 0,.slice none 0 0,.slice none 0 0] Yh λb5=>L.store (⟨b5,0,none⟩) [Sv6 x4.1.1,Sv6 x4.1.2.1,I x4.1.2.2.1,I x4.1.2.2.2.1,Sv6 x4.1.2.2.2.2.1,Sv6 x4.1.2.2.2.2.2.1]<|L.ite (!x4.2.1) (L.store (⟨b1,0,none⟩) [.slice none 0 0,.slice none 0 0]<|L.load (.agg [.slice,.slice]) (⟨b1,0,none⟩) λ(x6:Sl×Sl×Unit)=>K (.tuple #[.agg #[Sv6 x6.1,Sv6 x6.2.1],.bool false]))<|L.load (.agg [.slice,.slice]) (Ad6 b5 4) λ(x7:Sl×Sl×Unit)=>L.call Pr YA [.agg #[Sv6 x7.1,Sv6 x7.2.1]] (.one (.agg [.slice,.slice])) λ(x8:Sl×Sl×Unit)=>L.store (⟨b1,0,none⟩) [Sv6 x8.1,Sv6 x8.2.1]<|L.load (.agg [.slice,.slice]) (⟨b1,0,none⟩) λ(x9:Sl×Sl×Unit)=>K (.tuple #[.agg #[Sv6 x9.1,Sv6 x9.2.1],.bool true])
def mG(p0:Option Addr)(p1:B0)(h:VL p0 p1 K w):CV QA [.v (.pointer p0),.v (.string p1)] K w:=zy Tryz.f214 .auto _ h
def pR:Ann:=(.q2 (.q2 (.q2 (.seq (.q2 (.q2 .auto (some [(28,eI6),(29,eP6)])) none) (.q2 (.seq (.q2 (.one [(41,eI6)] .auto) none) .auto none) none) none) none) none) none)
def KG(p0:Option Addr)(p1:B0)(p2:Int)(K:Value→PT):PT:=
  L.nonnil p0 λa1=>L.load (.one (.map)) (a1.add 1) λ(x2:Option Nat)=>L.semR Pr (.tup [eI6,.one .bool]) (Instr.lookup xq (.map x2) (I p2) true) λ(x3:Int×Bool×Unit)=>L.ite x3.2.1 (K (.tuple #[I 0,.bool false]))<|L.new [.slice none 0 0] ZY λb4=>L.call Pr Jp [.pointer p0,.string p1] (.one (.one (.func))) λ(x5:FV)=>L.range Pr none (.func x5.fn x5.fs x5.cs) [eI6,eP6] (λl6(y7:Int×Option Addr×Unit) R8=>L.begin Pr l6<|L.draw<|L.load eL6 (⟨b4,0,none⟩) λ(x11:Sl)=>L.call Pr YS [.pointer y7.2.1] rI λ(x12:Int)=>L.chk (⟨b4,0,none⟩) [Sv6 x11]<|L.new [I x12,I y7.1] zr λb13=>L.chk (⟨b4,0,none⟩) [Sv6 x11]<|L.sem Pr (.one (.one .slice)) (Builtin.append_ #[ZY,ZY] ZY #[Sv6 x11,.slice (some ⟨b13,0,none⟩) 1 1]) λ(s14:Sl)=>L.store (⟨b4,0,none⟩) [Sv6 s14]<|L.endRound Pr l6 none R8) λd9 j10=>L.jump j10 (L.load eL6 (⟨b4,0,none⟩) λ(x15:Sl)=>L.call Pr Zw [Sv6 x15,.func (.func Zf) #[] #[]] (.tup []) λ(x16:Unit)=>L.load eL6 (⟨b4,0,none⟩) λ(x17:Sl)=>L.loop (Y:=Int×Unit) (0,()) λy18 again19=>L.ite (decide (y18.1<((x17.len:Nat):Int))) (L.idx x17.a y18.1 x17.len 2 λa20=>L.load (.agg [.int .i64,.int .i64]) a20 λ(x21:Int×Int×Unit)=>L.new [I 0,I 0] zr λb22=>L.store (⟨b22,0,none⟩) [I x21.1,I x21.2.1]<|L.draw<|L.nonnil p0 λa23=>L.load (.one (.map)) (a23.add 0) λ(x24:Option Nat)=>L.load eI6 (Ad6 b22 1) λ(x25:Int)=>L.semR Pr (.one (.agg [.str,.ptr])) (Instr.lookup Za (.map x24) (I x25) false) λ(x26:B0×Option Addr×Unit)=>L.call Pr Um [.pointer x26.2.1,I p2] rI λ(x27:Int)=>L.ite (x27 == 0) (L.draw<|L.nonnil p0 λa28=>L.load (.one (.map)) (a28.add 1) λ(x29:Option Nat)=>L.load eI6 (Ad6 b22 1) λ(x30:Int)=>L.semU Pr (Instr.mapUpdate xq (.map x29) (I p2) (I x30))<|L.load eI6 (Ad6 b22 1) λ(x31:Int)=>L.unmark Pr (d9++[])<|K (.tuple #[I x31,.bool true]))<|again19 (Wi (y18.1+1),()))<|L.unmark Pr (d9++[])<|K (.tuple #[I 0,.bool false])) (L.unmark Pr (d9++[])<|K (.tuple #[I 0,.bool false])) []
def pE(p0:Option Addr)(p1:B0)(p2:Int)(h:KG p0 p1 p2 K w):CV ul [.v (.pointer p0),.v (.string p1),.v (.int .i64 p2)] K w:=zy Tryz.f215 pR _ h
def pI:Ann:=(.q2 (.seq (.q2 (.q2 .auto (some [(8,eI6),(9,eI6)])) none) .auto none) none)
def Kq(p0:Option Addr)(p1:Int)(K:Value→PT):PT:=
  L.new [I p1] zp λb1=>L.new [.bool false] qG λb2=>L.call Pr YX [.pointer p0] (.one (.one (.func))) λ(x3:FV)=>L.range Pr none (.func x3.fn x3.fs x3.cs) [eI6,eI6] (λl4(y5:Int×Int×Unit) R6=>L.begin Pr l4<|L.load eI6 (⟨b1,0,none⟩) λ(x9:Int)=>L.ite (y5.1 == x9) (L.store (⟨b2,0,none⟩) [.bool true]<|L.endRound Pr l4 (some .ret) R6)<|L.endRound Pr l4 none R6) λd7 j8=>L.jump j8 (L.store (⟨b2,0,none⟩) [.bool false]<|L.unmark Pr (d7++[])<|L.load eB6 (⟨b2,0,none⟩) λ(x10:Bool)=>K (.bool x10)) (L.unmark Pr (d7++[])<|L.load eB6 (⟨b2,0,none⟩) λ(x11:Bool)=>K (.bool x11)) []
def ph(p0:Option Addr)(p1:Int)(h:Kq p0 p1 K w):CV ub [.v (.pointer p0),.v (.int .i64 p1)] K w:=zy Tryz.f216 pI _ h
def TQ:Ann:=(.q2 (.one [(7,eI6)] .auto) none)
def Oy(p0:FV)(c0:Addr)(K:Value→PT):PT:=
  L.load eL6 c0 λ(x1:Sl)=>L.loop (Y:=Int×Unit) (0,()) λy2 again3=>L.ite (decide (y2.1<((x1.len:Nat):Int))) (L.idx x1.a y2.1 x1.len 4 λa4=>L.load (.agg [.int .i64,.int .i64,.int .i64,.str]) a4 λ(x5:kS)=>L.new [I 0,I 0,I 0,.string s_] zz λb6=>L.store (⟨b6,0,none⟩) [I x5.1,I x5.2.1,I x5.2.2.1,.string x5.2.2.2.1]<|L.load (.agg [.int .i64,.int .i64,.int .i64,.str]) (⟨b6,0,none⟩) λ(x7:kS)=>L.call Pr oN [.agg #[I x7.1,I x7.2.1,I x7.2.2.1,.string x7.2.2.2.1]] rS λ(x8:B0)=>L.callV Pr (.func p0.fn p0.fs p0.cs) [.string x8] rB λ(x9:Bool)=>L.ite (!x9) (K (.tuple #[]))<|again3 (Wi (y2.1+1),()))<|K (.tuple #[])
def Tv(p0:FV)(c0:Addr)(h:Oy p0 c0 K w):CV xL [.v (.func p0.fn p0.fs p0.cs),.v (.pointer (some c0))] K w:=zy Tryz.f217 TQ _ h
def To:ZO Pr xL:=zK (by kernel_rfl)
def nU:Ann:=(.q2 (.q2 (.seq (.one [(2,eS6)] .auto) .auto none) none) none)
def Mi(p0:ht3)(K:Value→PT):PT:=
  L.new [I p0.1,I p0.2.1,I p0.2.2.1,.string p0.2.2.2.1] zz λb1=>L.load eI6 (Ad6 b1 1) λ(x2:Int)=>L.ite (x2 == 1) (L.load eI6 (Ad6 b1 0) λ(x3:Int)=>L.load eI6 (Ad6 b1 2) λ(x4:Int)=>L.new [I x3,I x4] zp λb5=>L.call Pr zL [.string AQ,.slice (some ⟨b5,0,none⟩) 2 2] rS λ(x6:B0)=>K (.string x6))<|L.ite (x2 == 2) (L.load eI6 (Ad6 b1 0) λ(x7:Int)=>L.new [I x7] zp λb8=>L.call Pr zL [.string bX,.slice (some ⟨b8,0,none⟩) 1 1] rS λ(x9:B0)=>K (.string x9))<|L.ite (x2 == 3) (L.load eI6 (Ad6 b1 0) λ(x10:Int)=>L.new [I x10] zp λb11=>L.call Pr zL [.string sn,.slice (some ⟨b11,0,none⟩) 1 1] rS λ(x12:B0)=>K (.string x12))<|L.join (Y:=B0×Unit) (λk13=>L.draw<|L.load eI6 (Ad6 b1 0) λ(x15:Int)=>L.load eS6 (Ad6 b1 3) λ(x16:B0)=>L.alts [(L.new [I x15] zp λb17=>L.chk (Ad6 b1 3) [.string x16]<|L.alts [(L.call Pr zL [.string uD,.slice (some ⟨b17,0,none⟩) 1 1] rS λ(x18:B0)=>L.chk (Ad6 b1 3) [.string x16]<|L.new [.string x16] zc λb19=>L.chk (Ad6 b1 0) [I x15]<|L.call Pr zD [.string x18,.slice (some ⟨b19,0,none⟩) 1 1] rS λ(x20:B0)=>k13 (x20,())),(L.new [.string x16] zc λb21=>L.chk (Ad6 b1 0) [I x15]<|L.call Pr zL [.string uD,.slice (some ⟨b17,0,none⟩) 1 1] rS λ(x22:B0)=>L.chk (Ad6 b1 3) [.string x16]<|L.call Pr zD [.string x22,.slice (some ⟨b21,0,none⟩) 1 1] rS λ(x23:B0)=>k13 (x23,()))]),(L.new [.string x16] zc λb24=>L.chk (Ad6 b1 0) [I x15]<|L.new [I x15] zp λb25=>L.chk (Ad6 b1 3) [.string x16]<|L.call Pr zL [.string uD,.slice (some ⟨b25,0,none⟩) 1 1] rS λ(x26:B0)=>L.chk (Ad6 b1 3) [.string x16]<|L.call Pr zD [.string x26,.slice (some ⟨b24,0,none⟩) 1 1] rS λ(x27:B0)=>k13 (x27,()))]) λz14=>K (.string z14.1)
def nB(p0:ht3)(h:Mi p0 K w):CV oN [.ag (qc3 p0)] K w:=zy Tryz.f218 nU _ h
def Fd(p0:Option Addr)(p1:Int)(K:Value→PT):PT:=
  L.nonnil p0 λa1=>L.call Pr Xj [.pointer (some (a1.add 1)),I p1] rI λ(x2:Int)=>L.call Pr vF [.pointer p0] (.tup []) λ(x3:Unit)=>K (I x2)
def DP(p0:Option Addr)(p1:Int)(h:Fd p0 p1 K w):CV Uo [.v (.pointer p0),.v (.int .i64 p1)] K w:=zy Tryz.f219 .auto _ h
def VJ(p0:FV)(K:Value→PT):PT:=
  L.call Pr vS [.func p0.fn p0.fs p0.cs] rL λ(x1:Sl)=>L.call Pr XQ [Sv6 x1] (.tup []) λ(x2:Unit)=>K (.slice x1.a x1.len x1.cap)
def mE(p0:FV)(h:VJ p0 K w):CV YY [.v (.func p0.fn p0.fs p0.cs)] K w:=zy Tryz.f220 .auto _ h
def JQ(p0:Option Nat)(K:Value→PT):PT:=
  L.new [.map p0] yU λb1=>K (.func (.func Zy) #[] #[.pointer (some (⟨b1,0,none⟩))])
def uW(p0:Option Nat)(h:JQ p0 K w):CV YL [.v (.map p0)] K w:=zy Tryz.f221 .auto _ h
def Kw(p0:Option Addr)(p1:Int)(K:Value→PT):PT:=
  L.nonnil p0 λa1=>L.load (.one (.map)) (a1.add 0) λ(x2:Option Nat)=>L.semR Pr rB (Instr.lookup yU (.map x2) (I p1) false) λ(x3:Bool)=>L.ite (!x3) (K (I 6))<|L.nonnil p0 λa4=>L.load (.one (.map)) (a4.add 0) λ(x5:Option Nat)=>L.sem Pr (.tup []) (Builtin.delete_ #[yU,zp] T_ #[.map x5,I p1]) λ_=>K (I 0)
def pq(p0:Option Addr)(p1:Int)(h:Kw p0 p1 K w):CV Xj [.v (.pointer p0),.v (.int .i64 p1)] K w:=zy Tryz.f222 .auto _ h
def Gs(p0:Option Addr)(K:Value→PT):PT:=
  L.nonnil p0 λa1=>L.load eI6 (a1.add 0) λ(x2:Int)=>K (I x2)
def Ci(p0:Option Addr)(h:Gs p0 K w):CV yA [.v (.pointer p0)] K w:=zy Tryz.f223 .auto _ h
def Vv:Ann:=(.q2 (.one [(12,eI6)] .auto) none)
def XH(p0:FV)(c0:Addr)(K:Value→PT):PT:=
  L.load eP6 c0 λ(x1:Option Addr)=>L.nonnil x1 λa2=>L.load (.one (.map)) (a2.add 0) λ(x3:Option Nat)=>L.call Pr ZU [.map x3] (.one (.one (.func))) λ(x4:FV)=>L.call Pr ZM [.func x4.fn x4.fs x4.cs] rL λ(x5:Sl)=>L.loop (Y:=Int×Unit) (0,()) λy6 again7=>L.ite (decide (y6.1<((x5.len:Nat):Int))) (L.idx x5.a y6.1 x5.len 1 λa8=>L.load eS6 a8 λ(x9:B0)=>L.load eP6 c0 λ(x10:Option Addr)=>L.nonnil x10 λa11=>L.load (.one (.map)) (a11.add 0) λ(x12:Option Nat)=>L.semR Pr rP (Instr.lookup Zr (.map x12) (.string x9) false) λ(x13:Option Addr)=>L.callV Pr (.func p0.fn p0.fs p0.cs) [.string x9,.pointer x13] rB λ(x14:Bool)=>L.ite (!x14) (K (.tuple #[]))<|again7 (Wi (y6.1+1),()))<|K (.tuple #[])
def Vu(p0:FV)(c0:Addr)(h:XH p0 c0 K w):CV yB [.v (.func p0.fn p0.fs p0.cs),.v (.pointer (some c0))] K w:=zy Tryz.f224 Vv _ h
def Vr:ZO Pr yB:=zK (by kernel_rfl)
def Uy(p0:FV)(K:Value→PT):PT:=
  L.call Pr uF [.func p0.fn p0.fs p0.cs] rL λ(x1:Sl)=>L.call Pr jZ [Sv6 x1] (.tup []) λ(x2:Unit)=>K (.slice x1.a x1.len x1.cap)
def gV(p0:FV)(h:Uy p0 K w):CV ZM [.v (.func p0.fn p0.fs p0.cs)] K w:=zy Tryz.f225 .auto _ h
def yW(p0:Option Nat)(K:Value→PT):PT:=
  L.new [.map p0] Zr λb1=>K (.func (.func zQ) #[] #[.pointer (some (⟨b1,0,none⟩))])
def JP(p0:Option Nat)(h:yW p0 K w):CV ZU [.v (.map p0)] K w:=zy Tryz.f226 .auto _ h
def mN:Ann:=(.q2 (.q2 (.q2 (.seq (.q2 (.q2 .auto (some [(11,eI6),(12,eI6)])) none) .auto none) none) none) none)
def VE(p0:Option Addr)(p1:Int)(K:Value→PT):PT:=
  L.new [I p1] zp λb1=>L.new [.slice none 0 0] ZS λb2=>L.new [.slice none 0 0] yk λb3=>L.call Pr YX [.pointer p0] (.one (.one (.func))) λ(x4:FV)=>L.range Pr none (.func x4.fn x4.fs x4.cs) [eI6,eI6] (λl5(y6:Int×Int×Unit) R7=>L.begin Pr l5<|L.load eI6 (⟨b1,0,none⟩) λ(x10:Int)=>L.ite (decide (y6.2.1≤x10)) (L.load eL6 (⟨b2,0,none⟩) λ(x11:Sl)=>L.new [I y6.1] zp λb12=>L.sem Pr (.one (.one .slice)) (Builtin.append_ #[ZS,ZS] ZS #[Sv6 x11,.slice (some ⟨b12,0,none⟩) 1 1]) λ(s13:Sl)=>L.store (⟨b2,0,none⟩) [Sv6 s13]<|L.endRound Pr l5 none R7)<|L.load eL6 (⟨b3,0,none⟩) λ(x14:Sl)=>L.new [I y6.1,I y6.2.1] jc λb15=>L.sem Pr (.one (.one .slice)) (Builtin.append_ #[yk,yk] yk #[Sv6 x14,.slice (some ⟨b15,0,none⟩) 1 1]) λ(s16:Sl)=>L.store (⟨b3,0,none⟩) [Sv6 s16]<|L.endRound Pr l5 none R7) λd8 j9=>L.jump j9 (L.load eL6 (⟨b3,0,none⟩) λ(x17:Sl)=>L.nonnil p0 λa18=>L.store (a18.add 0) [Sv6 x17]<|L.load eL6 (⟨b2,0,none⟩) λ(x19:Sl)=>L.call Pr ZN [Sv6 x19] rL λ(x20:Sl)=>L.unmark Pr (d8++[])<|K (.slice x20.a x20.len x20.cap)) (L.unmark Pr (d8++[])<|K (.slice none 0 0)) []
def my(p0:Option Addr)(p1:Int)(h:VE p0 p1 K w):CV Vx [.v (.pointer p0),.v (.int .i64 p1)] K w:=zy Tryz.f227 mN _ h
def xf(p0:Option Nat)(K:Value→PT):PT:=
  L.call Pr yp [.map p0] (.one (.one (.func))) λ(x1:FV)=>L.call Pr ZM [.func x1.fn x1.fs x1.cs] rL λ(x2:Sl)=>K (.slice x2.a x2.len x2.cap)
def UB(p0:Option Nat)(h:xf p0 K w):CV yJ [.v (.map p0)] K w:=zy Tryz.f228 .auto _ h
def VI(p0:Option Addr)(p1:B0)(K:Value→PT):PT:=
  L.call Pr xE [.pointer p0,.string p1,.func (.func JN) #[] #[]] rS λ(x1:B0)=>L.call Pr xE [.pointer p0,.string p1,.func (.func Ye) #[.pointer p0] #[]] rS λ(x2:B0)=>K (.tuple #[.string x1,.string x2])
def mD(p0:Option Addr)(p1:B0)(h:VI p0 p1 K w):CV Qz [.v (.pointer p0),.v (.string p1)] K w:=zy Tryz.f229 .auto _ h
def kE:Ann:=(.q2 (.one [(9,eI6)] .auto) none)
def ql(p0:FV)(c0:Addr)(K:Value→PT):PT:=
  L.load (.one (.map)) c0 λ(x1:Option Nat)=>L.call Pr Ya [.map x1] (.one (.one (.func))) λ(x2:FV)=>L.call Pr ZM [.func x2.fn x2.fs x2.cs] rL λ(x3:Sl)=>L.loop (Y:=Int×Unit) (0,()) λy4 again5=>L.ite (decide (y4.1<((x3.len:Nat):Int))) (L.idx x3.a y4.1 x3.len 1 λa6=>L.load eS6 a6 λ(x7:B0)=>L.load (.one (.map)) c0 λ(x8:Option Nat)=>L.semR Pr rI (Instr.lookup Zv (.map x8) (.string x7) false) λ(x9:Int)=>L.callV Pr (.func p0.fn p0.fs p0.cs) [.string x7,I x9] rB λ(x10:Bool)=>L.ite (!x10) (K (.tuple #[]))<|again5 (Wi (y4.1+1),()))<|K (.tuple #[])
def kA(p0:FV)(c0:Addr)(h:ql p0 c0 K w):CV yK [.v (.func p0.fn p0.fs p0.cs),.v (.pointer (some c0))] K w:=zy Tryz.f230 kE _ h
def kq:ZO Pr yK:=zK (by kernel_rfl)
def jM(p0:Option Nat)(K:Value→PT):PT:=
  L.new [.map p0] Zv λb1=>K (.func (.func Zk) #[] #[.pointer (some (⟨b1,0,none⟩))])
def Ql(p0:Option Nat)(h:jM p0 K w):CV Ya [.v (.map p0)] K w:=zy Tryz.f231 .auto _ h
def vB:Ann:=(.q2 (.one [(9,eI6)] .auto) none)
def xX(p0:FV)(c0:Addr)(K:Value→PT):PT:=
  L.load (.one (.map)) c0 λ(x1:Option Nat)=>L.call Pr yn [.map x1] (.one (.one (.func))) λ(x2:FV)=>L.call Pr ZM [.func x2.fn x2.fs x2.cs] rL λ(x3:Sl)=>L.loop (Y:=Int×Unit) (0,()) λy4 again5=>L.ite (decide (y4.1<((x3.len:Nat):Int))) (L.idx x3.a y4.1 x3.len 1 λa6=>L.load eS6 a6 λ(x7:B0)=>L.load (.one (.map)) c0 λ(x8:Option Nat)=>L.semR Pr rS (Instr.lookup Ze (.map x8) (.string x7) false) λ(x9:B0)=>L.callV Pr (.func p0.fn p0.fs p0.cs) [.string x7,.string x9] rB λ(x10:Bool)=>L.ite (!x10) (K (.tuple #[]))<|again5 (Wi (y4.1+1),()))<|K (.tuple #[])
def vz(p0:FV)(c0:Addr)(h:xX p0 c0 K w):CV yg [.v (.func p0.fn p0.fs p0.cs),.v (.pointer (some c0))] K w:=zy Tryz.f232 vB _ h
def vx:ZO Pr yg:=zK (by kernel_rfl)
def YN(p0:Option Nat)(K:Value→PT):PT:=
  L.new [.map p0] Ze λb1=>K (.func (.func zY) #[] #[.pointer (some (⟨b1,0,none⟩))])
def Xa(p0:Option Nat)(h:YN p0 K w):CV yn [.v (.map p0)] K w:=zy Tryz.f233 .auto _ h
def JK(p0:Sl)(K:Value→PT):PT:=
  L.ite ((p0.a).isNone) (K (.slice none 0 0))<|L.new [] Zb λb1=>L.sem Pr (.one (.one .slice)) (Builtin.append_ #[Zh,Zh] Zh #[.slice (some ⟨b1,0,none⟩) 0 0,Sv6 p0]) λ(s2:Sl)=>K (.slice s2.a s2.len s2.cap)
def uz(p0:Sl)(h:JK p0 K w):CV Zl [.v (.slice p0.a p0.len p0.cap)] K w:=zy Tryz.f234 .auto _ h
def JJ(p0:Sl)(K:Value→PT):PT:=
  L.ite ((p0.a).isNone) (K (.slice none 0 0))<|L.new [] Jl λb1=>L.sem Pr (.one (.one .slice)) (Builtin.append_ #[xo,xo] xo #[.slice (some ⟨b1,0,none⟩) 0 0,Sv6 p0]) λ(s2:Sl)=>K (.slice s2.a s2.len s2.cap)
def uy(p0:Sl)(h:JJ p0 K w):CV Yz [.v (.slice p0.a p0.len p0.cap)] K w:=zy Tryz.f235 .auto _ h
def vA:Ann:=(.q2 (.q2 (.seq (.q2 (.one [(5,eL6),(12,eI6)] (.q2 (.q2 (.seq (.q2 (.q2 (.one [(5,eL6),(18,eI6)] .auto) none) none) .auto none) none) none)) none) .auto none) none) none)
def xW(p0:FV)(p1:Sl)(K:Value→PT):PT:=
  L.loop (Y:=Sl×Int×Unit) (⟨none,0,0⟩,0,()) λy1 again2=>L.ite (decide (y1.2.1<((p1.len:Nat):Int))) (L.idx p1.a y1.2.1 p1.len 1 λa3=>L.load eL6 a3 λ(x4:Sl)=>L.loop (Y:=Sl×Int×Unit) (⟨y1.1.a,y1.1.len,y1.1.cap⟩,0,()) λy5 again6=>L.ite (decide (y5.2.1<((x4.len:Nat):Int))) (L.idx x4.a y5.2.1 x4.len 2 λa7=>L.load (.agg [.str,.int .i64]) a7 λ(x8:B0×Int×Unit)=>L.new [.string s_,I 0] Zb λb9=>L.store (⟨b9,0,none⟩) [.string x8.1,I x8.2.1]<|L.load (.agg [.str,.int .i64]) (⟨b9,0,none⟩) λ(x10:B0×Int×Unit)=>L.callV Pr (.func p0.fn p0.fs p0.cs) [.agg #[.string x10.1,I x10.2.1]] rS λ(x11:B0)=>L.new [.string x11] zc λb12=>L.sem Pr (.one (.one .slice)) (Builtin.append_ #[zm,zm] zm #[Sv6 y5.1,.slice (some ⟨b12,0,none⟩) 1 1]) λ(s13:Sl)=>again6 (⟨s13.a,s13.len,s13.cap⟩,Wi (y5.2.1+1),()))<|again2 (⟨y5.1.a,y5.1.len,y5.1.cap⟩,Wi (y1.2.1+1),()))<|L.call Pr jZ [Sv6 y1.1] (.tup []) λ(x14:Unit)=>L.call Pr xN [Sv6 y1.1] rL λ(x15:Sl)=>K (.slice x15.a x15.len x15.cap)
def vy(p0:FV)(p1:Sl)(h:xW p0 p1 K w):CV jo [.v (.func p0.fn p0.fs p0.cs),.v (.slice p1.a p1.len p1.cap)] K w:=zy Tryz.f236 vA _ h
def DD(p0:HT [.str,.int .i64])(K:Value→PT):PT:=
  L.new [.string p0.1,I p0.2.1] Zb λb1=>L.load eS6 (Ad6 b1 0) λ(x2:B0)=>K (.string x2)
def bD(p0:HT [.str,.int .i64])(h:DD p0 K w):CV gE [.ag [.string p0.1,.int .i64 p0.2.1]] K w:=zy Tryz.f237 .auto _ h
def bw:ZO Pr gE:=zK (by kernel_rfl)
def Mm(p0:Sl)(p1:B0)(K:Value→PT):PT:=
  L.new [.string p1] zc λb1=>L.call Pr jA [Sv6 p0,.func (.func QW) #[] #[.pointer (some (⟨b1,0,none⟩))]] rI λ(x2:Int)=>L.ite (decide (x2<0)) (K (I 0))<|L.idx p0.a x2 p0.len 2 λa3=>L.load eI6 (a3.add 1) λ(x4:Int)=>K (I x4)
def nF(p0:Sl)(p1:B0)(h:Mm p0 p1 K w):CV XJ [.v (.slice p0.a p0.len p0.cap),.v (.string p1)] K w:=zy Tryz.f238 .auto _ h
def pT:Ann:=(.q2 (.q2 (.seq (.q2 (.q2 .auto (some [(11,eI6),(12,eP6)])) none) .auto none) none) none)
def KH(p0:Option Addr)(p1:B0)(K:Value→PT):PT:=
  L.new [.slice none 0 0] yE λb1=>L.call Pr Jp [.pointer p0,.string p1] (.one (.one (.func))) λ(x2:FV)=>L.range Pr none (.func x2.fn x2.fs x2.cs) [eI6,eP6] (λl3(y4:Int×Option Addr×Unit) R5=>L.begin Pr l3<|L.draw<|L.load eL6 (⟨b1,0,none⟩) λ(x8:Sl)=>L.call Pr yA [.pointer y4.2.1] rI λ(x9:Int)=>L.chk (⟨b1,0,none⟩) [Sv6 x8]<|L.call Pr YS [.pointer y4.2.1] rI λ(x10:Int)=>L.chk (⟨b1,0,none⟩) [Sv6 x8]<|L.new [I y4.1,I x9,I x10] Xs λb11=>L.chk (⟨b1,0,none⟩) [Sv6 x8]<|L.sem Pr (.one (.one .slice)) (Builtin.append_ #[yE,yE] yE #[Sv6 x8,.slice (some ⟨b11,0,none⟩) 1 1]) λ(s12:Sl)=>L.store (⟨b1,0,none⟩) [Sv6 s12]<|L.endRound Pr l3 none R5) λd6 j7=>L.jump j7 (L.load eL6 (⟨b1,0,none⟩) λ(x13:Sl)=>L.call Pr Yf [Sv6 x13] rL λ(x14:Sl)=>L.unmark Pr (d6++[])<|K (.slice x14.a x14.len x14.cap)) (L.unmark Pr (d6++[])<|K (.slice none 0 0)) []
def pF(p0:Option Addr)(p1:B0)(h:KH p0 p1 K w):CV uo [.v (.pointer p0),.v (.string p1)] K w:=zy Tryz.f239 pT _ h
def OZ:Ann:=(.q2 (.one [(3,eI6)] .auto) none)
def uR(p0:FV)(c0:Addr)(K:Value→PT):PT:=
  L.loop (Y:=Int×Unit) (1,()) λy1 again2=>L.load eP6 c0 λ(x3:Option Addr)=>L.nonnil x3 λa4=>L.load eI6 (a4.add 60) λ(x5:Int)=>L.ite (decide (y1.1≤(if 60<x5 then 60 else x5))) (L.draw<|L.load eP6 c0 λ(x6:Option Addr)=>L.load eP6 c0 λ(x7:Option Addr)=>L.nonnil x7 λa8=>L.load eI6 (a8.add 60) λ(x9:Int)=>L.guard (60≠(0:Int))<|L.nonnil x6 λa10=>L.idx (some (a10.add 0)) (Int.tmod (Wi (x9-y1.1)) 60) 60 1 λa11=>L.load eI6 a11 λ(x12:Int)=>L.callV Pr (.func p0.fn p0.fs p0.cs) [I x12] rB λ(x13:Bool)=>L.ite (!x13) (K (.tuple #[]))<|again2 (Wi (y1.1+1),()))<|K (.tuple #[])
def OV(p0:FV)(c0:Addr)(h:uR p0 c0 K w):CV YH [.v (.func p0.fn p0.fs p0.cs),.v (.pointer (some c0))] K w:=zy Tryz.f240 OZ _ h
def OP:ZO Pr YH:=zK (by kernel_rfl)
def OJ(p0:Option Addr)(p1:B0)(K:Value→PT):PT:=
  L.new [.pointer p0] ZB λb1=>L.new [.string p1] zc λb2=>K (.func (.func Jz) #[] #[.pointer (some (⟨b1,0,none⟩)),.pointer (some (⟨b2,0,none⟩))])
def TK(p0:Option Addr)(p1:B0)(h:OJ p0 p1 K w):CV Jp [.v (.pointer p0),.v (.string p1)] K w:=zy Tryz.f241 .auto _ h
def Ky(p0:Option Addr)(K:Value→PT):PT:=
  L.nonnil p0 λa1=>L.load (.one (.map)) ((a1.add 1).add 0) λ(x2:Option Nat)=>L.semR Pr rI (Builtin.len_ #[yU] zp #[.map x2]) λ(x3:Int)=>K (I x3)
def FA(p0:Option Addr)(h:Ky p0 K w):CV YS [.v (.pointer p0)] K w:=zy Tryz.f242 .auto _ h
def nY:Ann:=(.q2 (.cond .auto .auto) none)
def Mo(p0:Option Addr)(K:Value→PT):PT:=
  L.nonnil p0 λa1=>L.load eI6 (a1.add 0) λ(x2:Int)=>L.ite (x2 == 3) (L.call Pr YS [.pointer p0] rI λ(x3:Int)=>L.ite (x3 == 0) (L.nonnil p0 λa4=>L.store (a4.add 0) [I 4]<|K (.tuple #[]))<|K (.tuple #[]))<|K (.tuple #[])
def nH(p0:Option Addr)(h:Mo p0 K w):CV vF [.v (.pointer p0)] K w:=zy Tryz.f243 nY _ h
def GR:Ann:=(.q2 (.one [(10,eI6)] .auto) none)
def UI(p0:FV)(c0:Addr)(K:Value→PT):PT:=
  L.load eP6 c0 λ(x1:Option Addr)=>L.nonnil x1 λa2=>L.load eL6 (a2.add 0) λ(x3:Sl)=>L.loop (Y:=Int×Unit) (0,()) λy4 again5=>L.ite (decide (y4.1<((x3.len:Nat):Int))) (L.idx x3.a y4.1 x3.len 2 λa6=>L.load (.agg [.int .i64,.int .i64]) a6 λ(x7:Int×Int×Unit)=>L.new [I 0,I 0] jc λb8=>L.store (⟨b8,0,none⟩) [I x7.1,I x7.2.1]<|L.load eI6 (Ad6 b8 0) λ(x9:Int)=>L.load eI6 (Ad6 b8 1) λ(x10:Int)=>L.callV Pr (.func p0.fn p0.fs p0.cs) [I x9,I x10] rB λ(x11:Bool)=>L.ite (!x11) (K (.tuple #[]))<|again5 (Wi (y4.1+1),()))<|K (.tuple #[])
def GE(p0:FV)(c0:Addr)(h:UI p0 c0 K w):CV jg [.v (.func p0.fn p0.fs p0.cs),.v (.pointer (some c0))] K w:=zy Tryz.f255 GR _ h
def Gz:ZO Pr jg:=zK (by kernel_rfl)
def TY:Ann:=(.one [] (.q2 (.q2 (.seq (.q2 (.cond .auto (.seq (.one [(3,eI6)] .auto) .auto none)) none) .auto (some [(3,eI6)])) none) none))
def OM(p0:FV)(c0:Addr)(K:Value→PT):PT:=
  L.loop (Y:=Unit) (()) λy1 again2=>L.load eL6 c0 λ(x3:Sl)=>L.ite (decide (((x3.len:Nat):Int)>0)) (L.join (Y:=Int×Unit) (λk4=>L.load eL6 c0 λ(x6:Sl)=>L.ite (decide (((x6.len:Nat):Int)<2)) (L.load eL6 c0 λ(x7:Sl)=>k4 (((x7.len:Nat):Int),()))<|L.join (Y:=Int×Unit) (λk8=>L.draw<|L.load eL6 c0 λ(x10:Sl)=>L.idx x10.a 0 x10.len 1 λa11=>L.load (.one (.int .u8)) a11 λ(x12:Int)=>L.load eL6 c0 λ(x13:Sl)=>L.idx x13.a 1 x13.len 1 λa14=>L.load (.one (.int .u8)) a14 λ(x15:Int)=>L.load eL6 c0 λ(x16:Sl)=>L.alts [(L.chk c0 [Sv6 x16]<|L.chk a14 [.int .u8 x15]<|L.chk c0 [Sv6 x13]<|L.guard ((0:Int)≤8)<|L.chk c0 [Sv6 x16]<|L.chk a11 [.int .u8 x12]<|L.chk c0 [Sv6 x10]<|k8 (if(Wi (((x16.len:Nat):Int)-2))<(Wi (((BitVec.ofInt 64 (Wi ((Wi x12)*2 ^ (min (Int.toNat 8) 64)))) ||| (BitVec.ofInt 64 (Wi x15))).toNat:Int))then(Wi (((x16.len:Nat):Int)-2))else(Wi (((BitVec.ofInt 64 (Wi ((Wi x12)*2 ^ (min (Int.toNat 8) 64)))) ||| (BitVec.ofInt 64 (Wi x15))).toNat:Int)),())),(L.chk c0 [Sv6 x16]<|L.chk a11 [.int .u8 x12]<|L.chk c0 [Sv6 x10]<|L.chk c0 [Sv6 x16]<|L.chk a14 [.int .u8 x15]<|L.chk c0 [Sv6 x13]<|L.guard ((0:Int)≤8)<|k8 (if(Wi (((x16.len:Nat):Int)-2))<(Wi (((BitVec.ofInt 64 (Wi ((Wi x12)*2 ^ (min (Int.toNat 8) 64)))) ||| (BitVec.ofInt 64 (Wi x15))).toNat:Int))then(Wi (((x16.len:Nat):Int)-2))else(Wi (((BitVec.ofInt 64 (Wi ((Wi x12)*2 ^ (min (Int.toNat 8) 64)))) ||| (BitVec.ofInt 64 (Wi x15))).toNat:Int)),()))]) λz9=>L.load eL6 c0 λ(x17:Sl)=>L.guard (0≤(2:Int)∧(2:Int)≤((x17.len:Nat):Int)∧((x17.len:Nat):Int)≤((x17.cap:Nat):Int)∧((x17.cap:Nat):Int)≤x17.cap)<|L.store c0 [.slice (if Int.toNat ((x17.cap:Nat):Int)=Int.toNat (2:Int)then x17.a else Option.map (λa:Addr=>a.add (Int.toNat (2:Int)*1)) x17.a) (Int.toNat ((x17.len:Nat):Int)-Int.toNat (2:Int)) (Int.toNat ((x17.cap:Nat):Int)-Int.toNat (2:Int))]<|k4 (z9.1,())) λz5=>L.load eL6 c0 λ(x18:Sl)=>L.guard (0≤(0:Int)∧(0:Int)≤z5.1∧z5.1≤((x18.cap:Nat):Int)∧((x18.cap:Nat):Int)≤x18.cap)<|L.call Pr Jv [.slice (if Int.toNat ((x18.cap:Nat):Int)=Int.toNat (0:Int)then x18.a else Option.map (λa:Addr=>a.add (Int.toNat (0:Int)*1)) x18.a) (Int.toNat z5.1-Int.toNat (0:Int)) (Int.toNat ((x18.cap:Nat):Int)-Int.toNat (0:Int))] rL λ(x19:Sl)=>L.callV Pr (.func p0.fn p0.fs p0.cs) [Sv6 x19] rB λ(x20:Bool)=>L.ite (!x20) (K (.tuple #[]))<|L.load eL6 c0 λ(x21:Sl)=>L.guard (0≤z5.1∧z5.1≤((x21.len:Nat):Int)∧((x21.len:Nat):Int)≤((x21.cap:Nat):Int)∧((x21.cap:Nat):Int)≤x21.cap)<|L.store c0 [.slice (if Int.toNat ((x21.cap:Nat):Int)=Int.toNat z5.1 then x21.a else Option.map (λa:Addr=>a.add (Int.toNat z5.1*1)) x21.a) (Int.toNat ((x21.len:Nat):Int)-Int.toNat z5.1) (Int.toNat ((x21.cap:Nat):Int)-Int.toNat z5.1)]<|again2 (()))<|K (.tuple #[])
def TO(p0:FV)(c0:Addr)(h:OM p0 c0 K w):CV xS [.v (.func p0.fn p0.fs p0.cs),.v (.pointer (some c0))] K w:=zy Tryz.f256 TY _ h
def Tq:ZO Pr xS:=zK (by kernel_rfl)
def qM(p0:Sl)(K:Value→PT):PT:=
  L.ite ((p0.a).isNone) (K (.slice none 0 0))<|L.new [] Uw λb1=>L.sem Pr (.one (.one .slice)) (Builtin.append_ #[yO,yO] yO #[.slice (some ⟨b1,0,none⟩) 0 0,Sv6 p0]) λ(s2:Sl)=>K (.slice s2.a s2.len s2.cap)
def KL(p0:Sl)(h:qM p0 K w):CV Jv [.v (.slice p0.a p0.len p0.cap)] K w:=zy Tryz.f257 .auto _ h
def mR:Ann:=(.q2 (.seq (.q2 .auto (some [])) .auto none) none)
def VP(p0:Option Addr)(p1:Int)(K:Value→PT):PT:=
  L.join (Y:=Unit) (λk1=>L.nonnil p0 λa3=>L.load eB6 (a3.add 1) λ(x4:Bool)=>L.ite x4 (L.nonnil p0 λa5=>L.store (a5.add 1) [.bool true]<|k1 (()))<|L.nonnil p0 λa6=>L.load eL6 (a6.add 0) λ(x7:Sl)=>L.nonnil p0 λa8=>L.store (a8.add 1) [.bool (decide (((x7.len:Nat):Int)<p1))]<|k1 (())) λz2=>L.nonnil p0 λa9=>L.load eB6 (a9.add 1) λ(x10:Bool)=>L.ite x10 (L.sem Pr (.one (.one .slice)) (Instr.makeSlice yO (I p1) (I p1)) λ(s11:Sl)=>K (.slice s11.a s11.len s11.cap))<|L.nonnil p0 λa12=>L.load eL6 (a12.add 0) λ(x13:Sl)=>L.guard (0≤(0:Int)∧(0:Int)≤p1∧p1≤((x13.cap:Nat):Int)∧((x13.cap:Nat):Int)≤x13.cap)<|L.nonnil p0 λa14=>L.load eL6 (a14.add 0) λ(x15:Sl)=>L.guard (0≤p1∧p1≤((x15.len:Nat):Int)∧((x15.len:Nat):Int)≤((x15.cap:Nat):Int)∧((x15.cap:Nat):Int)≤x15.cap)<|L.nonnil p0 λa16=>L.store (a16.add 0) [.slice (if Int.toNat ((x15.cap:Nat):Int)=Int.toNat p1 then x15.a else Option.map (λa:Addr=>a.add (Int.toNat p1*1)) x15.a) (Int.toNat ((x15.len:Nat):Int)-Int.toNat p1) (Int.toNat ((x15.cap:Nat):Int)-Int.toNat p1)]<|K (.slice (if Int.toNat ((x13.cap:Nat):Int)=Int.toNat (0:Int)then x13.a else Option.map (λa:Addr=>a.add (Int.toNat (0:Int)*1)) x13.a) (Int.toNat p1-Int.toNat (0:Int)) (Int.toNat ((x13.cap:Nat):Int)-Int.toNat (0:Int)))
def mK(p0:Option Addr)(p1:Int)(h:VP p0 p1 K w):CV xG [.v (.pointer p0),.v (.int .i64 p1)] K w:=zy Tryz.f258 mR _ h
def XY:Ann:=(.q2 (.seq (.q2 (.one [(8,eI6)] .auto) none) .auto none) none)
def jj(p0:Sl)(p1:FV)(K:Value→PT):PT:=
  L.loop (Y:=Int×Unit) (0,()) λy1 again2=>L.ite (decide (y1.1<((p0.len:Nat):Int))) (L.idx p0.a y1.1 p0.len 3 λa3=>L.load (.agg [.str,.str,.int .i64]) a3 λ(x4:pt9)=>L.callV Pr (.func p1.fn p1.fs p1.cs) [.agg #[.string x4.1,.string x4.2.1,I x4.2.2.1]] rB λ(x5:Bool)=>L.ite x5 (K (I y1.1))<|again2 (Wi (y1.1+1),()))<|K (I (-1))
def XX(p0:Sl)(p1:FV)(h:jj p0 p1 K w):CV jh [.v (.slice p0.a p0.len p0.cap),.v (.func p1.fn p1.fs p1.cs)] K w:=zy Tryz.f263 XY _ h
def ZV(p0:Sl)(p1:FV)(K:Value→PT):PT:=
  L.call Pr Ji [Sv6 p0,I ((p0.len:Nat):Int),.func p1.fn p1.fs p1.cs] (.tup []) λ(x1:Unit)=>K (.tuple #[])
def yX(p0:Sl)(p1:FV)(h:ZV p0 p1 K w):CV Zw [.v (.slice p0.a p0.len p0.cap),.v (.func p1.fn p1.fs p1.cs)] K w:=zy Tryz.f270 .auto _ h
def Vd(p0 p1:HT [.int .i64,.int .i64])(K:Value→PT):PT:=
  L.new [I p0.1,I p0.2.1] zr λb1=>L.new [I p1.1,I p1.2.1] zr λb2=>L.load eI6 (Ad6 b1 0) λ(x3:Int)=>L.load eI6 (Ad6 b2 0) λ(x4:Int)=>K (I (Wi (x3-x4)))
def FC(p0 p1:HT [.int .i64,.int .i64])(h:Vd p0 p1 K w):CV Zf [.ag [.int .i64 p0.1,.int .i64 p0.2.1],.ag [.int .i64 p1.1,.int .i64 p1.2.1]] K w:=zy Tryz.f271 .auto _ h
def Fp:ZO Pr Zf:=zK (by kernel_rfl)
def Fb(p0:Option Addr)(p1:Int)(K:Value→PT):PT:=
  L.nonnil p0 λa1=>L.load eI6 (a1.add 0) λ(x2:Int)=>L.ite (x2 != 2) (K (I 9))<|L.nonnil p0 λa3=>L.call Pr oi [.pointer (some (a3.add 1)),I p1] rI λ(x4:Int)=>K (I x4)
def DN(p0:Option Addr)(p1:Int)(h:Fb p0 p1 K w):CV Um [.v (.pointer p0),.v (.int .i64 p1)] K w:=zy Tryz.f272 .auto _ h
def Va(p0:FV)(K:Value→PT):PT:=
  L.call Pr Jw [.slice none 0 0,.func p0.fn p0.fs p0.cs] rL λ(x1:Sl)=>K (.slice x1.a x1.len x1.cap)
def Fy(p0:FV)(h:Va p0 K w):CV vS [.v (.func p0.fn p0.fs p0.cs)] K w:=zy Tryz.f273 .auto _ h
def QS:Ann:=(.q2 (.one [] (.q2 (.seq (.cond .auto .auto) .auto none) none)) none)
def Jn(p0:FV)(c0:Addr)(K:Value→PT):PT:=
  L.load (.one (.map)) c0 λ(x1:Option Nat)=>L.sem Pr (.one (.one .ptr)) (Instr.range yU (.map x1)) λ(it2:Option Addr)=>L.loop (Y:=Unit) (()) λy3 again4=>L.next Pr [eI6,eB6] (Instr.next (.pointer it2) false T_) (K (.tuple #[])) λ(x5:Int×Bool×Unit)=>L.sem Pr (.tup [eI6,eB6]) (Instr.entry (.pointer it2)) λ(x6:Int×Bool×Unit)=>L.callV Pr (.func p0.fn p0.fs p0.cs) [I x6.1] rB λ(x7:Bool)=>L.ite (!x7) (K (.tuple #[]))<|again4 (())
def QP(p0:FV)(c0:Addr)(h:Jn p0 c0 K w):CV Zy [.v (.func p0.fn p0.fs p0.cs),.v (.pointer (some c0))] K w:=zy Tryz.f274 QS _ h
def QN:ZO Pr Zy:=zK (by kernel_rfl)
def uN(p0:FV)(K:Value→PT):PT:=
  L.call Pr YQ [.slice none 0 0,.func p0.fn p0.fs p0.cs] rL λ(x1:Sl)=>K (.slice x1.a x1.len x1.cap)
def OR(p0:FV)(h:uN p0 K w):CV uF [.v (.func p0.fn p0.fs p0.cs)] K w:=zy Tryz.f275 .auto _ h
def Jt:Ann:=(.q2 (.one [] (.q2 (.seq (.cond .auto .auto) .auto none) none)) none)
def yP(p0:FV)(c0:Addr)(K:Value→PT):PT:=
  L.load (.one (.map)) c0 λ(x1:Option Nat)=>L.sem Pr (.one (.one .ptr)) (Instr.range Zr (.map x1)) λ(it2:Option Addr)=>L.loop (Y:=Unit) (()) λy3 again4=>L.next Pr [eS6,eP6] (Instr.next (.pointer it2) false T_) (K (.tuple #[])) λ(x5:B0×Option Addr×Unit)=>L.sem Pr (.tup [eS6,eP6]) (Instr.entry (.pointer it2)) λ(x6:B0×Option Addr×Unit)=>L.callV Pr (.func p0.fn p0.fs p0.cs) [.string x6.1] rB λ(x7:Bool)=>L.ite (!x7) (K (.tuple #[]))<|again4 (())
def Js(p0:FV)(c0:Addr)(h:yP p0 c0 K w):CV zQ [.v (.func p0.fn p0.fs p0.cs),.v (.pointer (some c0))] K w:=zy Tryz.f277 Jt _ h
def Jr:ZO Pr zQ:=zK (by kernel_rfl)
def yx(p0:Option Nat)(K:Value→PT):PT:=
  L.new [.map p0] zV λb1=>K (.func (.func zH) #[] #[.pointer (some (⟨b1,0,none⟩))])
def jJ(p0:Option Nat)(h:yx p0 K w):CV yp [.v (.map p0)] K w:=zy Tryz.f278 .auto _ h
def mO:Ann:=(.q2 (.q2 (.seq (.q2 (.one [(18,eI6)] (.q2 (.q2 (.seq (.q2 (.q2 (.q2 (.cond .auto .auto) none) none) none) .auto (some [])) none) none)) none) .auto none) none) none)
def VH(p0:Option Addr)(p1:B0)(p2:FV)(K:Value→PT):PT:=
  L.new [.string s_,I 0,.string s_,I 0,I 0,I 0,I 0,I 0] zO λb1=>L.store (⟨b1,0,none⟩) [.string s_,I 0,.string s_,I 0,I 0,I 0,I 0,I 0]<|L.nonnil p0 λa2=>L.load (.one (.map)) (a2.add 0) λ(x3:Option Nat)=>L.call Pr yJ [.map x3] rL λ(x4:Sl)=>L.loop (Y:=Int×Unit) (0,()) λy5 again6=>L.ite (decide (y5.1<((x4.len:Nat):Int))) (L.join (Y:=Unit) (λk7=>L.idx x4.a y5.1 x4.len 1 λa9=>L.load eS6 a9 λ(x10:B0)=>L.nonnil p0 λa11=>L.load (.one (.map)) (a11.add 0) λ(x12:Option Nat)=>L.semR Pr (.one (.agg lf6)) (Instr.lookup zV (.map x12) (.string x10) false) λ(x13:am)=>L.new [.string s_,I 0,.string s_,I 0,I 0,I 0,I 0,I 0] zO λb14=>L.store (⟨b14,0,none⟩) [.string x13.1,I x13.2.1,.string x13.2.2.1,I x13.2.2.2.1,I x13.2.2.2.2.1,I x13.2.2.2.2.2.1,I x13.2.2.2.2.2.2.1,I x13.2.2.2.2.2.2.2.1]<|L.load eS6 ((Ad6 b14 2).add 0) λ(x15:B0)=>L.ite (x15.toList == p1.toList) (L.load eI6 (Ad6 b14 1) λ(x16:Int)=>L.load eI6 (Ad6 b1 1) λ(x17:Int)=>L.ite (decide (x16>x17)) (L.callV Pr (.func p2.fn p2.fs p2.cs) [.string x10] rB λ(x18:Bool)=>L.ite x18 (L.load (.agg lf6) (⟨b14,0,none⟩) λ(x19:am)=>L.store (⟨b1,0,none⟩) [.string x19.1,I x19.2.1,.string x19.2.2.1,I x19.2.2.2.1,I x19.2.2.2.2.1,I x19.2.2.2.2.2.1,I x19.2.2.2.2.2.2.1,I x19.2.2.2.2.2.2.2.1]<|k7 (()))<|k7 (()))<|k7 (()))<|k7 (())) λz8=>again6 (Wi (y5.1+1),()))<|L.load eS6 (Ad6 b1 0) λ(x20:B0)=>K (.string x20)
def mC(p0:Option Addr)(p1:B0)(p2:FV)(h:VH p0 p1 p2 K w):CV xE [.v (.pointer p0),.v (.string p1),.v (.func p2.fn p2.fs p2.cs)] K w:=zy Tryz.f279 mO _ h
def UM(p0:B0)(K:Value→PT):PT:=
  K (.bool true)
def GM(p0:B0)(h:UM p0 K w):CV JN [.v (.string p0)] K w:=zy Tryz.f280 .auto _ h
def GD:ZO Pr JN:=zK (by kernel_rfl)
def qq:Ann:=(.q2 (.one [] (.q2 (.seq (.cond .auto .auto) .auto none) none)) none)
def ju(p0:FV)(c0:Addr)(K:Value→PT):PT:=
  L.load (.one (.map)) c0 λ(x1:Option Nat)=>L.sem Pr (.one (.one .ptr)) (Instr.range Zv (.map x1)) λ(it2:Option Addr)=>L.loop (Y:=Unit) (()) λy3 again4=>L.next Pr [eS6,eI6] (Instr.next (.pointer it2) false T_) (K (.tuple #[])) λ(x5:B0×Int×Unit)=>L.sem Pr (.tup [eS6,eI6]) (Instr.entry (.pointer it2)) λ(x6:B0×Int×Unit)=>L.callV Pr (.func p0.fn p0.fs p0.cs) [.string x6.1] rB λ(x7:Bool)=>L.ite (!x7) (K (.tuple #[]))<|again4 (())
def qp(p0:FV)(c0:Addr)(h:ju p0 c0 K w):CV Zk [.v (.func p0.fn p0.fs p0.cs),.v (.pointer (some c0))] K w:=zy Tryz.f281 qq _ h
def qo:ZO Pr Zk:=zK (by kernel_rfl)
def xC:Ann:=(.q2 (.one [] (.q2 (.seq (.cond .auto .auto) .auto none) none)) none)
def Yx(p0:FV)(c0:Addr)(K:Value→PT):PT:=
  L.load (.one (.map)) c0 λ(x1:Option Nat)=>L.sem Pr (.one (.one .ptr)) (Instr.range Ze (.map x1)) λ(it2:Option Addr)=>L.loop (Y:=Unit) (()) λy3 again4=>L.next Pr [eS6,eS6] (Instr.next (.pointer it2) false T_) (K (.tuple #[])) λ(x5:B0×B0×Unit)=>L.sem Pr (.tup [eS6,eS6]) (Instr.entry (.pointer it2)) λ(x6:B0×B0×Unit)=>L.callV Pr (.func p0.fn p0.fs p0.cs) [.string x6.1] rB λ(x7:Bool)=>L.ite (!x7) (K (.tuple #[]))<|again4 (())
def xA(p0:FV)(c0:Addr)(h:Yx p0 c0 K w):CV zY [.v (.func p0.fn p0.fs p0.cs),.v (.pointer (some c0))] K w:=zy Tryz.f282 xC _ h
def xy:ZO Pr zY:=zK (by kernel_rfl)
def qV:Ann:=(.q2 (.seq (.q2 (.one [(8,eI6)] .auto) none) .auto none) none)
def jI(p0:Sl)(p1:FV)(K:Value→PT):PT:=
  L.loop (Y:=Int×Unit) (0,()) λy1 again2=>L.ite (decide (y1.1<((p0.len:Nat):Int))) (L.idx p0.a y1.1 p0.len 2 λa3=>L.load (.agg [.str,.int .i64]) a3 λ(x4:B0×Int×Unit)=>L.callV Pr (.func p1.fn p1.fs p1.cs) [.agg #[.string x4.1,I x4.2.1]] rB λ(x5:Bool)=>L.ite x5 (K (I y1.1))<|again2 (Wi (y1.1+1),()))<|K (I (-1))
def qT(p0:Sl)(p1:FV)(h:jI p0 p1 K w):CV jA [.v (.slice p0.a p0.len p0.cap),.v (.func p1.fn p1.fs p1.cs)] K w:=zy Tryz.f284 qV _ h
def Gr(p0:HT [.str,.int .i64])(c0:Addr)(K:Value→PT):PT:=
  L.new [.string p0.1,I p0.2.1] Zb λb1=>L.load eS6 (Ad6 b1 0) λ(x2:B0)=>L.load eS6 c0 λ(x3:B0)=>K (.bool (x2.toList == x3.toList))
def Ch(p0:HT [.str,.int .i64])(c0:Addr)(h:Gr p0 c0 K w):CV QW [.ag [.string p0.1,.int .i64 p0.2.1],.v (.pointer (some c0))] K w:=zy Tryz.f285 .auto _ h
def Cd:ZO Pr QW:=zK (by kernel_rfl)
def jT(p0:Sl)(K:Value→PT):PT:=
  L.ite ((p0.a).isNone) (K (.slice none 0 0))<|L.new [] Xs λb1=>L.sem Pr (.one (.one .slice)) (Builtin.append_ #[yE,yE] yE #[.slice (some ⟨b1,0,none⟩) 0 0,Sv6 p0]) λ(s2:Sl)=>K (.slice s2.a s2.len s2.cap)
def QF(p0:Sl)(h:jT p0 K w):CV Yf [.v (.slice p0.a p0.len p0.cap)] K w:=zy Tryz.f286 .auto _ h
def pQ:Ann:=(.q2 (.one [(14,eI6)] (.q2 (.q2 (.seq (.q2 (.q2 (.q2 (.cond .auto .auto) none) none) none) .auto (some [])) none) none)) none)
def KF(p0:FV)(c0:Addr)(c1:Addr)(K:Value→PT):PT:=
  L.load eP6 c0 λ(x1:Option Addr)=>L.nonnil x1 λa2=>L.load (.one (.map)) (a2.add 0) λ(x3:Option Nat)=>L.call Pr yo [.map x3] (.one (.one (.func))) λ(x4:FV)=>L.call Pr YY [.func x4.fn x4.fs x4.cs] rL λ(x5:Sl)=>L.loop (Y:=Int×Unit) (0,()) λy6 again7=>L.ite (decide (y6.1<((x5.len:Nat):Int))) (L.join (Y:=Unit) (λk8=>L.idx x5.a y6.1 x5.len 1 λa10=>L.load eI6 a10 λ(x11:Int)=>L.load eP6 c0 λ(x12:Option Addr)=>L.nonnil x12 λa13=>L.load (.one (.map)) (a13.add 0) λ(x14:Option Nat)=>L.semR Pr (.one (.agg [.str,.ptr])) (Instr.lookup Za (.map x14) (I x11) false) λ(x15:B0×Option Addr×Unit)=>L.new [.string s_,.pointer none] Xe λb16=>L.store (⟨b16,0,none⟩) [.string x15.1,.pointer x15.2.1]<|L.load eS6 (Ad6 b16 0) λ(x17:B0)=>L.load eS6 c1 λ(x18:B0)=>L.ite (x17.toList == x18.toList) (L.load eP6 (Ad6 b16 1) λ(x19:Option Addr)=>L.callV Pr (.func p0.fn p0.fs p0.cs) [I x11,.pointer x19] rB λ(x20:Bool)=>L.ite (!x20) (K (.tuple #[]))<|k8 (()))<|k8 (())) λz9=>again7 (Wi (y6.1+1),()))<|K (.tuple #[])
def pD(p0:FV)(c0 c1:Addr)(h:KF p0 c0 c1 K w):CV Jz [.v (.func p0.fn p0.fs p0.cs),.v (.pointer (some c0)),.v (.pointer (some c1))] K w:=zy Tryz.f287 pQ _ h
def pg:ZO Pr Jz:=zK (by kernel_rfl)
def YO(p0:Option Nat)(K:Value→PT):PT:=
  L.new [.map p0] Za λb1=>K (.func (.func zZ) #[] #[.pointer (some (⟨b1,0,none⟩))])
def Xb(p0:Option Nat)(h:YO p0 K w):CV yo [.v (.map p0)] K w:=zy Tryz.f288 .auto _ h
def QQ:Ann:=(.q2 (.q2 (.seq (.one [(7,eI6),(8,eI6)] .auto) (.q2 (.one [(6,eI6)] (.q2 (.q2 (.seq (.one [(7,eI6),(8,eI6)] .auto) (.q2 .auto (some [])) none) none) none)) none) none) none) none)
def Yt(p0:Sl)(p1:Int)(p2:FV)(K:Value→PT):PT:=
  L.loop (Y:=Int×Int×Unit) (0,20,()) λy1 again2=>L.ite (decide (y1.2.1≤p1)) (L.call Pr ZL [Sv6 p0,I y1.1,I y1.2.1,.func p2.fn p2.fs p2.cs] (.tup []) λ(x3:Unit)=>again2 (y1.2.1,Wi (y1.2.1+20),()))<|L.call Pr ZL [Sv6 p0,I y1.1,I p1,.func p2.fn p2.fs p2.cs] (.tup []) λ(x4:Unit)=>L.loop (Y:=Int×Unit) (20,()) λy5 again6=>L.ite (decide (y5.1<p1)) (L.loop (Y:=Int×Int×Unit) (0,Wi (2*y5.1),()) λy7 again8=>L.ite (decide (y7.2.1≤p1)) (L.call Pr zI [Sv6 p0,I y7.1,I (Wi (y7.1+y5.1)),I y7.2.1,.func p2.fn p2.fs p2.cs] (.tup []) λ(x9:Unit)=>again8 (y7.2.1,Wi (y7.2.1+(Wi (2*y5.1))),()))<|L.join (Y:=Unit) (λk10=>L.ite (decide ((Wi (y7.1+y5.1))<p1)) (L.call Pr zI [Sv6 p0,I y7.1,I (Wi (y7.1+y5.1)),I p1,.func p2.fn p2.fs p2.cs] (.tup []) λ(x12:Unit)=>k10 (()))<|k10 (())) λz11=>again6 (Wi (y5.1*2),()))<|K (.tuple #[])
def Jo(p0:Sl)(p1:Int)(p2:FV)(h:Yt p0 p1 p2 K w):CV Ji [.v (.slice p0.a p0.len p0.cap),.v (.int .i64 p1),.v (.func p2.fn p2.fs p2.cs)] K w:=zy Tryz.f305 QQ _ h
def oC(p0:Option Addr)(p1:Int)(K:Value→PT):PT:=
  L.nonnil p0 λa1=>L.load (.one (.map)) (a1.add 0) λ(x2:Option Nat)=>L.semR Pr rB (Instr.lookup yU (.map x2) (I p1) false) λ(x3:Bool)=>L.ite x3 (K (I 5))<|L.draw<|L.nonnil p0 λa4=>L.load (.one (.map)) (a4.add 0) λ(x5:Option Nat)=>L.semR Pr rI (Builtin.len_ #[yU] zp #[.map x5]) λ(x6:Int)=>L.nonnil p0 λa7=>L.load eI6 (a7.add 1) λ(x8:Int)=>L.ite (decide (x6≥x8)) (K (I 8))<|L.nonnil p0 λa9=>L.load (.one (.map)) (a9.add 0) λ(x10:Option Nat)=>L.semU Pr (Instr.mapUpdate yU (.map x10) (I p1) (.bool true))<|K (I 0)
def tm(p0:Option Addr)(p1:Int)(h:oC p0 p1 K w):CV oi [.v (.pointer p0),.v (.int .i64 p1)] K w:=zy Tryz.f306 .auto _ h
def KS:Ann:=(.q2 (.seq (.q2 (.q2 .auto (some [(7,eI6)])) none) .auto none) none)
def qN(p0:Sl)(p1:FV)(K:Value→PT):PT:=
  L.new [Sv6 p0] ZS λb1=>L.range Pr none (.func p1.fn p1.fs p1.cs) [eI6] (λl2(y3:Int×Unit) R4=>L.begin Pr l2<|L.load eL6 (⟨b1,0,none⟩) λ(x7:Sl)=>L.new [I y3.1] zp λb8=>L.sem Pr (.one (.one .slice)) (Builtin.append_ #[ZS,ZS] ZS #[Sv6 x7,.slice (some ⟨b8,0,none⟩) 1 1]) λ(s9:Sl)=>L.store (⟨b1,0,none⟩) [Sv6 s9]<|L.endRound Pr l2 none R4) λd5 j6=>L.jump j6 (L.load eL6 (⟨b1,0,none⟩) λ(x10:Sl)=>L.unmark Pr (d5++[])<|K (.slice x10.a x10.len x10.cap)) (L.unmark Pr (d5++[])<|K (.slice none 0 0)) []
def KM(p0:Sl)(p1:FV)(h:qN p0 p1 K w):CV Jw [.v (.slice p0.a p0.len p0.cap),.v (.func p1.fn p1.fs p1.cs)] K w:=zy Tryz.f307 KS _ h
def UE:Ann:=(.q2 (.seq (.q2 (.q2 .auto (some [(7,eS6)])) none) .auto none) none)
def xg(p0:Sl)(p1:FV)(K:Value→PT):PT:=
  L.new [Sv6 p0] zm λb1=>L.range Pr none (.func p1.fn p1.fs p1.cs) [eS6] (λl2(y3:B0×Unit) R4=>L.begin Pr l2<|L.load eL6 (⟨b1,0,none⟩) λ(x7:Sl)=>L.new [.string y3.1] zc λb8=>L.sem Pr (.one (.one .slice)) (Builtin.append_ #[zm,zm] zm #[Sv6 x7,.slice (some ⟨b8,0,none⟩) 1 1]) λ(s9:Sl)=>L.store (⟨b1,0,none⟩) [Sv6 s9]<|L.endRound Pr l2 none R4) λd5 j6=>L.jump j6 (L.load eL6 (⟨b1,0,none⟩) λ(x10:Sl)=>L.unmark Pr (d5++[])<|K (.slice x10.a x10.len x10.cap)) (L.unmark Pr (d5++[])<|K (.slice none 0 0)) []
def UD(p0:Sl)(p1:FV)(h:xg p0 p1 K w):CV YQ [.v (.slice p0.a p0.len p0.cap),.v (.func p1.fn p1.fs p1.cs)] K w:=zy Tryz.f308 UE _ h
def jr:Ann:=(.q2 (.one [] (.q2 (.seq (.cond .auto .auto) .auto none) none)) none)
def yi(p0:FV)(c0:Addr)(K:Value→PT):PT:=
  L.load (.one (.map)) c0 λ(x1:Option Nat)=>L.sem Pr (.one (.one .ptr)) (Instr.range zV (.map x1)) λ(it2:Option Addr)=>L.loop (Y:=Unit) (()) λy3 again4=>L.next Pr [eS6,(.agg lf6)] (Instr.next (.pointer it2) false T_) (K (.tuple #[])) λ(x5:z1W)=>L.sem Pr (.tup [eS6,(.agg lf6)]) (Instr.entry (.pointer it2)) λ(x6:z1W)=>L.callV Pr (.func p0.fn p0.fs p0.cs) [.string x6.1] rB λ(x7:Bool)=>L.ite (!x7) (K (.tuple #[]))<|again4 (())
def jq(p0:FV)(c0:Addr)(h:yi p0 c0 K w):CV zH [.v (.func p0.fn p0.fs p0.cs),.v (.pointer (some c0))] K w:=zy Tryz.f310 jr _ h
def jp:ZO Pr zH:=zK (by kernel_rfl)
def xD:Ann:=(.q2 (.one [] (.q2 (.seq (.cond .auto .auto) .auto none) none)) none)
def Yy(p0:FV)(c0:Addr)(K:Value→PT):PT:=
  L.load (.one (.map)) c0 λ(x1:Option Nat)=>L.sem Pr (.one (.one .ptr)) (Instr.range Za (.map x1)) λ(it2:Option Addr)=>L.loop (Y:=Unit) (()) λy3 again4=>L.next Pr [eI6,(.agg [.str,.ptr])] (Instr.next (.pointer it2) false T_) (K (.tuple #[])) λ(x5:z1V)=>L.sem Pr (.tup [eI6,(.agg [.str,.ptr])]) (Instr.entry (.pointer it2)) λ(x6:z1V)=>L.callV Pr (.func p0.fn p0.fs p0.cs) [I x6.1] rB λ(x7:Bool)=>L.ite (!x7) (K (.tuple #[]))<|again4 (())
def xB(p0:FV)(c0:Addr)(h:Yy p0 c0 K w):CV zZ [.v (.func p0.fn p0.fs p0.cs),.v (.pointer (some c0))] K w:=zy Tryz.f311 xD _ h
def xz:ZO Pr zZ:=zK (by kernel_rfl)
def Xx:Ann:=(.q2 (.one [(8,eI6)] (.q2 (.seq (.q2 (.one [(9,eI6)] (.seq (.q2 (.cond .auto .auto) none) .auto none)) none) .auto (some [])) none)) none)
def YU(p0:Sl)(p1 p2:Int)(p3:FV)(K:Value→PT):PT:=
  L.loop (Y:=Int×Unit) (Wi (p1+1),()) λy1 again2=>L.ite (decide (y1.1<p2)) (L.join (Y:=Unit) (λk3=>L.loop (Y:=Int×Unit) (y1.1,()) λy5 again6=>L.draw<|L.ite (decide (y5.1>p1)) (L.idx p0.a y5.1 p0.len 2 λa7=>L.load (.agg [.int .i64,.int .i64]) a7 λ(x8:Int×Int×Unit)=>L.idx p0.a (Wi (y5.1-1)) p0.len 2 λa9=>L.load (.agg [.int .i64,.int .i64]) a9 λ(x10:Int×Int×Unit)=>L.callV Pr (.func p3.fn p3.fs p3.cs) [.agg #[I x8.1,I x8.2.1],.agg #[I x10.1,I x10.2.1]] rI λ(x11:Int)=>L.ite (decide (x11<0)) (L.draw<|L.idx p0.a (Wi (y5.1-1)) p0.len 2 λa12=>L.load (.agg [.int .i64,.int .i64]) a12 λ(x13:Int×Int×Unit)=>L.idx p0.a y5.1 p0.len 2 λa14=>L.load (.agg [.int .i64,.int .i64]) a14 λ(x15:Int×Int×Unit)=>L.idx p0.a y5.1 p0.len 2 λa16=>L.store a16 [I x13.1,I x13.2.1]<|L.idx p0.a (Wi (y5.1-1)) p0.len 2 λa17=>L.store a17 [I x15.1,I x15.2.1]<|again6 (Wi (y5.1-1),()))<|k3 (()))<|k3 (())) λz4=>again2 (Wi (y1.1+1),()))<|K (.tuple #[])
def Xw(p0:Sl)(p1 p2:Int)(p3:FV)(h:YU p0 p1 p2 p3 K w):CV ZL [.v (.slice p0.a p0.len p0.cap),.v (.int .i64 p1),.v (.int .i64 p2),.v (.func p3.fn p3.fs p3.cs)] K w:=zy Tryz.f318 Xx _ h
def Qn:Ann:=(.seq (.q2 (.cond (.q2 (.q2 (.seq (.one [(10,eI6),(11,eI6)] .auto) (.seq (.q2 (.one [(13,eI6)] .auto) none) .auto none) none) none) none) .auto) none) (.seq (.q2 (.cond (.q2 (.q2 (.seq (.one [(14,eI6),(15,eI6)] .auto) (.seq (.q2 (.one [(17,eI6)] .auto) none) .auto none) none) none) none) .auto) none) (.q2 (.q2 (.q2 (.q2 (.q2 (.seq (.one [(20,eI6),(21,eI6)] .auto) (.q2 (.seq (.q2 (.cond .auto .auto) none) (.seq (.q2 (.cond .auto .auto) none) (.q2 (.cond .auto .auto) none) (some [])) (some [])) none) none) none) (some [(20,eI6),(21,eI6)])) none) none) none) none) none)
end Go.Proofs.YtimahgbgejngiaaGreatDoor
