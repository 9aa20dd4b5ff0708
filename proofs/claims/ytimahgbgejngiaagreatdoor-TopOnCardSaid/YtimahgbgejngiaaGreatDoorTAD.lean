/- What is proved on the way to a statement of the seat, pressed (text AD). No conditions beyond those its theorems state. -/
import Derived.Test.YtimahgbgejngiaaGreatDoorTAC
import Derived.Test.YtimahgbgejngiaaGreatDoorProg
set_option linter.all false
namespace Go.Proofs.YtimahgbgejngiaaGreatDoor
set_option maxRecDepth 100000
open Go.Dm
variable {K:Value→PT}{w:World}
abbrev I(n:Int):Value:=.int .i64 n
abbrev Jf:Lf:=.int .i64
abbrev J8:Lf:=.int .u8
abbrev ht0:=HT [.str,.int .i64,.int .i64,.int .i64,.int .i64,.int .i64]
abbrev ht1:=HT [.int .i64,.str,.str,.int .i64,.int .i64,.str,.int .i64,.int .i64,.int .i64,.int .i64,.int .i64,.str,.str,.slice,.int .i64]
abbrev ht2:=HT [.str,.str,.slice,.int .i64]
abbrev ht3:=HT [.int .i64,.int .i64,.int .i64,.str]
abbrev qc0(p:ht0):List Value:=[.string p.1,I p.2.1,I p.2.2.1,I p.2.2.2.1,I p.2.2.2.2.1,I p.2.2.2.2.2.1]
abbrev qc1(p:ht1):List Value:=[I p.1,.string p.2.1,.string p.2.2.1,I p.2.2.2.1,I p.2.2.2.2.1,.string p.2.2.2.2.2.1,I p.2.2.2.2.2.2.1,I p.2.2.2.2.2.2.2.1,I p.2.2.2.2.2.2.2.2.1,I p.2.2.2.2.2.2.2.2.2.1,I p.2.2.2.2.2.2.2.2.2.2.1,.string p.2.2.2.2.2.2.2.2.2.2.2.1,.string p.2.2.2.2.2.2.2.2.2.2.2.2.1,.slice p.2.2.2.2.2.2.2.2.2.2.2.2.2.1.a p.2.2.2.2.2.2.2.2.2.2.2.2.2.1.len p.2.2.2.2.2.2.2.2.2.2.2.2.2.1.cap,I p.2.2.2.2.2.2.2.2.2.2.2.2.2.2.1]
abbrev qc2(p:ht2):List Value:=[.string p.1,.string p.2.1,.slice p.2.2.1.a p.2.2.1.len p.2.2.1.cap,I p.2.2.2.1]
abbrev qc3(p:ht3):List Value:=[I p.1,I p.2.1,I p.2.2.1,.string p.2.2.2.1]
abbrev pt0:=B0×Int×Int×Int×Int×Int×Unit
abbrev pt1:=Int×B0×B0×Int×Int×B0×Int×Int×Int×Int×Int×B0×B0×Sl×Int×Unit
abbrev pt2:=(Bool×Bool×Bool×Bool×Bool×Bool×Unit)×Bool×Unit
abbrev pt3:=B0×B0×Sl×Int×Unit
abbrev pt4:=(B0×Int×Int×Int×Int×Int×Unit)×Int×Int×Bool×Unit
abbrev pt5:=(B0×B0×Sl×Int×Unit)×Int×Bool×Unit
abbrev pt6:=(B0×Int×B0×Int×Int×Int×Int×Int×Unit)×Bool×Unit
abbrev pt7:=Int×(B0×Int×Unit)×Unit
abbrev pt8:=Bool×Bool×Bool×Bool×Bool×Bool×Unit
abbrev pt9:=B0×B0×Int×Unit
abbrev KO:=Int×Int×Int×B0×Unit
abbrev z59:=(Int×Int×Int×B0×Unit)×Bool×Unit
abbrev z58:=(B0×Option Addr×Unit)×Bool×Unit
abbrev z5X:=(B0×Int×Int×Int×Int×Int×Int×Int×Bool×Unit)×Bool×Unit
abbrev Sn:=B0×Int×B0×Int×Int×Int×Int×Int×Unit
abbrev z5W:=(B0×B0×Sl×Int×Int×Int×Bool×Unit)×Bool×Unit
abbrev z57:=(Sl×Sl×Int×Int×Sl×Sl×Unit)×Bool×Unit
abbrev z56:=Sl×Sl×Int×Int×Sl×Sl×Unit
abbrev z5V:=Int×Option (TypeId×Value)×Unit
abbrev Sm:=B0×Int×Int×Int×Int×Int×Int×Int×Bool×Unit
abbrev Sk:=B0×B0×Sl×Int×Int×Int×Bool×Unit
abbrev z5U:=(B0×Int×Unit)×Bool×Unit
abbrev z55:=B0×(B0×Int×B0×Int×Int×Int×Int×Int×Unit)×Unit
abbrev z54:=Int×(B0×Option Addr×Unit)×Unit
abbrev lf0:List Lf:=[.str,Jf,Jf,Jf,Jf,Jf]
abbrev lf1:List Lf:=[Jf,.str,.str,Jf,Jf,.str,Jf,Jf,Jf,Jf,Jf,.str,.str,.slice,Jf]
abbrev lf2:List Lf:=[.ptr,.ptr,.ptr,.ptr,.ptr,.map,Jf]
abbrev lf3:List Lf:=[Jf,.ptr,.ptr,.ptr,.ptr,.ptr,.slice]
abbrev lf4:List Lf:=[.ptr,.map,.map,.func,Jf,Jf]
abbrev lf5:List Lf:=[.bool,.bool,.bool,.bool,.bool,.bool]
abbrev lf6:List Lf:=[.str,Jf,.str,Jf,Jf,Jf,Jf,Jf]
abbrev lf7:List Lf:=[.ptr,Jf,Jf,.slice,.slice,.slice]
abbrev lf8:List Lf:=[Jf,Jf,Jf,Jf,Jf,Jf,Jf,Jf,Jf,Jf,Jf,Jf,Jf,Jf,Jf,Jf,Jf,Jf,Jf,Jf,Jf,Jf,Jf,Jf,Jf,Jf,Jf,Jf,Jf,Jf,Jf,Jf,Jf,Jf,Jf,Jf,Jf,Jf,Jf,Jf,Jf,Jf,Jf,Jf,Jf,Jf,Jf,Jf,Jf,Jf,Jf,Jf,Jf,Jf,Jf,Jf,Jf,Jf,Jf,Jf]
abbrev lf9:List Lf:=[Jf,Jf,Jf,Jf,Jf,Jf,Jf,Jf,Jf,Jf,Jf,Jf,Jf,Jf,Jf,Jf,Jf,Jf,Jf,Jf,Jf,Jf,Jf,Jf,Jf,Jf,Jf,Jf,Jf,Jf,Jf,Jf,Jf,Jf,Jf,Jf,Jf,Jf,Jf,Jf,Jf,Jf,Jf,Jf,Jf,Jf,Jf,Jf,Jf,Jf,Jf,Jf,Jf,Jf,Jf,Jf,Jf,Jf,Jf,Jf,Jf]
abbrev z6a:List Lf:=[Jf,Jf,Jf,Jf,Jf,Jf,Jf,Jf,Jf,Jf,Jf,Jf,Jf,Jf,Jf,Jf,Jf,Jf,Jf,Jf,Jf,Jf,Jf,Jf,Jf,Jf,Jf,Jf,Jf,Jf,Jf,Jf,Jf,Jf,Jf,Jf,Jf,Jf,Jf,Jf,Jf,Jf,Jf,Jf,Jf,Jf,Jf,Jf,Jf,Jf,Jf,Jf,Jf,Jf,Jf,Jf,Jf,Jf,Jf,Jf,Jf,Jf]
abbrev RF:List Lf:=[.str,Jf,Jf,Jf,Jf,Jf,Jf,Jf,.bool]
abbrev RE:List Lf:=[.str,.str,.slice,Jf,Jf,Jf,.bool]
abbrev z0l:List Lf:=[.slice,.slice,Jf,Jf,.slice,.slice]
abbrev z69:List Lf:=[J8,J8,J8,J8,J8,J8,J8,J8,J8,J8,J8,J8,J8,J8,J8,J8,J8,J8,J8,J8,J8,J8,J8,J8]
abbrev z68:List Lf:=[.int .u64,.int .u64,.int .u64,.int .u64,.int .u64,.int .u64,.int .u64,.int .u64,.int .u64,.int .u64,.int .u64,.int .u64,.int .u64,.int .u64,.int .u64,.int .u64,.int .u64,.int .u64,.int .u64,.int .u64]
abbrev z67:List Lf:=[J8,J8,J8,J8,J8,J8,J8,J8,J8,J8,J8,J8,J8,J8,J8,J8,J8,J8,J8,J8,J8,J8,J8,J8,J8,J8,J8,J8,J8,J8,J8,J8,J8,J8,J8,J8,J8,J8,J8,J8,J8,J8,J8,J8,J8,J8,J8,J8,J8,J8,J8,J8,J8,J8,J8,J8,J8,J8,J8,J8,J8,J8,J8,J8,J8]
abbrev z66:List Lf:=[J8,J8,J8,J8,J8,J8,J8,J8,J8,J8,J8,J8,J8,J8,J8,J8,J8,J8,J8,J8,J8,J8,J8,J8,J8,J8,J8,J8,J8,J8,J8,J8]
abbrev z65:List Lf:=[J8,J8,J8,J8,J8,J8,J8,J8,J8,J8,J8,J8,J8,J8,J8,J8,J8,J8,J8,J8,J8,J8,J8,J8,J8,J8,J8,J8,J8,J8,J8,J8,J8,J8,J8,J8,J8,J8,J8,J8,J8,J8,J8,J8,J8,J8,J8,J8,J8,J8,J8,J8,J8,J8,J8,J8,J8,J8,J8,J8,J8,J8,J8,J8]
abbrev z64:List Lf:=[.int .u64,.int .u64,.int .u32,J8,J8,J8,J8,.func,.ptr,.int .i32,.int .i32]
abbrev z63:List Lf:=[Jf,.str,.str,Jf,Jf,Jf,Jf,Jf,.str,.str,.slice,Jf,Jf,Jf,.bool]
abbrev z62:List Lf:=[.str,.slice,.slice,Jf,Jf,.slice,.slice]
abbrev qa0(p:pt0):Value:=.agg #[.string p.1,I p.2.1,I p.2.2.1,I p.2.2.2.1,I p.2.2.2.2.1,I p.2.2.2.2.2.1]
abbrev qa1(p:pt1):Value:=.agg #[I p.1,.string p.2.1,.string p.2.2.1,I p.2.2.2.1,I p.2.2.2.2.1,.string p.2.2.2.2.2.1,I p.2.2.2.2.2.2.1,I p.2.2.2.2.2.2.2.1,I p.2.2.2.2.2.2.2.2.1,I p.2.2.2.2.2.2.2.2.2.1,I p.2.2.2.2.2.2.2.2.2.2.1,.string p.2.2.2.2.2.2.2.2.2.2.2.1,.string p.2.2.2.2.2.2.2.2.2.2.2.2.1,.slice p.2.2.2.2.2.2.2.2.2.2.2.2.2.1.a p.2.2.2.2.2.2.2.2.2.2.2.2.2.1.len p.2.2.2.2.2.2.2.2.2.2.2.2.2.1.cap,I p.2.2.2.2.2.2.2.2.2.2.2.2.2.2.1]
abbrev qa2(p:pt8):Value:=.agg #[.bool p.1,.bool p.2.1,.bool p.2.2.1,.bool p.2.2.2.1,.bool p.2.2.2.2.1,.bool p.2.2.2.2.2.1]
abbrev qa3(p:Sn):Value:=.agg #[.string p.1,I p.2.1,.string p.2.2.1,I p.2.2.2.1,I p.2.2.2.2.1,I p.2.2.2.2.2.1,I p.2.2.2.2.2.2.1,I p.2.2.2.2.2.2.2.1]
abbrev qa4(p:z56):Value:=.agg #[.slice p.1.a p.1.len p.1.cap,.slice p.2.1.a p.2.1.len p.2.1.cap,I p.2.2.1,I p.2.2.2.1,.slice p.2.2.2.2.1.a p.2.2.2.2.1.len p.2.2.2.2.1.cap,.slice p.2.2.2.2.2.1.a p.2.2.2.2.2.1.len p.2.2.2.2.2.1.cap]
abbrev qa5(p:Sm):Value:=.agg #[.string p.1,I p.2.1,I p.2.2.1,I p.2.2.2.1,I p.2.2.2.2.1,I p.2.2.2.2.2.1,I p.2.2.2.2.2.2.1,I p.2.2.2.2.2.2.2.1,.bool p.2.2.2.2.2.2.2.2.1]
abbrev qa6(p:Sk):Value:=.agg #[.string p.1,.string p.2.1,.slice p.2.2.1.a p.2.2.1.len p.2.2.1.cap,I p.2.2.2.1,I p.2.2.2.2.1,I p.2.2.2.2.2.1,.bool p.2.2.2.2.2.2.1]
abbrev eI6:E1:=.one (.int .i64)
abbrev eS6:E1:=.one .str
abbrev eL6:E1:=.one .slice
abbrev eB6:E1:=.one .bool
abbrev eP6:E1:=.one .ptr
abbrev rI:RT:=.one eI6
abbrev rS:RT:=.one eS6
abbrev rL:RT:=.one eL6
abbrev rB:RT:=.one eB6
abbrev rP:RT:=.one eP6
abbrev Sv6(v:Sl):Value:=.slice v.a v.len v.cap
abbrev Ad6(b n:Nat):Addr:=(⟨b,0,none⟩:Addr).add n
noncomputable abbrev Pr:Program:=Tryz.prog
abbrev Oh:Nat:=3
abbrev vb:Nat:=6
abbrev uk:Nat:=7
abbrev UR:Nat:=8
abbrev YR:Nat:=9
abbrev zl:Nat:=10
abbrev JA:Nat:=11
abbrev OP:Nat:=12
abbrev GE:Nat:=13
abbrev XO:Nat:=14
abbrev pN:Nat:=17
abbrev vd:Nat:=19
abbrev OI:Nat:=20
abbrev yW:Nat:=21
abbrev Jr:Nat:=22
abbrev FE:Nat:=23
abbrev FC:Nat:=24
abbrev FB:Nat:=25
abbrev pP:Nat:=26
abbrev pQ:Nat:=27
abbrev Vz:Nat:=28
abbrev zQ:Nat:=29
abbrev xL:Nat:=30
abbrev Yp:Nat:=31
abbrev YD:Nat:=32
abbrev Qe:Nat:=33
abbrev Yq:Nat:=34
abbrev YX:Nat:=35
abbrev jP:Nat:=36
abbrev ym:Nat:=37
abbrev YV:Nat:=38
abbrev YB:Nat:=39
abbrev YW:Nat:=40
abbrev YC:Nat:=41
abbrev Yi:Nat:=42
abbrev XV:Nat:=43
abbrev GD:Nat:=44
abbrev ZG:Nat:=45
abbrev uY:Nat:=46
abbrev ON:Nat:=47
abbrev UW:Nat:=48
abbrev Vu:Nat:=51
abbrev JK:Nat:=52
abbrev UQ:Nat:=53
abbrev tF:Nat:=54
abbrev tE:Nat:=55
abbrev Xt:Nat:=56
abbrev yD:Nat:=57
abbrev XP:Nat:=58
abbrev Zt:Nat:=59
abbrev Ki:Nat:=60
abbrev pL:Nat:=61
abbrev Vx:Nat:=62
abbrev QP:Nat:=63
abbrev Xm:Nat:=64
abbrev Xx:Nat:=65
abbrev GF:Nat:=66
abbrev KT:Nat:=67
abbrev Vy:Nat:=68
abbrev ZQ:Nat:=69
abbrev Za:Nat:=70
abbrev Zh:Nat:=71
abbrev Xr:Nat:=72
abbrev US:Nat:=73
abbrev CL:Nat:=74
abbrev ni:Nat:=75
abbrev Xu:Nat:=76
abbrev Kh:Nat:=77
abbrev XQ:Nat:=78
abbrev ZZ:Nat:=80
abbrev qA:Nat:=82
abbrev uZ:Nat:=83
abbrev JI:Nat:=84
abbrev ji:Nat:=85
abbrev zR:Nat:=86
abbrev vZ:Nat:=87
abbrev QO:Nat:=88
abbrev Vb:Nat:=89
abbrev Yv:Nat:=90
abbrev uU:Nat:=91
abbrev Xv:Nat:=92
abbrev Uc:Nat:=93
abbrev QM:Nat:=94
abbrev vX:Nat:=95
abbrev jD:Nat:=96
abbrev UZ:Nat:=97
abbrev QN:Nat:=98
abbrev xJ:Nat:=99
abbrev uT:Nat:=100
abbrev FD:Nat:=101
abbrev Xl:Nat:=102
abbrev UX:Nat:=103
abbrev Gx:Nat:=104
abbrev uW:Nat:=105
abbrev jQ:Nat:=106
abbrev xp:Nat:=107
abbrev Jl:Nat:=108
abbrev XU:Nat:=109
abbrev KR:Nat:=110
abbrev uX:Nat:=111
abbrev ui:Nat:=112
abbrev Qf:Nat:=113
abbrev Jz:Nat:=114
abbrev qB:Nat:=115
abbrev uM:Nat:=116
abbrev ZX:Nat:=117
abbrev MV:Nat:=118
abbrev QW:Nat:=119
abbrev FG:Nat:=120
abbrev OQ:Nat:=121
abbrev Mn:Nat:=122
abbrev xX:Nat:=123
abbrev Vw:Nat:=124
abbrev Qd:Nat:=125
abbrev Qc:Nat:=126
abbrev ZD:Nat:=127
abbrev VI:Nat:=128
abbrev XT:Nat:=129
abbrev yu:Nat:=130
abbrev OL:Nat:=131
abbrev pM:Nat:=132
abbrev JD:Nat:=137
abbrev JC:Nat:=138
abbrev xd:Nat:=139
abbrev xc:Nat:=140
abbrev Oe:Nat:=141
abbrev vA:Nat:=144
abbrev Gy:Nat:=145
abbrev OJ:Nat:=146
abbrev vY:Nat:=147
abbrev Qh:Nat:=148
abbrev yw:Nat:=149
abbrev jY:Nat:=150
abbrev qi:Nat:=151
abbrev QL:Nat:=152
abbrev QJ:Nat:=153
abbrev Fz:Nat:=154
abbrev Ud:Nat:=155
abbrev GA:Nat:=156
abbrev kf:Nat:=157
abbrev yb:Nat:=158
abbrev UU:Nat:=159
abbrev xK:Nat:=160
abbrev Qi:Nat:=161
abbrev vV:Nat:=162
abbrev vW:Nat:=163
abbrev Qg:Nat:=164
abbrev JE:Nat:=165
abbrev Og:Nat:=166
abbrev xe:Nat:=167
abbrev OO:Nat:=168
abbrev QX:Nat:=169
abbrev qj:Nat:=170
abbrev YQ:Nat:=171
abbrev OH:Nat:=172
abbrev yN:Nat:=173
abbrev OM:Nat:=174
abbrev xI:Nat:=175
abbrev qC:Nat:=176
abbrev XR:Nat:=177
abbrev xr:Nat:=178
abbrev uV:Nat:=179
abbrev KQ:Nat:=180
abbrev Va:Nat:=181
abbrev cg:Nat:=182
abbrev uh:Nat:=183
abbrev kg:Nat:=184
abbrev jq:Nat:=187
abbrev xE:Nat:=188
abbrev xD:Nat:=189
abbrev xC:Nat:=190
abbrev pR:Nat:=191
abbrev xB:Nat:=192
abbrev GC:Nat:=193
abbrev qk:Nat:=194
abbrev Yc:Nat:=195
abbrev KS:Nat:=196
abbrev xW:Nat:=197
abbrev jH:Nat:=198
abbrev kF:Nat:=199
abbrev fN:Nat:=200
abbrev FF:Nat:=201
abbrev kE:Nat:=202
abbrev FA:Nat:=203
abbrev GB:Nat:=204
abbrev UY:Nat:=205
abbrev yF:Nat:=206
abbrev QK:Nat:=207
abbrev Yx:Nat:=211
abbrev ug:Nat:=214
abbrev Ua:Nat:=215
abbrev uS:Nat:=216
abbrev Xq:Nat:=217
abbrev OK:Nat:=218
abbrev UV:Nat:=219
abbrev jr:Nat:=220
abbrev ja:Nat:=221
abbrev XS:Nat:=222
abbrev yQ:Nat:=223
abbrev yR:Nat:=224
abbrev ZW:Nat:=225
abbrev yd:Nat:=226
abbrev kD:Nat:=227
abbrev Yb:Nat:=228
abbrev uf:Nat:=229
abbrev Yd:Nat:=230
abbrev Yr:Nat:=231
abbrev yz:Nat:=232
abbrev yG:Nat:=233
abbrev Zq:Nat:=234
abbrev YP:Nat:=235
abbrev jR:Nat:=236
abbrev Gz:Nat:=237
abbrev qv:Nat:=238
abbrev Ub:Nat:=239
abbrev YY:Nat:=240
abbrev JS:Nat:=241
abbrev jk:Nat:=242
abbrev Vv:Nat:=243
abbrev jF:Nat:=255
abbrev Xw:Nat:=256
abbrev JY:Nat:=257
abbrev uj:Nat:=258
abbrev jG:Nat:=263
abbrev ZF:Nat:=270
abbrev Zj:Nat:=271
abbrev UT:Nat:=272
abbrev VJ:Nat:=273
abbrev ZK:Nat:=274
abbrev Ur:Nat:=275
abbrev JB:Nat:=276
abbrev zV:Nat:=277
abbrev yJ:Nat:=278
abbrev Xk:Nat:=279
abbrev xq:Nat:=280
abbrev Zo:Nat:=281
abbrev Zc:Nat:=282
abbrev Xs:Nat:=283
abbrev Jb:Nat:=284
abbrev uN:Nat:=285
abbrev Yw:Nat:=286
abbrev xf:Nat:=287
abbrev yH:Nat:=288
abbrev JJ:Nat:=305
abbrev Of:Nat:=306
abbrev JZ:Nat:=307
abbrev jj:Nat:=308
abbrev zM:Nat:=310
abbrev Zd:Nat:=311
abbrev ZV:Nat:=318
abbrev zN:Nat:=319
abbrev YI:Nat:=331
abbrev ZP:Nat:=336
abbrev T_:Nat:=0
abbrev zx:Nat:=3
abbrev yP:Nat:=4
abbrev qO:Nat:=5
abbrev zc:Nat:=9
abbrev FS:Nat:=20
abbrev zA:Nat:=23
abbrev ZS:Nat:=24
abbrev zL:Nat:=27
abbrev vj:Nat:=32
abbrev Zb:Nat:=34
abbrev zq:Nat:=36
abbrev zG:Nat:=38
abbrev xZ:Nat:=39
abbrev zj:Nat:=40
abbrev jE:Nat:=41
abbrev jt:Nat:=48
abbrev ZI:Nat:=49
abbrev zW:Nat:=60
abbrev Zk:Nat:=61
abbrev xY:Nat:=62
abbrev zp:Nat:=64
abbrev ZO:Nat:=66
abbrev JM:Nat:=74
abbrev ZJ:Nat:=77
abbrev ft:Nat:=79
abbrev zy:Nat:=83
abbrev jh:Nat:=86
abbrev CZ:Nat:=88
abbrev jy:Nat:=115
abbrev Zf:Nat:=120
abbrev Zm:Nat:=121
abbrev MY:Nat:=123
abbrev MX:Nat:=131
abbrev zZ:Nat:=133
abbrev qa:Nat:=135
abbrev Tc:Nat:=137
abbrev YF:Nat:=138
abbrev OU:Nat:=140
abbrev yn:Nat:=141
abbrev ZB:Nat:=142
abbrev Xa:Nat:=143
abbrev da:Nat:=149
abbrev JN:Nat:=151
abbrev zI:Nat:=172
abbrev qP:Nat:=175
abbrev zD:Nat:=179
abbrev ZY:Nat:=181
abbrev qp:Nat:=184
abbrev zU:Nat:=210
abbrev Zw:Nat:=220
abbrev Zl:Nat:=242
abbrev ZR:Nat:=244
abbrev Zr:Nat:=245
abbrev Zn:Nat:=247
abbrev yE:Nat:=250
abbrev Uw:Nat:=254
abbrev CY:Nat:=256
abbrev XM:Nat:=287
abbrev Xb:Nat:=302
abbrev zS:Nat:=304
abbrev zY:Nat:=309
abbrev ZE:Nat:=312
abbrev Zi:Nat:=313
abbrev xj:Nat:=322
abbrev JG:Nat:=326
abbrev Yz:Nat:=328
abbrev yU:Nat:=332
abbrev JH:Nat:=335
abbrev Ol:Nat:=340
abbrev AV:Nat:=344
abbrev QZ:Nat:=353
abbrev Zx:Nat:=355
abbrev FT:Nat:=360
abbrev Zs:Nat:=372
abbrev jx:Nat:=375
abbrev Yk:Nat:=377
abbrev KJ:Nat:=381
abbrev Uf:Nat:=387
abbrev XC:Nat:=413
abbrev yi:Nat:=427
abbrev zz:Nat:=429
def s_:B0:=⟨#[]⟩
def Gs:B0:=⟨#[119,101,98,45,49]⟩
def Ya:B0:=⟨#[102,114,111,110,116]⟩
def QV:B0:=⟨#[119,101,98]⟩
def MQ:B0:=⟨#[97,45,49]⟩
def Wj:B0:=⟨#[97,112,105]⟩
def Wk:B0:=⟨#[97,45,98]⟩
def Hb:B0:=⟨#[98,97,100]⟩
def gm:B0:=⟨#[32]⟩
def DR:B0:=⟨#[99,111,110,102,105,103]⟩
def Av:B0:=⟨#[114,111,117,116,101]⟩
def Se:B0:=⟨#[100,114,111,112,112,101,100]⟩
def Jk:B0:=⟨#[115,99,97,108,101]⟩
def lI:B0:=⟨#[117,112]⟩
def Fs:B0:=⟨#[112,114,111,118,101,100]⟩
def TZ:B0:=⟨#[100,111,119,110]⟩
def TY:B0:=⟨#[116,105,99,107]⟩
def EX:B0:=⟨#[115,97,109,101]⟩
def Gt:B0:=⟨#[114,101,118,105,115,105,111,110]⟩
def As:B0:=⟨#[116,97,98,108,101]⟩
def lJ:B0:=⟨#[109,97,100,101]⟩
def lK:B0:=⟨#[103,111,110,101]⟩
def mY:B0:=⟨#[102,108,101,101,116]⟩
def CI:B0:=⟨#[98,97,100,32]⟩
def z4Y:B0:=⟨#[111,107]⟩
def EZ:B0:=⟨#[110,97,109,101]⟩
def z1T:B0:=⟨#[97,114,103]⟩
def hO:B0:=⟨#[108,111,110,103]⟩
def z1R:B0:=⟨#[115,117,109]⟩
def th:B0:=⟨#[116,119,105,99,101]⟩
def EY:B0:=⟨#[110,111,110,101]⟩
def Di:B0:=⟨#[101,114,114,111,114]⟩
def Au:B0:=⟨#[115,116,97,108,101]⟩
def Ha:B0:=⟨#[102,117,108,108]⟩
def At:B0:=⟨#[115,116,97,116,101]⟩
def z1S:B0:=⟨#[99,117,116]⟩
def hI:B0:=⟨#[109,111,114,101]⟩
def hU:B0:=⟨#[107,105,110,100]⟩
def Uo:B0:=⟨#[114,101,102,117,115,101,100]⟩
def Gu:B0:=⟨#[110,111,45,114,111,117,116,101]⟩
def KM:B0:=⟨#[111,118,101,114,102,108,111,119]⟩
def vR:B0:=⟨#[112,111,100,45,108,111,115,116]⟩
def KC:B0:=⟨#[116,105,109,101,111,117,116]⟩
def gk:B0:=⟨#[58]⟩
def gj:B0:=⟨#[61]⟩
def Qa:B0:=⟨#[45]⟩
def By:B0:=⟨#[115,101,110,116]⟩
def Ar:B0:=⟨#[119,97,105,116,115]⟩
def Bz:B0:=⟨#[100,111,110,101]⟩
def tq0:TI:=⟨.func,1,some (.one (.func)),some [.nilFunc]⟩
def tq1:TI:=⟨.int .i64,1,some (.one (.int .i64)),some [I 0]⟩
def tq2:TI:=⟨.int .u8,1,some (.one (.int .u8)),some [.int .u8 0]⟩
def tq3:TI:=⟨.struct [(2,0),(3,1),(4,2),(6,3)],4,some (.agg [.int .i64,.int .i64,.bool,.int .u8]),some [I 0,I 0,.bool false,.int .u8 0]⟩
def tq4:TI:=⟨.str,1,some (.one (.str)),some [.string s_]⟩
def tq5:TI:=⟨.int .u64,1,some (.one (.int .u64)),some [.int .u64 0]⟩
def tq6:TI:=⟨.struct [(9,0),(12,1)],2,some (.agg [.str,.int .u64]),some [.string s_,.int .u64 0]⟩
def tq7:TI:=⟨.ptr,1,some (.one (.ptr)),some [.pointer none]⟩
def tq8:TI:=⟨.struct [(17,0)],1,some (.agg [.ptr]),some [.pointer none]⟩
def tq9:TI:=⟨.iface,1,some (.one (.iface)),some [.nilIface]⟩
def z2n:TI:=⟨.int .i32,1,some (.one (.int .i32)),some [.int .i32 0]⟩
def z4U:TI:=⟨.struct [(9,0),(3,1),(3,2),(3,3),(3,4),(3,5)],6,some (.agg lf0),some [.string s_,I 0,I 0,I 0,I 0,I 0]⟩
def z4T:TI:=⟨.struct [(9,0),(9,1),(32,2),(3,3)],4,some (.agg [.str,.str,.slice,.int .i64]),some [.string s_,.string s_,.slice none 0 0,I 0]⟩
def z4S:TI:=⟨.struct [(3,0),(9,1),(9,2),(3,3),(3,4),(23,5),(34,11)],15,some (.agg lf1),some [I 0,.string s_,.string s_,I 0,I 0,.string s_,I 0,I 0,I 0,I 0,I 0,.string s_,.string s_,.slice none 0 0,I 0]⟩
def z4R:TI:=⟨.struct [(9,0),(9,1),(3,2)],3,some (.agg [.str,.str,.int .i64]),some [.string s_,.string s_,I 0]⟩
def IT:TI:=⟨.struct [(9,0),(3,1)],2,some (.agg [.str,.int .i64]),some [.string s_,I 0]⟩
def z4Q:TI:=⟨.struct [(61,0),(62,1)],2,some (.agg [.slice,.slice]),some [.slice none 0 0,.slice none 0 0]⟩
def z4P:TI:=⟨.map 9 175,1,some (.one (.map)),some [.map none]⟩
def z4O:TI:=⟨.struct [(68,0),(70,1),(72,2),(66,3),(74,4),(77,5),(3,6)],7,some (.agg lf2),some [.pointer none,.pointer none,.pointer none,.pointer none,.pointer none,.map none,I 0]⟩
def z4N:TI:=⟨.struct [(40,0)],1,some (.agg [.slice]),some [.slice none 0 0]⟩
def z4M:TI:=⟨.struct [(96,0),(3,1)],2,some (.agg [.slice,.int .i64]),some [.slice none 0 0,I 0]⟩
def z4L:TI:=⟨.struct [(100,0),(101,1)],2,some (.agg [.slice,.slice]),some [.slice none 0 0,.slice none 0 0]⟩
def z4K:TI:=⟨.struct [(105,0)],1,some (.agg [.slice]),some [.slice none 0 0]⟩
def z4J:TI:=⟨.struct [(3,0),(95,1),(99,2),(104,3),(93,4),(108,5),(110,6)],7,some (.agg lf3),some [I 0,.pointer none,.pointer none,.pointer none,.pointer none,.pointer none,.slice none 0 0]⟩
def z4I:TI:=⟨.struct [(9,0),(9,1)],2,some (.agg [.str,.str]),some [.string s_,.string s_]⟩
def z4H:TI:=⟨.struct [(120,0),(121,1),(3,2),(3,3)],4,some (.agg [.map,.map,.int .i64,.int .i64]),some [.map none,.map none,I 0,I 0]⟩
def z4G:TI:=⟨.struct [(124,0),(127,1),(3,2)],3,some (.agg [.ptr,.ptr,.int .i64]),some [.pointer none,.pointer none,I 0]⟩
def z4F:TI:=⟨.map 9 210,1,some (.one (.map)),some [.map none]⟩
def z4E:TI:=⟨.map 9 4,1,some (.one (.map)),some [.map none]⟩
def z4D:TI:=⟨.struct [(133,0),(135,1)],2,some (.agg [.map,.map]),some [.map none,.map none]⟩
def z4C:TI:=⟨.struct [(138,0)],1,some (.agg [.map]),some [.map none]⟩
def z4B:TI:=⟨.struct [(142,0),(145,1)],2,some (.agg [.map,.func]),some [.map none,.nilFunc]⟩
def z4A:TI:=⟨.struct [(66,0),(141,1),(147,2),(3,4),(3,5)],6,some (.agg lf4),some [.pointer none,.map none,.map none,.nilFunc,I 0,I 0]⟩
def z4z:TI:=⟨.struct [(4,0),(4,1),(4,2),(4,3),(4,4),(4,5)],6,some (.agg lf5),some [.bool false,.bool false,.bool false,.bool false,.bool false,.bool false]⟩
def z4y:TI:=⟨.struct [(3,0),(3,1),(3,2),(9,3)],4,some (.agg [.int .i64,.int .i64,.int .i64,.str]),some [I 0,I 0,I 0,.string s_]⟩
def DA:TI:=⟨.struct [(3,0),(3,1)],2,some (.agg [.int .i64,.int .i64]),some [I 0,I 0]⟩
def z4x:TI:=⟨.struct [(182,0),(181,1)],3,some (.agg [.ptr,.int .i64,.int .i64]),some [.pointer none,I 0,I 0]⟩
def z4w:TI:=⟨.struct [(9,0),(3,1),(23,2)],8,some (.agg lf6),some [.string s_,I 0,.string s_,I 0,I 0,I 0,I 0,I 0]⟩
def z4v:TI:=⟨.struct [(3,0),(3,1),(232,2)],3,some (.agg [.int .i64,.int .i64,.slice]),some [I 0,I 0,.slice none 0 0]⟩
def z4u:TI:=⟨.struct [(93,0),(3,1),(3,2),(235,3),(40,4),(236,5)],6,some (.agg lf7),some [.pointer none,I 0,I 0,.slice none 0 0,.slice none 0 0,.slice none 0 0]⟩
def z4t:TI:=⟨.struct [(242,0),(126,1)],2,some (.agg [.map,.func]),some [.map none,.nilFunc]⟩
def z4s:TI:=⟨.struct [(245,0),(129,1)],2,some (.agg [.map,.func]),some [.map none,.nilFunc]⟩
def z4r:TI:=⟨.struct [(250,0)],1,some (.agg [.slice]),some [.slice none 0 0]⟩
def z4q:TI:=⟨.struct [(252,0),(3,1)],2,some (.agg [.slice,.int .i64]),some [.slice none 0 0,I 0]⟩
def z4p:TI:=⟨.struct [(259,0),(48,1)],2,some (.agg [.ptr,.slice]),some [.pointer none,.slice none 0 0]⟩
def z4o:TI:=⟨.struct [(9,0),(285,1)],2,some (.agg [.str,.ptr]),some [.string s_,.pointer none]⟩
def z4n:TI:=⟨.struct [(298,0),(3,60)],61,some (.agg lf9),some (List.replicate 61 (I 0))⟩
def z4m:TI:=⟨.struct [(300,0),(3,61)],62,some (.agg z6a),some (List.replicate 62 (I 0))⟩
def z4l:TI:=⟨.struct [(23,0),(3,6),(3,7),(4,8)],9,some (.agg RF),some [.string s_,I 0,I 0,I 0,I 0,I 0,I 0,I 0,.bool false]⟩
def z4k:TI:=⟨.struct [(34,0),(3,4),(3,5),(4,6)],7,some (.agg RE),some [.string s_,.string s_,.slice none 0 0,I 0,I 0,I 0,.bool false]⟩
def z4j:TI:=⟨.arr 2 9,2,some (.agg [.str,.str]),some [.string s_,.string s_]⟩
def z4i:TI:=⟨.struct [(61,0),(61,1),(3,2),(3,3),(64,4)],6,some (.agg z0l),some [.slice none 0 0,.slice none 0 0,I 0,I 0,.slice none 0 0,.slice none 0 0]⟩
def z4h:TI:=⟨.struct [(3,0),(3,1),(3,2)],3,some (.agg [.int .i64,.int .i64,.int .i64]),some [I 0,I 0,I 0]⟩
def z4g:TI:=⟨.struct [(48,0),(4,1)],2,some (.agg [.slice,.bool]),some [.slice none 0 0,.bool false]⟩
def z4f:TI:=⟨.struct [(377,0),(3,1)],2,some (.agg [.map,.int .i64]),some [.map none,I 0]⟩
def z4e:TI:=⟨.struct [(3,0),(379,1)],3,some (.agg [.int .i64,.map,.int .i64]),some [I 0,.map none,I 0]⟩
def z4d:TI:=⟨.struct [(9,0),(9,1),(263,2)],3,some (.agg [.str,.str,.iface]),some [.string s_,.string s_,.nilIface]⟩
def z4c:TI:=⟨.struct [(9,0)],1,some (.agg [.str]),some [.string s_]⟩
def z4b:TI:=⟨.struct [(17,0),(17,1),(17,2),(9,3)],4,some (.agg [.ptr,.ptr,.ptr,.str]),some [.pointer none,.pointer none,.pointer none,.string s_]⟩
def z4a:TI:=⟨.struct [(488,0)],0,some (.agg []),some []⟩
def z49:TI:=⟨.struct [(12,0),(12,1),(410,2),(491,3),(5,4),(5,5),(492,6),(493,7),(369,8),(494,9),(495,10)],11,some (.agg z64),some [.int .u64 0,.int .u64 0,.int .u32 0,.int .u8 0,.int .u8 0,.int .u8 0,.int .u8 0,.nilFunc,.pointer none,.int .i32 0,.int .i32 0]⟩
def z48:TI:=⟨.struct [(3,0),(9,1),(23,2),(34,8),(3,12),(3,13),(4,14)],15,some (.agg z63),some [I 0,.string s_,.string s_,I 0,I 0,I 0,I 0,I 0,.string s_,.string s_,.slice none 0 0,I 0,I 0,I 0,.bool false]⟩
def z47:TI:=⟨.struct [(9,0),(61,1),(61,2),(3,3),(3,4),(64,5)],7,some (.agg z62),some [.string s_,.slice none 0 0,.slice none 0 0,I 0,I 0,.slice none 0 0,.slice none 0 0]⟩
def z45:TI:=⟨.struct [(9,0),(510,1),(511,2)],4,some (.agg [.str,.ptr,.int .i64,.int .i64]),some [.string s_,.pointer none,I 0,I 0]⟩
def z43:TI:=⟨.struct [(3,0),(9,1),(514,2)],3,some (.agg [.int .i64,.str,.ptr]),some [I 0,.string s_,.pointer none]⟩
def z42:TI:=⟨.struct [(3,0),(3,1),(9,2)],3,some (.agg [.int .i64,.int .i64,.str]),some [I 0,I 0,.string s_]⟩
def z40:TI:=⟨.struct [(3,0),(519,1)],2,some (.agg [.int .i64,.slice]),some [I 0,.slice none 0 0]⟩
def z3Z:TI:=⟨.struct [(24,0)],1,some (.agg [.slice]),some [.slice none 0 0]⟩
def z3Y:TI:=⟨.struct [(3,0),(3,1),(24,2)],3,some (.agg [.int .i64,.int .i64,.slice]),some [I 0,I 0,.slice none 0 0]⟩
def Dt:Tb:=⟨528,379,(.node ⟨.tuple [],1,none,none⟩ (.node tq0 (.node tq1 (.node tq3 (.node tq7 (.node tq0 (.node z4Q (.node tq7 (.node DA (.node DA .nil .nil) .nil) (.node tq0 .nil .nil)) (.node ⟨.tuple [24,28],1,none,none⟩ (.node tq0 .nil .nil) (.node ⟨.tuple [410,410],1,none,none⟩ .nil .nil))) (.node tq7 (.node tq0 (.node z4o .nil .nil) (.node tq0 .nil .nil)) (.node tq0 (.node tq0 .nil .nil) (.node z4c .nil .nil)))) (.node tq0 (.node z4O (.node tq7 (.node tq0 (.node DA .nil .nil) .nil) (.node tq0 .nil .nil)) (.node tq0 (.node z4h .nil .nil) (.node tq0 .nil .nil))) (.node z4J (.node tq7 (.node z4l .nil .nil) (.node tq0 .nil .nil)) (.node ⟨.tuple [9,3,4],1,none,none⟩ (.node tq0 .nil .nil) (.node z2n .nil .nil))))) (.node z4U (.node ⟨.slice 36,1,some eL6,some [.slice none 0 0]⟩ (.node tq0 (.node z4E (.node tq9 (.node ⟨.slice 527,1,some eL6,some [.slice none 0 0]⟩ .nil .nil) .nil) (.node tq0 .nil .nil)) (.node tq0 (.node z4i .nil .nil) (.node tq0 .nil .nil))) (.node z4L (.node tq0 (.node tq0 .nil .nil) (.node ⟨.tuple [48,9],1,none,none⟩ .nil .nil)) (.node tq0 (.node z4g .nil .nil) (.node z4b .nil .nil)))) (.node tq0 (.node z4N (.node z4z (.node ⟨.tuple [179,4],1,none,none⟩ .nil .nil) (.node tq0 .nil .nil)) (.node tq0 (.node tq0 .nil .nil) (.node tq0 .nil .nil))) (.node tq0 (.node z4x (.node tq0 .nil .nil) (.node tq0 .nil .nil)) (.node z4s (.node DA .nil .nil) (.node tq7 .nil .nil)))))) (.node tq4 (.node tq8 (.node z4S (.node tq0 (.node z4G (.node tq7 (.node z43 .nil .nil) .nil) (.node tq7 .nil .nil)) (.node tq0 (.node ⟨.tuple [322,322],1,none,none⟩ .nil .nil) (.node tq0 .nil .nil))) (.node tq7 (.node tq0 (.node tq0 .nil .nil) (.node tq0 .nil .nil)) (.node tq0 (.node ⟨.slice 353,1,some eL6,some [.slice none 0 0]⟩ .nil .nil) (.node tq0 .nil .nil)))) (.node tq0 (.node ⟨.map 3 41,1,some (.one (.map)),some [.map none]⟩ (.node z4B (.node tq0 .nil .nil) (.node ⟨.tuple [3,402],1,none,none⟩ .nil .nil)) (.node ⟨.tuple [210,4],1,none,none⟩ (.node tq0 .nil .nil) (.node z4d .nil .nil))) (.node z4I (.node z4y (.node tq0 .nil .nil) (.node tq0 .nil .nil)) (.node z4t (.node ⟨.tuple [220,4],1,none,none⟩ .nil .nil) (.node tq0 .nil .nil))))) (.node tq7 (.node tq0 (.node tq0 (.node z4C (.node tq0 (.node z3Z .nil .nil) .nil) (.node tq0 .nil .nil)) (.node ⟨.tuple [34,3,4],1,none,none⟩ (.node tq0 .nil .nil) (.node tq0 .nil .nil))) (.node z4K (.node tq0 (.node z4n .nil .nil) (.node ⟨.slice 429,1,some eL6,some [.slice none 0 0]⟩ .nil .nil)) (.node ⟨.slice 504,1,some eL6,some [.slice none 0 0]⟩ (.node tq0 .nil .nil) (.node tq2 .nil .nil)))) (.node IT (.node tq0 (.node tq0 (.node ⟨.tuple [9,28],1,none,none⟩ .nil .nil) (.node tq0 .nil .nil)) (.node IT (.node tq0 .nil .nil) (.node tq0 .nil .nil))) (.node z4H (.node tq0 (.node tq0 .nil .nil) (.node tq0 .nil .nil)) (.node z4r (.node z4f .nil .nil) (.node z48 .nil .nil))))))) (.node tq2 (.node tq4 (.node tq7 (.node z4T (.node tq0 (.node tq0 (.node tq0 (.node z45 .nil .nil) .nil) (.node tq0 .nil .nil)) (.node tq0 (.node tq0 .nil .nil) (.node tq1 .nil .nil))) (.node z4M (.node tq0 (.node tq0 .nil .nil) (.node ⟨.slice 416,1,some eL6,some [.slice none 0 0]⟩ .nil .nil)) (.node tq0 (.node tq0 .nil .nil) (.node ⟨.arr 32 5,32,some (.agg z66),some (List.replicate 32 (.int .u8 0))⟩ .nil .nil)))) (.node ⟨.slice 48,1,some eL6,some [.slice none 0 0]⟩ (.node tq0 (.node tq0 (.node tq0 .nil .nil) (.node tq0 .nil .nil)) (.node z4w (.node tq0 .nil .nil) (.node tq0 .nil .nil))) (.node tq0 (.node tq0 (.node ⟨.tuple [304,4],1,none,none⟩ .nil .nil) (.node tq0 .nil .nil)) (.node tq0 (.node tq7 .nil .nil) (.node z49 .nil .nil))))) (.node tq0 (.node tq0 (.node tq0 (.node z4D (.node tq0 (.node z40 .nil .nil) .nil) (.node tq0 .nil .nil)) (.node tq0 (.node ⟨.tuple [328,4],1,none,none⟩ .nil .nil) (.node ⟨.arr 65 5,65,some (.agg z67),some (List.replicate 65 (.int .u8 0))⟩ .nil .nil))) (.node ⟨.slice 501,1,some eL6,some [.slice none 0 0]⟩ (.node tq0 (.node tq0 .nil .nil) (.node ⟨.other,1,none,none⟩ .nil .nil)) (.node z4v (.node tq0 .nil .nil) (.node z4a .nil .nil)))) (.node tq0 (.node tq0 (.node tq0 (.node tq0 .nil .nil) (.node tq0 .nil .nil)) (.node tq0 (.node tq0 .nil .nil) (.node tq0 .nil .nil))) (.node ⟨.map 3 3,1,some (.one (.map)),some [.map none]⟩ (.node tq0 (.node ⟨.map 9 9,1,some (.one (.map)),some [.map none]⟩ .nil .nil) (.node tq0 .nil .nil)) (.node tq0 (.node ⟨.map 3 4,1,some (.one (.map)),some [.map none]⟩ .nil .nil) (.node tq7 .nil .nil)))))) (.node tq6 (.node z2n (.node z4R (.node tq0 (.node z4F (.node z4p (.node z42 .nil .nil) .nil) (.node tq0 .nil .nil)) (.node tq0 (.node z4j .nil .nil) (.node tq0 .nil .nil))) (.node ⟨.slice 4,1,some eL6,some [.slice none 0 0]⟩ (.node tq0 (.node tq0 .nil .nil) (.node ⟨.arr 24 5,24,some (.agg z69),some (List.replicate 24 (.int .u8 0))⟩ .nil .nil)) (.node tq0 (.node tq0 .nil .nil) (.node tq0 .nil .nil)))) (.node tq7 (.node tq0 (.node z4A (.node tq0 .nil .nil) (.node tq0 .nil .nil)) (.node tq0 (.node tq0 .nil .nil) (.node tq0 .nil .nil))) (.node tq0 (.node DA (.node z4k .nil .nil) (.node tq0 .nil .nil)) (.node ⟨.map 9 309,1,some (.one (.map)),some [.map none]⟩ (.node tq0 .nil .nil) (.node tq7 .nil .nil))))) (.node ⟨.tuple [27,28],1,none,none⟩ (.node ⟨.tuple [3,3,3,3],1,none,none⟩ (.node z4P (.node ⟨.map 3 220,1,some (.one (.map)),some [.map none]⟩ (.node tq0 (.node z3Y .nil .nil) .nil) (.node tq0 .nil .nil)) (.node ⟨.tuple [64,28],1,none,none⟩ (.node tq0 .nil .nil) (.node tq0 .nil .nil))) (.node tq0 (.node tq0 (.node z4m .nil .nil) (.node DA .nil .nil)) (.node z4u (.node tq0 .nil .nil) (.node tq0 .nil .nil)))) (.node ⟨.slice 60,1,some eL6,some [.slice none 0 0]⟩ (.node tq7 (.node tq0 (.node tq7 .nil .nil) (.node tq7 .nil .nil)) (.node tq0 (.node tq5 .nil .nil) (.node tq0 .nil .nil))) (.node tq0 (.node tq0 (.node tq0 .nil .nil) (.node tq0 .nil .nil)) (.node z4q (.node z4e .nil .nil) (.node z47 .nil .nil)))))))) (.node tq1 (.node ⟨.bool,1,some eB6,some [.bool false]⟩ (.node tq3 (.node tq7 (.node ⟨.slice 38,1,some eL6,some [.slice none 0 0]⟩ (.node z4Q (.node tq0 (.node DA (.node z45 .nil .nil) .nil) (.node tq0 .nil .nil)) (.node tq0 (.node tq0 .nil .nil) (.node tq0 .nil .nil))) (.node ⟨.slice 500,1,some eL6,some [.slice none 0 0]⟩ (.node tq0 (.node ⟨.tuple [287,4],1,none,none⟩ .nil .nil) (.node tq7 .nil .nil)) (.node tq0 (.node tq0 .nil .nil) (.node z4c .nil .nil)))) (.node ⟨.slice 5,1,some eL6,some [.slice none 0 0]⟩ (.node tq0 (.node tq0 (.node ⟨.tuple [64,4],1,none,none⟩ .nil .nil) (.node tq0 .nil .nil)) (.node tq0 (.node tq0 .nil .nil) (.node ⟨.tuple [412,263],1,none,none⟩ .nil .nil))) (.node z4J (.node ⟨.tuple [175,4],1,none,none⟩ (.node z4l .nil .nil) (.node tq7 .nil .nil)) (.node tq0 (.node tq0 .nil .nil) (.node z49 .nil .nil))))) (.node ⟨.slice 3,1,some eL6,some [.slice none 0 0]⟩ (.node ⟨.slice 9,1,some eL6,some [.slice none 0 0]⟩ (.node tq7 (.node z4D (.node ⟨.tuple [3,263],1,none,none⟩ (.node z40 .nil .nil) .nil) (.node tq0 .nil .nil)) (.node ⟨.tuple [9,4],1,none,none⟩ (.node z4i .nil .nil) (.node ⟨.arr 20 412,20,some (.agg z68),some (List.replicate 20 (.int .u64 0))⟩ .nil .nil))) (.node tq7 (.node tq0 (.node tq0 .nil .nil) (.node tq0 .nil .nil)) (.node ⟨.slice 503,1,some eL6,some [.slice none 0 0]⟩ (.node z4g .nil .nil) (.node ⟨.arr 0 16,0,some (.agg []),some []⟩ .nil .nil)))) (.node tq0 (.node z4N (.node ⟨.tuple [151,4],1,none,none⟩ (.node tq0 .nil .nil) (.node tq0 .nil .nil)) (.node tq0 (.node ⟨.arr 4 3,4,some (.agg [.int .i64,.int .i64,.int .i64,.int .i64]),some [I 0,I 0,I 0,I 0]⟩ .nil .nil) (.node tq0 .nil .nil))) (.node ⟨.map 3 287,1,some (.one (.map)),some [.map none]⟩ (.node z4x (.node ⟨.map 9 3,1,some (.one (.map)),some [.map none]⟩ .nil .nil) (.node tq0 .nil .nil)) (.node tq0 (.node tq0 .nil .nil) (.node tq7 .nil .nil)))))) (.node tq5 (.node tq9 (.node z4S (.node tq7 (.node z4F (.node z4p (.node z43 .nil .nil) .nil) (.node ⟨.tuple [9,9],1,none,none⟩ .nil .nil)) (.node tq0 (.node tq0 .nil .nil) (.node tq7 .nil .nil))) (.node ⟨.slice 210,1,some eL6,some [.slice none 0 0]⟩ (.node ⟨.tuple [3,28],1,none,none⟩ (.node tq0 .nil .nil) (.node tq0 .nil .nil)) (.node tq0 (.node tq0 .nil .nil) (.node tq0 .nil .nil)))) (.node tq0 (.node tq0 (.node z4A (.node tq0 .nil .nil) (.node tq0 .nil .nil)) (.node tq0 (.node ⟨.arr 2 3,2,some (.agg [.int .i64,.int .i64]),some [I 0,I 0]⟩ .nil .nil) (.node z4d .nil .nil))) (.node tq0 (.node DA (.node z4k .nil .nil) (.node ⟨.slice 61,1,some eL6,some [.slice none 0 0]⟩ .nil .nil)) (.node z4t (.node tq7 .nil .nil) (.node tq7 .nil .nil))))) (.node tq1 (.node tq0 (.node z4P (.node z4C (.node tq0 (.node z3Y .nil .nil) .nil) (.node tq0 .nil .nil)) (.node tq0 (.node ⟨.slice 335,1,some eL6,some [.slice none 0 0]⟩ .nil .nil) (.node tq0 .nil .nil))) (.node tq7 (.node ⟨.slice 179,1,some eL6,some [.slice none 0 0]⟩ (.node z4n .nil .nil) (.node DA .nil .nil)) (.node ⟨.slice 505,1,some eL6,some [.slice none 0 0]⟩ (.node tq0 .nil .nil) (.node tq2 .nil .nil)))) (.node IT (.node tq0 (.node tq0 (.node tq0 .nil .nil) (.node tq5 .nil .nil)) (.node IT (.node tq0 .nil .nil) (.node tq0 .nil .nil))) (.node tq7 (.node tq0 (.node tq0 .nil .nil) (.node tq0 .nil .nil)) (.node z4r (.node z4e .nil .nil) (.node z47 .nil .nil))))))) (.node tq2 (.node tq4 (.node tq8 (.node z4T (.node tq7 (.node z4G (.node tq0 (.node tq7 .nil .nil) .nil) (.node tq0 .nil .nil)) (.node tq0 (.node ⟨.slice 326,1,some eL6,some [.slice none 0 0]⟩ .nil .nil) (.node ⟨.tuple [2,263],1,none,none⟩ .nil .nil))) (.node z4M (.node tq0 (.node ⟨.tuple [3,4],1,none,none⟩ .nil .nil) (.node tq0 .nil .nil)) (.node tq0 (.node tq0 .nil .nil) (.node ⟨.arr 64 5,64,some (.agg z65),some (List.replicate 64 (.int .u8 0))⟩ .nil .nil)))) (.node ⟨.tuple [40,28],1,none,none⟩ (.node tq0 (.node z4B (.node tq0 .nil .nil) (.node tq1 .nil .nil)) (.node z4w (.node tq0 .nil .nil) (.node tq0 .nil .nil))) (.node z4I (.node z4y (.node tq0 .nil .nil) (.node tq0 .nil .nil)) (.node ⟨.map 9 304,1,some (.one (.map)),some [.map none]⟩ (.node tq0 .nil .nil) (.node tq0 .nil .nil))))) (.node tq0 (.node ⟨.tuple [24,24],1,none,none⟩ (.node tq7 (.node ⟨.map 9 328,1,some (.one (.map)),some [.map none]⟩ (.node tq0 (.node z3Z .nil .nil) .nil) (.node tq0 .nil .nil)) (.node tq0 (.node tq0 .nil .nil) (.node tq0 .nil .nil))) (.node z4K (.node tq0 (.node ⟨.arr 60 3,60,some (.agg lf8),some (List.replicate 60 (I 0))⟩ .nil .nil) (.node tq0 .nil .nil)) (.node z4v (.node tq0 .nil .nil) (.node z4a .nil .nil)))) (.node tq0 (.node tq0 (.node tq0 (.node tq0 .nil .nil) (.node ⟨.int .u32,1,some (.one (.int .u32)),some [.int .u32 0]⟩ .nil .nil)) (.node tq0 (.node tq0 .nil .nil) (.node tq0 .nil .nil))) (.node z4H (.node ⟨.tuple [172,28],1,none,none⟩ (.node tq0 .nil .nil) (.node tq5 .nil .nil)) (.node ⟨.slice 375,1,some eL6,some [.slice none 0 0]⟩ (.node z4f .nil .nil) (.node z48 .nil .nil)))))) (.node tq6 (.node z4U (.node z4R (.node tq7 (.node z4E (.node tq9 (.node z42 .nil .nil) .nil) (.node tq0 .nil .nil)) (.node ⟨.tuple [23,3,3,4],1,none,none⟩ (.node z4j .nil .nil) (.node tq0 .nil .nil))) (.node z4L (.node tq0 (.node tq0 .nil .nil) (.node tq0 .nil .nil)) (.node ⟨.tuple [36,28],1,none,none⟩ (.node tq7 .nil .nil) (.node z4b .nil .nil)))) (.node ⟨.tuple [53,3],1,none,none⟩ (.node tq7 (.node z4z (.node tq0 .nil .nil) (.node tq0 .nil .nil)) (.node ⟨.tuple [3,3],1,none,none⟩ (.node tq0 .nil .nil) (.node tq0 .nil .nil))) (.node tq0 (.node tq7 (.node ⟨.tuple [309,4],1,none,none⟩ .nil .nil) (.node tq0 .nil .nil)) (.node z4s (.node DA .nil .nil) (.node tq7 .nil .nil))))) (.node tq0 (.node tq0 (.node z4O (.node ⟨.map 9 143,1,some (.one (.map)),some [.map none]⟩ (.node tq0 (.node DA .nil .nil) .nil) (.node tq0 .nil .nil)) (.node tq0 (.node z4h .nil .nil) (.node tq7 .nil .nil))) (.node ⟨.slice 502,1,some eL6,some [.slice none 0 0]⟩ (.node tq0 (.node z4m .nil .nil) (.node tq0 .nil .nil)) (.node z4u (.node tq0 .nil .nil) (.node z2n .nil .nil)))) (.node ⟨.slice 115,1,some eL6,some [.slice none 0 0]⟩ (.node tq0 (.node tq0 (.node z4o .nil .nil) (.node tq0 .nil .nil)) (.node ⟨.tuple [143,4],1,none,none⟩ (.node tq0 .nil .nil) (.node tq7 .nil .nil))) (.node tq0 (.node tq0 (.node tq0 .nil .nil) (.node tq0 .nil .nil)) (.node z4q (.node tq0 .nil .nil) (.node tq7 .nil .nil))))))))),(.node none (.node none (.node (some rB) (.node (some (.one (.agg lf0))) (.node none (.node (some rL) (.node (some rB) (.node (some rB) (.node (some (.tup [])) .nil .nil) .nil) (.node (some rL) (.node (some (.tup [])) .nil .nil) .nil)) (.node (some rL) (.node (some (.tup [eL6,eI6])) (.node (some (.tup [])) .nil .nil) .nil) (.node (some rI) .nil .nil))) (.node (some (.one (.one (.func)))) (.node none (.node none (.node (some rI) .nil .nil) .nil) (.node (some rB) .nil .nil)) (.node (some rI) (.node (some rL) .nil .nil) (.node (some rL) .nil .nil)))) (.node (some rP) (.node (some rL) (.node (some rI) (.node none (.node (some rI) .nil .nil) .nil) (.node (some rS) .nil .nil)) (.node (some (.tup [(.agg [.slice,.slice]),eI6])) (.node (some (.tup [(.agg RE),eB6])) .nil .nil) (.node (some (.one (.one (.func)))) .nil .nil))) (.node (some (.one (.one (.func)))) (.node (some (.tup [eL6,eI6])) (.node (some rI) (.node (some rS) .nil .nil) .nil) (.node (some (.tup [eI6,eB6])) .nil .nil)) (.node (some (.one (.one (.func)))) (.node (some rI) (.node (some (.tup [])) .nil .nil) .nil) .nil)))) (.node (some (.tup [eL6,eL6])) (.node (some rB) (.node (some rL) (.node (some rB) (.node (some rI) .nil .nil) (.node (some (.tup [])) .nil .nil)) (.node (some (.tup [(.agg lf0),eI6,eI6,eB6])) (.node (some rL) .nil .nil) (.node (some rL) .nil .nil))) (.node (some rB) (.node (some rL) (.node (some rB) (.node (some rL) .nil .nil) .nil) (.node (some rL) .nil .nil)) (.node (some (.tup [])) (.node (some rI) (.node (some rL) .nil .nil) .nil) (.node (some (.tup [])) .nil .nil)))) (.node (some rP) (.node (some (.tup [eL6,eL6])) (.node (some rS) (.node (some rI) .nil .nil) (.node (some (.tup [eI6,(.one (.iface))])) (.node (some (.tup [])) .nil .nil) .nil)) (.node (some rI) (.node (some (.one (.agg [.slice,.slice]))) .nil .nil) (.node (some rL) .nil .nil))) (.node (some rB) (.node (some rI) (.node (some (.tup [eS6,eI6])) (.node (some rL) .nil .nil) .nil) (.node (some rI) .nil .nil)) (.node (some (.tup [eS6,eI6,eB6])) (.node (some (.one (.one (.func)))) .nil .nil) .nil))))) (.node none (.node (some rI) (.node (some (.tup [eL6,eI6])) (.node (some rL) (.node (some rB) (.node (some rB) (.node (some rL) .nil .nil) .nil) (.node (some rL) .nil .nil)) (.node (some (.tup [])) (.node (some (.one (.one (.func)))) .nil .nil) (.node (some rL) .nil .nil))) (.node none (.node none (.node (some rS) (.node (some rL) .nil .nil) .nil) .nil) (.node (some rI) (.node (some rI) (.node (some (.tup [])) .nil .nil) .nil) (.node (some (.one (.one (.func)))) .nil .nil)))) (.node (some rP) (.node (some rL) (.node (some rS) (.node (some rI) .nil .nil) (.node (some (.one (.agg [.str,.str,.slice,.int .i64]))) .nil .nil)) (.node (some (.one (.agg [.slice,.slice]))) (.node (some (.one (.one (.func)))) .nil .nil) (.node (some (.one (.one (.func)))) .nil .nil))) (.node (some rB) (.node (some rS) (.node (some rI) (.node (some (.tup [])) .nil .nil) .nil) (.node (some (.tup [])) .nil .nil)) (.node (some (.tup [(.agg lf1),eI6])) .nil .nil)))) (.node (some rL) (.node (some rI) (.node (some rL) (.node (some rB) .nil (.node (some rL) .nil .nil)) (.node (some rP) (.node (some (.tup [(.agg RF),eB6])) .nil .nil) (.node (some (.tup [eS6,eS6])) .nil .nil))) (.node (some rB) (.node (some (.tup [eP6,eB6])) (.node (some (.one (.agg [.int .i64,.int .i64,.int .i64,.str]))) (.node (some (.tup [])) .nil .nil) .nil) .nil) (.node (some rL) (.node (some rI) .nil .nil) .nil))) (.node (some rS) (.node (some rL) (.node (some rL) (.node (some (.one (.agg [.str,.str,.slice,.int .i64]))) .nil .nil) (.node (some rB) .nil .nil)) (.node (some (.tup [eI6,eI6])) (.node (some rB) .nil .nil) (.node (some rS) .nil .nil))) (.node (some rP) (.node (some (.tup [eL6,eI6])) (.node (some (.tup [eI6,eB6])) (.node (some rB) .nil .nil) .nil) (.node (some (.one (.one (.func)))) .nil .nil)) (.node (some (.tup [])) (.node (some rL) .nil .nil) .nil)))))) (.node none (.node none (.node (some (.tup [eP6,eI6])) (.node none (.node (some rL) (.node (some rB) (.node (some rB) (.node (some (.tup [])) .nil .nil) .nil) (.node (some rL) .nil .nil)) (.node (some rL) (.node (some (.tup [])) (.node (some (.one (.one (.func)))) .nil .nil) .nil) (.node (some (.tup [])) .nil .nil))) (.node (some (.tup [])) (.node (some rL) (.node (some (.tup [(.agg [.slice,.slice]),eB6])) (.node (some rI) .nil .nil) .nil) (.node none (.node (some (.tup [])) .nil .nil) .nil)) (.node (some (.tup [eL6,eL6])) (.node (some (.one (.one (.func)))) .nil .nil) (.node (some (.tup [])) .nil .nil)))) (.node (some rP) (.node (some rL) (.node (some rS) .nil (.node (some (.one (.agg lf0))) .nil .nil)) (.node (some rS) (.node (some (.tup [eS6,eI6])) .nil .nil) (.node (some (.tup [])) .nil .nil))) (.node (some rP) (.node (some rI) (.node (some (.tup [(.agg [.int .i64,.int .i64,.int .i64,.str]),eB6])) (.node (some rB) .nil .nil) .nil) (.node (some rB) .nil .nil)) (.node (some rL) (.node (some rI) .nil .nil) .nil)))) (.node (some rI) (.node (some rB) (.node (some rL) (.node (some rB) (.node (some rI) .nil .nil) (.node (some (.one (.one (.func)))) .nil .nil)) (.node (some (.tup [eS6,eB6])) (.node (some (.tup [])) .nil .nil) (.node (some rL) .nil .nil))) (.node (some rB) (.node (some rL) (.node (some (.one (.agg [.int .i64,.int .i64,.int .i64,.str]))) (.node (some (.tup [])) .nil .nil) .nil) .nil) (.node (some rL) (.node (some (.one (.agg [.int .i64,.int .i64,.int .i64,.int .i64]))) (.node (some rL) .nil .nil) .nil) .nil))) (.node (some rI) (.node (some rL) (.node (some (.tup [eI6,eI6])) (.node (some (.tup [])) .nil .nil) (.node (some rB) .nil .nil)) (.node (some rB) (.node (some (.tup [eL6,eL6])) .nil .nil) (.node (some rL) .nil .nil))) (.node (some rP) (.node (some rL) (.node (some rI) (.node (some rI) .nil .nil) .nil) (.node (some rL) .nil .nil)) (.node (some rB) (.node (some rL) .nil .nil) .nil))))) (.node (some rB) (.node (some rL) (.node none (.node (some rL) (.node (some rB) (.node (some rB) (.node (some rL) .nil .nil) .nil) (.node (some (.tup [])) .nil .nil)) (.node (some rI) (.node (some rL) .nil .nil) (.node (some (.one (.one (.func)))) .nil .nil))) (.node none (.node (some rS) (.node (some (.tup [eS6,eB6])) (.node (some (.tup [])) .nil .nil) .nil) .nil) (.node (some rB) (.node (some rI) (.node (some rI) .nil .nil) .nil) (.node (some rI) .nil .nil)))) (.node (some rP) (.node (some rL) (.node (some rS) (.node (some (.tup [])) .nil .nil) (.node (some rI) .nil .nil)) (.node (some (.tup [(.agg lf6),eB6])) (.node (some (.one (.one (.func)))) .nil .nil) (.node (some rL) .nil .nil))) (.node (some rP) (.node (some rB) (.node (some (.one (.one (.func)))) (.node (some (.tup [])) .nil .nil) .nil) (.node (some rS) .nil .nil)) (.node (some (.tup [])) .nil .nil)))) (.node (some (.tup [eI6,eI6,eI6,eI6])) (.node (some rB) (.node (some rL) (.node (some rI) .nil (.node (some rI) .nil .nil)) (.node (some (.tup [(.agg [.str,.str,.slice,.int .i64]),eI6,eB6])) (.node (some rS) .nil .nil) (.node (some (.tup [])) .nil .nil))) (.node (some (.one (.one (.func)))) (.node (some rS) (.node (some rP) (.node (some (.one (.one (.func)))) .nil .nil) .nil) (.node (some (.tup [(.agg [.slice,.slice]),eB6])) .nil .nil)) (.node (some (.one (.one (.func)))) (.node (some rP) (.node (some (.tup [])) .nil .nil) .nil) .nil))) (.node (some rS) (.node (some (.tup [eI6,eI6,eI6,eI6])) (.node (some (.tup [eI6,eI6])) (.node none (.node (some (.tup [])) .nil .nil) .nil) (.node (some rB) .nil .nil)) (.node (some (.one (.agg [.int .i64,.int .i64]))) (.node (some rL) .nil .nil) (.node (some rI) .nil .nil))) (.node (some (.tup [(.agg lf5),eB6])) (.node (some rL) (.node (some rL) (.node (some rL) .nil .nil) .nil) (.node (some rI) .nil .nil)) (.node (some (.tup [])) (.node (some rL) (.node (some (.tup [])) .nil .nil) .nil) .nil)))))))⟩
def Tok:XZ Pr Dt:=IW (by kernel_rfl) (by kernel_rfl) (by kernel_rfl)
abbrev CV(f:FuncId)(a:List SV)(K:Value→PT)(w:World):Prop:=Calls Pr f (Jx a).toArray w λe w2=>∃v,e = .returned v∧K v w2
def zC{f:FuncId}(fn:Func)(an:Ann)(args:List SV){F:PT}(h:F w)(h1:Pr.funcs[f]? = some fn:=by kernel_rfl)(h2:okF args.length fn=true:=by kernel_rfl)(h3:NZ Pr Dt fn an args K=F:=by kernel_rfl):CV f args K w:=z0N Tok h1 h2 ((congrFun h3 w).mpr h)
def TM:Ann:=(.q2 (.q2 (.q2 (.q2 (.q2 (.q2 (.seq (.q2 (.one [(11,eI6)] .auto) none) (.seq (.q2 (.one [(12,eI6)] (.seq (.q2 (.cond .auto .auto) none) (.q2 .auto (some [])) none)) none) .auto (some [])) none) none) none) none) none) none) none)
def Ot(p0:ht0)(p1:Int)(p2:Sl)(K:Value→PT):PT:=
  L.new [.string p0.1,I p0.2.1,I p0.2.2.1,I p0.2.2.2.1,I p0.2.2.2.2.1,I p0.2.2.2.2.2.1] zA λb1=>L.call Pr vb [] rB λ(x2:Bool)=>L.ite (!x2) (K (.bool false))<|L.load (.agg lf0) (⟨b1,0,none⟩) λ(x3:pt0)=>L.call Pr uk [(qa0 x3),I 0] (.one (.agg lf0)) λ(x4:pt0)=>L.new [.string s_,I 0,I 0,I 0,I 0,I 0] zA λb5=>L.store (⟨b5,0,none⟩) [.string x4.1,I x4.2.1,I x4.2.2.1,I x4.2.2.2.1,I x4.2.2.2.2.1,I x4.2.2.2.2.2.1]<|L.call Pr YR [I p1,I 6] rI λ(x6:Int)=>L.call Pr UR [I (Wi (1+x6)),I 8,I 50] (.tup [eP6,eI6]) λ(x7:Option Addr×Int×Unit)=>L.ite ((x7.1).isNone) (K (.bool false))<|L.ite (x7.2.1 != 0) (K (.bool false))<|L.load (.agg lf0) (⟨b5,0,none⟩) λ(x8:pt0)=>L.new [.string Gs,.string s_,I 100] zG λb9=>L.new [I 1,.string s_,.string s_,I 0,I 0,.string x8.1,I x8.2.1,I x8.2.2.1,I x8.2.2.2.1,I x8.2.2.2.2.1,I x8.2.2.2.2.2.1,.string s_,.string s_,.slice none 0 0,I 0,I 2,.string s_,.string s_,I 0,I 0,.string s_,I 0,I 0,I 0,I 0,I 0,.string Ya,.string QV,.slice (some ⟨b9,0,none⟩) 1 1,I 0,I 10,.string QV,.string s_,I 0,I 0,.string s_,I 0,I 0,I 0,I 0,I 0,.string s_,.string s_,.slice none 0 0,I 0,I 13,.string Gs,.string s_,I 0,I 0,.string s_,I 0,I 0,I 0,I 0,I 0,.string s_,.string s_,.slice none 0 0,I 0,I 6,.string s_,.string s_,I 1,I 0,.string s_,I 0,I 0,I 0,I 0,I 0,.string s_,.string s_,.slice none 0 0,I 0,I 11,.string Ya,.string s_,I 0,I 0,.string s_,I 0,I 0,I 0,I 0,I 0,.string s_,.string s_,.slice none 0 0,I 0] zq λb10=>L.loop (Y:=Int×Unit) (0,()) λy11 again12=>L.ite (decide (y11.1<((6:Nat):Int))) (L.idx (some ⟨b10,0,none⟩) y11.1 6 15 λa13=>L.load (.agg lf1) a13 λ(x14:pt1)=>L.call Pr zl [.pointer x7.1,(qa1 x14)] rL λ(x15:Sl)=>again12 (Wi (y11.1+1),()))<|L.join (Y:=Unit) (λk16=>L.loop (Y:=Int×Unit) (0,()) λy18 again19=>L.ite (decide (y18.1<((p2.len:Nat):Int))) (L.ite (decide (y18.1<30)) (L.join (Y:=Unit) (λk20=>L.idx p2.a y18.1 p2.len 1 λa22=>L.load eI6 a22 λ(x23:Int)=>L.guard (6≠(0:Int))<|L.idx p2.a y18.1 p2.len 1 λa24=>L.load eI6 a24 λ(x25:Int)=>L.call Pr YR [I x25,I 6] rI λ(x26:Int)=>L.ite (x26 == 0) (L.call Pr zl [.pointer x7.1,.agg #[I 12,.string Gs,.string s_,I 0,I 0,.string s_,I 0,I 0,I 0,I 0,I 0,.string s_,.string s_,.slice none 0 0,I 0]] rL λ(x27:Sl)=>k20 (()))<|L.ite (x26 == 1) (L.call Pr zl [.pointer x7.1,.agg #[I 13,.string Gs,.string s_,I 0,I 0,.string s_,I 0,I 0,I 0,I 0,I 0,.string s_,.string s_,.slice none 0 0,I 0]] rL λ(x28:Sl)=>k20 (()))<|L.ite (x26 == 2) (L.call Pr YR [I (Wi (Int.tdiv x23 6)),I 8] rI λ(x29:Int)=>L.call Pr zl [.pointer x7.1,.agg #[I 7,.string s_,.string s_,I (Wi (1+x29)),I 0,.string s_,I 0,I 0,I 0,I 0,I 0,.string s_,.string s_,.slice none 0 0,I 0]] rL λ(x30:Sl)=>k20 (()))<|L.ite (x26 == 3) (L.call Pr YR [I (Wi (Int.tdiv x23 6)),I 12] rI λ(x31:Int)=>L.call Pr zl [.pointer x7.1,.agg #[I 6,.string s_,.string s_,I (Wi (1+x31)),I 0,.string s_,I 0,I 0,I 0,I 0,I 0,.string s_,.string s_,.slice none 0 0,I 0]] rL λ(x32:Sl)=>k20 (()))<|L.call Pr YR [I (Wi (Int.tdiv x23 6)),I 100] rI λ(x33:Int)=>L.call Pr zl [.pointer x7.1,.agg #[I 4,.string Ya,.string s_,I (Wi (y18.1+1)),I x33,.string s_,I 0,I 0,I 0,I 0,I 0,.string s_,.string s_,.slice none 0 0,I 0]] rL λ(x34:Sl)=>k20 (())) λz21=>again19 (Wi (y18.1+1),()))<|k16 (()))<|k16 (())) λz17=>L.call Pr JA [.pointer x7.1,.string Gs] (.tup [eL6,eL6]) λ(x35:Sl×Sl×Unit)=>L.load eI6 (Ad6 b5 2) λ(x36:Int)=>L.call Pr OP [I x36,I ((x35.1.len:Nat):Int)] rI λ(x37:Int)=>L.ite (decide (x37<0)) (K (.bool false))<|L.ite (decide (x37>50)) (K (.bool false))<|L.call Pr GE [.pointer x7.1,I x37] rL λ(x38:Sl)=>L.call Pr XO [.pointer x7.1] (.tup [eI6,eI6,eI6,eI6]) λ(x39:Int×Int×Int×Int×Unit)=>L.ite (x39.2.1 == 0) (L.ite (x39.2.2.1 == 0) (K (.bool (x39.1 == x39.2.2.2.1)))<|K (.bool false))<|K (.bool false)
def TF(p0:ht0)(p1:Int)(p2:Sl)(h:Ot p0 p1 p2 K w):CV Oh [.ag (qc0 p0),.v (.int .i64 p1),.v (.slice p2.a p2.len p2.cap)] K w:=zC Tryz.f3 TM _ h
def Or  (K:Value→PT):PT:=
  L.call Pr UR [I 2,I 1,I 3] (.tup [eP6,eI6]) λ(x1:Option Addr×Int×Unit)=>L.new [.int .u8 0,.int .u8 1,.int .u8 9] qO λb2=>L.call Pr pN [I 2,I 1,I 3,.slice (some ⟨b2,0,none⟩) 3 3] (.tup [eL6,eI6]) λ(x3:Sl×Int×Unit)=>L.ite (!(x1.1).isNone) (L.ite (x1.2.1 == 0) (L.ite (x3.2.1 == 0) (L.ite (((x3.1.len:Nat):Int) == 1) (L.call Pr zl [.pointer x1.1,.agg #[I 9,.string s_,.string s_,I 0,I 0,.string s_,I 0,I 0,I 0,I 0,I 0,.string s_,.string s_,.slice none 0 0,I 0]] rL λ(x4:Sl)=>L.call Pr vd [Sv6 x4,Sv6 x3.1] rB λ(x5:Bool)=>L.ite x5 (L.new [.string MQ,I 100] zW λb6=>L.call Pr OI [.agg #[.slice (some ⟨b6,0,none⟩) 1 1,.slice none 0 0]] rB λ(x7:Bool)=>K (.bool x7))<|K (.bool false))<|K (.bool false))<|K (.bool false))<|K (.bool false))<|K (.bool false)
def TE(h:Or  K w):CV vb [] K w:=zC Tryz.f6 .auto _ h
def kW(p0:ht0)(p1:Int)(K:Value→PT):PT:=
  L.new [.string p0.1,I p0.2.1,I p0.2.2.1,I p0.2.2.2.1,I p0.2.2.2.2.1,I p0.2.2.2.2.2.1] zA λb1=>L.new [.string s_,I 0,I 0,I 0,I 0,I 0] zA λb2=>L.new [.string QV,.string Wj,.string Wk] zc λb3=>L.call Pr yW [I p1,I 3] rI λ(x4:Int)=>L.idx (some ⟨b3,0,none⟩) x4 3 1 λa5=>L.load eS6 a5 λ(x6:B0)=>L.store (Ad6 b1 0) [.string x6]<|L.load eI6 (Ad6 b1 1) λ(x7:Int)=>L.call Pr yW [I x7,I 256] rI λ(x8:Int)=>L.store (Ad6 b1 1) [I x8]<|L.load eI6 (Ad6 b1 2) λ(x9:Int)=>L.call Pr yW [I x9,I 8] rI λ(x10:Int)=>L.store (Ad6 b1 2) [I (Wi (1+x10))]<|L.load eI6 (Ad6 b1 4) λ(x11:Int)=>L.call Pr yW [I x11,I 10] rI λ(x12:Int)=>L.store (Ad6 b1 4) [I (Wi (1+x12))]<|L.load eI6 (Ad6 b1 3) λ(x13:Int)=>L.load eI6 (Ad6 b1 4) λ(x14:Int)=>L.call Pr yW [I x13,I (Wi (x14+1))] rI λ(x15:Int)=>L.store (Ad6 b1 3) [I x15]<|L.load eI6 (Ad6 b1 5) λ(x16:Int)=>L.call Pr yW [I x16,I 31] rI λ(x17:Int)=>L.store (Ad6 b1 5) [I x17]<|L.load (.agg lf0) (⟨b1,0,none⟩) λ(x18:pt0)=>L.store (⟨b2,0,none⟩) [.string x18.1,I x18.2.1,I x18.2.2.1,I x18.2.2.2.1,I x18.2.2.2.2.1,I x18.2.2.2.2.2.1]<|L.load (.agg lf0) (⟨b2,0,none⟩) λ(x19:pt0)=>K ((qa0 x19))
def MF(p0:ht0)(p1:Int)(h:kW p0 p1 K w):CV uk [.ag (qc0 p0),.v (.int .i64 p1)] K w:=zC Tryz.f7 .auto _ h
def Tm(p0 p1 p2:Int)(K:Value→PT):PT:=
  L.call Pr Jr [I p0,I 1,I 30] rB λ(x1:Bool)=>L.ite (!x1) (K (.tuple #[.pointer none,I 2]))<|L.call Pr Jr [I p1,I 0,I 8] rB λ(x2:Bool)=>L.ite (!x2) (K (.tuple #[.pointer none,I 2]))<|L.call Pr Jr [I p2,I 1,I 50] rB λ(x3:Bool)=>L.ite (!x3) (K (.tuple #[.pointer none,I 2]))<|L.call Pr FE [I p0] rP λ(x4:Option Addr)=>L.call Pr FC [] rP λ(x5:Option Addr)=>L.call Pr FB [] rP λ(x6:Option Addr)=>L.call Pr pP [] rP λ(x7:Option Addr)=>L.call Pr pQ [.pointer x4,I p1,I p2] rP λ(x8:Option Addr)=>L.sem Pr (.one (.one .map)) (Instr.makeMap ZJ none) λ(m9:Option Nat)=>L.new [.pointer x5,.pointer x6,.pointer x7,.pointer x4,.pointer x8,.map m9,I 0] ft λb10=>K (.tuple #[.pointer (some (⟨b10,0,none⟩)),I 0])
def LK(p0 p1 p2:Int)(h:Tm p0 p1 p2 K w):CV UR [.v (.int .i64 p0),.v (.int .i64 p1),.v (.int .i64 p2)] K w:=zC Tryz.f8 .auto _ h
def PQ:Ann:=(.q2 (.q2 (.q2 .auto (some [(5,eI6)])) none) none)
def oJ(p0 p1:Int)(K:Value→PT):PT:=
  L.guard (p1≠(0:Int))<|L.join (Y:=Int×Unit) (λk1=>L.ite (decide ((Int.tmod p0 p1)<0)) (k1 (Wi ((Int.tmod p0 p1)+p1),()))<|k1 (Int.tmod p0 p1,())) λz2=>K (I z2.1)
def PE(p0 p1:Int)(h:oJ p0 p1 K w):CV YR [.v (.int .i64 p0),.v (.int .i64 p1)] K w:=zC Tryz.f9 PQ _ h
def om(p0:Option Addr)(p1:ht1)(K:Value→PT):PT:=
  L.new [I p1.1,.string p1.2.1,.string p1.2.2.1,I p1.2.2.2.1,I p1.2.2.2.2.1,.string p1.2.2.2.2.2.1,I p1.2.2.2.2.2.2.1,I p1.2.2.2.2.2.2.2.1,I p1.2.2.2.2.2.2.2.2.1,I p1.2.2.2.2.2.2.2.2.2.1,I p1.2.2.2.2.2.2.2.2.2.2.1,.string p1.2.2.2.2.2.2.2.2.2.2.2.1,.string p1.2.2.2.2.2.2.2.2.2.2.2.2.1,Sv6 p1.2.2.2.2.2.2.2.2.2.2.2.2.2.1,I p1.2.2.2.2.2.2.2.2.2.2.2.2.2.2.1] zq λb1=>L.load (.agg lf1) (⟨b1,0,none⟩) λ(x2:pt1)=>L.call Pr Vz [(qa1 x2)] rI λ(x3:Int)=>L.ite (x3 != 0) (L.call Pr xL [I x3] rS λ(x4:B0)=>L.new [.string x4] zc λb5=>L.call Pr zQ [.string Hb,.slice (some ⟨b5,0,none⟩) 1 1] rS λ(x6:B0)=>L.new [.string x6] zc λb7=>K (.slice (some ⟨b7,0,none⟩) 1 1))<|L.sem Pr (.one (.one .map)) (Instr.makeMap zy none) λ(m8:Option Nat)=>L.semU Pr (Instr.mapUpdate zy (.map m8) (I 1) (.func (.func Yp) #[.pointer p0] #[]))<|L.semU Pr (Instr.mapUpdate zy (.map m8) (I 2) (.func (.func YD) #[.pointer p0] #[]))<|L.semU Pr (Instr.mapUpdate zy (.map m8) (I 3) (.func (.func Qe) #[.pointer p0] #[]))<|L.semU Pr (Instr.mapUpdate zy (.map m8) (I 4) (.func (.func Yq) #[.pointer p0] #[]))<|L.semU Pr (Instr.mapUpdate zy (.map m8) (I 5) (.func (.func YX) #[.pointer p0] #[]))<|L.semU Pr (Instr.mapUpdate zy (.map m8) (I 6) (.func (.func jP) #[.pointer p0] #[]))<|L.semU Pr (Instr.mapUpdate zy (.map m8) (I 7) (.func (.func ym) #[.pointer p0] #[]))<|L.semU Pr (Instr.mapUpdate zy (.map m8) (I 8) (.func (.func ym) #[.pointer p0] #[]))<|L.semU Pr (Instr.mapUpdate zy (.map m8) (I 9) (.func (.func YV) #[.pointer p0] #[]))<|L.semU Pr (Instr.mapUpdate zy (.map m8) (I 10) (.func (.func YB) #[.pointer p0] #[]))<|L.semU Pr (Instr.mapUpdate zy (.map m8) (I 11) (.func (.func YW) #[.pointer p0] #[]))<|L.semU Pr (Instr.mapUpdate zy (.map m8) (I 12) (.func (.func YC) #[.pointer p0] #[]))<|L.semU Pr (Instr.mapUpdate zy (.map m8) (I 13) (.func (.func Yi) #[.pointer p0] #[]))<|L.load eI6 (Ad6 b1 0) λ(x9:Int)=>L.semR Pr (.one (.one (.func))) (Instr.lookup zy (.map m8) (I x9) false) λ(x10:FV)=>L.load (.agg lf1) (⟨b1,0,none⟩) λ(x11:pt1)=>L.callV Pr (.func x10.fn x10.fs x10.cs) [(qa1 x11)] rL λ(x12:Sl)=>K (.slice x12.a x12.len x12.cap)
def Pm(p0:Option Addr)(p1:ht1)(h:om p0 p1 K w):CV zl [.v (.pointer p0),.ag (qc1 p1)] K w:=zC Tryz.f10 .auto _ h
def vl(p0:Option Addr)(p1:B0)(K:Value→PT):PT:=
  L.nonnil p0 λa1=>L.load eP6 (a1.add 4) λ(x2:Option Addr)=>L.call Pr XV [.pointer x2,.string p1] (.tup [eL6,eL6]) λ(x3:Sl×Sl×Unit)=>K (.tuple #[Sv6 x3.1,Sv6 x3.2.1])
def GU(p0:Option Addr)(p1:B0)(h:vl p0 p1 K w):CV JA [.v (.pointer p0),.v (.string p1)] K w:=zC Tryz.f11 .auto _ h
def px(p0 p1:Int)(K:Value→PT):PT:=
  L.ite (decide (p0≤0)) (K (I 2))<|L.guard (p0≠(0:Int))<|K (I (Wi ((Wi (Int.tdiv (Wi ((Wi ((if 0>p1 then 0 else p1)+p0))-1)) p0))+2)))
def wD(p0 p1:Int)(h:px p0 p1 K w):CV OP [.v (.int .i64 p0),.v (.int .i64 p1)] K w:=zC Tryz.f12 .auto _ h
def rg:Ann:=(.q2 (.q2 (.seq (.q2 (.one [(5,eL6),(8,eI6)] .auto) none) .auto none) none) none)
def Tx(p0:Option Addr)(p1:Int)(K:Value→PT):PT:=
  L.loop (Y:=Sl×Int×Unit) (⟨none,0,0⟩,0,()) λy1 again2=>L.ite (decide (y1.2.1<(if 0>p1 then 0 else p1))) (L.call Pr GD [.pointer p0] rL λ(x3:Sl)=>L.sem Pr (.one (.one .slice)) (Builtin.append_ #[zj,zj] zj #[Sv6 y1.1,Sv6 x3]) λ(s4:Sl)=>again2 (⟨s4.a,s4.len,s4.cap⟩,Wi (y1.2.1+1),()))<|L.call Pr ZG [Sv6 y1.1] rL λ(x5:Sl)=>K (.slice x5.a x5.len x5.cap)
def LU(p0:Option Addr)(p1:Int)(h:Tx p0 p1 K w):CV GE [.v (.pointer p0),.v (.int .i64 p1)] K w:=zC Tryz.f13 rg _ h
def vm(p0:Option Addr)(K:Value→PT):PT:=
  L.nonnil p0 λa1=>L.load eP6 (a1.add 4) λ(x2:Option Addr)=>L.call Pr uY [.pointer x2] (.tup [eI6,eI6,eI6,eI6]) λ(x3:Int×Int×Int×Int×Unit)=>K (.tuple #[I x3.1,I x3.2.1,I x3.2.2.1,I x3.2.2.2.1])
def GV(p0:Option Addr)(h:vm p0 K w):CV XO [.v (.pointer p0)] K w:=zC Tryz.f14 .auto _ h
def Af:Ann:=(.q2 (.q2 (.q2 (.q2 (.seq (.q2 (.q2 .auto (some [(28,eL6)])) none) .auto none) none) none) none) none)
def Nn(p0 p1 p2:Int)(p3:Sl)(K:Value→PT):PT:=
  L.call Pr UR [I p0,I p1,I p2] (.tup [eP6,eI6]) λ(x1:Option Addr×Int×Unit)=>L.new [.pointer none] zL λb2=>L.store (⟨b2,0,none⟩) [.pointer x1.1]<|L.ite (x1.2.1 != 0) (K (.tuple #[.slice none 0 0,I x1.2.1]))<|L.new [.slice none 0 0] CZ λb3=>L.new [.pointer none] jh λb4=>L.store (⟨b4,0,none⟩) [.pointer (some (⟨b3,0,none⟩))]<|L.call Pr ON [Sv6 p3] (.one (.one (.func))) λ(x5:FV)=>L.range Pr none (.func x5.fn x5.fs x5.cs) [eL6] (λl6(y7:Sl×Unit) R8=>L.begin Pr l6<|L.load eP6 (⟨b4,0,none⟩) λ(x11:Option Addr)=>L.load eP6 (⟨b2,0,none⟩) λ(x12:Option Addr)=>L.call Pr UW [.pointer x11,.pointer x12,Sv6 y7.1] (.tup []) λ(x13:Unit)=>L.endRound Pr l6 none R8) λd9 j10=>L.jump j10 (L.load eP6 (⟨b4,0,none⟩) λ(x14:Option Addr)=>L.nonnil x14 λa15=>L.load eL6 (a15.add 0) λ(x16:Sl)=>L.call Pr ZG [Sv6 x16] rL λ(x17:Sl)=>L.unmark Pr (d9++[])<|K (.tuple #[Sv6 x17,I 0])) (L.unmark Pr (d9++[])<|K (.tuple #[.slice none 0 0,I 0])) []
def aX(p0 p1 p2:Int)(p3:Sl)(h:Nn p0 p1 p2 p3 K w):CV pN [.v (.int .i64 p0),.v (.int .i64 p1),.v (.int .i64 p2),.v (.slice p3.a p3.len p3.cap)] K w:=zC Tryz.f17 Af _ h
def TN:Ann:=(.q2 (.q2 (.seq (.q2 (.one [(5,eI6)] .auto) none) .auto none) none) none)
def Ou(p0 p1:Sl)(K:Value→PT):PT:=
  L.ite (((p0.len:Nat):Int) != ((p1.len:Nat):Int)) (K (.bool false))<|L.loop (Y:=Int×Unit) (0,()) λy1 again2=>L.ite (decide (y1.1<((p0.len:Nat):Int))) (L.draw<|L.idx p0.a y1.1 p0.len 1 λa3=>L.load eS6 a3 λ(x4:B0)=>L.idx p1.a y1.1 p1.len 1 λa5=>L.load eS6 a5 λ(x6:B0)=>L.ite (!(x4.toList == x6.toList)) (K (.bool false))<|again2 (Wi (y1.1+1),()))<|K (.bool true)
def TG(p0 p1:Sl)(h:Ou p0 p1 K w):CV vd [.v (.slice p0.a p0.len p0.cap),.v (.slice p1.a p1.len p1.cap)] K w:=zC Tryz.f19 TN _ h
def wJ:Ann:=(.q2 (.q2 (.seq (.q2 (.one [(3,eI6),(11,eI6)] .auto) none) (.seq (.q2 (.one [(37,eI6)] .auto) none) .auto none) none) none) none)
def pc(p0:HT [.slice,.slice])(K:Value→PT):PT:=
  L.new [Sv6 p0.1,Sv6 p0.2.1] zp λb1=>L.load eL6 (Ad6 b1 0) λ(x2:Sl)=>L.loop (Y:=Int×Int×Unit) (0,0,()) λy3 again4=>L.ite (decide (y3.2.1<((x2.len:Nat):Int))) (L.idx x2.a y3.2.1 x2.len 2 λa5=>L.load (.agg [.str,.int .i64]) a5 λ(x6:B0×Int×Unit)=>L.new [.string s_,I 0] zW λb7=>L.store (⟨b7,0,none⟩) [.string x6.1,I x6.2.1]<|L.load eS6 (Ad6 b7 0) λ(x8:B0)=>L.call Pr Vu [.string x8] rB λ(x9:Bool)=>L.ite (!x9) (K (.bool false))<|L.load eI6 (Ad6 b7 1) λ(x10:Int)=>L.ite (decide (x10<1)) (K (.bool false))<|L.load eI6 (Ad6 b7 1) λ(x11:Int)=>L.ite (decide (x11>100)) (K (.bool false))<|L.load eI6 (Ad6 b7 1) λ(x12:Int)=>again4 (Wi (y3.1+x12),Wi (y3.2.1+1),()))<|L.load eL6 (Ad6 b1 1) λ(x13:Sl)=>L.loop (Y:=Int×Unit) (0,()) λy14 again15=>L.ite (decide (y14.1<((x13.len:Nat):Int))) (L.idx x13.a y14.1 x13.len 2 λa16=>L.load (.agg [.str,.str]) a16 λ(x17:B0×B0×Unit)=>L.new [.string s_,.string s_] jy λb18=>L.store (⟨b18,0,none⟩) [.string x17.1,.string x17.2.1]<|L.load eS6 (Ad6 b18 0) λ(x19:B0)=>L.call Pr JK [.string x19] rB λ(x20:Bool)=>L.ite (!x20) (K (.bool false))<|L.load eS6 (Ad6 b18 1) λ(x21:B0)=>L.call Pr Vu [.string x21] rB λ(x22:Bool)=>L.ite (!x22) (K (.bool false))<|again15 (Wi (y14.1+1),()))<|L.ite (y3.1 == 100) (L.load (.agg [.slice,.slice]) (⟨b1,0,none⟩) λ(x23:Sl×Sl×Unit)=>L.call Pr tF [.agg #[Sv6 x23.1,Sv6 x23.2.1]] (.one (.one (.func))) λ(x24:FV)=>L.call Pr UQ [.func x24.fn x24.fs x24.cs] rB λ(x25:Bool)=>L.ite x25 (L.load (.agg [.slice,.slice]) (⟨b1,0,none⟩) λ(x26:Sl×Sl×Unit)=>L.call Pr tE [.agg #[Sv6 x26.1,Sv6 x26.2.1]] (.one (.one (.func))) λ(x27:FV)=>L.call Pr UQ [.func x27.fn x27.fs x27.cs] rB λ(x28:Bool)=>K (.bool x28))<|K (.bool false))<|K (.bool false)
def wj(p0:HT [.slice,.slice])(h:pc p0 K w):CV OI [.ag [.slice p0.1.a p0.1.len p0.1.cap,.slice p0.2.1.a p0.2.1.len p0.2.1.cap]] K w:=zC Tryz.f20 wJ _ h
def MM:Ann:=(.q2 (.q2 (.q2 .auto (some [(5,eI6)])) none) none)
def kV(p0 p1:Int)(K:Value→PT):PT:=
  L.guard (p1≠(0:Int))<|L.join (Y:=Int×Unit) (λk1=>L.ite (decide ((Int.tmod p0 p1)<0)) (k1 (Wi ((Int.tmod p0 p1)+p1),()))<|k1 (Int.tmod p0 p1,())) λz2=>K (I z2.1)
def ME(p0 p1:Int)(h:kV p0 p1 K w):CV yW [.v (.int .i64 p0),.v (.int .i64 p1)] K w:=zC Tryz.f21 MM _ h
def kL(p0 p1 p2:Int)(K:Value→PT):PT:=
  L.ite (decide (p0≥p1)) (K (.bool (decide (p0≤p2))))<|K (.bool false)
def Mu(p0 p1 p2:Int)(h:kL p0 p1 p2 K w):CV Jr [.v (.int .i64 p0),.v (.int .i64 p1),.v (.int .i64 p2)] K w:=zC Tryz.f22 .auto _ h
def dq(p0:Int)(K:Value→PT):PT:=
  L.sem Pr (.one (.one .map)) (Instr.makeMap Zf none) λ(m1:Option Nat)=>L.sem Pr (.one (.one .map)) (Instr.makeMap Zm none) λ(m2:Option Nat)=>L.new [.map m1,.map m2,I p0,I 0] MY λb3=>K (.pointer (some (⟨b3,0,none⟩)))
def bY(p0:Int)(h:dq p0 K w):CV FE [.v (.int .i64 p0)] K w:=zC Tryz.f23 .auto _ h
def dj  (K:Value→PT):PT:=
  L.call Pr Xt [.func (.func yD) #[] #[]] rP λ(x1:Option Addr)=>L.call Pr XP [.func (.func Zt) #[] #[]] rP λ(x2:Option Addr)=>L.new [.pointer x1,.pointer x2,I 0] MX λb3=>K (.pointer (some (⟨b3,0,none⟩)))
def bU(h:dj  K w):CV FC [] K w:=zC Tryz.f24 .auto _ h
def dg  (K:Value→PT):PT:=
  L.sem Pr (.one (.one .map)) (Instr.makeMap zZ none) λ(m1:Option Nat)=>L.sem Pr (.one (.one .map)) (Instr.makeMap qa none) λ(m2:Option Nat)=>L.new [.map m1,.map m2] Tc λb3=>K (.pointer (some (⟨b3,0,none⟩)))
def bR(h:dg  K w):CV FB [] K w:=zC Tryz.f25 .auto _ h
def Np  (K:Value→PT):PT:=
  L.sem Pr (.one (.one .map)) (Instr.makeMap YF none) λ(m1:Option Nat)=>L.new [.map m1] OU λb2=>K (.pointer (some (⟨b2,0,none⟩)))
def aZ(h:Np  K w):CV pP [] K w:=zC Tryz.f26 .auto _ h
def Nr(p0:Option Addr)(p1 p2:Int)(K:Value→PT):PT:=
  L.new [I p1] zx λb1=>L.sem Pr (.one (.one .map)) (Instr.makeMap yn none) λ(m2:Option Nat)=>L.sem Pr (.one (.one .map)) (Instr.makeMap ZB none) λ(m3:Option Nat)=>L.load eI6 (⟨b1,0,none⟩) λ(x4:Int)=>L.new [.pointer p0,.map m2,.map m3,.func (.func Ki) #[] #[.pointer (some (⟨b1,0,none⟩))],I x4,I p2] da λb5=>K (.pointer (some (⟨b5,0,none⟩)))
def Ab(p0:Option Addr)(p1 p2:Int)(h:Nr p0 p1 p2 K w):CV pQ [.v (.pointer p0),.v (.int .i64 p1),.v (.int .i64 p2)] K w:=zC Tryz.f27 .auto _ h
def wU:Ann:=(.q2 (.q2 (.q2 (.seq (.q2 .auto (some [(61,eB6)])) (.seq (.q2 (.cond .auto (.q2 (.cond .auto (.q2 (.cond .auto (.q2 (.cond .auto .auto) none)) none)) none)) none) .auto (some [])) none) none) none) none)
def pD(p0:ht1)(K:Value→PT):PT:=
  L.new [I p0.1,.string p0.2.1,.string p0.2.2.1,I p0.2.2.2.1,I p0.2.2.2.2.1,.string p0.2.2.2.2.2.1,I p0.2.2.2.2.2.2.1,I p0.2.2.2.2.2.2.2.1,I p0.2.2.2.2.2.2.2.2.1,I p0.2.2.2.2.2.2.2.2.2.1,I p0.2.2.2.2.2.2.2.2.2.2.1,.string p0.2.2.2.2.2.2.2.2.2.2.2.1,.string p0.2.2.2.2.2.2.2.2.2.2.2.2.1,Sv6 p0.2.2.2.2.2.2.2.2.2.2.2.2.2.1,I p0.2.2.2.2.2.2.2.2.2.2.2.2.2.2.1] zq λb1=>L.load eI6 (Ad6 b1 0) λ(x2:Int)=>L.call Pr Vx [I x2] (.tup [(.agg lf5),eB6]) λ(x3:pt2)=>L.new [.bool false,.bool false,.bool false,.bool false,.bool false,.bool false] JN λb4=>L.store (⟨b4,0,none⟩) [.bool x3.1.1,.bool x3.1.2.1,.bool x3.1.2.2.1,.bool x3.1.2.2.2.1,.bool x3.1.2.2.2.2.1,.bool x3.1.2.2.2.2.2.1]<|L.ite (!x3.2.1) (K (I 12))<|L.join (Y:=Bool×Unit) (λk5=>L.load eB6 (Ad6 b4 0) λ(x7:Bool)=>L.load eI6 (Ad6 b1 3) λ(x8:Int)=>L.call Pr QP [.bool x7,I x8] rB λ(x9:Bool)=>L.ite (!x9) (k5 (true,()))<|L.load eB6 (Ad6 b4 1) λ(x10:Bool)=>L.load eS6 (Ad6 b1 1) λ(x11:B0)=>L.call Pr Xm [.bool x10,.string x11] rB λ(x12:Bool)=>L.ite (!x12) (k5 (true,()))<|L.load eB6 (Ad6 b4 2) λ(x13:Bool)=>L.load eS6 (Ad6 b1 2) λ(x14:B0)=>L.call Pr Xm [.bool x13,.string x14] rB λ(x15:Bool)=>L.ite (!x15) (k5 (true,()))<|L.load eB6 (Ad6 b4 3) λ(x16:Bool)=>L.load eI6 (Ad6 b1 4) λ(x17:Int)=>L.call Pr QP [.bool x16,I x17] rB λ(x18:Bool)=>L.ite (!x18) (k5 (true,()))<|L.load eB6 (Ad6 b4 4) λ(x19:Bool)=>L.load (.agg lf0) (Ad6 b1 5) λ(x20:pt0)=>L.call Pr Xx [.bool x19,(qa0 x20)] rB λ(x21:Bool)=>L.ite (!x21) (k5 (true,()))<|L.load eB6 (Ad6 b4 5) λ(x22:Bool)=>L.ite (!x22) (L.load (.agg [.str,.str,.slice,.int .i64]) (Ad6 b1 11) λ(x23:pt3)=>L.call Pr GF [.agg #[.string x23.1,.string x23.2.1,Sv6 x23.2.2.1,I x23.2.2.2.1]] rB λ(x24:Bool)=>k5 (!x24,()))<|k5 (false,())) λz6=>L.ite z6.1 (K (I 2))<|L.join (Y:=Unit) (λk25=>L.load eB6 (Ad6 b4 0) λ(x27:Bool)=>L.ite x27 (L.load (.agg lf1) (⟨b1,0,none⟩) λ(x28:pt1)=>L.call Pr KT [(qa1 x28)] rB λ(x29:Bool)=>L.ite (!x29) (K (I 2))<|L.load eB6 (Ad6 b4 1) λ(x30:Bool)=>L.ite x30 (L.load (.agg lf1) (⟨b1,0,none⟩) λ(x31:pt1)=>L.call Pr Vy [(qa1 x31)] rB λ(x32:Bool)=>L.ite (!x32) (K (I 1))<|L.load eB6 (Ad6 b4 2) λ(x33:Bool)=>L.ite x33 (L.load eS6 (Ad6 b1 2) λ(x34:B0)=>L.ite (!(x34.toList == s_.toList)) (L.load eS6 (Ad6 b1 2) λ(x35:B0)=>L.call Pr JK [.string x35] rB λ(x36:Bool)=>L.ite (!x36) (K (I 1))<|L.load eB6 (Ad6 b4 3) λ(x37:Bool)=>L.ite x37 (L.load eI6 (Ad6 b1 4) λ(x38:Int)=>L.call Pr ZQ [I x38,I 0,I 2147483647] rB λ(x39:Bool)=>L.ite (!x39) (K (I 2))<|L.load eB6 (Ad6 b4 4) λ(x40:Bool)=>L.ite x40 (L.load (.agg lf0) (Ad6 b1 5) λ(x41:pt0)=>L.call Pr Za [(qa0 x41)] rI λ(x42:Int)=>K (I x42))<|L.load eB6 (Ad6 b4 5) λ(x43:Bool)=>L.ite x43 (L.load (.agg [.str,.str,.slice,.int .i64]) (Ad6 b1 11) λ(x44:pt3)=>L.call Pr Zh [.agg #[.string x44.1,.string x44.2.1,Sv6 x44.2.2.1,I x44.2.2.2.1]] rI λ(x45:Int)=>K (I x45))<|k25 (()))<|L.load eB6 (Ad6 b4 4) λ(x46:Bool)=>L.ite x46 (L.load (.agg lf0) (Ad6 b1 5) λ(x47:pt0)=>L.call Pr Za [(qa0 x47)] rI λ(x48:Int)=>K (I x48))<|L.load eB6 (Ad6 b4 5) λ(x49:Bool)=>L.ite x49 (L.load (.agg [.str,.str,.slice,.int .i64]) (Ad6 b1 11) λ(x50:pt3)=>L.call Pr Zh [.agg #[.string x50.1,.string x50.2.1,Sv6 x50.2.2.1,I x50.2.2.2.1]] rI λ(x51:Int)=>K (I x51))<|k25 (()))<|L.load eB6 (Ad6 b4 3) λ(x52:Bool)=>L.ite x52 (L.load eI6 (Ad6 b1 4) λ(x53:Int)=>L.call Pr ZQ [I x53,I 0,I 2147483647] rB λ(x54:Bool)=>L.ite (!x54) (K (I 2))<|L.load eB6 (Ad6 b4 4) λ(x55:Bool)=>L.ite x55 (L.load (.agg lf0) (Ad6 b1 5) λ(x56:pt0)=>L.call Pr Za [(qa0 x56)] rI λ(x57:Int)=>K (I x57))<|L.load eB6 (Ad6 b4 5) λ(x58:Bool)=>L.ite x58 (L.load (.agg [.str,.str,.slice,.int .i64]) (Ad6 b1 11) λ(x59:pt3)=>L.call Pr Zh [.agg #[.string x59.1,.string x59.2.1,Sv6 x59.2.2.1,I x59.2.2.2.1]] rI λ(x60:Int)=>K (I x60))<|k25 (()))<|L.load eB6 (Ad6 b4 4) λ(x61:Bool)=>L.ite x61 (L.load (.agg lf0) (Ad6 b1 5) λ(x62:pt0)=>L.call Pr Za [(qa0 x62)] rI λ(x63:Int)=>K (I x63))<|L.load eB6 (Ad6 b4 5) λ(x64:Bool)=>L.ite x64 (L.load (.agg [.str,.str,.slice,.int .i64]) (Ad6 b1 11) λ(x65:pt3)=>L.call Pr Zh [.agg #[.string x65.1,.string x65.2.1,Sv6 x65.2.2.1,I x65.2.2.2.1]] rI λ(x66:Int)=>K (I x66))<|k25 (()))<|L.load eB6 (Ad6 b4 3) λ(x67:Bool)=>L.ite x67 (L.load eI6 (Ad6 b1 4) λ(x68:Int)=>L.call Pr ZQ [I x68,I 0,I 2147483647] rB λ(x69:Bool)=>L.ite (!x69) (K (I 2))<|L.load eB6 (Ad6 b4 4) λ(x70:Bool)=>L.ite x70 (L.load (.agg lf0) (Ad6 b1 5) λ(x71:pt0)=>L.call Pr Za [(qa0 x71)] rI λ(x72:Int)=>K (I x72))<|L.load eB6 (Ad6 b4 5) λ(x73:Bool)=>L.ite x73 (L.load (.agg [.str,.str,.slice,.int .i64]) (Ad6 b1 11) λ(x74:pt3)=>L.call Pr Zh [.agg #[.string x74.1,.string x74.2.1,Sv6 x74.2.2.1,I x74.2.2.2.1]] rI λ(x75:Int)=>K (I x75))<|k25 (()))<|L.load eB6 (Ad6 b4 4) λ(x76:Bool)=>L.ite x76 (L.load (.agg lf0) (Ad6 b1 5) λ(x77:pt0)=>L.call Pr Za [(qa0 x77)] rI λ(x78:Int)=>K (I x78))<|L.load eB6 (Ad6 b4 5) λ(x79:Bool)=>L.ite x79 (L.load (.agg [.str,.str,.slice,.int .i64]) (Ad6 b1 11) λ(x80:pt3)=>L.call Pr Zh [.agg #[.string x80.1,.string x80.2.1,Sv6 x80.2.2.1,I x80.2.2.2.1]] rI λ(x81:Int)=>K (I x81))<|k25 (()))<|L.load eB6 (Ad6 b4 2) λ(x82:Bool)=>L.ite x82 (L.load eS6 (Ad6 b1 2) λ(x83:B0)=>L.ite (!(x83.toList == s_.toList)) (L.load eS6 (Ad6 b1 2) λ(x84:B0)=>L.call Pr JK [.string x84] rB λ(x85:Bool)=>L.ite (!x85) (K (I 1))<|L.load eB6 (Ad6 b4 3) λ(x86:Bool)=>L.ite x86 (L.load eI6 (Ad6 b1 4) λ(x87:Int)=>L.call Pr ZQ [I x87,I 0,I 2147483647] rB λ(x88:Bool)=>L.ite (!x88) (K (I 2))<|L.load eB6 (Ad6 b4 4) λ(x89:Bool)=>L.ite x89 (L.load (.agg lf0) (Ad6 b1 5) λ(x90:pt0)=>L.call Pr Za [(qa0 x90)] rI λ(x91:Int)=>K (I x91))<|L.load eB6 (Ad6 b4 5) λ(x92:Bool)=>L.ite x92 (L.load (.agg [.str,.str,.slice,.int .i64]) (Ad6 b1 11) λ(x93:pt3)=>L.call Pr Zh [.agg #[.string x93.1,.string x93.2.1,Sv6 x93.2.2.1,I x93.2.2.2.1]] rI λ(x94:Int)=>K (I x94))<|k25 (()))<|L.load eB6 (Ad6 b4 4) λ(x95:Bool)=>L.ite x95 (L.load (.agg lf0) (Ad6 b1 5) λ(x96:pt0)=>L.call Pr Za [(qa0 x96)] rI λ(x97:Int)=>K (I x97))<|L.load eB6 (Ad6 b4 5) λ(x98:Bool)=>L.ite x98 (L.load (.agg [.str,.str,.slice,.int .i64]) (Ad6 b1 11) λ(x99:pt3)=>L.call Pr Zh [.agg #[.string x99.1,.string x99.2.1,Sv6 x99.2.2.1,I x99.2.2.2.1]] rI λ(x100:Int)=>K (I x100))<|k25 (()))<|L.load eB6 (Ad6 b4 3) λ(x101:Bool)=>L.ite x101 (L.load eI6 (Ad6 b1 4) λ(x102:Int)=>L.call Pr ZQ [I x102,I 0,I 2147483647] rB λ(x103:Bool)=>L.ite (!x103) (K (I 2))<|L.load eB6 (Ad6 b4 4) λ(x104:Bool)=>L.ite x104 (L.load (.agg lf0) (Ad6 b1 5) λ(x105:pt0)=>L.call Pr Za [(qa0 x105)] rI λ(x106:Int)=>K (I x106))<|L.load eB6 (Ad6 b4 5) λ(x107:Bool)=>L.ite x107 (L.load (.agg [.str,.str,.slice,.int .i64]) (Ad6 b1 11) λ(x108:pt3)=>L.call Pr Zh [.agg #[.string x108.1,.string x108.2.1,Sv6 x108.2.2.1,I x108.2.2.2.1]] rI λ(x109:Int)=>K (I x109))<|k25 (()))<|L.load eB6 (Ad6 b4 4) λ(x110:Bool)=>L.ite x110 (L.load (.agg lf0) (Ad6 b1 5) λ(x111:pt0)=>L.call Pr Za [(qa0 x111)] rI λ(x112:Int)=>K (I x112))<|L.load eB6 (Ad6 b4 5) λ(x113:Bool)=>L.ite x113 (L.load (.agg [.str,.str,.slice,.int .i64]) (Ad6 b1 11) λ(x114:pt3)=>L.call Pr Zh [.agg #[.string x114.1,.string x114.2.1,Sv6 x114.2.2.1,I x114.2.2.2.1]] rI λ(x115:Int)=>K (I x115))<|k25 (()))<|L.load eB6 (Ad6 b4 3) λ(x116:Bool)=>L.ite x116 (L.load eI6 (Ad6 b1 4) λ(x117:Int)=>L.call Pr ZQ [I x117,I 0,I 2147483647] rB λ(x118:Bool)=>L.ite (!x118) (K (I 2))<|L.load eB6 (Ad6 b4 4) λ(x119:Bool)=>L.ite x119 (L.load (.agg lf0) (Ad6 b1 5) λ(x120:pt0)=>L.call Pr Za [(qa0 x120)] rI λ(x121:Int)=>K (I x121))<|L.load eB6 (Ad6 b4 5) λ(x122:Bool)=>L.ite x122 (L.load (.agg [.str,.str,.slice,.int .i64]) (Ad6 b1 11) λ(x123:pt3)=>L.call Pr Zh [.agg #[.string x123.1,.string x123.2.1,Sv6 x123.2.2.1,I x123.2.2.2.1]] rI λ(x124:Int)=>K (I x124))<|k25 (()))<|L.load eB6 (Ad6 b4 4) λ(x125:Bool)=>L.ite x125 (L.load (.agg lf0) (Ad6 b1 5) λ(x126:pt0)=>L.call Pr Za [(qa0 x126)] rI λ(x127:Int)=>K (I x127))<|L.load eB6 (Ad6 b4 5) λ(x128:Bool)=>L.ite x128 (L.load (.agg [.str,.str,.slice,.int .i64]) (Ad6 b1 11) λ(x129:pt3)=>L.call Pr Zh [.agg #[.string x129.1,.string x129.2.1,Sv6 x129.2.2.1,I x129.2.2.2.1]] rI λ(x130:Int)=>K (I x130))<|k25 (()))<|L.load eB6 (Ad6 b4 1) λ(x131:Bool)=>L.ite x131 (L.load (.agg lf1) (⟨b1,0,none⟩) λ(x132:pt1)=>L.call Pr Vy [(qa1 x132)] rB λ(x133:Bool)=>L.ite (!x133) (K (I 1))<|L.load eB6 (Ad6 b4 2) λ(x134:Bool)=>L.ite x134 (L.load eS6 (Ad6 b1 2) λ(x135:B0)=>L.ite (!(x135.toList == s_.toList)) (L.load eS6 (Ad6 b1 2) λ(x136:B0)=>L.call Pr JK [.string x136] rB λ(x137:Bool)=>L.ite (!x137) (K (I 1))<|L.load eB6 (Ad6 b4 3) λ(x138:Bool)=>L.ite x138 (L.load eI6 (Ad6 b1 4) λ(x139:Int)=>L.call Pr ZQ [I x139,I 0,I 2147483647] rB λ(x140:Bool)=>L.ite (!x140) (K (I 2))<|L.load eB6 (Ad6 b4 4) λ(x141:Bool)=>L.ite x141 (L.load (.agg lf0) (Ad6 b1 5) λ(x142:pt0)=>L.call Pr Za [(qa0 x142)] rI λ(x143:Int)=>K (I x143))<|L.load eB6 (Ad6 b4 5) λ(x144:Bool)=>L.ite x144 (L.load (.agg [.str,.str,.slice,.int .i64]) (Ad6 b1 11) λ(x145:pt3)=>L.call Pr Zh [.agg #[.string x145.1,.string x145.2.1,Sv6 x145.2.2.1,I x145.2.2.2.1]] rI λ(x146:Int)=>K (I x146))<|k25 (()))<|L.load eB6 (Ad6 b4 4) λ(x147:Bool)=>L.ite x147 (L.load (.agg lf0) (Ad6 b1 5) λ(x148:pt0)=>L.call Pr Za [(qa0 x148)] rI λ(x149:Int)=>K (I x149))<|L.load eB6 (Ad6 b4 5) λ(x150:Bool)=>L.ite x150 (L.load (.agg [.str,.str,.slice,.int .i64]) (Ad6 b1 11) λ(x151:pt3)=>L.call Pr Zh [.agg #[.string x151.1,.string x151.2.1,Sv6 x151.2.2.1,I x151.2.2.2.1]] rI λ(x152:Int)=>K (I x152))<|k25 (()))<|L.load eB6 (Ad6 b4 3) λ(x153:Bool)=>L.ite x153 (L.load eI6 (Ad6 b1 4) λ(x154:Int)=>L.call Pr ZQ [I x154,I 0,I 2147483647] rB λ(x155:Bool)=>L.ite (!x155) (K (I 2))<|L.load eB6 (Ad6 b4 4) λ(x156:Bool)=>L.ite x156 (L.load (.agg lf0) (Ad6 b1 5) λ(x157:pt0)=>L.call Pr Za [(qa0 x157)] rI λ(x158:Int)=>K (I x158))<|L.load eB6 (Ad6 b4 5) λ(x159:Bool)=>L.ite x159 (L.load (.agg [.str,.str,.slice,.int .i64]) (Ad6 b1 11) λ(x160:pt3)=>L.call Pr Zh [.agg #[.string x160.1,.string x160.2.1,Sv6 x160.2.2.1,I x160.2.2.2.1]] rI λ(x161:Int)=>K (I x161))<|k25 (()))<|L.load eB6 (Ad6 b4 4) λ(x162:Bool)=>L.ite x162 (L.load (.agg lf0) (Ad6 b1 5) λ(x163:pt0)=>L.call Pr Za [(qa0 x163)] rI λ(x164:Int)=>K (I x164))<|L.load eB6 (Ad6 b4 5) λ(x165:Bool)=>L.ite x165 (L.load (.agg [.str,.str,.slice,.int .i64]) (Ad6 b1 11) λ(x166:pt3)=>L.call Pr Zh [.agg #[.string x166.1,.string x166.2.1,Sv6 x166.2.2.1,I x166.2.2.2.1]] rI λ(x167:Int)=>K (I x167))<|k25 (()))<|L.load eB6 (Ad6 b4 3) λ(x168:Bool)=>L.ite x168 (L.load eI6 (Ad6 b1 4) λ(x169:Int)=>L.call Pr ZQ [I x169,I 0,I 2147483647] rB λ(x170:Bool)=>L.ite (!x170) (K (I 2))<|L.load eB6 (Ad6 b4 4) λ(x171:Bool)=>L.ite x171 (L.load (.agg lf0) (Ad6 b1 5) λ(x172:pt0)=>L.call Pr Za [(qa0 x172)] rI λ(x173:Int)=>K (I x173))<|L.load eB6 (Ad6 b4 5) λ(x174:Bool)=>L.ite x174 (L.load (.agg [.str,.str,.slice,.int .i64]) (Ad6 b1 11) λ(x175:pt3)=>L.call Pr Zh [.agg #[.string x175.1,.string x175.2.1,Sv6 x175.2.2.1,I x175.2.2.2.1]] rI λ(x176:Int)=>K (I x176))<|k25 (()))<|L.load eB6 (Ad6 b4 4) λ(x177:Bool)=>L.ite x177 (L.load (.agg lf0) (Ad6 b1 5) λ(x178:pt0)=>L.call Pr Za [(qa0 x178)] rI λ(x179:Int)=>K (I x179))<|L.load eB6 (Ad6 b4 5) λ(x180:Bool)=>L.ite x180 (L.load (.agg [.str,.str,.slice,.int .i64]) (Ad6 b1 11) λ(x181:pt3)=>L.call Pr Zh [.agg #[.string x181.1,.string x181.2.1,Sv6 x181.2.2.1,I x181.2.2.2.1]] rI λ(x182:Int)=>K (I x182))<|k25 (()))<|L.load eB6 (Ad6 b4 2) λ(x183:Bool)=>L.ite x183 (L.load eS6 (Ad6 b1 2) λ(x184:B0)=>L.ite (!(x184.toList == s_.toList)) (L.load eS6 (Ad6 b1 2) λ(x185:B0)=>L.call Pr JK [.string x185] rB λ(x186:Bool)=>L.ite (!x186) (K (I 1))<|L.load eB6 (Ad6 b4 3) λ(x187:Bool)=>L.ite x187 (L.load eI6 (Ad6 b1 4) λ(x188:Int)=>L.call Pr ZQ [I x188,I 0,I 2147483647] rB λ(x189:Bool)=>L.ite (!x189) (K (I 2))<|L.load eB6 (Ad6 b4 4) λ(x190:Bool)=>L.ite x190 (L.load (.agg lf0) (Ad6 b1 5) λ(x191:pt0)=>L.call Pr Za [(qa0 x191)] rI λ(x192:Int)=>K (I x192))<|L.load eB6 (Ad6 b4 5) λ(x193:Bool)=>L.ite x193 (L.load (.agg [.str,.str,.slice,.int .i64]) (Ad6 b1 11) λ(x194:pt3)=>L.call Pr Zh [.agg #[.string x194.1,.string x194.2.1,Sv6 x194.2.2.1,I x194.2.2.2.1]] rI λ(x195:Int)=>K (I x195))<|k25 (()))<|L.load eB6 (Ad6 b4 4) λ(x196:Bool)=>L.ite x196 (L.load (.agg lf0) (Ad6 b1 5) λ(x197:pt0)=>L.call Pr Za [(qa0 x197)] rI λ(x198:Int)=>K (I x198))<|L.load eB6 (Ad6 b4 5) λ(x199:Bool)=>L.ite x199 (L.load (.agg [.str,.str,.slice,.int .i64]) (Ad6 b1 11) λ(x200:pt3)=>L.call Pr Zh [.agg #[.string x200.1,.string x200.2.1,Sv6 x200.2.2.1,I x200.2.2.2.1]] rI λ(x201:Int)=>K (I x201))<|k25 (()))<|L.load eB6 (Ad6 b4 3) λ(x202:Bool)=>L.ite x202 (L.load eI6 (Ad6 b1 4) λ(x203:Int)=>L.call Pr ZQ [I x203,I 0,I 2147483647] rB λ(x204:Bool)=>L.ite (!x204) (K (I 2))<|L.load eB6 (Ad6 b4 4) λ(x205:Bool)=>L.ite x205 (L.load (.agg lf0) (Ad6 b1 5) λ(x206:pt0)=>L.call Pr Za [(qa0 x206)] rI λ(x207:Int)=>K (I x207))<|L.load eB6 (Ad6 b4 5) λ(x208:Bool)=>L.ite x208 (L.load (.agg [.str,.str,.slice,.int .i64]) (Ad6 b1 11) λ(x209:pt3)=>L.call Pr Zh [.agg #[.string x209.1,.string x209.2.1,Sv6 x209.2.2.1,I x209.2.2.2.1]] rI λ(x210:Int)=>K (I x210))<|k25 (()))<|L.load eB6 (Ad6 b4 4) λ(x211:Bool)=>L.ite x211 (L.load (.agg lf0) (Ad6 b1 5) λ(x212:pt0)=>L.call Pr Za [(qa0 x212)] rI λ(x213:Int)=>K (I x213))<|L.load eB6 (Ad6 b4 5) λ(x214:Bool)=>L.ite x214 (L.load (.agg [.str,.str,.slice,.int .i64]) (Ad6 b1 11) λ(x215:pt3)=>L.call Pr Zh [.agg #[.string x215.1,.string x215.2.1,Sv6 x215.2.2.1,I x215.2.2.2.1]] rI λ(x216:Int)=>K (I x216))<|k25 (()))<|L.load eB6 (Ad6 b4 3) λ(x217:Bool)=>L.ite x217 (L.load eI6 (Ad6 b1 4) λ(x218:Int)=>L.call Pr ZQ [I x218,I 0,I 2147483647] rB λ(x219:Bool)=>L.ite (!x219) (K (I 2))<|L.load eB6 (Ad6 b4 4) λ(x220:Bool)=>L.ite x220 (L.load (.agg lf0) (Ad6 b1 5) λ(x221:pt0)=>L.call Pr Za [(qa0 x221)] rI λ(x222:Int)=>K (I x222))<|L.load eB6 (Ad6 b4 5) λ(x223:Bool)=>L.ite x223 (L.load (.agg [.str,.str,.slice,.int .i64]) (Ad6 b1 11) λ(x224:pt3)=>L.call Pr Zh [.agg #[.string x224.1,.string x224.2.1,Sv6 x224.2.2.1,I x224.2.2.2.1]] rI λ(x225:Int)=>K (I x225))<|k25 (()))<|L.load eB6 (Ad6 b4 4) λ(x226:Bool)=>L.ite x226 (L.load (.agg lf0) (Ad6 b1 5) λ(x227:pt0)=>L.call Pr Za [(qa0 x227)] rI λ(x228:Int)=>K (I x228))<|L.load eB6 (Ad6 b4 5) λ(x229:Bool)=>L.ite x229 (L.load (.agg [.str,.str,.slice,.int .i64]) (Ad6 b1 11) λ(x230:pt3)=>L.call Pr Zh [.agg #[.string x230.1,.string x230.2.1,Sv6 x230.2.2.1,I x230.2.2.2.1]] rI λ(x231:Int)=>K (I x231))<|k25 (())) λz26=>K (I 0)
def wH(p0:ht1)(h:pD p0 K w):CV Vz [.ag (qc1 p0)] K w:=zC Tryz.f28 wU _ h
def mL:Ann:=(.q2 (.q2 (.seq (.q2 (.one [(5,eL6),(14,eI6)] (.q2 (.q2 (.q2 .auto (some [(5,eL6)])) none) none)) none) .auto none) none) none)
def VS(p0:B0)(p1:Sl)(K:Value→PT):PT:=
  L.new [.string p0] zc λb1=>L.loop (Y:=Sl×Int×Unit) (⟨some ⟨b1,0,none⟩,1,1⟩,0,()) λy2 again3=>L.ite (decide (y2.2.1<((p1.len:Nat):Int))) (L.join (Y:=Sl×Unit) (λk4=>L.idx p1.a y2.2.1 p1.len 1 λa6=>L.load eS6 a6 λ(x7:B0)=>L.ite true (L.new [.string x7] zc λb8=>L.sem Pr (.one (.one .slice)) (Builtin.append_ #[zj,zj] zj #[Sv6 y2.1,.slice (some ⟨b8,0,none⟩) 1 1]) λ(s9:Sl)=>k4 (⟨s9.a,s9.len,s9.cap⟩,()))<|L.semR Pr (.tup [eI6,.one .bool]) (Instr.typeAssert (.iface zc (.string x7)) FS zx true) λ(x10:Int×Bool×Unit)=>L.ite x10.2.1 (L.call Pr Xr [I x10.1] rS λ(x11:B0)=>L.new [.string x11] zc λb12=>L.sem Pr (.one (.one .slice)) (Builtin.append_ #[zj,zj] zj #[Sv6 y2.1,.slice (some ⟨b12,0,none⟩) 1 1]) λ(s13:Sl)=>k4 (⟨s13.a,s13.len,s13.cap⟩,()))<|k4 (⟨y2.1.a,y2.1.len,y2.1.cap⟩,())) λz5=>again3 (⟨z5.1.a,z5.1.len,z5.1.cap⟩,Wi (y2.2.1+1),()))<|L.call Pr US [Sv6 y2.1,.string gm] rS λ(x14:B0)=>K (.string x14)
def mz(p0:B0)(p1:Sl)(h:VS p0 p1 K w):CV zQ [.v (.string p0),.v (.slice p1.a p1.len p1.cap)] K w:=zC Tryz.f29 mL _ h
def Ov(p0:Int)(K:Value→PT):PT:=
  L.ite (decide (p0≤6)) (L.call Pr CL [I p0] rS λ(x1:B0)=>K (.string x1))<|L.call Pr ni [I p0] rS λ(x2:B0)=>K (.string x2)
def TH(p0:Int)(h:Ov p0 K w):CV xL [.v (.int .i64 p0)] K w:=zC Tryz.f30 .auto _ h
def qb(p0:Option Addr)(p1:ht1)(K:Value→PT):PT:=
  L.new [I p1.1,.string p1.2.1,.string p1.2.2.1,I p1.2.2.2.1,I p1.2.2.2.2.1,.string p1.2.2.2.2.2.1,I p1.2.2.2.2.2.2.1,I p1.2.2.2.2.2.2.2.1,I p1.2.2.2.2.2.2.2.2.1,I p1.2.2.2.2.2.2.2.2.2.1,I p1.2.2.2.2.2.2.2.2.2.2.1,.string p1.2.2.2.2.2.2.2.2.2.2.2.1,.string p1.2.2.2.2.2.2.2.2.2.2.2.2.1,Sv6 p1.2.2.2.2.2.2.2.2.2.2.2.2.2.1,I p1.2.2.2.2.2.2.2.2.2.2.2.2.2.2.1] zq λb1=>L.draw<|L.nonnil p0 λa2=>L.load eP6 (a2.add 0) λ(x3:Option Addr)=>L.load (.agg lf0) (Ad6 b1 5) λ(x4:pt0)=>L.load eI6 (Ad6 b1 3) λ(x5:Int)=>L.call Pr Xu [.pointer x3,(qa0 x4),I x5] (.tup [eI6,eI6]) λ(x6:Int×Int×Unit)=>L.load eS6 ((Ad6 b1 5).add 0) λ(x7:B0)=>L.call Pr Kh [.string DR,.string x7,I x6.1,I x6.2.1] rL λ(x8:Sl)=>K (.slice x8.a x8.len x8.cap)
def GR(p0:Option Addr)(p1:ht1)(h:qb p0 p1 K w):CV Yp [.v (.pointer p0),.ag (qc1 p1)] K w:=zC Tryz.f31 .auto _ h
def GO:ZN Pr Yp:=zH (by kernel_rfl)
def qG(p0:Option Addr)(p1:ht1)(K:Value→PT):PT:=
  L.new [I p1.1,.string p1.2.1,.string p1.2.2.1,I p1.2.2.2.1,I p1.2.2.2.2.1,.string p1.2.2.2.2.2.1,I p1.2.2.2.2.2.2.1,I p1.2.2.2.2.2.2.2.1,I p1.2.2.2.2.2.2.2.2.1,I p1.2.2.2.2.2.2.2.2.2.1,I p1.2.2.2.2.2.2.2.2.2.2.1,.string p1.2.2.2.2.2.2.2.2.2.2.2.1,.string p1.2.2.2.2.2.2.2.2.2.2.2.2.1,Sv6 p1.2.2.2.2.2.2.2.2.2.2.2.2.2.1,I p1.2.2.2.2.2.2.2.2.2.2.2.2.2.2.1] zq λb1=>L.draw<|L.nonnil p0 λa2=>L.load eP6 (a2.add 0) λ(x3:Option Addr)=>L.load (.agg [.str,.str,.slice,.int .i64]) (Ad6 b1 11) λ(x4:pt3)=>L.load eI6 (Ad6 b1 3) λ(x5:Int)=>L.call Pr XQ [.pointer x3,.agg #[.string x4.1,.string x4.2.1,Sv6 x4.2.2.1,I x4.2.2.2.1],I x5] (.tup [eI6,eI6]) λ(x6:Int×Int×Unit)=>L.load eS6 ((Ad6 b1 11).add 0) λ(x7:B0)=>L.call Pr Kh [.string Av,.string x7,I x6.1,I x6.2.1] rL λ(x8:Sl)=>K (.slice x8.a x8.len x8.cap)
def fY(p0:Option Addr)(p1:ht1)(h:qG p0 p1 K w):CV YD [.v (.pointer p0),.ag (qc1 p1)] K w:=zC Tryz.f32 .auto _ h
def fT:ZN Pr YD:=zH (by kernel_rfl)
def GZ:Ann:=(.q2 (.q2 (.q2 (.q2 (.q2 (.seq (.q2 (.cond .auto .auto) none) .auto (some [(7,eL6)])) none) none) none) none) none)
def qc(p0:Option Addr)(p1:ht1)(K:Value→PT):PT:=
  L.new [I p1.1,.string p1.2.1,.string p1.2.2.1,I p1.2.2.2.1,I p1.2.2.2.2.1,.string p1.2.2.2.2.2.1,I p1.2.2.2.2.2.2.1,I p1.2.2.2.2.2.2.2.1,I p1.2.2.2.2.2.2.2.2.1,I p1.2.2.2.2.2.2.2.2.2.1,I p1.2.2.2.2.2.2.2.2.2.2.1,.string p1.2.2.2.2.2.2.2.2.2.2.2.1,.string p1.2.2.2.2.2.2.2.2.2.2.2.2.1,Sv6 p1.2.2.2.2.2.2.2.2.2.2.2.2.2.1,I p1.2.2.2.2.2.2.2.2.2.2.2.2.2.2.1] zq λb1=>L.load (.agg lf1) (⟨b1,0,none⟩) λ(x2:pt1)=>L.call Pr qA [.pointer p0,(qa1 x2)] rS λ(x3:B0)=>L.draw<|L.nonnil p0 λa4=>L.load eP6 (a4.add 4) λ(x5:Option Addr)=>L.load eI6 (Ad6 b1 3) λ(x6:Int)=>L.nonnil p0 λa7=>L.load eI6 (a7.add 6) λ(x8:Int)=>L.call Pr uZ [.pointer x5,I x6,.string x3,I x8] rL λ(x9:Sl)=>L.call Pr JI [Sv6 x9,.slice none 0 0] rL λ(x10:Sl)=>L.nonnil p0 λa11=>L.load (.one (.map)) (a11.add 5) λ(x12:Option Nat)=>L.call Pr ji [.map x12,.string x3] (.tup [eP6,eB6]) λ(x13:Option Addr×Bool×Unit)=>L.join (Y:=Sl×Unit) (λk14=>L.ite x13.2.1 (L.ite (decide (((x9.len:Nat):Int)>0)) (L.idx x9.a 0 x9.len 4 λa16=>L.load eI6 (a16.add 1) λ(x17:Int)=>L.ite (x17 == 2) (L.nonnil x13.1 λa18=>L.load eI6 ((a18.add 1).add 0) λ(x19:Int)=>L.ite (x19 == 0) (L.nonnil x13.1 λa20=>L.store ((a20.add 1).add 0) [I 1]<|L.new [.string x3] zc λb21=>L.call Pr zQ [.string Jk,.slice (some ⟨b21,0,none⟩) 1 1] rS λ(x22:B0)=>L.new [I 1] zx λb23=>L.call Pr zR [.string x22,.slice (some ⟨b23,0,none⟩) 1 1] rS λ(x24:B0)=>L.new [.string x24] zc λb25=>L.sem Pr (.one (.one .slice)) (Builtin.append_ #[zj,zj] zj #[Sv6 x10,.slice (some ⟨b25,0,none⟩) 1 1]) λ(s26:Sl)=>k14 (⟨s26.a,s26.len,s26.cap⟩,()))<|k14 (⟨x10.a,x10.len,x10.cap⟩,()))<|k14 (⟨x10.a,x10.len,x10.cap⟩,()))<|k14 (⟨x10.a,x10.len,x10.cap⟩,()))<|k14 (⟨x10.a,x10.len,x10.cap⟩,())) λz15=>K (.slice z15.1.a z15.1.len z15.1.cap)
def GT(p0:Option Addr)(p1:ht1)(h:qc p0 p1 K w):CV Yq [.v (.pointer p0),.ag (qc1 p1)] K w:=zC Tryz.f34 GZ _ h
def GP:ZN Pr Yq:=zH (by kernel_rfl)
def Qt(p0:Option Addr)(p1:ht1)(K:Value→PT):PT:=
  L.new [I p1.1,.string p1.2.1,.string p1.2.2.1,I p1.2.2.2.1,I p1.2.2.2.2.1,.string p1.2.2.2.2.2.1,I p1.2.2.2.2.2.2.1,I p1.2.2.2.2.2.2.2.1,I p1.2.2.2.2.2.2.2.2.1,I p1.2.2.2.2.2.2.2.2.2.1,I p1.2.2.2.2.2.2.2.2.2.2.1,.string p1.2.2.2.2.2.2.2.2.2.2.2.1,.string p1.2.2.2.2.2.2.2.2.2.2.2.2.1,Sv6 p1.2.2.2.2.2.2.2.2.2.2.2.2.2.1,I p1.2.2.2.2.2.2.2.2.2.2.2.2.2.2.1] zq λb1=>L.draw<|L.nonnil p0 λa2=>L.load eP6 (a2.add 4) λ(x3:Option Addr)=>L.load eI6 (Ad6 b1 3) λ(x4:Int)=>L.call Pr vZ [.pointer x3,I x4] (.tup [eL6,eI6]) λ(x5:Sl×Int×Unit)=>L.ite (x5.2.1 != 0) (L.call Pr ZZ [I x5.2.1] rL λ(x6:Sl)=>K (.slice x6.a x6.len x6.cap))<|L.call Pr JI [Sv6 x5.1,.slice none 0 0] rL λ(x7:Sl)=>K (.slice x7.a x7.len x7.cap)
def mE(p0:Option Addr)(p1:ht1)(h:Qt p0 p1 K w):CV YX [.v (.pointer p0),.ag (qc1 p1)] K w:=zC Tryz.f35 .auto _ h
def mw:ZN Pr YX:=zH (by kernel_rfl)
def PG:Ann:=(.q2 (.q2 (.q2 (.q2 (.q2 .auto (some [(7,eL6)])) none) none) none) none)
def Ug(p0:Option Addr)(p1:ht1)(K:Value→PT):PT:=
  L.new [I p1.1,.string p1.2.1,.string p1.2.2.1,I p1.2.2.2.1,I p1.2.2.2.2.1,.string p1.2.2.2.2.2.1,I p1.2.2.2.2.2.2.1,I p1.2.2.2.2.2.2.2.1,I p1.2.2.2.2.2.2.2.2.1,I p1.2.2.2.2.2.2.2.2.2.1,I p1.2.2.2.2.2.2.2.2.2.2.1,.string p1.2.2.2.2.2.2.2.2.2.2.2.1,.string p1.2.2.2.2.2.2.2.2.2.2.2.2.1,Sv6 p1.2.2.2.2.2.2.2.2.2.2.2.2.2.1,I p1.2.2.2.2.2.2.2.2.2.2.2.2.2.2.1] zq λb1=>L.draw<|L.nonnil p0 λa2=>L.load eP6 (a2.add 3) λ(x3:Option Addr)=>L.load eI6 (Ad6 b1 3) λ(x4:Int)=>L.call Pr QO [.pointer x3,I x4] rI λ(x5:Int)=>L.ite (x5 != 0) (L.call Pr ZZ [I x5] rL λ(x6:Sl)=>K (.slice x6.a x6.len x6.cap))<|L.draw<|L.nonnil p0 λa7=>L.load eP6 (a7.add 3) λ(x8:Option Addr)=>L.load eI6 (Ad6 b1 3) λ(x9:Int)=>L.call Pr Vb [.pointer x8,I x9] rS λ(x10:B0)=>L.load eI6 (Ad6 b1 3) λ(x11:Int)=>L.new [I x11] zx λb12=>L.call Pr zR [.string lI,.slice (some ⟨b12,0,none⟩) 1 1] rS λ(x13:B0)=>L.new [.string x13] zc λb14=>L.join (Y:=Sl×Unit) (λk15=>L.nonnil p0 λa17=>L.load eP6 (a17.add 1) λ(x18:Option Addr)=>L.call Pr Yv [.pointer x18,.string x10] rB λ(x19:Bool)=>L.ite (!x19) (L.nonnil p0 λa20=>L.load eP6 (a20.add 1) λ(x21:Option Addr)=>L.call Pr uU [.pointer x21,.string x10] rI λ(x22:Int)=>L.new [.string x10] zc λb23=>L.call Pr zQ [.string Fs,.slice (some ⟨b23,0,none⟩) 1 1] rS λ(x24:B0)=>L.new [.string x24] zc λb25=>L.sem Pr (.one (.one .slice)) (Builtin.append_ #[zj,zj] zj #[.slice (some ⟨b14,0,none⟩) 1 1,.slice (some ⟨b25,0,none⟩) 1 1]) λ(s26:Sl)=>k15 (⟨s26.a,s26.len,s26.cap⟩,()))<|k15 (⟨some ⟨b14,0,none⟩,1,1⟩,())) λz16=>L.nonnil p0 λa27=>L.load eP6 (a27.add 4) λ(x28:Option Addr)=>L.call Pr Xv [.pointer x28,.string x10] rL λ(x29:Sl)=>L.call Pr JI [Sv6 x29,Sv6 z16.1] rL λ(x30:Sl)=>K (.slice x30.a x30.len x30.cap)
def Pl(p0:Option Addr)(p1:ht1)(h:Ug p0 p1 K w):CV jP [.v (.pointer p0),.ag (qc1 p1)] K w:=zC Tryz.f36 PG _ h
def Pi:ZN Pr jP:=zH (by kernel_rfl)
def mP:Ann:=(.q2 (.q2 (.q2 (.seq (.one [(4,eL6)] .auto) .auto none) none) none) none)
def Qs(p0:Option Addr)(p1:ht1)(K:Value→PT):PT:=
  L.new [I p1.1,.string p1.2.1,.string p1.2.2.1,I p1.2.2.2.1,I p1.2.2.2.2.1,.string p1.2.2.2.2.2.1,I p1.2.2.2.2.2.2.1,I p1.2.2.2.2.2.2.2.1,I p1.2.2.2.2.2.2.2.2.1,I p1.2.2.2.2.2.2.2.2.2.1,I p1.2.2.2.2.2.2.2.2.2.2.1,.string p1.2.2.2.2.2.2.2.2.2.2.2.1,.string p1.2.2.2.2.2.2.2.2.2.2.2.2.1,Sv6 p1.2.2.2.2.2.2.2.2.2.2.2.2.2.1,I p1.2.2.2.2.2.2.2.2.2.2.2.2.2.2.1] zq λb1=>L.draw<|L.nonnil p0 λa2=>L.load eP6 (a2.add 3) λ(x3:Option Addr)=>L.load eI6 (Ad6 b1 3) λ(x4:Int)=>L.call Pr Uc [.pointer x3,I x4] (.tup [eL6,eI6]) λ(x5:Sl×Int×Unit)=>L.ite (x5.2.1 != 0) (L.call Pr ZZ [I x5.2.1] rL λ(x6:Sl)=>K (.slice x6.a x6.len x6.cap))<|L.join (Y:=Sl×Unit) (λk7=>L.draw<|L.nonnil p0 λa9=>L.load eP6 (a9.add 4) λ(x10:Option Addr)=>L.load eI6 (Ad6 b1 3) λ(x11:Int)=>L.alts [(L.call Pr QM [.pointer x10,Sv6 x5.1] rL λ(x12:Sl)=>L.chk (Ad6 b1 3) [I x11]<|L.new [I x11] zx λb13=>L.chk (a9.add 4) [.pointer x10]<|L.call Pr zR [.string TZ,.slice (some ⟨b13,0,none⟩) 1 1] rS λ(x14:B0)=>L.new [.string x14] zc λb15=>L.call Pr JI [Sv6 x12,.slice (some ⟨b15,0,none⟩) 1 1] rL λ(x16:Sl)=>k7 (⟨x16.a,x16.len,x16.cap⟩,())),(L.new [I x11] zx λb17=>L.chk (a9.add 4) [.pointer x10]<|L.call Pr QM [.pointer x10,Sv6 x5.1] rL λ(x18:Sl)=>L.chk (Ad6 b1 3) [I x11]<|L.call Pr zR [.string TZ,.slice (some ⟨b17,0,none⟩) 1 1] rS λ(x19:B0)=>L.new [.string x19] zc λb20=>L.call Pr JI [Sv6 x18,.slice (some ⟨b20,0,none⟩) 1 1] rL λ(x21:Sl)=>k7 (⟨x21.a,x21.len,x21.cap⟩,()))]) λz8=>K (.slice z8.1.a z8.1.len z8.1.cap)
def mD(p0:Option Addr)(p1:ht1)(h:Qs p0 p1 K w):CV ym [.v (.pointer p0),.ag (qc1 p1)] K w:=zC Tryz.f37 mP _ h
def mu:ZN Pr ym:=zH (by kernel_rfl)
def mM:Ann:=(.q2 (.q2 (.q2 (.q2 (.seq (.q2 (.one [(33,eI6)] .auto) none) .auto none) none) none) none) none)
def Qq(p0:Option Addr)(p1:ht1)(K:Value→PT):PT:=
  L.new [I p1.1,.string p1.2.1,.string p1.2.2.1,I p1.2.2.2.1,I p1.2.2.2.2.1,.string p1.2.2.2.2.2.1,I p1.2.2.2.2.2.2.1,I p1.2.2.2.2.2.2.2.1,I p1.2.2.2.2.2.2.2.2.1,I p1.2.2.2.2.2.2.2.2.2.1,I p1.2.2.2.2.2.2.2.2.2.2.1,.string p1.2.2.2.2.2.2.2.2.2.2.2.1,.string p1.2.2.2.2.2.2.2.2.2.2.2.2.1,Sv6 p1.2.2.2.2.2.2.2.2.2.2.2.2.2.1,I p1.2.2.2.2.2.2.2.2.2.2.2.2.2.2.1] zq λb1=>L.nonnil p0 λa2=>L.load eI6 (a2.add 6) λ(x3:Int)=>L.ite (decide (x3≥1048576)) (L.call Pr ZZ [I 9] rL λ(x4:Sl)=>K (.slice x4.a x4.len x4.cap))<|L.nonnil p0 λa5=>L.load eI6 (a5.add 6) λ(x6:Int)=>L.nonnil p0 λa7=>L.store (a7.add 6) [I (Wi (x6+1))]<|L.draw<|L.nonnil p0 λa8=>L.load eP6 (a8.add 4) λ(x9:Option Addr)=>L.nonnil p0 λa10=>L.load eI6 (a10.add 6) λ(x11:Int)=>L.call Pr vX [.pointer x9,I x11] rL λ(x12:Sl)=>L.call Pr jD [.pointer p0] rL λ(x13:Sl)=>L.loop (Y:=Int×Unit) (0,()) λy14 again15=>L.ite (decide (y14.1<((x13.len:Nat):Int))) (L.idx x13.a y14.1 x13.len 1 λa16=>L.load eS6 a16 λ(x17:B0)=>L.draw<|L.nonnil p0 λa18=>L.load (.one (.map)) (a18.add 5) λ(x19:Option Nat)=>L.semR Pr rP (Instr.lookup ZJ (.map x19) (.string x17) false) λ(x20:Option Addr)=>L.nonnil x20 λa21=>L.load eP6 (a21.add 0) λ(x22:Option Addr)=>L.nonnil p0 λa23=>L.load eP6 (a23.add 4) λ(x24:Option Addr)=>L.call Pr QN [.pointer x24,.string x17] rI λ(x25:Int)=>L.chk (a21.add 0) [.pointer x22]<|L.chkSem Pr (Instr.lookup ZJ (.map x19) (.string x17) false) (.pointer x20)<|L.chk (a18.add 5) [.map x19]<|L.call Pr UZ [.pointer x22,I x25] (.tup []) λ(x26:Unit)=>again15 (Wi (y14.1+1),()))<|L.nonnil p0 λa27=>L.load eI6 (a27.add 6) λ(x28:Int)=>L.new [I x28] zx λb29=>L.call Pr zR [.string TY,.slice (some ⟨b29,0,none⟩) 1 1] rS λ(x30:B0)=>L.new [.string x30] zc λb31=>L.call Pr JI [Sv6 x12,.slice (some ⟨b31,0,none⟩) 1 1] rL λ(x32:Sl)=>K (.slice x32.a x32.len x32.cap)
def mB(p0:Option Addr)(p1:ht1)(h:Qq p0 p1 K w):CV YV [.v (.pointer p0),.ag (qc1 p1)] K w:=zC Tryz.f38 mM _ h
def mq:ZN Pr YV:=zH (by kernel_rfl)
def Fh:Ann:=(.q2 (.seq (.one [(5,(.one (.adr))),(7,eI6),(8,eB6)] .auto) .auto none) none)
def qE(p0:Option Addr)(p1:ht1)(K:Value→PT):PT:=
  L.new [I p1.1,.string p1.2.1,.string p1.2.2.1,I p1.2.2.2.1,I p1.2.2.2.2.1,.string p1.2.2.2.2.2.1,I p1.2.2.2.2.2.2.1,I p1.2.2.2.2.2.2.2.1,I p1.2.2.2.2.2.2.2.2.1,I p1.2.2.2.2.2.2.2.2.2.1,I p1.2.2.2.2.2.2.2.2.2.2.1,.string p1.2.2.2.2.2.2.2.2.2.2.2.1,.string p1.2.2.2.2.2.2.2.2.2.2.2.2.1,Sv6 p1.2.2.2.2.2.2.2.2.2.2.2.2.2.1,I p1.2.2.2.2.2.2.2.2.2.2.2.2.2.2.1] zq λb1=>L.join (Y:=Addr×Int×Bool×Unit) (λk2=>L.draw<|L.nonnil p0 λa4=>L.load eP6 (a4.add 0) λ(x5:Option Addr)=>L.load eS6 (Ad6 b1 1) λ(x6:B0)=>L.alts [(L.call Pr xJ [.pointer x5,.string x6] (.tup [(.agg lf0),eI6,eI6,eB6]) λ(x7:pt4)=>L.new [.string s_,I 0,I 0,I 0,I 0,I 0] zA λb8=>L.chk (Ad6 b1 1) [.string x6]<|L.chk (a4.add 0) [.pointer x5]<|L.store (⟨b8,0,none⟩) [.string x7.1.1,I x7.1.2.1,I x7.1.2.2.1,I x7.1.2.2.2.1,I x7.1.2.2.2.2.1,I x7.1.2.2.2.2.2.1]<|k2 (⟨b8,0,none⟩,x7.2.2.1,x7.2.2.2.1,())),(L.new [.string s_,I 0,I 0,I 0,I 0,I 0] zA λb9=>L.chk (Ad6 b1 1) [.string x6]<|L.chk (a4.add 0) [.pointer x5]<|L.call Pr xJ [.pointer x5,.string x6] (.tup [(.agg lf0),eI6,eI6,eB6]) λ(x10:pt4)=>L.store (⟨b9,0,none⟩) [.string x10.1.1,I x10.1.2.1,I x10.1.2.2.1,I x10.1.2.2.2.1,I x10.1.2.2.2.2.1,I x10.1.2.2.2.2.2.1]<|k2 (⟨b9,0,none⟩,x10.2.2.1,x10.2.2.2.1,()))]) λz3=>L.ite (!z3.2.2.1) (L.call Pr ZZ [I 6] rL λ(x11:Sl)=>K (.slice x11.a x11.len x11.cap))<|L.ite (decide (z3.2.1>999999)) (L.call Pr ZZ [I 3] rL λ(x12:Sl)=>K (.slice x12.a x12.len x12.cap))<|L.draw<|L.nonnil p0 λa13=>L.load eP6 (a13.add 1) λ(x14:Option Addr)=>L.load (.agg lf0) z3.1 λ(x15:pt0)=>L.call Pr uT [.pointer x14,(qa0 x15),I z3.2.1] (.tup [eS6,eB6]) λ(x16:B0×Bool×Unit)=>L.ite (!x16.2.1) (L.new [.string x16.1] zc λb17=>L.call Pr zQ [.string EX,.slice (some ⟨b17,0,none⟩) 1 1] rS λ(x18:B0)=>L.new [.string x18] zc λb19=>K (.slice (some ⟨b19,0,none⟩) 1 1))<|L.load eI6 (z3.1.add 3) λ(x20:Int)=>L.draw<|L.nonnil p0 λa21=>L.load (.one (.map)) (a21.add 5) λ(x22:Option Nat)=>L.call Pr FD [] rP λ(x23:Option Addr)=>L.chk (a21.add 5) [.map x22]<|L.new [.pointer x23,I (if 1>x20 then 1 else x20),I 0] qp λb24=>L.chk (a21.add 5) [.map x22]<|L.semU Pr (Instr.mapUpdate ZJ (.map x22) (.string x16.1) (.pointer (some (⟨b24,0,none⟩))))<|L.new [.string x16.1] zc λb25=>L.call Pr zQ [.string Gt,.slice (some ⟨b25,0,none⟩) 1 1] rS λ(x26:B0)=>L.new [.string x16.1] zc λb27=>L.call Pr zQ [.string Jk,.slice (some ⟨b27,0,none⟩) 1 1] rS λ(x28:B0)=>L.new [I (if 1>x20 then 1 else x20)] zx λb29=>L.call Pr zR [.string x28,.slice (some ⟨b29,0,none⟩) 1 1] rS λ(x30:B0)=>L.new [.string x26,.string x30] zc λb31=>K (.slice (some ⟨b31,0,none⟩) 2 2)
def fW(p0:Option Addr)(p1:ht1)(h:qE p0 p1 K w):CV YB [.v (.pointer p0),.ag (qc1 p1)] K w:=zC Tryz.f39 Fh _ h
def fR:ZN Pr YB:=zH (by kernel_rfl)
def mO:Ann:=(.q2 (.seq (.one [(5,(.one (.adr))),(7,eB6)] .auto) (.q2 (.seq (.one [(8,(.one (.adr))),(9,eI6)] .auto) .auto none) none) none) none)
def Qr(p0:Option Addr)(p1:ht1)(K:Value→PT):PT:=
  L.new [I p1.1,.string p1.2.1,.string p1.2.2.1,I p1.2.2.2.1,I p1.2.2.2.2.1,.string p1.2.2.2.2.2.1,I p1.2.2.2.2.2.2.1,I p1.2.2.2.2.2.2.2.1,I p1.2.2.2.2.2.2.2.2.1,I p1.2.2.2.2.2.2.2.2.2.1,I p1.2.2.2.2.2.2.2.2.2.2.1,.string p1.2.2.2.2.2.2.2.2.2.2.2.1,.string p1.2.2.2.2.2.2.2.2.2.2.2.2.1,Sv6 p1.2.2.2.2.2.2.2.2.2.2.2.2.2.1,I p1.2.2.2.2.2.2.2.2.2.2.2.2.2.2.1] zq λb1=>L.join (Y:=Addr×Bool×Unit) (λk2=>L.draw<|L.nonnil p0 λa4=>L.load eP6 (a4.add 0) λ(x5:Option Addr)=>L.load eS6 (Ad6 b1 1) λ(x6:B0)=>L.alts [(L.call Pr Xl [.pointer x5,.string x6] (.tup [(.agg [.str,.str,.slice,.int .i64]),eI6,eB6]) λ(x7:pt5)=>L.new [.string s_,.string s_,.slice none 0 0,I 0] Zb λb8=>L.chk (Ad6 b1 1) [.string x6]<|L.chk (a4.add 0) [.pointer x5]<|L.store (⟨b8,0,none⟩) [.string x7.1.1,.string x7.1.2.1,Sv6 x7.1.2.2.1,I x7.1.2.2.2.1]<|k2 (⟨b8,0,none⟩,x7.2.2.1,())),(L.new [.string s_,.string s_,.slice none 0 0,I 0] Zb λb9=>L.chk (Ad6 b1 1) [.string x6]<|L.chk (a4.add 0) [.pointer x5]<|L.call Pr Xl [.pointer x5,.string x6] (.tup [(.agg [.str,.str,.slice,.int .i64]),eI6,eB6]) λ(x10:pt5)=>L.store (⟨b9,0,none⟩) [.string x10.1.1,.string x10.1.2.1,Sv6 x10.1.2.2.1,I x10.1.2.2.2.1]<|k2 (⟨b9,0,none⟩,x10.2.2.1,()))]) λz3=>L.ite (!z3.2.1) (L.call Pr ZZ [I 6] rL λ(x11:Sl)=>K (.slice x11.a x11.len x11.cap))<|L.join (Y:=Addr×Int×Unit) (λk12=>L.draw<|L.load (.agg [.str,.str,.slice,.int .i64]) z3.1 λ(x14:pt3)=>L.nonnil p0 λa15=>L.load eP6 (a15.add 1) λ(x16:Option Addr)=>L.alts [(L.call Pr UX [.agg #[.string x14.1,.string x14.2.1,Sv6 x14.2.2.1,I x14.2.2.2.1],.pointer x16] (.tup [(.agg [.slice,.slice]),eI6]) λ(x17:(Sl×Sl×Unit)×Int×Unit)=>L.new [.slice none 0 0,.slice none 0 0] zp λb18=>L.chk (a15.add 1) [.pointer x16]<|L.chk z3.1 [.string x14.1,.string x14.2.1,Sv6 x14.2.2.1,I x14.2.2.2.1]<|L.store (⟨b18,0,none⟩) [Sv6 x17.1.1,Sv6 x17.1.2.1]<|k12 (⟨b18,0,none⟩,x17.2.1,())),(L.new [.slice none 0 0,.slice none 0 0] zp λb19=>L.chk (a15.add 1) [.pointer x16]<|L.chk z3.1 [.string x14.1,.string x14.2.1,Sv6 x14.2.2.1,I x14.2.2.2.1]<|L.call Pr UX [.agg #[.string x14.1,.string x14.2.1,Sv6 x14.2.2.1,I x14.2.2.2.1],.pointer x16] (.tup [(.agg [.slice,.slice]),eI6]) λ(x20:(Sl×Sl×Unit)×Int×Unit)=>L.store (⟨b19,0,none⟩) [Sv6 x20.1.1,Sv6 x20.1.2.1]<|k12 (⟨b19,0,none⟩,x20.2.1,()))]) λz13=>L.ite (z13.2.1 != 0) (L.call Pr ZZ [I z13.2.1] rL λ(x21:Sl)=>K (.slice x21.a x21.len x21.cap))<|L.draw<|L.load eS6 (Ad6 b1 1) λ(x22:B0)=>L.nonnil p0 λa23=>L.load eP6 (a23.add 2) λ(x24:Option Addr)=>L.load eS6 (Ad6 b1 1) λ(x25:B0)=>L.load (.agg [.slice,.slice]) z13.1 λ(x26:Sl×Sl×Unit)=>L.nonnil p0 λa27=>L.load eI6 (a27.add 6) λ(x28:Int)=>L.load eI6 (z3.1.add 3) λ(x29:Int)=>L.call Pr uW [.pointer x24,.string x25,.agg #[Sv6 x26.1,Sv6 x26.2.1],I x28,I x29] (.one (.agg [.slice,.slice])) λ(x30:Sl×Sl×Unit)=>L.chk (Ad6 b1 1) [.string x22]<|L.call Pr Gx [.agg #[Sv6 x30.1,Sv6 x30.2.1]] rS λ(x31:B0)=>L.chk (Ad6 b1 1) [.string x22]<|L.new [.string x22,.string x31] zc λb32=>L.call Pr zQ [.string As,.slice (some ⟨b32,0,none⟩) 2 2] rS λ(x33:B0)=>L.new [.string x33] zc λb34=>K (.slice (some ⟨b34,0,none⟩) 1 1)
def mC(p0:Option Addr)(p1:ht1)(h:Qr p0 p1 K w):CV YW [.v (.pointer p0),.ag (qc1 p1)] K w:=zC Tryz.f40 mO _ h
def mr:ZN Pr YW:=zH (by kernel_rfl)
def Fi:Ann:=(.q2 (.seq (.one [(5,(.one (.adr))),(6,eB6)] .auto) (.q2 (.q2 (.q2 (.q2 (.q2 (.q2 (.seq (.one [(4,eL6)] .auto) .auto none) none) none) none) none) none) none) none) none)
def qF(p0:Option Addr)(p1:ht1)(K:Value→PT):PT:=
  L.new [I p1.1,.string p1.2.1,.string p1.2.2.1,I p1.2.2.2.1,I p1.2.2.2.2.1,.string p1.2.2.2.2.2.1,I p1.2.2.2.2.2.2.1,I p1.2.2.2.2.2.2.2.1,I p1.2.2.2.2.2.2.2.2.1,I p1.2.2.2.2.2.2.2.2.2.1,I p1.2.2.2.2.2.2.2.2.2.2.1,.string p1.2.2.2.2.2.2.2.2.2.2.2.1,.string p1.2.2.2.2.2.2.2.2.2.2.2.2.1,Sv6 p1.2.2.2.2.2.2.2.2.2.2.2.2.2.1,I p1.2.2.2.2.2.2.2.2.2.2.2.2.2.2.1] zq λb1=>L.join (Y:=Addr×Bool×Unit) (λk2=>L.draw<|L.nonnil p0 λa4=>L.load eP6 (a4.add 1) λ(x5:Option Addr)=>L.load eS6 (Ad6 b1 1) λ(x6:B0)=>L.alts [(L.call Pr jQ [.pointer x5,.string x6] (.tup [(.agg lf6),eB6]) λ(x7:pt6)=>L.new [.string s_,I 0,.string s_,I 0,I 0,I 0,I 0,I 0] zU λb8=>L.chk (Ad6 b1 1) [.string x6]<|L.chk (a4.add 1) [.pointer x5]<|L.store (⟨b8,0,none⟩) [.string x7.1.1,I x7.1.2.1,.string x7.1.2.2.1,I x7.1.2.2.2.1,I x7.1.2.2.2.2.1,I x7.1.2.2.2.2.2.1,I x7.1.2.2.2.2.2.2.1,I x7.1.2.2.2.2.2.2.2.1]<|k2 (⟨b8,0,none⟩,x7.2.1,())),(L.new [.string s_,I 0,.string s_,I 0,I 0,I 0,I 0,I 0] zU λb9=>L.chk (Ad6 b1 1) [.string x6]<|L.chk (a4.add 1) [.pointer x5]<|L.call Pr jQ [.pointer x5,.string x6] (.tup [(.agg lf6),eB6]) λ(x10:pt6)=>L.store (⟨b9,0,none⟩) [.string x10.1.1,I x10.1.2.1,.string x10.1.2.2.1,I x10.1.2.2.2.1,I x10.1.2.2.2.2.1,I x10.1.2.2.2.2.2.1,I x10.1.2.2.2.2.2.2.1,I x10.1.2.2.2.2.2.2.2.1]<|k2 (⟨b9,0,none⟩,x10.2.1,()))]) λz3=>L.ite (!z3.2.1) (L.call Pr ZZ [I 6] rL λ(x11:Sl)=>K (.slice x11.a x11.len x11.cap))<|L.draw<|L.nonnil p0 λa12=>L.load (.one (.map)) (a12.add 5) λ(x13:Option Nat)=>L.load eS6 (Ad6 b1 1) λ(x14:B0)=>L.semR Pr rP (Instr.lookup ZJ (.map x13) (.string x14) false) λ(x15:Option Addr)=>L.load eS6 (Ad6 b1 1) λ(x16:B0)=>L.call Pr xp [.pointer p0,.string x16,.func (.func Jl) #[] #[]] rI λ(x17:Int)=>L.nonnil x15 λa18=>L.load eP6 (a18.add 0) λ(x19:Option Addr)=>L.call Pr XU [.pointer x19,I 6] (.tup [eI6,eI6]) λ(x20:Int×Int×Unit)=>L.nonnil x15 λa21=>L.load eP6 (a21.add 0) λ(x22:Option Addr)=>L.call Pr XU [.pointer x22,I 2] (.tup [eI6,eI6]) λ(x23:Int×Int×Unit)=>L.draw<|L.nonnil x15 λa24=>L.load (.agg [.int .i64,.int .i64]) (a24.add 1) λ(x25:Int×Int×Unit)=>L.load (.agg lf0) (z3.1.add 2) λ(x26:pt0)=>L.nonnil p0 λa27=>L.load eP6 (a27.add 4) λ(x28:Option Addr)=>L.load eS6 (Ad6 b1 1) λ(x29:B0)=>L.nonnil x15 λa30=>L.load eP6 (a30.add 0) λ(x31:Option Addr)=>L.call Pr QN [.pointer x28,.string x29] rI λ(x32:Int)=>L.chk (a30.add 0) [.pointer x31]<|L.chk (z3.1.add 2) [.string x26.1,I x26.2.1,I x26.2.2.1,I x26.2.2.2.1,I x26.2.2.2.2.1,I x26.2.2.2.2.2.1]<|L.chk (a24.add 1) [I x25.1,I x25.2.1]<|L.call Pr uX [.pointer x31] rI λ(x33:Int)=>L.chk (z3.1.add 2) [.string x26.1,I x26.2.1,I x26.2.2.1,I x26.2.2.2.1,I x26.2.2.2.2.1,I x26.2.2.2.2.2.1]<|L.chk (a24.add 1) [I x25.1,I x25.2.1]<|L.call Pr KR [.agg #[I x25.1,I x25.2.1],(qa0 x26),I x17,I x32,I x20.1,I x20.2.1,I x23.1,I x23.2.1,I x33] (.one (.agg [.int .i64,.int .i64])) λ(x34:Int×Int×Unit)=>L.nonnil x15 λa35=>L.store (a35.add 1) [I x34.1,I x34.2.1]<|L.join (Y:=Sl×Unit) (λk36=>L.draw<|L.load eS6 (Ad6 b1 1) λ(x38:B0)=>L.nonnil x15 λa39=>L.load eI6 ((a39.add 1).add 0) λ(x40:Int)=>L.alts [(L.new [.string x38] zc λb41=>L.chk ((a39.add 1).add 0) [I x40]<|L.alts [(L.call Pr zQ [.string Jk,.slice (some ⟨b41,0,none⟩) 1 1] rS λ(x42:B0)=>L.chk ((a39.add 1).add 0) [I x40]<|L.new [I x40] zx λb43=>L.chk (Ad6 b1 1) [.string x38]<|L.call Pr zR [.string x42,.slice (some ⟨b43,0,none⟩) 1 1] rS λ(x44:B0)=>L.new [.string x44] zc λb45=>k36 (⟨some ⟨b45,0,none⟩,1,1⟩,())),(L.new [I x40] zx λb46=>L.chk (Ad6 b1 1) [.string x38]<|L.call Pr zQ [.string Jk,.slice (some ⟨b41,0,none⟩) 1 1] rS λ(x47:B0)=>L.chk ((a39.add 1).add 0) [I x40]<|L.call Pr zR [.string x47,.slice (some ⟨b46,0,none⟩) 1 1] rS λ(x48:B0)=>L.new [.string x48] zc λb49=>k36 (⟨some ⟨b49,0,none⟩,1,1⟩,()))]),(L.new [I x40] zx λb50=>L.chk (Ad6 b1 1) [.string x38]<|L.new [.string x38] zc λb51=>L.chk ((a39.add 1).add 0) [I x40]<|L.call Pr zQ [.string Jk,.slice (some ⟨b51,0,none⟩) 1 1] rS λ(x52:B0)=>L.chk ((a39.add 1).add 0) [I x40]<|L.call Pr zR [.string x52,.slice (some ⟨b50,0,none⟩) 1 1] rS λ(x53:B0)=>L.new [.string x53] zc λb54=>k36 (⟨some ⟨b54,0,none⟩,1,1⟩,()))]) λz37=>K (.slice z37.1.a z37.1.len z37.1.cap)
def fX(p0:Option Addr)(p1:ht1)(h:qF p0 p1 K w):CV YC [.v (.pointer p0),.ag (qc1 p1)] K w:=zC Tryz.f41 Fi _ h
def fS:ZN Pr YC:=zH (by kernel_rfl)
def mN:Ann:=(.q2 (.seq (.one [(5,(.one (.adr))),(6,eB6)] .auto) (.q2 (.q2 (.q2 (.seq (.q2 (.one [(9,eL6),(47,eI6)] .auto) none) (.seq (.q2 (.one [(9,eL6),(60,eI6)] .auto) none) .auto none) none) none) none) none) none) none)
def Jg(p0:Option Addr)(p1:ht1)(K:Value→PT):PT:=
  L.new [I p1.1,.string p1.2.1,.string p1.2.2.1,I p1.2.2.2.1,I p1.2.2.2.2.1,.string p1.2.2.2.2.2.1,I p1.2.2.2.2.2.2.1,I p1.2.2.2.2.2.2.2.1,I p1.2.2.2.2.2.2.2.2.1,I p1.2.2.2.2.2.2.2.2.2.1,I p1.2.2.2.2.2.2.2.2.2.2.1,.string p1.2.2.2.2.2.2.2.2.2.2.2.1,.string p1.2.2.2.2.2.2.2.2.2.2.2.2.1,Sv6 p1.2.2.2.2.2.2.2.2.2.2.2.2.2.1,I p1.2.2.2.2.2.2.2.2.2.2.2.2.2.2.1] zq λb1=>L.join (Y:=Addr×Bool×Unit) (λk2=>L.draw<|L.nonnil p0 λa4=>L.load eP6 (a4.add 1) λ(x5:Option Addr)=>L.load eS6 (Ad6 b1 1) λ(x6:B0)=>L.alts [(L.call Pr jQ [.pointer x5,.string x6] (.tup [(.agg lf6),eB6]) λ(x7:pt6)=>L.new [.string s_,I 0,.string s_,I 0,I 0,I 0,I 0,I 0] zU λb8=>L.chk (Ad6 b1 1) [.string x6]<|L.chk (a4.add 1) [.pointer x5]<|L.store (⟨b8,0,none⟩) [.string x7.1.1,I x7.1.2.1,.string x7.1.2.2.1,I x7.1.2.2.2.1,I x7.1.2.2.2.2.1,I x7.1.2.2.2.2.2.1,I x7.1.2.2.2.2.2.2.1,I x7.1.2.2.2.2.2.2.2.1]<|k2 (⟨b8,0,none⟩,x7.2.1,())),(L.new [.string s_,I 0,.string s_,I 0,I 0,I 0,I 0,I 0] zU λb9=>L.chk (Ad6 b1 1) [.string x6]<|L.chk (a4.add 1) [.pointer x5]<|L.call Pr jQ [.pointer x5,.string x6] (.tup [(.agg lf6),eB6]) λ(x10:pt6)=>L.store (⟨b9,0,none⟩) [.string x10.1.1,I x10.1.2.1,.string x10.1.2.2.1,I x10.1.2.2.2.1,I x10.1.2.2.2.2.1,I x10.1.2.2.2.2.2.1,I x10.1.2.2.2.2.2.2.1,I x10.1.2.2.2.2.2.2.2.1]<|k2 (⟨b9,0,none⟩,x10.2.1,()))]) λz3=>L.ite (!z3.2.1) (L.call Pr ZZ [I 6] rL λ(x11:Sl)=>K (.slice x11.a x11.len x11.cap))<|L.draw<|L.nonnil p0 λa12=>L.load eP6 (a12.add 3) λ(x13:Option Addr)=>L.load eS6 (Ad6 b1 1) λ(x14:B0)=>L.load eI6 ((z3.1.add 2).add 2) λ(x15:Int)=>L.load eS6 (Ad6 b1 1) λ(x16:B0)=>L.call Pr Qf [.pointer p0,.string x16] rI λ(x17:Int)=>L.chk ((z3.1.add 2).add 2) [I x15]<|L.chk (Ad6 b1 1) [.string x14]<|L.chk (a12.add 3) [.pointer x13]<|L.call Pr ui [.pointer x13,.string x14,I x15,I x17] (.tup [eL6,eL6]) λ(x18:Sl×Sl×Unit)=>L.loop (Y:=Sl×Int×Unit) (⟨none,0,0⟩,0,()) λy19 again20=>L.ite (decide (y19.2.1<((x18.1.len:Nat):Int))) (L.idx x18.1.a y19.2.1 x18.1.len 1 λa21=>L.load eI6 a21 λ(x22:Int)=>L.new [I x22] zx λb23=>L.call Pr zR [.string lJ,.slice (some ⟨b23,0,none⟩) 1 1] rS λ(x24:B0)=>L.new [.string x24] zc λb25=>L.sem Pr (.one (.one .slice)) (Builtin.append_ #[zj,zj] zj #[Sv6 y19.1,.slice (some ⟨b25,0,none⟩) 1 1]) λ(s26:Sl)=>again20 (⟨s26.a,s26.len,s26.cap⟩,Wi (y19.2.1+1),()))<|L.loop (Y:=Sl×Int×Unit) (⟨y19.1.a,y19.1.len,y19.1.cap⟩,0,()) λy27 again28=>L.ite (decide (y27.2.1<((x18.2.1.len:Nat):Int))) (L.idx x18.2.1.a y27.2.1 x18.2.1.len 1 λa29=>L.load eI6 a29 λ(x30:Int)=>L.new [I x30] zx λb31=>L.call Pr zR [.string lK,.slice (some ⟨b31,0,none⟩) 1 1] rS λ(x32:B0)=>L.new [.string x32] zc λb33=>L.sem Pr (.one (.one .slice)) (Builtin.append_ #[zj,zj] zj #[Sv6 y27.1,.slice (some ⟨b33,0,none⟩) 1 1]) λ(s34:Sl)=>again28 (⟨s34.a,s34.len,s34.cap⟩,Wi (y27.2.1+1),()))<|L.load eS6 (Ad6 b1 1) λ(x35:B0)=>L.call Pr xp [.pointer p0,.string x35,.func (.func Jz) #[] #[]] rI λ(x36:Int)=>L.load eS6 (Ad6 b1 1) λ(x37:B0)=>L.new [.string x37] zc λb38=>L.call Pr zQ [.string mY,.slice (some ⟨b38,0,none⟩) 1 1] rS λ(x39:B0)=>L.new [I x36] zx λb40=>L.call Pr zR [.string x39,.slice (some ⟨b40,0,none⟩) 1 1] rS λ(x41:B0)=>L.new [.string x41] zc λb42=>L.sem Pr (.one (.one .slice)) (Builtin.append_ #[zj,zj] zj #[Sv6 y27.1,.slice (some ⟨b42,0,none⟩) 1 1]) λ(s43:Sl)=>K (.slice s43.a s43.len s43.cap)
def VZ(p0:Option Addr)(p1:ht1)(h:Jg p0 p1 K w):CV Yi [.v (.pointer p0),.ag (qc1 p1)] K w:=zC Tryz.f42 mN _ h
def VY:ZN Pr Yi:=zH (by kernel_rfl)
def PJ:Ann:=(.q2 (.seq (.q2 (.one [(5,eL6)] (.q2 (.seq (.cond .auto .auto) .auto none) none)) none) (.q2 (.q2 .auto (some [(4,eL6)])) none) none) none)
def oB(p0:Option Addr)(p1:B0)(K:Value→PT):PT:=
  L.nonnil p0 λa1=>L.load (.one (.map)) (a1.add 1) λ(x2:Option Nat)=>L.sem Pr (.one (.one .ptr)) (Instr.range yn (.map x2)) λ(it3:Option Addr)=>L.loop (Y:=Sl×Unit) (⟨none,0,0⟩,()) λy4 again5=>L.next Pr [eI6,(.agg [.str,.int .i64])] (Instr.next (.pointer it3) false T_) (L.call Pr qB [Sv6 y4.1] (.tup []) λ(x7:Unit)=>L.join (Y:=Sl×Unit) (λk8=>L.nonnil p0 λa10=>L.load (.one (.map)) ((a10.add 2).add 0) λ(x11:Option Nat)=>L.semR Pr (.tup [eP6,.one .bool]) (Instr.lookup ZB (.map x11) (.string p1) true) λ(x12:Option Addr×Bool×Unit)=>L.ite x12.2.1 (L.call Pr uM [.pointer x12.1] rL λ(x13:Sl)=>k8 (⟨x13.a,x13.len,x13.cap⟩,()))<|k8 (⟨none,0,0⟩,())) λz9=>L.call Pr ZX [Sv6 y4.1] rL λ(x14:Sl)=>K (.tuple #[Sv6 z9.1,Sv6 x14])) λ(x6:pt7)=>L.sem Pr (.tup [eI6,(.agg [.str,.int .i64])]) (Instr.entry (.pointer it3)) λ(x15:pt7)=>L.new [.string s_,I 0] Zw λb16=>L.store (⟨b16,0,none⟩) [.string x15.2.1.1,I x15.2.1.2.1]<|L.load (.agg [.str,.int .i64]) (⟨b16,0,none⟩) λ(x17:B0×Int×Unit)=>L.chkSem Pr (do eqGuard .eql Zw (.tmp 0) (.tmp 0) (.agg #[.string x17.1,I x17.2.1]) (.agg #[.string p1,I 1]);binOp .eql Zw (.agg #[.string x17.1,I x17.2.1]) (.agg #[.string p1,I 1])) (.bool ((x17.1 == p1)&&((x17.2.1 == 1)&&true)))<|L.ite ((x17.1 == p1)&&((x17.2.1 == 1)&&true)) (L.new [I x15.1] zx λb18=>L.sem Pr (.one (.one .slice)) (Builtin.append_ #[ZS,ZS] ZS #[Sv6 y4.1,.slice (some ⟨b18,0,none⟩) 1 1]) λ(s19:Sl)=>again5 (⟨s19.a,s19.len,s19.cap⟩,()))<|again5 (⟨y4.1.a,y4.1.len,y4.1.cap⟩,())
def Pw(p0:Option Addr)(p1:B0)(h:oB p0 p1 K w):CV XV [.v (.pointer p0),.v (.string p1)] K w:=zC Tryz.f43 PJ _ h
def rf:Ann:=(.q2 (.q2 (.seq (.q2 (.q2 .auto (some [(7,(.agg lf1))])) none) .auto none) none) none)
def Tw(p0:Option Addr)(K:Value→PT):PT:=
  L.new [.pointer p0] zL λb1=>L.new [.slice none 0 0] zj λb2=>L.load eP6 (⟨b1,0,none⟩) λ(x3:Option Addr)=>L.call Pr MV [.pointer x3] (.one (.one (.func))) λ(x4:FV)=>L.range Pr none (.func x4.fn x4.fs x4.cs) [(.agg lf1)] (λl5(y6:(Int×B0×B0×Int×Int×B0×Int×Int×Int×Int×Int×B0×B0×Sl×Int×Unit)×Unit) R7=>L.new [I 0,.string s_,.string s_,I 0,I 0,.string s_,I 0,I 0,I 0,I 0,I 0,.string s_,.string s_,.slice none 0 0,I 0] zq λb10=>L.store (⟨b10,0,none⟩) [I y6.1.1,.string y6.1.2.1,.string y6.1.2.2.1,I y6.1.2.2.2.1,I y6.1.2.2.2.2.1,.string y6.1.2.2.2.2.2.1,I y6.1.2.2.2.2.2.2.1,I y6.1.2.2.2.2.2.2.2.1,I y6.1.2.2.2.2.2.2.2.2.1,I y6.1.2.2.2.2.2.2.2.2.2.1,I y6.1.2.2.2.2.2.2.2.2.2.2.1,.string y6.1.2.2.2.2.2.2.2.2.2.2.2.1,.string y6.1.2.2.2.2.2.2.2.2.2.2.2.2.1,Sv6 y6.1.2.2.2.2.2.2.2.2.2.2.2.2.2.1,I y6.1.2.2.2.2.2.2.2.2.2.2.2.2.2.2.1]<|L.begin Pr l5<|L.draw<|L.load eL6 (⟨b2,0,none⟩) λ(x11:Sl)=>L.load eP6 (⟨b1,0,none⟩) λ(x12:Option Addr)=>L.load (.agg lf1) (⟨b10,0,none⟩) λ(x13:pt1)=>L.call Pr zl [.pointer x12,(qa1 x13)] rL λ(x14:Sl)=>L.chk (⟨b2,0,none⟩) [Sv6 x11]<|L.sem Pr (.one (.one .slice)) (Builtin.append_ #[zj,zj] zj #[Sv6 x11,Sv6 x14]) λ(s15:Sl)=>L.store (⟨b2,0,none⟩) [Sv6 s15]<|L.endRound Pr l5 none R7) λd8 j9=>L.jump j9 (L.load eL6 (⟨b2,0,none⟩) λ(x16:Sl)=>L.call Pr ZG [Sv6 x16] rL λ(x17:Sl)=>L.unmark Pr (d8++[])<|K (.slice x17.a x17.len x17.cap)) (L.unmark Pr (d8++[])<|K (.slice none 0 0)) []
def LT(p0:Option Addr)(h:Tw p0 K w):CV GD [.v (.pointer p0)] K w:=zC Tryz.f44 rf _ h
def Jp(p0:Sl)(K:Value→PT):PT:=
  L.ite ((p0.a).isNone) (K (.slice none 0 0))<|L.new [] zc λb1=>L.sem Pr (.one (.one .slice)) (Builtin.append_ #[zj,zj] zj #[.slice (some ⟨b1,0,none⟩) 0 0,Sv6 p0]) λ(s2:Sl)=>K (.slice s2.a s2.len s2.cap)
def qt(p0:Sl)(h:Jp p0 K w):CV ZG [.v (.slice p0.a p0.len p0.cap)] K w:=zC Tryz.f45 .auto _ h
def PK:Ann:=(.q2 (.q2 (.seq (.q2 (.one [] (.q2 (.seq (.cond .auto .auto) .auto none) none)) none) .auto none) none) none)
def oC(p0:Option Addr)(K:Value→PT):PT:=
  L.sem Pr (.one (.one .map)) (Instr.makeMap Zm none) λ(m1:Option Nat)=>L.nonnil p0 λa2=>L.load (.one (.map)) (a2.add 1) λ(x3:Option Nat)=>L.sem Pr (.one (.one .ptr)) (Instr.range yn (.map x3)) λ(it4:Option Addr)=>L.loop (Y:=Unit) (()) λy5 again6=>L.next Pr [eI6,(.agg [.str,.int .i64])] (Instr.next (.pointer it4) false T_) (L.draw<|L.nonnil p0 λa8=>L.load (.one (.map)) (a8.add 1) λ(x9:Option Nat)=>L.semR Pr rI (Builtin.len_ #[yn] zx #[.map x9]) λ(x10:Int)=>L.semR Pr rI (Instr.lookup Zm (.map m1) (I 2) false) λ(x11:Int)=>L.semR Pr rI (Instr.lookup Zm (.map m1) (I 1) false) λ(x12:Int)=>L.semR Pr rI (Instr.lookup Zm (.map m1) (I 3) false) λ(x13:Int)=>L.semR Pr rI (Instr.lookup Zm (.map m1) (I 4) false) λ(x14:Int)=>L.chkSem Pr (Instr.lookup Zm (.map m1) (I 4) false) (I x14)<|L.chkSem Pr (Instr.lookup Zm (.map m1) (I 3) false) (I x13)<|L.chkSem Pr (Instr.lookup Zm (.map m1) (I 1) false) (I x12)<|L.chkSem Pr (Instr.lookup Zm (.map m1) (I 2) false) (I x11)<|L.chkSem Pr (Instr.lookup Zm (.map m1) (I 4) false) (I x14)<|L.chkSem Pr (Instr.lookup Zm (.map m1) (I 3) false) (I x13)<|L.chkSem Pr (Instr.lookup Zm (.map m1) (I 1) false) (I x12)<|L.chkSem Pr (Instr.lookup Zm (.map m1) (I 4) false) (I x14)<|L.chkSem Pr (Instr.lookup Zm (.map m1) (I 3) false) (I x13)<|K (.tuple #[I x10,I x11,I x12,I (Wi (x13+x14))])) λ(x7:pt7)=>L.sem Pr (.tup [eI6,(.agg [.str,.int .i64])]) (Instr.entry (.pointer it4)) λ(x15:pt7)=>L.new [.string s_,I 0] Zw λb16=>L.store (⟨b16,0,none⟩) [.string x15.2.1.1,I x15.2.1.2.1]<|L.load eI6 (Ad6 b16 1) λ(x17:Int)=>L.semR Pr rI (Instr.lookup Zm (.map m1) (I x17) false) λ(x18:Int)=>L.semU Pr (Instr.mapUpdate Zm (.map m1) (I x17) (I (Wi (x18+1))))<|again6 (())
def Px(p0:Option Addr)(h:oC p0 K w):CV uY [.v (.pointer p0)] K w:=zC Tryz.f46 PK _ h
def pp(p0:Sl)(K:Value→PT):PT:=
  L.call Pr FG [Sv6 p0] rL λ(x1:Sl)=>L.call Pr QW [Sv6 x1] (.one (.one (.func))) λ(x2:FV)=>K (.func x2.fn x2.fs x2.cs)
def wz(p0:Sl)(h:pp p0 K w):CV ON [.v (.slice p0.a p0.len p0.cap)] K w:=zC Tryz.f47 .auto _ h
def pb(p0:B0)(K:Value→PT):PT:=
  L.call Pr xX [.string p0] (.tup [eS6,eI6,eB6]) λ(x1:B0×Int×Bool×Unit)=>K (.bool x1.2.2.1)
def wi(p0:B0)(h:pb p0 K w):CV Vu [.v (.string p0)] K w:=zC Tryz.f51 .auto _ h
def dk(p0:B0)(K:Value→PT):PT:=
  L.call Pr Vw [.string p0,I 8] rB λ(x1:Bool)=>K (.bool x1)
def bV(p0:B0)(h:dk p0 K w):CV JK [.v (.string p0)] K w:=zC Tryz.f52 .auto _ h
def NO:Ann:=(.q2 (.q2 (.seq (.q2 (.q2 (.seq (.q2 (.cond .auto .auto) none) .auto (some [])) (some [(7,eS6)])) none) .auto none) none) none)
def FY(p0:FV)(K:Value→PT):PT:=
  L.new [.bool false] yP λb1=>L.new [.string s_] zc λb2=>L.new [.bool false] yP λb3=>L.store (⟨b2,0,none⟩) [.string s_]<|L.store (⟨b3,0,none⟩) [.bool true]<|L.range Pr none (.func p0.fn p0.fs p0.cs) [eS6] (λl4(y5:B0×Unit) R6=>L.begin Pr l4<|L.join (Y:=Unit) (λk9=>L.load eB6 (⟨b3,0,none⟩) λ(x11:Bool)=>L.ite (!x11) (L.load eS6 (⟨b2,0,none⟩) λ(x12:B0)=>L.ite ((Op.bytesLess y5.1.toList x12.toList)||(y5.1.toList == x12.toList)) (L.store (⟨b1,0,none⟩) [.bool false]<|L.endRound Pr l4 (some .ret) R6)<|k9 (()))<|k9 (())) λz10=>L.store (⟨b2,0,none⟩) [.string y5.1]<|L.store (⟨b3,0,none⟩) [.bool false]<|L.endRound Pr l4 none R6) λd7 j8=>L.jump j8 (L.store (⟨b1,0,none⟩) [.bool true]<|L.unmark Pr (d7++[])<|L.load eB6 (⟨b1,0,none⟩) λ(x13:Bool)=>K (.bool x13)) (L.unmark Pr (d7++[])<|L.load eB6 (⟨b1,0,none⟩) λ(x14:Bool)=>K (.bool x14)) []
def NA(p0:FV)(h:FY p0 K w):CV UQ [.v (.func p0.fn p0.fs p0.cs)] K w:=zC Tryz.f53 NO _ h
def Th(p0:HT [.slice,.slice])(K:Value→PT):PT:=
  L.new [Sv6 p0.1,Sv6 p0.2.1] zp λb1=>K (.func (.func Qd) #[] #[.pointer (some (⟨b1,0,none⟩))])
def LG(p0:HT [.slice,.slice])(h:Th p0 K w):CV tF [.ag [.slice p0.1.a p0.1.len p0.1.cap,.slice p0.2.1.a p0.2.1.len p0.2.1.cap]] K w:=zC Tryz.f54 .auto _ h
def Tg(p0:HT [.slice,.slice])(K:Value→PT):PT:=
  L.new [Sv6 p0.1,Sv6 p0.2.1] zp λb1=>K (.func (.func Qc) #[] #[.pointer (some (⟨b1,0,none⟩))])
def LF(p0:HT [.slice,.slice])(h:Tg p0 K w):CV tE [.ag [.slice p0.1.a p0.1.len p0.1.cap,.slice p0.2.1.a p0.2.1.len p0.2.1.cap]] K w:=zC Tryz.f55 .auto _ h
def Uz(p0:FV)(K:Value→PT):PT:=
  L.sem Pr (.one (.one .map)) (Instr.makeMap Zl none) λ(m1:Option Nat)=>L.new [.map m1,.func p0.fn p0.fs p0.cs] ZR λb2=>K (.pointer (some (⟨b2,0,none⟩)))
def Gf(p0:FV)(h:Uz p0 K w):CV Xt [.v (.func p0.fn p0.fs p0.cs)] K w:=zC Tryz.f56 .auto _ h
def pj(p0 p1:ht0)(K:Value→PT):PT:=
  L.new [.string p0.1,I p0.2.1,I p0.2.2.1,I p0.2.2.2.1,I p0.2.2.2.2.1,I p0.2.2.2.2.2.1] zA λb1=>L.new [.string p1.1,I p1.2.1,I p1.2.2.1,I p1.2.2.2.1,I p1.2.2.2.2.1,I p1.2.2.2.2.2.1] zA λb2=>L.load (.agg lf0) (⟨b1,0,none⟩) λ(x3:pt0)=>L.load (.agg lf0) (⟨b2,0,none⟩) λ(x4:pt0)=>L.chkSem Pr (do eqGuard .eql zA (.tmp 0) (.tmp 0) ((qa0 x3)) ((qa0 x4));binOp .eql zA ((qa0 x3)) ((qa0 x4))) (.bool ((x3.1 == x4.1)&&((x3.2.1 == x4.2.1)&&((x3.2.2.1 == x4.2.2.1)&&((x3.2.2.2.1 == x4.2.2.2.1)&&((x3.2.2.2.2.1 == x4.2.2.2.2.1)&&((x3.2.2.2.2.2.1 == x4.2.2.2.2.2.1)&&true)))))))<|K (.bool ((x3.1 == x4.1)&&((x3.2.1 == x4.2.1)&&((x3.2.2.1 == x4.2.2.1)&&((x3.2.2.2.1 == x4.2.2.2.1)&&((x3.2.2.2.2.1 == x4.2.2.2.2.1)&&((x3.2.2.2.2.2.1 == x4.2.2.2.2.2.1)&&true)))))))
def wq(p0 p1:ht0)(h:pj p0 p1 K w):CV yD [.ag (qc0 p0),.ag (qc0 p1)] K w:=zC Tryz.f57 .auto _ h
def we:ZN Pr yD:=zH (by kernel_rfl)
def vr(p0:FV)(K:Value→PT):PT:=
  L.sem Pr (.one (.one .map)) (Instr.makeMap Zr none) λ(m1:Option Nat)=>L.new [.map m1,.func p0.fn p0.fs p0.cs] Zn λb2=>K (.pointer (some (⟨b2,0,none⟩)))
def GX(p0:FV)(h:vr p0 K w):CV XP [.v (.func p0.fn p0.fs p0.cs)] K w:=zC Tryz.f58 .auto _ h
def Vl(p0 p1:ht2)(K:Value→PT):PT:=
  L.new [.string p0.1,.string p0.2.1,Sv6 p0.2.2.1,I p0.2.2.2.1] Zb λb1=>L.new [.string p1.1,.string p1.2.1,Sv6 p1.2.2.1,I p1.2.2.2.1] Zb λb2=>L.load eS6 (Ad6 b1 0) λ(x3:B0)=>L.load eS6 (Ad6 b2 0) λ(x4:B0)=>L.ite (x3.toList == x4.toList) (L.load eS6 (Ad6 b1 1) λ(x5:B0)=>L.load eS6 (Ad6 b2 1) λ(x6:B0)=>L.ite (x5.toList == x6.toList) (L.load eI6 (Ad6 b1 3) λ(x7:Int)=>L.load eI6 (Ad6 b2 3) λ(x8:Int)=>L.ite (x7 == x8) (L.load eL6 (Ad6 b1 2) λ(x9:Sl)=>L.load eL6 (Ad6 b2 2) λ(x10:Sl)=>L.call Pr ZD [Sv6 x9,Sv6 x10,.func (.func VI) #[] #[]] rB λ(x11:Bool)=>K (.bool x11))<|K (.bool false))<|K (.bool false))<|K (.bool false)
def Cc(p0 p1:ht2)(h:Vl p0 p1 K w):CV Zt [.ag (qc2 p0),.ag (qc2 p1)] K w:=zC Tryz.f59 .auto _ h
def cT:ZN Pr Zt:=zH (by kernel_rfl)
def Tu(c0:Addr)(K:Value→PT):PT:=
  L.load eI6 c0 λ(x1:Int)=>L.call Pr pL [I x1] rP λ(x2:Option Addr)=>K (.pointer x2)
def LR(c0:Addr)(h:Tu c0 K w):CV Ki [.v (.pointer (some c0))] K w:=zC Tryz.f60 .auto _ h
def LD:ZN Pr Ki:=zH (by kernel_rfl)
def Nk(p0:Int)(K:Value→PT):PT:=
  L.new [.slice none 0 0,I p0] Uw λb1=>K (.pointer (some (⟨b1,0,none⟩)))
def aU(p0:Int)(h:Nk p0 K w):CV pL [.v (.int .i64 p0)] K w:=zC Tryz.f61 .auto _ h
def wS:Ann:=(.q2 (.seq (.q2 (.q2 (.cond .auto (.q2 (.cond .auto (.q2 (.cond .auto (.q2 (.cond .auto (.q2 (.cond .auto (.q2 (.cond .auto (.q2 .auto (some [(26,eB6)]))) none)) (some [(17,eB6)]))) none)) none)) none)) none) none) .auto none) none)
def py(p0:Int)(K:Value→PT):PT:=
  L.new [.bool false,.bool false,.bool false,.bool false,.bool false,.bool false] JN λb1=>L.ite (p0 == 1) (L.store (⟨b1,0,none⟩) [.bool true,.bool false,.bool false,.bool false,.bool true,.bool false]<|L.load (.agg lf5) (⟨b1,0,none⟩) λ(x2:pt8)=>K (.tuple #[(qa2 x2),.bool true]))<|L.ite (p0 == 2) (L.store (⟨b1,0,none⟩) [.bool true,.bool false,.bool false,.bool false,.bool false,.bool true]<|L.load (.agg lf5) (⟨b1,0,none⟩) λ(x3:pt8)=>K (.tuple #[(qa2 x3),.bool true]))<|L.ite (p0 == 3) (L.store (⟨b1,0,none⟩) [.bool true,.bool true,.bool false,.bool true,.bool false,.bool false]<|L.load (.agg lf5) (⟨b1,0,none⟩) λ(x4:pt8)=>K (.tuple #[(qa2 x4),.bool true]))<|L.ite (p0 == 4) (L.store (⟨b1,0,none⟩) [.bool true,.bool true,.bool true,.bool true,.bool false,.bool false]<|L.load (.agg lf5) (⟨b1,0,none⟩) λ(x5:pt8)=>K (.tuple #[(qa2 x5),.bool true]))<|L.join (Y:=Bool×Unit) (λk6=>L.ite (p0 == 5) (k6 (p0 == 5,()))<|L.ite (p0 == 6) (k6 (p0 == 6,()))<|L.ite (p0 == 7) (k6 (p0 == 7,()))<|k6 (p0 == 8,())) λz7=>L.ite z7.1 (L.store (⟨b1,0,none⟩) [.bool true,.bool false,.bool false,.bool false,.bool false,.bool false]<|L.load (.agg lf5) (⟨b1,0,none⟩) λ(x8:pt8)=>K (.tuple #[(qa2 x8),.bool true]))<|L.ite (p0 == 9) (L.store (⟨b1,0,none⟩) [.bool false,.bool false,.bool false,.bool false,.bool false,.bool false]<|L.load (.agg lf5) (⟨b1,0,none⟩) λ(x9:pt8)=>K (.tuple #[(qa2 x9),.bool true]))<|L.join (Y:=Bool×Unit) (λk10=>L.ite (p0 == 10) (k10 (p0 == 10,()))<|L.ite (p0 == 11) (k10 (p0 == 11,()))<|L.ite (p0 == 12) (k10 (p0 == 12,()))<|k10 (p0 == 13,())) λz11=>L.ite z11.1 (L.store (⟨b1,0,none⟩) [.bool false,.bool true,.bool false,.bool false,.bool false,.bool false]<|L.load (.agg lf5) (⟨b1,0,none⟩) λ(x12:pt8)=>K (.tuple #[(qa2 x12),.bool true]))<|L.store (⟨b1,0,none⟩) [.bool false,.bool false,.bool false,.bool false,.bool false,.bool false]<|L.load (.agg lf5) (⟨b1,0,none⟩) λ(x13:pt8)=>K (.tuple #[(qa2 x13),.bool false])
def wE(p0:Int)(h:py p0 K w):CV Vx [.v (.int .i64 p0)] K w:=zC Tryz.f62 wS _ h
def Ga(p0:Bool)(p1:Int)(K:Value→PT):PT:=
  L.ite p0 (K (.bool true))<|K (.bool (p1 == 0))
def Cq(p0:Bool)(p1:Int)(h:Ga p0 p1 K w):CV QP [.v (.bool p0),.v (.int .i64 p1)] K w:=zC Tryz.f63 .auto _ h
def kU(p0:Bool)(p1:B0)(K:Value→PT):PT:=
  L.ite p0 (K (.bool true))<|K (.bool (p1.toList == s_.toList))
def MD(p0:Bool)(p1:B0)(h:kU p0 p1 K w):CV Xm [.v (.bool p0),.v (.string p1)] K w:=zC Tryz.f64 .auto _ h
def UC(p0:Bool)(p1:ht0)(K:Value→PT):PT:=
  L.new [.string p1.1,I p1.2.1,I p1.2.2.1,I p1.2.2.2.1,I p1.2.2.2.2.1,I p1.2.2.2.2.2.1] zA λb1=>L.new [.string s_,I 0,I 0,I 0,I 0,I 0] zA λb2=>L.ite p0 (K (.bool true))<|L.load (.agg lf0) (⟨b1,0,none⟩) λ(x3:pt0)=>L.load (.agg lf0) (⟨b2,0,none⟩) λ(x4:pt0)=>L.chkSem Pr (do eqGuard .eql zA (.tmp 0) (.tmp 0) ((qa0 x3)) ((qa0 x4));binOp .eql zA ((qa0 x3)) ((qa0 x4))) (.bool ((x3.1 == x4.1)&&((x3.2.1 == x4.2.1)&&((x3.2.2.1 == x4.2.2.1)&&((x3.2.2.2.1 == x4.2.2.2.1)&&((x3.2.2.2.2.1 == x4.2.2.2.2.1)&&((x3.2.2.2.2.2.1 == x4.2.2.2.2.2.1)&&true)))))))<|K (.bool ((x3.1 == x4.1)&&((x3.2.1 == x4.2.1)&&((x3.2.2.1 == x4.2.2.1)&&((x3.2.2.2.1 == x4.2.2.2.1)&&((x3.2.2.2.2.1 == x4.2.2.2.2.1)&&((x3.2.2.2.2.2.1 == x4.2.2.2.2.2.1)&&true)))))))
def Gi(p0:Bool)(p1:ht0)(h:UC p0 p1 K w):CV Xx [.v (.bool p0),.ag (qc0 p1)] K w:=zC Tryz.f65 .auto _ h
def Ty(p0:ht2)(K:Value→PT):PT:=
  L.new [.string p0.1,.string p0.2.1,Sv6 p0.2.2.1,I p0.2.2.2.1] Zb λb1=>L.load eS6 (Ad6 b1 0) λ(x2:B0)=>L.ite (x2.toList == s_.toList) (L.load eS6 (Ad6 b1 1) λ(x3:B0)=>L.ite (x3.toList == s_.toList) (L.load eI6 (Ad6 b1 3) λ(x4:Int)=>L.ite (x4 == 0) (L.load eL6 (Ad6 b1 2) λ(x5:Sl)=>K (.bool (((x5.len:Nat):Int) == 0)))<|K (.bool false))<|K (.bool false))<|K (.bool false)
def LV(p0:ht2)(h:Ty p0 K w):CV GF [.ag (qc2 p0)] K w:=zC Tryz.f66 .auto _ h
def NT:Ann:=(.q2 (.seq (.q2 (.q2 .auto (some [(5,eB6)])) none) .auto none) none)
def mo(p0:ht1)(K:Value→PT):PT:=
  L.new [I p0.1,.string p0.2.1,.string p0.2.2.1,I p0.2.2.2.1,I p0.2.2.2.2.1,.string p0.2.2.2.2.2.1,I p0.2.2.2.2.2.2.1,I p0.2.2.2.2.2.2.2.1,I p0.2.2.2.2.2.2.2.2.1,I p0.2.2.2.2.2.2.2.2.2.1,I p0.2.2.2.2.2.2.2.2.2.2.1,.string p0.2.2.2.2.2.2.2.2.2.2.2.1,.string p0.2.2.2.2.2.2.2.2.2.2.2.2.1,Sv6 p0.2.2.2.2.2.2.2.2.2.2.2.2.2.1,I p0.2.2.2.2.2.2.2.2.2.2.2.2.2.2.1] zq λb1=>L.load eI6 (Ad6 b1 0) λ(x2:Int)=>L.join (Y:=Bool×Unit) (λk3=>L.ite (x2 == 1) (k3 (x2 == 1,()))<|k3 (x2 == 2,())) λz4=>L.ite z4.1 (L.load eI6 (Ad6 b1 3) λ(x5:Int)=>L.call Pr ZQ [I x5,I 0,I 2147483647] rB λ(x6:Bool)=>K (.bool x6))<|L.ite (x2 == 3) (L.load eI6 (Ad6 b1 3) λ(x7:Int)=>L.call Pr ZQ [I x7,I 1,I 2] rB λ(x8:Bool)=>K (.bool x8))<|L.load eI6 (Ad6 b1 3) λ(x9:Int)=>L.call Pr ZQ [I x9,I 1,I 2147483647] rB λ(x10:Bool)=>K (.bool x10)
def NM(p0:ht1)(h:mo p0 K w):CV KT [.ag (qc1 p0)] K w:=zC Tryz.f67 NT _ h
def pz(p0:ht1)(K:Value→PT):PT:=
  L.new [I p0.1,.string p0.2.1,.string p0.2.2.1,I p0.2.2.2.1,I p0.2.2.2.2.1,.string p0.2.2.2.2.2.1,I p0.2.2.2.2.2.2.1,I p0.2.2.2.2.2.2.2.1,I p0.2.2.2.2.2.2.2.2.1,I p0.2.2.2.2.2.2.2.2.2.1,I p0.2.2.2.2.2.2.2.2.2.2.1,.string p0.2.2.2.2.2.2.2.2.2.2.2.1,.string p0.2.2.2.2.2.2.2.2.2.2.2.2.1,Sv6 p0.2.2.2.2.2.2.2.2.2.2.2.2.2.1,I p0.2.2.2.2.2.2.2.2.2.2.2.2.2.2.1] zq λb1=>L.load eI6 (Ad6 b1 0) λ(x2:Int)=>L.ite (x2 == 12) (L.load eS6 (Ad6 b1 1) λ(x3:B0)=>L.call Pr xX [.string x3] (.tup [eS6,eI6,eB6]) λ(x4:B0×Int×Bool×Unit)=>K (.bool x4.2.2.1))<|L.load eI6 (Ad6 b1 0) λ(x5:Int)=>L.ite (x5 == 13) (L.load eS6 (Ad6 b1 1) λ(x6:B0)=>L.call Pr xX [.string x6] (.tup [eS6,eI6,eB6]) λ(x7:B0×Int×Bool×Unit)=>K (.bool x7.2.2.1))<|L.load eS6 (Ad6 b1 1) λ(x8:B0)=>L.call Pr XT [.string x8] rB λ(x9:Bool)=>K (.bool x9)
def wF(p0:ht1)(h:pz p0 K w):CV Vy [.ag (qc1 p0)] K w:=zC Tryz.f68 .auto _ h
def ml(p0 p1 p2:Int)(K:Value→PT):PT:=
  L.ite (decide (p0≥p1)) (K (.bool (decide (p0≤p2))))<|K (.bool false)
def NK(p0 p1 p2:Int)(h:ml p0 p1 p2 K w):CV ZQ [.v (.int .i64 p0),.v (.int .i64 p1),.v (.int .i64 p2)] K w:=zC Tryz.f69 .auto _ h
def wO:Ann:=(.q2 (.seq (.q2 (.cond .auto (.q2 .auto (some [(8,eB6)]))) none) .auto none) none)
def pi(p0:ht0)(K:Value→PT):PT:=
  L.new [.string p0.1,I p0.2.1,I p0.2.2.1,I p0.2.2.2.1,I p0.2.2.2.2.1,I p0.2.2.2.2.2.1] zA λb1=>L.load eS6 (Ad6 b1 0) λ(x2:B0)=>L.call Pr XT [.string x2] rB λ(x3:Bool)=>L.ite (!x3) (K (I 1))<|L.join (Y:=Bool×Unit) (λk4=>L.load eI6 (Ad6 b1 1) λ(x6:Int)=>L.call Pr yu [.agg #[I 0,I 255],I x6] rB λ(x7:Bool)=>L.ite (!x7) (k4 (!x7,()))<|L.load eI6 (Ad6 b1 2) λ(x8:Int)=>L.call Pr yu [.agg #[I 1,I 8],I x8] rB λ(x9:Bool)=>L.ite (!x9) (k4 (!x9,()))<|L.load eI6 (Ad6 b1 4) λ(x10:Int)=>L.call Pr yu [.agg #[I 1,I 10],I x10] rB λ(x11:Bool)=>L.ite (!x11) (k4 (!x11,()))<|L.load eI6 (Ad6 b1 4) λ(x12:Int)=>L.load eI6 (Ad6 b1 3) λ(x13:Int)=>L.call Pr yu [.agg #[I 0,I x12],I x13] rB λ(x14:Bool)=>L.ite (!x14) (k4 (!x14,()))<|L.load eI6 (Ad6 b1 5) λ(x15:Int)=>L.call Pr yu [.agg #[I 0,I 30],I x15] rB λ(x16:Bool)=>k4 (!x16,())) λz5=>L.ite z5.1 (K (I 2))<|K (I 0)
def wp(p0:ht0)(h:pi p0 K w):CV Za [.ag (qc0 p0)] K w:=zC Tryz.f70 wO _ h
def LY:Ann:=(.q2 (.seq (.q2 .auto (some [(6,eB6)])) (.seq (.q2 (.one [(31,eI6)] .auto) none) .auto none) none) none)
def To(p0:ht2)(K:Value→PT):PT:=
  L.new [.string p0.1,.string p0.2.1,Sv6 p0.2.2.1,I p0.2.2.2.1] Zb λb1=>L.join (Y:=Bool×Unit) (λk2=>L.load eS6 (Ad6 b1 0) λ(x4:B0)=>L.call Pr XT [.string x4] rB λ(x5:Bool)=>L.ite (!x5) (k2 (!x5,()))<|L.load eS6 (Ad6 b1 1) λ(x6:B0)=>L.call Pr XT [.string x6] rB λ(x7:Bool)=>k2 (!x7,())) λz3=>L.ite z3.1 (K (I 1))<|L.load eI6 (Ad6 b1 3) λ(x8:Int)=>L.call Pr yu [.agg #[I 0,I 60],I x8] rB λ(x9:Bool)=>L.ite (!x9) (K (I 2))<|L.load eL6 (Ad6 b1 2) λ(x10:Sl)=>L.call Pr yu [.agg #[I 1,I 6],I ((x10.len:Nat):Int)] rB λ(x11:Bool)=>L.ite (!x11) (K (I 3))<|L.load eL6 (Ad6 b1 2) λ(x12:Sl)=>L.loop (Y:=Int×Unit) (0,()) λy13 again14=>L.ite (decide (y13.1<((x12.len:Nat):Int))) (L.idx x12.a y13.1 x12.len 3 λa15=>L.load (.agg [.str,.str,.int .i64]) a15 λ(x16:pt9)=>L.new [.string s_,.string s_,I 0] zG λb17=>L.store (⟨b17,0,none⟩) [.string x16.1,.string x16.2.1,I x16.2.2.1]<|L.load (.agg [.str,.str,.int .i64]) (⟨b17,0,none⟩) λ(x18:pt9)=>L.call Pr OL [.agg #[.string x18.1,.string x18.2.1,I x18.2.2.1]] rI λ(x19:Int)=>L.ite (x19 != 0) (K (I x19))<|again14 (Wi (y13.1+1),()))<|L.load eL6 (Ad6 b1 2) λ(x20:Sl)=>L.call Pr pM [Sv6 x20] rI λ(x21:Int)=>K (I x21)
def LM(p0:ht2)(h:To p0 K w):CV Zh [.ag (qc2 p0)] K w:=zC Tryz.f71 LY _ h
def du(p0:Int)(K:Value→PT):PT:=
  L.ite (p0 == 0) (K (.string z4Y))<|L.ite (p0 == 1) (K (.string EZ))<|L.ite (p0 == 2) (K (.string z1T))<|L.ite (p0 == 3) (K (.string hO))<|L.ite (p0 == 4) (K (.string z1R))<|L.ite (p0 == 5) (K (.string th))<|L.ite (p0 == 6) (K (.string EY))<|K (.string Di)
def Ba(p0:Int)(h:du p0 K w):CV CL [.v (.int .i64 p0)] K w:=zC Tryz.f74 .auto _ h
def Nu(p0:Int)(K:Value→PT):PT:=
  L.ite (p0 == 7) (K (.string Au))<|L.ite (p0 == 8) (K (.string Ha))<|L.ite (p0 == 9) (K (.string At))<|L.ite (p0 == 10) (K (.string z1S))<|L.ite (p0 == 11) (K (.string hI))<|L.ite (p0 == 12) (K (.string hU))<|K (.string Di)
def Ad(p0:Int)(h:Nu p0 K w):CV ni [.v (.int .i64 p0)] K w:=zC Tryz.f75 .auto _ h
def Gj:Ann:=(.q2 (.q2 (.q2 .auto (some [(8,eI6)])) none) none)
def UA(p0:Option Addr)(p1:ht0)(p2:Int)(K:Value→PT):PT:=
  L.new [.string p1.1,I p1.2.1,I p1.2.2.1,I p1.2.2.2.1,I p1.2.2.2.2.1,I p1.2.2.2.2.2.1] zA λb1=>L.load (.agg lf0) (⟨b1,0,none⟩) λ(x2:pt0)=>L.call Pr Za [(qa0 x2)] rI λ(x3:Int)=>L.join (Y:=Int×Unit) (λk4=>L.ite (x3 == 0) (L.draw<|L.nonnil p0 λa6=>L.load eP6 (a6.add 0) λ(x7:Option Addr)=>L.load eS6 (Ad6 b1 0) λ(x8:B0)=>L.call Pr JD [.pointer x7,.string x8,I p2,.bool true] rI λ(x9:Int)=>k4 (x9,()))<|k4 (x3,())) λz5=>L.ite (z5.1 != 0) (K (.tuple #[I 0,I z5.1]))<|L.nonnil p0 λa10=>L.load eI6 (a10.add 2) λ(x11:Int)=>L.nonnil p0 λa12=>L.store (a12.add 2) [I (Wi (x11+1))]<|L.draw<|L.nonnil p0 λa13=>L.load eP6 (a13.add 0) λ(x14:Option Addr)=>L.load eS6 (Ad6 b1 0) λ(x15:B0)=>L.load (.agg lf0) (⟨b1,0,none⟩) λ(x16:pt0)=>L.nonnil p0 λa17=>L.load eI6 (a17.add 2) λ(x18:Int)=>L.call Pr JC [.pointer x14,.string x15,(qa0 x16),I x18] (.tup []) λ(x19:Unit)=>L.nonnil p0 λa20=>L.load eI6 (a20.add 2) λ(x21:Int)=>K (.tuple #[I x21,I 0])
def Gg(p0:Option Addr)(p1:ht0)(p2:Int)(h:UA p0 p1 p2 K w):CV Xu [.v (.pointer p0),.ag (qc0 p1),.v (.int .i64 p2)] K w:=zC Tryz.f76 Gj _ h
def Tl(p0 p1:B0)(p2 p3:Int)(K:Value→PT):PT:=
  L.ite (p3 != 0) (L.call Pr ZZ [I p3] rL λ(x1:Sl)=>K (.slice x1.a x1.len x1.cap))<|L.new [.string p1] zc λb2=>L.call Pr zQ [.string p0,.slice (some ⟨b2,0,none⟩) 1 1] rS λ(x3:B0)=>L.new [I p2] zx λb4=>L.call Pr zR [.string x3,.slice (some ⟨b4,0,none⟩) 1 1] rS λ(x5:B0)=>L.new [.string x5] zc λb6=>K (.slice (some ⟨b6,0,none⟩) 1 1)
def LJ(p0 p1:B0)(p2 p3:Int)(h:Tl p0 p1 p2 p3 K w):CV Kh [.v (.string p0),.v (.string p1),.v (.int .i64 p2),.v (.int .i64 p3)] K w:=zC Tryz.f77 .auto _ h
def fb:Ann:=(.q2 (.q2 (.q2 .auto (some [(8,eI6)])) none) none)
def vu(p0:Option Addr)(p1:ht2)(p2:Int)(K:Value→PT):PT:=
  L.new [.string p1.1,.string p1.2.1,Sv6 p1.2.2.1,I p1.2.2.2.1] Zb λb1=>L.load (.agg [.str,.str,.slice,.int .i64]) (⟨b1,0,none⟩) λ(x2:pt3)=>L.call Pr Zh [.agg #[.string x2.1,.string x2.2.1,Sv6 x2.2.2.1,I x2.2.2.2.1]] rI λ(x3:Int)=>L.join (Y:=Int×Unit) (λk4=>L.ite (x3 == 0) (L.draw<|L.nonnil p0 λa6=>L.load eP6 (a6.add 1) λ(x7:Option Addr)=>L.load eS6 (Ad6 b1 0) λ(x8:B0)=>L.call Pr xd [.pointer x7,.string x8,I p2,.bool true] rI λ(x9:Int)=>k4 (x9,()))<|k4 (x3,())) λz5=>L.ite (z5.1 != 0) (K (.tuple #[I 0,I z5.1]))<|L.nonnil p0 λa10=>L.load eI6 (a10.add 2) λ(x11:Int)=>L.nonnil p0 λa12=>L.store (a12.add 2) [I (Wi (x11+1))]<|L.draw<|L.nonnil p0 λa13=>L.load eP6 (a13.add 1) λ(x14:Option Addr)=>L.load eS6 (Ad6 b1 0) λ(x15:B0)=>L.load (.agg [.str,.str,.slice,.int .i64]) (⟨b1,0,none⟩) λ(x16:pt3)=>L.nonnil p0 λa17=>L.load eI6 (a17.add 2) λ(x18:Int)=>L.call Pr Oe [.agg #[.string x16.1,.string x16.2.1,Sv6 x16.2.2.1,I x16.2.2.2.1]] (.one (.agg [.str,.str,.slice,.int .i64])) λ(x19:pt3)=>L.chk (a17.add 2) [I x18]<|L.chk (Ad6 b1 0) [.string x15]<|L.chk (a13.add 1) [.pointer x14]<|L.call Pr xc [.pointer x14,.string x15,.agg #[.string x19.1,.string x19.2.1,Sv6 x19.2.2.1,I x19.2.2.2.1],I x18] (.tup []) λ(x20:Unit)=>L.nonnil p0 λa21=>L.load eI6 (a21.add 2) λ(x22:Int)=>K (.tuple #[I x22,I 0])
def GY(p0:Option Addr)(p1:ht2)(p2:Int)(h:vu p0 p1 p2 K w):CV XQ [.v (.pointer p0),.ag (qc2 p1),.v (.int .i64 p2)] K w:=zC Tryz.f78 fb _ h
def gJ(p0:Int)(K:Value→PT):PT:=
  L.call Pr xL [I p0] rS λ(x1:B0)=>L.new [.string x1] zc λb2=>L.call Pr zQ [.string Uo,.slice (some ⟨b2,0,none⟩) 1 1] rS λ(x3:B0)=>L.new [.string x3] zc λb4=>K (.slice (some ⟨b4,0,none⟩) 1 1)
def cY(p0:Int)(h:gJ p0 K w):CV ZZ [.v (.int .i64 p0)] K w:=zC Tryz.f80 .auto _ h
def vF(p0:Option Addr)(p1:ht1)(K:Value→PT):PT:=
  L.new [I p1.1,.string p1.2.1,.string p1.2.2.1,I p1.2.2.2.1,I p1.2.2.2.2.1,.string p1.2.2.2.2.2.1,I p1.2.2.2.2.2.2.1,I p1.2.2.2.2.2.2.2.1,I p1.2.2.2.2.2.2.2.2.1,I p1.2.2.2.2.2.2.2.2.2.1,I p1.2.2.2.2.2.2.2.2.2.2.1,.string p1.2.2.2.2.2.2.2.2.2.2.2.1,.string p1.2.2.2.2.2.2.2.2.2.2.2.2.1,Sv6 p1.2.2.2.2.2.2.2.2.2.2.2.2.2.1,I p1.2.2.2.2.2.2.2.2.2.2.2.2.2.2.1] zq λb1=>L.load eS6 (Ad6 b1 1) λ(x2:B0)=>L.call Pr vA [.pointer p0,.string x2] (.tup [(.agg [.slice,.slice]),eB6]) λ(x3:(Sl×Sl×Unit)×Bool×Unit)=>L.new [.slice none 0 0,.slice none 0 0] zp λb4=>L.store (⟨b4,0,none⟩) [Sv6 x3.1.1,Sv6 x3.1.2.1]<|L.ite (!x3.2.1) (K (.string s_))<|L.load eS6 (Ad6 b1 2) λ(x5:B0)=>L.ite (x5.toList == s_.toList) (L.load (.agg [.slice,.slice]) (⟨b4,0,none⟩) λ(x6:Sl×Sl×Unit)=>L.load eI6 (Ad6 b1 4) λ(x7:Int)=>L.call Pr Gy [.agg #[Sv6 x6.1,Sv6 x6.2.1],I x7] rS λ(x8:B0)=>K (.string x8))<|L.load (.agg [.slice,.slice]) (⟨b4,0,none⟩) λ(x9:Sl×Sl×Unit)=>L.load eS6 (Ad6 b1 2) λ(x10:B0)=>L.call Pr OJ [.agg #[Sv6 x9.1,Sv6 x9.2.1],.string x10] (.tup [eS6,eB6]) λ(x11:B0×Bool×Unit)=>K (.string x11.1)
def Fa(p0:Option Addr)(p1:ht1)(h:vF p0 p1 K w):CV qA [.v (.pointer p0),.ag (qc1 p1)] K w:=zC Tryz.f82 .auto _ h
def PL:Ann:=(.q2 (.q2 (.q2 (.q2 (.q2 .auto (some [])) none) none) none) none)
def oD(p0:Option Addr)(p1:Int)(p2:B0)(p3:Int)(K:Value→PT):PT:=
  L.call Pr vY [.pointer p0,I p1] rB λ(x1:Bool)=>L.ite x1 (L.call Pr Qh [.string th] (.one (.agg [.int .i64,.int .i64,.int .i64,.str])) λ(x2:KO)=>L.new [I 0,I 0,I 0,.string s_] zD λb3=>L.store (⟨b3,0,none⟩) [I x2.1,I x2.2.1,I x2.2.2.1,.string x2.2.2.2.1]<|L.store (Ad6 b3 0) [I p1]<|L.load (.agg [.int .i64,.int .i64,.int .i64,.str]) (⟨b3,0,none⟩) λ(x4:KO)=>L.new [I x4.1,I x4.2.1,I x4.2.2.1,.string x4.2.2.2.1] zD λb5=>K (.slice (some ⟨b5,0,none⟩) 1 1))<|L.ite (p2.toList == s_.toList) (L.call Pr Qh [.string Gu] (.one (.agg [.int .i64,.int .i64,.int .i64,.str])) λ(x6:KO)=>L.call Pr yw [.pointer p0,I p1,.string s_,.agg #[I x6.1,I x6.2.1,I x6.2.2.1,.string x6.2.2.2.1]] (.one (.agg [.int .i64,.int .i64,.int .i64,.str])) λ(x7:KO)=>L.new [I x7.1,I x7.2.1,I x7.2.2.1,.string x7.2.2.2.1] zD λb8=>K (.slice (some ⟨b8,0,none⟩) 1 1))<|L.nonnil p0 λa9=>L.call Pr jY [.pointer (some (a9.add 2)),.string p2] rP λ(x10:Option Addr)=>L.join (Y:=Unit) (λk11=>L.call Pr qi [.pointer x10] rI λ(x13:Int)=>L.ite (x13 == 0) (L.call Pr QL [.pointer p0,I p1,.string p2] (.tup [(.agg [.int .i64,.int .i64,.int .i64,.str]),eB6]) λ(x14:z59)=>L.new [I 0,I 0,I 0,.string s_] zD λb15=>L.store (⟨b15,0,none⟩) [I x14.1.1,I x14.1.2.1,I x14.1.2.2.1,.string x14.1.2.2.2.1]<|L.ite x14.2.1 (L.load (.agg [.int .i64,.int .i64,.int .i64,.str]) (⟨b15,0,none⟩) λ(x16:KO)=>L.new [I x16.1,I x16.2.1,I x16.2.2.1,.string x16.2.2.2.1] zD λb17=>K (.slice (some ⟨b17,0,none⟩) 1 1))<|k11 (()))<|k11 (())) λz12=>L.nonnil p0 λa18=>L.load eI6 (a18.add 5) λ(x19:Int)=>L.call Pr QJ [.pointer x10,I p1,I (Wi (p3+x19))] rI λ(x20:Int)=>L.ite (x20 != 0) (L.call Pr Qh [.string KM] (.one (.agg [.int .i64,.int .i64,.int .i64,.str])) λ(x21:KO)=>L.call Pr yw [.pointer p0,I p1,.string p2,.agg #[I x21.1,I x21.2.1,I x21.2.2.1,.string x21.2.2.2.1]] (.one (.agg [.int .i64,.int .i64,.int .i64,.str])) λ(x22:KO)=>L.new [I x22.1,I x22.2.1,I x22.2.2.1,.string x22.2.2.2.1] zD λb23=>K (.slice (some ⟨b23,0,none⟩) 1 1))<|L.call Pr yw [.pointer p0,I p1,.string p2,.agg #[I 0,I 2,I 0,.string s_]] (.one (.agg [.int .i64,.int .i64,.int .i64,.str])) λ(x24:KO)=>L.new [I x24.1,I x24.2.1,I x24.2.2.1,.string x24.2.2.2.1] zD λb25=>K (.slice (some ⟨b25,0,none⟩) 1 1)
def Py(p0:Option Addr)(p1:Int)(p2:B0)(p3:Int)(h:oD p0 p1 p2 p3 K w):CV uZ [.v (.pointer p0),.v (.int .i64 p1),.v (.string p2),.v (.int .i64 p3)] K w:=zC Tryz.f83 PL _ h
def wL:Ann:=(.q2 (.seq (.q2 (.q2 .auto (some [(8,eS6)])) none) .auto none) none)
def pf(p0 p1:Sl)(K:Value→PT):PT:=
  L.new [Sv6 p1] zj λb1=>L.call Pr Fz [Sv6 p0] (.one (.one (.func))) λ(x2:FV)=>L.range Pr none (.func x2.fn x2.fs x2.cs) [eS6] (λl3(y4:B0×Unit) R5=>L.begin Pr l3<|L.load eL6 (⟨b1,0,none⟩) λ(x8:Sl)=>L.new [.string y4.1] zc λb9=>L.sem Pr (.one (.one .slice)) (Builtin.append_ #[zj,zj] zj #[Sv6 x8,.slice (some ⟨b9,0,none⟩) 1 1]) λ(s10:Sl)=>L.store (⟨b1,0,none⟩) [Sv6 s10]<|L.endRound Pr l3 none R5) λd6 j7=>L.jump j7 (L.load eL6 (⟨b1,0,none⟩) λ(x11:Sl)=>L.call Pr ZG [Sv6 x11] rL λ(x12:Sl)=>L.unmark Pr (d6++[])<|K (.slice x12.a x12.len x12.cap)) (L.unmark Pr (d6++[])<|K (.slice none 0 0)) []
def wm(p0 p1:Sl)(h:pf p0 p1 K w):CV JI [.v (.slice p0.a p0.len p0.cap),.v (.slice p1.a p1.len p1.cap)] K w:=zC Tryz.f84 wL _ h
def jl(p0:Option Nat)(p1:B0)(K:Value→PT):PT:=
  L.semR Pr (.tup [eP6,.one .bool]) (Instr.lookup ZJ (.map p0) (.string p1) true) λ(x1:Option Addr×Bool×Unit)=>K (.tuple #[.pointer x1.1,.bool x1.2.1])
def xT(p0:Option Nat)(p1:B0)(h:jl p0 p1 K w):CV ji [.v (.map p0),.v (.string p1)] K w:=zC Tryz.f85 .auto _ h
def TK:Ann:=(.q2 (.q2 (.seq (.q2 (.one [(5,eL6),(14,eI6)] (.q2 (.q2 (.q2 .auto (some [(5,eL6)])) none) none)) none) .auto none) none) none)
def Om(p0:B0)(p1:Sl)(K:Value→PT):PT:=
  L.new [.string p0] zc λb1=>L.loop (Y:=Sl×Int×Unit) (⟨some ⟨b1,0,none⟩,1,1⟩,0,()) λy2 again3=>L.ite (decide (y2.2.1<((p1.len:Nat):Int))) (L.join (Y:=Sl×Unit) (λk4=>L.idx p1.a y2.2.1 p1.len 1 λa6=>L.load eI6 a6 λ(x7:Int)=>L.semR Pr (.tup [eS6,.one .bool]) (Instr.typeAssert (.iface zx (I x7)) FS zc true) λ(x8:B0×Bool×Unit)=>L.ite x8.2.1 (L.new [.string x8.1] zc λb9=>L.sem Pr (.one (.one .slice)) (Builtin.append_ #[zj,zj] zj #[Sv6 y2.1,.slice (some ⟨b9,0,none⟩) 1 1]) λ(s10:Sl)=>k4 (⟨s10.a,s10.len,s10.cap⟩,()))<|L.ite true (L.call Pr Xr [I x7] rS λ(x11:B0)=>L.new [.string x11] zc λb12=>L.sem Pr (.one (.one .slice)) (Builtin.append_ #[zj,zj] zj #[Sv6 y2.1,.slice (some ⟨b12,0,none⟩) 1 1]) λ(s13:Sl)=>k4 (⟨s13.a,s13.len,s13.cap⟩,()))<|k4 (⟨y2.1.a,y2.1.len,y2.1.cap⟩,())) λz5=>again3 (⟨z5.1.a,z5.1.len,z5.1.cap⟩,Wi (y2.2.1+1),()))<|L.call Pr US [Sv6 y2.1,.string gm] rS λ(x14:B0)=>K (.string x14)
def Tz(p0:B0)(p1:Sl)(h:Om p0 p1 K w):CV zR [.v (.string p0),.v (.slice p1.a p1.len p1.cap)] K w:=zC Tryz.f86 TK _ h
def Cv:Ann:=(.q2 (.q2 (.q2 (.q2 (.seq (.one [(4,eL6),(5,eI6)] .auto) .auto none) none) none) none) none)
def gT(p0:Option Addr)(p1:Int)(K:Value→PT):PT:=
  L.nonnil p0 λa1=>L.load eP6 (a1.add 0) λ(x2:Option Addr)=>L.call Pr Ud [.pointer x2,I p1] (.tup [eS6,eI6]) λ(x3:B0×Int×Unit)=>L.ite (x3.2.1 != 0) (K (.tuple #[.slice none 0 0,I x3.2.1]))<|L.call Pr yw [.pointer p0,I p1,.string x3.1,.agg #[I 0,I 3,I 0,.string s_]] (.one (.agg [.int .i64,.int .i64,.int .i64,.str])) λ(x4:KO)=>L.new [I 0,I 0,I 0,.string s_] zD λb5=>L.store (⟨b5,0,none⟩) [I x4.1,I x4.2.1,I x4.2.2.1,.string x4.2.2.2.1]<|L.join (Y:=Sl×Int×Unit) (λk6=>L.draw<|L.load (.agg [.int .i64,.int .i64,.int .i64,.str]) (⟨b5,0,none⟩) λ(x8:KO)=>L.alts [(L.new [I x8.1,I x8.2.1,I x8.2.2.1,.string x8.2.2.2.1] zD λb9=>L.call Pr Xv [.pointer p0,.string x3.1] rL λ(x10:Sl)=>L.chk (⟨b5,0,none⟩) [I x8.1,I x8.2.1,I x8.2.2.1,.string x8.2.2.2.1]<|L.sem Pr (.one (.one .slice)) (Builtin.append_ #[zI,zI] zI #[.slice (some ⟨b9,0,none⟩) 1 1,Sv6 x10]) λ(s11:Sl)=>k6 (⟨s11.a,s11.len,s11.cap⟩,0,())),(L.call Pr Xv [.pointer p0,.string x3.1] rL λ(x12:Sl)=>L.chk (⟨b5,0,none⟩) [I x8.1,I x8.2.1,I x8.2.2.1,.string x8.2.2.2.1]<|L.new [I x8.1,I x8.2.1,I x8.2.2.1,.string x8.2.2.2.1] zD λb13=>L.sem Pr (.one (.one .slice)) (Builtin.append_ #[zI,zI] zI #[.slice (some ⟨b13,0,none⟩) 1 1,Sv6 x12]) λ(s14:Sl)=>k6 (⟨s14.a,s14.len,s14.cap⟩,0,()))]) λz7=>K (.tuple #[Sv6 z7.1,I z7.2.1])
def Ci(p0:Option Addr)(p1:Int)(h:gT p0 p1 K w):CV vZ [.v (.pointer p0),.v (.int .i64 p1)] K w:=zC Tryz.f87 Cv _ h
def gX(p0:Option Addr)(p1:Int)(K:Value→PT):PT:=
  L.nonnil p0 λa1=>L.load (.one (.map)) (a1.add 0) λ(x2:Option Nat)=>L.semR Pr (.tup [(.agg [.str,.ptr]),.one .bool]) (Instr.lookup Zf (.map x2) (I p1) true) λ(x3:z58)=>L.new [.string s_,.pointer none] XM λb4=>L.store (⟨b4,0,none⟩) [.string x3.1.1,.pointer x3.1.2.1]<|L.ite (!x3.2.1) (K (I 6))<|L.load eP6 (Ad6 b4 1) λ(x5:Option Addr)=>L.call Pr GA [.pointer x5] rI λ(x6:Int)=>K (I x6)
def Cn(p0:Option Addr)(p1:Int)(h:gX p0 p1 K w):CV QO [.v (.pointer p0),.v (.int .i64 p1)] K w:=zC Tryz.f88 .auto _ h
def gY(p0:Option Addr)(p1:Int)(K:Value→PT):PT:=
  L.nonnil p0 λa1=>L.load (.one (.map)) (a1.add 0) λ(x2:Option Nat)=>L.semR Pr (.one (.agg [.str,.ptr])) (Instr.lookup Zf (.map x2) (I p1) false) λ(x3:B0×Option Addr×Unit)=>K (.string x3.1)
def Co(p0:Option Addr)(p1:Int)(h:gY p0 p1 K w):CV Vb [.v (.pointer p0),.v (.int .i64 p1)] K w:=zC Tryz.f89 .auto _ h
def ul(p0:Option Addr)(p1:B0)(K:Value→PT):PT:=
  L.nonnil p0 λa1=>L.load (.one (.map)) (a1.add 1) λ(x2:Option Nat)=>L.semR Pr rB (Instr.lookup qa (.map x2) (.string p1) false) λ(x3:Bool)=>K (.bool x3)
def kX(p0:Option Addr)(p1:B0)(h:ul p0 p1 K w):CV Yv [.v (.pointer p0),.v (.string p1)] K w:=zC Tryz.f90 .auto _ h
def Mq:ZN Pr Yv:=zH (by kernel_rfl)
def oq(p0:Option Addr)(p1:B0)(K:Value→PT):PT:=
  L.nonnil p0 λa1=>L.load (.one (.map)) (a1.add 0) λ(x2:Option Nat)=>L.semR Pr (.tup [(.agg lf6),.one .bool]) (Instr.lookup zZ (.map x2) (.string p1) true) λ(x3:pt6)=>L.new [.string s_,I 0,.string s_,I 0,I 0,I 0,I 0,I 0] zU λb4=>L.store (⟨b4,0,none⟩) [.string x3.1.1,I x3.1.2.1,.string x3.1.2.2.1,I x3.1.2.2.2.1,I x3.1.2.2.2.2.1,I x3.1.2.2.2.2.2.1,I x3.1.2.2.2.2.2.2.1,I x3.1.2.2.2.2.2.2.2.1]<|L.ite (!x3.2.1) (K (I 6))<|L.nonnil p0 λa5=>L.load (.one (.map)) (a5.add 1) λ(x6:Option Nat)=>L.semU Pr (Instr.mapUpdate qa (.map x6) (.string p1) (.bool true))<|K (I 0)
def Po(p0:Option Addr)(p1:B0)(h:oq p0 p1 K w):CV uU [.v (.pointer p0),.v (.string p1)] K w:=zC Tryz.f91 .auto _ h
def Cu:Ann:=(.q2 (.q2 (.q2 (.seq (.q2 (.one [(5,eL6),(19,eI6)] .auto) none) .auto (some [(5,eL6)])) none) none) none)
def gS(p0:Option Addr)(p1:B0)(K:Value→PT):PT:=
  L.nonnil p0 λa1=>L.call Pr jY [.pointer (some (a1.add 2)),.string p1] rP λ(x2:Option Addr)=>L.join (Y:=Sl×Unit) (λk3=>L.call Pr uM [.pointer x2] rL λ(x5:Sl)=>L.loop (Y:=Sl×Int×Unit) (⟨none,0,0⟩,0,()) λy6 again7=>L.ite (decide (y6.2.1<((x5.len:Nat):Int))) (L.idx x5.a y6.2.1 x5.len 1 λa8=>L.load eI6 a8 λ(x9:Int)=>L.call Pr QL [.pointer p0,I x9,.string p1] (.tup [(.agg [.int .i64,.int .i64,.int .i64,.str]),eB6]) λ(x10:z59)=>L.new [I 0,I 0,I 0,.string s_] zD λb11=>L.store (⟨b11,0,none⟩) [I x10.1.1,I x10.1.2.1,I x10.1.2.2.1,.string x10.1.2.2.2.1]<|L.ite (!x10.2.1) (k3 (⟨y6.1.a,y6.1.len,y6.1.cap⟩,()))<|L.call Pr kf [.pointer x2] (.tup [eI6,eB6]) λ(x12:Int×Bool×Unit)=>L.load (.agg [.int .i64,.int .i64,.int .i64,.str]) (⟨b11,0,none⟩) λ(x13:KO)=>L.new [I x13.1,I x13.2.1,I x13.2.2.1,.string x13.2.2.2.1] zD λb14=>L.sem Pr (.one (.one .slice)) (Builtin.append_ #[zI,zI] zI #[Sv6 y6.1,.slice (some ⟨b14,0,none⟩) 1 1]) λ(s15:Sl)=>again7 (⟨s15.a,s15.len,s15.cap⟩,Wi (y6.2.1+1),()))<|k3 (⟨y6.1.a,y6.1.len,y6.1.cap⟩,())) λz4=>L.call Pr yb [Sv6 z4.1] rL λ(x16:Sl)=>K (.slice x16.a x16.len x16.cap)
def Ch(p0:Option Addr)(p1:B0)(h:gS p0 p1 K w):CV Xv [.v (.pointer p0),.v (.string p1)] K w:=zC Tryz.f92 Cu _ h
def PP:Ann:=(.q2 (.q2 (.q2 (.q2 (.seq (.q2 (.one [(29,eI6)] .auto) none) .auto none) none) none) none) none)
def oH(p0:Option Addr)(p1:Int)(K:Value→PT):PT:=
  L.nonnil p0 λa1=>L.load (.one (.map)) (a1.add 0) λ(x2:Option Nat)=>L.semR Pr (.tup [(.agg [.str,.ptr]),.one .bool]) (Instr.lookup Zf (.map x2) (I p1) true) λ(x3:z58)=>L.new [.string s_,.pointer none] XM λb4=>L.store (⟨b4,0,none⟩) [.string x3.1.1,.pointer x3.1.2.1]<|L.ite (!x3.2.1) (K (.tuple #[.slice none 0 0,I 6]))<|L.load eP6 (Ad6 b4 1) λ(x5:Option Addr)=>L.call Pr UU [.pointer x5] (.tup [eL6,eI6]) λ(x6:Sl×Int×Unit)=>L.loop (Y:=Int×Unit) (0,()) λy7 again8=>L.ite (decide (y7.1<((x6.1.len:Nat):Int))) (L.idx x6.1.a y7.1 x6.1.len 1 λa9=>L.load eI6 a9 λ(x10:Int)=>L.nonnil p0 λa11=>L.load (.one (.map)) (a11.add 1) λ(x12:Option Nat)=>L.sem Pr (.tup []) (Builtin.delete_ #[Zm,zx] T_ #[.map x12,I x10]) λ_=>again8 (Wi (y7.1+1),()))<|L.call Pr xK [.pointer p0,I p1] (.tup []) λ(x13:Unit)=>K (.tuple #[Sv6 x6.1,I x6.2.1])
def PC(p0:Option Addr)(p1:Int)(h:oH p0 p1 K w):CV Uc [.v (.pointer p0),.v (.int .i64 p1)] K w:=zC Tryz.f93 PP _ h
def Ct:Ann:=(.q2 (.q2 (.seq (.q2 (.one [(5,eL6),(11,eI6)] (.q2 (.q2 (.q2 .auto (some [(5,eL6)])) none) none)) none) .auto none) none) none)
def gR(p0:Option Addr)(p1:Sl)(K:Value→PT):PT:=
  L.loop (Y:=Sl×Int×Unit) (⟨none,0,0⟩,0,()) λy1 again2=>L.ite (decide (y1.2.1<((p1.len:Nat):Int))) (L.join (Y:=Sl×Unit) (λk3=>L.idx p1.a y1.2.1 p1.len 1 λa5=>L.load eI6 a5 λ(x6:Int)=>L.nonnil p0 λa7=>L.load (.one (.map)) (a7.add 1) λ(x8:Option Nat)=>L.semR Pr (.one (.agg [.str,.int .i64])) (Instr.lookup yn (.map x8) (I x6) false) λ(x9:B0×Int×Unit)=>L.new [.string s_,I 0] Zw λb10=>L.store (⟨b10,0,none⟩) [.string x9.1,I x9.2.1]<|L.load (.agg [.str,.int .i64]) (⟨b10,0,none⟩) λ(x11:B0×Int×Unit)=>L.load eS6 (Ad6 b10 0) λ(x12:B0)=>L.chkSem Pr (do eqGuard .eql Zw (.tmp 0) (.tmp 0) (.agg #[.string x11.1,I x11.2.1]) (.agg #[.string x12,I 1]);binOp .eql Zw (.agg #[.string x11.1,I x11.2.1]) (.agg #[.string x12,I 1])) (.bool ((x11.1 == x12)&&((x11.2.1 == 1)&&true)))<|L.ite ((x11.1 == x12)&&((x11.2.1 == 1)&&true)) (L.draw<|L.load eS6 (Ad6 b10 0) λ(x13:B0)=>L.call Pr Qh [.string vR] (.one (.agg [.int .i64,.int .i64,.int .i64,.str])) λ(x14:KO)=>L.chk (Ad6 b10 0) [.string x13]<|L.call Pr yw [.pointer p0,I x6,.string x13,.agg #[I x14.1,I x14.2.1,I x14.2.2.1,.string x14.2.2.2.1]] (.one (.agg [.int .i64,.int .i64,.int .i64,.str])) λ(x15:KO)=>L.new [I x15.1,I x15.2.1,I x15.2.2.1,.string x15.2.2.2.1] zD λb16=>L.sem Pr (.one (.one .slice)) (Builtin.append_ #[zI,zI] zI #[Sv6 y1.1,.slice (some ⟨b16,0,none⟩) 1 1]) λ(s17:Sl)=>k3 (⟨s17.a,s17.len,s17.cap⟩,()))<|k3 (⟨y1.1.a,y1.1.len,y1.1.cap⟩,())) λz4=>again2 (⟨z4.1.a,z4.1.len,z4.1.cap⟩,Wi (y1.2.1+1),()))<|L.call Pr yb [Sv6 y1.1] rL λ(x18:Sl)=>K (.slice x18.a x18.len x18.cap)
def Cg(p0:Option Addr)(p1:Sl)(h:gR p0 p1 K w):CV QM [.v (.pointer p0),.v (.slice p1.a p1.len p1.cap)] K w:=zC Tryz.f94 Ct _ h
def Cs:Ann:=(.q2 (.q2 (.seq (.q2 (.q2 (.q2 (.one [(20,eI6)] .auto) none) (some [(14,eS6),(15,eP6)])) none) .auto none) none) none)
def gP(p0:Option Addr)(p1:Int)(K:Value→PT):PT:=
  L.new [.pointer p0] JM λb1=>L.new [I p1] zx λb2=>L.new [.slice none 0 0] zI λb3=>L.load eP6 (⟨b1,0,none⟩) λ(x4:Option Addr)=>L.nonnil x4 λa5=>L.call Pr Qi [.pointer (some (a5.add 2))] (.one (.one (.func))) λ(x6:FV)=>L.range Pr none (.func x6.fn x6.fs x6.cs) [eS6,eP6] (λl7(y8:B0×Option Addr×Unit) R9=>L.begin Pr l7<|L.load eI6 (⟨b2,0,none⟩) λ(x12:Int)=>L.call Pr vV [.pointer y8.2.1,I x12] rL λ(x13:Sl)=>L.loop (Y:=Int×Unit) (0,()) λy14 again15=>L.ite (decide (y14.1<((x13.len:Nat):Int))) (L.idx x13.a y14.1 x13.len 1 λa16=>L.load eI6 a16 λ(x17:Int)=>L.draw<|L.load eL6 (⟨b3,0,none⟩) λ(x18:Sl)=>L.load eP6 (⟨b1,0,none⟩) λ(x19:Option Addr)=>L.call Pr Qh [.string KC] (.one (.agg [.int .i64,.int .i64,.int .i64,.str])) λ(x20:KO)=>L.chk (⟨b1,0,none⟩) [.pointer x19]<|L.chk (⟨b3,0,none⟩) [Sv6 x18]<|L.call Pr yw [.pointer x19,I x17,.string y8.1,.agg #[I x20.1,I x20.2.1,I x20.2.2.1,.string x20.2.2.2.1]] (.one (.agg [.int .i64,.int .i64,.int .i64,.str])) λ(x21:KO)=>L.chk (⟨b3,0,none⟩) [Sv6 x18]<|L.new [I x21.1,I x21.2.1,I x21.2.2.1,.string x21.2.2.2.1] zD λb22=>L.chk (⟨b3,0,none⟩) [Sv6 x18]<|L.sem Pr (.one (.one .slice)) (Builtin.append_ #[zI,zI] zI #[Sv6 x18,.slice (some ⟨b22,0,none⟩) 1 1]) λ(s23:Sl)=>L.store (⟨b3,0,none⟩) [Sv6 s23]<|again15 (Wi (y14.1+1),()))<|L.endRound Pr l7 none R9) λd10 j11=>L.jump j11 (L.load eL6 (⟨b3,0,none⟩) λ(x24:Sl)=>L.call Pr yb [Sv6 x24] rL λ(x25:Sl)=>L.unmark Pr (d10++[])<|K (.slice x25.a x25.len x25.cap)) (L.unmark Pr (d10++[])<|K (.slice none 0 0)) []
def Ce(p0:Option Addr)(p1:Int)(h:gP p0 p1 K w):CV vX [.v (.pointer p0),.v (.int .i64 p1)] K w:=zC Tryz.f95 Cs _ h
def xy(p0:Option Addr)(K:Value→PT):PT:=
  L.nonnil p0 λa1=>L.load eP6 (a1.add 1) λ(x2:Option Addr)=>L.call Pr vW [.pointer x2] rL λ(x3:Sl)=>K (.slice x3.a x3.len x3.cap)
def uc(p0:Option Addr)(h:xy p0 K w):CV jD [.v (.pointer p0)] K w:=zC Tryz.f96 .auto _ h
def Oo(p0:Option Addr)(p1:Int)(K:Value→PT):PT:=
  L.nonnil p0 λa1=>L.call Pr Qg [.pointer (some (a1.add 0)),I (if 0>p1 then 0 else p1)] (.tup []) λ(x2:Unit)=>L.nonnil p0 λa3=>L.load eI6 (a3.add 61) λ(x4:Int)=>L.nonnil p0 λa5=>L.store (a5.add 61) [I (Wi (x4+1))]<|L.ite (decide ((if 0>p1 then 0 else p1)>0)) (L.nonnil p0 λa6=>L.store (a6.add 61) [I 0]<|K (.tuple #[]))<|K (.tuple #[])
def TB(p0:Option Addr)(p1:Int)(h:Oo p0 p1 K w):CV UZ [.v (.pointer p0),.v (.int .i64 p1)] K w:=zC Tryz.f97 .auto _ h
def gU(p0:Option Addr)(p1:B0)(K:Value→PT):PT:=
  L.call Pr XV [.pointer p0,.string p1] (.tup [eL6,eL6]) λ(x1:Sl×Sl×Unit)=>K (I (Wi (((x1.1.len:Nat):Int)+((x1.2.1.len:Nat):Int))))
def Cj(p0:Option Addr)(p1:B0)(h:gU p0 p1 K w):CV QN [.v (.pointer p0),.v (.string p1)] K w:=zC Tryz.f98 .auto _ h
def VV(p0:Option Addr)(p1:B0)(K:Value→PT):PT:=
  L.new [.string s_,I 0,I 0,I 0,I 0,I 0] zA λb1=>L.nonnil p0 λa2=>L.load eP6 (a2.add 0) λ(x3:Option Addr)=>L.call Pr JE [.pointer x3,.string p1] (.tup [(.agg RF),eB6]) λ(x4:z5X)=>L.new [.string s_,I 0,I 0,I 0,I 0,I 0,I 0,I 0,.bool false] zS λb5=>L.store (⟨b5,0,none⟩) [.string x4.1.1,I x4.1.2.1,I x4.1.2.2.1,I x4.1.2.2.2.1,I x4.1.2.2.2.2.1,I x4.1.2.2.2.2.2.1,I x4.1.2.2.2.2.2.2.1,I x4.1.2.2.2.2.2.2.2.1,.bool x4.1.2.2.2.2.2.2.2.2.1]<|L.ite (!x4.2.1) (L.store (⟨b1,0,none⟩) [.string s_,I 0,I 0,I 0,I 0,I 0]<|L.load (.agg lf0) (⟨b1,0,none⟩) λ(x6:pt0)=>K (.tuple #[(qa0 x6),I 0,I 0,.bool false]))<|L.draw<|L.load (.agg lf0) (Ad6 b5 0) λ(x7:pt0)=>L.load eI6 (Ad6 b5 6) λ(x8:Int)=>L.load eI6 (Ad6 b5 7) λ(x9:Int)=>L.store (⟨b1,0,none⟩) [.string x7.1,I x7.2.1,I x7.2.2.1,I x7.2.2.2.1,I x7.2.2.2.2.1,I x7.2.2.2.2.2.1]<|L.chk (Ad6 b5 7) [I x9]<|L.chk (Ad6 b5 6) [I x8]<|L.chk (Ad6 b5 7) [I x9]<|L.load (.agg lf0) (⟨b1,0,none⟩) λ(x10:pt0)=>K (.tuple #[(qa0 x10),I x8,I x9,.bool true])
def mH(p0:Option Addr)(p1:B0)(h:VV p0 p1 K w):CV xJ [.v (.pointer p0),.v (.string p1)] K w:=zC Tryz.f99 .auto _ h
def oo(p0:Option Addr)(p1:ht0)(p2:Int)(K:Value→PT):PT:=
  L.new [.string p1.1,I p1.2.1,I p1.2.2.1,I p1.2.2.2.1,I p1.2.2.2.2.1,I p1.2.2.2.2.2.1] zA λb1=>L.load eS6 (Ad6 b1 0) λ(x2:B0)=>L.call Pr Og [.string x2,I p2] rS λ(x3:B0)=>L.ite (x3.toList == s_.toList) (K (.tuple #[.string x3,.bool false]))<|L.nonnil p0 λa4=>L.load (.one (.map)) (a4.add 0) λ(x5:Option Nat)=>L.semR Pr (.one (.agg lf6)) (Instr.lookup zZ (.map x5) (.string x3) false) λ(x6:Sn)=>L.chkSem Pr (do eqGuard .neq zU (.tmp 0) (.tmp 0) ((qa3 x6)) (.agg #[.string s_,I 0,.string s_,I 0,I 0,I 0,I 0,I 0]);binOp .neq zU ((qa3 x6)) (.agg #[.string s_,I 0,.string s_,I 0,I 0,I 0,I 0,I 0])) (.bool (!((x6.1 == s_)&&((x6.2.1 == 0)&&((x6.2.2.1 == s_)&&((x6.2.2.2.1 == 0)&&((x6.2.2.2.2.1 == 0)&&((x6.2.2.2.2.2.1 == 0)&&((x6.2.2.2.2.2.2.1 == 0)&&((x6.2.2.2.2.2.2.2.1 == 0)&&true))))))))))<|L.ite (!((x6.1 == s_)&&((x6.2.1 == 0)&&((x6.2.2.1 == s_)&&((x6.2.2.2.1 == 0)&&((x6.2.2.2.2.1 == 0)&&((x6.2.2.2.2.2.1 == 0)&&((x6.2.2.2.2.2.2.1 == 0)&&((x6.2.2.2.2.2.2.2.1 == 0)&&true))))))))) (K (.tuple #[.string x3,.bool false]))<|L.draw<|L.nonnil p0 λa7=>L.load (.one (.map)) (a7.add 0) λ(x8:Option Nat)=>L.load (.agg lf0) (⟨b1,0,none⟩) λ(x9:pt0)=>L.semU Pr (Instr.mapUpdate zZ (.map x8) (.string x3) (.agg #[.string x3,I p2,.string x9.1,I x9.2.1,I x9.2.2.1,I x9.2.2.2.1,I x9.2.2.2.2.1,I x9.2.2.2.2.2.1]))<|K (.tuple #[.string x3,.bool true])
def Pn(p0:Option Addr)(p1:ht0)(p2:Int)(h:oo p0 p1 p2 K w):CV uT [.v (.pointer p0),.ag (qc0 p1),.v (.int .i64 p2)] K w:=zC Tryz.f100 .auto _ h
def dp  (K:Value→PT):PT:=
  L.new [I 0,I 0,I 0,I 0,I 0,I 0,I 0,I 0,I 0,I 0,I 0,I 0,I 0,I 0,I 0,I 0,I 0,I 0,I 0,I 0,I 0,I 0,I 0,I 0,I 0,I 0,I 0,I 0,I 0,I 0,I 0,I 0,I 0,I 0,I 0,I 0,I 0,I 0,I 0,I 0,I 0,I 0,I 0,I 0,I 0,I 0,I 0,I 0,I 0,I 0,I 0,I 0,I 0,I 0,I 0,I 0,I 0,I 0,I 0,I 0,I 0,I 0] Xb λb1=>K (.pointer (some (⟨b1,0,none⟩)))
def bX(h:dp  K w):CV FD [] K w:=zC Tryz.f101 .auto _ h
def kP(p0:Option Addr)(p1:B0)(K:Value→PT):PT:=
  L.new [.string s_,.string s_,.slice none 0 0,I 0] Zb λb1=>L.nonnil p0 λa2=>L.load eP6 (a2.add 1) λ(x3:Option Addr)=>L.call Pr xe [.pointer x3,.string p1] (.tup [(.agg RE),eB6]) λ(x4:z5W)=>L.new [.string s_,.string s_,.slice none 0 0,I 0,I 0,I 0,.bool false] zY λb5=>L.store (⟨b5,0,none⟩) [.string x4.1.1,.string x4.1.2.1,Sv6 x4.1.2.2.1,I x4.1.2.2.2.1,I x4.1.2.2.2.2.1,I x4.1.2.2.2.2.2.1,.bool x4.1.2.2.2.2.2.2.1]<|L.ite (!x4.2.1) (L.store (⟨b1,0,none⟩) [.string s_,.string s_,.slice none 0 0,I 0]<|L.load (.agg [.str,.str,.slice,.int .i64]) (⟨b1,0,none⟩) λ(x6:pt3)=>K (.tuple #[.agg #[.string x6.1,.string x6.2.1,Sv6 x6.2.2.1,I x6.2.2.2.1],I 0,.bool false]))<|L.draw<|L.load (.agg [.str,.str,.slice,.int .i64]) (Ad6 b5 0) λ(x7:pt3)=>L.load eI6 (Ad6 b5 4) λ(x8:Int)=>L.call Pr Oe [.agg #[.string x7.1,.string x7.2.1,Sv6 x7.2.2.1,I x7.2.2.2.1]] (.one (.agg [.str,.str,.slice,.int .i64])) λ(x9:pt3)=>L.chk (Ad6 b5 4) [I x8]<|L.store (⟨b1,0,none⟩) [.string x9.1,.string x9.2.1,Sv6 x9.2.2.1,I x9.2.2.2.1]<|L.chk (Ad6 b5 4) [I x8]<|L.load (.agg [.str,.str,.slice,.int .i64]) (⟨b1,0,none⟩) λ(x10:pt3)=>K (.tuple #[.agg #[.string x10.1,.string x10.2.1,Sv6 x10.2.2.1,I x10.2.2.2.1],I x8,.bool true])
def My(p0:Option Addr)(p1:B0)(h:kP p0 p1 K w):CV Xl [.v (.pointer p0),.v (.string p1)] K w:=zC Tryz.f102 .auto _ h
def NS:Ann:=(.q2 (.q2 (.seq (.q2 (.one [(5,eI6),(22,eI6)] (.q2 (.q2 (.q2 .auto (some [(5,eI6)])) none) none)) none) (.q2 (.seq (.q2 (.q2 .auto (some [(53,eS6),(54,eI6)])) none) (.seq (.q2 (.q2 .auto (some [(67,eS6),(68,eS6)])) none) .auto none) none) none) none) none) none)
def mh(p0:ht2)(p1:Option Addr)(K:Value→PT):PT:=
  L.new [.string p0.1,.string p0.2.1,Sv6 p0.2.2.1,I p0.2.2.2.1] Zb λb1=>L.new [.slice none 0 0,.slice none 0 0] zp λb2=>L.sem Pr (.one (.one .map)) (Instr.makeMap ZE none) λ(m3:Option Nat)=>L.sem Pr (.one (.one .map)) (Instr.makeMap Zi none) λ(m4:Option Nat)=>L.load eL6 (Ad6 b1 2) λ(x5:Sl)=>L.loop (Y:=Int×Int×Unit) (0,0,()) λy6 again7=>L.ite (decide (y6.2.1<((x5.len:Nat):Int))) (L.join (Y:=Int×Unit) (λk8=>L.idx x5.a y6.2.1 x5.len 3 λa10=>L.load (.agg [.str,.str,.int .i64]) a10 λ(x11:pt9)=>L.new [.string s_,.string s_,I 0] zG λb12=>L.store (⟨b12,0,none⟩) [.string x11.1,.string x11.2.1,I x11.2.2.1]<|L.load (.agg [.str,.str,.int .i64]) (⟨b12,0,none⟩) λ(x13:pt9)=>L.load (.agg [.str,.str,.slice,.int .i64]) (⟨b1,0,none⟩) λ(x14:pt3)=>L.call Pr OO [.agg #[.string x13.1,.string x13.2.1,I x13.2.2.1],.agg #[.string x14.1,.string x14.2.1,Sv6 x14.2.2.1,I x14.2.2.2.1],.pointer p1] (.tup [eS6,eI6]) λ(x15:B0×Int×Unit)=>L.ite (x15.2.1 != 0) (L.store (⟨b2,0,none⟩) [.slice none 0 0,.slice none 0 0]<|L.load (.agg [.slice,.slice]) (⟨b2,0,none⟩) λ(x16:Sl×Sl×Unit)=>K (.tuple #[.agg #[Sv6 x16.1,Sv6 x16.2.1],I x15.2.1]))<|L.semR Pr rI (Instr.lookup ZE (.map m3) (.string x15.1) false) λ(x17:Int)=>L.load eI6 (Ad6 b12 2) λ(x18:Int)=>L.semU Pr (Instr.mapUpdate ZE (.map m3) (.string x15.1) (I (Wi (x17+x18))))<|L.load eS6 (Ad6 b12 1) λ(x19:B0)=>L.ite (!(x19.toList == s_.toList)) (L.load eS6 (Ad6 b12 1) λ(x20:B0)=>L.semU Pr (Instr.mapUpdate Zi (.map m4) (.string x20) (.string x15.1))<|k8 (y6.1,()))<|k8 (y6.1,())) λz9=>again7 (z9.1,Wi (y6.2.1+1),()))<|L.new [.slice none 0 0,.slice none 0 0] zp λb21=>L.call Pr QX [.map m3] (.one (.one (.func))) λ(x22:FV)=>L.range Pr none (.func x22.fn x22.fs x22.cs) [eS6,eI6] (λl23(y24:B0×Int×Unit) R25=>L.begin Pr l23<|L.ite (decide (y24.2.1>0)) (L.load eL6 (Ad6 b21 0) λ(x28:Sl)=>L.new [.string y24.1,I y24.2.1] zW λb29=>L.sem Pr (.one (.one .slice)) (Builtin.append_ #[Zk,Zk] Zk #[Sv6 x28,.slice (some ⟨b29,0,none⟩) 1 1]) λ(s30:Sl)=>L.store (Ad6 b21 0) [Sv6 s30]<|L.endRound Pr l23 none R25)<|L.endRound Pr l23 none R25) λd26 j27=>L.jump j27 (L.call Pr qj [.map m4] (.one (.one (.func))) λ(x31:FV)=>L.range Pr none (.func x31.fn x31.fs x31.cs) [eS6,eS6] (λl32(y33:B0×B0×Unit) R34=>L.begin Pr l32<|L.load eL6 (Ad6 b21 1) λ(x37:Sl)=>L.new [.string y33.1,.string y33.2.1] jy λb38=>L.sem Pr (.one (.one .slice)) (Builtin.append_ #[xY,xY] xY #[Sv6 x37,.slice (some ⟨b38,0,none⟩) 1 1]) λ(s39:Sl)=>L.store (Ad6 b21 1) [Sv6 s39]<|L.endRound Pr l32 none R34) λd35 j36=>L.jump j36 (L.load (.agg [.slice,.slice]) (⟨b21,0,none⟩) λ(x40:Sl×Sl×Unit)=>L.call Pr YQ [.agg #[Sv6 x40.1,Sv6 x40.2.1]] (.one (.agg [.slice,.slice])) λ(x41:Sl×Sl×Unit)=>L.store (⟨b2,0,none⟩) [Sv6 x41.1,Sv6 x41.2.1]<|L.unmark Pr (d35++(d26++[]))<|L.load (.agg [.slice,.slice]) (⟨b2,0,none⟩) λ(x42:Sl×Sl×Unit)=>K (.tuple #[.agg #[Sv6 x42.1,Sv6 x42.2.1],I 0])) (L.unmark Pr (d35++(d26++[]))<|L.load (.agg [.slice,.slice]) (⟨b2,0,none⟩) λ(x43:Sl×Sl×Unit)=>K (.tuple #[.agg #[Sv6 x43.1,Sv6 x43.2.1],I y6.1])) []) (L.unmark Pr (d26++[])<|L.load (.agg [.slice,.slice]) (⟨b2,0,none⟩) λ(x44:Sl×Sl×Unit)=>K (.tuple #[.agg #[Sv6 x44.1,Sv6 x44.2.1],I y6.1])) []
def NI(p0:ht2)(p1:Option Addr)(h:mh p0 p1 K w):CV UX [.ag (qc2 p0),.v (.pointer p1)] K w:=zC Tryz.f103 NS _ h
def LW:Ann:=(.q2 (.q2 (.q2 (.seq (.q2 (.one [(5,eL6),(17,eI6)] .auto) none) (.seq (.q2 (.one [(5,eL6),(33,eI6)] .auto) none) .auto none) none) none) none) none)
def Ti(p0:HT [.slice,.slice])(K:Value→PT):PT:=
  L.new [Sv6 p0.1,Sv6 p0.2.1] zp λb1=>L.load (.agg [.slice,.slice]) (⟨b1,0,none⟩) λ(x2:Sl×Sl×Unit)=>L.call Pr OH [.agg #[Sv6 x2.1,Sv6 x2.2.1]] (.tup [eL6,eL6]) λ(x3:Sl×Sl×Unit)=>L.loop (Y:=Sl×Int×Unit) (⟨none,0,0⟩,0,()) λy4 again5=>L.ite (decide (y4.2.1<((x3.1.len:Nat):Int))) (L.idx x3.1.a y4.2.1 x3.1.len 2 λa6=>L.load (.agg [.str,.str]) a6 λ(x7:B0×B0×Unit)=>L.new [.string s_,.string s_] JG λb8=>L.store (⟨b8,0,none⟩) [.string x7.1,.string x7.2.1]<|L.idx (some (⟨b8,0,none⟩)) 0 2 1 λa9=>L.load eS6 a9 λ(x10:B0)=>L.guard (((x10.size+gk.size:Nat):Int)≤Ue)<|L.idx (some (⟨b8,0,none⟩)) 1 2 1 λa11=>L.load eS6 a11 λ(x12:B0)=>L.guard ((((x10++gk).size+x12.size:Nat):Int)≤Ue)<|L.new [.string ((x10++gk)++x12)] zc λb13=>L.sem Pr (.one (.one .slice)) (Builtin.append_ #[zj,zj] zj #[Sv6 y4.1,.slice (some ⟨b13,0,none⟩) 1 1]) λ(s14:Sl)=>again5 (⟨s14.a,s14.len,s14.cap⟩,Wi (y4.2.1+1),()))<|L.loop (Y:=Sl×Int×Unit) (⟨y4.1.a,y4.1.len,y4.1.cap⟩,0,()) λy15 again16=>L.ite (decide (y15.2.1<((x3.2.1.len:Nat):Int))) (L.idx x3.2.1.a y15.2.1 x3.2.1.len 2 λa17=>L.load (.agg [.str,.str]) a17 λ(x18:B0×B0×Unit)=>L.new [.string s_,.string s_] JG λb19=>L.store (⟨b19,0,none⟩) [.string x18.1,.string x18.2.1]<|L.idx (some (⟨b19,0,none⟩)) 0 2 1 λa20=>L.load eS6 a20 λ(x21:B0)=>L.guard (((x21.size+gj.size:Nat):Int)≤Ue)<|L.idx (some (⟨b19,0,none⟩)) 1 2 1 λa22=>L.load eS6 a22 λ(x23:B0)=>L.guard ((((x21++gj).size+x23.size:Nat):Int)≤Ue)<|L.new [.string ((x21++gj)++x23)] zc λb24=>L.sem Pr (.one (.one .slice)) (Builtin.append_ #[zj,zj] zj #[Sv6 y15.1,.slice (some ⟨b24,0,none⟩) 1 1]) λ(s25:Sl)=>again16 (⟨s25.a,s25.len,s25.cap⟩,Wi (y15.2.1+1),()))<|L.call Pr US [Sv6 y15.1,.string gm] rS λ(x26:B0)=>K (.string x26)
def LH(p0:HT [.slice,.slice])(h:Ti p0 K w):CV Gx [.ag [.slice p0.1.a p0.1.len p0.1.cap,.slice p0.2.1.a p0.2.1.len p0.2.1.cap]] K w:=zC Tryz.f104 LW _ h
def PH:Ann:=(.q2 (.q2 (.q2 .auto (some [])) none) none)
def ox(p0:Option Addr)(p1:B0)(p2:HT [.slice,.slice])(p3 p4:Int)(K:Value→PT):PT:=
  L.new [Sv6 p2.1,Sv6 p2.2.1] zp λb1=>L.new [.slice none 0 0,.slice none 0 0] zp λb2=>L.nonnil p0 λa3=>L.load (.one (.map)) (a3.add 0) λ(x4:Option Nat)=>L.semR Pr (.tup [(.agg z0l),.one .bool]) (Instr.lookup YF (.map x4) (.string p1) true) λ(x5:z57)=>L.new [.slice none 0 0,.slice none 0 0,I 0,I 0,.slice none 0 0,.slice none 0 0] Yz λb6=>L.store (⟨b6,0,none⟩) [Sv6 x5.1.1,Sv6 x5.1.2.1,I x5.1.2.2.1,I x5.1.2.2.2.1,Sv6 x5.1.2.2.2.2.1,Sv6 x5.1.2.2.2.2.2.1]<|L.join (Y:=Unit) (λk7=>L.ite (!x5.2.1) (L.draw<|L.load (.agg [.slice,.slice]) (⟨b1,0,none⟩) λ(x9:Sl×Sl×Unit)=>L.load (.agg [.slice,.slice]) (⟨b1,0,none⟩) λ(x10:Sl×Sl×Unit)=>L.call Pr YQ [.agg #[Sv6 x9.1,Sv6 x9.2.1]] (.one (.agg [.slice,.slice])) λ(x11:Sl×Sl×Unit)=>L.chk (⟨b1,0,none⟩) [Sv6 x10.1,Sv6 x10.2.1]<|L.call Pr YQ [.agg #[Sv6 x10.1,Sv6 x10.2.1]] (.one (.agg [.slice,.slice])) λ(x12:Sl×Sl×Unit)=>L.store (⟨b6,0,none⟩) [Sv6 x11.1,Sv6 x12.1,I p3,I p4,.slice none 0 0,.slice none 0 0]<|k7 (()))<|L.load eL6 (Ad6 b6 1) λ(x13:Sl)=>L.load eL6 (Ad6 b1 0) λ(x14:Sl)=>L.call Pr yN [Sv6 x13,Sv6 x14] rB λ(x15:Bool)=>L.ite (!x15) (L.draw<|L.load eL6 ((Ad6 b6 4).add 0) λ(x16:Sl)=>L.load (.agg [.slice,.slice]) (⟨b1,0,none⟩) λ(x17:Sl×Sl×Unit)=>L.call Pr YQ [.agg #[Sv6 x17.1,Sv6 x17.2.1]] (.one (.agg [.slice,.slice])) λ(x18:Sl×Sl×Unit)=>L.chk ((Ad6 b6 4).add 0) [Sv6 x16]<|L.store (⟨b6,0,none⟩) [Sv6 x16,Sv6 x18.1,I p3,I p4,.slice none 0 0,.slice none 0 0]<|k7 (()))<|L.load eI6 (Ad6 b6 3) λ(x19:Int)=>L.ite (x19 != p4) (L.draw<|L.load eL6 ((Ad6 b6 4).add 0) λ(x20:Sl)=>L.load (.agg [.slice,.slice]) (⟨b1,0,none⟩) λ(x21:Sl×Sl×Unit)=>L.call Pr YQ [.agg #[Sv6 x21.1,Sv6 x21.2.1]] (.one (.agg [.slice,.slice])) λ(x22:Sl×Sl×Unit)=>L.chk ((Ad6 b6 4).add 0) [Sv6 x20]<|L.store (⟨b6,0,none⟩) [Sv6 x20,Sv6 x22.1,I p3,I p4,.slice none 0 0,.slice none 0 0]<|k7 (()))<|k7 (())) λz8=>L.draw<|L.load eL6 (Ad6 b6 0) λ(x23:Sl)=>L.load eL6 (Ad6 b6 1) λ(x24:Sl)=>L.load eI6 (Ad6 b6 2) λ(x25:Int)=>L.load (.agg [.slice,.slice]) (⟨b1,0,none⟩) λ(x26:Sl×Sl×Unit)=>L.call Pr OM [Sv6 x23,Sv6 x24,I (Wi (p3-x25)),I p4] rL λ(x27:Sl)=>L.chk (⟨b1,0,none⟩) [Sv6 x26.1,Sv6 x26.2.1]<|L.call Pr YQ [.agg #[Sv6 x26.1,Sv6 x26.2.1]] (.one (.agg [.slice,.slice])) λ(x28:Sl×Sl×Unit)=>L.store (Ad6 b6 4) [Sv6 x27,Sv6 x28.2.1]<|L.draw<|L.nonnil p0 λa29=>L.load (.one (.map)) (a29.add 0) λ(x30:Option Nat)=>L.load (.agg z0l) (⟨b6,0,none⟩) λ(x31:z56)=>L.semU Pr (Instr.mapUpdate YF (.map x30) (.string p1) ((qa4 x31)))<|L.load (.agg [.slice,.slice]) (Ad6 b6 4) λ(x32:Sl×Sl×Unit)=>L.call Pr YQ [.agg #[Sv6 x32.1,Sv6 x32.2.1]] (.one (.agg [.slice,.slice])) λ(x33:Sl×Sl×Unit)=>L.store (⟨b2,0,none⟩) [Sv6 x33.1,Sv6 x33.2.1]<|L.load (.agg [.slice,.slice]) (⟨b2,0,none⟩) λ(x34:Sl×Sl×Unit)=>K (.agg #[Sv6 x34.1,Sv6 x34.2.1])
def Ps(p0:Option Addr)(p1:B0)(p2:HT [.slice,.slice])(p3 p4:Int)(h:ox p0 p1 p2 p3 p4 K w):CV uW [.v (.pointer p0),.v (.string p1),.ag [.slice p2.1.a p2.1.len p2.1.cap,.slice p2.2.1.a p2.2.1.len p2.2.1.cap],.v (.int .i64 p3),.v (.int .i64 p4)] K w:=zC Tryz.f105 PH _ h
def gM(p0:Option Addr)(p1:B0)(K:Value→PT):PT:=
  L.new [.string s_,I 0,.string s_,I 0,I 0,I 0,I 0,I 0] zU λb1=>L.nonnil p0 λa2=>L.load (.one (.map)) (a2.add 0) λ(x3:Option Nat)=>L.semR Pr (.tup [(.agg lf6),.one .bool]) (Instr.lookup zZ (.map x3) (.string p1) true) λ(x4:pt6)=>L.new [.string s_,I 0,.string s_,I 0,I 0,I 0,I 0,I 0] zU λb5=>L.store (⟨b5,0,none⟩) [.string x4.1.1,I x4.1.2.1,.string x4.1.2.2.1,I x4.1.2.2.2.1,I x4.1.2.2.2.2.1,I x4.1.2.2.2.2.2.1,I x4.1.2.2.2.2.2.2.1,I x4.1.2.2.2.2.2.2.2.1]<|L.load (.agg lf6) (⟨b5,0,none⟩) λ(x6:Sn)=>L.store (⟨b1,0,none⟩) [.string x6.1,I x6.2.1,.string x6.2.2.1,I x6.2.2.2.1,I x6.2.2.2.2.1,I x6.2.2.2.2.2.1,I x6.2.2.2.2.2.2.1,I x6.2.2.2.2.2.2.2.1]<|L.load (.agg lf6) (⟨b1,0,none⟩) λ(x7:Sn)=>K (.tuple #[(qa3 x7),.bool x4.2.1])
def Ca(p0:Option Addr)(p1:B0)(h:gM p0 p1 K w):CV jQ [.v (.pointer p0),.v (.string p1)] K w:=zC Tryz.f106 .auto _ h
def Fj:Ann:=(.q2 (.q2 (.seq (.q2 (.one [(7,eI6),(14,eI6)] (.q2 (.q2 (.q2 .auto (some [(7,eI6)])) none) none)) none) .auto none) none) none)
def vE(p0:Option Addr)(p1:B0)(p2:FV)(K:Value→PT):PT:=
  L.call Pr xI [.pointer p0,.string p1] rL λ(x1:Sl)=>L.loop (Y:=Int×Int×Unit) (0,0,()) λy2 again3=>L.ite (decide (y2.2.1<((x1.len:Nat):Int))) (L.join (Y:=Int×Unit) (λk4=>L.idx x1.a y2.2.1 x1.len 3 λa6=>L.load (.agg [.int .i64,.int .i64,.int .i64]) a6 λ(x7:Int×Int×Int×Unit)=>L.new [I 0,I 0,I 0] JH λb8=>L.store (⟨b8,0,none⟩) [I x7.1,I x7.2.1,I x7.2.2.1]<|L.load eI6 (Ad6 b8 1) λ(x9:Int)=>L.callV Pr (.func p2.fn p2.fs p2.cs) [I x9] rB λ(x10:Bool)=>L.ite x10 (k4 (Wi (y2.1+1),()))<|k4 (y2.1,())) λz5=>again3 (z5.1,Wi (y2.2.1+1),()))<|K (I y2.1)
def fZ(p0:Option Addr)(p1:B0)(p2:FV)(h:vE p0 p1 p2 K w):CV xp [.v (.pointer p0),.v (.string p1),.v (.func p2.fn p2.fs p2.cs)] K w:=zC Tryz.f107 Fj _ h
def Ux(p0:Int)(K:Value→PT):PT:=
  K (.bool (p0 == 2))
def Gd(p0:Int)(h:Ux p0 K w):CV Jl [.v (.int .i64 p0)] K w:=zC Tryz.f108 .auto _ h
def Gb:ZN Pr Jl:=zH (by kernel_rfl)
def PI:Ann:=(.q2 (.seq (.q2 (.q2 .auto (some [(11,eI6)])) none) .auto none) none)
def oz(p0:Option Addr)(p1:Int)(K:Value→PT):PT:=
  L.new [I p1] zx λb1=>L.new [I 0] zx λb2=>L.new [I 0] zx λb3=>L.nonnil p0 λa4=>L.call Pr qC [.pointer (some (a4.add 0))] (.one (.one (.func))) λ(x5:FV)=>L.range Pr none (.func x5.fn x5.fs x5.cs) [eI6] (λl6(y7:Int×Unit) R8=>L.begin Pr l6<|L.load eI6 (⟨b3,0,none⟩) λ(x11:Int)=>L.load eI6 (⟨b1,0,none⟩) λ(x12:Int)=>L.ite (decide (x11≥x12)) (L.endRound Pr l6 (some (.exit 0)) R8)<|L.load eI6 (⟨b2,0,none⟩) λ(x13:Int)=>L.store (⟨b2,0,none⟩) [I (Wi (x13+y7.1))]<|L.load eI6 (⟨b3,0,none⟩) λ(x14:Int)=>L.store (⟨b3,0,none⟩) [I (Wi (x14+1))]<|L.endRound Pr l6 none R8) λd9 j10=>L.jump j10 (L.draw<|L.load eI6 (⟨b2,0,none⟩) λ(x19:Int)=>L.load eI6 (⟨b3,0,none⟩) λ(x20:Int)=>L.store (⟨b2,0,none⟩) [I x19]<|L.chk (⟨b3,0,none⟩) [I x20]<|L.store (⟨b3,0,none⟩) [I x20]<|L.unmark Pr (d9++[])<|L.load eI6 (⟨b2,0,none⟩) λ(x21:Int)=>L.load eI6 (⟨b3,0,none⟩) λ(x22:Int)=>K (.tuple #[I x21,I x22])) (L.unmark Pr (d9++[])<|L.load eI6 (⟨b2,0,none⟩) λ(x23:Int)=>L.load eI6 (⟨b3,0,none⟩) λ(x24:Int)=>K (.tuple #[I x23,I x24])) [(0,(L.draw<|L.load eI6 (⟨b2,0,none⟩) λ(x15:Int)=>L.load eI6 (⟨b3,0,none⟩) λ(x16:Int)=>L.store (⟨b2,0,none⟩) [I x15]<|L.chk (⟨b3,0,none⟩) [I x16]<|L.store (⟨b3,0,none⟩) [I x16]<|L.unmark Pr (d9++[])<|L.load eI6 (⟨b2,0,none⟩) λ(x17:Int)=>L.load eI6 (⟨b3,0,none⟩) λ(x18:Int)=>K (.tuple #[I x17,I x18])))]
def Pt(p0:Option Addr)(p1:Int)(h:oz p0 p1 K w):CV XU [.v (.pointer p0),.v (.int .i64 p1)] K w:=zC Tryz.f109 PI _ h
def NQ:Ann:=(.q2 (.seq (.one [(19,(.one (.adr)))] .auto) (.q2 (.seq (.one [(21,(.one (.adr)))] .auto) (.q2 (.seq (.q2 (.cond .auto .auto) none) .auto (some [])) (some [])) none) none) none) none)
def md(p0:HT [.int .i64,.int .i64])(p1:ht0)(p2 p3 p4 p5 p6 p7 p8:Int)(K:Value→PT):PT:=
  L.new [I p0.1,I p0.2.1] ZY λb1=>L.new [.string p1.1,I p1.2.1,I p1.2.2.1,I p1.2.2.2.1,I p1.2.2.2.2.1,I p1.2.2.2.2.2.1] zA λb2=>L.new [I 0,I 0] ZY λb3=>L.join (Y:=Addr×Unit) (λk4=>L.draw<|L.load eI6 (Ad6 b2 2) λ(x6:Int)=>L.load eI6 (Ad6 b2 2) λ(x7:Int)=>L.alts [(L.call Pr XR [I p4,I p5,I x6] rI λ(x8:Int)=>L.chk (Ad6 b2 2) [I x7]<|L.alts [(L.call Pr XR [I p6,I p7,I x7] rI λ(x9:Int)=>L.new [I 0,I 0] Ol λb10=>L.chk (Ad6 b2 2) [I x7]<|L.chk (Ad6 b2 2) [I x6]<|L.store (⟨b10,0,none⟩) [I x8,I x9]<|k4 (⟨b10,0,none⟩,())),(L.new [I 0,I 0] Ol λb11=>L.chk (Ad6 b2 2) [I x7]<|L.chk (Ad6 b2 2) [I x6]<|L.call Pr XR [I p6,I p7,I x7] rI λ(x12:Int)=>L.store (⟨b11,0,none⟩) [I x8,I x12]<|k4 (⟨b11,0,none⟩,()))]),(L.new [I 0,I 0] Ol λb13=>L.chk (Ad6 b2 2) [I x7]<|L.chk (Ad6 b2 2) [I x6]<|L.call Pr XR [I p4,I p5,I x6] rI λ(x14:Int)=>L.chk (Ad6 b2 2) [I x7]<|L.call Pr XR [I p6,I p7,I x7] rI λ(x15:Int)=>L.store (⟨b13,0,none⟩) [I x14,I x15]<|k4 (⟨b13,0,none⟩,()))]) λz5=>L.join (Y:=Addr×Unit) (λk16=>L.draw<|L.idx (some z5.1) 0 2 1 λa18=>L.load eI6 a18 λ(x19:Int)=>L.load (.agg [.int .i64,.int .i64]) (⟨b1,0,none⟩) λ(x20:Int×Int×Unit)=>L.idx (some z5.1) 1 2 1 λa21=>L.load eI6 a21 λ(x22:Int)=>L.alts [(L.call Pr xr [.agg #[I x20.1,I x20.2.1],I x22,I (if p2>1 then p2 else 1)] rI λ(x23:Int)=>L.chk a18 [I x19]<|L.new [I 0,I 0] ZY λb24=>L.chk a21 [I x22]<|L.chk (⟨b1,0,none⟩) [I x20.1,I x20.2.1]<|L.chk a18 [I x19]<|L.store (⟨b24,0,none⟩) [I x19,I x23]<|k16 (⟨b24,0,none⟩,())),(L.new [I 0,I 0] ZY λb25=>L.chk a21 [I x22]<|L.chk (⟨b1,0,none⟩) [I x20.1,I x20.2.1]<|L.chk a18 [I x19]<|L.call Pr xr [.agg #[I x20.1,I x20.2.1],I x22,I (if p2>1 then p2 else 1)] rI λ(x26:Int)=>L.chk a18 [I x19]<|L.store (⟨b25,0,none⟩) [I x19,I x26]<|k16 (⟨b25,0,none⟩,()))]) λz17=>L.join (Y:=Unit) (λk27=>L.load eI6 (z17.1.add 1) λ(x29:Int)=>L.ite (decide (x29>0)) (L.load (.agg [.int .i64,.int .i64]) (⟨b1,0,none⟩) λ(x30:Int×Int×Unit)=>L.load (.agg [.int .i64,.int .i64]) z5.1 λ(x31:Int×Int×Unit)=>L.call Pr uV [.agg #[I x30.1,I x30.2.1],.agg #[I x31.1,I x31.2.1]] rI λ(x32:Int)=>L.store (z17.1.add 0) [I x32]<|k27 (()))<|k27 (())) λz28=>L.join (Y:=Unit) (λk33=>L.load eI6 (z17.1.add 0) λ(x35:Int)=>L.ite (x35 == 0) (L.ite (decide (p3>0)) (L.store (z17.1.add 0) [I 1]<|k33 (()))<|L.load eI6 (Ad6 b1 0) λ(x36:Int)=>L.ite (decide (x36>0)) (L.load eI6 (Ad6 b2 5) λ(x37:Int)=>L.ite (decide (p8<x37)) (L.store (z17.1.add 0) [I 1]<|k33 (()))<|k33 (()))<|k33 (()))<|k33 (())) λz34=>L.load (.agg lf0) (⟨b2,0,none⟩) λ(x38:pt0)=>L.call Pr KQ [(qa0 x38),I p2,I (if p2>1 then p2 else 1)] (.one (.agg [.int .i64,.int .i64,.int .i64,.int .i64])) λ(x39:Int×Int×Int×Int×Unit)=>L.new [I 0,I 0,I 0,I 0] AV λb40=>L.store (⟨b40,0,none⟩) [I x39.1,I x39.2.1,I x39.2.2.1,I x39.2.2.2.1]<|L.load eI6 (z17.1.add 0) λ(x41:Int)=>L.idx (some (⟨b40,0,none⟩)) 0 4 1 λa42=>L.load eI6 a42 λ(x43:Int)=>L.idx (some (⟨b40,0,none⟩)) 1 4 1 λa44=>L.load eI6 a44 λ(x45:Int)=>L.idx (some (⟨b40,0,none⟩)) 2 4 1 λa46=>L.load eI6 a46 λ(x47:Int)=>L.idx (some (⟨b40,0,none⟩)) 3 4 1 λa48=>L.load eI6 a48 λ(x49:Int)=>L.store (z17.1.add 0) [I (if x49<(if x47>(if x45>(if x43<x41 then x43 else x41)then x45 else(if x43<x41 then x43 else x41))then x47 else(if x45>(if x43<x41 then x43 else x41)then x45 else(if x43<x41 then x43 else x41)))then x49 else(if x47>(if x45>(if x43<x41 then x43 else x41)then x45 else(if x43<x41 then x43 else x41))then x47 else(if x45>(if x43<x41 then x43 else x41)then x45 else(if x43<x41 then x43 else x41))))]<|L.load (.agg [.int .i64,.int .i64]) z17.1 λ(x50:Int×Int×Unit)=>L.store (⟨b3,0,none⟩) [I x50.1,I x50.2.1]<|L.load (.agg [.int .i64,.int .i64]) (⟨b3,0,none⟩) λ(x51:Int×Int×Unit)=>K (.agg #[I x51.1,I x51.2.1])
def NE(p0:HT [.int .i64,.int .i64])(p1:ht0)(p2 p3 p4 p5 p6 p7 p8:Int)(h:md p0 p1 p2 p3 p4 p5 p6 p7 p8 K w):CV KR [.ag [.int .i64 p0.1,.int .i64 p0.2.1],.ag (qc0 p1),.v (.int .i64 p2),.v (.int .i64 p3),.v (.int .i64 p4),.v (.int .i64 p5),.v (.int .i64 p6),.v (.int .i64 p7),.v (.int .i64 p8)] K w:=zC Tryz.f110 NQ _ h
def oA(p0:Option Addr)(K:Value→PT):PT:=
  L.nonnil p0 λa1=>L.load eI6 (a1.add 61) λ(x2:Int)=>K (I x2)
def Pu(p0:Option Addr)(h:oA p0 K w):CV uX [.v (.pointer p0)] K w:=zC Tryz.f111 .auto _ h
def MJ:Ann:=(.q2 (.q2 (.seq (.one [(8,eL6),(10,eI6)] (.seq (.q2 (.cond .auto .auto) none) .auto none)) (.seq (.one [(9,eL6),(10,eI6)] .auto) .auto none) (some [(8,eL6),(10,eI6)])) none) none)
def kS(p0:Option Addr)(p1:B0)(p2 p3:Int)(K:Value→PT):PT:=
  L.call Pr Va [.pointer p0,.string p1] rI λ(x1:Int)=>L.join (Y:=Sl×Int×Unit) (λk2=>L.loop (Y:=Sl×Int×Unit) (⟨none,0,0⟩,x1,()) λy4 again5=>L.draw<|L.ite (decide (y4.2.1<p3)) (L.nonnil p0 λa6=>L.load (.one (.map)) (a6.add 0) λ(x7:Option Nat)=>L.semR Pr rI (Builtin.len_ #[Zf] zx #[.map x7]) λ(x8:Int)=>L.nonnil p0 λa9=>L.load eI6 (a9.add 2) λ(x10:Int)=>L.ite (decide (x8<x10)) (L.nonnil p0 λa11=>L.load eI6 (a11.add 3) λ(x12:Int)=>L.nonnil p0 λa13=>L.store (a13.add 3) [I (Wi (x12+1))]<|L.draw<|L.nonnil p0 λa14=>L.load (.one (.map)) (a14.add 0) λ(x15:Option Nat)=>L.nonnil p0 λa16=>L.load eI6 (a16.add 3) λ(x17:Int)=>L.call Pr cg [I p2] rP λ(x18:Option Addr)=>L.chk (a16.add 3) [I x17]<|L.chk (a14.add 0) [.map x15]<|L.semU Pr (Instr.mapUpdate Zf (.map x15) (I x17) (.agg #[.string p1,.pointer x18]))<|L.nonnil p0 λa19=>L.load eI6 (a19.add 3) λ(x20:Int)=>L.new [I x20] zx λb21=>L.sem Pr (.one (.one .slice)) (Builtin.append_ #[ZS,ZS] ZS #[Sv6 y4.1,.slice (some ⟨b21,0,none⟩) 1 1]) λ(s22:Sl)=>again5 (⟨s22.a,s22.len,s22.cap⟩,Wi (y4.2.1+1),()))<|k2 (⟨y4.1.a,y4.1.len,y4.1.cap⟩,y4.2.1,()))<|k2 (⟨y4.1.a,y4.1.len,y4.1.cap⟩,y4.2.1,())) λz3=>L.loop (Y:=Sl×Int×Unit) (⟨none,0,0⟩,z3.2.1,()) λy23 again24=>L.ite (decide (y23.2.1>(if 0>p3 then 0 else p3))) (L.call Pr uh [.pointer p0,.string p1] rI λ(x25:Int)=>L.nonnil p0 λa26=>L.load (.one (.map)) (a26.add 0) λ(x27:Option Nat)=>L.semR Pr (.one (.agg [.str,.ptr])) (Instr.lookup Zf (.map x27) (I x25) false) λ(x28:B0×Option Addr×Unit)=>L.call Pr kg [.pointer x28.2.1] rI λ(x29:Int)=>L.call Pr xK [.pointer p0,I x25] (.tup []) λ(x30:Unit)=>L.new [I x25] zx λb31=>L.sem Pr (.one (.one .slice)) (Builtin.append_ #[ZS,ZS] ZS #[Sv6 y23.1,.slice (some ⟨b31,0,none⟩) 1 1]) λ(s32:Sl)=>again24 (⟨s32.a,s32.len,s32.cap⟩,Wi (y23.2.1-1),()))<|L.call Pr ZX [Sv6 z3.1] rL λ(x33:Sl)=>L.call Pr ZX [Sv6 y23.1] rL λ(x34:Sl)=>K (.tuple #[Sv6 x33,Sv6 x34])
def MB(p0:Option Addr)(p1:B0)(p2 p3:Int)(h:kS p0 p1 p2 p3 K w):CV ui [.v (.pointer p0),.v (.string p1),.v (.int .i64 p2),.v (.int .i64 p3)] K w:=zC Tryz.f112 MJ _ h
def VT(p0:Option Addr)(p1:B0)(K:Value→PT):PT:=
  L.nonnil p0 λa1=>L.load (.one (.map)) (a1.add 5) λ(x2:Option Nat)=>L.call Pr ji [.map x2,.string p1] (.tup [eP6,eB6]) λ(x3:Option Addr×Bool×Unit)=>L.ite x3.2.1 (L.nonnil x3.1 λa4=>L.load eI6 ((a4.add 1).add 0) λ(x5:Int)=>K (I x5))<|K (I 0)
def mF(p0:Option Addr)(p1:B0)(h:VT p0 p1 K w):CV Qf [.v (.pointer p0),.v (.string p1)] K w:=zC Tryz.f113 .auto _ h
def vk(p0:Int)(K:Value→PT):PT:=
  K (.bool (p0 != 3))
def GQ(p0:Int)(h:vk p0 K w):CV Jz [.v (.int .i64 p0)] K w:=zC Tryz.f114 .auto _ h
def GN:ZN Pr Jz:=zH (by kernel_rfl)
def dX:Ann:=(.q2 (.q2 (.seq (.q2 (.q2 .auto (some [(12,eI6),(13,eI6)])) none) .auto none) none) none)
def fB(p0:Option Addr)(K:Value→PT):PT:=
  L.call Pr qi [.pointer p0] rI λ(x1:Int)=>L.sem Pr (.one (.one .slice)) (Instr.makeSlice ZS (I 0) (I x1)) λ(s2:Sl)=>L.new [.slice none 0 0] ZS λb3=>L.store (⟨b3,0,none⟩) [Sv6 s2]<|L.nonnil p0 λa4=>L.call Pr jq [.pointer (some (a4.add 0))] (.one (.one (.func))) λ(x5:FV)=>L.range Pr none (.func x5.fn x5.fs x5.cs) [eI6,eI6] (λl6(y7:Int×Int×Unit) R8=>L.begin Pr l6<|L.load eL6 (⟨b3,0,none⟩) λ(x11:Sl)=>L.new [I y7.1] zx λb12=>L.sem Pr (.one (.one .slice)) (Builtin.append_ #[ZS,ZS] ZS #[Sv6 x11,.slice (some ⟨b12,0,none⟩) 1 1]) λ(s13:Sl)=>L.store (⟨b3,0,none⟩) [Sv6 s13]<|L.endRound Pr l6 none R8) λd9 j10=>L.jump j10 (L.load eL6 (⟨b3,0,none⟩) λ(x14:Sl)=>L.unmark Pr (d9++[])<|K (.slice x14.a x14.len x14.cap)) (L.unmark Pr (d9++[])<|K (.slice none 0 0)) []
def dM(p0:Option Addr)(h:fB p0 K w):CV uM [.v (.pointer p0)] K w:=zC Tryz.f116 dX _ h
def qd(p0:Sl)(K:Value→PT):PT:=
  L.ite ((p0.a).isNone) (K (.slice none 0 0))<|L.new [] zx λb1=>L.sem Pr (.one (.one .slice)) (Builtin.append_ #[ZS,ZS] ZS #[.slice (some ⟨b1,0,none⟩) 0 0,Sv6 p0]) λ(s2:Sl)=>K (.slice s2.a s2.len s2.cap)
def vx(p0:Sl)(h:qd p0 K w):CV ZX [.v (.slice p0.a p0.len p0.cap)] K w:=zC Tryz.f117 .auto _ h
def pt(p0:Option Addr)(K:Value→PT):PT:=
  L.new [.pointer p0] zL λb1=>L.new [.func (.func xE) #[] #[],.func (.func xD) #[] #[],.func (.func xC) #[] #[.pointer (some (⟨b1,0,none⟩))],.func (.func xB) #[] #[.pointer (some (⟨b1,0,none⟩))]] QZ λb2=>L.new [.slice none 0 0] Zx λb3=>L.store (⟨b3,0,none⟩) [.slice (some ⟨b2,0,none⟩) 4 4]<|K (.func (.func qk) #[] #[.pointer (some (⟨b3,0,none⟩)),.pointer (some (⟨b1,0,none⟩))])
def wC(p0:Option Addr)(h:pt p0 K w):CV MV [.v (.pointer p0)] K w:=zC Tryz.f118 .auto _ h
def ua(p0:Sl)(K:Value→PT):PT:=
  L.new [Sv6 p0] ZI λb1=>K (.func (.func Yc) #[] #[.pointer (some (⟨b1,0,none⟩))])
def oX(p0:Sl)(h:ua p0 K w):CV QW [.v (.slice p0.a p0.len p0.cap)] K w:=zC Tryz.f119 .auto _ h
def Bb:Ann:=(.q2 (.q2 (.seq (.q2 (.q2 .auto (some [(7,eL6)])) none) .auto none) none) none)
def dt(p0:Sl)(K:Value→PT):PT:=
  L.new [.slice none 0 0] ZI λb1=>L.call Pr KS [Sv6 p0] (.one (.one (.func))) λ(x2:FV)=>L.range Pr none (.func x2.fn x2.fs x2.cs) [eL6] (λl3(y4:Sl×Unit) R5=>L.begin Pr l3<|L.load eL6 (⟨b1,0,none⟩) λ(x8:Sl)=>L.new [Sv6 y4.1] jt λb9=>L.sem Pr (.one (.one .slice)) (Builtin.append_ #[ZI,ZI] ZI #[Sv6 x8,.slice (some ⟨b9,0,none⟩) 1 1]) λ(s10:Sl)=>L.store (⟨b1,0,none⟩) [Sv6 s10]<|L.endRound Pr l3 none R5) λd6 j7=>L.jump j7 (L.load eL6 (⟨b1,0,none⟩) λ(x11:Sl)=>L.call Pr xW [Sv6 x11] rL λ(x12:Sl)=>L.unmark Pr (d6++[])<|K (.slice x12.a x12.len x12.cap)) (L.unmark Pr (d6++[])<|K (.slice none 0 0)) []
def bZ(p0:Sl)(h:dt p0 K w):CV FG [.v (.slice p0.a p0.len p0.cap)] K w:=zC Tryz.f120 Bb _ h
def wT:Ann:=(.q2 (.q2 (.q2 (.q2 (.q2 (.q2 (.q2 (.q2 (.q2 (.q2 (.q2 .auto (some [])) (some [])) (some [])) (some [])) (some [])) (some [])) none) none) none) none) none)
def pC(p0:Sl)(K:Value→PT):PT:=
  L.new [I 0,.string s_,.string s_,I 0,I 0,.string s_,I 0,I 0,I 0,I 0,I 0,.string s_,.string s_,.slice none 0 0,I 0] zq λb1=>L.new [Sv6 p0,.bool false] FT λb2=>L.call Pr jH [.pointer (some (⟨b2,0,none⟩)),I 1] rI λ(x3:Int)=>L.new [I 0,.string s_,.string s_,I 0,I 0,.string s_,I 0,I 0,I 0,I 0,I 0,.string s_,.string s_,.slice none 0 0,I 0] zq λb4=>L.store (⟨b4,0,none⟩) [I x3,.string s_,.string s_,I 0,I 0,.string s_,I 0,I 0,I 0,I 0,I 0,.string s_,.string s_,.slice none 0 0,I 0]<|L.load eI6 (Ad6 b4 0) λ(x5:Int)=>L.call Pr Vx [I x5] (.tup [(.agg lf5),eB6]) λ(x6:pt2)=>L.new [.bool false,.bool false,.bool false,.bool false,.bool false,.bool false] JN λb7=>L.store (⟨b7,0,none⟩) [.bool x6.1.1,.bool x6.1.2.1,.bool x6.1.2.2.1,.bool x6.1.2.2.2.1,.bool x6.1.2.2.2.2.1,.bool x6.1.2.2.2.2.2.1]<|L.nonnil (some (⟨b2,0,none⟩)) λa8=>L.load eB6 (a8.add 1) λ(x9:Bool)=>L.ite x9 (L.store (⟨b1,0,none⟩) [I 0,.string s_,.string s_,I 0,I 0,.string s_,I 0,I 0,I 0,I 0,I 0,.string s_,.string s_,.slice none 0 0,I 0]<|L.load (.agg lf1) (⟨b1,0,none⟩) λ(x10:pt1)=>K (.tuple #[(qa1 x10),I 10]))<|L.ite (!x6.2.1) (L.store (⟨b1,0,none⟩) [I 0,.string s_,.string s_,I 0,I 0,.string s_,I 0,I 0,I 0,I 0,I 0,.string s_,.string s_,.slice none 0 0,I 0]<|L.load (.agg lf1) (⟨b1,0,none⟩) λ(x11:pt1)=>K (.tuple #[(qa1 x11),I 12]))<|L.join (Y:=Unit) (λk12=>L.load eB6 (Ad6 b7 0) λ(x14:Bool)=>L.ite x14 (L.call Pr jH [.pointer (some (⟨b2,0,none⟩)),I 4] rI λ(x15:Int)=>L.store (Ad6 b4 3) [I x15]<|k12 (()))<|k12 (())) λz13=>L.join (Y:=Unit) (λk16=>L.load eB6 (Ad6 b7 1) λ(x18:Bool)=>L.ite x18 (L.call Pr kF [.pointer (some (⟨b2,0,none⟩))] rS λ(x19:B0)=>L.store (Ad6 b4 1) [.string x19]<|k16 (()))<|k16 (())) λz17=>L.join (Y:=Unit) (λk20=>L.load eB6 (Ad6 b7 2) λ(x22:Bool)=>L.ite x22 (L.call Pr kF [.pointer (some (⟨b2,0,none⟩))] rS λ(x23:B0)=>L.store (Ad6 b4 2) [.string x23]<|k20 (()))<|k20 (())) λz21=>L.join (Y:=Unit) (λk24=>L.load eB6 (Ad6 b7 3) λ(x26:Bool)=>L.ite x26 (L.call Pr jH [.pointer (some (⟨b2,0,none⟩)),I 4] rI λ(x27:Int)=>L.store (Ad6 b4 4) [I x27]<|k24 (()))<|k24 (())) λz25=>L.join (Y:=Unit) (λk28=>L.load eB6 (Ad6 b7 4) λ(x30:Bool)=>L.ite x30 (L.call Pr fN [.pointer (some (⟨b2,0,none⟩))] (.one (.agg lf0)) λ(x31:pt0)=>L.store (Ad6 b4 5) [.string x31.1,I x31.2.1,I x31.2.2.1,I x31.2.2.2.1,I x31.2.2.2.2.1,I x31.2.2.2.2.2.1]<|k28 (()))<|k28 (())) λz29=>L.join (Y:=Unit) (λk32=>L.load eB6 (Ad6 b7 5) λ(x34:Bool)=>L.ite x34 (L.call Pr FF [.pointer (some (⟨b2,0,none⟩))] (.one (.agg [.str,.str,.slice,.int .i64])) λ(x35:pt3)=>L.store (Ad6 b4 11) [.string x35.1,.string x35.2.1,Sv6 x35.2.2.1,I x35.2.2.2.1]<|k32 (()))<|k32 (())) λz33=>L.nonnil (some (⟨b2,0,none⟩)) λa36=>L.load eB6 (a36.add 1) λ(x37:Bool)=>L.ite x37 (L.store (⟨b1,0,none⟩) [I 0,.string s_,.string s_,I 0,I 0,.string s_,I 0,I 0,I 0,I 0,I 0,.string s_,.string s_,.slice none 0 0,I 0]<|L.load (.agg lf1) (⟨b1,0,none⟩) λ(x38:pt1)=>K (.tuple #[(qa1 x38),I 10]))<|L.nonnil (some (⟨b2,0,none⟩)) λa39=>L.load eL6 (a39.add 0) λ(x40:Sl)=>L.ite (decide (((x40.len:Nat):Int)>0)) (L.store (⟨b1,0,none⟩) [I 0,.string s_,.string s_,I 0,I 0,.string s_,I 0,I 0,I 0,I 0,I 0,.string s_,.string s_,.slice none 0 0,I 0]<|L.load (.agg lf1) (⟨b1,0,none⟩) λ(x41:pt1)=>K (.tuple #[(qa1 x41),I 11]))<|L.load (.agg lf1) (⟨b4,0,none⟩) λ(x42:pt1)=>L.call Pr Vz [(qa1 x42)] rI λ(x43:Int)=>L.ite (x43 != 0) (L.store (⟨b1,0,none⟩) [I 0,.string s_,.string s_,I 0,I 0,.string s_,I 0,I 0,I 0,I 0,I 0,.string s_,.string s_,.slice none 0 0,I 0]<|L.load (.agg lf1) (⟨b1,0,none⟩) λ(x44:pt1)=>K (.tuple #[(qa1 x44),I x43]))<|L.load (.agg lf1) (⟨b4,0,none⟩) λ(x45:pt1)=>L.store (⟨b1,0,none⟩) [I x45.1,.string x45.2.1,.string x45.2.2.1,I x45.2.2.2.1,I x45.2.2.2.2.1,.string x45.2.2.2.2.2.1,I x45.2.2.2.2.2.2.1,I x45.2.2.2.2.2.2.2.1,I x45.2.2.2.2.2.2.2.2.1,I x45.2.2.2.2.2.2.2.2.2.1,I x45.2.2.2.2.2.2.2.2.2.2.1,.string x45.2.2.2.2.2.2.2.2.2.2.2.1,.string x45.2.2.2.2.2.2.2.2.2.2.2.2.1,Sv6 x45.2.2.2.2.2.2.2.2.2.2.2.2.2.1,I x45.2.2.2.2.2.2.2.2.2.2.2.2.2.2.1]<|L.load (.agg lf1) (⟨b1,0,none⟩) λ(x46:pt1)=>K (.tuple #[(qa1 x46),I 0])
def wG(p0:Sl)(h:pC p0 K w):CV OQ [.v (.slice p0.a p0.len p0.cap)] K w:=zC Tryz.f121 wT _ h
def uo(c0:Addr)(c1:Addr)(K:Value→PT):PT:=
  L.draw<|L.load eP6 c0 λ(x1:Option Addr)=>L.load eP6 c0 λ(x2:Option Addr)=>L.nonnil x2 λa3=>L.load eL6 (a3.add 0) λ(x4:Sl)=>L.load eL6 c1 λ(x5:Sl)=>L.sem Pr (.one (.one .slice)) (Builtin.append_ #[zj,zj] zj #[Sv6 x4,Sv6 x5]) λ(s6:Sl)=>L.chk c0 [.pointer x1]<|L.nonnil x1 λa7=>L.store (a7.add 0) [Sv6 s6]<|K (.tuple #[])
def Mr:ZN Pr Mn:=zH (by kernel_rfl)
def OV(p0:B0)(K:Value→PT):PT:=
  L.call Pr kE [.string p0,.string Qa] rI λ(x1:Int)=>L.ite (decide (x1<0)) (K (.tuple #[.string s_,I 0,.bool false]))<|L.guard ((0:Int)≤(Wi (x1+1))∧(Wi (x1+1))≤(p0.size:Int)∧(p0.size:Int)≤p0.size)<|L.call Pr FA [.string (p0.extract (Int.toNat (Wi (x1+1))) (Int.toNat (p0.size:Int)))] (.tup [eI6,(.one (.iface))]) λ(x2:z5V)=>L.ite (!(x2.2.1).isNone) (K (.tuple #[.string s_,I 0,.bool false]))<|L.guard ((0:Int)≤(0:Int)∧(0:Int)≤x1∧x1≤p0.size)<|L.call Pr Og [.string (p0.extract (Int.toNat 0) (Int.toNat x1)),I x2.1] rS λ(x3:B0)=>L.ite (!(x3.toList == p0.toList)) (K (.tuple #[.string s_,I 0,.bool false]))<|L.guard ((0:Int)≤(0:Int)∧(0:Int)≤x1∧x1≤p0.size)<|K (.tuple #[.string (p0.extract (Int.toNat 0) (Int.toNat x1)),I x2.1,.bool true])
def pE(p0:B0)(h:OV p0 K w):CV xX [.v (.string p0)] K w:=zC Tryz.f123 .auto _ h
def wR:Ann:=(.q2 (.q2 (.seq (.q2 (.one [(5,(.one (.int .i32)))] (.q2 (.seq (.cond .auto .auto) (.q2 (.seq (.q2 (.cond .auto .auto) none) .auto (some [])) none) none) none)) none) .auto none) none) none)
def pr(p0:B0)(p1:Int)(K:Value→PT):PT:=
  L.sem Pr (.one (.one .ptr)) (Instr.range zc (.string p0)) λ(it1:Option Addr)=>L.loop (Y:=Int×Unit) (45,()) λy2 again3=>L.next Pr [eI6,(.one (.int .i32))] (Instr.next (.pointer it1) true T_) (L.ite (y2.1 != 45) (K (.bool (decide ((p0.size:Int)≤p1))))<|K (.bool false)) λ(x4:Int×Int×Unit)=>L.join (Y:=Unit) (λk5=>L.call Pr GB [.int .i32 x4.2.1] rB λ(x7:Bool)=>L.ite (!x7) (K (.bool false))<|L.ite (x4.1 == 0) (L.call Pr UY [.int .i32 x4.2.1] rB λ(x8:Bool)=>L.ite (!x8) (K (.bool false))<|k5 (()))<|k5 (())) λz6=>again3 (x4.2.1,())
def wB(p0:B0)(p1:Int)(h:pr p0 p1 K w):CV Vw [.v (.string p0),.v (.int .i64 p1)] K w:=zC Tryz.f124 wR _ h
def NP:Ann:=(.q2 (.one [(8,eI6)] .auto) none)
def FZ(p0:FV)(c0:Addr)(K:Value→PT):PT:=
  L.load eL6 (c0.add 0) λ(x1:Sl)=>L.loop (Y:=Int×Unit) (0,()) λy2 again3=>L.ite (decide (y2.1<((x1.len:Nat):Int))) (L.idx x1.a y2.1 x1.len 2 λa4=>L.load (.agg [.str,.int .i64]) a4 λ(x5:B0×Int×Unit)=>L.new [.string s_,I 0] zW λb6=>L.store (⟨b6,0,none⟩) [.string x5.1,I x5.2.1]<|L.load eS6 (Ad6 b6 0) λ(x7:B0)=>L.callV Pr (.func p0.fn p0.fs p0.cs) [.string x7] rB λ(x8:Bool)=>L.ite (!x8) (K (.tuple #[]))<|again3 (Wi (y2.1+1),()))<|K (.tuple #[])
def NB(p0:FV)(c0:Addr)(h:FZ p0 c0 K w):CV Qd [.v (.func p0.fn p0.fs p0.cs),.v (.pointer (some c0))] K w:=zC Tryz.f125 NP _ h
def Nw:ZN Pr Qd:=zH (by kernel_rfl)
def NN:Ann:=(.q2 (.one [(8,eI6)] .auto) none)
def FX(p0:FV)(c0:Addr)(K:Value→PT):PT:=
  L.load eL6 (c0.add 1) λ(x1:Sl)=>L.loop (Y:=Int×Unit) (0,()) λy2 again3=>L.ite (decide (y2.1<((x1.len:Nat):Int))) (L.idx x1.a y2.1 x1.len 2 λa4=>L.load (.agg [.str,.str]) a4 λ(x5:B0×B0×Unit)=>L.new [.string s_,.string s_] jy λb6=>L.store (⟨b6,0,none⟩) [.string x5.1,.string x5.2.1]<|L.load eS6 (Ad6 b6 0) λ(x7:B0)=>L.callV Pr (.func p0.fn p0.fs p0.cs) [.string x7] rB λ(x8:Bool)=>L.ite (!x8) (K (.tuple #[]))<|again3 (Wi (y2.1+1),()))<|K (.tuple #[])
def Nz(p0:FV)(c0:Addr)(h:FX p0 c0 K w):CV Qc [.v (.func p0.fn p0.fs p0.cs),.v (.pointer (some c0))] K w:=zC Tryz.f126 NN _ h
def Nv:ZN Pr Qc:=zH (by kernel_rfl)
def jo:Ann:=(.q2 (.q2 (.seq (.q2 (.one [(17,eI6)] .auto) none) .auto none) none) none)
def yo(p0 p1:Sl)(p2:FV)(K:Value→PT):PT:=
  L.ite (((p0.len:Nat):Int) != ((p1.len:Nat):Int)) (K (.bool false))<|L.loop (Y:=Int×Unit) (0,()) λy1 again2=>L.ite (decide (y1.1<((p0.len:Nat):Int))) (L.idx p0.a y1.1 p0.len 3 λa3=>L.load (.agg [.str,.str,.int .i64]) a3 λ(x4:pt9)=>L.new [.string s_,.string s_,I 0] zG λb5=>L.store (⟨b5,0,none⟩) [.string x4.1,.string x4.2.1,I x4.2.2.1]<|L.idx p1.a y1.1 p1.len 3 λa6=>L.load (.agg [.str,.str,.int .i64]) a6 λ(x7:pt9)=>L.new [.string s_,.string s_,I 0] zG λb8=>L.store (⟨b8,0,none⟩) [.string x7.1,.string x7.2.1,I x7.2.2.1]<|L.load (.agg [.str,.str,.int .i64]) (⟨b5,0,none⟩) λ(x9:pt9)=>L.load (.agg [.str,.str,.int .i64]) (⟨b8,0,none⟩) λ(x10:pt9)=>L.callV Pr (.func p2.fn p2.fs p2.cs) [.agg #[.string x9.1,.string x9.2.1,I x9.2.2.1],.agg #[.string x10.1,.string x10.2.1,I x10.2.2.1]] rB λ(x11:Bool)=>L.ite (!x11) (K (.bool false))<|again2 (Wi (y1.1+1),()))<|K (.bool true)
def jn(p0 p1:Sl)(p2:FV)(h:yo p0 p1 p2 K w):CV ZD [.v (.slice p0.a p0.len p0.cap),.v (.slice p1.a p1.len p1.cap),.v (.func p2.fn p2.fs p2.cs)] K w:=zC Tryz.f127 jo _ h
def dh(p0 p1:HT [.str,.str,.int .i64])(K:Value→PT):PT:=
  L.new [.string p0.1,.string p0.2.1,I p0.2.2.1] zG λb1=>L.new [.string p1.1,.string p1.2.1,I p1.2.2.1] zG λb2=>L.load (.agg [.str,.str,.int .i64]) (⟨b1,0,none⟩) λ(x3:pt9)=>L.load (.agg [.str,.str,.int .i64]) (⟨b2,0,none⟩) λ(x4:pt9)=>L.chkSem Pr (do eqGuard .eql zG (.tmp 0) (.tmp 0) (.agg #[.string x3.1,.string x3.2.1,I x3.2.2.1]) (.agg #[.string x4.1,.string x4.2.1,I x4.2.2.1]);binOp .eql zG (.agg #[.string x3.1,.string x3.2.1,I x3.2.2.1]) (.agg #[.string x4.1,.string x4.2.1,I x4.2.2.1])) (.bool ((x3.1 == x4.1)&&((x3.2.1 == x4.2.1)&&((x3.2.2.1 == x4.2.2.1)&&true))))<|K (.bool ((x3.1 == x4.1)&&((x3.2.1 == x4.2.1)&&((x3.2.2.1 == x4.2.2.1)&&true))))
def bS(p0 p1:HT [.str,.str,.int .i64])(h:dh p0 p1 K w):CV VI [.ag [.string p0.1,.string p0.2.1,.int .i64 p0.2.2.1],.ag [.string p1.1,.string p1.2.1,.int .i64 p1.2.2.1]] K w:=zC Tryz.f128 .auto _ h
def bQ:ZN Pr VI:=zH (by kernel_rfl)
def Tt(p0:B0)(K:Value→PT):PT:=
  L.call Pr Vw [.string p0,I 16] rB λ(x1:Bool)=>K (.bool x1)
def LQ(p0:B0)(h:Tt p0 K w):CV XT [.v (.string p0)] K w:=zC Tryz.f129 .auto _ h
def ku(p0:HT [.int .i64,.int .i64])(p1:Int)(K:Value→PT):PT:=
  L.new [I p0.1,I p0.2.1] CY λb1=>L.load eI6 (Ad6 b1 0) λ(x2:Int)=>L.ite (decide (p1≥x2)) (L.load eI6 (Ad6 b1 1) λ(x3:Int)=>K (.bool (decide (p1≤x3))))<|K (.bool false)
def fL(p0:HT [.int .i64,.int .i64])(p1:Int)(h:ku p0 p1 K w):CV yu [.ag [.int .i64 p0.1,.int .i64 p0.2.1],.v (.int .i64 p1)] K w:=zC Tryz.f130 .auto _ h
def dD:ZN Pr yu:=zH (by kernel_rfl)
def wN:Ann:=(.q2 (.q2 (.q2 (.seq (.seq (.q2 (.cond .auto .auto) none) .auto (some [(16,eB6)])) .auto none) none) none) none)
def ph(p0:HT [.str,.str,.int .i64])(K:Value→PT):PT:=
  L.new [.string p0.1,.string p0.2.1,I p0.2.2.1] zG λb1=>L.load eS6 (Ad6 b1 0) λ(x2:B0)=>L.call Pr xX [.string x2] (.tup [eS6,eI6,eB6]) λ(x3:B0×Int×Bool×Unit)=>L.join (Y:=Bool×Unit) (λk4=>L.load eS6 (Ad6 b1 0) λ(x6:B0)=>L.ite (!(x6.toList == s_.toList)) (L.ite (!x3.2.2.1) (k4 (!x3.2.2.1,()))<|L.load eS6 (Ad6 b1 1) λ(x7:B0)=>L.ite (!(x7.toList == s_.toList)) (L.load eS6 (Ad6 b1 1) λ(x8:B0)=>L.call Pr JK [.string x8] rB λ(x9:Bool)=>k4 (!x9,()))<|k4 (false,()))<|L.load eS6 (Ad6 b1 1) λ(x10:B0)=>L.ite (!(x10.toList == s_.toList)) (L.load eS6 (Ad6 b1 1) λ(x11:B0)=>L.call Pr JK [.string x11] rB λ(x12:Bool)=>k4 (!x12,()))<|k4 (false,())) λz5=>L.ite z5.1 (K (I 1))<|L.load eI6 (Ad6 b1 2) λ(x13:Int)=>L.callV Pr (.func (.func yu) #[.agg #[I 0,I 100]] #[]) [I x13] rB λ(x14:Bool)=>L.ite (!x14) (K (I 2))<|K (I 0)
def wo(p0:HT [.str,.str,.int .i64])(h:ph p0 K w):CV OL [.ag [.string p0.1,.string p0.2.1,.int .i64 p0.2.2.1]] K w:=zC Tryz.f131 wN _ h
def Ae:Ann:=(.q2 (.q2 (.seq (.q2 (.one [(3,eI6),(8,eI6)] (.q2 (.q2 (.seq (.q2 (.q2 (.q2 (.cond .auto .auto) none) none) none) .auto (some [(3,eI6)])) none) none)) none) .auto none) none) none)
def Nl(p0:Sl)(K:Value→PT):PT:=
  L.loop (Y:=Int×Int×Unit) (0,0,()) λy1 again2=>L.ite (decide (y1.2.1<((p0.len:Nat):Int))) (L.join (Y:=Int×Unit) (λk3=>L.idx p0.a y1.2.1 p0.len 3 λa5=>L.load (.agg [.str,.str,.int .i64]) a5 λ(x6:pt9)=>L.new [.string s_,.string s_,I 0] zG λb7=>L.store (⟨b7,0,none⟩) [.string x6.1,.string x6.2.1,I x6.2.2.1]<|L.load eI6 (Ad6 b7 2) λ(x8:Int)=>L.load eS6 (Ad6 b7 1) λ(x9:B0)=>L.ite (!(x9.toList == s_.toList)) (L.guard (0≤(0:Int)∧(0:Int)≤y1.2.1∧y1.2.1≤((p0.cap:Nat):Int)∧((p0.cap:Nat):Int)≤p0.cap)<|L.call Pr yF [.slice (if Int.toNat ((p0.cap:Nat):Int)=Int.toNat (0:Int)then p0.a else Option.map (λa:Addr=>a.add (Int.toNat (0:Int)*3)) p0.a) (Int.toNat y1.2.1-Int.toNat (0:Int)) (Int.toNat ((p0.cap:Nat):Int)-Int.toNat (0:Int)),.func (.func QK) #[] #[.pointer (some (⟨b7,0,none⟩))]] rB λ(x10:Bool)=>L.ite x10 (K (I 5))<|k3 (Wi (y1.1+x8),()))<|k3 (Wi (y1.1+x8),())) λz4=>again2 (z4.1,Wi (y1.2.1+1),()))<|L.ite (y1.1 != 100) (K (I 4))<|K (I 0)
def aV(p0:Sl)(h:Nl p0 K w):CV pM [.v (.slice p0.a p0.len p0.cap)] K w:=zC Tryz.f132 Ae _ h
def KA:Ann:=(.q2 (.q2 (.seq (.q2 (.cond .auto (.q2 (.cond .auto .auto) none)) none) .auto (some [])) none) none)
def qS(p0:Option Addr)(p1:B0)(p2:Int)(p3:Bool)(K:Value→PT):PT:=
  L.nonnil p0 λa1=>L.load (.one (.map)) (a1.add 0) λ(x2:Option Nat)=>L.semR Pr (.one (.agg RF)) (Instr.lookup Zl (.map x2) (.string p1) false) λ(x3:Sm)=>L.new [.string s_,I 0,I 0,I 0,I 0,I 0,I 0,I 0,.bool false] zS λb4=>L.store (⟨b4,0,none⟩) [.string x3.1,I x3.2.1,I x3.2.2.1,I x3.2.2.2.1,I x3.2.2.2.2.1,I x3.2.2.2.2.2.1,I x3.2.2.2.2.2.2.1,I x3.2.2.2.2.2.2.2.1,.bool x3.2.2.2.2.2.2.2.2.1]<|L.join (Y:=Unit) (λk5=>L.ite p3 (L.ite (p2 == 0) (L.load eB6 (Ad6 b4 8) λ(x7:Bool)=>L.ite x7 (K (I 5))<|L.ite p3 (L.ite (p2 == 0) (K (I 0))<|L.load eB6 (Ad6 b4 8) λ(x8:Bool)=>L.ite (!x8) (K (I 6))<|L.load eI6 (Ad6 b4 6) λ(x9:Int)=>L.ite (x9 != p2) (K (I 7))<|k5 (()))<|L.load eB6 (Ad6 b4 8) λ(x10:Bool)=>L.ite (!x10) (K (I 6))<|L.load eI6 (Ad6 b4 6) λ(x11:Int)=>L.ite (x11 != p2) (K (I 7))<|k5 (()))<|L.ite p3 (L.ite (p2 == 0) (K (I 0))<|L.load eB6 (Ad6 b4 8) λ(x12:Bool)=>L.ite (!x12) (K (I 6))<|L.load eI6 (Ad6 b4 6) λ(x13:Int)=>L.ite (x13 != p2) (K (I 7))<|k5 (()))<|L.load eB6 (Ad6 b4 8) λ(x14:Bool)=>L.ite (!x14) (K (I 6))<|L.load eI6 (Ad6 b4 6) λ(x15:Int)=>L.ite (x15 != p2) (K (I 7))<|k5 (()))<|L.ite p3 (L.ite (p2 == 0) (K (I 0))<|L.load eB6 (Ad6 b4 8) λ(x16:Bool)=>L.ite (!x16) (K (I 6))<|L.load eI6 (Ad6 b4 6) λ(x17:Int)=>L.ite (x17 != p2) (K (I 7))<|k5 (()))<|L.load eB6 (Ad6 b4 8) λ(x18:Bool)=>L.ite (!x18) (K (I 6))<|L.load eI6 (Ad6 b4 6) λ(x19:Int)=>L.ite (x19 != p2) (K (I 7))<|k5 (())) λz6=>K (I 0)
def Ku(p0:Option Addr)(p1:B0)(p2:Int)(p3:Bool)(h:qS p0 p1 p2 p3 K w):CV JD [.v (.pointer p0),.v (.string p1),.v (.int .i64 p2),.v (.bool p3)] K w:=zC Tryz.f137 KA _ h
def Kz:Ann:=(.q2 (.q2 (.q2 .auto (some [])) none) none)
def qR(p0:Option Addr)(p1:B0)(p2:ht0)(p3:Int)(K:Value→PT):PT:=
  L.new [.string p2.1,I p2.2.1,I p2.2.2.1,I p2.2.2.2.1,I p2.2.2.2.2.1,I p2.2.2.2.2.2.1] zA λb1=>L.nonnil p0 λa2=>L.load (.one (.map)) (a2.add 0) λ(x3:Option Nat)=>L.semR Pr (.one (.agg RF)) (Instr.lookup Zl (.map x3) (.string p1) false) λ(x4:Sm)=>L.new [.string s_,I 0,I 0,I 0,I 0,I 0,I 0,I 0,.bool false] zS λb5=>L.store (⟨b5,0,none⟩) [.string x4.1,I x4.2.1,I x4.2.2.1,I x4.2.2.2.1,I x4.2.2.2.2.1,I x4.2.2.2.2.2.1,I x4.2.2.2.2.2.2.1,I x4.2.2.2.2.2.2.2.1,.bool x4.2.2.2.2.2.2.2.2.1]<|L.join (Y:=Unit) (λk6=>L.draw<|L.load eB6 (Ad6 b5 8) λ(x8:Bool)=>L.ite (!x8) (L.load eI6 (Ad6 b5 7) λ(x9:Int)=>L.store (Ad6 b5 7) [I (Wi (x9+1))]<|k6 (()))<|L.nonnil p0 λa10=>L.load (.one (.func)) (a10.add 1) λ(x11:FV)=>L.load (.agg lf0) (Ad6 b5 0) λ(x12:pt0)=>L.load (.agg lf0) (⟨b1,0,none⟩) λ(x13:pt0)=>L.callV Pr (.func x11.fn x11.fs x11.cs) [(qa0 x12),(qa0 x13)] rB λ(x14:Bool)=>L.ite (!x14) (L.load eI6 (Ad6 b5 7) λ(x15:Int)=>L.store (Ad6 b5 7) [I (Wi (x15+1))]<|k6 (()))<|k6 (())) λz7=>L.draw<|L.nonnil p0 λa16=>L.load (.one (.map)) (a16.add 0) λ(x17:Option Nat)=>L.load (.agg lf0) (⟨b1,0,none⟩) λ(x18:pt0)=>L.load eI6 (Ad6 b5 7) λ(x19:Int)=>L.semU Pr (Instr.mapUpdate Zl (.map x17) (.string p1) (.agg #[.string x18.1,I x18.2.1,I x18.2.2.1,I x18.2.2.2.1,I x18.2.2.2.2.1,I x18.2.2.2.2.2.1,I p3,I x19,.bool true]))<|K (.tuple #[])
def Kt(p0:Option Addr)(p1:B0)(p2:ht0)(p3:Int)(h:qR p0 p1 p2 p3 K w):CV JC [.v (.pointer p0),.v (.string p1),.ag (qc0 p2),.v (.int .i64 p3)] K w:=zC Tryz.f138 Kz _ h
def oU:Ann:=(.q2 (.q2 (.seq (.q2 (.cond .auto (.q2 (.cond .auto .auto) none)) none) .auto (some [])) none) none)
def Qy(p0:Option Addr)(p1:B0)(p2:Int)(p3:Bool)(K:Value→PT):PT:=
  L.nonnil p0 λa1=>L.load (.one (.map)) (a1.add 0) λ(x2:Option Nat)=>L.semR Pr (.one (.agg RE)) (Instr.lookup Zr (.map x2) (.string p1) false) λ(x3:Sk)=>L.new [.string s_,.string s_,.slice none 0 0,I 0,I 0,I 0,.bool false] zY λb4=>L.store (⟨b4,0,none⟩) [.string x3.1,.string x3.2.1,Sv6 x3.2.2.1,I x3.2.2.2.1,I x3.2.2.2.2.1,I x3.2.2.2.2.2.1,.bool x3.2.2.2.2.2.2.1]<|L.join (Y:=Unit) (λk5=>L.ite p3 (L.ite (p2 == 0) (L.load eB6 (Ad6 b4 6) λ(x7:Bool)=>L.ite x7 (K (I 5))<|L.ite p3 (L.ite (p2 == 0) (K (I 0))<|L.load eB6 (Ad6 b4 6) λ(x8:Bool)=>L.ite (!x8) (K (I 6))<|L.load eI6 (Ad6 b4 4) λ(x9:Int)=>L.ite (x9 != p2) (K (I 7))<|k5 (()))<|L.load eB6 (Ad6 b4 6) λ(x10:Bool)=>L.ite (!x10) (K (I 6))<|L.load eI6 (Ad6 b4 4) λ(x11:Int)=>L.ite (x11 != p2) (K (I 7))<|k5 (()))<|L.ite p3 (L.ite (p2 == 0) (K (I 0))<|L.load eB6 (Ad6 b4 6) λ(x12:Bool)=>L.ite (!x12) (K (I 6))<|L.load eI6 (Ad6 b4 4) λ(x13:Int)=>L.ite (x13 != p2) (K (I 7))<|k5 (()))<|L.load eB6 (Ad6 b4 6) λ(x14:Bool)=>L.ite (!x14) (K (I 6))<|L.load eI6 (Ad6 b4 4) λ(x15:Int)=>L.ite (x15 != p2) (K (I 7))<|k5 (()))<|L.ite p3 (L.ite (p2 == 0) (K (I 0))<|L.load eB6 (Ad6 b4 6) λ(x16:Bool)=>L.ite (!x16) (K (I 6))<|L.load eI6 (Ad6 b4 4) λ(x17:Int)=>L.ite (x17 != p2) (K (I 7))<|k5 (()))<|L.load eB6 (Ad6 b4 6) λ(x18:Bool)=>L.ite (!x18) (K (I 6))<|L.load eI6 (Ad6 b4 4) λ(x19:Int)=>L.ite (x19 != p2) (K (I 7))<|k5 (())) λz6=>K (I 0)
def oO(p0:Option Addr)(p1:B0)(p2:Int)(p3:Bool)(h:Qy p0 p1 p2 p3 K w):CV xd [.v (.pointer p0),.v (.string p1),.v (.int .i64 p2),.v (.bool p3)] K w:=zC Tryz.f139 oU _ h
def oT:Ann:=(.q2 (.q2 (.q2 .auto (some [])) none) none)
def Qx(p0:Option Addr)(p1:B0)(p2:ht2)(p3:Int)(K:Value→PT):PT:=
  L.new [.string p2.1,.string p2.2.1,Sv6 p2.2.2.1,I p2.2.2.2.1] Zb λb1=>L.nonnil p0 λa2=>L.load (.one (.map)) (a2.add 0) λ(x3:Option Nat)=>L.semR Pr (.one (.agg RE)) (Instr.lookup Zr (.map x3) (.string p1) false) λ(x4:Sk)=>L.new [.string s_,.string s_,.slice none 0 0,I 0,I 0,I 0,.bool false] zY λb5=>L.store (⟨b5,0,none⟩) [.string x4.1,.string x4.2.1,Sv6 x4.2.2.1,I x4.2.2.2.1,I x4.2.2.2.2.1,I x4.2.2.2.2.2.1,.bool x4.2.2.2.2.2.2.1]<|L.join (Y:=Unit) (λk6=>L.draw<|L.load eB6 (Ad6 b5 6) λ(x8:Bool)=>L.ite (!x8) (L.load eI6 (Ad6 b5 5) λ(x9:Int)=>L.store (Ad6 b5 5) [I (Wi (x9+1))]<|k6 (()))<|L.nonnil p0 λa10=>L.load (.one (.func)) (a10.add 1) λ(x11:FV)=>L.load (.agg [.str,.str,.slice,.int .i64]) (Ad6 b5 0) λ(x12:pt3)=>L.load (.agg [.str,.str,.slice,.int .i64]) (⟨b1,0,none⟩) λ(x13:pt3)=>L.callV Pr (.func x11.fn x11.fs x11.cs) [.agg #[.string x12.1,.string x12.2.1,Sv6 x12.2.2.1,I x12.2.2.2.1],.agg #[.string x13.1,.string x13.2.1,Sv6 x13.2.2.1,I x13.2.2.2.1]] rB λ(x14:Bool)=>L.ite (!x14) (L.load eI6 (Ad6 b5 5) λ(x15:Int)=>L.store (Ad6 b5 5) [I (Wi (x15+1))]<|k6 (()))<|k6 (())) λz7=>L.draw<|L.nonnil p0 λa16=>L.load (.one (.map)) (a16.add 0) λ(x17:Option Nat)=>L.load (.agg [.str,.str,.slice,.int .i64]) (⟨b1,0,none⟩) λ(x18:pt3)=>L.load eI6 (Ad6 b5 5) λ(x19:Int)=>L.semU Pr (Instr.mapUpdate Zr (.map x17) (.string p1) (.agg #[.string x18.1,.string x18.2.1,Sv6 x18.2.2.1,I x18.2.2.2.1,I p3,I x19,.bool true]))<|K (.tuple #[])
def oN(p0:Option Addr)(p1:B0)(p2:ht2)(p3:Int)(h:Qx p0 p1 p2 p3 K w):CV xc [.v (.pointer p0),.v (.string p1),.ag (qc2 p2),.v (.int .i64 p3)] K w:=zC Tryz.f140 oT _ h
def di(p0:ht2)(K:Value→PT):PT:=
  L.new [.string p0.1,.string p0.2.1,Sv6 p0.2.2.1,I p0.2.2.2.1] Zb λb1=>L.new [.string s_,.string s_,.slice none 0 0,I 0] Zb λb2=>L.load eL6 (Ad6 b1 2) λ(x3:Sl)=>L.call Pr Yx [Sv6 x3] rL λ(x4:Sl)=>L.store (Ad6 b1 2) [Sv6 x4]<|L.load (.agg [.str,.str,.slice,.int .i64]) (⟨b1,0,none⟩) λ(x5:pt3)=>L.store (⟨b2,0,none⟩) [.string x5.1,.string x5.2.1,Sv6 x5.2.2.1,I x5.2.2.2.1]<|L.load (.agg [.str,.str,.slice,.int .i64]) (⟨b2,0,none⟩) λ(x6:pt3)=>K (.agg #[.string x6.1,.string x6.2.1,Sv6 x6.2.2.1,I x6.2.2.2.1])
def bT(p0:ht2)(h:di p0 K w):CV Oe [.ag (qc2 p0)] K w:=zC Tryz.f141 .auto _ h
def vG(p0:Option Addr)(p1:B0)(K:Value→PT):PT:=
  L.new [.slice none 0 0,.slice none 0 0] zp λb1=>L.nonnil p0 λa2=>L.load eP6 (a2.add 2) λ(x3:Option Addr)=>L.call Pr ug [.pointer x3,.string p1] (.tup [(.agg [.slice,.slice]),eB6]) λ(x4:(Sl×Sl×Unit)×Bool×Unit)=>L.store (⟨b1,0,none⟩) [Sv6 x4.1.1,Sv6 x4.1.2.1]<|L.load (.agg [.slice,.slice]) (⟨b1,0,none⟩) λ(x5:Sl×Sl×Unit)=>K (.tuple #[.agg #[Sv6 x5.1,Sv6 x5.2.1],.bool x4.2.1])
def Fb(p0:Option Addr)(p1:B0)(h:vG p0 p1 K w):CV vA [.v (.pointer p0),.v (.string p1)] K w:=zC Tryz.f144 .auto _ h
def LX:Ann:=(.q2 (.q2 (.seq (.q2 (.one [(1,eI6),(14,eI6)] .auto) none) .auto none) none) none)
def Tj(p0:HT [.slice,.slice])(p1:Int)(K:Value→PT):PT:=
  L.new [Sv6 p0.1,Sv6 p0.2.1] zp λb1=>L.guard (100≠(0:Int))<|L.guard (100≠(0:Int))<|L.load eL6 (Ad6 b1 0) λ(x2:Sl)=>L.loop (Y:=Int×Int×Unit) (Int.tmod (Wi ((Int.tmod p1 100)+100)) 100,0,()) λy3 again4=>L.ite (decide (y3.2.1<((x2.len:Nat):Int))) (L.idx x2.a y3.2.1 x2.len 2 λa5=>L.load (.agg [.str,.int .i64]) a5 λ(x6:B0×Int×Unit)=>L.new [.string s_,I 0] zW λb7=>L.store (⟨b7,0,none⟩) [.string x6.1,I x6.2.1]<|L.load eI6 (Ad6 b7 1) λ(x8:Int)=>L.ite (decide (y3.1<x8)) (L.load eS6 (Ad6 b7 0) λ(x9:B0)=>K (.string x9))<|L.load eI6 (Ad6 b7 1) λ(x10:Int)=>again4 (Wi (y3.1-x10),Wi (y3.2.1+1),()))<|K (.string s_)
def LI(p0:HT [.slice,.slice])(p1:Int)(h:Tj p0 p1 K w):CV Gy [.ag [.slice p0.1.a p0.1.len p0.1.cap,.slice p0.2.1.a p0.2.1.len p0.2.1.cap],.v (.int .i64 p1)] K w:=zC Tryz.f145 LX _ h
def wK:Ann:=(.q2 (.seq (.q2 (.one [(11,eI6)] .auto) none) .auto none) none)
def pe(p0:HT [.slice,.slice])(p1:B0)(K:Value→PT):PT:=
  L.new [Sv6 p0.1,Sv6 p0.2.1] zp λb1=>L.load eL6 (Ad6 b1 1) λ(x2:Sl)=>L.loop (Y:=Int×Unit) (0,()) λy3 again4=>L.ite (decide (y3.1<((x2.len:Nat):Int))) (L.idx x2.a y3.1 x2.len 2 λa5=>L.load (.agg [.str,.str]) a5 λ(x6:B0×B0×Unit)=>L.new [.string s_,.string s_] jy λb7=>L.store (⟨b7,0,none⟩) [.string x6.1,.string x6.2.1]<|L.load eS6 (Ad6 b7 0) λ(x8:B0)=>L.ite (x8.toList == p1.toList) (L.load eS6 (Ad6 b7 1) λ(x9:B0)=>K (.tuple #[.string x9,.bool true]))<|again4 (Wi (y3.1+1),()))<|K (.tuple #[.string s_,.bool false])
def wl(p0:HT [.slice,.slice])(p1:B0)(h:pe p0 p1 K w):CV OJ [.ag [.slice p0.1.a p0.1.len p0.1.cap,.slice p0.2.1.a p0.2.1.len p0.2.1.cap],.v (.string p1)] K w:=zC Tryz.f146 wK _ h
def gQ(p0:Option Addr)(p1:Int)(K:Value→PT):PT:=
  L.nonnil p0 λa1=>L.load (.one (.map)) (a1.add 1) λ(x2:Option Nat)=>L.semR Pr (.tup [(.agg [.str,.int .i64]),.one .bool]) (Instr.lookup yn (.map x2) (I p1) true) λ(x3:z5U)=>L.new [.string s_,I 0] Zw λb4=>L.store (⟨b4,0,none⟩) [.string x3.1.1,I x3.1.2.1]<|K (.bool x3.2.1)
def Cf(p0:Option Addr)(p1:Int)(h:gQ p0 p1 K w):CV vY [.v (.pointer p0),.v (.int .i64 p1)] K w:=zC Tryz.f147 .auto _ h
def Nq(p0:B0)(K:Value→PT):PT:=
  L.new [I 0,I 0,I 0,.string s_] zD λb1=>L.store (⟨b1,0,none⟩) [I 0,I 4,I 0,.string p0]<|L.load (.agg [.int .i64,.int .i64,.int .i64,.str]) (⟨b1,0,none⟩) λ(x2:KO)=>K (.agg #[I x2.1,I x2.2.1,I x2.2.2.1,.string x2.2.2.2.1])
def Aa(p0:B0)(h:Nq p0 K w):CV Qh [.v (.string p0)] K w:=zC Tryz.f148 .auto _ h
def fF(p0:Option Addr)(p1:Int)(p2:B0)(p3:ht3)(K:Value→PT):PT:=
  L.new [I p3.1,I p3.2.1,I p3.2.2.1,.string p3.2.2.2.1] zD λb1=>L.new [I 0,I 0,I 0,.string s_] zD λb2=>L.store (Ad6 b1 0) [I p1]<|L.draw<|L.nonnil p0 λa3=>L.load (.one (.map)) (a3.add 1) λ(x4:Option Nat)=>L.load eI6 (Ad6 b1 1) λ(x5:Int)=>L.semU Pr (Instr.mapUpdate yn (.map x4) (I p1) (.agg #[.string p2,I x5]))<|L.load (.agg [.int .i64,.int .i64,.int .i64,.str]) (⟨b1,0,none⟩) λ(x6:KO)=>L.store (⟨b2,0,none⟩) [I x6.1,I x6.2.1,I x6.2.2.1,.string x6.2.2.2.1]<|L.load (.agg [.int .i64,.int .i64,.int .i64,.str]) (⟨b2,0,none⟩) λ(x7:KO)=>K (.agg #[I x7.1,I x7.2.1,I x7.2.2.1,.string x7.2.2.2.1])
def dQ(p0:Option Addr)(p1:Int)(p2:B0)(p3:ht3)(h:fF p0 p1 p2 p3 K w):CV yw [.v (.pointer p0),.v (.int .i64 p1),.v (.string p2),.ag (qc3 p3)] K w:=zC Tryz.f149 .auto _ h
def OY:Ann:=(.q2 (.q2 .auto (some [])) none)
def uC(p0:Option Addr)(p1:B0)(K:Value→PT):PT:=
  L.join (Y:=Unit) (λk1=>L.nonnil p0 λa3=>L.load (.one (.map)) (a3.add 0) λ(x4:Option Nat)=>L.semR Pr (.tup [eP6,.one .bool]) (Instr.lookup ZB (.map x4) (.string p1) true) λ(x5:Option Addr×Bool×Unit)=>L.ite (!x5.2.1) (L.draw<|L.nonnil p0 λa6=>L.load (.one (.map)) (a6.add 0) λ(x7:Option Nat)=>L.nonnil p0 λa8=>L.load (.one (.func)) (a8.add 1) λ(x9:FV)=>L.callV Pr (.func x9.fn x9.fs x9.cs) [] rP λ(x10:Option Addr)=>L.chk (a6.add 0) [.map x7]<|L.semU Pr (Instr.mapUpdate ZB (.map x7) (.string p1) (.pointer x10))<|k1 (()))<|k1 (())) λz2=>L.nonnil p0 λa11=>L.load (.one (.map)) (a11.add 0) λ(x12:Option Nat)=>L.semR Pr rP (Instr.lookup ZB (.map x12) (.string p1) false) λ(x13:Option Addr)=>K (.pointer x13)
def OX(p0:Option Addr)(p1:B0)(h:uC p0 p1 K w):CV jY [.v (.pointer p0),.v (.string p1)] K w:=zC Tryz.f150 OY _ h
def fA(p0:Option Addr)(K:Value→PT):PT:=
  L.nonnil p0 λa1=>L.load eL6 ((a1.add 0).add 0) λ(x2:Sl)=>K (I ((x2.len:Nat):Int))
def dL(p0:Option Addr)(h:fA p0 K w):CV qi [.v (.pointer p0)] K w:=zC Tryz.f151 .auto _ h
def gO(p0:Option Addr)(p1:Int)(p2:B0)(K:Value→PT):PT:=
  L.new [I 0,I 0,I 0,.string s_] zD λb1=>L.nonnil p0 λa2=>L.load eP6 (a2.add 0) λ(x3:Option Addr)=>L.call Pr Ua [.pointer x3,.string p2,I p1] (.tup [eI6,eB6]) λ(x4:Int×Bool×Unit)=>L.ite (!x4.2.1) (L.store (⟨b1,0,none⟩) [I 0,I 0,I 0,.string s_]<|L.load (.agg [.int .i64,.int .i64,.int .i64,.str]) (⟨b1,0,none⟩) λ(x5:KO)=>K (.tuple #[.agg #[I x5.1,I x5.2.1,I x5.2.2.1,.string x5.2.2.2.1],.bool false]))<|L.call Pr yw [.pointer p0,I p1,.string p2,.agg #[I 0,I 1,I x4.1,.string s_]] (.one (.agg [.int .i64,.int .i64,.int .i64,.str])) λ(x6:KO)=>L.store (⟨b1,0,none⟩) [I x6.1,I x6.2.1,I x6.2.2.1,.string x6.2.2.2.1]<|L.load (.agg [.int .i64,.int .i64,.int .i64,.str]) (⟨b1,0,none⟩) λ(x7:KO)=>K (.tuple #[.agg #[I x7.1,I x7.2.1,I x7.2.2.1,.string x7.2.2.2.1],.bool true])
def Cd(p0:Option Addr)(p1:Int)(p2:B0)(h:gO p0 p1 p2 K w):CV QL [.v (.pointer p0),.v (.int .i64 p1),.v (.string p2)] K w:=zC Tryz.f152 .auto _ h
def gH(p0:Option Addr)(p1 p2:Int)(K:Value→PT):PT:=
  L.nonnil p0 λa1=>L.call Pr uS [.pointer (some (a1.add 0)),I p1] rB λ(x2:Bool)=>L.ite x2 (K (I 5))<|L.draw<|L.nonnil p0 λa3=>L.load eI6 (a3.add 1) λ(x4:Int)=>L.call Pr qi [.pointer p0] rI λ(x5:Int)=>L.chk (a3.add 1) [I x4]<|L.ite (decide (x5≥x4)) (K (I 8))<|L.nonnil p0 λa6=>L.load eL6 ((a6.add 0).add 0) λ(x7:Sl)=>L.new [I p1,I p2] jx λb8=>L.sem Pr (.one (.one .slice)) (Builtin.append_ #[yE,yE] yE #[Sv6 x7,.slice (some ⟨b8,0,none⟩) 1 1]) λ(s9:Sl)=>L.nonnil p0 λa10=>L.store ((a10.add 0).add 0) [Sv6 s9]<|K (I 0)
def cV(p0:Option Addr)(p1 p2:Int)(h:gH p0 p1 p2 K w):CV QJ [.v (.pointer p0),.v (.int .i64 p1),.v (.int .i64 p2)] K w:=zC Tryz.f153 .auto _ h
def mb(p0:Sl)(K:Value→PT):PT:=
  L.new [Sv6 p0] zI λb1=>K (.func (.func Xq) #[] #[.pointer (some (⟨b1,0,none⟩))])
def NC(p0:Sl)(h:mb p0 K w):CV Fz [.v (.slice p0.a p0.len p0.cap)] K w:=zC Tryz.f154 .auto _ h
def oI(p0:Option Addr)(p1:Int)(K:Value→PT):PT:=
  L.nonnil p0 λa1=>L.load (.one (.map)) (a1.add 1) λ(x2:Option Nat)=>L.semR Pr (.tup [eI6,.one .bool]) (Instr.lookup Zm (.map x2) (I p1) true) λ(x3:Int×Bool×Unit)=>L.ite (!x3.2.1) (K (.tuple #[.string s_,I 6]))<|L.nonnil p0 λa4=>L.load (.one (.map)) (a4.add 0) λ(x5:Option Nat)=>L.semR Pr (.one (.agg [.str,.ptr])) (Instr.lookup Zf (.map x5) (I x3.1) false) λ(x6:B0×Option Addr×Unit)=>L.new [.string s_,.pointer none] XM λb7=>L.store (⟨b7,0,none⟩) [.string x6.1,.pointer x6.2.1]<|L.load eP6 (Ad6 b7 1) λ(x8:Option Addr)=>L.call Pr UV [.pointer x8,I p1] rI λ(x9:Int)=>L.nonnil p0 λa10=>L.load (.one (.map)) (a10.add 1) λ(x11:Option Nat)=>L.sem Pr (.tup []) (Builtin.delete_ #[Zm,zx] T_ #[.map x11,I p1]) λ_=>L.call Pr xK [.pointer p0,I x3.1] (.tup []) λ(x12:Unit)=>L.load eS6 (Ad6 b7 0) λ(x13:B0)=>K (.tuple #[.string x13,I 0])
def PD(p0:Option Addr)(p1:Int)(h:oI p0 p1 K w):CV Ud [.v (.pointer p0),.v (.int .i64 p1)] K w:=zC Tryz.f155 .auto _ h
def Tq(p0:Option Addr)(K:Value→PT):PT:=
  L.nonnil p0 λa1=>L.load eI6 (a1.add 0) λ(x2:Int)=>L.ite (x2 != 1) (K (I 9))<|L.nonnil p0 λa3=>L.store (a3.add 0) [I 2]<|K (I 0)
def LO(p0:Option Addr)(h:Tq p0 K w):CV GA [.v (.pointer p0)] K w:=zC Tryz.f156 .auto _ h
def dW:Ann:=(.q2 (.seq (.q2 (.q2 .auto (some [(9,eI6),(10,eI6)])) none) .auto none) none)
def fx(p0:Option Addr)(K:Value→PT):PT:=
  L.new [.pointer p0] Xa λb1=>L.new [I 0] zx λb2=>L.new [.bool false] yP λb3=>L.load eP6 (⟨b1,0,none⟩) λ(x4:Option Addr)=>L.nonnil x4 λa5=>L.call Pr jq [.pointer (some (a5.add 0))] (.one (.one (.func))) λ(x6:FV)=>L.range Pr none (.func x6.fn x6.fs x6.cs) [eI6,eI6] (λl7(y8:Int×Int×Unit) R9=>L.begin Pr l7<|L.draw<|L.load eP6 (⟨b1,0,none⟩) λ(x12:Option Addr)=>L.load eP6 (⟨b1,0,none⟩) λ(x13:Option Addr)=>L.nonnil x13 λa14=>L.load eL6 ((a14.add 0).add 0) λ(x15:Sl)=>L.guard (0≤(1:Int)∧(1:Int)≤((x15.len:Nat):Int)∧((x15.len:Nat):Int)≤((x15.cap:Nat):Int)∧((x15.cap:Nat):Int)≤x15.cap)<|L.nonnil x12 λa16=>L.store ((a16.add 0).add 0) [.slice (if Int.toNat ((x15.cap:Nat):Int)=Int.toNat (1:Int)then x15.a else Option.map (λa:Addr=>a.add (Int.toNat (1:Int)*2)) x15.a) (Int.toNat ((x15.len:Nat):Int)-Int.toNat (1:Int)) (Int.toNat ((x15.cap:Nat):Int)-Int.toNat (1:Int))]<|L.store (⟨b2,0,none⟩) [I y8.1]<|L.store (⟨b3,0,none⟩) [.bool true]<|L.endRound Pr l7 (some .ret) R9) λd10 j11=>L.jump j11 (L.store (⟨b2,0,none⟩) [I 0]<|L.store (⟨b3,0,none⟩) [.bool false]<|L.unmark Pr (d10++[])<|L.load eI6 (⟨b2,0,none⟩) λ(x17:Int)=>L.load eB6 (⟨b3,0,none⟩) λ(x18:Bool)=>K (.tuple #[I x17,.bool x18])) (L.unmark Pr (d10++[])<|L.load eI6 (⟨b2,0,none⟩) λ(x19:Int)=>L.load eB6 (⟨b3,0,none⟩) λ(x20:Bool)=>K (.tuple #[I x19,.bool x20])) []
def dK(p0:Option Addr)(h:fx p0 K w):CV kf [.v (.pointer p0)] K w:=zC Tryz.f157 dW _ h
def xl(p0:Sl)(K:Value→PT):PT:=
  L.ite ((p0.a).isNone) (K (.slice none 0 0))<|L.new [] zD λb1=>L.sem Pr (.one (.one .slice)) (Builtin.append_ #[zI,zI] zI #[.slice (some ⟨b1,0,none⟩) 0 0,Sv6 p0]) λ(s2:Sl)=>K (.slice s2.a s2.len s2.cap)
def Ui(p0:Sl)(h:xl p0 K w):CV yb [.v (.slice p0.a p0.len p0.cap)] K w:=zC Tryz.f158 .auto _ h
def NR:Ann:=(.q2 (.q2 (.q2 (.seq (.q2 (.one [(21,eI6)] .auto) none) .auto none) none) none) none)
def mf(p0:Option Addr)(K:Value→PT):PT:=
  L.nonnil p0 λa1=>L.load eI6 (a1.add 0) λ(x2:Int)=>L.ite (x2 == 4) (K (.tuple #[.slice none 0 0,I 9]))<|L.nonnil p0 λa3=>L.load (.one (.map)) ((a3.add 1).add 0) λ(x4:Option Nat)=>L.call Pr ja [.map x4] (.one (.one (.func))) λ(x5:FV)=>L.call Pr jr [.func x5.fn x5.fs x5.cs] rL λ(x6:Sl)=>L.call Pr ZX [Sv6 x6] rL λ(x7:Sl)=>L.loop (Y:=Int×Unit) (0,()) λy8 again9=>L.ite (decide (y8.1<((x7.len:Nat):Int))) (L.idx x7.a y8.1 x7.len 1 λa10=>L.load eI6 a10 λ(x11:Int)=>L.nonnil p0 λa12=>L.call Pr XS [.pointer (some (a12.add 1)),I x11] rI λ(x13:Int)=>again9 (Wi (y8.1+1),()))<|L.nonnil p0 λa14=>L.store (a14.add 0) [I 4]<|K (.tuple #[Sv6 x7,I 0])
def NG(p0:Option Addr)(h:mf p0 K w):CV UU [.v (.pointer p0)] K w:=zC Tryz.f159 NR _ h
def Oq(p0:Option Addr)(p1:Int)(K:Value→PT):PT:=
  L.nonnil p0 λa1=>L.load (.one (.map)) (a1.add 0) λ(x2:Option Nat)=>L.semR Pr (.one (.agg [.str,.ptr])) (Instr.lookup Zf (.map x2) (I p1) false) λ(x3:B0×Option Addr×Unit)=>L.call Pr yQ [.pointer x3.2.1] rI λ(x4:Int)=>L.ite (x4 == 4) (L.nonnil p0 λa5=>L.load (.one (.map)) (a5.add 0) λ(x6:Option Nat)=>L.sem Pr (.tup []) (Builtin.delete_ #[Zf,zx] T_ #[.map x6,I p1]) λ_=>K (.tuple #[]))<|K (.tuple #[])
def TC(p0:Option Addr)(p1:Int)(h:Oq p0 p1 K w):CV xK [.v (.pointer p0),.v (.int .i64 p1)] K w:=zC Tryz.f160 .auto _ h
def QA(p0:Option Addr)(K:Value→PT):PT:=
  L.new [.pointer p0] Zs λb1=>K (.func (.func yR) #[] #[.pointer (some (⟨b1,0,none⟩))])
def oQ(p0:Option Addr)(h:QA p0 K w):CV Qi [.v (.pointer p0)] K w:=zC Tryz.f161 .auto _ h
def gI(p0:Option Addr)(p1:Int)(K:Value→PT):PT:=
  L.nonnil p0 λa1=>L.call Pr kD [.pointer (some (a1.add 0)),I p1] rL λ(x2:Sl)=>K (.slice x2.a x2.len x2.cap)
def cX(p0:Option Addr)(p1:Int)(h:gI p0 p1 K w):CV vV [.v (.pointer p0),.v (.int .i64 p1)] K w:=zC Tryz.f162 .auto _ h
def gN(p0:Option Addr)(K:Value→PT):PT:=
  L.nonnil p0 λa1=>L.load (.one (.map)) (a1.add 0) λ(x2:Option Nat)=>L.call Pr Yb [.map x2] rL λ(x3:Sl)=>L.call Pr ZG [Sv6 x3] rL λ(x4:Sl)=>K (.slice x4.a x4.len x4.cap)
def Cb(p0:Option Addr)(h:gN p0 K w):CV vW [.v (.pointer p0)] K w:=zC Tryz.f163 .auto _ h
def VW(p0:Option Addr)(p1:Int)(K:Value→PT):PT:=
  L.draw<|L.nonnil p0 λa1=>L.load eI6 (a1.add 60) λ(x2:Int)=>L.guard (60≠(0:Int))<|L.nonnil p0 λa3=>L.idx (some (a3.add 0)) (Int.tmod x2 60) 60 1 λa4=>L.store a4 [I p1]<|L.nonnil p0 λa5=>L.load eI6 (a5.add 60) λ(x6:Int)=>L.nonnil p0 λa7=>L.store (a7.add 60) [I (Wi (x6+1))]<|K (.tuple #[])
def mJ(p0:Option Addr)(p1:Int)(h:VW p0 p1 K w):CV Qg [.v (.pointer p0),.v (.int .i64 p1)] K w:=zC Tryz.f164 .auto _ h
def qT(p0:Option Addr)(p1:B0)(K:Value→PT):PT:=
  L.new [.string s_,I 0,I 0,I 0,I 0,I 0,I 0,I 0,.bool false] zS λb1=>L.nonnil p0 λa2=>L.load (.one (.map)) (a2.add 0) λ(x3:Option Nat)=>L.semR Pr (.one (.agg RF)) (Instr.lookup Zl (.map x3) (.string p1) false) λ(x4:Sm)=>L.new [.string s_,I 0,I 0,I 0,I 0,I 0,I 0,I 0,.bool false] zS λb5=>L.store (⟨b5,0,none⟩) [.string x4.1,I x4.2.1,I x4.2.2.1,I x4.2.2.2.1,I x4.2.2.2.2.1,I x4.2.2.2.2.2.1,I x4.2.2.2.2.2.2.1,I x4.2.2.2.2.2.2.2.1,.bool x4.2.2.2.2.2.2.2.2.1]<|L.draw<|L.load (.agg RF) (⟨b5,0,none⟩) λ(x6:Sm)=>L.load eB6 (Ad6 b5 8) λ(x7:Bool)=>L.store (⟨b1,0,none⟩) [.string x6.1,I x6.2.1,I x6.2.2.1,I x6.2.2.2.1,I x6.2.2.2.2.1,I x6.2.2.2.2.2.1,I x6.2.2.2.2.2.2.1,I x6.2.2.2.2.2.2.2.1,.bool x6.2.2.2.2.2.2.2.2.1]<|L.chk (Ad6 b5 8) [.bool x7]<|L.load (.agg RF) (⟨b1,0,none⟩) λ(x8:Sm)=>K (.tuple #[(qa5 x8),.bool x7])
def Kv(p0:Option Addr)(p1:B0)(h:qT p0 p1 K w):CV JE [.v (.pointer p0),.v (.string p1)] K w:=zC Tryz.f165 .auto _ h
def dm(p0:B0)(p1:Int)(K:Value→PT):PT:=
  L.call Pr XT [.string p0] rB λ(x1:Bool)=>L.ite (!x1) (K (.string s_))<|L.ite (decide (p1<1)) (K (.string s_))<|L.ite (decide (p1>999999)) (K (.string s_))<|L.guard (((p0.size+Qa.size:Nat):Int)≤Ue)<|L.call Pr Xr [I p1] rS λ(x2:B0)=>L.guard ((((p0++Qa).size+x2.size:Nat):Int)≤Ue)<|K (.string ((p0++Qa)++x2))
def bW(p0:B0)(p1:Int)(h:dm p0 p1 K w):CV Og [.v (.string p0),.v (.int .i64 p1)] K w:=zC Tryz.f166 .auto _ h
def Qz(p0:Option Addr)(p1:B0)(K:Value→PT):PT:=
  L.new [.string s_,.string s_,.slice none 0 0,I 0,I 0,I 0,.bool false] zY λb1=>L.nonnil p0 λa2=>L.load (.one (.map)) (a2.add 0) λ(x3:Option Nat)=>L.semR Pr (.one (.agg RE)) (Instr.lookup Zr (.map x3) (.string p1) false) λ(x4:Sk)=>L.new [.string s_,.string s_,.slice none 0 0,I 0,I 0,I 0,.bool false] zY λb5=>L.store (⟨b5,0,none⟩) [.string x4.1,.string x4.2.1,Sv6 x4.2.2.1,I x4.2.2.2.1,I x4.2.2.2.2.1,I x4.2.2.2.2.2.1,.bool x4.2.2.2.2.2.2.1]<|L.draw<|L.load (.agg RE) (⟨b5,0,none⟩) λ(x6:Sk)=>L.load eB6 (Ad6 b5 6) λ(x7:Bool)=>L.store (⟨b1,0,none⟩) [.string x6.1,.string x6.2.1,Sv6 x6.2.2.1,I x6.2.2.2.1,I x6.2.2.2.2.1,I x6.2.2.2.2.2.1,.bool x6.2.2.2.2.2.2.1]<|L.chk (Ad6 b5 6) [.bool x7]<|L.load (.agg RE) (⟨b1,0,none⟩) λ(x8:Sk)=>K (.tuple #[(qa6 x8),.bool x7])
def oP(p0:Option Addr)(p1:B0)(h:Qz p0 p1 K w):CV xe [.v (.pointer p0),.v (.string p1)] K w:=zC Tryz.f167 .auto _ h
def pq(p0:HT [.str,.str,.int .i64])(p1:ht2)(p2:Option Addr)(K:Value→PT):PT:=
  L.new [.string p0.1,.string p0.2.1,I p0.2.2.1] zG λb1=>L.new [.string p1.1,.string p1.2.1,Sv6 p1.2.2.1,I p1.2.2.2.1] Zb λb2=>L.load eS6 (Ad6 b1 0) λ(x3:B0)=>L.ite (x3.toList == s_.toList) (L.load eS6 (Ad6 b2 1) λ(x4:B0)=>L.call Pr uf [.pointer p2,.string x4] (.tup [eS6,eS6]) λ(x5:B0×B0×Unit)=>L.ite (x5.2.1.toList == s_.toList) (K (.tuple #[.string s_,I 9]))<|K (.tuple #[.string x5.2.1,I 0]))<|L.load eS6 (Ad6 b1 0) λ(x6:B0)=>L.call Pr jQ [.pointer p2,.string x6] (.tup [(.agg lf6),eB6]) λ(x7:pt6)=>L.new [.string s_,I 0,.string s_,I 0,I 0,I 0,I 0,I 0] zU λb8=>L.store (⟨b8,0,none⟩) [.string x7.1.1,I x7.1.2.1,.string x7.1.2.2.1,I x7.1.2.2.2.1,I x7.1.2.2.2.2.1,I x7.1.2.2.2.2.2.1,I x7.1.2.2.2.2.2.2.1,I x7.1.2.2.2.2.2.2.2.1]<|L.ite (!x7.2.1) (K (.tuple #[.string s_,I 6]))<|L.load eS6 (Ad6 b1 0) λ(x9:B0)=>L.call Pr Yv [.pointer p2,.string x9] rB λ(x10:Bool)=>L.ite (!x10) (K (.tuple #[.string s_,I 9]))<|L.load eS6 (Ad6 b1 0) λ(x11:B0)=>K (.tuple #[.string x11,I 0])
def wA(p0:HT [.str,.str,.int .i64])(p1:ht2)(p2:Option Addr)(h:pq p0 p1 p2 K w):CV OO [.ag [.string p0.1,.string p0.2.1,.int .i64 p0.2.2.1],.ag (qc2 p1),.v (.pointer p2)] K w:=zC Tryz.f168 .auto _ h
def ub(p0:Option Nat)(K:Value→PT):PT:=
  L.new [.map p0] ZE λb1=>K (.func (.func Yd) #[] #[.pointer (some (⟨b1,0,none⟩))])
def oY(p0:Option Nat)(h:ub p0 K w):CV QX [.v (.map p0)] K w:=zC Tryz.f169 .auto _ h
def qq(p0:Option Nat)(K:Value→PT):PT:=
  L.new [.map p0] Zi λb1=>K (.func (.func yz) #[] #[.pointer (some (⟨b1,0,none⟩))])
def kx(p0:Option Nat)(h:qq p0 K w):CV qj [.v (.map p0)] K w:=zC Tryz.f170 .auto _ h
def No(p0:HT [.slice,.slice])(K:Value→PT):PT:=
  L.new [Sv6 p0.1,Sv6 p0.2.1] zp λb1=>L.new [.slice none 0 0,.slice none 0 0] zp λb2=>L.draw<|L.load eL6 (Ad6 b1 0) λ(x3:Sl)=>L.load eL6 (Ad6 b1 1) λ(x4:Sl)=>L.call Pr Zq [Sv6 x3] rL λ(x5:Sl)=>L.chk (Ad6 b1 1) [Sv6 x4]<|L.call Pr YP [Sv6 x4] rL λ(x6:Sl)=>L.store (⟨b2,0,none⟩) [Sv6 x5,Sv6 x6]<|L.load (.agg [.slice,.slice]) (⟨b2,0,none⟩) λ(x7:Sl×Sl×Unit)=>K (.agg #[Sv6 x7.1,Sv6 x7.2.1])
def aY(p0:HT [.slice,.slice])(h:No p0 K w):CV YQ [.ag [.slice p0.1.a p0.1.len p0.1.cap,.slice p0.2.1.a p0.2.1.len p0.2.1.cap]] K w:=zC Tryz.f171 .auto _ h
def wI:Ann:=(.q2 (.seq (.q2 (.one [(2,eL6),(11,eI6)] .auto) none) (.seq (.q2 (.one [(3,eL6),(28,eI6)] .auto) none) .auto none) none) none)
def pa(p0:HT [.slice,.slice])(K:Value→PT):PT:=
  L.new [Sv6 p0.1,Sv6 p0.2.1] zp λb1=>L.load eL6 (Ad6 b1 0) λ(x2:Sl)=>L.loop (Y:=Sl×Int×Unit) (⟨none,0,0⟩,0,()) λy3 again4=>L.ite (decide (y3.2.1<((x2.len:Nat):Int))) (L.idx x2.a y3.2.1 x2.len 2 λa5=>L.load (.agg [.str,.int .i64]) a5 λ(x6:B0×Int×Unit)=>L.new [.string s_,I 0] zW λb7=>L.store (⟨b7,0,none⟩) [.string x6.1,I x6.2.1]<|L.draw<|L.load eS6 (Ad6 b7 0) λ(x8:B0)=>L.load eI6 (Ad6 b7 1) λ(x9:Int)=>L.call Pr Xr [I x9] rS λ(x10:B0)=>L.chk (Ad6 b7 0) [.string x8]<|L.new [.string x8,.string x10] JG λb11=>L.sem Pr (.one (.one .slice)) (Builtin.append_ #[xj,xj] xj #[Sv6 y3.1,.slice (some ⟨b11,0,none⟩) 1 1]) λ(s12:Sl)=>again4 (⟨s12.a,s12.len,s12.cap⟩,Wi (y3.2.1+1),()))<|L.load eL6 (Ad6 b1 1) λ(x13:Sl)=>L.loop (Y:=Sl×Int×Unit) (⟨none,0,0⟩,0,()) λy14 again15=>L.ite (decide (y14.2.1<((x13.len:Nat):Int))) (L.idx x13.a y14.2.1 x13.len 2 λa16=>L.load (.agg [.str,.str]) a16 λ(x17:B0×B0×Unit)=>L.new [.string s_,.string s_] jy λb18=>L.store (⟨b18,0,none⟩) [.string x17.1,.string x17.2.1]<|L.load eS6 (Ad6 b18 0) λ(x19:B0)=>L.load eS6 (Ad6 b18 1) λ(x20:B0)=>L.new [.string x19,.string x20] JG λb21=>L.sem Pr (.one (.one .slice)) (Builtin.append_ #[xj,xj] xj #[Sv6 y14.1,.slice (some ⟨b21,0,none⟩) 1 1]) λ(s22:Sl)=>again15 (⟨s22.a,s22.len,s22.cap⟩,Wi (y14.2.1+1),()))<|K (.tuple #[Sv6 y3.1,Sv6 y14.1])
def wg(p0:HT [.slice,.slice])(h:pa p0 K w):CV OH [.ag [.slice p0.1.a p0.1.len p0.1.cap,.slice p0.2.1.a p0.2.1.len p0.2.1.cap]] K w:=zC Tryz.f172 wI _ h
def Ul:Ann:=(.q2 (.q2 (.seq (.q2 (.one [(13,eI6)] .auto) none) .auto none) none) none)
def xk(p0 p1:Sl)(K:Value→PT):PT:=
  L.ite (((p0.len:Nat):Int) != ((p1.len:Nat):Int)) (K (.bool false))<|L.loop (Y:=Int×Unit) (0,()) λy1 again2=>L.ite (decide (y1.1<((p0.len:Nat):Int))) (L.draw<|L.idx p0.a y1.1 p0.len 2 λa3=>L.load (.agg [.str,.int .i64]) a3 λ(x4:B0×Int×Unit)=>L.idx p1.a y1.1 p1.len 2 λa5=>L.load (.agg [.str,.int .i64]) a5 λ(x6:B0×Int×Unit)=>L.chkSem Pr (do eqGuard .neq zW (.tmp 0) (.tmp 0) (.agg #[.string x4.1,I x4.2.1]) (.agg #[.string x6.1,I x6.2.1]);binOp .neq zW (.agg #[.string x4.1,I x4.2.1]) (.agg #[.string x6.1,I x6.2.1])) (.bool (!((x4.1 == x6.1)&&((x4.2.1 == x6.2.1)&&true))))<|L.ite (!((x4.1 == x6.1)&&((x4.2.1 == x6.2.1)&&true))) (K (.bool false))<|again2 (Wi (y1.1+1),()))<|K (.bool true)
def Uh(p0 p1:Sl)(h:xk p0 p1 K w):CV yN [.v (.slice p0.a p0.len p0.cap),.v (.slice p1.a p1.len p1.cap)] K w:=zC Tryz.f173 Ul _ h
def wP:Ann:=(.q2 (.seq (.q2 .auto (some [(18,eB6)])) (.q2 (.q2 (.q2 (.seq (.q2 (.one [(11,eI6),(42,eI6)] (.q2 (.q2 (.q2 .auto (some [(11,eI6)])) none) none)) none) (.q2 (.seq (.q2 (.one [(11,eI6),(14,eL6),(77,eI6)] (.q2 (.q2 (.seq (.q2 (.q2 (.q2 .auto (some [(11,eI6)])) none) none) .auto (some [(11,eI6),(14,eL6)])) none) none)) none) .auto none) none) none) none) none) none) none) none)
def pn(p0 p1:Sl)(p2 p3:Int)(K:Value→PT):PT:=
  L.join (Y:=Bool×Unit) (λk1=>L.ite (decide (p3≤0)) (k1 (true,()))<|k1 (decide (p2≥p3),())) λz2=>L.ite z2.1 (L.call Pr Zq [Sv6 p1] rL λ(x3:Sl)=>K (.slice x3.a x3.len x3.cap))<|L.ite (decide (p2≤0)) (L.call Pr Zq [Sv6 p0] rL λ(x4:Sl)=>K (.slice x4.a x4.len x4.cap))<|L.new [Sv6 p0,Sv6 p1] Zk λb5=>L.call Pr jR [.func (.func Gz) #[] #[],.slice (some ⟨b5,0,none⟩) 2 2] rL λ(x6:Sl)=>L.sem Pr (.one (.one .slice)) (Instr.makeSlice ZS (I ((x6.len:Nat):Int)) (I ((x6.len:Nat):Int))) λ(s7:Sl)=>L.loop (Y:=Int×Int×Unit) (0,0,()) λy8 again9=>L.ite (decide (y8.2.1<((x6.len:Nat):Int))) (L.join (Y:=Int×Unit) (λk10=>L.draw<|L.idx x6.a y8.2.1 x6.len 1 λa12=>L.load eS6 a12 λ(x13:B0)=>L.idx x6.a y8.2.1 x6.len 1 λa14=>L.load eS6 a14 λ(x15:B0)=>L.call Pr qv [Sv6 p1,.string x13] rI λ(x16:Int)=>L.chk a14 [.string x15]<|L.call Pr qv [Sv6 p0,.string x15] rI λ(x17:Int)=>L.ite (decide ((Wi (x16-x17))>0)) (L.guard (p3≠(0:Int))<|L.idx s7.a y8.2.1 s7.len 1 λa18=>L.store a18 [I (Wi (Int.tdiv (Wi ((Wi (x16-x17))*p2)) p3))]<|L.idx s7.a y8.2.1 s7.len 1 λa19=>L.load eI6 a19 λ(x20:Int)=>k10 (Wi (y8.1+x20),()))<|k10 (y8.1,())) λz11=>again9 (z11.1,Wi (y8.2.1+1),()))<|L.loop (Y:=Int×Sl×Int×Unit) (y8.1,⟨none,0,0⟩,0,()) λy21 again22=>L.ite (decide (y21.2.2.1<((x6.len:Nat):Int))) (L.join (Y:=Int×Sl×Unit) (λk23=>L.idx x6.a y21.2.2.1 x6.len 1 λa25=>L.load eS6 a25 λ(x26:B0)=>L.call Pr qv [Sv6 p0,.string x26] rI λ(x27:Int)=>L.join (Y:=Int×Unit) (λk28=>L.idx x6.a y21.2.2.1 x6.len 1 λa30=>L.load eS6 a30 λ(x31:B0)=>L.call Pr qv [Sv6 p1,.string x31] rI λ(x32:Int)=>L.ite (decide ((Wi (x27-x32))>0)) (L.idx s7.a y21.2.2.1 s7.len 1 λa33=>L.store a33 [I (Wi (0-(if y21.1<(Wi (x27-x32))then y21.1 else(Wi (x27-x32)))))]<|L.idx s7.a y21.2.2.1 s7.len 1 λa34=>L.load eI6 a34 λ(x35:Int)=>k28 (Wi (y21.1+x35),()))<|k28 (y21.1,())) λz29=>L.idx s7.a y21.2.2.1 s7.len 1 λa36=>L.load eI6 a36 λ(x37:Int)=>L.ite (decide ((Wi (x27+x37))>0)) (L.idx x6.a y21.2.2.1 x6.len 1 λa38=>L.load eS6 a38 λ(x39:B0)=>L.new [.string x39,I (Wi (x27+x37))] zW λb40=>L.sem Pr (.one (.one .slice)) (Builtin.append_ #[Zk,Zk] Zk #[Sv6 y21.2.1,.slice (some ⟨b40,0,none⟩) 1 1]) λ(s41:Sl)=>k23 (z29.1,⟨s41.a,s41.len,s41.cap⟩,()))<|k23 (z29.1,⟨y21.2.1.a,y21.2.1.len,y21.2.1.cap⟩,())) λz24=>again22 (z24.1,⟨z24.2.1.a,z24.2.1.len,z24.2.1.cap⟩,Wi (y21.2.2.1+1),()))<|L.call Pr Zq [Sv6 y21.2.1] rL λ(x42:Sl)=>K (.slice x42.a x42.len x42.cap)
def ww(p0 p1:Sl)(p2 p3:Int)(h:pn p0 p1 p2 p3 K w):CV OM [.v (.slice p0.a p0.len p0.cap),.v (.slice p1.a p1.len p1.cap),.v (.int .i64 p2),.v (.int .i64 p3)] K w:=zC Tryz.f174 wP _ h
def Qu(p0:Option Addr)(p1:B0)(K:Value→PT):PT:=
  L.nonnil p0 λa1=>L.load eP6 (a1.add 3) λ(x2:Option Addr)=>L.call Pr Ub [.pointer x2,.string p1] rL λ(x3:Sl)=>K (.slice x3.a x3.len x3.cap)
def kb(p0:Option Addr)(p1:B0)(h:Qu p0 p1 K w):CV xI [.v (.pointer p0),.v (.string p1)] K w:=zC Tryz.f175 .auto _ h
def vJ(p0:Option Addr)(K:Value→PT):PT:=
  L.new [.pointer p0] Uf λb1=>K (.func (.func YY) #[] #[.pointer (some (⟨b1,0,none⟩))])
def Fe(p0:Option Addr)(h:vJ p0 K w):CV qC [.v (.pointer p0)] K w:=zC Tryz.f176 .auto _ h
def Tp(p0 p1 p2:Int)(K:Value→PT):PT:=
  L.ite (decide (p1≤0)) (K (I 0))<|L.ite (decide (p2≤0)) (K (I 0))<|L.guard ((Wi (p1*p2))≠(0:Int))<|K (I (Wi (Int.tdiv (Wi ((Wi (p0+(Wi (p1*p2))))-1)) (Wi (p1*p2)))))
def LN(p0 p1 p2:Int)(h:Tp p0 p1 p2 K w):CV XR [.v (.int .i64 p0),.v (.int .i64 p1),.v (.int .i64 p2)] K w:=zC Tryz.f177 .auto _ h
def vI(p0:HT [.int .i64,.int .i64])(p1 p2:Int)(K:Value→PT):PT:=
  L.new [I p0.1,I p0.2.1] ZY λb1=>L.ite (decide (p1≥(Wi (2*p2)))) (K (I 6))<|L.load eI6 (Ad6 b1 1) λ(x2:Int)=>K (I (if 0>(Wi (x2-1))then 0 else(Wi (x2-1))))
def Fd(p0:HT [.int .i64,.int .i64])(p1 p2:Int)(h:vI p0 p1 p2 K w):CV xr [.ag [.int .i64 p0.1,.int .i64 p0.2.1],.v (.int .i64 p1),.v (.int .i64 p2)] K w:=zC Tryz.f178 .auto _ h
def ou(p0 p1:HT [.int .i64,.int .i64])(K:Value→PT):PT:=
  L.new [I p0.1,I p0.2.1] ZY λb1=>L.new [I p1.1,I p1.2.1] Ol λb2=>L.load eI6 (Ad6 b1 0) λ(x3:Int)=>L.idx (some (⟨b2,0,none⟩)) 0 2 1 λa4=>L.load eI6 a4 λ(x5:Int)=>L.idx (some (⟨b2,0,none⟩)) 1 2 1 λa6=>L.load eI6 a6 λ(x7:Int)=>K (I (if x7>(if x5>x3 then x5 else x3)then x7 else(if x5>x3 then x5 else x3)))
def Pp(p0 p1:HT [.int .i64,.int .i64])(h:ou p0 p1 K w):CV uV [.ag [.int .i64 p0.1,.int .i64 p0.2.1],.ag [.int .i64 p1.1,.int .i64 p1.2.1]] K w:=zC Tryz.f179 .auto _ h
def mc(p0:ht0)(p1 p2:Int)(K:Value→PT):PT:=
  L.new [.string p0.1,I p0.2.1,I p0.2.2.1,I p0.2.2.2.1,I p0.2.2.2.2.1,I p0.2.2.2.2.2.1] zA λb1=>L.new [I 0,I 0,I 0,I 0] AV λb2=>L.guard (2≠(0:Int))<|L.load eI6 (Ad6 b1 3) λ(x3:Int)=>L.load eI6 (Ad6 b1 4) λ(x4:Int)=>L.store (⟨b2,0,none⟩) [I (Wi (4*p2)),I (Wi (Int.tdiv p1 2)),I x3,I x4]<|L.load (.agg [.int .i64,.int .i64,.int .i64,.int .i64]) (⟨b2,0,none⟩) λ(x5:Int×Int×Int×Int×Unit)=>K (.agg #[I x5.1,I x5.2.1,I x5.2.2.1,I x5.2.2.2.1])
def ND(p0:ht0)(p1 p2:Int)(h:mc p0 p1 p2 K w):CV KQ [.ag (qc0 p0),.v (.int .i64 p1),.v (.int .i64 p2)] K w:=zC Tryz.f180 .auto _ h
def Cw:Ann:=(.q2 (.q2 (.seq (.q2 (.q2 .auto (some [(11,eI6),(12,eP6)])) none) .auto none) none) none)
def gV(p0:Option Addr)(p1:B0)(K:Value→PT):PT:=
  L.new [I 0] zx λb1=>L.store (⟨b1,0,none⟩) [I 0]<|L.call Pr JS [.pointer p0,.string p1] (.one (.one (.func))) λ(x2:FV)=>L.range Pr none (.func x2.fn x2.fs x2.cs) [eI6,eP6] (λl3(y4:Int×Option Addr×Unit) R5=>L.begin Pr l3<|L.call Pr yQ [.pointer y4.2.1] rI λ(x8:Int)=>L.ite (x8 != 3) (L.load eI6 (⟨b1,0,none⟩) λ(x9:Int)=>L.store (⟨b1,0,none⟩) [I (Wi (x9+1))]<|L.endRound Pr l3 none R5)<|L.endRound Pr l3 none R5) λd6 j7=>L.jump j7 (L.load eI6 (⟨b1,0,none⟩) λ(x10:Int)=>L.unmark Pr (d6++[])<|K (I x10)) (L.unmark Pr (d6++[])<|K (I 0)) []
def Ck(p0:Option Addr)(p1:B0)(h:gV p0 p1 K w):CV Va [.v (.pointer p0),.v (.string p1)] K w:=zC Tryz.f181 Cw _ h
def ly(p0:Int)(K:Value→PT):PT:=
  L.sem Pr (.one (.one .map)) (Instr.makeMap Yk none) λ(m1:Option Nat)=>L.new [I 1,.map m1,I p0] KJ λb2=>K (.pointer (some (⟨b2,0,none⟩)))
def Em(p0:Int)(h:ly p0 K w):CV cg [.v (.int .i64 p0)] K w:=zC Tryz.f182 .auto _ h
def MI:Ann:=(.q2 (.q2 (.seq (.q2 (.q2 (.q2 (.q2 (.cond .auto .auto) none) none) (some [(13,eI6),(14,eP6)])) none) .auto none) none) none)
def kR(p0:Option Addr)(p1:B0)(K:Value→PT):PT:=
  L.new [I 0] zx λb1=>L.new [I 0] zx λb2=>L.new [I 0] zx λb3=>L.store (⟨b1,0,none⟩) [I 0]<|L.store (⟨b2,0,none⟩) [I 3]<|L.store (⟨b3,0,none⟩) [I 0]<|L.call Pr JS [.pointer p0,.string p1] (.one (.one (.func))) λ(x4:FV)=>L.range Pr none (.func x4.fn x4.fs x4.cs) [eI6,eP6] (λl5(y6:Int×Option Addr×Unit) R7=>L.begin Pr l5<|L.call Pr yQ [.pointer y6.2.1] rI λ(x10:Int)=>L.ite (x10 == 3) (L.endRound Pr l5 none R7)<|L.draw<|L.load eI6 (⟨b2,0,none⟩) λ(x11:Int)=>L.call Pr yQ [.pointer y6.2.1] rI λ(x12:Int)=>L.chk (⟨b2,0,none⟩) [I x11]<|L.ite (decide (x12<x11)) (L.call Pr yQ [.pointer y6.2.1] rI λ(x13:Int)=>L.call Pr jk [.pointer y6.2.1] rI λ(x14:Int)=>L.store (⟨b1,0,none⟩) [I y6.1]<|L.store (⟨b2,0,none⟩) [I x13]<|L.store (⟨b3,0,none⟩) [I x14]<|L.endRound Pr l5 none R7)<|L.load eI6 (⟨b2,0,none⟩) λ(x15:Int)=>L.call Pr yQ [.pointer y6.2.1] rI λ(x16:Int)=>L.chk (⟨b2,0,none⟩) [I x15]<|L.ite (x16 == x15) (L.load eI6 (⟨b3,0,none⟩) λ(x17:Int)=>L.call Pr jk [.pointer y6.2.1] rI λ(x18:Int)=>L.chk (⟨b3,0,none⟩) [I x17]<|L.ite (decide (x18≤x17)) (L.call Pr yQ [.pointer y6.2.1] rI λ(x19:Int)=>L.call Pr jk [.pointer y6.2.1] rI λ(x20:Int)=>L.store (⟨b1,0,none⟩) [I y6.1]<|L.store (⟨b2,0,none⟩) [I x19]<|L.store (⟨b3,0,none⟩) [I x20]<|L.endRound Pr l5 none R7)<|L.endRound Pr l5 none R7)<|L.endRound Pr l5 none R7) λd8 j9=>L.jump j9 (L.load eI6 (⟨b1,0,none⟩) λ(x21:Int)=>L.unmark Pr (d8++[])<|K (I x21)) (L.unmark Pr (d8++[])<|K (I 0)) []
def MA(p0:Option Addr)(p1:B0)(h:kR p0 p1 K w):CV uh [.v (.pointer p0),.v (.string p1)] K w:=zC Tryz.f183 MI _ h
def dY:Ann:=(.q2 (.seq (.q2 (.cond .auto .auto) none) .auto (some [])) none)
def fE(p0:Option Addr)(K:Value→PT):PT:=
  L.join (Y:=Unit) (λk1=>L.nonnil p0 λa3=>L.load eI6 (a3.add 0) λ(x4:Int)=>L.ite (x4 != 1) (L.nonnil p0 λa5=>L.load eI6 (a5.add 0) λ(x6:Int)=>L.ite (x6 != 2) (K (I 9))<|k1 (()))<|k1 (())) λz2=>L.nonnil p0 λa7=>L.store (a7.add 0) [I 3]<|L.call Pr Vv [.pointer p0] (.tup []) λ(x8:Unit)=>K (I 0)
def dP(p0:Option Addr)(h:fE p0 K w):CV kg [.v (.pointer p0)] K w:=zC Tryz.f184 dY _ h
def kK(p0:Option Addr)(K:Value→PT):PT:=
  L.new [.pointer p0] XC λb1=>K (.func (.func jF) #[] #[.pointer (some (⟨b1,0,none⟩))])
def Mt(p0:Option Addr)(h:kK p0 K w):CV jq [.v (.pointer p0)] K w:=zC Tryz.f187 .auto _ h
def fK(p0:B0)(K:Value→PT):PT:=
  L.new [I 12,.string p0,.string s_,I 0,I 0,.string s_,I 0,I 0,I 0,I 0,I 0,.string s_,.string s_,.slice none 0 0,I 0] zq λb1=>K (.slice (some ⟨b1,0,none⟩) 1 1)
def dV(p0:B0)(h:fK p0 K w):CV xE [.v (.string p0)] K w:=zC Tryz.f188 .auto _ h
def dJ:ZN Pr xE:=zH (by kernel_rfl)
def fJ(p0:B0)(K:Value→PT):PT:=
  L.new [I 13,.string p0,.string s_,I 0,I 0,.string s_,I 0,I 0,I 0,I 0,I 0,.string s_,.string s_,.slice none 0 0,I 0] zq λb1=>K (.slice (some ⟨b1,0,none⟩) 1 1)
def dU(p0:B0)(h:fJ p0 K w):CV xD [.v (.string p0)] K w:=zC Tryz.f189 .auto _ h
def dI:ZN Pr xD:=zH (by kernel_rfl)
def fI(p0:B0)(c0:Addr)(K:Value→PT):PT:=
  L.load eP6 c0 λ(x1:Option Addr)=>L.call Pr pR [.pointer x1,.string p0] rL λ(x2:Sl)=>K (.slice x2.a x2.len x2.cap)
def dT(p0:B0)(c0:Addr)(h:fI p0 c0 K w):CV xC [.v (.string p0),.v (.pointer (some c0))] K w:=zC Tryz.f190 .auto _ h
def dH:ZN Pr xC:=zH (by kernel_rfl)
def Ag:Ann:=(.q2 (.q2 (.seq (.q2 (.one [(5,eL6),(12,eI6)] (.q2 (.q2 (.q2 .auto (some [(5,eL6)])) none) none)) none) .auto none) none) none)
def Nt(p0:Option Addr)(p1:B0)(K:Value→PT):PT:=
  L.call Pr xI [.pointer p0,.string p1] rL λ(x1:Sl)=>L.loop (Y:=Sl×Int×Unit) (⟨none,0,0⟩,0,()) λy2 again3=>L.ite (decide (y2.2.1<((x1.len:Nat):Int))) (L.join (Y:=Sl×Unit) (λk4=>L.idx x1.a y2.2.1 x1.len 3 λa6=>L.load (.agg [.int .i64,.int .i64,.int .i64]) a6 λ(x7:Int×Int×Int×Unit)=>L.new [I 0,I 0,I 0] JH λb8=>L.store (⟨b8,0,none⟩) [I x7.1,I x7.2.1,I x7.2.2.1]<|L.load eI6 (Ad6 b8 1) λ(x9:Int)=>L.ite (x9 == 1) (L.load eI6 (Ad6 b8 0) λ(x10:Int)=>L.new [I 6,.string s_,.string s_,I x10,I 0,.string s_,I 0,I 0,I 0,I 0,I 0,.string s_,.string s_,.slice none 0 0,I 0] zq λb11=>L.sem Pr (.one (.one .slice)) (Builtin.append_ #[xZ,xZ] xZ #[Sv6 y2.1,.slice (some ⟨b11,0,none⟩) 1 1]) λ(s12:Sl)=>k4 (⟨s12.a,s12.len,s12.cap⟩,()))<|k4 (⟨y2.1.a,y2.1.len,y2.1.cap⟩,())) λz5=>again3 (⟨z5.1.a,z5.1.len,z5.1.cap⟩,Wi (y2.2.1+1),()))<|K (.slice y2.1.a y2.1.len y2.1.cap)
def Ac(p0:Option Addr)(p1:B0)(h:Nt p0 p1 K w):CV pR [.v (.pointer p0),.v (.string p1)] K w:=zC Tryz.f191 Ag _ h
def fH(p0:B0)(c0:Addr)(K:Value→PT):PT:=
  L.load eP6 c0 λ(x1:Option Addr)=>L.call Pr GC [.pointer x1,.string p0] rL λ(x2:Sl)=>K (.slice x2.a x2.len x2.cap)
def dS(p0:B0)(c0:Addr)(h:fH p0 c0 K w):CV xB [.v (.string p0),.v (.pointer (some c0))] K w:=zC Tryz.f192 .auto _ h
def dG:ZN Pr xB:=zH (by kernel_rfl)
def LZ:Ann:=(.q2 (.q2 (.q2 (.seq (.q2 (.one [(5,eL6),(18,eI6)] .auto) none) .auto none) none) none) none)
def Tv(p0:Option Addr)(p1:B0)(K:Value→PT):PT:=
  L.call Pr JA [.pointer p0,.string p1] (.tup [eL6,eL6]) λ(x1:Sl×Sl×Unit)=>L.loop (Y:=Sl×Int×Unit) (⟨none,0,0⟩,0,()) λy2 again3=>L.ite (decide (y2.2.1<((x1.2.1.len:Nat):Int))) (L.idx x1.2.1.a y2.2.1 x1.2.1.len 1 λa4=>L.load eI6 a4 λ(x5:Int)=>L.new [I 5,.string s_,.string s_,I x5,I 0,.string s_,I 0,I 0,I 0,I 0,I 0,.string s_,.string s_,.slice none 0 0,I 0] zq λb6=>L.sem Pr (.one (.one .slice)) (Builtin.append_ #[xZ,xZ] xZ #[Sv6 y2.1,.slice (some ⟨b6,0,none⟩) 1 1]) λ(s7:Sl)=>again3 (⟨s7.a,s7.len,s7.cap⟩,Wi (y2.2.1+1),()))<|K (.slice y2.1.a y2.1.len y2.1.cap)
def LS(p0:Option Addr)(p1:B0)(h:Tv p0 p1 K w):CV GC [.v (.pointer p0),.v (.string p1)] K w:=zC Tryz.f193 LZ _ h
def dZ:Ann:=(.seq (.q2 (.one [(12,eI6)] (.q2 (.q2 (.seq (.q2 (.q2 (.one [(19,eI6)] (.q2 (.q2 (.seq (.q2 (.q2 (.one [(27,eI6)] .auto) none) none) .auto none) none) none)) none) none) .auto none) none) none)) none) .auto none)
def fG(p0:FV)(c0:Addr)(c1:Addr)(K:Value→PT):PT:=
  L.load eL6 c0 λ(x1:Sl)=>L.loop (Y:=Int×Unit) (0,()) λy2 again3=>L.ite (decide (y2.1<((x1.len:Nat):Int))) (L.idx x1.a y2.1 x1.len 1 λa4=>L.load (.one (.func)) a4 λ(x5:FV)=>L.load eP6 c1 λ(x6:Option Addr)=>L.call Pr jD [.pointer x6] rL λ(x7:Sl)=>L.loop (Y:=Int×Unit) (0,()) λy8 again9=>L.ite (decide (y8.1<((x7.len:Nat):Int))) (L.idx x7.a y8.1 x7.len 1 λa10=>L.load eS6 a10 λ(x11:B0)=>L.callV Pr (.func x5.fn x5.fs x5.cs) [.string x11] rL λ(x12:Sl)=>L.loop (Y:=Int×Unit) (0,()) λy13 again14=>L.ite (decide (y13.1<((x12.len:Nat):Int))) (L.idx x12.a y13.1 x12.len 15 λa15=>L.load (.agg lf1) a15 λ(x16:pt1)=>L.new [I 0,.string s_,.string s_,I 0,I 0,.string s_,I 0,I 0,I 0,I 0,I 0,.string s_,.string s_,.slice none 0 0,I 0] zq λb17=>L.store (⟨b17,0,none⟩) [I x16.1,.string x16.2.1,.string x16.2.2.1,I x16.2.2.2.1,I x16.2.2.2.2.1,.string x16.2.2.2.2.2.1,I x16.2.2.2.2.2.2.1,I x16.2.2.2.2.2.2.2.1,I x16.2.2.2.2.2.2.2.2.1,I x16.2.2.2.2.2.2.2.2.2.1,I x16.2.2.2.2.2.2.2.2.2.2.1,.string x16.2.2.2.2.2.2.2.2.2.2.2.1,.string x16.2.2.2.2.2.2.2.2.2.2.2.2.1,Sv6 x16.2.2.2.2.2.2.2.2.2.2.2.2.2.1,I x16.2.2.2.2.2.2.2.2.2.2.2.2.2.2.1]<|L.load (.agg lf1) (⟨b17,0,none⟩) λ(x18:pt1)=>L.callV Pr (.func p0.fn p0.fs p0.cs) [(qa1 x18)] rB λ(x19:Bool)=>L.ite (!x19) (K (.tuple #[]))<|again14 (Wi (y13.1+1),()))<|again9 (Wi (y8.1+1),()))<|again3 (Wi (y2.1+1),()))<|L.callV Pr (.func p0.fn p0.fs p0.cs) [.agg #[I 9,.string s_,.string s_,I 0,I 0,.string s_,I 0,I 0,I 0,I 0,I 0,.string s_,.string s_,.slice none 0 0,I 0]] rB λ(x20:Bool)=>K (.tuple #[])
def dR(p0:FV)(c0 c1:Addr)(h:fG p0 c0 c1 K w):CV qk [.v (.func p0.fn p0.fs p0.cs),.v (.pointer (some c0)),.v (.pointer (some c1))] K w:=zC Tryz.f194 dZ _ h
def dF:ZN Pr qk:=zH (by kernel_rfl)
def Ky:Ann:=(.q2 (.one [(7,eI6)] .auto) none)
def qQ(p0:FV)(c0:Addr)(K:Value→PT):PT:=
  L.load eL6 c0 λ(x1:Sl)=>L.loop (Y:=Int×Unit) (0,()) λy2 again3=>L.ite (decide (y2.1<((x1.len:Nat):Int))) (L.idx x1.a y2.1 x1.len 1 λa4=>L.load eL6 a4 λ(x5:Sl)=>L.callV Pr (.func p0.fn p0.fs p0.cs) [Sv6 x5] rB λ(x6:Bool)=>L.ite (!x6) (K (.tuple #[]))<|again3 (Wi (y2.1+1),()))<|K (.tuple #[])
def Ks(p0:FV)(c0:Addr)(h:qQ p0 c0 K w):CV Yc [.v (.func p0.fn p0.fs p0.cs),.v (.pointer (some c0))] K w:=zC Tryz.f195 Ky _ h
def Kq:ZN Pr Yc:=zH (by kernel_rfl)
def mn(p0:Sl)(K:Value→PT):PT:=
  L.new [Sv6 p0] jt λb1=>K (.func (.func Xw) #[] #[.pointer (some (⟨b1,0,none⟩))])
def NL(p0:Sl)(h:mn p0 K w):CV KS [.v (.slice p0.a p0.len p0.cap)] K w:=zC Tryz.f196 .auto _ h
def uB(p0:Sl)(K:Value→PT):PT:=
  L.ite ((p0.a).isNone) (K (.slice none 0 0))<|L.new [] jt λb1=>L.sem Pr (.one (.one .slice)) (Builtin.append_ #[ZI,ZI] ZI #[.slice (some ⟨b1,0,none⟩) 0 0,Sv6 p0]) λ(s2:Sl)=>K (.slice s2.a s2.len s2.cap)
def OW(p0:Sl)(h:uB p0 K w):CV xW [.v (.slice p0.a p0.len p0.cap)] K w:=zC Tryz.f197 .auto _ h
def Fk:Ann:=(.q2 (.q2 (.seq (.q2 (.one [(5,eI6),(12,eI6)] .auto) none) .auto none) none) none)
def vK(p0:Option Addr)(p1:Int)(K:Value→PT):PT:=
  L.call Pr uj [.pointer p0,I p1] rL λ(x1:Sl)=>L.loop (Y:=Int×Int×Unit) (0,0,()) λy2 again3=>L.ite (decide (y2.2.1<((x1.len:Nat):Int))) (L.idx x1.a y2.2.1 x1.len 1 λa4=>L.load (.one (.int .u8)) a4 λ(x5:Int)=>L.guard ((0:Int)≤8)<|again3 (Wi (((BitVec.ofInt 64 (Wi (y2.1*2 ^ (min (Int.toNat 8) 64)))) ||| (BitVec.ofInt 64 (Wi x5))).toNat:Int),Wi (y2.2.1+1),()))<|K (I y2.1)
def Ff(p0:Option Addr)(p1:Int)(h:vK p0 p1 K w):CV jH [.v (.pointer p0),.v (.int .i64 p1)] K w:=zC Tryz.f198 Fk _ h
def Ts(p0:Int)(K:Value→PT):PT:=
  L.call Pr UY [.int .i32 p0] rB λ(x1:Bool)=>L.ite x1 (K (.bool true))<|L.ite (decide (p0≥48)) (L.ite (decide (p0≤57)) (K (.bool true))<|K (.bool (p0 == 45)))<|K (.bool (p0 == 45))
def LP(p0:Int)(h:Ts p0 K w):CV GB [.v (.int .i32 p0)] K w:=zC Tryz.f204 .auto _ h
def mj(p0:Int)(K:Value→PT):PT:=
  L.ite (decide (p0≥97)) (K (.bool (decide (p0≤122))))<|K (.bool false)
def NJ(p0:Int)(h:mj p0 K w):CV UY [.v (.int .i32 p0)] K w:=zC Tryz.f205 .auto _ h
def je(p0:Sl)(p1:FV)(K:Value→PT):PT:=
  L.call Pr jG [Sv6 p0,.func p1.fn p1.fs p1.cs] rI λ(x1:Int)=>K (.bool (decide (x1≥0)))
def XG(p0:Sl)(p1:FV)(h:je p0 p1 K w):CV yF [.v (.slice p0.a p0.len p0.cap),.v (.func p1.fn p1.fs p1.cs)] K w:=zC Tryz.f206 .auto _ h
def Tn(p0:HT [.str,.str,.int .i64])(c0:Addr)(K:Value→PT):PT:=
  L.new [.string p0.1,.string p0.2.1,I p0.2.2.1] zG λb1=>L.load eS6 (Ad6 b1 1) λ(x2:B0)=>L.load eS6 (c0.add 1) λ(x3:B0)=>K (.bool (x2.toList == x3.toList))
def LL(p0:HT [.str,.str,.int .i64])(c0:Addr)(h:Tn p0 c0 K w):CV QK [.ag [.string p0.1,.string p0.2.1,.int .i64 p0.2.2.1],.v (.pointer (some c0))] K w:=zC Tryz.f207 .auto _ h
def LC:ZN Pr QK:=zH (by kernel_rfl)
def Jv(p0:Sl)(K:Value→PT):PT:=
  L.ite ((p0.a).isNone) (K (.slice none 0 0))<|L.new [] zG λb1=>L.sem Pr (.one (.one .slice)) (Builtin.append_ #[vj,vj] vj #[.slice (some ⟨b1,0,none⟩) 0 0,Sv6 p0]) λ(s2:Sl)=>K (.slice s2.a s2.len s2.cap)
def ut(p0:Sl)(h:Jv p0 K w):CV Yx [.v (.slice p0.a p0.len p0.cap)] K w:=zC Tryz.f211 .auto _ h
def kQ(p0:Option Addr)(p1:B0)(K:Value→PT):PT:=
  L.new [.slice none 0 0,.slice none 0 0] zp λb1=>L.nonnil p0 λa2=>L.load (.one (.map)) (a2.add 0) λ(x3:Option Nat)=>L.semR Pr (.tup [(.agg z0l),.one .bool]) (Instr.lookup YF (.map x3) (.string p1) true) λ(x4:z57)=>L.new [.slice none 0 0,.slice none 0 0,I 0,I 0,.slice none 0 0,.slice none 0 0] Yz λb5=>L.store (⟨b5,0,none⟩) [Sv6 x4.1.1,Sv6 x4.1.2.1,I x4.1.2.2.1,I x4.1.2.2.2.1,Sv6 x4.1.2.2.2.2.1,Sv6 x4.1.2.2.2.2.2.1]<|L.ite (!x4.2.1) (L.store (⟨b1,0,none⟩) [.slice none 0 0,.slice none 0 0]<|L.load (.agg [.slice,.slice]) (⟨b1,0,none⟩) λ(x6:Sl×Sl×Unit)=>K (.tuple #[.agg #[Sv6 x6.1,Sv6 x6.2.1],.bool false]))<|L.load (.agg [.slice,.slice]) (Ad6 b5 4) λ(x7:Sl×Sl×Unit)=>L.call Pr YQ [.agg #[Sv6 x7.1,Sv6 x7.2.1]] (.one (.agg [.slice,.slice])) λ(x8:Sl×Sl×Unit)=>L.store (⟨b1,0,none⟩) [Sv6 x8.1,Sv6 x8.2.1]<|L.load (.agg [.slice,.slice]) (⟨b1,0,none⟩) λ(x9:Sl×Sl×Unit)=>K (.tuple #[.agg #[Sv6 x9.1,Sv6 x9.2.1],.bool true])
def Mz(p0:Option Addr)(p1:B0)(h:kQ p0 p1 K w):CV ug [.v (.pointer p0),.v (.string p1)] K w:=zC Tryz.f214 .auto _ h
def PN:Ann:=(.q2 (.q2 (.q2 (.seq (.q2 (.q2 .auto (some [(28,eI6),(29,eP6)])) none) (.q2 (.seq (.q2 (.one [(41,eI6)] .auto) none) .auto none) none) none) none) none) none)
def oF(p0:Option Addr)(p1:B0)(p2:Int)(K:Value→PT):PT:=
  L.nonnil p0 λa1=>L.load (.one (.map)) (a1.add 1) λ(x2:Option Nat)=>L.semR Pr (.tup [eI6,.one .bool]) (Instr.lookup Zm (.map x2) (I p2) true) λ(x3:Int×Bool×Unit)=>L.ite x3.2.1 (K (.tuple #[I 0,.bool false]))<|L.new [.slice none 0 0] yi λb4=>L.call Pr JS [.pointer p0,.string p1] (.one (.one (.func))) λ(x5:FV)=>L.range Pr none (.func x5.fn x5.fs x5.cs) [eI6,eP6] (λl6(y7:Int×Option Addr×Unit) R8=>L.begin Pr l6<|L.draw<|L.load eL6 (⟨b4,0,none⟩) λ(x11:Sl)=>L.call Pr jk [.pointer y7.2.1] rI λ(x12:Int)=>L.chk (⟨b4,0,none⟩) [Sv6 x11]<|L.new [I x12,I y7.1] zz λb13=>L.chk (⟨b4,0,none⟩) [Sv6 x11]<|L.sem Pr (.one (.one .slice)) (Builtin.append_ #[yi,yi] yi #[Sv6 x11,.slice (some ⟨b13,0,none⟩) 1 1]) λ(s14:Sl)=>L.store (⟨b4,0,none⟩) [Sv6 s14]<|L.endRound Pr l6 none R8) λd9 j10=>L.jump j10 (L.load eL6 (⟨b4,0,none⟩) λ(x15:Sl)=>L.call Pr ZF [Sv6 x15,.func (.func Zj) #[] #[]] (.tup []) λ(x16:Unit)=>L.load eL6 (⟨b4,0,none⟩) λ(x17:Sl)=>L.loop (Y:=Int×Unit) (0,()) λy18 again19=>L.ite (decide (y18.1<((x17.len:Nat):Int))) (L.idx x17.a y18.1 x17.len 2 λa20=>L.load (.agg [.int .i64,.int .i64]) a20 λ(x21:Int×Int×Unit)=>L.new [I 0,I 0] zz λb22=>L.store (⟨b22,0,none⟩) [I x21.1,I x21.2.1]<|L.draw<|L.nonnil p0 λa23=>L.load (.one (.map)) (a23.add 0) λ(x24:Option Nat)=>L.load eI6 (Ad6 b22 1) λ(x25:Int)=>L.semR Pr (.one (.agg [.str,.ptr])) (Instr.lookup Zf (.map x24) (I x25) false) λ(x26:B0×Option Addr×Unit)=>L.call Pr UT [.pointer x26.2.1,I p2] rI λ(x27:Int)=>L.ite (x27 == 0) (L.draw<|L.nonnil p0 λa28=>L.load (.one (.map)) (a28.add 1) λ(x29:Option Nat)=>L.load eI6 (Ad6 b22 1) λ(x30:Int)=>L.semU Pr (Instr.mapUpdate Zm (.map x29) (I p2) (I x30))<|L.load eI6 (Ad6 b22 1) λ(x31:Int)=>L.unmark Pr (d9++[])<|K (.tuple #[I x31,.bool true]))<|again19 (Wi (y18.1+1),()))<|L.unmark Pr (d9++[])<|K (.tuple #[I 0,.bool false])) (L.unmark Pr (d9++[])<|K (.tuple #[I 0,.bool false])) []
def PA(p0:Option Addr)(p1:B0)(p2:Int)(h:oF p0 p1 p2 K w):CV Ua [.v (.pointer p0),.v (.string p1),.v (.int .i64 p2)] K w:=zC Tryz.f215 PN _ h
def PF:Ann:=(.q2 (.seq (.q2 (.q2 .auto (some [(8,eI6),(9,eI6)])) none) .auto none) none)
def ol(p0:Option Addr)(p1:Int)(K:Value→PT):PT:=
  L.new [I p1] zx λb1=>L.new [.bool false] yP λb2=>L.call Pr jq [.pointer p0] (.one (.one (.func))) λ(x3:FV)=>L.range Pr none (.func x3.fn x3.fs x3.cs) [eI6,eI6] (λl4(y5:Int×Int×Unit) R6=>L.begin Pr l4<|L.load eI6 (⟨b1,0,none⟩) λ(x9:Int)=>L.ite (y5.1 == x9) (L.store (⟨b2,0,none⟩) [.bool true]<|L.endRound Pr l4 (some .ret) R6)<|L.endRound Pr l4 none R6) λd7 j8=>L.jump j8 (L.store (⟨b2,0,none⟩) [.bool false]<|L.unmark Pr (d7++[])<|L.load eB6 (⟨b2,0,none⟩) λ(x10:Bool)=>K (.bool x10)) (L.unmark Pr (d7++[])<|L.load eB6 (⟨b2,0,none⟩) λ(x11:Bool)=>K (.bool x11)) []
def Pk(p0:Option Addr)(p1:Int)(h:ol p0 p1 K w):CV uS [.v (.pointer p0),.v (.int .i64 p1)] K w:=zC Tryz.f216 PF _ h
def Cr:Ann:=(.q2 (.one [(7,eI6)] .auto) none)
def gL(p0:FV)(c0:Addr)(K:Value→PT):PT:=
  L.load eL6 c0 λ(x1:Sl)=>L.loop (Y:=Int×Unit) (0,()) λy2 again3=>L.ite (decide (y2.1<((x1.len:Nat):Int))) (L.idx x1.a y2.1 x1.len 4 λa4=>L.load (.agg [.int .i64,.int .i64,.int .i64,.str]) a4 λ(x5:KO)=>L.new [I 0,I 0,I 0,.string s_] zD λb6=>L.store (⟨b6,0,none⟩) [I x5.1,I x5.2.1,I x5.2.2.1,.string x5.2.2.2.1]<|L.load (.agg [.int .i64,.int .i64,.int .i64,.str]) (⟨b6,0,none⟩) λ(x7:KO)=>L.call Pr OK [.agg #[I x7.1,I x7.2.1,I x7.2.2.1,.string x7.2.2.2.1]] rS λ(x8:B0)=>L.callV Pr (.func p0.fn p0.fs p0.cs) [.string x8] rB λ(x9:Bool)=>L.ite (!x9) (K (.tuple #[]))<|again3 (Wi (y2.1+1),()))<|K (.tuple #[])
def cZ(p0:FV)(c0:Addr)(h:gL p0 c0 K w):CV Xq [.v (.func p0.fn p0.fs p0.cs),.v (.pointer (some c0))] K w:=zC Tryz.f217 Cr _ h
def cR:ZN Pr Xq:=zH (by kernel_rfl)
def wM:Ann:=(.q2 (.q2 (.seq (.one [(2,eS6)] .auto) .auto none) none) none)
def pg(p0:ht3)(K:Value→PT):PT:=
  L.new [I p0.1,I p0.2.1,I p0.2.2.1,.string p0.2.2.2.1] zD λb1=>L.load eI6 (Ad6 b1 1) λ(x2:Int)=>L.ite (x2 == 1) (L.load eI6 (Ad6 b1 0) λ(x3:Int)=>L.load eI6 (Ad6 b1 2) λ(x4:Int)=>L.new [I x3,I x4] zx λb5=>L.call Pr zR [.string By,.slice (some ⟨b5,0,none⟩) 2 2] rS λ(x6:B0)=>K (.string x6))<|L.ite (x2 == 2) (L.load eI6 (Ad6 b1 0) λ(x7:Int)=>L.new [I x7] zx λb8=>L.call Pr zR [.string Ar,.slice (some ⟨b8,0,none⟩) 1 1] rS λ(x9:B0)=>K (.string x9))<|L.ite (x2 == 3) (L.load eI6 (Ad6 b1 0) λ(x10:Int)=>L.new [I x10] zx λb11=>L.call Pr zR [.string Bz,.slice (some ⟨b11,0,none⟩) 1 1] rS λ(x12:B0)=>K (.string x12))<|L.join (Y:=B0×Unit) (λk13=>L.draw<|L.load eI6 (Ad6 b1 0) λ(x15:Int)=>L.load eS6 (Ad6 b1 3) λ(x16:B0)=>L.alts [(L.new [I x15] zx λb17=>L.chk (Ad6 b1 3) [.string x16]<|L.alts [(L.call Pr zR [.string Uo,.slice (some ⟨b17,0,none⟩) 1 1] rS λ(x18:B0)=>L.chk (Ad6 b1 3) [.string x16]<|L.new [.string x16] zc λb19=>L.chk (Ad6 b1 0) [I x15]<|L.call Pr zQ [.string x18,.slice (some ⟨b19,0,none⟩) 1 1] rS λ(x20:B0)=>k13 (x20,())),(L.new [.string x16] zc λb21=>L.chk (Ad6 b1 0) [I x15]<|L.call Pr zR [.string Uo,.slice (some ⟨b17,0,none⟩) 1 1] rS λ(x22:B0)=>L.chk (Ad6 b1 3) [.string x16]<|L.call Pr zQ [.string x22,.slice (some ⟨b21,0,none⟩) 1 1] rS λ(x23:B0)=>k13 (x23,()))]),(L.new [.string x16] zc λb24=>L.chk (Ad6 b1 0) [I x15]<|L.new [I x15] zx λb25=>L.chk (Ad6 b1 3) [.string x16]<|L.call Pr zR [.string Uo,.slice (some ⟨b25,0,none⟩) 1 1] rS λ(x26:B0)=>L.chk (Ad6 b1 3) [.string x16]<|L.call Pr zQ [.string x26,.slice (some ⟨b24,0,none⟩) 1 1] rS λ(x27:B0)=>k13 (x27,()))]) λz14=>K (.string z14.1)
def wn(p0:ht3)(h:pg p0 K w):CV OK [.ag (qc3 p0)] K w:=zC Tryz.f218 wM _ h
def mg(p0:Option Addr)(p1:Int)(K:Value→PT):PT:=
  L.nonnil p0 λa1=>L.call Pr XS [.pointer (some (a1.add 1)),I p1] rI λ(x2:Int)=>L.call Pr Vv [.pointer p0] (.tup []) λ(x3:Unit)=>K (I x2)
def NH(p0:Option Addr)(p1:Int)(h:mg p0 p1 K w):CV UV [.v (.pointer p0),.v (.int .i64 p1)] K w:=zC Tryz.f219 .auto _ h
def kO(p0:FV)(K:Value→PT):PT:=
  L.call Pr VJ [.func p0.fn p0.fs p0.cs] rL λ(x1:Sl)=>L.call Pr qB [Sv6 x1] (.tup []) λ(x2:Unit)=>K (.slice x1.a x1.len x1.cap)
def Mx(p0:FV)(h:kO p0 K w):CV jr [.v (.func p0.fn p0.fs p0.cs)] K w:=zC Tryz.f220 .auto _ h
def xw(p0:Option Nat)(K:Value→PT):PT:=
  L.new [.map p0] Yk λb1=>K (.func (.func ZK) #[] #[.pointer (some (⟨b1,0,none⟩))])
def UE(p0:Option Nat)(h:xw p0 K w):CV ja [.v (.map p0)] K w:=zC Tryz.f221 .auto _ h
def ov(p0:Option Addr)(p1:Int)(K:Value→PT):PT:=
  L.nonnil p0 λa1=>L.load (.one (.map)) (a1.add 0) λ(x2:Option Nat)=>L.semR Pr rB (Instr.lookup Yk (.map x2) (I p1) false) λ(x3:Bool)=>L.ite (!x3) (K (I 6))<|L.nonnil p0 λa4=>L.load (.one (.map)) (a4.add 0) λ(x5:Option Nat)=>L.sem Pr (.tup []) (Builtin.delete_ #[Yk,zx] T_ #[.map x5,I p1]) λ_=>K (I 0)
def Pq(p0:Option Addr)(p1:Int)(h:ov p0 p1 K w):CV XS [.v (.pointer p0),.v (.int .i64 p1)] K w:=zC Tryz.f222 .auto _ h
def fD(p0:Option Addr)(K:Value→PT):PT:=
  L.nonnil p0 λa1=>L.load eI6 (a1.add 0) λ(x2:Int)=>K (I x2)
def dO(p0:Option Addr)(h:fD p0 K w):CV yQ [.v (.pointer p0)] K w:=zC Tryz.f223 .auto _ h
def kz:Ann:=(.q2 (.one [(12,eI6)] .auto) none)
def qr(p0:FV)(c0:Addr)(K:Value→PT):PT:=
  L.load eP6 c0 λ(x1:Option Addr)=>L.nonnil x1 λa2=>L.load (.one (.map)) (a2.add 0) λ(x3:Option Nat)=>L.call Pr yd [.map x3] (.one (.one (.func))) λ(x4:FV)=>L.call Pr ZW [.func x4.fn x4.fs x4.cs] rL λ(x5:Sl)=>L.loop (Y:=Int×Unit) (0,()) λy6 again7=>L.ite (decide (y6.1<((x5.len:Nat):Int))) (L.idx x5.a y6.1 x5.len 1 λa8=>L.load eS6 a8 λ(x9:B0)=>L.load eP6 c0 λ(x10:Option Addr)=>L.nonnil x10 λa11=>L.load (.one (.map)) (a11.add 0) λ(x12:Option Nat)=>L.semR Pr rP (Instr.lookup ZB (.map x12) (.string x9) false) λ(x13:Option Addr)=>L.callV Pr (.func p0.fn p0.fs p0.cs) [.string x9,.pointer x13] rB λ(x14:Bool)=>L.ite (!x14) (K (.tuple #[]))<|again7 (Wi (y6.1+1),()))<|K (.tuple #[])
def ky(p0:FV)(c0:Addr)(h:qr p0 c0 K w):CV yR [.v (.func p0.fn p0.fs p0.cs),.v (.pointer (some c0))] K w:=zC Tryz.f224 kz _ h
def kw:ZN Pr yR:=zH (by kernel_rfl)
def vq(p0:FV)(K:Value→PT):PT:=
  L.call Pr Ur [.func p0.fn p0.fs p0.cs] rL λ(x1:Sl)=>L.call Pr JB [Sv6 x1] (.tup []) λ(x2:Unit)=>K (.slice x1.a x1.len x1.cap)
def GW(p0:FV)(h:vq p0 K w):CV ZW [.v (.func p0.fn p0.fs p0.cs)] K w:=zC Tryz.f225 .auto _ h
def Ym(p0:Option Nat)(K:Value→PT):PT:=
  L.new [.map p0] ZB λb1=>K (.func (.func zV) #[] #[.pointer (some (⟨b1,0,none⟩))])
def xu(p0:Option Nat)(h:Ym p0 K w):CV yd [.v (.map p0)] K w:=zC Tryz.f226 .auto _ h
def MG:Ann:=(.q2 (.q2 (.q2 (.seq (.q2 (.q2 .auto (some [(11,eI6),(12,eI6)])) none) .auto none) none) none) none)
def kJ(p0:Option Addr)(p1:Int)(K:Value→PT):PT:=
  L.new [I p1] zx λb1=>L.new [.slice none 0 0] ZS λb2=>L.new [.slice none 0 0] yE λb3=>L.call Pr jq [.pointer p0] (.one (.one (.func))) λ(x4:FV)=>L.range Pr none (.func x4.fn x4.fs x4.cs) [eI6,eI6] (λl5(y6:Int×Int×Unit) R7=>L.begin Pr l5<|L.load eI6 (⟨b1,0,none⟩) λ(x10:Int)=>L.ite (decide (y6.2.1≤x10)) (L.load eL6 (⟨b2,0,none⟩) λ(x11:Sl)=>L.new [I y6.1] zx λb12=>L.sem Pr (.one (.one .slice)) (Builtin.append_ #[ZS,ZS] ZS #[Sv6 x11,.slice (some ⟨b12,0,none⟩) 1 1]) λ(s13:Sl)=>L.store (⟨b2,0,none⟩) [Sv6 s13]<|L.endRound Pr l5 none R7)<|L.load eL6 (⟨b3,0,none⟩) λ(x14:Sl)=>L.new [I y6.1,I y6.2.1] jx λb15=>L.sem Pr (.one (.one .slice)) (Builtin.append_ #[yE,yE] yE #[Sv6 x14,.slice (some ⟨b15,0,none⟩) 1 1]) λ(s16:Sl)=>L.store (⟨b3,0,none⟩) [Sv6 s16]<|L.endRound Pr l5 none R7) λd8 j9=>L.jump j9 (L.load eL6 (⟨b3,0,none⟩) λ(x17:Sl)=>L.nonnil p0 λa18=>L.store (a18.add 0) [Sv6 x17]<|L.load eL6 (⟨b2,0,none⟩) λ(x19:Sl)=>L.call Pr ZX [Sv6 x19] rL λ(x20:Sl)=>L.unmark Pr (d8++[])<|K (.slice x20.a x20.len x20.cap)) (L.unmark Pr (d8++[])<|K (.slice none 0 0)) []
def Ms(p0:Option Addr)(p1:Int)(h:kJ p0 p1 K w):CV kD [.v (.pointer p0),.v (.int .i64 p1)] K w:=zC Tryz.f227 MG _ h
def xR(p0:Option Nat)(K:Value→PT):PT:=
  L.call Pr yJ [.map p0] (.one (.one (.func))) λ(x1:FV)=>L.call Pr ZW [.func x1.fn x1.fs x1.cs] rL λ(x2:Sl)=>K (.slice x2.a x2.len x2.cap)
def vw(p0:Option Nat)(h:xR p0 K w):CV Yb [.v (.map p0)] K w:=zC Tryz.f228 .auto _ h
def kN(p0:Option Addr)(p1:B0)(K:Value→PT):PT:=
  L.call Pr Xk [.pointer p0,.string p1,.func (.func xq) #[] #[]] rS λ(x1:B0)=>L.call Pr Xk [.pointer p0,.string p1,.func (.func Yv) #[.pointer p0] #[]] rS λ(x2:B0)=>K (.tuple #[.string x1,.string x2])
def Mw(p0:Option Addr)(p1:B0)(h:kN p0 p1 K w):CV uf [.v (.pointer p0),.v (.string p1)] K w:=zC Tryz.f229 .auto _ h
def KB:Ann:=(.q2 (.one [(9,eI6)] .auto) none)
def qU(p0:FV)(c0:Addr)(K:Value→PT):PT:=
  L.load (.one (.map)) c0 λ(x1:Option Nat)=>L.call Pr Yr [.map x1] (.one (.one (.func))) λ(x2:FV)=>L.call Pr ZW [.func x2.fn x2.fs x2.cs] rL λ(x3:Sl)=>L.loop (Y:=Int×Unit) (0,()) λy4 again5=>L.ite (decide (y4.1<((x3.len:Nat):Int))) (L.idx x3.a y4.1 x3.len 1 λa6=>L.load eS6 a6 λ(x7:B0)=>L.load (.one (.map)) c0 λ(x8:Option Nat)=>L.semR Pr rI (Instr.lookup ZE (.map x8) (.string x7) false) λ(x9:Int)=>L.callV Pr (.func p0.fn p0.fs p0.cs) [.string x7,I x9] rB λ(x10:Bool)=>L.ite (!x10) (K (.tuple #[]))<|again5 (Wi (y4.1+1),()))<|K (.tuple #[])
def Kw(p0:FV)(c0:Addr)(h:qU p0 c0 K w):CV Yd [.v (.func p0.fn p0.fs p0.cs),.v (.pointer (some c0))] K w:=zC Tryz.f230 KB _ h
def Kr:ZN Pr Yd:=zH (by kernel_rfl)
def Jm(p0:Option Nat)(K:Value→PT):PT:=
  L.new [.map p0] ZE λb1=>K (.func (.func Zo) #[] #[.pointer (some (⟨b1,0,none⟩))])
def QT(p0:Option Nat)(h:Jm p0 K w):CV Yr [.v (.map p0)] K w:=zC Tryz.f231 .auto _ h
def Vq:Ann:=(.q2 (.one [(9,eI6)] .auto) none)
def XF(p0:FV)(c0:Addr)(K:Value→PT):PT:=
  L.load (.one (.map)) c0 λ(x1:Option Nat)=>L.call Pr yG [.map x1] (.one (.one (.func))) λ(x2:FV)=>L.call Pr ZW [.func x2.fn x2.fs x2.cs] rL λ(x3:Sl)=>L.loop (Y:=Int×Unit) (0,()) λy4 again5=>L.ite (decide (y4.1<((x3.len:Nat):Int))) (L.idx x3.a y4.1 x3.len 1 λa6=>L.load eS6 a6 λ(x7:B0)=>L.load (.one (.map)) c0 λ(x8:Option Nat)=>L.semR Pr rS (Instr.lookup Zi (.map x8) (.string x7) false) λ(x9:B0)=>L.callV Pr (.func p0.fn p0.fs p0.cs) [.string x7,.string x9] rB λ(x10:Bool)=>L.ite (!x10) (K (.tuple #[]))<|again5 (Wi (y4.1+1),()))<|K (.tuple #[])
def Vo(p0:FV)(c0:Addr)(h:XF p0 c0 K w):CV yz [.v (.func p0.fn p0.fs p0.cs),.v (.pointer (some c0))] K w:=zC Tryz.f232 Vq _ h
def Vm:ZN Pr yz:=zH (by kernel_rfl)
def jf(p0:Option Nat)(K:Value→PT):PT:=
  L.new [.map p0] Zi λb1=>K (.func (.func Zc) #[] #[.pointer (some (⟨b1,0,none⟩))])
def XH(p0:Option Nat)(h:jf p0 K w):CV yG [.v (.map p0)] K w:=zC Tryz.f233 .auto _ h
def xn(p0:Sl)(K:Value→PT):PT:=
  L.ite ((p0.a).isNone) (K (.slice none 0 0))<|L.new [] zW λb1=>L.sem Pr (.one (.one .slice)) (Builtin.append_ #[Zk,Zk] Zk #[.slice (some ⟨b1,0,none⟩) 0 0,Sv6 p0]) λ(s2:Sl)=>K (.slice s2.a s2.len s2.cap)
def Uk(p0:Sl)(h:xn p0 K w):CV Zq [.v (.slice p0.a p0.len p0.cap)] K w:=zC Tryz.f234 .auto _ h
def xm(p0:Sl)(K:Value→PT):PT:=
  L.ite ((p0.a).isNone) (K (.slice none 0 0))<|L.new [] jy λb1=>L.sem Pr (.one (.one .slice)) (Builtin.append_ #[xY,xY] xY #[.slice (some ⟨b1,0,none⟩) 0 0,Sv6 p0]) λ(s2:Sl)=>K (.slice s2.a s2.len s2.cap)
def Uj(p0:Sl)(h:xm p0 K w):CV YP [.v (.slice p0.a p0.len p0.cap)] K w:=zC Tryz.f235 .auto _ h
def Vp:Ann:=(.q2 (.q2 (.seq (.q2 (.one [(5,eL6),(12,eI6)] (.q2 (.q2 (.seq (.q2 (.q2 (.one [(5,eL6),(18,eI6)] .auto) none) none) .auto none) none) none)) none) .auto none) none) none)
def XE(p0:FV)(p1:Sl)(K:Value→PT):PT:=
  L.loop (Y:=Sl×Int×Unit) (⟨none,0,0⟩,0,()) λy1 again2=>L.ite (decide (y1.2.1<((p1.len:Nat):Int))) (L.idx p1.a y1.2.1 p1.len 1 λa3=>L.load eL6 a3 λ(x4:Sl)=>L.loop (Y:=Sl×Int×Unit) (⟨y1.1.a,y1.1.len,y1.1.cap⟩,0,()) λy5 again6=>L.ite (decide (y5.2.1<((x4.len:Nat):Int))) (L.idx x4.a y5.2.1 x4.len 2 λa7=>L.load (.agg [.str,.int .i64]) a7 λ(x8:B0×Int×Unit)=>L.new [.string s_,I 0] zW λb9=>L.store (⟨b9,0,none⟩) [.string x8.1,I x8.2.1]<|L.load (.agg [.str,.int .i64]) (⟨b9,0,none⟩) λ(x10:B0×Int×Unit)=>L.callV Pr (.func p0.fn p0.fs p0.cs) [.agg #[.string x10.1,I x10.2.1]] rS λ(x11:B0)=>L.new [.string x11] zc λb12=>L.sem Pr (.one (.one .slice)) (Builtin.append_ #[zj,zj] zj #[Sv6 y5.1,.slice (some ⟨b12,0,none⟩) 1 1]) λ(s13:Sl)=>again6 (⟨s13.a,s13.len,s13.cap⟩,Wi (y5.2.1+1),()))<|again2 (⟨y5.1.a,y5.1.len,y5.1.cap⟩,Wi (y1.2.1+1),()))<|L.call Pr JB [Sv6 y1.1] (.tup []) λ(x14:Unit)=>L.call Pr Xs [Sv6 y1.1] rL λ(x15:Sl)=>K (.slice x15.a x15.len x15.cap)
def Vn(p0:FV)(p1:Sl)(h:XE p0 p1 K w):CV jR [.v (.func p0.fn p0.fs p0.cs),.v (.slice p1.a p1.len p1.cap)] K w:=zC Tryz.f236 Vp _ h
def Nm(p0:HT [.str,.int .i64])(K:Value→PT):PT:=
  L.new [.string p0.1,I p0.2.1] zW λb1=>L.load eS6 (Ad6 b1 0) λ(x2:B0)=>K (.string x2)
def aW(p0:HT [.str,.int .i64])(h:Nm p0 K w):CV Gz [.ag [.string p0.1,.int .i64 p0.2.1]] K w:=zC Tryz.f237 .auto _ h
def aS:ZN Pr Gz:=zH (by kernel_rfl)
def pm(p0:Sl)(p1:B0)(K:Value→PT):PT:=
  L.new [.string p1] zc λb1=>L.call Pr Jb [Sv6 p0,.func (.func uN) #[] #[.pointer (some (⟨b1,0,none⟩))]] rI λ(x2:Int)=>L.ite (decide (x2<0)) (K (I 0))<|L.idx p0.a x2 p0.len 2 λa3=>L.load eI6 (a3.add 1) λ(x4:Int)=>K (I x4)
def wu(p0:Sl)(p1:B0)(h:pm p0 p1 K w):CV qv [.v (.slice p0.a p0.len p0.cap),.v (.string p1)] K w:=zC Tryz.f238 .auto _ h
def PO:Ann:=(.q2 (.q2 (.seq (.q2 (.q2 .auto (some [(11,eI6),(12,eP6)])) none) .auto none) none) none)
def oG(p0:Option Addr)(p1:B0)(K:Value→PT):PT:=
  L.new [.slice none 0 0] yU λb1=>L.call Pr JS [.pointer p0,.string p1] (.one (.one (.func))) λ(x2:FV)=>L.range Pr none (.func x2.fn x2.fs x2.cs) [eI6,eP6] (λl3(y4:Int×Option Addr×Unit) R5=>L.begin Pr l3<|L.draw<|L.load eL6 (⟨b1,0,none⟩) λ(x8:Sl)=>L.call Pr yQ [.pointer y4.2.1] rI λ(x9:Int)=>L.chk (⟨b1,0,none⟩) [Sv6 x8]<|L.call Pr jk [.pointer y4.2.1] rI λ(x10:Int)=>L.chk (⟨b1,0,none⟩) [Sv6 x8]<|L.new [I y4.1,I x9,I x10] JH λb11=>L.chk (⟨b1,0,none⟩) [Sv6 x8]<|L.sem Pr (.one (.one .slice)) (Builtin.append_ #[yU,yU] yU #[Sv6 x8,.slice (some ⟨b11,0,none⟩) 1 1]) λ(s12:Sl)=>L.store (⟨b1,0,none⟩) [Sv6 s12]<|L.endRound Pr l3 none R5) λd6 j7=>L.jump j7 (L.load eL6 (⟨b1,0,none⟩) λ(x13:Sl)=>L.call Pr Yw [Sv6 x13] rL λ(x14:Sl)=>L.unmark Pr (d6++[])<|K (.slice x14.a x14.len x14.cap)) (L.unmark Pr (d6++[])<|K (.slice none 0 0)) []
def PB(p0:Option Addr)(p1:B0)(h:oG p0 p1 K w):CV Ub [.v (.pointer p0),.v (.string p1)] K w:=zC Tryz.f239 PO _ h
def Gk:Ann:=(.q2 (.one [(3,eI6)] .auto) none)
def UB(p0:FV)(c0:Addr)(K:Value→PT):PT:=
  L.loop (Y:=Int×Unit) (1,()) λy1 again2=>L.load eP6 c0 λ(x3:Option Addr)=>L.nonnil x3 λa4=>L.load eI6 (a4.add 60) λ(x5:Int)=>L.ite (decide (y1.1≤(if 60<x5 then 60 else x5))) (L.draw<|L.load eP6 c0 λ(x6:Option Addr)=>L.load eP6 c0 λ(x7:Option Addr)=>L.nonnil x7 λa8=>L.load eI6 (a8.add 60) λ(x9:Int)=>L.guard (60≠(0:Int))<|L.nonnil x6 λa10=>L.idx (some (a10.add 0)) (Int.tmod (Wi (x9-y1.1)) 60) 60 1 λa11=>L.load eI6 a11 λ(x12:Int)=>L.callV Pr (.func p0.fn p0.fs p0.cs) [I x12] rB λ(x13:Bool)=>L.ite (!x13) (K (.tuple #[]))<|again2 (Wi (y1.1+1),()))<|K (.tuple #[])
def Gh(p0:FV)(c0:Addr)(h:UB p0 c0 K w):CV YY [.v (.func p0.fn p0.fs p0.cs),.v (.pointer (some c0))] K w:=zC Tryz.f240 Gk _ h
def Gc:ZN Pr YY:=zH (by kernel_rfl)
def gW(p0:Option Addr)(p1:B0)(K:Value→PT):PT:=
  L.new [.pointer p0] ZO λb1=>L.new [.string p1] zc λb2=>K (.func (.func xf) #[] #[.pointer (some (⟨b1,0,none⟩)),.pointer (some (⟨b2,0,none⟩))])
def Cm(p0:Option Addr)(p1:B0)(h:gW p0 p1 K w):CV JS [.v (.pointer p0),.v (.string p1)] K w:=zC Tryz.f241 .auto _ h
def ow(p0:Option Addr)(K:Value→PT):PT:=
  L.nonnil p0 λa1=>L.load (.one (.map)) ((a1.add 1).add 0) λ(x2:Option Nat)=>L.semR Pr rI (Builtin.len_ #[Yk] zx #[.map x2]) λ(x3:Int)=>K (I x3)
def mI(p0:Option Addr)(h:ow p0 K w):CV jk [.v (.pointer p0)] K w:=zC Tryz.f242 .auto _ h
def wQ:Ann:=(.q2 (.cond .auto .auto) none)
def po(p0:Option Addr)(K:Value→PT):PT:=
  L.nonnil p0 λa1=>L.load eI6 (a1.add 0) λ(x2:Int)=>L.ite (x2 == 3) (L.call Pr jk [.pointer p0] rI λ(x3:Int)=>L.ite (x3 == 0) (L.nonnil p0 λa4=>L.store (a4.add 0) [I 4]<|K (.tuple #[]))<|K (.tuple #[]))<|K (.tuple #[])
def wx(p0:Option Addr)(h:po p0 K w):CV Vv [.v (.pointer p0)] K w:=zC Tryz.f243 wQ _ h
def Fg:Ann:=(.q2 (.one [(10,eI6)] .auto) none)
def vD(p0:FV)(c0:Addr)(K:Value→PT):PT:=
  L.load eP6 c0 λ(x1:Option Addr)=>L.nonnil x1 λa2=>L.load eL6 (a2.add 0) λ(x3:Sl)=>L.loop (Y:=Int×Unit) (0,()) λy4 again5=>L.ite (decide (y4.1<((x3.len:Nat):Int))) (L.idx x3.a y4.1 x3.len 2 λa6=>L.load (.agg [.int .i64,.int .i64]) a6 λ(x7:Int×Int×Unit)=>L.new [I 0,I 0] jx λb8=>L.store (⟨b8,0,none⟩) [I x7.1,I x7.2.1]<|L.load eI6 (Ad6 b8 0) λ(x9:Int)=>L.load eI6 (Ad6 b8 1) λ(x10:Int)=>L.callV Pr (.func p0.fn p0.fs p0.cs) [I x9,I x10] rB λ(x11:Bool)=>L.ite (!x11) (K (.tuple #[]))<|again5 (Wi (y4.1+1),()))<|K (.tuple #[])
def fV(p0:FV)(c0:Addr)(h:vD p0 c0 K w):CV jF [.v (.func p0.fn p0.fs p0.cs),.v (.pointer (some c0))] K w:=zC Tryz.f255 Fg _ h
def fQ:ZN Pr jF:=zH (by kernel_rfl)
def Cx:Ann:=(.one [] (.q2 (.q2 (.seq (.q2 (.cond .auto (.seq (.one [(3,eI6)] .auto) .auto none)) none) .auto (some [(3,eI6)])) none) none))
def gZ(p0:FV)(c0:Addr)(K:Value→PT):PT:=
  L.loop (Y:=Unit) (()) λy1 again2=>L.load eL6 c0 λ(x3:Sl)=>L.ite (decide (((x3.len:Nat):Int)>0)) (L.join (Y:=Int×Unit) (λk4=>L.load eL6 c0 λ(x6:Sl)=>L.ite (decide (((x6.len:Nat):Int)<2)) (L.load eL6 c0 λ(x7:Sl)=>k4 (((x7.len:Nat):Int),()))<|L.join (Y:=Int×Unit) (λk8=>L.draw<|L.load eL6 c0 λ(x10:Sl)=>L.idx x10.a 0 x10.len 1 λa11=>L.load (.one (.int .u8)) a11 λ(x12:Int)=>L.load eL6 c0 λ(x13:Sl)=>L.idx x13.a 1 x13.len 1 λa14=>L.load (.one (.int .u8)) a14 λ(x15:Int)=>L.load eL6 c0 λ(x16:Sl)=>L.alts [(L.chk c0 [Sv6 x16]<|L.chk a14 [.int .u8 x15]<|L.chk c0 [Sv6 x13]<|L.guard ((0:Int)≤8)<|L.chk c0 [Sv6 x16]<|L.chk a11 [.int .u8 x12]<|L.chk c0 [Sv6 x10]<|k8 (if(Wi (((x16.len:Nat):Int)-2))<(Wi (((BitVec.ofInt 64 (Wi ((Wi x12)*2 ^ (min (Int.toNat 8) 64)))) ||| (BitVec.ofInt 64 (Wi x15))).toNat:Int))then(Wi (((x16.len:Nat):Int)-2))else(Wi (((BitVec.ofInt 64 (Wi ((Wi x12)*2 ^ (min (Int.toNat 8) 64)))) ||| (BitVec.ofInt 64 (Wi x15))).toNat:Int)),())),(L.chk c0 [Sv6 x16]<|L.chk a11 [.int .u8 x12]<|L.chk c0 [Sv6 x10]<|L.chk c0 [Sv6 x16]<|L.chk a14 [.int .u8 x15]<|L.chk c0 [Sv6 x13]<|L.guard ((0:Int)≤8)<|k8 (if(Wi (((x16.len:Nat):Int)-2))<(Wi (((BitVec.ofInt 64 (Wi ((Wi x12)*2 ^ (min (Int.toNat 8) 64)))) ||| (BitVec.ofInt 64 (Wi x15))).toNat:Int))then(Wi (((x16.len:Nat):Int)-2))else(Wi (((BitVec.ofInt 64 (Wi ((Wi x12)*2 ^ (min (Int.toNat 8) 64)))) ||| (BitVec.ofInt 64 (Wi x15))).toNat:Int)),()))]) λz9=>L.load eL6 c0 λ(x17:Sl)=>L.guard (0≤(2:Int)∧(2:Int)≤((x17.len:Nat):Int)∧((x17.len:Nat):Int)≤((x17.cap:Nat):Int)∧((x17.cap:Nat):Int)≤x17.cap)<|L.store c0 [.slice (if Int.toNat ((x17.cap:Nat):Int)=Int.toNat (2:Int)then x17.a else Option.map (λa:Addr=>a.add (Int.toNat (2:Int)*1)) x17.a) (Int.toNat ((x17.len:Nat):Int)-Int.toNat (2:Int)) (Int.toNat ((x17.cap:Nat):Int)-Int.toNat (2:Int))]<|k4 (z9.1,())) λz5=>L.load eL6 c0 λ(x18:Sl)=>L.guard (0≤(0:Int)∧(0:Int)≤z5.1∧z5.1≤((x18.cap:Nat):Int)∧((x18.cap:Nat):Int)≤x18.cap)<|L.call Pr JY [.slice (if Int.toNat ((x18.cap:Nat):Int)=Int.toNat (0:Int)then x18.a else Option.map (λa:Addr=>a.add (Int.toNat (0:Int)*1)) x18.a) (Int.toNat z5.1-Int.toNat (0:Int)) (Int.toNat ((x18.cap:Nat):Int)-Int.toNat (0:Int))] rL λ(x19:Sl)=>L.callV Pr (.func p0.fn p0.fs p0.cs) [Sv6 x19] rB λ(x20:Bool)=>L.ite (!x20) (K (.tuple #[]))<|L.load eL6 c0 λ(x21:Sl)=>L.guard (0≤z5.1∧z5.1≤((x21.len:Nat):Int)∧((x21.len:Nat):Int)≤((x21.cap:Nat):Int)∧((x21.cap:Nat):Int)≤x21.cap)<|L.store c0 [.slice (if Int.toNat ((x21.cap:Nat):Int)=Int.toNat z5.1 then x21.a else Option.map (λa:Addr=>a.add (Int.toNat z5.1*1)) x21.a) (Int.toNat ((x21.len:Nat):Int)-Int.toNat z5.1) (Int.toNat ((x21.cap:Nat):Int)-Int.toNat z5.1)]<|again2 (()))<|K (.tuple #[])
def Cp(p0:FV)(c0:Addr)(h:gZ p0 c0 K w):CV Xw [.v (.func p0.fn p0.fs p0.cs),.v (.pointer (some c0))] K w:=zC Tryz.f256 Cx _ h
def cU:ZN Pr Xw:=zH (by kernel_rfl)
def Qv(p0:Sl)(K:Value→PT):PT:=
  L.ite ((p0.a).isNone) (K (.slice none 0 0))<|L.new [] qO λb1=>L.sem Pr (.one (.one .slice)) (Builtin.append_ #[jt,jt] jt #[.slice (some ⟨b1,0,none⟩) 0 0,Sv6 p0]) λ(s2:Sl)=>K (.slice s2.a s2.len s2.cap)
def oL(p0:Sl)(h:Qv p0 K w):CV JY [.v (.slice p0.a p0.len p0.cap)] K w:=zC Tryz.f257 .auto _ h
def ML:Ann:=(.q2 (.seq (.q2 .auto (some [])) .auto none) none)
def kT(p0:Option Addr)(p1:Int)(K:Value→PT):PT:=
  L.join (Y:=Unit) (λk1=>L.nonnil p0 λa3=>L.load eB6 (a3.add 1) λ(x4:Bool)=>L.ite x4 (L.nonnil p0 λa5=>L.store (a5.add 1) [.bool true]<|k1 (()))<|L.nonnil p0 λa6=>L.load eL6 (a6.add 0) λ(x7:Sl)=>L.nonnil p0 λa8=>L.store (a8.add 1) [.bool (decide (((x7.len:Nat):Int)<p1))]<|k1 (())) λz2=>L.nonnil p0 λa9=>L.load eB6 (a9.add 1) λ(x10:Bool)=>L.ite x10 (L.sem Pr (.one (.one .slice)) (Instr.makeSlice jt (I p1) (I p1)) λ(s11:Sl)=>K (.slice s11.a s11.len s11.cap))<|L.nonnil p0 λa12=>L.load eL6 (a12.add 0) λ(x13:Sl)=>L.guard (0≤(0:Int)∧(0:Int)≤p1∧p1≤((x13.cap:Nat):Int)∧((x13.cap:Nat):Int)≤x13.cap)<|L.nonnil p0 λa14=>L.load eL6 (a14.add 0) λ(x15:Sl)=>L.guard (0≤p1∧p1≤((x15.len:Nat):Int)∧((x15.len:Nat):Int)≤((x15.cap:Nat):Int)∧((x15.cap:Nat):Int)≤x15.cap)<|L.nonnil p0 λa16=>L.store (a16.add 0) [.slice (if Int.toNat ((x15.cap:Nat):Int)=Int.toNat p1 then x15.a else Option.map (λa:Addr=>a.add (Int.toNat p1*1)) x15.a) (Int.toNat ((x15.len:Nat):Int)-Int.toNat p1) (Int.toNat ((x15.cap:Nat):Int)-Int.toNat p1)]<|K (.slice (if Int.toNat ((x13.cap:Nat):Int)=Int.toNat (0:Int)then x13.a else Option.map (λa:Addr=>a.add (Int.toNat (0:Int)*1)) x13.a) (Int.toNat p1-Int.toNat (0:Int)) (Int.toNat ((x13.cap:Nat):Int)-Int.toNat (0:Int)))
def MC(p0:Option Addr)(p1:Int)(h:kT p0 p1 K w):CV uj [.v (.pointer p0),.v (.int .i64 p1)] K w:=zC Tryz.f258 ML _ h
def qI:Ann:=(.q2 (.seq (.q2 (.one [(8,eI6)] .auto) none) .auto none) none)
def jN(p0:Sl)(p1:FV)(K:Value→PT):PT:=
  L.loop (Y:=Int×Unit) (0,()) λy1 again2=>L.ite (decide (y1.1<((p0.len:Nat):Int))) (L.idx p0.a y1.1 p0.len 3 λa3=>L.load (.agg [.str,.str,.int .i64]) a3 λ(x4:pt9)=>L.callV Pr (.func p1.fn p1.fs p1.cs) [.agg #[.string x4.1,.string x4.2.1,I x4.2.2.1]] rB λ(x5:Bool)=>L.ite x5 (K (I y1.1))<|again2 (Wi (y1.1+1),()))<|K (I (-1))
def qH(p0:Sl)(p1:FV)(h:jN p0 p1 K w):CV jG [.v (.slice p0.a p0.len p0.cap),.v (.func p1.fn p1.fs p1.cs)] K w:=zC Tryz.f263 qI _ h
def ye(p0:Sl)(p1:FV)(K:Value→PT):PT:=
  L.call Pr JJ [Sv6 p0,I ((p0.len:Nat):Int),.func p1.fn p1.fs p1.cs] (.tup []) λ(x1:Unit)=>K (.tuple #[])
def Yn(p0:Sl)(p1:FV)(h:ye p0 p1 K w):CV ZF [.v (.slice p0.a p0.len p0.cap),.v (.func p1.fn p1.fs p1.cs)] K w:=zC Tryz.f270 .auto _ h
def VX(p0 p1:HT [.int .i64,.int .i64])(K:Value→PT):PT:=
  L.new [I p0.1,I p0.2.1] zz λb1=>L.new [I p1.1,I p1.2.1] zz λb2=>L.load eI6 (Ad6 b1 0) λ(x3:Int)=>L.load eI6 (Ad6 b2 0) λ(x4:Int)=>K (I (Wi (x3-x4)))
def mK(p0 p1:HT [.int .i64,.int .i64])(h:VX p0 p1 K w):CV Zj [.ag [.int .i64 p0.1,.int .i64 p0.2.1],.ag [.int .i64 p1.1,.int .i64 p1.2.1]] K w:=zC Tryz.f271 .auto _ h
def my:ZN Pr Zj:=zH (by kernel_rfl)
def me(p0:Option Addr)(p1:Int)(K:Value→PT):PT:=
  L.nonnil p0 λa1=>L.load eI6 (a1.add 0) λ(x2:Int)=>L.ite (x2 != 2) (K (I 9))<|L.nonnil p0 λa3=>L.call Pr Of [.pointer (some (a3.add 1)),I p1] rI λ(x4:Int)=>K (I x4)
def NF(p0:Option Addr)(p1:Int)(h:me p0 p1 K w):CV UT [.v (.pointer p0),.v (.int .i64 p1)] K w:=zC Tryz.f272 .auto _ h
def VU(p0:FV)(K:Value→PT):PT:=
  L.call Pr JZ [.slice none 0 0,.func p0.fn p0.fs p0.cs] rL λ(x1:Sl)=>K (.slice x1.a x1.len x1.cap)
def mG(p0:FV)(h:VU p0 K w):CV VJ [.v (.func p0.fn p0.fs p0.cs)] K w:=zC Tryz.f273 .auto _ h
def uI:Ann:=(.q2 (.one [] (.q2 (.seq (.cond .auto .auto) .auto none) none)) none)
def JP(p0:FV)(c0:Addr)(K:Value→PT):PT:=
  L.load (.one (.map)) c0 λ(x1:Option Nat)=>L.sem Pr (.one (.one .ptr)) (Instr.range Yk (.map x1)) λ(it2:Option Addr)=>L.loop (Y:=Unit) (()) λy3 again4=>L.next Pr [eI6,eB6] (Instr.next (.pointer it2) false T_) (K (.tuple #[])) λ(x5:Int×Bool×Unit)=>L.sem Pr (.tup [eI6,eB6]) (Instr.entry (.pointer it2)) λ(x6:Int×Bool×Unit)=>L.callV Pr (.func p0.fn p0.fs p0.cs) [I x6.1] rB λ(x7:Bool)=>L.ite (!x7) (K (.tuple #[]))<|again4 (())
def uF(p0:FV)(c0:Addr)(h:JP p0 c0 K w):CV ZK [.v (.func p0.fn p0.fs p0.cs),.v (.pointer (some c0))] K w:=zC Tryz.f274 uI _ h
def uD:ZN Pr ZK:=zH (by kernel_rfl)
def Uy(p0:FV)(K:Value→PT):PT:=
  L.call Pr jj [.slice none 0 0,.func p0.fn p0.fs p0.cs] rL λ(x1:Sl)=>K (.slice x1.a x1.len x1.cap)
def Ge(p0:FV)(h:Uy p0 K w):CV Ur [.v (.func p0.fn p0.fs p0.cs)] K w:=zC Tryz.f275 .auto _ h
def JV:Ann:=(.q2 (.one [] (.q2 (.seq (.cond .auto .auto) .auto none) none)) none)
def Yg(p0:FV)(c0:Addr)(K:Value→PT):PT:=
  L.load (.one (.map)) c0 λ(x1:Option Nat)=>L.sem Pr (.one (.one .ptr)) (Instr.range ZB (.map x1)) λ(it2:Option Addr)=>L.loop (Y:=Unit) (()) λy3 again4=>L.next Pr [eS6,eP6] (Instr.next (.pointer it2) false T_) (K (.tuple #[])) λ(x5:B0×Option Addr×Unit)=>L.sem Pr (.tup [eS6,eP6]) (Instr.entry (.pointer it2)) λ(x6:B0×Option Addr×Unit)=>L.callV Pr (.func p0.fn p0.fs p0.cs) [.string x6.1] rB λ(x7:Bool)=>L.ite (!x7) (K (.tuple #[]))<|again4 (())
end Go.Proofs.YtimahgbgejngiaaGreatDoor
