/- What is proved on the way to a statement of the seat, pressed (text AD). No conditions beyond those its theorems state. -/
import Derived.Test.YtdcdhcgmeahfmaaGreatDoorFAC
import Derived.Test.YtdcdhcgmeahfmaaGreatDoorProg
set_option linter.all false
namespace Go.Proofs.YtdcdhcgmeahfmaaGreatDoor
set_option maxRecDepth 100000
open Go.Dm
abbrev I(n:Int):Value:=.int .i64 n
abbrev Jf:Lf:=.int .i64
abbrev J8:Lf:=.int .u8
abbrev ht0:=HT [.str,.int .i64,.int .i64,.int .i64,.int .i64,.int .i64]
abbrev ht1:=HT [.int .i64,.str,.str,.int .i64,.int .i64,.str,.int .i64,.int .i64,.int .i64,.int .i64,.int .i64,.str,.str,.slice,.int .i64]
abbrev ht2:=HT [.str,.str,.slice,.int .i64]
abbrev ht3:=HT [.int .i64,.int .i64,.int .i64,.str]
abbrev qc0(p:ht0):List Value:=[.string p.1,I p.2.1,I p.2.2.1,I p.2.2.2.1,I p.2.2.2.2.1,I p.2.2.2.2.2.1]
abbrev qc1(p:ht1):List Value:=[I p.1,.string p.2.1,.string p.2.2.1,I p.2.2.2.1,I p.2.2.2.2.1,.string p.2.2.2.2.2.1,I p.2.2.2.2.2.2.1,I p.2.2.2.2.2.2.2.1,I p.2.2.2.2.2.2.2.2.1,I p.2.2.2.2.2.2.2.2.2.1,I p.2.2.2.2.2.2.2.2.2.2.1,.string p.2.2.2.2.2.2.2.2.2.2.2.1,.string p.2.2.2.2.2.2.2.2.2.2.2.2.1,.slice p.2.2.2.2.2.2.2.2.2.2.2.2.2.1.a p.2.2.2.2.2.2.2.2.2.2.2.2.2.1.len p.2.2.2.2.2.2.2.2.2.2.2.2.2.1.cap,I p.2.2.2.2.2.2.2.2.2.2.2.2.2.2.1]
abbrev qc2(p:ht2):List Value:=[.string p.1,.string p.2.1,.slice p.2.2.1.a p.2.2.1.len p.2.2.1.cap,I p.2.2.2.1]
abbrev qc3(p:ht3):List Value:=[I p.1,I p.2.1,I p.2.2.1,.string p.2.2.2.1]
abbrev pt0:=B0×Int×Int×Int×Int×Int×Unit
abbrev pt1:=Int×B0×B0×Int×Int×B0×Int×Int×Int×Int×Int×B0×B0×Sl×Int×Unit
abbrev pt2:=(Bool×Bool×Bool×Bool×Bool×Bool×Unit)×Bool×Unit
abbrev pt3:=B0×B0×Sl×Int×Unit
abbrev pt4:=(B0×Int×Int×Int×Int×Int×Unit)×Int×Int×Bool×Unit
abbrev pt5:=(B0×B0×Sl×Int×Unit)×Int×Bool×Unit
abbrev pt6:=(B0×Int×B0×Int×Int×Int×Int×Int×Unit)×Bool×Unit
abbrev pt7:=Int×(B0×Int×Unit)×Unit
abbrev pt8:=Bool×Bool×Bool×Bool×Bool×Bool×Unit
abbrev pt9:=B0×B0×Int×Unit
abbrev Kf:=Int×Int×Int×B0×Unit
abbrev z2B:=(Int×Int×Int×B0×Unit)×Bool×Unit
abbrev z2A:=(B0×Option Addr×Unit)×Bool×Unit
abbrev z3s:=(B0×Int×Int×Int×Int×Int×Int×Int×Bool×Unit)×Bool×Unit
abbrev az:=B0×Int×B0×Int×Int×Int×Int×Int×Unit
abbrev z3r:=(B0×B0×Sl×Int×Int×Int×Bool×Unit)×Bool×Unit
abbrev z2z:=(Sl×Sl×Int×Int×Sl×Sl×Unit)×Bool×Unit
abbrev z2y:=Sl×Sl×Int×Int×Sl×Sl×Unit
abbrev z3q:=Int×Option (TypeId×Value)×Unit
abbrev ay:=B0×Int×Int×Int×Int×Int×Int×Int×Bool×Unit
abbrev ax:=B0×B0×Sl×Int×Int×Int×Bool×Unit
abbrev z3p:=(B0×Int×Unit)×Bool×Unit
abbrev z2x:=Int×(B0×Option Addr×Unit)×Unit
abbrev z2w:=B0×(B0×Int×B0×Int×Int×Int×Int×Int×Unit)×Unit
abbrev lf0:List Lf:=[.str,Jf,Jf,Jf,Jf,Jf]
abbrev lf1:List Lf:=[Jf,.str,.str,Jf,Jf,.str,Jf,Jf,Jf,Jf,Jf,.str,.str,.slice,Jf]
abbrev lf2:List Lf:=[.ptr,.ptr,.ptr,.ptr,.ptr,.map,Jf]
abbrev lf3:List Lf:=[.bool,.bool,.bool,.bool,.bool,.bool]
abbrev lf4:List Lf:=[.str,Jf,.str,Jf,Jf,Jf,Jf,Jf]
abbrev lf5:List Lf:=[.ptr,.map,.map,.func,Jf,Jf]
abbrev lf6:List Lf:=[Jf,Jf,Jf,Jf,Jf,Jf,Jf,Jf,Jf,Jf,Jf,Jf,Jf,Jf,Jf,Jf,Jf,Jf,Jf,Jf,Jf,Jf,Jf,Jf,Jf,Jf,Jf,Jf,Jf,Jf,Jf,Jf,Jf,Jf,Jf,Jf,Jf,Jf,Jf,Jf,Jf,Jf,Jf,Jf,Jf,Jf,Jf,Jf,Jf,Jf,Jf,Jf,Jf,Jf,Jf,Jf,Jf,Jf,Jf,Jf]
abbrev lf7:List Lf:=[Jf,Jf,Jf,Jf,Jf,Jf,Jf,Jf,Jf,Jf,Jf,Jf,Jf,Jf,Jf,Jf,Jf,Jf,Jf,Jf,Jf,Jf,Jf,Jf,Jf,Jf,Jf,Jf,Jf,Jf,Jf,Jf,Jf,Jf,Jf,Jf,Jf,Jf,Jf,Jf,Jf,Jf,Jf,Jf,Jf,Jf,Jf,Jf,Jf,Jf,Jf,Jf,Jf,Jf,Jf,Jf,Jf,Jf,Jf,Jf,Jf]
abbrev lf8:List Lf:=[Jf,Jf,Jf,Jf,Jf,Jf,Jf,Jf,Jf,Jf,Jf,Jf,Jf,Jf,Jf,Jf,Jf,Jf,Jf,Jf,Jf,Jf,Jf,Jf,Jf,Jf,Jf,Jf,Jf,Jf,Jf,Jf,Jf,Jf,Jf,Jf,Jf,Jf,Jf,Jf,Jf,Jf,Jf,Jf,Jf,Jf,Jf,Jf,Jf,Jf,Jf,Jf,Jf,Jf,Jf,Jf,Jf,Jf,Jf,Jf,Jf,Jf]
abbrev lf9:List Lf:=[.str,Jf,Jf,Jf,Jf,Jf,Jf,Jf,.bool]
abbrev lV:List Lf:=[.str,.str,.slice,Jf,Jf,Jf,.bool]
abbrev HO:List Lf:=[.slice,.slice,Jf,Jf,.slice,.slice]
abbrev z3C:List Lf:=[J8,J8,J8,J8,J8,J8,J8,J8,J8,J8,J8,J8,J8,J8,J8,J8,J8,J8,J8,J8,J8,J8,J8,J8]
abbrev z3B:List Lf:=[.int .u64,.int .u64,.int .u64,.int .u64,.int .u64,.int .u64,.int .u64,.int .u64,.int .u64,.int .u64,.int .u64,.int .u64,.int .u64,.int .u64,.int .u64,.int .u64,.int .u64,.int .u64,.int .u64,.int .u64]
abbrev z3A:List Lf:=[J8,J8,J8,J8,J8,J8,J8,J8,J8,J8,J8,J8,J8,J8,J8,J8,J8,J8,J8,J8,J8,J8,J8,J8,J8,J8,J8,J8,J8,J8,J8,J8,J8,J8,J8,J8,J8,J8,J8,J8,J8,J8,J8,J8,J8,J8,J8,J8,J8,J8,J8,J8,J8,J8,J8,J8,J8,J8,J8,J8,J8,J8,J8,J8,J8]
abbrev z3z:List Lf:=[J8,J8,J8,J8,J8,J8,J8,J8,J8,J8,J8,J8,J8,J8,J8,J8,J8,J8,J8,J8,J8,J8,J8,J8,J8,J8,J8,J8,J8,J8,J8,J8]
abbrev z3y:List Lf:=[J8,J8,J8,J8,J8,J8,J8,J8,J8,J8,J8,J8,J8,J8,J8,J8,J8,J8,J8,J8,J8,J8,J8,J8,J8,J8,J8,J8,J8,J8,J8,J8,J8,J8,J8,J8,J8,J8,J8,J8,J8,J8,J8,J8,J8,J8,J8,J8,J8,J8,J8,J8,J8,J8,J8,J8,J8,J8,J8,J8,J8,J8,J8,J8]
abbrev z3x:List Lf:=[.int .u64,.int .u64,.int .u32,J8,J8,J8,J8,.func,.ptr,.int .i32,.int .i32]
abbrev qa0(p:pt0):Value:=.agg #[.string p.1,I p.2.1,I p.2.2.1,I p.2.2.2.1,I p.2.2.2.2.1,I p.2.2.2.2.2.1]
abbrev qa1(p:pt1):Value:=.agg #[I p.1,.string p.2.1,.string p.2.2.1,I p.2.2.2.1,I p.2.2.2.2.1,.string p.2.2.2.2.2.1,I p.2.2.2.2.2.2.1,I p.2.2.2.2.2.2.2.1,I p.2.2.2.2.2.2.2.2.1,I p.2.2.2.2.2.2.2.2.2.1,I p.2.2.2.2.2.2.2.2.2.2.1,.string p.2.2.2.2.2.2.2.2.2.2.2.1,.string p.2.2.2.2.2.2.2.2.2.2.2.2.1,.slice p.2.2.2.2.2.2.2.2.2.2.2.2.2.1.a p.2.2.2.2.2.2.2.2.2.2.2.2.2.1.len p.2.2.2.2.2.2.2.2.2.2.2.2.2.1.cap,I p.2.2.2.2.2.2.2.2.2.2.2.2.2.2.1]
abbrev qa2(p:pt8):Value:=.agg #[.bool p.1,.bool p.2.1,.bool p.2.2.1,.bool p.2.2.2.1,.bool p.2.2.2.2.1,.bool p.2.2.2.2.2.1]
abbrev qa3(p:az):Value:=.agg #[.string p.1,I p.2.1,.string p.2.2.1,I p.2.2.2.1,I p.2.2.2.2.1,I p.2.2.2.2.2.1,I p.2.2.2.2.2.2.1,I p.2.2.2.2.2.2.2.1]
abbrev qa4(p:z2y):Value:=.agg #[.slice p.1.a p.1.len p.1.cap,.slice p.2.1.a p.2.1.len p.2.1.cap,I p.2.2.1,I p.2.2.2.1,.slice p.2.2.2.2.1.a p.2.2.2.2.1.len p.2.2.2.2.1.cap,.slice p.2.2.2.2.2.1.a p.2.2.2.2.2.1.len p.2.2.2.2.2.1.cap]
abbrev qa5(p:ay):Value:=.agg #[.string p.1,I p.2.1,I p.2.2.1,I p.2.2.2.1,I p.2.2.2.2.1,I p.2.2.2.2.2.1,I p.2.2.2.2.2.2.1,I p.2.2.2.2.2.2.2.1,.bool p.2.2.2.2.2.2.2.2.1]
abbrev qa6(p:ax):Value:=.agg #[.string p.1,.string p.2.1,.slice p.2.2.1.a p.2.2.1.len p.2.2.1.cap,I p.2.2.2.1,I p.2.2.2.2.1,I p.2.2.2.2.2.1,.bool p.2.2.2.2.2.2.1]
abbrev eI6:E1:=.one (.int .i64)
abbrev eS6:E1:=.one .str
abbrev eL6:E1:=.one .slice
abbrev eB6:E1:=.one .bool
abbrev eP6:E1:=.one .ptr
abbrev rI:RT:=.one eI6
abbrev rS:RT:=.one eS6
abbrev rL:RT:=.one eL6
abbrev rB:RT:=.one eB6
abbrev rP:RT:=.one eP6
abbrev Sv6(v:Sl):Value:=.slice v.a v.len v.cap
abbrev Ad6(b n:Nat):Addr:=(⟨b,0,none⟩:Addr).add n
noncomputable abbrev Pr:Program:=Tryz.prog
abbrev Ve:Nat:=4
abbrev QN:Nat:=8
abbrev zq:Nat:=11
abbrev Ju:Nat:=12
abbrev xz:Nat:=13
abbrev qL:Nat:=17
abbrev QO:Nat:=18
abbrev kB:Nat:=19
abbrev YS:Nat:=20
abbrev vT:Nat:=21
abbrev Jv:Nat:=22
abbrev gM:Nat:=23
abbrev yU:Nat:=28
abbrev oQ:Nat:=29
abbrev zR:Nat:=30
abbrev qw:Nat:=31
abbrev Yj:Nat:=32
abbrev Yy:Nat:=33
abbrev qK:Nat:=34
abbrev Yk:Nat:=35
abbrev YQ:Nat:=36
abbrev jE:Nat:=37
abbrev yk:Nat:=38
abbrev YO:Nat:=39
abbrev Yw:Nat:=40
abbrev YP:Nat:=41
abbrev Yx:Nat:=42
abbrev Yc:Nat:=43
abbrev XH:Nat:=44
abbrev uz:Nat:=45
abbrev jb:Nat:=47
abbrev Uz:Nat:=48
abbrev Jm:Nat:=49
abbrev fN:Nat:=50
abbrev fL:Nat:=51
abbrev fK:Nat:=52
abbrev ME:Nat:=53
abbrev MF:Nat:=54
abbrev uw:Nat:=55
abbrev yf:Nat:=56
abbrev oP:Nat:=60
abbrev Qw:Nat:=61
abbrev Xc:Nat:=62
abbrev Xk:Nat:=63
abbrev gN:Nat:=64
abbrev Kj:Nat:=65
abbrev vU:Nat:=66
abbrev xB:Nat:=67
abbrev ZL:Nat:=68
abbrev Za:Nat:=69
abbrev Zi:Nat:=70
abbrev Xf:Nat:=71
abbrev Us:Nat:=72
abbrev TS:Nat:=73
abbrev dg:Nat:=74
abbrev Xi:Nat:=75
abbrev kA:Nat:=76
abbrev XC:Nat:=77
abbrev ZX:Nat:=79
abbrev qj:Nat:=81
abbrev ux:Nat:=82
abbrev JE:Nat:=83
abbrev zS:Nat:=84
abbrev vx:Nat:=85
abbrev Qv:Nat:=86
abbrev vz:Nat:=87
abbrev Yq:Nat:=88
abbrev ur:Nat:=89
abbrev Xj:Nat:=90
abbrev uA:Nat:=91
abbrev Qt:Nat:=92
abbrev vu:Nat:=93
abbrev ju:Nat:=94
abbrev Uy:Nat:=95
abbrev Qu:Nat:=96
abbrev xA:Nat:=97
abbrev uq:Nat:=98
abbrev fM:Nat:=99
abbrev Xb:Nat:=100
abbrev Uw:Nat:=101
abbrev gF:Nat:=102
abbrev uu:Nat:=103
abbrev jF:Nat:=104
abbrev xl:Nat:=105
abbrev Ja:Nat:=106
abbrev XG:Nat:=107
abbrev Ki:Nat:=108
abbrev uv:Nat:=109
abbrev QM:Nat:=110
abbrev Jt:Nat:=111
abbrev qk:Nat:=112
abbrev ug:Nat:=113
abbrev ZT:Nat:=114
abbrev JN:Nat:=115
abbrev yO:Nat:=116
abbrev je:Nat:=117
abbrev Yr:Nat:=118
abbrev Ma:Nat:=119
abbrev Xh:Nat:=120
abbrev yD:Nat:=121
abbrev XB:Nat:=122
abbrev Zu:Nat:=123
abbrev kC:Nat:=124
abbrev MC:Nat:=125
abbrev qd:Nat:=132
abbrev XF:Nat:=133
abbrev vS:Nat:=134
abbrev yt:Nat:=135
abbrev oM:Nat:=136
abbrev MD:Nat:=137
abbrev Jy:Nat:=142
abbrev Jx:Nat:=143
abbrev JW:Nat:=144
abbrev JV:Nat:=145
abbrev ov:Nat:=146
abbrev US:Nat:=149
abbrev gG:Nat:=150
abbrev oK:Nat:=151
abbrev vw:Nat:=152
abbrev qN:Nat:=153
abbrev yu:Nat:=154
abbrev jN:Nat:=155
abbrev XT:Nat:=156
abbrev Qs:Nat:=157
abbrev Qq:Nat:=158
abbrev fI:Nat:=159
abbrev uB:Nat:=160
abbrev gI:Nat:=161
abbrev Vz:Nat:=162
abbrev ZZ:Nat:=163
abbrev Uu:Nat:=164
abbrev xC:Nat:=165
abbrev qO:Nat:=166
abbrev vr:Nat:=167
abbrev vt:Nat:=168
abbrev qM:Nat:=169
abbrev Jz:Nat:=170
abbrev ox:Nat:=171
abbrev JX:Nat:=172
abbrev oO:Nat:=173
abbrev QC:Nat:=174
abbrev XU:Nat:=175
abbrev YK:Nat:=176
abbrev oJ:Nat:=177
abbrev yM:Nat:=178
abbrev oN:Nat:=179
abbrev ql:Nat:=180
abbrev XD:Nat:=181
abbrev xn:Nat:=182
abbrev ut:Nat:=183
abbrev Kh:Nat:=184
abbrev vy:Nat:=185
abbrev tt:Nat:=186
abbrev QL:Nat:=187
abbrev VA:Nat:=188
abbrev jl:Nat:=191
abbrev JY:Nat:=192
abbrev jm:Nat:=193
abbrev yH:Nat:=194
abbrev Ji:Nat:=195
abbrev Jh:Nat:=196
abbrev Jg:Nat:=197
abbrev MG:Nat:=198
abbrev Je:Nat:=199
abbrev gL:Nat:=200
abbrev Jc:Nat:=201
abbrev ZD:Nat:=202
abbrev Vc:Nat:=203
abbrev VP:Nat:=210
abbrev fJ:Nat:=211
abbrev gJ:Nat:=212
abbrev Ux:Nat:=213
abbrev yF:Nat:=214
abbrev Qr:Nat:=215
abbrev Ys:Nat:=219
abbrev QK:Nat:=222
abbrev uy:Nat:=223
abbrev uo:Nat:=224
abbrev Xe:Nat:=225
abbrev oL:Nat:=226
abbrev Uv:Nat:=227
abbrev YU:Nat:=228
abbrev XE:Nat:=229
abbrev yP:Nat:=230
abbrev ZS:Nat:=231
abbrev yc:Nat:=232
abbrev VO:Nat:=233
abbrev yX:Nat:=234
abbrev QJ:Nat:=235
abbrev yY:Nat:=236
abbrev Yl:Nat:=237
abbrev yz:Nat:=238
abbrev yG:Nat:=239
abbrev Zr:Nat:=240
abbrev YJ:Nat:=241
abbrev jG:Nat:=242
abbrev gH:Nat:=243
abbrev qc:Nat:=244
abbrev YR:Nat:=245
abbrev vR:Nat:=246
abbrev jw:Nat:=258
abbrev Vd:Nat:=259
abbrev Zd:Nat:=260
abbrev jx:Nat:=272
abbrev ZF:Nat:=279
abbrev Zk:Nat:=280
abbrev Ut:Nat:=281
abbrev ZH:Nat:=282
abbrev uT:Nat:=283
abbrev Jw:Nat:=284
abbrev zV:Nat:=285
abbrev yJ:Nat:=286
abbrev Xa:Nat:=287
abbrev xm:Nat:=288
abbrev Zp:Nat:=289
abbrev Zc:Nat:=290
abbrev Xg:Nat:=291
abbrev jP:Nat:=292
abbrev uh:Nat:=293
abbrev JU:Nat:=300
abbrev JF:Nat:=314
abbrev ow:Nat:=315
abbrev jc:Nat:=316
abbrev zL:Nat:=318
abbrev ZR:Nat:=325
abbrev zN:Nat:=326
abbrev YD:Nat:=338
abbrev ZK:Nat:=343
abbrev T_:Nat:=0
abbrev zu:Nat:=3
abbrev qX:Nat:=4
abbrev zc:Nat:=9
abbrev fX:Nat:=20
abbrev zx:Nat:=23
abbrev ZO:Nat:=24
abbrev zD:Nat:=27
abbrev zj:Nat:=33
abbrev jv:Nat:=34
abbrev UE:Nat:=35
abbrev Zb:Nat:=37
abbrev zC:Nat:=39
abbrev yR:Nat:=42
abbrev JD:Nat:=45
abbrev zH:Nat:=56
abbrev xO:Nat:=57
abbrev zy:Nat:=69
abbrev ZJ:Nat:=73
abbrev JH:Nat:=74
abbrev ZG:Nat:=76
abbrev Gs:Nat:=78
abbrev qz:Nat:=81
abbrev ZW:Nat:=84
abbrev XY:Nat:=87
abbrev Zg:Nat:=101
abbrev Zl:Nat:=102
abbrev xN:Nat:=103
abbrev zr:Nat:=105
abbrev cn:Nat:=107
abbrev zI:Nat:=128
abbrev zA:Nat:=132
abbrev zU:Nat:=157
abbrev yl:Nat:=165
abbrev ZB:Nat:=166
abbrev cm:Nat:=171
abbrev Zz:Nat:=173
abbrev xP:Nat:=175
abbrev Zf:Nat:=187
abbrev Zn:Nat:=188
abbrev Md:Nat:=190
abbrev Mc:Nat:=198
abbrev zZ:Nat:=200
abbrev XM:Nat:=202
abbrev Pw:Nat:=204
abbrev YA:Nat:=205
abbrev oU:Nat:=207
abbrev JI:Nat:=217
abbrev cj:Nat:=226
abbrev Xy:Nat:=256
abbrev xQ:Nat:=271
abbrev zT:Nat:=273
abbrev zY:Nat:=277
abbrev ZE:Nat:=280
abbrev Zj:Nat:=281
abbrev xe:Nat:=290
abbrev JC:Nat:=294
abbrev Yu:Nat:=296
abbrev oC:Nat:=303
abbrev BB:Nat:=307
abbrev yE:Nat:=315
abbrev uY:Nat:=319
abbrev Ye:Nat:=324
abbrev kZ:Nat:=328
abbrev QE:Nat:=329
abbrev zJ:Nat:=331
abbrev Zm:Nat:=332
abbrev ZN:Nat:=334
abbrev Zs:Nat:=335
abbrev Zo:Nat:=337
abbrev Zt:Nat:=353
abbrev jr:Nat:=356
abbrev uD:Nat:=362
abbrev Xo:Nat:=385
abbrev yg:Nat:=404
abbrev zz:Nat:=406
def s_:B0:=⟨#[]⟩
def yS:B0:=⟨#[102,114,111,110,116]⟩
def gA:B0:=⟨#[119,101,98,45,49]⟩
def uO:B0:=⟨#[119,101,98]⟩
def Gk:B0:=⟨#[114,101,102,117,115,101,100,32]⟩
def rX:B0:=⟨#[115,101,110,116]⟩
def fA:B0:=⟨#[116,105,99,107,32,49]⟩
def nT:B0:=⟨#[97,112,105]⟩
def nU:B0:=⟨#[97,45,98]⟩
def bZ:B0:=⟨#[98,97,100]⟩
def s__:B0:=⟨#[45]⟩
def Ol:B0:=⟨#[32]⟩
def CR:B0:=⟨#[99,111,110,102,105,103]⟩
def bY:B0:=⟨#[114,111,117,116,101]⟩
def ar:B0:=⟨#[100,114,111,112,112,101,100]⟩
def jY:B0:=⟨#[115,99,97,108,101]⟩
def wj:B0:=⟨#[117,112]⟩
def fB:B0:=⟨#[112,114,111,118,101,100]⟩
def tj:B0:=⟨#[100,111,119,110]⟩
def th:B0:=⟨#[116,105,99,107]⟩
def Sb:B0:=⟨#[115,97,109,101]⟩
def gB:B0:=⟨#[114,101,118,105,115,105,111,110]⟩
def bV:B0:=⟨#[116,97,98,108,101]⟩
def wl:B0:=⟨#[109,97,100,101]⟩
def wm:B0:=⟨#[103,111,110,101]⟩
def FY:B0:=⟨#[102,108,101,101,116]⟩
def z2r:B0:=⟨#[111,107]⟩
def Sd:B0:=⟨#[110,97,109,101]⟩
def IF:B0:=⟨#[97,114,103]⟩
def Sf:B0:=⟨#[108,111,110,103]⟩
def ID:B0:=⟨#[115,117,109]⟩
def pV:B0:=⟨#[116,119,105,99,101]⟩
def Sc:B0:=⟨#[110,111,110,101]⟩
def Cq:B0:=⟨#[101,114,114,111,114]⟩
def bX:B0:=⟨#[115,116,97,108,101]⟩
def Si:B0:=⟨#[102,117,108,108]⟩
def bW:B0:=⟨#[115,116,97,116,101]⟩
def IE:B0:=⟨#[99,117,116]⟩
def Se:B0:=⟨#[109,111,114,101]⟩
def Sg:B0:=⟨#[107,105,110,100]⟩
def uP:B0:=⟨#[114,101,102,117,115,101,100]⟩
def gC:B0:=⟨#[110,111,45,114,111,117,116,101]⟩
def Kd:B0:=⟨#[111,118,101,114,102,108,111,119]⟩
def vj:B0:=⟨#[112,111,100,45,108,111,115,116]⟩
def kT:B0:=⟨#[116,105,109,101,111,117,116]⟩
def Oj:B0:=⟨#[58]⟩
def Oi:B0:=⟨#[61]⟩
def bU:B0:=⟨#[119,97,105,116,115]⟩
def rY:B0:=⟨#[100,111,110,101]⟩
def tq0:TI:=⟨.func,1,some (.one (.func)),some [.nilFunc]⟩
def tq1:TI:=⟨.int .i64,1,some (.one (.int .i64)),some [I 0]⟩
def tq2:TI:=⟨.int .u8,1,some (.one (.int .u8)),some [.int .u8 0]⟩
def tq3:TI:=⟨.struct [(2,0),(3,1),(4,2),(6,3)],4,some (.agg [.int .i64,.int .i64,.bool,.int .u8]),some [I 0,I 0,.bool false,.int .u8 0]⟩
def tq4:TI:=⟨.str,1,some (.one (.str)),some [.string s_]⟩
def tq5:TI:=⟨.int .u64,1,some (.one (.int .u64)),some [.int .u64 0]⟩
def tq6:TI:=⟨.struct [(9,0),(12,1)],2,some (.agg [.str,.int .u64]),some [.string s_,.int .u64 0]⟩
def tq7:TI:=⟨.ptr,1,some (.one (.ptr)),some [.pointer none]⟩
def tq8:TI:=⟨.struct [(17,0)],1,some (.agg [.ptr]),some [.pointer none]⟩
def tq9:TI:=⟨.iface,1,some (.one (.iface)),some [.nilIface]⟩
def z02:TI:=⟨.int .i32,1,some (.one (.int .i32)),some [.int .i32 0]⟩
def z2o:TI:=⟨.struct [(9,0),(3,1),(3,2),(3,3),(3,4),(3,5)],6,some (.agg lf0),some [.string s_,I 0,I 0,I 0,I 0,I 0]⟩
def wc:TI:=⟨.struct [(3,0),(3,1)],2,some (.agg [.int .i64,.int .i64]),some [I 0,I 0]⟩
def z2n:TI:=⟨.struct [(9,0),(9,1),(35,2),(3,3)],4,some (.agg [.str,.str,.slice,.int .i64]),some [.string s_,.string s_,.slice none 0 0,I 0]⟩
def z2m:TI:=⟨.struct [(3,0),(9,1),(9,2),(3,3),(3,4),(23,5),(37,11)],15,some (.agg lf1),some [I 0,.string s_,.string s_,I 0,I 0,.string s_,I 0,I 0,I 0,I 0,I 0,.string s_,.string s_,.slice none 0 0,I 0]⟩
def z2l:TI:=⟨.struct [(3,0),(3,1),(3,2)],3,some (.agg [.int .i64,.int .i64,.int .i64]),some [I 0,I 0,I 0]⟩
def z2k:TI:=⟨.struct [(9,0),(9,1),(3,2)],3,some (.agg [.str,.str,.int .i64]),some [.string s_,.string s_,I 0]⟩
def z2j:TI:=⟨.map 9 81,1,some (.one (.map)),some [.map none]⟩
def z2i:TI:=⟨.struct [(70,0),(71,1),(72,2),(73,3),(74,4),(76,5),(3,6)],7,some (.agg lf2),some [.pointer none,.pointer none,.pointer none,.pointer none,.pointer none,.map none,I 0]⟩
def z2h:TI:=⟨.struct [(85,0),(84,1)],3,some (.agg [.ptr,.int .i64,.int .i64]),some [.pointer none,I 0,I 0]⟩
def Ho:TI:=⟨.struct [(9,0),(3,1)],2,some (.agg [.str,.int .i64]),some [.string s_,I 0]⟩
def z2g:TI:=⟨.struct [(102,0),(103,1)],2,some (.agg [.slice,.slice]),some [.slice none 0 0,.slice none 0 0]⟩
def z2f:TI:=⟨.struct [(4,0),(4,1),(4,2),(4,3),(4,4),(4,5)],6,some (.agg lf3),some [.bool false,.bool false,.bool false,.bool false,.bool false,.bool false]⟩
def z2e:TI:=⟨.struct [(3,0),(3,1),(3,2),(9,3)],4,some (.agg [.int .i64,.int .i64,.int .i64,.str]),some [I 0,I 0,I 0,.string s_]⟩
def z2d:TI:=⟨.struct [(9,0),(3,1),(23,2)],8,some (.agg lf4),some [.string s_,I 0,.string s_,I 0,I 0,I 0,I 0,I 0]⟩
def z2c:TI:=⟨.struct [(166,0),(167,1)],2,some (.agg [.map,.func]),some [.map none,.nilFunc]⟩
def z2b:TI:=⟨.struct [(73,0),(165,1),(169,2),(3,4),(3,5)],6,some (.agg lf5),some [.pointer none,.map none,.map none,.nilFunc,I 0,I 0]⟩
def z2a:TI:=⟨.struct [(187,0),(188,1),(3,2),(3,3)],4,some (.agg [.map,.map,.int .i64,.int .i64]),some [.map none,.map none,I 0,I 0]⟩
def z27:TI:=⟨.struct [(191,0),(194,1),(3,2)],3,some (.agg [.ptr,.ptr,.int .i64]),some [.pointer none,.pointer none,I 0]⟩
def z25:TI:=⟨.map 9 157,1,some (.one (.map)),some [.map none]⟩
def z23:TI:=⟨.map 9 4,1,some (.one (.map)),some [.map none]⟩
def z22:TI:=⟨.struct [(200,0),(202,1)],2,some (.agg [.map,.map]),some [.map none,.map none]⟩
def z1Z:TI:=⟨.struct [(205,0)],1,some (.agg [.map]),some [.map none]⟩
def z1Y:TI:=⟨.struct [(33,0)],1,some (.agg [.slice]),some [.slice none 0 0]⟩
def z1X:TI:=⟨.struct [(9,0),(9,1)],2,some (.agg [.str,.str]),some [.string s_,.string s_]⟩
def z1W:TI:=⟨.struct [(229,0),(80,1)],2,some (.agg [.ptr,.slice]),some [.pointer none,.slice none 0 0]⟩
def z1V:TI:=⟨.struct [(9,0),(182,1)],2,some (.agg [.str,.ptr]),some [.string s_,.pointer none]⟩
def z1U:TI:=⟨.struct [(267,0),(3,60)],61,some (.agg lf7),some (List.replicate 61 (I 0))⟩
def z1T:TI:=⟨.struct [(269,0),(3,61)],62,some (.agg lf8),some (List.replicate 62 (I 0))⟩
def z1S:TI:=⟨.struct [(23,0),(3,6),(3,7),(4,8)],9,some (.agg lf9),some [.string s_,I 0,I 0,I 0,I 0,I 0,I 0,I 0,.bool false]⟩
def z1R:TI:=⟨.struct [(37,0),(3,4),(3,5),(4,6)],7,some (.agg lV),some [.string s_,.string s_,.slice none 0 0,I 0,I 0,I 0,.bool false]⟩
def z1Q:TI:=⟨.arr 2 9,2,some (.agg [.str,.str]),some [.string s_,.string s_]⟩
def z1P:TI:=⟨.struct [(102,0),(102,1),(3,2),(3,3),(105,4)],6,some (.agg HO),some [.slice none 0 0,.slice none 0 0,I 0,I 0,.slice none 0 0,.slice none 0 0]⟩
def z1O:TI:=⟨.struct [(315,0)],1,some (.agg [.slice]),some [.slice none 0 0]⟩
def z1N:TI:=⟨.struct [(317,0),(3,1)],2,some (.agg [.slice,.int .i64]),some [.slice none 0 0,I 0]⟩
def z1M:TI:=⟨.struct [(324,0),(3,1)],2,some (.agg [.map,.int .i64]),some [.map none,I 0]⟩
def z1L:TI:=⟨.struct [(3,0),(326,1)],3,some (.agg [.int .i64,.map,.int .i64]),some [I 0,.map none,I 0]⟩
def z1K:TI:=⟨.struct [(332,0),(193,1)],2,some (.agg [.map,.func]),some [.map none,.nilFunc]⟩
def z1J:TI:=⟨.struct [(335,0),(196,1)],2,some (.agg [.map,.func]),some [.map none,.nilFunc]⟩
def z1I:TI:=⟨.struct [(80,0),(4,1)],2,some (.agg [.slice,.bool]),some [.slice none 0 0,.bool false]⟩
def z1H:TI:=⟨.struct [(9,0),(9,1),(233,2)],3,some (.agg [.str,.str,.iface]),some [.string s_,.string s_,.nilIface]⟩
def z1G:TI:=⟨.struct [(9,0)],1,some (.agg [.str]),some [.string s_]⟩
def z1F:TI:=⟨.struct [(17,0),(17,1),(17,2),(9,3)],4,some (.agg [.ptr,.ptr,.ptr,.str]),some [.pointer none,.pointer none,.pointer none,.string s_]⟩
def z1E:TI:=⟨.struct [(465,0)],0,some (.agg []),some []⟩
def z1D:TI:=⟨.struct [(12,0),(12,1),(382,2),(468,3),(5,4),(5,5),(469,6),(470,7),(350,8),(471,9),(472,10)],11,some (.agg z3x),some [.int .u64 0,.int .u64 0,.int .u32 0,.int .u8 0,.int .u8 0,.int .u8 0,.int .u8 0,.nilFunc,.pointer none,.int .i32 0,.int .i32 0]⟩
def Dt:Tb:=⟨476,377,(.node ⟨.tuple [],1,none,none⟩ (.node tq0 (.node tq1 (.node tq3 (.node tq7 (.node wc (.node tq0 (.node tq0 (.node z1V .nil .nil) (.node tq0 .nil .nil)) (.node tq7 (.node z1N .nil .nil) (.node tq0 .nil .nil))) (.node tq0 (.node tq0 (.node tq0 .nil .nil) (.node tq0 .nil .nil)) (.node tq0 (.node tq0 .nil .nil) .nil))) (.node tq0 (.node tq0 (.node tq0 (.node z1T .nil .nil) (.node ⟨.tuple [80,9],1,none,none⟩ .nil .nil)) (.node z1Z (.node ⟨.map 9 277,1,some (.one (.map)),some [.map none]⟩ .nil .nil) (.node z1F .nil .nil))) (.node tq0 (.node tq7 (.node ⟨.arr 2 3,2,some (.agg [.int .i64,.int .i64]),some [I 0,I 0]⟩ .nil .nil) (.node tq0 .nil .nil)) (.node tq0 (.node tq0 .nil .nil) .nil)))) (.node z2o (.node z2m (.node tq7 (.node tq0 (.node tq0 .nil .nil) (.node tq0 .nil .nil)) (.node z25 (.node z1L .nil .nil) (.node tq7 .nil .nil))) (.node ⟨.slice 217,1,some eL6,some [.slice none 0 0]⟩ (.node tq0 (.node z1P .nil .nil) (.node tq0 .nil .nil)) (.node z1W (.node tq0 .nil .nil) .nil))) (.node z2k (.node z2h (.node tq0 (.node tq0 .nil .nil) (.node tq0 .nil .nil)) (.node tq0 (.node ⟨.tuple [39,52],1,none,none⟩ .nil .nil) (.node z02 .nil .nil))) (.node tq0 (.node tq0 (.node tq0 .nil .nil) (.node tq7 .nil .nil)) (.node tq0 (.node ⟨.tuple [3,374],1,none,none⟩ .nil .nil) .nil))))) (.node tq4 (.node tq8 (.node ⟨.slice 56,1,some eL6,some [.slice none 0 0]⟩ (.node tq0 (.node z2e (.node ⟨.tuple [3,4],1,none,none⟩ .nil .nil) (.node tq0 .nil .nil)) (.node tq0 (.node tq0 .nil .nil) (.node tq0 .nil .nil))) (.node tq0 (.node tq0 (.node ⟨.tuple [290,290],1,none,none⟩ .nil .nil) (.node tq0 .nil .nil)) (.node tq0 (.node wc .nil .nil) .nil))) (.node tq0 (.node tq0 (.node ⟨.tuple [9,4],1,none,none⟩ (.node tq0 .nil .nil) (.node tq0 .nil .nil)) (.node z1Y (.node tq0 .nil .nil) (.node z1E .nil .nil))) (.node tq0 (.node tq0 (.node ⟨.arr 4 3,4,some (.agg [.int .i64,.int .i64,.int .i64,.int .i64]),some [I 0,I 0,I 0,I 0]⟩ .nil .nil) (.node ⟨.arr 65 5,65,some (.agg z3A),some (List.replicate 65 (.int .u8 0))⟩ .nil .nil)) (.node tq0 (.node tq0 .nil .nil) .nil)))) (.node tq7 (.node tq0 (.node z2j (.node ⟨.tuple [24,52],1,none,none⟩ (.node ⟨.arr 60 3,60,some (.agg lf6),some (List.replicate 60 (I 0))⟩ .nil .nil) (.node tq0 .nil .nil)) (.node z22 (.node ⟨.slice 329,1,some eL6,some [.slice none 0 0]⟩ .nil .nil) (.node ⟨.arr 64 5,64,some (.agg z3y),some (List.replicate 64 (.int .u8 0))⟩ .nil .nil))) (.node z2f (.node z2b (.node tq0 .nil .nil) (.node tq1 .nil .nil)) (.node tq0 (.node ⟨.tuple [9,9],1,none,none⟩ .nil .nil) .nil))) (.node tq0 (.node tq0 (.node tq0 (.node tq0 .nil .nil) (.node tq0 .nil .nil)) (.node tq0 (.node tq0 .nil .nil) (.node tq0 .nil .nil))) (.node tq0 (.node ⟨.map 3 256,1,some (.one (.map)),some [.map none]⟩ (.node ⟨.slice 356,1,some eL6,some [.slice none 0 0]⟩ .nil .nil) (.node tq0 .nil .nil)) (.node tq0 (.node tq0 .nil .nil) .nil)))))) (.node tq2 (.node tq4 (.node tq7 (.node ⟨.slice 9,1,some eL6,some [.slice none 0 0]⟩ (.node tq0 (.node tq0 (.node ⟨.tuple [256,4],1,none,none⟩ .nil .nil) (.node tq7 .nil .nil)) (.node tq0 (.node tq0 .nil .nil) (.node tq0 .nil .nil))) (.node tq0 (.node tq0 (.node tq0 .nil .nil) (.node tq0 .nil .nil)) (.node wc (.node tq7 .nil .nil) .nil))) (.node tq0 (.node tq7 (.node ⟨.tuple [23,3,3,4],1,none,none⟩ (.node z1S .nil .nil) (.node ⟨.other,1,none,none⟩ .nil .nil)) (.node tq7 (.node z1J .nil .nil) (.node ⟨.arr 0 16,0,some (.agg []),some []⟩ .nil .nil))) (.node tq0 (.node tq0 (.node tq0 .nil .nil) (.node tq0 .nil .nil)) (.node tq0 (.node tq0 .nil .nil) .nil)))) (.node tq0 (.node tq0 (.node tq7 (.node tq0 (.node tq0 .nil .nil) (.node tq0 .nil .nil)) (.node z23 (.node tq0 .nil .nil) (.node z1G .nil .nil))) (.node z2g (.node z2c (.node ⟨.tuple [296,4],1,none,none⟩ .nil .nil) (.node ⟨.tuple [382,382],1,none,none⟩ .nil .nil)) (.node tq9 (.node tq0 .nil .nil) .nil))) (.node ⟨.slice 39,1,some eL6,some [.slice none 0 0]⟩ (.node tq0 (.node tq0 (.node ⟨.map 9 9,1,some (.one (.map)),some [.map none]⟩ .nil .nil) (.node tq7 .nil .nil)) (.node z1X (.node tq0 .nil .nil) (.node z1D .nil .nil))) (.node tq0 (.node tq0 (.node tq0 .nil .nil) (.node ⟨.tuple [384,233],1,none,none⟩ .nil .nil)) (.node ⟨.tuple [132,4],1,none,none⟩ (.node tq0 .nil .nil) .nil))))) (.node tq6 (.node z02 (.node z2n (.node ⟨.map 3 34,1,some (.one (.map)),some [.map none]⟩ (.node tq0 (.node tq0 .nil .nil) (.node z1I .nil .nil)) (.node z27 (.node z1M .nil .nil) (.node tq0 .nil .nil))) (.node Ho (.node ⟨.map 3 173,1,some (.one (.map)),some [.map none]⟩ (.node z1Q .nil .nil) (.node tq0 .nil .nil)) (.node tq7 (.node tq0 .nil .nil) .nil))) (.node ⟨.tuple [27,52],1,none,none⟩ (.node tq7 (.node tq0 (.node z1R .nil .nil) (.node wc .nil .nil)) (.node tq0 (.node ⟨.slice 80,1,some eL6,some [.slice none 0 0]⟩ .nil .nil) (.node tq2 .nil .nil))) (.node tq0 (.node tq0 (.node tq0 .nil .nil) (.node tq0 .nil .nil)) (.node tq0 (.node tq0 .nil .nil) .nil)))) (.node tq0 (.node z2l (.node z2i (.node tq0 (.node z1U .nil .nil) (.node ⟨.arr 24 5,24,some (.agg z3C),some (List.replicate 24 (.int .u8 0))⟩ .nil .nil)) (.node ⟨.map 9 296,1,some (.one (.map)),some [.map none]⟩ (.node z1K .nil .nil) (.node tq0 .nil .nil))) (.node tq0 (.node Ho (.node tq0 .nil .nil) (.node tq0 .nil .nil)) (.node tq0 (.node tq0 .nil .nil) .nil))) (.node tq0 (.node tq0 (.node z2d (.node tq0 .nil .nil) (.node ⟨.slice 102,1,some eL6,some [.slice none 0 0]⟩ .nil .nil)) (.node tq0 (.node tq0 .nil .nil) .nil)) (.node tq0 (.node z2a (.node z1O .nil .nil) (.node z1H .nil .nil)) (.node ⟨.tuple [9,52],1,none,none⟩ (.node tq0 .nil .nil) .nil))))))) (.node tq1 (.node ⟨.bool,1,some eB6,some [.bool false]⟩ (.node tq3 (.node tq7 (.node tq0 (.node tq0 (.node ⟨.slice 132,1,some eL6,some [.slice none 0 0]⟩ (.node z1V .nil .nil) (.node tq5 .nil .nil)) (.node tq0 (.node tq0 .nil .nil) (.node tq0 .nil .nil))) (.node ⟨.tuple [33,52],1,none,none⟩ (.node tq0 (.node tq0 .nil .nil) (.node tq5 .nil .nil)) (.node tq0 (.node ⟨.tuple [173,4],1,none,none⟩ .nil .nil) .nil))) (.node tq0 (.node ⟨.slice 5,1,some eL6,some [.slice none 0 0]⟩ (.node tq0 (.node z1S .nil .nil) (.node tq0 .nil .nil)) (.node tq0 (.node z1J .nil .nil) (.node z1F .nil .nil))) (.node tq0 (.node ⟨.tuple [175,4],1,none,none⟩ (.node tq0 .nil .nil) (.node tq0 .nil .nil)) (.node tq0 (.node tq0 .nil .nil) .nil)))) (.node ⟨.slice 3,1,some eL6,some [.slice none 0 0]⟩ (.node ⟨.tuple [24,24],1,none,none⟩ (.node tq7 (.node tq0 (.node tq0 .nil .nil) (.node tq0 .nil .nil)) (.node z25 (.node z1L .nil .nil) (.node z1G .nil .nil))) (.node z2g (.node z2c (.node z1P .nil .nil) (.node ⟨.slice 420,1,some eL6,some [.slice none 0 0]⟩ .nil .nil)) (.node tq9 (.node tq0 .nil .nil) .nil))) (.node z2k (.node tq0 (.node ⟨.tuple [105,52],1,none,none⟩ (.node ⟨.map 9 3,1,some (.one (.map)),some [.map none]⟩ .nil .nil) (.node tq0 .nil .nil)) (.node z1X (.node tq0 .nil .nil) (.node z02 .nil .nil))) (.node ⟨.tuple [3,52],1,none,none⟩ (.node tq0 (.node tq5 .nil .nil) (.node tq0 .nil .nil)) (.node tq0 (.node tq0 .nil .nil) .nil))))) (.node tq5 (.node tq9 (.node z2n (.node tq0 (.node z2e (.node tq0 .nil .nil) (.node tq7 .nil .nil)) (.node tq0 (.node ⟨.map 3 4,1,some (.one (.map)),some [.map none]⟩ .nil .nil) (.node tq0 .nil .nil))) (.node Ho (.node tq0 (.node tq0 .nil .nil) (.node tq7 .nil .nil)) (.node tq0 (.node wc .nil .nil) .nil))) (.node tq1 (.node wc (.node tq0 (.node z1R .nil .nil) (.node ⟨.slice 406,1,some eL6,some [.slice none 0 0]⟩ .nil .nil)) (.node tq0 (.node tq0 .nil .nil) (.node tq2 .nil .nil))) (.node tq0 (.node tq0 (.node tq0 .nil .nil) (.node tq0 .nil .nil)) (.node tq0 (.node tq0 .nil .nil) .nil)))) (.node ⟨.tuple [27,4],1,none,none⟩ (.node z2l (.node z2j (.node tq0 (.node z1U .nil .nil) (.node tq0 .nil .nil)) (.node z22 (.node ⟨.map 9 273,1,some (.one (.map)),some [.map none]⟩ .nil .nil) (.node tq0 .nil .nil))) (.node ⟨.tuple [107,4],1,none,none⟩ (.node Ho (.node tq0 .nil .nil) (.node ⟨.tuple [2,233],1,none,none⟩ .nil .nil)) (.node tq0 (.node tq0 .nil .nil) .nil))) (.node tq0 (.node tq0 (.node z2d (.node tq0 .nil .nil) (.node tq0 .nil .nil)) (.node tq0 (.node tq0 .nil .nil) .nil)) (.node tq0 (.node ⟨.map 3 3,1,some (.one (.map)),some [.map none]⟩ (.node z1O .nil .nil) (.node z1H .nil .nil)) (.node tq0 (.node tq0 .nil .nil) .nil)))))) (.node tq2 (.node tq4 (.node tq8 (.node tq0 (.node tq0 (.node tq0 (.node tq0 .nil .nil) (.node tq0 .nil .nil)) (.node tq7 (.node tq0 .nil .nil) (.node tq0 .nil .nil))) (.node tq0 (.node tq0 (.node ⟨.slice 294,1,some eL6,some [.slice none 0 0]⟩ .nil .nil) (.node tq0 .nil .nil)) (.node wc (.node tq0 .nil .nil) .nil))) (.node tq0 (.node ⟨.tuple [81,4],1,none,none⟩ (.node tq0 (.node ⟨.tuple [273,4],1,none,none⟩ .nil .nil) (.node tq0 .nil .nil)) (.node z1Y (.node tq0 .nil .nil) (.node z1E .nil .nil))) (.node tq0 (.node tq0 (.node tq0 .nil .nil) (.node ⟨.arr 20 384,20,some (.agg z3B),some (List.replicate 20 (.int .u64 0))⟩ .nil .nil)) (.node ⟨.tuple [105,4],1,none,none⟩ (.node tq0 .nil .nil) .nil)))) (.node tq0 (.node ⟨.slice 45,1,some eL6,some [.slice none 0 0]⟩ (.node tq7 (.node tq0 (.node tq0 .nil .nil) (.node tq0 .nil .nil)) (.node z23 (.node tq0 .nil .nil) (.node ⟨.arr 32 5,32,some (.agg z3z),some (List.replicate 32 (.int .u8 0))⟩ .nil .nil))) (.node z2f (.node z2b (.node tq0 .nil .nil) (.node tq0 .nil .nil)) (.node ⟨.tuple [3,233],1,none,none⟩ (.node tq7 .nil .nil) .nil))) (.node ⟨.tuple [3,3,3,3],1,none,none⟩ (.node tq0 (.node tq0 (.node tq0 .nil .nil) (.node tq0 .nil .nil)) (.node tq0 (.node tq0 .nil .nil) (.node z1D .nil .nil))) (.node tq0 (.node tq0 (.node tq0 .nil .nil) (.node tq0 .nil .nil)) (.node tq0 (.node tq0 .nil .nil) .nil))))) (.node tq6 (.node z2o (.node z2m (.node tq7 (.node ⟨.tuple [128,52],1,none,none⟩ (.node tq0 .nil .nil) (.node z1I .nil .nil)) (.node z27 (.node z1M .nil .nil) (.node tq0 .nil .nil))) (.node ⟨.slice 101,1,some eL6,some [.slice none 0 0]⟩ (.node ⟨.map 9 175,1,some (.one (.map)),some [.map none]⟩ (.node z1Q .nil .nil) (.node tq0 .nil .nil)) (.node z1W (.node tq0 .nil .nil) .nil))) (.node tq0 (.node z2h (.node ⟨.tuple [37,3,4],1,none,none⟩ (.node ⟨.tuple [277,4],1,none,none⟩ .nil .nil) (.node wc .nil .nil)) (.node tq0 (.node tq0 .nil .nil) (.node tq0 .nil .nil))) (.node tq0 (.node tq7 (.node tq0 .nil .nil) (.node tq0 .nil .nil)) (.node tq0 (.node tq1 .nil .nil) .nil)))) (.node wc (.node ⟨.tuple [3,3],1,none,none⟩ (.node z2i (.node tq0 (.node z1T .nil .nil) (.node tq0 .nil .nil)) (.node z1Z (.node z1K .nil .nil) (.node tq0 .nil .nil))) (.node tq0 (.node tq0 (.node tq0 .nil .nil) (.node tq7 .nil .nil)) (.node tq0 (.node tq0 .nil .nil) .nil))) (.node tq0 (.node tq0 (.node ⟨.tuple [157,4],1,none,none⟩ (.node tq0 .nil .nil) (.node tq0 .nil .nil)) (.node ⟨.tuple [9,3,4],1,none,none⟩ (.node tq7 .nil .nil) .nil)) (.node tq0 (.node z2a (.node z1N .nil .nil) (.node tq0 .nil .nil)) (.node tq0 (.node ⟨.int .u32,1,some (.one (.int .u32)),some [.int .u32 0]⟩ .nil .nil) .nil)))))))),(.node none (.node none (.node none (.node none (.node none (.node (some rS) (.node (some rB) .nil (.node (some (.one (.one (.func)))) .nil .nil)) (.node (some (.tup [])) (.node (some (.one (.one (.func)))) (.node (some rS) .nil .nil) .nil) (.node (some (.tup [eI6,eB6])) .nil .nil))) (.node (some (.tup [eP6,eB6])) (.node (some rL) (.node (some (.tup [])) .nil .nil) .nil) (.node (some rB) (.node (some (.one (.one (.func)))) .nil .nil) (.node (some (.one (.one (.func)))) .nil .nil)))) (.node (some rL) (.node (some rL) (.node (some rS) (.node (some rB) .nil .nil) (.node (some rL) .nil .nil)) (.node (some (.one (.agg [.slice,.slice]))) (.node (some rL) .nil .nil) (.node (some rL) .nil .nil))) (.node (some (.tup [eI6,eI6,eI6,eI6])) (.node (some rS) (.node (some (.tup [eS6,eB6])) (.node (some (.tup [])) .nil .nil) .nil) (.node (some rB) (.node (some (.tup [])) .nil .nil) .nil)) (.node (some (.one (.one (.func)))) (.node (some rI) .nil .nil) .nil)))) (.node (some rL) (.node (some (.tup [eP6,eI6])) (.node (some rL) (.node (some rB) (.node none (.node (some rL) .nil .nil) .nil) (.node (some rL) .nil .nil)) (.node (some rP) (.node (some rL) (.node (some rL) .nil .nil) .nil) (.node (some rI) .nil .nil))) (.node (some rP) (.node (some rL) .nil (.node (some (.tup [eI6,(.one (.iface))])) .nil .nil)) (.node (some (.one (.one (.func)))) (.node (some rL) .nil .nil) (.node (some rS) .nil .nil)))) (.node none (.node (some rL) (.node (some (.tup [eI6,eI6])) .nil (.node (some rB) .nil .nil)) (.node (some (.tup [eI6,eI6])) (.node (some rS) .nil .nil) (.node (some (.tup [eS6,eS6])) .nil .nil))) (.node none (.node (some (.tup [eL6,eI6])) (.node (some rP) (.node (some rL) .nil .nil) .nil) (.node (some rL) .nil .nil)) (.node (some rB) (.node (some rI) (.node (some rI) .nil .nil) .nil) .nil))))) (.node none (.node none (.node (some rI) (.node (some rL) (.node (some rB) .nil (.node (some rL) .nil .nil)) (.node (some (.tup [(.agg lf0),eI6,eI6,eB6])) (.node (some rI) (.node (some (.tup [])) .nil .nil) .nil) (.node (some (.tup [])) .nil .nil))) (.node (some rB) (.node (some rS) (.node (some (.tup [])) .nil .nil) .nil) (.node (some rL) (.node (some (.tup [eL6,eL6])) .nil .nil) (.node (some rL) .nil .nil)))) (.node none (.node (some rL) (.node (some rS) (.node (some rI) .nil .nil) (.node (some (.tup [])) .nil .nil)) (.node (some rI) (.node (some (.tup [])) .nil .nil) (.node (some rL) .nil .nil))) (.node none (.node (some rI) (.node (some (.one (.agg [.int .i64,.int .i64,.int .i64,.str]))) (.node (some rI) .nil .nil) .nil) .nil) (.node (some rB) (.node (some rI) .nil .nil) .nil)))) (.node (some rL) (.node (some rI) (.node (some rL) (.node (some rI) (.node (some rB) .nil .nil) (.node (some rL) (.node (some (.tup [])) .nil .nil) .nil)) (.node (some (.tup [(.agg [.slice,.slice]),eI6])) (.node (some (.tup [])) (.node (some rB) .nil .nil) .nil) (.node (some rI) .nil .nil))) (.node (some rP) (.node (some (.tup [eL6,eI6])) (.node (some (.tup [(.agg [.slice,.slice]),eB6])) .nil .nil) (.node (some rB) .nil .nil)) (.node (some rI) (.node (some rI) .nil .nil) (.node (some (.tup [])) .nil .nil)))) (.node (some rI) (.node (some rL) (.node (some (.tup [eI6,eI6])) .nil .nil) (.node (some rI) (.node (some (.tup [eS6,eI6])) .nil .nil) (.node (some (.one (.one (.func)))) .nil .nil))) (.node (some rB) (.node (some rL) (.node (some (.tup [(.agg [.int .i64,.int .i64,.int .i64,.str]),eB6])) (.node (some (.tup [])) .nil .nil) .nil) .nil) (.node (some rP) .nil .nil)))))) (.node none (.node (some rB) (.node (some (.one (.agg lf0))) (.node none (.node (some rL) (.node (some rB) .nil (.node (some (.tup [])) .nil .nil)) (.node (some rI) (.node (some (.tup [eS6,eI6])) (.node (some rB) .nil .nil) .nil) (.node (some rB) .nil .nil))) (.node (some rL) (.node none (.node (some rI) (.node (some rI) .nil .nil) .nil) .nil) (.node (some (.tup [])) (.node (some (.one (.agg [.slice,.slice]))) .nil .nil) (.node (some rL) .nil .nil)))) (.node none (.node (some rL) (.node (some rS) (.node (some rI) .nil .nil) (.node (some rL) .nil .nil)) (.node (some (.tup [(.agg lf4),eB6])) (.node (some rL) .nil .nil) (.node (some (.one (.one (.func)))) .nil .nil))) (.node (some rL) (.node (some rB) (.node (some rB) (.node (some rI) .nil .nil) .nil) .nil) (.node (some rP) (.node (some (.one (.agg [.int .i64,.int .i64,.int .i64,.int .i64]))) .nil .nil) .nil)))) (.node (some (.tup [eL6,eL6])) (.node (some rI) (.node (some rL) (.node (some rB) (.node (some (.tup [eS6,eI6,eB6])) (.node (some (.tup [])) .nil .nil) .nil) (.node (some rL) .nil .nil)) (.node (some (.tup [(.agg [.str,.str,.slice,.int .i64]),eI6,eB6])) (.node (some (.tup [eL6,eI6])) (.node (some rI) .nil .nil) .nil) (.node (some (.one (.one (.func)))) .nil .nil))) (.node (some rP) (.node (some rS) .nil (.node (some rB) .nil .nil)) (.node (some rI) (.node (some (.one (.one (.func)))) .nil .nil) (.node (some rI) .nil .nil)))) (.node (some rI) (.node (some (.tup [eL6,eL6])) (.node (some rL) .nil .nil) (.node (some (.one (.agg [.int .i64,.int .i64]))) (.node (some (.tup [(.agg lV),eB6])) (.node (some rL) .nil .nil) .nil) (.node (some (.tup [])) .nil .nil))) (.node (some (.tup [(.agg lf3),eB6])) (.node (some rL) (.node (some rI) (.node (some (.tup [])) .nil .nil) .nil) .nil) (.node (some rP) (.node (some rI) (.node (some rL) .nil .nil) .nil) .nil))))) (.node none (.node none (.node (some rB) (.node (some rL) (.node (some rB) (.node none (.node (some (.tup [])) .nil .nil) .nil) (.node (some (.one (.one (.func)))) .nil .nil)) (.node (some (.tup [eS6,eB6])) (.node (some (.tup [eI6,eB6])) (.node (some (.tup [])) .nil .nil) .nil) (.node (some rS) .nil .nil))) (.node (some rP) (.node (some rL) (.node (some (.one (.agg [.str,.str,.slice,.int .i64]))) .nil .nil) (.node (some rI) (.node (some (.tup [])) .nil .nil) .nil)) (.node (some rL) (.node (some rB) .nil .nil) (.node (some rL) .nil .nil)))) (.node none (.node (some rL) (.node (some rS) .nil (.node (some rB) .nil .nil)) (.node (some rB) (.node (some (.tup [(.agg lf9),eB6])) .nil .nil) (.node (some rL) .nil .nil))) (.node none (.node (some rL) (.node (some (.one (.agg [.int .i64,.int .i64,.int .i64,.str]))) (.node (some (.tup [])) .nil .nil) .nil) .nil) (.node (some rP) (.node (some rP) (.node (some (.tup [])) .nil .nil) .nil) .nil)))) (.node none (.node (some (.tup [eI6,eI6,eI6,eI6])) (.node (some rL) (.node (some rI) (.node (some rB) .nil .nil) (.node (some rL) (.node (some (.tup [])) .nil .nil) .nil)) (.node (some rS) (.node (some (.one (.one (.func)))) .nil .nil) (.node (some (.tup [])) .nil .nil))) (.node (some rP) (.node (some rI) (.node (some rS) .nil .nil) (.node (some rB) .nil .nil)) (.node (some rL) (.node (some rI) .nil .nil) (.node (some (.tup [])) .nil .nil)))) (.node (some rS) (.node none (.node none (.node (some rI) .nil .nil) .nil) (.node (some (.tup [eL6,eL6])) (.node (some (.one (.one (.func)))) .nil .nil) (.node (some (.tup [])) .nil .nil))) (.node (some rB) (.node (some rL) (.node (some rI) (.node (some (.one (.one (.func)))) .nil .nil) .nil) (.node (some (.tup [(.agg [.slice,.slice]),eB6])) .nil .nil)) (.node none (.node none (.node (some (.tup [])) .nil .nil) .nil) .nil)))))))⟩
def Tok:qW Pr Dt:=Hp (by kernel_rfl) (by kernel_rfl) (by kernel_rfl)
variable {K:Value→PT}{w:World}
abbrev CV(f:FuncId)(a:List SV)(K:Value→PT)(w:World):Prop:=Calls Pr f (xS a).toArray w λe w2=>∃v,e = .returned v∧K v w2
def zF{f:FuncId}(fn:Func)(an:Ann)(args:List SV){F:PT}(h:F w)(h1:Pr.funcs[f]? = some fn:=by kernel_rfl)(h2:okF args.length fn=true:=by kernel_rfl)(h3:z0J Pr Dt fn an args K=F:=by kernel_rfl):CV f args K w:=iz Tok h1 h2 ((congrFun h3 w).mpr h)
def FO:Ann:=(.q2 (.q2 (.q2 (.q2 (.q2 (.q2 (.seq (.q2 (.one [(13,eI6)] .auto) none) (.q2 (.seq (.q2 (.one [(14,eI6),(15,eI6)] (.seq (.q2 (.cond .auto .auto) none) (.seq (.q2 (.q2 (.q2 .auto (some [(14,eI6)])) none) none) .auto none) none)) none) (.seq (.q2 (.one [(18,eI6)] .auto) none) (.q2 (.q2 (.q2 (.q2 (.q2 (.seq (.q2 (.one [(27,eI6)] (.q2 (.seq (.q2 (.cond .auto .auto) none) .auto (some [])) none)) none) .auto none) none) none) none) none) none) none) (some [])) none) none) none) none) none) none) none) none)
def Vt(p0:ht0)(p1:Int)(p2:Sl)(p3:Int)(K:Value→PT):PT:=
  L.new [.string p0.1,I p0.2.1,I p0.2.2.1,I p0.2.2.2.1,I p0.2.2.2.2.1,I p0.2.2.2.2.2.1] zx λb1=>L.call Pr QO [] rB λ(x2:Bool)=>L.ite (!x2) (K (.bool false))<|L.load (.agg lf0) (⟨b1,0,none⟩) λ(x3:pt0)=>L.call Pr QN [(qa0 x3),I 0] (.one (.agg lf0)) λ(x4:pt0)=>L.new [.string s_,I 0,I 0,I 0,I 0,I 0] zx λb5=>L.store (⟨b5,0,none⟩) [.string x4.1,I x4.2.1,I x4.2.2.1,I x4.2.2.2.1,I x4.2.2.2.2.1,I x4.2.2.2.2.2.1]<|L.call Pr YS [I p1,I 10] rI λ(x6:Int)=>L.call Pr kB [I (Wi (1+x6)),I 8,I 50] (.tup [eP6,eI6]) λ(x7:Option Addr×Int×Unit)=>L.ite ((x7.1).isNone) (K (.bool false))<|L.ite (x7.2.1 != 0) (K (.bool false))<|L.load (.agg lf0) (⟨b5,0,none⟩) λ(x8:pt0)=>L.new [.string s_,.string s_,I 100] zH λb9=>L.new [I 1,.string s_,.string s_,I 0,I 0,.string x8.1,I x8.2.1,I x8.2.2.1,I x8.2.2.2.1,I x8.2.2.2.2.1,I x8.2.2.2.2.2.1,.string s_,.string s_,.slice none 0 0,I 0,I 2,.string s_,.string s_,I 0,I 0,.string s_,I 0,I 0,I 0,I 0,I 0,.string yS,.string uO,.slice (some ⟨b9,0,none⟩) 1 1,I 0,I 10,.string uO,.string s_,I 0,I 0,.string s_,I 0,I 0,I 0,I 0,I 0,.string s_,.string s_,.slice none 0 0,I 0,I 13,.string gA,.string s_,I 0,I 0,.string s_,I 0,I 0,I 0,I 0,I 0,.string s_,.string s_,.slice none 0 0,I 0,I 6,.string s_,.string s_,I 1,I 0,.string s_,I 0,I 0,I 0,I 0,I 0,.string s_,.string s_,.slice none 0 0,I 0,I 11,.string yS,.string s_,I 0,I 0,.string s_,I 0,I 0,I 0,I 0,I 0,.string s_,.string s_,.slice none 0 0,I 0] zC λb10=>L.loop (Y:=Int×Unit) (0,()) λy11 again12=>L.ite (decide (y11.1<((6:Nat):Int))) (L.idx (some ⟨b10,0,none⟩) y11.1 6 15 λa13=>L.load (.agg lf1) a13 λ(x14:pt1)=>L.call Pr zq [.pointer x7.1,(qa1 x14)] rL λ(x15:Sl)=>again12 (Wi (y11.1+1),()))<|L.join (Y:=Unit) (λk16=>L.loop (Y:=Int×Int×Unit) (1,0,()) λy18 again19=>L.ite (decide (y18.2.1<((p2.len:Nat):Int))) (L.ite (decide (y18.2.1<25)) (L.idx p2.a y18.2.1 p2.len 1 λa20=>L.load eI6 a20 λ(x21:Int)=>L.guard (7≠(0:Int))<|L.guard (1000≠(0:Int))<|L.new [I 0,.string s_,.string s_,I 0,I 0,.string s_,I 0,I 0,I 0,I 0,I 0,.string s_,.string s_,.slice none 0 0,I 0] zC λb22=>L.store (⟨b22,0,none⟩) [I 4,.string yS,.string s_,I y18.1,I (Int.tmod (Wi (Int.tdiv x21 7)) 1000),.string s_,I 0,I 0,I 0,I 0,I 0,.string s_,.string s_,.slice none 0 0,I 0]<|L.join (Y:=Int×Unit) (λk23=>L.idx p2.a y18.2.1 p2.len 1 λa25=>L.load eI6 a25 λ(x26:Int)=>L.call Pr YS [I x26,I 7] rI λ(x27:Int)=>L.ite (x27 == 0) (L.store (⟨b22,0,none⟩) [I 9,.string s_,.string s_,I 0,I 0,.string s_,I 0,I 0,I 0,I 0,I 0,.string s_,.string s_,.slice none 0 0,I 0]<|k23 (y18.1,()))<|L.ite (x27 == 1) (L.store (⟨b22,0,none⟩) [I 12,.string gA,.string s_,I 0,I 0,.string s_,I 0,I 0,I 0,I 0,I 0,.string s_,.string s_,.slice none 0 0,I 0]<|k23 (y18.1,()))<|L.ite (x27 == 2) (L.store (⟨b22,0,none⟩) [I 13,.string gA,.string s_,I 0,I 0,.string s_,I 0,I 0,I 0,I 0,I 0,.string s_,.string s_,.slice none 0 0,I 0]<|k23 (y18.1,()))<|L.ite (x27 == 3) (L.call Pr YS [I (Wi (Int.tdiv x21 7)),I 9] rI λ(x28:Int)=>L.store (⟨b22,0,none⟩) [I 8,.string s_,.string s_,I (Wi (1+x28)),I 0,.string s_,I 0,I 0,I 0,I 0,I 0,.string s_,.string s_,.slice none 0 0,I 0]<|k23 (y18.1,()))<|k23 (Wi (y18.1+1),())) λz24=>L.load (.agg lf1) (⟨b22,0,none⟩) λ(x29:pt1)=>L.call Pr zq [.pointer x7.1,(qa1 x29)] rL λ(x30:Sl)=>again19 (z24.1,Wi (y18.2.1+1),()))<|k16 (()))<|k16 (())) λz17=>L.loop (Y:=Int×Unit) (0,()) λy31 again32=>L.call Pr YS [I p3,I 8] rI λ(x33:Int)=>L.ite (decide (y31.1<x33)) (L.call Pr zq [.pointer x7.1,.agg #[I 4,.string yS,.string s_,I (Wi (1000+y31.1)),I 0,.string s_,I 0,I 0,I 0,I 0,I 0,.string s_,.string s_,.slice none 0 0,I 0]] rL λ(x34:Sl)=>again32 (Wi (y31.1+1),()))<|L.call Pr Ju [.pointer x7.1,.string gA] (.tup [eL6,eL6]) λ(x35:Sl×Sl×Unit)=>L.load eI6 (Ad6 b5 2) λ(x36:Int)=>L.call Pr vT [I x36,I ((x35.1.len:Nat):Int)] rI λ(x37:Int)=>L.ite (decide (x37<0)) (K (.bool false))<|L.ite (decide (x37>100)) (K (.bool false))<|L.call Pr Jv [.pointer x7.1] (.tup [eI6,eI6,eI6,eI6]) λ(x38:Int×Int×Int×Int×Unit)=>L.call Pr gM [.pointer x7.1,I x37] rL λ(x39:Sl)=>L.loop (Y:=Int×Unit) (0,()) λy40 again41=>L.ite (decide (y40.1<((x39.len:Nat):Int))) (L.join (Y:=Unit) (λk42=>L.idx x39.a y40.1 x39.len 1 λa44=>L.load eS6 a44 λ(x45:B0)=>L.ite (decide ((x45.size:Int)>8)) (L.idx x39.a y40.1 x39.len 1 λa46=>L.load eS6 a46 λ(x47:B0)=>L.guard ((0:Int)≤(0:Int)∧(0:Int)≤(8:Int)∧(8:Int)≤x47.size)<|L.ite ((x47.extract (Int.toNat 0) (Int.toNat 8)).toList == Gk.toList) (K (.bool false))<|k42 (()))<|k42 (())) λz43=>again41 (Wi (y40.1+1),()))<|L.call Pr Jv [.pointer x7.1] (.tup [eI6,eI6,eI6,eI6]) λ(x48:Int×Int×Int×Int×Unit)=>L.ite (x48.1 == x38.1) (L.ite (x48.2.1 == 0) (L.ite (x48.2.2.1 == 0) (K (.bool (x48.2.2.2.1 == x48.1)))<|K (.bool false))<|K (.bool false))<|K (.bool false)
def FG(p0:ht0)(p1:Int)(p2:Sl)(p3:Int)(h:Vt p0 p1 p2 p3 K w):CV Ve [.ag (qc0 p0),.v (.int .i64 p1),.v (.slice p2.a p2.len p2.cap),.v (.int .i64 p3)] K w:=zF Tryz.f4 FO _ h
def kf(p0:ht0)(p1:Int)(K:Value→PT):PT:=
  L.new [.string p0.1,I p0.2.1,I p0.2.2.1,I p0.2.2.2.1,I p0.2.2.2.2.1,I p0.2.2.2.2.2.1] zx λb1=>L.new [.string s_,I 0,I 0,I 0,I 0,I 0] zx λb2=>L.new [.string uO,.string nT,.string nU] zc λb3=>L.call Pr yU [I p1,I 3] rI λ(x4:Int)=>L.idx (some ⟨b3,0,none⟩) x4 3 1 λa5=>L.load eS6 a5 λ(x6:B0)=>L.store (Ad6 b1 0) [.string x6]<|L.load eI6 (Ad6 b1 1) λ(x7:Int)=>L.call Pr yU [I x7,I 256] rI λ(x8:Int)=>L.store (Ad6 b1 1) [I x8]<|L.load eI6 (Ad6 b1 2) λ(x9:Int)=>L.call Pr yU [I x9,I 8] rI λ(x10:Int)=>L.store (Ad6 b1 2) [I (Wi (1+x10))]<|L.load eI6 (Ad6 b1 4) λ(x11:Int)=>L.call Pr yU [I x11,I 10] rI λ(x12:Int)=>L.store (Ad6 b1 4) [I (Wi (1+x12))]<|L.load eI6 (Ad6 b1 3) λ(x13:Int)=>L.load eI6 (Ad6 b1 4) λ(x14:Int)=>L.call Pr yU [I x13,I (Wi (x14+1))] rI λ(x15:Int)=>L.store (Ad6 b1 3) [I x15]<|L.load eI6 (Ad6 b1 5) λ(x16:Int)=>L.call Pr yU [I x16,I 31] rI λ(x17:Int)=>L.store (Ad6 b1 5) [I x17]<|L.load (.agg lf0) (⟨b1,0,none⟩) λ(x18:pt0)=>L.store (⟨b2,0,none⟩) [.string x18.1,I x18.2.1,I x18.2.2.1,I x18.2.2.2.1,I x18.2.2.2.2.1,I x18.2.2.2.2.2.1]<|L.load (.agg lf0) (⟨b2,0,none⟩) λ(x19:pt0)=>K ((qa0 x19))
def mK(p0:ht0)(p1:Int)(h:kf p0 p1 K w):CV QN [.ag (qc0 p0),.v (.int .i64 p1)] K w:=zF Tryz.f8 .auto _ h
def uF(p0:Option Addr)(p1:ht1)(K:Value→PT):PT:=
  L.new [I p1.1,.string p1.2.1,.string p1.2.2.1,I p1.2.2.2.1,I p1.2.2.2.2.1,.string p1.2.2.2.2.2.1,I p1.2.2.2.2.2.2.1,I p1.2.2.2.2.2.2.2.1,I p1.2.2.2.2.2.2.2.2.1,I p1.2.2.2.2.2.2.2.2.2.1,I p1.2.2.2.2.2.2.2.2.2.2.1,.string p1.2.2.2.2.2.2.2.2.2.2.2.1,.string p1.2.2.2.2.2.2.2.2.2.2.2.2.1,Sv6 p1.2.2.2.2.2.2.2.2.2.2.2.2.2.1,I p1.2.2.2.2.2.2.2.2.2.2.2.2.2.2.1] zC λb1=>L.load (.agg lf1) (⟨b1,0,none⟩) λ(x2:pt1)=>L.call Pr oQ [(qa1 x2)] rI λ(x3:Int)=>L.ite (x3 != 0) (L.call Pr qw [I x3] rS λ(x4:B0)=>L.new [.string x4] zc λb5=>L.call Pr zR [.string bZ,.slice (some ⟨b5,0,none⟩) 1 1] rS λ(x6:B0)=>L.new [.string x6] zc λb7=>K (.slice (some ⟨b7,0,none⟩) 1 1))<|L.sem Pr (.one (.one .map)) (Instr.makeMap zy none) λ(m8:Option Nat)=>L.semU Pr (Instr.mapUpdate zy (.map m8) (I 1) (.func (.func Yj) #[.pointer p0] #[]))<|L.semU Pr (Instr.mapUpdate zy (.map m8) (I 2) (.func (.func Yy) #[.pointer p0] #[]))<|L.semU Pr (Instr.mapUpdate zy (.map m8) (I 3) (.func (.func qK) #[.pointer p0] #[]))<|L.semU Pr (Instr.mapUpdate zy (.map m8) (I 4) (.func (.func Yk) #[.pointer p0] #[]))<|L.semU Pr (Instr.mapUpdate zy (.map m8) (I 5) (.func (.func YQ) #[.pointer p0] #[]))<|L.semU Pr (Instr.mapUpdate zy (.map m8) (I 6) (.func (.func jE) #[.pointer p0] #[]))<|L.semU Pr (Instr.mapUpdate zy (.map m8) (I 7) (.func (.func yk) #[.pointer p0] #[]))<|L.semU Pr (Instr.mapUpdate zy (.map m8) (I 8) (.func (.func yk) #[.pointer p0] #[]))<|L.semU Pr (Instr.mapUpdate zy (.map m8) (I 9) (.func (.func YO) #[.pointer p0] #[]))<|L.semU Pr (Instr.mapUpdate zy (.map m8) (I 10) (.func (.func Yw) #[.pointer p0] #[]))<|L.semU Pr (Instr.mapUpdate zy (.map m8) (I 11) (.func (.func YP) #[.pointer p0] #[]))<|L.semU Pr (Instr.mapUpdate zy (.map m8) (I 12) (.func (.func Yx) #[.pointer p0] #[]))<|L.semU Pr (Instr.mapUpdate zy (.map m8) (I 13) (.func (.func Yc) #[.pointer p0] #[]))<|L.load eI6 (Ad6 b1 0) λ(x9:Int)=>L.semR Pr (.one (.one (.func))) (Instr.lookup zy (.map m8) (I x9) false) λ(x10:FV)=>L.load (.agg lf1) (⟨b1,0,none⟩) λ(x11:pt1)=>L.callV Pr (.func x10.fn x10.fs x10.cs) [(qa1 x11)] rL λ(x12:Sl)=>K (.slice x12.a x12.len x12.cap)
def KX(p0:Option Addr)(p1:ht1)(h:uF p0 p1 K w):CV zq [.v (.pointer p0),.ag (qc1 p1)] K w:=zF Tryz.f11 .auto _ h
def UG(p0:Option Addr)(p1:B0)(K:Value→PT):PT:=
  L.nonnil p0 λa1=>L.load eP6 (a1.add 4) λ(x2:Option Addr)=>L.call Pr XH [.pointer x2,.string p1] (.tup [eL6,eL6]) λ(x3:Sl×Sl×Unit)=>K (.tuple #[Sv6 x3.1,Sv6 x3.2.1])
def Gc(p0:Option Addr)(p1:B0)(h:UG p0 p1 K w):CV Ju [.v (.pointer p0),.v (.string p1)] K w:=zF Tryz.f12 .auto _ h
def Qc(p0:Option Addr)(p1:B0)(K:Value→PT):PT:=
  L.nonnil p0 λa1=>L.load eP6 (a1.add 3) λ(x2:Option Addr)=>L.call Pr uz [.pointer x2,.string p1] rL λ(x3:Sl)=>K (.slice x3.a x3.len x3.cap)
def Vw(p0:Option Addr)(p1:B0)(h:Qc p0 p1 K w):CV xz [.v (.pointer p0),.v (.string p1)] K w:=zF Tryz.f13 .auto _ h
def Vn(p0:Option Addr)(p1:B0)(K:Value→PT):PT:=
  L.nonnil p0 λa1=>L.load (.one (.map)) (a1.add 5) λ(x2:Option Nat)=>L.call Pr jb [.map x2,.string p1] (.tup [eP6,eB6]) λ(x3:Option Addr×Bool×Unit)=>L.ite x3.2.1 (L.nonnil x3.1 λa4=>L.load eI6 ((a4.add 1).add 0) λ(x5:Int)=>K (I x5))<|K (I 0)
def Fz(p0:Option Addr)(p1:B0)(h:Vn p0 p1 K w):CV qL [.v (.pointer p0),.v (.string p1)] K w:=zF Tryz.f17 .auto _ h
def kg  (K:Value→PT):PT:=
  L.call Pr kB [I 1,I 0,I 1] (.tup [eP6,eI6]) λ(x1:Option Addr×Int×Unit)=>L.ite ((x1.1).isNone) (K (.bool false))<|L.call Pr Uz [.pointer x1.1] rL λ(x2:Sl)=>L.call Pr vT [I 1,I 0] rI λ(x3:Int)=>L.ite (x3 == 2) (L.ite (((x2.len:Nat):Int) == 1) (L.idx x2.a 0 x2.len 1 λa4=>L.load eS6 a4 λ(x5:B0)=>K (.bool (x5.toList == fA.toList)))<|K (.bool false))<|K (.bool false)
def mL(h:kg  K w):CV QO [] K w:=zF Tryz.f18 .auto _ h
def PC(p0 p1 p2:Int)(K:Value→PT):PT:=
  L.call Pr Jm [I p0,I 1,I 30] rB λ(x1:Bool)=>L.ite (!x1) (K (.tuple #[.pointer none,I 2]))<|L.call Pr Jm [I p1,I 0,I 8] rB λ(x2:Bool)=>L.ite (!x2) (K (.tuple #[.pointer none,I 2]))<|L.call Pr Jm [I p2,I 1,I 50] rB λ(x3:Bool)=>L.ite (!x3) (K (.tuple #[.pointer none,I 2]))<|L.call Pr fN [I p0] rP λ(x4:Option Addr)=>L.call Pr fL [] rP λ(x5:Option Addr)=>L.call Pr fK [] rP λ(x6:Option Addr)=>L.call Pr ME [] rP λ(x7:Option Addr)=>L.call Pr MF [.pointer x4,I p1,I p2] rP λ(x8:Option Addr)=>L.sem Pr (.one (.one .map)) (Instr.makeMap ZG none) λ(m9:Option Nat)=>L.new [.pointer x5,.pointer x6,.pointer x7,.pointer x4,.pointer x8,.map m9,I 0] Gs λb10=>K (.tuple #[.pointer (some (⟨b10,0,none⟩)),I 0])
def Wn(p0 p1 p2:Int)(h:PC p0 p1 p2 K w):CV kB [.v (.int .i64 p0),.v (.int .i64 p1),.v (.int .i64 p2)] K w:=zF Tryz.f19 .auto _ h
def FN:Ann:=(.q2 (.q2 (.q2 .auto (some [(5,eI6)])) none) none)
def Vs(p0 p1:Int)(K:Value→PT):PT:=
  L.guard (p1≠(0:Int))<|L.join (Y:=Int×Unit) (λk1=>L.ite (decide ((Int.tmod p0 p1)<0)) (k1 (Wi ((Int.tmod p0 p1)+p1),()))<|k1 (Int.tmod p0 p1,())) λz2=>K (I z2.1)
def FF(p0 p1:Int)(h:Vs p0 p1 K w):CV YS [.v (.int .i64 p0),.v (.int .i64 p1)] K w:=zF Tryz.f20 FN _ h
def oX(p0 p1:Int)(K:Value→PT):PT:=
  L.ite (decide (p0≤0)) (K (I 2))<|L.guard (p0≠(0:Int))<|K (I (Wi ((Wi (Int.tdiv (Wi ((Wi ((if 0>p1 then 0 else p1)+p0))-1)) p0))+2)))
def Mw(p0 p1:Int)(h:oX p0 p1 K w):CV vT [.v (.int .i64 p0),.v (.int .i64 p1)] K w:=zF Tryz.f21 .auto _ h
def UH(p0:Option Addr)(K:Value→PT):PT:=
  L.nonnil p0 λa1=>L.load eP6 (a1.add 4) λ(x2:Option Addr)=>L.call Pr uw [.pointer x2] (.tup [eI6,eI6,eI6,eI6]) λ(x3:Int×Int×Int×Int×Unit)=>K (.tuple #[I x3.1,I x3.2.1,I x3.2.2.1,I x3.2.2.2.1])
def Gd(p0:Option Addr)(h:UH p0 K w):CV Jv [.v (.pointer p0)] K w:=zF Tryz.f22 .auto _ h
def WE:Ann:=(.q2 (.q2 (.seq (.q2 (.one [(5,eL6),(8,eI6)] .auto) none) .auto none) none) none)
def PL(p0:Option Addr)(p1:Int)(K:Value→PT):PT:=
  L.loop (Y:=Sl×Int×Unit) (⟨none,0,0⟩,0,()) λy1 again2=>L.ite (decide (y1.2.1<(if 0>p1 then 0 else p1))) (L.call Pr Uz [.pointer p0] rL λ(x3:Sl)=>L.sem Pr (.one (.one .slice)) (Builtin.append_ #[zj,zj] zj #[Sv6 y1.1,Sv6 x3]) λ(s4:Sl)=>again2 (⟨s4.a,s4.len,s4.cap⟩,Wi (y1.2.1+1),()))<|L.call Pr yf [Sv6 y1.1] rL λ(x5:Sl)=>K (.slice x5.a x5.len x5.cap)
def Ww(p0:Option Addr)(p1:Int)(h:PL p0 p1 K w):CV gM [.v (.pointer p0),.v (.int .i64 p1)] K w:=zF Tryz.f23 WE _ h
def mQ:Ann:=(.q2 (.q2 (.q2 .auto (some [(5,eI6)])) none) none)
def ke(p0 p1:Int)(K:Value→PT):PT:=
  L.guard (p1≠(0:Int))<|L.join (Y:=Int×Unit) (λk1=>L.ite (decide ((Int.tmod p0 p1)<0)) (k1 (Wi ((Int.tmod p0 p1)+p1),()))<|k1 (Int.tmod p0 p1,())) λz2=>K (I z2.1)
def mJ(p0 p1:Int)(h:ke p0 p1 K w):CV yU [.v (.int .i64 p0),.v (.int .i64 p1)] K w:=zF Tryz.f28 mQ _ h
def nH:Ann:=(.q2 (.q2 (.q2 (.seq (.q2 .auto (some [(61,eB6)])) (.seq (.q2 (.cond .auto (.q2 (.cond .auto (.q2 (.cond .auto (.q2 (.cond .auto .auto) none)) none)) none)) none) .auto (some [])) none) none) none) none)
def Mt(p0:ht1)(K:Value→PT):PT:=
  L.new [I p0.1,.string p0.2.1,.string p0.2.2.1,I p0.2.2.2.1,I p0.2.2.2.2.1,.string p0.2.2.2.2.2.1,I p0.2.2.2.2.2.2.1,I p0.2.2.2.2.2.2.2.1,I p0.2.2.2.2.2.2.2.2.1,I p0.2.2.2.2.2.2.2.2.2.1,I p0.2.2.2.2.2.2.2.2.2.2.1,.string p0.2.2.2.2.2.2.2.2.2.2.2.1,.string p0.2.2.2.2.2.2.2.2.2.2.2.2.1,Sv6 p0.2.2.2.2.2.2.2.2.2.2.2.2.2.1,I p0.2.2.2.2.2.2.2.2.2.2.2.2.2.2.1] zC λb1=>L.load eI6 (Ad6 b1 0) λ(x2:Int)=>L.call Pr oP [I x2] (.tup [(.agg lf3),eB6]) λ(x3:pt2)=>L.new [.bool false,.bool false,.bool false,.bool false,.bool false,.bool false] cn λb4=>L.store (⟨b4,0,none⟩) [.bool x3.1.1,.bool x3.1.2.1,.bool x3.1.2.2.1,.bool x3.1.2.2.2.1,.bool x3.1.2.2.2.2.1,.bool x3.1.2.2.2.2.2.1]<|L.ite (!x3.2.1) (K (I 12))<|L.join (Y:=Bool×Unit) (λk5=>L.load eB6 (Ad6 b4 0) λ(x7:Bool)=>L.load eI6 (Ad6 b1 3) λ(x8:Int)=>L.call Pr Qw [.bool x7,I x8] rB λ(x9:Bool)=>L.ite (!x9) (k5 (true,()))<|L.load eB6 (Ad6 b4 1) λ(x10:Bool)=>L.load eS6 (Ad6 b1 1) λ(x11:B0)=>L.call Pr Xc [.bool x10,.string x11] rB λ(x12:Bool)=>L.ite (!x12) (k5 (true,()))<|L.load eB6 (Ad6 b4 2) λ(x13:Bool)=>L.load eS6 (Ad6 b1 2) λ(x14:B0)=>L.call Pr Xc [.bool x13,.string x14] rB λ(x15:Bool)=>L.ite (!x15) (k5 (true,()))<|L.load eB6 (Ad6 b4 3) λ(x16:Bool)=>L.load eI6 (Ad6 b1 4) λ(x17:Int)=>L.call Pr Qw [.bool x16,I x17] rB λ(x18:Bool)=>L.ite (!x18) (k5 (true,()))<|L.load eB6 (Ad6 b4 4) λ(x19:Bool)=>L.load (.agg lf0) (Ad6 b1 5) λ(x20:pt0)=>L.call Pr Xk [.bool x19,(qa0 x20)] rB λ(x21:Bool)=>L.ite (!x21) (k5 (true,()))<|L.load eB6 (Ad6 b4 5) λ(x22:Bool)=>L.ite (!x22) (L.load (.agg [.str,.str,.slice,.int .i64]) (Ad6 b1 11) λ(x23:pt3)=>L.call Pr gN [.agg #[.string x23.1,.string x23.2.1,Sv6 x23.2.2.1,I x23.2.2.2.1]] rB λ(x24:Bool)=>k5 (!x24,()))<|k5 (false,())) λz6=>L.ite z6.1 (K (I 2))<|L.join (Y:=Unit) (λk25=>L.load eB6 (Ad6 b4 0) λ(x27:Bool)=>L.ite x27 (L.load (.agg lf1) (⟨b1,0,none⟩) λ(x28:pt1)=>L.call Pr Kj [(qa1 x28)] rB λ(x29:Bool)=>L.ite (!x29) (K (I 2))<|L.load eB6 (Ad6 b4 1) λ(x30:Bool)=>L.ite x30 (L.load (.agg lf1) (⟨b1,0,none⟩) λ(x31:pt1)=>L.call Pr vU [(qa1 x31)] rB λ(x32:Bool)=>L.ite (!x32) (K (I 1))<|L.load eB6 (Ad6 b4 2) λ(x33:Bool)=>L.ite x33 (L.load eS6 (Ad6 b1 2) λ(x34:B0)=>L.ite (!(x34.toList == s_.toList)) (L.load eS6 (Ad6 b1 2) λ(x35:B0)=>L.call Pr xB [.string x35] rB λ(x36:Bool)=>L.ite (!x36) (K (I 1))<|L.load eB6 (Ad6 b4 3) λ(x37:Bool)=>L.ite x37 (L.load eI6 (Ad6 b1 4) λ(x38:Int)=>L.call Pr ZL [I x38,I 0,I 2147483647] rB λ(x39:Bool)=>L.ite (!x39) (K (I 2))<|L.load eB6 (Ad6 b4 4) λ(x40:Bool)=>L.ite x40 (L.load (.agg lf0) (Ad6 b1 5) λ(x41:pt0)=>L.call Pr Za [(qa0 x41)] rI λ(x42:Int)=>K (I x42))<|L.load eB6 (Ad6 b4 5) λ(x43:Bool)=>L.ite x43 (L.load (.agg [.str,.str,.slice,.int .i64]) (Ad6 b1 11) λ(x44:pt3)=>L.call Pr Zi [.agg #[.string x44.1,.string x44.2.1,Sv6 x44.2.2.1,I x44.2.2.2.1]] rI λ(x45:Int)=>K (I x45))<|k25 (()))<|L.load eB6 (Ad6 b4 4) λ(x46:Bool)=>L.ite x46 (L.load (.agg lf0) (Ad6 b1 5) λ(x47:pt0)=>L.call Pr Za [(qa0 x47)] rI λ(x48:Int)=>K (I x48))<|L.load eB6 (Ad6 b4 5) λ(x49:Bool)=>L.ite x49 (L.load (.agg [.str,.str,.slice,.int .i64]) (Ad6 b1 11) λ(x50:pt3)=>L.call Pr Zi [.agg #[.string x50.1,.string x50.2.1,Sv6 x50.2.2.1,I x50.2.2.2.1]] rI λ(x51:Int)=>K (I x51))<|k25 (()))<|L.load eB6 (Ad6 b4 3) λ(x52:Bool)=>L.ite x52 (L.load eI6 (Ad6 b1 4) λ(x53:Int)=>L.call Pr ZL [I x53,I 0,I 2147483647] rB λ(x54:Bool)=>L.ite (!x54) (K (I 2))<|L.load eB6 (Ad6 b4 4) λ(x55:Bool)=>L.ite x55 (L.load (.agg lf0) (Ad6 b1 5) λ(x56:pt0)=>L.call Pr Za [(qa0 x56)] rI λ(x57:Int)=>K (I x57))<|L.load eB6 (Ad6 b4 5) λ(x58:Bool)=>L.ite x58 (L.load (.agg [.str,.str,.slice,.int .i64]) (Ad6 b1 11) λ(x59:pt3)=>L.call Pr Zi [.agg #[.string x59.1,.string x59.2.1,Sv6 x59.2.2.1,I x59.2.2.2.1]] rI λ(x60:Int)=>K (I x60))<|k25 (()))<|L.load eB6 (Ad6 b4 4) λ(x61:Bool)=>L.ite x61 (L.load (.agg lf0) (Ad6 b1 5) λ(x62:pt0)=>L.call Pr Za [(qa0 x62)] rI λ(x63:Int)=>K (I x63))<|L.load eB6 (Ad6 b4 5) λ(x64:Bool)=>L.ite x64 (L.load (.agg [.str,.str,.slice,.int .i64]) (Ad6 b1 11) λ(x65:pt3)=>L.call Pr Zi [.agg #[.string x65.1,.string x65.2.1,Sv6 x65.2.2.1,I x65.2.2.2.1]] rI λ(x66:Int)=>K (I x66))<|k25 (()))<|L.load eB6 (Ad6 b4 3) λ(x67:Bool)=>L.ite x67 (L.load eI6 (Ad6 b1 4) λ(x68:Int)=>L.call Pr ZL [I x68,I 0,I 2147483647] rB λ(x69:Bool)=>L.ite (!x69) (K (I 2))<|L.load eB6 (Ad6 b4 4) λ(x70:Bool)=>L.ite x70 (L.load (.agg lf0) (Ad6 b1 5) λ(x71:pt0)=>L.call Pr Za [(qa0 x71)] rI λ(x72:Int)=>K (I x72))<|L.load eB6 (Ad6 b4 5) λ(x73:Bool)=>L.ite x73 (L.load (.agg [.str,.str,.slice,.int .i64]) (Ad6 b1 11) λ(x74:pt3)=>L.call Pr Zi [.agg #[.string x74.1,.string x74.2.1,Sv6 x74.2.2.1,I x74.2.2.2.1]] rI λ(x75:Int)=>K (I x75))<|k25 (()))<|L.load eB6 (Ad6 b4 4) λ(x76:Bool)=>L.ite x76 (L.load (.agg lf0) (Ad6 b1 5) λ(x77:pt0)=>L.call Pr Za [(qa0 x77)] rI λ(x78:Int)=>K (I x78))<|L.load eB6 (Ad6 b4 5) λ(x79:Bool)=>L.ite x79 (L.load (.agg [.str,.str,.slice,.int .i64]) (Ad6 b1 11) λ(x80:pt3)=>L.call Pr Zi [.agg #[.string x80.1,.string x80.2.1,Sv6 x80.2.2.1,I x80.2.2.2.1]] rI λ(x81:Int)=>K (I x81))<|k25 (()))<|L.load eB6 (Ad6 b4 2) λ(x82:Bool)=>L.ite x82 (L.load eS6 (Ad6 b1 2) λ(x83:B0)=>L.ite (!(x83.toList == s_.toList)) (L.load eS6 (Ad6 b1 2) λ(x84:B0)=>L.call Pr xB [.string x84] rB λ(x85:Bool)=>L.ite (!x85) (K (I 1))<|L.load eB6 (Ad6 b4 3) λ(x86:Bool)=>L.ite x86 (L.load eI6 (Ad6 b1 4) λ(x87:Int)=>L.call Pr ZL [I x87,I 0,I 2147483647] rB λ(x88:Bool)=>L.ite (!x88) (K (I 2))<|L.load eB6 (Ad6 b4 4) λ(x89:Bool)=>L.ite x89 (L.load (.agg lf0) (Ad6 b1 5) λ(x90:pt0)=>L.call Pr Za [(qa0 x90)] rI λ(x91:Int)=>K (I x91))<|L.load eB6 (Ad6 b4 5) λ(x92:Bool)=>L.ite x92 (L.load (.agg [.str,.str,.slice,.int .i64]) (Ad6 b1 11) λ(x93:pt3)=>L.call Pr Zi [.agg #[.string x93.1,.string x93.2.1,Sv6 x93.2.2.1,I x93.2.2.2.1]] rI λ(x94:Int)=>K (I x94))<|k25 (()))<|L.load eB6 (Ad6 b4 4) λ(x95:Bool)=>L.ite x95 (L.load (.agg lf0) (Ad6 b1 5) λ(x96:pt0)=>L.call Pr Za [(qa0 x96)] rI λ(x97:Int)=>K (I x97))<|L.load eB6 (Ad6 b4 5) λ(x98:Bool)=>L.ite x98 (L.load (.agg [.str,.str,.slice,.int .i64]) (Ad6 b1 11) λ(x99:pt3)=>L.call Pr Zi [.agg #[.string x99.1,.string x99.2.1,Sv6 x99.2.2.1,I x99.2.2.2.1]] rI λ(x100:Int)=>K (I x100))<|k25 (()))<|L.load eB6 (Ad6 b4 3) λ(x101:Bool)=>L.ite x101 (L.load eI6 (Ad6 b1 4) λ(x102:Int)=>L.call Pr ZL [I x102,I 0,I 2147483647] rB λ(x103:Bool)=>L.ite (!x103) (K (I 2))<|L.load eB6 (Ad6 b4 4) λ(x104:Bool)=>L.ite x104 (L.load (.agg lf0) (Ad6 b1 5) λ(x105:pt0)=>L.call Pr Za [(qa0 x105)] rI λ(x106:Int)=>K (I x106))<|L.load eB6 (Ad6 b4 5) λ(x107:Bool)=>L.ite x107 (L.load (.agg [.str,.str,.slice,.int .i64]) (Ad6 b1 11) λ(x108:pt3)=>L.call Pr Zi [.agg #[.string x108.1,.string x108.2.1,Sv6 x108.2.2.1,I x108.2.2.2.1]] rI λ(x109:Int)=>K (I x109))<|k25 (()))<|L.load eB6 (Ad6 b4 4) λ(x110:Bool)=>L.ite x110 (L.load (.agg lf0) (Ad6 b1 5) λ(x111:pt0)=>L.call Pr Za [(qa0 x111)] rI λ(x112:Int)=>K (I x112))<|L.load eB6 (Ad6 b4 5) λ(x113:Bool)=>L.ite x113 (L.load (.agg [.str,.str,.slice,.int .i64]) (Ad6 b1 11) λ(x114:pt3)=>L.call Pr Zi [.agg #[.string x114.1,.string x114.2.1,Sv6 x114.2.2.1,I x114.2.2.2.1]] rI λ(x115:Int)=>K (I x115))<|k25 (()))<|L.load eB6 (Ad6 b4 3) λ(x116:Bool)=>L.ite x116 (L.load eI6 (Ad6 b1 4) λ(x117:Int)=>L.call Pr ZL [I x117,I 0,I 2147483647] rB λ(x118:Bool)=>L.ite (!x118) (K (I 2))<|L.load eB6 (Ad6 b4 4) λ(x119:Bool)=>L.ite x119 (L.load (.agg lf0) (Ad6 b1 5) λ(x120:pt0)=>L.call Pr Za [(qa0 x120)] rI λ(x121:Int)=>K (I x121))<|L.load eB6 (Ad6 b4 5) λ(x122:Bool)=>L.ite x122 (L.load (.agg [.str,.str,.slice,.int .i64]) (Ad6 b1 11) λ(x123:pt3)=>L.call Pr Zi [.agg #[.string x123.1,.string x123.2.1,Sv6 x123.2.2.1,I x123.2.2.2.1]] rI λ(x124:Int)=>K (I x124))<|k25 (()))<|L.load eB6 (Ad6 b4 4) λ(x125:Bool)=>L.ite x125 (L.load (.agg lf0) (Ad6 b1 5) λ(x126:pt0)=>L.call Pr Za [(qa0 x126)] rI λ(x127:Int)=>K (I x127))<|L.load eB6 (Ad6 b4 5) λ(x128:Bool)=>L.ite x128 (L.load (.agg [.str,.str,.slice,.int .i64]) (Ad6 b1 11) λ(x129:pt3)=>L.call Pr Zi [.agg #[.string x129.1,.string x129.2.1,Sv6 x129.2.2.1,I x129.2.2.2.1]] rI λ(x130:Int)=>K (I x130))<|k25 (()))<|L.load eB6 (Ad6 b4 1) λ(x131:Bool)=>L.ite x131 (L.load (.agg lf1) (⟨b1,0,none⟩) λ(x132:pt1)=>L.call Pr vU [(qa1 x132)] rB λ(x133:Bool)=>L.ite (!x133) (K (I 1))<|L.load eB6 (Ad6 b4 2) λ(x134:Bool)=>L.ite x134 (L.load eS6 (Ad6 b1 2) λ(x135:B0)=>L.ite (!(x135.toList == s_.toList)) (L.load eS6 (Ad6 b1 2) λ(x136:B0)=>L.call Pr xB [.string x136] rB λ(x137:Bool)=>L.ite (!x137) (K (I 1))<|L.load eB6 (Ad6 b4 3) λ(x138:Bool)=>L.ite x138 (L.load eI6 (Ad6 b1 4) λ(x139:Int)=>L.call Pr ZL [I x139,I 0,I 2147483647] rB λ(x140:Bool)=>L.ite (!x140) (K (I 2))<|L.load eB6 (Ad6 b4 4) λ(x141:Bool)=>L.ite x141 (L.load (.agg lf0) (Ad6 b1 5) λ(x142:pt0)=>L.call Pr Za [(qa0 x142)] rI λ(x143:Int)=>K (I x143))<|L.load eB6 (Ad6 b4 5) λ(x144:Bool)=>L.ite x144 (L.load (.agg [.str,.str,.slice,.int .i64]) (Ad6 b1 11) λ(x145:pt3)=>L.call Pr Zi [.agg #[.string x145.1,.string x145.2.1,Sv6 x145.2.2.1,I x145.2.2.2.1]] rI λ(x146:Int)=>K (I x146))<|k25 (()))<|L.load eB6 (Ad6 b4 4) λ(x147:Bool)=>L.ite x147 (L.load (.agg lf0) (Ad6 b1 5) λ(x148:pt0)=>L.call Pr Za [(qa0 x148)] rI λ(x149:Int)=>K (I x149))<|L.load eB6 (Ad6 b4 5) λ(x150:Bool)=>L.ite x150 (L.load (.agg [.str,.str,.slice,.int .i64]) (Ad6 b1 11) λ(x151:pt3)=>L.call Pr Zi [.agg #[.string x151.1,.string x151.2.1,Sv6 x151.2.2.1,I x151.2.2.2.1]] rI λ(x152:Int)=>K (I x152))<|k25 (()))<|L.load eB6 (Ad6 b4 3) λ(x153:Bool)=>L.ite x153 (L.load eI6 (Ad6 b1 4) λ(x154:Int)=>L.call Pr ZL [I x154,I 0,I 2147483647] rB λ(x155:Bool)=>L.ite (!x155) (K (I 2))<|L.load eB6 (Ad6 b4 4) λ(x156:Bool)=>L.ite x156 (L.load (.agg lf0) (Ad6 b1 5) λ(x157:pt0)=>L.call Pr Za [(qa0 x157)] rI λ(x158:Int)=>K (I x158))<|L.load eB6 (Ad6 b4 5) λ(x159:Bool)=>L.ite x159 (L.load (.agg [.str,.str,.slice,.int .i64]) (Ad6 b1 11) λ(x160:pt3)=>L.call Pr Zi [.agg #[.string x160.1,.string x160.2.1,Sv6 x160.2.2.1,I x160.2.2.2.1]] rI λ(x161:Int)=>K (I x161))<|k25 (()))<|L.load eB6 (Ad6 b4 4) λ(x162:Bool)=>L.ite x162 (L.load (.agg lf0) (Ad6 b1 5) λ(x163:pt0)=>L.call Pr Za [(qa0 x163)] rI λ(x164:Int)=>K (I x164))<|L.load eB6 (Ad6 b4 5) λ(x165:Bool)=>L.ite x165 (L.load (.agg [.str,.str,.slice,.int .i64]) (Ad6 b1 11) λ(x166:pt3)=>L.call Pr Zi [.agg #[.string x166.1,.string x166.2.1,Sv6 x166.2.2.1,I x166.2.2.2.1]] rI λ(x167:Int)=>K (I x167))<|k25 (()))<|L.load eB6 (Ad6 b4 3) λ(x168:Bool)=>L.ite x168 (L.load eI6 (Ad6 b1 4) λ(x169:Int)=>L.call Pr ZL [I x169,I 0,I 2147483647] rB λ(x170:Bool)=>L.ite (!x170) (K (I 2))<|L.load eB6 (Ad6 b4 4) λ(x171:Bool)=>L.ite x171 (L.load (.agg lf0) (Ad6 b1 5) λ(x172:pt0)=>L.call Pr Za [(qa0 x172)] rI λ(x173:Int)=>K (I x173))<|L.load eB6 (Ad6 b4 5) λ(x174:Bool)=>L.ite x174 (L.load (.agg [.str,.str,.slice,.int .i64]) (Ad6 b1 11) λ(x175:pt3)=>L.call Pr Zi [.agg #[.string x175.1,.string x175.2.1,Sv6 x175.2.2.1,I x175.2.2.2.1]] rI λ(x176:Int)=>K (I x176))<|k25 (()))<|L.load eB6 (Ad6 b4 4) λ(x177:Bool)=>L.ite x177 (L.load (.agg lf0) (Ad6 b1 5) λ(x178:pt0)=>L.call Pr Za [(qa0 x178)] rI λ(x179:Int)=>K (I x179))<|L.load eB6 (Ad6 b4 5) λ(x180:Bool)=>L.ite x180 (L.load (.agg [.str,.str,.slice,.int .i64]) (Ad6 b1 11) λ(x181:pt3)=>L.call Pr Zi [.agg #[.string x181.1,.string x181.2.1,Sv6 x181.2.2.1,I x181.2.2.2.1]] rI λ(x182:Int)=>K (I x182))<|k25 (()))<|L.load eB6 (Ad6 b4 2) λ(x183:Bool)=>L.ite x183 (L.load eS6 (Ad6 b1 2) λ(x184:B0)=>L.ite (!(x184.toList == s_.toList)) (L.load eS6 (Ad6 b1 2) λ(x185:B0)=>L.call Pr xB [.string x185] rB λ(x186:Bool)=>L.ite (!x186) (K (I 1))<|L.load eB6 (Ad6 b4 3) λ(x187:Bool)=>L.ite x187 (L.load eI6 (Ad6 b1 4) λ(x188:Int)=>L.call Pr ZL [I x188,I 0,I 2147483647] rB λ(x189:Bool)=>L.ite (!x189) (K (I 2))<|L.load eB6 (Ad6 b4 4) λ(x190:Bool)=>L.ite x190 (L.load (.agg lf0) (Ad6 b1 5) λ(x191:pt0)=>L.call Pr Za [(qa0 x191)] rI λ(x192:Int)=>K (I x192))<|L.load eB6 (Ad6 b4 5) λ(x193:Bool)=>L.ite x193 (L.load (.agg [.str,.str,.slice,.int .i64]) (Ad6 b1 11) λ(x194:pt3)=>L.call Pr Zi [.agg #[.string x194.1,.string x194.2.1,Sv6 x194.2.2.1,I x194.2.2.2.1]] rI λ(x195:Int)=>K (I x195))<|k25 (()))<|L.load eB6 (Ad6 b4 4) λ(x196:Bool)=>L.ite x196 (L.load (.agg lf0) (Ad6 b1 5) λ(x197:pt0)=>L.call Pr Za [(qa0 x197)] rI λ(x198:Int)=>K (I x198))<|L.load eB6 (Ad6 b4 5) λ(x199:Bool)=>L.ite x199 (L.load (.agg [.str,.str,.slice,.int .i64]) (Ad6 b1 11) λ(x200:pt3)=>L.call Pr Zi [.agg #[.string x200.1,.string x200.2.1,Sv6 x200.2.2.1,I x200.2.2.2.1]] rI λ(x201:Int)=>K (I x201))<|k25 (()))<|L.load eB6 (Ad6 b4 3) λ(x202:Bool)=>L.ite x202 (L.load eI6 (Ad6 b1 4) λ(x203:Int)=>L.call Pr ZL [I x203,I 0,I 2147483647] rB λ(x204:Bool)=>L.ite (!x204) (K (I 2))<|L.load eB6 (Ad6 b4 4) λ(x205:Bool)=>L.ite x205 (L.load (.agg lf0) (Ad6 b1 5) λ(x206:pt0)=>L.call Pr Za [(qa0 x206)] rI λ(x207:Int)=>K (I x207))<|L.load eB6 (Ad6 b4 5) λ(x208:Bool)=>L.ite x208 (L.load (.agg [.str,.str,.slice,.int .i64]) (Ad6 b1 11) λ(x209:pt3)=>L.call Pr Zi [.agg #[.string x209.1,.string x209.2.1,Sv6 x209.2.2.1,I x209.2.2.2.1]] rI λ(x210:Int)=>K (I x210))<|k25 (()))<|L.load eB6 (Ad6 b4 4) λ(x211:Bool)=>L.ite x211 (L.load (.agg lf0) (Ad6 b1 5) λ(x212:pt0)=>L.call Pr Za [(qa0 x212)] rI λ(x213:Int)=>K (I x213))<|L.load eB6 (Ad6 b4 5) λ(x214:Bool)=>L.ite x214 (L.load (.agg [.str,.str,.slice,.int .i64]) (Ad6 b1 11) λ(x215:pt3)=>L.call Pr Zi [.agg #[.string x215.1,.string x215.2.1,Sv6 x215.2.2.1,I x215.2.2.2.1]] rI λ(x216:Int)=>K (I x216))<|k25 (()))<|L.load eB6 (Ad6 b4 3) λ(x217:Bool)=>L.ite x217 (L.load eI6 (Ad6 b1 4) λ(x218:Int)=>L.call Pr ZL [I x218,I 0,I 2147483647] rB λ(x219:Bool)=>L.ite (!x219) (K (I 2))<|L.load eB6 (Ad6 b4 4) λ(x220:Bool)=>L.ite x220 (L.load (.agg lf0) (Ad6 b1 5) λ(x221:pt0)=>L.call Pr Za [(qa0 x221)] rI λ(x222:Int)=>K (I x222))<|L.load eB6 (Ad6 b4 5) λ(x223:Bool)=>L.ite x223 (L.load (.agg [.str,.str,.slice,.int .i64]) (Ad6 b1 11) λ(x224:pt3)=>L.call Pr Zi [.agg #[.string x224.1,.string x224.2.1,Sv6 x224.2.2.1,I x224.2.2.2.1]] rI λ(x225:Int)=>K (I x225))<|k25 (()))<|L.load eB6 (Ad6 b4 4) λ(x226:Bool)=>L.ite x226 (L.load (.agg lf0) (Ad6 b1 5) λ(x227:pt0)=>L.call Pr Za [(qa0 x227)] rI λ(x228:Int)=>K (I x228))<|L.load eB6 (Ad6 b4 5) λ(x229:Bool)=>L.ite x229 (L.load (.agg [.str,.str,.slice,.int .i64]) (Ad6 b1 11) λ(x230:pt3)=>L.call Pr Zi [.agg #[.string x230.1,.string x230.2.1,Sv6 x230.2.2.1,I x230.2.2.2.1]] rI λ(x231:Int)=>K (I x231))<|k25 (())) λz26=>K (I 0)
def nu(p0:ht1)(h:Mt p0 K w):CV oQ [.ag (qc1 p0)] K w:=zF Tryz.f29 nH _ h
def FH:Ann:=(.q2 (.q2 (.seq (.q2 (.one [(5,eL6),(14,eI6)] (.q2 (.q2 (.q2 .auto (some [(5,eL6)])) none) none)) none) .auto none) none) none)
def Vm(p0:B0)(p1:Sl)(K:Value→PT):PT:=
  L.new [.string p0] zc λb1=>L.loop (Y:=Sl×Int×Unit) (⟨some ⟨b1,0,none⟩,1,1⟩,0,()) λy2 again3=>L.ite (decide (y2.2.1<((p1.len:Nat):Int))) (L.join (Y:=Sl×Unit) (λk4=>L.idx p1.a y2.2.1 p1.len 1 λa6=>L.load eS6 a6 λ(x7:B0)=>L.ite true (L.new [.string x7] zc λb8=>L.sem Pr (.one (.one .slice)) (Builtin.append_ #[zj,zj] zj #[Sv6 y2.1,.slice (some ⟨b8,0,none⟩) 1 1]) λ(s9:Sl)=>k4 (⟨s9.a,s9.len,s9.cap⟩,()))<|L.semR Pr (.tup [eI6,.one .bool]) (Instr.typeAssert (.iface zc (.string x7)) fX zu true) λ(x10:Int×Bool×Unit)=>L.ite x10.2.1 (L.call Pr Xf [I x10.1] rS λ(x11:B0)=>L.new [.string x11] zc λb12=>L.sem Pr (.one (.one .slice)) (Builtin.append_ #[zj,zj] zj #[Sv6 y2.1,.slice (some ⟨b12,0,none⟩) 1 1]) λ(s13:Sl)=>k4 (⟨s13.a,s13.len,s13.cap⟩,()))<|k4 (⟨y2.1.a,y2.1.len,y2.1.cap⟩,())) λz5=>again3 (⟨z5.1.a,z5.1.len,z5.1.cap⟩,Wi (y2.2.1+1),()))<|L.call Pr Us [Sv6 y2.1,.string Ol] rS λ(x14:B0)=>K (.string x14)
def Fu(p0:B0)(p1:Sl)(h:Vm p0 p1 K w):CV zR [.v (.string p0),.v (.slice p1.a p1.len p1.cap)] K w:=zF Tryz.f30 FH _ h
def oH(p0:Int)(K:Value→PT):PT:=
  L.ite (decide (p0≤6)) (L.call Pr TS [I p0] rS λ(x1:B0)=>K (.string x1))<|L.call Pr dg [I p0] rS λ(x2:B0)=>K (.string x2)
def PU(p0:Int)(h:oH p0 K w):CV qw [.v (.int .i64 p0)] K w:=zF Tryz.f31 .auto _ h
def XN(p0:Option Addr)(p1:ht1)(K:Value→PT):PT:=
  L.new [I p1.1,.string p1.2.1,.string p1.2.2.1,I p1.2.2.2.1,I p1.2.2.2.2.1,.string p1.2.2.2.2.2.1,I p1.2.2.2.2.2.2.1,I p1.2.2.2.2.2.2.2.1,I p1.2.2.2.2.2.2.2.2.1,I p1.2.2.2.2.2.2.2.2.2.1,I p1.2.2.2.2.2.2.2.2.2.2.1,.string p1.2.2.2.2.2.2.2.2.2.2.2.1,.string p1.2.2.2.2.2.2.2.2.2.2.2.2.1,Sv6 p1.2.2.2.2.2.2.2.2.2.2.2.2.2.1,I p1.2.2.2.2.2.2.2.2.2.2.2.2.2.2.1] zC λb1=>L.draw<|L.nonnil p0 λa2=>L.load eP6 (a2.add 0) λ(x3:Option Addr)=>L.load (.agg lf0) (Ad6 b1 5) λ(x4:pt0)=>L.load eI6 (Ad6 b1 3) λ(x5:Int)=>L.call Pr Xi [.pointer x3,(qa0 x4),I x5] (.tup [eI6,eI6]) λ(x6:Int×Int×Unit)=>L.load eS6 ((Ad6 b1 5).add 0) λ(x7:B0)=>L.call Pr kA [.string CR,.string x7,I x6.1,I x6.2.1] rL λ(x8:Sl)=>K (.slice x8.a x8.len x8.cap)
def Ga(p0:Option Addr)(p1:ht1)(h:XN p0 p1 K w):CV Yj [.v (.pointer p0),.ag (qc1 p1)] K w:=zF Tryz.f32 .auto _ h
def gX:ZV Pr Yj:=zM (by kernel_rfl)
def qp(p0:Option Addr)(p1:ht1)(K:Value→PT):PT:=
  L.new [I p1.1,.string p1.2.1,.string p1.2.2.1,I p1.2.2.2.1,I p1.2.2.2.2.1,.string p1.2.2.2.2.2.1,I p1.2.2.2.2.2.2.1,I p1.2.2.2.2.2.2.2.1,I p1.2.2.2.2.2.2.2.2.1,I p1.2.2.2.2.2.2.2.2.2.1,I p1.2.2.2.2.2.2.2.2.2.2.1,.string p1.2.2.2.2.2.2.2.2.2.2.2.1,.string p1.2.2.2.2.2.2.2.2.2.2.2.2.1,Sv6 p1.2.2.2.2.2.2.2.2.2.2.2.2.2.1,I p1.2.2.2.2.2.2.2.2.2.2.2.2.2.2.1] zC λb1=>L.draw<|L.nonnil p0 λa2=>L.load eP6 (a2.add 0) λ(x3:Option Addr)=>L.load (.agg [.str,.str,.slice,.int .i64]) (Ad6 b1 11) λ(x4:pt3)=>L.load eI6 (Ad6 b1 3) λ(x5:Int)=>L.call Pr XC [.pointer x3,.agg #[.string x4.1,.string x4.2.1,Sv6 x4.2.2.1,I x4.2.2.2.1],I x5] (.tup [eI6,eI6]) λ(x6:Int×Int×Unit)=>L.load eS6 ((Ad6 b1 11).add 0) λ(x7:B0)=>L.call Pr kA [.string bY,.string x7,I x6.1,I x6.2.1] rL λ(x8:Sl)=>K (.slice x8.a x8.len x8.cap)
def GV(p0:Option Addr)(p1:ht1)(h:qp p0 p1 K w):CV Yy [.v (.pointer p0),.ag (qc1 p1)] K w:=zF Tryz.f33 .auto _ h
def GP:ZV Pr Yy:=zM (by kernel_rfl)
def Gh:Ann:=(.q2 (.q2 (.q2 (.q2 (.q2 (.seq (.q2 (.cond .auto .auto) none) .auto (some [(7,eL6)])) none) none) none) none) none)
def XO(p0:Option Addr)(p1:ht1)(K:Value→PT):PT:=
  L.new [I p1.1,.string p1.2.1,.string p1.2.2.1,I p1.2.2.2.1,I p1.2.2.2.2.1,.string p1.2.2.2.2.2.1,I p1.2.2.2.2.2.2.1,I p1.2.2.2.2.2.2.2.1,I p1.2.2.2.2.2.2.2.2.1,I p1.2.2.2.2.2.2.2.2.2.1,I p1.2.2.2.2.2.2.2.2.2.2.1,.string p1.2.2.2.2.2.2.2.2.2.2.2.1,.string p1.2.2.2.2.2.2.2.2.2.2.2.2.1,Sv6 p1.2.2.2.2.2.2.2.2.2.2.2.2.2.1,I p1.2.2.2.2.2.2.2.2.2.2.2.2.2.2.1] zC λb1=>L.load (.agg lf1) (⟨b1,0,none⟩) λ(x2:pt1)=>L.call Pr qj [.pointer p0,(qa1 x2)] rS λ(x3:B0)=>L.draw<|L.nonnil p0 λa4=>L.load eP6 (a4.add 4) λ(x5:Option Addr)=>L.load eI6 (Ad6 b1 3) λ(x6:Int)=>L.nonnil p0 λa7=>L.load eI6 (a7.add 6) λ(x8:Int)=>L.call Pr ux [.pointer x5,I x6,.string x3,I x8] rL λ(x9:Sl)=>L.call Pr JE [Sv6 x9,.slice none 0 0] rL λ(x10:Sl)=>L.nonnil p0 λa11=>L.load (.one (.map)) (a11.add 5) λ(x12:Option Nat)=>L.call Pr jb [.map x12,.string x3] (.tup [eP6,eB6]) λ(x13:Option Addr×Bool×Unit)=>L.join (Y:=Sl×Unit) (λk14=>L.ite x13.2.1 (L.ite (decide (((x9.len:Nat):Int)>0)) (L.idx x9.a 0 x9.len 4 λa16=>L.load eI6 (a16.add 1) λ(x17:Int)=>L.ite (x17 == 2) (L.nonnil x13.1 λa18=>L.load eI6 ((a18.add 1).add 0) λ(x19:Int)=>L.ite (x19 == 0) (L.nonnil x13.1 λa20=>L.store ((a20.add 1).add 0) [I 1]<|L.new [.string x3] zc λb21=>L.call Pr zR [.string jY,.slice (some ⟨b21,0,none⟩) 1 1] rS λ(x22:B0)=>L.new [I 1] zu λb23=>L.call Pr zS [.string x22,.slice (some ⟨b23,0,none⟩) 1 1] rS λ(x24:B0)=>L.new [.string x24] zc λb25=>L.sem Pr (.one (.one .slice)) (Builtin.append_ #[zj,zj] zj #[Sv6 x10,.slice (some ⟨b25,0,none⟩) 1 1]) λ(s26:Sl)=>k14 (⟨s26.a,s26.len,s26.cap⟩,()))<|k14 (⟨x10.a,x10.len,x10.cap⟩,()))<|k14 (⟨x10.a,x10.len,x10.cap⟩,()))<|k14 (⟨x10.a,x10.len,x10.cap⟩,()))<|k14 (⟨x10.a,x10.len,x10.cap⟩,())) λz15=>K (.slice z15.1.a z15.1.len z15.1.cap)
def Gb(p0:Option Addr)(p1:ht1)(h:XO p0 p1 K w):CV Yk [.v (.pointer p0),.ag (qc1 p1)] K w:=zF Tryz.f35 Gh _ h
def gY:ZV Pr Yk:=zM (by kernel_rfl)
def Qb(p0:Option Addr)(p1:ht1)(K:Value→PT):PT:=
  L.new [I p1.1,.string p1.2.1,.string p1.2.2.1,I p1.2.2.2.1,I p1.2.2.2.2.1,.string p1.2.2.2.2.2.1,I p1.2.2.2.2.2.2.1,I p1.2.2.2.2.2.2.2.1,I p1.2.2.2.2.2.2.2.2.1,I p1.2.2.2.2.2.2.2.2.2.1,I p1.2.2.2.2.2.2.2.2.2.2.1,.string p1.2.2.2.2.2.2.2.2.2.2.2.1,.string p1.2.2.2.2.2.2.2.2.2.2.2.2.1,Sv6 p1.2.2.2.2.2.2.2.2.2.2.2.2.2.1,I p1.2.2.2.2.2.2.2.2.2.2.2.2.2.2.1] zC λb1=>L.draw<|L.nonnil p0 λa2=>L.load eP6 (a2.add 4) λ(x3:Option Addr)=>L.load eI6 (Ad6 b1 3) λ(x4:Int)=>L.call Pr vx [.pointer x3,I x4] (.tup [eL6,eI6]) λ(x5:Sl×Int×Unit)=>L.ite (x5.2.1 != 0) (L.call Pr ZX [I x5.2.1] rL λ(x6:Sl)=>K (.slice x6.a x6.len x6.cap))<|L.call Pr JE [Sv6 x5.1,.slice none 0 0] rL λ(x7:Sl)=>K (.slice x7.a x7.len x7.cap)
def Fy(p0:Option Addr)(p1:ht1)(h:Qb p0 p1 K w):CV YQ [.v (.pointer p0),.ag (qc1 p1)] K w:=zF Tryz.f36 .auto _ h
def Fs:ZV Pr YQ:=zM (by kernel_rfl)
def px:Ann:=(.q2 (.q2 (.q2 (.q2 (.q2 .auto (some [(7,eL6)])) none) none) none) none)
def uE(p0:Option Addr)(p1:ht1)(K:Value→PT):PT:=
  L.new [I p1.1,.string p1.2.1,.string p1.2.2.1,I p1.2.2.2.1,I p1.2.2.2.2.1,.string p1.2.2.2.2.2.1,I p1.2.2.2.2.2.2.1,I p1.2.2.2.2.2.2.2.1,I p1.2.2.2.2.2.2.2.2.1,I p1.2.2.2.2.2.2.2.2.2.1,I p1.2.2.2.2.2.2.2.2.2.2.1,.string p1.2.2.2.2.2.2.2.2.2.2.2.1,.string p1.2.2.2.2.2.2.2.2.2.2.2.2.1,Sv6 p1.2.2.2.2.2.2.2.2.2.2.2.2.2.1,I p1.2.2.2.2.2.2.2.2.2.2.2.2.2.2.1] zC λb1=>L.draw<|L.nonnil p0 λa2=>L.load eP6 (a2.add 3) λ(x3:Option Addr)=>L.load eI6 (Ad6 b1 3) λ(x4:Int)=>L.call Pr Qv [.pointer x3,I x4] rI λ(x5:Int)=>L.ite (x5 != 0) (L.call Pr ZX [I x5] rL λ(x6:Sl)=>K (.slice x6.a x6.len x6.cap))<|L.draw<|L.nonnil p0 λa7=>L.load eP6 (a7.add 3) λ(x8:Option Addr)=>L.load eI6 (Ad6 b1 3) λ(x9:Int)=>L.call Pr vz [.pointer x8,I x9] rS λ(x10:B0)=>L.load eI6 (Ad6 b1 3) λ(x11:Int)=>L.new [I x11] zu λb12=>L.call Pr zS [.string wj,.slice (some ⟨b12,0,none⟩) 1 1] rS λ(x13:B0)=>L.new [.string x13] zc λb14=>L.join (Y:=Sl×Unit) (λk15=>L.nonnil p0 λa17=>L.load eP6 (a17.add 1) λ(x18:Option Addr)=>L.call Pr Yq [.pointer x18,.string x10] rB λ(x19:Bool)=>L.ite (!x19) (L.nonnil p0 λa20=>L.load eP6 (a20.add 1) λ(x21:Option Addr)=>L.call Pr ur [.pointer x21,.string x10] rI λ(x22:Int)=>L.new [.string x10] zc λb23=>L.call Pr zR [.string fB,.slice (some ⟨b23,0,none⟩) 1 1] rS λ(x24:B0)=>L.new [.string x24] zc λb25=>L.sem Pr (.one (.one .slice)) (Builtin.append_ #[zj,zj] zj #[.slice (some ⟨b14,0,none⟩) 1 1,.slice (some ⟨b25,0,none⟩) 1 1]) λ(s26:Sl)=>k15 (⟨s26.a,s26.len,s26.cap⟩,()))<|k15 (⟨some ⟨b14,0,none⟩,1,1⟩,())) λz16=>L.nonnil p0 λa27=>L.load eP6 (a27.add 4) λ(x28:Option Addr)=>L.call Pr Xj [.pointer x28,.string x10] rL λ(x29:Sl)=>L.call Pr JE [Sv6 x29,Sv6 z16.1] rL λ(x30:Sl)=>K (.slice x30.a x30.len x30.cap)
def MZ(p0:Option Addr)(p1:ht1)(h:uE p0 p1 K w):CV jE [.v (.pointer p0),.ag (qc1 p1)] K w:=zF Tryz.f37 px _ h
def MW:ZV Pr jE:=zM (by kernel_rfl)
def FM:Ann:=(.q2 (.q2 (.q2 (.seq (.one [(4,eL6)] .auto) .auto none) none) none) none)
def Qa(p0:Option Addr)(p1:ht1)(K:Value→PT):PT:=
  L.new [I p1.1,.string p1.2.1,.string p1.2.2.1,I p1.2.2.2.1,I p1.2.2.2.2.1,.string p1.2.2.2.2.2.1,I p1.2.2.2.2.2.2.1,I p1.2.2.2.2.2.2.2.1,I p1.2.2.2.2.2.2.2.2.1,I p1.2.2.2.2.2.2.2.2.2.1,I p1.2.2.2.2.2.2.2.2.2.2.1,.string p1.2.2.2.2.2.2.2.2.2.2.2.1,.string p1.2.2.2.2.2.2.2.2.2.2.2.2.1,Sv6 p1.2.2.2.2.2.2.2.2.2.2.2.2.2.1,I p1.2.2.2.2.2.2.2.2.2.2.2.2.2.2.1] zC λb1=>L.draw<|L.nonnil p0 λa2=>L.load eP6 (a2.add 3) λ(x3:Option Addr)=>L.load eI6 (Ad6 b1 3) λ(x4:Int)=>L.call Pr uA [.pointer x3,I x4] (.tup [eL6,eI6]) λ(x5:Sl×Int×Unit)=>L.ite (x5.2.1 != 0) (L.call Pr ZX [I x5.2.1] rL λ(x6:Sl)=>K (.slice x6.a x6.len x6.cap))<|L.join (Y:=Sl×Unit) (λk7=>L.draw<|L.nonnil p0 λa9=>L.load eP6 (a9.add 4) λ(x10:Option Addr)=>L.load eI6 (Ad6 b1 3) λ(x11:Int)=>L.alts [(L.call Pr Qt [.pointer x10,Sv6 x5.1] rL λ(x12:Sl)=>L.chk (Ad6 b1 3) [I x11]<|L.new [I x11] zu λb13=>L.chk (a9.add 4) [.pointer x10]<|L.call Pr zS [.string tj,.slice (some ⟨b13,0,none⟩) 1 1] rS λ(x14:B0)=>L.new [.string x14] zc λb15=>L.call Pr JE [Sv6 x12,.slice (some ⟨b15,0,none⟩) 1 1] rL λ(x16:Sl)=>k7 (⟨x16.a,x16.len,x16.cap⟩,())),(L.new [I x11] zu λb17=>L.chk (a9.add 4) [.pointer x10]<|L.call Pr Qt [.pointer x10,Sv6 x5.1] rL λ(x18:Sl)=>L.chk (Ad6 b1 3) [I x11]<|L.call Pr zS [.string tj,.slice (some ⟨b17,0,none⟩) 1 1] rS λ(x19:B0)=>L.new [.string x19] zc λb20=>L.call Pr JE [Sv6 x18,.slice (some ⟨b20,0,none⟩) 1 1] rL λ(x21:Sl)=>k7 (⟨x21.a,x21.len,x21.cap⟩,()))]) λz8=>K (.slice z8.1.a z8.1.len z8.1.cap)
def Fx(p0:Option Addr)(p1:ht1)(h:Qa p0 p1 K w):CV yk [.v (.pointer p0),.ag (qc1 p1)] K w:=zF Tryz.f38 FM _ h
def Fq:ZV Pr yk:=zM (by kernel_rfl)
def FJ:Ann:=(.q2 (.q2 (.q2 (.q2 (.seq (.q2 (.one [(33,eI6)] .auto) none) .auto none) none) none) none) none)
def qY(p0:Option Addr)(p1:ht1)(K:Value→PT):PT:=
  L.new [I p1.1,.string p1.2.1,.string p1.2.2.1,I p1.2.2.2.1,I p1.2.2.2.2.1,.string p1.2.2.2.2.2.1,I p1.2.2.2.2.2.2.1,I p1.2.2.2.2.2.2.2.1,I p1.2.2.2.2.2.2.2.2.1,I p1.2.2.2.2.2.2.2.2.2.1,I p1.2.2.2.2.2.2.2.2.2.2.1,.string p1.2.2.2.2.2.2.2.2.2.2.2.1,.string p1.2.2.2.2.2.2.2.2.2.2.2.2.1,Sv6 p1.2.2.2.2.2.2.2.2.2.2.2.2.2.1,I p1.2.2.2.2.2.2.2.2.2.2.2.2.2.2.1] zC λb1=>L.nonnil p0 λa2=>L.load eI6 (a2.add 6) λ(x3:Int)=>L.ite (decide (x3≥1048576)) (L.call Pr ZX [I 9] rL λ(x4:Sl)=>K (.slice x4.a x4.len x4.cap))<|L.nonnil p0 λa5=>L.load eI6 (a5.add 6) λ(x6:Int)=>L.nonnil p0 λa7=>L.store (a7.add 6) [I (Wi (x6+1))]<|L.draw<|L.nonnil p0 λa8=>L.load eP6 (a8.add 4) λ(x9:Option Addr)=>L.nonnil p0 λa10=>L.load eI6 (a10.add 6) λ(x11:Int)=>L.call Pr vu [.pointer x9,I x11] rL λ(x12:Sl)=>L.call Pr ju [.pointer p0] rL λ(x13:Sl)=>L.loop (Y:=Int×Unit) (0,()) λy14 again15=>L.ite (decide (y14.1<((x13.len:Nat):Int))) (L.idx x13.a y14.1 x13.len 1 λa16=>L.load eS6 a16 λ(x17:B0)=>L.draw<|L.nonnil p0 λa18=>L.load (.one (.map)) (a18.add 5) λ(x19:Option Nat)=>L.semR Pr rP (Instr.lookup ZG (.map x19) (.string x17) false) λ(x20:Option Addr)=>L.nonnil x20 λa21=>L.load eP6 (a21.add 0) λ(x22:Option Addr)=>L.nonnil p0 λa23=>L.load eP6 (a23.add 4) λ(x24:Option Addr)=>L.call Pr Qu [.pointer x24,.string x17] rI λ(x25:Int)=>L.chk (a21.add 0) [.pointer x22]<|L.chkSem Pr (Instr.lookup ZG (.map x19) (.string x17) false) (.pointer x20)<|L.chk (a18.add 5) [.map x19]<|L.call Pr Uy [.pointer x22,I x25] (.tup []) λ(x26:Unit)=>again15 (Wi (y14.1+1),()))<|L.nonnil p0 λa27=>L.load eI6 (a27.add 6) λ(x28:Int)=>L.new [I x28] zu λb29=>L.call Pr zS [.string th,.slice (some ⟨b29,0,none⟩) 1 1] rS λ(x30:B0)=>L.new [.string x30] zc λb31=>L.call Pr JE [Sv6 x12,.slice (some ⟨b31,0,none⟩) 1 1] rL λ(x32:Sl)=>K (.slice x32.a x32.len x32.cap)
def Fv(p0:Option Addr)(p1:ht1)(h:qY p0 p1 K w):CV YO [.v (.pointer p0),.ag (qc1 p1)] K w:=zF Tryz.f39 FJ _ h
def Fo:ZV Pr YO:=zM (by kernel_rfl)
def ff:Ann:=(.q2 (.seq (.one [(5,(.one (.adr))),(7,eI6),(8,eB6)] .auto) .auto none) none)
def qn(p0:Option Addr)(p1:ht1)(K:Value→PT):PT:=
  L.new [I p1.1,.string p1.2.1,.string p1.2.2.1,I p1.2.2.2.1,I p1.2.2.2.2.1,.string p1.2.2.2.2.2.1,I p1.2.2.2.2.2.2.1,I p1.2.2.2.2.2.2.2.1,I p1.2.2.2.2.2.2.2.2.1,I p1.2.2.2.2.2.2.2.2.2.1,I p1.2.2.2.2.2.2.2.2.2.2.1,.string p1.2.2.2.2.2.2.2.2.2.2.2.1,.string p1.2.2.2.2.2.2.2.2.2.2.2.2.1,Sv6 p1.2.2.2.2.2.2.2.2.2.2.2.2.2.1,I p1.2.2.2.2.2.2.2.2.2.2.2.2.2.2.1] zC λb1=>L.join (Y:=Addr×Int×Bool×Unit) (λk2=>L.draw<|L.nonnil p0 λa4=>L.load eP6 (a4.add 0) λ(x5:Option Addr)=>L.load eS6 (Ad6 b1 1) λ(x6:B0)=>L.alts [(L.call Pr xA [.pointer x5,.string x6] (.tup [(.agg lf0),eI6,eI6,eB6]) λ(x7:pt4)=>L.new [.string s_,I 0,I 0,I 0,I 0,I 0] zx λb8=>L.chk (Ad6 b1 1) [.string x6]<|L.chk (a4.add 0) [.pointer x5]<|L.store (⟨b8,0,none⟩) [.string x7.1.1,I x7.1.2.1,I x7.1.2.2.1,I x7.1.2.2.2.1,I x7.1.2.2.2.2.1,I x7.1.2.2.2.2.2.1]<|k2 (⟨b8,0,none⟩,x7.2.2.1,x7.2.2.2.1,())),(L.new [.string s_,I 0,I 0,I 0,I 0,I 0] zx λb9=>L.chk (Ad6 b1 1) [.string x6]<|L.chk (a4.add 0) [.pointer x5]<|L.call Pr xA [.pointer x5,.string x6] (.tup [(.agg lf0),eI6,eI6,eB6]) λ(x10:pt4)=>L.store (⟨b9,0,none⟩) [.string x10.1.1,I x10.1.2.1,I x10.1.2.2.1,I x10.1.2.2.2.1,I x10.1.2.2.2.2.1,I x10.1.2.2.2.2.2.1]<|k2 (⟨b9,0,none⟩,x10.2.2.1,x10.2.2.2.1,()))]) λz3=>L.ite (!z3.2.2.1) (L.call Pr ZX [I 6] rL λ(x11:Sl)=>K (.slice x11.a x11.len x11.cap))<|L.ite (decide (z3.2.1>999999)) (L.call Pr ZX [I 3] rL λ(x12:Sl)=>K (.slice x12.a x12.len x12.cap))<|L.draw<|L.nonnil p0 λa13=>L.load eP6 (a13.add 1) λ(x14:Option Addr)=>L.load (.agg lf0) z3.1 λ(x15:pt0)=>L.call Pr uq [.pointer x14,(qa0 x15),I z3.2.1] (.tup [eS6,eB6]) λ(x16:B0×Bool×Unit)=>L.ite (!x16.2.1) (L.new [.string x16.1] zc λb17=>L.call Pr zR [.string Sb,.slice (some ⟨b17,0,none⟩) 1 1] rS λ(x18:B0)=>L.new [.string x18] zc λb19=>K (.slice (some ⟨b19,0,none⟩) 1 1))<|L.load eI6 (z3.1.add 3) λ(x20:Int)=>L.draw<|L.nonnil p0 λa21=>L.load (.one (.map)) (a21.add 5) λ(x22:Option Nat)=>L.call Pr fM [] rP λ(x23:Option Addr)=>L.chk (a21.add 5) [.map x22]<|L.new [.pointer x23,I (if 1>x20 then 1 else x20),I 0] XY λb24=>L.chk (a21.add 5) [.map x22]<|L.semU Pr (Instr.mapUpdate ZG (.map x22) (.string x16.1) (.pointer (some (⟨b24,0,none⟩))))<|L.new [.string x16.1] zc λb25=>L.call Pr zR [.string gB,.slice (some ⟨b25,0,none⟩) 1 1] rS λ(x26:B0)=>L.new [.string x16.1] zc λb27=>L.call Pr zR [.string jY,.slice (some ⟨b27,0,none⟩) 1 1] rS λ(x28:B0)=>L.new [I (if 1>x20 then 1 else x20)] zu λb29=>L.call Pr zS [.string x28,.slice (some ⟨b29,0,none⟩) 1 1] rS λ(x30:B0)=>L.new [.string x26,.string x30] zc λb31=>K (.slice (some ⟨b31,0,none⟩) 2 2)
def GT(p0:Option Addr)(p1:ht1)(h:qn p0 p1 K w):CV Yw [.v (.pointer p0),.ag (qc1 p1)] K w:=zF Tryz.f40 ff _ h
def GN:ZV Pr Yw:=zM (by kernel_rfl)
def FL:Ann:=(.q2 (.seq (.one [(5,(.one (.adr))),(7,eB6)] .auto) (.q2 (.seq (.one [(8,(.one (.adr))),(9,eI6)] .auto) .auto none) none) none) none)
def qZ(p0:Option Addr)(p1:ht1)(K:Value→PT):PT:=
  L.new [I p1.1,.string p1.2.1,.string p1.2.2.1,I p1.2.2.2.1,I p1.2.2.2.2.1,.string p1.2.2.2.2.2.1,I p1.2.2.2.2.2.2.1,I p1.2.2.2.2.2.2.2.1,I p1.2.2.2.2.2.2.2.2.1,I p1.2.2.2.2.2.2.2.2.2.1,I p1.2.2.2.2.2.2.2.2.2.2.1,.string p1.2.2.2.2.2.2.2.2.2.2.2.1,.string p1.2.2.2.2.2.2.2.2.2.2.2.2.1,Sv6 p1.2.2.2.2.2.2.2.2.2.2.2.2.2.1,I p1.2.2.2.2.2.2.2.2.2.2.2.2.2.2.1] zC λb1=>L.join (Y:=Addr×Bool×Unit) (λk2=>L.draw<|L.nonnil p0 λa4=>L.load eP6 (a4.add 0) λ(x5:Option Addr)=>L.load eS6 (Ad6 b1 1) λ(x6:B0)=>L.alts [(L.call Pr Xb [.pointer x5,.string x6] (.tup [(.agg [.str,.str,.slice,.int .i64]),eI6,eB6]) λ(x7:pt5)=>L.new [.string s_,.string s_,.slice none 0 0,I 0] Zb λb8=>L.chk (Ad6 b1 1) [.string x6]<|L.chk (a4.add 0) [.pointer x5]<|L.store (⟨b8,0,none⟩) [.string x7.1.1,.string x7.1.2.1,Sv6 x7.1.2.2.1,I x7.1.2.2.2.1]<|k2 (⟨b8,0,none⟩,x7.2.2.1,())),(L.new [.string s_,.string s_,.slice none 0 0,I 0] Zb λb9=>L.chk (Ad6 b1 1) [.string x6]<|L.chk (a4.add 0) [.pointer x5]<|L.call Pr Xb [.pointer x5,.string x6] (.tup [(.agg [.str,.str,.slice,.int .i64]),eI6,eB6]) λ(x10:pt5)=>L.store (⟨b9,0,none⟩) [.string x10.1.1,.string x10.1.2.1,Sv6 x10.1.2.2.1,I x10.1.2.2.2.1]<|k2 (⟨b9,0,none⟩,x10.2.2.1,()))]) λz3=>L.ite (!z3.2.1) (L.call Pr ZX [I 6] rL λ(x11:Sl)=>K (.slice x11.a x11.len x11.cap))<|L.join (Y:=Addr×Int×Unit) (λk12=>L.draw<|L.load (.agg [.str,.str,.slice,.int .i64]) z3.1 λ(x14:pt3)=>L.nonnil p0 λa15=>L.load eP6 (a15.add 1) λ(x16:Option Addr)=>L.alts [(L.call Pr Uw [.agg #[.string x14.1,.string x14.2.1,Sv6 x14.2.2.1,I x14.2.2.2.1],.pointer x16] (.tup [(.agg [.slice,.slice]),eI6]) λ(x17:(Sl×Sl×Unit)×Int×Unit)=>L.new [.slice none 0 0,.slice none 0 0] zr λb18=>L.chk (a15.add 1) [.pointer x16]<|L.chk z3.1 [.string x14.1,.string x14.2.1,Sv6 x14.2.2.1,I x14.2.2.2.1]<|L.store (⟨b18,0,none⟩) [Sv6 x17.1.1,Sv6 x17.1.2.1]<|k12 (⟨b18,0,none⟩,x17.2.1,())),(L.new [.slice none 0 0,.slice none 0 0] zr λb19=>L.chk (a15.add 1) [.pointer x16]<|L.chk z3.1 [.string x14.1,.string x14.2.1,Sv6 x14.2.2.1,I x14.2.2.2.1]<|L.call Pr Uw [.agg #[.string x14.1,.string x14.2.1,Sv6 x14.2.2.1,I x14.2.2.2.1],.pointer x16] (.tup [(.agg [.slice,.slice]),eI6]) λ(x20:(Sl×Sl×Unit)×Int×Unit)=>L.store (⟨b19,0,none⟩) [Sv6 x20.1.1,Sv6 x20.1.2.1]<|k12 (⟨b19,0,none⟩,x20.2.1,()))]) λz13=>L.ite (z13.2.1 != 0) (L.call Pr ZX [I z13.2.1] rL λ(x21:Sl)=>K (.slice x21.a x21.len x21.cap))<|L.draw<|L.load eS6 (Ad6 b1 1) λ(x22:B0)=>L.nonnil p0 λa23=>L.load eP6 (a23.add 2) λ(x24:Option Addr)=>L.load eS6 (Ad6 b1 1) λ(x25:B0)=>L.load (.agg [.slice,.slice]) z13.1 λ(x26:Sl×Sl×Unit)=>L.nonnil p0 λa27=>L.load eI6 (a27.add 6) λ(x28:Int)=>L.load eI6 (z3.1.add 3) λ(x29:Int)=>L.call Pr uu [.pointer x24,.string x25,.agg #[Sv6 x26.1,Sv6 x26.2.1],I x28,I x29] (.one (.agg [.slice,.slice])) λ(x30:Sl×Sl×Unit)=>L.chk (Ad6 b1 1) [.string x22]<|L.call Pr gF [.agg #[Sv6 x30.1,Sv6 x30.2.1]] rS λ(x31:B0)=>L.chk (Ad6 b1 1) [.string x22]<|L.new [.string x22,.string x31] zc λb32=>L.call Pr zR [.string bV,.slice (some ⟨b32,0,none⟩) 2 2] rS λ(x33:B0)=>L.new [.string x33] zc λb34=>K (.slice (some ⟨b34,0,none⟩) 1 1)
def Fw(p0:Option Addr)(p1:ht1)(h:qZ p0 p1 K w):CV YP [.v (.pointer p0),.ag (qc1 p1)] K w:=zF Tryz.f41 FL _ h
def Fp:ZV Pr YP:=zM (by kernel_rfl)
def fg:Ann:=(.q2 (.seq (.one [(5,(.one (.adr))),(6,eB6)] .auto) (.q2 (.q2 (.q2 (.q2 (.q2 (.q2 (.seq (.one [(4,eL6)] .auto) .auto none) none) none) none) none) none) none) none) none)
def qo(p0:Option Addr)(p1:ht1)(K:Value→PT):PT:=
  L.new [I p1.1,.string p1.2.1,.string p1.2.2.1,I p1.2.2.2.1,I p1.2.2.2.2.1,.string p1.2.2.2.2.2.1,I p1.2.2.2.2.2.2.1,I p1.2.2.2.2.2.2.2.1,I p1.2.2.2.2.2.2.2.2.1,I p1.2.2.2.2.2.2.2.2.2.1,I p1.2.2.2.2.2.2.2.2.2.2.1,.string p1.2.2.2.2.2.2.2.2.2.2.2.1,.string p1.2.2.2.2.2.2.2.2.2.2.2.2.1,Sv6 p1.2.2.2.2.2.2.2.2.2.2.2.2.2.1,I p1.2.2.2.2.2.2.2.2.2.2.2.2.2.2.1] zC λb1=>L.join (Y:=Addr×Bool×Unit) (λk2=>L.draw<|L.nonnil p0 λa4=>L.load eP6 (a4.add 1) λ(x5:Option Addr)=>L.load eS6 (Ad6 b1 1) λ(x6:B0)=>L.alts [(L.call Pr jF [.pointer x5,.string x6] (.tup [(.agg lf4),eB6]) λ(x7:pt6)=>L.new [.string s_,I 0,.string s_,I 0,I 0,I 0,I 0,I 0] zU λb8=>L.chk (Ad6 b1 1) [.string x6]<|L.chk (a4.add 1) [.pointer x5]<|L.store (⟨b8,0,none⟩) [.string x7.1.1,I x7.1.2.1,.string x7.1.2.2.1,I x7.1.2.2.2.1,I x7.1.2.2.2.2.1,I x7.1.2.2.2.2.2.1,I x7.1.2.2.2.2.2.2.1,I x7.1.2.2.2.2.2.2.2.1]<|k2 (⟨b8,0,none⟩,x7.2.1,())),(L.new [.string s_,I 0,.string s_,I 0,I 0,I 0,I 0,I 0] zU λb9=>L.chk (Ad6 b1 1) [.string x6]<|L.chk (a4.add 1) [.pointer x5]<|L.call Pr jF [.pointer x5,.string x6] (.tup [(.agg lf4),eB6]) λ(x10:pt6)=>L.store (⟨b9,0,none⟩) [.string x10.1.1,I x10.1.2.1,.string x10.1.2.2.1,I x10.1.2.2.2.1,I x10.1.2.2.2.2.1,I x10.1.2.2.2.2.2.1,I x10.1.2.2.2.2.2.2.1,I x10.1.2.2.2.2.2.2.2.1]<|k2 (⟨b9,0,none⟩,x10.2.1,()))]) λz3=>L.ite (!z3.2.1) (L.call Pr ZX [I 6] rL λ(x11:Sl)=>K (.slice x11.a x11.len x11.cap))<|L.draw<|L.nonnil p0 λa12=>L.load (.one (.map)) (a12.add 5) λ(x13:Option Nat)=>L.load eS6 (Ad6 b1 1) λ(x14:B0)=>L.semR Pr rP (Instr.lookup ZG (.map x13) (.string x14) false) λ(x15:Option Addr)=>L.load eS6 (Ad6 b1 1) λ(x16:B0)=>L.call Pr xl [.pointer p0,.string x16,.func (.func Ja) #[] #[]] rI λ(x17:Int)=>L.nonnil x15 λa18=>L.load eP6 (a18.add 0) λ(x19:Option Addr)=>L.call Pr XG [.pointer x19,I 6] (.tup [eI6,eI6]) λ(x20:Int×Int×Unit)=>L.nonnil x15 λa21=>L.load eP6 (a21.add 0) λ(x22:Option Addr)=>L.call Pr XG [.pointer x22,I 2] (.tup [eI6,eI6]) λ(x23:Int×Int×Unit)=>L.draw<|L.nonnil x15 λa24=>L.load (.agg [.int .i64,.int .i64]) (a24.add 1) λ(x25:Int×Int×Unit)=>L.load (.agg lf0) (z3.1.add 2) λ(x26:pt0)=>L.nonnil p0 λa27=>L.load eP6 (a27.add 4) λ(x28:Option Addr)=>L.load eS6 (Ad6 b1 1) λ(x29:B0)=>L.nonnil x15 λa30=>L.load eP6 (a30.add 0) λ(x31:Option Addr)=>L.call Pr Qu [.pointer x28,.string x29] rI λ(x32:Int)=>L.chk (a30.add 0) [.pointer x31]<|L.chk (z3.1.add 2) [.string x26.1,I x26.2.1,I x26.2.2.1,I x26.2.2.2.1,I x26.2.2.2.2.1,I x26.2.2.2.2.2.1]<|L.chk (a24.add 1) [I x25.1,I x25.2.1]<|L.call Pr uv [.pointer x31] rI λ(x33:Int)=>L.chk (z3.1.add 2) [.string x26.1,I x26.2.1,I x26.2.2.1,I x26.2.2.2.1,I x26.2.2.2.2.1,I x26.2.2.2.2.2.1]<|L.chk (a24.add 1) [I x25.1,I x25.2.1]<|L.call Pr Ki [.agg #[I x25.1,I x25.2.1],(qa0 x26),I x17,I x32,I x20.1,I x20.2.1,I x23.1,I x23.2.1,I x33] (.one (.agg [.int .i64,.int .i64])) λ(x34:Int×Int×Unit)=>L.nonnil x15 λa35=>L.store (a35.add 1) [I x34.1,I x34.2.1]<|L.join (Y:=Sl×Unit) (λk36=>L.draw<|L.load eS6 (Ad6 b1 1) λ(x38:B0)=>L.nonnil x15 λa39=>L.load eI6 ((a39.add 1).add 0) λ(x40:Int)=>L.alts [(L.new [.string x38] zc λb41=>L.chk ((a39.add 1).add 0) [I x40]<|L.alts [(L.call Pr zR [.string jY,.slice (some ⟨b41,0,none⟩) 1 1] rS λ(x42:B0)=>L.chk ((a39.add 1).add 0) [I x40]<|L.new [I x40] zu λb43=>L.chk (Ad6 b1 1) [.string x38]<|L.call Pr zS [.string x42,.slice (some ⟨b43,0,none⟩) 1 1] rS λ(x44:B0)=>L.new [.string x44] zc λb45=>k36 (⟨some ⟨b45,0,none⟩,1,1⟩,())),(L.new [I x40] zu λb46=>L.chk (Ad6 b1 1) [.string x38]<|L.call Pr zR [.string jY,.slice (some ⟨b41,0,none⟩) 1 1] rS λ(x47:B0)=>L.chk ((a39.add 1).add 0) [I x40]<|L.call Pr zS [.string x47,.slice (some ⟨b46,0,none⟩) 1 1] rS λ(x48:B0)=>L.new [.string x48] zc λb49=>k36 (⟨some ⟨b49,0,none⟩,1,1⟩,()))]),(L.new [I x40] zu λb50=>L.chk (Ad6 b1 1) [.string x38]<|L.new [.string x38] zc λb51=>L.chk ((a39.add 1).add 0) [I x40]<|L.call Pr zR [.string jY,.slice (some ⟨b51,0,none⟩) 1 1] rS λ(x52:B0)=>L.chk ((a39.add 1).add 0) [I x40]<|L.call Pr zS [.string x52,.slice (some ⟨b50,0,none⟩) 1 1] rS λ(x53:B0)=>L.new [.string x53] zc λb54=>k36 (⟨some ⟨b54,0,none⟩,1,1⟩,()))]) λz37=>K (.slice z37.1.a z37.1.len z37.1.cap)
def GU(p0:Option Addr)(p1:ht1)(h:qo p0 p1 K w):CV Yx [.v (.pointer p0),.ag (qc1 p1)] K w:=zF Tryz.f42 fg _ h
def GO:ZV Pr Yx:=zM (by kernel_rfl)
def FK:Ann:=(.q2 (.seq (.one [(5,(.one (.adr))),(6,eB6)] .auto) (.q2 (.q2 (.q2 (.seq (.q2 (.one [(9,eL6),(47,eI6)] .auto) none) (.seq (.q2 (.one [(9,eL6),(60,eI6)] .auto) none) .auto none) none) none) none) none) none) none)
def jU(p0:Option Addr)(p1:ht1)(K:Value→PT):PT:=
  L.new [I p1.1,.string p1.2.1,.string p1.2.2.1,I p1.2.2.2.1,I p1.2.2.2.2.1,.string p1.2.2.2.2.2.1,I p1.2.2.2.2.2.2.1,I p1.2.2.2.2.2.2.2.1,I p1.2.2.2.2.2.2.2.2.1,I p1.2.2.2.2.2.2.2.2.2.1,I p1.2.2.2.2.2.2.2.2.2.2.1,.string p1.2.2.2.2.2.2.2.2.2.2.2.1,.string p1.2.2.2.2.2.2.2.2.2.2.2.2.1,Sv6 p1.2.2.2.2.2.2.2.2.2.2.2.2.2.1,I p1.2.2.2.2.2.2.2.2.2.2.2.2.2.2.1] zC λb1=>L.join (Y:=Addr×Bool×Unit) (λk2=>L.draw<|L.nonnil p0 λa4=>L.load eP6 (a4.add 1) λ(x5:Option Addr)=>L.load eS6 (Ad6 b1 1) λ(x6:B0)=>L.alts [(L.call Pr jF [.pointer x5,.string x6] (.tup [(.agg lf4),eB6]) λ(x7:pt6)=>L.new [.string s_,I 0,.string s_,I 0,I 0,I 0,I 0,I 0] zU λb8=>L.chk (Ad6 b1 1) [.string x6]<|L.chk (a4.add 1) [.pointer x5]<|L.store (⟨b8,0,none⟩) [.string x7.1.1,I x7.1.2.1,.string x7.1.2.2.1,I x7.1.2.2.2.1,I x7.1.2.2.2.2.1,I x7.1.2.2.2.2.2.1,I x7.1.2.2.2.2.2.2.1,I x7.1.2.2.2.2.2.2.2.1]<|k2 (⟨b8,0,none⟩,x7.2.1,())),(L.new [.string s_,I 0,.string s_,I 0,I 0,I 0,I 0,I 0] zU λb9=>L.chk (Ad6 b1 1) [.string x6]<|L.chk (a4.add 1) [.pointer x5]<|L.call Pr jF [.pointer x5,.string x6] (.tup [(.agg lf4),eB6]) λ(x10:pt6)=>L.store (⟨b9,0,none⟩) [.string x10.1.1,I x10.1.2.1,.string x10.1.2.2.1,I x10.1.2.2.2.1,I x10.1.2.2.2.2.1,I x10.1.2.2.2.2.2.1,I x10.1.2.2.2.2.2.2.1,I x10.1.2.2.2.2.2.2.2.1]<|k2 (⟨b9,0,none⟩,x10.2.1,()))]) λz3=>L.ite (!z3.2.1) (L.call Pr ZX [I 6] rL λ(x11:Sl)=>K (.slice x11.a x11.len x11.cap))<|L.draw<|L.nonnil p0 λa12=>L.load eP6 (a12.add 3) λ(x13:Option Addr)=>L.load eS6 (Ad6 b1 1) λ(x14:B0)=>L.load eI6 ((z3.1.add 2).add 2) λ(x15:Int)=>L.load eS6 (Ad6 b1 1) λ(x16:B0)=>L.call Pr qL [.pointer p0,.string x16] rI λ(x17:Int)=>L.chk ((z3.1.add 2).add 2) [I x15]<|L.chk (Ad6 b1 1) [.string x14]<|L.chk (a12.add 3) [.pointer x13]<|L.call Pr QM [.pointer x13,.string x14,I x15,I x17] (.tup [eL6,eL6]) λ(x18:Sl×Sl×Unit)=>L.loop (Y:=Sl×Int×Unit) (⟨none,0,0⟩,0,()) λy19 again20=>L.ite (decide (y19.2.1<((x18.1.len:Nat):Int))) (L.idx x18.1.a y19.2.1 x18.1.len 1 λa21=>L.load eI6 a21 λ(x22:Int)=>L.new [I x22] zu λb23=>L.call Pr zS [.string wl,.slice (some ⟨b23,0,none⟩) 1 1] rS λ(x24:B0)=>L.new [.string x24] zc λb25=>L.sem Pr (.one (.one .slice)) (Builtin.append_ #[zj,zj] zj #[Sv6 y19.1,.slice (some ⟨b25,0,none⟩) 1 1]) λ(s26:Sl)=>again20 (⟨s26.a,s26.len,s26.cap⟩,Wi (y19.2.1+1),()))<|L.loop (Y:=Sl×Int×Unit) (⟨y19.1.a,y19.1.len,y19.1.cap⟩,0,()) λy27 again28=>L.ite (decide (y27.2.1<((x18.2.1.len:Nat):Int))) (L.idx x18.2.1.a y27.2.1 x18.2.1.len 1 λa29=>L.load eI6 a29 λ(x30:Int)=>L.new [I x30] zu λb31=>L.call Pr zS [.string wm,.slice (some ⟨b31,0,none⟩) 1 1] rS λ(x32:B0)=>L.new [.string x32] zc λb33=>L.sem Pr (.one (.one .slice)) (Builtin.append_ #[zj,zj] zj #[Sv6 y27.1,.slice (some ⟨b33,0,none⟩) 1 1]) λ(s34:Sl)=>again28 (⟨s34.a,s34.len,s34.cap⟩,Wi (y27.2.1+1),()))<|L.load eS6 (Ad6 b1 1) λ(x35:B0)=>L.call Pr xl [.pointer p0,.string x35,.func (.func Jt) #[] #[]] rI λ(x36:Int)=>L.load eS6 (Ad6 b1 1) λ(x37:B0)=>L.new [.string x37] zc λb38=>L.call Pr zR [.string FY,.slice (some ⟨b38,0,none⟩) 1 1] rS λ(x39:B0)=>L.new [I x36] zu λb40=>L.call Pr zS [.string x39,.slice (some ⟨b40,0,none⟩) 1 1] rS λ(x41:B0)=>L.new [.string x41] zc λb42=>L.sem Pr (.one (.one .slice)) (Builtin.append_ #[zj,zj] zj #[Sv6 y27.1,.slice (some ⟨b42,0,none⟩) 1 1]) λ(s43:Sl)=>K (.slice s43.a s43.len s43.cap)
def Vv(p0:Option Addr)(p1:ht1)(h:jU p0 p1 K w):CV Yc [.v (.pointer p0),.ag (qc1 p1)] K w:=zF Tryz.f43 FK _ h
def Vu:ZV Pr Yc:=zM (by kernel_rfl)
def pC:Ann:=(.q2 (.seq (.q2 (.one [(5,eL6)] (.q2 (.seq (.cond .auto .auto) .auto none) none)) none) (.q2 (.q2 .auto (some [(4,eL6)])) none) none) none)
def KO(p0:Option Addr)(p1:B0)(K:Value→PT):PT:=
  L.nonnil p0 λa1=>L.load (.one (.map)) (a1.add 1) λ(x2:Option Nat)=>L.sem Pr (.one (.one .ptr)) (Instr.range yl (.map x2)) λ(it3:Option Addr)=>L.loop (Y:=Sl×Unit) (⟨none,0,0⟩,()) λy4 again5=>L.next Pr [eI6,(.agg [.str,.int .i64])] (Instr.next (.pointer it3) false T_) (L.call Pr qk [Sv6 y4.1] (.tup []) λ(x7:Unit)=>L.join (Y:=Sl×Unit) (λk8=>L.nonnil p0 λa10=>L.load (.one (.map)) ((a10.add 2).add 0) λ(x11:Option Nat)=>L.semR Pr (.tup [eP6,.one .bool]) (Instr.lookup ZB (.map x11) (.string p1) true) λ(x12:Option Addr×Bool×Unit)=>L.ite x12.2.1 (L.call Pr ug [.pointer x12.1] rL λ(x13:Sl)=>k8 (⟨x13.a,x13.len,x13.cap⟩,()))<|k8 (⟨none,0,0⟩,())) λz9=>L.call Pr ZT [Sv6 y4.1] rL λ(x14:Sl)=>K (.tuple #[Sv6 z9.1,Sv6 x14])) λ(x6:pt7)=>L.sem Pr (.tup [eI6,(.agg [.str,.int .i64])]) (Instr.entry (.pointer it3)) λ(x15:pt7)=>L.new [.string s_,I 0] Zz λb16=>L.store (⟨b16,0,none⟩) [.string x15.2.1.1,I x15.2.1.2.1]<|L.load (.agg [.str,.int .i64]) (⟨b16,0,none⟩) λ(x17:B0×Int×Unit)=>L.chkSem Pr (do eqGuard .eql Zz (.tmp 0) (.tmp 0) (.agg #[.string x17.1,I x17.2.1]) (.agg #[.string p1,I 1]);binOp .eql Zz (.agg #[.string x17.1,I x17.2.1]) (.agg #[.string p1,I 1])) (.bool ((x17.1 == p1)&&((x17.2.1 == 1)&&true)))<|L.ite ((x17.1 == p1)&&((x17.2.1 == 1)&&true)) (L.new [I x15.1] zu λb18=>L.sem Pr (.one (.one .slice)) (Builtin.append_ #[ZO,ZO] ZO #[Sv6 y4.1,.slice (some ⟨b18,0,none⟩) 1 1]) λ(s19:Sl)=>again5 (⟨s19.a,s19.len,s19.cap⟩,()))<|again5 (⟨y4.1.a,y4.1.len,y4.1.cap⟩,())
def pi(p0:Option Addr)(p1:B0)(h:KO p0 p1 K w):CV XH [.v (.pointer p0),.v (.string p1)] K w:=zF Tryz.f44 pC _ h
def pH:Ann:=(.q2 (.q2 (.seq (.q2 (.q2 .auto (some [(11,eI6),(12,eP6)])) none) .auto none) none) none)
def KT(p0:Option Addr)(p1:B0)(K:Value→PT):PT:=
  L.new [.slice none 0 0] yR λb1=>L.call Pr JN [.pointer p0,.string p1] (.one (.one (.func))) λ(x2:FV)=>L.range Pr none (.func x2.fn x2.fs x2.cs) [eI6,eP6] (λl3(y4:Int×Option Addr×Unit) R5=>L.begin Pr l3<|L.draw<|L.load eL6 (⟨b1,0,none⟩) λ(x8:Sl)=>L.call Pr yO [.pointer y4.2.1] rI λ(x9:Int)=>L.chk (⟨b1,0,none⟩) [Sv6 x8]<|L.call Pr je [.pointer y4.2.1] rI λ(x10:Int)=>L.chk (⟨b1,0,none⟩) [Sv6 x8]<|L.new [I y4.1,I x9,I x10] JD λb11=>L.chk (⟨b1,0,none⟩) [Sv6 x8]<|L.sem Pr (.one (.one .slice)) (Builtin.append_ #[yR,yR] yR #[Sv6 x8,.slice (some ⟨b11,0,none⟩) 1 1]) λ(s12:Sl)=>L.store (⟨b1,0,none⟩) [Sv6 s12]<|L.endRound Pr l3 none R5) λd6 j7=>L.jump j7 (L.load eL6 (⟨b1,0,none⟩) λ(x13:Sl)=>L.call Pr Yr [Sv6 x13] rL λ(x14:Sl)=>L.unmark Pr (d6++[])<|K (.slice x14.a x14.len x14.cap)) (L.unmark Pr (d6++[])<|K (.slice none 0 0)) []
def pp(p0:Option Addr)(p1:B0)(h:KT p0 p1 K w):CV uz [.v (.pointer p0),.v (.string p1)] K w:=zF Tryz.f45 pH _ h
def jg(p0:Option Nat)(p1:B0)(K:Value→PT):PT:=
  L.semR Pr (.tup [eP6,.one .bool]) (Instr.lookup ZG (.map p0) (.string p1) true) λ(x1:Option Addr×Bool×Unit)=>K (.tuple #[.pointer x1.1,.bool x1.2.1])
def xK(p0:Option Nat)(p1:B0)(h:jg p0 p1 K w):CV jb [.v (.map p0),.v (.string p1)] K w:=zF Tryz.f47 .auto _ h
def WD:Ann:=(.q2 (.q2 (.seq (.q2 (.q2 .auto (some [(7,(.agg lf1))])) none) .auto none) none) none)
def gV(p0:Option Addr)(K:Value→PT):PT:=
  L.new [.pointer p0] zD λb1=>L.new [.slice none 0 0] zj λb2=>L.load eP6 (⟨b1,0,none⟩) λ(x3:Option Addr)=>L.call Pr Ma [.pointer x3] (.one (.one (.func))) λ(x4:FV)=>L.range Pr none (.func x4.fn x4.fs x4.cs) [(.agg lf1)] (λl5(y6:(Int×B0×B0×Int×Int×B0×Int×Int×Int×Int×Int×B0×B0×Sl×Int×Unit)×Unit) R7=>L.new [I 0,.string s_,.string s_,I 0,I 0,.string s_,I 0,I 0,I 0,I 0,I 0,.string s_,.string s_,.slice none 0 0,I 0] zC λb10=>L.store (⟨b10,0,none⟩) [I y6.1.1,.string y6.1.2.1,.string y6.1.2.2.1,I y6.1.2.2.2.1,I y6.1.2.2.2.2.1,.string y6.1.2.2.2.2.2.1,I y6.1.2.2.2.2.2.2.1,I y6.1.2.2.2.2.2.2.2.1,I y6.1.2.2.2.2.2.2.2.2.1,I y6.1.2.2.2.2.2.2.2.2.2.1,I y6.1.2.2.2.2.2.2.2.2.2.2.1,.string y6.1.2.2.2.2.2.2.2.2.2.2.2.1,.string y6.1.2.2.2.2.2.2.2.2.2.2.2.2.1,Sv6 y6.1.2.2.2.2.2.2.2.2.2.2.2.2.2.1,I y6.1.2.2.2.2.2.2.2.2.2.2.2.2.2.2.1]<|L.begin Pr l5<|L.draw<|L.load eL6 (⟨b2,0,none⟩) λ(x11:Sl)=>L.load eP6 (⟨b1,0,none⟩) λ(x12:Option Addr)=>L.load (.agg lf1) (⟨b10,0,none⟩) λ(x13:pt1)=>L.call Pr zq [.pointer x12,(qa1 x13)] rL λ(x14:Sl)=>L.chk (⟨b2,0,none⟩) [Sv6 x11]<|L.sem Pr (.one (.one .slice)) (Builtin.append_ #[zj,zj] zj #[Sv6 x11,Sv6 x14]) λ(s15:Sl)=>L.store (⟨b2,0,none⟩) [Sv6 s15]<|L.endRound Pr l5 none R7) λd8 j9=>L.jump j9 (L.load eL6 (⟨b2,0,none⟩) λ(x16:Sl)=>L.call Pr yf [Sv6 x16] rL λ(x17:Sl)=>L.unmark Pr (d8++[])<|K (.slice x17.a x17.len x17.cap)) (L.unmark Pr (d8++[])<|K (.slice none 0 0)) []
def PS(p0:Option Addr)(h:gV p0 K w):CV Uz [.v (.pointer p0)] K w:=zF Tryz.f48 WD _ h
def VU(p0 p1 p2:Int)(K:Value→PT):PT:=
  L.ite (decide (p0≥p1)) (K (.bool (decide (p0≤p2))))<|K (.bool false)
def mz(p0 p1 p2:Int)(h:VU p0 p1 p2 K w):CV Jm [.v (.int .i64 p0),.v (.int .i64 p1),.v (.int .i64 p2)] K w:=zF Tryz.f49 .auto _ h
def cG(p0:Int)(K:Value→PT):PT:=
  L.sem Pr (.one (.one .map)) (Instr.makeMap Zf none) λ(m1:Option Nat)=>L.sem Pr (.one (.one .map)) (Instr.makeMap Zn none) λ(m2:Option Nat)=>L.new [.map m1,.map m2,I p0,I 0] Md λb3=>K (.pointer (some (⟨b3,0,none⟩)))
def rh(p0:Int)(h:cG p0 K w):CV fN [.v (.int .i64 p0)] K w:=zF Tryz.f50 .auto _ h
def cC  (K:Value→PT):PT:=
  L.call Pr Xh [.func (.func yD) #[] #[]] rP λ(x1:Option Addr)=>L.call Pr XB [.func (.func Zu) #[] #[]] rP λ(x2:Option Addr)=>L.new [.pointer x1,.pointer x2,I 0] Mc λb3=>K (.pointer (some (⟨b3,0,none⟩)))
def LY(h:cC  K w):CV fL [] K w:=zF Tryz.f51 .auto _ h
def cx  (K:Value→PT):PT:=
  L.sem Pr (.one (.one .map)) (Instr.makeMap zZ none) λ(m1:Option Nat)=>L.sem Pr (.one (.one .map)) (Instr.makeMap XM none) λ(m2:Option Nat)=>L.new [.map m1,.map m2] Pw λb3=>K (.pointer (some (⟨b3,0,none⟩)))
def LV(h:cx  K w):CV fK [] K w:=zF Tryz.f52 .auto _ h
def Du  (K:Value→PT):PT:=
  L.sem Pr (.one (.one .map)) (Instr.makeMap YA none) λ(m1:Option Nat)=>L.new [.map m1] oU λb2=>K (.pointer (some (⟨b2,0,none⟩)))
def bD(h:Du  K w):CV ME [] K w:=zF Tryz.f53 .auto _ h
def Dw(p0:Option Addr)(p1 p2:Int)(K:Value→PT):PT:=
  L.new [I p1] zu λb1=>L.sem Pr (.one (.one .map)) (Instr.makeMap yl none) λ(m2:Option Nat)=>L.sem Pr (.one (.one .map)) (Instr.makeMap ZB none) λ(m3:Option Nat)=>L.load eI6 (⟨b1,0,none⟩) λ(x4:Int)=>L.new [.pointer p0,.map m2,.map m3,.func (.func kC) #[] #[.pointer (some (⟨b1,0,none⟩))],I x4,I p2] cm λb5=>K (.pointer (some (⟨b5,0,none⟩)))
def bF(p0:Option Addr)(p1 p2:Int)(h:Dw p0 p1 p2 K w):CV MF [.v (.pointer p0),.v (.int .i64 p1),.v (.int .i64 p2)] K w:=zF Tryz.f54 .auto _ h
def pD:Ann:=(.q2 (.q2 (.seq (.q2 (.one [] (.q2 (.seq (.cond .auto .auto) .auto none) none)) none) .auto none) none) none)
def KP(p0:Option Addr)(K:Value→PT):PT:=
  L.sem Pr (.one (.one .map)) (Instr.makeMap Zn none) λ(m1:Option Nat)=>L.nonnil p0 λa2=>L.load (.one (.map)) (a2.add 1) λ(x3:Option Nat)=>L.sem Pr (.one (.one .ptr)) (Instr.range yl (.map x3)) λ(it4:Option Addr)=>L.loop (Y:=Unit) (()) λy5 again6=>L.next Pr [eI6,(.agg [.str,.int .i64])] (Instr.next (.pointer it4) false T_) (L.draw<|L.nonnil p0 λa8=>L.load (.one (.map)) (a8.add 1) λ(x9:Option Nat)=>L.semR Pr rI (Builtin.len_ #[yl] zu #[.map x9]) λ(x10:Int)=>L.semR Pr rI (Instr.lookup Zn (.map m1) (I 2) false) λ(x11:Int)=>L.semR Pr rI (Instr.lookup Zn (.map m1) (I 1) false) λ(x12:Int)=>L.semR Pr rI (Instr.lookup Zn (.map m1) (I 3) false) λ(x13:Int)=>L.semR Pr rI (Instr.lookup Zn (.map m1) (I 4) false) λ(x14:Int)=>L.chkSem Pr (Instr.lookup Zn (.map m1) (I 4) false) (I x14)<|L.chkSem Pr (Instr.lookup Zn (.map m1) (I 3) false) (I x13)<|L.chkSem Pr (Instr.lookup Zn (.map m1) (I 1) false) (I x12)<|L.chkSem Pr (Instr.lookup Zn (.map m1) (I 2) false) (I x11)<|L.chkSem Pr (Instr.lookup Zn (.map m1) (I 4) false) (I x14)<|L.chkSem Pr (Instr.lookup Zn (.map m1) (I 3) false) (I x13)<|L.chkSem Pr (Instr.lookup Zn (.map m1) (I 1) false) (I x12)<|L.chkSem Pr (Instr.lookup Zn (.map m1) (I 4) false) (I x14)<|L.chkSem Pr (Instr.lookup Zn (.map m1) (I 3) false) (I x13)<|K (.tuple #[I x10,I x11,I x12,I (Wi (x13+x14))])) λ(x7:pt7)=>L.sem Pr (.tup [eI6,(.agg [.str,.int .i64])]) (Instr.entry (.pointer it4)) λ(x15:pt7)=>L.new [.string s_,I 0] Zz λb16=>L.store (⟨b16,0,none⟩) [.string x15.2.1.1,I x15.2.1.2.1]<|L.load eI6 (Ad6 b16 1) λ(x17:Int)=>L.semR Pr rI (Instr.lookup Zn (.map m1) (I x17) false) λ(x18:Int)=>L.semU Pr (Instr.mapUpdate Zn (.map m1) (I x17) (I (Wi (x18+1))))<|again6 (())
def pj(p0:Option Addr)(h:KP p0 K w):CV uw [.v (.pointer p0)] K w:=zF Tryz.f55 pD _ h
def XZ(p0:Sl)(K:Value→PT):PT:=
  L.ite ((p0.a).isNone) (K (.slice none 0 0))<|L.new [] zc λb1=>L.sem Pr (.one (.one .slice)) (Builtin.append_ #[zj,zj] zj #[.slice (some ⟨b1,0,none⟩) 0 0,Sv6 p0]) λ(s2:Sl)=>K (.slice s2.a s2.len s2.cap)
def VH(p0:Sl)(h:XZ p0 K w):CV yf [.v (.slice p0.a p0.len p0.cap)] K w:=zF Tryz.f56 .auto _ h
def nG:Ann:=(.q2 (.seq (.q2 (.q2 (.cond .auto (.q2 (.cond .auto (.q2 (.cond .auto (.q2 (.cond .auto (.q2 (.cond .auto (.q2 (.cond .auto (.q2 .auto (some [(26,eB6)]))) none)) (some [(17,eB6)]))) none)) none)) none)) none) none) .auto none) none)
def Mr(p0:Int)(K:Value→PT):PT:=
  L.new [.bool false,.bool false,.bool false,.bool false,.bool false,.bool false] cn λb1=>L.ite (p0 == 1) (L.store (⟨b1,0,none⟩) [.bool true,.bool false,.bool false,.bool false,.bool true,.bool false]<|L.load (.agg lf3) (⟨b1,0,none⟩) λ(x2:pt8)=>K (.tuple #[(qa2 x2),.bool true]))<|L.ite (p0 == 2) (L.store (⟨b1,0,none⟩) [.bool true,.bool false,.bool false,.bool false,.bool false,.bool true]<|L.load (.agg lf3) (⟨b1,0,none⟩) λ(x3:pt8)=>K (.tuple #[(qa2 x3),.bool true]))<|L.ite (p0 == 3) (L.store (⟨b1,0,none⟩) [.bool true,.bool true,.bool false,.bool true,.bool false,.bool false]<|L.load (.agg lf3) (⟨b1,0,none⟩) λ(x4:pt8)=>K (.tuple #[(qa2 x4),.bool true]))<|L.ite (p0 == 4) (L.store (⟨b1,0,none⟩) [.bool true,.bool true,.bool true,.bool true,.bool false,.bool false]<|L.load (.agg lf3) (⟨b1,0,none⟩) λ(x5:pt8)=>K (.tuple #[(qa2 x5),.bool true]))<|L.join (Y:=Bool×Unit) (λk6=>L.ite (p0 == 5) (k6 (p0 == 5,()))<|L.ite (p0 == 6) (k6 (p0 == 6,()))<|L.ite (p0 == 7) (k6 (p0 == 7,()))<|k6 (p0 == 8,())) λz7=>L.ite z7.1 (L.store (⟨b1,0,none⟩) [.bool true,.bool false,.bool false,.bool false,.bool false,.bool false]<|L.load (.agg lf3) (⟨b1,0,none⟩) λ(x8:pt8)=>K (.tuple #[(qa2 x8),.bool true]))<|L.ite (p0 == 9) (L.store (⟨b1,0,none⟩) [.bool false,.bool false,.bool false,.bool false,.bool false,.bool false]<|L.load (.agg lf3) (⟨b1,0,none⟩) λ(x9:pt8)=>K (.tuple #[(qa2 x9),.bool true]))<|L.join (Y:=Bool×Unit) (λk10=>L.ite (p0 == 10) (k10 (p0 == 10,()))<|L.ite (p0 == 11) (k10 (p0 == 11,()))<|L.ite (p0 == 12) (k10 (p0 == 12,()))<|k10 (p0 == 13,())) λz11=>L.ite z11.1 (L.store (⟨b1,0,none⟩) [.bool false,.bool true,.bool false,.bool false,.bool false,.bool false]<|L.load (.agg lf3) (⟨b1,0,none⟩) λ(x12:pt8)=>K (.tuple #[(qa2 x12),.bool true]))<|L.store (⟨b1,0,none⟩) [.bool false,.bool false,.bool false,.bool false,.bool false,.bool false]<|L.load (.agg lf3) (⟨b1,0,none⟩) λ(x13:pt8)=>K (.tuple #[(qa2 x13),.bool false])
def np(p0:Int)(h:Mr p0 K w):CV oP [.v (.int .i64 p0)] K w:=zF Tryz.f60 nG _ h
def OR(p0:Bool)(p1:Int)(K:Value→PT):PT:=
  L.ite p0 (K (.bool true))<|K (.bool (p1 == 0))
def Tw(p0:Bool)(p1:Int)(h:OR p0 p1 K w):CV Qw [.v (.bool p0),.v (.int .i64 p1)] K w:=zF Tryz.f61 .auto _ h
def kd(p0:Bool)(p1:B0)(K:Value→PT):PT:=
  L.ite p0 (K (.bool true))<|K (.bool (p1.toList == s_.toList))
def mI(p0:Bool)(p1:B0)(h:kd p0 p1 K w):CV Xc [.v (.bool p0),.v (.string p1)] K w:=zF Tryz.f62 .auto _ h
def Ue(p0:Bool)(p1:ht0)(K:Value→PT):PT:=
  L.new [.string p1.1,I p1.2.1,I p1.2.2.1,I p1.2.2.2.1,I p1.2.2.2.2.1,I p1.2.2.2.2.2.1] zx λb1=>L.new [.string s_,I 0,I 0,I 0,I 0,I 0] zx λb2=>L.ite p0 (K (.bool true))<|L.load (.agg lf0) (⟨b1,0,none⟩) λ(x3:pt0)=>L.load (.agg lf0) (⟨b2,0,none⟩) λ(x4:pt0)=>L.chkSem Pr (do eqGuard .eql zx (.tmp 0) (.tmp 0) ((qa0 x3)) ((qa0 x4));binOp .eql zx ((qa0 x3)) ((qa0 x4))) (.bool ((x3.1 == x4.1)&&((x3.2.1 == x4.2.1)&&((x3.2.2.1 == x4.2.2.1)&&((x3.2.2.2.1 == x4.2.2.2.1)&&((x3.2.2.2.2.1 == x4.2.2.2.2.1)&&((x3.2.2.2.2.2.1 == x4.2.2.2.2.2.1)&&true)))))))<|K (.bool ((x3.1 == x4.1)&&((x3.2.1 == x4.2.1)&&((x3.2.2.1 == x4.2.2.1)&&((x3.2.2.2.1 == x4.2.2.2.1)&&((x3.2.2.2.2.1 == x4.2.2.2.2.1)&&((x3.2.2.2.2.2.1 == x4.2.2.2.2.2.1)&&true)))))))
def OZ(p0:Bool)(p1:ht0)(h:Ue p0 p1 K w):CV Xk [.v (.bool p0),.ag (qc0 p1)] K w:=zF Tryz.f63 .auto _ h
def PM(p0:ht2)(K:Value→PT):PT:=
  L.new [.string p0.1,.string p0.2.1,Sv6 p0.2.2.1,I p0.2.2.2.1] Zb λb1=>L.load eS6 (Ad6 b1 0) λ(x2:B0)=>L.ite (x2.toList == s_.toList) (L.load eS6 (Ad6 b1 1) λ(x3:B0)=>L.ite (x3.toList == s_.toList) (L.load eI6 (Ad6 b1 3) λ(x4:Int)=>L.ite (x4 == 0) (L.load eL6 (Ad6 b1 2) λ(x5:Sl)=>K (.bool (((x5.len:Nat):Int) == 0)))<|K (.bool false))<|K (.bool false))<|K (.bool false)
def Wx(p0:ht2)(h:PM p0 K w):CV gN [.ag (qc2 p0)] K w:=zF Tryz.f64 .auto _ h
def DO:Ann:=(.q2 (.seq (.q2 (.q2 .auto (some [(5,eB6)])) none) .auto none) none)
def Fm(p0:ht1)(K:Value→PT):PT:=
  L.new [I p0.1,.string p0.2.1,.string p0.2.2.1,I p0.2.2.2.1,I p0.2.2.2.2.1,.string p0.2.2.2.2.2.1,I p0.2.2.2.2.2.2.1,I p0.2.2.2.2.2.2.2.1,I p0.2.2.2.2.2.2.2.2.1,I p0.2.2.2.2.2.2.2.2.2.1,I p0.2.2.2.2.2.2.2.2.2.2.1,.string p0.2.2.2.2.2.2.2.2.2.2.2.1,.string p0.2.2.2.2.2.2.2.2.2.2.2.2.1,Sv6 p0.2.2.2.2.2.2.2.2.2.2.2.2.2.1,I p0.2.2.2.2.2.2.2.2.2.2.2.2.2.2.1] zC λb1=>L.load eI6 (Ad6 b1 0) λ(x2:Int)=>L.join (Y:=Bool×Unit) (λk3=>L.ite (x2 == 1) (k3 (x2 == 1,()))<|k3 (x2 == 2,())) λz4=>L.ite z4.1 (L.load eI6 (Ad6 b1 3) λ(x5:Int)=>L.call Pr ZL [I x5,I 0,I 2147483647] rB λ(x6:Bool)=>K (.bool x6))<|L.ite (x2 == 3) (L.load eI6 (Ad6 b1 3) λ(x7:Int)=>L.call Pr ZL [I x7,I 1,I 2] rB λ(x8:Bool)=>K (.bool x8))<|L.load eI6 (Ad6 b1 3) λ(x9:Int)=>L.call Pr ZL [I x9,I 1,I 2147483647] rB λ(x10:Bool)=>K (.bool x10)
def DK(p0:ht1)(h:Fm p0 K w):CV Kj [.ag (qc1 p0)] K w:=zF Tryz.f65 DO _ h
def Ms(p0:ht1)(K:Value→PT):PT:=
  L.new [I p0.1,.string p0.2.1,.string p0.2.2.1,I p0.2.2.2.1,I p0.2.2.2.2.1,.string p0.2.2.2.2.2.1,I p0.2.2.2.2.2.2.1,I p0.2.2.2.2.2.2.2.1,I p0.2.2.2.2.2.2.2.2.1,I p0.2.2.2.2.2.2.2.2.2.1,I p0.2.2.2.2.2.2.2.2.2.2.1,.string p0.2.2.2.2.2.2.2.2.2.2.2.1,.string p0.2.2.2.2.2.2.2.2.2.2.2.2.1,Sv6 p0.2.2.2.2.2.2.2.2.2.2.2.2.2.1,I p0.2.2.2.2.2.2.2.2.2.2.2.2.2.2.1] zC λb1=>L.load eI6 (Ad6 b1 0) λ(x2:Int)=>L.ite (x2 == 12) (L.load eS6 (Ad6 b1 1) λ(x3:B0)=>L.call Pr qd [.string x3] (.tup [eS6,eI6,eB6]) λ(x4:B0×Int×Bool×Unit)=>K (.bool x4.2.2.1))<|L.load eI6 (Ad6 b1 0) λ(x5:Int)=>L.ite (x5 == 13) (L.load eS6 (Ad6 b1 1) λ(x6:B0)=>L.call Pr qd [.string x6] (.tup [eS6,eI6,eB6]) λ(x7:B0×Int×Bool×Unit)=>K (.bool x7.2.2.1))<|L.load eS6 (Ad6 b1 1) λ(x8:B0)=>L.call Pr XF [.string x8] rB λ(x9:Bool)=>K (.bool x9)
def nq(p0:ht1)(h:Ms p0 K w):CV vU [.ag (qc1 p0)] K w:=zF Tryz.f66 .auto _ h
def cD(p0:B0)(K:Value→PT):PT:=
  L.call Pr vS [.string p0,I 8] rB λ(x1:Bool)=>K (.bool x1)
def LZ(p0:B0)(h:cD p0 K w):CV xB [.v (.string p0)] K w:=zF Tryz.f67 .auto _ h
def Fl(p0 p1 p2:Int)(K:Value→PT):PT:=
  L.ite (decide (p0≥p1)) (K (.bool (decide (p0≤p2))))<|K (.bool false)
def DI(p0 p1 p2:Int)(h:Fl p0 p1 p2 K w):CV ZL [.v (.int .i64 p0),.v (.int .i64 p1),.v (.int .i64 p2)] K w:=zF Tryz.f68 .auto _ h
def nC:Ann:=(.q2 (.seq (.q2 (.cond .auto (.q2 .auto (some [(8,eB6)]))) none) .auto none) none)
def Mk(p0:ht0)(K:Value→PT):PT:=
  L.new [.string p0.1,I p0.2.1,I p0.2.2.1,I p0.2.2.2.1,I p0.2.2.2.2.1,I p0.2.2.2.2.2.1] zx λb1=>L.load eS6 (Ad6 b1 0) λ(x2:B0)=>L.call Pr XF [.string x2] rB λ(x3:Bool)=>L.ite (!x3) (K (I 1))<|L.join (Y:=Bool×Unit) (λk4=>L.load eI6 (Ad6 b1 1) λ(x6:Int)=>L.call Pr yt [.agg #[I 0,I 255],I x6] rB λ(x7:Bool)=>L.ite (!x7) (k4 (!x7,()))<|L.load eI6 (Ad6 b1 2) λ(x8:Int)=>L.call Pr yt [.agg #[I 1,I 8],I x8] rB λ(x9:Bool)=>L.ite (!x9) (k4 (!x9,()))<|L.load eI6 (Ad6 b1 4) λ(x10:Int)=>L.call Pr yt [.agg #[I 1,I 10],I x10] rB λ(x11:Bool)=>L.ite (!x11) (k4 (!x11,()))<|L.load eI6 (Ad6 b1 4) λ(x12:Int)=>L.load eI6 (Ad6 b1 3) λ(x13:Int)=>L.call Pr yt [.agg #[I 0,I x12],I x13] rB λ(x14:Bool)=>L.ite (!x14) (k4 (!x14,()))<|L.load eI6 (Ad6 b1 5) λ(x15:Int)=>L.call Pr yt [.agg #[I 0,I 30],I x15] rB λ(x16:Bool)=>k4 (!x16,())) λz5=>L.ite z5.1 (K (I 2))<|K (I 0)
def nc(p0:ht0)(h:Mk p0 K w):CV Za [.ag (qc0 p0)] K w:=zF Tryz.f69 nC _ h
def WB:Ann:=(.q2 (.seq (.q2 .auto (some [(6,eB6)])) (.seq (.q2 (.one [(31,eI6)] .auto) none) .auto none) none) none)
def PE(p0:ht2)(K:Value→PT):PT:=
  L.new [.string p0.1,.string p0.2.1,Sv6 p0.2.2.1,I p0.2.2.2.1] Zb λb1=>L.join (Y:=Bool×Unit) (λk2=>L.load eS6 (Ad6 b1 0) λ(x4:B0)=>L.call Pr XF [.string x4] rB λ(x5:Bool)=>L.ite (!x5) (k2 (!x5,()))<|L.load eS6 (Ad6 b1 1) λ(x6:B0)=>L.call Pr XF [.string x6] rB λ(x7:Bool)=>k2 (!x7,())) λz3=>L.ite z3.1 (K (I 1))<|L.load eI6 (Ad6 b1 3) λ(x8:Int)=>L.call Pr yt [.agg #[I 0,I 60],I x8] rB λ(x9:Bool)=>L.ite (!x9) (K (I 2))<|L.load eL6 (Ad6 b1 2) λ(x10:Sl)=>L.call Pr yt [.agg #[I 1,I 6],I ((x10.len:Nat):Int)] rB λ(x11:Bool)=>L.ite (!x11) (K (I 3))<|L.load eL6 (Ad6 b1 2) λ(x12:Sl)=>L.loop (Y:=Int×Unit) (0,()) λy13 again14=>L.ite (decide (y13.1<((x12.len:Nat):Int))) (L.idx x12.a y13.1 x12.len 3 λa15=>L.load (.agg [.str,.str,.int .i64]) a15 λ(x16:pt9)=>L.new [.string s_,.string s_,I 0] zH λb17=>L.store (⟨b17,0,none⟩) [.string x16.1,.string x16.2.1,I x16.2.2.1]<|L.load (.agg [.str,.str,.int .i64]) (⟨b17,0,none⟩) λ(x18:pt9)=>L.call Pr oM [.agg #[.string x18.1,.string x18.2.1,I x18.2.2.1]] rI λ(x19:Int)=>L.ite (x19 != 0) (K (I x19))<|again14 (Wi (y13.1+1),()))<|L.load eL6 (Ad6 b1 2) λ(x20:Sl)=>L.call Pr MD [Sv6 x20] rI λ(x21:Int)=>K (I x21)
def Wp(p0:ht2)(h:PE p0 K w):CV Zi [.ag (qc2 p0)] K w:=zF Tryz.f70 WB _ h
def cH(p0:Int)(K:Value→PT):PT:=
  L.ite (p0 == 0) (K (.string z2r))<|L.ite (p0 == 1) (K (.string Sd))<|L.ite (p0 == 2) (K (.string IF))<|L.ite (p0 == 3) (K (.string Sf))<|L.ite (p0 == 4) (K (.string ID))<|L.ite (p0 == 5) (K (.string pV))<|L.ite (p0 == 6) (K (.string Sc))<|K (.string Cq)
def rj(p0:Int)(h:cH p0 K w):CV TS [.v (.int .i64 p0)] K w:=zF Tryz.f73 .auto _ h
def Dy(p0:Int)(K:Value→PT):PT:=
  L.ite (p0 == 7) (K (.string bX))<|L.ite (p0 == 8) (K (.string Si))<|L.ite (p0 == 9) (K (.string bW))<|L.ite (p0 == 10) (K (.string IE))<|L.ite (p0 == 11) (K (.string Se))<|L.ite (p0 == 12) (K (.string Sg))<|K (.string Cq)
def bH(p0:Int)(h:Dy p0 K w):CV dg [.v (.int .i64 p0)] K w:=zF Tryz.f74 .auto _ h
def gb:Ann:=(.q2 (.q2 (.q2 .auto (some [(8,eI6)])) none) none)
def Uc(p0:Option Addr)(p1:ht0)(p2:Int)(K:Value→PT):PT:=
  L.new [.string p1.1,I p1.2.1,I p1.2.2.1,I p1.2.2.2.1,I p1.2.2.2.2.1,I p1.2.2.2.2.2.1] zx λb1=>L.load (.agg lf0) (⟨b1,0,none⟩) λ(x2:pt0)=>L.call Pr Za [(qa0 x2)] rI λ(x3:Int)=>L.join (Y:=Int×Unit) (λk4=>L.ite (x3 == 0) (L.draw<|L.nonnil p0 λa6=>L.load eP6 (a6.add 0) λ(x7:Option Addr)=>L.load eS6 (Ad6 b1 0) λ(x8:B0)=>L.call Pr Jy [.pointer x7,.string x8,I p2,.bool true] rI λ(x9:Int)=>k4 (x9,()))<|k4 (x3,())) λz5=>L.ite (z5.1 != 0) (K (.tuple #[I 0,I z5.1]))<|L.nonnil p0 λa10=>L.load eI6 (a10.add 2) λ(x11:Int)=>L.nonnil p0 λa12=>L.store (a12.add 2) [I (Wi (x11+1))]<|L.draw<|L.nonnil p0 λa13=>L.load eP6 (a13.add 0) λ(x14:Option Addr)=>L.load eS6 (Ad6 b1 0) λ(x15:B0)=>L.load (.agg lf0) (⟨b1,0,none⟩) λ(x16:pt0)=>L.nonnil p0 λa17=>L.load eI6 (a17.add 2) λ(x18:Int)=>L.call Pr Jx [.pointer x14,.string x15,(qa0 x16),I x18] (.tup []) λ(x19:Unit)=>L.nonnil p0 λa20=>L.load eI6 (a20.add 2) λ(x21:Int)=>K (.tuple #[I x21,I 0])
def OX(p0:Option Addr)(p1:ht0)(p2:Int)(h:Uc p0 p1 p2 K w):CV Xi [.v (.pointer p0),.ag (qc0 p1),.v (.int .i64 p2)] K w:=zF Tryz.f75 gb _ h
def PB(p0 p1:B0)(p2 p3:Int)(K:Value→PT):PT:=
  L.ite (p3 != 0) (L.call Pr ZX [I p3] rL λ(x1:Sl)=>K (.slice x1.a x1.len x1.cap))<|L.new [.string p1] zc λb2=>L.call Pr zR [.string p0,.slice (some ⟨b2,0,none⟩) 1 1] rS λ(x3:B0)=>L.new [I p2] zu λb4=>L.call Pr zS [.string x3,.slice (some ⟨b4,0,none⟩) 1 1] rS λ(x5:B0)=>L.new [.string x5] zc λb6=>K (.slice (some ⟨b6,0,none⟩) 1 1)
def Wm(p0 p1:B0)(p2 p3:Int)(h:PB p0 p1 p2 p3 K w):CV kA [.v (.string p0),.v (.string p1),.v (.int .i64 p2),.v (.int .i64 p3)] K w:=zF Tryz.f76 .auto _ h
def Gi:Ann:=(.q2 (.q2 (.q2 .auto (some [(8,eI6)])) none) none)
def UK(p0:Option Addr)(p1:ht2)(p2:Int)(K:Value→PT):PT:=
  L.new [.string p1.1,.string p1.2.1,Sv6 p1.2.2.1,I p1.2.2.2.1] Zb λb1=>L.load (.agg [.str,.str,.slice,.int .i64]) (⟨b1,0,none⟩) λ(x2:pt3)=>L.call Pr Zi [.agg #[.string x2.1,.string x2.2.1,Sv6 x2.2.2.1,I x2.2.2.2.1]] rI λ(x3:Int)=>L.join (Y:=Int×Unit) (λk4=>L.ite (x3 == 0) (L.draw<|L.nonnil p0 λa6=>L.load eP6 (a6.add 1) λ(x7:Option Addr)=>L.load eS6 (Ad6 b1 0) λ(x8:B0)=>L.call Pr JW [.pointer x7,.string x8,I p2,.bool true] rI λ(x9:Int)=>k4 (x9,()))<|k4 (x3,())) λz5=>L.ite (z5.1 != 0) (K (.tuple #[I 0,I z5.1]))<|L.nonnil p0 λa10=>L.load eI6 (a10.add 2) λ(x11:Int)=>L.nonnil p0 λa12=>L.store (a12.add 2) [I (Wi (x11+1))]<|L.draw<|L.nonnil p0 λa13=>L.load eP6 (a13.add 1) λ(x14:Option Addr)=>L.load eS6 (Ad6 b1 0) λ(x15:B0)=>L.load (.agg [.str,.str,.slice,.int .i64]) (⟨b1,0,none⟩) λ(x16:pt3)=>L.nonnil p0 λa17=>L.load eI6 (a17.add 2) λ(x18:Int)=>L.call Pr ov [.agg #[.string x16.1,.string x16.2.1,Sv6 x16.2.2.1,I x16.2.2.2.1]] (.one (.agg [.str,.str,.slice,.int .i64])) λ(x19:pt3)=>L.chk (a17.add 2) [I x18]<|L.chk (Ad6 b1 0) [.string x15]<|L.chk (a13.add 1) [.pointer x14]<|L.call Pr JV [.pointer x14,.string x15,.agg #[.string x19.1,.string x19.2.1,Sv6 x19.2.2.1,I x19.2.2.2.1],I x18] (.tup []) λ(x20:Unit)=>L.nonnil p0 λa21=>L.load eI6 (a21.add 2) λ(x22:Int)=>K (.tuple #[I x22,I 0])
def Gg(p0:Option Addr)(p1:ht2)(p2:Int)(h:UK p0 p1 p2 K w):CV XC [.v (.pointer p0),.ag (qc2 p1),.v (.int .i64 p2)] K w:=zF Tryz.f77 Gi _ h
def OC(p0:Int)(K:Value→PT):PT:=
  L.call Pr qw [I p0] rS λ(x1:B0)=>L.new [.string x1] zc λb2=>L.call Pr zR [.string uP,.slice (some ⟨b2,0,none⟩) 1 1] rS λ(x3:B0)=>L.new [.string x3] zc λb4=>K (.slice (some ⟨b4,0,none⟩) 1 1)
def Te(p0:Int)(h:OC p0 K w):CV ZX [.v (.int .i64 p0)] K w:=zF Tryz.f79 .auto _ h
def UW(p0:Option Addr)(p1:ht1)(K:Value→PT):PT:=
  L.new [I p1.1,.string p1.2.1,.string p1.2.2.1,I p1.2.2.2.1,I p1.2.2.2.2.1,.string p1.2.2.2.2.2.1,I p1.2.2.2.2.2.2.1,I p1.2.2.2.2.2.2.2.1,I p1.2.2.2.2.2.2.2.2.1,I p1.2.2.2.2.2.2.2.2.2.1,I p1.2.2.2.2.2.2.2.2.2.2.1,.string p1.2.2.2.2.2.2.2.2.2.2.2.1,.string p1.2.2.2.2.2.2.2.2.2.2.2.2.1,Sv6 p1.2.2.2.2.2.2.2.2.2.2.2.2.2.1,I p1.2.2.2.2.2.2.2.2.2.2.2.2.2.2.1] zC λb1=>L.load eS6 (Ad6 b1 1) λ(x2:B0)=>L.call Pr US [.pointer p0,.string x2] (.tup [(.agg [.slice,.slice]),eB6]) λ(x3:(Sl×Sl×Unit)×Bool×Unit)=>L.new [.slice none 0 0,.slice none 0 0] zr λb4=>L.store (⟨b4,0,none⟩) [Sv6 x3.1.1,Sv6 x3.1.2.1]<|L.ite (!x3.2.1) (K (.string s_))<|L.load eS6 (Ad6 b1 2) λ(x5:B0)=>L.ite (x5.toList == s_.toList) (L.load (.agg [.slice,.slice]) (⟨b4,0,none⟩) λ(x6:Sl×Sl×Unit)=>L.load eI6 (Ad6 b1 4) λ(x7:Int)=>L.call Pr gG [.agg #[Sv6 x6.1,Sv6 x6.2.1],I x7] rS λ(x8:B0)=>K (.string x8))<|L.load (.agg [.slice,.slice]) (⟨b4,0,none⟩) λ(x9:Sl×Sl×Unit)=>L.load eS6 (Ad6 b1 2) λ(x10:B0)=>L.call Pr oK [.agg #[Sv6 x9.1,Sv6 x9.2.1],.string x10] (.tup [eS6,eB6]) λ(x11:B0×Bool×Unit)=>K (.string x11.1)
def GX(p0:Option Addr)(p1:ht1)(h:UW p0 p1 K w):CV qj [.v (.pointer p0),.ag (qc1 p1)] K w:=zF Tryz.f81 .auto _ h
def pE:Ann:=(.q2 (.q2 (.q2 (.q2 (.q2 .auto (some [])) none) none) none) none)
def KQ(p0:Option Addr)(p1:Int)(p2:B0)(p3:Int)(K:Value→PT):PT:=
  L.call Pr vw [.pointer p0,I p1] rB λ(x1:Bool)=>L.ite x1 (L.call Pr qN [.string pV] (.one (.agg [.int .i64,.int .i64,.int .i64,.str])) λ(x2:Kf)=>L.new [I 0,I 0,I 0,.string s_] zA λb3=>L.store (⟨b3,0,none⟩) [I x2.1,I x2.2.1,I x2.2.2.1,.string x2.2.2.2.1]<|L.store (Ad6 b3 0) [I p1]<|L.load (.agg [.int .i64,.int .i64,.int .i64,.str]) (⟨b3,0,none⟩) λ(x4:Kf)=>L.new [I x4.1,I x4.2.1,I x4.2.2.1,.string x4.2.2.2.1] zA λb5=>K (.slice (some ⟨b5,0,none⟩) 1 1))<|L.ite (p2.toList == s_.toList) (L.call Pr qN [.string gC] (.one (.agg [.int .i64,.int .i64,.int .i64,.str])) λ(x6:Kf)=>L.call Pr yu [.pointer p0,I p1,.string s_,.agg #[I x6.1,I x6.2.1,I x6.2.2.1,.string x6.2.2.2.1]] (.one (.agg [.int .i64,.int .i64,.int .i64,.str])) λ(x7:Kf)=>L.new [I x7.1,I x7.2.1,I x7.2.2.1,.string x7.2.2.2.1] zA λb8=>K (.slice (some ⟨b8,0,none⟩) 1 1))<|L.nonnil p0 λa9=>L.call Pr jN [.pointer (some (a9.add 2)),.string p2] rP λ(x10:Option Addr)=>L.join (Y:=Unit) (λk11=>L.call Pr XT [.pointer x10] rI λ(x13:Int)=>L.ite (x13 == 0) (L.call Pr Qs [.pointer p0,I p1,.string p2] (.tup [(.agg [.int .i64,.int .i64,.int .i64,.str]),eB6]) λ(x14:z2B)=>L.new [I 0,I 0,I 0,.string s_] zA λb15=>L.store (⟨b15,0,none⟩) [I x14.1.1,I x14.1.2.1,I x14.1.2.2.1,.string x14.1.2.2.2.1]<|L.ite x14.2.1 (L.load (.agg [.int .i64,.int .i64,.int .i64,.str]) (⟨b15,0,none⟩) λ(x16:Kf)=>L.new [I x16.1,I x16.2.1,I x16.2.2.1,.string x16.2.2.2.1] zA λb17=>K (.slice (some ⟨b17,0,none⟩) 1 1))<|k11 (()))<|k11 (())) λz12=>L.nonnil p0 λa18=>L.load eI6 (a18.add 5) λ(x19:Int)=>L.call Pr Qq [.pointer x10,I p1,I (Wi (p3+x19))] rI λ(x20:Int)=>L.ite (x20 != 0) (L.call Pr qN [.string Kd] (.one (.agg [.int .i64,.int .i64,.int .i64,.str])) λ(x21:Kf)=>L.call Pr yu [.pointer p0,I p1,.string p2,.agg #[I x21.1,I x21.2.1,I x21.2.2.1,.string x21.2.2.2.1]] (.one (.agg [.int .i64,.int .i64,.int .i64,.str])) λ(x22:Kf)=>L.new [I x22.1,I x22.2.1,I x22.2.2.1,.string x22.2.2.2.1] zA λb23=>K (.slice (some ⟨b23,0,none⟩) 1 1))<|L.call Pr yu [.pointer p0,I p1,.string p2,.agg #[I 0,I 2,I 0,.string s_]] (.one (.agg [.int .i64,.int .i64,.int .i64,.str])) λ(x24:Kf)=>L.new [I x24.1,I x24.2.1,I x24.2.2.1,.string x24.2.2.2.1] zA λb25=>K (.slice (some ⟨b25,0,none⟩) 1 1)
def pm(p0:Option Addr)(p1:Int)(p2:B0)(p3:Int)(h:KQ p0 p1 p2 p3 K w):CV ux [.v (.pointer p0),.v (.int .i64 p1),.v (.string p2),.v (.int .i64 p3)] K w:=zF Tryz.f82 pE _ h
def nz:Ann:=(.q2 (.seq (.q2 (.q2 .auto (some [(8,eS6)])) none) .auto none) none)
def Mh(p0 p1:Sl)(K:Value→PT):PT:=
  L.new [Sv6 p1] zj λb1=>L.call Pr fI [Sv6 p0] (.one (.one (.func))) λ(x2:FV)=>L.range Pr none (.func x2.fn x2.fs x2.cs) [eS6] (λl3(y4:B0×Unit) R5=>L.begin Pr l3<|L.load eL6 (⟨b1,0,none⟩) λ(x8:Sl)=>L.new [.string y4.1] zc λb9=>L.sem Pr (.one (.one .slice)) (Builtin.append_ #[zj,zj] zj #[Sv6 x8,.slice (some ⟨b9,0,none⟩) 1 1]) λ(s10:Sl)=>L.store (⟨b1,0,none⟩) [Sv6 s10]<|L.endRound Pr l3 none R5) λd6 j7=>L.jump j7 (L.load eL6 (⟨b1,0,none⟩) λ(x11:Sl)=>L.call Pr yf [Sv6 x11] rL λ(x12:Sl)=>L.unmark Pr (d6++[])<|K (.slice x12.a x12.len x12.cap)) (L.unmark Pr (d6++[])<|K (.slice none 0 0)) []
def DZ(p0 p1:Sl)(h:Mh p0 p1 K w):CV JE [.v (.slice p0.a p0.len p0.cap),.v (.slice p1.a p1.len p1.cap)] K w:=zF Tryz.f83 nz _ h
def PV:Ann:=(.q2 (.q2 (.seq (.q2 (.one [(5,eL6),(14,eI6)] (.q2 (.q2 (.q2 .auto (some [(5,eL6)])) none) none)) none) .auto none) none) none)
def oD(p0:B0)(p1:Sl)(K:Value→PT):PT:=
  L.new [.string p0] zc λb1=>L.loop (Y:=Sl×Int×Unit) (⟨some ⟨b1,0,none⟩,1,1⟩,0,()) λy2 again3=>L.ite (decide (y2.2.1<((p1.len:Nat):Int))) (L.join (Y:=Sl×Unit) (λk4=>L.idx p1.a y2.2.1 p1.len 1 λa6=>L.load eI6 a6 λ(x7:Int)=>L.semR Pr (.tup [eS6,.one .bool]) (Instr.typeAssert (.iface zu (I x7)) fX zc true) λ(x8:B0×Bool×Unit)=>L.ite x8.2.1 (L.new [.string x8.1] zc λb9=>L.sem Pr (.one (.one .slice)) (Builtin.append_ #[zj,zj] zj #[Sv6 y2.1,.slice (some ⟨b9,0,none⟩) 1 1]) λ(s10:Sl)=>k4 (⟨s10.a,s10.len,s10.cap⟩,()))<|L.ite true (L.call Pr Xf [I x7] rS λ(x11:B0)=>L.new [.string x11] zc λb12=>L.sem Pr (.one (.one .slice)) (Builtin.append_ #[zj,zj] zj #[Sv6 y2.1,.slice (some ⟨b12,0,none⟩) 1 1]) λ(s13:Sl)=>k4 (⟨s13.a,s13.len,s13.cap⟩,()))<|k4 (⟨y2.1.a,y2.1.len,y2.1.cap⟩,())) λz5=>again3 (⟨z5.1.a,z5.1.len,z5.1.cap⟩,Wi (y2.2.1+1),()))<|L.call Pr Us [Sv6 y2.1,.string Ol] rS λ(x14:B0)=>K (.string x14)
def PN(p0:B0)(p1:Sl)(h:oD p0 p1 K w):CV zS [.v (.string p0),.v (.slice p1.a p1.len p1.cap)] K w:=zF Tryz.f84 PV _ h
def TB:Ann:=(.q2 (.q2 (.q2 (.q2 (.seq (.one [(4,eL6),(5,eI6)] .auto) .auto none) none) none) none) none)
def OL(p0:Option Addr)(p1:Int)(K:Value→PT):PT:=
  L.nonnil p0 λa1=>L.load eP6 (a1.add 0) λ(x2:Option Addr)=>L.call Pr uB [.pointer x2,I p1] (.tup [eS6,eI6]) λ(x3:B0×Int×Unit)=>L.ite (x3.2.1 != 0) (K (.tuple #[.slice none 0 0,I x3.2.1]))<|L.call Pr yu [.pointer p0,I p1,.string x3.1,.agg #[I 0,I 3,I 0,.string s_]] (.one (.agg [.int .i64,.int .i64,.int .i64,.str])) λ(x4:Kf)=>L.new [I 0,I 0,I 0,.string s_] zA λb5=>L.store (⟨b5,0,none⟩) [I x4.1,I x4.2.1,I x4.2.2.1,.string x4.2.2.2.1]<|L.join (Y:=Sl×Int×Unit) (λk6=>L.draw<|L.load (.agg [.int .i64,.int .i64,.int .i64,.str]) (⟨b5,0,none⟩) λ(x8:Kf)=>L.alts [(L.new [I x8.1,I x8.2.1,I x8.2.2.1,.string x8.2.2.2.1] zA λb9=>L.call Pr Xj [.pointer p0,.string x3.1] rL λ(x10:Sl)=>L.chk (⟨b5,0,none⟩) [I x8.1,I x8.2.1,I x8.2.2.1,.string x8.2.2.2.1]<|L.sem Pr (.one (.one .slice)) (Builtin.append_ #[zI,zI] zI #[.slice (some ⟨b9,0,none⟩) 1 1,Sv6 x10]) λ(s11:Sl)=>k6 (⟨s11.a,s11.len,s11.cap⟩,0,())),(L.call Pr Xj [.pointer p0,.string x3.1] rL λ(x12:Sl)=>L.chk (⟨b5,0,none⟩) [I x8.1,I x8.2.1,I x8.2.2.1,.string x8.2.2.2.1]<|L.new [I x8.1,I x8.2.1,I x8.2.2.1,.string x8.2.2.2.1] zA λb13=>L.sem Pr (.one (.one .slice)) (Builtin.append_ #[zI,zI] zI #[.slice (some ⟨b13,0,none⟩) 1 1,Sv6 x12]) λ(s14:Sl)=>k6 (⟨s14.a,s14.len,s14.cap⟩,0,()))]) λz7=>K (.tuple #[Sv6 z7.1,I z7.2.1])
def Tp(p0:Option Addr)(p1:Int)(h:OL p0 p1 K w):CV vx [.v (.pointer p0),.v (.int .i64 p1)] K w:=zF Tryz.f85 TB _ h
def OP(p0:Option Addr)(p1:Int)(K:Value→PT):PT:=
  L.nonnil p0 λa1=>L.load (.one (.map)) (a1.add 0) λ(x2:Option Nat)=>L.semR Pr (.tup [(.agg [.str,.ptr]),.one .bool]) (Instr.lookup Zf (.map x2) (I p1) true) λ(x3:z2A)=>L.new [.string s_,.pointer none] Xy λb4=>L.store (⟨b4,0,none⟩) [.string x3.1.1,.pointer x3.1.2.1]<|L.ite (!x3.2.1) (K (I 6))<|L.load eP6 (Ad6 b4 1) λ(x5:Option Addr)=>L.call Pr gI [.pointer x5] rI λ(x6:Int)=>K (I x6)
def Tu(p0:Option Addr)(p1:Int)(h:OP p0 p1 K w):CV Qv [.v (.pointer p0),.v (.int .i64 p1)] K w:=zF Tryz.f86 .auto _ h
def OQ(p0:Option Addr)(p1:Int)(K:Value→PT):PT:=
  L.nonnil p0 λa1=>L.load (.one (.map)) (a1.add 0) λ(x2:Option Nat)=>L.semR Pr (.one (.agg [.str,.ptr])) (Instr.lookup Zf (.map x2) (I p1) false) λ(x3:B0×Option Addr×Unit)=>K (.string x3.1)
def Tv(p0:Option Addr)(p1:Int)(h:OQ p0 p1 K w):CV vz [.v (.pointer p0),.v (.int .i64 p1)] K w:=zF Tryz.f87 .auto _ h
def QP(p0:Option Addr)(p1:B0)(K:Value→PT):PT:=
  L.nonnil p0 λa1=>L.load (.one (.map)) (a1.add 1) λ(x2:Option Nat)=>L.semR Pr rB (Instr.lookup XM (.map x2) (.string p1) false) λ(x3:Bool)=>K (.bool x3)
def ki(p0:Option Addr)(p1:B0)(h:QP p0 p1 K w):CV Yq [.v (.pointer p0),.v (.string p1)] K w:=zF Tryz.f88 .auto _ h
def mu:ZV Pr Yq:=zM (by kernel_rfl)
def KG(p0:Option Addr)(p1:B0)(K:Value→PT):PT:=
  L.nonnil p0 λa1=>L.load (.one (.map)) (a1.add 0) λ(x2:Option Nat)=>L.semR Pr (.tup [(.agg lf4),.one .bool]) (Instr.lookup zZ (.map x2) (.string p1) true) λ(x3:pt6)=>L.new [.string s_,I 0,.string s_,I 0,I 0,I 0,I 0,I 0] zU λb4=>L.store (⟨b4,0,none⟩) [.string x3.1.1,I x3.1.2.1,.string x3.1.2.2.1,I x3.1.2.2.2.1,I x3.1.2.2.2.2.1,I x3.1.2.2.2.2.2.1,I x3.1.2.2.2.2.2.2.1,I x3.1.2.2.2.2.2.2.2.1]<|L.ite (!x3.2.1) (K (I 6))<|L.nonnil p0 λa5=>L.load (.one (.map)) (a5.add 1) λ(x6:Option Nat)=>L.semU Pr (Instr.mapUpdate XM (.map x6) (.string p1) (.bool true))<|K (I 0)
def pb(p0:Option Addr)(p1:B0)(h:KG p0 p1 K w):CV ur [.v (.pointer p0),.v (.string p1)] K w:=zF Tryz.f89 .auto _ h
def TA:Ann:=(.q2 (.q2 (.q2 (.seq (.q2 (.one [(5,eL6),(19,eI6)] .auto) none) .auto (some [(5,eL6)])) none) none) none)
def OK(p0:Option Addr)(p1:B0)(K:Value→PT):PT:=
  L.nonnil p0 λa1=>L.call Pr jN [.pointer (some (a1.add 2)),.string p1] rP λ(x2:Option Addr)=>L.join (Y:=Sl×Unit) (λk3=>L.call Pr ug [.pointer x2] rL λ(x5:Sl)=>L.loop (Y:=Sl×Int×Unit) (⟨none,0,0⟩,0,()) λy6 again7=>L.ite (decide (y6.2.1<((x5.len:Nat):Int))) (L.idx x5.a y6.2.1 x5.len 1 λa8=>L.load eI6 a8 λ(x9:Int)=>L.call Pr Qs [.pointer p0,I x9,.string p1] (.tup [(.agg [.int .i64,.int .i64,.int .i64,.str]),eB6]) λ(x10:z2B)=>L.new [I 0,I 0,I 0,.string s_] zA λb11=>L.store (⟨b11,0,none⟩) [I x10.1.1,I x10.1.2.1,I x10.1.2.2.1,.string x10.1.2.2.2.1]<|L.ite (!x10.2.1) (k3 (⟨y6.1.a,y6.1.len,y6.1.cap⟩,()))<|L.call Pr Vz [.pointer x2] (.tup [eI6,eB6]) λ(x12:Int×Bool×Unit)=>L.load (.agg [.int .i64,.int .i64,.int .i64,.str]) (⟨b11,0,none⟩) λ(x13:Kf)=>L.new [I x13.1,I x13.2.1,I x13.2.2.1,.string x13.2.2.2.1] zA λb14=>L.sem Pr (.one (.one .slice)) (Builtin.append_ #[zI,zI] zI #[Sv6 y6.1,.slice (some ⟨b14,0,none⟩) 1 1]) λ(s15:Sl)=>again7 (⟨s15.a,s15.len,s15.cap⟩,Wi (y6.2.1+1),()))<|k3 (⟨y6.1.a,y6.1.len,y6.1.cap⟩,())) λz4=>L.call Pr ZZ [Sv6 z4.1] rL λ(x16:Sl)=>K (.slice x16.a x16.len x16.cap)
def To(p0:Option Addr)(p1:B0)(h:OK p0 p1 K w):CV Xj [.v (.pointer p0),.v (.string p1)] K w:=zF Tryz.f90 TA _ h
def pI:Ann:=(.q2 (.q2 (.q2 (.q2 (.seq (.q2 (.one [(29,eI6)] .auto) none) .auto none) none) none) none) none)
def KU(p0:Option Addr)(p1:Int)(K:Value→PT):PT:=
  L.nonnil p0 λa1=>L.load (.one (.map)) (a1.add 0) λ(x2:Option Nat)=>L.semR Pr (.tup [(.agg [.str,.ptr]),.one .bool]) (Instr.lookup Zf (.map x2) (I p1) true) λ(x3:z2A)=>L.new [.string s_,.pointer none] Xy λb4=>L.store (⟨b4,0,none⟩) [.string x3.1.1,.pointer x3.1.2.1]<|L.ite (!x3.2.1) (K (.tuple #[.slice none 0 0,I 6]))<|L.load eP6 (Ad6 b4 1) λ(x5:Option Addr)=>L.call Pr Uu [.pointer x5] (.tup [eL6,eI6]) λ(x6:Sl×Int×Unit)=>L.loop (Y:=Int×Unit) (0,()) λy7 again8=>L.ite (decide (y7.1<((x6.1.len:Nat):Int))) (L.idx x6.1.a y7.1 x6.1.len 1 λa9=>L.load eI6 a9 λ(x10:Int)=>L.nonnil p0 λa11=>L.load (.one (.map)) (a11.add 1) λ(x12:Option Nat)=>L.sem Pr (.tup []) (Builtin.delete_ #[Zn,zu] T_ #[.map x12,I x10]) λ_=>again8 (Wi (y7.1+1),()))<|L.call Pr xC [.pointer p0,I p1] (.tup []) λ(x13:Unit)=>K (.tuple #[Sv6 x6.1,I x6.2.1])
def pq(p0:Option Addr)(p1:Int)(h:KU p0 p1 K w):CV uA [.v (.pointer p0),.v (.int .i64 p1)] K w:=zF Tryz.f91 pI _ h
def Tz:Ann:=(.q2 (.q2 (.seq (.q2 (.one [(5,eL6),(11,eI6)] (.q2 (.q2 (.q2 .auto (some [(5,eL6)])) none) none)) none) .auto none) none) none)
def OJ(p0:Option Addr)(p1:Sl)(K:Value→PT):PT:=
  L.loop (Y:=Sl×Int×Unit) (⟨none,0,0⟩,0,()) λy1 again2=>L.ite (decide (y1.2.1<((p1.len:Nat):Int))) (L.join (Y:=Sl×Unit) (λk3=>L.idx p1.a y1.2.1 p1.len 1 λa5=>L.load eI6 a5 λ(x6:Int)=>L.nonnil p0 λa7=>L.load (.one (.map)) (a7.add 1) λ(x8:Option Nat)=>L.semR Pr (.one (.agg [.str,.int .i64])) (Instr.lookup yl (.map x8) (I x6) false) λ(x9:B0×Int×Unit)=>L.new [.string s_,I 0] Zz λb10=>L.store (⟨b10,0,none⟩) [.string x9.1,I x9.2.1]<|L.load (.agg [.str,.int .i64]) (⟨b10,0,none⟩) λ(x11:B0×Int×Unit)=>L.load eS6 (Ad6 b10 0) λ(x12:B0)=>L.chkSem Pr (do eqGuard .eql Zz (.tmp 0) (.tmp 0) (.agg #[.string x11.1,I x11.2.1]) (.agg #[.string x12,I 1]);binOp .eql Zz (.agg #[.string x11.1,I x11.2.1]) (.agg #[.string x12,I 1])) (.bool ((x11.1 == x12)&&((x11.2.1 == 1)&&true)))<|L.ite ((x11.1 == x12)&&((x11.2.1 == 1)&&true)) (L.draw<|L.load eS6 (Ad6 b10 0) λ(x13:B0)=>L.call Pr qN [.string vj] (.one (.agg [.int .i64,.int .i64,.int .i64,.str])) λ(x14:Kf)=>L.chk (Ad6 b10 0) [.string x13]<|L.call Pr yu [.pointer p0,I x6,.string x13,.agg #[I x14.1,I x14.2.1,I x14.2.2.1,.string x14.2.2.2.1]] (.one (.agg [.int .i64,.int .i64,.int .i64,.str])) λ(x15:Kf)=>L.new [I x15.1,I x15.2.1,I x15.2.2.1,.string x15.2.2.2.1] zA λb16=>L.sem Pr (.one (.one .slice)) (Builtin.append_ #[zI,zI] zI #[Sv6 y1.1,.slice (some ⟨b16,0,none⟩) 1 1]) λ(s17:Sl)=>k3 (⟨s17.a,s17.len,s17.cap⟩,()))<|k3 (⟨y1.1.a,y1.1.len,y1.1.cap⟩,())) λz4=>again2 (⟨z4.1.a,z4.1.len,z4.1.cap⟩,Wi (y1.2.1+1),()))<|L.call Pr ZZ [Sv6 y1.1] rL λ(x18:Sl)=>K (.slice x18.a x18.len x18.cap)
def Tn(p0:Option Addr)(p1:Sl)(h:OJ p0 p1 K w):CV Qt [.v (.pointer p0),.v (.slice p1.a p1.len p1.cap)] K w:=zF Tryz.f92 Tz _ h
def Ty:Ann:=(.q2 (.q2 (.seq (.q2 (.q2 (.q2 (.one [(20,eI6)] .auto) none) (some [(14,eS6),(15,eP6)])) none) .auto none) none) none)
def OH(p0:Option Addr)(p1:Int)(K:Value→PT):PT:=
  L.new [.pointer p0] JH λb1=>L.new [I p1] zu λb2=>L.new [.slice none 0 0] zI λb3=>L.load eP6 (⟨b1,0,none⟩) λ(x4:Option Addr)=>L.nonnil x4 λa5=>L.call Pr qO [.pointer (some (a5.add 2))] (.one (.one (.func))) λ(x6:FV)=>L.range Pr none (.func x6.fn x6.fs x6.cs) [eS6,eP6] (λl7(y8:B0×Option Addr×Unit) R9=>L.begin Pr l7<|L.load eI6 (⟨b2,0,none⟩) λ(x12:Int)=>L.call Pr vr [.pointer y8.2.1,I x12] rL λ(x13:Sl)=>L.loop (Y:=Int×Unit) (0,()) λy14 again15=>L.ite (decide (y14.1<((x13.len:Nat):Int))) (L.idx x13.a y14.1 x13.len 1 λa16=>L.load eI6 a16 λ(x17:Int)=>L.draw<|L.load eL6 (⟨b3,0,none⟩) λ(x18:Sl)=>L.load eP6 (⟨b1,0,none⟩) λ(x19:Option Addr)=>L.call Pr qN [.string kT] (.one (.agg [.int .i64,.int .i64,.int .i64,.str])) λ(x20:Kf)=>L.chk (⟨b1,0,none⟩) [.pointer x19]<|L.chk (⟨b3,0,none⟩) [Sv6 x18]<|L.call Pr yu [.pointer x19,I x17,.string y8.1,.agg #[I x20.1,I x20.2.1,I x20.2.2.1,.string x20.2.2.2.1]] (.one (.agg [.int .i64,.int .i64,.int .i64,.str])) λ(x21:Kf)=>L.chk (⟨b3,0,none⟩) [Sv6 x18]<|L.new [I x21.1,I x21.2.1,I x21.2.2.1,.string x21.2.2.2.1] zA λb22=>L.chk (⟨b3,0,none⟩) [Sv6 x18]<|L.sem Pr (.one (.one .slice)) (Builtin.append_ #[zI,zI] zI #[Sv6 x18,.slice (some ⟨b22,0,none⟩) 1 1]) λ(s23:Sl)=>L.store (⟨b3,0,none⟩) [Sv6 s23]<|again15 (Wi (y14.1+1),()))<|L.endRound Pr l7 none R9) λd10 j11=>L.jump j11 (L.load eL6 (⟨b3,0,none⟩) λ(x24:Sl)=>L.call Pr ZZ [Sv6 x24] rL λ(x25:Sl)=>L.unmark Pr (d10++[])<|K (.slice x25.a x25.len x25.cap)) (L.unmark Pr (d10++[])<|K (.slice none 0 0)) []
def Tl(p0:Option Addr)(p1:Int)(h:OH p0 p1 K w):CV vu [.v (.pointer p0),.v (.int .i64 p1)] K w:=zF Tryz.f93 Ty _ h
def xq(p0:Option Addr)(K:Value→PT):PT:=
  L.nonnil p0 λa1=>L.load eP6 (a1.add 1) λ(x2:Option Addr)=>L.call Pr vt [.pointer x2] rL λ(x3:Sl)=>K (.slice x3.a x3.len x3.cap)
def QG(p0:Option Addr)(h:xq p0 K w):CV ju [.v (.pointer p0)] K w:=zF Tryz.f94 .auto _ h
def oF(p0:Option Addr)(p1:Int)(K:Value→PT):PT:=
  L.nonnil p0 λa1=>L.call Pr qM [.pointer (some (a1.add 0)),I (if 0>p1 then 0 else p1)] (.tup []) λ(x2:Unit)=>L.nonnil p0 λa3=>L.load eI6 (a3.add 61) λ(x4:Int)=>L.nonnil p0 λa5=>L.store (a5.add 61) [I (Wi (x4+1))]<|L.ite (decide ((if 0>p1 then 0 else p1)>0)) (L.nonnil p0 λa6=>L.store (a6.add 61) [I 0]<|K (.tuple #[]))<|K (.tuple #[])
def PP(p0:Option Addr)(p1:Int)(h:oF p0 p1 K w):CV Uy [.v (.pointer p0),.v (.int .i64 p1)] K w:=zF Tryz.f95 .auto _ h
def OM(p0:Option Addr)(p1:B0)(K:Value→PT):PT:=
  L.call Pr XH [.pointer p0,.string p1] (.tup [eL6,eL6]) λ(x1:Sl×Sl×Unit)=>K (I (Wi (((x1.1.len:Nat):Int)+((x1.2.1.len:Nat):Int))))
def Tq(p0:Option Addr)(p1:B0)(h:OM p0 p1 K w):CV Qu [.v (.pointer p0),.v (.string p1)] K w:=zF Tryz.f96 .auto _ h
def Vp(p0:Option Addr)(p1:B0)(K:Value→PT):PT:=
  L.new [.string s_,I 0,I 0,I 0,I 0,I 0] zx λb1=>L.nonnil p0 λa2=>L.load eP6 (a2.add 0) λ(x3:Option Addr)=>L.call Pr Jz [.pointer x3,.string p1] (.tup [(.agg lf9),eB6]) λ(x4:z3s)=>L.new [.string s_,I 0,I 0,I 0,I 0,I 0,I 0,I 0,.bool false] zT λb5=>L.store (⟨b5,0,none⟩) [.string x4.1.1,I x4.1.2.1,I x4.1.2.2.1,I x4.1.2.2.2.1,I x4.1.2.2.2.2.1,I x4.1.2.2.2.2.2.1,I x4.1.2.2.2.2.2.2.1,I x4.1.2.2.2.2.2.2.2.1,.bool x4.1.2.2.2.2.2.2.2.2.1]<|L.ite (!x4.2.1) (L.store (⟨b1,0,none⟩) [.string s_,I 0,I 0,I 0,I 0,I 0]<|L.load (.agg lf0) (⟨b1,0,none⟩) λ(x6:pt0)=>K (.tuple #[(qa0 x6),I 0,I 0,.bool false]))<|L.draw<|L.load (.agg lf0) (Ad6 b5 0) λ(x7:pt0)=>L.load eI6 (Ad6 b5 6) λ(x8:Int)=>L.load eI6 (Ad6 b5 7) λ(x9:Int)=>L.store (⟨b1,0,none⟩) [.string x7.1,I x7.2.1,I x7.2.2.1,I x7.2.2.2.1,I x7.2.2.2.2.1,I x7.2.2.2.2.2.1]<|L.chk (Ad6 b5 7) [I x9]<|L.chk (Ad6 b5 6) [I x8]<|L.chk (Ad6 b5 7) [I x9]<|L.load (.agg lf0) (⟨b1,0,none⟩) λ(x10:pt0)=>K (.tuple #[(qa0 x10),I x8,I x9,.bool true])
def FB(p0:Option Addr)(p1:B0)(h:Vp p0 p1 K w):CV xA [.v (.pointer p0),.v (.string p1)] K w:=zF Tryz.f97 .auto _ h
def KF(p0:Option Addr)(p1:ht0)(p2:Int)(K:Value→PT):PT:=
  L.new [.string p1.1,I p1.2.1,I p1.2.2.1,I p1.2.2.2.1,I p1.2.2.2.2.1,I p1.2.2.2.2.2.1] zx λb1=>L.load eS6 (Ad6 b1 0) λ(x2:B0)=>L.call Pr ox [.string x2,I p2] rS λ(x3:B0)=>L.ite (x3.toList == s_.toList) (K (.tuple #[.string x3,.bool false]))<|L.nonnil p0 λa4=>L.load (.one (.map)) (a4.add 0) λ(x5:Option Nat)=>L.semR Pr (.one (.agg lf4)) (Instr.lookup zZ (.map x5) (.string x3) false) λ(x6:az)=>L.chkSem Pr (do eqGuard .neq zU (.tmp 0) (.tmp 0) ((qa3 x6)) (.agg #[.string s_,I 0,.string s_,I 0,I 0,I 0,I 0,I 0]);binOp .neq zU ((qa3 x6)) (.agg #[.string s_,I 0,.string s_,I 0,I 0,I 0,I 0,I 0])) (.bool (!((x6.1 == s_)&&((x6.2.1 == 0)&&((x6.2.2.1 == s_)&&((x6.2.2.2.1 == 0)&&((x6.2.2.2.2.1 == 0)&&((x6.2.2.2.2.2.1 == 0)&&((x6.2.2.2.2.2.2.1 == 0)&&((x6.2.2.2.2.2.2.2.1 == 0)&&true))))))))))<|L.ite (!((x6.1 == s_)&&((x6.2.1 == 0)&&((x6.2.2.1 == s_)&&((x6.2.2.2.1 == 0)&&((x6.2.2.2.2.1 == 0)&&((x6.2.2.2.2.2.1 == 0)&&((x6.2.2.2.2.2.2.1 == 0)&&((x6.2.2.2.2.2.2.2.1 == 0)&&true))))))))) (K (.tuple #[.string x3,.bool false]))<|L.draw<|L.nonnil p0 λa7=>L.load (.one (.map)) (a7.add 0) λ(x8:Option Nat)=>L.load (.agg lf0) (⟨b1,0,none⟩) λ(x9:pt0)=>L.semU Pr (Instr.mapUpdate zZ (.map x8) (.string x3) (.agg #[.string x3,I p2,.string x9.1,I x9.2.1,I x9.2.2.1,I x9.2.2.2.1,I x9.2.2.2.2.1,I x9.2.2.2.2.2.1]))<|K (.tuple #[.string x3,.bool true])
def pa(p0:Option Addr)(p1:ht0)(p2:Int)(h:KF p0 p1 p2 K w):CV uq [.v (.pointer p0),.ag (qc0 p1),.v (.int .i64 p2)] K w:=zF Tryz.f98 .auto _ h
def cF  (K:Value→PT):PT:=
  L.new [I 0,I 0,I 0,I 0,I 0,I 0,I 0,I 0,I 0,I 0,I 0,I 0,I 0,I 0,I 0,I 0,I 0,I 0,I 0,I 0,I 0,I 0,I 0,I 0,I 0,I 0,I 0,I 0,I 0,I 0,I 0,I 0,I 0,I 0,I 0,I 0,I 0,I 0,I 0,I 0,I 0,I 0,I 0,I 0,I 0,I 0,I 0,I 0,I 0,I 0,I 0,I 0,I 0,I 0,I 0,I 0,I 0,I 0,I 0,I 0,I 0,I 0] xQ λb1=>K (.pointer (some (⟨b1,0,none⟩)))
def rg(h:cF  K w):CV fM [] K w:=zF Tryz.f99 .auto _ h
def VY(p0:Option Addr)(p1:B0)(K:Value→PT):PT:=
  L.new [.string s_,.string s_,.slice none 0 0,I 0] Zb λb1=>L.nonnil p0 λa2=>L.load eP6 (a2.add 1) λ(x3:Option Addr)=>L.call Pr JX [.pointer x3,.string p1] (.tup [(.agg lV),eB6]) λ(x4:z3r)=>L.new [.string s_,.string s_,.slice none 0 0,I 0,I 0,I 0,.bool false] zY λb5=>L.store (⟨b5,0,none⟩) [.string x4.1.1,.string x4.1.2.1,Sv6 x4.1.2.2.1,I x4.1.2.2.2.1,I x4.1.2.2.2.2.1,I x4.1.2.2.2.2.2.1,.bool x4.1.2.2.2.2.2.2.1]<|L.ite (!x4.2.1) (L.store (⟨b1,0,none⟩) [.string s_,.string s_,.slice none 0 0,I 0]<|L.load (.agg [.str,.str,.slice,.int .i64]) (⟨b1,0,none⟩) λ(x6:pt3)=>K (.tuple #[.agg #[.string x6.1,.string x6.2.1,Sv6 x6.2.2.1,I x6.2.2.2.1],I 0,.bool false]))<|L.draw<|L.load (.agg [.str,.str,.slice,.int .i64]) (Ad6 b5 0) λ(x7:pt3)=>L.load eI6 (Ad6 b5 4) λ(x8:Int)=>L.call Pr ov [.agg #[.string x7.1,.string x7.2.1,Sv6 x7.2.2.1,I x7.2.2.2.1]] (.one (.agg [.str,.str,.slice,.int .i64])) λ(x9:pt3)=>L.chk (Ad6 b5 4) [I x8]<|L.store (⟨b1,0,none⟩) [.string x9.1,.string x9.2.1,Sv6 x9.2.2.1,I x9.2.2.2.1]<|L.chk (Ad6 b5 4) [I x8]<|L.load (.agg [.str,.str,.slice,.int .i64]) (⟨b1,0,none⟩) λ(x10:pt3)=>K (.tuple #[.agg #[.string x10.1,.string x10.2.1,Sv6 x10.2.2.1,I x10.2.2.2.1],I x8,.bool true])
def mE(p0:Option Addr)(p1:B0)(h:VY p0 p1 K w):CV Xb [.v (.pointer p0),.v (.string p1)] K w:=zF Tryz.f100 .auto _ h
def DN:Ann:=(.q2 (.q2 (.seq (.q2 (.one [(5,eI6),(22,eI6)] (.q2 (.q2 (.q2 .auto (some [(5,eI6)])) none) none)) none) (.q2 (.seq (.q2 (.q2 .auto (some [(53,eS6),(54,eI6)])) none) (.seq (.q2 (.q2 .auto (some [(67,eS6),(68,eS6)])) none) .auto none) none) none) none) none) none)
def Fj(p0:ht2)(p1:Option Addr)(K:Value→PT):PT:=
  L.new [.string p0.1,.string p0.2.1,Sv6 p0.2.2.1,I p0.2.2.2.1] Zb λb1=>L.new [.slice none 0 0,.slice none 0 0] zr λb2=>L.sem Pr (.one (.one .map)) (Instr.makeMap ZE none) λ(m3:Option Nat)=>L.sem Pr (.one (.one .map)) (Instr.makeMap Zj none) λ(m4:Option Nat)=>L.load eL6 (Ad6 b1 2) λ(x5:Sl)=>L.loop (Y:=Int×Int×Unit) (0,0,()) λy6 again7=>L.ite (decide (y6.2.1<((x5.len:Nat):Int))) (L.join (Y:=Int×Unit) (λk8=>L.idx x5.a y6.2.1 x5.len 3 λa10=>L.load (.agg [.str,.str,.int .i64]) a10 λ(x11:pt9)=>L.new [.string s_,.string s_,I 0] zH λb12=>L.store (⟨b12,0,none⟩) [.string x11.1,.string x11.2.1,I x11.2.2.1]<|L.load (.agg [.str,.str,.int .i64]) (⟨b12,0,none⟩) λ(x13:pt9)=>L.load (.agg [.str,.str,.slice,.int .i64]) (⟨b1,0,none⟩) λ(x14:pt3)=>L.call Pr oO [.agg #[.string x13.1,.string x13.2.1,I x13.2.2.1],.agg #[.string x14.1,.string x14.2.1,Sv6 x14.2.2.1,I x14.2.2.2.1],.pointer p1] (.tup [eS6,eI6]) λ(x15:B0×Int×Unit)=>L.ite (x15.2.1 != 0) (L.store (⟨b2,0,none⟩) [.slice none 0 0,.slice none 0 0]<|L.load (.agg [.slice,.slice]) (⟨b2,0,none⟩) λ(x16:Sl×Sl×Unit)=>K (.tuple #[.agg #[Sv6 x16.1,Sv6 x16.2.1],I x15.2.1]))<|L.semR Pr rI (Instr.lookup ZE (.map m3) (.string x15.1) false) λ(x17:Int)=>L.load eI6 (Ad6 b12 2) λ(x18:Int)=>L.semU Pr (Instr.mapUpdate ZE (.map m3) (.string x15.1) (I (Wi (x17+x18))))<|L.load eS6 (Ad6 b12 1) λ(x19:B0)=>L.ite (!(x19.toList == s_.toList)) (L.load eS6 (Ad6 b12 1) λ(x20:B0)=>L.semU Pr (Instr.mapUpdate Zj (.map m4) (.string x20) (.string x15.1))<|k8 (y6.1,()))<|k8 (y6.1,())) λz9=>again7 (z9.1,Wi (y6.2.1+1),()))<|L.new [.slice none 0 0,.slice none 0 0] zr λb21=>L.call Pr QC [.map m3] (.one (.one (.func))) λ(x22:FV)=>L.range Pr none (.func x22.fn x22.fs x22.cs) [eS6,eI6] (λl23(y24:B0×Int×Unit) R25=>L.begin Pr l23<|L.ite (decide (y24.2.1>0)) (L.load eL6 (Ad6 b21 0) λ(x28:Sl)=>L.new [.string y24.1,I y24.2.1] Zg λb29=>L.sem Pr (.one (.one .slice)) (Builtin.append_ #[Zl,Zl] Zl #[Sv6 x28,.slice (some ⟨b29,0,none⟩) 1 1]) λ(s30:Sl)=>L.store (Ad6 b21 0) [Sv6 s30]<|L.endRound Pr l23 none R25)<|L.endRound Pr l23 none R25) λd26 j27=>L.jump j27 (L.call Pr XU [.map m4] (.one (.one (.func))) λ(x31:FV)=>L.range Pr none (.func x31.fn x31.fs x31.cs) [eS6,eS6] (λl32(y33:B0×B0×Unit) R34=>L.begin Pr l32<|L.load eL6 (Ad6 b21 1) λ(x37:Sl)=>L.new [.string y33.1,.string y33.2.1] JI λb38=>L.sem Pr (.one (.one .slice)) (Builtin.append_ #[xN,xN] xN #[Sv6 x37,.slice (some ⟨b38,0,none⟩) 1 1]) λ(s39:Sl)=>L.store (Ad6 b21 1) [Sv6 s39]<|L.endRound Pr l32 none R34) λd35 j36=>L.jump j36 (L.load (.agg [.slice,.slice]) (⟨b21,0,none⟩) λ(x40:Sl×Sl×Unit)=>L.call Pr YK [.agg #[Sv6 x40.1,Sv6 x40.2.1]] (.one (.agg [.slice,.slice])) λ(x41:Sl×Sl×Unit)=>L.store (⟨b2,0,none⟩) [Sv6 x41.1,Sv6 x41.2.1]<|L.unmark Pr (d35++(d26++[]))<|L.load (.agg [.slice,.slice]) (⟨b2,0,none⟩) λ(x42:Sl×Sl×Unit)=>K (.tuple #[.agg #[Sv6 x42.1,Sv6 x42.2.1],I 0])) (L.unmark Pr (d35++(d26++[]))<|L.load (.agg [.slice,.slice]) (⟨b2,0,none⟩) λ(x43:Sl×Sl×Unit)=>K (.tuple #[.agg #[Sv6 x43.1,Sv6 x43.2.1],I y6.1])) []) (L.unmark Pr (d26++[])<|L.load (.agg [.slice,.slice]) (⟨b2,0,none⟩) λ(x44:Sl×Sl×Unit)=>K (.tuple #[.agg #[Sv6 x44.1,Sv6 x44.2.1],I y6.1])) []
def DG(p0:ht2)(p1:Option Addr)(h:Fj p0 p1 K w):CV Uw [.ag (qc2 p0),.v (.pointer p1)] K w:=zF Tryz.f101 DN _ h
def Wz:Ann:=(.q2 (.q2 (.q2 (.seq (.q2 (.one [(5,eL6),(17,eI6)] .auto) none) (.seq (.q2 (.one [(5,eL6),(33,eI6)] .auto) none) .auto none) none) none) none) none)
def Pz(p0:HT [.slice,.slice])(K:Value→PT):PT:=
  L.new [Sv6 p0.1,Sv6 p0.2.1] zr λb1=>L.load (.agg [.slice,.slice]) (⟨b1,0,none⟩) λ(x2:Sl×Sl×Unit)=>L.call Pr oJ [.agg #[Sv6 x2.1,Sv6 x2.2.1]] (.tup [eL6,eL6]) λ(x3:Sl×Sl×Unit)=>L.loop (Y:=Sl×Int×Unit) (⟨none,0,0⟩,0,()) λy4 again5=>L.ite (decide (y4.2.1<((x3.1.len:Nat):Int))) (L.idx x3.1.a y4.2.1 x3.1.len 2 λa6=>L.load (.agg [.str,.str]) a6 λ(x7:B0×B0×Unit)=>L.new [.string s_,.string s_] JC λb8=>L.store (⟨b8,0,none⟩) [.string x7.1,.string x7.2.1]<|L.idx (some (⟨b8,0,none⟩)) 0 2 1 λa9=>L.load eS6 a9 λ(x10:B0)=>L.guard (((x10.size+Oj.size:Nat):Int)≤UB)<|L.idx (some (⟨b8,0,none⟩)) 1 2 1 λa11=>L.load eS6 a11 λ(x12:B0)=>L.guard ((((x10++Oj).size+x12.size:Nat):Int)≤UB)<|L.new [.string ((x10++Oj)++x12)] zc λb13=>L.sem Pr (.one (.one .slice)) (Builtin.append_ #[zj,zj] zj #[Sv6 y4.1,.slice (some ⟨b13,0,none⟩) 1 1]) λ(s14:Sl)=>again5 (⟨s14.a,s14.len,s14.cap⟩,Wi (y4.2.1+1),()))<|L.loop (Y:=Sl×Int×Unit) (⟨y4.1.a,y4.1.len,y4.1.cap⟩,0,()) λy15 again16=>L.ite (decide (y15.2.1<((x3.2.1.len:Nat):Int))) (L.idx x3.2.1.a y15.2.1 x3.2.1.len 2 λa17=>L.load (.agg [.str,.str]) a17 λ(x18:B0×B0×Unit)=>L.new [.string s_,.string s_] JC λb19=>L.store (⟨b19,0,none⟩) [.string x18.1,.string x18.2.1]<|L.idx (some (⟨b19,0,none⟩)) 0 2 1 λa20=>L.load eS6 a20 λ(x21:B0)=>L.guard (((x21.size+Oi.size:Nat):Int)≤UB)<|L.idx (some (⟨b19,0,none⟩)) 1 2 1 λa22=>L.load eS6 a22 λ(x23:B0)=>L.guard ((((x21++Oi).size+x23.size:Nat):Int)≤UB)<|L.new [.string ((x21++Oi)++x23)] zc λb24=>L.sem Pr (.one (.one .slice)) (Builtin.append_ #[zj,zj] zj #[Sv6 y15.1,.slice (some ⟨b24,0,none⟩) 1 1]) λ(s25:Sl)=>again16 (⟨s25.a,s25.len,s25.cap⟩,Wi (y15.2.1+1),()))<|L.call Pr Us [Sv6 y15.1,.string Ol] rS λ(x26:B0)=>K (.string x26)
def Wk(p0:HT [.slice,.slice])(h:Pz p0 K w):CV gF [.ag [.slice p0.1.a p0.1.len p0.1.cap,.slice p0.2.1.a p0.2.1.len p0.2.1.cap]] K w:=zF Tryz.f102 Wz _ h
def py:Ann:=(.q2 (.q2 (.q2 .auto (some [])) none) none)
def KL(p0:Option Addr)(p1:B0)(p2:HT [.slice,.slice])(p3 p4:Int)(K:Value→PT):PT:=
  L.new [Sv6 p2.1,Sv6 p2.2.1] zr λb1=>L.new [.slice none 0 0,.slice none 0 0] zr λb2=>L.nonnil p0 λa3=>L.load (.one (.map)) (a3.add 0) λ(x4:Option Nat)=>L.semR Pr (.tup [(.agg HO),.one .bool]) (Instr.lookup YA (.map x4) (.string p1) true) λ(x5:z2z)=>L.new [.slice none 0 0,.slice none 0 0,I 0,I 0,.slice none 0 0,.slice none 0 0] Yu λb6=>L.store (⟨b6,0,none⟩) [Sv6 x5.1.1,Sv6 x5.1.2.1,I x5.1.2.2.1,I x5.1.2.2.2.1,Sv6 x5.1.2.2.2.2.1,Sv6 x5.1.2.2.2.2.2.1]<|L.join (Y:=Unit) (λk7=>L.ite (!x5.2.1) (L.draw<|L.load (.agg [.slice,.slice]) (⟨b1,0,none⟩) λ(x9:Sl×Sl×Unit)=>L.load (.agg [.slice,.slice]) (⟨b1,0,none⟩) λ(x10:Sl×Sl×Unit)=>L.call Pr YK [.agg #[Sv6 x9.1,Sv6 x9.2.1]] (.one (.agg [.slice,.slice])) λ(x11:Sl×Sl×Unit)=>L.chk (⟨b1,0,none⟩) [Sv6 x10.1,Sv6 x10.2.1]<|L.call Pr YK [.agg #[Sv6 x10.1,Sv6 x10.2.1]] (.one (.agg [.slice,.slice])) λ(x12:Sl×Sl×Unit)=>L.store (⟨b6,0,none⟩) [Sv6 x11.1,Sv6 x12.1,I p3,I p4,.slice none 0 0,.slice none 0 0]<|k7 (()))<|L.load eL6 (Ad6 b6 1) λ(x13:Sl)=>L.load eL6 (Ad6 b1 0) λ(x14:Sl)=>L.call Pr yM [Sv6 x13,Sv6 x14] rB λ(x15:Bool)=>L.ite (!x15) (L.draw<|L.load eL6 ((Ad6 b6 4).add 0) λ(x16:Sl)=>L.load (.agg [.slice,.slice]) (⟨b1,0,none⟩) λ(x17:Sl×Sl×Unit)=>L.call Pr YK [.agg #[Sv6 x17.1,Sv6 x17.2.1]] (.one (.agg [.slice,.slice])) λ(x18:Sl×Sl×Unit)=>L.chk ((Ad6 b6 4).add 0) [Sv6 x16]<|L.store (⟨b6,0,none⟩) [Sv6 x16,Sv6 x18.1,I p3,I p4,.slice none 0 0,.slice none 0 0]<|k7 (()))<|L.load eI6 (Ad6 b6 3) λ(x19:Int)=>L.ite (x19 != p4) (L.draw<|L.load eL6 ((Ad6 b6 4).add 0) λ(x20:Sl)=>L.load (.agg [.slice,.slice]) (⟨b1,0,none⟩) λ(x21:Sl×Sl×Unit)=>L.call Pr YK [.agg #[Sv6 x21.1,Sv6 x21.2.1]] (.one (.agg [.slice,.slice])) λ(x22:Sl×Sl×Unit)=>L.chk ((Ad6 b6 4).add 0) [Sv6 x20]<|L.store (⟨b6,0,none⟩) [Sv6 x20,Sv6 x22.1,I p3,I p4,.slice none 0 0,.slice none 0 0]<|k7 (()))<|k7 (())) λz8=>L.draw<|L.load eL6 (Ad6 b6 0) λ(x23:Sl)=>L.load eL6 (Ad6 b6 1) λ(x24:Sl)=>L.load eI6 (Ad6 b6 2) λ(x25:Int)=>L.load (.agg [.slice,.slice]) (⟨b1,0,none⟩) λ(x26:Sl×Sl×Unit)=>L.call Pr oN [Sv6 x23,Sv6 x24,I (Wi (p3-x25)),I p4] rL λ(x27:Sl)=>L.chk (⟨b1,0,none⟩) [Sv6 x26.1,Sv6 x26.2.1]<|L.call Pr YK [.agg #[Sv6 x26.1,Sv6 x26.2.1]] (.one (.agg [.slice,.slice])) λ(x28:Sl×Sl×Unit)=>L.store (Ad6 b6 4) [Sv6 x27,Sv6 x28.2.1]<|L.draw<|L.nonnil p0 λa29=>L.load (.one (.map)) (a29.add 0) λ(x30:Option Nat)=>L.load (.agg HO) (⟨b6,0,none⟩) λ(x31:z2y)=>L.semU Pr (Instr.mapUpdate YA (.map x30) (.string p1) ((qa4 x31)))<|L.load (.agg [.slice,.slice]) (Ad6 b6 4) λ(x32:Sl×Sl×Unit)=>L.call Pr YK [.agg #[Sv6 x32.1,Sv6 x32.2.1]] (.one (.agg [.slice,.slice])) λ(x33:Sl×Sl×Unit)=>L.store (⟨b2,0,none⟩) [Sv6 x33.1,Sv6 x33.2.1]<|L.load (.agg [.slice,.slice]) (⟨b2,0,none⟩) λ(x34:Sl×Sl×Unit)=>K (.agg #[Sv6 x34.1,Sv6 x34.2.1])
def pf(p0:Option Addr)(p1:B0)(p2:HT [.slice,.slice])(p3 p4:Int)(h:KL p0 p1 p2 p3 p4 K w):CV uu [.v (.pointer p0),.v (.string p1),.ag [.slice p2.1.a p2.1.len p2.1.cap,.slice p2.2.1.a p2.2.1.len p2.2.1.cap],.v (.int .i64 p3),.v (.int .i64 p4)] K w:=zF Tryz.f103 py _ h
def OE(p0:Option Addr)(p1:B0)(K:Value→PT):PT:=
  L.new [.string s_,I 0,.string s_,I 0,I 0,I 0,I 0,I 0] zU λb1=>L.nonnil p0 λa2=>L.load (.one (.map)) (a2.add 0) λ(x3:Option Nat)=>L.semR Pr (.tup [(.agg lf4),.one .bool]) (Instr.lookup zZ (.map x3) (.string p1) true) λ(x4:pt6)=>L.new [.string s_,I 0,.string s_,I 0,I 0,I 0,I 0,I 0] zU λb5=>L.store (⟨b5,0,none⟩) [.string x4.1.1,I x4.1.2.1,.string x4.1.2.2.1,I x4.1.2.2.2.1,I x4.1.2.2.2.2.1,I x4.1.2.2.2.2.2.1,I x4.1.2.2.2.2.2.2.1,I x4.1.2.2.2.2.2.2.2.1]<|L.load (.agg lf4) (⟨b5,0,none⟩) λ(x6:az)=>L.store (⟨b1,0,none⟩) [.string x6.1,I x6.2.1,.string x6.2.2.1,I x6.2.2.2.1,I x6.2.2.2.2.1,I x6.2.2.2.2.2.1,I x6.2.2.2.2.2.2.1,I x6.2.2.2.2.2.2.2.1]<|L.load (.agg lf4) (⟨b1,0,none⟩) λ(x7:az)=>K (.tuple #[(qa3 x7),.bool x4.2.1])
def Tg(p0:Option Addr)(p1:B0)(h:OE p0 p1 K w):CV jF [.v (.pointer p0),.v (.string p1)] K w:=zF Tryz.f104 .auto _ h
def fh:Ann:=(.q2 (.q2 (.seq (.q2 (.one [(7,eI6),(14,eI6)] (.q2 (.q2 (.q2 .auto (some [(7,eI6)])) none) none)) none) .auto none) none) none)
def UV(p0:Option Addr)(p1:B0)(p2:FV)(K:Value→PT):PT:=
  L.call Pr xz [.pointer p0,.string p1] rL λ(x1:Sl)=>L.loop (Y:=Int×Int×Unit) (0,0,()) λy2 again3=>L.ite (decide (y2.2.1<((x1.len:Nat):Int))) (L.join (Y:=Int×Unit) (λk4=>L.idx x1.a y2.2.1 x1.len 3 λa6=>L.load (.agg [.int .i64,.int .i64,.int .i64]) a6 λ(x7:Int×Int×Int×Unit)=>L.new [I 0,I 0,I 0] JD λb8=>L.store (⟨b8,0,none⟩) [I x7.1,I x7.2.1,I x7.2.2.1]<|L.load eI6 (Ad6 b8 1) λ(x9:Int)=>L.callV Pr (.func p2.fn p2.fs p2.cs) [I x9] rB λ(x10:Bool)=>L.ite x10 (k4 (Wi (y2.1+1),()))<|k4 (y2.1,())) λz5=>again3 (z5.1,Wi (y2.2.1+1),()))<|K (I y2.1)
def GW(p0:Option Addr)(p1:B0)(p2:FV)(h:UV p0 p1 p2 K w):CV xl [.v (.pointer p0),.v (.string p1),.v (.func p2.fn p2.fs p2.cs)] K w:=zF Tryz.f105 fh _ h
def uZ(p0:Int)(K:Value→PT):PT:=
  K (.bool (p0 == 2))
def OU(p0:Int)(h:uZ p0 K w):CV Ja [.v (.int .i64 p0)] K w:=zF Tryz.f106 .auto _ h
def OS:ZV Pr Ja:=zM (by kernel_rfl)
def pz:Ann:=(.q2 (.seq (.q2 (.q2 .auto (some [(11,eI6)])) none) .auto none) none)
def KM(p0:Option Addr)(p1:Int)(K:Value→PT):PT:=
  L.new [I p1] zu λb1=>L.new [I 0] zu λb2=>L.new [I 0] zu λb3=>L.nonnil p0 λa4=>L.call Pr ql [.pointer (some (a4.add 0))] (.one (.one (.func))) λ(x5:FV)=>L.range Pr none (.func x5.fn x5.fs x5.cs) [eI6] (λl6(y7:Int×Unit) R8=>L.begin Pr l6<|L.load eI6 (⟨b3,0,none⟩) λ(x11:Int)=>L.load eI6 (⟨b1,0,none⟩) λ(x12:Int)=>L.ite (decide (x11≥x12)) (L.endRound Pr l6 (some (.exit 0)) R8)<|L.load eI6 (⟨b2,0,none⟩) λ(x13:Int)=>L.store (⟨b2,0,none⟩) [I (Wi (x13+y7.1))]<|L.load eI6 (⟨b3,0,none⟩) λ(x14:Int)=>L.store (⟨b3,0,none⟩) [I (Wi (x14+1))]<|L.endRound Pr l6 none R8) λd9 j10=>L.jump j10 (L.draw<|L.load eI6 (⟨b2,0,none⟩) λ(x19:Int)=>L.load eI6 (⟨b3,0,none⟩) λ(x20:Int)=>L.store (⟨b2,0,none⟩) [I x19]<|L.chk (⟨b3,0,none⟩) [I x20]<|L.store (⟨b3,0,none⟩) [I x20]<|L.unmark Pr (d9++[])<|L.load eI6 (⟨b2,0,none⟩) λ(x21:Int)=>L.load eI6 (⟨b3,0,none⟩) λ(x22:Int)=>K (.tuple #[I x21,I x22])) (L.unmark Pr (d9++[])<|L.load eI6 (⟨b2,0,none⟩) λ(x23:Int)=>L.load eI6 (⟨b3,0,none⟩) λ(x24:Int)=>K (.tuple #[I x23,I x24])) [(0,(L.draw<|L.load eI6 (⟨b2,0,none⟩) λ(x15:Int)=>L.load eI6 (⟨b3,0,none⟩) λ(x16:Int)=>L.store (⟨b2,0,none⟩) [I x15]<|L.chk (⟨b3,0,none⟩) [I x16]<|L.store (⟨b3,0,none⟩) [I x16]<|L.unmark Pr (d9++[])<|L.load eI6 (⟨b2,0,none⟩) λ(x17:Int)=>L.load eI6 (⟨b3,0,none⟩) λ(x18:Int)=>K (.tuple #[I x17,I x18])))]
def pg(p0:Option Addr)(p1:Int)(h:KM p0 p1 K w):CV XG [.v (.pointer p0),.v (.int .i64 p1)] K w:=zF Tryz.f107 pz _ h
def DL:Ann:=(.q2 (.seq (.one [(19,(.one (.adr)))] .auto) (.q2 (.seq (.one [(21,(.one (.adr)))] .auto) (.q2 (.seq (.q2 (.cond .auto .auto) none) .auto (some [])) (some [])) none) none) none) none)
def Ff(p0:HT [.int .i64,.int .i64])(p1:ht0)(p2 p3 p4 p5 p6 p7 p8:Int)(K:Value→PT):PT:=
  L.new [I p0.1,I p0.2.1] ZW λb1=>L.new [.string p1.1,I p1.2.1,I p1.2.2.1,I p1.2.2.2.1,I p1.2.2.2.2.1,I p1.2.2.2.2.2.1] zx λb2=>L.new [I 0,I 0] ZW λb3=>L.join (Y:=Addr×Unit) (λk4=>L.draw<|L.load eI6 (Ad6 b2 2) λ(x6:Int)=>L.load eI6 (Ad6 b2 2) λ(x7:Int)=>L.alts [(L.call Pr XD [I p4,I p5,I x6] rI λ(x8:Int)=>L.chk (Ad6 b2 2) [I x7]<|L.alts [(L.call Pr XD [I p6,I p7,I x7] rI λ(x9:Int)=>L.new [I 0,I 0] oC λb10=>L.chk (Ad6 b2 2) [I x7]<|L.chk (Ad6 b2 2) [I x6]<|L.store (⟨b10,0,none⟩) [I x8,I x9]<|k4 (⟨b10,0,none⟩,())),(L.new [I 0,I 0] oC λb11=>L.chk (Ad6 b2 2) [I x7]<|L.chk (Ad6 b2 2) [I x6]<|L.call Pr XD [I p6,I p7,I x7] rI λ(x12:Int)=>L.store (⟨b11,0,none⟩) [I x8,I x12]<|k4 (⟨b11,0,none⟩,()))]),(L.new [I 0,I 0] oC λb13=>L.chk (Ad6 b2 2) [I x7]<|L.chk (Ad6 b2 2) [I x6]<|L.call Pr XD [I p4,I p5,I x6] rI λ(x14:Int)=>L.chk (Ad6 b2 2) [I x7]<|L.call Pr XD [I p6,I p7,I x7] rI λ(x15:Int)=>L.store (⟨b13,0,none⟩) [I x14,I x15]<|k4 (⟨b13,0,none⟩,()))]) λz5=>L.join (Y:=Addr×Unit) (λk16=>L.draw<|L.idx (some z5.1) 0 2 1 λa18=>L.load eI6 a18 λ(x19:Int)=>L.load (.agg [.int .i64,.int .i64]) (⟨b1,0,none⟩) λ(x20:Int×Int×Unit)=>L.idx (some z5.1) 1 2 1 λa21=>L.load eI6 a21 λ(x22:Int)=>L.alts [(L.call Pr xn [.agg #[I x20.1,I x20.2.1],I x22,I (if p2>1 then p2 else 1)] rI λ(x23:Int)=>L.chk a18 [I x19]<|L.new [I 0,I 0] ZW λb24=>L.chk a21 [I x22]<|L.chk (⟨b1,0,none⟩) [I x20.1,I x20.2.1]<|L.chk a18 [I x19]<|L.store (⟨b24,0,none⟩) [I x19,I x23]<|k16 (⟨b24,0,none⟩,())),(L.new [I 0,I 0] ZW λb25=>L.chk a21 [I x22]<|L.chk (⟨b1,0,none⟩) [I x20.1,I x20.2.1]<|L.chk a18 [I x19]<|L.call Pr xn [.agg #[I x20.1,I x20.2.1],I x22,I (if p2>1 then p2 else 1)] rI λ(x26:Int)=>L.chk a18 [I x19]<|L.store (⟨b25,0,none⟩) [I x19,I x26]<|k16 (⟨b25,0,none⟩,()))]) λz17=>L.join (Y:=Unit) (λk27=>L.load eI6 (z17.1.add 1) λ(x29:Int)=>L.ite (decide (x29>0)) (L.load (.agg [.int .i64,.int .i64]) (⟨b1,0,none⟩) λ(x30:Int×Int×Unit)=>L.load (.agg [.int .i64,.int .i64]) z5.1 λ(x31:Int×Int×Unit)=>L.call Pr ut [.agg #[I x30.1,I x30.2.1],.agg #[I x31.1,I x31.2.1]] rI λ(x32:Int)=>L.store (z17.1.add 0) [I x32]<|k27 (()))<|k27 (())) λz28=>L.join (Y:=Unit) (λk33=>L.load eI6 (z17.1.add 0) λ(x35:Int)=>L.ite (x35 == 0) (L.ite (decide (p3>0)) (L.store (z17.1.add 0) [I 1]<|k33 (()))<|L.load eI6 (Ad6 b1 0) λ(x36:Int)=>L.ite (decide (x36>0)) (L.load eI6 (Ad6 b2 5) λ(x37:Int)=>L.ite (decide (p8<x37)) (L.store (z17.1.add 0) [I 1]<|k33 (()))<|k33 (()))<|k33 (()))<|k33 (())) λz34=>L.load (.agg lf0) (⟨b2,0,none⟩) λ(x38:pt0)=>L.call Pr Kh [(qa0 x38),I p2,I (if p2>1 then p2 else 1)] (.one (.agg [.int .i64,.int .i64,.int .i64,.int .i64])) λ(x39:Int×Int×Int×Int×Unit)=>L.new [I 0,I 0,I 0,I 0] BB λb40=>L.store (⟨b40,0,none⟩) [I x39.1,I x39.2.1,I x39.2.2.1,I x39.2.2.2.1]<|L.load eI6 (z17.1.add 0) λ(x41:Int)=>L.idx (some (⟨b40,0,none⟩)) 0 4 1 λa42=>L.load eI6 a42 λ(x43:Int)=>L.idx (some (⟨b40,0,none⟩)) 1 4 1 λa44=>L.load eI6 a44 λ(x45:Int)=>L.idx (some (⟨b40,0,none⟩)) 2 4 1 λa46=>L.load eI6 a46 λ(x47:Int)=>L.idx (some (⟨b40,0,none⟩)) 3 4 1 λa48=>L.load eI6 a48 λ(x49:Int)=>L.store (z17.1.add 0) [I (if x49<(if x47>(if x45>(if x43<x41 then x43 else x41)then x45 else(if x43<x41 then x43 else x41))then x47 else(if x45>(if x43<x41 then x43 else x41)then x45 else(if x43<x41 then x43 else x41)))then x49 else(if x47>(if x45>(if x43<x41 then x43 else x41)then x45 else(if x43<x41 then x43 else x41))then x47 else(if x45>(if x43<x41 then x43 else x41)then x45 else(if x43<x41 then x43 else x41))))]<|L.load (.agg [.int .i64,.int .i64]) z17.1 λ(x50:Int×Int×Unit)=>L.store (⟨b3,0,none⟩) [I x50.1,I x50.2.1]<|L.load (.agg [.int .i64,.int .i64]) (⟨b3,0,none⟩) λ(x51:Int×Int×Unit)=>K (.agg #[I x51.1,I x51.2.1])
def DC(p0:HT [.int .i64,.int .i64])(p1:ht0)(p2 p3 p4 p5 p6 p7 p8:Int)(h:Ff p0 p1 p2 p3 p4 p5 p6 p7 p8 K w):CV Ki [.ag [.int .i64 p0.1,.int .i64 p0.2.1],.ag (qc0 p1),.v (.int .i64 p2),.v (.int .i64 p3),.v (.int .i64 p4),.v (.int .i64 p5),.v (.int .i64 p6),.v (.int .i64 p7),.v (.int .i64 p8)] K w:=zF Tryz.f108 DL _ h
def KN(p0:Option Addr)(K:Value→PT):PT:=
  L.nonnil p0 λa1=>L.load eI6 (a1.add 61) λ(x2:Int)=>K (I x2)
def ph(p0:Option Addr)(h:KN p0 K w):CV uv [.v (.pointer p0)] K w:=zF Tryz.f109 .auto _ h
def mP:Ann:=(.q2 (.q2 (.seq (.one [(8,eL6),(10,eI6)] (.seq (.q2 (.cond .auto .auto) none) .auto none)) (.seq (.one [(9,eL6),(10,eI6)] .auto) .auto none) (some [(8,eL6),(10,eI6)])) none) none)
def kc(p0:Option Addr)(p1:B0)(p2 p3:Int)(K:Value→PT):PT:=
  L.call Pr vy [.pointer p0,.string p1] rI λ(x1:Int)=>L.join (Y:=Sl×Int×Unit) (λk2=>L.loop (Y:=Sl×Int×Unit) (⟨none,0,0⟩,x1,()) λy4 again5=>L.draw<|L.ite (decide (y4.2.1<p3)) (L.nonnil p0 λa6=>L.load (.one (.map)) (a6.add 0) λ(x7:Option Nat)=>L.semR Pr rI (Builtin.len_ #[Zf] zu #[.map x7]) λ(x8:Int)=>L.nonnil p0 λa9=>L.load eI6 (a9.add 2) λ(x10:Int)=>L.ite (decide (x8<x10)) (L.nonnil p0 λa11=>L.load eI6 (a11.add 3) λ(x12:Int)=>L.nonnil p0 λa13=>L.store (a13.add 3) [I (Wi (x12+1))]<|L.draw<|L.nonnil p0 λa14=>L.load (.one (.map)) (a14.add 0) λ(x15:Option Nat)=>L.nonnil p0 λa16=>L.load eI6 (a16.add 3) λ(x17:Int)=>L.call Pr tt [I p2] rP λ(x18:Option Addr)=>L.chk (a16.add 3) [I x17]<|L.chk (a14.add 0) [.map x15]<|L.semU Pr (Instr.mapUpdate Zf (.map x15) (I x17) (.agg #[.string p1,.pointer x18]))<|L.nonnil p0 λa19=>L.load eI6 (a19.add 3) λ(x20:Int)=>L.new [I x20] zu λb21=>L.sem Pr (.one (.one .slice)) (Builtin.append_ #[ZO,ZO] ZO #[Sv6 y4.1,.slice (some ⟨b21,0,none⟩) 1 1]) λ(s22:Sl)=>again5 (⟨s22.a,s22.len,s22.cap⟩,Wi (y4.2.1+1),()))<|k2 (⟨y4.1.a,y4.1.len,y4.1.cap⟩,y4.2.1,()))<|k2 (⟨y4.1.a,y4.1.len,y4.1.cap⟩,y4.2.1,())) λz3=>L.loop (Y:=Sl×Int×Unit) (⟨none,0,0⟩,z3.2.1,()) λy23 again24=>L.ite (decide (y23.2.1>(if 0>p3 then 0 else p3))) (L.call Pr QL [.pointer p0,.string p1] rI λ(x25:Int)=>L.nonnil p0 λa26=>L.load (.one (.map)) (a26.add 0) λ(x27:Option Nat)=>L.semR Pr (.one (.agg [.str,.ptr])) (Instr.lookup Zf (.map x27) (I x25) false) λ(x28:B0×Option Addr×Unit)=>L.call Pr VA [.pointer x28.2.1] rI λ(x29:Int)=>L.call Pr xC [.pointer p0,I x25] (.tup []) λ(x30:Unit)=>L.new [I x25] zu λb31=>L.sem Pr (.one (.one .slice)) (Builtin.append_ #[ZO,ZO] ZO #[Sv6 y23.1,.slice (some ⟨b31,0,none⟩) 1 1]) λ(s32:Sl)=>again24 (⟨s32.a,s32.len,s32.cap⟩,Wi (y23.2.1-1),()))<|L.call Pr ZT [Sv6 z3.1] rL λ(x33:Sl)=>L.call Pr ZT [Sv6 y23.1] rL λ(x34:Sl)=>K (.tuple #[Sv6 x33,Sv6 x34])
def mH(p0:Option Addr)(p1:B0)(p2 p3:Int)(h:kc p0 p1 p2 p3 K w):CV QM [.v (.pointer p0),.v (.string p1),.v (.int .i64 p2),.v (.int .i64 p3)] K w:=zF Tryz.f110 mP _ h
def UF(p0:Int)(K:Value→PT):PT:=
  K (.bool (p0 != 3))
def gZ(p0:Int)(h:UF p0 K w):CV Jt [.v (.int .i64 p0)] K w:=zF Tryz.f111 .auto _ h
def gW:ZV Pr Jt:=zM (by kernel_rfl)
def Cf:Ann:=(.q2 (.q2 (.seq (.q2 (.q2 .auto (some [(12,eI6),(13,eI6)])) none) .auto none) none) none)
def Gw(p0:Option Addr)(K:Value→PT):PT:=
  L.call Pr XT [.pointer p0] rI λ(x1:Int)=>L.sem Pr (.one (.one .slice)) (Instr.makeSlice ZO (I 0) (I x1)) λ(s2:Sl)=>L.new [.slice none 0 0] ZO λb3=>L.store (⟨b3,0,none⟩) [Sv6 s2]<|L.nonnil p0 λa4=>L.call Pr jl [.pointer (some (a4.add 0))] (.one (.one (.func))) λ(x5:FV)=>L.range Pr none (.func x5.fn x5.fs x5.cs) [eI6,eI6] (λl6(y7:Int×Int×Unit) R8=>L.begin Pr l6<|L.load eL6 (⟨b3,0,none⟩) λ(x11:Sl)=>L.new [I y7.1] zu λb12=>L.sem Pr (.one (.one .slice)) (Builtin.append_ #[ZO,ZO] ZO #[Sv6 x11,.slice (some ⟨b12,0,none⟩) 1 1]) λ(s13:Sl)=>L.store (⟨b3,0,none⟩) [Sv6 s13]<|L.endRound Pr l6 none R8) λd9 j10=>L.jump j10 (L.load eL6 (⟨b3,0,none⟩) λ(x14:Sl)=>L.unmark Pr (d9++[])<|K (.slice x14.a x14.len x14.cap)) (L.unmark Pr (d9++[])<|K (.slice none 0 0)) []
def cU(p0:Option Addr)(h:Gw p0 K w):CV ug [.v (.pointer p0)] K w:=zF Tryz.f113 Cf _ h
def XP(p0:Sl)(K:Value→PT):PT:=
  L.ite ((p0.a).isNone) (K (.slice none 0 0))<|L.new [] zu λb1=>L.sem Pr (.one (.one .slice)) (Builtin.append_ #[ZO,ZO] ZO #[.slice (some ⟨b1,0,none⟩) 0 0,Sv6 p0]) λ(s2:Sl)=>K (.slice s2.a s2.len s2.cap)
def UN(p0:Sl)(h:XP p0 K w):CV ZT [.v (.slice p0.a p0.len p0.cap)] K w:=zF Tryz.f114 .auto _ h
def OO(p0:Option Addr)(p1:B0)(K:Value→PT):PT:=
  L.new [.pointer p0] ZJ λb1=>L.new [.string p1] zc λb2=>K (.func (.func JY) #[] #[.pointer (some (⟨b1,0,none⟩)),.pointer (some (⟨b2,0,none⟩))])
def Tt(p0:Option Addr)(p1:B0)(h:OO p0 p1 K w):CV JN [.v (.pointer p0),.v (.string p1)] K w:=zF Tryz.f115 .auto _ h
def Gy(p0:Option Addr)(K:Value→PT):PT:=
  L.nonnil p0 λa1=>L.load eI6 (a1.add 0) λ(x2:Int)=>K (I x2)
def cX(p0:Option Addr)(h:Gy p0 K w):CV yO [.v (.pointer p0)] K w:=zF Tryz.f116 .auto _ h
def KK(p0:Option Addr)(K:Value→PT):PT:=
  L.nonnil p0 λa1=>L.load (.one (.map)) ((a1.add 1).add 0) λ(x2:Option Nat)=>L.semR Pr rI (Builtin.len_ #[Ye] zu #[.map x2]) λ(x3:Int)=>K (I x3)
def FC(p0:Option Addr)(h:KK p0 K w):CV je [.v (.pointer p0)] K w:=zF Tryz.f117 .auto _ h
def Jq(p0:Sl)(K:Value→PT):PT:=
  L.ite ((p0.a).isNone) (K (.slice none 0 0))<|L.new [] JD λb1=>L.sem Pr (.one (.one .slice)) (Builtin.append_ #[yR,yR] yR #[.slice (some ⟨b1,0,none⟩) 0 0,Sv6 p0]) λ(s2:Sl)=>K (.slice s2.a s2.len s2.cap)
def QQ(p0:Sl)(h:Jq p0 K w):CV Yr [.v (.slice p0.a p0.len p0.cap)] K w:=zF Tryz.f118 .auto _ h
def oW(p0:Option Addr)(K:Value→PT):PT:=
  L.new [.pointer p0] zD λb1=>L.new [.func (.func Ji) #[] #[],.func (.func Jh) #[] #[],.func (.func Jg) #[] #[.pointer (some (⟨b1,0,none⟩))],.func (.func Je) #[] #[.pointer (some (⟨b1,0,none⟩))]] QE λb2=>L.new [.slice none 0 0] zJ λb3=>L.store (⟨b3,0,none⟩) [.slice (some ⟨b2,0,none⟩) 4 4]<|K (.func (.func Jc) #[] #[.pointer (some (⟨b3,0,none⟩)),.pointer (some (⟨b1,0,none⟩))])
def Mv(p0:Option Addr)(h:oW p0 K w):CV Ma [.v (.pointer p0)] K w:=zF Tryz.f119 .auto _ h
def Ub(p0:FV)(K:Value→PT):PT:=
  L.sem Pr (.one (.one .map)) (Instr.makeMap Zm none) λ(m1:Option Nat)=>L.new [.map m1,.func p0.fn p0.fs p0.cs] ZN λb2=>K (.pointer (some (⟨b2,0,none⟩)))
def OW(p0:FV)(h:Ub p0 K w):CV Xh [.v (.func p0.fn p0.fs p0.cs)] K w:=zF Tryz.f120 .auto _ h
def Ml(p0 p1:ht0)(K:Value→PT):PT:=
  L.new [.string p0.1,I p0.2.1,I p0.2.2.1,I p0.2.2.2.1,I p0.2.2.2.2.1,I p0.2.2.2.2.2.1] zx λb1=>L.new [.string p1.1,I p1.2.1,I p1.2.2.1,I p1.2.2.2.1,I p1.2.2.2.2.1,I p1.2.2.2.2.2.1] zx λb2=>L.load (.agg lf0) (⟨b1,0,none⟩) λ(x3:pt0)=>L.load (.agg lf0) (⟨b2,0,none⟩) λ(x4:pt0)=>L.chkSem Pr (do eqGuard .eql zx (.tmp 0) (.tmp 0) ((qa0 x3)) ((qa0 x4));binOp .eql zx ((qa0 x3)) ((qa0 x4))) (.bool ((x3.1 == x4.1)&&((x3.2.1 == x4.2.1)&&((x3.2.2.1 == x4.2.2.1)&&((x3.2.2.2.1 == x4.2.2.2.1)&&((x3.2.2.2.2.1 == x4.2.2.2.2.1)&&((x3.2.2.2.2.2.1 == x4.2.2.2.2.2.1)&&true)))))))<|K (.bool ((x3.1 == x4.1)&&((x3.2.1 == x4.2.1)&&((x3.2.2.1 == x4.2.2.1)&&((x3.2.2.2.1 == x4.2.2.2.1)&&((x3.2.2.2.2.1 == x4.2.2.2.2.1)&&((x3.2.2.2.2.2.1 == x4.2.2.2.2.2.1)&&true)))))))
def ne(p0 p1:ht0)(h:Ml p0 p1 K w):CV yD [.ag (qc0 p0),.ag (qc0 p1)] K w:=zF Tryz.f121 .auto _ h
def DW:ZV Pr yD:=zM (by kernel_rfl)
def UJ(p0:FV)(K:Value→PT):PT:=
  L.sem Pr (.one (.one .map)) (Instr.makeMap Zs none) λ(m1:Option Nat)=>L.new [.map m1,.func p0.fn p0.fs p0.cs] Zo λb2=>K (.pointer (some (⟨b2,0,none⟩)))
def Gf(p0:FV)(h:UJ p0 K w):CV XB [.v (.func p0.fn p0.fs p0.cs)] K w:=zF Tryz.f122 .auto _ h
def vI(p0 p1:ht2)(K:Value→PT):PT:=
  L.new [.string p0.1,.string p0.2.1,Sv6 p0.2.2.1,I p0.2.2.2.1] Zb λb1=>L.new [.string p1.1,.string p1.2.1,Sv6 p1.2.2.1,I p1.2.2.2.1] Zb λb2=>L.load eS6 (Ad6 b1 0) λ(x3:B0)=>L.load eS6 (Ad6 b2 0) λ(x4:B0)=>L.ite (x3.toList == x4.toList) (L.load eS6 (Ad6 b1 1) λ(x5:B0)=>L.load eS6 (Ad6 b2 1) λ(x6:B0)=>L.ite (x5.toList == x6.toList) (L.load eI6 (Ad6 b1 3) λ(x7:Int)=>L.load eI6 (Ad6 b2 3) λ(x8:Int)=>L.ite (x7 == x8) (L.load eL6 (Ad6 b1 2) λ(x9:Sl)=>L.load eL6 (Ad6 b2 2) λ(x10:Sl)=>L.call Pr ZD [Sv6 x9,Sv6 x10,.func (.func Vc) #[] #[]] rB λ(x11:Bool)=>K (.bool x11))<|K (.bool false))<|K (.bool false))<|K (.bool false)
def Ti(p0 p1:ht2)(h:vI p0 p1 K w):CV Zu [.ag (qc2 p0),.ag (qc2 p1)] K w:=zF Tryz.f123 .auto _ h
def Ta:ZV Pr Zu:=zM (by kernel_rfl)
def PJ(c0:Addr)(K:Value→PT):PT:=
  L.load eI6 c0 λ(x1:Int)=>L.call Pr MC [I x1] rP λ(x2:Option Addr)=>K (.pointer x2)
def Wu(c0:Addr)(h:PJ c0 K w):CV kC [.v (.pointer (some c0))] K w:=zF Tryz.f124 .auto _ h
def Wj:ZV Pr kC:=zM (by kernel_rfl)
def Do(p0:Int)(K:Value→PT):PT:=
  L.new [.slice none 0 0,I p0] uY λb1=>K (.pointer (some (⟨b1,0,none⟩)))
def bw(p0:Int)(h:Do p0 K w):CV MC [.v (.int .i64 p0)] K w:=zF Tryz.f125 .auto _ h
def oV(p0:B0)(K:Value→PT):PT:=
  L.call Pr VP [.string p0,.string s__] rI λ(x1:Int)=>L.ite (decide (x1<0)) (K (.tuple #[.string s_,I 0,.bool false]))<|L.guard ((0:Int)≤(Wi (x1+1))∧(Wi (x1+1))≤(p0.size:Int)∧(p0.size:Int)≤p0.size)<|L.call Pr fJ [.string (p0.extract (Int.toNat (Wi (x1+1))) (Int.toNat (p0.size:Int)))] (.tup [eI6,(.one (.iface))]) λ(x2:z3q)=>L.ite (!(x2.2.1).isNone) (K (.tuple #[.string s_,I 0,.bool false]))<|L.guard ((0:Int)≤(0:Int)∧(0:Int)≤x1∧x1≤p0.size)<|L.call Pr ox [.string (p0.extract (Int.toNat 0) (Int.toNat x1)),I x2.1] rS λ(x3:B0)=>L.ite (!(x3.toList == p0.toList)) (K (.tuple #[.string s_,I 0,.bool false]))<|L.guard ((0:Int)≤(0:Int)∧(0:Int)≤x1∧x1≤p0.size)<|K (.tuple #[.string (p0.extract (Int.toNat 0) (Int.toNat x1)),I x2.1,.bool true])
def Mu(p0:B0)(h:oV p0 K w):CV qd [.v (.string p0)] K w:=zF Tryz.f132 .auto _ h
def PI(p0:B0)(K:Value→PT):PT:=
  L.call Pr vS [.string p0,I 16] rB λ(x1:Bool)=>K (.bool x1)
def Wt(p0:B0)(h:PI p0 K w):CV XF [.v (.string p0)] K w:=zF Tryz.f133 .auto _ h
def nF:Ann:=(.q2 (.q2 (.seq (.q2 (.one [(5,(.one (.int .i32)))] (.q2 (.seq (.cond .auto .auto) (.q2 (.seq (.q2 (.cond .auto .auto) none) .auto (some [])) none) none) none)) none) .auto none) none) none)
def Mq(p0:B0)(p1:Int)(K:Value→PT):PT:=
  L.sem Pr (.one (.one .ptr)) (Instr.range zc (.string p0)) λ(it1:Option Addr)=>L.loop (Y:=Int×Unit) (45,()) λy2 again3=>L.next Pr [eI6,(.one (.int .i32))] (Instr.next (.pointer it1) true T_) (L.ite (y2.1 != 45) (K (.bool (decide ((p0.size:Int)≤p1))))<|K (.bool false)) λ(x4:Int×Int×Unit)=>L.join (Y:=Unit) (λk5=>L.call Pr gJ [.int .i32 x4.2.1] rB λ(x7:Bool)=>L.ite (!x7) (K (.bool false))<|L.ite (x4.1 == 0) (L.call Pr Ux [.int .i32 x4.2.1] rB λ(x8:Bool)=>L.ite (!x8) (K (.bool false))<|k5 (()))<|k5 (())) λz6=>again3 (x4.2.1,())
def nl(p0:B0)(p1:Int)(h:Mq p0 p1 K w):CV vS [.v (.string p0),.v (.int .i64 p1)] K w:=zF Tryz.f134 nF _ h
def VE(p0:HT [.int .i64,.int .i64])(p1:Int)(K:Value→PT):PT:=
  L.new [I p0.1,I p0.2.1] cj λb1=>L.load eI6 (Ad6 b1 0) λ(x2:Int)=>L.ite (decide (p1≥x2)) (L.load eI6 (Ad6 b1 1) λ(x3:Int)=>K (.bool (decide (p1≤x3))))<|K (.bool false)
def GG(p0:HT [.int .i64,.int .i64])(p1:Int)(h:VE p0 p1 K w):CV yt [.ag [.int .i64 p0.1,.int .i64 p0.2.1],.v (.int .i64 p1)] K w:=zF Tryz.f135 .auto _ h
def cL:ZV Pr yt:=zM (by kernel_rfl)
def nB:Ann:=(.q2 (.q2 (.q2 (.seq (.seq (.q2 (.cond .auto .auto) none) .auto (some [(16,eB6)])) .auto none) none) none) none)
def Mj(p0:HT [.str,.str,.int .i64])(K:Value→PT):PT:=
  L.new [.string p0.1,.string p0.2.1,I p0.2.2.1] zH λb1=>L.load eS6 (Ad6 b1 0) λ(x2:B0)=>L.call Pr qd [.string x2] (.tup [eS6,eI6,eB6]) λ(x3:B0×Int×Bool×Unit)=>L.join (Y:=Bool×Unit) (λk4=>L.load eS6 (Ad6 b1 0) λ(x6:B0)=>L.ite (!(x6.toList == s_.toList)) (L.ite (!x3.2.2.1) (k4 (!x3.2.2.1,()))<|L.load eS6 (Ad6 b1 1) λ(x7:B0)=>L.ite (!(x7.toList == s_.toList)) (L.load eS6 (Ad6 b1 1) λ(x8:B0)=>L.call Pr xB [.string x8] rB λ(x9:Bool)=>k4 (!x9,()))<|k4 (false,()))<|L.load eS6 (Ad6 b1 1) λ(x10:B0)=>L.ite (!(x10.toList == s_.toList)) (L.load eS6 (Ad6 b1 1) λ(x11:B0)=>L.call Pr xB [.string x11] rB λ(x12:Bool)=>k4 (!x12,()))<|k4 (false,())) λz5=>L.ite z5.1 (K (I 1))<|L.load eI6 (Ad6 b1 2) λ(x13:Int)=>L.callV Pr (.func (.func yt) #[.agg #[I 0,I 100]] #[]) [I x13] rB λ(x14:Bool)=>L.ite (!x14) (K (I 2))<|K (I 0)
def nb(p0:HT [.str,.str,.int .i64])(h:Mj p0 K w):CV oM [.ag [.string p0.1,.string p0.2.1,.int .i64 p0.2.2.1]] K w:=zF Tryz.f136 nB _ h
def bI:Ann:=(.q2 (.q2 (.seq (.q2 (.one [(3,eI6),(8,eI6)] (.q2 (.q2 (.seq (.q2 (.q2 (.q2 (.cond .auto .auto) none) none) none) .auto (some [(3,eI6)])) none) none)) none) .auto none) none) none)
def Dp(p0:Sl)(K:Value→PT):PT:=
  L.loop (Y:=Int×Int×Unit) (0,0,()) λy1 again2=>L.ite (decide (y1.2.1<((p0.len:Nat):Int))) (L.join (Y:=Int×Unit) (λk3=>L.idx p0.a y1.2.1 p0.len 3 λa5=>L.load (.agg [.str,.str,.int .i64]) a5 λ(x6:pt9)=>L.new [.string s_,.string s_,I 0] zH λb7=>L.store (⟨b7,0,none⟩) [.string x6.1,.string x6.2.1,I x6.2.2.1]<|L.load eI6 (Ad6 b7 2) λ(x8:Int)=>L.load eS6 (Ad6 b7 1) λ(x9:B0)=>L.ite (!(x9.toList == s_.toList)) (L.guard (0≤(0:Int)∧(0:Int)≤y1.2.1∧y1.2.1≤((p0.cap:Nat):Int)∧((p0.cap:Nat):Int)≤p0.cap)<|L.call Pr yF [.slice (if Int.toNat ((p0.cap:Nat):Int)=Int.toNat (0:Int)then p0.a else Option.map (λa:Addr=>a.add (Int.toNat (0:Int)*3)) p0.a) (Int.toNat y1.2.1-Int.toNat (0:Int)) (Int.toNat ((p0.cap:Nat):Int)-Int.toNat (0:Int)),.func (.func Qr) #[] #[.pointer (some (⟨b7,0,none⟩))]] rB λ(x10:Bool)=>L.ite x10 (K (I 5))<|k3 (Wi (y1.1+x8),()))<|k3 (Wi (y1.1+x8),())) λz4=>again2 (z4.1,Wi (y1.2.1+1),()))<|L.ite (y1.1 != 100) (K (I 4))<|K (I 0)
def bx(p0:Sl)(h:Dp p0 K w):CV MD [.v (.slice p0.a p0.len p0.cap)] K w:=zF Tryz.f137 bI _ h
def kR:Ann:=(.q2 (.q2 (.seq (.q2 (.cond .auto (.q2 (.cond .auto .auto) none)) none) .auto (some [])) none) none)
def qB(p0:Option Addr)(p1:B0)(p2:Int)(p3:Bool)(K:Value→PT):PT:=
  L.nonnil p0 λa1=>L.load (.one (.map)) (a1.add 0) λ(x2:Option Nat)=>L.semR Pr (.one (.agg lf9)) (Instr.lookup Zm (.map x2) (.string p1) false) λ(x3:ay)=>L.new [.string s_,I 0,I 0,I 0,I 0,I 0,I 0,I 0,.bool false] zT λb4=>L.store (⟨b4,0,none⟩) [.string x3.1,I x3.2.1,I x3.2.2.1,I x3.2.2.2.1,I x3.2.2.2.2.1,I x3.2.2.2.2.2.1,I x3.2.2.2.2.2.2.1,I x3.2.2.2.2.2.2.2.1,.bool x3.2.2.2.2.2.2.2.2.1]<|L.join (Y:=Unit) (λk5=>L.ite p3 (L.ite (p2 == 0) (L.load eB6 (Ad6 b4 8) λ(x7:Bool)=>L.ite x7 (K (I 5))<|L.ite p3 (L.ite (p2 == 0) (K (I 0))<|L.load eB6 (Ad6 b4 8) λ(x8:Bool)=>L.ite (!x8) (K (I 6))<|L.load eI6 (Ad6 b4 6) λ(x9:Int)=>L.ite (x9 != p2) (K (I 7))<|k5 (()))<|L.load eB6 (Ad6 b4 8) λ(x10:Bool)=>L.ite (!x10) (K (I 6))<|L.load eI6 (Ad6 b4 6) λ(x11:Int)=>L.ite (x11 != p2) (K (I 7))<|k5 (()))<|L.ite p3 (L.ite (p2 == 0) (K (I 0))<|L.load eB6 (Ad6 b4 8) λ(x12:Bool)=>L.ite (!x12) (K (I 6))<|L.load eI6 (Ad6 b4 6) λ(x13:Int)=>L.ite (x13 != p2) (K (I 7))<|k5 (()))<|L.load eB6 (Ad6 b4 8) λ(x14:Bool)=>L.ite (!x14) (K (I 6))<|L.load eI6 (Ad6 b4 6) λ(x15:Int)=>L.ite (x15 != p2) (K (I 7))<|k5 (()))<|L.ite p3 (L.ite (p2 == 0) (K (I 0))<|L.load eB6 (Ad6 b4 8) λ(x16:Bool)=>L.ite (!x16) (K (I 6))<|L.load eI6 (Ad6 b4 6) λ(x17:Int)=>L.ite (x17 != p2) (K (I 7))<|k5 (()))<|L.load eB6 (Ad6 b4 8) λ(x18:Bool)=>L.ite (!x18) (K (I 6))<|L.load eI6 (Ad6 b4 6) λ(x19:Int)=>L.ite (x19 != p2) (K (I 7))<|k5 (())) λz6=>K (I 0)
def kN(p0:Option Addr)(p1:B0)(p2:Int)(p3:Bool)(h:qB p0 p1 p2 p3 K w):CV Jy [.v (.pointer p0),.v (.string p1),.v (.int .i64 p2),.v (.bool p3)] K w:=zF Tryz.f142 kR _ h
def kQ:Ann:=(.q2 (.q2 (.q2 .auto (some [])) none) none)
def qA(p0:Option Addr)(p1:B0)(p2:ht0)(p3:Int)(K:Value→PT):PT:=
  L.new [.string p2.1,I p2.2.1,I p2.2.2.1,I p2.2.2.2.1,I p2.2.2.2.2.1,I p2.2.2.2.2.2.1] zx λb1=>L.nonnil p0 λa2=>L.load (.one (.map)) (a2.add 0) λ(x3:Option Nat)=>L.semR Pr (.one (.agg lf9)) (Instr.lookup Zm (.map x3) (.string p1) false) λ(x4:ay)=>L.new [.string s_,I 0,I 0,I 0,I 0,I 0,I 0,I 0,.bool false] zT λb5=>L.store (⟨b5,0,none⟩) [.string x4.1,I x4.2.1,I x4.2.2.1,I x4.2.2.2.1,I x4.2.2.2.2.1,I x4.2.2.2.2.2.1,I x4.2.2.2.2.2.2.1,I x4.2.2.2.2.2.2.2.1,.bool x4.2.2.2.2.2.2.2.2.1]<|L.join (Y:=Unit) (λk6=>L.draw<|L.load eB6 (Ad6 b5 8) λ(x8:Bool)=>L.ite (!x8) (L.load eI6 (Ad6 b5 7) λ(x9:Int)=>L.store (Ad6 b5 7) [I (Wi (x9+1))]<|k6 (()))<|L.nonnil p0 λa10=>L.load (.one (.func)) (a10.add 1) λ(x11:FV)=>L.load (.agg lf0) (Ad6 b5 0) λ(x12:pt0)=>L.load (.agg lf0) (⟨b1,0,none⟩) λ(x13:pt0)=>L.callV Pr (.func x11.fn x11.fs x11.cs) [(qa0 x12),(qa0 x13)] rB λ(x14:Bool)=>L.ite (!x14) (L.load eI6 (Ad6 b5 7) λ(x15:Int)=>L.store (Ad6 b5 7) [I (Wi (x15+1))]<|k6 (()))<|k6 (())) λz7=>L.draw<|L.nonnil p0 λa16=>L.load (.one (.map)) (a16.add 0) λ(x17:Option Nat)=>L.load (.agg lf0) (⟨b1,0,none⟩) λ(x18:pt0)=>L.load eI6 (Ad6 b5 7) λ(x19:Int)=>L.semU Pr (Instr.mapUpdate Zm (.map x17) (.string p1) (.agg #[.string x18.1,I x18.2.1,I x18.2.2.1,I x18.2.2.2.1,I x18.2.2.2.2.1,I x18.2.2.2.2.2.1,I p3,I x19,.bool true]))<|K (.tuple #[])
def kM(p0:Option Addr)(p1:B0)(p2:ht0)(p3:Int)(h:qA p0 p1 p2 p3 K w):CV Jx [.v (.pointer p0),.v (.string p1),.ag (qc0 p2),.v (.int .i64 p3)] K w:=zF Tryz.f143 kQ _ h
def oh:Ann:=(.q2 (.q2 (.seq (.q2 (.cond .auto (.q2 (.cond .auto .auto) none)) none) .auto (some [])) none) none)
def Qf(p0:Option Addr)(p1:B0)(p2:Int)(p3:Bool)(K:Value→PT):PT:=
  L.nonnil p0 λa1=>L.load (.one (.map)) (a1.add 0) λ(x2:Option Nat)=>L.semR Pr (.one (.agg lV)) (Instr.lookup Zs (.map x2) (.string p1) false) λ(x3:ax)=>L.new [.string s_,.string s_,.slice none 0 0,I 0,I 0,I 0,.bool false] zY λb4=>L.store (⟨b4,0,none⟩) [.string x3.1,.string x3.2.1,Sv6 x3.2.2.1,I x3.2.2.2.1,I x3.2.2.2.2.1,I x3.2.2.2.2.2.1,.bool x3.2.2.2.2.2.2.1]<|L.join (Y:=Unit) (λk5=>L.ite p3 (L.ite (p2 == 0) (L.load eB6 (Ad6 b4 6) λ(x7:Bool)=>L.ite x7 (K (I 5))<|L.ite p3 (L.ite (p2 == 0) (K (I 0))<|L.load eB6 (Ad6 b4 6) λ(x8:Bool)=>L.ite (!x8) (K (I 6))<|L.load eI6 (Ad6 b4 4) λ(x9:Int)=>L.ite (x9 != p2) (K (I 7))<|k5 (()))<|L.load eB6 (Ad6 b4 6) λ(x10:Bool)=>L.ite (!x10) (K (I 6))<|L.load eI6 (Ad6 b4 4) λ(x11:Int)=>L.ite (x11 != p2) (K (I 7))<|k5 (()))<|L.ite p3 (L.ite (p2 == 0) (K (I 0))<|L.load eB6 (Ad6 b4 6) λ(x12:Bool)=>L.ite (!x12) (K (I 6))<|L.load eI6 (Ad6 b4 4) λ(x13:Int)=>L.ite (x13 != p2) (K (I 7))<|k5 (()))<|L.load eB6 (Ad6 b4 6) λ(x14:Bool)=>L.ite (!x14) (K (I 6))<|L.load eI6 (Ad6 b4 4) λ(x15:Int)=>L.ite (x15 != p2) (K (I 7))<|k5 (()))<|L.ite p3 (L.ite (p2 == 0) (K (I 0))<|L.load eB6 (Ad6 b4 6) λ(x16:Bool)=>L.ite (!x16) (K (I 6))<|L.load eI6 (Ad6 b4 4) λ(x17:Int)=>L.ite (x17 != p2) (K (I 7))<|k5 (()))<|L.load eB6 (Ad6 b4 6) λ(x18:Bool)=>L.ite (!x18) (K (I 6))<|L.load eI6 (Ad6 b4 4) λ(x19:Int)=>L.ite (x19 != p2) (K (I 7))<|k5 (())) λz6=>K (I 0)
def oa(p0:Option Addr)(p1:B0)(p2:Int)(p3:Bool)(h:Qf p0 p1 p2 p3 K w):CV JW [.v (.pointer p0),.v (.string p1),.v (.int .i64 p2),.v (.bool p3)] K w:=zF Tryz.f144 oh _ h
def og:Ann:=(.q2 (.q2 (.q2 .auto (some [])) none) none)
def Qe(p0:Option Addr)(p1:B0)(p2:ht2)(p3:Int)(K:Value→PT):PT:=
  L.new [.string p2.1,.string p2.2.1,Sv6 p2.2.2.1,I p2.2.2.2.1] Zb λb1=>L.nonnil p0 λa2=>L.load (.one (.map)) (a2.add 0) λ(x3:Option Nat)=>L.semR Pr (.one (.agg lV)) (Instr.lookup Zs (.map x3) (.string p1) false) λ(x4:ax)=>L.new [.string s_,.string s_,.slice none 0 0,I 0,I 0,I 0,.bool false] zY λb5=>L.store (⟨b5,0,none⟩) [.string x4.1,.string x4.2.1,Sv6 x4.2.2.1,I x4.2.2.2.1,I x4.2.2.2.2.1,I x4.2.2.2.2.2.1,.bool x4.2.2.2.2.2.2.1]<|L.join (Y:=Unit) (λk6=>L.draw<|L.load eB6 (Ad6 b5 6) λ(x8:Bool)=>L.ite (!x8) (L.load eI6 (Ad6 b5 5) λ(x9:Int)=>L.store (Ad6 b5 5) [I (Wi (x9+1))]<|k6 (()))<|L.nonnil p0 λa10=>L.load (.one (.func)) (a10.add 1) λ(x11:FV)=>L.load (.agg [.str,.str,.slice,.int .i64]) (Ad6 b5 0) λ(x12:pt3)=>L.load (.agg [.str,.str,.slice,.int .i64]) (⟨b1,0,none⟩) λ(x13:pt3)=>L.callV Pr (.func x11.fn x11.fs x11.cs) [.agg #[.string x12.1,.string x12.2.1,Sv6 x12.2.2.1,I x12.2.2.2.1],.agg #[.string x13.1,.string x13.2.1,Sv6 x13.2.2.1,I x13.2.2.2.1]] rB λ(x14:Bool)=>L.ite (!x14) (L.load eI6 (Ad6 b5 5) λ(x15:Int)=>L.store (Ad6 b5 5) [I (Wi (x15+1))]<|k6 (()))<|k6 (())) λz7=>L.draw<|L.nonnil p0 λa16=>L.load (.one (.map)) (a16.add 0) λ(x17:Option Nat)=>L.load (.agg [.str,.str,.slice,.int .i64]) (⟨b1,0,none⟩) λ(x18:pt3)=>L.load eI6 (Ad6 b5 5) λ(x19:Int)=>L.semU Pr (Instr.mapUpdate Zs (.map x17) (.string p1) (.agg #[.string x18.1,.string x18.2.1,Sv6 x18.2.2.1,I x18.2.2.2.1,I p3,I x19,.bool true]))<|K (.tuple #[])
def KZ(p0:Option Addr)(p1:B0)(p2:ht2)(p3:Int)(h:Qe p0 p1 p2 p3 K w):CV JV [.v (.pointer p0),.v (.string p1),.ag (qc2 p2),.v (.int .i64 p3)] K w:=zF Tryz.f145 og _ h
def cz(p0:ht2)(K:Value→PT):PT:=
  L.new [.string p0.1,.string p0.2.1,Sv6 p0.2.2.1,I p0.2.2.2.1] Zb λb1=>L.new [.string s_,.string s_,.slice none 0 0,I 0] Zb λb2=>L.load eL6 (Ad6 b1 2) λ(x3:Sl)=>L.call Pr Ys [Sv6 x3] rL λ(x4:Sl)=>L.store (Ad6 b1 2) [Sv6 x4]<|L.load (.agg [.str,.str,.slice,.int .i64]) (⟨b1,0,none⟩) λ(x5:pt3)=>L.store (⟨b2,0,none⟩) [.string x5.1,.string x5.2.1,Sv6 x5.2.2.1,I x5.2.2.2.1]<|L.load (.agg [.str,.str,.slice,.int .i64]) (⟨b2,0,none⟩) λ(x6:pt3)=>K (.agg #[.string x6.1,.string x6.2.1,Sv6 x6.2.2.1,I x6.2.2.2.1])
def LX(p0:ht2)(h:cz p0 K w):CV ov [.ag (qc2 p0)] K w:=zF Tryz.f146 .auto _ h
def UX(p0:Option Addr)(p1:B0)(K:Value→PT):PT:=
  L.new [.slice none 0 0,.slice none 0 0] zr λb1=>L.nonnil p0 λa2=>L.load eP6 (a2.add 2) λ(x3:Option Addr)=>L.call Pr QK [.pointer x3,.string p1] (.tup [(.agg [.slice,.slice]),eB6]) λ(x4:(Sl×Sl×Unit)×Bool×Unit)=>L.store (⟨b1,0,none⟩) [Sv6 x4.1.1,Sv6 x4.1.2.1]<|L.load (.agg [.slice,.slice]) (⟨b1,0,none⟩) λ(x5:Sl×Sl×Unit)=>K (.tuple #[.agg #[Sv6 x5.1,Sv6 x5.2.1],.bool x4.2.1])
def GY(p0:Option Addr)(p1:B0)(h:UX p0 p1 K w):CV US [.v (.pointer p0),.v (.string p1)] K w:=zF Tryz.f149 .auto _ h
def WA:Ann:=(.q2 (.q2 (.seq (.q2 (.one [(1,eI6),(14,eI6)] .auto) none) .auto none) none) none)
def PA(p0:HT [.slice,.slice])(p1:Int)(K:Value→PT):PT:=
  L.new [Sv6 p0.1,Sv6 p0.2.1] zr λb1=>L.guard (100≠(0:Int))<|L.guard (100≠(0:Int))<|L.load eL6 (Ad6 b1 0) λ(x2:Sl)=>L.loop (Y:=Int×Int×Unit) (Int.tmod (Wi ((Int.tmod p1 100)+100)) 100,0,()) λy3 again4=>L.ite (decide (y3.2.1<((x2.len:Nat):Int))) (L.idx x2.a y3.2.1 x2.len 2 λa5=>L.load (.agg [.str,.int .i64]) a5 λ(x6:B0×Int×Unit)=>L.new [.string s_,I 0] Zg λb7=>L.store (⟨b7,0,none⟩) [.string x6.1,I x6.2.1]<|L.load eI6 (Ad6 b7 1) λ(x8:Int)=>L.ite (decide (y3.1<x8)) (L.load eS6 (Ad6 b7 0) λ(x9:B0)=>K (.string x9))<|L.load eI6 (Ad6 b7 1) λ(x10:Int)=>again4 (Wi (y3.1-x10),Wi (y3.2.1+1),()))<|K (.string s_)
def Wl(p0:HT [.slice,.slice])(p1:Int)(h:PA p0 p1 K w):CV gG [.ag [.slice p0.1.a p0.1.len p0.1.cap,.slice p0.2.1.a p0.2.1.len p0.2.1.cap],.v (.int .i64 p1)] K w:=zF Tryz.f150 WA _ h
def ny:Ann:=(.q2 (.seq (.q2 (.one [(11,eI6)] .auto) none) .auto none) none)
def Mg(p0:HT [.slice,.slice])(p1:B0)(K:Value→PT):PT:=
  L.new [Sv6 p0.1,Sv6 p0.2.1] zr λb1=>L.load eL6 (Ad6 b1 1) λ(x2:Sl)=>L.loop (Y:=Int×Unit) (0,()) λy3 again4=>L.ite (decide (y3.1<((x2.len:Nat):Int))) (L.idx x2.a y3.1 x2.len 2 λa5=>L.load (.agg [.str,.str]) a5 λ(x6:B0×B0×Unit)=>L.new [.string s_,.string s_] JI λb7=>L.store (⟨b7,0,none⟩) [.string x6.1,.string x6.2.1]<|L.load eS6 (Ad6 b7 0) λ(x8:B0)=>L.ite (x8.toList == p1.toList) (L.load eS6 (Ad6 b7 1) λ(x9:B0)=>K (.tuple #[.string x9,.bool true]))<|again4 (Wi (y3.1+1),()))<|K (.tuple #[.string s_,.bool false])
def DY(p0:HT [.slice,.slice])(p1:B0)(h:Mg p0 p1 K w):CV oK [.ag [.slice p0.1.a p0.1.len p0.1.cap,.slice p0.2.1.a p0.2.1.len p0.2.1.cap],.v (.string p1)] K w:=zF Tryz.f151 ny _ h
def OI(p0:Option Addr)(p1:Int)(K:Value→PT):PT:=
  L.nonnil p0 λa1=>L.load (.one (.map)) (a1.add 1) λ(x2:Option Nat)=>L.semR Pr (.tup [(.agg [.str,.int .i64]),.one .bool]) (Instr.lookup yl (.map x2) (I p1) true) λ(x3:z3p)=>L.new [.string s_,I 0] Zz λb4=>L.store (⟨b4,0,none⟩) [.string x3.1.1,I x3.1.2.1]<|K (.bool x3.2.1)
def Tm(p0:Option Addr)(p1:Int)(h:OI p0 p1 K w):CV vw [.v (.pointer p0),.v (.int .i64 p1)] K w:=zF Tryz.f152 .auto _ h
def Dv(p0:B0)(K:Value→PT):PT:=
  L.new [I 0,I 0,I 0,.string s_] zA λb1=>L.store (⟨b1,0,none⟩) [I 0,I 4,I 0,.string p0]<|L.load (.agg [.int .i64,.int .i64,.int .i64,.str]) (⟨b1,0,none⟩) λ(x2:Kf)=>K (.agg #[I x2.1,I x2.2.1,I x2.2.2.1,.string x2.2.2.2.1])
def bE(p0:B0)(h:Dv p0 K w):CV qN [.v (.string p0)] K w:=zF Tryz.f153 .auto _ h
def GA(p0:Option Addr)(p1:Int)(p2:B0)(p3:ht3)(K:Value→PT):PT:=
  L.new [I p3.1,I p3.2.1,I p3.2.2.1,.string p3.2.2.2.1] zA λb1=>L.new [I 0,I 0,I 0,.string s_] zA λb2=>L.store (Ad6 b1 0) [I p1]<|L.draw<|L.nonnil p0 λa3=>L.load (.one (.map)) (a3.add 1) λ(x4:Option Nat)=>L.load eI6 (Ad6 b1 1) λ(x5:Int)=>L.semU Pr (Instr.mapUpdate yl (.map x4) (I p1) (.agg #[.string p2,I x5]))<|L.load (.agg [.int .i64,.int .i64,.int .i64,.str]) (⟨b1,0,none⟩) λ(x6:Kf)=>L.store (⟨b2,0,none⟩) [I x6.1,I x6.2.1,I x6.2.2.1,.string x6.2.2.2.1]<|L.load (.agg [.int .i64,.int .i64,.int .i64,.str]) (⟨b2,0,none⟩) λ(x7:Kf)=>K (.agg #[I x7.1,I x7.2.1,I x7.2.2.1,.string x7.2.2.2.1])
def cZ(p0:Option Addr)(p1:Int)(p2:B0)(p3:ht3)(h:GA p0 p1 p2 p3 K w):CV yu [.v (.pointer p0),.v (.int .i64 p1),.v (.string p2),.ag (qc3 p3)] K w:=zF Tryz.f154 .auto _ h
def oZ:Ann:=(.q2 (.q2 .auto (some [])) none)
def QW(p0:Option Addr)(p1:B0)(K:Value→PT):PT:=
  L.join (Y:=Unit) (λk1=>L.nonnil p0 λa3=>L.load (.one (.map)) (a3.add 0) λ(x4:Option Nat)=>L.semR Pr (.tup [eP6,.one .bool]) (Instr.lookup ZB (.map x4) (.string p1) true) λ(x5:Option Addr×Bool×Unit)=>L.ite (!x5.2.1) (L.draw<|L.nonnil p0 λa6=>L.load (.one (.map)) (a6.add 0) λ(x7:Option Nat)=>L.nonnil p0 λa8=>L.load (.one (.func)) (a8.add 1) λ(x9:FV)=>L.callV Pr (.func x9.fn x9.fs x9.cs) [] rP λ(x10:Option Addr)=>L.chk (a6.add 0) [.map x7]<|L.semU Pr (Instr.mapUpdate ZB (.map x7) (.string p1) (.pointer x10))<|k1 (()))<|k1 (())) λz2=>L.nonnil p0 λa11=>L.load (.one (.map)) (a11.add 0) λ(x12:Option Nat)=>L.semR Pr rP (Instr.lookup ZB (.map x12) (.string p1) false) λ(x13:Option Addr)=>K (.pointer x13)
def oY(p0:Option Addr)(p1:B0)(h:QW p0 p1 K w):CV jN [.v (.pointer p0),.v (.string p1)] K w:=zF Tryz.f155 oZ _ h
def Gv(p0:Option Addr)(K:Value→PT):PT:=
  L.nonnil p0 λa1=>L.load eL6 ((a1.add 0).add 0) λ(x2:Sl)=>K (I ((x2.len:Nat):Int))
def cT(p0:Option Addr)(h:Gv p0 K w):CV XT [.v (.pointer p0)] K w:=zF Tryz.f156 .auto _ h
def OG(p0:Option Addr)(p1:Int)(p2:B0)(K:Value→PT):PT:=
  L.new [I 0,I 0,I 0,.string s_] zA λb1=>L.nonnil p0 λa2=>L.load eP6 (a2.add 0) λ(x3:Option Addr)=>L.call Pr uy [.pointer x3,.string p2,I p1] (.tup [eI6,eB6]) λ(x4:Int×Bool×Unit)=>L.ite (!x4.2.1) (L.store (⟨b1,0,none⟩) [I 0,I 0,I 0,.string s_]<|L.load (.agg [.int .i64,.int .i64,.int .i64,.str]) (⟨b1,0,none⟩) λ(x5:Kf)=>K (.tuple #[.agg #[I x5.1,I x5.2.1,I x5.2.2.1,.string x5.2.2.2.1],.bool false]))<|L.call Pr yu [.pointer p0,I p1,.string p2,.agg #[I 0,I 1,I x4.1,.string s_]] (.one (.agg [.int .i64,.int .i64,.int .i64,.str])) λ(x6:Kf)=>L.store (⟨b1,0,none⟩) [I x6.1,I x6.2.1,I x6.2.2.1,.string x6.2.2.2.1]<|L.load (.agg [.int .i64,.int .i64,.int .i64,.str]) (⟨b1,0,none⟩) λ(x7:Kf)=>K (.tuple #[.agg #[I x7.1,I x7.2.1,I x7.2.2.1,.string x7.2.2.2.1],.bool true])
def Tj(p0:Option Addr)(p1:Int)(p2:B0)(h:OG p0 p1 p2 K w):CV Qs [.v (.pointer p0),.v (.int .i64 p1),.v (.string p2)] K w:=zF Tryz.f157 .auto _ h
def OA(p0:Option Addr)(p1 p2:Int)(K:Value→PT):PT:=
  L.nonnil p0 λa1=>L.call Pr uo [.pointer (some (a1.add 0)),I p1] rB λ(x2:Bool)=>L.ite x2 (K (I 5))<|L.draw<|L.nonnil p0 λa3=>L.load eI6 (a3.add 1) λ(x4:Int)=>L.call Pr XT [.pointer p0] rI λ(x5:Int)=>L.chk (a3.add 1) [I x4]<|L.ite (decide (x5≥x4)) (K (I 8))<|L.nonnil p0 λa6=>L.load eL6 ((a6.add 0).add 0) λ(x7:Sl)=>L.new [I p1,I p2] jr λb8=>L.sem Pr (.one (.one .slice)) (Builtin.append_ #[yE,yE] yE #[Sv6 x7,.slice (some ⟨b8,0,none⟩) 1 1]) λ(s9:Sl)=>L.nonnil p0 λa10=>L.store ((a10.add 0).add 0) [Sv6 s9]<|K (I 0)
def Tc(p0:Option Addr)(p1 p2:Int)(h:OA p0 p1 p2 K w):CV Qq [.v (.pointer p0),.v (.int .i64 p1),.v (.int .i64 p2)] K w:=zF Tryz.f158 .auto _ h
def Fd(p0:Sl)(K:Value→PT):PT:=
  L.new [Sv6 p0] zI λb1=>K (.func (.func Xe) #[] #[.pointer (some (⟨b1,0,none⟩))])
def DA(p0:Sl)(h:Fd p0 K w):CV fI [.v (.slice p0.a p0.len p0.cap)] K w:=zF Tryz.f159 .auto _ h
def KV(p0:Option Addr)(p1:Int)(K:Value→PT):PT:=
  L.nonnil p0 λa1=>L.load (.one (.map)) (a1.add 1) λ(x2:Option Nat)=>L.semR Pr (.tup [eI6,.one .bool]) (Instr.lookup Zn (.map x2) (I p1) true) λ(x3:Int×Bool×Unit)=>L.ite (!x3.2.1) (K (.tuple #[.string s_,I 6]))<|L.nonnil p0 λa4=>L.load (.one (.map)) (a4.add 0) λ(x5:Option Nat)=>L.semR Pr (.one (.agg [.str,.ptr])) (Instr.lookup Zf (.map x5) (I x3.1) false) λ(x6:B0×Option Addr×Unit)=>L.new [.string s_,.pointer none] Xy λb7=>L.store (⟨b7,0,none⟩) [.string x6.1,.pointer x6.2.1]<|L.load eP6 (Ad6 b7 1) λ(x8:Option Addr)=>L.call Pr Uv [.pointer x8,I p1] rI λ(x9:Int)=>L.nonnil p0 λa10=>L.load (.one (.map)) (a10.add 1) λ(x11:Option Nat)=>L.sem Pr (.tup []) (Builtin.delete_ #[Zn,zu] T_ #[.map x11,I p1]) λ_=>L.call Pr xC [.pointer p0,I x3.1] (.tup []) λ(x12:Unit)=>L.load eS6 (Ad6 b7 0) λ(x13:B0)=>K (.tuple #[.string x13,I 0])
def pr(p0:Option Addr)(p1:Int)(h:KV p0 p1 K w):CV uB [.v (.pointer p0),.v (.int .i64 p1)] K w:=zF Tryz.f160 .auto _ h
def PG(p0:Option Addr)(K:Value→PT):PT:=
  L.nonnil p0 λa1=>L.load eI6 (a1.add 0) λ(x2:Int)=>L.ite (x2 != 1) (K (I 9))<|L.nonnil p0 λa3=>L.store (a3.add 0) [I 2]<|K (I 0)
def Wr(p0:Option Addr)(h:PG p0 K w):CV gI [.v (.pointer p0)] K w:=zF Tryz.f161 .auto _ h
def Ce:Ann:=(.q2 (.seq (.q2 (.q2 .auto (some [(9,eI6),(10,eI6)])) none) .auto none) none)
def Gu(p0:Option Addr)(K:Value→PT):PT:=
  L.new [.pointer p0] xP λb1=>L.new [I 0] zu λb2=>L.new [.bool false] qX λb3=>L.load eP6 (⟨b1,0,none⟩) λ(x4:Option Addr)=>L.nonnil x4 λa5=>L.call Pr jl [.pointer (some (a5.add 0))] (.one (.one (.func))) λ(x6:FV)=>L.range Pr none (.func x6.fn x6.fs x6.cs) [eI6,eI6] (λl7(y8:Int×Int×Unit) R9=>L.begin Pr l7<|L.draw<|L.load eP6 (⟨b1,0,none⟩) λ(x12:Option Addr)=>L.load eP6 (⟨b1,0,none⟩) λ(x13:Option Addr)=>L.nonnil x13 λa14=>L.load eL6 ((a14.add 0).add 0) λ(x15:Sl)=>L.guard (0≤(1:Int)∧(1:Int)≤((x15.len:Nat):Int)∧((x15.len:Nat):Int)≤((x15.cap:Nat):Int)∧((x15.cap:Nat):Int)≤x15.cap)<|L.nonnil x12 λa16=>L.store ((a16.add 0).add 0) [.slice (if Int.toNat ((x15.cap:Nat):Int)=Int.toNat (1:Int)then x15.a else Option.map (λa:Addr=>a.add (Int.toNat (1:Int)*2)) x15.a) (Int.toNat ((x15.len:Nat):Int)-Int.toNat (1:Int)) (Int.toNat ((x15.cap:Nat):Int)-Int.toNat (1:Int))]<|L.store (⟨b2,0,none⟩) [I y8.1]<|L.store (⟨b3,0,none⟩) [.bool true]<|L.endRound Pr l7 (some .ret) R9) λd10 j11=>L.jump j11 (L.store (⟨b2,0,none⟩) [I 0]<|L.store (⟨b3,0,none⟩) [.bool false]<|L.unmark Pr (d10++[])<|L.load eI6 (⟨b2,0,none⟩) λ(x17:Int)=>L.load eB6 (⟨b3,0,none⟩) λ(x18:Bool)=>K (.tuple #[I x17,.bool x18])) (L.unmark Pr (d10++[])<|L.load eI6 (⟨b2,0,none⟩) λ(x19:Int)=>L.load eB6 (⟨b3,0,none⟩) λ(x20:Bool)=>K (.tuple #[I x19,.bool x20])) []
def cR(p0:Option Addr)(h:Gu p0 K w):CV Vz [.v (.pointer p0)] K w:=zF Tryz.f162 Ce _ h
def xg(p0:Sl)(K:Value→PT):PT:=
  L.ite ((p0.a).isNone) (K (.slice none 0 0))<|L.new [] zA λb1=>L.sem Pr (.one (.one .slice)) (Builtin.append_ #[zI,zI] zI #[.slice (some ⟨b1,0,none⟩) 0 0,Sv6 p0]) λ(s2:Sl)=>K (.slice s2.a s2.len s2.cap)
def uH(p0:Sl)(h:xg p0 K w):CV ZZ [.v (.slice p0.a p0.len p0.cap)] K w:=zF Tryz.f163 .auto _ h
def DM:Ann:=(.q2 (.q2 (.q2 (.seq (.q2 (.one [(21,eI6)] .auto) none) .auto none) none) none) none)
def Fh(p0:Option Addr)(K:Value→PT):PT:=
  L.nonnil p0 λa1=>L.load eI6 (a1.add 0) λ(x2:Int)=>L.ite (x2 == 4) (K (.tuple #[.slice none 0 0,I 9]))<|L.nonnil p0 λa3=>L.load (.one (.map)) ((a3.add 1).add 0) λ(x4:Option Nat)=>L.call Pr YU [.map x4] (.one (.one (.func))) λ(x5:FV)=>L.call Pr jm [.func x5.fn x5.fs x5.cs] rL λ(x6:Sl)=>L.call Pr ZT [Sv6 x6] rL λ(x7:Sl)=>L.loop (Y:=Int×Unit) (0,()) λy8 again9=>L.ite (decide (y8.1<((x7.len:Nat):Int))) (L.idx x7.a y8.1 x7.len 1 λa10=>L.load eI6 a10 λ(x11:Int)=>L.nonnil p0 λa12=>L.call Pr XE [.pointer (some (a12.add 1)),I x11] rI λ(x13:Int)=>again9 (Wi (y8.1+1),()))<|L.nonnil p0 λa14=>L.store (a14.add 0) [I 4]<|K (.tuple #[Sv6 x7,I 0])
def DE(p0:Option Addr)(h:Fh p0 K w):CV Uu [.v (.pointer p0)] K w:=zF Tryz.f164 DM _ h
def oG(p0:Option Addr)(p1:Int)(K:Value→PT):PT:=
  L.nonnil p0 λa1=>L.load (.one (.map)) (a1.add 0) λ(x2:Option Nat)=>L.semR Pr (.one (.agg [.str,.ptr])) (Instr.lookup Zf (.map x2) (I p1) false) λ(x3:B0×Option Addr×Unit)=>L.call Pr yO [.pointer x3.2.1] rI λ(x4:Int)=>L.ite (x4 == 4) (L.nonnil p0 λa5=>L.load (.one (.map)) (a5.add 0) λ(x6:Option Nat)=>L.sem Pr (.tup []) (Builtin.delete_ #[Zf,zu] T_ #[.map x6,I p1]) λ_=>K (.tuple #[]))<|K (.tuple #[])
def PQ(p0:Option Addr)(p1:Int)(h:oG p0 p1 K w):CV xC [.v (.pointer p0),.v (.int .i64 p1)] K w:=zF Tryz.f165 .auto _ h
def Qh(p0:Option Addr)(K:Value→PT):PT:=
  L.new [.pointer p0] Zt λb1=>K (.func (.func yP) #[] #[.pointer (some (⟨b1,0,none⟩))])
def oc(p0:Option Addr)(h:Qh p0 K w):CV qO [.v (.pointer p0)] K w:=zF Tryz.f166 .auto _ h
def OB(p0:Option Addr)(p1:Int)(K:Value→PT):PT:=
  L.nonnil p0 λa1=>L.call Pr VO [.pointer (some (a1.add 0)),I p1] rL λ(x2:Sl)=>K (.slice x2.a x2.len x2.cap)
def Td(p0:Option Addr)(p1:Int)(h:OB p0 p1 K w):CV vr [.v (.pointer p0),.v (.int .i64 p1)] K w:=zF Tryz.f167 .auto _ h
def OF(p0:Option Addr)(K:Value→PT):PT:=
  L.nonnil p0 λa1=>L.load (.one (.map)) (a1.add 0) λ(x2:Option Nat)=>L.call Pr yX [.map x2] rL λ(x3:Sl)=>L.call Pr yf [Sv6 x3] rL λ(x4:Sl)=>K (.slice x4.a x4.len x4.cap)
def Th(p0:Option Addr)(h:OF p0 K w):CV vt [.v (.pointer p0)] K w:=zF Tryz.f168 .auto _ h
def Vq(p0:Option Addr)(p1:Int)(K:Value→PT):PT:=
  L.draw<|L.nonnil p0 λa1=>L.load eI6 (a1.add 60) λ(x2:Int)=>L.guard (60≠(0:Int))<|L.nonnil p0 λa3=>L.idx (some (a3.add 0)) (Int.tmod x2 60) 60 1 λa4=>L.store a4 [I p1]<|L.nonnil p0 λa5=>L.load eI6 (a5.add 60) λ(x6:Int)=>L.nonnil p0 λa7=>L.store (a7.add 60) [I (Wi (x6+1))]<|K (.tuple #[])
def FD(p0:Option Addr)(p1:Int)(h:Vq p0 p1 K w):CV qM [.v (.pointer p0),.v (.int .i64 p1)] K w:=zF Tryz.f169 .auto _ h
def qC(p0:Option Addr)(p1:B0)(K:Value→PT):PT:=
  L.new [.string s_,I 0,I 0,I 0,I 0,I 0,I 0,I 0,.bool false] zT λb1=>L.nonnil p0 λa2=>L.load (.one (.map)) (a2.add 0) λ(x3:Option Nat)=>L.semR Pr (.one (.agg lf9)) (Instr.lookup Zm (.map x3) (.string p1) false) λ(x4:ay)=>L.new [.string s_,I 0,I 0,I 0,I 0,I 0,I 0,I 0,.bool false] zT λb5=>L.store (⟨b5,0,none⟩) [.string x4.1,I x4.2.1,I x4.2.2.1,I x4.2.2.2.1,I x4.2.2.2.2.1,I x4.2.2.2.2.2.1,I x4.2.2.2.2.2.2.1,I x4.2.2.2.2.2.2.2.1,.bool x4.2.2.2.2.2.2.2.2.1]<|L.draw<|L.load (.agg lf9) (⟨b5,0,none⟩) λ(x6:ay)=>L.load eB6 (Ad6 b5 8) λ(x7:Bool)=>L.store (⟨b1,0,none⟩) [.string x6.1,I x6.2.1,I x6.2.2.1,I x6.2.2.2.1,I x6.2.2.2.2.1,I x6.2.2.2.2.2.1,I x6.2.2.2.2.2.2.1,I x6.2.2.2.2.2.2.2.1,.bool x6.2.2.2.2.2.2.2.2.1]<|L.chk (Ad6 b5 8) [.bool x7]<|L.load (.agg lf9) (⟨b1,0,none⟩) λ(x8:ay)=>K (.tuple #[(qa5 x8),.bool x7])
def kO(p0:Option Addr)(p1:B0)(h:qC p0 p1 K w):CV Jz [.v (.pointer p0),.v (.string p1)] K w:=zF Tryz.f170 .auto _ h
def cE(p0:B0)(p1:Int)(K:Value→PT):PT:=
  L.call Pr XF [.string p0] rB λ(x1:Bool)=>L.ite (!x1) (K (.string s_))<|L.ite (decide (p1<1)) (K (.string s_))<|L.ite (decide (p1>999999)) (K (.string s_))<|L.guard (((p0.size+s__.size:Nat):Int)≤UB)<|L.call Pr Xf [I p1] rS λ(x2:B0)=>L.guard ((((p0++s__).size+x2.size:Nat):Int)≤UB)<|K (.string ((p0++s__)++x2))
def rf(p0:B0)(p1:Int)(h:cE p0 p1 K w):CV ox [.v (.string p0),.v (.int .i64 p1)] K w:=zF Tryz.f171 .auto _ h
def Qg(p0:Option Addr)(p1:B0)(K:Value→PT):PT:=
  L.new [.string s_,.string s_,.slice none 0 0,I 0,I 0,I 0,.bool false] zY λb1=>L.nonnil p0 λa2=>L.load (.one (.map)) (a2.add 0) λ(x3:Option Nat)=>L.semR Pr (.one (.agg lV)) (Instr.lookup Zs (.map x3) (.string p1) false) λ(x4:ax)=>L.new [.string s_,.string s_,.slice none 0 0,I 0,I 0,I 0,.bool false] zY λb5=>L.store (⟨b5,0,none⟩) [.string x4.1,.string x4.2.1,Sv6 x4.2.2.1,I x4.2.2.2.1,I x4.2.2.2.2.1,I x4.2.2.2.2.2.1,.bool x4.2.2.2.2.2.2.1]<|L.draw<|L.load (.agg lV) (⟨b5,0,none⟩) λ(x6:ax)=>L.load eB6 (Ad6 b5 6) λ(x7:Bool)=>L.store (⟨b1,0,none⟩) [.string x6.1,.string x6.2.1,Sv6 x6.2.2.1,I x6.2.2.2.1,I x6.2.2.2.2.1,I x6.2.2.2.2.2.1,.bool x6.2.2.2.2.2.2.1]<|L.chk (Ad6 b5 6) [.bool x7]<|L.load (.agg lV) (⟨b1,0,none⟩) λ(x8:ax)=>K (.tuple #[(qa6 x8),.bool x7])
def ob(p0:Option Addr)(p1:B0)(h:Qg p0 p1 K w):CV JX [.v (.pointer p0),.v (.string p1)] K w:=zF Tryz.f172 .auto _ h
def Mp(p0:HT [.str,.str,.int .i64])(p1:ht2)(p2:Option Addr)(K:Value→PT):PT:=
  L.new [.string p0.1,.string p0.2.1,I p0.2.2.1] zH λb1=>L.new [.string p1.1,.string p1.2.1,Sv6 p1.2.2.1,I p1.2.2.2.1] Zb λb2=>L.load eS6 (Ad6 b1 0) λ(x3:B0)=>L.ite (x3.toList == s_.toList) (L.load eS6 (Ad6 b2 1) λ(x4:B0)=>L.call Pr QJ [.pointer p2,.string x4] (.tup [eS6,eS6]) λ(x5:B0×B0×Unit)=>L.ite (x5.2.1.toList == s_.toList) (K (.tuple #[.string s_,I 9]))<|K (.tuple #[.string x5.2.1,I 0]))<|L.load eS6 (Ad6 b1 0) λ(x6:B0)=>L.call Pr jF [.pointer p2,.string x6] (.tup [(.agg lf4),eB6]) λ(x7:pt6)=>L.new [.string s_,I 0,.string s_,I 0,I 0,I 0,I 0,I 0] zU λb8=>L.store (⟨b8,0,none⟩) [.string x7.1.1,I x7.1.2.1,.string x7.1.2.2.1,I x7.1.2.2.2.1,I x7.1.2.2.2.2.1,I x7.1.2.2.2.2.2.1,I x7.1.2.2.2.2.2.2.1,I x7.1.2.2.2.2.2.2.2.1]<|L.ite (!x7.2.1) (K (.tuple #[.string s_,I 6]))<|L.load eS6 (Ad6 b1 0) λ(x9:B0)=>L.call Pr Yq [.pointer p2,.string x9] rB λ(x10:Bool)=>L.ite (!x10) (K (.tuple #[.string s_,I 9]))<|L.load eS6 (Ad6 b1 0) λ(x11:B0)=>K (.tuple #[.string x11,I 0])
def nk(p0:HT [.str,.str,.int .i64])(p1:ht2)(p2:Option Addr)(h:Mp p0 p1 p2 K w):CV oO [.ag [.string p0.1,.string p0.2.1,.int .i64 p0.2.2.1],.ag (qc2 p1),.v (.pointer p2)] K w:=zF Tryz.f173 .auto _ h
def QF(p0:Option Nat)(K:Value→PT):PT:=
  L.new [.map p0] ZE λb1=>K (.func (.func yY) #[] #[.pointer (some (⟨b1,0,none⟩))])
def om(p0:Option Nat)(h:QF p0 K w):CV QC [.v (.map p0)] K w:=zF Tryz.f174 .auto _ h
def qa(p0:Option Nat)(K:Value→PT):PT:=
  L.new [.map p0] Zj λb1=>K (.func (.func yz) #[] #[.pointer (some (⟨b1,0,none⟩))])
def VI(p0:Option Nat)(h:qa p0 K w):CV XU [.v (.map p0)] K w:=zF Tryz.f175 .auto _ h
def Ds(p0:HT [.slice,.slice])(K:Value→PT):PT:=
  L.new [Sv6 p0.1,Sv6 p0.2.1] zr λb1=>L.new [.slice none 0 0,.slice none 0 0] zr λb2=>L.draw<|L.load eL6 (Ad6 b1 0) λ(x3:Sl)=>L.load eL6 (Ad6 b1 1) λ(x4:Sl)=>L.call Pr Zr [Sv6 x3] rL λ(x5:Sl)=>L.chk (Ad6 b1 1) [Sv6 x4]<|L.call Pr YJ [Sv6 x4] rL λ(x6:Sl)=>L.store (⟨b2,0,none⟩) [Sv6 x5,Sv6 x6]<|L.load (.agg [.slice,.slice]) (⟨b2,0,none⟩) λ(x7:Sl×Sl×Unit)=>K (.agg #[Sv6 x7.1,Sv6 x7.2.1])
def bC(p0:HT [.slice,.slice])(h:Ds p0 K w):CV YK [.ag [.slice p0.1.a p0.1.len p0.1.cap,.slice p0.2.1.a p0.2.1.len p0.2.1.cap]] K w:=zF Tryz.f176 .auto _ h
def nv:Ann:=(.q2 (.seq (.q2 (.one [(2,eL6),(11,eI6)] .auto) none) (.seq (.q2 (.one [(3,eL6),(28,eI6)] .auto) none) .auto none) none) none)
def Mf(p0:HT [.slice,.slice])(K:Value→PT):PT:=
  L.new [Sv6 p0.1,Sv6 p0.2.1] zr λb1=>L.load eL6 (Ad6 b1 0) λ(x2:Sl)=>L.loop (Y:=Sl×Int×Unit) (⟨none,0,0⟩,0,()) λy3 again4=>L.ite (decide (y3.2.1<((x2.len:Nat):Int))) (L.idx x2.a y3.2.1 x2.len 2 λa5=>L.load (.agg [.str,.int .i64]) a5 λ(x6:B0×Int×Unit)=>L.new [.string s_,I 0] Zg λb7=>L.store (⟨b7,0,none⟩) [.string x6.1,I x6.2.1]<|L.draw<|L.load eS6 (Ad6 b7 0) λ(x8:B0)=>L.load eI6 (Ad6 b7 1) λ(x9:Int)=>L.call Pr Xf [I x9] rS λ(x10:B0)=>L.chk (Ad6 b7 0) [.string x8]<|L.new [.string x8,.string x10] JC λb11=>L.sem Pr (.one (.one .slice)) (Builtin.append_ #[xe,xe] xe #[Sv6 y3.1,.slice (some ⟨b11,0,none⟩) 1 1]) λ(s12:Sl)=>again4 (⟨s12.a,s12.len,s12.cap⟩,Wi (y3.2.1+1),()))<|L.load eL6 (Ad6 b1 1) λ(x13:Sl)=>L.loop (Y:=Sl×Int×Unit) (⟨none,0,0⟩,0,()) λy14 again15=>L.ite (decide (y14.2.1<((x13.len:Nat):Int))) (L.idx x13.a y14.2.1 x13.len 2 λa16=>L.load (.agg [.str,.str]) a16 λ(x17:B0×B0×Unit)=>L.new [.string s_,.string s_] JI λb18=>L.store (⟨b18,0,none⟩) [.string x17.1,.string x17.2.1]<|L.load eS6 (Ad6 b18 0) λ(x19:B0)=>L.load eS6 (Ad6 b18 1) λ(x20:B0)=>L.new [.string x19,.string x20] JC λb21=>L.sem Pr (.one (.one .slice)) (Builtin.append_ #[xe,xe] xe #[Sv6 y14.1,.slice (some ⟨b21,0,none⟩) 1 1]) λ(s22:Sl)=>again15 (⟨s22.a,s22.len,s22.cap⟩,Wi (y14.2.1+1),()))<|K (.tuple #[Sv6 y3.1,Sv6 y14.1])
def DX(p0:HT [.slice,.slice])(h:Mf p0 K w):CV oJ [.ag [.slice p0.1.a p0.1.len p0.1.cap,.slice p0.2.1.a p0.2.1.len p0.2.1.cap]] K w:=zF Tryz.f177 nv _ h
def uK:Ann:=(.q2 (.q2 (.seq (.q2 (.one [(13,eI6)] .auto) none) .auto none) none) none)
def xf(p0 p1:Sl)(K:Value→PT):PT:=
  L.ite (((p0.len:Nat):Int) != ((p1.len:Nat):Int)) (K (.bool false))<|L.loop (Y:=Int×Unit) (0,()) λy1 again2=>L.ite (decide (y1.1<((p0.len:Nat):Int))) (L.draw<|L.idx p0.a y1.1 p0.len 2 λa3=>L.load (.agg [.str,.int .i64]) a3 λ(x4:B0×Int×Unit)=>L.idx p1.a y1.1 p1.len 2 λa5=>L.load (.agg [.str,.int .i64]) a5 λ(x6:B0×Int×Unit)=>L.chkSem Pr (do eqGuard .neq Zg (.tmp 0) (.tmp 0) (.agg #[.string x4.1,I x4.2.1]) (.agg #[.string x6.1,I x6.2.1]);binOp .neq Zg (.agg #[.string x4.1,I x4.2.1]) (.agg #[.string x6.1,I x6.2.1])) (.bool (!((x4.1 == x6.1)&&((x4.2.1 == x6.2.1)&&true))))<|L.ite (!((x4.1 == x6.1)&&((x4.2.1 == x6.2.1)&&true))) (K (.bool false))<|again2 (Wi (y1.1+1),()))<|K (.bool true)
def uG(p0 p1:Sl)(h:xf p0 p1 K w):CV yM [.v (.slice p0.a p0.len p0.cap),.v (.slice p1.a p1.len p1.cap)] K w:=zF Tryz.f178 uK _ h
def nD:Ann:=(.q2 (.seq (.q2 .auto (some [(18,eB6)])) (.q2 (.q2 (.q2 (.seq (.q2 (.one [(11,eI6),(42,eI6)] (.q2 (.q2 (.q2 .auto (some [(11,eI6)])) none) none)) none) (.q2 (.seq (.q2 (.one [(11,eI6),(14,eL6),(77,eI6)] (.q2 (.q2 (.seq (.q2 (.q2 (.q2 .auto (some [(11,eI6)])) none) none) .auto (some [(11,eI6),(14,eL6)])) none) none)) none) .auto none) none) none) none) none) none) none) none)
def Mn(p0 p1:Sl)(p2 p3:Int)(K:Value→PT):PT:=
  L.join (Y:=Bool×Unit) (λk1=>L.ite (decide (p3≤0)) (k1 (true,()))<|k1 (decide (p2≥p3),())) λz2=>L.ite z2.1 (L.call Pr Zr [Sv6 p1] rL λ(x3:Sl)=>K (.slice x3.a x3.len x3.cap))<|L.ite (decide (p2≤0)) (L.call Pr Zr [Sv6 p0] rL λ(x4:Sl)=>K (.slice x4.a x4.len x4.cap))<|L.new [Sv6 p0,Sv6 p1] Zl λb5=>L.call Pr jG [.func (.func gH) #[] #[],.slice (some ⟨b5,0,none⟩) 2 2] rL λ(x6:Sl)=>L.sem Pr (.one (.one .slice)) (Instr.makeSlice ZO (I ((x6.len:Nat):Int)) (I ((x6.len:Nat):Int))) λ(s7:Sl)=>L.loop (Y:=Int×Int×Unit) (0,0,()) λy8 again9=>L.ite (decide (y8.2.1<((x6.len:Nat):Int))) (L.join (Y:=Int×Unit) (λk10=>L.draw<|L.idx x6.a y8.2.1 x6.len 1 λa12=>L.load eS6 a12 λ(x13:B0)=>L.idx x6.a y8.2.1 x6.len 1 λa14=>L.load eS6 a14 λ(x15:B0)=>L.call Pr qc [Sv6 p1,.string x13] rI λ(x16:Int)=>L.chk a14 [.string x15]<|L.call Pr qc [Sv6 p0,.string x15] rI λ(x17:Int)=>L.ite (decide ((Wi (x16-x17))>0)) (L.guard (p3≠(0:Int))<|L.idx s7.a y8.2.1 s7.len 1 λa18=>L.store a18 [I (Wi (Int.tdiv (Wi ((Wi (x16-x17))*p2)) p3))]<|L.idx s7.a y8.2.1 s7.len 1 λa19=>L.load eI6 a19 λ(x20:Int)=>k10 (Wi (y8.1+x20),()))<|k10 (y8.1,())) λz11=>again9 (z11.1,Wi (y8.2.1+1),()))<|L.loop (Y:=Int×Sl×Int×Unit) (y8.1,⟨none,0,0⟩,0,()) λy21 again22=>L.ite (decide (y21.2.2.1<((x6.len:Nat):Int))) (L.join (Y:=Int×Sl×Unit) (λk23=>L.idx x6.a y21.2.2.1 x6.len 1 λa25=>L.load eS6 a25 λ(x26:B0)=>L.call Pr qc [Sv6 p0,.string x26] rI λ(x27:Int)=>L.join (Y:=Int×Unit) (λk28=>L.idx x6.a y21.2.2.1 x6.len 1 λa30=>L.load eS6 a30 λ(x31:B0)=>L.call Pr qc [Sv6 p1,.string x31] rI λ(x32:Int)=>L.ite (decide ((Wi (x27-x32))>0)) (L.idx s7.a y21.2.2.1 s7.len 1 λa33=>L.store a33 [I (Wi (0-(if y21.1<(Wi (x27-x32))then y21.1 else(Wi (x27-x32)))))]<|L.idx s7.a y21.2.2.1 s7.len 1 λa34=>L.load eI6 a34 λ(x35:Int)=>k28 (Wi (y21.1+x35),()))<|k28 (y21.1,())) λz29=>L.idx s7.a y21.2.2.1 s7.len 1 λa36=>L.load eI6 a36 λ(x37:Int)=>L.ite (decide ((Wi (x27+x37))>0)) (L.idx x6.a y21.2.2.1 x6.len 1 λa38=>L.load eS6 a38 λ(x39:B0)=>L.new [.string x39,I (Wi (x27+x37))] Zg λb40=>L.sem Pr (.one (.one .slice)) (Builtin.append_ #[Zl,Zl] Zl #[Sv6 y21.2.1,.slice (some ⟨b40,0,none⟩) 1 1]) λ(s41:Sl)=>k23 (z29.1,⟨s41.a,s41.len,s41.cap⟩,()))<|k23 (z29.1,⟨y21.2.1.a,y21.2.1.len,y21.2.1.cap⟩,())) λz24=>again22 (z24.1,⟨z24.2.1.a,z24.2.1.len,z24.2.1.cap⟩,Wi (y21.2.2.1+1),()))<|L.call Pr Zr [Sv6 y21.2.1] rL λ(x42:Sl)=>K (.slice x42.a x42.len x42.cap)
def ni(p0 p1:Sl)(p2 p3:Int)(h:Mn p0 p1 p2 p3 K w):CV oN [.v (.slice p0.a p0.len p0.cap),.v (.slice p1.a p1.len p1.cap),.v (.int .i64 p2),.v (.int .i64 p3)] K w:=zF Tryz.f179 nD _ h
def vb(p0:Option Addr)(K:Value→PT):PT:=
  L.new [.pointer p0] uD λb1=>K (.func (.func YR) #[] #[.pointer (some (⟨b1,0,none⟩))])
def fc(p0:Option Addr)(h:vb p0 K w):CV ql [.v (.pointer p0)] K w:=zF Tryz.f180 .auto _ h
def PF(p0 p1 p2:Int)(K:Value→PT):PT:=
  L.ite (decide (p1≤0)) (K (I 0))<|L.ite (decide (p2≤0)) (K (I 0))<|L.guard ((Wi (p1*p2))≠(0:Int))<|K (I (Wi (Int.tdiv (Wi ((Wi (p0+(Wi (p1*p2))))-1)) (Wi (p1*p2)))))
def Wq(p0 p1 p2:Int)(h:PF p0 p1 p2 K w):CV XD [.v (.int .i64 p0),.v (.int .i64 p1),.v (.int .i64 p2)] K w:=zF Tryz.f181 .auto _ h
def UZ(p0:HT [.int .i64,.int .i64])(p1 p2:Int)(K:Value→PT):PT:=
  L.new [I p0.1,I p0.2.1] ZW λb1=>L.ite (decide (p1≥(Wi (2*p2)))) (K (I 6))<|L.load eI6 (Ad6 b1 1) λ(x2:Int)=>K (I (if 0>(Wi (x2-1))then 0 else(Wi (x2-1))))
def fb(p0:HT [.int .i64,.int .i64])(p1 p2:Int)(h:UZ p0 p1 p2 K w):CV xn [.ag [.int .i64 p0.1,.int .i64 p0.2.1],.v (.int .i64 p1),.v (.int .i64 p2)] K w:=zF Tryz.f182 .auto _ h
def KH(p0 p1:HT [.int .i64,.int .i64])(K:Value→PT):PT:=
  L.new [I p0.1,I p0.2.1] ZW λb1=>L.new [I p1.1,I p1.2.1] oC λb2=>L.load eI6 (Ad6 b1 0) λ(x3:Int)=>L.idx (some (⟨b2,0,none⟩)) 0 2 1 λa4=>L.load eI6 a4 λ(x5:Int)=>L.idx (some (⟨b2,0,none⟩)) 1 2 1 λa6=>L.load eI6 a6 λ(x7:Int)=>K (I (if x7>(if x5>x3 then x5 else x3)then x7 else(if x5>x3 then x5 else x3)))
def pc(p0 p1:HT [.int .i64,.int .i64])(h:KH p0 p1 K w):CV ut [.ag [.int .i64 p0.1,.int .i64 p0.2.1],.ag [.int .i64 p1.1,.int .i64 p1.2.1]] K w:=zF Tryz.f183 .auto _ h
def Fe(p0:ht0)(p1 p2:Int)(K:Value→PT):PT:=
  L.new [.string p0.1,I p0.2.1,I p0.2.2.1,I p0.2.2.2.1,I p0.2.2.2.2.1,I p0.2.2.2.2.2.1] zx λb1=>L.new [I 0,I 0,I 0,I 0] BB λb2=>L.guard (2≠(0:Int))<|L.load eI6 (Ad6 b1 3) λ(x3:Int)=>L.load eI6 (Ad6 b1 4) λ(x4:Int)=>L.store (⟨b2,0,none⟩) [I (Wi (4*p2)),I (Wi (Int.tdiv p1 2)),I x3,I x4]<|L.load (.agg [.int .i64,.int .i64,.int .i64,.int .i64]) (⟨b2,0,none⟩) λ(x5:Int×Int×Int×Int×Unit)=>K (.agg #[I x5.1,I x5.2.1,I x5.2.2.1,I x5.2.2.2.1])
def DB(p0:ht0)(p1 p2:Int)(h:Fe p0 p1 p2 K w):CV Kh [.ag (qc0 p0),.v (.int .i64 p1),.v (.int .i64 p2)] K w:=zF Tryz.f184 .auto _ h
def TC:Ann:=(.q2 (.q2 (.seq (.q2 (.q2 .auto (some [(11,eI6),(12,eP6)])) none) .auto none) none) none)
def ON(p0:Option Addr)(p1:B0)(K:Value→PT):PT:=
  L.new [I 0] zu λb1=>L.store (⟨b1,0,none⟩) [I 0]<|L.call Pr JN [.pointer p0,.string p1] (.one (.one (.func))) λ(x2:FV)=>L.range Pr none (.func x2.fn x2.fs x2.cs) [eI6,eP6] (λl3(y4:Int×Option Addr×Unit) R5=>L.begin Pr l3<|L.call Pr yO [.pointer y4.2.1] rI λ(x8:Int)=>L.ite (x8 != 3) (L.load eI6 (⟨b1,0,none⟩) λ(x9:Int)=>L.store (⟨b1,0,none⟩) [I (Wi (x9+1))]<|L.endRound Pr l3 none R5)<|L.endRound Pr l3 none R5) λd6 j7=>L.jump j7 (L.load eI6 (⟨b1,0,none⟩) λ(x10:Int)=>L.unmark Pr (d6++[])<|K (I x10)) (L.unmark Pr (d6++[])<|K (I 0)) []
def Ts(p0:Option Addr)(p1:B0)(h:ON p0 p1 K w):CV vy [.v (.pointer p0),.v (.string p1)] K w:=zF Tryz.f185 TC _ h
def NX(p0:Int)(K:Value→PT):PT:=
  L.sem Pr (.one (.one .map)) (Instr.makeMap Ye none) λ(m1:Option Nat)=>L.new [I 1,.map m1,I p0] kZ λb2=>K (.pointer (some (⟨b2,0,none⟩)))
def se(p0:Int)(h:NX p0 K w):CV tt [.v (.int .i64 p0)] K w:=zF Tryz.f186 .auto _ h
def mO:Ann:=(.q2 (.q2 (.seq (.q2 (.q2 (.q2 (.q2 (.cond .auto .auto) none) none) (some [(13,eI6),(14,eP6)])) none) .auto none) none) none)
def kb(p0:Option Addr)(p1:B0)(K:Value→PT):PT:=
  L.new [I 0] zu λb1=>L.new [I 0] zu λb2=>L.new [I 0] zu λb3=>L.store (⟨b1,0,none⟩) [I 0]<|L.store (⟨b2,0,none⟩) [I 3]<|L.store (⟨b3,0,none⟩) [I 0]<|L.call Pr JN [.pointer p0,.string p1] (.one (.one (.func))) λ(x4:FV)=>L.range Pr none (.func x4.fn x4.fs x4.cs) [eI6,eP6] (λl5(y6:Int×Option Addr×Unit) R7=>L.begin Pr l5<|L.call Pr yO [.pointer y6.2.1] rI λ(x10:Int)=>L.ite (x10 == 3) (L.endRound Pr l5 none R7)<|L.draw<|L.load eI6 (⟨b2,0,none⟩) λ(x11:Int)=>L.call Pr yO [.pointer y6.2.1] rI λ(x12:Int)=>L.chk (⟨b2,0,none⟩) [I x11]<|L.ite (decide (x12<x11)) (L.call Pr yO [.pointer y6.2.1] rI λ(x13:Int)=>L.call Pr je [.pointer y6.2.1] rI λ(x14:Int)=>L.store (⟨b1,0,none⟩) [I y6.1]<|L.store (⟨b2,0,none⟩) [I x13]<|L.store (⟨b3,0,none⟩) [I x14]<|L.endRound Pr l5 none R7)<|L.load eI6 (⟨b2,0,none⟩) λ(x15:Int)=>L.call Pr yO [.pointer y6.2.1] rI λ(x16:Int)=>L.chk (⟨b2,0,none⟩) [I x15]<|L.ite (x16 == x15) (L.load eI6 (⟨b3,0,none⟩) λ(x17:Int)=>L.call Pr je [.pointer y6.2.1] rI λ(x18:Int)=>L.chk (⟨b3,0,none⟩) [I x17]<|L.ite (decide (x18≤x17)) (L.call Pr yO [.pointer y6.2.1] rI λ(x19:Int)=>L.call Pr je [.pointer y6.2.1] rI λ(x20:Int)=>L.store (⟨b1,0,none⟩) [I y6.1]<|L.store (⟨b2,0,none⟩) [I x19]<|L.store (⟨b3,0,none⟩) [I x20]<|L.endRound Pr l5 none R7)<|L.endRound Pr l5 none R7)<|L.endRound Pr l5 none R7) λd8 j9=>L.jump j9 (L.load eI6 (⟨b1,0,none⟩) λ(x21:Int)=>L.unmark Pr (d8++[])<|K (I x21)) (L.unmark Pr (d8++[])<|K (I 0)) []
def mG(p0:Option Addr)(p1:B0)(h:kb p0 p1 K w):CV QL [.v (.pointer p0),.v (.string p1)] K w:=zF Tryz.f187 mO _ h
def Cg:Ann:=(.q2 (.seq (.q2 (.cond .auto .auto) none) .auto (some [])) none)
def Gz(p0:Option Addr)(K:Value→PT):PT:=
  L.join (Y:=Unit) (λk1=>L.nonnil p0 λa3=>L.load eI6 (a3.add 0) λ(x4:Int)=>L.ite (x4 != 1) (L.nonnil p0 λa5=>L.load eI6 (a5.add 0) λ(x6:Int)=>L.ite (x6 != 2) (K (I 9))<|k1 (()))<|k1 (())) λz2=>L.nonnil p0 λa7=>L.store (a7.add 0) [I 3]<|L.call Pr vR [.pointer p0] (.tup []) λ(x8:Unit)=>K (I 0)
def cY(p0:Option Addr)(h:Gz p0 K w):CV VA [.v (.pointer p0)] K w:=zF Tryz.f188 Cg _ h
def VT(p0:Option Addr)(K:Value→PT):PT:=
  L.new [.pointer p0] Xo λb1=>K (.func (.func jw) #[] #[.pointer (some (⟨b1,0,none⟩))])
def my(p0:Option Addr)(h:VT p0 K w):CV jl [.v (.pointer p0)] K w:=zF Tryz.f191 .auto _ h
def pF:Ann:=(.q2 (.one [(14,eI6)] (.q2 (.q2 (.seq (.q2 (.q2 (.q2 (.cond .auto .auto) none) none) none) .auto (some [])) none) none)) none)
def KR(p0:FV)(c0:Addr)(c1:Addr)(K:Value→PT):PT:=
  L.load eP6 c0 λ(x1:Option Addr)=>L.nonnil x1 λa2=>L.load (.one (.map)) (a2.add 0) λ(x3:Option Nat)=>L.call Pr yH [.map x3] (.one (.one (.func))) λ(x4:FV)=>L.call Pr jm [.func x4.fn x4.fs x4.cs] rL λ(x5:Sl)=>L.loop (Y:=Int×Unit) (0,()) λy6 again7=>L.ite (decide (y6.1<((x5.len:Nat):Int))) (L.join (Y:=Unit) (λk8=>L.idx x5.a y6.1 x5.len 1 λa10=>L.load eI6 a10 λ(x11:Int)=>L.load eP6 c0 λ(x12:Option Addr)=>L.nonnil x12 λa13=>L.load (.one (.map)) (a13.add 0) λ(x14:Option Nat)=>L.semR Pr (.one (.agg [.str,.ptr])) (Instr.lookup Zf (.map x14) (I x11) false) λ(x15:B0×Option Addr×Unit)=>L.new [.string s_,.pointer none] Xy λb16=>L.store (⟨b16,0,none⟩) [.string x15.1,.pointer x15.2.1]<|L.load eS6 (Ad6 b16 0) λ(x17:B0)=>L.load eS6 c1 λ(x18:B0)=>L.ite (x17.toList == x18.toList) (L.load eP6 (Ad6 b16 1) λ(x19:Option Addr)=>L.callV Pr (.func p0.fn p0.fs p0.cs) [I x11,.pointer x19] rB λ(x20:Bool)=>L.ite (!x20) (K (.tuple #[]))<|k8 (()))<|k8 (())) λz9=>again7 (Wi (y6.1+1),()))<|K (.tuple #[])
def pn(p0:FV)(c0 c1:Addr)(h:KR p0 c0 c1 K w):CV JY [.v (.func p0.fn p0.fs p0.cs),.v (.pointer (some c0)),.v (.pointer (some c1))] K w:=zF Tryz.f192 pF _ h
def MX:ZV Pr JY:=zM (by kernel_rfl)
def VX(p0:FV)(K:Value→PT):PT:=
  L.call Pr Vd [.func p0.fn p0.fs p0.cs] rL λ(x1:Sl)=>L.call Pr qk [Sv6 x1] (.tup []) λ(x2:Unit)=>K (.slice x1.a x1.len x1.cap)
def mD(p0:FV)(h:VX p0 K w):CV jm [.v (.func p0.fn p0.fs p0.cs)] K w:=zF Tryz.f193 .auto _ h
def ja(p0:Option Nat)(K:Value→PT):PT:=
  L.new [.map p0] Zf λb1=>K (.func (.func Zd) #[] #[.pointer (some (⟨b1,0,none⟩))])
def Xv(p0:Option Nat)(h:ja p0 K w):CV yH [.v (.map p0)] K w:=zF Tryz.f194 .auto _ h
def GE(p0:B0)(K:Value→PT):PT:=
  L.new [I 12,.string p0,.string s_,I 0,I 0,.string s_,I 0,I 0,I 0,I 0,I 0,.string s_,.string s_,.slice none 0 0,I 0] zC λb1=>K (.slice (some ⟨b1,0,none⟩) 1 1)
def Cd(p0:B0)(h:GE p0 K w):CV Ji [.v (.string p0)] K w:=zF Tryz.f195 .auto _ h
def cQ:ZV Pr Ji:=zM (by kernel_rfl)
def GD(p0:B0)(K:Value→PT):PT:=
  L.new [I 13,.string p0,.string s_,I 0,I 0,.string s_,I 0,I 0,I 0,I 0,I 0,.string s_,.string s_,.slice none 0 0,I 0] zC λb1=>K (.slice (some ⟨b1,0,none⟩) 1 1)
def Cc(p0:B0)(h:GD p0 K w):CV Jh [.v (.string p0)] K w:=zF Tryz.f196 .auto _ h
def cP:ZV Pr Jh:=zM (by kernel_rfl)
def GC(p0:B0)(c0:Addr)(K:Value→PT):PT:=
  L.load eP6 c0 λ(x1:Option Addr)=>L.call Pr MG [.pointer x1,.string p0] rL λ(x2:Sl)=>K (.slice x2.a x2.len x2.cap)
def Cb(p0:B0)(c0:Addr)(h:GC p0 c0 K w):CV Jg [.v (.string p0),.v (.pointer (some c0))] K w:=zF Tryz.f197 .auto _ h
def cO:ZV Pr Jg:=zM (by kernel_rfl)
def bJ:Ann:=(.q2 (.q2 (.seq (.q2 (.one [(5,eL6),(12,eI6)] (.q2 (.q2 (.q2 .auto (some [(5,eL6)])) none) none)) none) .auto none) none) none)
def Dx(p0:Option Addr)(p1:B0)(K:Value→PT):PT:=
  L.call Pr xz [.pointer p0,.string p1] rL λ(x1:Sl)=>L.loop (Y:=Sl×Int×Unit) (⟨none,0,0⟩,0,()) λy2 again3=>L.ite (decide (y2.2.1<((x1.len:Nat):Int))) (L.join (Y:=Sl×Unit) (λk4=>L.idx x1.a y2.2.1 x1.len 3 λa6=>L.load (.agg [.int .i64,.int .i64,.int .i64]) a6 λ(x7:Int×Int×Int×Unit)=>L.new [I 0,I 0,I 0] JD λb8=>L.store (⟨b8,0,none⟩) [I x7.1,I x7.2.1,I x7.2.2.1]<|L.load eI6 (Ad6 b8 1) λ(x9:Int)=>L.ite (x9 == 1) (L.load eI6 (Ad6 b8 0) λ(x10:Int)=>L.new [I 6,.string s_,.string s_,I x10,I 0,.string s_,I 0,I 0,I 0,I 0,I 0,.string s_,.string s_,.slice none 0 0,I 0] zC λb11=>L.sem Pr (.one (.one .slice)) (Builtin.append_ #[xO,xO] xO #[Sv6 y2.1,.slice (some ⟨b11,0,none⟩) 1 1]) λ(s12:Sl)=>k4 (⟨s12.a,s12.len,s12.cap⟩,()))<|k4 (⟨y2.1.a,y2.1.len,y2.1.cap⟩,())) λz5=>again3 (⟨z5.1.a,z5.1.len,z5.1.cap⟩,Wi (y2.2.1+1),()))<|K (.slice y2.1.a y2.1.len y2.1.cap)
def bG(p0:Option Addr)(p1:B0)(h:Dx p0 p1 K w):CV MG [.v (.pointer p0),.v (.string p1)] K w:=zF Tryz.f198 bJ _ h
def GB(p0:B0)(c0:Addr)(K:Value→PT):PT:=
  L.load eP6 c0 λ(x1:Option Addr)=>L.call Pr gL [.pointer x1,.string p0] rL λ(x2:Sl)=>K (.slice x2.a x2.len x2.cap)
def Ca(p0:B0)(c0:Addr)(h:GB p0 c0 K w):CV Je [.v (.string p0),.v (.pointer (some c0))] K w:=zF Tryz.f199 .auto _ h
def cN:ZV Pr Je:=zM (by kernel_rfl)
def WC:Ann:=(.q2 (.q2 (.q2 (.seq (.q2 (.one [(5,eL6),(18,eI6)] .auto) none) .auto none) none) none) none)
def PK(p0:Option Addr)(p1:B0)(K:Value→PT):PT:=
  L.call Pr Ju [.pointer p0,.string p1] (.tup [eL6,eL6]) λ(x1:Sl×Sl×Unit)=>L.loop (Y:=Sl×Int×Unit) (⟨none,0,0⟩,0,()) λy2 again3=>L.ite (decide (y2.2.1<((x1.2.1.len:Nat):Int))) (L.idx x1.2.1.a y2.2.1 x1.2.1.len 1 λa4=>L.load eI6 a4 λ(x5:Int)=>L.new [I 5,.string s_,.string s_,I x5,I 0,.string s_,I 0,I 0,I 0,I 0,I 0,.string s_,.string s_,.slice none 0 0,I 0] zC λb6=>L.sem Pr (.one (.one .slice)) (Builtin.append_ #[xO,xO] xO #[Sv6 y2.1,.slice (some ⟨b6,0,none⟩) 1 1]) λ(s7:Sl)=>again3 (⟨s7.a,s7.len,s7.cap⟩,Wi (y2.2.1+1),()))<|K (.slice y2.1.a y2.1.len y2.1.cap)
def Wv(p0:Option Addr)(p1:B0)(h:PK p0 p1 K w):CV gL [.v (.pointer p0),.v (.string p1)] K w:=zF Tryz.f200 WC _ h
def Ch:Ann:=(.seq (.q2 (.one [(12,eI6)] (.q2 (.q2 (.seq (.q2 (.q2 (.one [(19,eI6)] (.q2 (.q2 (.seq (.q2 (.q2 (.one [(27,eI6)] .auto) none) none) .auto none) none) none)) none) none) .auto none) none) none)) none) .auto none)
def VF(p0:FV)(c0:Addr)(c1:Addr)(K:Value→PT):PT:=
  L.load eL6 c0 λ(x1:Sl)=>L.loop (Y:=Int×Unit) (0,()) λy2 again3=>L.ite (decide (y2.1<((x1.len:Nat):Int))) (L.idx x1.a y2.1 x1.len 1 λa4=>L.load (.one (.func)) a4 λ(x5:FV)=>L.load eP6 c1 λ(x6:Option Addr)=>L.call Pr ju [.pointer x6] rL λ(x7:Sl)=>L.loop (Y:=Int×Unit) (0,()) λy8 again9=>L.ite (decide (y8.1<((x7.len:Nat):Int))) (L.idx x7.a y8.1 x7.len 1 λa10=>L.load eS6 a10 λ(x11:B0)=>L.callV Pr (.func x5.fn x5.fs x5.cs) [.string x11] rL λ(x12:Sl)=>L.loop (Y:=Int×Unit) (0,()) λy13 again14=>L.ite (decide (y13.1<((x12.len:Nat):Int))) (L.idx x12.a y13.1 x12.len 15 λa15=>L.load (.agg lf1) a15 λ(x16:pt1)=>L.new [I 0,.string s_,.string s_,I 0,I 0,.string s_,I 0,I 0,I 0,I 0,I 0,.string s_,.string s_,.slice none 0 0,I 0] zC λb17=>L.store (⟨b17,0,none⟩) [I x16.1,.string x16.2.1,.string x16.2.2.1,I x16.2.2.2.1,I x16.2.2.2.2.1,.string x16.2.2.2.2.2.1,I x16.2.2.2.2.2.2.1,I x16.2.2.2.2.2.2.2.1,I x16.2.2.2.2.2.2.2.2.1,I x16.2.2.2.2.2.2.2.2.2.1,I x16.2.2.2.2.2.2.2.2.2.2.1,.string x16.2.2.2.2.2.2.2.2.2.2.2.1,.string x16.2.2.2.2.2.2.2.2.2.2.2.2.1,Sv6 x16.2.2.2.2.2.2.2.2.2.2.2.2.2.1,I x16.2.2.2.2.2.2.2.2.2.2.2.2.2.2.1]<|L.load (.agg lf1) (⟨b17,0,none⟩) λ(x18:pt1)=>L.callV Pr (.func p0.fn p0.fs p0.cs) [(qa1 x18)] rB λ(x19:Bool)=>L.ite (!x19) (K (.tuple #[]))<|again14 (Wi (y13.1+1),()))<|again9 (Wi (y8.1+1),()))<|again3 (Wi (y2.1+1),()))<|L.callV Pr (.func p0.fn p0.fs p0.cs) [.agg #[I 9,.string s_,.string s_,I 0,I 0,.string s_,I 0,I 0,I 0,I 0,I 0,.string s_,.string s_,.slice none 0 0,I 0]] rB λ(x20:Bool)=>K (.tuple #[])
def GH(p0:FV)(c0 c1:Addr)(h:VF p0 c0 c1 K w):CV Jc [.v (.func p0.fn p0.fs p0.cs),.v (.pointer (some c0)),.v (.pointer (some c1))] K w:=zF Tryz.f201 Ch _ h
def GF:ZV Pr Jc:=zM (by kernel_rfl)
def jj:Ann:=(.q2 (.q2 (.seq (.q2 (.one [(17,eI6)] .auto) none) .auto none) none) none)
def ym(p0 p1:Sl)(p2:FV)(K:Value→PT):PT:=
  L.ite (((p0.len:Nat):Int) != ((p1.len:Nat):Int)) (K (.bool false))<|L.loop (Y:=Int×Unit) (0,()) λy1 again2=>L.ite (decide (y1.1<((p0.len:Nat):Int))) (L.idx p0.a y1.1 p0.len 3 λa3=>L.load (.agg [.str,.str,.int .i64]) a3 λ(x4:pt9)=>L.new [.string s_,.string s_,I 0] zH λb5=>L.store (⟨b5,0,none⟩) [.string x4.1,.string x4.2.1,I x4.2.2.1]<|L.idx p1.a y1.1 p1.len 3 λa6=>L.load (.agg [.str,.str,.int .i64]) a6 λ(x7:pt9)=>L.new [.string s_,.string s_,I 0] zH λb8=>L.store (⟨b8,0,none⟩) [.string x7.1,.string x7.2.1,I x7.2.2.1]<|L.load (.agg [.str,.str,.int .i64]) (⟨b5,0,none⟩) λ(x9:pt9)=>L.load (.agg [.str,.str,.int .i64]) (⟨b8,0,none⟩) λ(x10:pt9)=>L.callV Pr (.func p2.fn p2.fs p2.cs) [.agg #[.string x9.1,.string x9.2.1,I x9.2.2.1],.agg #[.string x10.1,.string x10.2.1,I x10.2.2.1]] rB λ(x11:Bool)=>L.ite (!x11) (K (.bool false))<|again2 (Wi (y1.1+1),()))<|K (.bool true)
def ji(p0 p1:Sl)(p2:FV)(h:ym p0 p1 p2 K w):CV ZD [.v (.slice p0.a p0.len p0.cap),.v (.slice p1.a p1.len p1.cap),.v (.func p2.fn p2.fs p2.cs)] K w:=zF Tryz.f202 jj _ h
def cy(p0 p1:HT [.str,.str,.int .i64])(K:Value→PT):PT:=
  L.new [.string p0.1,.string p0.2.1,I p0.2.2.1] zH λb1=>L.new [.string p1.1,.string p1.2.1,I p1.2.2.1] zH λb2=>L.load (.agg [.str,.str,.int .i64]) (⟨b1,0,none⟩) λ(x3:pt9)=>L.load (.agg [.str,.str,.int .i64]) (⟨b2,0,none⟩) λ(x4:pt9)=>L.chkSem Pr (do eqGuard .eql zH (.tmp 0) (.tmp 0) (.agg #[.string x3.1,.string x3.2.1,I x3.2.2.1]) (.agg #[.string x4.1,.string x4.2.1,I x4.2.2.1]);binOp .eql zH (.agg #[.string x3.1,.string x3.2.1,I x3.2.2.1]) (.agg #[.string x4.1,.string x4.2.1,I x4.2.2.1])) (.bool ((x3.1 == x4.1)&&((x3.2.1 == x4.2.1)&&((x3.2.2.1 == x4.2.2.1)&&true))))<|K (.bool ((x3.1 == x4.1)&&((x3.2.1 == x4.2.1)&&((x3.2.2.1 == x4.2.2.1)&&true))))
def LW(p0 p1:HT [.str,.str,.int .i64])(h:cy p0 p1 K w):CV Vc [.ag [.string p0.1,.string p0.2.1,.int .i64 p0.2.2.1],.ag [.string p1.1,.string p1.2.1,.int .i64 p1.2.2.1]] K w:=zF Tryz.f203 .auto _ h
def LU:ZV Pr Vc:=zM (by kernel_rfl)
def PH(p0:Int)(K:Value→PT):PT:=
  L.call Pr Ux [.int .i32 p0] rB λ(x1:Bool)=>L.ite x1 (K (.bool true))<|L.ite (decide (p0≥48)) (L.ite (decide (p0≤57)) (K (.bool true))<|K (.bool (p0 == 45)))<|K (.bool (p0 == 45))
def Ws(p0:Int)(h:PH p0 K w):CV gJ [.v (.int .i32 p0)] K w:=zF Tryz.f212 .auto _ h
def Fk(p0:Int)(K:Value→PT):PT:=
  L.ite (decide (p0≥97)) (K (.bool (decide (p0≤122))))<|K (.bool false)
def DH(p0:Int)(h:Fk p0 K w):CV Ux [.v (.int .i32 p0)] K w:=zF Tryz.f213 .auto _ h
def YY(p0:Sl)(p1:FV)(K:Value→PT):PT:=
  L.call Pr jx [Sv6 p0,.func p1.fn p1.fs p1.cs] rI λ(x1:Int)=>K (.bool (decide (x1≥0)))
def Xt(p0:Sl)(p1:FV)(h:YY p0 p1 K w):CV yF [.v (.slice p0.a p0.len p0.cap),.v (.func p1.fn p1.fs p1.cs)] K w:=zF Tryz.f214 .auto _ h
def PD(p0:HT [.str,.str,.int .i64])(c0:Addr)(K:Value→PT):PT:=
  L.new [.string p0.1,.string p0.2.1,I p0.2.2.1] zH λb1=>L.load eS6 (Ad6 b1 1) λ(x2:B0)=>L.load eS6 (c0.add 1) λ(x3:B0)=>K (.bool (x2.toList == x3.toList))
def Wo(p0:HT [.str,.str,.int .i64])(c0:Addr)(h:PD p0 c0 K w):CV Qr [.ag [.string p0.1,.string p0.2.1,.int .i64 p0.2.2.1],.v (.pointer (some c0))] K w:=zF Tryz.f215 .auto _ h
def Wh:ZV Pr Qr:=zM (by kernel_rfl)
def Jr(p0:Sl)(K:Value→PT):PT:=
  L.ite ((p0.a).isNone) (K (.slice none 0 0))<|L.new [] zH λb1=>L.sem Pr (.one (.one .slice)) (Builtin.append_ #[UE,UE] UE #[.slice (some ⟨b1,0,none⟩) 0 0,Sv6 p0]) λ(s2:Sl)=>K (.slice s2.a s2.len s2.cap)
def QR(p0:Sl)(h:Jr p0 K w):CV Ys [.v (.slice p0.a p0.len p0.cap)] K w:=zF Tryz.f219 .auto _ h
def VZ(p0:Option Addr)(p1:B0)(K:Value→PT):PT:=
  L.new [.slice none 0 0,.slice none 0 0] zr λb1=>L.nonnil p0 λa2=>L.load (.one (.map)) (a2.add 0) λ(x3:Option Nat)=>L.semR Pr (.tup [(.agg HO),.one .bool]) (Instr.lookup YA (.map x3) (.string p1) true) λ(x4:z2z)=>L.new [.slice none 0 0,.slice none 0 0,I 0,I 0,.slice none 0 0,.slice none 0 0] Yu λb5=>L.store (⟨b5,0,none⟩) [Sv6 x4.1.1,Sv6 x4.1.2.1,I x4.1.2.2.1,I x4.1.2.2.2.1,Sv6 x4.1.2.2.2.2.1,Sv6 x4.1.2.2.2.2.2.1]<|L.ite (!x4.2.1) (L.store (⟨b1,0,none⟩) [.slice none 0 0,.slice none 0 0]<|L.load (.agg [.slice,.slice]) (⟨b1,0,none⟩) λ(x6:Sl×Sl×Unit)=>K (.tuple #[.agg #[Sv6 x6.1,Sv6 x6.2.1],.bool false]))<|L.load (.agg [.slice,.slice]) (Ad6 b5 4) λ(x7:Sl×Sl×Unit)=>L.call Pr YK [.agg #[Sv6 x7.1,Sv6 x7.2.1]] (.one (.agg [.slice,.slice])) λ(x8:Sl×Sl×Unit)=>L.store (⟨b1,0,none⟩) [Sv6 x8.1,Sv6 x8.2.1]<|L.load (.agg [.slice,.slice]) (⟨b1,0,none⟩) λ(x9:Sl×Sl×Unit)=>K (.tuple #[.agg #[Sv6 x9.1,Sv6 x9.2.1],.bool true])
def mF(p0:Option Addr)(p1:B0)(h:VZ p0 p1 K w):CV QK [.v (.pointer p0),.v (.string p1)] K w:=zF Tryz.f222 .auto _ h
def pG:Ann:=(.q2 (.q2 (.q2 (.seq (.q2 (.q2 .auto (some [(28,eI6),(29,eP6)])) none) (.q2 (.seq (.q2 (.one [(41,eI6)] .auto) none) .auto none) none) none) none) none) none)
def KS(p0:Option Addr)(p1:B0)(p2:Int)(K:Value→PT):PT:=
  L.nonnil p0 λa1=>L.load (.one (.map)) (a1.add 1) λ(x2:Option Nat)=>L.semR Pr (.tup [eI6,.one .bool]) (Instr.lookup Zn (.map x2) (I p2) true) λ(x3:Int×Bool×Unit)=>L.ite x3.2.1 (K (.tuple #[I 0,.bool false]))<|L.new [.slice none 0 0] yg λb4=>L.call Pr JN [.pointer p0,.string p1] (.one (.one (.func))) λ(x5:FV)=>L.range Pr none (.func x5.fn x5.fs x5.cs) [eI6,eP6] (λl6(y7:Int×Option Addr×Unit) R8=>L.begin Pr l6<|L.draw<|L.load eL6 (⟨b4,0,none⟩) λ(x11:Sl)=>L.call Pr je [.pointer y7.2.1] rI λ(x12:Int)=>L.chk (⟨b4,0,none⟩) [Sv6 x11]<|L.new [I x12,I y7.1] zz λb13=>L.chk (⟨b4,0,none⟩) [Sv6 x11]<|L.sem Pr (.one (.one .slice)) (Builtin.append_ #[yg,yg] yg #[Sv6 x11,.slice (some ⟨b13,0,none⟩) 1 1]) λ(s14:Sl)=>L.store (⟨b4,0,none⟩) [Sv6 s14]<|L.endRound Pr l6 none R8) λd9 j10=>L.jump j10 (L.load eL6 (⟨b4,0,none⟩) λ(x15:Sl)=>L.call Pr ZF [Sv6 x15,.func (.func Zk) #[] #[]] (.tup []) λ(x16:Unit)=>L.load eL6 (⟨b4,0,none⟩) λ(x17:Sl)=>L.loop (Y:=Int×Unit) (0,()) λy18 again19=>L.ite (decide (y18.1<((x17.len:Nat):Int))) (L.idx x17.a y18.1 x17.len 2 λa20=>L.load (.agg [.int .i64,.int .i64]) a20 λ(x21:Int×Int×Unit)=>L.new [I 0,I 0] zz λb22=>L.store (⟨b22,0,none⟩) [I x21.1,I x21.2.1]<|L.draw<|L.nonnil p0 λa23=>L.load (.one (.map)) (a23.add 0) λ(x24:Option Nat)=>L.load eI6 (Ad6 b22 1) λ(x25:Int)=>L.semR Pr (.one (.agg [.str,.ptr])) (Instr.lookup Zf (.map x24) (I x25) false) λ(x26:B0×Option Addr×Unit)=>L.call Pr Ut [.pointer x26.2.1,I p2] rI λ(x27:Int)=>L.ite (x27 == 0) (L.draw<|L.nonnil p0 λa28=>L.load (.one (.map)) (a28.add 1) λ(x29:Option Nat)=>L.load eI6 (Ad6 b22 1) λ(x30:Int)=>L.semU Pr (Instr.mapUpdate Zn (.map x29) (I p2) (I x30))<|L.load eI6 (Ad6 b22 1) λ(x31:Int)=>L.unmark Pr (d9++[])<|K (.tuple #[I x31,.bool true]))<|again19 (Wi (y18.1+1),()))<|L.unmark Pr (d9++[])<|K (.tuple #[I 0,.bool false])) (L.unmark Pr (d9++[])<|K (.tuple #[I 0,.bool false])) []
def po(p0:Option Addr)(p1:B0)(p2:Int)(h:KS p0 p1 p2 K w):CV uy [.v (.pointer p0),.v (.string p1),.v (.int .i64 p2)] K w:=zF Tryz.f223 pG _ h
def pt:Ann:=(.q2 (.seq (.q2 (.q2 .auto (some [(8,eI6),(9,eI6)])) none) .auto none) none)
def KE(p0:Option Addr)(p1:Int)(K:Value→PT):PT:=
  L.new [I p1] zu λb1=>L.new [.bool false] qX λb2=>L.call Pr jl [.pointer p0] (.one (.one (.func))) λ(x3:FV)=>L.range Pr none (.func x3.fn x3.fs x3.cs) [eI6,eI6] (λl4(y5:Int×Int×Unit) R6=>L.begin Pr l4<|L.load eI6 (⟨b1,0,none⟩) λ(x9:Int)=>L.ite (y5.1 == x9) (L.store (⟨b2,0,none⟩) [.bool true]<|L.endRound Pr l4 (some .ret) R6)<|L.endRound Pr l4 none R6) λd7 j8=>L.jump j8 (L.store (⟨b2,0,none⟩) [.bool false]<|L.unmark Pr (d7++[])<|L.load eB6 (⟨b2,0,none⟩) λ(x10:Bool)=>K (.bool x10)) (L.unmark Pr (d7++[])<|L.load eB6 (⟨b2,0,none⟩) λ(x11:Bool)=>K (.bool x11)) []
def MY(p0:Option Addr)(p1:Int)(h:KE p0 p1 K w):CV uo [.v (.pointer p0),.v (.int .i64 p1)] K w:=zF Tryz.f224 pt _ h
def Tx:Ann:=(.q2 (.one [(7,eI6)] .auto) none)
def OD(p0:FV)(c0:Addr)(K:Value→PT):PT:=
  L.load eL6 c0 λ(x1:Sl)=>L.loop (Y:=Int×Unit) (0,()) λy2 again3=>L.ite (decide (y2.1<((x1.len:Nat):Int))) (L.idx x1.a y2.1 x1.len 4 λa4=>L.load (.agg [.int .i64,.int .i64,.int .i64,.str]) a4 λ(x5:Kf)=>L.new [I 0,I 0,I 0,.string s_] zA λb6=>L.store (⟨b6,0,none⟩) [I x5.1,I x5.2.1,I x5.2.2.1,.string x5.2.2.2.1]<|L.load (.agg [.int .i64,.int .i64,.int .i64,.str]) (⟨b6,0,none⟩) λ(x7:Kf)=>L.call Pr oL [.agg #[I x7.1,I x7.2.1,I x7.2.2.1,.string x7.2.2.2.1]] rS λ(x8:B0)=>L.callV Pr (.func p0.fn p0.fs p0.cs) [.string x8] rB λ(x9:Bool)=>L.ite (!x9) (K (.tuple #[]))<|again3 (Wi (y2.1+1),()))<|K (.tuple #[])
def Tf(p0:FV)(c0:Addr)(h:OD p0 c0 K w):CV Xe [.v (.func p0.fn p0.fs p0.cs),.v (.pointer (some c0))] K w:=zF Tryz.f225 Tx _ h
def tZ:ZV Pr Xe:=zM (by kernel_rfl)
def nA:Ann:=(.q2 (.q2 (.seq (.one [(2,eS6)] .auto) .auto none) none) none)
def Mi(p0:ht3)(K:Value→PT):PT:=
  L.new [I p0.1,I p0.2.1,I p0.2.2.1,.string p0.2.2.2.1] zA λb1=>L.load eI6 (Ad6 b1 1) λ(x2:Int)=>L.ite (x2 == 1) (L.load eI6 (Ad6 b1 0) λ(x3:Int)=>L.load eI6 (Ad6 b1 2) λ(x4:Int)=>L.new [I x3,I x4] zu λb5=>L.call Pr zS [.string rX,.slice (some ⟨b5,0,none⟩) 2 2] rS λ(x6:B0)=>K (.string x6))<|L.ite (x2 == 2) (L.load eI6 (Ad6 b1 0) λ(x7:Int)=>L.new [I x7] zu λb8=>L.call Pr zS [.string bU,.slice (some ⟨b8,0,none⟩) 1 1] rS λ(x9:B0)=>K (.string x9))<|L.ite (x2 == 3) (L.load eI6 (Ad6 b1 0) λ(x10:Int)=>L.new [I x10] zu λb11=>L.call Pr zS [.string rY,.slice (some ⟨b11,0,none⟩) 1 1] rS λ(x12:B0)=>K (.string x12))<|L.join (Y:=B0×Unit) (λk13=>L.draw<|L.load eI6 (Ad6 b1 0) λ(x15:Int)=>L.load eS6 (Ad6 b1 3) λ(x16:B0)=>L.alts [(L.new [I x15] zu λb17=>L.chk (Ad6 b1 3) [.string x16]<|L.alts [(L.call Pr zS [.string uP,.slice (some ⟨b17,0,none⟩) 1 1] rS λ(x18:B0)=>L.chk (Ad6 b1 3) [.string x16]<|L.new [.string x16] zc λb19=>L.chk (Ad6 b1 0) [I x15]<|L.call Pr zR [.string x18,.slice (some ⟨b19,0,none⟩) 1 1] rS λ(x20:B0)=>k13 (x20,())),(L.new [.string x16] zc λb21=>L.chk (Ad6 b1 0) [I x15]<|L.call Pr zS [.string uP,.slice (some ⟨b17,0,none⟩) 1 1] rS λ(x22:B0)=>L.chk (Ad6 b1 3) [.string x16]<|L.call Pr zR [.string x22,.slice (some ⟨b21,0,none⟩) 1 1] rS λ(x23:B0)=>k13 (x23,()))]),(L.new [.string x16] zc λb24=>L.chk (Ad6 b1 0) [I x15]<|L.new [I x15] zu λb25=>L.chk (Ad6 b1 3) [.string x16]<|L.call Pr zS [.string uP,.slice (some ⟨b25,0,none⟩) 1 1] rS λ(x26:B0)=>L.chk (Ad6 b1 3) [.string x16]<|L.call Pr zR [.string x26,.slice (some ⟨b24,0,none⟩) 1 1] rS λ(x27:B0)=>k13 (x27,()))]) λz14=>K (.string z14.1)
def na(p0:ht3)(h:Mi p0 K w):CV oL [.ag (qc3 p0)] K w:=zF Tryz.f226 nA _ h
def Fi(p0:Option Addr)(p1:Int)(K:Value→PT):PT:=
  L.nonnil p0 λa1=>L.call Pr XE [.pointer (some (a1.add 1)),I p1] rI λ(x2:Int)=>L.call Pr vR [.pointer p0] (.tup []) λ(x3:Unit)=>K (I x2)
def DF(p0:Option Addr)(p1:Int)(h:Fi p0 p1 K w):CV Uv [.v (.pointer p0),.v (.int .i64 p1)] K w:=zF Tryz.f227 .auto _ h
def xp(p0:Option Nat)(K:Value→PT):PT:=
  L.new [.map p0] Ye λb1=>K (.func (.func ZH) #[] #[.pointer (some (⟨b1,0,none⟩))])
def Ug(p0:Option Nat)(h:xp p0 K w):CV YU [.v (.map p0)] K w:=zF Tryz.f228 .auto _ h
def KJ(p0:Option Addr)(p1:Int)(K:Value→PT):PT:=
  L.nonnil p0 λa1=>L.load (.one (.map)) (a1.add 0) λ(x2:Option Nat)=>L.semR Pr rB (Instr.lookup Ye (.map x2) (I p1) false) λ(x3:Bool)=>L.ite (!x3) (K (I 6))<|L.nonnil p0 λa4=>L.load (.one (.map)) (a4.add 0) λ(x5:Option Nat)=>L.sem Pr (.tup []) (Builtin.delete_ #[Ye,zu] T_ #[.map x5,I p1]) λ_=>K (I 0)
def pe(p0:Option Addr)(p1:Int)(h:KJ p0 p1 K w):CV XE [.v (.pointer p0),.v (.int .i64 p1)] K w:=zF Tryz.f229 .auto _ h
def VK:Ann:=(.q2 (.one [(12,eI6)] .auto) none)
def qb(p0:FV)(c0:Addr)(K:Value→PT):PT:=
  L.load eP6 c0 λ(x1:Option Addr)=>L.nonnil x1 λa2=>L.load (.one (.map)) (a2.add 0) λ(x3:Option Nat)=>L.call Pr yc [.map x3] (.one (.one (.func))) λ(x4:FV)=>L.call Pr ZS [.func x4.fn x4.fs x4.cs] rL λ(x5:Sl)=>L.loop (Y:=Int×Unit) (0,()) λy6 again7=>L.ite (decide (y6.1<((x5.len:Nat):Int))) (L.idx x5.a y6.1 x5.len 1 λa8=>L.load eS6 a8 λ(x9:B0)=>L.load eP6 c0 λ(x10:Option Addr)=>L.nonnil x10 λa11=>L.load (.one (.map)) (a11.add 0) λ(x12:Option Nat)=>L.semR Pr rP (Instr.lookup ZB (.map x12) (.string x9) false) λ(x13:Option Addr)=>L.callV Pr (.func p0.fn p0.fs p0.cs) [.string x9,.pointer x13] rB λ(x14:Bool)=>L.ite (!x14) (K (.tuple #[]))<|again7 (Wi (y6.1+1),()))<|K (.tuple #[])
def VJ(p0:FV)(c0:Addr)(h:qb p0 c0 K w):CV yP [.v (.func p0.fn p0.fs p0.cs),.v (.pointer (some c0))] K w:=zF Tryz.f230 VK _ h
def VG:ZV Pr yP:=zM (by kernel_rfl)
def UI(p0:FV)(K:Value→PT):PT:=
  L.call Pr uT [.func p0.fn p0.fs p0.cs] rL λ(x1:Sl)=>L.call Pr Jw [Sv6 x1] (.tup []) λ(x2:Unit)=>K (.slice x1.a x1.len x1.cap)
def Ge(p0:FV)(h:UI p0 K w):CV ZS [.v (.func p0.fn p0.fs p0.cs)] K w:=zF Tryz.f231 .auto _ h
def Yg(p0:Option Nat)(K:Value→PT):PT:=
  L.new [.map p0] ZB λb1=>K (.func (.func zV) #[] #[.pointer (some (⟨b1,0,none⟩))])
def xo(p0:Option Nat)(h:Yg p0 K w):CV yc [.v (.map p0)] K w:=zF Tryz.f232 .auto _ h
def mM:Ann:=(.q2 (.q2 (.q2 (.seq (.q2 (.q2 .auto (some [(11,eI6),(12,eI6)])) none) .auto none) none) none) none)
def VS(p0:Option Addr)(p1:Int)(K:Value→PT):PT:=
  L.new [I p1] zu λb1=>L.new [.slice none 0 0] ZO λb2=>L.new [.slice none 0 0] yE λb3=>L.call Pr jl [.pointer p0] (.one (.one (.func))) λ(x4:FV)=>L.range Pr none (.func x4.fn x4.fs x4.cs) [eI6,eI6] (λl5(y6:Int×Int×Unit) R7=>L.begin Pr l5<|L.load eI6 (⟨b1,0,none⟩) λ(x10:Int)=>L.ite (decide (y6.2.1≤x10)) (L.load eL6 (⟨b2,0,none⟩) λ(x11:Sl)=>L.new [I y6.1] zu λb12=>L.sem Pr (.one (.one .slice)) (Builtin.append_ #[ZO,ZO] ZO #[Sv6 x11,.slice (some ⟨b12,0,none⟩) 1 1]) λ(s13:Sl)=>L.store (⟨b2,0,none⟩) [Sv6 s13]<|L.endRound Pr l5 none R7)<|L.load eL6 (⟨b3,0,none⟩) λ(x14:Sl)=>L.new [I y6.1,I y6.2.1] jr λb15=>L.sem Pr (.one (.one .slice)) (Builtin.append_ #[yE,yE] yE #[Sv6 x14,.slice (some ⟨b15,0,none⟩) 1 1]) λ(s16:Sl)=>L.store (⟨b3,0,none⟩) [Sv6 s16]<|L.endRound Pr l5 none R7) λd8 j9=>L.jump j9 (L.load eL6 (⟨b3,0,none⟩) λ(x17:Sl)=>L.nonnil p0 λa18=>L.store (a18.add 0) [Sv6 x17]<|L.load eL6 (⟨b2,0,none⟩) λ(x19:Sl)=>L.call Pr ZT [Sv6 x19] rL λ(x20:Sl)=>L.unmark Pr (d8++[])<|K (.slice x20.a x20.len x20.cap)) (L.unmark Pr (d8++[])<|K (.slice none 0 0)) []
def mw(p0:Option Addr)(p1:Int)(h:VS p0 p1 K w):CV VO [.v (.pointer p0),.v (.int .i64 p1)] K w:=zF Tryz.f233 mM _ h
def xI(p0:Option Nat)(K:Value→PT):PT:=
  L.call Pr yJ [.map p0] (.one (.one (.func))) λ(x1:FV)=>L.call Pr ZS [.func x1.fn x1.fs x1.cs] rL λ(x2:Sl)=>K (.slice x2.a x2.len x2.cap)
def UM(p0:Option Nat)(h:xI p0 K w):CV yX [.v (.map p0)] K w:=zF Tryz.f234 .auto _ h
def VW(p0:Option Addr)(p1:B0)(K:Value→PT):PT:=
  L.call Pr Xa [.pointer p0,.string p1,.func (.func xm) #[] #[]] rS λ(x1:B0)=>L.call Pr Xa [.pointer p0,.string p1,.func (.func Yq) #[.pointer p0] #[]] rS λ(x2:B0)=>K (.tuple #[.string x1,.string x2])
def mC(p0:Option Addr)(p1:B0)(h:VW p0 p1 K w):CV QJ [.v (.pointer p0),.v (.string p1)] K w:=zF Tryz.f235 .auto _ h
def kS:Ann:=(.q2 (.one [(9,eI6)] .auto) none)
def qD(p0:FV)(c0:Addr)(K:Value→PT):PT:=
  L.load (.one (.map)) c0 λ(x1:Option Nat)=>L.call Pr Yl [.map x1] (.one (.one (.func))) λ(x2:FV)=>L.call Pr ZS [.func x2.fn x2.fs x2.cs] rL λ(x3:Sl)=>L.loop (Y:=Int×Unit) (0,()) λy4 again5=>L.ite (decide (y4.1<((x3.len:Nat):Int))) (L.idx x3.a y4.1 x3.len 1 λa6=>L.load eS6 a6 λ(x7:B0)=>L.load (.one (.map)) c0 λ(x8:Option Nat)=>L.semR Pr rI (Instr.lookup ZE (.map x8) (.string x7) false) λ(x9:Int)=>L.callV Pr (.func p0.fn p0.fs p0.cs) [.string x7,I x9] rB λ(x10:Bool)=>L.ite (!x10) (K (.tuple #[]))<|again5 (Wi (y4.1+1),()))<|K (.tuple #[])
def kP(p0:FV)(c0:Addr)(h:qD p0 c0 K w):CV yY [.v (.func p0.fn p0.fs p0.cs),.v (.pointer (some c0))] K w:=zF Tryz.f236 kS _ h
def kL:ZV Pr yY:=zM (by kernel_rfl)
def Jb(p0:Option Nat)(K:Value→PT):PT:=
  L.new [.map p0] ZE λb1=>K (.func (.func Zp) #[] #[.pointer (some (⟨b1,0,none⟩))])
def QA(p0:Option Nat)(h:Jb p0 K w):CV Yl [.v (.map p0)] K w:=zF Tryz.f237 .auto _ h
def vN:Ann:=(.q2 (.one [(9,eI6)] .auto) none)
def Xr(p0:FV)(c0:Addr)(K:Value→PT):PT:=
  L.load (.one (.map)) c0 λ(x1:Option Nat)=>L.call Pr yG [.map x1] (.one (.one (.func))) λ(x2:FV)=>L.call Pr ZS [.func x2.fn x2.fs x2.cs] rL λ(x3:Sl)=>L.loop (Y:=Int×Unit) (0,()) λy4 again5=>L.ite (decide (y4.1<((x3.len:Nat):Int))) (L.idx x3.a y4.1 x3.len 1 λa6=>L.load eS6 a6 λ(x7:B0)=>L.load (.one (.map)) c0 λ(x8:Option Nat)=>L.semR Pr rS (Instr.lookup Zj (.map x8) (.string x7) false) λ(x9:B0)=>L.callV Pr (.func p0.fn p0.fs p0.cs) [.string x7,.string x9] rB λ(x10:Bool)=>L.ite (!x10) (K (.tuple #[]))<|again5 (Wi (y4.1+1),()))<|K (.tuple #[])
def vL(p0:FV)(c0:Addr)(h:Xr p0 c0 K w):CV yz [.v (.func p0.fn p0.fs p0.cs),.v (.pointer (some c0))] K w:=zF Tryz.f238 vN _ h
def vJ:ZV Pr yz:=zM (by kernel_rfl)
def YZ(p0:Option Nat)(K:Value→PT):PT:=
  L.new [.map p0] Zj λb1=>K (.func (.func Zc) #[] #[.pointer (some (⟨b1,0,none⟩))])
def Xu(p0:Option Nat)(h:YZ p0 K w):CV yG [.v (.map p0)] K w:=zF Tryz.f239 .auto _ h
def xi(p0:Sl)(K:Value→PT):PT:=
  L.ite ((p0.a).isNone) (K (.slice none 0 0))<|L.new [] Zg λb1=>L.sem Pr (.one (.one .slice)) (Builtin.append_ #[Zl,Zl] Zl #[.slice (some ⟨b1,0,none⟩) 0 0,Sv6 p0]) λ(s2:Sl)=>K (.slice s2.a s2.len s2.cap)
def uJ(p0:Sl)(h:xi p0 K w):CV Zr [.v (.slice p0.a p0.len p0.cap)] K w:=zF Tryz.f240 .auto _ h
def xh(p0:Sl)(K:Value→PT):PT:=
  L.ite ((p0.a).isNone) (K (.slice none 0 0))<|L.new [] JI λb1=>L.sem Pr (.one (.one .slice)) (Builtin.append_ #[xN,xN] xN #[.slice (some ⟨b1,0,none⟩) 0 0,Sv6 p0]) λ(s2:Sl)=>K (.slice s2.a s2.len s2.cap)
def uI(p0:Sl)(h:xh p0 K w):CV YJ [.v (.slice p0.a p0.len p0.cap)] K w:=zF Tryz.f241 .auto _ h
def vM:Ann:=(.q2 (.q2 (.seq (.q2 (.one [(5,eL6),(12,eI6)] (.q2 (.q2 (.seq (.q2 (.q2 (.one [(5,eL6),(18,eI6)] .auto) none) none) .auto none) none) none)) none) .auto none) none) none)
def Xq(p0:FV)(p1:Sl)(K:Value→PT):PT:=
  L.loop (Y:=Sl×Int×Unit) (⟨none,0,0⟩,0,()) λy1 again2=>L.ite (decide (y1.2.1<((p1.len:Nat):Int))) (L.idx p1.a y1.2.1 p1.len 1 λa3=>L.load eL6 a3 λ(x4:Sl)=>L.loop (Y:=Sl×Int×Unit) (⟨y1.1.a,y1.1.len,y1.1.cap⟩,0,()) λy5 again6=>L.ite (decide (y5.2.1<((x4.len:Nat):Int))) (L.idx x4.a y5.2.1 x4.len 2 λa7=>L.load (.agg [.str,.int .i64]) a7 λ(x8:B0×Int×Unit)=>L.new [.string s_,I 0] Zg λb9=>L.store (⟨b9,0,none⟩) [.string x8.1,I x8.2.1]<|L.load (.agg [.str,.int .i64]) (⟨b9,0,none⟩) λ(x10:B0×Int×Unit)=>L.callV Pr (.func p0.fn p0.fs p0.cs) [.agg #[.string x10.1,I x10.2.1]] rS λ(x11:B0)=>L.new [.string x11] zc λb12=>L.sem Pr (.one (.one .slice)) (Builtin.append_ #[zj,zj] zj #[Sv6 y5.1,.slice (some ⟨b12,0,none⟩) 1 1]) λ(s13:Sl)=>again6 (⟨s13.a,s13.len,s13.cap⟩,Wi (y5.2.1+1),()))<|again2 (⟨y5.1.a,y5.1.len,y5.1.cap⟩,Wi (y1.2.1+1),()))<|L.call Pr Jw [Sv6 y1.1] (.tup []) λ(x14:Unit)=>L.call Pr Xg [Sv6 y1.1] rL λ(x15:Sl)=>K (.slice x15.a x15.len x15.cap)
def vK(p0:FV)(p1:Sl)(h:Xq p0 p1 K w):CV jG [.v (.func p0.fn p0.fs p0.cs),.v (.slice p1.a p1.len p1.cap)] K w:=zF Tryz.f242 vM _ h
def Dq(p0:HT [.str,.int .i64])(K:Value→PT):PT:=
  L.new [.string p0.1,I p0.2.1] Zg λb1=>L.load eS6 (Ad6 b1 0) λ(x2:B0)=>K (.string x2)
def bz(p0:HT [.str,.int .i64])(h:Dq p0 K w):CV gH [.ag [.string p0.1,.int .i64 p0.2.1]] K w:=zF Tryz.f243 .auto _ h
def bu:ZV Pr gH:=zM (by kernel_rfl)
def Mm(p0:Sl)(p1:B0)(K:Value→PT):PT:=
  L.new [.string p1] zc λb1=>L.call Pr jP [Sv6 p0,.func (.func uh) #[] #[.pointer (some (⟨b1,0,none⟩))]] rI λ(x2:Int)=>L.ite (decide (x2<0)) (K (I 0))<|L.idx p0.a x2 p0.len 2 λa3=>L.load eI6 (a3.add 1) λ(x4:Int)=>K (I x4)
def nh(p0:Sl)(p1:B0)(h:Mm p0 p1 K w):CV qc [.v (.slice p0.a p0.len p0.cap),.v (.string p1)] K w:=zF Tryz.f244 .auto _ h
def ge:Ann:=(.q2 (.one [(3,eI6)] .auto) none)
def Ud(p0:FV)(c0:Addr)(K:Value→PT):PT:=
  L.loop (Y:=Int×Unit) (1,()) λy1 again2=>L.load eP6 c0 λ(x3:Option Addr)=>L.nonnil x3 λa4=>L.load eI6 (a4.add 60) λ(x5:Int)=>L.ite (decide (y1.1≤(if 60<x5 then 60 else x5))) (L.draw<|L.load eP6 c0 λ(x6:Option Addr)=>L.load eP6 c0 λ(x7:Option Addr)=>L.nonnil x7 λa8=>L.load eI6 (a8.add 60) λ(x9:Int)=>L.guard (60≠(0:Int))<|L.nonnil x6 λa10=>L.idx (some (a10.add 0)) (Int.tmod (Wi (x9-y1.1)) 60) 60 1 λa11=>L.load eI6 a11 λ(x12:Int)=>L.callV Pr (.func p0.fn p0.fs p0.cs) [I x12] rB λ(x13:Bool)=>L.ite (!x13) (K (.tuple #[]))<|again2 (Wi (y1.1+1),()))<|K (.tuple #[])
def OY(p0:FV)(c0:Addr)(h:Ud p0 c0 K w):CV YR [.v (.func p0.fn p0.fs p0.cs),.v (.pointer (some c0))] K w:=zF Tryz.f245 ge _ h
def OT:ZV Pr YR:=zM (by kernel_rfl)
def nE:Ann:=(.q2 (.cond .auto .auto) none)
def Mo(p0:Option Addr)(K:Value→PT):PT:=
  L.nonnil p0 λa1=>L.load eI6 (a1.add 0) λ(x2:Int)=>L.ite (x2 == 3) (L.call Pr je [.pointer p0] rI λ(x3:Int)=>L.ite (x3 == 0) (L.nonnil p0 λa4=>L.store (a4.add 0) [I 4]<|K (.tuple #[]))<|K (.tuple #[]))<|K (.tuple #[])
def nj(p0:Option Addr)(h:Mo p0 K w):CV vR [.v (.pointer p0)] K w:=zF Tryz.f246 nE _ h
def fe:Ann:=(.q2 (.one [(10,eI6)] .auto) none)
def UU(p0:FV)(c0:Addr)(K:Value→PT):PT:=
  L.load eP6 c0 λ(x1:Option Addr)=>L.nonnil x1 λa2=>L.load eL6 (a2.add 0) λ(x3:Sl)=>L.loop (Y:=Int×Unit) (0,()) λy4 again5=>L.ite (decide (y4.1<((x3.len:Nat):Int))) (L.idx x3.a y4.1 x3.len 2 λa6=>L.load (.agg [.int .i64,.int .i64]) a6 λ(x7:Int×Int×Unit)=>L.new [I 0,I 0] jr λb8=>L.store (⟨b8,0,none⟩) [I x7.1,I x7.2.1]<|L.load eI6 (Ad6 b8 0) λ(x9:Int)=>L.load eI6 (Ad6 b8 1) λ(x10:Int)=>L.callV Pr (.func p0.fn p0.fs p0.cs) [I x9,I x10] rB λ(x11:Bool)=>L.ite (!x11) (K (.tuple #[]))<|again5 (Wi (y4.1+1),()))<|K (.tuple #[])
def GR(p0:FV)(c0:Addr)(h:UU p0 c0 K w):CV jw [.v (.func p0.fn p0.fs p0.cs),.v (.pointer (some c0))] K w:=zF Tryz.f258 fe _ h
def GM:ZV Pr jw:=zM (by kernel_rfl)
def Vo(p0:FV)(K:Value→PT):PT:=
  L.call Pr JU [.slice none 0 0,.func p0.fn p0.fs p0.cs] rL λ(x1:Sl)=>K (.slice x1.a x1.len x1.cap)
def FA(p0:FV)(h:Vo p0 K w):CV Vd [.v (.func p0.fn p0.fs p0.cs)] K w:=zF Tryz.f259 .auto _ h
def xY:Ann:=(.q2 (.one [] (.q2 (.seq (.cond .auto .auto) .auto none) none)) none)
def YI(p0:FV)(c0:Addr)(K:Value→PT):PT:=
  L.load (.one (.map)) c0 λ(x1:Option Nat)=>L.sem Pr (.one (.one .ptr)) (Instr.range Zf (.map x1)) λ(it2:Option Addr)=>L.loop (Y:=Unit) (()) λy3 again4=>L.next Pr [eI6,(.agg [.str,.ptr])] (Instr.next (.pointer it2) false T_) (K (.tuple #[])) λ(x5:z2x)=>L.sem Pr (.tup [eI6,(.agg [.str,.ptr])]) (Instr.entry (.pointer it2)) λ(x6:z2x)=>L.callV Pr (.func p0.fn p0.fs p0.cs) [I x6.1] rB λ(x7:Bool)=>L.ite (!x7) (K (.tuple #[]))<|again4 (())
def xW(p0:FV)(c0:Addr)(h:YI p0 c0 K w):CV Zd [.v (.func p0.fn p0.fs p0.cs),.v (.pointer (some c0))] K w:=zF Tryz.f260 xY _ h
def xU:ZV Pr Zd:=zM (by kernel_rfl)
def qr:Ann:=(.q2 (.seq (.q2 (.one [(8,eI6)] .auto) none) .auto none) none)
def jC(p0:Sl)(p1:FV)(K:Value→PT):PT:=
  L.loop (Y:=Int×Unit) (0,()) λy1 again2=>L.ite (decide (y1.1<((p0.len:Nat):Int))) (L.idx p0.a y1.1 p0.len 3 λa3=>L.load (.agg [.str,.str,.int .i64]) a3 λ(x4:pt9)=>L.callV Pr (.func p1.fn p1.fs p1.cs) [.agg #[.string x4.1,.string x4.2.1,I x4.2.2.1]] rB λ(x5:Bool)=>L.ite x5 (K (I y1.1))<|again2 (Wi (y1.1+1),()))<|K (I (-1))
def qq(p0:Sl)(p1:FV)(h:jC p0 p1 K w):CV jx [.v (.slice p0.a p0.len p0.cap),.v (.func p1.fn p1.fs p1.cs)] K w:=zF Tryz.f272 qr _ h
def yd(p0:Sl)(p1:FV)(K:Value→PT):PT:=
  L.call Pr JF [Sv6 p0,I ((p0.len:Nat):Int),.func p1.fn p1.fs p1.cs] (.tup []) λ(x1:Unit)=>K (.tuple #[])
def Yh(p0:Sl)(p1:FV)(h:yd p0 p1 K w):CV ZF [.v (.slice p0.a p0.len p0.cap),.v (.func p1.fn p1.fs p1.cs)] K w:=zF Tryz.f279 .auto _ h
def Vr(p0 p1:HT [.int .i64,.int .i64])(K:Value→PT):PT:=
  L.new [I p0.1,I p0.2.1] zz λb1=>L.new [I p1.1,I p1.2.1] zz λb2=>L.load eI6 (Ad6 b1 0) λ(x3:Int)=>L.load eI6 (Ad6 b2 0) λ(x4:Int)=>K (I (Wi (x3-x4)))
def FE(p0 p1:HT [.int .i64,.int .i64])(h:Vr p0 p1 K w):CV Zk [.ag [.int .i64 p0.1,.int .i64 p0.2.1],.ag [.int .i64 p1.1,.int .i64 p1.2.1]] K w:=zF Tryz.f280 .auto _ h
def Ft:ZV Pr Zk:=zM (by kernel_rfl)
def Fg(p0:Option Addr)(p1:Int)(K:Value→PT):PT:=
  L.nonnil p0 λa1=>L.load eI6 (a1.add 0) λ(x2:Int)=>L.ite (x2 != 2) (K (I 9))<|L.nonnil p0 λa3=>L.call Pr ow [.pointer (some (a3.add 1)),I p1] rI λ(x4:Int)=>K (I x4)
def DD(p0:Option Addr)(p1:Int)(h:Fg p0 p1 K w):CV Ut [.v (.pointer p0),.v (.int .i64 p1)] K w:=zF Tryz.f281 .auto _ h
def uc:Ann:=(.q2 (.one [] (.q2 (.seq (.cond .auto .auto) .auto none) none)) none)
def JK(p0:FV)(c0:Addr)(K:Value→PT):PT:=
  L.load (.one (.map)) c0 λ(x1:Option Nat)=>L.sem Pr (.one (.one .ptr)) (Instr.range Ye (.map x1)) λ(it2:Option Addr)=>L.loop (Y:=Unit) (()) λy3 again4=>L.next Pr [eI6,eB6] (Instr.next (.pointer it2) false T_) (K (.tuple #[])) λ(x5:Int×Bool×Unit)=>L.sem Pr (.tup [eI6,eB6]) (Instr.entry (.pointer it2)) λ(x6:Int×Bool×Unit)=>L.callV Pr (.func p0.fn p0.fs p0.cs) [I x6.1] rB λ(x7:Bool)=>L.ite (!x7) (K (.tuple #[]))<|again4 (())
def QZ(p0:FV)(c0:Addr)(h:JK p0 c0 K w):CV ZH [.v (.func p0.fn p0.fs p0.cs),.v (.pointer (some c0))] K w:=zF Tryz.f282 uc _ h
def QX:ZV Pr ZH:=zM (by kernel_rfl)
def Ua(p0:FV)(K:Value→PT):PT:=
  L.call Pr jc [.slice none 0 0,.func p0.fn p0.fs p0.cs] rL λ(x1:Sl)=>K (.slice x1.a x1.len x1.cap)
def OV(p0:FV)(h:Ua p0 K w):CV uT [.v (.func p0.fn p0.fs p0.cs)] K w:=zF Tryz.f283 .auto _ h
def JQ:Ann:=(.q2 (.one [] (.q2 (.seq (.cond .auto .auto) .auto none) none)) none)
def Ya(p0:FV)(c0:Addr)(K:Value→PT):PT:=
  L.load (.one (.map)) c0 λ(x1:Option Nat)=>L.sem Pr (.one (.one .ptr)) (Instr.range ZB (.map x1)) λ(it2:Option Addr)=>L.loop (Y:=Unit) (()) λy3 again4=>L.next Pr [eS6,eP6] (Instr.next (.pointer it2) false T_) (K (.tuple #[])) λ(x5:B0×Option Addr×Unit)=>L.sem Pr (.tup [eS6,eP6]) (Instr.entry (.pointer it2)) λ(x6:B0×Option Addr×Unit)=>L.callV Pr (.func p0.fn p0.fs p0.cs) [.string x6.1] rB λ(x7:Bool)=>L.ite (!x7) (K (.tuple #[]))<|again4 (())
def JP(p0:FV)(c0:Addr)(h:Ya p0 c0 K w):CV zV [.v (.func p0.fn p0.fs p0.cs),.v (.pointer (some c0))] K w:=zF Tryz.f285 JQ _ h
def JO:ZV Pr zV:=zM (by kernel_rfl)
def yL(p0:Option Nat)(K:Value→PT):PT:=
  L.new [.map p0] zZ λb1=>K (.func (.func zL) #[] #[.pointer (some (⟨b1,0,none⟩))])
def jX(p0:Option Nat)(h:yL p0 K w):CV yJ [.v (.map p0)] K w:=zF Tryz.f286 .auto _ h
def mN:Ann:=(.q2 (.q2 (.seq (.q2 (.one [(18,eI6)] (.q2 (.q2 (.seq (.q2 (.q2 (.q2 (.cond .auto .auto) none) none) none) .auto (some [])) none) none)) none) .auto none) none) none)
def VV(p0:Option Addr)(p1:B0)(p2:FV)(K:Value→PT):PT:=
  L.new [.string s_,I 0,.string s_,I 0,I 0,I 0,I 0,I 0] zU λb1=>L.store (⟨b1,0,none⟩) [.string s_,I 0,.string s_,I 0,I 0,I 0,I 0,I 0]<|L.nonnil p0 λa2=>L.load (.one (.map)) (a2.add 0) λ(x3:Option Nat)=>L.call Pr yX [.map x3] rL λ(x4:Sl)=>L.loop (Y:=Int×Unit) (0,()) λy5 again6=>L.ite (decide (y5.1<((x4.len:Nat):Int))) (L.join (Y:=Unit) (λk7=>L.idx x4.a y5.1 x4.len 1 λa9=>L.load eS6 a9 λ(x10:B0)=>L.nonnil p0 λa11=>L.load (.one (.map)) (a11.add 0) λ(x12:Option Nat)=>L.semR Pr (.one (.agg lf4)) (Instr.lookup zZ (.map x12) (.string x10) false) λ(x13:az)=>L.new [.string s_,I 0,.string s_,I 0,I 0,I 0,I 0,I 0] zU λb14=>L.store (⟨b14,0,none⟩) [.string x13.1,I x13.2.1,.string x13.2.2.1,I x13.2.2.2.1,I x13.2.2.2.2.1,I x13.2.2.2.2.2.1,I x13.2.2.2.2.2.2.1,I x13.2.2.2.2.2.2.2.1]<|L.load eS6 ((Ad6 b14 2).add 0) λ(x15:B0)=>L.ite (x15.toList == p1.toList) (L.load eI6 (Ad6 b14 1) λ(x16:Int)=>L.load eI6 (Ad6 b1 1) λ(x17:Int)=>L.ite (decide (x16>x17)) (L.callV Pr (.func p2.fn p2.fs p2.cs) [.string x10] rB λ(x18:Bool)=>L.ite x18 (L.load (.agg lf4) (⟨b14,0,none⟩) λ(x19:az)=>L.store (⟨b1,0,none⟩) [.string x19.1,I x19.2.1,.string x19.2.2.1,I x19.2.2.2.1,I x19.2.2.2.2.1,I x19.2.2.2.2.2.1,I x19.2.2.2.2.2.2.1,I x19.2.2.2.2.2.2.2.1]<|k7 (()))<|k7 (()))<|k7 (()))<|k7 (())) λz8=>again6 (Wi (y5.1+1),()))<|L.load eS6 (Ad6 b1 0) λ(x20:B0)=>K (.string x20)
def mB(p0:Option Addr)(p1:B0)(p2:FV)(h:VV p0 p1 p2 K w):CV Xa [.v (.pointer p0),.v (.string p1),.v (.func p2.fn p2.fs p2.cs)] K w:=zF Tryz.f287 mN _ h
def UY(p0:B0)(K:Value→PT):PT:=
  K (.bool true)
def GZ(p0:B0)(h:UY p0 K w):CV xm [.v (.string p0)] K w:=zF Tryz.f288 .auto _ h
def GQ:ZV Pr xm:=zM (by kernel_rfl)
def qG:Ann:=(.q2 (.one [] (.q2 (.seq (.cond .auto .auto) .auto none) none)) none)
def jM(p0:FV)(c0:Addr)(K:Value→PT):PT:=
  L.load (.one (.map)) c0 λ(x1:Option Nat)=>L.sem Pr (.one (.one .ptr)) (Instr.range ZE (.map x1)) λ(it2:Option Addr)=>L.loop (Y:=Unit) (()) λy3 again4=>L.next Pr [eS6,eI6] (Instr.next (.pointer it2) false T_) (K (.tuple #[])) λ(x5:B0×Int×Unit)=>L.sem Pr (.tup [eS6,eI6]) (Instr.entry (.pointer it2)) λ(x6:B0×Int×Unit)=>L.callV Pr (.func p0.fn p0.fs p0.cs) [.string x6.1] rB λ(x7:Bool)=>L.ite (!x7) (K (.tuple #[]))<|again4 (())
def qF(p0:FV)(c0:Addr)(h:jM p0 c0 K w):CV Zp [.v (.func p0.fn p0.fs p0.cs),.v (.pointer (some c0))] K w:=zF Tryz.f289 qG _ h
def qE:ZV Pr Zp:=zM (by kernel_rfl)
def xX:Ann:=(.q2 (.one [] (.q2 (.seq (.cond .auto .auto) .auto none) none)) none)
def YH(p0:FV)(c0:Addr)(K:Value→PT):PT:=
  L.load (.one (.map)) c0 λ(x1:Option Nat)=>L.sem Pr (.one (.one .ptr)) (Instr.range Zj (.map x1)) λ(it2:Option Addr)=>L.loop (Y:=Unit) (()) λy3 again4=>L.next Pr [eS6,eS6] (Instr.next (.pointer it2) false T_) (K (.tuple #[])) λ(x5:B0×B0×Unit)=>L.sem Pr (.tup [eS6,eS6]) (Instr.entry (.pointer it2)) λ(x6:B0×B0×Unit)=>L.callV Pr (.func p0.fn p0.fs p0.cs) [.string x6.1] rB λ(x7:Bool)=>L.ite (!x7) (K (.tuple #[]))<|again4 (())
def xV(p0:FV)(c0:Addr)(h:YH p0 c0 K w):CV Zc [.v (.func p0.fn p0.fs p0.cs),.v (.pointer (some c0))] K w:=zF Tryz.f290 xX _ h
def xT:ZV Pr Zc:=zM (by kernel_rfl)
def Ql:Ann:=(.q2 (.seq (.q2 (.one [(8,eI6)] .auto) none) .auto none) none)
def jW(p0:Sl)(p1:FV)(K:Value→PT):PT:=
  L.loop (Y:=Int×Unit) (0,()) λy1 again2=>L.ite (decide (y1.1<((p0.len:Nat):Int))) (L.idx p0.a y1.1 p0.len 2 λa3=>L.load (.agg [.str,.int .i64]) a3 λ(x4:B0×Int×Unit)=>L.callV Pr (.func p1.fn p1.fs p1.cs) [.agg #[.string x4.1,I x4.2.1]] rB λ(x5:Bool)=>L.ite x5 (K (I y1.1))<|again2 (Wi (y1.1+1),()))<|K (I (-1))
def Qj(p0:Sl)(p1:FV)(h:jW p0 p1 K w):CV jP [.v (.slice p0.a p0.len p0.cap),.v (.func p1.fn p1.fs p1.cs)] K w:=zF Tryz.f292 Ql _ h
def Gx(p0:HT [.str,.int .i64])(c0:Addr)(K:Value→PT):PT:=
  L.new [.string p0.1,I p0.2.1] Zg λb1=>L.load eS6 (Ad6 b1 0) λ(x2:B0)=>L.load eS6 c0 λ(x3:B0)=>K (.bool (x2.toList == x3.toList))
def cV(p0:HT [.str,.int .i64])(c0:Addr)(h:Gx p0 c0 K w):CV uh [.ag [.string p0.1,.int .i64 p0.2.1],.v (.pointer (some c0))] K w:=zF Tryz.f293 .auto _ h
def cM:ZV Pr uh:=zM (by kernel_rfl)
def oe:Ann:=(.q2 (.seq (.q2 (.q2 .auto (some [(7,eI6)])) none) .auto none) none)
def Qd(p0:Sl)(p1:FV)(K:Value→PT):PT:=
  L.new [Sv6 p0] ZO λb1=>L.range Pr none (.func p1.fn p1.fs p1.cs) [eI6] (λl2(y3:Int×Unit) R4=>L.begin Pr l2<|L.load eL6 (⟨b1,0,none⟩) λ(x7:Sl)=>L.new [I y3.1] zu λb8=>L.sem Pr (.one (.one .slice)) (Builtin.append_ #[ZO,ZO] ZO #[Sv6 x7,.slice (some ⟨b8,0,none⟩) 1 1]) λ(s9:Sl)=>L.store (⟨b1,0,none⟩) [Sv6 s9]<|L.endRound Pr l2 none R4) λd5 j6=>L.jump j6 (L.load eL6 (⟨b1,0,none⟩) λ(x10:Sl)=>L.unmark Pr (d5++[])<|K (.slice x10.a x10.len x10.cap)) (L.unmark Pr (d5++[])<|K (.slice none 0 0)) []
def KY(p0:Sl)(p1:FV)(h:Qd p0 p1 K w):CV JU [.v (.slice p0.a p0.len p0.cap),.v (.func p1.fn p1.fs p1.cs)] K w:=zF Tryz.f300 oe _ h
def ua:Ann:=(.q2 (.q2 (.seq (.one [(7,eI6),(8,eI6)] .auto) (.q2 (.one [(6,eI6)] (.q2 (.q2 (.seq (.one [(7,eI6),(8,eI6)] .auto) (.q2 .auto (some [])) none) none) none)) none) none) none) none)
def YE(p0:Sl)(p1:Int)(p2:FV)(K:Value→PT):PT:=
  L.loop (Y:=Int×Int×Unit) (0,20,()) λy1 again2=>L.ite (decide (y1.2.1≤p1)) (L.call Pr ZR [Sv6 p0,I y1.1,I y1.2.1,.func p2.fn p2.fs p2.cs] (.tup []) λ(x3:Unit)=>again2 (y1.2.1,Wi (y1.2.1+20),()))<|L.call Pr ZR [Sv6 p0,I y1.1,I p1,.func p2.fn p2.fs p2.cs] (.tup []) λ(x4:Unit)=>L.loop (Y:=Int×Unit) (20,()) λy5 again6=>L.ite (decide (y5.1<p1)) (L.loop (Y:=Int×Int×Unit) (0,Wi (2*y5.1),()) λy7 again8=>L.ite (decide (y7.2.1≤p1)) (L.call Pr zN [Sv6 p0,I y7.1,I (Wi (y7.1+y5.1)),I y7.2.1,.func p2.fn p2.fs p2.cs] (.tup []) λ(x9:Unit)=>again8 (y7.2.1,Wi (y7.2.1+(Wi (2*y5.1))),()))<|L.join (Y:=Unit) (λk10=>L.ite (decide ((Wi (y7.1+y5.1))<p1)) (L.call Pr zN [Sv6 p0,I y7.1,I (Wi (y7.1+y5.1)),I p1,.func p2.fn p2.fs p2.cs] (.tup []) λ(x12:Unit)=>k10 (()))<|k10 (())) λz11=>again6 (Wi (y5.1*2),()))<|K (.tuple #[])
def JL(p0:Sl)(p1:Int)(p2:FV)(h:YE p0 p1 p2 K w):CV JF [.v (.slice p0.a p0.len p0.cap),.v (.int .i64 p1),.v (.func p2.fn p2.fs p2.cs)] K w:=zF Tryz.f314 ua _ h
def oE(p0:Option Addr)(p1:Int)(K:Value→PT):PT:=
  L.nonnil p0 λa1=>L.load (.one (.map)) (a1.add 0) λ(x2:Option Nat)=>L.semR Pr rB (Instr.lookup Ye (.map x2) (I p1) false) λ(x3:Bool)=>L.ite x3 (K (I 5))<|L.draw<|L.nonnil p0 λa4=>L.load (.one (.map)) (a4.add 0) λ(x5:Option Nat)=>L.semR Pr rI (Builtin.len_ #[Ye] zu #[.map x5]) λ(x6:Int)=>L.nonnil p0 λa7=>L.load eI6 (a7.add 1) λ(x8:Int)=>L.ite (decide (x6≥x8)) (K (I 8))<|L.nonnil p0 λa9=>L.load (.one (.map)) (a9.add 0) λ(x10:Option Nat)=>L.semU Pr (Instr.mapUpdate Ye (.map x10) (I p1) (.bool true))<|K (I 0)
def PO(p0:Option Addr)(p1:Int)(h:oE p0 p1 K w):CV ow [.v (.pointer p0),.v (.int .i64 p1)] K w:=zF Tryz.f315 .auto _ h
def UP:Ann:=(.q2 (.seq (.q2 (.q2 .auto (some [(7,eS6)])) none) .auto none) none)
def xJ(p0:Sl)(p1:FV)(K:Value→PT):PT:=
  L.new [Sv6 p0] zj λb1=>L.range Pr none (.func p1.fn p1.fs p1.cs) [eS6] (λl2(y3:B0×Unit) R4=>L.begin Pr l2<|L.load eL6 (⟨b1,0,none⟩) λ(x7:Sl)=>L.new [.string y3.1] zc λb8=>L.sem Pr (.one (.one .slice)) (Builtin.append_ #[zj,zj] zj #[Sv6 x7,.slice (some ⟨b8,0,none⟩) 1 1]) λ(s9:Sl)=>L.store (⟨b1,0,none⟩) [Sv6 s9]<|L.endRound Pr l2 none R4) λd5 j6=>L.jump j6 (L.load eL6 (⟨b1,0,none⟩) λ(x10:Sl)=>L.unmark Pr (d5++[])<|K (.slice x10.a x10.len x10.cap)) (L.unmark Pr (d5++[])<|K (.slice none 0 0)) []
def UO(p0:Sl)(p1:FV)(h:xJ p0 p1 K w):CV jc [.v (.slice p0.a p0.len p0.cap),.v (.func p1.fn p1.fs p1.cs)] K w:=zF Tryz.f316 UP _ h
def jJ:Ann:=(.q2 (.one [] (.q2 (.seq (.cond .auto .auto) .auto none) none)) none)
def yB(p0:FV)(c0:Addr)(K:Value→PT):PT:=
  L.load (.one (.map)) c0 λ(x1:Option Nat)=>L.sem Pr (.one (.one .ptr)) (Instr.range zZ (.map x1)) λ(it2:Option Addr)=>L.loop (Y:=Unit) (()) λy3 again4=>L.next Pr [eS6,(.agg lf4)] (Instr.next (.pointer it2) false T_) (K (.tuple #[])) λ(x5:z2w)=>L.sem Pr (.tup [eS6,(.agg lf4)]) (Instr.entry (.pointer it2)) λ(x6:z2w)=>L.callV Pr (.func p0.fn p0.fs p0.cs) [.string x6.1] rB λ(x7:Bool)=>L.ite (!x7) (K (.tuple #[]))<|again4 (())
def jI(p0:FV)(c0:Addr)(h:yB p0 c0 K w):CV zL [.v (.func p0.fn p0.fs p0.cs),.v (.pointer (some c0))] K w:=zF Tryz.f318 jJ _ h
def jH:ZV Pr zL:=zM (by kernel_rfl)
def XR:Ann:=(.q2 (.one [(8,eI6)] (.q2 (.seq (.q2 (.one [(9,eI6)] (.seq (.q2 (.cond .auto .auto) none) .auto none)) none) .auto (some [])) none)) none)
def jh(p0:Sl)(p1 p2:Int)(p3:FV)(K:Value→PT):PT:=
  L.loop (Y:=Int×Unit) (Wi (p1+1),()) λy1 again2=>L.ite (decide (y1.1<p2)) (L.join (Y:=Unit) (λk3=>L.loop (Y:=Int×Unit) (y1.1,()) λy5 again6=>L.draw<|L.ite (decide (y5.1>p1)) (L.idx p0.a y5.1 p0.len 2 λa7=>L.load (.agg [.int .i64,.int .i64]) a7 λ(x8:Int×Int×Unit)=>L.idx p0.a (Wi (y5.1-1)) p0.len 2 λa9=>L.load (.agg [.int .i64,.int .i64]) a9 λ(x10:Int×Int×Unit)=>L.callV Pr (.func p3.fn p3.fs p3.cs) [.agg #[I x8.1,I x8.2.1],.agg #[I x10.1,I x10.2.1]] rI λ(x11:Int)=>L.ite (decide (x11<0)) (L.draw<|L.idx p0.a (Wi (y5.1-1)) p0.len 2 λa12=>L.load (.agg [.int .i64,.int .i64]) a12 λ(x13:Int×Int×Unit)=>L.idx p0.a y5.1 p0.len 2 λa14=>L.load (.agg [.int .i64,.int .i64]) a14 λ(x15:Int×Int×Unit)=>L.idx p0.a y5.1 p0.len 2 λa16=>L.store a16 [I x13.1,I x13.2.1]<|L.idx p0.a (Wi (y5.1-1)) p0.len 2 λa17=>L.store a17 [I x15.1,I x15.2.1]<|again6 (Wi (y5.1-1),()))<|k3 (()))<|k3 (())) λz4=>again2 (Wi (y1.1+1),()))<|K (.tuple #[])
def XQ(p0:Sl)(p1 p2:Int)(p3:FV)(h:jh p0 p1 p2 p3 K w):CV ZR [.v (.slice p0.a p0.len p0.cap),.v (.int .i64 p1),.v (.int .i64 p2),.v (.func p3.fn p3.fs p3.cs)] K w:=zF Tryz.f325 XR _ h
def QB:Ann:=(.seq (.q2 (.cond (.q2 (.q2 (.seq (.one [(10,eI6),(11,eI6)] .auto) (.seq (.q2 (.one [(13,eI6)] .auto) none) .auto none) none) none) none) .auto) none) (.seq (.q2 (.cond (.q2 (.q2 (.seq (.one [(14,eI6),(15,eI6)] .auto) (.seq (.q2 (.one [(17,eI6)] .auto) none) .auto none) none) none) none) .auto) none) (.q2 (.q2 (.q2 (.q2 (.q2 (.seq (.one [(20,eI6),(21,eI6)] .auto) (.q2 (.seq (.q2 (.cond .auto .auto) none) (.seq (.q2 (.cond .auto .auto) none) (.q2 (.cond .auto .auto) none) (some [])) (some [])) none) none) none) (some [(20,eI6),(21,eI6)])) none) none) none) none) none)
def yp(p0:Sl)(p1 p2 p3:Int)(p4:FV)(K:Value→PT):PT:=
  L.ite ((Wi (p2-p1)) == 1) (L.loop (Y:=Int×Int×Unit) (p2,p3,()) λy1 again2=>L.ite (decide (y1.1<y1.2.1)) (L.guard ((0:Int)≤1)<|L.draw<|L.idx p0.a (Wi (Int.fdiv (IntKind.wrap .u64 (Wi (y1.1+y1.2.1))) (2 ^ (min (Int.toNat 1) 64)))) p0.len 2 λa3=>L.load (.agg [.int .i64,.int .i64]) a3 λ(x4:Int×Int×Unit)=>L.idx p0.a p1 p0.len 2 λa5=>L.load (.agg [.int .i64,.int .i64]) a5 λ(x6:Int×Int×Unit)=>L.callV Pr (.func p4.fn p4.fs p4.cs) [.agg #[I x4.1,I x4.2.1],.agg #[I x6.1,I x6.2.1]] rI λ(x7:Int)=>L.ite (decide (x7<0)) (again2 (Wi ((Wi (Int.fdiv (IntKind.wrap .u64 (Wi (y1.1+y1.2.1))) (2 ^ (min (Int.toNat 1) 64))))+1),y1.2.1,()))<|again2 (y1.1,Wi (Int.fdiv (IntKind.wrap .u64 (Wi (y1.1+y1.2.1))) (2 ^ (min (Int.toNat 1) 64))),()))<|L.loop (Y:=Int×Unit) (p1,()) λy8 again9=>L.ite (decide (y8.1<(Wi (y1.1-1)))) (L.draw<|L.idx p0.a (Wi (y8.1+1)) p0.len 2 λa10=>L.load (.agg [.int .i64,.int .i64]) a10 λ(x11:Int×Int×Unit)=>L.idx p0.a y8.1 p0.len 2 λa12=>L.load (.agg [.int .i64,.int .i64]) a12 λ(x13:Int×Int×Unit)=>L.idx p0.a y8.1 p0.len 2 λa14=>L.store a14 [I x11.1,I x11.2.1]<|L.idx p0.a (Wi (y8.1+1)) p0.len 2 λa15=>L.store a15 [I x13.1,I x13.2.1]<|again9 (Wi (y8.1+1),()))<|K (.tuple #[]))<|L.ite ((Wi (p3-p2)) == 1) (L.loop (Y:=Int×Int×Unit) (p1,p2,()) λy16 again17=>L.ite (decide (y16.1<y16.2.1)) (L.guard ((0:Int)≤1)<|L.draw<|L.idx p0.a p2 p0.len 2 λa18=>L.load (.agg [.int .i64,.int .i64]) a18 λ(x19:Int×Int×Unit)=>L.idx p0.a (Wi (Int.fdiv (IntKind.wrap .u64 (Wi (y16.1+y16.2.1))) (2 ^ (min (Int.toNat 1) 64)))) p0.len 2 λa20=>L.load (.agg [.int .i64,.int .i64]) a20 λ(x21:Int×Int×Unit)=>L.callV Pr (.func p4.fn p4.fs p4.cs) [.agg #[I x19.1,I x19.2.1],.agg #[I x21.1,I x21.2.1]] rI λ(x22:Int)=>L.ite (!(decide (x22<0))) (again17 (Wi ((Wi (Int.fdiv (IntKind.wrap .u64 (Wi (y16.1+y16.2.1))) (2 ^ (min (Int.toNat 1) 64))))+1),y16.2.1,()))<|again17 (y16.1,Wi (Int.fdiv (IntKind.wrap .u64 (Wi (y16.1+y16.2.1))) (2 ^ (min (Int.toNat 1) 64))),()))<|L.loop (Y:=Int×Unit) (p2,()) λy23 again24=>L.ite (decide (y23.1>y16.1)) (L.draw<|L.idx p0.a (Wi (y23.1-1)) p0.len 2 λa25=>L.load (.agg [.int .i64,.int .i64]) a25 λ(x26:Int×Int×Unit)=>L.idx p0.a y23.1 p0.len 2 λa27=>L.load (.agg [.int .i64,.int .i64]) a27 λ(x28:Int×Int×Unit)=>L.idx p0.a y23.1 p0.len 2 λa29=>L.store a29 [I x26.1,I x26.2.1]<|L.idx p0.a (Wi (y23.1-1)) p0.len 2 λa30=>L.store a30 [I x28.1,I x28.2.1]<|again24 (Wi (y23.1-1),()))<|K (.tuple #[]))<|L.guard ((0:Int)≤1)<|L.join (Y:=Int×Int×Unit) (λk31=>L.ite (decide (p2>(Wi (Int.fdiv (IntKind.wrap .u64 (Wi (p1+p3))) (2 ^ (min (Int.toNat 1) 64)))))) (k31 (Wi ((Wi ((Wi (Int.fdiv (IntKind.wrap .u64 (Wi (p1+p3))) (2 ^ (min (Int.toNat 1) 64))))+p2))-p3),Wi (Int.fdiv (IntKind.wrap .u64 (Wi (p1+p3))) (2 ^ (min (Int.toNat 1) 64))),()))<|k31 (p1,p2,())) λz32=>L.loop (Y:=Int×Int×Unit) (z32.1,z32.2.1,()) λy33 again34=>L.ite (decide (y33.1<y33.2.1)) (L.guard ((0:Int)≤1)<|L.draw<|L.idx p0.a (Wi ((Wi ((Wi ((Wi (Int.fdiv (IntKind.wrap .u64 (Wi (p1+p3))) (2 ^ (min (Int.toNat 1) 64))))+p2))-1))-(Wi (Int.fdiv (IntKind.wrap .u64 (Wi (y33.1+y33.2.1))) (2 ^ (min (Int.toNat 1) 64)))))) p0.len 2 λa35=>L.load (.agg [.int .i64,.int .i64]) a35 λ(x36:Int×Int×Unit)=>L.idx p0.a (Wi (Int.fdiv (IntKind.wrap .u64 (Wi (y33.1+y33.2.1))) (2 ^ (min (Int.toNat 1) 64)))) p0.len 2 λa37=>L.load (.agg [.int .i64,.int .i64]) a37 λ(x38:Int×Int×Unit)=>L.callV Pr (.func p4.fn p4.fs p4.cs) [.agg #[I x36.1,I x36.2.1],.agg #[I x38.1,I x38.2.1]] rI λ(x39:Int)=>L.ite (!(decide (x39<0))) (again34 (Wi ((Wi (Int.fdiv (IntKind.wrap .u64 (Wi (y33.1+y33.2.1))) (2 ^ (min (Int.toNat 1) 64))))+1),y33.2.1,()))<|again34 (y33.1,Wi (Int.fdiv (IntKind.wrap .u64 (Wi (y33.1+y33.2.1))) (2 ^ (min (Int.toNat 1) 64))),()))<|L.join (Y:=Unit) (λk40=>L.ite (decide (y33.1<p2)) (L.ite (decide (p2<(Wi ((Wi ((Wi (Int.fdiv (IntKind.wrap .u64 (Wi (p1+p3))) (2 ^ (min (Int.toNat 1) 64))))+p2))-y33.1)))) (L.call Pr YD [Sv6 p0,I y33.1,I p2,I (Wi ((Wi ((Wi (Int.fdiv (IntKind.wrap .u64 (Wi (p1+p3))) (2 ^ (min (Int.toNat 1) 64))))+p2))-y33.1)),.func p4.fn p4.fs p4.cs] (.tup []) λ(x42:Unit)=>k40 (()))<|k40 (()))<|k40 (())) λz41=>L.join (Y:=Unit) (λk43=>L.ite (decide (p1<y33.1)) (L.ite (decide (y33.1<(Wi (Int.fdiv (IntKind.wrap .u64 (Wi (p1+p3))) (2 ^ (min (Int.toNat 1) 64)))))) (L.call Pr zN [Sv6 p0,I p1,I y33.1,I (Wi (Int.fdiv (IntKind.wrap .u64 (Wi (p1+p3))) (2 ^ (min (Int.toNat 1) 64)))),.func p4.fn p4.fs p4.cs] (.tup []) λ(x45:Unit)=>k43 (()))<|k43 (()))<|k43 (())) λz44=>L.ite (decide ((Wi (Int.fdiv (IntKind.wrap .u64 (Wi (p1+p3))) (2 ^ (min (Int.toNat 1) 64))))<(Wi ((Wi ((Wi (Int.fdiv (IntKind.wrap .u64 (Wi (p1+p3))) (2 ^ (min (Int.toNat 1) 64))))+p2))-y33.1)))) (L.ite (decide ((Wi ((Wi ((Wi (Int.fdiv (IntKind.wrap .u64 (Wi (p1+p3))) (2 ^ (min (Int.toNat 1) 64))))+p2))-y33.1))<p3)) (L.call Pr zN [Sv6 p0,I (Wi (Int.fdiv (IntKind.wrap .u64 (Wi (p1+p3))) (2 ^ (min (Int.toNat 1) 64)))),I (Wi ((Wi ((Wi (Int.fdiv (IntKind.wrap .u64 (Wi (p1+p3))) (2 ^ (min (Int.toNat 1) 64))))+p2))-y33.1)),I p3,.func p4.fn p4.fs p4.cs] (.tup []) λ(x46:Unit)=>K (.tuple #[]))<|K (.tuple #[]))<|K (.tuple #[])
def Yo(p0:Sl)(p1 p2 p3:Int)(p4:FV)(h:yp p0 p1 p2 p3 p4 K w):CV zN [.v (.slice p0.a p0.len p0.cap),.v (.int .i64 p1),.v (.int .i64 p2),.v (.int .i64 p3),.v (.func p4.fn p4.fs p4.cs)] K w:=zF Tryz.f326 QB _ h
def ub:Ann:=(.q2 (.q2 (.seq (.one [(10,eI6),(11,eI6)] .auto) .auto none) none) none)
def JJ(p0:Sl)(p1 p2 p3:Int)(p4:FV)(K:Value→PT):PT:=
  L.loop (Y:=Int×Int×Unit) (Wi (p2-p1),Wi (p3-p2),()) λy1 again2=>L.ite (y1.1 != y1.2.1) (L.ite (decide (y1.1>y1.2.1)) (L.call Pr ZK [Sv6 p0,I (Wi (p2-y1.1)),I p2,I y1.2.1,.func p4.fn p4.fs p4.cs] (.tup []) λ(x3:Unit)=>again2 (Wi (y1.1-y1.2.1),y1.2.1,()))<|L.call Pr ZK [Sv6 p0,I (Wi (p2-y1.1)),I (Wi ((Wi (p2+y1.2.1))-y1.1)),I y1.1,.func p4.fn p4.fs p4.cs] (.tup []) λ(x4:Unit)=>again2 (y1.1,Wi (y1.2.1-y1.1),()))<|L.call Pr ZK [Sv6 p0,I (Wi (p2-y1.1)),I p2,I y1.1,.func p4.fn p4.fs p4.cs] (.tup []) λ(x5:Unit)=>K (.tuple #[])
def QY(p0:Sl)(p1 p2 p3:Int)(p4:FV)(h:JJ p0 p1 p2 p3 p4 K w):CV YD [.v (.slice p0.a p0.len p0.cap),.v (.int .i64 p1),.v (.int .i64 p2),.v (.int .i64 p3),.v (.func p4.fn p4.fs p4.cs)] K w:=zF Tryz.f338 ub _ h
def Qk:Ann:=(.q2 (.one [(10,eI6)] .auto) none)
def jV(p0:Sl)(p1 p2 p3:Int)(p4:FV)(K:Value→PT):PT:=
  L.loop (Y:=Int×Unit) (0,()) λy1 again2=>L.ite (decide (y1.1<p3)) (L.draw<|L.idx p0.a (Wi (p2+y1.1)) p0.len 2 λa3=>L.load (.agg [.int .i64,.int .i64]) a3 λ(x4:Int×Int×Unit)=>L.idx p0.a (Wi (p1+y1.1)) p0.len 2 λa5=>L.load (.agg [.int .i64,.int .i64]) a5 λ(x6:Int×Int×Unit)=>L.idx p0.a (Wi (p1+y1.1)) p0.len 2 λa7=>L.store a7 [I x4.1,I x4.2.1]<|L.idx p0.a (Wi (p2+y1.1)) p0.len 2 λa8=>L.store a8 [I x6.1,I x6.2.1]<|again2 (Wi (y1.1+1),()))<|K (.tuple #[])
def Qi(p0:Sl)(p1 p2 p3:Int)(p4:FV)(h:jV p0 p1 p2 p3 p4 K w):CV ZK [.v (.slice p0.a p0.len p0.cap),.v (.int .i64 p1),.v (.int .i64 p2),.v (.int .i64 p3),.v (.func p4.fn p4.fs p4.cs)] K w:=zF Tryz.f343 Qk _ h
end Go.Proofs.YtdcdhcgmeahfmaaGreatDoor
