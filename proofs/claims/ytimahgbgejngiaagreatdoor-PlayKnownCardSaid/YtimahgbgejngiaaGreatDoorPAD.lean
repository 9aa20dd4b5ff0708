/- What is proved on the way to a statement of the seat, pressed (text AD). No conditions beyond those its theorems state. -/
import Derived.Test.YtimahgbgejngiaaGreatDoorPAC
import Derived.Test.YtimahgbgejngiaaGreatDoorProg
set_option linter.all false
namespace Go.Proofs.YtimahgbgejngiaaGreatDoor
set_option maxRecDepth 100000
open Go.Dm
abbrev I(n:Int):Value:=.int .i64 n
abbrev Jf:Lf:=.int .i64
abbrev J8:Lf:=.int .u8
abbrev ht0:=HT [.str,.int .i64,.int .i64,.int .i64,.int .i64,.int .i64]
abbrev ht1:=HT [.int .i64,.str,.str,.int .i64,.int .i64,.str,.int .i64,.int .i64,.int .i64,.int .i64,.int .i64,.str,.str,.slice,.int .i64]
abbrev ht2:=HT [.str,.str,.slice,.int .i64]
abbrev ht3:=HT [.int .i64,.int .i64,.int .i64,.str]
abbrev qc0(p:ht0):List Value:=[.string p.1,I p.2.1,I p.2.2.1,I p.2.2.2.1,I p.2.2.2.2.1,I p.2.2.2.2.2.1]
abbrev qc1(p:ht1):List Value:=[I p.1,.string p.2.1,.string p.2.2.1,I p.2.2.2.1,I p.2.2.2.2.1,.string p.2.2.2.2.2.1,I p.2.2.2.2.2.2.1,I p.2.2.2.2.2.2.2.1,I p.2.2.2.2.2.2.2.2.1,I p.2.2.2.2.2.2.2.2.2.1,I p.2.2.2.2.2.2.2.2.2.2.1,.string p.2.2.2.2.2.2.2.2.2.2.2.1,.string p.2.2.2.2.2.2.2.2.2.2.2.2.1,.slice p.2.2.2.2.2.2.2.2.2.2.2.2.2.1.a p.2.2.2.2.2.2.2.2.2.2.2.2.2.1.len p.2.2.2.2.2.2.2.2.2.2.2.2.2.1.cap,I p.2.2.2.2.2.2.2.2.2.2.2.2.2.2.1]
abbrev qc2(p:ht2):List Value:=[.string p.1,.string p.2.1,.slice p.2.2.1.a p.2.2.1.len p.2.2.1.cap,I p.2.2.2.1]
abbrev qc3(p:ht3):List Value:=[I p.1,I p.2.1,I p.2.2.1,.string p.2.2.2.1]
abbrev pt0:=B0×Int×Int×Int×Int×Int×Unit
abbrev pt1:=Int×B0×B0×Int×Int×B0×Int×Int×Int×Int×Int×B0×B0×Sl×Int×Unit
abbrev pt2:=(Bool×Bool×Bool×Bool×Bool×Bool×Unit)×Bool×Unit
abbrev pt3:=B0×B0×Sl×Int×Unit
abbrev pt4:=(B0×Int×Int×Int×Int×Int×Unit)×Int×Int×Bool×Unit
abbrev pt6:=(B0×Int×B0×Int×Int×Int×Int×Int×Unit)×Bool×Unit
abbrev pt7:=Int×(B0×Int×Unit)×Unit
abbrev pt8:=Bool×Bool×Bool×Bool×Bool×Bool×Unit
abbrev pt9:=B0×B0×Int×Unit
abbrev VX:=Int×Int×Int×B0×Unit
abbrev AM:=(Int×Int×Int×B0×Unit)×Bool×Unit
abbrev AL:=(B0×Int×Int×Int×Int×Int×Int×Int×Bool×Unit)×Bool×Unit
abbrev Lv:=B0×Int×B0×Int×Int×Int×Int×Int×Unit
abbrev AK:=(Sl×Sl×Int×Int×Sl×Sl×Unit)×Bool×Unit
abbrev AJ:=Int×Option (TypeId×Value)×Unit
abbrev nV:=B0×Int×Int×Int×Int×Int×Int×Int×Bool×Unit
abbrev AI:=(B0×Int×Unit)×Bool×Unit
abbrev aU:=B0×(B0×Int×B0×Int×Int×Int×Int×Int×Unit)×Unit
abbrev aT:=Int×(B0×Option Addr×Unit)×Unit
abbrev lf0:List Lf:=[.str,Jf,Jf,Jf,Jf,Jf]
abbrev lf1:List Lf:=[Jf,.str,.str,Jf,Jf,.str,Jf,Jf,Jf,Jf,Jf,.str,.str,.slice,Jf]
abbrev lf2:List Lf:=[.ptr,.ptr,.ptr,.ptr,.ptr,.map,Jf]
abbrev lf3:List Lf:=[Jf,.ptr,.ptr,.ptr,.ptr,.ptr,.slice]
abbrev lf4:List Lf:=[.ptr,.map,.map,.func,Jf,Jf]
abbrev lf5:List Lf:=[.bool,.bool,.bool,.bool,.bool,.bool]
abbrev lf6:List Lf:=[.str,Jf,.str,Jf,Jf,Jf,Jf,Jf]
abbrev lf7:List Lf:=[.ptr,Jf,Jf,.slice,.slice,.slice]
abbrev lf8:List Lf:=[Jf,Jf,Jf,Jf,Jf,Jf,Jf,Jf,Jf,Jf,Jf,Jf,Jf,Jf,Jf,Jf,Jf,Jf,Jf,Jf,Jf,Jf,Jf,Jf,Jf,Jf,Jf,Jf,Jf,Jf,Jf,Jf,Jf,Jf,Jf,Jf,Jf,Jf,Jf,Jf,Jf,Jf,Jf,Jf,Jf,Jf,Jf,Jf,Jf,Jf,Jf,Jf,Jf,Jf,Jf,Jf,Jf,Jf,Jf,Jf]
abbrev lf9:List Lf:=[Jf,Jf,Jf,Jf,Jf,Jf,Jf,Jf,Jf,Jf,Jf,Jf,Jf,Jf,Jf,Jf,Jf,Jf,Jf,Jf,Jf,Jf,Jf,Jf,Jf,Jf,Jf,Jf,Jf,Jf,Jf,Jf,Jf,Jf,Jf,Jf,Jf,Jf,Jf,Jf,Jf,Jf,Jf,Jf,Jf,Jf,Jf,Jf,Jf,Jf,Jf,Jf,Jf,Jf,Jf,Jf,Jf,Jf,Jf,Jf,Jf]
abbrev sq:List Lf:=[Jf,Jf,Jf,Jf,Jf,Jf,Jf,Jf,Jf,Jf,Jf,Jf,Jf,Jf,Jf,Jf,Jf,Jf,Jf,Jf,Jf,Jf,Jf,Jf,Jf,Jf,Jf,Jf,Jf,Jf,Jf,Jf,Jf,Jf,Jf,Jf,Jf,Jf,Jf,Jf,Jf,Jf,Jf,Jf,Jf,Jf,Jf,Jf,Jf,Jf,Jf,Jf,Jf,Jf,Jf,Jf,Jf,Jf,Jf,Jf,Jf,Jf]
abbrev cF:List Lf:=[.str,Jf,Jf,Jf,Jf,Jf,Jf,Jf,.bool]
abbrev sn:List Lf:=[.str,.str,.slice,Jf,Jf,Jf,.bool]
abbrev Ab:List Lf:=[.slice,.slice,Jf,Jf,.slice,.slice]
abbrev sj:List Lf:=[J8,J8,J8,J8,J8,J8,J8,J8,J8,J8,J8,J8,J8,J8,J8,J8,J8,J8,J8,J8,J8,J8,J8,J8]
abbrev sd:List Lf:=[.int .u64,.int .u64,.int .u64,.int .u64,.int .u64,.int .u64,.int .u64,.int .u64,.int .u64,.int .u64,.int .u64,.int .u64,.int .u64,.int .u64,.int .u64,.int .u64,.int .u64,.int .u64,.int .u64,.int .u64]
abbrev AZ:List Lf:=[J8,J8,J8,J8,J8,J8,J8,J8,J8,J8,J8,J8,J8,J8,J8,J8,J8,J8,J8,J8,J8,J8,J8,J8,J8,J8,J8,J8,J8,J8,J8,J8,J8,J8,J8,J8,J8,J8,J8,J8,J8,J8,J8,J8,J8,J8,J8,J8,J8,J8,J8,J8,J8,J8,J8,J8,J8,J8,J8,J8,J8,J8,J8,J8,J8]
abbrev AY:List Lf:=[J8,J8,J8,J8,J8,J8,J8,J8,J8,J8,J8,J8,J8,J8,J8,J8,J8,J8,J8,J8,J8,J8,J8,J8,J8,J8,J8,J8,J8,J8,J8,J8]
abbrev AX:List Lf:=[J8,J8,J8,J8,J8,J8,J8,J8,J8,J8,J8,J8,J8,J8,J8,J8,J8,J8,J8,J8,J8,J8,J8,J8,J8,J8,J8,J8,J8,J8,J8,J8,J8,J8,J8,J8,J8,J8,J8,J8,J8,J8,J8,J8,J8,J8,J8,J8,J8,J8,J8,J8,J8,J8,J8,J8,J8,J8,J8,J8,J8,J8,J8,J8]
abbrev AW:List Lf:=[.int .u64,.int .u64,.int .u32,J8,J8,J8,J8,.func,.ptr,.int .i32,.int .i32]
abbrev AV:List Lf:=[Jf,.str,.str,Jf,Jf,Jf,Jf,Jf,.str,.str,.slice,Jf,Jf,Jf,.bool]
abbrev AU:List Lf:=[.str,.slice,.slice,Jf,Jf,.slice,.slice]
abbrev qa0(p:pt0):Value:=.agg #[.string p.1,I p.2.1,I p.2.2.1,I p.2.2.2.1,I p.2.2.2.2.1,I p.2.2.2.2.2.1]
abbrev qa1(p:pt1):Value:=.agg #[I p.1,.string p.2.1,.string p.2.2.1,I p.2.2.2.1,I p.2.2.2.2.1,.string p.2.2.2.2.2.1,I p.2.2.2.2.2.2.1,I p.2.2.2.2.2.2.2.1,I p.2.2.2.2.2.2.2.2.1,I p.2.2.2.2.2.2.2.2.2.1,I p.2.2.2.2.2.2.2.2.2.2.1,.string p.2.2.2.2.2.2.2.2.2.2.2.1,.string p.2.2.2.2.2.2.2.2.2.2.2.2.1,.slice p.2.2.2.2.2.2.2.2.2.2.2.2.2.1.a p.2.2.2.2.2.2.2.2.2.2.2.2.2.1.len p.2.2.2.2.2.2.2.2.2.2.2.2.2.1.cap,I p.2.2.2.2.2.2.2.2.2.2.2.2.2.2.1]
abbrev qa2(p:pt8):Value:=.agg #[.bool p.1,.bool p.2.1,.bool p.2.2.1,.bool p.2.2.2.1,.bool p.2.2.2.2.1,.bool p.2.2.2.2.2.1]
abbrev qa3(p:Lv):Value:=.agg #[.string p.1,I p.2.1,.string p.2.2.1,I p.2.2.2.1,I p.2.2.2.2.1,I p.2.2.2.2.2.1,I p.2.2.2.2.2.2.1,I p.2.2.2.2.2.2.2.1]
abbrev qa5(p:nV):Value:=.agg #[.string p.1,I p.2.1,I p.2.2.1,I p.2.2.2.1,I p.2.2.2.2.1,I p.2.2.2.2.2.1,I p.2.2.2.2.2.2.1,I p.2.2.2.2.2.2.2.1,.bool p.2.2.2.2.2.2.2.2.1]
abbrev eI6:E1:=.one (.int .i64)
abbrev eS6:E1:=.one .str
abbrev eL6:E1:=.one .slice
abbrev eB6:E1:=.one .bool
abbrev eP6:E1:=.one .ptr
abbrev rI:RT:=.one eI6
abbrev rS:RT:=.one eS6
abbrev rL:RT:=.one eL6
abbrev rB:RT:=.one eB6
abbrev rP:RT:=.one eP6
abbrev Sv6(v:Sl):Value:=.slice v.a v.len v.cap
abbrev Ad6(b n:Nat):Addr:=(⟨b,0,none⟩:Addr).add n
noncomputable abbrev Pr:Program:=Tryz.prog
abbrev XD:Nat:=4
abbrev Vo:Nat:=8
abbrev zJ:Nat:=10
abbrev xQ:Nat:=15
abbrev xn:Nat:=16
abbrev qL:Nat:=17
abbrev Yw:Nat:=22
abbrev kU:Nat:=23
abbrev kS:Nat:=24
abbrev kR:Nat:=25
abbrev OO:Nat:=26
abbrev OP:Nat:=27
abbrev Qe:Nat:=28
abbrev zG:Nat:=29
abbrev js:Nat:=30
abbrev yi:Nat:=31
abbrev JK:Nat:=32
abbrev xg:Nat:=33
abbrev yj:Nat:=34
abbrev xh:Nat:=35
abbrev Xj:Nat:=36
abbrev yG:Nat:=37
abbrev yF:Nat:=38
abbrev ym:Nat:=39
abbrev xf:Nat:=40
abbrev yn:Nat:=41
abbrev yd:Nat:=42
abbrev Xo:Nat:=43
abbrev Zx:Nat:=45
abbrev vb:Nat:=47
abbrev qb:Nat:=48
abbrev jr:Nat:=52
abbrev jS:Nat:=56
abbrev ZJ:Nat:=57
abbrev Jh:Nat:=58
abbrev jR:Nat:=59
abbrev uj:Nat:=60
abbrev OL:Nat:=61
abbrev Qc:Nat:=62
abbrev xG:Nat:=63
abbrev jM:Nat:=64
abbrev jV:Nat:=65
abbrev Vq:Nat:=66
abbrev uR:Nat:=67
abbrev Qd:Nat:=68
abbrev Zg:Nat:=69
abbrev zH:Nat:=70
abbrev zM:Nat:=71
abbrev xj:Nat:=72
abbrev uN:Nat:=73
abbrev fT:Nat:=74
abbrev mQ:Nat:=75
abbrev jT:Nat:=76
abbrev Vn:Nat:=77
abbrev yE:Nat:=80
abbrev JL:Nat:=82
abbrev Xp:Nat:=83
abbrev Qa:Nat:=84
abbrev yM:Nat:=85
abbrev zF:Nat:=86
abbrev qN:Nat:=95
abbrev xJ:Nat:=96
abbrev qd:Nat:=97
abbrev xF:Nat:=98
abbrev jq:Nat:=99
abbrev Xk:Nat:=100
abbrev kT:Nat:=101
abbrev YO:Nat:=106
abbrev jh:Nat:=107
abbrev Ys:Nat:=108
abbrev Jk:Nat:=109
abbrev uP:Nat:=110
abbrev Xm:Nat:=111
abbrev xP:Nat:=112
abbrev xi:Nat:=113
abbrev YE:Nat:=114
abbrev JM:Nat:=115
abbrev QG:Nat:=116
abbrev Zz:Nat:=117
abbrev xK:Nat:=119
abbrev kV:Nat:=120
abbrev vd:Nat:=121
abbrev oz:Nat:=122
abbrev xT:Nat:=123
abbrev Qb:Nat:=124
abbrev Jj:Nat:=129
abbrev ZG:Nat:=130
abbrev UY:Nat:=131
abbrev OM:Nat:=132
abbrev YG:Nat:=137
abbrev YF:Nat:=138
abbrev qt:Nat:=144
abbrev Vm:Nat:=145
abbrev UW:Nat:=146
abbrev qO:Nat:=147
abbrev Xn:Nat:=148
abbrev yu:Nat:=149
abbrev jA:Nat:=150
abbrev JA:Nat:=151
abbrev qM:Nat:=152
abbrev xD:Nat:=153
abbrev kP:Nat:=154
abbrev yz:Nat:=158
abbrev qe:Nat:=160
abbrev xl:Nat:=161
abbrev qJ:Nat:=162
abbrev qK:Nat:=163
abbrev xk:Nat:=164
abbrev YH:Nat:=165
abbrev Qo:Nat:=166
abbrev ON:Nat:=171
abbrev Ql:Nat:=175
abbrev JN:Nat:=176
abbrev Ji:Nat:=177
abbrev ji:Nat:=178
abbrev Xl:Nat:=179
abbrev uO:Nat:=180
abbrev qP:Nat:=181
abbrev GP:Nat:=182
abbrev xO:Nat:=183
abbrev QH:Nat:=184
abbrev Yv:Nat:=187
abbrev ZB:Nat:=195
abbrev uQ:Nat:=196
abbrev jz:Nat:=197
abbrev Zj:Nat:=198
abbrev ZF:Nat:=199
abbrev JO:Nat:=200
abbrev xm:Nat:=201
abbrev QQ:Nat:=202
abbrev kQ:Nat:=203
abbrev Vp:Nat:=204
abbrev qc:Nat:=205
abbrev ZN:Nat:=206
abbrev xE:Nat:=207
abbrev xN:Nat:=214
abbrev Xq:Nat:=215
abbrev Xi:Nat:=216
abbrev jQ:Nat:=217
abbrev UX:Nat:=218
abbrev jK:Nat:=220
abbrev ZT:Nat:=223
abbrev ZU:Nat:=224
abbrev yO:Nat:=225
abbrev Zs:Nat:=226
abbrev QP:Nat:=227
abbrev yN:Nat:=228
abbrev yB:Nat:=234
abbrev yA:Nat:=235
abbrev Xr:Nat:=239
abbrev yH:Nat:=240
abbrev YP:Nat:=241
abbrev yQ:Nat:=242
abbrev UZ:Nat:=243
abbrev Yd:Nat:=255
abbrev jU:Nat:=256
abbrev YU:Nat:=257
abbrev jL:Nat:=258
abbrev Ye:Nat:=263
abbrev zY:Nat:=270
abbrev zN:Nat:=271
abbrev qa:Nat:=272
abbrev Qn:Nat:=273
abbrev XC:Nat:=275
abbrev JU:Nat:=276
abbrev zC:Nat:=277
abbrev ZP:Nat:=278
abbrev yl:Nat:=286
abbrev YW:Nat:=287
abbrev ZO:Nat:=288
abbrev YI:Nat:=305
abbrev UJ:Nat:=306
abbrev YV:Nat:=307
abbrev yP:Nat:=308
abbrev zr:Nat:=310
abbrev zI:Nat:=311
abbrev Zo:Nat:=318
abbrev zu:Nat:=319
abbrev yp:Nat:=331
abbrev Zf:Nat:=336
abbrev T_:Nat:=0
abbrev zm:Nat:=3
abbrev Vw:Nat:=4
abbrev yc:Nat:=5
abbrev zd:Nat:=9
abbrev Ko:Nat:=20
abbrev zq:Nat:=23
abbrev Zv:Nat:=24
abbrev ZL:Nat:=27
abbrev qi:Nat:=32
abbrev ZZ:Nat:=34
abbrev zT:Nat:=36
abbrev zU:Nat:=38
abbrev zp:Nat:=40
abbrev Yb:Nat:=41
abbrev ya:Nat:=48
abbrev zO:Nat:=49
abbrev YL:Nat:=60
abbrev Qh:Nat:=61
abbrev Qg:Nat:=62
abbrev yZ:Nat:=64
abbrev Zd:Nat:=66
abbrev YK:Nat:=74
abbrev Za:Nat:=77
abbrev VP:Nat:=79
abbrev zj:Nat:=83
abbrev yf:Nat:=86
abbrev Fd:Nat:=88
abbrev XJ:Nat:=115
abbrev Ze:Nat:=120
abbrev Qj:Nat:=121
abbrev Oa:Nat:=123
abbrev oY:Nat:=131
abbrev zQ:Nat:=133
abbrev OX:Nat:=135
abbrev Gi:Nat:=137
abbrev jj:Nat:=138
abbrev oZ:Nat:=140
abbrev yS:Nat:=141
abbrev zW:Nat:=142
abbrev Qi:Nat:=143
abbrev Fe:Nat:=149
abbrev Qt:Nat:=151
abbrev zR:Nat:=172
abbrev JW:Nat:=175
abbrev zL:Nat:=179
abbrev Zp:Nat:=181
abbrev JD:Nat:=184
abbrev zK:Nat:=210
abbrev Zm:Nat:=220
abbrev zS:Nat:=242
abbrev Zi:Nat:=244
abbrev Xt:Nat:=245
abbrev Jr:Nat:=247
abbrev ZK:Nat:=250
abbrev UO:Nat:=254
abbrev Fc:Nat:=256
abbrev Qs:Nat:=287
abbrev jG:Nat:=302
abbrev zz:Nat:=304
abbrev Uh:Nat:=328
abbrev ZX:Nat:=332
abbrev Js:Nat:=335
abbrev UP:Nat:=340
abbrev ni:Nat:=344
abbrev Kp:Nat:=360
abbrev zV:Nat:=372
abbrev Yt:Nat:=375
abbrev Ja:Nat:=377
abbrev vC:Nat:=381
abbrev Xs:Nat:=387
abbrev jZ:Nat:=413
abbrev nh:Nat:=416
abbrev Zy:Nat:=427
abbrev zk:Nat:=429
def s_:B0:=⟨#[]⟩
def TP:B0:=⟨#[119,101,98]⟩
def vr:B0:=⟨#[116,105,99,107,32,49,59,116,105,99,107,32,50,59]⟩
def UH:B0:=⟨#[98,97,100,32,107,105,110,100,59]⟩
def mz:B0:=⟨#[98,97,100,32,99,117,116,59]⟩
def pY:B0:=⟨#[116,105,99,107,32,49,59]⟩
def Xc:B0:=⟨#[114,101,102,117,115,101,100,32,110,111,110,101,59]⟩
def jo:B0:=⟨#[99,111,110,102,105,103,32,97,32,49,59,114,101,118,105,115,105,111,110,32,97,45,49,59,115,99,97,108,101,32,97,45,49,32,49,59,115,99,97,108,101,32,97,45,49,32,48,59]⟩
def qr:B0:=⟨#[114,101,102,117,115,101,100,32,49,32,110,111,45,114,111,117,116,101,59]⟩
def s__:B0:=⟨#[59]⟩
def wD:B0:=⟨#[98,97,100]⟩
def kK:B0:=⟨#[116,105,99,107,32,49]⟩
def kL:B0:=⟨#[32]⟩
def TQ:B0:=⟨#[99,111,110,102,105,103]⟩
def Lq:B0:=⟨#[114,111,117,116,101]⟩
def nM:B0:=⟨#[100,114,111,112,112,101,100]⟩
def jg:B0:=⟨#[115,99,97,108,101]⟩
def aN:B0:=⟨#[117,112]⟩
def wt:B0:=⟨#[112,114,111,118,101,100]⟩
def RO:B0:=⟨#[100,111,119,110]⟩
def CG:B0:=⟨#[116,105,99,107]⟩
def wq:B0:=⟨#[115,97,109,101]⟩
def Vi:B0:=⟨#[114,101,118,105,115,105,111,110]⟩
def Lp:B0:=⟨#[116,97,98,108,101]⟩
def wx:B0:=⟨#[109,97,100,101]⟩
def wA:B0:=⟨#[103,111,110,101]⟩
def FL:B0:=⟨#[102,108,101,101,116]⟩
def xe:B0:=⟨#[98,97,100,32]⟩
def aO:B0:=⟨#[111,107]⟩
def wv:B0:=⟨#[110,97,109,101]⟩
def Rn:B0:=⟨#[97,114,103]⟩
def wy:B0:=⟨#[108,111,110,103]⟩
def Rl:B0:=⟨#[115,117,109]⟩
def gF:B0:=⟨#[116,119,105,99,101]⟩
def wu:B0:=⟨#[110,111,110,101]⟩
def FM:B0:=⟨#[101,114,114,111,114]⟩
def DE:B0:=⟨#[115,116,97,108,101]⟩
def wB:B0:=⟨#[102,117,108,108]⟩
def DD:B0:=⟨#[115,116,97,116,101]⟩
def Rm:B0:=⟨#[99,117,116]⟩
def ww:B0:=⟨#[109,111,114,101]⟩
def wz:B0:=⟨#[107,105,110,100]⟩
def XA:B0:=⟨#[114,101,102,117,115,101,100]⟩
def Vj:B0:=⟨#[110,111,45,114,111,117,116,101]⟩
def uK:B0:=⟨#[111,118,101,114,102,108,111,119]⟩
def my:B0:=⟨#[112,111,100,45,108,111,115,116]⟩
def uz:B0:=⟨#[116,105,109,101,111,117,116]⟩
def wF:B0:=⟨#[58]⟩
def wE:B0:=⟨#[61]⟩
def jO:B0:=⟨#[45]⟩
def wp:B0:=⟨#[115,101,110,116]⟩
def DC:B0:=⟨#[119,97,105,116,115]⟩
def wC:B0:=⟨#[100,111,110,101]⟩
def tq0:TI:=⟨.func,1,some (.one (.func)),some [.nilFunc]⟩
def tq1:TI:=⟨.int .i64,1,some (.one (.int .i64)),some [I 0]⟩
def tq2:TI:=⟨.int .u8,1,some (.one (.int .u8)),some [.int .u8 0]⟩
def tq3:TI:=⟨.struct [(2,0),(3,1),(4,2),(6,3)],4,some (.agg [.int .i64,.int .i64,.bool,.int .u8]),some [I 0,I 0,.bool false,.int .u8 0]⟩
def tq4:TI:=⟨.str,1,some (.one (.str)),some [.string s_]⟩
def tq5:TI:=⟨.int .u64,1,some (.one (.int .u64)),some [.int .u64 0]⟩
def tq6:TI:=⟨.struct [(9,0),(12,1)],2,some (.agg [.str,.int .u64]),some [.string s_,.int .u64 0]⟩
def tq7:TI:=⟨.ptr,1,some (.one (.ptr)),some [.pointer none]⟩
def tq8:TI:=⟨.struct [(17,0)],1,some (.agg [.ptr]),some [.pointer none]⟩
def tq9:TI:=⟨.iface,1,some (.one (.iface)),some [.nilIface]⟩
def RG:TI:=⟨.int .i32,1,some (.one (.int .i32)),some [.int .i32 0]⟩
def aJ:TI:=⟨.struct [(9,0),(3,1),(3,2),(3,3),(3,4),(3,5)],6,some (.agg lf0),some [.string s_,I 0,I 0,I 0,I 0,I 0]⟩
def aI:TI:=⟨.struct [(9,0),(9,1),(32,2),(3,3)],4,some (.agg [.str,.str,.slice,.int .i64]),some [.string s_,.string s_,.slice none 0 0,I 0]⟩
def aH:TI:=⟨.struct [(3,0),(9,1),(9,2),(3,3),(3,4),(23,5),(34,11)],15,some (.agg lf1),some [I 0,.string s_,.string s_,I 0,I 0,.string s_,I 0,I 0,I 0,I 0,I 0,.string s_,.string s_,.slice none 0 0,I 0]⟩
def aG:TI:=⟨.struct [(9,0),(9,1),(3,2)],3,some (.agg [.str,.str,.int .i64]),some [.string s_,.string s_,I 0]⟩
def Ld:TI:=⟨.struct [(9,0),(3,1)],2,some (.agg [.str,.int .i64]),some [.string s_,I 0]⟩
def aF:TI:=⟨.struct [(61,0),(62,1)],2,some (.agg [.slice,.slice]),some [.slice none 0 0,.slice none 0 0]⟩
def aE:TI:=⟨.map 9 175,1,some (.one (.map)),some [.map none]⟩
def aD:TI:=⟨.struct [(68,0),(70,1),(72,2),(66,3),(74,4),(77,5),(3,6)],7,some (.agg lf2),some [.pointer none,.pointer none,.pointer none,.pointer none,.pointer none,.map none,I 0]⟩
def aC:TI:=⟨.struct [(40,0)],1,some (.agg [.slice]),some [.slice none 0 0]⟩
def aB:TI:=⟨.struct [(96,0),(3,1)],2,some (.agg [.slice,.int .i64]),some [.slice none 0 0,I 0]⟩
def aA:TI:=⟨.struct [(100,0),(101,1)],2,some (.agg [.slice,.slice]),some [.slice none 0 0,.slice none 0 0]⟩
def az:TI:=⟨.struct [(105,0)],1,some (.agg [.slice]),some [.slice none 0 0]⟩
def ay:TI:=⟨.struct [(3,0),(95,1),(99,2),(104,3),(93,4),(108,5),(110,6)],7,some (.agg lf3),some [I 0,.pointer none,.pointer none,.pointer none,.pointer none,.pointer none,.slice none 0 0]⟩
def ax:TI:=⟨.struct [(9,0),(9,1)],2,some (.agg [.str,.str]),some [.string s_,.string s_]⟩
def aw:TI:=⟨.struct [(120,0),(121,1),(3,2),(3,3)],4,some (.agg [.map,.map,.int .i64,.int .i64]),some [.map none,.map none,I 0,I 0]⟩
def av:TI:=⟨.struct [(124,0),(127,1),(3,2)],3,some (.agg [.ptr,.ptr,.int .i64]),some [.pointer none,.pointer none,I 0]⟩
def au:TI:=⟨.map 9 210,1,some (.one (.map)),some [.map none]⟩
def aq:TI:=⟨.map 9 4,1,some (.one (.map)),some [.map none]⟩
def ap:TI:=⟨.struct [(133,0),(135,1)],2,some (.agg [.map,.map]),some [.map none,.map none]⟩
def ao:TI:=⟨.struct [(138,0)],1,some (.agg [.map]),some [.map none]⟩
def am:TI:=⟨.struct [(142,0),(145,1)],2,some (.agg [.map,.func]),some [.map none,.nilFunc]⟩
def al:TI:=⟨.struct [(66,0),(141,1),(147,2),(3,4),(3,5)],6,some (.agg lf4),some [.pointer none,.map none,.map none,.nilFunc,I 0,I 0]⟩
def ak:TI:=⟨.struct [(4,0),(4,1),(4,2),(4,3),(4,4),(4,5)],6,some (.agg lf5),some [.bool false,.bool false,.bool false,.bool false,.bool false,.bool false]⟩
def aj:TI:=⟨.struct [(3,0),(3,1),(3,2),(9,3)],4,some (.agg [.int .i64,.int .i64,.int .i64,.str]),some [I 0,I 0,I 0,.string s_]⟩
def FZ:TI:=⟨.struct [(3,0),(3,1)],2,some (.agg [.int .i64,.int .i64]),some [I 0,I 0]⟩
def ai:TI:=⟨.struct [(182,0),(181,1)],3,some (.agg [.ptr,.int .i64,.int .i64]),some [.pointer none,I 0,I 0]⟩
def ah:TI:=⟨.struct [(9,0),(3,1),(23,2)],8,some (.agg lf6),some [.string s_,I 0,.string s_,I 0,I 0,I 0,I 0,I 0]⟩
def af:TI:=⟨.struct [(3,0),(3,1),(232,2)],3,some (.agg [.int .i64,.int .i64,.slice]),some [I 0,I 0,.slice none 0 0]⟩
def ae:TI:=⟨.struct [(93,0),(3,1),(3,2),(235,3),(40,4),(236,5)],6,some (.agg lf7),some [.pointer none,I 0,I 0,.slice none 0 0,.slice none 0 0,.slice none 0 0]⟩
def ac:TI:=⟨.struct [(242,0),(126,1)],2,some (.agg [.map,.func]),some [.map none,.nilFunc]⟩
def aa:TI:=⟨.struct [(245,0),(129,1)],2,some (.agg [.map,.func]),some [.map none,.nilFunc]⟩
def BZ:TI:=⟨.struct [(250,0)],1,some (.agg [.slice]),some [.slice none 0 0]⟩
def BY:TI:=⟨.struct [(252,0),(3,1)],2,some (.agg [.slice,.int .i64]),some [.slice none 0 0,I 0]⟩
def BX:TI:=⟨.struct [(259,0),(48,1)],2,some (.agg [.ptr,.slice]),some [.pointer none,.slice none 0 0]⟩
def BW:TI:=⟨.struct [(9,0),(285,1)],2,some (.agg [.str,.ptr]),some [.string s_,.pointer none]⟩
def BV:TI:=⟨.struct [(298,0),(3,60)],61,some (.agg lf9),some (List.replicate 61 (I 0))⟩
def BU:TI:=⟨.struct [(300,0),(3,61)],62,some (.agg sq),some (List.replicate 62 (I 0))⟩
def BT:TI:=⟨.struct [(23,0),(3,6),(3,7),(4,8)],9,some (.agg cF),some [.string s_,I 0,I 0,I 0,I 0,I 0,I 0,I 0,.bool false]⟩
def BS:TI:=⟨.struct [(34,0),(3,4),(3,5),(4,6)],7,some (.agg sn),some [.string s_,.string s_,.slice none 0 0,I 0,I 0,I 0,.bool false]⟩
def BR:TI:=⟨.arr 2 9,2,some (.agg [.str,.str]),some [.string s_,.string s_]⟩
def BQ:TI:=⟨.struct [(61,0),(61,1),(3,2),(3,3),(64,4)],6,some (.agg Ab),some [.slice none 0 0,.slice none 0 0,I 0,I 0,.slice none 0 0,.slice none 0 0]⟩
def BP:TI:=⟨.struct [(3,0),(3,1),(3,2)],3,some (.agg [.int .i64,.int .i64,.int .i64]),some [I 0,I 0,I 0]⟩
def BO:TI:=⟨.struct [(48,0),(4,1)],2,some (.agg [.slice,.bool]),some [.slice none 0 0,.bool false]⟩
def BN:TI:=⟨.struct [(377,0),(3,1)],2,some (.agg [.map,.int .i64]),some [.map none,I 0]⟩
def BM:TI:=⟨.struct [(3,0),(379,1)],3,some (.agg [.int .i64,.map,.int .i64]),some [I 0,.map none,I 0]⟩
def BL:TI:=⟨.struct [(9,0),(9,1),(263,2)],3,some (.agg [.str,.str,.iface]),some [.string s_,.string s_,.nilIface]⟩
def BK:TI:=⟨.struct [(9,0)],1,some (.agg [.str]),some [.string s_]⟩
def BJ:TI:=⟨.struct [(17,0),(17,1),(17,2),(9,3)],4,some (.agg [.ptr,.ptr,.ptr,.str]),some [.pointer none,.pointer none,.pointer none,.string s_]⟩
def BI:TI:=⟨.struct [(488,0)],0,some (.agg []),some []⟩
def BH:TI:=⟨.struct [(12,0),(12,1),(410,2),(491,3),(5,4),(5,5),(492,6),(493,7),(369,8),(494,9),(495,10)],11,some (.agg AW),some [.int .u64 0,.int .u64 0,.int .u32 0,.int .u8 0,.int .u8 0,.int .u8 0,.int .u8 0,.nilFunc,.pointer none,.int .i32 0,.int .i32 0]⟩
def BG:TI:=⟨.struct [(3,0),(9,1),(23,2),(34,8),(3,12),(3,13),(4,14)],15,some (.agg AV),some [I 0,.string s_,.string s_,I 0,I 0,I 0,I 0,I 0,.string s_,.string s_,.slice none 0 0,I 0,I 0,I 0,.bool false]⟩
def BF:TI:=⟨.struct [(9,0),(61,1),(61,2),(3,3),(3,4),(64,5)],7,some (.agg AU),some [.string s_,.slice none 0 0,.slice none 0 0,I 0,I 0,.slice none 0 0,.slice none 0 0]⟩
def BE:TI:=⟨.struct [(9,0),(510,1),(511,2)],4,some (.agg [.str,.ptr,.int .i64,.int .i64]),some [.string s_,.pointer none,I 0,I 0]⟩
def BD:TI:=⟨.struct [(3,0),(9,1),(514,2)],3,some (.agg [.int .i64,.str,.ptr]),some [I 0,.string s_,.pointer none]⟩
def BC:TI:=⟨.struct [(3,0),(3,1),(9,2)],3,some (.agg [.int .i64,.int .i64,.str]),some [I 0,I 0,.string s_]⟩
def BB:TI:=⟨.struct [(3,0),(519,1)],2,some (.agg [.int .i64,.slice]),some [I 0,.slice none 0 0]⟩
def BA:TI:=⟨.struct [(24,0)],1,some (.agg [.slice]),some [.slice none 0 0]⟩
def Bz:TI:=⟨.struct [(3,0),(3,1),(24,2)],3,some (.agg [.int .i64,.int .i64,.slice]),some [I 0,I 0,.slice none 0 0]⟩
def Dt:Tb:=⟨528,379,(.node ⟨.tuple [],1,none,none⟩ (.node tq0 (.node tq1 (.node tq3 (.node tq7 (.node tq0 (.node aF (.node tq7 (.node FZ (.node FZ .nil .nil) .nil) (.node tq0 .nil .nil)) (.node ⟨.tuple [24,28],1,none,none⟩ (.node tq0 .nil .nil) (.node ⟨.tuple [410,410],1,none,none⟩ .nil .nil))) (.node tq7 (.node tq0 (.node BW .nil .nil) (.node tq0 .nil .nil)) (.node tq0 (.node tq0 .nil .nil) (.node BK .nil .nil)))) (.node tq0 (.node aD (.node tq7 (.node tq0 (.node FZ .nil .nil) .nil) (.node tq0 .nil .nil)) (.node tq0 (.node BP .nil .nil) (.node tq0 .nil .nil))) (.node ay (.node tq7 (.node BT .nil .nil) (.node tq0 .nil .nil)) (.node ⟨.tuple [9,3,4],1,none,none⟩ (.node tq0 .nil .nil) (.node RG .nil .nil))))) (.node aJ (.node ⟨.slice 36,1,some eL6,some [.slice none 0 0]⟩ (.node tq0 (.node aq (.node tq9 (.node ⟨.slice 527,1,some eL6,some [.slice none 0 0]⟩ .nil .nil) .nil) (.node tq0 .nil .nil)) (.node tq0 (.node BQ .nil .nil) (.node tq0 .nil .nil))) (.node aA (.node tq0 (.node tq0 .nil .nil) (.node ⟨.tuple [48,9],1,none,none⟩ .nil .nil)) (.node tq0 (.node BO .nil .nil) (.node BJ .nil .nil)))) (.node tq0 (.node aC (.node ak (.node ⟨.tuple [179,4],1,none,none⟩ .nil .nil) (.node tq0 .nil .nil)) (.node tq0 (.node tq0 .nil .nil) (.node tq0 .nil .nil))) (.node tq0 (.node ai (.node tq0 .nil .nil) (.node tq0 .nil .nil)) (.node aa (.node FZ .nil .nil) (.node tq7 .nil .nil)))))) (.node tq4 (.node tq8 (.node aH (.node tq0 (.node av (.node tq7 (.node BD .nil .nil) .nil) (.node tq7 .nil .nil)) (.node tq0 (.node ⟨.tuple [322,322],1,none,none⟩ .nil .nil) (.node tq0 .nil .nil))) (.node tq7 (.node tq0 (.node tq0 .nil .nil) (.node tq0 .nil .nil)) (.node tq0 (.node ⟨.slice 353,1,some eL6,some [.slice none 0 0]⟩ .nil .nil) (.node tq0 .nil .nil)))) (.node tq0 (.node ⟨.map 3 41,1,some (.one (.map)),some [.map none]⟩ (.node am (.node tq0 .nil .nil) (.node ⟨.tuple [3,402],1,none,none⟩ .nil .nil)) (.node ⟨.tuple [210,4],1,none,none⟩ (.node tq0 .nil .nil) (.node BL .nil .nil))) (.node ax (.node aj (.node tq0 .nil .nil) (.node tq0 .nil .nil)) (.node ac (.node ⟨.tuple [220,4],1,none,none⟩ .nil .nil) (.node tq0 .nil .nil))))) (.node tq7 (.node tq0 (.node tq0 (.node ao (.node tq0 (.node BA .nil .nil) .nil) (.node tq0 .nil .nil)) (.node ⟨.tuple [34,3,4],1,none,none⟩ (.node tq0 .nil .nil) (.node tq0 .nil .nil))) (.node az (.node tq0 (.node BV .nil .nil) (.node ⟨.slice 429,1,some eL6,some [.slice none 0 0]⟩ .nil .nil)) (.node ⟨.slice 504,1,some eL6,some [.slice none 0 0]⟩ (.node tq0 .nil .nil) (.node tq2 .nil .nil)))) (.node Ld (.node tq0 (.node tq0 (.node ⟨.tuple [9,28],1,none,none⟩ .nil .nil) (.node tq0 .nil .nil)) (.node Ld (.node tq0 .nil .nil) (.node tq0 .nil .nil))) (.node aw (.node tq0 (.node tq0 .nil .nil) (.node tq0 .nil .nil)) (.node BZ (.node BN .nil .nil) (.node BG .nil .nil))))))) (.node tq2 (.node tq4 (.node tq7 (.node aI (.node tq0 (.node tq0 (.node tq0 (.node BE .nil .nil) .nil) (.node tq0 .nil .nil)) (.node tq0 (.node tq0 .nil .nil) (.node tq1 .nil .nil))) (.node aB (.node tq0 (.node tq0 .nil .nil) (.node ⟨.slice 416,1,some eL6,some [.slice none 0 0]⟩ .nil .nil)) (.node tq0 (.node tq0 .nil .nil) (.node ⟨.arr 32 5,32,some (.agg AY),some (List.replicate 32 (.int .u8 0))⟩ .nil .nil)))) (.node ⟨.slice 48,1,some eL6,some [.slice none 0 0]⟩ (.node tq0 (.node tq0 (.node tq0 .nil .nil) (.node tq0 .nil .nil)) (.node ah (.node tq0 .nil .nil) (.node tq0 .nil .nil))) (.node tq0 (.node tq0 (.node ⟨.tuple [304,4],1,none,none⟩ .nil .nil) (.node tq0 .nil .nil)) (.node tq0 (.node tq7 .nil .nil) (.node BH .nil .nil))))) (.node tq0 (.node tq0 (.node tq0 (.node ap (.node tq0 (.node BB .nil .nil) .nil) (.node tq0 .nil .nil)) (.node tq0 (.node ⟨.tuple [328,4],1,none,none⟩ .nil .nil) (.node ⟨.arr 65 5,65,some (.agg AZ),some (List.replicate 65 (.int .u8 0))⟩ .nil .nil))) (.node ⟨.slice 501,1,some eL6,some [.slice none 0 0]⟩ (.node tq0 (.node tq0 .nil .nil) (.node ⟨.other,1,none,none⟩ .nil .nil)) (.node af (.node tq0 .nil .nil) (.node BI .nil .nil)))) (.node tq0 (.node tq0 (.node tq0 (.node tq0 .nil .nil) (.node tq0 .nil .nil)) (.node tq0 (.node tq0 .nil .nil) (.node tq0 .nil .nil))) (.node ⟨.map 3 3,1,some (.one (.map)),some [.map none]⟩ (.node tq0 (.node ⟨.map 9 9,1,some (.one (.map)),some [.map none]⟩ .nil .nil) (.node tq0 .nil .nil)) (.node tq0 (.node ⟨.map 3 4,1,some (.one (.map)),some [.map none]⟩ .nil .nil) (.node tq7 .nil .nil)))))) (.node tq6 (.node RG (.node aG (.node tq0 (.node au (.node BX (.node BC .nil .nil) .nil) (.node tq0 .nil .nil)) (.node tq0 (.node BR .nil .nil) (.node tq0 .nil .nil))) (.node ⟨.slice 4,1,some eL6,some [.slice none 0 0]⟩ (.node tq0 (.node tq0 .nil .nil) (.node ⟨.arr 24 5,24,some (.agg sj),some (List.replicate 24 (.int .u8 0))⟩ .nil .nil)) (.node tq0 (.node tq0 .nil .nil) (.node tq0 .nil .nil)))) (.node tq7 (.node tq0 (.node al (.node tq0 .nil .nil) (.node tq0 .nil .nil)) (.node tq0 (.node tq0 .nil .nil) (.node tq0 .nil .nil))) (.node tq0 (.node FZ (.node BS .nil .nil) (.node tq0 .nil .nil)) (.node ⟨.map 9 309,1,some (.one (.map)),some [.map none]⟩ (.node tq0 .nil .nil) (.node tq7 .nil .nil))))) (.node ⟨.tuple [27,28],1,none,none⟩ (.node ⟨.tuple [3,3,3,3],1,none,none⟩ (.node aE (.node ⟨.map 3 220,1,some (.one (.map)),some [.map none]⟩ (.node tq0 (.node Bz .nil .nil) .nil) (.node tq0 .nil .nil)) (.node ⟨.tuple [64,28],1,none,none⟩ (.node tq0 .nil .nil) (.node tq0 .nil .nil))) (.node tq0 (.node tq0 (.node BU .nil .nil) (.node FZ .nil .nil)) (.node ae (.node tq0 .nil .nil) (.node tq0 .nil .nil)))) (.node ⟨.slice 60,1,some eL6,some [.slice none 0 0]⟩ (.node tq7 (.node tq0 (.node tq7 .nil .nil) (.node tq7 .nil .nil)) (.node tq0 (.node tq5 .nil .nil) (.node tq0 .nil .nil))) (.node tq0 (.node tq0 (.node tq0 .nil .nil) (.node tq0 .nil .nil)) (.node BY (.node BM .nil .nil) (.node BF .nil .nil)))))))) (.node tq1 (.node ⟨.bool,1,some eB6,some [.bool false]⟩ (.node tq3 (.node tq7 (.node ⟨.slice 38,1,some eL6,some [.slice none 0 0]⟩ (.node aF (.node tq0 (.node FZ (.node BE .nil .nil) .nil) (.node tq0 .nil .nil)) (.node tq0 (.node tq0 .nil .nil) (.node tq0 .nil .nil))) (.node ⟨.slice 500,1,some eL6,some [.slice none 0 0]⟩ (.node tq0 (.node ⟨.tuple [287,4],1,none,none⟩ .nil .nil) (.node tq7 .nil .nil)) (.node tq0 (.node tq0 .nil .nil) (.node BK .nil .nil)))) (.node ⟨.slice 5,1,some eL6,some [.slice none 0 0]⟩ (.node tq0 (.node tq0 (.node ⟨.tuple [64,4],1,none,none⟩ .nil .nil) (.node tq0 .nil .nil)) (.node tq0 (.node tq0 .nil .nil) (.node ⟨.tuple [412,263],1,none,none⟩ .nil .nil))) (.node ay (.node ⟨.tuple [175,4],1,none,none⟩ (.node BT .nil .nil) (.node tq7 .nil .nil)) (.node tq0 (.node tq0 .nil .nil) (.node BH .nil .nil))))) (.node ⟨.slice 3,1,some eL6,some [.slice none 0 0]⟩ (.node ⟨.slice 9,1,some eL6,some [.slice none 0 0]⟩ (.node tq7 (.node ap (.node ⟨.tuple [3,263],1,none,none⟩ (.node BB .nil .nil) .nil) (.node tq0 .nil .nil)) (.node ⟨.tuple [9,4],1,none,none⟩ (.node BQ .nil .nil) (.node ⟨.arr 20 412,20,some (.agg sd),some (List.replicate 20 (.int .u64 0))⟩ .nil .nil))) (.node tq7 (.node tq0 (.node tq0 .nil .nil) (.node tq0 .nil .nil)) (.node ⟨.slice 503,1,some eL6,some [.slice none 0 0]⟩ (.node BO .nil .nil) (.node ⟨.arr 0 16,0,some (.agg []),some []⟩ .nil .nil)))) (.node tq0 (.node aC (.node ⟨.tuple [151,4],1,none,none⟩ (.node tq0 .nil .nil) (.node tq0 .nil .nil)) (.node tq0 (.node ⟨.arr 4 3,4,some (.agg [.int .i64,.int .i64,.int .i64,.int .i64]),some [I 0,I 0,I 0,I 0]⟩ .nil .nil) (.node tq0 .nil .nil))) (.node ⟨.map 3 287,1,some (.one (.map)),some [.map none]⟩ (.node ai (.node ⟨.map 9 3,1,some (.one (.map)),some [.map none]⟩ .nil .nil) (.node tq0 .nil .nil)) (.node tq0 (.node tq0 .nil .nil) (.node tq7 .nil .nil)))))) (.node tq5 (.node tq9 (.node aH (.node tq7 (.node au (.node BX (.node BD .nil .nil) .nil) (.node ⟨.tuple [9,9],1,none,none⟩ .nil .nil)) (.node tq0 (.node tq0 .nil .nil) (.node tq7 .nil .nil))) (.node ⟨.slice 210,1,some eL6,some [.slice none 0 0]⟩ (.node ⟨.tuple [3,28],1,none,none⟩ (.node tq0 .nil .nil) (.node tq0 .nil .nil)) (.node tq0 (.node tq0 .nil .nil) (.node tq0 .nil .nil)))) (.node tq0 (.node tq0 (.node al (.node tq0 .nil .nil) (.node tq0 .nil .nil)) (.node tq0 (.node ⟨.arr 2 3,2,some (.agg [.int .i64,.int .i64]),some [I 0,I 0]⟩ .nil .nil) (.node BL .nil .nil))) (.node tq0 (.node FZ (.node BS .nil .nil) (.node ⟨.slice 61,1,some eL6,some [.slice none 0 0]⟩ .nil .nil)) (.node ac (.node tq7 .nil .nil) (.node tq7 .nil .nil))))) (.node tq1 (.node tq0 (.node aE (.node ao (.node tq0 (.node Bz .nil .nil) .nil) (.node tq0 .nil .nil)) (.node tq0 (.node ⟨.slice 335,1,some eL6,some [.slice none 0 0]⟩ .nil .nil) (.node tq0 .nil .nil))) (.node tq7 (.node ⟨.slice 179,1,some eL6,some [.slice none 0 0]⟩ (.node BV .nil .nil) (.node FZ .nil .nil)) (.node ⟨.slice 505,1,some eL6,some [.slice none 0 0]⟩ (.node tq0 .nil .nil) (.node tq2 .nil .nil)))) (.node Ld (.node tq0 (.node tq0 (.node tq0 .nil .nil) (.node tq5 .nil .nil)) (.node Ld (.node tq0 .nil .nil) (.node tq0 .nil .nil))) (.node tq7 (.node tq0 (.node tq0 .nil .nil) (.node tq0 .nil .nil)) (.node BZ (.node BM .nil .nil) (.node BF .nil .nil))))))) (.node tq2 (.node tq4 (.node tq8 (.node aI (.node tq7 (.node av (.node tq0 (.node tq7 .nil .nil) .nil) (.node tq0 .nil .nil)) (.node tq0 (.node ⟨.slice 326,1,some eL6,some [.slice none 0 0]⟩ .nil .nil) (.node ⟨.tuple [2,263],1,none,none⟩ .nil .nil))) (.node aB (.node tq0 (.node ⟨.tuple [3,4],1,none,none⟩ .nil .nil) (.node tq0 .nil .nil)) (.node tq0 (.node tq0 .nil .nil) (.node ⟨.arr 64 5,64,some (.agg AX),some (List.replicate 64 (.int .u8 0))⟩ .nil .nil)))) (.node ⟨.tuple [40,28],1,none,none⟩ (.node tq0 (.node am (.node tq0 .nil .nil) (.node tq1 .nil .nil)) (.node ah (.node tq0 .nil .nil) (.node tq0 .nil .nil))) (.node ax (.node aj (.node tq0 .nil .nil) (.node tq0 .nil .nil)) (.node ⟨.map 9 304,1,some (.one (.map)),some [.map none]⟩ (.node tq0 .nil .nil) (.node tq0 .nil .nil))))) (.node tq0 (.node ⟨.tuple [24,24],1,none,none⟩ (.node tq7 (.node ⟨.map 9 328,1,some (.one (.map)),some [.map none]⟩ (.node tq0 (.node BA .nil .nil) .nil) (.node tq0 .nil .nil)) (.node tq0 (.node tq0 .nil .nil) (.node tq0 .nil .nil))) (.node az (.node tq0 (.node ⟨.arr 60 3,60,some (.agg lf8),some (List.replicate 60 (I 0))⟩ .nil .nil) (.node tq0 .nil .nil)) (.node af (.node tq0 .nil .nil) (.node BI .nil .nil)))) (.node tq0 (.node tq0 (.node tq0 (.node tq0 .nil .nil) (.node ⟨.int .u32,1,some (.one (.int .u32)),some [.int .u32 0]⟩ .nil .nil)) (.node tq0 (.node tq0 .nil .nil) (.node tq0 .nil .nil))) (.node aw (.node ⟨.tuple [172,28],1,none,none⟩ (.node tq0 .nil .nil) (.node tq5 .nil .nil)) (.node ⟨.slice 375,1,some eL6,some [.slice none 0 0]⟩ (.node BN .nil .nil) (.node BG .nil .nil)))))) (.node tq6 (.node aJ (.node aG (.node tq7 (.node aq (.node tq9 (.node BC .nil .nil) .nil) (.node tq0 .nil .nil)) (.node ⟨.tuple [23,3,3,4],1,none,none⟩ (.node BR .nil .nil) (.node tq0 .nil .nil))) (.node aA (.node tq0 (.node tq0 .nil .nil) (.node tq0 .nil .nil)) (.node ⟨.tuple [36,28],1,none,none⟩ (.node tq7 .nil .nil) (.node BJ .nil .nil)))) (.node ⟨.tuple [53,3],1,none,none⟩ (.node tq7 (.node ak (.node tq0 .nil .nil) (.node tq0 .nil .nil)) (.node ⟨.tuple [3,3],1,none,none⟩ (.node tq0 .nil .nil) (.node tq0 .nil .nil))) (.node tq0 (.node tq7 (.node ⟨.tuple [309,4],1,none,none⟩ .nil .nil) (.node tq0 .nil .nil)) (.node aa (.node FZ .nil .nil) (.node tq7 .nil .nil))))) (.node tq0 (.node tq0 (.node aD (.node ⟨.map 9 143,1,some (.one (.map)),some [.map none]⟩ (.node tq0 (.node FZ .nil .nil) .nil) (.node tq0 .nil .nil)) (.node tq0 (.node BP .nil .nil) (.node tq7 .nil .nil))) (.node ⟨.slice 502,1,some eL6,some [.slice none 0 0]⟩ (.node tq0 (.node BU .nil .nil) (.node tq0 .nil .nil)) (.node ae (.node tq0 .nil .nil) (.node RG .nil .nil)))) (.node ⟨.slice 115,1,some eL6,some [.slice none 0 0]⟩ (.node tq0 (.node tq0 (.node BW .nil .nil) (.node tq0 .nil .nil)) (.node ⟨.tuple [143,4],1,none,none⟩ (.node tq0 .nil .nil) (.node tq7 .nil .nil))) (.node tq0 (.node tq0 (.node tq0 .nil .nil) (.node tq0 .nil .nil)) (.node BY (.node tq0 .nil .nil) (.node tq7 .nil .nil))))))))),(.node none (.node none (.node none (.node none (.node (some rB) (.node (some rL) (.node (some rB) (.node none (.node (some (.tup [])) .nil .nil) .nil) (.node none (.node (some (.tup [])) .nil .nil) .nil)) (.node (some rL) (.node none (.node (some (.tup [])) .nil .nil) .nil) (.node (some rI) .nil .nil))) (.node (some (.one (.one (.func)))) (.node none (.node none (.node (some rI) .nil .nil) .nil) (.node (some rB) .nil .nil)) (.node (some rI) (.node (some rL) .nil .nil) (.node (some rL) .nil .nil)))) (.node (some rP) (.node (some rL) (.node (some rI) (.node none (.node (some rI) .nil .nil) .nil) (.node (some rS) .nil .nil)) .nil) (.node none (.node none (.node (some rI) .nil .nil) (.node (some (.tup [eI6,eB6])) .nil .nil)) (.node (some (.one (.one (.func)))) (.node (some rI) (.node (some (.tup [])) .nil .nil) .nil) .nil)))) (.node none (.node none (.node (some rL) (.node (some rB) (.node (some rI) .nil .nil) (.node (some (.tup [])) .nil .nil)) (.node (some (.tup [(.agg lf0),eI6,eI6,eB6])) (.node (some rL) .nil .nil) (.node (some rL) .nil .nil))) (.node none (.node (some rL) (.node (some rB) (.node (some rL) .nil .nil) .nil) .nil) (.node (some (.tup [])) (.node (some rI) (.node (some rL) .nil .nil) .nil) (.node (some (.tup [])) .nil .nil)))) (.node (some rP) (.node (some (.tup [eL6,eL6])) (.node (some rS) .nil (.node (some (.tup [eI6,(.one (.iface))])) (.node (some (.tup [])) .nil .nil) .nil)) (.node (some rI) (.node (some (.one (.agg [.slice,.slice]))) .nil .nil) (.node (some rL) .nil .nil))) (.node (some rB) .nil (.node (some (.tup [eS6,eI6,eB6])) (.node (some (.one (.one (.func)))) .nil .nil) .nil))))) (.node none (.node none (.node (some (.tup [eL6,eI6])) (.node (some rL) (.node (some rB) (.node (some rB) (.node (some rL) .nil .nil) .nil) .nil) (.node (some (.tup [])) (.node (some (.one (.one (.func)))) .nil .nil) (.node (some rL) .nil .nil))) (.node none (.node none (.node (some rS) (.node (some rL) .nil .nil) .nil) .nil) (.node (some rI) (.node (some rI) (.node (some (.tup [])) .nil .nil) .nil) (.node (some (.one (.one (.func)))) .nil .nil)))) (.node (some rP) (.node (some rL) (.node (some rS) (.node (some rI) .nil .nil) (.node (some (.one (.agg [.str,.str,.slice,.int .i64]))) .nil .nil)) .nil) (.node (some rB) (.node none (.node (some rI) .nil .nil) (.node (some (.tup [])) .nil .nil)) (.node (some (.tup [(.agg lf1),eI6])) .nil .nil)))) (.node none (.node none (.node (some rL) (.node (some rB) .nil (.node (some rL) .nil .nil)) (.node (some rP) (.node (some (.tup [(.agg cF),eB6])) .nil .nil) .nil)) (.node none (.node (some (.tup [eP6,eB6])) (.node (some (.one (.agg [.int .i64,.int .i64,.int .i64,.str]))) (.node (some (.tup [])) .nil .nil) .nil) .nil) (.node (some rL) (.node (some rI) .nil .nil) .nil))) (.node (some rS) (.node (some rL) (.node (some rL) .nil (.node (some rB) .nil .nil)) (.node (some (.tup [eI6,eI6])) .nil .nil)) (.node (some rP) .nil .nil))))) (.node none (.node (some rB) (.node (some (.tup [eP6,eI6])) (.node (some rI) (.node (some rL) (.node (some rB) (.node none (.node (some (.tup [])) .nil .nil) .nil) .nil) (.node (some rL) (.node (some (.tup [])) (.node (some (.one (.one (.func)))) .nil .nil) .nil) (.node (some (.tup [])) .nil .nil))) (.node (some (.tup [])) (.node (some rL) (.node (some (.tup [(.agg [.slice,.slice]),eB6])) (.node (some rI) .nil .nil) .nil) (.node none (.node (some (.tup [])) .nil .nil) .nil)) (.node (some (.tup [eL6,eL6])) (.node (some (.one (.one (.func)))) .nil .nil) (.node (some (.tup [])) .nil .nil)))) (.node (some rP) (.node (some rL) (.node (some rS) .nil (.node (some (.one (.agg lf0))) .nil .nil)) .nil) (.node (some rP) (.node none (.node (some (.tup [(.agg [.int .i64,.int .i64,.int .i64,.str]),eB6])) .nil .nil) (.node (some rB) .nil .nil)) (.node (some rL) (.node (some rI) .nil .nil) .nil)))) (.node none (.node none (.node (some rL) (.node (some rB) (.node (some rI) .nil .nil) (.node (some (.one (.one (.func)))) .nil .nil)) (.node (some (.tup [eS6,eB6])) (.node (some (.tup [])) .nil .nil) (.node (some rL) .nil .nil))) (.node (some rB) (.node (some rL) (.node (some (.one (.agg [.int .i64,.int .i64,.int .i64,.str]))) (.node (some (.tup [])) .nil .nil) .nil) .nil) (.node (some rL) (.node (some (.one (.agg [.int .i64,.int .i64,.int .i64,.int .i64]))) (.node (some rL) .nil .nil) .nil) .nil))) (.node (some rI) (.node none (.node (some (.tup [eI6,eI6])) .nil (.node (some rB) .nil .nil)) (.node (some rB) .nil .nil)) (.node (some rP) (.node none .nil (.node (some rL) .nil .nil)) (.node (some rB) .nil .nil))))) (.node none (.node (some rL) (.node none (.node (some rL) (.node (some rB) (.node (some rB) (.node (some rL) .nil .nil) .nil) .nil) (.node (some rI) (.node (some rL) .nil .nil) (.node (some (.one (.one (.func)))) .nil .nil))) (.node none (.node (some rS) (.node (some (.tup [eS6,eB6])) .nil .nil) .nil) (.node (some rB) (.node (some rI) (.node (some rI) .nil .nil) .nil) (.node (some rI) .nil .nil)))) (.node (some rP) (.node (some rL) (.node (some rS) (.node (some (.tup [])) .nil .nil) (.node (some rI) .nil .nil)) (.node (some (.tup [(.agg lf6),eB6])) .nil (.node (some rL) .nil .nil))) (.node (some rP) (.node none (.node (some (.one (.one (.func)))) .nil .nil) (.node (some rS) .nil .nil)) (.node (some (.tup [])) .nil .nil)))) (.node none (.node (some rB) (.node (some rL) (.node (some rI) .nil (.node (some rI) .nil .nil)) (.node none (.node (some rS) .nil .nil) .nil)) (.node none (.node (some rS) (.node (some rP) (.node (some (.one (.one (.func)))) .nil .nil) .nil) (.node (some (.tup [(.agg [.slice,.slice]),eB6])) .nil .nil)) (.node none (.node (some rP) (.node (some (.tup [])) .nil .nil) .nil) .nil))) (.node (some rS) (.node none (.node none (.node none (.node (some (.tup [])) .nil .nil) .nil) (.node (some rB) .nil .nil)) (.node (some (.one (.agg [.int .i64,.int .i64]))) .nil .nil)) (.node (some (.tup [(.agg lf5),eB6])) (.node none (.node (some rL) (.node (some rL) .nil .nil) .nil) .nil) (.node none (.node none (.node (some (.tup [])) .nil .nil) .nil) .nil)))))))⟩
def Tok:Jq Pr Dt:=Le (by kernel_rfl) (by kernel_rfl) (by kernel_rfl)
variable {K:Value→PT}{w:World}
abbrev CV(f:FuncId)(a:List SV)(K:Value→PT)(w:World):Prop:=Calls Pr f (YB a).toArray w λe w2=>∃v,e = .returned v∧K v w2
def zE{f:FuncId}(fn:Func)(an:Ann)(args:List SV){F:PT}(h:F w)(h1:Pr.funcs[f]? = some fn:=by kernel_rfl)(h2:okF args.length fn=true:=by kernel_rfl)(h3:pf Pr Dt fn an args K=F:=by kernel_rfl):CV f args K w:=LU Tok h1 h2 ((congrFun h3 w).mpr h)
def Vc:Ann:=(.q2 (.q2 (.q2 (.q2 (.q2 (.q2 (.q2 (.seq (.q2 (.one [(8,eS6),(9,eI6)] .auto) none) .auto none) none) none) none) none) none) none) none)
def XR(p0:Int)(K:Value→PT):PT:=
  L.call Pr xQ [] rB λ(x1:Bool)=>L.ite (!x1) (K (.bool false))<|L.new [.int .u8 0,.int .u8 1,.int .u8 9,.int .u8 0,.int .u8 1,.int .u8 9] yc λb2=>L.new [.int .u8 0,.int .u8 1,.int .u8 99] yc λb3=>L.new [.int .u8 0,.int .u8 0] yc λb4=>L.new [.int .u8 0] yc λb5=>L.new [.int .u8 0,.int .u8 5,.int .u8 9] yc λb6=>L.new [.int .u8 0,.int .u8 5,.int .u8 10,.int .u8 3,.int .u8 119,.int .u8 101,.int .u8 98] yc λb7=>L.new [.int .u8 0,.int .u8 12,.int .u8 1,.int .u8 0,.int .u8 0,.int .u8 0,.int .u8 0,.int .u8 1,.int .u8 97,.int .u8 0,.int .u8 1,.int .u8 0,.int .u8 1,.int .u8 0,.int .u8 0,.int .u8 3,.int .u8 10,.int .u8 1,.int .u8 97,.int .u8 0,.int .u8 5,.int .u8 12,.int .u8 3,.int .u8 97,.int .u8 45,.int .u8 49] yc λb8=>L.new [.int .u8 0,.int .u8 5,.int .u8 13,.int .u8 3,.int .u8 97,.int .u8 45,.int .u8 49] yc λb9=>L.new [.int .u8 0,.int .u8 12,.int .u8 4,.int .u8 0,.int .u8 0,.int .u8 0,.int .u8 1,.int .u8 1,.int .u8 114,.int .u8 0,.int .u8 0,.int .u8 0,.int .u8 0,.int .u8 1] yc λb10=>L.new [.slice (some ⟨b2,0,none⟩) 6 6,.slice (some ⟨b3,0,none⟩) 3 3,.slice (some ⟨b4,0,none⟩) 2 2,.slice (some ⟨b5,0,none⟩) 1 1,.slice (some ⟨b6,0,none⟩) 3 3,.slice (some ⟨b7,0,none⟩) 7 7,.slice (some ⟨b8,0,none⟩) 26 26,.slice (some ⟨b9,0,none⟩) 7 7,.slice (some ⟨b10,0,none⟩) 14 14] ya λb11=>L.new [.string vr,.string UH,.string mz,.string UH,.string pY,.string Xc,.string jo,.string Xc,.string qr] zd λb12=>L.call Pr xn [I p0,I ((9:Nat):Int)] rI λ(x13:Int)=>L.idx (some ⟨b11,0,none⟩) x13 9 1 λa14=>L.load eL6 a14 λ(x15:Sl)=>L.call Pr qL [I 3,I 2,I 5,Sv6 x15] (.tup [eL6,eI6]) λ(x16:Sl×Int×Unit)=>L.loop (Y:=B0×Int×Unit) (s_,0,()) λy17 again18=>L.ite (decide (y17.2.1<((x16.1.len:Nat):Int))) (L.idx x16.1.a y17.2.1 x16.1.len 1 λa19=>L.load eS6 a19 λ(x20:B0)=>L.guard (((y17.1.size+x20.size:Nat):Int)≤Jl)<|L.guard ((((y17.1++x20).size+s__.size:Nat):Int)≤Jl)<|again18 ((y17.1++x20)++s__,Wi (y17.2.1+1),()))<|L.ite (x16.2.1 == 0) (L.idx (some ⟨b12,0,none⟩) x13 9 1 λa21=>L.load eS6 a21 λ(x22:B0)=>K (.bool (y17.1.toList == x22.toList)))<|K (.bool false)
def vZ(p0:Int)(h:XR p0 K w):CV XD [.v (.int .i64 p0)] K w:=zE Tryz.f4 Vc _ h
def Gm(p0 p1 p2:Int)(K:Value→PT):PT:=
  L.call Pr Yw [I p0,I 1,I 30] rB λ(x1:Bool)=>L.ite (!x1) (K (.tuple #[.pointer none,I 2]))<|L.call Pr Yw [I p1,I 0,I 8] rB λ(x2:Bool)=>L.ite (!x2) (K (.tuple #[.pointer none,I 2]))<|L.call Pr Yw [I p2,I 1,I 50] rB λ(x3:Bool)=>L.ite (!x3) (K (.tuple #[.pointer none,I 2]))<|L.call Pr kU [I p0] rP λ(x4:Option Addr)=>L.call Pr kS [] rP λ(x5:Option Addr)=>L.call Pr kR [] rP λ(x6:Option Addr)=>L.call Pr OO [] rP λ(x7:Option Addr)=>L.call Pr OP [.pointer x4,I p1,I p2] rP λ(x8:Option Addr)=>L.sem Pr (.one (.one .map)) (Instr.makeMap Za none) λ(m9:Option Nat)=>L.new [.pointer x5,.pointer x6,.pointer x7,.pointer x4,.pointer x8,.map m9,I 0] VP λb10=>K (.tuple #[.pointer (some (⟨b10,0,none⟩)),I 0])
def Tn(p0 p1 p2:Int)(h:Gm p0 p1 p2 K w):CV Vo [.v (.int .i64 p0),.v (.int .i64 p1),.v (.int .i64 p2)] K w:=zE Tryz.f8 .auto _ h
def Uk(p0:Option Addr)(p1:ht1)(K:Value→PT):PT:=
  L.new [I p1.1,.string p1.2.1,.string p1.2.2.1,I p1.2.2.2.1,I p1.2.2.2.2.1,.string p1.2.2.2.2.2.1,I p1.2.2.2.2.2.2.1,I p1.2.2.2.2.2.2.2.1,I p1.2.2.2.2.2.2.2.2.1,I p1.2.2.2.2.2.2.2.2.2.1,I p1.2.2.2.2.2.2.2.2.2.2.1,.string p1.2.2.2.2.2.2.2.2.2.2.2.1,.string p1.2.2.2.2.2.2.2.2.2.2.2.2.1,Sv6 p1.2.2.2.2.2.2.2.2.2.2.2.2.2.1,I p1.2.2.2.2.2.2.2.2.2.2.2.2.2.2.1] zT λb1=>L.load (.agg lf1) (⟨b1,0,none⟩) λ(x2:pt1)=>L.call Pr Qe [(qa1 x2)] rI λ(x3:Int)=>L.ite (x3 != 0) (L.call Pr js [I x3] rS λ(x4:B0)=>L.new [.string x4] zd λb5=>L.call Pr zG [.string wD,.slice (some ⟨b5,0,none⟩) 1 1] rS λ(x6:B0)=>L.new [.string x6] zd λb7=>K (.slice (some ⟨b7,0,none⟩) 1 1))<|L.sem Pr (.one (.one .map)) (Instr.makeMap zj none) λ(m8:Option Nat)=>L.semU Pr (Instr.mapUpdate zj (.map m8) (I 1) (.func (.func yi) #[.pointer p0] #[]))<|L.semU Pr (Instr.mapUpdate zj (.map m8) (I 2) (.func (.func JK) #[.pointer p0] #[]))<|L.semU Pr (Instr.mapUpdate zj (.map m8) (I 3) (.func (.func xg) #[.pointer p0] #[]))<|L.semU Pr (Instr.mapUpdate zj (.map m8) (I 4) (.func (.func yj) #[.pointer p0] #[]))<|L.semU Pr (Instr.mapUpdate zj (.map m8) (I 5) (.func (.func xh) #[.pointer p0] #[]))<|L.semU Pr (Instr.mapUpdate zj (.map m8) (I 6) (.func (.func Xj) #[.pointer p0] #[]))<|L.semU Pr (Instr.mapUpdate zj (.map m8) (I 7) (.func (.func yG) #[.pointer p0] #[]))<|L.semU Pr (Instr.mapUpdate zj (.map m8) (I 8) (.func (.func yG) #[.pointer p0] #[]))<|L.semU Pr (Instr.mapUpdate zj (.map m8) (I 9) (.func (.func yF) #[.pointer p0] #[]))<|L.semU Pr (Instr.mapUpdate zj (.map m8) (I 10) (.func (.func ym) #[.pointer p0] #[]))<|L.semU Pr (Instr.mapUpdate zj (.map m8) (I 11) (.func (.func xf) #[.pointer p0] #[]))<|L.semU Pr (Instr.mapUpdate zj (.map m8) (I 12) (.func (.func yn) #[.pointer p0] #[]))<|L.semU Pr (Instr.mapUpdate zj (.map m8) (I 13) (.func (.func yd) #[.pointer p0] #[]))<|L.load eI6 (Ad6 b1 0) λ(x9:Int)=>L.semR Pr (.one (.one (.func))) (Instr.lookup zj (.map m8) (I x9) false) λ(x10:FV)=>L.load (.agg lf1) (⟨b1,0,none⟩) λ(x11:pt1)=>L.callV Pr (.func x10.fn x10.fs x10.cs) [(qa1 x11)] rL λ(x12:Sl)=>K (.slice x12.a x12.len x12.cap)
def gf(p0:Option Addr)(p1:ht1)(h:Uk p0 p1 K w):CV zJ [.v (.pointer p0),.ag (qc1 p1)] K w:=zE Tryz.f10 .auto _ h
def ud  (K:Value→PT):PT:=
  L.call Pr qL [I 1,I 1,I 1,.slice none 0 0] (.tup [eL6,eI6]) λ(x1:Sl×Int×Unit)=>L.new [.int .u8 0,.int .u8 1,.int .u8 9] yc λb2=>L.call Pr qL [I 1,I 1,I 1,.slice (some ⟨b2,0,none⟩) 3 3] (.tup [eL6,eI6]) λ(x3:Sl×Int×Unit)=>L.ite (((x1.1.len:Nat):Int) == 0) (L.ite (x1.2.1 == 0) (L.ite (x3.2.1 == 0) (L.ite (((x3.1.len:Nat):Int) == 1) (L.idx x3.1.a 0 x3.1.len 1 λa4=>L.load eS6 a4 λ(x5:B0)=>K (.bool (x5.toList == kK.toList)))<|K (.bool false))<|K (.bool false))<|K (.bool false))<|K (.bool false)
def oL(h:ud  K w):CV xQ [] K w:=zE Tryz.f15 .auto _ h
def KV:Ann:=(.q2 (.q2 (.q2 .auto (some [(5,eI6)])) none) none)
def QD(p0 p1:Int)(K:Value→PT):PT:=
  L.guard (p1≠(0:Int))<|L.join (Y:=Int×Unit) (λk1=>L.ite (decide ((Int.tmod p0 p1)<0)) (k1 (Wi ((Int.tmod p0 p1)+p1),()))<|k1 (Int.tmod p0 p1,())) λz2=>K (I z2.1)
def KQ(p0 p1:Int)(h:QD p0 p1 K w):CV xn [.v (.int .i64 p0),.v (.int .i64 p1)] K w:=zE Tryz.f16 KV _ h
def Dn:Ann:=(.q2 (.q2 (.q2 (.q2 (.seq (.q2 (.q2 .auto (some [(28,eL6)])) none) .auto none) none) none) none) none)
def MF(p0 p1 p2:Int)(p3:Sl)(K:Value→PT):PT:=
  L.call Pr Vo [I p0,I p1,I p2] (.tup [eP6,eI6]) λ(x1:Option Addr×Int×Unit)=>L.new [.pointer none] ZL λb2=>L.store (⟨b2,0,none⟩) [.pointer x1.1]<|L.ite (x1.2.1 != 0) (K (.tuple #[.slice none 0 0,I x1.2.1]))<|L.new [.slice none 0 0] Fd λb3=>L.new [.pointer none] yf λb4=>L.store (⟨b4,0,none⟩) [.pointer (some (⟨b3,0,none⟩))]<|L.call Pr vb [Sv6 p3] (.one (.one (.func))) λ(x5:FV)=>L.range Pr none (.func x5.fn x5.fs x5.cs) [eL6] (λl6(y7:Sl×Unit) R8=>L.begin Pr l6<|L.load eP6 (⟨b4,0,none⟩) λ(x11:Option Addr)=>L.load eP6 (⟨b2,0,none⟩) λ(x12:Option Addr)=>L.call Pr qb [.pointer x11,.pointer x12,Sv6 y7.1] (.tup []) λ(x13:Unit)=>L.endRound Pr l6 none R8) λd9 j10=>L.jump j10 (L.load eP6 (⟨b4,0,none⟩) λ(x14:Option Addr)=>L.nonnil x14 λa15=>L.load eL6 (a15.add 0) λ(x16:Sl)=>L.call Pr Zx [Sv6 x16] rL λ(x17:Sl)=>L.unmark Pr (d9++[])<|K (.tuple #[Sv6 x17,I 0])) (L.unmark Pr (d9++[])<|K (.tuple #[.slice none 0 0,I 0])) []
def De(p0 p1 p2:Int)(p3:Sl)(h:MF p0 p1 p2 p3 K w):CV qL [.v (.int .i64 p0),.v (.int .i64 p1),.v (.int .i64 p2),.v (.slice p3.a p3.len p3.cap)] K w:=zE Tryz.f17 Dn _ h
def QV(p0 p1 p2:Int)(K:Value→PT):PT:=
  L.ite (decide (p0≥p1)) (K (.bool (decide (p0≤p2))))<|K (.bool false)
def oD(p0 p1 p2:Int)(h:QV p0 p1 p2 K w):CV Yw [.v (.int .i64 p0),.v (.int .i64 p1),.v (.int .i64 p2)] K w:=zE Tryz.f22 .auto _ h
def Fk(p0:Int)(K:Value→PT):PT:=
  L.sem Pr (.one (.one .map)) (Instr.makeMap Ze none) λ(m1:Option Nat)=>L.sem Pr (.one (.one .map)) (Instr.makeMap Qj none) λ(m2:Option Nat)=>L.new [.map m1,.map m2,I p0,I 0] Oa λb3=>K (.pointer (some (⟨b3,0,none⟩)))
def Cq(p0:Int)(h:Fk p0 K w):CV kU [.v (.int .i64 p0)] K w:=zE Tryz.f23 .auto _ h
def Fh  (K:Value→PT):PT:=
  L.call Pr jS [.func (.func ZJ) #[] #[]] rP λ(x1:Option Addr)=>L.call Pr Jh [.func (.func jR) #[] #[]] rP λ(x2:Option Addr)=>L.new [.pointer x1,.pointer x2,I 0] oY λb3=>K (.pointer (some (⟨b3,0,none⟩)))
def Cn(h:Fh  K w):CV kS [] K w:=zE Tryz.f24 .auto _ h
def Fg  (K:Value→PT):PT:=
  L.sem Pr (.one (.one .map)) (Instr.makeMap zQ none) λ(m1:Option Nat)=>L.sem Pr (.one (.one .map)) (Instr.makeMap OX none) λ(m2:Option Nat)=>L.new [.map m1,.map m2] Gi λb3=>K (.pointer (some (⟨b3,0,none⟩)))
def Cm(h:Fg  K w):CV kR [] K w:=zE Tryz.f25 .auto _ h
def MH  (K:Value→PT):PT:=
  L.sem Pr (.one (.one .map)) (Instr.makeMap jj none) λ(m1:Option Nat)=>L.new [.map m1] oZ λb2=>K (.pointer (some (⟨b2,0,none⟩)))
def Dg(h:MH  K w):CV OO [] K w:=zE Tryz.f26 .auto _ h
def MJ(p0:Option Addr)(p1 p2:Int)(K:Value→PT):PT:=
  L.new [I p1] zm λb1=>L.sem Pr (.one (.one .map)) (Instr.makeMap yS none) λ(m2:Option Nat)=>L.sem Pr (.one (.one .map)) (Instr.makeMap zW none) λ(m3:Option Nat)=>L.load eI6 (⟨b1,0,none⟩) λ(x4:Int)=>L.new [.pointer p0,.map m2,.map m3,.func (.func uj) #[] #[.pointer (some (⟨b1,0,none⟩))],I x4,I p2] Fe λb5=>K (.pointer (some (⟨b5,0,none⟩)))
def Di(p0:Option Addr)(p1 p2:Int)(h:MJ p0 p1 p2 K w):CV OP [.v (.pointer p0),.v (.int .i64 p1),.v (.int .i64 p2)] K w:=zE Tryz.f27 .auto _ h
def pQ:Ann:=(.q2 (.q2 (.q2 (.seq (.q2 .auto (some [(61,eB6)])) (.seq (.q2 (.cond .auto (.q2 (.cond .auto (.q2 (.cond .auto (.q2 (.cond .auto .auto) none)) none)) none)) none) .auto (some [])) none) none) none) none)
def Ot(p0:ht1)(K:Value→PT):PT:=
  L.new [I p0.1,.string p0.2.1,.string p0.2.2.1,I p0.2.2.2.1,I p0.2.2.2.2.1,.string p0.2.2.2.2.2.1,I p0.2.2.2.2.2.2.1,I p0.2.2.2.2.2.2.2.1,I p0.2.2.2.2.2.2.2.2.1,I p0.2.2.2.2.2.2.2.2.2.1,I p0.2.2.2.2.2.2.2.2.2.2.1,.string p0.2.2.2.2.2.2.2.2.2.2.2.1,.string p0.2.2.2.2.2.2.2.2.2.2.2.2.1,Sv6 p0.2.2.2.2.2.2.2.2.2.2.2.2.2.1,I p0.2.2.2.2.2.2.2.2.2.2.2.2.2.2.1] zT λb1=>L.load eI6 (Ad6 b1 0) λ(x2:Int)=>L.call Pr Qc [I x2] (.tup [(.agg lf5),eB6]) λ(x3:pt2)=>L.new [.bool false,.bool false,.bool false,.bool false,.bool false,.bool false] Qt λb4=>L.store (⟨b4,0,none⟩) [.bool x3.1.1,.bool x3.1.2.1,.bool x3.1.2.2.1,.bool x3.1.2.2.2.1,.bool x3.1.2.2.2.2.1,.bool x3.1.2.2.2.2.2.1]<|L.ite (!x3.2.1) (K (I 12))<|L.join (Y:=Bool×Unit) (λk5=>L.load eB6 (Ad6 b4 0) λ(x7:Bool)=>L.load eI6 (Ad6 b1 3) λ(x8:Int)=>L.call Pr xG [.bool x7,I x8] rB λ(x9:Bool)=>L.ite (!x9) (k5 (true,()))<|L.load eB6 (Ad6 b4 1) λ(x10:Bool)=>L.load eS6 (Ad6 b1 1) λ(x11:B0)=>L.call Pr jM [.bool x10,.string x11] rB λ(x12:Bool)=>L.ite (!x12) (k5 (true,()))<|L.load eB6 (Ad6 b4 2) λ(x13:Bool)=>L.load eS6 (Ad6 b1 2) λ(x14:B0)=>L.call Pr jM [.bool x13,.string x14] rB λ(x15:Bool)=>L.ite (!x15) (k5 (true,()))<|L.load eB6 (Ad6 b4 3) λ(x16:Bool)=>L.load eI6 (Ad6 b1 4) λ(x17:Int)=>L.call Pr xG [.bool x16,I x17] rB λ(x18:Bool)=>L.ite (!x18) (k5 (true,()))<|L.load eB6 (Ad6 b4 4) λ(x19:Bool)=>L.load (.agg lf0) (Ad6 b1 5) λ(x20:pt0)=>L.call Pr jV [.bool x19,(qa0 x20)] rB λ(x21:Bool)=>L.ite (!x21) (k5 (true,()))<|L.load eB6 (Ad6 b4 5) λ(x22:Bool)=>L.ite (!x22) (L.load (.agg [.str,.str,.slice,.int .i64]) (Ad6 b1 11) λ(x23:pt3)=>L.call Pr Vq [.agg #[.string x23.1,.string x23.2.1,Sv6 x23.2.2.1,I x23.2.2.2.1]] rB λ(x24:Bool)=>k5 (!x24,()))<|k5 (false,())) λz6=>L.ite z6.1 (K (I 2))<|L.join (Y:=Unit) (λk25=>L.load eB6 (Ad6 b4 0) λ(x27:Bool)=>L.ite x27 (L.load (.agg lf1) (⟨b1,0,none⟩) λ(x28:pt1)=>L.call Pr uR [(qa1 x28)] rB λ(x29:Bool)=>L.ite (!x29) (K (I 2))<|L.load eB6 (Ad6 b4 1) λ(x30:Bool)=>L.ite x30 (L.load (.agg lf1) (⟨b1,0,none⟩) λ(x31:pt1)=>L.call Pr Qd [(qa1 x31)] rB λ(x32:Bool)=>L.ite (!x32) (K (I 1))<|L.load eB6 (Ad6 b4 2) λ(x33:Bool)=>L.ite x33 (L.load eS6 (Ad6 b1 2) λ(x34:B0)=>L.ite (!(x34.toList == s_.toList)) (L.load eS6 (Ad6 b1 2) λ(x35:B0)=>L.call Pr jr [.string x35] rB λ(x36:Bool)=>L.ite (!x36) (K (I 1))<|L.load eB6 (Ad6 b4 3) λ(x37:Bool)=>L.ite x37 (L.load eI6 (Ad6 b1 4) λ(x38:Int)=>L.call Pr Zg [I x38,I 0,I 2147483647] rB λ(x39:Bool)=>L.ite (!x39) (K (I 2))<|L.load eB6 (Ad6 b4 4) λ(x40:Bool)=>L.ite x40 (L.load (.agg lf0) (Ad6 b1 5) λ(x41:pt0)=>L.call Pr zH [(qa0 x41)] rI λ(x42:Int)=>K (I x42))<|L.load eB6 (Ad6 b4 5) λ(x43:Bool)=>L.ite x43 (L.load (.agg [.str,.str,.slice,.int .i64]) (Ad6 b1 11) λ(x44:pt3)=>L.call Pr zM [.agg #[.string x44.1,.string x44.2.1,Sv6 x44.2.2.1,I x44.2.2.2.1]] rI λ(x45:Int)=>K (I x45))<|k25 (()))<|L.load eB6 (Ad6 b4 4) λ(x46:Bool)=>L.ite x46 (L.load (.agg lf0) (Ad6 b1 5) λ(x47:pt0)=>L.call Pr zH [(qa0 x47)] rI λ(x48:Int)=>K (I x48))<|L.load eB6 (Ad6 b4 5) λ(x49:Bool)=>L.ite x49 (L.load (.agg [.str,.str,.slice,.int .i64]) (Ad6 b1 11) λ(x50:pt3)=>L.call Pr zM [.agg #[.string x50.1,.string x50.2.1,Sv6 x50.2.2.1,I x50.2.2.2.1]] rI λ(x51:Int)=>K (I x51))<|k25 (()))<|L.load eB6 (Ad6 b4 3) λ(x52:Bool)=>L.ite x52 (L.load eI6 (Ad6 b1 4) λ(x53:Int)=>L.call Pr Zg [I x53,I 0,I 2147483647] rB λ(x54:Bool)=>L.ite (!x54) (K (I 2))<|L.load eB6 (Ad6 b4 4) λ(x55:Bool)=>L.ite x55 (L.load (.agg lf0) (Ad6 b1 5) λ(x56:pt0)=>L.call Pr zH [(qa0 x56)] rI λ(x57:Int)=>K (I x57))<|L.load eB6 (Ad6 b4 5) λ(x58:Bool)=>L.ite x58 (L.load (.agg [.str,.str,.slice,.int .i64]) (Ad6 b1 11) λ(x59:pt3)=>L.call Pr zM [.agg #[.string x59.1,.string x59.2.1,Sv6 x59.2.2.1,I x59.2.2.2.1]] rI λ(x60:Int)=>K (I x60))<|k25 (()))<|L.load eB6 (Ad6 b4 4) λ(x61:Bool)=>L.ite x61 (L.load (.agg lf0) (Ad6 b1 5) λ(x62:pt0)=>L.call Pr zH [(qa0 x62)] rI λ(x63:Int)=>K (I x63))<|L.load eB6 (Ad6 b4 5) λ(x64:Bool)=>L.ite x64 (L.load (.agg [.str,.str,.slice,.int .i64]) (Ad6 b1 11) λ(x65:pt3)=>L.call Pr zM [.agg #[.string x65.1,.string x65.2.1,Sv6 x65.2.2.1,I x65.2.2.2.1]] rI λ(x66:Int)=>K (I x66))<|k25 (()))<|L.load eB6 (Ad6 b4 3) λ(x67:Bool)=>L.ite x67 (L.load eI6 (Ad6 b1 4) λ(x68:Int)=>L.call Pr Zg [I x68,I 0,I 2147483647] rB λ(x69:Bool)=>L.ite (!x69) (K (I 2))<|L.load eB6 (Ad6 b4 4) λ(x70:Bool)=>L.ite x70 (L.load (.agg lf0) (Ad6 b1 5) λ(x71:pt0)=>L.call Pr zH [(qa0 x71)] rI λ(x72:Int)=>K (I x72))<|L.load eB6 (Ad6 b4 5) λ(x73:Bool)=>L.ite x73 (L.load (.agg [.str,.str,.slice,.int .i64]) (Ad6 b1 11) λ(x74:pt3)=>L.call Pr zM [.agg #[.string x74.1,.string x74.2.1,Sv6 x74.2.2.1,I x74.2.2.2.1]] rI λ(x75:Int)=>K (I x75))<|k25 (()))<|L.load eB6 (Ad6 b4 4) λ(x76:Bool)=>L.ite x76 (L.load (.agg lf0) (Ad6 b1 5) λ(x77:pt0)=>L.call Pr zH [(qa0 x77)] rI λ(x78:Int)=>K (I x78))<|L.load eB6 (Ad6 b4 5) λ(x79:Bool)=>L.ite x79 (L.load (.agg [.str,.str,.slice,.int .i64]) (Ad6 b1 11) λ(x80:pt3)=>L.call Pr zM [.agg #[.string x80.1,.string x80.2.1,Sv6 x80.2.2.1,I x80.2.2.2.1]] rI λ(x81:Int)=>K (I x81))<|k25 (()))<|L.load eB6 (Ad6 b4 2) λ(x82:Bool)=>L.ite x82 (L.load eS6 (Ad6 b1 2) λ(x83:B0)=>L.ite (!(x83.toList == s_.toList)) (L.load eS6 (Ad6 b1 2) λ(x84:B0)=>L.call Pr jr [.string x84] rB λ(x85:Bool)=>L.ite (!x85) (K (I 1))<|L.load eB6 (Ad6 b4 3) λ(x86:Bool)=>L.ite x86 (L.load eI6 (Ad6 b1 4) λ(x87:Int)=>L.call Pr Zg [I x87,I 0,I 2147483647] rB λ(x88:Bool)=>L.ite (!x88) (K (I 2))<|L.load eB6 (Ad6 b4 4) λ(x89:Bool)=>L.ite x89 (L.load (.agg lf0) (Ad6 b1 5) λ(x90:pt0)=>L.call Pr zH [(qa0 x90)] rI λ(x91:Int)=>K (I x91))<|L.load eB6 (Ad6 b4 5) λ(x92:Bool)=>L.ite x92 (L.load (.agg [.str,.str,.slice,.int .i64]) (Ad6 b1 11) λ(x93:pt3)=>L.call Pr zM [.agg #[.string x93.1,.string x93.2.1,Sv6 x93.2.2.1,I x93.2.2.2.1]] rI λ(x94:Int)=>K (I x94))<|k25 (()))<|L.load eB6 (Ad6 b4 4) λ(x95:Bool)=>L.ite x95 (L.load (.agg lf0) (Ad6 b1 5) λ(x96:pt0)=>L.call Pr zH [(qa0 x96)] rI λ(x97:Int)=>K (I x97))<|L.load eB6 (Ad6 b4 5) λ(x98:Bool)=>L.ite x98 (L.load (.agg [.str,.str,.slice,.int .i64]) (Ad6 b1 11) λ(x99:pt3)=>L.call Pr zM [.agg #[.string x99.1,.string x99.2.1,Sv6 x99.2.2.1,I x99.2.2.2.1]] rI λ(x100:Int)=>K (I x100))<|k25 (()))<|L.load eB6 (Ad6 b4 3) λ(x101:Bool)=>L.ite x101 (L.load eI6 (Ad6 b1 4) λ(x102:Int)=>L.call Pr Zg [I x102,I 0,I 2147483647] rB λ(x103:Bool)=>L.ite (!x103) (K (I 2))<|L.load eB6 (Ad6 b4 4) λ(x104:Bool)=>L.ite x104 (L.load (.agg lf0) (Ad6 b1 5) λ(x105:pt0)=>L.call Pr zH [(qa0 x105)] rI λ(x106:Int)=>K (I x106))<|L.load eB6 (Ad6 b4 5) λ(x107:Bool)=>L.ite x107 (L.load (.agg [.str,.str,.slice,.int .i64]) (Ad6 b1 11) λ(x108:pt3)=>L.call Pr zM [.agg #[.string x108.1,.string x108.2.1,Sv6 x108.2.2.1,I x108.2.2.2.1]] rI λ(x109:Int)=>K (I x109))<|k25 (()))<|L.load eB6 (Ad6 b4 4) λ(x110:Bool)=>L.ite x110 (L.load (.agg lf0) (Ad6 b1 5) λ(x111:pt0)=>L.call Pr zH [(qa0 x111)] rI λ(x112:Int)=>K (I x112))<|L.load eB6 (Ad6 b4 5) λ(x113:Bool)=>L.ite x113 (L.load (.agg [.str,.str,.slice,.int .i64]) (Ad6 b1 11) λ(x114:pt3)=>L.call Pr zM [.agg #[.string x114.1,.string x114.2.1,Sv6 x114.2.2.1,I x114.2.2.2.1]] rI λ(x115:Int)=>K (I x115))<|k25 (()))<|L.load eB6 (Ad6 b4 3) λ(x116:Bool)=>L.ite x116 (L.load eI6 (Ad6 b1 4) λ(x117:Int)=>L.call Pr Zg [I x117,I 0,I 2147483647] rB λ(x118:Bool)=>L.ite (!x118) (K (I 2))<|L.load eB6 (Ad6 b4 4) λ(x119:Bool)=>L.ite x119 (L.load (.agg lf0) (Ad6 b1 5) λ(x120:pt0)=>L.call Pr zH [(qa0 x120)] rI λ(x121:Int)=>K (I x121))<|L.load eB6 (Ad6 b4 5) λ(x122:Bool)=>L.ite x122 (L.load (.agg [.str,.str,.slice,.int .i64]) (Ad6 b1 11) λ(x123:pt3)=>L.call Pr zM [.agg #[.string x123.1,.string x123.2.1,Sv6 x123.2.2.1,I x123.2.2.2.1]] rI λ(x124:Int)=>K (I x124))<|k25 (()))<|L.load eB6 (Ad6 b4 4) λ(x125:Bool)=>L.ite x125 (L.load (.agg lf0) (Ad6 b1 5) λ(x126:pt0)=>L.call Pr zH [(qa0 x126)] rI λ(x127:Int)=>K (I x127))<|L.load eB6 (Ad6 b4 5) λ(x128:Bool)=>L.ite x128 (L.load (.agg [.str,.str,.slice,.int .i64]) (Ad6 b1 11) λ(x129:pt3)=>L.call Pr zM [.agg #[.string x129.1,.string x129.2.1,Sv6 x129.2.2.1,I x129.2.2.2.1]] rI λ(x130:Int)=>K (I x130))<|k25 (()))<|L.load eB6 (Ad6 b4 1) λ(x131:Bool)=>L.ite x131 (L.load (.agg lf1) (⟨b1,0,none⟩) λ(x132:pt1)=>L.call Pr Qd [(qa1 x132)] rB λ(x133:Bool)=>L.ite (!x133) (K (I 1))<|L.load eB6 (Ad6 b4 2) λ(x134:Bool)=>L.ite x134 (L.load eS6 (Ad6 b1 2) λ(x135:B0)=>L.ite (!(x135.toList == s_.toList)) (L.load eS6 (Ad6 b1 2) λ(x136:B0)=>L.call Pr jr [.string x136] rB λ(x137:Bool)=>L.ite (!x137) (K (I 1))<|L.load eB6 (Ad6 b4 3) λ(x138:Bool)=>L.ite x138 (L.load eI6 (Ad6 b1 4) λ(x139:Int)=>L.call Pr Zg [I x139,I 0,I 2147483647] rB λ(x140:Bool)=>L.ite (!x140) (K (I 2))<|L.load eB6 (Ad6 b4 4) λ(x141:Bool)=>L.ite x141 (L.load (.agg lf0) (Ad6 b1 5) λ(x142:pt0)=>L.call Pr zH [(qa0 x142)] rI λ(x143:Int)=>K (I x143))<|L.load eB6 (Ad6 b4 5) λ(x144:Bool)=>L.ite x144 (L.load (.agg [.str,.str,.slice,.int .i64]) (Ad6 b1 11) λ(x145:pt3)=>L.call Pr zM [.agg #[.string x145.1,.string x145.2.1,Sv6 x145.2.2.1,I x145.2.2.2.1]] rI λ(x146:Int)=>K (I x146))<|k25 (()))<|L.load eB6 (Ad6 b4 4) λ(x147:Bool)=>L.ite x147 (L.load (.agg lf0) (Ad6 b1 5) λ(x148:pt0)=>L.call Pr zH [(qa0 x148)] rI λ(x149:Int)=>K (I x149))<|L.load eB6 (Ad6 b4 5) λ(x150:Bool)=>L.ite x150 (L.load (.agg [.str,.str,.slice,.int .i64]) (Ad6 b1 11) λ(x151:pt3)=>L.call Pr zM [.agg #[.string x151.1,.string x151.2.1,Sv6 x151.2.2.1,I x151.2.2.2.1]] rI λ(x152:Int)=>K (I x152))<|k25 (()))<|L.load eB6 (Ad6 b4 3) λ(x153:Bool)=>L.ite x153 (L.load eI6 (Ad6 b1 4) λ(x154:Int)=>L.call Pr Zg [I x154,I 0,I 2147483647] rB λ(x155:Bool)=>L.ite (!x155) (K (I 2))<|L.load eB6 (Ad6 b4 4) λ(x156:Bool)=>L.ite x156 (L.load (.agg lf0) (Ad6 b1 5) λ(x157:pt0)=>L.call Pr zH [(qa0 x157)] rI λ(x158:Int)=>K (I x158))<|L.load eB6 (Ad6 b4 5) λ(x159:Bool)=>L.ite x159 (L.load (.agg [.str,.str,.slice,.int .i64]) (Ad6 b1 11) λ(x160:pt3)=>L.call Pr zM [.agg #[.string x160.1,.string x160.2.1,Sv6 x160.2.2.1,I x160.2.2.2.1]] rI λ(x161:Int)=>K (I x161))<|k25 (()))<|L.load eB6 (Ad6 b4 4) λ(x162:Bool)=>L.ite x162 (L.load (.agg lf0) (Ad6 b1 5) λ(x163:pt0)=>L.call Pr zH [(qa0 x163)] rI λ(x164:Int)=>K (I x164))<|L.load eB6 (Ad6 b4 5) λ(x165:Bool)=>L.ite x165 (L.load (.agg [.str,.str,.slice,.int .i64]) (Ad6 b1 11) λ(x166:pt3)=>L.call Pr zM [.agg #[.string x166.1,.string x166.2.1,Sv6 x166.2.2.1,I x166.2.2.2.1]] rI λ(x167:Int)=>K (I x167))<|k25 (()))<|L.load eB6 (Ad6 b4 3) λ(x168:Bool)=>L.ite x168 (L.load eI6 (Ad6 b1 4) λ(x169:Int)=>L.call Pr Zg [I x169,I 0,I 2147483647] rB λ(x170:Bool)=>L.ite (!x170) (K (I 2))<|L.load eB6 (Ad6 b4 4) λ(x171:Bool)=>L.ite x171 (L.load (.agg lf0) (Ad6 b1 5) λ(x172:pt0)=>L.call Pr zH [(qa0 x172)] rI λ(x173:Int)=>K (I x173))<|L.load eB6 (Ad6 b4 5) λ(x174:Bool)=>L.ite x174 (L.load (.agg [.str,.str,.slice,.int .i64]) (Ad6 b1 11) λ(x175:pt3)=>L.call Pr zM [.agg #[.string x175.1,.string x175.2.1,Sv6 x175.2.2.1,I x175.2.2.2.1]] rI λ(x176:Int)=>K (I x176))<|k25 (()))<|L.load eB6 (Ad6 b4 4) λ(x177:Bool)=>L.ite x177 (L.load (.agg lf0) (Ad6 b1 5) λ(x178:pt0)=>L.call Pr zH [(qa0 x178)] rI λ(x179:Int)=>K (I x179))<|L.load eB6 (Ad6 b4 5) λ(x180:Bool)=>L.ite x180 (L.load (.agg [.str,.str,.slice,.int .i64]) (Ad6 b1 11) λ(x181:pt3)=>L.call Pr zM [.agg #[.string x181.1,.string x181.2.1,Sv6 x181.2.2.1,I x181.2.2.2.1]] rI λ(x182:Int)=>K (I x182))<|k25 (()))<|L.load eB6 (Ad6 b4 2) λ(x183:Bool)=>L.ite x183 (L.load eS6 (Ad6 b1 2) λ(x184:B0)=>L.ite (!(x184.toList == s_.toList)) (L.load eS6 (Ad6 b1 2) λ(x185:B0)=>L.call Pr jr [.string x185] rB λ(x186:Bool)=>L.ite (!x186) (K (I 1))<|L.load eB6 (Ad6 b4 3) λ(x187:Bool)=>L.ite x187 (L.load eI6 (Ad6 b1 4) λ(x188:Int)=>L.call Pr Zg [I x188,I 0,I 2147483647] rB λ(x189:Bool)=>L.ite (!x189) (K (I 2))<|L.load eB6 (Ad6 b4 4) λ(x190:Bool)=>L.ite x190 (L.load (.agg lf0) (Ad6 b1 5) λ(x191:pt0)=>L.call Pr zH [(qa0 x191)] rI λ(x192:Int)=>K (I x192))<|L.load eB6 (Ad6 b4 5) λ(x193:Bool)=>L.ite x193 (L.load (.agg [.str,.str,.slice,.int .i64]) (Ad6 b1 11) λ(x194:pt3)=>L.call Pr zM [.agg #[.string x194.1,.string x194.2.1,Sv6 x194.2.2.1,I x194.2.2.2.1]] rI λ(x195:Int)=>K (I x195))<|k25 (()))<|L.load eB6 (Ad6 b4 4) λ(x196:Bool)=>L.ite x196 (L.load (.agg lf0) (Ad6 b1 5) λ(x197:pt0)=>L.call Pr zH [(qa0 x197)] rI λ(x198:Int)=>K (I x198))<|L.load eB6 (Ad6 b4 5) λ(x199:Bool)=>L.ite x199 (L.load (.agg [.str,.str,.slice,.int .i64]) (Ad6 b1 11) λ(x200:pt3)=>L.call Pr zM [.agg #[.string x200.1,.string x200.2.1,Sv6 x200.2.2.1,I x200.2.2.2.1]] rI λ(x201:Int)=>K (I x201))<|k25 (()))<|L.load eB6 (Ad6 b4 3) λ(x202:Bool)=>L.ite x202 (L.load eI6 (Ad6 b1 4) λ(x203:Int)=>L.call Pr Zg [I x203,I 0,I 2147483647] rB λ(x204:Bool)=>L.ite (!x204) (K (I 2))<|L.load eB6 (Ad6 b4 4) λ(x205:Bool)=>L.ite x205 (L.load (.agg lf0) (Ad6 b1 5) λ(x206:pt0)=>L.call Pr zH [(qa0 x206)] rI λ(x207:Int)=>K (I x207))<|L.load eB6 (Ad6 b4 5) λ(x208:Bool)=>L.ite x208 (L.load (.agg [.str,.str,.slice,.int .i64]) (Ad6 b1 11) λ(x209:pt3)=>L.call Pr zM [.agg #[.string x209.1,.string x209.2.1,Sv6 x209.2.2.1,I x209.2.2.2.1]] rI λ(x210:Int)=>K (I x210))<|k25 (()))<|L.load eB6 (Ad6 b4 4) λ(x211:Bool)=>L.ite x211 (L.load (.agg lf0) (Ad6 b1 5) λ(x212:pt0)=>L.call Pr zH [(qa0 x212)] rI λ(x213:Int)=>K (I x213))<|L.load eB6 (Ad6 b4 5) λ(x214:Bool)=>L.ite x214 (L.load (.agg [.str,.str,.slice,.int .i64]) (Ad6 b1 11) λ(x215:pt3)=>L.call Pr zM [.agg #[.string x215.1,.string x215.2.1,Sv6 x215.2.2.1,I x215.2.2.2.1]] rI λ(x216:Int)=>K (I x216))<|k25 (()))<|L.load eB6 (Ad6 b4 3) λ(x217:Bool)=>L.ite x217 (L.load eI6 (Ad6 b1 4) λ(x218:Int)=>L.call Pr Zg [I x218,I 0,I 2147483647] rB λ(x219:Bool)=>L.ite (!x219) (K (I 2))<|L.load eB6 (Ad6 b4 4) λ(x220:Bool)=>L.ite x220 (L.load (.agg lf0) (Ad6 b1 5) λ(x221:pt0)=>L.call Pr zH [(qa0 x221)] rI λ(x222:Int)=>K (I x222))<|L.load eB6 (Ad6 b4 5) λ(x223:Bool)=>L.ite x223 (L.load (.agg [.str,.str,.slice,.int .i64]) (Ad6 b1 11) λ(x224:pt3)=>L.call Pr zM [.agg #[.string x224.1,.string x224.2.1,Sv6 x224.2.2.1,I x224.2.2.2.1]] rI λ(x225:Int)=>K (I x225))<|k25 (()))<|L.load eB6 (Ad6 b4 4) λ(x226:Bool)=>L.ite x226 (L.load (.agg lf0) (Ad6 b1 5) λ(x227:pt0)=>L.call Pr zH [(qa0 x227)] rI λ(x228:Int)=>K (I x228))<|L.load eB6 (Ad6 b4 5) λ(x229:Bool)=>L.ite x229 (L.load (.agg [.str,.str,.slice,.int .i64]) (Ad6 b1 11) λ(x230:pt3)=>L.call Pr zM [.agg #[.string x230.1,.string x230.2.1,Sv6 x230.2.2.1,I x230.2.2.2.1]] rI λ(x231:Int)=>K (I x231))<|k25 (())) λz26=>K (I 0)
def pF(p0:ht1)(h:Ot p0 K w):CV Qe [.ag (qc1 p0)] K w:=zE Tryz.f28 pQ _ h
def KR:Ann:=(.q2 (.q2 (.seq (.q2 (.one [(5,eL6),(14,eI6)] (.q2 (.q2 (.q2 .auto (some [(5,eL6)])) none) none)) none) .auto none) none) none)
def Qv(p0:B0)(p1:Sl)(K:Value→PT):PT:=
  L.new [.string p0] zd λb1=>L.loop (Y:=Sl×Int×Unit) (⟨some ⟨b1,0,none⟩,1,1⟩,0,()) λy2 again3=>L.ite (decide (y2.2.1<((p1.len:Nat):Int))) (L.join (Y:=Sl×Unit) (λk4=>L.idx p1.a y2.2.1 p1.len 1 λa6=>L.load eS6 a6 λ(x7:B0)=>L.ite true (L.new [.string x7] zd λb8=>L.sem Pr (.one (.one .slice)) (Builtin.append_ #[zp,zp] zp #[Sv6 y2.1,.slice (some ⟨b8,0,none⟩) 1 1]) λ(s9:Sl)=>k4 (⟨s9.a,s9.len,s9.cap⟩,()))<|L.semR Pr (.tup [eI6,.one .bool]) (Instr.typeAssert (.iface zd (.string x7)) Ko zm true) λ(x10:Int×Bool×Unit)=>L.ite x10.2.1 (L.call Pr xj [I x10.1] rS λ(x11:B0)=>L.new [.string x11] zd λb12=>L.sem Pr (.one (.one .slice)) (Builtin.append_ #[zp,zp] zp #[Sv6 y2.1,.slice (some ⟨b12,0,none⟩) 1 1]) λ(s13:Sl)=>k4 (⟨s13.a,s13.len,s13.cap⟩,()))<|k4 (⟨y2.1.a,y2.1.len,y2.1.cap⟩,())) λz5=>again3 (⟨z5.1.a,z5.1.len,z5.1.cap⟩,Wi (y2.2.1+1),()))<|L.call Pr uN [Sv6 y2.1,.string kL] rS λ(x14:B0)=>K (.string x14)
def KF(p0:B0)(p1:Sl)(h:Qv p0 p1 K w):CV zG [.v (.string p0),.v (.slice p1.a p1.len p1.cap)] K w:=zE Tryz.f29 KR _ h
def UU(p0:Int)(K:Value→PT):PT:=
  L.ite (decide (p0≤6)) (L.call Pr fT [I p0] rS λ(x1:B0)=>K (.string x1))<|L.call Pr mQ [I p0] rS λ(x2:B0)=>K (.string x2)
def Gz(p0:Int)(h:UU p0 K w):CV js [.v (.int .i64 p0)] K w:=zE Tryz.f30 .auto _ h
def Ju(p0:Option Addr)(p1:ht1)(K:Value→PT):PT:=
  L.new [I p1.1,.string p1.2.1,.string p1.2.2.1,I p1.2.2.2.1,I p1.2.2.2.2.1,.string p1.2.2.2.2.2.1,I p1.2.2.2.2.2.2.1,I p1.2.2.2.2.2.2.2.1,I p1.2.2.2.2.2.2.2.2.1,I p1.2.2.2.2.2.2.2.2.2.1,I p1.2.2.2.2.2.2.2.2.2.2.1,.string p1.2.2.2.2.2.2.2.2.2.2.2.1,.string p1.2.2.2.2.2.2.2.2.2.2.2.2.1,Sv6 p1.2.2.2.2.2.2.2.2.2.2.2.2.2.1,I p1.2.2.2.2.2.2.2.2.2.2.2.2.2.2.1] zT λb1=>L.draw<|L.nonnil p0 λa2=>L.load eP6 (a2.add 0) λ(x3:Option Addr)=>L.load (.agg lf0) (Ad6 b1 5) λ(x4:pt0)=>L.load eI6 (Ad6 b1 3) λ(x5:Int)=>L.call Pr jT [.pointer x3,(qa0 x4),I x5] (.tup [eI6,eI6]) λ(x6:Int×Int×Unit)=>L.load eS6 ((Ad6 b1 5).add 0) λ(x7:B0)=>L.call Pr Vn [.string TQ,.string x7,I x6.1,I x6.2.1] rL λ(x8:Sl)=>K (.slice x8.a x8.len x8.cap)
def VB(p0:Option Addr)(p1:ht1)(h:Ju p0 p1 K w):CV yi [.v (.pointer p0),.ag (qc1 p1)] K w:=zE Tryz.f31 .auto _ h
def Vy:yr Pr yi:=Zb (by kernel_rfl)
def VF:Ann:=(.q2 (.q2 (.q2 (.q2 (.q2 (.seq (.q2 (.cond .auto .auto) none) .auto (some [(7,eL6)])) none) none) none) none) none)
def Jv(p0:Option Addr)(p1:ht1)(K:Value→PT):PT:=
  L.new [I p1.1,.string p1.2.1,.string p1.2.2.1,I p1.2.2.2.1,I p1.2.2.2.2.1,.string p1.2.2.2.2.2.1,I p1.2.2.2.2.2.2.1,I p1.2.2.2.2.2.2.2.1,I p1.2.2.2.2.2.2.2.2.1,I p1.2.2.2.2.2.2.2.2.2.1,I p1.2.2.2.2.2.2.2.2.2.2.1,.string p1.2.2.2.2.2.2.2.2.2.2.2.1,.string p1.2.2.2.2.2.2.2.2.2.2.2.2.1,Sv6 p1.2.2.2.2.2.2.2.2.2.2.2.2.2.1,I p1.2.2.2.2.2.2.2.2.2.2.2.2.2.2.1] zT λb1=>L.load (.agg lf1) (⟨b1,0,none⟩) λ(x2:pt1)=>L.call Pr JL [.pointer p0,(qa1 x2)] rS λ(x3:B0)=>L.draw<|L.nonnil p0 λa4=>L.load eP6 (a4.add 4) λ(x5:Option Addr)=>L.load eI6 (Ad6 b1 3) λ(x6:Int)=>L.nonnil p0 λa7=>L.load eI6 (a7.add 6) λ(x8:Int)=>L.call Pr Xp [.pointer x5,I x6,.string x3,I x8] rL λ(x9:Sl)=>L.call Pr Qa [Sv6 x9,.slice none 0 0] rL λ(x10:Sl)=>L.nonnil p0 λa11=>L.load (.one (.map)) (a11.add 5) λ(x12:Option Nat)=>L.call Pr yM [.map x12,.string x3] (.tup [eP6,eB6]) λ(x13:Option Addr×Bool×Unit)=>L.join (Y:=Sl×Unit) (λk14=>L.ite x13.2.1 (L.ite (decide (((x9.len:Nat):Int)>0)) (L.idx x9.a 0 x9.len 4 λa16=>L.load eI6 (a16.add 1) λ(x17:Int)=>L.ite (x17 == 2) (L.nonnil x13.1 λa18=>L.load eI6 ((a18.add 1).add 0) λ(x19:Int)=>L.ite (x19 == 0) (L.nonnil x13.1 λa20=>L.store ((a20.add 1).add 0) [I 1]<|L.new [.string x3] zd λb21=>L.call Pr zG [.string jg,.slice (some ⟨b21,0,none⟩) 1 1] rS λ(x22:B0)=>L.new [I 1] zm λb23=>L.call Pr zF [.string x22,.slice (some ⟨b23,0,none⟩) 1 1] rS λ(x24:B0)=>L.new [.string x24] zd λb25=>L.sem Pr (.one (.one .slice)) (Builtin.append_ #[zp,zp] zp #[Sv6 x10,.slice (some ⟨b25,0,none⟩) 1 1]) λ(s26:Sl)=>k14 (⟨s26.a,s26.len,s26.cap⟩,()))<|k14 (⟨x10.a,x10.len,x10.cap⟩,()))<|k14 (⟨x10.a,x10.len,x10.cap⟩,()))<|k14 (⟨x10.a,x10.len,x10.cap⟩,()))<|k14 (⟨x10.a,x10.len,x10.cap⟩,())) λz15=>K (.slice z15.1.a z15.1.len z15.1.cap)
def VC(p0:Option Addr)(p1:ht1)(h:Jv p0 p1 K w):CV yj [.v (.pointer p0),.ag (qc1 p1)] K w:=zE Tryz.f34 VF _ h
def Vz:yr Pr yj:=Zb (by kernel_rfl)
def KS:Ann:=(.q2 (.q2 (.q2 (.q2 (.seq (.q2 (.one [(33,eI6)] .auto) none) .auto none) none) none) none) none)
def xr(p0:Option Addr)(p1:ht1)(K:Value→PT):PT:=
  L.new [I p1.1,.string p1.2.1,.string p1.2.2.1,I p1.2.2.2.1,I p1.2.2.2.2.1,.string p1.2.2.2.2.2.1,I p1.2.2.2.2.2.2.1,I p1.2.2.2.2.2.2.2.1,I p1.2.2.2.2.2.2.2.2.1,I p1.2.2.2.2.2.2.2.2.2.1,I p1.2.2.2.2.2.2.2.2.2.2.1,.string p1.2.2.2.2.2.2.2.2.2.2.2.1,.string p1.2.2.2.2.2.2.2.2.2.2.2.2.1,Sv6 p1.2.2.2.2.2.2.2.2.2.2.2.2.2.1,I p1.2.2.2.2.2.2.2.2.2.2.2.2.2.2.1] zT λb1=>L.nonnil p0 λa2=>L.load eI6 (a2.add 6) λ(x3:Int)=>L.ite (decide (x3≥1048576)) (L.call Pr yE [I 9] rL λ(x4:Sl)=>K (.slice x4.a x4.len x4.cap))<|L.nonnil p0 λa5=>L.load eI6 (a5.add 6) λ(x6:Int)=>L.nonnil p0 λa7=>L.store (a7.add 6) [I (Wi (x6+1))]<|L.draw<|L.nonnil p0 λa8=>L.load eP6 (a8.add 4) λ(x9:Option Addr)=>L.nonnil p0 λa10=>L.load eI6 (a10.add 6) λ(x11:Int)=>L.call Pr qN [.pointer x9,I x11] rL λ(x12:Sl)=>L.call Pr xJ [.pointer p0] rL λ(x13:Sl)=>L.loop (Y:=Int×Unit) (0,()) λy14 again15=>L.ite (decide (y14.1<((x13.len:Nat):Int))) (L.idx x13.a y14.1 x13.len 1 λa16=>L.load eS6 a16 λ(x17:B0)=>L.draw<|L.nonnil p0 λa18=>L.load (.one (.map)) (a18.add 5) λ(x19:Option Nat)=>L.semR Pr rP (Instr.lookup Za (.map x19) (.string x17) false) λ(x20:Option Addr)=>L.nonnil x20 λa21=>L.load eP6 (a21.add 0) λ(x22:Option Addr)=>L.nonnil p0 λa23=>L.load eP6 (a23.add 4) λ(x24:Option Addr)=>L.call Pr xF [.pointer x24,.string x17] rI λ(x25:Int)=>L.chk (a21.add 0) [.pointer x22]<|L.chkSem Pr (Instr.lookup Za (.map x19) (.string x17) false) (.pointer x20)<|L.chk (a18.add 5) [.map x19]<|L.call Pr qd [.pointer x22,I x25] (.tup []) λ(x26:Unit)=>again15 (Wi (y14.1+1),()))<|L.nonnil p0 λa27=>L.load eI6 (a27.add 6) λ(x28:Int)=>L.new [I x28] zm λb29=>L.call Pr zF [.string CG,.slice (some ⟨b29,0,none⟩) 1 1] rS λ(x30:B0)=>L.new [.string x30] zd λb31=>L.call Pr Qa [Sv6 x12,.slice (some ⟨b31,0,none⟩) 1 1] rL λ(x32:Sl)=>K (.slice x32.a x32.len x32.cap)
def KG(p0:Option Addr)(p1:ht1)(h:xr p0 p1 K w):CV yF [.v (.pointer p0),.ag (qc1 p1)] K w:=zE Tryz.f38 KS _ h
def KD:yr Pr yF:=Zb (by kernel_rfl)
def kB:Ann:=(.q2 (.seq (.one [(5,(.one (.adr))),(7,eI6),(8,eB6)] .auto) .auto none) none)
def JP(p0:Option Addr)(p1:ht1)(K:Value→PT):PT:=
  L.new [I p1.1,.string p1.2.1,.string p1.2.2.1,I p1.2.2.2.1,I p1.2.2.2.2.1,.string p1.2.2.2.2.2.1,I p1.2.2.2.2.2.2.1,I p1.2.2.2.2.2.2.2.1,I p1.2.2.2.2.2.2.2.2.1,I p1.2.2.2.2.2.2.2.2.2.1,I p1.2.2.2.2.2.2.2.2.2.2.1,.string p1.2.2.2.2.2.2.2.2.2.2.2.1,.string p1.2.2.2.2.2.2.2.2.2.2.2.2.1,Sv6 p1.2.2.2.2.2.2.2.2.2.2.2.2.2.1,I p1.2.2.2.2.2.2.2.2.2.2.2.2.2.2.1] zT λb1=>L.join (Y:=Addr×Int×Bool×Unit) (λk2=>L.draw<|L.nonnil p0 λa4=>L.load eP6 (a4.add 0) λ(x5:Option Addr)=>L.load eS6 (Ad6 b1 1) λ(x6:B0)=>L.alts [(L.call Pr jq [.pointer x5,.string x6] (.tup [(.agg lf0),eI6,eI6,eB6]) λ(x7:pt4)=>L.new [.string s_,I 0,I 0,I 0,I 0,I 0] zq λb8=>L.chk (Ad6 b1 1) [.string x6]<|L.chk (a4.add 0) [.pointer x5]<|L.store (⟨b8,0,none⟩) [.string x7.1.1,I x7.1.2.1,I x7.1.2.2.1,I x7.1.2.2.2.1,I x7.1.2.2.2.2.1,I x7.1.2.2.2.2.2.1]<|k2 (⟨b8,0,none⟩,x7.2.2.1,x7.2.2.2.1,())),(L.new [.string s_,I 0,I 0,I 0,I 0,I 0] zq λb9=>L.chk (Ad6 b1 1) [.string x6]<|L.chk (a4.add 0) [.pointer x5]<|L.call Pr jq [.pointer x5,.string x6] (.tup [(.agg lf0),eI6,eI6,eB6]) λ(x10:pt4)=>L.store (⟨b9,0,none⟩) [.string x10.1.1,I x10.1.2.1,I x10.1.2.2.1,I x10.1.2.2.2.1,I x10.1.2.2.2.2.1,I x10.1.2.2.2.2.2.1]<|k2 (⟨b9,0,none⟩,x10.2.2.1,x10.2.2.2.1,()))]) λz3=>L.ite (!z3.2.2.1) (L.call Pr yE [I 6] rL λ(x11:Sl)=>K (.slice x11.a x11.len x11.cap))<|L.ite (decide (z3.2.1>999999)) (L.call Pr yE [I 3] rL λ(x12:Sl)=>K (.slice x12.a x12.len x12.cap))<|L.draw<|L.nonnil p0 λa13=>L.load eP6 (a13.add 1) λ(x14:Option Addr)=>L.load (.agg lf0) z3.1 λ(x15:pt0)=>L.call Pr Xk [.pointer x14,(qa0 x15),I z3.2.1] (.tup [eS6,eB6]) λ(x16:B0×Bool×Unit)=>L.ite (!x16.2.1) (L.new [.string x16.1] zd λb17=>L.call Pr zG [.string wq,.slice (some ⟨b17,0,none⟩) 1 1] rS λ(x18:B0)=>L.new [.string x18] zd λb19=>K (.slice (some ⟨b19,0,none⟩) 1 1))<|L.load eI6 (z3.1.add 3) λ(x20:Int)=>L.draw<|L.nonnil p0 λa21=>L.load (.one (.map)) (a21.add 5) λ(x22:Option Nat)=>L.call Pr kT [] rP λ(x23:Option Addr)=>L.chk (a21.add 5) [.map x22]<|L.new [.pointer x23,I (if 1>x20 then 1 else x20),I 0] JD λb24=>L.chk (a21.add 5) [.map x22]<|L.semU Pr (Instr.mapUpdate Za (.map x22) (.string x16.1) (.pointer (some (⟨b24,0,none⟩))))<|L.new [.string x16.1] zd λb25=>L.call Pr zG [.string Vi,.slice (some ⟨b25,0,none⟩) 1 1] rS λ(x26:B0)=>L.new [.string x16.1] zd λb27=>L.call Pr zG [.string jg,.slice (some ⟨b27,0,none⟩) 1 1] rS λ(x28:B0)=>L.new [I (if 1>x20 then 1 else x20)] zm λb29=>L.call Pr zF [.string x28,.slice (some ⟨b29,0,none⟩) 1 1] rS λ(x30:B0)=>L.new [.string x26,.string x30] zd λb31=>K (.slice (some ⟨b31,0,none⟩) 2 2)
def kg(p0:Option Addr)(p1:ht1)(h:JP p0 p1 K w):CV ym [.v (.pointer p0),.ag (qc1 p1)] K w:=zE Tryz.f39 kB _ h
def kd:yr Pr ym:=Zb (by kernel_rfl)
def kC:Ann:=(.q2 (.seq (.one [(5,(.one (.adr))),(6,eB6)] .auto) (.q2 (.q2 (.q2 (.q2 (.q2 (.q2 (.seq (.one [(4,eL6)] .auto) .auto none) none) none) none) none) none) none) none) none)
def JQ(p0:Option Addr)(p1:ht1)(K:Value→PT):PT:=
  L.new [I p1.1,.string p1.2.1,.string p1.2.2.1,I p1.2.2.2.1,I p1.2.2.2.2.1,.string p1.2.2.2.2.2.1,I p1.2.2.2.2.2.2.1,I p1.2.2.2.2.2.2.2.1,I p1.2.2.2.2.2.2.2.2.1,I p1.2.2.2.2.2.2.2.2.2.1,I p1.2.2.2.2.2.2.2.2.2.2.1,.string p1.2.2.2.2.2.2.2.2.2.2.2.1,.string p1.2.2.2.2.2.2.2.2.2.2.2.2.1,Sv6 p1.2.2.2.2.2.2.2.2.2.2.2.2.2.1,I p1.2.2.2.2.2.2.2.2.2.2.2.2.2.2.1] zT λb1=>L.join (Y:=Addr×Bool×Unit) (λk2=>L.draw<|L.nonnil p0 λa4=>L.load eP6 (a4.add 1) λ(x5:Option Addr)=>L.load eS6 (Ad6 b1 1) λ(x6:B0)=>L.alts [(L.call Pr YO [.pointer x5,.string x6] (.tup [(.agg lf6),eB6]) λ(x7:pt6)=>L.new [.string s_,I 0,.string s_,I 0,I 0,I 0,I 0,I 0] zK λb8=>L.chk (Ad6 b1 1) [.string x6]<|L.chk (a4.add 1) [.pointer x5]<|L.store (⟨b8,0,none⟩) [.string x7.1.1,I x7.1.2.1,.string x7.1.2.2.1,I x7.1.2.2.2.1,I x7.1.2.2.2.2.1,I x7.1.2.2.2.2.2.1,I x7.1.2.2.2.2.2.2.1,I x7.1.2.2.2.2.2.2.2.1]<|k2 (⟨b8,0,none⟩,x7.2.1,())),(L.new [.string s_,I 0,.string s_,I 0,I 0,I 0,I 0,I 0] zK λb9=>L.chk (Ad6 b1 1) [.string x6]<|L.chk (a4.add 1) [.pointer x5]<|L.call Pr YO [.pointer x5,.string x6] (.tup [(.agg lf6),eB6]) λ(x10:pt6)=>L.store (⟨b9,0,none⟩) [.string x10.1.1,I x10.1.2.1,.string x10.1.2.2.1,I x10.1.2.2.2.1,I x10.1.2.2.2.2.1,I x10.1.2.2.2.2.2.1,I x10.1.2.2.2.2.2.2.1,I x10.1.2.2.2.2.2.2.2.1]<|k2 (⟨b9,0,none⟩,x10.2.1,()))]) λz3=>L.ite (!z3.2.1) (L.call Pr yE [I 6] rL λ(x11:Sl)=>K (.slice x11.a x11.len x11.cap))<|L.draw<|L.nonnil p0 λa12=>L.load (.one (.map)) (a12.add 5) λ(x13:Option Nat)=>L.load eS6 (Ad6 b1 1) λ(x14:B0)=>L.semR Pr rP (Instr.lookup Za (.map x13) (.string x14) false) λ(x15:Option Addr)=>L.load eS6 (Ad6 b1 1) λ(x16:B0)=>L.call Pr jh [.pointer p0,.string x16,.func (.func Ys) #[] #[]] rI λ(x17:Int)=>L.nonnil x15 λa18=>L.load eP6 (a18.add 0) λ(x19:Option Addr)=>L.call Pr Jk [.pointer x19,I 6] (.tup [eI6,eI6]) λ(x20:Int×Int×Unit)=>L.nonnil x15 λa21=>L.load eP6 (a21.add 0) λ(x22:Option Addr)=>L.call Pr Jk [.pointer x22,I 2] (.tup [eI6,eI6]) λ(x23:Int×Int×Unit)=>L.draw<|L.nonnil x15 λa24=>L.load (.agg [.int .i64,.int .i64]) (a24.add 1) λ(x25:Int×Int×Unit)=>L.load (.agg lf0) (z3.1.add 2) λ(x26:pt0)=>L.nonnil p0 λa27=>L.load eP6 (a27.add 4) λ(x28:Option Addr)=>L.load eS6 (Ad6 b1 1) λ(x29:B0)=>L.nonnil x15 λa30=>L.load eP6 (a30.add 0) λ(x31:Option Addr)=>L.call Pr xF [.pointer x28,.string x29] rI λ(x32:Int)=>L.chk (a30.add 0) [.pointer x31]<|L.chk (z3.1.add 2) [.string x26.1,I x26.2.1,I x26.2.2.1,I x26.2.2.2.1,I x26.2.2.2.2.1,I x26.2.2.2.2.2.1]<|L.chk (a24.add 1) [I x25.1,I x25.2.1]<|L.call Pr Xm [.pointer x31] rI λ(x33:Int)=>L.chk (z3.1.add 2) [.string x26.1,I x26.2.1,I x26.2.2.1,I x26.2.2.2.1,I x26.2.2.2.2.1,I x26.2.2.2.2.2.1]<|L.chk (a24.add 1) [I x25.1,I x25.2.1]<|L.call Pr uP [.agg #[I x25.1,I x25.2.1],(qa0 x26),I x17,I x32,I x20.1,I x20.2.1,I x23.1,I x23.2.1,I x33] (.one (.agg [.int .i64,.int .i64])) λ(x34:Int×Int×Unit)=>L.nonnil x15 λa35=>L.store (a35.add 1) [I x34.1,I x34.2.1]<|L.join (Y:=Sl×Unit) (λk36=>L.draw<|L.load eS6 (Ad6 b1 1) λ(x38:B0)=>L.nonnil x15 λa39=>L.load eI6 ((a39.add 1).add 0) λ(x40:Int)=>L.alts [(L.new [.string x38] zd λb41=>L.chk ((a39.add 1).add 0) [I x40]<|L.alts [(L.call Pr zG [.string jg,.slice (some ⟨b41,0,none⟩) 1 1] rS λ(x42:B0)=>L.chk ((a39.add 1).add 0) [I x40]<|L.new [I x40] zm λb43=>L.chk (Ad6 b1 1) [.string x38]<|L.call Pr zF [.string x42,.slice (some ⟨b43,0,none⟩) 1 1] rS λ(x44:B0)=>L.new [.string x44] zd λb45=>k36 (⟨some ⟨b45,0,none⟩,1,1⟩,())),(L.new [I x40] zm λb46=>L.chk (Ad6 b1 1) [.string x38]<|L.call Pr zG [.string jg,.slice (some ⟨b41,0,none⟩) 1 1] rS λ(x47:B0)=>L.chk ((a39.add 1).add 0) [I x40]<|L.call Pr zF [.string x47,.slice (some ⟨b46,0,none⟩) 1 1] rS λ(x48:B0)=>L.new [.string x48] zd λb49=>k36 (⟨some ⟨b49,0,none⟩,1,1⟩,()))]),(L.new [I x40] zm λb50=>L.chk (Ad6 b1 1) [.string x38]<|L.new [.string x38] zd λb51=>L.chk ((a39.add 1).add 0) [I x40]<|L.call Pr zG [.string jg,.slice (some ⟨b51,0,none⟩) 1 1] rS λ(x52:B0)=>L.chk ((a39.add 1).add 0) [I x40]<|L.call Pr zF [.string x52,.slice (some ⟨b50,0,none⟩) 1 1] rS λ(x53:B0)=>L.new [.string x53] zd λb54=>k36 (⟨some ⟨b54,0,none⟩,1,1⟩,()))]) λz37=>K (.slice z37.1.a z37.1.len z37.1.cap)
def ki(p0:Option Addr)(p1:ht1)(h:JQ p0 p1 K w):CV yn [.v (.pointer p0),.ag (qc1 p1)] K w:=zE Tryz.f41 kC _ h
def ke:yr Pr yn:=Zb (by kernel_rfl)
def KT:Ann:=(.q2 (.seq (.one [(5,(.one (.adr))),(6,eB6)] .auto) (.q2 (.q2 (.q2 (.seq (.q2 (.one [(9,eL6),(47,eI6)] .auto) none) (.seq (.q2 (.one [(9,eL6),(60,eI6)] .auto) none) .auto none) none) none) none) none) none) none)
def Yp(p0:Option Addr)(p1:ht1)(K:Value→PT):PT:=
  L.new [I p1.1,.string p1.2.1,.string p1.2.2.1,I p1.2.2.2.1,I p1.2.2.2.2.1,.string p1.2.2.2.2.2.1,I p1.2.2.2.2.2.2.1,I p1.2.2.2.2.2.2.2.1,I p1.2.2.2.2.2.2.2.2.1,I p1.2.2.2.2.2.2.2.2.2.1,I p1.2.2.2.2.2.2.2.2.2.2.1,.string p1.2.2.2.2.2.2.2.2.2.2.2.1,.string p1.2.2.2.2.2.2.2.2.2.2.2.2.1,Sv6 p1.2.2.2.2.2.2.2.2.2.2.2.2.2.1,I p1.2.2.2.2.2.2.2.2.2.2.2.2.2.2.1] zT λb1=>L.join (Y:=Addr×Bool×Unit) (λk2=>L.draw<|L.nonnil p0 λa4=>L.load eP6 (a4.add 1) λ(x5:Option Addr)=>L.load eS6 (Ad6 b1 1) λ(x6:B0)=>L.alts [(L.call Pr YO [.pointer x5,.string x6] (.tup [(.agg lf6),eB6]) λ(x7:pt6)=>L.new [.string s_,I 0,.string s_,I 0,I 0,I 0,I 0,I 0] zK λb8=>L.chk (Ad6 b1 1) [.string x6]<|L.chk (a4.add 1) [.pointer x5]<|L.store (⟨b8,0,none⟩) [.string x7.1.1,I x7.1.2.1,.string x7.1.2.2.1,I x7.1.2.2.2.1,I x7.1.2.2.2.2.1,I x7.1.2.2.2.2.2.1,I x7.1.2.2.2.2.2.2.1,I x7.1.2.2.2.2.2.2.2.1]<|k2 (⟨b8,0,none⟩,x7.2.1,())),(L.new [.string s_,I 0,.string s_,I 0,I 0,I 0,I 0,I 0] zK λb9=>L.chk (Ad6 b1 1) [.string x6]<|L.chk (a4.add 1) [.pointer x5]<|L.call Pr YO [.pointer x5,.string x6] (.tup [(.agg lf6),eB6]) λ(x10:pt6)=>L.store (⟨b9,0,none⟩) [.string x10.1.1,I x10.1.2.1,.string x10.1.2.2.1,I x10.1.2.2.2.1,I x10.1.2.2.2.2.1,I x10.1.2.2.2.2.2.1,I x10.1.2.2.2.2.2.2.1,I x10.1.2.2.2.2.2.2.2.1]<|k2 (⟨b9,0,none⟩,x10.2.1,()))]) λz3=>L.ite (!z3.2.1) (L.call Pr yE [I 6] rL λ(x11:Sl)=>K (.slice x11.a x11.len x11.cap))<|L.draw<|L.nonnil p0 λa12=>L.load eP6 (a12.add 3) λ(x13:Option Addr)=>L.load eS6 (Ad6 b1 1) λ(x14:B0)=>L.load eI6 ((z3.1.add 2).add 2) λ(x15:Int)=>L.load eS6 (Ad6 b1 1) λ(x16:B0)=>L.call Pr xi [.pointer p0,.string x16] rI λ(x17:Int)=>L.chk ((z3.1.add 2).add 2) [I x15]<|L.chk (Ad6 b1 1) [.string x14]<|L.chk (a12.add 3) [.pointer x13]<|L.call Pr xP [.pointer x13,.string x14,I x15,I x17] (.tup [eL6,eL6]) λ(x18:Sl×Sl×Unit)=>L.loop (Y:=Sl×Int×Unit) (⟨none,0,0⟩,0,()) λy19 again20=>L.ite (decide (y19.2.1<((x18.1.len:Nat):Int))) (L.idx x18.1.a y19.2.1 x18.1.len 1 λa21=>L.load eI6 a21 λ(x22:Int)=>L.new [I x22] zm λb23=>L.call Pr zF [.string wx,.slice (some ⟨b23,0,none⟩) 1 1] rS λ(x24:B0)=>L.new [.string x24] zd λb25=>L.sem Pr (.one (.one .slice)) (Builtin.append_ #[zp,zp] zp #[Sv6 y19.1,.slice (some ⟨b25,0,none⟩) 1 1]) λ(s26:Sl)=>again20 (⟨s26.a,s26.len,s26.cap⟩,Wi (y19.2.1+1),()))<|L.loop (Y:=Sl×Int×Unit) (⟨y19.1.a,y19.1.len,y19.1.cap⟩,0,()) λy27 again28=>L.ite (decide (y27.2.1<((x18.2.1.len:Nat):Int))) (L.idx x18.2.1.a y27.2.1 x18.2.1.len 1 λa29=>L.load eI6 a29 λ(x30:Int)=>L.new [I x30] zm λb31=>L.call Pr zF [.string wA,.slice (some ⟨b31,0,none⟩) 1 1] rS λ(x32:B0)=>L.new [.string x32] zd λb33=>L.sem Pr (.one (.one .slice)) (Builtin.append_ #[zp,zp] zp #[Sv6 y27.1,.slice (some ⟨b33,0,none⟩) 1 1]) λ(s34:Sl)=>again28 (⟨s34.a,s34.len,s34.cap⟩,Wi (y27.2.1+1),()))<|L.load eS6 (Ad6 b1 1) λ(x35:B0)=>L.call Pr jh [.pointer p0,.string x35,.func (.func YE) #[] #[]] rI λ(x36:Int)=>L.load eS6 (Ad6 b1 1) λ(x37:B0)=>L.new [.string x37] zd λb38=>L.call Pr zG [.string FL,.slice (some ⟨b38,0,none⟩) 1 1] rS λ(x39:B0)=>L.new [I x36] zm λb40=>L.call Pr zF [.string x39,.slice (some ⟨b40,0,none⟩) 1 1] rS λ(x41:B0)=>L.new [.string x41] zd λb42=>L.sem Pr (.one (.one .slice)) (Builtin.append_ #[zp,zp] zp #[Sv6 y27.1,.slice (some ⟨b42,0,none⟩) 1 1]) λ(s43:Sl)=>K (.slice s43.a s43.len s43.cap)
def QF(p0:Option Addr)(p1:ht1)(h:Yp p0 p1 K w):CV yd [.v (.pointer p0),.ag (qc1 p1)] K w:=zE Tryz.f42 KT _ h
def QE:yr Pr yd:=Zb (by kernel_rfl)
def gx:Ann:=(.q2 (.seq (.q2 (.one [(5,eL6)] (.q2 (.seq (.cond .auto .auto) .auto none) none)) none) (.q2 (.q2 .auto (some [(4,eL6)])) none) none) none)
def Uq(p0:Option Addr)(p1:B0)(K:Value→PT):PT:=
  L.nonnil p0 λa1=>L.load (.one (.map)) (a1.add 1) λ(x2:Option Nat)=>L.sem Pr (.one (.one .ptr)) (Instr.range yS (.map x2)) λ(it3:Option Addr)=>L.loop (Y:=Sl×Unit) (⟨none,0,0⟩,()) λy4 again5=>L.next Pr [eI6,(.agg [.str,.int .i64])] (Instr.next (.pointer it3) false T_) (L.call Pr JM [Sv6 y4.1] (.tup []) λ(x7:Unit)=>L.join (Y:=Sl×Unit) (λk8=>L.nonnil p0 λa10=>L.load (.one (.map)) ((a10.add 2).add 0) λ(x11:Option Nat)=>L.semR Pr (.tup [eP6,.one .bool]) (Instr.lookup zW (.map x11) (.string p1) true) λ(x12:Option Addr×Bool×Unit)=>L.ite x12.2.1 (L.call Pr QG [.pointer x12.1] rL λ(x13:Sl)=>k8 (⟨x13.a,x13.len,x13.cap⟩,()))<|k8 (⟨none,0,0⟩,())) λz9=>L.call Pr Zz [Sv6 y4.1] rL λ(x14:Sl)=>K (.tuple #[Sv6 z9.1,Sv6 x14])) λ(x6:pt7)=>L.sem Pr (.tup [eI6,(.agg [.str,.int .i64])]) (Instr.entry (.pointer it3)) λ(x15:pt7)=>L.new [.string s_,I 0] Zm λb16=>L.store (⟨b16,0,none⟩) [.string x15.2.1.1,I x15.2.1.2.1]<|L.load (.agg [.str,.int .i64]) (⟨b16,0,none⟩) λ(x17:B0×Int×Unit)=>L.chkSem Pr (do eqGuard .eql Zm (.tmp 0) (.tmp 0) (.agg #[.string x17.1,I x17.2.1]) (.agg #[.string p1,I 1]);binOp .eql Zm (.agg #[.string x17.1,I x17.2.1]) (.agg #[.string p1,I 1])) (.bool ((x17.1 == p1)&&((x17.2.1 == 1)&&true)))<|L.ite ((x17.1 == p1)&&((x17.2.1 == 1)&&true)) (L.new [I x15.1] zm λb18=>L.sem Pr (.one (.one .slice)) (Builtin.append_ #[Zv,Zv] Zv #[Sv6 y4.1,.slice (some ⟨b18,0,none⟩) 1 1]) λ(s19:Sl)=>again5 (⟨s19.a,s19.len,s19.cap⟩,()))<|again5 (⟨y4.1.a,y4.1.len,y4.1.cap⟩,())
def gk(p0:Option Addr)(p1:B0)(h:Uq p0 p1 K w):CV Xo [.v (.pointer p0),.v (.string p1)] K w:=zE Tryz.f43 gx _ h
def Yu(p0:Sl)(K:Value→PT):PT:=
  L.ite ((p0.a).isNone) (K (.slice none 0 0))<|L.new [] zd λb1=>L.sem Pr (.one (.one .slice)) (Builtin.append_ #[zp,zp] zp #[.slice (some ⟨b1,0,none⟩) 0 0,Sv6 p0]) λ(s2:Sl)=>K (.slice s2.a s2.len s2.cap)
def JG(p0:Sl)(h:Yu p0 K w):CV Zx [.v (.slice p0.a p0.len p0.cap)] K w:=zE Tryz.f45 .auto _ h
def Ol(p0:Sl)(K:Value→PT):PT:=
  L.call Pr kV [Sv6 p0] rL λ(x1:Sl)=>L.call Pr xK [Sv6 x1] (.one (.one (.func))) λ(x2:FV)=>K (.func x2.fn x2.fs x2.cs)
def px(p0:Sl)(h:Ol p0 K w):CV vb [.v (.slice p0.a p0.len p0.cap)] K w:=zE Tryz.f47 .auto _ h
def Fi(p0:B0)(K:Value→PT):PT:=
  L.call Pr Qb [.string p0,I 8] rB λ(x1:Bool)=>K (.bool x1)
def Co(p0:B0)(h:Fi p0 K w):CV jr [.v (.string p0)] K w:=zE Tryz.f52 .auto _ h
def XN(p0:FV)(K:Value→PT):PT:=
  L.sem Pr (.one (.one .map)) (Instr.makeMap zS none) λ(m1:Option Nat)=>L.new [.map m1,.func p0.fn p0.fs p0.cs] Zi λb2=>K (.pointer (some (⟨b2,0,none⟩)))
def vV(p0:FV)(h:XN p0 K w):CV jS [.v (.func p0.fn p0.fs p0.cs)] K w:=zE Tryz.f56 .auto _ h
def Oi(p0 p1:ht0)(K:Value→PT):PT:=
  L.new [.string p0.1,I p0.2.1,I p0.2.2.1,I p0.2.2.2.1,I p0.2.2.2.2.1,I p0.2.2.2.2.2.1] zq λb1=>L.new [.string p1.1,I p1.2.1,I p1.2.2.1,I p1.2.2.2.1,I p1.2.2.2.2.1,I p1.2.2.2.2.2.1] zq λb2=>L.load (.agg lf0) (⟨b1,0,none⟩) λ(x3:pt0)=>L.load (.agg lf0) (⟨b2,0,none⟩) λ(x4:pt0)=>L.chkSem Pr (do eqGuard .eql zq (.tmp 0) (.tmp 0) ((qa0 x3)) ((qa0 x4));binOp .eql zq ((qa0 x3)) ((qa0 x4))) (.bool ((x3.1 == x4.1)&&((x3.2.1 == x4.2.1)&&((x3.2.2.1 == x4.2.2.1)&&((x3.2.2.2.1 == x4.2.2.2.1)&&((x3.2.2.2.2.1 == x4.2.2.2.2.1)&&((x3.2.2.2.2.2.1 == x4.2.2.2.2.2.1)&&true)))))))<|K (.bool ((x3.1 == x4.1)&&((x3.2.1 == x4.2.1)&&((x3.2.2.1 == x4.2.2.1)&&((x3.2.2.2.1 == x4.2.2.2.1)&&((x3.2.2.2.2.1 == x4.2.2.2.2.1)&&((x3.2.2.2.2.2.1 == x4.2.2.2.2.2.1)&&true)))))))
def pr(p0 p1:ht0)(h:Oi p0 p1 K w):CV ZJ [.ag (qc0 p0),.ag (qc0 p1)] K w:=zE Tryz.f57 .auto _ h
def pj:yr Pr ZJ:=Zb (by kernel_rfl)
def ql(p0:FV)(K:Value→PT):PT:=
  L.sem Pr (.one (.one .map)) (Instr.makeMap Xt none) λ(m1:Option Nat)=>L.new [.map m1,.func p0.fn p0.fs p0.cs] Jr λb2=>K (.pointer (some (⟨b2,0,none⟩)))
def VE(p0:FV)(h:ql p0 K w):CV Jh [.v (.func p0.fn p0.fs p0.cs)] K w:=zE Tryz.f58 .auto _ h
def Gt(c0:Addr)(K:Value→PT):PT:=
  L.load eI6 c0 λ(x1:Int)=>L.call Pr OL [I x1] rP λ(x2:Option Addr)=>K (.pointer x2)
def Tu(c0:Addr)(h:Gt c0 K w):CV uj [.v (.pointer (some c0))] K w:=zE Tryz.f60 .auto _ h
def Tk:yr Pr uj:=Zb (by kernel_rfl)
def MD(p0:Int)(K:Value→PT):PT:=
  L.new [.slice none 0 0,I p0] UO λb1=>K (.pointer (some (⟨b1,0,none⟩)))
def Dc(p0:Int)(h:MD p0 K w):CV OL [.v (.int .i64 p0)] K w:=zE Tryz.f61 .auto _ h
def pN:Ann:=(.q2 (.seq (.q2 (.q2 (.cond .auto (.q2 (.cond .auto (.q2 (.cond .auto (.q2 (.cond .auto (.q2 (.cond .auto (.q2 (.cond .auto (.q2 .auto (some [(26,eB6)]))) none)) (some [(17,eB6)]))) none)) none)) none)) none) none) .auto none) none)
def Oo(p0:Int)(K:Value→PT):PT:=
  L.new [.bool false,.bool false,.bool false,.bool false,.bool false,.bool false] Qt λb1=>L.ite (p0 == 1) (L.store (⟨b1,0,none⟩) [.bool true,.bool false,.bool false,.bool false,.bool true,.bool false]<|L.load (.agg lf5) (⟨b1,0,none⟩) λ(x2:pt8)=>K (.tuple #[(qa2 x2),.bool true]))<|L.ite (p0 == 2) (L.store (⟨b1,0,none⟩) [.bool true,.bool false,.bool false,.bool false,.bool false,.bool true]<|L.load (.agg lf5) (⟨b1,0,none⟩) λ(x3:pt8)=>K (.tuple #[(qa2 x3),.bool true]))<|L.ite (p0 == 3) (L.store (⟨b1,0,none⟩) [.bool true,.bool true,.bool false,.bool true,.bool false,.bool false]<|L.load (.agg lf5) (⟨b1,0,none⟩) λ(x4:pt8)=>K (.tuple #[(qa2 x4),.bool true]))<|L.ite (p0 == 4) (L.store (⟨b1,0,none⟩) [.bool true,.bool true,.bool true,.bool true,.bool false,.bool false]<|L.load (.agg lf5) (⟨b1,0,none⟩) λ(x5:pt8)=>K (.tuple #[(qa2 x5),.bool true]))<|L.join (Y:=Bool×Unit) (λk6=>L.ite (p0 == 5) (k6 (p0 == 5,()))<|L.ite (p0 == 6) (k6 (p0 == 6,()))<|L.ite (p0 == 7) (k6 (p0 == 7,()))<|k6 (p0 == 8,())) λz7=>L.ite z7.1 (L.store (⟨b1,0,none⟩) [.bool true,.bool false,.bool false,.bool false,.bool false,.bool false]<|L.load (.agg lf5) (⟨b1,0,none⟩) λ(x8:pt8)=>K (.tuple #[(qa2 x8),.bool true]))<|L.ite (p0 == 9) (L.store (⟨b1,0,none⟩) [.bool false,.bool false,.bool false,.bool false,.bool false,.bool false]<|L.load (.agg lf5) (⟨b1,0,none⟩) λ(x9:pt8)=>K (.tuple #[(qa2 x9),.bool true]))<|L.join (Y:=Bool×Unit) (λk10=>L.ite (p0 == 10) (k10 (p0 == 10,()))<|L.ite (p0 == 11) (k10 (p0 == 11,()))<|L.ite (p0 == 12) (k10 (p0 == 12,()))<|k10 (p0 == 13,())) λz11=>L.ite z11.1 (L.store (⟨b1,0,none⟩) [.bool false,.bool true,.bool false,.bool false,.bool false,.bool false]<|L.load (.agg lf5) (⟨b1,0,none⟩) λ(x12:pt8)=>K (.tuple #[(qa2 x12),.bool true]))<|L.store (⟨b1,0,none⟩) [.bool false,.bool false,.bool false,.bool false,.bool false,.bool false]<|L.load (.agg lf5) (⟨b1,0,none⟩) λ(x13:pt8)=>K (.tuple #[(qa2 x13),.bool false])
def pC(p0:Int)(h:Oo p0 K w):CV Qc [.v (.int .i64 p0)] K w:=zE Tryz.f62 pN _ h
def vQ(p0:Bool)(p1:Int)(K:Value→PT):PT:=
  L.ite p0 (K (.bool true))<|K (.bool (p1 == 0))
def fI(p0:Bool)(p1:Int)(h:vQ p0 p1 K w):CV xG [.v (.bool p0),.v (.int .i64 p1)] K w:=zE Tryz.f63 .auto _ h
def uc(p0:Bool)(p1:B0)(K:Value→PT):PT:=
  L.ite p0 (K (.bool true))<|K (.bool (p1.toList == s_.toList))
def oK(p0:Bool)(p1:B0)(h:uc p0 p1 K w):CV jM [.v (.bool p0),.v (.string p1)] K w:=zE Tryz.f64 .auto _ h
def XQ(p0:Bool)(p1:ht0)(K:Value→PT):PT:=
  L.new [.string p1.1,I p1.2.1,I p1.2.2.1,I p1.2.2.2.1,I p1.2.2.2.2.1,I p1.2.2.2.2.2.1] zq λb1=>L.new [.string s_,I 0,I 0,I 0,I 0,I 0] zq λb2=>L.ite p0 (K (.bool true))<|L.load (.agg lf0) (⟨b1,0,none⟩) λ(x3:pt0)=>L.load (.agg lf0) (⟨b2,0,none⟩) λ(x4:pt0)=>L.chkSem Pr (do eqGuard .eql zq (.tmp 0) (.tmp 0) ((qa0 x3)) ((qa0 x4));binOp .eql zq ((qa0 x3)) ((qa0 x4))) (.bool ((x3.1 == x4.1)&&((x3.2.1 == x4.2.1)&&((x3.2.2.1 == x4.2.2.1)&&((x3.2.2.2.1 == x4.2.2.2.1)&&((x3.2.2.2.2.1 == x4.2.2.2.2.1)&&((x3.2.2.2.2.2.1 == x4.2.2.2.2.2.1)&&true)))))))<|K (.bool ((x3.1 == x4.1)&&((x3.2.1 == x4.2.1)&&((x3.2.2.1 == x4.2.2.1)&&((x3.2.2.2.1 == x4.2.2.2.1)&&((x3.2.2.2.2.1 == x4.2.2.2.2.1)&&((x3.2.2.2.2.2.1 == x4.2.2.2.2.2.1)&&true)))))))
def vY(p0:Bool)(p1:ht0)(h:XQ p0 p1 K w):CV jV [.v (.bool p0),.ag (qc0 p1)] K w:=zE Tryz.f65 .auto _ h
def Gu(p0:ht2)(K:Value→PT):PT:=
  L.new [.string p0.1,.string p0.2.1,Sv6 p0.2.2.1,I p0.2.2.2.1] ZZ λb1=>L.load eS6 (Ad6 b1 0) λ(x2:B0)=>L.ite (x2.toList == s_.toList) (L.load eS6 (Ad6 b1 1) λ(x3:B0)=>L.ite (x3.toList == s_.toList) (L.load eI6 (Ad6 b1 3) λ(x4:Int)=>L.ite (x4 == 0) (L.load eL6 (Ad6 b1 2) λ(x5:Sl)=>K (.bool (((x5.len:Nat):Int) == 0)))<|K (.bool false))<|K (.bool false))<|K (.bool false)
def Tv(p0:ht2)(h:Gu p0 K w):CV Vq [.ag (qc2 p0)] K w:=zE Tryz.f66 .auto _ h
def MW:Ann:=(.q2 (.seq (.q2 (.q2 .auto (some [(5,eB6)])) none) .auto none) none)
def KC(p0:ht1)(K:Value→PT):PT:=
  L.new [I p0.1,.string p0.2.1,.string p0.2.2.1,I p0.2.2.2.1,I p0.2.2.2.2.1,.string p0.2.2.2.2.2.1,I p0.2.2.2.2.2.2.1,I p0.2.2.2.2.2.2.2.1,I p0.2.2.2.2.2.2.2.2.1,I p0.2.2.2.2.2.2.2.2.2.1,I p0.2.2.2.2.2.2.2.2.2.2.1,.string p0.2.2.2.2.2.2.2.2.2.2.2.1,.string p0.2.2.2.2.2.2.2.2.2.2.2.2.1,Sv6 p0.2.2.2.2.2.2.2.2.2.2.2.2.2.1,I p0.2.2.2.2.2.2.2.2.2.2.2.2.2.2.1] zT λb1=>L.load eI6 (Ad6 b1 0) λ(x2:Int)=>L.join (Y:=Bool×Unit) (λk3=>L.ite (x2 == 1) (k3 (x2 == 1,()))<|k3 (x2 == 2,())) λz4=>L.ite z4.1 (L.load eI6 (Ad6 b1 3) λ(x5:Int)=>L.call Pr Zg [I x5,I 0,I 2147483647] rB λ(x6:Bool)=>K (.bool x6))<|L.ite (x2 == 3) (L.load eI6 (Ad6 b1 3) λ(x7:Int)=>L.call Pr Zg [I x7,I 1,I 2] rB λ(x8:Bool)=>K (.bool x8))<|L.load eI6 (Ad6 b1 3) λ(x9:Int)=>L.call Pr Zg [I x9,I 1,I 2147483647] rB λ(x10:Bool)=>K (.bool x10)
def MU(p0:ht1)(h:KC p0 K w):CV uR [.ag (qc1 p0)] K w:=zE Tryz.f67 MW _ h
def Oq(p0:ht1)(K:Value→PT):PT:=
  L.new [I p0.1,.string p0.2.1,.string p0.2.2.1,I p0.2.2.2.1,I p0.2.2.2.2.1,.string p0.2.2.2.2.2.1,I p0.2.2.2.2.2.2.1,I p0.2.2.2.2.2.2.2.1,I p0.2.2.2.2.2.2.2.2.1,I p0.2.2.2.2.2.2.2.2.2.1,I p0.2.2.2.2.2.2.2.2.2.2.1,.string p0.2.2.2.2.2.2.2.2.2.2.2.1,.string p0.2.2.2.2.2.2.2.2.2.2.2.2.1,Sv6 p0.2.2.2.2.2.2.2.2.2.2.2.2.2.1,I p0.2.2.2.2.2.2.2.2.2.2.2.2.2.2.1] zT λb1=>L.load eI6 (Ad6 b1 0) λ(x2:Int)=>L.ite (x2 == 12) (L.load eS6 (Ad6 b1 1) λ(x3:B0)=>L.call Pr xT [.string x3] (.tup [eS6,eI6,eB6]) λ(x4:B0×Int×Bool×Unit)=>K (.bool x4.2.2.1))<|L.load eI6 (Ad6 b1 0) λ(x5:Int)=>L.ite (x5 == 13) (L.load eS6 (Ad6 b1 1) λ(x6:B0)=>L.call Pr xT [.string x6] (.tup [eS6,eI6,eB6]) λ(x7:B0×Int×Bool×Unit)=>K (.bool x7.2.2.1))<|L.load eS6 (Ad6 b1 1) λ(x8:B0)=>L.call Pr Jj [.string x8] rB λ(x9:Bool)=>K (.bool x9)
def pD(p0:ht1)(h:Oq p0 K w):CV Qd [.ag (qc1 p0)] K w:=zE Tryz.f68 .auto _ h
def KA(p0 p1 p2:Int)(K:Value→PT):PT:=
  L.ite (decide (p0≥p1)) (K (.bool (decide (p0≤p2))))<|K (.bool false)
def MS(p0 p1 p2:Int)(h:KA p0 p1 p2 K w):CV Zg [.v (.int .i64 p0),.v (.int .i64 p1),.v (.int .i64 p2)] K w:=zE Tryz.f69 .auto _ h
def pK:Ann:=(.q2 (.seq (.q2 (.cond .auto (.q2 .auto (some [(8,eB6)]))) none) .auto none) none)
def Oh(p0:ht0)(K:Value→PT):PT:=
  L.new [.string p0.1,I p0.2.1,I p0.2.2.1,I p0.2.2.2.1,I p0.2.2.2.2.1,I p0.2.2.2.2.2.1] zq λb1=>L.load eS6 (Ad6 b1 0) λ(x2:B0)=>L.call Pr Jj [.string x2] rB λ(x3:Bool)=>L.ite (!x3) (K (I 1))<|L.join (Y:=Bool×Unit) (λk4=>L.load eI6 (Ad6 b1 1) λ(x6:Int)=>L.call Pr ZG [.agg #[I 0,I 255],I x6] rB λ(x7:Bool)=>L.ite (!x7) (k4 (!x7,()))<|L.load eI6 (Ad6 b1 2) λ(x8:Int)=>L.call Pr ZG [.agg #[I 1,I 8],I x8] rB λ(x9:Bool)=>L.ite (!x9) (k4 (!x9,()))<|L.load eI6 (Ad6 b1 4) λ(x10:Int)=>L.call Pr ZG [.agg #[I 1,I 10],I x10] rB λ(x11:Bool)=>L.ite (!x11) (k4 (!x11,()))<|L.load eI6 (Ad6 b1 4) λ(x12:Int)=>L.load eI6 (Ad6 b1 3) λ(x13:Int)=>L.call Pr ZG [.agg #[I 0,I x12],I x13] rB λ(x14:Bool)=>L.ite (!x14) (k4 (!x14,()))<|L.load eI6 (Ad6 b1 5) λ(x15:Int)=>L.call Pr ZG [.agg #[I 0,I 30],I x15] rB λ(x16:Bool)=>k4 (!x16,())) λz5=>L.ite z5.1 (K (I 2))<|K (I 0)
def pq(p0:ht0)(h:Oh p0 K w):CV zH [.ag (qc0 p0)] K w:=zE Tryz.f70 pK _ h
def Tx:Ann:=(.q2 (.seq (.q2 .auto (some [(6,eB6)])) (.seq (.q2 (.one [(31,eI6)] .auto) none) .auto none) none) none)
def Gp(p0:ht2)(K:Value→PT):PT:=
  L.new [.string p0.1,.string p0.2.1,Sv6 p0.2.2.1,I p0.2.2.2.1] ZZ λb1=>L.join (Y:=Bool×Unit) (λk2=>L.load eS6 (Ad6 b1 0) λ(x4:B0)=>L.call Pr Jj [.string x4] rB λ(x5:Bool)=>L.ite (!x5) (k2 (!x5,()))<|L.load eS6 (Ad6 b1 1) λ(x6:B0)=>L.call Pr Jj [.string x6] rB λ(x7:Bool)=>k2 (!x7,())) λz3=>L.ite z3.1 (K (I 1))<|L.load eI6 (Ad6 b1 3) λ(x8:Int)=>L.call Pr ZG [.agg #[I 0,I 60],I x8] rB λ(x9:Bool)=>L.ite (!x9) (K (I 2))<|L.load eL6 (Ad6 b1 2) λ(x10:Sl)=>L.call Pr ZG [.agg #[I 1,I 6],I ((x10.len:Nat):Int)] rB λ(x11:Bool)=>L.ite (!x11) (K (I 3))<|L.load eL6 (Ad6 b1 2) λ(x12:Sl)=>L.loop (Y:=Int×Unit) (0,()) λy13 again14=>L.ite (decide (y13.1<((x12.len:Nat):Int))) (L.idx x12.a y13.1 x12.len 3 λa15=>L.load (.agg [.str,.str,.int .i64]) a15 λ(x16:pt9)=>L.new [.string s_,.string s_,I 0] zU λb17=>L.store (⟨b17,0,none⟩) [.string x16.1,.string x16.2.1,I x16.2.2.1]<|L.load (.agg [.str,.str,.int .i64]) (⟨b17,0,none⟩) λ(x18:pt9)=>L.call Pr UY [.agg #[.string x18.1,.string x18.2.1,I x18.2.2.1]] rI λ(x19:Int)=>L.ite (x19 != 0) (K (I x19))<|again14 (Wi (y13.1+1),()))<|L.load eL6 (Ad6 b1 2) λ(x20:Sl)=>L.call Pr OM [Sv6 x20] rI λ(x21:Int)=>K (I x21)
def Tp(p0:ht2)(h:Gp p0 K w):CV zM [.ag (qc2 p0)] K w:=zE Tryz.f71 Tx _ h
def Fm(p0:Int)(K:Value→PT):PT:=
  L.ite (p0 == 0) (K (.string aO))<|L.ite (p0 == 1) (K (.string wv))<|L.ite (p0 == 2) (K (.string Rn))<|L.ite (p0 == 3) (K (.string wy))<|L.ite (p0 == 4) (K (.string Rl))<|L.ite (p0 == 5) (K (.string gF))<|L.ite (p0 == 6) (K (.string wu))<|K (.string FM)
def Cs(p0:Int)(h:Fm p0 K w):CV fT [.v (.int .i64 p0)] K w:=zE Tryz.f74 .auto _ h
def ML(p0:Int)(K:Value→PT):PT:=
  L.ite (p0 == 7) (K (.string DE))<|L.ite (p0 == 8) (K (.string wB))<|L.ite (p0 == 9) (K (.string DD))<|L.ite (p0 == 10) (K (.string Rm))<|L.ite (p0 == 11) (K (.string ww))<|L.ite (p0 == 12) (K (.string wz))<|K (.string FM)
def Dj(p0:Int)(h:ML p0 K w):CV mQ [.v (.int .i64 p0)] K w:=zE Tryz.f75 .auto _ h
def Va:Ann:=(.q2 (.q2 (.q2 .auto (some [(8,eI6)])) none) none)
def XO(p0:Option Addr)(p1:ht0)(p2:Int)(K:Value→PT):PT:=
  L.new [.string p1.1,I p1.2.1,I p1.2.2.1,I p1.2.2.2.1,I p1.2.2.2.2.1,I p1.2.2.2.2.2.1] zq λb1=>L.load (.agg lf0) (⟨b1,0,none⟩) λ(x2:pt0)=>L.call Pr zH [(qa0 x2)] rI λ(x3:Int)=>L.join (Y:=Int×Unit) (λk4=>L.ite (x3 == 0) (L.draw<|L.nonnil p0 λa6=>L.load eP6 (a6.add 0) λ(x7:Option Addr)=>L.load eS6 (Ad6 b1 0) λ(x8:B0)=>L.call Pr YG [.pointer x7,.string x8,I p2,.bool true] rI λ(x9:Int)=>k4 (x9,()))<|k4 (x3,())) λz5=>L.ite (z5.1 != 0) (K (.tuple #[I 0,I z5.1]))<|L.nonnil p0 λa10=>L.load eI6 (a10.add 2) λ(x11:Int)=>L.nonnil p0 λa12=>L.store (a12.add 2) [I (Wi (x11+1))]<|L.draw<|L.nonnil p0 λa13=>L.load eP6 (a13.add 0) λ(x14:Option Addr)=>L.load eS6 (Ad6 b1 0) λ(x15:B0)=>L.load (.agg lf0) (⟨b1,0,none⟩) λ(x16:pt0)=>L.nonnil p0 λa17=>L.load eI6 (a17.add 2) λ(x18:Int)=>L.call Pr YF [.pointer x14,.string x15,(qa0 x16),I x18] (.tup []) λ(x19:Unit)=>L.nonnil p0 λa20=>L.load eI6 (a20.add 2) λ(x21:Int)=>K (.tuple #[I x21,I 0])
def vW(p0:Option Addr)(p1:ht0)(p2:Int)(h:XO p0 p1 p2 K w):CV jT [.v (.pointer p0),.ag (qc0 p1),.v (.int .i64 p2)] K w:=zE Tryz.f76 Va _ h
def Gl(p0 p1:B0)(p2 p3:Int)(K:Value→PT):PT:=
  L.ite (p3 != 0) (L.call Pr yE [I p3] rL λ(x1:Sl)=>K (.slice x1.a x1.len x1.cap))<|L.new [.string p1] zd λb2=>L.call Pr zG [.string p0,.slice (some ⟨b2,0,none⟩) 1 1] rS λ(x3:B0)=>L.new [I p2] zm λb4=>L.call Pr zF [.string x3,.slice (some ⟨b4,0,none⟩) 1 1] rS λ(x5:B0)=>L.new [.string x5] zd λb6=>K (.slice (some ⟨b6,0,none⟩) 1 1)
def Tm(p0 p1:B0)(p2 p3:Int)(h:Gl p0 p1 p2 p3 K w):CV Vn [.v (.string p0),.v (.string p1),.v (.int .i64 p2),.v (.int .i64 p3)] K w:=zE Tryz.f77 .auto _ h
def vF(p0:Int)(K:Value→PT):PT:=
  L.call Pr js [I p0] rS λ(x1:B0)=>L.new [.string x1] zd λb2=>L.call Pr zG [.string XA,.slice (some ⟨b2,0,none⟩) 1 1] rS λ(x3:B0)=>L.new [.string x3] zd λb4=>K (.slice (some ⟨b4,0,none⟩) 1 1)
def ft(p0:Int)(h:vF p0 K w):CV yE [.v (.int .i64 p0)] K w:=zE Tryz.f80 .auto _ h
def qx(p0:Option Addr)(p1:ht1)(K:Value→PT):PT:=
  L.new [I p1.1,.string p1.2.1,.string p1.2.2.1,I p1.2.2.2.1,I p1.2.2.2.2.1,.string p1.2.2.2.2.2.1,I p1.2.2.2.2.2.2.1,I p1.2.2.2.2.2.2.2.1,I p1.2.2.2.2.2.2.2.2.1,I p1.2.2.2.2.2.2.2.2.2.1,I p1.2.2.2.2.2.2.2.2.2.2.1,.string p1.2.2.2.2.2.2.2.2.2.2.2.1,.string p1.2.2.2.2.2.2.2.2.2.2.2.2.1,Sv6 p1.2.2.2.2.2.2.2.2.2.2.2.2.2.1,I p1.2.2.2.2.2.2.2.2.2.2.2.2.2.2.1] zT λb1=>L.load eS6 (Ad6 b1 1) λ(x2:B0)=>L.call Pr qt [.pointer p0,.string x2] (.tup [(.agg [.slice,.slice]),eB6]) λ(x3:(Sl×Sl×Unit)×Bool×Unit)=>L.new [.slice none 0 0,.slice none 0 0] yZ λb4=>L.store (⟨b4,0,none⟩) [Sv6 x3.1.1,Sv6 x3.1.2.1]<|L.ite (!x3.2.1) (K (.string s_))<|L.load eS6 (Ad6 b1 2) λ(x5:B0)=>L.ite (x5.toList == s_.toList) (L.load (.agg [.slice,.slice]) (⟨b4,0,none⟩) λ(x6:Sl×Sl×Unit)=>L.load eI6 (Ad6 b1 4) λ(x7:Int)=>L.call Pr Vm [.agg #[Sv6 x6.1,Sv6 x6.2.1],I x7] rS λ(x8:B0)=>K (.string x8))<|L.load (.agg [.slice,.slice]) (⟨b4,0,none⟩) λ(x9:Sl×Sl×Unit)=>L.load eS6 (Ad6 b1 2) λ(x10:B0)=>L.call Pr UW [.agg #[Sv6 x9.1,Sv6 x9.2.1],.string x10] (.tup [eS6,eB6]) λ(x11:B0×Bool×Unit)=>K (.string x11.1)
def ko(p0:Option Addr)(p1:ht1)(h:qx p0 p1 K w):CV JL [.v (.pointer p0),.ag (qc1 p1)] K w:=zE Tryz.f82 .auto _ h
def gy:Ann:=(.q2 (.q2 (.q2 (.q2 (.q2 .auto (some [])) none) none) none) none)
def Ur(p0:Option Addr)(p1:Int)(p2:B0)(p3:Int)(K:Value→PT):PT:=
  L.call Pr qO [.pointer p0,I p1] rB λ(x1:Bool)=>L.ite x1 (L.call Pr Xn [.string gF] (.one (.agg [.int .i64,.int .i64,.int .i64,.str])) λ(x2:VX)=>L.new [I 0,I 0,I 0,.string s_] zL λb3=>L.store (⟨b3,0,none⟩) [I x2.1,I x2.2.1,I x2.2.2.1,.string x2.2.2.2.1]<|L.store (Ad6 b3 0) [I p1]<|L.load (.agg [.int .i64,.int .i64,.int .i64,.str]) (⟨b3,0,none⟩) λ(x4:VX)=>L.new [I x4.1,I x4.2.1,I x4.2.2.1,.string x4.2.2.2.1] zL λb5=>K (.slice (some ⟨b5,0,none⟩) 1 1))<|L.ite (p2.toList == s_.toList) (L.call Pr Xn [.string Vj] (.one (.agg [.int .i64,.int .i64,.int .i64,.str])) λ(x6:VX)=>L.call Pr yu [.pointer p0,I p1,.string s_,.agg #[I x6.1,I x6.2.1,I x6.2.2.1,.string x6.2.2.2.1]] (.one (.agg [.int .i64,.int .i64,.int .i64,.str])) λ(x7:VX)=>L.new [I x7.1,I x7.2.1,I x7.2.2.1,.string x7.2.2.2.1] zL λb8=>K (.slice (some ⟨b8,0,none⟩) 1 1))<|L.nonnil p0 λa9=>L.call Pr jA [.pointer (some (a9.add 2)),.string p2] rP λ(x10:Option Addr)=>L.join (Y:=Unit) (λk11=>L.call Pr JA [.pointer x10] rI λ(x13:Int)=>L.ite (x13 == 0) (L.call Pr qM [.pointer p0,I p1,.string p2] (.tup [(.agg [.int .i64,.int .i64,.int .i64,.str]),eB6]) λ(x14:AM)=>L.new [I 0,I 0,I 0,.string s_] zL λb15=>L.store (⟨b15,0,none⟩) [I x14.1.1,I x14.1.2.1,I x14.1.2.2.1,.string x14.1.2.2.2.1]<|L.ite x14.2.1 (L.load (.agg [.int .i64,.int .i64,.int .i64,.str]) (⟨b15,0,none⟩) λ(x16:VX)=>L.new [I x16.1,I x16.2.1,I x16.2.2.1,.string x16.2.2.2.1] zL λb17=>K (.slice (some ⟨b17,0,none⟩) 1 1))<|k11 (()))<|k11 (())) λz12=>L.nonnil p0 λa18=>L.load eI6 (a18.add 5) λ(x19:Int)=>L.call Pr xD [.pointer x10,I p1,I (Wi (p3+x19))] rI λ(x20:Int)=>L.ite (x20 != 0) (L.call Pr Xn [.string uK] (.one (.agg [.int .i64,.int .i64,.int .i64,.str])) λ(x21:VX)=>L.call Pr yu [.pointer p0,I p1,.string p2,.agg #[I x21.1,I x21.2.1,I x21.2.2.1,.string x21.2.2.2.1]] (.one (.agg [.int .i64,.int .i64,.int .i64,.str])) λ(x22:VX)=>L.new [I x22.1,I x22.2.1,I x22.2.2.1,.string x22.2.2.2.1] zL λb23=>K (.slice (some ⟨b23,0,none⟩) 1 1))<|L.call Pr yu [.pointer p0,I p1,.string p2,.agg #[I 0,I 2,I 0,.string s_]] (.one (.agg [.int .i64,.int .i64,.int .i64,.str])) λ(x24:VX)=>L.new [I x24.1,I x24.2.1,I x24.2.2.1,.string x24.2.2.2.1] zL λb25=>K (.slice (some ⟨b25,0,none⟩) 1 1)
def gm(p0:Option Addr)(p1:Int)(p2:B0)(p3:Int)(h:Ur p0 p1 p2 p3 K w):CV Xp [.v (.pointer p0),.v (.int .i64 p1),.v (.string p2),.v (.int .i64 p3)] K w:=zE Tryz.f83 gy _ h
def pH:Ann:=(.q2 (.seq (.q2 (.q2 .auto (some [(8,eS6)])) none) .auto none) none)
def Oe(p0 p1:Sl)(K:Value→PT):PT:=
  L.new [Sv6 p1] zp λb1=>L.call Pr kP [Sv6 p0] (.one (.one (.func))) λ(x2:FV)=>L.range Pr none (.func x2.fn x2.fs x2.cs) [eS6] (λl3(y4:B0×Unit) R5=>L.begin Pr l3<|L.load eL6 (⟨b1,0,none⟩) λ(x8:Sl)=>L.new [.string y4.1] zd λb9=>L.sem Pr (.one (.one .slice)) (Builtin.append_ #[zp,zp] zp #[Sv6 x8,.slice (some ⟨b9,0,none⟩) 1 1]) λ(s10:Sl)=>L.store (⟨b1,0,none⟩) [Sv6 s10]<|L.endRound Pr l3 none R5) λd6 j7=>L.jump j7 (L.load eL6 (⟨b1,0,none⟩) λ(x11:Sl)=>L.call Pr Zx [Sv6 x11] rL λ(x12:Sl)=>L.unmark Pr (d6++[])<|K (.slice x12.a x12.len x12.cap)) (L.unmark Pr (d6++[])<|K (.slice none 0 0)) []
def pn(p0 p1:Sl)(h:Oe p0 p1 K w):CV Qa [.v (.slice p0.a p0.len p0.cap),.v (.slice p1.a p1.len p1.cap)] K w:=zE Tryz.f84 pH _ h
def yT(p0:Option Nat)(p1:B0)(K:Value→PT):PT:=
  L.semR Pr (.tup [eP6,.one .bool]) (Instr.lookup Za (.map p0) (.string p1) true) λ(x1:Option Addr×Bool×Unit)=>K (.tuple #[.pointer x1.1,.bool x1.2.1])
def jw(p0:Option Nat)(p1:B0)(h:yT p0 p1 K w):CV yM [.v (.map p0),.v (.string p1)] K w:=zE Tryz.f85 .auto _ h
def GA:Ann:=(.q2 (.q2 (.seq (.q2 (.one [(5,eL6),(14,eI6)] (.q2 (.q2 (.q2 .auto (some [(5,eL6)])) none) none)) none) .auto none) none) none)
def UQ(p0:B0)(p1:Sl)(K:Value→PT):PT:=
  L.new [.string p0] zd λb1=>L.loop (Y:=Sl×Int×Unit) (⟨some ⟨b1,0,none⟩,1,1⟩,0,()) λy2 again3=>L.ite (decide (y2.2.1<((p1.len:Nat):Int))) (L.join (Y:=Sl×Unit) (λk4=>L.idx p1.a y2.2.1 p1.len 1 λa6=>L.load eI6 a6 λ(x7:Int)=>L.semR Pr (.tup [eS6,.one .bool]) (Instr.typeAssert (.iface zm (I x7)) Ko zd true) λ(x8:B0×Bool×Unit)=>L.ite x8.2.1 (L.new [.string x8.1] zd λb9=>L.sem Pr (.one (.one .slice)) (Builtin.append_ #[zp,zp] zp #[Sv6 y2.1,.slice (some ⟨b9,0,none⟩) 1 1]) λ(s10:Sl)=>k4 (⟨s10.a,s10.len,s10.cap⟩,()))<|L.ite true (L.call Pr xj [I x7] rS λ(x11:B0)=>L.new [.string x11] zd λb12=>L.sem Pr (.one (.one .slice)) (Builtin.append_ #[zp,zp] zp #[Sv6 y2.1,.slice (some ⟨b12,0,none⟩) 1 1]) λ(s13:Sl)=>k4 (⟨s13.a,s13.len,s13.cap⟩,()))<|k4 (⟨y2.1.a,y2.1.len,y2.1.cap⟩,())) λz5=>again3 (⟨z5.1.a,z5.1.len,z5.1.cap⟩,Wi (y2.2.1+1),()))<|L.call Pr uN [Sv6 y2.1,.string kL] rS λ(x14:B0)=>K (.string x14)
def Gv(p0:B0)(p1:Sl)(h:UQ p0 p1 K w):CV zF [.v (.string p0),.v (.slice p1.a p1.len p1.cap)] K w:=zE Tryz.f86 GA _ h
def fK:Ann:=(.q2 (.q2 (.seq (.q2 (.q2 (.q2 (.one [(20,eI6)] .auto) none) (some [(14,eS6),(15,eP6)])) none) .auto none) none) none)
def vK(p0:Option Addr)(p1:Int)(K:Value→PT):PT:=
  L.new [.pointer p0] YK λb1=>L.new [I p1] zm λb2=>L.new [.slice none 0 0] zR λb3=>L.load eP6 (⟨b1,0,none⟩) λ(x4:Option Addr)=>L.nonnil x4 λa5=>L.call Pr xl [.pointer (some (a5.add 2))] (.one (.one (.func))) λ(x6:FV)=>L.range Pr none (.func x6.fn x6.fs x6.cs) [eS6,eP6] (λl7(y8:B0×Option Addr×Unit) R9=>L.begin Pr l7<|L.load eI6 (⟨b2,0,none⟩) λ(x12:Int)=>L.call Pr qJ [.pointer y8.2.1,I x12] rL λ(x13:Sl)=>L.loop (Y:=Int×Unit) (0,()) λy14 again15=>L.ite (decide (y14.1<((x13.len:Nat):Int))) (L.idx x13.a y14.1 x13.len 1 λa16=>L.load eI6 a16 λ(x17:Int)=>L.draw<|L.load eL6 (⟨b3,0,none⟩) λ(x18:Sl)=>L.load eP6 (⟨b1,0,none⟩) λ(x19:Option Addr)=>L.call Pr Xn [.string uz] (.one (.agg [.int .i64,.int .i64,.int .i64,.str])) λ(x20:VX)=>L.chk (⟨b1,0,none⟩) [.pointer x19]<|L.chk (⟨b3,0,none⟩) [Sv6 x18]<|L.call Pr yu [.pointer x19,I x17,.string y8.1,.agg #[I x20.1,I x20.2.1,I x20.2.2.1,.string x20.2.2.2.1]] (.one (.agg [.int .i64,.int .i64,.int .i64,.str])) λ(x21:VX)=>L.chk (⟨b3,0,none⟩) [Sv6 x18]<|L.new [I x21.1,I x21.2.1,I x21.2.2.1,.string x21.2.2.2.1] zL λb22=>L.chk (⟨b3,0,none⟩) [Sv6 x18]<|L.sem Pr (.one (.one .slice)) (Builtin.append_ #[zR,zR] zR #[Sv6 x18,.slice (some ⟨b22,0,none⟩) 1 1]) λ(s23:Sl)=>L.store (⟨b3,0,none⟩) [Sv6 s23]<|again15 (Wi (y14.1+1),()))<|L.endRound Pr l7 none R9) λd10 j11=>L.jump j11 (L.load eL6 (⟨b3,0,none⟩) λ(x24:Sl)=>L.call Pr yz [Sv6 x24] rL λ(x25:Sl)=>L.unmark Pr (d10++[])<|K (.slice x25.a x25.len x25.cap)) (L.unmark Pr (d10++[])<|K (.slice none 0 0)) []
def fC(p0:Option Addr)(p1:Int)(h:vK p0 p1 K w):CV qN [.v (.pointer p0),.v (.int .i64 p1)] K w:=zE Tryz.f95 fK _ h
def xL(p0:Option Addr)(K:Value→PT):PT:=
  L.nonnil p0 λa1=>L.load eP6 (a1.add 1) λ(x2:Option Addr)=>L.call Pr qK [.pointer x2] rL λ(x3:Sl)=>K (.slice x3.a x3.len x3.cap)
def UB(p0:Option Addr)(h:xL p0 K w):CV xJ [.v (.pointer p0)] K w:=zE Tryz.f96 .auto _ h
def US(p0:Option Addr)(p1:Int)(K:Value→PT):PT:=
  L.nonnil p0 λa1=>L.call Pr xk [.pointer (some (a1.add 0)),I (if 0>p1 then 0 else p1)] (.tup []) λ(x2:Unit)=>L.nonnil p0 λa3=>L.load eI6 (a3.add 61) λ(x4:Int)=>L.nonnil p0 λa5=>L.store (a5.add 61) [I (Wi (x4+1))]<|L.ite (decide ((if 0>p1 then 0 else p1)>0)) (L.nonnil p0 λa6=>L.store (a6.add 61) [I 0]<|K (.tuple #[]))<|K (.tuple #[])
def Gx(p0:Option Addr)(p1:Int)(h:US p0 p1 K w):CV qd [.v (.pointer p0),.v (.int .i64 p1)] K w:=zE Tryz.f97 .auto _ h
def vM(p0:Option Addr)(p1:B0)(K:Value→PT):PT:=
  L.call Pr Xo [.pointer p0,.string p1] (.tup [eL6,eL6]) λ(x1:Sl×Sl×Unit)=>K (I (Wi (((x1.1.len:Nat):Int)+((x1.2.1.len:Nat):Int))))
def fE(p0:Option Addr)(p1:B0)(h:vM p0 p1 K w):CV xF [.v (.pointer p0),.v (.string p1)] K w:=zE Tryz.f98 .auto _ h
def Qz(p0:Option Addr)(p1:B0)(K:Value→PT):PT:=
  L.new [.string s_,I 0,I 0,I 0,I 0,I 0] zq λb1=>L.nonnil p0 λa2=>L.load eP6 (a2.add 0) λ(x3:Option Addr)=>L.call Pr YH [.pointer x3,.string p1] (.tup [(.agg cF),eB6]) λ(x4:AL)=>L.new [.string s_,I 0,I 0,I 0,I 0,I 0,I 0,I 0,.bool false] zz λb5=>L.store (⟨b5,0,none⟩) [.string x4.1.1,I x4.1.2.1,I x4.1.2.2.1,I x4.1.2.2.2.1,I x4.1.2.2.2.2.1,I x4.1.2.2.2.2.2.1,I x4.1.2.2.2.2.2.2.1,I x4.1.2.2.2.2.2.2.2.1,.bool x4.1.2.2.2.2.2.2.2.2.1]<|L.ite (!x4.2.1) (L.store (⟨b1,0,none⟩) [.string s_,I 0,I 0,I 0,I 0,I 0]<|L.load (.agg lf0) (⟨b1,0,none⟩) λ(x6:pt0)=>K (.tuple #[(qa0 x6),I 0,I 0,.bool false]))<|L.draw<|L.load (.agg lf0) (Ad6 b5 0) λ(x7:pt0)=>L.load eI6 (Ad6 b5 6) λ(x8:Int)=>L.load eI6 (Ad6 b5 7) λ(x9:Int)=>L.store (⟨b1,0,none⟩) [.string x7.1,I x7.2.1,I x7.2.2.1,I x7.2.2.2.1,I x7.2.2.2.2.1,I x7.2.2.2.2.2.1]<|L.chk (Ad6 b5 7) [I x9]<|L.chk (Ad6 b5 6) [I x8]<|L.chk (Ad6 b5 7) [I x9]<|L.load (.agg lf0) (⟨b1,0,none⟩) λ(x10:pt0)=>K (.tuple #[(qa0 x10),I x8,I x9,.bool true])
def KL(p0:Option Addr)(p1:B0)(h:Qz p0 p1 K w):CV jq [.v (.pointer p0),.v (.string p1)] K w:=zE Tryz.f99 .auto _ h
def Ul(p0:Option Addr)(p1:ht0)(p2:Int)(K:Value→PT):PT:=
  L.new [.string p1.1,I p1.2.1,I p1.2.2.1,I p1.2.2.2.1,I p1.2.2.2.2.1,I p1.2.2.2.2.2.1] zq λb1=>L.load eS6 (Ad6 b1 0) λ(x2:B0)=>L.call Pr Qo [.string x2,I p2] rS λ(x3:B0)=>L.ite (x3.toList == s_.toList) (K (.tuple #[.string x3,.bool false]))<|L.nonnil p0 λa4=>L.load (.one (.map)) (a4.add 0) λ(x5:Option Nat)=>L.semR Pr (.one (.agg lf6)) (Instr.lookup zQ (.map x5) (.string x3) false) λ(x6:Lv)=>L.chkSem Pr (do eqGuard .neq zK (.tmp 0) (.tmp 0) ((qa3 x6)) (.agg #[.string s_,I 0,.string s_,I 0,I 0,I 0,I 0,I 0]);binOp .neq zK ((qa3 x6)) (.agg #[.string s_,I 0,.string s_,I 0,I 0,I 0,I 0,I 0])) (.bool (!((x6.1 == s_)&&((x6.2.1 == 0)&&((x6.2.2.1 == s_)&&((x6.2.2.2.1 == 0)&&((x6.2.2.2.2.1 == 0)&&((x6.2.2.2.2.2.1 == 0)&&((x6.2.2.2.2.2.2.1 == 0)&&((x6.2.2.2.2.2.2.2.1 == 0)&&true))))))))))<|L.ite (!((x6.1 == s_)&&((x6.2.1 == 0)&&((x6.2.2.1 == s_)&&((x6.2.2.2.1 == 0)&&((x6.2.2.2.2.1 == 0)&&((x6.2.2.2.2.2.1 == 0)&&((x6.2.2.2.2.2.2.1 == 0)&&((x6.2.2.2.2.2.2.2.1 == 0)&&true))))))))) (K (.tuple #[.string x3,.bool false]))<|L.draw<|L.nonnil p0 λa7=>L.load (.one (.map)) (a7.add 0) λ(x8:Option Nat)=>L.load (.agg lf0) (⟨b1,0,none⟩) λ(x9:pt0)=>L.semU Pr (Instr.mapUpdate zQ (.map x8) (.string x3) (.agg #[.string x3,I p2,.string x9.1,I x9.2.1,I x9.2.2.1,I x9.2.2.2.1,I x9.2.2.2.2.1,I x9.2.2.2.2.2.1]))<|K (.tuple #[.string x3,.bool true])
def gg(p0:Option Addr)(p1:ht0)(p2:Int)(h:Ul p0 p1 p2 K w):CV Xk [.v (.pointer p0),.ag (qc0 p1),.v (.int .i64 p2)] K w:=zE Tryz.f100 .auto _ h
def Fj  (K:Value→PT):PT:=
  L.new [I 0,I 0,I 0,I 0,I 0,I 0,I 0,I 0,I 0,I 0,I 0,I 0,I 0,I 0,I 0,I 0,I 0,I 0,I 0,I 0,I 0,I 0,I 0,I 0,I 0,I 0,I 0,I 0,I 0,I 0,I 0,I 0,I 0,I 0,I 0,I 0,I 0,I 0,I 0,I 0,I 0,I 0,I 0,I 0,I 0,I 0,I 0,I 0,I 0,I 0,I 0,I 0,I 0,I 0,I 0,I 0,I 0,I 0,I 0,I 0,I 0,I 0] jG λb1=>K (.pointer (some (⟨b1,0,none⟩)))
def Cp(h:Fj  K w):CV kT [] K w:=zE Tryz.f101 .auto _ h
def vH(p0:Option Addr)(p1:B0)(K:Value→PT):PT:=
  L.new [.string s_,I 0,.string s_,I 0,I 0,I 0,I 0,I 0] zK λb1=>L.nonnil p0 λa2=>L.load (.one (.map)) (a2.add 0) λ(x3:Option Nat)=>L.semR Pr (.tup [(.agg lf6),.one .bool]) (Instr.lookup zQ (.map x3) (.string p1) true) λ(x4:pt6)=>L.new [.string s_,I 0,.string s_,I 0,I 0,I 0,I 0,I 0] zK λb5=>L.store (⟨b5,0,none⟩) [.string x4.1.1,I x4.1.2.1,.string x4.1.2.2.1,I x4.1.2.2.2.1,I x4.1.2.2.2.2.1,I x4.1.2.2.2.2.2.1,I x4.1.2.2.2.2.2.2.1,I x4.1.2.2.2.2.2.2.2.1]<|L.load (.agg lf6) (⟨b5,0,none⟩) λ(x6:Lv)=>L.store (⟨b1,0,none⟩) [.string x6.1,I x6.2.1,.string x6.2.2.1,I x6.2.2.2.1,I x6.2.2.2.2.1,I x6.2.2.2.2.2.1,I x6.2.2.2.2.2.2.1,I x6.2.2.2.2.2.2.2.1]<|L.load (.agg lf6) (⟨b1,0,none⟩) λ(x7:Lv)=>K (.tuple #[(qa3 x7),.bool x4.2.1])
def fx(p0:Option Addr)(p1:B0)(h:vH p0 p1 K w):CV YO [.v (.pointer p0),.v (.string p1)] K w:=zE Tryz.f106 .auto _ h
def kD:Ann:=(.q2 (.q2 (.seq (.q2 (.one [(7,eI6),(14,eI6)] (.q2 (.q2 (.q2 .auto (some [(7,eI6)])) none) none)) none) .auto none) none) none)
def qw(p0:Option Addr)(p1:B0)(p2:FV)(K:Value→PT):PT:=
  L.call Pr Ql [.pointer p0,.string p1] rL λ(x1:Sl)=>L.loop (Y:=Int×Int×Unit) (0,0,()) λy2 again3=>L.ite (decide (y2.2.1<((x1.len:Nat):Int))) (L.join (Y:=Int×Unit) (λk4=>L.idx x1.a y2.2.1 x1.len 3 λa6=>L.load (.agg [.int .i64,.int .i64,.int .i64]) a6 λ(x7:Int×Int×Int×Unit)=>L.new [I 0,I 0,I 0] Js λb8=>L.store (⟨b8,0,none⟩) [I x7.1,I x7.2.1,I x7.2.2.1]<|L.load eI6 (Ad6 b8 1) λ(x9:Int)=>L.callV Pr (.func p2.fn p2.fs p2.cs) [I x9] rB λ(x10:Bool)=>L.ite x10 (k4 (Wi (y2.1+1),()))<|k4 (y2.1,())) λz5=>again3 (z5.1,Wi (y2.2.1+1),()))<|K (I y2.1)
def kj(p0:Option Addr)(p1:B0)(p2:FV)(h:qw p0 p1 p2 K w):CV jh [.v (.pointer p0),.v (.string p1),.v (.func p2.fn p2.fs p2.cs)] K w:=zE Tryz.f107 kD _ h
def XL(p0:Int)(K:Value→PT):PT:=
  K (.bool (p0 == 2))
def vT(p0:Int)(h:XL p0 K w):CV Ys [.v (.int .i64 p0)] K w:=zE Tryz.f108 .auto _ h
def vR:yr Pr Ys:=Zb (by kernel_rfl)
def gw:Ann:=(.q2 (.seq (.q2 (.q2 .auto (some [(11,eI6)])) none) .auto none) none)
def Uo(p0:Option Addr)(p1:Int)(K:Value→PT):PT:=
  L.new [I p1] zm λb1=>L.new [I 0] zm λb2=>L.new [I 0] zm λb3=>L.nonnil p0 λa4=>L.call Pr JN [.pointer (some (a4.add 0))] (.one (.one (.func))) λ(x5:FV)=>L.range Pr none (.func x5.fn x5.fs x5.cs) [eI6] (λl6(y7:Int×Unit) R8=>L.begin Pr l6<|L.load eI6 (⟨b3,0,none⟩) λ(x11:Int)=>L.load eI6 (⟨b1,0,none⟩) λ(x12:Int)=>L.ite (decide (x11≥x12)) (L.endRound Pr l6 (some (.exit 0)) R8)<|L.load eI6 (⟨b2,0,none⟩) λ(x13:Int)=>L.store (⟨b2,0,none⟩) [I (Wi (x13+y7.1))]<|L.load eI6 (⟨b3,0,none⟩) λ(x14:Int)=>L.store (⟨b3,0,none⟩) [I (Wi (x14+1))]<|L.endRound Pr l6 none R8) λd9 j10=>L.jump j10 (L.draw<|L.load eI6 (⟨b2,0,none⟩) λ(x19:Int)=>L.load eI6 (⟨b3,0,none⟩) λ(x20:Int)=>L.store (⟨b2,0,none⟩) [I x19]<|L.chk (⟨b3,0,none⟩) [I x20]<|L.store (⟨b3,0,none⟩) [I x20]<|L.unmark Pr (d9++[])<|L.load eI6 (⟨b2,0,none⟩) λ(x21:Int)=>L.load eI6 (⟨b3,0,none⟩) λ(x22:Int)=>K (.tuple #[I x21,I x22])) (L.unmark Pr (d9++[])<|L.load eI6 (⟨b2,0,none⟩) λ(x23:Int)=>L.load eI6 (⟨b3,0,none⟩) λ(x24:Int)=>K (.tuple #[I x23,I x24])) [(0,(L.draw<|L.load eI6 (⟨b2,0,none⟩) λ(x15:Int)=>L.load eI6 (⟨b3,0,none⟩) λ(x16:Int)=>L.store (⟨b2,0,none⟩) [I x15]<|L.chk (⟨b3,0,none⟩) [I x16]<|L.store (⟨b3,0,none⟩) [I x16]<|L.unmark Pr (d9++[])<|L.load eI6 (⟨b2,0,none⟩) λ(x17:Int)=>L.load eI6 (⟨b3,0,none⟩) λ(x18:Int)=>K (.tuple #[I x17,I x18])))]
def gi(p0:Option Addr)(p1:Int)(h:Uo p0 p1 K w):CV Jk [.v (.pointer p0),.v (.int .i64 p1)] K w:=zE Tryz.f109 gw _ h
def MV:Ann:=(.q2 (.seq (.one [(19,(.one (.adr)))] .auto) (.q2 (.seq (.one [(21,(.one (.adr)))] .auto) (.q2 (.seq (.q2 (.cond .auto .auto) none) .auto (some [])) (some [])) none) none) none) none)
def Kv(p0:HT [.int .i64,.int .i64])(p1:ht0)(p2 p3 p4 p5 p6 p7 p8:Int)(K:Value→PT):PT:=
  L.new [I p0.1,I p0.2.1] Zp λb1=>L.new [.string p1.1,I p1.2.1,I p1.2.2.1,I p1.2.2.2.1,I p1.2.2.2.2.1,I p1.2.2.2.2.2.1] zq λb2=>L.new [I 0,I 0] Zp λb3=>L.join (Y:=Addr×Unit) (λk4=>L.draw<|L.load eI6 (Ad6 b2 2) λ(x6:Int)=>L.load eI6 (Ad6 b2 2) λ(x7:Int)=>L.alts [(L.call Pr Ji [I p4,I p5,I x6] rI λ(x8:Int)=>L.chk (Ad6 b2 2) [I x7]<|L.alts [(L.call Pr Ji [I p6,I p7,I x7] rI λ(x9:Int)=>L.new [I 0,I 0] UP λb10=>L.chk (Ad6 b2 2) [I x7]<|L.chk (Ad6 b2 2) [I x6]<|L.store (⟨b10,0,none⟩) [I x8,I x9]<|k4 (⟨b10,0,none⟩,())),(L.new [I 0,I 0] UP λb11=>L.chk (Ad6 b2 2) [I x7]<|L.chk (Ad6 b2 2) [I x6]<|L.call Pr Ji [I p6,I p7,I x7] rI λ(x12:Int)=>L.store (⟨b11,0,none⟩) [I x8,I x12]<|k4 (⟨b11,0,none⟩,()))]),(L.new [I 0,I 0] UP λb13=>L.chk (Ad6 b2 2) [I x7]<|L.chk (Ad6 b2 2) [I x6]<|L.call Pr Ji [I p4,I p5,I x6] rI λ(x14:Int)=>L.chk (Ad6 b2 2) [I x7]<|L.call Pr Ji [I p6,I p7,I x7] rI λ(x15:Int)=>L.store (⟨b13,0,none⟩) [I x14,I x15]<|k4 (⟨b13,0,none⟩,()))]) λz5=>L.join (Y:=Addr×Unit) (λk16=>L.draw<|L.idx (some z5.1) 0 2 1 λa18=>L.load eI6 a18 λ(x19:Int)=>L.load (.agg [.int .i64,.int .i64]) (⟨b1,0,none⟩) λ(x20:Int×Int×Unit)=>L.idx (some z5.1) 1 2 1 λa21=>L.load eI6 a21 λ(x22:Int)=>L.alts [(L.call Pr ji [.agg #[I x20.1,I x20.2.1],I x22,I (if p2>1 then p2 else 1)] rI λ(x23:Int)=>L.chk a18 [I x19]<|L.new [I 0,I 0] Zp λb24=>L.chk a21 [I x22]<|L.chk (⟨b1,0,none⟩) [I x20.1,I x20.2.1]<|L.chk a18 [I x19]<|L.store (⟨b24,0,none⟩) [I x19,I x23]<|k16 (⟨b24,0,none⟩,())),(L.new [I 0,I 0] Zp λb25=>L.chk a21 [I x22]<|L.chk (⟨b1,0,none⟩) [I x20.1,I x20.2.1]<|L.chk a18 [I x19]<|L.call Pr ji [.agg #[I x20.1,I x20.2.1],I x22,I (if p2>1 then p2 else 1)] rI λ(x26:Int)=>L.chk a18 [I x19]<|L.store (⟨b25,0,none⟩) [I x19,I x26]<|k16 (⟨b25,0,none⟩,()))]) λz17=>L.join (Y:=Unit) (λk27=>L.load eI6 (z17.1.add 1) λ(x29:Int)=>L.ite (decide (x29>0)) (L.load (.agg [.int .i64,.int .i64]) (⟨b1,0,none⟩) λ(x30:Int×Int×Unit)=>L.load (.agg [.int .i64,.int .i64]) z5.1 λ(x31:Int×Int×Unit)=>L.call Pr Xl [.agg #[I x30.1,I x30.2.1],.agg #[I x31.1,I x31.2.1]] rI λ(x32:Int)=>L.store (z17.1.add 0) [I x32]<|k27 (()))<|k27 (())) λz28=>L.join (Y:=Unit) (λk33=>L.load eI6 (z17.1.add 0) λ(x35:Int)=>L.ite (x35 == 0) (L.ite (decide (p3>0)) (L.store (z17.1.add 0) [I 1]<|k33 (()))<|L.load eI6 (Ad6 b1 0) λ(x36:Int)=>L.ite (decide (x36>0)) (L.load eI6 (Ad6 b2 5) λ(x37:Int)=>L.ite (decide (p8<x37)) (L.store (z17.1.add 0) [I 1]<|k33 (()))<|k33 (()))<|k33 (()))<|k33 (())) λz34=>L.load (.agg lf0) (⟨b2,0,none⟩) λ(x38:pt0)=>L.call Pr uO [(qa0 x38),I p2,I (if p2>1 then p2 else 1)] (.one (.agg [.int .i64,.int .i64,.int .i64,.int .i64])) λ(x39:Int×Int×Int×Int×Unit)=>L.new [I 0,I 0,I 0,I 0] ni λb40=>L.store (⟨b40,0,none⟩) [I x39.1,I x39.2.1,I x39.2.2.1,I x39.2.2.2.1]<|L.load eI6 (z17.1.add 0) λ(x41:Int)=>L.idx (some (⟨b40,0,none⟩)) 0 4 1 λa42=>L.load eI6 a42 λ(x43:Int)=>L.idx (some (⟨b40,0,none⟩)) 1 4 1 λa44=>L.load eI6 a44 λ(x45:Int)=>L.idx (some (⟨b40,0,none⟩)) 2 4 1 λa46=>L.load eI6 a46 λ(x47:Int)=>L.idx (some (⟨b40,0,none⟩)) 3 4 1 λa48=>L.load eI6 a48 λ(x49:Int)=>L.store (z17.1.add 0) [I (if x49<(if x47>(if x45>(if x43<x41 then x43 else x41)then x45 else(if x43<x41 then x43 else x41))then x47 else(if x45>(if x43<x41 then x43 else x41)then x45 else(if x43<x41 then x43 else x41)))then x49 else(if x47>(if x45>(if x43<x41 then x43 else x41)then x45 else(if x43<x41 then x43 else x41))then x47 else(if x45>(if x43<x41 then x43 else x41)then x45 else(if x43<x41 then x43 else x41))))]<|L.load (.agg [.int .i64,.int .i64]) z17.1 λ(x50:Int×Int×Unit)=>L.store (⟨b3,0,none⟩) [I x50.1,I x50.2.1]<|L.load (.agg [.int .i64,.int .i64]) (⟨b3,0,none⟩) λ(x51:Int×Int×Unit)=>K (.agg #[I x51.1,I x51.2.1])
def MP(p0:HT [.int .i64,.int .i64])(p1:ht0)(p2 p3 p4 p5 p6 p7 p8:Int)(h:Kv p0 p1 p2 p3 p4 p5 p6 p7 p8 K w):CV uP [.ag [.int .i64 p0.1,.int .i64 p0.2.1],.ag (qc0 p1),.v (.int .i64 p2),.v (.int .i64 p3),.v (.int .i64 p4),.v (.int .i64 p5),.v (.int .i64 p6),.v (.int .i64 p7),.v (.int .i64 p8)] K w:=zE Tryz.f110 MV _ h
def Up(p0:Option Addr)(K:Value→PT):PT:=
  L.nonnil p0 λa1=>L.load eI6 (a1.add 61) λ(x2:Int)=>K (I x2)
def gj(p0:Option Addr)(h:Up p0 K w):CV Xm [.v (.pointer p0)] K w:=zE Tryz.f111 .auto _ h
def oO:Ann:=(.q2 (.q2 (.seq (.one [(8,eL6),(10,eI6)] (.seq (.q2 (.cond .auto .auto) none) .auto none)) (.seq (.one [(9,eL6),(10,eI6)] .auto) .auto none) (some [(8,eL6),(10,eI6)])) none) none)
def QZ(p0:Option Addr)(p1:B0)(p2 p3:Int)(K:Value→PT):PT:=
  L.call Pr qP [.pointer p0,.string p1] rI λ(x1:Int)=>L.join (Y:=Sl×Int×Unit) (λk2=>L.loop (Y:=Sl×Int×Unit) (⟨none,0,0⟩,x1,()) λy4 again5=>L.draw<|L.ite (decide (y4.2.1<p3)) (L.nonnil p0 λa6=>L.load (.one (.map)) (a6.add 0) λ(x7:Option Nat)=>L.semR Pr rI (Builtin.len_ #[Ze] zm #[.map x7]) λ(x8:Int)=>L.nonnil p0 λa9=>L.load eI6 (a9.add 2) λ(x10:Int)=>L.ite (decide (x8<x10)) (L.nonnil p0 λa11=>L.load eI6 (a11.add 3) λ(x12:Int)=>L.nonnil p0 λa13=>L.store (a13.add 3) [I (Wi (x12+1))]<|L.draw<|L.nonnil p0 λa14=>L.load (.one (.map)) (a14.add 0) λ(x15:Option Nat)=>L.nonnil p0 λa16=>L.load eI6 (a16.add 3) λ(x17:Int)=>L.call Pr GP [I p2] rP λ(x18:Option Addr)=>L.chk (a16.add 3) [I x17]<|L.chk (a14.add 0) [.map x15]<|L.semU Pr (Instr.mapUpdate Ze (.map x15) (I x17) (.agg #[.string p1,.pointer x18]))<|L.nonnil p0 λa19=>L.load eI6 (a19.add 3) λ(x20:Int)=>L.new [I x20] zm λb21=>L.sem Pr (.one (.one .slice)) (Builtin.append_ #[Zv,Zv] Zv #[Sv6 y4.1,.slice (some ⟨b21,0,none⟩) 1 1]) λ(s22:Sl)=>again5 (⟨s22.a,s22.len,s22.cap⟩,Wi (y4.2.1+1),()))<|k2 (⟨y4.1.a,y4.1.len,y4.1.cap⟩,y4.2.1,()))<|k2 (⟨y4.1.a,y4.1.len,y4.1.cap⟩,y4.2.1,())) λz3=>L.loop (Y:=Sl×Int×Unit) (⟨none,0,0⟩,z3.2.1,()) λy23 again24=>L.ite (decide (y23.2.1>(if 0>p3 then 0 else p3))) (L.call Pr xO [.pointer p0,.string p1] rI λ(x25:Int)=>L.nonnil p0 λa26=>L.load (.one (.map)) (a26.add 0) λ(x27:Option Nat)=>L.semR Pr (.one (.agg [.str,.ptr])) (Instr.lookup Ze (.map x27) (I x25) false) λ(x28:B0×Option Addr×Unit)=>L.call Pr QH [.pointer x28.2.1] rI λ(x29:Int)=>L.call Pr qe [.pointer p0,I x25] (.tup []) λ(x30:Unit)=>L.new [I x25] zm λb31=>L.sem Pr (.one (.one .slice)) (Builtin.append_ #[Zv,Zv] Zv #[Sv6 y23.1,.slice (some ⟨b31,0,none⟩) 1 1]) λ(s32:Sl)=>again24 (⟨s32.a,s32.len,s32.cap⟩,Wi (y23.2.1-1),()))<|L.call Pr Zz [Sv6 z3.1] rL λ(x33:Sl)=>L.call Pr Zz [Sv6 y23.1] rL λ(x34:Sl)=>K (.tuple #[Sv6 x33,Sv6 x34])
def oH(p0:Option Addr)(p1:B0)(p2 p3:Int)(h:QZ p0 p1 p2 p3 K w):CV xP [.v (.pointer p0),.v (.string p1),.v (.int .i64 p2),.v (.int .i64 p3)] K w:=zE Tryz.f112 oO _ h
def Qw(p0:Option Addr)(p1:B0)(K:Value→PT):PT:=
  L.nonnil p0 λa1=>L.load (.one (.map)) (a1.add 5) λ(x2:Option Nat)=>L.call Pr yM [.map x2,.string p1] (.tup [eP6,eB6]) λ(x3:Option Addr×Bool×Unit)=>L.ite x3.2.1 (L.nonnil x3.1 λa4=>L.load eI6 ((a4.add 1).add 0) λ(x5:Int)=>K (I x5))<|K (I 0)
def KH(p0:Option Addr)(p1:B0)(h:Qw p0 p1 K w):CV xi [.v (.pointer p0),.v (.string p1)] K w:=zE Tryz.f113 .auto _ h
def qj(p0:Int)(K:Value→PT):PT:=
  K (.bool (p0 != 3))
def VA(p0:Int)(h:qj p0 K w):CV YE [.v (.int .i64 p0)] K w:=zE Tryz.f114 .auto _ h
def Vx:yr Pr YE:=Zb (by kernel_rfl)
def FE:Ann:=(.q2 (.q2 (.seq (.q2 (.q2 .auto (some [(12,eI6),(13,eI6)])) none) .auto none) none) none)
def VR(p0:Option Addr)(K:Value→PT):PT:=
  L.call Pr JA [.pointer p0] rI λ(x1:Int)=>L.sem Pr (.one (.one .slice)) (Instr.makeSlice Zv (I 0) (I x1)) λ(s2:Sl)=>L.new [.slice none 0 0] Zv λb3=>L.store (⟨b3,0,none⟩) [Sv6 s2]<|L.nonnil p0 λa4=>L.call Pr Yv [.pointer (some (a4.add 0))] (.one (.one (.func))) λ(x5:FV)=>L.range Pr none (.func x5.fn x5.fs x5.cs) [eI6,eI6] (λl6(y7:Int×Int×Unit) R8=>L.begin Pr l6<|L.load eL6 (⟨b3,0,none⟩) λ(x11:Sl)=>L.new [I y7.1] zm λb12=>L.sem Pr (.one (.one .slice)) (Builtin.append_ #[Zv,Zv] Zv #[Sv6 x11,.slice (some ⟨b12,0,none⟩) 1 1]) λ(s13:Sl)=>L.store (⟨b3,0,none⟩) [Sv6 s13]<|L.endRound Pr l6 none R8) λd9 j10=>L.jump j10 (L.load eL6 (⟨b3,0,none⟩) λ(x14:Sl)=>L.unmark Pr (d9++[])<|K (.slice x14.a x14.len x14.cap)) (L.unmark Pr (d9++[])<|K (.slice none 0 0)) []
def FA(p0:Option Addr)(h:VR p0 K w):CV QG [.v (.pointer p0)] K w:=zE Tryz.f116 FE _ h
def Jw(p0:Sl)(K:Value→PT):PT:=
  L.ite ((p0.a).isNone) (K (.slice none 0 0))<|L.new [] zm λb1=>L.sem Pr (.one (.one .slice)) (Builtin.append_ #[Zv,Zv] Zv #[.slice (some ⟨b1,0,none⟩) 0 0,Sv6 p0]) λ(s2:Sl)=>K (.slice s2.a s2.len s2.cap)
def qn(p0:Sl)(h:Jw p0 K w):CV Zz [.v (.slice p0.a p0.len p0.cap)] K w:=zE Tryz.f117 .auto _ h
def xM(p0:Sl)(K:Value→PT):PT:=
  L.new [Sv6 p0] zO λb1=>K (.func (.func ZB) #[] #[.pointer (some (⟨b1,0,none⟩))])
def UC(p0:Sl)(h:xM p0 K w):CV xK [.v (.slice p0.a p0.len p0.cap)] K w:=zE Tryz.f119 .auto _ h
def Ct:Ann:=(.q2 (.q2 (.seq (.q2 (.q2 .auto (some [(7,eL6)])) none) .auto none) none) none)
def Fl(p0:Sl)(K:Value→PT):PT:=
  L.new [.slice none 0 0] zO λb1=>L.call Pr uQ [Sv6 p0] (.one (.one (.func))) λ(x2:FV)=>L.range Pr none (.func x2.fn x2.fs x2.cs) [eL6] (λl3(y4:Sl×Unit) R5=>L.begin Pr l3<|L.load eL6 (⟨b1,0,none⟩) λ(x8:Sl)=>L.new [Sv6 y4.1] ya λb9=>L.sem Pr (.one (.one .slice)) (Builtin.append_ #[zO,zO] zO #[Sv6 x8,.slice (some ⟨b9,0,none⟩) 1 1]) λ(s10:Sl)=>L.store (⟨b1,0,none⟩) [Sv6 s10]<|L.endRound Pr l3 none R5) λd6 j7=>L.jump j7 (L.load eL6 (⟨b1,0,none⟩) λ(x11:Sl)=>L.call Pr jz [Sv6 x11] rL λ(x12:Sl)=>L.unmark Pr (d6++[])<|K (.slice x12.a x12.len x12.cap)) (L.unmark Pr (d6++[])<|K (.slice none 0 0)) []
def Cr(p0:Sl)(h:Fl p0 K w):CV kV [.v (.slice p0.a p0.len p0.cap)] K w:=zE Tryz.f120 Ct _ h
def pP:Ann:=(.q2 (.q2 (.q2 (.q2 (.q2 (.q2 (.q2 (.q2 (.q2 (.q2 (.q2 .auto (some [])) (some [])) (some [])) (some [])) (some [])) (some [])) none) none) none) none) none)
def Or(p0:Sl)(K:Value→PT):PT:=
  L.new [I 0,.string s_,.string s_,I 0,I 0,.string s_,I 0,I 0,I 0,I 0,I 0,.string s_,.string s_,.slice none 0 0,I 0] zT λb1=>L.new [Sv6 p0,.bool false] Kp λb2=>L.call Pr Zj [.pointer (some (⟨b2,0,none⟩)),I 1] rI λ(x3:Int)=>L.new [I 0,.string s_,.string s_,I 0,I 0,.string s_,I 0,I 0,I 0,I 0,I 0,.string s_,.string s_,.slice none 0 0,I 0] zT λb4=>L.store (⟨b4,0,none⟩) [I x3,.string s_,.string s_,I 0,I 0,.string s_,I 0,I 0,I 0,I 0,I 0,.string s_,.string s_,.slice none 0 0,I 0]<|L.load eI6 (Ad6 b4 0) λ(x5:Int)=>L.call Pr Qc [I x5] (.tup [(.agg lf5),eB6]) λ(x6:pt2)=>L.new [.bool false,.bool false,.bool false,.bool false,.bool false,.bool false] Qt λb7=>L.store (⟨b7,0,none⟩) [.bool x6.1.1,.bool x6.1.2.1,.bool x6.1.2.2.1,.bool x6.1.2.2.2.1,.bool x6.1.2.2.2.2.1,.bool x6.1.2.2.2.2.2.1]<|L.nonnil (some (⟨b2,0,none⟩)) λa8=>L.load eB6 (a8.add 1) λ(x9:Bool)=>L.ite x9 (L.store (⟨b1,0,none⟩) [I 0,.string s_,.string s_,I 0,I 0,.string s_,I 0,I 0,I 0,I 0,I 0,.string s_,.string s_,.slice none 0 0,I 0]<|L.load (.agg lf1) (⟨b1,0,none⟩) λ(x10:pt1)=>K (.tuple #[(qa1 x10),I 10]))<|L.ite (!x6.2.1) (L.store (⟨b1,0,none⟩) [I 0,.string s_,.string s_,I 0,I 0,.string s_,I 0,I 0,I 0,I 0,I 0,.string s_,.string s_,.slice none 0 0,I 0]<|L.load (.agg lf1) (⟨b1,0,none⟩) λ(x11:pt1)=>K (.tuple #[(qa1 x11),I 12]))<|L.join (Y:=Unit) (λk12=>L.load eB6 (Ad6 b7 0) λ(x14:Bool)=>L.ite x14 (L.call Pr Zj [.pointer (some (⟨b2,0,none⟩)),I 4] rI λ(x15:Int)=>L.store (Ad6 b4 3) [I x15]<|k12 (()))<|k12 (())) λz13=>L.join (Y:=Unit) (λk16=>L.load eB6 (Ad6 b7 1) λ(x18:Bool)=>L.ite x18 (L.call Pr ZF [.pointer (some (⟨b2,0,none⟩))] rS λ(x19:B0)=>L.store (Ad6 b4 1) [.string x19]<|k16 (()))<|k16 (())) λz17=>L.join (Y:=Unit) (λk20=>L.load eB6 (Ad6 b7 2) λ(x22:Bool)=>L.ite x22 (L.call Pr ZF [.pointer (some (⟨b2,0,none⟩))] rS λ(x23:B0)=>L.store (Ad6 b4 2) [.string x23]<|k20 (()))<|k20 (())) λz21=>L.join (Y:=Unit) (λk24=>L.load eB6 (Ad6 b7 3) λ(x26:Bool)=>L.ite x26 (L.call Pr Zj [.pointer (some (⟨b2,0,none⟩)),I 4] rI λ(x27:Int)=>L.store (Ad6 b4 4) [I x27]<|k24 (()))<|k24 (())) λz25=>L.join (Y:=Unit) (λk28=>L.load eB6 (Ad6 b7 4) λ(x30:Bool)=>L.ite x30 (L.call Pr JO [.pointer (some (⟨b2,0,none⟩))] (.one (.agg lf0)) λ(x31:pt0)=>L.store (Ad6 b4 5) [.string x31.1,I x31.2.1,I x31.2.2.1,I x31.2.2.2.1,I x31.2.2.2.2.1,I x31.2.2.2.2.2.1]<|k28 (()))<|k28 (())) λz29=>L.join (Y:=Unit) (λk32=>L.load eB6 (Ad6 b7 5) λ(x34:Bool)=>L.ite x34 (L.call Pr xm [.pointer (some (⟨b2,0,none⟩))] (.one (.agg [.str,.str,.slice,.int .i64])) λ(x35:pt3)=>L.store (Ad6 b4 11) [.string x35.1,.string x35.2.1,Sv6 x35.2.2.1,I x35.2.2.2.1]<|k32 (()))<|k32 (())) λz33=>L.nonnil (some (⟨b2,0,none⟩)) λa36=>L.load eB6 (a36.add 1) λ(x37:Bool)=>L.ite x37 (L.store (⟨b1,0,none⟩) [I 0,.string s_,.string s_,I 0,I 0,.string s_,I 0,I 0,I 0,I 0,I 0,.string s_,.string s_,.slice none 0 0,I 0]<|L.load (.agg lf1) (⟨b1,0,none⟩) λ(x38:pt1)=>K (.tuple #[(qa1 x38),I 10]))<|L.nonnil (some (⟨b2,0,none⟩)) λa39=>L.load eL6 (a39.add 0) λ(x40:Sl)=>L.ite (decide (((x40.len:Nat):Int)>0)) (L.store (⟨b1,0,none⟩) [I 0,.string s_,.string s_,I 0,I 0,.string s_,I 0,I 0,I 0,I 0,I 0,.string s_,.string s_,.slice none 0 0,I 0]<|L.load (.agg lf1) (⟨b1,0,none⟩) λ(x41:pt1)=>K (.tuple #[(qa1 x41),I 11]))<|L.load (.agg lf1) (⟨b4,0,none⟩) λ(x42:pt1)=>L.call Pr Qe [(qa1 x42)] rI λ(x43:Int)=>L.ite (x43 != 0) (L.store (⟨b1,0,none⟩) [I 0,.string s_,.string s_,I 0,I 0,.string s_,I 0,I 0,I 0,I 0,I 0,.string s_,.string s_,.slice none 0 0,I 0]<|L.load (.agg lf1) (⟨b1,0,none⟩) λ(x44:pt1)=>K (.tuple #[(qa1 x44),I x43]))<|L.load (.agg lf1) (⟨b4,0,none⟩) λ(x45:pt1)=>L.store (⟨b1,0,none⟩) [I x45.1,.string x45.2.1,.string x45.2.2.1,I x45.2.2.2.1,I x45.2.2.2.2.1,.string x45.2.2.2.2.2.1,I x45.2.2.2.2.2.2.1,I x45.2.2.2.2.2.2.2.1,I x45.2.2.2.2.2.2.2.2.1,I x45.2.2.2.2.2.2.2.2.2.1,I x45.2.2.2.2.2.2.2.2.2.2.1,.string x45.2.2.2.2.2.2.2.2.2.2.2.1,.string x45.2.2.2.2.2.2.2.2.2.2.2.2.1,Sv6 x45.2.2.2.2.2.2.2.2.2.2.2.2.2.1,I x45.2.2.2.2.2.2.2.2.2.2.2.2.2.2.1]<|L.load (.agg lf1) (⟨b1,0,none⟩) λ(x46:pt1)=>K (.tuple #[(qa1 x46),I 0])
def pE(p0:Sl)(h:Or p0 K w):CV vd [.v (.slice p0.a p0.len p0.cap)] K w:=zE Tryz.f121 pP _ h
def jN(c0:Addr)(c1:Addr)(K:Value→PT):PT:=
  L.draw<|L.load eP6 c0 λ(x1:Option Addr)=>L.load eP6 c0 λ(x2:Option Addr)=>L.nonnil x2 λa3=>L.load eL6 (a3.add 0) λ(x4:Sl)=>L.load eL6 c1 λ(x5:Sl)=>L.sem Pr (.one (.one .slice)) (Builtin.append_ #[zp,zp] zp #[Sv6 x4,Sv6 x5]) λ(s6:Sl)=>L.chk c0 [.pointer x1]<|L.nonnil x1 λa7=>L.store (a7.add 0) [Sv6 s6]<|K (.tuple #[])
def oA:yr Pr oz:=Zb (by kernel_rfl)
def On(p0:B0)(K:Value→PT):PT:=
  L.call Pr QQ [.string p0,.string jO] rI λ(x1:Int)=>L.ite (decide (x1<0)) (K (.tuple #[.string s_,I 0,.bool false]))<|L.guard ((0:Int)≤(Wi (x1+1))∧(Wi (x1+1))≤(p0.size:Int)∧(p0.size:Int)≤p0.size)<|L.call Pr kQ [.string (p0.extract (Int.toNat (Wi (x1+1))) (Int.toNat (p0.size:Int)))] (.tup [eI6,(.one (.iface))]) λ(x2:AJ)=>L.ite (!(x2.2.1).isNone) (K (.tuple #[.string s_,I 0,.bool false]))<|L.guard ((0:Int)≤(0:Int)∧(0:Int)≤x1∧x1≤p0.size)<|L.call Pr Qo [.string (p0.extract (Int.toNat 0) (Int.toNat x1)),I x2.1] rS λ(x3:B0)=>L.ite (!(x3.toList == p0.toList)) (K (.tuple #[.string s_,I 0,.bool false]))<|L.guard ((0:Int)≤(0:Int)∧(0:Int)≤x1∧x1≤p0.size)<|K (.tuple #[.string (p0.extract (Int.toNat 0) (Int.toNat x1)),I x2.1,.bool true])
def pz(p0:B0)(h:On p0 K w):CV xT [.v (.string p0)] K w:=zE Tryz.f123 .auto _ h
def pM:Ann:=(.q2 (.q2 (.seq (.q2 (.one [(5,(.one (.int .i32)))] (.q2 (.seq (.cond .auto .auto) (.q2 (.seq (.q2 (.cond .auto .auto) none) .auto (some [])) none) none) none)) none) .auto none) none) none)
def Om(p0:B0)(p1:Int)(K:Value→PT):PT:=
  L.sem Pr (.one (.one .ptr)) (Instr.range zd (.string p0)) λ(it1:Option Addr)=>L.loop (Y:=Int×Unit) (45,()) λy2 again3=>L.next Pr [eI6,(.one (.int .i32))] (Instr.next (.pointer it1) true T_) (L.ite (y2.1 != 45) (K (.bool (decide ((p0.size:Int)≤p1))))<|K (.bool false)) λ(x4:Int×Int×Unit)=>L.join (Y:=Unit) (λk5=>L.call Pr Vp [.int .i32 x4.2.1] rB λ(x7:Bool)=>L.ite (!x7) (K (.bool false))<|L.ite (x4.1 == 0) (L.call Pr qc [.int .i32 x4.2.1] rB λ(x8:Bool)=>L.ite (!x8) (K (.bool false))<|k5 (()))<|k5 (())) λz6=>again3 (x4.2.1,())
def py(p0:B0)(p1:Int)(h:Om p0 p1 K w):CV Qb [.v (.string p0),.v (.int .i64 p1)] K w:=zE Tryz.f124 pM _ h
def Gs(p0:B0)(K:Value→PT):PT:=
  L.call Pr Qb [.string p0,I 16] rB λ(x1:Bool)=>K (.bool x1)
def Tt(p0:B0)(h:Gs p0 K w):CV Jj [.v (.string p0)] K w:=zE Tryz.f129 .auto _ h
def QK(p0:HT [.int .i64,.int .i64])(p1:Int)(K:Value→PT):PT:=
  L.new [I p0.1,I p0.2.1] Fc λb1=>L.load eI6 (Ad6 b1 0) λ(x2:Int)=>L.ite (decide (p1≥x2)) (L.load eI6 (Ad6 b1 1) λ(x3:Int)=>K (.bool (decide (p1≤x3))))<|K (.bool false)
def VV(p0:HT [.int .i64,.int .i64])(p1:Int)(h:QK p0 p1 K w):CV ZG [.ag [.int .i64 p0.1,.int .i64 p0.2.1],.v (.int .i64 p1)] K w:=zE Tryz.f130 .auto _ h
def Fy:yr Pr ZG:=Zb (by kernel_rfl)
def pJ:Ann:=(.q2 (.q2 (.q2 (.seq (.seq (.q2 (.cond .auto .auto) none) .auto (some [(16,eB6)])) .auto none) none) none) none)
def Og(p0:HT [.str,.str,.int .i64])(K:Value→PT):PT:=
  L.new [.string p0.1,.string p0.2.1,I p0.2.2.1] zU λb1=>L.load eS6 (Ad6 b1 0) λ(x2:B0)=>L.call Pr xT [.string x2] (.tup [eS6,eI6,eB6]) λ(x3:B0×Int×Bool×Unit)=>L.join (Y:=Bool×Unit) (λk4=>L.load eS6 (Ad6 b1 0) λ(x6:B0)=>L.ite (!(x6.toList == s_.toList)) (L.ite (!x3.2.2.1) (k4 (!x3.2.2.1,()))<|L.load eS6 (Ad6 b1 1) λ(x7:B0)=>L.ite (!(x7.toList == s_.toList)) (L.load eS6 (Ad6 b1 1) λ(x8:B0)=>L.call Pr jr [.string x8] rB λ(x9:Bool)=>k4 (!x9,()))<|k4 (false,()))<|L.load eS6 (Ad6 b1 1) λ(x10:B0)=>L.ite (!(x10.toList == s_.toList)) (L.load eS6 (Ad6 b1 1) λ(x11:B0)=>L.call Pr jr [.string x11] rB λ(x12:Bool)=>k4 (!x12,()))<|k4 (false,())) λz5=>L.ite z5.1 (K (I 1))<|L.load eI6 (Ad6 b1 2) λ(x13:Int)=>L.callV Pr (.func (.func ZG) #[.agg #[I 0,I 100]] #[]) [I x13] rB λ(x14:Bool)=>L.ite (!x14) (K (I 2))<|K (I 0)
def pp(p0:HT [.str,.str,.int .i64])(h:Og p0 K w):CV UY [.ag [.string p0.1,.string p0.2.1,.int .i64 p0.2.2.1]] K w:=zE Tryz.f131 pJ _ h
def Dk:Ann:=(.q2 (.q2 (.seq (.q2 (.one [(3,eI6),(8,eI6)] (.q2 (.q2 (.seq (.q2 (.q2 (.q2 (.cond .auto .auto) none) none) none) .auto (some [(3,eI6)])) none) none)) none) .auto none) none) none)
def ME(p0:Sl)(K:Value→PT):PT:=
  L.loop (Y:=Int×Int×Unit) (0,0,()) λy1 again2=>L.ite (decide (y1.2.1<((p0.len:Nat):Int))) (L.join (Y:=Int×Unit) (λk3=>L.idx p0.a y1.2.1 p0.len 3 λa5=>L.load (.agg [.str,.str,.int .i64]) a5 λ(x6:pt9)=>L.new [.string s_,.string s_,I 0] zU λb7=>L.store (⟨b7,0,none⟩) [.string x6.1,.string x6.2.1,I x6.2.2.1]<|L.load eI6 (Ad6 b7 2) λ(x8:Int)=>L.load eS6 (Ad6 b7 1) λ(x9:B0)=>L.ite (!(x9.toList == s_.toList)) (L.guard (0≤(0:Int)∧(0:Int)≤y1.2.1∧y1.2.1≤((p0.cap:Nat):Int)∧((p0.cap:Nat):Int)≤p0.cap)<|L.call Pr ZN [.slice (if Int.toNat ((p0.cap:Nat):Int)=Int.toNat (0:Int)then p0.a else Option.map (λa:Addr=>a.add (Int.toNat (0:Int)*3)) p0.a) (Int.toNat y1.2.1-Int.toNat (0:Int)) (Int.toNat ((p0.cap:Nat):Int)-Int.toNat (0:Int)),.func (.func xE) #[] #[.pointer (some (⟨b7,0,none⟩))]] rB λ(x10:Bool)=>L.ite x10 (K (I 5))<|k3 (Wi (y1.1+x8),()))<|k3 (Wi (y1.1+x8),())) λz4=>again2 (z4.1,Wi (y1.2.1+1),()))<|L.ite (y1.1 != 100) (K (I 4))<|K (I 0)
def Dd(p0:Sl)(h:ME p0 K w):CV OM [.v (.slice p0.a p0.len p0.cap)] K w:=zE Tryz.f132 Dk _ h
def ux:Ann:=(.q2 (.q2 (.seq (.q2 (.cond .auto (.q2 (.cond .auto .auto) none)) none) .auto (some [])) none) none)
def JZ(p0:Option Addr)(p1:B0)(p2:Int)(p3:Bool)(K:Value→PT):PT:=
  L.nonnil p0 λa1=>L.load (.one (.map)) (a1.add 0) λ(x2:Option Nat)=>L.semR Pr (.one (.agg cF)) (Instr.lookup zS (.map x2) (.string p1) false) λ(x3:nV)=>L.new [.string s_,I 0,I 0,I 0,I 0,I 0,I 0,I 0,.bool false] zz λb4=>L.store (⟨b4,0,none⟩) [.string x3.1,I x3.2.1,I x3.2.2.1,I x3.2.2.2.1,I x3.2.2.2.2.1,I x3.2.2.2.2.2.1,I x3.2.2.2.2.2.2.1,I x3.2.2.2.2.2.2.2.1,.bool x3.2.2.2.2.2.2.2.2.1]<|L.join (Y:=Unit) (λk5=>L.ite p3 (L.ite (p2 == 0) (L.load eB6 (Ad6 b4 8) λ(x7:Bool)=>L.ite x7 (K (I 5))<|L.ite p3 (L.ite (p2 == 0) (K (I 0))<|L.load eB6 (Ad6 b4 8) λ(x8:Bool)=>L.ite (!x8) (K (I 6))<|L.load eI6 (Ad6 b4 6) λ(x9:Int)=>L.ite (x9 != p2) (K (I 7))<|k5 (()))<|L.load eB6 (Ad6 b4 8) λ(x10:Bool)=>L.ite (!x10) (K (I 6))<|L.load eI6 (Ad6 b4 6) λ(x11:Int)=>L.ite (x11 != p2) (K (I 7))<|k5 (()))<|L.ite p3 (L.ite (p2 == 0) (K (I 0))<|L.load eB6 (Ad6 b4 8) λ(x12:Bool)=>L.ite (!x12) (K (I 6))<|L.load eI6 (Ad6 b4 6) λ(x13:Int)=>L.ite (x13 != p2) (K (I 7))<|k5 (()))<|L.load eB6 (Ad6 b4 8) λ(x14:Bool)=>L.ite (!x14) (K (I 6))<|L.load eI6 (Ad6 b4 6) λ(x15:Int)=>L.ite (x15 != p2) (K (I 7))<|k5 (()))<|L.ite p3 (L.ite (p2 == 0) (K (I 0))<|L.load eB6 (Ad6 b4 8) λ(x16:Bool)=>L.ite (!x16) (K (I 6))<|L.load eI6 (Ad6 b4 6) λ(x17:Int)=>L.ite (x17 != p2) (K (I 7))<|k5 (()))<|L.load eB6 (Ad6 b4 8) λ(x18:Bool)=>L.ite (!x18) (K (I 6))<|L.load eI6 (Ad6 b4 6) λ(x19:Int)=>L.ite (x19 != p2) (K (I 7))<|k5 (())) λz6=>K (I 0)
def ut(p0:Option Addr)(p1:B0)(p2:Int)(p3:Bool)(h:JZ p0 p1 p2 p3 K w):CV YG [.v (.pointer p0),.v (.string p1),.v (.int .i64 p2),.v (.bool p3)] K w:=zE Tryz.f137 ux _ h
def uw:Ann:=(.q2 (.q2 (.q2 .auto (some [])) none) none)
def JY(p0:Option Addr)(p1:B0)(p2:ht0)(p3:Int)(K:Value→PT):PT:=
  L.new [.string p2.1,I p2.2.1,I p2.2.2.1,I p2.2.2.2.1,I p2.2.2.2.2.1,I p2.2.2.2.2.2.1] zq λb1=>L.nonnil p0 λa2=>L.load (.one (.map)) (a2.add 0) λ(x3:Option Nat)=>L.semR Pr (.one (.agg cF)) (Instr.lookup zS (.map x3) (.string p1) false) λ(x4:nV)=>L.new [.string s_,I 0,I 0,I 0,I 0,I 0,I 0,I 0,.bool false] zz λb5=>L.store (⟨b5,0,none⟩) [.string x4.1,I x4.2.1,I x4.2.2.1,I x4.2.2.2.1,I x4.2.2.2.2.1,I x4.2.2.2.2.2.1,I x4.2.2.2.2.2.2.1,I x4.2.2.2.2.2.2.2.1,.bool x4.2.2.2.2.2.2.2.2.1]<|L.join (Y:=Unit) (λk6=>L.draw<|L.load eB6 (Ad6 b5 8) λ(x8:Bool)=>L.ite (!x8) (L.load eI6 (Ad6 b5 7) λ(x9:Int)=>L.store (Ad6 b5 7) [I (Wi (x9+1))]<|k6 (()))<|L.nonnil p0 λa10=>L.load (.one (.func)) (a10.add 1) λ(x11:FV)=>L.load (.agg lf0) (Ad6 b5 0) λ(x12:pt0)=>L.load (.agg lf0) (⟨b1,0,none⟩) λ(x13:pt0)=>L.callV Pr (.func x11.fn x11.fs x11.cs) [(qa0 x12),(qa0 x13)] rB λ(x14:Bool)=>L.ite (!x14) (L.load eI6 (Ad6 b5 7) λ(x15:Int)=>L.store (Ad6 b5 7) [I (Wi (x15+1))]<|k6 (()))<|k6 (())) λz7=>L.draw<|L.nonnil p0 λa16=>L.load (.one (.map)) (a16.add 0) λ(x17:Option Nat)=>L.load (.agg lf0) (⟨b1,0,none⟩) λ(x18:pt0)=>L.load eI6 (Ad6 b5 7) λ(x19:Int)=>L.semU Pr (Instr.mapUpdate zS (.map x17) (.string p1) (.agg #[.string x18.1,I x18.2.1,I x18.2.2.1,I x18.2.2.2.1,I x18.2.2.2.2.1,I x18.2.2.2.2.2.1,I p3,I x19,.bool true]))<|K (.tuple #[])
def ur(p0:Option Addr)(p1:B0)(p2:ht0)(p3:Int)(h:JY p0 p1 p2 p3 K w):CV YF [.v (.pointer p0),.v (.string p1),.ag (qc0 p2),.v (.int .i64 p3)] K w:=zE Tryz.f138 uw _ h
def qy(p0:Option Addr)(p1:B0)(K:Value→PT):PT:=
  L.new [.slice none 0 0,.slice none 0 0] yZ λb1=>L.nonnil p0 λa2=>L.load eP6 (a2.add 2) λ(x3:Option Addr)=>L.call Pr xN [.pointer x3,.string p1] (.tup [(.agg [.slice,.slice]),eB6]) λ(x4:(Sl×Sl×Unit)×Bool×Unit)=>L.store (⟨b1,0,none⟩) [Sv6 x4.1.1,Sv6 x4.1.2.1]<|L.load (.agg [.slice,.slice]) (⟨b1,0,none⟩) λ(x5:Sl×Sl×Unit)=>K (.tuple #[.agg #[Sv6 x5.1,Sv6 x5.2.1],.bool x4.2.1])
def kq(p0:Option Addr)(p1:B0)(h:qy p0 p1 K w):CV qt [.v (.pointer p0),.v (.string p1)] K w:=zE Tryz.f144 .auto _ h
def Tw:Ann:=(.q2 (.q2 (.seq (.q2 (.one [(1,eI6),(14,eI6)] .auto) none) .auto none) none) none)
def Gk(p0:HT [.slice,.slice])(p1:Int)(K:Value→PT):PT:=
  L.new [Sv6 p0.1,Sv6 p0.2.1] yZ λb1=>L.guard (100≠(0:Int))<|L.guard (100≠(0:Int))<|L.load eL6 (Ad6 b1 0) λ(x2:Sl)=>L.loop (Y:=Int×Int×Unit) (Int.tmod (Wi ((Int.tmod p1 100)+100)) 100,0,()) λy3 again4=>L.ite (decide (y3.2.1<((x2.len:Nat):Int))) (L.idx x2.a y3.2.1 x2.len 2 λa5=>L.load (.agg [.str,.int .i64]) a5 λ(x6:B0×Int×Unit)=>L.new [.string s_,I 0] YL λb7=>L.store (⟨b7,0,none⟩) [.string x6.1,I x6.2.1]<|L.load eI6 (Ad6 b7 1) λ(x8:Int)=>L.ite (decide (y3.1<x8)) (L.load eS6 (Ad6 b7 0) λ(x9:B0)=>K (.string x9))<|L.load eI6 (Ad6 b7 1) λ(x10:Int)=>again4 (Wi (y3.1-x10),Wi (y3.2.1+1),()))<|K (.string s_)
def Tl(p0:HT [.slice,.slice])(p1:Int)(h:Gk p0 p1 K w):CV Vm [.ag [.slice p0.1.a p0.1.len p0.1.cap,.slice p0.2.1.a p0.2.1.len p0.2.1.cap],.v (.int .i64 p1)] K w:=zE Tryz.f145 Tw _ h
def pG:Ann:=(.q2 (.seq (.q2 (.one [(11,eI6)] .auto) none) .auto none) none)
def Od(p0:HT [.slice,.slice])(p1:B0)(K:Value→PT):PT:=
  L.new [Sv6 p0.1,Sv6 p0.2.1] yZ λb1=>L.load eL6 (Ad6 b1 1) λ(x2:Sl)=>L.loop (Y:=Int×Unit) (0,()) λy3 again4=>L.ite (decide (y3.1<((x2.len:Nat):Int))) (L.idx x2.a y3.1 x2.len 2 λa5=>L.load (.agg [.str,.str]) a5 λ(x6:B0×B0×Unit)=>L.new [.string s_,.string s_] XJ λb7=>L.store (⟨b7,0,none⟩) [.string x6.1,.string x6.2.1]<|L.load eS6 (Ad6 b7 0) λ(x8:B0)=>L.ite (x8.toList == p1.toList) (L.load eS6 (Ad6 b7 1) λ(x9:B0)=>K (.tuple #[.string x9,.bool true]))<|again4 (Wi (y3.1+1),()))<|K (.tuple #[.string s_,.bool false])
def pm(p0:HT [.slice,.slice])(p1:B0)(h:Od p0 p1 K w):CV UW [.ag [.slice p0.1.a p0.1.len p0.1.cap,.slice p0.2.1.a p0.2.1.len p0.2.1.cap],.v (.string p1)] K w:=zE Tryz.f146 pG _ h
def vL(p0:Option Addr)(p1:Int)(K:Value→PT):PT:=
  L.nonnil p0 λa1=>L.load (.one (.map)) (a1.add 1) λ(x2:Option Nat)=>L.semR Pr (.tup [(.agg [.str,.int .i64]),.one .bool]) (Instr.lookup yS (.map x2) (I p1) true) λ(x3:AI)=>L.new [.string s_,I 0] Zm λb4=>L.store (⟨b4,0,none⟩) [.string x3.1.1,I x3.1.2.1]<|K (.bool x3.2.1)
def fD(p0:Option Addr)(p1:Int)(h:vL p0 p1 K w):CV qO [.v (.pointer p0),.v (.int .i64 p1)] K w:=zE Tryz.f147 .auto _ h
def MI(p0:B0)(K:Value→PT):PT:=
  L.new [I 0,I 0,I 0,.string s_] zL λb1=>L.store (⟨b1,0,none⟩) [I 0,I 4,I 0,.string p0]<|L.load (.agg [.int .i64,.int .i64,.int .i64,.str]) (⟨b1,0,none⟩) λ(x2:VX)=>K (.agg #[I x2.1,I x2.2.1,I x2.2.2.1,.string x2.2.2.2.1])
def Dh(p0:B0)(h:MI p0 K w):CV Xn [.v (.string p0)] K w:=zE Tryz.f148 .auto _ h
def VU(p0:Option Addr)(p1:Int)(p2:B0)(p3:ht3)(K:Value→PT):PT:=
  L.new [I p3.1,I p3.2.1,I p3.2.2.1,.string p3.2.2.2.1] zL λb1=>L.new [I 0,I 0,I 0,.string s_] zL λb2=>L.store (Ad6 b1 0) [I p1]<|L.draw<|L.nonnil p0 λa3=>L.load (.one (.map)) (a3.add 1) λ(x4:Option Nat)=>L.load eI6 (Ad6 b1 1) λ(x5:Int)=>L.semU Pr (Instr.mapUpdate yS (.map x4) (I p1) (.agg #[.string p2,I x5]))<|L.load (.agg [.int .i64,.int .i64,.int .i64,.str]) (⟨b1,0,none⟩) λ(x6:VX)=>L.store (⟨b2,0,none⟩) [I x6.1,I x6.2.1,I x6.2.2.1,.string x6.2.2.2.1]<|L.load (.agg [.int .i64,.int .i64,.int .i64,.str]) (⟨b2,0,none⟩) λ(x7:VX)=>K (.agg #[I x7.1,I x7.2.1,I x7.2.2.1,.string x7.2.2.2.1])
def FD(p0:Option Addr)(p1:Int)(p2:B0)(p3:ht3)(h:VU p0 p1 p2 p3 K w):CV yu [.v (.pointer p0),.v (.int .i64 p1),.v (.string p2),.ag (qc3 p3)] K w:=zE Tryz.f149 .auto _ h
def vj:Ann:=(.q2 (.q2 .auto (some [])) none)
def xX(p0:Option Addr)(p1:B0)(K:Value→PT):PT:=
  L.join (Y:=Unit) (λk1=>L.nonnil p0 λa3=>L.load (.one (.map)) (a3.add 0) λ(x4:Option Nat)=>L.semR Pr (.tup [eP6,.one .bool]) (Instr.lookup zW (.map x4) (.string p1) true) λ(x5:Option Addr×Bool×Unit)=>L.ite (!x5.2.1) (L.draw<|L.nonnil p0 λa6=>L.load (.one (.map)) (a6.add 0) λ(x7:Option Nat)=>L.nonnil p0 λa8=>L.load (.one (.func)) (a8.add 1) λ(x9:FV)=>L.callV Pr (.func x9.fn x9.fs x9.cs) [] rP λ(x10:Option Addr)=>L.chk (a6.add 0) [.map x7]<|L.semU Pr (Instr.mapUpdate zW (.map x7) (.string p1) (.pointer x10))<|k1 (()))<|k1 (())) λz2=>L.nonnil p0 λa11=>L.load (.one (.map)) (a11.add 0) λ(x12:Option Nat)=>L.semR Pr rP (Instr.lookup zW (.map x12) (.string p1) false) λ(x13:Option Addr)=>K (.pointer x13)
def vi(p0:Option Addr)(p1:B0)(h:xX p0 p1 K w):CV jA [.v (.pointer p0),.v (.string p1)] K w:=zE Tryz.f150 vj _ h
def VQ(p0:Option Addr)(K:Value→PT):PT:=
  L.nonnil p0 λa1=>L.load eL6 ((a1.add 0).add 0) λ(x2:Sl)=>K (I ((x2.len:Nat):Int))
def Fz(p0:Option Addr)(h:VQ p0 K w):CV JA [.v (.pointer p0)] K w:=zE Tryz.f151 .auto _ h
def vJ(p0:Option Addr)(p1:Int)(p2:B0)(K:Value→PT):PT:=
  L.new [I 0,I 0,I 0,.string s_] zL λb1=>L.nonnil p0 λa2=>L.load eP6 (a2.add 0) λ(x3:Option Addr)=>L.call Pr Xq [.pointer x3,.string p2,I p1] (.tup [eI6,eB6]) λ(x4:Int×Bool×Unit)=>L.ite (!x4.2.1) (L.store (⟨b1,0,none⟩) [I 0,I 0,I 0,.string s_]<|L.load (.agg [.int .i64,.int .i64,.int .i64,.str]) (⟨b1,0,none⟩) λ(x5:VX)=>K (.tuple #[.agg #[I x5.1,I x5.2.1,I x5.2.2.1,.string x5.2.2.2.1],.bool false]))<|L.call Pr yu [.pointer p0,I p1,.string p2,.agg #[I 0,I 1,I x4.1,.string s_]] (.one (.agg [.int .i64,.int .i64,.int .i64,.str])) λ(x6:VX)=>L.store (⟨b1,0,none⟩) [I x6.1,I x6.2.1,I x6.2.2.1,.string x6.2.2.2.1]<|L.load (.agg [.int .i64,.int .i64,.int .i64,.str]) (⟨b1,0,none⟩) λ(x7:VX)=>K (.tuple #[.agg #[I x7.1,I x7.2.1,I x7.2.2.1,.string x7.2.2.2.1],.bool true])
def fB(p0:Option Addr)(p1:Int)(p2:B0)(h:vJ p0 p1 p2 K w):CV qM [.v (.pointer p0),.v (.int .i64 p1),.v (.string p2)] K w:=zE Tryz.f152 .auto _ h
def vD(p0:Option Addr)(p1 p2:Int)(K:Value→PT):PT:=
  L.nonnil p0 λa1=>L.call Pr Xi [.pointer (some (a1.add 0)),I p1] rB λ(x2:Bool)=>L.ite x2 (K (I 5))<|L.draw<|L.nonnil p0 λa3=>L.load eI6 (a3.add 1) λ(x4:Int)=>L.call Pr JA [.pointer p0] rI λ(x5:Int)=>L.chk (a3.add 1) [I x4]<|L.ite (decide (x5≥x4)) (K (I 8))<|L.nonnil p0 λa6=>L.load eL6 ((a6.add 0).add 0) λ(x7:Sl)=>L.new [I p1,I p2] Yt λb8=>L.sem Pr (.one (.one .slice)) (Builtin.append_ #[ZK,ZK] ZK #[Sv6 x7,.slice (some ⟨b8,0,none⟩) 1 1]) λ(s9:Sl)=>L.nonnil p0 λa10=>L.store ((a10.add 0).add 0) [Sv6 s9]<|K (I 0)
def fo(p0:Option Addr)(p1 p2:Int)(h:vD p0 p1 p2 K w):CV xD [.v (.pointer p0),.v (.int .i64 p1),.v (.int .i64 p2)] K w:=zE Tryz.f153 .auto _ h
def Kt(p0:Sl)(K:Value→PT):PT:=
  L.new [Sv6 p0] zR λb1=>K (.func (.func jQ) #[] #[.pointer (some (⟨b1,0,none⟩))])
def MN(p0:Sl)(h:Kt p0 K w):CV kP [.v (.slice p0.a p0.len p0.cap)] K w:=zE Tryz.f154 .auto _ h
def jb(p0:Sl)(K:Value→PT):PT:=
  L.ite ((p0.a).isNone) (K (.slice none 0 0))<|L.new [] zL λb1=>L.sem Pr (.one (.one .slice)) (Builtin.append_ #[zR,zR] zR #[.slice (some ⟨b1,0,none⟩) 0 0,Sv6 p0]) λ(s2:Sl)=>K (.slice s2.a s2.len s2.cap)
def Xv(p0:Sl)(h:jb p0 K w):CV yz [.v (.slice p0.a p0.len p0.cap)] K w:=zE Tryz.f158 .auto _ h
def UT(p0:Option Addr)(p1:Int)(K:Value→PT):PT:=
  L.nonnil p0 λa1=>L.load (.one (.map)) (a1.add 0) λ(x2:Option Nat)=>L.semR Pr (.one (.agg [.str,.ptr])) (Instr.lookup Ze (.map x2) (I p1) false) λ(x3:B0×Option Addr×Unit)=>L.call Pr ZT [.pointer x3.2.1] rI λ(x4:Int)=>L.ite (x4 == 4) (L.nonnil p0 λa5=>L.load (.one (.map)) (a5.add 0) λ(x6:Option Nat)=>L.sem Pr (.tup []) (Builtin.delete_ #[Ze,zm] T_ #[.map x6,I p1]) λ_=>K (.tuple #[]))<|K (.tuple #[])
def Gy(p0:Option Addr)(p1:Int)(h:UT p0 p1 K w):CV qe [.v (.pointer p0),.v (.int .i64 p1)] K w:=zE Tryz.f160 .auto _ h
def xx(p0:Option Addr)(K:Value→PT):PT:=
  L.new [.pointer p0] zV λb1=>K (.func (.func ZU) #[] #[.pointer (some (⟨b1,0,none⟩))])
def Ux(p0:Option Addr)(h:xx p0 K w):CV xl [.v (.pointer p0)] K w:=zE Tryz.f161 .auto _ h
def vE(p0:Option Addr)(p1:Int)(K:Value→PT):PT:=
  L.nonnil p0 λa1=>L.call Pr QP [.pointer (some (a1.add 0)),I p1] rL λ(x2:Sl)=>K (.slice x2.a x2.len x2.cap)
def fq(p0:Option Addr)(p1:Int)(h:vE p0 p1 K w):CV qJ [.v (.pointer p0),.v (.int .i64 p1)] K w:=zE Tryz.f162 .auto _ h
def vI(p0:Option Addr)(K:Value→PT):PT:=
  L.nonnil p0 λa1=>L.load (.one (.map)) (a1.add 0) λ(x2:Option Nat)=>L.call Pr yN [.map x2] rL λ(x3:Sl)=>L.call Pr Zx [Sv6 x3] rL λ(x4:Sl)=>K (.slice x4.a x4.len x4.cap)
def fA(p0:Option Addr)(h:vI p0 K w):CV qK [.v (.pointer p0)] K w:=zE Tryz.f163 .auto _ h
def QA(p0:Option Addr)(p1:Int)(K:Value→PT):PT:=
  L.draw<|L.nonnil p0 λa1=>L.load eI6 (a1.add 60) λ(x2:Int)=>L.guard (60≠(0:Int))<|L.nonnil p0 λa3=>L.idx (some (a3.add 0)) (Int.tmod x2 60) 60 1 λa4=>L.store a4 [I p1]<|L.nonnil p0 λa5=>L.load eI6 (a5.add 60) λ(x6:Int)=>L.nonnil p0 λa7=>L.store (a7.add 60) [I (Wi (x6+1))]<|K (.tuple #[])
def KN(p0:Option Addr)(p1:Int)(h:QA p0 p1 K w):CV xk [.v (.pointer p0),.v (.int .i64 p1)] K w:=zE Tryz.f164 .auto _ h
def xa(p0:Option Addr)(p1:B0)(K:Value→PT):PT:=
  L.new [.string s_,I 0,I 0,I 0,I 0,I 0,I 0,I 0,.bool false] zz λb1=>L.nonnil p0 λa2=>L.load (.one (.map)) (a2.add 0) λ(x3:Option Nat)=>L.semR Pr (.one (.agg cF)) (Instr.lookup zS (.map x3) (.string p1) false) λ(x4:nV)=>L.new [.string s_,I 0,I 0,I 0,I 0,I 0,I 0,I 0,.bool false] zz λb5=>L.store (⟨b5,0,none⟩) [.string x4.1,I x4.2.1,I x4.2.2.1,I x4.2.2.2.1,I x4.2.2.2.2.1,I x4.2.2.2.2.2.1,I x4.2.2.2.2.2.2.1,I x4.2.2.2.2.2.2.2.1,.bool x4.2.2.2.2.2.2.2.2.1]<|L.draw<|L.load (.agg cF) (⟨b5,0,none⟩) λ(x6:nV)=>L.load eB6 (Ad6 b5 8) λ(x7:Bool)=>L.store (⟨b1,0,none⟩) [.string x6.1,I x6.2.1,I x6.2.2.1,I x6.2.2.2.1,I x6.2.2.2.2.1,I x6.2.2.2.2.2.1,I x6.2.2.2.2.2.2.1,I x6.2.2.2.2.2.2.2.1,.bool x6.2.2.2.2.2.2.2.2.1]<|L.chk (Ad6 b5 8) [.bool x7]<|L.load (.agg cF) (⟨b1,0,none⟩) λ(x8:nV)=>K (.tuple #[(qa5 x8),.bool x7])
def uu(p0:Option Addr)(p1:B0)(h:xa p0 p1 K w):CV YH [.v (.pointer p0),.v (.string p1)] K w:=zE Tryz.f165 .auto _ h
def Kz(p0:B0)(p1:Int)(K:Value→PT):PT:=
  L.call Pr Jj [.string p0] rB λ(x1:Bool)=>L.ite (!x1) (K (.string s_))<|L.ite (decide (p1<1)) (K (.string s_))<|L.ite (decide (p1>999999)) (K (.string s_))<|L.guard (((p0.size+jO.size:Nat):Int)≤Jl)<|L.call Pr xj [I p1] rS λ(x2:B0)=>L.guard ((((p0++jO).size+x2.size:Nat):Int)≤Jl)<|K (.string ((p0++jO)++x2))
def Fo(p0:B0)(p1:Int)(h:Kz p0 p1 K w):CV Qo [.v (.string p0),.v (.int .i64 p1)] K w:=zE Tryz.f166 .auto _ h
def MG(p0:HT [.slice,.slice])(K:Value→PT):PT:=
  L.new [Sv6 p0.1,Sv6 p0.2.1] yZ λb1=>L.new [.slice none 0 0,.slice none 0 0] yZ λb2=>L.draw<|L.load eL6 (Ad6 b1 0) λ(x3:Sl)=>L.load eL6 (Ad6 b1 1) λ(x4:Sl)=>L.call Pr yB [Sv6 x3] rL λ(x5:Sl)=>L.chk (Ad6 b1 1) [Sv6 x4]<|L.call Pr yA [Sv6 x4] rL λ(x6:Sl)=>L.store (⟨b2,0,none⟩) [Sv6 x5,Sv6 x6]<|L.load (.agg [.slice,.slice]) (⟨b2,0,none⟩) λ(x7:Sl×Sl×Unit)=>K (.agg #[Sv6 x7.1,Sv6 x7.2.1])
def Df(p0:HT [.slice,.slice])(h:MG p0 K w):CV ON [.ag [.slice p0.1.a p0.1.len p0.1.cap,.slice p0.2.1.a p0.2.1.len p0.2.1.cap]] K w:=zE Tryz.f171 .auto _ h
def Qx(p0:Option Addr)(p1:B0)(K:Value→PT):PT:=
  L.nonnil p0 λa1=>L.load eP6 (a1.add 3) λ(x2:Option Addr)=>L.call Pr Xr [.pointer x2,.string p1] rL λ(x3:Sl)=>K (.slice x3.a x3.len x3.cap)
def KJ(p0:Option Addr)(p1:B0)(h:Qx p0 p1 K w):CV Ql [.v (.pointer p0),.v (.string p1)] K w:=zE Tryz.f175 .auto _ h
def qA(p0:Option Addr)(K:Value→PT):PT:=
  L.new [.pointer p0] Xs λb1=>K (.func (.func yH) #[] #[.pointer (some (⟨b1,0,none⟩))])
def kw(p0:Option Addr)(h:qA p0 K w):CV JN [.v (.pointer p0)] K w:=zE Tryz.f176 .auto _ h
def Gq(p0 p1 p2:Int)(K:Value→PT):PT:=
  L.ite (decide (p1≤0)) (K (I 0))<|L.ite (decide (p2≤0)) (K (I 0))<|L.guard ((Wi (p1*p2))≠(0:Int))<|K (I (Wi (Int.tdiv (Wi ((Wi (p0+(Wi (p1*p2))))-1)) (Wi (p1*p2)))))
def Tq(p0 p1 p2:Int)(h:Gq p0 p1 p2 K w):CV Ji [.v (.int .i64 p0),.v (.int .i64 p1),.v (.int .i64 p2)] K w:=zE Tryz.f177 .auto _ h
def qz(p0:HT [.int .i64,.int .i64])(p1 p2:Int)(K:Value→PT):PT:=
  L.new [I p0.1,I p0.2.1] Zp λb1=>L.ite (decide (p1≥(Wi (2*p2)))) (K (I 6))<|L.load eI6 (Ad6 b1 1) λ(x2:Int)=>K (I (if 0>(Wi (x2-1))then 0 else(Wi (x2-1))))
def ku(p0:HT [.int .i64,.int .i64])(p1 p2:Int)(h:qz p0 p1 p2 K w):CV ji [.ag [.int .i64 p0.1,.int .i64 p0.2.1],.v (.int .i64 p1),.v (.int .i64 p2)] K w:=zE Tryz.f178 .auto _ h
def Um(p0 p1:HT [.int .i64,.int .i64])(K:Value→PT):PT:=
  L.new [I p0.1,I p0.2.1] Zp λb1=>L.new [I p1.1,I p1.2.1] UP λb2=>L.load eI6 (Ad6 b1 0) λ(x3:Int)=>L.idx (some (⟨b2,0,none⟩)) 0 2 1 λa4=>L.load eI6 a4 λ(x5:Int)=>L.idx (some (⟨b2,0,none⟩)) 1 2 1 λa6=>L.load eI6 a6 λ(x7:Int)=>K (I (if x7>(if x5>x3 then x5 else x3)then x7 else(if x5>x3 then x5 else x3)))
def gh(p0 p1:HT [.int .i64,.int .i64])(h:Um p0 p1 K w):CV Xl [.ag [.int .i64 p0.1,.int .i64 p0.2.1],.ag [.int .i64 p1.1,.int .i64 p1.2.1]] K w:=zE Tryz.f179 .auto _ h
def Ku(p0:ht0)(p1 p2:Int)(K:Value→PT):PT:=
  L.new [.string p0.1,I p0.2.1,I p0.2.2.1,I p0.2.2.2.1,I p0.2.2.2.2.1,I p0.2.2.2.2.2.1] zq λb1=>L.new [I 0,I 0,I 0,I 0] ni λb2=>L.guard (2≠(0:Int))<|L.load eI6 (Ad6 b1 3) λ(x3:Int)=>L.load eI6 (Ad6 b1 4) λ(x4:Int)=>L.store (⟨b2,0,none⟩) [I (Wi (4*p2)),I (Wi (Int.tdiv p1 2)),I x3,I x4]<|L.load (.agg [.int .i64,.int .i64,.int .i64,.int .i64]) (⟨b2,0,none⟩) λ(x5:Int×Int×Int×Int×Unit)=>K (.agg #[I x5.1,I x5.2.1,I x5.2.2.1,I x5.2.2.2.1])
def MO(p0:ht0)(p1 p2:Int)(h:Ku p0 p1 p2 K w):CV uO [.ag (qc0 p0),.v (.int .i64 p1),.v (.int .i64 p2)] K w:=zE Tryz.f180 .auto _ h
def fL:Ann:=(.q2 (.q2 (.seq (.q2 (.q2 .auto (some [(11,eI6),(12,eP6)])) none) .auto none) none) none)
def vN(p0:Option Addr)(p1:B0)(K:Value→PT):PT:=
  L.new [I 0] zm λb1=>L.store (⟨b1,0,none⟩) [I 0]<|L.call Pr YP [.pointer p0,.string p1] (.one (.one (.func))) λ(x2:FV)=>L.range Pr none (.func x2.fn x2.fs x2.cs) [eI6,eP6] (λl3(y4:Int×Option Addr×Unit) R5=>L.begin Pr l3<|L.call Pr ZT [.pointer y4.2.1] rI λ(x8:Int)=>L.ite (x8 != 3) (L.load eI6 (⟨b1,0,none⟩) λ(x9:Int)=>L.store (⟨b1,0,none⟩) [I (Wi (x9+1))]<|L.endRound Pr l3 none R5)<|L.endRound Pr l3 none R5) λd6 j7=>L.jump j7 (L.load eI6 (⟨b1,0,none⟩) λ(x10:Int)=>L.unmark Pr (d6++[])<|K (I x10)) (L.unmark Pr (d6++[])<|K (I 0)) []
def fF(p0:Option Addr)(p1:B0)(h:vN p0 p1 K w):CV qP [.v (.pointer p0),.v (.string p1)] K w:=zE Tryz.f181 fL _ h
def PP(p0:Int)(K:Value→PT):PT:=
  L.sem Pr (.one (.one .map)) (Instr.makeMap Ja none) λ(m1:Option Nat)=>L.new [I 1,.map m1,I p0] vC λb2=>K (.pointer (some (⟨b2,0,none⟩)))
def NT(p0:Int)(h:PP p0 K w):CV GP [.v (.int .i64 p0)] K w:=zE Tryz.f182 .auto _ h
def oN:Ann:=(.q2 (.q2 (.seq (.q2 (.q2 (.q2 (.q2 (.cond .auto .auto) none) none) (some [(13,eI6),(14,eP6)])) none) .auto none) none) none)
def QY(p0:Option Addr)(p1:B0)(K:Value→PT):PT:=
  L.new [I 0] zm λb1=>L.new [I 0] zm λb2=>L.new [I 0] zm λb3=>L.store (⟨b1,0,none⟩) [I 0]<|L.store (⟨b2,0,none⟩) [I 3]<|L.store (⟨b3,0,none⟩) [I 0]<|L.call Pr YP [.pointer p0,.string p1] (.one (.one (.func))) λ(x4:FV)=>L.range Pr none (.func x4.fn x4.fs x4.cs) [eI6,eP6] (λl5(y6:Int×Option Addr×Unit) R7=>L.begin Pr l5<|L.call Pr ZT [.pointer y6.2.1] rI λ(x10:Int)=>L.ite (x10 == 3) (L.endRound Pr l5 none R7)<|L.draw<|L.load eI6 (⟨b2,0,none⟩) λ(x11:Int)=>L.call Pr ZT [.pointer y6.2.1] rI λ(x12:Int)=>L.chk (⟨b2,0,none⟩) [I x11]<|L.ite (decide (x12<x11)) (L.call Pr ZT [.pointer y6.2.1] rI λ(x13:Int)=>L.call Pr yQ [.pointer y6.2.1] rI λ(x14:Int)=>L.store (⟨b1,0,none⟩) [I y6.1]<|L.store (⟨b2,0,none⟩) [I x13]<|L.store (⟨b3,0,none⟩) [I x14]<|L.endRound Pr l5 none R7)<|L.load eI6 (⟨b2,0,none⟩) λ(x15:Int)=>L.call Pr ZT [.pointer y6.2.1] rI λ(x16:Int)=>L.chk (⟨b2,0,none⟩) [I x15]<|L.ite (x16 == x15) (L.load eI6 (⟨b3,0,none⟩) λ(x17:Int)=>L.call Pr yQ [.pointer y6.2.1] rI λ(x18:Int)=>L.chk (⟨b3,0,none⟩) [I x17]<|L.ite (decide (x18≤x17)) (L.call Pr ZT [.pointer y6.2.1] rI λ(x19:Int)=>L.call Pr yQ [.pointer y6.2.1] rI λ(x20:Int)=>L.store (⟨b1,0,none⟩) [I y6.1]<|L.store (⟨b2,0,none⟩) [I x19]<|L.store (⟨b3,0,none⟩) [I x20]<|L.endRound Pr l5 none R7)<|L.endRound Pr l5 none R7)<|L.endRound Pr l5 none R7) λd8 j9=>L.jump j9 (L.load eI6 (⟨b1,0,none⟩) λ(x21:Int)=>L.unmark Pr (d8++[])<|K (I x21)) (L.unmark Pr (d8++[])<|K (I 0)) []
def oG(p0:Option Addr)(p1:B0)(h:QY p0 p1 K w):CV xO [.v (.pointer p0),.v (.string p1)] K w:=zE Tryz.f183 oN _ h
def FF:Ann:=(.q2 (.seq (.q2 (.cond .auto .auto) none) .auto (some [])) none)
def VT(p0:Option Addr)(K:Value→PT):PT:=
  L.join (Y:=Unit) (λk1=>L.nonnil p0 λa3=>L.load eI6 (a3.add 0) λ(x4:Int)=>L.ite (x4 != 1) (L.nonnil p0 λa5=>L.load eI6 (a5.add 0) λ(x6:Int)=>L.ite (x6 != 2) (K (I 9))<|k1 (()))<|k1 (())) λz2=>L.nonnil p0 λa7=>L.store (a7.add 0) [I 3]<|L.call Pr UZ [.pointer p0] (.tup []) λ(x8:Unit)=>K (I 0)
def FC(p0:Option Addr)(h:VT p0 K w):CV QH [.v (.pointer p0)] K w:=zE Tryz.f184 FF _ h
def QU(p0:Option Addr)(K:Value→PT):PT:=
  L.new [.pointer p0] jZ λb1=>K (.func (.func Yd) #[] #[.pointer (some (⟨b1,0,none⟩))])
def oC(p0:Option Addr)(h:QU p0 K w):CV Yv [.v (.pointer p0)] K w:=zE Tryz.f187 .auto _ h
def uv:Ann:=(.q2 (.one [(7,eI6)] .auto) none)
def JX(p0:FV)(c0:Addr)(K:Value→PT):PT:=
  L.load eL6 c0 λ(x1:Sl)=>L.loop (Y:=Int×Unit) (0,()) λy2 again3=>L.ite (decide (y2.1<((x1.len:Nat):Int))) (L.idx x1.a y2.1 x1.len 1 λa4=>L.load eL6 a4 λ(x5:Sl)=>L.callV Pr (.func p0.fn p0.fs p0.cs) [Sv6 x5] rB λ(x6:Bool)=>L.ite (!x6) (K (.tuple #[]))<|again3 (Wi (y2.1+1),()))<|K (.tuple #[])
def uq(p0:FV)(c0:Addr)(h:JX p0 c0 K w):CV ZB [.v (.func p0.fn p0.fs p0.cs),.v (.pointer (some c0))] K w:=zE Tryz.f195 uv _ h
def up:yr Pr ZB:=Zb (by kernel_rfl)
def KB(p0:Sl)(K:Value→PT):PT:=
  L.new [Sv6 p0] ya λb1=>K (.func (.func jU) #[] #[.pointer (some (⟨b1,0,none⟩))])
def MT(p0:Sl)(h:KB p0 K w):CV uQ [.v (.slice p0.a p0.len p0.cap)] K w:=zE Tryz.f196 .auto _ h
def xW(p0:Sl)(K:Value→PT):PT:=
  L.ite ((p0.a).isNone) (K (.slice none 0 0))<|L.new [] ya λb1=>L.sem Pr (.one (.one .slice)) (Builtin.append_ #[zO,zO] zO #[.slice (some ⟨b1,0,none⟩) 0 0,Sv6 p0]) λ(s2:Sl)=>K (.slice s2.a s2.len s2.cap)
def vh(p0:Sl)(h:xW p0 K w):CV jz [.v (.slice p0.a p0.len p0.cap)] K w:=zE Tryz.f197 .auto _ h
def kE:Ann:=(.q2 (.q2 (.seq (.q2 (.one [(5,eI6),(12,eI6)] .auto) none) .auto none) none) none)
def qB(p0:Option Addr)(p1:Int)(K:Value→PT):PT:=
  L.call Pr jL [.pointer p0,I p1] rL λ(x1:Sl)=>L.loop (Y:=Int×Int×Unit) (0,0,()) λy2 again3=>L.ite (decide (y2.2.1<((x1.len:Nat):Int))) (L.idx x1.a y2.2.1 x1.len 1 λa4=>L.load (.one (.int .u8)) a4 λ(x5:Int)=>L.guard ((0:Int)≤8)<|again3 (Wi (((BitVec.ofInt 64 (Wi (y2.1*2 ^ (min (Int.toNat 8) 64)))) ||| (BitVec.ofInt 64 (Wi x5))).toNat:Int),Wi (y2.2.1+1),()))<|K (I y2.1)
def kx(p0:Option Addr)(p1:Int)(h:qB p0 p1 K w):CV Zj [.v (.pointer p0),.v (.int .i64 p1)] K w:=zE Tryz.f198 kE _ h
def ua(p0:Option Addr)(K:Value→PT):PT:=
  L.call Pr Zj [.pointer p0,I 1] rI λ(x1:Int)=>L.call Pr jL [.pointer p0,I x1] rL λ(x2:Sl)=>L.sem Pr rS (convert ya zd (.slice x2.a x2.len x2.cap)) λ(x3:B0)=>K (.string x3)
def oI(p0:Option Addr)(h:ua p0 K w):CV ZF [.v (.pointer p0)] K w:=zE Tryz.f199 .auto _ h
def kF:Ann:=(.q2 (.q2 (.seq (.q2 (.one [(16,eI6)] .auto) none) .auto none) none) none)
def qC(p0:Option Addr)(K:Value→PT):PT:=
  L.new [.string s_,I 0,I 0,I 0,I 0,I 0] zq λb1=>L.call Pr ZF [.pointer p0] rS λ(x2:B0)=>L.new [.string s_,I 0,I 0,I 0,I 0,I 0] zq λb3=>L.store (⟨b3,0,none⟩) [.string x2,I 0,I 0,I 0,I 0,I 0]<|L.new [.pointer (some (Ad6 b3 1)),.pointer (some (Ad6 b3 2)),.pointer (some (Ad6 b3 3)),.pointer (some (Ad6 b3 4)),.pointer (some (Ad6 b3 5))] nh λb4=>L.loop (Y:=Int×Unit) (0,()) λy5 again6=>L.ite (decide (y5.1<((5:Nat):Int))) (L.idx (some ⟨b4,0,none⟩) y5.1 5 1 λa7=>L.load eP6 a7 λ(x8:Option Addr)=>L.call Pr Zj [.pointer p0,I 1] rI λ(x9:Int)=>L.nonnil x8 λa10=>L.store a10 [I x9]<|again6 (Wi (y5.1+1),()))<|L.load (.agg lf0) (⟨b3,0,none⟩) λ(x11:pt0)=>L.store (⟨b1,0,none⟩) [.string x11.1,I x11.2.1,I x11.2.2.1,I x11.2.2.2.1,I x11.2.2.2.2.1,I x11.2.2.2.2.2.1]<|L.load (.agg lf0) (⟨b1,0,none⟩) λ(x12:pt0)=>K ((qa0 x12))
def ky(p0:Option Addr)(h:qC p0 K w):CV JO [.v (.pointer p0)] K w:=zE Tryz.f200 kF _ h
def KU:Ann:=(.q2 (.q2 (.seq (.q2 (.one [(14,eI6)] .auto) none) .auto (some [])) none) none)
def QC(p0:Option Addr)(K:Value→PT):PT:=
  L.new [.string s_,.string s_,.slice none 0 0,I 0] ZZ λb1=>L.call Pr ZF [.pointer p0] rS λ(x2:B0)=>L.call Pr ZF [.pointer p0] rS λ(x3:B0)=>L.call Pr Zj [.pointer p0,I 1] rI λ(x4:Int)=>L.new [.string s_,.string s_,.slice none 0 0,I 0] ZZ λb5=>L.store (⟨b5,0,none⟩) [.string x2,.string x3,.slice none 0 0,I x4]<|L.join (Y:=Unit) (λk6=>L.call Pr Zj [.pointer p0,I 1] rI λ(x8:Int)=>L.loop (Y:=Int×Unit) (0,()) λy9 again10=>L.ite (decide (y9.1<x8)) (L.call Pr ZF [.pointer p0] rS λ(x11:B0)=>L.call Pr ZF [.pointer p0] rS λ(x12:B0)=>L.call Pr Zj [.pointer p0,I 1] rI λ(x13:Int)=>L.new [.string s_,.string s_,I 0] zU λb14=>L.store (⟨b14,0,none⟩) [.string x11,.string x12,I x13]<|L.nonnil p0 λa15=>L.load eB6 (a15.add 1) λ(x16:Bool)=>L.ite x16 (k6 (()))<|L.load eL6 (Ad6 b5 2) λ(x17:Sl)=>L.load (.agg [.str,.str,.int .i64]) (⟨b14,0,none⟩) λ(x18:pt9)=>L.new [.string x18.1,.string x18.2.1,I x18.2.2.1] zU λb19=>L.sem Pr (.one (.one .slice)) (Builtin.append_ #[qi,qi] qi #[Sv6 x17,.slice (some ⟨b19,0,none⟩) 1 1]) λ(s20:Sl)=>L.store (Ad6 b5 2) [Sv6 s20]<|again10 (Wi (y9.1+1),()))<|k6 (())) λz7=>L.load (.agg [.str,.str,.slice,.int .i64]) (⟨b5,0,none⟩) λ(x21:pt3)=>L.store (⟨b1,0,none⟩) [.string x21.1,.string x21.2.1,Sv6 x21.2.2.1,I x21.2.2.2.1]<|L.load (.agg [.str,.str,.slice,.int .i64]) (⟨b1,0,none⟩) λ(x22:pt3)=>K (.agg #[.string x22.1,.string x22.2.1,Sv6 x22.2.2.1,I x22.2.2.2.1])
def KP(p0:Option Addr)(h:QC p0 K w):CV xm [.v (.pointer p0)] K w:=zE Tryz.f201 KU _ h
def Gr(p0:Int)(K:Value→PT):PT:=
  L.call Pr qc [.int .i32 p0] rB λ(x1:Bool)=>L.ite x1 (K (.bool true))<|L.ite (decide (p0≥48)) (L.ite (decide (p0≤57)) (K (.bool true))<|K (.bool (p0 == 45)))<|K (.bool (p0 == 45))
def Ts(p0:Int)(h:Gr p0 K w):CV Vp [.v (.int .i32 p0)] K w:=zE Tryz.f204 .auto _ h
def Ky(p0:Int)(K:Value→PT):PT:=
  L.ite (decide (p0≥97)) (K (.bool (decide (p0≤122))))<|K (.bool false)
def MR(p0:Int)(h:Ky p0 K w):CV qc [.v (.int .i32 p0)] K w:=zE Tryz.f205 .auto _ h
def yJ(p0:Sl)(p1:FV)(K:Value→PT):PT:=
  L.call Pr Ye [Sv6 p0,.func p1.fn p1.fs p1.cs] rI λ(x1:Int)=>K (.bool (decide (x1≥0)))
def Jb(p0:Sl)(p1:FV)(h:yJ p0 p1 K w):CV ZN [.v (.slice p0.a p0.len p0.cap),.v (.func p1.fn p1.fs p1.cs)] K w:=zE Tryz.f206 .auto _ h
def Gn(p0:HT [.str,.str,.int .i64])(c0:Addr)(K:Value→PT):PT:=
  L.new [.string p0.1,.string p0.2.1,I p0.2.2.1] zU λb1=>L.load eS6 (Ad6 b1 1) λ(x2:B0)=>L.load eS6 (c0.add 1) λ(x3:B0)=>K (.bool (x2.toList == x3.toList))
def To(p0:HT [.str,.str,.int .i64])(c0:Addr)(h:Gn p0 c0 K w):CV xE [.ag [.string p0.1,.string p0.2.1,.int .i64 p0.2.2.1],.v (.pointer (some c0))] K w:=zE Tryz.f207 .auto _ h
def Tj:yr Pr xE:=Zb (by kernel_rfl)
def QX(p0:Option Addr)(p1:B0)(K:Value→PT):PT:=
  L.new [.slice none 0 0,.slice none 0 0] yZ λb1=>L.nonnil p0 λa2=>L.load (.one (.map)) (a2.add 0) λ(x3:Option Nat)=>L.semR Pr (.tup [(.agg Ab),.one .bool]) (Instr.lookup jj (.map x3) (.string p1) true) λ(x4:AK)=>L.new [.slice none 0 0,.slice none 0 0,I 0,I 0,.slice none 0 0,.slice none 0 0] Uh λb5=>L.store (⟨b5,0,none⟩) [Sv6 x4.1.1,Sv6 x4.1.2.1,I x4.1.2.2.1,I x4.1.2.2.2.1,Sv6 x4.1.2.2.2.2.1,Sv6 x4.1.2.2.2.2.2.1]<|L.ite (!x4.2.1) (L.store (⟨b1,0,none⟩) [.slice none 0 0,.slice none 0 0]<|L.load (.agg [.slice,.slice]) (⟨b1,0,none⟩) λ(x6:Sl×Sl×Unit)=>K (.tuple #[.agg #[Sv6 x6.1,Sv6 x6.2.1],.bool false]))<|L.load (.agg [.slice,.slice]) (Ad6 b5 4) λ(x7:Sl×Sl×Unit)=>L.call Pr ON [.agg #[Sv6 x7.1,Sv6 x7.2.1]] (.one (.agg [.slice,.slice])) λ(x8:Sl×Sl×Unit)=>L.store (⟨b1,0,none⟩) [Sv6 x8.1,Sv6 x8.2.1]<|L.load (.agg [.slice,.slice]) (⟨b1,0,none⟩) λ(x9:Sl×Sl×Unit)=>K (.tuple #[.agg #[Sv6 x9.1,Sv6 x9.2.1],.bool true])
def oF(p0:Option Addr)(p1:B0)(h:QX p0 p1 K w):CV xN [.v (.pointer p0),.v (.string p1)] K w:=zE Tryz.f214 .auto _ h
def gA:Ann:=(.q2 (.q2 (.q2 (.seq (.q2 (.q2 .auto (some [(28,eI6),(29,eP6)])) none) (.q2 (.seq (.q2 (.one [(41,eI6)] .auto) none) .auto none) none) none) none) none) none)
def Ut(p0:Option Addr)(p1:B0)(p2:Int)(K:Value→PT):PT:=
  L.nonnil p0 λa1=>L.load (.one (.map)) (a1.add 1) λ(x2:Option Nat)=>L.semR Pr (.tup [eI6,.one .bool]) (Instr.lookup Qj (.map x2) (I p2) true) λ(x3:Int×Bool×Unit)=>L.ite x3.2.1 (K (.tuple #[I 0,.bool false]))<|L.new [.slice none 0 0] Zy λb4=>L.call Pr YP [.pointer p0,.string p1] (.one (.one (.func))) λ(x5:FV)=>L.range Pr none (.func x5.fn x5.fs x5.cs) [eI6,eP6] (λl6(y7:Int×Option Addr×Unit) R8=>L.begin Pr l6<|L.draw<|L.load eL6 (⟨b4,0,none⟩) λ(x11:Sl)=>L.call Pr yQ [.pointer y7.2.1] rI λ(x12:Int)=>L.chk (⟨b4,0,none⟩) [Sv6 x11]<|L.new [I x12,I y7.1] zk λb13=>L.chk (⟨b4,0,none⟩) [Sv6 x11]<|L.sem Pr (.one (.one .slice)) (Builtin.append_ #[Zy,Zy] Zy #[Sv6 x11,.slice (some ⟨b13,0,none⟩) 1 1]) λ(s14:Sl)=>L.store (⟨b4,0,none⟩) [Sv6 s14]<|L.endRound Pr l6 none R8) λd9 j10=>L.jump j10 (L.load eL6 (⟨b4,0,none⟩) λ(x15:Sl)=>L.call Pr zY [Sv6 x15,.func (.func zN) #[] #[]] (.tup []) λ(x16:Unit)=>L.load eL6 (⟨b4,0,none⟩) λ(x17:Sl)=>L.loop (Y:=Int×Unit) (0,()) λy18 again19=>L.ite (decide (y18.1<((x17.len:Nat):Int))) (L.idx x17.a y18.1 x17.len 2 λa20=>L.load (.agg [.int .i64,.int .i64]) a20 λ(x21:Int×Int×Unit)=>L.new [I 0,I 0] zk λb22=>L.store (⟨b22,0,none⟩) [I x21.1,I x21.2.1]<|L.draw<|L.nonnil p0 λa23=>L.load (.one (.map)) (a23.add 0) λ(x24:Option Nat)=>L.load eI6 (Ad6 b22 1) λ(x25:Int)=>L.semR Pr (.one (.agg [.str,.ptr])) (Instr.lookup Ze (.map x24) (I x25) false) λ(x26:B0×Option Addr×Unit)=>L.call Pr qa [.pointer x26.2.1,I p2] rI λ(x27:Int)=>L.ite (x27 == 0) (L.draw<|L.nonnil p0 λa28=>L.load (.one (.map)) (a28.add 1) λ(x29:Option Nat)=>L.load eI6 (Ad6 b22 1) λ(x30:Int)=>L.semU Pr (Instr.mapUpdate Qj (.map x29) (I p2) (I x30))<|L.load eI6 (Ad6 b22 1) λ(x31:Int)=>L.unmark Pr (d9++[])<|K (.tuple #[I x31,.bool true]))<|again19 (Wi (y18.1+1),()))<|L.unmark Pr (d9++[])<|K (.tuple #[I 0,.bool false])) (L.unmark Pr (d9++[])<|K (.tuple #[I 0,.bool false])) []
def gq(p0:Option Addr)(p1:B0)(p2:Int)(h:Ut p0 p1 p2 K w):CV Xq [.v (.pointer p0),.v (.string p1),.v (.int .i64 p2)] K w:=zE Tryz.f215 gA _ h
def gv:Ann:=(.q2 (.seq (.q2 (.q2 .auto (some [(8,eI6),(9,eI6)])) none) .auto none) none)
def Uj(p0:Option Addr)(p1:Int)(K:Value→PT):PT:=
  L.new [I p1] zm λb1=>L.new [.bool false] Vw λb2=>L.call Pr Yv [.pointer p0] (.one (.one (.func))) λ(x3:FV)=>L.range Pr none (.func x3.fn x3.fs x3.cs) [eI6,eI6] (λl4(y5:Int×Int×Unit) R6=>L.begin Pr l4<|L.load eI6 (⟨b1,0,none⟩) λ(x9:Int)=>L.ite (y5.1 == x9) (L.store (⟨b2,0,none⟩) [.bool true]<|L.endRound Pr l4 (some .ret) R6)<|L.endRound Pr l4 none R6) λd7 j8=>L.jump j8 (L.store (⟨b2,0,none⟩) [.bool false]<|L.unmark Pr (d7++[])<|L.load eB6 (⟨b2,0,none⟩) λ(x10:Bool)=>K (.bool x10)) (L.unmark Pr (d7++[])<|L.load eB6 (⟨b2,0,none⟩) λ(x11:Bool)=>K (.bool x11)) []
def ge(p0:Option Addr)(p1:Int)(h:Uj p0 p1 K w):CV Xi [.v (.pointer p0),.v (.int .i64 p1)] K w:=zE Tryz.f216 gv _ h
def fJ:Ann:=(.q2 (.one [(7,eI6)] .auto) none)
def vG(p0:FV)(c0:Addr)(K:Value→PT):PT:=
  L.load eL6 c0 λ(x1:Sl)=>L.loop (Y:=Int×Unit) (0,()) λy2 again3=>L.ite (decide (y2.1<((x1.len:Nat):Int))) (L.idx x1.a y2.1 x1.len 4 λa4=>L.load (.agg [.int .i64,.int .i64,.int .i64,.str]) a4 λ(x5:VX)=>L.new [I 0,I 0,I 0,.string s_] zL λb6=>L.store (⟨b6,0,none⟩) [I x5.1,I x5.2.1,I x5.2.2.1,.string x5.2.2.2.1]<|L.load (.agg [.int .i64,.int .i64,.int .i64,.str]) (⟨b6,0,none⟩) λ(x7:VX)=>L.call Pr UX [.agg #[I x7.1,I x7.2.1,I x7.2.2.1,.string x7.2.2.2.1]] rS λ(x8:B0)=>L.callV Pr (.func p0.fn p0.fs p0.cs) [.string x8] rB λ(x9:Bool)=>L.ite (!x9) (K (.tuple #[]))<|again3 (Wi (y2.1+1),()))<|K (.tuple #[])
def fu(p0:FV)(c0:Addr)(h:vG p0 c0 K w):CV jQ [.v (.func p0.fn p0.fs p0.cs),.v (.pointer (some c0))] K w:=zE Tryz.f217 fJ _ h
def fh:yr Pr jQ:=Zb (by kernel_rfl)
def pI:Ann:=(.q2 (.q2 (.seq (.one [(2,eS6)] .auto) .auto none) none) none)
def Of(p0:ht3)(K:Value→PT):PT:=
  L.new [I p0.1,I p0.2.1,I p0.2.2.1,.string p0.2.2.2.1] zL λb1=>L.load eI6 (Ad6 b1 1) λ(x2:Int)=>L.ite (x2 == 1) (L.load eI6 (Ad6 b1 0) λ(x3:Int)=>L.load eI6 (Ad6 b1 2) λ(x4:Int)=>L.new [I x3,I x4] zm λb5=>L.call Pr zF [.string wp,.slice (some ⟨b5,0,none⟩) 2 2] rS λ(x6:B0)=>K (.string x6))<|L.ite (x2 == 2) (L.load eI6 (Ad6 b1 0) λ(x7:Int)=>L.new [I x7] zm λb8=>L.call Pr zF [.string DC,.slice (some ⟨b8,0,none⟩) 1 1] rS λ(x9:B0)=>K (.string x9))<|L.ite (x2 == 3) (L.load eI6 (Ad6 b1 0) λ(x10:Int)=>L.new [I x10] zm λb11=>L.call Pr zF [.string wC,.slice (some ⟨b11,0,none⟩) 1 1] rS λ(x12:B0)=>K (.string x12))<|L.join (Y:=B0×Unit) (λk13=>L.draw<|L.load eI6 (Ad6 b1 0) λ(x15:Int)=>L.load eS6 (Ad6 b1 3) λ(x16:B0)=>L.alts [(L.new [I x15] zm λb17=>L.chk (Ad6 b1 3) [.string x16]<|L.alts [(L.call Pr zF [.string XA,.slice (some ⟨b17,0,none⟩) 1 1] rS λ(x18:B0)=>L.chk (Ad6 b1 3) [.string x16]<|L.new [.string x16] zd λb19=>L.chk (Ad6 b1 0) [I x15]<|L.call Pr zG [.string x18,.slice (some ⟨b19,0,none⟩) 1 1] rS λ(x20:B0)=>k13 (x20,())),(L.new [.string x16] zd λb21=>L.chk (Ad6 b1 0) [I x15]<|L.call Pr zF [.string XA,.slice (some ⟨b17,0,none⟩) 1 1] rS λ(x22:B0)=>L.chk (Ad6 b1 3) [.string x16]<|L.call Pr zG [.string x22,.slice (some ⟨b21,0,none⟩) 1 1] rS λ(x23:B0)=>k13 (x23,()))]),(L.new [.string x16] zd λb24=>L.chk (Ad6 b1 0) [I x15]<|L.new [I x15] zm λb25=>L.chk (Ad6 b1 3) [.string x16]<|L.call Pr zF [.string XA,.slice (some ⟨b25,0,none⟩) 1 1] rS λ(x26:B0)=>L.chk (Ad6 b1 3) [.string x16]<|L.call Pr zG [.string x26,.slice (some ⟨b24,0,none⟩) 1 1] rS λ(x27:B0)=>k13 (x27,()))]) λz14=>K (.string z14.1)
def po(p0:ht3)(h:Of p0 K w):CV UX [.ag (qc3 p0)] K w:=zE Tryz.f218 pI _ h
def QW(p0:FV)(K:Value→PT):PT:=
  L.call Pr Qn [.func p0.fn p0.fs p0.cs] rL λ(x1:Sl)=>L.call Pr JM [Sv6 x1] (.tup []) λ(x2:Unit)=>K (.slice x1.a x1.len x1.cap)
def oE(p0:FV)(h:QW p0 K w):CV jK [.v (.func p0.fn p0.fs p0.cs)] K w:=zE Tryz.f220 .auto _ h
def VS(p0:Option Addr)(K:Value→PT):PT:=
  L.nonnil p0 λa1=>L.load eI6 (a1.add 0) λ(x2:Int)=>K (I x2)
def FB(p0:Option Addr)(h:VS p0 K w):CV ZT [.v (.pointer p0)] K w:=zE Tryz.f223 .auto _ h
def QN:Ann:=(.q2 (.one [(12,eI6)] .auto) none)
def JE(p0:FV)(c0:Addr)(K:Value→PT):PT:=
  L.load eP6 c0 λ(x1:Option Addr)=>L.nonnil x1 λa2=>L.load (.one (.map)) (a2.add 0) λ(x3:Option Nat)=>L.call Pr Zs [.map x3] (.one (.one (.func))) λ(x4:FV)=>L.call Pr yO [.func x4.fn x4.fs x4.cs] rL λ(x5:Sl)=>L.loop (Y:=Int×Unit) (0,()) λy6 again7=>L.ite (decide (y6.1<((x5.len:Nat):Int))) (L.idx x5.a y6.1 x5.len 1 λa8=>L.load eS6 a8 λ(x9:B0)=>L.load eP6 c0 λ(x10:Option Addr)=>L.nonnil x10 λa11=>L.load (.one (.map)) (a11.add 0) λ(x12:Option Nat)=>L.semR Pr rP (Instr.lookup zW (.map x12) (.string x9) false) λ(x13:Option Addr)=>L.callV Pr (.func p0.fn p0.fs p0.cs) [.string x9,.pointer x13] rB λ(x14:Bool)=>L.ite (!x14) (K (.tuple #[]))<|again7 (Wi (y6.1+1),()))<|K (.tuple #[])
def QM(p0:FV)(c0:Addr)(h:JE p0 c0 K w):CV ZU [.v (.func p0.fn p0.fs p0.cs),.v (.pointer (some c0))] K w:=zE Tryz.f224 QN _ h
def QL:yr Pr ZU:=Zb (by kernel_rfl)
def qk(p0:FV)(K:Value→PT):PT:=
  L.call Pr XC [.func p0.fn p0.fs p0.cs] rL λ(x1:Sl)=>L.call Pr JU [Sv6 x1] (.tup []) λ(x2:Unit)=>K (.slice x1.a x1.len x1.cap)
def VD(p0:FV)(h:qk p0 K w):CV yO [.v (.func p0.fn p0.fs p0.cs)] K w:=zE Tryz.f225 .auto _ h
def yg(p0:Option Nat)(K:Value→PT):PT:=
  L.new [.map p0] zW λb1=>K (.func (.func zC) #[] #[.pointer (some (⟨b1,0,none⟩))])
def jl(p0:Option Nat)(h:yg p0 K w):CV Zs [.v (.map p0)] K w:=zE Tryz.f226 .auto _ h
def oM:Ann:=(.q2 (.q2 (.q2 (.seq (.q2 (.q2 .auto (some [(11,eI6),(12,eI6)])) none) .auto none) none) none) none)
def QT(p0:Option Addr)(p1:Int)(K:Value→PT):PT:=
  L.new [I p1] zm λb1=>L.new [.slice none 0 0] Zv λb2=>L.new [.slice none 0 0] ZK λb3=>L.call Pr Yv [.pointer p0] (.one (.one (.func))) λ(x4:FV)=>L.range Pr none (.func x4.fn x4.fs x4.cs) [eI6,eI6] (λl5(y6:Int×Int×Unit) R7=>L.begin Pr l5<|L.load eI6 (⟨b1,0,none⟩) λ(x10:Int)=>L.ite (decide (y6.2.1≤x10)) (L.load eL6 (⟨b2,0,none⟩) λ(x11:Sl)=>L.new [I y6.1] zm λb12=>L.sem Pr (.one (.one .slice)) (Builtin.append_ #[Zv,Zv] Zv #[Sv6 x11,.slice (some ⟨b12,0,none⟩) 1 1]) λ(s13:Sl)=>L.store (⟨b2,0,none⟩) [Sv6 s13]<|L.endRound Pr l5 none R7)<|L.load eL6 (⟨b3,0,none⟩) λ(x14:Sl)=>L.new [I y6.1,I y6.2.1] Yt λb15=>L.sem Pr (.one (.one .slice)) (Builtin.append_ #[ZK,ZK] ZK #[Sv6 x14,.slice (some ⟨b15,0,none⟩) 1 1]) λ(s16:Sl)=>L.store (⟨b3,0,none⟩) [Sv6 s16]<|L.endRound Pr l5 none R7) λd8 j9=>L.jump j9 (L.load eL6 (⟨b3,0,none⟩) λ(x17:Sl)=>L.nonnil p0 λa18=>L.store (a18.add 0) [Sv6 x17]<|L.load eL6 (⟨b2,0,none⟩) λ(x19:Sl)=>L.call Pr Zz [Sv6 x19] rL λ(x20:Sl)=>L.unmark Pr (d8++[])<|K (.slice x20.a x20.len x20.cap)) (L.unmark Pr (d8++[])<|K (.slice none 0 0)) []
def oB(p0:Option Addr)(p1:Int)(h:QT p0 p1 K w):CV QP [.v (.pointer p0),.v (.int .i64 p1)] K w:=zE Tryz.f227 oM _ h
def ju(p0:Option Nat)(K:Value→PT):PT:=
  L.call Pr ZP [.map p0] (.one (.one (.func))) λ(x1:FV)=>L.call Pr yO [.func x1.fn x1.fs x1.cs] rL λ(x2:Sl)=>K (.slice x2.a x2.len x2.cap)
def qm(p0:Option Nat)(h:ju p0 K w):CV yN [.v (.map p0)] K w:=zE Tryz.f228 .auto _ h
def je(p0:Sl)(K:Value→PT):PT:=
  L.ite ((p0.a).isNone) (K (.slice none 0 0))<|L.new [] YL λb1=>L.sem Pr (.one (.one .slice)) (Builtin.append_ #[Qh,Qh] Qh #[.slice (some ⟨b1,0,none⟩) 0 0,Sv6 p0]) λ(s2:Sl)=>K (.slice s2.a s2.len s2.cap)
def Xx(p0:Sl)(h:je p0 K w):CV yB [.v (.slice p0.a p0.len p0.cap)] K w:=zE Tryz.f234 .auto _ h
def jc(p0:Sl)(K:Value→PT):PT:=
  L.ite ((p0.a).isNone) (K (.slice none 0 0))<|L.new [] XJ λb1=>L.sem Pr (.one (.one .slice)) (Builtin.append_ #[Qg,Qg] Qg #[.slice (some ⟨b1,0,none⟩) 0 0,Sv6 p0]) λ(s2:Sl)=>K (.slice s2.a s2.len s2.cap)
def Xw(p0:Sl)(h:jc p0 K w):CV yA [.v (.slice p0.a p0.len p0.cap)] K w:=zE Tryz.f235 .auto _ h
def gB:Ann:=(.q2 (.q2 (.seq (.q2 (.q2 .auto (some [(11,eI6),(12,eP6)])) none) .auto none) none) none)
def Uu(p0:Option Addr)(p1:B0)(K:Value→PT):PT:=
  L.new [.slice none 0 0] ZX λb1=>L.call Pr YP [.pointer p0,.string p1] (.one (.one (.func))) λ(x2:FV)=>L.range Pr none (.func x2.fn x2.fs x2.cs) [eI6,eP6] (λl3(y4:Int×Option Addr×Unit) R5=>L.begin Pr l3<|L.draw<|L.load eL6 (⟨b1,0,none⟩) λ(x8:Sl)=>L.call Pr ZT [.pointer y4.2.1] rI λ(x9:Int)=>L.chk (⟨b1,0,none⟩) [Sv6 x8]<|L.call Pr yQ [.pointer y4.2.1] rI λ(x10:Int)=>L.chk (⟨b1,0,none⟩) [Sv6 x8]<|L.new [I y4.1,I x9,I x10] Js λb11=>L.chk (⟨b1,0,none⟩) [Sv6 x8]<|L.sem Pr (.one (.one .slice)) (Builtin.append_ #[ZX,ZX] ZX #[Sv6 x8,.slice (some ⟨b11,0,none⟩) 1 1]) λ(s12:Sl)=>L.store (⟨b1,0,none⟩) [Sv6 s12]<|L.endRound Pr l3 none R5) λd6 j7=>L.jump j7 (L.load eL6 (⟨b1,0,none⟩) λ(x13:Sl)=>L.call Pr yl [Sv6 x13] rL λ(x14:Sl)=>L.unmark Pr (d6++[])<|K (.slice x14.a x14.len x14.cap)) (L.unmark Pr (d6++[])<|K (.slice none 0 0)) []
def gu(p0:Option Addr)(p1:B0)(h:Uu p0 p1 K w):CV Xr [.v (.pointer p0),.v (.string p1)] K w:=zE Tryz.f239 gB _ h
def Vb:Ann:=(.q2 (.one [(3,eI6)] .auto) none)
def XP(p0:FV)(c0:Addr)(K:Value→PT):PT:=
  L.loop (Y:=Int×Unit) (1,()) λy1 again2=>L.load eP6 c0 λ(x3:Option Addr)=>L.nonnil x3 λa4=>L.load eI6 (a4.add 60) λ(x5:Int)=>L.ite (decide (y1.1≤(if 60<x5 then 60 else x5))) (L.draw<|L.load eP6 c0 λ(x6:Option Addr)=>L.load eP6 c0 λ(x7:Option Addr)=>L.nonnil x7 λa8=>L.load eI6 (a8.add 60) λ(x9:Int)=>L.guard (60≠(0:Int))<|L.nonnil x6 λa10=>L.idx (some (a10.add 0)) (Int.tmod (Wi (x9-y1.1)) 60) 60 1 λa11=>L.load eI6 a11 λ(x12:Int)=>L.callV Pr (.func p0.fn p0.fs p0.cs) [I x12] rB λ(x13:Bool)=>L.ite (!x13) (K (.tuple #[]))<|again2 (Wi (y1.1+1),()))<|K (.tuple #[])
def vX(p0:FV)(c0:Addr)(h:XP p0 c0 K w):CV yH [.v (.func p0.fn p0.fs p0.cs),.v (.pointer (some c0))] K w:=zE Tryz.f240 Vb _ h
def vS:yr Pr yH:=Zb (by kernel_rfl)
def vO(p0:Option Addr)(p1:B0)(K:Value→PT):PT:=
  L.new [.pointer p0] Zd λb1=>L.new [.string p1] zd λb2=>K (.func (.func YW) #[] #[.pointer (some (⟨b1,0,none⟩)),.pointer (some (⟨b2,0,none⟩))])
def fG(p0:Option Addr)(p1:B0)(h:vO p0 p1 K w):CV YP [.v (.pointer p0),.v (.string p1)] K w:=zE Tryz.f241 .auto _ h
def Un(p0:Option Addr)(K:Value→PT):PT:=
  L.nonnil p0 λa1=>L.load (.one (.map)) ((a1.add 1).add 0) λ(x2:Option Nat)=>L.semR Pr rI (Builtin.len_ #[Ja] zm #[.map x2]) λ(x3:Int)=>K (I x3)
def KM(p0:Option Addr)(h:Un p0 K w):CV yQ [.v (.pointer p0)] K w:=zE Tryz.f242 .auto _ h
def pL:Ann:=(.q2 (.cond .auto .auto) none)
def Oj(p0:Option Addr)(K:Value→PT):PT:=
  L.nonnil p0 λa1=>L.load eI6 (a1.add 0) λ(x2:Int)=>L.ite (x2 == 3) (L.call Pr yQ [.pointer p0] rI λ(x3:Int)=>L.ite (x3 == 0) (L.nonnil p0 λa4=>L.store (a4.add 0) [I 4]<|K (.tuple #[]))<|K (.tuple #[]))<|K (.tuple #[])
def pt(p0:Option Addr)(h:Oj p0 K w):CV UZ [.v (.pointer p0)] K w:=zE Tryz.f243 pL _ h
def kA:Ann:=(.q2 (.one [(10,eI6)] .auto) none)
def qv(p0:FV)(c0:Addr)(K:Value→PT):PT:=
  L.load eP6 c0 λ(x1:Option Addr)=>L.nonnil x1 λa2=>L.load eL6 (a2.add 0) λ(x3:Sl)=>L.loop (Y:=Int×Unit) (0,()) λy4 again5=>L.ite (decide (y4.1<((x3.len:Nat):Int))) (L.idx x3.a y4.1 x3.len 2 λa6=>L.load (.agg [.int .i64,.int .i64]) a6 λ(x7:Int×Int×Unit)=>L.new [I 0,I 0] Yt λb8=>L.store (⟨b8,0,none⟩) [I x7.1,I x7.2.1]<|L.load eI6 (Ad6 b8 0) λ(x9:Int)=>L.load eI6 (Ad6 b8 1) λ(x10:Int)=>L.callV Pr (.func p0.fn p0.fs p0.cs) [I x9,I x10] rB λ(x11:Bool)=>L.ite (!x11) (K (.tuple #[]))<|again5 (Wi (y4.1+1),()))<|K (.tuple #[])
def kf(p0:FV)(c0:Addr)(h:qv p0 c0 K w):CV Yd [.v (.func p0.fn p0.fs p0.cs),.v (.pointer (some c0))] K w:=zE Tryz.f255 kA _ h
def kc:yr Pr Yd:=Zb (by kernel_rfl)
def fM:Ann:=(.one [] (.q2 (.q2 (.seq (.q2 (.cond .auto (.seq (.one [(3,eI6)] .auto) .auto none)) none) .auto (some [(3,eI6)])) none) none))
def vP(p0:FV)(c0:Addr)(K:Value→PT):PT:=
  L.loop (Y:=Unit) (()) λy1 again2=>L.load eL6 c0 λ(x3:Sl)=>L.ite (decide (((x3.len:Nat):Int)>0)) (L.join (Y:=Int×Unit) (λk4=>L.load eL6 c0 λ(x6:Sl)=>L.ite (decide (((x6.len:Nat):Int)<2)) (L.load eL6 c0 λ(x7:Sl)=>k4 (((x7.len:Nat):Int),()))<|L.join (Y:=Int×Unit) (λk8=>L.draw<|L.load eL6 c0 λ(x10:Sl)=>L.idx x10.a 0 x10.len 1 λa11=>L.load (.one (.int .u8)) a11 λ(x12:Int)=>L.load eL6 c0 λ(x13:Sl)=>L.idx x13.a 1 x13.len 1 λa14=>L.load (.one (.int .u8)) a14 λ(x15:Int)=>L.load eL6 c0 λ(x16:Sl)=>L.alts [(L.chk c0 [Sv6 x16]<|L.chk a14 [.int .u8 x15]<|L.chk c0 [Sv6 x13]<|L.guard ((0:Int)≤8)<|L.chk c0 [Sv6 x16]<|L.chk a11 [.int .u8 x12]<|L.chk c0 [Sv6 x10]<|k8 (if(Wi (((x16.len:Nat):Int)-2))<(Wi (((BitVec.ofInt 64 (Wi ((Wi x12)*2 ^ (min (Int.toNat 8) 64)))) ||| (BitVec.ofInt 64 (Wi x15))).toNat:Int))then(Wi (((x16.len:Nat):Int)-2))else(Wi (((BitVec.ofInt 64 (Wi ((Wi x12)*2 ^ (min (Int.toNat 8) 64)))) ||| (BitVec.ofInt 64 (Wi x15))).toNat:Int)),())),(L.chk c0 [Sv6 x16]<|L.chk a11 [.int .u8 x12]<|L.chk c0 [Sv6 x10]<|L.chk c0 [Sv6 x16]<|L.chk a14 [.int .u8 x15]<|L.chk c0 [Sv6 x13]<|L.guard ((0:Int)≤8)<|k8 (if(Wi (((x16.len:Nat):Int)-2))<(Wi (((BitVec.ofInt 64 (Wi ((Wi x12)*2 ^ (min (Int.toNat 8) 64)))) ||| (BitVec.ofInt 64 (Wi x15))).toNat:Int))then(Wi (((x16.len:Nat):Int)-2))else(Wi (((BitVec.ofInt 64 (Wi ((Wi x12)*2 ^ (min (Int.toNat 8) 64)))) ||| (BitVec.ofInt 64 (Wi x15))).toNat:Int)),()))]) λz9=>L.load eL6 c0 λ(x17:Sl)=>L.guard (0≤(2:Int)∧(2:Int)≤((x17.len:Nat):Int)∧((x17.len:Nat):Int)≤((x17.cap:Nat):Int)∧((x17.cap:Nat):Int)≤x17.cap)<|L.store c0 [.slice (if Int.toNat ((x17.cap:Nat):Int)=Int.toNat (2:Int)then x17.a else Option.map (λa:Addr=>a.add (Int.toNat (2:Int)*1)) x17.a) (Int.toNat ((x17.len:Nat):Int)-Int.toNat (2:Int)) (Int.toNat ((x17.cap:Nat):Int)-Int.toNat (2:Int))]<|k4 (z9.1,())) λz5=>L.load eL6 c0 λ(x18:Sl)=>L.guard (0≤(0:Int)∧(0:Int)≤z5.1∧z5.1≤((x18.cap:Nat):Int)∧((x18.cap:Nat):Int)≤x18.cap)<|L.call Pr YU [.slice (if Int.toNat ((x18.cap:Nat):Int)=Int.toNat (0:Int)then x18.a else Option.map (λa:Addr=>a.add (Int.toNat (0:Int)*1)) x18.a) (Int.toNat z5.1-Int.toNat (0:Int)) (Int.toNat ((x18.cap:Nat):Int)-Int.toNat (0:Int))] rL λ(x19:Sl)=>L.callV Pr (.func p0.fn p0.fs p0.cs) [Sv6 x19] rB λ(x20:Bool)=>L.ite (!x20) (K (.tuple #[]))<|L.load eL6 c0 λ(x21:Sl)=>L.guard (0≤z5.1∧z5.1≤((x21.len:Nat):Int)∧((x21.len:Nat):Int)≤((x21.cap:Nat):Int)∧((x21.cap:Nat):Int)≤x21.cap)<|L.store c0 [.slice (if Int.toNat ((x21.cap:Nat):Int)=Int.toNat z5.1 then x21.a else Option.map (λa:Addr=>a.add (Int.toNat z5.1*1)) x21.a) (Int.toNat ((x21.len:Nat):Int)-Int.toNat z5.1) (Int.toNat ((x21.cap:Nat):Int)-Int.toNat z5.1)]<|again2 (()))<|K (.tuple #[])
def fH(p0:FV)(c0:Addr)(h:vP p0 c0 K w):CV jU [.v (.func p0.fn p0.fs p0.cs),.v (.pointer (some c0))] K w:=zE Tryz.f256 fM _ h
def fj:yr Pr jU:=Zb (by kernel_rfl)
def xu(p0:Sl)(K:Value→PT):PT:=
  L.ite ((p0.a).isNone) (K (.slice none 0 0))<|L.new [] yc λb1=>L.sem Pr (.one (.one .slice)) (Builtin.append_ #[ya,ya] ya #[.slice (some ⟨b1,0,none⟩) 0 0,Sv6 p0]) λ(s2:Sl)=>K (.slice s2.a s2.len s2.cap)
def Uv(p0:Sl)(h:xu p0 K w):CV YU [.v (.slice p0.a p0.len p0.cap)] K w:=zE Tryz.f257 .auto _ h
def oP:Ann:=(.q2 (.seq (.q2 .auto (some [])) .auto none) none)
def ub(p0:Option Addr)(p1:Int)(K:Value→PT):PT:=
  L.join (Y:=Unit) (λk1=>L.nonnil p0 λa3=>L.load eB6 (a3.add 1) λ(x4:Bool)=>L.ite x4 (L.nonnil p0 λa5=>L.store (a5.add 1) [.bool true]<|k1 (()))<|L.nonnil p0 λa6=>L.load eL6 (a6.add 0) λ(x7:Sl)=>L.nonnil p0 λa8=>L.store (a8.add 1) [.bool (decide (((x7.len:Nat):Int)<p1))]<|k1 (())) λz2=>L.nonnil p0 λa9=>L.load eB6 (a9.add 1) λ(x10:Bool)=>L.ite x10 (L.sem Pr (.one (.one .slice)) (Instr.makeSlice ya (I p1) (I p1)) λ(s11:Sl)=>K (.slice s11.a s11.len s11.cap))<|L.nonnil p0 λa12=>L.load eL6 (a12.add 0) λ(x13:Sl)=>L.guard (0≤(0:Int)∧(0:Int)≤p1∧p1≤((x13.cap:Nat):Int)∧((x13.cap:Nat):Int)≤x13.cap)<|L.nonnil p0 λa14=>L.load eL6 (a14.add 0) λ(x15:Sl)=>L.guard (0≤p1∧p1≤((x15.len:Nat):Int)∧((x15.len:Nat):Int)≤((x15.cap:Nat):Int)∧((x15.cap:Nat):Int)≤x15.cap)<|L.nonnil p0 λa16=>L.store (a16.add 0) [.slice (if Int.toNat ((x15.cap:Nat):Int)=Int.toNat p1 then x15.a else Option.map (λa:Addr=>a.add (Int.toNat p1*1)) x15.a) (Int.toNat ((x15.len:Nat):Int)-Int.toNat p1) (Int.toNat ((x15.cap:Nat):Int)-Int.toNat p1)]<|K (.slice (if Int.toNat ((x13.cap:Nat):Int)=Int.toNat (0:Int)then x13.a else Option.map (λa:Addr=>a.add (Int.toNat (0:Int)*1)) x13.a) (Int.toNat p1-Int.toNat (0:Int)) (Int.toNat ((x13.cap:Nat):Int)-Int.toNat (0:Int)))
def oJ(p0:Option Addr)(p1:Int)(h:ub p0 p1 K w):CV jL [.v (.pointer p0),.v (.int .i64 p1)] K w:=zE Tryz.f258 oP _ h
def JS:Ann:=(.q2 (.seq (.q2 (.one [(8,eI6)] .auto) none) .auto none) none)
def Yf(p0:Sl)(p1:FV)(K:Value→PT):PT:=
  L.loop (Y:=Int×Unit) (0,()) λy1 again2=>L.ite (decide (y1.1<((p0.len:Nat):Int))) (L.idx p0.a y1.1 p0.len 3 λa3=>L.load (.agg [.str,.str,.int .i64]) a3 λ(x4:pt9)=>L.callV Pr (.func p1.fn p1.fs p1.cs) [.agg #[.string x4.1,.string x4.2.1,I x4.2.2.1]] rB λ(x5:Bool)=>L.ite x5 (K (I y1.1))<|again2 (Wi (y1.1+1),()))<|K (I (-1))
def JR(p0:Sl)(p1:FV)(h:Yf p0 p1 K w):CV Ye [.v (.slice p0.a p0.len p0.cap),.v (.func p1.fn p1.fs p1.cs)] K w:=zE Tryz.f263 JS _ h
def Zt(p0:Sl)(p1:FV)(K:Value→PT):PT:=
  L.call Pr YI [Sv6 p0,I ((p0.len:Nat):Int),.func p1.fn p1.fs p1.cs] (.tup []) λ(x1:Unit)=>K (.tuple #[])
def yh(p0:Sl)(p1:FV)(h:Zt p0 p1 K w):CV zY [.v (.slice p0.a p0.len p0.cap),.v (.func p1.fn p1.fs p1.cs)] K w:=zE Tryz.f270 .auto _ h
def QB(p0 p1:HT [.int .i64,.int .i64])(K:Value→PT):PT:=
  L.new [I p0.1,I p0.2.1] zk λb1=>L.new [I p1.1,I p1.2.1] zk λb2=>L.load eI6 (Ad6 b1 0) λ(x3:Int)=>L.load eI6 (Ad6 b2 0) λ(x4:Int)=>K (I (Wi (x3-x4)))
def KO(p0 p1:HT [.int .i64,.int .i64])(h:QB p0 p1 K w):CV zN [.ag [.int .i64 p0.1,.int .i64 p0.2.1],.ag [.int .i64 p1.1,.int .i64 p1.2.1]] K w:=zE Tryz.f271 .auto _ h
def KE:yr Pr zN:=Zb (by kernel_rfl)
def Kw(p0:Option Addr)(p1:Int)(K:Value→PT):PT:=
  L.nonnil p0 λa1=>L.load eI6 (a1.add 0) λ(x2:Int)=>L.ite (x2 != 2) (K (I 9))<|L.nonnil p0 λa3=>L.call Pr UJ [.pointer (some (a3.add 1)),I p1] rI λ(x4:Int)=>K (I x4)
def MQ(p0:Option Addr)(p1:Int)(h:Kw p0 p1 K w):CV qa [.v (.pointer p0),.v (.int .i64 p1)] K w:=zE Tryz.f272 .auto _ h
def Qy(p0:FV)(K:Value→PT):PT:=
  L.call Pr YV [.slice none 0 0,.func p0.fn p0.fs p0.cs] rL λ(x1:Sl)=>K (.slice x1.a x1.len x1.cap)
def KK(p0:FV)(h:Qy p0 K w):CV Qn [.v (.func p0.fn p0.fs p0.cs)] K w:=zE Tryz.f273 .auto _ h
def XM(p0:FV)(K:Value→PT):PT:=
  L.call Pr yP [.slice none 0 0,.func p0.fn p0.fs p0.cs] rL λ(x1:Sl)=>K (.slice x1.a x1.len x1.cap)
def vU(p0:FV)(h:XM p0 K w):CV XC [.v (.func p0.fn p0.fs p0.cs)] K w:=zE Tryz.f275 .auto _ h
def YS:Ann:=(.q2 (.one [] (.q2 (.seq (.cond .auto .auto) .auto none) none)) none)
def yb(p0:FV)(c0:Addr)(K:Value→PT):PT:=
  L.load (.one (.map)) c0 λ(x1:Option Nat)=>L.sem Pr (.one (.one .ptr)) (Instr.range zW (.map x1)) λ(it2:Option Addr)=>L.loop (Y:=Unit) (()) λy3 again4=>L.next Pr [eS6,eP6] (Instr.next (.pointer it2) false T_) (K (.tuple #[])) λ(x5:B0×Option Addr×Unit)=>L.sem Pr (.tup [eS6,eP6]) (Instr.entry (.pointer it2)) λ(x6:B0×Option Addr×Unit)=>L.callV Pr (.func p0.fn p0.fs p0.cs) [.string x6.1] rB λ(x7:Bool)=>L.ite (!x7) (K (.tuple #[]))<|again4 (())
def YR(p0:FV)(c0:Addr)(h:yb p0 c0 K w):CV zC [.v (.func p0.fn p0.fs p0.cs),.v (.pointer (some c0))] K w:=zE Tryz.f277 YS _ h
def YQ:yr Pr zC:=Zb (by kernel_rfl)
def ZQ(p0:Option Nat)(K:Value→PT):PT:=
  L.new [.map p0] zQ λb1=>K (.func (.func zr) #[] #[.pointer (some (⟨b1,0,none⟩))])
def Yr(p0:Option Nat)(h:ZQ p0 K w):CV ZP [.v (.map p0)] K w:=zE Tryz.f278 .auto _ h
def YA(p0:Sl)(K:Value→PT):PT:=
  L.ite ((p0.a).isNone) (K (.slice none 0 0))<|L.new [] Js λb1=>L.sem Pr (.one (.one .slice)) (Builtin.append_ #[ZX,ZX] ZX #[.slice (some ⟨b1,0,none⟩) 0 0,Sv6 p0]) λ(s2:Sl)=>K (.slice s2.a s2.len s2.cap)
def xR(p0:Sl)(h:YA p0 K w):CV yl [.v (.slice p0.a p0.len p0.cap)] K w:=zE Tryz.f286 .auto _ h
def gz:Ann:=(.q2 (.one [(14,eI6)] (.q2 (.q2 (.seq (.q2 (.q2 (.q2 (.cond .auto .auto) none) none) none) .auto (some [])) none) none)) none)
def Us(p0:FV)(c0:Addr)(c1:Addr)(K:Value→PT):PT:=
  L.load eP6 c0 λ(x1:Option Addr)=>L.nonnil x1 λa2=>L.load (.one (.map)) (a2.add 0) λ(x3:Option Nat)=>L.call Pr ZO [.map x3] (.one (.one (.func))) λ(x4:FV)=>L.call Pr jK [.func x4.fn x4.fs x4.cs] rL λ(x5:Sl)=>L.loop (Y:=Int×Unit) (0,()) λy6 again7=>L.ite (decide (y6.1<((x5.len:Nat):Int))) (L.join (Y:=Unit) (λk8=>L.idx x5.a y6.1 x5.len 1 λa10=>L.load eI6 a10 λ(x11:Int)=>L.load eP6 c0 λ(x12:Option Addr)=>L.nonnil x12 λa13=>L.load (.one (.map)) (a13.add 0) λ(x14:Option Nat)=>L.semR Pr (.one (.agg [.str,.ptr])) (Instr.lookup Ze (.map x14) (I x11) false) λ(x15:B0×Option Addr×Unit)=>L.new [.string s_,.pointer none] Qs λb16=>L.store (⟨b16,0,none⟩) [.string x15.1,.pointer x15.2.1]<|L.load eS6 (Ad6 b16 0) λ(x17:B0)=>L.load eS6 c1 λ(x18:B0)=>L.ite (x17.toList == x18.toList) (L.load eP6 (Ad6 b16 1) λ(x19:Option Addr)=>L.callV Pr (.func p0.fn p0.fs p0.cs) [I x11,.pointer x19] rB λ(x20:Bool)=>L.ite (!x20) (K (.tuple #[]))<|k8 (()))<|k8 (())) λz9=>again7 (Wi (y6.1+1),()))<|K (.tuple #[])
def gp(p0:FV)(c0 c1:Addr)(h:Us p0 c0 c1 K w):CV YW [.v (.func p0.fn p0.fs p0.cs),.v (.pointer (some c0)),.v (.pointer (some c1))] K w:=zE Tryz.f287 gz _ h
def gb:yr Pr YW:=Zb (by kernel_rfl)
def yK(p0:Option Nat)(K:Value→PT):PT:=
  L.new [.map p0] Ze λb1=>K (.func (.func zI) #[] #[.pointer (some (⟨b1,0,none⟩))])
def Jc(p0:Option Nat)(h:yK p0 K w):CV ZO [.v (.map p0)] K w:=zE Tryz.f288 .auto _ h
def xZ:Ann:=(.q2 (.q2 (.seq (.one [(7,eI6),(8,eI6)] .auto) (.q2 (.one [(6,eI6)] (.q2 (.q2 (.seq (.one [(7,eI6),(8,eI6)] .auto) (.q2 .auto (some [])) none) none) none)) none) none) none) none)
def yq(p0:Sl)(p1:Int)(p2:FV)(K:Value→PT):PT:=
  L.loop (Y:=Int×Int×Unit) (0,20,()) λy1 again2=>L.ite (decide (y1.2.1≤p1)) (L.call Pr Zo [Sv6 p0,I y1.1,I y1.2.1,.func p2.fn p2.fs p2.cs] (.tup []) λ(x3:Unit)=>again2 (y1.2.1,Wi (y1.2.1+20),()))<|L.call Pr Zo [Sv6 p0,I y1.1,I p1,.func p2.fn p2.fs p2.cs] (.tup []) λ(x4:Unit)=>L.loop (Y:=Int×Unit) (20,()) λy5 again6=>L.ite (decide (y5.1<p1)) (L.loop (Y:=Int×Int×Unit) (0,Wi (2*y5.1),()) λy7 again8=>L.ite (decide (y7.2.1≤p1)) (L.call Pr zu [Sv6 p0,I y7.1,I (Wi (y7.1+y5.1)),I y7.2.1,.func p2.fn p2.fs p2.cs] (.tup []) λ(x9:Unit)=>again8 (y7.2.1,Wi (y7.2.1+(Wi (2*y5.1))),()))<|L.join (Y:=Unit) (λk10=>L.ite (decide ((Wi (y7.1+y5.1))<p1)) (L.call Pr zu [Sv6 p0,I y7.1,I (Wi (y7.1+y5.1)),I p1,.func p2.fn p2.fs p2.cs] (.tup []) λ(x12:Unit)=>k10 (()))<|k10 (())) λz11=>again6 (Wi (y5.1*2),()))<|K (.tuple #[])
def YN(p0:Sl)(p1:Int)(p2:FV)(h:yq p0 p1 p2 K w):CV YI [.v (.slice p0.a p0.len p0.cap),.v (.int .i64 p1),.v (.func p2.fn p2.fs p2.cs)] K w:=zE Tryz.f305 xZ _ h
def UR(p0:Option Addr)(p1:Int)(K:Value→PT):PT:=
  L.nonnil p0 λa1=>L.load (.one (.map)) (a1.add 0) λ(x2:Option Nat)=>L.semR Pr rB (Instr.lookup Ja (.map x2) (I p1) false) λ(x3:Bool)=>L.ite x3 (K (I 5))<|L.draw<|L.nonnil p0 λa4=>L.load (.one (.map)) (a4.add 0) λ(x5:Option Nat)=>L.semR Pr rI (Builtin.len_ #[Ja] zm #[.map x5]) λ(x6:Int)=>L.nonnil p0 λa7=>L.load eI6 (a7.add 1) λ(x8:Int)=>L.ite (decide (x6≥x8)) (K (I 8))<|L.nonnil p0 λa9=>L.load (.one (.map)) (a9.add 0) λ(x10:Option Nat)=>L.semU Pr (Instr.mapUpdate Ja (.map x10) (I p1) (.bool true))<|K (I 0)
def Gw(p0:Option Addr)(p1:Int)(h:UR p0 p1 K w):CV UJ [.v (.pointer p0),.v (.int .i64 p1)] K w:=zE Tryz.f306 .auto _ h
def Uy:Ann:=(.q2 (.seq (.q2 (.q2 .auto (some [(7,eI6)])) none) .auto none) none)
def xw(p0:Sl)(p1:FV)(K:Value→PT):PT:=
  L.new [Sv6 p0] Zv λb1=>L.range Pr none (.func p1.fn p1.fs p1.cs) [eI6] (λl2(y3:Int×Unit) R4=>L.begin Pr l2<|L.load eL6 (⟨b1,0,none⟩) λ(x7:Sl)=>L.new [I y3.1] zm λb8=>L.sem Pr (.one (.one .slice)) (Builtin.append_ #[Zv,Zv] Zv #[Sv6 x7,.slice (some ⟨b8,0,none⟩) 1 1]) λ(s9:Sl)=>L.store (⟨b1,0,none⟩) [Sv6 s9]<|L.endRound Pr l2 none R4) λd5 j6=>L.jump j6 (L.load eL6 (⟨b1,0,none⟩) λ(x10:Sl)=>L.unmark Pr (d5++[])<|K (.slice x10.a x10.len x10.cap)) (L.unmark Pr (d5++[])<|K (.slice none 0 0)) []
def Uw(p0:Sl)(p1:FV)(h:xw p0 p1 K w):CV YV [.v (.slice p0.a p0.len p0.cap),.v (.func p1.fn p1.fs p1.cs)] K w:=zE Tryz.f307 Uy _ h
def qp:Ann:=(.q2 (.seq (.q2 (.q2 .auto (some [(7,eS6)])) none) .auto none) none)
def jv(p0:Sl)(p1:FV)(K:Value→PT):PT:=
  L.new [Sv6 p0] zp λb1=>L.range Pr none (.func p1.fn p1.fs p1.cs) [eS6] (λl2(y3:B0×Unit) R4=>L.begin Pr l2<|L.load eL6 (⟨b1,0,none⟩) λ(x7:Sl)=>L.new [.string y3.1] zd λb8=>L.sem Pr (.one (.one .slice)) (Builtin.append_ #[zp,zp] zp #[Sv6 x7,.slice (some ⟨b8,0,none⟩) 1 1]) λ(s9:Sl)=>L.store (⟨b1,0,none⟩) [Sv6 s9]<|L.endRound Pr l2 none R4) λd5 j6=>L.jump j6 (L.load eL6 (⟨b1,0,none⟩) λ(x10:Sl)=>L.unmark Pr (d5++[])<|K (.slice x10.a x10.len x10.cap)) (L.unmark Pr (d5++[])<|K (.slice none 0 0)) []
def qo(p0:Sl)(p1:FV)(h:jv p0 p1 K w):CV yP [.v (.slice p0.a p0.len p0.cap),.v (.func p1.fn p1.fs p1.cs)] K w:=zE Tryz.f308 qp _ h
def Yj:Ann:=(.q2 (.one [] (.q2 (.seq (.cond .auto .auto) .auto none) none)) none)
def ZI(p0:FV)(c0:Addr)(K:Value→PT):PT:=
  L.load (.one (.map)) c0 λ(x1:Option Nat)=>L.sem Pr (.one (.one .ptr)) (Instr.range zQ (.map x1)) λ(it2:Option Addr)=>L.loop (Y:=Unit) (()) λy3 again4=>L.next Pr [eS6,(.agg lf6)] (Instr.next (.pointer it2) false T_) (K (.tuple #[])) λ(x5:aU)=>L.sem Pr (.tup [eS6,(.agg lf6)]) (Instr.entry (.pointer it2)) λ(x6:aU)=>L.callV Pr (.func p0.fn p0.fs p0.cs) [.string x6.1] rB λ(x7:Bool)=>L.ite (!x7) (K (.tuple #[]))<|again4 (())
def Yi(p0:FV)(c0:Addr)(h:ZI p0 c0 K w):CV zr [.v (.func p0.fn p0.fs p0.cs),.v (.pointer (some c0))] K w:=zE Tryz.f310 Yj _ h
def Yh:yr Pr zr:=Zb (by kernel_rfl)
def jJ:Ann:=(.q2 (.one [] (.q2 (.seq (.cond .auto .auto) .auto none) none)) none)
def yy(p0:FV)(c0:Addr)(K:Value→PT):PT:=
  L.load (.one (.map)) c0 λ(x1:Option Nat)=>L.sem Pr (.one (.one .ptr)) (Instr.range Ze (.map x1)) λ(it2:Option Addr)=>L.loop (Y:=Unit) (()) λy3 again4=>L.next Pr [eI6,(.agg [.str,.ptr])] (Instr.next (.pointer it2) false T_) (K (.tuple #[])) λ(x5:aT)=>L.sem Pr (.tup [eI6,(.agg [.str,.ptr])]) (Instr.entry (.pointer it2)) λ(x6:aT)=>L.callV Pr (.func p0.fn p0.fs p0.cs) [I x6.1] rB λ(x7:Bool)=>L.ite (!x7) (K (.tuple #[]))<|again4 (())
def jI(p0:FV)(c0:Addr)(h:yy p0 c0 K w):CV zI [.v (.func p0.fn p0.fs p0.cs),.v (.pointer (some c0))] K w:=zE Tryz.f311 jJ _ h
def jH:yr Pr zI:=Zb (by kernel_rfl)
def Jy:Ann:=(.q2 (.one [(8,eI6)] (.q2 (.seq (.q2 (.one [(9,eI6)] (.seq (.q2 (.cond .auto .auto) none) .auto none)) none) .auto (some [])) none)) none)
def yU(p0:Sl)(p1 p2:Int)(p3:FV)(K:Value→PT):PT:=
  L.loop (Y:=Int×Unit) (Wi (p1+1),()) λy1 again2=>L.ite (decide (y1.1<p2)) (L.join (Y:=Unit) (λk3=>L.loop (Y:=Int×Unit) (y1.1,()) λy5 again6=>L.draw<|L.ite (decide (y5.1>p1)) (L.idx p0.a y5.1 p0.len 2 λa7=>L.load (.agg [.int .i64,.int .i64]) a7 λ(x8:Int×Int×Unit)=>L.idx p0.a (Wi (y5.1-1)) p0.len 2 λa9=>L.load (.agg [.int .i64,.int .i64]) a9 λ(x10:Int×Int×Unit)=>L.callV Pr (.func p3.fn p3.fs p3.cs) [.agg #[I x8.1,I x8.2.1],.agg #[I x10.1,I x10.2.1]] rI λ(x11:Int)=>L.ite (decide (x11<0)) (L.draw<|L.idx p0.a (Wi (y5.1-1)) p0.len 2 λa12=>L.load (.agg [.int .i64,.int .i64]) a12 λ(x13:Int×Int×Unit)=>L.idx p0.a y5.1 p0.len 2 λa14=>L.load (.agg [.int .i64,.int .i64]) a14 λ(x15:Int×Int×Unit)=>L.idx p0.a y5.1 p0.len 2 λa16=>L.store a16 [I x13.1,I x13.2.1]<|L.idx p0.a (Wi (y5.1-1)) p0.len 2 λa17=>L.store a17 [I x15.1,I x15.2.1]<|again6 (Wi (y5.1-1),()))<|k3 (()))<|k3 (())) λz4=>again2 (Wi (y1.1+1),()))<|K (.tuple #[])
def Jx(p0:Sl)(p1 p2:Int)(p3:FV)(h:yU p0 p1 p2 p3 K w):CV Zo [.v (.slice p0.a p0.len p0.cap),.v (.int .i64 p1),.v (.int .i64 p2),.v (.func p3.fn p3.fs p3.cs)] K w:=zE Tryz.f318 Jy _ h
def xI:Ann:=(.seq (.q2 (.cond (.q2 (.q2 (.seq (.one [(10,eI6),(11,eI6)] .auto) (.seq (.q2 (.one [(13,eI6)] .auto) none) .auto none) none) none) none) .auto) none) (.seq (.q2 (.cond (.q2 (.q2 (.seq (.one [(14,eI6),(15,eI6)] .auto) (.seq (.q2 (.one [(17,eI6)] .auto) none) .auto none) none) none) none) .auto) none) (.q2 (.q2 (.q2 (.q2 (.q2 (.seq (.one [(20,eI6),(21,eI6)] .auto) (.q2 (.seq (.q2 (.cond .auto .auto) none) (.seq (.q2 (.cond .auto .auto) none) (.q2 (.cond .auto .auto) none) (some [])) (some [])) none) none) none) (some [(20,eI6),(21,eI6)])) none) none) none) none) none)
def ZC(p0:Sl)(p1 p2 p3:Int)(p4:FV)(K:Value→PT):PT:=
  L.ite ((Wi (p2-p1)) == 1) (L.loop (Y:=Int×Int×Unit) (p2,p3,()) λy1 again2=>L.ite (decide (y1.1<y1.2.1)) (L.guard ((0:Int)≤1)<|L.draw<|L.idx p0.a (Wi (Int.fdiv (IntKind.wrap .u64 (Wi (y1.1+y1.2.1))) (2 ^ (min (Int.toNat 1) 64)))) p0.len 2 λa3=>L.load (.agg [.int .i64,.int .i64]) a3 λ(x4:Int×Int×Unit)=>L.idx p0.a p1 p0.len 2 λa5=>L.load (.agg [.int .i64,.int .i64]) a5 λ(x6:Int×Int×Unit)=>L.callV Pr (.func p4.fn p4.fs p4.cs) [.agg #[I x4.1,I x4.2.1],.agg #[I x6.1,I x6.2.1]] rI λ(x7:Int)=>L.ite (decide (x7<0)) (again2 (Wi ((Wi (Int.fdiv (IntKind.wrap .u64 (Wi (y1.1+y1.2.1))) (2 ^ (min (Int.toNat 1) 64))))+1),y1.2.1,()))<|again2 (y1.1,Wi (Int.fdiv (IntKind.wrap .u64 (Wi (y1.1+y1.2.1))) (2 ^ (min (Int.toNat 1) 64))),()))<|L.loop (Y:=Int×Unit) (p1,()) λy8 again9=>L.ite (decide (y8.1<(Wi (y1.1-1)))) (L.draw<|L.idx p0.a (Wi (y8.1+1)) p0.len 2 λa10=>L.load (.agg [.int .i64,.int .i64]) a10 λ(x11:Int×Int×Unit)=>L.idx p0.a y8.1 p0.len 2 λa12=>L.load (.agg [.int .i64,.int .i64]) a12 λ(x13:Int×Int×Unit)=>L.idx p0.a y8.1 p0.len 2 λa14=>L.store a14 [I x11.1,I x11.2.1]<|L.idx p0.a (Wi (y8.1+1)) p0.len 2 λa15=>L.store a15 [I x13.1,I x13.2.1]<|again9 (Wi (y8.1+1),()))<|K (.tuple #[]))<|L.ite ((Wi (p3-p2)) == 1) (L.loop (Y:=Int×Int×Unit) (p1,p2,()) λy16 again17=>L.ite (decide (y16.1<y16.2.1)) (L.guard ((0:Int)≤1)<|L.draw<|L.idx p0.a p2 p0.len 2 λa18=>L.load (.agg [.int .i64,.int .i64]) a18 λ(x19:Int×Int×Unit)=>L.idx p0.a (Wi (Int.fdiv (IntKind.wrap .u64 (Wi (y16.1+y16.2.1))) (2 ^ (min (Int.toNat 1) 64)))) p0.len 2 λa20=>L.load (.agg [.int .i64,.int .i64]) a20 λ(x21:Int×Int×Unit)=>L.callV Pr (.func p4.fn p4.fs p4.cs) [.agg #[I x19.1,I x19.2.1],.agg #[I x21.1,I x21.2.1]] rI λ(x22:Int)=>L.ite (!(decide (x22<0))) (again17 (Wi ((Wi (Int.fdiv (IntKind.wrap .u64 (Wi (y16.1+y16.2.1))) (2 ^ (min (Int.toNat 1) 64))))+1),y16.2.1,()))<|again17 (y16.1,Wi (Int.fdiv (IntKind.wrap .u64 (Wi (y16.1+y16.2.1))) (2 ^ (min (Int.toNat 1) 64))),()))<|L.loop (Y:=Int×Unit) (p2,()) λy23 again24=>L.ite (decide (y23.1>y16.1)) (L.draw<|L.idx p0.a (Wi (y23.1-1)) p0.len 2 λa25=>L.load (.agg [.int .i64,.int .i64]) a25 λ(x26:Int×Int×Unit)=>L.idx p0.a y23.1 p0.len 2 λa27=>L.load (.agg [.int .i64,.int .i64]) a27 λ(x28:Int×Int×Unit)=>L.idx p0.a y23.1 p0.len 2 λa29=>L.store a29 [I x26.1,I x26.2.1]<|L.idx p0.a (Wi (y23.1-1)) p0.len 2 λa30=>L.store a30 [I x28.1,I x28.2.1]<|again24 (Wi (y23.1-1),()))<|K (.tuple #[]))<|L.guard ((0:Int)≤1)<|L.join (Y:=Int×Int×Unit) (λk31=>L.ite (decide (p2>(Wi (Int.fdiv (IntKind.wrap .u64 (Wi (p1+p3))) (2 ^ (min (Int.toNat 1) 64)))))) (k31 (Wi ((Wi ((Wi (Int.fdiv (IntKind.wrap .u64 (Wi (p1+p3))) (2 ^ (min (Int.toNat 1) 64))))+p2))-p3),Wi (Int.fdiv (IntKind.wrap .u64 (Wi (p1+p3))) (2 ^ (min (Int.toNat 1) 64))),()))<|k31 (p1,p2,())) λz32=>L.loop (Y:=Int×Int×Unit) (z32.1,z32.2.1,()) λy33 again34=>L.ite (decide (y33.1<y33.2.1)) (L.guard ((0:Int)≤1)<|L.draw<|L.idx p0.a (Wi ((Wi ((Wi ((Wi (Int.fdiv (IntKind.wrap .u64 (Wi (p1+p3))) (2 ^ (min (Int.toNat 1) 64))))+p2))-1))-(Wi (Int.fdiv (IntKind.wrap .u64 (Wi (y33.1+y33.2.1))) (2 ^ (min (Int.toNat 1) 64)))))) p0.len 2 λa35=>L.load (.agg [.int .i64,.int .i64]) a35 λ(x36:Int×Int×Unit)=>L.idx p0.a (Wi (Int.fdiv (IntKind.wrap .u64 (Wi (y33.1+y33.2.1))) (2 ^ (min (Int.toNat 1) 64)))) p0.len 2 λa37=>L.load (.agg [.int .i64,.int .i64]) a37 λ(x38:Int×Int×Unit)=>L.callV Pr (.func p4.fn p4.fs p4.cs) [.agg #[I x36.1,I x36.2.1],.agg #[I x38.1,I x38.2.1]] rI λ(x39:Int)=>L.ite (!(decide (x39<0))) (again34 (Wi ((Wi (Int.fdiv (IntKind.wrap .u64 (Wi (y33.1+y33.2.1))) (2 ^ (min (Int.toNat 1) 64))))+1),y33.2.1,()))<|again34 (y33.1,Wi (Int.fdiv (IntKind.wrap .u64 (Wi (y33.1+y33.2.1))) (2 ^ (min (Int.toNat 1) 64))),()))<|L.join (Y:=Unit) (λk40=>L.ite (decide (y33.1<p2)) (L.ite (decide (p2<(Wi ((Wi ((Wi (Int.fdiv (IntKind.wrap .u64 (Wi (p1+p3))) (2 ^ (min (Int.toNat 1) 64))))+p2))-y33.1)))) (L.call Pr yp [Sv6 p0,I y33.1,I p2,I (Wi ((Wi ((Wi (Int.fdiv (IntKind.wrap .u64 (Wi (p1+p3))) (2 ^ (min (Int.toNat 1) 64))))+p2))-y33.1)),.func p4.fn p4.fs p4.cs] (.tup []) λ(x42:Unit)=>k40 (()))<|k40 (()))<|k40 (())) λz41=>L.join (Y:=Unit) (λk43=>L.ite (decide (p1<y33.1)) (L.ite (decide (y33.1<(Wi (Int.fdiv (IntKind.wrap .u64 (Wi (p1+p3))) (2 ^ (min (Int.toNat 1) 64)))))) (L.call Pr zu [Sv6 p0,I p1,I y33.1,I (Wi (Int.fdiv (IntKind.wrap .u64 (Wi (p1+p3))) (2 ^ (min (Int.toNat 1) 64)))),.func p4.fn p4.fs p4.cs] (.tup []) λ(x45:Unit)=>k43 (()))<|k43 (()))<|k43 (())) λz44=>L.ite (decide ((Wi (Int.fdiv (IntKind.wrap .u64 (Wi (p1+p3))) (2 ^ (min (Int.toNat 1) 64))))<(Wi ((Wi ((Wi (Int.fdiv (IntKind.wrap .u64 (Wi (p1+p3))) (2 ^ (min (Int.toNat 1) 64))))+p2))-y33.1)))) (L.ite (decide ((Wi ((Wi ((Wi (Int.fdiv (IntKind.wrap .u64 (Wi (p1+p3))) (2 ^ (min (Int.toNat 1) 64))))+p2))-y33.1))<p3)) (L.call Pr zu [Sv6 p0,I (Wi (Int.fdiv (IntKind.wrap .u64 (Wi (p1+p3))) (2 ^ (min (Int.toNat 1) 64)))),I (Wi ((Wi ((Wi (Int.fdiv (IntKind.wrap .u64 (Wi (p1+p3))) (2 ^ (min (Int.toNat 1) 64))))+p2))-y33.1)),I p3,.func p4.fn p4.fs p4.cs] (.tup []) λ(x46:Unit)=>K (.tuple #[]))<|K (.tuple #[]))<|K (.tuple #[])
def yk(p0:Sl)(p1 p2 p3:Int)(p4:FV)(h:ZC p0 p1 p2 p3 p4 K w):CV zu [.v (.slice p0.a p0.len p0.cap),.v (.int .i64 p1),.v (.int .i64 p2),.v (.int .i64 p3),.v (.func p4.fn p4.fs p4.cs)] K w:=zE Tryz.f319 xI _ h
def Xa:Ann:=(.q2 (.q2 (.seq (.one [(10,eI6),(11,eI6)] .auto) .auto none) none) none)
def YM(p0:Sl)(p1 p2 p3:Int)(p4:FV)(K:Value→PT):PT:=
  L.loop (Y:=Int×Int×Unit) (Wi (p2-p1),Wi (p3-p2),()) λy1 again2=>L.ite (y1.1 != y1.2.1) (L.ite (decide (y1.1>y1.2.1)) (L.call Pr Zf [Sv6 p0,I (Wi (p2-y1.1)),I p2,I y1.2.1,.func p4.fn p4.fs p4.cs] (.tup []) λ(x3:Unit)=>again2 (Wi (y1.1-y1.2.1),y1.2.1,()))<|L.call Pr Zf [Sv6 p0,I (Wi (p2-y1.1)),I (Wi ((Wi (p2+y1.2.1))-y1.1)),I y1.1,.func p4.fn p4.fs p4.cs] (.tup []) λ(x4:Unit)=>again2 (y1.1,Wi (y1.2.1-y1.1),()))<|L.call Pr Zf [Sv6 p0,I (Wi (p2-y1.1)),I p2,I y1.1,.func p4.fn p4.fs p4.cs] (.tup []) λ(x5:Unit)=>K (.tuple #[])
def xY(p0:Sl)(p1 p2 p3:Int)(p4:FV)(h:YM p0 p1 p2 p3 p4 K w):CV yp [.v (.slice p0.a p0.len p0.cap),.v (.int .i64 p1),.v (.int .i64 p2),.v (.int .i64 p3),.v (.func p4.fn p4.fs p4.cs)] K w:=zE Tryz.f331 Xa _ h
def xz:Ann:=(.q2 (.one [(10,eI6)] .auto) none)
def Yq(p0:Sl)(p1 p2 p3:Int)(p4:FV)(K:Value→PT):PT:=
  L.loop (Y:=Int×Unit) (0,()) λy1 again2=>L.ite (decide (y1.1<p3)) (L.draw<|L.idx p0.a (Wi (p2+y1.1)) p0.len 2 λa3=>L.load (.agg [.int .i64,.int .i64]) a3 λ(x4:Int×Int×Unit)=>L.idx p0.a (Wi (p1+y1.1)) p0.len 2 λa5=>L.load (.agg [.int .i64,.int .i64]) a5 λ(x6:Int×Int×Unit)=>L.idx p0.a (Wi (p1+y1.1)) p0.len 2 λa7=>L.store a7 [I x4.1,I x4.2.1]<|L.idx p0.a (Wi (p2+y1.1)) p0.len 2 λa8=>L.store a8 [I x6.1,I x6.2.1]<|again2 (Wi (y1.1+1),()))<|K (.tuple #[])
def xy(p0:Sl)(p1 p2 p3:Int)(p4:FV)(h:Yq p0 p1 p2 p3 p4 K w):CV Zf [.v (.slice p0.a p0.len p0.cap),.v (.int .i64 p1),.v (.int .i64 p2),.v (.int .i64 p3),.v (.func p4.fn p4.fs p4.cs)] K w:=zE Tryz.f336 xz _ h
end Go.Proofs.YtimahgbgejngiaaGreatDoor
