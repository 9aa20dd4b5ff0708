/- What is proved on the way to a statement of the seat, pressed (text AD). No conditions beyond those its theorems state. -/
import Derived.Test.YtofigcbhafkikaaAAC
import Derived.Test.YtofigcbhafkikaaProg
set_option linter.all false
namespace Go.Proofs.Ytofigcbhafkikaa
set_option maxRecDepth 100000
open Go.Dm
abbrev I(n:Int):Value:=.int .i64 n
abbrev J8:Lf:=.int .u8
abbrev pt0:=(B0×Option Addr×Unit)×Bool×Unit
abbrev pt1:=Int×(B0×Option Addr×Unit)×Unit
abbrev lf0:List Lf:=[.int .u64,.int .u64,.int .u32,J8,J8,J8,J8,.func,.ptr,.int .i32,.int .i32]
abbrev eI6:E1:=.one (.int .i64)
abbrev eS6:E1:=.one .str
abbrev eL6:E1:=.one .slice
abbrev eB6:E1:=.one .bool
abbrev eP6:E1:=.one .ptr
abbrev rI:RT:=.one eI6
abbrev rS:RT:=.one eS6
abbrev rL:RT:=.one eL6
abbrev rB:RT:=.one eB6
abbrev rP:RT:=.one eP6
abbrev Sv6(v:Sl):Value:=.slice v.a v.len v.cap
abbrev Ad6(b n:Nat):Addr:=(⟨b,0,none⟩:Addr).add n
noncomputable abbrev Pr:Program:=Try.prog
abbrev Yg:Nat:=4
abbrev Ye:Nat:=5
abbrev Jl:Nat:=6
abbrev ZF:Nat:=7
abbrev ZQ:Nat:=8
abbrev yu:Nat:=9
abbrev Yt:Nat:=10
abbrev Yu:Nat:=11
abbrev yw:Nat:=13
abbrev YT:Nat:=14
abbrev Zv:Nat:=15
abbrev YF:Nat:=16
abbrev ZZ:Nat:=17
abbrev yy:Nat:=18
abbrev yi:Nat:=19
abbrev Zb:Nat:=20
abbrev YS:Nat:=21
abbrev qC:Nat:=22
abbrev Yc:Nat:=23
abbrev jf:Nat:=24
abbrev yM:Nat:=25
abbrev ZK:Nat:=26
abbrev JY:Nat:=27
abbrev ZP:Nat:=28
abbrev Zj:Nat:=29
abbrev zu:Nat:=30
abbrev zq:Nat:=31
abbrev YD:Nat:=32
abbrev zT:Nat:=33
abbrev zZ:Nat:=34
abbrev YE:Nat:=35
abbrev ya:Nat:=36
abbrev YU:Nat:=37
abbrev yg:Nat:=38
abbrev yx:Nat:=39
abbrev ZY:Nat:=40
abbrev yh:Nat:=41
abbrev Yd:Nat:=42
abbrev ZX:Nat:=43
abbrev zJ:Nat:=44
abbrev zN:Nat:=45
abbrev yK:Nat:=46
abbrev YX:Nat:=47
abbrev ZV:Nat:=48
abbrev yo:Nat:=49
abbrev zR:Nat:=50
abbrev ZL:Nat:=51
abbrev Jk:Nat:=52
abbrev Ys:Nat:=53
abbrev yc:Nat:=54
abbrev YY:Nat:=55
abbrev YL:Nat:=56
abbrev zl:Nat:=57
abbrev zD:Nat:=58
abbrev zf:Nat:=59
abbrev ZU:Nat:=60
abbrev Za:Nat:=63
abbrev zz:Nat:=75
abbrev T_:Nat:=0
abbrev zA:Nat:=3
abbrev qM:Nat:=4
abbrev ZH:Nat:=9
abbrev zy:Nat:=23
abbrev zn:Nat:=25
abbrev zU:Nat:=32
abbrev yV:Nat:=38
abbrev ye:Nat:=47
abbrev Zt:Nat:=49
abbrev zp:Nat:=50
abbrev yI:Nat:=51
abbrev Xw:Nat:=53
abbrev yQ:Nat:=58
abbrev zI:Nat:=63
abbrev zd:Nat:=68
abbrev zS:Nat:=72
abbrev jh:Nat:=74
abbrev Zh:Nat:=76
abbrev jO:Nat:=80
abbrev zx:Nat:=84
abbrev Zz:Nat:=85
abbrev JO:Nat:=89
def xm:B0:=⟨#[97,45,49]⟩
def kQ:B0:=⟨#[98,45,49]⟩
def s_:B0:=⟨#[]⟩
def tq0:TI:=⟨.func,1,some (.one (.func)),some [.nilFunc]⟩
def tq1:TI:=⟨.int .i64,1,some (.one (.int .i64)),some [I 0]⟩
def tq2:TI:=⟨.int .u8,1,some (.one (.int .u8)),some [.int .u8 0]⟩
def tq3:TI:=⟨.struct [(2,0),(3,1),(4,2),(6,3)],4,some (.agg [.int .i64,.int .i64,.bool,.int .u8]),some [I 0,I 0,.bool false,.int .u8 0]⟩
def tq4:TI:=⟨.str,1,some (.one (.str)),some [.string s_]⟩
def tq5:TI:=⟨.int .u64,1,some (.one (.int .u64)),some [.int .u64 0]⟩
def tq6:TI:=⟨.struct [(9,0),(12,1)],2,some (.agg [.str,.int .u64]),some [.string s_,.int .u64 0]⟩
def tq7:TI:=⟨.ptr,1,some (.one (.ptr)),some [.pointer none]⟩
def tq8:TI:=⟨.struct [(17,0)],1,some (.agg [.ptr]),some [.pointer none]⟩
def tq9:TI:=⟨.int .i32,1,some (.one (.int .i32)),some [.int .i32 0]⟩
def Oe:TI:=⟨.struct [(3,0),(3,1),(3,2)],3,some (.agg [.int .i64,.int .i64,.int .i64]),some [I 0,I 0,I 0]⟩
def OW:TI:=⟨.struct [(50,0),(51,1),(3,2),(3,3)],4,some (.agg [.map,.map,.int .i64,.int .i64]),some [.map none,.map none,I 0,I 0]⟩
def OV:TI:=⟨.struct [(9,0),(55,1)],2,some (.agg [.str,.ptr]),some [.string s_,.pointer none]⟩
def OU:TI:=⟨.struct [(3,0),(3,1)],2,some (.agg [.int .i64,.int .i64]),some [I 0,I 0]⟩
def OT:TI:=⟨.struct [(3,0),(3,1),(72,2)],3,some (.agg [.int .i64,.int .i64,.slice]),some [I 0,I 0,.slice none 0 0]⟩
def OS:TI:=⟨.struct [(3,0),(9,1),(77,2)],3,some (.agg [.int .i64,.str,.ptr]),some [I 0,.string s_,.pointer none]⟩
def OR:TI:=⟨.struct [(3,0),(3,1),(25,2)],3,some (.agg [.int .i64,.int .i64,.slice]),some [I 0,I 0,.slice none 0 0]⟩
def OQ:TI:=⟨.struct [(85,0),(3,1)],2,some (.agg [.map,.int .i64]),some [.map none,I 0]⟩
def OP:TI:=⟨.struct [(3,0),(87,1)],3,some (.agg [.int .i64,.map,.int .i64]),some [I 0,.map none,I 0]⟩
def OO:TI:=⟨.struct [(17,0),(17,1),(17,2),(9,3)],4,some (.agg [.ptr,.ptr,.ptr,.str]),some [.pointer none,.pointer none,.pointer none,.string s_]⟩
def ON:TI:=⟨.struct [(128,0)],0,some (.agg []),some []⟩
def OM:TI:=⟨.struct [(12,0),(12,1),(113,2),(131,3),(5,4),(5,5),(132,6),(133,7),(134,8),(135,9),(136,10)],11,some (.agg lf0),some [.int .u64 0,.int .u64 0,.int .u32 0,.int .u8 0,.int .u8 0,.int .u8 0,.int .u8 0,.nilFunc,.pointer none,.int .i32 0,.int .i32 0]⟩
def Dt:Tb:=⟨140,100,(.node ⟨.tuple [],1,none,none⟩ (.node tq0 (.node tq1 (.node tq3 (.node tq7 (.node tq0 (.node ⟨.slice 68,1,some eL6,some [.slice none 0 0]⟩ (.node OO .nil .nil) .nil) (.node tq0 .nil .nil)) (.node ⟨.slice 49,1,some eL6,some [.slice none 0 0]⟩ (.node OS .nil .nil) (.node tq0 .nil .nil))) (.node tq7 (.node tq0 (.node tq0 (.node tq9 .nil .nil) .nil) (.node tq5 .nil .nil)) (.node tq7 (.node OQ .nil .nil) (.node tq0 .nil .nil)))) (.node tq4 (.node tq8 (.node tq0 (.node OU (.node tq2 .nil .nil) .nil) (.node tq7 .nil .nil)) (.node ⟨.map 3 3,1,some (.one (.map)),some [.map none]⟩ (.node OR .nil .nil) (.node tq5 .nil .nil))) (.node tq0 (.node tq0 (.node tq0 (.node ⟨.other,1,none,none⟩ .nil .nil) .nil) (.node tq0 .nil .nil)) (.node tq0 (.node tq0 .nil .nil) (.node ⟨.tuple [3,3],1,none,none⟩ .nil .nil))))) (.node tq2 (.node tq4 (.node tq7 (.node tq0 (.node tq0 (.node ON .nil .nil) .nil) (.node tq0 .nil .nil)) (.node Oe (.node tq0 .nil .nil) (.node ⟨.int .u32,1,some (.one (.int .u32)),some [.int .u32 0]⟩ .nil .nil))) (.node ⟨.slice 3,1,some eL6,some [.slice none 0 0]⟩ (.node ⟨.slice 4,1,some eL6,some [.slice none 0 0]⟩ (.node OT (.node OM .nil .nil) .nil) (.node tq1 .nil .nil)) (.node OV (.node OP .nil .nil) (.node tq0 .nil .nil)))) (.node tq6 (.node tq9 (.node Oe (.node tq0 (.node tq0 .nil .nil) .nil) (.node tq0 .nil .nil)) (.node OW (.node ⟨.map 3 4,1,some (.one (.map)),some [.map none]⟩ .nil .nil) (.node tq0 .nil .nil))) (.node tq0 (.node tq0 (.node tq7 .nil .nil) (.node tq0 .nil .nil)) (.node tq0 (.node tq0 .nil .nil) (.node tq0 .nil .nil)))))) (.node tq1 (.node ⟨.bool,1,some eB6,some [.bool false]⟩ (.node tq3 (.node tq7 (.node ⟨.slice 38,1,some eL6,some [.slice none 0 0]⟩ (.node tq0 (.node ⟨.arr 0 16,0,some (.agg []),some []⟩ .nil .nil) .nil) (.node tq0 .nil .nil)) (.node tq0 (.node OS .nil .nil) (.node tq0 .nil .nil))) (.node tq0 (.node tq0 (.node ⟨.slice 76,1,some eL6,some [.slice none 0 0]⟩ (.node tq9 .nil .nil) .nil) (.node tq0 .nil .nil)) (.node tq0 (.node OP .nil .nil) (.node tq7 .nil .nil)))) (.node tq5 (.node ⟨.iface,1,some (.one (.iface)),some [.nilIface]⟩ (.node tq0 (.node OU (.node tq2 .nil .nil) .nil) (.node tq0 .nil .nil)) (.node OW (.node OR .nil .nil) (.node tq5 .nil .nil))) (.node tq1 (.node tq7 (.node tq7 .nil .nil) (.node tq0 .nil .nil)) (.node tq0 (.node tq0 .nil .nil) (.node tq0 .nil .nil))))) (.node tq2 (.node tq4 (.node tq8 (.node ⟨.tuple [9,28],1,none,none⟩ (.node tq0 (.node ON .nil .nil) .nil) (.node tq0 .nil .nil)) (.node ⟨.map 3 58,1,some (.one (.map)),some [.map none]⟩ (.node tq0 .nil .nil) (.node tq0 .nil .nil))) (.node ⟨.tuple [25,25],1,none,none⟩ (.node tq0 (.node OT (.node OM .nil .nil) .nil) (.node ⟨.tuple [3,105],1,none,none⟩ .nil .nil)) (.node OV (.node tq0 .nil .nil) (.node tq7 .nil .nil)))) (.node tq6 (.node tq0 (.node Oe (.node tq0 (.node tq7 .nil .nil) .nil) (.node tq0 .nil .nil)) (.node tq0 (.node OQ .nil .nil) (.node tq0 .nil .nil))) (.node ⟨.tuple [3,4],1,none,none⟩ (.node tq0 (.node tq0 .nil .nil) (.node tq0 .nil .nil)) (.node ⟨.tuple [58,4],1,none,none⟩ (.node tq0 .nil .nil) (.node OO .nil .nil))))))),(.node none (.node none (.node none (.node (some (.tup [eL6,eL6])) (.node (some rI) (.node (some rI) (.node (some (.tup [])) .nil .nil) .nil) (.node (some (.tup [])) .nil .nil)) (.node (some rI) (.node (some rI) .nil .nil) (.node (some rL) .nil .nil))) (.node (some (.tup [eS6,eI6])) (.node (some (.tup [eI6,eB6])) (.node (some rI) .nil .nil) (.node (some (.tup [])) .nil .nil)) (.node (some rI) (.node (some rP) (.node (some (.tup [])) .nil .nil) .nil) (.node (some (.tup [])) .nil .nil)))) (.node (some rB) (.node (some (.tup [eI6,eB6])) (.node (some (.tup [eL6,eL6])) (.node (some rI) .nil .nil) (.node (some rL) .nil .nil)) (.node (some (.tup [])) (.node (some rP) .nil .nil) (.node (some (.tup [])) .nil .nil))) (.node (some rI) (.node (some rI) (.node (some rP) .nil .nil) (.node (some rI) .nil .nil)) (.node (some rI) (.node (some rI) .nil .nil) .nil)))) (.node none (.node (some rB) (.node (some rI) (.node (some rP) (.node (some rI) .nil .nil) (.node (some (.tup [])) .nil .nil)) (.node (some rI) (.node (some (.tup [])) .nil .nil) (.node (some (.tup [])) .nil .nil))) (.node none (.node (some rL) (.node (some rI) .nil .nil) (.node (some rI) .nil .nil)) (.node (some (.one (.one (.func)))) (.node (some rI) .nil .nil) (.node (some rL) .nil .nil)))) (.node (some rP) (.node (some rL) (.node (some rI) (.node (some rL) .nil .nil) (.node (some (.one (.one (.func)))) .nil .nil)) (.node (some rL) (.node (some rI) .nil .nil) (.node (some (.tup [])) .nil .nil))) (.node (some rS) (.node (some rP) (.node (some rP) .nil .nil) (.node (some rB) .nil .nil)) (.node (some (.tup [])) (.node (some rI) .nil .nil) .nil)))))⟩
def Tok:yP Pr Dt:=KX (by kernel_rfl) (by kernel_rfl) (by kernel_rfl)
variable {K:Value→PT}{w:World}
abbrev CV(f:FuncId)(a:List SV)(K:Value→PT)(w:World):Prop:=Calls Pr f (yk a).toArray w λe w2=>∃v,e = .returned v∧K v w2
def Zq{f:FuncId}(fn:Func)(an:Ann)(args:List SV){F:PT}(h:F w)(h1:Pr.funcs[f]? = some fn:=by kernel_rfl)(h2:okF args.length fn=true:=by kernel_rfl)(h3:Oy Pr Dt fn an args K=F:=by kernel_rfl):CV f args K w:=oz Tok h1 h2 ((congrFun h3 w).mpr h)
def JJ:Ann:=(.q2 (.q2 (.q2 (.q2 (.q2 (.q2 (.seq (.q2 (.one [(7,eI6)] .auto) none) (.seq (.q2 (.one [(8,eI6)] (.seq (.q2 (.cond .auto .auto) none) (.seq (.q2 (.q2 (.q2 (.q2 (.q2 (.cond (.q2 (.seq (.q2 (.one [(16,eI6)] .auto) none) .auto none) none) .auto) none) none) none) none) none) .auto (some [])) none)) none) (.q2 (.q2 (.seq (.q2 (.one [(19,eI6)] .auto) none) .auto none) none) none) (some [])) none) none) none) none) none) none) none)
def Yl(p0 p1:Sl)(K:Value→PT):PT:=
  L.call Pr Ye [] rB λ(x1:Bool)=>L.ite (!x1) (K (.bool false))<|L.call Pr Jl [I 30] rP λ(x2:Option Addr)=>L.call Pr YF [I 30] rP λ(x3:Option Addr)=>L.ite ((x2).isNone) (K (.bool false))<|L.call Pr ZF [.pointer x2,.string xm,I 2,I 3] (.tup [eL6,eL6]) λ(x4:Sl×Sl×Unit)=>L.call Pr ZZ [.pointer x3,.string xm,I 2,I 3] (.tup [eL6,eL6]) λ(x5:Sl×Sl×Unit)=>L.loop (Y:=Int×Unit) (1,()) λy6 again7=>L.ite (decide (y6.1≤3)) (L.call Pr ZQ [.pointer x2,I y6.1] rI λ(x8:Int)=>L.call Pr yy [.pointer x3,I y6.1] rI λ(x9:Int)=>again7 (Wi (y6.1+1),()))<|L.join (Y:=Unit) (λk10=>L.loop (Y:=Int×Unit) (0,()) λy12 again13=>L.ite (decide (y12.1<((p0.len:Nat):Int))) (L.ite (decide (y12.1<30)) (L.join (Y:=Unit) (λk14=>L.idx p0.a y12.1 p0.len 1 λa16=>L.load eI6 a16 λ(x17:Int)=>L.call Pr Zv [I x17,I 20] rI λ(x18:Int)=>L.call Pr yu [.pointer x2,.string xm,I (Wi (1+x18))] (.tup [eI6,eB6]) λ(x19:Int×Bool×Unit)=>L.call Pr yi [.pointer x3,.string xm,I (Wi (1+x18))] (.tup [eI6,eB6]) λ(x20:Int×Bool×Unit)=>L.ite (x19.1 != x20.1) (K (.bool false))<|L.ite (!(x19.2.1 == x20.2.1)) (K (.bool false))<|L.ite (decide (y12.1<((p1.len:Nat):Int))) (L.idx p1.a y12.1 p1.len 1 λa21=>L.load eI6 a21 λ(x22:Int)=>L.call Pr Zv [I x22,I 6] rI λ(x23:Int)=>L.call Pr ZF [.pointer x2,.string kQ,I 1,I x23] (.tup [eL6,eL6]) λ(x24:Sl×Sl×Unit)=>L.loop (Y:=Int×Unit) (0,()) λy25 again26=>L.ite (decide (y25.1<((x24.1.len:Nat):Int))) (L.idx x24.1.a y25.1 x24.1.len 1 λa27=>L.load eI6 a27 λ(x28:Int)=>L.call Pr ZQ [.pointer x2,I x28] rI λ(x29:Int)=>again26 (Wi (y25.1+1),()))<|L.call Pr yu [.pointer x2,.string kQ,I (Wi (100+y12.1))] (.tup [eI6,eB6]) λ(x30:Int×Bool×Unit)=>L.idx p1.a y12.1 p1.len 1 λa31=>L.load eI6 a31 λ(x32:Int)=>L.call Pr Zv [I x32,I 30] rI λ(x33:Int)=>L.call Pr Yu [.pointer x2,I (Wi (100+x33))] (.tup [eS6,eI6]) λ(x34:B0×Int×Unit)=>k14 (()))<|k14 (())) λz15=>again13 (Wi (y12.1+1),()))<|k10 (()))<|k10 (())) λz11=>L.call Pr Yt [.pointer x2,.string xm] rL λ(x35:Sl)=>L.call Pr Zb [.pointer x3,.string xm] rL λ(x36:Sl)=>L.ite (((x35.len:Nat):Int) != ((x36.len:Nat):Int)) (K (.bool false))<|L.loop (Y:=Int×Unit) (0,()) λy37 again38=>L.ite (decide (y37.1<((x35.len:Nat):Int))) (L.draw<|L.idx x35.a y37.1 x35.len 3 λa39=>L.load eI6 (a39.add 0) λ(x40:Int)=>L.idx x36.a y37.1 x36.len 3 λa41=>L.load eI6 (a41.add 0) λ(x42:Int)=>L.ite (x40 != x42) (K (.bool false))<|L.idx x35.a y37.1 x35.len 3 λa43=>L.load eI6 (a43.add 1) λ(x44:Int)=>L.idx x36.a y37.1 x36.len 3 λa45=>L.load eI6 (a45.add 1) λ(x46:Int)=>L.ite (x44 != x46) (K (.bool false))<|L.idx x35.a y37.1 x35.len 3 λa47=>L.load eI6 (a47.add 2) λ(x48:Int)=>L.idx x36.a y37.1 x36.len 3 λa49=>L.load eI6 (a49.add 2) λ(x50:Int)=>L.ite (x48 != x50) (K (.bool false))<|again38 (Wi (y37.1+1),()))<|K (.bool true)
def JE(p0 p1:Sl)(h:Yl p0 p1 K w):CV Yg [.v (.slice p0.a p0.len p0.cap),.v (.slice p1.a p1.len p1.cap)] K w:=Zq Try.f4 JJ _ h
def jm  (K:Value→PT):PT:=
  L.call Pr Jl [I 3] rP λ(x1:Option Addr)=>L.ite ((x1).isNone) (K (.bool false))<|L.call Pr yw [.pointer x1] rI λ(x2:Int)=>L.ite (x2 != 0) (K (.bool false))<|L.call Pr ZF [.pointer x1,.string xm,I 2,I 1] (.tup [eL6,eL6]) λ(x3:Sl×Sl×Unit)=>L.ite (((x3.1.len:Nat):Int) == 1) (L.idx x3.1.a 0 x3.1.len 1 λa4=>L.load eI6 a4 λ(x5:Int)=>L.ite (x5 == 1) (L.ite (((x3.2.1.len:Nat):Int) == 0) (L.call Pr yw [.pointer x1] rI λ(x6:Int)=>L.ite (x6 == 1) (L.call Pr YT [.pointer x1,I 1] rS λ(x7:B0)=>L.ite (x7.toList == xm.toList) (L.call Pr ZQ [.pointer x1,I 1] rI λ(x8:Int)=>K (.bool (x8 == 0)))<|K (.bool false))<|K (.bool false))<|K (.bool false))<|K (.bool false))<|K (.bool false)
def Xp(h:jm  K w):CV Ye [] K w:=Zq Try.f5 .auto _ h
def Qd(p0:Int)(K:Value→PT):PT:=
  L.sem Pr (.one (.one .map)) (Instr.makeMap zp none) λ(m1:Option Nat)=>L.sem Pr (.one (.one .map)) (Instr.makeMap yI none) λ(m2:Option Nat)=>L.new [.map m1,.map m2,I p0,I 0] Xw λb3=>K (.pointer (some (⟨b3,0,none⟩)))
def vA(p0:Int)(h:Qd p0 K w):CV Jl [.v (.int .i64 p0)] K w:=Zq Try.f6 .auto _ h
def Xr:Ann:=(.q2 (.q2 (.seq (.one [(8,eL6),(10,eI6)] (.seq (.q2 (.cond .auto .auto) none) .auto none)) (.seq (.one [(9,eL6),(10,eI6)] .auto) .auto none) (some [(8,eL6),(10,eI6)])) none) none)
def jk(p0:Option Addr)(p1:B0)(p2 p3:Int)(K:Value→PT):PT:=
  L.call Pr YS [.pointer p0,.string p1] rI λ(x1:Int)=>L.join (Y:=Sl×Int×Unit) (λk2=>L.loop (Y:=Sl×Int×Unit) (⟨none,0,0⟩,x1,()) λy4 again5=>L.draw<|L.ite (decide (y4.2.1<p3)) (L.nonnil p0 λa6=>L.load (.one (.map)) (a6.add 0) λ(x7:Option Nat)=>L.semR Pr rI (Builtin.len_ #[zp] zA #[.map x7]) λ(x8:Int)=>L.nonnil p0 λa9=>L.load eI6 (a9.add 2) λ(x10:Int)=>L.ite (decide (x8<x10)) (L.nonnil p0 λa11=>L.load eI6 (a11.add 3) λ(x12:Int)=>L.nonnil p0 λa13=>L.store (a13.add 3) [I (Wi (x12+1))]<|L.draw<|L.nonnil p0 λa14=>L.load (.one (.map)) (a14.add 0) λ(x15:Option Nat)=>L.nonnil p0 λa16=>L.load eI6 (a16.add 3) λ(x17:Int)=>L.call Pr qC [I p2] rP λ(x18:Option Addr)=>L.chk (a16.add 3) [I x17]<|L.chk (a14.add 0) [.map x15]<|L.semU Pr (Instr.mapUpdate zp (.map x15) (I x17) (.agg #[.string p1,.pointer x18]))<|L.nonnil p0 λa19=>L.load eI6 (a19.add 3) λ(x20:Int)=>L.new [I x20] zA λb21=>L.sem Pr (.one (.one .slice)) (Builtin.append_ #[zn,zn] zn #[Sv6 y4.1,.slice (some ⟨b21,0,none⟩) 1 1]) λ(s22:Sl)=>again5 (⟨s22.a,s22.len,s22.cap⟩,Wi (y4.2.1+1),()))<|k2 (⟨y4.1.a,y4.1.len,y4.1.cap⟩,y4.2.1,()))<|k2 (⟨y4.1.a,y4.1.len,y4.1.cap⟩,y4.2.1,())) λz3=>L.loop (Y:=Sl×Int×Unit) (⟨none,0,0⟩,z3.2.1,()) λy23 again24=>L.ite (decide (y23.2.1>(if 0>p3 then 0 else p3))) (L.call Pr Yc [.pointer p0,.string p1] rI λ(x25:Int)=>L.nonnil p0 λa26=>L.load (.one (.map)) (a26.add 0) λ(x27:Option Nat)=>L.semR Pr (.one (.agg [.str,.ptr])) (Instr.lookup zp (.map x27) (I x25) false) λ(x28:B0×Option Addr×Unit)=>L.call Pr jf [.pointer x28.2.1] rI λ(x29:Int)=>L.call Pr yM [.pointer p0,I x25] (.tup []) λ(x30:Unit)=>L.new [I x25] zA λb31=>L.sem Pr (.one (.one .slice)) (Builtin.append_ #[zn,zn] zn #[Sv6 y23.1,.slice (some ⟨b31,0,none⟩) 1 1]) λ(s32:Sl)=>again24 (⟨s32.a,s32.len,s32.cap⟩,Wi (y23.2.1-1),()))<|L.call Pr ZK [Sv6 z3.1] rL λ(x33:Sl)=>L.call Pr ZK [Sv6 y23.1] rL λ(x34:Sl)=>K (.tuple #[Sv6 x33,Sv6 x34])
def Xn(p0:Option Addr)(p1:B0)(p2 p3:Int)(h:jk p0 p1 p2 p3 K w):CV ZF [.v (.pointer p0),.v (.string p1),.v (.int .i64 p2),.v (.int .i64 p3)] K w:=Zq Try.f7 Xr _ h
def JS(p0:Option Addr)(p1:Int)(K:Value→PT):PT:=
  L.nonnil p0 λa1=>L.load (.one (.map)) (a1.add 0) λ(x2:Option Nat)=>L.semR Pr (.tup [(.agg [.str,.ptr]),.one .bool]) (Instr.lookup zp (.map x2) (I p1) true) λ(x3:pt0)=>L.new [.string s_,.pointer none] yQ λb4=>L.store (⟨b4,0,none⟩) [.string x3.1.1,.pointer x3.1.2.1]<|L.ite (!x3.2.1) (K (I 6))<|L.load eP6 (Ad6 b4 1) λ(x5:Option Addr)=>L.call Pr JY [.pointer x5] rI λ(x6:Int)=>K (I x6)
def qP(p0:Option Addr)(p1:Int)(h:JS p0 p1 K w):CV ZQ [.v (.pointer p0),.v (.int .i64 p1)] K w:=Zq Try.f8 .auto _ h
def XW:Ann:=(.q2 (.q2 (.q2 (.seq (.q2 (.q2 .auto (some [(28,eI6),(29,eP6)])) none) (.q2 (.seq (.q2 (.one [(41,eI6)] .auto) none) .auto none) none) none) none) none) none)
def jS(p0:Option Addr)(p1:B0)(p2:Int)(K:Value→PT):PT:=
  L.nonnil p0 λa1=>L.load (.one (.map)) (a1.add 1) λ(x2:Option Nat)=>L.semR Pr (.tup [eI6,.one .bool]) (Instr.lookup yI (.map x2) (I p2) true) λ(x3:Int×Bool×Unit)=>L.ite x3.2.1 (K (.tuple #[I 0,.bool false]))<|L.new [.slice none 0 0] zI λb4=>L.call Pr ZP [.pointer p0,.string p1] (.one (.one (.func))) λ(x5:FV)=>L.range Pr none (.func x5.fn x5.fs x5.cs) [eI6,eP6] (λl6(y7:Int×Option Addr×Unit) R8=>L.begin Pr l6<|L.draw<|L.load eL6 (⟨b4,0,none⟩) λ(x11:Sl)=>L.call Pr Zj [.pointer y7.2.1] rI λ(x12:Int)=>L.chk (⟨b4,0,none⟩) [Sv6 x11]<|L.new [I x12,I y7.1] zd λb13=>L.chk (⟨b4,0,none⟩) [Sv6 x11]<|L.sem Pr (.one (.one .slice)) (Builtin.append_ #[zI,zI] zI #[Sv6 x11,.slice (some ⟨b13,0,none⟩) 1 1]) λ(s14:Sl)=>L.store (⟨b4,0,none⟩) [Sv6 s14]<|L.endRound Pr l6 none R8) λd9 j10=>L.jump j10 (L.load eL6 (⟨b4,0,none⟩) λ(x15:Sl)=>L.call Pr zu [Sv6 x15,.func (.func zq) #[] #[]] (.tup []) λ(x16:Unit)=>L.load eL6 (⟨b4,0,none⟩) λ(x17:Sl)=>L.loop (Y:=Int×Unit) (0,()) λy18 again19=>L.ite (decide (y18.1<((x17.len:Nat):Int))) (L.idx x17.a y18.1 x17.len 2 λa20=>L.load (.agg [.int .i64,.int .i64]) a20 λ(x21:Int×Int×Unit)=>L.new [I 0,I 0] zd λb22=>L.store (⟨b22,0,none⟩) [I x21.1,I x21.2.1]<|L.draw<|L.nonnil p0 λa23=>L.load (.one (.map)) (a23.add 0) λ(x24:Option Nat)=>L.load eI6 (Ad6 b22 1) λ(x25:Int)=>L.semR Pr (.one (.agg [.str,.ptr])) (Instr.lookup zp (.map x24) (I x25) false) λ(x26:B0×Option Addr×Unit)=>L.call Pr YD [.pointer x26.2.1,I p2] rI λ(x27:Int)=>L.ite (x27 == 0) (L.draw<|L.nonnil p0 λa28=>L.load (.one (.map)) (a28.add 1) λ(x29:Option Nat)=>L.load eI6 (Ad6 b22 1) λ(x30:Int)=>L.semU Pr (Instr.mapUpdate yI (.map x29) (I p2) (I x30))<|L.load eI6 (Ad6 b22 1) λ(x31:Int)=>L.unmark Pr (d9++[])<|K (.tuple #[I x31,.bool true]))<|again19 (Wi (y18.1+1),()))<|L.unmark Pr (d9++[])<|K (.tuple #[I 0,.bool false])) (L.unmark Pr (d9++[])<|K (.tuple #[I 0,.bool false])) []
def XR(p0:Option Addr)(p1:B0)(p2:Int)(h:jS p0 p1 p2 K w):CV yu [.v (.pointer p0),.v (.string p1),.v (.int .i64 p2)] K w:=Zq Try.f9 XW _ h
def XX:Ann:=(.q2 (.q2 (.seq (.q2 (.q2 .auto (some [(11,eI6),(12,eP6)])) none) .auto none) none) none)
def jT(p0:Option Addr)(p1:B0)(K:Value→PT):PT:=
  L.new [.slice none 0 0] zU λb1=>L.call Pr ZP [.pointer p0,.string p1] (.one (.one (.func))) λ(x2:FV)=>L.range Pr none (.func x2.fn x2.fs x2.cs) [eI6,eP6] (λl3(y4:Int×Option Addr×Unit) R5=>L.begin Pr l3<|L.draw<|L.load eL6 (⟨b1,0,none⟩) λ(x8:Sl)=>L.call Pr zT [.pointer y4.2.1] rI λ(x9:Int)=>L.chk (⟨b1,0,none⟩) [Sv6 x8]<|L.call Pr Zj [.pointer y4.2.1] rI λ(x10:Int)=>L.chk (⟨b1,0,none⟩) [Sv6 x8]<|L.new [I y4.1,I x9,I x10] yV λb11=>L.chk (⟨b1,0,none⟩) [Sv6 x8]<|L.sem Pr (.one (.one .slice)) (Builtin.append_ #[zU,zU] zU #[Sv6 x8,.slice (some ⟨b11,0,none⟩) 1 1]) λ(s12:Sl)=>L.store (⟨b1,0,none⟩) [Sv6 s12]<|L.endRound Pr l3 none R5) λd6 j7=>L.jump j7 (L.load eL6 (⟨b1,0,none⟩) λ(x13:Sl)=>L.call Pr zZ [Sv6 x13] rL λ(x14:Sl)=>L.unmark Pr (d6++[])<|K (.slice x14.a x14.len x14.cap)) (L.unmark Pr (d6++[])<|K (.slice none 0 0)) []
def XS(p0:Option Addr)(p1:B0)(h:jT p0 p1 K w):CV Yt [.v (.pointer p0),.v (.string p1)] K w:=Zq Try.f10 XX _ h
def jV(p0:Option Addr)(p1:Int)(K:Value→PT):PT:=
  L.nonnil p0 λa1=>L.load (.one (.map)) (a1.add 1) λ(x2:Option Nat)=>L.semR Pr (.tup [eI6,.one .bool]) (Instr.lookup yI (.map x2) (I p1) true) λ(x3:Int×Bool×Unit)=>L.ite (!x3.2.1) (K (.tuple #[.string s_,I 6]))<|L.nonnil p0 λa4=>L.load (.one (.map)) (a4.add 0) λ(x5:Option Nat)=>L.semR Pr (.one (.agg [.str,.ptr])) (Instr.lookup zp (.map x5) (I x3.1) false) λ(x6:B0×Option Addr×Unit)=>L.new [.string s_,.pointer none] yQ λb7=>L.store (⟨b7,0,none⟩) [.string x6.1,.pointer x6.2.1]<|L.load eP6 (Ad6 b7 1) λ(x8:Option Addr)=>L.call Pr YE [.pointer x8,I p1] rI λ(x9:Int)=>L.nonnil p0 λa10=>L.load (.one (.map)) (a10.add 1) λ(x11:Option Nat)=>L.sem Pr (.tup []) (Builtin.delete_ #[yI,zA] T_ #[.map x11,I p1]) λ_=>L.call Pr yM [.pointer p0,I x3.1] (.tup []) λ(x12:Unit)=>L.load eS6 (Ad6 b7 0) λ(x13:B0)=>K (.tuple #[.string x13,I 0])
def XU(p0:Option Addr)(p1:Int)(h:jV p0 p1 K w):CV Yu [.v (.pointer p0),.v (.int .i64 p1)] K w:=Zq Try.f11 .auto _ h
def jU(p0:Option Addr)(K:Value→PT):PT:=
  L.nonnil p0 λa1=>L.load (.one (.map)) (a1.add 0) λ(x2:Option Nat)=>L.semR Pr rI (Builtin.len_ #[zp] zA #[.map x2]) λ(x3:Int)=>K (I x3)
def XT(p0:Option Addr)(h:jU p0 K w):CV yw [.v (.pointer p0)] K w:=Zq Try.f13 .auto _ h
def JT(p0:Option Addr)(p1:Int)(K:Value→PT):PT:=
  L.nonnil p0 λa1=>L.load (.one (.map)) (a1.add 0) λ(x2:Option Nat)=>L.semR Pr (.one (.agg [.str,.ptr])) (Instr.lookup zp (.map x2) (I p1) false) λ(x3:B0×Option Addr×Unit)=>K (.string x3.1)
def qQ(p0:Option Addr)(p1:Int)(h:JT p0 p1 K w):CV YT [.v (.pointer p0),.v (.int .i64 p1)] K w:=Zq Try.f14 .auto _ h
def xV:Ann:=(.q2 (.q2 (.q2 .auto (some [(5,eI6)])) none) none)
def jd(p0 p1:Int)(K:Value→PT):PT:=
  L.guard (p1≠(0:Int))<|L.join (Y:=Int×Unit) (λk1=>L.ite (decide ((Int.tmod p0 p1)<0)) (k1 (Wi ((Int.tmod p0 p1)+p1),()))<|k1 (Int.tmod p0 p1,())) λz2=>K (I z2.1)
def xT(p0 p1:Int)(h:jd p0 p1 K w):CV Zv [.v (.int .i64 p0),.v (.int .i64 p1)] K w:=Zq Try.f15 xV _ h
def Js(p0:Int)(K:Value→PT):PT:=
  L.new [I p0,I 0,.slice none 0 0] jh λb1=>K (.pointer (some (⟨b1,0,none⟩)))
def qv(p0:Int)(h:Js p0 K w):CV YF [.v (.int .i64 p0)] K w:=Zq Try.f16 .auto _ h
def Jh:Ann:=(.q2 (.q2 (.q2 (.seq (.one [(10,eL6),(12,eI6)] (.seq (.q2 (.cond .auto .auto) none) .auto none)) (.seq (.one [(11,eL6),(12,eI6)] .auto) .auto none) (some [(10,eL6),(12,eI6)])) none) none) none)
def yZ(p0:Option Addr)(p1:B0)(p2 p3:Int)(K:Value→PT):PT:=
  L.call Pr ya [.pointer p0,.string p1,I 1,I 2] rI λ(x1:Int)=>L.join (Y:=Sl×Int×Unit) (λk2=>L.loop (Y:=Sl×Int×Unit) (⟨none,0,0⟩,x1,()) λy4 again5=>L.draw<|L.ite (decide (y4.2.1<p3)) (L.nonnil p0 λa6=>L.load eL6 (a6.add 2) λ(x7:Sl)=>L.nonnil p0 λa8=>L.load eI6 (a8.add 0) λ(x9:Int)=>L.ite (decide (((x7.len:Nat):Int)<x9)) (L.nonnil p0 λa10=>L.load eI6 (a10.add 1) λ(x11:Int)=>L.nonnil p0 λa12=>L.store (a12.add 1) [I (Wi (x11+1))]<|L.draw<|L.nonnil p0 λa13=>L.load eL6 (a13.add 2) λ(x14:Sl)=>L.nonnil p0 λa15=>L.load eI6 (a15.add 1) λ(x16:Int)=>L.call Pr YU [I p2] rP λ(x17:Option Addr)=>L.chk (a15.add 1) [I x16]<|L.chk (a13.add 2) [Sv6 x14]<|L.new [I x16,.string p1,.pointer x17] jO λb18=>L.chk (a13.add 2) [Sv6 x14]<|L.new [.pointer (some (⟨b18,0,none⟩))] Zh λb19=>L.chk (a13.add 2) [Sv6 x14]<|L.sem Pr (.one (.one .slice)) (Builtin.append_ #[zS,zS] zS #[Sv6 x14,.slice (some ⟨b19,0,none⟩) 1 1]) λ(s20:Sl)=>L.nonnil p0 λa21=>L.store (a21.add 2) [Sv6 s20]<|L.nonnil p0 λa22=>L.load eI6 (a22.add 1) λ(x23:Int)=>L.new [I x23] zA λb24=>L.sem Pr (.one (.one .slice)) (Builtin.append_ #[zn,zn] zn #[Sv6 y4.1,.slice (some ⟨b24,0,none⟩) 1 1]) λ(s25:Sl)=>again5 (⟨s25.a,s25.len,s25.cap⟩,Wi (y4.2.1+1),()))<|k2 (⟨y4.1.a,y4.1.len,y4.1.cap⟩,y4.2.1,()))<|k2 (⟨y4.1.a,y4.1.len,y4.1.cap⟩,y4.2.1,())) λz3=>L.loop (Y:=Sl×Int×Unit) (⟨none,0,0⟩,z3.2.1,()) λy26 again27=>L.ite (decide (y26.2.1>p3)) (L.call Pr yg [.pointer p0,.string p1] rP λ(x28:Option Addr)=>L.nonnil x28 λa29=>L.load eP6 (a29.add 2) λ(x30:Option Addr)=>L.call Pr yx [.pointer x30] rI λ(x31:Int)=>L.nonnil x28 λa32=>L.load eI6 (a32.add 0) λ(x33:Int)=>L.new [I x33] zA λb34=>L.sem Pr (.one (.one .slice)) (Builtin.append_ #[zn,zn] zn #[Sv6 y26.1,.slice (some ⟨b34,0,none⟩) 1 1]) λ(s35:Sl)=>again27 (⟨s35.a,s35.len,s35.cap⟩,Wi (y26.2.1-1),()))<|L.call Pr ZY [.pointer p0] (.tup []) λ(x36:Unit)=>K (.tuple #[Sv6 z3.1,Sv6 y26.1])
def Jb(p0:Option Addr)(p1:B0)(p2 p3:Int)(h:yZ p0 p1 p2 p3 K w):CV ZZ [.v (.pointer p0),.v (.string p1),.v (.int .i64 p2),.v (.int .i64 p3)] K w:=Zq Try.f17 Jh _ h
def YK(p0:Option Addr)(p1:Int)(K:Value→PT):PT:=
  L.call Pr yh [.pointer p0,I p1] rP λ(x1:Option Addr)=>L.ite ((x1).isNone) (K (I 6))<|L.nonnil x1 λa2=>L.load eP6 (a2.add 2) λ(x3:Option Addr)=>L.call Pr Yd [.pointer x3] rI λ(x4:Int)=>K (I x4)
def xk(p0:Option Addr)(p1:Int)(h:YK p0 p1 K w):CV yy [.v (.pointer p0),.v (.int .i64 p1)] K w:=Zq Try.f18 .auto _ h
def JH:Ann:=(.q2 (.q2 (.q2 (.seq (.q2 (.one [(8,eP6),(9,eI6)] (.q2 (.seq (.q2 (.q2 (.cond .auto .auto) none) none) .auto (some [(8,eP6)])) none)) none) .auto none) none) none) none)
def Yj(p0:Option Addr)(p1:B0)(p2:Int)(K:Value→PT):PT:=
  L.call Pr ZX [.pointer p0,I p2] rP λ(x1:Option Addr)=>L.ite (!(x1).isNone) (K (.tuple #[I 0,.bool false]))<|L.loop (Y:=Option Addr×Int×Unit) (none,0,()) λy2 again3=>L.nonnil p0 λa4=>L.load eL6 (a4.add 2) λ(x5:Sl)=>L.ite (decide (y2.2.1<((x5.len:Nat):Int))) (L.join (Y:=Option Addr×Unit) (λk6=>L.nonnil p0 λa8=>L.load eL6 (a8.add 2) λ(x9:Sl)=>L.idx x9.a y2.2.1 x9.len 1 λa10=>L.load eP6 a10 λ(x11:Option Addr)=>L.draw<|L.nonnil x11 λa12=>L.load eS6 (a12.add 1) λ(x13:B0)=>L.ite (x13.toList == p1.toList) (L.nonnil x11 λa14=>L.load eP6 (a14.add 2) λ(x15:Option Addr)=>L.call Pr zJ [.pointer x15] rI λ(x16:Int)=>L.ite (x16 == 2) (L.nonnil x11 λa17=>L.load eP6 (a17.add 2) λ(x18:Option Addr)=>L.nonnil x11 λa19=>L.load eP6 (a19.add 2) λ(x20:Option Addr)=>L.nonnil x20 λa21=>L.load eI6 (a21.add 0) λ(x22:Int)=>L.call Pr zN [.pointer x18] rI λ(x23:Int)=>L.chk (a21.add 0) [I x22]<|L.chk (a19.add 2) [.pointer x20]<|L.ite (decide (x23<x22)) (L.ite ((y2.1).isNone) (k6 (x11,()))<|L.nonnil x11 λa24=>L.load eP6 (a24.add 2) λ(x25:Option Addr)=>L.nonnil y2.1 λa26=>L.load eP6 (a26.add 2) λ(x27:Option Addr)=>L.call Pr zN [.pointer x25] rI λ(x28:Int)=>L.chk (a26.add 2) [.pointer x27]<|L.call Pr zN [.pointer x27] rI λ(x29:Int)=>L.ite (decide (x28<x29)) (k6 (x11,()))<|k6 (y2.1,()))<|k6 (y2.1,()))<|k6 (y2.1,()))<|k6 (y2.1,())) λz7=>again3 (z7.1,Wi (y2.2.1+1),()))<|L.ite ((y2.1).isNone) (K (.tuple #[I 0,.bool false]))<|L.nonnil y2.1 λa30=>L.load eP6 (a30.add 2) λ(x31:Option Addr)=>L.call Pr yK [.pointer x31,I p2] rI λ(x32:Int)=>L.nonnil y2.1 λa33=>L.load eI6 (a33.add 0) λ(x34:Int)=>K (.tuple #[I x34,.bool true])
def JC(p0:Option Addr)(p1:B0)(p2:Int)(h:Yj p0 p1 p2 K w):CV yi [.v (.pointer p0),.v (.string p1),.v (.int .i64 p2)] K w:=Zq Try.f19 JH _ h
def JI:Ann:=(.q2 (.q2 (.seq (.q2 (.one [(5,eL6),(6,eI6)] (.q2 (.q2 .auto (some [(5,eL6)])) none)) none) .auto none) none) none)
def Yk(p0:Option Addr)(p1:B0)(K:Value→PT):PT:=
  L.loop (Y:=Sl×Int×Unit) (⟨none,0,0⟩,0,()) λy1 again2=>L.nonnil p0 λa3=>L.load eL6 (a3.add 2) λ(x4:Sl)=>L.ite (decide (y1.2.1<((x4.len:Nat):Int))) (L.join (Y:=Sl×Unit) (λk5=>L.nonnil p0 λa7=>L.load eL6 (a7.add 2) λ(x8:Sl)=>L.idx x8.a y1.2.1 x8.len 1 λa9=>L.load eP6 a9 λ(x10:Option Addr)=>L.nonnil x10 λa11=>L.load eS6 (a11.add 1) λ(x12:B0)=>L.ite (x12.toList == p1.toList) (L.draw<|L.nonnil p0 λa13=>L.load eL6 (a13.add 2) λ(x14:Sl)=>L.idx x14.a y1.2.1 x14.len 1 λa15=>L.load eP6 a15 λ(x16:Option Addr)=>L.nonnil x16 λa17=>L.load eI6 (a17.add 0) λ(x18:Int)=>L.nonnil p0 λa19=>L.load eL6 (a19.add 2) λ(x20:Sl)=>L.idx x20.a y1.2.1 x20.len 1 λa21=>L.load eP6 a21 λ(x22:Option Addr)=>L.nonnil x22 λa23=>L.load eP6 (a23.add 2) λ(x24:Option Addr)=>L.nonnil p0 λa25=>L.load eL6 (a25.add 2) λ(x26:Sl)=>L.idx x26.a y1.2.1 x26.len 1 λa27=>L.load eP6 a27 λ(x28:Option Addr)=>L.nonnil x28 λa29=>L.load eP6 (a29.add 2) λ(x30:Option Addr)=>L.call Pr zJ [.pointer x24] rI λ(x31:Int)=>L.chk (a29.add 2) [.pointer x30]<|L.chk a27 [.pointer x28]<|L.chk (a25.add 2) [Sv6 x26]<|L.chk (a17.add 0) [I x18]<|L.chk a15 [.pointer x16]<|L.chk (a13.add 2) [Sv6 x14]<|L.call Pr zN [.pointer x30] rI λ(x32:Int)=>L.chk (a17.add 0) [I x18]<|L.chk a15 [.pointer x16]<|L.chk (a13.add 2) [Sv6 x14]<|L.new [I x18,I x31,I x32] Zt λb33=>L.sem Pr (.one (.one .slice)) (Builtin.append_ #[ye,ye] ye #[Sv6 y1.1,.slice (some ⟨b33,0,none⟩) 1 1]) λ(s34:Sl)=>k5 (⟨s34.a,s34.len,s34.cap⟩,()))<|k5 (⟨y1.1.a,y1.1.len,y1.1.cap⟩,())) λz6=>again2 (⟨z6.1.a,z6.1.len,z6.1.cap⟩,Wi (y1.2.1+1),()))<|K (.slice y1.1.a y1.1.len y1.1.cap)
def JD(p0:Option Addr)(p1:B0)(h:Yk p0 p1 K w):CV Zb [.v (.pointer p0),.v (.string p1)] K w:=Zq Try.f20 JI _ h
def qS:Ann:=(.q2 (.q2 (.seq (.q2 (.q2 .auto (some [(11,eI6),(12,eP6)])) none) .auto none) none) none)
def JQ(p0:Option Addr)(p1:B0)(K:Value→PT):PT:=
  L.new [I 0] zA λb1=>L.store (⟨b1,0,none⟩) [I 0]<|L.call Pr ZP [.pointer p0,.string p1] (.one (.one (.func))) λ(x2:FV)=>L.range Pr none (.func x2.fn x2.fs x2.cs) [eI6,eP6] (λl3(y4:Int×Option Addr×Unit) R5=>L.begin Pr l3<|L.call Pr zT [.pointer y4.2.1] rI λ(x8:Int)=>L.ite (x8 != 3) (L.load eI6 (⟨b1,0,none⟩) λ(x9:Int)=>L.store (⟨b1,0,none⟩) [I (Wi (x9+1))]<|L.endRound Pr l3 none R5)<|L.endRound Pr l3 none R5) λd6 j7=>L.jump j7 (L.load eI6 (⟨b1,0,none⟩) λ(x10:Int)=>L.unmark Pr (d6++[])<|K (I x10)) (L.unmark Pr (d6++[])<|K (I 0)) []
def qN(p0:Option Addr)(p1:B0)(h:JQ p0 p1 K w):CV YS [.v (.pointer p0),.v (.string p1)] K w:=Zq Try.f21 qS _ h
def uR(p0:Int)(K:Value→PT):PT:=
  L.sem Pr (.one (.one .map)) (Instr.makeMap Zz none) λ(m1:Option Nat)=>L.new [I 1,.map m1,I p0] JO λb2=>K (.pointer (some (⟨b2,0,none⟩)))
def kH(p0:Int)(h:uR p0 K w):CV qC [.v (.int .i64 p0)] K w:=Zq Try.f22 .auto _ h
def Xq:Ann:=(.q2 (.q2 (.seq (.q2 (.q2 (.q2 (.q2 (.cond .auto .auto) none) none) (some [(13,eI6),(14,eP6)])) none) .auto none) none) none)
def jj(p0:Option Addr)(p1:B0)(K:Value→PT):PT:=
  L.new [I 0] zA λb1=>L.new [I 0] zA λb2=>L.new [I 0] zA λb3=>L.store (⟨b1,0,none⟩) [I 0]<|L.store (⟨b2,0,none⟩) [I 3]<|L.store (⟨b3,0,none⟩) [I 0]<|L.call Pr ZP [.pointer p0,.string p1] (.one (.one (.func))) λ(x4:FV)=>L.range Pr none (.func x4.fn x4.fs x4.cs) [eI6,eP6] (λl5(y6:Int×Option Addr×Unit) R7=>L.begin Pr l5<|L.call Pr zT [.pointer y6.2.1] rI λ(x10:Int)=>L.ite (x10 == 3) (L.endRound Pr l5 none R7)<|L.draw<|L.load eI6 (⟨b2,0,none⟩) λ(x11:Int)=>L.call Pr zT [.pointer y6.2.1] rI λ(x12:Int)=>L.chk (⟨b2,0,none⟩) [I x11]<|L.ite (decide (x12<x11)) (L.call Pr zT [.pointer y6.2.1] rI λ(x13:Int)=>L.call Pr Zj [.pointer y6.2.1] rI λ(x14:Int)=>L.store (⟨b1,0,none⟩) [I y6.1]<|L.store (⟨b2,0,none⟩) [I x13]<|L.store (⟨b3,0,none⟩) [I x14]<|L.endRound Pr l5 none R7)<|L.load eI6 (⟨b2,0,none⟩) λ(x15:Int)=>L.call Pr zT [.pointer y6.2.1] rI λ(x16:Int)=>L.chk (⟨b2,0,none⟩) [I x15]<|L.ite (x16 == x15) (L.load eI6 (⟨b3,0,none⟩) λ(x17:Int)=>L.call Pr Zj [.pointer y6.2.1] rI λ(x18:Int)=>L.chk (⟨b3,0,none⟩) [I x17]<|L.ite (decide (x18≤x17)) (L.call Pr zT [.pointer y6.2.1] rI λ(x19:Int)=>L.call Pr Zj [.pointer y6.2.1] rI λ(x20:Int)=>L.store (⟨b1,0,none⟩) [I y6.1]<|L.store (⟨b2,0,none⟩) [I x19]<|L.store (⟨b3,0,none⟩) [I x20]<|L.endRound Pr l5 none R7)<|L.endRound Pr l5 none R7)<|L.endRound Pr l5 none R7) λd8 j9=>L.jump j9 (L.load eI6 (⟨b1,0,none⟩) λ(x21:Int)=>L.unmark Pr (d8++[])<|K (I x21)) (L.unmark Pr (d8++[])<|K (I 0)) []
def Xm(p0:Option Addr)(p1:B0)(h:jj p0 p1 K w):CV Yc [.v (.pointer p0),.v (.string p1)] K w:=Zq Try.f23 Xq _ h
def Qj:Ann:=(.q2 (.seq (.q2 (.cond .auto .auto) none) .auto (some [])) none)
def xu(p0:Option Addr)(K:Value→PT):PT:=
  L.join (Y:=Unit) (λk1=>L.nonnil p0 λa3=>L.load eI6 (a3.add 0) λ(x4:Int)=>L.ite (x4 != 1) (L.nonnil p0 λa5=>L.load eI6 (a5.add 0) λ(x6:Int)=>L.ite (x6 != 2) (K (I 9))<|k1 (()))<|k1 (())) λz2=>L.nonnil p0 λa7=>L.store (a7.add 0) [I 3]<|L.call Pr YX [.pointer p0] (.tup []) λ(x8:Unit)=>K (I 0)
def Qi(p0:Option Addr)(h:xu p0 K w):CV jf [.v (.pointer p0)] K w:=Zq Try.f24 Qj _ h
def Jr(p0:Option Addr)(p1:Int)(K:Value→PT):PT:=
  L.nonnil p0 λa1=>L.load (.one (.map)) (a1.add 0) λ(x2:Option Nat)=>L.semR Pr (.one (.agg [.str,.ptr])) (Instr.lookup zp (.map x2) (I p1) false) λ(x3:B0×Option Addr×Unit)=>L.call Pr zT [.pointer x3.2.1] rI λ(x4:Int)=>L.ite (x4 == 4) (L.nonnil p0 λa5=>L.load (.one (.map)) (a5.add 0) λ(x6:Option Nat)=>L.sem Pr (.tup []) (Builtin.delete_ #[zp,zA] T_ #[.map x6,I p1]) λ_=>K (.tuple #[]))<|K (.tuple #[])
def qu(p0:Option Addr)(p1:Int)(h:Jr p0 p1 K w):CV yM [.v (.pointer p0),.v (.int .i64 p1)] K w:=Zq Try.f25 .auto _ h
def YH(p0:Sl)(K:Value→PT):PT:=
  L.ite ((p0.a).isNone) (K (.slice none 0 0))<|L.new [] zA λb1=>L.sem Pr (.one (.one .slice)) (Builtin.append_ #[zn,zn] zn #[.slice (some ⟨b1,0,none⟩) 0 0,Sv6 p0]) λ(s2:Sl)=>K (.slice s2.a s2.len s2.cap)
def xh(p0:Sl)(h:YH p0 K w):CV ZK [.v (.slice p0.a p0.len p0.cap)] K w:=Zq Try.f26 .auto _ h
def qs(p0:Option Addr)(K:Value→PT):PT:=
  L.nonnil p0 λa1=>L.load eI6 (a1.add 0) λ(x2:Int)=>L.ite (x2 != 1) (K (I 9))<|L.nonnil p0 λa3=>L.store (a3.add 0) [I 2]<|K (I 0)
def Uv(p0:Option Addr)(h:qs p0 K w):CV JY [.v (.pointer p0)] K w:=Zq Try.f27 .auto _ h
def JR(p0:Option Addr)(p1:B0)(K:Value→PT):PT:=
  L.new [.pointer p0] zy λb1=>L.new [.string p1] ZH λb2=>K (.func (.func ZV) #[] #[.pointer (some (⟨b1,0,none⟩)),.pointer (some (⟨b2,0,none⟩))])
def qO(p0:Option Addr)(p1:B0)(h:JR p0 p1 K w):CV ZP [.v (.pointer p0),.v (.string p1)] K w:=Zq Try.f28 .auto _ h
def jQ(p0:Option Addr)(K:Value→PT):PT:=
  L.nonnil p0 λa1=>L.load (.one (.map)) ((a1.add 1).add 0) λ(x2:Option Nat)=>L.semR Pr rI (Builtin.len_ #[Zz] zA #[.map x2]) λ(x3:Int)=>K (I x3)
def xQ(p0:Option Addr)(h:jQ p0 K w):CV Zj [.v (.pointer p0)] K w:=Zq Try.f29 .auto _ h
def zF(p0:Sl)(p1:FV)(K:Value→PT):PT:=
  L.call Pr ZL [Sv6 p0,I ((p0.len:Nat):Int),.func p1.fn p1.fs p1.cs] (.tup []) λ(x1:Unit)=>K (.tuple #[])
def zW(p0:Sl)(p1:FV)(h:zF p0 p1 K w):CV zu [.v (.slice p0.a p0.len p0.cap),.v (.func p1.fn p1.fs p1.cs)] K w:=Zq Try.f30 .auto _ h
def jb(p0 p1:HT [.int .i64,.int .i64])(K:Value→PT):PT:=
  L.new [I p0.1,I p0.2.1] zd λb1=>L.new [I p1.1,I p1.2.1] zd λb2=>L.load eI6 (Ad6 b1 0) λ(x3:Int)=>L.load eI6 (Ad6 b2 0) λ(x4:Int)=>K (I (Wi (x3-x4)))
def xR(p0 p1:HT [.int .i64,.int .i64])(h:jb p0 p1 K w):CV zq [.ag [.int .i64 p0.1,.int .i64 p0.2.1],.ag [.int .i64 p1.1,.int .i64 p1.2.1]] K w:=Zq Try.f31 .auto _ h
def xO:xg Pr zq:=xH (by kernel_rfl)
def xM(p0:Option Addr)(p1:Int)(K:Value→PT):PT:=
  L.nonnil p0 λa1=>L.load eI6 (a1.add 0) λ(x2:Int)=>L.ite (x2 != 2) (K (I 9))<|L.nonnil p0 λa3=>L.call Pr Jk [.pointer (some (a3.add 1)),I p1] rI λ(x4:Int)=>K (I x4)
def ue(p0:Option Addr)(p1:Int)(h:xM p0 p1 K w):CV YD [.v (.pointer p0),.v (.int .i64 p1)] K w:=Zq Try.f32 .auto _ h
def xr(p0:Option Addr)(K:Value→PT):PT:=
  L.nonnil p0 λa1=>L.load eI6 (a1.add 0) λ(x2:Int)=>K (I x2)
def Qh(p0:Option Addr)(h:xr p0 K w):CV zT [.v (.pointer p0)] K w:=Zq Try.f33 .auto _ h
def ZI(p0:Sl)(K:Value→PT):PT:=
  L.ite ((p0.a).isNone) (K (.slice none 0 0))<|L.new [] yV λb1=>L.sem Pr (.one (.one .slice)) (Builtin.append_ #[zU,zU] zU #[.slice (some ⟨b1,0,none⟩) 0 0,Sv6 p0]) λ(s2:Sl)=>K (.slice s2.a s2.len s2.cap)
def Yf(p0:Sl)(h:ZI p0 K w):CV zZ [.v (.slice p0.a p0.len p0.cap)] K w:=Zq Try.f34 .auto _ h
def xN(p0:Option Addr)(p1:Int)(K:Value→PT):PT:=
  L.nonnil p0 λa1=>L.call Pr Ys [.pointer (some (a1.add 1)),I p1] rI λ(x2:Int)=>L.call Pr YX [.pointer p0] (.tup []) λ(x3:Unit)=>K (I x2)
def uf(p0:Option Addr)(p1:Int)(h:xN p0 p1 K w):CV YE [.v (.pointer p0),.v (.int .i64 p1)] K w:=Zq Try.f35 .auto _ h
def Ji:Ann:=(.q2 (.q2 (.q2 (.seq (.q2 (.one [(9,eI6),(11,eI6)] (.q2 (.q2 .auto (some [(9,eI6)])) none)) none) .auto none) none) none) none)
def Ya(p0:Option Addr)(p1:B0)(p2 p3:Int)(K:Value→PT):PT:=
  L.call Pr Zb [.pointer p0,.string p1] rL λ(x1:Sl)=>L.loop (Y:=Int×Int×Unit) (0,0,()) λy2 again3=>L.ite (decide (y2.2.1<((x1.len:Nat):Int))) (L.join (Y:=Int×Unit) (λk4=>L.idx x1.a y2.2.1 x1.len 3 λa6=>L.load eI6 (a6.add 1) λ(x7:Int)=>L.ite (x7 == p2) (k4 (Wi (y2.1+1),()))<|L.idx x1.a y2.2.1 x1.len 3 λa8=>L.load eI6 (a8.add 1) λ(x9:Int)=>L.ite (x9 == p3) (k4 (Wi (y2.1+1),()))<|k4 (y2.1,())) λz5=>again3 (z5.1,Wi (y2.2.1+1),()))<|K (I y2.1)
def Jc(p0:Option Addr)(p1:B0)(p2 p3:Int)(h:Ya p0 p1 p2 p3 K w):CV ya [.v (.pointer p0),.v (.string p1),.v (.int .i64 p2),.v (.int .i64 p3)] K w:=Zq Try.f36 Ji _ h
def JU(p0:Int)(K:Value→PT):PT:=
  L.new [I p0,I 1,.slice none 0 0] zx λb1=>K (.pointer (some (⟨b1,0,none⟩)))
def qR(p0:Int)(h:JU p0 K w):CV YU [.v (.int .i64 p0)] K w:=Zq Try.f37 .auto _ h
def JF:Ann:=(.q2 (.q2 (.seq (.q2 (.one [(5,eP6),(6,eI6)] (.q2 (.seq (.q2 (.q2 (.seq (.q2 (.cond .auto .auto) none) (.q2 (.cond .auto .auto) none) (some [])) none) none) .auto (some [(5,eP6)])) none)) none) .auto none) none) none)
def Yh(p0:Option Addr)(p1:B0)(K:Value→PT):PT:=
  L.loop (Y:=Option Addr×Int×Unit) (none,0,()) λy1 again2=>L.nonnil p0 λa3=>L.load eL6 (a3.add 2) λ(x4:Sl)=>L.ite (decide (y1.2.1<((x4.len:Nat):Int))) (L.join (Y:=Option Addr×Unit) (λk5=>L.nonnil p0 λa7=>L.load eL6 (a7.add 2) λ(x8:Sl)=>L.idx x8.a y1.2.1 x8.len 1 λa9=>L.load eP6 a9 λ(x10:Option Addr)=>L.nonnil x10 λa11=>L.load eP6 (a11.add 2) λ(x12:Option Addr)=>L.call Pr zJ [.pointer x12] rI λ(x13:Int)=>L.join (Y:=Unit) (λk14=>L.nonnil x10 λa16=>L.load eS6 (a16.add 1) λ(x17:B0)=>L.ite (!(x17.toList == p1.toList)) (k5 (y1.1,()))<|L.ite (x13 != 1) (L.ite (x13 != 2) (k5 (y1.1,()))<|k14 (()))<|k14 (())) λz15=>L.draw<|L.ite ((y1.1).isNone) (k5 (x10,()))<|L.nonnil y1.1 λa18=>L.load eP6 (a18.add 2) λ(x19:Option Addr)=>L.call Pr zJ [.pointer x19] rI λ(x20:Int)=>L.ite (decide (x13<x20)) (k5 (x10,()))<|L.nonnil y1.1 λa21=>L.load eP6 (a21.add 2) λ(x22:Option Addr)=>L.call Pr zJ [.pointer x22] rI λ(x23:Int)=>L.ite (x13 == x23) (L.nonnil x10 λa24=>L.load eP6 (a24.add 2) λ(x25:Option Addr)=>L.nonnil y1.1 λa26=>L.load eP6 (a26.add 2) λ(x27:Option Addr)=>L.call Pr zN [.pointer x25] rI λ(x28:Int)=>L.chk (a26.add 2) [.pointer x27]<|L.call Pr zN [.pointer x27] rI λ(x29:Int)=>L.ite (decide (x28≤x29)) (k5 (x10,()))<|k5 (y1.1,()))<|k5 (y1.1,())) λz6=>again2 (z6.1,Wi (y1.2.1+1),()))<|K (.pointer y1.1)
def JA(p0:Option Addr)(p1:B0)(h:Yh p0 p1 K w):CV yg [.v (.pointer p0),.v (.string p1)] K w:=Zq Try.f38 JF _ h
def xl:Ann:=(.q2 (.seq (.q2 (.cond .auto .auto) none) (.q2 (.q2 .auto (some [])) none) (some [])) none)
def YJ(p0:Option Addr)(K:Value→PT):PT:=
  L.join (Y:=Unit) (λk1=>L.nonnil p0 λa3=>L.load eI6 (a3.add 1) λ(x4:Int)=>L.ite (x4 != 1) (L.nonnil p0 λa5=>L.load eI6 (a5.add 1) λ(x6:Int)=>L.ite (x6 != 2) (K (I 9))<|k1 (()))<|k1 (())) λz2=>L.nonnil p0 λa7=>L.store (a7.add 1) [I 4]<|L.join (Y:=Unit) (λk8=>L.nonnil p0 λa10=>L.load eL6 (a10.add 2) λ(x11:Sl)=>L.ite (decide (((x11.len:Nat):Int)>0)) (L.nonnil p0 λa12=>L.store (a12.add 1) [I 3]<|k8 (()))<|k8 (())) λz9=>K (I 0)
def xj(p0:Option Addr)(h:YJ p0 K w):CV yx [.v (.pointer p0)] K w:=Zq Try.f39 xl _ h
def Jg:Ann:=(.q2 (.seq (.q2 (.one [(2,eL6),(3,eI6)] (.q2 (.q2 .auto (some [(2,eL6)])) none)) none) .auto none) none)
def yY(p0:Option Addr)(K:Value→PT):PT:=
  L.loop (Y:=Sl×Int×Unit) (⟨none,0,0⟩,0,()) λy1 again2=>L.nonnil p0 λa3=>L.load eL6 (a3.add 2) λ(x4:Sl)=>L.ite (decide (y1.2.1<((x4.len:Nat):Int))) (L.join (Y:=Sl×Unit) (λk5=>L.nonnil p0 λa7=>L.load eL6 (a7.add 2) λ(x8:Sl)=>L.idx x8.a y1.2.1 x8.len 1 λa9=>L.load eP6 a9 λ(x10:Option Addr)=>L.nonnil x10 λa11=>L.load eP6 (a11.add 2) λ(x12:Option Addr)=>L.call Pr zJ [.pointer x12] rI λ(x13:Int)=>L.ite (x13 != 4) (L.nonnil p0 λa14=>L.load eL6 (a14.add 2) λ(x15:Sl)=>L.idx x15.a y1.2.1 x15.len 1 λa16=>L.load eP6 a16 λ(x17:Option Addr)=>L.new [.pointer x17] Zh λb18=>L.sem Pr (.one (.one .slice)) (Builtin.append_ #[zS,zS] zS #[Sv6 y1.1,.slice (some ⟨b18,0,none⟩) 1 1]) λ(s19:Sl)=>k5 (⟨s19.a,s19.len,s19.cap⟩,()))<|k5 (⟨y1.1.a,y1.1.len,y1.1.cap⟩,())) λz6=>again2 (⟨z6.1.a,z6.1.len,z6.1.cap⟩,Wi (y1.2.1+1),()))<|L.nonnil p0 λa20=>L.store (a20.add 2) [Sv6 y1.1]<|K (.tuple #[])
def Ja(p0:Option Addr)(h:yY p0 K w):CV ZY [.v (.pointer p0)] K w:=Zq Try.f40 Jg _ h
def JG:Ann:=(.q2 (.seq (.q2 (.one [(5,eI6)] .auto) none) .auto none) none)
def Yi(p0:Option Addr)(p1:Int)(K:Value→PT):PT:=
  L.loop (Y:=Int×Unit) (0,()) λy1 again2=>L.nonnil p0 λa3=>L.load eL6 (a3.add 2) λ(x4:Sl)=>L.ite (decide (y1.1<((x4.len:Nat):Int))) (L.nonnil p0 λa5=>L.load eL6 (a5.add 2) λ(x6:Sl)=>L.idx x6.a y1.1 x6.len 1 λa7=>L.load eP6 a7 λ(x8:Option Addr)=>L.nonnil x8 λa9=>L.load eI6 (a9.add 0) λ(x10:Int)=>L.ite (x10 == p1) (L.nonnil p0 λa11=>L.load eL6 (a11.add 2) λ(x12:Sl)=>L.idx x12.a y1.1 x12.len 1 λa13=>L.load eP6 a13 λ(x14:Option Addr)=>K (.pointer x14))<|again2 (Wi (y1.1+1),()))<|K (.pointer none)
def JB(p0:Option Addr)(p1:Int)(h:Yi p0 p1 K w):CV yh [.v (.pointer p0),.v (.int .i64 p1)] K w:=Zq Try.f41 JG _ h
def jl(p0:Option Addr)(K:Value→PT):PT:=
  L.nonnil p0 λa1=>L.load eI6 (a1.add 1) λ(x2:Int)=>L.ite (x2 != 1) (K (I 9))<|L.nonnil p0 λa3=>L.store (a3.add 1) [I 2]<|K (I 0)
def Xo(p0:Option Addr)(h:jl p0 K w):CV Yd [.v (.pointer p0)] K w:=Zq Try.f42 .auto _ h
def Je:Ann:=(.q2 (.seq (.q2 (.one [(5,eI6)] .auto) none) .auto none) none)
def yX(p0:Option Addr)(p1:Int)(K:Value→PT):PT:=
  L.loop (Y:=Int×Unit) (0,()) λy1 again2=>L.nonnil p0 λa3=>L.load eL6 (a3.add 2) λ(x4:Sl)=>L.ite (decide (y1.1<((x4.len:Nat):Int))) (L.nonnil p0 λa5=>L.load eL6 (a5.add 2) λ(x6:Sl)=>L.idx x6.a y1.1 x6.len 1 λa7=>L.load eP6 a7 λ(x8:Option Addr)=>L.nonnil x8 λa9=>L.load eP6 (a9.add 2) λ(x10:Option Addr)=>L.call Pr yc [.pointer x10,I p1] rB λ(x11:Bool)=>L.ite x11 (L.nonnil p0 λa12=>L.load eL6 (a12.add 2) λ(x13:Sl)=>L.idx x13.a y1.1 x13.len 1 λa14=>L.load eP6 a14 λ(x15:Option Addr)=>K (.pointer x15))<|again2 (Wi (y1.1+1),()))<|K (.pointer none)
def jZ(p0:Option Addr)(p1:Int)(h:yX p0 p1 K w):CV ZX [.v (.pointer p0),.v (.int .i64 p1)] K w:=Zq Try.f43 Je _ h
def YI(p0:Option Addr)(K:Value→PT):PT:=
  L.nonnil p0 λa1=>L.load eI6 (a1.add 1) λ(x2:Int)=>K (I x2)
def xi(p0:Option Addr)(h:YI p0 K w):CV zJ [.v (.pointer p0)] K w:=Zq Try.f44 .auto _ h
def YN(p0:Option Addr)(K:Value→PT):PT:=
  L.nonnil p0 λa1=>L.load eL6 (a1.add 2) λ(x2:Sl)=>K (I ((x2.len:Nat):Int))
def xy(p0:Option Addr)(h:YN p0 K w):CV zN [.v (.pointer p0)] K w:=Zq Try.f45 .auto _ h
def xz:Ann:=(.q2 (.q2 (.q2 (.seq (.one [(5,eI6)] (.seq (.q2 (.cond .auto .auto) none) .auto none)) (.seq (.one [] .auto) .auto none) (some [(5,eI6)])) none) none) none)
def YM(p0:Option Addr)(p1:Int)(K:Value→PT):PT:=
  L.nonnil p0 λa1=>L.load eI6 (a1.add 1) λ(x2:Int)=>L.ite (x2 != 2) (K (I 9))<|L.call Pr yc [.pointer p0,I p1] rB λ(x3:Bool)=>L.ite x3 (K (I 5))<|L.draw<|L.nonnil p0 λa4=>L.load eL6 (a4.add 2) λ(x5:Sl)=>L.nonnil p0 λa6=>L.load eI6 (a6.add 0) λ(x7:Int)=>L.ite (decide (((x5.len:Nat):Int)≥x7)) (K (I 8))<|L.join (Y:=Int×Unit) (λk8=>L.loop (Y:=Int×Unit) (0,()) λy10 again11=>L.nonnil p0 λa12=>L.load eL6 (a12.add 2) λ(x13:Sl)=>L.ite (decide (y10.1<((x13.len:Nat):Int))) (L.nonnil p0 λa14=>L.load eL6 (a14.add 2) λ(x15:Sl)=>L.idx x15.a y10.1 x15.len 1 λa16=>L.load eI6 a16 λ(x17:Int)=>L.ite (decide (x17<p1)) (again11 (Wi (y10.1+1),()))<|k8 (y10.1,()))<|k8 (y10.1,())) λz9=>L.join (Y:=Unit) (λk18=>L.draw<|L.nonnil p0 λa20=>L.load eL6 (a20.add 2) λ(x21:Sl)=>L.guard (0≤(0:Int)∧(0:Int)≤z9.1∧z9.1≤((x21.cap:Nat):Int)∧((x21.cap:Nat):Int)≤x21.cap)<|L.nonnil p0 λa22=>L.load eL6 (a22.add 2) λ(x23:Sl)=>L.guard (0≤z9.1∧z9.1≤((x23.len:Nat):Int)∧((x23.len:Nat):Int)≤((x23.cap:Nat):Int)∧((x23.cap:Nat):Int)≤x23.cap)<|L.alts [(L.new [] zA λb24=>L.chk (a22.add 2) [Sv6 x23]<|L.chk (a20.add 2) [Sv6 x21]<|L.alts [(L.sem Pr (.one (.one .slice)) (Builtin.append_ #[zn,zn] zn #[.slice (some ⟨b24,0,none⟩) 0 0,.slice (if Int.toNat ((x21.cap:Nat):Int)=Int.toNat (0:Int)then x21.a else Option.map (λa:Addr=>a.add (Int.toNat (0:Int)*1)) x21.a) (Int.toNat z9.1-Int.toNat (0:Int)) (Int.toNat ((x21.cap:Nat):Int)-Int.toNat (0:Int))]) λ(s25:Sl)=>L.chk (a22.add 2) [Sv6 x23]<|L.new [I p1] zA λb26=>L.chk (a22.add 2) [Sv6 x23]<|L.chk (a20.add 2) [Sv6 x21]<|L.sem Pr (.one (.one .slice)) (Builtin.append_ #[zn,zn] zn #[Sv6 s25,.slice (some ⟨b26,0,none⟩) 1 1]) λ(s27:Sl)=>L.chk (a22.add 2) [Sv6 x23]<|L.sem Pr (.one (.one .slice)) (Builtin.append_ #[zn,zn] zn #[Sv6 s27,.slice (if Int.toNat ((x23.cap:Nat):Int)=Int.toNat z9.1 then x23.a else Option.map (λa:Addr=>a.add (Int.toNat z9.1*1)) x23.a) (Int.toNat ((x23.len:Nat):Int)-Int.toNat z9.1) (Int.toNat ((x23.cap:Nat):Int)-Int.toNat z9.1)]) λ(s28:Sl)=>L.nonnil p0 λa29=>L.store (a29.add 2) [Sv6 s28]<|k18 (())),(L.new [I p1] zA λb30=>L.chk (a22.add 2) [Sv6 x23]<|L.chk (a20.add 2) [Sv6 x21]<|L.sem Pr (.one (.one .slice)) (Builtin.append_ #[zn,zn] zn #[.slice (some ⟨b24,0,none⟩) 0 0,.slice (if Int.toNat ((x21.cap:Nat):Int)=Int.toNat (0:Int)then x21.a else Option.map (λa:Addr=>a.add (Int.toNat (0:Int)*1)) x21.a) (Int.toNat z9.1-Int.toNat (0:Int)) (Int.toNat ((x21.cap:Nat):Int)-Int.toNat (0:Int))]) λ(s31:Sl)=>L.chk (a22.add 2) [Sv6 x23]<|L.sem Pr (.one (.one .slice)) (Builtin.append_ #[zn,zn] zn #[Sv6 s31,.slice (some ⟨b30,0,none⟩) 1 1]) λ(s32:Sl)=>L.chk (a22.add 2) [Sv6 x23]<|L.sem Pr (.one (.one .slice)) (Builtin.append_ #[zn,zn] zn #[Sv6 s32,.slice (if Int.toNat ((x23.cap:Nat):Int)=Int.toNat z9.1 then x23.a else Option.map (λa:Addr=>a.add (Int.toNat z9.1*1)) x23.a) (Int.toNat ((x23.len:Nat):Int)-Int.toNat z9.1) (Int.toNat ((x23.cap:Nat):Int)-Int.toNat z9.1)]) λ(s33:Sl)=>L.nonnil p0 λa34=>L.store (a34.add 2) [Sv6 s33]<|k18 (()))]),(L.new [I p1] zA λb35=>L.chk (a22.add 2) [Sv6 x23]<|L.chk (a20.add 2) [Sv6 x21]<|L.new [] zA λb36=>L.chk (a22.add 2) [Sv6 x23]<|L.chk (a20.add 2) [Sv6 x21]<|L.sem Pr (.one (.one .slice)) (Builtin.append_ #[zn,zn] zn #[.slice (some ⟨b36,0,none⟩) 0 0,.slice (if Int.toNat ((x21.cap:Nat):Int)=Int.toNat (0:Int)then x21.a else Option.map (λa:Addr=>a.add (Int.toNat (0:Int)*1)) x21.a) (Int.toNat z9.1-Int.toNat (0:Int)) (Int.toNat ((x21.cap:Nat):Int)-Int.toNat (0:Int))]) λ(s37:Sl)=>L.chk (a22.add 2) [Sv6 x23]<|L.sem Pr (.one (.one .slice)) (Builtin.append_ #[zn,zn] zn #[Sv6 s37,.slice (some ⟨b35,0,none⟩) 1 1]) λ(s38:Sl)=>L.chk (a22.add 2) [Sv6 x23]<|L.sem Pr (.one (.one .slice)) (Builtin.append_ #[zn,zn] zn #[Sv6 s38,.slice (if Int.toNat ((x23.cap:Nat):Int)=Int.toNat z9.1 then x23.a else Option.map (λa:Addr=>a.add (Int.toNat z9.1*1)) x23.a) (Int.toNat ((x23.len:Nat):Int)-Int.toNat z9.1) (Int.toNat ((x23.cap:Nat):Int)-Int.toNat z9.1)]) λ(s39:Sl)=>L.nonnil p0 λa40=>L.store (a40.add 2) [Sv6 s39]<|k18 (()))]) λz19=>K (I 0)
def xx(p0:Option Addr)(p1:Int)(h:YM p0 p1 K w):CV yK [.v (.pointer p0),.v (.int .i64 p1)] K w:=Zq Try.f46 xz _ h
def up:Ann:=(.q2 (.cond .auto .auto) none)
def Xx(p0:Option Addr)(K:Value→PT):PT:=
  L.nonnil p0 λa1=>L.load eI6 (a1.add 0) λ(x2:Int)=>L.ite (x2 == 3) (L.call Pr Zj [.pointer p0] rI λ(x3:Int)=>L.ite (x3 == 0) (L.nonnil p0 λa4=>L.store (a4.add 0) [I 4]<|K (.tuple #[]))<|K (.tuple #[]))<|K (.tuple #[])
def uo(p0:Option Addr)(h:Xx p0 K w):CV YX [.v (.pointer p0)] K w:=Zq Try.f47 up _ h
def XV:Ann:=(.q2 (.one [(14,eI6)] (.q2 (.q2 (.seq (.q2 (.q2 (.q2 (.cond .auto .auto) none) none) none) .auto (some [])) none) none)) none)
def jR(p0:FV)(c0:Addr)(c1:Addr)(K:Value→PT):PT:=
  L.load eP6 c0 λ(x1:Option Addr)=>L.nonnil x1 λa2=>L.load (.one (.map)) (a2.add 0) λ(x3:Option Nat)=>L.call Pr zR [.map x3] (.one (.one (.func))) λ(x4:FV)=>L.call Pr yo [.func x4.fn x4.fs x4.cs] rL λ(x5:Sl)=>L.loop (Y:=Int×Unit) (0,()) λy6 again7=>L.ite (decide (y6.1<((x5.len:Nat):Int))) (L.join (Y:=Unit) (λk8=>L.idx x5.a y6.1 x5.len 1 λa10=>L.load eI6 a10 λ(x11:Int)=>L.load eP6 c0 λ(x12:Option Addr)=>L.nonnil x12 λa13=>L.load (.one (.map)) (a13.add 0) λ(x14:Option Nat)=>L.semR Pr (.one (.agg [.str,.ptr])) (Instr.lookup zp (.map x14) (I x11) false) λ(x15:B0×Option Addr×Unit)=>L.new [.string s_,.pointer none] yQ λb16=>L.store (⟨b16,0,none⟩) [.string x15.1,.pointer x15.2.1]<|L.load eS6 (Ad6 b16 0) λ(x17:B0)=>L.load eS6 c1 λ(x18:B0)=>L.ite (x17.toList == x18.toList) (L.load eP6 (Ad6 b16 1) λ(x19:Option Addr)=>L.callV Pr (.func p0.fn p0.fs p0.cs) [I x11,.pointer x19] rB λ(x20:Bool)=>L.ite (!x20) (K (.tuple #[]))<|k8 (()))<|k8 (())) λz9=>again7 (Wi (y6.1+1),()))<|K (.tuple #[])
def XP(p0:FV)(c0 c1:Addr)(h:jR p0 c0 c1 K w):CV ZV [.v (.func p0.fn p0.fs p0.cs),.v (.pointer (some c0)),.v (.pointer (some c1))] K w:=Zq Try.f48 XV _ h
def XN:xg Pr ZV:=xH (by kernel_rfl)
def ji(p0:FV)(K:Value→PT):PT:=
  L.call Pr YY [.func p0.fn p0.fs p0.cs] rL λ(x1:Sl)=>L.call Pr YL [Sv6 x1] (.tup []) λ(x2:Unit)=>K (.slice x1.a x1.len x1.cap)
def Xl(p0:FV)(h:ji p0 K w):CV yo [.v (.func p0.fn p0.fs p0.cs)] K w:=Zq Try.f49 .auto _ h
def Zi(p0:Option Nat)(K:Value→PT):PT:=
  L.new [.map p0] zp λb1=>K (.func (.func zl) #[] #[.pointer (some (⟨b1,0,none⟩))])
def yp(p0:Option Nat)(h:Zi p0 K w):CV zR [.v (.map p0)] K w:=Zq Try.f50 .auto _ h
def Yn:Ann:=(.q2 (.q2 (.seq (.one [(7,eI6),(8,eI6)] .auto) (.q2 (.one [(6,eI6)] (.q2 (.q2 (.seq (.one [(7,eI6),(8,eI6)] .auto) (.q2 .auto (some [])) none) none) none)) none) none) none) none)
def Zc(p0:Sl)(p1:Int)(p2:FV)(K:Value→PT):PT:=
  L.loop (Y:=Int×Int×Unit) (0,20,()) λy1 again2=>L.ite (decide (y1.2.1≤p1)) (L.call Pr zD [Sv6 p0,I y1.1,I y1.2.1,.func p2.fn p2.fs p2.cs] (.tup []) λ(x3:Unit)=>again2 (y1.2.1,Wi (y1.2.1+20),()))<|L.call Pr zD [Sv6 p0,I y1.1,I p1,.func p2.fn p2.fs p2.cs] (.tup []) λ(x4:Unit)=>L.loop (Y:=Int×Unit) (20,()) λy5 again6=>L.ite (decide (y5.1<p1)) (L.loop (Y:=Int×Int×Unit) (0,Wi (2*y5.1),()) λy7 again8=>L.ite (decide (y7.2.1≤p1)) (L.call Pr zf [Sv6 p0,I y7.1,I (Wi (y7.1+y5.1)),I y7.2.1,.func p2.fn p2.fs p2.cs] (.tup []) λ(x9:Unit)=>again8 (y7.2.1,Wi (y7.2.1+(Wi (2*y5.1))),()))<|L.join (Y:=Unit) (λk10=>L.ite (decide ((Wi (y7.1+y5.1))<p1)) (L.call Pr zf [Sv6 p0,I y7.1,I (Wi (y7.1+y5.1)),I p1,.func p2.fn p2.fs p2.cs] (.tup []) λ(x12:Unit)=>k10 (()))<|k10 (())) λz11=>again6 (Wi (y5.1*2),()))<|K (.tuple #[])
def ZO(p0:Sl)(p1:Int)(p2:FV)(h:Zc p0 p1 p2 K w):CV ZL [.v (.slice p0.a p0.len p0.cap),.v (.int .i64 p1),.v (.func p2.fn p2.fs p2.cs)] K w:=Zq Try.f51 Yn _ h
def Jq(p0:Option Addr)(p1:Int)(K:Value→PT):PT:=
  L.nonnil p0 λa1=>L.load (.one (.map)) (a1.add 0) λ(x2:Option Nat)=>L.semR Pr rB (Instr.lookup Zz (.map x2) (I p1) false) λ(x3:Bool)=>L.ite x3 (K (I 5))<|L.draw<|L.nonnil p0 λa4=>L.load (.one (.map)) (a4.add 0) λ(x5:Option Nat)=>L.semR Pr rI (Builtin.len_ #[Zz] zA #[.map x5]) λ(x6:Int)=>L.nonnil p0 λa7=>L.load eI6 (a7.add 1) λ(x8:Int)=>L.ite (decide (x6≥x8)) (K (I 8))<|L.nonnil p0 λa9=>L.load (.one (.map)) (a9.add 0) λ(x10:Option Nat)=>L.semU Pr (Instr.mapUpdate Zz (.map x10) (I p1) (.bool true))<|K (I 0)
def qt(p0:Option Addr)(p1:Int)(h:Jq p0 p1 K w):CV Jk [.v (.pointer p0),.v (.int .i64 p1)] K w:=Zq Try.f52 .auto _ h
def jP(p0:Option Addr)(p1:Int)(K:Value→PT):PT:=
  L.nonnil p0 λa1=>L.load (.one (.map)) (a1.add 0) λ(x2:Option Nat)=>L.semR Pr rB (Instr.lookup Zz (.map x2) (I p1) false) λ(x3:Bool)=>L.ite (!x3) (K (I 6))<|L.nonnil p0 λa4=>L.load (.one (.map)) (a4.add 0) λ(x5:Option Nat)=>L.sem Pr (.tup []) (Builtin.delete_ #[Zz,zA] T_ #[.map x5,I p1]) λ_=>K (I 0)
def XO(p0:Option Addr)(p1:Int)(h:jP p0 p1 K w):CV Ys [.v (.pointer p0),.v (.int .i64 p1)] K w:=Zq Try.f53 .auto _ h
def xU:Ann:=(.q2 (.seq (.q2 (.one [(5,eI6)] .auto) none) .auto none) none)
def jc(p0:Option Addr)(p1:Int)(K:Value→PT):PT:=
  L.loop (Y:=Int×Unit) (0,()) λy1 again2=>L.nonnil p0 λa3=>L.load eL6 (a3.add 2) λ(x4:Sl)=>L.ite (decide (y1.1<((x4.len:Nat):Int))) (L.nonnil p0 λa5=>L.load eL6 (a5.add 2) λ(x6:Sl)=>L.idx x6.a y1.1 x6.len 1 λa7=>L.load eI6 a7 λ(x8:Int)=>L.ite (x8 == p1) (K (.bool true))<|again2 (Wi (y1.1+1),()))<|K (.bool false)
def xS(p0:Option Addr)(p1:Int)(h:jc p0 p1 K w):CV yc [.v (.pointer p0),.v (.int .i64 p1)] K w:=Zq Try.f54 xU _ h
def ja(p0:FV)(K:Value→PT):PT:=
  L.call Pr ZU [.slice none 0 0,.func p0.fn p0.fs p0.cs] rL λ(x1:Sl)=>K (.slice x1.a x1.len x1.cap)
def xP(p0:FV)(h:ja p0 K w):CV YY [.v (.func p0.fn p0.fs p0.cs)] K w:=Zq Try.f55 .auto _ h
def yn:Ann:=(.q2 (.one [] (.q2 (.seq (.cond .auto .auto) .auto none) none)) none)
def Zf(p0:FV)(c0:Addr)(K:Value→PT):PT:=
  L.load (.one (.map)) c0 λ(x1:Option Nat)=>L.sem Pr (.one (.one .ptr)) (Instr.range zp (.map x1)) λ(it2:Option Addr)=>L.loop (Y:=Unit) (()) λy3 again4=>L.next Pr [eI6,(.agg [.str,.ptr])] (Instr.next (.pointer it2) false T_) (K (.tuple #[])) λ(x5:pt1)=>L.sem Pr (.tup [eI6,(.agg [.str,.ptr])]) (Instr.entry (.pointer it2)) λ(x6:pt1)=>L.callV Pr (.func p0.fn p0.fs p0.cs) [I x6.1] rB λ(x7:Bool)=>L.ite (!x7) (K (.tuple #[]))<|again4 (())
def ym(p0:FV)(c0:Addr)(h:Zf p0 c0 K w):CV zl [.v (.func p0.fn p0.fs p0.cs),.v (.pointer (some c0))] K w:=Zq Try.f57 yn _ h
def yl:xg Pr zl:=xH (by kernel_rfl)
def yC:Ann:=(.q2 (.one [(8,eI6)] (.q2 (.seq (.q2 (.one [(9,eI6)] (.seq (.q2 (.cond .auto .auto) none) .auto none)) none) .auto (some [])) none)) none)
def Zk(p0:Sl)(p1 p2:Int)(p3:FV)(K:Value→PT):PT:=
  L.loop (Y:=Int×Unit) (Wi (p1+1),()) λy1 again2=>L.ite (decide (y1.1<p2)) (L.join (Y:=Unit) (λk3=>L.loop (Y:=Int×Unit) (y1.1,()) λy5 again6=>L.draw<|L.ite (decide (y5.1>p1)) (L.idx p0.a y5.1 p0.len 2 λa7=>L.load (.agg [.int .i64,.int .i64]) a7 λ(x8:Int×Int×Unit)=>L.idx p0.a (Wi (y5.1-1)) p0.len 2 λa9=>L.load (.agg [.int .i64,.int .i64]) a9 λ(x10:Int×Int×Unit)=>L.callV Pr (.func p3.fn p3.fs p3.cs) [.agg #[I x8.1,I x8.2.1],.agg #[I x10.1,I x10.2.1]] rI λ(x11:Int)=>L.ite (decide (x11<0)) (L.draw<|L.idx p0.a (Wi (y5.1-1)) p0.len 2 λa12=>L.load (.agg [.int .i64,.int .i64]) a12 λ(x13:Int×Int×Unit)=>L.idx p0.a y5.1 p0.len 2 λa14=>L.load (.agg [.int .i64,.int .i64]) a14 λ(x15:Int×Int×Unit)=>L.idx p0.a y5.1 p0.len 2 λa16=>L.store a16 [I x13.1,I x13.2.1]<|L.idx p0.a (Wi (y5.1-1)) p0.len 2 λa17=>L.store a17 [I x15.1,I x15.2.1]<|again6 (Wi (y5.1-1),()))<|k3 (()))<|k3 (())) λz4=>again2 (Wi (y1.1+1),()))<|K (.tuple #[])
def yB(p0:Sl)(p1 p2:Int)(p3:FV)(h:Zk p0 p1 p2 p3 K w):CV zD [.v (.slice p0.a p0.len p0.cap),.v (.int .i64 p1),.v (.int .i64 p2),.v (.func p3.fn p3.fs p3.cs)] K w:=Zq Try.f58 yC _ h
def yW:Ann:=(.seq (.q2 (.cond (.q2 (.q2 (.seq (.one [(10,eI6),(11,eI6)] .auto) (.seq (.q2 (.one [(13,eI6)] .auto) none) .auto none) none) none) none) .auto) none) (.seq (.q2 (.cond (.q2 (.q2 (.seq (.one [(14,eI6),(15,eI6)] .auto) (.seq (.q2 (.one [(17,eI6)] .auto) none) .auto none) none) none) none) .auto) none) (.q2 (.q2 (.q2 (.q2 (.q2 (.seq (.one [(20,eI6),(21,eI6)] .auto) (.q2 (.seq (.q2 (.cond .auto .auto) none) (.seq (.q2 (.cond .auto .auto) none) (.q2 (.cond .auto .auto) none) (some [])) (some [])) none) none) none) (some [(20,eI6),(21,eI6)])) none) none) none) none) none)
def zL(p0:Sl)(p1 p2 p3:Int)(p4:FV)(K:Value→PT):PT:=
  L.ite ((Wi (p2-p1)) == 1) (L.loop (Y:=Int×Int×Unit) (p2,p3,()) λy1 again2=>L.ite (decide (y1.1<y1.2.1)) (L.guard ((0:Int)≤1)<|L.draw<|L.idx p0.a (Wi (Int.fdiv (IntKind.wrap .u64 (Wi (y1.1+y1.2.1))) (2 ^ (min (Int.toNat 1) 64)))) p0.len 2 λa3=>L.load (.agg [.int .i64,.int .i64]) a3 λ(x4:Int×Int×Unit)=>L.idx p0.a p1 p0.len 2 λa5=>L.load (.agg [.int .i64,.int .i64]) a5 λ(x6:Int×Int×Unit)=>L.callV Pr (.func p4.fn p4.fs p4.cs) [.agg #[I x4.1,I x4.2.1],.agg #[I x6.1,I x6.2.1]] rI λ(x7:Int)=>L.ite (decide (x7<0)) (again2 (Wi ((Wi (Int.fdiv (IntKind.wrap .u64 (Wi (y1.1+y1.2.1))) (2 ^ (min (Int.toNat 1) 64))))+1),y1.2.1,()))<|again2 (y1.1,Wi (Int.fdiv (IntKind.wrap .u64 (Wi (y1.1+y1.2.1))) (2 ^ (min (Int.toNat 1) 64))),()))<|L.loop (Y:=Int×Unit) (p1,()) λy8 again9=>L.ite (decide (y8.1<(Wi (y1.1-1)))) (L.draw<|L.idx p0.a (Wi (y8.1+1)) p0.len 2 λa10=>L.load (.agg [.int .i64,.int .i64]) a10 λ(x11:Int×Int×Unit)=>L.idx p0.a y8.1 p0.len 2 λa12=>L.load (.agg [.int .i64,.int .i64]) a12 λ(x13:Int×Int×Unit)=>L.idx p0.a y8.1 p0.len 2 λa14=>L.store a14 [I x11.1,I x11.2.1]<|L.idx p0.a (Wi (y8.1+1)) p0.len 2 λa15=>L.store a15 [I x13.1,I x13.2.1]<|again9 (Wi (y8.1+1),()))<|K (.tuple #[]))<|L.ite ((Wi (p3-p2)) == 1) (L.loop (Y:=Int×Int×Unit) (p1,p2,()) λy16 again17=>L.ite (decide (y16.1<y16.2.1)) (L.guard ((0:Int)≤1)<|L.draw<|L.idx p0.a p2 p0.len 2 λa18=>L.load (.agg [.int .i64,.int .i64]) a18 λ(x19:Int×Int×Unit)=>L.idx p0.a (Wi (Int.fdiv (IntKind.wrap .u64 (Wi (y16.1+y16.2.1))) (2 ^ (min (Int.toNat 1) 64)))) p0.len 2 λa20=>L.load (.agg [.int .i64,.int .i64]) a20 λ(x21:Int×Int×Unit)=>L.callV Pr (.func p4.fn p4.fs p4.cs) [.agg #[I x19.1,I x19.2.1],.agg #[I x21.1,I x21.2.1]] rI λ(x22:Int)=>L.ite (!(decide (x22<0))) (again17 (Wi ((Wi (Int.fdiv (IntKind.wrap .u64 (Wi (y16.1+y16.2.1))) (2 ^ (min (Int.toNat 1) 64))))+1),y16.2.1,()))<|again17 (y16.1,Wi (Int.fdiv (IntKind.wrap .u64 (Wi (y16.1+y16.2.1))) (2 ^ (min (Int.toNat 1) 64))),()))<|L.loop (Y:=Int×Unit) (p2,()) λy23 again24=>L.ite (decide (y23.1>y16.1)) (L.draw<|L.idx p0.a (Wi (y23.1-1)) p0.len 2 λa25=>L.load (.agg [.int .i64,.int .i64]) a25 λ(x26:Int×Int×Unit)=>L.idx p0.a y23.1 p0.len 2 λa27=>L.load (.agg [.int .i64,.int .i64]) a27 λ(x28:Int×Int×Unit)=>L.idx p0.a y23.1 p0.len 2 λa29=>L.store a29 [I x26.1,I x26.2.1]<|L.idx p0.a (Wi (y23.1-1)) p0.len 2 λa30=>L.store a30 [I x28.1,I x28.2.1]<|again24 (Wi (y23.1-1),()))<|K (.tuple #[]))<|L.guard ((0:Int)≤1)<|L.join (Y:=Int×Int×Unit) (λk31=>L.ite (decide (p2>(Wi (Int.fdiv (IntKind.wrap .u64 (Wi (p1+p3))) (2 ^ (min (Int.toNat 1) 64)))))) (k31 (Wi ((Wi ((Wi (Int.fdiv (IntKind.wrap .u64 (Wi (p1+p3))) (2 ^ (min (Int.toNat 1) 64))))+p2))-p3),Wi (Int.fdiv (IntKind.wrap .u64 (Wi (p1+p3))) (2 ^ (min (Int.toNat 1) 64))),()))<|k31 (p1,p2,())) λz32=>L.loop (Y:=Int×Int×Unit) (z32.1,z32.2.1,()) λy33 again34=>L.ite (decide (y33.1<y33.2.1)) (L.guard ((0:Int)≤1)<|L.draw<|L.idx p0.a (Wi ((Wi ((Wi ((Wi (Int.fdiv (IntKind.wrap .u64 (Wi (p1+p3))) (2 ^ (min (Int.toNat 1) 64))))+p2))-1))-(Wi (Int.fdiv (IntKind.wrap .u64 (Wi (y33.1+y33.2.1))) (2 ^ (min (Int.toNat 1) 64)))))) p0.len 2 λa35=>L.load (.agg [.int .i64,.int .i64]) a35 λ(x36:Int×Int×Unit)=>L.idx p0.a (Wi (Int.fdiv (IntKind.wrap .u64 (Wi (y33.1+y33.2.1))) (2 ^ (min (Int.toNat 1) 64)))) p0.len 2 λa37=>L.load (.agg [.int .i64,.int .i64]) a37 λ(x38:Int×Int×Unit)=>L.callV Pr (.func p4.fn p4.fs p4.cs) [.agg #[I x36.1,I x36.2.1],.agg #[I x38.1,I x38.2.1]] rI λ(x39:Int)=>L.ite (!(decide (x39<0))) (again34 (Wi ((Wi (Int.fdiv (IntKind.wrap .u64 (Wi (y33.1+y33.2.1))) (2 ^ (min (Int.toNat 1) 64))))+1),y33.2.1,()))<|again34 (y33.1,Wi (Int.fdiv (IntKind.wrap .u64 (Wi (y33.1+y33.2.1))) (2 ^ (min (Int.toNat 1) 64))),()))<|L.join (Y:=Unit) (λk40=>L.ite (decide (y33.1<p2)) (L.ite (decide (p2<(Wi ((Wi ((Wi (Int.fdiv (IntKind.wrap .u64 (Wi (p1+p3))) (2 ^ (min (Int.toNat 1) 64))))+p2))-y33.1)))) (L.call Pr Za [Sv6 p0,I y33.1,I p2,I (Wi ((Wi ((Wi (Int.fdiv (IntKind.wrap .u64 (Wi (p1+p3))) (2 ^ (min (Int.toNat 1) 64))))+p2))-y33.1)),.func p4.fn p4.fs p4.cs] (.tup []) λ(x42:Unit)=>k40 (()))<|k40 (()))<|k40 (())) λz41=>L.join (Y:=Unit) (λk43=>L.ite (decide (p1<y33.1)) (L.ite (decide (y33.1<(Wi (Int.fdiv (IntKind.wrap .u64 (Wi (p1+p3))) (2 ^ (min (Int.toNat 1) 64)))))) (L.call Pr zf [Sv6 p0,I p1,I y33.1,I (Wi (Int.fdiv (IntKind.wrap .u64 (Wi (p1+p3))) (2 ^ (min (Int.toNat 1) 64)))),.func p4.fn p4.fs p4.cs] (.tup []) λ(x45:Unit)=>k43 (()))<|k43 (()))<|k43 (())) λz44=>L.ite (decide ((Wi (Int.fdiv (IntKind.wrap .u64 (Wi (p1+p3))) (2 ^ (min (Int.toNat 1) 64))))<(Wi ((Wi ((Wi (Int.fdiv (IntKind.wrap .u64 (Wi (p1+p3))) (2 ^ (min (Int.toNat 1) 64))))+p2))-y33.1)))) (L.ite (decide ((Wi ((Wi ((Wi (Int.fdiv (IntKind.wrap .u64 (Wi (p1+p3))) (2 ^ (min (Int.toNat 1) 64))))+p2))-y33.1))<p3)) (L.call Pr zf [Sv6 p0,I (Wi (Int.fdiv (IntKind.wrap .u64 (Wi (p1+p3))) (2 ^ (min (Int.toNat 1) 64)))),I (Wi ((Wi ((Wi (Int.fdiv (IntKind.wrap .u64 (Wi (p1+p3))) (2 ^ (min (Int.toNat 1) 64))))+p2))-y33.1)),I p3,.func p4.fn p4.fs p4.cs] (.tup []) λ(x46:Unit)=>K (.tuple #[]))<|K (.tuple #[]))<|K (.tuple #[])
def zX(p0:Sl)(p1 p2 p3:Int)(p4:FV)(h:zL p0 p1 p2 p3 p4 K w):CV zf [.v (.slice p0.a p0.len p0.cap),.v (.int .i64 p1),.v (.int .i64 p2),.v (.int .i64 p3),.v (.func p4.fn p4.fs p4.cs)] K w:=Zq Try.f59 yW _ h
def jX:Ann:=(.q2 (.seq (.q2 (.q2 .auto (some [(7,eI6)])) none) .auto none) none)
def yR(p0:Sl)(p1:FV)(K:Value→PT):PT:=
  L.new [Sv6 p0] zn λb1=>L.range Pr none (.func p1.fn p1.fs p1.cs) [eI6] (λl2(y3:Int×Unit) R4=>L.begin Pr l2<|L.load eL6 (⟨b1,0,none⟩) λ(x7:Sl)=>L.new [I y3.1] zA λb8=>L.sem Pr (.one (.one .slice)) (Builtin.append_ #[zn,zn] zn #[Sv6 x7,.slice (some ⟨b8,0,none⟩) 1 1]) λ(s9:Sl)=>L.store (⟨b1,0,none⟩) [Sv6 s9]<|L.endRound Pr l2 none R4) λd5 j6=>L.jump j6 (L.load eL6 (⟨b1,0,none⟩) λ(x10:Sl)=>L.unmark Pr (d5++[])<|K (.slice x10.a x10.len x10.cap)) (L.unmark Pr (d5++[])<|K (.slice none 0 0)) []
def jW(p0:Sl)(p1:FV)(h:yR p0 p1 K w):CV ZU [.v (.slice p0.a p0.len p0.cap),.v (.func p1.fn p1.fs p1.cs)] K w:=Zq Try.f60 jX _ h
def Yo:Ann:=(.q2 (.q2 (.seq (.one [(10,eI6),(11,eI6)] .auto) .auto none) none) none)
def ZN(p0:Sl)(p1 p2 p3:Int)(p4:FV)(K:Value→PT):PT:=
  L.loop (Y:=Int×Int×Unit) (Wi (p2-p1),Wi (p3-p2),()) λy1 again2=>L.ite (y1.1 != y1.2.1) (L.ite (decide (y1.1>y1.2.1)) (L.call Pr zz [Sv6 p0,I (Wi (p2-y1.1)),I p2,I y1.2.1,.func p4.fn p4.fs p4.cs] (.tup []) λ(x3:Unit)=>again2 (Wi (y1.1-y1.2.1),y1.2.1,()))<|L.call Pr zz [Sv6 p0,I (Wi (p2-y1.1)),I (Wi ((Wi (p2+y1.2.1))-y1.1)),I y1.1,.func p4.fn p4.fs p4.cs] (.tup []) λ(x4:Unit)=>again2 (y1.1,Wi (y1.2.1-y1.1),()))<|L.call Pr zz [Sv6 p0,I (Wi (p2-y1.1)),I p2,I y1.1,.func p4.fn p4.fs p4.cs] (.tup []) λ(x5:Unit)=>K (.tuple #[])
def Ym(p0:Sl)(p1 p2 p3:Int)(p4:FV)(h:ZN p0 p1 p2 p3 p4 K w):CV Za [.v (.slice p0.a p0.len p0.cap),.v (.int .i64 p1),.v (.int .i64 p2),.v (.int .i64 p3),.v (.func p4.fn p4.fs p4.cs)] K w:=Zq Try.f63 Yo _ h
def yT:Ann:=(.q2 (.one [(10,eI6)] .auto) none)
def ZA(p0:Sl)(p1 p2 p3:Int)(p4:FV)(K:Value→PT):PT:=
  L.loop (Y:=Int×Unit) (0,()) λy1 again2=>L.ite (decide (y1.1<p3)) (L.draw<|L.idx p0.a (Wi (p2+y1.1)) p0.len 2 λa3=>L.load (.agg [.int .i64,.int .i64]) a3 λ(x4:Int×Int×Unit)=>L.idx p0.a (Wi (p1+y1.1)) p0.len 2 λa5=>L.load (.agg [.int .i64,.int .i64]) a5 λ(x6:Int×Int×Unit)=>L.idx p0.a (Wi (p1+y1.1)) p0.len 2 λa7=>L.store a7 [I x4.1,I x4.2.1]<|L.idx p0.a (Wi (p2+y1.1)) p0.len 2 λa8=>L.store a8 [I x6.1,I x6.2.1]<|again2 (Wi (y1.1+1),()))<|K (.tuple #[])
def yS(p0:Sl)(p1 p2 p3:Int)(p4:FV)(h:ZA p0 p1 p2 p3 p4 K w):CV zz [.v (.slice p0.a p0.len p0.cap),.v (.int .i64 p1),.v (.int .i64 p2),.v (.int .i64 p3),.v (.func p4.fn p4.fs p4.cs)] K w:=Zq Try.f75 yT _ h
end Go.Proofs.Ytofigcbhafkikaa
