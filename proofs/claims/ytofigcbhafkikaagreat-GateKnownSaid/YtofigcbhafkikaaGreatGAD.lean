/- What is proved on the way to a statement of the seat, pressed (text AD). No conditions beyond those its theorems state. -/
import Derived.Test.YtofigcbhafkikaaGreatGAC
import Derived.Test.YtofigcbhafkikaaGreatProg
set_option linter.all false
namespace Go.Proofs.YtofigcbhafkikaaGreat
set_option maxRecDepth 100000
open Go.Dm
abbrev I(n:Int):Value:=.int .i64 n
abbrev Jf:Lf:=.int .i64
abbrev J8:Lf:=.int .u8
abbrev ht0:=HT [.int .i64,.int .i64,.int .i64,.str]
abbrev qc0(p:ht0):List Value:=[I p.1,I p.2.1,I p.2.2.1,.string p.2.2.2.1]
abbrev pt0:=Int×Int×Int×B0×Unit
abbrev pt1:=(Int×Int×Int×B0×Unit)×Bool×Unit
abbrev pt2:=(B0×Option Addr×Unit)×Bool×Unit
abbrev pt3:=Int×(B0×Int×Unit)×Unit
abbrev pt4:=(B0×Int×Unit)×Bool×Unit
abbrev pt5:=Int×(B0×Option Addr×Unit)×Unit
abbrev lf0:List Lf:=[.ptr,.map,.map,.func,Jf,Jf]
abbrev lf1:List Lf:=[.int .u64,.int .u64,.int .u32,J8,J8,J8,J8,.func,.ptr,.int .i32,.int .i32]
abbrev eI6:E1:=.one (.int .i64)
abbrev eS6:E1:=.one .str
abbrev eL6:E1:=.one .slice
abbrev eB6:E1:=.one .bool
abbrev eP6:E1:=.one .ptr
abbrev rI:RT:=.one eI6
abbrev rS:RT:=.one eS6
abbrev rL:RT:=.one eL6
abbrev rB:RT:=.one eB6
abbrev rP:RT:=.one eP6
abbrev Sv6(v:Sl):Value:=.slice v.a v.len v.cap
abbrev Ad6(b n:Nat):Addr:=(⟨b,0,none⟩:Addr).add n
noncomputable abbrev Pr:Program:=Tryz.prog
abbrev jy:Nat:=3
abbrev YZ:Nat:=4
abbrev xC:Nat:=5
abbrev Xq:Nat:=6
abbrev zx:Nat:=7
abbrev Zb:Nat:=8
abbrev YY:Nat:=9
abbrev YS:Nat:=10
abbrev yj:Nat:=11
abbrev YP:Nat:=12
abbrev YR:Nat:=13
abbrev jr:Nat:=14
abbrev YQ:Nat:=15
abbrev Ye:Nat:=16
abbrev Yd:Nat:=17
abbrev Jb:Nat:=18
abbrev ZF:Nat:=19
abbrev yE:Nat:=20
abbrev JH:Nat:=21
abbrev qY:Nat:=22
abbrev Zk:Nat:=23
abbrev YB:Nat:=24
abbrev zW:Nat:=25
abbrev ZV:Nat:=26
abbrev Yn:Nat:=27
abbrev YO:Nat:=28
abbrev YN:Nat:=29
abbrev Jc:Nat:=30
abbrev uw:Nat:=31
abbrev YX:Nat:=32
abbrev Jn:Nat:=33
abbrev yD:Nat:=34
abbrev zJ:Nat:=35
abbrev Xp:Nat:=36
abbrev jn:Nat:=37
abbrev Jm:Nat:=38
abbrev zL:Nat:=39
abbrev YC:Nat:=40
abbrev Ja:Nat:=41
abbrev js:Nat:=42
abbrev jK:Nat:=43
abbrev Yu:Nat:=44
abbrev jq:Nat:=45
abbrev jp:Nat:=46
abbrev yU:Nat:=47
abbrev Zn:Nat:=48
abbrev ZW:Nat:=49
abbrev Jg:Nat:=50
abbrev ZM:Nat:=51
abbrev Zd:Nat:=52
abbrev yc:Nat:=53
abbrev zO:Nat:=54
abbrev Jv:Nat:=55
abbrev jL:Nat:=56
abbrev ZN:Nat:=57
abbrev ZH:Nat:=58
abbrev Yc:Nat:=59
abbrev zD:Nat:=62
abbrev zu:Nat:=63
abbrev jJ:Nat:=64
abbrev yr:Nat:=65
abbrev zZ:Nat:=66
abbrev ZT:Nat:=67
abbrev jx:Nat:=68
abbrev Yy:Nat:=69
abbrev zm:Nat:=70
abbrev Jh:Nat:=71
abbrev zE:Nat:=72
abbrev yd:Nat:=84
abbrev xB:Nat:=85
abbrev zq:Nat:=86
abbrev ZK:Nat:=87
abbrev yq:Nat:=89
abbrev zI:Nat:=96
abbrev zh:Nat:=97
abbrev Zx:Nat:=108
abbrev zF:Nat:=113
abbrev T_:Nat:=0
abbrev zk:Nat:=3
abbrev Yi:Nat:=4
abbrev QW:Nat:=5
abbrev Za:Nat:=9
abbrev zS:Nat:=23
abbrev yf:Nat:=25
abbrev zn:Nat:=28
abbrev zQ:Nat:=30
abbrev zf:Nat:=50
abbrev zt:Nat:=51
abbrev zw:Nat:=52
abbrev qR:Nat:=54
abbrev zT:Nat:=55
abbrev zA:Nat:=56
abbrev yL:Nat:=57
abbrev Uq:Nat:=63
abbrev Ya:Nat:=75
abbrev zz:Nat:=92
abbrev zY:Nat:=96
abbrev jz:Nat:=100
abbrev VG:Nat:=101
abbrev zy:Nat:=102
abbrev ZS:Nat:=105
abbrev Zm:Nat:=109
abbrev JP:Nat:=113
abbrev Yh:Nat:=118
abbrev zR:Nat:=130
abbrev zd:Nat:=132
abbrev yW:Nat:=135
def s_:B0:=⟨#[]⟩
def xA:B0:=⟨#[97,45,49]⟩
def GU:B0:=⟨#[98,45,49]⟩
def Zf:B0:=⟨#[124]⟩
def YL:B0:=⟨#[49,58,52,58,48,58,110,111,45,114,111,117,116,101,32,50,58,50,58,48,58,32,51,58,50,58,48,58,32,52,58,52,58,48,58,111,118,101,114,102,108,111,119,32,50,58,52,58,48,58,116,119,105,99,101,32,124,50,58,49,58,49,58,32,51,58,52,58,48,58,116,105,109,101,111,117,116,32,53,58,50,58,48,58,32,124,50,58,51,58,48,58,32,53,58,49,58,49,58,32,124,53,58,52,58,48,58,112,111,100,45,108,111,115,116,32]⟩
def s__:B0:=⟨#[58]⟩
def XP:B0:=⟨#[32]⟩
def VO:B0:=⟨#[116,119,105,99,101]⟩
def Xn:B0:=⟨#[110,111,45,114,111,117,116,101]⟩
def JR:B0:=⟨#[111,118,101,114,102,108,111,119]⟩
def JL:B0:=⟨#[116,105,109,101,111,117,116]⟩
def jX:B0:=⟨#[112,111,100,45,108,111,115,116]⟩
def gc:B0:=⟨#[45]⟩
def tq0:TI:=⟨.func,1,some (.one (.func)),some [.nilFunc]⟩
def tq1:TI:=⟨.int .i64,1,some (.one (.int .i64)),some [I 0]⟩
def tq2:TI:=⟨.int .u8,1,some (.one (.int .u8)),some [.int .u8 0]⟩
def tq3:TI:=⟨.struct [(2,0),(3,1),(4,2),(6,3)],4,some (.agg [.int .i64,.int .i64,.bool,.int .u8]),some [I 0,I 0,.bool false,.int .u8 0]⟩
def tq4:TI:=⟨.str,1,some (.one (.str)),some [.string s_]⟩
def tq5:TI:=⟨.int .u64,1,some (.one (.int .u64)),some [.int .u64 0]⟩
def tq6:TI:=⟨.struct [(9,0),(12,1)],2,some (.agg [.str,.int .u64]),some [.string s_,.int .u64 0]⟩
def tq7:TI:=⟨.ptr,1,some (.one (.ptr)),some [.pointer none]⟩
def tq8:TI:=⟨.struct [(17,0)],1,some (.agg [.ptr]),some [.pointer none]⟩
def tq9:TI:=⟨.int .i32,1,some (.one (.int .i32)),some [.int .i32 0]⟩
def Fs:TI:=⟨.struct [(3,0),(3,1),(3,2),(9,3)],4,some (.agg [.int .i64,.int .i64,.int .i64,.str]),some [I 0,I 0,I 0,.string s_]⟩
def Fq:TI:=⟨.struct [(51,0),(52,1),(3,2),(3,3)],4,some (.agg [.map,.map,.int .i64,.int .i64]),some [.map none,.map none,I 0,I 0]⟩
def Fp:TI:=⟨.struct [(56,0),(59,1)],2,some (.agg [.map,.func]),some [.map none,.nilFunc]⟩
def Fo:TI:=⟨.struct [(23,0),(55,1),(61,2),(3,4),(3,5)],6,some (.agg lf0),some [.pointer none,.map none,.map none,.nilFunc,I 0,I 0]⟩
def Fm:TI:=⟨.struct [(9,0),(72,1)],2,some (.agg [.str,.ptr]),some [.string s_,.pointer none]⟩
def Fl:TI:=⟨.struct [(9,0),(3,1)],2,some (.agg [.str,.int .i64]),some [.string s_,I 0]⟩
def Fk:TI:=⟨.struct [(96,0)],1,some (.agg [.slice]),some [.slice none 0 0]⟩
def Fj:TI:=⟨.struct [(98,0),(3,1)],2,some (.agg [.slice,.int .i64]),some [.slice none 0 0,I 0]⟩
def Gh:TI:=⟨.struct [(3,0),(3,1)],2,some (.agg [.int .i64,.int .i64]),some [I 0,I 0]⟩
def Fi:TI:=⟨.struct [(109,0),(3,1)],2,some (.agg [.map,.int .i64]),some [.map none,I 0]⟩
def Fh:TI:=⟨.struct [(3,0),(111,1)],3,some (.agg [.int .i64,.map,.int .i64]),some [I 0,.map none,I 0]⟩
def Fg:TI:=⟨.struct [(17,0),(17,1),(17,2),(9,3)],4,some (.agg [.ptr,.ptr,.ptr,.str]),some [.pointer none,.pointer none,.pointer none,.string s_]⟩
def Ff:TI:=⟨.struct [(180,0)],0,some (.agg []),some []⟩
def Fe:TI:=⟨.struct [(12,0),(12,1),(150,2),(183,3),(5,4),(5,5),(184,6),(185,7),(186,8),(187,9),(188,10)],11,some (.agg lf1),some [.int .u64 0,.int .u64 0,.int .u32 0,.int .u8 0,.int .u8 0,.int .u8 0,.int .u8 0,.nilFunc,.pointer none,.int .i32 0,.int .i32 0]⟩
def Dt:Tb:=⟨192,133,(.node ⟨.tuple [],1,none,none⟩ (.node tq0 (.node tq1 (.node tq3 (.node tq7 (.node ⟨.tuple [30,30],1,none,none⟩ (.node Fo (.node tq0 .nil .nil) (.node ⟨.other,1,none,none⟩ .nil .nil)) (.node ⟨.tuple [92,4],1,none,none⟩ (.node tq0 .nil .nil) .nil)) (.node ⟨.slice 4,1,some eL6,some [.slice none 0 0]⟩ (.node ⟨.tuple [75,4],1,none,none⟩ (.node tq1 .nil .nil) .nil) (.node Fi (.node tq0 .nil .nil) .nil))) (.node tq7 (.node ⟨.tuple [30,33],1,none,none⟩ (.node tq0 (.node tq7 .nil .nil) .nil) (.node tq0 (.node tq0 .nil .nil) .nil)) (.node ⟨.map 3 92,1,some (.one (.map)),some [.map none]⟩ (.node tq0 (.node tq0 .nil .nil) .nil) (.node tq0 (.node tq2 .nil .nil) .nil)))) (.node tq4 (.node tq8 (.node tq0 (.node tq0 (.node Gh .nil .nil) .nil) (.node Fj (.node tq0 .nil .nil) .nil)) (.node ⟨.map 3 75,1,some (.one (.map)),some [.map none]⟩ (.node tq0 (.node tq0 .nil .nil) .nil) (.node tq0 (.node Fg .nil .nil) .nil))) (.node tq0 (.node tq0 (.node Fm (.node tq0 .nil .nil) .nil) (.node tq0 (.node tq7 .nil .nil) .nil)) (.node tq0 (.node Fl (.node tq0 .nil .nil) .nil) (.node tq0 (.node tq9 .nil .nil) .nil))))) (.node tq2 (.node tq4 (.node tq7 (.node tq1 (.node tq0 (.node tq5 .nil .nil) .nil) (.node Fk (.node tq7 .nil .nil) .nil)) (.node Fs (.node ⟨.tuple [3,4],1,none,none⟩ (.node tq0 .nil .nil) .nil) (.node Fh (.node tq0 .nil .nil) .nil))) (.node tq7 (.node tq0 (.node tq0 (.node tq0 .nil .nil) .nil) (.node Gh (.node tq0 .nil .nil) .nil)) (.node tq7 (.node tq0 (.node tq0 .nil .nil) .nil) (.node tq0 (.node tq0 .nil .nil) .nil)))) (.node tq6 (.node tq9 (.node ⟨.tuple [28,33],1,none,none⟩ (.node ⟨.tuple [50,4],1,none,none⟩ (.node tq0 .nil .nil) .nil) (.node ⟨.slice 5,1,some eL6,some [.slice none 0 0]⟩ (.node tq0 .nil .nil) .nil)) (.node Fq (.node tq0 (.node tq0 .nil .nil) .nil) (.node tq0 (.node Ff .nil .nil) .nil))) (.node tq0 (.node tq0 (.node tq0 (.node tq7 .nil .nil) .nil) (.node ⟨.map 3 4,1,some (.one (.map)),some [.map none]⟩ (.node tq0 .nil .nil) .nil)) (.node Fp (.node tq0 (.node tq5 .nil .nil) .nil) (.node tq0 (.node Fe .nil .nil) .nil)))))) (.node tq1 (.node ⟨.bool,1,some eB6,some [.bool false]⟩ (.node tq3 (.node tq7 (.node tq0 (.node tq0 (.node tq0 .nil .nil) .nil) (.node ⟨.slice 105,1,some eL6,some [.slice none 0 0]⟩ (.node tq0 .nil .nil) .nil)) (.node tq0 (.node tq0 (.node ⟨.tuple [3,143],1,none,none⟩ .nil .nil) .nil) (.node Fh (.node tq0 .nil .nil) .nil))) (.node tq0 (.node tq0 (.node tq7 (.node tq0 .nil .nil) .nil) (.node Gh (.node tq0 .nil .nil) .nil)) (.node ⟨.map 9 57,1,some (.one (.map)),some [.map none]⟩ (.node ⟨.tuple [9,33],1,none,none⟩ (.node tq5 .nil .nil) .nil) (.node tq0 (.node tq2 .nil .nil) .nil)))) (.node tq5 (.node ⟨.iface,1,some (.one (.iface)),some [.nilIface]⟩ (.node tq0 (.node tq0 (.node Gh .nil .nil) .nil) (.node Fj (.node tq0 .nil .nil) .nil)) (.node ⟨.map 3 3,1,some (.one (.map)),some [.map none]⟩ (.node tq0 (.node tq0 .nil .nil) .nil) (.node tq0 (.node ⟨.arr 0 16,0,some (.agg []),some []⟩ .nil .nil) .nil))) (.node ⟨.slice 50,1,some eL6,some [.slice none 0 0]⟩ (.node tq0 (.node tq0 (.node tq0 .nil .nil) .nil) (.node tq0 (.node ⟨.tuple [3,3],1,none,none⟩ .nil .nil) .nil)) (.node Fp (.node Fl (.node tq0 .nil .nil) .nil) (.node tq0 (.node tq9 .nil .nil) .nil))))) (.node tq2 (.node tq4 (.node tq8 (.node tq0 (.node tq0 (.node ⟨.slice 132,1,some eL6,some [.slice none 0 0]⟩ .nil .nil) .nil) (.node Fk (.node tq0 .nil .nil) .nil)) (.node Fs (.node tq0 (.node tq0 .nil .nil) .nil) (.node tq0 (.node Fg .nil .nil) .nil))) (.node tq0 (.node ⟨.tuple [3,3,3,3],1,none,none⟩ (.node Fm (.node tq0 .nil .nil) .nil) (.node tq0 (.node tq0 .nil .nil) .nil)) (.node tq0 (.node tq0 (.node tq0 .nil .nil) .nil) (.node tq0 (.node tq7 .nil .nil) .nil)))) (.node tq6 (.node tq0 (.node tq0 (.node tq0 (.node tq0 .nil .nil) .nil) (.node tq7 (.node tq0 .nil .nil) .nil)) (.node Fq (.node tq0 (.node ⟨.int .u32,1,some (.one (.int .u32)),some [.int .u32 0]⟩ .nil .nil) .nil) (.node ⟨.slice 9,1,some eL6,some [.slice none 0 0]⟩ (.node Ff .nil .nil) .nil))) (.node ⟨.slice 3,1,some eL6,some [.slice none 0 0]⟩ (.node tq0 (.node tq0 (.node tq0 .nil .nil) .nil) (.node Fi (.node tq0 .nil .nil) .nil)) (.node Fo (.node ⟨.tuple [57,4],1,none,none⟩ (.node tq0 .nil .nil) .nil) (.node tq0 (.node Fe .nil .nil) .nil))))))),(.node none (.node none (.node (some rB) (.node (some rS) (.node (some rL) (.node (some rP) (.node (some rI) .nil .nil) .nil) (.node (some (.one (.one (.func)))) .nil .nil)) (.node (some rS) (.node (some rL) (.node (some rL) .nil .nil) .nil) (.node (some rL) (.node (some rL) .nil .nil) .nil))) (.node (some rL) (.node (some rB) (.node (some rL) (.node (some (.tup [])) .nil .nil) .nil) (.node (some (.one (.one (.func)))) .nil .nil)) (.node (some rI) (.node (some (.tup [eL6,eI6])) .nil .nil) (.node (some rI) .nil .nil)))) (.node (some rP) (.node (some (.tup [eL6,eL6])) (.node (some (.tup [eL6,eL6])) (.node (some rI) (.node (some (.tup [])) .nil .nil) (.node (some (.tup [])) .nil .nil)) (.node (some rI) .nil (.node (some (.tup [])) .nil .nil))) (.node (some (.one (.agg [.int .i64,.int .i64,.int .i64,.str]))) (.node (some rL) .nil .nil) (.node (some rL) (.node (some rL) .nil .nil) .nil))) (.node (some (.tup [eL6,eI6])) (.node (some rP) (.node (some rL) (.node (some (.tup [])) .nil .nil) .nil) (.node (some rL) (.node (some rI) .nil .nil) .nil)) (.node (some rI) (.node (some (.tup [eI6,eB6])) .nil .nil) .nil)))) (.node none (.node (some rB) (.node (some rL) (.node (some (.tup [eI6,eI6,eI6,eI6])) (.node (some rI) (.node (some rI) .nil .nil) (.node (some (.tup [])) .nil .nil)) (.node (some rI) .nil .nil)) (.node (some (.one (.agg [.int .i64,.int .i64,.int .i64,.str]))) (.node (some (.one (.one (.func)))) (.node (some (.tup [])) .nil .nil) .nil) (.node (some rI) .nil .nil))) (.node (some rL) (.node (some rI) (.node (some rI) (.node (some rL) .nil .nil) .nil) (.node (some (.tup [])) (.node (some (.tup [])) .nil .nil) .nil)) (.node (some (.tup [(.agg [.int .i64,.int .i64,.int .i64,.str]),eB6])) (.node (some (.tup [])) .nil (.node (some (.tup [])) .nil .nil)) .nil))) (.node (some rP) (.node (some rI) (.node (some rI) (.node (some (.tup [])) (.node (some (.one (.one (.func)))) .nil .nil) .nil) (.node (some (.tup [])) .nil .nil)) (.node (some rP) (.node (some (.tup [eS6,eI6])) .nil .nil) (.node (some (.one (.one (.func)))) .nil .nil))) (.node (some (.tup [eL6,eI6])) (.node (some rP) (.node (some (.tup [eI6,eB6])) (.node (some (.tup [])) .nil .nil) .nil) (.node (some (.one (.one (.func)))) (.node (some (.tup [])) .nil .nil) .nil)) (.node (some rI) (.node (some rB) .nil .nil) (.node (some (.tup [])) .nil .nil))))))⟩
def Tok:YF Pr Dt:=Gi (by kernel_rfl) (by kernel_rfl) (by kernel_rfl)
variable {K:Value→PT}{w:World}
abbrev CV(f:FuncId)(a:List SV)(K:Value→PT)(w:World):Prop:=Calls Pr f (yN a).toArray w λe w2=>∃v,e = .returned v∧K v w2
def Ze{f:FuncId}(fn:Func)(an:Ann)(args:List SV){F:PT}(h:F w)(h1:Pr.funcs[f]? = some fn:=by kernel_rfl)(h2:okF args.length fn=true:=by kernel_rfl)(h3:fH Pr Dt fn an args K=F:=by kernel_rfl):CV f args K w:=GB Tok h1 h2 ((congrFun h3 w).mpr h)
def Xj:Ann:=(.q2 (.q2 (.q2 (.q2 (.q2 (.q2 (.q2 (.q2 (.q2 (.q2 (.q2 (.q2 (.q2 (.q2 (.q2 (.q2 (.q2 (.seq (.asm .auto) .auto none) none) none) none) none) none) none) none) none) none) none) none) none) none) none) none) none) none)
def jB(p0:Int)(K:Value→PT):PT:=
  L.call Pr YZ [] rB λ(x1:Bool)=>L.ite (!x1) (K (.bool false))<|L.call Pr xC [I 5] rP λ(x2:Option Addr)=>L.ite ((x2).isNone) (K (.bool false))<|L.call Pr Xq [.pointer x2,I 2,I 3] rP λ(x3:Option Addr)=>L.ite ((x3).isNone) (K (.bool false))<|L.call Pr Zb [.pointer x3,I 1,.string s_,I 0] rL λ(x4:Sl)=>L.call Pr zx [Sv6 x4] rS λ(x5:B0)=>L.call Pr Zb [.pointer x3,I 2,.string xA,I 0] rL λ(x6:Sl)=>L.call Pr zx [Sv6 x6] rS λ(x7:B0)=>L.guard (((x5.size+x7.size:Nat):Int)≤Zr)<|L.call Pr Zb [.pointer x3,I 3,.string xA,I 1] rL λ(x8:Sl)=>L.call Pr zx [Sv6 x8] rS λ(x9:B0)=>L.guard ((((x5++x7).size+x9.size:Nat):Int)≤Zr)<|L.call Pr Zb [.pointer x3,I 4,.string xA,I 1] rL λ(x10:Sl)=>L.call Pr zx [Sv6 x10] rS λ(x11:B0)=>L.guard (((((x5++x7)++x9).size+x11.size:Nat):Int)≤Zr)<|L.call Pr Zb [.pointer x3,I 2,.string GU,I 1] rL λ(x12:Sl)=>L.call Pr zx [Sv6 x12] rS λ(x13:B0)=>L.guard ((((((x5++x7)++x9)++x11).size+x13.size:Nat):Int)≤Zr)<|L.call Pr YY [.pointer x2,.string xA,I 1,I 1] (.tup [eL6,eL6]) λ(x14:Sl×Sl×Unit)=>L.call Pr YS [.pointer x2,I 1] rI λ(x15:Int)=>L.guard (((((((x5++x7)++x9)++x11)++x13).size+Zf.size:Nat):Int)≤Zr)<|L.call Pr yj [.pointer x3,.string xA] rL λ(x16:Sl)=>L.call Pr zx [Sv6 x16] rS λ(x17:B0)=>L.guard ((((((((x5++x7)++x9)++x11)++x13)++Zf).size+x17.size:Nat):Int)≤Zr)<|L.call Pr YP [.pointer x3,I 3] rL λ(x18:Sl)=>L.call Pr zx [Sv6 x18] rS λ(x19:B0)=>L.guard (((((((((x5++x7)++x9)++x11)++x13)++Zf)++x17).size+x19.size:Nat):Int)≤Zr)<|L.call Pr YP [.pointer x3,I 4] rL λ(x20:Sl)=>L.call Pr zx [Sv6 x20] rS λ(x21:B0)=>L.guard ((((((((((x5++x7)++x9)++x11)++x13)++Zf)++x17)++x19).size+x21.size:Nat):Int)≤Zr)<|L.call Pr Zb [.pointer x3,I 5,.string xA,I 4] rL λ(x22:Sl)=>L.call Pr zx [Sv6 x22] rS λ(x23:B0)=>L.guard (((((((((((x5++x7)++x9)++x11)++x13)++Zf)++x17)++x19)++x21).size+x23.size:Nat):Int)≤Zr)<|L.call Pr YR [.pointer x3,I 2] (.tup [eL6,eI6]) λ(x24:Sl×Int×Unit)=>L.call Pr YR [.pointer x3,I 2] (.tup [eL6,eI6]) λ(x25:Sl×Int×Unit)=>L.guard ((((((((((((x5++x7)++x9)++x11)++x13)++Zf)++x17)++x19)++x21)++x23).size+Zf.size:Nat):Int)≤Zr)<|L.call Pr zx [Sv6 x24.1] rS λ(x26:B0)=>L.guard (((((((((((((x5++x7)++x9)++x11)++x13)++Zf)++x17)++x19)++x21)++x23)++Zf).size+x26.size:Nat):Int)≤Zr)<|L.call Pr jr [.pointer x2,I 1] (.tup [eL6,eI6]) λ(x27:Sl×Int×Unit)=>L.guard ((((((((((((((x5++x7)++x9)++x11)++x13)++Zf)++x17)++x19)++x21)++x23)++Zf)++x26).size+Zf.size:Nat):Int)≤Zr)<|L.call Pr YQ [.pointer x3,Sv6 x27.1] rL λ(x28:Sl)=>L.call Pr zx [Sv6 x28] rS λ(x29:B0)=>L.guard (((((((((((((((x5++x7)++x9)++x11)++x13)++Zf)++x17)++x19)++x21)++x23)++Zf)++x26)++Zf).size+x29.size:Nat):Int)≤Zr)<|L.call Pr YQ [.pointer x3,Sv6 x27.1] rL λ(x30:Sl)=>L.call Pr zx [Sv6 x30] rS λ(x31:B0)=>L.guard ((((((((((((((((x5++x7)++x9)++x11)++x13)++Zf)++x17)++x19)++x21)++x23)++Zf)++x26)++Zf)++x29).size+x31.size:Nat):Int)≤Zr)<|L.call Pr yj [.pointer x3,.string xA] rL λ(x32:Sl)=>L.call Pr zx [Sv6 x32] rS λ(x33:B0)=>L.guard (((((((((((((((((x5++x7)++x9)++x11)++x13)++Zf)++x17)++x19)++x21)++x23)++Zf)++x26)++Zf)++x29)++x31).size+x33.size:Nat):Int)≤Zr)<|L.call Pr Ye [.pointer x3] (.tup [eI6,eI6,eI6,eI6]) λ(x34:Int×Int×Int×Int×Unit)=>L.call Pr Yd [.pointer x3,.string xA] (.tup [eL6,eL6]) λ(x35:Sl×Sl×Unit)=>L.guard ((x24.2.1 == 0)=true)<|L.guard ((x34.1 == 5)=true)<|L.guard ((x34.2.1 == 0)=true)<|L.guard ((x34.2.2.1 == 0)=true)<|L.guard ((((x35.1.len:Nat):Int) == 0)=true)<|L.guard ((((x35.2.1.len:Nat):Int) == 0)=true)<|L.call Pr Jb [.pointer x3,.string xA] rI λ(x36:Int)=>L.guard ((x36 == 0)=true)<|L.call Pr ZF [.pointer x3,I 4] rB λ(x37:Bool)=>L.guard (x37=true)<|L.call Pr ZF [.pointer x3,I 6] rB λ(x38:Bool)=>L.new [.bool ((((((((((((((((x5++x7)++x9)++x11)++x13)++Zf)++x17)++x19)++x21)++x23)++Zf)++x26)++Zf)++x29)++x31)++x33).toList == YL.toList),.bool (x25.2.1 == 6),.bool (x34.2.2.2.1 == 5),.bool (!x38)] Yi λb39=>L.call Pr yE [I p0,I ((4:Nat):Int)] rI λ(x40:Int)=>L.idx (some ⟨b39,0,none⟩) x40 4 1 λa41=>L.load eB6 a41 λ(x42:Bool)=>K (.bool x42)
def Xi(p0:Int)(h:jB p0 K w):CV jy [.v (.int .i64 p0)] K w:=Ze Tryz.f3 Xj _ h
def JC  (K:Value→PT):PT:=
  L.call Pr xC [I 2] rP λ(x1:Option Addr)=>L.ite ((x1).isNone) (K (.bool false))<|L.call Pr Xq [.pointer x1,I 1,I 5] rP λ(x2:Option Addr)=>L.ite ((x2).isNone) (K (.bool false))<|L.call Pr Ye [.pointer x2] (.tup [eI6,eI6,eI6,eI6]) λ(x3:Int×Int×Int×Int×Unit)=>L.call Pr Zb [.pointer x2,I 7,.string xA,I 0] rL λ(x4:Sl)=>L.ite (x3.1 == 0) (L.ite (x3.2.1 == 0) (L.ite (x3.2.2.1 == 0) (L.ite (x3.2.2.2.1 == 0) (L.ite (((x4.len:Nat):Int) == 1) (L.idx x4.a 0 x4.len 4 λa5=>L.load eI6 (a5.add 0) λ(x6:Int)=>L.ite (x6 == 7) (L.idx x4.a 0 x4.len 4 λa7=>L.load eI6 (a7.add 1) λ(x8:Int)=>L.ite (x8 == 2) (L.call Pr ZF [.pointer x2,I 7] rB λ(x9:Bool)=>L.ite x9 (L.call Pr ZF [.pointer x2,I 8] rB λ(x10:Bool)=>K (.bool (!x10)))<|K (.bool false))<|K (.bool false))<|K (.bool false))<|K (.bool false))<|K (.bool false))<|K (.bool false))<|K (.bool false))<|K (.bool false)
def qG(h:JC  K w):CV YZ [] K w:=Ze Tryz.f4 .auto _ h
def Ur(p0:Int)(K:Value→PT):PT:=
  L.sem Pr (.one (.one .map)) (Instr.makeMap zt none) λ(m1:Option Nat)=>L.sem Pr (.one (.one .map)) (Instr.makeMap zw none) λ(m2:Option Nat)=>L.new [.map m1,.map m2,I p0,I 0] qR λb3=>K (.pointer (some (⟨b3,0,none⟩)))
def KK(p0:Int)(h:Ur p0 K w):CV xC [.v (.int .i64 p0)] K w:=Ze Tryz.f5 .auto _ h
def vR(p0:Option Addr)(p1 p2:Int)(K:Value→PT):PT:=
  L.new [I p1] zk λb1=>L.sem Pr (.one (.one .map)) (Instr.makeMap zT none) λ(m2:Option Nat)=>L.sem Pr (.one (.one .map)) (Instr.makeMap zA none) λ(m3:Option Nat)=>L.load eI6 (⟨b1,0,none⟩) λ(x4:Int)=>L.new [.pointer p0,.map m2,.map m3,.func (.func JH) #[] #[.pointer (some (⟨b1,0,none⟩))],I x4,I p2] Uq λb5=>K (.pointer (some (⟨b5,0,none⟩)))
def oK(p0:Option Addr)(p1 p2:Int)(h:vR p0 p1 p2 K w):CV Xq [.v (.pointer p0),.v (.int .i64 p1),.v (.int .i64 p2)] K w:=Ze Tryz.f6 .auto _ h
def QA:Ann:=(.q2 (.q2 (.seq (.q2 (.one [(3,eS6),(4,eI6)] .auto) none) .auto none) none) none)
def xn(p0:Sl)(K:Value→PT):PT:=
  L.loop (Y:=B0×Int×Unit) (s_,0,()) λy1 again2=>L.ite (decide (y1.2.1<((p0.len:Nat):Int))) (L.draw<|L.idx p0.a y1.2.1 p0.len 4 λa3=>L.load eI6 (a3.add 0) λ(x4:Int)=>L.idx p0.a y1.2.1 p0.len 4 λa5=>L.load eI6 (a5.add 1) λ(x6:Int)=>L.idx p0.a y1.2.1 p0.len 4 λa7=>L.load eI6 (a7.add 2) λ(x8:Int)=>L.idx p0.a y1.2.1 p0.len 4 λa9=>L.load eS6 (a9.add 3) λ(x10:B0)=>L.call Pr Zk [I x4] rS λ(x11:B0)=>L.chk (a9.add 3) [.string x10]<|L.chk (a7.add 2) [I x8]<|L.chk (a5.add 1) [I x6]<|L.guard (((y1.1.size+x11.size:Nat):Int)≤Zr)<|L.guard ((((y1.1++x11).size+s__.size:Nat):Int)≤Zr)<|L.call Pr Zk [I x6] rS λ(x12:B0)=>L.chk (a9.add 3) [.string x10]<|L.chk (a7.add 2) [I x8]<|L.guard (((((y1.1++x11)++s__).size+x12.size:Nat):Int)≤Zr)<|L.guard ((((((y1.1++x11)++s__)++x12).size+s__.size:Nat):Int)≤Zr)<|L.call Pr Zk [I x8] rS λ(x13:B0)=>L.chk (a9.add 3) [.string x10]<|L.guard (((((((y1.1++x11)++s__)++x12)++s__).size+x13.size:Nat):Int)≤Zr)<|L.guard ((((((((y1.1++x11)++s__)++x12)++s__)++x13).size+s__.size:Nat):Int)≤Zr)<|L.guard (((((((((y1.1++x11)++s__)++x12)++s__)++x13)++s__).size+x10.size:Nat):Int)≤Zr)<|L.guard ((((((((((y1.1++x11)++s__)++x12)++s__)++x13)++s__)++x10).size+XP.size:Nat):Int)≤Zr)<|again2 ((((((((y1.1++x11)++s__)++x12)++s__)++x13)++s__)++x10)++XP,Wi (y1.2.1+1),()))<|K (.string y1.1)
def Qs(p0:Sl)(h:xn p0 K w):CV zx [.v (.slice p0.a p0.len p0.cap)] K w:=Ze Tryz.f7 QA _ h
def Qw:Ann:=(.q2 (.q2 (.q2 (.q2 (.q2 .auto (some [])) none) none) none) none)
def xi(p0:Option Addr)(p1:Int)(p2:B0)(p3:Int)(K:Value→PT):PT:=
  L.call Pr ZF [.pointer p0,I p1] rB λ(x1:Bool)=>L.ite x1 (L.call Pr YB [.string VO] (.one (.agg [.int .i64,.int .i64,.int .i64,.str])) λ(x2:pt0)=>L.new [I 0,I 0,I 0,.string s_] zf λb3=>L.store (⟨b3,0,none⟩) [I x2.1,I x2.2.1,I x2.2.2.1,.string x2.2.2.2.1]<|L.store (Ad6 b3 0) [I p1]<|L.load (.agg [.int .i64,.int .i64,.int .i64,.str]) (⟨b3,0,none⟩) λ(x4:pt0)=>L.new [I x4.1,I x4.2.1,I x4.2.2.1,.string x4.2.2.2.1] zf λb5=>K (.slice (some ⟨b5,0,none⟩) 1 1))<|L.ite (p2.toList == s_.toList) (L.call Pr YB [.string Xn] (.one (.agg [.int .i64,.int .i64,.int .i64,.str])) λ(x6:pt0)=>L.call Pr zW [.pointer p0,I p1,.string s_,.agg #[I x6.1,I x6.2.1,I x6.2.2.1,.string x6.2.2.2.1]] (.one (.agg [.int .i64,.int .i64,.int .i64,.str])) λ(x7:pt0)=>L.new [I x7.1,I x7.2.1,I x7.2.2.1,.string x7.2.2.2.1] zf λb8=>K (.slice (some ⟨b8,0,none⟩) 1 1))<|L.nonnil p0 λa9=>L.call Pr ZV [.pointer (some (a9.add 2)),.string p2] rP λ(x10:Option Addr)=>L.join (Y:=Unit) (λk11=>L.call Pr Yn [.pointer x10] rI λ(x13:Int)=>L.ite (x13 == 0) (L.call Pr YO [.pointer p0,I p1,.string p2] (.tup [(.agg [.int .i64,.int .i64,.int .i64,.str]),eB6]) λ(x14:pt1)=>L.new [I 0,I 0,I 0,.string s_] zf λb15=>L.store (⟨b15,0,none⟩) [I x14.1.1,I x14.1.2.1,I x14.1.2.2.1,.string x14.1.2.2.2.1]<|L.ite x14.2.1 (L.load (.agg [.int .i64,.int .i64,.int .i64,.str]) (⟨b15,0,none⟩) λ(x16:pt0)=>L.new [I x16.1,I x16.2.1,I x16.2.2.1,.string x16.2.2.2.1] zf λb17=>K (.slice (some ⟨b17,0,none⟩) 1 1))<|k11 (()))<|k11 (())) λz12=>L.nonnil p0 λa18=>L.load eI6 (a18.add 5) λ(x19:Int)=>L.call Pr YN [.pointer x10,I p1,I (Wi (p3+x19))] rI λ(x20:Int)=>L.ite (x20 != 0) (L.call Pr YB [.string JR] (.one (.agg [.int .i64,.int .i64,.int .i64,.str])) λ(x21:pt0)=>L.call Pr zW [.pointer p0,I p1,.string p2,.agg #[I x21.1,I x21.2.1,I x21.2.2.1,.string x21.2.2.2.1]] (.one (.agg [.int .i64,.int .i64,.int .i64,.str])) λ(x22:pt0)=>L.new [I x22.1,I x22.2.1,I x22.2.2.1,.string x22.2.2.2.1] zf λb23=>K (.slice (some ⟨b23,0,none⟩) 1 1))<|L.call Pr zW [.pointer p0,I p1,.string p2,.agg #[I 0,I 2,I 0,.string s_]] (.one (.agg [.int .i64,.int .i64,.int .i64,.str])) λ(x24:pt0)=>L.new [I x24.1,I x24.2.1,I x24.2.2.1,.string x24.2.2.2.1] zf λb25=>K (.slice (some ⟨b25,0,none⟩) 1 1)
def Qn(p0:Option Addr)(p1:Int)(p2:B0)(p3:Int)(h:xi p0 p1 p2 p3 K w):CV Zb [.v (.pointer p0),.v (.int .i64 p1),.v (.string p2),.v (.int .i64 p3)] K w:=Ze Tryz.f8 Qw _ h
def qJ:Ann:=(.q2 (.q2 (.seq (.one [(8,eL6),(10,eI6)] (.seq (.q2 (.cond .auto .auto) none) .auto none)) (.seq (.one [(9,eL6),(10,eI6)] .auto) .auto none) (some [(8,eL6),(10,eI6)])) none) none)
def JB(p0:Option Addr)(p1:B0)(p2 p3:Int)(K:Value→PT):PT:=
  L.call Pr Jc [.pointer p0,.string p1] rI λ(x1:Int)=>L.join (Y:=Sl×Int×Unit) (λk2=>L.loop (Y:=Sl×Int×Unit) (⟨none,0,0⟩,x1,()) λy4 again5=>L.draw<|L.ite (decide (y4.2.1<p3)) (L.nonnil p0 λa6=>L.load (.one (.map)) (a6.add 0) λ(x7:Option Nat)=>L.semR Pr rI (Builtin.len_ #[zt] zk #[.map x7]) λ(x8:Int)=>L.nonnil p0 λa9=>L.load eI6 (a9.add 2) λ(x10:Int)=>L.ite (decide (x8<x10)) (L.nonnil p0 λa11=>L.load eI6 (a11.add 3) λ(x12:Int)=>L.nonnil p0 λa13=>L.store (a13.add 3) [I (Wi (x12+1))]<|L.draw<|L.nonnil p0 λa14=>L.load (.one (.map)) (a14.add 0) λ(x15:Option Nat)=>L.nonnil p0 λa16=>L.load eI6 (a16.add 3) λ(x17:Int)=>L.call Pr uw [I p2] rP λ(x18:Option Addr)=>L.chk (a16.add 3) [I x17]<|L.chk (a14.add 0) [.map x15]<|L.semU Pr (Instr.mapUpdate zt (.map x15) (I x17) (.agg #[.string p1,.pointer x18]))<|L.nonnil p0 λa19=>L.load eI6 (a19.add 3) λ(x20:Int)=>L.new [I x20] zk λb21=>L.sem Pr (.one (.one .slice)) (Builtin.append_ #[zQ,zQ] zQ #[Sv6 y4.1,.slice (some ⟨b21,0,none⟩) 1 1]) λ(s22:Sl)=>again5 (⟨s22.a,s22.len,s22.cap⟩,Wi (y4.2.1+1),()))<|k2 (⟨y4.1.a,y4.1.len,y4.1.cap⟩,y4.2.1,()))<|k2 (⟨y4.1.a,y4.1.len,y4.1.cap⟩,y4.2.1,())) λz3=>L.loop (Y:=Sl×Int×Unit) (⟨none,0,0⟩,z3.2.1,()) λy23 again24=>L.ite (decide (y23.2.1>(if 0>p3 then 0 else p3))) (L.call Pr YX [.pointer p0,.string p1] rI λ(x25:Int)=>L.nonnil p0 λa26=>L.load (.one (.map)) (a26.add 0) λ(x27:Option Nat)=>L.semR Pr (.one (.agg [.str,.ptr])) (Instr.lookup zt (.map x27) (I x25) false) λ(x28:B0×Option Addr×Unit)=>L.call Pr Jn [.pointer x28.2.1] rI λ(x29:Int)=>L.call Pr yD [.pointer p0,I x25] (.tup []) λ(x30:Unit)=>L.new [I x25] zk λb31=>L.sem Pr (.one (.one .slice)) (Builtin.append_ #[zQ,zQ] zQ #[Sv6 y23.1,.slice (some ⟨b31,0,none⟩) 1 1]) λ(s32:Sl)=>again24 (⟨s32.a,s32.len,s32.cap⟩,Wi (y23.2.1-1),()))<|L.call Pr zJ [Sv6 z3.1] rL λ(x33:Sl)=>L.call Pr zJ [Sv6 y23.1] rL λ(x34:Sl)=>K (.tuple #[Sv6 x33,Sv6 x34])
def qF(p0:Option Addr)(p1:B0)(p2 p3:Int)(h:JB p0 p1 p2 p3 K w):CV YY [.v (.pointer p0),.v (.string p1),.v (.int .i64 p2),.v (.int .i64 p3)] K w:=Ze Tryz.f9 qJ _ h
def Xg(p0:Option Addr)(p1:Int)(K:Value→PT):PT:=
  L.nonnil p0 λa1=>L.load (.one (.map)) (a1.add 0) λ(x2:Option Nat)=>L.semR Pr (.tup [(.agg [.str,.ptr]),.one .bool]) (Instr.lookup zt (.map x2) (I p1) true) λ(x3:pt2)=>L.new [.string s_,.pointer none] Ya λb4=>L.store (⟨b4,0,none⟩) [.string x3.1.1,.pointer x3.1.2.1]<|L.ite (!x3.2.1) (K (I 6))<|L.load eP6 (Ad6 b4 1) λ(x5:Option Addr)=>L.call Pr Xp [.pointer x5] rI λ(x6:Int)=>K (I x6)
def Ua(p0:Option Addr)(p1:Int)(h:Xg p0 p1 K w):CV YS [.v (.pointer p0),.v (.int .i64 p1)] K w:=Ze Tryz.f10 .auto _ h
def Ud:Ann:=(.q2 (.q2 (.q2 (.seq (.q2 (.one [(5,eL6),(19,eI6)] .auto) none) .auto (some [(5,eL6)])) none) none) none)
def Xb(p0:Option Addr)(p1:B0)(K:Value→PT):PT:=
  L.nonnil p0 λa1=>L.call Pr ZV [.pointer (some (a1.add 2)),.string p1] rP λ(x2:Option Addr)=>L.join (Y:=Sl×Unit) (λk3=>L.call Pr jn [.pointer x2] rL λ(x5:Sl)=>L.loop (Y:=Sl×Int×Unit) (⟨none,0,0⟩,0,()) λy6 again7=>L.ite (decide (y6.2.1<((x5.len:Nat):Int))) (L.idx x5.a y6.2.1 x5.len 1 λa8=>L.load eI6 a8 λ(x9:Int)=>L.call Pr YO [.pointer p0,I x9,.string p1] (.tup [(.agg [.int .i64,.int .i64,.int .i64,.str]),eB6]) λ(x10:pt1)=>L.new [I 0,I 0,I 0,.string s_] zf λb11=>L.store (⟨b11,0,none⟩) [I x10.1.1,I x10.1.2.1,I x10.1.2.2.1,.string x10.1.2.2.2.1]<|L.ite (!x10.2.1) (k3 (⟨y6.1.a,y6.1.len,y6.1.cap⟩,()))<|L.call Pr Jm [.pointer x2] (.tup [eI6,eB6]) λ(x12:Int×Bool×Unit)=>L.load (.agg [.int .i64,.int .i64,.int .i64,.str]) (⟨b11,0,none⟩) λ(x13:pt0)=>L.new [I x13.1,I x13.2.1,I x13.2.2.1,.string x13.2.2.2.1] zf λb14=>L.sem Pr (.one (.one .slice)) (Builtin.append_ #[zn,zn] zn #[Sv6 y6.1,.slice (some ⟨b14,0,none⟩) 1 1]) λ(s15:Sl)=>again7 (⟨s15.a,s15.len,s15.cap⟩,Wi (y6.2.1+1),()))<|k3 (⟨y6.1.a,y6.1.len,y6.1.cap⟩,())) λz4=>L.call Pr zL [Sv6 z4.1] rL λ(x16:Sl)=>K (.slice x16.a x16.len x16.cap)
def uV(p0:Option Addr)(p1:B0)(h:Xb p0 p1 K w):CV yj [.v (.pointer p0),.v (.string p1)] K w:=Ze Tryz.f11 Ud _ h
def Ub:Ann:=(.q2 (.q2 (.seq (.q2 (.q2 (.q2 (.one [(20,eI6)] .auto) none) (some [(14,eS6),(15,eP6)])) none) .auto none) none) none)
def xY(p0:Option Addr)(p1:Int)(K:Value→PT):PT:=
  L.new [.pointer p0] yf λb1=>L.new [I p1] zk λb2=>L.new [.slice none 0 0] zn λb3=>L.load eP6 (⟨b1,0,none⟩) λ(x4:Option Addr)=>L.nonnil x4 λa5=>L.call Pr YC [.pointer (some (a5.add 2))] (.one (.one (.func))) λ(x6:FV)=>L.range Pr none (.func x6.fn x6.fs x6.cs) [eS6,eP6] (λl7(y8:B0×Option Addr×Unit) R9=>L.begin Pr l7<|L.load eI6 (⟨b2,0,none⟩) λ(x12:Int)=>L.call Pr Ja [.pointer y8.2.1,I x12] rL λ(x13:Sl)=>L.loop (Y:=Int×Unit) (0,()) λy14 again15=>L.ite (decide (y14.1<((x13.len:Nat):Int))) (L.idx x13.a y14.1 x13.len 1 λa16=>L.load eI6 a16 λ(x17:Int)=>L.draw<|L.load eL6 (⟨b3,0,none⟩) λ(x18:Sl)=>L.load eP6 (⟨b1,0,none⟩) λ(x19:Option Addr)=>L.call Pr YB [.string JL] (.one (.agg [.int .i64,.int .i64,.int .i64,.str])) λ(x20:pt0)=>L.chk (⟨b1,0,none⟩) [.pointer x19]<|L.chk (⟨b3,0,none⟩) [Sv6 x18]<|L.call Pr zW [.pointer x19,I x17,.string y8.1,.agg #[I x20.1,I x20.2.1,I x20.2.2.1,.string x20.2.2.2.1]] (.one (.agg [.int .i64,.int .i64,.int .i64,.str])) λ(x21:pt0)=>L.chk (⟨b3,0,none⟩) [Sv6 x18]<|L.new [I x21.1,I x21.2.1,I x21.2.2.1,.string x21.2.2.2.1] zf λb22=>L.chk (⟨b3,0,none⟩) [Sv6 x18]<|L.sem Pr (.one (.one .slice)) (Builtin.append_ #[zn,zn] zn #[Sv6 x18,.slice (some ⟨b22,0,none⟩) 1 1]) λ(s23:Sl)=>L.store (⟨b3,0,none⟩) [Sv6 s23]<|again15 (Wi (y14.1+1),()))<|L.endRound Pr l7 none R9) λd10 j11=>L.jump j11 (L.load eL6 (⟨b3,0,none⟩) λ(x24:Sl)=>L.call Pr zL [Sv6 x24] rL λ(x25:Sl)=>L.unmark Pr (d10++[])<|K (.slice x25.a x25.len x25.cap)) (L.unmark Pr (d10++[])<|K (.slice none 0 0)) []
def uS(p0:Option Addr)(p1:Int)(h:xY p0 p1 K w):CV YP [.v (.pointer p0),.v (.int .i64 p1)] K w:=Ze Tryz.f12 Ub _ h
def Ue:Ann:=(.q2 (.q2 (.q2 (.q2 (.seq (.one [(4,eL6),(5,eI6)] .auto) .auto none) none) none) none) none)
def Xc(p0:Option Addr)(p1:Int)(K:Value→PT):PT:=
  L.nonnil p0 λa1=>L.load eP6 (a1.add 0) λ(x2:Option Addr)=>L.call Pr js [.pointer x2,I p1] (.tup [eS6,eI6]) λ(x3:B0×Int×Unit)=>L.ite (x3.2.1 != 0) (K (.tuple #[.slice none 0 0,I x3.2.1]))<|L.call Pr zW [.pointer p0,I p1,.string x3.1,.agg #[I 0,I 3,I 0,.string s_]] (.one (.agg [.int .i64,.int .i64,.int .i64,.str])) λ(x4:pt0)=>L.new [I 0,I 0,I 0,.string s_] zf λb5=>L.store (⟨b5,0,none⟩) [I x4.1,I x4.2.1,I x4.2.2.1,.string x4.2.2.2.1]<|L.join (Y:=Sl×Int×Unit) (λk6=>L.draw<|L.load (.agg [.int .i64,.int .i64,.int .i64,.str]) (⟨b5,0,none⟩) λ(x8:pt0)=>L.alts [(L.new [I x8.1,I x8.2.1,I x8.2.2.1,.string x8.2.2.2.1] zf λb9=>L.call Pr yj [.pointer p0,.string x3.1] rL λ(x10:Sl)=>L.chk (⟨b5,0,none⟩) [I x8.1,I x8.2.1,I x8.2.2.1,.string x8.2.2.2.1]<|L.sem Pr (.one (.one .slice)) (Builtin.append_ #[zn,zn] zn #[.slice (some ⟨b9,0,none⟩) 1 1,Sv6 x10]) λ(s11:Sl)=>k6 (⟨s11.a,s11.len,s11.cap⟩,0,())),(L.call Pr yj [.pointer p0,.string x3.1] rL λ(x12:Sl)=>L.chk (⟨b5,0,none⟩) [I x8.1,I x8.2.1,I x8.2.2.1,.string x8.2.2.2.1]<|L.new [I x8.1,I x8.2.1,I x8.2.2.1,.string x8.2.2.2.1] zf λb13=>L.sem Pr (.one (.one .slice)) (Builtin.append_ #[zn,zn] zn #[.slice (some ⟨b13,0,none⟩) 1 1,Sv6 x12]) λ(s14:Sl)=>k6 (⟨s14.a,s14.len,s14.cap⟩,0,()))]) λz7=>K (.tuple #[Sv6 z7.1,I z7.2.1])
def uW(p0:Option Addr)(p1:Int)(h:Xc p0 p1 K w):CV YR [.v (.pointer p0),.v (.int .i64 p1)] K w:=Ze Tryz.f13 Ue _ h
def Qz:Ann:=(.q2 (.q2 (.q2 (.q2 (.seq (.q2 (.one [(29,eI6)] .auto) none) .auto none) none) none) none) none)
def xl(p0:Option Addr)(p1:Int)(K:Value→PT):PT:=
  L.nonnil p0 λa1=>L.load (.one (.map)) (a1.add 0) λ(x2:Option Nat)=>L.semR Pr (.tup [(.agg [.str,.ptr]),.one .bool]) (Instr.lookup zt (.map x2) (I p1) true) λ(x3:pt2)=>L.new [.string s_,.pointer none] Ya λb4=>L.store (⟨b4,0,none⟩) [.string x3.1.1,.pointer x3.1.2.1]<|L.ite (!x3.2.1) (K (.tuple #[.slice none 0 0,I 6]))<|L.load eP6 (Ad6 b4 1) λ(x5:Option Addr)=>L.call Pr jK [.pointer x5] (.tup [eL6,eI6]) λ(x6:Sl×Int×Unit)=>L.loop (Y:=Int×Unit) (0,()) λy7 again8=>L.ite (decide (y7.1<((x6.1.len:Nat):Int))) (L.idx x6.1.a y7.1 x6.1.len 1 λa9=>L.load eI6 a9 λ(x10:Int)=>L.nonnil p0 λa11=>L.load (.one (.map)) (a11.add 1) λ(x12:Option Nat)=>L.sem Pr (.tup []) (Builtin.delete_ #[zw,zk] T_ #[.map x12,I x10]) λ_=>again8 (Wi (y7.1+1),()))<|L.call Pr yD [.pointer p0,I p1] (.tup []) λ(x13:Unit)=>K (.tuple #[Sv6 x6.1,I x6.2.1])
def Qq(p0:Option Addr)(p1:Int)(h:xl p0 p1 K w):CV jr [.v (.pointer p0),.v (.int .i64 p1)] K w:=Ze Tryz.f14 Qz _ h
def Uc:Ann:=(.q2 (.q2 (.seq (.q2 (.one [(5,eL6),(11,eI6)] (.q2 (.q2 (.q2 .auto (some [(5,eL6)])) none) none)) none) .auto none) none) none)
def Xa(p0:Option Addr)(p1:Sl)(K:Value→PT):PT:=
  L.loop (Y:=Sl×Int×Unit) (⟨none,0,0⟩,0,()) λy1 again2=>L.ite (decide (y1.2.1<((p1.len:Nat):Int))) (L.join (Y:=Sl×Unit) (λk3=>L.idx p1.a y1.2.1 p1.len 1 λa5=>L.load eI6 a5 λ(x6:Int)=>L.nonnil p0 λa7=>L.load (.one (.map)) (a7.add 1) λ(x8:Option Nat)=>L.semR Pr (.one (.agg [.str,.int .i64])) (Instr.lookup zT (.map x8) (I x6) false) λ(x9:B0×Int×Unit)=>L.new [.string s_,I 0] zz λb10=>L.store (⟨b10,0,none⟩) [.string x9.1,I x9.2.1]<|L.load (.agg [.str,.int .i64]) (⟨b10,0,none⟩) λ(x11:B0×Int×Unit)=>L.load eS6 (Ad6 b10 0) λ(x12:B0)=>L.chkSem Pr (do eqGuard .eql zz (.tmp 0) (.tmp 0) (.agg #[.string x11.1,I x11.2.1]) (.agg #[.string x12,I 1]);binOp .eql zz (.agg #[.string x11.1,I x11.2.1]) (.agg #[.string x12,I 1])) (.bool ((x11.1 == x12)&&((x11.2.1 == 1)&&true)))<|L.ite ((x11.1 == x12)&&((x11.2.1 == 1)&&true)) (L.draw<|L.load eS6 (Ad6 b10 0) λ(x13:B0)=>L.call Pr YB [.string jX] (.one (.agg [.int .i64,.int .i64,.int .i64,.str])) λ(x14:pt0)=>L.chk (Ad6 b10 0) [.string x13]<|L.call Pr zW [.pointer p0,I x6,.string x13,.agg #[I x14.1,I x14.2.1,I x14.2.2.1,.string x14.2.2.2.1]] (.one (.agg [.int .i64,.int .i64,.int .i64,.str])) λ(x15:pt0)=>L.new [I x15.1,I x15.2.1,I x15.2.2.1,.string x15.2.2.2.1] zf λb16=>L.sem Pr (.one (.one .slice)) (Builtin.append_ #[zn,zn] zn #[Sv6 y1.1,.slice (some ⟨b16,0,none⟩) 1 1]) λ(s17:Sl)=>k3 (⟨s17.a,s17.len,s17.cap⟩,()))<|k3 (⟨y1.1.a,y1.1.len,y1.1.cap⟩,())) λz4=>again2 (⟨z4.1.a,z4.1.len,z4.1.cap⟩,Wi (y1.2.1+1),()))<|L.call Pr zL [Sv6 y1.1] rL λ(x18:Sl)=>K (.slice x18.a x18.len x18.cap)
def uU(p0:Option Addr)(p1:Sl)(h:Xa p0 p1 K w):CV YQ [.v (.pointer p0),.v (.slice p1.a p1.len p1.cap)] K w:=Ze Tryz.f15 Uc _ h
def Qv:Ann:=(.q2 (.q2 (.seq (.q2 (.one [] (.q2 (.seq (.cond .auto .auto) .auto none) none)) none) .auto none) none) none)
def xh(p0:Option Addr)(K:Value→PT):PT:=
  L.sem Pr (.one (.one .map)) (Instr.makeMap zw none) λ(m1:Option Nat)=>L.nonnil p0 λa2=>L.load (.one (.map)) (a2.add 1) λ(x3:Option Nat)=>L.sem Pr (.one (.one .ptr)) (Instr.range zT (.map x3)) λ(it4:Option Addr)=>L.loop (Y:=Unit) (()) λy5 again6=>L.next Pr [eI6,(.agg [.str,.int .i64])] (Instr.next (.pointer it4) false T_) (L.draw<|L.nonnil p0 λa8=>L.load (.one (.map)) (a8.add 1) λ(x9:Option Nat)=>L.semR Pr rI (Builtin.len_ #[zT] zk #[.map x9]) λ(x10:Int)=>L.semR Pr rI (Instr.lookup zw (.map m1) (I 2) false) λ(x11:Int)=>L.semR Pr rI (Instr.lookup zw (.map m1) (I 1) false) λ(x12:Int)=>L.semR Pr rI (Instr.lookup zw (.map m1) (I 3) false) λ(x13:Int)=>L.semR Pr rI (Instr.lookup zw (.map m1) (I 4) false) λ(x14:Int)=>L.chkSem Pr (Instr.lookup zw (.map m1) (I 4) false) (I x14)<|L.chkSem Pr (Instr.lookup zw (.map m1) (I 3) false) (I x13)<|L.chkSem Pr (Instr.lookup zw (.map m1) (I 1) false) (I x12)<|L.chkSem Pr (Instr.lookup zw (.map m1) (I 2) false) (I x11)<|L.chkSem Pr (Instr.lookup zw (.map m1) (I 4) false) (I x14)<|L.chkSem Pr (Instr.lookup zw (.map m1) (I 3) false) (I x13)<|L.chkSem Pr (Instr.lookup zw (.map m1) (I 1) false) (I x12)<|L.chkSem Pr (Instr.lookup zw (.map m1) (I 4) false) (I x14)<|L.chkSem Pr (Instr.lookup zw (.map m1) (I 3) false) (I x13)<|K (.tuple #[I x10,I x11,I x12,I (Wi (x13+x14))])) λ(x7:pt3)=>L.sem Pr (.tup [eI6,(.agg [.str,.int .i64])]) (Instr.entry (.pointer it4)) λ(x15:pt3)=>L.new [.string s_,I 0] zz λb16=>L.store (⟨b16,0,none⟩) [.string x15.2.1.1,I x15.2.1.2.1]<|L.load eI6 (Ad6 b16 1) λ(x17:Int)=>L.semR Pr rI (Instr.lookup zw (.map m1) (I x17) false) λ(x18:Int)=>L.semU Pr (Instr.mapUpdate zw (.map m1) (I x17) (I (Wi (x18+1))))<|again6 (())
def Qm(p0:Option Addr)(h:xh p0 K w):CV Ye [.v (.pointer p0)] K w:=Ze Tryz.f16 Qv _ h
def Qu:Ann:=(.q2 (.seq (.q2 (.one [(5,eL6)] (.q2 (.seq (.cond .auto .auto) .auto none) none)) none) (.q2 (.q2 .auto (some [(4,eL6)])) none) none) none)
def xg(p0:Option Addr)(p1:B0)(K:Value→PT):PT:=
  L.nonnil p0 λa1=>L.load (.one (.map)) (a1.add 1) λ(x2:Option Nat)=>L.sem Pr (.one (.one .ptr)) (Instr.range zT (.map x2)) λ(it3:Option Addr)=>L.loop (Y:=Sl×Unit) (⟨none,0,0⟩,()) λy4 again5=>L.next Pr [eI6,(.agg [.str,.int .i64])] (Instr.next (.pointer it3) false T_) (L.call Pr Yu [Sv6 y4.1] (.tup []) λ(x7:Unit)=>L.join (Y:=Sl×Unit) (λk8=>L.nonnil p0 λa10=>L.load (.one (.map)) ((a10.add 2).add 0) λ(x11:Option Nat)=>L.semR Pr (.tup [eP6,.one .bool]) (Instr.lookup zA (.map x11) (.string p1) true) λ(x12:Option Addr×Bool×Unit)=>L.ite x12.2.1 (L.call Pr jn [.pointer x12.1] rL λ(x13:Sl)=>k8 (⟨x13.a,x13.len,x13.cap⟩,()))<|k8 (⟨none,0,0⟩,())) λz9=>L.call Pr zJ [Sv6 y4.1] rL λ(x14:Sl)=>K (.tuple #[Sv6 z9.1,Sv6 x14])) λ(x6:pt3)=>L.sem Pr (.tup [eI6,(.agg [.str,.int .i64])]) (Instr.entry (.pointer it3)) λ(x15:pt3)=>L.new [.string s_,I 0] zz λb16=>L.store (⟨b16,0,none⟩) [.string x15.2.1.1,I x15.2.1.2.1]<|L.load (.agg [.str,.int .i64]) (⟨b16,0,none⟩) λ(x17:B0×Int×Unit)=>L.chkSem Pr (do eqGuard .eql zz (.tmp 0) (.tmp 0) (.agg #[.string x17.1,I x17.2.1]) (.agg #[.string p1,I 1]);binOp .eql zz (.agg #[.string x17.1,I x17.2.1]) (.agg #[.string p1,I 1])) (.bool ((x17.1 == p1)&&((x17.2.1 == 1)&&true)))<|L.ite ((x17.1 == p1)&&((x17.2.1 == 1)&&true)) (L.new [I x15.1] zk λb18=>L.sem Pr (.one (.one .slice)) (Builtin.append_ #[zQ,zQ] zQ #[Sv6 y4.1,.slice (some ⟨b18,0,none⟩) 1 1]) λ(s19:Sl)=>again5 (⟨s19.a,s19.len,s19.cap⟩,()))<|again5 (⟨y4.1.a,y4.1.len,y4.1.cap⟩,())
def Ql(p0:Option Addr)(p1:B0)(h:xg p0 p1 K w):CV Yd [.v (.pointer p0),.v (.string p1)] K w:=Ze Tryz.f17 Qu _ h
def Xd(p0:Option Addr)(p1:B0)(K:Value→PT):PT:=
  L.call Pr Yd [.pointer p0,.string p1] (.tup [eL6,eL6]) λ(x1:Sl×Sl×Unit)=>K (I (Wi (((x1.1.len:Nat):Int)+((x1.2.1.len:Nat):Int))))
def uX(p0:Option Addr)(p1:B0)(h:Xd p0 p1 K w):CV Jb [.v (.pointer p0),.v (.string p1)] K w:=Ze Tryz.f18 .auto _ h
def xZ(p0:Option Addr)(p1:Int)(K:Value→PT):PT:=
  L.nonnil p0 λa1=>L.load (.one (.map)) (a1.add 1) λ(x2:Option Nat)=>L.semR Pr (.tup [(.agg [.str,.int .i64]),.one .bool]) (Instr.lookup zT (.map x2) (I p1) true) λ(x3:pt4)=>L.new [.string s_,I 0] zz λb4=>L.store (⟨b4,0,none⟩) [.string x3.1.1,I x3.1.2.1]<|K (.bool x3.2.1)
def uT(p0:Option Addr)(p1:Int)(h:xZ p0 p1 K w):CV ZF [.v (.pointer p0),.v (.int .i64 p1)] K w:=Ze Tryz.f19 .auto _ h
def qm:Ann:=(.q2 (.q2 (.q2 .auto (some [(5,eI6)])) none) none)
def Jk(p0 p1:Int)(K:Value→PT):PT:=
  L.guard (p1≠(0:Int))<|L.join (Y:=Int×Unit) (λk1=>L.ite (decide ((Int.tmod p0 p1)<0)) (k1 (Wi ((Int.tmod p0 p1)+p1),()))<|k1 (Int.tmod p0 p1,())) λz2=>K (I z2.1)
def qk(p0 p1:Int)(h:Jk p0 p1 K w):CV yE [.v (.int .i64 p0),.v (.int .i64 p1)] K w:=Ze Tryz.f20 qm _ h
def QZ(c0:Addr)(K:Value→PT):PT:=
  L.load eI6 c0 λ(x1:Int)=>L.call Pr qY [I x1] rP λ(x2:Option Addr)=>K (.pointer x2)
def kI(c0:Addr)(h:QZ c0 K w):CV JH [.v (.pointer (some c0))] K w:=Ze Tryz.f21 .auto _ h
def kG:jR Pr JH:=yZ (by kernel_rfl)
def vP(p0:Int)(K:Value→PT):PT:=
  L.new [.slice none 0 0,I p0] jz λb1=>K (.pointer (some (⟨b1,0,none⟩)))
def oI(p0:Int)(h:vP p0 K w):CV qY [.v (.int .i64 p0)] K w:=Ze Tryz.f22 .auto _ h
def Jl(p0:Int)(K:Value→PT):PT:=
  L.ite (decide (p0<0)) (K (.string gc))<|L.ite (decide (p0≥10)) (L.guard (10≠(0:Int))<|L.call Pr Zk [I (Wi (Int.tdiv p0 10))] rS λ(x1:B0)=>L.guard (10≠(0:Int))<|L.call Pr Zk [I (Int.tmod p0 10)] rS λ(x2:B0)=>L.guard (((x1.size+x2.size:Nat):Int)≤Zr)<|K (.string (x1++x2)))<|L.new [.int .u8 (IntKind.wrap .u8 (Wi (48+p0)))] QW λb3=>L.sem Pr rS (convert VG Za (.slice (some ⟨b3,0,none⟩) 1 1)) λ(x4:B0)=>K (.string x4)
def ql(p0:Int)(h:Jl p0 K w):CV Zk [.v (.int .i64 p0)] K w:=Ze Tryz.f23 .auto _ h
def vQ(p0:B0)(K:Value→PT):PT:=
  L.new [I 0,I 0,I 0,.string s_] zf λb1=>L.store (⟨b1,0,none⟩) [I 0,I 4,I 0,.string p0]<|L.load (.agg [.int .i64,.int .i64,.int .i64,.str]) (⟨b1,0,none⟩) λ(x2:pt0)=>K (.agg #[I x2.1,I x2.2.1,I x2.2.2.1,.string x2.2.2.2.1])
def oJ(p0:B0)(h:vQ p0 K w):CV YB [.v (.string p0)] K w:=Ze Tryz.f24 .auto _ h
def XG(p0:Option Addr)(p1:Int)(p2:B0)(p3:ht0)(K:Value→PT):PT:=
  L.new [I p3.1,I p3.2.1,I p3.2.2.1,.string p3.2.2.2.1] zf λb1=>L.new [I 0,I 0,I 0,.string s_] zf λb2=>L.store (Ad6 b1 0) [I p1]<|L.draw<|L.nonnil p0 λa3=>L.load (.one (.map)) (a3.add 1) λ(x4:Option Nat)=>L.load eI6 (Ad6 b1 1) λ(x5:Int)=>L.semU Pr (Instr.mapUpdate zT (.map x4) (I p1) (.agg #[.string p2,I x5]))<|L.load (.agg [.int .i64,.int .i64,.int .i64,.str]) (⟨b1,0,none⟩) λ(x6:pt0)=>L.store (⟨b2,0,none⟩) [I x6.1,I x6.2.1,I x6.2.2.1,.string x6.2.2.2.1]<|L.load (.agg [.int .i64,.int .i64,.int .i64,.str]) (⟨b2,0,none⟩) λ(x7:pt0)=>K (.agg #[I x7.1,I x7.2.1,I x7.2.2.1,.string x7.2.2.2.1])
def UA(p0:Option Addr)(p1:Int)(p2:B0)(p3:ht0)(h:XG p0 p1 p2 p3 K w):CV zW [.v (.pointer p0),.v (.int .i64 p1),.v (.string p2),.ag (qc0 p3)] K w:=Ze Tryz.f25 .auto _ h
def xL:Ann:=(.q2 (.q2 .auto (some [])) none)
def je(p0:Option Addr)(p1:B0)(K:Value→PT):PT:=
  L.join (Y:=Unit) (λk1=>L.nonnil p0 λa3=>L.load (.one (.map)) (a3.add 0) λ(x4:Option Nat)=>L.semR Pr (.tup [eP6,.one .bool]) (Instr.lookup zA (.map x4) (.string p1) true) λ(x5:Option Addr×Bool×Unit)=>L.ite (!x5.2.1) (L.draw<|L.nonnil p0 λa6=>L.load (.one (.map)) (a6.add 0) λ(x7:Option Nat)=>L.nonnil p0 λa8=>L.load (.one (.func)) (a8.add 1) λ(x9:FV)=>L.callV Pr (.func x9.fn x9.fs x9.cs) [] rP λ(x10:Option Addr)=>L.chk (a6.add 0) [.map x7]<|L.semU Pr (Instr.mapUpdate zA (.map x7) (.string p1) (.pointer x10))<|k1 (()))<|k1 (())) λz2=>L.nonnil p0 λa11=>L.load (.one (.map)) (a11.add 0) λ(x12:Option Nat)=>L.semR Pr rP (Instr.lookup zA (.map x12) (.string p1) false) λ(x13:Option Addr)=>K (.pointer x13)
def xK(p0:Option Addr)(p1:B0)(h:je p0 p1 K w):CV ZV [.v (.pointer p0),.v (.string p1)] K w:=Ze Tryz.f26 xL _ h
def XC(p0:Option Addr)(K:Value→PT):PT:=
  L.nonnil p0 λa1=>L.load eL6 ((a1.add 0).add 0) λ(x2:Sl)=>K (I ((x2.len:Nat):Int))
def Uw(p0:Option Addr)(h:XC p0 K w):CV Yn [.v (.pointer p0)] K w:=Ze Tryz.f27 .auto _ h
def xX(p0:Option Addr)(p1:Int)(p2:B0)(K:Value→PT):PT:=
  L.new [I 0,I 0,I 0,.string s_] zf λb1=>L.nonnil p0 λa2=>L.load eP6 (a2.add 0) λ(x3:Option Addr)=>L.call Pr jq [.pointer x3,.string p2,I p1] (.tup [eI6,eB6]) λ(x4:Int×Bool×Unit)=>L.ite (!x4.2.1) (L.store (⟨b1,0,none⟩) [I 0,I 0,I 0,.string s_]<|L.load (.agg [.int .i64,.int .i64,.int .i64,.str]) (⟨b1,0,none⟩) λ(x5:pt0)=>K (.tuple #[.agg #[I x5.1,I x5.2.1,I x5.2.2.1,.string x5.2.2.2.1],.bool false]))<|L.call Pr zW [.pointer p0,I p1,.string p2,.agg #[I 0,I 1,I x4.1,.string s_]] (.one (.agg [.int .i64,.int .i64,.int .i64,.str])) λ(x6:pt0)=>L.store (⟨b1,0,none⟩) [I x6.1,I x6.2.1,I x6.2.2.1,.string x6.2.2.2.1]<|L.load (.agg [.int .i64,.int .i64,.int .i64,.str]) (⟨b1,0,none⟩) λ(x7:pt0)=>K (.tuple #[.agg #[I x7.1,I x7.2.1,I x7.2.2.1,.string x7.2.2.2.1],.bool true])
def uR(p0:Option Addr)(p1:Int)(p2:B0)(h:xX p0 p1 p2 K w):CV YO [.v (.pointer p0),.v (.int .i64 p1),.v (.string p2)] K w:=Ze Tryz.f28 .auto _ h
def xV(p0:Option Addr)(p1 p2:Int)(K:Value→PT):PT:=
  L.nonnil p0 λa1=>L.call Pr jp [.pointer (some (a1.add 0)),I p1] rB λ(x2:Bool)=>L.ite x2 (K (I 5))<|L.draw<|L.nonnil p0 λa3=>L.load eI6 (a3.add 1) λ(x4:Int)=>L.call Pr Yn [.pointer p0] rI λ(x5:Int)=>L.chk (a3.add 1) [I x4]<|L.ite (decide (x5≥x4)) (K (I 8))<|L.nonnil p0 λa6=>L.load eL6 ((a6.add 0).add 0) λ(x7:Sl)=>L.new [I p1,I p2] ZS λb8=>L.sem Pr (.one (.one .slice)) (Builtin.append_ #[zY,zY] zY #[Sv6 x7,.slice (some ⟨b8,0,none⟩) 1 1]) λ(s9:Sl)=>L.nonnil p0 λa10=>L.store ((a10.add 0).add 0) [Sv6 s9]<|K (I 0)
def uP(p0:Option Addr)(p1 p2:Int)(h:xV p0 p1 p2 K w):CV YN [.v (.pointer p0),.v (.int .i64 p1),.v (.int .i64 p2)] K w:=Ze Tryz.f29 .auto _ h
def Uf:Ann:=(.q2 (.q2 (.seq (.q2 (.q2 .auto (some [(11,eI6),(12,eP6)])) none) .auto none) none) none)
def Xe(p0:Option Addr)(p1:B0)(K:Value→PT):PT:=
  L.new [I 0] zk λb1=>L.store (⟨b1,0,none⟩) [I 0]<|L.call Pr yU [.pointer p0,.string p1] (.one (.one (.func))) λ(x2:FV)=>L.range Pr none (.func x2.fn x2.fs x2.cs) [eI6,eP6] (λl3(y4:Int×Option Addr×Unit) R5=>L.begin Pr l3<|L.call Pr Zn [.pointer y4.2.1] rI λ(x8:Int)=>L.ite (x8 != 3) (L.load eI6 (⟨b1,0,none⟩) λ(x9:Int)=>L.store (⟨b1,0,none⟩) [I (Wi (x9+1))]<|L.endRound Pr l3 none R5)<|L.endRound Pr l3 none R5) λd6 j7=>L.jump j7 (L.load eI6 (⟨b1,0,none⟩) λ(x10:Int)=>L.unmark Pr (d6++[])<|K (I x10)) (L.unmark Pr (d6++[])<|K (I 0)) []
def uY(p0:Option Addr)(p1:B0)(h:Xe p0 p1 K w):CV Jc [.v (.pointer p0),.v (.string p1)] K w:=Ze Tryz.f30 Uf _ h
def VL(p0:Int)(K:Value→PT):PT:=
  L.sem Pr (.one (.one .map)) (Instr.makeMap Zm none) λ(m1:Option Nat)=>L.new [I 1,.map m1,I p0] JP λb2=>K (.pointer (some (⟨b2,0,none⟩)))
def OS(p0:Int)(h:VL p0 K w):CV uw [.v (.int .i64 p0)] K w:=Ze Tryz.f31 .auto _ h
def qI:Ann:=(.q2 (.q2 (.seq (.q2 (.q2 (.q2 (.q2 (.cond .auto .auto) none) none) (some [(13,eI6),(14,eP6)])) none) .auto none) none) none)
def JA(p0:Option Addr)(p1:B0)(K:Value→PT):PT:=
  L.new [I 0] zk λb1=>L.new [I 0] zk λb2=>L.new [I 0] zk λb3=>L.store (⟨b1,0,none⟩) [I 0]<|L.store (⟨b2,0,none⟩) [I 3]<|L.store (⟨b3,0,none⟩) [I 0]<|L.call Pr yU [.pointer p0,.string p1] (.one (.one (.func))) λ(x4:FV)=>L.range Pr none (.func x4.fn x4.fs x4.cs) [eI6,eP6] (λl5(y6:Int×Option Addr×Unit) R7=>L.begin Pr l5<|L.call Pr Zn [.pointer y6.2.1] rI λ(x10:Int)=>L.ite (x10 == 3) (L.endRound Pr l5 none R7)<|L.draw<|L.load eI6 (⟨b2,0,none⟩) λ(x11:Int)=>L.call Pr Zn [.pointer y6.2.1] rI λ(x12:Int)=>L.chk (⟨b2,0,none⟩) [I x11]<|L.ite (decide (x12<x11)) (L.call Pr Zn [.pointer y6.2.1] rI λ(x13:Int)=>L.call Pr ZW [.pointer y6.2.1] rI λ(x14:Int)=>L.store (⟨b1,0,none⟩) [I y6.1]<|L.store (⟨b2,0,none⟩) [I x13]<|L.store (⟨b3,0,none⟩) [I x14]<|L.endRound Pr l5 none R7)<|L.load eI6 (⟨b2,0,none⟩) λ(x15:Int)=>L.call Pr Zn [.pointer y6.2.1] rI λ(x16:Int)=>L.chk (⟨b2,0,none⟩) [I x15]<|L.ite (x16 == x15) (L.load eI6 (⟨b3,0,none⟩) λ(x17:Int)=>L.call Pr ZW [.pointer y6.2.1] rI λ(x18:Int)=>L.chk (⟨b3,0,none⟩) [I x17]<|L.ite (decide (x18≤x17)) (L.call Pr Zn [.pointer y6.2.1] rI λ(x19:Int)=>L.call Pr ZW [.pointer y6.2.1] rI λ(x20:Int)=>L.store (⟨b1,0,none⟩) [I y6.1]<|L.store (⟨b2,0,none⟩) [I x19]<|L.store (⟨b3,0,none⟩) [I x20]<|L.endRound Pr l5 none R7)<|L.endRound Pr l5 none R7)<|L.endRound Pr l5 none R7) λd8 j9=>L.jump j9 (L.load eI6 (⟨b1,0,none⟩) λ(x21:Int)=>L.unmark Pr (d8++[])<|K (I x21)) (L.unmark Pr (d8++[])<|K (I 0)) []
def qE(p0:Option Addr)(p1:B0)(h:JA p0 p1 K w):CV YX [.v (.pointer p0),.v (.string p1)] K w:=Ze Tryz.f32 qI _ h
def UD:Ann:=(.q2 (.seq (.q2 (.cond .auto .auto) none) .auto (some [])) none)
def XF(p0:Option Addr)(K:Value→PT):PT:=
  L.join (Y:=Unit) (λk1=>L.nonnil p0 λa3=>L.load eI6 (a3.add 0) λ(x4:Int)=>L.ite (x4 != 1) (L.nonnil p0 λa5=>L.load eI6 (a5.add 0) λ(x6:Int)=>L.ite (x6 != 2) (K (I 9))<|k1 (()))<|k1 (())) λz2=>L.nonnil p0 λa7=>L.store (a7.add 0) [I 3]<|L.call Pr Jg [.pointer p0] (.tup []) λ(x8:Unit)=>K (I 0)
def Uz(p0:Option Addr)(h:XF p0 K w):CV Jn [.v (.pointer p0)] K w:=Ze Tryz.f33 UD _ h
def xH(p0:Option Addr)(p1:Int)(K:Value→PT):PT:=
  L.nonnil p0 λa1=>L.load (.one (.map)) (a1.add 0) λ(x2:Option Nat)=>L.semR Pr (.one (.agg [.str,.ptr])) (Instr.lookup zt (.map x2) (I p1) false) λ(x3:B0×Option Addr×Unit)=>L.call Pr Zn [.pointer x3.2.1] rI λ(x4:Int)=>L.ite (x4 == 4) (L.nonnil p0 λa5=>L.load (.one (.map)) (a5.add 0) λ(x6:Option Nat)=>L.sem Pr (.tup []) (Builtin.delete_ #[zt,zk] T_ #[.map x6,I p1]) λ_=>K (.tuple #[]))<|K (.tuple #[])
def ub(p0:Option Addr)(p1:Int)(h:xH p0 p1 K w):CV yD [.v (.pointer p0),.v (.int .i64 p1)] K w:=Ze Tryz.f34 .auto _ h
def Yj(p0:Sl)(K:Value→PT):PT:=
  L.ite ((p0.a).isNone) (K (.slice none 0 0))<|L.new [] zk λb1=>L.sem Pr (.one (.one .slice)) (Builtin.append_ #[zQ,zQ] zQ #[.slice (some ⟨b1,0,none⟩) 0 0,Sv6 p0]) λ(s2:Sl)=>K (.slice s2.a s2.len s2.cap)
def jS(p0:Sl)(h:Yj p0 K w):CV zJ [.v (.slice p0.a p0.len p0.cap)] K w:=Ze Tryz.f35 .auto _ h
def QY(p0:Option Addr)(K:Value→PT):PT:=
  L.nonnil p0 λa1=>L.load eI6 (a1.add 0) λ(x2:Int)=>L.ite (x2 != 1) (K (I 9))<|L.nonnil p0 λa3=>L.store (a3.add 0) [I 2]<|K (I 0)
def kH(p0:Option Addr)(h:QY p0 K w):CV Xp [.v (.pointer p0)] K w:=Ze Tryz.f36 .auto _ h
def UC:Ann:=(.q2 (.q2 (.seq (.q2 (.q2 .auto (some [(12,eI6),(13,eI6)])) none) .auto none) none) none)
def XD(p0:Option Addr)(K:Value→PT):PT:=
  L.call Pr Yn [.pointer p0] rI λ(x1:Int)=>L.sem Pr (.one (.one .slice)) (Instr.makeSlice zQ (I 0) (I x1)) λ(s2:Sl)=>L.new [.slice none 0 0] zQ λb3=>L.store (⟨b3,0,none⟩) [Sv6 s2]<|L.nonnil p0 λa4=>L.call Pr ZM [.pointer (some (a4.add 0))] (.one (.one (.func))) λ(x5:FV)=>L.range Pr none (.func x5.fn x5.fs x5.cs) [eI6,eI6] (λl6(y7:Int×Int×Unit) R8=>L.begin Pr l6<|L.load eL6 (⟨b3,0,none⟩) λ(x11:Sl)=>L.new [I y7.1] zk λb12=>L.sem Pr (.one (.one .slice)) (Builtin.append_ #[zQ,zQ] zQ #[Sv6 x11,.slice (some ⟨b12,0,none⟩) 1 1]) λ(s13:Sl)=>L.store (⟨b3,0,none⟩) [Sv6 s13]<|L.endRound Pr l6 none R8) λd9 j10=>L.jump j10 (L.load eL6 (⟨b3,0,none⟩) λ(x14:Sl)=>L.unmark Pr (d9++[])<|K (.slice x14.a x14.len x14.cap)) (L.unmark Pr (d9++[])<|K (.slice none 0 0)) []
def Ux(p0:Option Addr)(h:XD p0 K w):CV jn [.v (.pointer p0)] K w:=Ze Tryz.f37 UC _ h
def UB:Ann:=(.q2 (.seq (.q2 (.q2 .auto (some [(9,eI6),(10,eI6)])) none) .auto none) none)
def XB(p0:Option Addr)(K:Value→PT):PT:=
  L.new [.pointer p0] yL λb1=>L.new [I 0] zk λb2=>L.new [.bool false] Yi λb3=>L.load eP6 (⟨b1,0,none⟩) λ(x4:Option Addr)=>L.nonnil x4 λa5=>L.call Pr ZM [.pointer (some (a5.add 0))] (.one (.one (.func))) λ(x6:FV)=>L.range Pr none (.func x6.fn x6.fs x6.cs) [eI6,eI6] (λl7(y8:Int×Int×Unit) R9=>L.begin Pr l7<|L.draw<|L.load eP6 (⟨b1,0,none⟩) λ(x12:Option Addr)=>L.load eP6 (⟨b1,0,none⟩) λ(x13:Option Addr)=>L.nonnil x13 λa14=>L.load eL6 ((a14.add 0).add 0) λ(x15:Sl)=>L.guard (0≤(1:Int)∧(1:Int)≤((x15.len:Nat):Int)∧((x15.len:Nat):Int)≤((x15.cap:Nat):Int)∧((x15.cap:Nat):Int)≤x15.cap)<|L.nonnil x12 λa16=>L.store ((a16.add 0).add 0) [.slice (if Int.toNat ((x15.cap:Nat):Int)=Int.toNat (1:Int)then x15.a else Option.map (λa:Addr=>a.add (Int.toNat (1:Int)*2)) x15.a) (Int.toNat ((x15.len:Nat):Int)-Int.toNat (1:Int)) (Int.toNat ((x15.cap:Nat):Int)-Int.toNat (1:Int))]<|L.store (⟨b2,0,none⟩) [I y8.1]<|L.store (⟨b3,0,none⟩) [.bool true]<|L.endRound Pr l7 (some .ret) R9) λd10 j11=>L.jump j11 (L.store (⟨b2,0,none⟩) [I 0]<|L.store (⟨b3,0,none⟩) [.bool false]<|L.unmark Pr (d10++[])<|L.load eI6 (⟨b2,0,none⟩) λ(x17:Int)=>L.load eB6 (⟨b3,0,none⟩) λ(x18:Bool)=>K (.tuple #[I x17,.bool x18])) (L.unmark Pr (d10++[])<|L.load eI6 (⟨b2,0,none⟩) λ(x19:Int)=>L.load eB6 (⟨b3,0,none⟩) λ(x20:Bool)=>K (.tuple #[I x19,.bool x20])) []
def Uv(p0:Option Addr)(h:XB p0 K w):CV Jm [.v (.pointer p0)] K w:=Ze Tryz.f38 UB _ h
def yw(p0:Sl)(K:Value→PT):PT:=
  L.ite ((p0.a).isNone) (K (.slice none 0 0))<|L.new [] zf λb1=>L.sem Pr (.one (.one .slice)) (Builtin.append_ #[zn,zn] zn #[.slice (some ⟨b1,0,none⟩) 0 0,Sv6 p0]) λ(s2:Sl)=>K (.slice s2.a s2.len s2.cap)
def ju(p0:Sl)(h:yw p0 K w):CV zL [.v (.slice p0.a p0.len p0.cap)] K w:=Ze Tryz.f39 .auto _ h
def YH(p0:Option Addr)(K:Value→PT):PT:=
  L.new [.pointer p0] zy λb1=>K (.func (.func Zd) #[] #[.pointer (some (⟨b1,0,none⟩))])
def xp(p0:Option Addr)(h:YH p0 K w):CV YC [.v (.pointer p0)] K w:=Ze Tryz.f40 .auto _ h
def xW(p0:Option Addr)(p1:Int)(K:Value→PT):PT:=
  L.nonnil p0 λa1=>L.call Pr Jv [.pointer (some (a1.add 0)),I p1] rL λ(x2:Sl)=>K (.slice x2.a x2.len x2.cap)
def uQ(p0:Option Addr)(p1:Int)(h:xW p0 p1 K w):CV Ja [.v (.pointer p0),.v (.int .i64 p1)] K w:=Ze Tryz.f41 .auto _ h
def xm(p0:Option Addr)(p1:Int)(K:Value→PT):PT:=
  L.nonnil p0 λa1=>L.load (.one (.map)) (a1.add 1) λ(x2:Option Nat)=>L.semR Pr (.tup [eI6,.one .bool]) (Instr.lookup zw (.map x2) (I p1) true) λ(x3:Int×Bool×Unit)=>L.ite (!x3.2.1) (K (.tuple #[.string s_,I 6]))<|L.nonnil p0 λa4=>L.load (.one (.map)) (a4.add 0) λ(x5:Option Nat)=>L.semR Pr (.one (.agg [.str,.ptr])) (Instr.lookup zt (.map x5) (I x3.1) false) λ(x6:B0×Option Addr×Unit)=>L.new [.string s_,.pointer none] Ya λb7=>L.store (⟨b7,0,none⟩) [.string x6.1,.pointer x6.2.1]<|L.load eP6 (Ad6 b7 1) λ(x8:Option Addr)=>L.call Pr jL [.pointer x8,I p1] rI λ(x9:Int)=>L.nonnil p0 λa10=>L.load (.one (.map)) (a10.add 1) λ(x11:Option Nat)=>L.sem Pr (.tup []) (Builtin.delete_ #[zw,zk] T_ #[.map x11,I p1]) λ_=>L.call Pr yD [.pointer p0,I x3.1] (.tup []) λ(x12:Unit)=>L.load eS6 (Ad6 b7 0) λ(x13:B0)=>K (.tuple #[.string x13,I 0])
def Qr(p0:Option Addr)(p1:Int)(h:xm p0 p1 K w):CV js [.v (.pointer p0),.v (.int .i64 p1)] K w:=Ze Tryz.f42 .auto _ h
def vW:Ann:=(.q2 (.q2 (.q2 (.seq (.q2 (.one [(21,eI6)] .auto) none) .auto none) none) none) none)
def qd(p0:Option Addr)(K:Value→PT):PT:=
  L.nonnil p0 λa1=>L.load eI6 (a1.add 0) λ(x2:Int)=>L.ite (x2 == 4) (K (.tuple #[.slice none 0 0,I 9]))<|L.nonnil p0 λa3=>L.load (.one (.map)) ((a3.add 1).add 0) λ(x4:Option Nat)=>L.call Pr ZH [.map x4] (.one (.one (.func))) λ(x5:FV)=>L.call Pr ZN [.func x5.fn x5.fs x5.cs] rL λ(x6:Sl)=>L.call Pr zJ [Sv6 x6] rL λ(x7:Sl)=>L.loop (Y:=Int×Unit) (0,()) λy8 again9=>L.ite (decide (y8.1<((x7.len:Nat):Int))) (L.idx x7.a y8.1 x7.len 1 λa10=>L.load eI6 a10 λ(x11:Int)=>L.nonnil p0 λa12=>L.call Pr Yc [.pointer (some (a12.add 1)),I x11] rI λ(x13:Int)=>again9 (Wi (y8.1+1),()))<|L.nonnil p0 λa14=>L.store (a14.add 0) [I 4]<|K (.tuple #[Sv6 x7,I 0])
def vU(p0:Option Addr)(h:qd p0 K w):CV jK [.v (.pointer p0)] K w:=Ze Tryz.f43 vW _ h
def Qy:Ann:=(.q2 (.q2 (.q2 (.seq (.q2 (.q2 .auto (some [(28,eI6),(29,eP6)])) none) (.q2 (.seq (.q2 (.one [(41,eI6)] .auto) none) .auto none) none) none) none) none) none)
def xk(p0:Option Addr)(p1:B0)(p2:Int)(K:Value→PT):PT:=
  L.nonnil p0 λa1=>L.load (.one (.map)) (a1.add 1) λ(x2:Option Nat)=>L.semR Pr (.tup [eI6,.one .bool]) (Instr.lookup zw (.map x2) (I p2) true) λ(x3:Int×Bool×Unit)=>L.ite x3.2.1 (K (.tuple #[I 0,.bool false]))<|L.new [.slice none 0 0] zR λb4=>L.call Pr yU [.pointer p0,.string p1] (.one (.one (.func))) λ(x5:FV)=>L.range Pr none (.func x5.fn x5.fs x5.cs) [eI6,eP6] (λl6(y7:Int×Option Addr×Unit) R8=>L.begin Pr l6<|L.draw<|L.load eL6 (⟨b4,0,none⟩) λ(x11:Sl)=>L.call Pr ZW [.pointer y7.2.1] rI λ(x12:Int)=>L.chk (⟨b4,0,none⟩) [Sv6 x11]<|L.new [I x12,I y7.1] zd λb13=>L.chk (⟨b4,0,none⟩) [Sv6 x11]<|L.sem Pr (.one (.one .slice)) (Builtin.append_ #[zR,zR] zR #[Sv6 x11,.slice (some ⟨b13,0,none⟩) 1 1]) λ(s14:Sl)=>L.store (⟨b4,0,none⟩) [Sv6 s14]<|L.endRound Pr l6 none R8) λd9 j10=>L.jump j10 (L.load eL6 (⟨b4,0,none⟩) λ(x15:Sl)=>L.call Pr zD [Sv6 x15,.func (.func zu) #[] #[]] (.tup []) λ(x16:Unit)=>L.load eL6 (⟨b4,0,none⟩) λ(x17:Sl)=>L.loop (Y:=Int×Unit) (0,()) λy18 again19=>L.ite (decide (y18.1<((x17.len:Nat):Int))) (L.idx x17.a y18.1 x17.len 2 λa20=>L.load (.agg [.int .i64,.int .i64]) a20 λ(x21:Int×Int×Unit)=>L.new [I 0,I 0] zd λb22=>L.store (⟨b22,0,none⟩) [I x21.1,I x21.2.1]<|L.draw<|L.nonnil p0 λa23=>L.load (.one (.map)) (a23.add 0) λ(x24:Option Nat)=>L.load eI6 (Ad6 b22 1) λ(x25:Int)=>L.semR Pr (.one (.agg [.str,.ptr])) (Instr.lookup zt (.map x24) (I x25) false) λ(x26:B0×Option Addr×Unit)=>L.call Pr jJ [.pointer x26.2.1,I p2] rI λ(x27:Int)=>L.ite (x27 == 0) (L.draw<|L.nonnil p0 λa28=>L.load (.one (.map)) (a28.add 1) λ(x29:Option Nat)=>L.load eI6 (Ad6 b22 1) λ(x30:Int)=>L.semU Pr (Instr.mapUpdate zw (.map x29) (I p2) (I x30))<|L.load eI6 (Ad6 b22 1) λ(x31:Int)=>L.unmark Pr (d9++[])<|K (.tuple #[I x31,.bool true]))<|again19 (Wi (y18.1+1),()))<|L.unmark Pr (d9++[])<|K (.tuple #[I 0,.bool false])) (L.unmark Pr (d9++[])<|K (.tuple #[I 0,.bool false])) []
def Qp(p0:Option Addr)(p1:B0)(p2:Int)(h:xk p0 p1 p2 K w):CV jq [.v (.pointer p0),.v (.string p1),.v (.int .i64 p2)] K w:=Ze Tryz.f45 Qy _ h
def Qt:Ann:=(.q2 (.seq (.q2 (.q2 .auto (some [(8,eI6),(9,eI6)])) none) .auto none) none)
def xd(p0:Option Addr)(p1:Int)(K:Value→PT):PT:=
  L.new [I p1] zk λb1=>L.new [.bool false] Yi λb2=>L.call Pr ZM [.pointer p0] (.one (.one (.func))) λ(x3:FV)=>L.range Pr none (.func x3.fn x3.fs x3.cs) [eI6,eI6] (λl4(y5:Int×Int×Unit) R6=>L.begin Pr l4<|L.load eI6 (⟨b1,0,none⟩) λ(x9:Int)=>L.ite (y5.1 == x9) (L.store (⟨b2,0,none⟩) [.bool true]<|L.endRound Pr l4 (some .ret) R6)<|L.endRound Pr l4 none R6) λd7 j8=>L.jump j8 (L.store (⟨b2,0,none⟩) [.bool false]<|L.unmark Pr (d7++[])<|L.load eB6 (⟨b2,0,none⟩) λ(x10:Bool)=>K (.bool x10)) (L.unmark Pr (d7++[])<|L.load eB6 (⟨b2,0,none⟩) λ(x11:Bool)=>K (.bool x11)) []
def Qj(p0:Option Addr)(p1:Int)(h:xd p0 p1 K w):CV jp [.v (.pointer p0),.v (.int .i64 p1)] K w:=Ze Tryz.f46 Qt _ h
def Xf(p0:Option Addr)(p1:B0)(K:Value→PT):PT:=
  L.new [.pointer p0] zS λb1=>L.new [.string p1] Za λb2=>K (.func (.func yr) #[] #[.pointer (some (⟨b1,0,none⟩)),.pointer (some (⟨b2,0,none⟩))])
def uZ(p0:Option Addr)(p1:B0)(h:Xf p0 p1 K w):CV yU [.v (.pointer p0),.v (.string p1)] K w:=Ze Tryz.f47 .auto _ h
def XE(p0:Option Addr)(K:Value→PT):PT:=
  L.nonnil p0 λa1=>L.load eI6 (a1.add 0) λ(x2:Int)=>K (I x2)
def Uy(p0:Option Addr)(h:XE p0 K w):CV Zn [.v (.pointer p0)] K w:=Ze Tryz.f48 .auto _ h
def xf(p0:Option Addr)(K:Value→PT):PT:=
  L.nonnil p0 λa1=>L.load (.one (.map)) ((a1.add 1).add 0) λ(x2:Option Nat)=>L.semR Pr rI (Builtin.len_ #[Zm] zk #[.map x2]) λ(x3:Int)=>K (I x3)
def qi(p0:Option Addr)(h:xf p0 K w):CV ZW [.v (.pointer p0)] K w:=Ze Tryz.f49 .auto _ h
def Vf:Ann:=(.q2 (.cond .auto .auto) none)
def qT(p0:Option Addr)(K:Value→PT):PT:=
  L.nonnil p0 λa1=>L.load eI6 (a1.add 0) λ(x2:Int)=>L.ite (x2 == 3) (L.call Pr ZW [.pointer p0] rI λ(x3:Int)=>L.ite (x3 == 0) (L.nonnil p0 λa4=>L.store (a4.add 0) [I 4]<|K (.tuple #[]))<|K (.tuple #[]))<|K (.tuple #[])
def Ve(p0:Option Addr)(h:qT p0 K w):CV Jg [.v (.pointer p0)] K w:=Ze Tryz.f50 Vf _ h
def Jy(p0:Option Addr)(K:Value→PT):PT:=
  L.new [.pointer p0] yW λb1=>K (.func (.func ZT) #[] #[.pointer (some (⟨b1,0,none⟩))])
def qC(p0:Option Addr)(h:Jy p0 K w):CV ZM [.v (.pointer p0)] K w:=Ze Tryz.f51 .auto _ h
def Jt:Ann:=(.q2 (.one [(12,eI6)] .auto) none)
def Ys(p0:FV)(c0:Addr)(K:Value→PT):PT:=
  L.load eP6 c0 λ(x1:Option Addr)=>L.nonnil x1 λa2=>L.load (.one (.map)) (a2.add 0) λ(x3:Option Nat)=>L.call Pr zO [.map x3] (.one (.one (.func))) λ(x4:FV)=>L.call Pr yc [.func x4.fn x4.fs x4.cs] rL λ(x5:Sl)=>L.loop (Y:=Int×Unit) (0,()) λy6 again7=>L.ite (decide (y6.1<((x5.len:Nat):Int))) (L.idx x5.a y6.1 x5.len 1 λa8=>L.load eS6 a8 λ(x9:B0)=>L.load eP6 c0 λ(x10:Option Addr)=>L.nonnil x10 λa11=>L.load (.one (.map)) (a11.add 0) λ(x12:Option Nat)=>L.semR Pr rP (Instr.lookup zA (.map x12) (.string x9) false) λ(x13:Option Addr)=>L.callV Pr (.func p0.fn p0.fs p0.cs) [.string x9,.pointer x13] rB λ(x14:Bool)=>L.ite (!x14) (K (.tuple #[]))<|again7 (Wi (y6.1+1),()))<|K (.tuple #[])
def Js(p0:FV)(c0:Addr)(h:Ys p0 c0 K w):CV Zd [.v (.func p0.fn p0.fs p0.cs),.v (.pointer (some c0))] K w:=Ze Tryz.f52 Jt _ h
def Jr:jR Pr Zd:=yZ (by kernel_rfl)
def jP(p0:FV)(K:Value→PT):PT:=
  L.call Pr jx [.func p0.fn p0.fs p0.cs] rL λ(x1:Sl)=>L.call Pr Yy [Sv6 x1] (.tup []) λ(x2:Unit)=>K (.slice x1.a x1.len x1.cap)
def Xu(p0:FV)(h:jP p0 K w):CV yc [.v (.func p0.fn p0.fs p0.cs)] K w:=Ze Tryz.f53 .auto _ h
def Zo(p0:Option Nat)(K:Value→PT):PT:=
  L.new [.map p0] zA λb1=>K (.func (.func zm) #[] #[.pointer (some (⟨b1,0,none⟩))])
def yy(p0:Option Nat)(h:Zo p0 K w):CV zO [.v (.map p0)] K w:=Ze Tryz.f54 .auto _ h
def qH:Ann:=(.q2 (.q2 (.q2 (.seq (.q2 (.q2 .auto (some [(11,eI6),(12,eI6)])) none) .auto none) none) none) none)
def Jx(p0:Option Addr)(p1:Int)(K:Value→PT):PT:=
  L.new [I p1] zk λb1=>L.new [.slice none 0 0] zQ λb2=>L.new [.slice none 0 0] zY λb3=>L.call Pr ZM [.pointer p0] (.one (.one (.func))) λ(x4:FV)=>L.range Pr none (.func x4.fn x4.fs x4.cs) [eI6,eI6] (λl5(y6:Int×Int×Unit) R7=>L.begin Pr l5<|L.load eI6 (⟨b1,0,none⟩) λ(x10:Int)=>L.ite (decide (y6.2.1≤x10)) (L.load eL6 (⟨b2,0,none⟩) λ(x11:Sl)=>L.new [I y6.1] zk λb12=>L.sem Pr (.one (.one .slice)) (Builtin.append_ #[zQ,zQ] zQ #[Sv6 x11,.slice (some ⟨b12,0,none⟩) 1 1]) λ(s13:Sl)=>L.store (⟨b2,0,none⟩) [Sv6 s13]<|L.endRound Pr l5 none R7)<|L.load eL6 (⟨b3,0,none⟩) λ(x14:Sl)=>L.new [I y6.1,I y6.2.1] ZS λb15=>L.sem Pr (.one (.one .slice)) (Builtin.append_ #[zY,zY] zY #[Sv6 x14,.slice (some ⟨b15,0,none⟩) 1 1]) λ(s16:Sl)=>L.store (⟨b3,0,none⟩) [Sv6 s16]<|L.endRound Pr l5 none R7) λd8 j9=>L.jump j9 (L.load eL6 (⟨b3,0,none⟩) λ(x17:Sl)=>L.nonnil p0 λa18=>L.store (a18.add 0) [Sv6 x17]<|L.load eL6 (⟨b2,0,none⟩) λ(x19:Sl)=>L.call Pr zJ [Sv6 x19] rL λ(x20:Sl)=>L.unmark Pr (d8++[])<|K (.slice x20.a x20.len x20.cap)) (L.unmark Pr (d8++[])<|K (.slice none 0 0)) []
def qB(p0:Option Addr)(p1:Int)(h:Jx p0 p1 K w):CV Jv [.v (.pointer p0),.v (.int .i64 p1)] K w:=Ze Tryz.f55 qH _ h
def qe(p0:Option Addr)(p1:Int)(K:Value→PT):PT:=
  L.nonnil p0 λa1=>L.call Pr Yc [.pointer (some (a1.add 1)),I p1] rI λ(x2:Int)=>L.call Pr Jg [.pointer p0] (.tup []) λ(x3:Unit)=>K (I x2)
def vV(p0:Option Addr)(p1:Int)(h:qe p0 p1 K w):CV jL [.v (.pointer p0),.v (.int .i64 p1)] K w:=Ze Tryz.f56 .auto _ h
def Jz(p0:FV)(K:Value→PT):PT:=
  L.call Pr Jh [.func p0.fn p0.fs p0.cs] rL λ(x1:Sl)=>L.call Pr Yu [Sv6 x1] (.tup []) λ(x2:Unit)=>K (.slice x1.a x1.len x1.cap)
def qD(p0:FV)(h:Jz p0 K w):CV ZN [.v (.func p0.fn p0.fs p0.cs)] K w:=Ze Tryz.f57 .auto _ h
def yA(p0:Option Nat)(K:Value→PT):PT:=
  L.new [.map p0] Zm λb1=>K (.func (.func zE) #[] #[.pointer (some (⟨b1,0,none⟩))])
def jD(p0:Option Nat)(h:yA p0 K w):CV ZH [.v (.map p0)] K w:=Ze Tryz.f58 .auto _ h
def xe(p0:Option Addr)(p1:Int)(K:Value→PT):PT:=
  L.nonnil p0 λa1=>L.load (.one (.map)) (a1.add 0) λ(x2:Option Nat)=>L.semR Pr rB (Instr.lookup Zm (.map x2) (I p1) false) λ(x3:Bool)=>L.ite (!x3) (K (I 6))<|L.nonnil p0 λa4=>L.load (.one (.map)) (a4.add 0) λ(x5:Option Nat)=>L.sem Pr (.tup []) (Builtin.delete_ #[Zm,zk] T_ #[.map x5,I p1]) λ_=>K (I 0)
def Qk(p0:Option Addr)(p1:Int)(h:xe p0 p1 K w):CV Yc [.v (.pointer p0),.v (.int .i64 p1)] K w:=Ze Tryz.f59 .auto _ h
def zP(p0:Sl)(p1:FV)(K:Value→PT):PT:=
  L.call Pr yd [Sv6 p0,I ((p0.len:Nat):Int),.func p1.fn p1.fs p1.cs] (.tup []) λ(x1:Unit)=>K (.tuple #[])
def Zp(p0:Sl)(p1:FV)(h:zP p0 p1 K w):CV zD [.v (.slice p0.a p0.len p0.cap),.v (.func p1.fn p1.fs p1.cs)] K w:=Ze Tryz.f62 .auto _ h
def Jj(p0 p1:HT [.int .i64,.int .i64])(K:Value→PT):PT:=
  L.new [I p0.1,I p0.2.1] zd λb1=>L.new [I p1.1,I p1.2.1] zd λb2=>L.load eI6 (Ad6 b1 0) λ(x3:Int)=>L.load eI6 (Ad6 b2 0) λ(x4:Int)=>K (I (Wi (x3-x4)))
def qj(p0 p1:HT [.int .i64,.int .i64])(h:Jj p0 p1 K w):CV zu [.ag [.int .i64 p0.1,.int .i64 p0.2.1],.ag [.int .i64 p1.1,.int .i64 p1.2.1]] K w:=Ze Tryz.f63 .auto _ h
def qg:jR Pr zu:=yZ (by kernel_rfl)
def qc(p0:Option Addr)(p1:Int)(K:Value→PT):PT:=
  L.nonnil p0 λa1=>L.load eI6 (a1.add 0) λ(x2:Int)=>L.ite (x2 != 2) (K (I 9))<|L.nonnil p0 λa3=>L.call Pr xB [.pointer (some (a3.add 1)),I p1] rI λ(x4:Int)=>K (I x4)
def vT(p0:Option Addr)(p1:Int)(h:qc p0 p1 K w):CV jJ [.v (.pointer p0),.v (.int .i64 p1)] K w:=Ze Tryz.f64 .auto _ h
def Qx:Ann:=(.q2 (.one [(14,eI6)] (.q2 (.q2 (.seq (.q2 (.q2 (.q2 (.cond .auto .auto) none) none) none) .auto (some [])) none) none)) none)
def xj(p0:FV)(c0:Addr)(c1:Addr)(K:Value→PT):PT:=
  L.load eP6 c0 λ(x1:Option Addr)=>L.nonnil x1 λa2=>L.load (.one (.map)) (a2.add 0) λ(x3:Option Nat)=>L.call Pr zZ [.map x3] (.one (.one (.func))) λ(x4:FV)=>L.call Pr ZN [.func x4.fn x4.fs x4.cs] rL λ(x5:Sl)=>L.loop (Y:=Int×Unit) (0,()) λy6 again7=>L.ite (decide (y6.1<((x5.len:Nat):Int))) (L.join (Y:=Unit) (λk8=>L.idx x5.a y6.1 x5.len 1 λa10=>L.load eI6 a10 λ(x11:Int)=>L.load eP6 c0 λ(x12:Option Addr)=>L.nonnil x12 λa13=>L.load (.one (.map)) (a13.add 0) λ(x14:Option Nat)=>L.semR Pr (.one (.agg [.str,.ptr])) (Instr.lookup zt (.map x14) (I x11) false) λ(x15:B0×Option Addr×Unit)=>L.new [.string s_,.pointer none] Ya λb16=>L.store (⟨b16,0,none⟩) [.string x15.1,.pointer x15.2.1]<|L.load eS6 (Ad6 b16 0) λ(x17:B0)=>L.load eS6 c1 λ(x18:B0)=>L.ite (x17.toList == x18.toList) (L.load eP6 (Ad6 b16 1) λ(x19:Option Addr)=>L.callV Pr (.func p0.fn p0.fs p0.cs) [I x11,.pointer x19] rB λ(x20:Bool)=>L.ite (!x20) (K (.tuple #[]))<|k8 (()))<|k8 (())) λz9=>again7 (Wi (y6.1+1),()))<|K (.tuple #[])
def Qo(p0:FV)(c0 c1:Addr)(h:xj p0 c0 c1 K w):CV yr [.v (.func p0.fn p0.fs p0.cs),.v (.pointer (some c0)),.v (.pointer (some c1))] K w:=Ze Tryz.f65 Qx _ h
def Qi:jR Pr yr:=yZ (by kernel_rfl)
def ZI(p0:Option Nat)(K:Value→PT):PT:=
  L.new [.map p0] zt λb1=>K (.func (.func zq) #[] #[.pointer (some (⟨b1,0,none⟩))])
def yY(p0:Option Nat)(h:ZI p0 K w):CV zZ [.v (.map p0)] K w:=Ze Tryz.f66 .auto _ h
def XL:Ann:=(.q2 (.one [(10,eI6)] .auto) none)
def jV(p0:FV)(c0:Addr)(K:Value→PT):PT:=
  L.load eP6 c0 λ(x1:Option Addr)=>L.nonnil x1 λa2=>L.load eL6 (a2.add 0) λ(x3:Sl)=>L.loop (Y:=Int×Unit) (0,()) λy4 again5=>L.ite (decide (y4.1<((x3.len:Nat):Int))) (L.idx x3.a y4.1 x3.len 2 λa6=>L.load (.agg [.int .i64,.int .i64]) a6 λ(x7:Int×Int×Unit)=>L.new [I 0,I 0] ZS λb8=>L.store (⟨b8,0,none⟩) [I x7.1,I x7.2.1]<|L.load eI6 (Ad6 b8 0) λ(x9:Int)=>L.load eI6 (Ad6 b8 1) λ(x10:Int)=>L.callV Pr (.func p0.fn p0.fs p0.cs) [I x9,I x10] rB λ(x11:Bool)=>L.ite (!x11) (K (.tuple #[]))<|again5 (Wi (y4.1+1),()))<|K (.tuple #[])
def XJ(p0:FV)(c0:Addr)(h:jV p0 c0 K w):CV ZT [.v (.func p0.fn p0.fs p0.cs),.v (.pointer (some c0))] K w:=Ze Tryz.f67 XL _ h
def XI:jR Pr ZT:=yZ (by kernel_rfl)
def jA(p0:FV)(K:Value→PT):PT:=
  L.call Pr ZK [.slice none 0 0,.func p0.fn p0.fs p0.cs] rL λ(x1:Sl)=>K (.slice x1.a x1.len x1.cap)
def Xh(p0:FV)(h:jA p0 K w):CV jx [.v (.func p0.fn p0.fs p0.cs)] K w:=Ze Tryz.f68 .auto _ h
def ym:Ann:=(.q2 (.one [] (.q2 (.seq (.cond .auto .auto) .auto none) none)) none)
def Zh(p0:FV)(c0:Addr)(K:Value→PT):PT:=
  L.load (.one (.map)) c0 λ(x1:Option Nat)=>L.sem Pr (.one (.one .ptr)) (Instr.range zA (.map x1)) λ(it2:Option Addr)=>L.loop (Y:=Unit) (()) λy3 again4=>L.next Pr [eS6,eP6] (Instr.next (.pointer it2) false T_) (K (.tuple #[])) λ(x5:B0×Option Addr×Unit)=>L.sem Pr (.tup [eS6,eP6]) (Instr.entry (.pointer it2)) λ(x6:B0×Option Addr×Unit)=>L.callV Pr (.func p0.fn p0.fs p0.cs) [.string x6.1] rB λ(x7:Bool)=>L.ite (!x7) (K (.tuple #[]))<|again4 (())
def yl(p0:FV)(c0:Addr)(h:Zh p0 c0 K w):CV zm [.v (.func p0.fn p0.fs p0.cs),.v (.pointer (some c0))] K w:=Ze Tryz.f70 ym _ h
def yk:jR Pr zm:=yZ (by kernel_rfl)
def Ji(p0:FV)(K:Value→PT):PT:=
  L.call Pr yq [.slice none 0 0,.func p0.fn p0.fs p0.cs] rL λ(x1:Sl)=>K (.slice x1.a x1.len x1.cap)
def qh(p0:FV)(h:Ji p0 K w):CV Jh [.v (.func p0.fn p0.fs p0.cs)] K w:=Ze Tryz.f71 .auto _ h
def jk:Ann:=(.q2 (.one [] (.q2 (.seq (.cond .auto .auto) .auto none) none)) none)
def yh(p0:FV)(c0:Addr)(K:Value→PT):PT:=
  L.load (.one (.map)) c0 λ(x1:Option Nat)=>L.sem Pr (.one (.one .ptr)) (Instr.range Zm (.map x1)) λ(it2:Option Addr)=>L.loop (Y:=Unit) (()) λy3 again4=>L.next Pr [eI6,eB6] (Instr.next (.pointer it2) false T_) (K (.tuple #[])) λ(x5:Int×Bool×Unit)=>L.sem Pr (.tup [eI6,eB6]) (Instr.entry (.pointer it2)) λ(x6:Int×Bool×Unit)=>L.callV Pr (.func p0.fn p0.fs p0.cs) [I x6.1] rB λ(x7:Bool)=>L.ite (!x7) (K (.tuple #[]))<|again4 (())
def jh(p0:FV)(c0:Addr)(h:yh p0 c0 K w):CV zE [.v (.func p0.fn p0.fs p0.cs),.v (.pointer (some c0))] K w:=Ze Tryz.f72 jk _ h
def jf:jR Pr zE:=yZ (by kernel_rfl)
def ji:Ann:=(.q2 (.q2 (.seq (.one [(7,eI6),(8,eI6)] .auto) (.q2 (.one [(6,eI6)] (.q2 (.q2 (.seq (.one [(7,eI6),(8,eI6)] .auto) (.q2 .auto (some [])) none) none) none)) none) none) none) none)
def Zy(p0:Sl)(p1:Int)(p2:FV)(K:Value→PT):PT:=
  L.loop (Y:=Int×Int×Unit) (0,20,()) λy1 again2=>L.ite (decide (y1.2.1≤p1)) (L.call Pr zI [Sv6 p0,I y1.1,I y1.2.1,.func p2.fn p2.fs p2.cs] (.tup []) λ(x3:Unit)=>again2 (y1.2.1,Wi (y1.2.1+20),()))<|L.call Pr zI [Sv6 p0,I y1.1,I p1,.func p2.fn p2.fs p2.cs] (.tup []) λ(x4:Unit)=>L.loop (Y:=Int×Unit) (20,()) λy5 again6=>L.ite (decide (y5.1<p1)) (L.loop (Y:=Int×Int×Unit) (0,Wi (2*y5.1),()) λy7 again8=>L.ite (decide (y7.2.1≤p1)) (L.call Pr zh [Sv6 p0,I y7.1,I (Wi (y7.1+y5.1)),I y7.2.1,.func p2.fn p2.fs p2.cs] (.tup []) λ(x9:Unit)=>again8 (y7.2.1,Wi (y7.2.1+(Wi (2*y5.1))),()))<|L.join (Y:=Unit) (λk10=>L.ite (decide ((Wi (y7.1+y5.1))<p1)) (L.call Pr zh [Sv6 p0,I y7.1,I (Wi (y7.1+y5.1)),I p1,.func p2.fn p2.fs p2.cs] (.tup []) λ(x12:Unit)=>k10 (()))<|k10 (())) λz11=>again6 (Wi (y5.1*2),()))<|K (.tuple #[])
def yi(p0:Sl)(p1:Int)(p2:FV)(h:Zy p0 p1 p2 K w):CV yd [.v (.slice p0.a p0.len p0.cap),.v (.int .i64 p1),.v (.func p2.fn p2.fs p2.cs)] K w:=Ze Tryz.f84 ji _ h
def xG(p0:Option Addr)(p1:Int)(K:Value→PT):PT:=
  L.nonnil p0 λa1=>L.load (.one (.map)) (a1.add 0) λ(x2:Option Nat)=>L.semR Pr rB (Instr.lookup Zm (.map x2) (I p1) false) λ(x3:Bool)=>L.ite x3 (K (I 5))<|L.draw<|L.nonnil p0 λa4=>L.load (.one (.map)) (a4.add 0) λ(x5:Option Nat)=>L.semR Pr rI (Builtin.len_ #[Zm] zk #[.map x5]) λ(x6:Int)=>L.nonnil p0 λa7=>L.load eI6 (a7.add 1) λ(x8:Int)=>L.ite (decide (x6≥x8)) (K (I 8))<|L.nonnil p0 λa9=>L.load (.one (.map)) (a9.add 0) λ(x10:Option Nat)=>L.semU Pr (Instr.mapUpdate Zm (.map x10) (I p1) (.bool true))<|K (I 0)
def ua(p0:Option Addr)(p1:Int)(h:xG p0 p1 K w):CV xB [.v (.pointer p0),.v (.int .i64 p1)] K w:=Ze Tryz.f85 .auto _ h
def yR:Ann:=(.q2 (.one [] (.q2 (.seq (.cond .auto .auto) .auto none) none)) none)
def ZB(p0:FV)(c0:Addr)(K:Value→PT):PT:=
  L.load (.one (.map)) c0 λ(x1:Option Nat)=>L.sem Pr (.one (.one .ptr)) (Instr.range zt (.map x1)) λ(it2:Option Addr)=>L.loop (Y:=Unit) (()) λy3 again4=>L.next Pr [eI6,(.agg [.str,.ptr])] (Instr.next (.pointer it2) false T_) (K (.tuple #[])) λ(x5:pt5)=>L.sem Pr (.tup [eI6,(.agg [.str,.ptr])]) (Instr.entry (.pointer it2)) λ(x6:pt5)=>L.callV Pr (.func p0.fn p0.fs p0.cs) [I x6.1] rB λ(x7:Bool)=>L.ite (!x7) (K (.tuple #[]))<|again4 (())
def yQ(p0:FV)(c0:Addr)(h:ZB p0 c0 K w):CV zq [.v (.func p0.fn p0.fs p0.cs),.v (.pointer (some c0))] K w:=Ze Tryz.f86 yR _ h
def yP:jR Pr zq:=yZ (by kernel_rfl)
def jU:Ann:=(.q2 (.seq (.q2 (.q2 .auto (some [(7,eS6)])) none) .auto none) none)
def yI(p0:Sl)(p1:FV)(K:Value→PT):PT:=
  L.new [Sv6 p0] Yh λb1=>L.range Pr none (.func p1.fn p1.fs p1.cs) [eS6] (λl2(y3:B0×Unit) R4=>L.begin Pr l2<|L.load eL6 (⟨b1,0,none⟩) λ(x7:Sl)=>L.new [.string y3.1] Za λb8=>L.sem Pr (.one (.one .slice)) (Builtin.append_ #[Yh,Yh] Yh #[Sv6 x7,.slice (some ⟨b8,0,none⟩) 1 1]) λ(s9:Sl)=>L.store (⟨b1,0,none⟩) [Sv6 s9]<|L.endRound Pr l2 none R4) λd5 j6=>L.jump j6 (L.load eL6 (⟨b1,0,none⟩) λ(x10:Sl)=>L.unmark Pr (d5++[])<|K (.slice x10.a x10.len x10.cap)) (L.unmark Pr (d5++[])<|K (.slice none 0 0)) []
def jT(p0:Sl)(p1:FV)(h:yI p0 p1 K w):CV ZK [.v (.slice p0.a p0.len p0.cap),.v (.func p1.fn p1.fs p1.cs)] K w:=Ze Tryz.f87 jU _ h
def xr:Ann:=(.q2 (.seq (.q2 (.q2 .auto (some [(7,eI6)])) none) .auto none) none)
def YG(p0:Sl)(p1:FV)(K:Value→PT):PT:=
  L.new [Sv6 p0] zQ λb1=>L.range Pr none (.func p1.fn p1.fs p1.cs) [eI6] (λl2(y3:Int×Unit) R4=>L.begin Pr l2<|L.load eL6 (⟨b1,0,none⟩) λ(x7:Sl)=>L.new [I y3.1] zk λb8=>L.sem Pr (.one (.one .slice)) (Builtin.append_ #[zQ,zQ] zQ #[Sv6 x7,.slice (some ⟨b8,0,none⟩) 1 1]) λ(s9:Sl)=>L.store (⟨b1,0,none⟩) [Sv6 s9]<|L.endRound Pr l2 none R4) λd5 j6=>L.jump j6 (L.load eL6 (⟨b1,0,none⟩) λ(x10:Sl)=>L.unmark Pr (d5++[])<|K (.slice x10.a x10.len x10.cap)) (L.unmark Pr (d5++[])<|K (.slice none 0 0)) []
def xo(p0:Sl)(p1:FV)(h:YG p0 p1 K w):CV yq [.v (.slice p0.a p0.len p0.cap),.v (.func p1.fn p1.fs p1.cs)] K w:=Ze Tryz.f89 xr _ h
def Yl:Ann:=(.q2 (.one [(8,eI6)] (.q2 (.seq (.q2 (.one [(9,eI6)] (.seq (.q2 (.cond .auto .auto) none) .auto none)) none) .auto (some [])) none)) none)
def ZL(p0:Sl)(p1 p2:Int)(p3:FV)(K:Value→PT):PT:=
  L.loop (Y:=Int×Unit) (Wi (p1+1),()) λy1 again2=>L.ite (decide (y1.1<p2)) (L.join (Y:=Unit) (λk3=>L.loop (Y:=Int×Unit) (y1.1,()) λy5 again6=>L.draw<|L.ite (decide (y5.1>p1)) (L.idx p0.a y5.1 p0.len 2 λa7=>L.load (.agg [.int .i64,.int .i64]) a7 λ(x8:Int×Int×Unit)=>L.idx p0.a (Wi (y5.1-1)) p0.len 2 λa9=>L.load (.agg [.int .i64,.int .i64]) a9 λ(x10:Int×Int×Unit)=>L.callV Pr (.func p3.fn p3.fs p3.cs) [.agg #[I x8.1,I x8.2.1],.agg #[I x10.1,I x10.2.1]] rI λ(x11:Int)=>L.ite (decide (x11<0)) (L.draw<|L.idx p0.a (Wi (y5.1-1)) p0.len 2 λa12=>L.load (.agg [.int .i64,.int .i64]) a12 λ(x13:Int×Int×Unit)=>L.idx p0.a y5.1 p0.len 2 λa14=>L.load (.agg [.int .i64,.int .i64]) a14 λ(x15:Int×Int×Unit)=>L.idx p0.a y5.1 p0.len 2 λa16=>L.store a16 [I x13.1,I x13.2.1]<|L.idx p0.a (Wi (y5.1-1)) p0.len 2 λa17=>L.store a17 [I x15.1,I x15.2.1]<|again6 (Wi (y5.1-1),()))<|k3 (()))<|k3 (())) λz4=>again2 (Wi (y1.1+1),()))<|K (.tuple #[])
def Yk(p0:Sl)(p1 p2:Int)(p3:FV)(h:ZL p0 p1 p2 p3 K w):CV zI [.v (.slice p0.a p0.len p0.cap),.v (.int .i64 p1),.v (.int .i64 p2),.v (.func p3.fn p3.fs p3.cs)] K w:=Ze Tryz.f96 Yl _ h
def YV:Ann:=(.seq (.q2 (.cond (.q2 (.q2 (.seq (.one [(10,eI6),(11,eI6)] .auto) (.seq (.q2 (.one [(13,eI6)] .auto) none) .auto none) none) none) none) .auto) none) (.seq (.q2 (.cond (.q2 (.q2 (.seq (.one [(14,eI6),(15,eI6)] .auto) (.seq (.q2 (.one [(17,eI6)] .auto) none) .auto none) none) none) none) .auto) none) (.q2 (.q2 (.q2 (.q2 (.q2 (.seq (.one [(20,eI6),(21,eI6)] .auto) (.q2 (.seq (.q2 (.cond .auto .auto) none) (.seq (.q2 (.cond .auto .auto) none) (.q2 (.cond .auto .auto) none) (some [])) (some [])) none) none) none) (some [(20,eI6),(21,eI6)])) none) none) none) none) none)
def zU(p0:Sl)(p1 p2 p3:Int)(p4:FV)(K:Value→PT):PT:=
  L.ite ((Wi (p2-p1)) == 1) (L.loop (Y:=Int×Int×Unit) (p2,p3,()) λy1 again2=>L.ite (decide (y1.1<y1.2.1)) (L.guard ((0:Int)≤1)<|L.draw<|L.idx p0.a (Wi (Int.fdiv (IntKind.wrap .u64 (Wi (y1.1+y1.2.1))) (2 ^ (min (Int.toNat 1) 64)))) p0.len 2 λa3=>L.load (.agg [.int .i64,.int .i64]) a3 λ(x4:Int×Int×Unit)=>L.idx p0.a p1 p0.len 2 λa5=>L.load (.agg [.int .i64,.int .i64]) a5 λ(x6:Int×Int×Unit)=>L.callV Pr (.func p4.fn p4.fs p4.cs) [.agg #[I x4.1,I x4.2.1],.agg #[I x6.1,I x6.2.1]] rI λ(x7:Int)=>L.ite (decide (x7<0)) (again2 (Wi ((Wi (Int.fdiv (IntKind.wrap .u64 (Wi (y1.1+y1.2.1))) (2 ^ (min (Int.toNat 1) 64))))+1),y1.2.1,()))<|again2 (y1.1,Wi (Int.fdiv (IntKind.wrap .u64 (Wi (y1.1+y1.2.1))) (2 ^ (min (Int.toNat 1) 64))),()))<|L.loop (Y:=Int×Unit) (p1,()) λy8 again9=>L.ite (decide (y8.1<(Wi (y1.1-1)))) (L.draw<|L.idx p0.a (Wi (y8.1+1)) p0.len 2 λa10=>L.load (.agg [.int .i64,.int .i64]) a10 λ(x11:Int×Int×Unit)=>L.idx p0.a y8.1 p0.len 2 λa12=>L.load (.agg [.int .i64,.int .i64]) a12 λ(x13:Int×Int×Unit)=>L.idx p0.a y8.1 p0.len 2 λa14=>L.store a14 [I x11.1,I x11.2.1]<|L.idx p0.a (Wi (y8.1+1)) p0.len 2 λa15=>L.store a15 [I x13.1,I x13.2.1]<|again9 (Wi (y8.1+1),()))<|K (.tuple #[]))<|L.ite ((Wi (p3-p2)) == 1) (L.loop (Y:=Int×Int×Unit) (p1,p2,()) λy16 again17=>L.ite (decide (y16.1<y16.2.1)) (L.guard ((0:Int)≤1)<|L.draw<|L.idx p0.a p2 p0.len 2 λa18=>L.load (.agg [.int .i64,.int .i64]) a18 λ(x19:Int×Int×Unit)=>L.idx p0.a (Wi (Int.fdiv (IntKind.wrap .u64 (Wi (y16.1+y16.2.1))) (2 ^ (min (Int.toNat 1) 64)))) p0.len 2 λa20=>L.load (.agg [.int .i64,.int .i64]) a20 λ(x21:Int×Int×Unit)=>L.callV Pr (.func p4.fn p4.fs p4.cs) [.agg #[I x19.1,I x19.2.1],.agg #[I x21.1,I x21.2.1]] rI λ(x22:Int)=>L.ite (!(decide (x22<0))) (again17 (Wi ((Wi (Int.fdiv (IntKind.wrap .u64 (Wi (y16.1+y16.2.1))) (2 ^ (min (Int.toNat 1) 64))))+1),y16.2.1,()))<|again17 (y16.1,Wi (Int.fdiv (IntKind.wrap .u64 (Wi (y16.1+y16.2.1))) (2 ^ (min (Int.toNat 1) 64))),()))<|L.loop (Y:=Int×Unit) (p2,()) λy23 again24=>L.ite (decide (y23.1>y16.1)) (L.draw<|L.idx p0.a (Wi (y23.1-1)) p0.len 2 λa25=>L.load (.agg [.int .i64,.int .i64]) a25 λ(x26:Int×Int×Unit)=>L.idx p0.a y23.1 p0.len 2 λa27=>L.load (.agg [.int .i64,.int .i64]) a27 λ(x28:Int×Int×Unit)=>L.idx p0.a y23.1 p0.len 2 λa29=>L.store a29 [I x26.1,I x26.2.1]<|L.idx p0.a (Wi (y23.1-1)) p0.len 2 λa30=>L.store a30 [I x28.1,I x28.2.1]<|again24 (Wi (y23.1-1),()))<|K (.tuple #[]))<|L.guard ((0:Int)≤1)<|L.join (Y:=Int×Int×Unit) (λk31=>L.ite (decide (p2>(Wi (Int.fdiv (IntKind.wrap .u64 (Wi (p1+p3))) (2 ^ (min (Int.toNat 1) 64)))))) (k31 (Wi ((Wi ((Wi (Int.fdiv (IntKind.wrap .u64 (Wi (p1+p3))) (2 ^ (min (Int.toNat 1) 64))))+p2))-p3),Wi (Int.fdiv (IntKind.wrap .u64 (Wi (p1+p3))) (2 ^ (min (Int.toNat 1) 64))),()))<|k31 (p1,p2,())) λz32=>L.loop (Y:=Int×Int×Unit) (z32.1,z32.2.1,()) λy33 again34=>L.ite (decide (y33.1<y33.2.1)) (L.guard ((0:Int)≤1)<|L.draw<|L.idx p0.a (Wi ((Wi ((Wi ((Wi (Int.fdiv (IntKind.wrap .u64 (Wi (p1+p3))) (2 ^ (min (Int.toNat 1) 64))))+p2))-1))-(Wi (Int.fdiv (IntKind.wrap .u64 (Wi (y33.1+y33.2.1))) (2 ^ (min (Int.toNat 1) 64)))))) p0.len 2 λa35=>L.load (.agg [.int .i64,.int .i64]) a35 λ(x36:Int×Int×Unit)=>L.idx p0.a (Wi (Int.fdiv (IntKind.wrap .u64 (Wi (y33.1+y33.2.1))) (2 ^ (min (Int.toNat 1) 64)))) p0.len 2 λa37=>L.load (.agg [.int .i64,.int .i64]) a37 λ(x38:Int×Int×Unit)=>L.callV Pr (.func p4.fn p4.fs p4.cs) [.agg #[I x36.1,I x36.2.1],.agg #[I x38.1,I x38.2.1]] rI λ(x39:Int)=>L.ite (!(decide (x39<0))) (again34 (Wi ((Wi (Int.fdiv (IntKind.wrap .u64 (Wi (y33.1+y33.2.1))) (2 ^ (min (Int.toNat 1) 64))))+1),y33.2.1,()))<|again34 (y33.1,Wi (Int.fdiv (IntKind.wrap .u64 (Wi (y33.1+y33.2.1))) (2 ^ (min (Int.toNat 1) 64))),()))<|L.join (Y:=Unit) (λk40=>L.ite (decide (y33.1<p2)) (L.ite (decide (p2<(Wi ((Wi ((Wi (Int.fdiv (IntKind.wrap .u64 (Wi (p1+p3))) (2 ^ (min (Int.toNat 1) 64))))+p2))-y33.1)))) (L.call Pr Zx [Sv6 p0,I y33.1,I p2,I (Wi ((Wi ((Wi (Int.fdiv (IntKind.wrap .u64 (Wi (p1+p3))) (2 ^ (min (Int.toNat 1) 64))))+p2))-y33.1)),.func p4.fn p4.fs p4.cs] (.tup []) λ(x42:Unit)=>k40 (()))<|k40 (()))<|k40 (())) λz41=>L.join (Y:=Unit) (λk43=>L.ite (decide (p1<y33.1)) (L.ite (decide (y33.1<(Wi (Int.fdiv (IntKind.wrap .u64 (Wi (p1+p3))) (2 ^ (min (Int.toNat 1) 64)))))) (L.call Pr zh [Sv6 p0,I p1,I y33.1,I (Wi (Int.fdiv (IntKind.wrap .u64 (Wi (p1+p3))) (2 ^ (min (Int.toNat 1) 64)))),.func p4.fn p4.fs p4.cs] (.tup []) λ(x45:Unit)=>k43 (()))<|k43 (()))<|k43 (())) λz44=>L.ite (decide ((Wi (Int.fdiv (IntKind.wrap .u64 (Wi (p1+p3))) (2 ^ (min (Int.toNat 1) 64))))<(Wi ((Wi ((Wi (Int.fdiv (IntKind.wrap .u64 (Wi (p1+p3))) (2 ^ (min (Int.toNat 1) 64))))+p2))-y33.1)))) (L.ite (decide ((Wi ((Wi ((Wi (Int.fdiv (IntKind.wrap .u64 (Wi (p1+p3))) (2 ^ (min (Int.toNat 1) 64))))+p2))-y33.1))<p3)) (L.call Pr zh [Sv6 p0,I (Wi (Int.fdiv (IntKind.wrap .u64 (Wi (p1+p3))) (2 ^ (min (Int.toNat 1) 64)))),I (Wi ((Wi ((Wi (Int.fdiv (IntKind.wrap .u64 (Wi (p1+p3))) (2 ^ (min (Int.toNat 1) 64))))+p2))-y33.1)),I p3,.func p4.fn p4.fs p4.cs] (.tup []) λ(x46:Unit)=>K (.tuple #[]))<|K (.tuple #[]))<|K (.tuple #[])
def Zt(p0:Sl)(p1 p2 p3:Int)(p4:FV)(h:zU p0 p1 p2 p3 p4 K w):CV zh [.v (.slice p0.a p0.len p0.cap),.v (.int .i64 p1),.v (.int .i64 p2),.v (.int .i64 p3),.v (.func p4.fn p4.fs p4.cs)] K w:=Ze Tryz.f97 YV _ h
def jj:Ann:=(.q2 (.q2 (.seq (.one [(10,eI6),(11,eI6)] .auto) .auto none) none) none)
def yg(p0:Sl)(p1 p2 p3:Int)(p4:FV)(K:Value→PT):PT:=
  L.loop (Y:=Int×Int×Unit) (Wi (p2-p1),Wi (p3-p2),()) λy1 again2=>L.ite (y1.1 != y1.2.1) (L.ite (decide (y1.1>y1.2.1)) (L.call Pr zF [Sv6 p0,I (Wi (p2-y1.1)),I p2,I y1.2.1,.func p4.fn p4.fs p4.cs] (.tup []) λ(x3:Unit)=>again2 (Wi (y1.1-y1.2.1),y1.2.1,()))<|L.call Pr zF [Sv6 p0,I (Wi (p2-y1.1)),I (Wi ((Wi (p2+y1.2.1))-y1.1)),I y1.1,.func p4.fn p4.fs p4.cs] (.tup []) λ(x4:Unit)=>again2 (y1.1,Wi (y1.2.1-y1.1),()))<|L.call Pr zF [Sv6 p0,I (Wi (p2-y1.1)),I p2,I y1.1,.func p4.fn p4.fs p4.cs] (.tup []) λ(x5:Unit)=>K (.tuple #[])
def jg(p0:Sl)(p1 p2 p3:Int)(p4:FV)(h:yg p0 p1 p2 p3 p4 K w):CV Zx [.v (.slice p0.a p0.len p0.cap),.v (.int .i64 p1),.v (.int .i64 p2),.v (.int .i64 p3),.v (.func p4.fn p4.fs p4.cs)] K w:=Ze Tryz.f108 jj _ h
def YJ:Ann:=(.q2 (.one [(10,eI6)] .auto) none)
def ZZ(p0:Sl)(p1 p2 p3:Int)(p4:FV)(K:Value→PT):PT:=
  L.loop (Y:=Int×Unit) (0,()) λy1 again2=>L.ite (decide (y1.1<p3)) (L.draw<|L.idx p0.a (Wi (p2+y1.1)) p0.len 2 λa3=>L.load (.agg [.int .i64,.int .i64]) a3 λ(x4:Int×Int×Unit)=>L.idx p0.a (Wi (p1+y1.1)) p0.len 2 λa5=>L.load (.agg [.int .i64,.int .i64]) a5 λ(x6:Int×Int×Unit)=>L.idx p0.a (Wi (p1+y1.1)) p0.len 2 λa7=>L.store a7 [I x4.1,I x4.2.1]<|L.idx p0.a (Wi (p2+y1.1)) p0.len 2 λa8=>L.store a8 [I x6.1,I x6.2.1]<|again2 (Wi (y1.1+1),()))<|K (.tuple #[])
def YI(p0:Sl)(p1 p2 p3:Int)(p4:FV)(h:ZZ p0 p1 p2 p3 p4 K w):CV zF [.v (.slice p0.a p0.len p0.cap),.v (.int .i64 p1),.v (.int .i64 p2),.v (.int .i64 p3),.v (.func p4.fn p4.fs p4.cs)] K w:=Ze Tryz.f113 YJ _ h
end Go.Proofs.YtofigcbhafkikaaGreat
