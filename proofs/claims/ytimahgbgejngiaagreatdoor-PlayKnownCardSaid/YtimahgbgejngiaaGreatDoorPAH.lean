/- What is proved on the way to a statement of the seat, pressed (text AH). No conditions beyond those its theorems state. -/
import Derived.Test.YtimahgbgejngiaaGreatDoorPAG
import Derived.Shelf.Strconv.Atoi
import Derived.Shelf.Strconv.Itoa3
import Derived.Shelf.Strings.LastIndex
import Derived.Lib.LaidTab
import Derived.Lib.Join
import Derived.Lib.ItoaNum
import Derived.Lib.ItoaMem
import Derived.Below
import Derived.Shelf.Strconv.AtoiAll
import Derived.Shelf.Strings.OnBuilder
import Derived.Lib.AtoiAll
import Derived.Lib.AtoiTie
import Derived.Shelf.Slices.CompactS
import Derived.Lib.RowBridge
set_option linter.all false
namespace Go.Dm
def zB:(∀(p:Prop)[Decidable p],(decide p=true)=p)∧(∀(p:Prop)[Decidable p],(decide p=false) = ¬p)∧(∀{α:Type}[BEq α][LawfulBEq α](a b:α),((a == b)=true)=(a=b))∧(∀{α:Type}[BEq α][LawfulBEq α](a b:α),((a != b)=true) = ¬(a=b))∧(∀{α:Type}[BEq α][LawfulBEq α](a b:α),((a == b)=false) = ¬(a=b))∧(∀{α:Type}[BEq α][LawfulBEq α](a b:α),((a != b)=false)=(a=b))∧
 (∀b:Bool,((!b)=true)=(b=false))∧(∀b:Bool,((!b)=false)=(b=true))∧(∀b:Bool,(¬(b=true))=(b=false))∧(∀b:Bool,(¬(b=false))=(b=true))∧(∀{α:Type}(a b:α),(a≠b) = ¬(a=b)):=by
 refine⟨?_,?_,?_,?_,?_,?_,?_,?_,?_,?_,?_⟩<;>intros<;>simp
end Go.Dm
namespace Go.Proofs.YtimahgbgejngiaaGreatDoor
open Go.Dm
variable {w0 w:World}{E:List Seg}
def wr{n:Int}(h1: -9223372036854775808≤n)(h2:n<9223372036854775808):Wi n=n:=by unfold Wi;rw[IntKind.wrap_i64];omega
def elI:El Pr Zv zm 1 8 (I 0):=Kf (by kernel_rfl) (by kernel_rfl) rfl (by decide)
def eI(n:Int):List Value:=[I n]
def xp:Enc eI 1:=⟨λ_=>rfl,λ_=>rfl,by decide⟩
def TB(p0 p1:Int)(h:0<p1):Int.tmod p0 p1=if 0≤p0∨p1∣p0 then p0%p1 else p0%p1-p1:=by
 rw[Int.tmod_eq_emod];split
 ·simp
 ·omega
end Go.Proofs.YtimahgbgejngiaaGreatDoor
namespace Go.Proofs.YtimahgbgejngiaaGreatDoor
open Go.Dm
attribute [local irreducible] L.load L.store L.chk L.new L.nonnil L.guard L.ite L.draw L.idx L.sem L.semR L.semU L.chkSem L.next L.call L.callV L.join L.alts L.loop L.begin L.endRound L.range
variable {w0 w:World}{E:List Seg}
def Qf(b:UInt8):Bool:=decide (97≤b.toNat∧b.toNat≤122)
def oR(b:UInt8):Bool:=Qf b||decide (48≤b.toNat∧b.toNat≤57)||decide (b.toNat=45)
def ZM(l:List UInt8)(most:Int):Bool:=l.all oR&&(l.head?.map Qf).getD false&&(match l.getLast? with | some b=>decide (b.toNat≠45) | none=>false)&&decide ((l.length:Int)≤most)
abbrev J(n:Int):Value:=.int .i32 n
def Cg{c:Int}{k:Bool→PT}(hk:k (decide (97≤c∧c≤122)) w):L.call Pr qc [J c] (.one (.one .bool)) k w:=by
 refine zc (MR _) ?_;unfold Ky;refine it (λh=>?_) (λh=>?_)<;>(try simp only[zB]at h)
 ·refine⟨_,rfl,?_⟩;have e:decide (97≤c∧c≤122)=decide (c≤122):=by by_cases h2:c≤122<;>simp[h2];omega
  rw[e]at hk;exact hk
 ·refine⟨false,rfl,?_⟩;have e:decide (97≤c∧c≤122)=false:=decide_eq_false (by omega);rw[e]at hk;exact hk
def lC{c:Int}{k:Bool→PT}(hk:k (decide (97≤c∧c≤122)||decide (48≤c∧c≤57)||decide (c=45)) w):L.call Pr Vp [J c] (.one (.one .bool)) k w:=by
 refine zc (Ts _) ?_;unfold Gr;refine Cg ?_;refine it (λh=>?_) (λh=>?_)<;>(try simp only[zB]at h)
 ·refine⟨true,rfl,?_⟩;rw[decide_eq_true h]at hk;exact hk
 ·rw[decide_eq_false h,Bool.false_or]at hk;have e45:(c == 45)=decide (c=45):=by by_cases h:c=45<;>simp[h]
  refine it (λh1=>?_) (λh1=>?_)<;>(try simp only[zB]at h1)
  ·refine it (λh2=>?_) (λh2=>?_)<;>(try simp only[zB]at h2)
   ·refine⟨true,rfl,?_⟩;rw[decide_eq_true ⟨by omega,h2⟩]at hk;exact hk
   ·refine⟨_,rfl,?_⟩;rw[decide_eq_false (λhh=>h2 hh.2),Bool.false_or]at hk;rw[e45];exact hk
  ·refine⟨_,rfl,?_⟩;rw[decide_eq_false (λhh=>by omega),Bool.false_or]at hk;rw[e45];exact hk
def wh(b:UInt8):(decide (97≤(b.toNat:Int)∧(b.toNat:Int)≤122)||decide (48≤(b.toNat:Int)∧(b.toNat:Int)≤57)||decide ((b.toNat:Int)=45))=oR b:=by
 unfold oR Qf
 congr 1
 ·congr 1<;>(apply decide_eq_decide.2;omega)
 ·apply decide_eq_decide.2;omega
def RN{s:B0}{pos:Nat}(hp:pos<s.size):s.data.toList[pos]? = some (s[pos]'hp):=by
 have:pos<s.data.toList.length:=by simpa using hp
 rw[List.getElem?_eq_getElem this];simp[ByteArray.getElem_eq_getElem_data]
def nk(h:St w0 E w)(und:Pr.underlying zd=some .string){s:B0}{most:Int}{k:Bool→PT}(hk:∀w',St w0 E w'→k (ZM s.data.toList most) w'):L.call Pr Qb [.string s,I most] (.one (.one .bool)) k w:=by
 refine zc (py _ _) ?_;unfold Om;refine wO und h λr w h=>?_;have hsz:s.data.toList.length=s.size:=by simp
 generalize hl:s.data.toList=l at hk hsz
 refine Zh (λq y w=>∃pos:Nat,y=((if pos=0 then(45:Int)else((l[pos-1]?).map λb=>(b.toNat:Int)).getD 0),())∧q+pos=s.size∧(l.take pos).all oR=true∧(0<pos→(l.head?.map Qf).getD false=true)∧St w0 (ItS r s pos::E) w) s.size
  ⟨0,rfl,rfl,rfl,by simp,h⟩ ?_
 clear h;rintro q y w ⟨pos,rfl,hq,hall,hhd,h⟩ again hag;dsimp only;have no:∀{w},ZM l most=false→St w0 E w→∃x,Value.bool false=RT.val (.one (.one .bool)) x∧k x w:=λhs h=>⟨false,rfl,by have:=hk _ h;rw[hs]at this;exact this⟩;refine LL h 0 rfl (λhe=>?_) (λhp c d w' ha hh hd h=>?_)
 ·have hpos:pos=l.length:=by omega
  subst hpos;rw[List.take_length]at hall;replace h:=zy h
  cases hgl:l.getLast? with
  | none=>
   have:l = []:=List.getLast?_eq_none_iff.1 hgl;have hs:ZM l most=false:=by rw[this];rfl
   rw[if_pos (by rw[this];rfl)];exact itF rfl (no hs h)
  | some b=>
   have hne:l≠[]:=λe=>by subst e;cases hgl
   have hlen:l.length≠0:=λe=>hne (List.eq_nil_of_length_eq_zero e);have hx:l[l.length-1]? = some b:=by rw[←List.getLast?_eq_getElem?];exact hgl
   rw[if_neg hlen,hx];have hsb:ZM l most=(decide (b.toNat≠45)&&decide ((l.length:Int)≤most)):=by
    unfold ZM;rw[hall,hhd (by omega),hgl];simp
   simp only[Option.map_some,Option.getD_some];refine it (λh45=>?_) (λh45=>?_)<;>(try simp only[zB]at h45)
   ·refine⟨_,rfl,?_⟩;have:=hk _ h;rw[hsb,decide_eq_true (show b.toNat≠45 by omega),Bool.true_and,hsz]at this;exact this
   ·refine no ?_ h;rw[hsb,decide_eq_false (show ¬b.toNat≠45 by omega)];rfl
 ·have hx:l[pos]? = some (s[pos]'hp):=by rw[←hl];exact RN hp
  generalize s[pos]'hp=b at hx ha hh;have hmem:b∈l:=List.mem_of_getElem? hx;have hno:oR b=false→ZM l most=false:=λhs=>by
   unfold ZM;have:l.all oR=false:=by
    rw[List.all_eq_false];exact⟨b,hmem,by simp[hs]⟩
   rw[this];rfl
  by_cases hb:b.toNat<128
  ·obtain⟨rfl,rfl⟩:=ha hb;have h:St w0 (ItS r s (pos+1)::E) w':=h;refine ZA (λz w=>(0<pos+1→(l.head?.map Qf).getD false=true)∧oR b=true∧St w0 (ItS r s (pos+1)::E) w) (λk5 hk5=>?_) (λz w ⟨hhd,hs,h⟩=>?_)
   ·refine lC ?_;rw[wh];refine it (λhs=>?_) (λhs=>?_)
    ·exact no (hno (by simpa using hs)) (zy h)
    ·have hs:oR b=true:=by simpa using hs
     refine it (λh0=>?_) (λh0=>?_)
     ·have h0:pos=0:=by simpa using h0
      subst h0;have hhead:l.head? = some b:=by rw[List.head?_eq_getElem?];exact hx
      have el:decide (97≤(b.toNat:Int)∧(b.toNat:Int)≤122)=Qf b:=by unfold Qf;apply decide_eq_decide.2;omega
      refine Cg ?_;rw[el];refine it (λhlt=>?_) (λhlt=>?_)
      ·refine no ?_ (zy h);have hlt:Qf b=false:=by simpa using hlt
       unfold ZM;rw[hhead];simp[hlt]
      ·have hlt:Qf b=true:=by simpa using hlt
       exact hk5 _ _ ⟨λ_=>by rw[hhead];exact hlt,hs,h⟩
     ·have h0:pos≠0:=by simpa using h0
      exact hk5 _ _ ⟨λ_=>hhd (by omega),hs,h⟩
   ·refine hag (q-1) _ w (by omega) ⟨pos+1,?_,by omega,?_,hhd,h⟩
    ·rw[if_neg (by omega),Nat.add_sub_cancel,hx];rfl
    ·rw[List.take_add_one,hx,List.all_append,hall];simp[hs]
  ·have hc:=hh (by omega);have hs:oR b=false:=by
    unfold oR Qf;rw[decide_eq_false (show ¬(97≤b.toNat∧b.toNat≤122)by omega),decide_eq_false (show ¬(48≤b.toNat∧b.toNat≤57)by omega),decide_eq_false (show ¬b.toNat=45 by omega)];rfl
   refine ZA (λz w=>False) (λk5 hk5=>?_) (λz w hf=>hf.elim);refine lC ?_;rw[decide_eq_false (show ¬(97≤c∧c≤122)by omega),decide_eq_false (show ¬(48≤c∧c≤57)by omega),decide_eq_false (show ¬c=45 by omega)];exact itT rfl (no (hno hs) (zy h))
def fg(h:St w0 E w)(und:Pr.underlying zd=some .string){s:B0}{k:Bool→PT}(hk:∀w',St w0 E w'→k (ZM s.data.toList 16) w'):L.call Pr Jj [.string s] (.one (.one .bool)) k w:=by
 refine zc (Tt _) ?_;unfold Gs;exact nk h und λw h=>⟨_,rfl,hk w h⟩
end Go.Proofs.YtimahgbgejngiaaGreatDoor

namespace Go.Proofs
open Go.Shelf
def Tryz.lays171_ren:Go.Shelf.Ren:=⟨fun | 171=>72 | 243=>133 | 246=>208 | 283=>264 | 284=>265 | 285=>266 | 286=>267 | 129=>254 | 317=>301 | 318=>302 | 319=>303 | 320=>304 | 337=>316 | 338=>317 | n=>n,fun | 3=>3 | 9=>9 | 2=>2 | 4=>4 | 171=>421 | 0=>0 | 53=>412 | 37=>48 | 5=>5 | 173=>423 | 212=>456 | 51=>410 | 20=>20 | 213=>457 | 46=>349 | 232=>481 | 233=>482 | n=>n,fun | 17=>1 | 18=>4 | 19=>5 | n=>n⟩
def Tryz.lays171:Go.Proofs.Lays.n171 Tryz.prog Tryz.lays171_ren:={
 mixed:=by kernel_rfl
 f129:=Tryz.func254.trans cS
 f171:=Tryz.func72.trans cS
 f243:=Tryz.func133.trans cS
 f246:=Tryz.func208.trans cS
 f283:=Tryz.func264.trans cS
 f284:=Tryz.func265.trans cS
 f285:=Tryz.func266.trans cS
 f286:=Tryz.func267.trans cS
 f317:=Tryz.func301.trans cS
 f318:=Tryz.func302.trans cS
 f319:=Tryz.func303.trans cS
 f320:=Tryz.func304.trans cS
 f337:=Tryz.func316.trans cS
 f338:=Tryz.func317.trans cS
 t0:=Tryz.underlying0
 a0:=Tryz.isAgg0
 z0:=Tryz.sizeOf0
 v0:=Tryz.zeroValue0
 t2:=Tryz.underlying2
 a2:=Tryz.isAgg2
 z2:=Tryz.sizeOf2
 v2:=Tryz.zeroValue2
 t3:=Tryz.underlying3
 a3:=Tryz.isAgg3
 z3:=Tryz.sizeOf3
 v3:=Tryz.zeroValue3
 t4:=Tryz.underlying4
 a4:=Tryz.isAgg4
 z4:=Tryz.sizeOf4
 v4:=Tryz.zeroValue4
 t5:=Tryz.underlying5
 a5:=Tryz.isAgg5
 z5:=Tryz.sizeOf5
 v5:=Tryz.zeroValue5
 t9:=Tryz.underlying9
 a9:=Tryz.isAgg9
 z9:=Tryz.sizeOf9
 v9:=Tryz.zeroValue9
 t20:=Tryz.underlying20
 a20:=Tryz.isAgg20
 z20:=Tryz.sizeOf20
 v20:=Tryz.zeroValue20
 t37:=Tryz.underlying48
 a37:=Tryz.isAgg48
 z37:=Tryz.sizeOf48
 v37:=Tryz.zeroValue48
 t46:=Tryz.underlying349
 a46:=Tryz.isAgg349
 z46:=Tryz.sizeOf349
 v46:=Tryz.zeroValue349
 t51:=Tryz.underlying410
 a51:=Tryz.isAgg410
 z51:=Tryz.sizeOf410
 v51:=Tryz.zeroValue410
 t53:=Tryz.underlying412
 a53:=Tryz.isAgg412
 z53:=Tryz.sizeOf412
 v53:=Tryz.zeroValue412
 t171:=Tryz.underlying421
 a171:=Tryz.isAgg421
 z171:=Tryz.sizeOf421
 v171:=Tryz.zeroValue421
 t173:=Tryz.underlying423
 a173:=Tryz.isAgg423
 z173:=Tryz.sizeOf423
 v173:=Tryz.zeroValue423
 t212:=Tryz.underlying456
 a212:=Tryz.isAgg456
 z212:=Tryz.sizeOf456
 v212:=Tryz.zeroValue456
 t213:=Tryz.underlying457
 a213:=Tryz.isAgg457
 z213:=Tryz.sizeOf457
 t232:=Tryz.underlying481
 a232:=Tryz.isAgg481
 z232:=Tryz.sizeOf481
 v232:=Tryz.zeroValue481
 t233:=Tryz.underlying482
 a233:=Tryz.isAgg482
 z233:=Tryz.sizeOf482
 v233:=Tryz.zeroValue482
 g17:=by kernel_rfl
 g18:=by kernel_rfl
 g19:=by kernel_rfl }
open Go.RowKit Go.Sort Go.Lib in
def Tryz.strconv_Itoa_small(i:Nat)(hi:i<100)(w:World) :
  Calls Tryz.prog 72 #[.int .i64 i] w λe w'=>e = .returned (.string ⟨(Lib.decDigits i).toArray⟩)∧w'=w:=Any.strconv_Itoa_small Tryz.lays171 i hi w
def Tryz.lays148_ren:Go.Shelf.Ren:=⟨fun | 148=>202 | 222=>259 | 223=>260 | 269=>295 | n=>n,fun | 9=>9 | 3=>3 | 4=>4 | 5=>5 | 146=>447 | 51=>410 | 46=>349 | n=>n,fun | n=>n⟩
def Tryz.lays148:Go.Proofs.Lays.n148 Tryz.prog Tryz.lays148_ren:={
 mixed:=by kernel_rfl
 f148:=Tryz.func202.trans cS
 f222:=Tryz.func259.trans cS
 f223:=Tryz.func260.trans cS
 f269:=Tryz.func295.trans cS
 t3:=Tryz.underlying3
 a3:=Tryz.isAgg3
 z3:=Tryz.sizeOf3
 v3:=Tryz.zeroValue3
 t4:=Tryz.underlying4
 a4:=Tryz.isAgg4
 z4:=Tryz.sizeOf4
 v4:=Tryz.zeroValue4
 t5:=Tryz.underlying5
 a5:=Tryz.isAgg5
 z5:=Tryz.sizeOf5
 v5:=Tryz.zeroValue5
 t9:=Tryz.underlying9
 a9:=Tryz.isAgg9
 z9:=Tryz.sizeOf9
 v9:=Tryz.zeroValue9
 t46:=Tryz.underlying349
 a46:=Tryz.isAgg349
 z46:=Tryz.sizeOf349
 v46:=Tryz.zeroValue349
 t51:=Tryz.underlying410
 a51:=Tryz.isAgg410
 z51:=Tryz.sizeOf410
 v51:=Tryz.zeroValue410
 t146:=Tryz.underlying447
 a146:=Tryz.isAgg447
 z146:=Tryz.sizeOf447
 v146:=Tryz.zeroValue447 }
open Go.RowKit Go.Lib in
def Tryz.strings_LastIndex_one(s sub:B0)(h1:sub.size=1)(hs:s.size<4611686018427387904)(w:World) :
  Calls Tryz.prog 202 #[.string s,.string sub] w λe w'=>e = .returned (.int .i64 (Lib.lastIndexByte s ((sub[0]'(by omega)).toNat:Int)))∧w'=w:=Any.strings_LastIndex_one Tryz.lays148 s sub h1 hs w
end Go.Proofs
namespace Go.Proofs.YtimahgbgejngiaaGreatDoor
open Go.Dm
def qX{P:Program}{f:FuncId}{args:List Value}{r:RT}{k:r.T→PT}{w:World}{R:Ending→World→Prop}(hc:Calls P f args.toArray w R)(hk:∀e w',R e w'→∃x,e = .returned (r.val x)∧k x w'):L.call P f args r k w:=Calls.mono hc hk
def _root_.Go.Dm.St.bytes{w0 w:World}{E:List Seg}(h:St w0 E w)(e:TypeId)(s:B0):St w0 E (Lib.bytesWorld w e s):=by
 refine⟨by rw[Lib.bytesWorld_size];have:=h.size;omega,λb hb=>?_,h.os,h.out,h.tape,λx hx=>?_,h.nd,λ_ _ _ _=>rfl⟩
 ·rw[Lib.bytesWorld_at_old w e s b (Nat.lt_of_lt_of_le hb h.size)];exact h.old b hb
 ·have:=h.own x hx;rw[Lib.bytesWorld_at_old w e s _ (Array.getElem?_eq_some_iff.1 this.2).1];exact this
attribute [local irreducible] L.load L.store L.chk L.new L.nonnil L.guard L.ite L.draw L.idx L.sem L.semR L.semU L.chkSem L.next L.call L.callV L.join L.alts L.loop L.begin L.endRound L.range
variable {w0 w:World}{E:List Seg}
def LX(g:Nat):B0:=⟨(Lib.decDigits g).toArray⟩
def xb(c:B0)(g:Nat):B0:=(c++jO)++LX g
def qV(c:B0)(g:Nat):(xb c g).data.toList=c.data.toList++45::Lib.decDigits g:=by
 simp[xb,LX,jO,ByteArray.data_append]
def PH{a b:B0}(h:a.data.toList=b.data.toList):a=b:=ByteArray.ext (Array.toList_inj.1 h)
def data_extract(a:B0)(i j:Nat):(a.extract i j).data.toList=(a.data.toList.drop i).take (j-i):=by
 simp[ByteArray.data_extract,Array.toList_extract,List.extract]
def Yg(a:B0):a.data.toList.length=a.size:=by simp
def Nw(g:Nat):List UInt8:=if g<10 then [UInt8.ofNat (48+g)]else [UInt8.ofNat (48+g/10),UInt8.ofNat (48+g%10)]
def bJ{g:Nat}(h:g<100):Lib.decDigits g=Nw g:=by
 unfold Nw;split
 ·rename_i h1;exact Lib.decDigits_one h1
 ·rename_i h1;exact Lib.decDigits_two h1 h
def Nv:∀g:Fin 100,(∀b∈Nw g,48≤b.toNat∧b.toNat≤57)∧(Nw g).length≤2∧1≤(Nw g).length∧Lib.atoi (Nw g)=some (g:Int):=by decide
def bH{g:Nat}(h:g<100):(∀b∈Lib.decDigits g,48≤b.toNat∧b.toNat≤57)∧(Lib.decDigits g).length≤2∧1≤(Lib.decDigits g).length∧Lib.atoi (Lib.decDigits g)=some (g:Int):=by
 rw[bJ h];exact Nv ⟨g,h⟩
def nN(c:B0)(g:Nat):(xb c g).extract 0 c.size=c:=PH (by rw[data_extract,qV,←Yg c];simp)
def mD(c:B0){g:Nat}(hg:g<100):(xb c g).size≤c.size+3∧c.size+2≤(xb c g).size:=by
 have hs:=Yg (xb c g);rw[qV]at hs;simp only[List.length_append,List.length_cons,Yg]at hs;have:=bH hg;omega
def Vg{s:B0}{m:Int}(h:ZM s.data.toList m=true):(s.size:Int)≤m:=by
 unfold ZM at h;simp only[Bool.and_eq_true,decide_eq_true_eq,Yg]at h;exact h.2
def Ci{s:B0}(hs:s.size<4611686018427387904){k:Int→PT}(hk:k (Lib.lastIndexByte s 45) w):L.call Pr QQ [.string s,.string jO] (.one (.one (.int .i64))) k w:=
 qX (Tryz.strings_LastIndex_one s jO rfl hs w) λe w' ⟨he,hw⟩=>⟨_,he,by subst hw;exact hk⟩
def Bo{g:Nat}(hg:g<100){k:B0→PT}(hk:k (LX g) w):L.call Pr xj [I g] (.one (.one .str)) k w:=
 qX (Tryz.strconv_Itoa_small g hg w) λe w' ⟨he,hw⟩=>⟨_,he,by subst hw;exact hk⟩
def RA(h:St w0 E w)(und:Pr.underlying zd=some .string){s:B0}{k:Bool→PT}(hk:∀w',St w0 E w'→k (ZM s.data.toList 8) w'):L.call Pr jr [.string s] (.one (.one .bool)) k w:=by
 refine zc (Co _) ?_;unfold Fi;exact nk h und λw h=>⟨_,rfl,hk w h⟩
def Ax(h:St w0 E w)(und:Pr.underlying zd=some .string){c:B0}{g:Nat}(hc:ZM c.data.toList 16=true)(h1:1≤g)(hg:g<100){k:B0→PT}(hk:∀w',St w0 E w'→k (xb c g) w'):L.call Pr Qo [.string c,I g] (.one (.one .str)) k w:=by
 refine zc (Fo _ _) ?_;unfold Kz;refine fg h und λw h=>?_;rw[hc];have hs:=Vg hc;have hr:=mD c hg;refine itF rfl (itF (decide_eq_false (by omega)) (itF (decide_eq_false (by omega)) ?_));refine gd ?_ ?_
 ·simp only[jO,Jl];show((c.size+1:Nat):Int)≤_;omega
 refine Bo hg ?_;refine gd ?_ ⟨_,rfl,hk w h⟩;have:((c++jO).size+(LX g).size)=(xb c g).size:=by unfold xb;rw[ByteArray.size_append (a:=c++jO)]
 rw[this];simp only[Jl];omega
end Go.Proofs.YtimahgbgejngiaaGreatDoor

namespace Go.Proofs
open Go.Shelf
def Tryz.lays190_ren:Go.Shelf.Ren:=⟨fun | 190=>276 | 125=>186 | 258=>309 | 128=>253 | 129=>254 | 302=>320 | 303=>321 | 304=>322 | 305=>323 | 306=>324 | 307=>325 | 308=>326 | 309=>327 | 310=>328 | 333=>332 | 329=>290 | 330=>291 | 334=>333 | 335=>334 | 336=>335 | 344=>337 | n=>n,fun | 31=>40 | 9=>9 | 3=>3 | 46=>349 | 0=>0 | 51=>410 | 53=>412 | 4=>4 | 183=>403 | 182=>402 | 131=>290 | 5=>5 | 218=>442 | 222=>416 | 228=>462 | 229=>214 | n=>n,fun | n=>n⟩
def Tryz.lays190:Go.Proofs.Lays.n190 Tryz.prog Tryz.lays190_ren:={
 mixed:=by kernel_rfl
 f125:=Tryz.func186.trans cS
 f128:=Tryz.func253.trans cS
 f129:=Tryz.func254.trans cS
 f190:=Tryz.func276.trans cS
 f258:=Tryz.func309.trans cS
 f302:=Tryz.func320.trans cS
 f303:=Tryz.func321.trans cS
 f304:=Tryz.func322.trans cS
 f305:=Tryz.func323.trans cS
 f306:=Tryz.func324.trans cS
 f307:=Tryz.func325.trans cS
 f308:=Tryz.func326.trans cS
 f309:=Tryz.func327.trans cS
 f310:=Tryz.func328.trans cS
 f329:=Tryz.func290.trans cS
 f330:=Tryz.func291.trans cS
 f333:=Tryz.func332.trans cS
 f334:=Tryz.func333.trans cS
 f335:=Tryz.func334.trans cS
 f336:=Tryz.func335.trans cS
 f344:=Tryz.func337.trans cS
 t0:=Tryz.underlying0
 a0:=Tryz.isAgg0
 z0:=Tryz.sizeOf0
 v0:=Tryz.zeroValue0
 t3:=Tryz.underlying3
 a3:=Tryz.isAgg3
 z3:=Tryz.sizeOf3
 v3:=Tryz.zeroValue3
 t4:=Tryz.underlying4
 a4:=Tryz.isAgg4
 z4:=Tryz.sizeOf4
 v4:=Tryz.zeroValue4
 t5:=Tryz.underlying5
 a5:=Tryz.isAgg5
 z5:=Tryz.sizeOf5
 v5:=Tryz.zeroValue5
 t9:=Tryz.underlying9
 a9:=Tryz.isAgg9
 z9:=Tryz.sizeOf9
 v9:=Tryz.zeroValue9
 t31:=Tryz.underlying40
 a31:=Tryz.isAgg40
 z31:=Tryz.sizeOf40
 v31:=Tryz.zeroValue40
 t46:=Tryz.underlying349
 a46:=Tryz.isAgg349
 z46:=Tryz.sizeOf349
 v46:=Tryz.zeroValue349
 t51:=Tryz.underlying410
 a51:=Tryz.isAgg410
 z51:=Tryz.sizeOf410
 v51:=Tryz.zeroValue410
 t53:=Tryz.underlying412
 a53:=Tryz.isAgg412
 z53:=Tryz.sizeOf412
 v53:=Tryz.zeroValue412
 t131:=Tryz.underlying290
 a131:=Tryz.isAgg290
 z131:=Tryz.sizeOf290
 v131:=Tryz.zeroValue290
 t182:=Tryz.underlying402
 a182:=Tryz.isAgg402
 z182:=Tryz.sizeOf402
 v182:=Tryz.zeroValue402
 t183:=Tryz.underlying403
 a183:=Tryz.isAgg403
 z183:=Tryz.sizeOf403
 v183:=Tryz.zeroValue403
 t218:=Tryz.underlying442
 a218:=Tryz.isAgg442
 z218:=Tryz.sizeOf442
 v218:=Tryz.zeroValue442
 t222:=Tryz.underlying416
 a222:=Tryz.isAgg416
 z222:=Tryz.sizeOf416
 v222:=Tryz.zeroValue416
 t228:=Tryz.underlying462
 a228:=Tryz.isAgg462
 z228:=Tryz.sizeOf462
 v228:=Tryz.zeroValue462
 t229:=Tryz.underlying214
 a229:=Tryz.isAgg214
 z229:=Tryz.sizeOf214
 v229:=Tryz.zeroValue214 }
end Go.Proofs
namespace Go.Proofs.YtimahgbgejngiaaGreatDoor
open Go.Dm
attribute [local irreducible] L.load L.store L.chk L.new L.nonnil L.guard L.ite L.draw L.idx L.sem L.semR L.semU L.chkSem L.next L.call L.callV L.join L.alts L.loop L.begin L.endRound L.range
variable {w0 w:World}{E:List Seg}
def eS(x:B0):List Value:=[.string x]
def Yy:Enc eS 1:=⟨λ_=>rfl,λ_=>rfl,by decide⟩
def elS:El Pr zp zd 1 16 (.string s_):=Kf (by kernel_rfl) (by kernel_rfl) rfl (by decide)
abbrev bl(x:B0):List UInt8:=x.data.toList
def ble(a b:B0):Bool:=decide (bl a≤bl b)
def PI(a b c:B0)(h1:ble a b=true)(h2:ble b c=true):ble a c=true:=by
 unfold ble at *;simp only[decide_eq_true_eq]at *;exact List.le_trans h1 h2
def PJ(a b:B0):(ble a b||ble b a)=true:=by
 unfold ble;simp only[Bool.or_eq_true,decide_eq_true_eq];exact List.le_total ..
def la{a b:B0}(h1:ble a b=true)(h2:ble b a=true):a=b:=by
 unfold ble at *;simp only[decide_eq_true_eq]at *;exact Dx (List.le_antisymm h1 h2)
def nF(x:B0):List B0→List B0
 | []=>[x]
 | y::l=>if ble x y=true then x::y::l else y::nF x l
def Yc:List B0→List B0
 | []=>[]
 | x::l=>nF x (Yc l)
def GJ(x:B0):∀l:List B0,(nF x l).Perm (x::l)
 | []=>.refl _
 | y::l=>by
  unfold nF;split
  ·exact .refl _
  ·exact((GJ x l).cons y).trans (.swap x y l)
def qE:∀l:List B0,(Yc l).Perm l
 | []=>.refl _
 | x::l=>(GJ x (Yc l)).trans ((qE l).cons x)
def Dz(x:B0):∀{l:List B0},l.Pairwise (λa b=>ble a b=true)→(nF x l).Pairwise λa b=>ble a b=true
 | [],_=>List.pairwise_singleton ..
 | y::l,h=>by
  unfold nF;split
  ·rename_i hxy;refine List.Pairwise.cons (λz hz=>?_) h;rcases List.mem_cons.1 hz with rfl | hz
   ·exact hxy
   ·exact PI _ _ _ hxy ((List.pairwise_cons.1 h).1 z hz)
  ·rename_i hxy;have hyx:ble y x=true:=by
    have:=PJ x y;simp only[Bool.or_eq_true]at this;rcases this with h | h
    ·exact absurd h hxy
    ·exact h
   refine List.Pairwise.cons (λz hz=>?_) (Dz x (List.pairwise_cons.1 h).2);rcases List.mem_cons.1 ((GJ x l).mem_iff.1 hz)with rfl | hz
   ·exact hyx
   ·exact(List.pairwise_cons.1 h).1 z hz
def mj:∀l:List B0,(Yc l).Pairwise λa b=>ble a b=true
 | []=>.nil
 | x::l=>Dz x (mj l)
def TM{l m:List B0}(h:l.Perm m)(hm:m.Pairwise λa b=>ble a b=true):Yc l=m:=
 List.Perm.eq_of_pairwise (λa b _ _ h1 h2=>la h1 h2) (mj l) hm ((qE l).trans h)
def we{l m:List B0}(h:l.Perm m):Yc l=Yc m:=TM (h.trans (qE m).symm) (mj m)
def vl(l:List B0):(Yc l).length=l.length:=(qE l).length_eq
def KY{l:List B0}{x:B0}:x∈Yc l↔x∈l:=(qE l).mem_iff
def eL(x:List UInt8):List Value:=[Go.Proofs.encStr x]
def sw:Enc eL 1:=⟨λ_=>rfl,λ_=>rfl,by decide⟩
def Rx(l:List B0):fl eS l=fl eL (l.map bl):=by
 induction l with
 | nil=>rfl
 | cons x l ih=>
  simp only[fl,List.flatMap_cons,List.map_cons]at *
  rw[ih];rfl
def wg(l:List B0):(Yc l).map bl=(l.map bl).mergeSort λx y=>decide (x≤y):=by
 have e:l.mergeSort ble=Yc l:=by
  refine(TM (List.mergeSort_perm l ble).symm ?_).symm;exact List.pairwise_mergeSort PI PJ l
 rw[←e];exact List.map_mergeSort λa _ b _=>rfl
def Rf(h:St w0 E w)(i:Nat){s:Seg}(hi:nth E i=some s){v:Sl}{l:List B0}(hr:Rw eS zd 1 v l s)(hn:l.length<1000000000){k:Unit→PT}(hk:∀s' w',Rw eS zd 1 v (Yc l) s'→St w0 (ze E i s') w'→k () w') :
  L.call Pr JU [.slice v.a v.len v.cap] (.tup []) k w:=by
 have hr:Rw eL zd 1 v (l.map bl) s:=by unfold Rw at *;rwa [←Rx]
 refine Dy (encv:=Go.Proofs.encStr) (λ_=>rfl) sw ((Yc l).map bl) (by rw[List.length_map,List.length_map,vl]) (λg off cap w h1 h2=>?_) (λp cap w=>Any.slices_Sort_string_none Tryz.lays190 p cap w) h i hi hr (λs' w' hr' h=>hk s' w' (by unfold Rw at *;rwa [Rx]) h);have:=Any.slices_Sort_string Tryz.lays190 g off cap (l.map bl) w h1 h2 (by rw[List.length_map];omega);rw[wg];exact this
def Tg{a1 a2:Seg}{F:List Seg}{fv:FV}{keys:List B0}(hY:Cb Pr w0 [a1,a2] fv.val keys Value.string)(h:St w0 (a1::a2::F) w)(hn:keys.length<1000000000){k:Sl→PT}
  (hk:∀seen v s w',seen.Perm keys→Rw eS zd 1 v seen s→St w0 (s::a1::a2::F) w'→k v w'):L.call Pr yP [.slice none 0 0,fv.val] (.one (.one .slice)) k w:=by
 refine zc (qo ⟨none,0,0⟩ fv) ?_;unfold jv;refine nw h ?_;clear h;intro b1 w h;have h:=ZR (ZR h);have h:St w0 ([a1,a2]++[Cl b1 zp [SlV ⟨none,0,0⟩]]::[]::F) w:=h.eq (by simp);refine Pb (l:=.str) (arg:=λx=>x) (A:=[a1,a2]) (keys:=keys) hY h (λseen G=>∃v s,G = [Cl b1 zp [SlV v]]::s::F∧Rw eS zd 1 v seen s) (λj G=>False) ⟨_,_,rfl,Rw.nil⟩ ?_ ?_ ?_
 ·rintro seen x G X w lv lp d R hm ⟨v,s,rfl,hr⟩ h hN hE;have h:St w0 ([Rec lv lp .busy none]::[DfM d]::a1::a2::[Cl b1 zp [SlV v]]::s::(F++X)) w:=h
  (refine ldC h ?_)
  refine nw h ?_;clear h;intro b8 w h;refine Rw.app Yy elS h 5 rfl hr x rfl (by omega) (by omega) λv' s' w hr' h=>?_
  (dsimp only[ze,List.cons_append,List.nil_append]at h;refine stC h ?_;clear h;intro w h;dsimp only[zP,ze]at h)
  exact hN _ w ⟨v',s',rfl,hr'⟩ h
 ·rintro d seen G w hp ⟨v,s,rfl,hr⟩ h;have h:St w0 ([DfM d]::a1::a2::[Cl b1 zp [SlV v]]::s::F) w:=h;refine vw ?_
  (refine ldC h ?_)
  (first | refine OE h ?_ | refine OD h ?_ | refine OC h ?_ | refine OB h ?_ | refine OA h ?_ | refine Oz h ?_ | refine Oy h ?_ | refine Ox h ?_ | refine Ow h ?_ | refine Ov h ?_ | refine uH h ?_ | refine uG h ?_);clear h;intro w h
  refine⟨v,rfl,hk seen v s w hp hr ?_⟩;have h:=xc (Yx (Yx h));have h:=QJ h;exact h
 ·rintro d j G w hf;exact hf.elim
def Oc{a1 a2:Seg}{F:List Seg}{fv:FV}{keys:List B0}(hY:Cb Pr w0 [a1,a2] fv.val keys Value.string)(h:St w0 (a1::a2::F) w)(hn:keys.length<1000000000){k:Sl→PT}
  (hk:∀v s w',Rw eS zd 1 v (Yc keys) s→St w0 (s::a2::F) w'→k v w'):L.call Pr yO [fv.val] (.one (.one .slice)) k w:=by
 refine zc (VD fv) ?_;unfold qk;refine zc (vU fv) ?_;unfold XM;refine Tg hY h hn λseen v s w hp hr h=>⟨v,rfl,?_⟩;refine Rf h 0 rfl hr (by rw[hp.length_eq];exact hn) λs w hr h=>?_;rw[we hp]at hr;exact⟨v,rfl,hk v s w hr (jE h)⟩
def Cj(h:St w0 E w){v:Sl}{l:List B0}(r:Rd w eS v l)(hn:l.length<1000000000)(h0:v.a=none→l = []){k:Sl→PT}
  (hk:∀v' s' w',Rw eS zd 1 v' l s'→(v'.a=none↔v.a=none)→St w0 (s'::E) w'→k v' w'):L.call Pr Zx [SlV v] (.one (.one .slice)) k w:=by
 refine zc (JG v) ?_;unfold Yu;exact xV (K:=λv w'=>∃x,v=RT.val (.one (.one .slice)) x∧k x w') Yy elS h r (by omega) (by omega) h0 λv' s' w' hr hi h=>⟨v',rfl,hk v' s' w' hr hi h⟩
def Rw.nil0{α:Type}{enc:α→List Value}{e size:Nat}{v:Sl}{l:List α}{s:Seg}(hE:Enc enc size)(hr:Rw enc e size v l s):v.a=none→l = []:=by
 intro h0;have hl:=Rw.len hE hr;unfold Rw at hr;generalize fl enc l=xs at hr
 cases hr with
 | nil=>exact List.eq_nil_of_length_eq_zero hl.symm
 | mk=>cases h0
def unS:Value→B0
 | .string x=>x
 | _=>s_
def XT:Pr.underlying zd=some .string:=by kernel_rfl
def qY(h:St w0 E w){a b n:Int}{k:Bool→PT}(hk:∀w',St w0 E w'→k (decide (a≤n∧n≤b)) w'):L.call Pr ZG [.agg #[I a,I b],I n] (.one (.one .bool)) k w:=by
 refine zc (VV (a,b,()) n) ?_;unfold QK;refine nw h ?_;clear h;intro b1 w h
 (dsimp only[ze,List.cons_append,List.nil_append]at h;refine ldC h ?_)
 refine it (λh1=>?_) (λh1=>?_)<;>(try simp only[zB]at h1)
 ·(refine ldC h ?_)
  refine⟨_,rfl,?_⟩;have:=hk w (zy h);have e:decide (a≤n∧n≤b)=decide (n≤b):=decide_eq_decide.2 ⟨λh=>h.2,λh=>⟨by omega,h⟩⟩;rw[e]at this;exact this
 ·refine⟨_,rfl,?_⟩;have:=hk w (zy h);rw[decide_eq_false (λh=>h1 (by omega))]at this;exact this
abbrev Cfg:=HT [.str,.int .i64,.int .i64,.int .i64,.int .i64,.int .i64]
abbrev Cfg.cells(c:Cfg):List Value:=[.string c.1,I c.2.1,I c.2.2.1,I c.2.2.2.1,I c.2.2.2.2.1,I c.2.2.2.2.2.1]
def Kj(c:Cfg):Bool:=decide (0≤c.2.1∧c.2.1≤255)&&(decide (1≤c.2.2.1∧c.2.2.1≤8)&&(decide (1≤c.2.2.2.2.1∧c.2.2.2.2.1≤10)&&(decide (0≤c.2.2.2.1∧c.2.2.2.1≤c.2.2.2.2.1)&&decide (0≤c.2.2.2.2.2.1∧c.2.2.2.2.2.1≤30))))
def qq(c:Cfg):Int:=if ZM c.1.data.toList 16=true then(if Kj c=true then 0 else 2)else 1
def nj(h:St w0 E w){c:Cfg}{k:Int→PT}(hk:∀w',St w0 E w'→k (qq c) w'):L.call Pr zH [.agg (Cfg.cells c).toArray] (.one (.one (.int .i64))) k w:=by
 obtain⟨nm,im,co,mi,ma,gr,⟨⟩⟩:=c;refine zc (pq (nm,im,co,mi,ma,gr,())) ?_;unfold Oh;refine nw h ?_;clear h;intro b1 w h
 (dsimp only[ze,List.cons_append,List.nil_append]at h;refine ldC h ?_)
 refine fg h XT λw h=>?_;refine it (λhn=>?_) (λhn=>?_)<;>(try simp only[zB]at hn)
 ·refine⟨_,rfl,?_⟩;have:=hk w (zy h);have e:qq (nm,im,co,mi,ma,gr,())=1:=if_neg (by simp[hn]);rw[e]at this;exact this
 refine ZA (λz w=>z=(!Kj (nm,im,co,mi,ma,gr,()),())∧St w0 ([Cl b1 zq (Cfg.cells (nm,im,co,mi,ma,gr,()))]::E) w) (λk4 hk4=>?_) (λz w ⟨hz,h⟩=>?_)
 ·(refine ldC h ?_)
  refine qY h λw h=>?_;refine it (λh1=>hk4 _ w ⟨by unfold Kj;simp only[Bool.not_eq_true']at h1;simp only[h1,Bool.false_and],h⟩) (λh1=>?_);simp only[Bool.not_eq_false']at h1
  (refine ldC h ?_)
  refine qY h λw h=>?_;refine it (λh2=>hk4 _ w ⟨by unfold Kj;simp only[Bool.not_eq_true']at h2;simp only[h1,h2,Bool.false_and,Bool.and_false],h⟩) (λh2=>?_);simp only[Bool.not_eq_false']at h2
  (refine ldC h ?_)
  refine qY h λw h=>?_;refine it (λh3=>hk4 _ w ⟨by unfold Kj;simp only[Bool.not_eq_true']at h3;simp only[h1,h2,h3,Bool.false_and,Bool.and_false],h⟩) (λh3=>?_);simp only[Bool.not_eq_false']at h3
  (refine ldC h ?_;refine ldC h ?_)
  refine qY h λw h=>?_;refine it (λh4=>hk4 _ w ⟨by unfold Kj;simp only[Bool.not_eq_true']at h4;simp only[h1,h2,h3,h4,Bool.false_and,Bool.and_false],h⟩) (λh4=>?_);simp only[Bool.not_eq_false']at h4
  (refine ldC h ?_)
  refine qY h λw h=>?_;exact hk4 _ w ⟨by unfold Kj;simp only[h1,h2,h3,h4,Bool.true_and],h⟩
 ·subst hz;dsimp only;have hn:ZM nm.data.toList 16=true:=by simpa using hn
  refine it (λhc=>?_) (λhc=>?_)<;>(try simp only[zB]at hc)
  ·refine⟨_,rfl,?_⟩;have:=hk w (zy h);have e:qq (nm,im,co,mi,ma,gr,())=2:=by unfold qq;rw[if_pos hn,if_neg (by simp[hc])]
   rw[e]at this;exact this
  ·refine⟨_,rfl,?_⟩;have:=hk w (zy h);have e:qq (nm,im,co,mi,ma,gr,())=0:=by unfold qq;rw[if_pos hn,if_pos (by simpa using hc)]
   rw[e]at this;exact this
end Go.Proofs.YtimahgbgejngiaaGreatDoor
namespace Go.Dm
class Tab(P:Program)(w:World):Prop where
 is : Lib.TabIs P w "internal/strconv.uint64pow10" .u64 Lib.pow10Tab
section
variable {w0 w:World}{E:List Seg}{P:Program}
def St.var(h:St w0 E w){n:String}{cs:Array Value}(hv:w0.var? P n=some cs):w.var? P n=some cs:=by
 unfold World.var? at *
 cases hg:P.globalNamed n with
 | none=>rw[hg]at hv;cases hv
 | some g=>
  rw[hg]at hv;simp only[Option.bind_some]at hv ⊢
  cases hh:w0.heap[g]? with
  | none=>rw[hh]at hv;cases hv
  | some o=>
   have:=h.old g (Array.getElem?_eq_some_iff.1 hh).1;rw[this];exact hv
def St.tab [T : Tab P w0] (h : St w0 E w) : Lib.TabIs P w "internal/strconv.uint64pow10" .u64 Lib.pow10Tab := h.var T.is
end
def uZ(xs:List B0):B0:=⟨(Lib.join (xs.map (·.data.toList)) [32]).toArray⟩
def lh{a b:B0}(h:a.data.toList=b.data.toList):a=b:=ByteArray.ext (Array.toList_inj.1 h)
def Vv(xs:List B0):(uZ xs).data.toList=Lib.join (xs.map (·.data.toList)) [32]:=by simp[uZ]
def Nj:uZ []=⟨#[]⟩:=rfl
def Po(x:B0):uZ [x]=x:=lh (by rw[Vv];simp[Lib.join_one])
def spB:B0:=⟨#[32]⟩
def Md(x y:B0)(xs:List B0):uZ (x::y::xs)=(x++spB)++uZ (y::xs):=lh (by
 rw[Vv];simp only[List.map_cons,Lib.join,List.intercalate,ByteArray.data_append,Array.toList_append,Vv];simp[List.intersperse,spB])
def cI(m:Nat):∀(l:List B0),(∀x∈l,x.size≤m)→(uZ l).size≤l.length*(m+1)
 | [],_=>by rw[Nj];exact Nat.zero_le _
 | [x],h=>by rw[Po];have:=h x (by simp);simp;omega
 | x::y::l,h=>by
  have h1:=h x (by simp);have h2:=cI m (y::l) λz hz=>h z (List.mem_cons_of_mem _ hz);have hs:spB.size=1:=rfl;rw[Md,ByteArray.size_append,ByteArray.size_append,hs];simp only[List.length_cons,Nat.add_mul]at h2 ⊢;omega
def jY(g:Nat):B0:=⟨(Lib.decDigits g).toArray⟩
def PG(g:Nat):(jY g).data.toList=Lib.decDigits g:=by simp[jY]
def Wt(g:Nat):(⟨(Lib.itoa (g:Int)).toArray⟩:B0)=jY g:=by
 unfold Lib.itoa jY;rw[if_neg (by omega)];simp
section
variable {w0 w w':World}{E:List Seg}{P:Program}
def St.below(h:St w0 E w)(hb:RowKit.Below w.heap.size w w'):St w0 E w':=by
 have hlt:∀k,k<w.heap.size→w'.heap[k]? = w.heap[k]? :=hb.block;refine⟨Nat.le_trans h.size hb.size,λb hb'=>?_,hb.os.trans h.os,hb.output.trans h.out,hb.tape.trans h.tape,λx hx=>?_,h.nd,λ_ _ _ _=>rfl⟩
 ·rw[hlt b (Nat.lt_of_lt_of_le hb' h.size)];exact h.old b hb'
 ·have:=h.own x hx;rw[hlt _ (Array.getElem?_eq_some_iff.1 this.2).1];exact this
def eTx(x:B0):List Value:=[.string x]
def Rw.texts{e:TypeId}{s:Seg}(h:St w0 E w)(k:Nat)(hi:nth E k=some s){g n cap off:Nat}{l:List B0}(hE:Enc eTx 1)(hr:Rw eTx e 1 ⟨some ⟨g,off,none⟩,n,cap⟩ l s) :
  (∀(j:Nat) x,l[j]? = some x→w.cell? ⟨g,off+j,none⟩=some (.string x))∧g<w.heap.size:=by
 have hr':=hr;constructor
 ·intro j x hx;have hn:=Vu hE hx (f:=0) (u:=Value.string x) rfl;simp only[Nat.mul_one,Nat.add_zero]at hn;have hc:=hr.cell h k hi rfl hn;rw[ja]at hc;exact hc
 ·unfold Rw at hr';generalize fl eTx l=xs at hr'
  cases hr' with
  | mk g n cap pre xs spare post h1 h2 h3 h4=>exact(Array.getElem?_eq_some_iff.1 (h.at k hi).2).1
def Ws{f:FuncId}{e:TypeId}{s:Seg}{v:Sl}{l:List B0}{sep:B0}(hsep:sep=spB)(hE:Enc eTx 1)
  (hc:∀g off cap w,(∀(j:Nat) x,l[j]? = some x→w.cell? ⟨g,off+j,none⟩=some (.string x))→g<w.heap.size→l.length≤cap→Calls P f #[.slice (some ⟨g,off,none⟩) l.length cap,.string sep] w λr w'=>r = .returned (.string ⟨(Lib.join (l.map (·.data.toList)) sep.data.toList).toArray⟩)∧RowKit.Below w.heap.size w w')
  (hc0:∀p cap w,Calls P f #[.slice p 0 cap,.string sep] w λr w'=>r = .returned (.string ⟨#[]⟩)∧w'=w)
  (h:St w0 E w) (k:Nat) (hi:nth E k=some s) (hr:Rw eTx e 1 v l s) {kk:B0→PT} (hk:∀w',St w0 E w'→kk (uZ l) w'):L.call P f [.slice v.a v.len v.cap,.string sep] (.one (.one .str)) kk w:=by
 have hlen:=Rw.len hE hr
 cases hl0:l with
 | nil=>
  subst hl0;simp only[List.length_nil]at hlen;rw[hlen];exact(hc0 v.a v.cap w).mono λr w' ⟨h1,h2⟩=>⟨uZ [],h1,by subst h2;exact hk _ h⟩
 | cons x l2=>
  have hpos:0<l.length:=by rw[hl0];simp
  have hcap:=hr.cap;obtain⟨va,vn,vc⟩:=v;have:∃g off,va=some ⟨g,off,none⟩:=by
   have hr':=hr;unfold Rw at hr';generalize fl eTx l=xs at hr'
   cases hr' with
   | nil=>simp at hlen;omega
   | mk=>exact⟨_,_,rfl⟩
  obtain⟨g,off,rfl⟩:=this;simp only at hlen hcap;subst hlen;obtain⟨hH,hlt⟩:=Rw.texts h k hi hE hr;refine(hc g off vc w hH hlt hcap.1).mono λr w' ⟨h1,h2⟩=>⟨uZ l,?_,hk _ (h.below h2)⟩;rw[h1,hsep];rfl
end
end Go.Dm
namespace Go.Proofs.YtimahgbgejngiaaGreatDoor
open Go.Dm
attribute [local irreducible] L.load L.store L.chk L.new L.nonnil L.guard L.ite L.draw L.idx L.sem L.semR L.semU L.chkSem L.next L.call L.callV L.join L.alts L.loop L.begin L.endRound L.range
variable {w0 w:World}{E:List Seg}
abbrev Rv:=HT [.str,.int .i64,.str,.int .i64,.int .i64,.int .i64,.int .i64,.int .i64]
abbrev eRv:E1:=.agg [.str,.int .i64,.str,.int .i64,.int .i64,.int .i64,.int .i64,.int .i64]
def vRv(t:Rv):Value:=eRv.val t
def GN:Rv:=(s_,0,s_,0,0,0,0,0,())
abbrev rvC(t:Rv):List Value:=[.string t.1,I t.2.1,.string t.2.2.1,I t.2.2.2.1,I t.2.2.2.2.1,I t.2.2.2.2.2.1,I t.2.2.2.2.2.2.1,I t.2.2.2.2.2.2.2.1]
abbrev Rv.cfg(t:Rv):Cfg:=t.2.2
def wG(name:B0)(gen:Int)(c:Cfg):Rv:=(name,gen,c)
structure Yk where
 all:List (B0×Rv)
 pv:List (B0×Bool)
structure Yk.Ok(a:Yk):Prop where
 name:∀p∈a.all,p.2.1=p.1∧p.1≠s_
 few:a.all.length<1000000
def FH:Pr.underlying zQ=some (.map zd zK):=by kernel_rfl
def oV:MK Pr zd Value.string:=CW XT
def zrv(w:World):(zeroValue zK).run Pr w = .ok (eRv.val GN) w:=by
 have h:(Pr.info? zK).map (·.zero)=some (some (.agg #[.string s_,I 0,.string s_,I 0,I 0,I 0,I 0,I 0])):=by kernel_rfl
 cases hi:Pr.info? zK with
 | none=>rw[hi]at h;cases h
 | some i=>rw[hi]at h;simp only[Option.map_some,Option.some.injEq]at h;exact zv hi h w
def XI(a:Yk)(rev:B0):Rv:=(zD a.all rev).getD GN
def YZ(a:Yk)(rev:B0):Bool:=(zD a.all rev).isSome
def Gf(a:Yk)(rev:B0):Bool:=(zD a.pv rev).getD false
abbrev bkB(b rA rP:Nat):Seg:=[Cl b Gi [.map (some rA),.map (some rP)]]
def BkS(b:Nat)(a:Yk)(s:Seg):Prop:=a.Ok∧∃rA rP sA sP,MpS Value.string vRv rA a.all sA∧MpS Value.string Value.bool rP a.pv sP∧s=bkB b rA rP++(sA++sP)
def Lr{r:Nat}{m:List (B0×Rv)}{s:Seg}(h:St w0 E w)(i:Nat)(hi:nth E i=some s)(hm:MpS Value.string vRv r m s){n:B0}{kk:eRv.T→PT}(hk:kk ((zD m n).getD GN) w) :
  L.semR Pr (.one eRv) (Instr.lookup zQ (.map (some r)) (.string n) false) kk w:=by
 refine MpS.get oV FH zrv (λt:Rv=>t) (λ_=>rfl) h i hi hm ?_;have:((zD m n).map λt:Rv=>t).getD GN=(zD m n).getD GN:=by cases zD m n<;>rfl
 rw[this];exact hk
def wJ{r:Nat}{m:List (B0×Rv)}{s:Seg}(h:St w0 E w)(i:Nat)(hi:nth E i=some s)(hm:MpS Value.string vRv r m s){n:B0}{kk:eRv.T×Bool×Unit→PT}(hk:kk ((zD m n).getD GN,(zD m n).isSome,()) w) :
  L.semR Pr (.tup [eRv,.one .bool]) (Instr.lookup zQ (.map (some r)) (.string n) true) kk w:=by
 refine MpS.get2 oV FH zrv (λt:Rv=>t) (λ_=>rfl) h i hi hm ?_;have:((zD m n).map λt:Rv=>t).getD GN=(zD m n).getD GN:=by cases zD m n<;>rfl
 rw[this];exact hk
def Rc(h:St w0 E w){k:Option Addr→PT}(hk:∀b s w',BkS b ⟨[],[]⟩ s→St w0 (s::E) w'→k (some ⟨b,0,none⟩) w'):L.call Pr kR [] (.one (.one .ptr)) k w:=by
 refine zc Cm ?_;unfold Fg;refine MpS.new h Value.string vRv λr s w hm h=>?_;refine MpS.new h Value.string Value.bool λr2 s2 w hm2 h=>?_;refine nw h ?_;clear h;intro b w h;refine⟨_,rfl,hk b _ w ⟨⟨by simp,by simp⟩,r,r2,s,s2,hm,hm2,rfl⟩ ?_⟩;have h:=ZR (ZR (Yx h));exact h.glue3
def ow(h:St w0 E w)(i:Nat){b:Nat}{a:Yk}{s:Seg}(hi:nth E i=some s)(hs:BkS b a s){rev:B0}{k:eRv.T×Bool×Unit→PT}(hk:∀w',St w0 E w'→k (XI a rev,YZ a rev,()) w') :
  L.call Pr YO [pO b,.string rev] (.tup [eRv,.one .bool]) k w:=by
 obtain⟨ok,rA,rP,sA,sP,hA,hP,rfl⟩:=hs;refine zc (fx _ _) ?_;unfold vH;have h:=(h.front i hi).split3;refine nw h ?_;clear h;intro b1 w h
 (refine nn ?_;refine ldC h ?_)
 refine wJ h 2 rfl hA ?_;unfold XI YZ at hk;generalize (zD a.all rev).getD GN=t at hk;refine nw h ?_;clear h;intro b5 w h
 (refine stC h ?_;clear h;intro w h;dsimp only[zP,ze]at h;refine laC h ?_;refine stC h ?_;clear h;intro w h;dsimp only[zP,ze]at h;refine laC h ?_)
 exact⟨(t,_,()),rfl,hk w (St.again i hi (zy (zy h)).glue3)⟩
def rb(a:Yk)(rev:B0):Yk×Int:=if YZ a rev=true then(⟨a.all,Zl a.pv rev true⟩,0)else(a,6)
def Jp(a:Yk)(c:Cfg)(gen:Nat):Yk×B0×Bool:=
 if YZ a (xb c.1 gen)=true then(a,xb c.1 gen,false)else(⟨Zl a.all (xb c.1 gen) (wG (xb c.1 gen) gen c),a.pv⟩,xb c.1 gen,true)
def Lt(c:B0){g:Nat}(hg:g<100):xb c g≠s_:=λe=>by
 have:=mD c hg;rw[e]at this;have h0:s_.size=0:=rfl;omega
def bi(w:World):(do eqGuard .neq zK (.tmp 0) (.tmp 0) (.agg (rvC GN).toArray) (.agg #[.string s_,I 0,.string s_,I 0,I 0,I 0,I 0,I 0]);binOp .neq zK (.agg (rvC GN).toArray) (.agg #[.string s_,I 0,.string s_,I 0,I 0,I 0,I 0,I 0]):Sem Value).run Pr w = .ok (.bool false) w:=by kernel_rfl
def bh(t:Rv)(ht:t.1≠s_)(w:World):(do eqGuard .neq zK (.tmp 0) (.tmp 0) (.agg (rvC t).toArray) (.agg #[.string s_,I 0,.string s_,I 0,I 0,I 0,I 0,I 0]);binOp .neq zK (.agg (rvC t).toArray) (.agg #[.string s_,I 0,.string s_,I 0,I 0,I 0,I 0,I 0]):Sem Value).run Pr w = .ok (.bool true) w:=by
 refine bj (r:=false) (by kernel_rfl) ?_;have hS:Pr.underlying zK=some (.struct (Pr.fieldsOf zK)):=by kernel_rfl
 have hp:Pr.stoodInHeld zK=false:=by kernel_rfl
 rw[show(10000:Nat)=9999+1 from rfl,run_equalIn_agg w 9999 zK _ _ hS hp];have u9:=Tryz.underlying9;have i9:=Tryz.isAgg9;have z9:=Tryz.sizeOf9;simp only[Program.fieldsOf,Tryz.underlying210]
 go_simp
 have e:¬(ByteArray.toList t.1=ByteArray.toList s_):=λe=>ht (by
  have:(@BEq.beq B0 _ t.1 s_)=true:=by rw[beq_toListBytes];simp[e]
  exact dD.1 this)
 simp[e]
abbrev Thg:=HT [.str,.int .i64,.int .i64,.int .i64,.int .i64,.int .i64,.int .i64,.int .i64,.bool]
abbrev Nt:E1:=.agg [.str,.int .i64,.int .i64,.int .i64,.int .i64,.int .i64,.int .i64,.int .i64,.bool]
def RE(t:Thg):Value:=Nt.val t
def DL:Thg:=(s_,0,0,0,0,0,0,0,false,())
abbrev Thg.ver(t:Thg):Int:=t.2.2.2.2.2.2.1
abbrev Thg.gen(t:Thg):Int:=t.2.2.2.2.2.2.2.1
abbrev Thg.is(t:Thg):Bool:=t.2.2.2.2.2.2.2.2.1
def TE(c:Cfg)(ver gen:Int)(is:Bool):Thg:=(c.1,c.2.1,c.2.2.1,c.2.2.2.1,c.2.2.2.2.1,c.2.2.2.2.2.1,ver,gen,is,())
def Ty:Pr.underlying zS=some (.map zd zz):=by kernel_rfl
def mkS:MK Pr zd Value.string:=CW XT
def AB(w:World):(zeroValue zz).run Pr w = .ok (Nt.val DL) w:=by
 have h:(Pr.info? zz).map (·.zero)=some (some (.agg #[.string s_,I 0,I 0,I 0,I 0,I 0,I 0,I 0,.bool false])):=by kernel_rfl
 cases hi:Pr.info? zz with
 | none=>rw[hi]at h;cases h
 | some i=>rw[hi]at h;simp only[Option.map_some,Option.some.injEq]at h;exact zv hi h w
def jk(m:List (B0×Thg))(n:B0):Thg:=(zD m n).getD DL
def PN(b:Nat)(m:List (B0×Thg))(s:Seg):Prop:=∃r sm,MpS Value.string RE r m sm∧s = [Cl b Zi [.map (some r),.func (.func ZJ) #[] #[]]]++sm
def NX{r:Nat}{m:List (B0×Thg)}{s:Seg}(h:St w0 E w)(i:Nat)(hi:nth E i=some s)(hm:MpS Value.string RE r m s){n:B0}{kk:Nt.T→PT}(hk:kk (jk m n) w) :
  L.semR Pr (.one Nt) (Instr.lookup zS (.map (some r)) (.string n) false) kk w:=by
 refine MpS.get mkS Ty AB (λt:Thg=>t) (λ_=>rfl) h i hi hm ?_;have:((zD m n).map λt:Thg=>t).getD DL=jk m n:=by unfold jk;cases zD m n<;>rfl
 rw[this];exact hk
def rQ(h:St w0 E w){k:Option Addr→PT}(hk:∀b s w',PN b [] s→St w0 (s::E) w'→k (some ⟨b,0,none⟩) w') :
  L.call Pr jS [.func (.func ZJ) #[] #[]] (.one (.one .ptr)) k w:=by
 refine zc (vV ⟨.func ZJ,#[],#[]⟩) ?_;unfold XN;refine MpS.new h Value.string RE λr s w hm h=>?_;refine nw h ?_;clear h;intro b w h;exact⟨_,rfl,hk b _ w ⟨r,s,hm,rfl⟩ h.glue⟩
def GR(t:Thg)(ver:Int)(fresh:Bool):Int:=
 if fresh=true∧ver=0 then(if t.is=true then 5 else 0)else if t.is=true then(if t.ver=ver then 0 else 7)else 6
def bY(h:St w0 E w)(i:Nat){b:Nat}{m:List (B0×Thg)}{s:Seg}(hi:nth E i=some s)(hs:PN b m s){n:B0}{ver:Int}{fresh:Bool}{k:Int→PT}(hk:∀w',St w0 E w'→k (GR (jk m n) ver fresh) w') :
  L.call Pr YG [pO b,.string n,I ver,.bool fresh] (.one (.one (.int .i64))) k w:=by
 obtain⟨r,sm,hm,rfl⟩:=hs;refine zc (ut _ _ _ _) ?_;unfold JZ;have h:=(h.front i hi).split
 (refine nn ?_;refine ldC h ?_)
 refine NX h 1 rfl hm ?_;generalize jk m n=t at hk;refine nw h ?_;clear h;intro b4 w h
 (refine stC h ?_;clear h;intro w h;dsimp only[zP,ze]at h)
 have fin:∀{e:Int}{w:World},e=GR t ver fresh→St w0 ([Cl b4 zz [.string t.1,I t.2.1,I t.2.2.1,I t.2.2.2.1,I t.2.2.2.2.1,I t.2.2.2.2.2.1,I t.2.2.2.2.2.2.1,I t.2.2.2.2.2.2.2.1,.bool t.2.2.2.2.2.2.2.2.1]]::[Cl b Zi [.map (some r),.func (.func ZJ) #[] #[]]]::sm::ZE E i) w→
   ∃x,I e=RT.val (.one (.one (.int .i64))) x∧k x w:=by
  rintro e w rfl h;exact⟨_,rfl,hk w (St.setN_same' i hi (St.back i hi (zy h).glue))⟩
 have c2:∀{k5:Unit→PT}{w:World},¬(fresh=true∧ver=0)→(∀{w},GR t ver fresh=0→St w0 ([Cl b4 zz [.string t.1,I t.2.1,I t.2.2.1,I t.2.2.2.1,I t.2.2.2.2.1,I t.2.2.2.2.2.1,I t.2.2.2.2.2.2.1,I t.2.2.2.2.2.2.2.1,.bool t.2.2.2.2.2.2.2.2.1]]::[Cl b Zi [.map (some r),.func (.func ZJ) #[] #[]]]::sm::ZE E i) w→k5 () w)→
   St w0 ([Cl b4 zz [.string t.1,I t.2.1,I t.2.2.1,I t.2.2.2.1,I t.2.2.2.2.1,I t.2.2.2.2.2.1,I t.2.2.2.2.2.2.1,I t.2.2.2.2.2.2.2.1,.bool t.2.2.2.2.2.2.2.2.1]]::[Cl b Zi [.map (some r),.func (.func ZJ) #[] #[]]]::sm::ZE E i) w→
   L.load (.one (.bool)) ((⟨b4,0,none⟩:Addr).add 8) (λ(x18:Bool)=>
   L.ite (!x18) (
    λw=>∃x,Value.int .i64 6=RT.val (.one (.one (.int .i64))) x∧k x w)<|
   L.load (.one (.int .i64)) ((⟨b4,0,none⟩:Addr).add 6) λ(x19:Int)=>
   L.ite (x19 != ver) (
    λw=>∃x,Value.int .i64 7=RT.val (.one (.one (.int .i64))) x∧k x w)<|
   k5 (())) w:=by
  intro k5 w hf hk5 h
  (refine ldC h ?_)
  refine it (λh1=>?_) (λh1=>?_)<;>(try simp only[zB]at h1)
  ·exact fin (by unfold GR;rw[if_neg hf,if_neg (by simp[Thg.is,h1])]) h
  (refine ldC h ?_)
  have h1:t.is=true:=by simpa using h1
  refine it (λh2=>?_) (λh2=>?_)<;>(try simp only[zB]at h2)
  ·exact fin (by unfold GR;rw[if_neg hf,if_pos h1,if_neg h2]) h
  ·exact hk5 (by unfold GR;rw[if_neg hf,if_pos h1,if_pos h2]) h
 refine ZA (λz w=>GR t ver fresh=0∧St w0 ([Cl b4 zz [.string t.1,I t.2.1,I t.2.2.1,I t.2.2.2.1,I t.2.2.2.2.1,I t.2.2.2.2.2.1,I t.2.2.2.2.2.2.1,I t.2.2.2.2.2.2.2.1,.bool t.2.2.2.2.2.2.2.2.1]]::[Cl b Zi [.map (some r),.func (.func ZJ) #[] #[]]]::sm::ZE E i) w) (λk5 hk5=>?_) (λz w ⟨hz,h⟩=>fin hz.symm h)
 cases fresh with
 | false=>exact itF rfl (itF rfl (c2 (by simp) (λh1 h=>hk5 _ _ ⟨h1,h⟩) h))
 | true=>
  refine itT rfl ?_;refine it (λhv=>?_) (λhv=>?_)<;>(try simp only[zB]at hv)
  ·(refine ldC h ?_)
   refine it (λh1=>?_) (λh1=>?_)<;>(try simp only[zB]at h1)
   ·exact fin (by unfold GR;rw[if_pos ⟨rfl,hv⟩,if_pos h1]) h
   ·refine itT rfl (itT (by simp[hv]) ?_);exact fin (by unfold GR;rw[if_pos ⟨rfl,hv⟩,if_neg (by simp[Thg.is,h1])]) h
  ·refine itT rfl (itF (by simp[hv]) ?_);exact c2 (λhh=>hv hh.2) (λh1 h=>hk5 _ _ ⟨h1,h⟩) h
def bZ(h:St w0 E w)(i:Nat){b:Nat}{m:List (B0×Thg)}{s:Seg}(hi:nth E i=some s)(hs:PN b m s){n:B0}{k:Nt.T×Bool×Unit→PT}(hk:∀w',St w0 E w'→k (jk m n,(jk m n).is,()) w') :
  L.call Pr YH [pO b,.string n] (.tup [Nt,.one .bool]) k w:=by
 obtain⟨r,sm,hm,rfl⟩:=hs;refine zc (uu _ _) ?_;unfold xa;have h:=(h.front i hi).split;refine nw h ?_;clear h;intro b1 w h
 (refine nn ?_;refine ldC h ?_)
 refine NX h 2 rfl hm ?_;generalize jk m n=t at hk;refine nw h ?_;clear h;intro b5 w h
 (refine stC h ?_;clear h;intro w h;dsimp only[zP,ze]at h;refine dr h ?_;clear h;intro w h;refine laC h ?_;refine ldC h ?_;refine stC h ?_;clear h;intro w h;dsimp only[zP,ze]at h;refine ckC h ?_;refine laC h ?_)
 exact⟨(t,t.is,()),rfl,hk w (St.setN_same' i hi (St.back i hi (zy (zy h)).glue))⟩
def vq(a b:Cfg):Bool:=(a.1 == b.1)&&((a.2.1 == b.2.1)&&((a.2.2.1 == b.2.2.1)&&((a.2.2.2.1 == b.2.2.2.1)&&((a.2.2.2.2.1 == b.2.2.2.2.1)&&((a.2.2.2.2.2.1 == b.2.2.2.2.2.1)&&true)))))
def WO(a b:Cfg)(w:World):(Op.equalIn 10000 zq (.agg (Cfg.cells a).toArray) (.agg (Cfg.cells b).toArray)).run Pr w = .ok (vq a b) w:=by
 have hS:Pr.underlying zq=some (.struct (Pr.fieldsOf zq)):=by kernel_rfl
 have hp:Pr.stoodInHeld zq=false:=by kernel_rfl
 obtain⟨a1,a2,a3,a4,a5,a6,⟨⟩⟩:=a;obtain⟨b1,b2,b3,b4,b5,b6,⟨⟩⟩:=b;rw[show(10000:Nat)=9999+1 from rfl,run_equalIn_agg w 9999 zq _ _ hS hp];have u3:=Tryz.underlying3;have i3:=Tryz.isAgg3;have z3:=Tryz.sizeOf3;have u9:=Tryz.underlying9;have i9:=Tryz.isAgg9;have z9:=Tryz.sizeOf9;simp only[Program.fieldsOf,Tryz.underlying23]
 go_simp
 have e:(ByteArray.toList a1=ByteArray.toList b1)↔(@BEq.beq B0 _ a1 b1)=true:=by rw[beq_toListBytes];simp
 unfold vq;by_cases h1:(@BEq.beq B0 _ a1 b1)=true
 ·rw[if_pos (e.2 h1)];simp only[show(a1 == b1)=true from h1,Bool.true_and];by_cases h2: @Eq Int a2 b2
  ·by_cases h3: @Eq Int a3 b3
   ·by_cases h4: @Eq Int a4 b4
    ·by_cases h5: @Eq Int a5 b5
     ·by_cases h6: @Eq Int a6 b6
      ·cases h2;cases h3;cases h4;cases h5;cases h6;simp
      ·cases h2;cases h3;cases h4;cases h5;simp[h6]
     ·cases h2;cases h3;cases h4;simp[h5]
    ·cases h2;cases h3;simp[h4]
   ·cases h2;simp[h3]
  ·simp[h2]
 ·rw[if_neg (λh=>h1 (e.1 h))];have:(a1 == b1)=false:=by simpa using h1
  simp[this]
def WQ(a b:Cfg)(w:World):(do eqGuard .eql zq (.tmp 0) (.tmp 0) (.agg (Cfg.cells a).toArray) (.agg (Cfg.cells b).toArray);binOp .eql zq (.agg (Cfg.cells a).toArray) (.agg (Cfg.cells b).toArray):Sem Value).run Pr w = .ok (.bool (vq a b)) w:=
 WR (by kernel_rfl) (WO a b w)
def rE(h:St w0 E w){a b:Cfg}{k:Bool→PT}(hk:∀w',St w0 E w'→k (vq a b) w') :
  L.callV Pr (.func (.func ZJ) #[] #[]) [.agg (Cfg.cells a).toArray,.agg (Cfg.cells b).toArray] (.one (.one .bool)) k w:=by
 refine Qr (fs:=#[]) (cs:=#[]) pj (pr a b) ?_;unfold Oi;refine nw h ?_;clear h;intro b1 w h;refine nw h ?_;clear h;intro b2 w h
 (refine laC h ?_;refine laC h ?_)
 unfold L.chkSem;refine⟨WQ a b w,_,rfl,?_⟩;exact hk w (zy (zy h))
def VN(t:Thg):Cfg:=(t.1,t.2.1,t.2.2.1,t.2.2.2.1,t.2.2.2.2.1,t.2.2.2.2.2.1,())
def nT(m:List (B0×Thg))(n:B0)(c:Cfg)(ver:Int):List (B0×Thg):=
 Zl m n (TE c ver (if(jk m n).is=true∧vq (VN (jk m n)) c=true then(jk m n).gen else(jk m n).gen+1) true)
def bV(h:St w0 E w)(i:Nat){b:Nat}{m:List (B0×Thg)}{s:Seg}(hi:nth E i=some s)(hs:PN b m s){n:B0}{c:Cfg}{ver:Int}(hg:0≤(jk m n).gen∧(jk m n).gen<4611686018427387904){k:Unit→PT}
  (hk:∀s' w',PN b (nT m n c ver) s'→St w0 (ze E i s') w'→k () w') :
  L.call Pr YF [pO b,.string n,.agg (Cfg.cells c).toArray,I ver] (.tup []) k w:=by
 obtain⟨r,sm,hm,rfl⟩:=hs;refine zc (ur _ _ c _) ?_;unfold JY;unfold nT at hk;have h:=(h.front i hi).split;refine nw h ?_;clear h;intro b1 w h
 (refine nn ?_;refine ldC h ?_)
 refine NX h 2 rfl hm ?_;generalize jk m n=t at hk hg;refine nw h ?_;clear h;intro b5 w h
 (refine stC h ?_;clear h;intro w h;dsimp only[zP,ze]at h)
 let cells:Int→List Value:=λg=>[.string t.1,I t.2.1,I t.2.2.1,I t.2.2.2.1,I t.2.2.2.2.1,I t.2.2.2.2.2.1,I t.2.2.2.2.2.2.1,I g,.bool t.2.2.2.2.2.2.2.2.1]
 have hw:Wi (t.gen+1)=t.gen+1:=wr (by omega) (by omega);refine ZA (λz w=>St w0 ([Cl b5 zz (cells (if t.is=true∧vq (VN t) c=true then t.gen else t.gen+1))]::[Cl b1 zq (Cfg.cells c)]::[Cl b Zi [.map (some r),.func (.func ZJ) #[] #[]]]::sm::ZE E i) w) (λk6 hk6=>?_) (λz w h=>?_)
 ·have h:St w0 ([Cl b5 zz (cells t.gen)]::[Cl b1 zq (Cfg.cells c)]::[Cl b Zi [.map (some r),.func (.func ZJ) #[] #[]]]::sm::ZE E i) w:=h;dsimp only[cells]at h hk6
  have more:∀{w},¬(t.is=true∧vq (VN t) c=true)→St w0 ([Cl b5 zz [.string t.1,I t.2.1,I t.2.2.1,I t.2.2.2.1,I t.2.2.2.2.1,I t.2.2.2.2.2.1,I t.2.2.2.2.2.2.1,I t.gen,.bool t.2.2.2.2.2.2.2.2.1]]::[Cl b1 zq (Cfg.cells c)]::[Cl b Zi [.map (some r),.func (.func ZJ) #[] #[]]]::sm::ZE E i) w→
    L.load (.one (.int .i64)) ((⟨b5,0,none⟩:Addr).add 7) (λ(x9:Int)=>
     L.store ((⟨b5,0,none⟩:Addr).add 7) [.int .i64 (Wi (x9+1))]<| k6 (())) w:=by
   intro w hn h
   (refine ldC h ?_;refine stC h ?_;clear h;intro w h;dsimp only[zP,ze]at h)
   rw[hw]at h;refine hk6 _ w ?_;rw[if_neg hn];exact h
  (refine dr h ?_;clear h;intro w h;refine ldC h ?_)
  refine it (λh1=>?_) (λh1=>?_)<;>(try simp only[zB]at h1)
  ·exact more (λhh=>by have:=hh.1;simp only[Thg.is]at this;rw[h1]at this;cases this) h
  ·have h1:t.is=true:=by simpa using h1
   (refine nn ?_;refine ldC h ?_;refine laC h ?_;refine laC h ?_)
   refine rE (a:=VN t) (b:=c) h λw h=>?_;refine it (λh2=>?_) (λh2=>?_)<;>(try simp only[zB]at h2)
   ·exact more (λhh=>by rw[hh.2]at h2;cases h2) h
   ·have h2:vq (VN t) c=true:=by simpa using h2
    refine hk6 _ w ?_;rw[if_pos ⟨h1,h2⟩];exact h
 ·dsimp only[cells]at h
  (refine dr h ?_;clear h;intro w h;refine nn ?_;refine ldC h ?_;refine laC h ?_;refine ldC h ?_)
  refine MpS.set mkS Ty h 3 rfl hm (TE c ver (if t.is=true∧vq (VN t) c=true then t.gen else t.gen+1) true) rfl λsm' w hm' h=>?_;exact⟨(),rfl,hk _ w ⟨r,sm',hm',rfl⟩ (St.back i hi (zy (zy h)).glue)⟩
abbrev Tgt:=HT [.str,.str,.int .i64]
def eT(t:Tgt):List Value:=[.string t.1,.string t.2.1,I t.2.2.1]
def GZ:Enc eT 3:=⟨λ_=>rfl,λ_=>rfl,by decide⟩
structure ARt where
 name:B0
 cfg:B0
 ts:List Tgt
 roll:Int
abbrev Thr:=HT [.str,.str,.slice,.int .i64,.int .i64,.int .i64,.bool]
abbrev sE:E1:=.agg [.str,.str,.slice,.int .i64,.int .i64,.int .i64,.bool]
abbrev Thr.ver(t:Thr):Int:=t.2.2.2.2.1
abbrev Thr.gen(t:Thr):Int:=t.2.2.2.2.2.1
abbrev Thr.is(t:Thr):Bool:=t.2.2.2.2.2.2.1
def RD(t:Thr):Value:=sE.val t
structure FG where
 r:ARt
 ver:Int
 gen:Int
 is:Bool
def be:FG:=⟨⟨s_,s_,[],0⟩,0,0,false⟩
structure RtE where
 k:B0
 t:Thr
 ts:List Tgt
 sg:Seg
def RtE.ok(x:RtE):Prop:=Rw eT zU 3 x.t.2.2.1 x.ts x.sg
def RtE.abs(x:RtE):FG:=⟨⟨x.t.1,x.t.2.1,x.ts,x.t.2.2.2.1⟩,x.t.ver,x.t.gen,x.t.is⟩
abbrev RtE.kt(x:RtE):B0×Thr:=(x.k,x.t)
abbrev RtE.ka(x:RtE):B0×FG:=(x.k,x.abs)
def ox(m:List (B0×FG))(n:B0):FG:=(zD m n).getD be
def nA(b:Nat)(m:List (B0×FG))(s:Seg):Prop:=∃r sm,∃Q:List RtE,MpS Value.string RD r (Q.map RtE.kt) sm∧(∀x∈Q,x.ok)∧m=Q.map RtE.ka∧
 s = [Cl b Jr [.map (some r),.func (.func jR) #[] #[]]]++(sm++(Q.map RtE.sg).flatten)
def rO(h:St w0 E w){k:Option Addr→PT}(hk:∀b s w',nA b [] s→St w0 (s::E) w'→k (some ⟨b,0,none⟩) w') :
  L.call Pr Jh [.func (.func jR) #[] #[]] (.one (.one .ptr)) k w:=by
 refine zc (VE ⟨.func jR,#[],#[]⟩) ?_;unfold ql;refine MpS.new h Value.string RD λr s w hm h=>?_;refine nw h ?_;clear h;intro b w h;exact⟨_,rfl,hk b _ w ⟨r,s,[],hm,by simp,rfl,by simp⟩ h.glue⟩
def LN(is:Bool)(tv ver:Int)(fresh:Bool):Int:=
 if fresh=true∧ver=0 then(if is=true then 5 else 0)else if is=true then(if tv=ver then 0 else 7)else 6
def nA.put{r b:Nat}{Q:List RtE}{sm:Seg}(x:RtE)(hx:x.ok)(hQ:∀x∈Q,x.ok)(hm:MpS Value.string RD r (Zl (Q.map RtE.kt) x.k x.t) sm)
  (h:St w0 (x.sg::(Q.map RtE.sg).flatten::[Cl b Jr [.map (some r),.func (.func jR) #[] #[]]]::sm::E) w) :
  ∃s,nA b (Zl (Q.map RtE.ka) x.k x.abs) s∧St w0 (s::E) w:=by
 have e1:=kX (key:=RtE.k) RtE.t x Q;have e2:=kX (key:=RtE.k) RtE.abs x Q;have h:=St.lput (key:=RtE.k) h;refine⟨_,⟨r,sm,lput RtE.k Q x,by rw[e1];exact hm,λy hy=>?_,e2.symm,rfl⟩,?_⟩
 ·rcases mY hy with rfl | hy
  ·exact hx
  ·exact hQ y hy
 ·have h:=ZR (ZR h);exact h.glue3
def bG(m:List (B0×FG))(n:B0):List (B0×FG):=Zl m n ⟨⟨s_,s_,[],0⟩,0,(ox m n).gen,false⟩
def bO(l:List B0)(m:Nat):TT [.one .str]:=((l[m]?).getD s_,())
def nb{l:List B0}{m:Nat}{x:B0}(h:l[m]? = some x):bO l m=(x,()):=by simp[bO,h]
structure jn where
 m:List (B0×Thg)
 r:List (B0×FG)
 n:Int
structure jn.Ok(a:jn):Prop where
 lo:0≤a.n
 hi:a.n<1000000000
 gen:∀x,0≤(jk a.m x).gen∧(jk a.m x).gen≤a.n
 fm:a.m.length≤a.n
 fr:a.r.length≤a.n
abbrev shB(b bc br:Nat)(n:Int):Seg:=[Cl b oY [.pointer (some ⟨bc,0,none⟩),.pointer (some ⟨br,0,none⟩),I n]]
def ShS(b:Nat)(a:jn)(s:Seg):Prop:=a.Ok∧∃bc br sc sr,PN bc a.m sc∧nA br a.r sr∧s=shB b bc br a.n++(sc++sr)
def TG(m:List (B0×Thg))(n x:B0)(t:Thg):jk (Zl m n t) x=if n=x then t else jk m x:=by
 unfold jk;rw[XE];split<;>rfl
def DN{κ υ:Type}[DecidableEq κ](m:List (κ×υ))(k:κ)(u:υ):(Zl m k u).length≤m.length+1:=by
 cases h:zD m k with
 | none=>rw[jW h];simp
 | some v=>rw[mR h];omega
def UF(a:jn)(c:Cfg)(ver:Int):jn×Int×Int:=
 if qq c≠0 then(a,0,qq c)else if GR (jk a.m c.1) ver true≠0 then(a,0,GR (jk a.m c.1) ver true)else(⟨nT a.m c.1 c (a.n+1),a.r,a.n+1⟩,a.n+1,0)
def rC(h:St w0 E w)(i:Nat){b:Nat}{a:jn}{s:Seg}(hi:nth E i=some s)(hs:ShS b a s)(hn:a.n<900000000){c:Cfg}{ver:Int}{k:Int×Int×Unit→PT}
  (hk:∀s' w',ShS b (UF a c ver).1 s'→St w0 (ze E i s') w'→k ((UF a c ver).2.1,(UF a c ver).2.2,()) w') :
  L.call Pr jT [pO b,.agg (Cfg.cells c).toArray,I ver] (.tup [.one (.int .i64),.one (.int .i64)]) k w:=by
 have hs0:=hs;obtain⟨ok,bc,br,sc,sr,hC,hR,rfl⟩:=hs;have hlo:=ok.lo;refine zc (vW _ c _) ?_;unfold XO;have h:=(h.front i hi).split3;refine nw h ?_;clear h;intro b1 w h
 (refine laC h ?_)
 refine nj (c:=c) h λw h=>?_;unfold UF at hk;refine jd ?_;refine it (λhe=>?_) (λhe=>?_)<;>(try simp only[zB]at he)
 ·(refine dr h ?_;clear h;intro w h;refine nn ?_;refine ldC h ?_;refine ldC h ?_)
  refine bY h 2 rfl hC λw h=>?_;rw[if_neg (by simpa using he)]at hk;refine it (λhm=>?_) (λhm=>?_)<;>(try simp only[zB]at hm)
  ·rw[if_pos hm]at hk;exact⟨_,rfl,hk _ w hs0 (St.back i hi (zy h).glue3)⟩
  ·rw[if_neg (by simpa using hm)]at hk
   (refine nn ?_;refine ldC h ?_;refine nn ?_;refine stC h ?_;clear h;intro w h;dsimp only[zP,ze]at h;refine dr h ?_;clear h;intro w h;refine nn ?_;refine ldC h ?_;refine ldC h ?_;refine laC h ?_;refine nn ?_;refine ldC h ?_)
   rw[wr (by omega) (by omega)]at h ⊢;have hgc:=ok.gen c.1;refine bV (c:=c) h 2 rfl hC (by omega) λsc' w hC' h=>?_;have h:St w0 ([Cl b1 zq (Cfg.cells c)]::shB b bc br (a.n+1)::sc'::sr::ZE E i) w:=h
   (refine nn ?_;refine ldC h ?_)
   refine⟨(a.n+1,0,()),rfl,hk _ w ⟨⟨by simp only;omega,by simp only;omega,λx=>?_,?_,?_⟩,bc,br,sc',sr,hC',hR,rfl⟩ (St.back i hi (zy h).glue3)⟩
   ·simp only[nT];rw[TG];have hx:=ok.gen x;split
    ·simp only[TE,Thg.gen];split<;>constructor<;>(simp only[Thg.gen]at hgc ⊢;omega)
    ·omega
   ·have:=ok.fm;have:=DN a.m c.1 (TE c (a.n+1) (if(jk a.m c.1).is=true∧vq (VN (jk a.m c.1)) c=true then(jk a.m c.1).gen else(jk a.m c.1).gen+1) true);simp only[nT];omega
   ·have:=ok.fr;simp only;omega
 ·refine it (λhm=>?_) (λhm=>?_)<;>(try simp only[zB]at hm)
  ·rw[if_pos he]at hk;exact⟨_,rfl,hk _ w hs0 (St.back i hi (zy h).glue3)⟩
  ·exact(he hm).elim
def ra{T:List (B0×Rv)}{n:B0}(h:∀p∈T,p.2.1=p.1∧p.1≠s_){t:Rv}(hm:zD T n=some t):t.1=n∧n≠s_:=by
 have:=jX hm;have h2:=h _ this;exact h2
def bm(x6:Rv):Bool:=!((x6.1 == s_)&&((x6.2.1 == 0)&&((x6.2.2.1 == s_)&&((x6.2.2.2.1 == 0)&&((x6.2.2.2.2.1 == 0)&&((x6.2.2.2.2.2.1 == 0)&&((x6.2.2.2.2.2.2.1 == 0)&&((x6.2.2.2.2.2.2.2.1 == 0)&&true))))))))
def Rr{t:Rv}(ht:t.1≠s_):bm t=true:=by
 have:(t.1 == s_)=false:=by
  cases e:(t.1 == s_) with
  | false=>rfl
  | true=>exact absurd (dD.1 e) ht
 unfold bm;rw[this];rfl
def NO(h:St w0 E w)(i:Nat){b:Nat}{a:Yk}{s:Seg}(hi:nth E i=some s)(hs:BkS b a s){c:Cfg}{g:Nat}(hc:ZM c.1.data.toList 16=true)(h1:1≤g)(hg:g<100)(hf:a.all.length<999999){k:B0×Bool×Unit→PT}
  (hk:∀s' w',BkS b (Jp a c g).1 s'→St w0 (ze E i s') w'→k ((Jp a c g).2.1,(Jp a c g).2.2,()) w') :
  L.call Pr Xk [pO b,.agg (Cfg.cells c).toArray,I g] (.tup [.one .str,.one .bool]) k w:=by
 have hs0:=hs;obtain⟨ok,rA,rP,sA,sP,hA,hP,rfl⟩:=hs;refine zc (gg _ c _) ?_;unfold Ul;have hne:=Lt c.1 hg;unfold Jp YZ at hk;have h:=(h.front i hi).split3;refine nw h ?_;clear h;intro b1 w h
 (refine ldC h ?_)
 refine Ax h XT hc h1 hg λw h=>?_;generalize xb c.1 g=rev at hk hne;refine itF (by rw[JI];exact decide_eq_false hne) ?_
 (refine nn ?_;refine ldC h ?_)
 refine Lr h 2 rfl hA ?_;unfold L.chkSem
 cases hm:zD a.all rev with
 | none=>
  rw[hm]at hk;refine⟨bi w,itF rfl ?_⟩;rw[if_neg (by simp)]at hk
  (refine dr h ?_;clear h;intro w h;refine nn ?_;refine ldC h ?_;refine laC h ?_)
  refine MpS.set oV FH h 2 rfl hA (wG rev g c) rfl λsA' w hA' h=>?_;dsimp only[ze]at h;refine⟨(rev,true,()),rfl,hk _ w ⟨⟨?_,?_⟩,rA,rP,sA',sP,hA',hP,rfl⟩ (St.back i hi (zy h).glue3)⟩
  ·intro p hp;rcases yR hp with rfl | hp
   ·exact⟨rfl,hne⟩
   ·exact ok.name p hp
  ·have:=DN a.all rev (wG rev g c);show(Zl a.all rev (wG rev g c)).length<1000000;omega
 | some t=>
  rw[hm]at hk;have ht:=ra ok.name hm;have ht1:t.1≠s_:=by rw[ht.1];exact ht.2
  dsimp only[Option.getD];refine⟨(bh t ht1 w).trans (by show _=Result.ok (Value.bool (bm t)) w;rw[Rr ht1]),itT (Rr ht1) ?_⟩;rw[if_pos (by rfl)]at hk;exact⟨(rev,false,()),rfl,hk _ w hs0 (St.back i hi (zy h).glue3)⟩
def NP(h:St w0 E w)(i:Nat){s:Seg}(hi:nth E i=some s){r:Nat}{m:List (B0×Rv)}(hm:MpS Value.string vRv r m s)(hn:m.length<1000000000){k:Sl→PT}
  (hk:∀v s' w',Rw eS zd 1 v (Yc (m.map (·.1))) s'→St w0 (s'::E) w'→k v w'):L.call Pr yN [.map (some r)] (.one (.one .slice)) k w:=by
 refine zc (qm _) ?_;unfold ju;refine zc (Yr _) ?_;unfold ZQ;have h:=h.front i hi;refine nw h ?_;clear h;intro c w h;refine⟨⟨.func zr,#[],#[.pointer (some ⟨c,0,none⟩)]⟩,rfl,?_⟩;have hY:Cb Pr w0 [[Cl c zQ [.map (some r)]],s] (.func (.func zr) #[] #[.pointer (some ⟨c,0,none⟩)]) (m.map (·.1)) Value.string:=by
  intro yv R J Jd F w h hJ step fin fin2;refine⟨Yh,Yi yv ⟨c,0,none⟩ ?_⟩;unfold ZI;exact tO (kv:=Value.string) (vv:=vRv) unS (λ_=>rfl) FH (lk:=.str) (ev:=eRv) (λx=>x) (λ_=>rfl) (λx:Rv=>x) (λ_=>rfl) J Jd hm h hJ (λseen k F X w hl hJ h=>step seen k F X w (by simpa using hl) hJ h) fin fin2
 refine Oc (fv:=⟨.func zr,#[],#[.pointer (some ⟨c,0,none⟩)]⟩) hY h (by simpa using hn) λv s' w hr h=>⟨v,rfl,hk v s' w hr ?_⟩;have h:=Yx h;exact St.again (i+1) (E:=s'::E) hi h
def Kl(a:Yk):List B0:=Yc (a.all.map (·.1))
def Re(h:St w0 E w)(i:Nat){b:Nat}{a:Yk}{s:Seg}(hi:nth E i=some s)(hs:BkS b a s){k:Sl→PT}(hk:∀v s' w',Rw eS zd 1 v (Kl a) s'→St w0 (s'::E) w'→k v w') :
  L.call Pr qK [pO b] (.one (.one .slice)) k w:=by
 obtain⟨ok,rA,rP,sA,sP,hA,hP,rfl⟩:=hs;refine zc (fA _) ?_;unfold vI;have h:=(h.front i hi).split3;have hf:=ok.few
 (refine nn ?_;refine ldC h ?_)
 refine NP h 1 rfl hA (by omega) λv s' w hr h=>?_;refine Cj h (Rw.rd Yy h 0 rfl hr) (by rw[vl,List.length_map];omega) (Rw.nil0 Yy hr) λv' s2 w hr2 _ h=>⟨v',rfl,hk v' s2 w hr2 ?_⟩;have h:=jE h;have h:=xc (xc (xc h));have h:=h.glue3;exact St.again (i+1) (E:=s2::E) hi h
def bL(a:Yk)(c:B0)(q:B0→Bool)(t:Rv)(rev:B0):Rv:=
 if(XI a rev).2.2.1=c then if t.2.1<(XI a rev).2.1 then if q rev=true then XI a rev else t else t else t
def bM(a:Yk)(c:B0)(q:B0→Bool):Rv:=(Kl a).foldl (bL a c q) GN
def DZ(a:Yk)(c:B0):B0:=(bM a c (Gf a)).1
end Go.Proofs.YtimahgbgejngiaaGreatDoor

namespace Go.Proofs
open Go.Shelf
def Tryz.laysM171_ren:Go.Shelf.Ren:=⟨fun | 171=>72 | 243=>133 | 246=>208 | 283=>264 | 284=>265 | 285=>266 | 286=>267 | 129=>254 | 317=>301 | 318=>302 | 319=>303 | 320=>304 | 337=>316 | 338=>317 | n=>n,fun | 3=>3 | 9=>9 | 2=>2 | 4=>4 | 171=>421 | 0=>0 | 53=>412 | 37=>48 | 5=>5 | 173=>423 | 212=>456 | 51=>410 | 20=>20 | 213=>457 | 46=>349 | 232=>481 | 233=>482 | n=>n,fun | 17=>1 | 18=>4 | 19=>5 | n=>n⟩
def Tryz.laysM171:Go.Proofs.LaysM.n171 Tryz.prog Tryz.laysM171_ren:={
 mixed:=by kernel_rfl
 f129:=Tryz.func254.trans cS
 f171:=Tryz.func72.trans cS
 f243:=Tryz.func133.trans cS
 f246:=Tryz.func208.trans cS
 f283:=Tryz.func264.trans cS
 f284:=Tryz.func265.trans cS
 f285:=Tryz.func266.trans cS
 f286:=Tryz.func267.trans cS
 f317:=Tryz.func301.trans cS
 f318:=Tryz.func302.trans cS
 f319:=Tryz.func303.trans cS
 f320:=Tryz.func304.trans cS
 f337:=Tryz.func316.trans cS
 f338:=Tryz.func317.trans cS
 t0:=Tryz.underlying0
 a0:=Tryz.isAgg0
 z0:=Tryz.sizeOf0
 v0:=Tryz.zeroValue0
 t2:=Tryz.underlying2
 a2:=Tryz.isAgg2
 z2:=Tryz.sizeOf2
 v2:=Tryz.zeroValue2
 t3:=Tryz.underlying3
 a3:=Tryz.isAgg3
 z3:=Tryz.sizeOf3
 v3:=Tryz.zeroValue3
 t4:=Tryz.underlying4
 a4:=Tryz.isAgg4
 z4:=Tryz.sizeOf4
 v4:=Tryz.zeroValue4
 t5:=Tryz.underlying5
 a5:=Tryz.isAgg5
 z5:=Tryz.sizeOf5
 v5:=Tryz.zeroValue5
 t9:=Tryz.underlying9
 a9:=Tryz.isAgg9
 z9:=Tryz.sizeOf9
 v9:=Tryz.zeroValue9
 t20:=Tryz.underlying20
 a20:=Tryz.isAgg20
 z20:=Tryz.sizeOf20
 v20:=Tryz.zeroValue20
 t37:=Tryz.underlying48
 a37:=Tryz.isAgg48
 z37:=Tryz.sizeOf48
 v37:=Tryz.zeroValue48
 t46:=Tryz.underlying349
 a46:=Tryz.isAgg349
 z46:=Tryz.sizeOf349
 v46:=Tryz.zeroValue349
 t51:=Tryz.underlying410
 a51:=Tryz.isAgg410
 z51:=Tryz.sizeOf410
 v51:=Tryz.zeroValue410
 t53:=Tryz.underlying412
 a53:=Tryz.isAgg412
 z53:=Tryz.sizeOf412
 v53:=Tryz.zeroValue412
 t171:=Tryz.underlying421
 a171:=Tryz.isAgg421
 z171:=Tryz.sizeOf421
 v171:=Tryz.zeroValue421
 t173:=Tryz.underlying423
 a173:=Tryz.isAgg423
 z173:=Tryz.sizeOf423
 v173:=Tryz.zeroValue423
 t212:=Tryz.underlying456
 a212:=Tryz.isAgg456
 z212:=Tryz.sizeOf456
 v212:=Tryz.zeroValue456
 t213:=Tryz.underlying457
 a213:=Tryz.isAgg457
 z213:=Tryz.sizeOf457
 t232:=Tryz.underlying481
 a232:=Tryz.isAgg481
 z232:=Tryz.sizeOf481
 v232:=Tryz.zeroValue481
 t233:=Tryz.underlying482
 a233:=Tryz.isAgg482
 z233:=Tryz.sizeOf482
 v233:=Tryz.zeroValue482
 g17:=by kernel_rfl
 g18:=by kernel_rfl
 g19:=by kernel_rfl
 i0:=by kernel_rfl
 i2:=by kernel_rfl
 i3:=by kernel_rfl
 i4:=by kernel_rfl
 i5:=by kernel_rfl
 i9:=by kernel_rfl
 i20:=by kernel_rfl
 i37:=by kernel_rfl
 i46:=by kernel_rfl
 i51:=by kernel_rfl
 i53:=by kernel_rfl
 i171:=by kernel_rfl
 i173:=by kernel_rfl
 i212:=by kernel_rfl
 i232:=by kernel_rfl
 i233:=by kernel_rfl
 m17:=by kernel_rfl
 m18:=by kernel_rfl
 m19:=by kernel_rfl }
open Go.RowKit Go.Sort Go.Lib in
def Tryz.strconv_Itoa (n : Int) (h0 : -9223372036854775808 ≤ n) (h1 : n ≤ 9223372036854775807) (w : World) (htab : Lib.TabIs Tryz.prog w "internal/strconv.uint64pow10" .u64 Lib.pow10Tab) :
  Calls Tryz.prog 72 #[.int .i64 n] w λe w'=>e = .returned (.string ⟨(Lib.itoa n).toArray⟩)∧∃k os,w'=grow (w.drewN k) os:=Any.strconv_Itoa Tryz.laysM171 n h0 h1 w htab
end Go.Proofs

namespace Go.Proofs
open Go.Shelf
def Tryz.laysC172_ren:Go.Shelf.Ren:=⟨fun | 172=>203 | 244=>261 | 245=>262 | 247=>296 | 279=>297 | 280=>298 | 281=>299 | 282=>300 | 287=>313 | 316=>314 | 171=>72 | 205=>315 | 321=>329 | 322=>330 | 243=>133 | 246=>208 | 283=>264 | 284=>265 | 285=>266 | 286=>267 | 129=>254 | 317=>301 | 318=>302 | 319=>303 | 320=>304 | 337=>316 | 338=>317 | n=>n,fun | 9=>9 | 3=>3 | 75=>263 | 76=>264 | 4=>4 | 5=>5 | 167=>449 | 37=>48 | 0=>0 | 85=>450 | 2=>2 | 168=>452 | 53=>412 | 175=>464 | 46=>349 | 210=>468 | 127=>369 | 145=>480 | 143=>478 | 21=>21 | 171=>421 | 173=>423 | 212=>456 | 51=>410 | 20=>20 | 213=>457 | 232=>481 | 233=>482 | 80=>82 | n=>n,fun | 15=>2 | 16=>3 | 17=>1 | 18=>4 | 19=>5 | n=>n⟩
def Tryz.laysC172:Go.Proofs.LaysC.n172 Tryz.prog Tryz.laysC172_ren:={
 mixed:=by kernel_rfl
 f129:=Tryz.func254.trans cS
 f171:=Tryz.func72.trans cS
 f172:=Tryz.func203.trans cS
 f205:=Tryz.func315.trans cS
 f243:=Tryz.func133.trans cS
 f244:=Tryz.func261.trans cS
 f245:=Tryz.func262.trans cS
 f246:=Tryz.func208.trans cS
 f247:=Tryz.func296.trans cS
 f279:=Tryz.func297.trans cS
 f280:=Tryz.func298.trans cS
 f281:=Tryz.func299.trans cS
 f282:=Tryz.func300.trans cS
 f283:=Tryz.func264.trans cS
 f284:=Tryz.func265.trans cS
 f285:=Tryz.func266.trans cS
 f286:=Tryz.func267.trans cS
 f287:=Tryz.func313.trans cS
 f316:=Tryz.func314.trans cS
 f317:=Tryz.func301.trans cS
 f318:=Tryz.func302.trans cS
 f319:=Tryz.func303.trans cS
 f320:=Tryz.func304.trans cS
 f321:=Tryz.func329.trans cS
 f322:=Tryz.func330.trans cS
 f337:=Tryz.func316.trans cS
 f338:=Tryz.func317.trans cS
 t0:=Tryz.underlying0
 a0:=Tryz.isAgg0
 z0:=Tryz.sizeOf0
 v0:=Tryz.zeroValue0
 t2:=Tryz.underlying2
 a2:=Tryz.isAgg2
 z2:=Tryz.sizeOf2
 v2:=Tryz.zeroValue2
 t3:=Tryz.underlying3
 a3:=Tryz.isAgg3
 z3:=Tryz.sizeOf3
 v3:=Tryz.zeroValue3
 t4:=Tryz.underlying4
 a4:=Tryz.isAgg4
 z4:=Tryz.sizeOf4
 v4:=Tryz.zeroValue4
 t5:=Tryz.underlying5
 a5:=Tryz.isAgg5
 z5:=Tryz.sizeOf5
 v5:=Tryz.zeroValue5
 t9:=Tryz.underlying9
 a9:=Tryz.isAgg9
 z9:=Tryz.sizeOf9
 v9:=Tryz.zeroValue9
 t20:=Tryz.underlying20
 a20:=Tryz.isAgg20
 z20:=Tryz.sizeOf20
 v20:=Tryz.zeroValue20
 t21:=Tryz.underlying21
 a21:=Tryz.isAgg21
 z21:=Tryz.sizeOf21
 v21:=Tryz.zeroValue21
 t37:=Tryz.underlying48
 a37:=Tryz.isAgg48
 z37:=Tryz.sizeOf48
 v37:=Tryz.zeroValue48
 t46:=Tryz.underlying349
 a46:=Tryz.isAgg349
 z46:=Tryz.sizeOf349
 v46:=Tryz.zeroValue349
 t51:=Tryz.underlying410
 a51:=Tryz.isAgg410
 z51:=Tryz.sizeOf410
 v51:=Tryz.zeroValue410
 t53:=Tryz.underlying412
 a53:=Tryz.isAgg412
 z53:=Tryz.sizeOf412
 v53:=Tryz.zeroValue412
 t75:=Tryz.underlying263
 a75:=Tryz.isAgg263
 z75:=Tryz.sizeOf263
 v75:=Tryz.zeroValue263
 t76:=Tryz.underlying264
 a76:=Tryz.isAgg264
 z76:=Tryz.sizeOf264
 v76:=Tryz.zeroValue264
 t85:=Tryz.underlying450
 a85:=Tryz.isAgg450
 z85:=Tryz.sizeOf450
 v85:=Tryz.zeroValue450
 t127:=Tryz.underlying369
 a127:=Tryz.isAgg369
 z127:=Tryz.sizeOf369
 v127:=Tryz.zeroValue369
 t143:=Tryz.underlying478
 a143:=Tryz.isAgg478
 z143:=Tryz.sizeOf478
 v143:=Tryz.zeroValue478
 t145:=Tryz.underlying480
 a145:=Tryz.isAgg480
 z145:=Tryz.sizeOf480
 v145:=Tryz.zeroValue480
 t167:=Tryz.underlying449
 a167:=Tryz.isAgg449
 z167:=Tryz.sizeOf449
 v167:=Tryz.zeroValue449
 t168:=Tryz.underlying452
 a168:=Tryz.isAgg452
 z168:=Tryz.sizeOf452
 v168:=Tryz.zeroValue452
 t171:=Tryz.underlying421
 a171:=Tryz.isAgg421
 z171:=Tryz.sizeOf421
 v171:=Tryz.zeroValue421
 t173:=Tryz.underlying423
 a173:=Tryz.isAgg423
 z173:=Tryz.sizeOf423
 v173:=Tryz.zeroValue423
 t175:=Tryz.underlying464
 a175:=Tryz.isAgg464
 z175:=Tryz.sizeOf464
 v175:=Tryz.zeroValue464
 t210:=Tryz.underlying468
 a210:=Tryz.isAgg468
 z210:=Tryz.sizeOf468
 v210:=Tryz.zeroValue468
 t212:=Tryz.underlying456
 a212:=Tryz.isAgg456
 z212:=Tryz.sizeOf456
 v212:=Tryz.zeroValue456
 t213:=Tryz.underlying457
 a213:=Tryz.isAgg457
 z213:=Tryz.sizeOf457
 t232:=Tryz.underlying481
 a232:=Tryz.isAgg481
 z232:=Tryz.sizeOf481
 v232:=Tryz.zeroValue481
 t233:=Tryz.underlying482
 a233:=Tryz.isAgg482
 z233:=Tryz.sizeOf482
 v233:=Tryz.zeroValue482
 g15:=by kernel_rfl
 g16:=by kernel_rfl
 g17:=by kernel_rfl
 g18:=by kernel_rfl
 g19:=by kernel_rfl
 t80:=Tryz.underlying82
 a80:=Tryz.isAgg82
 z80:=Tryz.sizeOf82
 v80:=Tryz.zeroValue82
 i0:=by kernel_rfl
 i2:=by kernel_rfl
 i3:=by kernel_rfl
 i4:=by kernel_rfl
 i5:=by kernel_rfl
 i9:=by kernel_rfl
 i20:=by kernel_rfl
 i21:=by kernel_rfl
 i37:=by kernel_rfl
 i46:=by kernel_rfl
 i51:=by kernel_rfl
 i53:=by kernel_rfl
 i75:=by kernel_rfl
 i76:=by kernel_rfl
 i80:=by kernel_rfl
 i85:=by kernel_rfl
 i127:=by kernel_rfl
 i143:=by kernel_rfl
 i145:=by kernel_rfl
 i167:=by kernel_rfl
 i168:=by kernel_rfl
 i171:=by kernel_rfl
 i173:=by kernel_rfl
 i175:=by kernel_rfl
 i210:=by kernel_rfl
 i212:=by kernel_rfl
 i232:=by kernel_rfl
 i233:=by kernel_rfl
 m15:=by kernel_rfl
 m16:=by kernel_rfl
 m17:=by kernel_rfl
 m18:=by kernel_rfl
 m19:=by kernel_rfl
 c0:=by kernel_rfl
 c2:=by kernel_rfl
 c3:=by kernel_rfl
 c4:=by kernel_rfl
 c5:=by kernel_rfl
 c9:=by kernel_rfl
 c20:=by kernel_rfl
 c21:=by kernel_rfl
 c37:=by kernel_rfl
 c46:=by kernel_rfl
 c51:=by kernel_rfl
 c53:=by kernel_rfl
 c75:=by kernel_rfl
 c76:=by kernel_rfl
 c80:=by kernel_rfl
 c85:=by kernel_rfl
 c127:=by kernel_rfl
 c143:=by kernel_rfl
 c145:=by kernel_rfl
 c167:=by kernel_rfl
 c168:=by kernel_rfl
 c171:=by kernel_rfl
 c173:=by kernel_rfl
 c175:=by kernel_rfl
 c210:=by kernel_rfl
 c212:=by kernel_rfl
 c213:=by kernel_rfl
 c232:=by kernel_rfl
 c233:=by kernel_rfl }
open Go.RowKit in
def Tryz.strconv_Atoi_ok(s:B0)(hmax:s.size≤9223372036854775806)(v:Int)(h:Lib.atoiAll s.data.toList = .ok v)(w:World) :
  Calls Tryz.prog 203 #[.string s] w λe w'=>e = .returned (.tuple #[.int .i64 v,.nilIface])∧(w'=w∨∃t,w'=Lib.bytesWorld w 5 t):=Any.strconv_Atoi_ok Tryz.laysC172 s hmax v h w
open Go.RowKit in
def Tryz.strconv_Atoi_syntax(s:B0)(hlim:s.size≤281474976710656)(h:Lib.atoiAll s.data.toList = .«syntax»)(ev:Value)(w:World)(hv:w.cell? ⟨2,0,none⟩=some ev)(hev:ev = .nilIface∨∃te pe,ev = .iface te pe) :
  Calls Tryz.prog 203 #[.string s] w λe w'=>∃N,e = .returned (.tuple #[.int .i64 (0),.iface 452 (.pointer (some ⟨N,0,none⟩))])∧w.heap.size≤N∧w'.heap[N]? = some (.cells #[.string ⟨#[65,116,111,105]⟩,.string s,ev] 468 (0,0))∧Below w.heap.size w w':=Any.strconv_Atoi_syntax Tryz.laysC172 s hlim h ev w hv hev
open Go.RowKit in
def Tryz.strconv_Atoi_range(s:B0)(hlim:s.size≤281474976710656)(h:Lib.atoiAll s.data.toList = .range)(ev:Value)(w:World)(hv:w.cell? ⟨3,0,none⟩=some ev)(hev:ev = .nilIface∨∃te pe,ev = .iface te pe) :
  Calls Tryz.prog 203 #[.string s] w λe w'=>∃N,e = .returned (.tuple #[.int .i64 (Lib.atoiSat s.data.toList),.iface 452 (.pointer (some ⟨N,0,none⟩))])∧w.heap.size≤N∧w'.heap[N]? = some (.cells #[.string ⟨#[65,116,111,105]⟩,.string s,ev] 468 (0,0))∧Below w.heap.size w w':=Any.strconv_Atoi_range Tryz.laysC172 s hlim h ev w hv hev
abbrev Tryz.gSyn:Nat:=2
abbrev Tryz.gRng:Nat:=3
end Go.Proofs

namespace Go.Proofs
open Go.Shelf
def Tryz.lays156_ren:Go.Shelf.Ren:=⟨fun | 156=>73 | 165=>134 | 166=>135 | 169=>136 | 240=>209 | 241=>210 | 276=>268 | 277=>269 | n=>n,fun | 31=>40 | 9=>9 | 3=>3 | 4=>4 | 0=>0 | 20=>20 | 72=>261 | 76=>264 | 70=>259 | 37=>48 | 75=>263 | 127=>369 | 164=>425 | 5=>5 | 80=>82 | n=>n,fun | n=>n⟩
def Tryz.lays156:Go.Proofs.Lays.n156 Tryz.prog Tryz.lays156_ren:={
 mixed:=by kernel_rfl
 f156:=Tryz.func73.trans cS
 f165:=Tryz.func134.trans cS
 f166:=Tryz.func135.trans cS
 f169:=Tryz.func136.trans cS
 f240:=Tryz.func209.trans cS
 f241:=Tryz.func210.trans cS
 f276:=Tryz.func268.trans cS
 f277:=Tryz.func269.trans cS
 t0:=Tryz.underlying0
 a0:=Tryz.isAgg0
 z0:=Tryz.sizeOf0
 v0:=Tryz.zeroValue0
 t3:=Tryz.underlying3
 a3:=Tryz.isAgg3
 z3:=Tryz.sizeOf3
 v3:=Tryz.zeroValue3
 t4:=Tryz.underlying4
 a4:=Tryz.isAgg4
 z4:=Tryz.sizeOf4
 v4:=Tryz.zeroValue4
 t9:=Tryz.underlying9
 a9:=Tryz.isAgg9
 z9:=Tryz.sizeOf9
 v9:=Tryz.zeroValue9
 t20:=Tryz.underlying20
 a20:=Tryz.isAgg20
 z20:=Tryz.sizeOf20
 v20:=Tryz.zeroValue20
 t31:=Tryz.underlying40
 a31:=Tryz.isAgg40
 z31:=Tryz.sizeOf40
 v31:=Tryz.zeroValue40
 t37:=Tryz.underlying48
 a37:=Tryz.isAgg48
 z37:=Tryz.sizeOf48
 v37:=Tryz.zeroValue48
 t70:=Tryz.underlying259
 a70:=Tryz.isAgg259
 z70:=Tryz.sizeOf259
 v70:=Tryz.zeroValue259
 t72:=Tryz.underlying261
 a72:=Tryz.isAgg261
 z72:=Tryz.sizeOf261
 v72:=Tryz.zeroValue261
 t75:=Tryz.underlying263
 a75:=Tryz.isAgg263
 z75:=Tryz.sizeOf263
 v75:=Tryz.zeroValue263
 t76:=Tryz.underlying264
 a76:=Tryz.isAgg264
 z76:=Tryz.sizeOf264
 v76:=Tryz.zeroValue264
 t127:=Tryz.underlying369
 a127:=Tryz.isAgg369
 z127:=Tryz.sizeOf369
 v127:=Tryz.zeroValue369
 t164:=Tryz.underlying425
 a164:=Tryz.isAgg425
 z164:=Tryz.sizeOf425
 v164:=Tryz.zeroValue425 }
def Tryz.Builder_Extra_156:Builder.Extra Tryz.prog Tryz.lays156_ren:={
 sizeBuilder:=by kernel_rfl
 liesBuilder:=by kernel_rfl
 t5:=Tryz.underlying5
 a5:=Tryz.isAgg5
 z5:=Tryz.sizeOf5
 v5:=Tryz.zeroValue5
 infoByte:=by kernel_rfl
 cellsByte:=by kernel_rfl
 sizeByte:=by kernel_rfl
 neB5:=by decide }
open Go.RowKit in
def Tryz.strings_Join(bk o c:Nat)(xs:List B0)(sep:B0)(w:World)
  (hcells:∀(j:Nat) x,xs[j]? = some x→w.cell? ⟨bk,o+j,none⟩=some (.string x))
  (hbk:bk<w.heap.size) (hN:xs.length≤140737488355328) (hcap:xs.length≤c)
  (hlen:(Lib.join (xs.map (·.data.toList)) sep.data.toList).length≤140737488355328) :
  Calls Tryz.prog 73 #[.slice (some ⟨bk,o,none⟩) xs.length c,.string sep] w λe w'=>e = .returned (.string ⟨(Lib.join (xs.map (·.data.toList)) sep.data.toList).toArray⟩)∧Below w.heap.size w w':=Any.strings_Join Tryz.lays156 Tryz.Builder_Extra_156 bk o c xs sep w hcells hbk hN hcap hlen
end Go.Proofs
namespace Go.Proofs.YtimahgbgejngiaaGreatDoor
open Go.Dm
attribute [local irreducible] L.load L.store L.chk L.new L.nonnil L.guard L.ite L.draw L.idx L.sem L.semR L.semU L.chkSem L.next L.call L.callV L.join L.alts L.loop L.begin L.endRound L.range
variable {w0 w:World}{E:List Seg}
class Sen(g1 g2:Nat)(w:World):Prop where
 syn:∃ev,w.cell? ⟨g1,0,none⟩=some ev∧(ev = .nilIface∨∃te pe,ev = .iface te pe)
 rng:∃ev,w.cell? ⟨g2,0,none⟩=some ev∧(ev = .nilIface∨∃te pe,ev = .iface te pe)
class jF(w0:World):Prop extends Tab Pr w0,Sen Tryz.gSyn Tryz.gRng w0
def nz [jF w0](h:St w0 E w){n:Int}(h0:0≤n)(h1:n≤9223372036854775807){k:B0→PT}(hk:∀w',St w0 E w'→k (jY n.toNat) w'):L.call Pr xj [I n] (.one (.one .str)) k w:=by
 refine qX (Tryz.strconv_Itoa n (by omega) h1 w h.tab) λe w' ⟨he,m,os,hw⟩=>⟨jY n.toNat,?_,?_⟩
 ·rw[he,←Wt,Int.toNat_of_nonneg h0];rfl
 ·subst hw;exact hk _ ((h.drawn).grow os)
def ny(h:St w0 E w)(i:Nat){s:Seg}(hi:nth E i=some s){v:Sl}{l:List B0}(hr:Rw eS zd 1 v l s)(hn:l.length<1000000000)(hsz:(uZ l).size<1000000000000){k:B0→PT}(hk:∀w',St w0 E w'→k (uZ l) w') :
  L.call Pr uN [SlV v,.string kL] (.one (.one .str)) k w:=by
 refine Ws (e:=zd) (s:=s) (v:=v) (l:=l) rfl Yy (λg off cap w h1 h2 h3=>Tryz.strings_Join g off cap l kL w h1 h2 (by omega) h3 ?_) (λp cap w=>Any.strings_Join_none Tryz.lays156 Tryz.Builder_Extra_156 p cap kL w) h i hi hr hk;have:(uZ l).size=(Lib.join (l.map (·.data.toList)) [32]).length:=by rw[←Yg,Vv]
 show(Lib.join (l.map (·.data.toList)) [32]).length≤_;omega
end Go.Proofs.YtimahgbgejngiaaGreatDoor

namespace Go.Dm
def dgB(b:UInt8):Bool:=decide (48≤b.toNat)&&decide (b.toNat≤57)
def UN{b:UInt8}:dgB b=true↔48≤b.toNat∧b.toNat≤57:=by unfold dgB;simp
def dvL(l:List UInt8):Nat:=l.foldl (λa x=>a*10+(x.toNat-48)) 0
def Gb(l:List UInt8)(x:UInt8):dvL (l++[x])=dvL l*10+(x.toNat-48):=by unfold dvL;rw[List.foldl_append];rfl
def Rj{b:UInt8}(h:48≤b.toNat∧b.toNat≤57):UInt8.ofNat (48+(b.toNat-48))=b:=by
 rw[show 48+(b.toNat-48)=b.toNat by omega];exact UInt8.toNat_inj.1 (by simp)
def WW{a d:Nat}(ha:1≤a)(hd:d<10):Lib.decDigits (a*10+d)=Lib.decDigits a++[UInt8.ofNat (48+d)]:=by
 rw[Lib.decDigits,dif_neg (by omega),show(a*10+d)/10=a by omega,show(a*10+d)%10=d by omega]
def bI{l:List UInt8}(h:l.all dgB=true)(h0:∃b r,l=b::r∧b≠48):Lib.decDigits (dvL l)=l∧1≤dvL l:=by
 obtain⟨b,r,rfl,hb⟩:=h0;have main:∀r:List UInt8,(b::r).all dgB=true→Lib.decDigits (dvL (b::r))=b::r∧1≤dvL (b::r):=by
  intro r
  induction r using mq with
  | h0=>
   intro h;simp only[List.all_cons,List.all_nil,Bool.and_true,UN]at h;have hne:b.toNat≠48:=λe=>hb (UInt8.toNat_inj.1 e);have e:dvL [b]=b.toNat-48:=by show 0*10+(b.toNat-48)=_;omega
   rw[e,Lib.decDigits_one (by omega),Rj h];exact⟨rfl,by omega⟩
  | h1 r x ih=>
   intro h;rw[←List.cons_append,List.all_append]at h;simp only[Bool.and_eq_true,List.all_cons,List.all_nil,and_true]at h;obtain⟨h1,h2⟩:=h;have h2':=UN.1 h2;obtain⟨i1,i2⟩:=ih (by simpa using h1);rw[←List.cons_append,Gb,WW i2 (by omega),i1,Rj h2'];exact⟨rfl,by omega⟩
 exact main r h
def tX(g:Nat):(Lib.decDigits g).all dgB=true:=by
 induction g using Nat.strongRecOn with
 | _ g ih=>
  by_cases h:g<10
  ·rw[Lib.decDigits_one h];have:(UInt8.ofNat (48+g)).toNat=48+g:=by simp;omega
   simp only[List.all_cons,List.all_nil,Bool.and_true,UN,this];omega
  ·rw[Lib.decDigits,dif_neg h,List.all_append,ih (g/10) (by omega)];have:(UInt8.ofNat (48+g%10)).toNat=48+g%10:=by simp;omega
   simp only[List.all_cons,List.all_nil,Bool.and_true,Bool.true_and,UN,this];omega
def WX{g:Nat}(h:1≤g):∃b r,Lib.decDigits g=b::r∧b≠48:=by
 induction g using Nat.strongRecOn with
 | _ g ih=>
  by_cases h1:g<10
  ·refine⟨_,_,Lib.decDigits_one h1,λe=>?_⟩;have e:=congrArg UInt8.toNat e;have:(UInt8.ofNat (48+g)).toNat=48+g:=by simp;omega
   rw[this]at e;have:(48:UInt8).toNat=48:=rfl;omega
  ·obtain⟨b,r,e,hb⟩:=ih (g/10) (by omega) (by omega);rw[Lib.decDigits,dif_neg h1,e];exact⟨b,r++[_],rfl,hb⟩
def LW(g:Nat):dvL (Lib.decDigits g)=g:=by
 induction g using Nat.strongRecOn with
 | _ g ih=>
  by_cases h:g<10
  ·rw[Lib.decDigits_one h];have:(UInt8.ofNat (48+g)).toNat=48+g:=by simp;omega
   show 0*10+((UInt8.ofNat (48+g)).toNat-48)=g;omega
  ·rw[Lib.decDigits,dif_neg h,Gb,ih (g/10) (by omega)];have:(UInt8.ofNat (48+g%10)).toNat=48+g%10:=by simp;omega
   omega
def bF:∀{l:List UInt8},l.all dgB=true→dvL l<10 ^ l.length:=by
 intro l
 induction l using mq with
 | h0=>intro _;decide
 | h1 r x ih=>
  intro h;rw[List.all_append]at h;simp only[Bool.and_eq_true,List.all_cons,List.all_nil,and_true]at h;have h2:=UN.1 h.2;have:=ih h.1;rw[Gb,List.length_append,List.length_singleton,Nat.pow_succ];omega
def tW{g:Nat}(h:g≤999999):(Lib.decDigits g).length≤6:=by
 rw[Lib.decDigits_length];rcases Nat.lt_or_ge (Lib.nDigits g) 7 with h1 | h1
 ·omega
 ·exfalso;have hk:=Lib.nDigits_pos g;have:∀n g:Nat,Lib.nDigits g=n+1→1≤n→10 ^ n≤g:=by
   intro n
   induction n with
   | zero=>intro g _ h;omega
   | succ n ih=>
    intro g hg _;by_cases hs:g<10
    ·rw[Lib.nDigits_small hs]at hg;omega
    ·rw[Lib.nDigits_big hs]at hg;rcases Nat.eq_zero_or_pos n with rfl | hn
     ·show 10≤g;omega
     ·have:=ih (g/10) (by omega) hn;rw[Nat.pow_succ];omega
  have h2:=this (Lib.nDigits g-1) g (by omega) (by omega);have h3:10 ^ 6≤10 ^ (Lib.nDigits g-1):=Nat.pow_le_pow_right (by decide) (by omega);have h4:(10:Nat) ^ 6=1000000:=by decide
  omega
def wP:∀(l:List UInt8)(acc:Nat),l.all dgB=true→acc*10 ^ l.length+dvL l<1000000000000000000→Lib.parseUint10 acc l = .ok (l.foldl (λa x=>a*10+(x.toNat-48)) acc)
 | [],_,_,_=>rfl
 | c::r,acc,h,hv=>by
  simp only[List.all_cons,Bool.and_eq_true]at h;have h1:=UN.1 h.1;have hp:1≤10 ^ r.length:=Nat.one_le_pow _ _ (by decide);have hfold:∀(l:List UInt8)(a:Nat),l.foldl (λa x=>a*10+(x.toNat-48)) a=a*10 ^ l.length+dvL l:=by
   intro l
   induction l using mq with
   | h0=>intro a;simp[dvL]
   | h1 l x ih=>
    intro a;rw[List.foldl_append,Gb,List.length_append,List.length_singleton,Nat.pow_succ,ih a];simp only[List.foldl_cons,List.foldl_nil];rw[Nat.add_mul,Nat.mul_assoc,Nat.add_assoc]
  have e:dvL (c::r)=(c.toNat-48)*10 ^ r.length+dvL r:=by
   have:dvL (c::r)=r.foldl (λa x=>a*10+(x.toNat-48)) (0*10+(c.toNat-48)):=rfl;rw[this,hfold];simp
  rw[e,List.length_cons,Nat.pow_succ]at hv;have hm:(acc*10+(c.toNat-48))*10 ^ r.length+dvL r<1000000000000000000:=by
   rw[Nat.add_mul,Nat.mul_assoc,Nat.mul_comm 10 (10 ^ r.length)];omega
  have hb:acc*10+(c.toNat-48)<1000000000000000000:=Nat.lt_of_le_of_lt (Nat.le_trans (Nat.le_mul_of_pos_right _ hp) (Nat.le_add_right _ _)) hm;simp only[Lib.parseUint10];rw[if_pos h1,if_neg (by omega),if_neg (by omega),wP r _ h.2 hm];rfl
def Mw{g:Nat}(h:g≤999999):Lib.atoiAll (Lib.decDigits g) = .ok (g:Int):=by
 have ha:=tX g;have hv:=LW g;have hpu:=wP (Lib.decDigits g) 0 ha (by omega);have hne:Lib.decDigits g≠[]:=λe=>by
  have:=Lib.nDigits_pos g;rw[←Lib.decDigits_length,e]at this;simp at this
 obtain⟨c,r,e⟩:=List.exists_cons_of_ne_nil hne;have hf:(Lib.decDigits g).foldl (λa x=>a*10+(x.toNat-48)) 0=g:=hv;rw[hf]at hpu;rw[e]at ha hpu hne ⊢;simp only[List.all_cons,Bool.and_eq_true]at ha;have h1:=UN.1 ha.1;rw[Lib.atoiAll_plain c r (by omega) (by omega)];unfold Lib.parseMag Lib.signless;rw[if_neg hne,hpu];simp only;rw[if_neg (by omega)]
end Go.Dm
namespace Go.Proofs.YtimahgbgejngiaaGreatDoor
open Go.Dm
attribute [local irreducible] L.load L.store L.chk L.new L.nonnil L.guard L.ite L.draw L.idx L.sem L.semR L.semU L.chkSem L.next L.call L.callV L.join L.alts L.loop L.begin L.endRound L.range
variable {w0 w:World}{E:List Seg}
def nO(l:List UInt8):Bool:=
 decide (1≤(l.reverse.takeWhile dgB).length)&&(decide ((l.reverse.takeWhile dgB).length≤6)&&(decide ((l.reverse.takeWhile dgB).getLast? ≠some 48)&&match l.reverse.dropWhile dgB with
  | x::c=>decide (x.toNat=45)&&ZM c.reverse 16
  | []=>false))
def tP(s:B0):Bool:=nO s.data.toList
def wL{c:List UInt8}{g:Nat}(hc:ZM c 16=true)(h1:1≤g)(hg:g≤999999):nO (c++45::Lib.decDigits g)=true:=by
 have hd:=tX g;have e1:(c++45::Lib.decDigits g).reverse=(Lib.decDigits g).reverse++45::c.reverse:=by simp
 have h45:dgB 45=false:=by decide
 have ha:∀x∈(Lib.decDigits g).reverse,dgB x=true:=λx hx=>List.all_eq_true.1 hd x (List.mem_reverse.1 hx);have e2:((Lib.decDigits g).reverse++45::c.reverse).takeWhile dgB=(Lib.decDigits g).reverse:=by
  rw[List.takeWhile_append_of_pos ha,List.takeWhile_cons_of_neg (by rw[h45];decide),List.append_nil]
 have e3:((Lib.decDigits g).reverse++45::c.reverse).dropWhile dgB=45::c.reverse:=by
  rw[List.dropWhile_append_of_pos ha,List.dropWhile_cons_of_neg (by rw[h45];decide)]
 obtain⟨b,r,e,hb⟩:=WX h1;have hl:=tW hg;unfold nO;rw[e1,e2,e3,List.length_reverse,List.getLast?_reverse,e];rw[e]at hl;simp only[List.length_cons,List.head?_cons,List.reverse_reverse,hc,Bool.and_true,Bool.and_eq_true,decide_eq_true_eq,ne_eq,Option.some.injEq];refine⟨by omega,by simpa using hl,hb,rfl⟩
def Lu{l:List UInt8}(h:nO l=true):∃c g,ZM c 16=true∧1≤g∧g≤999999∧l=c++45::Lib.decDigits g:=by
 unfold nO at h;have hs:l.reverse=l.reverse.takeWhile dgB++l.reverse.dropWhile dgB:=(List.takeWhile_append_dropWhile).symm;have hall:(l.reverse.takeWhile dgB).all dgB=true:=List.all_takeWhile;generalize l.reverse.takeWhile dgB=d at *
 generalize l.reverse.dropWhile dgB=r at *
 simp only[Bool.and_eq_true,decide_eq_true_eq]at h;obtain⟨h1,h2,h3,h4⟩:=h
 cases r with
 | nil=>cases h4
 | cons x c=>
  simp only[Bool.and_eq_true,decide_eq_true_eq]at h4;have hx:x=45:=UInt8.toNat_inj.1 h4.1;subst hx;have hl:l=c.reverse++45::d.reverse:=by
   have:=congrArg List.reverse hs;rw[List.reverse_reverse]at this;rw[this];simp
  have hda:d.reverse.all dgB=true:=by rw[List.all_reverse];exact hall
  have hne:d.reverse≠[]:=λe=>by rw[List.reverse_eq_nil_iff]at e;rw[e]at h1;simp at h1
  obtain⟨b,q,e⟩:=List.exists_cons_of_ne_nil hne;have hb:b≠48:=λeb=>h3 (by rw[←List.reverse_reverse d,List.getLast?_reverse,e,eb];rfl);obtain⟨e1,e2⟩:=bI hda ⟨b,q,e,hb⟩;have hlt:=bF hda;rw[List.length_reverse]at hlt;have hp:10 ^ d.length≤10 ^ 6:=Nat.pow_le_pow_right (by decide) h2;have h6:(10:Nat) ^ 6=1000000:=by decide
  exact⟨c.reverse,dvL d.reverse,h4.2,e2,by omega,by rw[e1];exact hl⟩
def gS{s:B0}:tP s=true↔∃c g,ZM c.data.toList 16=true∧1≤g∧g≤999999∧s=xb c g:=by
 constructor
 ·intro h;obtain⟨c,g,hc,h1,h2,e⟩:=Lu h;exact⟨⟨c.toArray⟩,g,by simpa using hc,h1,h2,PH (by rw[qV,e])⟩
 ·rintro⟨c,g,hc,h1,h2,rfl⟩;show nO (xb c g).data.toList=true;rw[qV];exact wL hc h1 h2
def Pk(c:B0)(g:Nat):Lib.lastIndexByte (xb c g) 45=c.size:=by
 have hd:=qV c g;have hc:=Yg c;have hs:=Yg (xb c g);rw[hd]at hs;simp only[List.length_append,List.length_cons]at hs;have at0:(xb c g).data[c.size]! = 45:=by
  rw[←Array.getElem!_toList,hd,←hc];simp
 have far:∀i,c.size<i→i<(xb c g).size→((xb c g).data[i]!).toNat≠45:=by
  intro i h1 h2;rw[←Array.getElem!_toList,hd];have hmem:(c.data.toList++45::Lib.decDigits g)[i]! ∈Lib.decDigits g:=by
   rw[List.getElem!_eq_getElem?_getD,List.getElem?_append_right (by omega),hc];obtain⟨m,hm⟩:∃m,i-c.size=m+1:=⟨i-c.size-1,by omega⟩;rw[hm,List.getElem?_cons_succ,List.getElem?_eq_getElem (by omega)];simp
  have:=UN.1 (List.all_eq_true.1 (tX g) _ hmem);omega
 rcases Lib.lastIdx_spec (xb c g) 45 (xb c g).size with ⟨-,h⟩ | ⟨i,h1,h2,h3,h4⟩
 ·exact absurd (by rw[at0];rfl) (h c.size (by omega))
 ·show Lib.lastIdx _ _ _=_;rw[h2];have:¬c.size<i:=λhlt=>far i hlt h1 (by omega);have:¬i<c.size:=λhlt=>h4 c.size hlt (by omega) (by rw[at0];rfl);omega
def Ng{s:B0}{i:Nat}(h:Lib.lastIndexByte s 45=(i:Int)):i<s.size∧s.data.toList=(s.extract 0 i).data.toList++45::(s.extract (i+1) s.size).data.toList:=by
 rcases Lib.lastIdx_spec s 45 s.size with ⟨h1,-⟩ | ⟨j,h1,h2,h3,h4⟩
 ·have:Lib.lastIdx s 45 s.size=(i:Int):=h;omega
 ·have h5:Lib.lastIdx s 45 s.size=(i:Int):=h;have:j=i:=by omega
  subst this;refine⟨h1,?_⟩;rw[data_extract,data_extract,List.drop_zero,Nat.sub_zero];have hl:=Yg s;have hj:j<s.data.toList.length:=by omega
  have e45:s.data.toList[j]=45:=by
   have:s.data[j]! = s.data.toList[j]:=by rw[←Array.getElem!_toList,List.getElem!_eq_getElem?_getD,List.getElem?_eq_getElem hj];rfl
   rw[this]at h3;exact UInt8.toNat_inj.1 (by show _=(45:Nat);omega)
  rw[List.take_of_length_le (l:=s.data.toList.drop (j+1)) (by rw[List.length_drop];omega)]
  conv=>lhs;rw[←List.take_append_drop j s.data.toList,List.drop_eq_getElem_cons hj,e45]
def Bj [jF w0](h:St w0 E w){c:B0}(hsz:c.size≤1000000){n:Int}{k:B0→PT}(hk:∀w',St w0 E w'→k (if ZM c.data.toList 16=true∧1≤n∧n≤999999 then xb c n.toNat else s_) w') :
  L.call Pr Qo [.string c,I n] (.one (.one .str)) k w:=by
 refine zc (Fo _ _) ?_;unfold Kz;refine fg h XT λw h=>?_;have bad:∀{w},St w0 E w→¬(ZM c.data.toList 16=true∧1≤n∧n≤999999)→∃x,Value.string s_=RT.val (.one (.one .str)) x∧k x w:=λh hn=>⟨s_,rfl,by have:=hk _ h;rw[if_neg hn]at this;exact this⟩;refine it (λhb=>bad h λhh=>by rw[hh.1]at hb;cases hb) (λhb=>?_);have hb:ZM c.data.toList 16=true:=by simpa using hb
 refine it (λh1=>?_) (λh1=>?_)<;>(try simp only[zB]at h1)
 ·exact bad h λhh=>by omega
 refine it (λh2=>?_) (λh2=>?_)<;>(try simp only[zB]at h2)
 ·exact bad h λhh=>by omega
 have hk:=hk;obtain⟨g,rfl⟩:∃g:Nat,n=(g:Int):=⟨n.toNat,by omega⟩;have hl:(Lib.decDigits g).length≤6:=tW (by omega);refine gd ?_ ?_
 ·simp only[jO,Jl];show((c.size+1:Nat):Int)≤_;omega
 refine nz h (by omega) (by omega) λw h=>?_;have hsd:(jY g).size≤6:=by rw[←Yg,PG];exact hl
 refine gd ?_ ⟨_,rfl,?_⟩
 ·rw[Int.toNat_natCast];have:(c++jO).size=c.size+1:=by rw[ByteArray.size_append];rfl
  simp only[Jl];omega
 ·have:=hk w h;rw[if_pos ⟨hb,by omega,by omega⟩,Int.toNat_natCast]at this;rw[Int.toNat_natCast];exact this
def _root_.Go.Dm.St.cell0(h:St w0 E w){g:Nat}{ev:Value}(hc:w0.cell? ⟨g,0,none⟩=some ev):w.cell? ⟨g,0,none⟩=some ev:=by
 have hg:g<w0.heap.size:=by
  rcases Nat.lt_or_ge g w0.heap.size with hg | hg
  ·exact hg
  ·unfold World.cell? at hc;rw[Array.getElem?_eq_none hg]at hc;cases hc
 unfold World.cell? at hc ⊢;rw[h.old g hg];exact hc
def Ri [S:jF w0](h:St w0 E w){s:B0}(hs:s.size≤1000000000){k:Int×Option (TypeId×Value)×Unit→PT}
  (hk:∀n ev w',St w0 E w'→(ev=none∧Lib.atoiAll s.data.toList = .ok n∨ev≠none∧∀m,Lib.atoiAll s.data.toList≠.ok m)→k (n,ev,()) w') :
  L.call Pr kQ [.string s] (.tup [.one (.int .i64),.one .iface]) k w:=by
 cases hA:Lib.atoiAll s.data.toList with
 | ok v=>
  refine qX (Tryz.strconv_Atoi_ok s (by omega) v hA w) λe w' ⟨he,hw⟩=>⟨(v,none,()),he,hk v none w' ?_ (.inl ⟨rfl,hA⟩)⟩;rcases hw with rfl | ⟨t,rfl⟩
  ·exact h
  ·exact h.bytes _ t
 | «syntax» =>
  obtain⟨ev,hc,hev⟩:=S.syn;refine qX (Tryz.strconv_Atoi_syntax s (by omega) hA ev w (h.cell0 hc) hev) λe w' ⟨N,he,_,_,hb⟩=>⟨(0,some (_,_),()),he,hk 0 _ w' (h.below hb) (.inr ⟨by simp,λm e=>by rw[hA]at e;cases e⟩)⟩
 | range=>
  obtain⟨ev,hc,hev⟩:=S.rng;refine qX (Tryz.strconv_Atoi_range s (by omega) hA ev w (h.cell0 hc) hev) λe w' ⟨N,he,_,_,hb⟩=>⟨(_,some (_,_),()),he,hk _ _ w' (h.below hb) (.inr ⟨by simp,λm e=>by rw[hA]at e;cases e⟩)⟩
def MC [jF w0](h:St w0 E w){s:B0}(hs:s.size≤1000000){k:B0×Int×Bool×Unit→PT}(hk:∀c n w',St w0 E w'→k (c,n,tP s,()) w') :
  L.call Pr xT [.string s] (.tup [.one .str,.one (.int .i64),.one .bool]) k w:=by
 refine zc (pz _) ?_;unfold On;refine Ci (by omega) ?_;have no:∀{w},St w0 E w→¬tP s=true→∃x,Value.tuple #[.string s_,.int .i64 0,.bool false]=RT.val (.tup [.one .str,.one (.int .i64),.one .bool]) x∧k x w:=λh hn=>⟨(s_,0,false,()),rfl,by
  have:=hk s_ 0 _ h;rw[Bool.eq_false_iff.2 hn]at this;exact this⟩
 have yes:tP s=true→∃c g,ZM c.data.toList 16=true∧1≤g∧g≤999999∧s=xb c g∧Lib.lastIndexByte s 45=c.size:=λhp=>by
  obtain⟨c,g,hc,h1,h2,e⟩:=gS.1 hp;exact⟨c,g,hc,h1,h2,e,by rw[e];exact Pk c g⟩
 by_cases hneg:Lib.lastIndexByte s 45<0
 ·refine itT (decide_eq_true hneg) (no h λhp=>?_);obtain⟨c,g,-,-,-,-,e⟩:=yes hp;omega
 obtain⟨i,hi⟩:∃i:Nat,Lib.lastIndexByte s 45=(i:Int):=⟨(Lib.lastIndexByte s 45).toNat,by omega⟩;obtain⟨hlt,hpart⟩:=Ng hi;rw[hi];have e1:Wi ((i:Int)+1)=((i+1:Nat):Int):=by rw[wr (by omega) (by omega)];simp
 rw[e1];refine itF (decide_eq_false (by omega)) (gd (by omega) ?_);rw[Int.toNat_natCast,Int.toNat_natCast];have hsub:(s.extract (i+1) s.size).size≤1000000000:=by rw[←Yg,data_extract,List.length_take];omega
 have hsuf:∀c g,s=xb c g→c.size=i∧s.extract 0 i=c∧(s.extract (i+1) s.size).data.toList=Lib.decDigits g:=by
  intro c g e;have hc:c.size=i:=by
   have:=Pk c g;rw[←e,hi]at this;omega
  have h1:s.extract 0 i=c:=by rw[e,←hc];exact nN c g
  refine⟨hc,h1,?_⟩;have h2:=qV c g;rw[←e,hpart,h1]at h2;simpa using h2
 refine Ri h hsub λn ev w h hc=>?_;rcases hc with ⟨rfl,hok⟩ | ⟨hev,hbad⟩
 ·refine itF rfl (gd (by omega) ?_);rw[show Int.toNat 0=0 from rfl,Int.toNat_natCast];refine Bj h (by rw[←Yg,data_extract,List.length_take];omega) λw h=>?_;by_cases hgood:ZM (s.extract 0 i).data.toList 16=true∧1≤n∧n≤999999
  ·rw[if_pos hgood];by_cases heq:xb (s.extract 0 i) n.toNat=s
   ·refine itF (by rw[JI,decide_eq_true heq];rfl) (gd (by omega) ⟨(_,n,true,()),rfl,?_⟩);have hp:tP s=true:=gS.2 ⟨_,n.toNat,hgood.1,by omega,by omega,heq.symm⟩;have:=hk (s.extract 0 i) n w h;rw[hp]at this;exact this
   ·refine itT (by rw[JI,decide_eq_false heq];rfl) (no h λhp=>heq ?_);obtain⟨c,g,hc,h1,h2,e,-⟩:=yes hp;obtain⟨-,e1,e2⟩:=hsuf c g e;rw[e2,Mw h2]at hok;injection hok with hok;rw[e1,←hok,Int.toNat_natCast];exact e.symm
  ·rw[if_neg hgood];have hne:¬s_=s:=λe=>by rw[←e]at hlt;exact absurd hlt (Nat.not_lt_zero _)
   refine itT (by rw[JI,decide_eq_false hne];rfl) (no h λhp=>hgood ?_);obtain⟨c,g,hc,h1,h2,e,-⟩:=yes hp;obtain⟨-,e1,e2⟩:=hsuf c g e;rw[e2,Mw h2]at hok;injection hok with hok;rw[e1,←hok];exact⟨hc,by omega,by omega⟩
 ·refine itT (by cases ev with | none=>exact absurd rfl hev | some x=>rfl) (no h λhp=>?_);obtain⟨c,g,hc,h1,h2,e,-⟩:=yes hp;obtain⟨-,e1,e2⟩:=hsuf c g e;exact hbad g (by rw[e2];exact Mw h2)
abbrev QO(r:B0):Prop:=r.size≤1000000
def gG(r:B0):Bool:=!decide (r=s_)&& !tP r
def GG(t:B0):Bool:=!decide (t=s_)&& !ZM t.data.toList 8
def tgE(t:Tgt):Int:=if(gG t.1||GG t.2.1)=true then 1 else if 0≤@id Int t.2.2.1∧@id Int t.2.2.1≤100 then 0 else 2
def lr [jF w0](h:St w0 E w){t:Tgt}(hr:QO t.1){k:Int→PT}(hk:∀w',St w0 E w'→k (tgE t) w'):L.call Pr UY [.agg #[.string t.1,.string t.2.1,I t.2.2.1]] (.one (.one (.int .i64))) k w:=by
 refine zc (pp t) ?_;unfold Og;refine nw h ?_;clear h;intro b1 w h
 (refine ldC h ?_)
 have fin:∀{w},St w0 ([Cl b1 zU [.string t.1,.string t.2.1,I t.2.2.1]]::E) w→
   (L.ite (gG t.1||GG t.2.1) (λw'=>∃y,Value.int .i64 1=RT.val (.one (.one (.int .i64))) y∧k y w')<|
    L.load (.one (.int .i64)) ((⟨b1,0,none⟩:Addr).add 2) λ(x13:Int)=>
    L.callV Pr (.func (.func ZG) #[.agg #[.int .i64 0,.int .i64 100]] #[]) [.int .i64 x13] (.one (.one (.bool))) λ(x14:Bool)=>
    L.ite (!x14) (λw'=>∃y,Value.int .i64 2=RT.val (.one (.one (.int .i64))) y∧k y w')<|
    λw'=>∃y,Value.int .i64 0=RT.val (.one (.one (.int .i64))) y∧k y w') w:=by
  intro w h;refine it (λhb=>?_) (λhb=>?_)
  ·have:=hk w (zy h);unfold tgE at this;rw[if_pos hb]at this;exact⟨1,rfl,this⟩
  ·(refine ldC h ?_)
   refine Qr (fs:=#[.agg #[.int .i64 0,.int .i64 100]]) (cs:=#[]) Fy (VV (0,100,()) t.2.2.1) ?_;unfold QK;refine nw h ?_;clear h;intro b2 w h
   (dsimp only[ze,List.cons_append,List.nil_append]at h;refine ldC h ?_)
   have fin2:∀{w},∀b:Bool,(b=decide (0≤@id Int t.2.2.1∧@id Int t.2.2.1≤100))→St w0 ([Cl b2 Fc [I 0,I 100]]::[Cl b1 zU [.string t.1,.string t.2.1,I t.2.2.1]]::E) w→(∃x,Value.bool b=RT.val (.one (.one .bool)) x∧
     (L.ite (!x) (λw'=>∃y,Value.int .i64 2=RT.val (.one (.one (.int .i64))) y∧k y w')<| λw'=>∃y,Value.int .i64 0=RT.val (.one (.one (.int .i64))) y∧k y w') w):=by
    intro w b e h;refine⟨b,rfl,?_⟩;have:=hk w (zy (zy h));unfold tgE at this;rw[if_neg (by simp[hb])]at this;refine it (λhx=>?_) (λhx=>?_)
    ·have hx:b=false:=by simpa using hx
     rw[if_neg (of_decide_eq_false (e.symm.trans hx))]at this;exact⟨2,rfl,this⟩
    ·have hx:b=true:=by simpa using hx
     rw[if_pos (of_decide_eq_true (e.symm.trans hx))]at this;exact⟨0,rfl,this⟩
   refine it (λh0=>?_) (λh0=>?_)
   ·have h0:=of_decide_eq_true h0
    (refine ldC h ?_)
    refine fin2 _ ?_ h;exact decide_eq_decide.2 ⟨λhh=>⟨h0,hh⟩,λhh=>hh.2⟩
   ·have h0:=of_decide_eq_false h0;exact fin2 _ (decide_eq_false λhh=>h0 hh.1).symm h
 have tag:∀{w}{k4:Bool×Unit→PT},(∀w',St w0 ([Cl b1 zU [.string t.1,.string t.2.1,I t.2.2.1]]::E) w'→k4 (GG t.2.1,()) w')→St w0 ([Cl b1 zU [.string t.1,.string t.2.1,I t.2.2.1]]::E) w→
   (L.load (.one (.str)) ((⟨b1,0,none⟩:Addr).add 1) λ(x7:B0)=>
    L.ite (!(x7.toList == s_.toList)) (
     L.load (.one (.str)) ((⟨b1,0,none⟩:Addr).add 1) λ(x8:B0)=>
     L.call Pr jr [.string x8] (.one (.one (.bool))) λ(x9:Bool)=>
     k4 (!x9,()))<|
    k4 (false,())) w:=by
  intro w k4 hk4 h
  (refine ldC h ?_)
  rw[JI];refine it (λhb=>?_) (λhb=>?_)
  ·have hb:decide (t.2.1=s_)=false:=by simpa using hb
   (refine ldC h ?_)
   refine RA h XT λw h=>?_;have:=hk4 w h;unfold GG at this;rw[hb]at this;exact this
  ·have hb:decide (t.2.1=s_)=true:=by simpa using hb
   have:=hk4 w h;unfold GG at this;rw[hb]at this;exact this
 refine MC h hr λc n w h=>?_;refine ZA (λz w=>z=(gG t.1||GG t.2.1,())∧St w0 ([Cl b1 zU [.string t.1,.string t.2.1,I t.2.2.1]]::E) w) (λk4 hk4=>?_) (λz w ⟨hz,h⟩=>by subst hz;exact fin h)
 (refine ldC h ?_)
 refine it (λhb=>?_) (λhb=>?_)
 ·have hb:decide (t.1=s_)=false:=by rw[JI]at hb;simpa using hb
  refine it (λhc=>?_) (λhc=>?_)
  ·have e:gG t.1=true:=by unfold gG;rw[hb];simpa using hc
   rw[e,Bool.true_or]at hk4;have hc:(!tP t.1)=true:=hc;dsimp only;rw[hc];exact hk4 _ w ⟨rfl,h⟩
  ·have e:gG t.1=false:=by unfold gG;rw[hb];simpa using hc
   rw[e,Bool.false_or]at hk4;exact tag (λw h=>hk4 _ w ⟨rfl,h⟩) h
 ·have hb:decide (t.1=s_)=true:=by rw[JI]at hb;simpa using hb
  have e:gG t.1=false:=by unfold gG;rw[hb];rfl
  rw[e,Bool.false_or]at hk4;exact tag (λw h=>hk4 _ w ⟨rfl,h⟩) h
abbrev pV(g:B0)(x:Tgt):Bool:=decide (x.2.1=g)
def dY{b:Nat}{t:Tgt}(h:St w0 ([Cl b zU (eT t)]::E) w){v:Sl}{ts:List Tgt}(r:RdE w0 E eT v ts)(hn:ts.length<1000000){k:Bool→PT}(hk:∀w',St w0 ([Cl b zU (eT t)]::E) w'→k (ts.any (pV t.2.1)) w') :
  L.call Pr ZN [.slice v.a v.len v.cap,.func (.func xE) #[] #[.pointer (some ⟨b,0,none⟩)]] (.one (.one .bool)) k w:=by
 refine zc (Jb v ⟨.func xE,#[],#[.pointer (some ⟨b,0,none⟩)]⟩) ?_;unfold yJ;refine zc (JR v ⟨.func xE,#[],#[.pointer (some ⟨b,0,none⟩)]⟩) ?_;unfold Yf;have hl:=(r w (zy h)).len;refine Zh (λq y w=>∃i:Nat,y=((i:Int),())∧q+i=ts.length∧(ts.take i).any (pV t.2.1)=false∧St w0 ([Cl b zU (eT t)]::E) w) ts.length ⟨0,rfl,rfl,rfl,h⟩ ?_;clear h;rintro q y w ⟨i,rfl,hq,hno,h⟩ again hag;dsimp only;refine it (λhb=>?_) (λhb=>?_)<;>(try simp only[zB]at hb)
 ·have hi:i<ts.length:=by omega
  have hx:ts[i]? = some ts[i]:=List.getElem?_eq_getElem hi;generalize ts[i]=x at hx;have rr:=r w (zy h);refine rr.ix GZ (by omega) (by simpa using hi) λa ha=>?_;rw[Int.toNat_natCast]at ha;refine rr.lda GZ ha hx rfl ?_;refine Qr (fs:=#[]) (cs:=#[.pointer (some ⟨b,0,none⟩)]) Tj (To x ⟨b,0,none⟩) ?_;unfold Gn;have h:St w0 ([Cl b zU [.string t.1,.string t.2.1,I t.2.2.1]]::E) w:=h;refine nw h ?_;clear h;intro b1 w h
  (refine ldC h ?_;refine ldC h ?_)
  refine⟨_,rfl,?_⟩;have h:St w0 ([Cl b zU (eT t)]::E) w:=zy h;rw[JI];refine it (λhc=>?_) (λhc=>?_)
  ·refine⟨_,rfl,_,rfl,?_⟩;have e:ts.any (pV t.2.1)=true:=List.any_eq_true.2 ⟨x,List.mem_of_getElem? hx,hc⟩;have:=hk w h;rw[e]at this;rw[decide_eq_true (show(i:Int)≥0 by omega)];exact this
  ·rw[wr (by omega) (by omega)];refine hag (q-1) _ w (by omega) ⟨i+1,by simp,by omega,?_,h⟩;rw[List.take_add_one,hx,List.any_append,hno];simpa using hc
 ·have e:ts.take i=ts:=List.take_of_length_le (by omega);rw[e]at hno;refine⟨_,rfl,_,rfl,?_⟩;have:=hk w h;rw[hno]at this;exact this
def KW(ts:List Tgt)(i:Nat):Bool:=match ts[i]? with
 | some t=>!decide (t.2.1=s_)&&(ts.take i).any (pV t.2.1)
 | none=>false
def pct(t:Tgt):Int:=t.2.2.1
def rh(ts:List Tgt):Int:=if(List.range ts.length).any (KW ts)=true then 5 else if(ts.map pct).sum=100 then 0 else 4
def RM{l:List Tgt}(h:∀t∈l,0≤pct t∧pct t≤100):0≤(l.map pct).sum∧(l.map pct).sum≤100*l.length:=by
 induction l with
 | nil=>simp
 | cons t l ih=>
  have h1:=h t (by simp);have h2:=ih λx hx=>h x (by simp[hx]);simp only[List.map_cons,List.sum_cons,List.length_cons];omega
def rv(h:St w0 E w){v:Sl}{ts:List Tgt}(r:RdE w0 E eT v ts)(hvc:v.len≤v.cap)(hn:ts.length≤1000)(hp:∀t∈ts,0≤pct t∧pct t≤100){k:Int→PT}(hk:∀w',St w0 E w'→k (rh ts) w') :
  L.call Pr OM [.slice v.a v.len v.cap] (.one (.one (.int .i64))) k w:=by
 refine zc (Dd v) ?_;unfold ME;have hl:=(r w h).len;refine Zh (λq y w=>∃i:Nat,y=(((ts.take i).map pct).sum,(i:Int),())∧q+i=ts.length∧(List.range i).any (KW ts)=false∧St w0 E w) ts.length ⟨0,rfl,rfl,rfl,h⟩ ?_;clear h;rintro q y w ⟨i,rfl,hq,hno,h⟩ again hag;dsimp only;refine it (λhb=>?_) (λhb=>?_)<;>(try simp only[zB]at hb)
 ·have hi:i<ts.length:=by omega
  have hx:ts[i]? = some ts[i]:=List.getElem?_eq_getElem hi;generalize ts[i]=t at hx;have ht:=hp t (List.mem_of_getElem? hx);have hs:=RM (l:=ts.take i) λx hx=>hp x (List.mem_of_mem_take hx);rw[List.length_take]at hs;have es:((ts.take (i+1)).map pct).sum=((ts.take i).map pct).sum+pct t:=by rw[List.take_add_one,hx];simp
  have tw:KW ts i=(!decide (t.2.1=s_)&&(ts.take i).any (pV t.2.1)):=by unfold KW;rw[hx]
  have next:∀{w},KW ts i=false→St w0 E w→again (Wi (((ts.take i).map pct).sum+pct t),Wi ((i:Int)+1),()) w:=by
   intro w hf h;rw[wr (by omega) (by omega),wr (by omega) (by omega)];refine hag (q-1) _ w (by omega) ⟨i+1,by rw[es];simp,by omega,?_,h⟩;rw[List.range_succ,List.any_append,hno];simp[hf]
  refine jd ?_;have rr:=r w h;refine rr.ix GZ (by omega) (by simpa using hi) λa ha=>?_;rw[Int.toNat_natCast]at ha;refine rr.lda GZ ha hx rfl ?_;refine nw h ?_;clear h;intro b7 w h
  (refine stC h ?_;clear h;intro w h;dsimp only[zP,ze]at h;refine ldC h ?_;refine ldC h ?_)
  rw[JI];refine it (λhc=>?_) (λhc=>?_)
  ·refine gd (by omega) ?_;have hc:decide (t.2.1=s_)=false:=by simpa using hc
   rw[hc]at tw;have h:St w0 ([Cl b7 zU (eT t)]::E) w:=h;have r2:RdE w0 E eT ⟨if Int.toNat ((v.cap:Nat):Int)=Int.toNat (0:Int)then v.a else Option.map (λa:Addr=>a.add (Int.toNat (0:Int)*3)) v.a,Int.toNat (i:Int)-Int.toNat (0:Int),Int.toNat ((v.cap:Nat):Int)-Int.toNat (0:Int)⟩ (ts.take i):=by
    intro w h;have:=(r w h).cut GZ 0 i (by omega) (by omega) hvc (v.cap-0);simpa using this
   refine dY h r2 (by rw[List.length_take];omega) λw h=>?_;refine it (λhd=>?_) (λhd=>?_)
   ·have e:(List.range ts.length).any (KW ts)=true:=List.any_eq_true.2 ⟨i,List.mem_range.2 hi,by rw[tw,hd];rfl⟩;have:=hk w (zy h);unfold rh at this;rw[if_pos e]at this;exact⟨_,rfl,this⟩
   ·have hd:(ts.take i).any (pV t.2.1)=false:=by simpa using hd
    exact next (by rw[tw,hd];rfl) (zy h)
  ·have hc:decide (t.2.1=s_)=true:=by simpa using hc
   exact next (by rw[tw,hc];rfl) (zy h)
 ·have e:ts.take i=ts:=List.take_of_length_le (by omega);have ei:i=ts.length:=by omega
  rw[e];rw[ei]at hno;have:=hk w h;unfold rh at this;rw[if_neg (by simp[hno])]at this;refine it (λhs=>?_) (λhs=>?_)<;>(try simp only[zB]at hs)
  ·rw[if_neg hs]at this;exact⟨_,rfl,this⟩
  ·rw[if_pos hs]at this;exact⟨_,rfl,this⟩
def mo(a:ARt):Int:=
 if ZM a.name.data.toList 16=true∧ZM a.cfg.data.toList 16=true then
  if 0≤a.roll∧a.roll≤60 then
   if 1≤a.ts.length∧a.ts.length≤6 then
    match a.ts.find? λt=>decide (tgE t≠0) with
    | some t=>tgE t
    | none=>rh a.ts
   else 3
  else 2
 else 1
def RI{t:Tgt}(h:tgE t=0):0≤pct t∧pct t≤100:=by
 unfold tgE at h;split at h
 ·cases h
 ·split at h
  ·rename_i h2;exact h2
  ·cases h
def ru [jF w0](h:St w0 E w){a:ARt}{v:Sl}(r:RdE w0 E eT v a.ts)(hvc:v.len≤v.cap)(hr:∀t∈a.ts,QO t.1){k:Int→PT}(hk:∀w',St w0 E w'→k (mo a) w') :
  L.call Pr zM [.agg #[.string a.name,.string a.cfg,.slice v.a v.len v.cap,I a.roll]] (.one (.one (.int .i64))) k w:=by
 refine zc (Tp (a.name,a.cfg,v,a.roll,())) ?_;unfold Gp;have hl:=(r w h).len;refine nw h ?_;clear h;intro b1 w h;unfold mo at hk;refine ZA (λz w=>z=(!(ZM a.name.data.toList 16&&ZM a.cfg.data.toList 16),())∧St w0 ([Cl b1 ZZ [.string a.name,.string a.cfg,.slice v.a v.len v.cap,I a.roll]]::E) w) (λk2 hk2=>?_) (λz w ⟨hz,h⟩=>?_)
 ·(dsimp only[ze,List.cons_append,List.nil_append]at h;refine ldC h ?_)
  refine fg h XT λw h=>?_;refine it (λhc=>?_) (λhc=>?_)
  ·have hc:ZM a.name.data.toList 16=false:=by simpa using hc
   rw[hc]at hk2 ⊢;exact hk2 _ w ⟨rfl,h⟩
  ·have hc:ZM a.name.data.toList 16=true:=by simpa using hc
   rw[hc]at hk2
   (refine ldC h ?_)
   refine fg h XT λw h=>?_;exact hk2 _ w ⟨by simp,h⟩
 ·subst hz;dsimp only;have out:∀{w}{x:Int},(∀w',St w0 E w'→k x w')→St w0 ([Cl b1 ZZ [.string a.name,.string a.cfg,.slice v.a v.len v.cap,I a.roll]]::E) w→∃y,I x=RT.val (.one (.one (.int .i64))) y∧k y w:=λhx h=>⟨_,rfl,hx _ (zy h)⟩;refine it (λhc=>?_) (λhc=>?_)
  ·have hc:(ZM a.name.data.toList 16&&ZM a.cfg.data.toList 16)=false:=(Bool.not_eq_true' _).mp hc;rw[if_neg (λhh=>by rw[hh.1,hh.2]at hc;cases hc)]at hk;exact out hk h
  rw[if_pos (by simpa using hc)]at hk
  (refine ldC h ?_)
  refine qY h λw h=>?_;refine it (λhc=>?_) (λhc=>?_)
  ·have hc:=of_decide_eq_false ((Bool.not_eq_true' _).mp hc);rw[if_neg hc]at hk;exact out hk h
  rw[if_pos (by simpa using hc)]at hk
  (refine ldC h ?_)
  refine qY h λw h=>?_;refine it (λhc=>?_) (λhc=>?_)
  ·have hc:=of_decide_eq_false (show decide (1≤((v.len:Nat):Int)∧((v.len:Nat):Int)≤6)=false from(Bool.not_eq_true' _).mp hc);rw[if_neg (by omega)]at hk;exact out hk h
  have hc:=of_decide_eq_true (show decide (1≤((v.len:Nat):Int)∧((v.len:Nat):Int)≤6)=true by simpa using hc);rw[if_pos (by omega)]at hk
  (refine ldC h ?_)
  refine Zh (λq y w=>∃i:Nat,y=((i:Int),())∧q+i=a.ts.length∧(a.ts.take i).find? (λt=>decide (tgE t≠0))=none∧St w0 ([Cl b1 ZZ [.string a.name,.string a.cfg,.slice v.a v.len v.cap,I a.roll]]::E) w) a.ts.length ⟨0,rfl,rfl,rfl,h⟩ ?_;clear h;rintro q y w ⟨i,rfl,hq,hno,h⟩ again hag;dsimp only;refine it (λhb=>?_) (λhb=>?_)<;>(try simp only[zB]at hb)
  ·have hi:i<a.ts.length:=by omega
   have hx:a.ts[i]? = some a.ts[i]:=List.getElem?_eq_getElem hi;have hdr:a.ts=a.ts.take i++a.ts[i]::a.ts.drop (i+1):=by rw[←List.drop_eq_getElem_cons hi,List.take_append_drop]
   generalize a.ts[i]=t at hx hdr;have rr:=r w (zy h);refine rr.ix GZ (by omega) (by simpa using hi) λad ha=>?_;rw[Int.toNat_natCast]at ha;refine rr.lda GZ ha hx rfl ?_;refine nw h ?_;clear h;intro b17 w h
   (refine stC h ?_;clear h;intro w h;dsimp only[zP,ze]at h;refine laC h ?_)
   refine lr (t:=t) h (hr t (List.mem_of_getElem? hx)) λw h=>?_;have h:=zy h;refine it (λhc=>?_) (λhc=>?_)
   ·have hc:tgE t≠0:=by simpa using hc
    have e:a.ts.find? (λt=>decide (tgE t≠0))=some t:=by
     rw[hdr,List.find?_append,hno];simp[hc]
    rw[e]at hk;exact out hk h
   ·have hc:tgE t=0:=by simpa using hc
    rw[wr (by omega) (by omega)];refine hag (q-1) _ w (by omega) ⟨i+1,by simp,by omega,?_,h⟩;rw[List.take_add_one,hx,List.find?_append,hno];simp[hc]
  ·have e:a.ts.take i=a.ts:=List.take_of_length_le (by omega);rw[e]at hno;rw[hno]at hk;have hall:∀t∈a.ts,0≤pct t∧pct t≤100:=λt ht=>RI (by simpa using List.find?_eq_none.1 hno t ht)
   (refine ldC h ?_)
   refine rv h (λw h=>r w (zy h)) hvc (by omega) hall λw h=>?_;exact out hk h
def rt{v:Sl}{l:List Tgt}(r:Rd w eT v l){n:Int}{x:Tgt}(hx:l[n.toNat]? = some x)(h0:0≤n){f:Nat}{lf:Lf}{u:Value}{y:lf.T}{kk:lf.T→PT}(hu:nth (eT x) f=some u)(hy:un2 lf u=some y)(hk:kk y w) :
  L.idx v.a n v.len 3 (λa=>L.load (.one lf) (a.add f) kk) w:=
 r.ix GZ h0 (List.getElem?_eq_some_iff.1 hx).1 λa ha=>r.ld GZ ha hx hu hy hk
def rD(h:St w0 E w){k:Option Addr→PT}(hk:∀b s w',ShS b ⟨[],[],0⟩ s→St w0 (s::E) w'→k (some ⟨b,0,none⟩) w'):L.call Pr kS [] (.one (.one .ptr)) k w:=by
 refine zc Cn ?_;unfold Fh;refine rQ h λbc sc w hC h=>?_;refine rO h λbr sr w hR h=>?_;refine nw h ?_;clear h;intro b w h;refine⟨_,rfl,hk b _ w ⟨⟨by simp,by simp,λx=>by simp[jk,zD,DL,Thg.gen],by simp,by simp⟩,bc,br,sc,sr,hC,hR,rfl⟩ ?_⟩;have h:=ZR (ZR (Yx h));exact h.glue3
abbrev LT:E1:=.agg [.str,.int .i64,.int .i64,.int .i64,.int .i64,.int .i64]
def UI:Cfg:=(s_,0,0,0,0,0,())
def Yl(a:jn)(n:B0):Cfg×Int×Int×Bool×Unit:=if(jk a.m n).is=true then(VN (jk a.m n),(jk a.m n).ver,(jk a.m n).gen,true,())else(UI,0,0,false,())
def My(h:St w0 E w)(i:Nat){b:Nat}{a:jn}{s:Seg}(hi:nth E i=some s)(hs:ShS b a s){n:B0}{k:LT.T×Int×Int×Bool×Unit→PT}
  (hk:∀w',St w0 E w'→k (Yl a n) w') :
  L.call Pr jq [pO b,.string n] (.tup [LT,.one (.int .i64),.one (.int .i64),.one .bool]) k w:=by
 obtain⟨ok,bc,br,sc,sr,hC,hR,rfl⟩:=hs;refine zc (KL _ _) ?_;unfold Qz;unfold Yl at hk;have h:=(h.front i hi).split3;refine nw h ?_;clear h;intro b1 w h
 (refine nn ?_;refine ldC h ?_)
 refine bZ h 2 rfl hC λw h=>?_;generalize jk a.m n=t at hk;refine nw h ?_;clear h;intro b5 w h
 (refine stC h ?_;clear h;intro w h;dsimp only[zP,ze]at h)
 refine it (λhc=>?_) (λhc=>?_)<;>(try simp only[zB]at hc)
 ·(refine stC h ?_;clear h;intro w h;dsimp only[zP,ze]at h;refine laC h ?_)
  have hc:¬t.is=true:=by simp[Thg.is,hc]
  rw[if_neg hc]at hk;exact⟨(UI,0,0,false,()),rfl,hk w (St.again i hi (zy (zy h)).glue3)⟩
 ·have hc:t.is=true:=by simpa using hc
  rw[if_pos hc]at hk
  (refine dr h ?_;clear h;intro w h;refine laC h ?_;refine ldC h ?_;refine ldC h ?_;refine stC h ?_;clear h;intro w h;dsimp only[zP,ze]at h;refine ckC h ?_;refine ckC h ?_;refine ckC h ?_;refine laC h ?_)
  exact⟨(VN t,t.ver,t.gen,true,()),rfl,hk w (St.again i hi (zy (zy h)).glue3)⟩
def Ai(m:List (B0×Thg))(n:B0):List (B0×Thg):=Zl m n (s_,0,0,0,0,0,0,(jk m n).gen,false,())
def tb(a:jn)(kind:Int)(n:B0)(ver:Int):jn×Int:=
 if kind=1 then(if GR (jk a.m n) ver false=0 then(⟨Ai a.m n,a.r,a.n+1⟩,0)else(a,GR (jk a.m n) ver false))
 else if kind=2 then(if LN (ox a.r n).is (ox a.r n).ver ver false=0 then(⟨a.m,bG a.r n,a.n+1⟩,0)else(a,LN (ox a.r n).is (ox a.r n).ver ver false))
 else(a,12)
def elT:El Pr qi zU 3 40 (.agg #[.string s_,.string s_,I 0]):=Kf (by kernel_rfl) (by kernel_rfl) rfl (by decide)
abbrev Shr:=HT [.str,.int .i64]
def eSh(t:Shr):List Value:=[.string t.1,I t.2.1]
def Ms:Enc eSh 2:=⟨λ_=>rfl,λ_=>rfl,by decide⟩
abbrev Tgo:=HT [.str,.str]
def eTo(t:Tgo):List Value:=[.string t.1,.string t.2.1]
def Mr:Enc eTo 2:=⟨λ_=>rfl,λ_=>rfl,by decide⟩
structure kG where
 sh:List Shr
 tg:List Tgo
def sD:El Pr Qh YL 2 24 (.agg #[.string s_,I 0]):=Kf (by kernel_rfl) (by kernel_rfl) rfl (by decide)
def sC:El Pr Qg XJ 2 32 (.agg #[.string s_,.string s_]):=Kf (by kernel_rfl) (by kernel_rfl) rfl (by decide)
def NR(h:St w0 E w){v:Sl}{l:List Shr}(r:Rd w eSh v l)(hn:l.length<1000000000)(h0:v.a=none→l = []){k:Sl→PT}
  (hk:∀v' s' w',Rw eSh YL 2 v' l s'→St w0 (s'::E) w'→k v' w'):L.call Pr yB [SlV v] (.one (.one .slice)) k w:=by
 refine zc (Xx v) ?_;unfold je;exact xV (K:=λv w'=>∃x,v=RT.val (.one (.one .slice)) x∧k x w') Ms sD h r (by omega) (by omega) h0 λv' s' w' hr hi h=>⟨v',rfl,hk v' s' w' hr h⟩
def NQ(h:St w0 E w){v:Sl}{l:List Tgo}(r:Rd w eTo v l)(hn:l.length<1000000000)(h0:v.a=none→l = []){k:Sl→PT}
  (hk:∀v' s' w',Rw eTo XJ 2 v' l s'→St w0 (s'::E) w'→k v' w'):L.call Pr yA [SlV v] (.one (.one .slice)) k w:=by
 refine zc (Xw v) ?_;unfold jc;exact xV (K:=λv w'=>∃x,v=RT.val (.one (.one .slice)) x∧k x w') Mr sC h r (by omega) (by omega) h0 λv' s' w' hr hi h=>⟨v',rfl,hk v' s' w' hr h⟩
structure dJ(w0:World)(E:List Seg)(p:HT [.slice,.slice])(t:kG):Prop where
 sh:RdE w0 E eSh p.1 t.sh
 tg:RdE w0 E eTo p.2.1 t.tg
 nsh:p.1.a=none→t.sh = []
 ntg:p.2.1.a=none→t.tg = []
 fsh:t.sh.length<100000
 ftg:t.tg.length<100000
def dJ.there{p:HT [.slice,.slice]}{t:kG}{s:Seg}(r:dJ w0 E p t):dJ w0 (s::E) p t:=⟨λw h=>r.sh w (zy h),λw h=>r.tg w (zy h),r.nsh,r.ntg,r.fsh,r.ftg⟩
abbrev RK(p:HT [.slice,.slice]):Value:=.agg #[.slice p.1.a p.1.len p.1.cap,.slice p.2.1.a p.2.1.len p.2.1.cap]
def lx(h:St w0 E w){p:HT [.slice,.slice]}{t:kG}(r:dJ w0 E p t){k:HT [.slice,.slice]→PT}
  (hk:∀v1 v2 s1 s2 w',Rw eSh YL 2 v1 t.sh s1→Rw eTo XJ 2 v2 t.tg s2→St w0 (s2::s1::E) w'→k (v1,v2,()) w') :
  L.call Pr ON [RK p] (.one (.agg [.slice,.slice])) k w:=by
 refine zc (Df p) ?_;unfold MG;have fsh:=r.fsh;have ftg:=r.ftg;refine nw h ?_;clear h;intro b1 w h;refine nw h ?_;clear h;intro b2 w h
 (refine dr h ?_;clear h;intro w h;refine ldC h ?_;refine ldC h ?_)
 refine NR h (r.sh w (zy (zy h))) (by omega) r.nsh λv1 s1 w r1 h=>?_
 (refine ckC h ?_)
 refine NQ h (r.tg w (zy (zy (zy h)))) (by omega) r.ntg λv2 s2 w r2 h=>?_
 (refine stC h ?_;clear h;intro w h;dsimp only[zP,ze]at h;refine laC h ?_)
 refine⟨(v1,v2,()),rfl,hk v1 v2 s1 s2 w r1 r2 ?_⟩;exact vB (vB h)
def gL:List Shr→Int→B0
 | [],_=>s_
 | s::l,d=>if d<s.2.1 then s.1 else gL l (d-s.2.1)
def CL(s:Shr)(l:List Shr)(d:Int):gL (s::l) d=if d<s.2.1 then s.1 else gL l (d-s.2.1):=rfl
def Dv(t:kG)(d:Int):B0:=gL t.sh (d%100)
def Bl(h:St w0 E w){p:HT [.slice,.slice]}{t:kG}(r:dJ w0 E p t)(hw:∀s∈t.sh,0≤@id Int s.2.1∧@id Int s.2.1≤1000){d:Int}(h0:0≤d)(h1:d<4611686018427387904){k:B0→PT}
  (hk:∀w',St w0 E w'→k (Dv t d) w'):L.call Pr Vm [RK p,I d] (.one (.one .str)) k w:=by
 refine zc (Tl p _) ?_;unfold Gk;have fsh:=r.fsh;have hlen:=Rd.len (r.sh w h);unfold Dv at hk;refine nw h ?_;clear h;intro b1 w h;refine gd (by decide) (gd (by decide) ?_)
 (refine ldC h ?_)
 have e0:Int.tmod (Wi ((Int.tmod d 100)+100)) 100=d%100:=by
  rw[Int.tmod_eq_emod_of_nonneg h0,wr (by omega) (by omega),Int.tmod_eq_emod_of_nonneg (by omega)];omega
 rw[e0];have hd:0≤d%100∧d%100<100:=by omega
 generalize d%100=d at hk hd;refine Zh (λq y w=>∃(j:Nat),@Eq Int y.2.1 j∧q+j=t.sh.length∧-100000000*(j:Int)-100≤@id Int y.1∧@id Int y.1≤100∧gL t.sh d=gL (t.sh.drop j) y.1∧St w0 ([Cl b1 yZ [SlV p.1,SlV p.2.1]]::E) w) t.sh.length ⟨0,rfl,rfl,?_,?_,rfl,h⟩ ?_
 ·show -100000000*((0:Nat):Int)-100≤d;omega
 ·show d≤100;omega
 clear h;rintro q ⟨x,y,⟨⟩⟩ w ⟨j,hy,hq,l1,l2,hp,h⟩ again hag
 (try dsimp only)
 simp only[id]at l1 l2;simp only at hy hp;subst hy;refine it (λhb=>?_) (λhb=>?_)<;>(try simp only[zB]at hb)
 ·have hj:j<t.sh.length:=by omega
  have hx:t.sh[j]? = some t.sh[j]:=List.getElem?_eq_getElem hj;have rr:=r.sh w (zy h);have hm:=hw t.sh[j] (List.getElem_mem hj);have ed:t.sh.drop j=t.sh[j]::t.sh.drop (j+1):=by rw[←List.getElem_cons_drop hj]
  rw[ed]at hp;generalize t.sh[j]=z at hx hm hp;obtain⟨z1,z2,⟨⟩⟩:=z;simp only[id]at hm;refine rr.ix Ms (by omega) (by simpa using hj) λa ha=>?_;refine rr.lda Ms ha (by simpa using hx) rfl ?_;refine nw h ?_;clear h;intro b7 w h
  (refine stC h ?_;clear h;intro w h;dsimp only[zP,ze]at h;refine ldC h ?_)
  rw[CL]at hp
  (try dsimp only at hp)
  refine it (λhc=>?_) (λhc=>?_)<;>(try simp only[zB]at hc)
  ·rw[if_pos hc]at hp
   (refine ldC h ?_)
   exact⟨_,rfl,by rw[←hp];exact hk w (zy (zy h))⟩
  ·rw[if_neg hc]at hp
   (refine ldC h ?_)
   refine hag (q-1) _ w (by omega) ⟨j+1,?_,by omega,?_,?_,?_,zy h⟩
   ·show Wi _=_;rw[wr (by omega) (by omega)];omega
   ·show _≤Wi (x-z2);rw[wr (by omega) (by omega)];omega
   ·show Wi (x-z2)≤_;rw[wr (by omega) (by omega)];omega
   ·rw[hp];show _=gL _ (Wi (x-z2));rw[wr (by omega) (by omega)]
 ·have e:t.sh.drop j = []:=List.drop_of_length_le (by omega);rw[e]at hp;exact⟨_,rfl,by have:=hk w (zy h);rw[hp]at this;exact this⟩
def MX:List Tgo→B0→B0×Bool
 | [],_=>(s_,false)
 | x::l,g=>if x.1=g then(x.2.1,true)else MX l g
def nC(x:Tgo)(l:List Tgo)(g:B0):MX (x::l) g=if x.1=g then(x.2.1,true)else MX l g:=rfl
def Rh(h:St w0 E w){p:HT [.slice,.slice]}{t:kG}(r:dJ w0 E p t){g:B0}{k:B0×Bool×Unit→PT}
  (hk:∀w',St w0 E w'→k ((MX t.tg g).1,(MX t.tg g).2,()) w'):L.call Pr UW [RK p,.string g] (.tup [.one .str,.one .bool]) k w:=by
 refine zc (pm p _) ?_;unfold Od;have ftg:=r.ftg;have hlen:=Rd.len (r.tg w h);refine nw h ?_;clear h;intro b1 w h
 (refine ldC h ?_)
 refine Zh (λq y w=>∃(j:Nat),@Eq Int y.1 j∧q+j=t.tg.length∧MX t.tg g=MX (t.tg.drop j) g∧St w0 ([Cl b1 yZ [SlV p.1,SlV p.2.1]]::E) w) t.tg.length ⟨0,rfl,rfl,rfl,h⟩ ?_;clear h;rintro q ⟨y,⟨⟩⟩ w ⟨j,hy,hq,hp,h⟩ again hag
 (try dsimp only)
 simp only at hy hp;subst hy;refine it (λhb=>?_) (λhb=>?_)<;>(try simp only[zB]at hb)
 ·have hj:j<t.tg.length:=by omega
  have hx:t.tg[j]? = some t.tg[j]:=List.getElem?_eq_getElem hj;have rr:=r.tg w (zy h);have ed:t.tg.drop j=t.tg[j]::t.tg.drop (j+1):=by rw[←List.getElem_cons_drop hj]
  rw[ed]at hp;generalize t.tg[j]=z at hx hp;obtain⟨z1,z2,⟨⟩⟩:=z;refine rr.ix Mr (by omega) (by simpa using hj) λa ha=>?_;refine rr.lda Mr ha (by simpa using hx) rfl ?_;refine nw h ?_;clear h;intro b7 w h
  (refine stC h ?_;clear h;intro w h;dsimp only[zP,ze]at h;refine ldC h ?_)
  rw[nC]at hp
  (try dsimp only at hp)
  rw[JI];refine it (λhc=>?_) (λhc=>?_)<;>(try simp only[zB]at hc)
  ·rw[if_pos hc]at hp
   (refine ldC h ?_)
   exact⟨(z2,true,()),rfl,by have:=hk w (zy (zy h));rw[hp]at this;exact this⟩
  ·rw[if_neg hc]at hp
   skip
   refine hag (q-1) _ w (by omega) ⟨j+1,?_,by omega,hp,zy h⟩;show Wi _=_;rw[wr (by omega) (by omega)];omega
 ·have e:t.tg.drop j = []:=List.drop_of_length_le (by omega);rw[e]at hp;exact⟨(s_,false,()),rfl,by have:=hk w (zy h);rw[hp]at this;exact this⟩
def shT(s:Shr):B0:=(s.1++wF)++jY (@id Int s.2.1).toNat
def toT(s:Tgo):B0:=(s.1++wE)++s.2.1
def wb(t:kG):List B0:=t.sh.map shT++t.tg.map toT
def Du(t:kG):B0:=uZ (wb t)
end Go.Proofs.YtimahgbgejngiaaGreatDoor

namespace Go.Proofs
open Go.Shelf
end Go.Proofs
namespace Go.Proofs.YtimahgbgejngiaaGreatDoor
open Go.Dm
attribute [local irreducible] L.load L.store L.chk L.new L.nonnil L.guard L.ite L.draw L.idx L.sem L.semR L.semU L.chkSem L.next L.call L.callV L.join L.alts L.loop L.begin L.endRound L.range
variable {w0 w:World}{E:List Seg}
def ofL(x:List UInt8):B0:=⟨x.toArray⟩
def aM(l:List B0):List B0:=(Lib.compact (l.map bl)).map ofL
def wOf:List Shr→B0→Int
 | [],_=>0
 | s::l,r=>if s.1=r then s.2.1 else wOf l r
def DM(fr to:List Shr):List B0:=aM (Yc (fr.map (·.1)++to.map (·.1)))
def Bv(fr to:List Shr)(gone whole:Int)(n:B0):Int:=if 0<wOf to n-wOf fr n then(wOf to n-wOf fr n)*gone/whole else 0
def wI(fr to:List Shr)(gone whole:Int)(st:Int×List Shr)(n:B0):Int×List Shr:=
 let d:=wOf fr n-wOf to n
 let m:=if 0<d then 0-(if st.1<d then st.1 else d)else Bv fr to gone whole n
 (if 0<d then st.1+m else st.1,if 0<wOf fr n+m then st.2++[(n,wOf fr n+m,())]else st.2)
def aP(fr to:List Shr)(gone whole:Int):List Shr:=
 ((DM fr to).foldl (wI fr to gone whole) (((DM fr to).map (Bv fr to gone whole)).sum,[])).2
def wi(fr to:List Shr)(gone whole:Int):List Shr:=if whole≤0∨whole≤gone then to else if gone≤0 then fr else aP fr to gone whole
abbrev Wy:=HT [.slice,.slice,.int .i64,.int .i64,.slice,.slice]
abbrev eWy:E1:=.agg [.slice,.slice,.int .i64,.int .i64,.slice,.slice]
def vWy(t:Wy):Value:=eWy.val t
def LK:Wy:=(⟨none,0,0⟩,⟨none,0,0⟩,0,0,⟨none,0,0⟩,⟨none,0,0⟩,())
structure pR where
 fr:List Shr
 to:List Shr
 since:Int
 whole:Int
 ns:List Shr
 ng:List Tgo
abbrev WBd(l:List Shr):Prop:=∀s∈l,0≤@id Int s.2.1∧@id Int s.2.1≤1000
structure pR.Ok(a:pR):Prop where
 fr:WBd a.fr
 to:WBd a.to
 ns:WBd a.ns
 lf:a.fr.length<100000
 lt:a.to.length<100000
 ln:a.ns.length<100000
 lg:a.ng.length<100000
structure WyE where
 k:B0
 t:Wy
 a:pR
def WyE.ok(P:List Seg)(x:WyE):Prop:=
 (∃s∈P,Rw eSh YL 2 x.t.1 x.a.fr s)∧(∃s∈P,Rw eSh YL 2 x.t.2.1 x.a.to s)∧x.t.2.2.1=x.a.since∧x.t.2.2.2.1=x.a.whole∧(∃s∈P,Rw eSh YL 2 x.t.2.2.2.2.1 x.a.ns s)∧(∃s∈P,Rw eTo XJ 2 x.t.2.2.2.2.2.1 x.a.ng s)
abbrev WyE.kt(x:WyE):B0×Wy:=(x.k,x.t)
abbrev WyE.ka(x:WyE):B0×pR:=(x.k,x.a)
def WyE.ok.more{P P':List Seg}{x:WyE}(h:x.ok P)(hp:∀s∈P,s∈P'):x.ok P':=by
 obtain⟨⟨s1,h1,r1⟩,⟨s2,h2,r2⟩,e1,e2,⟨s3,h3,r3⟩,⟨s4,h4,r4⟩⟩:=h;exact⟨⟨s1,hp _ h1,r1⟩,⟨s2,hp _ h2,r2⟩,e1,e2,⟨s3,hp _ h3,r3⟩,⟨s4,hp _ h4,r4⟩⟩
abbrev Ou:=List (B0×pR)
def Bq(b:Nat)(m:Ou)(s:Seg):Prop:=∃r sm,∃(P:List Seg)(Q:List WyE),MpS Value.string vWy r (Q.map WyE.kt) sm∧(∀x∈Q,x.ok P)∧m=Q.map WyE.ka∧s = [Cl b oZ [.map (some r)]]++(sm++P.flatten)
def lZ:Pr.underlying jj=some (.map zd Uh):=by kernel_rfl
def zwy(w:World):(zeroValue Uh).run Pr w = .ok (eWy.val LK) w:=by
 have h:(Pr.info? Uh).map (·.zero)=some (some (.agg #[.slice none 0 0,.slice none 0 0,I 0,I 0,.slice none 0 0,.slice none 0 0])):=by kernel_rfl
 cases hi:Pr.info? Uh with
 | none=>rw[hi]at h;cases h
 | some i=>rw[hi]at h;simp only[Option.map_some,Option.some.injEq]at h;exact zv hi h w
def DH{α:Type}{enc:α→List Value}{e size:Nat}{v:Sl}{l:List α}{s:Seg}{P:List Seg}(hE:Enc enc size)(hr:Rw enc e size v l s)(hs:s∈P)(i:Nat)(hi:nth E i=some P.flatten):RdE w0 E enc v l:=by
 obtain⟨A,B,rfl⟩:=List.append_of_mem hs;intro w h;have h:=h.front i hi;have h:St w0 (s::(A.flatten++B.flatten)::ZE E i) w:=by
  refine h.perm ?_;simp only[List.flatten_append,List.flatten_cons,←List.append_assoc];exact List.Perm.append_right _ (List.Perm.append_right _ List.perm_append_comm)
 exact Rw.rd hE h 0 rfl hr
def FX(Q:List WyE)(n:B0):Option WyE:=uW WyE.k Q n
def Do(Q:List WyE)(n:B0):zD (Q.map WyE.ka) n=(FX Q n).map WyE.a:=qR (key:=WyE.k) WyE.a n Q
def lX(Q:List WyE)(n:B0):zD (Q.map WyE.kt) n=(FX Q n).map WyE.t:=qR (key:=WyE.k) WyE.t n Q
def RC{r:Nat}{Q:List WyE}{s:Seg}(h:St w0 E w)(i:Nat)(hi:nth E i=some s)(hm:MpS Value.string vWy r (Q.map WyE.kt) s){n:B0}{kk:Wy×Bool×Unit→PT}(hk:kk (((FX Q n).map WyE.t).getD LK,(FX Q n).isSome,()) w) :
  L.semR Pr (.tup [eWy,.one .bool]) (Instr.lookup jj (.map (some r)) (.string n) true) kk w:=by
 refine MpS.get2 oV lZ zwy (λt:Wy=>t) (λ_=>rfl) h i hi hm ?_;have e:=lX Q n;have:((zD (Q.map WyE.kt) n).map λt:Wy=>t).getD LK=((FX Q n).map WyE.t).getD LK:=by rw[e];cases FX Q n<;>rfl
 rw[this,e,Option.isSome_map];exact hk
def rF(h:St w0 E w){k:Option Addr→PT}(hk:∀b s w',Bq b [] s→St w0 (s::E) w'→k (some ⟨b,0,none⟩) w'):L.call Pr OO [] (.one (.one .ptr)) k w:=by
 refine zc Dg ?_;unfold MH;refine MpS.new h Value.string vWy λr s w hm h=>?_;refine nw h ?_;clear h;intro b w h;exact⟨_,rfl,hk b _ w ⟨r,s,[],[],hm,by simp,rfl,by simp⟩ h.glue⟩
def VH(m:Ou)(n:B0):kG:=match zD m n with
 | some a=>⟨a.ns,a.ng⟩
 | none=>⟨[],[]⟩
def NG(h:St w0 E w)(i:Nat){b:Nat}{m:Ou}{s:Seg}(hi:nth E i=some s)(hs:Bq b m s){n:B0}(hok:∀a,zD m n=some a→a.Ok){k:HT [.slice,.slice]×Bool×Unit→PT}
  (hk:∀p sx w',(∀E',dJ w0 (sx::E') p (VH m n))→St w0 (sx::E) w'→k (p,(zD m n).isSome,()) w') :
  L.call Pr xN [pO b,.string n] (.tup [.agg [.slice,.slice],.one .bool]) k w:=by
 obtain⟨r,sm,P,Q,hm,hQ,rfl,rfl⟩:=hs;refine zc (oF _ _) ?_;unfold QX;have h:=(h.front i hi).split3;refine nw h ?_;clear h;intro b1 w h
 (refine nn ?_;refine ldC h ?_)
 refine RC h 2 rfl hm ?_;rw[Do]at hk hok;unfold VH at hk;rw[Do]at hk
 cases hf:FX Q n with
 | none=>
  rw[hf]at hk;refine nw h ?_;clear h;intro b5 w h
  (refine stC h ?_;clear h;intro w h;dsimp only[zP,ze]at h)
  refine itT rfl ?_
  (refine stC h ?_;clear h;intro w h;dsimp only[zP,ze]at h;refine laC h ?_)
  refine⟨((⟨none,0,0⟩,⟨none,0,0⟩,()),false,()),rfl,hk _ [] w (λ_=>⟨λ_ _=>Rd.nil,λ_ _=>Rd.nil,λ_=>rfl,λ_=>rfl,by decide,by decide⟩) ?_⟩;exact St.nil (St.again i hi (zy (zy h)).glue3)
 | some x=>
  rw[hf]at hk hok;have hx:x∈Q:=List.mem_of_find?_eq_some hf;have ho:=hok x.a rfl;obtain⟨h1,h2,e1,e2,⟨s3,h3,r3⟩,⟨s4,h4,r4⟩⟩:=hQ x hx;dsimp only[Option.map,Option.getD];generalize x.t=t at *
  refine nw h ?_;clear h;intro b5 w h
  (refine stC h ?_;clear h;intro w h;dsimp only[zP,ze]at h)
  refine itF rfl ?_
  (refine laC h ?_)
  refine lx (t:=⟨x.a.ns,x.a.ng⟩) (p:=(t.2.2.2.2.1,t.2.2.2.2.2.1,())) h ⟨DH Ms r3 h3 4 rfl,DH Mr r4 h4 4 rfl,Rw.nil0 Ms r3,Rw.nil0 Mr r4,ho.ln,ho.lg⟩ λv1 v2 s1 s2 w r1 r2 h=>?_
  (refine stC h ?_;clear h;intro w h;dsimp only[zP,ze]at h;refine laC h ?_)
  refine⟨((v1,v2,()),true,()),rfl,hk _ (s2++s1) w (λ_=>⟨λw h=>Rw.rd Ms h.split 1 rfl r1,λw h=>Rw.rd Mr h.split 0 rfl r2,Rw.nil0 Ms r1,Rw.nil0 Mr r2,ho.ln,ho.lg⟩) ?_⟩;have h:=vB (vB h);have h:=YY (YY (YY h));have h:=h.glue3;have h:=St.again (E:=s2::s1::E) (i+2) hi h;exact h.glue
instance :DecidableEq Shr:=inferInstanceAs (DecidableEq (B0×Int×Unit))
instance :DecidableEq Tgo:=inferInstanceAs (DecidableEq (B0×B0×Unit))
def FY(m:Ou)(n:B0)(t:kG)(now whole:Int):pR:=match zD m n with
 | some a=>if a.to=t.sh∧a.whole=whole then a else⟨a.ns,t.sh,now,whole,[],[]⟩
 | none=>⟨t.sh,t.sh,now,whole,[],[]⟩
def Rp(m:Ou)(n:B0)(t:kG)(now whole:Int):kG:=⟨wi (FY m n t now whole).fr (FY m n t now whole).to (now-(FY m n t now whole).since) whole,t.tg⟩
def RP(m:Ou)(n:B0)(t:kG)(now whole:Int):Ou:=
 Zl m n ⟨(FY m n t now whole).fr,(FY m n t now whole).to,(FY m n t now whole).since,(FY m n t now whole).whole,(Rp m n t now whole).sh,t.tg⟩
structure WyR(P:List Seg)(t:Wy)(a:pR):Prop where
 fr:∃s∈P,Rw eSh YL 2 t.1 a.fr s
 to:∃s∈P,Rw eSh YL 2 t.2.1 a.to s
 since:t.2.2.1=a.since
 whole:t.2.2.2.1=a.whole
def AC(w:World):(zeroValue zd).run Pr w = .ok ((E1.one .str).val s_) w:=by
 have h:(Pr.info? zd).map (·.zero)=some (some (.string s_)):=by kernel_rfl
 cases hi:Pr.info? zd with
 | none=>rw[hi]at h;cases h
 | some i=>rw[hi]at h;simp only[Option.map_some,Option.some.injEq]at h;exact zv hi h w
def AQ(m:List (B0×Int)):List (HT [.str,(.int .i64)]):=(Yc (m.map (·.1))).map λk=>(k,(zD m k).getD (0:Int),())
def AP(m:List (B0×B0)):List (HT [.str,.str]):=(Yc (m.map (·.1))).map λk=>(k,(zD m k).getD s_,())
def TF(a:Yk)(cfg:B0)(t:Tgt):B0×Int:=
 if t.1=s_ then(if DZ a cfg=s_ then(s_,9)else(DZ a cfg,0))else if YZ a t.1=true then(if Gf a t.1=true then(t.1,0)else(s_,9))else(s_,6)
abbrev rtV(r:ARt)(v:Sl):Value:=.agg #[.string r.name,.string r.cfg,.slice v.a v.len v.cap,I r.roll]
abbrev MSI:=List (B0×Int)
abbrev MSS:=List (B0×B0)
def TX(a:Yk)(cfg:B0):List Tgt→MSI→MSS→Int×MSI×MSS
 | [],ws,ts=>(0,ws,ts)
 | t::l,ws,ts=>if(TF a cfg t).2=0 then TX a cfg l (Zl ws (TF a cfg t).1 ((zD ws (TF a cfg t).1).getD 0+pct t)) (if t.2.1=s_ then ts else Zl ts t.2.1 (TF a cfg t).1)else((TF a cfg t).2,ws,ts)
abbrev AN(x:Shr):Bool:=decide (@id Int x.2.1>0)
def resolve(a:Yk)(r:ARt):kG×Int:=
 if(TX a r.cfg r.ts [] []).1=0 then(⟨(AQ (TX a r.cfg r.ts [] []).2.1).filter AN,AP (TX a r.cfg r.ts [] []).2.2⟩,0)else(⟨[],[]⟩,(TX a r.cfg r.ts [] []).1)
structure AEv where
 kind:Int
 name:B0
 tag:B0
 n:Int
 draw:Int
 c:Cfg
 r:ARt
 v:Sl
abbrev EvT:=HT [.int .i64,.str,.str,.int .i64,.int .i64,.str,.int .i64,.int .i64,.int .i64,.int .i64,.int .i64,.str,.str,.slice,.int .i64]
abbrev AEv.t(e:AEv):EvT:=(e.kind,e.name,e.tag,e.n,e.draw,e.c.1,e.c.2.1,e.c.2.2.1,e.c.2.2.2.1,e.c.2.2.2.2.1,e.c.2.2.2.2.2.1,e.r.name,e.r.cfg,e.v,e.r.roll,())
abbrev evV(e:AEv):Value:=.agg #[I e.kind,.string e.name,.string e.tag,I e.n,I e.draw,.string e.c.1,I e.c.2.1,I e.c.2.2.1,I e.c.2.2.2.1,I e.c.2.2.2.2.1,I e.c.2.2.2.2.2.1,.string e.r.name,.string e.r.cfg,.slice e.v.a e.v.len e.v.cap,I e.r.roll]
abbrev Has:=HT [.bool,.bool,.bool,.bool,.bool,.bool]
def shp(k:Int):Has×Bool:=
 if k=1 then((true,false,false,false,true,false,()),true)else if k=2 then((true,false,false,false,false,true,()),true)else if k=3 then((true,true,false,true,false,false,()),true)
 else if k=4 then((true,true,true,true,false,false,()),true)else if k=5∨k=6∨k=7∨k=8 then((true,false,false,false,false,false,()),true)else if k=9 then((false,false,false,false,false,false,()),true)
 else if k=10∨k=11∨k=12∨k=13 then((false,true,false,false,false,false,()),true)else((false,false,false,false,false,false,()),false)
def nl(h:St w0 E w){x:Int}{k:Has×Bool×Unit→PT}(hk:∀w',St w0 E w'→k ((shp x).1,(shp x).2,()) w'):L.call Pr Qc [I x] (.tup [.agg [.bool,.bool,.bool,.bool,.bool,.bool],.one .bool]) k w:=by
 refine zc (pC x) ?_;unfold Oo;unfold shp at hk;refine nw h ?_;clear h;intro b1 w h
 ((try dsimp only[ze,List.cons_append,List.nil_append]at h);repeat' (first | refine nn ?_ | (refine dr h ?_;clear h;intro w h) | refine ldC h ?_ | refine laC h ?_ | refine ckC h ?_ | (refine stC h ?_;clear h;intro w h;(try dsimp only[zP,ze]at h)) | rw[Xg] | refine jd ?_ | (refine it (λhc=>?_) (λhc=>?_)<;>(try simp only[zB]at hc))))
 all_goals exact⟨(_,_,()),rfl,eqk (hk w (zy h)) (by clear h hk;simp_all)⟩
def rM{t:Bool}{x:Int}{k:Bool→PT}(hk:k (t||decide (x=0)) w):L.call Pr xG [.bool t,I x] (.one (.one .bool)) k w:=by
 refine zc (fI t x) ?_;unfold vQ
 cases t with
 | true=>exact itT rfl ⟨true,rfl,hk⟩
 | false=>exact itF rfl ⟨_,rfl,eqk hk (by rw[Bool.false_or,Bool.eq_iff_iff];simp)⟩
def rK{t:Bool}{x:B0}{k:Bool→PT}(hk:k (t||decide (x=s_)) w):L.call Pr jM [.bool t,.string x] (.one (.one .bool)) k w:=by
 refine zc (oK t x) ?_;unfold uc
 cases t with
 | true=>exact itT rfl ⟨true,rfl,hk⟩
 | false=>exact itF rfl ⟨_,rfl,eqk hk (by rw[JI,Bool.false_or])⟩
def rN(h:St w0 E w){t:Bool}{c:Cfg}{k:Bool→PT}(hk:∀w',St w0 E w'→k (t||vq c UI) w'):L.call Pr jV [.bool t,.agg (Cfg.cells c).toArray] (.one (.one .bool)) k w:=by
 refine zc (vY t c) ?_;unfold XQ;refine nw h ?_;clear h;intro b1 w h;refine nw h ?_;clear h;intro b2 w h
 cases t with
 | true=>exact itT rfl ⟨true,rfl,hk w (zy (zy h))⟩
 | false=>
  refine itF rfl ?_
  (refine laC h ?_;refine laC h ?_)
  unfold L.chkSem;refine⟨WQ c UI w,_,rfl,?_⟩;exact hk w (zy (zy h))
def lc(r:ARt)(n:Nat):Bool:=decide (r.name=s_)&&(decide (r.cfg=s_)&&(decide (r.roll=0)&&decide (n=0)))
def Bi(h:St w0 E w){r:ARt}{v:Sl}{k:Bool→PT}(hk:∀w',St w0 E w'→k (lc r v.len) w'):L.call Pr Vq [rtV r v] (.one (.one .bool)) k w:=by
 refine zc (Tv (r.name,r.cfg,v,r.roll,())) ?_;unfold Gu;refine nw h ?_;clear h;intro b1 w h
 (dsimp only[ze,List.cons_append,List.nil_append]at h;refine ldC h ?_)
 rw[JI];unfold lc at hk
 cases h1:decide (r.name=s_) with
 | false=>exact itF rfl ⟨false,rfl,by rw[h1]at hk;exact hk w (zy h)⟩
 | true=>
  refine itT rfl ?_
  (refine ldC h ?_)
  rw[JI]
  cases h2:decide (r.cfg=s_) with
  | false=>exact itF rfl ⟨false,rfl,by rw[h1,h2]at hk;exact hk w (zy h)⟩
  | true=>
   refine itT rfl ?_
   (refine ldC h ?_)
   refine it (λh3=>?_) (λh3=>?_)
   ·(refine ldC h ?_)
    have h3:decide (r.roll=0)=true:=by simpa using h3
    rw[h1,h2,h3]at hk;refine⟨_,rfl,eqk (hk w (zy h)) ?_⟩;rw[Bool.eq_iff_iff];simp
   ·have h3:decide (r.roll=0)=false:=by simpa using h3
    rw[h1,h2,h3]at hk;exact⟨false,rfl,hk w (zy h)⟩
def wiB(n a b:Int):Bool:=decide (a≤n)&&decide (n≤b)
def Ui{n a b:Int}{k:Bool→PT}(hk:k (wiB n a b) w):L.call Pr Zg [I n,I a,I b] (.one (.one .bool)) k w:=by
 refine zc (MS n a b) ?_;unfold KA;unfold wiB at hk;refine it (λh1=>?_) (λh1=>?_)
 ·have h1:decide (a≤n)=true:=h1;rw[h1]at hk;exact⟨_,rfl,hk⟩
 ·have h1:decide (a≤n)=false:=h1;rw[h1]at hk;exact⟨_,rfl,hk⟩
def Nc(e:AEv):Bool:=if e.kind=1∨e.kind=2 then wiB e.n 0 2147483647 else if e.kind=3 then wiB e.n 1 2 else wiB e.n 1 2147483647
def dU(h:St w0 E w){e:AEv}{k:Bool→PT}(hk:∀w',St w0 E w'→k (Nc e) w'):L.call Pr uR [evV e] (.one (.one .bool)) k w:=by
 refine zc (MU e.t) ?_;unfold KC;unfold Nc at hk;refine nw h ?_;clear h;intro b1 w h
 (dsimp only[ze,List.cons_append,List.nil_append]at h;refine ldC h ?_)
 refine jd ?_;refine it (λh1=>?_) (λh1=>?_)
 ·have h1':e.kind=1:=by simpa using h1
  refine itT h1 ?_
  (refine ldC h ?_)
  refine Ui ⟨_,rfl,?_⟩;rw[if_pos (.inl h1')]at hk;exact hk w (zy h)
 ·have h1':¬e.kind=1:=by simpa using h1
  refine it (λh2=>?_) (λh2=>?_)
  ·have h2':e.kind=2:=by simpa using h2
   (refine ldC h ?_)
   refine Ui ⟨_,rfl,?_⟩;rw[if_pos (.inr h2')]at hk;exact hk w (zy h)
  ·have h2':¬e.kind=2:=by simpa using h2
   rw[if_neg (λhh=>hh.elim h1' h2')]at hk;refine it (λh3=>?_) (λh3=>?_)
   ·have h3':e.kind=3:=by simpa using h3
    rw[if_pos h3']at hk
    (refine ldC h ?_)
    exact Ui ⟨_,rfl,hk w (zy h)⟩
   ·have h3':¬e.kind=3:=by simpa using h3
    rw[if_neg h3']at hk
    (refine ldC h ?_)
    exact Ui ⟨_,rfl,hk w (zy h)⟩
def Ti(n:B0):Prop:=∃c g,ZM c.data.toList 16=true∧1≤g∧g≤999999∧n=xb c g
def Ti.is{n:B0}(h:Ti n):tP n=true:=gS.2 h
def Ti.size{n:B0}(h:Ti n):n.size≤100:=by
 obtain⟨c,g,hc,-,hg,rfl⟩:=h;have h1:=Vg hc;have h2:=Yg (xb c g);rw[qV,List.length_append,List.length_cons,Yg]at h2;have:=tW hg;omega
def GO(e:AEv):Bool:=if e.kind=12∨e.kind=13 then tP e.name else ZM e.name.data.toList 16
def NL [jF w0](h:St w0 E w){e:AEv}(hr:e.kind=12∨e.kind=13→e.name.size≤1000000){k:Bool→PT}(hk:∀w',St w0 E w'→k (GO e) w'):L.call Pr Qd [evV e] (.one (.one .bool)) k w:=by
 refine zc (pD e.t) ?_;unfold Oq;unfold GO at hk;refine nw h ?_;clear h;intro b1 w h
 (dsimp only[ze,List.cons_append,List.nil_append]at h;refine ldC h ?_)
 refine it (λh1=>?_) (λh1=>?_)
 ·have h1':e.kind=12:=by simpa using h1
  rw[if_pos (.inl h1')]at hk
  (refine ldC h ?_)
  exact MC h (hr (.inl h1')) λc n w h=>⟨_,rfl,hk w (zy h)⟩
 ·have h1':¬e.kind=12:=by simpa using h1
  (refine ldC h ?_)
  refine it (λh2=>?_) (λh2=>?_)
  ·have h2':e.kind=13:=by simpa using h2
   rw[if_pos (.inr h2')]at hk
   (refine ldC h ?_)
   exact MC h (hr (.inr h2')) λc n w h=>⟨_,rfl,hk w (zy h)⟩
  ·have h2':¬e.kind=13:=by simpa using h2
   rw[if_neg (λhh=>hh.elim h1' h2')]at hk
   (refine ldC h ?_)
   exact fg h XT λw h=>⟨_,rfl,hk w (zy h)⟩
def Wl(s:Has)(e:AEv):Bool:=
 (s.1||decide (e.n=0))&&((s.2.1||decide (e.name=s_))&&((s.2.2.1||decide (e.tag=s_))&&((s.2.2.2.1||decide (e.draw=0))&&((s.2.2.2.2.1||vq e.c UI)&&(s.2.2.2.2.2.1||lc e.r e.v.len)))))
def WZ(s:Has)(e:AEv):Int:=
 if Wl s e=false then 2 else if s.1=true∧Nc e=false then 2 else if s.2.1=true∧GO e=false then 1
 else if s.2.2.1=true∧e.tag≠s_∧ZM e.tag.data.toList 8=false then 1 else if s.2.2.2.1=true∧wiB e.draw 0 2147483647=false then 2
 else if s.2.2.2.2.1=true then qq e.c else if s.2.2.2.2.2.1=true then mo e.r else 0
def Zw(e:AEv):Int:=if(shp e.kind).2=false then 12 else WZ (shp e.kind).1 e
def nG(k:Int):(shp k).1=(true,false,false,false,true,false,())∨(shp k).1=(true,false,false,false,false,true,())∨(shp k).1=(true,true,false,true,false,false,())∨(shp k).1=(true,true,true,true,false,false,())∨
  (shp k).1=(true,false,false,false,false,false,())∨(shp k).1=(false,false,false,false,false,false,())∨(shp k).1=(false,true,false,false,false,false,()):=by
 unfold shp
 repeat' split
 all_goals simp
def PM [jF w0](h:St w0 E w){e:AEv}(hn:e.kind=12∨e.kind=13→e.name.size≤1000000)(rd:RdE w0 E eT e.v e.r.ts)(hvc:e.v.len≤e.v.cap)(hrv:∀t∈e.r.ts,QO t.1){k:Int→PT}(hk:∀w',St w0 E w'→k (Zw e) w') :
  L.call Pr Qe [evV e] (.one (.one (.int .i64))) k w:=by
 refine zc (pF e.t) ?_;unfold Ot;unfold Zw at hk;refine nw h ?_;clear h;intro b1 w h
 (dsimp only[ze,List.cons_append,List.nil_append]at h;refine ldC h ?_)
 refine nl h λw h=>?_;have hs:=nG e.kind;generalize (shp e.kind).1=s at *
 generalize (shp e.kind).2=t at *
 refine nw h ?_;clear h;intro b4 w h
 (refine stC h ?_;clear h;intro w h;dsimp only[zP,ze]at h)
 cases t with
 | false=>exact itT rfl ⟨12,rfl,by rw[if_pos rfl]at hk;exact hk w (zy (zy h))⟩
 | true=>
  refine itF rfl ?_;rw[if_neg (by decide)]at hk;unfold WZ at hk;have rd':∀{s1 s2:Seg}{w},St w0 (s1::s2::E) w→Rd w eT e.v e.r.ts:=λh=>rd _ (zy (zy h));rcases hs with rfl | rfl | rfl | rfl | rfl | rfl | rfl
  all_goals repeat' (first | refine nn ?_ | (refine dr h ?_;clear h;intro w h) | refine ldC h ?_ | refine laC h ?_ | refine ckC h ?_ | (refine stC h ?_;clear h;intro w h;(try dsimp only[zP,ze]at h)) | rw[Xg] | refine jd ?_ | refine itT rfl ?_ | refine itF rfl ?_ | refine rM ?_ | refine rK ?_ | (refine rN (c:=e.c) h λw h=>?_) | (refine Bi (r:=e.r) (v:=e.v) h λw h=>?_) | (refine dU (e:=e) h λw h=>?_) | (refine NL (e:=e) h hn λw h=>?_) | (refine RA h XT λw h=>?_) | refine Ui ?_ | (refine nj (c:=e.c) h λw h=>?_) | (refine ru (a:=e.r) (v:=e.v) h (λw h=>rd' h) hvc hrv λw h=>?_) | (refine it (λhc=>?_) (λhc=>?_)))
  all_goals exact⟨_,rfl,eqk (hk w (zy (zy h))) (by clear hk h rd rd' hrv hn hvc;(try simp only[JI]at *);simp_all [Wl])⟩
end Go.Proofs.YtimahgbgejngiaaGreatDoor

namespace Go.Proofs
open Go.Shelf
def Tryz.lays189_ren:Go.Shelf.Ren:=⟨fun | 189=>115 | 125=>186 | 257=>185 | 128=>253 | 129=>254 | 294=>244 | 295=>245 | 296=>246 | 297=>247 | 298=>248 | 299=>249 | 216=>250 | 300=>251 | 301=>252 | 328=>289 | 329=>290 | 330=>291 | 331=>292 | 332=>293 | 215=>294 | 343=>312 | n=>n,fun | 28=>24 | 3=>3 | 46=>349 | 0=>0 | 51=>410 | 53=>412 | 4=>4 | 183=>403 | 182=>402 | 131=>290 | 5=>5 | 9=>9 | 218=>442 | 222=>416 | 228=>462 | 229=>214 | n=>n,fun | n=>n⟩
def Tryz.lays189:Go.Proofs.Lays.n189 Tryz.prog Tryz.lays189_ren:={
 mixed:=by kernel_rfl
 f125:=Tryz.func186.trans cS
 f128:=Tryz.func253.trans cS
 f129:=Tryz.func254.trans cS
 f189:=Tryz.func115.trans cS
 f215:=Tryz.func294.trans cS
 f216:=Tryz.func250.trans cS
 f257:=Tryz.func185.trans cS
 f294:=Tryz.func244.trans cS
 f295:=Tryz.func245.trans cS
 f296:=Tryz.func246.trans cS
 f297:=Tryz.func247.trans cS
 f298:=Tryz.func248.trans cS
 f299:=Tryz.func249.trans cS
 f300:=Tryz.func251.trans cS
 f301:=Tryz.func252.trans cS
 f328:=Tryz.func289.trans cS
 f329:=Tryz.func290.trans cS
 f330:=Tryz.func291.trans cS
 f331:=Tryz.func292.trans cS
 f332:=Tryz.func293.trans cS
 f343:=Tryz.func312.trans cS
 t0:=Tryz.underlying0
 a0:=Tryz.isAgg0
 z0:=Tryz.sizeOf0
 v0:=Tryz.zeroValue0
 t3:=Tryz.underlying3
 a3:=Tryz.isAgg3
 z3:=Tryz.sizeOf3
 v3:=Tryz.zeroValue3
 t4:=Tryz.underlying4
 a4:=Tryz.isAgg4
 z4:=Tryz.sizeOf4
 v4:=Tryz.zeroValue4
 t5:=Tryz.underlying5
 a5:=Tryz.isAgg5
 z5:=Tryz.sizeOf5
 v5:=Tryz.zeroValue5
 t9:=Tryz.underlying9
 a9:=Tryz.isAgg9
 z9:=Tryz.sizeOf9
 v9:=Tryz.zeroValue9
 t28:=Tryz.underlying24
 a28:=Tryz.isAgg24
 z28:=Tryz.sizeOf24
 v28:=Tryz.zeroValue24
 t46:=Tryz.underlying349
 a46:=Tryz.isAgg349
 z46:=Tryz.sizeOf349
 v46:=Tryz.zeroValue349
 t51:=Tryz.underlying410
 a51:=Tryz.isAgg410
 z51:=Tryz.sizeOf410
 v51:=Tryz.zeroValue410
 t53:=Tryz.underlying412
 a53:=Tryz.isAgg412
 z53:=Tryz.sizeOf412
 v53:=Tryz.zeroValue412
 t131:=Tryz.underlying290
 a131:=Tryz.isAgg290
 z131:=Tryz.sizeOf290
 v131:=Tryz.zeroValue290
 t182:=Tryz.underlying402
 a182:=Tryz.isAgg402
 z182:=Tryz.sizeOf402
 v182:=Tryz.zeroValue402
 t183:=Tryz.underlying403
 a183:=Tryz.isAgg403
 z183:=Tryz.sizeOf403
 v183:=Tryz.zeroValue403
 t218:=Tryz.underlying442
 a218:=Tryz.isAgg442
 z218:=Tryz.sizeOf442
 v218:=Tryz.zeroValue442
 t222:=Tryz.underlying416
 a222:=Tryz.isAgg416
 z222:=Tryz.sizeOf416
 v222:=Tryz.zeroValue416
 t228:=Tryz.underlying462
 a228:=Tryz.isAgg462
 z228:=Tryz.sizeOf462
 v228:=Tryz.zeroValue462
 t229:=Tryz.underlying214
 a229:=Tryz.isAgg214
 z229:=Tryz.sizeOf214
 v229:=Tryz.zeroValue214 }
open Go.Sort Go.RowKit in
def Tryz.slices_Sort_int(blk off cap:Nat)(zs:List Int)(w:World)(hH:Holds (Value.int .i64) w blk off zs.toArray)(hblk:blk<w.heap.size)(hsz:zs.length<4611686018427387904) :
  Calls Tryz.prog 115 #[.slice (some ⟨blk,off,none⟩) zs.length cap] w λe w'=>
   e = .returned (.tuple #[])∧∃n os,w'=grow (putRow (Value.int .i64) (Sort.ahead w n) blk off (zs.mergeSort λx y=>decide (x≤y)).toArray) os:=Any.slices_Sort_int Tryz.lays189 blk off cap zs w hH hblk hsz
end Go.Proofs
namespace Go.Proofs.YtimahgbgejngiaaGreatDoor
open Go.Dm
attribute [local irreducible] L.load L.store L.chk L.new L.nonnil L.guard L.ite L.draw L.idx L.sem L.semR L.semU L.chkSem L.next L.call L.callV L.join L.alts L.loop L.begin L.endRound L.range
variable {w0 w:World}{E:List Seg}
def vx(l:List Int):List Int:=l.mergeSort λx y=>decide (x≤y)
def Vt(l:List Int):(vx l).Perm l:=List.mergeSort_perm ..
def Me(l:List Int):(vx l).Pairwise (· ≤·):=by
 have:=List.pairwise_mergeSort (le:=λx y:Int=>decide (x≤y)) (λa b c h1 h2=>by simp only[decide_eq_true_eq]at *;omega) (λa b=>by simp only[Bool.or_eq_true,decide_eq_true_eq];omega) l;exact this.imp λh=>by simpa using h
def cK{l m:List Int}(h:l.Perm m):vx l=vx m:=
 List.Perm.eq_of_pairwise (λa b _ _ h1 h2=>by omega) (Me l) (Me m) (((Vt l).trans h).trans (Vt m).symm)
def Ww{l m:List Int}(h:l.Perm m)(hm:m.Pairwise (· ≤·)):vx l=m:=
 List.Perm.eq_of_pairwise (λa b _ _ h1 h2=>by omega) (Me l) hm ((Vt l).trans h)
def od(l:List Int):(vx l).length=l.length:=(Vt l).length_eq
def nv(h:St w0 E w)(i:Nat){s:Seg}(hi:nth E i=some s){v:Sl}{l:List Int}(hr:Rw eI zm 1 v l s)(hn:l.length<1000000000){k:Unit→PT}(hk:∀s' w',Rw eI zm 1 v (vx l) s'→St w0 (ze E i s') w'→k () w') :
  L.call Pr JM [.slice v.a v.len v.cap] (.tup []) k w:=
 Dy (encv:=Value.int .i64) (λ_=>rfl) xp (vx l) (od l) (λg off cap w h1 h2=>Tryz.slices_Sort_int g off cap l w h1 h2 (by omega)) (λp cap w=>Any.slices_Sort_int_none Tryz.lays189 p cap w) h i hi hr hk
def Th{a1 a2:Seg}{F:List Seg}{fv:FV}{keys:List Int}(hY:Cb Pr w0 [a1,a2] fv.val keys (Value.int .i64))(h:St w0 (a1::a2::F) w)(hn:keys.length<1000000000){k:Sl→PT}
  (hk:∀seen v s w',seen.Perm keys→Rw eI zm 1 v seen s→St w0 (s::a1::a2::F) w'→k v w'):L.call Pr YV [.slice none 0 0,fv.val] (.one (.one .slice)) k w:=by
 refine zc (Uw ⟨none,0,0⟩ fv) ?_;unfold xw;refine nw h ?_;clear h;intro b1 w h;have h:=ZR (ZR h);have h:St w0 ([a1,a2]++[Cl b1 Zv [SlV ⟨none,0,0⟩]]::[]::F) w:=h.eq (by simp);refine Pb (l:=.int .i64) (arg:=λx=>x) (A:=[a1,a2]) (keys:=keys) hY h (λseen G=>∃v s,G = [Cl b1 Zv [SlV v]]::s::F∧Rw eI zm 1 v seen s) (λj G=>False) ⟨_,_,rfl,Rw.nil⟩ ?_ ?_ ?_
 ·rintro seen x G X w lv lp d R hm ⟨v,s,rfl,hr⟩ h hN hE;have h:St w0 ([Rec lv lp .busy none]::[DfM d]::a1::a2::[Cl b1 Zv [SlV v]]::s::(F++X)) w:=h
  (refine ldC h ?_)
  refine nw h ?_;clear h;intro b8 w h;refine Rw.app xp elI h 5 rfl hr x rfl (by omega) (by omega) λv' s' w hr' h=>?_
  (dsimp only[ze,List.cons_append,List.nil_append]at h;refine stC h ?_;clear h;intro w h;dsimp only[zP,ze]at h)
  exact hN _ w ⟨v',s',rfl,hr'⟩ h
 ·rintro d seen G w hp ⟨v,s,rfl,hr⟩ h;have h:St w0 ([DfM d]::a1::a2::[Cl b1 Zv [SlV v]]::s::F) w:=h;refine vw ?_
  (refine ldC h ?_)
  (first | refine OE h ?_ | refine OD h ?_ | refine OC h ?_ | refine OB h ?_ | refine OA h ?_ | refine Oz h ?_ | refine Oy h ?_ | refine Ox h ?_ | refine Ow h ?_ | refine Ov h ?_ | refine uH h ?_ | refine uG h ?_);clear h;intro w h
  refine⟨v,rfl,hk seen v s w hp hr ?_⟩;have h:=xc (Yx (Yx h));have h:=QJ h;exact h
 ·rintro d j G w hf;exact hf.elim
def ph{a1 a2:Seg}{F:List Seg}{fv:FV}{keys:List Int}(hY:Cb Pr w0 [a1,a2] fv.val keys (Value.int .i64))(h:St w0 (a1::a2::F) w)(hn:keys.length<1000000000){k:Sl→PT}
  (hk:∀v s w',Rw eI zm 1 v (vx keys) s→St w0 (s::a2::F) w'→k v w'):L.call Pr jK [fv.val] (.one (.one .slice)) k w:=by
 refine zc (oE fv) ?_;unfold QW;refine zc (KK fv) ?_;unfold Qy;refine Th hY h hn λseen v s w hp hr h=>⟨v,rfl,?_⟩;refine nv h 0 rfl hr (by rw[hp.length_eq];exact hn) λs w hr h=>?_;rw[cK hp]at hr;exact⟨v,rfl,hk v s w hr (jE h)⟩
def unI:Value→Int
 | .int _ n=>n
 | _=>0
abbrev KI:Int→Value:=Value.int .i64
def Cw(x:B0×Option Addr):Value:=.agg #[.string x.1,.pointer x.2]
def vk:Pr.underlying Ja=some (.map zm Vw):=by kernel_rfl
def Xy:Pr.underlying Ze=some (.map zm Qs):=by kernel_rfl
def pT:Pr.underlying Qj=some (.map zm zm):=by kernel_rfl
def La:Pr.underlying zm=some (.int .i64):=by kernel_rfl
def mkI:MK Pr zm KI:=bn La
def zb(w:World):(zeroValue Vw).run Pr w = .ok ((E1.one .bool).val false) w:=by
 have h:(Pr.info? Vw).map (·.zero)=some (some (.bool false)):=by kernel_rfl
 cases hi:Pr.info? Vw with
 | none=>rw[hi]at h;cases h
 | some i=>rw[hi]at h;simp only[Option.map_some,Option.some.injEq]at h;exact zv hi h w
def zi(w:World):(zeroValue zm).run Pr w = .ok ((E1.one (.int .i64)).val (0:Int)) w:=by
 have h:(Pr.info? zm).map (·.zero)=some (some (I 0)):=by kernel_rfl
 cases hi:Pr.info? zm with
 | none=>rw[hi]at h;cases h
 | some i=>rw[hi]at h;simp only[Option.map_some,Option.some.injEq]at h;exact zv hi h w
def zo(w:World):(zeroValue Qs).run Pr w = .ok ((E1.agg [.str,.ptr]).val (s_,none,())) w:=by
 have h:(Pr.info? Qs).map (·.zero)=some (some (.agg #[.string s_,.pointer none])):=by kernel_rfl
 cases hi:Pr.info? Qs with
 | none=>rw[hi]at h;cases h
 | some i=>rw[hi]at h;simp only[Option.map_some,Option.some.injEq]at h;exact zv hi h w
def Ay(h:St w0 E w)(i:Nat){s:Seg}(hi:nth E i=some s){r:Nat}{m:List (Int×(B0×Option Addr))}(hm:MpS KI Cw r m s)(hn:m.length<1000000000){k:Sl→PT}
  (hk:∀v s' w',Rw eI zm 1 v (vx (m.map (·.1))) s'→St w0 (s'::E) w'→k v w') :
  L.call Pr ZO [.map (some r)] (.one (.one .func)) (λx5=>L.call Pr jK [.func x5.fn x5.fs x5.cs] (.one (.one .slice)) k) w:=by
 refine zc (Jc _) ?_;unfold yK;have h:=h.front i hi;refine nw h ?_;clear h;intro c w h;refine⟨⟨.func zI,#[],#[.pointer (some ⟨c,0,none⟩)]⟩,rfl,?_⟩;have hY:Cb Pr w0 [[Cl c Ze [.map (some r)]],s] (.func (.func zI) #[] #[.pointer (some ⟨c,0,none⟩)]) (m.map (·.1)) KI:=by
  intro yv R J Jd F w h hJ step fin fin2;refine⟨jH,jI yv ⟨c,0,none⟩ ?_⟩;unfold yy;exact tO (kv:=KI) (vv:=Cw) unI (λ_=>rfl) Xy (lk:=.int .i64) (ev:=.agg [.str,.ptr]) (λx=>x) (λ_=>rfl) (λx:B0×Option Addr=>(x.1,x.2,())) (λ_=>rfl) J Jd hm h hJ (λseen k F X w hl hJ h=>step seen k F X w (by simpa using hl) hJ h) fin fin2
 refine ph (fv:=⟨.func zI,#[],#[.pointer (some ⟨c,0,none⟩)]⟩) hY h (by simpa using hn) λv s' w hr h=>hk v s' w hr ?_;have h:=Yx h;exact St.setN_same' (i+1) (E:=s'::E) hi (St.back (i+1) (E:=s'::E) hi h)
structure jf where
 st:Int
 conc:Int
 reqs:List Int
def gV(x:Int):List Int→List Int
 | []=>[x]
 | y::l=>if y<x then y::gV x l else x::y::l
structure jf.Ok(p:jf):Prop where
 pw:p.reqs.Pairwise (· < ·)
 dr:p.st=3→p.reqs≠[]
 dead:p.st=4→p.reqs = []
 few:p.reqs.length<100000000
def Ro(p:jf):jf×Int:=if p.st≠1 then(p,9)else({ p with st:=2 },0)
def yo(p:jf):jf×Int:=if p.st≠1∧p.st≠2 then(p,9)else({ p with st:=if p.reqs = []then 4 else 3 },0)
def FN(p:jf):jf×List Int×Int:=if p.st=4 then(p,[],9)else({ p with st:=4,reqs:=[] },p.reqs,0)
def ZY(p:jf)(id:Int):jf×Int:=
 if p.st≠2 then(p,9)else if id∈p.reqs then(p,5)else if(p.reqs.length:Int)≥p.conc then(p,8)else({ p with reqs:=gV id p.reqs },0)
def LA(p:jf)(id:Int):jf×Int:=
 if id∈p.reqs then({ p with reqs:=p.reqs.erase id,st:=if p.st=3∧p.reqs.erase id = []then 4 else p.st },0)else(p,6)
def vy(x:Int)(l:List Int):(gV x l).Perm (x::l):=by
 induction l with
 | nil=>exact .refl _
 | cons y l ih=>
  simp only[gV];split
  ·exact(ih.cons y).trans (.swap ..)
  ·exact .refl _
def vz{x y:Int}{l:List Int}:y∈gV x l↔y=x∨y∈l:=by
 rw[(vy x l).mem_iff];simp
def DP{x:Int}:∀{l:List Int},l.Pairwise (· < ·)→x∉l→(gV x l).Pairwise (· < ·)
 | [],_,_=>by simp[gV]
 | y::l,h,hx=>by
  simp only[List.mem_cons,not_or]at hx;rw[List.pairwise_cons]at h;simp only[gV];split
  ·rename_i hy;rw[List.pairwise_cons];refine⟨λz hz=>?_,DP h.2 hx.2⟩;rcases vz.1 hz with rfl | hz
   ·exact hy
   ·exact h.1 z hz
  ·rename_i hy;rw[List.pairwise_cons];refine⟨λz hz=>?_,List.pairwise_cons.2 h⟩;rcases List.mem_cons.1 hz with rfl | hz
   ·omega
   ·have:=h.1 z hz;omega
def cL(x:Int)(l:List Int):(gV x l).length=l.length+1:=by rw[(vy x l).length_eq];rfl
def VW(m:List (Int×Bool))(reqs:List Int):Prop:=(∀p∈m,p.2=true)∧(m.map (·.1)).Perm reqs
def VW.get{m:List (Int×Bool)}{reqs:List Int}(h:VW m reqs)(id:Int):((zD m id).map λx=>x).getD false=decide (id∈reqs):=by
 cases hg:zD m id with
 | none=>
  have:=yV.1 hg;rw[h.2.mem_iff]at this;simp[this]
 | some b=>
  have hm:=jX hg;have hb:=h.1 _ hm;simp only at hb;subst hb;have:id∈reqs:=h.2.mem_iff.1 (List.mem_map_of_mem (f:=(·.1)) hm);simp[this]
def VW.len{m:List (Int×Bool)}{reqs:List Int}(h:VW m reqs):m.length=reqs.length:=by
 have:=h.2.length_eq;simpa using this
def VW.put{m:List (Int×Bool)}{reqs:List Int}(h:VW m reqs){id:Int}(hn:id∉reqs):VW (Zl m id true) (gV id reqs):=by
 have hg:zD m id=none:=yV.2 (λhm=>hn (h.2.mem_iff.1 hm));rw[jW hg];refine⟨λp hp=>?_,?_⟩
 ·rcases List.mem_append.1 hp with hp | hp
  ·exact h.1 p hp
  ·simp at hp;subst hp;rfl
 ·rw[List.map_append];refine List.Perm.trans ?_ (vy id reqs).symm;exact List.perm_append_comm.trans (h.2.cons id)
def Ph:∀{m:List (Int×Bool)}{k:Int},((uU m k).map (·.1)).Perm ((m.map (·.1)).erase k)
 | [],k=>by simp[uU]
 | p::m,k=>by
  simp only[uU];by_cases e:p.1=k
  ·rw[if_pos e];subst e;simp
  ·rw[if_neg e,List.map_cons,List.map_cons,List.erase_cons_tail (by simpa using e)];exact(Ph (m:=m) (k:=k)).cons _
def cx{κ υ:Type}[DecidableEq κ]:∀{m:List (κ×υ)}{k:κ}{p:κ×υ},p∈uU m k→p∈m
 | q::m,k,p,h=>by
  simp only[uU]at h;split at h
  ·exact List.mem_cons_of_mem _ h
  ·rcases List.mem_cons.1 h with rfl | h
   ·exact List.mem_cons_self ..
   ·exact List.mem_cons_of_mem _ (cx h)
def VW.take{m:List (Int×Bool)}{reqs:List Int}(h:VW m reqs)(id:Int):VW (uU m id) (reqs.erase id):=
 ⟨λp hp=>h.1 p (cx hp),Ph.trans (h.2.erase id)⟩
def OZ(b:Nat)(p:jf)(s:Seg):Prop:=p.Ok∧∃r m sm,MpS KI Value.bool r m sm∧VW m p.reqs∧s = [Cl b vC [I p.st,.map (some r),I p.conc]]++sm
def bW(h:St w0 E w){conc:Int}{k:Option Addr→PT}(hk:∀b s w',OZ b ⟨1,conc,[]⟩ s→St w0 (s::E) w'→k (some ⟨b,0,none⟩) w'):L.call Pr GP [I conc] (.one (.one .ptr)) k w:=by
 refine zc (NT _) ?_;unfold PP;refine MpS.new h KI Value.bool λr s w hm h=>?_;refine nw h ?_;clear h;intro b w h;exact⟨_,rfl,hk b _ w ⟨⟨by simp,by simp,by simp,by simp⟩,r,[],s,hm,⟨by simp,.refl _⟩,rfl⟩ h.glue⟩
def lG(h:St w0 E w)(i:Nat){b:Nat}{p:jf}{s:Seg}(hi:nth E i=some s)(hp:OZ b p s){k:Int→PT}(hk:k p.st w):L.call Pr ZT [pO b] (.one (.one (.int .i64))) k w:=by
 obtain⟨ok,r,m,sm,hm,hb,rfl⟩:=hp;refine zc (FB _) ?_;unfold VS;have h:=(h.front i hi).split
 (refine nn ?_;refine ldC h ?_)
 exact⟨_,rfl,hk⟩
def rH(h:St w0 E w)(i:Nat){b:Nat}{p:jf}{s:Seg}(hi:nth E i=some s)(hp:OZ b p s){k:Int→PT}(hk:k p.reqs.length w):L.call Pr yQ [pO b] (.one (.one (.int .i64))) k w:=by
 obtain⟨ok,r,m,sm,hm,hb,rfl⟩:=hp;refine zc (KM _) ?_;unfold Un;have h:=(h.front i hi).split
 (refine nn ?_;refine ldC h ?_)
 refine MpS.len vk h 1 rfl hm ⟨_,rfl,?_⟩;rw[hb.len];exact hk
def bX{b r:Nat}{st conc:Int}{m:List (Int×Bool)}{reqs:List Int}{sm:Seg}{F:List Seg}(hm:MpS KI Value.bool r m sm)(hb:VW m reqs)(h:St w0 ([Cl b vC [I st,.map (some r),I conc]]::sm::F) w){k:Unit→PT}
  (hk:∀w',St w0 ([Cl b vC [I (if st=3∧reqs = []then 4 else st),.map (some r),I conc]]::sm::F) w'→k () w'):L.call Pr UZ [pO b] (.tup []) k w:=by
 refine zc (pt _) ?_;unfold Oj
 (refine nn ?_;refine ldC h ?_)
 refine it (λhc=>?_) (λhc=>?_)<;>(try simp only[zB]at hc)
 ·refine zc (KM _) ?_;unfold Un
  (refine nn ?_;refine ldC h ?_)
  refine MpS.len vk h 1 rfl hm ⟨_,rfl,?_⟩;have hl:=hb.len;refine it (λhd=>?_) (λhd=>?_)<;>(try simp only[zB]at hd)
  ·have:reqs = []:=List.eq_nil_of_length_eq_zero (by omega);rw[if_pos ⟨hc,this⟩]at hk
   (refine nn ?_;refine stC h ?_;clear h;intro w h;dsimp only[zP,ze]at h)
   exact⟨(),rfl,hk w h⟩
  ·rw[if_neg (λhh=>hd (by rw[hl,hh.2];rfl))]at hk;exact⟨(),rfl,hk w h⟩
 ·rw[if_neg (λhh=>hc hh.1)]at hk;exact⟨(),rfl,hk w h⟩
def lH(h:St w0 E w)(i:Nat){b:Nat}{p:jf}{s:Seg}(hi:nth E i=some s)(hp:OZ b p s){k:Int→PT}(hk:∀s' w',OZ b (yo p).1 s'→St w0 (ze E i s') w'→k (yo p).2 w') :
  L.call Pr QH [pO b] (.one (.one (.int .i64))) k w:=by
 have hp':=hp;obtain⟨ok,r,m,sm,hm,hb,rfl⟩:=hp;refine zc (FC _) ?_;unfold VT;have h:=(h.front i hi).split;refine ZA (λz w=>¬(p.st≠1∧p.st≠2)∧St w0 ([Cl b vC [I p.st,.map (some r),I p.conc]]::sm::ZE E i) w) (λk1 hk1=>?_) (λz w ⟨hc,h⟩=>?_)
 ·(refine nn ?_;refine ldC h ?_)
  refine it (λhc=>?_) (λhc=>?_)<;>(try simp only[zB]at hc)
  ·(refine nn ?_;refine ldC h ?_)
   refine it (λhd=>?_) (λhd=>?_)<;>(try simp only[zB]at hd)
   ·have e:yo p=(p,9):=by simp only[yo];rw[if_pos ⟨hc,hd⟩]
    rw[e]at hk;exact⟨_,rfl,hk _ w hp' (St.back i hi h.glue)⟩
   ·exact hk1 _ w ⟨λhh=>hh.2 hd,h⟩
  ·exact hk1 _ w ⟨λhh=>hh.1 hc,h⟩
 ·have e:yo p=({ p with st:=if p.reqs = []then 4 else 3 },0):=by simp only[yo];rw[if_neg hc]
  rw[e]at hk
  (refine nn ?_;refine stC h ?_;clear h;intro w h;dsimp only[zP,ze]at h)
  refine bX hm hb h λw h=>⟨0,rfl,hk _ w ⟨⟨ok.pw,?_,?_,ok.few⟩,r,m,sm,hm,hb,rfl⟩ ?_⟩
  ·intro hh e;have e:p.reqs = []:=e;simp[e]at hh
  ·intro hh;apply Classical.byContradiction;intro hne;simp[hne]at hh
  ·have h:=St.back i hi h.glue;simp only[true_and]at h;exact h
def rG(h:St w0 E w)(i:Nat){b:Nat}{p:jf}{s:Seg}(hi:nth E i=some s)(hp:OZ b p s)(hfew:p.reqs.length<10000000){id:Int}{k:Int→PT}(hk:∀s' w',OZ b (ZY p id).1 s'→St w0 (ze E i s') w'→k (ZY p id).2 w') :
  L.call Pr qa [pO b,I id] (.one (.one (.int .i64))) k w:=by
 have hp':=hp;obtain⟨ok,r,m,sm,hm,hb,rfl⟩:=hp;refine zc (MQ _ _) ?_;unfold Kw;have h:=(h.front i hi).split
 (refine nn ?_;refine ldC h ?_)
 refine it (λhc=>?_) (λhc=>?_)<;>(try simp only[zB]at hc)
 ·have e:ZY p id=(p,9):=by simp only[ZY];rw[if_pos hc]
  rw[e]at hk;exact⟨_,rfl,hk _ w hp' (St.back i hi h.glue)⟩
 (refine nn ?_)
 refine zc (Gw _ _) ?_;unfold UR
 (refine nn ?_;refine ldC h ?_)
 refine MpS.get (kv:=KI) (e:=.one .bool) (z:=false) mkI vk zb (λx=>x) (λ_=>rfl) h 1 rfl hm ?_;rw[hb.get];have hl:=hb.len;refine it (λhd=>?_) (λhd=>?_)<;>(try simp only[zB]at hd)
 ·have e:ZY p id=(p,5):=by simp only[ZY];rw[if_neg (by simpa using hc),if_pos hd]
  rw[e]at hk;exact⟨5,rfl,5,rfl,hk _ w hp' (St.back i hi h.glue)⟩
 (refine dr h ?_;clear h;intro w h;refine nn ?_;refine ldC h ?_)
 refine MpS.len vk h 1 rfl hm ?_
 (refine nn ?_;rw[Xg];refine ldC h ?_)
 refine it (λhe=>?_) (λhe=>?_)<;>(try simp only[zB]at he)
 ·have e:ZY p id=(p,8):=by simp only[ZY];rw[if_neg (by simpa using hc),if_neg hd,if_pos (by omega)]
  rw[e]at hk;exact⟨8,rfl,8,rfl,hk _ w hp' (St.back i hi h.glue)⟩
 ·have e:ZY p id=({ p with reqs:=gV id p.reqs },0):=by simp only[ZY];rw[if_neg (by simpa using hc),if_neg hd,if_neg (by omega)]
  rw[e]at hk
  (refine nn ?_;refine ldC h ?_)
  refine MpS.set (kv:=KI) (vv:=Value.bool) mkI vk h 1 rfl hm true rfl λsm' w hm h=>?_;refine⟨0,rfl,0,rfl,hk _ w ⟨⟨DP ok.pw hd,?_,?_,?_⟩,r,_,sm',hm,hb.put hd,rfl⟩ (St.back i hi h.glue)⟩
  ·intro _ e2;have:=cL id p.reqs;have e2:gV id p.reqs = []:=e2;rw[e2]at this;simp at this
  ·intro hh;simp only at hh;have:=hc;omega
  ·simp only;rw[cL];omega
def Ks(h:St w0 E w){v:Sl}{l:List Int}(r:Rd w eI v l)(hn:l.length<1000000000000)(h64:v.a=none→l = []){k:Sl→PT}
  (hk:∀(v':Sl) s' w',Rw eI zm 1 v' l s'→(v'.a=none↔v.a=none)→St w0 (s'::E) w'→k v' w'):L.call Pr Zz [SlV v] (.one (.one .slice)) k w:=by
 refine zc (qn _) ?_;unfold Jw;exact xV (K:=λv w'=>∃x,v=RT.val (.one (.one .slice)) x∧k x w') xp elI h r (by omega) hn h64 λv' s' w' h1 h2 h3=>⟨v',rfl,hk v' s' w' h1 h2 h3⟩
def Rw.nil_of{α:Type}{enc:α→List Value}{e size:Nat}{v:Sl}{l:List α}{s:Seg}(hE:Enc enc size)(hr:Rw enc e size v l s)(h:v.a=none):l = []:=by
 have:=Rw.len hE hr;unfold Rw at hr;generalize fl enc l=cs at hr
 cases hr with
 | nil=>simpa using this.symm
 | mk=>cases h
structure Zn where
 id:Int
 rev:B0
 pod:jf
structure zl where
 room:Int
 last:Int
 l:List Zn
structure zl.Ok(f:zl):Prop where
 pw:f.l.Pairwise (λx y=>x.id<y.id)
 rng:∀x∈f.l,0<x.id∧x.id≤f.last
 live:∀x∈f.l,x.pod.st=1∨x.pod.st=2∨x.pod.st=3
 once:f.l.Pairwise (λx y=>∀q∈x.pod.reqs,q∉y.pod.reqs)
 few:f.l.length<100000000
 lo:0≤f.last
 hi:f.last<4611686018427387904
abbrev Tr:=Zn×Nat×Seg
abbrev trS(t:Tr):Seg:=t.2.2
def ent(t:Tr):Int×(B0×Option Addr):=(t.1.id,t.1.rev,some ⟨t.2.1,0,none⟩)
def qu(l:List Zn)(id:Int):Option Zn:=l.find? λx=>decide (x.id=id)
def yI(l:List Zn)(q:Int):Option Zn:=l.find? λx=>decide (q∈x.pod.reqs)
structure FlR(F:zl)(L:List Tr)(mA:List (Int×(B0×Option Addr)))(mW:List (Int×Int)):Prop where
 l:F.l=L.map (·.1)
 ps:∀t∈L,OZ t.2.1 t.1.pod t.2.2
 all:mA.Perm (L.map ent)
 wth:∀q,zD mW q=(yI F.l q).map (·.id)
abbrev flB(b:Nat)(rA rW:Nat)(F:zl):Seg:=[Cl b Oa [.map (some rA),.map (some rW),I F.room,I F.last]]
def FlS(b:Nat)(F:zl)(s:Seg):Prop:=F.Ok∧∃rA rW mA mW sA sW L,MpS KI Cw rA mA sA∧MpS KI KI rW mW sW∧FlR F L mA mW∧s=flB b rA rW F++(sA++(sW++(L.map trS).flatten))
def FlR.ids{F:zl}{L:List Tr}{mA mW}(hr:FlR F L mA mW)(ok:F.Ok):L.Pairwise (λx y=>x.1.id<y.1.id):=by
 have:=ok.pw;rw[hr.l,List.pairwise_map]at this;exact this
def FlR.keys{F:zl}{L:List Tr}{mA mW}(hr:FlR F L mA mW)(ok:F.Ok):vx (mA.map (·.1))=L.map (·.1.id):=by
 refine Ww ?_ ?_
 ·have:=hr.all.map (·.1);rw[List.map_map]at this;exact this
 ·rw[List.pairwise_map];exact(hr.ids ok).imp λh=>by omega
def FlR.len{F:zl}{L:List Tr}{mA mW}(hr:FlR F L mA mW):mA.length=F.l.length:=by rw[hr.all.length_eq,hr.l];simp
def FlR.nd{F:zl}{L:List Tr}{mA mW}(hr:FlR F L mA mW)(ok:F.Ok):(mA.map (·.1)).Nodup:=by
 have:=hr.all.map (·.1);rw[List.map_map]at this;rw[this.nodup_iff];have h:=(hr.ids ok).imp (S:=λx y=>x.1.id≠y.1.id) λh=>by omega
 exact List.pairwise_map.2 h
def FlR.get{F:zl}{L:List Tr}{mA mW}(hr:FlR F L mA mW)(ok:F.Ok){t:Tr}(ht:t∈L):zD mA t.1.id=some (t.1.rev,some ⟨t.2.1,0,none⟩):=
 kW (hr.nd ok) (hr.all.mem_iff.2 (List.mem_map_of_mem (f:=ent) ht))
def FlR.get0{F:zl}{L:List Tr}{mA mW}(hr:FlR F L mA mW){id:Int}(h:qu F.l id=none):zD mA id=none:=by
 refine yV.2 λhm=>?_;have:=(hr.all.map (·.1)).mem_iff.1 hm;rw[List.map_map]at this;obtain⟨t,ht,e⟩:=List.mem_map.1 this;have e:t.1.id=id:=e;have h2:=List.find?_eq_none.1 h t.1 (by rw[hr.l];exact List.mem_map_of_mem (f:=(·.1)) ht);simp[e]at h2
def FlR.at{F:zl}{L:List Tr}{mA mW}(hr:FlR F L mA mW){id:Int}{x:Zn}(h:qu F.l id=some x):∃A t B,L=A++t::B∧t.1=x∧x.id=id:=by
 have h1:=List.mem_of_find?_eq_some h;have h2:=List.find?_some h;rw[hr.l]at h1;obtain⟨t,ht,rfl⟩:=List.mem_map.1 h1;obtain⟨A,B,e⟩:=List.append_of_mem ht;exact⟨A,t,B,e,rfl,by simpa using h2⟩
def Be(h:St w0 E w){room:Int}{k:Option Addr→PT}(hk:∀b s w',FlS b ⟨room,0,[]⟩ s→St w0 (s::E) w'→k (some ⟨b,0,none⟩) w'):L.call Pr kU [I room] (.one (.one .ptr)) k w:=by
 refine zc (Cq _) ?_;unfold Fk;refine MpS.new h KI Cw λr1 s1 w hm1 h=>?_;refine MpS.new h KI KI λr2 s2 w hm2 h=>?_;refine nw h ?_;clear h;intro b w h;refine⟨_,rfl,hk b _ w ⟨⟨by simp,by simp,by simp,by simp,by simp,by simp,by simp⟩,r1,r2,[],[],s1,s2,[],hm1,hm2,⟨rfl,by simp,.refl _,λq=>rfl⟩,rfl⟩ ?_⟩;have h:=ZR (ZR (Yx h));exact h.eq (by simp)
def fOf(l:List Zn)(id:Int):B0:=((qu l id).map (·.rev)).getD s_
def rJ(h:St w0 E w){p:Option Addr}{rev:B0}{k:FV→PT}(hk:∀c0 c1 w',St w0 ([Cl c1 zd [.string rev]]::[Cl c0 Zd [.pointer p]]::E) w'→
  k ⟨.func YW,#[],#[.pointer (some ⟨c0,0,none⟩),.pointer (some ⟨c1,0,none⟩)]⟩ w'):L.call Pr YP [.pointer p,.string rev] (.one (.one .func)) k w:=by
 refine zc (fG _ _) ?_;unfold vO;refine nw h ?_;clear h;intro c0 w h;refine nw h ?_;clear h;intro c1 w h;exact⟨_,rfl,hk c0 c1 w h⟩
def li(l:List Tr)(m:Nat):TT [.one (.int .i64),.one .ptr]:=match l[m]? with
 | some t=>(t.1.id,some ⟨t.2.1,0,none⟩,())
 | none=>(0,none,())
abbrev JJ(rev:B0)(t:Tr):Bool:=decide (t.1.rev=rev)
def rl{c0 c1 b rA rW:Nat}{F:zl}{L:List Tr}{mA mW}{sA:Seg}{rev:B0}(ok:F.Ok)(hA:MpS KI Cw rA mA sA)(hr:FlR F L mA mW) :
  NB Pr w0 [[Cl c1 zd [.string rev]],[Cl c0 Zd [.pointer (some ⟨b,0,none⟩)]],flB b rA rW F,sA]
   (.func (.func YW) #[] #[.pointer (some ⟨c0,0,none⟩),.pointer (some ⟨c1,0,none⟩)]) (L.filter (JJ rev)).length λm=>TV _ (li (L.filter (JJ rev)) m):=by
 intro yv R J Jd G w h hJ step fin fin2;have hll:L.length=F.l.length:=by rw[hr.l];simp
 have hfew:=ok.few;refine⟨gb,gp yv ⟨c0,0,none⟩ ⟨c1,0,none⟩ ?_⟩;unfold Us;have h:St w0 ([Cl c1 zd [.string rev]]::[Cl c0 Zd [.pointer (some ⟨b,0,none⟩)]]::flB b rA rW F::sA::G) w:=h
 (refine ldC h ?_;refine nn ?_;refine ldC h ?_)
 refine Ay h 3 rfl hA (by rw[hr.len];omega) λv s w hrow h=>?_;rw[hr.keys ok]at hrow;have hlen:=Rw.len xp hrow;rw[List.length_map]at hlen
 refine Zh (λq y w=>∃(j:Nat)(G:List Seg),@Eq Int y.1 j∧q+j=L.length∧J ((L.take j).filter (JJ rev)).length G∧
  St w0 (s::[Cl c1 zd [.string rev]]::[Cl c0 Zd [.pointer (some ⟨b,0,none⟩)]]::flB b rA rW F::sA::G) w) L.length ⟨0,G,rfl,rfl,hJ,h⟩ ?_
 clear hJ;clear h;rintro q ⟨y,⟨⟩⟩ w ⟨j,G,hy,hq,hJ,h⟩ again hag;simp only at hy;subst hy;refine it (λhb=>?_) (λhb=>?_)<;>(try simp only[zB]at hb)
 ·have hj:j<L.length:=by omega
  have hx:L[j]? = some L[j]:=List.getElem?_eq_getElem hj;have hft:=PC (p:=JJ rev) hx;refine ZA (λz w=>∃G,J ((L.take (j+1)).filter (JJ rev)).length G∧St w0 (s::[Cl c1 zd [.string rev]]::[Cl c0 Zd [.pointer (some ⟨b,0,none⟩)]]::flB b rA rW F::sA::G) w) (λk8 hk8=>?_) (λz w ⟨G,hJ,h⟩=>?_)
  ·refine Rw.ix xp hrow (by omega) (by simpa using hj) λa ha=>?_;refine Rw.ld0 xp h 0 rfl hrow ha (x:=L[j].1.id) (by simp[hj]) rfl rfl ?_
   (refine ldC h ?_;refine nn ?_;refine ldC h ?_)
   refine MpS.get mkI Xy zo (λx:B0×Option Addr=>(x.1,x.2,())) (λ_=>rfl) h 4 rfl hA ?_;rw[hr.get ok (List.getElem_mem hj)];simp only[Option.map_some,Option.getD_some];refine nw h ?_;clear h;intro b16 w h
   (refine stC h ?_;clear h;intro w h;dsimp only[zP,ze]at h;refine ldC h ?_;refine ldC h ?_)
   rw[JI];refine it (λhc=>?_) (λhc=>?_)<;>(try simp only[zB]at hc)
   ·(refine ldC h ?_)
    have h:=zy h;have hp:JJ rev L[j]=true:=decide_eq_true hc;rw[if_pos hp]at hft;rw[hft]at hk8;have hat:=DS (p:=JJ rev) hx hp;have ea:TV _ (li (L.filter (JJ rev)) ((L.take j).filter (JJ rev)).length) = [I L[j].1.id,.pointer (some ⟨L[j].2.1,0,none⟩)]:=by simp only[li,hat];rfl
    have hlt:((L.take j).filter (JJ rev)).length<(L.filter (JJ rev)).length:=by
     rcases Nat.lt_or_ge ((L.take j).filter (JJ rev)).length (L.filter (JJ rev)).length with h | h
     ·exact h
     ·rw[List.getElem?_eq_none h]at hat;cases hat
    have step:=step _ G [s] w hlt hJ (St.toEnd (X:=[s]) (A:=[_,_,_,_]) h);simp only[ea]at step;refine cv (Jg.mono step λu w' hu=>?_);rcases hu with ⟨rfl,G',h,hJ⟩ | ⟨rfl,hd⟩
    ·exact⟨true,rfl,itF rfl (hk8 () w' ⟨G',hJ,St.ofEnd (X:=[s]) (A:=[_,_,_,_]) h⟩)⟩
    ·exact⟨false,rfl,itT rfl (fin2 w' hd)⟩
   ·have h:=zy h;have hp:¬JJ rev L[j]=true:=λe=>hc (of_decide_eq_true e);rw[if_neg hp]at hft;rw[Nat.add_zero]at hft;rw[hft]at hk8;exact hk8 () w ⟨G,hJ,h⟩
  ·refine hag (q-1) _ w (by omega) ⟨j+1,G,?_,by omega,hJ,h⟩;show Wi _=_;rw[wr (by omega) (by omega)];omega
 ·have e:j=L.length:=by omega
  subst e;rw[List.take_length]at hJ;exact fin G w hJ (zy h)
def Qu(h:St w0 E w)(i:Nat){Q:List Tr}(hi:nth E i=some (Q.map trS).flatten){t:Tr}(ht:t∈Q)(hp:OZ t.2.1 t.1.pod t.2.2){k:Int→PT}(hk:k t.1.pod.st w) :
  L.call Pr ZT [.pointer (some ⟨t.2.1,0,none⟩)] (.one (.one (.int .i64))) k w:=by
 obtain⟨A,B,rfl⟩:=List.append_of_mem ht;exact lG (h.front i hi).pick 0 rfl hp hk
def Gj(h:St w0 E w)(i:Nat){Q:List Tr}(hi:nth E i=some (Q.map trS).flatten){t:Tr}(ht:t∈Q)(hp:OZ t.2.1 t.1.pod t.2.2){k:Int→PT}(hk:k t.1.pod.reqs.length w) :
  L.call Pr yQ [.pointer (some ⟨t.2.1,0,none⟩)] (.one (.one (.int .i64))) k w:=by
 obtain⟨A,B,rfl⟩:=List.append_of_mem ht;exact rH (h.front i hi).pick 0 rfl hp hk
def revs(l:List Zn)(rev:B0):List Zn:=l.filter λx=>decide (x.rev=rev)
def FlR.revs{F:zl}{L:List Tr}{mA mW}(hr:FlR F L mA mW)(rev:B0):revs F.l rev=(L.filter (JJ rev)).map (·.1):=by
 unfold YtimahgbgejngiaaGreatDoor.revs;rw[hr.l,List.filter_map];rfl
def FW{l:List Tr}{m:Nat}(hm:m<l.length):li l m=(l[m].1.id,some ⟨l[m].2.1,0,none⟩,()):=by
 simp[li,List.getElem?_eq_getElem hm]
def mX{L:List Tr}{rev:B0}{m:Nat}(hm:m<(L.filter (JJ rev)).length):(L.filter (JJ rev))[m]∈L:=(List.mem_filter.1 (List.getElem_mem hm)).1
def kY(x:Zn):Bool:=decide (x.pod.st≠3)
def ZW(l:List Zn)(rev:B0):Nat:=((revs l rev).filter kY).length
def As(h:St w0 E w)(i:Nat){b:Nat}{F:zl}{s:Seg}(hi:nth E i=some s)(hf:FlS b F s){rev:B0}{k:Int→PT}(hk:∀w',St w0 E w'→k (ZW F.l rev) w') :
  L.call Pr qP [pO b,.string rev] (.one (.one (.int .i64))) k w:=by
 obtain⟨ok,rA,rW,mA,mW,sA,sW,L,hA,hW,hr,rfl⟩:=hf;refine zc (fF _ _) ?_;unfold vN;have hll:L.length=F.l.length:=by rw[hr.l];simp
 have hfew:=ok.few;have h:St w0 (flB b rA rW F::sA::sW::(L.map trS).flatten::ZE E i) w:=(h.front i hi).eq (by simp);refine nw h ?_;clear h;intro b1 w h
 (refine stC h ?_;clear h;intro w h;dsimp only[zP,ze]at h)
 refine rJ h λc0 c1 w h=>?_;have h:=xc (xc (YY (YY h)));refine qF (A:=[_,_,_,_]) (rl ok hA hr) h (λm G=>G = [Cl b1 zm [I ((((L.filter (JJ rev)).take m).filter λt=>kY t.1).length:Nat)]]::sW::(L.map trS).flatten::ZE E i) (λj G=>False) rfl ?_ ?_ ?_
 ·rintro m G X w lv lp d R hm rfl h hN hE;have hx:=List.getElem?_eq_getElem hm;have hft:=PC (p:=λt:Tr=>kY t.1) hx;have hlt:=List.length_filter_le (JJ rev) L;have hl2:=List.length_filter_le (λt:Tr=>kY t.1) ((L.filter (JJ rev)).take m);rw[List.length_take]at hl2;have h:St w0 ([Rec lv lp .busy none]::[DfM d]::[Cl c1 zd [.string rev]]::[Cl c0 Zd [.pointer (some ⟨b,0,none⟩)]]::flB b rA rW F::sA::[Cl b1 zm [I ((((L.filter (JJ rev)).take m).filter λt=>kY t.1).length:Nat)]]::sW::(L.map trS).flatten::(ZE E i++X)) w:=h;rw[FW hm]
  (try dsimp only)
  refine Qu h 8 rfl (mX hm) (hr.ps _ (mX hm)) ?_;refine it (λhc=>?_) (λhc=>?_)<;>(try simp only[zB]at hc)
  ·have hp:kY (L.filter (JJ rev))[m].1=true:=decide_eq_true hc;rw[if_pos hp]at hft
   (refine ldC h ?_;refine stC h ?_;clear h;intro w h;dsimp only[zP,ze]at h)
   rw[wr (by omega) (by omega)]at h;refine hN _ w rfl ?_;rw[hft];exact h
  ·have hp:¬kY (L.filter (JJ rev))[m].1=true:=λe=>(of_decide_eq_true e) hc;rw[if_neg hp]at hft;refine hN _ w rfl ?_;rw[hft];exact h
 ·rintro d G w rfl h;have h:St w0 ([DfM d]::[Cl c1 zd [.string rev]]::[Cl c0 Zd [.pointer (some ⟨b,0,none⟩)]]::flB b rA rW F::sA::[Cl b1 zm [I ((((L.filter (JJ rev)).take (L.filter (JJ rev)).length).filter λt=>kY t.1).length:Nat)]]::sW::(L.map trS).flatten::ZE E i) w:=h;refine vw ?_
  (refine ldC h ?_)
  (first | refine OE h ?_ | refine OD h ?_ | refine OC h ?_ | refine OB h ?_ | refine OA h ?_ | refine Oz h ?_ | refine Oy h ?_ | refine Ox h ?_ | refine Ow h ?_ | refine Ov h ?_ | refine uH h ?_ | refine uG h ?_);clear h;intro w h
  rw[List.take_length];have e:ZW F.l rev=((L.filter (JJ rev)).filter λt=>kY t.1).length:=by
   unfold ZW;rw[hr.revs,List.filter_map,List.length_map];rfl
  refine⟨_,rfl,?_⟩;rw[←e];refine hk w (St.setN_same' i hi (St.back i hi (s':=flB b rA rW F++(sA++(sW++(L.map trS).flatten))) ?_));have h:=zy (jE (Kh h));exact h.eq (by simp)
 ·rintro d j G w hf;exact hf.elim
def Vf(a:Int×Int×Int)(x:Zn):Int×Int×Int:=
 if x.pod.st=3 then a else if x.pod.st<a.2.1∨(x.pod.st=a.2.1∧(x.pod.reqs.length:Int)≤a.2.2)then(x.id,x.pod.st,x.pod.reqs.length)else a
def Kd(l:List Zn)(rev:B0):Int:=((revs l rev).foldl Vf (0,3,0)).1
def lK(h:St w0 E w)(i:Nat){b:Nat}{F:zl}{s:Seg}(hi:nth E i=some s)(hf:FlS b F s){rev:B0}{k:Int→PT}(hk:∀w',St w0 E w'→k (Kd F.l rev) w') :
  L.call Pr xO [pO b,.string rev] (.one (.one (.int .i64))) k w:=by
 obtain⟨ok,rA,rW,mA,mW,sA,sW,L,hA,hW,hr,rfl⟩:=hf;refine zc (oG _ _) ?_;unfold QY;have hll:L.length=F.l.length:=by rw[hr.l];simp
 have hfew:=ok.few;have h:St w0 (flB b rA rW F::sA::sW::(L.map trS).flatten::ZE E i) w:=(h.front i hi).eq (by simp);refine nw h ?_;clear h;intro b1 w h;refine nw h ?_;clear h;intro b2 w h;refine nw h ?_;clear h;intro b3 w h
 (refine stC h ?_;clear h;intro w h;dsimp only[zP,ze]at h;refine stC h ?_;clear h;intro w h;dsimp only[zP,ze]at h;refine stC h ?_;clear h;intro w h;dsimp only[zP,ze]at h)
 refine rJ h λc0 c1 w h=>?_;have h:=xc (xc (jC (jC h)));refine qF (A:=[_,_,_,_]) (rl ok hA hr) h (λm G=>∃a:Int×Int×Int,a=(((L.filter (JJ rev)).take m).map (·.1)).foldl Vf (0,3,0)∧G = [Cl b3 zm [I a.2.2]]::[Cl b2 zm [I a.2.1]]::[Cl b1 zm [I a.1]]::sW::(L.map trS).flatten::ZE E i) (λj G=>False) ⟨_,rfl,rfl⟩ ?_ ?_ ?_
 ·rintro m G X w lv lp d R hm ⟨⟨a1,a2,a3⟩,ha,rfl⟩ h hN hE;have hx:=List.getElem?_eq_getElem hm;have hft:Vf (a1,a2,a3) (L.filter (JJ rev))[m].1=(((L.filter (JJ rev)).take (m+1)).map (·.1)).foldl Vf (0,3,0):=by
   rw[List.take_add_one,hx,List.map_append,List.foldl_append,←ha];rfl
  have h:St w0 ([Rec lv lp .busy none]::[DfM d]::[Cl c1 zd [.string rev]]::[Cl c0 Zd [.pointer (some ⟨b,0,none⟩)]]::flB b rA rW F::sA::[Cl b3 zm [I a3]]::[Cl b2 zm [I a2]]::[Cl b1 zm [I a1]]::sW::(L.map trS).flatten::(ZE E i++X)) w:=h;rw[FW hm]
  (try dsimp only)
  have hmem:=mX hm;have hps:=hr.ps _ hmem;refine Qu h 10 rfl hmem hps ?_;refine it (λhc=>?_) (λhc=>?_)<;>(try simp only[zB]at hc)
  ·simp only[Vf]at hft;rw[if_pos hc]at hft;exact hN _ w ⟨_,hft,rfl⟩ h
  simp only[Vf]at hft;rw[if_neg hc]at hft
  (refine dr h ?_;clear h;intro w h;refine ldC h ?_)
  refine Qu h 10 rfl hmem hps ?_
  (refine ckC h ?_)
  refine it (λhd=>?_) (λhd=>?_)<;>(try simp only[zB]at hd)
  ·rw[if_pos (.inl hd)]at hft;refine Qu h 10 rfl hmem hps ?_;refine Gj h 10 rfl hmem hps ?_
   (refine stC h ?_;clear h;intro w h;dsimp only[zP,ze]at h;refine stC h ?_;clear h;intro w h;dsimp only[zP,ze]at h;refine stC h ?_;clear h;intro w h;dsimp only[zP,ze]at h)
   exact hN _ w ⟨_,hft,rfl⟩ h
  (refine ldC h ?_)
  refine Qu h 10 rfl hmem hps ?_
  (refine ckC h ?_)
  refine it (λhe=>?_) (λhe=>?_)<;>(try simp only[zB]at he)
  ·(refine ldC h ?_)
   refine Gj h 10 rfl hmem hps ?_
   (refine ckC h ?_)
   refine it (λhg=>?_) (λhg=>?_)<;>(try simp only[zB]at hg)
   ·rw[if_pos (.inr ⟨he,hg⟩)]at hft;refine Qu h 10 rfl hmem hps ?_;refine Gj h 10 rfl hmem hps ?_
    (refine stC h ?_;clear h;intro w h;dsimp only[zP,ze]at h;refine stC h ?_;clear h;intro w h;dsimp only[zP,ze]at h;refine stC h ?_;clear h;intro w h;dsimp only[zP,ze]at h)
    exact hN _ w ⟨_,hft,rfl⟩ h
   ·rw[if_neg (λhh=>hh.elim hd λhh=>hg hh.2)]at hft;exact hN _ w ⟨_,hft,rfl⟩ h
  ·rw[if_neg (λhh=>hh.elim hd λhh=>he hh.1)]at hft;exact hN _ w ⟨_,hft,rfl⟩ h
 ·rintro d G w ⟨a,ha,rfl⟩ h;have h:St w0 ([DfM d]::[Cl c1 zd [.string rev]]::[Cl c0 Zd [.pointer (some ⟨b,0,none⟩)]]::flB b rA rW F::sA::[Cl b3 zm [I a.2.2]]::[Cl b2 zm [I a.2.1]]::[Cl b1 zm [I a.1]]::sW::(L.map trS).flatten::ZE E i) w:=h;refine vw ?_
  (refine ldC h ?_)
  (first | refine OE h ?_ | refine OD h ?_ | refine OC h ?_ | refine OB h ?_ | refine OA h ?_ | refine Oz h ?_ | refine Oy h ?_ | refine Ox h ?_ | refine Ow h ?_ | refine Ov h ?_ | refine uH h ?_ | refine uG h ?_);clear h;intro w h
  rw[List.take_length]at ha;have e:Kd F.l rev=a.1:=by unfold Kd;rw[hr.revs,ha]
  refine⟨_,rfl,?_⟩;rw[←e];refine hk w (St.setN_same' i hi (St.back i hi (s':=flB b rA rW F++(sA++(sW++(L.map trS).flatten))) ?_));have h:=zy (jE (Kh (du (pc h))));exact h.eq (by simp)
 ·rintro d j G w hf;exact hf.elim
def eK(x:Int×Int×Int):List Value:=[I x.1,I x.2.1,I x.2.2]
def dq:Enc eK 3:=⟨λ_=>rfl,λ_=>rfl,by decide⟩
def elK:El Pr ZX Js 3 24 (.agg #[I 0,I 0,I 0]):=Kf (by kernel_rfl) (by kernel_rfl) rfl (by decide)
def lR(h:St w0 E w){v:Sl}{l:List (Int×Int×Int)}(r:Rd w eK v l)(hn:l.length<1000000000)(h64:v.a=none→l = []){k:Sl→PT}
  (hk:∀(v':Sl) s' w',Rw eK Js 3 v' l s'→St w0 (s'::E) w'→k v' w'):L.call Pr yl [SlV v] (.one (.one .slice)) k w:=by
 refine zc (xR _) ?_;unfold YA;exact xV (K:=λv w'=>∃x,v=RT.val (.one (.one .slice)) x∧k x w') dq elK h r (by omega) (by omega) h64 λv' s' w' h1 h2 h3=>⟨v',rfl,hk v' s' w' h1 h3⟩
def tN(x:Zn):Int×Int×Int:=(x.id,x.pod.st,x.pod.reqs.length)
def JV(l:List Zn)(rev:B0):List (Int×Int×Int):=(revs l rev).map tN
def Ra(h:St w0 E w)(i:Nat){b:Nat}{F:zl}{s:Seg}(hi:nth E i=some s)(hf:FlS b F s){rev:B0}{k:Sl→PT}(hk:∀v s' w',Rw eK Js 3 v (JV F.l rev) s'→St w0 (s'::E) w'→k v w') :
  L.call Pr Xr [pO b,.string rev] (.one (.one .slice)) k w:=by
 obtain⟨ok,rA,rW,mA,mW,sA,sW,L,hA,hW,hr,rfl⟩:=hf;refine zc (gu _ _) ?_;unfold Uu;have hll:L.length=F.l.length:=by rw[hr.l];simp
 have hfew:=ok.few;have hlt:=List.length_filter_le (JJ rev) L;have h:St w0 (flB b rA rW F::sA::sW::(L.map trS).flatten::ZE E i) w:=(h.front i hi).eq (by simp);refine nw h ?_;clear h;intro b1 w h;refine rJ h λc0 c1 w h=>?_;have h:=xc (xc (YY (YY h)));have h:St w0 ([[Cl c1 zd [.string rev]],[Cl c0 Zd [.pointer (some ⟨b,0,none⟩)]],flB b rA rW F,sA]++[Cl b1 ZX [SlV ⟨none,0,0⟩]]::[]::sW::(L.map trS).flatten::ZE E i) w:=h.eq (by simp);refine qF (A:=[_,_,_,_]) (rl ok hA hr) h (λm G=>∃v sv,Rw eK Js 3 v (((L.filter (JJ rev)).take m).map λt=>tN t.1) sv∧G = [Cl b1 ZX [SlV v]]::sv::sW::(L.map trS).flatten::ZE E i) (λj G=>False) ⟨_,_,Rw.nil,rfl⟩ ?_ ?_ ?_
 ·rintro m G X w lv lp d R hm ⟨v,sv,hv,rfl⟩ h hN hE;have hx:=List.getElem?_eq_getElem hm;have h:St w0 ([Rec lv lp .busy none]::[DfM d]::[Cl c1 zd [.string rev]]::[Cl c0 Zd [.pointer (some ⟨b,0,none⟩)]]::flB b rA rW F::sA::[Cl b1 ZX [SlV v]]::sv::sW::(L.map trS).flatten::(ZE E i++X)) w:=h;rw[FW hm]
  (try dsimp only)
  have hmem:=mX hm;have hps:=hr.ps _ hmem
  (refine dr h ?_;clear h;intro w h;refine ldC h ?_)
  refine Qu h 9 rfl hmem hps ?_
  (refine ckC h ?_)
  refine Gj h 9 rfl hmem hps ?_
  (refine ckC h ?_)
  refine nw h ?_;clear h;intro b11 w h
  (refine ckC h ?_)
  refine Rw.app dq elK h 7 rfl hv (tN (L.filter (JJ rev))[m].1) rfl (by simp;omega) (by simp;omega) λv' s' w hv h=>?_
  (dsimp only[ze,List.cons_append,List.nil_append]at h;refine stC h ?_;clear h;intro w h;dsimp only[zP,ze]at h)
  refine hN _ w ⟨v',s',?_,rfl⟩ h;rw[List.take_add_one,hx,List.map_append];exact hv
 ·rintro d G w ⟨v,sv,hv,rfl⟩ h;have h:St w0 ([DfM d]::[Cl c1 zd [.string rev]]::[Cl c0 Zd [.pointer (some ⟨b,0,none⟩)]]::flB b rA rW F::sA::[Cl b1 ZX [SlV v]]::sv::sW::(L.map trS).flatten::ZE E i) w:=h;rw[List.take_length]at hv;have e:JV F.l rev=(L.filter (JJ rev)).map λt=>tN t.1:=by unfold JV;rw[hr.revs,List.map_map];rfl
  rw[←e]at hv;have hle:(JV F.l rev).length≤L.length:=by rw[e,List.length_map];exact hlt
  refine vw ?_
  (refine ldC h ?_)
  refine lR h (hv.rd dq h 6 rfl) (by omega) (Rw.nil_of dq hv) λv' s' w hv' h=>?_
  (first | refine OE h ?_ | refine OD h ?_ | refine OC h ?_ | refine OB h ?_ | refine OA h ?_ | refine Oz h ?_ | refine Oy h ?_ | refine Ox h ?_ | refine Ow h ?_ | refine Ov h ?_ | refine uH h ?_ | refine uG h ?_);clear h;intro w h
  refine⟨_,rfl,hk v' s' w hv' ?_⟩;have h:=jE (vB (du (pc h)));have h:=YY (YY (YY (YY h)));have h:=St.back (i+1) (E:=s'::E) hi (s':=flB b rA rW F++(sA++(sW++(L.map trS).flatten))) (h.eq (by simp[ZE]));exact St.setN_same' (i+1) (E:=s'::E) hi h
 ·rintro d j G w hf;exact hf.elim
def xd(l:List Zn)(id:Int)(g:jf→jf):List Zn:=l.filterMap λx=>if x.id=id then(if(g x.pod).st=4 then none else some { x with pod:=g x.pod })else some x
def Mn{l:List Zn}{id:Int}{g:jf→jf}(h:∀y∈l,y.id≠id):xd l id g=l:=by
 unfold xd
 induction l with
 | nil=>rfl
 | cons y l ih=>
  rw[List.filterMap_cons,if_neg (h y (by simp))];simp only;rw[ih λz hz=>h z (by simp[hz])]
def ol{A B:List Zn}{x:Zn}{g:jf→jf}(h:(A++x::B).Pairwise (λx y=>x.id<y.id)):xd (A++x::B) x.id g=A++((if(g x.pod).st=4 then []else [{ x with pod:=g x.pod }])++B):=by
 rw[List.pairwise_append,List.pairwise_cons]at h;have hA:xd A x.id g=A:=Mn λy hy=>by have:=h.2.2 y hy x (by simp);omega
 have hB:xd B x.id g=B:=Mn λy hy=>by have:=h.2.1.1 y hy;omega
 unfold xd at *
 rw[List.filterMap_append,hA,List.filterMap_cons,if_pos rfl]
 congr 1
 split<;>rename_i hc
 ·split at hc
  ·rename_i h4;rw[if_pos h4,hB];rfl
  ·cases hc
 ·split at hc
  ·cases hc
  ·rename_i h4;cases hc;rw[if_neg h4,hB];rfl
def qT{l:List Zn}{id:Int}{x:Zn}(h:qu l id=some x):x∈l∧x.id=id:=⟨List.mem_of_find?_eq_some h,by simpa using List.find?_some h⟩
def Ke{l:List Zn}(pw:l.Pairwise (λx y=>x.id<y.id)){x:Zn}(hx:x∈l):qu l x.id=some x:=by
 unfold qu
 induction l with
 | nil=>simp at hx
 | cons y l ih=>
  rw[List.pairwise_cons]at pw;rcases List.mem_cons.1 hx with rfl | hx
  ·simp
  ·have:=pw.1 x hx;rw[List.find?_cons_of_neg (by simp;omega)];exact ih pw.2 hx
def UK{l:List Zn}{q:Int}(h:yI l q=none):∀x∈l,q∉x.pod.reqs:=λx hx=>by simpa using List.find?_eq_none.1 h x hx
def zl.Ok.upd{F:zl}(ok:F.Ok){id:Int}{x:Zn}(hx:qu F.l id=some x)(g:jf→jf)(hst:(g x.pod).st=1∨(g x.pod).st=2∨(g x.pod).st=3∨(g x.pod).st=4)
  (hq:∀q∈(g x.pod).reqs,q∈x.pod.reqs∨yI F.l q=none):({ F with l:=xd F.l id g }:zl).Ok:=by
 obtain⟨hm,rfl⟩:=qT hx;obtain⟨A,B,hl⟩:=List.append_of_mem hm;have pw:=ok.pw;have rng:=ok.rng;have live:=ok.live;have once:=ok.once;have few:=ok.few;have hno:∀q,yI F.l q=none→∀y∈A++x::B,q∉y.pod.reqs:=λq h=>by rw[hl]at h;exact UK h
 rw[hl]at pw rng live once few;have e:xd F.l x.id g=A++((if(g x.pod).st=4 then []else [{ x with pod:=g x.pod }])++B):=by rw[hl];exact ol pw
 by_cases h4:(g x.pod).st=4
 ·rw[if_pos h4,List.nil_append]at e;have hs:(A++B).Sublist (A++x::B):=List.Sublist.append (List.Sublist.refl _) (List.sublist_cons_self ..);refine⟨?_,?_,?_,?_,?_,ok.lo,ok.hi⟩
  ·rw[show({ F with l:=xd F.l x.id g }:zl).l=A++B from e];exact pw.sublist hs
  ·rw[show({ F with l:=xd F.l x.id g }:zl).l=A++B from e];exact λy hy=>rng y (hs.subset hy)
  ·rw[show({ F with l:=xd F.l x.id g }:zl).l=A++B from e];exact λy hy=>live y (hs.subset hy)
  ·rw[show({ F with l:=xd F.l x.id g }:zl).l=A++B from e];exact once.sublist hs
  ·rw[show({ F with l:=xd F.l x.id g }:zl).l=A++B from e];exact Nat.lt_of_le_of_lt hs.length_le few
 ·rw[if_neg h4,List.singleton_append]at e;have e:({ F with l:=xd F.l x.id g }:zl).l=A++ { x with pod:=g x.pod } :: B:=e;refine⟨?_,?_,?_,?_,?_,ok.lo,ok.hi⟩
  ·rw[e];rw[List.pairwise_append,List.pairwise_cons]at pw ⊢;exact⟨pw.1,pw.2.1,λa ha b hb=>by
    rcases List.mem_cons.1 hb with rfl | hb
    ·exact pw.2.2 a ha x (by simp)
    ·exact pw.2.2 a ha b (by simp[hb])⟩
  ·rw[e];intro y hy;rcases List.mem_append.1 hy with hy | hy
   ·exact rng y (by simp[hy])
   ·rcases List.mem_cons.1 hy with rfl | hy
    ·exact rng x (by simp)
    ·exact rng y (by simp[hy])
  ·rw[e];intro y hy;rcases List.mem_append.1 hy with hy | hy
   ·exact live y (by simp[hy])
   ·rcases List.mem_cons.1 hy with rfl | hy
    ·simp only;omega
    ·exact live y (by simp[hy])
  ·rw[e];rw[List.pairwise_append,List.pairwise_cons]at once ⊢;refine⟨once.1,⟨λb hb q hq1 hq2=>?_,once.2.1.2⟩,λa ha b hb q hq1 hq2=>?_⟩
   ·rcases hq q hq1 with h | h
    ·exact once.2.1.1 b hb q h hq2
    ·exact hno q h b (by simp[hb]) hq2
   ·rcases List.mem_cons.1 hb with rfl | hb
    ·rcases hq q hq2 with h | h
     ·exact once.2.2 a ha x (by simp) q hq1 h
     ·exact hno q h a (by simp[ha]) hq1
    ·exact once.2.2 a ha b (by simp[hb]) q hq1 hq2
  ·rw[e];simp only[List.length_append,List.length_cons]at few ⊢;exact few
def cy:∀{m:List (Int×(B0×Option Addr))}{k:Int},(m.map (·.1)).Nodup→uU m k=m.filter λp=>decide (p.1≠k)
 | [],k,_=>rfl
 | p::m,k,h=>by
  rw[List.map_cons,List.nodup_cons]at h;simp only[uU];by_cases e:p.1=k
  ·rw[if_pos e,List.filter_cons_of_neg (by simp[e])]
   symm
   rw[List.filter_eq_self];intro y hy;have:y.1≠k:=λe2=>h.1 (by rw[e,←e2];exact List.mem_map_of_mem (f:=(·.1)) hy);simpa using this
  ·rw[if_neg e,List.filter_cons_of_pos (by simpa using e),cy h.2]
def FlR.upd{F:zl}{A B:List Tr}{t:Tr}{mA mW mW'}(hr:FlR F (A++t::B) mA mW)(ok:F.Ok)(g:jf→jf){s':Seg}(hp:OZ t.2.1 (g t.1.pod) s')(h4:(g t.1.pod).st≠4)
  (hW:∀q,zD mW' q=(yI (xd F.l t.1.id g) q).map (·.id)):FlR { F with l:=xd F.l t.1.id g } (A++({ t.1 with pod:=g t.1.pod },t.2.1,s')::B) mA mW':=by
 have pw:=ok.pw;rw[hr.l,List.map_append,List.map_cons]at pw;refine⟨?_,?_,?_,hW⟩
 ·show xd F.l t.1.id g=_;rw[hr.l,List.map_append,List.map_cons,ol pw,if_neg h4];simp
 ·intro y hy;rcases List.mem_append.1 hy with hy | hy
  ·exact hr.ps y (by simp[hy])
  ·rcases List.mem_cons.1 hy with rfl | hy
   ·exact hp
   ·exact hr.ps y (by simp[hy])
 ·have:=hr.all;simp only[List.map_append,List.map_cons]at this ⊢;exact this
def FlR.del{F:zl}{A B:List Tr}{t:Tr}{mA mW mW'}(hr:FlR F (A++t::B) mA mW)(ok:F.Ok)(g:jf→jf)(h4:(g t.1.pod).st=4)
  (hW:∀q,zD mW' q=(yI (xd F.l t.1.id g) q).map (·.id)):FlR { F with l:=xd F.l t.1.id g } (A++B) (uU mA t.1.id) mW':=by
 have pw:=ok.pw;have ids:=hr.ids ok;rw[hr.l,List.map_append,List.map_cons]at pw;refine⟨?_,?_,?_,hW⟩
 ·show xd F.l t.1.id g=_;rw[hr.l,List.map_append,List.map_cons,ol pw,if_pos h4];simp
 ·intro y hy;rcases List.mem_append.1 hy with hy | hy
  ·exact hr.ps y (by simp[hy])
  ·exact hr.ps y (by simp[hy])
 ·rw[cy (hr.nd ok)];refine(hr.all.filter _).trans ?_;rw[List.pairwise_append,List.pairwise_cons]at ids;rw[List.map_append,List.map_cons,List.filter_append,List.filter_cons_of_neg (by simp[ent]),List.map_append];have fa:∀{l:List Tr},(∀y∈l,y.1.id≠t.1.id)→(l.map ent).filter (λp=>decide (p.1≠t.1.id))=l.map ent:=λ{l} h=>by
   rw[List.filter_eq_self];intro p hp;obtain⟨y,hy,rfl⟩:=List.mem_map.1 hp;exact decide_eq_true (h y hy)
  rw[fa (λy hy=>by have:=ids.2.2 y hy t (by simp);omega),fa (λy hy=>by have:=ids.2.1.1 y hy;omega)]
def dj{l:List Zn}(pw:l.Pairwise (λx y=>x.id<y.id)){x:Zn}(hx:x∈l){g:jf→jf}(hrq:(g x.pod).reqs=x.pod.reqs)(h4:(g x.pod).st=4→x.pod.reqs = [])(q:Int) :
  (yI (xd l x.id g) q).map (·.id)=(yI l q).map (·.id):=by
 obtain⟨A,B,rfl⟩:=List.append_of_mem hx;rw[ol pw];unfold yI;simp only[List.find?_append]
 cases List.find? (λx=>decide (q∈x.pod.reqs)) A with
 | some y=>rfl
 | none=>
  simp only[Option.none_or];by_cases h:(g x.pod).st=4
  ·rw[if_pos h,List.find?_nil,Option.none_or,List.find?_cons_of_neg (by simp[h4 h])]
  ·rw[if_neg h];by_cases hq:q∈x.pod.reqs
   ·rw[List.find?_cons_of_pos (by simp[hrq,hq]),List.find?_cons_of_pos (by simp[hq])];rfl
   ·rw[List.find?_cons_of_neg (by simp[hrq,hq]),List.find?_cons_of_neg (by simp[hq]),List.find?_nil,Option.none_or]
def Bc{b rA rW:Nat}{F:zl}{A B:List Tr}{t:Tr}{mA:List (Int×(B0×Option Addr))}{sA sW:Seg}{D:List Seg}{rev:B0}(h:St w0 (flB b rA rW F::sA::sW::((A++t::B).map trS).flatten::D) w)
  (hA:MpS KI Cw rA mA sA) (hg:zD mA t.1.id=some (rev,some ⟨t.2.1,0,none⟩)) (hp:OZ t.2.1 t.1.pod t.2.2) {k:Unit→PT} (hk1:t.1.pod.st≠4→k () w)
  (hk2:t.1.pod.st=4→∀sA' w',MpS KI Cw rA (uU mA t.1.id) sA'→St w0 (flB b rA rW F::sA'::sW::((A++B).map trS).flatten::D) w'→k () w') :
  L.call Pr qe [pO b,I t.1.id] (.tup []) k w:=by
 refine zc (Gy _ _) ?_;unfold UT
 (refine nn ?_;refine ldC h ?_)
 refine MpS.get mkI Xy zo (λx:B0×Option Addr=>(x.1,x.2,())) (λ_=>rfl) h 1 rfl hA ?_;rw[hg];simp only[Option.map_some,Option.getD_some];refine Qu h 3 rfl (t:=t) (by simp) hp ?_;refine it (λhc=>?_) (λhc=>?_)<;>(try simp only[zB]at hc)
 ·(refine nn ?_;refine ldC h ?_)
  refine MpS.del mkI Xy h 1 rfl hA λsA' w hA' h=>⟨(),rfl,hk2 hc sA' w hA' ?_⟩;have h:St w0 (flB b rA rW F::sA'::sW::((A++t::B).map trS).flatten::D) w:=h;have h:=xc h;have h:=h.pick;have h:=zy h;have h:=xc (xc (xc h));exact h
 ·exact⟨(),rfl,hk1 hc⟩
def grow1(rev:B0)(conc:Int)(F:zl):zl:={ F with l:=F.l++[⟨F.last+1,rev,⟨1,conc,[]⟩⟩],last:=F.last+1 }
def grow(rev:B0)(conc:Int):Nat→zl→zl
 | 0,F=>F
 | n+1,F=>grow1 rev conc (grow rev conc n F)
def Ue(rev:B0)(F:zl):zl:={ F with l:=xd F.l (Kd F.l rev) λp=>(yo p).1 }
def shrink(rev:B0):Nat→zl→zl×List Int
 | 0,F=>(F,[])
 | n+1,F=>((shrink rev n (Ue rev F)).1,Kd F.l rev::(shrink rev n (Ue rev F)).2)
def XG(F:zl)(rev:B0)(want:Int):Nat:=(min (want-ZW F.l rev) (F.room-F.l.length)).toNat
def XV(F:zl)(rev:B0)(want:Int):Nat:=((ZW F.l rev:Int)-max want 0).toNat
def Jo(F:zl)(rev:B0)(conc want:Int):zl:=grow rev conc (XG F rev want) F
def UL(F:zl)(rev:B0)(want:Int):List Int:=(List.range (XG F rev want)).map λj:Nat=>F.last+1+(j:Int)
def jD(F:zl)(rev:B0)(conc want:Int):zl×List Int:=shrink rev (XV (Jo F rev conc want) rev want) (Jo F rev conc want)
section
variable {F:zl}{rev:B0}{conc:Int}
def og(n:Nat):(grow rev conc n F).last=F.last+n:=by
 induction n with
 | zero=>simp[grow]
 | succ n ih=>simp only[grow,grow1,ih];omega
def oe(n:Nat):(grow rev conc n F).room=F.room:=by
 induction n with
 | zero=>rfl
 | succ n ih=>simp only[grow,grow1,ih]
def Ka(n:Nat):(grow rev conc n F).l.length=F.l.length+n:=by
 induction n with
 | zero=>rfl
 | succ n ih=>simp only[grow,grow1,List.length_append,ih,List.length_singleton];omega
def wK(a b:List Zn):revs (a++b) rev=revs a rev++revs b rev:=List.filter_append ..
def Ud(a b:List Zn):ZW (a++b) rev=ZW a rev+ZW b rev:=by
 unfold ZW;rw[wK,List.filter_append,List.length_append]
def om(l:List Zn):ZW l rev≤l.length:=Nat.le_trans (List.length_filter_le ..) (List.length_filter_le ..)
def di(n:Nat):ZW (grow rev conc n F).l rev=ZW F.l rev+n:=by
 induction n with
 | zero=>rfl
 | succ n ih=>
  simp only[grow,grow1];rw[Ud,ih];have:ZW [(⟨(grow rev conc n F).last+1,rev,⟨1,conc,[]⟩⟩:Zn)] rev=1:=by simp[ZW,revs,kY]
  rw[this];rfl
def cN(ok:F.Ok)(h1:F.l.length+1<100000000)(h2:F.last+1<4611686018427387904):(grow1 rev conc F).Ok:=by
 have lo:=ok.lo;refine⟨?_,?_,?_,?_,?_,?_,h2⟩
 ·simp only[grow1,List.pairwise_append,List.pairwise_singleton,List.mem_singleton];exact⟨ok.pw,trivial,λa ha b hb=>by subst hb;have:=(ok.rng a ha).2;simp only;omega⟩
 ·intro x hx;simp only[grow1,List.mem_append,List.mem_singleton]at hx ⊢;rcases hx with hx | rfl
  ·have:=ok.rng x hx;omega
  ·simp only;omega
 ·intro x hx;simp only[grow1,List.mem_append,List.mem_singleton]at hx;rcases hx with hx | rfl
  ·exact ok.live x hx
  ·simp
 ·simp only[grow1,List.pairwise_append,List.pairwise_singleton,List.mem_singleton];exact⟨ok.once,trivial,λa ha b hb q hq1 hq2=>by subst hb;simp at hq2⟩
 ·simp only[grow1,List.length_append,List.length_singleton];exact h1
 ·simp only[grow1];omega
def dk(l:List Zn)(x:Zn)(hx:x.pod.reqs = [])(q:Int):yI (l++[x]) q=yI l q:=by
 unfold yI;rw[List.find?_append,List.find?_cons_of_neg (by simp[hx])];simp
def Cd(l:List Zn)(a:Int×Int×Int):Prop:=(a=(0,3,0)∧∀y∈l,kY y=false)∨∃x∈l,a=(x.id,x.pod.st,(x.pod.reqs.length:Int))∧kY x=true
def Cd.step{l:List Zn}{a:Int×Int×Int}{x:Zn}(h:Cd l a)(hx:x.pod.st=1∨x.pod.st=2∨x.pod.st=3):Cd (l++[x]) (Vf a x):=by
 unfold Vf;by_cases h3:x.pod.st=3
 ·rw[if_pos h3];rcases h with ⟨rfl,h⟩ | ⟨y,hy,h⟩
  ·refine .inl ⟨rfl,λy hy=>?_⟩;rcases List.mem_append.1 hy with hy | hy
   ·exact h y hy
   ·simp at hy;subst hy;simp[kY,h3]
  ·exact .inr ⟨y,by simp[hy],h⟩
 ·rw[if_neg h3];have hup:kY x=true:=by simp[kY,h3]
  by_cases hc:x.pod.st<a.2.1∨(x.pod.st=a.2.1∧(x.pod.reqs.length:Int)≤a.2.2)
  ·rw[if_pos hc];exact .inr ⟨x,by simp,rfl,hup⟩
  ·rw[if_neg hc];rcases h with ⟨rfl,h⟩ | ⟨y,hy,h⟩
   ·exact absurd (.inl (by simp only;omega)) hc
   ·exact .inr ⟨y,by simp[hy],h⟩
def Cd.all:∀{l2 l1:List Zn}{a:Int×Int×Int},Cd l1 a→(∀x∈l2,x.pod.st=1∨x.pod.st=2∨x.pod.st=3)→Cd (l1++l2) (l2.foldl Vf a)
 | [],l1,a,h,_=>by simpa using h
 | x::l2,l1,a,h,hx=>by
  have:=Cd.all (l2:=l2) (h.step (hx x (by simp))) (λy hy=>hx y (by simp[hy]));simpa using this
def oa(ok:F.Ok)(hc:0<ZW F.l rev):∃x,qu F.l (Kd F.l rev)=some x∧x.rev=rev∧(x.pod.st=1∨x.pod.st=2):=by
 have hr:∀x∈revs F.l rev,x∈F.l∧x.rev=rev:=λx hx=>⟨(List.mem_filter.1 hx).1,of_decide_eq_true (List.mem_filter.1 hx).2⟩;have h:=Cd.all (l1:=[]) (a:=(0,3,0)) (l2:=revs F.l rev) (.inl ⟨rfl,by simp⟩) λx hx=>ok.live x (hr x hx).1;rw[List.nil_append]at h;rcases h with ⟨-,h⟩ | ⟨x,hx,ha,hup⟩
 ·exfalso;unfold ZW at hc;rw[List.filter_eq_nil_iff.2 (λy hy=>by simp[h y hy])]at hc;simp at hc
 ·refine⟨x,?_,(hr x hx).2,?_⟩
  ·unfold Kd;rw[ha];exact Ke ok.pw (hr x hx).1
  ·have:=ok.live x (hr x hx).1;have:x.pod.st≠3:=of_decide_eq_true hup;omega
def Gc{p:jf}(h:p.st=1∨p.st=2):(yo p).1 = { p with st:=if p.reqs = []then 4 else 3 }:=by
 unfold yo;rw[if_neg (by omega)]
def PE(ok:F.Ok)(hc:0<ZW F.l rev):(Ue rev F).Ok:=by
 obtain⟨x,hx,-,hst⟩:=oa ok hc;refine ok.upd hx _ ?_ ?_
 ·rw[Gc hst];simp only;split<;>simp
 ·rw[Gc hst];exact λq hq=>.inl hq
def Gd(ok:F.Ok)(hc:0<ZW F.l rev):ZW (Ue rev F).l rev+1=ZW F.l rev:=by
 obtain⟨x,hx,hrev,hst⟩:=oa ok hc;obtain⟨hm,hid⟩:=qT hx;obtain⟨A,B,hl⟩:=List.append_of_mem hm;have pw:=ok.pw;show ZW (xd F.l (Kd F.l rev) λp=>(yo p).1) rev+1=_;rw[←hid];rw[hl]at pw ⊢;rw[ol pw,Ud,Ud,Ud,show x::B = [x]++B from rfl,Ud,Gc hst];have h1:ZW [x] rev=1:=by
  have:x.pod.st≠3:=by omega
  simp[ZW,revs,kY,hrev,this]
 have h2:ZW (if(if x.pod.reqs = []then(4:Int)else 3)=4 then []else [({ x with pod:={ x.pod with st:=if x.pod.reqs = []then 4 else 3 } }:Zn)]) rev=0:=by
  by_cases hq:x.pod.reqs = []
  ·simp[hq,ZW,revs]
  ·simp[hq,ZW,revs,hrev,kY]
 simp only at h2 ⊢;rw[h1,h2];omega
end
def lL(h:St w0 E w)(i:Nat){b:Nat}{F:zl}{s:Seg}(hi:nth E i=some s)(hf:FlS b F s){rev:B0}{conc want:Int}(hroom:F.room<100000000)(hlast:F.last+F.room<4611686018427387904){k:Sl×Sl×Unit→PT}
  (hk:∀v1 v2 s' s1 s2 w',FlS b (jD F rev conc want).1 s'→Rw eI zm 1 v1 (UL F rev want) s1→Rw eI zm 1 v2 (jD F rev conc want).2 s2→St w0 (s2::s1::ze E i s') w'→k (v1,v2,()) w') :
  L.call Pr xP [pO b,.string rev,I conc,I want] (.tup [.one .slice,.one .slice]) k w:=by
 have hfew:=hf.1.few;have hcl:=om F.l (rev:=rev);refine zc (oH _ _ _ _) ?_;unfold QZ;refine As h i hi hf λw h=>?_;have h:=h.front i hi;have hg:(XG F rev want:Int)=max 0 (min (want-ZW F.l rev) (F.room-F.l.length)):=by unfold XG;omega
 refine ZA (λz w=>∃v sv s,z=(v,((ZW F.l rev+XG F rev want:Nat):Int),())∧FlS b (Jo F rev conc want) s∧Rw eI zm 1 v (UL F rev want) sv∧St w0 (s::sv::ZE E i) w) (λk2 hk2=>?_) ?_
 ·refine Zh (λq y w=>∃(j:Nat)(v:Sl)(sv s:Seg),y=(v,((ZW F.l rev+j:Nat):Int),())∧q+j=XG F rev want∧FlS b (grow rev conc j F) s∧Rw eI zm 1 v ((List.range j).map λj:Nat=>F.last+1+(j:Int)) sv∧St w0 (s::sv::ZE E i) w)
   (XG F rev want) ⟨0,⟨none,0,0⟩,[],s,rfl,rfl,hf,Rw.nil,h.eq (by simp)⟩ ?_
  clear hf;clear h;rintro q y w ⟨j,v,sv,s,rfl,hq,hf,hv,h⟩ again hag
  (try dsimp only)
  have hf':=hf;obtain⟨ok,rA,rW,mA,mW,sA,sW,L,hA,hW,hr,rfl⟩:=hf;have hlj:=Ka (F:=F) (rev:=rev) (conc:=conc) j;have hla:=og (F:=F) (rev:=rev) (conc:=conc) j;have hro:=oe (F:=F) (rev:=rev) (conc:=conc) j;have lo:=ok.lo;have h:St w0 (flB b rA rW (grow rev conc j F)::sA::sW::(L.map trS).flatten::sv::ZE E i) w:=h.eq (by simp);have stop:∀{w},j=XG F rev want→St w0 (flB b rA rW (grow rev conc j F)::sA::sW::(L.map trS).flatten::sv::ZE E i) w→k2 (v,((ZW F.l rev+j:Nat):Int),()) w:=by
   rintro w rfl h;exact hk2 _ w ⟨v,sv,_,rfl,hf',hv,h.eq (by simp)⟩
  (refine dr h ?_;clear h;intro w h)
  refine it (λhc=>?_) (λhc=>?_)<;>(try simp only[zB]at hc)
  ·(refine nn ?_;refine ldC h ?_)
   refine MpS.len Xy h 1 rfl hA ?_;rw[hr.len,hlj]
   (refine nn ?_;refine ldC h ?_)
   refine it (λhd=>?_) (λhd=>?_)<;>(try simp only[zB]at hd)
   ·(refine nn ?_;refine ldC h ?_;refine nn ?_;refine stC h ?_;clear h;intro w h;dsimp only[zP,ze]at h;refine dr h ?_;clear h;intro w h;refine nn ?_;refine ldC h ?_;refine nn ?_;refine ldC h ?_)
    refine bW h λb' s' w hp h=>?_;rw[wr (by omega) (by omega)]at h;rw[wr (by omega) (by omega)]
    (refine ckC h ?_;refine ckC h ?_)
    refine MpS.set mkI Xy h 2 rfl hA (rev,some ⟨b',0,none⟩) rfl λsA' w hA' h=>?_
    (dsimp only[ze,List.cons_append,List.nil_append]at h;refine nn ?_;refine ldC h ?_)
    refine nw h ?_;clear h;intro b21 w h;refine Rw.app xp elI h 5 rfl hv (F.last+1+(j:Int)) (by rw[hla,eI];congr 2;omega) (by simp;omega) (by simp;omega) λv' sv' w hv' h=>?_;have hg0:zD mA ((grow rev conc j F).last+1)=none:=hr.get0 (by
     unfold qu;rw[List.find?_eq_none];intro x hx;have:=(ok.rng x hx).2;simp;omega)
    refine hag (q-1) _ w (by omega) ⟨j+1,v',sv',flB b rA rW (grow rev conc (j+1) F)++(sA'++(sW++((L++[((⟨(grow rev conc j F).last+1,rev,⟨1,conc,[]⟩⟩:Zn),b',s')]).map trS).flatten)),?_,by omega,⟨?_,rA,rW,_,mW,sA',sW,L++[((⟨(grow rev conc j F).last+1,rev,⟨1,conc,[]⟩⟩:Zn),b',s')],hA',hW,⟨?_,?_,?_,?_⟩,rfl⟩,?_,?_⟩
    ·rw[wr (by omega) (by omega)];congr 2
    ·exact cN ok (by omega) (by omega)
    ·simp only[grow,grow1,List.map_append,hr.l];rfl
    ·intro t ht;rcases List.mem_append.1 ht with ht | ht
     ·exact hr.ps t ht
     ·simp only[List.mem_singleton]at ht;subst ht;exact hp
    ·rw[jW hg0,List.map_append];exact hr.all.append_right _
    ·intro q;rw[hr.wth];simp only[grow,grow1];rw[dk _ _ rfl]
    ·rw[List.range_succ,List.map_append];exact hv'
    ·have h:=Yx (YY h);have h:=St.addEnd (g:=trS) (t:=((⟨(grow rev conc j F).last+1,rev,⟨1,conc,[]⟩⟩:Zn),b',s')) h;have h:=YY (YY (YY (Yx (YY h))));exact h.eq (by simp[grow,grow1])
   ·exact stop (by omega) h
  ·exact stop (by omega) h
 ·rintro z w ⟨v,sv,s,rfl,hf,hv,h⟩
  (try dsimp only)
  have hlg:=Ka (F:=F) (rev:=rev) (conc:=conc) (XG F rev want);have hmade:(UL F rev want).length=XG F rev want:=by simp[UL]
  have hcg:=di (F:=F) (rev:=rev) (conc:=conc) (XG F rev want);rw[←hcg];have hcle:=om (grow rev conc (XG F rev want) F).l (rev:=rev)
  refine Zh (λq y w=>∃(F2:zl)(gone:List Int)(v2:Sl)(s2 s:Seg),y=(v2,((ZW F2.l rev:Nat):Int),())∧q=XV F2 rev want∧gone.length+q=XV (Jo F rev conc want) rev want∧FlS b F2 s∧Rw eI zm 1 v2 gone s2∧
   (shrink rev q F2).1=(jD F rev conc want).1∧gone++(shrink rev q F2).2=(jD F rev conc want).2∧St w0 (s::s2::sv::ZE E i) w)
   (XV (Jo F rev conc want) rev want) ⟨Jo F rev conc want,[],⟨none,0,0⟩,[],s,rfl,rfl,by simp,hf,Rw.nil,rfl,rfl,h.eq (by simp)⟩ ?_
  clear hf;clear h;rintro q y w ⟨F2,gone,v2,s2,s,rfl,hq,hgl,hf,hv2,hF,hG,h⟩ again hag
  (try dsimp only)
  have hcl2:=om F2.l (rev:=rev);have hq':(q:Int)=max 0 ((ZW F2.l rev:Int)-max want 0):=by rw[hq];unfold XV;omega
  have hgn:(XV (Jo F rev conc want) rev want:Int)≤F.l.length+XG F rev want:=by unfold XV Jo;omega
  have hfew2:=hf.1.few;refine it (λhc=>?_) (λhc=>?_)<;>(try simp only[zB]at hc)
  ·have hc0:max want 0<(ZW F2.l rev:Int):=by split at hc<;>omega
   obtain⟨q',rfl⟩:∃q',q=q'+1:=⟨q-1,by omega⟩;refine lK h 0 rfl hf λw h=>?_;obtain⟨x,hx,hrev,hst⟩:=oa hf.1 (rev:=rev) (by omega);have okd:=PE hf.1 (rev:=rev) (by omega);have hcd:=Gd hf.1 (rev:=rev) (by omega);obtain⟨ok,rA,rW,mA,mW,sA,sW,L,hA,hW,hr,rfl⟩:=hf;obtain⟨A,t,B,rfl,rfl,hid⟩:=hr.at hx;have h:St w0 (flB b rA rW F2::sA::sW::((A++t::B).map trS).flatten::s2::sv::ZE E i) w:=h.eq (by simp)
   (refine nn ?_;refine ldC h ?_)
   refine MpS.get mkI Xy zo (λx:B0×Option Addr=>(x.1,x.2,())) (λ_=>rfl) h 1 rfl hA ?_;have hg:=hr.get ok (t:=t) (by simp);have hp:=hr.ps t (by simp);rw[←hid,hg];simp only[Option.map_some,Option.getD_some];have h:=xc h;have h:=h.pick;refine lH h 0 rfl hp λs' w hp' h=>?_;have h:St w0 (trS ({ t.1 with pod:=(yo t.1.pod).1 },t.2.1,s')::((A++B).map trS).flatten::flB b rA rW F2::sA::sW::s2::sv::ZE E i) w:=h;have h:=h.place;have h:=xc (xc (xc h));have hdp:=Gc hst;have hrq:(yo t.1.pod).1.reqs=t.1.pod.reqs:=by rw[hdp]
   have h4:(yo t.1.pod).1.st=4→t.1.pod.reqs = []:=by
    rw[hdp];simp only;intro h;apply Classical.byContradiction;intro hne;simp[hne]at h
   have hwth:∀q,zD mW q=(yI (xd F2.l t.1.id λp=>(yo p).1) q).map (·.id):=λq=>by
    rw[hr.wth,dj ok.pw (qT hx).1 hrq h4]
   have fin:∀{s w},FlS b (Ue rev F2) s→St w0 (s::s2::sv::ZE E i) w→L.new [I t.1.id] zm (λb31=>
     L.sem Pr (.one (.one .slice)) (Builtin.append_ #[Zv,Zv] Zv #[.slice v2.a v2.len v2.cap,.slice (some ⟨b31,0,none⟩) 1 1]) λ(s32:Sl)=>
     again (⟨s32.a,s32.len,s32.cap⟩,Wi ((ZW F2.l rev:Nat)-1),())) w:=by
    intro s w hf h;refine nw h ?_;clear h;intro b31 w h;refine Rw.app xp elI h 1 rfl hv2 t.1.id rfl (by omega) (by omega) λv' s' w hv' h=>?_;refine hag q' _ w (by omega) ⟨Ue rev F2,gone++[t.1.id],v',s',s,?_,?_,?_,hf,hv',?_,?_,h⟩
    ·rw[wr (by omega) (by omega)];congr 2;omega
    ·unfold XV;omega
    ·simp only[List.length_append,List.length_singleton];omega
    ·exact hF
    ·rw[List.append_assoc,hid];exact hG
   refine Bc (t:=({ t.1 with pod:=(yo t.1.pod).1 },t.2.1,s')) h hA hg hp' (λh4'=>?_) λh4' sA' w hA' h=>?_
   ·refine fin (s:=flB b rA rW F2++(sA++(sW++((A++({ t.1 with pod:=(yo t.1.pod).1 },t.2.1,s')::B).map trS).flatten))) ⟨okd,rA,rW,mA,mW,sA,sW,_,hA,hW,?_,rfl⟩ (h.eq (by simp));have:=hr.upd ok (λp=>(yo p).1) hp' h4' hwth;unfold Ue;rw[←hid];exact this
   ·refine fin (s:=flB b rA rW F2++(sA'++(sW++((A++B).map trS).flatten))) ⟨okd,rA,rW,_,mW,sA',sW,_,hA',hW,?_,rfl⟩ (h.eq (by simp));have:=hr.del ok (λp=>(yo p).1) h4' hwth;unfold Ue;rw[←hid];exact this
  ·have e0:q=0:=by split at hc<;>omega
   subst e0;have e1:F2=(jD F rev conc want).1:=hF;have e2:gone=(jD F rev conc want).2:=by rw[←hG];simp[shrink]
   refine Ks h (hv.rd xp h 2 rfl) (by omega) (Rw.nil_of xp hv) λv1 s1 w hr1 _ h=>?_;refine Ks h (hv2.rd xp h 2 rfl) (by omega) (Rw.nil_of xp hv2) λv3 s3 w hr3 _ h=>?_;refine⟨_,rfl,hk v1 v3 s s1 s3 w (by rw[←e1];exact hf) hr1 (by rw[←e2];exact hr3) ?_⟩;have h:=QJ (Kh h);have h:=ZR (Yx (Yx h));exact St.back (i+2) (E:=s3::s1::E) hi h
end Go.Proofs.YtimahgbgejngiaaGreatDoor
namespace Go.Proofs.YtimahgbgejngiaaGreatDoor
open Go.Dm
attribute [local irreducible] L.load L.store L.chk L.new L.nonnil L.guard L.ite L.draw L.idx L.sem L.semR L.semU L.chkSem L.next L.call L.callV L.join L.alts L.loop L.begin L.endRound L.range
variable {w0 w:World}{E:List Seg}
def eC(p:Int×Int):List Value:=[I p.1,I p.2]
def XS:Enc eC 2:=⟨λ_=>rfl,λ_=>rfl,by decide⟩
def elC:El Pr Zy zk 2 16 (.agg #[I 0,I 0]):=Kf (by kernel_rfl) (by kernel_rfl) rfl (by decide)
def Rw.stC{v:Sl}{l:List (Int×Int)}{s:Seg}{e:Nat}(h:St w0 E w)(k:Nat)(hi:nth E k=some s)(hr:Rw eC e 2 v l s){i:Nat}{a:Addr}(ha:ElA v 2 i a)(hx:i<l.length)(y:Int×Int){kk:PT}
  (hk:∀s' w',Rw eC e 2 v (l.set i y) s'→St w0 (ze E k s') w'→kk w'):L.store a [I y.1,I y.2] kk w:=by
 obtain⟨a0,hv,rfl⟩:=ha;have hx0:l[i]? = some l[i]:=List.getElem?_eq_getElem hx;generalize l[i]=x at hx0;have e1:ze (fl eC l) (i*2+0) (I y.1)=fl eC (l.set i (y.1,x.2)):=tR XS hx0 (by decide) rfl;have e2:ze (fl eC (l.set i (y.1,x.2))) (i*2+1) (I y.2)=fl eC ((l.set i (y.1,x.2)).set i y):=tR XS (x:=(y.1,x.2)) (by simp[hx]) (by decide) rfl;rw[List.set_set]at e2;have hset:ze (ze (fl eC l) (i*2+0) (I y.1)) (i*2+1) (I y.2)=fl eC (l.set i y):=by rw[e1,e2]
 have hlt:i*2+1<(fl eC l).length:=by rw[qS XS];omega
 unfold Rw at hr hk;rw[←hset]at hk;have hlen2:(ze (ze (fl eC l) (i*2+0) (I y.1)) (i*2+1) (I y.2)).length=(fl eC l).length:=by rw[yL,yL];simp
 have hlen1:(ze (fl eC l) (i*2+0) (I y.1)).length=(fl eC l).length:=by rw[yL];simp
 generalize fl eC l=xs at *
 cases hr with
 | nil=>cases hv
 | mk g n cap pre xs spare post h1 h2 h3 h4=>
  cases hv
  rw[ja];have hn:∀j,j≤1→∃c,nth (pre++(xs++(spare++post))) (pre.length+(i*2+j))=some c:=λj hj=>by
   rw[Je,Xh (by omega),zA];exact⟨_,List.getElem?_eq_getElem (by omega)⟩
  refine stx [I y.1,I y.2] h k hi ?_ rfl λw' h=>hk _ w' (Row.mk g n cap pre _ spare post (by rw[hlen2];exact h1) (by rw[hlen2];exact h2) h3 h4) ?_
  ·obtain⟨c0,hc0⟩:=hn 0 (by omega);obtain⟨c1,hc1⟩:=hn 1 (by omega);simp only[Nat.add_zero]at hc0;simp[Mf,hc0,hc1,Nat.add_assoc]
  ·simp only[zP]at h;have q1:ze (xs++(spare++post)) (i*2+0) (I y.1)=ze xs (i*2+0) (I y.1)++(spare++post):=UG (by omega);have q2:ze (ze xs (i*2+0) (I y.1)++(spare++post)) (i*2+1) (I y.2)=ze (ze xs (i*2+0) (I y.1)) (i*2+1) (I y.2)++(spare++post):=UG (by omega);rw[show pre.length+i*2=pre.length+(i*2+0)from rfl,ug,q1,show pre.length+(i*2+0)+1=pre.length+(i*2+1)by omega,ug,q2]at h;exact h
def Ua(x:Int×Int):List (Int×Int)→List (Int×Int)
 | []=>[x]
 | y::l=>if x.1<y.1 then x::y::l else y::Ua x l
def yx(l:List (Int×Int)):List (Int×Int):=l.foldl (λa x=>Ua x a) []
def uE(x:Int×Int)(l:List (Int×Int)):(Ua x l).Perm (x::l):=by
 induction l with
 | nil=>exact .refl _
 | cons y l ih=>
  simp only[Ua];split
  ·exact .refl _
  ·exact(ih.cons y).trans (.swap ..)
def DQ{x:Int×Int}:∀{l:List (Int×Int)},l.Pairwise (λa b=>a.1≤b.1)→(Ua x l).Pairwise (λa b=>a.1≤b.1)
 | [],_=>by simp[Ua]
 | y::l,h=>by
  rw[List.pairwise_cons]at h;simp only[Ua];split
  ·rename_i hy;rw[List.pairwise_cons];refine⟨λz hz=>?_,List.pairwise_cons.2 h⟩;rcases List.mem_cons.1 hz with rfl | hz
   ·omega
   ·have:=h.1 z hz;omega
  ·rename_i hy;rw[List.pairwise_cons];refine⟨λz hz=>?_,DQ h.2⟩;rcases List.mem_cons.1 ((uE x l).mem_iff.1 hz)with rfl | hz
   ·omega
   ·exact h.1 z hz
def dv{l:List (Int×Int)}{i:Nat}{x:Int×Int}(h:l[i]? = some x):yx (l.take (i+1))=Ua x (yx (l.take i)):=by
 unfold yx;rw[List.take_add_one,h,List.foldl_append];rfl
def yW(l:List (Int×Int)):(yx l).length=l.length:=by
 suffices ∀(l a:List (Int×Int)),(l.foldl (λa x=>Ua x a) a).length=a.length+l.length by
  have:=this l [];simpa [yx]using this
 intro l
 induction l with
 | nil=>simp
 | cons x l ih=>intro a;rw[List.foldl_cons,ih,(uE x a).length_eq];simp;omega
def cX(l:List (Int×Int)):(yx l).Pairwise (λa b=>a.1≤b.1):=by
 suffices ∀(l a:List (Int×Int)),a.Pairwise (λa b=>a.1≤b.1)→(l.foldl (λa x=>Ua x a) a).Pairwise (λa b=>a.1≤b.1)from this l [] .nil
 intro l
 induction l with
 | nil=>exact λa h=>h
 | cons x l ih=>exact λa h=>ih _ (DQ h)
def DR{x:Int×Int}:∀{A B:List (Int×Int)},(∀y∈A,¬x.1<y.1)→(∀y∈B,x.1<y.1)→Ua x (A++B)=A++x::B
 | [],[],_,_=>rfl
 | [],y::B,_,h=>by simp only[List.nil_append,Ua];rw[if_pos (h y (by simp))]
 | y::A,B,h1,h2=>by
  simp only[List.cons_append,Ua];rw[if_neg (h1 y (by simp)),DR (λz hz=>h1 z (by simp[hz])) h2]
def Xe{E:List Seg}{i:Nat}{s s':Seg}(hi:nth E i=some s):nth (ze E i s') i=some s':=by
 rw[zA]at *
 rw[yL,List.getElem?_set_self];exact(List.getElem?_eq_some_iff.1 hi).1
def JT{E:List Seg}{i:Nat}{s s':Seg}:ze (ze E i s) i s'=ze E i s':=by
 rw[yL,yL,yL,List.set_set]
abbrev Fx:Value:=.func (.func zN) #[] #[]
def lO(h:St w0 E w){a b c d:Int}(h1: -4611686018427387904<a∧a<4611686018427387904)(h2: -4611686018427387904<c∧c<4611686018427387904){k:Int→PT}(hk:∀w',St w0 E w'→k (a-c) w') :
  L.callV Pr Fx [.agg #[I a,I b],.agg #[I c,I d]] (.one (.one (.int .i64))) k w:=by
 refine Qr (fs:=#[]) (cs:=#[]) KE (KO (a,b,()) (c,d,())) ?_;unfold QB;refine nw h ?_;clear h;intro b1 w h;refine nw h ?_;clear h;intro b2 w h
 (dsimp only[ze,List.cons_append,List.nil_append]at h;refine ldC h ?_;refine ldC h ?_)
 refine⟨_,rfl,?_⟩
 (try dsimp only)
 rw[wr (by omega) (by omega)];exact hk w (zy (zy h))
def bN{α:Type}{Q T:List α}{z x:α}:(Q++z::x::T)[Q.length]? = some z∧(Q++z::x::T)[Q.length+1]? = some x∧((Q++z::x::T).set (Q.length+1) z).set Q.length x=Q++x::z::T:=by
 refine⟨by simp,by simp,by simp[List.set_append]⟩
def Mz(h:St w0 E w)(i:Nat){s:Seg}(hi:nth E i=some s){v:Sl}{P M R:List (Int×Int)}(hr:Rw eC zk 2 v (P++(M++R)) s)(hn:(P++(M++R)).length<1000000000)
  (hb:∀x∈M,-4611686018427387904<x.1∧x.1<4611686018427387904) {a b:Int} (ha:a=P.length) (hbb:b=P.length+M.length) {k:Unit→PT} (hk:∀s' w',Rw eC zk 2 v (P++(yx M++R)) s'→St w0 (ze E i s') w'→k () w') :
  L.call Pr Zo [.slice v.a v.len v.cap,I a,I b,Fx] (.tup []) k w:=by
 subst ha hbb;refine zc (Jx _ _ _ ⟨.func zN,#[],#[]⟩) ?_;unfold yU;have hlen:=Rw.len XS hr;simp only[List.length_append]at hn hlen;rw[wr (by omega) (by omega)];have hcb:∀m,∀x∈yx (M.take m),x∈M:=λm x hx=>by
  have:(yx (M.take m)).Perm (M.take m):=by
   suffices ∀(l a:List (Int×Int)),(l.foldl (λa x=>Ua x a) a).Perm (a++l)from by simpa [yx]using this (M.take m) []
   intro l
   induction l with
   | nil=>intro a;simp
   | cons y l ih=>
    intro a;refine(ih _).trans (((uE y a).append_right l).trans ?_);exact(List.perm_middle (a:=y) (l₁:=a) (l₂:=l)).symm
  exact List.mem_of_mem_take (this.mem_iff.1 hx)
 have h1:yx (M.take 1)=M.take 1:=by cases M<;>rfl
 refine Zh (λq y w=>∃(m:Nat)(s:Seg),y=(((P.length+m:Nat):Int),())∧1≤m∧q+m=max 1 M.length∧Rw eC zk 2 v (P++(yx (M.take m)++(M.drop m++R))) s∧St w0 (ze E i s) w) (max 1 M.length-1)
  ⟨1,s,rfl,by omega,by omega,by rw[h1,←List.append_assoc (M.take 1),List.take_append_drop];exact hr,by rwa [yD hi]⟩ ?_
 clear hr;clear h;rintro q y w ⟨m,s,rfl,hm,hq,hr,h⟩ again hag
 (try dsimp only)
 refine it (λhc=>?_) (λhc=>?_)<;>(try simp only[zB]at hc)
 ·have hm2:m<M.length:=by omega
  have hx:M[m]? = some M[m]:=List.getElem?_eq_getElem hm2;have hxm:M[m]∈M:=List.getElem_mem hm2;have hdrop:M.drop m=M[m]::M.drop (m+1):=List.drop_eq_getElem_cons hm2;have hct:=dv hx;have hcl:=yW (M.take m);rw[List.length_take,Nat.min_eq_left (by omega)]at hcl;have hpw:=cX (M.take m);generalize M[m]=x at *
  rw[hdrop]at hr;have hnT:(M.drop (m+1)).length=M.length-(m+1):=List.length_drop ..;refine ZA (λz w=>∃s,Rw eC zk 2 v (P++(yx (M.take (m+1))++(M.drop (m+1)++R))) s∧St w0 (ze E i s) w) (λk3 hk3=>?_) (λz w ⟨s,hr,h⟩=>?_)
  ·refine Zh (λq y w=>∃(A B:List (Int×Int))(s:Seg),y=(((P.length+A.length:Nat):Int),())∧q=A.length∧A++B=yx (M.take m)∧(∀y∈B,x.1<y.1)∧Rw eC zk 2 v ((P++A)++x::(B++(M.drop (m+1)++R))) s∧St w0 (ze E i s) w) m
    ⟨yx (M.take m),[],s,by rw[hcl],hcl.symm,by simp,by simp,by simpa [List.append_assoc]using hr,h⟩ ?_
   clear hr;clear h;rintro q2 y w ⟨A,B,s,rfl,hq2,hAB,hB,hr,h⟩ again2 hag2
   (try dsimp only)
   have stop:∀{w},(∀y∈A,¬x.1<y.1)→St w0 (ze E i s) w→k3 () w:=by
    intro w hA h;refine hk3 _ w ⟨s,?_,h⟩;rw[hct,←hAB,DR hA hB];simpa [List.append_assoc]using hr
   have hsi:nth (ze E i s) i=some s:=Xe hi;refine dr h λw h=>?_;refine it (λhd=>?_) (λhd=>?_)<;>(try simp only[zB]at hd)
   ·have hA0:A≠[]:=λe=>by subst e;simp at hd
    obtain⟨A',z,rfl⟩:∃A' z,A=A'++[z]:=⟨A.dropLast,A.getLast hA0,(List.dropLast_concat_getLast hA0).symm⟩;have eL:(P++(A'++[z]))++x::(B++(M.drop (m+1)++R))=(P++A')++z::x::(B++(M.drop (m+1)++R)):=by simp
    rw[eL]at hr;obtain⟨g1,g2,g3⟩:=bN (Q:=P++A') (z:=z) (x:=x) (T:=B++(M.drop (m+1)++R));have hlA:(P++A').length=P.length+A'.length:=List.length_append ..;have hl2:=congrArg List.length hAB;simp only[List.length_append,List.length_singleton,hcl]at hl2 hd hq2 ⊢;have hzM:z∈M:=hcb m z (by rw[←hAB];simp);have ix1:((P.length+(A'.length+1):Nat):Int).toNat=(P++A').length+1:=by rw[Int.toNat_natCast];omega
    have ix0:(((P.length+(A'.length+1):Nat):Int)-1).toNat=(P++A').length:=by omega
    have lt1:(P++A').length+1<((P++A')++z::x::(B++(M.drop (m+1)++R))).length:=by simp only[List.length_append,List.length_cons];omega
    rw[wr (n:=((P.length+(A'.length+1):Nat):Int)-1) (by omega) (by omega)];refine Rw.ix XS hr (by omega) (by rw[ix1];exact lt1) λa ha=>?_;rw[ix1]at ha;refine Rw.lda XS h i hsi hr ha g2 rfl ?_;refine Rw.ix XS hr (by omega) (by rw[ix0];omega) λa2 ha2=>?_;rw[ix0]at ha2;refine Rw.lda XS h i hsi hr ha2 g1 rfl ?_;refine lO h (hb x hxm) (hb z hzM) λw h=>?_;refine it (λhe=>?_) (λhe=>?_)<;>(try simp only[zB]at he)
    ·refine dr h λw h=>?_;refine Rw.ix XS hr (by omega) (by rw[ix0];omega) λa3 ha3=>?_;rw[ix0]at ha3;refine Rw.lda XS h i hsi hr ha3 g1 rfl ?_;refine Rw.ix XS hr (by omega) (by rw[ix1];exact lt1) λa4 ha4=>?_;rw[ix1]at ha4;refine Rw.lda XS h i hsi hr ha4 g2 rfl ?_;refine Rw.ix XS hr (by omega) (by rw[ix1];exact lt1) λa5 ha5=>?_;rw[ix1]at ha5;refine Rw.stC h i hsi hr ha5 lt1 z λs1 w hr1 h=>?_;have hs1:nth (ze (ze E i s) i s1) i=some s1:=Xe hsi;refine Rw.ix XS hr1 (by omega) (by rw[ix0,List.length_set];omega) λa6 ha6=>?_;rw[ix0]at ha6;refine Rw.stC h i hs1 hr1 ha6 (by rw[List.length_set];omega) x λs2 w hr2 h=>?_;rw[g3]at hr2;refine hag2 (q2-1) _ w (by omega) ⟨A',z::B,s2,?_,by omega,by simpa using hAB,?_,by simpa using hr2,?_⟩
     ·congr 1;omega
     ·intro y hy;rcases List.mem_cons.1 hy with rfl | hy
      ·omega
      ·exact hB y hy
     ·rwa [JT,JT]at h
    ·refine stop (λy hy=>?_) h;rw[←hAB,List.pairwise_append]at hpw;have hpw:=hpw.1;rw[List.pairwise_append]at hpw;rcases List.mem_append.1 hy with hy | hy
     ·have:=hpw.2.2 y hy z (by simp);omega
     ·simp at hy;subst hy;omega
   ·have:A = []:=List.eq_nil_of_length_eq_zero (by omega);subst this;exact stop (by simp) h
  ·refine hag (q-1) _ w (by omega) ⟨m+1,s,?_,by omega,by omega,hr,h⟩;rw[wr (by omega) (by omega)];congr 1
 ·have e:M.drop m = []:=List.drop_eq_nil_of_le (by omega);have e2:M.take m=M:=List.take_of_length_le (by omega);rw[e,e2,List.nil_append]at hr;exact⟨(),rfl,hk s w hr h⟩
def LP{a b:Int}(ha:0≤a)(hb:0≤b)(h:a+b<4611686018427387904):Wi (Int.fdiv (IntKind.wrap .u64 (Wi (a+b))) (2 ^ (min (Int.toNat 1) 64)))=(a+b)/2:=by
 rw[wr (n:=a+b) (by omega) (by omega)];have e:IntKind.wrap .u64 (a+b)=a+b:=by
  unfold IntKind.wrap;have h1:(IntKind.u64.signed)=false:=rfl;have h2:(2 ^ IntKind.u64.bits:Int)=18446744073709551616:=by decide
  rw[h1,h2];simp only[Bool.false_and,Bool.false_eq_true,if_false];omega
 rw[e];have e2:(2 ^ (min (Int.toNat 1) 64):Int)=2:=by decide
 rw[e2,Int.fdiv_eq_ediv_of_nonneg _ (by decide),wr (by omega) (by omega)]
def Cu{α:Type}{Q T U:List α}{x y:α}:(Q++x::(T++y::U))[Q.length]? = some x∧(Q++x::(T++y::U))[Q.length+(1+T.length)]? = some y∧
  ((Q++x::(T++y::U)).set Q.length y).set (Q.length+(1+T.length)) x=Q++y::(T++x::U)∧((Q++x::(T++y::U)).set (Q.length+(1+T.length)) x).set Q.length y=Q++y::(T++x::U):=by
 have e:(1+T.length)=T.length+1:=by omega
 rw[e];refine⟨by simp,?_,?_,?_⟩
 ·rw[List.getElem?_append_right (by omega)];simp
 ·simp[List.set_append]
 ·simp[List.set_append]
def lm{l:List (Int×Int)}(h:St w0 E w)(i:Nat){s:Seg}(hi:nth E i=some s){v:Sl}(hr:Rw eC zk 2 v l s){p q:Int}{x y:Int×Int}(p0:0≤p)(q0:0≤q)(hx:l[p.toNat]? = some x)(hy:l[q.toNat]? = some y){k:PT}
  (hk:∀s' w',Rw eC zk 2 v ((l.set p.toNat y).set q.toNat x) s'→St w0 (ze E i s') w'→k w') :
  (L.draw<| L.idx v.a q v.len 2 λa3=>L.load (.agg [.int .i64,.int .i64]) a3 λ(x4:Int×Int×Unit)=>L.idx v.a p v.len 2 λa5=>L.load (.agg [.int .i64,.int .i64]) a5 λ(x6:Int×Int×Unit)=>
   L.idx v.a p v.len 2 λa7=>L.store a7 [.int .i64 x4.1,.int .i64 x4.2.1]<| L.idx v.a q v.len 2 λa8=>L.store a8 [.int .i64 x6.1,.int .i64 x6.2.1] k) w:=by
 have hp:=(List.getElem?_eq_some_iff.1 hx).1;have hq:=(List.getElem?_eq_some_iff.1 hy).1;refine dr h λw h=>?_;refine Rw.ix XS hr q0 hq λa ha=>?_;refine Rw.lda XS h i hi hr ha hy (y:=(y.1,y.2,())) rfl ?_;refine Rw.ix XS hr p0 hp λa2 ha2=>?_;refine Rw.lda XS h i hi hr ha2 hx (y:=(x.1,x.2,())) rfl ?_;refine Rw.ix XS hr p0 hp λa3 ha3=>?_;refine Rw.stC h i hi hr ha3 hp y λs1 w hr1 h=>?_;refine Rw.ix XS hr1 q0 (by rw[List.length_set];exact hq) λa6 ha6=>?_;refine Rw.stC h i (Xe hi) hr1 ha6 (by rw[List.length_set];exact hq) x λs2 w hr2 h=>?_;rw[JT]at h;exact hk s2 w hr2 h
def Td(h:St w0 E w)(i:Nat){s:Seg}(hi:nth E i=some s){v:Sl}{P A M B R:List (Int×Int)}(hr:Rw eC zk 2 v (P++(A++(M++(B++R)))) s)(hn:(P++(A++(M++(B++R)))).length<1000000000)(hAB:A.length=B.length)
  {a b n:Int} (ha:a=P.length) (hb:b=P.length+(A.length+M.length)) (hnn:n=A.length) {k:Unit→PT} (hk:∀s' w',Rw eC zk 2 v (P++(B++(M++(A++R)))) s'→St w0 (ze E i s') w'→k () w') :
  L.call Pr Zf [.slice v.a v.len v.cap,I a,I b,I n,Fx] (.tup []) k w:=by
 subst ha hb hnn;refine zc (xy _ _ _ _ ⟨.func zN,#[],#[]⟩) ?_;unfold Yq;simp only[List.length_append]at hn
 refine Zh (λq y w=>∃(j:Nat)(s:Seg),y=((j:Int),())∧q+j=A.length∧Rw eC zk 2 v (P++((B.take j++A.drop j)++(M++((A.take j++B.drop j)++R)))) s∧St w0 (ze E i s) w) A.length
  ⟨0,s,rfl,rfl,by simpa using hr,by rwa [yD hi]⟩ ?_
 clear hr;clear h;rintro q y w ⟨j,s,rfl,hq,hr,h⟩ again hag
 (try dsimp only)
 have hsi:nth (ze E i s) i=some s:=Xe hi;refine it (λhc=>?_) (λhc=>?_)<;>(try simp only[zB]at hc)
 ·have hA:A.drop j=A[j]::A.drop (j+1):=List.drop_eq_getElem_cons (by omega);have hB:B.drop j=B[j]::B.drop (j+1):=List.drop_eq_getElem_cons (by omega);have tA:A.take (j+1)=A.take j++[A[j]]:=by rw[List.take_add_one,List.getElem?_eq_getElem (by omega)];rfl
  have tB:B.take (j+1)=B.take j++[B[j]]:=by rw[List.take_add_one,List.getElem?_eq_getElem (by omega)];rfl
  have lA:(A.take j).length=j:=by rw[List.length_take];omega
  have lB:(B.take j).length=j:=by rw[List.length_take];omega
  have dA:(A.drop (j+1)).length=A.length-(j+1):=List.length_drop ..;generalize A[j]=x at *
  generalize B[j]=y at *
  have eD:P++((B.take j++A.drop j)++(M++((A.take j++B.drop j)++R)))=(P++B.take j)++x::((A.drop (j+1)++(M++A.take j))++y::(B.drop (j+1)++R)):=by rw[hA,hB];simp
  have eD2:(P++B.take j)++y::((A.drop (j+1)++(M++A.take j))++x::(B.drop (j+1)++R))=P++((B.take (j+1)++A.drop (j+1))++(M++((A.take (j+1)++B.drop (j+1))++R))):=by rw[tA,tB];simp
  rw[eD]at hr;obtain⟨g1,g2,g3,-⟩:=Cu (Q:=P++B.take j) (T:=A.drop (j+1)++(M++A.take j)) (U:=B.drop (j+1)++R) (x:=x) (y:=y);rw[eD2]at g3;have l1:(P++B.take j).length=P.length+j:=by rw[List.length_append,lB]
  have l2:(P++B.take j).length+(1+(A.drop (j+1)++(M++A.take j)).length)=P.length+(A.length+M.length)+j:=by rw[l1];simp only[List.length_append,dA,lA];omega
  rw[l2]at g2 g3;rw[l1]at g1 g3;rw[wr (n:=(P.length:Int)+(A.length+M.length)+j) (by omega) (by omega),wr (n:=(P.length:Int)+j) (by omega) (by omega)];have i1:((P.length:Int)+j).toNat=P.length+j:=by omega
  have i2:((P.length:Int)+(A.length+M.length)+j).toNat=P.length+(A.length+M.length)+j:=by omega
  refine lm h i hsi hr (p:=(P.length:Int)+j) (q:=(P.length:Int)+(A.length+M.length)+j) (by omega) (by omega) (by rw[i1];exact g1) (by rw[i2];exact g2) λs' w hr h=>?_;rw[i1,i2,g3]at hr;rw[JT]at h;refine hag (q-1) _ w (by omega) ⟨j+1,s',?_,by omega,hr,h⟩;rw[wr (by omega) (by omega)];rfl
 ·have e1:A.drop j = []:=List.drop_eq_nil_of_le (by omega);have e2:A.take j=A:=List.take_of_length_le (by omega);have e3:B.drop j = []:=List.drop_eq_nil_of_le (by omega);have e4:B.take j=B:=List.take_of_length_le (by omega);rw[e1,e2,e3,e4,List.append_nil,List.append_nil]at hr;exact⟨(),rfl,hk s w hr h⟩
def bU(h:St w0 E w)(i:Nat){s:Seg}(hi:nth E i=some s){v:Sl}{P A B R:List (Int×Int)}(hr:Rw eC zk 2 v (P++(A++(B++R))) s)(hn:(P++(A++(B++R))).length<1000000000)(hA:A≠[])(hB:B≠[])
  {a m b:Int} (ha:a=P.length) (hm:m=P.length+A.length) (hb:b=P.length+(A.length+B.length)) {k:Unit→PT} (hk:∀s' w',Rw eC zk 2 v (P++(B++(A++R))) s'→St w0 (ze E i s') w'→k () w') :
  L.call Pr yp [.slice v.a v.len v.cap,I a,I m,I b,Fx] (.tup []) k w:=by
 subst ha hm hb;refine zc (xY _ _ _ _ ⟨.func zN,#[],#[]⟩) ?_;unfold YM;simp only[List.length_append]at hn;rw[wr (n:=(P.length:Int)+A.length-P.length) (by omega) (by omega),wr (n:=(P.length:Int)+(A.length+B.length)-(P.length+A.length)) (by omega) (by omega)];have hA1:=List.length_pos_iff.2 hA;have hB1:=List.length_pos_iff.2 hB
 refine Zh (λq y w=>∃(X A' B' Y:List (Int×Int))(s:Seg),y=((A'.length:Int),(B'.length:Int),())∧q=A'.length+B'.length∧0<A'.length∧0<B'.length∧X.length+A'.length=A.length∧Y.length+B'.length=B.length∧X++(B'++(A'++Y))=B++A∧
  Rw eC zk 2 v (P++(X++(A'++(B'++(Y++R))))) s∧St w0 (ze E i s) w) (A.length+B.length)
  ⟨[],A,B,[],s,by simp;omega,rfl,hA1,hB1,by simp,by simp,by simp,by simpa using hr,by rwa [yD hi]⟩ ?_
 clear hr;clear h;rintro q y w ⟨X,A',B',Y,s,rfl,hq,hA',hB',hX,hY,hXY,hr,h⟩ again hag
 (try dsimp only)
 have hsi:nth (ze E i s) i=some s:=Xe hi;have hnn:(P++(X++(A'++(B'++(Y++R))))).length<1000000000:=by simp only[List.length_append];omega
 refine it (λhc=>?_) (λhc=>?_)<;>(try simp only[zB]at hc)
 ·refine it (λhd=>?_) (λhd=>?_)<;>(try simp only[zB]at hd)
  ·obtain⟨A1,A2,rfl,l1⟩:∃A1 A2,A'=A1++A2∧A1.length=B'.length:=⟨A'.take B'.length,A'.drop B'.length,(List.take_append_drop ..).symm,by rw[List.length_take];omega⟩;simp only[List.length_append]at hX hq hd hA' hnn ⊢;rw[wr (n:=(P.length:Int)+A.length-((A1.length+A2.length:Nat):Int)) (by omega) (by omega)];refine Td (P:=P++X) (A:=A1) (M:=A2) (B:=B') (R:=Y++R) h i hsi (by simpa using hr) (by simp only[List.length_append];omega) l1 (by rw[List.length_append];omega) (by rw[List.length_append];omega) (by omega) λs' w hr h=>?_;rw[JT]at h;rw[wr (by omega) (by omega)];refine hag (A2.length+A1.length) _ w (by omega) ⟨X++B',A2,A1,Y,s',?_,rfl,by omega,by omega,by rw[List.length_append];omega,by omega,by rw[←hXY];simp,by simpa using hr,h⟩;rw[l1]
   congr 1
   omega
  ·obtain⟨B1,B2,rfl,l1⟩:∃B1 B2,B'=B1++B2∧B2.length=A'.length:=⟨B'.take (B'.length-A'.length),B'.drop (B'.length-A'.length),(List.take_append_drop ..).symm,by rw[List.length_drop];omega⟩;simp only[List.length_append]at hY hq hd hB' hnn hc ⊢;rw[wr (n:=(P.length:Int)+A.length-(A'.length:Int)) (by omega) (by omega),wr (n:=(P.length:Int)+A.length+((B1.length+B2.length:Nat):Int)) (by omega) (by omega),wr (n:=(P.length:Int)+A.length+((B1.length+B2.length:Nat):Int)-(A'.length:Int)) (by omega) (by omega)];refine Td (P:=P++X) (A:=A') (M:=B1) (B:=B2) (R:=Y++R) h i hsi (by simpa using hr) (by simp only[List.length_append];omega) l1.symm (by rw[List.length_append];omega) (by rw[List.length_append];omega) (by omega) λs' w hr h=>?_;rw[JT]at h;rw[wr (by omega) (by omega)];refine hag (B2.length+B1.length) _ w (by omega) ⟨X,B2,B1,A'++Y,s',?_,rfl,by omega,by omega,by omega,by rw[List.length_append];omega,by rw[←hXY];simp,by simpa using hr,h⟩;rw[←l1]
   congr 2
   omega
 ·rw[wr (n:=(P.length:Int)+A.length-(A'.length:Int)) (by omega) (by omega)];refine Td (P:=P++X) (A:=A') (M:=[]) (B:=B') (R:=Y++R) h i hsi (by simpa using hr) (by simp only[List.length_append,List.length_nil];omega) (by omega) (by rw[List.length_append];omega) (by rw[List.length_append,List.length_nil];omega) rfl λs' w hr h=>?_;rw[JT]at h;refine⟨(),rfl,hk s' w ?_ h⟩;have e:P++(B++(A++R))=(P++X)++(B'++([]++(A'++(Y++R)))):=by
   have:=congrArg (λz=>P++(z++R)) hXY;simpa using this.symm
  rw[e];exact hr
def mZ(x y:Int×Int):Prop:=x.1<y.1∨(x.1=y.1∧x.2<y.2)
abbrev Ls(l:List (Int×Int)):Prop:=l.Pairwise mZ
def cM{x:Int×Int}:∀{l:List (Int×Int)},Ls l→(∀y∈l,y.2<x.2)→Ls (Ua x l)
 | [],_,_=>by simp[Ua]
 | y::l,h,hx=>by
  have h:=List.pairwise_cons.1 h;simp only[Ua];split
  ·rename_i hy;refine List.pairwise_cons.2 ⟨λz hz=>?_,List.pairwise_cons.2 h⟩;rcases List.mem_cons.1 hz with rfl | hz
   ·exact .inl hy
   ·rcases h.1 z hz with h | h
    ·exact .inl (by omega)
    ·exact .inl (by omega)
  ·rename_i hy;refine List.pairwise_cons.2 ⟨λz hz=>?_,cM h.2 λz hz=>hx z (by simp[hz])⟩;rcases List.mem_cons.1 ((uE x l).mem_iff.1 hz)with rfl | hz
   ·have:=hx y (by simp);by_cases he:y.1=z.1
    ·exact .inr ⟨he,this⟩
    ·exact .inl (by omega)
   ·exact h.1 z hz
def xq(l:List (Int×Int)):(yx l).Perm l:=by
 suffices ∀(l a:List (Int×Int)),(l.foldl (λa x=>Ua x a) a).Perm (a++l)from by simpa [yx]using this l []
 intro l
 induction l with
 | nil=>intro a;simp
 | cons y l ih=>
  intro a;refine(ih _).trans (((uE y a).append_right l).trans ?_);exact(List.perm_middle (a:=y) (l₁:=a) (l₂:=l)).symm
def ff{l:List (Int×Int)}(h:l.Pairwise λa b=>a.2<b.2):Ls (yx l):=by
 suffices ∀(l a:List (Int×Int)),(a++l).Pairwise (λa b=>a.2<b.2)∨True→Ls a→l.Pairwise (λa b=>a.2<b.2)→(∀x∈a,∀y∈l,x.2<y.2)→Ls (l.foldl (λa x=>Ua x a) a) from
  this l [] (.inr trivial) .nil h (by simp)
 intro l
 induction l with
 | nil=>exact λa _ h _ _=>h
 | cons y l ih=>
  intro a _ ha hl hal;rw[List.pairwise_cons]at hl;refine ih _ (.inr trivial) (cM ha λx hx=>hal x hx y (by simp)) hl.2 λx hx z hz=>?_;rcases List.mem_cons.1 ((uE y a).mem_iff.1 hx)with rfl | hx
  ·exact hl.1 z hz
  ·exact hal x hx z (by simp[hz])
def cG:∀{l1 l2:List (Int×Int)},Ls l1→Ls l2→l1.Perm l2→l1=l2
 | [],l2,_,_,p=>p.nil_eq
 | x::l1,[],_,_,p=>by have:=p.length_eq;simp at this
 | x::l1,y::l2,h1,h2,p=>by
  have h1:=List.pairwise_cons.1 h1;have h2:=List.pairwise_cons.1 h2;have e:x=y:=by
   rcases List.mem_cons.1 (p.mem_iff.1 (by simp:x∈x::l1))with e | hx
   ·exact e
   ·rcases List.mem_cons.1 (p.mem_iff.2 (by simp:y∈y::l2))with e | hy
    ·exact e.symm
    ·have q1:=h1.1 y hy;have q2:=h2.1 x hx;unfold mZ at q1 q2;omega
  subst e;rw[cG h1.2 h2.2 p.cons_inv]
def VI{l:List (Int×Int)}(h:Ls l){i j:Nat}{x y:Int×Int}(hij:i≤j)(hi:l[i]? = some x)(hj:l[j]? = some y):x.1≤y.1:=by
 rcases Nat.lt_or_ge i j with hlt | hge
 ·obtain⟨i1,rfl⟩:=List.getElem?_eq_some_iff.1 hi;obtain⟨j1,rfl⟩:=List.getElem?_eq_some_iff.1 hj;have:=List.pairwise_iff_getElem.1 h i j i1 j1 hlt;unfold mZ at this;omega
 ·have:i=j:=by omega
  subst this;rw[hi]at hj;cases hj;omega
def tL{l:List (Int×Int)}{c:Nat}{z:Int×Int}(h:z∈l.take c):∃i,i<c∧l[i]? = some z:=by
 obtain⟨i,hi⟩:=List.mem_iff_getElem?.1 h;rw[List.getElem?_take]at hi;split at hi
 ·exact⟨i,by assumption,hi⟩
 ·cases hi
def tM{l:List (Int×Int)}{c:Nat}{z:Int×Int}(h:z∈l.drop c):∃i,c≤i∧l[i]? = some z:=by
 obtain⟨i,hi⟩:=List.mem_iff_getElem?.1 h;rw[List.getElem?_drop]at hi;exact⟨c+i,by omega,hi⟩
def Tf{l:List (Int×Int)}(h:St w0 E w)(i:Nat){s:Seg}(hi:nth E i=some s){v:Sl}(hr:Rw eC zk 2 v l s){p q:Int}{x y:Int×Int}(p0:0≤p)(q0:0≤q)(hx:l[p.toNat]? = some x)(hy:l[q.toNat]? = some y)
  (h1: -4611686018427387904<x.1∧x.1<4611686018427387904) (h2: -4611686018427387904<y.1∧y.1<4611686018427387904) {k:Int→PT} (hk:∀w',St w0 E w'→k (x.1-y.1) w') :
  (L.draw<| L.idx v.a p v.len 2 λa3=>L.load (.agg [.int .i64,.int .i64]) a3 λ(x4:Int×Int×Unit)=>L.idx v.a q v.len 2 λa5=>L.load (.agg [.int .i64,.int .i64]) a5 λ(x6:Int×Int×Unit)=>
   L.callV Pr Fx [.agg #[.int .i64 x4.1,.int .i64 x4.2.1],.agg #[.int .i64 x6.1,.int .i64 x6.2.1]] (.one (.one (.int .i64))) k) w:=by
 have hp:=(List.getElem?_eq_some_iff.1 hx).1;have hq:=(List.getElem?_eq_some_iff.1 hy).1;refine dr h λw h=>?_;refine Rw.ix XS hr p0 hp λa ha=>?_;refine Rw.lda XS h i hi hr ha hx (y:=(x.1,x.2,())) rfl ?_;refine Rw.ix XS hr q0 hq λa2 ha2=>?_;refine Rw.lda XS h i hi hr ha2 hy (y:=(y.1,y.2,())) rfl ?_;exact lO h h1 h2 hk
def bS(h:St w0 E w)(i:Nat){s:Seg}(hi:nth E i=some s){v:Sl}{P B R:List (Int×Int)}{x:Int×Int}(hr:Rw eC zk 2 v (P++(x::(B++R))) s)(hn:(P++(x::(B++R))).length<1000000000)(sB:Ls B)(hx2:∀y∈B,x.2<y.2)
  (hbx: -4611686018427387904<x.1∧x.1<4611686018427387904) (hb:∀y∈B,-4611686018427387904<y.1∧y.1<4611686018427387904) {a m b:Int} (ha:a=P.length) (hm:m=P.length+1) (hbb:b=P.length+(1+B.length))
  {k:Unit→PT} (hk:∀S s' w',Ls S→S.Perm (x::B)→Rw eC zk 2 v (P++(S++R)) s'→St w0 (ze E i s') w'→k () w') :
  L.call Pr zu [.slice v.a v.len v.cap,I a,I m,I b,Fx] (.tup []) k w:=by
 subst ha hm hbb;refine zc (yk _ _ _ _ ⟨.func zN,#[],#[]⟩) ?_;unfold ZC;simp only[List.length_append,List.length_cons]at hn;rw[wr (n:=(P.length:Int)+1-P.length) (by omega) (by omega)];refine itT (by simp;omega) ?_
 refine Zh (λq y w=>∃c d:Nat,y=((P.length:Int)+1+c,(P.length:Int)+1+d,())∧q+c=d∧c≤d∧d≤B.length∧(∀(i:Nat) z,B[i]? = some z→i<c→z.1<x.1)∧(∀(i:Nat) z,B[i]? = some z→d≤i→¬z.1<x.1)∧St w0 E w) B.length
  ⟨0,B.length,by simp;omega,by omega,by omega,by omega,by intros;omega,by
   intro i z hz hi;have:=(List.getElem?_eq_some_iff.1 hz).1;omega,h⟩ ?_
 clear h;rintro q y w ⟨c,d,rfl,hq,hcd,hd,h1,h2,h⟩ again hag
 (try dsimp only)
 have ix:((P.length:Int)).toNat=P.length:=by omega
 have g0:(P++(x::(B++R)))[((P.length:Int)).toNat]? = some x:=by rw[ix];simp
 refine it (λhc=>?_) (λhc=>?_)<;>(try simp only[zB]at hc)
 ·have he:((P.length:Int)+1+c+((P.length:Int)+1+d))/2=(P.length:Int)+1+(((c+d)/2:Nat):Int):=by omega
  rw[LP (by omega) (by omega) (by omega),he];obtain⟨e,hee⟩:∃e,e=(c+d)/2:=⟨_,rfl⟩;rw[←hee];have hel:e<B.length:=by omega
  have hz:B[e]? = some B[e]:=List.getElem?_eq_getElem hel;have hzm:B[e]∈B:=List.getElem_mem hel;generalize B[e]=z at hz hzm;have g1:(P++(x::(B++R)))[((P.length:Int)+1+(e:Int)).toNat]? = some z:=by
   have e1:((P.length:Int)+1+(e:Int)).toNat=P.length+(e+1):=by omega
   rw[e1,List.getElem?_append_right (by omega)];have e2:P.length+(e+1)-P.length=e+1:=by omega
   rw[e2,List.getElem?_cons_succ,List.getElem?_append_left hel,hz]
  refine gd (by decide) ?_;refine Tf h i hi hr (by omega) (by omega) g1 g0 (hb z hzm) hbx λw h=>?_;refine it (λhl=>?_) (λhl=>?_)<;>(try simp only[zB]at hl)
  ·refine hag (d-(e+1)) _ w (by omega) ⟨e+1,d,?_,by omega,by omega,hd,λi z' hz' hi=>?_,h2,h⟩
   ·rw[wr (by omega) (by omega)];congr 1
   ·have:=VI sB (by omega) hz' hz;omega
  ·refine hag (e-c) _ w (by omega) ⟨c,e,rfl,by omega,by omega,by omega,h1,λi z' hz' hi=>?_,h⟩;have:=VI sB hi hz hz';omega
 ·have e:d=c:=by omega
  subst e;refine Zh (λq y w=>∃(j:Nat)(s:Seg),y=((P.length:Int)+j,())∧q+j=d∧Rw eC zk 2 v (P++(B.take j++x::(B.drop j++R))) s∧St w0 (ze E i s) w) d ⟨0,s,by simp,by omega,by simpa using hr,by rwa [yD hi]⟩ ?_;clear hr g0;clear h;rintro q y w ⟨j,s,rfl,hq,hr,h⟩ again hag
  (try dsimp only)
  have hsi:nth (ze E i s) i=some s:=Xe hi;rw[wr (n:=(P.length:Int)+1+d-1) (by omega) (by omega)];refine it (λhc=>?_) (λhc=>?_)<;>(try simp only[zB]at hc)
  ·have hj:j<B.length:=by omega
   have hB:B.drop j=B[j]::B.drop (j+1):=List.drop_eq_getElem_cons hj;have tB:B.take (j+1)=B.take j++[B[j]]:=by rw[List.take_add_one,List.getElem?_eq_getElem hj];rfl
   have lB:(B.take j).length=j:=by rw[List.length_take];omega
   generalize B[j]=z at hB tB;have eD:P++(B.take j++x::(B.drop j++R))=(P++B.take j)++x::([]++z::(B.drop (j+1)++R)):=by rw[hB];simp
   have eD2:(P++B.take j)++z::([]++x::(B.drop (j+1)++R))=P++(B.take (j+1)++x::(B.drop (j+1)++R)):=by rw[tB];simp
   rw[eD]at hr;obtain⟨g1,g2,g3,-⟩:=Cu (Q:=P++B.take j) (T:=[]) (U:=B.drop (j+1)++R) (x:=x) (y:=z);have l1:(P++B.take j).length=P.length+j:=by rw[List.length_append,lB]
   have l2:(P++B.take j).length+(1+([]:List (Int×Int)).length)=P.length+j+1:=by rw[l1];rfl
   rw[eD2,l2,l1]at g3;rw[l2]at g2;rw[l1]at g1;have i1:((P.length:Int)+j).toNat=P.length+j:=by omega
   have i2:((P.length:Int)+j+1).toNat=P.length+j+1:=by omega
   rw[wr (n:=(P.length:Int)+j+1) (by omega) (by omega)];refine lm h i hsi hr (by omega) (by omega) (by rw[i1];exact g1) (by rw[i2];exact g2) λs' w hr h=>?_;rw[i1,i2,g3]at hr;rw[JT]at h;exact hag (q-1) _ w (by omega) ⟨j+1,s',by congr 1,by omega,hr,h⟩
  ·have e:j=d:=by omega
   subst e;refine⟨(),rfl,hk (B.take j++x::B.drop j) s w ?_ ?_ (by simpa using hr) h⟩
   ·have sB':=sB;rw[←List.take_append_drop j B]at sB';have sB':=List.pairwise_append.1 sB';refine List.pairwise_append.2 ⟨sB'.1,List.pairwise_cons.2 ⟨λz hz=>?_,sB'.2.1⟩,λz hz y hy=>?_⟩
    ·obtain⟨i,hi,hz'⟩:=tM hz;have q1:=h2 i z hz' hi;have q2:=hx2 z (List.mem_of_mem_drop hz);unfold mZ;omega
    ·rcases List.mem_cons.1 hy with rfl | hy
     ·obtain⟨i,hi,hz'⟩:=tL hz;exact .inl (h1 i z hz' hi)
     ·exact sB'.2.2 z hz y hy
   ·refine List.perm_middle.trans ?_;rw[List.take_append_drop]
def bR(h:St w0 E w)(i:Nat){s:Seg}(hi:nth E i=some s){v:Sl}{P A R:List (Int×Int)}{y:Int×Int}(hr:Rw eC zk 2 v (P++(A++(y::R))) s)(hn:(P++(A++(y::R))).length<1000000000)(hA1:A.length≠1)(sA:Ls A)(hy2:∀x∈A,x.2<y.2)
  (hby: -4611686018427387904<y.1∧y.1<4611686018427387904) (hb:∀x∈A,-4611686018427387904<x.1∧x.1<4611686018427387904) {a m b:Int} (ha:a=P.length) (hm:m=P.length+A.length) (hbb:b=P.length+(A.length+1))
  {k:Unit→PT} (hk:∀S s' w',Ls S→S.Perm (A++[y])→Rw eC zk 2 v (P++(S++R)) s'→St w0 (ze E i s') w'→k () w') :
  L.call Pr zu [.slice v.a v.len v.cap,I a,I m,I b,Fx] (.tup []) k w:=by
 subst ha hm hbb;refine zc (yk _ _ _ _ ⟨.func zN,#[],#[]⟩) ?_;unfold ZC;simp only[List.length_append,List.length_cons]at hn;rw[wr (n:=(P.length:Int)+A.length-P.length) (by omega) (by omega),wr (n:=(P.length:Int)+(A.length+1)-(P.length+A.length)) (by omega) (by omega)];refine itF (by simp;omega) ?_;refine itT (by simp;omega) ?_
 refine Zh (λq z w=>∃c d:Nat,z=((P.length:Int)+c,(P.length:Int)+d,())∧q+c=d∧c≤d∧d≤A.length∧(∀(i:Nat) z,A[i]? = some z→i<c→¬y.1<z.1)∧(∀(i:Nat) z,A[i]? = some z→d≤i→y.1<z.1)∧St w0 E w) A.length
  ⟨0,A.length,by simp,by omega,by omega,by omega,by intros;omega,by
   intro i z hz hi;have:=(List.getElem?_eq_some_iff.1 hz).1;omega,h⟩ ?_
 clear h;rintro q z w ⟨c,d,rfl,hq,hcd,hd,h1,h2,h⟩ again hag
 (try dsimp only)
 have g0:(P++(A++(y::R)))[((P.length:Int)+A.length).toNat]? = some y:=by
  have e1:((P.length:Int)+A.length).toNat=P.length+A.length:=by omega
  rw[e1,←List.append_assoc,List.getElem?_append_right (by simp)];simp
 refine it (λhc=>?_) (λhc=>?_)<;>(try simp only[zB]at hc)
 ·have he:((P.length:Int)+c+((P.length:Int)+d))/2=(P.length:Int)+(((c+d)/2:Nat):Int):=by omega
  rw[LP (by omega) (by omega) (by omega),he];obtain⟨e,hee⟩:∃e,e=(c+d)/2:=⟨_,rfl⟩;rw[←hee];have hel:e<A.length:=by omega
  have hz:A[e]? = some A[e]:=List.getElem?_eq_getElem hel;have hzm:A[e]∈A:=List.getElem_mem hel;generalize A[e]=z at hz hzm;have g1:(P++(A++(y::R)))[((P.length:Int)+(e:Int)).toNat]? = some z:=by
   have e1:((P.length:Int)+(e:Int)).toNat=P.length+e:=by omega
   rw[e1,List.getElem?_append_right (by omega)];have e2:P.length+e-P.length=e:=by omega
   rw[e2,List.getElem?_append_left hel,hz]
  refine gd (by decide) ?_;refine Tf h i hi hr (by omega) (by omega) g0 g1 hby (hb z hzm) λw h=>?_;refine it (λhl=>?_) (λhl=>?_)<;>(try simp only[zB]at hl)
  ·refine hag (d-(e+1)) _ w (by omega) ⟨e+1,d,?_,by omega,by omega,hd,λi z' hz' hi=>?_,h2,h⟩
   ·rw[wr (by omega) (by omega)];congr 1
   ·have:=VI sA (by omega) hz' hz;omega
  ·refine hag (e-c) _ w (by omega) ⟨c,e,rfl,by omega,by omega,by omega,h1,λi z' hz' hi=>?_,h⟩;have:=VI sA hi hz hz';omega
 ·have e:d=c:=by omega
  subst e;refine Zh (λq z w=>∃(j:Nat)(s:Seg),z=((P.length:Int)+j,())∧q+d=j∧j≤A.length∧Rw eC zk 2 v (P++(A.take j++y::(A.drop j++R))) s∧St w0 (ze E i s) w) (A.length-d) ⟨A.length,s,by simp,by omega,by omega,by simpa using hr,by rwa [yD hi]⟩ ?_;clear hr g0;clear h;rintro q z w ⟨j,s,rfl,hq,hj,hr,h⟩ again hag
  (try dsimp only)
  have hsi:nth (ze E i s) i=some s:=Xe hi;refine it (λhc=>?_) (λhc=>?_)<;>(try simp only[zB]at hc)
  ·obtain⟨j,rfl⟩:∃j',j=j'+1:=⟨j-1,by omega⟩;have hA:A.drop j=A[j]::A.drop (j+1):=List.drop_eq_getElem_cons (by omega);have tA:A.take (j+1)=A.take j++[A[j]]:=by rw[List.take_add_one,List.getElem?_eq_getElem (by omega)];rfl
   have lA:(A.take j).length=j:=by rw[List.length_take];omega
   generalize A[j]=x at hA tA;have eD:P++(A.take (j+1)++y::(A.drop (j+1)++R))=(P++A.take j)++x::([]++y::(A.drop (j+1)++R)):=by rw[tA];simp
   have eD2:(P++A.take j)++y::([]++x::(A.drop (j+1)++R))=P++(A.take j++y::(A.drop j++R)):=by rw[hA];simp
   rw[eD]at hr;obtain⟨g1,g2,-,g3⟩:=Cu (Q:=P++A.take j) (T:=[]) (U:=A.drop (j+1)++R) (x:=x) (y:=y);have l1:(P++A.take j).length=P.length+j:=by rw[List.length_append,lA]
   have l2:(P++A.take j).length+(1+([]:List (Int×Int)).length)=P.length+j+1:=by rw[l1];rfl
   rw[eD2,l2,l1]at g3;rw[l2]at g2;rw[l1]at g1;have i0:(P.length:Int)+((j+1:Nat):Int)-1=(P.length:Int)+j:=by omega
   have i1:((P.length:Int)+j).toNat=P.length+j:=by omega
   have i2:((P.length:Int)+((j+1:Nat):Int)).toNat=P.length+j+1:=by omega
   rw[wr (n:=(P.length:Int)+((j+1:Nat):Int)-1) (by omega) (by omega),i0];refine lm h i hsi hr (by omega) (by omega) (by rw[i2];exact g2) (by rw[i1];exact g1) λs' w hr h=>?_;rw[i1,i2,g3]at hr;rw[JT]at h;exact hag (q-1) _ w (by omega) ⟨j,s',rfl,by omega,by omega,hr,h⟩
  ·have e:j=d:=by omega
   subst e;refine⟨(),rfl,hk (A.take j++y::A.drop j) s w ?_ ?_ (by simpa using hr) h⟩
   ·have sA':=sA;rw[←List.take_append_drop j A]at sA';have sA':=List.pairwise_append.1 sA';refine List.pairwise_append.2 ⟨sA'.1,List.pairwise_cons.2 ⟨λz hz=>?_,sA'.2.1⟩,λx hx z hz=>?_⟩
    ·obtain⟨i,hi,hz'⟩:=tM hz;exact .inl (h2 i z hz' hi)
    ·rcases List.mem_cons.1 hz with rfl | hz
     ·obtain⟨i,hi,hz'⟩:=tL hx;have q1:=h1 i x hz' hi;have q2:=hy2 x (List.mem_of_mem_take hx);unfold mZ;omega
     ·exact sA'.2.2 x hx z hz
   ·refine List.perm_middle.trans ?_;rw[List.take_append_drop];exact(List.perm_append_singleton y A).symm
def rz(h:St w0 E w)(i:Nat){s:Seg}(hi:nth E i=some s){v:Sl}{M:List (Int×Int)}(hr:Rw eC zk 2 v M s)(hn:M.length≤20)
  (hb:∀x∈M,-4611686018427387904<x.1∧x.1<4611686018427387904) {k:Unit→PT} (hk:∀s' w',Rw eC zk 2 v (yx M) s'→St w0 (ze E i s') w'→k () w') :
  L.call Pr zY [.slice v.a v.len v.cap,Fx] (.tup []) k w:=by
 refine zc (yh _ ⟨.func zN,#[],#[]⟩) ?_;unfold Zt;refine zc (YN _ _ ⟨.func zN,#[],#[]⟩) ?_;unfold yq;have hlen:=Rw.len XS hr;have hr0:Rw eC zk 2 v ([]++(M++[])) s:=by simpa using hr
 have fin:∀{s' w},Rw eC zk 2 v (yx M) s'→St w0 (ze E i s') w→L.loop (Y:=Int×Unit) (20,()) (λy5 again6=>
   L.ite (decide (y5.1<((v.len:Nat):Int))) (
    L.loop (Y:=Int×Int×Unit) (0,Wi (2*y5.1),()) λy7 again8=>
    L.ite (decide (y7.2.1≤((v.len:Nat):Int))) (
     L.call Pr zu [.slice v.a v.len v.cap,.int .i64 y7.1,.int .i64 (Wi (y7.1+y5.1)),.int .i64 y7.2.1,Fx] (.tup []) λ(x9:Unit)=>
     again8 (y7.2.1,Wi (y7.2.1+(Wi (2*y5.1))),()))<|
    L.join (Y:=Unit) (λk10=>
     L.ite (decide ((Wi (y7.1+y5.1))<((v.len:Nat):Int))) (
      L.call Pr zu [.slice v.a v.len v.cap,.int .i64 y7.1,.int .i64 (Wi (y7.1+y5.1)),.int .i64 ((v.len:Nat):Int),Fx] (.tup []) λ(x12:Unit)=>
      k10 (()))<|
     k10 (())) λz11=>
    again6 (Wi (y5.1*2),()))<|
   λw=>∃x:Unit,Value.tuple #[]=RT.val (.tup []) x∧∃y:Unit,Value.tuple #[]=RT.val (.tup []) y∧k y w) w:=by
  intro s' w hr h;refine Zh (λq y w'=>y=(20,())∧w'=w) 0 ⟨rfl,rfl⟩ ?_;rintro q y w' ⟨rfl,rfl⟩ again hag;refine itF (decide_eq_false (by dsimp only;omega)) ?_;exact⟨(),rfl,(),rfl,hk s' _ hr h⟩
 refine Zh (λq y w=>(q=1∧y=(0,20,())∧St w0 E w)∨(q=0∧y=(20,40,())∧M.length=20∧∃s',Rw eC zk 2 v (yx M) s'∧St w0 (ze E i s') w)) 1 (.inl ⟨rfl,rfl,h⟩) ?_;clear h;rintro q y w (⟨rfl,rfl,h⟩ | ⟨rfl,rfl,h20,s',hr',h⟩) again hag<;>dsimp only
 ·refine it (λhc=>?_) (λhc=>?_)<;>(try simp only[zB]at hc)
  ·refine Mz (P:=[]) (M:=M) (R:=[]) h i hi hr0 (by simp;omega) hb (by rfl) (by simp;omega) λs' w hr' h=>?_;rw[wr (by omega) (by omega)];exact hag 0 _ w (by omega) (.inr ⟨rfl,rfl,by omega,s',by simpa using hr',h⟩)
  ·refine Mz (P:=[]) (M:=M) (R:=[]) h i hi hr0 (by simp;omega) hb (by rfl) (by simp;omega) λs' w hr' h=>?_;exact fin (by simpa using hr') h
 ·refine itF (decide_eq_false (by omega)) ?_;refine Mz (P:=yx M) (M:=[]) (R:=[]) h i (Xe hi) (by simpa using hr') (by simp[yW];omega) (by simp) (by rw[yW];omega) (by rw[yW];simp;omega) λs' w hr' h=>?_;rw[JT]at h;exact fin (by simpa [yx]using hr') h
def PA{p:Int×Int→Bool}{c:Int×Int}:∀{l:List (Int×Int)},l.Pairwise (λa b=>a.1≤b.1)→
  (Ua c l).find? p=match l.find? p with | none=>if p c=true then some c else none | some y=>if p c=true∧c.1<y.1 then some c else some y
 | [],_=>by by_cases h:p c=true<;>simp[Ua,h]
 | y::l,hp=>by
  rw[List.pairwise_cons]at hp;simp only[Ua];split
  ·rename_i hlt;by_cases h:p c=true
   ·rw[List.find?_cons_of_pos h]
    cases hf:(y::l).find? p with
    | none=>simp[h]
    | some z=>
     have hz:c.1<z.1:=by
      rcases List.mem_cons.1 (List.mem_of_find?_eq_some hf)with rfl | hz
      ·exact hlt
      ·have:=hp.1 z hz;omega
     simp[h,hz]
   ·rw[List.find?_cons_of_neg h]
    cases hf:(y::l).find? p<;>simp[h]
  ·rename_i hlt;by_cases hy:p y=true
   ·rw[List.find?_cons_of_pos hy,List.find?_cons_of_pos hy];simp[hlt]
   ·rw[List.find?_cons_of_neg hy,List.find?_cons_of_neg hy];exact PA hp.2
def can(x:Zn):Bool:=decide (x.pod.st=2∧(x.pod.reqs.length:Int)<x.pod.conc)
def XZ(b:Option Zn)(x:Zn):Option Zn:=match b with
 | none=>if can x=true then some x else none
 | some y=>if can x=true∧x.pod.reqs.length<y.pod.reqs.length then some x else some y
def Mp(l:List Zn)(rev:B0):Option Zn:=(revs l rev).foldl XZ none
def key(x:Zn):Int×Int:=(x.pod.reqs.length,x.id)
def Pz{p:Int×Int→Bool}:∀(n:Nat){R:List Zn},R.length=n→(∀x∈R,p (key x)=can x)→(yx (R.map key)).find? p=(R.foldl XZ none).map key
 | 0,R,hn,_=>by
  have:=List.eq_nil_of_length_eq_zero hn;subst this;rfl
 | n+1,R,hn,h=>by
  obtain⟨R',x,rfl⟩:∃R' x,R=R'++[x]:=⟨R.dropLast,R.getLast (by intro e;subst e;simp at hn),(List.dropLast_concat_getLast _).symm⟩;have ih:=Pz (p:=p) n (R:=R') (by simpa using hn) λy hy=>h y (by simp[hy]);have hx:=h x (by simp);have e:yx ((R'++[x]).map key)=Ua (key x) (yx (R'.map key)):=by simp[yx,List.foldl_append]
  rw[e,PA (cX _),ih,List.foldl_append];simp only[List.foldl_cons,List.foldl_nil]
  cases R'.foldl XZ none with
  | none=>simp only[Option.map_none,XZ,hx];split<;>rfl
  | some y=>
   simp only[Option.map_some,XZ,hx];by_cases hc:can x=true∧x.pod.reqs.length<y.pod.reqs.length
   ·rw[if_pos hc,if_pos ⟨hc.1,by simp only[key];omega⟩];rfl
   ·rw[if_neg hc,if_neg (λhh=>hc ⟨hh.1,by have:=hh.2;simp only[key]at this;omega⟩)];rfl
def zl.Ok.where_upd{F:zl}(ok:F.Ok){id:Int}{x:Zn}(hx:qu F.l id=some x)(g:jf→jf)(hq:∀q∈(g x.pod).reqs,q∈x.pod.reqs∨yI F.l q=none)
  (h4:(g x.pod).st=4→(g x.pod).reqs = []) (q:Int):(yI (xd F.l id g) q).map (·.id)=if q∈(g x.pod).reqs then some id else if q∈x.pod.reqs then none else(yI F.l q).map (·.id):=by
 obtain⟨hm,rfl⟩:=qT hx;obtain⟨A,B,hl⟩:=List.append_of_mem hm;have pw:=ok.pw;have once:=ok.once;have hno:yI F.l q=none→∀y∈A++x::B,q∉y.pod.reqs:=λh=>by rw[hl]at h;exact UK h
 have hq:=hq q;rw[hl]at pw once ⊢;rw[List.pairwise_append,List.pairwise_cons]at once;rw[ol pw];have hA:(q∈x.pod.reqs∨q∈(g x.pod).reqs)→∀y∈A,q∉y.pod.reqs:=λh y hy hqy=>by
  have h:q∈x.pod.reqs∨yI F.l q=none:=h.elim .inl λh=>hq h;rcases h with h | h
  ·exact once.2.2 y hy x (by simp) q hqy h
  ·exact hno h y (by simp[hy]) hqy
 have hB:(q∈x.pod.reqs∨q∈(g x.pod).reqs)→∀y∈B,q∉y.pod.reqs:=λh y hy hqy=>by
  have h:q∈x.pod.reqs∨yI F.l q=none:=h.elim .inl λh=>hq h;rcases h with h | h
  ·exact once.2.1.1 y hy q h hqy
  ·exact hno h y (by simp[hy]) hqy
 have fn:∀{l:List Zn},(∀y∈l,q∉y.pod.reqs)→List.find? (λx=>decide (q∈x.pod.reqs)) l=none:=λh=>by
  rw[List.find?_eq_none];exact λy hy=>by simpa using h y hy
 unfold yI;simp only[List.find?_append];by_cases h1:q∈(g x.pod).reqs
 ·rw[if_pos h1,fn (hA (.inr h1)),Option.none_or];have:(g x.pod).st≠4:=λe=>by rw[h4 e]at h1;simp at h1
  rw[if_neg this,List.find?_cons_of_pos (by simpa using h1)];rfl
 ·rw[if_neg h1];have hg:List.find? (λx=>decide (q∈x.pod.reqs)) (if(g x.pod).st=4 then []else [{ x with pod:=g x.pod }])=none:=by
   split
   ·rfl
   ·rw[List.find?_cons_of_neg (by simpa using h1)];rfl
  rw[hg,Option.none_or];by_cases h2:q∈x.pod.reqs
  ·rw[if_pos h2,fn (hA (.inl h2)),fn (hB (.inl h2))];rfl
  ·rw[if_neg h2,List.find?_cons_of_neg (by simpa using h2)]
structure Cut(p q h:Nat)(A B:List (Int×Int))(c:Nat):Prop where
 c1:c≤p
 c2:c≤h
 c3:h-c≤q
 lo:∀x∈A.take c,∀y∈B.drop (h-c),x.1≤y.1
 hi:∀y∈B.take (h-c),∀x∈A.drop c,y.1<x.1
def bK{p q h c c0 d0:Nat}{A B:List (Int×Int)}(hp:p=A.length)(hq:q=B.length)(hh:h=(p+q)/2)(sA:Ls A)(sB:Ls B)(h0:(p≤h∧c0=0∧d0=p)∨(h<p∧c0+q=h∧d0=h))(hc0:c0≤c)(hc1:c≤d0)
  (hT:∀e x y,c0≤e→e<c→A[e]? = some x→B[h-1-e]? = some y→¬y.1<x.1) (hF:∀e x y,c≤e→e<d0→A[e]? = some x→B[h-1-e]? = some y→y.1<x.1):Cut p q h A B c:=by
 subst hp hq;refine⟨by omega,by omega,by omega,λx hx y hy=>?_,λy hy x hx=>?_⟩
 ·obtain⟨i,hi,hx⟩:=tL hx;obtain⟨j,hj,hy⟩:=tM hy;have hil:=(List.getElem?_eq_some_iff.1 hx).1;have hjl:=(List.getElem?_eq_some_iff.1 hy).1;have hcc:c0<c:=by omega
  have a1:A[c-1]? = some A[c-1]:=List.getElem?_eq_getElem (by omega);have b1:B[h-1-(c-1)]? = some B[h-1-(c-1)]:=List.getElem?_eq_getElem (by omega);have q1:=hT (c-1) _ _ (by omega) (by omega) a1 b1;have q2:=VI sA (by omega) hx a1;have q3:=VI sB (by omega) b1 hy;omega
 ·obtain⟨i,hi,hx⟩:=tM hx;obtain⟨j,hj,hy⟩:=tL hy;have hil:=(List.getElem?_eq_some_iff.1 hx).1;have hjl:=(List.getElem?_eq_some_iff.1 hy).1;have hcc:c<d0:=by omega
  have a1:A[c]? = some A[c]:=List.getElem?_eq_getElem (by omega);have b1:B[h-1-c]? = some B[h-1-c]:=List.getElem?_eq_getElem (by omega);have q1:=hF c _ _ (by omega) hcc a1 b1;have q2:=VI sA (by omega) a1 hx;have q3:=VI sB (by omega) hy b1;omega
abbrev bdC(x:Int×Int):Prop:=-4611686018427387904<x.1∧x.1<4611686018427387904
def bT:∀(N:Nat){w:World}{E:List Seg}(_:St w0 E w)(i:Nat){s:Seg}(_:nth E i=some s){v:Sl}{P A B R:List (Int×Int)}(_:Rw eC zk 2 v (P++(A++(B++R))) s)(_:(P++(A++(B++R))).length<1000000000)(_:A.length+B.length≤N)(_:A≠[])(_:B≠[])
  (_:Ls A) (_:Ls B) (_:∀x∈A,∀y∈B,x.2<y.2) (_:∀x∈A,bdC x) (_:∀x∈B,bdC x) {a m b:Int} (_:a=P.length) (_:m=P.length+A.length) (_:b=P.length+(A.length+B.length))
  {k:Unit→PT} (_:∀S s' w',Ls S→S.Perm (A++B)→Rw eC zk 2 v (P++(S++R)) s'→St w0 (ze E i s') w'→k () w'),
  L.call Pr zu [.slice v.a v.len v.cap,I a,I m,I b,Fx] (.tup []) k w:=by
 intro N
 induction N with
 | zero=>
  intro w E h i s hi v P A B R hr hn hN hA hB;have:=List.length_pos_iff.2 hA;omega
 | succ N ih=>
 intro w E h i s hi v P A B R hr hn hN hA hB sA sB hAB bA bB a m b ha hm hbb k hk;have hA1:=List.length_pos_iff.2 hA;have hB1:=List.length_pos_iff.2 hB;by_cases cA:A.length=1
 ·obtain⟨x,rfl⟩:∃x,A = [x]:=List.length_eq_one_iff.1 cA;exact bS (P:=P) (x:=x) (B:=B) (R:=R) h i hi hr hn sB (hAB x (by simp)) (bA x (by simp)) bB ha (by simpa using hm) (by simpa using hbb) hk
 by_cases cB:B.length=1
 ·obtain⟨y,rfl⟩:∃y,B = [y]:=List.length_eq_one_iff.1 cB;exact bR h i hi hr hn cA sA (λx hx=>hAB x hx y (by simp)) (bB y (by simp)) bA ha hm (by simpa using hbb) hk
 subst ha hm hbb;refine zc (yk _ _ _ _ ⟨.func zN,#[],#[]⟩) ?_;unfold ZC;simp only[List.length_append]at hn;rw[wr (n:=(P.length:Int)+A.length-P.length) (by omega) (by omega),wr (n:=(P.length:Int)+(A.length+B.length)-(P.length+A.length)) (by omega) (by omega)];refine itF (by simp;omega) ?_;refine itF (by simp;omega) ?_;refine gd (by decide) ?_;obtain⟨hh,hhe⟩:∃hh,hh=(A.length+B.length)/2:=⟨_,rfl⟩;have he:((P.length:Int)+((P.length:Int)+(A.length+B.length)))/2=(P.length:Int)+(hh:Int):=by omega
 rw[LP (a:=(P.length:Int)) (b:=(P.length:Int)+(A.length+B.length)) (by omega) (by omega) (by omega),he];refine ZA (λz w'=>(∃c0 d0:Nat,z=((P.length:Int)+c0,(P.length:Int)+d0,())∧c0≤d0∧((A.length≤hh∧c0=0∧d0=A.length)∨(hh<A.length∧c0+B.length=hh∧d0=hh)))∧w'=w) (λk' hk'=>?_) ?_
 ·refine it (λhc=>?_) (λhc=>?_)<;>(try simp only[zB]at hc)
  ·refine hk' _ _ ⟨⟨hh-B.length,hh,?_,by omega,.inr ⟨by omega,by omega,rfl⟩⟩,rfl⟩;rw[wr (n:=(P.length:Int)+hh+(P.length+A.length)) (by omega) (by omega),wr (by omega) (by omega)]
   congr 1
   omega
  ·exact hk' _ _ ⟨⟨0,A.length,by simp,by omega,.inl ⟨by omega,rfl,rfl⟩⟩,rfl⟩
 rintro z w' ⟨⟨c0,d0,rfl,hcd0,h0⟩,rfl⟩;dsimp only
 refine Zh (λq z w=>∃c d:Nat,z=((P.length:Int)+c,(P.length:Int)+d,())∧q+c=d∧c0≤c∧c≤d∧d≤d0∧(∀e x y,c0≤e→e<c→A[e]? = some x→B[hh-1-e]? = some y→¬y.1<x.1)∧
  (∀e x y,d≤e→e<d0→A[e]? = some x→B[hh-1-e]? = some y→y.1<x.1)∧St w0 E w) (d0-c0) ⟨c0,d0,rfl,by omega,by omega,by omega,by omega,by intros;omega,by intros;omega,h⟩ ?_
 clear h;rintro q z w ⟨c,d,rfl,hq,hc0,hcd,hd,h1,h2,h⟩ again hag
 (try dsimp only)
 refine it (λhc=>?_) (λhc=>?_)<;>(try simp only[zB]at hc)
 ·have he2:((P.length:Int)+c+((P.length:Int)+d))/2=(P.length:Int)+(((c+d)/2:Nat):Int):=by omega
  rw[LP (a:=(P.length:Int)+c) (by omega) (by omega) (by omega),he2];obtain⟨e,hee⟩:∃e,e=(c+d)/2:=⟨_,rfl⟩;rw[←hee];have hel:e<A.length:=by omega
  have hel2:hh-1-e<B.length:=by omega
  have hx:A[e]? = some A[e]:=List.getElem?_eq_getElem hel;have hxm:A[e]∈A:=List.getElem_mem hel;have hy:B[hh-1-e]? = some B[hh-1-e]:=List.getElem?_eq_getElem hel2;have hym:B[hh-1-e]∈B:=List.getElem_mem hel2;generalize A[e]=x at hx hxm;generalize B[hh-1-e]=y at hy hym;have g1:(P++(A++(B++R)))[((P.length:Int)+(e:Int)).toNat]? = some x:=by
   have e1:((P.length:Int)+(e:Int)).toNat=P.length+e:=by omega
   rw[e1,List.getElem?_append_right (by omega)];have e2:P.length+e-P.length=e:=by omega
   rw[e2,List.getElem?_append_left hel,hx]
  rw[wr (n:=(P.length:Int)+hh+(P.length+A.length)) (by omega) (by omega),wr (n:=(P.length:Int)+hh+(P.length+A.length)-1) (by omega) (by omega),wr (n:=(P.length:Int)+hh+(P.length+A.length)-1-(P.length+e)) (by omega) (by omega)];have g0:(P++(A++(B++R)))[((P.length:Int)+hh+(P.length+A.length)-1-(P.length+e)).toNat]? = some y:=by
   have e1:((P.length:Int)+hh+(P.length+A.length)-1-(P.length+e)).toNat=P.length+(A.length+(hh-1-e)):=by omega
   rw[e1,List.getElem?_append_right (by omega)];have e2:P.length+(A.length+(hh-1-e))-P.length=A.length+(hh-1-e):=by omega
   rw[e2,List.getElem?_append_right (by omega)];have e3:A.length+(hh-1-e)-A.length=hh-1-e:=by omega
   rw[e3,List.getElem?_append_left hel2,hy]
  refine gd (by decide) ?_;refine Tf h i hi hr (by omega) (by omega) g0 g1 (bB y hym) (bA x hxm) λw h=>?_;refine it (λhl=>?_) (λhl=>?_)<;>(try simp only[zB]at hl)
  ·refine hag (d-(e+1)) _ w (by omega) ⟨e+1,d,?_,by omega,by omega,by omega,hd,λe' x' y' he1 he2 hx' hy'=>?_,h2,h⟩
   ·rw[wr (by omega) (by omega)];congr 1
   ·have q1:=VI sA (by omega) hx' hx;have q2:=VI sB (by omega) hy hy';omega
  ·refine hag (e-c) _ w (by omega) ⟨c,e,rfl,by omega,by omega,by omega,by omega,h1,λe' x' y' he1 he2 hx' hy'=>?_,h⟩;have q1:=VI sA he1 hx hx';have q2:=VI sB (by omega) hy' hy;omega
 clear hag;have e:d=c:=by omega
 subst e;have C:=bK rfl rfl hhe sA sB h0 hc0 hd h1 h2;clear h1 h2 h0 hc0 hd hcd;obtain⟨A1,A2,rfl,lA1⟩:∃A1 A2,A=A1++A2∧A1.length=d:=⟨A.take d,A.drop d,(List.take_append_drop ..).symm,by rw[List.length_take];have:=C.c1;omega⟩;obtain⟨B1,B2,rfl,lB1⟩:∃B1 B2,B=B1++B2∧B1.length=hh-d:=⟨B.take (hh-d),B.drop (hh-d),(List.take_append_drop ..).symm,by rw[List.length_take];have:=C.c3;omega⟩;have tA:(A1++A2).take d=A1:=by rw[←lA1,List.take_left]
 have dA:(A1++A2).drop d=A2:=by rw[←lA1,List.drop_left]
 have tB:(B1++B2).take (hh-d)=B1:=by rw[←lB1,List.take_left]
 have dB:(B1++B2).drop (hh-d)=B2:=by rw[←lB1,List.drop_left]
 have hlo:=C.lo;have hhi:=C.hi;have hc2:=C.c2;rw[tA,dB]at hlo;rw[tB,dA]at hhi;clear tA dA tB dB C;have pA:=List.pairwise_append.1 sA;have pB:=List.pairwise_append.1 sB;simp only[List.length_append]at *
 rw[wr (n:=(P.length:Int)+hh+(P.length+((A1.length+A2.length:Nat):Int))) (by omega) (by omega),wr (n:=(P.length:Int)+hh+(P.length+((A1.length+A2.length:Nat):Int))-(P.length+(d:Int))) (by omega) (by omega)];have hend:(P.length:Int)+hh+(P.length+((A1.length+A2.length:Nat):Int))-(P.length+(d:Int))=(P.length:Int)+((hh+A2.length:Nat):Int):=by omega
 rw[hend];have lo2:∀x∈A1,∀y∈B2,mZ x y:=λx hx y hy=>by
  have q1:=hlo x hx y hy;have q2:=hAB x (by simp[hx]) y (by simp[hy]);unfold mZ;omega
 refine ZA (λ_ w=>∃s,Rw eC zk 2 v (P++(A1++(B1++(A2++(B2++R))))) s∧St w0 (ze E i s) w) (λk' hk'=>?_) ?_
 ·have stay:(A2 = []∨B1 = [])→k' () w:=λhh=>hk' () w ⟨s,by
   have e:P++(A1++(B1++(A2++(B2++R))))=P++((A1++A2)++((B1++B2)++R)):=by rcases hh with rfl | rfl<;>simp
   rw[e];exact hr,by rwa [yD hi]⟩
  refine it (λhc1=>?_) (λhc1=>?_)<;>(try simp only[zB]at hc1)
  ·refine it (λhc3=>?_) (λhc3=>?_)<;>(try simp only[zB]at hc3)
   ·refine bU (P:=P++A1) (A:=A2) (B:=B1) (R:=B2++R) h i hi (by simpa using hr) (by simp only[List.length_append];omega) (List.length_pos_iff.1 (by omega)) (List.length_pos_iff.1 (by omega)) (by rw[List.length_append];omega) (by rw[List.length_append];omega) (by rw[List.length_append];omega) λs' w hr h=>?_;exact hk' () w ⟨s',by simpa using hr,h⟩
   ·exact stay (.inr (List.eq_nil_of_length_eq_zero (by omega)))
  ·exact stay (.inl (List.eq_nil_of_length_eq_zero (by omega)))
 clear hr;clear h;rintro _ w ⟨s,hr,h⟩
 (try dsimp only)
 refine ZA (λ_ w=>∃S1 s,Ls S1∧S1.Perm (A1++B1)∧Rw eC zk 2 v (P++(S1++(A2++(B2++R)))) s∧St w0 (ze E i s) w) (λk' hk'=>?_) ?_
 ·have stay:(A1 = []∨B1 = [])→k' () w:=λhh=>hk' () w ⟨A1++B1,s,by
   rcases hh with rfl | rfl
   ·simpa using pB.1
   ·simpa using pA.1,.refl _,by simpa using hr,h⟩
  refine it (λhc1=>?_) (λhc1=>?_)<;>(try simp only[zB]at hc1)
  ·refine it (λhc3=>?_) (λhc3=>?_)<;>(try simp only[zB]at hc3)
   ·refine ih (P:=P) (A:=A1) (B:=B1) (R:=A2++(B2++R)) h i (Xe hi) hr (by simp only[List.length_append];omega) (by omega) (List.length_pos_iff.1 (by omega)) (List.length_pos_iff.1 (by omega)) pA.1 pB.1 (λx hx y hy=>hAB x (by simp[hx]) y (by simp[hy]))
     (λx hx=>bA x (by simp[hx])) (λx hx=>bB x (by simp[hx])) rfl (by omega) (by omega) λS1 s' w l1 p1 hr h=>?_
    rw[JT]at h;exact hk' () w ⟨S1,s',l1,p1,hr,h⟩
   ·exact stay (.inr (List.eq_nil_of_length_eq_zero (by omega)))
  ·exact stay (.inl (List.eq_nil_of_length_eq_zero (by omega)))
 clear hr;clear h;rintro _ w ⟨S1,s,l1,p1,hr,h⟩
 (try dsimp only)
 have lS1:S1.length=hh:=by rw[p1.length_eq,List.length_append];omega
 have fin:∀S2 s' w',Ls S2→S2.Perm (A2++B2)→Rw eC zk 2 v ((P++S1)++(S2++R)) s'→St w0 (ze E i s') w'→k () w':=λS2 s' w' l2 p2 hr h=>by
  refine hk (S1++S2) s' w' (List.pairwise_append.2 ⟨l1,l2,λx hx y hy=>?_⟩) ?_ (by simpa using hr) h
  ·rcases List.mem_append.1 (p1.mem_iff.1 hx)with hx | hx<;>rcases List.mem_append.1 (p2.mem_iff.1 hy)with hy | hy
   ·exact pA.2.2 x hx y hy
   ·exact lo2 x hx y hy
   ·exact .inl (hhi x hx y hy)
   ·exact pB.2.2 x hx y hy
  ·refine(p1.append p2).trans ?_;rw[List.append_assoc,List.append_assoc];refine List.Perm.append_left _ ?_;rw[←List.append_assoc,←List.append_assoc];exact List.Perm.append_right _ List.perm_append_comm
 have stay:(A2 = []∨B2 = [])→k () w:=λhh=>fin (A2++B2) s w (by
   rcases hh with rfl | rfl
   ·simpa using pB.2.1
   ·simpa using pA.2.1) (.refl _) (by simpa using hr) h
 refine it (λhc1=>?_) (λhc1=>?_)<;>(try simp only[zB]at hc1)
 ·refine it (λhc3=>?_) (λhc3=>?_)<;>(try simp only[zB]at hc3)
  ·refine ih (P:=P++S1) (A:=A2) (B:=B2) (R:=R) h i (Xe hi) (by simpa using hr) (by simp only[List.length_append];omega) (by omega) (List.length_pos_iff.1 (by omega)) (List.length_pos_iff.1 (by omega)) pA.2.1 pB.2.1 (λx hx y hy=>hAB x (by simp[hx]) y (by simp[hy]))
    (λx hx=>bA x (by simp[hx])) (λx hx=>bB x (by simp[hx])) (by rw[List.length_append];omega) (by rw[List.length_append];omega) (by rw[List.length_append];omega) λS2 s' w l2 p2 hr h=>?_
   rw[JT]at h;exact⟨(),rfl,fin S2 s' w l2 p2 hr h⟩
  ·exact⟨(),rfl,stay (.inr (List.eq_nil_of_length_eq_zero (by omega)))⟩
 ·exact⟨(),rfl,stay (.inl (List.eq_nil_of_length_eq_zero (by omega)))⟩
def lz(h:St w0 E w)(i:Nat){s:Seg}(hi:nth E i=some s){v:Sl}{M:List (Int×Int)}(hr:Rw eC zk 2 v M s)(hn:M.length<40)(hid:M.Pairwise λa b=>a.2<b.2)
  (hb:∀x∈M,bdC x) {k:Unit→PT} (hk:∀s' w',Rw eC zk 2 v (yx M) s'→St w0 (ze E i s') w'→k () w') :
  L.call Pr zY [.slice v.a v.len v.cap,Fx] (.tup []) k w:=by
 by_cases h20:M.length≤20
 ·exact rz h i hi hr h20 hb hk
 refine zc (yh _ ⟨.func zN,#[],#[]⟩) ?_;unfold Zt;refine zc (YN _ _ ⟨.func zN,#[],#[]⟩) ?_;unfold yq;have hlen:=Rw.len XS hr;obtain⟨M1,M2,rfl,l1⟩:∃M1 M2,M=M1++M2∧M1.length=20:=⟨M.take 20,M.drop 20,(List.take_append_drop ..).symm,by rw[List.length_take];omega⟩;have p12:=List.pairwise_append.1 hid;rw[List.length_append]at hn h20 hlen;have hb1:∀x∈yx M1,bdC x:=λx hx=>hb x (by simp[(xq M1).mem_iff.1 hx]);have hb2:∀x∈yx M2,bdC x:=λx hx=>hb x (by simp[(xq M2).mem_iff.1 hx]);refine Zh (λq y w=>(q=1∧y=(0,20,())∧St w0 E w)∨(q=0∧y=(20,40,())∧∃s',Rw eC zk 2 v (yx M1++(M2++[])) s'∧St w0 (ze E i s') w)) 1 (.inl ⟨rfl,rfl,h⟩) ?_;clear h;rintro q y w (⟨rfl,rfl,h⟩ | ⟨rfl,rfl,s',hr',h⟩) again hag<;>dsimp only
 ·refine itT (decide_eq_true (by omega)) ?_;refine Mz (P:=[]) (M:=M1) (R:=M2) h i hi (by simpa using hr) (by simp;omega) (λx hx=>hb x (by simp[hx])) (by rfl) (by simp;omega) λs' w hr' h=>?_;rw[wr (by omega) (by omega)];exact hag 0 _ w (by omega) (.inr ⟨rfl,rfl,s',by simpa using hr',h⟩)
 ·refine itF (decide_eq_false (by omega)) ?_;refine Mz (P:=yx M1) (M:=M2) (R:=[]) h i (Xe hi) hr' (by simp[yW];omega) (λx hx=>hb x (by simp[hx])) (by rw[yW];omega) (by rw[yW];omega) λs' w hr' h=>?_;rw[JT]at h;refine Zh (λq y w=>(q=1∧y=(20,())∧∃s',Rw eC zk 2 v (yx M1++(yx M2++[])) s'∧St w0 (ze E i s') w)∨(q=0∧y=(40,())∧∃s',Rw eC zk 2 v (yx (M1++M2)) s'∧St w0 (ze E i s') w)) 1 (.inl ⟨rfl,rfl,s',hr',h⟩) ?_;clear hr';clear h;rintro q y w (⟨rfl,rfl,s',hr',h⟩ | ⟨rfl,rfl,s',hr',h⟩) again hag<;>dsimp only
  ·refine itT (decide_eq_true (by omega)) ?_;rw[wr (n:=2*20) (by omega) (by omega)];refine Zh (λq y w'=>y=(0,2*20,())∧w'=w) 0 ⟨rfl,rfl⟩ ?_;rintro q y w' ⟨rfl,rfl⟩ again2 hag2;dsimp only;refine itF (decide_eq_false (by omega)) ?_;refine ZA (λ_ w=>∃s',Rw eC zk 2 v (yx (M1++M2)) s'∧St w0 (ze E i s') w) (λk' hk'=>?_) ?_
   ·rw[wr (n:=0+20) (by omega) (by omega)];refine itT (decide_eq_true (by omega)) ?_
    refine bT (M1.length+M2.length) (P:=[]) (A:=yx M1) (B:=yx M2) (R:=[]) h i (Xe hi) hr' (by simp[yW];omega) (by rw[yW,yW];omega) (List.length_pos_iff.1 (by rw[yW];omega)) (List.length_pos_iff.1 (by rw[yW];omega)) (ff p12.1) (ff p12.2.1)
     (λx hx y hy=>p12.2.2 x ((xq M1).mem_iff.1 hx) y ((xq M2).mem_iff.1 hy)) hb1 hb2 (by rfl) (by rw[yW];simp;omega) (by rw[yW,yW];simp;omega) λS s'' w lS pS hr'' h=>?_
    rw[JT]at h;have e:S=yx (M1++M2):=cG lS (ff hid) ((pS.trans ((xq M1).append (xq M2))).trans (xq _).symm);subst e;exact hk' () w ⟨s'',by simpa using hr'',h⟩
   ·clear hr';rintro _ w'' ⟨s'',hr'',h⟩
    (try dsimp only)
    rw[wr (n:=20*2) (by omega) (by omega)];exact hag 0 _ w'' (by omega) (.inr ⟨rfl,rfl,s'',hr'',h⟩)
  ·refine itF (decide_eq_false (by omega)) ?_;exact⟨(),rfl,(),rfl,hk s' w hr' h⟩
end Go.Proofs.YtimahgbgejngiaaGreatDoor
