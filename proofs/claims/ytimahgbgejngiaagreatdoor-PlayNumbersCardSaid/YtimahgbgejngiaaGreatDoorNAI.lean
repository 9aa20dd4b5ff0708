/- What is proved on the way to a statement of the seat, pressed (text AI). No conditions beyond those its theorems state. -/
import Derived.Test.YtimahgbgejngiaaGreatDoorNAH
import Derived.Shelf.Strconv.Atoi
import Derived.Shelf.Strconv.Itoa3
import Derived.Shelf.Strings.LastIndex
import Derived.Lib.LaidTab
import Derived.Lib.Join
import Derived.Lib.ItoaNum
import Derived.Lib.ItoaMem
import Derived.Below
import Derived.Shelf.Strconv.AtoiAll
import Derived.Shelf.Strings.OnBuilder
import Derived.Lib.AtoiAll
import Derived.Lib.AtoiTie
import Derived.Shelf.Slices.CompactS
import Derived.Lib.RowBridge
set_option linter.all false
namespace Go.Dm
def zB:(∀(p:Prop)[Decidable p],(decide p=true)=p)∧(∀(p:Prop)[Decidable p],(decide p=false) = ¬p)∧(∀{α:Type}[BEq α][LawfulBEq α](a b:α),((a == b)=true)=(a=b))∧(∀{α:Type}[BEq α][LawfulBEq α](a b:α),((a != b)=true) = ¬(a=b))∧(∀{α:Type}[BEq α][LawfulBEq α](a b:α),((a == b)=false) = ¬(a=b))∧(∀{α:Type}[BEq α][LawfulBEq α](a b:α),((a != b)=false)=(a=b))∧
 (∀b:Bool,((!b)=true)=(b=false))∧(∀b:Bool,((!b)=false)=(b=true))∧(∀b:Bool,(¬(b=true))=(b=false))∧(∀b:Bool,(¬(b=false))=(b=true))∧(∀{α:Type}(a b:α),(a≠b) = ¬(a=b)):=by
 refine⟨?_,?_,?_,?_,?_,?_,?_,?_,?_,?_,?_⟩<;>intros<;>simp
end Go.Dm
namespace Go.Proofs.YtimahgbgejngiaaGreatDoor
open Go.Dm
variable {w0 w:World}{E:List Seg}
def wr{n:Int}(h1: -9223372036854775808≤n)(h2:n<9223372036854775808):Wi n=n:=by unfold Wi;rw[IntKind.wrap_i64];omega
def elI:El Pr ZS zp 1 8 (I 0):=Gj (by kernel_rfl) (by kernel_rfl) rfl (by decide)
def eI(n:Int):List Value:=[I n]
def YI:Enc eI 1:=⟨λ_=>rfl,λ_=>rfl,by decide⟩
def WP(p0 p1:Int)(h:0<p1):Int.tmod p0 p1=if 0≤p0∨p1∣p0 then p0%p1 else p0%p1-p1:=by
 rw[Int.tmod_eq_emod];split
 ·simp
 ·omega
end Go.Proofs.YtimahgbgejngiaaGreatDoor
namespace Go.Proofs.YtimahgbgejngiaaGreatDoor
open Go.Dm
attribute [local irreducible] L.load L.store L.chk L.new L.nonnil L.guard L.ite L.draw L.idx L.sem L.semR L.semU L.chkSem L.next L.call L.callV L.join L.alts L.loop L.begin L.endRound L.range
variable {w0 w:World}{E:List Seg}
def vK(b:UInt8):Bool:=decide (97≤b.toNat∧b.toNat≤122)
def mT(b:UInt8):Bool:=vK b||decide (48≤b.toNat∧b.toNat≤57)||decide (b.toNat=45)
def ZZ(l:List UInt8)(most:Int):Bool:=l.all mT&&(l.head?.map vK).getD false&&(match l.getLast? with | some b=>decide (b.toNat≠45) | none=>false)&&decide ((l.length:Int)≤most)
abbrev J(n:Int):Value:=.int .i32 n
def LR{c:Int}{k:Bool→PT}(hk:k (decide (97≤c∧c≤122)) w):L.call Pr Ur [J c] (.one (.one .bool)) k w:=by
 refine za (DS _) ?_;unfold Ff;refine it (λh=>?_) (λh=>?_)<;>(try simp only[zB]at h)
 ·refine⟨_,rfl,?_⟩;have e:decide (97≤c∧c≤122)=decide (c≤122):=by by_cases h2:c≤122<;>simp[h2];omega
  rw[e]at hk;exact hk
 ·refine⟨false,rfl,?_⟩;have e:decide (97≤c∧c≤122)=false:=decide_eq_false (by omega);rw[e]at hk;exact hk
def eN{c:Int}{k:Bool→PT}(hk:k (decide (97≤c∧c≤122)||decide (48≤c∧c≤57)||decide (c=45)) w):L.call Pr gG [J c] (.one (.one .bool)) k w:=by
 refine za (WE _) ?_;unfold tc;refine LR ?_;refine it (λh=>?_) (λh=>?_)<;>(try simp only[zB]at h)
 ·refine⟨true,rfl,?_⟩;rw[decide_eq_true h]at hk;exact hk
 ·rw[decide_eq_false h,Bool.false_or]at hk;have e45:(c == 45)=decide (c=45):=by by_cases h:c=45<;>simp[h]
  refine it (λh1=>?_) (λh1=>?_)<;>(try simp only[zB]at h1)
  ·refine it (λh2=>?_) (λh2=>?_)<;>(try simp only[zB]at h2)
   ·refine⟨true,rfl,?_⟩;rw[decide_eq_true ⟨by omega,h2⟩]at hk;exact hk
   ·refine⟨_,rfl,?_⟩;rw[decide_eq_false (λhh=>h2 hh.2),Bool.false_or]at hk;rw[e45];exact hk
  ·refine⟨_,rfl,?_⟩;rw[decide_eq_false (λhh=>by omega),Bool.false_or]at hk;rw[e45];exact hk
def AH(b:UInt8):(decide (97≤(b.toNat:Int)∧(b.toNat:Int)≤122)||decide (48≤(b.toNat:Int)∧(b.toNat:Int)≤57)||decide ((b.toNat:Int)=45))=mT b:=by
 unfold mT vK
 congr 1
 ·congr 1<;>(apply decide_eq_decide.2;omega)
 ·apply decide_eq_decide.2;omega
def It{s:B0}{pos:Nat}(hp:pos<s.size):s.data.toList[pos]? = some (s[pos]'hp):=by
 have:pos<s.data.toList.length:=by simpa using hp
 rw[List.getElem?_eq_getElem this];simp[ByteArray.getElem_eq_getElem_data]
def BC(h:St w0 E w)(und:Pr.underlying zc=some .string){s:B0}{most:Int}{k:Bool→PT}(hk:∀w',St w0 E w'→k (ZZ s.data.toList most) w'):L.call Pr vG [.string s,I most] (.one (.one .bool)) k w:=by
 refine za (nK _ _) ?_;unfold Mr;refine sG und h λr w h=>?_;have hsz:s.data.toList.length=s.size:=by simp
 generalize hl:s.data.toList=l at hk hsz
 refine zX (λq y w=>∃pos:Nat,y=((if pos=0 then(45:Int)else((l[pos-1]?).map λb=>(b.toNat:Int)).getD 0),())∧q+pos=s.size∧(l.take pos).all mT=true∧(0<pos→(l.head?.map vK).getD false=true)∧St w0 (ItS r s pos::E) w) s.size
  ⟨0,rfl,rfl,rfl,by simp,h⟩ ?_
 clear h;rintro q y w ⟨pos,rfl,hq,hall,hhd,h⟩ again hag;dsimp only;have no:∀{w},ZZ l most=false→St w0 E w→∃x,Value.bool false=RT.val (.one (.one .bool)) x∧k x w:=λhs h=>⟨false,rfl,by have:=hk _ h;rw[hs]at this;exact this⟩;refine Hd h 0 rfl (λhe=>?_) (λhp c d w' ha hh hd h=>?_)
 ·have hpos:pos=l.length:=by omega
  subst hpos;rw[List.take_length]at hall;replace h:=zj h
  cases hgl:l.getLast? with
  | none=>
   have:l = []:=List.getLast?_eq_none_iff.1 hgl;have hs:ZZ l most=false:=by rw[this];rfl
   rw[if_pos (by rw[this];rfl)];exact itF rfl (no hs h)
  | some b=>
   have hne:l≠[]:=λe=>by subst e;cases hgl
   have hlen:l.length≠0:=λe=>hne (List.eq_nil_of_length_eq_zero e);have hx:l[l.length-1]? = some b:=by rw[←List.getLast?_eq_getElem?];exact hgl
   rw[if_neg hlen,hx];have hsb:ZZ l most=(decide (b.toNat≠45)&&decide ((l.length:Int)≤most)):=by
    unfold ZZ;rw[hall,hhd (by omega),hgl];simp
   simp only[Option.map_some,Option.getD_some];refine it (λh45=>?_) (λh45=>?_)<;>(try simp only[zB]at h45)
   ·refine⟨_,rfl,?_⟩;have:=hk _ h;rw[hsb,decide_eq_true (show b.toNat≠45 by omega),Bool.true_and,hsz]at this;exact this
   ·refine no ?_ h;rw[hsb,decide_eq_false (show ¬b.toNat≠45 by omega)];rfl
 ·have hx:l[pos]? = some (s[pos]'hp):=by rw[←hl];exact It hp
  generalize s[pos]'hp=b at hx ha hh;have hmem:b∈l:=List.mem_of_getElem? hx;have hno:mT b=false→ZZ l most=false:=λhs=>by
   unfold ZZ;have:l.all mT=false:=by
    rw[List.all_eq_false];exact⟨b,hmem,by simp[hs]⟩
   rw[this];rfl
  by_cases hb:b.toNat<128
  ·obtain⟨rfl,rfl⟩:=ha hb;have h:St w0 (ItS r s (pos+1)::E) w':=h;refine ZC (λz w=>(0<pos+1→(l.head?.map vK).getD false=true)∧mT b=true∧St w0 (ItS r s (pos+1)::E) w) (λk5 hk5=>?_) (λz w ⟨hhd,hs,h⟩=>?_)
   ·refine eN ?_;rw[AH];refine it (λhs=>?_) (λhs=>?_)
    ·exact no (hno (by simpa using hs)) (zj h)
    ·have hs:mT b=true:=by simpa using hs
     refine it (λh0=>?_) (λh0=>?_)
     ·have h0:pos=0:=by simpa using h0
      subst h0;have hhead:l.head? = some b:=by rw[List.head?_eq_getElem?];exact hx
      have el:decide (97≤(b.toNat:Int)∧(b.toNat:Int)≤122)=vK b:=by unfold vK;apply decide_eq_decide.2;omega
      refine LR ?_;rw[el];refine it (λhlt=>?_) (λhlt=>?_)
      ·refine no ?_ (zj h);have hlt:vK b=false:=by simpa using hlt
       unfold ZZ;rw[hhead];simp[hlt]
      ·have hlt:vK b=true:=by simpa using hlt
       exact hk5 _ _ ⟨λ_=>by rw[hhead];exact hlt,hs,h⟩
     ·have h0:pos≠0:=by simpa using h0
      exact hk5 _ _ ⟨λ_=>hhd (by omega),hs,h⟩
   ·refine hag (q-1) _ w (by omega) ⟨pos+1,?_,by omega,?_,hhd,h⟩
    ·rw[if_neg (by omega),Nat.add_sub_cancel,hx];rfl
    ·rw[List.take_add_one,hx,List.all_append,hall];simp[hs]
  ·have hc:=hh (by omega);have hs:mT b=false:=by
    unfold mT vK;rw[decide_eq_false (show ¬(97≤b.toNat∧b.toNat≤122)by omega),decide_eq_false (show ¬(48≤b.toNat∧b.toNat≤57)by omega),decide_eq_false (show ¬b.toNat=45 by omega)];rfl
   refine ZC (λz w=>False) (λk5 hk5=>?_) (λz w hf=>hf.elim);refine eN ?_;rw[decide_eq_false (show ¬(97≤c∧c≤122)by omega),decide_eq_false (show ¬(48≤c∧c≤57)by omega),decide_eq_false (show ¬c=45 by omega)];exact itT rfl (no (hno hs) (zj h))
def Tn(h:St w0 E w)(und:Pr.underlying zc=some .string){s:B0}{k:Bool→PT}(hk:∀w',St w0 E w'→k (ZZ s.data.toList 16) w'):L.call Pr Xk [.string s] (.one (.one .bool)) k w:=by
 refine za (WF _) ?_;unfold th;exact BC h und λw h=>⟨_,rfl,hk w h⟩
end Go.Proofs.YtimahgbgejngiaaGreatDoor

namespace Go.Proofs
open Go.Shelf
def Tryz.lays171_ren:Go.Shelf.Ren:=⟨fun | 171=>72 | 243=>133 | 246=>208 | 283=>264 | 284=>265 | 285=>266 | 286=>267 | 129=>254 | 317=>301 | 318=>302 | 319=>303 | 320=>304 | 337=>316 | 338=>317 | n=>n,fun | 3=>3 | 9=>9 | 2=>2 | 4=>4 | 171=>421 | 0=>0 | 53=>412 | 37=>48 | 5=>5 | 173=>423 | 212=>456 | 51=>410 | 20=>20 | 213=>457 | 46=>349 | 232=>481 | 233=>482 | n=>n,fun | 17=>1 | 18=>4 | 19=>5 | n=>n⟩
def Tryz.lays171:Go.Proofs.Lays.n171 Tryz.prog Tryz.lays171_ren:={
 mixed:=by kernel_rfl
 f129:=Tryz.func254.trans cS
 f171:=Tryz.func72.trans cS
 f243:=Tryz.func133.trans cS
 f246:=Tryz.func208.trans cS
 f283:=Tryz.func264.trans cS
 f284:=Tryz.func265.trans cS
 f285:=Tryz.func266.trans cS
 f286:=Tryz.func267.trans cS
 f317:=Tryz.func301.trans cS
 f318:=Tryz.func302.trans cS
 f319:=Tryz.func303.trans cS
 f320:=Tryz.func304.trans cS
 f337:=Tryz.func316.trans cS
 f338:=Tryz.func317.trans cS
 t0:=Tryz.underlying0
 a0:=Tryz.isAgg0
 z0:=Tryz.sizeOf0
 v0:=Tryz.zeroValue0
 t2:=Tryz.underlying2
 a2:=Tryz.isAgg2
 z2:=Tryz.sizeOf2
 v2:=Tryz.zeroValue2
 t3:=Tryz.underlying3
 a3:=Tryz.isAgg3
 z3:=Tryz.sizeOf3
 v3:=Tryz.zeroValue3
 t4:=Tryz.underlying4
 a4:=Tryz.isAgg4
 z4:=Tryz.sizeOf4
 v4:=Tryz.zeroValue4
 t5:=Tryz.underlying5
 a5:=Tryz.isAgg5
 z5:=Tryz.sizeOf5
 v5:=Tryz.zeroValue5
 t9:=Tryz.underlying9
 a9:=Tryz.isAgg9
 z9:=Tryz.sizeOf9
 v9:=Tryz.zeroValue9
 t20:=Tryz.underlying20
 a20:=Tryz.isAgg20
 z20:=Tryz.sizeOf20
 v20:=Tryz.zeroValue20
 t37:=Tryz.underlying48
 a37:=Tryz.isAgg48
 z37:=Tryz.sizeOf48
 v37:=Tryz.zeroValue48
 t46:=Tryz.underlying349
 a46:=Tryz.isAgg349
 z46:=Tryz.sizeOf349
 v46:=Tryz.zeroValue349
 t51:=Tryz.underlying410
 a51:=Tryz.isAgg410
 z51:=Tryz.sizeOf410
 v51:=Tryz.zeroValue410
 t53:=Tryz.underlying412
 a53:=Tryz.isAgg412
 z53:=Tryz.sizeOf412
 v53:=Tryz.zeroValue412
 t171:=Tryz.underlying421
 a171:=Tryz.isAgg421
 z171:=Tryz.sizeOf421
 v171:=Tryz.zeroValue421
 t173:=Tryz.underlying423
 a173:=Tryz.isAgg423
 z173:=Tryz.sizeOf423
 v173:=Tryz.zeroValue423
 t212:=Tryz.underlying456
 a212:=Tryz.isAgg456
 z212:=Tryz.sizeOf456
 v212:=Tryz.zeroValue456
 t213:=Tryz.underlying457
 a213:=Tryz.isAgg457
 z213:=Tryz.sizeOf457
 t232:=Tryz.underlying481
 a232:=Tryz.isAgg481
 z232:=Tryz.sizeOf481
 v232:=Tryz.zeroValue481
 t233:=Tryz.underlying482
 a233:=Tryz.isAgg482
 z233:=Tryz.sizeOf482
 v233:=Tryz.zeroValue482
 g17:=by kernel_rfl
 g18:=by kernel_rfl
 g19:=by kernel_rfl }
open Go.RowKit Go.Sort Go.Lib in
def Tryz.strconv_Itoa_small(i:Nat)(hi:i<100)(w:World) :
  Calls Tryz.prog 72 #[.int .i64 i] w λe w'=>e = .returned (.string ⟨(Lib.decDigits i).toArray⟩)∧w'=w:=Any.strconv_Itoa_small Tryz.lays171 i hi w
def Tryz.lays148_ren:Go.Shelf.Ren:=⟨fun | 148=>202 | 222=>259 | 223=>260 | 269=>295 | n=>n,fun | 9=>9 | 3=>3 | 4=>4 | 5=>5 | 146=>447 | 51=>410 | 46=>349 | n=>n,fun | n=>n⟩
def Tryz.lays148:Go.Proofs.Lays.n148 Tryz.prog Tryz.lays148_ren:={
 mixed:=by kernel_rfl
 f148:=Tryz.func202.trans cS
 f222:=Tryz.func259.trans cS
 f223:=Tryz.func260.trans cS
 f269:=Tryz.func295.trans cS
 t3:=Tryz.underlying3
 a3:=Tryz.isAgg3
 z3:=Tryz.sizeOf3
 v3:=Tryz.zeroValue3
 t4:=Tryz.underlying4
 a4:=Tryz.isAgg4
 z4:=Tryz.sizeOf4
 v4:=Tryz.zeroValue4
 t5:=Tryz.underlying5
 a5:=Tryz.isAgg5
 z5:=Tryz.sizeOf5
 v5:=Tryz.zeroValue5
 t9:=Tryz.underlying9
 a9:=Tryz.isAgg9
 z9:=Tryz.sizeOf9
 v9:=Tryz.zeroValue9
 t46:=Tryz.underlying349
 a46:=Tryz.isAgg349
 z46:=Tryz.sizeOf349
 v46:=Tryz.zeroValue349
 t51:=Tryz.underlying410
 a51:=Tryz.isAgg410
 z51:=Tryz.sizeOf410
 v51:=Tryz.zeroValue410
 t146:=Tryz.underlying447
 a146:=Tryz.isAgg447
 z146:=Tryz.sizeOf447
 v146:=Tryz.zeroValue447 }
open Go.RowKit Go.Lib in
def Tryz.strings_LastIndex_one(s sub:B0)(h1:sub.size=1)(hs:s.size<4611686018427387904)(w:World) :
  Calls Tryz.prog 202 #[.string s,.string sub] w λe w'=>e = .returned (.int .i64 (Lib.lastIndexByte s ((sub[0]'(by omega)).toNat:Int)))∧w'=w:=Any.strings_LastIndex_one Tryz.lays148 s sub h1 hs w
end Go.Proofs
namespace Go.Proofs.YtimahgbgejngiaaGreatDoor
open Go.Dm
def qE{P:Program}{f:FuncId}{args:List Value}{r:RT}{k:r.T→PT}{w:World}{R:Ending→World→Prop}(hc:Calls P f args.toArray w R)(hk:∀e w',R e w'→∃x,e = .returned (r.val x)∧k x w'):L.call P f args r k w:=Calls.mono hc hk
def _root_.Go.Dm.St.bytes{w0 w:World}{E:List Seg}(h:St w0 E w)(e:TypeId)(s:B0):St w0 E (Lib.bytesWorld w e s):=by
 refine⟨by rw[Lib.bytesWorld_size];have:=h.size;omega,λb hb=>?_,h.os,h.out,h.tape,λx hx=>?_,h.nd,λ_ _ _ _=>rfl⟩
 ·rw[Lib.bytesWorld_at_old w e s b (Nat.lt_of_lt_of_le hb h.size)];exact h.old b hb
 ·have:=h.own x hx;rw[Lib.bytesWorld_at_old w e s _ (Array.getElem?_eq_some_iff.1 this.2).1];exact this
attribute [local irreducible] L.load L.store L.chk L.new L.nonnil L.guard L.ite L.draw L.idx L.sem L.semR L.semU L.chkSem L.next L.call L.callV L.join L.alts L.loop L.begin L.endRound L.range
variable {w0 w:World}{E:List Seg}
def Hw(g:Nat):B0:=⟨(Lib.decDigits g).toArray⟩
def qm(c:B0)(g:Nat):B0:=(c++xJ)++Hw g
def vq(c:B0)(g:Nat):(qm c g).data.toList=c.data.toList++45::Lib.decDigits g:=by
 simp[qm,Hw,xJ,ByteArray.data_append]
def NZ{a b:B0}(h:a.data.toList=b.data.toList):a=b:=ByteArray.ext (Array.toList_inj.1 h)
def data_extract(a:B0)(i j:Nat):(a.extract i j).data.toList=(a.data.toList.drop i).take (j-i):=by
 simp[ByteArray.data_extract,Array.toList_extract,List.extract]
def jl(a:B0):a.data.toList.length=a.size:=by simp
def aV(g:Nat):List UInt8:=if g<10 then [UInt8.ofNat (48+g)]else [UInt8.ofNat (48+g/10),UInt8.ofNat (48+g%10)]
def z03{g:Nat}(h:g<100):Lib.decDigits g=aV g:=by
 unfold aV;split
 ·rename_i h1;exact Lib.decDigits_one h1
 ·rename_i h1;exact Lib.decDigits_two h1 h
def aU:∀g:Fin 100,(∀b∈aV g,48≤b.toNat∧b.toNat≤57)∧(aV g).length≤2∧1≤(aV g).length∧Lib.atoi (aV g)=some (g:Int):=by decide
def z01{g:Nat}(h:g<100):(∀b∈Lib.decDigits g,48≤b.toNat∧b.toNat≤57)∧(Lib.decDigits g).length≤2∧1≤(Lib.decDigits g).length∧Lib.atoi (Lib.decDigits g)=some (g:Int):=by
 rw[z03 h];exact aU ⟨g,h⟩
def ae(c:B0)(g:Nat):(qm c g).extract 0 c.size=c:=NZ (by rw[data_extract,vq,←jl c];simp)
def dj(c:B0){g:Nat}(hg:g<100):(qm c g).size≤c.size+3∧c.size+2≤(qm c g).size:=by
 have hs:=jl (qm c g);rw[vq]at hs;simp only[List.length_append,List.length_cons,jl]at hs;have:=z01 hg;omega
def UW{s:B0}{m:Int}(h:ZZ s.data.toList m=true):(s.size:Int)≤m:=by
 unfold ZZ at h;simp only[Bool.and_eq_true,decide_eq_true_eq,jl]at h;exact h.2
def LU{s:B0}(hs:s.size<4611686018427387904){k:Int→PT}(hk:k (Lib.lastIndexByte s 45) w):L.call Pr Vy [.string s,.string xJ] (.one (.one (.int .i64))) k w:=
 qE (Tryz.strings_LastIndex_one s xJ rfl hs w) λe w' ⟨he,hw⟩=>⟨_,he,by subst hw;exact hk⟩
def z0B{g:Nat}(hg:g<100){k:B0→PT}(hk:k (Hw g) w):L.call Pr xM [I g] (.one (.one .str)) k w:=
 qE (Tryz.strconv_Itoa_small g hg w) λe w' ⟨he,hw⟩=>⟨_,he,by subst hw;exact hk⟩
def Ig(h:St w0 E w)(und:Pr.underlying zc=some .string){s:B0}{k:Bool→PT}(hk:∀w',St w0 E w'→k (ZZ s.data.toList 8) w'):L.call Pr JX [.string s] (.one (.one .bool)) k w:=by
 refine za (rk _) ?_;unfold cN;exact BC h und λw h=>⟨_,rfl,hk w h⟩
def z2C(h:St w0 E w)(und:Pr.underlying zc=some .string){c:B0}{g:Nat}(hc:ZZ c.data.toList 16=true)(h1:1≤g)(hg:g<100){k:B0→PT}(hk:∀w',St w0 E w'→k (qm c g) w'):L.call Pr vT [.string c,I g] (.one (.one .str)) k w:=by
 refine za (cT _ _) ?_;unfold Fg;refine Tn h und λw h=>?_;rw[hc];have hs:=UW hc;have hr:=dj c hg;refine itF rfl (itF (decide_eq_false (by omega)) (itF (decide_eq_false (by omega)) ?_));refine gd ?_ ?_
 ·simp only[xJ,XT];show((c.size+1:Nat):Int)≤_;omega
 refine z0B hg ?_;refine gd ?_ ⟨_,rfl,hk w h⟩;have:((c++xJ).size+(Hw g).size)=(qm c g).size:=by unfold qm;rw[ByteArray.size_append (a:=c++xJ)]
 rw[this];simp only[XT];omega
end Go.Proofs.YtimahgbgejngiaaGreatDoor

namespace Go.Proofs
open Go.Shelf
def Tryz.lays190_ren:Go.Shelf.Ren:=⟨fun | 190=>276 | 125=>186 | 258=>309 | 128=>253 | 129=>254 | 302=>320 | 303=>321 | 304=>322 | 305=>323 | 306=>324 | 307=>325 | 308=>326 | 309=>327 | 310=>328 | 333=>332 | 329=>290 | 330=>291 | 334=>333 | 335=>334 | 336=>335 | 344=>337 | n=>n,fun | 31=>40 | 9=>9 | 3=>3 | 46=>349 | 0=>0 | 51=>410 | 53=>412 | 4=>4 | 183=>403 | 182=>402 | 131=>290 | 5=>5 | 218=>442 | 222=>416 | 228=>462 | 229=>214 | n=>n,fun | n=>n⟩
def Tryz.lays190:Go.Proofs.Lays.n190 Tryz.prog Tryz.lays190_ren:={
 mixed:=by kernel_rfl
 f125:=Tryz.func186.trans cS
 f128:=Tryz.func253.trans cS
 f129:=Tryz.func254.trans cS
 f190:=Tryz.func276.trans cS
 f258:=Tryz.func309.trans cS
 f302:=Tryz.func320.trans cS
 f303:=Tryz.func321.trans cS
 f304:=Tryz.func322.trans cS
 f305:=Tryz.func323.trans cS
 f306:=Tryz.func324.trans cS
 f307:=Tryz.func325.trans cS
 f308:=Tryz.func326.trans cS
 f309:=Tryz.func327.trans cS
 f310:=Tryz.func328.trans cS
 f329:=Tryz.func290.trans cS
 f330:=Tryz.func291.trans cS
 f333:=Tryz.func332.trans cS
 f334:=Tryz.func333.trans cS
 f335:=Tryz.func334.trans cS
 f336:=Tryz.func335.trans cS
 f344:=Tryz.func337.trans cS
 t0:=Tryz.underlying0
 a0:=Tryz.isAgg0
 z0:=Tryz.sizeOf0
 v0:=Tryz.zeroValue0
 t3:=Tryz.underlying3
 a3:=Tryz.isAgg3
 z3:=Tryz.sizeOf3
 v3:=Tryz.zeroValue3
 t4:=Tryz.underlying4
 a4:=Tryz.isAgg4
 z4:=Tryz.sizeOf4
 v4:=Tryz.zeroValue4
 t5:=Tryz.underlying5
 a5:=Tryz.isAgg5
 z5:=Tryz.sizeOf5
 v5:=Tryz.zeroValue5
 t9:=Tryz.underlying9
 a9:=Tryz.isAgg9
 z9:=Tryz.sizeOf9
 v9:=Tryz.zeroValue9
 t31:=Tryz.underlying40
 a31:=Tryz.isAgg40
 z31:=Tryz.sizeOf40
 v31:=Tryz.zeroValue40
 t46:=Tryz.underlying349
 a46:=Tryz.isAgg349
 z46:=Tryz.sizeOf349
 v46:=Tryz.zeroValue349
 t51:=Tryz.underlying410
 a51:=Tryz.isAgg410
 z51:=Tryz.sizeOf410
 v51:=Tryz.zeroValue410
 t53:=Tryz.underlying412
 a53:=Tryz.isAgg412
 z53:=Tryz.sizeOf412
 v53:=Tryz.zeroValue412
 t131:=Tryz.underlying290
 a131:=Tryz.isAgg290
 z131:=Tryz.sizeOf290
 v131:=Tryz.zeroValue290
 t182:=Tryz.underlying402
 a182:=Tryz.isAgg402
 z182:=Tryz.sizeOf402
 v182:=Tryz.zeroValue402
 t183:=Tryz.underlying403
 a183:=Tryz.isAgg403
 z183:=Tryz.sizeOf403
 v183:=Tryz.zeroValue403
 t218:=Tryz.underlying442
 a218:=Tryz.isAgg442
 z218:=Tryz.sizeOf442
 v218:=Tryz.zeroValue442
 t222:=Tryz.underlying416
 a222:=Tryz.isAgg416
 z222:=Tryz.sizeOf416
 v222:=Tryz.zeroValue416
 t228:=Tryz.underlying462
 a228:=Tryz.isAgg462
 z228:=Tryz.sizeOf462
 v228:=Tryz.zeroValue462
 t229:=Tryz.underlying214
 a229:=Tryz.isAgg214
 z229:=Tryz.sizeOf214
 v229:=Tryz.zeroValue214 }
end Go.Proofs
namespace Go.Proofs.YtimahgbgejngiaaGreatDoor
open Go.Dm
attribute [local irreducible] L.load L.store L.chk L.new L.nonnil L.guard L.ite L.draw L.idx L.sem L.semR L.semU L.chkSem L.next L.call L.callV L.join L.alts L.loop L.begin L.endRound L.range
variable {w0 w:World}{E:List Seg}
def eS(x:B0):List Value:=[.string x]
def yu:Enc eS 1:=⟨λ_=>rfl,λ_=>rfl,by decide⟩
def elS:El Pr zm zc 1 16 (.string s_):=Gj (by kernel_rfl) (by kernel_rfl) rfl (by decide)
abbrev bl(x:B0):List UInt8:=x.data.toList
def ble(a b:B0):Bool:=decide (bl a≤bl b)
def wa(a b c:B0)(h1:ble a b=true)(h2:ble b c=true):ble a c=true:=by
 unfold ble at *;simp only[decide_eq_true_eq]at *;exact List.le_trans h1 h2
def wb(a b:B0):(ble a b||ble b a)=true:=by
 unfold ble;simp only[Bool.or_eq_true,decide_eq_true_eq];exact List.le_total ..
def ef{a b:B0}(h1:ble a b=true)(h2:ble b a=true):a=b:=by
 unfold ble at *;simp only[decide_eq_true_eq]at *;exact bR (List.le_antisymm h1 h2)
def BT(x:B0):List B0→List B0
 | []=>[x]
 | y::l=>if ble x y=true then x::y::l else y::BT x l
def yR:List B0→List B0
 | []=>[]
 | x::l=>BT x (yR l)
def tK(x:B0):∀l:List B0,(BT x l).Perm (x::l)
 | []=>.refl _
 | y::l=>by
  unfold BT;split
  ·exact .refl _
  ·exact((tK x l).cons y).trans (.swap x y l)
def UU:∀l:List B0,(yR l).Perm l
 | []=>.refl _
 | x::l=>(tK x (yR l)).trans ((UU l).cons x)
def bT(x:B0):∀{l:List B0},l.Pairwise (λa b=>ble a b=true)→(BT x l).Pairwise λa b=>ble a b=true
 | [],_=>List.pairwise_singleton ..
 | y::l,h=>by
  unfold BT;split
  ·rename_i hxy;refine List.Pairwise.cons (λz hz=>?_) h;rcases List.mem_cons.1 hz with rfl | hz
   ·exact hxy
   ·exact wa _ _ _ hxy ((List.pairwise_cons.1 h).1 z hz)
  ·rename_i hxy;have hyx:ble y x=true:=by
    have:=wb x y;simp only[Bool.or_eq_true]at this;rcases this with h | h
    ·exact absurd h hxy
    ·exact h
   refine List.Pairwise.cons (λz hz=>?_) (bT x (List.pairwise_cons.1 h).2);rcases List.mem_cons.1 ((tK x l).mem_iff.1 hz)with rfl | hz
   ·exact hyx
   ·exact(List.pairwise_cons.1 h).1 z hz
def CW:∀l:List B0,(yR l).Pairwise λa b=>ble a b=true
 | []=>.nil
 | x::l=>bT x (CW l)
def WV{l m:List B0}(h:l.Perm m)(hm:m.Pairwise λa b=>ble a b=true):yR l=m:=
 List.Perm.eq_of_pairwise (λa b _ _ h1 h2=>ef h1 h2) (CW l) hm ((UU l).trans h)
def AF{l m:List B0}(h:l.Perm m):yR l=yR m:=WV (h.trans (UU m).symm) (CW m)
def jk(l:List B0):(yR l).length=l.length:=(UU l).length_eq
def UV{l:List B0}{x:B0}:x∈yR l↔x∈l:=(UU l).mem_iff
def eL(x:List UInt8):List Value:=[Go.Proofs.encStr x]
def Hq:Enc eL 1:=⟨λ_=>rfl,λ_=>rfl,by decide⟩
def SJ(l:List B0):fl eS l=fl eL (l.map bl):=by
 induction l with
 | nil=>rfl
 | cons x l ih=>
  simp only[fl,List.flatMap_cons,List.map_cons]at *
  rw[ih];rfl
def AG(l:List B0):(yR l).map bl=(l.map bl).mergeSort λx y=>decide (x≤y):=by
 have e:l.mergeSort ble=yR l:=by
  refine(WV (List.mergeSort_perm l ble).symm ?_).symm;exact List.pairwise_mergeSort wa wb l
 rw[←e];exact List.map_mergeSort λa _ b _=>rfl
def BL(h:St w0 E w)(i:Nat){s:Seg}(hi:nth E i=some s){v:Sl}{l:List B0}(hr:Rw eS zc 1 v l s)(hn:l.length<1000000000){k:Unit→PT}(hk:∀s' w',Rw eS zc 1 v (yR l) s'→St w0 (zd E i s') w'→k () w') :
  L.call Pr jZ [.slice v.a v.len v.cap] (.tup []) k w:=by
 have hr:Rw eL zc 1 v (l.map bl) s:=by unfold Rw at *;rwa [←SJ]
 refine bS (encv:=Go.Proofs.encStr) (λ_=>rfl) Hq ((yR l).map bl) (by rw[List.length_map,List.length_map,jk]) (λg off cap w h1 h2=>?_) (λp cap w=>Any.slices_Sort_string_none Tryz.lays190 p cap w) h i hi hr (λs' w' hr' h=>hk s' w' (by unfold Rw at *;rwa [SJ]) h);have:=Any.slices_Sort_string Tryz.lays190 g off cap (l.map bl) w h1 h2 (by rw[List.length_map];omega);rw[AG];exact this
def Wq{a1 a2:Seg}{F:List Seg}{fv:FV}{keys:List B0}(hY:Ds Pr w0 [a1,a2] fv.val keys Value.string)(h:St w0 (a1::a2::F) w)(hn:keys.length<1000000000){k:Sl→PT}
  (hk:∀seen v s w',seen.Perm keys→Rw eS zc 1 v seen s→St w0 (s::a1::a2::F) w'→k v w'):L.call Pr YQ [.slice none 0 0,fv.val] (.one (.one .slice)) k w:=by
 refine za (UD ⟨none,0,0⟩ fv) ?_;unfold xg;refine nw h ?_;clear h;intro b1 w h;have h:=Zm (Zm h);have h:St w0 ([a1,a2]++[Cl b1 zm [SlV ⟨none,0,0⟩]]::[]::F) w:=h.eq (by simp);refine Nt (l:=.str) (arg:=λx=>x) (A:=[a1,a2]) (keys:=keys) hY h (λseen G=>∃v s,G = [Cl b1 zm [SlV v]]::s::F∧Rw eS zc 1 v seen s) (λj G=>False) ⟨_,_,rfl,Rw.nil⟩ ?_ ?_ ?_
 ·rintro seen x G X w lv lp d R hm ⟨v,s,rfl,hr⟩ h hN hE;have h:St w0 ([Rec lv lp .busy none]::[DfM d]::a1::a2::[Cl b1 zm [SlV v]]::s::(F++X)) w:=h
  (refine ldC h ?_)
  refine nw h ?_;clear h;intro b8 w h;refine Rw.app yu elS h 5 rfl hr x rfl (by omega) (by omega) λv' s' w hr' h=>?_
  (dsimp only[zd,List.cons_append,List.nil_append]at h;refine stC h ?_;clear h;intro w h;dsimp only[zE,zd]at h)
  exact hN _ w ⟨v',s',rfl,hr'⟩ h
 ·rintro d seen G w hp ⟨v,s,rfl,hr⟩ h;have h:St w0 ([DfM d]::a1::a2::[Cl b1 zm [SlV v]]::s::F) w:=h;refine VA ?_
  (refine ldC h ?_)
  (first | refine gu h ?_ | refine gq h ?_ | refine gp h ?_ | refine gm h ?_ | refine gk h ?_ | refine gj h ?_ | refine gi h ?_ | refine gh h ?_ | refine gg h ?_ | refine gf h ?_ | refine Ua h ?_ | refine uZ h ?_);clear h;intro w h
  refine⟨v,rfl,hk seen v s w hp hr ?_⟩;have h:=Ys (yL (yL h));have h:=Qj h;exact h
 ·rintro d j G w hf;exact hf.elim
def vL{a1 a2:Seg}{F:List Seg}{fv:FV}{keys:List B0}(hY:Ds Pr w0 [a1,a2] fv.val keys Value.string)(h:St w0 (a1::a2::F) w)(hn:keys.length<1000000000){k:Sl→PT}
  (hk:∀v s w',Rw eS zc 1 v (yR keys) s→St w0 (s::a2::F) w'→k v w'):L.call Pr ZM [fv.val] (.one (.one .slice)) k w:=by
 refine za (gV fv) ?_;unfold Uy;refine za (OR fv) ?_;unfold uN;refine Wq hY h hn λseen v s w hp hr h=>⟨v,rfl,?_⟩;refine BL h 0 rfl hr (by rw[hp.length_eq];exact hn) λs w hr h=>?_;rw[AF hp]at hr;exact⟨v,rfl,hk v s w hr (yw h)⟩
def LV(h:St w0 E w){v:Sl}{l:List B0}(r:Rd w eS v l)(hn:l.length<1000000000)(h0:v.a=none→l = []){k:Sl→PT}
  (hk:∀v' s' w',Rw eS zc 1 v' l s'→(v'.a=none↔v.a=none)→St w0 (s'::E) w'→k v' w'):L.call Pr ZX [SlV v] (.one (.one .slice)) k w:=by
 refine za (XI v) ?_;unfold jP;exact qD (K:=λv w'=>∃x,v=RT.val (.one (.one .slice)) x∧k x w') yu elS h r (by omega) (by omega) h0 λv' s' w' hr hi h=>⟨v',rfl,hk v' s' w' hr hi h⟩
def Rw.nil0{α:Type}{enc:α→List Value}{e size:Nat}{v:Sl}{l:List α}{s:Seg}(hE:Enc enc size)(hr:Rw enc e size v l s):v.a=none→l = []:=by
 intro h0;have hl:=Rw.len hE hr;unfold Rw at hr;generalize fl enc l=xs at hr
 cases hr with
 | nil=>exact List.eq_nil_of_length_eq_zero hl.symm
 | mk=>cases h0
def unS:Value→B0
 | .string x=>x
 | _=>s_
def uX:Pr.underlying zc=some .string:=by kernel_rfl
def vu(h:St w0 E w){a b n:Int}{k:Bool→PT}(hk:∀w',St w0 E w'→k (decide (a≤n∧n≤b)) w'):L.call Pr ye [.agg #[I a,I b],I n] (.one (.one .bool)) k w:=by
 refine za (Gv (a,b,()) n) ?_;unfold Vq;refine nw h ?_;clear h;intro b1 w h
 (dsimp only[zd,List.cons_append,List.nil_append]at h;refine ldC h ?_)
 refine it (λh1=>?_) (λh1=>?_)<;>(try simp only[zB]at h1)
 ·(refine ldC h ?_)
  refine⟨_,rfl,?_⟩;have:=hk w (zj h);have e:decide (a≤n∧n≤b)=decide (n≤b):=decide_eq_decide.2 ⟨λh=>h.2,λh=>⟨by omega,h⟩⟩;rw[e]at this;exact this
 ·refine⟨_,rfl,?_⟩;have:=hk w (zj h);rw[decide_eq_false (λh=>h1 (by omega))]at this;exact this
abbrev Cfg:=HT [.str,.int .i64,.int .i64,.int .i64,.int .i64,.int .i64]
abbrev Cfg.cells(c:Cfg):List Value:=[.string c.1,I c.2.1,I c.2.2.1,I c.2.2.2.1,I c.2.2.2.2.1,I c.2.2.2.2.2.1]
def fP(c:Cfg):Bool:=decide (0≤c.2.1∧c.2.1≤255)&&(decide (1≤c.2.2.1∧c.2.2.1≤8)&&(decide (1≤c.2.2.2.2.1∧c.2.2.2.2.1≤10)&&(decide (0≤c.2.2.2.1∧c.2.2.2.1≤c.2.2.2.2.1)&&decide (0≤c.2.2.2.2.2.1∧c.2.2.2.2.2.1≤30))))
def UG(c:Cfg):Int:=if ZZ c.1.data.toList 16=true then(if fP c=true then 0 else 2)else 1
def BB(h:St w0 E w){c:Cfg}{k:Int→PT}(hk:∀w',St w0 E w'→k (UG c) w'):L.call Pr zW [.agg (Cfg.cells c).toArray] (.one (.one (.int .i64))) k w:=by
 obtain⟨nm,im,co,mi,ma,gr,⟨⟩⟩:=c;refine za (nD (nm,im,co,mi,ma,gr,())) ?_;unfold Mk;refine nw h ?_;clear h;intro b1 w h
 (dsimp only[zd,List.cons_append,List.nil_append]at h;refine ldC h ?_)
 refine Tn h uX λw h=>?_;refine it (λhn=>?_) (λhn=>?_)<;>(try simp only[zB]at hn)
 ·refine⟨_,rfl,?_⟩;have:=hk w (zj h);have e:UG (nm,im,co,mi,ma,gr,())=1:=if_neg (by simp[hn]);rw[e]at this;exact this
 refine ZC (λz w=>z=(!fP (nm,im,co,mi,ma,gr,()),())∧St w0 ([Cl b1 zF (Cfg.cells (nm,im,co,mi,ma,gr,()))]::E) w) (λk4 hk4=>?_) (λz w ⟨hz,h⟩=>?_)
 ·(refine ldC h ?_)
  refine vu h λw h=>?_;refine it (λh1=>hk4 _ w ⟨by unfold fP;simp only[Bool.not_eq_true']at h1;simp only[h1,Bool.false_and],h⟩) (λh1=>?_);simp only[Bool.not_eq_false']at h1
  (refine ldC h ?_)
  refine vu h λw h=>?_;refine it (λh2=>hk4 _ w ⟨by unfold fP;simp only[Bool.not_eq_true']at h2;simp only[h1,h2,Bool.false_and,Bool.and_false],h⟩) (λh2=>?_);simp only[Bool.not_eq_false']at h2
  (refine ldC h ?_)
  refine vu h λw h=>?_;refine it (λh3=>hk4 _ w ⟨by unfold fP;simp only[Bool.not_eq_true']at h3;simp only[h1,h2,h3,Bool.false_and,Bool.and_false],h⟩) (λh3=>?_);simp only[Bool.not_eq_false']at h3
  (refine ldC h ?_;refine ldC h ?_)
  refine vu h λw h=>?_;refine it (λh4=>hk4 _ w ⟨by unfold fP;simp only[Bool.not_eq_true']at h4;simp only[h1,h2,h3,h4,Bool.false_and,Bool.and_false],h⟩) (λh4=>?_);simp only[Bool.not_eq_false']at h4
  (refine ldC h ?_)
  refine vu h λw h=>?_;exact hk4 _ w ⟨by unfold fP;simp only[h1,h2,h3,h4,Bool.true_and],h⟩
 ·subst hz;dsimp only;have hn:ZZ nm.data.toList 16=true:=by simpa using hn
  refine it (λhc=>?_) (λhc=>?_)<;>(try simp only[zB]at hc)
  ·refine⟨_,rfl,?_⟩;have:=hk w (zj h);have e:UG (nm,im,co,mi,ma,gr,())=2:=by unfold UG;rw[if_pos hn,if_neg (by simp[hc])]
   rw[e]at this;exact this
  ·refine⟨_,rfl,?_⟩;have:=hk w (zj h);have e:UG (nm,im,co,mi,ma,gr,())=0:=by unfold UG;rw[if_pos hn,if_pos (by simpa using hc)]
   rw[e]at this;exact this
end Go.Proofs.YtimahgbgejngiaaGreatDoor
namespace Go.Dm
class Tab(P:Program)(w:World):Prop where
 is : Lib.TabIs P w "internal/strconv.uint64pow10" .u64 Lib.pow10Tab
section
variable {w0 w:World}{E:List Seg}{P:Program}
def St.var(h:St w0 E w){n:String}{cs:Array Value}(hv:w0.var? P n=some cs):w.var? P n=some cs:=by
 unfold World.var? at *
 cases hg:P.globalNamed n with
 | none=>rw[hg]at hv;cases hv
 | some g=>
  rw[hg]at hv;simp only[Option.bind_some]at hv ⊢
  cases hh:w0.heap[g]? with
  | none=>rw[hh]at hv;cases hv
  | some o=>
   have:=h.old g (Array.getElem?_eq_some_iff.1 hh).1;rw[this];exact hv
def St.tab [T : Tab P w0] (h : St w0 E w) : Lib.TabIs P w "internal/strconv.uint64pow10" .u64 Lib.pow10Tab := h.var T.is
end
def VB(xs:List B0):B0:=⟨(Lib.join (xs.map (·.data.toList)) [32]).toArray⟩
def eo{a b:B0}(h:a.data.toList=b.data.toList):a=b:=ByteArray.ext (Array.toList_inj.1 h)
def gM(xs:List B0):(VB xs).data.toList=Lib.join (xs.map (·.data.toList)) [32]:=by simp[VB]
def aG:VB []=⟨#[]⟩:=rfl
def NH(x:B0):VB [x]=x:=eo (by rw[gM];simp[Lib.join_one])
def aW(g:Nat):(Lib.decDigits g).length≤g+1:=by
 induction g using Nat.strongRecOn with
 | _ g ih=>
  by_cases h:g<10
  ·rw[Lib.decDigits_one h];simp
  ·rw[Lib.decDigits,dif_neg h,List.length_append];have:=ih (g/10) (by omega);simp only[List.length_singleton];omega
def spB:B0:=⟨#[32]⟩
def dY(x y:B0)(xs:List B0):VB (x::y::xs)=(x++spB)++VB (y::xs):=eo (by
 rw[gM];simp only[List.map_cons,Lib.join,List.intercalate,ByteArray.data_append,Array.toList_append,gM];simp[List.intersperse,spB])
def Pz(m:Nat):∀(l:List B0),(∀x∈l,x.size≤m)→(VB l).size≤l.length*(m+1)
 | [],_=>by rw[aG];exact Nat.zero_le _
 | [x],h=>by rw[NH];have:=h x (by simp);simp;omega
 | x::y::l,h=>by
  have h1:=h x (by simp);have h2:=Pz m (y::l) λz hz=>h z (List.mem_cons_of_mem _ hz);have hs:spB.size=1:=rfl;rw[dY,ByteArray.size_append,ByteArray.size_append,hs];simp only[List.length_cons,Nat.add_mul]at h2 ⊢;omega
def jw(g:Nat):B0:=⟨(Lib.decDigits g).toArray⟩
def NY(g:Nat):(jw g).data.toList=Lib.decDigits g:=by simp[jw]
def Wa(g:Nat):(jw g).size≤g+1:=by
 have:=aW g;unfold jw;simpa [ByteArray.size]using this
def Sq(g:Nat):(⟨(Lib.itoa (g:Int)).toArray⟩:B0)=jw g:=by
 unfold Lib.itoa jw;rw[if_neg (by omega)];simp
section
variable {w0 w w':World}{E:List Seg}{P:Program}
def St.below(h:St w0 E w)(hb:RowKit.Below w.heap.size w w'):St w0 E w':=by
 have hlt:∀k,k<w.heap.size→w'.heap[k]? = w.heap[k]? :=hb.block;refine⟨Nat.le_trans h.size hb.size,λb hb'=>?_,hb.os.trans h.os,hb.output.trans h.out,hb.tape.trans h.tape,λx hx=>?_,h.nd,λ_ _ _ _=>rfl⟩
 ·rw[hlt b (Nat.lt_of_lt_of_le hb' h.size)];exact h.old b hb'
 ·have:=h.own x hx;rw[hlt _ (Array.getElem?_eq_some_iff.1 this.2).1];exact this
def eTx(x:B0):List Value:=[.string x]
def Rw.texts{e:TypeId}{s:Seg}(h:St w0 E w)(k:Nat)(hi:nth E k=some s){g n cap off:Nat}{l:List B0}(hE:Enc eTx 1)(hr:Rw eTx e 1 ⟨some ⟨g,off,none⟩,n,cap⟩ l s) :
  (∀(j:Nat) x,l[j]? = some x→w.cell? ⟨g,off+j,none⟩=some (.string x))∧g<w.heap.size:=by
 have hr':=hr;constructor
 ·intro j x hx;have hn:=Kh hE hx (f:=0) (u:=Value.string x) rfl;simp only[Nat.mul_one,Nat.add_zero]at hn;have hc:=hr.cell h k hi rfl hn;rw[ji]at hc;exact hc
 ·unfold Rw at hr';generalize fl eTx l=xs at hr'
  cases hr' with
  | mk g n cap pre xs spare post h1 h2 h3 h4=>exact(Array.getElem?_eq_some_iff.1 (h.at k hi).2).1
def Rw.cka{α:Type}{enc:α→List Value}{e size:Nat}{v:Sl}{l:List α}{s:Seg}(hE:Enc enc size)(h:St w0 E w)(k:Nat)(hi:nth E k=some s)(hr:Rw enc e size v l s){i:Nat}{a:Addr}(ha:ElA v size i a){x:α}(hx:l[i]? = some x){cs:List Value}(hc:enc x=cs){kk:PT}(hk:kk w):L.chk a cs kk w:=by
 subst hc;obtain⟨a0,hv,rfl⟩:=ha;refine⟨λj c hc=>?_,hk⟩;rw[Je];exact hr.cell h k hi hv (Kh hE hx hc)
def Sp{f:FuncId}{e:TypeId}{s:Seg}{v:Sl}{l:List B0}{sep:B0}(hsep:sep=spB)(hE:Enc eTx 1)
  (hc:∀g off cap w,(∀(j:Nat) x,l[j]? = some x→w.cell? ⟨g,off+j,none⟩=some (.string x))→g<w.heap.size→l.length≤cap→Calls P f #[.slice (some ⟨g,off,none⟩) l.length cap,.string sep] w λr w'=>r = .returned (.string ⟨(Lib.join (l.map (·.data.toList)) sep.data.toList).toArray⟩)∧RowKit.Below w.heap.size w w')
  (hc0:∀p cap w,Calls P f #[.slice p 0 cap,.string sep] w λr w'=>r = .returned (.string ⟨#[]⟩)∧w'=w)
  (h:St w0 E w) (k:Nat) (hi:nth E k=some s) (hr:Rw eTx e 1 v l s) {kk:B0→PT} (hk:∀w',St w0 E w'→kk (VB l) w'):L.call P f [.slice v.a v.len v.cap,.string sep] (.one (.one .str)) kk w:=by
 have hlen:=Rw.len hE hr
 cases hl0:l with
 | nil=>
  subst hl0;simp only[List.length_nil]at hlen;rw[hlen];exact(hc0 v.a v.cap w).mono λr w' ⟨h1,h2⟩=>⟨VB [],h1,by subst h2;exact hk _ h⟩
 | cons x l2=>
  have hpos:0<l.length:=by rw[hl0];simp
  have hcap:=hr.cap;obtain⟨va,vn,vc⟩:=v;have:∃g off,va=some ⟨g,off,none⟩:=by
   have hr':=hr;unfold Rw at hr';generalize fl eTx l=xs at hr'
   cases hr' with
   | nil=>simp at hlen;omega
   | mk=>exact⟨_,_,rfl⟩
  obtain⟨g,off,rfl⟩:=this;simp only at hlen hcap;subst hlen;obtain⟨hH,hlt⟩:=Rw.texts h k hi hE hr;refine(hc g off vc w hH hlt hcap.1).mono λr w' ⟨h1,h2⟩=>⟨VB l,?_,hk _ (h.below h2)⟩;rw[h1,hsep];rfl
end
end Go.Dm
namespace Go.Proofs.YtimahgbgejngiaaGreatDoor
open Go.Dm
attribute [local irreducible] L.load L.store L.chk L.new L.nonnil L.guard L.ite L.draw L.idx L.sem L.semR L.semU L.chkSem L.next L.call L.callV L.join L.alts L.loop L.begin L.endRound L.range
variable {w0 w:World}{E:List Seg}
abbrev Rv:=HT [.str,.int .i64,.str,.int .i64,.int .i64,.int .i64,.int .i64,.int .i64]
abbrev eRv:E1:=.agg [.str,.int .i64,.str,.int .i64,.int .i64,.int .i64,.int .i64,.int .i64]
def vRv(t:Rv):Value:=eRv.val t
def Gw:Rv:=(s_,0,s_,0,0,0,0,0,())
abbrev rvC(t:Rv):List Value:=[.string t.1,I t.2.1,.string t.2.2.1,I t.2.2.2.1,I t.2.2.2.2.1,I t.2.2.2.2.2.1,I t.2.2.2.2.2.2.1,I t.2.2.2.2.2.2.2.1]
abbrev Rv.cfg(t:Rv):Cfg:=t.2.2
def su(name:B0)(gen:Int)(c:Cfg):Rv:=(name,gen,c)
structure yH where
 all:List (B0×Rv)
 pv:List (B0×Bool)
structure yH.Ok(a:yH):Prop where
 name:∀p∈a.all,p.2.1=p.1∧p.1≠s_
 few:a.all.length<1000000
def Cu:Pr.underlying zV=some (.map zc zO):=by kernel_rfl
def wv:Pr.underlying Xr=some (.map zc qG):=by kernel_rfl
def uH:MK Pr zc Value.string:=Rt uX
def zrv(w:World):(zeroValue zO).run Pr w = .ok (eRv.val Gw) w:=by
 have h:(Pr.info? zO).map (·.zero)=some (some (.agg #[.string s_,I 0,.string s_,I 0,I 0,I 0,I 0,I 0])):=by kernel_rfl
 cases hi:Pr.info? zO with
 | none=>rw[hi]at h;cases h
 | some i=>rw[hi]at h;simp only[Option.map_some,Option.some.injEq]at h;exact zv hi h w
def iI(w:World):(zeroValue qG).run Pr w = .ok ((E1.one .bool).val false) w:=by
 have h:(Pr.info? qG).map (·.zero)=some (some (.bool false)):=by kernel_rfl
 cases hi:Pr.info? qG with
 | none=>rw[hi]at h;cases h
 | some i=>rw[hi]at h;simp only[Option.map_some,Option.some.injEq]at h;exact zv hi h w
def qF(a:yH)(rev:B0):Rv:=(zA a.all rev).getD Gw
def jt(a:yH)(rev:B0):Bool:=(zA a.all rev).isSome
def xe(a:yH)(rev:B0):Bool:=(zA a.pv rev).getD false
abbrev bkB(b rA rP:Nat):Seg:=[Cl b PP [.map (some rA),.map (some rP)]]
def BkS(b:Nat)(a:yH)(s:Seg):Prop:=a.Ok∧∃rA rP sA sP,MpS Value.string vRv rA a.all sA∧MpS Value.string Value.bool rP a.pv sP∧s=bkB b rA rP++(sA++sP)
def Bd{r:Nat}{m:List (B0×Rv)}{s:Seg}(h:St w0 E w)(i:Nat)(hi:nth E i=some s)(hm:MpS Value.string vRv r m s){n:B0}{kk:eRv.T→PT}(hk:kk ((zA m n).getD Gw) w) :
  L.semR Pr (.one eRv) (Instr.lookup zV (.map (some r)) (.string n) false) kk w:=by
 refine MpS.get uH Cu zrv (λt:Rv=>t) (λ_=>rfl) h i hi hm ?_;have:((zA m n).map λt:Rv=>t).getD Gw=(zA m n).getD Gw:=by cases zA m n<;>rfl
 rw[this];exact hk
def ll{r:Nat}{m:List (B0×Rv)}{s:Seg}(h:St w0 E w)(i:Nat)(hi:nth E i=some s)(hm:MpS Value.string vRv r m s){n:B0}{kk:eRv.T×Bool×Unit→PT}(hk:kk ((zA m n).getD Gw,(zA m n).isSome,()) w) :
  L.semR Pr (.tup [eRv,.one .bool]) (Instr.lookup zV (.map (some r)) (.string n) true) kk w:=by
 refine MpS.get2 uH Cu zrv (λt:Rv=>t) (λ_=>rfl) h i hi hm ?_;have:((zA m n).map λt:Rv=>t).getD Gw=(zA m n).getD Gw:=by cases zA m n<;>rfl
 rw[this];exact hk
def iC(h:St w0 E w){k:Option Addr→PT}(hk:∀b s w',BkS b ⟨[],[]⟩ s→St w0 (s::E) w'→k (some ⟨b,0,none⟩) w'):L.call Pr fx [] (.one (.one .ptr)) k w:=by
 refine za LY ?_;unfold cJ;refine MpS.new h Value.string vRv λr s w hm h=>?_;refine MpS.new h Value.string Value.bool λr2 s2 w hm2 h=>?_;refine nw h ?_;clear h;intro b w h;refine⟨_,rfl,hk b _ w ⟨⟨by simp,by simp⟩,r,r2,s,s2,hm,hm2,rfl⟩ ?_⟩;have h:=Zm (Zm (yL h));exact h.glue3
def gO(h:St w0 E w)(i:Nat){b:Nat}{a:yH}{s:Seg}(hi:nth E i=some s)(hs:BkS b a s){rev:B0}{k:eRv.T×Bool×Unit→PT}(hk:∀w',St w0 E w'→k (qF a rev,jt a rev,()) w') :
  L.call Pr jn [pO b,.string rev] (.tup [eRv,.one .bool]) k w:=by
 obtain⟨ok,rA,rP,sA,sP,hA,hP,rfl⟩:=hs;refine za (Tw _ _) ?_;unfold Oz;have h:=(h.front i hi).split3;refine nw h ?_;clear h;intro b1 w h
 (refine nn ?_;refine ldC h ?_)
 refine ll h 2 rfl hA ?_;unfold qF jt at hk;generalize (zA a.all rev).getD Gw=t at hk;refine nw h ?_;clear h;intro b5 w h
 (refine stC h ?_;clear h;intro w h;dsimp only[zE,zd]at h;refine laC h ?_;refine stC h ?_;clear h;intro w h;dsimp only[zE,zd]at h;refine laC h ?_)
 exact⟨(t,_,()),rfl,hk w (St.again i hi (zj (zj h)).glue3)⟩
def Dz(h:St w0 E w)(i:Nat){b:Nat}{a:yH}{s:Seg}(hi:nth E i=some s)(hs:BkS b a s){rev:B0}{k:Bool→PT}(hk:∀w',St w0 E w'→k (xe a rev) w') :
  L.call Pr Ye [pO b,.string rev] (.one (.one .bool)) k w:=by
 obtain⟨ok,rA,rP,sA,sP,hA,hP,rfl⟩:=hs;refine za (VS _ _) ?_;unfold QE;have h:=(h.front i hi).split3
 (refine nn ?_;refine ldC h ?_)
 refine MpS.get uH wv iI (λt:Bool=>t) (λ_=>rfl) h 2 rfl hP ?_;refine⟨_,rfl,?_⟩;have:((zA a.pv rev).map λt:Bool=>t).getD false=xe a rev:=by unfold xe;cases zA a.pv rev<;>rfl
 rw[this];exact hk w (St.again i hi h.glue3)
def ox(a:yH)(rev:B0):yH×Int:=if jt a rev=true then(⟨a.all,Zp a.pv rev true⟩,0)else(a,6)
def Aq(h:St w0 E w)(i:Nat){b:Nat}{a:yH}{s:Seg}(hi:nth E i=some s)(hs:BkS b a s){rev:B0}{k:Int→PT}(hk:∀s' w',BkS b (ox a rev).1 s'→St w0 (zd E i s') w'→k (ox a rev).2 w') :
  L.call Pr ud [pO b,.string rev] (.one (.one (.int .i64))) k w:=by
 have hs0:=hs;obtain⟨ok,rA,rP,sA,sP,hA,hP,rfl⟩:=hs;refine za (pn _ _) ?_;unfold Kt;unfold ox jt at hk;have h:=(h.front i hi).split3
 (refine nn ?_;refine ldC h ?_)
 refine ll h 1 rfl hA ?_;generalize (zA a.all rev).getD Gw=t at hk;refine nw h ?_;clear h;intro b4 w h
 (refine stC h ?_;clear h;intro w h;dsimp only[zE,zd]at h)
 refine it (λhc=>?_) (λhc=>?_)<;>(try simp only[zB]at hc)
 ·rw[if_neg (by simp[hc])]at hk;exact⟨_,rfl,hk _ w hs0 (St.back i hi (zj h).glue3)⟩
 ·rw[if_pos (by simpa using hc)]at hk
  (refine nn ?_;refine ldC h ?_)
  refine MpS.set uH wv h 3 rfl hP true rfl λsP' w hP' h=>?_;exact⟨_,rfl,hk _ w ⟨⟨ok.name,ok.few⟩,rA,rP,sA,sP',hA,hP',rfl⟩ (St.back i hi (zj h).glue3)⟩
def Xp(a:yH)(c:Cfg)(gen:Nat):yH×B0×Bool:=
 if jt a (qm c.1 gen)=true then(a,qm c.1 gen,false)else(⟨Zp a.all (qm c.1 gen) (su (qm c.1 gen) gen c),a.pv⟩,qm c.1 gen,true)
def ES(c:B0){g:Nat}(hg:g<100):qm c g≠s_:=λe=>by
 have:=dj c hg;rw[e]at this;have h0:s_.size=0:=rfl;omega
def IG(w:World):(do eqGuard .neq zO (.tmp 0) (.tmp 0) (.agg (rvC Gw).toArray) (.agg #[.string s_,I 0,.string s_,I 0,I 0,I 0,I 0,I 0]);binOp .neq zO (.agg (rvC Gw).toArray) (.agg #[.string s_,I 0,.string s_,I 0,I 0,I 0,I 0,I 0]):Sem Value).run Pr w = .ok (.bool false) w:=by kernel_rfl
def IF(t:Rv)(ht:t.1≠s_)(w:World):(do eqGuard .neq zO (.tmp 0) (.tmp 0) (.agg (rvC t).toArray) (.agg #[.string s_,I 0,.string s_,I 0,I 0,I 0,I 0,I 0]);binOp .neq zO (.agg (rvC t).toArray) (.agg #[.string s_,I 0,.string s_,I 0,I 0,I 0,I 0,I 0]):Sem Value).run Pr w = .ok (.bool true) w:=by
 refine Sm (r:=false) (by kernel_rfl) ?_;have hS:Pr.underlying zO=some (.struct (Pr.fieldsOf zO)):=by kernel_rfl
 have hp:Pr.stoodInHeld zO=false:=by kernel_rfl
 rw[show(10000:Nat)=9999+1 from rfl,run_equalIn_agg w 9999 zO _ _ hS hp];have u9:=Tryz.underlying9;have i9:=Tryz.isAgg9;have z9:=Tryz.sizeOf9;simp only[Program.fieldsOf,Tryz.underlying210]
 go_simp
 have e:¬(ByteArray.toList t.1=ByteArray.toList s_):=λe=>ht (by
  have:(@BEq.beq B0 _ t.1 s_)=true:=by rw[beq_toListBytes];simp[e]
  exact Tk.1 this)
 simp[e]
abbrev Thg:=HT [.str,.int .i64,.int .i64,.int .i64,.int .i64,.int .i64,.int .i64,.int .i64,.bool]
abbrev aS:E1:=.agg [.str,.int .i64,.int .i64,.int .i64,.int .i64,.int .i64,.int .i64,.int .i64,.bool]
def Ij(t:Thg):Value:=aS.val t
def lQ:Thg:=(s_,0,0,0,0,0,0,0,false,())
abbrev Thg.ver(t:Thg):Int:=t.2.2.2.2.2.2.1
abbrev Thg.gen(t:Thg):Int:=t.2.2.2.2.2.2.2.1
abbrev Thg.is(t:Thg):Bool:=t.2.2.2.2.2.2.2.2.1
def WR(c:Cfg)(ver gen:Int)(is:Bool):Thg:=(c.1,c.2.1,c.2.2.1,c.2.2.2.1,c.2.2.2.2.1,c.2.2.2.2.2.1,ver,gen,is,())
def CQ:Pr.underlying zR=some (.map zc zM):=by kernel_rfl
def mkS:MK Pr zc Value.string:=Rt uX
def z2I(w:World):(zeroValue zM).run Pr w = .ok (aS.val lQ) w:=by
 have h:(Pr.info? zM).map (·.zero)=some (some (.agg #[.string s_,I 0,I 0,I 0,I 0,I 0,I 0,I 0,.bool false])):=by kernel_rfl
 cases hi:Pr.info? zM with
 | none=>rw[hi]at h;cases h
 | some i=>rw[hi]at h;simp only[Option.map_some,Option.some.injEq]at h;exact zv hi h w
def jK(m:List (B0×Thg))(n:B0):Thg:=(zA m n).getD lQ
def Me(b:Nat)(m:List (B0×Thg))(s:Seg):Prop:=∃r sm,MpS Value.string Ij r m sm∧s = [Cl b ZG [.map (some r),.func (.func yj) #[] #[]]]++sm
def bO{r:Nat}{m:List (B0×Thg)}{s:Seg}(h:St w0 E w)(i:Nat)(hi:nth E i=some s)(hm:MpS Value.string Ij r m s){n:B0}{kk:aS.T→PT}(hk:kk (jK m n) w) :
  L.semR Pr (.one aS) (Instr.lookup zR (.map (some r)) (.string n) false) kk w:=by
 refine MpS.get mkS CQ z2I (λt:Thg=>t) (λ_=>rfl) h i hi hm ?_;have:((zA m n).map λt:Thg=>t).getD lQ=jK m n:=by unfold jK;cases zA m n<;>rfl
 rw[this];exact hk
def ig(h:St w0 E w){k:Option Addr→PT}(hk:∀b s w',Me b [] s→St w0 (s::E) w'→k (some ⟨b,0,none⟩) w') :
  L.call Pr xP [.func (.func yj) #[] #[]] (.one (.one .ptr)) k w:=by
 refine za (OT ⟨.func yj,#[],#[]⟩) ?_;unfold uP;refine MpS.new h Value.string Ij λr s w hm h=>?_;refine nw h ?_;clear h;intro b w h;exact⟨_,rfl,hk b _ w ⟨r,s,hm,rfl⟩ h.glue⟩
def fG(t:Thg)(ver:Int)(fresh:Bool):Int:=
 if fresh=true∧ver=0 then(if t.is=true then 5 else 0)else if t.is=true then(if t.ver=ver then 0 else 7)else 6
def Eh(h:St w0 E w)(i:Nat){b:Nat}{m:List (B0×Thg)}{s:Seg}(hi:nth E i=some s)(hs:Me b m s){n:B0}{ver:Int}{fresh:Bool}{k:Int→PT}(hk:∀w',St w0 E w'→k (fG (jK m n) ver fresh) w') :
  L.call Pr YK [pO b,.string n,I ver,.bool fresh] (.one (.one (.int .i64))) k w:=by
 obtain⟨r,sm,hm,rfl⟩:=hs;refine za (ky _ _ _ _) ?_;unfold qj;have h:=(h.front i hi).split
 (refine nn ?_;refine ldC h ?_)
 refine bO h 1 rfl hm ?_;generalize jK m n=t at hk;refine nw h ?_;clear h;intro b4 w h
 (refine stC h ?_;clear h;intro w h;dsimp only[zE,zd]at h)
 have fin:∀{e:Int}{w:World},e=fG t ver fresh→St w0 ([Cl b4 zM [.string t.1,I t.2.1,I t.2.2.1,I t.2.2.2.1,I t.2.2.2.2.1,I t.2.2.2.2.2.1,I t.2.2.2.2.2.2.1,I t.2.2.2.2.2.2.2.1,.bool t.2.2.2.2.2.2.2.2.1]]::[Cl b ZG [.map (some r),.func (.func yj) #[] #[]]]::sm::Zi E i) w→
   ∃x,I e=RT.val (.one (.one (.int .i64))) x∧k x w:=by
  rintro e w rfl h;exact⟨_,rfl,hk w (St.setN_same' i hi (St.back i hi (zj h).glue))⟩
 have c2:∀{k5:Unit→PT}{w:World},¬(fresh=true∧ver=0)→(∀{w},fG t ver fresh=0→St w0 ([Cl b4 zM [.string t.1,I t.2.1,I t.2.2.1,I t.2.2.2.1,I t.2.2.2.2.1,I t.2.2.2.2.2.1,I t.2.2.2.2.2.2.1,I t.2.2.2.2.2.2.2.1,.bool t.2.2.2.2.2.2.2.2.1]]::[Cl b ZG [.map (some r),.func (.func yj) #[] #[]]]::sm::Zi E i) w→k5 () w)→
   St w0 ([Cl b4 zM [.string t.1,I t.2.1,I t.2.2.1,I t.2.2.2.1,I t.2.2.2.2.1,I t.2.2.2.2.2.1,I t.2.2.2.2.2.2.1,I t.2.2.2.2.2.2.2.1,.bool t.2.2.2.2.2.2.2.2.1]]::[Cl b ZG [.map (some r),.func (.func yj) #[] #[]]]::sm::Zi E i) w→
   L.load (.one (.bool)) ((⟨b4,0,none⟩:Addr).add 8) (λ(x18:Bool)=>
   L.ite (!x18) (
    λw=>∃x,Value.int .i64 6=RT.val (.one (.one (.int .i64))) x∧k x w)<|
   L.load (.one (.int .i64)) ((⟨b4,0,none⟩:Addr).add 6) λ(x19:Int)=>
   L.ite (x19 != ver) (
    λw=>∃x,Value.int .i64 7=RT.val (.one (.one (.int .i64))) x∧k x w)<|
   k5 (())) w:=by
  intro k5 w hf hk5 h
  (refine ldC h ?_)
  refine it (λh1=>?_) (λh1=>?_)<;>(try simp only[zB]at h1)
  ·exact fin (by unfold fG;rw[if_neg hf,if_neg (by simp[Thg.is,h1])]) h
  (refine ldC h ?_)
  have h1:t.is=true:=by simpa using h1
  refine it (λh2=>?_) (λh2=>?_)<;>(try simp only[zB]at h2)
  ·exact fin (by unfold fG;rw[if_neg hf,if_pos h1,if_neg h2]) h
  ·exact hk5 (by unfold fG;rw[if_neg hf,if_pos h1,if_pos h2]) h
 refine ZC (λz w=>fG t ver fresh=0∧St w0 ([Cl b4 zM [.string t.1,I t.2.1,I t.2.2.1,I t.2.2.2.1,I t.2.2.2.2.1,I t.2.2.2.2.2.1,I t.2.2.2.2.2.2.1,I t.2.2.2.2.2.2.2.1,.bool t.2.2.2.2.2.2.2.2.1]]::[Cl b ZG [.map (some r),.func (.func yj) #[] #[]]]::sm::Zi E i) w) (λk5 hk5=>?_) (λz w ⟨hz,h⟩=>fin hz.symm h)
 cases fresh with
 | false=>exact itF rfl (itF rfl (c2 (by simp) (λh1 h=>hk5 _ _ ⟨h1,h⟩) h))
 | true=>
  refine itT rfl ?_;refine it (λhv=>?_) (λhv=>?_)<;>(try simp only[zB]at hv)
  ·(refine ldC h ?_)
   refine it (λh1=>?_) (λh1=>?_)<;>(try simp only[zB]at h1)
   ·exact fin (by unfold fG;rw[if_pos ⟨rfl,hv⟩,if_pos h1]) h
   ·refine itT rfl (itT (by simp[hv]) ?_);exact fin (by unfold fG;rw[if_pos ⟨rfl,hv⟩,if_neg (by simp[Thg.is,h1])]) h
  ·refine itT rfl (itF (by simp[hv]) ?_);exact c2 (λhh=>hv hh.2) (λh1 h=>hk5 _ _ ⟨h1,h⟩) h
def z0m(h:St w0 E w)(i:Nat){b:Nat}{m:List (B0×Thg)}{s:Seg}(hi:nth E i=some s)(hs:Me b m s){n:B0}{k:aS.T×Bool×Unit→PT}(hk:∀w',St w0 E w'→k (jK m n,(jK m n).is,()) w') :
  L.call Pr Jc [pO b,.string n] (.tup [aS,.one .bool]) k w:=by
 obtain⟨r,sm,hm,rfl⟩:=hs;refine za (kz _ _) ?_;unfold qk;have h:=(h.front i hi).split;refine nw h ?_;clear h;intro b1 w h
 (refine nn ?_;refine ldC h ?_)
 refine bO h 2 rfl hm ?_;generalize jK m n=t at hk;refine nw h ?_;clear h;intro b5 w h
 (refine stC h ?_;clear h;intro w h;dsimp only[zE,zd]at h;refine dr h ?_;clear h;intro w h;refine laC h ?_;refine ldC h ?_;refine stC h ?_;clear h;intro w h;dsimp only[zE,zd]at h;refine ckC h ?_;refine laC h ?_)
 exact⟨(t,t.is,()),rfl,hk w (St.setN_same' i hi (St.back i hi (zj (zj h)).glue))⟩
def iA(h:St w0 E w)(i:Nat){b:Nat}{m:List (B0×Thg)}{s:Seg}(hi:nth E i=some s)(hs:Me b m s){n:B0}{k:Unit→PT}
  (hk:∀s' w',Me b (Zp m n (s_,0,0,0,0,0,0,(jK m n).gen,false,())) s'→St w0 (zd E i s') w'→k () w') :
  L.call Pr jO [pO b,.string n] (.tup []) k w:=by
 obtain⟨r,sm,hm,rfl⟩:=hs;refine za (Vs _ _) ?_;unfold XF;have h:=(h.front i hi).split
 (refine dr h ?_;clear h;intro w h;refine nn ?_;refine ldC h ?_;refine nn ?_;refine ldC h ?_)
 refine bO h 1 rfl hm ?_;refine MpS.set mkS CQ h 1 rfl hm (s_,0,0,0,0,0,0,(jK m n).gen,false,()) rfl λsm' w hm' h=>?_;exact⟨(),rfl,hk _ w ⟨r,sm',hm',rfl⟩ (St.back i hi h.glue)⟩
def Og(a b:Cfg):Bool:=(a.1 == b.1)&&((a.2.1 == b.2.1)&&((a.2.2.1 == b.2.2.1)&&((a.2.2.2.1 == b.2.2.2.1)&&((a.2.2.2.2.1 == b.2.2.2.2.1)&&((a.2.2.2.2.2.1 == b.2.2.2.2.2.1)&&true)))))
def SO(a b:Cfg)(w:World):(Op.equalIn 10000 zF (.agg (Cfg.cells a).toArray) (.agg (Cfg.cells b).toArray)).run Pr w = .ok (Og a b) w:=by
 have hS:Pr.underlying zF=some (.struct (Pr.fieldsOf zF)):=by kernel_rfl
 have hp:Pr.stoodInHeld zF=false:=by kernel_rfl
 obtain⟨a1,a2,a3,a4,a5,a6,⟨⟩⟩:=a;obtain⟨b1,b2,b3,b4,b5,b6,⟨⟩⟩:=b;rw[show(10000:Nat)=9999+1 from rfl,run_equalIn_agg w 9999 zF _ _ hS hp];have u3:=Tryz.underlying3;have i3:=Tryz.isAgg3;have z3:=Tryz.sizeOf3;have u9:=Tryz.underlying9;have i9:=Tryz.isAgg9;have z9:=Tryz.sizeOf9;simp only[Program.fieldsOf,Tryz.underlying23]
 go_simp
 have e:(ByteArray.toList a1=ByteArray.toList b1)↔(@BEq.beq B0 _ a1 b1)=true:=by rw[beq_toListBytes];simp
 unfold Og;by_cases h1:(@BEq.beq B0 _ a1 b1)=true
 ·rw[if_pos (e.2 h1)];simp only[show(a1 == b1)=true from h1,Bool.true_and];by_cases h2: @Eq Int a2 b2
  ·by_cases h3: @Eq Int a3 b3
   ·by_cases h4: @Eq Int a4 b4
    ·by_cases h5: @Eq Int a5 b5
     ·by_cases h6: @Eq Int a6 b6
      ·cases h2;cases h3;cases h4;cases h5;cases h6;simp
      ·cases h2;cases h3;cases h4;cases h5;simp[h6]
     ·cases h2;cases h3;cases h4;simp[h5]
    ·cases h2;cases h3;simp[h4]
   ·cases h2;simp[h3]
  ·simp[h2]
 ·rw[if_neg (λh=>h1 (e.1 h))];have:(a1 == b1)=false:=by simpa using h1
  simp[this]
def SR(a b:Cfg)(w:World):(do eqGuard .eql zF (.tmp 0) (.tmp 0) (.agg (Cfg.cells a).toArray) (.agg (Cfg.cells b).toArray);binOp .eql zF (.agg (Cfg.cells a).toArray) (.agg (Cfg.cells b).toArray):Sem Value).run Pr w = .ok (.bool (Og a b)) w:=
 RF (by kernel_rfl) (SO a b w)
def HQ(h:St w0 E w){a b:Cfg}{k:Bool→PT}(hk:∀w',St w0 E w'→k (Og a b) w') :
  L.callV Pr (.func (.func yj) #[] #[]) [.agg (Cfg.cells a).toArray,.agg (Cfg.cells b).toArray] (.one (.one .bool)) k w:=by
 refine xd (fs:=#[]) (cs:=#[]) nv (nE a b) ?_;unfold Ml;refine nw h ?_;clear h;intro b1 w h;refine nw h ?_;clear h;intro b2 w h
 (refine laC h ?_;refine laC h ?_)
 unfold L.chkSem;refine⟨SR a b w,_,rfl,?_⟩;exact hk w (zj (zj h))
def Gk(t:Thg):Cfg:=(t.1,t.2.1,t.2.2.1,t.2.2.2.1,t.2.2.2.2.1,t.2.2.2.2.2.1,())
def ak(m:List (B0×Thg))(n:B0)(c:Cfg)(ver:Int):List (B0×Thg):=
 Zp m n (WR c ver (if(jK m n).is=true∧Og (Gk (jK m n)) c=true then(jK m n).gen else(jK m n).gen+1) true)
def z0j(h:St w0 E w)(i:Nat){b:Nat}{m:List (B0×Thg)}{s:Seg}(hi:nth E i=some s)(hs:Me b m s){n:B0}{c:Cfg}{ver:Int}(hg:0≤(jK m n).gen∧(jK m n).gen<4611686018427387904){k:Unit→PT}
  (hk:∀s' w',Me b (ak m n c ver) s'→St w0 (zd E i s') w'→k () w') :
  L.call Pr Jb [pO b,.string n,.agg (Cfg.cells c).toArray,I ver] (.tup []) k w:=by
 obtain⟨r,sm,hm,rfl⟩:=hs;refine za (kx _ _ c _) ?_;unfold qi;unfold ak at hk;have h:=(h.front i hi).split;refine nw h ?_;clear h;intro b1 w h
 (refine nn ?_;refine ldC h ?_)
 refine bO h 2 rfl hm ?_;generalize jK m n=t at hk hg;refine nw h ?_;clear h;intro b5 w h
 (refine stC h ?_;clear h;intro w h;dsimp only[zE,zd]at h)
 let cells:Int→List Value:=λg=>[.string t.1,I t.2.1,I t.2.2.1,I t.2.2.2.1,I t.2.2.2.2.1,I t.2.2.2.2.2.1,I t.2.2.2.2.2.2.1,I g,.bool t.2.2.2.2.2.2.2.2.1]
 have hw:Wi (t.gen+1)=t.gen+1:=wr (by omega) (by omega);refine ZC (λz w=>St w0 ([Cl b5 zM (cells (if t.is=true∧Og (Gk t) c=true then t.gen else t.gen+1))]::[Cl b1 zF (Cfg.cells c)]::[Cl b ZG [.map (some r),.func (.func yj) #[] #[]]]::sm::Zi E i) w) (λk6 hk6=>?_) (λz w h=>?_)
 ·have h:St w0 ([Cl b5 zM (cells t.gen)]::[Cl b1 zF (Cfg.cells c)]::[Cl b ZG [.map (some r),.func (.func yj) #[] #[]]]::sm::Zi E i) w:=h;dsimp only[cells]at h hk6
  have more:∀{w},¬(t.is=true∧Og (Gk t) c=true)→St w0 ([Cl b5 zM [.string t.1,I t.2.1,I t.2.2.1,I t.2.2.2.1,I t.2.2.2.2.1,I t.2.2.2.2.2.1,I t.2.2.2.2.2.2.1,I t.gen,.bool t.2.2.2.2.2.2.2.2.1]]::[Cl b1 zF (Cfg.cells c)]::[Cl b ZG [.map (some r),.func (.func yj) #[] #[]]]::sm::Zi E i) w→
    L.load (.one (.int .i64)) ((⟨b5,0,none⟩:Addr).add 7) (λ(x9:Int)=>
     L.store ((⟨b5,0,none⟩:Addr).add 7) [.int .i64 (Wi (x9+1))]<| k6 (())) w:=by
   intro w hn h
   (refine ldC h ?_;refine stC h ?_;clear h;intro w h;dsimp only[zE,zd]at h)
   rw[hw]at h;refine hk6 _ w ?_;rw[if_neg hn];exact h
  (refine dr h ?_;clear h;intro w h;refine ldC h ?_)
  refine it (λh1=>?_) (λh1=>?_)<;>(try simp only[zB]at h1)
  ·exact more (λhh=>by have:=hh.1;simp only[Thg.is]at this;rw[h1]at this;cases this) h
  ·have h1:t.is=true:=by simpa using h1
   (refine nn ?_;refine ldC h ?_;refine laC h ?_;refine laC h ?_)
   refine HQ (a:=Gk t) (b:=c) h λw h=>?_;refine it (λh2=>?_) (λh2=>?_)<;>(try simp only[zB]at h2)
   ·exact more (λhh=>by rw[hh.2]at h2;cases h2) h
   ·have h2:Og (Gk t) c=true:=by simpa using h2
    refine hk6 _ w ?_;rw[if_pos ⟨h1,h2⟩];exact h
 ·dsimp only[cells]at h
  (refine dr h ?_;clear h;intro w h;refine nn ?_;refine ldC h ?_;refine laC h ?_;refine ldC h ?_)
  refine MpS.set mkS CQ h 3 rfl hm (WR c ver (if t.is=true∧Og (Gk t) c=true then t.gen else t.gen+1) true) rfl λsm' w hm' h=>?_;exact⟨(),rfl,hk _ w ⟨r,sm',hm',rfl⟩ (St.back i hi (zj (zj h)).glue)⟩
abbrev Tgt:=HT [.str,.str,.int .i64]
def eT(t:Tgt):List Value:=[.string t.1,.string t.2.1,I t.2.2.1]
def Vn:Enc eT 3:=⟨λ_=>rfl,λ_=>rfl,by decide⟩
structure ARt where
 name:B0
 cfg:B0
 ts:List Tgt
 roll:Int
abbrev Thr:=HT [.str,.str,.slice,.int .i64,.int .i64,.int .i64,.bool]
abbrev aR:E1:=.agg [.str,.str,.slice,.int .i64,.int .i64,.int .i64,.bool]
abbrev Thr.ver(t:Thr):Int:=t.2.2.2.2.1
abbrev Thr.gen(t:Thr):Int:=t.2.2.2.2.2.1
abbrev Thr.is(t:Thr):Bool:=t.2.2.2.2.2.2.1
def Ax(t:Thr):Value:=aR.val t
def Bi:Thr:=(s_,s_,⟨none,0,0⟩,0,0,0,false,())
structure Od where
 r:ARt
 ver:Int
 gen:Int
 is:Bool
def Sg:Od:=⟨⟨s_,s_,[],0⟩,0,0,false⟩
structure RtE where
 k:B0
 t:Thr
 ts:List Tgt
 sg:Seg
def RtE.ok(x:RtE):Prop:=Rw eT zu 3 x.t.2.2.1 x.ts x.sg
def RtE.abs(x:RtE):Od:=⟨⟨x.t.1,x.t.2.1,x.ts,x.t.2.2.2.1⟩,x.t.ver,x.t.gen,x.t.is⟩
abbrev RtE.kt(x:RtE):B0×Thr:=(x.k,x.t)
abbrev RtE.ka(x:RtE):B0×Od:=(x.k,x.abs)
def tD:Pr.underlying zT=some (.map zc zU):=by kernel_rfl
def z2H(w:World):(zeroValue zU).run Pr w = .ok (aR.val Bi) w:=by
 have h:(Pr.info? zU).map (·.zero)=some (some (.agg #[.string s_,.string s_,.slice none 0 0,I 0,I 0,I 0,.bool false])):=by kernel_rfl
 cases hi:Pr.info? zU with
 | none=>rw[hi]at h;cases h
 | some i=>rw[hi]at h;simp only[Option.map_some,Option.some.injEq]at h;exact zv hi h w
def QZ(m:List (B0×Od))(n:B0):Od:=(zA m n).getD Sg
def Ou(b:Nat)(m:List (B0×Od))(s:Seg):Prop:=∃r sm,∃Q:List RtE,MpS Value.string Ax r (Q.map RtE.kt) sm∧(∀x∈Q,x.ok)∧m=Q.map RtE.ka∧
 s = [Cl b Zj [.map (some r),.func (.func Zo) #[] #[]]]++(sm++(Q.map RtE.sg).flatten)
def gJ(Q:List RtE)(n:B0):RtE:=(uI RtE.k Q n).getD ⟨n,Bi,[],[]⟩
def IL(Q:List RtE)(n:B0):(zA (Q.map RtE.kt) n).getD Bi=(gJ Q n).t:=by
 have:=Qi (key:=RtE.k) RtE.t n Q;unfold gJ;rw[this];cases uI RtE.k Q n<;>rfl
def wN(Q:List RtE)(n:B0):QZ (Q.map RtE.ka) n=(gJ Q n).abs:=by
 have:=Qi (key:=RtE.k) RtE.abs n Q;unfold QZ gJ;rw[this];cases uI RtE.k Q n<;>rfl
def Be{r:Nat}{Q:List RtE}{s:Seg}(h:St w0 E w)(i:Nat)(hi:nth E i=some s)(hm:MpS Value.string Ax r (Q.map RtE.kt) s){n:B0}{kk:aR.T→PT}(hk:kk (gJ Q n).t w) :
  L.semR Pr (.one aR) (Instr.lookup zT (.map (some r)) (.string n) false) kk w:=by
 refine MpS.get mkS tD z2H (λt:Thr=>t) (λ_=>rfl) h i hi hm ?_;have:((zA (Q.map RtE.kt) n).map λt:Thr=>t).getD Bi=(gJ Q n).t:=by rw[←IL];cases zA (Q.map RtE.kt) n<;>rfl
 rw[this];exact hk
def ie(h:St w0 E w){k:Option Addr→PT}(hk:∀b s w',Ou b [] s→St w0 (s::E) w'→k (some ⟨b,0,none⟩) w') :
  L.call Pr Xg [.func (.func Zo) #[] #[]] (.one (.one .ptr)) k w:=by
 refine za (gW ⟨.func Zo,#[],#[]⟩) ?_;unfold Uz;refine MpS.new h Value.string Ax λr s w hm h=>?_;refine nw h ?_;clear h;intro b w h;exact⟨_,rfl,hk b _ w ⟨r,s,[],hm,by simp,rfl,by simp⟩ h.glue⟩
def ni(is:Bool)(tv ver:Int)(fresh:Bool):Int:=
 if fresh=true∧ver=0 then(if is=true then 5 else 0)else if is=true then(if tv=ver then 0 else 7)else 6
def Eg(h:St w0 E w)(i:Nat){b:Nat}{m:List (B0×Od)}{s:Seg}(hi:nth E i=some s)(hs:Ou b m s){n:B0}{ver:Int}{fresh:Bool}{k:Int→PT}(hk:∀w',St w0 E w'→k (ni (QZ m n).is (QZ m n).ver ver fresh) w') :
  L.call Pr YR [pO b,.string n,I ver,.bool fresh] (.one (.one (.int .i64))) k w:=by
 obtain⟨r,sm,Q,hm,hL,rfl,rfl⟩:=hs;refine za (KO _ _ _ _) ?_;unfold qP;rw[wN]at hk;have h:=(h.front i hi).split3
 (refine nn ?_;refine ldC h ?_)
 refine Be h 1 rfl hm ?_;generalize gJ Q n=t at hk;refine nw h ?_;clear h;intro b4 w h
 ((try dsimp only[zd,List.cons_append,List.nil_append]at h);repeat' (first | refine nn ?_ | (refine dr h ?_;clear h;intro w h) | refine ldC h ?_ | refine laC h ?_ | refine ckC h ?_ | (refine stC h ?_;clear h;intro w h;(try dsimp only[zE,zd]at h)) | rw[Je] | refine jd ?_ | (refine it (λhc=>?_) (λhc=>?_)<;>(try simp only[zB]at hc))))
 all_goals exact⟨_,rfl,eqk (hk w (St.again i hi (zj h).glue3)) (by clear h;simp_all [ni,RtE.abs,Thr.is,Thr.ver])⟩
def Ou.put{r b:Nat}{Q:List RtE}{sm:Seg}(x:RtE)(hx:x.ok)(hQ:∀x∈Q,x.ok)(hm:MpS Value.string Ax r (Zp (Q.map RtE.kt) x.k x.t) sm)
  (h:St w0 (x.sg::(Q.map RtE.sg).flatten::[Cl b Zj [.map (some r),.func (.func Zo) #[] #[]]]::sm::E) w) :
  ∃s,Ou b (Zp (Q.map RtE.ka) x.k x.abs) s∧St w0 (s::E) w:=by
 have e1:=Kb (key:=RtE.k) RtE.t x Q;have e2:=Kb (key:=RtE.k) RtE.abs x Q;have h:=St.lput (key:=RtE.k) h;refine⟨_,⟨r,sm,lput RtE.k Q x,by rw[e1];exact hm,λy hy=>?_,e2.symm,rfl⟩,?_⟩
 ·rcases Pt hy with rfl | hy
  ·exact hx
  ·exact hQ y hy
 ·have h:=Zm (Zm h);exact h.glue3
def MR(m:List (B0×Od))(n:B0):List (B0×Od):=Zp m n ⟨⟨s_,s_,[],0⟩,0,(QZ m n).gen,false⟩
def iz(h:St w0 E w)(i:Nat){b:Nat}{m:List (B0×Od)}{s:Seg}(hi:nth E i=some s)(hs:Ou b m s){n:B0}{k:Unit→PT}
  (hk:∀s' w',Ou b (MR m n) s'→St w0 (zd E i s') w'→k () w') :
  L.call Pr Ja [pO b,.string n] (.tup []) k w:=by
 obtain⟨r,sm,Q,hm,hQ,rfl,rfl⟩:=hs;refine za (kw _ _) ?_;unfold qh;unfold MR at hk;rw[wN]at hk;have h:=(h.front i hi).split3
 (refine dr h ?_;clear h;intro w h;refine nn ?_;refine ldC h ?_;refine nn ?_;refine ldC h ?_)
 refine Be h 1 rfl hm ?_;refine MpS.set mkS tD h 1 rfl hm (s_,s_,⟨none,0,0⟩,0,0,(gJ Q n).t.gen,false,()) rfl λsm' w hm' h=>?_;have h:=Zm (yL (yL h));obtain⟨s',hs',h⟩:=Ou.put (E:=Zi E i) ⟨n,(s_,s_,⟨none,0,0⟩,0,0,(gJ Q n).t.gen,false,()),[],[]⟩ Rw.nil hQ hm' h.nil;exact⟨(),rfl,hk s' w hs' (St.back i hi h)⟩
def Io(m:List (B0×Od))(n:B0)(ver:Int):List (B0×Od):=if ni (QZ m n).is (QZ m n).ver ver false=0 then MR m n else m
def eE(h:St w0 E w)(i:Nat){b:Nat}{m:List (B0×Od)}{s:Seg}(hi:nth E i=some s)(hs:Ou b m s){n:B0}{ver:Int}{k:Int→PT}
  (hk:∀s' w',Ou b (Io m n ver) s'→St w0 (zd E i s') w'→k (ni (QZ m n).is (QZ m n).ver ver false) w') :
  L.call Pr xO [pO b,.string n,I ver] (.one (.one (.int .i64))) k w:=by
 refine za (OS _ _ _) ?_;unfold uO;refine Eg h i hi hs λw h=>?_;unfold Io at hk;refine jd ?_;refine it (λhe=>?_) (λhe=>?_)<;>(try simp only[zB]at he)
 ·refine iz h i hi hs λs' w hs' h=>?_;rw[if_pos he]at hk;exact⟨_,rfl,hk s' w hs' h⟩
 ·rw[if_neg he]at hk;exact⟨_,rfl,hk s w hs (by rwa [yy hi])⟩
def z07(l:List B0)(m:Nat):TT [.one .str]:=((l[m]?).getD s_,())
def Bw{l:List B0}{m:Nat}{x:B0}(h:l[m]? = some x):z07 l m=(x,()):=by simp[z07,h]
structure Yu where
 m:List (B0×Thg)
 r:List (B0×Od)
 n:Int
structure Yu.Ok(a:Yu):Prop where
 lo:0≤a.n
 hi:a.n<1000000000
 gen:∀x,0≤(jK a.m x).gen∧(jK a.m x).gen≤a.n
 fm:a.m.length≤a.n
 fr:a.r.length≤a.n
abbrev shB(b bc br:Nat)(n:Int):Seg:=[Cl b Mb [.pointer (some ⟨bc,0,none⟩),.pointer (some ⟨br,0,none⟩),I n]]
def ShS(b:Nat)(a:Yu)(s:Seg):Prop:=a.Ok∧∃bc br sc sr,Me bc a.m sc∧Ou br a.r sr∧s=shB b bc br a.n++(sc++sr)
def pX(m:List (B0×Thg))(n x:B0)(t:Thg):jK (Zp m n t) x=if n=x then t else jK m x:=by
 unfold jK;rw[XL];split<;>rfl
def lm(m:List (B0×Od))(n x:B0)(t:Od):QZ (Zp m n t) x=if n=x then t else QZ m x:=by
 unfold QZ;rw[XL];split<;>rfl
def Ps{κ υ:Type}[DecidableEq κ](m:List (κ×υ))(k:κ)(u:υ):(Zp m k u).length≤m.length+1:=by
 cases h:zA m k with
 | none=>rw[xU h];simp
 | some v=>rw[fE h];omega
def Bj{κ υ:Type}[DecidableEq κ]{m:List (κ×υ)}{k:κ}{u:υ}(h:(zA m k).isSome=true):(Zp m k u).length=m.length:=by
 cases h2:zA m k with
 | none=>rw[h2]at h;cases h
 | some v=>exact fE h2
def kO(a:Yu)(c:Cfg)(ver:Int):Yu×Int×Int:=
 if UG c≠0 then(a,0,UG c)else if fG (jK a.m c.1) ver true≠0 then(a,0,fG (jK a.m c.1) ver true)else(⟨ak a.m c.1 c (a.n+1),a.r,a.n+1⟩,a.n+1,0)
def HO(h:St w0 E w)(i:Nat){b:Nat}{a:Yu}{s:Seg}(hi:nth E i=some s)(hs:ShS b a s)(hn:a.n<900000000){c:Cfg}{ver:Int}{k:Int×Int×Unit→PT}
  (hk:∀s' w',ShS b (kO a c ver).1 s'→St w0 (zd E i s') w'→k ((kO a c ver).2.1,(kO a c ver).2.2,()) w') :
  L.call Pr xQ [pO b,.agg (Cfg.cells c).toArray,I ver] (.tup [.one (.int .i64),.one (.int .i64)]) k w:=by
 have hs0:=hs;obtain⟨ok,bc,br,sc,sr,hC,hR,rfl⟩:=hs;have hlo:=ok.lo;refine za (OU _ c _) ?_;unfold uQ;have h:=(h.front i hi).split3;refine nw h ?_;clear h;intro b1 w h
 (refine laC h ?_)
 refine BB (c:=c) h λw h=>?_;unfold kO at hk;refine jd ?_;refine it (λhe=>?_) (λhe=>?_)<;>(try simp only[zB]at he)
 ·(refine dr h ?_;clear h;intro w h;refine nn ?_;refine ldC h ?_;refine ldC h ?_)
  refine Eh h 2 rfl hC λw h=>?_;rw[if_neg (by simpa using he)]at hk;refine it (λhm=>?_) (λhm=>?_)<;>(try simp only[zB]at hm)
  ·rw[if_pos hm]at hk;exact⟨_,rfl,hk _ w hs0 (St.back i hi (zj h).glue3)⟩
  ·rw[if_neg (by simpa using hm)]at hk
   (refine nn ?_;refine ldC h ?_;refine nn ?_;refine stC h ?_;clear h;intro w h;dsimp only[zE,zd]at h;refine dr h ?_;clear h;intro w h;refine nn ?_;refine ldC h ?_;refine ldC h ?_;refine laC h ?_;refine nn ?_;refine ldC h ?_)
   rw[wr (by omega) (by omega)]at h ⊢;have hgc:=ok.gen c.1;refine z0j (c:=c) h 2 rfl hC (by omega) λsc' w hC' h=>?_;have h:St w0 ([Cl b1 zF (Cfg.cells c)]::shB b bc br (a.n+1)::sc'::sr::Zi E i) w:=h
   (refine nn ?_;refine ldC h ?_)
   refine⟨(a.n+1,0,()),rfl,hk _ w ⟨⟨by simp only;omega,by simp only;omega,λx=>?_,?_,?_⟩,bc,br,sc',sr,hC',hR,rfl⟩ (St.back i hi (zj h).glue3)⟩
   ·simp only[ak];rw[pX];have hx:=ok.gen x;split
    ·simp only[WR,Thg.gen];split<;>constructor<;>(simp only[Thg.gen]at hgc ⊢;omega)
    ·omega
   ·have:=ok.fm;have:=Ps a.m c.1 (WR c (a.n+1) (if(jK a.m c.1).is=true∧Og (Gk (jK a.m c.1)) c=true then(jK a.m c.1).gen else(jK a.m c.1).gen+1) true);simp only[ak];omega
   ·have:=ok.fr;simp only;omega
 ·refine it (λhm=>?_) (λhm=>?_)<;>(try simp only[zB]at hm)
  ·rw[if_pos he]at hk;exact⟨_,rfl,hk _ w hs0 (St.back i hi (zj h).glue3)⟩
  ·exact(he hm).elim
def Hz{T:List (B0×Rv)}{n:B0}(h:∀p∈T,p.2.1=p.1∧p.1≠s_){t:Rv}(hm:zA T n=some t):t.1=n∧n≠s_:=by
 have:=jB hm;have h2:=h _ this;exact h2
def IH(x6:Rv):Bool:=!((x6.1 == s_)&&((x6.2.1 == 0)&&((x6.2.2.1 == s_)&&((x6.2.2.2.1 == 0)&&((x6.2.2.2.2.1 == 0)&&((x6.2.2.2.2.2.1 == 0)&&((x6.2.2.2.2.2.2.1 == 0)&&((x6.2.2.2.2.2.2.2.1 == 0)&&true))))))))
def iR{t:Rv}(ht:t.1≠s_):IH t=true:=by
 have:(t.1 == s_)=false:=by
  cases e:(t.1 == s_) with
  | false=>rfl
  | true=>exact absurd (Tk.1 e) ht
 unfold IH;rw[this];rfl
def Ap(h:St w0 E w)(i:Nat){b:Nat}{a:yH}{s:Seg}(hi:nth E i=some s)(hs:BkS b a s){c:Cfg}{g:Nat}(hc:ZZ c.1.data.toList 16=true)(h1:1≤g)(hg:g<100)(hf:a.all.length<999999){k:B0×Bool×Unit→PT}
  (hk:∀s' w',BkS b (Xp a c g).1 s'→St w0 (zd E i s') w'→k ((Xp a c g).2.1,(Xp a c g).2.2,()) w') :
  L.call Pr uc [pO b,.agg (Cfg.cells c).toArray,I g] (.tup [.one .str,.one .bool]) k w:=by
 have hs0:=hs;obtain⟨ok,rA,rP,sA,sP,hA,hP,rfl⟩:=hs;refine za (pm _ c _) ?_;unfold Ks;have hne:=ES c.1 hg;unfold Xp jt at hk;have h:=(h.front i hi).split3;refine nw h ?_;clear h;intro b1 w h
 (refine ldC h ?_)
 refine z2C h uX hc h1 hg λw h=>?_;generalize qm c.1 g=rev at hk hne;refine itF (by rw[jN];exact decide_eq_false hne) ?_
 (refine nn ?_;refine ldC h ?_)
 refine Bd h 2 rfl hA ?_;unfold L.chkSem
 cases hm:zA a.all rev with
 | none=>
  rw[hm]at hk;refine⟨IG w,itF rfl ?_⟩;rw[if_neg (by simp)]at hk
  (refine dr h ?_;clear h;intro w h;refine nn ?_;refine ldC h ?_;refine laC h ?_)
  refine MpS.set uH Cu h 2 rfl hA (su rev g c) rfl λsA' w hA' h=>?_;dsimp only[zd]at h;refine⟨(rev,true,()),rfl,hk _ w ⟨⟨?_,?_⟩,rA,rP,sA',sP,hA',hP,rfl⟩ (St.back i hi (zj h).glue3)⟩
  ·intro p hp;rcases yr hp with rfl | hp
   ·exact⟨rfl,hne⟩
   ·exact ok.name p hp
  ·have:=Ps a.all rev (su rev g c);show(Zp a.all rev (su rev g c)).length<1000000;omega
 | some t=>
  rw[hm]at hk;have ht:=Hz ok.name hm;have ht1:t.1≠s_:=by rw[ht.1];exact ht.2
  dsimp only[Option.getD];refine⟨(IF t ht1 w).trans (by show _=Result.ok (Value.bool (IH t)) w;rw[iR ht1]),itT (iR ht1) ?_⟩;rw[if_pos (by rfl)]at hk;exact⟨(rev,false,()),rfl,hk _ w hs0 (St.back i hi (zj h).glue3)⟩
def wl(h:St w0 E w)(i:Nat){s:Seg}(hi:nth E i=some s){r:Nat}{m:List (B0×Rv)}(hm:MpS Value.string vRv r m s)(hn:m.length<1000000000){k:Sl→PT}
  (hk:∀v s' w',Rw eS zc 1 v (yR (m.map (·.1))) s'→St w0 (s'::E) w'→k v w'):L.call Pr yJ [.map (some r)] (.one (.one .slice)) k w:=by
 refine za (UB _) ?_;unfold xf;refine za (jJ _) ?_;unfold yx;have h:=h.front i hi;refine nw h ?_;clear h;intro c w h;refine⟨⟨.func zH,#[],#[.pointer (some ⟨c,0,none⟩)]⟩,rfl,?_⟩;have hY:Ds Pr w0 [[Cl c zV [.map (some r)]],s] (.func (.func zH) #[] #[.pointer (some ⟨c,0,none⟩)]) (m.map (·.1)) Value.string:=by
  intro yv R J Jd F w h hJ step fin fin2;refine⟨jp,jq yv ⟨c,0,none⟩ ?_⟩;unfold yi;exact FU (kv:=Value.string) (vv:=vRv) unS (λ_=>rfl) Cu (lk:=.str) (ev:=eRv) (λx=>x) (λ_=>rfl) (λx:Rv=>x) (λ_=>rfl) J Jd hm h hJ (λseen k F X w hl hJ h=>step seen k F X w (by simpa using hl) hJ h) fin fin2
 refine vL (fv:=⟨.func zH,#[],#[.pointer (some ⟨c,0,none⟩)]⟩) hY h (by simpa using hn) λv s' w hr h=>⟨v,rfl,hk v s' w hr ?_⟩;have h:=yL h;exact St.again (i+1) (E:=s'::E) hi h
def Gl(a:yH):List B0:=yR (a.all.map (·.1))
def iD(h:St w0 E w)(i:Nat){b:Nat}{a:yH}{s:Seg}(hi:nth E i=some s)(hs:BkS b a s){k:Sl→PT}(hk:∀v s' w',Rw eS zc 1 v (Gl a) s'→St w0 (s'::E) w'→k v w') :
  L.call Pr vf [pO b] (.one (.one .slice)) k w:=by
 obtain⟨ok,rA,rP,sA,sP,hA,hP,rfl⟩:=hs;refine za (Tx _) ?_;unfold OA;have h:=(h.front i hi).split3;have hf:=ok.few
 (refine nn ?_;refine ldC h ?_)
 refine wl h 1 rfl hA (by omega) λv s' w hr h=>?_;refine LV h (Rw.rd yu h 0 rfl hr) (by rw[jk,List.length_map];omega) (Rw.nil0 yu hr) λv' s2 w hr2 _ h=>⟨v',rfl,hk v' s2 w hr2 ?_⟩;have h:=yw h;have h:=Ys (Ys (Ys h));have h:=h.glue3;exact St.again (i+1) (E:=s2::E) hi h
def gN(a:yH)(c:B0)(q:B0→Bool)(t:Rv)(rev:B0):Rv:=
 if(qF a rev).2.2.1=c then if t.2.1<(qF a rev).2.1 then if q rev=true then qF a rev else t else t else t
def Tj(a:yH)(c:B0)(q:B0→Bool):Rv:=(Gl a).foldl (gN a c q) Gw
def LT(h:St w0 E w)(i:Nat){b:Nat}{a:yH}{s:Seg}(hi:nth E i=some s)(hs:BkS b a s){c:B0}{fv:FV}{q:B0→Bool}
  (hq:∀{E':List Seg}{w:World}{x:B0}{k:Bool→PT},St w0 (s::E') w→(∀w',St w0 (s::E') w'→k (q x) w')→L.callV Pr (.func fv.fn fv.fs fv.cs) [.string x] (.one (.one .bool)) k w) {k:B0→PT}
  (hk:∀w',St w0 E w'→k (Tj a c q).1 w'):L.call Pr xE [pO b,.string c,fv.val] (.one (.one .str)) k w:=by
 obtain⟨ok,rA,rP,sA,sP,hA,hP,rfl⟩:=hs;refine za (mC _ _ fv) ?_;unfold VH;have h:=(h.front i hi).split3;have hf:=ok.few;refine nw h ?_;clear h;intro b1 w h
 (refine stC h ?_;clear h;intro w h;dsimp only[zE,zd]at h;refine nn ?_;refine ldC h ?_)
 refine wl h 2 rfl hA (by omega) λv s' w hr h=>?_;have hl:(yR (a.all.map (·.1))).length<1000000000:=by rw[jk,List.length_map];omega
 have hlen:=Rw.len yu hr;unfold Tj Gl at hk;generalize yR (a.all.map (·.1))=l at *
 refine zX (λq' y w=>∃(j:Nat),@Eq Int y.1 j∧q'+j=l.length∧St w0 (s'::[Cl b1 zO (rvC ((l.take j).foldl (gN a c q) Gw))]::bkB b rA rP::sA::sP::Zi E i) w) l.length ⟨0,rfl,rfl,h⟩ ?_;clear h;rintro q' ⟨y,⟨⟩⟩ w ⟨j,hy,hq',h⟩ again hag;simp only at hy;subst hy;refine it (λhb=>?_) (λhb=>?_)<;>(try simp only[zB]at hb)
 ·have hj:j<l.length:=by omega
  have hx:l[j]? = some l[j]:=List.getElem?_eq_getElem hj;have next:∀{w}{t:Rv},gN a c q ((l.take j).foldl (gN a c q) Gw) l[j]=t→St w0 (s'::[Cl b1 zO (rvC t)]::bkB b rA rP::sA::sP::Zi E i) w→again (Wi ((j:Int)+1),()) w:=by
   intro w t ht h;refine hag (q'-1) _ w (by omega) ⟨j+1,?_,by omega,?_⟩
   ·show Wi _=_;rw[wr (by omega) (by omega)];omega
   ·rw[List.take_succ,hx,Option.toList_some,List.foldl_append,List.foldl_cons,List.foldl_nil,ht];exact h
  generalize (l.take j).foldl (gN a c q) Gw=t at h next
  unfold gN qF at next
  generalize l[j]=x at hx next
  refine jd ?_;refine Rw.ix yu hr (by omega) (by simpa using hj) λea ha=>?_;refine Rw.ld0 yu h 0 rfl hr ha (x:=x) (by simpa using hx) rfl rfl ?_
  (refine nn ?_;refine ldC h ?_)
  refine Bd h 3 rfl hA ?_;generalize (zA a.all x).getD Gw=r at next
  refine nw h ?_;clear h;intro b4 w h
  (refine stC h ?_;clear h;intro w h;dsimp only[zE,zd]at h;refine ldC h ?_)
  rw[jN];refine it (λh1=>?_) (λh1=>?_)<;>(try simp only[zB]at h1)
  ·rw[if_pos h1]at next
   (refine ldC h ?_;refine ldC h ?_)
   refine it (λh2=>?_) (λh2=>?_)<;>(try simp only[zB]at h2)
   ·rw[if_pos h2]at next
    have h:=JR (JR (JR h));refine hq h.glue3 λw h=>?_;have h:=h.split3;refine it (λh3=>?_) (λh3=>?_)<;>(try simp only[zB]at h3)
    ·rw[if_pos h3]at next
     (refine laC h ?_;refine stC h ?_;clear h;intro w h;dsimp only[zE,zd]at h)
     refine next rfl ?_
     have h:=Qj h;have h:=yM (yM (Zm (Zm (Zm h))));exact h
    ·rw[if_neg (by simp[h3])]at next
     refine next rfl ?_
     have h:=Qj h;have h:=yM (yM (Zm (Zm (Zm h))));exact h
   ·rw[if_neg (by omega)]at next
    exact next rfl (zj h)
  ·rw[if_neg h1]at next
   exact next rfl (zj h)
 ·have e:l.take j=l:=List.take_of_length_le (by omega);rw[e]at h
  (refine ldC h ?_)
  exact⟨_,rfl,hk w (St.again i hi (zj (zj h)).glue3)⟩
def z05(a:yH)(c:B0):B0:=(Tj a c λ_=>true).1
def CL(a:yH)(c:B0):B0:=(Tj a c (xe a)).1
def bp(h:St w0 E w)(i:Nat){b:Nat}{a:yH}{s:Seg}(hi:nth E i=some s)(hs:BkS b a s){c:B0}{k:B0×B0×Unit→PT}(hk:∀w',St w0 E w'→k (z05 a c,CL a c,()) w') :
  L.call Pr Qz [pO b,.string c] (.tup [.one .str,.one .str]) k w:=by
 refine za (mD _ _) ?_;unfold VI;refine LT h i hi hs (fv:=⟨.func JN,#[],#[]⟩) (q:=λ_=>true) (λ{E' w x k} h hk=>?_) λw h=>?_
 ·refine xd (fs:=#[]) (cs:=#[]) GD (GM x) ?_;unfold UM;exact⟨true,rfl,hk w h⟩
 refine LT h i hi hs (fv:=⟨.func Ye,#[.pointer (some ⟨b,0,none⟩)],#[]⟩) (q:=xe a) (λ{E' w x k} h hk=>?_) λw h=>⟨(_,_,()),rfl,hk w h⟩;obtain⟨ok,rA,rP,sA,sP,hA,hP,rfl⟩:=hs;refine xd (fs:=#[.pointer (some ⟨b,0,none⟩)]) (cs:=#[]) mu (VS _ _) ?_;unfold QE;have h:=h.split3
 (refine nn ?_;refine ldC h ?_)
 refine MpS.get uH wv iI (λt:Bool=>t) (λ_=>rfl) h 2 rfl hP ?_;refine⟨_,rfl,?_⟩;have:((zA a.pv x).map λt:Bool=>t).getD false=xe a x:=by unfold xe;cases zA a.pv x<;>rfl
 rw[this];exact hk w h.glue3
end Go.Proofs.YtimahgbgejngiaaGreatDoor

namespace Go.Proofs
open Go.Shelf
def Tryz.laysM171_ren:Go.Shelf.Ren:=⟨fun | 171=>72 | 243=>133 | 246=>208 | 283=>264 | 284=>265 | 285=>266 | 286=>267 | 129=>254 | 317=>301 | 318=>302 | 319=>303 | 320=>304 | 337=>316 | 338=>317 | n=>n,fun | 3=>3 | 9=>9 | 2=>2 | 4=>4 | 171=>421 | 0=>0 | 53=>412 | 37=>48 | 5=>5 | 173=>423 | 212=>456 | 51=>410 | 20=>20 | 213=>457 | 46=>349 | 232=>481 | 233=>482 | n=>n,fun | 17=>1 | 18=>4 | 19=>5 | n=>n⟩
def Tryz.laysM171:Go.Proofs.LaysM.n171 Tryz.prog Tryz.laysM171_ren:={
 mixed:=by kernel_rfl
 f129:=Tryz.func254.trans cS
 f171:=Tryz.func72.trans cS
 f243:=Tryz.func133.trans cS
 f246:=Tryz.func208.trans cS
 f283:=Tryz.func264.trans cS
 f284:=Tryz.func265.trans cS
 f285:=Tryz.func266.trans cS
 f286:=Tryz.func267.trans cS
 f317:=Tryz.func301.trans cS
 f318:=Tryz.func302.trans cS
 f319:=Tryz.func303.trans cS
 f320:=Tryz.func304.trans cS
 f337:=Tryz.func316.trans cS
 f338:=Tryz.func317.trans cS
 t0:=Tryz.underlying0
 a0:=Tryz.isAgg0
 z0:=Tryz.sizeOf0
 v0:=Tryz.zeroValue0
 t2:=Tryz.underlying2
 a2:=Tryz.isAgg2
 z2:=Tryz.sizeOf2
 v2:=Tryz.zeroValue2
 t3:=Tryz.underlying3
 a3:=Tryz.isAgg3
 z3:=Tryz.sizeOf3
 v3:=Tryz.zeroValue3
 t4:=Tryz.underlying4
 a4:=Tryz.isAgg4
 z4:=Tryz.sizeOf4
 v4:=Tryz.zeroValue4
 t5:=Tryz.underlying5
 a5:=Tryz.isAgg5
 z5:=Tryz.sizeOf5
 v5:=Tryz.zeroValue5
 t9:=Tryz.underlying9
 a9:=Tryz.isAgg9
 z9:=Tryz.sizeOf9
 v9:=Tryz.zeroValue9
 t20:=Tryz.underlying20
 a20:=Tryz.isAgg20
 z20:=Tryz.sizeOf20
 v20:=Tryz.zeroValue20
 t37:=Tryz.underlying48
 a37:=Tryz.isAgg48
 z37:=Tryz.sizeOf48
 v37:=Tryz.zeroValue48
 t46:=Tryz.underlying349
 a46:=Tryz.isAgg349
 z46:=Tryz.sizeOf349
 v46:=Tryz.zeroValue349
 t51:=Tryz.underlying410
 a51:=Tryz.isAgg410
 z51:=Tryz.sizeOf410
 v51:=Tryz.zeroValue410
 t53:=Tryz.underlying412
 a53:=Tryz.isAgg412
 z53:=Tryz.sizeOf412
 v53:=Tryz.zeroValue412
 t171:=Tryz.underlying421
 a171:=Tryz.isAgg421
 z171:=Tryz.sizeOf421
 v171:=Tryz.zeroValue421
 t173:=Tryz.underlying423
 a173:=Tryz.isAgg423
 z173:=Tryz.sizeOf423
 v173:=Tryz.zeroValue423
 t212:=Tryz.underlying456
 a212:=Tryz.isAgg456
 z212:=Tryz.sizeOf456
 v212:=Tryz.zeroValue456
 t213:=Tryz.underlying457
 a213:=Tryz.isAgg457
 z213:=Tryz.sizeOf457
 t232:=Tryz.underlying481
 a232:=Tryz.isAgg481
 z232:=Tryz.sizeOf481
 v232:=Tryz.zeroValue481
 t233:=Tryz.underlying482
 a233:=Tryz.isAgg482
 z233:=Tryz.sizeOf482
 v233:=Tryz.zeroValue482
 g17:=by kernel_rfl
 g18:=by kernel_rfl
 g19:=by kernel_rfl
 i0:=by kernel_rfl
 i2:=by kernel_rfl
 i3:=by kernel_rfl
 i4:=by kernel_rfl
 i5:=by kernel_rfl
 i9:=by kernel_rfl
 i20:=by kernel_rfl
 i37:=by kernel_rfl
 i46:=by kernel_rfl
 i51:=by kernel_rfl
 i53:=by kernel_rfl
 i171:=by kernel_rfl
 i173:=by kernel_rfl
 i212:=by kernel_rfl
 i232:=by kernel_rfl
 i233:=by kernel_rfl
 m17:=by kernel_rfl
 m18:=by kernel_rfl
 m19:=by kernel_rfl }
open Go.RowKit Go.Sort Go.Lib in
def Tryz.strconv_Itoa (n : Int) (h0 : -9223372036854775808 ≤ n) (h1 : n ≤ 9223372036854775807) (w : World) (htab : Lib.TabIs Tryz.prog w "internal/strconv.uint64pow10" .u64 Lib.pow10Tab) :
  Calls Tryz.prog 72 #[.int .i64 n] w λe w'=>e = .returned (.string ⟨(Lib.itoa n).toArray⟩)∧∃k os,w'=grow (w.drewN k) os:=Any.strconv_Itoa Tryz.laysM171 n h0 h1 w htab
end Go.Proofs

namespace Go.Proofs
open Go.Shelf
def Tryz.laysC172_ren:Go.Shelf.Ren:=⟨fun | 172=>203 | 244=>261 | 245=>262 | 247=>296 | 279=>297 | 280=>298 | 281=>299 | 282=>300 | 287=>313 | 316=>314 | 171=>72 | 205=>315 | 321=>329 | 322=>330 | 243=>133 | 246=>208 | 283=>264 | 284=>265 | 285=>266 | 286=>267 | 129=>254 | 317=>301 | 318=>302 | 319=>303 | 320=>304 | 337=>316 | 338=>317 | n=>n,fun | 9=>9 | 3=>3 | 75=>263 | 76=>264 | 4=>4 | 5=>5 | 167=>449 | 37=>48 | 0=>0 | 85=>450 | 2=>2 | 168=>452 | 53=>412 | 175=>464 | 46=>349 | 210=>468 | 127=>369 | 145=>480 | 143=>478 | 21=>21 | 171=>421 | 173=>423 | 212=>456 | 51=>410 | 20=>20 | 213=>457 | 232=>481 | 233=>482 | 80=>82 | n=>n,fun | 15=>2 | 16=>3 | 17=>1 | 18=>4 | 19=>5 | n=>n⟩
def Tryz.laysC172:Go.Proofs.LaysC.n172 Tryz.prog Tryz.laysC172_ren:={
 mixed:=by kernel_rfl
 f129:=Tryz.func254.trans cS
 f171:=Tryz.func72.trans cS
 f172:=Tryz.func203.trans cS
 f205:=Tryz.func315.trans cS
 f243:=Tryz.func133.trans cS
 f244:=Tryz.func261.trans cS
 f245:=Tryz.func262.trans cS
 f246:=Tryz.func208.trans cS
 f247:=Tryz.func296.trans cS
 f279:=Tryz.func297.trans cS
 f280:=Tryz.func298.trans cS
 f281:=Tryz.func299.trans cS
 f282:=Tryz.func300.trans cS
 f283:=Tryz.func264.trans cS
 f284:=Tryz.func265.trans cS
 f285:=Tryz.func266.trans cS
 f286:=Tryz.func267.trans cS
 f287:=Tryz.func313.trans cS
 f316:=Tryz.func314.trans cS
 f317:=Tryz.func301.trans cS
 f318:=Tryz.func302.trans cS
 f319:=Tryz.func303.trans cS
 f320:=Tryz.func304.trans cS
 f321:=Tryz.func329.trans cS
 f322:=Tryz.func330.trans cS
 f337:=Tryz.func316.trans cS
 f338:=Tryz.func317.trans cS
 t0:=Tryz.underlying0
 a0:=Tryz.isAgg0
 z0:=Tryz.sizeOf0
 v0:=Tryz.zeroValue0
 t2:=Tryz.underlying2
 a2:=Tryz.isAgg2
 z2:=Tryz.sizeOf2
 v2:=Tryz.zeroValue2
 t3:=Tryz.underlying3
 a3:=Tryz.isAgg3
 z3:=Tryz.sizeOf3
 v3:=Tryz.zeroValue3
 t4:=Tryz.underlying4
 a4:=Tryz.isAgg4
 z4:=Tryz.sizeOf4
 v4:=Tryz.zeroValue4
 t5:=Tryz.underlying5
 a5:=Tryz.isAgg5
 z5:=Tryz.sizeOf5
 v5:=Tryz.zeroValue5
 t9:=Tryz.underlying9
 a9:=Tryz.isAgg9
 z9:=Tryz.sizeOf9
 v9:=Tryz.zeroValue9
 t20:=Tryz.underlying20
 a20:=Tryz.isAgg20
 z20:=Tryz.sizeOf20
 v20:=Tryz.zeroValue20
 t21:=Tryz.underlying21
 a21:=Tryz.isAgg21
 z21:=Tryz.sizeOf21
 v21:=Tryz.zeroValue21
 t37:=Tryz.underlying48
 a37:=Tryz.isAgg48
 z37:=Tryz.sizeOf48
 v37:=Tryz.zeroValue48
 t46:=Tryz.underlying349
 a46:=Tryz.isAgg349
 z46:=Tryz.sizeOf349
 v46:=Tryz.zeroValue349
 t51:=Tryz.underlying410
 a51:=Tryz.isAgg410
 z51:=Tryz.sizeOf410
 v51:=Tryz.zeroValue410
 t53:=Tryz.underlying412
 a53:=Tryz.isAgg412
 z53:=Tryz.sizeOf412
 v53:=Tryz.zeroValue412
 t75:=Tryz.underlying263
 a75:=Tryz.isAgg263
 z75:=Tryz.sizeOf263
 v75:=Tryz.zeroValue263
 t76:=Tryz.underlying264
 a76:=Tryz.isAgg264
 z76:=Tryz.sizeOf264
 v76:=Tryz.zeroValue264
 t85:=Tryz.underlying450
 a85:=Tryz.isAgg450
 z85:=Tryz.sizeOf450
 v85:=Tryz.zeroValue450
 t127:=Tryz.underlying369
 a127:=Tryz.isAgg369
 z127:=Tryz.sizeOf369
 v127:=Tryz.zeroValue369
 t143:=Tryz.underlying478
 a143:=Tryz.isAgg478
 z143:=Tryz.sizeOf478
 v143:=Tryz.zeroValue478
 t145:=Tryz.underlying480
 a145:=Tryz.isAgg480
 z145:=Tryz.sizeOf480
 v145:=Tryz.zeroValue480
 t167:=Tryz.underlying449
 a167:=Tryz.isAgg449
 z167:=Tryz.sizeOf449
 v167:=Tryz.zeroValue449
 t168:=Tryz.underlying452
 a168:=Tryz.isAgg452
 z168:=Tryz.sizeOf452
 v168:=Tryz.zeroValue452
 t171:=Tryz.underlying421
 a171:=Tryz.isAgg421
 z171:=Tryz.sizeOf421
 v171:=Tryz.zeroValue421
 t173:=Tryz.underlying423
 a173:=Tryz.isAgg423
 z173:=Tryz.sizeOf423
 v173:=Tryz.zeroValue423
 t175:=Tryz.underlying464
 a175:=Tryz.isAgg464
 z175:=Tryz.sizeOf464
 v175:=Tryz.zeroValue464
 t210:=Tryz.underlying468
 a210:=Tryz.isAgg468
 z210:=Tryz.sizeOf468
 v210:=Tryz.zeroValue468
 t212:=Tryz.underlying456
 a212:=Tryz.isAgg456
 z212:=Tryz.sizeOf456
 v212:=Tryz.zeroValue456
 t213:=Tryz.underlying457
 a213:=Tryz.isAgg457
 z213:=Tryz.sizeOf457
 t232:=Tryz.underlying481
 a232:=Tryz.isAgg481
 z232:=Tryz.sizeOf481
 v232:=Tryz.zeroValue481
 t233:=Tryz.underlying482
 a233:=Tryz.isAgg482
 z233:=Tryz.sizeOf482
 v233:=Tryz.zeroValue482
 g15:=by kernel_rfl
 g16:=by kernel_rfl
 g17:=by kernel_rfl
 g18:=by kernel_rfl
 g19:=by kernel_rfl
 t80:=Tryz.underlying82
 a80:=Tryz.isAgg82
 z80:=Tryz.sizeOf82
 v80:=Tryz.zeroValue82
 i0:=by kernel_rfl
 i2:=by kernel_rfl
 i3:=by kernel_rfl
 i4:=by kernel_rfl
 i5:=by kernel_rfl
 i9:=by kernel_rfl
 i20:=by kernel_rfl
 i21:=by kernel_rfl
 i37:=by kernel_rfl
 i46:=by kernel_rfl
 i51:=by kernel_rfl
 i53:=by kernel_rfl
 i75:=by kernel_rfl
 i76:=by kernel_rfl
 i80:=by kernel_rfl
 i85:=by kernel_rfl
 i127:=by kernel_rfl
 i143:=by kernel_rfl
 i145:=by kernel_rfl
 i167:=by kernel_rfl
 i168:=by kernel_rfl
 i171:=by kernel_rfl
 i173:=by kernel_rfl
 i175:=by kernel_rfl
 i210:=by kernel_rfl
 i212:=by kernel_rfl
 i232:=by kernel_rfl
 i233:=by kernel_rfl
 m15:=by kernel_rfl
 m16:=by kernel_rfl
 m17:=by kernel_rfl
 m18:=by kernel_rfl
 m19:=by kernel_rfl
 c0:=by kernel_rfl
 c2:=by kernel_rfl
 c3:=by kernel_rfl
 c4:=by kernel_rfl
 c5:=by kernel_rfl
 c9:=by kernel_rfl
 c20:=by kernel_rfl
 c21:=by kernel_rfl
 c37:=by kernel_rfl
 c46:=by kernel_rfl
 c51:=by kernel_rfl
 c53:=by kernel_rfl
 c75:=by kernel_rfl
 c76:=by kernel_rfl
 c80:=by kernel_rfl
 c85:=by kernel_rfl
 c127:=by kernel_rfl
 c143:=by kernel_rfl
 c145:=by kernel_rfl
 c167:=by kernel_rfl
 c168:=by kernel_rfl
 c171:=by kernel_rfl
 c173:=by kernel_rfl
 c175:=by kernel_rfl
 c210:=by kernel_rfl
 c212:=by kernel_rfl
 c213:=by kernel_rfl
 c232:=by kernel_rfl
 c233:=by kernel_rfl }
open Go.RowKit in
def Tryz.strconv_Atoi_ok(s:B0)(hmax:s.size≤9223372036854775806)(v:Int)(h:Lib.atoiAll s.data.toList = .ok v)(w:World) :
  Calls Tryz.prog 203 #[.string s] w λe w'=>e = .returned (.tuple #[.int .i64 v,.nilIface])∧(w'=w∨∃t,w'=Lib.bytesWorld w 5 t):=Any.strconv_Atoi_ok Tryz.laysC172 s hmax v h w
open Go.RowKit in
def Tryz.strconv_Atoi_syntax(s:B0)(hlim:s.size≤281474976710656)(h:Lib.atoiAll s.data.toList = .«syntax»)(ev:Value)(w:World)(hv:w.cell? ⟨2,0,none⟩=some ev)(hev:ev = .nilIface∨∃te pe,ev = .iface te pe) :
  Calls Tryz.prog 203 #[.string s] w λe w'=>∃N,e = .returned (.tuple #[.int .i64 (0),.iface 452 (.pointer (some ⟨N,0,none⟩))])∧w.heap.size≤N∧w'.heap[N]? = some (.cells #[.string ⟨#[65,116,111,105]⟩,.string s,ev] 468 (0,0))∧Below w.heap.size w w':=Any.strconv_Atoi_syntax Tryz.laysC172 s hlim h ev w hv hev
open Go.RowKit in
def Tryz.strconv_Atoi_range(s:B0)(hlim:s.size≤281474976710656)(h:Lib.atoiAll s.data.toList = .range)(ev:Value)(w:World)(hv:w.cell? ⟨3,0,none⟩=some ev)(hev:ev = .nilIface∨∃te pe,ev = .iface te pe) :
  Calls Tryz.prog 203 #[.string s] w λe w'=>∃N,e = .returned (.tuple #[.int .i64 (Lib.atoiSat s.data.toList),.iface 452 (.pointer (some ⟨N,0,none⟩))])∧w.heap.size≤N∧w'.heap[N]? = some (.cells #[.string ⟨#[65,116,111,105]⟩,.string s,ev] 468 (0,0))∧Below w.heap.size w w':=Any.strconv_Atoi_range Tryz.laysC172 s hlim h ev w hv hev
abbrev Tryz.gSyn:Nat:=2
abbrev Tryz.gRng:Nat:=3
end Go.Proofs

namespace Go.Proofs
open Go.Shelf
def Tryz.lays156_ren:Go.Shelf.Ren:=⟨fun | 156=>73 | 165=>134 | 166=>135 | 169=>136 | 240=>209 | 241=>210 | 276=>268 | 277=>269 | n=>n,fun | 31=>40 | 9=>9 | 3=>3 | 4=>4 | 0=>0 | 20=>20 | 72=>261 | 76=>264 | 70=>259 | 37=>48 | 75=>263 | 127=>369 | 164=>425 | 5=>5 | 80=>82 | n=>n,fun | n=>n⟩
def Tryz.lays156:Go.Proofs.Lays.n156 Tryz.prog Tryz.lays156_ren:={
 mixed:=by kernel_rfl
 f156:=Tryz.func73.trans cS
 f165:=Tryz.func134.trans cS
 f166:=Tryz.func135.trans cS
 f169:=Tryz.func136.trans cS
 f240:=Tryz.func209.trans cS
 f241:=Tryz.func210.trans cS
 f276:=Tryz.func268.trans cS
 f277:=Tryz.func269.trans cS
 t0:=Tryz.underlying0
 a0:=Tryz.isAgg0
 z0:=Tryz.sizeOf0
 v0:=Tryz.zeroValue0
 t3:=Tryz.underlying3
 a3:=Tryz.isAgg3
 z3:=Tryz.sizeOf3
 v3:=Tryz.zeroValue3
 t4:=Tryz.underlying4
 a4:=Tryz.isAgg4
 z4:=Tryz.sizeOf4
 v4:=Tryz.zeroValue4
 t9:=Tryz.underlying9
 a9:=Tryz.isAgg9
 z9:=Tryz.sizeOf9
 v9:=Tryz.zeroValue9
 t20:=Tryz.underlying20
 a20:=Tryz.isAgg20
 z20:=Tryz.sizeOf20
 v20:=Tryz.zeroValue20
 t31:=Tryz.underlying40
 a31:=Tryz.isAgg40
 z31:=Tryz.sizeOf40
 v31:=Tryz.zeroValue40
 t37:=Tryz.underlying48
 a37:=Tryz.isAgg48
 z37:=Tryz.sizeOf48
 v37:=Tryz.zeroValue48
 t70:=Tryz.underlying259
 a70:=Tryz.isAgg259
 z70:=Tryz.sizeOf259
 v70:=Tryz.zeroValue259
 t72:=Tryz.underlying261
 a72:=Tryz.isAgg261
 z72:=Tryz.sizeOf261
 v72:=Tryz.zeroValue261
 t75:=Tryz.underlying263
 a75:=Tryz.isAgg263
 z75:=Tryz.sizeOf263
 v75:=Tryz.zeroValue263
 t76:=Tryz.underlying264
 a76:=Tryz.isAgg264
 z76:=Tryz.sizeOf264
 v76:=Tryz.zeroValue264
 t127:=Tryz.underlying369
 a127:=Tryz.isAgg369
 z127:=Tryz.sizeOf369
 v127:=Tryz.zeroValue369
 t164:=Tryz.underlying425
 a164:=Tryz.isAgg425
 z164:=Tryz.sizeOf425
 v164:=Tryz.zeroValue425 }
def Tryz.Builder_Extra_156:Builder.Extra Tryz.prog Tryz.lays156_ren:={
 sizeBuilder:=by kernel_rfl
 liesBuilder:=by kernel_rfl
 t5:=Tryz.underlying5
 a5:=Tryz.isAgg5
 z5:=Tryz.sizeOf5
 v5:=Tryz.zeroValue5
 infoByte:=by kernel_rfl
 cellsByte:=by kernel_rfl
 sizeByte:=by kernel_rfl
 neB5:=by decide }
open Go.RowKit in
def Tryz.strings_Join(bk o c:Nat)(xs:List B0)(sep:B0)(w:World)
  (hcells:∀(j:Nat) x,xs[j]? = some x→w.cell? ⟨bk,o+j,none⟩=some (.string x))
  (hbk:bk<w.heap.size) (hN:xs.length≤140737488355328) (hcap:xs.length≤c)
  (hlen:(Lib.join (xs.map (·.data.toList)) sep.data.toList).length≤140737488355328) :
  Calls Tryz.prog 73 #[.slice (some ⟨bk,o,none⟩) xs.length c,.string sep] w λe w'=>e = .returned (.string ⟨(Lib.join (xs.map (·.data.toList)) sep.data.toList).toArray⟩)∧Below w.heap.size w w':=Any.strings_Join Tryz.lays156 Tryz.Builder_Extra_156 bk o c xs sep w hcells hbk hN hcap hlen
end Go.Proofs
namespace Go.Proofs.YtimahgbgejngiaaGreatDoor
open Go.Dm
attribute [local irreducible] L.load L.store L.chk L.new L.nonnil L.guard L.ite L.draw L.idx L.sem L.semR L.semU L.chkSem L.next L.call L.callV L.join L.alts L.loop L.begin L.endRound L.range
variable {w0 w:World}{E:List Seg}
class Sen(g1 g2:Nat)(w:World):Prop where
 syn:∃ev,w.cell? ⟨g1,0,none⟩=some ev∧(ev = .nilIface∨∃te pe,ev = .iface te pe)
 rng:∃ev,w.cell? ⟨g2,0,none⟩=some ev∧(ev = .nilIface∨∃te pe,ev = .iface te pe)
class YB(w0:World):Prop extends Tab Pr w0,Sen Tryz.gSyn Tryz.gRng w0
def Wp [YB w0](h:St w0 E w){n:Int}(h0:0≤n)(h1:n≤9223372036854775807){k:B0→PT}(hk:∀w',St w0 E w'→k (jw n.toNat) w'):L.call Pr xM [I n] (.one (.one .str)) k w:=by
 refine qE (Tryz.strconv_Itoa n (by omega) h1 w h.tab) λe w' ⟨he,m,os,hw⟩=>⟨jw n.toNat,?_,?_⟩
 ·rw[he,←Sq,Int.toNat_of_nonneg h0];rfl
 ·subst hw;exact hk _ ((h.drawn).grow os)
def Wo(h:St w0 E w)(i:Nat){s:Seg}(hi:nth E i=some s){v:Sl}{l:List B0}(hr:Rw eS zc 1 v l s)(hn:l.length<1000000000)(hsz:(VB l).size<1000000000000){k:B0→PT}(hk:∀w',St w0 E w'→k (VB l) w') :
  L.call Pr Ul [SlV v,.string Oj] (.one (.one .str)) k w:=by
 refine Sp (e:=zc) (s:=s) (v:=v) (l:=l) rfl yu (λg off cap w h1 h2 h3=>Tryz.strings_Join g off cap l Oj w h1 h2 (by omega) h3 ?_) (λp cap w=>Any.strings_Join_none Tryz.lays156 Tryz.Builder_Extra_156 p cap Oj w) h i hi hr hk;have:(VB l).size=(Lib.join (l.map (·.data.toList)) [32]).length:=by rw[←jl,gM]
 show(Lib.join (l.map (·.data.toList)) [32]).length≤_;omega
end Go.Proofs.YtimahgbgejngiaaGreatDoor

namespace Go.Dm
def dgB(b:UInt8):Bool:=decide (48≤b.toNat)&&decide (b.toNat≤57)
def ow{b:UInt8}:dgB b=true↔48≤b.toNat∧b.toNat≤57:=by unfold dgB;simp
def dvL(l:List UInt8):Nat:=l.foldl (λa x=>a*10+(x.toNat-48)) 0
def PI(l:List UInt8)(x:UInt8):dvL (l++[x])=dvL l*10+(x.toNat-48):=by unfold dvL;rw[List.foldl_append];rfl
def iJ{b:UInt8}(h:48≤b.toNat∧b.toNat≤57):UInt8.ofNat (48+(b.toNat-48))=b:=by
 rw[show 48+(b.toNat-48)=b.toNat by omega];exact UInt8.toNat_inj.1 (by simp)
def SX{a d:Nat}(ha:1≤a)(hd:d<10):Lib.decDigits (a*10+d)=Lib.decDigits a++[UInt8.ofNat (48+d)]:=by
 rw[Lib.decDigits,dif_neg (by omega),show(a*10+d)/10=a by omega,show(a*10+d)%10=d by omega]
def z02{l:List UInt8}(h:l.all dgB=true)(h0:∃b r,l=b::r∧b≠48):Lib.decDigits (dvL l)=l∧1≤dvL l:=by
 obtain⟨b,r,rfl,hb⟩:=h0;have main:∀r:List UInt8,(b::r).all dgB=true→Lib.decDigits (dvL (b::r))=b::r∧1≤dvL (b::r):=by
  intro r
  induction r using CZ with
  | h0=>
   intro h;simp only[List.all_cons,List.all_nil,Bool.and_true,ow]at h;have hne:b.toNat≠48:=λe=>hb (UInt8.toNat_inj.1 e);have e:dvL [b]=b.toNat-48:=by show 0*10+(b.toNat-48)=_;omega
   rw[e,Lib.decDigits_one (by omega),iJ h];exact⟨rfl,by omega⟩
  | h1 r x ih=>
   intro h;rw[←List.cons_append,List.all_append]at h;simp only[Bool.and_eq_true,List.all_cons,List.all_nil,and_true]at h;obtain⟨h1,h2⟩:=h;have h2':=ow.1 h2;obtain⟨i1,i2⟩:=ih (by simpa using h1);rw[←List.cons_append,PI,SX i2 (by omega),i1,iJ h2'];exact⟨rfl,by omega⟩
 exact main r h
def wZ(g:Nat):(Lib.decDigits g).all dgB=true:=by
 induction g using Nat.strongRecOn with
 | _ g ih=>
  by_cases h:g<10
  ·rw[Lib.decDigits_one h];have:(UInt8.ofNat (48+g)).toNat=48+g:=by simp;omega
   simp only[List.all_cons,List.all_nil,Bool.and_true,ow,this];omega
  ·rw[Lib.decDigits,dif_neg h,List.all_append,ih (g/10) (by omega)];have:(UInt8.ofNat (48+g%10)).toNat=48+g%10:=by simp;omega
   simp only[List.all_cons,List.all_nil,Bool.and_true,Bool.true_and,ow,this];omega
def SY{g:Nat}(h:1≤g):∃b r,Lib.decDigits g=b::r∧b≠48:=by
 induction g using Nat.strongRecOn with
 | _ g ih=>
  by_cases h1:g<10
  ·refine⟨_,_,Lib.decDigits_one h1,λe=>?_⟩;have e:=congrArg UInt8.toNat e;have:(UInt8.ofNat (48+g)).toNat=48+g:=by simp;omega
   rw[this]at e;have:(48:UInt8).toNat=48:=rfl;omega
  ·obtain⟨b,r,e,hb⟩:=ih (g/10) (by omega) (by omega);rw[Lib.decDigits,dif_neg h1,e];exact⟨b,r++[_],rfl,hb⟩
def Hv(g:Nat):dvL (Lib.decDigits g)=g:=by
 induction g using Nat.strongRecOn with
 | _ g ih=>
  by_cases h:g<10
  ·rw[Lib.decDigits_one h];have:(UInt8.ofNat (48+g)).toNat=48+g:=by simp;omega
   show 0*10+((UInt8.ofNat (48+g)).toNat-48)=g;omega
  ·rw[Lib.decDigits,dif_neg h,PI,ih (g/10) (by omega)];have:(UInt8.ofNat (48+g%10)).toNat=48+g%10:=by simp;omega
   omega
def z00:∀{l:List UInt8},l.all dgB=true→dvL l<10 ^ l.length:=by
 intro l
 induction l using CZ with
 | h0=>intro _;decide
 | h1 r x ih=>
  intro h;rw[List.all_append]at h;simp only[Bool.and_eq_true,List.all_cons,List.all_nil,and_true]at h;have h2:=ow.1 h.2;have:=ih h.1;rw[PI,List.length_append,List.length_singleton,Nat.pow_succ];omega
def wY{g:Nat}(h:g≤999999):(Lib.decDigits g).length≤6:=by
 rw[Lib.decDigits_length];rcases Nat.lt_or_ge (Lib.nDigits g) 7 with h1 | h1
 ·omega
 ·exfalso;have hk:=Lib.nDigits_pos g;have:∀n g:Nat,Lib.nDigits g=n+1→1≤n→10 ^ n≤g:=by
   intro n
   induction n with
   | zero=>intro g _ h;omega
   | succ n ih=>
    intro g hg _;by_cases hs:g<10
    ·rw[Lib.nDigits_small hs]at hg;omega
    ·rw[Lib.nDigits_big hs]at hg;rcases Nat.eq_zero_or_pos n with rfl | hn
     ·show 10≤g;omega
     ·have:=ih (g/10) (by omega) hn;rw[Nat.pow_succ];omega
  have h2:=this (Lib.nDigits g-1) g (by omega) (by omega);have h3:10 ^ 6≤10 ^ (Lib.nDigits g-1):=Nat.pow_le_pow_right (by decide) (by omega);have h4:(10:Nat) ^ 6=1000000:=by decide
  omega
def sH:∀(l:List UInt8)(acc:Nat),l.all dgB=true→acc*10 ^ l.length+dvL l<1000000000000000000→Lib.parseUint10 acc l = .ok (l.foldl (λa x=>a*10+(x.toNat-48)) acc)
 | [],_,_,_=>rfl
 | c::r,acc,h,hv=>by
  simp only[List.all_cons,Bool.and_eq_true]at h;have h1:=ow.1 h.1;have hp:1≤10 ^ r.length:=Nat.one_le_pow _ _ (by decide);have hfold:∀(l:List UInt8)(a:Nat),l.foldl (λa x=>a*10+(x.toNat-48)) a=a*10 ^ l.length+dvL l:=by
   intro l
   induction l using CZ with
   | h0=>intro a;simp[dvL]
   | h1 l x ih=>
    intro a;rw[List.foldl_append,PI,List.length_append,List.length_singleton,Nat.pow_succ,ih a];simp only[List.foldl_cons,List.foldl_nil];rw[Nat.add_mul,Nat.mul_assoc,Nat.add_assoc]
  have e:dvL (c::r)=(c.toNat-48)*10 ^ r.length+dvL r:=by
   have:dvL (c::r)=r.foldl (λa x=>a*10+(x.toNat-48)) (0*10+(c.toNat-48)):=rfl;rw[this,hfold];simp
  rw[e,List.length_cons,Nat.pow_succ]at hv;have hm:(acc*10+(c.toNat-48))*10 ^ r.length+dvL r<1000000000000000000:=by
   rw[Nat.add_mul,Nat.mul_assoc,Nat.mul_comm 10 (10 ^ r.length)];omega
  have hb:acc*10+(c.toNat-48)<1000000000000000000:=Nat.lt_of_le_of_lt (Nat.le_trans (Nat.le_mul_of_pos_right _ hp) (Nat.le_add_right _ _)) hm;simp only[Lib.parseUint10];rw[if_pos h1,if_neg (by omega),if_neg (by omega),sH r _ h.2 hm];rfl
def Dr{g:Nat}(h:g≤999999):Lib.atoiAll (Lib.decDigits g) = .ok (g:Int):=by
 have ha:=wZ g;have hv:=Hv g;have hpu:=sH (Lib.decDigits g) 0 ha (by omega);have hne:Lib.decDigits g≠[]:=λe=>by
  have:=Lib.nDigits_pos g;rw[←Lib.decDigits_length,e]at this;simp at this
 obtain⟨c,r,e⟩:=List.exists_cons_of_ne_nil hne;have hf:(Lib.decDigits g).foldl (λa x=>a*10+(x.toNat-48)) 0=g:=hv;rw[hf]at hpu;rw[e]at ha hpu hne ⊢;simp only[List.all_cons,Bool.and_eq_true]at ha;have h1:=ow.1 ha.1;rw[Lib.atoiAll_plain c r (by omega) (by omega)];unfold Lib.parseMag Lib.signless;rw[if_neg hne,hpu];simp only;rw[if_neg (by omega)]
end Go.Dm
namespace Go.Proofs.YtimahgbgejngiaaGreatDoor
open Go.Dm
attribute [local irreducible] L.load L.store L.chk L.new L.nonnil L.guard L.ite L.draw L.idx L.sem L.semR L.semU L.chkSem L.next L.call L.callV L.join L.alts L.loop L.begin L.endRound L.range
variable {w0 w:World}{E:List Seg}
def af(l:List UInt8):Bool:=
 decide (1≤(l.reverse.takeWhile dgB).length)&&(decide ((l.reverse.takeWhile dgB).length≤6)&&(decide ((l.reverse.takeWhile dgB).getLast? ≠some 48)&&match l.reverse.dropWhile dgB with
  | x::c=>decide (x.toNat=45)&&ZZ c.reverse 16
  | []=>false))
def wQ(s:B0):Bool:=af s.data.toList
def sC{c:List UInt8}{g:Nat}(hc:ZZ c 16=true)(h1:1≤g)(hg:g≤999999):af (c++45::Lib.decDigits g)=true:=by
 have hd:=wZ g;have e1:(c++45::Lib.decDigits g).reverse=(Lib.decDigits g).reverse++45::c.reverse:=by simp
 have h45:dgB 45=false:=by decide
 have ha:∀x∈(Lib.decDigits g).reverse,dgB x=true:=λx hx=>List.all_eq_true.1 hd x (List.mem_reverse.1 hx);have e2:((Lib.decDigits g).reverse++45::c.reverse).takeWhile dgB=(Lib.decDigits g).reverse:=by
  rw[List.takeWhile_append_of_pos ha,List.takeWhile_cons_of_neg (by rw[h45];decide),List.append_nil]
 have e3:((Lib.decDigits g).reverse++45::c.reverse).dropWhile dgB=45::c.reverse:=by
  rw[List.dropWhile_append_of_pos ha,List.dropWhile_cons_of_neg (by rw[h45];decide)]
 obtain⟨b,r,e,hb⟩:=SY h1;have hl:=wY hg;unfold af;rw[e1,e2,e3,List.length_reverse,List.getLast?_reverse,e];rw[e]at hl;simp only[List.length_cons,List.head?_cons,List.reverse_reverse,hc,Bool.and_true,Bool.and_eq_true,decide_eq_true_eq,ne_eq,Option.some.injEq];refine⟨by omega,by simpa using hl,hb,rfl⟩
def ET{l:List UInt8}(h:af l=true):∃c g,ZZ c 16=true∧1≤g∧g≤999999∧l=c++45::Lib.decDigits g:=by
 unfold af at h;have hs:l.reverse=l.reverse.takeWhile dgB++l.reverse.dropWhile dgB:=(List.takeWhile_append_dropWhile).symm;have hall:(l.reverse.takeWhile dgB).all dgB=true:=List.all_takeWhile;generalize l.reverse.takeWhile dgB=d at *
 generalize l.reverse.dropWhile dgB=r at *
 simp only[Bool.and_eq_true,decide_eq_true_eq]at h;obtain⟨h1,h2,h3,h4⟩:=h
 cases r with
 | nil=>cases h4
 | cons x c=>
  simp only[Bool.and_eq_true,decide_eq_true_eq]at h4;have hx:x=45:=UInt8.toNat_inj.1 h4.1;subst hx;have hl:l=c.reverse++45::d.reverse:=by
   have:=congrArg List.reverse hs;rw[List.reverse_reverse]at this;rw[this];simp
  have hda:d.reverse.all dgB=true:=by rw[List.all_reverse];exact hall
  have hne:d.reverse≠[]:=λe=>by rw[List.reverse_eq_nil_iff]at e;rw[e]at h1;simp at h1
  obtain⟨b,q,e⟩:=List.exists_cons_of_ne_nil hne;have hb:b≠48:=λeb=>h3 (by rw[←List.reverse_reverse d,List.getLast?_reverse,e,eb];rfl);obtain⟨e1,e2⟩:=z02 hda ⟨b,q,e,hb⟩;have hlt:=z00 hda;rw[List.length_reverse]at hlt;have hp:10 ^ d.length≤10 ^ 6:=Nat.pow_le_pow_right (by decide) h2;have h6:(10:Nat) ^ 6=1000000:=by decide
  exact⟨c.reverse,dvL d.reverse,h4.2,e2,by omega,by rw[e1];exact hl⟩
def PA{s:B0}:wQ s=true↔∃c g,ZZ c.data.toList 16=true∧1≤g∧g≤999999∧s=qm c g:=by
 constructor
 ·intro h;obtain⟨c,g,hc,h1,h2,e⟩:=ET h;exact⟨⟨c.toArray⟩,g,by simpa using hc,h1,h2,NZ (by rw[vq,e])⟩
 ·rintro⟨c,g,hc,h1,h2,rfl⟩;show af (qm c g).data.toList=true;rw[vq];exact sC hc h1 h2
def ND(c:B0)(g:Nat):Lib.lastIndexByte (qm c g) 45=c.size:=by
 have hd:=vq c g;have hc:=jl c;have hs:=jl (qm c g);rw[hd]at hs;simp only[List.length_append,List.length_cons]at hs;have at0:(qm c g).data[c.size]! = 45:=by
  rw[←Array.getElem!_toList,hd,←hc];simp
 have far:∀i,c.size<i→i<(qm c g).size→((qm c g).data[i]!).toNat≠45:=by
  intro i h1 h2;rw[←Array.getElem!_toList,hd];have hmem:(c.data.toList++45::Lib.decDigits g)[i]! ∈Lib.decDigits g:=by
   rw[List.getElem!_eq_getElem?_getD,List.getElem?_append_right (by omega),hc];obtain⟨m,hm⟩:∃m,i-c.size=m+1:=⟨i-c.size-1,by omega⟩;rw[hm,List.getElem?_cons_succ,List.getElem?_eq_getElem (by omega)];simp
  have:=ow.1 (List.all_eq_true.1 (wZ g) _ hmem);omega
 rcases Lib.lastIdx_spec (qm c g) 45 (qm c g).size with ⟨-,h⟩ | ⟨i,h1,h2,h3,h4⟩
 ·exact absurd (by rw[at0];rfl) (h c.size (by omega))
 ·show Lib.lastIdx _ _ _=_;rw[h2];have:¬c.size<i:=λhlt=>far i hlt h1 (by omega);have:¬i<c.size:=λhlt=>h4 c.size hlt (by omega) (by rw[at0];rfl);omega
def aD{s:B0}{i:Nat}(h:Lib.lastIndexByte s 45=(i:Int)):i<s.size∧s.data.toList=(s.extract 0 i).data.toList++45::(s.extract (i+1) s.size).data.toList:=by
 rcases Lib.lastIdx_spec s 45 s.size with ⟨h1,-⟩ | ⟨j,h1,h2,h3,h4⟩
 ·have:Lib.lastIdx s 45 s.size=(i:Int):=h;omega
 ·have h5:Lib.lastIdx s 45 s.size=(i:Int):=h;have:j=i:=by omega
  subst this;refine⟨h1,?_⟩;rw[data_extract,data_extract,List.drop_zero,Nat.sub_zero];have hl:=jl s;have hj:j<s.data.toList.length:=by omega
  have e45:s.data.toList[j]=45:=by
   have:s.data[j]! = s.data.toList[j]:=by rw[←Array.getElem!_toList,List.getElem!_eq_getElem?_getD,List.getElem?_eq_getElem hj];rfl
   rw[this]at h3;exact UInt8.toNat_inj.1 (by show _=(45:Nat);omega)
  rw[List.take_of_length_le (l:=s.data.toList.drop (j+1)) (by rw[List.length_drop];omega)]
  conv=>lhs;rw[←List.take_append_drop j s.data.toList,List.drop_eq_getElem_cons hj,e45]
def z0w [YB w0](h:St w0 E w){c:B0}(hsz:c.size≤1000000){n:Int}{k:B0→PT}(hk:∀w',St w0 E w'→k (if ZZ c.data.toList 16=true∧1≤n∧n≤999999 then qm c n.toNat else s_) w') :
  L.call Pr vT [.string c,I n] (.one (.one .str)) k w:=by
 refine za (cT _ _) ?_;unfold Fg;refine Tn h uX λw h=>?_;have bad:∀{w},St w0 E w→¬(ZZ c.data.toList 16=true∧1≤n∧n≤999999)→∃x,Value.string s_=RT.val (.one (.one .str)) x∧k x w:=λh hn=>⟨s_,rfl,by have:=hk _ h;rw[if_neg hn]at this;exact this⟩;refine it (λhb=>bad h λhh=>by rw[hh.1]at hb;cases hb) (λhb=>?_);have hb:ZZ c.data.toList 16=true:=by simpa using hb
 refine it (λh1=>?_) (λh1=>?_)<;>(try simp only[zB]at h1)
 ·exact bad h λhh=>by omega
 refine it (λh2=>?_) (λh2=>?_)<;>(try simp only[zB]at h2)
 ·exact bad h λhh=>by omega
 have hk:=hk;obtain⟨g,rfl⟩:∃g:Nat,n=(g:Int):=⟨n.toNat,by omega⟩;have hl:(Lib.decDigits g).length≤6:=wY (by omega);refine gd ?_ ?_
 ·simp only[xJ,XT];show((c.size+1:Nat):Int)≤_;omega
 refine Wp h (by omega) (by omega) λw h=>?_;have hsd:(jw g).size≤6:=by rw[←jl,NY];exact hl
 refine gd ?_ ⟨_,rfl,?_⟩
 ·rw[Int.toNat_natCast];have:(c++xJ).size=c.size+1:=by rw[ByteArray.size_append];rfl
  simp only[XT];omega
 ·have:=hk w h;rw[if_pos ⟨hb,by omega,by omega⟩,Int.toNat_natCast]at this;rw[Int.toNat_natCast];exact this
def _root_.Go.Dm.St.cell0(h:St w0 E w){g:Nat}{ev:Value}(hc:w0.cell? ⟨g,0,none⟩=some ev):w.cell? ⟨g,0,none⟩=some ev:=by
 have hg:g<w0.heap.size:=by
  rcases Nat.lt_or_ge g w0.heap.size with hg | hg
  ·exact hg
  ·unfold World.cell? at hc;rw[Array.getElem?_eq_none hg]at hc;cases hc
 unfold World.cell? at hc ⊢;rw[h.old g hg];exact hc
def iG [S:YB w0](h:St w0 E w){s:B0}(hs:s.size≤1000000000){k:Int×Option (TypeId×Value)×Unit→PT}
  (hk:∀n ev w',St w0 E w'→(ev=none∧Lib.atoiAll s.data.toList = .ok n∨ev≠none∧∀m,Lib.atoiAll s.data.toList≠.ok m)→k (n,ev,()) w') :
  L.call Pr fu [.string s] (.tup [.one (.int .i64),.one .iface]) k w:=by
 cases hA:Lib.atoiAll s.data.toList with
 | ok v=>
  refine qE (Tryz.strconv_Atoi_ok s (by omega) v hA w) λe w' ⟨he,hw⟩=>⟨(v,none,()),he,hk v none w' ?_ (.inl ⟨rfl,hA⟩)⟩;rcases hw with rfl | ⟨t,rfl⟩
  ·exact h
  ·exact h.bytes _ t
 | «syntax» =>
  obtain⟨ev,hc,hev⟩:=S.syn;refine qE (Tryz.strconv_Atoi_syntax s (by omega) hA ev w (h.cell0 hc) hev) λe w' ⟨N,he,_,_,hb⟩=>⟨(0,some (_,_),()),he,hk 0 _ w' (h.below hb) (.inr ⟨by simp,λm e=>by rw[hA]at e;cases e⟩)⟩
 | range=>
  obtain⟨ev,hc,hev⟩:=S.rng;refine qE (Tryz.strconv_Atoi_range s (by omega) hA ev w (h.cell0 hc) hev) λe w' ⟨N,he,_,_,hb⟩=>⟨(_,some (_,_),()),he,hk _ _ w' (h.below hb) (.inr ⟨by simp,λm e=>by rw[hA]at e;cases e⟩)⟩
def DA [YB w0](h:St w0 E w){s:B0}(hs:s.size≤1000000){k:B0×Int×Bool×Unit→PT}(hk:∀c n w',St w0 E w'→k (c,n,wQ s,()) w') :
  L.call Pr QI [.string s] (.tup [.one .str,.one (.int .i64),.one .bool]) k w:=by
 refine za (nL _) ?_;unfold Ms;refine LU (by omega) ?_;have no:∀{w},St w0 E w→¬wQ s=true→∃x,Value.tuple #[.string s_,.int .i64 0,.bool false]=RT.val (.tup [.one .str,.one (.int .i64),.one .bool]) x∧k x w:=λh hn=>⟨(s_,0,false,()),rfl,by
  have:=hk s_ 0 _ h;rw[Bool.eq_false_iff.2 hn]at this;exact this⟩
 have yes:wQ s=true→∃c g,ZZ c.data.toList 16=true∧1≤g∧g≤999999∧s=qm c g∧Lib.lastIndexByte s 45=c.size:=λhp=>by
  obtain⟨c,g,hc,h1,h2,e⟩:=PA.1 hp;exact⟨c,g,hc,h1,h2,e,by rw[e];exact ND c g⟩
 by_cases hneg:Lib.lastIndexByte s 45<0
 ·refine itT (decide_eq_true hneg) (no h λhp=>?_);obtain⟨c,g,-,-,-,-,e⟩:=yes hp;omega
 obtain⟨i,hi⟩:∃i:Nat,Lib.lastIndexByte s 45=(i:Int):=⟨(Lib.lastIndexByte s 45).toNat,by omega⟩;obtain⟨hlt,hpart⟩:=aD hi;rw[hi];have e1:Wi ((i:Int)+1)=((i+1:Nat):Int):=by rw[wr (by omega) (by omega)];simp
 rw[e1];refine itF (decide_eq_false (by omega)) (gd (by omega) ?_);rw[Int.toNat_natCast,Int.toNat_natCast];have hsub:(s.extract (i+1) s.size).size≤1000000000:=by rw[←jl,data_extract,List.length_take];omega
 have hsuf:∀c g,s=qm c g→c.size=i∧s.extract 0 i=c∧(s.extract (i+1) s.size).data.toList=Lib.decDigits g:=by
  intro c g e;have hc:c.size=i:=by
   have:=ND c g;rw[←e,hi]at this;omega
  have h1:s.extract 0 i=c:=by rw[e,←hc];exact ae c g
  refine⟨hc,h1,?_⟩;have h2:=vq c g;rw[←e,hpart,h1]at h2;simpa using h2
 refine iG h hsub λn ev w h hc=>?_;rcases hc with ⟨rfl,hok⟩ | ⟨hev,hbad⟩
 ·refine itF rfl (gd (by omega) ?_);rw[show Int.toNat 0=0 from rfl,Int.toNat_natCast];refine z0w h (by rw[←jl,data_extract,List.length_take];omega) λw h=>?_;by_cases hgood:ZZ (s.extract 0 i).data.toList 16=true∧1≤n∧n≤999999
  ·rw[if_pos hgood];by_cases heq:qm (s.extract 0 i) n.toNat=s
   ·refine itF (by rw[jN,decide_eq_true heq];rfl) (gd (by omega) ⟨(_,n,true,()),rfl,?_⟩);have hp:wQ s=true:=PA.2 ⟨_,n.toNat,hgood.1,by omega,by omega,heq.symm⟩;have:=hk (s.extract 0 i) n w h;rw[hp]at this;exact this
   ·refine itT (by rw[jN,decide_eq_false heq];rfl) (no h λhp=>heq ?_);obtain⟨c,g,hc,h1,h2,e,-⟩:=yes hp;obtain⟨-,e1,e2⟩:=hsuf c g e;rw[e2,Dr h2]at hok;injection hok with hok;rw[e1,←hok,Int.toNat_natCast];exact e.symm
  ·rw[if_neg hgood];have hne:¬s_=s:=λe=>by rw[←e]at hlt;exact absurd hlt (Nat.not_lt_zero _)
   refine itT (by rw[jN,decide_eq_false hne];rfl) (no h λhp=>hgood ?_);obtain⟨c,g,hc,h1,h2,e,-⟩:=yes hp;obtain⟨-,e1,e2⟩:=hsuf c g e;rw[e2,Dr h2]at hok;injection hok with hok;rw[e1,←hok];exact⟨hc,by omega,by omega⟩
 ·refine itT (by cases ev with | none=>exact absurd rfl hev | some x=>rfl) (no h λhp=>?_);obtain⟨c,g,hc,h1,h2,e,-⟩:=yes hp;obtain⟨-,e1,e2⟩:=hsuf c g e;exact hbad g (by rw[e2];exact Dr h2)
abbrev Qo(r:B0):Prop:=r.size≤1000000
def Pg(r:B0):Bool:=!decide (r=s_)&& !wQ r
def fc(t:B0):Bool:=!decide (t=s_)&& !ZZ t.data.toList 8
def tgE(t:Tgt):Int:=if(Pg t.1||fc t.2.1)=true then 1 else if 0≤@id Int t.2.2.1∧@id Int t.2.2.1≤100 then 0 else 2
def eB [YB w0](h:St w0 E w){t:Tgt}(hr:Qo t.1){k:Int→PT}(hk:∀w',St w0 E w'→k (tgE t) w'):L.call Pr oO [.agg #[.string t.1,.string t.2.1,I t.2.2.1]] (.one (.one (.int .i64))) k w:=by
 refine za (nC t) ?_;unfold Mj;refine nw h ?_;clear h;intro b1 w h
 (refine ldC h ?_)
 have fin:∀{w},St w0 ([Cl b1 zu [.string t.1,.string t.2.1,I t.2.2.1]]::E) w→
   (L.ite (Pg t.1||fc t.2.1) (λw'=>∃y,Value.int .i64 1=RT.val (.one (.one (.int .i64))) y∧k y w')<|
    L.load (.one (.int .i64)) ((⟨b1,0,none⟩:Addr).add 2) λ(x13:Int)=>
    L.callV Pr (.func (.func ye) #[.agg #[.int .i64 0,.int .i64 100]] #[]) [.int .i64 x13] (.one (.one (.bool))) λ(x14:Bool)=>
    L.ite (!x14) (λw'=>∃y,Value.int .i64 2=RT.val (.one (.one (.int .i64))) y∧k y w')<|
    λw'=>∃y,Value.int .i64 0=RT.val (.one (.one (.int .i64))) y∧k y w') w:=by
  intro w h;refine it (λhb=>?_) (λhb=>?_)
  ·have:=hk w (zj h);unfold tgE at this;rw[if_pos hb]at this;exact⟨1,rfl,this⟩
  ·(refine ldC h ?_)
   refine xd (fs:=#[.agg #[.int .i64 0,.int .i64 100]]) (cs:=#[]) Cc (Gv (0,100,()) t.2.2.1) ?_;unfold Vq;refine nw h ?_;clear h;intro b2 w h
   (dsimp only[zd,List.cons_append,List.nil_append]at h;refine ldC h ?_)
   have fin2:∀{w},∀b:Bool,(b=decide (0≤@id Int t.2.2.1∧@id Int t.2.2.1≤100))→St w0 ([Cl b2 cF [I 0,I 100]]::[Cl b1 zu [.string t.1,.string t.2.1,I t.2.2.1]]::E) w→(∃x,Value.bool b=RT.val (.one (.one .bool)) x∧
     (L.ite (!x) (λw'=>∃y,Value.int .i64 2=RT.val (.one (.one (.int .i64))) y∧k y w')<| λw'=>∃y,Value.int .i64 0=RT.val (.one (.one (.int .i64))) y∧k y w') w):=by
    intro w b e h;refine⟨b,rfl,?_⟩;have:=hk w (zj (zj h));unfold tgE at this;rw[if_neg (by simp[hb])]at this;refine it (λhx=>?_) (λhx=>?_)
    ·have hx:b=false:=by simpa using hx
     rw[if_neg (of_decide_eq_false (e.symm.trans hx))]at this;exact⟨2,rfl,this⟩
    ·have hx:b=true:=by simpa using hx
     rw[if_pos (of_decide_eq_true (e.symm.trans hx))]at this;exact⟨0,rfl,this⟩
   refine it (λh0=>?_) (λh0=>?_)
   ·have h0:=of_decide_eq_true h0
    (refine ldC h ?_)
    refine fin2 _ ?_ h;exact decide_eq_decide.2 ⟨λhh=>⟨h0,hh⟩,λhh=>hh.2⟩
   ·have h0:=of_decide_eq_false h0;exact fin2 _ (decide_eq_false λhh=>h0 hh.1).symm h
 have tag:∀{w}{k4:Bool×Unit→PT},(∀w',St w0 ([Cl b1 zu [.string t.1,.string t.2.1,I t.2.2.1]]::E) w'→k4 (fc t.2.1,()) w')→St w0 ([Cl b1 zu [.string t.1,.string t.2.1,I t.2.2.1]]::E) w→
   (L.load (.one (.str)) ((⟨b1,0,none⟩:Addr).add 1) λ(x7:B0)=>
    L.ite (!(x7.toList == s_.toList)) (
     L.load (.one (.str)) ((⟨b1,0,none⟩:Addr).add 1) λ(x8:B0)=>
     L.call Pr JX [.string x8] (.one (.one (.bool))) λ(x9:Bool)=>
     k4 (!x9,()))<|
    k4 (false,())) w:=by
  intro w k4 hk4 h
  (refine ldC h ?_)
  rw[jN];refine it (λhb=>?_) (λhb=>?_)
  ·have hb:decide (t.2.1=s_)=false:=by simpa using hb
   (refine ldC h ?_)
   refine Ig h uX λw h=>?_;have:=hk4 w h;unfold fc at this;rw[hb]at this;exact this
  ·have hb:decide (t.2.1=s_)=true:=by simpa using hb
   have:=hk4 w h;unfold fc at this;rw[hb]at this;exact this
 refine DA h hr λc n w h=>?_;refine ZC (λz w=>z=(Pg t.1||fc t.2.1,())∧St w0 ([Cl b1 zu [.string t.1,.string t.2.1,I t.2.2.1]]::E) w) (λk4 hk4=>?_) (λz w ⟨hz,h⟩=>by subst hz;exact fin h)
 (refine ldC h ?_)
 refine it (λhb=>?_) (λhb=>?_)
 ·have hb:decide (t.1=s_)=false:=by rw[jN]at hb;simpa using hb
  refine it (λhc=>?_) (λhc=>?_)
  ·have e:Pg t.1=true:=by unfold Pg;rw[hb];simpa using hc
   rw[e,Bool.true_or]at hk4;have hc:(!wQ t.1)=true:=hc;dsimp only;rw[hc];exact hk4 _ w ⟨rfl,h⟩
  ·have e:Pg t.1=false:=by unfold Pg;rw[hb];simpa using hc
   rw[e,Bool.false_or]at hk4;exact tag (λw h=>hk4 _ w ⟨rfl,h⟩) h
 ·have hb:decide (t.1=s_)=true:=by rw[jN]at hb;simpa using hb
  have e:Pg t.1=false:=by unfold Pg;rw[hb];rfl
  rw[e,Bool.false_or]at hk4;exact tag (λw h=>hk4 _ w ⟨rfl,h⟩) h
abbrev Nh(g:B0)(x:Tgt):Bool:=decide (x.2.1=g)
def bq{b:Nat}{t:Tgt}(h:St w0 ([Cl b zu (eT t)]::E) w){v:Sl}{ts:List Tgt}(r:RdE w0 E eT v ts)(hn:ts.length<1000000){k:Bool→PT}(hk:∀w',St w0 ([Cl b zu (eT t)]::E) w'→k (ts.any (Nh t.2.1)) w') :
  L.call Pr ym [.slice v.a v.len v.cap,.func (.func Qc) #[] #[.pointer (some ⟨b,0,none⟩)]] (.one (.one .bool)) k w:=by
 refine za (xZ v ⟨.func Qc,#[],#[.pointer (some ⟨b,0,none⟩)]⟩) ?_;unfold YM;refine za (XX v ⟨.func Qc,#[],#[.pointer (some ⟨b,0,none⟩)]⟩) ?_;unfold jj;have hl:=(r w (zj h)).len;refine zX (λq y w=>∃i:Nat,y=((i:Int),())∧q+i=ts.length∧(ts.take i).any (Nh t.2.1)=false∧St w0 ([Cl b zu (eT t)]::E) w) ts.length ⟨0,rfl,rfl,rfl,h⟩ ?_;clear h;rintro q y w ⟨i,rfl,hq,hno,h⟩ again hag;dsimp only;refine it (λhb=>?_) (λhb=>?_)<;>(try simp only[zB]at hb)
 ·have hi:i<ts.length:=by omega
  have hx:ts[i]? = some ts[i]:=List.getElem?_eq_getElem hi;generalize ts[i]=x at hx;have rr:=r w (zj h);refine rr.ix Vn (by omega) (by simpa using hi) λa ha=>?_;rw[Int.toNat_natCast]at ha;refine rr.lda Vn ha hx rfl ?_;refine xd (fs:=#[]) (cs:=#[.pointer (some ⟨b,0,none⟩)]) Wt (WA x ⟨b,0,none⟩) ?_;unfold PY;have h:St w0 ([Cl b zu [.string t.1,.string t.2.1,I t.2.2.1]]::E) w:=h;refine nw h ?_;clear h;intro b1 w h
  (refine ldC h ?_;refine ldC h ?_)
  refine⟨_,rfl,?_⟩;have h:St w0 ([Cl b zu (eT t)]::E) w:=zj h;rw[jN];refine it (λhc=>?_) (λhc=>?_)
  ·refine⟨_,rfl,_,rfl,?_⟩;have e:ts.any (Nh t.2.1)=true:=List.any_eq_true.2 ⟨x,List.mem_of_getElem? hx,hc⟩;have:=hk w h;rw[e]at this;rw[decide_eq_true (show(i:Int)≥0 by omega)];exact this
  ·rw[wr (by omega) (by omega)];refine hag (q-1) _ w (by omega) ⟨i+1,by simp,by omega,?_,h⟩;rw[List.take_add_one,hx,List.any_append,hno];simpa using hc
 ·have e:ts.take i=ts:=List.take_of_length_le (by omega);rw[e]at hno;refine⟨_,rfl,_,rfl,?_⟩;have:=hk w h;rw[hno]at this;exact this
def FN(ts:List Tgt)(i:Nat):Bool:=match ts[i]? with
 | some t=>!decide (t.2.1=s_)&&(ts.take i).any (Nh t.2.1)
 | none=>false
def pct(t:Tgt):Int:=t.2.2.1
def HC(ts:List Tgt):Int:=if(List.range ts.length).any (FN ts)=true then 5 else if(ts.map pct).sum=100 then 0 else 4
def Is{l:List Tgt}(h:∀t∈l,0≤pct t∧pct t≤100):0≤(l.map pct).sum∧(l.map pct).sum≤100*l.length:=by
 induction l with
 | nil=>simp
 | cons t l ih=>
  have h1:=h t (by simp);have h2:=ih λx hx=>h x (by simp[hx]);simp only[List.map_cons,List.sum_cons,List.length_cons];omega
def HM(h:St w0 E w){v:Sl}{ts:List Tgt}(r:RdE w0 E eT v ts)(hvc:v.len≤v.cap)(hn:ts.length≤1000)(hp:∀t∈ts,0≤pct t∧pct t≤100){k:Int→PT}(hk:∀w',St w0 E w'→k (HC ts) w') :
  L.call Pr MG [.slice v.a v.len v.cap] (.one (.one (.int .i64))) k w:=by
 refine za (bC v) ?_;unfold DC;have hl:=(r w h).len;refine zX (λq y w=>∃i:Nat,y=(((ts.take i).map pct).sum,(i:Int),())∧q+i=ts.length∧(List.range i).any (FN ts)=false∧St w0 E w) ts.length ⟨0,rfl,rfl,rfl,h⟩ ?_;clear h;rintro q y w ⟨i,rfl,hq,hno,h⟩ again hag;dsimp only;refine it (λhb=>?_) (λhb=>?_)<;>(try simp only[zB]at hb)
 ·have hi:i<ts.length:=by omega
  have hx:ts[i]? = some ts[i]:=List.getElem?_eq_getElem hi;generalize ts[i]=t at hx;have ht:=hp t (List.mem_of_getElem? hx);have hs:=Is (l:=ts.take i) λx hx=>hp x (List.mem_of_mem_take hx);rw[List.length_take]at hs;have es:((ts.take (i+1)).map pct).sum=((ts.take i).map pct).sum+pct t:=by rw[List.take_add_one,hx];simp
  have tw:FN ts i=(!decide (t.2.1=s_)&&(ts.take i).any (Nh t.2.1)):=by unfold FN;rw[hx]
  have next:∀{w},FN ts i=false→St w0 E w→again (Wi (((ts.take i).map pct).sum+pct t),Wi ((i:Int)+1),()) w:=by
   intro w hf h;rw[wr (by omega) (by omega),wr (by omega) (by omega)];refine hag (q-1) _ w (by omega) ⟨i+1,by rw[es];simp,by omega,?_,h⟩;rw[List.range_succ,List.any_append,hno];simp[hf]
  refine jd ?_;have rr:=r w h;refine rr.ix Vn (by omega) (by simpa using hi) λa ha=>?_;rw[Int.toNat_natCast]at ha;refine rr.lda Vn ha hx rfl ?_;refine nw h ?_;clear h;intro b7 w h
  (refine stC h ?_;clear h;intro w h;dsimp only[zE,zd]at h;refine ldC h ?_;refine ldC h ?_)
  rw[jN];refine it (λhc=>?_) (λhc=>?_)
  ·refine gd (by omega) ?_;have hc:decide (t.2.1=s_)=false:=by simpa using hc
   rw[hc]at tw;have h:St w0 ([Cl b7 zu (eT t)]::E) w:=h;have r2:RdE w0 E eT ⟨if Int.toNat ((v.cap:Nat):Int)=Int.toNat (0:Int)then v.a else Option.map (λa:Addr=>a.add (Int.toNat (0:Int)*3)) v.a,Int.toNat (i:Int)-Int.toNat (0:Int),Int.toNat ((v.cap:Nat):Int)-Int.toNat (0:Int)⟩ (ts.take i):=by
    intro w h;have:=(r w h).cut Vn 0 i (by omega) (by omega) hvc (v.cap-0);simpa using this
   refine bq h r2 (by rw[List.length_take];omega) λw h=>?_;refine it (λhd=>?_) (λhd=>?_)
   ·have e:(List.range ts.length).any (FN ts)=true:=List.any_eq_true.2 ⟨i,List.mem_range.2 hi,by rw[tw,hd];rfl⟩;have:=hk w (zj h);unfold HC at this;rw[if_pos e]at this;exact⟨_,rfl,this⟩
   ·have hd:(ts.take i).any (Nh t.2.1)=false:=by simpa using hd
    exact next (by rw[tw,hd];rfl) (zj h)
  ·have hc:decide (t.2.1=s_)=true:=by simpa using hc
   exact next (by rw[tw,hc];rfl) (zj h)
 ·have e:ts.take i=ts:=List.take_of_length_le (by omega);have ei:i=ts.length:=by omega
  rw[e];rw[ei]at hno;have:=hk w h;unfold HC at this;rw[if_neg (by simp[hno])]at this;refine it (λhs=>?_) (λhs=>?_)<;>(try simp only[zB]at hs)
  ·rw[if_neg hs]at this;exact⟨_,rfl,this⟩
  ·rw[if_pos hs]at this;exact⟨_,rfl,this⟩
def Gb(a:ARt):Int:=
 if ZZ a.name.data.toList 16=true∧ZZ a.cfg.data.toList 16=true then
  if 0≤a.roll∧a.roll≤60 then
   if 1≤a.ts.length∧a.ts.length≤6 then
    match a.ts.find? λt=>decide (tgE t≠0) with
    | some t=>tgE t
    | none=>HC a.ts
   else 3
  else 2
 else 1
def AB{t:Tgt}(h:tgE t=0):0≤pct t∧pct t≤100:=by
 unfold tgE at h;split at h
 ·cases h
 ·split at h
  ·rename_i h2;exact h2
  ·cases h
def BA [YB w0](h:St w0 E w){a:ARt}{v:Sl}(r:RdE w0 E eT v a.ts)(hvc:v.len≤v.cap)(hr:∀t∈a.ts,Qo t.1){k:Int→PT}(hk:∀w',St w0 E w'→k (Gb a) w') :
  L.call Pr Zc [.agg #[.string a.name,.string a.cfg,.slice v.a v.len v.cap,I a.roll]] (.one (.one (.int .i64))) k w:=by
 refine za (WB (a.name,a.cfg,v,a.roll,())) ?_;unfold PZ;have hl:=(r w h).len;refine nw h ?_;clear h;intro b1 w h;unfold Gb at hk;refine ZC (λz w=>z=(!(ZZ a.name.data.toList 16&&ZZ a.cfg.data.toList 16),())∧St w0 ([Cl b1 zG [.string a.name,.string a.cfg,.slice v.a v.len v.cap,I a.roll]]::E) w) (λk2 hk2=>?_) (λz w ⟨hz,h⟩=>?_)
 ·(dsimp only[zd,List.cons_append,List.nil_append]at h;refine ldC h ?_)
  refine Tn h uX λw h=>?_;refine it (λhc=>?_) (λhc=>?_)
  ·have hc:ZZ a.name.data.toList 16=false:=by simpa using hc
   rw[hc]at hk2 ⊢;exact hk2 _ w ⟨rfl,h⟩
  ·have hc:ZZ a.name.data.toList 16=true:=by simpa using hc
   rw[hc]at hk2
   (refine ldC h ?_)
   refine Tn h uX λw h=>?_;exact hk2 _ w ⟨by simp,h⟩
 ·subst hz;dsimp only;have out:∀{w}{x:Int},(∀w',St w0 E w'→k x w')→St w0 ([Cl b1 zG [.string a.name,.string a.cfg,.slice v.a v.len v.cap,I a.roll]]::E) w→∃y,I x=RT.val (.one (.one (.int .i64))) y∧k y w:=λhx h=>⟨_,rfl,hx _ (zj h)⟩;refine it (λhc=>?_) (λhc=>?_)
  ·have hc:(ZZ a.name.data.toList 16&&ZZ a.cfg.data.toList 16)=false:=(Bool.not_eq_true' _).mp hc;rw[if_neg (λhh=>by rw[hh.1,hh.2]at hc;cases hc)]at hk;exact out hk h
  rw[if_pos (by simpa using hc)]at hk
  (refine ldC h ?_)
  refine vu h λw h=>?_;refine it (λhc=>?_) (λhc=>?_)
  ·have hc:=of_decide_eq_false ((Bool.not_eq_true' _).mp hc);rw[if_neg hc]at hk;exact out hk h
  rw[if_pos (by simpa using hc)]at hk
  (refine ldC h ?_)
  refine vu h λw h=>?_;refine it (λhc=>?_) (λhc=>?_)
  ·have hc:=of_decide_eq_false (show decide (1≤((v.len:Nat):Int)∧((v.len:Nat):Int)≤6)=false from(Bool.not_eq_true' _).mp hc);rw[if_neg (by omega)]at hk;exact out hk h
  have hc:=of_decide_eq_true (show decide (1≤((v.len:Nat):Int)∧((v.len:Nat):Int)≤6)=true by simpa using hc);rw[if_pos (by omega)]at hk
  (refine ldC h ?_)
  refine zX (λq y w=>∃i:Nat,y=((i:Int),())∧q+i=a.ts.length∧(a.ts.take i).find? (λt=>decide (tgE t≠0))=none∧St w0 ([Cl b1 zG [.string a.name,.string a.cfg,.slice v.a v.len v.cap,I a.roll]]::E) w) a.ts.length ⟨0,rfl,rfl,rfl,h⟩ ?_;clear h;rintro q y w ⟨i,rfl,hq,hno,h⟩ again hag;dsimp only;refine it (λhb=>?_) (λhb=>?_)<;>(try simp only[zB]at hb)
  ·have hi:i<a.ts.length:=by omega
   have hx:a.ts[i]? = some a.ts[i]:=List.getElem?_eq_getElem hi;have hdr:a.ts=a.ts.take i++a.ts[i]::a.ts.drop (i+1):=by rw[←List.drop_eq_getElem_cons hi,List.take_append_drop]
   generalize a.ts[i]=t at hx hdr;have rr:=r w (zj h);refine rr.ix Vn (by omega) (by simpa using hi) λad ha=>?_;rw[Int.toNat_natCast]at ha;refine rr.lda Vn ha hx rfl ?_;refine nw h ?_;clear h;intro b17 w h
   (refine stC h ?_;clear h;intro w h;dsimp only[zE,zd]at h;refine laC h ?_)
   refine eB (t:=t) h (hr t (List.mem_of_getElem? hx)) λw h=>?_;have h:=zj h;refine it (λhc=>?_) (λhc=>?_)
   ·have hc:tgE t≠0:=by simpa using hc
    have e:a.ts.find? (λt=>decide (tgE t≠0))=some t:=by
     rw[hdr,List.find?_append,hno];simp[hc]
    rw[e]at hk;exact out hk h
   ·have hc:tgE t=0:=by simpa using hc
    rw[wr (by omega) (by omega)];refine hag (q-1) _ w (by omega) ⟨i+1,by simp,by omega,?_,h⟩;rw[List.take_add_one,hx,List.find?_append,hno];simp[hc]
  ·have e:a.ts.take i=a.ts:=List.take_of_length_le (by omega);rw[e]at hno;rw[hno]at hk;have hall:∀t∈a.ts,0≤pct t∧pct t≤100:=λt ht=>AB (by simpa using List.find?_eq_none.1 hno t ht)
   (refine ldC h ?_)
   refine HM h (λw h=>r w (zj h)) hvc (by omega) hall λw h=>?_;exact out hk h
def rt{v:Sl}{l:List Tgt}(r:Rd w eT v l){n:Int}{x:Tgt}(hx:l[n.toNat]? = some x)(h0:0≤n){f:Nat}{lf:Lf}{u:Value}{y:lf.T}{kk:lf.T→PT}(hu:nth (eT x) f=some u)(hy:un2 lf u=some y)(hk:kk y w) :
  L.idx v.a n v.len 3 (λa=>L.load (.one lf) (a.add f) kk) w:=
 r.ix Vn h0 (List.getElem?_eq_some_iff.1 hx).1 λa ha=>r.ld Vn ha hx hu hy hk
abbrev T3:=B0×B0×Int
def WX(a b:T3):Bool:=(a.1 == b.1)&&((a.2.1 == b.2.1)&&((a.2.2 == b.2.2)&&true))
def ac(a b:T3):WX a b=true↔a=b:=by
 obtain⟨a1,a2,a3⟩:=a;obtain⟨b1,b2,b3⟩:=b;have e1:(@BEq.beq B0 _ a1 b1)=true↔a1=b1:=Tk;have e2:(@BEq.beq B0 _ a2 b2)=true↔a2=b2:=Tk;unfold WX;simp only[Bool.and_eq_true,beq_iff_eq,and_true,Prod.mk.injEq];exact and_congr e1 (and_congr e2 Iff.rfl)
def SM(a b:T3)(w:World):(Op.equalIn 10000 zu (.agg #[.string a.1,.string a.2.1,I a.2.2]) (.agg #[.string b.1,.string b.2.1,I b.2.2])).run Pr w = .ok (WX a b) w:=by
 have hS:Pr.underlying zu=some (.struct (Pr.fieldsOf zu)):=by kernel_rfl
 have hp:Pr.stoodInHeld zu=false:=by kernel_rfl
 obtain⟨a1,a2,a3⟩:=a;obtain⟨b1,b2,b3⟩:=b;rw[show(10000:Nat)=9999+1 from rfl,run_equalIn_agg w 9999 zu _ _ hS hp];have u3:=Tryz.underlying3;have i3:=Tryz.isAgg3;have z3:=Tryz.sizeOf3;have u9:=Tryz.underlying9;have i9:=Tryz.isAgg9;have z9:=Tryz.sizeOf9;simp only[Program.fieldsOf,Tryz.underlying38]
 go_simp
 have e1:(ByteArray.toList a1=ByteArray.toList b1)↔(@BEq.beq B0 _ a1 b1)=true:=by rw[beq_toListBytes];simp
 have e2:(ByteArray.toList a2=ByteArray.toList b2)↔(@BEq.beq B0 _ a2 b2)=true:=by rw[beq_toListBytes];simp
 unfold WX;by_cases h1:(@BEq.beq B0 _ a1 b1)=true
 ·rw[if_pos (e1.2 h1)];simp only[show(a1 == b1)=true from h1,Bool.true_and];by_cases h2:(@BEq.beq B0 _ a2 b2)=true
  ·rw[if_pos (e2.2 h2)];simp only[show(a2 == b2)=true from h2,Bool.true_and];by_cases h3: @Eq Int a3 b3
   ·cases h3;simp
   ·simp[h3]
  ·rw[if_neg (λh=>h2 (e2.1 h))];have:(a2 == b2)=false:=by simpa using h2
   simp[this]
 ·rw[if_neg (λh=>h1 (e1.1 h))];have:(a1 == b1)=false:=by simpa using h1
  simp[this]
def IV(a b:T3)(w:World):(do eqGuard .eql zu (.tmp 0) (.tmp 0) (.agg #[.string a.1,.string a.2.1,I a.2.2]) (.agg #[.string b.1,.string b.2.1,I b.2.2]);binOp .eql zu (.agg #[.string a.1,.string a.2.1,I a.2.2]) (.agg #[.string b.1,.string b.2.1,I b.2.2]):Sem Value).run Pr w = .ok (.bool (WX a b)) w:=
 RF (by kernel_rfl) (SM a b w)
def HP(h:St w0 E w){k:Option Addr→PT}(hk:∀b s w',ShS b ⟨[],[],0⟩ s→St w0 (s::E) w'→k (some ⟨b,0,none⟩) w'):L.call Pr fA [] (.one (.one .ptr)) k w:=by
 refine za rh ?_;unfold cM;refine ig h λbc sc w hC h=>?_;refine ie h λbr sr w hR h=>?_;refine nw h ?_;clear h;intro b w h;refine⟨_,rfl,hk b _ w ⟨⟨by simp,by simp,λx=>by simp[jK,zA,lQ,Thg.gen],by simp,by simp⟩,bc,br,sc,sr,hC,hR,rfl⟩ ?_⟩;have h:=Zm (Zm (yL h));exact h.glue3
abbrev Hs:E1:=.agg [.str,.int .i64,.int .i64,.int .i64,.int .i64,.int .i64]
def oe:Cfg:=(s_,0,0,0,0,0,())
def jx(a:Yu)(n:B0):Cfg×Int×Int×Bool×Unit:=if(jK a.m n).is=true then(Gk (jK a.m n),(jK a.m n).ver,(jK a.m n).gen,true,())else(oe,0,0,false,())
def Dv(h:St w0 E w)(i:Nat){b:Nat}{a:Yu}{s:Seg}(hi:nth E i=some s)(hs:ShS b a s){n:B0}{k:Hs.T×Int×Int×Bool×Unit→PT}
  (hk:∀w',St w0 E w'→k (jx a n) w') :
  L.call Pr JW [pO b,.string n] (.tup [Hs,.one (.int .i64),.one (.int .i64),.one .bool]) k w:=by
 obtain⟨ok,bc,br,sc,sr,hC,hR,rfl⟩:=hs;refine za (Fz _ _) ?_;unfold Vb;unfold jx at hk;have h:=(h.front i hi).split3;refine nw h ?_;clear h;intro b1 w h
 (refine nn ?_;refine ldC h ?_)
 refine z0m h 2 rfl hC λw h=>?_;generalize jK a.m n=t at hk;refine nw h ?_;clear h;intro b5 w h
 (refine stC h ?_;clear h;intro w h;dsimp only[zE,zd]at h)
 refine it (λhc=>?_) (λhc=>?_)<;>(try simp only[zB]at hc)
 ·(refine stC h ?_;clear h;intro w h;dsimp only[zE,zd]at h;refine laC h ?_)
  have hc:¬t.is=true:=by simp[Thg.is,hc]
  rw[if_neg hc]at hk;exact⟨(oe,0,0,false,()),rfl,hk w (St.again i hi (zj (zj h)).glue3)⟩
 ·have hc:t.is=true:=by simpa using hc
  rw[if_pos hc]at hk
  (refine dr h ?_;clear h;intro w h;refine laC h ?_;refine ldC h ?_;refine ldC h ?_;refine stC h ?_;clear h;intro w h;dsimp only[zE,zd]at h;refine ckC h ?_;refine ckC h ?_;refine ckC h ?_;refine laC h ?_)
  exact⟨(Gk t,t.ver,t.gen,true,()),rfl,hk w (St.again i hi (zj (zj h)).glue3)⟩
def Lz(m:List (B0×Thg))(n:B0):List (B0×Thg):=Zp m n (s_,0,0,0,0,0,0,(jK m n).gen,false,())
def Ip(m:List (B0×Thg))(n:B0)(ver:Int):List (B0×Thg):=if fG (jK m n) ver false=0 then Lz m n else m
def eF(h:St w0 E w)(i:Nat){b:Nat}{m:List (B0×Thg)}{s:Seg}(hi:nth E i=some s)(hs:Me b m s){n:B0}{ver:Int}{k:Int→PT}
  (hk:∀s' w',Me b (Ip m n ver) s'→St w0 (zd E i s') w'→k (fG (jK m n) ver false) w') :
  L.call Pr xl [pO b,.string n,I ver] (.one (.one (.int .i64))) k w:=by
 refine za (oY _ _ _) ?_;unfold QL;refine Eh h i hi hs λw h=>?_;unfold Ip at hk;refine jd ?_;refine it (λhe=>?_) (λhe=>?_)<;>(try simp only[zB]at he)
 ·refine iA h i hi hs λs' w hs' h=>?_;rw[if_pos he]at hk;exact⟨_,rfl,hk s' w hs' h⟩
 ·rw[if_neg he]at hk;exact⟨_,rfl,hk s w hs (by rwa [yy hi])⟩
def Hg{m:List (B0×Thg)}{n:B0}{ver:Int}(h:fG (jK m n) ver false=0):(zA m n).isSome=true:=by
 cases hg:zA m n with
 | some x=>rfl
 | none=>unfold fG jK at h;rw[hg]at h;simp[lQ]at h
def Hf{m:List (B0×Od)}{n:B0}{ver:Int}(h:ni (QZ m n).is (QZ m n).ver ver false=0):(zA m n).isSome=true:=by
 cases hg:zA m n with
 | some x=>rfl
 | none=>unfold ni QZ at h;rw[hg]at h;simp[Sg]at h
def Uf(a:Yu)(kind:Int)(n:B0)(ver:Int):Yu×Int:=
 if kind=1 then(if fG (jK a.m n) ver false=0 then(⟨Lz a.m n,a.r,a.n+1⟩,0)else(a,fG (jK a.m n) ver false))
 else if kind=2 then(if ni (QZ a.r n).is (QZ a.r n).ver ver false=0 then(⟨a.m,MR a.r n,a.n+1⟩,0)else(a,ni (QZ a.r n).is (QZ a.r n).ver ver false))
 else(a,12)
def eR(h:St w0 E w)(i:Nat){b:Nat}{a:Yu}{s:Seg}(hi:nth E i=some s)(hs:ShS b a s)(hn:a.n<900000000){kind:Int}{n:B0}{ver:Int}{k:Int→PT}
  (hk:∀s' w',ShS b (Uf a kind n ver).1 s'→St w0 (zd E i s') w'→k (Uf a kind n ver).2 w') :
  L.call Pr ue [pO b,I kind,.string n,I ver] (.one (.one (.int .i64))) k w:=by
 have hs0:=hs;obtain⟨ok,bc,br,sc,sr,hC,hR,rfl⟩:=hs;have hlo:=ok.lo;have hfm:=ok.fm;have hfr:=ok.fr;refine za (po _ _ _ _) ?_;unfold Ku;unfold Uf at hk;have h0:=h;have h:=(h.front i hi).split3;refine jd ?_;refine it (λh1=>?_) (λh1=>?_)<;>(try simp only[zB]at h1)
 ·rw[if_pos h1]at hk
  (refine nn ?_;refine ldC h ?_)
  refine eF h 1 rfl hC λsc' w hC' h=>?_;unfold Ip at hC';refine jd ?_;refine it (λhe=>?_) (λhe=>?_)<;>(try simp only[zB]at he)
  ·rw[if_pos he]at hk hC';have h:St w0 (shB b bc br a.n::sc'::sr::Zi E i) w:=h
   (refine nn ?_;refine ldC h ?_;refine nn ?_;refine stC h ?_;clear h;intro w h;dsimp only[zE,zd]at h)
   rw[wr (by omega) (by omega)]at h;rw[he];refine⟨_,rfl,hk _ w ⟨⟨by simp only;omega,by simp only;omega,λx=>?_,?_,by simp only;omega⟩,bc,br,sc',sr,hC',hR,rfl⟩ (St.back i hi h.glue3)⟩
   ·simp only[Lz];rw[pX];have hx:=ok.gen x;have hy:=ok.gen n;split
    ·simp only[Thg.gen]at hy ⊢;omega
    ·omega
   ·simp only[Lz];rw[Bj (Hg he)];omega
  ·rw[if_neg he]at hk hC';exact⟨_,rfl,hk _ w ⟨ok,bc,br,sc',sr,hC',hR,rfl⟩ (St.back i hi (St.glue3 h))⟩
 ·rw[if_neg h1]at hk;refine it (λh2=>?_) (λh2=>?_)<;>(try simp only[zB]at h2)
  ·rw[if_pos h2]at hk
   (refine nn ?_;refine ldC h ?_)
   refine eE h 2 rfl hR λsr' w hR' h=>?_;unfold Io at hR';refine jd ?_;refine it (λhe=>?_) (λhe=>?_)<;>(try simp only[zB]at he)
   ·rw[if_pos he]at hk hR';have h:St w0 (shB b bc br a.n::sc::sr'::Zi E i) w:=h
    (refine nn ?_;refine ldC h ?_;refine nn ?_;refine stC h ?_;clear h;intro w h;dsimp only[zE,zd]at h)
    rw[wr (by omega) (by omega)]at h;rw[he];refine⟨_,rfl,hk _ w ⟨⟨by simp only;omega,by simp only;omega,λx=>?_,by simp only;omega,?_⟩,bc,br,sc,sr',hC,hR',rfl⟩ (St.back i hi h.glue3)⟩
    ·have hx:=ok.gen x;simp only;omega
    ·simp only[MR];rw[Bj (Hf he)];omega
   ·rw[if_neg he]at hk hR';exact⟨_,rfl,hk _ w ⟨ok,bc,br,sc,sr',hC,hR',rfl⟩ (St.back i hi (St.glue3 h))⟩
  ·rw[if_neg h2]at hk;refine jd (itF (by simp) ?_);exact⟨_,rfl,hk _ w hs0 (by rwa [yy hi])⟩
abbrev sT3(x y:Tgt):Bool:=(x.1 == y.1)&&((x.2.1 == y.2.1)&&((x.2.2.1 == y.2.2.1)&&true))
def ER(x y:Tgt):sT3 x y=true↔x=y:=by
 obtain⟨x1,x2,x3,⟨⟩⟩:=x;obtain⟨y1,y2,y3,⟨⟩⟩:=y;have:=ac (x1,x2,x3) (y1,y2,y3);simp only[Prod.mk.injEq]at this;refine Iff.trans this ⟨λ⟨a,b,c⟩=>?_,λh=>?_⟩
 ·subst a;subst b;cases c;rfl
 ·cases h;exact⟨rfl,rfl,rfl⟩
def AE{α:Type}{l m:List α}{i:Nat}{x y:α}(h:l.take i=m.take i)(hx:l[i]? = some x)(hy:m[i]? = some y)(e:x=y):l.take (i+1)=m.take (i+1):=by
 rw[List.take_add_one,List.take_add_one,hx,hy,h,e]
def z2u(h:St w0 E w){v1 v2:Sl}{l1 l2:List Tgt}(r1:RdE w0 E eT v1 l1)(r2:RdE w0 E eT v2 l2)(hn:l1.length<1000000000){k:Bool→PT}(hk:∀b w',(b=true↔l1=l2)→St w0 E w'→k b w') :
  L.call Pr Zt [.slice v1.a v1.len v1.cap,.slice v2.a v2.len v2.cap,.func (.func vR) #[] #[]] (.one (.one .bool)) k w:=by
 refine za (YV v1 v2 ⟨.func vR,#[],#[]⟩) ?_;unfold ya;have hl1:=(r1 w h).len;have hl2:=(r2 w h).len;refine it (λhc=>?_) (λhc=>?_)<;>(try simp only[zB]at hc)
 ·exact⟨_,rfl,hk false w ⟨λh=>by(cases h),λe=>(hc (by rw[hl1,hl2,e])).elim⟩ h⟩
 refine zX (λq y w=>∃i:Nat,y=((i:Int),())∧q+i=l1.length∧l1.take i=l2.take i∧St w0 E w) l1.length ⟨0,rfl,rfl,rfl,h⟩ ?_;clear h;rintro q y w ⟨i,rfl,hq,he,h⟩ again hag;dsimp only;refine it (λhb=>?_) (λhb=>?_)<;>(try simp only[zB]at hb)
 ·have hi:i<l1.length:=by omega
  have hi2:i<l2.length:=by omega
  have hx:l1[i]? = some l1[i]:=List.getElem?_eq_getElem hi;have hy:l2[i]? = some l2[i]:=List.getElem?_eq_getElem hi2;generalize l1[i]=x at hx;generalize l2[i]=y at hy;refine(r1 w h).ix Vn (by omega) (by simpa using hi) λa ha=>?_;rw[Int.toNat_natCast]at ha;refine(r1 w h).lda Vn ha hx rfl ?_;refine nw h ?_;clear h;intro b5 w h
  (refine stC h ?_;clear h;intro w h;dsimp only[zE,zd]at h)
  refine(r2 w (zj h)).ix Vn (by omega) (by simpa using hi2) λa2 ha2=>?_;rw[Int.toNat_natCast]at ha2;refine(r2 w (zj h)).lda Vn ha2 hy rfl ?_;refine nw h ?_;clear h;intro b8 w h
  (refine stC h ?_;clear h;intro w h;dsimp only[zE,zd]at h;refine laC h ?_;refine laC h ?_)
  refine xd (fs:=#[]) (cs:=#[]) LX (LZ x y) ?_;unfold cK;refine nw h ?_;clear h;intro c1 w h;refine nw h ?_;clear h;intro c2 w h
  (refine laC h ?_;refine laC h ?_)
  unfold L.chkSem;refine⟨IV (x.1,x.2.1,x.2.2.1) (y.1,y.2.1,y.2.2.1) w,_,rfl,?_⟩;have hs:=ER x y;have h:=zj (zj (zj (zj h)));refine it (λhc=>?_) (λhc=>?_)
  ·have hc:¬sT3 x y=true:=by have hc:sT3 x y=false:=(Bool.not_eq_true' _).mp hc;rw[hc];decide
   refine⟨_,rfl,hk false w ⟨λh=>by(cases h),λe=>(hc (hs.2 ?_)).elim⟩ h⟩;rw[e,hy]at hx;exact(Option.some.inj hx).symm
  ·have hc:sT3 x y=true:=(Bool.not_eq_false' _).mp hc;rw[wr (by omega) (by omega)];exact hag (q-1) _ w (by omega) ⟨i+1,by simp,by omega,AE he hx hy (hs.1 hc),h⟩
 ·have e1:l1.take i=l1:=List.take_of_length_le (by omega);have e2:l2.take i=l2:=List.take_of_length_le (by omega);rw[e1,e2]at he;exact⟨_,rfl,hk true w ⟨λ_=>he,λ_=>rfl⟩ h⟩
def ARt.ext_iff'(a b:ARt):a=b↔a.name=b.name∧a.cfg=b.cfg∧a.roll=b.roll∧a.ts=b.ts:=by
 cases a;cases b;simp only[ARt.mk.injEq];exact⟨λ⟨a,b,c,d⟩=>⟨a,b,d,c⟩,λ⟨a,b,d,c⟩=>⟨a,b,c,d⟩⟩
abbrev rtC(a:ARt)(v:Sl):List Value:=[.string a.name,.string a.cfg,.slice v.a v.len v.cap,I a.roll]
def iH(h:St w0 E w){a b:ARt}{v1 v2:Sl}(r1:RdE w0 E eT v1 a.ts)(r2:RdE w0 E eT v2 b.ts)(hn:a.ts.length<1000000000){k:Bool→PT}(hk:∀c w',(c=true↔a=b)→St w0 E w'→k c w') :
  vw (a.name,a.cfg,v1,a.roll,()) (b.name,b.cfg,v2,b.roll,()) (λv w'=>∃x,v=RT.val (.one (.one .bool)) x∧k x w') w:=by
 unfold vw;rw[ARt.ext_iff' a b]at hk;refine nw h ?_;clear h;intro b1 w h;refine nw h ?_;clear h;intro b2 w h
 have no:∀{w},¬(a.name=b.name∧a.cfg=b.cfg∧a.roll=b.roll∧a.ts=b.ts)→St w0 ([Cl b2 zG (rtC b v2)]::[Cl b1 zG (rtC a v1)]::E) w→∃x,Value.bool false=RT.val (.one (.one .bool)) x∧k x w:=
  λhne h=>⟨_,rfl,hk false _ ⟨λh=>by(cases h),λe=>(hne e).elim⟩ (zj (zj h))⟩
 (dsimp only[zd,List.cons_append,List.nil_append]at h;refine ldC h ?_;refine ldC h ?_)
 rw[jN];refine it (λh1=>?_) (λh1=>no (λe=>of_decide_eq_false h1 e.1) h)
 (refine ldC h ?_;refine ldC h ?_)
 rw[jN];refine it (λh2=>?_) (λh2=>no (λe=>of_decide_eq_false h2 e.2.1) h)
 (refine ldC h ?_;refine ldC h ?_)
 refine it (λh3=>?_) (λh3=>no (λe=>by rw[e.2.2.1]at h3;simp at h3) h)
 (refine ldC h ?_;refine ldC h ?_)
 refine z2u h (λw h=>r1 w (zj (zj h))) (λw h=>r2 w (zj (zj h))) hn λc w hc h=>?_;refine⟨_,rfl,hk c w ?_ (zj (zj h))⟩;rw[hc];exact⟨λe=>⟨of_decide_eq_true h1,of_decide_eq_true h2,by simpa using h3,e⟩,λe=>e.2.2.2⟩
def HR(h:St w0 E w){a b:ARt}{v1 v2:Sl}(r1:RdE w0 E eT v1 a.ts)(r2:RdE w0 E eT v2 b.ts)(hn:a.ts.length<1000000000){k:Bool→PT}(hk:∀c w',(c=true↔a=b)→St w0 E w'→k c w') :
  L.callV Pr (.func (.func Zo) #[] #[]) [.agg #[.string a.name,.string a.cfg,.slice v1.a v1.len v1.cap,I a.roll],.agg #[.string b.name,.string b.cfg,.slice v2.a v2.len v2.cap,I b.roll]] (.one (.one .bool)) k w:=
 xd (fs:=#[]) (cs:=#[]) Tp (Ty (a.name,a.cfg,v1,a.roll,()) (b.name,b.cfg,v2,b.roll,())) (iH h r1 r2 hn hk)
def elT:El Pr JG zu 3 40 (.agg #[.string s_,.string s_,I 0]):=Gj (by kernel_rfl) (by kernel_rfl) rfl (by decide)
def EA(h:St w0 E w){v:Sl}{l:List Tgt}(r:Rd w eT v l)(hn:l.length<1000000000)(h0:v.a=none→l = []){k:Sl→PT}
  (hk:∀v' s' w',Rw eT zu 3 v' l s'→St w0 (s'::E) w'→k v' w'):L.call Pr Yg [SlV v] (.one (.one .slice)) k w:=by
 refine za (QG v) ?_;unfold jU;exact qD (K:=λv w'=>∃x,v=RT.val (.one (.one .slice)) x∧k x w') Vn elT h r (by omega) (by omega) h0 λv' s' w' hr hi h=>⟨v',rfl,hk v' s' w' hr h⟩
abbrev eRt:E1:=.agg [.str,.str,.slice,.int .i64]
def Ib(h:St w0 E w){a:ARt}{v:Sl}(r:RdE w0 E eT v a.ts)(hn:a.ts.length<1000000000)(h0:v.a=none→a.ts = []){k:eRt.T→PT}
  (hk:∀v' s' w',Rw eT zu 3 v' a.ts s'→St w0 (s'::E) w'→k (a.name,a.cfg,v',a.roll,()) w') :
  L.call Pr oh [.agg #[.string a.name,.string a.cfg,.slice v.a v.len v.cap,I a.roll]] (.one eRt) k w:=by
 refine za (rg (a.name,a.cfg,v,a.roll,())) ?_;unfold cL;refine nw h ?_;clear h;intro b1 w h;refine nw h ?_;clear h;intro b2 w h
 (dsimp only[zd,List.cons_append,List.nil_append]at h;refine ldC h ?_)
 refine EA h (r w (zj (zj h))) hn h0 λv' s' w hr h=>?_
 (refine stC h ?_;clear h;intro w h;dsimp only[zE,zd]at h;refine laC h ?_;refine stC h ?_;clear h;intro w h;dsimp only[zE,zd]at h;refine laC h ?_)
 refine⟨(a.name,a.cfg,v',a.roll,()),rfl,hk v' s' w hr ?_⟩;exact yw (yw h)
abbrev Shr:=HT [.str,.int .i64]
def eSh(t:Shr):List Value:=[.string t.1,I t.2.1]
def jE:Enc eSh 2:=⟨λ_=>rfl,λ_=>rfl,by decide⟩
abbrev Tgo:=HT [.str,.str]
def eTo(t:Tgo):List Value:=[.string t.1,.string t.2.1]
def qe:Enc eTo 2:=⟨λ_=>rfl,λ_=>rfl,by decide⟩
structure vC where
 sh:List Shr
 tg:List Tgo
def Hr:El Pr Zh Zb 2 24 (.agg #[.string s_,I 0]):=Gj (by kernel_rfl) (by kernel_rfl) rfl (by decide)
def z2f:El Pr xo Jl 2 32 (.agg #[.string s_,.string s_]):=Gj (by kernel_rfl) (by kernel_rfl) rfl (by decide)
def z2g:El Pr JF Jg 2 32 (.agg #[.string s_,.string s_]):=Gj (by kernel_rfl) (by kernel_rfl) rfl (by decide)
def mn(h:St w0 E w){v:Sl}{l:List Shr}(r:Rd w eSh v l)(hn:l.length<1000000000)(h0:v.a=none→l = []){k:Sl→PT}
  (hk:∀v' s' w',Rw eSh Zb 2 v' l s'→St w0 (s'::E) w'→k v' w'):L.call Pr Zl [SlV v] (.one (.one .slice)) k w:=by
 refine za (uz v) ?_;unfold JK;exact qD (K:=λv w'=>∃x,v=RT.val (.one (.one .slice)) x∧k x w') jE Hr h r (by omega) (by omega) h0 λv' s' w' hr hi h=>⟨v',rfl,hk v' s' w' hr h⟩
def As(h:St w0 E w){v:Sl}{l:List Tgo}(r:Rd w eTo v l)(hn:l.length<1000000000)(h0:v.a=none→l = []){k:Sl→PT}
  (hk:∀v' s' w',Rw eTo Jl 2 v' l s'→St w0 (s'::E) w'→k v' w'):L.call Pr Yz [SlV v] (.one (.one .slice)) k w:=by
 refine za (uy v) ?_;unfold JJ;exact qD (K:=λv w'=>∃x,v=RT.val (.one (.one .slice)) x∧k x w') qe z2f h r (by omega) (by omega) h0 λv' s' w' hr hi h=>⟨v',rfl,hk v' s' w' hr h⟩
structure Or(w0:World)(E:List Seg)(p:HT [.slice,.slice])(t:vC):Prop where
 sh:RdE w0 E eSh p.1 t.sh
 tg:RdE w0 E eTo p.2.1 t.tg
 nsh:p.1.a=none→t.sh = []
 ntg:p.2.1.a=none→t.tg = []
 fsh:t.sh.length<100000
 ftg:t.tg.length<100000
def Or.there{p:HT [.slice,.slice]}{t:vC}{s:Seg}(r:Or w0 E p t):Or w0 (s::E) p t:=⟨λw h=>r.sh w (zj h),λw h=>r.tg w (zj h),r.nsh,r.ntg,r.fsh,r.ftg⟩
abbrev BR(p:HT [.slice,.slice]):Value:=.agg #[.slice p.1.a p.1.len p.1.cap,.slice p.2.1.a p.2.1.len p.2.1.cap]
def Ko(h:St w0 E w){p:HT [.slice,.slice]}{t:vC}(r:Or w0 E p t){k:HT [.slice,.slice]→PT}
  (hk:∀v1 v2 s1 s2 w',Rw eSh Zb 2 v1 t.sh s1→Rw eTo Jl 2 v2 t.tg s2→St w0 (s2::s1::E) w'→k (v1,v2,()) w') :
  L.call Pr YA [BR p] (.one (.agg [.slice,.slice])) k w:=by
 refine za (bE p) ?_;unfold DE;have fsh:=r.fsh;have ftg:=r.ftg;refine nw h ?_;clear h;intro b1 w h;refine nw h ?_;clear h;intro b2 w h
 (refine dr h ?_;clear h;intro w h;refine ldC h ?_;refine ldC h ?_)
 refine mn h (r.sh w (zj (zj h))) (by omega) r.nsh λv1 s1 w r1 h=>?_
 (refine ckC h ?_)
 refine As h (r.tg w (zj (zj (zj h)))) (by omega) r.ntg λv2 s2 w r2 h=>?_
 (refine stC h ?_;clear h;intro w h;dsimp only[zE,zd]at h;refine laC h ?_)
 refine⟨(v1,v2,()),rfl,hk v1 v2 s1 s2 w r1 r2 ?_⟩;exact uV (uV h)
def Or.of{v1 v2:Sl}{t:vC}{s1 s2:Seg}{i j:Nat}(h1:nth E i=some s1)(r1:Rw eSh Zb 2 v1 t.sh s1)(h2:nth E j=some s2)(r2:Rw eTo Jl 2 v2 t.tg s2)(f1:t.sh.length<100000)(f2:t.tg.length<100000) :
  Or w0 E (v1,v2,()) t:=⟨Rw.re jE i h1 r1,Rw.re qe j h2 r2,Rw.nil0 jE r1,Rw.nil0 qe r2,f1,f2⟩
def Po:List Shr→Int→B0
 | [],_=>s_
 | s::l,d=>if d<s.2.1 then s.1 else Po l (d-s.2.1)
def Rj(s:Shr)(l:List Shr)(d:Int):Po (s::l) d=if d<s.2.1 then s.1 else Po l (d-s.2.1):=rfl
def bQ(t:vC)(d:Int):B0:=Po t.sh (d%100)
def z0y(h:St w0 E w){p:HT [.slice,.slice]}{t:vC}(r:Or w0 E p t)(hw:∀s∈t.sh,0≤@id Int s.2.1∧@id Int s.2.1≤1000){d:Int}(h0:0≤d)(h1:d<4611686018427387904){k:B0→PT}
  (hk:∀w',St w0 E w'→k (bQ t d) w'):L.call Pr gC [BR p,I d] (.one (.one .str)) k w:=by
 refine za (Ww p _) ?_;unfold PV;have fsh:=r.fsh;have hlen:=Rd.len (r.sh w h);unfold bQ at hk;refine nw h ?_;clear h;intro b1 w h;refine gd (by decide) (gd (by decide) ?_)
 (refine ldC h ?_)
 have e0:Int.tmod (Wi ((Int.tmod d 100)+100)) 100=d%100:=by
  rw[Int.tmod_eq_emod_of_nonneg h0,wr (by omega) (by omega),Int.tmod_eq_emod_of_nonneg (by omega)];omega
 rw[e0];have hd:0≤d%100∧d%100<100:=by omega
 generalize d%100=d at hk hd;refine zX (λq y w=>∃(j:Nat),@Eq Int y.2.1 j∧q+j=t.sh.length∧-100000000*(j:Int)-100≤@id Int y.1∧@id Int y.1≤100∧Po t.sh d=Po (t.sh.drop j) y.1∧St w0 ([Cl b1 zl [SlV p.1,SlV p.2.1]]::E) w) t.sh.length ⟨0,rfl,rfl,?_,?_,rfl,h⟩ ?_
 ·show -100000000*((0:Nat):Int)-100≤d;omega
 ·show d≤100;omega
 clear h;rintro q ⟨x,y,⟨⟩⟩ w ⟨j,hy,hq,l1,l2,hp,h⟩ again hag
 (try dsimp only)
 simp only[id]at l1 l2;simp only at hy hp;subst hy;refine it (λhb=>?_) (λhb=>?_)<;>(try simp only[zB]at hb)
 ·have hj:j<t.sh.length:=by omega
  have hx:t.sh[j]? = some t.sh[j]:=List.getElem?_eq_getElem hj;have rr:=r.sh w (zj h);have hm:=hw t.sh[j] (List.getElem_mem hj);have ed:t.sh.drop j=t.sh[j]::t.sh.drop (j+1):=by rw[←List.getElem_cons_drop hj]
  rw[ed]at hp;generalize t.sh[j]=z at hx hm hp;obtain⟨z1,z2,⟨⟩⟩:=z;simp only[id]at hm;refine rr.ix jE (by omega) (by simpa using hj) λa ha=>?_;refine rr.lda jE ha (by simpa using hx) rfl ?_;refine nw h ?_;clear h;intro b7 w h
  (refine stC h ?_;clear h;intro w h;dsimp only[zE,zd]at h;refine ldC h ?_)
  rw[Rj]at hp
  (try dsimp only at hp)
  refine it (λhc=>?_) (λhc=>?_)<;>(try simp only[zB]at hc)
  ·rw[if_pos hc]at hp
   (refine ldC h ?_)
   exact⟨_,rfl,by rw[←hp];exact hk w (zj (zj h))⟩
  ·rw[if_neg hc]at hp
   (refine ldC h ?_)
   refine hag (q-1) _ w (by omega) ⟨j+1,?_,by omega,?_,?_,?_,zj h⟩
   ·show Wi _=_;rw[wr (by omega) (by omega)];omega
   ·show _≤Wi (x-z2);rw[wr (by omega) (by omega)];omega
   ·show Wi (x-z2)≤_;rw[wr (by omega) (by omega)];omega
   ·rw[hp];show _=Po _ (Wi (x-z2));rw[wr (by omega) (by omega)]
 ·have e:t.sh.drop j = []:=List.drop_of_length_le (by omega);rw[e]at hp;exact⟨_,rfl,by have:=hk w (zj h);rw[hp]at this;exact this⟩
def na:List Tgo→B0→B0×Bool
 | [],_=>(s_,false)
 | x::l,g=>if x.1=g then(x.2.1,true)else na l g
def BQ(x:Tgo)(l:List Tgo)(g:B0):na (x::l) g=if x.1=g then(x.2.1,true)else na l g:=rfl
def iF(h:St w0 E w){p:HT [.slice,.slice]}{t:vC}(r:Or w0 E p t){g:B0}{k:B0×Bool×Unit→PT}
  (hk:∀w',St w0 E w'→k ((na t.tg g).1,(na t.tg g).2,()) w'):L.call Pr oM [BR p,.string g] (.tup [.one .str,.one .bool]) k w:=by
 refine za (nz p _) ?_;unfold Mg;have ftg:=r.ftg;have hlen:=Rd.len (r.tg w h);refine nw h ?_;clear h;intro b1 w h
 (refine ldC h ?_)
 refine zX (λq y w=>∃(j:Nat),@Eq Int y.1 j∧q+j=t.tg.length∧na t.tg g=na (t.tg.drop j) g∧St w0 ([Cl b1 zl [SlV p.1,SlV p.2.1]]::E) w) t.tg.length ⟨0,rfl,rfl,rfl,h⟩ ?_;clear h;rintro q ⟨y,⟨⟩⟩ w ⟨j,hy,hq,hp,h⟩ again hag
 (try dsimp only)
 simp only at hy hp;subst hy;refine it (λhb=>?_) (λhb=>?_)<;>(try simp only[zB]at hb)
 ·have hj:j<t.tg.length:=by omega
  have hx:t.tg[j]? = some t.tg[j]:=List.getElem?_eq_getElem hj;have rr:=r.tg w (zj h);have ed:t.tg.drop j=t.tg[j]::t.tg.drop (j+1):=by rw[←List.getElem_cons_drop hj]
  rw[ed]at hp;generalize t.tg[j]=z at hx hp;obtain⟨z1,z2,⟨⟩⟩:=z;refine rr.ix qe (by omega) (by simpa using hj) λa ha=>?_;refine rr.lda qe ha (by simpa using hx) rfl ?_;refine nw h ?_;clear h;intro b7 w h
  (refine stC h ?_;clear h;intro w h;dsimp only[zE,zd]at h;refine ldC h ?_)
  rw[BQ]at hp
  (try dsimp only at hp)
  rw[jN];refine it (λhc=>?_) (λhc=>?_)<;>(try simp only[zB]at hc)
  ·rw[if_pos hc]at hp
   (refine ldC h ?_)
   exact⟨(z2,true,()),rfl,by have:=hk w (zj (zj h));rw[hp]at this;exact this⟩
  ·rw[if_neg hc]at hp
   skip
   refine hag (q-1) _ w (by omega) ⟨j+1,?_,by omega,hp,zj h⟩;show Wi _=_;rw[wr (by omega) (by omega)];omega
 ·have e:t.tg.drop j = []:=List.drop_of_length_le (by omega);rw[e]at hp;exact⟨(s_,false,()),rfl,by have:=hk w (zj h);rw[hp]at this;exact this⟩
def HH [YB w0](h:St w0 E w){p:HT [.slice,.slice]}{t:vC}(r:Or w0 E p t)(hw:∀s∈t.sh,0≤@id Int s.2.1∧@id Int s.2.1≤1000){k:Sl×Sl×Unit→PT}
  (hk:∀v1 v2 s1 s2 w',Rw eTo Jg 2 v1 (t.sh.map λs=>(s.1,jw (@id Int s.2.1).toNat,())) s1→Rw eTo Jg 2 v2 t.tg s2→St w0 (s2::s1::E) w'→k (v1,v2,()) w') :
  L.call Pr oL [BR p] (.tup [.one .slice,.one .slice]) k w:=by
 refine za (ny p) ?_;unfold Mf;have fsh:=r.fsh;have ftg:=r.ftg;have hlen:=Rd.len (r.sh w h);have hlen2:=Rd.len (r.tg w h);refine nw h ?_;clear h;intro b1 w h
 (refine ldC h ?_)
 let f:Shr→Tgo:=λs=>(s.1,jw (@id Int s.2.1).toNat,())
 refine zX (λq y w=>∃(j:Nat)(s1:Seg),@Eq Int y.2.1 j∧q+j=t.sh.length∧Rw eTo Jg 2 y.1 ((t.sh.take j).map f) s1∧St w0 (s1::[Cl b1 zl [SlV p.1,SlV p.2.1]]::E) w) t.sh.length ⟨0,[],rfl,rfl,Rw.nil,h.nil⟩ ?_;clear h;rintro q ⟨v,y,⟨⟩⟩ w ⟨j,s1,hy,hq,r1,h⟩ again hag
 (try dsimp only)
 simp only at hy r1;subst hy;refine it (λhb=>?_) (λhb=>?_)<;>(try simp only[zB]at hb)
 ·have hj:j<t.sh.length:=by omega
  have hx:t.sh[j]? = some t.sh[j]:=List.getElem?_eq_getElem hj;have rr:=r.sh w (zj (zj h));have hm:=hw t.sh[j] (List.getElem_mem hj);have et:(t.sh.take (j+1)).map f=(t.sh.take j).map f++[f t.sh[j]]:=by rw[List.take_succ,hx,List.map_append];rfl
  generalize t.sh[j]=z at hx hm et;obtain⟨z1,z2,⟨⟩⟩:=z;simp only[id]at hm;refine rr.ix jE (by omega) (by simpa using hj) λa ha=>?_;refine rr.lda jE ha (by simpa using hx) rfl ?_;refine nw h ?_;clear h;intro b7 w h
  (refine stC h ?_;clear h;intro w h;dsimp only[zE,zd]at h;refine dr h ?_;clear h;intro w h;refine ldC h ?_;refine ldC h ?_)
  refine Wp h hm.1 (by omega) λw h=>?_
  (refine ckC h ?_)
  refine nw h ?_;clear h;intro b11 w h;refine Rw.app qe z2g h 1 rfl r1 ((z1,jw (@id Int z2).toNat,()):Tgo) rfl (by simp;omega) (by simp;omega) λv' s1' w r1' h=>?_;refine hag (q-1) _ w (by omega) ⟨j+1,s1',?_,by omega,by rw[et];exact r1',zj h⟩;show Wi _=_;rw[wr (by omega) (by omega)];omega
 ·have e:t.sh.take j=t.sh:=List.take_of_length_le (by omega);rw[e]at r1
  (refine ldC h ?_)
  refine zX (λq y w=>∃(j:Nat)(s2:Seg),@Eq Int y.2.1 j∧q+j=t.tg.length∧Rw eTo Jg 2 y.1 (t.tg.take j) s2∧St w0 (s2::s1::[Cl b1 zl [SlV p.1,SlV p.2.1]]::E) w) t.tg.length ⟨0,[],rfl,rfl,Rw.nil,h.nil⟩ ?_;clear hag hb hq j e;clear h;rintro q ⟨v2,y,⟨⟩⟩ w ⟨j,s2,hy,hq,r2,h⟩ again hag
  (try dsimp only)
  simp only at hy r2;subst hy;refine it (λhb=>?_) (λhb=>?_)<;>(try simp only[zB]at hb)
  ·have hj:j<t.tg.length:=by omega
   have hx:t.tg[j]? = some t.tg[j]:=List.getElem?_eq_getElem hj;have rr:=r.tg w (zj (zj (zj h)));have et:t.tg.take (j+1)=t.tg.take j++[t.tg[j]]:=by rw[List.take_succ,hx];rfl
   generalize t.tg[j]=z at hx et;obtain⟨z1,z2,⟨⟩⟩:=z;refine rr.ix qe (by omega) (by simpa using hj) λa ha=>?_;refine rr.lda qe ha (by simpa using hx) rfl ?_;refine nw h ?_;clear h;intro b7 w h
   (refine stC h ?_;clear h;intro w h;dsimp only[zE,zd]at h;refine ldC h ?_;refine ldC h ?_)
   refine nw h ?_;clear h;intro b11 w h;refine Rw.app qe z2g h 1 rfl r2 ((z1,z2,()):Tgo) rfl (by simp;omega) (by simp;omega) λv' s2' w r2' h=>?_;refine hag (q-1) _ w (by omega) ⟨j+1,s2',?_,by omega,by rw[et];exact r2',zj h⟩;show Wi _=_;rw[wr (by omega) (by omega)];omega
  ·have e:t.tg.take j=t.tg:=List.take_of_length_le (by omega);rw[e]at r2;exact⟨(v,v2,()),rfl,hk v v2 s1 s2 w r1 r2 (uV h)⟩
def shT(s:Shr):B0:=(s.1++Oi)++jw (@id Int s.2.1).toNat
def toT(s:Tgo):B0:=(s.1++Oh)++s.2.1
def Ub(t:vC):List B0:=t.sh.map shT++t.tg.map toT
def Cx(t:vC):B0:=VB (Ub t)
def z0v [YB w0](h:St w0 E w){p:HT [.slice,.slice]}{t:vC}(r:Or w0 E p t)(hw:∀s∈t.sh,(0≤@id Int s.2.1∧@id Int s.2.1≤1000)∧s.1.size≤1000)(hg:∀s∈t.tg,s.1.size≤1000∧s.2.1.size≤1000){k:B0→PT}
  (hk:∀w',St w0 E w'→k (Cx t) w'):L.call Pr gB [BR p] (.one (.one .str)) k w:=by
 refine za (Wv p) ?_;unfold PU;have fsh:=r.fsh;have ftg:=r.ftg;refine nw h ?_;clear h;intro b1 w h
 (refine laC h ?_)
 refine HH h r.there (λs hs=>(hw s hs).1) λv1 v2 s1 s2 w r1 r2 h=>?_;have hl1:=Rw.len qe r1;have hl2:=Rw.len qe r2;rw[List.length_map]at hl1
 (try dsimp only)
 have hc:Oi.size=1:=rfl;have he:Oh.size=1:=rfl;refine zX (λq y w=>∃(j:Nat)(s3:Seg),@Eq Int y.2.1 j∧q+j=t.sh.length∧Rw eS zc 1 y.1 ((t.sh.take j).map shT) s3∧St w0 (s3::s2::s1::[Cl b1 zl [SlV p.1,SlV p.2.1]]::E) w) t.sh.length ⟨0,[],rfl,rfl,Rw.nil,h.nil⟩ ?_;clear h;rintro q ⟨v,y,⟨⟩⟩ w ⟨j,s3,hy,hq,r3,h⟩ again hag
 (try dsimp only)
 simp only at hy r3;subst hy;refine it (λhb=>?_) (λhb=>?_)<;>(try simp only[zB]at hb)
 ·have hj:j<t.sh.length:=by omega
  have hx:t.sh[j]? = some t.sh[j]:=List.getElem?_eq_getElem hj;have hm:=hw t.sh[j] (List.getElem_mem hj);have et:(t.sh.take (j+1)).map shT=(t.sh.take j).map shT++[shT t.sh[j]]:=by rw[List.take_succ,hx,List.map_append];rfl
  generalize t.sh[j]=z at hx hm et;obtain⟨z1,z2,⟨⟩⟩:=z;simp only[id]at hm
  (try dsimp only at hm)
  have hd:=Wa (@id Int z2).toNat;simp only[id]at hd;refine Rw.ix qe r1 (by omega) (by simpa using hj) λa ha=>?_;refine Rw.lda qe h 2 rfl r1 ha (x:=((z1,jw (@id Int z2).toNat,()):Tgo)) (by simp[hx]) rfl ?_;refine nw h ?_;clear h;intro b8 w h
  (refine stC h ?_;clear h;intro w h;dsimp only[zE,zd]at h)
  refine ix (by decide) (by decide) ?_
  (refine ldC h ?_)
  refine gd (by rw[hc];simp only[XT];omega) ?_;refine ix (by decide) (by decide) ?_
  (refine ldC h ?_)
  refine gd (by rw[ByteArray.size_append,hc];simp only[XT,id];omega) ?_;refine nw h ?_;clear h;intro b13 w h;refine Rw.app yu elS h 1 rfl r3 (shT ((z1,z2,()):Shr)) rfl (by simp;omega) (by simp;omega) λv' s3' w r3' h=>?_;refine hag (q-1) _ w (by omega) ⟨j+1,s3',?_,by omega,by rw[et];exact r3',zj h⟩;show Wi _=_;rw[wr (by omega) (by omega)];omega
 ·have e:t.sh.take j=t.sh:=List.take_of_length_le (by omega);rw[e]at r3;refine zX (λq y w=>∃(j:Nat)(s3:Seg),@Eq Int y.2.1 j∧q+j=t.tg.length∧Rw eS zc 1 y.1 (t.sh.map shT++(t.tg.take j).map toT) s3∧St w0 (s3::s2::s1::[Cl b1 zl [SlV p.1,SlV p.2.1]]::E) w) t.tg.length ⟨0,s3,rfl,rfl,by simpa using r3,h⟩ ?_;clear hag hb hq j e r3;clear h;rintro q ⟨v,y,⟨⟩⟩ w ⟨j,s3,hy,hq,r3,h⟩ again hag
  (try dsimp only)
  simp only at hy r3;subst hy;refine it (λhb=>?_) (λhb=>?_)<;>(try simp only[zB]at hb)
  ·have hj:j<t.tg.length:=by omega
   have hx:t.tg[j]? = some t.tg[j]:=List.getElem?_eq_getElem hj;have hm:=hg t.tg[j] (List.getElem_mem hj);have et:(t.tg.take (j+1)).map toT=(t.tg.take j).map toT++[toT t.tg[j]]:=by rw[List.take_succ,hx,List.map_append];rfl
   generalize t.tg[j]=z at hx hm et;obtain⟨z1,z2,⟨⟩⟩:=z
   (try dsimp only at hm)
   refine Rw.ix qe r2 (by omega) (by simpa using hj) λa ha=>?_;refine Rw.lda qe h 1 rfl r2 ha (x:=((z1,z2,()):Tgo)) (by simp[hx]) rfl ?_;refine nw h ?_;clear h;intro b8 w h
   (refine stC h ?_;clear h;intro w h;dsimp only[zE,zd]at h)
   refine ix (by decide) (by decide) ?_
   (refine ldC h ?_)
   refine gd (by rw[he];simp only[XT];omega) ?_;refine ix (by decide) (by decide) ?_
   (refine ldC h ?_)
   refine gd (by rw[ByteArray.size_append,he];simp only[XT];omega) ?_;refine nw h ?_;clear h;intro b13 w h;refine Rw.app yu elS h 1 rfl r3 (toT ((z1,z2,()):Tgo)) rfl (by simp;omega) (by simp;omega) λv' s3' w r3' h=>?_;refine hag (q-1) _ w (by omega) ⟨j+1,s3',?_,by omega,by rw[et,←List.append_assoc];exact r3',zj h⟩;show Wi _=_;rw[wr (by omega) (by omega)];omega
  ·have e:t.tg.take j=t.tg:=List.take_of_length_le (by omega);rw[e]at r3;refine Wo h 0 rfl r3 (by simp;omega) ?_ λw h=>⟨_,rfl,hk w (zj (zj (zj (zj h))))⟩;have:=Pz 3100 (Ub t) λx hx=>by
    rcases List.mem_append.1 hx with hx | hx
    ·obtain⟨s,hs,rfl⟩:=List.mem_map.1 hx;have h1:=hw s hs;have hd:=Wa (@id Int s.2.1).toNat;unfold shT;rw[ByteArray.size_append,ByteArray.size_append,hc];simp only[id]at h1 hd ⊢;omega
    ·obtain⟨s,hs,rfl⟩:=List.mem_map.1 hx;have h1:=hg s hs;unfold toT;rw[ByteArray.size_append,ByteArray.size_append,he];omega
   have hl:(Ub t).length=t.sh.length+t.tg.length:=by simp[Ub]
   show(VB (Ub t)).size<_;rw[hl]at this;have:(t.sh.length+t.tg.length)*3101<1000000000000:=by omega
   omega
end Go.Proofs.YtimahgbgejngiaaGreatDoor

namespace Go.Proofs
open Go.Shelf
def Tryz.lays194_ren:Go.Shelf.Ren:=⟨fun | 194=>283 | n=>n,fun | 31=>40 | 9=>9 | 3=>3 | 4=>4 | 0=>0 | n=>n,fun | n=>n⟩
def Tryz.lays194:Go.Proofs.Lays.n194 Tryz.prog Tryz.lays194_ren:={
 mixed:=by kernel_rfl
 f194:=Tryz.func283.trans cS
 t0:=Tryz.underlying0
 a0:=Tryz.isAgg0
 z0:=Tryz.sizeOf0
 v0:=Tryz.zeroValue0
 t3:=Tryz.underlying3
 a3:=Tryz.isAgg3
 z3:=Tryz.sizeOf3
 v3:=Tryz.zeroValue3
 t4:=Tryz.underlying4
 a4:=Tryz.isAgg4
 z4:=Tryz.sizeOf4
 v4:=Tryz.zeroValue4
 t9:=Tryz.underlying9
 a9:=Tryz.isAgg9
 z9:=Tryz.sizeOf9
 v9:=Tryz.zeroValue9
 t31:=Tryz.underlying40
 a31:=Tryz.isAgg40
 z31:=Tryz.sizeOf40
 v31:=Tryz.zeroValue40 }
open Go.RowKit Go.Lib Go.Sort in
def Tryz.slices_Compact_string(blk off cap:Nat)(zs:List (List UInt8))(w:World)(hH:Holds encStr w blk off zs.toArray)(hsz:zs.length≤9223372036854775807)(hcap:zs.length≤cap) :
  Calls Tryz.prog 283 #[.slice (some ⟨blk,off,none⟩) zs.length cap] w λe w'=>e = .returned (.slice (some ⟨blk,off,none⟩) (Lib.compact zs).length cap)∧∃q,w'=putRow encStr (Sort.ahead w q) blk off (Lib.compact zs++List.replicate (zs.length-(Lib.compact zs).length) []).toArray:=Any.slices_Compact_string Tryz.lays194 blk off cap zs w hH hsz hcap
open Go.RowKit Go.Lib Go.Sort in
def Tryz.slices_Compact_string_empty(a:Option Addr)(cap:Nat)(w:World) :
  Calls Tryz.prog 283 #[.slice a 0 cap] w λe w'=>e = .returned (.slice a 0 cap)∧w'=w:=Any.slices_Compact_string_empty Tryz.lays194 a cap w
end Go.Proofs
namespace Go.Proofs.YtimahgbgejngiaaGreatDoor
open Go.Dm
attribute [local irreducible] L.load L.store L.chk L.new L.nonnil L.guard L.ite L.draw L.idx L.sem L.semR L.semU L.chkSem L.next L.call L.callV L.join L.alts L.loop L.begin L.endRound L.range
variable {w0 w:World}{E:List Seg}
def ofL(x:List UInt8):B0:=⟨x.toArray⟩
def z36(l:List (List UInt8)):fl eL l=fl eS (l.map ofL):=by
 induction l with
 | nil=>rfl
 | cons x l ih=>
  simp only[fl,List.flatMap_cons,List.map_cons]at *
  rw[ih];rfl
def Nm(l:List B0):List B0:=(Lib.compact (l.map bl)).map ofL
def Rw.less{α:Type}{enc:α→List Value}{e size:Nat}{a:Option Addr}{n cap:Nat}{A B:List α}{s:Seg}(hE:Enc enc size)(hr:Rw enc e size ⟨a,n,cap⟩ (A++B) s)(h0:A≠[]):Rw enc e size ⟨a,A.length,cap⟩ A s:=by
 unfold Rw at *
 rw[Tf]at hr;have hA:=qB hE A;have hB:=qB hE B;generalize fl enc A=xa at *
 generalize fl enc B=xb at *
 generalize hx:xa++xb=xs at hr
 cases hr with
 | nil=>
  have:xa = []:=(List.append_eq_nil_iff.1 hx).1;rw[this]at hA;have:=hE.pos
  cases A with
  | nil=>exact absurd rfl h0
  | cons x A=>
   have:=Nat.mul_pos (show 0<A.length+1 by omega) hE.pos;rw[List.length_cons,List.length_nil]at hA;omega
 | mk g n cap pre xs spare post h1 h2 h3 h4=>
  subst hx;rw[List.length_append]at h1 h2;have:=Row.mk (e:=e) (size:=size) g A.length cap pre xa (xb++spare) post (by omega) (by rw[List.length_append];omega) (by
   have:A.length*size≤cap*size:=by omega
   exact Nat.le_of_mul_le_mul_right this hE.pos) h4
  simpa using this
def RM{z:List (List UInt8)}(h:z≠[]):Lib.compact z≠[]:=by
 cases z with
 | nil=>exact absurd rfl h
 | cons x l=>
  unfold Lib.compact Lib.compactUpTo;rw[List.length_cons,List.range_succ_eq_map,List.filter_cons_of_pos (by simp[Lib.keeps])];simp
def bu(h:St w0 E w)(i:Nat){s:Seg}(hi:nth E i=some s){v:Sl}{l:List B0}(hr:Rw eS zc 1 v l s)(hn:l.length<1000000000){k:Sl→PT}
  (hk:∀v' s' w',Rw eS zc 1 v' (Nm l) s'→St w0 (zd E i s') w'→k v' w'):L.call Pr xN [SlV v] (.one (.one .slice)) k w:=by
 have hr0:=hr;have hlen:=Rw.len yu hr;have hcap:=hr.cap;have hr:Rw eL zc 1 v (l.map bl) s:=by unfold Rw at *;rwa [←SJ]
 by_cases hl:l = []
 ·subst hl;have e:v.len=0:=hlen;obtain⟨a,n,c⟩:=v;dsimp only at e;subst e;refine qE (Tryz.slices_Compact_string_empty a c w) λe w' ⟨he,hw⟩=>⟨⟨a,0,c⟩,he,?_⟩;subst hw;exact hk _ s _ hr0 (by rw[yy hi];exact h)
 ·obtain⟨va,vn,vc⟩:=v;have:∃g off,va=some ⟨g,off,none⟩:=by
   have hr':=hr0;unfold Rw at hr';generalize fl eS l=xs at hr'
   cases hr' with
   | nil=>exact absurd (List.eq_nil_of_length_eq_zero hlen.symm) hl
   | mk=>exact⟨_,_,rfl⟩
  obtain⟨g,off,rfl⟩:=this;simp only at hlen hcap;subst hlen;have e1:l.length=(l.map bl).length:=by simp
  obtain⟨hH,hlt⟩:=Rw.holds h i (encv:=encStr) (λ_=>rfl) Hq hi hr;have hc:=Tryz.slices_Compact_string g off vc (l.map bl) w hH (by rw[←e1];omega) (by rw[←e1];exact hcap.1);rw[←e1]at hc;refine qE hc λe w' ⟨he,q,hw⟩=>⟨⟨some ⟨g,off,none⟩,(Lib.compact (l.map bl)).length,vc⟩,he,?_⟩;subst hw;have hle:=Lib.compact_length_le (l.map bl);obtain⟨s',hr2,h3⟩:=St.putRow (w:=Sort.ahead w q) (h.drawn) i (encv:=encStr) (λ_=>rfl) Hq hi hr (Lib.compact (l.map bl)++List.replicate (l.length-(Lib.compact (l.map bl)).length) []) (by rw[List.length_append,List.length_replicate];omega);refine hk _ s' _ ?_ h3;have hz:=Rw.less Hq hr2 (RM (by simpa using hl));unfold Rw at *
  rwa [z36]at hz
def wOf:List Shr→B0→Int
 | [],_=>0
 | s::l,r=>if s.1=r then s.2.1 else wOf l r
def WL(s:Shr)(l:List Shr)(r:B0):wOf (s::l) r=if s.1=r then s.2.1 else wOf l r:=rfl
def KZ{l:List Shr}{r:B0}(hw:∀s∈l,0≤@id Int s.2.1∧@id Int s.2.1≤1000):0≤wOf l r∧wOf l r≤1000:=by
 induction l with
 | nil=>exact⟨Int.le_refl 0,(by decide:(0:Int)≤1000)⟩
 | cons s l ih=>
  rw[WL];split
  ·exact hw s (by simp)
  ·exact ih λx hx=>hw x (List.mem_cons_of_mem _ hx)
def PS(h:St w0 E w){v:Sl}{l:List Shr}(r:RdE w0 E eSh v l)(hn:l.length<1000000){rev:B0}{k:Int→PT}(hk:∀w',St w0 E w'→k (wOf l rev) w') :
  L.call Pr XJ [SlV v,.string rev] (.one (.one (.int .i64))) k w:=by
 refine za (nF v rev) ?_;unfold Mm;have hlen:=Rd.len (r w h);refine nw h ?_;clear h;intro b1 w h;refine za (qT v ⟨.func QW,#[],#[.pointer (some ⟨b1,0,none⟩)]⟩) ?_;unfold jI;refine zX (λq y w=>∃(j:Nat),@Eq Int y.1 j∧q+j=l.length∧wOf l rev=wOf (l.drop j) rev∧St w0 ([Cl b1 zc [.string rev]]::E) w) l.length ⟨0,rfl,rfl,rfl,h⟩ ?_;clear h;rintro q ⟨y,⟨⟩⟩ w ⟨j,hy,hq,hp,h⟩ again hag
 (try dsimp only)
 simp only at hy hp;subst hy;refine it (λhb=>?_) (λhb=>?_)<;>(try simp only[zB]at hb)
 ·have hj:j<l.length:=by omega
  have hx:l[j]? = some l[j]:=List.getElem?_eq_getElem hj;have rr:=r w (zj h);have ed:l.drop j=l[j]::l.drop (j+1):=by rw[←List.getElem_cons_drop hj]
  rw[ed]at hp;generalize l[j]=z at hx hp;obtain⟨z1,z2,⟨⟩⟩:=z;refine rr.ix jE (by omega) (by simpa using hj) λa ha=>?_;refine rr.lda jE ha (by simpa using hx) rfl ?_;refine xd (fs:=#[]) (cs:=#[.pointer (some ⟨b1,0,none⟩)]) Cd (Ch (z1,z2,()) ⟨b1,0,none⟩) ?_;unfold Gr;refine nw h ?_;clear h;intro b4 w h
  (dsimp only[zd,List.cons_append,List.nil_append]at h;refine ldC h ?_;refine ldC h ?_)
  refine⟨_,rfl,?_⟩;rw[WL]at hp
  (try dsimp only at hp)
  rw[jN];refine it (λhc=>?_) (λhc=>?_)<;>(try simp only[zB]at hc)
  ·rw[if_pos hc]at hp;refine⟨_,rfl,?_⟩;refine itF (by simp) ?_;have rr:=r w (zj (zj h));refine rr.ix jE (by omega) (by simpa using hj) λa ha=>?_;refine rr.ld jE ha (f:=1) (by simpa using hx) rfl rfl ?_;exact⟨_,rfl,by have:=hk w (zj (zj h));rw[hp]at this;exact this⟩
  ·rw[if_neg hc]at hp;refine hag (q-1) _ w (by omega) ⟨j+1,?_,by omega,hp,zj h⟩;show Wi _=_;rw[wr (by omega) (by omega)];omega
 ·have e:l.drop j = []:=List.drop_of_length_le (by omega);rw[e]at hp;refine⟨_,rfl,?_⟩;refine itT (by decide) ?_;exact⟨_,rfl,by have:=hk w (zj h);rw[hp]at this;exact this⟩
abbrev sD:FV:=⟨.func gE,#[],#[]⟩
def Ny{v:Sl}{l:List Shr}(r:RdE w0 E eSh v l)(hn:l.length<1000000){b:Nat}{V:Sl×Sl}{A:List B0}(hA:A.length<1000000){vo:Sl}{so:Seg}(ro:Rw eS zc 1 vo A so){k:Sl×Int×Unit→PT}
  (h:St w0 (so::[Cl b Zh [SlV V.1,SlV V.2]]::E) w)
  (hk:∀v' s' m w',Rw eS zc 1 v' (A++l.map (·.1)) s'→St w0 (s'::[Cl b Zh [SlV V.1,SlV V.2]]::E) w'→k (v',m,()) w') :
  L.loop (Y:=Sl×Int×Unit) (⟨vo.a,vo.len,vo.cap⟩,0,()) (λy5 again6=>
  L.ite (decide (y5.2.1<((v.len:Nat):Int))) (
   L.idx v.a y5.2.1 v.len 2 λa7=>
   L.load (.agg [.str,.int .i64]) a7 λ(x8:B0×Int×Unit)=>
   L.new [.string s_,.int .i64 0] Zb λb9=>
   L.store (⟨b9,0,none⟩) [.string x8.1,.int .i64 x8.2.1]<|
   L.load (.agg [.str,.int .i64]) (⟨b9,0,none⟩) λ(x10:B0×Int×Unit)=>
   L.callV Pr (.func sD.fn sD.fs sD.cs) [.agg #[.string x10.1,.int .i64 x10.2.1]] (.one (.one (.str))) λ(x11:B0)=>
   L.new [.string x11] zc λb12=>
   L.sem Pr (.one (.one .slice)) (Builtin.append_ #[zm,zm] zm #[.slice y5.1.a y5.1.len y5.1.cap,.slice (some ⟨b12,0,none⟩) 1 1]) λ(s13:Sl)=>
   again6 (⟨s13.a,s13.len,s13.cap⟩,Wi (y5.2.1+1),()))<|
  k y5) w:=by
 have hlen:=Rd.len (r w (zj (zj h)));refine zX (λq y w=>∃(j:Nat)(s3:Seg),@Eq Int y.2.1 j∧q+j=l.length∧Rw eS zc 1 y.1 (A++(l.take j).map (·.1)) s3∧St w0 (s3::[Cl b Zh [SlV V.1,SlV V.2]]::E) w) l.length ⟨0,so,rfl,by simp,by simpa using ro,h⟩ ?_;clear ro;clear h;rintro q ⟨vo,y,⟨⟩⟩ w ⟨j,s3,hy,hq,r3,h⟩ again hag
 (try dsimp only)
 simp only at hy r3;subst hy;refine it (λhb=>?_) (λhb=>?_)<;>(try simp only[zB]at hb)
 ·have hj:j<l.length:=by omega
  have hx:l[j]? = some l[j]:=List.getElem?_eq_getElem hj;have rr:=r w (zj (zj h));have et:(l.take (j+1)).map (·.1)=(l.take j).map (·.1)++[l[j].1]:=by rw[List.take_succ,hx,List.map_append];rfl
  generalize l[j]=z at hx et;obtain⟨z1,z2,⟨⟩⟩:=z;refine rr.ix jE (by omega) (by simpa using hj) λa ha=>?_;refine rr.lda jE ha (by simpa using hx) rfl ?_;refine nw h ?_;clear h;intro b9 w h
  (refine stC h ?_;clear h;intro w h;dsimp only[zE,zd]at h;refine laC h ?_)
  refine xd (fs:=#[]) (cs:=#[]) bw (bD (z1,z2,())) ?_;unfold DD;refine nw h ?_;clear h;intro b4 w h
  (dsimp only[zd,List.cons_append,List.nil_append]at h;refine ldC h ?_)
  refine⟨_,rfl,?_⟩;refine nw h ?_;clear h;intro b12 w h;refine Rw.app yu elS h 2 rfl r3 z1 rfl (by simp;omega) (by simp;omega) λv' s3' w r3' h=>?_;refine hag (q-1) _ w (by omega) ⟨j+1,s3',?_,by omega,by rw[et,←List.append_assoc];exact r3',zj (zj h)⟩;show Wi _=_;rw[wr (by omega) (by omega)];omega
 ·have e:l.take j=l:=List.take_of_length_le (by omega);rw[e]at r3;exact hk vo s3 _ w r3 h
def vE(fr to:List Shr):List B0:=Nm (yR (fr.map (·.1)++to.map (·.1)))
def Nl(l:List B0):(Nm l).length≤l.length:=by
 have:=Lib.compact_length_le (l.map bl);unfold Nm;simpa using this
def eJ{v1 v2:Sl}{fr to:List Shr}(r1:RdE w0 E eSh v1 fr)(r2:RdE w0 E eSh v2 to)(n1:fr.length<100000)(n2:to.length<100000){b:Nat}(h:St w0 ([Cl b Zh [SlV v1,SlV v2]]::E) w){k:Sl→PT}
  (hk:∀v' s' w',Rw eS zc 1 v' (vE fr to) s'→St w0 (s'::[Cl b Zh [SlV v1,SlV v2]]::E) w'→k v' w') :
  L.call Pr jo [sD.val,.slice (some ⟨b,0,none⟩) 2 2] (.one (.one .slice)) k w:=by
 refine za (vy sD ⟨some ⟨b,0,none⟩,2,2⟩) ?_;unfold xW
 let N:Nat→List B0:=λj=>if j=0 then []else if j=1 then fr.map (·.1)else fr.map (·.1)++to.map (·.1)
 refine zX (λq y w=>∃(j:Nat)(s3:Seg),@Eq Int y.2.1 j∧q+j=2∧Rw eS zc 1 y.1 (N j) s3∧St w0 (s3::[Cl b Zh [SlV v1,SlV v2]]::E) w) 2 ⟨0,[],rfl,rfl,Rw.nil,h.nil⟩ ?_;clear h;rintro q ⟨vo,y,⟨⟩⟩ w ⟨j,s3,hy,hq,r3,h⟩ again hag
 (try dsimp only)
 simp only at hy r3;subst hy;refine it (λhb=>?_) (λhb=>?_)<;>(try simp only[zB]at hb)
 ·have hj:j=0∨j=1:=by omega
  rcases hj with rfl | rfl
  ·refine ix (by decide) (by decide) ?_
   (refine ldC h ?_)
   refine Ny r1 (by omega) (V:=(v1,v2)) (A:=[]) (by decide) r3 h λv' s' m w r3' h=>?_;exact hag 1 _ w (by omega) ⟨1,s',by rfl,by omega,r3',h⟩
  ·refine ix (by decide) (by decide) ?_
   (refine ldC h ?_)
   refine Ny r2 (by omega) (V:=(v1,v2)) (A:=fr.map (·.1)) (by simp;omega) r3 h λv' s' m w r3' h=>?_;exact hag 0 _ w (by omega) ⟨2,s',by rfl,by omega,r3',h⟩
 ·have hj:j=2:=by omega
  subst hj;have r3:Rw eS zc 1 vo (fr.map (·.1)++to.map (·.1)) s3:=r3;refine BL h 0 rfl r3 (by simp;omega) λs' w r3 h=>?_;refine bu h 0 rfl r3 (by rw[jk];simp;omega) λv' s' w r3 h=>?_;exact⟨v',rfl,hk v' s' w r3 h⟩
def XN(fr to:List Shr)(gone whole:Int)(n:B0):Int:=if 0<wOf to n-wOf fr n then(wOf to n-wOf fr n)*gone/whole else 0
def Yp(fr to:List Shr)(gone whole:Int)(st:Int×List Shr)(n:B0):Int×List Shr:=
 let d:=wOf fr n-wOf to n
 let m:=if 0<d then 0-(if st.1<d then st.1 else d)else XN fr to gone whole n
 (if 0<d then st.1+m else st.1,if 0<wOf fr n+m then st.2++[(n,wOf fr n+m,())]else st.2)
def iO(fr to:List Shr)(gone whole:Int):List Shr:=
 ((vE fr to).foldl (Yp fr to gone whole) (((vE fr to).map (XN fr to gone whole)).sum,[])).2
def QH(fr to:List Shr)(gone whole:Int):List Shr:=if whole≤0∨whole≤gone then to else if gone≤0 then fr else iO fr to gone whole
def Cq{fr to:List Shr}{gone whole:Int}(hf:∀s∈fr,0≤@id Int s.2.1∧@id Int s.2.1≤1000)(ht:∀s∈to,0≤@id Int s.2.1∧@id Int s.2.1≤1000)(h0:0<gone)(h1:gone<whole)(n:B0) :
  0≤XN fr to gone whole n∧XN fr to gone whole n≤1000:=by
 have a:=KZ (r:=n) hf;have b:=KZ (r:=n) ht;unfold XN;split
 ·rename_i hc;have hd:wOf to n-wOf fr n≤1000:=by omega
  generalize wOf to n-wOf fr n=d at hc hd ⊢;refine⟨Int.ediv_nonneg (Int.mul_nonneg (by omega) (by omega)) (by omega),Int.ediv_le_of_le_mul (by omega) ?_⟩;exact Int.mul_le_mul hd (by omega) (by omega) (by omega)
 ·exact⟨by decide,by decide⟩
def z0L{fr to:List Shr}{gone whole:Int}(hf:∀s∈fr,0≤@id Int s.2.1∧@id Int s.2.1≤1000)(ht:∀s∈to,0≤@id Int s.2.1∧@id Int s.2.1≤1000)(h0:0<gone)(h1:gone<whole)(h2:whole≤1000000)(n:B0)(hc:0<wOf to n-wOf fr n) :
  Wi (Int.tdiv (Wi ((Wi (wOf to n-wOf fr n))*gone)) whole)=XN fr to gone whole n:=by
 have a:=KZ (r:=n) hf;have b:=KZ (r:=n) ht;have c:=Cq hf ht h0 h1 n;unfold XN at c ⊢;rw[if_pos hc]at c ⊢;have hd:wOf to n-wOf fr n≤1000:=by omega
 have e1:Wi (wOf to n-wOf fr n)=wOf to n-wOf fr n:=wr (by omega) (by omega);rw[e1];generalize wOf to n-wOf fr n=d at hc hd c ⊢;have m0:0≤d*gone:=Int.mul_nonneg (by omega) (by omega);have m1:d*gone≤1000*1000000:=Int.mul_le_mul hd (by omega) (by omega) (by omega);have e2:Wi (d*gone)=d*gone:=wr (by omega) (by omega);rw[e2,Int.tdiv_eq_ediv_of_nonneg m0,wr (by omega) (by omega)]
def Wj(h:St w0 E w){v1 v2:Sl}{fr to:List Shr}(r1:RdE w0 E eSh v1 fr)(r2:RdE w0 E eSh v2 to)(n1:fr.length<100000)(n2:to.length<100000)(z1:v1.a=none→fr = [])(z2:v2.a=none→to = [])
  (hf:∀s∈fr,0≤@id Int s.2.1∧@id Int s.2.1≤1000) (ht:∀s∈to,0≤@id Int s.2.1∧@id Int s.2.1≤1000) {gone whole:Int} (hw:whole≤1000000) {k:Sl→PT}
  (hk:∀v s w',Rw eSh Zb 2 v (QH fr to gone whole) s→St w0 (s::E) w'→k v w'):L.call Pr oP [SlV v1,SlV v2,I gone,I whole] (.one (.one .slice)) k w:=by
 refine za (nG v1 v2 _ _) ?_;unfold Mn;have toEnd:∀{w},(whole≤0∨whole≤gone)→St w0 E w→L.call Pr Zl [.slice v2.a v2.len v2.cap] (.one (.one (.slice))) (λ(x3:Sl) w'=>∃x,Value.slice x3.a x3.len x3.cap=RT.val (.one (.one .slice)) x∧k x w') w:=by
  intro w hc h;refine mn h (r2 w h) (by omega) z2 λv s w r h=>⟨v,rfl,hk v s w ?_ h⟩;unfold QH;rw[if_pos hc];exact r
 refine jd ?_;refine it (λh1=>?_) (λh1=>?_)<;>(try simp only[zB]at h1)
 ·exact itT rfl (toEnd (.inl h1) h)
 refine it (λh2=>?_) (λh2=>?_)
 ·exact toEnd (.inr (by simpa using h2)) h
 have h2:gone<whole:=by simpa using h2
 have hno:¬(whole≤0∨whole≤gone):=by omega
 refine it (λh3=>?_) (λh3=>?_)<;>(try simp only[zB]at h3)
 ·refine mn h (r1 w h) (by omega) z1 λv s w r h=>⟨v,rfl,hk v s w ?_ h⟩;unfold QH;rw[if_neg hno,if_pos h3];exact r
 unfold QH at hk;rw[if_neg hno,if_neg h3]at hk;refine nw h ?_;clear h;intro b5 w h;refine eJ r1 r2 n1 n2 h λv6 s6 w r6 h=>?_;have hl6:=Rw.len yu r6;have hnn:(vE fr to).length<200000:=by
  have:=Nl (yR (fr.map (·.1)++to.map (·.1)));rw[jk,List.length_append,List.length_map,List.length_map]at this;unfold vE;omega
 unfold iO at hk;generalize vE fr to=ns at *
 refine mkN elI YI 0 rfl h (by omega) (by omega) (by omega) λv7 s7 w r7 h=>?_;rw[Int.toNat_natCast,hl6]at r7;have hup:∀n,0≤XN fr to gone whole n∧XN fr to gone whole n≤1000:=Cq hf ht (by omega) h2;have hupe:=λn=>z0L hf ht (by omega) h2 hw n;have wf:∀n,0≤wOf fr n∧wOf fr n≤1000:=λn=>KZ hf;have wt:∀n,0≤wOf to n∧wOf to n≤1000:=λn=>KZ ht;have sumb:∀l:List B0,0≤(l.map (XN fr to gone whole)).sum∧(l.map (XN fr to gone whole)).sum≤1000*l.length:=by
  intro l
  induction l with
  | nil=>exact⟨Int.le_refl 0,Int.le_refl 0⟩
  | cons x l ih=>
   have:=hup x;simp only[List.map_cons,List.sum_cons,List.length_cons];omega
 have r1':RdE w0 ([Cl b5 Zh [SlV v1,SlV v2]]::E) eSh v1 fr:=λw h=>r1 w (zj h);have r2':RdE w0 ([Cl b5 Zh [SlV v1,SlV v2]]::E) eSh v2 to:=λw h=>r2 w (zj h)
 refine zX (λq y w=>∃(j:Nat)(m:List Int)(s7:Seg),@Eq Int y.2.1 j∧q+j=ns.length∧@Eq Int y.1 ((ns.take j).map (XN fr to gone whole)).sum∧m.length=ns.length∧(∀i x,ns[i]? = some x→m[i]? = some (if i<j then XN fr to gone whole x else 0))∧
  Rw eI zp 1 v7 m s7∧St w0 (s7::s6::[Cl b5 Zh [SlV v1,SlV v2]]::E) w) ns.length ⟨0,_,s7,rfl,by simp,rfl,by simp,λi x hx=>?_,r7,h⟩ ?_
 ·rw[if_neg (by omega),List.getElem?_replicate,if_pos (List.getElem?_eq_some_iff.1 hx).1]
 clear h;clear r7;rintro q ⟨g,y,⟨⟩⟩ w ⟨j,m,s7,hy,hq,hg,hm,hmm,r7,h⟩ again hag
 (try dsimp only)
 simp only at hy hg;subst hy;refine it (λhb=>?_) (λhb=>?_)<;>(try simp only[zB]at hb)
 ·have hj:j<ns.length:=by omega
  have hx:ns[j]? = some ns[j]:=List.getElem?_eq_getElem hj;have es:((ns.take (j+1)).map (XN fr to gone whole)).sum=((ns.take j).map (XN fr to gone whole)).sum+XN fr to gone whole ns[j]:=by rw[List.take_succ,hx,List.map_append,List.sum_append];simp
  have hsb:=sumb (ns.take j);have hlt:(ns.take j).length≤200000:=by rw[List.length_take];omega
  generalize ns[j]=x at hx es;have next:∀{w}{m':List Int}{s7':Seg}{g':Int},g'=g+XN fr to gone whole x→m'.length=ns.length→(∀i z,ns[i]? = some z→m'[i]? = some (if i<j+1 then XN fr to gone whole z else 0))→Rw eI zp 1 v7 m' s7'→St w0 (s7'::s6::[Cl b5 Zh [SlV v1,SlV v2]]::E) w→again (g',Wi ((j:Int)+1),()) w:=by
   intro w m' s7' g' e1 e2 e3 e4 h;refine hag (q-1) _ w (by omega) ⟨j+1,m',s7',?_,by omega,?_,e2,e3,e4,h⟩
   ·show Wi _=_;rw[wr (by omega) (by omega)];omega
   ·show g'=_;rw[e1,es,hg]
  refine jd ?_
  (refine dr h ?_;clear h;intro w h)
  refine Rw.ix yu r6 (by omega) (by simpa using hj) λa1 ha1=>?_;refine Rw.ld0 yu h 1 rfl r6 ha1 (x:=x) (by simpa using hx) rfl rfl ?_;refine Rw.ix yu r6 (by omega) (by simpa using hj) λa2 ha2=>?_;refine Rw.ld0 yu h 1 rfl r6 ha2 (x:=x) (by simpa using hx) rfl rfl ?_;refine PS h (λw h=>r2' w (zj (zj h))) (by omega) λw h=>?_;refine Rw.cka yu h 1 rfl r6 ha2 (x:=x) (by simpa using hx) rfl ?_;refine PS h (λw h=>r1' w (zj (zj h))) (by omega) λw h=>?_;have hux:=hup x;have hfx:=wf x;have htx:=wt x;have hue:=hupe x;have e9:Wi (wOf to x-wOf fr x)=wOf to x-wOf fr x:=wr (by omega) (by omega);refine it (λh4=>?_) (λh4=>?_)<;>(try simp only[zB]at h4)
  ·rw[e9]at h4;have hue:=hue h4;refine gd (by omega) ?_;refine Rw.ix YI r7 (by omega) (by simp;omega) λa3 ha3=>?_;refine Rw.sta YI h 0 rfl r7 ha3 (XN fr to gone whole x) (by simp;omega) (by rw[hue];rfl) λs7' w r7' h=>?_;refine Rw.ix YI r7' (by omega) (by simp;omega) λa4 ha4=>?_;refine Rw.ld0 YI h 0 rfl r7' ha4 (x:=XN fr to gone whole x) (by rw[Int.toNat_natCast];exact List.getElem?_set_self (by omega)) rfl rfl ?_;have eg:Wi (g+XN fr to gone whole x)=g+XN fr to gone whole x:=wr (by omega) (by omega)
   (try dsimp only)
   rw[eg];refine next rfl (by simpa using hm) (λi z hz=>?_) r7' h
   simp only[Int.toNat_natCast];rw[List.getElem?_set];split
   ·rename_i e;subst e;rw[hx]at hz;cases hz;rw[if_pos (by omega),if_pos (by omega)]
   ·rename_i e;rw[hmm i z hz];by_cases hi:i<j
    ·rw[if_pos hi,if_pos (by omega)]
    ·rw[if_neg hi,if_neg (by omega)]
  ·rw[e9]at h4;have h0:XN fr to gone whole x=0:=by unfold XN;rw[if_neg h4]
   refine next (by rw[h0];omega) hm (λi z hz=>?_) r7 h
   rw[hmm i z hz];by_cases hi:i<j
   ·rw[if_pos hi,if_pos (by omega)]
   ·rw[if_neg hi];split
    ·have:i=j:=by omega
     subst this;rw[hx]at hz;cases hz;rw[h0]
    ·rfl
 ·have e:ns.take j=ns:=List.take_of_length_le (by omega);rw[e]at hg;have hsb:=sumb ns;have hm2:∀i x,ns[i]? = some x→m[i]? = some (XN fr to gone whole x):=λi x hx=>by
   rw[hmm i x hx,if_pos (by have:=(List.getElem?_eq_some_iff.1 hx).1;omega)]
  generalize hg0:(ns.map (XN fr to gone whole)).sum=G at *
  refine zX (λq y w=>∃(j:Nat)(m:List Int)(s7 s8:Seg),@Eq Int y.2.2.1 j∧q+j=ns.length∧@Eq Int y.1 ((ns.take j).foldl (Yp fr to gone whole) (G,[])).1∧(0≤@id Int y.1∧@id Int y.1≤G)∧m.length=ns.length∧(∀i x,j≤i→ns[i]? = some x→m[i]? = some (XN fr to gone whole x))∧
   Rw eSh Zb 2 y.2.1 ((ns.take j).foldl (Yp fr to gone whole) (G,[])).2 s8∧((ns.take j).foldl (Yp fr to gone whole) (G,[])).2.length≤j∧
   Rw eI zp 1 v7 m s7∧St w0 (s8::s7::s6::[Cl b5 Zh [SlV v1,SlV v2]]::E) w) ns.length ⟨0,m,s7,[],rfl,by simp,hg,?_,hm,λi x _ hx=>hm2 i x hx,Rw.nil,by simp,r7,h.nil⟩ ?_
  ·show 0≤g∧g≤G;omega
  clear hag hb hq hmm hm2 hm hg e r7;clear j m;clear h;rintro q ⟨g,vo,y,⟨⟩⟩ w ⟨j,m,s7,s8,hy,hq,hg,hgb,hm,hmm,r8,hl8,r7,h⟩ again hag
  (try dsimp only)
  simp only[id]at hgb;simp only at hy hg r8;subst hy;refine it (λhb=>?_) (λhb=>?_)<;>(try simp only[zB]at hb)
  ·have hj:j<ns.length:=by omega
   have hx:ns[j]? = some ns[j]:=List.getElem?_eq_getElem hj;have es:(ns.take (j+1)).foldl (Yp fr to gone whole) (G,[])=Yp fr to gone whole ((ns.take j).foldl (Yp fr to gone whole) (G,[])) ns[j]:=by rw[List.take_succ,hx,List.foldl_append];rfl
   generalize (ns.take j).foldl (Yp fr to gone whole) (G,[])=st at *
   generalize ns[j]=x at hx es;obtain⟨st1,st2⟩:=st
   (try dsimp only at hg r8 hl8 es)
   have hux:=hup x;have hfx:=wf x;have htx:=wt x;have hmx:=hmm j x (Nat.le_refl _) hx
   have next:∀{w}{m':List Int}{s7' s8':Seg}{g':Int}{vo':Sl}{l':List Shr},(g',l')=Yp fr to gone whole (st1,st2) x→(0≤g'∧g'≤G)→m'.length=ns.length→(∀i z,j+1≤i→ns[i]? = some z→m'[i]? = some (XN fr to gone whole z))→l'.length≤j+1→Rw eSh Zb 2 vo' l' s8'→Rw eI zp 1 v7 m' s7'→
     St w0 (s8'::s7'::s6::[Cl b5 Zh [SlV v1,SlV v2]]::E) w→again (g',vo',Wi ((j:Int)+1),()) w:=by
    intro w m' s7' s8' g' vo' l' e1 e0 e2 e3 el e4 e5 h;refine hag (q-1) _ w (by omega) ⟨j+1,m',s7',s8',?_,by omega,?_,e0,e2,e3,?_,?_,e5,h⟩
    ·show Wi _=_;rw[wr (by omega) (by omega)];omega
    ·show g'=_;rw[es,←e1]
    ·show Rw eSh Zb 2 vo' _ _;rw[es,←e1];exact e4
    ·rw[es,←e1];exact el
   refine jd ?_;refine Rw.ix yu r6 (by omega) (by simpa using hj) λa1 ha1=>?_;refine Rw.ld0 yu h 2 rfl r6 ha1 (x:=x) (by simpa using hx) rfl rfl ?_;refine PS h (λw h=>r1' w (zj (zj (zj h)))) (by omega) λw h=>?_;refine jd ?_;refine Rw.ix yu r6 (by omega) (by simpa using hj) λa2 ha2=>?_;refine Rw.ld0 yu h 2 rfl r6 ha2 (x:=x) (by simpa using hx) rfl rfl ?_;refine PS h (λw h=>r2' w (zj (zj (zj h)))) (by omega) λw h=>?_;have e9:Wi (wOf fr x-wOf to x)=wOf fr x-wOf to x:=wr (by omega) (by omega);rw[e9];refine it (λh4=>?_) (λh4=>?_)<;>(try simp only[zB]at h4)
   ·have hst:Yp fr to gone whole (st1,st2) x=(st1+(0-(if st1<wOf fr x-wOf to x then st1 else wOf fr x-wOf to x)),if 0<wOf fr x+(0-(if st1<wOf fr x-wOf to x then st1 else wOf fr x-wOf to x))then st2++[(x,wOf fr x+(0-(if st1<wOf fr x-wOf to x then st1 else wOf fr x-wOf to x)),())]else st2):=by
     have h4':0<wOf fr x-wOf to x:=h4;unfold Yp;dsimp only;rw[if_pos h4',if_pos h4']
    subst hg;have em:Wi (0-(if g<wOf fr x-wOf to x then g else wOf fr x-wOf to x))=0-(if g<wOf fr x-wOf to x then g else wOf fr x-wOf to x):=by
     split<;>exact wr (by omega) (by omega)
    have hmv: -1000≤0-(if g<wOf fr x-wOf to x then g else wOf fr x-wOf to x)∧0-(if g<wOf fr x-wOf to x then g else wOf fr x-wOf to x)≤0∧0≤g+(0-(if g<wOf fr x-wOf to x then g else wOf fr x-wOf to x)):=by split<;>omega
    rw[em];generalize 0-(if g<wOf fr x-wOf to x then g else wOf fr x-wOf to x)=mv at hst em hmv;refine Rw.ix YI r7 (by omega) (by rw[Int.toNat_natCast];omega) λa3 ha3=>?_;refine Rw.sta YI h 1 rfl r7 ha3 mv (by rw[Int.toNat_natCast];omega) rfl λs7 w r7 h=>?_;rw[Int.toNat_natCast]at r7;have hm:(m.set j mv).length=ns.length:=by simpa using hm
    have hmj:(m.set j mv)[j]? = some mv:=List.getElem?_set_self (by rw[List.length_set]at hm;omega);have hm3:∀i z,j+1≤i→ns[i]? = some z→(m.set j mv)[i]? = some (XN fr to gone whole z):=λi z hi hz=>by
     rw[List.getElem?_set_ne (by omega)];exact hmm i z (by omega) hz
    generalize m.set j mv=m at *
    refine Rw.ix YI r7 (by omega) (by rw[Int.toNat_natCast];omega) λa4 ha4=>?_;refine Rw.ld0 YI h 1 rfl r7 ha4 (x:=mv) (by rw[Int.toNat_natCast];exact hmj) rfl rfl ?_;have eg:Wi (g+mv)=g+mv:=wr (by omega) (by omega);rw[eg];have hgg:0≤g+mv∧g+mv≤G:=by omega
    refine Rw.ix YI r7 (by omega) (by rw[Int.toNat_natCast];omega) λa5 ha5=>?_;refine Rw.ld0 YI h 1 rfl r7 ha5 (x:=mv) (by rw[Int.toNat_natCast];exact hmj) rfl rfl ?_;have e10:Wi (wOf fr x+mv)=wOf fr x+mv:=wr (by omega) (by omega);rw[e10];refine it (λh5=>?_) (λh5=>?_)<;>(try simp only[zB]at h5)
    ·rw[if_pos h5]at hst;refine Rw.ix yu r6 (by omega) (by simpa using hj) λa6 ha6=>?_;refine Rw.ld0 yu h 2 rfl r6 ha6 (x:=x) (by simpa using hx) rfl rfl ?_;refine nw h ?_;clear h;intro b40 w h;refine Rw.app jE Hr h 0 rfl r8 ((x,wOf fr x+mv,()):Shr) rfl (by omega) (by omega) λv' s8' w r8' h=>?_;exact next hst.symm hgg hm hm3 (by simp;omega) r8' r7 h
    ·rw[if_neg h5]at hst;exact next hst.symm hgg hm hm3 (by omega) r8 r7 h
   ·have hst:Yp fr to gone whole (st1,st2) x=(st1,if 0<wOf fr x+XN fr to gone whole x then st2++[(x,wOf fr x+XN fr to gone whole x,())]else st2):=by
     have h4':¬0<wOf fr x-wOf to x:=h4;unfold Yp;dsimp only;rw[if_neg h4',if_neg h4']
    subst hg;have hgg:=hgb;have hmj:=hmx;have hm3:∀i z,j+1≤i→ns[i]? = some z→m[i]? = some (XN fr to gone whole z):=λi z hi hz=>hmm i z (by omega) hz;generalize XN fr to gone whole x=mv at hst hmj hux;refine Rw.ix YI r7 (by omega) (by rw[Int.toNat_natCast];omega) λa5 ha5=>?_;refine Rw.ld0 YI h 1 rfl r7 ha5 (x:=mv) (by rw[Int.toNat_natCast];exact hmj) rfl rfl ?_;have e10:Wi (wOf fr x+mv)=wOf fr x+mv:=wr (by omega) (by omega);rw[e10];refine it (λh5=>?_) (λh5=>?_)<;>(try simp only[zB]at h5)
    ·rw[if_pos h5]at hst;refine Rw.ix yu r6 (by omega) (by simpa using hj) λa6 ha6=>?_;refine Rw.ld0 yu h 2 rfl r6 ha6 (x:=x) (by simpa using hx) rfl rfl ?_;refine nw h ?_;clear h;intro b40 w h;refine Rw.app jE Hr h 0 rfl r8 ((x,wOf fr x+mv,()):Shr) rfl (by omega) (by omega) λv' s8' w r8' h=>?_;exact next hst.symm hgg hm hm3 (by simp;omega) r8' r7 h
    ·rw[if_neg h5]at hst;exact next hst.symm hgg hm hm3 (by omega) r8 r7 h
  ·have e:ns.take j=ns:=List.take_of_length_le (by omega);rw[e]at r8 hl8;refine mn h (Rw.rd jE h 0 rfl r8) (by omega) (Rw.nil0 jE r8) λv s w r h=>⟨v,rfl,hk v s w r (yw (yw (yw (yw h))))⟩
abbrev Wy:=HT [.slice,.slice,.int .i64,.int .i64,.slice,.slice]
abbrev eWy:E1:=.agg [.slice,.slice,.int .i64,.int .i64,.slice,.slice]
def vWy(t:Wy):Value:=eWy.val t
def lP:Wy:=(⟨none,0,0⟩,⟨none,0,0⟩,0,0,⟨none,0,0⟩,⟨none,0,0⟩,())
structure Nd where
 fr:List Shr
 to:List Shr
 since:Int
 whole:Int
 ns:List Shr
 ng:List Tgo
abbrev WBd(l:List Shr):Prop:=∀s∈l,0≤@id Int s.2.1∧@id Int s.2.1≤1000
structure Nd.Ok(a:Nd):Prop where
 fr:WBd a.fr
 to:WBd a.to
 ns:WBd a.ns
 lf:a.fr.length<100000
 lt:a.to.length<100000
 ln:a.ns.length<100000
 lg:a.ng.length<100000
structure WyE where
 k:B0
 t:Wy
 a:Nd
def WyE.ok(P:List Seg)(x:WyE):Prop:=
 (∃s∈P,Rw eSh Zb 2 x.t.1 x.a.fr s)∧(∃s∈P,Rw eSh Zb 2 x.t.2.1 x.a.to s)∧x.t.2.2.1=x.a.since∧x.t.2.2.2.1=x.a.whole∧(∃s∈P,Rw eSh Zb 2 x.t.2.2.2.2.1 x.a.ns s)∧(∃s∈P,Rw eTo Jl 2 x.t.2.2.2.2.2.1 x.a.ng s)
abbrev WyE.kt(x:WyE):B0×Wy:=(x.k,x.t)
abbrev WyE.ka(x:WyE):B0×Nd:=(x.k,x.a)
def WyE.ok.more{P P':List Seg}{x:WyE}(h:x.ok P)(hp:∀s∈P,s∈P'):x.ok P':=by
 obtain⟨⟨s1,h1,r1⟩,⟨s2,h2,r2⟩,e1,e2,⟨s3,h3,r3⟩,⟨s4,h4,r4⟩⟩:=h;exact⟨⟨s1,hp _ h1,r1⟩,⟨s2,hp _ h2,r2⟩,e1,e2,⟨s3,hp _ h3,r3⟩,⟨s4,hp _ h4,r4⟩⟩
abbrev VT:=List (B0×Nd)
def LW(b:Nat)(m:VT)(s:Seg):Prop:=∃r sm,∃(P:List Seg)(Q:List WyE),MpS Value.string vWy r (Q.map WyE.kt) sm∧(∀x∈Q,x.ok P)∧m=Q.map WyE.ka∧s = [Cl b oV [.map (some r)]]++(sm++P.flatten)
def wq:Pr.underlying yI=some (.map zc Yh):=by kernel_rfl
def zwy(w:World):(zeroValue Yh).run Pr w = .ok (eWy.val lP) w:=by
 have h:(Pr.info? Yh).map (·.zero)=some (some (.agg #[.slice none 0 0,.slice none 0 0,I 0,I 0,.slice none 0 0,.slice none 0 0])):=by kernel_rfl
 cases hi:Pr.info? Yh with
 | none=>rw[hi]at h;cases h
 | some i=>rw[hi]at h;simp only[Option.map_some,Option.some.injEq]at h;exact zv hi h w
def Pl{α:Type}{enc:α→List Value}{e size:Nat}{v:Sl}{l:List α}{s:Seg}{P:List Seg}(hE:Enc enc size)(hr:Rw enc e size v l s)(hs:s∈P)(i:Nat)(hi:nth E i=some P.flatten):RdE w0 E enc v l:=by
 obtain⟨A,B,rfl⟩:=List.append_of_mem hs;intro w h;have h:=h.front i hi;have h:St w0 (s::(A.flatten++B.flatten)::Zi E i) w:=by
  refine h.perm ?_;simp only[List.flatten_append,List.flatten_cons,←List.append_assoc];exact List.Perm.append_right _ (List.Perm.append_right _ List.perm_append_comm)
 exact Rw.rd hE h 0 rfl hr
def Ga(Q:List WyE)(n:B0):Option WyE:=uI WyE.k Q n
def Cp(Q:List WyE)(n:B0):zA (Q.map WyE.ka) n=(Ga Q n).map WyE.a:=Qi (key:=WyE.k) WyE.a n Q
def EE(Q:List WyE)(n:B0):zA (Q.map WyE.kt) n=(Ga Q n).map WyE.t:=Qi (key:=WyE.k) WyE.t n Q
def Aw{r:Nat}{Q:List WyE}{s:Seg}(h:St w0 E w)(i:Nat)(hi:nth E i=some s)(hm:MpS Value.string vWy r (Q.map WyE.kt) s){n:B0}{kk:Wy×Bool×Unit→PT}(hk:kk (((Ga Q n).map WyE.t).getD lP,(Ga Q n).isSome,()) w) :
  L.semR Pr (.tup [eWy,.one .bool]) (Instr.lookup yI (.map (some r)) (.string n) true) kk w:=by
 refine MpS.get2 uH wq zwy (λt:Wy=>t) (λ_=>rfl) h i hi hm ?_;have e:=EE Q n;have:((zA (Q.map WyE.kt) n).map λt:Wy=>t).getD lP=((Ga Q n).map WyE.t).getD lP:=by rw[e];cases Ga Q n<;>rfl
 rw[this,e,Option.isSome_map];exact hk
def HS(h:St w0 E w){k:Option Addr→PT}(hk:∀b s w',LW b [] s→St w0 (s::E) w'→k (some ⟨b,0,none⟩) w'):L.call Pr MH [] (.one (.one .ptr)) k w:=by
 refine za bF ?_;unfold DF;refine MpS.new h Value.string vWy λr s w hm h=>?_;refine nw h ?_;clear h;intro b w h;exact⟨_,rfl,hk b _ w ⟨r,s,[],[],hm,by simp,rfl,by simp⟩ h.glue⟩
def Gd(m:VT)(n:B0):vC:=match zA m n with
 | some a=>⟨a.ns,a.ng⟩
 | none=>⟨[],[]⟩
def Ag(h:St w0 E w)(i:Nat){b:Nat}{m:VT}{s:Seg}(hi:nth E i=some s)(hs:LW b m s){n:B0}(hok:∀a,zA m n=some a→a.Ok){k:HT [.slice,.slice]×Bool×Unit→PT}
  (hk:∀p sx w',(∀E',Or w0 (sx::E') p (Gd m n))→St w0 (sx::E) w'→k (p,(zA m n).isSome,()) w') :
  L.call Pr QA [pO b,.string n] (.tup [.agg [.slice,.slice],.one .bool]) k w:=by
 obtain⟨r,sm,P,Q,hm,hQ,rfl,rfl⟩:=hs;refine za (mG _ _) ?_;unfold VL;have h:=(h.front i hi).split3;refine nw h ?_;clear h;intro b1 w h
 (refine nn ?_;refine ldC h ?_)
 refine Aw h 2 rfl hm ?_;rw[Cp]at hk hok;unfold Gd at hk;rw[Cp]at hk
 cases hf:Ga Q n with
 | none=>
  rw[hf]at hk;refine nw h ?_;clear h;intro b5 w h
  (refine stC h ?_;clear h;intro w h;dsimp only[zE,zd]at h)
  refine itT rfl ?_
  (refine stC h ?_;clear h;intro w h;dsimp only[zE,zd]at h;refine laC h ?_)
  refine⟨((⟨none,0,0⟩,⟨none,0,0⟩,()),false,()),rfl,hk _ [] w (λ_=>⟨λ_ _=>Rd.nil,λ_ _=>Rd.nil,λ_=>rfl,λ_=>rfl,by decide,by decide⟩) ?_⟩;exact St.nil (St.again i hi (zj (zj h)).glue3)
 | some x=>
  rw[hf]at hk hok;have hx:x∈Q:=List.mem_of_find?_eq_some hf;have ho:=hok x.a rfl;obtain⟨h1,h2,e1,e2,⟨s3,h3,r3⟩,⟨s4,h4,r4⟩⟩:=hQ x hx;dsimp only[Option.map,Option.getD];generalize x.t=t at *
  refine nw h ?_;clear h;intro b5 w h
  (refine stC h ?_;clear h;intro w h;dsimp only[zE,zd]at h)
  refine itF rfl ?_
  (refine laC h ?_)
  refine Ko (t:=⟨x.a.ns,x.a.ng⟩) (p:=(t.2.2.2.2.1,t.2.2.2.2.2.1,())) h ⟨Pl jE r3 h3 4 rfl,Pl qe r4 h4 4 rfl,Rw.nil0 jE r3,Rw.nil0 qe r4,ho.ln,ho.lg⟩ λv1 v2 s1 s2 w r1 r2 h=>?_
  (refine stC h ?_;clear h;intro w h;dsimp only[zE,zd]at h;refine laC h ?_)
  refine⟨((v1,v2,()),true,()),rfl,hk _ (s2++s1) w (λ_=>⟨λw h=>Rw.rd jE h.split 1 rfl r1,λw h=>Rw.rd qe h.split 0 rfl r2,Rw.nil0 jE r1,Rw.nil0 qe r2,ho.ln,ho.lg⟩) ?_⟩;have h:=uV (uV h);have h:=yM (yM (yM h));have h:=h.glue3;have h:=St.again (E:=s2::s1::E) (i+2) hi h;exact h.glue
def Ea(h:St w0 E w)(i:Nat){b:Nat}{m:VT}{s:Seg}(hi:nth E i=some s)(hs:LW b m s){n:B0}{k:Unit→PT}
  (hk:∀s' w',LW b (UF m n) s'→St w0 (zd E i s') w'→k () w'):L.call Pr uh [pO b,.string n] (.tup []) k w:=by
 obtain⟨r,sm,P,Q,hm,hQ,rfl,rfl⟩:=hs;refine za (pt _ _) ?_;unfold KA;have h:=(h.front i hi).split3
 (refine nn ?_;refine ldC h ?_)
 refine MpS.del uH wq h 1 rfl hm λsm' w hm' h=>?_;have e1:=dU (key:=WyE.k) WyE.t n Q;have e2:=dU (key:=WyE.k) WyE.a n Q;exact⟨(),rfl,hk _ w ⟨r,sm',P,ldel WyE.k Q n,by rw[e1];exact hm',λx hx=>hQ x (Ld hx),e2.symm,rfl⟩ (St.back i hi h.glue3)⟩
instance :DecidableEq Shr:=inferInstanceAs (DecidableEq (B0×Int×Unit))
instance :DecidableEq Tgo:=inferInstanceAs (DecidableEq (B0×B0×Unit))
def IE(a b:Shr)(w:World):(do eqGuard .neq Zb (.tmp 0) (.tmp 0) (.agg #[.string a.1,.int .i64 a.2.1]) (.agg #[.string b.1,.int .i64 b.2.1]);binOp .neq Zb (.agg #[.string a.1,.int .i64 a.2.1]) (.agg #[.string b.1,.int .i64 b.2.1]):Sem Value).run Pr w = .ok (.bool (!((a.1 == b.1)&&((a.2.1 == b.2.1)&&true)))) w:=by
 obtain⟨a1,a2,⟨⟩⟩:=a;obtain⟨b1,b2,⟨⟩⟩:=b;refine Sm (by kernel_rfl) ?_;have hS:Pr.underlying Zb=some (.struct (Pr.fieldsOf Zb)):=by kernel_rfl
 have hp:Pr.stoodInHeld Zb=false:=by kernel_rfl
 rw[show(10000:Nat)=9999+1 from rfl,run_equalIn_agg w 9999 Zb _ _ hS hp];have u9:=Tryz.underlying9;have i9:=Tryz.isAgg9;have z9:=Tryz.sizeOf9;have u3:=Tryz.underlying3;have i3:=Tryz.isAgg3;have z3:=Tryz.sizeOf3;simp only[Program.fieldsOf,Tryz.underlying60]
 go_simp
 have e:(ByteArray.toList a1=ByteArray.toList b1)↔(@BEq.beq B0 _ a1 b1)=true:=by rw[beq_toListBytes];simp
 by_cases h1:(@BEq.beq B0 _ a1 b1)=true
 ·have:=e.2 h1;by_cases h2:a2=b2<;>simp[h1,h2,this]
 ·have:=λhh=>h1 (e.1 hh);by_cases h2:a2=b2<;>first | (simp[h1,h2,this];done) | (simp[h1,h2];exact this)
def Ar(h:St w0 E w){v1 v2:Sl}{l1 l2:List Shr}(r1:RdE w0 E eSh v1 l1)(r2:RdE w0 E eSh v2 l2)(n1:l1.length<1000000){k:Bool→PT}(hk:∀w',St w0 E w'→k (decide (l1=l2)) w') :
  L.call Pr yz [SlV v1,SlV v2] (.one (.one .bool)) k w:=by
 refine za (uw v1 v2) ?_;unfold JH;have e1:=Rd.len (r1 w h);have e2:=Rd.len (r2 w h);refine it (λhc=>?_) (λhc=>?_)<;>(try simp only[bne_iff_ne,ne_eq,bne_eq_false_iff_eq]at hc)
 ·refine⟨false,rfl,?_⟩;have:=hk w h;rw[decide_eq_false (λe=>by rw[e]at e1;omega)]at this;exact this
 have hl:l1.length=l2.length:=by omega
 refine zX (λq y w=>∃(j:Nat),@Eq Int y.1 j∧q+j=l1.length∧l1.take j=l2.take j∧St w0 E w) l1.length ⟨0,rfl,rfl,rfl,h⟩ ?_;clear h;rintro q ⟨y,⟨⟩⟩ w ⟨j,hy,hq,he,h⟩ again hag
 (try dsimp only)
 simp only at hy;subst hy;refine it (λhb=>?_) (λhb=>?_)<;>(try simp only[zB]at hb)
 ·have hj:j<l1.length:=by omega
  have hx:l1[j]? = some l1[j]:=List.getElem?_eq_getElem hj;have hz:l2[j]? = some (l2[j]'(by omega)):=List.getElem?_eq_getElem (by omega);generalize l1[j]=x at hx;generalize (l2[j]'(by omega))=z at hz;refine dr h ?_;clear h;intro w h;refine(r1 w h).ix jE (by omega) (by simpa using hj) λa ha=>?_;refine(r1 w h).lda jE ha (by simpa using hx) rfl ?_;refine(r2 w h).ix jE (by omega) (by simp;omega) λa ha=>?_;refine(r2 w h).lda jE ha (by simpa using hz) rfl ?_;unfold L.chkSem;refine⟨IE x z w,?_⟩;have hxz:((x.1 == z.1)&&((x.2.1 == z.2.1)&&true))=decide (x=z):=by
   obtain⟨x1,x2,⟨⟩⟩:=x;obtain⟨z1,z2,⟨⟩⟩:=z;have e:(@BEq.beq B0 _ x1 z1)=true↔x1=z1:=Tk;dsimp only;rw[Bool.eq_iff_iff];simp only[Bool.and_eq_true,decide_eq_true_eq,Prod.mk.injEq,and_true,beq_iff_eq,e]
  rw[hxz];refine it (λhc=>?_) (λhc=>?_)
  ·have hne:x≠z:=by simpa using hc
   refine⟨false,rfl,?_⟩;have:=hk w h;rw[decide_eq_false (λe=>by rw[e,hz]at hx;cases hx;exact hne rfl)]at this;exact this
  ·have heq:x=z:=by simpa using hc
   refine hag (q-1) _ w (by omega) ⟨j+1,?_,by omega,?_,h⟩
   ·show Wi _=_;rw[wr (by omega) (by omega)];omega
   ·rw[List.take_succ,List.take_succ,he,hx,hz,heq]
 ·refine⟨true,rfl,?_⟩;have:=hk w h;rw[decide_eq_true (by rw[List.take_of_length_le (by omega),List.take_of_length_le (by omega)]at he;exact he)]at this;exact this
def xu(m:VT)(n:B0)(t:vC)(now whole:Int):Nd:=match zA m n with
 | some a=>if a.to=t.sh∧a.whole=whole then a else⟨a.ns,t.sh,now,whole,[],[]⟩
 | none=>⟨t.sh,t.sh,now,whole,[],[]⟩
def Ge(m:VT)(n:B0)(t:vC)(now whole:Int):vC:=⟨QH (xu m n t now whole).fr (xu m n t now whole).to (now-(xu m n t now whole).since) whole,t.tg⟩
def di(m:VT)(n:B0)(t:vC)(now whole:Int):VT:=
 Zp m n ⟨(xu m n t now whole).fr,(xu m n t now whole).to,(xu m n t now whole).since,(xu m n t now whole).whole,(Ge m n t now whole).sh,t.tg⟩
abbrev wyC(t:Wy):List Value:=[SlV t.1,SlV t.2.1,I t.2.2.1,I t.2.2.2.1,SlV t.2.2.2.2.1,SlV t.2.2.2.2.2.1]
def _root_.Go.Dm.St.pool{s:Seg}{P F:List Seg}(h:St w0 (s::P.flatten::F) w):St w0 ((s::P).flatten::F) w:=h.eq (by simp)
structure WyR(P:List Seg)(t:Wy)(a:Nd):Prop where
 fr:∃s∈P,Rw eSh Zb 2 t.1 a.fr s
 to:∃s∈P,Rw eSh Zb 2 t.2.1 a.to s
 since:t.2.2.1=a.since
 whole:t.2.2.2.1=a.whole
abbrev Pi(b r:Nat):Seg:=[Cl b oV [.map (some r)]]
def z2o{b r0 b1 b2 b6:Nat}{sm:Seg}{P F:List Seg}{p:HT [.slice,.slice]}{t:vC}{now whole:Int}{o:Option WyE}{k7:Unit→PT}(hx:∀x,o=some x→WyE.ok P x)(hok:∀x,o=some x→x.a.Ok)(fsh:t.sh.length<100000)
  (r:Or w0 (Pi b r0::sm::P.flatten::F) p t)
  (h:St w0 ([Cl b6 Yh (wyC ((o.map WyE.t).getD lP))]::[Cl b2 zl [SlV ⟨none,0,0⟩,SlV ⟨none,0,0⟩]]::[Cl b1 zl [SlV p.1,SlV p.2.1]]::Pi b r0::sm::P.flatten::F) w)
  (hk:∀N t' w',WyR (N++P) t' (match o with | some x=>if x.a.to=t.sh∧x.a.whole=whole then x.a else⟨x.a.ns,t.sh,now,whole,[],[]⟩ | none=>⟨t.sh,t.sh,now,whole,[],[]⟩)→
   St w0 ([Cl b6 Yh (wyC t')]::[Cl b2 zl [SlV ⟨none,0,0⟩,SlV ⟨none,0,0⟩]]::[Cl b1 zl [SlV p.1,SlV p.2.1]]::Pi b r0::sm::(N++P).flatten::F) w'→k7 () w') :
  (L.ite (!o.isSome) (
   L.draw<|
   L.load (.agg [.slice,.slice]) (⟨b1,0,none⟩) λ(x9:Sl×Sl×Unit)=>
   L.load (.agg [.slice,.slice]) (⟨b1,0,none⟩) λ(x10:Sl×Sl×Unit)=>
   L.call Pr YA [.agg #[.slice x9.1.a x9.1.len x9.1.cap,.slice x9.2.1.a x9.2.1.len x9.2.1.cap]] (.one (.agg [.slice,.slice])) λ(x11:Sl×Sl×Unit)=>
   L.chk (⟨b1,0,none⟩) [.slice x10.1.a x10.1.len x10.1.cap,.slice x10.2.1.a x10.2.1.len x10.2.1.cap]<|
   L.call Pr YA [.agg #[.slice x10.1.a x10.1.len x10.1.cap,.slice x10.2.1.a x10.2.1.len x10.2.1.cap]] (.one (.agg [.slice,.slice])) λ(x12:Sl×Sl×Unit)=>
   L.store (⟨b6,0,none⟩) [.slice x11.1.a x11.1.len x11.1.cap,.slice x12.1.a x12.1.len x12.1.cap,.int .i64 now,.int .i64 whole,.slice none 0 0,.slice none 0 0]<|
   k7 (()))<|
  L.load (.one (.slice)) ((⟨b6,0,none⟩:Addr).add 1) λ(x13:Sl)=>
  L.load (.one (.slice)) ((⟨b1,0,none⟩:Addr).add 0) λ(x14:Sl)=>
  L.call Pr yz [.slice x13.a x13.len x13.cap,.slice x14.a x14.len x14.cap] (.one (.one (.bool))) λ(x15:Bool)=>
  L.ite (!x15) (
   L.draw<|
   L.load (.one (.slice)) (((⟨b6,0,none⟩:Addr).add 4).add 0) λ(x16:Sl)=>
   L.load (.agg [.slice,.slice]) (⟨b1,0,none⟩) λ(x17:Sl×Sl×Unit)=>
   L.call Pr YA [.agg #[.slice x17.1.a x17.1.len x17.1.cap,.slice x17.2.1.a x17.2.1.len x17.2.1.cap]] (.one (.agg [.slice,.slice])) λ(x18:Sl×Sl×Unit)=>
   L.chk (((⟨b6,0,none⟩:Addr).add 4).add 0) [.slice x16.a x16.len x16.cap]<|
   L.store (⟨b6,0,none⟩) [.slice x16.a x16.len x16.cap,.slice x18.1.a x18.1.len x18.1.cap,.int .i64 now,.int .i64 whole,.slice none 0 0,.slice none 0 0]<|
   k7 (()))<|
  L.load (.one (.int .i64)) ((⟨b6,0,none⟩:Addr).add 3) λ(x19:Int)=>
  L.ite (x19 != whole) (
   L.draw<|
   L.load (.one (.slice)) (((⟨b6,0,none⟩:Addr).add 4).add 0) λ(x20:Sl)=>
   L.load (.agg [.slice,.slice]) (⟨b1,0,none⟩) λ(x21:Sl×Sl×Unit)=>
   L.call Pr YA [.agg #[.slice x21.1.a x21.1.len x21.1.cap,.slice x21.2.1.a x21.2.1.len x21.2.1.cap]] (.one (.agg [.slice,.slice])) λ(x22:Sl×Sl×Unit)=>
   L.chk (((⟨b6,0,none⟩:Addr).add 4).add 0) [.slice x20.a x20.len x20.cap]<|
   L.store (⟨b6,0,none⟩) [.slice x20.a x20.len x20.cap,.slice x22.1.a x22.1.len x22.1.cap,.int .i64 now,.int .i64 whole,.slice none 0 0,.slice none 0 0]<|
   k7 (()))<|
  k7 (())) w:=by
 have rr:=r.there (s:=[Cl b1 zl [SlV p.1,SlV p.2.1]]);have rr:=rr.there (s:=[Cl b2 zl [SlV ⟨none,0,0⟩,SlV ⟨none,0,0⟩]])
 cases o with
 | none=>
  refine itT rfl ?_;have rr:=rr.there (s:=[Cl b6 Yh (wyC lP)]);have h:St w0 ([Cl b6 Yh (wyC lP)]::[Cl b2 zl [SlV ⟨none,0,0⟩,SlV ⟨none,0,0⟩]]::[Cl b1 zl [SlV p.1,SlV p.2.1]]::Pi b r0::sm::P.flatten::F) w:=h
  (refine dr h ?_;clear h;intro w h;refine laC h ?_;refine laC h ?_)
  refine Ko (p:=p) h rr λv1 v2 s1 s2 w r1 r2 h=>?_
  (refine ckC h ?_)
  refine Ko (p:=p) h rr.there.there λv3 v4 s3 s4 w r3 r4 h=>?_;have h:=zj h;have h:St w0 (s3::s2::s1::[Cl b6 Yh (wyC lP)]::[Cl b2 zl [SlV ⟨none,0,0⟩,SlV ⟨none,0,0⟩]]::[Cl b1 zl [SlV p.1,SlV p.2.1]]::Pi b r0::sm::P.flatten::F) w:=h
  (refine stC h ?_;clear h;intro w h;dsimp only[zE,zd]at h)
  refine hk [s3,s1] (v1,v3,now,whole,⟨none,0,0⟩,⟨none,0,0⟩,()) w ⟨⟨s1,by simp,r1⟩,⟨s3,by simp,r3⟩,rfl,rfl⟩ ?_;have h:=yw h;have h:=Zm (xY h);have h:=h.pool;have h:=yL h;have h:=h.pool;have h:=JR (JR (JR (JR (JR h))));exact h
 | some x=>
  refine itF rfl ?_;obtain⟨⟨sa,ha,ra⟩,⟨sb,hb,rb⟩,e1,e2,⟨sc,hc,rc⟩,⟨sd,hd,rd⟩⟩:=hx x rfl;have ho:=hok x rfl;dsimp only[Option.map,Option.getD]at h ⊢;dsimp only at hk;generalize x.t=t' at *
  generalize x.a=a at *
  have rr:=rr.there (s:=[Cl b6 Yh (wyC t')])
  have other:∀{w}{k7':Unit→PT},(∀N t' w',WyR (N++P) t' ⟨a.ns,t.sh,now,whole,[],[]⟩→
   St w0 ([Cl b6 Yh (wyC t')]::[Cl b2 zl [SlV ⟨none,0,0⟩,SlV ⟨none,0,0⟩]]::[Cl b1 zl [SlV p.1,SlV p.2.1]]::Pi b r0::sm::(N++P).flatten::F) w'→k7' () w')→
   St w0 ([Cl b6 Yh (wyC t')]::[Cl b2 zl [SlV ⟨none,0,0⟩,SlV ⟨none,0,0⟩]]::[Cl b1 zl [SlV p.1,SlV p.2.1]]::Pi b r0::sm::P.flatten::F) w→
   (L.draw<|
   L.load (.one (.slice)) (((⟨b6,0,none⟩:Addr).add 4).add 0) λ(x16:Sl)=>
   L.load (.agg [.slice,.slice]) (⟨b1,0,none⟩) λ(x17:Sl×Sl×Unit)=>
   L.call Pr YA [.agg #[.slice x17.1.a x17.1.len x17.1.cap,.slice x17.2.1.a x17.2.1.len x17.2.1.cap]] (.one (.agg [.slice,.slice])) λ(x18:Sl×Sl×Unit)=>
   L.chk (((⟨b6,0,none⟩:Addr).add 4).add 0) [.slice x16.a x16.len x16.cap]<|
   L.store (⟨b6,0,none⟩) [.slice x16.a x16.len x16.cap,.slice x18.1.a x18.1.len x18.1.cap,.int .i64 now,.int .i64 whole,.slice none 0 0,.slice none 0 0]<|
   k7' (())) w:=by
   intro w k7' hk h
   (refine dr h ?_;clear h;intro w h;refine ldC h ?_;refine laC h ?_;rw[Je])
   refine Ko (p:=p) h rr λv1 v2 s1 s2 w r1 r2 h=>?_
   (refine ckC h ?_;refine stC h ?_;clear h;intro w h;dsimp only[zE,zd]at h)
   refine hk [s1] (t'.2.2.2.2.1,v1,now,whole,⟨none,0,0⟩,⟨none,0,0⟩,()) w ⟨⟨sc,by simp[hc],rc⟩,⟨s1,by simp,r1⟩,rfl,rfl⟩ ?_;have h:=zj h;have h:=yL (jS h);have h:=h.pool;have h:=JR (JR (JR (JR (JR h))));exact h
  (refine ldC h ?_;refine ldC h ?_;rw[Je])
  refine Ar h (l1:=a.to) (l2:=t.sh) (Pl jE rb hb 5 rfl) rr.sh (by have:=ho.lt;omega) λw h=>?_;refine it (λh1=>?_) (λh1=>?_)
  ·have h1:¬a.to=t.sh:=by simpa using h1
   rw[if_neg (λe=>h1 e.1)]at hk;exact other hk h
  have h1:a.to=t.sh:=by simpa using h1
  (refine ldC h ?_)
  refine it (λh2=>?_) (λh2=>?_)
  ·have h2:¬t'.2.2.2.1=whole:=by simpa using h2
   rw[if_neg (λe=>h2 (e2.trans e.2))]at hk;exact other hk h
  have h2:t'.2.2.2.1=whole:=by simpa using h2
  rw[if_pos ⟨h1,e2.symm.trans h2⟩]at hk;exact hk [] t' w ⟨⟨sa,ha,ra⟩,⟨sb,hb,rb⟩,e1,e2⟩ h
def eY(h:St w0 E w)(i:Nat){b:Nat}{m:VT}{s:Seg}(hi:nth E i=some s)(hs:LW b m s){n:B0}{p:HT [.slice,.slice]}{t:vC}(r:Or w0 E p t)(hok:∀a,zA m n=some a→a.Ok)(ht:WBd t.sh){now whole:Int}
  (hnow:0≤now∧now<1000000000) (hsi:∀a,zA m n=some a→0≤a.since∧a.since<1000000000) (hw:whole≤1000000) (hl:(Ge m n t now whole).sh.length<100000) {k:HT [.slice,.slice]→PT}
  (hk:∀p' sx s' w',LW b (di m n t now whole) s'→(∀E',Or w0 (sx::E') p' (Ge m n t now whole))→St w0 (sx::zd E i s') w'→k p' w') :
  L.call Pr ug [pO b,.string n,BR p,I now,I whole] (.one (.agg [.slice,.slice])) k w:=by
 obtain⟨r0,sm,P,Q,hm,hQ,rfl,rfl⟩:=hs;refine za (pr _ _ p _ _) ?_;unfold Kz;have fsh:=r.fsh;have ftg:=r.ftg;have h:=(h.front i hi).split3;have r:Or w0 (Pi b r0::sm::P.flatten::Zi E i) p t:=⟨λw h=>r.sh w (St.again i hi h.glue3),λw h=>r.tg w (St.again i hi h.glue3),r.nsh,r.ntg,r.fsh,r.ftg⟩;have ewy:xu (Q.map WyE.ka) n t now whole=(match Ga Q n with | some x=>if x.a.to=t.sh∧x.a.whole=whole then x.a else⟨x.a.ns,t.sh,now,whole,[],[]⟩ | none=>⟨t.sh,t.sh,now,whole,[],[]⟩):=by
  unfold xu;rw[Cp]
  cases Ga Q n<;>rfl
 have hwb:WBd (xu (Q.map WyE.ka) n t now whole).fr∧WBd (xu (Q.map WyE.ka) n t now whole).to∧(xu (Q.map WyE.ka) n t now whole).fr.length<100000∧(xu (Q.map WyE.ka) n t now whole).to.length<100000∧
   (0≤(xu (Q.map WyE.ka) n t now whole).since∧(xu (Q.map WyE.ka) n t now whole).since<1000000000):=by
  unfold xu
  cases hg:zA (Q.map WyE.ka) n with
  | none=>exact⟨ht,ht,fsh,fsh,hnow⟩
  | some a=>
   have ho:=hok a hg;dsimp only;split
   ·exact⟨ho.fr,ho.to,ho.lf,ho.lt,hsi a hg⟩
   ·exact⟨ho.ns,ht,ho.ln,fsh,hnow⟩
 rw[Cp]at hok;unfold di Ge at hk;unfold Ge at hl;generalize hwy:xu (Q.map WyE.ka) n t now whole=wy at *
 refine nw h ?_;clear h;intro b1 w h;refine nw h ?_;clear h;intro b2 w h
 (refine nn ?_;refine ldC h ?_)
 refine Aw h 3 rfl hm ?_;refine nw h ?_;clear h;intro b6 w h
 (refine stC h ?_;clear h;intro w h;dsimp only[zE,zd]at h;rw[Je])
 have hx:∀x,Ga Q n=some x→WyE.ok P x:=λx hx=>hQ x (List.mem_of_find?_eq_some hx);have hok':∀x,Ga Q n=some x→x.a.Ok:=λx hx=>hok x.a (by rw[hx];rfl);refine ZC (λz w=>∃(N:List Seg)(t':Wy),WyR (N++P) t' wy∧St w0 ([Cl b6 Yh (wyC t')]::[Cl b2 zl [SlV ⟨none,0,0⟩,SlV ⟨none,0,0⟩]]::[Cl b1 zl [SlV p.1,SlV p.2.1]]::Pi b r0::sm::(N++P).flatten::Zi E i) w) (λk7 hk7=>?_) ?_
 ·refine z2o (o:=Ga Q n) hx hok' fsh r h λN t' w hr h=>hk7 () w ⟨N,t',?_,h⟩;rw[ewy];exact hr
 clear h;rintro z w ⟨N,t',hr,h⟩;obtain⟨⟨sa,ha,ra⟩,⟨sb,hb,rb⟩,e1,e2⟩:=hr;have hQ':∀x∈Q,x.ok (N++P):=λx hx=>(hQ x hx).more λs hs=>List.mem_append_right _ hs
 (refine dr h ?_;clear h;intro w h;refine ldC h ?_;refine ldC h ?_;refine ldC h ?_;refine laC h ?_)
 have e3:Wi (now-t'.2.2.1)=now-wy.since:=by
  rw[show t'.2.2.1=wy.since from e1];exact wr (by omega) (by omega)
 rw[e3];refine Wj h (Pl jE ra ha 5 rfl) (Pl jE rb hb 5 rfl) hwb.2.2.1 hwb.2.2.2.1 (Rw.nil0 jE ra) (Rw.nil0 jE rb) hwb.1 hwb.2.1 hw λv5 s5 w r5 h=>?_;generalize QH wy.fr wy.to (now-wy.since) whole=sh at *
 have less:∀{w},St w0 (Pi b r0::sm::(N++P).flatten::Zi E i) w→St w0 (Pi b r0::sm::P.flatten::Zi E i) w:=by
  intro w h;have h:=Zm h;have h:St w0 (N.flatten::P.flatten::Pi b r0::sm::Zi E i) w:=h.eq (by simp);have h:=zj h;have h:=Zm (Zm h);exact h
 have r':Or w0 (Pi b r0::sm::(N++P).flatten::Zi E i) p t:=⟨λw h=>r.sh w (less h),λw h=>r.tg w (less h),r.nsh,r.ntg,r.fsh,r.ftg⟩
 (refine ckC h ?_)
 refine Ko (p:=p) h r'.there.there.there.there λv1 v2 s1 s2 w r1 r2 h=>?_
 (refine stC h ?_;clear h;intro w h;dsimp only[zE,zd]at h;refine dr h ?_;clear h;intro w h;refine nn ?_;refine ldC h ?_;refine laC h ?_)
 have h:St w0 (s2::s1::s5::[Cl b6 Yh (wyC (t'.1,t'.2.1,t'.2.2.1,t'.2.2.2.1,v5,v2,()))]::[Cl b2 zl [SlV ⟨none,0,0⟩,SlV ⟨none,0,0⟩]]::[Cl b1 zl [SlV p.1,SlV p.2.1]]::Pi b r0::sm::(N++P).flatten::Zi E i) w:=h;refine MpS.set uH wq h 7 rfl hm (t'.1,t'.2.1,t'.2.2.1,t'.2.2.2.1,v5,v2,()) rfl λsm' w hm' h=>?_;dsimp only[zd]at h
 (refine laC h ?_)
 refine Ko (p:=(v5,v2,())) (t:=⟨sh,t.tg⟩) h (Or.of (i:=2) (j:=0) rfl r5 rfl r2 hl ftg) λv3 v4 s3 s4 w r3 r4 h=>?_
 (refine stC h ?_;clear h;intro w h;dsimp only[zE,zd]at h;refine laC h ?_)
 refine⟨(v3,v4,()),rfl,?_⟩;have h:=PL (PL h);have h:=Qj h;have h:=uU h;have h:=yM (jS h);have h:=h.pool;have h:=Ys h;have h:=h.pool;have h:=yM (yM (Zm (Zm (Zm h))));have h:=h.glue3;have h:=St.back (E:=s4::s3::E) (i+2) hi h;have e5:=Kb (key:=WyE.k) WyE.t ⟨n,(t'.1,t'.2.1,t'.2.2.1,t'.2.2.2.1,v5,v2,()),⟨wy.fr,wy.to,wy.since,wy.whole,sh,t.tg⟩⟩ Q;have e6:=Kb (key:=WyE.k) WyE.a ⟨n,(t'.1,t'.2.1,t'.2.2.1,t'.2.2.2.1,v5,v2,()),⟨wy.fr,wy.to,wy.since,wy.whole,sh,t.tg⟩⟩ Q
 refine hk (v3,v4,()) (s4++s3) _ w ⟨r0,sm',s2::s5::(N++P),lput WyE.k Q ⟨n,(t'.1,t'.2.1,t'.2.2.1,t'.2.2.2.1,v5,v2,()),⟨wy.fr,wy.to,wy.since,wy.whole,sh,t.tg⟩⟩,by rw[e5];exact hm',λx hx=>?_,e6.symm,rfl⟩
  (λ_=>⟨λw h=>Rw.rd jE h.split 1 rfl r3,λw h=>Rw.rd qe h.split 0 rfl r4,Rw.nil0 jE r3,Rw.nil0 qe r4,hl,ftg⟩) h.glue
 rcases Pt hx with rfl | hx
 ·exact⟨⟨sa,by simp only[List.mem_cons];exact .inr (.inr ha),ra⟩,⟨sb,by simp only[List.mem_cons];exact .inr (.inr hb),rb⟩,e1,e2,⟨s5,by simp,r5⟩,⟨s2,by simp,r2⟩⟩
 ·exact(hQ' x hx).more λs hs=>by simp only[List.mem_cons];exact .inr (.inr hs)
def z0J(w:World):(zeroValue zp).run Pr w = .ok ((E1.one (.int .i64)).val (0:Int)) w:=by
 have h:(Pr.info? zp).map (·.zero)=some (some (I 0)):=by kernel_rfl
 cases hi:Pr.info? zp with
 | none=>rw[hi]at h;cases h
 | some i=>rw[hi]at h;simp only[Option.map_some,Option.some.injEq]at h;exact zv hi h w
def z0H(w:World):(zeroValue zc).run Pr w = .ok ((E1.one .str).val s_) w:=by
 have h:(Pr.info? zc).map (·.zero)=some (some (.string s_)):=by kernel_rfl
 cases hi:Pr.info? zc with
 | none=>rw[hi]at h;cases h
 | some i=>rw[hi]at h;simp only[Option.map_some,Option.some.injEq]at h;exact zv hi h w
def Ct:Pr.underlying Zv=some (.map zc zp):=by kernel_rfl
def wu:Pr.underlying Ze=some (.map zc zc):=by kernel_rfl
def Vk(m:List (B0×Int)):List (HT [.str,(.int .i64)]):=(yR (m.map (·.1))).map λk=>(k,(zA m k).getD (0:Int),())
def LJ(l:List (HT [.str,(.int .i64)]))(m:Nat):TT [.one .str,.one (.int .i64)]:=(((l[m]?).getD (s_,(0:Int),())).1,((l[m]?).getD (s_,(0:Int),())).2.1,())
def ik(h:St w0 E w)(i:Nat){s:Seg}(hi:nth E i=some s){r:Nat}{m:List (B0×Int)}(hm:MpS Value.string (Value.int .i64) r m s)(hn:m.length<1000000000){k:Sl→PT}
  (hk:∀v s' w',Rw eS zc 1 v (yR (m.map (·.1))) s'→St w0 (s'::E) w'→k v w') :
  L.call Pr Ya [.map (some r)] (.one (.one .func)) (λx5=>L.call Pr ZM [.func x5.fn x5.fs x5.cs] (.one (.one .slice)) k) w:=by
 refine za (Ql _) ?_;unfold jM;have h:=h.front i hi;refine nw h ?_;clear h;intro c w h;refine⟨⟨.func Zk,#[],#[.pointer (some ⟨c,0,none⟩)]⟩,rfl,?_⟩;have hY:Ds Pr w0 [[Cl c Zv [.map (some r)]],s] (.func (.func Zk) #[] #[.pointer (some ⟨c,0,none⟩)]) (m.map (·.1)) Value.string:=by
  intro yv R J Jd F w h hJ step fin fin2;refine⟨qo,qp yv ⟨c,0,none⟩ ?_⟩;unfold ju;exact FU (kv:=Value.string) (vv:=(Value.int .i64)) unS (λ_=>rfl) Ct (lk:=.str) (ev:=.one (.int .i64)) (λx=>x) (λ_=>rfl) (λx:Int=>x) (λ_=>rfl) J Jd hm h hJ (λseen k F X w hl hJ h=>step seen k F X w (by simpa using hl) hJ h) fin fin2
 refine vL (fv:=⟨.func Zk,#[],#[.pointer (some ⟨c,0,none⟩)]⟩) hY h (by simpa using hn) λv s' w hr h=>hk v s' w hr ?_;have h:=yL h;exact St.again (i+1) (E:=s'::E) hi h
def z09{c r:Nat}{m:List (B0×Int)}{sm:Seg}(hm:MpS Value.string (Value.int .i64) r m sm)(hn:m.length<1000000000) :
  LL Pr w0 [[Cl c Zv [.map (some r)]],sm] (.func (.func yK) #[] #[.pointer (some ⟨c,0,none⟩)]) (Vk m).length λi=>TV _ (LJ (Vk m) i):=by
 intro yv R J Jd G w h hJ step fin fin2;refine⟨kq,kA yv ⟨c,0,none⟩ ?_⟩;unfold ql;have h:St w0 ([Cl c Zv [.map (some r)]]::sm::G) w:=h
 (refine ldC h ?_)
 refine ik h 1 rfl hm hn λv s w hrow h=>?_;have hlen:=Rw.len yu hrow;unfold Vk at *
 have hl:(yR (m.map (·.1))).length<1000000000:=by rw[jk,List.length_map];exact hn
 generalize yR (m.map (·.1))=l at *
 refine zX (λq y w=>∃(j:Nat)(G:List Seg),@Eq Int y.1 j∧q+j=l.length∧J j G∧St w0 (s::[Cl c Zv [.map (some r)]]::sm::G) w) l.length ⟨0,G,rfl,rfl,hJ,h⟩ ?_;clear hJ;clear h;rintro q ⟨y,⟨⟩⟩ w ⟨j,G,hy,hq,hJ,h⟩ again hag;simp only at hy;subst hy;refine it (λhb=>?_) (λhb=>?_)<;>(try simp only[zB]at hb)
 ·have hj:j<l.length:=by omega
  have hx:l[j]? = some l[j]:=List.getElem?_eq_getElem hj;have next:∀{G w},J (j+1) G→St w0 (s::[Cl c Zv [.map (some r)]]::sm::G) w→again (Wi ((j:Int)+1),()) w:=by
   intro G w hJ h;refine hag (q-1) _ w (by omega) ⟨j+1,G,?_,by omega,hJ,h⟩;show Wi _=_;rw[wr (by omega) (by omega)];omega
  refine Rw.ix yu hrow (by omega) (by simpa using hj) λa ha=>?_;refine Rw.ld0 yu h 0 rfl hrow ha (x:=l[j]) (by simp[hj]) rfl rfl ?_
  (refine ldC h ?_)
  refine MpS.get uH Ct z0J (λt:Int=>t) (λ_=>rfl) h 2 rfl hm ?_;have e1:((zA m l[j]).map λt:Int=>t).getD (0:Int)=(zA m l[j]).getD (0:Int):=by cases zA m l[j]<;>rfl
  have step:=step j G [s] w (by simpa using hj) hJ (St.toEnd (X:=[s]) (A:=[_,_]) h);have e2:LJ (l.map λk=>(k,(zA m k).getD (0:Int),())) j=(l[j],(zA m l[j]).getD (0:Int),()):=by
   simp[LJ,hx]
  dsimp only at step;rw[e2]at step;refine cv (xw.mono (by first | (rw[e1];exact step) | exact step) λu w' hu=>?_);rcases hu with ⟨rfl,G',h,hJ⟩ | ⟨rfl,hd⟩
  ·exact⟨true,rfl,itF rfl (next hJ (St.ofEnd (X:=[s]) (A:=[_,_]) h))⟩
  ·exact⟨false,rfl,itT rfl (fin2 w' hd)⟩
 ·have e:j=l.length:=by omega
  subst e;exact fin G w (by simpa using hJ) (zj h)
def kd(m:List (B0×B0)):List (HT [.str,.str]):=(yR (m.map (·.1))).map λk=>(k,(zA m k).getD s_,())
def LI(l:List (HT [.str,.str]))(m:Nat):TT [.one .str,.one .str]:=(((l[m]?).getD (s_,s_,())).1,((l[m]?).getD (s_,s_,())).2.1,())
def ij(h:St w0 E w)(i:Nat){s:Seg}(hi:nth E i=some s){r:Nat}{m:List (B0×B0)}(hm:MpS Value.string Value.string r m s)(hn:m.length<1000000000){k:Sl→PT}
  (hk:∀v s' w',Rw eS zc 1 v (yR (m.map (·.1))) s'→St w0 (s'::E) w'→k v w') :
  L.call Pr yn [.map (some r)] (.one (.one .func)) (λx5=>L.call Pr ZM [.func x5.fn x5.fs x5.cs] (.one (.one .slice)) k) w:=by
 refine za (Xa _) ?_;unfold YN;have h:=h.front i hi;refine nw h ?_;clear h;intro c w h;refine⟨⟨.func zY,#[],#[.pointer (some ⟨c,0,none⟩)]⟩,rfl,?_⟩;have hY:Ds Pr w0 [[Cl c Ze [.map (some r)]],s] (.func (.func zY) #[] #[.pointer (some ⟨c,0,none⟩)]) (m.map (·.1)) Value.string:=by
  intro yv R J Jd F w h hJ step fin fin2;refine⟨xy,xA yv ⟨c,0,none⟩ ?_⟩;unfold Yx;exact FU (kv:=Value.string) (vv:=Value.string) unS (λ_=>rfl) wu (lk:=.str) (ev:=.one .str) (λx=>x) (λ_=>rfl) (λx:B0=>x) (λ_=>rfl) J Jd hm h hJ (λseen k F X w hl hJ h=>step seen k F X w (by simpa using hl) hJ h) fin fin2
 refine vL (fv:=⟨.func zY,#[],#[.pointer (some ⟨c,0,none⟩)]⟩) hY h (by simpa using hn) λv s' w hr h=>hk v s' w hr ?_;have h:=yL h;exact St.again (i+1) (E:=s'::E) hi h
def z08{c r:Nat}{m:List (B0×B0)}{sm:Seg}(hm:MpS Value.string Value.string r m sm)(hn:m.length<1000000000) :
  LL Pr w0 [[Cl c Ze [.map (some r)]],sm] (.func (.func yg) #[] #[.pointer (some ⟨c,0,none⟩)]) (kd m).length λi=>TV _ (LI (kd m) i):=by
 intro yv R J Jd G w h hJ step fin fin2;refine⟨vx,vz yv ⟨c,0,none⟩ ?_⟩;unfold xX;have h:St w0 ([Cl c Ze [.map (some r)]]::sm::G) w:=h
 (refine ldC h ?_)
 refine ij h 1 rfl hm hn λv s w hrow h=>?_;have hlen:=Rw.len yu hrow;unfold kd at *
 have hl:(yR (m.map (·.1))).length<1000000000:=by rw[jk,List.length_map];exact hn
 generalize yR (m.map (·.1))=l at *
 refine zX (λq y w=>∃(j:Nat)(G:List Seg),@Eq Int y.1 j∧q+j=l.length∧J j G∧St w0 (s::[Cl c Ze [.map (some r)]]::sm::G) w) l.length ⟨0,G,rfl,rfl,hJ,h⟩ ?_;clear hJ;clear h;rintro q ⟨y,⟨⟩⟩ w ⟨j,G,hy,hq,hJ,h⟩ again hag;simp only at hy;subst hy;refine it (λhb=>?_) (λhb=>?_)<;>(try simp only[zB]at hb)
 ·have hj:j<l.length:=by omega
  have hx:l[j]? = some l[j]:=List.getElem?_eq_getElem hj;have next:∀{G w},J (j+1) G→St w0 (s::[Cl c Ze [.map (some r)]]::sm::G) w→again (Wi ((j:Int)+1),()) w:=by
   intro G w hJ h;refine hag (q-1) _ w (by omega) ⟨j+1,G,?_,by omega,hJ,h⟩;show Wi _=_;rw[wr (by omega) (by omega)];omega
  refine Rw.ix yu hrow (by omega) (by simpa using hj) λa ha=>?_;refine Rw.ld0 yu h 0 rfl hrow ha (x:=l[j]) (by simp[hj]) rfl rfl ?_
  (refine ldC h ?_)
  refine MpS.get uH wu z0H (λt:B0=>t) (λ_=>rfl) h 2 rfl hm ?_;have e1:((zA m l[j]).map λt:B0=>t).getD s_=(zA m l[j]).getD s_:=by cases zA m l[j]<;>rfl
  have step:=step j G [s] w (by simpa using hj) hJ (St.toEnd (X:=[s]) (A:=[_,_]) h);have e2:LI (l.map λk=>(k,(zA m k).getD s_,())) j=(l[j],(zA m l[j]).getD s_,()):=by
   simp[LI,hx]
  dsimp only at step;rw[e2]at step;refine cv (xw.mono (by first | (rw[e1];exact step) | exact step) λu w' hu=>?_);rcases hu with ⟨rfl,G',h,hJ⟩ | ⟨rfl,hd⟩
  ·exact⟨true,rfl,itF rfl (next hJ (St.ofEnd (X:=[s]) (A:=[_,_]) h))⟩
  ·exact⟨false,rfl,itT rfl (fin2 w' hd)⟩
 ·have e:j=l.length:=by omega
  subst e;exact fin G w (by simpa using hJ) (zj h)
def qr(a:yH)(cfg:B0)(t:Tgt):B0×Int:=
 if t.1=s_ then(if CL a cfg=s_ then(s_,9)else(CL a cfg,0))else if jt a t.1=true then(if xe a t.1=true then(t.1,0)else(s_,9))else(s_,6)
abbrev rtV(r:ARt)(v:Sl):Value:=.agg #[.string r.name,.string r.cfg,.slice v.a v.len v.cap,I r.roll]
def Wk(h:St w0 E w)(i:Nat){b:Nat}{a:yH}{s:Seg}(hi:nth E i=some s)(hs:BkS b a s){t:Tgt}{r:ARt}{v:Sl}{k:B0×Int×Unit→PT}(hk:∀w',St w0 E w'→k ((qr a r.cfg t).1,(qr a r.cfg t).2,()) w') :
  L.call Pr oR [.agg #[.string t.1,.string t.2.1,I t.2.2.1],rtV r v,.pointer (some ⟨b,0,none⟩)] (.tup [.one .str,.one (.int .i64)]) k w:=by
 refine za (nJ t (r.name,r.cfg,v,r.roll,()) _) ?_;unfold Mq;unfold qr at hk;refine nw h ?_;clear h;intro b1 w h;refine nw h ?_;clear h;intro b2 w h
 (dsimp only[zd,List.cons_append,List.nil_append]at h;refine ldC h ?_)
 rw[jN];refine it (λh1=>?_) (λh1=>?_)<;>(try simp only[zB]at h1)
 ·rw[if_pos h1]at hk
  (refine ldC h ?_)
  refine bp h (i+2) hi hs λw h=>?_;rw[jN];refine it (λh2=>?_) (λh2=>?_)<;>(try simp only[zB]at h2)
  ·rw[if_pos h2]at hk;exact⟨(s_,9,()),rfl,hk w (zj (zj h))⟩
  ·rw[if_neg h2]at hk;exact⟨(CL a r.cfg,0,()),rfl,hk w (zj (zj h))⟩
 ·rw[if_neg h1]at hk
  (refine ldC h ?_)
  refine gO h (i+2) hi hs λw h=>?_;generalize qF a t.1=rv;refine nw h ?_;clear h;intro b8 w h
  (refine stC h ?_;clear h;intro w h;dsimp only[zE,zd]at h)
  refine it (λh2=>?_) (λh2=>?_)<;>(try simp only[zB]at h2)
  ·rw[if_neg (by simp[h2])]at hk;exact⟨(s_,6,()),rfl,hk w (zj (zj (zj h)))⟩
  ·rw[if_pos (by simpa using h2)]at hk
   (refine ldC h ?_)
   refine Dz h (i+3) hi hs λw h=>?_;refine it (λh3=>?_) (λh3=>?_)<;>(try simp only[zB]at h3)
   ·rw[if_neg (by simp[h3])]at hk;exact⟨(s_,9,()),rfl,hk w (zj (zj (zj h)))⟩
   ·rw[if_pos (by simpa using h3)]at hk
    (refine ldC h ?_)
    exact⟨(t.1,0,()),rfl,hk w (zj (zj (zj h)))⟩
abbrev MSI:=List (B0×Int)
abbrev MSS:=List (B0×B0)
def vO(a:yH)(cfg:B0):List Tgt→MSI→MSS→Int×MSI×MSS
 | [],ws,ts=>(0,ws,ts)
 | t::l,ws,ts=>if(qr a cfg t).2=0 then vO a cfg l (Zp ws (qr a cfg t).1 ((zA ws (qr a cfg t).1).getD 0+pct t)) (if t.2.1=s_ then ts else Zp ts t.2.1 (qr a cfg t).1)else((qr a cfg t).2,ws,ts)
def dk(a:yH)(cfg:B0)(t:Tgt)(l:List Tgt)(ws:MSI)(ts:MSS):vO a cfg (t::l) ws ts=if(qr a cfg t).2=0 then vO a cfg l (Zp ws (qr a cfg t).1 ((zA ws (qr a cfg t).1).getD 0+pct t)) (if t.2.1=s_ then ts else Zp ts t.2.1 (qr a cfg t).1)else((qr a cfg t).2,ws,ts):=rfl
abbrev dm(x:Shr):Bool:=decide (@id Int x.2.1>0)
def resolve(a:yH)(r:ARt):vC×Int:=
 if(vO a r.cfg r.ts [] []).1=0 then(⟨(Vk (vO a r.cfg r.ts [] []).2.1).filter dm,kd (vO a r.cfg r.ts [] []).2.2⟩,0)else(⟨[],[]⟩,(vO a r.cfg r.ts [] []).1)
def wn(h:St w0 E w)(i:Nat){b:Nat}{a:yH}{s:Seg}(hi:nth E i=some s)(hs:BkS b a s){r:ARt}{v:Sl}(rd:RdE w0 E eT v r.ts)(hn:r.ts.length≤1000)(hp:∀t∈r.ts,0≤pct t∧pct t≤1000){k:HT [.slice,.slice]×Int×Unit→PT}
  (hk:∀p sx w',(∀E',Or w0 (sx::E') p (resolve a r).1)→St w0 (sx::E) w'→k (p,(resolve a r).2,()) w') :
  L.call Pr Uq [rtV r v,.pointer (some ⟨b,0,none⟩)] (.tup [.agg [.slice,.slice],.one (.int .i64)]) k w:=by
 refine za (DR (r.name,r.cfg,v,r.roll,()) _) ?_;unfold Fe;have hlen:=Rd.len (rd w h);refine nw h ?_;clear h;intro b1 w h;refine nw h ?_;clear h;intro b2 w h;refine MpS.new h Value.string (Value.int .i64) λr3 s3 w hm3 h=>?_;refine MpS.new h Value.string Value.string λr4 s4 w hm4 h=>?_
 (dsimp only[zd,List.cons_append,List.nil_append]at h;refine ldC h ?_)
 unfold resolve at hk
 refine zX (λq y w=>∃(j:Nat)(ws:MSI)(ts:MSS)(s3 s4:Seg),@Eq Int y.2.1 j∧q+j=r.ts.length∧@Eq Int y.1 0∧vO a r.cfg r.ts [] []=vO a r.cfg (r.ts.drop j) ws ts∧ws.length≤j∧ts.length≤j∧(∀p∈ws,0≤p.2∧p.2≤1000*(j:Int))∧
  MpS Value.string (Value.int .i64) r3 ws s3∧MpS Value.string Value.string r4 ts s4∧St w0 (s4::s3::[Cl b2 zl [SlV ⟨none,0,0⟩,SlV ⟨none,0,0⟩]]::[Cl b1 zG [.string r.name,.string r.cfg,SlV v,I r.roll]]::E) w) r.ts.length
  ⟨0,[],[],s3,s4,rfl,by simp,rfl,rfl,by simp,by simp,by simp,hm3,hm4,h⟩ ?_
 clear hm3 hm4;clear h;rintro q ⟨y1,y,⟨⟩⟩ w ⟨j,ws,ts,s3,s4,hy,hq,hy1,hg,lw,lt,hws,hm3,hm4,h⟩ again hag
 (try dsimp only)
 simp only at hy hy1;subst hy hy1;refine it (λhb=>?_) (λhb=>?_)<;>(try simp only[zB]at hb)
 ·have hj:j<r.ts.length:=by omega
  have hx:r.ts[j]? = some r.ts[j]:=List.getElem?_eq_getElem hj;have hpx:=hp r.ts[j] (List.getElem_mem hj);have ed:r.ts.drop j=r.ts[j]::r.ts.drop (j+1):=by rw[←List.getElem_cons_drop hj]
  rw[ed,dk]at hg;generalize r.ts[j]=t at hx hpx hg;have rr:=rd w (zj (zj (zj (zj h))));refine jd ?_;refine rr.ix Vn (by omega) (by simpa using hj) λea ha=>?_;refine rr.lda Vn ha (by simpa using hx) rfl ?_;refine nw h ?_;clear h;intro b12 w h
  (refine stC h ?_;clear h;intro w h;dsimp only[zE,zd]at h;refine laC h ?_;refine laC h ?_)
  refine Wk (t:=t) (r:=r) (v:=v) h (i+5) hi hs λw h=>?_;refine it (λh1=>?_) (λh1=>?_)
  ·have h1:(qr a r.cfg t).2≠0:=by simpa using h1
   rw[if_neg h1]at hg;rw[hg,if_neg h1]at hk
   (refine stC h ?_;clear h;intro w h;dsimp only[zE,zd]at h;refine laC h ?_)
   refine⟨((⟨none,0,0⟩,⟨none,0,0⟩,()),(qr a r.cfg t).2,()),rfl,hk _ [] w (λ_=>⟨λ_ _=>Rd.nil,λ_ _=>Rd.nil,λ_=>rfl,λ_=>rfl,by show 0<100000;decide,by show 0<100000;decide⟩) ?_⟩;exact St.nil (zj (zj (zj (zj (zj h)))))
  ·have h1:(qr a r.cfg t).2=0:=by simpa using h1
   rw[if_pos h1]at hg;generalize qr a r.cfg t=x at h1 hg ⊢;obtain⟨x1,x2⟩:=x;dsimp only at h1 hg ⊢;have hz:0≤(zA ws x1).getD 0∧(zA ws x1).getD 0≤1000*(j:Int):=by
    cases hm:zA ws x1 with
    | none=>exact⟨Int.le_refl 0,by show(0:Int)≤_;omega⟩
    | some u=>exact hws _ (jB hm)
   have hz2:((zA ws x1).map λt:Int=>t).getD 0=(zA ws x1).getD 0:=by cases zA ws x1<;>rfl
   refine MpS.get uH Ct z0J (λt:Int=>t) (λ_=>rfl) h 2 rfl hm3 ?_;rw[hz2];generalize hzz:(zA ws x1).getD 0=z at hg hz ⊢
   (refine ldC h ?_)
   have ew:Wi (z+t.2.2.1)=z+pct t:=wr (by have:=hpx.1;unfold pct at this;omega) (by have:=hpx.2;unfold pct at this;omega);rw[ew];have lw2:=Ps ws x1 (z+pct t);have hws2:∀p∈Zp ws x1 (z+pct t),0≤p.2∧p.2≤1000*((j+1:Nat):Int):=by
    intro p hp;rcases yr hp with rfl | hp
    ·dsimp only;omega
    ·have:=hws p hp;omega
   refine MpS.set uH Ct h 2 rfl hm3 (z+pct t) rfl λs3 w hm3 h=>?_;dsimp only[zd]at h
   (refine ldC h ?_)
   rw[jN]
   have next:∀{w}{ts':MSS}{s4:Seg},(if t.2.1=s_ then ts else Zp ts t.2.1 x1)=ts'→ts'.length≤j+1→MpS Value.string Value.string r4 ts' s4→
     St w0 (s4::s3::[Cl b2 zl [SlV ⟨none,0,0⟩,SlV ⟨none,0,0⟩]]::[Cl b1 zG [.string r.name,.string r.cfg,SlV v,I r.roll]]::E) w→again (0,Wi ((j:Int)+1),()) w:=by
    intro w ts' s4 e1 l2 hm4 h;refine hag (q-1) _ w (by omega) ⟨j+1,Zp ws x1 (z+pct t),ts',s3,s4,?_,by omega,rfl,by rw[hg,e1],by omega,l2,hws2,hm3,hm4,h⟩;show Wi _=_;rw[wr (by omega) (by omega)];omega
   refine it (λh2=>?_) (λh2=>?_)<;>(try simp only[zB]at h2)
   ·(refine ldC h ?_)
    refine MpS.set uH wu h 1 rfl hm4 x1 rfl λs4 w hm4 h=>?_;dsimp only[zd]at h;exact next (if_neg h2) (by have:=Ps ts t.2.1 x1;omega) hm4 (zj h)
   ·exact next (if_pos h2) (by omega) hm4 (zj h)
 ·have e:r.ts.drop j = []:=List.drop_of_length_le (by omega);rw[e]at hg;have hg:vO a r.cfg r.ts [] []=(0,ws,ts):=hg;rw[hg,if_pos rfl]at hk;dsimp only at hk;have lo1:(Vk ws).length=ws.length:=by unfold Vk;rw[List.length_map,jk,List.length_map]
  have lo2:(kd ts).length=ts.length:=by unfold kd;rw[List.length_map,jk,List.length_map]
  clear hag;refine nw h ?_;clear h;intro b21 w h;refine za (KX _) ?_;unfold Qw;refine nw h ?_;clear h;intro c w h;refine⟨⟨.func yK,#[],#[.pointer (some ⟨c,0,none⟩)]⟩,rfl,?_⟩;have h:St w0 ([[Cl c Zv [.map (some r3)]],s3]++([Cl b21 zl [SlV ⟨none,0,0⟩,SlV ⟨none,0,0⟩]]::[]::s4::[Cl b2 zl [SlV ⟨none,0,0⟩,SlV ⟨none,0,0⟩]]::[Cl b1 zG [.string r.name,.string r.cfg,SlV v,I r.roll]]::E)) w:=by
   have h:=Zm (Ys (yL h));exact h.eq (by simp)
  refine qZ (z09 hm3 (by omega)) h (λm G=>∃vv s,G = [Cl b21 zl [SlV vv,SlV ⟨none,0,0⟩]]::s::s4::[Cl b2 zl [SlV ⟨none,0,0⟩,SlV ⟨none,0,0⟩]]::[Cl b1 zG [.string r.name,.string r.cfg,SlV v,I r.roll]]::E∧Rw eSh Zb 2 vv (((Vk ws).take m).filter dm) s) (λj G=>False) ⟨_,_,rfl,Rw.nil⟩ ?_ ?_ ?_
  ·rintro m G X w lv lp d R hm ⟨vv,so,rfl,hr⟩ h hN hE;have hx:(Vk ws)[m]? = some (Vk ws)[m]:=List.getElem?_eq_getElem hm;have h:St w0 ([Rec lv lp .busy none]::[DfM d]::[Cl c Zv [.map (some r3)]]::s3::[Cl b21 zl [SlV vv,SlV ⟨none,0,0⟩]]::so::s4::[Cl b2 zl [SlV ⟨none,0,0⟩,SlV ⟨none,0,0⟩]]::[Cl b1 zG [.string r.name,.string r.cfg,SlV v,I r.roll]]::(E++X)) w:=h;have ea:LJ (Vk ws) m=((Vk ws)[m].1,(Vk ws)[m].2.1,()):=by simp[LJ,hx]
   rw[ea];have et:((Vk ws).take (m+1)).filter dm=((Vk ws).take m).filter dm++(if dm (Vk ws)[m]=true then [(Vk ws)[m]]else []):=by
    rw[List.take_add_one,hx,List.filter_append,Option.toList_some,List.filter_cons,List.filter_nil]
   have hlf:(((Vk ws).take m).filter dm).length≤m:=Nat.le_trans (List.length_filter_le ..) (by rw[List.length_take];omega);generalize (Vk ws)[m]=x at et hx;obtain⟨x1,x2,⟨⟩⟩:=x;dsimp only;refine it (λhc=>?_) (λhc=>?_)
   ·have hc2:dm ((x1,x2,()):Shr)=true:=hc;rw[if_pos hc2]at et
    (refine ldC h ?_)
    refine nw h ?_;clear h;intro b29 w h;refine Rw.app jE Hr h 5 rfl hr ((x1,x2,()):Shr) rfl (by omega) (by omega) λv' s' w hr' h=>?_
    (dsimp only[zd,List.cons_append,List.nil_append]at h;refine stC h ?_;clear h;intro w h;dsimp only[zE,zd]at h)
    exact hN _ w ⟨v',s',rfl,by rw[et];exact hr'⟩ h
   ·rw[if_neg (by rw[show dm ((x1,x2,()):Shr)=false from hc];simp),List.append_nil]at et;exact hN _ w ⟨vv,so,rfl,by rw[et];exact hr⟩ h
  ·rintro d G w ⟨vv,so,rfl,hr⟩ h;rw[List.take_length]at hr;have h:St w0 ([DfM d]::[Cl c Zv [.map (some r3)]]::s3::[Cl b21 zl [SlV vv,SlV ⟨none,0,0⟩]]::so::s4::[Cl b2 zl [SlV ⟨none,0,0⟩,SlV ⟨none,0,0⟩]]::[Cl b1 zG [.string r.name,.string r.cfg,SlV v,I r.roll]]::E) w:=h;refine VA ?_;refine za (Vt _) ?_;unfold XG;refine nw h ?_;clear h;intro c2 w h;refine⟨⟨.func yg,#[],#[.pointer (some ⟨c2,0,none⟩)]⟩,rfl,?_⟩;have h:St w0 ([[Cl c2 Ze [.map (some r4)]],s4]++([Cl b21 zl [SlV vv,SlV ⟨none,0,0⟩]]::[]::so::[Cl b2 zl [SlV ⟨none,0,0⟩,SlV ⟨none,0,0⟩]]::[DfM d]::E)) w:=by
    have h:=uV (Qj (z2h h));have h:=JR (JR (yM (yM (JR (yL h)))));exact h.eq (by simp)
   refine qZ (z08 hm4 (by omega)) h (λm G=>∃v2 s2,G = [Cl b21 zl [SlV vv,SlV v2]]::s2::so::[Cl b2 zl [SlV ⟨none,0,0⟩,SlV ⟨none,0,0⟩]]::[DfM d]::E∧Rw eTo Jl 2 v2 ((kd ts).take m) s2) (λj G=>False) ⟨_,_,rfl,Rw.nil⟩ ?_ ?_ ?_
   ·rintro m G X w lv lp d2 R hm ⟨v2,s2,rfl,hr2⟩ h hN hE;have hx:(kd ts)[m]? = some (kd ts)[m]:=List.getElem?_eq_getElem hm;have h:St w0 ([Rec lv lp .busy none]::[DfM d2]::[Cl c2 Ze [.map (some r4)]]::s4::[Cl b21 zl [SlV vv,SlV v2]]::s2::so::[Cl b2 zl [SlV ⟨none,0,0⟩,SlV ⟨none,0,0⟩]]::[DfM d]::(E++X)) w:=h;have ea:LI (kd ts) m=((kd ts)[m].1,(kd ts)[m].2.1,()):=by simp[LI,hx]
    rw[ea];have et:(kd ts).take (m+1)=(kd ts).take m++[(kd ts)[m]]:=by rw[List.take_add_one,hx,Option.toList_some]
    have hlf:((kd ts).take m).length≤m:=by rw[List.length_take];omega
    generalize (kd ts)[m]=x at et hx;obtain⟨x1,x2,⟨⟩⟩:=x;dsimp only
    (refine ldC h ?_)
    refine nw h ?_;clear h;intro b38 w h;refine Rw.app qe z2f h 5 rfl hr2 ((x1,x2,()):Tgo) rfl (by omega) (by omega) λv' s' w hr' h=>?_
    (dsimp only[zd,List.cons_append,List.nil_append]at h;refine stC h ?_;clear h;intro w h;dsimp only[zE,zd]at h)
    exact hN _ w ⟨v',s',rfl,by rw[et];exact hr'⟩ h
   ·rintro d2 G w ⟨v2,s2,rfl,hr2⟩ h;rw[List.take_length]at hr2;have h:St w0 ([DfM d2]::[Cl c2 Ze [.map (some r4)]]::s4::[Cl b21 zl [SlV vv,SlV v2]]::s2::so::[Cl b2 zl [SlV ⟨none,0,0⟩,SlV ⟨none,0,0⟩]]::[DfM d]::E) w:=h;refine VA ?_;have hlf:((Vk ws).filter dm).length<100000:=Nat.lt_of_le_of_lt (List.length_filter_le ..) (by omega)
    (refine laC h ?_)
    refine Ko (p:=(vv,v2,())) (t:=⟨(Vk ws).filter dm,kd ts⟩) h (Or.of (i:=5) (j:=4) rfl hr rfl hr2 hlf (by show(kd ts).length<100000;omega)) λv3 v4 s5 s6 w r5 r6 h=>?_
    (refine stC h ?_;clear h;intro w h;dsimp only[zE,zd]at h)
    (first | refine gu h ?_ | refine gq h ?_ | refine gp h ?_ | refine gm h ?_ | refine gk h ?_ | refine gj h ?_ | refine gi h ?_ | refine gh h ?_ | refine gg h ?_ | refine gf h ?_ | refine Ua h ?_ | refine uZ h ?_);clear h;intro w h
    (try (first | refine gu h ?_ | refine gq h ?_ | refine gp h ?_ | refine gm h ?_ | refine gk h ?_ | refine gj h ?_ | refine gi h ?_ | refine gh h ?_ | refine gg h ?_ | refine gf h ?_ | refine Ua h ?_ | refine uZ h ?_);clear h;intro w h)
    (refine laC h ?_)
    refine⟨((v3,v4,()),0,()),rfl,hk _ (s6++s5) w (λ_=>⟨λw h=>Rw.rd jE h.split 1 rfl r5,λw h=>Rw.rd qe h.split 0 rfl r6,Rw.nil0 jE r5,Rw.nil0 qe r6,hlf,by show(kd ts).length<100000;omega⟩) ?_⟩;have h:=uV (uV (uV (uV (uV (uV h)))));exact h.glue
   ·rintro d2 j G w hf;exact hf.elim
  ·rintro d j G w hf;exact hf.elim
structure AEv where
 kind:Int
 name:B0
 tag:B0
 n:Int
 draw:Int
 c:Cfg
 r:ARt
 v:Sl
abbrev EvT:=HT [.int .i64,.str,.str,.int .i64,.int .i64,.str,.int .i64,.int .i64,.int .i64,.int .i64,.int .i64,.str,.str,.slice,.int .i64]
abbrev AEv.t(e:AEv):EvT:=(e.kind,e.name,e.tag,e.n,e.draw,e.c.1,e.c.2.1,e.c.2.2.1,e.c.2.2.2.1,e.c.2.2.2.2.1,e.c.2.2.2.2.2.1,e.r.name,e.r.cfg,e.v,e.r.roll,())
abbrev evV(e:AEv):Value:=.agg #[I e.kind,.string e.name,.string e.tag,I e.n,I e.draw,.string e.c.1,I e.c.2.1,I e.c.2.2.1,I e.c.2.2.2.1,I e.c.2.2.2.2.1,I e.c.2.2.2.2.2.1,.string e.r.name,.string e.r.cfg,.slice e.v.a e.v.len e.v.cap,I e.r.roll]
abbrev Has:=HT [.bool,.bool,.bool,.bool,.bool,.bool]
def shp(k:Int):Has×Bool:=
 if k=1 then((true,false,false,false,true,false,()),true)else if k=2 then((true,false,false,false,false,true,()),true)else if k=3 then((true,true,false,true,false,false,()),true)
 else if k=4 then((true,true,true,true,false,false,()),true)else if k=5∨k=6∨k=7∨k=8 then((true,false,false,false,false,false,()),true)else if k=9 then((false,false,false,false,false,false,()),true)
 else if k=10∨k=11∨k=12∨k=13 then((false,true,false,false,false,false,()),true)else((false,false,false,false,false,false,()),false)
def BD(h:St w0 E w){x:Int}{k:Has×Bool×Unit→PT}(hk:∀w',St w0 E w'→k ((shp x).1,(shp x).2,()) w'):L.call Pr vH [I x] (.tup [.agg [.bool,.bool,.bool,.bool,.bool,.bool],.one .bool]) k w:=by
 refine za (nM x) ?_;unfold Mt;unfold shp at hk;refine nw h ?_;clear h;intro b1 w h
 ((try dsimp only[zd,List.cons_append,List.nil_append]at h);repeat' (first | refine nn ?_ | (refine dr h ?_;clear h;intro w h) | refine ldC h ?_ | refine laC h ?_ | refine ckC h ?_ | (refine stC h ?_;clear h;intro w h;(try dsimp only[zE,zd]at h)) | rw[Je] | refine jd ?_ | (refine it (λhc=>?_) (λhc=>?_)<;>(try simp only[zB]at hc))))
 all_goals exact⟨(_,_,()),rfl,eqk (hk w (zj h)) (by clear h hk;simp_all)⟩
def ib{t:Bool}{x:Int}{k:Bool→PT}(hk:k (t||decide (x=0)) w):L.call Pr Qh [.bool t,I x] (.one (.one .bool)) k w:=by
 refine za (TP t x) ?_;unfold ON
 cases t with
 | true=>exact itT rfl ⟨true,rfl,hk⟩
 | false=>exact itF rfl ⟨_,rfl,eqk hk (by rw[Bool.false_or,Bool.eq_iff_iff];simp)⟩
def ia{t:Bool}{x:B0}{k:Bool→PT}(hk:k (t||decide (x=s_)) w):L.call Pr xH [.bool t,.string x] (.one (.one .bool)) k w:=by
 refine za (mL t x) ?_;unfold VQ
 cases t with
 | true=>exact itT rfl ⟨true,rfl,hk⟩
 | false=>exact itF rfl ⟨_,rfl,eqk hk (by rw[jN,Bool.false_or])⟩
def ic(h:St w0 E w){t:Bool}{c:Cfg}{k:Bool→PT}(hk:∀w',St w0 E w'→k (t||Og c oe) w'):L.call Pr xT [.bool t,.agg (Cfg.cells c).toArray] (.one (.one .bool)) k w:=by
 refine za (OW t c) ?_;unfold uS;refine nw h ?_;clear h;intro b1 w h;refine nw h ?_;clear h;intro b2 w h
 cases t with
 | true=>exact itT rfl ⟨true,rfl,hk w (zj (zj h))⟩
 | false=>
  refine itF rfl ?_
  (refine laC h ?_;refine laC h ?_)
  unfold L.chkSem;refine⟨SR c oe w,_,rfl,?_⟩;exact hk w (zj (zj h))
def en(r:ARt)(n:Nat):Bool:=decide (r.name=s_)&&(decide (r.cfg=s_)&&(decide (r.roll=0)&&decide (n=0)))
def z0u(h:St w0 E w){r:ARt}{v:Sl}{k:Bool→PT}(hk:∀w',St w0 E w'→k (en r v.len) w'):L.call Pr gH [rtV r v] (.one (.one .bool)) k w:=by
 refine za (WH (r.name,r.cfg,v,r.roll,())) ?_;unfold tk;refine nw h ?_;clear h;intro b1 w h
 (dsimp only[zd,List.cons_append,List.nil_append]at h;refine ldC h ?_)
 rw[jN];unfold en at hk
 cases h1:decide (r.name=s_) with
 | false=>exact itF rfl ⟨false,rfl,by rw[h1]at hk;exact hk w (zj h)⟩
 | true=>
  refine itT rfl ?_
  (refine ldC h ?_)
  rw[jN]
  cases h2:decide (r.cfg=s_) with
  | false=>exact itF rfl ⟨false,rfl,by rw[h1,h2]at hk;exact hk w (zj h)⟩
  | true=>
   refine itT rfl ?_
   (refine ldC h ?_)
   refine it (λh3=>?_) (λh3=>?_)
   ·(refine ldC h ?_)
    have h3:decide (r.roll=0)=true:=by simpa using h3
    rw[h1,h2,h3]at hk;refine⟨_,rfl,eqk (hk w (zj h)) ?_⟩;rw[Bool.eq_iff_iff];simp
   ·have h3:decide (r.roll=0)=false:=by simpa using h3
    rw[h1,h2,h3]at hk;exact⟨false,rfl,hk w (zj h)⟩
def wiB(n a b:Int):Bool:=decide (a≤n)&&decide (n≤b)
def Kp{n a b:Int}{k:Bool→PT}(hk:k (wiB n a b) w):L.call Pr ZE [I n,I a,I b] (.one (.one .bool)) k w:=by
 refine za (DT n a b) ?_;unfold Fh;unfold wiB at hk;refine it (λh1=>?_) (λh1=>?_)
 ·have h1:decide (a≤n)=true:=h1;rw[h1]at hk;exact⟨_,rfl,hk⟩
 ·have h1:decide (a≤n)=false:=h1;rw[h1]at hk;exact⟨_,rfl,hk⟩
def ax(e:AEv):Bool:=if e.kind=1∨e.kind=2 then wiB e.n 0 2147483647 else if e.kind=3 then wiB e.n 1 2 else wiB e.n 1 2147483647
def bm(h:St w0 E w){e:AEv}{k:Bool→PT}(hk:∀w',St w0 E w'→k (ax e) w'):L.call Pr kY [evV e] (.one (.one .bool)) k w:=by
 refine za (DV e.t) ?_;unfold Fj;unfold ax at hk;refine nw h ?_;clear h;intro b1 w h
 (dsimp only[zd,List.cons_append,List.nil_append]at h;refine ldC h ?_)
 refine jd ?_;refine it (λh1=>?_) (λh1=>?_)
 ·have h1':e.kind=1:=by simpa using h1
  refine itT h1 ?_
  (refine ldC h ?_)
  refine Kp ⟨_,rfl,?_⟩;rw[if_pos (.inl h1')]at hk;exact hk w (zj h)
 ·have h1':¬e.kind=1:=by simpa using h1
  refine it (λh2=>?_) (λh2=>?_)
  ·have h2':e.kind=2:=by simpa using h2
   (refine ldC h ?_)
   refine Kp ⟨_,rfl,?_⟩;rw[if_pos (.inr h2')]at hk;exact hk w (zj h)
  ·have h2':¬e.kind=2:=by simpa using h2
   rw[if_neg (λhh=>hh.elim h1' h2')]at hk;refine it (λh3=>?_) (λh3=>?_)
   ·have h3':e.kind=3:=by simpa using h3
    rw[if_pos h3']at hk
    (refine ldC h ?_)
    exact Kp ⟨_,rfl,hk w (zj h)⟩
   ·have h3':¬e.kind=3:=by simpa using h3
    rw[if_neg h3']at hk
    (refine ldC h ?_)
    exact Kp ⟨_,rfl,hk w (zj h)⟩
def Ws(n:B0):Prop:=∃c g,ZZ c.data.toList 16=true∧1≤g∧g≤999999∧n=qm c g
def Ws.is{n:B0}(h:Ws n):wQ n=true:=PA.2 h
def Ws.size{n:B0}(h:Ws n):n.size≤100:=by
 obtain⟨c,g,hc,-,hg,rfl⟩:=h;have h1:=UW hc;have h2:=jl (qm c g);rw[vq,List.length_append,List.length_cons,jl]at h2;have:=wY hg;omega
def ME(e:AEv):Bool:=if e.kind=12∨e.kind=13 then wQ e.name else ZZ e.name.data.toList 16
def Al [YB w0](h:St w0 E w){e:AEv}(hr:e.kind=12∨e.kind=13→e.name.size≤1000000){k:Bool→PT}(hk:∀w',St w0 E w'→k (ME e) w'):L.call Pr vI [evV e] (.one (.one .bool)) k w:=by
 refine za (nN e.t) ?_;unfold Mu;unfold ME at hk;refine nw h ?_;clear h;intro b1 w h
 (dsimp only[zd,List.cons_append,List.nil_append]at h;refine ldC h ?_)
 refine it (λh1=>?_) (λh1=>?_)
 ·have h1':e.kind=12:=by simpa using h1
  rw[if_pos (.inl h1')]at hk
  (refine ldC h ?_)
  exact DA h (hr (.inl h1')) λc n w h=>⟨_,rfl,hk w (zj h)⟩
 ·have h1':¬e.kind=12:=by simpa using h1
  (refine ldC h ?_)
  refine it (λh2=>?_) (λh2=>?_)
  ·have h2':e.kind=13:=by simpa using h2
   rw[if_pos (.inr h2')]at hk
   (refine ldC h ?_)
   exact DA h (hr (.inr h2')) λc n w h=>⟨_,rfl,hk w (zj h)⟩
  ·have h2':¬e.kind=13:=by simpa using h2
   rw[if_neg (λhh=>hh.elim h1' h2')]at hk
   (refine ldC h ?_)
   exact Tn h uX λw h=>⟨_,rfl,hk w (zj h)⟩
def Sf(s:Has)(e:AEv):Bool:=
 (s.1||decide (e.n=0))&&((s.2.1||decide (e.name=s_))&&((s.2.2.1||decide (e.tag=s_))&&((s.2.2.2.1||decide (e.draw=0))&&((s.2.2.2.2.1||Og e.c oe)&&(s.2.2.2.2.2.1||en e.r e.v.len)))))
def ee(s:Has)(e:AEv):Int:=
 if Sf s e=false then 2 else if s.1=true∧ax e=false then 2 else if s.2.1=true∧ME e=false then 1
 else if s.2.2.1=true∧e.tag≠s_∧ZZ e.tag.data.toList 8=false then 1 else if s.2.2.2.1=true∧wiB e.draw 0 2147483647=false then 2
 else if s.2.2.2.2.1=true then UG e.c else if s.2.2.2.2.2.1=true then Gb e.r else 0
def Zz(e:AEv):Int:=if(shp e.kind).2=false then 12 else ee (shp e.kind).1 e
def BU(k:Int):(shp k).1=(true,false,false,false,true,false,())∨(shp k).1=(true,false,false,false,false,true,())∨(shp k).1=(true,true,false,true,false,false,())∨(shp k).1=(true,true,true,true,false,false,())∨
  (shp k).1=(true,false,false,false,false,false,())∨(shp k).1=(false,false,false,false,false,false,())∨(shp k).1=(false,true,false,false,false,false,()):=by
 unfold shp
 repeat' split
 all_goals simp
def wj [YB w0](h:St w0 E w){e:AEv}(hn:e.kind=12∨e.kind=13→e.name.size≤1000000)(rd:RdE w0 E eT e.v e.r.ts)(hvc:e.v.len≤e.v.cap)(hrv:∀t∈e.r.ts,Qo t.1){k:Int→PT}(hk:∀w',St w0 E w'→k (Zz e) w') :
  L.call Pr vJ [evV e] (.one (.one (.int .i64))) k w:=by
 refine za (nQ e.t) ?_;unfold Mw;unfold Zz at hk;refine nw h ?_;clear h;intro b1 w h
 (dsimp only[zd,List.cons_append,List.nil_append]at h;refine ldC h ?_)
 refine BD h λw h=>?_;have hs:=BU e.kind;generalize (shp e.kind).1=s at *
 generalize (shp e.kind).2=t at *
 refine nw h ?_;clear h;intro b4 w h
 (refine stC h ?_;clear h;intro w h;dsimp only[zE,zd]at h)
 cases t with
 | false=>exact itT rfl ⟨12,rfl,by rw[if_pos rfl]at hk;exact hk w (zj (zj h))⟩
 | true=>
  refine itF rfl ?_;rw[if_neg (by decide)]at hk;unfold ee at hk;have rd':∀{s1 s2:Seg}{w},St w0 (s1::s2::E) w→Rd w eT e.v e.r.ts:=λh=>rd _ (zj (zj h));rcases hs with rfl | rfl | rfl | rfl | rfl | rfl | rfl
  all_goals repeat' (first | refine nn ?_ | (refine dr h ?_;clear h;intro w h) | refine ldC h ?_ | refine laC h ?_ | refine ckC h ?_ | (refine stC h ?_;clear h;intro w h;(try dsimp only[zE,zd]at h)) | rw[Je] | refine jd ?_ | refine itT rfl ?_ | refine itF rfl ?_ | refine ib ?_ | refine ia ?_ | (refine ic (c:=e.c) h λw h=>?_) | (refine z0u (r:=e.r) (v:=e.v) h λw h=>?_) | (refine bm (e:=e) h λw h=>?_) | (refine Al (e:=e) h hn λw h=>?_) | (refine Ig h uX λw h=>?_) | refine Kp ?_ | (refine BB (c:=e.c) h λw h=>?_) | (refine BA (a:=e.r) (v:=e.v) h (λw h=>rd' h) hvc hrv λw h=>?_) | (refine it (λhc=>?_) (λhc=>?_)))
  all_goals exact⟨_,rfl,eqk (hk w (zj (zj h))) (by clear hk h rd rd' hrv hn hvc;(try simp only[jN]at *);simp_all [Sf])⟩
end Go.Proofs.YtimahgbgejngiaaGreatDoor

namespace Go.Proofs
open Go.Shelf
def Tryz.lays189_ren:Go.Shelf.Ren:=⟨fun | 189=>115 | 125=>186 | 257=>185 | 128=>253 | 129=>254 | 294=>244 | 295=>245 | 296=>246 | 297=>247 | 298=>248 | 299=>249 | 216=>250 | 300=>251 | 301=>252 | 328=>289 | 329=>290 | 330=>291 | 331=>292 | 332=>293 | 215=>294 | 343=>312 | n=>n,fun | 28=>24 | 3=>3 | 46=>349 | 0=>0 | 51=>410 | 53=>412 | 4=>4 | 183=>403 | 182=>402 | 131=>290 | 5=>5 | 9=>9 | 218=>442 | 222=>416 | 228=>462 | 229=>214 | n=>n,fun | n=>n⟩
def Tryz.lays189:Go.Proofs.Lays.n189 Tryz.prog Tryz.lays189_ren:={
 mixed:=by kernel_rfl
 f125:=Tryz.func186.trans cS
 f128:=Tryz.func253.trans cS
 f129:=Tryz.func254.trans cS
 f189:=Tryz.func115.trans cS
 f215:=Tryz.func294.trans cS
 f216:=Tryz.func250.trans cS
 f257:=Tryz.func185.trans cS
 f294:=Tryz.func244.trans cS
 f295:=Tryz.func245.trans cS
 f296:=Tryz.func246.trans cS
 f297:=Tryz.func247.trans cS
 f298:=Tryz.func248.trans cS
 f299:=Tryz.func249.trans cS
 f300:=Tryz.func251.trans cS
 f301:=Tryz.func252.trans cS
 f328:=Tryz.func289.trans cS
 f329:=Tryz.func290.trans cS
 f330:=Tryz.func291.trans cS
 f331:=Tryz.func292.trans cS
 f332:=Tryz.func293.trans cS
 f343:=Tryz.func312.trans cS
 t0:=Tryz.underlying0
 a0:=Tryz.isAgg0
 z0:=Tryz.sizeOf0
 v0:=Tryz.zeroValue0
 t3:=Tryz.underlying3
 a3:=Tryz.isAgg3
 z3:=Tryz.sizeOf3
 v3:=Tryz.zeroValue3
 t4:=Tryz.underlying4
 a4:=Tryz.isAgg4
 z4:=Tryz.sizeOf4
 v4:=Tryz.zeroValue4
 t5:=Tryz.underlying5
 a5:=Tryz.isAgg5
 z5:=Tryz.sizeOf5
 v5:=Tryz.zeroValue5
 t9:=Tryz.underlying9
 a9:=Tryz.isAgg9
 z9:=Tryz.sizeOf9
 v9:=Tryz.zeroValue9
 t28:=Tryz.underlying24
 a28:=Tryz.isAgg24
 z28:=Tryz.sizeOf24
 v28:=Tryz.zeroValue24
 t46:=Tryz.underlying349
 a46:=Tryz.isAgg349
 z46:=Tryz.sizeOf349
 v46:=Tryz.zeroValue349
 t51:=Tryz.underlying410
 a51:=Tryz.isAgg410
 z51:=Tryz.sizeOf410
 v51:=Tryz.zeroValue410
 t53:=Tryz.underlying412
 a53:=Tryz.isAgg412
 z53:=Tryz.sizeOf412
 v53:=Tryz.zeroValue412
 t131:=Tryz.underlying290
 a131:=Tryz.isAgg290
 z131:=Tryz.sizeOf290
 v131:=Tryz.zeroValue290
 t182:=Tryz.underlying402
 a182:=Tryz.isAgg402
 z182:=Tryz.sizeOf402
 v182:=Tryz.zeroValue402
 t183:=Tryz.underlying403
 a183:=Tryz.isAgg403
 z183:=Tryz.sizeOf403
 v183:=Tryz.zeroValue403
 t218:=Tryz.underlying442
 a218:=Tryz.isAgg442
 z218:=Tryz.sizeOf442
 v218:=Tryz.zeroValue442
 t222:=Tryz.underlying416
 a222:=Tryz.isAgg416
 z222:=Tryz.sizeOf416
 v222:=Tryz.zeroValue416
 t228:=Tryz.underlying462
 a228:=Tryz.isAgg462
 z228:=Tryz.sizeOf462
 v228:=Tryz.zeroValue462
 t229:=Tryz.underlying214
 a229:=Tryz.isAgg214
 z229:=Tryz.sizeOf214
 v229:=Tryz.zeroValue214 }
open Go.Sort Go.RowKit in
def Tryz.slices_Sort_int(blk off cap:Nat)(zs:List Int)(w:World)(hH:Holds (Value.int .i64) w blk off zs.toArray)(hblk:blk<w.heap.size)(hsz:zs.length<4611686018427387904) :
  Calls Tryz.prog 115 #[.slice (some ⟨blk,off,none⟩) zs.length cap] w λe w'=>
   e = .returned (.tuple #[])∧∃n os,w'=grow (putRow (Value.int .i64) (Sort.ahead w n) blk off (zs.mergeSort λx y=>decide (x≤y)).toArray) os:=Any.slices_Sort_int Tryz.lays189 blk off cap zs w hH hblk hsz
end Go.Proofs
namespace Go.Proofs.YtimahgbgejngiaaGreatDoor
open Go.Dm
attribute [local irreducible] L.load L.store L.chk L.new L.nonnil L.guard L.ite L.draw L.idx L.sem L.semR L.semU L.chkSem L.next L.call L.callV L.join L.alts L.loop L.begin L.endRound L.range
variable {w0 w:World}{E:List Seg}
def oq(l:List Int):List Int:=l.mergeSort λx y=>decide (x≤y)
def gL(l:List Int):(oq l).Perm l:=List.mergeSort_perm ..
def dZ(l:List Int):(oq l).Pairwise (· ≤·):=by
 have:=List.pairwise_mergeSort (le:=λx y:Int=>decide (x≤y)) (λa b c h1 h2=>by simp only[decide_eq_true_eq]at *;omega) (λa b=>by simp only[Bool.or_eq_true,decide_eq_true_eq];omega) l;exact this.imp λh=>by simpa using h
def Li{l m:List Int}(h:l.Perm m):oq l=oq m:=
 List.Perm.eq_of_pairwise (λa b _ _ h1 h2=>by omega) (dZ l) (dZ m) (((gL l).trans h).trans (gL m).symm)
def Lh{l m:List Int}(h:l.Perm m)(hm:m.Pairwise (· ≤·)):oq l=m:=
 List.Perm.eq_of_pairwise (λa b _ _ h1 h2=>by omega) (dZ l) hm ((gL l).trans h)
def FW(l:List Int):(oq l).length=l.length:=(gL l).length_eq
def BM(h:St w0 E w)(i:Nat){s:Seg}(hi:nth E i=some s){v:Sl}{l:List Int}(hr:Rw eI zp 1 v l s)(hn:l.length<1000000000){k:Unit→PT}(hk:∀s' w',Rw eI zp 1 v (oq l) s'→St w0 (zd E i s') w'→k () w') :
  L.call Pr XQ [.slice v.a v.len v.cap] (.tup []) k w:=
 bS (encv:=Value.int .i64) (λ_=>rfl) YI (oq l) (FW l) (λg off cap w h1 h2=>Tryz.slices_Sort_int g off cap l w h1 h2 (by omega)) (λp cap w=>Any.slices_Sort_int_none Tryz.lays189 p cap w) h i hi hr hk
def Wr{a1 a2:Seg}{F:List Seg}{fv:FV}{keys:List Int}(hY:Ds Pr w0 [a1,a2] fv.val keys (Value.int .i64))(h:St w0 (a1::a2::F) w)(hn:keys.length<1000000000){k:Sl→PT}
  (hk:∀seen v s w',seen.Perm keys→Rw eI zp 1 v seen s→St w0 (s::a1::a2::F) w'→k v w'):L.call Pr Jw [.slice none 0 0,fv.val] (.one (.one .slice)) k w:=by
 refine za (KM ⟨none,0,0⟩ fv) ?_;unfold qN;refine nw h ?_;clear h;intro b1 w h;have h:=Zm (Zm h);have h:St w0 ([a1,a2]++[Cl b1 ZS [SlV ⟨none,0,0⟩]]::[]::F) w:=h.eq (by simp);refine Nt (l:=.int .i64) (arg:=λx=>x) (A:=[a1,a2]) (keys:=keys) hY h (λseen G=>∃v s,G = [Cl b1 ZS [SlV v]]::s::F∧Rw eI zp 1 v seen s) (λj G=>False) ⟨_,_,rfl,Rw.nil⟩ ?_ ?_ ?_
 ·rintro seen x G X w lv lp d R hm ⟨v,s,rfl,hr⟩ h hN hE;have h:St w0 ([Rec lv lp .busy none]::[DfM d]::a1::a2::[Cl b1 ZS [SlV v]]::s::(F++X)) w:=h
  (refine ldC h ?_)
  refine nw h ?_;clear h;intro b8 w h;refine Rw.app YI elI h 5 rfl hr x rfl (by omega) (by omega) λv' s' w hr' h=>?_
  (dsimp only[zd,List.cons_append,List.nil_append]at h;refine stC h ?_;clear h;intro w h;dsimp only[zE,zd]at h)
  exact hN _ w ⟨v',s',rfl,hr'⟩ h
 ·rintro d seen G w hp ⟨v,s,rfl,hr⟩ h;have h:St w0 ([DfM d]::a1::a2::[Cl b1 ZS [SlV v]]::s::F) w:=h;refine VA ?_
  (refine ldC h ?_)
  (first | refine gu h ?_ | refine gq h ?_ | refine gp h ?_ | refine gm h ?_ | refine gk h ?_ | refine gj h ?_ | refine gi h ?_ | refine gh h ?_ | refine gg h ?_ | refine gf h ?_ | refine Ua h ?_ | refine uZ h ?_);clear h;intro w h
  refine⟨v,rfl,hk seen v s w hp hr ?_⟩;have h:=Ys (yL (yL h));have h:=Qj h;exact h
 ·rintro d j G w hf;exact hf.elim
def Md{a1 a2:Seg}{F:List Seg}{fv:FV}{keys:List Int}(hY:Ds Pr w0 [a1,a2] fv.val keys (Value.int .i64))(h:St w0 (a1::a2::F) w)(hn:keys.length<1000000000){k:Sl→PT}
  (hk:∀v s w',Rw eI zp 1 v (oq keys) s→St w0 (s::a2::F) w'→k v w'):L.call Pr YY [fv.val] (.one (.one .slice)) k w:=by
 refine za (mE fv) ?_;unfold VJ;refine za (Fy fv) ?_;unfold Va;refine Wr hY h hn λseen v s w hp hr h=>⟨v,rfl,?_⟩;refine BM h 0 rfl hr (by rw[hp.length_eq];exact hn) λs w hr h=>?_;rw[Li hp]at hr;exact⟨v,rfl,hk v s w hr (yw h)⟩
def unI:Value→Int
 | .int _ n=>n
 | _=>0
abbrev KI:Int→Value:=Value.int .i64
def rE(x:B0×Option Addr):Value:=.agg #[.string x.1,.pointer x.2]
def uC:Pr.underlying yU=some (.map zp qG):=by kernel_rfl
def JS:Pr.underlying Za=some (.map zp Xe):=by kernel_rfl
def Oe:Pr.underlying xq=some (.map zp zp):=by kernel_rfl
def EH:Pr.underlying zp=some (.int .i64):=by kernel_rfl
def mkI:MK Pr zp KI:=II EH
def zb(w:World):(zeroValue qG).run Pr w = .ok ((E1.one .bool).val false) w:=by
 have h:(Pr.info? qG).map (·.zero)=some (some (.bool false)):=by kernel_rfl
 cases hi:Pr.info? qG with
 | none=>rw[hi]at h;cases h
 | some i=>rw[hi]at h;simp only[Option.map_some,Option.some.injEq]at h;exact zv hi h w
def zi(w:World):(zeroValue zp).run Pr w = .ok ((E1.one (.int .i64)).val (0:Int)) w:=by
 have h:(Pr.info? zp).map (·.zero)=some (some (I 0)):=by kernel_rfl
 cases hi:Pr.info? zp with
 | none=>rw[hi]at h;cases h
 | some i=>rw[hi]at h;simp only[Option.map_some,Option.some.injEq]at h;exact zv hi h w
def zo(w:World):(zeroValue Xe).run Pr w = .ok ((E1.agg [.str,.ptr]).val (s_,none,())) w:=by
 have h:(Pr.info? Xe).map (·.zero)=some (some (.agg #[.string s_,.pointer none])):=by kernel_rfl
 cases hi:Pr.info? Xe with
 | none=>rw[hi]at h;cases h
 | some i=>rw[hi]at h;simp only[Option.map_some,Option.some.injEq]at h;exact zv hi h w
def z2F(h:St w0 E w)(i:Nat){s:Seg}(hi:nth E i=some s){r:Nat}{m:List (Int×Bool)}(hm:MpS KI Value.bool r m s)(hn:m.length<1000000000){k:Sl→PT}
  (hk:∀v s' w',Rw eI zp 1 v (oq (m.map (·.1))) s'→St w0 (s'::E) w'→k v w') :
  L.call Pr YL [.map (some r)] (.one (.one .func)) (λx5=>L.call Pr YY [.func x5.fn x5.fs x5.cs] (.one (.one .slice)) k) w:=by
 refine za (uW _) ?_;unfold JQ;have h:=h.front i hi;refine nw h ?_;clear h;intro c w h;refine⟨⟨.func Zy,#[],#[.pointer (some ⟨c,0,none⟩)]⟩,rfl,?_⟩;have hY:Ds Pr w0 [[Cl c yU [.map (some r)]],s] (.func (.func Zy) #[] #[.pointer (some ⟨c,0,none⟩)]) (m.map (·.1)) KI:=by
  intro yv R J Jd F w h hJ step fin fin2;refine⟨QN,QP yv ⟨c,0,none⟩ ?_⟩;unfold Jn;exact FU (kv:=KI) (vv:=Value.bool) unI (λ_=>rfl) uC (lk:=.int .i64) (ev:=.one .bool) (λx=>x) (λ_=>rfl) (λx=>x) (λ_=>rfl) J Jd hm h hJ (λseen k F X w hl hJ h=>step seen k F X w (by simpa using hl) hJ h) fin fin2
 refine Md (fv:=⟨.func Zy,#[],#[.pointer (some ⟨c,0,none⟩)]⟩) hY h (by simpa using hn) λv s' w hr h=>hk v s' w hr ?_;have h:=yL h;exact St.setN_same' (i+1) (E:=s'::E) hi (St.back (i+1) (E:=s'::E) hi h)
def z2E(h:St w0 E w)(i:Nat){s:Seg}(hi:nth E i=some s){r:Nat}{m:List (Int×(B0×Option Addr))}(hm:MpS KI rE r m s)(hn:m.length<1000000000){k:Sl→PT}
  (hk:∀v s' w',Rw eI zp 1 v (oq (m.map (·.1))) s'→St w0 (s'::E) w'→k v w') :
  L.call Pr yo [.map (some r)] (.one (.one .func)) (λx5=>L.call Pr YY [.func x5.fn x5.fs x5.cs] (.one (.one .slice)) k) w:=by
 refine za (Xb _) ?_;unfold YO;have h:=h.front i hi;refine nw h ?_;clear h;intro c w h;refine⟨⟨.func zZ,#[],#[.pointer (some ⟨c,0,none⟩)]⟩,rfl,?_⟩;have hY:Ds Pr w0 [[Cl c Za [.map (some r)]],s] (.func (.func zZ) #[] #[.pointer (some ⟨c,0,none⟩)]) (m.map (·.1)) KI:=by
  intro yv R J Jd F w h hJ step fin fin2;refine⟨xz,xB yv ⟨c,0,none⟩ ?_⟩;unfold Yy;exact FU (kv:=KI) (vv:=rE) unI (λ_=>rfl) JS (lk:=.int .i64) (ev:=.agg [.str,.ptr]) (λx=>x) (λ_=>rfl) (λx:B0×Option Addr=>(x.1,x.2,())) (λ_=>rfl) J Jd hm h hJ (λseen k F X w hl hJ h=>step seen k F X w (by simpa using hl) hJ h) fin fin2
 refine Md (fv:=⟨.func zZ,#[],#[.pointer (some ⟨c,0,none⟩)]⟩) hY h (by simpa using hn) λv s' w hr h=>hk v s' w hr ?_;have h:=yL h;exact St.setN_same' (i+1) (E:=s'::E) hi (St.back (i+1) (E:=s'::E) hi h)
structure js where
 st:Int
 conc:Int
 reqs:List Int
def PD(x:Int):List Int→List Int
 | []=>[x]
 | y::l=>if y<x then y::PD x l else x::y::l
structure js.Ok(p:js):Prop where
 pw:p.reqs.Pairwise (· < ·)
 dr:p.st=3→p.reqs≠[]
 dead:p.st=4→p.reqs = []
 few:p.reqs.length<100000000
def Xc(p:js):js×Int:=if p.st≠1 then(p,9)else({ p with st:=2 },0)
def Yq(p:js):js×Int:=if p.st≠1∧p.st≠2 then(p,9)else({ p with st:=if p.reqs = []then 4 else 3 },0)
def yQ(p:js):js×List Int×Int:=if p.st=4 then(p,[],9)else({ p with st:=4,reqs:=[] },p.reqs,0)
def yF(p:js)(id:Int):js×Int:=
 if p.st≠2 then(p,9)else if id∈p.reqs then(p,5)else if(p.reqs.length:Int)≥p.conc then(p,8)else({ p with reqs:=PD id p.reqs },0)
def Yi(p:js)(id:Int):js×Int:=
 if id∈p.reqs then({ p with reqs:=p.reqs.erase id,st:=if p.st=3∧p.reqs.erase id = []then 4 else p.st },0)else(p,6)
def Ol(x:Int)(l:List Int):(PD x l).Perm (x::l):=by
 induction l with
 | nil=>exact .refl _
 | cons y l ih=>
  simp only[PD];split
  ·exact(ih.cons y).trans (.swap ..)
  ·exact .refl _
def Om{x y:Int}{l:List Int}:y∈PD x l↔y=x∨y∈l:=by
 rw[(Ol x l).mem_iff];simp
def Bk{x:Int}:∀{l:List Int},l.Pairwise (· < ·)→x∉l→(PD x l).Pairwise (· < ·)
 | [],_,_=>by simp[PD]
 | y::l,h,hx=>by
  simp only[List.mem_cons,not_or]at hx;rw[List.pairwise_cons]at h;simp only[PD];split
  ·rename_i hy;rw[List.pairwise_cons];refine⟨λz hz=>?_,Bk h.2 hx.2⟩;rcases Om.1 hz with rfl | hz
   ·exact hy
   ·exact h.1 z hz
  ·rename_i hy;rw[List.pairwise_cons];refine⟨λz hz=>?_,List.pairwise_cons.2 h⟩;rcases List.mem_cons.1 hz with rfl | hz
   ·omega
   ·have:=h.1 z hz;omega
def Lk(x:Int)(l:List Int):(PD x l).length=l.length+1:=by rw[(Ol x l).length_eq];rfl
def KR(m:List (Int×Bool))(reqs:List Int):Prop:=(∀p∈m,p.2=true)∧(m.map (·.1)).Perm reqs
def KR.get{m:List (Int×Bool)}{reqs:List Int}(h:KR m reqs)(id:Int):((zA m id).map λx=>x).getD false=decide (id∈reqs):=by
 cases hg:zA m id with
 | none=>
  have:=Yn.1 hg;rw[h.2.mem_iff]at this;simp[this]
 | some b=>
  have hm:=jB hg;have hb:=h.1 _ hm;simp only at hb;subst hb;have:id∈reqs:=h.2.mem_iff.1 (List.mem_map_of_mem (f:=(·.1)) hm);simp[this]
def KR.len{m:List (Int×Bool)}{reqs:List Int}(h:KR m reqs):m.length=reqs.length:=by
 have:=h.2.length_eq;simpa using this
def KR.put{m:List (Int×Bool)}{reqs:List Int}(h:KR m reqs){id:Int}(hn:id∉reqs):KR (Zp m id true) (PD id reqs):=by
 have hg:zA m id=none:=Yn.2 (λhm=>hn (h.2.mem_iff.1 hm));rw[xU hg];refine⟨λp hp=>?_,?_⟩
 ·rcases List.mem_append.1 hp with hp | hp
  ·exact h.1 p hp
  ·simp at hp;subst hp;rfl
 ·rw[List.map_append];refine List.Perm.trans ?_ (Ol id reqs).symm;exact List.perm_append_comm.trans (h.2.cons id)
def NA:∀{m:List (Int×Bool)}{k:Int},((UF m k).map (·.1)).Perm ((m.map (·.1)).erase k)
 | [],k=>by simp[UF]
 | p::m,k=>by
  simp only[UF];by_cases e:p.1=k
  ·rw[if_pos e];subst e;simp
  ·rw[if_neg e,List.map_cons,List.map_cons,List.erase_cons_tail (by simpa using e)];exact(NA (m:=m) (k:=k)).cons _
def lT{κ υ:Type}[DecidableEq κ]:∀{m:List (κ×υ)}{k:κ}{p:κ×υ},p∈UF m k→p∈m
 | q::m,k,p,h=>by
  simp only[UF]at h;split at h
  ·exact List.mem_cons_of_mem _ h
  ·rcases List.mem_cons.1 h with rfl | h
   ·exact List.mem_cons_self ..
   ·exact List.mem_cons_of_mem _ (lT h)
def KR.take{m:List (Int×Bool)}{reqs:List Int}(h:KR m reqs)(id:Int):KR (UF m id) (reqs.erase id):=
 ⟨λp hp=>h.1 p (lT hp),NA.trans (h.2.erase id)⟩
def Vp(b:Nat)(p:js)(s:Seg):Prop:=p.Ok∧∃r m sm,MpS KI Value.bool r m sm∧KR m p.reqs∧s = [Cl b kM [I p.st,.map (some r),I p.conc]]++sm
def z0k(h:St w0 E w){conc:Int}{k:Option Addr→PT}(hk:∀b s w',Vp b ⟨1,conc,[]⟩ s→St w0 (s::E) w'→k (some ⟨b,0,none⟩) w'):L.call Pr tT [I conc] (.one (.one .ptr)) k w:=by
 refine za (Au _) ?_;unfold wp;refine MpS.new h KI Value.bool λr s w hm h=>?_;refine nw h ?_;clear h;intro b w h;exact⟨_,rfl,hk b _ w ⟨⟨by simp,by simp,by simp,by simp⟩,r,[],s,hm,⟨by simp,.refl _⟩,rfl⟩ h.glue⟩
def Ed(h:St w0 E w)(i:Nat){b:Nat}{p:js}{s:Seg}(hi:nth E i=some s)(hp:Vp b p s){k:Int→PT}(hk:k p.st w):L.call Pr yA [pO b] (.one (.one (.int .i64))) k w:=by
 obtain⟨ok,r,m,sm,hm,hb,rfl⟩:=hp;refine za (Ci _) ?_;unfold Gs;have h:=(h.front i hi).split
 (refine nn ?_;refine ldC h ?_)
 exact⟨_,rfl,hk⟩
def HW(h:St w0 E w)(i:Nat){b:Nat}{p:js}{s:Seg}(hi:nth E i=some s)(hp:Vp b p s){k:Int→PT}(hk:k p.reqs.length w):L.call Pr YS [pO b] (.one (.one (.int .i64))) k w:=by
 obtain⟨ok,r,m,sm,hm,hb,rfl⟩:=hp;refine za (FA _) ?_;unfold Ky;have h:=(h.front i hi).split
 (refine nn ?_;refine ldC h ?_)
 refine MpS.len uC h 1 rfl hm ⟨_,rfl,?_⟩;rw[hb.len];exact hk
def z2p(h:St w0 E w)(i:Nat){b:Nat}{p:js}{s:Seg}(hi:nth E i=some s)(hp:Vp b p s){k:Int→PT}(hk:∀s' w',Vp b (Xc p).1 s'→St w0 (zd E i s') w'→k (Xc p).2 w') :
  L.call Pr gF [pO b] (.one (.one (.int .i64))) k w:=by
 have hp':=hp;obtain⟨ok,r,m,sm,hm,hb,rfl⟩:=hp;refine za (WD _) ?_;unfold tb;have h:=(h.front i hi).split
 (refine nn ?_;refine ldC h ?_)
 refine it (λhc=>?_) (λhc=>?_)<;>(try simp only[zB]at hc)
 ·have e:Xc p=(p,9):=by simp only[Xc];rw[if_pos hc]
  rw[e]at hk;exact⟨_,rfl,hk _ w hp' (St.back i hi h.glue)⟩
 ·have e:Xc p=({ p with st:=2 },0):=by simp only[Xc];rw[if_neg (by simpa using hc)]
  rw[e]at hk
  (refine nn ?_;refine stC h ?_;clear h;intro w h;dsimp only[zE,zd]at h)
  exact⟨_,rfl,hk _ w ⟨⟨ok.pw,by simp,by simp,ok.few⟩,r,m,sm,hm,hb,rfl⟩ (St.back i hi h.glue)⟩
def Ee{b r:Nat}{st conc:Int}{m:List (Int×Bool)}{reqs:List Int}{sm:Seg}{F:List Seg}(hm:MpS KI Value.bool r m sm)(hb:KR m reqs)(h:St w0 ([Cl b kM [I st,.map (some r),I conc]]::sm::F) w){k:Unit→PT}
  (hk:∀w',St w0 ([Cl b kM [I (if st=3∧reqs = []then 4 else st),.map (some r),I conc]]::sm::F) w'→k () w'):L.call Pr vF [pO b] (.tup []) k w:=by
 refine za (nH _) ?_;unfold Mo
 (refine nn ?_;refine ldC h ?_)
 refine it (λhc=>?_) (λhc=>?_)<;>(try simp only[zB]at hc)
 ·refine za (FA _) ?_;unfold Ky
  (refine nn ?_;refine ldC h ?_)
  refine MpS.len uC h 1 rfl hm ⟨_,rfl,?_⟩;have hl:=hb.len;refine it (λhd=>?_) (λhd=>?_)<;>(try simp only[zB]at hd)
  ·have:reqs = []:=List.eq_nil_of_length_eq_zero (by omega);rw[if_pos ⟨hc,this⟩]at hk
   (refine nn ?_;refine stC h ?_;clear h;intro w h;dsimp only[zE,zd]at h)
   exact⟨(),rfl,hk w h⟩
  ·rw[if_neg (λhh=>hd (by rw[hl,hh.2];rfl))]at hk;exact⟨(),rfl,hk w h⟩
 ·rw[if_neg (λhh=>hc hh.1)]at hk;exact⟨(),rfl,hk w h⟩
def Ef(h:St w0 E w)(i:Nat){b:Nat}{p:js}{s:Seg}(hi:nth E i=some s)(hp:Vp b p s){k:Int→PT}(hk:∀s' w',Vp b (Yq p).1 s'→St w0 (zd E i s') w'→k (Yq p).2 w') :
  L.call Pr Vm [pO b] (.one (.one (.int .i64))) k w:=by
 have hp':=hp;obtain⟨ok,r,m,sm,hm,hb,rfl⟩:=hp;refine za (Cj _) ?_;unfold Gt;have h:=(h.front i hi).split;refine ZC (λz w=>¬(p.st≠1∧p.st≠2)∧St w0 ([Cl b kM [I p.st,.map (some r),I p.conc]]::sm::Zi E i) w) (λk1 hk1=>?_) (λz w ⟨hc,h⟩=>?_)
 ·(refine nn ?_;refine ldC h ?_)
  refine it (λhc=>?_) (λhc=>?_)<;>(try simp only[zB]at hc)
  ·(refine nn ?_;refine ldC h ?_)
   refine it (λhd=>?_) (λhd=>?_)<;>(try simp only[zB]at hd)
   ·have e:Yq p=(p,9):=by simp only[Yq];rw[if_pos ⟨hc,hd⟩]
    rw[e]at hk;exact⟨_,rfl,hk _ w hp' (St.back i hi h.glue)⟩
   ·exact hk1 _ w ⟨λhh=>hh.2 hd,h⟩
  ·exact hk1 _ w ⟨λhh=>hh.1 hc,h⟩
 ·have e:Yq p=({ p with st:=if p.reqs = []then 4 else 3 },0):=by simp only[Yq];rw[if_neg hc]
  rw[e]at hk
  (refine nn ?_;refine stC h ?_;clear h;intro w h;dsimp only[zE,zd]at h)
  refine Ee hm hb h λw h=>⟨0,rfl,hk _ w ⟨⟨ok.pw,?_,?_,ok.few⟩,r,m,sm,hm,hb,rfl⟩ ?_⟩
  ·intro hh e;have e:p.reqs = []:=e;simp[e]at hh
  ·intro hh;apply Classical.byContradiction;intro hne;simp[hne]at hh
  ·have h:=St.back i hi h.glue;simp only[true_and]at h;exact h
def wm{a:Addr}{b r o T:Nat}{pre:List Value}{post:List Value}{m:List (Int×Bool)}{reqs:List Int}{sm:Seg}{F:List Seg}(ha:a=⟨b,pre.length,none⟩)(hm:MpS KI Value.bool r m sm)(hb:KR m reqs)
  (h:St w0 ([Cl b T (pre++ .map (some r)::post)]::sm::F) w) {id:Int} {k:Int→PT}
  (hk:∀m' sm' w',MpS KI Value.bool r m' sm'→KR m' (reqs.erase id)→St w0 ([Cl b T (pre++ .map (some r)::post)]::sm'::F) w'→k (if id∈reqs then 0 else 6) w') :
  L.call Pr Xj [.pointer (some a),I id] (.one (.one (.int .i64))) k w:=by
 subst ha;have hn:nth (pre++ .map (some r)::post) (pre.length+0)=some (.map (some r)):=by rw[JV];rfl
 refine za (pq _ _) ?_;unfold Kw;refine nn ?_;rw[ji];refine ldx h 0 rfl hn rfl ?_;refine MpS.get (kv:=KI) (e:=.one .bool) (z:=false) mkI uC zb (λx=>x) (λ_=>rfl) h 1 rfl hm ?_;rw[hb.get];refine it (λhc=>?_) (λhc=>?_)<;>(try simp only[zB]at hc)
 ·have e:reqs.erase id=reqs:=List.erase_of_not_mem (by simpa using hc);rw[e,if_neg (by simpa using hc)]at hk;exact⟨_,rfl,hk m sm w hm hb h⟩
 ·rw[if_pos (by simpa using hc)]at hk;refine nn ?_;rw[ji];refine ldx h 0 rfl hn rfl ?_;refine MpS.del (kv:=KI) mkI uC h 1 rfl hm λsm' w hm h=>⟨_,rfl,hk _ sm' w hm (hb.take id) h⟩
def wU{l:List Int}(h:l = [])(id:Int):l.erase id = []:=by subst h;rfl
def HY(h:St w0 E w)(i:Nat){b:Nat}{p:js}{s:Seg}(hi:nth E i=some s)(hp:Vp b p s){id:Int}{k:Int→PT}(hk:∀s' w',Vp b (Yi p id).1 s'→St w0 (zd E i s') w'→k (Yi p id).2 w') :
  L.call Pr Uo [pO b,I id] (.one (.one (.int .i64))) k w:=by
 obtain⟨ok,r,m,sm,hm,hb,rfl⟩:=hp;refine za (DP _ _) ?_;unfold Fd;have h:=(h.front i hi).split;refine nn ?_;refine wm (pre:=[I p.st]) (o:=0) (post:=[I p.conc]) rfl hm hb h λm' sm' w hm hb h=>?_;refine Ee hm hb h λw h=>?_;by_cases hc:id∈p.reqs
 ·rw[if_pos hc];simp only[Yi,if_pos hc]at hk;refine⟨_,rfl,hk _ w ⟨⟨ok.pw.sublist (List.erase_sublist ..),?_,?_,?_⟩,r,m',sm',hm,hb,rfl⟩ (St.back i hi h.glue)⟩
  ·intro hh e;simp only at hh e;rw[e]at hh;by_cases h3:p.st=3
   ·simp[h3]at hh
   ·simp[h3]at hh
  ·intro hh;simp only at hh ⊢;by_cases h3:p.st=3∧p.reqs.erase id = []
   ·exact h3.2
   ·rw[if_neg h3]at hh;exact wU (ok.dead hh) id
  ·have:=List.length_erase_le (a:=id) (l:=p.reqs);have:=ok.few;simp only;omega
 ·rw[if_neg hc];simp only[Yi,if_neg hc]at hk;have e:p.reqs.erase id=p.reqs:=List.erase_of_not_mem hc;rw[e]at hb h;refine⟨_,rfl,hk _ w ⟨ok,r,m',sm',hm,hb,rfl⟩ ?_⟩;have h:=St.back i hi h.glue;rw[if_neg (λhh=>ok.dr hh.1 hh.2)]at h;exact h
def HU(h:St w0 E w)(i:Nat){b:Nat}{p:js}{s:Seg}(hi:nth E i=some s)(hp:Vp b p s)(hfew:p.reqs.length<10000000){id:Int}{k:Int→PT}(hk:∀s' w',Vp b (yF p id).1 s'→St w0 (zd E i s') w'→k (yF p id).2 w') :
  L.call Pr Um [pO b,I id] (.one (.one (.int .i64))) k w:=by
 have hp':=hp;obtain⟨ok,r,m,sm,hm,hb,rfl⟩:=hp;refine za (DN _ _) ?_;unfold Fb;have h:=(h.front i hi).split
 (refine nn ?_;refine ldC h ?_)
 refine it (λhc=>?_) (λhc=>?_)<;>(try simp only[zB]at hc)
 ·have e:yF p id=(p,9):=by simp only[yF];rw[if_pos hc]
  rw[e]at hk;exact⟨_,rfl,hk _ w hp' (St.back i hi h.glue)⟩
 (refine nn ?_)
 refine za (tm _ _) ?_;unfold oC
 (refine nn ?_;refine ldC h ?_)
 refine MpS.get (kv:=KI) (e:=.one .bool) (z:=false) mkI uC zb (λx=>x) (λ_=>rfl) h 1 rfl hm ?_;rw[hb.get];have hl:=hb.len;refine it (λhd=>?_) (λhd=>?_)<;>(try simp only[zB]at hd)
 ·have e:yF p id=(p,5):=by simp only[yF];rw[if_neg (by simpa using hc),if_pos hd]
  rw[e]at hk;exact⟨5,rfl,5,rfl,hk _ w hp' (St.back i hi h.glue)⟩
 (refine dr h ?_;clear h;intro w h;refine nn ?_;refine ldC h ?_)
 refine MpS.len uC h 1 rfl hm ?_
 (refine nn ?_;rw[Je];refine ldC h ?_)
 refine it (λhe=>?_) (λhe=>?_)<;>(try simp only[zB]at he)
 ·have e:yF p id=(p,8):=by simp only[yF];rw[if_neg (by simpa using hc),if_neg hd,if_pos (by omega)]
  rw[e]at hk;exact⟨8,rfl,8,rfl,hk _ w hp' (St.back i hi h.glue)⟩
 ·have e:yF p id=({ p with reqs:=PD id p.reqs },0):=by simp only[yF];rw[if_neg (by simpa using hc),if_neg hd,if_neg (by omega)]
  rw[e]at hk
  (refine nn ?_;refine ldC h ?_)
  refine MpS.set (kv:=KI) (vv:=Value.bool) mkI uC h 1 rfl hm true rfl λsm' w hm h=>?_;refine⟨0,rfl,0,rfl,hk _ w ⟨⟨Bk ok.pw hd,?_,?_,?_⟩,r,_,sm',hm,hb.put hd,rfl⟩ (St.back i hi h.glue)⟩
  ·intro _ e2;have:=Lk id p.reqs;have e2:PD id p.reqs = []:=e2;rw[e2]at this;simp at this
  ·intro hh;simp only at hh;have:=hc;omega
  ·simp only;rw[Lk];omega
end Go.Proofs.YtimahgbgejngiaaGreatDoor
