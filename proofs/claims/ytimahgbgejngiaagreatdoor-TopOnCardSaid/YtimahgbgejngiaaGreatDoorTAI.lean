/- What is proved on the way to a statement of the seat, pressed (text AI). No conditions beyond those its theorems state. -/
import Derived.Test.YtimahgbgejngiaaGreatDoorTAH
import Derived.Shelf.Strconv.Atoi
import Derived.Shelf.Strconv.Itoa3
import Derived.Shelf.Strings.LastIndex
import Derived.Lib.LaidTab
import Derived.Lib.Join
import Derived.Lib.ItoaNum
import Derived.Lib.ItoaMem
import Derived.Below
import Derived.Shelf.Strings.OnBuilder
import Derived.Shelf.Slices.CompactS
import Derived.Lib.RowBridge
set_option linter.all false
namespace Go.Dm
def zB:(∀(p:Prop)[Decidable p],(decide p=true)=p)∧(∀(p:Prop)[Decidable p],(decide p=false) = ¬p)∧(∀{α:Type}[BEq α][LawfulBEq α](a b:α),((a == b)=true)=(a=b))∧(∀{α:Type}[BEq α][LawfulBEq α](a b:α),((a != b)=true) = ¬(a=b))∧(∀{α:Type}[BEq α][LawfulBEq α](a b:α),((a == b)=false) = ¬(a=b))∧(∀{α:Type}[BEq α][LawfulBEq α](a b:α),((a != b)=false)=(a=b))∧
 (∀b:Bool,((!b)=true)=(b=false))∧(∀b:Bool,((!b)=false)=(b=true))∧(∀b:Bool,(¬(b=true))=(b=false))∧(∀b:Bool,(¬(b=false))=(b=true))∧(∀{α:Type}(a b:α),(a≠b) = ¬(a=b)):=by
 refine⟨?_,?_,?_,?_,?_,?_,?_,?_,?_,?_,?_⟩<;>intros<;>simp
end Go.Dm
namespace Go.Proofs.YtimahgbgejngiaaGreatDoor
open Go.Dm
variable {w0 w:World}{E:List Seg}
def wr{n:Int}(h1: -9223372036854775808≤n)(h2:n<9223372036854775808):Wi n=n:=by unfold Wi;rw[IntKind.wrap_i64];omega
def elI:El Pr ZS zx 1 8 (I 0):=gB (by kernel_rfl) (by kernel_rfl) rfl (by decide)
def eI(n:Int):List Value:=[I n]
def Yy:Enc eI 1:=⟨λ_=>rfl,λ_=>rfl,by decide⟩
def z5c{v:Sl}{l:List Int}(o:Old w0 eI v l)(h:St w0 E w){n:Int}{kk:Int→PT}(h0:0≤n)(h1:n<v.len)(hk:∀x,l[n.toNat]? = some x→kk x w):L.idx v.a n v.len 1 (λa=>L.load (.one (.int .i64)) a kk) w:=
 z5Y o Yy h (lf:=.int .i64) (λx=>x) (λx=>⟨_,rfl,rfl⟩) h0 h1 hk
def z6c(l:List Int):fl eI l=l.map I:=by
 induction l with
 | nil=>rfl
 | cons x l ih=>simp only[fl,List.flatMap_cons,List.map_cons]at *;rw[ih];rfl
def HD{W:World}{v:Sl}{l:List Int}(h1:v.len=l.length)(h2:∀i x,l[i]? = some x→∃a,v.a=some a∧W.cell? (a.add i)=some (I x)):Old W eI v l:=by
 refine⟨⟨h1,λj u hj=>?_⟩⟩;rw[z6c,zP,List.getElem?_map]at hj
 cases hx:l[j]? with
 | none=>rw[hx]at hj;cases hj
 | some x=>rw[hx]at hj;cases hj;exact h2 j x hx
def Cy(p0 p1:Int)(h:0<p1):Int.tmod p0 p1=if 0≤p0∨p1∣p0 then p0%p1 else p0%p1-p1:=by
 rw[Int.tmod_eq_emod];split
 ·simp
 ·omega
end Go.Proofs.YtimahgbgejngiaaGreatDoor
namespace Go.Proofs.YtimahgbgejngiaaGreatDoor
open Go.Dm
attribute [local irreducible] L.load L.store L.chk L.new L.nonnil L.guard L.ite L.draw L.idx L.sem L.semR L.semU L.chkSem L.next L.call L.callV L.join L.alts L.loop L.begin L.endRound L.range
variable {w0 w:World}{E:List Seg}
def VA(b:UInt8):Bool:=decide (97≤b.toNat∧b.toNat≤122)
def MP(b:UInt8):Bool:=VA b||decide (48≤b.toNat∧b.toNat≤57)||decide (b.toNat=45)
def yp(l:List UInt8)(most:Int):Bool:=l.all MP&&(l.head?.map VA).getD false&&(match l.getLast? with | some b=>decide (b.toNat≠45) | none=>false)&&decide ((l.length:Int)≤most)
abbrev J(n:Int):Value:=.int .i32 n
def bL{c:Int}{k:Bool→PT}(hk:k (decide (97≤c∧c≤122)) w):L.call Pr UY [J c] (.one (.one .bool)) k w:=by
 refine za (NJ _) ?_;unfold mj;refine it (λh=>?_) (λh=>?_)<;>(try simp only[zB]at h)
 ·refine⟨_,rfl,?_⟩;have e:decide (97≤c∧c≤122)=decide (c≤122):=by by_cases h2:c≤122<;>simp[h2];omega
  rw[e]at hk;exact hk
 ·refine⟨false,rfl,?_⟩;have e:decide (97≤c∧c≤122)=false:=decide_eq_false (by omega);rw[e]at hk;exact hk
def Ih{c:Int}{k:Bool→PT}(hk:k (decide (97≤c∧c≤122)||decide (48≤c∧c≤57)||decide (c=45)) w):L.call Pr GB [J c] (.one (.one .bool)) k w:=by
 refine za (LP _) ?_;unfold Ts;refine bL ?_;refine it (λh=>?_) (λh=>?_)<;>(try simp only[zB]at h)
 ·refine⟨true,rfl,?_⟩;rw[decide_eq_true h]at hk;exact hk
 ·rw[decide_eq_false h,Bool.false_or]at hk;have e45:(c == 45)=decide (c=45):=by by_cases h:c=45<;>simp[h]
  refine it (λh1=>?_) (λh1=>?_)<;>(try simp only[zB]at h1)
  ·refine it (λh2=>?_) (λh2=>?_)<;>(try simp only[zB]at h2)
   ·refine⟨true,rfl,?_⟩;rw[decide_eq_true ⟨by omega,h2⟩]at hk;exact hk
   ·refine⟨_,rfl,?_⟩;rw[decide_eq_false (λhh=>h2 hh.2),Bool.false_or]at hk;rw[e45];exact hk
  ·refine⟨_,rfl,?_⟩;rw[decide_eq_false (λhh=>by omega),Bool.false_or]at hk;rw[e45];exact hk
def ES(b:UInt8):(decide (97≤(b.toNat:Int)∧(b.toNat:Int)≤122)||decide (48≤(b.toNat:Int)∧(b.toNat:Int)≤57)||decide ((b.toNat:Int)=45))=MP b:=by
 unfold MP VA
 congr 1
 ·congr 1<;>(apply decide_eq_decide.2;omega)
 ·apply decide_eq_decide.2;omega
def z2s{s:B0}{pos:Nat}(hp:pos<s.size):s.data.toList[pos]? = some (s[pos]'hp):=by
 have:pos<s.data.toList.length:=by simpa using hp
 rw[List.getElem?_eq_getElem this];simp[ByteArray.getElem_eq_getElem_data]
def AY(h:St w0 E w)(und:Pr.underlying zc=some .string){s:B0}{most:Int}{k:Bool→PT}(hk:∀w',St w0 E w'→k (yp s.data.toList most) w'):L.call Pr Vw [.string s,I most] (.one (.one .bool)) k w:=by
 refine za (wB _ _) ?_;unfold pr;refine Hj und h λr w h=>?_;have hsz:s.data.toList.length=s.size:=by simp
 generalize hl:s.data.toList=l at hk hsz
 refine zT (λq y w=>∃pos:Nat,y=((if pos=0 then(45:Int)else((l[pos-1]?).map λb=>(b.toNat:Int)).getD 0),())∧q+pos=s.size∧(l.take pos).all MP=true∧(0<pos→(l.head?.map VA).getD false=true)∧St w0 (ItS r s pos::E) w) s.size
  ⟨0,rfl,rfl,rfl,by simp,h⟩ ?_
 clear h;rintro q y w ⟨pos,rfl,hq,hall,hhd,h⟩ again hag;dsimp only;have no:∀{w},yp l most=false→St w0 E w→∃x,Value.bool false=RT.val (.one (.one .bool)) x∧k x w:=λhs h=>⟨false,rfl,by have:=hk _ h;rw[hs]at this;exact this⟩;refine z0k h 0 rfl (λhe=>?_) (λhp c d w' ha hh hd h=>?_)
 ·have hpos:pos=l.length:=by omega
  subst hpos;rw[List.take_length]at hall;replace h:=zm h
  cases hgl:l.getLast? with
  | none=>
   have:l = []:=List.getLast?_eq_none_iff.1 hgl;have hs:yp l most=false:=by rw[this];rfl
   rw[if_pos (by rw[this];rfl)];exact itF rfl (no hs h)
  | some b=>
   have hne:l≠[]:=λe=>by subst e;cases hgl
   have hlen:l.length≠0:=λe=>hne (List.eq_nil_of_length_eq_zero e);have hx:l[l.length-1]? = some b:=by rw[←List.getLast?_eq_getElem?];exact hgl
   rw[if_neg hlen,hx];have hsb:yp l most=(decide (b.toNat≠45)&&decide ((l.length:Int)≤most)):=by
    unfold yp;rw[hall,hhd (by omega),hgl];simp
   simp only[Option.map_some,Option.getD_some];refine it (λh45=>?_) (λh45=>?_)<;>(try simp only[zB]at h45)
   ·refine⟨_,rfl,?_⟩;have:=hk _ h;rw[hsb,decide_eq_true (show b.toNat≠45 by omega),Bool.true_and,hsz]at this;exact this
   ·refine no ?_ h;rw[hsb,decide_eq_false (show ¬b.toNat≠45 by omega)];rfl
 ·have hx:l[pos]? = some (s[pos]'hp):=by rw[←hl];exact z2s hp
  generalize s[pos]'hp=b at hx ha hh;have hmem:b∈l:=List.mem_of_getElem? hx;have hno:MP b=false→yp l most=false:=λhs=>by
   unfold yp;have:l.all MP=false:=by
    rw[List.all_eq_false];exact⟨b,hmem,by simp[hs]⟩
   rw[this];rfl
  by_cases hb:b.toNat<128
  ·obtain⟨rfl,rfl⟩:=ha hb;have h:St w0 (ItS r s (pos+1)::E) w':=h;refine Zz (λz w=>(0<pos+1→(l.head?.map VA).getD false=true)∧MP b=true∧St w0 (ItS r s (pos+1)::E) w) (λk5 hk5=>?_) (λz w ⟨hhd,hs,h⟩=>?_)
   ·refine Ih ?_;rw[ES];refine it (λhs=>?_) (λhs=>?_)
    ·exact no (hno (by simpa using hs)) (zm h)
    ·have hs:MP b=true:=by simpa using hs
     refine it (λh0=>?_) (λh0=>?_)
     ·have h0:pos=0:=by simpa using h0
      subst h0;have hhead:l.head? = some b:=by rw[List.head?_eq_getElem?];exact hx
      have el:decide (97≤(b.toNat:Int)∧(b.toNat:Int)≤122)=VA b:=by unfold VA;apply decide_eq_decide.2;omega
      refine bL ?_;rw[el];refine it (λhlt=>?_) (λhlt=>?_)
      ·refine no ?_ (zm h);have hlt:VA b=false:=by simpa using hlt
       unfold yp;rw[hhead];simp[hlt]
      ·have hlt:VA b=true:=by simpa using hlt
       exact hk5 _ _ ⟨λ_=>by rw[hhead];exact hlt,hs,h⟩
     ·have h0:pos≠0:=by simpa using h0
      exact hk5 _ _ ⟨λ_=>hhd (by omega),hs,h⟩
   ·refine hag (q-1) _ w (by omega) ⟨pos+1,?_,by omega,?_,hhd,h⟩
    ·rw[if_neg (by omega),Nat.add_sub_cancel,hx];rfl
    ·rw[List.take_add_one,hx,List.all_append,hall];simp[hs]
  ·have hc:=hh (by omega);have hs:MP b=false:=by
    unfold MP VA;rw[decide_eq_false (show ¬(97≤b.toNat∧b.toNat≤122)by omega),decide_eq_false (show ¬(48≤b.toNat∧b.toNat≤57)by omega),decide_eq_false (show ¬b.toNat=45 by omega)];rfl
   refine Zz (λz w=>False) (λk5 hk5=>?_) (λz w hf=>hf.elim);refine Ih ?_;rw[decide_eq_false (show ¬(97≤c∧c≤122)by omega),decide_eq_false (show ¬(48≤c∧c≤57)by omega),decide_eq_false (show ¬c=45 by omega)];exact itT rfl (no (hno hs) (zm h))
def Nj(h:St w0 E w)(und:Pr.underlying zc=some .string){s:B0}{k:Bool→PT}(hk:∀w',St w0 E w'→k (yp s.data.toList 16) w'):L.call Pr XT [.string s] (.one (.one .bool)) k w:=by
 refine za (LQ _) ?_;unfold Tt;exact AY h und λw h=>⟨_,rfl,hk w h⟩
end Go.Proofs.YtimahgbgejngiaaGreatDoor

namespace Go.Proofs
open Go.Shelf
def Tryz.lays172_ren:Go.Shelf.Ren:=⟨fun | 172=>203 | 244=>261 | 245=>262 | 247=>296 | 279=>297 | 280=>298 | 281=>299 | 282=>300 | 287=>313 | 316=>314 | 171=>72 | 205=>315 | 321=>329 | 322=>330 | 243=>133 | 246=>208 | 283=>264 | 284=>265 | 285=>266 | 286=>267 | 129=>254 | 317=>301 | 318=>302 | 319=>303 | 320=>304 | 337=>316 | 338=>317 | n=>n,fun | 9=>9 | 3=>3 | 75=>263 | 76=>264 | 4=>4 | 5=>5 | 167=>449 | 37=>48 | 0=>0 | 85=>450 | 2=>2 | 168=>452 | 53=>412 | 175=>464 | 46=>349 | 210=>468 | 127=>369 | 145=>480 | 143=>478 | 21=>21 | 171=>421 | 173=>423 | 212=>456 | 51=>410 | 20=>20 | 213=>457 | 232=>481 | 233=>482 | 80=>82 | n=>n,fun | 15=>2 | 16=>3 | 17=>1 | 18=>4 | 19=>5 | n=>n⟩
def Tryz.lays172:Go.Proofs.Lays.n172 Tryz.prog Tryz.lays172_ren:={
 mixed:=by kernel_rfl
 f129:=Tryz.func254.trans cS
 f171:=Tryz.func72.trans cS
 f172:=Tryz.func203.trans cS
 f205:=Tryz.func315.trans cS
 f243:=Tryz.func133.trans cS
 f244:=Tryz.func261.trans cS
 f245:=Tryz.func262.trans cS
 f246:=Tryz.func208.trans cS
 f247:=Tryz.func296.trans cS
 f279:=Tryz.func297.trans cS
 f280:=Tryz.func298.trans cS
 f281:=Tryz.func299.trans cS
 f282:=Tryz.func300.trans cS
 f283:=Tryz.func264.trans cS
 f284:=Tryz.func265.trans cS
 f285:=Tryz.func266.trans cS
 f286:=Tryz.func267.trans cS
 f287:=Tryz.func313.trans cS
 f316:=Tryz.func314.trans cS
 f317:=Tryz.func301.trans cS
 f318:=Tryz.func302.trans cS
 f319:=Tryz.func303.trans cS
 f320:=Tryz.func304.trans cS
 f321:=Tryz.func329.trans cS
 f322:=Tryz.func330.trans cS
 f337:=Tryz.func316.trans cS
 f338:=Tryz.func317.trans cS
 t0:=Tryz.underlying0
 a0:=Tryz.isAgg0
 z0:=Tryz.sizeOf0
 v0:=Tryz.zeroValue0
 t2:=Tryz.underlying2
 a2:=Tryz.isAgg2
 z2:=Tryz.sizeOf2
 v2:=Tryz.zeroValue2
 t3:=Tryz.underlying3
 a3:=Tryz.isAgg3
 z3:=Tryz.sizeOf3
 v3:=Tryz.zeroValue3
 t4:=Tryz.underlying4
 a4:=Tryz.isAgg4
 z4:=Tryz.sizeOf4
 v4:=Tryz.zeroValue4
 t5:=Tryz.underlying5
 a5:=Tryz.isAgg5
 z5:=Tryz.sizeOf5
 v5:=Tryz.zeroValue5
 t9:=Tryz.underlying9
 a9:=Tryz.isAgg9
 z9:=Tryz.sizeOf9
 v9:=Tryz.zeroValue9
 t20:=Tryz.underlying20
 a20:=Tryz.isAgg20
 z20:=Tryz.sizeOf20
 v20:=Tryz.zeroValue20
 t21:=Tryz.underlying21
 a21:=Tryz.isAgg21
 z21:=Tryz.sizeOf21
 v21:=Tryz.zeroValue21
 t37:=Tryz.underlying48
 a37:=Tryz.isAgg48
 z37:=Tryz.sizeOf48
 v37:=Tryz.zeroValue48
 t46:=Tryz.underlying349
 a46:=Tryz.isAgg349
 z46:=Tryz.sizeOf349
 v46:=Tryz.zeroValue349
 t51:=Tryz.underlying410
 a51:=Tryz.isAgg410
 z51:=Tryz.sizeOf410
 v51:=Tryz.zeroValue410
 t53:=Tryz.underlying412
 a53:=Tryz.isAgg412
 z53:=Tryz.sizeOf412
 v53:=Tryz.zeroValue412
 t75:=Tryz.underlying263
 a75:=Tryz.isAgg263
 z75:=Tryz.sizeOf263
 v75:=Tryz.zeroValue263
 t76:=Tryz.underlying264
 a76:=Tryz.isAgg264
 z76:=Tryz.sizeOf264
 v76:=Tryz.zeroValue264
 t85:=Tryz.underlying450
 a85:=Tryz.isAgg450
 z85:=Tryz.sizeOf450
 v85:=Tryz.zeroValue450
 t127:=Tryz.underlying369
 a127:=Tryz.isAgg369
 z127:=Tryz.sizeOf369
 v127:=Tryz.zeroValue369
 t143:=Tryz.underlying478
 a143:=Tryz.isAgg478
 z143:=Tryz.sizeOf478
 v143:=Tryz.zeroValue478
 t145:=Tryz.underlying480
 a145:=Tryz.isAgg480
 z145:=Tryz.sizeOf480
 v145:=Tryz.zeroValue480
 t167:=Tryz.underlying449
 a167:=Tryz.isAgg449
 z167:=Tryz.sizeOf449
 v167:=Tryz.zeroValue449
 t168:=Tryz.underlying452
 a168:=Tryz.isAgg452
 z168:=Tryz.sizeOf452
 v168:=Tryz.zeroValue452
 t171:=Tryz.underlying421
 a171:=Tryz.isAgg421
 z171:=Tryz.sizeOf421
 v171:=Tryz.zeroValue421
 t173:=Tryz.underlying423
 a173:=Tryz.isAgg423
 z173:=Tryz.sizeOf423
 v173:=Tryz.zeroValue423
 t175:=Tryz.underlying464
 a175:=Tryz.isAgg464
 z175:=Tryz.sizeOf464
 v175:=Tryz.zeroValue464
 t210:=Tryz.underlying468
 a210:=Tryz.isAgg468
 z210:=Tryz.sizeOf468
 v210:=Tryz.zeroValue468
 t212:=Tryz.underlying456
 a212:=Tryz.isAgg456
 z212:=Tryz.sizeOf456
 v212:=Tryz.zeroValue456
 t213:=Tryz.underlying457
 a213:=Tryz.isAgg457
 z213:=Tryz.sizeOf457
 t232:=Tryz.underlying481
 a232:=Tryz.isAgg481
 z232:=Tryz.sizeOf481
 v232:=Tryz.zeroValue481
 t233:=Tryz.underlying482
 a233:=Tryz.isAgg482
 z233:=Tryz.sizeOf482
 v233:=Tryz.zeroValue482
 g15:=by kernel_rfl
 g16:=by kernel_rfl
 g17:=by kernel_rfl
 g18:=by kernel_rfl
 g19:=by kernel_rfl }
open Go.RowKit in
def Tryz.strconv_Atoi(s:B0)(n:Int)(hl:s.size≤18)(h:Lib.atoi s.data.toList=some n)(w:World) :
  Calls Tryz.prog 203 #[.string s] w λe w'=>e = .returned (.tuple #[.int .i64 n,.nilIface])∧∃t,w'=Lib.bytesWorld w 5 t:=Any.strconv_Atoi Tryz.lays172 s n hl h w
def Tryz.lays171_ren:Go.Shelf.Ren:=⟨fun | 171=>72 | 243=>133 | 246=>208 | 283=>264 | 284=>265 | 285=>266 | 286=>267 | 129=>254 | 317=>301 | 318=>302 | 319=>303 | 320=>304 | 337=>316 | 338=>317 | n=>n,fun | 3=>3 | 9=>9 | 2=>2 | 4=>4 | 171=>421 | 0=>0 | 53=>412 | 37=>48 | 5=>5 | 173=>423 | 212=>456 | 51=>410 | 20=>20 | 213=>457 | 46=>349 | 232=>481 | 233=>482 | n=>n,fun | 17=>1 | 18=>4 | 19=>5 | n=>n⟩
def Tryz.lays171:Go.Proofs.Lays.n171 Tryz.prog Tryz.lays171_ren:={
 mixed:=by kernel_rfl
 f129:=Tryz.func254.trans cS
 f171:=Tryz.func72.trans cS
 f243:=Tryz.func133.trans cS
 f246:=Tryz.func208.trans cS
 f283:=Tryz.func264.trans cS
 f284:=Tryz.func265.trans cS
 f285:=Tryz.func266.trans cS
 f286:=Tryz.func267.trans cS
 f317:=Tryz.func301.trans cS
 f318:=Tryz.func302.trans cS
 f319:=Tryz.func303.trans cS
 f320:=Tryz.func304.trans cS
 f337:=Tryz.func316.trans cS
 f338:=Tryz.func317.trans cS
 t0:=Tryz.underlying0
 a0:=Tryz.isAgg0
 z0:=Tryz.sizeOf0
 v0:=Tryz.zeroValue0
 t2:=Tryz.underlying2
 a2:=Tryz.isAgg2
 z2:=Tryz.sizeOf2
 v2:=Tryz.zeroValue2
 t3:=Tryz.underlying3
 a3:=Tryz.isAgg3
 z3:=Tryz.sizeOf3
 v3:=Tryz.zeroValue3
 t4:=Tryz.underlying4
 a4:=Tryz.isAgg4
 z4:=Tryz.sizeOf4
 v4:=Tryz.zeroValue4
 t5:=Tryz.underlying5
 a5:=Tryz.isAgg5
 z5:=Tryz.sizeOf5
 v5:=Tryz.zeroValue5
 t9:=Tryz.underlying9
 a9:=Tryz.isAgg9
 z9:=Tryz.sizeOf9
 v9:=Tryz.zeroValue9
 t20:=Tryz.underlying20
 a20:=Tryz.isAgg20
 z20:=Tryz.sizeOf20
 v20:=Tryz.zeroValue20
 t37:=Tryz.underlying48
 a37:=Tryz.isAgg48
 z37:=Tryz.sizeOf48
 v37:=Tryz.zeroValue48
 t46:=Tryz.underlying349
 a46:=Tryz.isAgg349
 z46:=Tryz.sizeOf349
 v46:=Tryz.zeroValue349
 t51:=Tryz.underlying410
 a51:=Tryz.isAgg410
 z51:=Tryz.sizeOf410
 v51:=Tryz.zeroValue410
 t53:=Tryz.underlying412
 a53:=Tryz.isAgg412
 z53:=Tryz.sizeOf412
 v53:=Tryz.zeroValue412
 t171:=Tryz.underlying421
 a171:=Tryz.isAgg421
 z171:=Tryz.sizeOf421
 v171:=Tryz.zeroValue421
 t173:=Tryz.underlying423
 a173:=Tryz.isAgg423
 z173:=Tryz.sizeOf423
 v173:=Tryz.zeroValue423
 t212:=Tryz.underlying456
 a212:=Tryz.isAgg456
 z212:=Tryz.sizeOf456
 v212:=Tryz.zeroValue456
 t213:=Tryz.underlying457
 a213:=Tryz.isAgg457
 z213:=Tryz.sizeOf457
 t232:=Tryz.underlying481
 a232:=Tryz.isAgg481
 z232:=Tryz.sizeOf481
 v232:=Tryz.zeroValue481
 t233:=Tryz.underlying482
 a233:=Tryz.isAgg482
 z233:=Tryz.sizeOf482
 v233:=Tryz.zeroValue482
 g17:=by kernel_rfl
 g18:=by kernel_rfl
 g19:=by kernel_rfl }
open Go.RowKit Go.Sort Go.Lib in
def Tryz.strconv_Itoa_small(i:Nat)(hi:i<100)(w:World) :
  Calls Tryz.prog 72 #[.int .i64 i] w λe w'=>e = .returned (.string ⟨(Lib.decDigits i).toArray⟩)∧w'=w:=Any.strconv_Itoa_small Tryz.lays171 i hi w
def Tryz.lays148_ren:Go.Shelf.Ren:=⟨fun | 148=>202 | 222=>259 | 223=>260 | 269=>295 | n=>n,fun | 9=>9 | 3=>3 | 4=>4 | 5=>5 | 146=>447 | 51=>410 | 46=>349 | n=>n,fun | n=>n⟩
def Tryz.lays148:Go.Proofs.Lays.n148 Tryz.prog Tryz.lays148_ren:={
 mixed:=by kernel_rfl
 f148:=Tryz.func202.trans cS
 f222:=Tryz.func259.trans cS
 f223:=Tryz.func260.trans cS
 f269:=Tryz.func295.trans cS
 t3:=Tryz.underlying3
 a3:=Tryz.isAgg3
 z3:=Tryz.sizeOf3
 v3:=Tryz.zeroValue3
 t4:=Tryz.underlying4
 a4:=Tryz.isAgg4
 z4:=Tryz.sizeOf4
 v4:=Tryz.zeroValue4
 t5:=Tryz.underlying5
 a5:=Tryz.isAgg5
 z5:=Tryz.sizeOf5
 v5:=Tryz.zeroValue5
 t9:=Tryz.underlying9
 a9:=Tryz.isAgg9
 z9:=Tryz.sizeOf9
 v9:=Tryz.zeroValue9
 t46:=Tryz.underlying349
 a46:=Tryz.isAgg349
 z46:=Tryz.sizeOf349
 v46:=Tryz.zeroValue349
 t51:=Tryz.underlying410
 a51:=Tryz.isAgg410
 z51:=Tryz.sizeOf410
 v51:=Tryz.zeroValue410
 t146:=Tryz.underlying447
 a146:=Tryz.isAgg447
 z146:=Tryz.sizeOf447
 v146:=Tryz.zeroValue447 }
open Go.RowKit Go.Lib in
def Tryz.strings_LastIndex_one(s sub:B0)(h1:sub.size=1)(hs:s.size<4611686018427387904)(w:World) :
  Calls Tryz.prog 202 #[.string s,.string sub] w λe w'=>e = .returned (.int .i64 (Lib.lastIndexByte s ((sub[0]'(by omega)).toNat:Int)))∧w'=w:=Any.strings_LastIndex_one Tryz.lays148 s sub h1 hs w
end Go.Proofs
namespace Go.Proofs.YtimahgbgejngiaaGreatDoor
open Go.Dm
def Vj{P:Program}{f:FuncId}{args:List Value}{r:RT}{k:r.T→PT}{w:World}{R:Ending→World→Prop}(hc:Calls P f args.toArray w R)(hk:∀e w',R e w'→∃x,e = .returned (r.val x)∧k x w'):L.call P f args r k w:=Calls.mono hc hk
def _root_.Go.Dm.St.bytes{w0 w:World}{E:List Seg}(h:St w0 E w)(e:TypeId)(s:B0):St w0 E (Lib.bytesWorld w e s):=by
 refine⟨by rw[Lib.bytesWorld_size];have:=h.size;omega,λb hb=>?_,h.os,h.out,h.tape,λx hx=>?_,h.nd,λ_ _ _ _=>rfl⟩
 ·rw[Lib.bytesWorld_at_old w e s b (Nat.lt_of_lt_of_le hb h.size)];exact h.old b hb
 ·have:=h.own x hx;rw[Lib.bytesWorld_at_old w e s _ (Array.getElem?_eq_some_iff.1 this.2).1];exact this
attribute [local irreducible] L.load L.store L.chk L.new L.nonnil L.guard L.ite L.draw L.idx L.sem L.semR L.semU L.chkSem L.next L.call L.callV L.join L.alts L.loop L.begin L.endRound L.range
variable {w0 w:World}{E:List Seg}
def wa(g:Nat):B0:=⟨(Lib.decDigits g).toArray⟩
def qh(c:B0)(g:Nat):B0:=(c++Qa)++wa g
def gC(c:B0)(g:Nat):(qh c g).data.toList=c.data.toList++45::Lib.decDigits g:=by
 simp[qh,wa,Qa,ByteArray.data_append]
def WV{a b:B0}(h:a.data.toList=b.data.toList):a=b:=ByteArray.ext (Array.toList_inj.1 h)
def data_extract(a:B0)(i j:Nat):(a.extract i j).data.toList=(a.data.toList.drop i).take (j-i):=by
 simp[ByteArray.data_extract,Array.toList_extract,List.extract]
def Xn(a:B0):a.data.toList.length=a.size:=by simp
def ey(g:Nat):List UInt8:=if g<10 then [UInt8.ofNat (48+g)]else [UInt8.ofNat (48+g/10),UInt8.ofNat (48+g%10)]
def z38{g:Nat}(h:g<100):Lib.decDigits g=ey g:=by
 unfold ey;split
 ·rename_i h1;exact Lib.decDigits_one h1
 ·rename_i h1;exact Lib.decDigits_two h1 h
def eu:∀g:Fin 100,(∀b∈ey g,48≤b.toNat∧b.toNat≤57)∧(ey g).length≤2∧1≤(ey g).length∧Lib.atoi (ey g)=some (g:Int):=by decide
def ao{g:Nat}(h:g<100):(∀b∈Lib.decDigits g,48≤b.toNat∧b.toNat≤57)∧(Lib.decDigits g).length≤2∧1≤(Lib.decDigits g).length∧Lib.atoi (Lib.decDigits g)=some (g:Int):=by
 rw[z38 h];exact eu ⟨g,h⟩
def HJ(c:B0){g:Nat}(hg:g<100):Lib.lastIndexByte (qh c g) 45=c.size:=by
 have hd:=gC c g;have hc:=Xn c;have hs:=Xn (qh c g);rw[hd]at hs;simp only[List.length_append,List.length_cons]at hs;have at0:(qh c g).data[c.size]! = 45:=by
  rw[←Array.getElem!_toList,hd,←hc];simp
 have far:∀i,c.size<i→i<(qh c g).size→((qh c g).data[i]!).toNat≠45:=by
  intro i h1 h2;rw[←Array.getElem!_toList,hd];have hmem:(c.data.toList++45::Lib.decDigits g)[i]! ∈Lib.decDigits g:=by
   rw[List.getElem!_eq_getElem?_getD,List.getElem?_append_right (by omega),hc];obtain⟨m,hm⟩:∃m,i-c.size=m+1:=⟨i-c.size-1,by omega⟩;rw[hm,List.getElem?_cons_succ,List.getElem?_eq_getElem (by omega)];simp
  have:=(ao hg).1 _ hmem;omega
 rcases Lib.lastIdx_spec (qh c g) 45 (qh c g).size with ⟨-,h⟩ | ⟨i,h1,h2,h3,h4⟩
 ·exact absurd (by rw[at0];rfl) (h c.size (by omega))
 ·show Lib.lastIdx _ _ _=_;rw[h2];have:¬c.size<i:=λhlt=>far i hlt h1 (by omega);have:¬i<c.size:=λhlt=>h4 c.size hlt (by omega) (by rw[at0];rfl);omega
def Sf(c:B0)(g:Nat):(qh c g).extract 0 c.size=c:=WV (by rw[data_extract,gC,←Xn c];simp)
def iM(l d:List UInt8):(l++45::d).drop (l.length+1)=d:=by
 rw[show l++45::d=(l++[45])++d by simp];exact List.drop_left' (by simp)
def Hf(c:B0)(g:Nat):(qh c g).extract (c.size+1) (qh c g).size=wa g:=WV (by
 rw[data_extract,gC,←Xn c,iM,←Xn (qh c g),gC];refine List.take_of_length_le ?_;simp only[List.length_append,List.length_cons];omega)
def gq(c:B0){g:Nat}(hg:g<100):(qh c g).size≤c.size+3∧c.size+2≤(qh c g).size:=by
 have hs:=Xn (qh c g);rw[gC]at hs;simp only[List.length_append,List.length_cons,Xn]at hs;have:=ao hg;omega
def vP{s:B0}{m:Int}(h:yp s.data.toList m=true):(s.size:Int)≤m:=by
 unfold yp at h;simp only[Bool.and_eq_true,decide_eq_true_eq,Xn]at h;exact h.2
def dc{s:B0}(hs:s.size<4611686018427387904){k:Int→PT}(hk:k (Lib.lastIndexByte s 45) w):L.call Pr kE [.string s,.string Qa] (.one (.one (.int .i64))) k w:=
 Vj (Tryz.strings_LastIndex_one s Qa rfl hs w) λe w' ⟨he,hw⟩=>⟨_,he,by subst hw;exact hk⟩
def z3N{g:Nat}(hg:g<100){k:B0→PT}(hk:k (wa g) w):L.call Pr Xr [I g] (.one (.one .str)) k w:=
 Vj (Tryz.strconv_Itoa_small g hg w) λe w' ⟨he,hw⟩=>⟨_,he,by subst hw;exact hk⟩
def z3P(h:St w0 E w){g:Nat}(hg:g<100){k:Int×Option (TypeId×Value)×Unit→PT}(hk:∀w',St w0 E w'→k ((g:Int),none,()) w'):L.call Pr FA [.string (wa g)] (.tup [.one (.int .i64),.one .iface]) k w:=by
 have hf:=ao hg;have hsz:(wa g).size≤18:=by rw[←Xn];simp only[wa];omega
 refine Vj (Tryz.strconv_Atoi (wa g) g hsz (by simpa [wa]using hf.2.2.2) w) λe w' ⟨he,t,hw⟩=>⟨((g:Int),none,()),he,hk w' ?_⟩;subst hw;exact h.bytes 5 t
def z2g(h:St w0 E w)(und:Pr.underlying zc=some .string){s:B0}{k:Bool→PT}(hk:∀w',St w0 E w'→k (yp s.data.toList 8) w'):L.call Pr JK [.string s] (.one (.one .bool)) k w:=by
 refine za (bV _) ?_;unfold dk;exact AY h und λw h=>⟨_,rfl,hk w h⟩
def z2h(h:St w0 E w)(und:Pr.underlying zc=some .string){c:B0}{g:Nat}(hc:yp c.data.toList 16=true)(h1:1≤g)(hg:g<100){k:B0→PT}(hk:∀w',St w0 E w'→k (qh c g) w'):L.call Pr Og [.string c,I g] (.one (.one .str)) k w:=by
 refine za (bW _ _) ?_;unfold dm;refine Nj h und λw h=>?_;rw[hc];have hs:=vP hc;have hr:=gq c hg;refine itF rfl (itF (decide_eq_false (by omega)) (itF (decide_eq_false (by omega)) ?_));refine gd ?_ ?_
 ·simp only[Qa,Ue];show((c.size+1:Nat):Int)≤_;omega
 refine z3N hg ?_;refine gd ?_ ⟨_,rfl,hk w h⟩;have:((c++Qa).size+(wa g).size)=(qh c g).size:=by unfold qh;rw[ByteArray.size_append (a:=c++Qa)]
 rw[this];simp only[Ue];omega
def Dy(h:St w0 E w)(und:Pr.underlying zc=some .string){c:B0}{g:Nat}(hc:yp c.data.toList 16=true)(h1:1≤g)(hg:g<100){k:B0×Int×Bool×Unit→PT}(hk:∀w',St w0 E w'→k (c,(g:Int),true,()) w') :
  L.call Pr xX [.string (qh c g)] (.tup [.one .str,.one (.int .i64),.one .bool]) k w:=by
 refine za (pE _) ?_;unfold OV;have hs:=vP hc;have hr:=gq c hg;refine dc (by omega) ?_;rw[HJ c hg];have e1:Wi ((c.size:Int)+1)=((c.size+1:Nat):Int):=by rw[wr (by omega) (by omega)];simp
 rw[e1];refine itF (decide_eq_false (by omega)) (gd (by omega) ?_);rw[Int.toNat_natCast,Int.toNat_natCast,Hf];refine z3P h hg λw h=>itF rfl (gd (by omega) ?_);have e2:(qh c g).extract (Int.toNat 0) (Int.toNat (c.size:Int))=c:=Sf c g;rw[e2];refine z2h h und hc h1 hg λw h=>?_;refine itF (by rw[JW];simp) (gd (by omega) ⟨(c,(g:Int),true,()),rfl,hk w h⟩)
def IE{k:B0×Int×Bool×Unit→PT}(hk:k (s_,0,false,()) w):L.call Pr xX [.string s_] (.tup [.one .str,.one (.int .i64),.one .bool]) k w:=by
 refine za (pE _) ?_;unfold OV;refine dc (by decide) ?_;exact itT rfl ⟨_,rfl,hk⟩
end Go.Proofs.YtimahgbgejngiaaGreatDoor

namespace Go.Proofs
open Go.Shelf
def Tryz.lays190_ren:Go.Shelf.Ren:=⟨fun | 190=>276 | 125=>186 | 258=>309 | 128=>253 | 129=>254 | 302=>320 | 303=>321 | 304=>322 | 305=>323 | 306=>324 | 307=>325 | 308=>326 | 309=>327 | 310=>328 | 333=>332 | 329=>290 | 330=>291 | 334=>333 | 335=>334 | 336=>335 | 344=>337 | n=>n,fun | 31=>40 | 9=>9 | 3=>3 | 46=>349 | 0=>0 | 51=>410 | 53=>412 | 4=>4 | 183=>403 | 182=>402 | 131=>290 | 5=>5 | 218=>442 | 222=>416 | 228=>462 | 229=>214 | n=>n,fun | n=>n⟩
def Tryz.lays190:Go.Proofs.Lays.n190 Tryz.prog Tryz.lays190_ren:={
 mixed:=by kernel_rfl
 f125:=Tryz.func186.trans cS
 f128:=Tryz.func253.trans cS
 f129:=Tryz.func254.trans cS
 f190:=Tryz.func276.trans cS
 f258:=Tryz.func309.trans cS
 f302:=Tryz.func320.trans cS
 f303:=Tryz.func321.trans cS
 f304:=Tryz.func322.trans cS
 f305:=Tryz.func323.trans cS
 f306:=Tryz.func324.trans cS
 f307:=Tryz.func325.trans cS
 f308:=Tryz.func326.trans cS
 f309:=Tryz.func327.trans cS
 f310:=Tryz.func328.trans cS
 f329:=Tryz.func290.trans cS
 f330:=Tryz.func291.trans cS
 f333:=Tryz.func332.trans cS
 f334:=Tryz.func333.trans cS
 f335:=Tryz.func334.trans cS
 f336:=Tryz.func335.trans cS
 f344:=Tryz.func337.trans cS
 t0:=Tryz.underlying0
 a0:=Tryz.isAgg0
 z0:=Tryz.sizeOf0
 v0:=Tryz.zeroValue0
 t3:=Tryz.underlying3
 a3:=Tryz.isAgg3
 z3:=Tryz.sizeOf3
 v3:=Tryz.zeroValue3
 t4:=Tryz.underlying4
 a4:=Tryz.isAgg4
 z4:=Tryz.sizeOf4
 v4:=Tryz.zeroValue4
 t5:=Tryz.underlying5
 a5:=Tryz.isAgg5
 z5:=Tryz.sizeOf5
 v5:=Tryz.zeroValue5
 t9:=Tryz.underlying9
 a9:=Tryz.isAgg9
 z9:=Tryz.sizeOf9
 v9:=Tryz.zeroValue9
 t31:=Tryz.underlying40
 a31:=Tryz.isAgg40
 z31:=Tryz.sizeOf40
 v31:=Tryz.zeroValue40
 t46:=Tryz.underlying349
 a46:=Tryz.isAgg349
 z46:=Tryz.sizeOf349
 v46:=Tryz.zeroValue349
 t51:=Tryz.underlying410
 a51:=Tryz.isAgg410
 z51:=Tryz.sizeOf410
 v51:=Tryz.zeroValue410
 t53:=Tryz.underlying412
 a53:=Tryz.isAgg412
 z53:=Tryz.sizeOf412
 v53:=Tryz.zeroValue412
 t131:=Tryz.underlying290
 a131:=Tryz.isAgg290
 z131:=Tryz.sizeOf290
 v131:=Tryz.zeroValue290
 t182:=Tryz.underlying402
 a182:=Tryz.isAgg402
 z182:=Tryz.sizeOf402
 v182:=Tryz.zeroValue402
 t183:=Tryz.underlying403
 a183:=Tryz.isAgg403
 z183:=Tryz.sizeOf403
 v183:=Tryz.zeroValue403
 t218:=Tryz.underlying442
 a218:=Tryz.isAgg442
 z218:=Tryz.sizeOf442
 v218:=Tryz.zeroValue442
 t222:=Tryz.underlying416
 a222:=Tryz.isAgg416
 z222:=Tryz.sizeOf416
 v222:=Tryz.zeroValue416
 t228:=Tryz.underlying462
 a228:=Tryz.isAgg462
 z228:=Tryz.sizeOf462
 v228:=Tryz.zeroValue462
 t229:=Tryz.underlying214
 a229:=Tryz.isAgg214
 z229:=Tryz.sizeOf214
 v229:=Tryz.zeroValue214 }
end Go.Proofs
namespace Go.Proofs.YtimahgbgejngiaaGreatDoor
open Go.Dm
attribute [local irreducible] L.load L.store L.chk L.new L.nonnil L.guard L.ite L.draw L.idx L.sem L.semR L.semU L.chkSem L.next L.call L.callV L.join L.alts L.loop L.begin L.endRound L.range
variable {w0 w:World}{E:List Seg}
def eS(x:B0):List Value:=[.string x]
def yh:Enc eS 1:=⟨λ_=>rfl,λ_=>rfl,by decide⟩
def elS:El Pr zj zc 1 16 (.string s_):=gB (by kernel_rfl) (by kernel_rfl) rfl (by decide)
abbrev bl(x:B0):List UInt8:=x.data.toList
def ble(a b:B0):Bool:=decide (bl a≤bl b)
def WW(a b c:B0)(h1:ble a b=true)(h2:ble b c=true):ble a c=true:=by
 unfold ble at *;simp only[decide_eq_true_eq]at *;exact List.le_trans h1 h2
def WX(a b:B0):(ble a b||ble b a)=true:=by
 unfold ble;simp only[Bool.or_eq_true,decide_eq_true_eq];exact List.le_total ..
def iV{a b:B0}(h1:ble a b=true)(h2:ble b a=true):a=b:=by
 unfold ble at *;simp only[decide_eq_true_eq]at *;exact An (List.le_antisymm h1 h2)
def sS(x:B0):List B0→List B0
 | []=>[x]
 | y::l=>if ble x y=true then x::y::l else y::sS x l
def yZ:List B0→List B0
 | []=>[]
 | x::l=>sS x (yZ l)
def TW(x:B0):∀l:List B0,(sS x l).Perm (x::l)
 | []=>.refl _
 | y::l=>by
  unfold sS;split
  ·exact .refl _
  ·exact((TW x l).cons y).trans (.swap x y l)
def vN:∀l:List B0,(yZ l).Perm l
 | []=>.refl _
 | x::l=>(TW x (yZ l)).trans ((vN l).cons x)
def Ap(x:B0):∀{l:List B0},l.Pairwise (λa b=>ble a b=true)→(sS x l).Pairwise λa b=>ble a b=true
 | [],_=>List.pairwise_singleton ..
 | y::l,h=>by
  unfold sS;split
  ·rename_i hxy;refine List.Pairwise.cons (λz hz=>?_) h;rcases List.mem_cons.1 hz with rfl | hz
   ·exact hxy
   ·exact WW _ _ _ hxy ((List.pairwise_cons.1 h).1 z hz)
  ·rename_i hxy;have hyx:ble y x=true:=by
    have:=WX x y;simp only[Bool.or_eq_true]at this;rcases this with h | h
    ·exact absurd h hxy
    ·exact h
   refine List.Pairwise.cons (λz hz=>?_) (Ap x (List.pairwise_cons.1 h).2);rcases List.mem_cons.1 ((TW x l).mem_iff.1 hz)with rfl | hz
   ·exact hyx
   ·exact(List.pairwise_cons.1 h).1 z hz
def DH:∀l:List B0,(yZ l).Pairwise λa b=>ble a b=true
 | []=>.nil
 | x::l=>Ap x (DH l)
def DI{l m:List B0}(h:l.Perm m)(hm:m.Pairwise λa b=>ble a b=true):yZ l=m:=
 List.Perm.eq_of_pairwise (λa b _ _ h1 h2=>iV h1 h2) (DH l) hm ((vN l).trans h)
def EP{l m:List B0}(h:l.Perm m):yZ l=yZ m:=DI (h.trans (vN m).symm) (DH m)
def jp(l:List B0):(yZ l).length=l.length:=(vN l).length_eq
def vO{l:List B0}{x:B0}:x∈yZ l↔x∈l:=(vN l).mem_iff
def sR(x:B0):yZ [x] = [x]:=DI (.refl _) (List.pairwise_singleton ..)
def eL(x:List UInt8):List Value:=[Go.Proofs.encStr x]
def z0G:Enc eL 1:=⟨λ_=>rfl,λ_=>rfl,by decide⟩
def iD(l:List B0):fl eS l=fl eL (l.map bl):=by
 induction l with
 | nil=>rfl
 | cons x l ih=>
  simp only[fl,List.flatMap_cons,List.map_cons]at *
  rw[ih];rfl
def EQ(l:List B0):(yZ l).map bl=(l.map bl).mergeSort λx y=>decide (x≤y):=by
 have e:l.mergeSort ble=yZ l:=by
  refine(DI (List.mergeSort_perm l ble).symm ?_).symm;exact List.pairwise_mergeSort WW WX l
 rw[←e];exact List.map_mergeSort λa _ b _=>rfl
def sF(h:St w0 E w)(i:Nat){s:Seg}(hi:nth E i=some s){v:Sl}{l:List B0}(hr:Rw eS zc 1 v l s)(hn:l.length<1000000000){k:Unit→PT}(hk:∀s' w',Rw eS zc 1 v (yZ l) s'→St w0 (zd E i s') w'→k () w') :
  L.call Pr JB [.slice v.a v.len v.cap] (.tup []) k w:=by
 have hr:Rw eL zc 1 v (l.map bl) s:=by unfold Rw at *;rwa [←iD]
 refine Ao (encv:=Go.Proofs.encStr) (λ_=>rfl) z0G ((yZ l).map bl) (by rw[List.length_map,List.length_map,jp]) (λg off cap w h1 h2=>?_) (λp cap w=>Any.slices_Sort_string_none Tryz.lays190 p cap w) h i hi hr (λs' w' hr' h=>hk s' w' (by unfold Rw at *;rwa [iD]) h);have:=Any.slices_Sort_string Tryz.lays190 g off cap (l.map bl) w h1 h2 (by rw[List.length_map];omega);rw[EQ];exact this
def LA{a1 a2:Seg}{F:List Seg}{fv:FV}{keys:List B0}(hY:nZ Pr w0 [a1,a2] fv.val keys Value.string)(h:St w0 (a1::a2::F) w)(hn:keys.length<1000000000){k:Sl→PT}
  (hk:∀seen v s w',seen.Perm keys→Rw eS zc 1 v seen s→St w0 (s::a1::a2::F) w'→k v w'):L.call Pr jj [.slice none 0 0,fv.val] (.one (.one .slice)) k w:=by
 refine za (vy ⟨none,0,0⟩ fv) ?_;unfold xS;refine nw h ?_;clear h;intro b1 w h;have h:=ZL (ZL h);have h:St w0 ([a1,a2]++[Cl b1 zj [SlV ⟨none,0,0⟩]]::[]::F) w:=h.eq (by simp);refine Wo (l:=.str) (arg:=λx=>x) (A:=[a1,a2]) (keys:=keys) hY h (λseen G=>∃v s,G = [Cl b1 zj [SlV v]]::s::F∧Rw eS zc 1 v seen s) (λj G=>False) ⟨_,_,rfl,Rw.nil⟩ ?_ ?_ ?_
 ·rintro seen x G X w lv lp d R hm ⟨v,s,rfl,hr⟩ h hN hE;have h:St w0 ([Rec lv lp .busy none]::[DfM d]::a1::a2::[Cl b1 zj [SlV v]]::s::(F++X)) w:=h
  (refine ldC h ?_)
  refine nw h ?_;clear h;intro b8 w h;refine Rw.app yh elS h 5 rfl hr x rfl (by omega) (by omega) λv' s' w hr' h=>?_
  (dsimp only[zd,List.cons_append,List.nil_append]at h;refine stC h ?_;clear h;intro w h;dsimp only[zJ,zd]at h)
  exact hN _ w ⟨v',s',rfl,hr'⟩ h
 ·rintro d seen G w hp ⟨v,s,rfl,hr⟩ h;have h:St w0 ([DfM d]::a1::a2::[Cl b1 zj [SlV v]]::s::F) w:=h;refine vC ?_
  (refine ldC h ?_)
  (first | refine OF h ?_ | refine OE h ?_ | refine OD h ?_ | refine OC h ?_ | refine OB h ?_ | refine OA h ?_ | refine Oz h ?_ | refine Oy h ?_ | refine Ox h ?_ | refine Ow h ?_ | refine uv h ?_ | refine uu h ?_);clear h;intro w h
  refine⟨v,rfl,hk seen v s w hp hr ?_⟩;have h:=YA (yO (yO h));have h:=VP h;exact h
 ·rintro d j G w hf;exact hf.elim
def VB{a1 a2:Seg}{F:List Seg}{fv:FV}{keys:List B0}(hY:nZ Pr w0 [a1,a2] fv.val keys Value.string)(h:St w0 (a1::a2::F) w)(hn:keys.length<1000000000){k:Sl→PT}
  (hk:∀v s w',Rw eS zc 1 v (yZ keys) s→St w0 (s::a2::F) w'→k v w'):L.call Pr ZW [fv.val] (.one (.one .slice)) k w:=by
 refine za (GW fv) ?_;unfold vq;refine za (Ge fv) ?_;unfold Uy;refine LA hY h hn λseen v s w hp hr h=>⟨v,rfl,?_⟩;refine sF h 0 rfl hr (by rw[hp.length_eq];exact hn) λs w hr h=>?_;rw[EP hp]at hr;exact⟨v,rfl,hk v s w hr (Yf h)⟩
def Tf(h:St w0 E w){v:Sl}{l:List B0}(r:Rd w eS v l)(hn:l.length<1000000000)(h0:v.a=none→l = []){k:Sl→PT}
  (hk:∀v' s' w',Rw eS zc 1 v' l s'→(v'.a=none↔v.a=none)→St w0 (s'::E) w'→k v' w'):L.call Pr ZG [SlV v] (.one (.one .slice)) k w:=by
 refine za (qt v) ?_;unfold Jp;exact Qp (K:=λv w'=>∃x,v=RT.val (.one (.one .slice)) x∧k x w') yh elS h r (by omega) (by omega) h0 λv' s' w' hr hi h=>⟨v',rfl,hk v' s' w' hr hi h⟩
def Rw.nil0{α:Type}{enc:α→List Value}{e size:Nat}{v:Sl}{l:List α}{s:Seg}(hE:Enc enc size)(hr:Rw enc e size v l s):v.a=none→l = []:=by
 intro h0;have hl:=Rw.len hE hr;unfold Rw at hr;generalize fl enc l=xs at hr
 cases hr with
 | nil=>exact List.eq_nil_of_length_eq_zero hl.symm
 | mk=>cases h0
def unS:Value→B0
 | .string x=>x
 | _=>s_
def QG:Pr.underlying zc=some .string:=by kernel_rfl
def Vk(h:St w0 E w){a b n:Int}{k:Bool→PT}(hk:∀w',St w0 E w'→k (decide (a≤n∧n≤b)) w'):L.call Pr yu [.agg #[I a,I b],I n] (.one (.one .bool)) k w:=by
 refine za (fL (a,b,()) n) ?_;unfold ku;refine nw h ?_;clear h;intro b1 w h
 (dsimp only[zd,List.cons_append,List.nil_append]at h;refine ldC h ?_)
 refine it (λh1=>?_) (λh1=>?_)<;>(try simp only[zB]at h1)
 ·(refine ldC h ?_)
  refine⟨_,rfl,?_⟩;have:=hk w (zm h);have e:decide (a≤n∧n≤b)=decide (n≤b):=decide_eq_decide.2 ⟨λh=>h.2,λh=>⟨by omega,h⟩⟩;rw[e]at this;exact this
 ·refine⟨_,rfl,?_⟩;have:=hk w (zm h);rw[decide_eq_false (λh=>h1 (by omega))]at this;exact this
abbrev Cfg:=HT [.str,.int .i64,.int .i64,.int .i64,.int .i64,.int .i64]
abbrev Cfg.cells(c:Cfg):List Value:=[.string c.1,I c.2.1,I c.2.2.1,I c.2.2.2.1,I c.2.2.2.2.1,I c.2.2.2.2.2.1]
def OT(c:Cfg):Bool:=decide (0≤c.2.1∧c.2.1≤255)&&(decide (1≤c.2.2.1∧c.2.2.1≤8)&&(decide (1≤c.2.2.2.2.1∧c.2.2.2.2.1≤10)&&(decide (0≤c.2.2.2.1∧c.2.2.2.1≤c.2.2.2.2.1)&&decide (0≤c.2.2.2.2.2.1∧c.2.2.2.2.2.1≤30))))
def XJ(c:Cfg):Int:=if yp c.1.data.toList 16=true then(if OT c=true then 0 else 2)else 1
def AX(h:St w0 E w){c:Cfg}{k:Int→PT}(hk:∀w',St w0 E w'→k (XJ c) w'):L.call Pr Za [.agg (Cfg.cells c).toArray] (.one (.one (.int .i64))) k w:=by
 obtain⟨nm,im,co,mi,ma,gr,⟨⟩⟩:=c;refine za (wp (nm,im,co,mi,ma,gr,())) ?_;unfold pi;refine nw h ?_;clear h;intro b1 w h
 (dsimp only[zd,List.cons_append,List.nil_append]at h;refine ldC h ?_)
 refine Nj h QG λw h=>?_;refine it (λhn=>?_) (λhn=>?_)<;>(try simp only[zB]at hn)
 ·refine⟨_,rfl,?_⟩;have:=hk w (zm h);have e:XJ (nm,im,co,mi,ma,gr,())=1:=if_neg (by simp[hn]);rw[e]at this;exact this
 refine Zz (λz w=>z=(!OT (nm,im,co,mi,ma,gr,()),())∧St w0 ([Cl b1 zA (Cfg.cells (nm,im,co,mi,ma,gr,()))]::E) w) (λk4 hk4=>?_) (λz w ⟨hz,h⟩=>?_)
 ·(refine ldC h ?_)
  refine Vk h λw h=>?_;refine it (λh1=>hk4 _ w ⟨by unfold OT;simp only[Bool.not_eq_true']at h1;simp only[h1,Bool.false_and],h⟩) (λh1=>?_);simp only[Bool.not_eq_false']at h1
  (refine ldC h ?_)
  refine Vk h λw h=>?_;refine it (λh2=>hk4 _ w ⟨by unfold OT;simp only[Bool.not_eq_true']at h2;simp only[h1,h2,Bool.false_and,Bool.and_false],h⟩) (λh2=>?_);simp only[Bool.not_eq_false']at h2
  (refine ldC h ?_)
  refine Vk h λw h=>?_;refine it (λh3=>hk4 _ w ⟨by unfold OT;simp only[Bool.not_eq_true']at h3;simp only[h1,h2,h3,Bool.false_and,Bool.and_false],h⟩) (λh3=>?_);simp only[Bool.not_eq_false']at h3
  (refine ldC h ?_;refine ldC h ?_)
  refine Vk h λw h=>?_;refine it (λh4=>hk4 _ w ⟨by unfold OT;simp only[Bool.not_eq_true']at h4;simp only[h1,h2,h3,h4,Bool.false_and,Bool.and_false],h⟩) (λh4=>?_);simp only[Bool.not_eq_false']at h4
  (refine ldC h ?_)
  refine Vk h λw h=>?_;exact hk4 _ w ⟨by unfold OT;simp only[h1,h2,h3,h4,Bool.true_and],h⟩
 ·subst hz;dsimp only;have hn:yp nm.data.toList 16=true:=by simpa using hn
  refine it (λhc=>?_) (λhc=>?_)<;>(try simp only[zB]at hc)
  ·refine⟨_,rfl,?_⟩;have:=hk w (zm h);have e:XJ (nm,im,co,mi,ma,gr,())=2:=by unfold XJ;rw[if_pos hn,if_neg (by simp[hc])]
   rw[e]at this;exact this
  ·refine⟨_,rfl,?_⟩;have:=hk w (zm h);have e:XJ (nm,im,co,mi,ma,gr,())=0:=by unfold XJ;rw[if_pos hn,if_pos (by simpa using hc)]
   rw[e]at this;exact this
end Go.Proofs.YtimahgbgejngiaaGreatDoor
namespace Go.Dm
class Tab(P:Program)(w:World):Prop where
 is : Lib.TabIs P w "internal/strconv.uint64pow10" .u64 Lib.pow10Tab
section
variable {w0 w:World}{E:List Seg}{P:Program}
def St.var(h:St w0 E w){n:String}{cs:Array Value}(hv:w0.var? P n=some cs):w.var? P n=some cs:=by
 unfold World.var? at *
 cases hg:P.globalNamed n with
 | none=>rw[hg]at hv;cases hv
 | some g=>
  rw[hg]at hv;simp only[Option.bind_some]at hv ⊢
  cases hh:w0.heap[g]? with
  | none=>rw[hh]at hv;cases hv
  | some o=>
   have:=h.old g (Array.getElem?_eq_some_iff.1 hh).1;rw[this];exact hv
def St.tab [T : Tab P w0] (h : St w0 E w) : Lib.TabIs P w "internal/strconv.uint64pow10" .u64 Lib.pow10Tab := h.var T.is
end
def kH(xs:List B0):B0:=⟨(Lib.join (xs.map (·.data.toList)) [32]).toArray⟩
def iX{a b:B0}(h:a.data.toList=b.data.toList):a=b:=ByteArray.ext (Array.toList_inj.1 h)
def Vh(xs:List B0):(kH xs).data.toList=Lib.join (xs.map (·.data.toList)) [32]:=by simp[kH]
def SF:kH []=⟨#[]⟩:=rfl
def WD(x:B0):kH [x]=x:=iX (by rw[Vh];simp[Lib.join_one])
def eA(g:Nat):(Lib.decDigits g).length≤g+1:=by
 induction g using Nat.strongRecOn with
 | _ g ih=>
  by_cases h:g<10
  ·rw[Lib.decDigits_one h];simp
  ·rw[Lib.decDigits,dif_neg h,List.length_append];have:=ih (g/10) (by omega);simp only[List.length_singleton];omega
def spB:B0:=⟨#[32]⟩
def nA(x y:B0)(xs:List B0):kH (x::y::xs)=(x++spB)++kH (y::xs):=iX (by
 rw[Vh];simp only[List.map_cons,Lib.join,List.intercalate,ByteArray.data_append,Array.toList_append,Vh];simp[List.intersperse,spB])
def tM(m:Nat):∀(l:List B0),(∀x∈l,x.size≤m)→(kH l).size≤l.length*(m+1)
 | [],_=>by rw[SF];exact Nat.zero_le _
 | [x],h=>by rw[WD];have:=h x (by simp);simp;omega
 | x::y::l,h=>by
  have h1:=h x (by simp);have h2:=tM m (y::l) λz hz=>h z (List.mem_cons_of_mem _ hz);have hs:spB.size=1:=rfl;rw[nA,ByteArray.size_append,ByteArray.size_append,hs];simp only[List.length_cons,Nat.add_mul]at h2 ⊢;omega
def ju(g:Nat):B0:=⟨(Lib.decDigits g).toArray⟩
def eB(g:Nat):(ju g).data.toList=Lib.decDigits g:=by simp[ju]
def Li(g:Nat):(ju g).size≤g+1:=by
 have:=eA g;unfold ju;simpa [ByteArray.size]using this
def HM(g:Nat):(⟨(Lib.itoa (g:Int)).toArray⟩:B0)=ju g:=by
 unfold Lib.itoa ju;rw[if_neg (by omega)];simp
section
variable {w0 w w':World}{E:List Seg}{P:Program}
def St.below(h:St w0 E w)(hb:RowKit.Below w.heap.size w w'):St w0 E w':=by
 have hlt:∀k,k<w.heap.size→w'.heap[k]? = w.heap[k]? :=hb.block;refine⟨Nat.le_trans h.size hb.size,λb hb'=>?_,hb.os.trans h.os,hb.output.trans h.out,hb.tape.trans h.tape,λx hx=>?_,h.nd,λ_ _ _ _=>rfl⟩
 ·rw[hlt b (Nat.lt_of_lt_of_le hb' h.size)];exact h.old b hb'
 ·have:=h.own x hx;rw[hlt _ (Array.getElem?_eq_some_iff.1 this.2).1];exact this
def eTx(x:B0):List Value:=[.string x]
def Rw.texts{e:TypeId}{s:Seg}(h:St w0 E w)(k:Nat)(hi:nth E k=some s){g n cap off:Nat}{l:List B0}(hE:Enc eTx 1)(hr:Rw eTx e 1 ⟨some ⟨g,off,none⟩,n,cap⟩ l s) :
  (∀(j:Nat) x,l[j]? = some x→w.cell? ⟨g,off+j,none⟩=some (.string x))∧g<w.heap.size:=by
 have hr':=hr;constructor
 ·intro j x hx;have hn:=OR hE hx (f:=0) (u:=Value.string x) rfl;simp only[Nat.mul_one,Nat.add_zero]at hn;have hc:=hr.cell h k hi rfl hn;rw[jM]at hc;exact hc
 ·unfold Rw at hr';generalize fl eTx l=xs at hr'
  cases hr' with
  | mk g n cap pre xs spare post h1 h2 h3 h4=>exact(Array.getElem?_eq_some_iff.1 (h.at k hi).2).1
def Rw.cka{α:Type}{enc:α→List Value}{e size:Nat}{v:Sl}{l:List α}{s:Seg}(hE:Enc enc size)(h:St w0 E w)(k:Nat)(hi:nth E k=some s)(hr:Rw enc e size v l s){i:Nat}{a:Addr}(ha:ElA v size i a){x:α}(hx:l[i]? = some x){cs:List Value}(hc:enc x=cs){kk:PT}(hk:kk w):L.chk a cs kk w:=by
 subst hc;obtain⟨a0,hv,rfl⟩:=ha;refine⟨λj c hc=>?_,hk⟩;rw[JF];exact hr.cell h k hi hv (OR hE hx hc)
def HL{f:FuncId}{e:TypeId}{s:Seg}{v:Sl}{l:List B0}{sep:B0}(hsep:sep=spB)(hE:Enc eTx 1)
  (hc:∀g off cap w,(∀(j:Nat) x,l[j]? = some x→w.cell? ⟨g,off+j,none⟩=some (.string x))→g<w.heap.size→l.length≤cap→Calls P f #[.slice (some ⟨g,off,none⟩) l.length cap,.string sep] w λr w'=>r = .returned (.string ⟨(Lib.join (l.map (·.data.toList)) sep.data.toList).toArray⟩)∧RowKit.Below w.heap.size w w')
  (hc0:∀p cap w,Calls P f #[.slice p 0 cap,.string sep] w λr w'=>r = .returned (.string ⟨#[]⟩)∧w'=w)
  (h:St w0 E w) (k:Nat) (hi:nth E k=some s) (hr:Rw eTx e 1 v l s) {kk:B0→PT} (hk:∀w',St w0 E w'→kk (kH l) w'):L.call P f [.slice v.a v.len v.cap,.string sep] (.one (.one .str)) kk w:=by
 have hlen:=Rw.len hE hr
 cases hl0:l with
 | nil=>
  subst hl0;simp only[List.length_nil]at hlen;rw[hlen];exact(hc0 v.a v.cap w).mono λr w' ⟨h1,h2⟩=>⟨kH [],h1,by subst h2;exact hk _ h⟩
 | cons x l2=>
  have hpos:0<l.length:=by rw[hl0];simp
  have hcap:=hr.cap;obtain⟨va,vn,vc⟩:=v;have:∃g off,va=some ⟨g,off,none⟩:=by
   have hr':=hr;unfold Rw at hr';generalize fl eTx l=xs at hr'
   cases hr' with
   | nil=>simp at hlen;omega
   | mk=>exact⟨_,_,rfl⟩
  obtain⟨g,off,rfl⟩:=this;simp only at hlen hcap;subst hlen;obtain⟨hH,hlt⟩:=Rw.texts h k hi hE hr;refine(hc g off vc w hH hlt hcap.1).mono λr w' ⟨h1,h2⟩=>⟨kH l,?_,hk _ (h.below h2)⟩;rw[h1,hsep];rfl
end
end Go.Dm
namespace Go.Proofs.YtimahgbgejngiaaGreatDoor
open Go.Dm
attribute [local irreducible] L.load L.store L.chk L.new L.nonnil L.guard L.ite L.draw L.idx L.sem L.semR L.semU L.chkSem L.next L.call L.callV L.join L.alts L.loop L.begin L.endRound L.range
variable {w0 w:World}{E:List Seg}
abbrev Rv:=HT [.str,.int .i64,.str,.int .i64,.int .i64,.int .i64,.int .i64,.int .i64]
abbrev eRv:E1:=.agg [.str,.int .i64,.str,.int .i64,.int .i64,.int .i64,.int .i64,.int .i64]
def vRv(t:Rv):Value:=eRv.val t
def fM:Rv:=(s_,0,s_,0,0,0,0,0,())
abbrev rvC(t:Rv):List Value:=[.string t.1,I t.2.1,.string t.2.2.1,I t.2.2.2.1,I t.2.2.2.2.1,I t.2.2.2.2.2.1,I t.2.2.2.2.2.2.1,I t.2.2.2.2.2.2.2.1]
abbrev Rv.cfg(t:Rv):Cfg:=t.2.2
def rK(name:B0)(gen:Int)(c:Cfg):Rv:=(name,gen,c)
structure yY where
 all:List (B0×Rv)
 pv:List (B0×Bool)
structure yY.Ok(a:yY):Prop where
 name:∀p∈a.all,p.2.1=p.1∧p.1≠s_
 few:a.all.length<1000000
def De:Pr.underlying zZ=some (.map zc zU):=by kernel_rfl
def lC:Pr.underlying qa=some (.map zc yP):=by kernel_rfl
def ve:MK Pr zc Value.string:=BN QG
def zrv(w:World):(zeroValue zU).run Pr w = .ok (eRv.val fM) w:=by
 have h:(Pr.info? zU).map (·.zero)=some (some (.agg #[.string s_,I 0,.string s_,I 0,I 0,I 0,I 0,I 0])):=by kernel_rfl
 cases hi:Pr.info? zU with
 | none=>rw[hi]at h;cases h
 | some i=>rw[hi]at h;simp only[Option.map_some,Option.some.injEq]at h;exact zv hi h w
def z1N(w:World):(zeroValue yP).run Pr w = .ok ((E1.one .bool).val false) w:=by
 have h:(Pr.info? yP).map (·.zero)=some (some (.bool false)):=by kernel_rfl
 cases hi:Pr.info? yP with
 | none=>rw[hi]at h;cases h
 | some i=>rw[hi]at h;simp only[Option.map_some,Option.some.injEq]at h;exact zv hi h w
def qo(a:yY)(rev:B0):Rv:=(zr a.all rev).getD fM
def jL(a:yY)(rev:B0):Bool:=(zr a.all rev).isSome
def xQ(a:yY)(rev:B0):Bool:=(zr a.pv rev).getD false
abbrev bkB(b rA rP:Nat):Seg:=[Cl b Tc [.map (some rA),.map (some rP)]]
def BkS(b:Nat)(a:yY)(s:Seg):Prop:=a.Ok∧∃rA rP sA sP,MpS Value.string vRv rA a.all sA∧MpS Value.string Value.bool rP a.pv sP∧s=bkB b rA rP++(sA++sP)
def Ay{r:Nat}{m:List (B0×Rv)}{s:Seg}(h:St w0 E w)(i:Nat)(hi:nth E i=some s)(hm:MpS Value.string vRv r m s){n:B0}{kk:eRv.T→PT}(hk:kk ((zr m n).getD fM) w) :
  L.semR Pr (.one eRv) (Instr.lookup zZ (.map (some r)) (.string n) false) kk w:=by
 refine MpS.get ve De zrv (λt:Rv=>t) (λ_=>rfl) h i hi hm ?_;have:((zr m n).map λt:Rv=>t).getD fM=(zr m n).getD fM:=by cases zr m n<;>rfl
 rw[this];exact hk
def rT{r:Nat}{m:List (B0×Rv)}{s:Seg}(h:St w0 E w)(i:Nat)(hi:nth E i=some s)(hm:MpS Value.string vRv r m s){n:B0}{kk:eRv.T×Bool×Unit→PT}(hk:kk ((zr m n).getD fM,(zr m n).isSome,()) w) :
  L.semR Pr (.tup [eRv,.one .bool]) (Instr.lookup zZ (.map (some r)) (.string n) true) kk w:=by
 refine MpS.get2 ve De zrv (λt:Rv=>t) (λ_=>rfl) h i hi hm ?_;have:((zr m n).map λt:Rv=>t).getD fM=(zr m n).getD fM:=by cases zr m n<;>rfl
 rw[this];exact hk
def z1J(h:St w0 E w){k:Option Addr→PT}(hk:∀b s w',BkS b ⟨[],[]⟩ s→St w0 (s::E) w'→k (some ⟨b,0,none⟩) w'):L.call Pr FB [] (.one (.one .ptr)) k w:=by
 refine za bR ?_;unfold dg;refine MpS.new h Value.string vRv λr s w hm h=>?_;refine MpS.new h Value.string Value.bool λr2 s2 w hm2 h=>?_;refine nw h ?_;clear h;intro b w h;refine⟨_,rfl,hk b _ w ⟨⟨by simp,by simp⟩,r,r2,s,s2,hm,hm2,rfl⟩ ?_⟩;have h:=ZL (ZL (yO h));exact h.glue3
def GM(h:St w0 E w)(i:Nat){b:Nat}{a:yY}{s:Seg}(hi:nth E i=some s)(hs:BkS b a s){rev:B0}{k:eRv.T×Bool×Unit→PT}(hk:∀w',St w0 E w'→k (qo a rev,jL a rev,()) w') :
  L.call Pr jQ [pO b,.string rev] (.tup [eRv,.one .bool]) k w:=by
 obtain⟨ok,rA,rP,sA,sP,hA,hP,rfl⟩:=hs;refine za (Ca _ _) ?_;unfold gM;have h:=(h.front i hi).split3;refine nw h ?_;clear h;intro b1 w h
 (refine nn ?_;refine ldC h ?_)
 refine rT h 2 rfl hA ?_;unfold qo jL at hk;generalize (zr a.all rev).getD fM=t at hk;refine nw h ?_;clear h;intro b5 w h
 (refine stC h ?_;clear h;intro w h;dsimp only[zJ,zd]at h;refine laC h ?_;refine stC h ?_;clear h;intro w h;dsimp only[zJ,zd]at h;refine laC h ?_)
 exact⟨(t,_,()),rfl,hk w (St.again i hi (zm (zm h)).glue3)⟩
def Ni(h:St w0 E w)(i:Nat){b:Nat}{a:yY}{s:Seg}(hi:nth E i=some s)(hs:BkS b a s){rev:B0}{k:Bool→PT}(hk:∀w',St w0 E w'→k (xQ a rev) w') :
  L.call Pr Yv [pO b,.string rev] (.one (.one .bool)) k w:=by
 obtain⟨ok,rA,rP,sA,sP,hA,hP,rfl⟩:=hs;refine za (kX _ _) ?_;unfold ul;have h:=(h.front i hi).split3
 (refine nn ?_;refine ldC h ?_)
 refine MpS.get ve lC z1N (λt:Bool=>t) (λ_=>rfl) h 2 rfl hP ?_;refine⟨_,rfl,?_⟩;have:((zr a.pv rev).map λt:Bool=>t).getD false=xQ a rev:=by unfold xQ;cases zr a.pv rev<;>rfl
 rw[this];exact hk w (St.again i hi h.glue3)
def Ko(a:yY)(rev:B0):yY×Int:=if jL a rev=true then(⟨a.all,zX a.pv rev true⟩,0)else(a,6)
def Eh(h:St w0 E w)(i:Nat){b:Nat}{a:yY}{s:Seg}(hi:nth E i=some s)(hs:BkS b a s){rev:B0}{k:Int→PT}(hk:∀s' w',BkS b (Ko a rev).1 s'→St w0 (zd E i s') w'→k (Ko a rev).2 w') :
  L.call Pr uU [pO b,.string rev] (.one (.one (.int .i64))) k w:=by
 have hs0:=hs;obtain⟨ok,rA,rP,sA,sP,hA,hP,rfl⟩:=hs;refine za (Po _ _) ?_;unfold oq;unfold Ko jL at hk;have h:=(h.front i hi).split3
 (refine nn ?_;refine ldC h ?_)
 refine rT h 1 rfl hA ?_;generalize (zr a.all rev).getD fM=t at hk;refine nw h ?_;clear h;intro b4 w h
 (refine stC h ?_;clear h;intro w h;dsimp only[zJ,zd]at h)
 refine it (λhc=>?_) (λhc=>?_)<;>(try simp only[zB]at hc)
 ·rw[if_neg (by simp[hc])]at hk;exact⟨_,rfl,hk _ w hs0 (St.back i hi (zm h).glue3)⟩
 ·rw[if_pos (by simpa using hc)]at hk
  (refine nn ?_;refine ldC h ?_)
  refine MpS.set ve lC h 3 rfl hP true rfl λsP' w hP' h=>?_;exact⟨_,rfl,hk _ w ⟨⟨ok.name,ok.few⟩,rA,rP,sA,sP',hA,hP',rfl⟩ (St.back i hi (zm h).glue3)⟩
def XY(a:yY)(c:Cfg)(gen:Nat):yY×B0×Bool:=
 if jL a (qh c.1 gen)=true then(a,qh c.1 gen,false)else(⟨zX a.all (qh c.1 gen) (rK (qh c.1 gen) gen c),a.pv⟩,qh c.1 gen,true)
def z07(c:B0){g:Nat}(hg:g<100):qh c g≠s_:=λe=>by
 have:=gq c hg;rw[e]at this;have h0:s_.size=0:=rfl;omega
def z2F(w:World):(do eqGuard .neq zU (.tmp 0) (.tmp 0) (.agg (rvC fM).toArray) (.agg #[.string s_,I 0,.string s_,I 0,I 0,I 0,I 0,I 0]);binOp .neq zU (.agg (rvC fM).toArray) (.agg #[.string s_,I 0,.string s_,I 0,I 0,I 0,I 0,I 0]):Sem Value).run Pr w = .ok (.bool false) w:=by kernel_rfl
def z2E(t:Rv)(ht:t.1≠s_)(w:World):(do eqGuard .neq zU (.tmp 0) (.tmp 0) (.agg (rvC t).toArray) (.agg #[.string s_,I 0,.string s_,I 0,I 0,I 0,I 0,I 0]);binOp .neq zU (.agg (rvC t).toArray) (.agg #[.string s_,I 0,.string s_,I 0,I 0,I 0,I 0,I 0]):Sem Value).run Pr w = .ok (.bool true) w:=by
 refine HF (r:=false) (by kernel_rfl) ?_;have hS:Pr.underlying zU=some (.struct (Pr.fieldsOf zU)):=by kernel_rfl
 have hp:Pr.stoodInHeld zU=false:=by kernel_rfl
 rw[show(10000:Nat)=9999+1 from rfl,run_equalIn_agg w 9999 zU _ _ hS hp];have u9:=Tryz.underlying9;have i9:=Tryz.isAgg9;have z9:=Tryz.sizeOf9;simp only[Program.fieldsOf,Tryz.underlying210]
 go_simp
 have e:¬(ByteArray.toList t.1=ByteArray.toList s_):=λe=>ht (by
  have:(@BEq.beq B0 _ t.1 s_)=true:=by rw[beq_toListBytes];simp[e]
  exact cO.1 this)
 simp[e]
abbrev Thg:=HT [.str,.int .i64,.int .i64,.int .i64,.int .i64,.int .i64,.int .i64,.int .i64,.bool]
abbrev ee:E1:=.agg [.str,.int .i64,.int .i64,.int .i64,.int .i64,.int .i64,.int .i64,.int .i64,.bool]
def z2k(t:Thg):Value:=ee.val t
def AD:Thg:=(s_,0,0,0,0,0,0,0,false,())
abbrev Thg.ver(t:Thg):Int:=t.2.2.2.2.2.2.1
abbrev Thg.gen(t:Thg):Int:=t.2.2.2.2.2.2.2.1
abbrev Thg.is(t:Thg):Bool:=t.2.2.2.2.2.2.2.2.1
def CA(c:Cfg)(ver gen:Int)(is:Bool):Thg:=(c.1,c.2.1,c.2.2.1,c.2.2.2.1,c.2.2.2.2.1,c.2.2.2.2.2.1,ver,gen,is,())
def rl:Pr.underlying Zl=some (.map zc zS):=by kernel_rfl
def mkS:MK Pr zc Value.string:=BN QG
def z5P(w:World):(zeroValue zS).run Pr w = .ok (ee.val AD) w:=by
 have h:(Pr.info? zS).map (·.zero)=some (some (.agg #[.string s_,I 0,I 0,I 0,I 0,I 0,I 0,I 0,.bool false])):=by kernel_rfl
 cases hi:Pr.info? zS with
 | none=>rw[hi]at h;cases h
 | some i=>rw[hi]at h;simp only[Option.map_some,Option.some.injEq]at h;exact zv hi h w
def JR(m:List (B0×Thg))(n:B0):Thg:=(zr m n).getD AD
def lu(b:Nat)(m:List (B0×Thg))(s:Seg):Prop:=∃r sm,MpS Value.string z2k r m sm∧s = [Cl b ZR [.map (some r),.func (.func yD) #[] #[]]]++sm
def EG{r:Nat}{m:List (B0×Thg)}{s:Seg}(h:St w0 E w)(i:Nat)(hi:nth E i=some s)(hm:MpS Value.string z2k r m s){n:B0}{kk:ee.T→PT}(hk:kk (JR m n) w) :
  L.semR Pr (.one ee) (Instr.lookup Zl (.map (some r)) (.string n) false) kk w:=by
 refine MpS.get mkS rl z5P (λt:Thg=>t) (λ_=>rfl) h i hi hm ?_;have:((zr m n).map λt:Thg=>t).getD AD=JR m n:=by unfold JR;cases zr m n<;>rfl
 rw[this];exact hk
def z1w(h:St w0 E w){k:Option Addr→PT}(hk:∀b s w',lu b [] s→St w0 (s::E) w'→k (some ⟨b,0,none⟩) w') :
  L.call Pr Xt [.func (.func yD) #[] #[]] (.one (.one .ptr)) k w:=by
 refine za (Gf ⟨.func yD,#[],#[]⟩) ?_;unfold Uz;refine MpS.new h Value.string z2k λr s w hm h=>?_;refine nw h ?_;clear h;intro b w h;exact⟨_,rfl,hk b _ w ⟨r,s,hm,rfl⟩ h.glue⟩
def pU(t:Thg)(ver:Int)(fresh:Bool):Int:=
 if fresh=true∧ver=0 then(if t.is=true then 5 else 0)else if t.is=true then(if t.ver=ver then 0 else 7)else 6
def z3u(h:St w0 E w)(i:Nat){b:Nat}{m:List (B0×Thg)}{s:Seg}(hi:nth E i=some s)(hs:lu b m s){n:B0}{ver:Int}{fresh:Bool}{k:Int→PT}(hk:∀w',St w0 E w'→k (pU (JR m n) ver fresh) w') :
  L.call Pr JD [pO b,.string n,I ver,.bool fresh] (.one (.one (.int .i64))) k w:=by
 obtain⟨r,sm,hm,rfl⟩:=hs;refine za (Ku _ _ _ _) ?_;unfold qS;have h:=(h.front i hi).split
 (refine nn ?_;refine ldC h ?_)
 refine EG h 1 rfl hm ?_;generalize JR m n=t at hk;refine nw h ?_;clear h;intro b4 w h
 (refine stC h ?_;clear h;intro w h;dsimp only[zJ,zd]at h)
 have fin:∀{e:Int}{w:World},e=pU t ver fresh→St w0 ([Cl b4 zS [.string t.1,I t.2.1,I t.2.2.1,I t.2.2.2.1,I t.2.2.2.2.1,I t.2.2.2.2.2.1,I t.2.2.2.2.2.2.1,I t.2.2.2.2.2.2.2.1,.bool t.2.2.2.2.2.2.2.2.1]]::[Cl b ZR [.map (some r),.func (.func yD) #[] #[]]]::sm::Zv E i) w→
   ∃x,I e=RT.val (.one (.one (.int .i64))) x∧k x w:=by
  rintro e w rfl h;exact⟨_,rfl,hk w (St.setN_same' i hi (St.back i hi (zm h).glue))⟩
 have c2:∀{k5:Unit→PT}{w:World},¬(fresh=true∧ver=0)→(∀{w},pU t ver fresh=0→St w0 ([Cl b4 zS [.string t.1,I t.2.1,I t.2.2.1,I t.2.2.2.1,I t.2.2.2.2.1,I t.2.2.2.2.2.1,I t.2.2.2.2.2.2.1,I t.2.2.2.2.2.2.2.1,.bool t.2.2.2.2.2.2.2.2.1]]::[Cl b ZR [.map (some r),.func (.func yD) #[] #[]]]::sm::Zv E i) w→k5 () w)→
   St w0 ([Cl b4 zS [.string t.1,I t.2.1,I t.2.2.1,I t.2.2.2.1,I t.2.2.2.2.1,I t.2.2.2.2.2.1,I t.2.2.2.2.2.2.1,I t.2.2.2.2.2.2.2.1,.bool t.2.2.2.2.2.2.2.2.1]]::[Cl b ZR [.map (some r),.func (.func yD) #[] #[]]]::sm::Zv E i) w→
   L.load (.one (.bool)) ((⟨b4,0,none⟩:Addr).add 8) (λ(x18:Bool)=>
   L.ite (!x18) (
    λw=>∃x,Value.int .i64 6=RT.val (.one (.one (.int .i64))) x∧k x w)<|
   L.load (.one (.int .i64)) ((⟨b4,0,none⟩:Addr).add 6) λ(x19:Int)=>
   L.ite (x19 != ver) (
    λw=>∃x,Value.int .i64 7=RT.val (.one (.one (.int .i64))) x∧k x w)<|
   k5 (())) w:=by
  intro k5 w hf hk5 h
  (refine ldC h ?_)
  refine it (λh1=>?_) (λh1=>?_)<;>(try simp only[zB]at h1)
  ·exact fin (by unfold pU;rw[if_neg hf,if_neg (by simp[Thg.is,h1])]) h
  (refine ldC h ?_)
  have h1:t.is=true:=by simpa using h1
  refine it (λh2=>?_) (λh2=>?_)<;>(try simp only[zB]at h2)
  ·exact fin (by unfold pU;rw[if_neg hf,if_pos h1,if_neg h2]) h
  ·exact hk5 (by unfold pU;rw[if_neg hf,if_pos h1,if_pos h2]) h
 refine Zz (λz w=>pU t ver fresh=0∧St w0 ([Cl b4 zS [.string t.1,I t.2.1,I t.2.2.1,I t.2.2.2.1,I t.2.2.2.2.1,I t.2.2.2.2.2.1,I t.2.2.2.2.2.2.1,I t.2.2.2.2.2.2.2.1,.bool t.2.2.2.2.2.2.2.2.1]]::[Cl b ZR [.map (some r),.func (.func yD) #[] #[]]]::sm::Zv E i) w) (λk5 hk5=>?_) (λz w ⟨hz,h⟩=>fin hz.symm h)
 cases fresh with
 | false=>exact itF rfl (itF rfl (c2 (by simp) (λh1 h=>hk5 _ _ ⟨h1,h⟩) h))
 | true=>
  refine itT rfl ?_;refine it (λhv=>?_) (λhv=>?_)<;>(try simp only[zB]at hv)
  ·(refine ldC h ?_)
   refine it (λh1=>?_) (λh1=>?_)<;>(try simp only[zB]at h1)
   ·exact fin (by unfold pU;rw[if_pos ⟨rfl,hv⟩,if_pos h1]) h
   ·refine itT rfl (itT (by simp[hv]) ?_);exact fin (by unfold pU;rw[if_pos ⟨rfl,hv⟩,if_neg (by simp[Thg.is,h1])]) h
  ·refine itT rfl (itF (by simp[hv]) ?_);exact c2 (λhh=>hv hh.2) (λh1 h=>hk5 _ _ ⟨h1,h⟩) h
def z3w(h:St w0 E w)(i:Nat){b:Nat}{m:List (B0×Thg)}{s:Seg}(hi:nth E i=some s)(hs:lu b m s){n:B0}{k:ee.T×Bool×Unit→PT}(hk:∀w',St w0 E w'→k (JR m n,(JR m n).is,()) w') :
  L.call Pr JE [pO b,.string n] (.tup [ee,.one .bool]) k w:=by
 obtain⟨r,sm,hm,rfl⟩:=hs;refine za (Kv _ _) ?_;unfold qT;have h:=(h.front i hi).split;refine nw h ?_;clear h;intro b1 w h
 (refine nn ?_;refine ldC h ?_)
 refine EG h 2 rfl hm ?_;generalize JR m n=t at hk;refine nw h ?_;clear h;intro b5 w h
 (refine stC h ?_;clear h;intro w h;dsimp only[zJ,zd]at h;refine dr h ?_;clear h;intro w h;refine laC h ?_;refine ldC h ?_;refine stC h ?_;clear h;intro w h;dsimp only[zJ,zd]at h;refine ckC h ?_;refine laC h ?_)
 exact⟨(t,t.is,()),rfl,hk w (St.setN_same' i hi (St.back i hi (zm (zm h)).glue))⟩
def kB(a b:Cfg):Bool:=(a.1 == b.1)&&((a.2.1 == b.2.1)&&((a.2.2.1 == b.2.2.1)&&((a.2.2.2.1 == b.2.2.2.1)&&((a.2.2.2.2.1 == b.2.2.2.2.1)&&((a.2.2.2.2.2.1 == b.2.2.2.2.2.1)&&true)))))
def iH(a b:Cfg)(w:World):(Op.equalIn 10000 zA (.agg (Cfg.cells a).toArray) (.agg (Cfg.cells b).toArray)).run Pr w = .ok (kB a b) w:=by
 have hS:Pr.underlying zA=some (.struct (Pr.fieldsOf zA)):=by kernel_rfl
 have hp:Pr.stoodInHeld zA=false:=by kernel_rfl
 obtain⟨a1,a2,a3,a4,a5,a6,⟨⟩⟩:=a;obtain⟨b1,b2,b3,b4,b5,b6,⟨⟩⟩:=b;rw[show(10000:Nat)=9999+1 from rfl,run_equalIn_agg w 9999 zA _ _ hS hp];have u3:=Tryz.underlying3;have i3:=Tryz.isAgg3;have z3:=Tryz.sizeOf3;have u9:=Tryz.underlying9;have i9:=Tryz.isAgg9;have z9:=Tryz.sizeOf9;simp only[Program.fieldsOf,Tryz.underlying23]
 go_simp
 have e:(ByteArray.toList a1=ByteArray.toList b1)↔(@BEq.beq B0 _ a1 b1)=true:=by rw[beq_toListBytes];simp
 unfold kB;by_cases h1:(@BEq.beq B0 _ a1 b1)=true
 ·rw[if_pos (e.2 h1)];simp only[show(a1 == b1)=true from h1,Bool.true_and];by_cases h2: @Eq Int a2 b2
  ·by_cases h3: @Eq Int a3 b3
   ·by_cases h4: @Eq Int a4 b4
    ·by_cases h5: @Eq Int a5 b5
     ·by_cases h6: @Eq Int a6 b6
      ·cases h2;cases h3;cases h4;cases h5;cases h6;simp
      ·cases h2;cases h3;cases h4;cases h5;simp[h6]
     ·cases h2;cases h3;cases h4;simp[h5]
    ·cases h2;cases h3;simp[h4]
   ·cases h2;simp[h3]
  ·simp[h2]
 ·rw[if_neg (λh=>h1 (e.1 h))];have:(a1 == b1)=false:=by simpa using h1
  simp[this]
def iK(a b:Cfg)(w:World):(do eqGuard .eql zA (.tmp 0) (.tmp 0) (.agg (Cfg.cells a).toArray) (.agg (Cfg.cells b).toArray);binOp .eql zA (.agg (Cfg.cells a).toArray) (.agg (Cfg.cells b).toArray):Sem Value).run Pr w = .ok (.bool (kB a b)) w:=
 ah (by kernel_rfl) (iH a b w)
def z1k(h:St w0 E w){a b:Cfg}{k:Bool→PT}(hk:∀w',St w0 E w'→k (kB a b) w') :
  L.callV Pr (.func (.func yD) #[] #[]) [.agg (Cfg.cells a).toArray,.agg (Cfg.cells b).toArray] (.one (.one .bool)) k w:=by
 refine jK (fs:=#[]) (cs:=#[]) we (wq a b) ?_;unfold pj;refine nw h ?_;clear h;intro b1 w h;refine nw h ?_;clear h;intro b2 w h
 (refine laC h ?_;refine laC h ?_)
 unfold L.chkSem;refine⟨iK a b w,_,rfl,?_⟩;exact hk w (zm (zm h))
def fq(t:Thg):Cfg:=(t.1,t.2.1,t.2.2.1,t.2.2.2.1,t.2.2.2.2.1,t.2.2.2.2.2.1,())
def rX(m:List (B0×Thg))(n:B0)(c:Cfg)(ver:Int):List (B0×Thg):=
 zX m n (CA c ver (if(JR m n).is=true∧kB (fq (JR m n)) c=true then(JR m n).gen else(JR m n).gen+1) true)
def z3q(h:St w0 E w)(i:Nat){b:Nat}{m:List (B0×Thg)}{s:Seg}(hi:nth E i=some s)(hs:lu b m s){n:B0}{c:Cfg}{ver:Int}(hg:0≤(JR m n).gen∧(JR m n).gen<4611686018427387904){k:Unit→PT}
  (hk:∀s' w',lu b (rX m n c ver) s'→St w0 (zd E i s') w'→k () w') :
  L.call Pr JC [pO b,.string n,.agg (Cfg.cells c).toArray,I ver] (.tup []) k w:=by
 obtain⟨r,sm,hm,rfl⟩:=hs;refine za (Kt _ _ c _) ?_;unfold qR;unfold rX at hk;have h:=(h.front i hi).split;refine nw h ?_;clear h;intro b1 w h
 (refine nn ?_;refine ldC h ?_)
 refine EG h 2 rfl hm ?_;generalize JR m n=t at hk hg;refine nw h ?_;clear h;intro b5 w h
 (refine stC h ?_;clear h;intro w h;dsimp only[zJ,zd]at h)
 let cells:Int→List Value:=λg=>[.string t.1,I t.2.1,I t.2.2.1,I t.2.2.2.1,I t.2.2.2.2.1,I t.2.2.2.2.2.1,I t.2.2.2.2.2.2.1,I g,.bool t.2.2.2.2.2.2.2.2.1]
 have hw:Wi (t.gen+1)=t.gen+1:=wr (by omega) (by omega);refine Zz (λz w=>St w0 ([Cl b5 zS (cells (if t.is=true∧kB (fq t) c=true then t.gen else t.gen+1))]::[Cl b1 zA (Cfg.cells c)]::[Cl b ZR [.map (some r),.func (.func yD) #[] #[]]]::sm::Zv E i) w) (λk6 hk6=>?_) (λz w h=>?_)
 ·have h:St w0 ([Cl b5 zS (cells t.gen)]::[Cl b1 zA (Cfg.cells c)]::[Cl b ZR [.map (some r),.func (.func yD) #[] #[]]]::sm::Zv E i) w:=h;dsimp only[cells]at h hk6
  have more:∀{w},¬(t.is=true∧kB (fq t) c=true)→St w0 ([Cl b5 zS [.string t.1,I t.2.1,I t.2.2.1,I t.2.2.2.1,I t.2.2.2.2.1,I t.2.2.2.2.2.1,I t.2.2.2.2.2.2.1,I t.gen,.bool t.2.2.2.2.2.2.2.2.1]]::[Cl b1 zA (Cfg.cells c)]::[Cl b ZR [.map (some r),.func (.func yD) #[] #[]]]::sm::Zv E i) w→
    L.load (.one (.int .i64)) ((⟨b5,0,none⟩:Addr).add 7) (λ(x9:Int)=>
     L.store ((⟨b5,0,none⟩:Addr).add 7) [.int .i64 (Wi (x9+1))]<| k6 (())) w:=by
   intro w hn h
   (refine ldC h ?_;refine stC h ?_;clear h;intro w h;dsimp only[zJ,zd]at h)
   rw[hw]at h;refine hk6 _ w ?_;rw[if_neg hn];exact h
  (refine dr h ?_;clear h;intro w h;refine ldC h ?_)
  refine it (λh1=>?_) (λh1=>?_)<;>(try simp only[zB]at h1)
  ·exact more (λhh=>by have:=hh.1;simp only[Thg.is]at this;rw[h1]at this;cases this) h
  ·have h1:t.is=true:=by simpa using h1
   (refine nn ?_;refine ldC h ?_;refine laC h ?_;refine laC h ?_)
   refine z1k (a:=fq t) (b:=c) h λw h=>?_;refine it (λh2=>?_) (λh2=>?_)<;>(try simp only[zB]at h2)
   ·exact more (λhh=>by rw[hh.2]at h2;cases h2) h
   ·have h2:kB (fq t) c=true:=by simpa using h2
    refine hk6 _ w ?_;rw[if_pos ⟨h1,h2⟩];exact h
 ·dsimp only[cells]at h
  (refine dr h ?_;clear h;intro w h;refine nn ?_;refine ldC h ?_;refine laC h ?_;refine ldC h ?_)
  refine MpS.set mkS rl h 3 rfl hm (CA c ver (if t.is=true∧kB (fq t) c=true then t.gen else t.gen+1) true) rfl λsm' w hm' h=>?_;exact⟨(),rfl,hk _ w ⟨r,sm',hm',rfl⟩ (St.back i hi (zm (zm h)).glue)⟩
abbrev Tgt:=HT [.str,.str,.int .i64]
def eT(t:Tgt):List Value:=[.string t.1,.string t.2.1,I t.2.2.1]
def od:Enc eT 3:=⟨λ_=>rfl,λ_=>rfl,by decide⟩
structure ARt where
 name:B0
 cfg:B0
 ts:List Tgt
 roll:Int
abbrev Thr:=HT [.str,.str,.slice,.int .i64,.int .i64,.int .i64,.bool]
abbrev SZ:E1:=.agg [.str,.str,.slice,.int .i64,.int .i64,.int .i64,.bool]
abbrev Thr.ver(t:Thr):Int:=t.2.2.2.2.1
abbrev Thr.gen(t:Thr):Int:=t.2.2.2.2.2.1
abbrev Thr.is(t:Thr):Bool:=t.2.2.2.2.2.2.1
def Es(t:Thr):Value:=SZ.val t
def AC:Thr:=(s_,s_,⟨none,0,0⟩,0,0,0,false,())
structure MN where
 r:ARt
 ver:Int
 gen:Int
 is:Bool
def z2C:MN:=⟨⟨s_,s_,[],0⟩,0,0,false⟩
structure RtE where
 k:B0
 t:Thr
 ts:List Tgt
 sg:Seg
def RtE.ok(x:RtE):Prop:=Rw eT zG 3 x.t.2.2.1 x.ts x.sg
def RtE.abs(x:RtE):MN:=⟨⟨x.t.1,x.t.2.1,x.ts,x.t.2.2.2.1⟩,x.t.ver,x.t.gen,x.t.is⟩
abbrev RtE.kt(x:RtE):B0×Thr:=(x.k,x.t)
abbrev RtE.ka(x:RtE):B0×MN:=(x.k,x.abs)
def wX:Pr.underlying Zr=some (.map zc zY):=by kernel_rfl
def z5O(w:World):(zeroValue zY).run Pr w = .ok (SZ.val AC) w:=by
 have h:(Pr.info? zY).map (·.zero)=some (some (.agg #[.string s_,.string s_,.slice none 0 0,I 0,I 0,I 0,.bool false])):=by kernel_rfl
 cases hi:Pr.info? zY with
 | none=>rw[hi]at h;cases h
 | some i=>rw[hi]at h;simp only[Option.map_some,Option.some.injEq]at h;exact zv hi h w
def Kd(m:List (B0×MN))(n:B0):MN:=(zr m n).getD z2C
def de(b:Nat)(m:List (B0×MN))(s:Seg):Prop:=∃r sm,∃Q:List RtE,MpS Value.string Es r (Q.map RtE.kt) sm∧(∀x∈Q,x.ok)∧m=Q.map RtE.ka∧
 s = [Cl b Zn [.map (some r),.func (.func Zt) #[] #[]]]++(sm++(Q.map RtE.sg).flatten)
def FJ(Q:List RtE)(n:B0):RtE:=(Us RtE.k Q n).getD ⟨n,AC,[],[]⟩
def z2K(Q:List RtE)(n:B0):(zr (Q.map RtE.kt) n).getD AC=(FJ Q n).t:=by
 have:=QS (key:=RtE.k) RtE.t n Q;unfold FJ;rw[this];cases Us RtE.k Q n<;>rfl
def BO(Q:List RtE)(n:B0):Kd (Q.map RtE.ka) n=(FJ Q n).abs:=by
 have:=QS (key:=RtE.k) RtE.abs n Q;unfold Kd FJ;rw[this];cases Us RtE.k Q n<;>rfl
def Hc{r:Nat}{Q:List RtE}{s:Seg}(h:St w0 E w)(i:Nat)(hi:nth E i=some s)(hm:MpS Value.string Es r (Q.map RtE.kt) s){n:B0}{kk:SZ.T→PT}(hk:kk (FJ Q n).t w) :
  L.semR Pr (.one SZ) (Instr.lookup Zr (.map (some r)) (.string n) false) kk w:=by
 refine MpS.get mkS wX z5O (λt:Thr=>t) (λ_=>rfl) h i hi hm ?_;have:((zr (Q.map RtE.kt) n).map λt:Thr=>t).getD AC=(FJ Q n).t:=by rw[←z2K];cases zr (Q.map RtE.kt) n<;>rfl
 rw[this];exact hk
def z1v(h:St w0 E w){k:Option Addr→PT}(hk:∀b s w',de b [] s→St w0 (s::E) w'→k (some ⟨b,0,none⟩) w') :
  L.call Pr XP [.func (.func Zt) #[] #[]] (.one (.one .ptr)) k w:=by
 refine za (GX ⟨.func Zt,#[],#[]⟩) ?_;unfold vr;refine MpS.new h Value.string Es λr s w hm h=>?_;refine nw h ?_;clear h;intro b w h;exact⟨_,rfl,hk b _ w ⟨r,s,[],hm,by simp,rfl,by simp⟩ h.glue⟩
def SA(is:Bool)(tv ver:Int)(fresh:Bool):Int:=
 if fresh=true∧ver=0 then(if is=true then 5 else 0)else if is=true then(if tv=ver then 0 else 7)else 6
def z3t(h:St w0 E w)(i:Nat){b:Nat}{m:List (B0×MN)}{s:Seg}(hi:nth E i=some s)(hs:de b m s){n:B0}{ver:Int}{fresh:Bool}{k:Int→PT}(hk:∀w',St w0 E w'→k (SA (Kd m n).is (Kd m n).ver ver fresh) w') :
  L.call Pr xd [pO b,.string n,I ver,.bool fresh] (.one (.one (.int .i64))) k w:=by
 obtain⟨r,sm,Q,hm,hL,rfl,rfl⟩:=hs;refine za (oO _ _ _ _) ?_;unfold Qy;rw[BO]at hk;have h:=(h.front i hi).split3
 (refine nn ?_;refine ldC h ?_)
 refine Hc h 1 rfl hm ?_;generalize FJ Q n=t at hk;refine nw h ?_;clear h;intro b4 w h
 ((try dsimp only[zd,List.cons_append,List.nil_append]at h);repeat' (first | refine nn ?_ | (refine dr h ?_;clear h;intro w h) | refine ldC h ?_ | refine laC h ?_ | refine ckC h ?_ | (refine stC h ?_;clear h;intro w h;(try dsimp only[zJ,zd]at h)) | rw[JF] | refine jd ?_ | (refine it (λhc=>?_) (λhc=>?_)<;>(try simp only[zB]at hc))))
 all_goals exact⟨_,rfl,eqk (hk w (St.again i hi (zm h).glue3)) (by clear h;simp_all [SA,RtE.abs,Thr.is,Thr.ver])⟩
def de.put{r b:Nat}{Q:List RtE}{sm:Seg}(x:RtE)(hx:x.ok)(hQ:∀x∈Q,x.ok)(hm:MpS Value.string Es r (zX (Q.map RtE.kt) x.k x.t) sm)
  (h:St w0 (x.sg::(Q.map RtE.sg).flatten::[Cl b Zn [.map (some r),.func (.func Zt) #[] #[]]]::sm::E) w) :
  ∃s,de b (zX (Q.map RtE.ka) x.k x.abs) s∧St w0 (s::E) w:=by
 have e1:=KW (key:=RtE.k) RtE.t x Q;have e2:=KW (key:=RtE.k) RtE.abs x Q;have h:=St.lput (key:=RtE.k) h;refine⟨_,⟨r,sm,lput RtE.k Q x,by rw[e1];exact hm,λy hy=>?_,e2.symm,rfl⟩,?_⟩
 ·rcases tI hy with rfl | hy
  ·exact hx
  ·exact hQ y hy
 ·have h:=ZL (ZL h);exact h.glue3
def z30(m:List (B0×MN))(n:B0):List (B0×MN):=zX m n ⟨⟨s_,s_,[],0⟩,0,(Kd m n).gen,false⟩
def z3c(l:List B0)(m:Nat):TT [.one .str]:=((l[m]?).getD s_,())
def AS{l:List B0}{m:Nat}{x:B0}(h:l[m]? = some x):z3c l m=(x,()):=by simp[z3c,h]
structure jb where
 m:List (B0×Thg)
 r:List (B0×MN)
 n:Int
structure jb.Ok(a:jb):Prop where
 lo:0≤a.n
 hi:a.n<1000000000
 gen:∀x,0≤(JR a.m x).gen∧(JR a.m x).gen≤a.n
 fm:a.m.length≤a.n
 fr:a.r.length≤a.n
abbrev shB(b bc br:Nat)(n:Int):Seg:=[Cl b MX [.pointer (some ⟨bc,0,none⟩),.pointer (some ⟨br,0,none⟩),I n]]
def ShS(b:Nat)(a:jb)(s:Seg):Prop:=a.Ok∧∃bc br sc sr,lu bc a.m sc∧de br a.r sr∧s=shB b bc br a.n++(sc++sr)
def rz(m:List (B0×Thg))(n x:B0)(t:Thg):JR (zX m n t) x=if n=x then t else JR m x:=by
 unfold JR;rw[ya];split<;>rfl
def Hd(m:List (B0×MN))(n x:B0)(t:MN):Kd (zX m n t) x=if n=x then t else Kd m x:=by
 unfold Kd;rw[ya];split<;>rfl
def tH{κ υ:Type}[DecidableEq κ](m:List (κ×υ))(k:κ)(u:υ):(zX m k u).length≤m.length+1:=by
 cases h:zr m k with
 | none=>rw[Xy h];simp
 | some v=>rw[tG h];omega
def VE(a:jb)(c:Cfg)(ver:Int):jb×Int×Int:=
 if XJ c≠0 then(a,0,XJ c)else if pU (JR a.m c.1) ver true≠0 then(a,0,pU (JR a.m c.1) ver true)else(⟨rX a.m c.1 c (a.n+1),a.r,a.n+1⟩,a.n+1,0)
def z1i(h:St w0 E w)(i:Nat){b:Nat}{a:jb}{s:Seg}(hi:nth E i=some s)(hs:ShS b a s)(hn:a.n<900000000){c:Cfg}{ver:Int}{k:Int×Int×Unit→PT}
  (hk:∀s' w',ShS b (VE a c ver).1 s'→St w0 (zd E i s') w'→k ((VE a c ver).2.1,(VE a c ver).2.2,()) w') :
  L.call Pr Xu [pO b,.agg (Cfg.cells c).toArray,I ver] (.tup [.one (.int .i64),.one (.int .i64)]) k w:=by
 have hs0:=hs;obtain⟨ok,bc,br,sc,sr,hC,hR,rfl⟩:=hs;have hlo:=ok.lo;refine za (Gg _ c _) ?_;unfold UA;have h:=(h.front i hi).split3;refine nw h ?_;clear h;intro b1 w h
 (refine laC h ?_)
 refine AX (c:=c) h λw h=>?_;unfold VE at hk;refine jd ?_;refine it (λhe=>?_) (λhe=>?_)<;>(try simp only[zB]at he)
 ·(refine dr h ?_;clear h;intro w h;refine nn ?_;refine ldC h ?_;refine ldC h ?_)
  refine z3u h 2 rfl hC λw h=>?_;rw[if_neg (by simpa using he)]at hk;refine it (λhm=>?_) (λhm=>?_)<;>(try simp only[zB]at hm)
  ·rw[if_pos hm]at hk;exact⟨_,rfl,hk _ w hs0 (St.back i hi (zm h).glue3)⟩
  ·rw[if_neg (by simpa using hm)]at hk
   (refine nn ?_;refine ldC h ?_;refine nn ?_;refine stC h ?_;clear h;intro w h;dsimp only[zJ,zd]at h;refine dr h ?_;clear h;intro w h;refine nn ?_;refine ldC h ?_;refine ldC h ?_;refine laC h ?_;refine nn ?_;refine ldC h ?_)
   rw[wr (by omega) (by omega)]at h ⊢;have hgc:=ok.gen c.1;refine z3q (c:=c) h 2 rfl hC (by omega) λsc' w hC' h=>?_;have h:St w0 ([Cl b1 zA (Cfg.cells c)]::shB b bc br (a.n+1)::sc'::sr::Zv E i) w:=h
   (refine nn ?_;refine ldC h ?_)
   refine⟨(a.n+1,0,()),rfl,hk _ w ⟨⟨by simp only;omega,by simp only;omega,λx=>?_,?_,?_⟩,bc,br,sc',sr,hC',hR,rfl⟩ (St.back i hi (zm h).glue3)⟩
   ·simp only[rX];rw[rz];have hx:=ok.gen x;split
    ·simp only[CA,Thg.gen];split<;>constructor<;>(simp only[Thg.gen]at hgc ⊢;omega)
    ·omega
   ·have:=ok.fm;have:=tH a.m c.1 (CA c (a.n+1) (if(JR a.m c.1).is=true∧kB (fq (JR a.m c.1)) c=true then(JR a.m c.1).gen else(JR a.m c.1).gen+1) true);simp only[rX];omega
   ·have:=ok.fr;simp only;omega
 ·refine it (λhm=>?_) (λhm=>?_)<;>(try simp only[zB]at hm)
  ·rw[if_pos he]at hk;exact⟨_,rfl,hk _ w hs0 (St.back i hi (zm h).glue3)⟩
  ·exact(he hm).elim
def z0R{T:List (B0×Rv)}{n:B0}(h:∀p∈T,p.2.1=p.1∧p.1≠s_){t:Rv}(hm:zr T n=some t):t.1=n∧n≠s_:=by
 have:=yK hm;have h2:=h _ this;exact h2
def z2G(x6:Rv):Bool:=!((x6.1 == s_)&&((x6.2.1 == 0)&&((x6.2.2.1 == s_)&&((x6.2.2.2.1 == 0)&&((x6.2.2.2.2.1 == 0)&&((x6.2.2.2.2.2.1 == 0)&&((x6.2.2.2.2.2.2.1 == 0)&&((x6.2.2.2.2.2.2.2.1 == 0)&&true))))))))
def z1W{t:Rv}(ht:t.1≠s_):z2G t=true:=by
 have:(t.1 == s_)=false:=by
  cases e:(t.1 == s_) with
  | false=>rfl
  | true=>exact absurd (cO.1 e) ht
 unfold z2G;rw[this];rfl
def Eg(h:St w0 E w)(i:Nat){b:Nat}{a:yY}{s:Seg}(hi:nth E i=some s)(hs:BkS b a s){c:Cfg}{g:Nat}(hc:yp c.1.data.toList 16=true)(h1:1≤g)(hg:g<100)(hf:a.all.length<999999){k:B0×Bool×Unit→PT}
  (hk:∀s' w',BkS b (XY a c g).1 s'→St w0 (zd E i s') w'→k ((XY a c g).2.1,(XY a c g).2.2,()) w') :
  L.call Pr uT [pO b,.agg (Cfg.cells c).toArray,I g] (.tup [.one .str,.one .bool]) k w:=by
 have hs0:=hs;obtain⟨ok,rA,rP,sA,sP,hA,hP,rfl⟩:=hs;refine za (Pn _ c _) ?_;unfold oo;have hne:=z07 c.1 hg;unfold XY jL at hk;have h:=(h.front i hi).split3;refine nw h ?_;clear h;intro b1 w h
 (refine ldC h ?_)
 refine z2h h QG hc h1 hg λw h=>?_;generalize qh c.1 g=rev at hk hne;refine itF (by rw[JW];exact decide_eq_false hne) ?_
 (refine nn ?_;refine ldC h ?_)
 refine Ay h 2 rfl hA ?_;unfold L.chkSem
 cases hm:zr a.all rev with
 | none=>
  rw[hm]at hk;refine⟨z2F w,itF rfl ?_⟩;rw[if_neg (by simp)]at hk
  (refine dr h ?_;clear h;intro w h;refine nn ?_;refine ldC h ?_;refine laC h ?_)
  refine MpS.set ve De h 2 rfl hA (rK rev g c) rfl λsA' w hA' h=>?_;dsimp only[zd]at h;refine⟨(rev,true,()),rfl,hk _ w ⟨⟨?_,?_⟩,rA,rP,sA',sP,hA',hP,rfl⟩ (St.back i hi (zm h).glue3)⟩
  ·intro p hp;rcases Zp hp with rfl | hp
   ·exact⟨rfl,hne⟩
   ·exact ok.name p hp
  ·have:=tH a.all rev (rK rev g c);show(zX a.all rev (rK rev g c)).length<1000000;omega
 | some t=>
  rw[hm]at hk;have ht:=z0R ok.name hm;have ht1:t.1≠s_:=by rw[ht.1];exact ht.2
  dsimp only[Option.getD];refine⟨(z2E t ht1 w).trans (by show _=Result.ok (Value.bool (z2G t)) w;rw[z1W ht1]),itT (z1W ht1) ?_⟩;rw[if_pos (by rfl)]at hk;exact⟨(rev,false,()),rfl,hk _ w hs0 (St.back i hi (zm h).glue3)⟩
def lm(h:St w0 E w)(i:Nat){s:Seg}(hi:nth E i=some s){r:Nat}{m:List (B0×Rv)}(hm:MpS Value.string vRv r m s)(hn:m.length<1000000000){k:Sl→PT}
  (hk:∀v s' w',Rw eS zc 1 v (yZ (m.map (·.1))) s'→St w0 (s'::E) w'→k v w'):L.call Pr Yb [.map (some r)] (.one (.one .slice)) k w:=by
 refine za (vw _) ?_;unfold xR;refine za (Jj _) ?_;unfold yL;have h:=h.front i hi;refine nw h ?_;clear h;intro c w h;refine⟨⟨.func zM,#[],#[.pointer (some ⟨c,0,none⟩)]⟩,rfl,?_⟩;have hY:nZ Pr w0 [[Cl c zZ [.map (some r)]],s] (.func (.func zM) #[] #[.pointer (some ⟨c,0,none⟩)]) (m.map (·.1)) Value.string:=by
  intro yv R J Jd F w h hJ step fin fin2;refine⟨jS,jT yv ⟨c,0,none⟩ ?_⟩;unfold yB;exact Mb (kv:=Value.string) (vv:=vRv) unS (λ_=>rfl) De (lk:=.str) (ev:=eRv) (λx=>x) (λ_=>rfl) (λx:Rv=>x) (λ_=>rfl) J Jd hm h hJ (λseen k F X w hl hJ h=>step seen k F X w (by simpa using hl) hJ h) fin fin2
 refine VB (fv:=⟨.func zM,#[],#[.pointer (some ⟨c,0,none⟩)]⟩) hY h (by simpa using hn) λv s' w hr h=>⟨v,rfl,hk v s' w hr ?_⟩;have h:=yO h;exact St.again (i+1) (E:=s'::E) hi h
def XB(a:yY):List B0:=yZ (a.all.map (·.1))
def sE(h:St w0 E w)(i:Nat){b:Nat}{a:yY}{s:Seg}(hi:nth E i=some s)(hs:BkS b a s){k:Sl→PT}(hk:∀v s' w',Rw eS zc 1 v (XB a) s'→St w0 (s'::E) w'→k v w') :
  L.call Pr vW [pO b] (.one (.one .slice)) k w:=by
 obtain⟨ok,rA,rP,sA,sP,hA,hP,rfl⟩:=hs;refine za (Cb _) ?_;unfold gN;have h:=(h.front i hi).split3;have hf:=ok.few
 (refine nn ?_;refine ldC h ?_)
 refine lm h 1 rfl hA (by omega) λv s' w hr h=>?_;refine Tf h (Rw.rd yh h 0 rfl hr) (by rw[jp,List.length_map];omega) (Rw.nil0 yh hr) λv' s2 w hr2 _ h=>⟨v',rfl,hk v' s2 w hr2 ?_⟩;have h:=Yf h;have h:=YA (YA (YA h));have h:=h.glue3;exact St.again (i+1) (E:=s2::E) hi h
def GL(a:yY)(c:B0)(q:B0→Bool)(t:Rv)(rev:B0):Rv:=
 if(qo a rev).2.2.1=c then if t.2.1<(qo a rev).2.1 then if q rev=true then qo a rev else t else t else t
def cN(a:yY)(c:B0)(q:B0→Bool):Rv:=(XB a).foldl (GL a c q) fM
def bO(h:St w0 E w)(i:Nat){b:Nat}{a:yY}{s:Seg}(hi:nth E i=some s)(hs:BkS b a s){c:B0}{fv:FV}{q:B0→Bool}
  (hq:∀{E':List Seg}{w:World}{x:B0}{k:Bool→PT},St w0 (s::E') w→(∀w',St w0 (s::E') w'→k (q x) w')→L.callV Pr (.func fv.fn fv.fs fv.cs) [.string x] (.one (.one .bool)) k w) {k:B0→PT}
  (hk:∀w',St w0 E w'→k (cN a c q).1 w'):L.call Pr Xk [pO b,.string c,fv.val] (.one (.one .str)) k w:=by
 obtain⟨ok,rA,rP,sA,sP,hA,hP,rfl⟩:=hs;refine za (Mv _ _ fv) ?_;unfold kM;have h:=(h.front i hi).split3;have hf:=ok.few;refine nw h ?_;clear h;intro b1 w h
 (refine stC h ?_;clear h;intro w h;dsimp only[zJ,zd]at h;refine nn ?_;refine ldC h ?_)
 refine lm h 2 rfl hA (by omega) λv s' w hr h=>?_;have hl:(yZ (a.all.map (·.1))).length<1000000000:=by rw[jp,List.length_map];omega
 have hlen:=Rw.len yh hr;unfold cN XB at hk;generalize yZ (a.all.map (·.1))=l at *
 refine zT (λq' y w=>∃(j:Nat),@Eq Int y.1 j∧q'+j=l.length∧St w0 (s'::[Cl b1 zU (rvC ((l.take j).foldl (GL a c q) fM))]::bkB b rA rP::sA::sP::Zv E i) w) l.length ⟨0,rfl,rfl,h⟩ ?_;clear h;rintro q' ⟨y,⟨⟩⟩ w ⟨j,hy,hq',h⟩ again hag;simp only at hy;subst hy;refine it (λhb=>?_) (λhb=>?_)<;>(try simp only[zB]at hb)
 ·have hj:j<l.length:=by omega
  have hx:l[j]? = some l[j]:=List.getElem?_eq_getElem hj;have next:∀{w}{t:Rv},GL a c q ((l.take j).foldl (GL a c q) fM) l[j]=t→St w0 (s'::[Cl b1 zU (rvC t)]::bkB b rA rP::sA::sP::Zv E i) w→again (Wi ((j:Int)+1),()) w:=by
   intro w t ht h;refine hag (q'-1) _ w (by omega) ⟨j+1,?_,by omega,?_⟩
   ·show Wi _=_;rw[wr (by omega) (by omega)];omega
   ·rw[List.take_succ,hx,Option.toList_some,List.foldl_append,List.foldl_cons,List.foldl_nil,ht];exact h
  generalize (l.take j).foldl (GL a c q) fM=t at h next
  unfold GL qo at next
  generalize l[j]=x at hx next
  refine jd ?_;refine Rw.ix yh hr (by omega) (by simpa using hj) λea ha=>?_;refine Rw.ld0 yh h 0 rfl hr ha (x:=x) (by simpa using hx) rfl rfl ?_
  (refine nn ?_;refine ldC h ?_)
  refine Ay h 3 rfl hA ?_;generalize (zr a.all x).getD fM=r at next
  refine nw h ?_;clear h;intro b4 w h
  (refine stC h ?_;clear h;intro w h;dsimp only[zJ,zd]at h;refine ldC h ?_)
  rw[JW];refine it (λh1=>?_) (λh1=>?_)<;>(try simp only[zB]at h1)
  ·rw[if_pos h1]at next
   (refine ldC h ?_;refine ldC h ?_)
   refine it (λh2=>?_) (λh2=>?_)<;>(try simp only[zB]at h2)
   ·rw[if_pos h2]at next
    have h:=Js (Js (Js h));refine hq h.glue3 λw h=>?_;have h:=h.split3;refine it (λh3=>?_) (λh3=>?_)<;>(try simp only[zB]at h3)
    ·rw[if_pos h3]at next
     (refine laC h ?_;refine stC h ?_;clear h;intro w h;dsimp only[zJ,zd]at h)
     refine next rfl ?_
     have h:=VP h;have h:=Yh (Yh (ZL (ZL (ZL h))));exact h
    ·rw[if_neg (by simp[h3])]at next
     refine next rfl ?_
     have h:=VP h;have h:=Yh (Yh (ZL (ZL (ZL h))));exact h
   ·rw[if_neg (by omega)]at next
    exact next rfl (zm h)
  ·rw[if_neg h1]at next
   exact next rfl (zm h)
 ·have e:l.take j=l:=List.take_of_length_le (by omega);rw[e]at h
  (refine ldC h ?_)
  exact⟨_,rfl,hk w (St.again i hi (zm (zm h)).glue3)⟩
def z3a(a:yY)(c:B0):B0:=(cN a c λ_=>true).1
def Ds(a:yY)(c:B0):B0:=(cN a c (xQ a)).1
def aO(h:St w0 E w)(i:Nat){b:Nat}{a:yY}{s:Seg}(hi:nth E i=some s)(hs:BkS b a s){c:B0}{k:B0×B0×Unit→PT}(hk:∀w',St w0 E w'→k (z3a a c,Ds a c,()) w') :
  L.call Pr uf [pO b,.string c] (.tup [.one .str,.one .str]) k w:=by
 refine za (Mw _ _) ?_;unfold kN;refine bO h i hi hs (fv:=⟨.func xq,#[],#[]⟩) (q:=λ_=>true) (λ{E' w x k} h hk=>?_) λw h=>?_
 ·refine jK (fs:=#[]) (cs:=#[]) fU (Fc x) ?_;unfold vH;exact⟨true,rfl,hk w h⟩
 refine bO h i hi hs (fv:=⟨.func Yv,#[.pointer (some ⟨b,0,none⟩)],#[]⟩) (q:=xQ a) (λ{E' w x k} h hk=>?_) λw h=>⟨(_,_,()),rfl,hk w h⟩;obtain⟨ok,rA,rP,sA,sP,hA,hP,rfl⟩:=hs;refine jK (fs:=#[.pointer (some ⟨b,0,none⟩)]) (cs:=#[]) Mq (kX _ _) ?_;unfold ul;have h:=h.split3
 (refine nn ?_;refine ldC h ?_)
 refine MpS.get ve lC z1N (λt:Bool=>t) (λ_=>rfl) h 2 rfl hP ?_;refine⟨_,rfl,?_⟩;have:((zr a.pv x).map λt:Bool=>t).getD false=xQ a x:=by unfold xQ;cases zr a.pv x<;>rfl
 rw[this];exact hk w h.glue3
end Go.Proofs.YtimahgbgejngiaaGreatDoor

namespace Go.Proofs
open Go.Shelf
def Tryz.laysM171_ren:Go.Shelf.Ren:=⟨fun | 171=>72 | 243=>133 | 246=>208 | 283=>264 | 284=>265 | 285=>266 | 286=>267 | 129=>254 | 317=>301 | 318=>302 | 319=>303 | 320=>304 | 337=>316 | 338=>317 | n=>n,fun | 3=>3 | 9=>9 | 2=>2 | 4=>4 | 171=>421 | 0=>0 | 53=>412 | 37=>48 | 5=>5 | 173=>423 | 212=>456 | 51=>410 | 20=>20 | 213=>457 | 46=>349 | 232=>481 | 233=>482 | n=>n,fun | 17=>1 | 18=>4 | 19=>5 | n=>n⟩
def Tryz.laysM171:Go.Proofs.LaysM.n171 Tryz.prog Tryz.laysM171_ren:={
 mixed:=by kernel_rfl
 f129:=Tryz.func254.trans cS
 f171:=Tryz.func72.trans cS
 f243:=Tryz.func133.trans cS
 f246:=Tryz.func208.trans cS
 f283:=Tryz.func264.trans cS
 f284:=Tryz.func265.trans cS
 f285:=Tryz.func266.trans cS
 f286:=Tryz.func267.trans cS
 f317:=Tryz.func301.trans cS
 f318:=Tryz.func302.trans cS
 f319:=Tryz.func303.trans cS
 f320:=Tryz.func304.trans cS
 f337:=Tryz.func316.trans cS
 f338:=Tryz.func317.trans cS
 t0:=Tryz.underlying0
 a0:=Tryz.isAgg0
 z0:=Tryz.sizeOf0
 v0:=Tryz.zeroValue0
 t2:=Tryz.underlying2
 a2:=Tryz.isAgg2
 z2:=Tryz.sizeOf2
 v2:=Tryz.zeroValue2
 t3:=Tryz.underlying3
 a3:=Tryz.isAgg3
 z3:=Tryz.sizeOf3
 v3:=Tryz.zeroValue3
 t4:=Tryz.underlying4
 a4:=Tryz.isAgg4
 z4:=Tryz.sizeOf4
 v4:=Tryz.zeroValue4
 t5:=Tryz.underlying5
 a5:=Tryz.isAgg5
 z5:=Tryz.sizeOf5
 v5:=Tryz.zeroValue5
 t9:=Tryz.underlying9
 a9:=Tryz.isAgg9
 z9:=Tryz.sizeOf9
 v9:=Tryz.zeroValue9
 t20:=Tryz.underlying20
 a20:=Tryz.isAgg20
 z20:=Tryz.sizeOf20
 v20:=Tryz.zeroValue20
 t37:=Tryz.underlying48
 a37:=Tryz.isAgg48
 z37:=Tryz.sizeOf48
 v37:=Tryz.zeroValue48
 t46:=Tryz.underlying349
 a46:=Tryz.isAgg349
 z46:=Tryz.sizeOf349
 v46:=Tryz.zeroValue349
 t51:=Tryz.underlying410
 a51:=Tryz.isAgg410
 z51:=Tryz.sizeOf410
 v51:=Tryz.zeroValue410
 t53:=Tryz.underlying412
 a53:=Tryz.isAgg412
 z53:=Tryz.sizeOf412
 v53:=Tryz.zeroValue412
 t171:=Tryz.underlying421
 a171:=Tryz.isAgg421
 z171:=Tryz.sizeOf421
 v171:=Tryz.zeroValue421
 t173:=Tryz.underlying423
 a173:=Tryz.isAgg423
 z173:=Tryz.sizeOf423
 v173:=Tryz.zeroValue423
 t212:=Tryz.underlying456
 a212:=Tryz.isAgg456
 z212:=Tryz.sizeOf456
 v212:=Tryz.zeroValue456
 t213:=Tryz.underlying457
 a213:=Tryz.isAgg457
 z213:=Tryz.sizeOf457
 t232:=Tryz.underlying481
 a232:=Tryz.isAgg481
 z232:=Tryz.sizeOf481
 v232:=Tryz.zeroValue481
 t233:=Tryz.underlying482
 a233:=Tryz.isAgg482
 z233:=Tryz.sizeOf482
 v233:=Tryz.zeroValue482
 g17:=by kernel_rfl
 g18:=by kernel_rfl
 g19:=by kernel_rfl
 i0:=by kernel_rfl
 i2:=by kernel_rfl
 i3:=by kernel_rfl
 i4:=by kernel_rfl
 i5:=by kernel_rfl
 i9:=by kernel_rfl
 i20:=by kernel_rfl
 i37:=by kernel_rfl
 i46:=by kernel_rfl
 i51:=by kernel_rfl
 i53:=by kernel_rfl
 i171:=by kernel_rfl
 i173:=by kernel_rfl
 i212:=by kernel_rfl
 i232:=by kernel_rfl
 i233:=by kernel_rfl
 m17:=by kernel_rfl
 m18:=by kernel_rfl
 m19:=by kernel_rfl }
open Go.RowKit Go.Sort Go.Lib in
def Tryz.strconv_Itoa (n : Int) (h0 : -9223372036854775808 ≤ n) (h1 : n ≤ 9223372036854775807) (w : World) (htab : Lib.TabIs Tryz.prog w "internal/strconv.uint64pow10" .u64 Lib.pow10Tab) :
  Calls Tryz.prog 72 #[.int .i64 n] w λe w'=>e = .returned (.string ⟨(Lib.itoa n).toArray⟩)∧∃k os,w'=grow (w.drewN k) os:=Any.strconv_Itoa Tryz.laysM171 n h0 h1 w htab
end Go.Proofs

namespace Go.Proofs
open Go.Shelf
def Tryz.lays156_ren:Go.Shelf.Ren:=⟨fun | 156=>73 | 165=>134 | 166=>135 | 169=>136 | 240=>209 | 241=>210 | 276=>268 | 277=>269 | n=>n,fun | 31=>40 | 9=>9 | 3=>3 | 4=>4 | 0=>0 | 20=>20 | 72=>261 | 76=>264 | 70=>259 | 37=>48 | 75=>263 | 127=>369 | 164=>425 | 5=>5 | 80=>82 | n=>n,fun | n=>n⟩
def Tryz.lays156:Go.Proofs.Lays.n156 Tryz.prog Tryz.lays156_ren:={
 mixed:=by kernel_rfl
 f156:=Tryz.func73.trans cS
 f165:=Tryz.func134.trans cS
 f166:=Tryz.func135.trans cS
 f169:=Tryz.func136.trans cS
 f240:=Tryz.func209.trans cS
 f241:=Tryz.func210.trans cS
 f276:=Tryz.func268.trans cS
 f277:=Tryz.func269.trans cS
 t0:=Tryz.underlying0
 a0:=Tryz.isAgg0
 z0:=Tryz.sizeOf0
 v0:=Tryz.zeroValue0
 t3:=Tryz.underlying3
 a3:=Tryz.isAgg3
 z3:=Tryz.sizeOf3
 v3:=Tryz.zeroValue3
 t4:=Tryz.underlying4
 a4:=Tryz.isAgg4
 z4:=Tryz.sizeOf4
 v4:=Tryz.zeroValue4
 t9:=Tryz.underlying9
 a9:=Tryz.isAgg9
 z9:=Tryz.sizeOf9
 v9:=Tryz.zeroValue9
 t20:=Tryz.underlying20
 a20:=Tryz.isAgg20
 z20:=Tryz.sizeOf20
 v20:=Tryz.zeroValue20
 t31:=Tryz.underlying40
 a31:=Tryz.isAgg40
 z31:=Tryz.sizeOf40
 v31:=Tryz.zeroValue40
 t37:=Tryz.underlying48
 a37:=Tryz.isAgg48
 z37:=Tryz.sizeOf48
 v37:=Tryz.zeroValue48
 t70:=Tryz.underlying259
 a70:=Tryz.isAgg259
 z70:=Tryz.sizeOf259
 v70:=Tryz.zeroValue259
 t72:=Tryz.underlying261
 a72:=Tryz.isAgg261
 z72:=Tryz.sizeOf261
 v72:=Tryz.zeroValue261
 t75:=Tryz.underlying263
 a75:=Tryz.isAgg263
 z75:=Tryz.sizeOf263
 v75:=Tryz.zeroValue263
 t76:=Tryz.underlying264
 a76:=Tryz.isAgg264
 z76:=Tryz.sizeOf264
 v76:=Tryz.zeroValue264
 t127:=Tryz.underlying369
 a127:=Tryz.isAgg369
 z127:=Tryz.sizeOf369
 v127:=Tryz.zeroValue369
 t164:=Tryz.underlying425
 a164:=Tryz.isAgg425
 z164:=Tryz.sizeOf425
 v164:=Tryz.zeroValue425 }
def Tryz.Builder_Extra_156:Builder.Extra Tryz.prog Tryz.lays156_ren:={
 sizeBuilder:=by kernel_rfl
 liesBuilder:=by kernel_rfl
 t5:=Tryz.underlying5
 a5:=Tryz.isAgg5
 z5:=Tryz.sizeOf5
 v5:=Tryz.zeroValue5
 infoByte:=by kernel_rfl
 cellsByte:=by kernel_rfl
 sizeByte:=by kernel_rfl
 neB5:=by decide }
open Go.RowKit in
def Tryz.strings_Join(bk o c:Nat)(xs:List B0)(sep:B0)(w:World)
  (hcells:∀(j:Nat) x,xs[j]? = some x→w.cell? ⟨bk,o+j,none⟩=some (.string x))
  (hbk:bk<w.heap.size) (hN:xs.length≤140737488355328) (hcap:xs.length≤c)
  (hlen:(Lib.join (xs.map (·.data.toList)) sep.data.toList).length≤140737488355328) :
  Calls Tryz.prog 73 #[.slice (some ⟨bk,o,none⟩) xs.length c,.string sep] w λe w'=>e = .returned (.string ⟨(Lib.join (xs.map (·.data.toList)) sep.data.toList).toArray⟩)∧Below w.heap.size w w':=Any.strings_Join Tryz.lays156 Tryz.Builder_Extra_156 bk o c xs sep w hcells hbk hN hcap hlen
end Go.Proofs
namespace Go.Proofs.YtimahgbgejngiaaGreatDoor
open Go.Dm
attribute [local irreducible] L.load L.store L.chk L.new L.nonnil L.guard L.ite L.draw L.idx L.sem L.semR L.semU L.chkSem L.next L.call L.callV L.join L.alts L.loop L.begin L.endRound L.range
variable {w0 w:World}{E:List Seg}
abbrev xi(w0:World):=Tab Pr w0
def sH [xi w0](h:St w0 E w){n:Int}(h0:0≤n)(h1:n≤9223372036854775807){k:B0→PT}(hk:∀w',St w0 E w'→k (ju n.toNat) w'):L.call Pr Xr [I n] (.one (.one .str)) k w:=by
 refine Vj (Tryz.strconv_Itoa n (by omega) h1 w h.tab) λe w' ⟨he,m,os,hw⟩=>⟨ju n.toNat,?_,?_⟩
 ·rw[he,←HM,Int.toNat_of_nonneg h0];rfl
 ·subst hw;exact hk _ ((h.drawn).grow os)
def Lz(h:St w0 E w)(i:Nat){s:Seg}(hi:nth E i=some s){v:Sl}{l:List B0}(hr:Rw eS zc 1 v l s)(hn:l.length<1000000000)(hsz:(kH l).size<1000000000000){k:B0→PT}(hk:∀w',St w0 E w'→k (kH l) w') :
  L.call Pr US [SlV v,.string gm] (.one (.one .str)) k w:=by
 refine HL (e:=zc) (s:=s) (v:=v) (l:=l) rfl yh (λg off cap w h1 h2 h3=>Tryz.strings_Join g off cap l gm w h1 h2 (by omega) h3 ?_) (λp cap w=>Any.strings_Join_none Tryz.lays156 Tryz.Builder_Extra_156 p cap gm w) h i hi hr hk;have:(kH l).size=(Lib.join (l.map (·.data.toList)) [32]).length:=by rw[←Xn,Vh]
 show(Lib.join (l.map (·.data.toList)) [32]).length≤_;omega
def VG(r:B0):Prop:=r=s_∨∃c g,yp c.data.toList 16=true∧1≤g∧g<100∧r=qh c g
def Fp(t:B0):Bool:=!decide (t=s_)&& !yp t.data.toList 8
def tgE(t:Tgt):Int:=if Fp t.2.1=true then 1 else if 0≤@id Int t.2.2.1∧@id Int t.2.2.1≤100 then 0 else 2
def z2u(c:B0){g:Nat}(hg:g<100):qh c g≠s_:=λe=>by
 have:=gq c hg;rw[e]at this;have h0:s_.size=0:=rfl;omega
def Id(h:St w0 E w){t:Tgt}(hr:VG t.1){k:Int→PT}(hk:∀w',St w0 E w'→k (tgE t) w'):L.call Pr OL [.agg #[.string t.1,.string t.2.1,I t.2.2.1]] (.one (.one (.int .i64))) k w:=by
 refine za (wo t) ?_;unfold ph;refine nw h ?_;clear h;intro b1 w h
 (refine ldC h ?_)
 have fin:∀{w},St w0 ([Cl b1 zG [.string t.1,.string t.2.1,I t.2.2.1]]::E) w→
   (L.ite (Fp t.2.1) (λw'=>∃y,Value.int .i64 1=RT.val (.one (.one (.int .i64))) y∧k y w')<|
    L.load (.one (.int .i64)) ((⟨b1,0,none⟩:Addr).add 2) λ(x13:Int)=>
    L.callV Pr (.func (.func yu) #[.agg #[.int .i64 0,.int .i64 100]] #[]) [.int .i64 x13] (.one (.one (.bool))) λ(x14:Bool)=>
    L.ite (!x14) (λw'=>∃y,Value.int .i64 2=RT.val (.one (.one (.int .i64))) y∧k y w')<|
    λw'=>∃y,Value.int .i64 0=RT.val (.one (.one (.int .i64))) y∧k y w') w:=by
  intro w h;refine it (λhb=>?_) (λhb=>?_)
  ·have:=hk w (zm h);unfold tgE at this;rw[if_pos hb]at this;exact⟨1,rfl,this⟩
  ·(refine ldC h ?_)
   refine jK (fs:=#[.agg #[.int .i64 0,.int .i64 100]]) (cs:=#[]) dD (fL (0,100,()) t.2.2.1) ?_;unfold ku;refine nw h ?_;clear h;intro b2 w h
   (dsimp only[zd,List.cons_append,List.nil_append]at h;refine ldC h ?_)
   have fin2:∀{w},∀b:Bool,(b=decide (0≤@id Int t.2.2.1∧@id Int t.2.2.1≤100))→St w0 ([Cl b2 CY [I 0,I 100]]::[Cl b1 zG [.string t.1,.string t.2.1,I t.2.2.1]]::E) w→(∃x,Value.bool b=RT.val (.one (.one .bool)) x∧
     (L.ite (!x) (λw'=>∃y,Value.int .i64 2=RT.val (.one (.one (.int .i64))) y∧k y w')<| λw'=>∃y,Value.int .i64 0=RT.val (.one (.one (.int .i64))) y∧k y w') w):=by
    intro w b e h;refine⟨b,rfl,?_⟩;have:=hk w (zm (zm h));unfold tgE at this;rw[if_neg (by simp[hb])]at this;refine it (λhx=>?_) (λhx=>?_)
    ·have hx:b=false:=by simpa using hx
     rw[if_neg (of_decide_eq_false (e.symm.trans hx))]at this;exact⟨2,rfl,this⟩
    ·have hx:b=true:=by simpa using hx
     rw[if_pos (of_decide_eq_true (e.symm.trans hx))]at this;exact⟨0,rfl,this⟩
   refine it (λh0=>?_) (λh0=>?_)
   ·have h0:=of_decide_eq_true h0
    (refine ldC h ?_)
    refine fin2 _ ?_ h;exact decide_eq_decide.2 ⟨λhh=>⟨h0,hh⟩,λhh=>hh.2⟩
   ·have h0:=of_decide_eq_false h0;exact fin2 _ (decide_eq_false λhh=>h0 hh.1).symm h
 have tag:∀{w}{k4:Bool×Unit→PT},(∀w',St w0 ([Cl b1 zG [.string t.1,.string t.2.1,I t.2.2.1]]::E) w'→k4 (Fp t.2.1,()) w')→St w0 ([Cl b1 zG [.string t.1,.string t.2.1,I t.2.2.1]]::E) w→
   (L.load (.one (.str)) ((⟨b1,0,none⟩:Addr).add 1) λ(x7:B0)=>
    L.ite (!(x7.toList == s_.toList)) (
     L.load (.one (.str)) ((⟨b1,0,none⟩:Addr).add 1) λ(x8:B0)=>
     L.call Pr JK [.string x8] (.one (.one (.bool))) λ(x9:Bool)=>
     k4 (!x9,()))<|
    k4 (false,())) w:=by
  intro w k4 hk4 h
  (refine ldC h ?_)
  rw[JW];refine it (λhb=>?_) (λhb=>?_)
  ·have hb:decide (t.2.1=s_)=false:=by simpa using hb
   (refine ldC h ?_)
   refine z2g h QG λw h=>?_;have:=hk4 w h;unfold Fp at this;rw[hb]at this;exact this
  ·have hb:decide (t.2.1=s_)=true:=by simpa using hb
   have:=hk4 w h;unfold Fp at this;rw[hb]at this;exact this
 rcases hr with hr | ⟨c,g,hc,h1,hg,hr⟩
 ·rw[hr]at h fin tag ⊢;refine IE ?_;refine Zz (λz w=>z=(Fp t.2.1,())∧St w0 ([Cl b1 zG [.string s_,.string t.2.1,I t.2.2.1]]::E) w) (λk4 hk4=>?_) (λz w ⟨hz,h⟩=>by subst hz;exact fin h)
  (refine ldC h ?_)
  refine itF (by simp) ?_;exact tag (λw h=>hk4 _ w ⟨rfl,h⟩) h
 ·rw[hr]at h fin tag ⊢;refine Dy h QG hc h1 hg λw h=>?_;refine Zz (λz w=>z=(Fp t.2.1,())∧St w0 ([Cl b1 zG [.string (qh c g),.string t.2.1,I t.2.2.1]]::E) w) (λk4 hk4=>?_) (λz w ⟨hz,h⟩=>by subst hz;exact fin h)
  (refine ldC h ?_)
  refine itT (by rw[JW];simp[z2u c hg]) (itF rfl ?_);exact tag (λw h=>hk4 _ w ⟨rfl,h⟩) h
abbrev Wc(g:B0)(x:Tgt):Bool:=decide (x.2.1=g)
def aP{b:Nat}{t:Tgt}(h:St w0 ([Cl b zG (eT t)]::E) w){v:Sl}{ts:List Tgt}(r:RdE w0 E eT v ts)(hn:ts.length<1000000){k:Bool→PT}(hk:∀w',St w0 ([Cl b zG (eT t)]::E) w'→k (ts.any (Wc t.2.1)) w') :
  L.call Pr yF [.slice v.a v.len v.cap,.func (.func QK) #[] #[.pointer (some ⟨b,0,none⟩)]] (.one (.one .bool)) k w:=by
 refine za (XG v ⟨.func QK,#[],#[.pointer (some ⟨b,0,none⟩)]⟩) ?_;unfold je;refine za (qH v ⟨.func QK,#[],#[.pointer (some ⟨b,0,none⟩)]⟩) ?_;unfold jN;have hl:=(r w (zm h)).len;refine zT (λq y w=>∃i:Nat,y=((i:Int),())∧q+i=ts.length∧(ts.take i).any (Wc t.2.1)=false∧St w0 ([Cl b zG (eT t)]::E) w) ts.length ⟨0,rfl,rfl,rfl,h⟩ ?_;clear h;rintro q y w ⟨i,rfl,hq,hno,h⟩ again hag;dsimp only;refine it (λhb=>?_) (λhb=>?_)<;>(try simp only[zB]at hb)
 ·have hi:i<ts.length:=by omega
  have hx:ts[i]? = some ts[i]:=List.getElem?_eq_getElem hi;generalize ts[i]=x at hx;have rr:=r w (zm h);refine rr.ix od (by omega) (by simpa using hi) λa ha=>?_;rw[Int.toNat_natCast]at ha;refine rr.lda od ha hx rfl ?_;refine jK (fs:=#[]) (cs:=#[.pointer (some ⟨b,0,none⟩)]) LC (LL x ⟨b,0,none⟩) ?_;unfold Tn;have h:St w0 ([Cl b zG [.string t.1,.string t.2.1,I t.2.2.1]]::E) w:=h;refine nw h ?_;clear h;intro b1 w h
  (refine ldC h ?_;refine ldC h ?_)
  refine⟨_,rfl,?_⟩;have h:St w0 ([Cl b zG (eT t)]::E) w:=zm h;rw[JW];refine it (λhc=>?_) (λhc=>?_)
  ·refine⟨_,rfl,_,rfl,?_⟩;have e:ts.any (Wc t.2.1)=true:=List.any_eq_true.2 ⟨x,List.mem_of_getElem? hx,hc⟩;have:=hk w h;rw[e]at this;rw[decide_eq_true (show(i:Int)≥0 by omega)];exact this
  ·rw[wr (by omega) (by omega)];refine hag (q-1) _ w (by omega) ⟨i+1,by simp,by omega,?_,h⟩;rw[List.take_add_one,hx,List.any_append,hno];simpa using hc
 ·have e:ts.take i=ts:=List.take_of_length_le (by omega);rw[e]at hno;refine⟨_,rfl,_,rfl,?_⟩;have:=hk w h;rw[hno]at this;exact this
def mS(ts:List Tgt)(i:Nat):Bool:=match ts[i]? with
 | some t=>!decide (t.2.1=s_)&&(ts.take i).any (Wc t.2.1)
 | none=>false
def pct(t:Tgt):Int:=t.2.2.1
def z0U(ts:List Tgt):Int:=if(List.range ts.length).any (mS ts)=true then 5 else if(ts.map pct).sum=100 then 0 else 4
def z2r{l:List Tgt}(h:∀t∈l,0≤pct t∧pct t≤100):0≤(l.map pct).sum∧(l.map pct).sum≤100*l.length:=by
 induction l with
 | nil=>simp
 | cons t l ih=>
  have h1:=h t (by simp);have h2:=ih λx hx=>h x (by simp[hx]);simp only[List.map_cons,List.sum_cons,List.length_cons];omega
def z1g(h:St w0 E w){v:Sl}{ts:List Tgt}(r:RdE w0 E eT v ts)(hvc:v.len≤v.cap)(hn:ts.length≤1000)(hp:∀t∈ts,0≤pct t∧pct t≤100){k:Int→PT}(hk:∀w',St w0 E w'→k (z0U ts) w') :
  L.call Pr pM [.slice v.a v.len v.cap] (.one (.one (.int .i64))) k w:=by
 refine za (aV v) ?_;unfold Nl;have hl:=(r w h).len;refine zT (λq y w=>∃i:Nat,y=(((ts.take i).map pct).sum,(i:Int),())∧q+i=ts.length∧(List.range i).any (mS ts)=false∧St w0 E w) ts.length ⟨0,rfl,rfl,rfl,h⟩ ?_;clear h;rintro q y w ⟨i,rfl,hq,hno,h⟩ again hag;dsimp only;refine it (λhb=>?_) (λhb=>?_)<;>(try simp only[zB]at hb)
 ·have hi:i<ts.length:=by omega
  have hx:ts[i]? = some ts[i]:=List.getElem?_eq_getElem hi;generalize ts[i]=t at hx;have ht:=hp t (List.mem_of_getElem? hx);have hs:=z2r (l:=ts.take i) λx hx=>hp x (List.mem_of_mem_take hx);rw[List.length_take]at hs;have es:((ts.take (i+1)).map pct).sum=((ts.take i).map pct).sum+pct t:=by rw[List.take_add_one,hx];simp
  have tw:mS ts i=(!decide (t.2.1=s_)&&(ts.take i).any (Wc t.2.1)):=by unfold mS;rw[hx]
  have next:∀{w},mS ts i=false→St w0 E w→again (Wi (((ts.take i).map pct).sum+pct t),Wi ((i:Int)+1),()) w:=by
   intro w hf h;rw[wr (by omega) (by omega),wr (by omega) (by omega)];refine hag (q-1) _ w (by omega) ⟨i+1,by rw[es];simp,by omega,?_,h⟩;rw[List.range_succ,List.any_append,hno];simp[hf]
  refine jd ?_;have rr:=r w h;refine rr.ix od (by omega) (by simpa using hi) λa ha=>?_;rw[Int.toNat_natCast]at ha;refine rr.lda od ha hx rfl ?_;refine nw h ?_;clear h;intro b7 w h
  (refine stC h ?_;clear h;intro w h;dsimp only[zJ,zd]at h;refine ldC h ?_;refine ldC h ?_)
  rw[JW];refine it (λhc=>?_) (λhc=>?_)
  ·refine gd (by omega) ?_;have hc:decide (t.2.1=s_)=false:=by simpa using hc
   rw[hc]at tw;have h:St w0 ([Cl b7 zG (eT t)]::E) w:=h;have r2:RdE w0 E eT ⟨if Int.toNat ((v.cap:Nat):Int)=Int.toNat (0:Int)then v.a else Option.map (λa:Addr=>a.add (Int.toNat (0:Int)*3)) v.a,Int.toNat (i:Int)-Int.toNat (0:Int),Int.toNat ((v.cap:Nat):Int)-Int.toNat (0:Int)⟩ (ts.take i):=by
    intro w h;have:=(r w h).cut od 0 i (by omega) (by omega) hvc (v.cap-0);simpa using this
   refine aP h r2 (by rw[List.length_take];omega) λw h=>?_;refine it (λhd=>?_) (λhd=>?_)
   ·have e:(List.range ts.length).any (mS ts)=true:=List.any_eq_true.2 ⟨i,List.mem_range.2 hi,by rw[tw,hd];rfl⟩;have:=hk w (zm h);unfold z0U at this;rw[if_pos e]at this;exact⟨_,rfl,this⟩
   ·have hd:(ts.take i).any (Wc t.2.1)=false:=by simpa using hd
    exact next (by rw[tw,hd];rfl) (zm h)
  ·have hc:decide (t.2.1=s_)=true:=by simpa using hc
   exact next (by rw[tw,hc];rfl) (zm h)
 ·have e:ts.take i=ts:=List.take_of_length_le (by omega);have ei:i=ts.length:=by omega
  rw[e];rw[ei]at hno;have:=hk w h;unfold z0U at this;rw[if_neg (by simp[hno])]at this;refine it (λhs=>?_) (λhs=>?_)<;>(try simp only[zB]at hs)
  ·rw[if_neg hs]at this;exact⟨_,rfl,this⟩
  ·rw[if_pos hs]at this;exact⟨_,rfl,this⟩
def gg(a:ARt):Int:=
 if yp a.name.data.toList 16=true∧yp a.cfg.data.toList 16=true then
  if 0≤a.roll∧a.roll≤60 then
   if 1≤a.ts.length∧a.ts.length≤6 then
    match a.ts.find? λt=>decide (tgE t≠0) with
    | some t=>tgE t
    | none=>z0U a.ts
   else 3
  else 2
 else 1
def EI{t:Tgt}(h:tgE t=0):0≤pct t∧pct t≤100:=by
 unfold tgE at h;split at h
 ·cases h
 ·split at h
  ·rename_i h2;exact h2
  ·cases h
def AW(h:St w0 E w){a:ARt}{v:Sl}(r:RdE w0 E eT v a.ts)(hvc:v.len≤v.cap)(hr:∀t∈a.ts,VG t.1){k:Int→PT}(hk:∀w',St w0 E w'→k (gg a) w') :
  L.call Pr Zh [.agg #[.string a.name,.string a.cfg,.slice v.a v.len v.cap,I a.roll]] (.one (.one (.int .i64))) k w:=by
 refine za (LM (a.name,a.cfg,v,a.roll,())) ?_;unfold To;have hl:=(r w h).len;refine nw h ?_;clear h;intro b1 w h;unfold gg at hk;refine Zz (λz w=>z=(!(yp a.name.data.toList 16&&yp a.cfg.data.toList 16),())∧St w0 ([Cl b1 Zb [.string a.name,.string a.cfg,.slice v.a v.len v.cap,I a.roll]]::E) w) (λk2 hk2=>?_) (λz w ⟨hz,h⟩=>?_)
 ·(dsimp only[zd,List.cons_append,List.nil_append]at h;refine ldC h ?_)
  refine Nj h QG λw h=>?_;refine it (λhc=>?_) (λhc=>?_)
  ·have hc:yp a.name.data.toList 16=false:=by simpa using hc
   rw[hc]at hk2 ⊢;exact hk2 _ w ⟨rfl,h⟩
  ·have hc:yp a.name.data.toList 16=true:=by simpa using hc
   rw[hc]at hk2
   (refine ldC h ?_)
   refine Nj h QG λw h=>?_;exact hk2 _ w ⟨by simp,h⟩
 ·subst hz;dsimp only;have out:∀{w}{x:Int},(∀w',St w0 E w'→k x w')→St w0 ([Cl b1 Zb [.string a.name,.string a.cfg,.slice v.a v.len v.cap,I a.roll]]::E) w→∃y,I x=RT.val (.one (.one (.int .i64))) y∧k y w:=λhx h=>⟨_,rfl,hx _ (zm h)⟩;refine it (λhc=>?_) (λhc=>?_)
  ·have hc:(yp a.name.data.toList 16&&yp a.cfg.data.toList 16)=false:=(Bool.not_eq_true' _).mp hc;rw[if_neg (λhh=>by rw[hh.1,hh.2]at hc;cases hc)]at hk;exact out hk h
  rw[if_pos (by simpa using hc)]at hk
  (refine ldC h ?_)
  refine Vk h λw h=>?_;refine it (λhc=>?_) (λhc=>?_)
  ·have hc:=of_decide_eq_false ((Bool.not_eq_true' _).mp hc);rw[if_neg hc]at hk;exact out hk h
  rw[if_pos (by simpa using hc)]at hk
  (refine ldC h ?_)
  refine Vk h λw h=>?_;refine it (λhc=>?_) (λhc=>?_)
  ·have hc:=of_decide_eq_false (show decide (1≤((v.len:Nat):Int)∧((v.len:Nat):Int)≤6)=false from(Bool.not_eq_true' _).mp hc);rw[if_neg (by omega)]at hk;exact out hk h
  have hc:=of_decide_eq_true (show decide (1≤((v.len:Nat):Int)∧((v.len:Nat):Int)≤6)=true by simpa using hc);rw[if_pos (by omega)]at hk
  (refine ldC h ?_)
  refine zT (λq y w=>∃i:Nat,y=((i:Int),())∧q+i=a.ts.length∧(a.ts.take i).find? (λt=>decide (tgE t≠0))=none∧St w0 ([Cl b1 Zb [.string a.name,.string a.cfg,.slice v.a v.len v.cap,I a.roll]]::E) w) a.ts.length ⟨0,rfl,rfl,rfl,h⟩ ?_;clear h;rintro q y w ⟨i,rfl,hq,hno,h⟩ again hag;dsimp only;refine it (λhb=>?_) (λhb=>?_)<;>(try simp only[zB]at hb)
  ·have hi:i<a.ts.length:=by omega
   have hx:a.ts[i]? = some a.ts[i]:=List.getElem?_eq_getElem hi;have hdr:a.ts=a.ts.take i++a.ts[i]::a.ts.drop (i+1):=by rw[←List.drop_eq_getElem_cons hi,List.take_append_drop]
   generalize a.ts[i]=t at hx hdr;have rr:=r w (zm h);refine rr.ix od (by omega) (by simpa using hi) λad ha=>?_;rw[Int.toNat_natCast]at ha;refine rr.lda od ha hx rfl ?_;refine nw h ?_;clear h;intro b17 w h
   (refine stC h ?_;clear h;intro w h;dsimp only[zJ,zd]at h;refine laC h ?_)
   refine Id (t:=t) h (hr t (List.mem_of_getElem? hx)) λw h=>?_;have h:=zm h;refine it (λhc=>?_) (λhc=>?_)
   ·have hc:tgE t≠0:=by simpa using hc
    have e:a.ts.find? (λt=>decide (tgE t≠0))=some t:=by
     rw[hdr,List.find?_append,hno];simp[hc]
    rw[e]at hk;exact out hk h
   ·have hc:tgE t=0:=by simpa using hc
    rw[wr (by omega) (by omega)];refine hag (q-1) _ w (by omega) ⟨i+1,by simp,by omega,?_,h⟩;rw[List.take_add_one,hx,List.find?_append,hno];simp[hc]
  ·have e:a.ts.take i=a.ts:=List.take_of_length_le (by omega);rw[e]at hno;rw[hno]at hk;have hall:∀t∈a.ts,0≤pct t∧pct t≤100:=λt ht=>EI (by simpa using List.find?_eq_none.1 hno t ht)
   (refine ldC h ?_)
   refine z1g h (λw h=>r w (zm h)) hvc (by omega) hall λw h=>?_;exact out hk h
def rt{v:Sl}{l:List Tgt}(r:Rd w eT v l){n:Int}{x:Tgt}(hx:l[n.toNat]? = some x)(h0:0≤n){f:Nat}{lf:Lf}{u:Value}{y:lf.T}{kk:lf.T→PT}(hu:nth (eT x) f=some u)(hy:un2 lf u=some y)(hk:kk y w) :
  L.idx v.a n v.len 3 (λa=>L.load (.one lf) (a.add f) kk) w:=
 r.ix od h0 (List.getElem?_eq_some_iff.1 hx).1 λa ha=>r.ld od ha hx hu hy hk
abbrev T3:=B0×B0×Int
def rJ(a b:T3):Bool:=(a.1 == b.1)&&((a.2.1 == b.2.1)&&((a.2.2 == b.2.2)&&true))
def Sd(a b:T3):rJ a b=true↔a=b:=by
 obtain⟨a1,a2,a3⟩:=a;obtain⟨b1,b2,b3⟩:=b;have e1:(@BEq.beq B0 _ a1 b1)=true↔a1=b1:=cO;have e2:(@BEq.beq B0 _ a2 b2)=true↔a2=b2:=cO;unfold rJ;simp only[Bool.and_eq_true,beq_iff_eq,and_true,Prod.mk.injEq];exact and_congr e1 (and_congr e2 Iff.rfl)
def iF(a b:T3)(w:World):(Op.equalIn 10000 zG (.agg #[.string a.1,.string a.2.1,I a.2.2]) (.agg #[.string b.1,.string b.2.1,I b.2.2])).run Pr w = .ok (rJ a b) w:=by
 have hS:Pr.underlying zG=some (.struct (Pr.fieldsOf zG)):=by kernel_rfl
 have hp:Pr.stoodInHeld zG=false:=by kernel_rfl
 obtain⟨a1,a2,a3⟩:=a;obtain⟨b1,b2,b3⟩:=b;rw[show(10000:Nat)=9999+1 from rfl,run_equalIn_agg w 9999 zG _ _ hS hp];have u3:=Tryz.underlying3;have i3:=Tryz.isAgg3;have z3:=Tryz.sizeOf3;have u9:=Tryz.underlying9;have i9:=Tryz.isAgg9;have z9:=Tryz.sizeOf9;simp only[Program.fieldsOf,Tryz.underlying38]
 go_simp
 have e1:(ByteArray.toList a1=ByteArray.toList b1)↔(@BEq.beq B0 _ a1 b1)=true:=by rw[beq_toListBytes];simp
 have e2:(ByteArray.toList a2=ByteArray.toList b2)↔(@BEq.beq B0 _ a2 b2)=true:=by rw[beq_toListBytes];simp
 unfold rJ;by_cases h1:(@BEq.beq B0 _ a1 b1)=true
 ·rw[if_pos (e1.2 h1)];simp only[show(a1 == b1)=true from h1,Bool.true_and];by_cases h2:(@BEq.beq B0 _ a2 b2)=true
  ·rw[if_pos (e2.2 h2)];simp only[show(a2 == b2)=true from h2,Bool.true_and];by_cases h3: @Eq Int a3 b3
   ·cases h3;simp
   ·simp[h3]
  ·rw[if_neg (λh=>h2 (e2.1 h))];have:(a2 == b2)=false:=by simpa using h2
   simp[this]
 ·rw[if_neg (λh=>h1 (e1.1 h))];have:(a1 == b1)=false:=by simpa using h1
  simp[this]
def z2V(a b:T3)(w:World):(do eqGuard .eql zG (.tmp 0) (.tmp 0) (.agg #[.string a.1,.string a.2.1,I a.2.2]) (.agg #[.string b.1,.string b.2.1,I b.2.2]);binOp .eql zG (.agg #[.string a.1,.string a.2.1,I a.2.2]) (.agg #[.string b.1,.string b.2.1,I b.2.2]):Sem Value).run Pr w = .ok (.bool (rJ a b)) w:=
 ah (by kernel_rfl) (iF a b w)
def z1j(h:St w0 E w){k:Option Addr→PT}(hk:∀b s w',ShS b ⟨[],[],0⟩ s→St w0 (s::E) w'→k (some ⟨b,0,none⟩) w'):L.call Pr FC [] (.one (.one .ptr)) k w:=by
 refine za bU ?_;unfold dj;refine z1w h λbc sc w hC h=>?_;refine z1v h λbr sr w hR h=>?_;refine nw h ?_;clear h;intro b w h;refine⟨_,rfl,hk b _ w ⟨⟨by simp,by simp,λx=>by simp[JR,zr,AD,Thg.gen],by simp,by simp⟩,bc,br,sc,sr,hC,hR,rfl⟩ ?_⟩;have h:=ZL (ZL (yO h));exact h.glue3
abbrev z0I:E1:=.agg [.str,.int .i64,.int .i64,.int .i64,.int .i64,.int .i64]
def kC:Cfg:=(s_,0,0,0,0,0,())
def jZ(a:jb)(n:B0):Cfg×Int×Int×Bool×Unit:=if(JR a.m n).is=true then(fq (JR a.m n),(JR a.m n).ver,(JR a.m n).gen,true,())else(kC,0,0,false,())
def Nd(h:St w0 E w)(i:Nat){b:Nat}{a:jb}{s:Seg}(hi:nth E i=some s)(hs:ShS b a s){n:B0}{k:z0I.T×Int×Int×Bool×Unit→PT}
  (hk:∀w',St w0 E w'→k (jZ a n) w') :
  L.call Pr xJ [pO b,.string n] (.tup [z0I,.one (.int .i64),.one (.int .i64),.one .bool]) k w:=by
 obtain⟨ok,bc,br,sc,sr,hC,hR,rfl⟩:=hs;refine za (mH _ _) ?_;unfold VV;unfold jZ at hk;have h:=(h.front i hi).split3;refine nw h ?_;clear h;intro b1 w h
 (refine nn ?_;refine ldC h ?_)
 refine z3w h 2 rfl hC λw h=>?_;generalize JR a.m n=t at hk;refine nw h ?_;clear h;intro b5 w h
 (refine stC h ?_;clear h;intro w h;dsimp only[zJ,zd]at h)
 refine it (λhc=>?_) (λhc=>?_)<;>(try simp only[zB]at hc)
 ·(refine stC h ?_;clear h;intro w h;dsimp only[zJ,zd]at h;refine laC h ?_)
  have hc:¬t.is=true:=by simp[Thg.is,hc]
  rw[if_neg hc]at hk;exact⟨(kC,0,0,false,()),rfl,hk w (St.again i hi (zm (zm h)).glue3)⟩
 ·have hc:t.is=true:=by simpa using hc
  rw[if_pos hc]at hk
  (refine dr h ?_;clear h;intro w h;refine laC h ?_;refine ldC h ?_;refine ldC h ?_;refine stC h ?_;clear h;intro w h;dsimp only[zJ,zd]at h;refine ckC h ?_;refine ckC h ?_;refine ckC h ?_;refine laC h ?_)
  exact⟨(fq t,t.ver,t.gen,true,()),rfl,hk w (St.again i hi (zm (zm h)).glue3)⟩
def z5l(m:List (B0×Thg))(n:B0):List (B0×Thg):=zX m n (s_,0,0,0,0,0,0,(JR m n).gen,false,())
def TX(a:jb)(kind:Int)(n:B0)(ver:Int):jb×Int:=
 if kind=1 then(if pU (JR a.m n) ver false=0 then(⟨z5l a.m n,a.r,a.n+1⟩,0)else(a,pU (JR a.m n) ver false))
 else if kind=2 then(if SA (Kd a.r n).is (Kd a.r n).ver ver false=0 then(⟨a.m,z30 a.r n,a.n+1⟩,0)else(a,SA (Kd a.r n).is (Kd a.r n).ver ver false))
 else(a,12)
abbrev sT3(x y:Tgt):Bool:=(x.1 == y.1)&&((x.2.1 == y.2.1)&&((x.2.2.1 == y.2.2.1)&&true))
def z06(x y:Tgt):sT3 x y=true↔x=y:=by
 obtain⟨x1,x2,x3,⟨⟩⟩:=x;obtain⟨y1,y2,y3,⟨⟩⟩:=y;have:=Sd (x1,x2,x3) (y1,y2,y3);simp only[Prod.mk.injEq]at this;refine Iff.trans this ⟨λ⟨a,b,c⟩=>?_,λh=>?_⟩
 ·subst a;subst b;cases c;rfl
 ·cases h;exact⟨rfl,rfl,rfl⟩
def EL{α:Type}{l m:List α}{i:Nat}{x y:α}(h:l.take i=m.take i)(hx:l[i]? = some x)(hy:m[i]? = some y)(e:x=y):l.take (i+1)=m.take (i+1):=by
 rw[List.take_add_one,List.take_add_one,hx,hy,h,e]
def z5C(h:St w0 E w){v1 v2:Sl}{l1 l2:List Tgt}(r1:RdE w0 E eT v1 l1)(r2:RdE w0 E eT v2 l2)(hn:l1.length<1000000000){k:Bool→PT}(hk:∀b w',(b=true↔l1=l2)→St w0 E w'→k b w') :
  L.call Pr ZD [.slice v1.a v1.len v1.cap,.slice v2.a v2.len v2.cap,.func (.func VI) #[] #[]] (.one (.one .bool)) k w:=by
 refine za (jn v1 v2 ⟨.func VI,#[],#[]⟩) ?_;unfold yo;have hl1:=(r1 w h).len;have hl2:=(r2 w h).len;refine it (λhc=>?_) (λhc=>?_)<;>(try simp only[zB]at hc)
 ·exact⟨_,rfl,hk false w ⟨λh=>by(cases h),λe=>(hc (by rw[hl1,hl2,e])).elim⟩ h⟩
 refine zT (λq y w=>∃i:Nat,y=((i:Int),())∧q+i=l1.length∧l1.take i=l2.take i∧St w0 E w) l1.length ⟨0,rfl,rfl,rfl,h⟩ ?_;clear h;rintro q y w ⟨i,rfl,hq,he,h⟩ again hag;dsimp only;refine it (λhb=>?_) (λhb=>?_)<;>(try simp only[zB]at hb)
 ·have hi:i<l1.length:=by omega
  have hi2:i<l2.length:=by omega
  have hx:l1[i]? = some l1[i]:=List.getElem?_eq_getElem hi;have hy:l2[i]? = some l2[i]:=List.getElem?_eq_getElem hi2;generalize l1[i]=x at hx;generalize l2[i]=y at hy;refine(r1 w h).ix od (by omega) (by simpa using hi) λa ha=>?_;rw[Int.toNat_natCast]at ha;refine(r1 w h).lda od ha hx rfl ?_;refine nw h ?_;clear h;intro b5 w h
  (refine stC h ?_;clear h;intro w h;dsimp only[zJ,zd]at h)
  refine(r2 w (zm h)).ix od (by omega) (by simpa using hi2) λa2 ha2=>?_;rw[Int.toNat_natCast]at ha2;refine(r2 w (zm h)).lda od ha2 hy rfl ?_;refine nw h ?_;clear h;intro b8 w h
  (refine stC h ?_;clear h;intro w h;dsimp only[zJ,zd]at h;refine laC h ?_;refine laC h ?_)
  refine jK (fs:=#[]) (cs:=#[]) bQ (bS x y) ?_;unfold dh;refine nw h ?_;clear h;intro c1 w h;refine nw h ?_;clear h;intro c2 w h
  (refine laC h ?_;refine laC h ?_)
  unfold L.chkSem;refine⟨z2V (x.1,x.2.1,x.2.2.1) (y.1,y.2.1,y.2.2.1) w,_,rfl,?_⟩;have hs:=z06 x y;have h:=zm (zm (zm (zm h)));refine it (λhc=>?_) (λhc=>?_)
  ·have hc:¬sT3 x y=true:=by have hc:sT3 x y=false:=(Bool.not_eq_true' _).mp hc;rw[hc];decide
   refine⟨_,rfl,hk false w ⟨λh=>by(cases h),λe=>(hc (hs.2 ?_)).elim⟩ h⟩;rw[e,hy]at hx;exact(Option.some.inj hx).symm
  ·have hc:sT3 x y=true:=(Bool.not_eq_false' _).mp hc;rw[wr (by omega) (by omega)];exact hag (q-1) _ w (by omega) ⟨i+1,by simp,by omega,EL he hx hy (hs.1 hc),h⟩
 ·have e1:l1.take i=l1:=List.take_of_length_le (by omega);have e2:l2.take i=l2:=List.take_of_length_le (by omega);rw[e1,e2]at he;exact⟨_,rfl,hk true w ⟨λ_=>he,λ_=>rfl⟩ h⟩
def ARt.ext_iff'(a b:ARt):a=b↔a.name=b.name∧a.cfg=b.cfg∧a.roll=b.roll∧a.ts=b.ts:=by
 cases a;cases b;simp only[ARt.mk.injEq];exact⟨λ⟨a,b,c,d⟩=>⟨a,b,d,c⟩,λ⟨a,b,d,c⟩=>⟨a,b,c,d⟩⟩
abbrev rtC(a:ARt)(v:Sl):List Value:=[.string a.name,.string a.cfg,.slice v.a v.len v.cap,I a.roll]
def z1M(h:St w0 E w){a b:ARt}{v1 v2:Sl}(r1:RdE w0 E eT v1 a.ts)(r2:RdE w0 E eT v2 b.ts)(hn:a.ts.length<1000000000){k:Bool→PT}(hk:∀c w',(c=true↔a=b)→St w0 E w'→k c w') :
  Vl (a.name,a.cfg,v1,a.roll,()) (b.name,b.cfg,v2,b.roll,()) (λv w'=>∃x,v=RT.val (.one (.one .bool)) x∧k x w') w:=by
 unfold Vl;rw[ARt.ext_iff' a b]at hk;refine nw h ?_;clear h;intro b1 w h;refine nw h ?_;clear h;intro b2 w h
 have no:∀{w},¬(a.name=b.name∧a.cfg=b.cfg∧a.roll=b.roll∧a.ts=b.ts)→St w0 ([Cl b2 Zb (rtC b v2)]::[Cl b1 Zb (rtC a v1)]::E) w→∃x,Value.bool false=RT.val (.one (.one .bool)) x∧k x w:=
  λhne h=>⟨_,rfl,hk false _ ⟨λh=>by(cases h),λe=>(hne e).elim⟩ (zm (zm h))⟩
 (dsimp only[zd,List.cons_append,List.nil_append]at h;refine ldC h ?_;refine ldC h ?_)
 rw[JW];refine it (λh1=>?_) (λh1=>no (λe=>of_decide_eq_false h1 e.1) h)
 (refine ldC h ?_;refine ldC h ?_)
 rw[JW];refine it (λh2=>?_) (λh2=>no (λe=>of_decide_eq_false h2 e.2.1) h)
 (refine ldC h ?_;refine ldC h ?_)
 refine it (λh3=>?_) (λh3=>no (λe=>by rw[e.2.2.1]at h3;simp at h3) h)
 (refine ldC h ?_;refine ldC h ?_)
 refine z5C h (λw h=>r1 w (zm (zm h))) (λw h=>r2 w (zm (zm h))) hn λc w hc h=>?_;refine⟨_,rfl,hk c w ?_ (zm (zm h))⟩;rw[hc];exact⟨λe=>⟨of_decide_eq_true h1,of_decide_eq_true h2,by simpa using h3,e⟩,λe=>e.2.2.2⟩
def z1l(h:St w0 E w){a b:ARt}{v1 v2:Sl}(r1:RdE w0 E eT v1 a.ts)(r2:RdE w0 E eT v2 b.ts)(hn:a.ts.length<1000000000){k:Bool→PT}(hk:∀c w',(c=true↔a=b)→St w0 E w'→k c w') :
  L.callV Pr (.func (.func Zt) #[] #[]) [.agg #[.string a.name,.string a.cfg,.slice v1.a v1.len v1.cap,I a.roll],.agg #[.string b.name,.string b.cfg,.slice v2.a v2.len v2.cap,I b.roll]] (.one (.one .bool)) k w:=
 jK (fs:=#[]) (cs:=#[]) cT (Cc (a.name,a.cfg,v1,a.roll,()) (b.name,b.cfg,v2,b.roll,())) (z1M h r1 r2 hn hk)
def elT:El Pr vj zG 3 40 (.agg #[.string s_,.string s_,I 0]):=gB (by kernel_rfl) (by kernel_rfl) rfl (by decide)
def IG(h:St w0 E w){v:Sl}{l:List Tgt}(r:Rd w eT v l)(hn:l.length<1000000000)(h0:v.a=none→l = []){k:Sl→PT}
  (hk:∀v' s' w',Rw eT zG 3 v' l s'→St w0 (s'::E) w'→k v' w'):L.call Pr Yx [SlV v] (.one (.one .slice)) k w:=by
 refine za (ut v) ?_;unfold Jv;exact Qp (K:=λv w'=>∃x,v=RT.val (.one (.one .slice)) x∧k x w') od elT h r (by omega) (by omega) h0 λv' s' w' hr hi h=>⟨v',rfl,hk v' s' w' hr h⟩
abbrev eRt:E1:=.agg [.str,.str,.slice,.int .i64]
def z2e(h:St w0 E w){a:ARt}{v:Sl}(r:RdE w0 E eT v a.ts)(hn:a.ts.length<1000000000)(h0:v.a=none→a.ts = []){k:eRt.T→PT}
  (hk:∀v' s' w',Rw eT zG 3 v' a.ts s'→St w0 (s'::E) w'→k (a.name,a.cfg,v',a.roll,()) w') :
  L.call Pr Oe [.agg #[.string a.name,.string a.cfg,.slice v.a v.len v.cap,I a.roll]] (.one eRt) k w:=by
 refine za (bT (a.name,a.cfg,v,a.roll,())) ?_;unfold di;refine nw h ?_;clear h;intro b1 w h;refine nw h ?_;clear h;intro b2 w h
 (dsimp only[zd,List.cons_append,List.nil_append]at h;refine ldC h ?_)
 refine IG h (r w (zm (zm h))) hn h0 λv' s' w hr h=>?_
 (refine stC h ?_;clear h;intro w h;dsimp only[zJ,zd]at h;refine laC h ?_;refine stC h ?_;clear h;intro w h;dsimp only[zJ,zd]at h;refine laC h ?_)
 refine⟨(a.name,a.cfg,v',a.roll,()),rfl,hk v' s' w hr ?_⟩;exact Yf (Yf h)
abbrev Shr:=HT [.str,.int .i64]
def eSh(t:Shr):List Value:=[.string t.1,I t.2.1]
def Jc:Enc eSh 2:=⟨λ_=>rfl,λ_=>rfl,by decide⟩
abbrev Tgo:=HT [.str,.str]
def eTo(t:Tgo):List Value:=[.string t.1,.string t.2.1]
def qN:Enc eTo 2:=⟨λ_=>rfl,λ_=>rfl,by decide⟩
structure Vr where
 sh:List Shr
 tg:List Tgo
def z0H:El Pr Zk zW 2 24 (.agg #[.string s_,I 0]):=gB (by kernel_rfl) (by kernel_rfl) rfl (by decide)
def z5i:El Pr xY jy 2 32 (.agg #[.string s_,.string s_]):=gB (by kernel_rfl) (by kernel_rfl) rfl (by decide)
def z5j:El Pr xj JG 2 32 (.agg #[.string s_,.string s_]):=gB (by kernel_rfl) (by kernel_rfl) rfl (by decide)
def Ml(h:St w0 E w){v:Sl}{l:List Shr}(r:Rd w eSh v l)(hn:l.length<1000000000)(h0:v.a=none→l = []){k:Sl→PT}
  (hk:∀v' s' w',Rw eSh zW 2 v' l s'→St w0 (s'::E) w'→k v' w'):L.call Pr Zq [SlV v] (.one (.one .slice)) k w:=by
 refine za (Uk v) ?_;unfold xn;exact Qp (K:=λv w'=>∃x,v=RT.val (.one (.one .slice)) x∧k x w') Jc z0H h r (by omega) (by omega) h0 λv' s' w' hr hi h=>⟨v',rfl,hk v' s' w' hr h⟩
def Ej(h:St w0 E w){v:Sl}{l:List Tgo}(r:Rd w eTo v l)(hn:l.length<1000000000)(h0:v.a=none→l = []){k:Sl→PT}
  (hk:∀v' s' w',Rw eTo jy 2 v' l s'→St w0 (s'::E) w'→k v' w'):L.call Pr YP [SlV v] (.one (.one .slice)) k w:=by
 refine za (Uj v) ?_;unfold xm;exact Qp (K:=λv w'=>∃x,v=RT.val (.one (.one .slice)) x∧k x w') qN z5i h r (by omega) (by omega) h0 λv' s' w' hr hi h=>⟨v',rfl,hk v' s' w' hr h⟩
structure gE(w0:World)(E:List Seg)(p:HT [.slice,.slice])(t:Vr):Prop where
 sh:RdE w0 E eSh p.1 t.sh
 tg:RdE w0 E eTo p.2.1 t.tg
 nsh:p.1.a=none→t.sh = []
 ntg:p.2.1.a=none→t.tg = []
 fsh:t.sh.length<100000
 ftg:t.tg.length<100000
def gE.there{p:HT [.slice,.slice]}{t:Vr}{s:Seg}(r:gE w0 E p t):gE w0 (s::E) p t:=⟨λw h=>r.sh w (zm h),λw h=>r.tg w (zm h),r.nsh,r.ntg,r.fsh,r.ftg⟩
abbrev sO(p:HT [.slice,.slice]):Value:=.agg #[.slice p.1.a p.1.len p.1.cap,.slice p.2.1.a p.2.1.len p.2.1.cap]
def oi(h:St w0 E w){p:HT [.slice,.slice]}{t:Vr}(r:gE w0 E p t){k:HT [.slice,.slice]→PT}
  (hk:∀v1 v2 s1 s2 w',Rw eSh zW 2 v1 t.sh s1→Rw eTo jy 2 v2 t.tg s2→St w0 (s2::s1::E) w'→k (v1,v2,()) w') :
  L.call Pr YQ [sO p] (.one (.agg [.slice,.slice])) k w:=by
 refine za (aY p) ?_;unfold No;have fsh:=r.fsh;have ftg:=r.ftg;refine nw h ?_;clear h;intro b1 w h;refine nw h ?_;clear h;intro b2 w h
 (refine dr h ?_;clear h;intro w h;refine ldC h ?_;refine ldC h ?_)
 refine Ml h (r.sh w (zm (zm h))) (by omega) r.nsh λv1 s1 w r1 h=>?_
 (refine ckC h ?_)
 refine Ej h (r.tg w (zm (zm (zm h)))) (by omega) r.ntg λv2 s2 w r2 h=>?_
 (refine stC h ?_;clear h;intro w h;dsimp only[zJ,zd]at h;refine laC h ?_)
 refine⟨(v1,v2,()),rfl,hk v1 v2 s1 s2 w r1 r2 ?_⟩;exact VQ (VQ h)
def gE.of{v1 v2:Sl}{t:Vr}{s1 s2:Seg}{i j:Nat}(h1:nth E i=some s1)(r1:Rw eSh zW 2 v1 t.sh s1)(h2:nth E j=some s2)(r2:Rw eTo jy 2 v2 t.tg s2)(f1:t.sh.length<100000)(f2:t.tg.length<100000) :
  gE w0 E (v1,v2,()) t:=⟨Rw.re Jc i h1 r1,Rw.re qN j h2 r2,Rw.nil0 Jc r1,Rw.nil0 qN r2,f1,f2⟩
def tu:List Shr→Int→B0
 | [],_=>s_
 | s::l,d=>if d<s.2.1 then s.1 else tu l (d-s.2.1)
def BF(s:Shr)(l:List Shr)(d:Int):tu (s::l) d=if d<s.2.1 then s.1 else tu l (d-s.2.1):=rfl
def rE(t:Vr)(d:Int):B0:=tu t.sh (d%100)
def z3K(h:St w0 E w){p:HT [.slice,.slice]}{t:Vr}(r:gE w0 E p t)(hw:∀s∈t.sh,0≤@id Int s.2.1∧@id Int s.2.1≤1000){d:Int}(h0:0≤d)(h1:d<4611686018427387904){k:B0→PT}
  (hk:∀w',St w0 E w'→k (rE t d) w'):L.call Pr Gy [sO p,I d] (.one (.one .str)) k w:=by
 refine za (LI p _) ?_;unfold Tj;have fsh:=r.fsh;have hlen:=Rd.len (r.sh w h);unfold rE at hk;refine nw h ?_;clear h;intro b1 w h;refine gd (by decide) (gd (by decide) ?_)
 (refine ldC h ?_)
 have e0:Int.tmod (Wi ((Int.tmod d 100)+100)) 100=d%100:=by
  rw[Int.tmod_eq_emod_of_nonneg h0,wr (by omega) (by omega),Int.tmod_eq_emod_of_nonneg (by omega)];omega
 rw[e0];have hd:0≤d%100∧d%100<100:=by omega
 generalize d%100=d at hk hd;refine zT (λq y w=>∃(j:Nat),@Eq Int y.2.1 j∧q+j=t.sh.length∧-100000000*(j:Int)-100≤@id Int y.1∧@id Int y.1≤100∧tu t.sh d=tu (t.sh.drop j) y.1∧St w0 ([Cl b1 zp [SlV p.1,SlV p.2.1]]::E) w) t.sh.length ⟨0,rfl,rfl,?_,?_,rfl,h⟩ ?_
 ·show -100000000*((0:Nat):Int)-100≤d;omega
 ·show d≤100;omega
 clear h;rintro q ⟨x,y,⟨⟩⟩ w ⟨j,hy,hq,l1,l2,hp,h⟩ again hag
 (try dsimp only)
 simp only[id]at l1 l2;simp only at hy hp;subst hy;refine it (λhb=>?_) (λhb=>?_)<;>(try simp only[zB]at hb)
 ·have hj:j<t.sh.length:=by omega
  have hx:t.sh[j]? = some t.sh[j]:=List.getElem?_eq_getElem hj;have rr:=r.sh w (zm h);have hm:=hw t.sh[j] (List.getElem_mem hj);have ed:t.sh.drop j=t.sh[j]::t.sh.drop (j+1):=by rw[←List.getElem_cons_drop hj]
  rw[ed]at hp;generalize t.sh[j]=z at hx hm hp;obtain⟨z1,z2,⟨⟩⟩:=z;simp only[id]at hm;refine rr.ix Jc (by omega) (by simpa using hj) λa ha=>?_;refine rr.lda Jc ha (by simpa using hx) rfl ?_;refine nw h ?_;clear h;intro b7 w h
  (refine stC h ?_;clear h;intro w h;dsimp only[zJ,zd]at h;refine ldC h ?_)
  rw[BF]at hp
  (try dsimp only at hp)
  refine it (λhc=>?_) (λhc=>?_)<;>(try simp only[zB]at hc)
  ·rw[if_pos hc]at hp
   (refine ldC h ?_)
   exact⟨_,rfl,by rw[←hp];exact hk w (zm (zm h))⟩
  ·rw[if_neg hc]at hp
   (refine ldC h ?_)
   refine hag (q-1) _ w (by omega) ⟨j+1,?_,by omega,?_,?_,?_,zm h⟩
   ·show Wi _=_;rw[wr (by omega) (by omega)];omega
   ·show _≤Wi (x-z2);rw[wr (by omega) (by omega)];omega
   ·show Wi (x-z2)≤_;rw[wr (by omega) (by omega)];omega
   ·rw[hp];show _=tu _ (Wi (x-z2));rw[wr (by omega) (by omega)]
 ·have e:t.sh.drop j = []:=List.drop_of_length_le (by omega);rw[e]at hp;exact⟨_,rfl,by have:=hk w (zm h);rw[hp]at this;exact this⟩
def DE:List Tgo→B0→B0×Bool
 | [],_=>(s_,false)
 | x::l,g=>if x.1=g then(x.2.1,true)else DE l g
def sN(x:Tgo)(l:List Tgo)(g:B0):DE (x::l) g=if x.1=g then(x.2.1,true)else DE l g:=rfl
def z1L(h:St w0 E w){p:HT [.slice,.slice]}{t:Vr}(r:gE w0 E p t){g:B0}{k:B0×Bool×Unit→PT}
  (hk:∀w',St w0 E w'→k ((DE t.tg g).1,(DE t.tg g).2,()) w'):L.call Pr OJ [sO p,.string g] (.tup [.one .str,.one .bool]) k w:=by
 refine za (wl p _) ?_;unfold pe;have ftg:=r.ftg;have hlen:=Rd.len (r.tg w h);refine nw h ?_;clear h;intro b1 w h
 (refine ldC h ?_)
 refine zT (λq y w=>∃(j:Nat),@Eq Int y.1 j∧q+j=t.tg.length∧DE t.tg g=DE (t.tg.drop j) g∧St w0 ([Cl b1 zp [SlV p.1,SlV p.2.1]]::E) w) t.tg.length ⟨0,rfl,rfl,rfl,h⟩ ?_;clear h;rintro q ⟨y,⟨⟩⟩ w ⟨j,hy,hq,hp,h⟩ again hag
 (try dsimp only)
 simp only at hy hp;subst hy;refine it (λhb=>?_) (λhb=>?_)<;>(try simp only[zB]at hb)
 ·have hj:j<t.tg.length:=by omega
  have hx:t.tg[j]? = some t.tg[j]:=List.getElem?_eq_getElem hj;have rr:=r.tg w (zm h);have ed:t.tg.drop j=t.tg[j]::t.tg.drop (j+1):=by rw[←List.getElem_cons_drop hj]
  rw[ed]at hp;generalize t.tg[j]=z at hx hp;obtain⟨z1,z2,⟨⟩⟩:=z;refine rr.ix qN (by omega) (by simpa using hj) λa ha=>?_;refine rr.lda qN ha (by simpa using hx) rfl ?_;refine nw h ?_;clear h;intro b7 w h
  (refine stC h ?_;clear h;intro w h;dsimp only[zJ,zd]at h;refine ldC h ?_)
  rw[sN]at hp
  (try dsimp only at hp)
  rw[JW];refine it (λhc=>?_) (λhc=>?_)<;>(try simp only[zB]at hc)
  ·rw[if_pos hc]at hp
   (refine ldC h ?_)
   exact⟨(z2,true,()),rfl,by have:=hk w (zm (zm h));rw[hp]at this;exact this⟩
  ·rw[if_neg hc]at hp
   skip
   refine hag (q-1) _ w (by omega) ⟨j+1,?_,by omega,hp,zm h⟩;show Wi _=_;rw[wr (by omega) (by omega)];omega
 ·have e:t.tg.drop j = []:=List.drop_of_length_le (by omega);rw[e]at hp;exact⟨(s_,false,()),rfl,by have:=hk w (zm h);rw[hp]at this;exact this⟩
def z19 [xi w0](h:St w0 E w){p:HT [.slice,.slice]}{t:Vr}(r:gE w0 E p t)(hw:∀s∈t.sh,0≤@id Int s.2.1∧@id Int s.2.1≤1000){k:Sl×Sl×Unit→PT}
  (hk:∀v1 v2 s1 s2 w',Rw eTo JG 2 v1 (t.sh.map λs=>(s.1,ju (@id Int s.2.1).toNat,())) s1→Rw eTo JG 2 v2 t.tg s2→St w0 (s2::s1::E) w'→k (v1,v2,()) w') :
  L.call Pr OH [sO p] (.tup [.one .slice,.one .slice]) k w:=by
 refine za (wg p) ?_;unfold pa;have fsh:=r.fsh;have ftg:=r.ftg;have hlen:=Rd.len (r.sh w h);have hlen2:=Rd.len (r.tg w h);refine nw h ?_;clear h;intro b1 w h
 (refine ldC h ?_)
 let f:Shr→Tgo:=λs=>(s.1,ju (@id Int s.2.1).toNat,())
 refine zT (λq y w=>∃(j:Nat)(s1:Seg),@Eq Int y.2.1 j∧q+j=t.sh.length∧Rw eTo JG 2 y.1 ((t.sh.take j).map f) s1∧St w0 (s1::[Cl b1 zp [SlV p.1,SlV p.2.1]]::E) w) t.sh.length ⟨0,[],rfl,rfl,Rw.nil,h.nil⟩ ?_;clear h;rintro q ⟨v,y,⟨⟩⟩ w ⟨j,s1,hy,hq,r1,h⟩ again hag
 (try dsimp only)
 simp only at hy r1;subst hy;refine it (λhb=>?_) (λhb=>?_)<;>(try simp only[zB]at hb)
 ·have hj:j<t.sh.length:=by omega
  have hx:t.sh[j]? = some t.sh[j]:=List.getElem?_eq_getElem hj;have rr:=r.sh w (zm (zm h));have hm:=hw t.sh[j] (List.getElem_mem hj);have et:(t.sh.take (j+1)).map f=(t.sh.take j).map f++[f t.sh[j]]:=by rw[List.take_succ,hx,List.map_append];rfl
  generalize t.sh[j]=z at hx hm et;obtain⟨z1,z2,⟨⟩⟩:=z;simp only[id]at hm;refine rr.ix Jc (by omega) (by simpa using hj) λa ha=>?_;refine rr.lda Jc ha (by simpa using hx) rfl ?_;refine nw h ?_;clear h;intro b7 w h
  (refine stC h ?_;clear h;intro w h;dsimp only[zJ,zd]at h;refine dr h ?_;clear h;intro w h;refine ldC h ?_;refine ldC h ?_)
  refine sH h hm.1 (by omega) λw h=>?_
  (refine ckC h ?_)
  refine nw h ?_;clear h;intro b11 w h;refine Rw.app qN z5j h 1 rfl r1 ((z1,ju (@id Int z2).toNat,()):Tgo) rfl (by simp;omega) (by simp;omega) λv' s1' w r1' h=>?_;refine hag (q-1) _ w (by omega) ⟨j+1,s1',?_,by omega,by rw[et];exact r1',zm h⟩;show Wi _=_;rw[wr (by omega) (by omega)];omega
 ·have e:t.sh.take j=t.sh:=List.take_of_length_le (by omega);rw[e]at r1
  (refine ldC h ?_)
  refine zT (λq y w=>∃(j:Nat)(s2:Seg),@Eq Int y.2.1 j∧q+j=t.tg.length∧Rw eTo JG 2 y.1 (t.tg.take j) s2∧St w0 (s2::s1::[Cl b1 zp [SlV p.1,SlV p.2.1]]::E) w) t.tg.length ⟨0,[],rfl,rfl,Rw.nil,h.nil⟩ ?_;clear hag hb hq j e;clear h;rintro q ⟨v2,y,⟨⟩⟩ w ⟨j,s2,hy,hq,r2,h⟩ again hag
  (try dsimp only)
  simp only at hy r2;subst hy;refine it (λhb=>?_) (λhb=>?_)<;>(try simp only[zB]at hb)
  ·have hj:j<t.tg.length:=by omega
   have hx:t.tg[j]? = some t.tg[j]:=List.getElem?_eq_getElem hj;have rr:=r.tg w (zm (zm (zm h)));have et:t.tg.take (j+1)=t.tg.take j++[t.tg[j]]:=by rw[List.take_succ,hx];rfl
   generalize t.tg[j]=z at hx et;obtain⟨z1,z2,⟨⟩⟩:=z;refine rr.ix qN (by omega) (by simpa using hj) λa ha=>?_;refine rr.lda qN ha (by simpa using hx) rfl ?_;refine nw h ?_;clear h;intro b7 w h
   (refine stC h ?_;clear h;intro w h;dsimp only[zJ,zd]at h;refine ldC h ?_;refine ldC h ?_)
   refine nw h ?_;clear h;intro b11 w h;refine Rw.app qN z5j h 1 rfl r2 ((z1,z2,()):Tgo) rfl (by simp;omega) (by simp;omega) λv' s2' w r2' h=>?_;refine hag (q-1) _ w (by omega) ⟨j+1,s2',?_,by omega,by rw[et];exact r2',zm h⟩;show Wi _=_;rw[wr (by omega) (by omega)];omega
  ·have e:t.tg.take j=t.tg:=List.take_of_length_le (by omega);rw[e]at r2;exact⟨(v,v2,()),rfl,hk v v2 s1 s2 w r1 r2 (VQ h)⟩
def shT(s:Shr):B0:=(s.1++gk)++ju (@id Int s.2.1).toNat
def toT(s:Tgo):B0:=(s.1++gj)++s.2.1
def UH(t:Vr):List B0:=t.sh.map shT++t.tg.map toT
def Dg(t:Vr):B0:=kH (UH t)
def z3I [xi w0](h:St w0 E w){p:HT [.slice,.slice]}{t:Vr}(r:gE w0 E p t)(hw:∀s∈t.sh,(0≤@id Int s.2.1∧@id Int s.2.1≤1000)∧s.1.size≤1000)(hg:∀s∈t.tg,s.1.size≤1000∧s.2.1.size≤1000){k:B0→PT}
  (hk:∀w',St w0 E w'→k (Dg t) w'):L.call Pr Gx [sO p] (.one (.one .str)) k w:=by
 refine za (LH p) ?_;unfold Ti;have fsh:=r.fsh;have ftg:=r.ftg;refine nw h ?_;clear h;intro b1 w h
 (refine laC h ?_)
 refine z19 h r.there (λs hs=>(hw s hs).1) λv1 v2 s1 s2 w r1 r2 h=>?_;have hl1:=Rw.len qN r1;have hl2:=Rw.len qN r2;rw[List.length_map]at hl1
 (try dsimp only)
 have hc:gk.size=1:=rfl;have he:gj.size=1:=rfl;refine zT (λq y w=>∃(j:Nat)(s3:Seg),@Eq Int y.2.1 j∧q+j=t.sh.length∧Rw eS zc 1 y.1 ((t.sh.take j).map shT) s3∧St w0 (s3::s2::s1::[Cl b1 zp [SlV p.1,SlV p.2.1]]::E) w) t.sh.length ⟨0,[],rfl,rfl,Rw.nil,h.nil⟩ ?_;clear h;rintro q ⟨v,y,⟨⟩⟩ w ⟨j,s3,hy,hq,r3,h⟩ again hag
 (try dsimp only)
 simp only at hy r3;subst hy;refine it (λhb=>?_) (λhb=>?_)<;>(try simp only[zB]at hb)
 ·have hj:j<t.sh.length:=by omega
  have hx:t.sh[j]? = some t.sh[j]:=List.getElem?_eq_getElem hj;have hm:=hw t.sh[j] (List.getElem_mem hj);have et:(t.sh.take (j+1)).map shT=(t.sh.take j).map shT++[shT t.sh[j]]:=by rw[List.take_succ,hx,List.map_append];rfl
  generalize t.sh[j]=z at hx hm et;obtain⟨z1,z2,⟨⟩⟩:=z;simp only[id]at hm
  (try dsimp only at hm)
  have hd:=Li (@id Int z2).toNat;simp only[id]at hd;refine Rw.ix qN r1 (by omega) (by simpa using hj) λa ha=>?_;refine Rw.lda qN h 2 rfl r1 ha (x:=((z1,ju (@id Int z2).toNat,()):Tgo)) (by simp[hx]) rfl ?_;refine nw h ?_;clear h;intro b8 w h
  (refine stC h ?_;clear h;intro w h;dsimp only[zJ,zd]at h)
  refine ix (by decide) (by decide) ?_
  (refine ldC h ?_)
  refine gd (by rw[hc];simp only[Ue];omega) ?_;refine ix (by decide) (by decide) ?_
  (refine ldC h ?_)
  refine gd (by rw[ByteArray.size_append,hc];simp only[Ue,id];omega) ?_;refine nw h ?_;clear h;intro b13 w h;refine Rw.app yh elS h 1 rfl r3 (shT ((z1,z2,()):Shr)) rfl (by simp;omega) (by simp;omega) λv' s3' w r3' h=>?_;refine hag (q-1) _ w (by omega) ⟨j+1,s3',?_,by omega,by rw[et];exact r3',zm h⟩;show Wi _=_;rw[wr (by omega) (by omega)];omega
 ·have e:t.sh.take j=t.sh:=List.take_of_length_le (by omega);rw[e]at r3;refine zT (λq y w=>∃(j:Nat)(s3:Seg),@Eq Int y.2.1 j∧q+j=t.tg.length∧Rw eS zc 1 y.1 (t.sh.map shT++(t.tg.take j).map toT) s3∧St w0 (s3::s2::s1::[Cl b1 zp [SlV p.1,SlV p.2.1]]::E) w) t.tg.length ⟨0,s3,rfl,rfl,by simpa using r3,h⟩ ?_;clear hag hb hq j e r3;clear h;rintro q ⟨v,y,⟨⟩⟩ w ⟨j,s3,hy,hq,r3,h⟩ again hag
  (try dsimp only)
  simp only at hy r3;subst hy;refine it (λhb=>?_) (λhb=>?_)<;>(try simp only[zB]at hb)
  ·have hj:j<t.tg.length:=by omega
   have hx:t.tg[j]? = some t.tg[j]:=List.getElem?_eq_getElem hj;have hm:=hg t.tg[j] (List.getElem_mem hj);have et:(t.tg.take (j+1)).map toT=(t.tg.take j).map toT++[toT t.tg[j]]:=by rw[List.take_succ,hx,List.map_append];rfl
   generalize t.tg[j]=z at hx hm et;obtain⟨z1,z2,⟨⟩⟩:=z
   (try dsimp only at hm)
   refine Rw.ix qN r2 (by omega) (by simpa using hj) λa ha=>?_;refine Rw.lda qN h 1 rfl r2 ha (x:=((z1,z2,()):Tgo)) (by simp[hx]) rfl ?_;refine nw h ?_;clear h;intro b8 w h
   (refine stC h ?_;clear h;intro w h;dsimp only[zJ,zd]at h)
   refine ix (by decide) (by decide) ?_
   (refine ldC h ?_)
   refine gd (by rw[he];simp only[Ue];omega) ?_;refine ix (by decide) (by decide) ?_
   (refine ldC h ?_)
   refine gd (by rw[ByteArray.size_append,he];simp only[Ue];omega) ?_;refine nw h ?_;clear h;intro b13 w h;refine Rw.app yh elS h 1 rfl r3 (toT ((z1,z2,()):Tgo)) rfl (by simp;omega) (by simp;omega) λv' s3' w r3' h=>?_;refine hag (q-1) _ w (by omega) ⟨j+1,s3',?_,by omega,by rw[et,←List.append_assoc];exact r3',zm h⟩;show Wi _=_;rw[wr (by omega) (by omega)];omega
  ·have e:t.tg.take j=t.tg:=List.take_of_length_le (by omega);rw[e]at r3;refine Lz h 0 rfl r3 (by simp;omega) ?_ λw h=>⟨_,rfl,hk w (zm (zm (zm (zm h))))⟩;have:=tM 3100 (UH t) λx hx=>by
    rcases List.mem_append.1 hx with hx | hx
    ·obtain⟨s,hs,rfl⟩:=List.mem_map.1 hx;have h1:=hw s hs;have hd:=Li (@id Int s.2.1).toNat;unfold shT;rw[ByteArray.size_append,ByteArray.size_append,hc];simp only[id]at h1 hd ⊢;omega
    ·obtain⟨s,hs,rfl⟩:=List.mem_map.1 hx;have h1:=hg s hs;unfold toT;rw[ByteArray.size_append,ByteArray.size_append,he];omega
   have hl:(UH t).length=t.sh.length+t.tg.length:=by simp[UH]
   show(kH (UH t)).size<_;rw[hl]at this;have:(t.sh.length+t.tg.length)*3101<1000000000000:=by omega
   omega
end Go.Proofs.YtimahgbgejngiaaGreatDoor

namespace Go.Proofs
open Go.Shelf
def Tryz.lays194_ren:Go.Shelf.Ren:=⟨fun | 194=>283 | n=>n,fun | 31=>40 | 9=>9 | 3=>3 | 4=>4 | 0=>0 | n=>n,fun | n=>n⟩
def Tryz.lays194:Go.Proofs.Lays.n194 Tryz.prog Tryz.lays194_ren:={
 mixed:=by kernel_rfl
 f194:=Tryz.func283.trans cS
 t0:=Tryz.underlying0
 a0:=Tryz.isAgg0
 z0:=Tryz.sizeOf0
 v0:=Tryz.zeroValue0
 t3:=Tryz.underlying3
 a3:=Tryz.isAgg3
 z3:=Tryz.sizeOf3
 v3:=Tryz.zeroValue3
 t4:=Tryz.underlying4
 a4:=Tryz.isAgg4
 z4:=Tryz.sizeOf4
 v4:=Tryz.zeroValue4
 t9:=Tryz.underlying9
 a9:=Tryz.isAgg9
 z9:=Tryz.sizeOf9
 v9:=Tryz.zeroValue9
 t31:=Tryz.underlying40
 a31:=Tryz.isAgg40
 z31:=Tryz.sizeOf40
 v31:=Tryz.zeroValue40 }
open Go.RowKit Go.Lib Go.Sort in
def Tryz.slices_Compact_string(blk off cap:Nat)(zs:List (List UInt8))(w:World)(hH:Holds encStr w blk off zs.toArray)(hsz:zs.length≤9223372036854775807)(hcap:zs.length≤cap) :
  Calls Tryz.prog 283 #[.slice (some ⟨blk,off,none⟩) zs.length cap] w λe w'=>e = .returned (.slice (some ⟨blk,off,none⟩) (Lib.compact zs).length cap)∧∃q,w'=putRow encStr (Sort.ahead w q) blk off (Lib.compact zs++List.replicate (zs.length-(Lib.compact zs).length) []).toArray:=Any.slices_Compact_string Tryz.lays194 blk off cap zs w hH hsz hcap
open Go.RowKit Go.Lib Go.Sort in
def Tryz.slices_Compact_string_empty(a:Option Addr)(cap:Nat)(w:World) :
  Calls Tryz.prog 283 #[.slice a 0 cap] w λe w'=>e = .returned (.slice a 0 cap)∧w'=w:=Any.slices_Compact_string_empty Tryz.lays194 a cap w
end Go.Proofs
namespace Go.Proofs.YtimahgbgejngiaaGreatDoor
open Go.Dm
attribute [local irreducible] L.load L.store L.chk L.new L.nonnil L.guard L.ite L.draw L.idx L.sem L.semR L.semU L.chkSem L.next L.call L.callV L.join L.alts L.loop L.begin L.endRound L.range
variable {w0 w:World}{E:List Seg}
def ofL(x:List UInt8):B0:=⟨x.toArray⟩
def z6b(l:List (List UInt8)):fl eL l=fl eS (l.map ofL):=by
 induction l with
 | nil=>rfl
 | cons x l ih=>
  simp only[fl,List.flatMap_cons,List.map_cons]at *
  rw[ih];rfl
def Wh(l:List B0):List B0:=(Lib.compact (l.map bl)).map ofL
def Rw.less{α:Type}{enc:α→List Value}{e size:Nat}{a:Option Addr}{n cap:Nat}{A B:List α}{s:Seg}(hE:Enc enc size)(hr:Rw enc e size ⟨a,n,cap⟩ (A++B) s)(h0:A≠[]):Rw enc e size ⟨a,A.length,cap⟩ A s:=by
 unfold Rw at *
 rw[cH]at hr;have hA:=Qn hE A;have hB:=Qn hE B;generalize fl enc A=xa at *
 generalize fl enc B=xb at *
 generalize hx:xa++xb=xs at hr
 cases hr with
 | nil=>
  have:xa = []:=(List.append_eq_nil_iff.1 hx).1;rw[this]at hA;have:=hE.pos
  cases A with
  | nil=>exact absurd rfl h0
  | cons x A=>
   have:=Nat.mul_pos (show 0<A.length+1 by omega) hE.pos;rw[List.length_cons,List.length_nil]at hA;omega
 | mk g n cap pre xs spare post h1 h2 h3 h4=>
  subst hx;rw[List.length_append]at h1 h2;have:=Row.mk (e:=e) (size:=size) g A.length cap pre xa (xb++spare) post (by omega) (by rw[List.length_append];omega) (by
   have:A.length*size≤cap*size:=by omega
   exact Nat.le_of_mul_le_mul_right this hE.pos) h4
  simpa using this
def aq{z:List (List UInt8)}(h:z≠[]):Lib.compact z≠[]:=by
 cases z with
 | nil=>exact absurd rfl h
 | cons x l=>
  unfold Lib.compact Lib.compactUpTo;rw[List.length_cons,List.range_succ_eq_map,List.filter_cons_of_pos (by simp[Lib.keeps])];simp
def aQ(h:St w0 E w)(i:Nat){s:Seg}(hi:nth E i=some s){v:Sl}{l:List B0}(hr:Rw eS zc 1 v l s)(hn:l.length<1000000000){k:Sl→PT}
  (hk:∀v' s' w',Rw eS zc 1 v' (Wh l) s'→St w0 (zd E i s') w'→k v' w'):L.call Pr Xs [SlV v] (.one (.one .slice)) k w:=by
 have hr0:=hr;have hlen:=Rw.len yh hr;have hcap:=hr.cap;have hr:Rw eL zc 1 v (l.map bl) s:=by unfold Rw at *;rwa [←iD]
 by_cases hl:l = []
 ·subst hl;have e:v.len=0:=hlen;obtain⟨a,n,c⟩:=v;dsimp only at e;subst e;refine Vj (Tryz.slices_Compact_string_empty a c w) λe w' ⟨he,hw⟩=>⟨⟨a,0,c⟩,he,?_⟩;subst hw;exact hk _ s _ hr0 (by rw[yM hi];exact h)
 ·obtain⟨va,vn,vc⟩:=v;have:∃g off,va=some ⟨g,off,none⟩:=by
   have hr':=hr0;unfold Rw at hr';generalize fl eS l=xs at hr'
   cases hr' with
   | nil=>exact absurd (List.eq_nil_of_length_eq_zero hlen.symm) hl
   | mk=>exact⟨_,_,rfl⟩
  obtain⟨g,off,rfl⟩:=this;simp only at hlen hcap;subst hlen;have e1:l.length=(l.map bl).length:=by simp
  obtain⟨hH,hlt⟩:=Rw.holds h i (encv:=encStr) (λ_=>rfl) z0G hi hr;have hc:=Tryz.slices_Compact_string g off vc (l.map bl) w hH (by rw[←e1];omega) (by rw[←e1];exact hcap.1);rw[←e1]at hc;refine Vj hc λe w' ⟨he,q,hw⟩=>⟨⟨some ⟨g,off,none⟩,(Lib.compact (l.map bl)).length,vc⟩,he,?_⟩;subst hw;have hle:=Lib.compact_length_le (l.map bl);obtain⟨s',hr2,h3⟩:=St.putRow (w:=Sort.ahead w q) (h.drawn) i (encv:=encStr) (λ_=>rfl) z0G hi hr (Lib.compact (l.map bl)++List.replicate (l.length-(Lib.compact (l.map bl)).length) []) (by rw[List.length_append,List.length_replicate];omega);refine hk _ s' _ ?_ h3;have hz:=Rw.less z0G hr2 (aq (by simpa using hl));unfold Rw at *
  rwa [z6b]at hz
def wOf:List Shr→B0→Int
 | [],_=>0
 | s::l,r=>if s.1=r then s.2.1 else wOf l r
def rh(s:Shr)(l:List Shr)(r:B0):wOf (s::l) r=if s.1=r then s.2.1 else wOf l r:=rfl
def oZ{l:List Shr}{r:B0}(hw:∀s∈l,0≤@id Int s.2.1∧@id Int s.2.1≤1000):0≤wOf l r∧wOf l r≤1000:=by
 induction l with
 | nil=>exact⟨Int.le_refl 0,(by decide:(0:Int)≤1000)⟩
 | cons s l ih=>
  rw[rh];split
  ·exact hw s (by simp)
  ·exact ih λx hx=>hw x (List.mem_cons_of_mem _ hx)
def Te(h:St w0 E w){v:Sl}{l:List Shr}(r:RdE w0 E eSh v l)(hn:l.length<1000000){rev:B0}{k:Int→PT}(hk:∀w',St w0 E w'→k (wOf l rev) w') :
  L.call Pr qv [SlV v,.string rev] (.one (.one (.int .i64))) k w:=by
 refine za (wu v rev) ?_;unfold pm;have hlen:=Rd.len (r w h);refine nw h ?_;clear h;intro b1 w h;refine za (QC v ⟨.func uN,#[],#[.pointer (some ⟨b1,0,none⟩)]⟩) ?_;unfold Ji;refine zT (λq y w=>∃(j:Nat),@Eq Int y.1 j∧q+j=l.length∧wOf l rev=wOf (l.drop j) rev∧St w0 ([Cl b1 zc [.string rev]]::E) w) l.length ⟨0,rfl,rfl,rfl,h⟩ ?_;clear h;rintro q ⟨y,⟨⟩⟩ w ⟨j,hy,hq,hp,h⟩ again hag
 (try dsimp only)
 simp only at hy hp;subst hy;refine it (λhb=>?_) (λhb=>?_)<;>(try simp only[zB]at hb)
 ·have hj:j<l.length:=by omega
  have hx:l[j]? = some l[j]:=List.getElem?_eq_getElem hj;have rr:=r w (zm h);have ed:l.drop j=l[j]::l.drop (j+1):=by rw[←List.getElem_cons_drop hj]
  rw[ed]at hp;generalize l[j]=z at hx hp;obtain⟨z1,z2,⟨⟩⟩:=z;refine rr.ix Jc (by omega) (by simpa using hj) λa ha=>?_;refine rr.lda Jc ha (by simpa using hx) rfl ?_;refine jK (fs:=#[]) (cs:=#[.pointer (some ⟨b1,0,none⟩)]) dE (dN (z1,z2,()) ⟨b1,0,none⟩) ?_;unfold fC;refine nw h ?_;clear h;intro b4 w h
  (dsimp only[zd,List.cons_append,List.nil_append]at h;refine ldC h ?_;refine ldC h ?_)
  refine⟨_,rfl,?_⟩;rw[rh]at hp
  (try dsimp only at hp)
  rw[JW];refine it (λhc=>?_) (λhc=>?_)<;>(try simp only[zB]at hc)
  ·rw[if_pos hc]at hp;refine⟨_,rfl,?_⟩;refine itF (by simp) ?_;have rr:=r w (zm (zm h));refine rr.ix Jc (by omega) (by simpa using hj) λa ha=>?_;refine rr.ld Jc ha (f:=1) (by simpa using hx) rfl rfl ?_;exact⟨_,rfl,by have:=hk w (zm (zm h));rw[hp]at this;exact this⟩
  ·rw[if_neg hc]at hp;refine hag (q-1) _ w (by omega) ⟨j+1,?_,by omega,hp,zm h⟩;show Wi _=_;rw[wr (by omega) (by omega)];omega
 ·have e:l.drop j = []:=List.drop_of_length_le (by omega);rw[e]at hp;refine⟨_,rfl,?_⟩;refine itT (by decide) ?_;exact⟨_,rfl,by have:=hk w (zm h);rw[hp]at this;exact this⟩
abbrev Hg:FV:=⟨.func Gz,#[],#[]⟩
def Wt{v:Sl}{l:List Shr}(r:RdE w0 E eSh v l)(hn:l.length<1000000){b:Nat}{V:Sl×Sl}{A:List B0}(hA:A.length<1000000){vo:Sl}{so:Seg}(ro:Rw eS zc 1 vo A so){k:Sl×Int×Unit→PT}
  (h:St w0 (so::[Cl b Zk [SlV V.1,SlV V.2]]::E) w)
  (hk:∀v' s' m w',Rw eS zc 1 v' (A++l.map (·.1)) s'→St w0 (s'::[Cl b Zk [SlV V.1,SlV V.2]]::E) w'→k (v',m,()) w') :
  L.loop (Y:=Sl×Int×Unit) (⟨vo.a,vo.len,vo.cap⟩,0,()) (λy5 again6=>
  L.ite (decide (y5.2.1<((v.len:Nat):Int))) (
   L.idx v.a y5.2.1 v.len 2 λa7=>
   L.load (.agg [.str,.int .i64]) a7 λ(x8:B0×Int×Unit)=>
   L.new [.string s_,.int .i64 0] zW λb9=>
   L.store (⟨b9,0,none⟩) [.string x8.1,.int .i64 x8.2.1]<|
   L.load (.agg [.str,.int .i64]) (⟨b9,0,none⟩) λ(x10:B0×Int×Unit)=>
   L.callV Pr (.func Hg.fn Hg.fs Hg.cs) [.agg #[.string x10.1,.int .i64 x10.2.1]] (.one (.one (.str))) λ(x11:B0)=>
   L.new [.string x11] zc λb12=>
   L.sem Pr (.one (.one .slice)) (Builtin.append_ #[zj,zj] zj #[.slice y5.1.a y5.1.len y5.1.cap,.slice (some ⟨b12,0,none⟩) 1 1]) λ(s13:Sl)=>
   again6 (⟨s13.a,s13.len,s13.cap⟩,Wi (y5.2.1+1),()))<|
  k y5) w:=by
 have hlen:=Rd.len (r w (zm (zm h)));refine zT (λq y w=>∃(j:Nat)(s3:Seg),@Eq Int y.2.1 j∧q+j=l.length∧Rw eS zc 1 y.1 (A++(l.take j).map (·.1)) s3∧St w0 (s3::[Cl b Zk [SlV V.1,SlV V.2]]::E) w) l.length ⟨0,so,rfl,by simp,by simpa using ro,h⟩ ?_;clear ro;clear h;rintro q ⟨vo,y,⟨⟩⟩ w ⟨j,s3,hy,hq,r3,h⟩ again hag
 (try dsimp only)
 simp only at hy r3;subst hy;refine it (λhb=>?_) (λhb=>?_)<;>(try simp only[zB]at hb)
 ·have hj:j<l.length:=by omega
  have hx:l[j]? = some l[j]:=List.getElem?_eq_getElem hj;have rr:=r w (zm (zm h));have et:(l.take (j+1)).map (·.1)=(l.take j).map (·.1)++[l[j].1]:=by rw[List.take_succ,hx,List.map_append];rfl
  generalize l[j]=z at hx et;obtain⟨z1,z2,⟨⟩⟩:=z;refine rr.ix Jc (by omega) (by simpa using hj) λa ha=>?_;refine rr.lda Jc ha (by simpa using hx) rfl ?_;refine nw h ?_;clear h;intro b9 w h
  (refine stC h ?_;clear h;intro w h;dsimp only[zJ,zd]at h;refine laC h ?_)
  refine jK (fs:=#[]) (cs:=#[]) aS (aW (z1,z2,())) ?_;unfold Nm;refine nw h ?_;clear h;intro b4 w h
  (dsimp only[zd,List.cons_append,List.nil_append]at h;refine ldC h ?_)
  refine⟨_,rfl,?_⟩;refine nw h ?_;clear h;intro b12 w h;refine Rw.app yh elS h 2 rfl r3 z1 rfl (by simp;omega) (by simp;omega) λv' s3' w r3' h=>?_;refine hag (q-1) _ w (by omega) ⟨j+1,s3',?_,by omega,by rw[et,←List.append_assoc];exact r3',zm (zm h)⟩;show Wi _=_;rw[wr (by omega) (by omega)];omega
 ·have e:l.take j=l:=List.take_of_length_le (by omega);rw[e]at r3;exact hk vo s3 _ w r3 h
def Vt(fr to:List Shr):List B0:=Wh (yZ (fr.map (·.1)++to.map (·.1)))
def Wg(l:List B0):(Wh l).length≤l.length:=by
 have:=Lib.compact_length_le (l.map bl);unfold Wh;simpa using this
def If{v1 v2:Sl}{fr to:List Shr}(r1:RdE w0 E eSh v1 fr)(r2:RdE w0 E eSh v2 to)(n1:fr.length<100000)(n2:to.length<100000){b:Nat}(h:St w0 ([Cl b Zk [SlV v1,SlV v2]]::E) w){k:Sl→PT}
  (hk:∀v' s' w',Rw eS zc 1 v' (Vt fr to) s'→St w0 (s'::[Cl b Zk [SlV v1,SlV v2]]::E) w'→k v' w') :
  L.call Pr jR [Hg.val,.slice (some ⟨b,0,none⟩) 2 2] (.one (.one .slice)) k w:=by
 refine za (Vn Hg ⟨some ⟨b,0,none⟩,2,2⟩) ?_;unfold XE
 let N:Nat→List B0:=λj=>if j=0 then []else if j=1 then fr.map (·.1)else fr.map (·.1)++to.map (·.1)
 refine zT (λq y w=>∃(j:Nat)(s3:Seg),@Eq Int y.2.1 j∧q+j=2∧Rw eS zc 1 y.1 (N j) s3∧St w0 (s3::[Cl b Zk [SlV v1,SlV v2]]::E) w) 2 ⟨0,[],rfl,rfl,Rw.nil,h.nil⟩ ?_;clear h;rintro q ⟨vo,y,⟨⟩⟩ w ⟨j,s3,hy,hq,r3,h⟩ again hag
 (try dsimp only)
 simp only at hy r3;subst hy;refine it (λhb=>?_) (λhb=>?_)<;>(try simp only[zB]at hb)
 ·have hj:j=0∨j=1:=by omega
  rcases hj with rfl | rfl
  ·refine ix (by decide) (by decide) ?_
   (refine ldC h ?_)
   refine Wt r1 (by omega) (V:=(v1,v2)) (A:=[]) (by decide) r3 h λv' s' m w r3' h=>?_;exact hag 1 _ w (by omega) ⟨1,s',by rfl,by omega,r3',h⟩
  ·refine ix (by decide) (by decide) ?_
   (refine ldC h ?_)
   refine Wt r2 (by omega) (V:=(v1,v2)) (A:=fr.map (·.1)) (by simp;omega) r3 h λv' s' m w r3' h=>?_;exact hag 0 _ w (by omega) ⟨2,s',by rfl,by omega,r3',h⟩
 ·have hj:j=2:=by omega
  subst hj;have r3:Rw eS zc 1 vo (fr.map (·.1)++to.map (·.1)) s3:=r3;refine sF h 0 rfl r3 (by simp;omega) λs' w r3 h=>?_;refine aQ h 0 rfl r3 (by rw[jp];simp;omega) λv' s' w r3 h=>?_;exact⟨v',rfl,hk v' s' w r3 h⟩
def qy(fr to:List Shr)(gone whole:Int)(n:B0):Int:=if 0<wOf to n-wOf fr n then(wOf to n-wOf fr n)*gone/whole else 0
def YH(fr to:List Shr)(gone whole:Int)(st:Int×List Shr)(n:B0):Int×List Shr:=
 let d:=wOf fr n-wOf to n
 let m:=if 0<d then 0-(if st.1<d then st.1 else d)else qy fr to gone whole n
 (if 0<d then st.1+m else st.1,if 0<wOf fr n+m then st.2++[(n,wOf fr n+m,())]else st.2)
def z1U(fr to:List Shr)(gone whole:Int):List Shr:=
 ((Vt fr to).foldl (YH fr to gone whole) (((Vt fr to).map (qy fr to gone whole)).sum,[])).2
def ux(fr to:List Shr)(gone whole:Int):List Shr:=if whole≤0∨whole≤gone then to else if gone≤0 then fr else z1U fr to gone whole
def Dc{fr to:List Shr}{gone whole:Int}(hf:∀s∈fr,0≤@id Int s.2.1∧@id Int s.2.1≤1000)(ht:∀s∈to,0≤@id Int s.2.1∧@id Int s.2.1≤1000)(h0:0<gone)(h1:gone<whole)(n:B0) :
  0≤qy fr to gone whole n∧qy fr to gone whole n≤1000:=by
 have a:=oZ (r:=n) hf;have b:=oZ (r:=n) ht;unfold qy;split
 ·rename_i hc;have hd:wOf to n-wOf fr n≤1000:=by omega
  generalize wOf to n-wOf fr n=d at hc hd ⊢;refine⟨Int.ediv_nonneg (Int.mul_nonneg (by omega) (by omega)) (by omega),Int.ediv_le_of_le_mul (by omega) ?_⟩;exact Int.mul_le_mul hd (by omega) (by omega) (by omega)
 ·exact⟨by decide,by decide⟩
def z3W{fr to:List Shr}{gone whole:Int}(hf:∀s∈fr,0≤@id Int s.2.1∧@id Int s.2.1≤1000)(ht:∀s∈to,0≤@id Int s.2.1∧@id Int s.2.1≤1000)(h0:0<gone)(h1:gone<whole)(h2:whole≤1000000)(n:B0)(hc:0<wOf to n-wOf fr n) :
  Wi (Int.tdiv (Wi ((Wi (wOf to n-wOf fr n))*gone)) whole)=qy fr to gone whole n:=by
 have a:=oZ (r:=n) hf;have b:=oZ (r:=n) ht;have c:=Dc hf ht h0 h1 n;unfold qy at c ⊢;rw[if_pos hc]at c ⊢;have hd:wOf to n-wOf fr n≤1000:=by omega
 have e1:Wi (wOf to n-wOf fr n)=wOf to n-wOf fr n:=wr (by omega) (by omega);rw[e1];generalize wOf to n-wOf fr n=d at hc hd c ⊢;have m0:0≤d*gone:=Int.mul_nonneg (by omega) (by omega);have m1:d*gone≤1000*1000000:=Int.mul_le_mul hd (by omega) (by omega) (by omega);have e2:Wi (d*gone)=d*gone:=wr (by omega) (by omega);rw[e2,Int.tdiv_eq_ediv_of_nonneg m0,wr (by omega) (by omega)]
def Lp(h:St w0 E w){v1 v2:Sl}{fr to:List Shr}(r1:RdE w0 E eSh v1 fr)(r2:RdE w0 E eSh v2 to)(n1:fr.length<100000)(n2:to.length<100000)(z1:v1.a=none→fr = [])(z2:v2.a=none→to = [])
  (hf:∀s∈fr,0≤@id Int s.2.1∧@id Int s.2.1≤1000) (ht:∀s∈to,0≤@id Int s.2.1∧@id Int s.2.1≤1000) {gone whole:Int} (hw:whole≤1000000) {k:Sl→PT}
  (hk:∀v s w',Rw eSh zW 2 v (ux fr to gone whole) s→St w0 (s::E) w'→k v w'):L.call Pr OM [SlV v1,SlV v2,I gone,I whole] (.one (.one .slice)) k w:=by
 refine za (ww v1 v2 _ _) ?_;unfold pn;have toEnd:∀{w},(whole≤0∨whole≤gone)→St w0 E w→L.call Pr Zq [.slice v2.a v2.len v2.cap] (.one (.one (.slice))) (λ(x3:Sl) w'=>∃x,Value.slice x3.a x3.len x3.cap=RT.val (.one (.one .slice)) x∧k x w') w:=by
  intro w hc h;refine Ml h (r2 w h) (by omega) z2 λv s w r h=>⟨v,rfl,hk v s w ?_ h⟩;unfold ux;rw[if_pos hc];exact r
 refine jd ?_;refine it (λh1=>?_) (λh1=>?_)<;>(try simp only[zB]at h1)
 ·exact itT rfl (toEnd (.inl h1) h)
 refine it (λh2=>?_) (λh2=>?_)
 ·exact toEnd (.inr (by simpa using h2)) h
 have h2:gone<whole:=by simpa using h2
 have hno:¬(whole≤0∨whole≤gone):=by omega
 refine it (λh3=>?_) (λh3=>?_)<;>(try simp only[zB]at h3)
 ·refine Ml h (r1 w h) (by omega) z1 λv s w r h=>⟨v,rfl,hk v s w ?_ h⟩;unfold ux;rw[if_neg hno,if_pos h3];exact r
 unfold ux at hk;rw[if_neg hno,if_neg h3]at hk;refine nw h ?_;clear h;intro b5 w h;refine If r1 r2 n1 n2 h λv6 s6 w r6 h=>?_;have hl6:=Rw.len yh r6;have hnn:(Vt fr to).length<200000:=by
  have:=Wg (yZ (fr.map (·.1)++to.map (·.1)));rw[jp,List.length_append,List.length_map,List.length_map]at this;unfold Vt;omega
 unfold z1U at hk;generalize Vt fr to=ns at *
 refine mkN elI Yy 0 rfl h (by omega) (by omega) (by omega) λv7 s7 w r7 h=>?_;rw[Int.toNat_natCast,hl6]at r7;have hup:∀n,0≤qy fr to gone whole n∧qy fr to gone whole n≤1000:=Dc hf ht (by omega) h2;have hupe:=λn=>z3W hf ht (by omega) h2 hw n;have wf:∀n,0≤wOf fr n∧wOf fr n≤1000:=λn=>oZ hf;have wt:∀n,0≤wOf to n∧wOf to n≤1000:=λn=>oZ ht;have sumb:∀l:List B0,0≤(l.map (qy fr to gone whole)).sum∧(l.map (qy fr to gone whole)).sum≤1000*l.length:=by
  intro l
  induction l with
  | nil=>exact⟨Int.le_refl 0,Int.le_refl 0⟩
  | cons x l ih=>
   have:=hup x;simp only[List.map_cons,List.sum_cons,List.length_cons];omega
 have r1':RdE w0 ([Cl b5 Zk [SlV v1,SlV v2]]::E) eSh v1 fr:=λw h=>r1 w (zm h);have r2':RdE w0 ([Cl b5 Zk [SlV v1,SlV v2]]::E) eSh v2 to:=λw h=>r2 w (zm h)
 refine zT (λq y w=>∃(j:Nat)(m:List Int)(s7:Seg),@Eq Int y.2.1 j∧q+j=ns.length∧@Eq Int y.1 ((ns.take j).map (qy fr to gone whole)).sum∧m.length=ns.length∧(∀i x,ns[i]? = some x→m[i]? = some (if i<j then qy fr to gone whole x else 0))∧
  Rw eI zx 1 v7 m s7∧St w0 (s7::s6::[Cl b5 Zk [SlV v1,SlV v2]]::E) w) ns.length ⟨0,_,s7,rfl,by simp,rfl,by simp,λi x hx=>?_,r7,h⟩ ?_
 ·rw[if_neg (by omega),List.getElem?_replicate,if_pos (List.getElem?_eq_some_iff.1 hx).1]
 clear h;clear r7;rintro q ⟨g,y,⟨⟩⟩ w ⟨j,m,s7,hy,hq,hg,hm,hmm,r7,h⟩ again hag
 (try dsimp only)
 simp only at hy hg;subst hy;refine it (λhb=>?_) (λhb=>?_)<;>(try simp only[zB]at hb)
 ·have hj:j<ns.length:=by omega
  have hx:ns[j]? = some ns[j]:=List.getElem?_eq_getElem hj;have es:((ns.take (j+1)).map (qy fr to gone whole)).sum=((ns.take j).map (qy fr to gone whole)).sum+qy fr to gone whole ns[j]:=by rw[List.take_succ,hx,List.map_append,List.sum_append];simp
  have hsb:=sumb (ns.take j);have hlt:(ns.take j).length≤200000:=by rw[List.length_take];omega
  generalize ns[j]=x at hx es;have next:∀{w}{m':List Int}{s7':Seg}{g':Int},g'=g+qy fr to gone whole x→m'.length=ns.length→(∀i z,ns[i]? = some z→m'[i]? = some (if i<j+1 then qy fr to gone whole z else 0))→Rw eI zx 1 v7 m' s7'→St w0 (s7'::s6::[Cl b5 Zk [SlV v1,SlV v2]]::E) w→again (g',Wi ((j:Int)+1),()) w:=by
   intro w m' s7' g' e1 e2 e3 e4 h;refine hag (q-1) _ w (by omega) ⟨j+1,m',s7',?_,by omega,?_,e2,e3,e4,h⟩
   ·show Wi _=_;rw[wr (by omega) (by omega)];omega
   ·show g'=_;rw[e1,es,hg]
  refine jd ?_
  (refine dr h ?_;clear h;intro w h)
  refine Rw.ix yh r6 (by omega) (by simpa using hj) λa1 ha1=>?_;refine Rw.ld0 yh h 1 rfl r6 ha1 (x:=x) (by simpa using hx) rfl rfl ?_;refine Rw.ix yh r6 (by omega) (by simpa using hj) λa2 ha2=>?_;refine Rw.ld0 yh h 1 rfl r6 ha2 (x:=x) (by simpa using hx) rfl rfl ?_;refine Te h (λw h=>r2' w (zm (zm h))) (by omega) λw h=>?_;refine Rw.cka yh h 1 rfl r6 ha2 (x:=x) (by simpa using hx) rfl ?_;refine Te h (λw h=>r1' w (zm (zm h))) (by omega) λw h=>?_;have hux:=hup x;have hfx:=wf x;have htx:=wt x;have hue:=hupe x;have e9:Wi (wOf to x-wOf fr x)=wOf to x-wOf fr x:=wr (by omega) (by omega);refine it (λh4=>?_) (λh4=>?_)<;>(try simp only[zB]at h4)
  ·rw[e9]at h4;have hue:=hue h4;refine gd (by omega) ?_;refine Rw.ix Yy r7 (by omega) (by simp;omega) λa3 ha3=>?_;refine Rw.sta Yy h 0 rfl r7 ha3 (qy fr to gone whole x) (by simp;omega) (by rw[hue];rfl) λs7' w r7' h=>?_;refine Rw.ix Yy r7' (by omega) (by simp;omega) λa4 ha4=>?_;refine Rw.ld0 Yy h 0 rfl r7' ha4 (x:=qy fr to gone whole x) (by rw[Int.toNat_natCast];exact List.getElem?_set_self (by omega)) rfl rfl ?_;have eg:Wi (g+qy fr to gone whole x)=g+qy fr to gone whole x:=wr (by omega) (by omega)
   (try dsimp only)
   rw[eg];refine next rfl (by simpa using hm) (λi z hz=>?_) r7' h
   simp only[Int.toNat_natCast];rw[List.getElem?_set];split
   ·rename_i e;subst e;rw[hx]at hz;cases hz;rw[if_pos (by omega),if_pos (by omega)]
   ·rename_i e;rw[hmm i z hz];by_cases hi:i<j
    ·rw[if_pos hi,if_pos (by omega)]
    ·rw[if_neg hi,if_neg (by omega)]
  ·rw[e9]at h4;have h0:qy fr to gone whole x=0:=by unfold qy;rw[if_neg h4]
   refine next (by rw[h0];omega) hm (λi z hz=>?_) r7 h
   rw[hmm i z hz];by_cases hi:i<j
   ·rw[if_pos hi,if_pos (by omega)]
   ·rw[if_neg hi];split
    ·have:i=j:=by omega
     subst this;rw[hx]at hz;cases hz;rw[h0]
    ·rfl
 ·have e:ns.take j=ns:=List.take_of_length_le (by omega);rw[e]at hg;have hsb:=sumb ns;have hm2:∀i x,ns[i]? = some x→m[i]? = some (qy fr to gone whole x):=λi x hx=>by
   rw[hmm i x hx,if_pos (by have:=(List.getElem?_eq_some_iff.1 hx).1;omega)]
  generalize hg0:(ns.map (qy fr to gone whole)).sum=G at *
  refine zT (λq y w=>∃(j:Nat)(m:List Int)(s7 s8:Seg),@Eq Int y.2.2.1 j∧q+j=ns.length∧@Eq Int y.1 ((ns.take j).foldl (YH fr to gone whole) (G,[])).1∧(0≤@id Int y.1∧@id Int y.1≤G)∧m.length=ns.length∧(∀i x,j≤i→ns[i]? = some x→m[i]? = some (qy fr to gone whole x))∧
   Rw eSh zW 2 y.2.1 ((ns.take j).foldl (YH fr to gone whole) (G,[])).2 s8∧((ns.take j).foldl (YH fr to gone whole) (G,[])).2.length≤j∧
   Rw eI zx 1 v7 m s7∧St w0 (s8::s7::s6::[Cl b5 Zk [SlV v1,SlV v2]]::E) w) ns.length ⟨0,m,s7,[],rfl,by simp,hg,?_,hm,λi x _ hx=>hm2 i x hx,Rw.nil,by simp,r7,h.nil⟩ ?_
  ·show 0≤g∧g≤G;omega
  clear hag hb hq hmm hm2 hm hg e r7;clear j m;clear h;rintro q ⟨g,vo,y,⟨⟩⟩ w ⟨j,m,s7,s8,hy,hq,hg,hgb,hm,hmm,r8,hl8,r7,h⟩ again hag
  (try dsimp only)
  simp only[id]at hgb;simp only at hy hg r8;subst hy;refine it (λhb=>?_) (λhb=>?_)<;>(try simp only[zB]at hb)
  ·have hj:j<ns.length:=by omega
   have hx:ns[j]? = some ns[j]:=List.getElem?_eq_getElem hj;have es:(ns.take (j+1)).foldl (YH fr to gone whole) (G,[])=YH fr to gone whole ((ns.take j).foldl (YH fr to gone whole) (G,[])) ns[j]:=by rw[List.take_succ,hx,List.foldl_append];rfl
   generalize (ns.take j).foldl (YH fr to gone whole) (G,[])=st at *
   generalize ns[j]=x at hx es;obtain⟨st1,st2⟩:=st
   (try dsimp only at hg r8 hl8 es)
   have hux:=hup x;have hfx:=wf x;have htx:=wt x;have hmx:=hmm j x (Nat.le_refl _) hx
   have next:∀{w}{m':List Int}{s7' s8':Seg}{g':Int}{vo':Sl}{l':List Shr},(g',l')=YH fr to gone whole (st1,st2) x→(0≤g'∧g'≤G)→m'.length=ns.length→(∀i z,j+1≤i→ns[i]? = some z→m'[i]? = some (qy fr to gone whole z))→l'.length≤j+1→Rw eSh zW 2 vo' l' s8'→Rw eI zx 1 v7 m' s7'→
     St w0 (s8'::s7'::s6::[Cl b5 Zk [SlV v1,SlV v2]]::E) w→again (g',vo',Wi ((j:Int)+1),()) w:=by
    intro w m' s7' s8' g' vo' l' e1 e0 e2 e3 el e4 e5 h;refine hag (q-1) _ w (by omega) ⟨j+1,m',s7',s8',?_,by omega,?_,e0,e2,e3,?_,?_,e5,h⟩
    ·show Wi _=_;rw[wr (by omega) (by omega)];omega
    ·show g'=_;rw[es,←e1]
    ·show Rw eSh zW 2 vo' _ _;rw[es,←e1];exact e4
    ·rw[es,←e1];exact el
   refine jd ?_;refine Rw.ix yh r6 (by omega) (by simpa using hj) λa1 ha1=>?_;refine Rw.ld0 yh h 2 rfl r6 ha1 (x:=x) (by simpa using hx) rfl rfl ?_;refine Te h (λw h=>r1' w (zm (zm (zm h)))) (by omega) λw h=>?_;refine jd ?_;refine Rw.ix yh r6 (by omega) (by simpa using hj) λa2 ha2=>?_;refine Rw.ld0 yh h 2 rfl r6 ha2 (x:=x) (by simpa using hx) rfl rfl ?_;refine Te h (λw h=>r2' w (zm (zm (zm h)))) (by omega) λw h=>?_;have e9:Wi (wOf fr x-wOf to x)=wOf fr x-wOf to x:=wr (by omega) (by omega);rw[e9];refine it (λh4=>?_) (λh4=>?_)<;>(try simp only[zB]at h4)
   ·have hst:YH fr to gone whole (st1,st2) x=(st1+(0-(if st1<wOf fr x-wOf to x then st1 else wOf fr x-wOf to x)),if 0<wOf fr x+(0-(if st1<wOf fr x-wOf to x then st1 else wOf fr x-wOf to x))then st2++[(x,wOf fr x+(0-(if st1<wOf fr x-wOf to x then st1 else wOf fr x-wOf to x)),())]else st2):=by
     have h4':0<wOf fr x-wOf to x:=h4;unfold YH;dsimp only;rw[if_pos h4',if_pos h4']
    subst hg;have em:Wi (0-(if g<wOf fr x-wOf to x then g else wOf fr x-wOf to x))=0-(if g<wOf fr x-wOf to x then g else wOf fr x-wOf to x):=by
     split<;>exact wr (by omega) (by omega)
    have hmv: -1000≤0-(if g<wOf fr x-wOf to x then g else wOf fr x-wOf to x)∧0-(if g<wOf fr x-wOf to x then g else wOf fr x-wOf to x)≤0∧0≤g+(0-(if g<wOf fr x-wOf to x then g else wOf fr x-wOf to x)):=by split<;>omega
    rw[em];generalize 0-(if g<wOf fr x-wOf to x then g else wOf fr x-wOf to x)=mv at hst em hmv;refine Rw.ix Yy r7 (by omega) (by rw[Int.toNat_natCast];omega) λa3 ha3=>?_;refine Rw.sta Yy h 1 rfl r7 ha3 mv (by rw[Int.toNat_natCast];omega) rfl λs7 w r7 h=>?_;rw[Int.toNat_natCast]at r7;have hm:(m.set j mv).length=ns.length:=by simpa using hm
    have hmj:(m.set j mv)[j]? = some mv:=List.getElem?_set_self (by rw[List.length_set]at hm;omega);have hm3:∀i z,j+1≤i→ns[i]? = some z→(m.set j mv)[i]? = some (qy fr to gone whole z):=λi z hi hz=>by
     rw[List.getElem?_set_ne (by omega)];exact hmm i z (by omega) hz
    generalize m.set j mv=m at *
    refine Rw.ix Yy r7 (by omega) (by rw[Int.toNat_natCast];omega) λa4 ha4=>?_;refine Rw.ld0 Yy h 1 rfl r7 ha4 (x:=mv) (by rw[Int.toNat_natCast];exact hmj) rfl rfl ?_;have eg:Wi (g+mv)=g+mv:=wr (by omega) (by omega);rw[eg];have hgg:0≤g+mv∧g+mv≤G:=by omega
    refine Rw.ix Yy r7 (by omega) (by rw[Int.toNat_natCast];omega) λa5 ha5=>?_;refine Rw.ld0 Yy h 1 rfl r7 ha5 (x:=mv) (by rw[Int.toNat_natCast];exact hmj) rfl rfl ?_;have e10:Wi (wOf fr x+mv)=wOf fr x+mv:=wr (by omega) (by omega);rw[e10];refine it (λh5=>?_) (λh5=>?_)<;>(try simp only[zB]at h5)
    ·rw[if_pos h5]at hst;refine Rw.ix yh r6 (by omega) (by simpa using hj) λa6 ha6=>?_;refine Rw.ld0 yh h 2 rfl r6 ha6 (x:=x) (by simpa using hx) rfl rfl ?_;refine nw h ?_;clear h;intro b40 w h;refine Rw.app Jc z0H h 0 rfl r8 ((x,wOf fr x+mv,()):Shr) rfl (by omega) (by omega) λv' s8' w r8' h=>?_;exact next hst.symm hgg hm hm3 (by simp;omega) r8' r7 h
    ·rw[if_neg h5]at hst;exact next hst.symm hgg hm hm3 (by omega) r8 r7 h
   ·have hst:YH fr to gone whole (st1,st2) x=(st1,if 0<wOf fr x+qy fr to gone whole x then st2++[(x,wOf fr x+qy fr to gone whole x,())]else st2):=by
     have h4':¬0<wOf fr x-wOf to x:=h4;unfold YH;dsimp only;rw[if_neg h4',if_neg h4']
    subst hg;have hgg:=hgb;have hmj:=hmx;have hm3:∀i z,j+1≤i→ns[i]? = some z→m[i]? = some (qy fr to gone whole z):=λi z hi hz=>hmm i z (by omega) hz;generalize qy fr to gone whole x=mv at hst hmj hux;refine Rw.ix Yy r7 (by omega) (by rw[Int.toNat_natCast];omega) λa5 ha5=>?_;refine Rw.ld0 Yy h 1 rfl r7 ha5 (x:=mv) (by rw[Int.toNat_natCast];exact hmj) rfl rfl ?_;have e10:Wi (wOf fr x+mv)=wOf fr x+mv:=wr (by omega) (by omega);rw[e10];refine it (λh5=>?_) (λh5=>?_)<;>(try simp only[zB]at h5)
    ·rw[if_pos h5]at hst;refine Rw.ix yh r6 (by omega) (by simpa using hj) λa6 ha6=>?_;refine Rw.ld0 yh h 2 rfl r6 ha6 (x:=x) (by simpa using hx) rfl rfl ?_;refine nw h ?_;clear h;intro b40 w h;refine Rw.app Jc z0H h 0 rfl r8 ((x,wOf fr x+mv,()):Shr) rfl (by omega) (by omega) λv' s8' w r8' h=>?_;exact next hst.symm hgg hm hm3 (by simp;omega) r8' r7 h
    ·rw[if_neg h5]at hst;exact next hst.symm hgg hm hm3 (by omega) r8 r7 h
  ·have e:ns.take j=ns:=List.take_of_length_le (by omega);rw[e]at r8 hl8;refine Ml h (Rw.rd Jc h 0 rfl r8) (by omega) (Rw.nil0 Jc r8) λv s w r h=>⟨v,rfl,hk v s w r (Yf (Yf (Yf (Yf h))))⟩
abbrev Wy:=HT [.slice,.slice,.int .i64,.int .i64,.slice,.slice]
abbrev eWy:E1:=.agg [.slice,.slice,.int .i64,.int .i64,.slice,.slice]
def vWy(t:Wy):Value:=eWy.val t
def Rq:Wy:=(⟨none,0,0⟩,⟨none,0,0⟩,0,0,⟨none,0,0⟩,⟨none,0,0⟩,())
structure wV where
 fr:List Shr
 to:List Shr
 since:Int
 whole:Int
 ns:List Shr
 ng:List Tgo
abbrev WBd(l:List Shr):Prop:=∀s∈l,0≤@id Int s.2.1∧@id Int s.2.1≤1000
structure wV.Ok(a:wV):Prop where
 fr:WBd a.fr
 to:WBd a.to
 ns:WBd a.ns
 lf:a.fr.length<100000
 lt:a.to.length<100000
 ln:a.ns.length<100000
 lg:a.ng.length<100000
structure WyE where
 k:B0
 t:Wy
 a:wV
def WyE.ok(P:List Seg)(x:WyE):Prop:=
 (∃s∈P,Rw eSh zW 2 x.t.1 x.a.fr s)∧(∃s∈P,Rw eSh zW 2 x.t.2.1 x.a.to s)∧x.t.2.2.1=x.a.since∧x.t.2.2.2.1=x.a.whole∧(∃s∈P,Rw eSh zW 2 x.t.2.2.2.2.1 x.a.ns s)∧(∃s∈P,Rw eTo jy 2 x.t.2.2.2.2.2.1 x.a.ng s)
abbrev WyE.kt(x:WyE):B0×Wy:=(x.k,x.t)
abbrev WyE.ka(x:WyE):B0×wV:=(x.k,x.a)
def WyE.ok.more{P P':List Seg}{x:WyE}(h:x.ok P)(hp:∀s∈P,s∈P'):x.ok P':=by
 obtain⟨⟨s1,h1,r1⟩,⟨s2,h2,r2⟩,e1,e2,⟨s3,h3,r3⟩,⟨s4,h4,r4⟩⟩:=h;exact⟨⟨s1,hp _ h1,r1⟩,⟨s2,hp _ h2,r2⟩,e1,e2,⟨s3,hp _ h3,r3⟩,⟨s4,hp _ h4,r4⟩⟩
abbrev oV:=List (B0×wV)
def II(b:Nat)(m:oV)(s:Seg):Prop:=∃r sm,∃(P:List Seg)(Q:List WyE),MpS Value.string vWy r (Q.map WyE.kt) sm∧(∀x∈Q,x.ok P)∧m=Q.map WyE.ka∧s = [Cl b OU [.map (some r)]]++(sm++P.flatten)
def Ai:Pr.underlying YF=some (.map zc Yz):=by kernel_rfl
def zwy(w:World):(zeroValue Yz).run Pr w = .ok (eWy.val Rq) w:=by
 have h:(Pr.info? Yz).map (·.zero)=some (some (.agg #[.slice none 0 0,.slice none 0 0,I 0,I 0,.slice none 0 0,.slice none 0 0])):=by kernel_rfl
 cases hi:Pr.info? Yz with
 | none=>rw[hi]at h;cases h
 | some i=>rw[hi]at h;simp only[Option.map_some,Option.some.injEq]at h;exact zv hi h w
def tr{α:Type}{enc:α→List Value}{e size:Nat}{v:Sl}{l:List α}{s:Seg}{P:List Seg}(hE:Enc enc size)(hr:Rw enc e size v l s)(hs:s∈P)(i:Nat)(hi:nth E i=some P.flatten):RdE w0 E enc v l:=by
 obtain⟨A,B,rfl⟩:=List.append_of_mem hs;intro w h;have h:=h.front i hi;have h:St w0 (s::(A.flatten++B.flatten)::Zv E i) w:=by
  refine h.perm ?_;simp only[List.flatten_append,List.flatten_cons,←List.append_assoc];exact List.Perm.append_right _ (List.Perm.append_right _ List.perm_append_comm)
 exact Rw.rd hE h 0 rfl hr
def fc(Q:List WyE)(n:B0):Option WyE:=Us WyE.k Q n
def Db(Q:List WyE)(n:B0):zr (Q.map WyE.ka) n=(fc Q n).map WyE.a:=QS (key:=WyE.k) WyE.a n Q
def IM(Q:List WyE)(n:B0):zr (Q.map WyE.kt) n=(fc Q n).map WyE.t:=QS (key:=WyE.k) WyE.t n Q
def Eo{r:Nat}{Q:List WyE}{s:Seg}(h:St w0 E w)(i:Nat)(hi:nth E i=some s)(hm:MpS Value.string vWy r (Q.map WyE.kt) s){n:B0}{kk:Wy×Bool×Unit→PT}(hk:kk (((fc Q n).map WyE.t).getD Rq,(fc Q n).isSome,()) w) :
  L.semR Pr (.tup [eWy,.one .bool]) (Instr.lookup YF (.map (some r)) (.string n) true) kk w:=by
 refine MpS.get2 ve Ai zwy (λt:Wy=>t) (λ_=>rfl) h i hi hm ?_;have e:=IM Q n;have:((zr (Q.map WyE.kt) n).map λt:Wy=>t).getD Rq=((fc Q n).map WyE.t).getD Rq:=by rw[e];cases fc Q n<;>rfl
 rw[this,e,Option.isSome_map];exact hk
def z1m(h:St w0 E w){k:Option Addr→PT}(hk:∀b s w',II b [] s→St w0 (s::E) w'→k (some ⟨b,0,none⟩) w'):L.call Pr pP [] (.one (.one .ptr)) k w:=by
 refine za aZ ?_;unfold Np;refine MpS.new h Value.string vWy λr s w hm h=>?_;refine nw h ?_;clear h;intro b w h;exact⟨_,rfl,hk b _ w ⟨r,s,[],[],hm,by simp,rfl,by simp⟩ h.glue⟩
def Od(m:oV)(n:B0):Vr:=match zr m n with
 | some a=>⟨a.ns,a.ng⟩
 | none=>⟨[],[]⟩
def eX(h:St w0 E w)(i:Nat){b:Nat}{m:oV}{s:Seg}(hi:nth E i=some s)(hs:II b m s){n:B0}(hok:∀a,zr m n=some a→a.Ok){k:HT [.slice,.slice]×Bool×Unit→PT}
  (hk:∀p sx w',(∀E',gE w0 (sx::E') p (Od m n))→St w0 (sx::E) w'→k (p,(zr m n).isSome,()) w') :
  L.call Pr ug [pO b,.string n] (.tup [.agg [.slice,.slice],.one .bool]) k w:=by
 obtain⟨r,sm,P,Q,hm,hQ,rfl,rfl⟩:=hs;refine za (Mz _ _) ?_;unfold kQ;have h:=(h.front i hi).split3;refine nw h ?_;clear h;intro b1 w h
 (refine nn ?_;refine ldC h ?_)
 refine Eo h 2 rfl hm ?_;rw[Db]at hk hok;unfold Od at hk;rw[Db]at hk
 cases hf:fc Q n with
 | none=>
  rw[hf]at hk;refine nw h ?_;clear h;intro b5 w h
  (refine stC h ?_;clear h;intro w h;dsimp only[zJ,zd]at h)
  refine itT rfl ?_
  (refine stC h ?_;clear h;intro w h;dsimp only[zJ,zd]at h;refine laC h ?_)
  refine⟨((⟨none,0,0⟩,⟨none,0,0⟩,()),false,()),rfl,hk _ [] w (λ_=>⟨λ_ _=>Rd.nil,λ_ _=>Rd.nil,λ_=>rfl,λ_=>rfl,by decide,by decide⟩) ?_⟩;exact St.nil (St.again i hi (zm (zm h)).glue3)
 | some x=>
  rw[hf]at hk hok;have hx:x∈Q:=List.mem_of_find?_eq_some hf;have ho:=hok x.a rfl;obtain⟨h1,h2,e1,e2,⟨s3,h3,r3⟩,⟨s4,h4,r4⟩⟩:=hQ x hx;dsimp only[Option.map,Option.getD];generalize x.t=t at *
  refine nw h ?_;clear h;intro b5 w h
  (refine stC h ?_;clear h;intro w h;dsimp only[zJ,zd]at h)
  refine itF rfl ?_
  (refine laC h ?_)
  refine oi (t:=⟨x.a.ns,x.a.ng⟩) (p:=(t.2.2.2.2.1,t.2.2.2.2.2.1,())) h ⟨tr Jc r3 h3 4 rfl,tr qN r4 h4 4 rfl,Rw.nil0 Jc r3,Rw.nil0 qN r4,ho.ln,ho.lg⟩ λv1 v2 s1 s2 w r1 r2 h=>?_
  (refine stC h ?_;clear h;intro w h;dsimp only[zJ,zd]at h;refine laC h ?_)
  refine⟨((v1,v2,()),true,()),rfl,hk _ (s2++s1) w (λ_=>⟨λw h=>Rw.rd Jc h.split 1 rfl r1,λw h=>Rw.rd qN h.split 0 rfl r2,Rw.nil0 Jc r1,Rw.nil0 qN r2,ho.ln,ho.lg⟩) ?_⟩;have h:=VQ (VQ h);have h:=Yh (Yh (Yh h));have h:=h.glue3;have h:=St.again (E:=s2::s1::E) (i+2) hi h;exact h.glue
instance :DecidableEq Shr:=inferInstanceAs (DecidableEq (B0×Int×Unit))
instance :DecidableEq Tgo:=inferInstanceAs (DecidableEq (B0×B0×Unit))
def z2D(a b:Shr)(w:World):(do eqGuard .neq zW (.tmp 0) (.tmp 0) (.agg #[.string a.1,.int .i64 a.2.1]) (.agg #[.string b.1,.int .i64 b.2.1]);binOp .neq zW (.agg #[.string a.1,.int .i64 a.2.1]) (.agg #[.string b.1,.int .i64 b.2.1]):Sem Value).run Pr w = .ok (.bool (!((a.1 == b.1)&&((a.2.1 == b.2.1)&&true)))) w:=by
 obtain⟨a1,a2,⟨⟩⟩:=a;obtain⟨b1,b2,⟨⟩⟩:=b;refine HF (by kernel_rfl) ?_;have hS:Pr.underlying zW=some (.struct (Pr.fieldsOf zW)):=by kernel_rfl
 have hp:Pr.stoodInHeld zW=false:=by kernel_rfl
 rw[show(10000:Nat)=9999+1 from rfl,run_equalIn_agg w 9999 zW _ _ hS hp];have u9:=Tryz.underlying9;have i9:=Tryz.isAgg9;have z9:=Tryz.sizeOf9;have u3:=Tryz.underlying3;have i3:=Tryz.isAgg3;have z3:=Tryz.sizeOf3;simp only[Program.fieldsOf,Tryz.underlying60]
 go_simp
 have e:(ByteArray.toList a1=ByteArray.toList b1)↔(@BEq.beq B0 _ a1 b1)=true:=by rw[beq_toListBytes];simp
 by_cases h1:(@BEq.beq B0 _ a1 b1)=true
 ·have:=e.2 h1;by_cases h2:a2=b2<;>simp[h1,h2,this]
 ·have:=λhh=>h1 (e.1 hh);by_cases h2:a2=b2<;>first | (simp[h1,h2,this];done) | (simp[h1,h2];exact this)
def Ei(h:St w0 E w){v1 v2:Sl}{l1 l2:List Shr}(r1:RdE w0 E eSh v1 l1)(r2:RdE w0 E eSh v2 l2)(n1:l1.length<1000000){k:Bool→PT}(hk:∀w',St w0 E w'→k (decide (l1=l2)) w') :
  L.call Pr yN [SlV v1,SlV v2] (.one (.one .bool)) k w:=by
 refine za (Uh v1 v2) ?_;unfold xk;have e1:=Rd.len (r1 w h);have e2:=Rd.len (r2 w h);refine it (λhc=>?_) (λhc=>?_)<;>(try simp only[bne_iff_ne,ne_eq,bne_eq_false_iff_eq]at hc)
 ·refine⟨false,rfl,?_⟩;have:=hk w h;rw[decide_eq_false (λe=>by rw[e]at e1;omega)]at this;exact this
 have hl:l1.length=l2.length:=by omega
 refine zT (λq y w=>∃(j:Nat),@Eq Int y.1 j∧q+j=l1.length∧l1.take j=l2.take j∧St w0 E w) l1.length ⟨0,rfl,rfl,rfl,h⟩ ?_;clear h;rintro q ⟨y,⟨⟩⟩ w ⟨j,hy,hq,he,h⟩ again hag
 (try dsimp only)
 simp only at hy;subst hy;refine it (λhb=>?_) (λhb=>?_)<;>(try simp only[zB]at hb)
 ·have hj:j<l1.length:=by omega
  have hx:l1[j]? = some l1[j]:=List.getElem?_eq_getElem hj;have hz:l2[j]? = some (l2[j]'(by omega)):=List.getElem?_eq_getElem (by omega);generalize l1[j]=x at hx;generalize (l2[j]'(by omega))=z at hz;refine dr h ?_;clear h;intro w h;refine(r1 w h).ix Jc (by omega) (by simpa using hj) λa ha=>?_;refine(r1 w h).lda Jc ha (by simpa using hx) rfl ?_;refine(r2 w h).ix Jc (by omega) (by simp;omega) λa ha=>?_;refine(r2 w h).lda Jc ha (by simpa using hz) rfl ?_;unfold L.chkSem;refine⟨z2D x z w,?_⟩;have hxz:((x.1 == z.1)&&((x.2.1 == z.2.1)&&true))=decide (x=z):=by
   obtain⟨x1,x2,⟨⟩⟩:=x;obtain⟨z1,z2,⟨⟩⟩:=z;have e:(@BEq.beq B0 _ x1 z1)=true↔x1=z1:=cO;dsimp only;rw[Bool.eq_iff_iff];simp only[Bool.and_eq_true,decide_eq_true_eq,Prod.mk.injEq,and_true,beq_iff_eq,e]
  rw[hxz];refine it (λhc=>?_) (λhc=>?_)
  ·have hne:x≠z:=by simpa using hc
   refine⟨false,rfl,?_⟩;have:=hk w h;rw[decide_eq_false (λe=>by rw[e,hz]at hx;cases hx;exact hne rfl)]at this;exact this
  ·have heq:x=z:=by simpa using hc
   refine hag (q-1) _ w (by omega) ⟨j+1,?_,by omega,?_,h⟩
   ·show Wi _=_;rw[wr (by omega) (by omega)];omega
   ·rw[List.take_succ,List.take_succ,he,hx,hz,heq]
 ·refine⟨true,rfl,?_⟩;have:=hk w h;rw[decide_eq_true (by rw[List.take_of_length_le (by omega),List.take_of_length_le (by omega)]at he;exact he)]at this;exact this
def Xc(m:oV)(n:B0)(t:Vr)(now whole:Int):wV:=match zr m n with
 | some a=>if a.to=t.sh∧a.whole=whole then a else⟨a.ns,t.sh,now,whole,[],[]⟩
 | none=>⟨t.sh,t.sh,now,whole,[],[]⟩
def fg(m:oV)(n:B0)(t:Vr)(now whole:Int):Vr:=⟨ux (Xc m n t now whole).fr (Xc m n t now whole).to (now-(Xc m n t now whole).since) whole,t.tg⟩
def DU(m:oV)(n:B0)(t:Vr)(now whole:Int):oV:=
 zX m n ⟨(Xc m n t now whole).fr,(Xc m n t now whole).to,(Xc m n t now whole).since,(Xc m n t now whole).whole,(fg m n t now whole).sh,t.tg⟩
abbrev wyC(t:Wy):List Value:=[SlV t.1,SlV t.2.1,I t.2.2.1,I t.2.2.2.1,SlV t.2.2.2.2.1,SlV t.2.2.2.2.2.1]
def _root_.Go.Dm.St.pool{s:Seg}{P F:List Seg}(h:St w0 (s::P.flatten::F) w):St w0 ((s::P).flatten::F) w:=h.eq (by simp)
structure WyR(P:List Seg)(t:Wy)(a:wV):Prop where
 fr:∃s∈P,Rw eSh zW 2 t.1 a.fr s
 to:∃s∈P,Rw eSh zW 2 t.2.1 a.to s
 since:t.2.2.1=a.since
 whole:t.2.2.2.1=a.whole
abbrev tl(b r:Nat):Seg:=[Cl b OU [.map (some r)]]
def z5v{b r0 b1 b2 b6:Nat}{sm:Seg}{P F:List Seg}{p:HT [.slice,.slice]}{t:Vr}{now whole:Int}{o:Option WyE}{k7:Unit→PT}(hx:∀x,o=some x→WyE.ok P x)(hok:∀x,o=some x→x.a.Ok)(fsh:t.sh.length<100000)
  (r:gE w0 (tl b r0::sm::P.flatten::F) p t)
  (h:St w0 ([Cl b6 Yz (wyC ((o.map WyE.t).getD Rq))]::[Cl b2 zp [SlV ⟨none,0,0⟩,SlV ⟨none,0,0⟩]]::[Cl b1 zp [SlV p.1,SlV p.2.1]]::tl b r0::sm::P.flatten::F) w)
  (hk:∀N t' w',WyR (N++P) t' (match o with | some x=>if x.a.to=t.sh∧x.a.whole=whole then x.a else⟨x.a.ns,t.sh,now,whole,[],[]⟩ | none=>⟨t.sh,t.sh,now,whole,[],[]⟩)→
   St w0 ([Cl b6 Yz (wyC t')]::[Cl b2 zp [SlV ⟨none,0,0⟩,SlV ⟨none,0,0⟩]]::[Cl b1 zp [SlV p.1,SlV p.2.1]]::tl b r0::sm::(N++P).flatten::F) w'→k7 () w') :
  (L.ite (!o.isSome) (
   L.draw<|
   L.load (.agg [.slice,.slice]) (⟨b1,0,none⟩) λ(x9:Sl×Sl×Unit)=>
   L.load (.agg [.slice,.slice]) (⟨b1,0,none⟩) λ(x10:Sl×Sl×Unit)=>
   L.call Pr YQ [.agg #[.slice x9.1.a x9.1.len x9.1.cap,.slice x9.2.1.a x9.2.1.len x9.2.1.cap]] (.one (.agg [.slice,.slice])) λ(x11:Sl×Sl×Unit)=>
   L.chk (⟨b1,0,none⟩) [.slice x10.1.a x10.1.len x10.1.cap,.slice x10.2.1.a x10.2.1.len x10.2.1.cap]<|
   L.call Pr YQ [.agg #[.slice x10.1.a x10.1.len x10.1.cap,.slice x10.2.1.a x10.2.1.len x10.2.1.cap]] (.one (.agg [.slice,.slice])) λ(x12:Sl×Sl×Unit)=>
   L.store (⟨b6,0,none⟩) [.slice x11.1.a x11.1.len x11.1.cap,.slice x12.1.a x12.1.len x12.1.cap,.int .i64 now,.int .i64 whole,.slice none 0 0,.slice none 0 0]<|
   k7 (()))<|
  L.load (.one (.slice)) ((⟨b6,0,none⟩:Addr).add 1) λ(x13:Sl)=>
  L.load (.one (.slice)) ((⟨b1,0,none⟩:Addr).add 0) λ(x14:Sl)=>
  L.call Pr yN [.slice x13.a x13.len x13.cap,.slice x14.a x14.len x14.cap] (.one (.one (.bool))) λ(x15:Bool)=>
  L.ite (!x15) (
   L.draw<|
   L.load (.one (.slice)) (((⟨b6,0,none⟩:Addr).add 4).add 0) λ(x16:Sl)=>
   L.load (.agg [.slice,.slice]) (⟨b1,0,none⟩) λ(x17:Sl×Sl×Unit)=>
   L.call Pr YQ [.agg #[.slice x17.1.a x17.1.len x17.1.cap,.slice x17.2.1.a x17.2.1.len x17.2.1.cap]] (.one (.agg [.slice,.slice])) λ(x18:Sl×Sl×Unit)=>
   L.chk (((⟨b6,0,none⟩:Addr).add 4).add 0) [.slice x16.a x16.len x16.cap]<|
   L.store (⟨b6,0,none⟩) [.slice x16.a x16.len x16.cap,.slice x18.1.a x18.1.len x18.1.cap,.int .i64 now,.int .i64 whole,.slice none 0 0,.slice none 0 0]<|
   k7 (()))<|
  L.load (.one (.int .i64)) ((⟨b6,0,none⟩:Addr).add 3) λ(x19:Int)=>
  L.ite (x19 != whole) (
   L.draw<|
   L.load (.one (.slice)) (((⟨b6,0,none⟩:Addr).add 4).add 0) λ(x20:Sl)=>
   L.load (.agg [.slice,.slice]) (⟨b1,0,none⟩) λ(x21:Sl×Sl×Unit)=>
   L.call Pr YQ [.agg #[.slice x21.1.a x21.1.len x21.1.cap,.slice x21.2.1.a x21.2.1.len x21.2.1.cap]] (.one (.agg [.slice,.slice])) λ(x22:Sl×Sl×Unit)=>
   L.chk (((⟨b6,0,none⟩:Addr).add 4).add 0) [.slice x20.a x20.len x20.cap]<|
   L.store (⟨b6,0,none⟩) [.slice x20.a x20.len x20.cap,.slice x22.1.a x22.1.len x22.1.cap,.int .i64 now,.int .i64 whole,.slice none 0 0,.slice none 0 0]<|
   k7 (()))<|
  k7 (())) w:=by
 have rr:=r.there (s:=[Cl b1 zp [SlV p.1,SlV p.2.1]]);have rr:=rr.there (s:=[Cl b2 zp [SlV ⟨none,0,0⟩,SlV ⟨none,0,0⟩]])
 cases o with
 | none=>
  refine itT rfl ?_;have rr:=rr.there (s:=[Cl b6 Yz (wyC Rq)]);have h:St w0 ([Cl b6 Yz (wyC Rq)]::[Cl b2 zp [SlV ⟨none,0,0⟩,SlV ⟨none,0,0⟩]]::[Cl b1 zp [SlV p.1,SlV p.2.1]]::tl b r0::sm::P.flatten::F) w:=h
  (refine dr h ?_;clear h;intro w h;refine laC h ?_;refine laC h ?_)
  refine oi (p:=p) h rr λv1 v2 s1 s2 w r1 r2 h=>?_
  (refine ckC h ?_)
  refine oi (p:=p) h rr.there.there λv3 v4 s3 s4 w r3 r4 h=>?_;have h:=zm h;have h:St w0 (s3::s2::s1::[Cl b6 Yz (wyC Rq)]::[Cl b2 zp [SlV ⟨none,0,0⟩,SlV ⟨none,0,0⟩]]::[Cl b1 zp [SlV p.1,SlV p.2.1]]::tl b r0::sm::P.flatten::F) w:=h
  (refine stC h ?_;clear h;intro w h;dsimp only[zJ,zd]at h)
  refine hk [s3,s1] (v1,v3,now,whole,⟨none,0,0⟩,⟨none,0,0⟩,()) w ⟨⟨s1,by simp,r1⟩,⟨s3,by simp,r3⟩,rfl,rfl⟩ ?_;have h:=Yf h;have h:=ZL (Xz h);have h:=h.pool;have h:=yO h;have h:=h.pool;have h:=Js (Js (Js (Js (Js h))));exact h
 | some x=>
  refine itF rfl ?_;obtain⟨⟨sa,ha,ra⟩,⟨sb,hb,rb⟩,e1,e2,⟨sc,hc,rc⟩,⟨sd,hd,rd⟩⟩:=hx x rfl;have ho:=hok x rfl;dsimp only[Option.map,Option.getD]at h ⊢;dsimp only at hk;generalize x.t=t' at *
  generalize x.a=a at *
  have rr:=rr.there (s:=[Cl b6 Yz (wyC t')])
  have other:∀{w}{k7':Unit→PT},(∀N t' w',WyR (N++P) t' ⟨a.ns,t.sh,now,whole,[],[]⟩→
   St w0 ([Cl b6 Yz (wyC t')]::[Cl b2 zp [SlV ⟨none,0,0⟩,SlV ⟨none,0,0⟩]]::[Cl b1 zp [SlV p.1,SlV p.2.1]]::tl b r0::sm::(N++P).flatten::F) w'→k7' () w')→
   St w0 ([Cl b6 Yz (wyC t')]::[Cl b2 zp [SlV ⟨none,0,0⟩,SlV ⟨none,0,0⟩]]::[Cl b1 zp [SlV p.1,SlV p.2.1]]::tl b r0::sm::P.flatten::F) w→
   (L.draw<|
   L.load (.one (.slice)) (((⟨b6,0,none⟩:Addr).add 4).add 0) λ(x16:Sl)=>
   L.load (.agg [.slice,.slice]) (⟨b1,0,none⟩) λ(x17:Sl×Sl×Unit)=>
   L.call Pr YQ [.agg #[.slice x17.1.a x17.1.len x17.1.cap,.slice x17.2.1.a x17.2.1.len x17.2.1.cap]] (.one (.agg [.slice,.slice])) λ(x18:Sl×Sl×Unit)=>
   L.chk (((⟨b6,0,none⟩:Addr).add 4).add 0) [.slice x16.a x16.len x16.cap]<|
   L.store (⟨b6,0,none⟩) [.slice x16.a x16.len x16.cap,.slice x18.1.a x18.1.len x18.1.cap,.int .i64 now,.int .i64 whole,.slice none 0 0,.slice none 0 0]<|
   k7' (())) w:=by
   intro w k7' hk h
   (refine dr h ?_;clear h;intro w h;refine ldC h ?_;refine laC h ?_;rw[JF])
   refine oi (p:=p) h rr λv1 v2 s1 s2 w r1 r2 h=>?_
   (refine ckC h ?_;refine stC h ?_;clear h;intro w h;dsimp only[zJ,zd]at h)
   refine hk [s1] (t'.2.2.2.2.1,v1,now,whole,⟨none,0,0⟩,⟨none,0,0⟩,()) w ⟨⟨sc,by simp[hc],rc⟩,⟨s1,by simp,r1⟩,rfl,rfl⟩ ?_;have h:=zm h;have h:=yO (jB h);have h:=h.pool;have h:=Js (Js (Js (Js (Js h))));exact h
  (refine ldC h ?_;refine ldC h ?_;rw[JF])
  refine Ei h (l1:=a.to) (l2:=t.sh) (tr Jc rb hb 5 rfl) rr.sh (by have:=ho.lt;omega) λw h=>?_;refine it (λh1=>?_) (λh1=>?_)
  ·have h1:¬a.to=t.sh:=by simpa using h1
   rw[if_neg (λe=>h1 e.1)]at hk;exact other hk h
  have h1:a.to=t.sh:=by simpa using h1
  (refine ldC h ?_)
  refine it (λh2=>?_) (λh2=>?_)
  ·have h2:¬t'.2.2.2.1=whole:=by simpa using h2
   rw[if_neg (λe=>h2 (e2.trans e.2))]at hk;exact other hk h
  have h2:t'.2.2.2.1=whole:=by simpa using h2
  rw[if_pos ⟨h1,e2.symm.trans h2⟩]at hk;exact hk [] t' w ⟨⟨sa,ha,ra⟩,⟨sb,hb,rb⟩,e1,e2⟩ h
def Ik(h:St w0 E w)(i:Nat){b:Nat}{m:oV}{s:Seg}(hi:nth E i=some s)(hs:II b m s){n:B0}{p:HT [.slice,.slice]}{t:Vr}(r:gE w0 E p t)(hok:∀a,zr m n=some a→a.Ok)(ht:WBd t.sh){now whole:Int}
  (hnow:0≤now∧now<1000000000) (hsi:∀a,zr m n=some a→0≤a.since∧a.since<1000000000) (hw:whole≤1000000) (hl:(fg m n t now whole).sh.length<100000) {k:HT [.slice,.slice]→PT}
  (hk:∀p' sx s' w',II b (DU m n t now whole) s'→(∀E',gE w0 (sx::E') p' (fg m n t now whole))→St w0 (sx::zd E i s') w'→k p' w') :
  L.call Pr uW [pO b,.string n,sO p,I now,I whole] (.one (.agg [.slice,.slice])) k w:=by
 obtain⟨r0,sm,P,Q,hm,hQ,rfl,rfl⟩:=hs;refine za (Ps _ _ p _ _) ?_;unfold ox;have fsh:=r.fsh;have ftg:=r.ftg;have h:=(h.front i hi).split3;have r:gE w0 (tl b r0::sm::P.flatten::Zv E i) p t:=⟨λw h=>r.sh w (St.again i hi h.glue3),λw h=>r.tg w (St.again i hi h.glue3),r.nsh,r.ntg,r.fsh,r.ftg⟩;have ewy:Xc (Q.map WyE.ka) n t now whole=(match fc Q n with | some x=>if x.a.to=t.sh∧x.a.whole=whole then x.a else⟨x.a.ns,t.sh,now,whole,[],[]⟩ | none=>⟨t.sh,t.sh,now,whole,[],[]⟩):=by
  unfold Xc;rw[Db]
  cases fc Q n<;>rfl
 have hwb:WBd (Xc (Q.map WyE.ka) n t now whole).fr∧WBd (Xc (Q.map WyE.ka) n t now whole).to∧(Xc (Q.map WyE.ka) n t now whole).fr.length<100000∧(Xc (Q.map WyE.ka) n t now whole).to.length<100000∧
   (0≤(Xc (Q.map WyE.ka) n t now whole).since∧(Xc (Q.map WyE.ka) n t now whole).since<1000000000):=by
  unfold Xc
  cases hg:zr (Q.map WyE.ka) n with
  | none=>exact⟨ht,ht,fsh,fsh,hnow⟩
  | some a=>
   have ho:=hok a hg;dsimp only;split
   ·exact⟨ho.fr,ho.to,ho.lf,ho.lt,hsi a hg⟩
   ·exact⟨ho.ns,ht,ho.ln,fsh,hnow⟩
 rw[Db]at hok;unfold DU fg at hk;unfold fg at hl;generalize hwy:Xc (Q.map WyE.ka) n t now whole=wy at *
 refine nw h ?_;clear h;intro b1 w h;refine nw h ?_;clear h;intro b2 w h
 (refine nn ?_;refine ldC h ?_)
 refine Eo h 3 rfl hm ?_;refine nw h ?_;clear h;intro b6 w h
 (refine stC h ?_;clear h;intro w h;dsimp only[zJ,zd]at h;rw[JF])
 have hx:∀x,fc Q n=some x→WyE.ok P x:=λx hx=>hQ x (List.mem_of_find?_eq_some hx);have hok':∀x,fc Q n=some x→x.a.Ok:=λx hx=>hok x.a (by rw[hx];rfl);refine Zz (λz w=>∃(N:List Seg)(t':Wy),WyR (N++P) t' wy∧St w0 ([Cl b6 Yz (wyC t')]::[Cl b2 zp [SlV ⟨none,0,0⟩,SlV ⟨none,0,0⟩]]::[Cl b1 zp [SlV p.1,SlV p.2.1]]::tl b r0::sm::(N++P).flatten::Zv E i) w) (λk7 hk7=>?_) ?_
 ·refine z5v (o:=fc Q n) hx hok' fsh r h λN t' w hr h=>hk7 () w ⟨N,t',?_,h⟩;rw[ewy];exact hr
 clear h;rintro z w ⟨N,t',hr,h⟩;obtain⟨⟨sa,ha,ra⟩,⟨sb,hb,rb⟩,e1,e2⟩:=hr;have hQ':∀x∈Q,x.ok (N++P):=λx hx=>(hQ x hx).more λs hs=>List.mem_append_right _ hs
 (refine dr h ?_;clear h;intro w h;refine ldC h ?_;refine ldC h ?_;refine ldC h ?_;refine laC h ?_)
 have e3:Wi (now-t'.2.2.1)=now-wy.since:=by
  rw[show t'.2.2.1=wy.since from e1];exact wr (by omega) (by omega)
 rw[e3];refine Lp h (tr Jc ra ha 5 rfl) (tr Jc rb hb 5 rfl) hwb.2.2.1 hwb.2.2.2.1 (Rw.nil0 Jc ra) (Rw.nil0 Jc rb) hwb.1 hwb.2.1 hw λv5 s5 w r5 h=>?_;generalize ux wy.fr wy.to (now-wy.since) whole=sh at *
 have less:∀{w},St w0 (tl b r0::sm::(N++P).flatten::Zv E i) w→St w0 (tl b r0::sm::P.flatten::Zv E i) w:=by
  intro w h;have h:=ZL h;have h:St w0 (N.flatten::P.flatten::tl b r0::sm::Zv E i) w:=h.eq (by simp);have h:=zm h;have h:=ZL (ZL h);exact h
 have r':gE w0 (tl b r0::sm::(N++P).flatten::Zv E i) p t:=⟨λw h=>r.sh w (less h),λw h=>r.tg w (less h),r.nsh,r.ntg,r.fsh,r.ftg⟩
 (refine ckC h ?_)
 refine oi (p:=p) h r'.there.there.there.there λv1 v2 s1 s2 w r1 r2 h=>?_
 (refine stC h ?_;clear h;intro w h;dsimp only[zJ,zd]at h;refine dr h ?_;clear h;intro w h;refine nn ?_;refine ldC h ?_;refine laC h ?_)
 have h:St w0 (s2::s1::s5::[Cl b6 Yz (wyC (t'.1,t'.2.1,t'.2.2.1,t'.2.2.2.1,v5,v2,()))]::[Cl b2 zp [SlV ⟨none,0,0⟩,SlV ⟨none,0,0⟩]]::[Cl b1 zp [SlV p.1,SlV p.2.1]]::tl b r0::sm::(N++P).flatten::Zv E i) w:=h;refine MpS.set ve Ai h 7 rfl hm (t'.1,t'.2.1,t'.2.2.1,t'.2.2.2.1,v5,v2,()) rfl λsm' w hm' h=>?_;dsimp only[zd]at h
 (refine laC h ?_)
 refine oi (p:=(v5,v2,())) (t:=⟨sh,t.tg⟩) h (gE.of (i:=2) (j:=0) rfl r5 rfl r2 hl ftg) λv3 v4 s3 s4 w r3 r4 h=>?_
 (refine stC h ?_;clear h;intro w h;dsimp only[zJ,zd]at h;refine laC h ?_)
 refine⟨(v3,v4,()),rfl,?_⟩;have h:=Pc (Pc h);have h:=VP h;have h:=ko h;have h:=Yh (jB h);have h:=h.pool;have h:=YA h;have h:=h.pool;have h:=Yh (Yh (ZL (ZL (ZL h))));have h:=h.glue3;have h:=St.back (E:=s4::s3::E) (i+2) hi h;have e5:=KW (key:=WyE.k) WyE.t ⟨n,(t'.1,t'.2.1,t'.2.2.1,t'.2.2.2.1,v5,v2,()),⟨wy.fr,wy.to,wy.since,wy.whole,sh,t.tg⟩⟩ Q;have e6:=KW (key:=WyE.k) WyE.a ⟨n,(t'.1,t'.2.1,t'.2.2.1,t'.2.2.2.1,v5,v2,()),⟨wy.fr,wy.to,wy.since,wy.whole,sh,t.tg⟩⟩ Q
 refine hk (v3,v4,()) (s4++s3) _ w ⟨r0,sm',s2::s5::(N++P),lput WyE.k Q ⟨n,(t'.1,t'.2.1,t'.2.2.1,t'.2.2.2.1,v5,v2,()),⟨wy.fr,wy.to,wy.since,wy.whole,sh,t.tg⟩⟩,by rw[e5];exact hm',λx hx=>?_,e6.symm,rfl⟩
  (λ_=>⟨λw h=>Rw.rd Jc h.split 1 rfl r3,λw h=>Rw.rd qN h.split 0 rfl r4,Rw.nil0 Jc r3,Rw.nil0 qN r4,hl,ftg⟩) h.glue
 rcases tI hx with rfl | hx
 ·exact⟨⟨sa,by simp only[List.mem_cons];exact .inr (.inr ha),ra⟩,⟨sb,by simp only[List.mem_cons];exact .inr (.inr hb),rb⟩,e1,e2,⟨s5,by simp,r5⟩,⟨s2,by simp,r2⟩⟩
 ·exact(hQ' x hx).more λs hs=>by simp only[List.mem_cons];exact .inr (.inr hs)
def z3U(w:World):(zeroValue zx).run Pr w = .ok ((E1.one (.int .i64)).val (0:Int)) w:=by
 have h:(Pr.info? zx).map (·.zero)=some (some (I 0)):=by kernel_rfl
 cases hi:Pr.info? zx with
 | none=>rw[hi]at h;cases h
 | some i=>rw[hi]at h;simp only[Option.map_some,Option.some.injEq]at h;exact zv hi h w
def z3S(w:World):(zeroValue zc).run Pr w = .ok ((E1.one .str).val s_) w:=by
 have h:(Pr.info? zc).map (·.zero)=some (some (.string s_)):=by kernel_rfl
 cases hi:Pr.info? zc with
 | none=>rw[hi]at h;cases h
 | some i=>rw[hi]at h;simp only[Option.map_some,Option.some.injEq]at h;exact zv hi h w
def Dd:Pr.underlying ZE=some (.map zc zx):=by kernel_rfl
def lz:Pr.underlying Zi=some (.map zc zc):=by kernel_rfl
def kd(m:List (B0×Int)):List (HT [.str,(.int .i64)]):=(yZ (m.map (·.1))).map λk=>(k,(zr m k).getD (0:Int),())
def bE(l:List (HT [.str,(.int .i64)]))(m:Nat):TT [.one .str,.one (.int .i64)]:=(((l[m]?).getD (s_,(0:Int),())).1,((l[m]?).getD (s_,(0:Int),())).2.1,())
def z1y(h:St w0 E w)(i:Nat){s:Seg}(hi:nth E i=some s){r:Nat}{m:List (B0×Int)}(hm:MpS Value.string (Value.int .i64) r m s)(hn:m.length<1000000000){k:Sl→PT}
  (hk:∀v s' w',Rw eS zc 1 v (yZ (m.map (·.1))) s'→St w0 (s'::E) w'→k v w') :
  L.call Pr Yr [.map (some r)] (.one (.one .func)) (λx5=>L.call Pr ZW [.func x5.fn x5.fs x5.cs] (.one (.one .slice)) k) w:=by
 refine za (QT _) ?_;unfold Jm;have h:=h.front i hi;refine nw h ?_;clear h;intro c w h;refine⟨⟨.func Zo,#[],#[.pointer (some ⟨c,0,none⟩)]⟩,rfl,?_⟩;have hY:nZ Pr w0 [[Cl c ZE [.map (some r)]],s] (.func (.func Zo) #[] #[.pointer (some ⟨c,0,none⟩)]) (m.map (·.1)) Value.string:=by
  intro yv R J Jd F w h hJ step fin fin2;refine⟨qV,qW yv ⟨c,0,none⟩ ?_⟩;unfold jX;exact Mb (kv:=Value.string) (vv:=(Value.int .i64)) unS (λ_=>rfl) Dd (lk:=.str) (ev:=.one (.int .i64)) (λx=>x) (λ_=>rfl) (λx:Int=>x) (λ_=>rfl) J Jd hm h hJ (λseen k F X w hl hJ h=>step seen k F X w (by simpa using hl) hJ h) fin fin2
 refine VB (fv:=⟨.func Zo,#[],#[.pointer (some ⟨c,0,none⟩)]⟩) hY h (by simpa using hn) λv s' w hr h=>hk v s' w hr ?_;have h:=yO h;exact St.again (i+1) (E:=s'::E) hi h
def z3f{c r:Nat}{m:List (B0×Int)}{sm:Seg}(hm:MpS Value.string (Value.int .i64) r m sm)(hn:m.length<1000000000) :
  wb Pr w0 [[Cl c ZE [.map (some r)]],sm] (.func (.func Yd) #[] #[.pointer (some ⟨c,0,none⟩)]) (kd m).length λi=>TV _ (bE (kd m) i):=by
 intro yv R J Jd G w h hJ step fin fin2;refine⟨Kr,Kw yv ⟨c,0,none⟩ ?_⟩;unfold qU;have h:St w0 ([Cl c ZE [.map (some r)]]::sm::G) w:=h
 (refine ldC h ?_)
 refine z1y h 1 rfl hm hn λv s w hrow h=>?_;have hlen:=Rw.len yh hrow;unfold kd at *
 have hl:(yZ (m.map (·.1))).length<1000000000:=by rw[jp,List.length_map];exact hn
 generalize yZ (m.map (·.1))=l at *
 refine zT (λq y w=>∃(j:Nat)(G:List Seg),@Eq Int y.1 j∧q+j=l.length∧J j G∧St w0 (s::[Cl c ZE [.map (some r)]]::sm::G) w) l.length ⟨0,G,rfl,rfl,hJ,h⟩ ?_;clear hJ;clear h;rintro q ⟨y,⟨⟩⟩ w ⟨j,G,hy,hq,hJ,h⟩ again hag;simp only at hy;subst hy;refine it (λhb=>?_) (λhb=>?_)<;>(try simp only[zB]at hb)
 ·have hj:j<l.length:=by omega
  have hx:l[j]? = some l[j]:=List.getElem?_eq_getElem hj;have next:∀{G w},J (j+1) G→St w0 (s::[Cl c ZE [.map (some r)]]::sm::G) w→again (Wi ((j:Int)+1),()) w:=by
   intro G w hJ h;refine hag (q-1) _ w (by omega) ⟨j+1,G,?_,by omega,hJ,h⟩;show Wi _=_;rw[wr (by omega) (by omega)];omega
  refine Rw.ix yh hrow (by omega) (by simpa using hj) λa ha=>?_;refine Rw.ld0 yh h 0 rfl hrow ha (x:=l[j]) (by simp[hj]) rfl rfl ?_
  (refine ldC h ?_)
  refine MpS.get ve Dd z3U (λt:Int=>t) (λ_=>rfl) h 2 rfl hm ?_;have e1:((zr m l[j]).map λt:Int=>t).getD (0:Int)=(zr m l[j]).getD (0:Int):=by cases zr m l[j]<;>rfl
  have step:=step j G [s] w (by simpa using hj) hJ (St.toEnd (X:=[s]) (A:=[_,_]) h);have e2:bE (l.map λk=>(k,(zr m k).getD (0:Int),())) j=(l[j],(zr m l[j]).getD (0:Int),()):=by
   simp[bE,hx]
  dsimp only at step;rw[e2]at step;refine cv (Jw.mono (by first | (rw[e1];exact step) | exact step) λu w' hu=>?_);rcases hu with ⟨rfl,G',h,hJ⟩ | ⟨rfl,hd⟩
  ·exact⟨true,rfl,itF rfl (next hJ (St.ofEnd (X:=[s]) (A:=[_,_]) h))⟩
  ·exact⟨false,rfl,itT rfl (fin2 w' hd)⟩
 ·have e:j=l.length:=by omega
  subst e;exact fin G w (by simpa using hJ) (zm h)
def Kg(m:List (B0×B0)):List (HT [.str,.str]):=(yZ (m.map (·.1))).map λk=>(k,(zr m k).getD s_,())
def bD(l:List (HT [.str,.str]))(m:Nat):TT [.one .str,.one .str]:=(((l[m]?).getD (s_,s_,())).1,((l[m]?).getD (s_,s_,())).2.1,())
def z1x(h:St w0 E w)(i:Nat){s:Seg}(hi:nth E i=some s){r:Nat}{m:List (B0×B0)}(hm:MpS Value.string Value.string r m s)(hn:m.length<1000000000){k:Sl→PT}
  (hk:∀v s' w',Rw eS zc 1 v (yZ (m.map (·.1))) s'→St w0 (s'::E) w'→k v w') :
  L.call Pr yG [.map (some r)] (.one (.one .func)) (λx5=>L.call Pr ZW [.func x5.fn x5.fs x5.cs] (.one (.one .slice)) k) w:=by
 refine za (XH _) ?_;unfold jf;have h:=h.front i hi;refine nw h ?_;clear h;intro c w h;refine⟨⟨.func Zc,#[],#[.pointer (some ⟨c,0,none⟩)]⟩,rfl,?_⟩;have hY:nZ Pr w0 [[Cl c Zi [.map (some r)]],s] (.func (.func Zc) #[] #[.pointer (some ⟨c,0,none⟩)]) (m.map (·.1)) Value.string:=by
  intro yv R J Jd F w h hJ step fin fin2;refine⟨Xe,Xg yv ⟨c,0,none⟩ ?_⟩;unfold YN;exact Mb (kv:=Value.string) (vv:=Value.string) unS (λ_=>rfl) lz (lk:=.str) (ev:=.one .str) (λx=>x) (λ_=>rfl) (λx:B0=>x) (λ_=>rfl) J Jd hm h hJ (λseen k F X w hl hJ h=>step seen k F X w (by simpa using hl) hJ h) fin fin2
 refine VB (fv:=⟨.func Zc,#[],#[.pointer (some ⟨c,0,none⟩)]⟩) hY h (by simpa using hn) λv s' w hr h=>hk v s' w hr ?_;have h:=yO h;exact St.again (i+1) (E:=s'::E) hi h
def z3e{c r:Nat}{m:List (B0×B0)}{sm:Seg}(hm:MpS Value.string Value.string r m sm)(hn:m.length<1000000000) :
  wb Pr w0 [[Cl c Zi [.map (some r)]],sm] (.func (.func yz) #[] #[.pointer (some ⟨c,0,none⟩)]) (Kg m).length λi=>TV _ (bD (Kg m) i):=by
 intro yv R J Jd G w h hJ step fin fin2;refine⟨Vm,Vo yv ⟨c,0,none⟩ ?_⟩;unfold XF;have h:St w0 ([Cl c Zi [.map (some r)]]::sm::G) w:=h
 (refine ldC h ?_)
 refine z1x h 1 rfl hm hn λv s w hrow h=>?_;have hlen:=Rw.len yh hrow;unfold Kg at *
 have hl:(yZ (m.map (·.1))).length<1000000000:=by rw[jp,List.length_map];exact hn
 generalize yZ (m.map (·.1))=l at *
 refine zT (λq y w=>∃(j:Nat)(G:List Seg),@Eq Int y.1 j∧q+j=l.length∧J j G∧St w0 (s::[Cl c Zi [.map (some r)]]::sm::G) w) l.length ⟨0,G,rfl,rfl,hJ,h⟩ ?_;clear hJ;clear h;rintro q ⟨y,⟨⟩⟩ w ⟨j,G,hy,hq,hJ,h⟩ again hag;simp only at hy;subst hy;refine it (λhb=>?_) (λhb=>?_)<;>(try simp only[zB]at hb)
 ·have hj:j<l.length:=by omega
  have hx:l[j]? = some l[j]:=List.getElem?_eq_getElem hj;have next:∀{G w},J (j+1) G→St w0 (s::[Cl c Zi [.map (some r)]]::sm::G) w→again (Wi ((j:Int)+1),()) w:=by
   intro G w hJ h;refine hag (q-1) _ w (by omega) ⟨j+1,G,?_,by omega,hJ,h⟩;show Wi _=_;rw[wr (by omega) (by omega)];omega
  refine Rw.ix yh hrow (by omega) (by simpa using hj) λa ha=>?_;refine Rw.ld0 yh h 0 rfl hrow ha (x:=l[j]) (by simp[hj]) rfl rfl ?_
  (refine ldC h ?_)
  refine MpS.get ve lz z3S (λt:B0=>t) (λ_=>rfl) h 2 rfl hm ?_;have e1:((zr m l[j]).map λt:B0=>t).getD s_=(zr m l[j]).getD s_:=by cases zr m l[j]<;>rfl
  have step:=step j G [s] w (by simpa using hj) hJ (St.toEnd (X:=[s]) (A:=[_,_]) h);have e2:bD (l.map λk=>(k,(zr m k).getD s_,())) j=(l[j],(zr m l[j]).getD s_,()):=by
   simp[bD,hx]
  dsimp only at step;rw[e2]at step;refine cv (Jw.mono (by first | (rw[e1];exact step) | exact step) λu w' hu=>?_);rcases hu with ⟨rfl,G',h,hJ⟩ | ⟨rfl,hd⟩
  ·exact⟨true,rfl,itF rfl (next hJ (St.ofEnd (X:=[s]) (A:=[_,_]) h))⟩
  ·exact⟨false,rfl,itT rfl (fin2 w' hd)⟩
 ·have e:j=l.length:=by omega
  subst e;exact fin G w (by simpa using hJ) (zm h)
def qY(a:yY)(cfg:B0)(t:Tgt):B0×Int:=
 if t.1=s_ then(if Ds a cfg=s_ then(s_,9)else(Ds a cfg,0))else if jL a t.1=true then(if xQ a t.1=true then(t.1,0)else(s_,9))else(s_,6)
abbrev rtV(r:ARt)(v:Sl):Value:=.agg #[.string r.name,.string r.cfg,.slice v.a v.len v.cap,I r.roll]
def Lt(h:St w0 E w)(i:Nat){b:Nat}{a:yY}{s:Seg}(hi:nth E i=some s)(hs:BkS b a s){t:Tgt}{r:ARt}{v:Sl}{k:B0×Int×Unit→PT}(hk:∀w',St w0 E w'→k ((qY a r.cfg t).1,(qY a r.cfg t).2,()) w') :
  L.call Pr OO [.agg #[.string t.1,.string t.2.1,I t.2.2.1],rtV r v,.pointer (some ⟨b,0,none⟩)] (.tup [.one .str,.one (.int .i64)]) k w:=by
 refine za (wA t (r.name,r.cfg,v,r.roll,()) _) ?_;unfold pq;unfold qY at hk;refine nw h ?_;clear h;intro b1 w h;refine nw h ?_;clear h;intro b2 w h
 (dsimp only[zd,List.cons_append,List.nil_append]at h;refine ldC h ?_)
 rw[JW];refine it (λh1=>?_) (λh1=>?_)<;>(try simp only[zB]at h1)
 ·rw[if_pos h1]at hk
  (refine ldC h ?_)
  refine aO h (i+2) hi hs λw h=>?_;rw[JW];refine it (λh2=>?_) (λh2=>?_)<;>(try simp only[zB]at h2)
  ·rw[if_pos h2]at hk;exact⟨(s_,9,()),rfl,hk w (zm (zm h))⟩
  ·rw[if_neg h2]at hk;exact⟨(Ds a r.cfg,0,()),rfl,hk w (zm (zm h))⟩
 ·rw[if_neg h1]at hk
  (refine ldC h ?_)
  refine GM h (i+2) hi hs λw h=>?_;generalize qo a t.1=rv;refine nw h ?_;clear h;intro b8 w h
  (refine stC h ?_;clear h;intro w h;dsimp only[zJ,zd]at h)
  refine it (λh2=>?_) (λh2=>?_)<;>(try simp only[zB]at h2)
  ·rw[if_neg (by simp[h2])]at hk;exact⟨(s_,6,()),rfl,hk w (zm (zm (zm h)))⟩
  ·rw[if_pos (by simpa using h2)]at hk
   (refine ldC h ?_)
   refine Ni h (i+3) hi hs λw h=>?_;refine it (λh3=>?_) (λh3=>?_)<;>(try simp only[zB]at h3)
   ·rw[if_neg (by simp[h3])]at hk;exact⟨(s_,9,()),rfl,hk w (zm (zm (zm h)))⟩
   ·rw[if_pos (by simpa using h3)]at hk
    (refine ldC h ?_)
    exact⟨(t.1,0,()),rfl,hk w (zm (zm (zm h)))⟩
abbrev MSI:=List (B0×Int)
abbrev MSS:=List (B0×B0)
def VH(a:yY)(cfg:B0):List Tgt→MSI→MSS→Int×MSI×MSS
 | [],ws,ts=>(0,ws,ts)
 | t::l,ws,ts=>if(qY a cfg t).2=0 then VH a cfg l (zX ws (qY a cfg t).1 ((zr ws (qY a cfg t).1).getD 0+pct t)) (if t.2.1=s_ then ts else zX ts t.2.1 (qY a cfg t).1)else((qY a cfg t).2,ws,ts)
def DV(a:yY)(cfg:B0)(t:Tgt)(l:List Tgt)(ws:MSI)(ts:MSS):VH a cfg (t::l) ws ts=if(qY a cfg t).2=0 then VH a cfg l (zX ws (qY a cfg t).1 ((zr ws (qY a cfg t).1).getD 0+pct t)) (if t.2.1=s_ then ts else zX ts t.2.1 (qY a cfg t).1)else((qY a cfg t).2,ws,ts):=rfl
abbrev DX(x:Shr):Bool:=decide (@id Int x.2.1>0)
def resolve(a:yY)(r:ARt):Vr×Int:=
 if(VH a r.cfg r.ts [] []).1=0 then(⟨(kd (VH a r.cfg r.ts [] []).2.1).filter DX,Kg (VH a r.cfg r.ts [] []).2.2⟩,0)else(⟨[],[]⟩,(VH a r.cfg r.ts [] []).1)
def lr(h:St w0 E w)(i:Nat){b:Nat}{a:yY}{s:Seg}(hi:nth E i=some s)(hs:BkS b a s){r:ARt}{v:Sl}(rd:RdE w0 E eT v r.ts)(hn:r.ts.length≤1000)(hp:∀t∈r.ts,0≤pct t∧pct t≤1000){k:HT [.slice,.slice]×Int×Unit→PT}
  (hk:∀p sx w',(∀E',gE w0 (sx::E') p (resolve a r).1)→St w0 (sx::E) w'→k (p,(resolve a r).2,()) w') :
  L.call Pr UX [rtV r v,.pointer (some ⟨b,0,none⟩)] (.tup [.agg [.slice,.slice],.one (.int .i64)]) k w:=by
 refine za (NI (r.name,r.cfg,v,r.roll,()) _) ?_;unfold mh;have hlen:=Rd.len (rd w h);refine nw h ?_;clear h;intro b1 w h;refine nw h ?_;clear h;intro b2 w h;refine MpS.new h Value.string (Value.int .i64) λr3 s3 w hm3 h=>?_;refine MpS.new h Value.string Value.string λr4 s4 w hm4 h=>?_
 (dsimp only[zd,List.cons_append,List.nil_append]at h;refine ldC h ?_)
 unfold resolve at hk
 refine zT (λq y w=>∃(j:Nat)(ws:MSI)(ts:MSS)(s3 s4:Seg),@Eq Int y.2.1 j∧q+j=r.ts.length∧@Eq Int y.1 0∧VH a r.cfg r.ts [] []=VH a r.cfg (r.ts.drop j) ws ts∧ws.length≤j∧ts.length≤j∧(∀p∈ws,0≤p.2∧p.2≤1000*(j:Int))∧
  MpS Value.string (Value.int .i64) r3 ws s3∧MpS Value.string Value.string r4 ts s4∧St w0 (s4::s3::[Cl b2 zp [SlV ⟨none,0,0⟩,SlV ⟨none,0,0⟩]]::[Cl b1 Zb [.string r.name,.string r.cfg,SlV v,I r.roll]]::E) w) r.ts.length
  ⟨0,[],[],s3,s4,rfl,by simp,rfl,rfl,by simp,by simp,by simp,hm3,hm4,h⟩ ?_
 clear hm3 hm4;clear h;rintro q ⟨y1,y,⟨⟩⟩ w ⟨j,ws,ts,s3,s4,hy,hq,hy1,hg,lw,lt,hws,hm3,hm4,h⟩ again hag
 (try dsimp only)
 simp only at hy hy1;subst hy hy1;refine it (λhb=>?_) (λhb=>?_)<;>(try simp only[zB]at hb)
 ·have hj:j<r.ts.length:=by omega
  have hx:r.ts[j]? = some r.ts[j]:=List.getElem?_eq_getElem hj;have hpx:=hp r.ts[j] (List.getElem_mem hj);have ed:r.ts.drop j=r.ts[j]::r.ts.drop (j+1):=by rw[←List.getElem_cons_drop hj]
  rw[ed,DV]at hg;generalize r.ts[j]=t at hx hpx hg;have rr:=rd w (zm (zm (zm (zm h))));refine jd ?_;refine rr.ix od (by omega) (by simpa using hj) λea ha=>?_;refine rr.lda od ha (by simpa using hx) rfl ?_;refine nw h ?_;clear h;intro b12 w h
  (refine stC h ?_;clear h;intro w h;dsimp only[zJ,zd]at h;refine laC h ?_;refine laC h ?_)
  refine Lt (t:=t) (r:=r) (v:=v) h (i+5) hi hs λw h=>?_;refine it (λh1=>?_) (λh1=>?_)
  ·have h1:(qY a r.cfg t).2≠0:=by simpa using h1
   rw[if_neg h1]at hg;rw[hg,if_neg h1]at hk
   (refine stC h ?_;clear h;intro w h;dsimp only[zJ,zd]at h;refine laC h ?_)
   refine⟨((⟨none,0,0⟩,⟨none,0,0⟩,()),(qY a r.cfg t).2,()),rfl,hk _ [] w (λ_=>⟨λ_ _=>Rd.nil,λ_ _=>Rd.nil,λ_=>rfl,λ_=>rfl,by show 0<100000;decide,by show 0<100000;decide⟩) ?_⟩;exact St.nil (zm (zm (zm (zm (zm h)))))
  ·have h1:(qY a r.cfg t).2=0:=by simpa using h1
   rw[if_pos h1]at hg;generalize qY a r.cfg t=x at h1 hg ⊢;obtain⟨x1,x2⟩:=x;dsimp only at h1 hg ⊢;have hz:0≤(zr ws x1).getD 0∧(zr ws x1).getD 0≤1000*(j:Int):=by
    cases hm:zr ws x1 with
    | none=>exact⟨Int.le_refl 0,by show(0:Int)≤_;omega⟩
    | some u=>exact hws _ (yK hm)
   have hz2:((zr ws x1).map λt:Int=>t).getD 0=(zr ws x1).getD 0:=by cases zr ws x1<;>rfl
   refine MpS.get ve Dd z3U (λt:Int=>t) (λ_=>rfl) h 2 rfl hm3 ?_;rw[hz2];generalize hzz:(zr ws x1).getD 0=z at hg hz ⊢
   (refine ldC h ?_)
   have ew:Wi (z+t.2.2.1)=z+pct t:=wr (by have:=hpx.1;unfold pct at this;omega) (by have:=hpx.2;unfold pct at this;omega);rw[ew];have lw2:=tH ws x1 (z+pct t);have hws2:∀p∈zX ws x1 (z+pct t),0≤p.2∧p.2≤1000*((j+1:Nat):Int):=by
    intro p hp;rcases Zp hp with rfl | hp
    ·dsimp only;omega
    ·have:=hws p hp;omega
   refine MpS.set ve Dd h 2 rfl hm3 (z+pct t) rfl λs3 w hm3 h=>?_;dsimp only[zd]at h
   (refine ldC h ?_)
   rw[JW]
   have next:∀{w}{ts':MSS}{s4:Seg},(if t.2.1=s_ then ts else zX ts t.2.1 x1)=ts'→ts'.length≤j+1→MpS Value.string Value.string r4 ts' s4→
     St w0 (s4::s3::[Cl b2 zp [SlV ⟨none,0,0⟩,SlV ⟨none,0,0⟩]]::[Cl b1 Zb [.string r.name,.string r.cfg,SlV v,I r.roll]]::E) w→again (0,Wi ((j:Int)+1),()) w:=by
    intro w ts' s4 e1 l2 hm4 h;refine hag (q-1) _ w (by omega) ⟨j+1,zX ws x1 (z+pct t),ts',s3,s4,?_,by omega,rfl,by rw[hg,e1],by omega,l2,hws2,hm3,hm4,h⟩;show Wi _=_;rw[wr (by omega) (by omega)];omega
   refine it (λh2=>?_) (λh2=>?_)<;>(try simp only[zB]at h2)
   ·(refine ldC h ?_)
    refine MpS.set ve lz h 1 rfl hm4 x1 rfl λs4 w hm4 h=>?_;dsimp only[zd]at h;exact next (if_neg h2) (by have:=tH ts t.2.1 x1;omega) hm4 (zm h)
   ·exact next (if_pos h2) (by omega) hm4 (zm h)
 ·have e:r.ts.drop j = []:=List.drop_of_length_le (by omega);rw[e]at hg;have hg:VH a r.cfg r.ts [] []=(0,ws,ts):=hg;rw[hg,if_pos rfl]at hk;dsimp only at hk;have lo1:(kd ws).length=ws.length:=by unfold kd;rw[List.length_map,jp,List.length_map]
  have lo2:(Kg ts).length=ts.length:=by unfold Kg;rw[List.length_map,jp,List.length_map]
  clear hag;refine nw h ?_;clear h;intro b21 w h;refine za (oY _) ?_;unfold ub;refine nw h ?_;clear h;intro c w h;refine⟨⟨.func Yd,#[],#[.pointer (some ⟨c,0,none⟩)]⟩,rfl,?_⟩;have h:St w0 ([[Cl c ZE [.map (some r3)]],s3]++([Cl b21 zp [SlV ⟨none,0,0⟩,SlV ⟨none,0,0⟩]]::[]::s4::[Cl b2 zp [SlV ⟨none,0,0⟩,SlV ⟨none,0,0⟩]]::[Cl b1 Zb [.string r.name,.string r.cfg,SlV v,I r.roll]]::E)) w:=by
   have h:=ZL (YA (yO h));exact h.eq (by simp)
  refine qu (z3f hm3 (by omega)) h (λm G=>∃vv s,G = [Cl b21 zp [SlV vv,SlV ⟨none,0,0⟩]]::s::s4::[Cl b2 zp [SlV ⟨none,0,0⟩,SlV ⟨none,0,0⟩]]::[Cl b1 Zb [.string r.name,.string r.cfg,SlV v,I r.roll]]::E∧Rw eSh zW 2 vv (((kd ws).take m).filter DX) s) (λj G=>False) ⟨_,_,rfl,Rw.nil⟩ ?_ ?_ ?_
  ·rintro m G X w lv lp d R hm ⟨vv,so,rfl,hr⟩ h hN hE;have hx:(kd ws)[m]? = some (kd ws)[m]:=List.getElem?_eq_getElem hm;have h:St w0 ([Rec lv lp .busy none]::[DfM d]::[Cl c ZE [.map (some r3)]]::s3::[Cl b21 zp [SlV vv,SlV ⟨none,0,0⟩]]::so::s4::[Cl b2 zp [SlV ⟨none,0,0⟩,SlV ⟨none,0,0⟩]]::[Cl b1 Zb [.string r.name,.string r.cfg,SlV v,I r.roll]]::(E++X)) w:=h;have ea:bE (kd ws) m=((kd ws)[m].1,(kd ws)[m].2.1,()):=by simp[bE,hx]
   rw[ea];have et:((kd ws).take (m+1)).filter DX=((kd ws).take m).filter DX++(if DX (kd ws)[m]=true then [(kd ws)[m]]else []):=by
    rw[List.take_add_one,hx,List.filter_append,Option.toList_some,List.filter_cons,List.filter_nil]
   have hlf:(((kd ws).take m).filter DX).length≤m:=Nat.le_trans (List.length_filter_le ..) (by rw[List.length_take];omega);generalize (kd ws)[m]=x at et hx;obtain⟨x1,x2,⟨⟩⟩:=x;dsimp only;refine it (λhc=>?_) (λhc=>?_)
   ·have hc2:DX ((x1,x2,()):Shr)=true:=hc;rw[if_pos hc2]at et
    (refine ldC h ?_)
    refine nw h ?_;clear h;intro b29 w h;refine Rw.app Jc z0H h 5 rfl hr ((x1,x2,()):Shr) rfl (by omega) (by omega) λv' s' w hr' h=>?_
    (dsimp only[zd,List.cons_append,List.nil_append]at h;refine stC h ?_;clear h;intro w h;dsimp only[zJ,zd]at h)
    exact hN _ w ⟨v',s',rfl,by rw[et];exact hr'⟩ h
   ·rw[if_neg (by rw[show DX ((x1,x2,()):Shr)=false from hc];simp),List.append_nil]at et;exact hN _ w ⟨vv,so,rfl,by rw[et];exact hr⟩ h
  ·rintro d G w ⟨vv,so,rfl,hr⟩ h;rw[List.take_length]at hr;have h:St w0 ([DfM d]::[Cl c ZE [.map (some r3)]]::s3::[Cl b21 zp [SlV vv,SlV ⟨none,0,0⟩]]::so::s4::[Cl b2 zp [SlV ⟨none,0,0⟩,SlV ⟨none,0,0⟩]]::[Cl b1 Zb [.string r.name,.string r.cfg,SlV v,I r.roll]]::E) w:=h;refine vC ?_;refine za (kx _) ?_;unfold qq;refine nw h ?_;clear h;intro c2 w h;refine⟨⟨.func yz,#[],#[.pointer (some ⟨c2,0,none⟩)]⟩,rfl,?_⟩;have h:St w0 ([[Cl c2 Zi [.map (some r4)]],s4]++([Cl b21 zp [SlV vv,SlV ⟨none,0,0⟩]]::[]::so::[Cl b2 zp [SlV ⟨none,0,0⟩,SlV ⟨none,0,0⟩]]::[DfM d]::E)) w:=by
    have h:=VQ (VP (z35 h));have h:=Js (Js (Yh (Yh (Js (yO h)))));exact h.eq (by simp)
   refine qu (z3e hm4 (by omega)) h (λm G=>∃v2 s2,G = [Cl b21 zp [SlV vv,SlV v2]]::s2::so::[Cl b2 zp [SlV ⟨none,0,0⟩,SlV ⟨none,0,0⟩]]::[DfM d]::E∧Rw eTo jy 2 v2 ((Kg ts).take m) s2) (λj G=>False) ⟨_,_,rfl,Rw.nil⟩ ?_ ?_ ?_
   ·rintro m G X w lv lp d2 R hm ⟨v2,s2,rfl,hr2⟩ h hN hE;have hx:(Kg ts)[m]? = some (Kg ts)[m]:=List.getElem?_eq_getElem hm;have h:St w0 ([Rec lv lp .busy none]::[DfM d2]::[Cl c2 Zi [.map (some r4)]]::s4::[Cl b21 zp [SlV vv,SlV v2]]::s2::so::[Cl b2 zp [SlV ⟨none,0,0⟩,SlV ⟨none,0,0⟩]]::[DfM d]::(E++X)) w:=h;have ea:bD (Kg ts) m=((Kg ts)[m].1,(Kg ts)[m].2.1,()):=by simp[bD,hx]
    rw[ea];have et:(Kg ts).take (m+1)=(Kg ts).take m++[(Kg ts)[m]]:=by rw[List.take_add_one,hx,Option.toList_some]
    have hlf:((Kg ts).take m).length≤m:=by rw[List.length_take];omega
    generalize (Kg ts)[m]=x at et hx;obtain⟨x1,x2,⟨⟩⟩:=x;dsimp only
    (refine ldC h ?_)
    refine nw h ?_;clear h;intro b38 w h;refine Rw.app qN z5i h 5 rfl hr2 ((x1,x2,()):Tgo) rfl (by omega) (by omega) λv' s' w hr' h=>?_
    (dsimp only[zd,List.cons_append,List.nil_append]at h;refine stC h ?_;clear h;intro w h;dsimp only[zJ,zd]at h)
    exact hN _ w ⟨v',s',rfl,by rw[et];exact hr'⟩ h
   ·rintro d2 G w ⟨v2,s2,rfl,hr2⟩ h;rw[List.take_length]at hr2;have h:St w0 ([DfM d2]::[Cl c2 Zi [.map (some r4)]]::s4::[Cl b21 zp [SlV vv,SlV v2]]::s2::so::[Cl b2 zp [SlV ⟨none,0,0⟩,SlV ⟨none,0,0⟩]]::[DfM d]::E) w:=h;refine vC ?_;have hlf:((kd ws).filter DX).length<100000:=Nat.lt_of_le_of_lt (List.length_filter_le ..) (by omega)
    (refine laC h ?_)
    refine oi (p:=(vv,v2,())) (t:=⟨(kd ws).filter DX,Kg ts⟩) h (gE.of (i:=5) (j:=4) rfl hr rfl hr2 hlf (by show(Kg ts).length<100000;omega)) λv3 v4 s5 s6 w r5 r6 h=>?_
    (refine stC h ?_;clear h;intro w h;dsimp only[zJ,zd]at h)
    (first | refine OF h ?_ | refine OE h ?_ | refine OD h ?_ | refine OC h ?_ | refine OB h ?_ | refine OA h ?_ | refine Oz h ?_ | refine Oy h ?_ | refine Ox h ?_ | refine Ow h ?_ | refine uv h ?_ | refine uu h ?_);clear h;intro w h
    (try (first | refine OF h ?_ | refine OE h ?_ | refine OD h ?_ | refine OC h ?_ | refine OB h ?_ | refine OA h ?_ | refine Oz h ?_ | refine Oy h ?_ | refine Ox h ?_ | refine Ow h ?_ | refine uv h ?_ | refine uu h ?_);clear h;intro w h)
    (refine laC h ?_)
    refine⟨((v3,v4,()),0,()),rfl,hk _ (s6++s5) w (λ_=>⟨λw h=>Rw.rd Jc h.split 1 rfl r5,λw h=>Rw.rd qN h.split 0 rfl r6,Rw.nil0 Jc r5,Rw.nil0 qN r6,hlf,by show(Kg ts).length<100000;omega⟩) ?_⟩;have h:=VQ (VQ (VQ (VQ (VQ (VQ h)))));exact h.glue
   ·rintro d2 j G w hf;exact hf.elim
  ·rintro d j G w hf;exact hf.elim
structure AEv where
 kind:Int
 name:B0
 tag:B0
 n:Int
 draw:Int
 c:Cfg
 r:ARt
 v:Sl
abbrev EvT:=HT [.int .i64,.str,.str,.int .i64,.int .i64,.str,.int .i64,.int .i64,.int .i64,.int .i64,.int .i64,.str,.str,.slice,.int .i64]
abbrev AEv.t(e:AEv):EvT:=(e.kind,e.name,e.tag,e.n,e.draw,e.c.1,e.c.2.1,e.c.2.2.1,e.c.2.2.2.1,e.c.2.2.2.2.1,e.c.2.2.2.2.2.1,e.r.name,e.r.cfg,e.v,e.r.roll,())
abbrev evV(e:AEv):Value:=.agg #[I e.kind,.string e.name,.string e.tag,I e.n,I e.draw,.string e.c.1,I e.c.2.1,I e.c.2.2.1,I e.c.2.2.2.1,I e.c.2.2.2.2.1,I e.c.2.2.2.2.2.1,.string e.r.name,.string e.r.cfg,.slice e.v.a e.v.len e.v.cap,I e.r.roll]
abbrev Has:=HT [.bool,.bool,.bool,.bool,.bool,.bool]
def shp(k:Int):Has×Bool:=
 if k=1 then((true,false,false,false,true,false,()),true)else if k=2 then((true,false,false,false,false,true,()),true)else if k=3 then((true,true,false,true,false,false,()),true)
 else if k=4 then((true,true,true,true,false,false,()),true)else if k=5∨k=6∨k=7∨k=8 then((true,false,false,false,false,false,()),true)else if k=9 then((false,false,false,false,false,false,()),true)
 else if k=10∨k=11∨k=12∨k=13 then((false,true,false,false,false,false,()),true)else((false,false,false,false,false,false,()),false)
def AZ(h:St w0 E w){x:Int}{k:Has×Bool×Unit→PT}(hk:∀w',St w0 E w'→k ((shp x).1,(shp x).2,()) w'):L.call Pr Vx [I x] (.tup [.agg [.bool,.bool,.bool,.bool,.bool,.bool],.one .bool]) k w:=by
 refine za (wE x) ?_;unfold py;unfold shp at hk;refine nw h ?_;clear h;intro b1 w h
 ((try dsimp only[zd,List.cons_append,List.nil_append]at h);repeat' (first | refine nn ?_ | (refine dr h ?_;clear h;intro w h) | refine ldC h ?_ | refine laC h ?_ | refine ckC h ?_ | (refine stC h ?_;clear h;intro w h;(try dsimp only[zJ,zd]at h)) | rw[JF] | refine jd ?_ | (refine it (λhc=>?_) (λhc=>?_)<;>(try simp only[zB]at hc))))
 all_goals exact⟨(_,_,()),rfl,eqk (hk w (zm h)) (by clear h hk;simp_all)⟩
def z1t{t:Bool}{x:Int}{k:Bool→PT}(hk:k (t||decide (x=0)) w):L.call Pr QP [.bool t,I x] (.one (.one .bool)) k w:=by
 refine za (Cq t x) ?_;unfold Ga
 cases t with
 | true=>exact itT rfl ⟨true,rfl,hk⟩
 | false=>exact itF rfl ⟨_,rfl,eqk hk (by rw[Bool.false_or,Bool.eq_iff_iff];simp)⟩
def z1s{t:Bool}{x:B0}{k:Bool→PT}(hk:k (t||decide (x=s_)) w):L.call Pr Xm [.bool t,.string x] (.one (.one .bool)) k w:=by
 refine za (MD t x) ?_;unfold kU
 cases t with
 | true=>exact itT rfl ⟨true,rfl,hk⟩
 | false=>exact itF rfl ⟨_,rfl,eqk hk (by rw[JW,Bool.false_or])⟩
def z1u(h:St w0 E w){t:Bool}{c:Cfg}{k:Bool→PT}(hk:∀w',St w0 E w'→k (t||kB c kC) w'):L.call Pr Xx [.bool t,.agg (Cfg.cells c).toArray] (.one (.one .bool)) k w:=by
 refine za (Gi t c) ?_;unfold UC;refine nw h ?_;clear h;intro b1 w h;refine nw h ?_;clear h;intro b2 w h
 cases t with
 | true=>exact itT rfl ⟨true,rfl,hk w (zm (zm h))⟩
 | false=>
  refine itF rfl ?_
  (refine laC h ?_;refine laC h ?_)
  unfold L.chkSem;refine⟨iK c kC w,_,rfl,?_⟩;exact hk w (zm (zm h))
def la(r:ARt)(n:Nat):Bool:=decide (r.name=s_)&&(decide (r.cfg=s_)&&(decide (r.roll=0)&&decide (n=0)))
def z3H(h:St w0 E w){r:ARt}{v:Sl}{k:Bool→PT}(hk:∀w',St w0 E w'→k (la r v.len) w'):L.call Pr GF [rtV r v] (.one (.one .bool)) k w:=by
 refine za (LV (r.name,r.cfg,v,r.roll,())) ?_;unfold Ty;refine nw h ?_;clear h;intro b1 w h
 (dsimp only[zd,List.cons_append,List.nil_append]at h;refine ldC h ?_)
 rw[JW];unfold la at hk
 cases h1:decide (r.name=s_) with
 | false=>exact itF rfl ⟨false,rfl,by rw[h1]at hk;exact hk w (zm h)⟩
 | true=>
  refine itT rfl ?_
  (refine ldC h ?_)
  rw[JW]
  cases h2:decide (r.cfg=s_) with
  | false=>exact itF rfl ⟨false,rfl,by rw[h1,h2]at hk;exact hk w (zm h)⟩
  | true=>
   refine itT rfl ?_
   (refine ldC h ?_)
   refine it (λh3=>?_) (λh3=>?_)
   ·(refine ldC h ?_)
    have h3:decide (r.roll=0)=true:=by simpa using h3
    rw[h1,h2,h3]at hk;refine⟨_,rfl,eqk (hk w (zm h)) ?_⟩;rw[Bool.eq_iff_iff];simp
   ·have h3:decide (r.roll=0)=false:=by simpa using h3
    rw[h1,h2,h3]at hk;exact⟨false,rfl,hk w (zm h)⟩
def wiB(n a b:Int):Bool:=decide (a≤n)&&decide (n≤b)
def oj{n a b:Int}{k:Bool→PT}(hk:k (wiB n a b) w):L.call Pr ZQ [I n,I a,I b] (.one (.one .bool)) k w:=by
 refine za (NK n a b) ?_;unfold ml;unfold wiB at hk;refine it (λh1=>?_) (λh1=>?_)
 ·have h1:decide (a≤n)=true:=h1;rw[h1]at hk;exact⟨_,rfl,hk⟩
 ·have h1:decide (a≤n)=false:=h1;rw[h1]at hk;exact⟨_,rfl,hk⟩
def tC(e:AEv):Bool:=if e.kind=1∨e.kind=2 then wiB e.n 0 2147483647 else if e.kind=3 then wiB e.n 1 2 else wiB e.n 1 2147483647
def aL(h:St w0 E w){e:AEv}{k:Bool→PT}(hk:∀w',St w0 E w'→k (tC e) w'):L.call Pr KT [evV e] (.one (.one .bool)) k w:=by
 refine za (NM e.t) ?_;unfold mo;unfold tC at hk;refine nw h ?_;clear h;intro b1 w h
 (dsimp only[zd,List.cons_append,List.nil_append]at h;refine ldC h ?_)
 refine jd ?_;refine it (λh1=>?_) (λh1=>?_)
 ·have h1':e.kind=1:=by simpa using h1
  refine itT h1 ?_
  (refine ldC h ?_)
  refine oj ⟨_,rfl,?_⟩;rw[if_pos (.inl h1')]at hk;exact hk w (zm h)
 ·have h1':¬e.kind=1:=by simpa using h1
  refine it (λh2=>?_) (λh2=>?_)
  ·have h2':e.kind=2:=by simpa using h2
   (refine ldC h ?_)
   refine oj ⟨_,rfl,?_⟩;rw[if_pos (.inr h2')]at hk;exact hk w (zm h)
  ·have h2':¬e.kind=2:=by simpa using h2
   rw[if_neg (λhh=>hh.elim h1' h2')]at hk;refine it (λh3=>?_) (λh3=>?_)
   ·have h3':e.kind=3:=by simpa using h3
    rw[if_pos h3']at hk
    (refine ldC h ?_)
    exact oj ⟨_,rfl,hk w (zm h)⟩
   ·have h3':¬e.kind=3:=by simpa using h3
    rw[if_neg h3']at hk
    (refine ldC h ?_)
    exact oj ⟨_,rfl,hk w (zm h)⟩
def Ph(n:B0):Prop:=∃c g,yp c.data.toList 16=true∧1≤g∧g<100∧n=qh c g
def Fy(e:AEv):Bool:=if e.kind=12∨e.kind=13 then true else yp e.name.data.toList 16
def Ec(h:St w0 E w){e:AEv}(hr:e.kind=12∨e.kind=13→Ph e.name){k:Bool→PT}(hk:∀w',St w0 E w'→k (Fy e) w'):L.call Pr Vy [evV e] (.one (.one .bool)) k w:=by
 refine za (wF e.t) ?_;unfold pz;unfold Fy at hk;refine nw h ?_;clear h;intro b1 w h
 (dsimp only[zd,List.cons_append,List.nil_append]at h;refine ldC h ?_)
 refine it (λh1=>?_) (λh1=>?_)
 ·have h1':e.kind=12:=by simpa using h1
  obtain⟨c,g,hc,g1,g2,en⟩:=hr (.inl h1');rw[if_pos (.inl h1')]at hk
  (refine ldC h ?_)
  rw[en];exact Dy h QG hc g1 g2 λw h=>⟨_,rfl,hk w (zm h)⟩
 ·have h1':¬e.kind=12:=by simpa using h1
  (refine ldC h ?_)
  refine it (λh2=>?_) (λh2=>?_)
  ·have h2':e.kind=13:=by simpa using h2
   obtain⟨c,g,hc,g1,g2,en⟩:=hr (.inr h2');rw[if_pos (.inr h2')]at hk
   (refine ldC h ?_)
   rw[en];exact Dy h QG hc g1 g2 λw h=>⟨_,rfl,hk w (zm h)⟩
  ·have h2':¬e.kind=13:=by simpa using h2
   rw[if_neg (λhh=>hh.elim h1' h2')]at hk
   (refine ldC h ?_)
   exact Nj h QG λw h=>⟨_,rfl,hk w (zm h)⟩
def MU(s:Has)(e:AEv):Bool:=
 (s.1||decide (e.n=0))&&((s.2.1||decide (e.name=s_))&&((s.2.2.1||decide (e.tag=s_))&&((s.2.2.2.1||decide (e.draw=0))&&((s.2.2.2.2.1||kB e.c kC)&&(s.2.2.2.2.2.1||la e.r e.v.len)))))
def bx(s:Has)(e:AEv):Int:=
 if MU s e=false then 2 else if s.1=true∧tC e=false then 2 else if s.2.1=true∧Fy e=false then 1
 else if s.2.2.1=true∧e.tag≠s_∧yp e.tag.data.toList 8=false then 1 else if s.2.2.2.1=true∧wiB e.draw 0 2147483647=false then 2
 else if s.2.2.2.2.1=true then XJ e.c else if s.2.2.2.2.2.1=true then gg e.r else 0
def ZH(e:AEv):Int:=if(shp e.kind).2=false then 12 else bx (shp e.kind).1 e
def sT(k:Int):(shp k).1=(true,false,false,false,true,false,())∨(shp k).1=(true,false,false,false,false,true,())∨(shp k).1=(true,true,false,true,false,false,())∨(shp k).1=(true,true,true,true,false,false,())∨
  (shp k).1=(true,false,false,false,false,false,())∨(shp k).1=(false,false,false,false,false,false,())∨(shp k).1=(false,true,false,false,false,false,()):=by
 unfold shp
 repeat' split
 all_goals simp
def lj(h:St w0 E w){e:AEv}(hn:e.kind=12∨e.kind=13→Ph e.name)(rd:RdE w0 E eT e.v e.r.ts)(hvc:e.v.len≤e.v.cap)(hrv:∀t∈e.r.ts,VG t.1){k:Int→PT}(hk:∀w',St w0 E w'→k (ZH e) w') :
  L.call Pr Vz [evV e] (.one (.one (.int .i64))) k w:=by
 refine za (wH e.t) ?_;unfold pD;unfold ZH at hk;refine nw h ?_;clear h;intro b1 w h
 (dsimp only[zd,List.cons_append,List.nil_append]at h;refine ldC h ?_)
 refine AZ h λw h=>?_;have hs:=sT e.kind;generalize (shp e.kind).1=s at *
 generalize (shp e.kind).2=t at *
 refine nw h ?_;clear h;intro b4 w h
 (refine stC h ?_;clear h;intro w h;dsimp only[zJ,zd]at h)
 cases t with
 | false=>exact itT rfl ⟨12,rfl,by rw[if_pos rfl]at hk;exact hk w (zm (zm h))⟩
 | true=>
  refine itF rfl ?_;rw[if_neg (by decide)]at hk;unfold bx at hk;have rd':∀{s1 s2:Seg}{w},St w0 (s1::s2::E) w→Rd w eT e.v e.r.ts:=λh=>rd _ (zm (zm h));rcases hs with rfl | rfl | rfl | rfl | rfl | rfl | rfl
  all_goals repeat' (first | refine nn ?_ | (refine dr h ?_;clear h;intro w h) | refine ldC h ?_ | refine laC h ?_ | refine ckC h ?_ | (refine stC h ?_;clear h;intro w h;(try dsimp only[zJ,zd]at h)) | rw[JF] | refine jd ?_ | refine itT rfl ?_ | refine itF rfl ?_ | refine z1t ?_ | refine z1s ?_ | (refine z1u (c:=e.c) h λw h=>?_) | (refine z3H (r:=e.r) (v:=e.v) h λw h=>?_) | (refine aL (e:=e) h λw h=>?_) | (refine Ec (e:=e) h hn λw h=>?_) | (refine z2g h QG λw h=>?_) | refine oj ?_ | (refine AX (c:=e.c) h λw h=>?_) | (refine AW (a:=e.r) (v:=e.v) h (λw h=>rd' h) hvc hrv λw h=>?_) | (refine it (λhc=>?_) (λhc=>?_)))
  all_goals exact⟨_,rfl,eqk (hk w (zm (zm h))) (by clear hk h rd rd' hrv hn hvc;(try simp only[JW]at *);simp_all [MU])⟩
end Go.Proofs.YtimahgbgejngiaaGreatDoor

namespace Go.Proofs
open Go.Shelf
def Tryz.lays189_ren:Go.Shelf.Ren:=⟨fun | 189=>115 | 125=>186 | 257=>185 | 128=>253 | 129=>254 | 294=>244 | 295=>245 | 296=>246 | 297=>247 | 298=>248 | 299=>249 | 216=>250 | 300=>251 | 301=>252 | 328=>289 | 329=>290 | 330=>291 | 331=>292 | 332=>293 | 215=>294 | 343=>312 | n=>n,fun | 28=>24 | 3=>3 | 46=>349 | 0=>0 | 51=>410 | 53=>412 | 4=>4 | 183=>403 | 182=>402 | 131=>290 | 5=>5 | 9=>9 | 218=>442 | 222=>416 | 228=>462 | 229=>214 | n=>n,fun | n=>n⟩
def Tryz.lays189:Go.Proofs.Lays.n189 Tryz.prog Tryz.lays189_ren:={
 mixed:=by kernel_rfl
 f125:=Tryz.func186.trans cS
 f128:=Tryz.func253.trans cS
 f129:=Tryz.func254.trans cS
 f189:=Tryz.func115.trans cS
 f215:=Tryz.func294.trans cS
 f216:=Tryz.func250.trans cS
 f257:=Tryz.func185.trans cS
 f294:=Tryz.func244.trans cS
 f295:=Tryz.func245.trans cS
 f296:=Tryz.func246.trans cS
 f297:=Tryz.func247.trans cS
 f298:=Tryz.func248.trans cS
 f299:=Tryz.func249.trans cS
 f300:=Tryz.func251.trans cS
 f301:=Tryz.func252.trans cS
 f328:=Tryz.func289.trans cS
 f329:=Tryz.func290.trans cS
 f330:=Tryz.func291.trans cS
 f331:=Tryz.func292.trans cS
 f332:=Tryz.func293.trans cS
 f343:=Tryz.func312.trans cS
 t0:=Tryz.underlying0
 a0:=Tryz.isAgg0
 z0:=Tryz.sizeOf0
 v0:=Tryz.zeroValue0
 t3:=Tryz.underlying3
 a3:=Tryz.isAgg3
 z3:=Tryz.sizeOf3
 v3:=Tryz.zeroValue3
 t4:=Tryz.underlying4
 a4:=Tryz.isAgg4
 z4:=Tryz.sizeOf4
 v4:=Tryz.zeroValue4
 t5:=Tryz.underlying5
 a5:=Tryz.isAgg5
 z5:=Tryz.sizeOf5
 v5:=Tryz.zeroValue5
 t9:=Tryz.underlying9
 a9:=Tryz.isAgg9
 z9:=Tryz.sizeOf9
 v9:=Tryz.zeroValue9
 t28:=Tryz.underlying24
 a28:=Tryz.isAgg24
 z28:=Tryz.sizeOf24
 v28:=Tryz.zeroValue24
 t46:=Tryz.underlying349
 a46:=Tryz.isAgg349
 z46:=Tryz.sizeOf349
 v46:=Tryz.zeroValue349
 t51:=Tryz.underlying410
 a51:=Tryz.isAgg410
 z51:=Tryz.sizeOf410
 v51:=Tryz.zeroValue410
 t53:=Tryz.underlying412
 a53:=Tryz.isAgg412
 z53:=Tryz.sizeOf412
 v53:=Tryz.zeroValue412
 t131:=Tryz.underlying290
 a131:=Tryz.isAgg290
 z131:=Tryz.sizeOf290
 v131:=Tryz.zeroValue290
 t182:=Tryz.underlying402
 a182:=Tryz.isAgg402
 z182:=Tryz.sizeOf402
 v182:=Tryz.zeroValue402
 t183:=Tryz.underlying403
 a183:=Tryz.isAgg403
 z183:=Tryz.sizeOf403
 v183:=Tryz.zeroValue403
 t218:=Tryz.underlying442
 a218:=Tryz.isAgg442
 z218:=Tryz.sizeOf442
 v218:=Tryz.zeroValue442
 t222:=Tryz.underlying416
 a222:=Tryz.isAgg416
 z222:=Tryz.sizeOf416
 v222:=Tryz.zeroValue416
 t228:=Tryz.underlying462
 a228:=Tryz.isAgg462
 z228:=Tryz.sizeOf462
 v228:=Tryz.zeroValue462
 t229:=Tryz.underlying214
 a229:=Tryz.isAgg214
 z229:=Tryz.sizeOf214
 v229:=Tryz.zeroValue214 }
open Go.Sort Go.RowKit in
def Tryz.slices_Sort_int(blk off cap:Nat)(zs:List Int)(w:World)(hH:Holds (Value.int .i64) w blk off zs.toArray)(hblk:blk<w.heap.size)(hsz:zs.length<4611686018427387904) :
  Calls Tryz.prog 115 #[.slice (some ⟨blk,off,none⟩) zs.length cap] w λe w'=>
   e = .returned (.tuple #[])∧∃n os,w'=grow (putRow (Value.int .i64) (Sort.ahead w n) blk off (zs.mergeSort λx y=>decide (x≤y)).toArray) os:=Any.slices_Sort_int Tryz.lays189 blk off cap zs w hH hblk hsz
end Go.Proofs
namespace Go.Proofs.YtimahgbgejngiaaGreatDoor
open Go.Dm
attribute [local irreducible] L.load L.store L.chk L.new L.nonnil L.guard L.ite L.draw L.idx L.sem L.semR L.semU L.chkSem L.next L.call L.callV L.join L.alts L.loop L.begin L.endRound L.range
variable {w0 w:World}{E:List Seg}
def Oi(l:List Int):List Int:=l.mergeSort λx y=>decide (x≤y)
def Vd(l:List Int):(Oi l).Perm l:=List.mergeSort_perm ..
def nB(l:List Int):(Oi l).Pairwise (· ≤·):=by
 have:=List.pairwise_mergeSort (le:=λx y:Int=>decide (x≤y)) (λa b c h1 h2=>by simp only[decide_eq_true_eq]at *;omega) (λa b=>by simp only[Bool.or_eq_true,decide_eq_true_eq];omega) l;exact this.imp λh=>by simpa using h
def RN{l m:List Int}(h:l.Perm m):Oi l=Oi m:=
 List.Perm.eq_of_pairwise (λa b _ _ h1 h2=>by omega) (nB l) (nB m) (((Vd l).trans h).trans (Vd m).symm)
def RM{l m:List Int}(h:l.Perm m)(hm:m.Pairwise (· ≤·)):Oi l=m:=
 List.Perm.eq_of_pairwise (λa b _ _ h1 h2=>by omega) (nB l) hm ((Vd l).trans h)
def KF(l:List Int):(Oi l).length=l.length:=(Vd l).length_eq
def sG(h:St w0 E w)(i:Nat){s:Seg}(hi:nth E i=some s){v:Sl}{l:List Int}(hr:Rw eI zx 1 v l s)(hn:l.length<1000000000){k:Unit→PT}(hk:∀s' w',Rw eI zx 1 v (Oi l) s'→St w0 (zd E i s') w'→k () w') :
  L.call Pr qB [.slice v.a v.len v.cap] (.tup []) k w:=
 Ao (encv:=Value.int .i64) (λ_=>rfl) Yy (Oi l) (KF l) (λg off cap w h1 h2=>Tryz.slices_Sort_int g off cap l w h1 h2 (by omega)) (λp cap w=>Any.slices_Sort_int_none Tryz.lays189 p cap w) h i hi hr hk
def LB{a1 a2:Seg}{F:List Seg}{fv:FV}{keys:List Int}(hY:nZ Pr w0 [a1,a2] fv.val keys (Value.int .i64))(h:St w0 (a1::a2::F) w)(hn:keys.length<1000000000){k:Sl→PT}
  (hk:∀seen v s w',seen.Perm keys→Rw eI zx 1 v seen s→St w0 (s::a1::a2::F) w'→k v w'):L.call Pr JZ [.slice none 0 0,fv.val] (.one (.one .slice)) k w:=by
 refine za (oM ⟨none,0,0⟩ fv) ?_;unfold Qw;refine nw h ?_;clear h;intro b1 w h;have h:=ZL (ZL h);have h:St w0 ([a1,a2]++[Cl b1 ZS [SlV ⟨none,0,0⟩]]::[]::F) w:=h.eq (by simp);refine Wo (l:=.int .i64) (arg:=λx=>x) (A:=[a1,a2]) (keys:=keys) hY h (λseen G=>∃v s,G = [Cl b1 ZS [SlV v]]::s::F∧Rw eI zx 1 v seen s) (λj G=>False) ⟨_,_,rfl,Rw.nil⟩ ?_ ?_ ?_
 ·rintro seen x G X w lv lp d R hm ⟨v,s,rfl,hr⟩ h hN hE;have h:St w0 ([Rec lv lp .busy none]::[DfM d]::a1::a2::[Cl b1 ZS [SlV v]]::s::(F++X)) w:=h
  (refine ldC h ?_)
  refine nw h ?_;clear h;intro b8 w h;refine Rw.app Yy elI h 5 rfl hr x rfl (by omega) (by omega) λv' s' w hr' h=>?_
  (dsimp only[zd,List.cons_append,List.nil_append]at h;refine stC h ?_;clear h;intro w h;dsimp only[zJ,zd]at h)
  exact hN _ w ⟨v',s',rfl,hr'⟩ h
 ·rintro d seen G w hp ⟨v,s,rfl,hr⟩ h;have h:St w0 ([DfM d]::a1::a2::[Cl b1 ZS [SlV v]]::s::F) w:=h;refine vC ?_
  (refine ldC h ?_)
  (first | refine OF h ?_ | refine OE h ?_ | refine OD h ?_ | refine OC h ?_ | refine OB h ?_ | refine OA h ?_ | refine Oz h ?_ | refine Oy h ?_ | refine Ox h ?_ | refine Ow h ?_ | refine uv h ?_ | refine uu h ?_);clear h;intro w h
  refine⟨v,rfl,hk seen v s w hp hr ?_⟩;have h:=YA (yO (yO h));have h:=VP h;exact h
 ·rintro d j G w hf;exact hf.elim
def MZ{a1 a2:Seg}{F:List Seg}{fv:FV}{keys:List Int}(hY:nZ Pr w0 [a1,a2] fv.val keys (Value.int .i64))(h:St w0 (a1::a2::F) w)(hn:keys.length<1000000000){k:Sl→PT}
  (hk:∀v s w',Rw eI zx 1 v (Oi keys) s→St w0 (s::a2::F) w'→k v w'):L.call Pr jr [fv.val] (.one (.one .slice)) k w:=by
 refine za (Mx fv) ?_;unfold kO;refine za (mG fv) ?_;unfold VU;refine LB hY h hn λseen v s w hp hr h=>⟨v,rfl,?_⟩;refine sG h 0 rfl hr (by rw[hp.length_eq];exact hn) λs w hr h=>?_;rw[RN hp]at hr;exact⟨v,rfl,hk v s w hr (Yf h)⟩
def unI:Value→Int
 | .int _ n=>n
 | _=>0
abbrev KI:Int→Value:=Value.int .i64
def Be(x:B0×Option Addr):Value:=.agg #[.string x.1,.pointer x.2]
def Um:Pr.underlying Yk=some (.map zx yP):=by kernel_rfl
def xz:Pr.underlying Zf=some (.map zx XM):=by kernel_rfl
def xA:Pr.underlying Zm=some (.map zx zx):=by kernel_rfl
def IQ:Pr.underlying zx=some (.int .i64):=by kernel_rfl
def mkI:MK Pr zx KI:=z2H IQ
def zb(w:World):(zeroValue yP).run Pr w = .ok ((E1.one .bool).val false) w:=by
 have h:(Pr.info? yP).map (·.zero)=some (some (.bool false)):=by kernel_rfl
 cases hi:Pr.info? yP with
 | none=>rw[hi]at h;cases h
 | some i=>rw[hi]at h;simp only[Option.map_some,Option.some.injEq]at h;exact zv hi h w
def zi(w:World):(zeroValue zx).run Pr w = .ok ((E1.one (.int .i64)).val (0:Int)) w:=by
 have h:(Pr.info? zx).map (·.zero)=some (some (I 0)):=by kernel_rfl
 cases hi:Pr.info? zx with
 | none=>rw[hi]at h;cases h
 | some i=>rw[hi]at h;simp only[Option.map_some,Option.some.injEq]at h;exact zv hi h w
def zo(w:World):(zeroValue XM).run Pr w = .ok ((E1.agg [.str,.ptr]).val (s_,none,())) w:=by
 have h:(Pr.info? XM).map (·.zero)=some (some (.agg #[.string s_,.pointer none])):=by kernel_rfl
 cases hi:Pr.info? XM with
 | none=>rw[hi]at h;cases h
 | some i=>rw[hi]at h;simp only[Option.map_some,Option.some.injEq]at h;exact zv hi h w
def z5M(h:St w0 E w)(i:Nat){s:Seg}(hi:nth E i=some s){r:Nat}{m:List (Int×Bool)}(hm:MpS KI Value.bool r m s)(hn:m.length<1000000000){k:Sl→PT}
  (hk:∀v s' w',Rw eI zx 1 v (Oi (m.map (·.1))) s'→St w0 (s'::E) w'→k v w') :
  L.call Pr ja [.map (some r)] (.one (.one .func)) (λx5=>L.call Pr jr [.func x5.fn x5.fs x5.cs] (.one (.one .slice)) k) w:=by
 refine za (UE _) ?_;unfold xw;have h:=h.front i hi;refine nw h ?_;clear h;intro c w h;refine⟨⟨.func ZK,#[],#[.pointer (some ⟨c,0,none⟩)]⟩,rfl,?_⟩;have hY:nZ Pr w0 [[Cl c Yk [.map (some r)]],s] (.func (.func ZK) #[] #[.pointer (some ⟨c,0,none⟩)]) (m.map (·.1)) KI:=by
  intro yv R J Jd F w h hJ step fin fin2;refine⟨uD,uF yv ⟨c,0,none⟩ ?_⟩;unfold JP;exact Mb (kv:=KI) (vv:=Value.bool) unI (λ_=>rfl) Um (lk:=.int .i64) (ev:=.one .bool) (λx=>x) (λ_=>rfl) (λx=>x) (λ_=>rfl) J Jd hm h hJ (λseen k F X w hl hJ h=>step seen k F X w (by simpa using hl) hJ h) fin fin2
 refine MZ (fv:=⟨.func ZK,#[],#[.pointer (some ⟨c,0,none⟩)]⟩) hY h (by simpa using hn) λv s' w hr h=>hk v s' w hr ?_;have h:=yO h;exact St.setN_same' (i+1) (E:=s'::E) hi (St.back (i+1) (E:=s'::E) hi h)
def z5L(h:St w0 E w)(i:Nat){s:Seg}(hi:nth E i=some s){r:Nat}{m:List (Int×(B0×Option Addr))}(hm:MpS KI Be r m s)(hn:m.length<1000000000){k:Sl→PT}
  (hk:∀v s' w',Rw eI zx 1 v (Oi (m.map (·.1))) s'→St w0 (s'::E) w'→k v w') :
  L.call Pr yH [.map (some r)] (.one (.one .func)) (λx5=>L.call Pr jr [.func x5.fn x5.fs x5.cs] (.one (.one .slice)) k) w:=by
 refine za (XI _) ?_;unfold jg;have h:=h.front i hi;refine nw h ?_;clear h;intro c w h;refine⟨⟨.func Zd,#[],#[.pointer (some ⟨c,0,none⟩)]⟩,rfl,?_⟩;have hY:nZ Pr w0 [[Cl c Zf [.map (some r)]],s] (.func (.func Zd) #[] #[.pointer (some ⟨c,0,none⟩)]) (m.map (·.1)) KI:=by
  intro yv R J Jd F w h hJ step fin fin2;refine⟨Xf,Xh yv ⟨c,0,none⟩ ?_⟩;unfold YO;exact Mb (kv:=KI) (vv:=Be) unI (λ_=>rfl) xz (lk:=.int .i64) (ev:=.agg [.str,.ptr]) (λx=>x) (λ_=>rfl) (λx:B0×Option Addr=>(x.1,x.2,())) (λ_=>rfl) J Jd hm h hJ (λseen k F X w hl hJ h=>step seen k F X w (by simpa using hl) hJ h) fin fin2
 refine MZ (fv:=⟨.func Zd,#[],#[.pointer (some ⟨c,0,none⟩)]⟩) hY h (by simpa using hn) λv s' w hr h=>hk v s' w hr ?_;have h:=yO h;exact St.setN_same' (i+1) (E:=s'::E) hi (St.back (i+1) (E:=s'::E) hi h)
structure YZ where
 st:Int
 conc:Int
 reqs:List Int
def Mo(x:Int):List Int→List Int
 | []=>[x]
 | y::l=>if y<x then y::Mo x l else x::y::l
structure YZ.Ok(p:YZ):Prop where
 pw:p.reqs.Pairwise (· < ·)
 dr:p.st=3→p.reqs≠[]
 dead:p.st=4→p.reqs = []
 few:p.reqs.length<100000000
def Yl(p:YZ):YZ×Int:=if p.st≠1 then(p,9)else({ p with st:=2 },0)
def yy(p:YZ):YZ×Int:=if p.st≠1∧p.st≠2 then(p,9)else({ p with st:=if p.reqs = []then 4 else 3 },0)
def yk(p:YZ):YZ×List Int×Int:=if p.st=4 then(p,[],9)else({ p with st:=4,reqs:=[] },p.reqs,0)
def yj(p:YZ)(id:Int):YZ×Int:=
 if p.st≠2 then(p,9)else if id∈p.reqs then(p,5)else if(p.reqs.length:Int)≥p.conc then(p,8)else({ p with reqs:=Mo id p.reqs },0)
def yg(p:YZ)(id:Int):YZ×Int:=
 if id∈p.reqs then({ p with reqs:=p.reqs.erase id,st:=if p.st=3∧p.reqs.erase id = []then 4 else p.st },0)else(p,6)
def Ve(x:Int)(l:List Int):(Mo x l).Perm (x::l):=by
 induction l with
 | nil=>exact .refl _
 | cons y l ih=>
  simp only[Mo];split
  ·exact(ih.cons y).trans (.swap ..)
  ·exact .refl _
def Qk{x y:Int}{l:List Int}:y∈Mo x l↔y=x∨y∈l:=by
 rw[(Ve x l).mem_iff];simp
def AG{x:Int}:∀{l:List Int},l.Pairwise (· < ·)→x∉l→(Mo x l).Pairwise (· < ·)
 | [],_,_=>by simp[Mo]
 | y::l,h,hx=>by
  simp only[List.mem_cons,not_or]at hx;rw[List.pairwise_cons]at h;simp only[Mo];split
  ·rename_i hy;rw[List.pairwise_cons];refine⟨λz hz=>?_,AG h.2 hx.2⟩;rcases Qk.1 hz with rfl | hz
   ·exact hy
   ·exact h.1 z hz
  ·rename_i hy;rw[List.pairwise_cons];refine⟨λz hz=>?_,List.pairwise_cons.2 h⟩;rcases List.mem_cons.1 hz with rfl | hz
   ·omega
   ·have:=h.1 z hz;omega
def RO(x:Int)(l:List Int):(Mo x l).length=l.length+1:=by rw[(Ve x l).length_eq];rfl
def oR(m:List (Int×Bool))(reqs:List Int):Prop:=(∀p∈m,p.2=true)∧(m.map (·.1)).Perm reqs
def oR.get{m:List (Int×Bool)}{reqs:List Int}(h:oR m reqs)(id:Int):((zr m id).map λx=>x).getD false=decide (id∈reqs):=by
 cases hg:zr m id with
 | none=>
  have:=YE.1 hg;rw[h.2.mem_iff]at this;simp[this]
 | some b=>
  have hm:=yK hg;have hb:=h.1 _ hm;simp only at hb;subst hb;have:id∈reqs:=h.2.mem_iff.1 (List.mem_map_of_mem (f:=(·.1)) hm);simp[this]
def oR.len{m:List (Int×Bool)}{reqs:List Int}(h:oR m reqs):m.length=reqs.length:=by
 have:=h.2.length_eq;simpa using this
def oR.put{m:List (Int×Bool)}{reqs:List Int}(h:oR m reqs){id:Int}(hn:id∉reqs):oR (zX m id true) (Mo id reqs):=by
 have hg:zr m id=none:=YE.2 (λhm=>hn (h.2.mem_iff.1 hm));rw[Xy hg];refine⟨λp hp=>?_,?_⟩
 ·rcases List.mem_append.1 hp with hp | hp
  ·exact h.1 p hp
  ·simp at hp;subst hp;rfl
 ·rw[List.map_append];refine List.Perm.trans ?_ (Ve id reqs).symm;exact List.perm_append_comm.trans (h.2.cons id)
def Wu:∀{m:List (Int×Bool)}{k:Int},((Kk m k).map (·.1)).Perm ((m.map (·.1)).erase k)
 | [],k=>by simp[Kk]
 | p::m,k=>by
  simp only[Kk];by_cases e:p.1=k
  ·rw[if_pos e];subst e;simp
  ·rw[if_neg e,List.map_cons,List.map_cons,List.erase_cons_tail (by simpa using e)];exact(Wu (m:=m) (k:=k)).cons _
def Rs{κ υ:Type}[DecidableEq κ]:∀{m:List (κ×υ)}{k:κ}{p:κ×υ},p∈Kk m k→p∈m
 | q::m,k,p,h=>by
  simp only[Kk]at h;split at h
  ·exact List.mem_cons_of_mem _ h
  ·rcases List.mem_cons.1 h with rfl | h
   ·exact List.mem_cons_self ..
   ·exact List.mem_cons_of_mem _ (Rs h)
def oR.take{m:List (Int×Bool)}{reqs:List Int}(h:oR m reqs)(id:Int):oR (Kk m id) (reqs.erase id):=
 ⟨λp hp=>h.1 p (Rs hp),Wu.trans (h.2.erase id)⟩
def kq(b:Nat)(p:YZ)(s:Seg):Prop:=p.Ok∧∃r m sm,MpS KI Value.bool r m sm∧oR m p.reqs∧s = [Cl b KJ [I p.st,.map (some r),I p.conc]]++sm
def z3r(h:St w0 E w){conc:Int}{k:Option Addr→PT}(hk:∀b s w',kq b ⟨1,conc,[]⟩ s→St w0 (s::E) w'→k (some ⟨b,0,none⟩) w'):L.call Pr cg [I conc] (.one (.one .ptr)) k w:=by
 refine za (Em _) ?_;unfold ly;refine MpS.new h KI Value.bool λr s w hm h=>?_;refine nw h ?_;clear h;intro b w h;exact⟨_,rfl,hk b _ w ⟨⟨by simp,by simp,by simp,by simp⟩,r,[],s,hm,⟨by simp,.refl _⟩,rfl⟩ h.glue⟩
def Io(h:St w0 E w)(i:Nat){b:Nat}{p:YZ}{s:Seg}(hi:nth E i=some s)(hp:kq b p s){k:Int→PT}(hk:k p.st w):L.call Pr yQ [pO b] (.one (.one (.int .i64))) k w:=by
 obtain⟨ok,r,m,sm,hm,hb,rfl⟩:=hp;refine za (dO _) ?_;unfold fD;have h:=(h.front i hi).split
 (refine nn ?_;refine ldC h ?_)
 exact⟨_,rfl,hk⟩
def z1o(h:St w0 E w)(i:Nat){b:Nat}{p:YZ}{s:Seg}(hi:nth E i=some s)(hp:kq b p s){k:Int→PT}(hk:k p.reqs.length w):L.call Pr jk [pO b] (.one (.one (.int .i64))) k w:=by
 obtain⟨ok,r,m,sm,hm,hb,rfl⟩:=hp;refine za (mI _) ?_;unfold ow;have h:=(h.front i hi).split
 (refine nn ?_;refine ldC h ?_)
 refine MpS.len Um h 1 rfl hm ⟨_,rfl,?_⟩;rw[hb.len];exact hk
def z5x(h:St w0 E w)(i:Nat){b:Nat}{p:YZ}{s:Seg}(hi:nth E i=some s)(hp:kq b p s){k:Int→PT}(hk:∀s' w',kq b (Yl p).1 s'→St w0 (zd E i s') w'→k (Yl p).2 w') :
  L.call Pr GA [pO b] (.one (.one (.int .i64))) k w:=by
 have hp':=hp;obtain⟨ok,r,m,sm,hm,hb,rfl⟩:=hp;refine za (LO _) ?_;unfold Tq;have h:=(h.front i hi).split
 (refine nn ?_;refine ldC h ?_)
 refine it (λhc=>?_) (λhc=>?_)<;>(try simp only[zB]at hc)
 ·have e:Yl p=(p,9):=by simp only[Yl];rw[if_pos hc]
  rw[e]at hk;exact⟨_,rfl,hk _ w hp' (St.back i hi h.glue)⟩
 ·have e:Yl p=({ p with st:=2 },0):=by simp only[Yl];rw[if_neg (by simpa using hc)]
  rw[e]at hk
  (refine nn ?_;refine stC h ?_;clear h;intro w h;dsimp only[zJ,zd]at h)
  exact⟨_,rfl,hk _ w ⟨⟨ok.pw,by simp,by simp,ok.few⟩,r,m,sm,hm,hb,rfl⟩ (St.back i hi h.glue)⟩
def Ip{b r:Nat}{st conc:Int}{m:List (Int×Bool)}{reqs:List Int}{sm:Seg}{F:List Seg}(hm:MpS KI Value.bool r m sm)(hb:oR m reqs)(h:St w0 ([Cl b KJ [I st,.map (some r),I conc]]::sm::F) w){k:Unit→PT}
  (hk:∀w',St w0 ([Cl b KJ [I (if st=3∧reqs = []then 4 else st),.map (some r),I conc]]::sm::F) w'→k () w'):L.call Pr Vv [pO b] (.tup []) k w:=by
 refine za (wx _) ?_;unfold po
 (refine nn ?_;refine ldC h ?_)
 refine it (λhc=>?_) (λhc=>?_)<;>(try simp only[zB]at hc)
 ·refine za (mI _) ?_;unfold ow
  (refine nn ?_;refine ldC h ?_)
  refine MpS.len Um h 1 rfl hm ⟨_,rfl,?_⟩;have hl:=hb.len;refine it (λhd=>?_) (λhd=>?_)<;>(try simp only[zB]at hd)
  ·have:reqs = []:=List.eq_nil_of_length_eq_zero (by omega);rw[if_pos ⟨hc,this⟩]at hk
   (refine nn ?_;refine stC h ?_;clear h;intro w h;dsimp only[zJ,zd]at h)
   exact⟨(),rfl,hk w h⟩
  ·rw[if_neg (λhh=>hd (by rw[hl,hh.2];rfl))]at hk;exact⟨(),rfl,hk w h⟩
 ·rw[if_neg (λhh=>hc hh.1)]at hk;exact⟨(),rfl,hk w h⟩
def Iq(h:St w0 E w)(i:Nat){b:Nat}{p:YZ}{s:Seg}(hi:nth E i=some s)(hp:kq b p s){k:Int→PT}(hk:∀s' w',kq b (yy p).1 s'→St w0 (zd E i s') w'→k (yy p).2 w') :
  L.call Pr kg [pO b] (.one (.one (.int .i64))) k w:=by
 have hp':=hp;obtain⟨ok,r,m,sm,hm,hb,rfl⟩:=hp;refine za (dP _) ?_;unfold fE;have h:=(h.front i hi).split;refine Zz (λz w=>¬(p.st≠1∧p.st≠2)∧St w0 ([Cl b KJ [I p.st,.map (some r),I p.conc]]::sm::Zv E i) w) (λk1 hk1=>?_) (λz w ⟨hc,h⟩=>?_)
 ·(refine nn ?_;refine ldC h ?_)
  refine it (λhc=>?_) (λhc=>?_)<;>(try simp only[zB]at hc)
  ·(refine nn ?_;refine ldC h ?_)
   refine it (λhd=>?_) (λhd=>?_)<;>(try simp only[zB]at hd)
   ·have e:yy p=(p,9):=by simp only[yy];rw[if_pos ⟨hc,hd⟩]
    rw[e]at hk;exact⟨_,rfl,hk _ w hp' (St.back i hi h.glue)⟩
   ·exact hk1 _ w ⟨λhh=>hh.2 hd,h⟩
  ·exact hk1 _ w ⟨λhh=>hh.1 hc,h⟩
 ·have e:yy p=({ p with st:=if p.reqs = []then 4 else 3 },0):=by simp only[yy];rw[if_neg hc]
  rw[e]at hk
  (refine nn ?_;refine stC h ?_;clear h;intro w h;dsimp only[zJ,zd]at h)
  refine Ip hm hb h λw h=>⟨0,rfl,hk _ w ⟨⟨ok.pw,?_,?_,ok.few⟩,r,m,sm,hm,hb,rfl⟩ ?_⟩
  ·intro hh e;have e:p.reqs = []:=e;simp[e]at hh
  ·intro hh;apply Classical.byContradiction;intro hne;simp[hne]at hh
  ·have h:=St.back i hi h.glue;simp only[true_and]at h;exact h
def lq{a:Addr}{b r o T:Nat}{pre:List Value}{post:List Value}{m:List (Int×Bool)}{reqs:List Int}{sm:Seg}{F:List Seg}(ha:a=⟨b,pre.length,none⟩)(hm:MpS KI Value.bool r m sm)(hb:oR m reqs)
  (h:St w0 ([Cl b T (pre++ .map (some r)::post)]::sm::F) w) {id:Int} {k:Int→PT}
  (hk:∀m' sm' w',MpS KI Value.bool r m' sm'→oR m' (reqs.erase id)→St w0 ([Cl b T (pre++ .map (some r)::post)]::sm'::F) w'→k (if id∈reqs then 0 else 6) w') :
  L.call Pr XS [.pointer (some a),I id] (.one (.one (.int .i64))) k w:=by
 subst ha;have hn:nth (pre++ .map (some r)::post) (pre.length+0)=some (.map (some r)):=by rw[xH];rfl
 refine za (Pq _ _) ?_;unfold ov;refine nn ?_;rw[jM];refine ldx h 0 rfl hn rfl ?_;refine MpS.get (kv:=KI) (e:=.one .bool) (z:=false) mkI Um zb (λx=>x) (λ_=>rfl) h 1 rfl hm ?_;rw[hb.get];refine it (λhc=>?_) (λhc=>?_)<;>(try simp only[zB]at hc)
 ·have e:reqs.erase id=reqs:=List.erase_of_not_mem (by simpa using hc);rw[e,if_neg (by simpa using hc)]at hk;exact⟨_,rfl,hk m sm w hm hb h⟩
 ·rw[if_pos (by simpa using hc)]at hk;refine nn ?_;rw[jM];refine ldx h 0 rfl hn rfl ?_;refine MpS.del (kv:=KI) mkI Um h 1 rfl hm λsm' w hm h=>⟨_,rfl,hk _ sm' w hm (hb.take id) h⟩
def Le{l:List Int}(h:l = [])(id:Int):l.erase id = []:=by subst h;rfl
def z1q(h:St w0 E w)(i:Nat){b:Nat}{p:YZ}{s:Seg}(hi:nth E i=some s)(hp:kq b p s){id:Int}{k:Int→PT}(hk:∀s' w',kq b (yg p id).1 s'→St w0 (zd E i s') w'→k (yg p id).2 w') :
  L.call Pr UV [pO b,I id] (.one (.one (.int .i64))) k w:=by
 obtain⟨ok,r,m,sm,hm,hb,rfl⟩:=hp;refine za (NH _ _) ?_;unfold mg;have h:=(h.front i hi).split;refine nn ?_;refine lq (pre:=[I p.st]) (o:=0) (post:=[I p.conc]) rfl hm hb h λm' sm' w hm hb h=>?_;refine Ip hm hb h λw h=>?_;by_cases hc:id∈p.reqs
 ·rw[if_pos hc];simp only[yg,if_pos hc]at hk;refine⟨_,rfl,hk _ w ⟨⟨ok.pw.sublist (List.erase_sublist ..),?_,?_,?_⟩,r,m',sm',hm,hb,rfl⟩ (St.back i hi h.glue)⟩
  ·intro hh e;simp only at hh e;rw[e]at hh;by_cases h3:p.st=3
   ·simp[h3]at hh
   ·simp[h3]at hh
  ·intro hh;simp only at hh ⊢;by_cases h3:p.st=3∧p.reqs.erase id = []
   ·exact h3.2
   ·rw[if_neg h3]at hh;exact Le (ok.dead hh) id
  ·have:=List.length_erase_le (a:=id) (l:=p.reqs);have:=ok.few;simp only;omega
 ·rw[if_neg hc];simp only[yg,if_neg hc]at hk;have e:p.reqs.erase id=p.reqs:=List.erase_of_not_mem hc;rw[e]at hb h;refine⟨_,rfl,hk _ w ⟨ok,r,m',sm',hm,hb,rfl⟩ ?_⟩;have h:=St.back i hi h.glue;rw[if_neg (λhh=>ok.dr hh.1 hh.2)]at h;exact h
def z1n(h:St w0 E w)(i:Nat){b:Nat}{p:YZ}{s:Seg}(hi:nth E i=some s)(hp:kq b p s)(hfew:p.reqs.length<10000000){id:Int}{k:Int→PT}(hk:∀s' w',kq b (yj p id).1 s'→St w0 (zd E i s') w'→k (yj p id).2 w') :
  L.call Pr UT [pO b,I id] (.one (.one (.int .i64))) k w:=by
 have hp':=hp;obtain⟨ok,r,m,sm,hm,hb,rfl⟩:=hp;refine za (NF _ _) ?_;unfold me;have h:=(h.front i hi).split
 (refine nn ?_;refine ldC h ?_)
 refine it (λhc=>?_) (λhc=>?_)<;>(try simp only[zB]at hc)
 ·have e:yj p id=(p,9):=by simp only[yj];rw[if_pos hc]
  rw[e]at hk;exact⟨_,rfl,hk _ w hp' (St.back i hi h.glue)⟩
 (refine nn ?_)
 refine za (TA _ _) ?_;unfold On
 (refine nn ?_;refine ldC h ?_)
 refine MpS.get (kv:=KI) (e:=.one .bool) (z:=false) mkI Um zb (λx=>x) (λ_=>rfl) h 1 rfl hm ?_;rw[hb.get];have hl:=hb.len;refine it (λhd=>?_) (λhd=>?_)<;>(try simp only[zB]at hd)
 ·have e:yj p id=(p,5):=by simp only[yj];rw[if_neg (by simpa using hc),if_pos hd]
  rw[e]at hk;exact⟨5,rfl,5,rfl,hk _ w hp' (St.back i hi h.glue)⟩
 (refine dr h ?_;clear h;intro w h;refine nn ?_;refine ldC h ?_)
 refine MpS.len Um h 1 rfl hm ?_
 (refine nn ?_;rw[JF];refine ldC h ?_)
 refine it (λhe=>?_) (λhe=>?_)<;>(try simp only[zB]at he)
 ·have e:yj p id=(p,8):=by simp only[yj];rw[if_neg (by simpa using hc),if_neg hd,if_pos (by omega)]
  rw[e]at hk;exact⟨8,rfl,8,rfl,hk _ w hp' (St.back i hi h.glue)⟩
 ·have e:yj p id=({ p with reqs:=Mo id p.reqs },0):=by simp only[yj];rw[if_neg (by simpa using hc),if_neg hd,if_neg (by omega)]
  rw[e]at hk
  (refine nn ?_;refine ldC h ?_)
  refine MpS.set (kv:=KI) (vv:=Value.bool) mkI Um h 1 rfl hm true rfl λsm' w hm h=>?_;refine⟨0,rfl,0,rfl,hk _ w ⟨⟨AG ok.pw hd,?_,?_,?_⟩,r,_,sm',hm,hb.put hd,rfl⟩ (St.back i hi h.glue)⟩
  ·intro _ e2;have:=RO id p.reqs;have e2:Mo id p.reqs = []:=e2;rw[e2]at this;simp at this
  ·intro hh;simp only at hh;have:=hc;omega
  ·simp only;rw[RO];omega
def gG(h:St w0 E w){v:Sl}{l:List Int}(r:Rd w eI v l)(hn:l.length<1000000000000)(h64:v.a=none→l = []){k:Sl→PT}
  (hk:∀(v':Sl) s' w',Rw eI zx 1 v' l s'→(v'.a=none↔v.a=none)→St w0 (s'::E) w'→k v' w'):L.call Pr ZX [SlV v] (.one (.one .slice)) k w:=by
 refine za (vx _) ?_;unfold qd;exact Qp (K:=λv w'=>∃x,v=RT.val (.one (.one .slice)) x∧k x w') Yy elI h r (by omega) hn h64 λv' s' w' h1 h2 h3=>⟨v',rfl,hk v' s' w' h1 h2 h3⟩
def Rw.nil_of{α:Type}{enc:α→List Value}{e size:Nat}{v:Sl}{l:List α}{s:Seg}(hE:Enc enc size)(hr:Rw enc e size v l s)(h:v.a=none):l = []:=by
 have:=Rw.len hE hr;unfold Rw at hr;generalize fl enc l=cs at hr
 cases hr with
 | nil=>simpa using this.symm
 | mk=>cases h
def z1p(h:St w0 E w)(i:Nat){b:Nat}{p:YZ}{s:Seg}(hi:nth E i=some s)(hp:kq b p s){k:Sl×Int×Unit→PT}
  (hk:∀v s' s2 w',kq b (yk p).1 s'→Rw eI zx 1 v (yk p).2.1 s2→St w0 (s2::zd E i s') w'→k (v,(yk p).2.2,()) w') :
  L.call Pr UU [pO b] (.tup [.one .slice,.one (.int .i64)]) k w:=by
 have hp':=hp;obtain⟨ok,r,m,sm,hm,hb,rfl⟩:=hp;refine za (NG _) ?_;unfold mf;have h:=(h.front i hi).split
 (refine nn ?_;refine ldC h ?_)
 refine it (λhc=>?_) (λhc=>?_)<;>(try simp only[zB]at hc)
 ·have e:yk p=(p,[],9):=by simp only[yk];rw[if_pos hc]
  rw[e]at hk;have h:=St.back i hi h.glue;exact⟨(⟨none,0,0⟩,9,()),rfl,hk ⟨none,0,0⟩ _ [] w hp' Rw.nil (h.eq (by simp))⟩
 have e:yk p=({ p with st:=4,reqs:=[] },p.reqs,0):=by simp only[yk];rw[if_neg hc]
 rw[e]at hk;have hl:=hb.len;have hfew:=ok.few
 (refine nn ?_;refine ldC h ?_)
 refine z5M h 1 rfl hm (by omega) λv1 s1 w hr1 h=>?_;rw[RM hb.2 (ok.pw.imp (λh=>by omega))]at hr1;refine gG h (hr1.rd Yy h 0 rfl) (by omega) (Rw.nil_of Yy hr1) λv2 s2 w hr2 _ h=>?_;have h:=Yf h;have hlen:=Rw.len Yy hr2;refine zT (λq y w=>∃(j:Nat)(m:List (Int×Bool))(sm:Seg),y=((j:Int),())∧q+j=p.reqs.length∧MpS KI Value.bool r m sm∧oR m (p.reqs.drop j)∧St w0 (s2::[Cl b KJ [I p.st,.map (some r),I p.conc]]::sm::Zv E i) w) p.reqs.length ⟨0,m,sm,rfl,rfl,hm,hb,h⟩ ?_;clear hm hb hp';(clear h);rintro q y w ⟨j,m,sm,rfl,hq,hm,hb,h⟩ again hag
 (try dsimp only)
 refine it (λhd=>?_) (λhd=>?_)<;>(try simp only[zB]at hd)
 ·have hj:j<p.reqs.length:=by omega
  have ed:p.reqs.drop j=p.reqs[j]::p.reqs.drop (j+1):=List.drop_eq_getElem_cons hj;refine Rw.ix Yy hr2 (by omega) (by simpa using hj) λa ha=>?_;refine Rw.ld0 Yy h 0 rfl hr2 ha (x:=p.reqs[j]) (by simp[hj]) rfl rfl ?_;refine nn ?_;have h:=ZL (ZL h);refine lq (pre:=[I p.st]) (o:=0) (post:=[I p.conc]) rfl hm hb h λm' sm' w hm hb h=>?_;refine hag (q-1) _ w (by omega) ⟨j+1,m',sm',?_,by omega,hm,?_,?_⟩
  ·rw[wr (by omega) (by omega)];simp
  ·rw[ed,List.erase_cons_head]at hb;exact hb
  ·have h:=ZL (yO (yO h));exact h
 ·have e:j=p.reqs.length:=by omega
  subst e;rw[List.drop_length]at hb
  (refine nn ?_;refine stC h ?_;clear h;intro w h;dsimp only[zJ,zd]at h)
  refine⟨(v2,0,()),rfl,hk v2 _ s2 w ⟨⟨by simp,by simp,by simp,by simp⟩,r,m,sm,hm,hb,rfl⟩ hr2 ?_⟩;have h:=ZL (ZL h);exact St.back (i+1) (E:=s2::E) hi h.glue
structure Zg where
 id:Int
 rev:B0
 pod:YZ
structure ze where
 room:Int
 last:Int
 l:List Zg
structure ze.Ok(f:ze):Prop where
 pw:f.l.Pairwise (λx y=>x.id<y.id)
 rng:∀x∈f.l,0<x.id∧x.id≤f.last
 live:∀x∈f.l,x.pod.st=1∨x.pod.st=2∨x.pod.st=3
 once:f.l.Pairwise (λx y=>∀q∈x.pod.reqs,q∉y.pod.reqs)
 few:f.l.length<100000000
 lo:0≤f.last
 hi:f.last<4611686018427387904
abbrev Tr:=Zg×Nat×Seg
abbrev trS(t:Tr):Seg:=t.2.2
def ent(t:Tr):Int×(B0×Option Addr):=(t.1.id,t.1.rev,some ⟨t.2.1,0,none⟩)
def Xd(l:List Zg)(id:Int):Option Zg:=l.find? λx=>decide (x.id=id)
def Zu(l:List Zg)(q:Int):Option Zg:=l.find? λx=>decide (q∈x.pod.reqs)
structure FlR(F:ze)(L:List Tr)(mA:List (Int×(B0×Option Addr)))(mW:List (Int×Int)):Prop where
 l:F.l=L.map (·.1)
 ps:∀t∈L,kq t.2.1 t.1.pod t.2.2
 all:mA.Perm (L.map ent)
 wth:∀q,zr mW q=(Zu F.l q).map (·.id)
abbrev flB(b:Nat)(rA rW:Nat)(F:ze):Seg:=[Cl b MY [.map (some rA),.map (some rW),I F.room,I F.last]]
def FlS(b:Nat)(F:ze)(s:Seg):Prop:=F.Ok∧∃rA rW mA mW sA sW L,MpS KI Be rA mA sA∧MpS KI KI rW mW sW∧FlR F L mA mW∧s=flB b rA rW F++(sA++(sW++(L.map trS).flatten))
def FlR.ids{F:ze}{L:List Tr}{mA mW}(hr:FlR F L mA mW)(ok:F.Ok):L.Pairwise (λx y=>x.1.id<y.1.id):=by
 have:=ok.pw;rw[hr.l,List.pairwise_map]at this;exact this
def FlR.keys{F:ze}{L:List Tr}{mA mW}(hr:FlR F L mA mW)(ok:F.Ok):Oi (mA.map (·.1))=L.map (·.1.id):=by
 refine RM ?_ ?_
 ·have:=hr.all.map (·.1);rw[List.map_map]at this;exact this
 ·rw[List.pairwise_map];exact(hr.ids ok).imp λh=>by omega
def FlR.len{F:ze}{L:List Tr}{mA mW}(hr:FlR F L mA mW):mA.length=F.l.length:=by rw[hr.all.length_eq,hr.l];simp
def FlR.nd{F:ze}{L:List Tr}{mA mW}(hr:FlR F L mA mW)(ok:F.Ok):(mA.map (·.1)).Nodup:=by
 have:=hr.all.map (·.1);rw[List.map_map]at this;rw[this.nodup_iff];have h:=(hr.ids ok).imp (S:=λx y=>x.1.id≠y.1.id) λh=>by omega
 exact List.pairwise_map.2 h
def FlR.get{F:ze}{L:List Tr}{mA mW}(hr:FlR F L mA mW)(ok:F.Ok){t:Tr}(ht:t∈L):zr mA t.1.id=some (t.1.rev,some ⟨t.2.1,0,none⟩):=
 VL (hr.nd ok) (hr.all.mem_iff.2 (List.mem_map_of_mem (f:=ent) ht))
def FlR.get0{F:ze}{L:List Tr}{mA mW}(hr:FlR F L mA mW){id:Int}(h:Xd F.l id=none):zr mA id=none:=by
 refine YE.2 λhm=>?_;have:=(hr.all.map (·.1)).mem_iff.1 hm;rw[List.map_map]at this;obtain⟨t,ht,e⟩:=List.mem_map.1 this;have e:t.1.id=id:=e;have h2:=List.find?_eq_none.1 h t.1 (by rw[hr.l];exact List.mem_map_of_mem (f:=(·.1)) ht);simp[e]at h2
def FlR.at{F:ze}{L:List Tr}{mA mW}(hr:FlR F L mA mW){id:Int}{x:Zg}(h:Xd F.l id=some x):∃A t B,L=A++t::B∧t.1=x∧x.id=id:=by
 have h1:=List.mem_of_find?_eq_some h;have h2:=List.find?_some h;rw[hr.l]at h1;obtain⟨t,ht,rfl⟩:=List.mem_map.1 h1;obtain⟨A,B,e⟩:=List.append_of_mem ht;exact⟨A,t,B,e,rfl,by simpa using h2⟩
def z3B(h:St w0 E w){room:Int}{k:Option Addr→PT}(hk:∀b s w',FlS b ⟨room,0,[]⟩ s→St w0 (s::E) w'→k (some ⟨b,0,none⟩) w'):L.call Pr FE [I room] (.one (.one .ptr)) k w:=by
 refine za (bY _) ?_;unfold dq;refine MpS.new h KI Be λr1 s1 w hm1 h=>?_;refine MpS.new h KI KI λr2 s2 w hm2 h=>?_;refine nw h ?_;clear h;intro b w h;refine⟨_,rfl,hk b _ w ⟨⟨by simp,by simp,by simp,by simp,by simp,by simp,by simp⟩,r1,r2,[],[],s1,s2,[],hm1,hm2,⟨rfl,by simp,.refl _,λq=>rfl⟩,rfl⟩ ?_⟩;have h:=ZL (ZL (yO h));exact h.eq (by simp)
def fOf(l:List Zg)(id:Int):B0:=((Xd l id).map (·.rev)).getD s_
def z5B(h:St w0 E w)(i:Nat){b:Nat}{F:ze}{s:Seg}(hi:nth E i=some s)(hf:FlS b F s){id:Int}{k:B0→PT}(hk:k (fOf F.l id) w):L.call Pr Vb [pO b,I id] (.one (.one .str)) k w:=by
 obtain⟨ok,rA,rW,mA,mW,sA,sW,L,hA,hW,hr,rfl⟩:=hf;refine za (Co _ _) ?_;unfold gY;have h:St w0 (flB b rA rW F::sA::sW::(L.map trS).flatten::Zv E i) w:=(h.front i hi).eq (by simp)
 (refine nn ?_;refine ldC h ?_)
 refine MpS.get mkI xz zo (λx:B0×Option Addr=>(x.1,x.2,())) (λ_=>rfl) h 1 rfl hA ⟨_,rfl,?_⟩;unfold fOf at hk
 cases hfd:Xd F.l id with
 | none=>rw[hfd]at hk;rw[hr.get0 hfd];exact hk
 | some x=>
  obtain⟨A,t,B,hL,rfl,hid⟩:=hr.at hfd;have hg:=hr.get ok (t:=t) (by rw[hL];simp);rw[hid]at hg;rw[hfd]at hk;rw[hg];exact hk
def z1r(h:St w0 E w){p:Option Addr}{rev:B0}{k:FV→PT}(hk:∀c0 c1 w',St w0 ([Cl c1 zc [.string rev]]::[Cl c0 ZO [.pointer p]]::E) w'→
  k ⟨.func xf,#[],#[.pointer (some ⟨c0,0,none⟩),.pointer (some ⟨c1,0,none⟩)]⟩ w'):L.call Pr JS [.pointer p,.string rev] (.one (.one .func)) k w:=by
 refine za (Cm _ _) ?_;unfold gW;refine nw h ?_;clear h;intro c0 w h;refine nw h ?_;clear h;intro c1 w h;exact⟨_,rfl,hk c0 c1 w h⟩
def iY(l:List Tr)(m:Nat):TT [.one (.int .i64),.one .ptr]:=match l[m]? with
 | some t=>(t.1.id,some ⟨t.2.1,0,none⟩,())
 | none=>(0,none,())
abbrev qz(rev:B0)(t:Tr):Bool:=decide (t.1.rev=rev)
def z0X{c0 c1 b rA rW:Nat}{F:ze}{L:List Tr}{mA mW}{sA:Seg}{rev:B0}(ok:F.Ok)(hA:MpS KI Be rA mA sA)(hr:FlR F L mA mW) :
  wb Pr w0 [[Cl c1 zc [.string rev]],[Cl c0 ZO [.pointer (some ⟨b,0,none⟩)]],flB b rA rW F,sA]
   (.func (.func xf) #[] #[.pointer (some ⟨c0,0,none⟩),.pointer (some ⟨c1,0,none⟩)]) (L.filter (qz rev)).length λm=>TV _ (iY (L.filter (qz rev)) m):=by
 intro yv R J Jd G w h hJ step fin fin2;have hll:L.length=F.l.length:=by rw[hr.l];simp
 have hfew:=ok.few;refine⟨Pj,Pz yv ⟨c0,0,none⟩ ⟨c1,0,none⟩ ?_⟩;unfold oE;have h:St w0 ([Cl c1 zc [.string rev]]::[Cl c0 ZO [.pointer (some ⟨b,0,none⟩)]]::flB b rA rW F::sA::G) w:=h
 (refine ldC h ?_;refine nn ?_;refine ldC h ?_)
 refine z5L h 3 rfl hA (by rw[hr.len];omega) λv s w hrow h=>?_;rw[hr.keys ok]at hrow;have hlen:=Rw.len Yy hrow;rw[List.length_map]at hlen
 refine zT (λq y w=>∃(j:Nat)(G:List Seg),@Eq Int y.1 j∧q+j=L.length∧J ((L.take j).filter (qz rev)).length G∧
  St w0 (s::[Cl c1 zc [.string rev]]::[Cl c0 ZO [.pointer (some ⟨b,0,none⟩)]]::flB b rA rW F::sA::G) w) L.length ⟨0,G,rfl,rfl,hJ,h⟩ ?_
 clear hJ;clear h;rintro q ⟨y,⟨⟩⟩ w ⟨j,G,hy,hq,hJ,h⟩ again hag;simp only at hy;subst hy;refine it (λhb=>?_) (λhb=>?_)<;>(try simp only[zB]at hb)
 ·have hj:j<L.length:=by omega
  have hx:L[j]? = some L[j]:=List.getElem?_eq_getElem hj;have hft:=WR (p:=qz rev) hx;refine Zz (λz w=>∃G,J ((L.take (j+1)).filter (qz rev)).length G∧St w0 (s::[Cl c1 zc [.string rev]]::[Cl c0 ZO [.pointer (some ⟨b,0,none⟩)]]::flB b rA rW F::sA::G) w) (λk8 hk8=>?_) (λz w ⟨G,hJ,h⟩=>?_)
  ·refine Rw.ix Yy hrow (by omega) (by simpa using hj) λa ha=>?_;refine Rw.ld0 Yy h 0 rfl hrow ha (x:=L[j].1.id) (by simp[hj]) rfl rfl ?_
   (refine ldC h ?_;refine nn ?_;refine ldC h ?_)
   refine MpS.get mkI xz zo (λx:B0×Option Addr=>(x.1,x.2,())) (λ_=>rfl) h 4 rfl hA ?_;rw[hr.get ok (List.getElem_mem hj)];simp only[Option.map_some,Option.getD_some];refine nw h ?_;clear h;intro b16 w h
   (refine stC h ?_;clear h;intro w h;dsimp only[zJ,zd]at h;refine ldC h ?_;refine ldC h ?_)
   rw[JW];refine it (λhc=>?_) (λhc=>?_)<;>(try simp only[zB]at hc)
   ·(refine ldC h ?_)
    have h:=zm h;have hp:qz rev L[j]=true:=decide_eq_true hc;rw[if_pos hp]at hft;rw[hft]at hk8;have hat:=AL (p:=qz rev) hx hp;have ea:TV _ (iY (L.filter (qz rev)) ((L.take j).filter (qz rev)).length) = [I L[j].1.id,.pointer (some ⟨L[j].2.1,0,none⟩)]:=by simp only[iY,hat];rfl
    have hlt:((L.take j).filter (qz rev)).length<(L.filter (qz rev)).length:=by
     rcases Nat.lt_or_ge ((L.take j).filter (qz rev)).length (L.filter (qz rev)).length with h | h
     ·exact h
     ·rw[List.getElem?_eq_none h]at hat;cases hat
    have step:=step _ G [s] w hlt hJ (St.toEnd (X:=[s]) (A:=[_,_,_,_]) h);simp only[ea]at step;refine cv (Jw.mono step λu w' hu=>?_);rcases hu with ⟨rfl,G',h,hJ⟩ | ⟨rfl,hd⟩
    ·exact⟨true,rfl,itF rfl (hk8 () w' ⟨G',hJ,St.ofEnd (X:=[s]) (A:=[_,_,_,_]) h⟩)⟩
    ·exact⟨false,rfl,itT rfl (fin2 w' hd)⟩
   ·have h:=zm h;have hp:¬qz rev L[j]=true:=λe=>hc (of_decide_eq_true e);rw[if_neg hp]at hft;rw[Nat.add_zero]at hft;rw[hft]at hk8;exact hk8 () w ⟨G,hJ,h⟩
  ·refine hag (q-1) _ w (by omega) ⟨j+1,G,?_,by omega,hJ,h⟩;show Wi _=_;rw[wr (by omega) (by omega)];omega
 ·have e:j=L.length:=by omega
  subst e;rw[List.take_length]at hJ;exact fin G w hJ (zm h)
end Go.Proofs.YtimahgbgejngiaaGreatDoor
