/- What is proved on the way to a statement of the seat, pressed (text AI). No conditions beyond those its theorems state. -/
import Derived.Test.YtdcdhcgmeahfmaaGreatDoorDAH
import Derived.Shelf.Strconv.Atoi
import Derived.Shelf.Strconv.Itoa3
import Derived.Shelf.Strings.LastIndex
import Derived.Lib.LaidTab
import Derived.Lib.Join
import Derived.Lib.ItoaNum
import Derived.Lib.ItoaMem
import Derived.Below
import Derived.Shelf.Strings.OnBuilder
import Derived.Shelf.Slices.CompactS
import Derived.Lib.RowBridge
set_option linter.all false
namespace Go.Dm
theorem zB:(∀(p:Prop)[Decidable p],(decide p=true)=p)∧(∀(p:Prop)[Decidable p],(decide p=false) = ¬p)∧(∀{α:Type}[BEq α][LawfulBEq α](a b:α),((a == b)=true)=(a=b))∧(∀{α:Type}[BEq α][LawfulBEq α](a b:α),((a != b)=true) = ¬(a=b))∧(∀{α:Type}[BEq α][LawfulBEq α](a b:α),((a == b)=false) = ¬(a=b))∧(∀{α:Type}[BEq α][LawfulBEq α](a b:α),((a != b)=false)=(a=b))∧
 (∀b:Bool,((!b)=true)=(b=false))∧(∀b:Bool,((!b)=false)=(b=true))∧(∀b:Bool,(¬(b=true))=(b=false))∧(∀b:Bool,(¬(b=false))=(b=true))∧(∀{α:Type}(a b:α),(a≠b) = ¬(a=b)):=by
 refine⟨?_,?_,?_,?_,?_,?_,?_,?_,?_,?_,?_⟩<;>intros<;>simp
end Go.Dm
namespace Go.Proofs.YtdcdhcgmeahfmaaGreatDoor
open Go.Dm
variable {w0 w:World}{E:List Seg}
abbrev I(n:Int):Value:=.int .i64 n
theorem wr{n:Int}(h1: -9223372036854775808≤n)(h2:n<9223372036854775808):IntKind.wrap .i64 n=n:=by rw[IntKind.wrap_i64];omega
theorem elI:El Pr z1b z0h 1 8 (I 0):=zem (by kernel_rfl) (by kernel_rfl) rfl (by decide)
def eI(n:Int):List Value:=[I n]
theorem encI:Enc eI 1:=⟨fun _=>rfl,fun _=>rfl,by decide⟩
theorem oldI{v:Sl}{l:List Int}(o:Old w0 eI v l)(h:St w0 E w){n:Int}{kk:Int→PT}(h0:0≤n)(h1:n<v.len)(hk:∀x,l[n.toNat]? = some x→kk x w):L.idx v.a n v.len 1 (fun a=>L.load (.one (.int .i64)) a kk) w:=
 old1 o encI h (lf:=.int .i64) (fun x=>x) (fun x=>⟨_,rfl,rfl⟩) h0 h1 hk
theorem fl_I(l:List Int):fl eI l=l.map I:=by
 induction l with
 | nil=>rfl
 | cons x l ih=>simp only[fl,List.flatMap_cons,List.map_cons]at *;rw[ih];rfl
theorem zp3{W:World}{v:Sl}{l:List Int}(h1:v.len=l.length)(h2:∀i x,l[i]? = some x→∃a,v.a=some a∧W.cell? (a.add i)=some (I x)):Old W eI v l:=by
 refine⟨⟨h1,fun j u hj=>?_⟩⟩
 rw[fl_I,z0g,List.getElem?_map]at hj
 cases hx:l[j]? with
 | none=>rw[hx]at hj;cases hj
 | some x=>rw[hx]at hj;cases hj;exact h2 j x hx
theorem zjV(p0 p1:Int)(h:0<p1):Int.tmod p0 p1=if 0≤p0∨p1∣p0 then p0%p1 else p0%p1-p1:=by
 rw[Int.tmod_eq_emod]
 split
 ·simp
 ·omega
end Go.Proofs.YtdcdhcgmeahfmaaGreatDoor
namespace Go.Proofs.YtdcdhcgmeahfmaaGreatDoor
open Go.Dm
attribute [local irreducible] L.load L.store L.chk L.new L.nonnil L.guard L.ite L.draw L.idx L.sem L.semR L.semU L.chkSem L.next L.call L.callV L.join L.alts L.loop L.begin L.endRound L.range
variable {w0 w:World}{E:List Seg}
def letterB(b:UInt8):Bool:=decide (97≤b.toNat∧b.toNat≤122)
def signB(b:UInt8):Bool:=letterB b||decide (48≤b.toNat∧b.toNat≤57)||decide (b.toNat=45)
def shortB(l:List UInt8)(most:Int):Bool:=l.all signB&&(l.head?.map letterB).getD false&&(match l.getLast? with | some b=>decide (b.toNat≠45) | none=>false)&&decide ((l.length:Int)≤most)
abbrev J(n:Int):Value:=.int .i32 n
theorem zlx{c:Int}{k:Bool→PT}(hk:k (decide (97≤c∧c≤122)) w):L.call Pr z6G [J c] (.one (.one .bool)) k w:=by
 refine z01 (zgq _) ?_
 unfold zbH
 refine it (fun h=>?_) (fun h=>?_)<;>(try simp only[zB]at h)
 ·refine⟨_,rfl,?_⟩
  have e:decide (97≤c∧c≤122)=decide (c≤122):=by by_cases h2:c≤122<;>simp[h2];omega
  rw[e]at hk;exact hk
 ·refine⟨false,rfl,?_⟩
  have e:decide (97≤c∧c≤122)=false:=decide_eq_false (by omega)
  rw[e]at hk;exact hk
theorem zqf{c:Int}{k:Bool→PT}(hk:k (decide (97≤c∧c≤122)||decide (48≤c∧c≤57)||decide (c=45)) w):L.call Pr zas [J c] (.one (.one .bool)) k w:=by
 refine z01 (zjM _) ?_
 unfold zed
 refine zlx ?_
 refine it (fun h=>?_) (fun h=>?_)<;>(try simp only[zB]at h)
 ·refine⟨true,rfl,?_⟩
  rw[decide_eq_true h]at hk;exact hk
 ·rw[decide_eq_false h,Bool.false_or]at hk
  have e45:(c == 45)=decide (c=45):=by by_cases h:c=45<;>simp[h]
  refine it (fun h1=>?_) (fun h1=>?_)<;>(try simp only[zB]at h1)
  ·refine it (fun h2=>?_) (fun h2=>?_)<;>(try simp only[zB]at h2)
   ·refine⟨true,rfl,?_⟩
    rw[decide_eq_true ⟨by omega,h2⟩]at hk;exact hk
   ·refine⟨_,rfl,?_⟩
    rw[decide_eq_false (fun hh=>h2 hh.2),Bool.false_or]at hk
    rw[e45];exact hk
  ·refine⟨_,rfl,?_⟩
   rw[decide_eq_false (fun hh=>by omega),Bool.false_or]at hk
   rw[e45];exact hk
theorem zoE(b:UInt8):(decide (97≤(b.toNat:Int)∧(b.toNat:Int)≤122)||decide (48≤(b.toNat:Int)∧(b.toNat:Int)≤57)||decide ((b.toNat:Int)=45))=signB b:=by
 unfold signB letterB
 congr 1
 ·congr 1<;>(apply decide_eq_decide.2;omega)
 ·apply decide_eq_decide.2;omega
theorem zrP{s:ByteArray}{pos:Nat}(hp:pos<s.size):s.data.toList[pos]? = some (s[pos]'hp):=by
 have:pos<s.data.toList.length:=by simpa using hp
 rw[List.getElem?_eq_getElem this]
 simp[ByteArray.getElem_eq_getElem_data]
theorem zoa(h:St w0 E w)(und:Pr.underlying z00=some .string){s:ByteArray}{most:Int}{k:Bool→PT}(hk:∀w',St w0 E w'→k (shortB s.data.toList most) w'):L.call Pr z7u [.string s,I most] (.one (.one .bool)) k w:=by
 refine z01 (zi4 _ _) ?_
 unfold zcW
 refine rangeStr und h fun r w h=>?_
 have hsz:s.data.toList.length=s.size:=by simp
 generalize hl:s.data.toList=l at hk hsz
 refine z0u (fun q y w=>∃pos:Nat,y=((if pos=0 then(45:Int)else((l[pos-1]?).map fun b=>(b.toNat:Int)).getD 0),())∧q+pos=s.size∧(l.take pos).all signB=true∧(0<pos→(l.head?.map letterB).getD false=true)∧St w0 (ItS r s pos::E) w) s.size
  ⟨0,rfl,rfl,rfl,by simp,h⟩ ?_
 clear h;(try clear w)
 rintro q y w ⟨pos,rfl,hq,hall,hhd,h⟩ again hag
 dsimp only
 have no:∀{w},shortB l most=false→St w0 E w→∃x,Value.bool false=RT.val (.one (.one .bool)) x∧k x w:=fun hs h=>⟨false,rfl,by have:=hk _ h;rw[hs]at this;exact this⟩
 refine nextStr h 0 rfl (fun he=>?_) (fun hp c d w' ha hh hd h=>?_)
 ·have hpos:pos=l.length:=by omega
  subst hpos
  rw[List.take_length]at hall
  replace h:=dl0_ h
  cases hgl:l.getLast? with
  | none=>
   have:l = []:=List.getLast?_eq_none_iff.1 hgl
   have hs:shortB l most=false:=by rw[this];rfl
   rw[if_pos (by rw[this];rfl)]
   exact itF rfl (no hs h)
  | some b=>
   have hne:l≠[]:=fun e=>by subst e;cases hgl
   have hlen:l.length≠0:=fun e=>hne (List.eq_nil_of_length_eq_zero e)
   have hx:l[l.length-1]? = some b:=by rw[←List.getLast?_eq_getElem?];exact hgl
   rw[if_neg hlen,hx]
   have hsb:shortB l most=(decide (b.toNat≠45)&&decide ((l.length:Int)≤most)):=by
    unfold shortB;rw[hall,hhd (by omega),hgl];simp
   simp only[Option.map_some,Option.getD_some]
   refine it (fun h45=>?_) (fun h45=>?_)<;>(try simp only[zB]at h45)
   ·refine⟨_,rfl,?_⟩
    have:=hk _ h
    rw[hsb,decide_eq_true (show b.toNat≠45 by omega),Bool.true_and,hsz]at this
    exact this
   ·refine no ?_ h
    rw[hsb,decide_eq_false (show ¬b.toNat≠45 by omega)];rfl
 ·have hx:l[pos]? = some (s[pos]'hp):=by rw[←hl];exact zrP hp
  generalize s[pos]'hp=b at hx ha hh
  have hmem:b∈l:=List.mem_of_getElem? hx
  have hno:signB b=false→shortB l most=false:=fun hs=>by
   unfold shortB
   have:l.all signB=false:=by
    rw[List.all_eq_false];exact⟨b,hmem,by simp[hs]⟩
   rw[this];rfl
  by_cases hb:b.toNat<128
  ·obtain⟨rfl,rfl⟩:=ha hb
   have h:St w0 (ItS r s (pos+1)::E) w':=h
   refine z1h (fun z w=>(0<pos+1→(l.head?.map letterB).getD false=true)∧signB b=true∧St w0 (ItS r s (pos+1)::E) w) (fun k5 hk5=>?_) (fun z w ⟨hhd,hs,h⟩=>?_)
   ·refine zqf ?_
    rw[zoE]
    refine it (fun hs=>?_) (fun hs=>?_)
    ·exact no (hno (by simpa using hs)) (dl0_ h)
    ·have hs:signB b=true:=by simpa using hs
     refine it (fun h0=>?_) (fun h0=>?_)
     ·have h0:pos=0:=by simpa using h0
      subst h0
      have hhead:l.head? = some b:=by rw[List.head?_eq_getElem?];exact hx
      have el:decide (97≤(b.toNat:Int)∧(b.toNat:Int)≤122)=letterB b:=by unfold letterB;apply decide_eq_decide.2;omega
      refine zlx ?_
      rw[el]
      refine it (fun hlt=>?_) (fun hlt=>?_)
      ·refine no ?_ (dl0_ h)
       have hlt:letterB b=false:=by simpa using hlt
       unfold shortB;rw[hhead];simp[hlt]
      ·have hlt:letterB b=true:=by simpa using hlt
       exact hk5 _ _ ⟨fun _=>by rw[hhead];exact hlt,hs,h⟩
     ·have h0:pos≠0:=by simpa using h0
      exact hk5 _ _ ⟨fun _=>hhd (by omega),hs,h⟩
   ·refine hag (q-1) _ w (by omega) ⟨pos+1,?_,by omega,?_,hhd,h⟩
    ·rw[if_neg (by omega),Nat.add_sub_cancel,hx];rfl
    ·rw[List.take_add_one,hx,List.all_append,hall];simp[hs]
  ·have hc:=hh (by omega)
   have hs:signB b=false:=by
    unfold signB letterB
    rw[decide_eq_false (show ¬(97≤b.toNat∧b.toNat≤122)by omega),decide_eq_false (show ¬(48≤b.toNat∧b.toNat≤57)by omega),decide_eq_false (show ¬b.toNat=45 by omega)];rfl
   refine z1h (fun z w=>False) (fun k5 hk5=>?_) (fun z w hf=>hf.elim)
   refine zqf ?_
   rw[decide_eq_false (show ¬(97≤c∧c≤122)by omega),decide_eq_false (show ¬(48≤c∧c≤57)by omega),decide_eq_false (show ¬c=45 by omega)]
   exact itT rfl (no (hno hs) (dl0_ h))
theorem zjw(h:St w0 E w)(und:Pr.underlying z00=some .string){s:ByteArray}{k:Bool→PT}(hk:∀w',St w0 E w'→k (shortB s.data.toList 16) w'):L.call Pr z4D [.string s] (.one (.one .bool)) k w:=by
 refine z01 (zjN _) ?_
 unfold zee
 exact zoa h und fun w h=>⟨_,rfl,hk w h⟩
end Go.Proofs.YtdcdhcgmeahfmaaGreatDoor

namespace Go.Proofs
open Go.Shelf
def Tryz.lays172_ren:Go.Shelf.Ren:=⟨fun | 172=>211 | 244=>270 | 245=>271 | 247=>305 | 279=>306 | 280=>307 | 281=>308 | 282=>309 | 287=>320 | 316=>321 | 171=>71 | 205=>322 | 321=>336 | 322=>337 | 243=>138 | 246=>216 | 283=>273 | 284=>274 | 285=>275 | 286=>276 | 129=>257 | 317=>310 | 318=>311 | 319=>312 | 320=>313 | 337=>323 | 338=>324 | n=>n,fun | 9=>9 | 3=>3 | 75=>233 | 76=>234 | 4=>4 | 5=>5 | 167=>427 | 37=>80 | 0=>0 | 85=>428 | 2=>2 | 168=>430 | 53=>384 | 175=>441 | 46=>312 | 210=>445 | 127=>350 | 145=>457 | 143=>455 | 21=>21 | 171=>397 | 173=>399 | 212=>434 | 51=>382 | 20=>20 | 213=>435 | 232=>458 | 233=>459 | 80=>68 | n=>n,fun | 15=>2 | 16=>3 | 17=>1 | 18=>4 | 19=>5 | n=>n⟩
theorem Tryz.lays172:Go.Proofs.Lays.n172 Tryz.prog Tryz.lays172_ren:={
 mixed:=by kernel_rfl
 f129:=Tryz.func257.trans (congrArg some (by kernel_rfl))
 f171:=Tryz.func71.trans (congrArg some (by kernel_rfl))
 f172:=Tryz.func211.trans (congrArg some (by kernel_rfl))
 f205:=Tryz.func322.trans (congrArg some (by kernel_rfl))
 f243:=Tryz.func138.trans (congrArg some (by kernel_rfl))
 f244:=Tryz.func270.trans (congrArg some (by kernel_rfl))
 f245:=Tryz.func271.trans (congrArg some (by kernel_rfl))
 f246:=Tryz.func216.trans (congrArg some (by kernel_rfl))
 f247:=Tryz.func305.trans (congrArg some (by kernel_rfl))
 f279:=Tryz.func306.trans (congrArg some (by kernel_rfl))
 f280:=Tryz.func307.trans (congrArg some (by kernel_rfl))
 f281:=Tryz.func308.trans (congrArg some (by kernel_rfl))
 f282:=Tryz.func309.trans (congrArg some (by kernel_rfl))
 f283:=Tryz.func273.trans (congrArg some (by kernel_rfl))
 f284:=Tryz.func274.trans (congrArg some (by kernel_rfl))
 f285:=Tryz.func275.trans (congrArg some (by kernel_rfl))
 f286:=Tryz.func276.trans (congrArg some (by kernel_rfl))
 f287:=Tryz.func320.trans (congrArg some (by kernel_rfl))
 f316:=Tryz.func321.trans (congrArg some (by kernel_rfl))
 f317:=Tryz.func310.trans (congrArg some (by kernel_rfl))
 f318:=Tryz.func311.trans (congrArg some (by kernel_rfl))
 f319:=Tryz.func312.trans (congrArg some (by kernel_rfl))
 f320:=Tryz.func313.trans (congrArg some (by kernel_rfl))
 f321:=Tryz.func336.trans (congrArg some (by kernel_rfl))
 f322:=Tryz.func337.trans (congrArg some (by kernel_rfl))
 f337:=Tryz.func323.trans (congrArg some (by kernel_rfl))
 f338:=Tryz.func324.trans (congrArg some (by kernel_rfl))
 t0:=Tryz.underlying0
 a0:=Tryz.isAgg0
 z0:=Tryz.sizeOf0
 v0:=Tryz.zeroValue0
 t2:=Tryz.underlying2
 a2:=Tryz.isAgg2
 z2:=Tryz.sizeOf2
 v2:=Tryz.zeroValue2
 t3:=Tryz.underlying3
 a3:=Tryz.isAgg3
 z3:=Tryz.sizeOf3
 v3:=Tryz.zeroValue3
 t4:=Tryz.underlying4
 a4:=Tryz.isAgg4
 z4:=Tryz.sizeOf4
 v4:=Tryz.zeroValue4
 t5:=Tryz.underlying5
 a5:=Tryz.isAgg5
 z5:=Tryz.sizeOf5
 v5:=Tryz.zeroValue5
 t9:=Tryz.underlying9
 a9:=Tryz.isAgg9
 z9:=Tryz.sizeOf9
 v9:=Tryz.zeroValue9
 t20:=Tryz.underlying20
 a20:=Tryz.isAgg20
 z20:=Tryz.sizeOf20
 v20:=Tryz.zeroValue20
 t21:=Tryz.underlying21
 a21:=Tryz.isAgg21
 z21:=Tryz.sizeOf21
 v21:=Tryz.zeroValue21
 t37:=Tryz.underlying80
 a37:=Tryz.isAgg80
 z37:=Tryz.sizeOf80
 v37:=Tryz.zeroValue80
 t46:=Tryz.underlying312
 a46:=Tryz.isAgg312
 z46:=Tryz.sizeOf312
 v46:=Tryz.zeroValue312
 t51:=Tryz.underlying382
 a51:=Tryz.isAgg382
 z51:=Tryz.sizeOf382
 v51:=Tryz.zeroValue382
 t53:=Tryz.underlying384
 a53:=Tryz.isAgg384
 z53:=Tryz.sizeOf384
 v53:=Tryz.zeroValue384
 t75:=Tryz.underlying233
 a75:=Tryz.isAgg233
 z75:=Tryz.sizeOf233
 v75:=Tryz.zeroValue233
 t76:=Tryz.underlying234
 a76:=Tryz.isAgg234
 z76:=Tryz.sizeOf234
 v76:=Tryz.zeroValue234
 t85:=Tryz.underlying428
 a85:=Tryz.isAgg428
 z85:=Tryz.sizeOf428
 v85:=Tryz.zeroValue428
 t127:=Tryz.underlying350
 a127:=Tryz.isAgg350
 z127:=Tryz.sizeOf350
 v127:=Tryz.zeroValue350
 t143:=Tryz.underlying455
 a143:=Tryz.isAgg455
 z143:=Tryz.sizeOf455
 v143:=Tryz.zeroValue455
 t145:=Tryz.underlying457
 a145:=Tryz.isAgg457
 z145:=Tryz.sizeOf457
 v145:=Tryz.zeroValue457
 t167:=Tryz.underlying427
 a167:=Tryz.isAgg427
 z167:=Tryz.sizeOf427
 v167:=Tryz.zeroValue427
 t168:=Tryz.underlying430
 a168:=Tryz.isAgg430
 z168:=Tryz.sizeOf430
 v168:=Tryz.zeroValue430
 t171:=Tryz.underlying397
 a171:=Tryz.isAgg397
 z171:=Tryz.sizeOf397
 v171:=Tryz.zeroValue397
 t173:=Tryz.underlying399
 a173:=Tryz.isAgg399
 z173:=Tryz.sizeOf399
 v173:=Tryz.zeroValue399
 t175:=Tryz.underlying441
 a175:=Tryz.isAgg441
 z175:=Tryz.sizeOf441
 v175:=Tryz.zeroValue441
 t210:=Tryz.underlying445
 a210:=Tryz.isAgg445
 z210:=Tryz.sizeOf445
 v210:=Tryz.zeroValue445
 t212:=Tryz.underlying434
 a212:=Tryz.isAgg434
 z212:=Tryz.sizeOf434
 v212:=Tryz.zeroValue434
 t213:=Tryz.underlying435
 a213:=Tryz.isAgg435
 z213:=Tryz.sizeOf435
 t232:=Tryz.underlying458
 a232:=Tryz.isAgg458
 z232:=Tryz.sizeOf458
 v232:=Tryz.zeroValue458
 t233:=Tryz.underlying459
 a233:=Tryz.isAgg459
 z233:=Tryz.sizeOf459
 v233:=Tryz.zeroValue459
 g15:=by kernel_rfl
 g16:=by kernel_rfl
 g17:=by kernel_rfl
 g18:=by kernel_rfl
 g19:=by kernel_rfl }
open Go.RowKit in
theorem Tryz.strconv_Atoi(s:ByteArray)(n:Int)(hl:s.size≤18)(h:Lib.atoi s.data.toList=some n)(w:World) :
  Calls Tryz.prog 211 #[.string s] w fun e w'=>e = .returned (.tuple #[.int .i64 n,.nilIface])∧∃t,w'=Lib.bytesWorld w 5 t:=Any.strconv_Atoi Tryz.lays172 s n hl h w
def Tryz.lays171_ren:Go.Shelf.Ren:=⟨fun | 171=>71 | 243=>138 | 246=>216 | 283=>273 | 284=>274 | 285=>275 | 286=>276 | 129=>257 | 317=>310 | 318=>311 | 319=>312 | 320=>313 | 337=>323 | 338=>324 | n=>n,fun | 3=>3 | 9=>9 | 2=>2 | 4=>4 | 171=>397 | 0=>0 | 53=>384 | 37=>80 | 5=>5 | 173=>399 | 212=>434 | 51=>382 | 20=>20 | 213=>435 | 46=>312 | 232=>458 | 233=>459 | n=>n,fun | 17=>1 | 18=>4 | 19=>5 | n=>n⟩
theorem Tryz.lays171:Go.Proofs.Lays.n171 Tryz.prog Tryz.lays171_ren:={
 mixed:=by kernel_rfl
 f129:=Tryz.func257.trans (congrArg some (by kernel_rfl))
 f171:=Tryz.func71.trans (congrArg some (by kernel_rfl))
 f243:=Tryz.func138.trans (congrArg some (by kernel_rfl))
 f246:=Tryz.func216.trans (congrArg some (by kernel_rfl))
 f283:=Tryz.func273.trans (congrArg some (by kernel_rfl))
 f284:=Tryz.func274.trans (congrArg some (by kernel_rfl))
 f285:=Tryz.func275.trans (congrArg some (by kernel_rfl))
 f286:=Tryz.func276.trans (congrArg some (by kernel_rfl))
 f317:=Tryz.func310.trans (congrArg some (by kernel_rfl))
 f318:=Tryz.func311.trans (congrArg some (by kernel_rfl))
 f319:=Tryz.func312.trans (congrArg some (by kernel_rfl))
 f320:=Tryz.func313.trans (congrArg some (by kernel_rfl))
 f337:=Tryz.func323.trans (congrArg some (by kernel_rfl))
 f338:=Tryz.func324.trans (congrArg some (by kernel_rfl))
 t0:=Tryz.underlying0
 a0:=Tryz.isAgg0
 z0:=Tryz.sizeOf0
 v0:=Tryz.zeroValue0
 t2:=Tryz.underlying2
 a2:=Tryz.isAgg2
 z2:=Tryz.sizeOf2
 v2:=Tryz.zeroValue2
 t3:=Tryz.underlying3
 a3:=Tryz.isAgg3
 z3:=Tryz.sizeOf3
 v3:=Tryz.zeroValue3
 t4:=Tryz.underlying4
 a4:=Tryz.isAgg4
 z4:=Tryz.sizeOf4
 v4:=Tryz.zeroValue4
 t5:=Tryz.underlying5
 a5:=Tryz.isAgg5
 z5:=Tryz.sizeOf5
 v5:=Tryz.zeroValue5
 t9:=Tryz.underlying9
 a9:=Tryz.isAgg9
 z9:=Tryz.sizeOf9
 v9:=Tryz.zeroValue9
 t20:=Tryz.underlying20
 a20:=Tryz.isAgg20
 z20:=Tryz.sizeOf20
 v20:=Tryz.zeroValue20
 t37:=Tryz.underlying80
 a37:=Tryz.isAgg80
 z37:=Tryz.sizeOf80
 v37:=Tryz.zeroValue80
 t46:=Tryz.underlying312
 a46:=Tryz.isAgg312
 z46:=Tryz.sizeOf312
 v46:=Tryz.zeroValue312
 t51:=Tryz.underlying382
 a51:=Tryz.isAgg382
 z51:=Tryz.sizeOf382
 v51:=Tryz.zeroValue382
 t53:=Tryz.underlying384
 a53:=Tryz.isAgg384
 z53:=Tryz.sizeOf384
 v53:=Tryz.zeroValue384
 t171:=Tryz.underlying397
 a171:=Tryz.isAgg397
 z171:=Tryz.sizeOf397
 v171:=Tryz.zeroValue397
 t173:=Tryz.underlying399
 a173:=Tryz.isAgg399
 z173:=Tryz.sizeOf399
 v173:=Tryz.zeroValue399
 t212:=Tryz.underlying434
 a212:=Tryz.isAgg434
 z212:=Tryz.sizeOf434
 v212:=Tryz.zeroValue434
 t213:=Tryz.underlying435
 a213:=Tryz.isAgg435
 z213:=Tryz.sizeOf435
 t232:=Tryz.underlying458
 a232:=Tryz.isAgg458
 z232:=Tryz.sizeOf458
 v232:=Tryz.zeroValue458
 t233:=Tryz.underlying459
 a233:=Tryz.isAgg459
 z233:=Tryz.sizeOf459
 v233:=Tryz.zeroValue459
 g17:=by kernel_rfl
 g18:=by kernel_rfl
 g19:=by kernel_rfl }
open Go.RowKit Go.Sort Go.Lib in
theorem Tryz.strconv_Itoa_small(i:Nat)(hi:i<100)(w:World) :
  Calls Tryz.prog 71 #[.int .i64 i] w fun e w'=>e = .returned (.string ⟨(Lib.decDigits i).toArray⟩)∧w'=w:=Any.strconv_Itoa_small Tryz.lays171 i hi w
def Tryz.lays148_ren:Go.Shelf.Ren:=⟨fun | 148=>210 | 222=>268 | 223=>269 | 269=>304 | n=>n,fun | 9=>9 | 3=>3 | 4=>4 | 5=>5 | 146=>425 | 51=>382 | 46=>312 | n=>n,fun | n=>n⟩
theorem Tryz.lays148:Go.Proofs.Lays.n148 Tryz.prog Tryz.lays148_ren:={
 mixed:=by kernel_rfl
 f148:=Tryz.func210.trans (congrArg some (by kernel_rfl))
 f222:=Tryz.func268.trans (congrArg some (by kernel_rfl))
 f223:=Tryz.func269.trans (congrArg some (by kernel_rfl))
 f269:=Tryz.func304.trans (congrArg some (by kernel_rfl))
 t3:=Tryz.underlying3
 a3:=Tryz.isAgg3
 z3:=Tryz.sizeOf3
 v3:=Tryz.zeroValue3
 t4:=Tryz.underlying4
 a4:=Tryz.isAgg4
 z4:=Tryz.sizeOf4
 v4:=Tryz.zeroValue4
 t5:=Tryz.underlying5
 a5:=Tryz.isAgg5
 z5:=Tryz.sizeOf5
 v5:=Tryz.zeroValue5
 t9:=Tryz.underlying9
 a9:=Tryz.isAgg9
 z9:=Tryz.sizeOf9
 v9:=Tryz.zeroValue9
 t46:=Tryz.underlying312
 a46:=Tryz.isAgg312
 z46:=Tryz.sizeOf312
 v46:=Tryz.zeroValue312
 t51:=Tryz.underlying382
 a51:=Tryz.isAgg382
 z51:=Tryz.sizeOf382
 v51:=Tryz.zeroValue382
 t146:=Tryz.underlying425
 a146:=Tryz.isAgg425
 z146:=Tryz.sizeOf425
 v146:=Tryz.zeroValue425 }
open Go.RowKit Go.Lib in
theorem Tryz.strings_LastIndex_one(s sub:ByteArray)(h1:sub.size=1)(hs:s.size<4611686018427387904)(w:World) :
  Calls Tryz.prog 210 #[.string s,.string sub] w fun e w'=>e = .returned (.int .i64 (Lib.lastIndexByte s ((sub[0]'(by omega)).toNat:Int)))∧w'=w:=Any.strings_LastIndex_one Tryz.lays148 s sub h1 hs w
end Go.Proofs
namespace Go.Proofs.YtdcdhcgmeahfmaaGreatDoor
open Go.Dm
theorem z7I{P:Program}{f:FuncId}{args:List Value}{r:RT}{k:r.T→PT}{w:World}{R:Ending→World→Prop}(hc:Calls P f args.toArray w R)(hk:∀e w',R e w'→∃x,e = .returned (r.val x)∧k x w'):L.call P f args r k w:=Calls.mono hc hk
theorem _root_.Go.Dm.St.bytes{w0 w:World}{E:List Seg}(h:St w0 E w)(e:TypeId)(s:ByteArray):St w0 E (Lib.bytesWorld w e s):=by
 refine⟨by rw[Lib.bytesWorld_size];have:=h.size;omega,fun b hb=>?_,h.os,h.out,h.tape,fun x hx=>?_,h.nd,fun _ _ _ _=>rfl⟩
 ·rw[Lib.bytesWorld_at_old w e s b (Nat.lt_of_lt_of_le hb h.size)];exact h.old b hb
 ·have:=h.own x hx
  rw[Lib.bytesWorld_at_old w e s _ (Array.getElem?_eq_some_iff.1 this.2).1];exact this
attribute [local irreducible] L.load L.store L.chk L.new L.nonnil L.guard L.ite L.draw L.idx L.sem L.semR L.semU L.chkSem L.next L.call L.callV L.join L.alts L.loop L.begin L.endRound L.range
variable {w0 w:World}{E:List Seg}
def decB(g:Nat):ByteArray:=⟨(Lib.decDigits g).toArray⟩
def revB(c:ByteArray)(g:Nat):ByteArray:=(c++s__)++decB g
theorem zaz(c:ByteArray)(g:Nat):(revB c g).data.toList=c.data.toList++45::Lib.decDigits g:=by
 simp[revB,decB,s__,ByteArray.data_append]
theorem zjh{a b:ByteArray}(h:a.data.toList=b.data.toList):a=b:=ByteArray.ext (Array.toList_inj.1 h)
theorem data_extract(a:ByteArray)(i j:Nat):(a.extract i j).data.toList=(a.data.toList.drop i).take (j-i):=by
 simp[ByteArray.data_extract,Array.toList_extract,List.extract]
theorem z4v(a:ByteArray):a.data.toList.length=a.size:=by simp
def decL(g:Nat):List UInt8:=if g<10 then [UInt8.ofNat (48+g)]else [UInt8.ofNat (48+g/10),UInt8.ofNat (48+g%10)]
theorem zsi{g:Nat}(h:g<100):Lib.decDigits g=decL g:=by
 unfold decL
 split
 ·rename_i h1;exact Lib.decDigits_one h1
 ·rename_i h1;exact Lib.decDigits_two h1 h
theorem znU:∀g:Fin 100,(∀b∈decL g,48≤b.toNat∧b.toNat≤57)∧(decL g).length≤2∧1≤(decL g).length∧Lib.atoi (decL g)=some (g:Int):=by decide
theorem znT{g:Nat}(h:g<100):(∀b∈Lib.decDigits g,48≤b.toNat∧b.toNat≤57)∧(Lib.decDigits g).length≤2∧1≤(Lib.decDigits g).length∧Lib.atoi (Lib.decDigits g)=some (g:Int):=by
 rw[zsi h];exact znU ⟨g,h⟩
theorem zp5(c:ByteArray){g:Nat}(hg:g<100):Lib.lastIndexByte (revB c g) 45=c.size:=by
 have hd:=zaz c g
 have hc:=z4v c
 have hs:=z4v (revB c g)
 rw[hd]at hs
 simp only[List.length_append,List.length_cons]at hs
 have at0:(revB c g).data[c.size]! = 45:=by
  rw[←Array.getElem!_toList,hd,←hc]
  simp
 have far:∀i,c.size<i→i<(revB c g).size→((revB c g).data[i]!).toNat≠45:=by
  intro i h1 h2
  rw[←Array.getElem!_toList,hd]
  have hmem:(c.data.toList++45::Lib.decDigits g)[i]! ∈Lib.decDigits g:=by
   rw[List.getElem!_eq_getElem?_getD,List.getElem?_append_right (by omega),hc]
   obtain⟨m,hm⟩:∃m,i-c.size=m+1:=⟨i-c.size-1,by omega⟩
   rw[hm,List.getElem?_cons_succ,List.getElem?_eq_getElem (by omega)]
   simp
  have:=(znT hg).1 _ hmem
  omega
 rcases Lib.lastIdx_spec (revB c g) 45 (revB c g).size with ⟨-,h⟩ | ⟨i,h1,h2,h3,h4⟩
 ·exact absurd (by rw[at0];rfl) (h c.size (by omega))
 ·show Lib.lastIdx _ _ _=_
  rw[h2]
  have:¬c.size<i:=fun hlt=>far i hlt h1 (by omega)
  have:¬i<c.size:=fun hlt=>h4 c.size hlt (by omega) (by rw[at0];rfl)
  omega
theorem znh(c:ByteArray)(g:Nat):(revB c g).extract 0 c.size=c:=zjh (by rw[data_extract,zaz,←z4v c];simp)
theorem zpt(l d:List UInt8):(l++45::d).drop (l.length+1)=d:=by
 rw[show l++45::d=(l++[45])++d by simp]
 exact List.drop_left' (by simp)
theorem zoL(c:ByteArray)(g:Nat):(revB c g).extract (c.size+1) (revB c g).size=decB g:=zjh (by
 rw[data_extract,zaz,←z4v c,zpt,←z4v (revB c g),zaz]
 refine List.take_of_length_le ?_
 simp only[List.length_append,List.length_cons]
 omega)
theorem zb6(c:ByteArray){g:Nat}(hg:g<100):(revB c g).size≤c.size+3∧c.size+2≤(revB c g).size:=by
 have hs:=z4v (revB c g)
 rw[zaz]at hs
 simp only[List.length_append,List.length_cons,z4v]at hs
 have:=znT hg
 omega
theorem z7G{s:ByteArray}{m:Int}(h:shortB s.data.toList m=true):(s.size:Int)≤m:=by
 unfold shortB at h
 simp only[Bool.and_eq_true,decide_eq_true_eq,z4v]at h
 exact h.2
theorem zfR{s:ByteArray}(hs:s.size<4611686018427387904){k:Int→PT}(hk:k (Lib.lastIndexByte s 45) w):L.call Pr z7P [.string s,.string s__] (.one (.one (.int .i64))) k w:=
 z7I (Tryz.strings_LastIndex_one s s__ rfl hs w) fun e w' ⟨he,hw⟩=>⟨_,he,by subst hw;exact hk⟩
theorem zsY{g:Nat}(hg:g<100){k:ByteArray→PT}(hk:k (decB g) w):L.call Pr z4d [I g] (.one (.one .str)) k w:=
 z7I (Tryz.strconv_Itoa_small g hg w) fun e w' ⟨he,hw⟩=>⟨_,he,by subst hw;exact hk⟩
theorem zt0(h:St w0 E w){g:Nat}(hg:g<100){k:Int×Option (TypeId×Value)×Unit→PT}(hk:∀w',St w0 E w'→k ((g:Int),none,()) w'):L.call Pr zbx [.string (decB g)] (.tup [.one (.int .i64),.one .iface]) k w:=by
 have hf:=znT hg
 have hsz:(decB g).size≤18:=by rw[←z4v];simp only[decB];omega
 refine z7I (Tryz.strconv_Atoi (decB g) g hsz (by simpa [decB]using hf.2.2.2) w) fun e w' ⟨he,t,hw⟩=>⟨((g:Int),none,()),he,hk w' ?_⟩
 subst hw
 exact h.bytes 5 t
theorem zsS(h:St w0 E w)(und:Pr.underlying z00=some .string){s:ByteArray}{k:Bool→PT}(hk:∀w',St w0 E w'→k (shortB s.data.toList 8) w'):L.call Pr z3p [.string s] (.one (.one .bool)) k w:=by
 refine z01 (zkB _) ?_
 unfold zfW
 exact zoa h und fun w h=>⟨_,rfl,hk w h⟩
theorem zsT(h:St w0 E w)(und:Pr.underlying z00=some .string){c:ByteArray}{g:Nat}(hc:shortB c.data.toList 16=true)(h1:1≤g)(hg:g<100){k:ByteArray→PT}(hk:∀w',St w0 E w'→k (revB c g) w'):L.call Pr z9z [.string c,I g] (.one (.one .str)) k w:=by
 refine z01 (zkC _ _) ?_
 unfold zfX
 refine zjw h und fun w h=>?_
 rw[hc]
 have hs:=z7G hc
 have hr:=zb6 c hg
 refine itF rfl (itF (decide_eq_false (by omega)) (itF (decide_eq_false (by omega)) ?_))
 refine gd ?_ ?_
 ·simp only[s__,maxI64];show((c.size+1:Nat):Int)≤_;omega
 refine zsY hg ?_
 refine gd ?_ ⟨_,rfl,hk w h⟩
 have:((c++s__).size+(decB g).size)=(revB c g).size:=by unfold revB;rw[ByteArray.size_append (a:=c++s__)]
 rw[this]
 simp only[maxI64];omega
theorem zhN(h:St w0 E w)(und:Pr.underlying z00=some .string){c:ByteArray}{g:Nat}(hc:shortB c.data.toList 16=true)(h1:1≤g)(hg:g<100){k:ByteArray×Int×Bool×Unit→PT}(hk:∀w',St w0 E w'→k (c,(g:Int),true,()) w') :
  L.call Pr z3O [.string (revB c g)] (.tup [.one .str,.one (.int .i64),.one .bool]) k w:=by
 refine z01 (zda _) ?_
 unfold z9K
 have hs:=z7G hc
 have hr:=zb6 c hg
 refine zfR (by omega) ?_
 rw[zp5 c hg]
 have e1:IntKind.wrap .i64 ((c.size:Int)+1)=((c.size+1:Nat):Int):=by rw[wr (by omega) (by omega)];simp
 rw[e1]
 refine itF (decide_eq_false (by omega)) (gd (by omega) ?_)
 rw[Int.toNat_natCast,Int.toNat_natCast,zoL]
 refine zt0 h hg fun w h=>itF rfl (gd (by omega) ?_)
 have e2:(revB c g).extract (Int.toNat 0) (Int.toNat (c.size:Int))=c:=znh c g
 rw[e2]
 refine zsT h und hc h1 hg fun w h=>?_
 refine itF (by rw[z3Z];simp) (gd (by omega) ⟨(c,(g:Int),true,()),rfl,hk w h⟩)
theorem zpV{k:ByteArray×Int×Bool×Unit→PT}(hk:k (s_,0,false,()) w):L.call Pr z3O [.string s_] (.tup [.one .str,.one (.int .i64),.one .bool]) k w:=by
 refine z01 (zda _) ?_
 unfold z9K
 refine zfR (by decide) ?_
 exact itT rfl ⟨_,rfl,hk⟩
end Go.Proofs.YtdcdhcgmeahfmaaGreatDoor

namespace Go.Proofs
open Go.Shelf
def Tryz.lays190_ren:Go.Shelf.Ren:=⟨fun | 190=>284 | 125=>190 | 258=>317 | 128=>256 | 129=>257 | 302=>327 | 303=>328 | 304=>329 | 305=>330 | 306=>331 | 307=>332 | 308=>333 | 309=>334 | 310=>335 | 333=>339 | 329=>295 | 330=>296 | 334=>340 | 335=>341 | 336=>342 | 344=>344 | n=>n,fun | 31=>33 | 9=>9 | 3=>3 | 46=>312 | 0=>0 | 51=>382 | 53=>384 | 4=>4 | 183=>375 | 182=>374 | 131=>259 | 5=>5 | 218=>416 | 222=>420 | 228=>439 | 229=>46 | n=>n,fun | n=>n⟩
theorem Tryz.lays190:Go.Proofs.Lays.n190 Tryz.prog Tryz.lays190_ren:={
 mixed:=by kernel_rfl
 f125:=Tryz.func190.trans (congrArg some (by kernel_rfl))
 f128:=Tryz.func256.trans (congrArg some (by kernel_rfl))
 f129:=Tryz.func257.trans (congrArg some (by kernel_rfl))
 f190:=Tryz.func284.trans (congrArg some (by kernel_rfl))
 f258:=Tryz.func317.trans (congrArg some (by kernel_rfl))
 f302:=Tryz.func327.trans (congrArg some (by kernel_rfl))
 f303:=Tryz.func328.trans (congrArg some (by kernel_rfl))
 f304:=Tryz.func329.trans (congrArg some (by kernel_rfl))
 f305:=Tryz.func330.trans (congrArg some (by kernel_rfl))
 f306:=Tryz.func331.trans (congrArg some (by kernel_rfl))
 f307:=Tryz.func332.trans (congrArg some (by kernel_rfl))
 f308:=Tryz.func333.trans (congrArg some (by kernel_rfl))
 f309:=Tryz.func334.trans (congrArg some (by kernel_rfl))
 f310:=Tryz.func335.trans (congrArg some (by kernel_rfl))
 f329:=Tryz.func295.trans (congrArg some (by kernel_rfl))
 f330:=Tryz.func296.trans (congrArg some (by kernel_rfl))
 f333:=Tryz.func339.trans (congrArg some (by kernel_rfl))
 f334:=Tryz.func340.trans (congrArg some (by kernel_rfl))
 f335:=Tryz.func341.trans (congrArg some (by kernel_rfl))
 f336:=Tryz.func342.trans (congrArg some (by kernel_rfl))
 f344:=Tryz.func344.trans (congrArg some (by kernel_rfl))
 t0:=Tryz.underlying0
 a0:=Tryz.isAgg0
 z0:=Tryz.sizeOf0
 v0:=Tryz.zeroValue0
 t3:=Tryz.underlying3
 a3:=Tryz.isAgg3
 z3:=Tryz.sizeOf3
 v3:=Tryz.zeroValue3
 t4:=Tryz.underlying4
 a4:=Tryz.isAgg4
 z4:=Tryz.sizeOf4
 v4:=Tryz.zeroValue4
 t5:=Tryz.underlying5
 a5:=Tryz.isAgg5
 z5:=Tryz.sizeOf5
 v5:=Tryz.zeroValue5
 t9:=Tryz.underlying9
 a9:=Tryz.isAgg9
 z9:=Tryz.sizeOf9
 v9:=Tryz.zeroValue9
 t31:=Tryz.underlying33
 a31:=Tryz.isAgg33
 z31:=Tryz.sizeOf33
 v31:=Tryz.zeroValue33
 t46:=Tryz.underlying312
 a46:=Tryz.isAgg312
 z46:=Tryz.sizeOf312
 v46:=Tryz.zeroValue312
 t51:=Tryz.underlying382
 a51:=Tryz.isAgg382
 z51:=Tryz.sizeOf382
 v51:=Tryz.zeroValue382
 t53:=Tryz.underlying384
 a53:=Tryz.isAgg384
 z53:=Tryz.sizeOf384
 v53:=Tryz.zeroValue384
 t131:=Tryz.underlying259
 a131:=Tryz.isAgg259
 z131:=Tryz.sizeOf259
 v131:=Tryz.zeroValue259
 t182:=Tryz.underlying374
 a182:=Tryz.isAgg374
 z182:=Tryz.sizeOf374
 v182:=Tryz.zeroValue374
 t183:=Tryz.underlying375
 a183:=Tryz.isAgg375
 z183:=Tryz.sizeOf375
 v183:=Tryz.zeroValue375
 t218:=Tryz.underlying416
 a218:=Tryz.isAgg416
 z218:=Tryz.sizeOf416
 v218:=Tryz.zeroValue416
 t222:=Tryz.underlying420
 a222:=Tryz.isAgg420
 z222:=Tryz.sizeOf420
 v222:=Tryz.zeroValue420
 t228:=Tryz.underlying439
 a228:=Tryz.isAgg439
 z228:=Tryz.sizeOf439
 v228:=Tryz.zeroValue439
 t229:=Tryz.underlying46
 a229:=Tryz.isAgg46
 z229:=Tryz.sizeOf46
 v229:=Tryz.zeroValue46 }
end Go.Proofs
namespace Go.Proofs.YtdcdhcgmeahfmaaGreatDoor
open Go.Dm
attribute [local irreducible] L.load L.store L.chk L.new L.nonnil L.guard L.ite L.draw L.idx L.sem L.semR L.semU L.chkSem L.next L.call L.callV L.join L.alts L.loop L.begin L.endRound L.range
variable {w0 w:World}{E:List Seg}
def eS(x:ByteArray):List Value:=[.string x]
theorem encS:Enc eS 1:=⟨fun _=>rfl,fun _=>rfl,by decide⟩
theorem elS:El Pr z07 z00 1 16 (.string s_):=zem (by kernel_rfl) (by kernel_rfl) rfl (by decide)
abbrev bl(x:ByteArray):List UInt8:=x.data.toList
def ble(a b:ByteArray):Bool:=decide (bl a≤bl b)
theorem zji(a b c:ByteArray)(h1:ble a b=true)(h2:ble b c=true):ble a c=true:=by
 unfold ble at *;simp only[decide_eq_true_eq]at *;exact List.le_trans h1 h2
theorem zjj(a b:ByteArray):(ble a b||ble b a)=true:=by
 unfold ble;simp only[Bool.or_eq_true,decide_eq_true_eq];exact List.le_total ..
theorem zpx{a b:ByteArray}(h1:ble a b=true)(h2:ble b a=true):a=b:=by
 unfold ble at *;simp only[decide_eq_true_eq]at *;exact zn0 (List.le_antisymm h1 h2)
def sins(x:ByteArray):List ByteArray→List ByteArray
 | []=>[x]
 | y::l=>if ble x y=true then x::y::l else y::sins x l
def ssort:List ByteArray→List ByteArray
 | []=>[]
 | x::l=>sins x (ssort l)
theorem zfg(x:ByteArray):∀l:List ByteArray,(sins x l).Perm (x::l)
 | []=>.refl _
 | y::l=>by
  unfold sins
  split
  ·exact .refl _
  ·exact((zfg x l).cons y).trans (.swap x y l)
theorem z7F:∀l:List ByteArray,(ssort l).Perm l
 | []=>.refl _
 | x::l=>(zfg x (ssort l)).trans ((z7F l).cons x)
theorem zn2(x:ByteArray):∀{l:List ByteArray},l.Pairwise (fun a b=>ble a b=true)→(sins x l).Pairwise fun a b=>ble a b=true
 | [],_=>List.pairwise_singleton ..
 | y::l,h=>by
  unfold sins
  split
  ·rename_i hxy
   refine List.Pairwise.cons (fun z hz=>?_) h
   rcases List.mem_cons.1 hz with rfl | hz
   ·exact hxy
   ·exact zji _ _ _ hxy ((List.pairwise_cons.1 h).1 z hz)
  ·rename_i hxy
   have hyx:ble y x=true:=by
    have:=zjj x y
    simp only[Bool.or_eq_true]at this
    rcases this with h | h
    ·exact absurd h hxy
    ·exact h
   refine List.Pairwise.cons (fun z hz=>?_) (zn2 x (List.pairwise_cons.1 h).2)
   rcases List.mem_cons.1 ((zfg x l).mem_iff.1 hz)with rfl | hz
   ·exact hyx
   ·exact(List.pairwise_cons.1 h).1 z hz
theorem zhl:∀l:List ByteArray,(ssort l).Pairwise fun a b=>ble a b=true
 | []=>.nil
 | x::l=>zn2 x (zhl l)
theorem zkS{l m:List ByteArray}(h:l.Perm m)(hm:m.Pairwise fun a b=>ble a b=true):ssort l=m:=
 List.Perm.eq_of_pairwise (fun a b _ _ h1 h2=>zpx h1 h2) (zhl l) hm ((z7F l).trans h)
theorem zoC{l m:List ByteArray}(h:l.Perm m):ssort l=ssort m:=zkS (h.trans (z7F m).symm) (zhl m)
theorem z2R(l:List ByteArray):(ssort l).length=l.length:=(z7F l).length_eq
theorem z7K{l:List ByteArray}{x:ByteArray}:x∈ssort l↔x∈l:=(z7F l).mem_iff
def eL(x:List UInt8):List Value:=[Go.Proofs.encStr x]
theorem encL:Enc eL 1:=⟨fun _=>rfl,fun _=>rfl,by decide⟩
theorem zqN(l:List ByteArray):fl eS l=fl eL (l.map bl):=by
 induction l with
 | nil=>rfl
 | cons x l ih=>
  simp only[fl,List.flatMap_cons,List.map_cons]at *
  rw[ih];rfl
theorem zoD(l:List ByteArray):(ssort l).map bl=(l.map bl).mergeSort fun x y=>decide (x≤y):=by
 have e:l.mergeSort ble=ssort l:=by
  refine(zkS (List.mergeSort_perm l ble).symm ?_).symm
  exact List.pairwise_mergeSort zji zjj l
 rw[←e]
 exact List.map_mergeSort fun a _ b _=>rfl
theorem zop(h:St w0 E w)(i:Nat){s:Seg}(hi:nth E i=some s){v:Sl}{l:List ByteArray}(hr:Rw eS z00 1 v l s)(hn:l.length<1000000000){k:Unit→PT}(hk:∀s' w',Rw eS z00 1 v (ssort l) s'→St w0 (setN E i s') w'→k () w') :
  L.call Pr z2U [.slice v.a v.len v.cap] (.tup []) k w:=by
 have hr:Rw eL z00 1 v (l.map bl) s:=by unfold Rw at *;rwa [←zqN]
 refine zn1 (encv:=Go.Proofs.encStr) (fun _=>rfl) encL ((ssort l).map bl) (by rw[List.length_map,List.length_map,z2R]) (fun g off cap w h1 h2=>?_) (fun p cap w=>Any.slices_Sort_string_none Tryz.lays190 p cap w) h i hi hr (fun s' w' hr' h=>hk s' w' (by unfold Rw at *;rwa [zqN]) h)
 have:=Any.slices_Sort_string Tryz.lays190 g off cap (l.map bl) w h1 h2 (by rw[List.length_map];omega)
 rw[zoD];exact this
theorem zjx{a1 a2:Seg}{F:List Seg}{fv:FV}{keys:List ByteArray}(hY:YldM Pr w0 [a1,a2] fv.val keys Value.string)(h:St w0 (a1::a2::F) w)(hn:keys.length<1000000000){k:Sl→PT}
  (hk:∀seen v s w',seen.Perm keys→Rw eS z00 1 v seen s→St w0 (s::a1::a2::F) w'→k v w'):L.call Pr z2f [.slice none 0 0,fv.val] (.one (.one .slice)) k w:=by
 refine z01 (z6k ⟨none,0,0⟩ fv) ?_
 unfold z3t
 refine nw h ?_;clear h;(try clear w);intro b1 w h
 have h:=fr2_ (fr2_ h)
 have h:St w0 ([a1,a2]++[Cl b1 z07 [SlV ⟨none,0,0⟩]]::[]::F) w:=h.eq (by simp)
 refine ziI (l:=.str) (arg:=fun x=>x) (A:=[a1,a2]) (keys:=keys) hY h (fun seen G=>∃v s,G = [Cl b1 z07 [SlV v]]::s::F∧Rw eS z00 1 v seen s) (fun j G=>False) ⟨_,_,rfl,Rw.nil⟩ ?_ ?_ ?_
 ·rintro seen x G X w lv lp d R hm ⟨v,s,rfl,hr⟩ h hN hE
  have h:St w0 ([Rec lv lp .busy none]::[DfM d]::a1::a2::[Cl b1 z07 [SlV v]]::s::(F++X)) w:=h
  (refine ldC h ?_)
  refine nw h ?_;clear h;(try clear w);intro b8 w h
  refine Rw.app encS elS h 5 rfl hr x rfl (by omega) (by omega) fun v' s' w hr' h=>?_
  (dsimp only[setN,List.cons_append,List.nil_append]at h;refine stC h ?_;clear h;(try clear w);intro w h;dsimp only[putN,setN]at h)
  exact hN _ w ⟨v',s',rfl,hr'⟩ h
 ·rintro d seen G w hp ⟨v,s,rfl,hr⟩ h
  have h:St w0 ([DfM d]::a1::a2::[Cl b1 z07 [SlV v]]::s::F) w:=h
  refine jumpN ?_
  (refine ldC h ?_)
  (first | refine um0_ h ?_ | refine um1_ h ?_ | refine um2_ h ?_ | refine um3_ h ?_ | refine um4_ h ?_ | refine um5_ h ?_ | refine um6_ h ?_ | refine um7_ h ?_ | refine um8_ h ?_ | refine um9_ h ?_ | refine z92 h ?_ | refine z91 h ?_);clear h;(try clear w);intro w h
  refine⟨v,rfl,hk seen v s w hp hr ?_⟩
  have h:=fr3_ (fr1_ (fr1_ h))
  have h:=dl3_ h
  exact h
 ·rintro d j G w hf;exact hf.elim
theorem z7z{a1 a2:Seg}{F:List Seg}{fv:FV}{keys:List ByteArray}(hY:YldM Pr w0 [a1,a2] fv.val keys Value.string)(h:St w0 (a1::a2::F) w)(hn:keys.length<1000000000){k:Sl→PT}
  (hk:∀v s w',Rw eS z00 1 v (ssort keys) s→St w0 (s::a2::F) w'→k v w'):L.call Pr z0V [fv.val] (.one (.one .slice)) k w:=by
 refine z01 (zah fv) ?_
 unfold z6p
 refine z01 (z9L fv) ?_
 unfold z6f
 refine zjx hY h hn fun seen v s w hp hr h=>⟨v,rfl,?_⟩
 refine zop h 0 rfl hr (by rw[hp.length_eq];exact hn) fun s w hr h=>?_
 rw[zoC hp]at hr
 exact⟨v,rfl,hk v s w hr (dl1_ h)⟩
theorem zlC(h:St w0 E w){v:Sl}{l:List ByteArray}(r:Rd w eS v l)(hn:l.length<1000000000)(h0:v.a=none→l = []){k:Sl→PT}
  (hk:∀v' s' w',Rw eS z00 1 v' l s'→(v'.a=none↔v.a=none)→St w0 (s'::E) w'→k v' w'):L.call Pr z0Z [SlV v] (.one (.one .slice)) k w:=by
 refine z01 (z4q v) ?_
 unfold z2N
 exact z6a (K:=fun v w'=>∃x,v=RT.val (.one (.one .slice)) x∧k x w') encS elS h r (by omega) (by omega) h0 fun v' s' w' hr hi h=>⟨v',rfl,hk v' s' w' hr hi h⟩
theorem Rw.nil0{α:Type}{enc:α→List Value}{e size:Nat}{v:Sl}{l:List α}{s:Seg}(hE:Enc enc size)(hr:Rw enc e size v l s):v.a=none→l = []:=by
 intro h0
 have hl:=Rw.len hE hr
 unfold Rw at hr
 generalize fl enc l=xs at hr
 cases hr with
 | nil=>exact List.eq_nil_of_length_eq_zero hl.symm
 | mk=>cases h0
def unS:Value→ByteArray
 | .string x=>x
 | _=>s_
theorem z5T:Pr.underlying z00=some .string:=by kernel_rfl
theorem z7W(h:St w0 E w){a b n:Int}{k:Bool→PT}(hk:∀w',St w0 E w'→k (decide (a≤n∧n≤b)) w'):L.call Pr z1l [.agg #[I a,I b],I n] (.one (.one .bool)) k w:=by
 refine z01 (zaW (a,b,()) n) ?_
 unfold z82
 refine nw h ?_;clear h;(try clear w);intro b1 w h
 (dsimp only[setN,List.cons_append,List.nil_append]at h;refine ldC h ?_)
 refine it (fun h1=>?_) (fun h1=>?_)<;>(try simp only[zB]at h1)
 ·(refine ldC h ?_)
  refine⟨_,rfl,?_⟩
  have:=hk w (dl0_ h)
  have e:decide (a≤n∧n≤b)=decide (n≤b):=decide_eq_decide.2 ⟨fun h=>h.2,fun h=>⟨by omega,h⟩⟩
  rw[e]at this;exact this
 ·refine⟨_,rfl,?_⟩
  have:=hk w (dl0_ h)
  rw[decide_eq_false (fun h=>h1 (by omega))]at this;exact this
abbrev Cfg:=HT [.str,.int .i64,.int .i64,.int .i64,.int .i64,.int .i64]
abbrev Cfg.cells(c:Cfg):List Value:=[.string c.1,I c.2.1,I c.2.2.1,I c.2.2.2.1,I c.2.2.2.2.1,I c.2.2.2.2.2.1]
def cfgNum(c:Cfg):Bool:=decide (0≤c.2.1∧c.2.1≤255)&&(decide (1≤c.2.2.1∧c.2.2.1≤8)&&(decide (1≤c.2.2.2.2.1∧c.2.2.2.2.1≤10)&&(decide (0≤c.2.2.2.1∧c.2.2.2.1≤c.2.2.2.2.1)&&decide (0≤c.2.2.2.2.2.1∧c.2.2.2.2.2.1≤30))))
def specC(c:Cfg):Int:=if shortB c.1.data.toList 16=true then(if cfgNum c=true then 0 else 2)else 1
theorem zo9(h:St w0 E w){c:Cfg}{k:Int→PT}(hk:∀w',St w0 E w'→k (specC c) w'):L.call Pr z0r [.agg (Cfg.cells c).toArray] (.one (.one (.int .i64))) k w:=by
 obtain⟨nm,im,co,mi,ma,gr,⟨⟩⟩:=c
 refine z01 (zhX (nm,im,co,mi,ma,gr,())) ?_
 unfold zcP
 refine nw h ?_;clear h;(try clear w);intro b1 w h
 (dsimp only[setN,List.cons_append,List.nil_append]at h;refine ldC h ?_)
 refine zjw h z5T fun w h=>?_
 refine it (fun hn=>?_) (fun hn=>?_)<;>(try simp only[zB]at hn)
 ·refine⟨_,rfl,?_⟩
  have:=hk w (dl0_ h)
  have e:specC (nm,im,co,mi,ma,gr,())=1:=if_neg (by simp[hn])
  rw[e]at this;exact this
 refine z1h (fun z w=>z=(!cfgNum (nm,im,co,mi,ma,gr,()),())∧St w0 ([Cl b1 z0t (Cfg.cells (nm,im,co,mi,ma,gr,()))]::E) w) (fun k4 hk4=>?_) (fun z w ⟨hz,h⟩=>?_)
 ·(refine ldC h ?_)
  refine z7W h fun w h=>?_
  refine it (fun h1=>hk4 _ w ⟨by unfold cfgNum;simp only[Bool.not_eq_true']at h1;simp only[h1,Bool.false_and],h⟩) (fun h1=>?_)
  simp only[Bool.not_eq_false']at h1
  (refine ldC h ?_)
  refine z7W h fun w h=>?_
  refine it (fun h2=>hk4 _ w ⟨by unfold cfgNum;simp only[Bool.not_eq_true']at h2;simp only[h1,h2,Bool.false_and,Bool.and_false],h⟩) (fun h2=>?_)
  simp only[Bool.not_eq_false']at h2
  (refine ldC h ?_)
  refine z7W h fun w h=>?_
  refine it (fun h3=>hk4 _ w ⟨by unfold cfgNum;simp only[Bool.not_eq_true']at h3;simp only[h1,h2,h3,Bool.false_and,Bool.and_false],h⟩) (fun h3=>?_)
  simp only[Bool.not_eq_false']at h3
  (refine ldC h ?_;refine ldC h ?_)
  refine z7W h fun w h=>?_
  refine it (fun h4=>hk4 _ w ⟨by unfold cfgNum;simp only[Bool.not_eq_true']at h4;simp only[h1,h2,h3,h4,Bool.false_and,Bool.and_false],h⟩) (fun h4=>?_)
  simp only[Bool.not_eq_false']at h4
  (refine ldC h ?_)
  refine z7W h fun w h=>?_
  exact hk4 _ w ⟨by unfold cfgNum;simp only[h1,h2,h3,h4,Bool.true_and],h⟩
 ·subst hz
  dsimp only
  have hn:shortB nm.data.toList 16=true:=by simpa using hn
  refine it (fun hc=>?_) (fun hc=>?_)<;>(try simp only[zB]at hc)
  ·refine⟨_,rfl,?_⟩
   have:=hk w (dl0_ h)
   have e:specC (nm,im,co,mi,ma,gr,())=2:=by unfold specC;rw[if_pos hn,if_neg (by simp[hc])]
   rw[e]at this;exact this
  ·refine⟨_,rfl,?_⟩
   have:=hk w (dl0_ h)
   have e:specC (nm,im,co,mi,ma,gr,())=0:=by unfold specC;rw[if_pos hn,if_pos (by simpa using hc)]
   rw[e]at this;exact this
end Go.Proofs.YtdcdhcgmeahfmaaGreatDoor
namespace Go.Dm
class Tab(P:Program)(w:World):Prop where
 is : Lib.TabIs P w "internal/strconv.uint64pow10" .u64 Lib.pow10Tab
section
variable {w0 w:World}{E:List Seg}{P:Program}
theorem St.var(h:St w0 E w){n:String}{cs:Array Value}(hv:w0.var? P n=some cs):w.var? P n=some cs:=by
 unfold World.var? at *
 cases hg:P.globalNamed n with
 | none=>rw[hg]at hv;cases hv
 | some g=>
  rw[hg]at hv
  simp only[Option.bind_some]at hv ⊢
  cases hh:w0.heap[g]? with
  | none=>rw[hh]at hv;cases hv
  | some o=>
   have:=h.old g (Array.getElem?_eq_some_iff.1 hh).1
   rw[this];exact hv
theorem St.tab [T : Tab P w0] (h : St w0 E w) : Lib.TabIs P w "internal/strconv.uint64pow10" .u64 Lib.pow10Tab := h.var T.is
end
def joinB(xs:List ByteArray):ByteArray:=⟨(Lib.join (xs.map (·.data.toList)) [32]).toArray⟩
theorem zjm{a b:ByteArray}(h:a.data.toList=b.data.toList):a=b:=ByteArray.ext (Array.toList_inj.1 h)
theorem z9d(xs:List ByteArray):(joinB xs).data.toList=Lib.join (xs.map (·.data.toList)) [32]:=by simp[joinB]
theorem znz:joinB []=⟨#[]⟩:=rfl
theorem ziZ(x:ByteArray):joinB [x]=x:=zjm (by rw[z9d];simp[Lib.join_one])
theorem znV(g:Nat):(Lib.decDigits g).length≤g+1:=by
 induction g using Nat.strongRecOn with
 | _ g ih=>
  by_cases h:g<10
  ·rw[Lib.decDigits_one h];simp
  ·rw[Lib.decDigits,dif_neg h,List.length_append]
   have:=ih (g/10) (by omega)
   simp only[List.length_singleton]
   omega
def spB:ByteArray:=⟨#[32]⟩
theorem zgN(x y:ByteArray)(xs:List ByteArray):joinB (x::y::xs)=(x++spB)++joinB (y::xs):=zjm (by
 rw[z9d]
 simp only[List.map_cons,Lib.join,List.intercalate,ByteArray.data_append,Array.toList_append,z9d]
 simp[List.intersperse,spB])
theorem zeY(m:Nat):∀(l:List ByteArray),(∀x∈l,x.size≤m)→(joinB l).size≤l.length*(m+1)
 | [],_=>by rw[znz];exact Nat.zero_le _
 | [x],h=>by rw[ziZ];have:=h x (by simp);simp;omega
 | x::y::l,h=>by
  have h1:=h x (by simp)
  have h2:=zeY m (y::l) fun z hz=>h z (List.mem_cons_of_mem _ hz)
  have hs:spB.size=1:=rfl
  rw[zgN,ByteArray.size_append,ByteArray.size_append,hs]
  simp only[List.length_cons,Nat.add_mul]at h2 ⊢
  omega
def decD(g:Nat):ByteArray:=⟨(Lib.decDigits g).toArray⟩
theorem zcD(g:Nat):(decD g).data.toList=Lib.decDigits g:=by simp[decD]
theorem zfI(g:Nat):(decD g).size≤g+1:=by
 have:=znV g
 unfold decD
 simpa [ByteArray.size]using this
theorem znW{g:Nat}(h:10≤g):decD g=decD (g/10)++decD (g%10):=zjm (by
 rw[ByteArray.data_append,Array.toList_append,zcD,zcD,zcD,Lib.decDigits,dif_neg (by omega),Lib.decDigits_one (Nat.mod_lt _ (by omega))])
theorem zp8(g:Nat):(⟨(Lib.itoa (g:Int)).toArray⟩:ByteArray)=decD g:=by
 unfold Lib.itoa decD
 rw[if_neg (by omega)];simp
section
variable {w0 w w':World}{E:List Seg}{P:Program}
theorem St.below(h:St w0 E w)(hb:RowKit.Below w.heap.size w w'):St w0 E w':=by
 have hlt:∀k,k<w.heap.size→w'.heap[k]? = w.heap[k]? :=hb.block
 refine⟨Nat.le_trans h.size hb.size,fun b hb'=>?_,hb.os.trans h.os,hb.output.trans h.out,hb.tape.trans h.tape,fun x hx=>?_,h.nd,fun _ _ _ _=>rfl⟩
 ·rw[hlt b (Nat.lt_of_lt_of_le hb' h.size)];exact h.old b hb'
 ·have:=h.own x hx
  rw[hlt _ (Array.getElem?_eq_some_iff.1 this.2).1];exact this
def eTx(x:ByteArray):List Value:=[.string x]
theorem Rw.texts{e:TypeId}{s:Seg}(h:St w0 E w)(k:Nat)(hi:nth E k=some s){g n cap off:Nat}{l:List ByteArray}(hE:Enc eTx 1)(hr:Rw eTx e 1 ⟨some ⟨g,off,none⟩,n,cap⟩ l s) :
  (∀(j:Nat) x,l[j]? = some x→w.cell? ⟨g,off+j,none⟩=some (.string x))∧g<w.heap.size:=by
 have hr':=hr
 constructor
 ·intro j x hx
  have hn:=zby hE hx (f:=0) (u:=Value.string x) rfl
  simp only[Nat.mul_one,Nat.add_zero]at hn
  have hc:=hr.cell h k hi rfl hn
  rw[z3m]at hc
  exact hc
 ·unfold Rw at hr'
  generalize fl eTx l=xs at hr'
  cases hr' with
  | mk g n cap pre xs spare post h1 h2 h3 h4=>exact(Array.getElem?_eq_some_iff.1 (h.at k hi).2).1
theorem Rw.cka{α:Type}{enc:α→List Value}{e size:Nat}{v:Sl}{l:List α}{s:Seg}(hE:Enc enc size)(h:St w0 E w)(k:Nat)(hi:nth E k=some s)(hr:Rw enc e size v l s){i:Nat}{a:Addr}(ha:ElA v size i a){x:α}(hx:l[i]? = some x){cs:List Value}(hc:enc x=cs){kk:PT}(hk:kk w):L.chk a cs kk w:=by
 subst hc
 obtain⟨a0,hv,rfl⟩:=ha
 refine⟨fun j c hc=>?_,hk⟩
 rw[z4F]
 exact hr.cell h k hi hv (zby hE hx hc)
theorem zp7{f:FuncId}{e:TypeId}{s:Seg}{v:Sl}{l:List ByteArray}{sep:ByteArray}(hsep:sep=spB)(hE:Enc eTx 1)
  (hc:∀g off cap w,(∀(j:Nat) x,l[j]? = some x→w.cell? ⟨g,off+j,none⟩=some (.string x))→g<w.heap.size→l.length≤cap→Calls P f #[.slice (some ⟨g,off,none⟩) l.length cap,.string sep] w fun r w'=>r = .returned (.string ⟨(Lib.join (l.map (·.data.toList)) sep.data.toList).toArray⟩)∧RowKit.Below w.heap.size w w')
  (hc0:∀p cap w,Calls P f #[.slice p 0 cap,.string sep] w fun r w'=>r = .returned (.string ⟨#[]⟩)∧w'=w)
  (h:St w0 E w) (k:Nat) (hi:nth E k=some s) (hr:Rw eTx e 1 v l s) {kk:ByteArray→PT} (hk:∀w',St w0 E w'→kk (joinB l) w'):L.call P f [.slice v.a v.len v.cap,.string sep] (.one (.one .str)) kk w:=by
 have hlen:=Rw.len hE hr
 cases hl0:l with
 | nil=>
  subst hl0
  simp only[List.length_nil]at hlen
  rw[hlen]
  exact(hc0 v.a v.cap w).mono fun r w' ⟨h1,h2⟩=>⟨joinB [],h1,by subst h2;exact hk _ h⟩
 | cons x l2=>
  have hpos:0<l.length:=by rw[hl0];simp
  have hcap:=hr.cap
  obtain⟨va,vn,vc⟩:=v
  have:∃g off,va=some ⟨g,off,none⟩:=by
   have hr':=hr
   unfold Rw at hr'
   generalize fl eTx l=xs at hr'
   cases hr' with
   | nil=>simp at hlen;omega
   | mk=>exact⟨_,_,rfl⟩
  obtain⟨g,off,rfl⟩:=this
  simp only at hlen hcap
  subst hlen
  obtain⟨hH,hlt⟩:=Rw.texts h k hi hE hr
  refine(hc g off vc w hH hlt hcap.1).mono fun r w' ⟨h1,h2⟩=>⟨joinB l,?_,hk _ (h.below h2)⟩
  rw[h1,hsep];rfl
end
end Go.Dm
namespace Go.Proofs.YtdcdhcgmeahfmaaGreatDoor
open Go.Dm
attribute [local irreducible] L.load L.store L.chk L.new L.nonnil L.guard L.ite L.draw L.idx L.sem L.semR L.semU L.chkSem L.next L.call L.callV L.join L.alts L.loop L.begin L.endRound L.range
variable {w0 w:World}{E:List Seg}
abbrev Rv:=HT [.str,.int .i64,.str,.int .i64,.int .i64,.int .i64,.int .i64,.int .i64]
abbrev eRv:E1:=.agg [.str,.int .i64,.str,.int .i64,.int .i64,.int .i64,.int .i64,.int .i64]
def vRv(t:Rv):Value:=eRv.val t
def noRv:Rv:=(s_,0,s_,0,0,0,0,0,())
abbrev rvC(t:Rv):List Value:=[.string t.1,I t.2.1,.string t.2.2.1,I t.2.2.2.1,I t.2.2.2.2.1,I t.2.2.2.2.2.1,I t.2.2.2.2.2.2.1,I t.2.2.2.2.2.2.2.1]
abbrev Rv.cfg(t:Rv):Cfg:=t.2.2
def rvOf(name:ByteArray)(gen:Int)(c:Cfg):Rv:=(name,gen,c)
structure ABook where
 all:List (ByteArray×Rv)
 pv:List (ByteArray×Bool)
structure ABook.Ok(a:ABook):Prop where
 name:∀p∈a.all,p.2.1=p.1∧p.1≠s_
 few:a.all.length<1000000
theorem zhc:Pr.underlying z0l=some (.map z00 z0p):=by kernel_rfl
theorem zjU:Pr.underlying z4n=some (.map z00 z1U):=by kernel_rfl
theorem mkStr:MK Pr z00 Value.string:=znu z5T
theorem zrv(w:World):(zeroValue z0p).run Pr w = .ok (eRv.val noRv) w:=by
 have h:(Pr.info? z0p).map (·.zero)=some (some (.agg #[.string s_,I 0,.string s_,I 0,I 0,I 0,I 0,I 0])):=by kernel_rfl
 cases hi:Pr.info? z0p with
 | none=>rw[hi]at h;cases h
 | some i=>rw[hi]at h;simp only[Option.map_some,Option.some.injEq]at h;exact zv hi h w
theorem zbool(w:World):(zeroValue z1U).run Pr w = .ok ((E1.one .bool).val false) w:=by
 have h:(Pr.info? z1U).map (·.zero)=some (some (.bool false)):=by kernel_rfl
 cases hi:Pr.info? z1U with
 | none=>rw[hi]at h;cases h
 | some i=>rw[hi]at h;simp only[Option.map_some,Option.some.injEq]at h;exact zv hi h w
def bkGet(a:ABook)(rev:ByteArray):Rv:=(mget a.all rev).getD noRv
def bkHas(a:ABook)(rev:ByteArray):Bool:=(mget a.all rev).isSome
def bkProved(a:ABook)(rev:ByteArray):Bool:=(mget a.pv rev).getD false
abbrev bkB(b rA rP:Nat):Seg:=[Cl b ze3 [.map (some rA),.map (some rP)]]
def BkS(b:Nat)(a:ABook)(s:Seg):Prop:=a.Ok∧∃rA rP sA sP,MpS Value.string vRv rA a.all sA∧MpS Value.string Value.bool rP a.pv sP∧s=bkB b rA rP++(sA++sP)
theorem rlookup{r:Nat}{m:List (ByteArray×Rv)}{s:Seg}(h:St w0 E w)(i:Nat)(hi:nth E i=some s)(hm:MpS Value.string vRv r m s){n:ByteArray}{kk:eRv.T→PT}(hk:kk ((mget m n).getD noRv) w) :
  L.semR Pr (.one eRv) (Instr.lookup z0l (.map (some r)) (.string n) false) kk w:=by
 refine MpS.get mkStr zhc zrv (fun t:Rv=>t) (fun _=>rfl) h i hi hm ?_
 have:((mget m n).map fun t:Rv=>t).getD noRv=(mget m n).getD noRv:=by cases mget m n<;>rfl
 rw[this];exact hk
theorem rlookup2{r:Nat}{m:List (ByteArray×Rv)}{s:Seg}(h:St w0 E w)(i:Nat)(hi:nth E i=some s)(hm:MpS Value.string vRv r m s){n:ByteArray}{kk:eRv.T×Bool×Unit→PT}(hk:kk ((mget m n).getD noRv,(mget m n).isSome,()) w) :
  L.semR Pr (.tup [eRv,.one .bool]) (Instr.lookup z0l (.map (some r)) (.string n) true) kk w:=by
 refine MpS.get2 mkStr zhc zrv (fun t:Rv=>t) (fun _=>rfl) h i hi hm ?_
 have:((mget m n).map fun t:Rv=>t).getD noRv=(mget m n).getD noRv:=by cases mget m n<;>rfl
 rw[this];exact hk
theorem zrz(h:St w0 E w){k:Option Addr→PT}(hk:∀b s w',BkS b ⟨[],[]⟩ s→St w0 (s::E) w'→k (some ⟨b,0,none⟩) w'):L.call Pr zbR [] (.one (.one .ptr)) k w:=by
 refine z01 zkx ?_
 unfold zfS
 refine MpS.new h Value.string vRv fun r s w hm h=>?_
 refine MpS.new h Value.string Value.bool fun r2 s2 w hm2 h=>?_
 refine nw h ?_;clear h;(try clear w);intro b w h
 refine⟨_,rfl,hk b _ w ⟨⟨by simp,by simp⟩,r,r2,s,s2,hm,hm2,rfl⟩ ?_⟩
 have h:=fr2_ (fr2_ (fr1_ h))
 exact h.glue3
theorem zfQ(h:St w0 E w)(i:Nat){b:Nat}{a:ABook}{s:Seg}(hi:nth E i=some s)(hs:BkS b a s){rev:ByteArray}{k:eRv.T×Bool×Unit→PT}(hk:∀w',St w0 E w'→k (bkGet a rev,bkHas a rev,()) w') :
  L.call Pr z42 [.pointer (some ⟨b,0,none⟩),.string rev] (.tup [eRv,.one .bool]) k w:=by
 obtain⟨ok,rA,rP,sA,sP,hA,hP,rfl⟩:=hs
 refine z01 (zeu _ _) ?_
 unfold z9U
 have h:=(h.front i hi).split3
 refine nw h ?_;clear h;(try clear w);intro b1 w h
 (refine nn ?_;refine ldC h ?_)
 refine rlookup2 h 2 rfl hA ?_
 unfold bkGet bkHas at hk
 generalize (mget a.all rev).getD noRv=t at hk
 refine nw h ?_;clear h;(try clear w);intro b5 w h
 (refine stC h ?_;clear h;(try clear w);intro w h;dsimp only[putN,setN]at h;refine laC h ?_;refine stC h ?_;clear h;(try clear w);intro w h;dsimp only[putN,setN]at h;refine laC h ?_)
 exact⟨(t,_,()),rfl,hk w (St.again i hi (dl0_ (dl0_ h)).glue3)⟩
theorem zgZ(h:St w0 E w)(i:Nat){b:Nat}{a:ABook}{s:Seg}(hi:nth E i=some s)(hs:BkS b a s){rev:ByteArray}{k:Bool→PT}(hk:∀w',St w0 E w'→k (bkProved a rev) w') :
  L.call Pr z1K [.pointer (some ⟨b,0,none⟩),.string rev] (.one (.one .bool)) k w:=by
 obtain⟨ok,rA,rP,sA,sP,hA,hP,rfl⟩:=hs
 refine z01 (z8e _ _) ?_
 unfold z5E
 have h:=(h.front i hi).split3
 (refine nn ?_;refine ldC h ?_)
 refine MpS.get mkStr zjU zbool (fun t:Bool=>t) (fun _=>rfl) h 2 rfl hP ?_
 refine⟨_,rfl,?_⟩
 have:((mget a.pv rev).map fun t:Bool=>t).getD false=bkProved a rev:=by unfold bkProved;cases mget a.pv rev<;>rfl
 rw[this]
 exact hk w (St.again i hi h.glue3)
def bkProve(a:ABook)(rev:ByteArray):ABook×Int:=if bkHas a rev=true then(⟨a.all,mset a.pv rev true⟩,0)else(a,6)
theorem zon(h:St w0 E w)(i:Nat){b:Nat}{a:ABook}{s:Seg}(hi:nth E i=some s)(hs:BkS b a s){rev:ByteArray}{k:Int→PT}(hk:∀s' w',BkS b (bkProve a rev).1 s'→St w0 (setN E i s') w'→k (bkProve a rev).2 w') :
  L.call Pr z5Z [.pointer (some ⟨b,0,none⟩),.string rev] (.one (.one (.int .i64))) k w:=by
 have hs0:=hs
 obtain⟨ok,rA,rP,sA,sP,hA,hP,rfl⟩:=hs
 refine z01 (zd7 _ _) ?_
 unfold z8J
 unfold bkProve bkHas at hk
 have h:=(h.front i hi).split3
 (refine nn ?_;refine ldC h ?_)
 refine rlookup2 h 1 rfl hA ?_
 generalize (mget a.all rev).getD noRv=t at hk
 refine nw h ?_;clear h;(try clear w);intro b4 w h
 (refine stC h ?_;clear h;(try clear w);intro w h;dsimp only[putN,setN]at h)
 refine it (fun hc=>?_) (fun hc=>?_)<;>(try simp only[zB]at hc)
 ·rw[if_neg (by simp[hc])]at hk
  exact⟨_,rfl,hk _ w hs0 (St.back i hi (dl0_ h).glue3)⟩
 ·rw[if_pos (by simpa using hc)]at hk
  (refine nn ?_;refine ldC h ?_)
  refine MpS.set mkStr zjU h 3 rfl hP true rfl fun sP' w hP' h=>?_
  exact⟨_,rfl,hk _ w ⟨⟨ok.name,ok.few⟩,rA,rP,sA,sP',hA,hP',rfl⟩ (St.back i hi (dl0_ h).glue3)⟩
def bkStamp(a:ABook)(c:Cfg)(gen:Nat):ABook×ByteArray×Bool:=
 if bkHas a (revB c.1 gen)=true then(a,revB c.1 gen,false)else(⟨mset a.all (revB c.1 gen) (rvOf (revB c.1 gen) gen c),a.pv⟩,revB c.1 gen,true)
theorem zqy(c:ByteArray){g:Nat}(hg:g<100):revB c g≠s_:=fun e=>by
 have:=zb6 c hg
 rw[e]at this
 have h0:s_.size=0:=rfl
 omega
theorem zs2(w:World):(do eqGuard .neq z0p (.tmp 0) (.tmp 0) (.agg (rvC noRv).toArray) (.agg #[.string s_,I 0,.string s_,I 0,I 0,I 0,I 0,I 0]);binOp .neq z0p (.agg (rvC noRv).toArray) (.agg #[.string s_,I 0,.string s_,I 0,I 0,I 0,I 0,I 0]):Sem Value).run Pr w = .ok (.bool false) w:=by kernel_rfl
theorem zs1(t:Rv)(ht:t.1≠s_)(w:World):(do eqGuard .neq z0p (.tmp 0) (.tmp 0) (.agg (rvC t).toArray) (.agg #[.string s_,I 0,.string s_,I 0,I 0,I 0,I 0,I 0]);binOp .neq z0p (.agg (rvC t).toArray) (.agg #[.string s_,I 0,.string s_,I 0,I 0,I 0,I 0,I 0]):Sem Value).run Pr w = .ok (.bool true) w:=by
 refine zqb (r:=false) (by kernel_rfl) ?_
 have hS:Pr.underlying z0p=some (.struct (Pr.fieldsOf z0p)):=by kernel_rfl
 have hp:Pr.stoodInHeld z0p=false:=by kernel_rfl
 rw[show(10000:Nat)=9999+1 from rfl,run_equalIn_agg w 9999 z0p _ _ hS hp]
 have u9:=Tryz.underlying9
 have i9:=Tryz.isAgg9
 have z9:=Tryz.sizeOf9
 simp only[Program.fieldsOf,Tryz.underlying157]
 go_simp
 have e:¬(ByteArray.toList t.1=ByteArray.toList s_):=fun e=>ht (by
  have:(@BEq.beq ByteArray _ t.1 s_)=true:=by rw[beq_toListBytes];simp[e]
  exact zgW.1 this)
 simp[e]
abbrev Thg:=HT [.str,.int .i64,.int .i64,.int .i64,.int .i64,.int .i64,.int .i64,.int .i64,.bool]
abbrev eThg:E1:=.agg [.str,.int .i64,.int .i64,.int .i64,.int .i64,.int .i64,.int .i64,.int .i64,.bool]
def vThg(t:Thg):Value:=eThg.val t
def noThg:Thg:=(s_,0,0,0,0,0,0,0,false,())
abbrev Thg.ver(t:Thg):Int:=t.2.2.2.2.2.2.1
abbrev Thg.gen(t:Thg):Int:=t.2.2.2.2.2.2.2.1
abbrev Thg.is(t:Thg):Bool:=t.2.2.2.2.2.2.2.2.1
def thgOf(c:Cfg)(ver gen:Int)(is:Bool):Thg:=(c.1,c.2.1,c.2.2.1,c.2.2.2.1,c.2.2.2.2.1,c.2.2.2.2.2.1,ver,gen,is,())
theorem zkL:Pr.underlying z0w=some (.map z00 z0e):=by kernel_rfl
theorem mkS:MK Pr z00 Value.string:=znu z5T
theorem zthg(w:World):(zeroValue z0e).run Pr w = .ok (eThg.val noThg) w:=by
 have h:(Pr.info? z0e).map (·.zero)=some (some (.agg #[.string s_,I 0,I 0,I 0,I 0,I 0,I 0,I 0,.bool false])):=by kernel_rfl
 cases hi:Pr.info? z0e with
 | none=>rw[hi]at h;cases h
 | some i=>rw[hi]at h;simp only[Option.map_some,Option.some.injEq]at h;exact zv hi h w
def tget(m:List (ByteArray×Thg))(n:ByteArray):Thg:=(mget m n).getD noThg
def RackS(b:Nat)(m:List (ByteArray×Thg))(s:Seg):Prop:=∃r sm,MpS Value.string vThg r m sm∧s = [Cl b z0Q [.map (some r),.func (.func z1q) #[] #[]]]++sm
theorem tlook{r:Nat}{m:List (ByteArray×Thg)}{s:Seg}(h:St w0 E w)(i:Nat)(hi:nth E i=some s)(hm:MpS Value.string vThg r m s){n:ByteArray}{kk:eThg.T→PT}(hk:kk (tget m n) w) :
  L.semR Pr (.one eThg) (Instr.lookup z0w (.map (some r)) (.string n) false) kk w:=by
 refine MpS.get mkS zkL zthg (fun t:Thg=>t) (fun _=>rfl) h i hi hm ?_
 have:((mget m n).map fun t:Thg=>t).getD noThg=tget m n:=by unfold tget;cases mget m n<;>rfl
 rw[this];exact hk
theorem zrk(h:St w0 E w){k:Option Addr→PT}(hk:∀b s w',RackS b [] s→St w0 (s::E) w'→k (some ⟨b,0,none⟩) w') :
  L.call Pr z3L [.func (.func z1q) #[] #[]] (.one (.one .ptr)) k w:=by
 refine z01 (z9M ⟨.func z1q,#[],#[]⟩) ?_
 unfold z6g
 refine MpS.new h Value.string vThg fun r s w hm h=>?_
 refine nw h ?_;clear h;(try clear w);intro b w h
 exact⟨_,rfl,hk b _ w ⟨r,s,hm,rfl⟩ h.glue⟩
def mayC(t:Thg)(ver:Int)(fresh:Bool):Int:=
 if fresh=true∧ver=0 then(if t.is=true then 5 else 0)else if t.is=true then(if t.ver=ver then 0 else 7)else 6
theorem zsD(h:St w0 E w)(i:Nat){b:Nat}{m:List (ByteArray×Thg)}{s:Seg}(hi:nth E i=some s)(hs:RackS b m s){n:ByteArray}{ver:Int}{fresh:Bool}{k:Int→PT}(hk:∀w',St w0 E w'→k (mayC (tget m n) ver fresh) w') :
  L.call Pr z2W [.pointer (some ⟨b,0,none⟩),.string n,I ver,.bool fresh] (.one (.one (.int .i64))) k w:=by
 obtain⟨r,sm,hm,rfl⟩:=hs
 refine z01 (z8h _ _ _ _) ?_
 unfold z4L
 have h:=(h.front i hi).split
 (refine nn ?_;refine ldC h ?_)
 refine tlook h 1 rfl hm ?_
 generalize tget m n=t at hk
 refine nw h ?_;clear h;(try clear w);intro b4 w h
 (refine stC h ?_;clear h;(try clear w);intro w h;dsimp only[putN,setN]at h)
 have fin:∀{e:Int}{w:World},e=mayC t ver fresh→St w0 ([Cl b4 z0e [.string t.1,I t.2.1,I t.2.2.1,I t.2.2.2.1,I t.2.2.2.2.1,I t.2.2.2.2.2.1,I t.2.2.2.2.2.2.1,I t.2.2.2.2.2.2.2.1,.bool t.2.2.2.2.2.2.2.2.1]]::[Cl b z0Q [.map (some r),.func (.func z1q) #[] #[]]]::sm::delN E i) w→
   ∃x,I e=RT.val (.one (.one (.int .i64))) x∧k x w:=by
  rintro e w rfl h
  exact⟨_,rfl,hk w (St.setN_same' i hi (St.back i hi (dl0_ h).glue))⟩
 have c2:∀{k5:Unit→PT}{w:World},¬(fresh=true∧ver=0)→(∀{w},mayC t ver fresh=0→St w0 ([Cl b4 z0e [.string t.1,I t.2.1,I t.2.2.1,I t.2.2.2.1,I t.2.2.2.2.1,I t.2.2.2.2.2.1,I t.2.2.2.2.2.2.1,I t.2.2.2.2.2.2.2.1,.bool t.2.2.2.2.2.2.2.2.1]]::[Cl b z0Q [.map (some r),.func (.func z1q) #[] #[]]]::sm::delN E i) w→k5 () w)→
   St w0 ([Cl b4 z0e [.string t.1,I t.2.1,I t.2.2.1,I t.2.2.2.1,I t.2.2.2.2.1,I t.2.2.2.2.2.1,I t.2.2.2.2.2.2.1,I t.2.2.2.2.2.2.2.1,.bool t.2.2.2.2.2.2.2.2.1]]::[Cl b z0Q [.map (some r),.func (.func z1q) #[] #[]]]::sm::delN E i) w→
   L.load (.one (.bool)) ((⟨b4,0,none⟩:Addr).add 8) (fun(x18:Bool)=>
   L.ite (!x18) (
    fun w=>∃x,Value.int .i64 6=RT.val (.one (.one (.int .i64))) x∧k x w)<|
   L.load (.one (.int .i64)) ((⟨b4,0,none⟩:Addr).add 6) fun(x19:Int)=>
   L.ite (x19 != ver) (
    fun w=>∃x,Value.int .i64 7=RT.val (.one (.one (.int .i64))) x∧k x w)<|
   k5 (())) w:=by
  intro k5 w hf hk5 h
  (refine ldC h ?_)
  refine it (fun h1=>?_) (fun h1=>?_)<;>(try simp only[zB]at h1)
  ·exact fin (by unfold mayC;rw[if_neg hf,if_neg (by simp[Thg.is,h1])]) h
  (refine ldC h ?_)
  have h1:t.is=true:=by simpa using h1
  refine it (fun h2=>?_) (fun h2=>?_)<;>(try simp only[zB]at h2)
  ·exact fin (by unfold mayC;rw[if_neg hf,if_pos h1,if_neg h2]) h
  ·exact hk5 (by unfold mayC;rw[if_neg hf,if_pos h1,if_pos h2]) h
 refine z1h (fun z w=>mayC t ver fresh=0∧St w0 ([Cl b4 z0e [.string t.1,I t.2.1,I t.2.2.1,I t.2.2.2.1,I t.2.2.2.2.1,I t.2.2.2.2.2.1,I t.2.2.2.2.2.2.1,I t.2.2.2.2.2.2.2.1,.bool t.2.2.2.2.2.2.2.2.1]]::[Cl b z0Q [.map (some r),.func (.func z1q) #[] #[]]]::sm::delN E i) w) (fun k5 hk5=>?_) (fun z w ⟨hz,h⟩=>fin hz.symm h)
 cases fresh with
 | false=>exact itF rfl (itF rfl (c2 (by simp) (fun h1 h=>hk5 _ _ ⟨h1,h⟩) h))
 | true=>
  refine itT rfl ?_
  refine it (fun hv=>?_) (fun hv=>?_)<;>(try simp only[zB]at hv)
  ·(refine ldC h ?_)
   refine it (fun h1=>?_) (fun h1=>?_)<;>(try simp only[zB]at h1)
   ·exact fin (by unfold mayC;rw[if_pos ⟨rfl,hv⟩,if_pos h1]) h
   ·refine itT rfl (itT (by simp[hv]) ?_)
    exact fin (by unfold mayC;rw[if_pos ⟨rfl,hv⟩,if_neg (by simp[Thg.is,h1])]) h
  ·refine itT rfl (itF (by simp[hv]) ?_)
   exact c2 (fun hh=>hv hh.2) (fun h1 h=>hk5 _ _ ⟨h1,h⟩) h
theorem zsF(h:St w0 E w)(i:Nat){b:Nat}{m:List (ByteArray×Thg)}{s:Seg}(hi:nth E i=some s)(hs:RackS b m s){n:ByteArray}{k:eThg.T×Bool×Unit→PT}(hk:∀w',St w0 E w'→k (tget m n,(tget m n).is,()) w') :
  L.call Pr z2X [.pointer (some ⟨b,0,none⟩),.string n] (.tup [eThg,.one .bool]) k w:=by
 obtain⟨r,sm,hm,rfl⟩:=hs
 refine z01 (z8i _ _) ?_
 unfold z4M
 have h:=(h.front i hi).split
 refine nw h ?_;clear h;(try clear w);intro b1 w h
 (refine nn ?_;refine ldC h ?_)
 refine tlook h 2 rfl hm ?_
 generalize tget m n=t at hk
 refine nw h ?_;clear h;(try clear w);intro b5 w h
 (refine stC h ?_;clear h;(try clear w);intro w h;dsimp only[putN,setN]at h;refine dr h ?_;clear h;(try clear w);intro w h;refine laC h ?_;refine ldC h ?_;refine stC h ?_;clear h;(try clear w);intro w h;dsimp only[putN,setN]at h;refine ckC h ?_;refine laC h ?_)
 exact⟨(t,t.is,()),rfl,hk w (St.setN_same' i hi (St.back i hi (dl0_ (dl0_ h)).glue))⟩
def sameC(a b:Cfg):Bool:=(a.1 == b.1)&&((a.2.1 == b.2.1)&&((a.2.2.1 == b.2.2.1)&&((a.2.2.2.1 == b.2.2.2.1)&&((a.2.2.2.2.1 == b.2.2.2.2.1)&&((a.2.2.2.2.2.1 == b.2.2.2.2.2.1)&&true)))))
theorem zpq(a b:Cfg)(w:World):(Op.equalIn 10000 z0t (.agg (Cfg.cells a).toArray) (.agg (Cfg.cells b).toArray)).run Pr w = .ok (sameC a b) w:=by
 have hS:Pr.underlying z0t=some (.struct (Pr.fieldsOf z0t)):=by kernel_rfl
 have hp:Pr.stoodInHeld z0t=false:=by kernel_rfl
 obtain⟨a1,a2,a3,a4,a5,a6,⟨⟩⟩:=a
 obtain⟨b1,b2,b3,b4,b5,b6,⟨⟩⟩:=b
 rw[show(10000:Nat)=9999+1 from rfl,run_equalIn_agg w 9999 z0t _ _ hS hp]
 have u3:=Tryz.underlying3
 have i3:=Tryz.isAgg3
 have z3:=Tryz.sizeOf3
 have u9:=Tryz.underlying9
 have i9:=Tryz.isAgg9
 have z9:=Tryz.sizeOf9
 simp only[Program.fieldsOf,Tryz.underlying23]
 go_simp
 have e:(ByteArray.toList a1=ByteArray.toList b1)↔(@BEq.beq ByteArray _ a1 b1)=true:=by rw[beq_toListBytes];simp
 unfold sameC
 by_cases h1:(@BEq.beq ByteArray _ a1 b1)=true
 ·rw[if_pos (e.2 h1)]
  simp only[show(a1 == b1)=true from h1,Bool.true_and]
  by_cases h2: @Eq Int a2 b2
  ·by_cases h3: @Eq Int a3 b3
   ·by_cases h4: @Eq Int a4 b4
    ·by_cases h5: @Eq Int a5 b5
     ·by_cases h6: @Eq Int a6 b6
      ·cases h2;cases h3;cases h4;cases h5;cases h6;simp
      ·cases h2;cases h3;cases h4;cases h5;simp[h6]
     ·cases h2;cases h3;cases h4;simp[h5]
    ·cases h2;cases h3;simp[h4]
   ·cases h2;simp[h3]
  ·simp[h2]
 ·rw[if_neg (fun h=>h1 (e.1 h))]
  have:(a1 == b1)=false:=by simpa using h1
  simp[this]
theorem zqd(a b:Cfg)(w:World):(do eqGuard .eql z0t (.tmp 0) (.tmp 0) (.agg (Cfg.cells a).toArray) (.agg (Cfg.cells b).toArray);binOp .eql z0t (.agg (Cfg.cells a).toArray) (.agg (Cfg.cells b).toArray):Sem Value).run Pr w = .ok (.bool (sameC a b)) w:=
 znN (by kernel_rfl) (zpq a b w)
theorem zr9(h:St w0 E w){a b:Cfg}{k:Bool→PT}(hk:∀w',St w0 E w'→k (sameC a b) w') :
  L.callV Pr (.func (.func z1q) #[] #[]) [.agg (Cfg.cells a).toArray,.agg (Cfg.cells b).toArray] (.one (.one .bool)) k w:=by
 refine z4W (fs:=#[]) (cs:=#[]) zhP (zhY a b) ?_
 unfold zcQ
 refine nw h ?_;clear h;(try clear w);intro b1 w h
 refine nw h ?_;clear h;(try clear w);intro b2 w h
 (refine laC h ?_;refine laC h ?_)
 unfold L.chkSem
 refine⟨zqd a b w,_,rfl,?_⟩
 exact hk w (dl0_ (dl0_ h))
def cfgOf(t:Thg):Cfg:=(t.1,t.2.1,t.2.2.1,t.2.2.2.1,t.2.2.2.2.1,t.2.2.2.2.2.1,())
def putC(m:List (ByteArray×Thg))(n:ByteArray)(c:Cfg)(ver:Int):List (ByteArray×Thg):=
 mset m n (thgOf c ver (if(tget m n).is=true∧sameC (cfgOf (tget m n)) c=true then(tget m n).gen else(tget m n).gen+1) true)
theorem zsx(h:St w0 E w)(i:Nat){b:Nat}{m:List (ByteArray×Thg)}{s:Seg}(hi:nth E i=some s)(hs:RackS b m s){n:ByteArray}{c:Cfg}{ver:Int}(hg:0≤(tget m n).gen∧(tget m n).gen<4611686018427387904){k:Unit→PT}
  (hk:∀s' w',RackS b (putC m n c ver) s'→St w0 (setN E i s') w'→k () w') :
  L.call Pr z2V [.pointer (some ⟨b,0,none⟩),.string n,.agg (Cfg.cells c).toArray,I ver] (.tup []) k w:=by
 obtain⟨r,sm,hm,rfl⟩:=hs
 refine z01 (z8g _ _ c _) ?_
 unfold z4K
 unfold putC at hk
 have h:=(h.front i hi).split
 refine nw h ?_;clear h;(try clear w);intro b1 w h
 (refine nn ?_;refine ldC h ?_)
 refine tlook h 2 rfl hm ?_
 generalize tget m n=t at hk hg
 refine nw h ?_;clear h;(try clear w);intro b5 w h
 (refine stC h ?_;clear h;(try clear w);intro w h;dsimp only[putN,setN]at h)
 let cells:Int→List Value:=fun g=>[.string t.1,I t.2.1,I t.2.2.1,I t.2.2.2.1,I t.2.2.2.2.1,I t.2.2.2.2.2.1,I t.2.2.2.2.2.2.1,I g,.bool t.2.2.2.2.2.2.2.2.1]
 have hw:IntKind.wrap .i64 (t.gen+1)=t.gen+1:=wr (by omega) (by omega)
 refine z1h (fun z w=>St w0 ([Cl b5 z0e (cells (if t.is=true∧sameC (cfgOf t) c=true then t.gen else t.gen+1))]::[Cl b1 z0t (Cfg.cells c)]::[Cl b z0Q [.map (some r),.func (.func z1q) #[] #[]]]::sm::delN E i) w) (fun k6 hk6=>?_) (fun z w h=>?_)
 ·have h:St w0 ([Cl b5 z0e (cells t.gen)]::[Cl b1 z0t (Cfg.cells c)]::[Cl b z0Q [.map (some r),.func (.func z1q) #[] #[]]]::sm::delN E i) w:=h
  dsimp only[cells]at h hk6
  have more:∀{w},¬(t.is=true∧sameC (cfgOf t) c=true)→St w0 ([Cl b5 z0e [.string t.1,I t.2.1,I t.2.2.1,I t.2.2.2.1,I t.2.2.2.2.1,I t.2.2.2.2.2.1,I t.2.2.2.2.2.2.1,I t.gen,.bool t.2.2.2.2.2.2.2.2.1]]::[Cl b1 z0t (Cfg.cells c)]::[Cl b z0Q [.map (some r),.func (.func z1q) #[] #[]]]::sm::delN E i) w→
    L.load (.one (.int .i64)) ((⟨b5,0,none⟩:Addr).add 7) (fun(x9:Int)=>
     L.store ((⟨b5,0,none⟩:Addr).add 7) [.int .i64 (IntKind.wrap .i64 (x9+1))]<| k6 (())) w:=by
   intro w hn h
   (refine ldC h ?_;refine stC h ?_;clear h;(try clear w);intro w h;dsimp only[putN,setN]at h)
   rw[hw]at h
   refine hk6 _ w ?_
   rw[if_neg hn];exact h
  (refine dr h ?_;clear h;(try clear w);intro w h;refine ldC h ?_)
  refine it (fun h1=>?_) (fun h1=>?_)<;>(try simp only[zB]at h1)
  ·exact more (fun hh=>by have:=hh.1;simp only[Thg.is]at this;rw[h1]at this;cases this) h
  ·have h1:t.is=true:=by simpa using h1
   (refine nn ?_;refine ldC h ?_;refine laC h ?_;refine laC h ?_)
   refine zr9 (a:=cfgOf t) (b:=c) h fun w h=>?_
   refine it (fun h2=>?_) (fun h2=>?_)<;>(try simp only[zB]at h2)
   ·exact more (fun hh=>by rw[hh.2]at h2;cases h2) h
   ·have h2:sameC (cfgOf t) c=true:=by simpa using h2
    refine hk6 _ w ?_
    rw[if_pos ⟨h1,h2⟩];exact h
 ·dsimp only[cells]at h
  (refine dr h ?_;clear h;(try clear w);intro w h;refine nn ?_;refine ldC h ?_;refine laC h ?_;refine ldC h ?_)
  refine MpS.set mkS zkL h 3 rfl hm (thgOf c ver (if t.is=true∧sameC (cfgOf t) c=true then t.gen else t.gen+1) true) rfl fun sm' w hm' h=>?_
  exact⟨(),rfl,hk _ w ⟨r,sm',hm',rfl⟩ (St.back i hi (dl0_ (dl0_ h)).glue)⟩
abbrev Tgt:=HT [.str,.str,.int .i64]
def eT(t:Tgt):List Value:=[.string t.1,.string t.2.1,I t.2.2.1]
theorem encT:Enc eT 3:=⟨fun _=>rfl,fun _=>rfl,by decide⟩
structure ARt where
 name:ByteArray
 cfg:ByteArray
 ts:List Tgt
 roll:Int
abbrev Thr:=HT [.str,.str,.slice,.int .i64,.int .i64,.int .i64,.bool]
abbrev eThr:E1:=.agg [.str,.str,.slice,.int .i64,.int .i64,.int .i64,.bool]
abbrev Thr.ver(t:Thr):Int:=t.2.2.2.2.1
abbrev Thr.gen(t:Thr):Int:=t.2.2.2.2.2.1
abbrev Thr.is(t:Thr):Bool:=t.2.2.2.2.2.2.1
def vThr(t:Thr):Value:=eThr.val t
def noThr:Thr:=(s_,s_,⟨none,0,0⟩,0,0,0,false,())
structure AThr where
 r:ARt
 ver:Int
 gen:Int
 is:Bool
def noAThr:AThr:=⟨⟨s_,s_,[],0⟩,0,0,false⟩
structure RtE where
 k:ByteArray
 t:Thr
 ts:List Tgt
 sg:Seg
def RtE.ok(x:RtE):Prop:=Rw eT z08 3 x.t.2.2.1 x.ts x.sg
def RtE.abs(x:RtE):AThr:=⟨⟨x.t.1,x.t.2.1,x.ts,x.t.2.2.2.1⟩,x.t.ver,x.t.gen,x.t.is⟩
abbrev RtE.kt(x:RtE):ByteArray×Thr:=(x.k,x.t)
abbrev RtE.ka(x:RtE):ByteArray×AThr:=(x.k,x.abs)
theorem zin:Pr.underlying z0C=some (.map z00 z0k):=by kernel_rfl
theorem zthr(w:World):(zeroValue z0k).run Pr w = .ok (eThr.val noThr) w:=by
 have h:(Pr.info? z0k).map (·.zero)=some (some (.agg #[.string s_,.string s_,.slice none 0 0,I 0,I 0,I 0,.bool false])):=by kernel_rfl
 cases hi:Pr.info? z0k with
 | none=>rw[hi]at h;cases h
 | some i=>rw[hi]at h;simp only[Option.map_some,Option.some.injEq]at h;exact zv hi h w
def rget(m:List (ByteArray×AThr))(n:ByteArray):AThr:=(mget m n).getD noAThr
def RackR(b:Nat)(m:List (ByteArray×AThr))(s:Seg):Prop:=∃r sm,∃Q:List RtE,MpS Value.string vThr r (Q.map RtE.kt) sm∧(∀x∈Q,x.ok)∧m=Q.map RtE.ka∧
 s = [Cl b z0D [.map (some r),.func (.func z0H) #[] #[]]]++(sm++(Q.map RtE.sg).flatten)
def lget(Q:List RtE)(n:ByteArray):RtE:=(lfind RtE.k Q n).getD ⟨n,noThr,[],[]⟩
theorem zs4(Q:List RtE)(n:ByteArray):(mget (Q.map RtE.kt) n).getD noThr=(lget Q n).t:=by
 have:=z69 (key:=RtE.k) RtE.t n Q
 unfold lget;rw[this];cases lfind RtE.k Q n<;>rfl
theorem znv(Q:List RtE)(n:ByteArray):rget (Q.map RtE.ka) n=(lget Q n).abs:=by
 have:=z69 (key:=RtE.k) RtE.abs n Q
 unfold rget lget;rw[this];cases lfind RtE.k Q n<;>rfl
theorem rlook{r:Nat}{Q:List RtE}{s:Seg}(h:St w0 E w)(i:Nat)(hi:nth E i=some s)(hm:MpS Value.string vThr r (Q.map RtE.kt) s){n:ByteArray}{kk:eThr.T→PT}(hk:kk (lget Q n).t w) :
  L.semR Pr (.one eThr) (Instr.lookup z0C (.map (some r)) (.string n) false) kk w:=by
 refine MpS.get mkS zin zthr (fun t:Thr=>t) (fun _=>rfl) h i hi hm ?_
 have:((mget (Q.map RtE.kt) n).map fun t:Thr=>t).getD noThr=(lget Q n).t:=by rw[←zs4];cases mget (Q.map RtE.kt) n<;>rfl
 rw[this];exact hk
theorem zrj(h:St w0 E w){k:Option Addr→PT}(hk:∀b s w',RackR b [] s→St w0 (s::E) w'→k (some ⟨b,0,none⟩) w') :
  L.call Pr z4g [.func (.func z0H) #[] #[]] (.one (.one .ptr)) k w:=by
 refine z01 (zai ⟨.func z0H,#[],#[]⟩) ?_
 unfold z6q
 refine MpS.new h Value.string vThr fun r s w hm h=>?_
 refine nw h ?_;clear h;(try clear w);intro b w h
 exact⟨_,rfl,hk b _ w ⟨r,s,[],hm,by simp,rfl,by simp⟩ h.glue⟩
def mayV(is:Bool)(tv ver:Int)(fresh:Bool):Int:=
 if fresh=true∧ver=0 then(if is=true then 5 else 0)else if is=true then(if tv=ver then 0 else 7)else 6
theorem zsC(h:St w0 E w)(i:Nat){b:Nat}{m:List (ByteArray×AThr)}{s:Seg}(hi:nth E i=some s)(hs:RackR b m s){n:ByteArray}{ver:Int}{fresh:Bool}{k:Int→PT}(hk:∀w',St w0 E w'→k (mayV (rget m n).is (rget m n).ver ver fresh) w') :
  L.call Pr z3f [.pointer (some ⟨b,0,none⟩),.string n,I ver,.bool fresh] (.one (.one (.int .i64))) k w:=by
 obtain⟨r,sm,Q,hm,hL,rfl,rfl⟩:=hs
 refine z01 (z8r _ _ _ _) ?_
 unfold z58
 rw[znv]at hk
 have h:=(h.front i hi).split3
 (refine nn ?_;refine ldC h ?_)
 refine rlook h 1 rfl hm ?_
 generalize lget Q n=t at hk
 refine nw h ?_;clear h;(try clear w);intro b4 w h
 ((try dsimp only[setN,List.cons_append,List.nil_append]at h);repeat' (first | refine nn ?_ | (refine dr h ?_;clear h;(try clear w);intro w h) | refine ldC h ?_ | refine laC h ?_ | refine ckC h ?_ | (refine stC h ?_;clear h;(try clear w);intro w h;(try dsimp only[putN,setN]at h)) | rw[z4F] | refine jd ?_ | (refine it (fun hc=>?_) (fun hc=>?_)<;>(try simp only[zB]at hc))))
 all_goals exact⟨_,rfl,eqk (hk w (St.again i hi (dl0_ h).glue3)) (by clear h;simp_all [mayV,RtE.abs,Thr.is,Thr.ver])⟩
theorem RackR.put{r b:Nat}{Q:List RtE}{sm:Seg}(x:RtE)(hx:x.ok)(hQ:∀x∈Q,x.ok)(hm:MpS Value.string vThr r (mset (Q.map RtE.kt) x.k x.t) sm)
  (h:St w0 (x.sg::(Q.map RtE.sg).flatten::[Cl b z0D [.map (some r),.func (.func z0H) #[] #[]]]::sm::E) w) :
  ∃s,RackR b (mset (Q.map RtE.ka) x.k x.abs) s∧St w0 (s::E) w:=by
 have e1:=z9E (key:=RtE.k) RtE.t x Q
 have e2:=z9E (key:=RtE.k) RtE.abs x Q
 have h:=St.lput (key:=RtE.k) h
 refine⟨_,⟨r,sm,lput RtE.k Q x,by rw[e1];exact hm,fun y hy=>?_,e2.symm,rfl⟩,?_⟩
 ·rcases zeV hy with rfl | hy
  ·exact hx
  ·exact hQ y hy
 ·have h:=fr2_ (fr2_ h)
  exact h.glue3
def dropRt(m:List (ByteArray×AThr))(n:ByteArray):List (ByteArray×AThr):=mset m n ⟨⟨s_,s_,[],0⟩,0,(rget m n).gen,false⟩
def argS(l:List ByteArray)(m:Nat):TT [.one .str]:=((l[m]?).getD s_,())
theorem znZ{l:List ByteArray}{m:Nat}{x:ByteArray}(h:l[m]? = some x):argS l m=(x,()):=by simp[argS,h]
structure AShelf where
 m:List (ByteArray×Thg)
 r:List (ByteArray×AThr)
 n:Int
structure AShelf.Ok(a:AShelf):Prop where
 lo:0≤a.n
 hi:a.n<1000000000
 gen:∀x,0≤(tget a.m x).gen∧(tget a.m x).gen≤a.n
 fm:a.m.length≤a.n
 fr:a.r.length≤a.n
abbrev shB(b bc br:Nat)(n:Int):Seg:=[Cl b zcE [.pointer (some ⟨bc,0,none⟩),.pointer (some ⟨br,0,none⟩),I n]]
def ShS(b:Nat)(a:AShelf)(s:Seg):Prop:=a.Ok∧∃bc br sc sr,RackS bc a.m sc∧RackR br a.r sr∧s=shB b bc br a.n++(sc++sr)
theorem zkN(m:List (ByteArray×Thg))(n x:ByteArray)(t:Thg):tget (mset m n t) x=if n=x then t else tget m x:=by
 unfold tget;rw[z47];split<;>rfl
theorem zoI(m:List (ByteArray×AThr))(n x:ByteArray)(t:AThr):rget (mset m n t) x=if n=x then t else rget m x:=by
 unfold rget;rw[z47];split<;>rfl
theorem zfs{κ υ:Type}[DecidableEq κ](m:List (κ×υ))(k:κ)(u:υ):(mset m k u).length≤m.length+1:=by
 cases h:mget m k with
 | none=>rw[z4E h];simp
 | some v=>rw[zhy h];omega
def shPut(a:AShelf)(c:Cfg)(ver:Int):AShelf×Int×Int:=
 if specC c≠0 then(a,0,specC c)else if mayC (tget a.m c.1) ver true≠0 then(a,0,mayC (tget a.m c.1) ver true)else(⟨putC a.m c.1 c (a.n+1),a.r,a.n+1⟩,a.n+1,0)
theorem zr7(h:St w0 E w)(i:Nat){b:Nat}{a:AShelf}{s:Seg}(hi:nth E i=some s)(hs:ShS b a s)(hn:a.n<900000000){c:Cfg}{ver:Int}{k:Int×Int×Unit→PT}
  (hk:∀s' w',ShS b (shPut a c ver).1 s'→St w0 (setN E i s') w'→k ((shPut a c ver).2.1,(shPut a c ver).2.2,()) w') :
  L.call Pr z3N [.pointer (some ⟨b,0,none⟩),.agg (Cfg.cells c).toArray,I ver] (.tup [.one (.int .i64),.one (.int .i64)]) k w:=by
 have hs0:=hs
 obtain⟨ok,bc,br,sc,sr,hC,hR,rfl⟩:=hs
 have hlo:=ok.lo
 refine z01 (z9N _ c _) ?_
 unfold z6h
 have h:=(h.front i hi).split3
 refine nw h ?_;clear h;(try clear w);intro b1 w h
 (refine laC h ?_)
 refine zo9 (c:=c) h fun w h=>?_
 unfold shPut at hk
 refine jd ?_
 refine it (fun he=>?_) (fun he=>?_)<;>(try simp only[zB]at he)
 ·(refine dr h ?_;clear h;(try clear w);intro w h;refine nn ?_;refine ldC h ?_;refine ldC h ?_)
  refine zsD h 2 rfl hC fun w h=>?_
  rw[if_neg (by simpa using he)]at hk
  refine it (fun hm=>?_) (fun hm=>?_)<;>(try simp only[zB]at hm)
  ·rw[if_pos hm]at hk
   exact⟨_,rfl,hk _ w hs0 (St.back i hi (dl0_ h).glue3)⟩
  ·rw[if_neg (by simpa using hm)]at hk
   (refine nn ?_;refine ldC h ?_;refine nn ?_;refine stC h ?_;clear h;(try clear w);intro w h;dsimp only[putN,setN]at h;refine dr h ?_;clear h;(try clear w);intro w h;refine nn ?_;refine ldC h ?_;refine ldC h ?_;refine laC h ?_;refine nn ?_;refine ldC h ?_)
   rw[wr (by omega) (by omega)]at h ⊢
   have hgc:=ok.gen c.1
   refine zsx (c:=c) h 2 rfl hC (by omega) fun sc' w hC' h=>?_
   have h:St w0 ([Cl b1 z0t (Cfg.cells c)]::shB b bc br (a.n+1)::sc'::sr::delN E i) w:=h
   (refine nn ?_;refine ldC h ?_)
   refine⟨(a.n+1,0,()),rfl,hk _ w ⟨⟨by simp only;omega,by simp only;omega,fun x=>?_,?_,?_⟩,bc,br,sc',sr,hC',hR,rfl⟩ (St.back i hi (dl0_ h).glue3)⟩
   ·simp only[putC]
    rw[zkN]
    have hx:=ok.gen x
    split
    ·simp only[thgOf,Thg.gen]
     split<;>constructor<;>(simp only[Thg.gen]at hgc ⊢;omega)
    ·omega
   ·have:=ok.fm;have:=zfs a.m c.1 (thgOf c (a.n+1) (if(tget a.m c.1).is=true∧sameC (cfgOf (tget a.m c.1)) c=true then(tget a.m c.1).gen else(tget a.m c.1).gen+1) true)
    simp only[putC];omega
   ·have:=ok.fr;simp only;omega
 ·refine it (fun hm=>?_) (fun hm=>?_)<;>(try simp only[zB]at hm)
  ·rw[if_pos he]at hk
   exact⟨_,rfl,hk _ w hs0 (St.back i hi (dl0_ h).glue3)⟩
  ·exact(he hm).elim
theorem zqU{T:List (ByteArray×Rv)}{n:ByteArray}(h:∀p∈T,p.2.1=p.1∧p.1≠s_){t:Rv}(hm:mget T n=some t):t.1=n∧n≠s_:=by
 have:=z3R hm
 have h2:=h _ this
 exact h2
def nbRv(x6:Rv):Bool:=!((x6.1 == s_)&&((x6.2.1 == 0)&&((x6.2.2.1 == s_)&&((x6.2.2.2.1 == 0)&&((x6.2.2.2.2.1 == 0)&&((x6.2.2.2.2.2.1 == 0)&&((x6.2.2.2.2.2.2.1 == 0)&&((x6.2.2.2.2.2.2.2.1 == 0)&&true))))))))
theorem nbRv1{t:Rv}(ht:t.1≠s_):nbRv t=true:=by
 have:(t.1 == s_)=false:=by
  cases e:(t.1 == s_) with
  | false=>rfl
  | true=>exact absurd (zgW.1 e) ht
 unfold nbRv
 rw[this];rfl
theorem zom(h:St w0 E w)(i:Nat){b:Nat}{a:ABook}{s:Seg}(hi:nth E i=some s)(hs:BkS b a s){c:Cfg}{g:Nat}(hc:shortB c.1.data.toList 16=true)(h1:1≤g)(hg:g<100)(hf:a.all.length<999999){k:ByteArray×Bool×Unit→PT}
  (hk:∀s' w',BkS b (bkStamp a c g).1 s'→St w0 (setN E i s') w'→k ((bkStamp a c g).2.1,(bkStamp a c g).2.2,()) w') :
  L.call Pr z5Y [.pointer (some ⟨b,0,none⟩),.agg (Cfg.cells c).toArray,I g] (.tup [.one .str,.one .bool]) k w:=by
 have hs0:=hs
 obtain⟨ok,rA,rP,sA,sP,hA,hP,rfl⟩:=hs
 refine z01 (zd6 _ c _) ?_
 unfold z8I
 have hne:=zqy c.1 hg
 unfold bkStamp bkHas at hk
 have h:=(h.front i hi).split3
 refine nw h ?_;clear h;(try clear w);intro b1 w h
 (refine ldC h ?_)
 refine zsT h z5T hc h1 hg fun w h=>?_
 generalize revB c.1 g=rev at hk hne
 refine itF (by rw[z3Z];exact decide_eq_false hne) ?_
 (refine nn ?_;refine ldC h ?_)
 refine rlookup h 2 rfl hA ?_
 unfold L.chkSem
 cases hm:mget a.all rev with
 | none=>
  rw[hm]at hk
  refine⟨zs2 w,itF rfl ?_⟩
  rw[if_neg (by simp)]at hk
  (refine dr h ?_;clear h;(try clear w);intro w h;refine nn ?_;refine ldC h ?_;refine laC h ?_)
  refine MpS.set mkStr zhc h 2 rfl hA (rvOf rev g c) rfl fun sA' w hA' h=>?_
  dsimp only[setN]at h
  refine⟨(rev,true,()),rfl,hk _ w ⟨⟨?_,?_⟩,rA,rP,sA',sP,hA',hP,rfl⟩ (St.back i hi (dl0_ h).glue3)⟩
  ·intro p hp
   rcases z1F hp with rfl | hp
   ·exact⟨rfl,hne⟩
   ·exact ok.name p hp
  ·have:=zfs a.all rev (rvOf rev g c);show(mset a.all rev (rvOf rev g c)).length<1000000;omega
 | some t=>
  rw[hm]at hk
  have ht:=zqU ok.name hm
  have ht1:t.1≠s_:=by rw[ht.1];exact ht.2
  dsimp only[Option.getD]
  refine⟨(zs1 t ht1 w).trans (by show _=Result.ok (Value.bool (nbRv t)) w;rw[nbRv1 ht1]),itT (nbRv1 ht1) ?_⟩
  rw[if_pos (by rfl)]at hk
  exact⟨(rev,false,()),rfl,hk _ w hs0 (St.back i hi (dl0_ h).glue3)⟩
theorem zju(h:St w0 E w)(i:Nat){s:Seg}(hi:nth E i=some s){r:Nat}{m:List (ByteArray×Rv)}(hm:MpS Value.string vRv r m s)(hn:m.length<1000000000){k:Sl→PT}
  (hk:∀v s' w',Rw eS z00 1 v (ssort (m.map (·.1))) s'→St w0 (s'::E) w'→k v w'):L.call Pr z1s [.map (some r)] (.one (.one .slice)) k w:=by
 refine z01 (z6j _) ?_
 unfold z3s
 refine z01 (z2B _) ?_
 unfold z1j
 have h:=h.front i hi
 refine nw h ?_;clear h;(try clear w);intro c w h
 refine⟨⟨.func z09,#[],#[.pointer (some ⟨c,0,none⟩)]⟩,rfl,?_⟩
 have hY:YldM Pr w0 [[Cl c z0l [.map (some r)]],s] (.func (.func z09) #[] #[.pointer (some ⟨c,0,none⟩)]) (m.map (·.1)) Value.string:=by
  intro yv R J Jd F w h hJ step fin fin2
  refine⟨z2t,z2u yv ⟨c,0,none⟩ ?_⟩
  unfold z1c
  exact zfx (kv:=Value.string) (vv:=vRv) unS (fun _=>rfl) zhc (lk:=.str) (ev:=eRv) (fun x=>x) (fun _=>rfl) (fun x:Rv=>x) (fun _=>rfl) J Jd hm h hJ (fun seen k F X w hl hJ h=>step seen k F X w (by simpa using hl) hJ h) fin fin2
 refine z7z (fv:=⟨.func z09,#[],#[.pointer (some ⟨c,0,none⟩)]⟩) hY h (by simpa using hn) fun v s' w hr h=>⟨v,rfl,hk v s' w hr ?_⟩
 have h:=fr1_ h
 exact St.again (i+1) (E:=s'::E) hi h
def bkAll(a:ABook):List ByteArray:=ssort (a.all.map (·.1))
theorem zrA(h:St w0 E w)(i:Nat){b:Nat}{a:ABook}{s:Seg}(hi:nth E i=some s)(hs:BkS b a s){k:Sl→PT}(hk:∀v s' w',Rw eS z00 1 v (bkAll a) s'→St w0 (s'::E) w'→k v w') :
  L.call Pr z74 [.pointer (some ⟨b,0,none⟩)] (.one (.one .slice)) k w:=by
 obtain⟨ok,rA,rP,sA,sP,hA,hP,rfl⟩:=hs
 refine z01 (zev _) ?_
 unfold z9V
 have h:=(h.front i hi).split3
 have hf:=ok.few
 (refine nn ?_;refine ldC h ?_)
 refine zju h 1 rfl hA (by omega) fun v s' w hr h=>?_
 refine zlC h (Rw.rd encS h 0 rfl hr) (by rw[z2R,List.length_map];omega) (Rw.nil0 encS hr) fun v' s2 w hr2 _ h=>⟨v',rfl,hk v' s2 w hr2 ?_⟩
 have h:=dl1_ h
 have h:=fr3_ (fr3_ (fr3_ h))
 have h:=h.glue3
 exact St.again (i+1) (E:=s2::E) hi h
def bkStep(a:ABook)(c:ByteArray)(q:ByteArray→Bool)(t:Rv)(rev:ByteArray):Rv:=
 if(bkGet a rev).2.2.1=c then if t.2.1<(bkGet a rev).2.1 then if q rev=true then bkGet a rev else t else t else t
def bkBest(a:ABook)(c:ByteArray)(q:ByteArray→Bool):Rv:=(bkAll a).foldl (bkStep a c q) noRv
theorem zlB(h:St w0 E w)(i:Nat){b:Nat}{a:ABook}{s:Seg}(hi:nth E i=some s)(hs:BkS b a s){c:ByteArray}{fv:FV}{q:ByteArray→Bool}
  (hq:∀{E':List Seg}{w:World}{x:ByteArray}{k:Bool→PT},St w0 (s::E') w→(∀w',St w0 (s::E') w'→k (q x) w')→L.callV Pr (.func fv.fn fv.fs fv.cs) [.string x] (.one (.one .bool)) k w) {k:ByteArray→PT}
  (hk:∀w',St w0 E w'→k (bkBest a c q).1 w'):L.call Pr z3J [.pointer (some ⟨b,0,none⟩),.string c,fv.val] (.one (.one .str)) k w:=by
 obtain⟨ok,rA,rP,sA,sP,hA,hP,rfl⟩:=hs
 refine z01 (zc6 _ _ fv) ?_
 unfold z80
 have h:=(h.front i hi).split3
 have hf:=ok.few
 refine nw h ?_;clear h;(try clear w);intro b1 w h
 (refine stC h ?_;clear h;(try clear w);intro w h;dsimp only[putN,setN]at h;refine nn ?_;refine ldC h ?_)
 refine zju h 2 rfl hA (by omega) fun v s' w hr h=>?_
 have hl:(ssort (a.all.map (·.1))).length<1000000000:=by rw[z2R,List.length_map];omega
 have hlen:=Rw.len encS hr
 unfold bkBest bkAll at hk
 generalize ssort (a.all.map (·.1))=l at *
 refine z0u (fun q' y w=>∃(j:Nat),@Eq Int y.1 j∧q'+j=l.length∧St w0 (s'::[Cl b1 z0p (rvC ((l.take j).foldl (bkStep a c q) noRv))]::bkB b rA rP::sA::sP::delN E i) w) l.length ⟨0,rfl,rfl,h⟩ ?_
 clear h;(try clear w)
 rintro q' ⟨y,⟨⟩⟩ w ⟨j,hy,hq',h⟩ again hag
 simp only at hy
 subst hy
 refine it (fun hb=>?_) (fun hb=>?_)<;>(try simp only[zB]at hb)
 ·have hj:j<l.length:=by omega
  have hx:l[j]? = some l[j]:=List.getElem?_eq_getElem hj
  have next:∀{w}{t:Rv},bkStep a c q ((l.take j).foldl (bkStep a c q) noRv) l[j]=t→St w0 (s'::[Cl b1 z0p (rvC t)]::bkB b rA rP::sA::sP::delN E i) w→again (IntKind.wrap .i64 ((j:Int)+1),()) w:=by
   intro w t ht h
   refine hag (q'-1) _ w (by omega) ⟨j+1,?_,by omega,?_⟩
   ·show IntKind.wrap .i64 _=_
    rw[wr (by omega) (by omega)];omega
   ·rw[List.take_succ,hx,Option.toList_some,List.foldl_append,List.foldl_cons,List.foldl_nil,ht];exact h
  generalize (l.take j).foldl (bkStep a c q) noRv=t at h next
  unfold bkStep bkGet at next
  generalize l[j]=x at hx next
  refine jd ?_
  refine Rw.ix encS hr (by omega) (by simpa using hj) fun ea ha=>?_
  refine Rw.ld0 encS h 0 rfl hr ha (x:=x) (by simpa using hx) rfl rfl ?_
  (refine nn ?_;refine ldC h ?_)
  refine rlookup h 3 rfl hA ?_
  generalize (mget a.all x).getD noRv=r at next
  refine nw h ?_;clear h;(try clear w);intro b4 w h
  (refine stC h ?_;clear h;(try clear w);intro w h;dsimp only[putN,setN]at h;refine ldC h ?_)
  rw[z3Z]
  refine it (fun h1=>?_) (fun h1=>?_)<;>(try simp only[zB]at h1)
  ·rw[if_pos h1]at next
   (refine ldC h ?_;refine ldC h ?_)
   refine it (fun h2=>?_) (fun h2=>?_)<;>(try simp only[zB]at h2)
   ·rw[if_pos h2]at next
    have h:=fr5_ (fr5_ (fr5_ h))
    refine hq h.glue3 fun w h=>?_
    have h:=h.split3
    refine it (fun h3=>?_) (fun h3=>?_)<;>(try simp only[zB]at h3)
    ·rw[if_pos h3]at next
     (refine laC h ?_;refine stC h ?_;clear h;(try clear w);intro w h;dsimp only[putN,setN]at h)
     refine next rfl ?_
     have h:=dl3_ h
     have h:=fr4_ (fr4_ (fr2_ (fr2_ (fr2_ h))))
     exact h
    ·rw[if_neg (by simp[h3])]at next
     refine next rfl ?_
     have h:=dl3_ h
     have h:=fr4_ (fr4_ (fr2_ (fr2_ (fr2_ h))))
     exact h
   ·rw[if_neg (by omega)]at next
    exact next rfl (dl0_ h)
  ·rw[if_neg h1]at next
   exact next rfl (dl0_ h)
 ·have e:l.take j=l:=List.take_of_length_le (by omega)
  rw[e]at h
  (refine ldC h ?_)
  exact⟨_,rfl,hk w (St.again i hi (dl0_ (dl0_ h)).glue3)⟩
def bkLast(a:ABook)(c:ByteArray):ByteArray:=(bkBest a c fun _=>true).1
def bkReady(a:ABook)(c:ByteArray):ByteArray:=(bkBest a c (bkProved a)).1
theorem zmx(h:St w0 E w)(i:Nat){b:Nat}{a:ABook}{s:Seg}(hi:nth E i=some s)(hs:BkS b a s){c:ByteArray}{k:ByteArray×ByteArray×Unit→PT}(hk:∀w',St w0 E w'→k (bkLast a c,bkReady a c,()) w') :
  L.call Pr z5y [.pointer (some ⟨b,0,none⟩),.string c] (.tup [.one .str,.one .str]) k w:=by
 refine z01 (zc7 _ _) ?_
 unfold z81
 refine zlB h i hi hs (fv:=⟨.func z3j,#[],#[]⟩) (q:=fun _=>true) (fun{E' w x k} h hk=>?_) fun w h=>?_
 ·refine z4W (fs:=#[]) (cs:=#[]) zaO (zaV x) ?_
  unfold z6R
  exact⟨true,rfl,hk w h⟩
 refine zlB h i hi hs (fv:=⟨.func z1K,#[.pointer (some ⟨b,0,none⟩)],#[]⟩) (q:=bkProved a) (fun{E' w x k} h hk=>?_) fun w h=>⟨(_,_,()),rfl,hk w h⟩
 obtain⟨ok,rA,rP,sA,sP,hA,hP,rfl⟩:=hs
 refine z4W (fs:=#[.pointer (some ⟨b,0,none⟩)]) (cs:=#[]) zc1 (z8e _ _) ?_
 unfold z5E
 have h:=h.split3
 (refine nn ?_;refine ldC h ?_)
 refine MpS.get mkStr zjU zbool (fun t:Bool=>t) (fun _=>rfl) h 2 rfl hP ?_
 refine⟨_,rfl,?_⟩
 have:((mget a.pv x).map fun t:Bool=>t).getD false=bkProved a x:=by unfold bkProved;cases mget a.pv x<;>rfl
 rw[this]
 exact hk w h.glue3
end Go.Proofs.YtdcdhcgmeahfmaaGreatDoor

namespace Go.Proofs
open Go.Shelf
def Tryz.laysM171_ren:Go.Shelf.Ren:=⟨fun | 171=>71 | 243=>138 | 246=>216 | 283=>273 | 284=>274 | 285=>275 | 286=>276 | 129=>257 | 317=>310 | 318=>311 | 319=>312 | 320=>313 | 337=>323 | 338=>324 | n=>n,fun | 3=>3 | 9=>9 | 2=>2 | 4=>4 | 171=>397 | 0=>0 | 53=>384 | 37=>80 | 5=>5 | 173=>399 | 212=>434 | 51=>382 | 20=>20 | 213=>435 | 46=>312 | 232=>458 | 233=>459 | n=>n,fun | 17=>1 | 18=>4 | 19=>5 | n=>n⟩
theorem Tryz.laysM171:Go.Proofs.LaysM.n171 Tryz.prog Tryz.laysM171_ren:={
 mixed:=by kernel_rfl
 f129:=Tryz.func257.trans (congrArg some (by kernel_rfl))
 f171:=Tryz.func71.trans (congrArg some (by kernel_rfl))
 f243:=Tryz.func138.trans (congrArg some (by kernel_rfl))
 f246:=Tryz.func216.trans (congrArg some (by kernel_rfl))
 f283:=Tryz.func273.trans (congrArg some (by kernel_rfl))
 f284:=Tryz.func274.trans (congrArg some (by kernel_rfl))
 f285:=Tryz.func275.trans (congrArg some (by kernel_rfl))
 f286:=Tryz.func276.trans (congrArg some (by kernel_rfl))
 f317:=Tryz.func310.trans (congrArg some (by kernel_rfl))
 f318:=Tryz.func311.trans (congrArg some (by kernel_rfl))
 f319:=Tryz.func312.trans (congrArg some (by kernel_rfl))
 f320:=Tryz.func313.trans (congrArg some (by kernel_rfl))
 f337:=Tryz.func323.trans (congrArg some (by kernel_rfl))
 f338:=Tryz.func324.trans (congrArg some (by kernel_rfl))
 t0:=Tryz.underlying0
 a0:=Tryz.isAgg0
 z0:=Tryz.sizeOf0
 v0:=Tryz.zeroValue0
 t2:=Tryz.underlying2
 a2:=Tryz.isAgg2
 z2:=Tryz.sizeOf2
 v2:=Tryz.zeroValue2
 t3:=Tryz.underlying3
 a3:=Tryz.isAgg3
 z3:=Tryz.sizeOf3
 v3:=Tryz.zeroValue3
 t4:=Tryz.underlying4
 a4:=Tryz.isAgg4
 z4:=Tryz.sizeOf4
 v4:=Tryz.zeroValue4
 t5:=Tryz.underlying5
 a5:=Tryz.isAgg5
 z5:=Tryz.sizeOf5
 v5:=Tryz.zeroValue5
 t9:=Tryz.underlying9
 a9:=Tryz.isAgg9
 z9:=Tryz.sizeOf9
 v9:=Tryz.zeroValue9
 t20:=Tryz.underlying20
 a20:=Tryz.isAgg20
 z20:=Tryz.sizeOf20
 v20:=Tryz.zeroValue20
 t37:=Tryz.underlying80
 a37:=Tryz.isAgg80
 z37:=Tryz.sizeOf80
 v37:=Tryz.zeroValue80
 t46:=Tryz.underlying312
 a46:=Tryz.isAgg312
 z46:=Tryz.sizeOf312
 v46:=Tryz.zeroValue312
 t51:=Tryz.underlying382
 a51:=Tryz.isAgg382
 z51:=Tryz.sizeOf382
 v51:=Tryz.zeroValue382
 t53:=Tryz.underlying384
 a53:=Tryz.isAgg384
 z53:=Tryz.sizeOf384
 v53:=Tryz.zeroValue384
 t171:=Tryz.underlying397
 a171:=Tryz.isAgg397
 z171:=Tryz.sizeOf397
 v171:=Tryz.zeroValue397
 t173:=Tryz.underlying399
 a173:=Tryz.isAgg399
 z173:=Tryz.sizeOf399
 v173:=Tryz.zeroValue399
 t212:=Tryz.underlying434
 a212:=Tryz.isAgg434
 z212:=Tryz.sizeOf434
 v212:=Tryz.zeroValue434
 t213:=Tryz.underlying435
 a213:=Tryz.isAgg435
 z213:=Tryz.sizeOf435
 t232:=Tryz.underlying458
 a232:=Tryz.isAgg458
 z232:=Tryz.sizeOf458
 v232:=Tryz.zeroValue458
 t233:=Tryz.underlying459
 a233:=Tryz.isAgg459
 z233:=Tryz.sizeOf459
 v233:=Tryz.zeroValue459
 g17:=by kernel_rfl
 g18:=by kernel_rfl
 g19:=by kernel_rfl
 i0:=by kernel_rfl
 i2:=by kernel_rfl
 i3:=by kernel_rfl
 i4:=by kernel_rfl
 i5:=by kernel_rfl
 i9:=by kernel_rfl
 i20:=by kernel_rfl
 i37:=by kernel_rfl
 i46:=by kernel_rfl
 i51:=by kernel_rfl
 i53:=by kernel_rfl
 i171:=by kernel_rfl
 i173:=by kernel_rfl
 i212:=by kernel_rfl
 i232:=by kernel_rfl
 i233:=by kernel_rfl
 m17:=by kernel_rfl
 m18:=by kernel_rfl
 m19:=by kernel_rfl }
open Go.RowKit Go.Sort Go.Lib in
theorem Tryz.strconv_Itoa (n : Int) (h0 : -9223372036854775808 ≤ n) (h1 : n ≤ 9223372036854775807) (w : World) (htab : Lib.TabIs Tryz.prog w "internal/strconv.uint64pow10" .u64 Lib.pow10Tab) :
  Calls Tryz.prog 71 #[.int .i64 n] w fun e w'=>e = .returned (.string ⟨(Lib.itoa n).toArray⟩)∧∃k os,w'=grow (w.drewN k) os:=Any.strconv_Itoa Tryz.laysM171 n h0 h1 w htab
end Go.Proofs

namespace Go.Proofs
open Go.Shelf
def Tryz.lays156_ren:Go.Shelf.Ren:=⟨fun | 156=>72 | 165=>139 | 166=>140 | 169=>141 | 240=>217 | 241=>218 | 276=>277 | 277=>278 | n=>n,fun | 31=>33 | 9=>9 | 3=>3 | 4=>4 | 0=>0 | 20=>20 | 72=>231 | 76=>234 | 70=>229 | 37=>80 | 75=>233 | 127=>350 | 164=>401 | 5=>5 | 80=>68 | n=>n,fun | n=>n⟩
theorem Tryz.lays156:Go.Proofs.Lays.n156 Tryz.prog Tryz.lays156_ren:={
 mixed:=by kernel_rfl
 f156:=Tryz.func72.trans (congrArg some (by kernel_rfl))
 f165:=Tryz.func139.trans (congrArg some (by kernel_rfl))
 f166:=Tryz.func140.trans (congrArg some (by kernel_rfl))
 f169:=Tryz.func141.trans (congrArg some (by kernel_rfl))
 f240:=Tryz.func217.trans (congrArg some (by kernel_rfl))
 f241:=Tryz.func218.trans (congrArg some (by kernel_rfl))
 f276:=Tryz.func277.trans (congrArg some (by kernel_rfl))
 f277:=Tryz.func278.trans (congrArg some (by kernel_rfl))
 t0:=Tryz.underlying0
 a0:=Tryz.isAgg0
 z0:=Tryz.sizeOf0
 v0:=Tryz.zeroValue0
 t3:=Tryz.underlying3
 a3:=Tryz.isAgg3
 z3:=Tryz.sizeOf3
 v3:=Tryz.zeroValue3
 t4:=Tryz.underlying4
 a4:=Tryz.isAgg4
 z4:=Tryz.sizeOf4
 v4:=Tryz.zeroValue4
 t9:=Tryz.underlying9
 a9:=Tryz.isAgg9
 z9:=Tryz.sizeOf9
 v9:=Tryz.zeroValue9
 t20:=Tryz.underlying20
 a20:=Tryz.isAgg20
 z20:=Tryz.sizeOf20
 v20:=Tryz.zeroValue20
 t31:=Tryz.underlying33
 a31:=Tryz.isAgg33
 z31:=Tryz.sizeOf33
 v31:=Tryz.zeroValue33
 t37:=Tryz.underlying80
 a37:=Tryz.isAgg80
 z37:=Tryz.sizeOf80
 v37:=Tryz.zeroValue80
 t70:=Tryz.underlying229
 a70:=Tryz.isAgg229
 z70:=Tryz.sizeOf229
 v70:=Tryz.zeroValue229
 t72:=Tryz.underlying231
 a72:=Tryz.isAgg231
 z72:=Tryz.sizeOf231
 v72:=Tryz.zeroValue231
 t75:=Tryz.underlying233
 a75:=Tryz.isAgg233
 z75:=Tryz.sizeOf233
 v75:=Tryz.zeroValue233
 t76:=Tryz.underlying234
 a76:=Tryz.isAgg234
 z76:=Tryz.sizeOf234
 v76:=Tryz.zeroValue234
 t127:=Tryz.underlying350
 a127:=Tryz.isAgg350
 z127:=Tryz.sizeOf350
 v127:=Tryz.zeroValue350
 t164:=Tryz.underlying401
 a164:=Tryz.isAgg401
 z164:=Tryz.sizeOf401
 v164:=Tryz.zeroValue401 }
theorem Tryz.Builder_Extra_156:Builder.Extra Tryz.prog Tryz.lays156_ren:={
 sizeBuilder:=by kernel_rfl
 liesBuilder:=by kernel_rfl
 t5:=Tryz.underlying5
 a5:=Tryz.isAgg5
 z5:=Tryz.sizeOf5
 v5:=Tryz.zeroValue5
 infoByte:=by kernel_rfl
 cellsByte:=by kernel_rfl
 sizeByte:=by kernel_rfl
 neB5:=by decide }
open Go.RowKit in
theorem Tryz.strings_Join(bk o c:Nat)(xs:List ByteArray)(sep:ByteArray)(w:World)
  (hcells:∀(j:Nat) x,xs[j]? = some x→w.cell? ⟨bk,o+j,none⟩=some (.string x))
  (hbk:bk<w.heap.size) (hN:xs.length≤140737488355328) (hcap:xs.length≤c)
  (hlen:(Lib.join (xs.map (·.data.toList)) sep.data.toList).length≤140737488355328) :
  Calls Tryz.prog 72 #[.slice (some ⟨bk,o,none⟩) xs.length c,.string sep] w fun e w'=>e = .returned (.string ⟨(Lib.join (xs.map (·.data.toList)) sep.data.toList).toArray⟩)∧Below w.heap.size w w':=Any.strings_Join Tryz.lays156 Tryz.Builder_Extra_156 bk o c xs sep w hcells hbk hN hcap hlen
end Go.Proofs
namespace Go.Proofs.YtdcdhcgmeahfmaaGreatDoor
open Go.Dm
attribute [local irreducible] L.load L.store L.chk L.new L.nonnil L.guard L.ite L.draw L.idx L.sem L.semR L.semU L.chkSem L.next L.call L.callV L.join L.alts L.loop L.begin L.endRound L.range
variable {w0 w:World}{E:List Seg}
abbrev bTab(w0:World):=Tab Pr w0
theorem zor [bTab w0](h:St w0 E w){n:Int}(h0:0≤n)(h1:n≤9223372036854775807){k:ByteArray→PT}(hk:∀w',St w0 E w'→k (decD n.toNat) w'):L.call Pr z4d [I n] (.one (.one .str)) k w:=by
 refine z7I (Tryz.strconv_Itoa n (by omega) h1 w h.tab) fun e w' ⟨he,m,os,hw⟩=>⟨decD n.toNat,?_,?_⟩
 ·rw[he,←zp8,Int.toNat_of_nonneg h0];rfl
 ·subst hw
  exact hk _ ((h.drawn).grow os)
theorem zkv(h:St w0 E w)(i:Nat){s:Seg}(hi:nth E i=some s){v:Sl}{l:List ByteArray}(hr:Rw eS z00 1 v l s)(hn:l.length<1000000000)(hsz:(joinB l).size<1000000000000){k:ByteArray→PT}(hk:∀w',St w0 E w'→k (joinB l) w') :
  L.call Pr z6C [SlV v,.string z8A] (.one (.one .str)) k w:=by
 refine zp7 (e:=z00) (s:=s) (v:=v) (l:=l) rfl encS (fun g off cap w h1 h2 h3=>Tryz.strings_Join g off cap l z8A w h1 h2 (by omega) h3 ?_) (fun p cap w=>Any.strings_Join_none Tryz.lays156 Tryz.Builder_Extra_156 p cap z8A w) h i hi hr hk
 have:(joinB l).size=(Lib.join (l.map (·.data.toList)) [32]).length:=by rw[←z4v,z9d]
 show(Lib.join (l.map (·.data.toList)) [32]).length≤_
 omega
def revOk(r:ByteArray):Prop:=r=s_∨∃c g,shortB c.data.toList 16=true∧1≤g∧g<100∧r=revB c g
def tagBad(t:ByteArray):Bool:=!decide (t=s_)&& !shortB t.data.toList 8
def tgE(t:Tgt):Int:=if tagBad t.2.1=true then 1 else if 0≤@id Int t.2.2.1∧@id Int t.2.2.1≤100 then 0 else 2
theorem zrU(c:ByteArray){g:Nat}(hg:g<100):revB c g≠s_:=fun e=>by
 have:=zb6 c hg
 rw[e]at this
 have h0:s_.size=0:=rfl
 omega
theorem zpA(h:St w0 E w){t:Tgt}(hr:revOk t.1){k:Int→PT}(hk:∀w',St w0 E w'→k (tgE t) w'):L.call Pr z9u [.agg #[.string t.1,.string t.2.1,I t.2.2.1]] (.one (.one (.int .i64))) k w:=by
 refine z01 (zhW t) ?_
 unfold zcO
 refine nw h ?_;clear h;(try clear w);intro b1 w h
 (refine ldC h ?_)
 have fin:∀{w},St w0 ([Cl b1 z08 [.string t.1,.string t.2.1,I t.2.2.1]]::E) w→
   (L.ite (tagBad t.2.1) (fun w'=>∃y,Value.int .i64 1=RT.val (.one (.one (.int .i64))) y∧k y w')<|
    L.load (.one (.int .i64)) ((⟨b1,0,none⟩:Addr).add 2) fun(x13:Int)=>
    L.callV Pr (.func (.func z1l) #[.agg #[.int .i64 0,.int .i64 100]] #[]) [.int .i64 x13] (.one (.one (.bool))) fun(x14:Bool)=>
    L.ite (!x14) (fun w'=>∃y,Value.int .i64 2=RT.val (.one (.one (.int .i64))) y∧k y w')<|
    fun w'=>∃y,Value.int .i64 0=RT.val (.one (.one (.int .i64))) y∧k y w') w:=by
  intro w h
  refine it (fun hb=>?_) (fun hb=>?_)
  ·have:=hk w (dl0_ h)
   unfold tgE at this
   rw[if_pos hb]at this
   exact⟨1,rfl,this⟩
  ·(refine ldC h ?_)
   refine z4W (fs:=#[.agg #[.int .i64 0,.int .i64 100]]) (cs:=#[]) zg2 (zaW (0,100,()) t.2.2.1) ?_
   unfold z82
   refine nw h ?_;clear h;(try clear w);intro b2 w h
   (dsimp only[setN,List.cons_append,List.nil_append]at h;refine ldC h ?_)
   have fin2:∀{w},∀b:Bool,(b=decide (0≤@id Int t.2.2.1∧@id Int t.2.2.1≤100))→St w0 ([Cl b2 zfL [I 0,I 100]]::[Cl b1 z08 [.string t.1,.string t.2.1,I t.2.2.1]]::E) w→(∃x,Value.bool b=RT.val (.one (.one .bool)) x∧
     (L.ite (!x) (fun w'=>∃y,Value.int .i64 2=RT.val (.one (.one (.int .i64))) y∧k y w')<| fun w'=>∃y,Value.int .i64 0=RT.val (.one (.one (.int .i64))) y∧k y w') w):=by
    intro w b e h
    refine⟨b,rfl,?_⟩
    have:=hk w (dl0_ (dl0_ h))
    unfold tgE at this
    rw[if_neg (by simp[hb])]at this
    refine it (fun hx=>?_) (fun hx=>?_)
    ·have hx:b=false:=by simpa using hx
     rw[if_neg (of_decide_eq_false (e.symm.trans hx))]at this
     exact⟨2,rfl,this⟩
    ·have hx:b=true:=by simpa using hx
     rw[if_pos (of_decide_eq_true (e.symm.trans hx))]at this
     exact⟨0,rfl,this⟩
   refine it (fun h0=>?_) (fun h0=>?_)
   ·have h0:=of_decide_eq_true h0
    (refine ldC h ?_)
    refine fin2 _ ?_ h
    exact decide_eq_decide.2 ⟨fun hh=>⟨h0,hh⟩,fun hh=>hh.2⟩
   ·have h0:=of_decide_eq_false h0
    exact fin2 _ (decide_eq_false fun hh=>h0 hh.1).symm h
 have tag:∀{w}{k4:Bool×Unit→PT},(∀w',St w0 ([Cl b1 z08 [.string t.1,.string t.2.1,I t.2.2.1]]::E) w'→k4 (tagBad t.2.1,()) w')→St w0 ([Cl b1 z08 [.string t.1,.string t.2.1,I t.2.2.1]]::E) w→
   (L.load (.one (.str)) ((⟨b1,0,none⟩:Addr).add 1) fun(x7:ByteArray)=>
    L.ite (!(x7.toList == s_.toList)) (
     L.load (.one (.str)) ((⟨b1,0,none⟩:Addr).add 1) fun(x8:ByteArray)=>
     L.call Pr z3p [.string x8] (.one (.one (.bool))) fun(x9:Bool)=>
     k4 (!x9,()))<|
    k4 (false,())) w:=by
  intro w k4 hk4 h
  (refine ldC h ?_)
  rw[z3Z]
  refine it (fun hb=>?_) (fun hb=>?_)
  ·have hb:decide (t.2.1=s_)=false:=by simpa using hb
   (refine ldC h ?_)
   refine zsS h z5T fun w h=>?_
   have:=hk4 w h
   unfold tagBad at this
   rw[hb]at this
   exact this
  ·have hb:decide (t.2.1=s_)=true:=by simpa using hb
   have:=hk4 w h
   unfold tagBad at this
   rw[hb]at this
   exact this
 rcases hr with hr | ⟨c,g,hc,h1,hg,hr⟩
 ·rw[hr]at h fin tag ⊢
  refine zpV ?_
  refine z1h (fun z w=>z=(tagBad t.2.1,())∧St w0 ([Cl b1 z08 [.string s_,.string t.2.1,I t.2.2.1]]::E) w) (fun k4 hk4=>?_) (fun z w ⟨hz,h⟩=>by subst hz;exact fin h)
  (refine ldC h ?_)
  refine itF (by simp) ?_
  exact tag (fun w h=>hk4 _ w ⟨rfl,h⟩) h
 ·rw[hr]at h fin tag ⊢
  refine zhN h z5T hc h1 hg fun w h=>?_
  refine z1h (fun z w=>z=(tagBad t.2.1,())∧St w0 ([Cl b1 z08 [.string (revB c g),.string t.2.1,I t.2.2.1]]::E) w) (fun k4 hk4=>?_) (fun z w ⟨hz,h⟩=>by subst hz;exact fin h)
  (refine ldC h ?_)
  refine itT (by rw[z3Z];simp[zrU c hg]) (itF rfl ?_)
  exact tag (fun w h=>hk4 _ w ⟨rfl,h⟩) h
abbrev tagIs(g:ByteArray)(x:Tgt):Bool:=decide (x.2.1=g)
theorem zmy{b:Nat}{t:Tgt}(h:St w0 ([Cl b z08 (eT t)]::E) w){v:Sl}{ts:List Tgt}(r:RdE w0 E eT v ts)(hn:ts.length<1000000){k:Bool→PT}(hk:∀w',St w0 ([Cl b z08 (eT t)]::E) w'→k (ts.any (tagIs t.2.1)) w') :
  L.call Pr z1e [.slice v.a v.len v.cap,.func (.func z5K) #[] #[.pointer (some ⟨b,0,none⟩)]] (.one (.one .bool)) k w:=by
 refine z01 (z3W v ⟨.func z5K,#[],#[.pointer (some ⟨b,0,none⟩)]⟩) ?_
 unfold z1V
 refine z01 (z4r v ⟨.func z5K,#[],#[.pointer (some ⟨b,0,none⟩)]⟩) ?_
 unfold z2o
 have hl:=(r w (dl0_ h)).len
 refine z0u (fun q y w=>∃i:Nat,y=((i:Int),())∧q+i=ts.length∧(ts.take i).any (tagIs t.2.1)=false∧St w0 ([Cl b z08 (eT t)]::E) w) ts.length ⟨0,rfl,rfl,rfl,h⟩ ?_
 clear h;(try clear w)
 rintro q y w ⟨i,rfl,hq,hno,h⟩ again hag
 dsimp only
 refine it (fun hb=>?_) (fun hb=>?_)<;>(try simp only[zB]at hb)
 ·have hi:i<ts.length:=by omega
  have hx:ts[i]? = some ts[i]:=List.getElem?_eq_getElem hi
  generalize ts[i]=x at hx
  have rr:=r w (dl0_ h)
  refine rr.ix encT (by omega) (by simpa using hi) fun a ha=>?_
  rw[Int.toNat_natCast]at ha
  refine rr.lda encT ha hx rfl ?_
  refine z4W (fs:=#[]) (cs:=#[.pointer (some ⟨b,0,none⟩)]) zjB (zjJ x ⟨b,0,none⟩) ?_
  unfold zea
  have h:St w0 ([Cl b z08 [.string t.1,.string t.2.1,I t.2.2.1]]::E) w:=h
  refine nw h ?_;clear h;(try clear w);intro b1 w h
  (refine ldC h ?_;refine ldC h ?_)
  refine⟨_,rfl,?_⟩
  have h:St w0 ([Cl b z08 (eT t)]::E) w:=dl0_ h
  rw[z3Z]
  refine it (fun hc=>?_) (fun hc=>?_)
  ·refine⟨_,rfl,_,rfl,?_⟩
   have e:ts.any (tagIs t.2.1)=true:=List.any_eq_true.2 ⟨x,List.mem_of_getElem? hx,hc⟩
   have:=hk w h
   rw[e]at this
   rw[decide_eq_true (show(i:Int)≥0 by omega)]
   exact this
  ·rw[wr (by omega) (by omega)]
   refine hag (q-1) _ w (by omega) ⟨i+1,by simp,by omega,?_,h⟩
   rw[List.take_add_one,hx,List.any_append,hno]
   simpa using hc
 ·have e:ts.take i=ts:=List.take_of_length_le (by omega)
  rw[e]at hno
  refine⟨_,rfl,_,rfl,?_⟩
  have:=hk w h
  rw[hno]at this
  exact this
def twiceAt(ts:List Tgt)(i:Nat):Bool:=match ts[i]? with
 | some t=>!decide (t.2.1=s_)&&(ts.take i).any (tagIs t.2.1)
 | none=>false
def pct(t:Tgt):Int:=t.2.2.1
def allE(ts:List Tgt):Int:=if(List.range ts.length).any (twiceAt ts)=true then 5 else if(ts.map pct).sum=100 then 0 else 4
theorem zrO{l:List Tgt}(h:∀t∈l,0≤pct t∧pct t≤100):0≤(l.map pct).sum∧(l.map pct).sum≤100*l.length:=by
 induction l with
 | nil=>simp
 | cons t l ih=>
  have h1:=h t (by simp)
  have h2:=ih fun x hx=>h x (by simp[hx])
  simp only[List.map_cons,List.sum_cons,List.length_cons]
  omega
theorem zr5(h:St w0 E w){v:Sl}{ts:List Tgt}(r:RdE w0 E eT v ts)(hvc:v.len≤v.cap)(hn:ts.length≤1000)(hp:∀t∈ts,0≤pct t∧pct t≤100){k:Int→PT}(hk:∀w',St w0 E w'→k (allE ts) w') :
  L.call Pr zdy [.slice v.a v.len v.cap] (.one (.one (.int .i64))) k w:=by
 refine z01 (zmC v) ?_
 unfold zh1
 have hl:=(r w h).len
 refine z0u (fun q y w=>∃i:Nat,y=(((ts.take i).map pct).sum,(i:Int),())∧q+i=ts.length∧(List.range i).any (twiceAt ts)=false∧St w0 E w) ts.length ⟨0,rfl,rfl,rfl,h⟩ ?_
 clear h;(try clear w)
 rintro q y w ⟨i,rfl,hq,hno,h⟩ again hag
 dsimp only
 refine it (fun hb=>?_) (fun hb=>?_)<;>(try simp only[zB]at hb)
 ·have hi:i<ts.length:=by omega
  have hx:ts[i]? = some ts[i]:=List.getElem?_eq_getElem hi
  generalize ts[i]=t at hx
  have ht:=hp t (List.mem_of_getElem? hx)
  have hs:=zrO (l:=ts.take i) fun x hx=>hp x (List.mem_of_mem_take hx)
  rw[List.length_take]at hs
  have es:((ts.take (i+1)).map pct).sum=((ts.take i).map pct).sum+pct t:=by rw[List.take_add_one,hx];simp
  have tw:twiceAt ts i=(!decide (t.2.1=s_)&&(ts.take i).any (tagIs t.2.1)):=by unfold twiceAt;rw[hx]
  have next:∀{w},twiceAt ts i=false→St w0 E w→again (IntKind.wrap .i64 (((ts.take i).map pct).sum+pct t),IntKind.wrap .i64 ((i:Int)+1),()) w:=by
   intro w hf h
   rw[wr (by omega) (by omega),wr (by omega) (by omega)]
   refine hag (q-1) _ w (by omega) ⟨i+1,by rw[es];simp,by omega,?_,h⟩
   rw[List.range_succ,List.any_append,hno];simp[hf]
  refine jd ?_
  have rr:=r w h
  refine rr.ix encT (by omega) (by simpa using hi) fun a ha=>?_
  rw[Int.toNat_natCast]at ha
  refine rr.lda encT ha hx rfl ?_
  refine nw h ?_;clear h;(try clear w);intro b7 w h
  (refine stC h ?_;clear h;(try clear w);intro w h;dsimp only[putN,setN]at h;refine ldC h ?_;refine ldC h ?_)
  rw[z3Z]
  refine it (fun hc=>?_) (fun hc=>?_)
  ·refine gd (by omega) ?_
   have hc:decide (t.2.1=s_)=false:=by simpa using hc
   rw[hc]at tw
   have h:St w0 ([Cl b7 z08 (eT t)]::E) w:=h
   have r2:RdE w0 E eT ⟨if Int.toNat ((v.cap:Nat):Int)=Int.toNat (0:Int)then v.a else Option.map (fun a:Addr=>a.add (Int.toNat (0:Int)*3)) v.a,Int.toNat (i:Int)-Int.toNat (0:Int),Int.toNat ((v.cap:Nat):Int)-Int.toNat (0:Int)⟩ (ts.take i):=by
    intro w h
    have:=(r w h).cut encT 0 i (by omega) (by omega) hvc (v.cap-0)
    simpa using this
   refine zmy h r2 (by rw[List.length_take];omega) fun w h=>?_
   refine it (fun hd=>?_) (fun hd=>?_)
   ·have e:(List.range ts.length).any (twiceAt ts)=true:=List.any_eq_true.2 ⟨i,List.mem_range.2 hi,by rw[tw,hd];rfl⟩
    have:=hk w (dl0_ h)
    unfold allE at this
    rw[if_pos e]at this
    exact⟨_,rfl,this⟩
   ·have hd:(ts.take i).any (tagIs t.2.1)=false:=by simpa using hd
    exact next (by rw[tw,hd];rfl) (dl0_ h)
  ·have hc:decide (t.2.1=s_)=true:=by simpa using hc
   exact next (by rw[tw,hc];rfl) (dl0_ h)
 ·have e:ts.take i=ts:=List.take_of_length_le (by omega)
  have ei:i=ts.length:=by omega
  rw[e]
  rw[ei]at hno
  have:=hk w h
  unfold allE at this
  rw[if_neg (by simp[hno])]at this
  refine it (fun hs=>?_) (fun hs=>?_)<;>(try simp only[zB]at hs)
  ·rw[if_neg hs]at this;exact⟨_,rfl,this⟩
  ·rw[if_pos hs]at this;exact⟨_,rfl,this⟩
def specE(a:ARt):Int:=
 if shortB a.name.data.toList 16=true∧shortB a.cfg.data.toList 16=true then
  if 0≤a.roll∧a.roll≤60 then
   if 1≤a.ts.length∧a.ts.length≤6 then
    match a.ts.find? fun t=>decide (tgE t≠0) with
    | some t=>tgE t
    | none=>allE a.ts
   else 3
  else 2
 else 1
theorem zq0{t:Tgt}(h:tgE t=0):0≤pct t∧pct t≤100:=by
 unfold tgE at h
 split at h
 ·cases h
 ·split at h
  ·rename_i h2;exact h2
  ·cases h
theorem zo8(h:St w0 E w){a:ARt}{v:Sl}(r:RdE w0 E eT v a.ts)(hvc:v.len≤v.cap)(hr:∀t∈a.ts,revOk t.1){k:Int→PT}(hk:∀w',St w0 E w'→k (specE a) w') :
  L.call Pr z0z [.agg #[.string a.name,.string a.cfg,.slice v.a v.len v.cap,I a.roll]] (.one (.one (.int .i64))) k w:=by
 refine z01 (zjK (a.name,a.cfg,v,a.roll,())) ?_
 unfold zeb
 have hl:=(r w h).len
 refine nw h ?_;clear h;(try clear w);intro b1 w h
 unfold specE at hk
 refine z1h (fun z w=>z=(!(shortB a.name.data.toList 16&&shortB a.cfg.data.toList 16),())∧St w0 ([Cl b1 z0s [.string a.name,.string a.cfg,.slice v.a v.len v.cap,I a.roll]]::E) w) (fun k2 hk2=>?_) (fun z w ⟨hz,h⟩=>?_)
 ·(dsimp only[setN,List.cons_append,List.nil_append]at h;refine ldC h ?_)
  refine zjw h z5T fun w h=>?_
  refine it (fun hc=>?_) (fun hc=>?_)
  ·have hc:shortB a.name.data.toList 16=false:=by simpa using hc
   rw[hc]at hk2 ⊢
   exact hk2 _ w ⟨rfl,h⟩
  ·have hc:shortB a.name.data.toList 16=true:=by simpa using hc
   rw[hc]at hk2
   (refine ldC h ?_)
   refine zjw h z5T fun w h=>?_
   exact hk2 _ w ⟨by simp,h⟩
 ·subst hz
  dsimp only
  have out:∀{w}{x:Int},(∀w',St w0 E w'→k x w')→St w0 ([Cl b1 z0s [.string a.name,.string a.cfg,.slice v.a v.len v.cap,I a.roll]]::E) w→∃y,I x=RT.val (.one (.one (.int .i64))) y∧k y w:=fun hx h=>⟨_,rfl,hx _ (dl0_ h)⟩
  refine it (fun hc=>?_) (fun hc=>?_)
  ·have hc:(shortB a.name.data.toList 16&&shortB a.cfg.data.toList 16)=false:=(Bool.not_eq_true' _).mp hc
   rw[if_neg (fun hh=>by rw[hh.1,hh.2]at hc;cases hc)]at hk
   exact out hk h
  rw[if_pos (by simpa using hc)]at hk
  (refine ldC h ?_)
  refine z7W h fun w h=>?_
  refine it (fun hc=>?_) (fun hc=>?_)
  ·have hc:=of_decide_eq_false ((Bool.not_eq_true' _).mp hc)
   rw[if_neg hc]at hk
   exact out hk h
  rw[if_pos (by simpa using hc)]at hk
  (refine ldC h ?_)
  refine z7W h fun w h=>?_
  refine it (fun hc=>?_) (fun hc=>?_)
  ·have hc:=of_decide_eq_false (show decide (1≤((v.len:Nat):Int)∧((v.len:Nat):Int)≤6)=false from(Bool.not_eq_true' _).mp hc)
   rw[if_neg (by omega)]at hk
   exact out hk h
  have hc:=of_decide_eq_true (show decide (1≤((v.len:Nat):Int)∧((v.len:Nat):Int)≤6)=true by simpa using hc)
  rw[if_pos (by omega)]at hk
  (refine ldC h ?_)
  refine z0u (fun q y w=>∃i:Nat,y=((i:Int),())∧q+i=a.ts.length∧(a.ts.take i).find? (fun t=>decide (tgE t≠0))=none∧St w0 ([Cl b1 z0s [.string a.name,.string a.cfg,.slice v.a v.len v.cap,I a.roll]]::E) w) a.ts.length ⟨0,rfl,rfl,rfl,h⟩ ?_
  clear h;(try clear w)
  rintro q y w ⟨i,rfl,hq,hno,h⟩ again hag
  dsimp only
  refine it (fun hb=>?_) (fun hb=>?_)<;>(try simp only[zB]at hb)
  ·have hi:i<a.ts.length:=by omega
   have hx:a.ts[i]? = some a.ts[i]:=List.getElem?_eq_getElem hi
   have hdr:a.ts=a.ts.take i++a.ts[i]::a.ts.drop (i+1):=by rw[←List.drop_eq_getElem_cons hi,List.take_append_drop]
   generalize a.ts[i]=t at hx hdr
   have rr:=r w (dl0_ h)
   refine rr.ix encT (by omega) (by simpa using hi) fun ad ha=>?_
   rw[Int.toNat_natCast]at ha
   refine rr.lda encT ha hx rfl ?_
   refine nw h ?_;clear h;(try clear w);intro b17 w h
   (refine stC h ?_;clear h;(try clear w);intro w h;dsimp only[putN,setN]at h;refine laC h ?_)
   refine zpA (t:=t) h (hr t (List.mem_of_getElem? hx)) fun w h=>?_
   have h:=dl0_ h
   refine it (fun hc=>?_) (fun hc=>?_)
   ·have hc:tgE t≠0:=by simpa using hc
    have e:a.ts.find? (fun t=>decide (tgE t≠0))=some t:=by
     rw[hdr,List.find?_append,hno];simp[hc]
    rw[e]at hk
    exact out hk h
   ·have hc:tgE t=0:=by simpa using hc
    rw[wr (by omega) (by omega)]
    refine hag (q-1) _ w (by omega) ⟨i+1,by simp,by omega,?_,h⟩
    rw[List.take_add_one,hx,List.find?_append,hno];simp[hc]
  ·have e:a.ts.take i=a.ts:=List.take_of_length_le (by omega)
   rw[e]at hno
   rw[hno]at hk
   have hall:∀t∈a.ts,0≤pct t∧pct t≤100:=fun t ht=>zq0 (by simpa using List.find?_eq_none.1 hno t ht)
   (refine ldC h ?_)
   refine zr5 h (fun w h=>r w (dl0_ h)) hvc (by omega) hall fun w h=>?_
   exact out hk h
theorem rt{v:Sl}{l:List Tgt}(r:Rd w eT v l){n:Int}{x:Tgt}(hx:l[n.toNat]? = some x)(h0:0≤n){f:Nat}{lf:Lf}{u:Value}{y:lf.T}{kk:lf.T→PT}(hu:nth (eT x) f=some u)(hy:un2 lf u=some y)(hk:kk y w) :
  L.idx v.a n v.len 3 (fun a=>L.load (.one lf) (a.add f) kk) w:=
 r.ix encT h0 (List.getElem?_eq_some_iff.1 hx).1 fun a ha=>r.ld encT ha hx hu hy hk
abbrev T3:=ByteArray×ByteArray×Int
def sameT(a b:T3):Bool:=(a.1 == b.1)&&((a.2.1 == b.2.1)&&((a.2.2 == b.2.2)&&true))
theorem zn9(a b:T3):sameT a b=true↔a=b:=by
 obtain⟨a1,a2,a3⟩:=a
 obtain⟨b1,b2,b3⟩:=b
 have e1:(@BEq.beq ByteArray _ a1 b1)=true↔a1=b1:=zgW
 have e2:(@BEq.beq ByteArray _ a2 b2)=true↔a2=b2:=zgW
 unfold sameT
 simp only[Bool.and_eq_true,beq_iff_eq,and_true,Prod.mk.injEq]
 exact and_congr e1 (and_congr e2 Iff.rfl)
theorem zpo(a b:T3)(w:World):(Op.equalIn 10000 z08 (.agg #[.string a.1,.string a.2.1,I a.2.2]) (.agg #[.string b.1,.string b.2.1,I b.2.2])).run Pr w = .ok (sameT a b) w:=by
 have hS:Pr.underlying z08=some (.struct (Pr.fieldsOf z08)):=by kernel_rfl
 have hp:Pr.stoodInHeld z08=false:=by kernel_rfl
 obtain⟨a1,a2,a3⟩:=a
 obtain⟨b1,b2,b3⟩:=b
 rw[show(10000:Nat)=9999+1 from rfl,run_equalIn_agg w 9999 z08 _ _ hS hp]
 have u3:=Tryz.underlying3
 have i3:=Tryz.isAgg3
 have z3:=Tryz.sizeOf3
 have u9:=Tryz.underlying9
 have i9:=Tryz.isAgg9
 have z9:=Tryz.sizeOf9
 simp only[Program.fieldsOf,Tryz.underlying56]
 go_simp
 have e1:(ByteArray.toList a1=ByteArray.toList b1)↔(@BEq.beq ByteArray _ a1 b1)=true:=by rw[beq_toListBytes];simp
 have e2:(ByteArray.toList a2=ByteArray.toList b2)↔(@BEq.beq ByteArray _ a2 b2)=true:=by rw[beq_toListBytes];simp
 unfold sameT
 by_cases h1:(@BEq.beq ByteArray _ a1 b1)=true
 ·rw[if_pos (e1.2 h1)]
  simp only[show(a1 == b1)=true from h1,Bool.true_and]
  by_cases h2:(@BEq.beq ByteArray _ a2 b2)=true
  ·rw[if_pos (e2.2 h2)]
   simp only[show(a2 == b2)=true from h2,Bool.true_and]
   by_cases h3: @Eq Int a3 b3
   ·cases h3;simp
   ·simp[h3]
  ·rw[if_neg (fun h=>h2 (e2.1 h))]
   have:(a2 == b2)=false:=by simpa using h2
   simp[this]
 ·rw[if_neg (fun h=>h1 (e1.1 h))]
  have:(a1 == b1)=false:=by simpa using h1
  simp[this]
theorem zsb(a b:T3)(w:World):(do eqGuard .eql z08 (.tmp 0) (.tmp 0) (.agg #[.string a.1,.string a.2.1,I a.2.2]) (.agg #[.string b.1,.string b.2.1,I b.2.2]);binOp .eql z08 (.agg #[.string a.1,.string a.2.1,I a.2.2]) (.agg #[.string b.1,.string b.2.1,I b.2.2]):Sem Value).run Pr w = .ok (.bool (sameT a b)) w:=
 znN (by kernel_rfl) (zpo a b w)
theorem zr8(h:St w0 E w){k:Option Addr→PT}(hk:∀b s w',ShS b ⟨[],[],0⟩ s→St w0 (s::E) w'→k (some ⟨b,0,none⟩) w'):L.call Pr zbS [] (.one (.one .ptr)) k w:=by
 refine z01 zkA ?_
 unfold zfV
 refine zrk h fun bc sc w hC h=>?_
 refine zrj h fun br sr w hR h=>?_
 refine nw h ?_;clear h;(try clear w);intro b w h
 refine⟨_,rfl,hk b _ w ⟨⟨by simp,by simp,fun x=>by simp[tget,mget,noThg,Thg.gen],by simp,by simp⟩,bc,br,sc,sr,hC,hR,rfl⟩ ?_⟩
 have h:=fr2_ (fr2_ (fr1_ h))
 exact h.glue3
abbrev eCfg:E1:=.agg [.str,.int .i64,.int .i64,.int .i64,.int .i64,.int .i64]
def noCfg:Cfg:=(s_,0,0,0,0,0,())
def shCfg(a:AShelf)(n:ByteArray):Cfg×Int×Int×Bool×Unit:=if(tget a.m n).is=true then(cfgOf (tget a.m n),(tget a.m n).ver,(tget a.m n).gen,true,())else(noCfg,0,0,false,())
theorem zgX(h:St w0 E w)(i:Nat){b:Nat}{a:AShelf}{s:Seg}(hi:nth E i=some s)(hs:ShS b a s){n:ByteArray}{k:eCfg.T×Int×Int×Bool×Unit→PT}
  (hk:∀w',St w0 E w'→k (shCfg a n) w') :
  L.call Pr z3v [.pointer (some ⟨b,0,none⟩),.string n] (.tup [eCfg,.one (.int .i64),.one (.int .i64),.one .bool]) k w:=by
 obtain⟨ok,bc,br,sc,sr,hC,hR,rfl⟩:=hs
 refine z01 (zbp _ _) ?_
 unfold z7m
 unfold shCfg at hk
 have h:=(h.front i hi).split3
 refine nw h ?_;clear h;(try clear w);intro b1 w h
 (refine nn ?_;refine ldC h ?_)
 refine zsF h 2 rfl hC fun w h=>?_
 generalize tget a.m n=t at hk
 refine nw h ?_;clear h;(try clear w);intro b5 w h
 (refine stC h ?_;clear h;(try clear w);intro w h;dsimp only[putN,setN]at h)
 refine it (fun hc=>?_) (fun hc=>?_)<;>(try simp only[zB]at hc)
 ·(refine stC h ?_;clear h;(try clear w);intro w h;dsimp only[putN,setN]at h;refine laC h ?_)
  have hc:¬t.is=true:=by simp[Thg.is,hc]
  rw[if_neg hc]at hk
  exact⟨(noCfg,0,0,false,()),rfl,hk w (St.again i hi (dl0_ (dl0_ h)).glue3)⟩
 ·have hc:t.is=true:=by simpa using hc
  rw[if_pos hc]at hk
  (refine dr h ?_;clear h;(try clear w);intro w h;refine laC h ?_;refine ldC h ?_;refine ldC h ?_;refine stC h ?_;clear h;(try clear w);intro w h;dsimp only[putN,setN]at h;refine ckC h ?_;refine ckC h ?_;refine ckC h ?_;refine laC h ?_)
  exact⟨(cfgOf t,t.ver,t.gen,true,()),rfl,hk w (St.again i hi (dl0_ (dl0_ h)).glue3)⟩
def dropC(m:List (ByteArray×Thg))(n:ByteArray):List (ByteArray×Thg):=mset m n (s_,0,0,0,0,0,0,(tget m n).gen,false,())
def shDrop(a:AShelf)(kind:Int)(n:ByteArray)(ver:Int):AShelf×Int:=
 if kind=1 then(if mayC (tget a.m n) ver false=0 then(⟨dropC a.m n,a.r,a.n+1⟩,0)else(a,mayC (tget a.m n) ver false))
 else if kind=2 then(if mayV (rget a.r n).is (rget a.r n).ver ver false=0 then(⟨a.m,dropRt a.r n,a.n+1⟩,0)else(a,mayV (rget a.r n).is (rget a.r n).ver ver false))
 else(a,12)
abbrev sT3(x y:Tgt):Bool:=(x.1 == y.1)&&((x.2.1 == y.2.1)&&((x.2.2.1 == y.2.2.1)&&true))
theorem zqw(x y:Tgt):sT3 x y=true↔x=y:=by
 obtain⟨x1,x2,x3,⟨⟩⟩:=x
 obtain⟨y1,y2,y3,⟨⟩⟩:=y
 have:=zn9 (x1,x2,x3) (y1,y2,y3)
 simp only[Prod.mk.injEq]at this
 refine Iff.trans this ⟨fun⟨a,b,c⟩=>?_,fun h=>?_⟩
 ·subst a;subst b;cases c;rfl
 ·cases h;exact⟨rfl,rfl,rfl⟩
theorem zoA{α:Type}{l m:List α}{i:Nat}{x y:α}(h:l.take i=m.take i)(hx:l[i]? = some x)(hy:m[i]? = some y)(e:x=y):l.take (i+1)=m.take (i+1):=by
 rw[List.take_add_one,List.take_add_one,hx,hy,h,e]
theorem ztm(h:St w0 E w){v1 v2:Sl}{l1 l2:List Tgt}(r1:RdE w0 E eT v1 l1)(r2:RdE w0 E eT v2 l2)(hn:l1.length<1000000000){k:Bool→PT}(hk:∀b w',(b=true↔l1=l2)→St w0 E w'→k b w') :
  L.call Pr z0G [.slice v1.a v1.len v1.cap,.slice v2.a v2.len v2.cap,.func (.func z7Q) #[] #[]] (.one (.one .bool)) k w:=by
 refine z01 (z2b v1 v2 ⟨.func z7Q,#[],#[]⟩) ?_
 unfold z0Y
 have hl1:=(r1 w h).len
 have hl2:=(r2 w h).len
 refine it (fun hc=>?_) (fun hc=>?_)<;>(try simp only[zB]at hc)
 ·exact⟨_,rfl,hk false w ⟨fun h=>by(cases h),fun e=>(hc (by rw[hl1,hl2,e])).elim⟩ h⟩
 refine z0u (fun q y w=>∃i:Nat,y=((i:Int),())∧q+i=l1.length∧l1.take i=l2.take i∧St w0 E w) l1.length ⟨0,rfl,rfl,rfl,h⟩ ?_
 clear h;(try clear w)
 rintro q y w ⟨i,rfl,hq,he,h⟩ again hag
 dsimp only
 refine it (fun hb=>?_) (fun hb=>?_)<;>(try simp only[zB]at hb)
 ·have hi:i<l1.length:=by omega
  have hi2:i<l2.length:=by omega
  have hx:l1[i]? = some l1[i]:=List.getElem?_eq_getElem hi
  have hy:l2[i]? = some l2[i]:=List.getElem?_eq_getElem hi2
  generalize l1[i]=x at hx
  generalize l2[i]=y at hy
  refine(r1 w h).ix encT (by omega) (by simpa using hi) fun a ha=>?_
  rw[Int.toNat_natCast]at ha
  refine(r1 w h).lda encT ha hx rfl ?_
  refine nw h ?_;clear h;(try clear w);intro b5 w h
  (refine stC h ?_;clear h;(try clear w);intro w h;dsimp only[putN,setN]at h)
  refine(r2 w (dl0_ h)).ix encT (by omega) (by simpa using hi2) fun a2 ha2=>?_
  rw[Int.toNat_natCast]at ha2
  refine(r2 w (dl0_ h)).lda encT ha2 hy rfl ?_
  refine nw h ?_;clear h;(try clear w);intro b8 w h
  (refine stC h ?_;clear h;(try clear w);intro w h;dsimp only[putN,setN]at h;refine laC h ?_;refine laC h ?_)
  refine z4W (fs:=#[]) (cs:=#[]) zkw (zky x y) ?_
  unfold zfT
  refine nw h ?_;clear h;(try clear w);intro c1 w h
  refine nw h ?_;clear h;(try clear w);intro c2 w h
  (refine laC h ?_;refine laC h ?_)
  unfold L.chkSem
  refine⟨zsb (x.1,x.2.1,x.2.2.1) (y.1,y.2.1,y.2.2.1) w,_,rfl,?_⟩
  have hs:=zqw x y
  have h:=dl0_ (dl0_ (dl0_ (dl0_ h)))
  refine it (fun hc=>?_) (fun hc=>?_)
  ·have hc:¬sT3 x y=true:=by have hc:sT3 x y=false:=(Bool.not_eq_true' _).mp hc;rw[hc];decide
   refine⟨_,rfl,hk false w ⟨fun h=>by(cases h),fun e=>(hc (hs.2 ?_)).elim⟩ h⟩
   rw[e,hy]at hx;exact(Option.some.inj hx).symm
  ·have hc:sT3 x y=true:=(Bool.not_eq_false' _).mp hc
   rw[wr (by omega) (by omega)]
   exact hag (q-1) _ w (by omega) ⟨i+1,by simp,by omega,zoA he hx hy (hs.1 hc),h⟩
 ·have e1:l1.take i=l1:=List.take_of_length_le (by omega)
  have e2:l2.take i=l2:=List.take_of_length_le (by omega)
  rw[e1,e2]at he
  exact⟨_,rfl,hk true w ⟨fun _=>he,fun _=>rfl⟩ h⟩
theorem ARt.ext_iff'(a b:ARt):a=b↔a.name=b.name∧a.cfg=b.cfg∧a.roll=b.roll∧a.ts=b.ts:=by
 cases a;cases b;simp only[ARt.mk.injEq];exact⟨fun⟨a,b,c,d⟩=>⟨a,b,d,c⟩,fun⟨a,b,d,c⟩=>⟨a,b,c,d⟩⟩
abbrev rtC(a:ARt)(v:Sl):List Value:=[.string a.name,.string a.cfg,.slice v.a v.len v.cap,I a.roll]
theorem zrD(h:St w0 E w){a b:ARt}{v1 v2:Sl}(r1:RdE w0 E eT v1 a.ts)(r2:RdE w0 E eT v2 b.ts)(hn:a.ts.length<1000000000){k:Bool→PT}(hk:∀c w',(c=true↔a=b)→St w0 E w'→k c w') :
  z7e (a.name,a.cfg,v1,a.roll,()) (b.name,b.cfg,v2,b.roll,()) (fun v w'=>∃x,v=RT.val (.one (.one .bool)) x∧k x w') w:=by
 unfold z7e
 rw[ARt.ext_iff' a b]at hk
 refine nw h ?_;clear h;(try clear w);intro b1 w h
 refine nw h ?_;clear h;(try clear w);intro b2 w h
 have no:∀{w},¬(a.name=b.name∧a.cfg=b.cfg∧a.roll=b.roll∧a.ts=b.ts)→St w0 ([Cl b2 z0s (rtC b v2)]::[Cl b1 z0s (rtC a v1)]::E) w→∃x,Value.bool false=RT.val (.one (.one .bool)) x∧k x w:=
  fun hne h=>⟨_,rfl,hk false _ ⟨fun h=>by(cases h),fun e=>(hne e).elim⟩ (dl0_ (dl0_ h))⟩
 (dsimp only[setN,List.cons_append,List.nil_append]at h;refine ldC h ?_;refine ldC h ?_)
 rw[z3Z]
 refine it (fun h1=>?_) (fun h1=>no (fun e=>of_decide_eq_false h1 e.1) h)
 (refine ldC h ?_;refine ldC h ?_)
 rw[z3Z]
 refine it (fun h2=>?_) (fun h2=>no (fun e=>of_decide_eq_false h2 e.2.1) h)
 (refine ldC h ?_;refine ldC h ?_)
 refine it (fun h3=>?_) (fun h3=>no (fun e=>by rw[e.2.2.1]at h3;simp at h3) h)
 (refine ldC h ?_;refine ldC h ?_)
 refine ztm h (fun w h=>r1 w (dl0_ (dl0_ h))) (fun w h=>r2 w (dl0_ (dl0_ h))) hn fun c w hc h=>?_
 refine⟨_,rfl,hk c w ?_ (dl0_ (dl0_ h))⟩
 rw[hc]
 exact⟨fun e=>⟨of_decide_eq_true h1,of_decide_eq_true h2,by simpa using h3,e⟩,fun e=>e.2.2.2⟩
theorem zra(h:St w0 E w){a b:ARt}{v1 v2:Sl}(r1:RdE w0 E eT v1 a.ts)(r2:RdE w0 E eT v2 b.ts)(hn:a.ts.length<1000000000){k:Bool→PT}(hk:∀c w',(c=true↔a=b)→St w0 E w'→k c w') :
  L.callV Pr (.func (.func z0H) #[] #[]) [.agg #[.string a.name,.string a.cfg,.slice v1.a v1.len v1.cap,I a.roll],.agg #[.string b.name,.string b.cfg,.slice v2.a v2.len v2.cap,I b.roll]] (.one (.one .bool)) k w:=
 z4W (fs:=#[]) (cs:=#[]) zeo (zew (a.name,a.cfg,v1,a.roll,()) (b.name,b.cfg,v2,b.roll,())) (zrD h r1 r2 hn hk)
theorem elT:El Pr z6H z08 3 40 (.agg #[.string s_,.string s_,I 0]):=zem (by kernel_rfl) (by kernel_rfl) rfl (by decide)
theorem zpY(h:St w0 E w){v:Sl}{l:List Tgt}(r:Rd w eT v l)(hn:l.length<1000000000)(h0:v.a=none→l = []){k:Sl→PT}
  (hk:∀v' s' w',Rw eT z08 3 v' l s'→St w0 (s'::E) w'→k v' w'):L.call Pr z1J [SlV v] (.one (.one .slice)) k w:=by
 refine z01 (z5t v) ?_
 unfold z2Q
 exact z6a (K:=fun v w'=>∃x,v=RT.val (.one (.one .slice)) x∧k x w') encT elT h r (by omega) (by omega) h0 fun v' s' w' hr hi h=>⟨v',rfl,hk v' s' w' hr h⟩
abbrev eRt:E1:=.agg [.str,.str,.slice,.int .i64]
theorem zsA(h:St w0 E w){a:ARt}{v:Sl}(r:RdE w0 E eT v a.ts)(hn:a.ts.length<1000000000)(h0:v.a=none→a.ts = []){k:eRt.T→PT}
  (hk:∀v' s' w',Rw eT z08 3 v' a.ts s'→St w0 (s'::E) w'→k (a.name,a.cfg,v',a.roll,()) w') :
  L.call Pr z9v [.agg #[.string a.name,.string a.cfg,.slice v.a v.len v.cap,I a.roll]] (.one eRt) k w:=by
 refine z01 (zkz (a.name,a.cfg,v,a.roll,())) ?_
 unfold zfU
 refine nw h ?_;clear h;(try clear w);intro b1 w h
 refine nw h ?_;clear h;(try clear w);intro b2 w h
 (dsimp only[setN,List.cons_append,List.nil_append]at h;refine ldC h ?_)
 refine zpY h (r w (dl0_ (dl0_ h))) hn h0 fun v' s' w hr h=>?_
 (refine stC h ?_;clear h;(try clear w);intro w h;dsimp only[putN,setN]at h;refine laC h ?_;refine stC h ?_;clear h;(try clear w);intro w h;dsimp only[putN,setN]at h;refine laC h ?_)
 refine⟨(a.name,a.cfg,v',a.roll,()),rfl,hk v' s' w hr ?_⟩
 exact dl1_ (dl1_ h)
abbrev Shr:=HT [.str,.int .i64]
def eSh(t:Shr):List Value:=[.string t.1,I t.2.1]
theorem encSh:Enc eSh 2:=⟨fun _=>rfl,fun _=>rfl,by decide⟩
abbrev Tgo:=HT [.str,.str]
def eTo(t:Tgo):List Value:=[.string t.1,.string t.2.1]
theorem encTo:Enc eTo 2:=⟨fun _=>rfl,fun _=>rfl,by decide⟩
structure ATab where
 sh:List Shr
 tg:List Tgo
theorem elSh:El Pr z0F z0m 2 24 (.agg #[.string s_,I 0]):=zem (by kernel_rfl) (by kernel_rfl) rfl (by decide)
theorem elTo:El Pr z3U z2J 2 32 (.agg #[.string s_,.string s_]):=zem (by kernel_rfl) (by kernel_rfl) rfl (by decide)
theorem elPr:El Pr z3q z3n 2 32 (.agg #[.string s_,.string s_]):=zem (by kernel_rfl) (by kernel_rfl) rfl (by decide)
theorem zcH(h:St w0 E w){v:Sl}{l:List Shr}(r:Rd w eSh v l)(hn:l.length<1000000000)(h0:v.a=none→l = []){k:Sl→PT}
  (hk:∀v' s' w',Rw eSh z0m 2 v' l s'→St w0 (s'::E) w'→k v' w'):L.call Pr z0B [SlV v] (.one (.one .slice)) k w:=by
 refine z01 (z5R v) ?_
 unfold z3b
 exact z6a (K:=fun v w'=>∃x,v=RT.val (.one (.one .slice)) x∧k x w') encSh elSh h r (by omega) (by omega) h0 fun v' s' w' hr hi h=>⟨v',rfl,hk v' s' w' hr h⟩
theorem zou(h:St w0 E w){v:Sl}{l:List Tgo}(r:Rd w eTo v l)(hn:l.length<1000000000)(h0:v.a=none→l = []){k:Sl→PT}
  (hk:∀v' s' w',Rw eTo z2J 2 v' l s'→St w0 (s'::E) w'→k v' w'):L.call Pr z1T [SlV v] (.one (.one .slice)) k w:=by
 refine z01 (z5Q v) ?_
 unfold z3a
 exact z6a (K:=fun v w'=>∃x,v=RT.val (.one (.one .slice)) x∧k x w') encTo elTo h r (by omega) (by omega) h0 fun v' s' w' hr hi h=>⟨v',rfl,hk v' s' w' hr h⟩
structure TabR(w0:World)(E:List Seg)(p:HT [.slice,.slice])(t:ATab):Prop where
 sh:RdE w0 E eSh p.1 t.sh
 tg:RdE w0 E eTo p.2.1 t.tg
 nsh:p.1.a=none→t.sh = []
 ntg:p.2.1.a=none→t.tg = []
 fsh:t.sh.length<100000
 ftg:t.tg.length<100000
theorem TabR.there{p:HT [.slice,.slice]}{t:ATab}{s:Seg}(r:TabR w0 E p t):TabR w0 (s::E) p t:=⟨fun w h=>r.sh w (dl0_ h),fun w h=>r.tg w (dl0_ h),r.nsh,r.ntg,r.fsh,r.ftg⟩
abbrev tabV(p:HT [.slice,.slice]):Value:=.agg #[.slice p.1.a p.1.len p.1.cap,.slice p.2.1.a p.2.1.len p.2.1.cap]
theorem z9J(h:St w0 E w){p:HT [.slice,.slice]}{t:ATab}(r:TabR w0 E p t){k:HT [.slice,.slice]→PT}
  (hk:∀v1 v2 s1 s2 w',Rw eSh z0m 2 v1 t.sh s1→Rw eTo z2J 2 v2 t.tg s2→St w0 (s2::s1::E) w'→k (v1,v2,()) w') :
  L.call Pr z2l [tabV p] (.one (.agg [.slice,.slice])) k w:=by
 refine z01 (zmF p) ?_
 unfold zh4
 have fsh:=r.fsh
 have ftg:=r.ftg
 refine nw h ?_;clear h;(try clear w);intro b1 w h
 refine nw h ?_;clear h;(try clear w);intro b2 w h
 (refine dr h ?_;clear h;(try clear w);intro w h;refine ldC h ?_;refine ldC h ?_)
 refine zcH h (r.sh w (dl0_ (dl0_ h))) (by omega) r.nsh fun v1 s1 w r1 h=>?_
 (refine ckC h ?_)
 refine zou h (r.tg w (dl0_ (dl0_ (dl0_ h)))) (by omega) r.ntg fun v2 s2 w r2 h=>?_
 (refine stC h ?_;clear h;(try clear w);intro w h;dsimp only[putN,setN]at h;refine laC h ?_)
 refine⟨(v1,v2,()),rfl,hk v1 v2 s1 s2 w r1 r2 ?_⟩
 exact dl2_ (dl2_ h)
theorem TabR.of{v1 v2:Sl}{t:ATab}{s1 s2:Seg}{i j:Nat}(h1:nth E i=some s1)(r1:Rw eSh z0m 2 v1 t.sh s1)(h2:nth E j=some s2)(r2:Rw eTo z2J 2 v2 t.tg s2)(f1:t.sh.length<100000)(f2:t.tg.length<100000) :
  TabR w0 E (v1,v2,()) t:=⟨Rw.re encSh i h1 r1,Rw.re encTo j h2 r2,Rw.nil0 encSh r1,Rw.nil0 encTo r2,f1,f2⟩
def pickL:List Shr→Int→ByteArray
 | [],_=>s_
 | s::l,d=>if d<s.2.1 then s.1 else pickL l (d-s.2.1)
theorem zlW(s:Shr)(l:List Shr)(d:Int):pickL (s::l) d=if d<s.2.1 then s.1 else pickL l (d-s.2.1):=rfl
def tPick(t:ATab)(d:Int):ByteArray:=pickL t.sh (d%100)
theorem zsV(h:St w0 E w){p:HT [.slice,.slice]}{t:ATab}(r:TabR w0 E p t)(hw:∀s∈t.sh,0≤@id Int s.2.1∧@id Int s.2.1≤1000){d:Int}(h0:0≤d)(h1:d<4611686018427387904){k:ByteArray→PT}
  (hk:∀w',St w0 E w'→k (tPick t d) w'):L.call Pr zaq [tabV p,I d] (.one (.one .str)) k w:=by
 refine z01 (zjG p _) ?_
 unfold ze7
 have fsh:=r.fsh
 have hlen:=Rd.len (r.sh w h)
 unfold tPick at hk
 refine nw h ?_;clear h;(try clear w);intro b1 w h
 refine gd (by decide) (gd (by decide) ?_)
 (refine ldC h ?_)
 have e0:Int.tmod (IntKind.wrap .i64 ((Int.tmod d 100)+100)) 100=d%100:=by
  rw[Int.tmod_eq_emod_of_nonneg h0,wr (by omega) (by omega),Int.tmod_eq_emod_of_nonneg (by omega)]
  omega
 rw[e0]
 have hd:0≤d%100∧d%100<100:=by omega
 generalize d%100=d at hk hd
 refine z0u (fun q y w=>∃(j:Nat),@Eq Int y.2.1 j∧q+j=t.sh.length∧-100000000*(j:Int)-100≤@id Int y.1∧@id Int y.1≤100∧pickL t.sh d=pickL (t.sh.drop j) y.1∧St w0 ([Cl b1 z02 [SlV p.1,SlV p.2.1]]::E) w) t.sh.length ⟨0,rfl,rfl,?_,?_,rfl,h⟩ ?_
 ·show -100000000*((0:Nat):Int)-100≤d;omega
 ·show d≤100;omega
 clear h;(try clear w)
 rintro q ⟨x,y,⟨⟩⟩ w ⟨j,hy,hq,l1,l2,hp,h⟩ again hag
 (try dsimp only)
 simp only[id]at l1 l2
 simp only at hy hp
 subst hy
 refine it (fun hb=>?_) (fun hb=>?_)<;>(try simp only[zB]at hb)
 ·have hj:j<t.sh.length:=by omega
  have hx:t.sh[j]? = some t.sh[j]:=List.getElem?_eq_getElem hj
  have rr:=r.sh w (dl0_ h)
  have hm:=hw t.sh[j] (List.getElem_mem hj)
  have ed:t.sh.drop j=t.sh[j]::t.sh.drop (j+1):=by rw[←List.getElem_cons_drop hj]
  rw[ed]at hp
  generalize t.sh[j]=z at hx hm hp
  obtain⟨z1,z2,⟨⟩⟩:=z
  simp only[id]at hm
  refine rr.ix encSh (by omega) (by simpa using hj) fun a ha=>?_
  refine rr.lda encSh ha (by simpa using hx) rfl ?_
  refine nw h ?_;clear h;(try clear w);intro b7 w h
  (refine stC h ?_;clear h;(try clear w);intro w h;dsimp only[putN,setN]at h;refine ldC h ?_)
  rw[zlW]at hp
  (try dsimp only at hp)
  refine it (fun hc=>?_) (fun hc=>?_)<;>(try simp only[zB]at hc)
  ·rw[if_pos hc]at hp
   (refine ldC h ?_)
   exact⟨_,rfl,by rw[←hp];exact hk w (dl0_ (dl0_ h))⟩
  ·rw[if_neg hc]at hp
   (refine ldC h ?_)
   refine hag (q-1) _ w (by omega) ⟨j+1,?_,by omega,?_,?_,?_,dl0_ h⟩
   ·show IntKind.wrap .i64 _=_
    rw[wr (by omega) (by omega)];omega
   ·show _≤IntKind.wrap .i64 (x-z2)
    rw[wr (by omega) (by omega)];omega
   ·show IntKind.wrap .i64 (x-z2)≤_
    rw[wr (by omega) (by omega)];omega
   ·rw[hp];show _=pickL _ (IntKind.wrap .i64 (x-z2));rw[wr (by omega) (by omega)]
 ·have e:t.sh.drop j = []:=List.drop_of_length_le (by omega)
  rw[e]at hp
  exact⟨_,rfl,by have:=hk w (dl0_ h);rw[hp]at this;exact this⟩
def tagL:List Tgo→ByteArray→ByteArray×Bool
 | [],_=>(s_,false)
 | x::l,g=>if x.1=g then(x.2.1,true)else tagL l g
theorem zmV(x:Tgo)(l:List Tgo)(g:ByteArray):tagL (x::l) g=if x.1=g then(x.2.1,true)else tagL l g:=rfl
theorem zrC(h:St w0 E w){p:HT [.slice,.slice]}{t:ATab}(r:TabR w0 E p t){g:ByteArray}{k:ByteArray×Bool×Unit→PT}
  (hk:∀w',St w0 E w'→k ((tagL t.tg g).1,(tagL t.tg g).2,()) w'):L.call Pr z9s [tabV p,.string g] (.tup [.one .str,.one .bool]) k w:=by
 refine z01 (zhT p _) ?_
 unfold zcL
 have ftg:=r.ftg
 have hlen:=Rd.len (r.tg w h)
 refine nw h ?_;clear h;(try clear w);intro b1 w h
 (refine ldC h ?_)
 refine z0u (fun q y w=>∃(j:Nat),@Eq Int y.1 j∧q+j=t.tg.length∧tagL t.tg g=tagL (t.tg.drop j) g∧St w0 ([Cl b1 z02 [SlV p.1,SlV p.2.1]]::E) w) t.tg.length ⟨0,rfl,rfl,rfl,h⟩ ?_
 clear h;(try clear w)
 rintro q ⟨y,⟨⟩⟩ w ⟨j,hy,hq,hp,h⟩ again hag
 (try dsimp only)
 simp only at hy hp
 subst hy
 refine it (fun hb=>?_) (fun hb=>?_)<;>(try simp only[zB]at hb)
 ·have hj:j<t.tg.length:=by omega
  have hx:t.tg[j]? = some t.tg[j]:=List.getElem?_eq_getElem hj
  have rr:=r.tg w (dl0_ h)
  have ed:t.tg.drop j=t.tg[j]::t.tg.drop (j+1):=by rw[←List.getElem_cons_drop hj]
  rw[ed]at hp
  generalize t.tg[j]=z at hx hp
  obtain⟨z1,z2,⟨⟩⟩:=z
  refine rr.ix encTo (by omega) (by simpa using hj) fun a ha=>?_
  refine rr.lda encTo ha (by simpa using hx) rfl ?_
  refine nw h ?_;clear h;(try clear w);intro b7 w h
  (refine stC h ?_;clear h;(try clear w);intro w h;dsimp only[putN,setN]at h;refine ldC h ?_)
  rw[zmV]at hp
  (try dsimp only at hp)
  rw[z3Z]
  refine it (fun hc=>?_) (fun hc=>?_)<;>(try simp only[zB]at hc)
  ·rw[if_pos hc]at hp
   (refine ldC h ?_)
   exact⟨(z2,true,()),rfl,by have:=hk w (dl0_ (dl0_ h));rw[hp]at this;exact this⟩
  ·rw[if_neg hc]at hp
   skip
   refine hag (q-1) _ w (by omega) ⟨j+1,?_,by omega,hp,dl0_ h⟩
   show IntKind.wrap .i64 _=_
   rw[wr (by omega) (by omega)];omega
 ·have e:t.tg.drop j = []:=List.drop_of_length_le (by omega)
  rw[e]at hp
  exact⟨(s_,false,()),rfl,by have:=hk w (dl0_ h);rw[hp]at this;exact this⟩
theorem zr0 [bTab w0](h:St w0 E w){p:HT [.slice,.slice]}{t:ATab}(r:TabR w0 E p t)(hw:∀s∈t.sh,0≤@id Int s.2.1∧@id Int s.2.1≤1000){k:Sl×Sl×Unit→PT}
  (hk:∀v1 v2 s1 s2 w',Rw eTo z3n 2 v1 (t.sh.map fun s=>(s.1,decD (@id Int s.2.1).toNat,())) s1→Rw eTo z3n 2 v2 t.tg s2→St w0 (s2::s1::E) w'→k (v1,v2,()) w') :
  L.call Pr z9q [tabV p] (.tup [.one .slice,.one .slice]) k w:=by
 refine z01 (zhQ p) ?_
 unfold zcI
 have fsh:=r.fsh
 have ftg:=r.ftg
 have hlen:=Rd.len (r.sh w h)
 have hlen2:=Rd.len (r.tg w h)
 refine nw h ?_;clear h;(try clear w);intro b1 w h
 (refine ldC h ?_)
 let f:Shr→Tgo:=fun s=>(s.1,decD (@id Int s.2.1).toNat,())
 refine z0u (fun q y w=>∃(j:Nat)(s1:Seg),@Eq Int y.2.1 j∧q+j=t.sh.length∧Rw eTo z3n 2 y.1 ((t.sh.take j).map f) s1∧St w0 (s1::[Cl b1 z02 [SlV p.1,SlV p.2.1]]::E) w) t.sh.length ⟨0,[],rfl,rfl,Rw.nil,h.nil⟩ ?_
 clear h;(try clear w)
 rintro q ⟨v,y,⟨⟩⟩ w ⟨j,s1,hy,hq,r1,h⟩ again hag
 (try dsimp only)
 simp only at hy r1
 subst hy
 refine it (fun hb=>?_) (fun hb=>?_)<;>(try simp only[zB]at hb)
 ·have hj:j<t.sh.length:=by omega
  have hx:t.sh[j]? = some t.sh[j]:=List.getElem?_eq_getElem hj
  have rr:=r.sh w (dl0_ (dl0_ h))
  have hm:=hw t.sh[j] (List.getElem_mem hj)
  have et:(t.sh.take (j+1)).map f=(t.sh.take j).map f++[f t.sh[j]]:=by rw[List.take_succ,hx,List.map_append];rfl
  generalize t.sh[j]=z at hx hm et
  obtain⟨z1,z2,⟨⟩⟩:=z
  simp only[id]at hm
  refine rr.ix encSh (by omega) (by simpa using hj) fun a ha=>?_
  refine rr.lda encSh ha (by simpa using hx) rfl ?_
  refine nw h ?_;clear h;(try clear w);intro b7 w h
  (refine stC h ?_;clear h;(try clear w);intro w h;dsimp only[putN,setN]at h;refine dr h ?_;clear h;(try clear w);intro w h;refine ldC h ?_;refine ldC h ?_)
  refine zor h hm.1 (by omega) fun w h=>?_
  (refine ckC h ?_)
  refine nw h ?_;clear h;(try clear w);intro b11 w h
  refine Rw.app encTo elPr h 1 rfl r1 ((z1,decD (@id Int z2).toNat,()):Tgo) rfl (by simp;omega) (by simp;omega) fun v' s1' w r1' h=>?_
  refine hag (q-1) _ w (by omega) ⟨j+1,s1',?_,by omega,by rw[et];exact r1',dl0_ h⟩
  show IntKind.wrap .i64 _=_
  rw[wr (by omega) (by omega)];omega
 ·have e:t.sh.take j=t.sh:=List.take_of_length_le (by omega)
  rw[e]at r1
  (refine ldC h ?_)
  refine z0u (fun q y w=>∃(j:Nat)(s2:Seg),@Eq Int y.2.1 j∧q+j=t.tg.length∧Rw eTo z3n 2 y.1 (t.tg.take j) s2∧St w0 (s2::s1::[Cl b1 z02 [SlV p.1,SlV p.2.1]]::E) w) t.tg.length ⟨0,[],rfl,rfl,Rw.nil,h.nil⟩ ?_
  clear hag hb hq j e
  clear h;(try clear w)
  rintro q ⟨v2,y,⟨⟩⟩ w ⟨j,s2,hy,hq,r2,h⟩ again hag
  (try dsimp only)
  simp only at hy r2
  subst hy
  refine it (fun hb=>?_) (fun hb=>?_)<;>(try simp only[zB]at hb)
  ·have hj:j<t.tg.length:=by omega
   have hx:t.tg[j]? = some t.tg[j]:=List.getElem?_eq_getElem hj
   have rr:=r.tg w (dl0_ (dl0_ (dl0_ h)))
   have et:t.tg.take (j+1)=t.tg.take j++[t.tg[j]]:=by rw[List.take_succ,hx];rfl
   generalize t.tg[j]=z at hx et
   obtain⟨z1,z2,⟨⟩⟩:=z
   refine rr.ix encTo (by omega) (by simpa using hj) fun a ha=>?_
   refine rr.lda encTo ha (by simpa using hx) rfl ?_
   refine nw h ?_;clear h;(try clear w);intro b7 w h
   (refine stC h ?_;clear h;(try clear w);intro w h;dsimp only[putN,setN]at h;refine ldC h ?_;refine ldC h ?_)
   refine nw h ?_;clear h;(try clear w);intro b11 w h
   refine Rw.app encTo elPr h 1 rfl r2 ((z1,z2,()):Tgo) rfl (by simp;omega) (by simp;omega) fun v' s2' w r2' h=>?_
   refine hag (q-1) _ w (by omega) ⟨j+1,s2',?_,by omega,by rw[et];exact r2',dl0_ h⟩
   show IntKind.wrap .i64 _=_
   rw[wr (by omega) (by omega)];omega
  ·have e:t.tg.take j=t.tg:=List.take_of_length_le (by omega)
   rw[e]at r2
   exact⟨(v,v2,()),rfl,hk v v2 s1 s2 w r1 r2 (dl2_ h)⟩
def shT(s:Shr):ByteArray:=(s.1++s___b5df)++decD (@id Int s.2.1).toNat
def toT(s:Tgo):ByteArray:=(s.1++s___b5e2)++s.2.1
def tabParts(t:ATab):List ByteArray:=t.sh.map shT++t.tg.map toT
def tabText(t:ATab):ByteArray:=joinB (tabParts t)
theorem zsR [bTab w0](h:St w0 E w){p:HT [.slice,.slice]}{t:ATab}(r:TabR w0 E p t)(hw:∀s∈t.sh,(0≤@id Int s.2.1∧@id Int s.2.1≤1000)∧s.1.size≤1000)(hg:∀s∈t.tg,s.1.size≤1000∧s.2.1.size≤1000){k:ByteArray→PT}
  (hk:∀w',St w0 E w'→k (tabText t) w'):L.call Pr zap [tabV p] (.one (.one .str)) k w:=by
 refine z01 (zjF p) ?_
 unfold ze6
 have fsh:=r.fsh
 have ftg:=r.ftg
 refine nw h ?_;clear h;(try clear w);intro b1 w h
 (refine laC h ?_)
 refine zr0 h r.there (fun s hs=>(hw s hs).1) fun v1 v2 s1 s2 w r1 r2 h=>?_
 have hl1:=Rw.len encTo r1
 have hl2:=Rw.len encTo r2
 rw[List.length_map]at hl1
 (try dsimp only)
 have hc:s___b5df.size=1:=rfl
 have he:s___b5e2.size=1:=rfl
 refine z0u (fun q y w=>∃(j:Nat)(s3:Seg),@Eq Int y.2.1 j∧q+j=t.sh.length∧Rw eS z00 1 y.1 ((t.sh.take j).map shT) s3∧St w0 (s3::s2::s1::[Cl b1 z02 [SlV p.1,SlV p.2.1]]::E) w) t.sh.length ⟨0,[],rfl,rfl,Rw.nil,h.nil⟩ ?_
 clear h;(try clear w)
 rintro q ⟨v,y,⟨⟩⟩ w ⟨j,s3,hy,hq,r3,h⟩ again hag
 (try dsimp only)
 simp only at hy r3
 subst hy
 refine it (fun hb=>?_) (fun hb=>?_)<;>(try simp only[zB]at hb)
 ·have hj:j<t.sh.length:=by omega
  have hx:t.sh[j]? = some t.sh[j]:=List.getElem?_eq_getElem hj
  have hm:=hw t.sh[j] (List.getElem_mem hj)
  have et:(t.sh.take (j+1)).map shT=(t.sh.take j).map shT++[shT t.sh[j]]:=by rw[List.take_succ,hx,List.map_append];rfl
  generalize t.sh[j]=z at hx hm et
  obtain⟨z1,z2,⟨⟩⟩:=z
  simp only[id]at hm
  (try dsimp only at hm)
  have hd:=zfI (@id Int z2).toNat
  simp only[id]at hd
  refine Rw.ix encTo r1 (by omega) (by simpa using hj) fun a ha=>?_
  refine Rw.lda encTo h 2 rfl r1 ha (x:=((z1,decD (@id Int z2).toNat,()):Tgo)) (by simp[hx]) rfl ?_
  refine nw h ?_;clear h;(try clear w);intro b8 w h
  (refine stC h ?_;clear h;(try clear w);intro w h;dsimp only[putN,setN]at h)
  refine ix (by decide) (by decide) ?_
  (refine ldC h ?_)
  refine gd (by rw[hc];simp only[maxI64];omega) ?_
  refine ix (by decide) (by decide) ?_
  (refine ldC h ?_)
  refine gd (by rw[ByteArray.size_append,hc];simp only[maxI64,id];omega) ?_
  refine nw h ?_;clear h;(try clear w);intro b13 w h
  refine Rw.app encS elS h 1 rfl r3 (shT ((z1,z2,()):Shr)) rfl (by simp;omega) (by simp;omega) fun v' s3' w r3' h=>?_
  refine hag (q-1) _ w (by omega) ⟨j+1,s3',?_,by omega,by rw[et];exact r3',dl0_ h⟩
  show IntKind.wrap .i64 _=_
  rw[wr (by omega) (by omega)];omega
 ·have e:t.sh.take j=t.sh:=List.take_of_length_le (by omega)
  rw[e]at r3
  refine z0u (fun q y w=>∃(j:Nat)(s3:Seg),@Eq Int y.2.1 j∧q+j=t.tg.length∧Rw eS z00 1 y.1 (t.sh.map shT++(t.tg.take j).map toT) s3∧St w0 (s3::s2::s1::[Cl b1 z02 [SlV p.1,SlV p.2.1]]::E) w) t.tg.length ⟨0,s3,rfl,rfl,by simpa using r3,h⟩ ?_
  clear hag hb hq j e r3
  clear h;(try clear w)
  rintro q ⟨v,y,⟨⟩⟩ w ⟨j,s3,hy,hq,r3,h⟩ again hag
  (try dsimp only)
  simp only at hy r3
  subst hy
  refine it (fun hb=>?_) (fun hb=>?_)<;>(try simp only[zB]at hb)
  ·have hj:j<t.tg.length:=by omega
   have hx:t.tg[j]? = some t.tg[j]:=List.getElem?_eq_getElem hj
   have hm:=hg t.tg[j] (List.getElem_mem hj)
   have et:(t.tg.take (j+1)).map toT=(t.tg.take j).map toT++[toT t.tg[j]]:=by rw[List.take_succ,hx,List.map_append];rfl
   generalize t.tg[j]=z at hx hm et
   obtain⟨z1,z2,⟨⟩⟩:=z
   (try dsimp only at hm)
   refine Rw.ix encTo r2 (by omega) (by simpa using hj) fun a ha=>?_
   refine Rw.lda encTo h 1 rfl r2 ha (x:=((z1,z2,()):Tgo)) (by simp[hx]) rfl ?_
   refine nw h ?_;clear h;(try clear w);intro b8 w h
   (refine stC h ?_;clear h;(try clear w);intro w h;dsimp only[putN,setN]at h)
   refine ix (by decide) (by decide) ?_
   (refine ldC h ?_)
   refine gd (by rw[he];simp only[maxI64];omega) ?_
   refine ix (by decide) (by decide) ?_
   (refine ldC h ?_)
   refine gd (by rw[ByteArray.size_append,he];simp only[maxI64];omega) ?_
   refine nw h ?_;clear h;(try clear w);intro b13 w h
   refine Rw.app encS elS h 1 rfl r3 (toT ((z1,z2,()):Tgo)) rfl (by simp;omega) (by simp;omega) fun v' s3' w r3' h=>?_
   refine hag (q-1) _ w (by omega) ⟨j+1,s3',?_,by omega,by rw[et,←List.append_assoc];exact r3',dl0_ h⟩
   show IntKind.wrap .i64 _=_
   rw[wr (by omega) (by omega)];omega
  ·have e:t.tg.take j=t.tg:=List.take_of_length_le (by omega)
   rw[e]at r3
   refine zkv h 0 rfl r3 (by simp;omega) ?_ fun w h=>⟨_,rfl,hk w (dl0_ (dl0_ (dl0_ (dl0_ h))))⟩
   have:=zeY 3100 (tabParts t) fun x hx=>by
    rcases List.mem_append.1 hx with hx | hx
    ·obtain⟨s,hs,rfl⟩:=List.mem_map.1 hx
     have h1:=hw s hs
     have hd:=zfI (@id Int s.2.1).toNat
     unfold shT
     rw[ByteArray.size_append,ByteArray.size_append,hc]
     simp only[id]at h1 hd ⊢
     omega
    ·obtain⟨s,hs,rfl⟩:=List.mem_map.1 hx
     have h1:=hg s hs
     unfold toT
     rw[ByteArray.size_append,ByteArray.size_append,he]
     omega
   have hl:(tabParts t).length=t.sh.length+t.tg.length:=by simp[tabParts]
   show(joinB (tabParts t)).size<_
   rw[hl]at this
   have:(t.sh.length+t.tg.length)*3101<1000000000000:=by omega
   omega
end Go.Proofs.YtdcdhcgmeahfmaaGreatDoor

namespace Go.Proofs
open Go.Shelf
def Tryz.lays194_ren:Go.Shelf.Ren:=⟨fun | 194=>291 | n=>n,fun | 31=>33 | 9=>9 | 3=>3 | 4=>4 | 0=>0 | n=>n,fun | n=>n⟩
theorem Tryz.lays194:Go.Proofs.Lays.n194 Tryz.prog Tryz.lays194_ren:={
 mixed:=by kernel_rfl
 f194:=Tryz.func291.trans (congrArg some (by kernel_rfl))
 t0:=Tryz.underlying0
 a0:=Tryz.isAgg0
 z0:=Tryz.sizeOf0
 v0:=Tryz.zeroValue0
 t3:=Tryz.underlying3
 a3:=Tryz.isAgg3
 z3:=Tryz.sizeOf3
 v3:=Tryz.zeroValue3
 t4:=Tryz.underlying4
 a4:=Tryz.isAgg4
 z4:=Tryz.sizeOf4
 v4:=Tryz.zeroValue4
 t9:=Tryz.underlying9
 a9:=Tryz.isAgg9
 z9:=Tryz.sizeOf9
 v9:=Tryz.zeroValue9
 t31:=Tryz.underlying33
 a31:=Tryz.isAgg33
 z31:=Tryz.sizeOf33
 v31:=Tryz.zeroValue33 }
open Go.RowKit Go.Lib Go.Sort in
theorem Tryz.slices_Compact_string(blk off cap:Nat)(zs:List (List UInt8))(w:World)(hH:Holds encStr w blk off zs.toArray)(hsz:zs.length≤9223372036854775807)(hcap:zs.length≤cap) :
  Calls Tryz.prog 291 #[.slice (some ⟨blk,off,none⟩) zs.length cap] w fun e w'=>e = .returned (.slice (some ⟨blk,off,none⟩) (Lib.compact zs).length cap)∧∃q,w'=putRow encStr (Sort.ahead w q) blk off (Lib.compact zs++List.replicate (zs.length-(Lib.compact zs).length) []).toArray:=Any.slices_Compact_string Tryz.lays194 blk off cap zs w hH hsz hcap
open Go.RowKit Go.Lib Go.Sort in
theorem Tryz.slices_Compact_string_empty(a:Option Addr)(cap:Nat)(w:World) :
  Calls Tryz.prog 291 #[.slice a 0 cap] w fun e w'=>e = .returned (.slice a 0 cap)∧w'=w:=Any.slices_Compact_string_empty Tryz.lays194 a cap w
end Go.Proofs
namespace Go.Proofs.YtdcdhcgmeahfmaaGreatDoor
open Go.Dm
attribute [local irreducible] L.load L.store L.chk L.new L.nonnil L.guard L.ite L.draw L.idx L.sem L.semR L.semU L.chkSem L.next L.call L.callV L.join L.alts L.loop L.begin L.endRound L.range
variable {w0 w:World}{E:List Seg}
def ofL(x:List UInt8):ByteArray:=⟨x.toArray⟩
theorem fl_L(l:List (List UInt8)):fl eL l=fl eS (l.map ofL):=by
 induction l with
 | nil=>rfl
 | cons x l ih=>
  simp only[fl,List.flatMap_cons,List.map_cons]at *
  rw[ih];rfl
def scomp(l:List ByteArray):List ByteArray:=(Lib.compact (l.map bl)).map ofL
theorem Rw.less{α:Type}{enc:α→List Value}{e size:Nat}{a:Option Addr}{n cap:Nat}{A B:List α}{s:Seg}(hE:Enc enc size)(hr:Rw enc e size ⟨a,n,cap⟩ (A++B) s)(h0:A≠[]):Rw enc e size ⟨a,A.length,cap⟩ A s:=by
 unfold Rw at *
 rw[zgQ]at hr
 have hA:=z7h hE A
 have hB:=z7h hE B
 generalize fl enc A=xa at *
 generalize fl enc B=xb at *
 generalize hx:xa++xb=xs at hr
 cases hr with
 | nil=>
  have:xa = []:=(List.append_eq_nil_iff.1 hx).1
  rw[this]at hA
  have:=hE.pos
  cases A with
  | nil=>exact absurd rfl h0
  | cons x A=>
   have:=Nat.mul_pos (show 0<A.length+1 by omega) hE.pos
   rw[List.length_cons,List.length_nil]at hA
   omega
 | mk g n cap pre xs spare post h1 h2 h3 h4=>
  subst hx
  rw[List.length_append]at h1 h2
  have:=Row.mk (e:=e) (size:=size) g A.length cap pre xa (xb++spare) post (by omega) (by rw[List.length_append];omega) (by
   have:A.length*size≤cap*size:=by omega
   exact Nat.le_of_mul_le_mul_right this hE.pos) h4
  simpa using this
theorem zmh{z:List (List UInt8)}(h:z≠[]):Lib.compact z≠[]:=by
 cases z with
 | nil=>exact absurd rfl h
 | cons x l=>
  unfold Lib.compact Lib.compactUpTo
  rw[List.length_cons,List.range_succ_eq_map,List.filter_cons_of_pos (by simp[Lib.keeps])]
  simp
theorem zmz(h:St w0 E w)(i:Nat){s:Seg}(hi:nth E i=some s){v:Sl}{l:List ByteArray}(hr:Rw eS z00 1 v l s)(hn:l.length<1000000000){k:Sl→PT}
  (hk:∀v' s' w',Rw eS z00 1 v' (scomp l) s'→St w0 (setN E i s') w'→k v' w'):L.call Pr z3F [SlV v] (.one (.one .slice)) k w:=by
 have hr0:=hr
 have hlen:=Rw.len encS hr
 have hcap:=hr.cap
 have hr:Rw eL z00 1 v (l.map bl) s:=by unfold Rw at *;rwa [←zqN]
 by_cases hl:l = []
 ·subst hl
  have e:v.len=0:=hlen
  obtain⟨a,n,c⟩:=v
  dsimp only at e
  subst e
  refine z7I (Tryz.slices_Compact_string_empty a c w) fun e w' ⟨he,hw⟩=>⟨⟨a,0,c⟩,he,?_⟩
  subst hw
  exact hk _ s _ hr0 (by rw[z2h hi];exact h)
 ·obtain⟨va,vn,vc⟩:=v
  have:∃g off,va=some ⟨g,off,none⟩:=by
   have hr':=hr0
   unfold Rw at hr'
   generalize fl eS l=xs at hr'
   cases hr' with
   | nil=>exact absurd (List.eq_nil_of_length_eq_zero hlen.symm) hl
   | mk=>exact⟨_,_,rfl⟩
  obtain⟨g,off,rfl⟩:=this
  simp only at hlen hcap
  subst hlen
  have e1:l.length=(l.map bl).length:=by simp
  obtain⟨hH,hlt⟩:=Rw.holds h i (encv:=encStr) (fun _=>rfl) encL hi hr
  have hc:=Tryz.slices_Compact_string g off vc (l.map bl) w hH (by rw[←e1];omega) (by rw[←e1];exact hcap.1)
  rw[←e1]at hc
  refine z7I hc fun e w' ⟨he,q,hw⟩=>⟨⟨some ⟨g,off,none⟩,(Lib.compact (l.map bl)).length,vc⟩,he,?_⟩
  subst hw
  have hle:=Lib.compact_length_le (l.map bl)
  obtain⟨s',hr2,h3⟩:=St.putRow (w:=Sort.ahead w q) (h.drawn) i (encv:=encStr) (fun _=>rfl) encL hi hr (Lib.compact (l.map bl)++List.replicate (l.length-(Lib.compact (l.map bl)).length) []) (by rw[List.length_append,List.length_replicate];omega)
  refine hk _ s' _ ?_ h3
  have hz:=Rw.less encL hr2 (zmh (by simpa using hl))
  unfold Rw at *
  rwa [fl_L]at hz
def wOf:List Shr→ByteArray→Int
 | [],_=>0
 | s::l,r=>if s.1=r then s.2.1 else wOf l r
theorem zkI(s:Shr)(l:List Shr)(r:ByteArray):wOf (s::l) r=if s.1=r then s.2.1 else wOf l r:=rfl
theorem zam{l:List Shr}{r:ByteArray}(hw:∀s∈l,0≤@id Int s.2.1∧@id Int s.2.1≤1000):0≤wOf l r∧wOf l r≤1000:=by
 induction l with
 | nil=>exact⟨Int.le_refl 0,(by decide:(0:Int)≤1000)⟩
 | cons s l ih=>
  rw[zkI]
  split
  ·exact hw s (by simp)
  ·exact ih fun x hx=>hw x (List.mem_cons_of_mem _ hx)
theorem zf5(h:St w0 E w){v:Sl}{l:List Shr}(r:RdE w0 E eSh v l)(hn:l.length<1000000){rev:ByteArray}{k:Int→PT}(hk:∀w',St w0 E w'→k (wOf l rev) w') :
  L.call Pr z4S [SlV v,.string rev] (.one (.one (.int .i64))) k w:=by
 refine z01 (zhZ v rev) ?_
 unfold zcR
 have hlen:=Rd.len (r w h)
 refine nw h ?_;clear h;(try clear w);intro b1 w h
 refine z01 (z4Z v ⟨.func z61,#[],#[.pointer (some ⟨b1,0,none⟩)]⟩) ?_
 unfold z2G
 refine z0u (fun q y w=>∃(j:Nat),@Eq Int y.1 j∧q+j=l.length∧wOf l rev=wOf (l.drop j) rev∧St w0 ([Cl b1 z00 [.string rev]]::E) w) l.length ⟨0,rfl,rfl,rfl,h⟩ ?_
 clear h;(try clear w)
 rintro q ⟨y,⟨⟩⟩ w ⟨j,hy,hq,hp,h⟩ again hag
 (try dsimp only)
 simp only at hy hp
 subst hy
 refine it (fun hb=>?_) (fun hb=>?_)<;>(try simp only[zB]at hb)
 ·have hj:j<l.length:=by omega
  have hx:l[j]? = some l[j]:=List.getElem?_eq_getElem hj
  have rr:=r w (dl0_ h)
  have ed:l.drop j=l[j]::l.drop (j+1):=by rw[←List.getElem_cons_drop hj]
  rw[ed]at hp
  generalize l[j]=z at hx hp
  obtain⟨z1,z2,⟨⟩⟩:=z
  refine rr.ix encSh (by omega) (by simpa using hj) fun a ha=>?_
  refine rr.lda encSh ha (by simpa using hx) rfl ?_
  refine z4W (fs:=#[]) (cs:=#[.pointer (some ⟨b1,0,none⟩)]) zg3 (zg7 (z1,z2,()) ⟨b1,0,none⟩) ?_
  unfold zaH
  refine nw h ?_;clear h;(try clear w);intro b4 w h
  (dsimp only[setN,List.cons_append,List.nil_append]at h;refine ldC h ?_;refine ldC h ?_)
  refine⟨_,rfl,?_⟩
  rw[zkI]at hp
  (try dsimp only at hp)
  rw[z3Z]
  refine it (fun hc=>?_) (fun hc=>?_)<;>(try simp only[zB]at hc)
  ·rw[if_pos hc]at hp
   refine⟨_,rfl,?_⟩
   refine itF (by simp) ?_
   have rr:=r w (dl0_ (dl0_ h))
   refine rr.ix encSh (by omega) (by simpa using hj) fun a ha=>?_
   refine rr.ld encSh ha (f:=1) (by simpa using hx) rfl rfl ?_
   exact⟨_,rfl,by have:=hk w (dl0_ (dl0_ h));rw[hp]at this;exact this⟩
  ·rw[if_neg hc]at hp
   refine hag (q-1) _ w (by omega) ⟨j+1,?_,by omega,hp,dl0_ h⟩
   show IntKind.wrap .i64 _=_
   rw[wr (by omega) (by omega)];omega
 ·have e:l.drop j = []:=List.drop_of_length_le (by omega)
  rw[e]at hp
  refine⟨_,rfl,?_⟩
  refine itT (by decide) ?_
  exact⟨_,rfl,by have:=hk w (dl0_ h);rw[hp]at this;exact this⟩
abbrev revF:FV:=⟨.func zb7,#[],#[]⟩
theorem ziT{v:Sl}{l:List Shr}(r:RdE w0 E eSh v l)(hn:l.length<1000000){b:Nat}{V:Sl×Sl}{A:List ByteArray}(hA:A.length<1000000){vo:Sl}{so:Seg}(ro:Rw eS z00 1 vo A so){k:Sl×Int×Unit→PT}
  (h:St w0 (so::[Cl b z0F [SlV V.1,SlV V.2]]::E) w)
  (hk:∀v' s' m w',Rw eS z00 1 v' (A++l.map (·.1)) s'→St w0 (s'::[Cl b z0F [SlV V.1,SlV V.2]]::E) w'→k (v',m,()) w') :
  L.loop (Y:=Sl×Int×Unit) (⟨vo.a,vo.len,vo.cap⟩,0,()) (fun y5 again6=>
  L.ite (decide (y5.2.1<((v.len:Nat):Int))) (
   L.idx v.a y5.2.1 v.len 2 fun a7=>
   L.load (.agg [.str,.int .i64]) a7 fun(x8:ByteArray×Int×Unit)=>
   L.new [.string s_,.int .i64 0] z0m fun b9=>
   L.store (⟨b9,0,none⟩) [.string x8.1,.int .i64 x8.2.1]<|
   L.load (.agg [.str,.int .i64]) (⟨b9,0,none⟩) fun(x10:ByteArray×Int×Unit)=>
   L.callV Pr (.func revF.fn revF.fs revF.cs) [.agg #[.string x10.1,.int .i64 x10.2.1]] (.one (.one (.str))) fun(x11:ByteArray)=>
   L.new [.string x11] z00 fun b12=>
   L.sem Pr (.one (.one .slice)) (Builtin.append_ #[z07,z07] z07 #[.slice y5.1.a y5.1.len y5.1.cap,.slice (some ⟨b12,0,none⟩) 1 1]) fun(s13:Sl)=>
   again6 (⟨s13.a,s13.len,s13.cap⟩,IntKind.wrap .i64 (y5.2.1+1),()))<|
  k y5) w:=by
 have hlen:=Rd.len (r w (dl0_ (dl0_ h)))
 refine z0u (fun q y w=>∃(j:Nat)(s3:Seg),@Eq Int y.2.1 j∧q+j=l.length∧Rw eS z00 1 y.1 (A++(l.take j).map (·.1)) s3∧St w0 (s3::[Cl b z0F [SlV V.1,SlV V.2]]::E) w) l.length ⟨0,so,rfl,by simp,by simpa using ro,h⟩ ?_
 clear ro
 clear h;(try clear w)
 rintro q ⟨vo,y,⟨⟩⟩ w ⟨j,s3,hy,hq,r3,h⟩ again hag
 (try dsimp only)
 simp only at hy r3
 subst hy
 refine it (fun hb=>?_) (fun hb=>?_)<;>(try simp only[zB]at hb)
 ·have hj:j<l.length:=by omega
  have hx:l[j]? = some l[j]:=List.getElem?_eq_getElem hj
  have rr:=r w (dl0_ (dl0_ h))
  have et:(l.take (j+1)).map (·.1)=(l.take j).map (·.1)++[l[j].1]:=by rw[List.take_succ,hx,List.map_append];rfl
  generalize l[j]=z at hx et
  obtain⟨z1,z2,⟨⟩⟩:=z
  refine rr.ix encSh (by omega) (by simpa using hj) fun a ha=>?_
  refine rr.lda encSh ha (by simpa using hx) rfl ?_
  refine nw h ?_;clear h;(try clear w);intro b9 w h
  (refine stC h ?_;clear h;(try clear w);intro w h;dsimp only[putN,setN]at h;refine laC h ?_)
  refine z4W (fs:=#[]) (cs:=#[]) zmA (zmD (z1,z2,())) ?_
  unfold zh2
  refine nw h ?_;clear h;(try clear w);intro b4 w h
  (dsimp only[setN,List.cons_append,List.nil_append]at h;refine ldC h ?_)
  refine⟨_,rfl,?_⟩
  refine nw h ?_;clear h;(try clear w);intro b12 w h
  refine Rw.app encS elS h 2 rfl r3 z1 rfl (by simp;omega) (by simp;omega) fun v' s3' w r3' h=>?_
  refine hag (q-1) _ w (by omega) ⟨j+1,s3',?_,by omega,by rw[et,←List.append_assoc];exact r3',dl0_ (dl0_ h)⟩
  show IntKind.wrap .i64 _=_
  rw[wr (by omega) (by omega)];omega
 ·have e:l.take j=l:=List.take_of_length_le (by omega)
  rw[e]at r3
  exact hk vo s3 _ w r3 h
def namesOf(fr to:List Shr):List ByteArray:=scomp (ssort (fr.map (·.1)++to.map (·.1)))
theorem ziC(l:List ByteArray):(scomp l).length≤l.length:=by
 have:=Lib.compact_length_le (l.map bl)
 unfold scomp
 simpa using this
theorem zpC{v1 v2:Sl}{fr to:List Shr}(r1:RdE w0 E eSh v1 fr)(r2:RdE w0 E eSh v2 to)(n1:fr.length<100000)(n2:to.length<100000){b:Nat}(h:St w0 ([Cl b z0F [SlV v1,SlV v2]]::E) w){k:Sl→PT}
  (hk:∀v' s' w',Rw eS z00 1 v' (namesOf fr to) s'→St w0 (s'::[Cl b z0F [SlV v1,SlV v2]]::E) w'→k v' w') :
  L.call Pr z2x [revF.val,.slice (some ⟨b,0,none⟩) 2 2] (.one (.one .slice)) k w:=by
 refine z01 (z6V revF ⟨some ⟨b,0,none⟩,2,2⟩) ?_
 unfold z3G
 let N:Nat→List ByteArray:=fun j=>if j=0 then []else if j=1 then fr.map (·.1)else fr.map (·.1)++to.map (·.1)
 refine z0u (fun q y w=>∃(j:Nat)(s3:Seg),@Eq Int y.2.1 j∧q+j=2∧Rw eS z00 1 y.1 (N j) s3∧St w0 (s3::[Cl b z0F [SlV v1,SlV v2]]::E) w) 2 ⟨0,[],rfl,rfl,Rw.nil,h.nil⟩ ?_
 clear h;(try clear w)
 rintro q ⟨vo,y,⟨⟩⟩ w ⟨j,s3,hy,hq,r3,h⟩ again hag
 (try dsimp only)
 simp only at hy r3
 subst hy
 refine it (fun hb=>?_) (fun hb=>?_)<;>(try simp only[zB]at hb)
 ·have hj:j=0∨j=1:=by omega
  rcases hj with rfl | rfl
  ·refine ix (by decide) (by decide) ?_
   (refine ldC h ?_)
   refine ziT r1 (by omega) (V:=(v1,v2)) (A:=[]) (by decide) r3 h fun v' s' m w r3' h=>?_
   exact hag 1 _ w (by omega) ⟨1,s',by rfl,by omega,r3',h⟩
  ·refine ix (by decide) (by decide) ?_
   (refine ldC h ?_)
   refine ziT r2 (by omega) (V:=(v1,v2)) (A:=fr.map (·.1)) (by simp;omega) r3 h fun v' s' m w r3' h=>?_
   exact hag 0 _ w (by omega) ⟨2,s',by rfl,by omega,r3',h⟩
 ·have hj:j=2:=by omega
  subst hj
  have r3:Rw eS z00 1 vo (fr.map (·.1)++to.map (·.1)) s3:=r3
  refine zop h 0 rfl r3 (by simp;omega) fun s' w r3 h=>?_
  refine zmz h 0 rfl r3 (by rw[z2R];simp;omega) fun v' s' w r3 h=>?_
  exact⟨v',rfl,hk v' s' w r3 h⟩
def upOf(fr to:List Shr)(gone whole:Int)(n:ByteArray):Int:=if 0<wOf to n-wOf fr n then(wOf to n-wOf fr n)*gone/whole else 0
def rollStep(fr to:List Shr)(gone whole:Int)(st:Int×List Shr)(n:ByteArray):Int×List Shr:=
 let d:=wOf fr n-wOf to n
 let m:=if 0<d then 0-(if st.1<d then st.1 else d)else upOf fr to gone whole n
 (if 0<d then st.1+m else st.1,if 0<wOf fr n+m then st.2++[(n,wOf fr n+m,())]else st.2)
def rollL(fr to:List Shr)(gone whole:Int):List Shr:=
 ((namesOf fr to).foldl (rollStep fr to gone whole) (((namesOf fr to).map (upOf fr to gone whole)).sum,[])).2
def sharesOf(fr to:List Shr)(gone whole:Int):List Shr:=if whole≤0∨whole≤gone then to else if gone≤0 then fr else rollL fr to gone whole
theorem zha{fr to:List Shr}{gone whole:Int}(hf:∀s∈fr,0≤@id Int s.2.1∧@id Int s.2.1≤1000)(ht:∀s∈to,0≤@id Int s.2.1∧@id Int s.2.1≤1000)(h0:0<gone)(h1:gone<whole)(n:ByteArray) :
  0≤upOf fr to gone whole n∧upOf fr to gone whole n≤1000:=by
 have a:=zam (r:=n) hf
 have b:=zam (r:=n) ht
 unfold upOf
 split
 ·rename_i hc
  have hd:wOf to n-wOf fr n≤1000:=by omega
  generalize wOf to n-wOf fr n=d at hc hd ⊢
  refine⟨Int.ediv_nonneg (Int.mul_nonneg (by omega) (by omega)) (by omega),Int.ediv_le_of_le_mul (by omega) ?_⟩
  exact Int.mul_le_mul hd (by omega) (by omega) (by omega)
 ·exact⟨by decide,by decide⟩
theorem zt4{fr to:List Shr}{gone whole:Int}(hf:∀s∈fr,0≤@id Int s.2.1∧@id Int s.2.1≤1000)(ht:∀s∈to,0≤@id Int s.2.1∧@id Int s.2.1≤1000)(h0:0<gone)(h1:gone<whole)(h2:whole≤1000000)(n:ByteArray)(hc:0<wOf to n-wOf fr n) :
  IntKind.wrap .i64 (Int.tdiv (IntKind.wrap .i64 ((IntKind.wrap .i64 (wOf to n-wOf fr n))*gone)) whole)=upOf fr to gone whole n:=by
 have a:=zam (r:=n) hf
 have b:=zam (r:=n) ht
 have c:=zha hf ht h0 h1 n
 unfold upOf at c ⊢
 rw[if_pos hc]at c ⊢
 have hd:wOf to n-wOf fr n≤1000:=by omega
 have e1:IntKind.wrap .i64 (wOf to n-wOf fr n)=wOf to n-wOf fr n:=wr (by omega) (by omega)
 rw[e1]
 generalize wOf to n-wOf fr n=d at hc hd c ⊢
 have m0:0≤d*gone:=Int.mul_nonneg (by omega) (by omega)
 have m1:d*gone≤1000*1000000:=Int.mul_le_mul hd (by omega) (by omega) (by omega)
 have e2:IntKind.wrap .i64 (d*gone)=d*gone:=wr (by omega) (by omega)
 rw[e2,Int.tdiv_eq_ediv_of_nonneg m0,wr (by omega) (by omega)]
theorem zjo(h:St w0 E w){v1 v2:Sl}{fr to:List Shr}(r1:RdE w0 E eSh v1 fr)(r2:RdE w0 E eSh v2 to)(n1:fr.length<100000)(n2:to.length<100000)(z1:v1.a=none→fr = [])(z2:v2.a=none→to = [])
  (hf:∀s∈fr,0≤@id Int s.2.1∧@id Int s.2.1≤1000) (ht:∀s∈to,0≤@id Int s.2.1∧@id Int s.2.1≤1000) {gone whole:Int} (hw:whole≤1000000) {k:Sl→PT}
  (hk:∀v s w',Rw eSh z0m 2 v (sharesOf fr to gone whole) s→St w0 (s::E) w'→k v w'):L.call Pr z9w [SlV v1,SlV v2,I gone,I whole] (.one (.one .slice)) k w:=by
 refine z01 (zi0 v1 v2 _ _) ?_
 unfold zcS
 have toEnd:∀{w},(whole≤0∨whole≤gone)→St w0 E w→L.call Pr z0B [.slice v2.a v2.len v2.cap] (.one (.one (.slice))) (fun(x3:Sl) w'=>∃x,Value.slice x3.a x3.len x3.cap=RT.val (.one (.one .slice)) x∧k x w') w:=by
  intro w hc h
  refine zcH h (r2 w h) (by omega) z2 fun v s w r h=>⟨v,rfl,hk v s w ?_ h⟩
  unfold sharesOf;rw[if_pos hc];exact r
 refine jd ?_
 refine it (fun h1=>?_) (fun h1=>?_)<;>(try simp only[zB]at h1)
 ·exact itT rfl (toEnd (.inl h1) h)
 refine it (fun h2=>?_) (fun h2=>?_)
 ·exact toEnd (.inr (by simpa using h2)) h
 have h2:gone<whole:=by simpa using h2
 have hno:¬(whole≤0∨whole≤gone):=by omega
 refine it (fun h3=>?_) (fun h3=>?_)<;>(try simp only[zB]at h3)
 ·refine zcH h (r1 w h) (by omega) z1 fun v s w r h=>⟨v,rfl,hk v s w ?_ h⟩
  unfold sharesOf;rw[if_neg hno,if_pos h3];exact r
 unfold sharesOf at hk
 rw[if_neg hno,if_neg h3]at hk
 refine nw h ?_;clear h;(try clear w);intro b5 w h
 refine zpC r1 r2 n1 n2 h fun v6 s6 w r6 h=>?_
 have hl6:=Rw.len encS r6
 have hnn:(namesOf fr to).length<200000:=by
  have:=ziC (ssort (fr.map (·.1)++to.map (·.1)))
  rw[z2R,List.length_append,List.length_map,List.length_map]at this
  unfold namesOf;omega
 unfold rollL at hk
 generalize namesOf fr to=ns at *
 refine mkN elI encI 0 rfl h (by omega) (by omega) (by omega) fun v7 s7 w r7 h=>?_
 rw[Int.toNat_natCast,hl6]at r7
 have hup:∀n,0≤upOf fr to gone whole n∧upOf fr to gone whole n≤1000:=zha hf ht (by omega) h2
 have hupe:=fun n=>zt4 hf ht (by omega) h2 hw n
 have wf:∀n,0≤wOf fr n∧wOf fr n≤1000:=fun n=>zam hf
 have wt:∀n,0≤wOf to n∧wOf to n≤1000:=fun n=>zam ht
 have sumb:∀l:List ByteArray,0≤(l.map (upOf fr to gone whole)).sum∧(l.map (upOf fr to gone whole)).sum≤1000*l.length:=by
  intro l
  induction l with
  | nil=>exact⟨Int.le_refl 0,Int.le_refl 0⟩
  | cons x l ih=>
   have:=hup x
   simp only[List.map_cons,List.sum_cons,List.length_cons]
   omega
 have r1':RdE w0 ([Cl b5 z0F [SlV v1,SlV v2]]::E) eSh v1 fr:=fun w h=>r1 w (dl0_ h)
 have r2':RdE w0 ([Cl b5 z0F [SlV v1,SlV v2]]::E) eSh v2 to:=fun w h=>r2 w (dl0_ h)
 refine z0u (fun q y w=>∃(j:Nat)(m:List Int)(s7:Seg),@Eq Int y.2.1 j∧q+j=ns.length∧@Eq Int y.1 ((ns.take j).map (upOf fr to gone whole)).sum∧m.length=ns.length∧(∀i x,ns[i]? = some x→m[i]? = some (if i<j then upOf fr to gone whole x else 0))∧
  Rw eI z0h 1 v7 m s7∧St w0 (s7::s6::[Cl b5 z0F [SlV v1,SlV v2]]::E) w) ns.length ⟨0,_,s7,rfl,by simp,rfl,by simp,fun i x hx=>?_,r7,h⟩ ?_
 ·rw[if_neg (by omega),List.getElem?_replicate,if_pos (List.getElem?_eq_some_iff.1 hx).1]
 clear h;(try clear w)
 clear r7
 rintro q ⟨g,y,⟨⟩⟩ w ⟨j,m,s7,hy,hq,hg,hm,hmm,r7,h⟩ again hag
 (try dsimp only)
 simp only at hy hg
 subst hy
 refine it (fun hb=>?_) (fun hb=>?_)<;>(try simp only[zB]at hb)
 ·have hj:j<ns.length:=by omega
  have hx:ns[j]? = some ns[j]:=List.getElem?_eq_getElem hj
  have es:((ns.take (j+1)).map (upOf fr to gone whole)).sum=((ns.take j).map (upOf fr to gone whole)).sum+upOf fr to gone whole ns[j]:=by rw[List.take_succ,hx,List.map_append,List.sum_append];simp
  have hsb:=sumb (ns.take j)
  have hlt:(ns.take j).length≤200000:=by rw[List.length_take];omega
  generalize ns[j]=x at hx es
  have next:∀{w}{m':List Int}{s7':Seg}{g':Int},g'=g+upOf fr to gone whole x→m'.length=ns.length→(∀i z,ns[i]? = some z→m'[i]? = some (if i<j+1 then upOf fr to gone whole z else 0))→Rw eI z0h 1 v7 m' s7'→St w0 (s7'::s6::[Cl b5 z0F [SlV v1,SlV v2]]::E) w→again (g',IntKind.wrap .i64 ((j:Int)+1),()) w:=by
   intro w m' s7' g' e1 e2 e3 e4 h
   refine hag (q-1) _ w (by omega) ⟨j+1,m',s7',?_,by omega,?_,e2,e3,e4,h⟩
   ·show IntKind.wrap .i64 _=_
    rw[wr (by omega) (by omega)];omega
   ·show g'=_
    rw[e1,es,hg]
  refine jd ?_
  (refine dr h ?_;clear h;(try clear w);intro w h)
  refine Rw.ix encS r6 (by omega) (by simpa using hj) fun a1 ha1=>?_
  refine Rw.ld0 encS h 1 rfl r6 ha1 (x:=x) (by simpa using hx) rfl rfl ?_
  refine Rw.ix encS r6 (by omega) (by simpa using hj) fun a2 ha2=>?_
  refine Rw.ld0 encS h 1 rfl r6 ha2 (x:=x) (by simpa using hx) rfl rfl ?_
  refine zf5 h (fun w h=>r2' w (dl0_ (dl0_ h))) (by omega) fun w h=>?_
  refine Rw.cka encS h 1 rfl r6 ha2 (x:=x) (by simpa using hx) rfl ?_
  refine zf5 h (fun w h=>r1' w (dl0_ (dl0_ h))) (by omega) fun w h=>?_
  have hux:=hup x
  have hfx:=wf x
  have htx:=wt x
  have hue:=hupe x
  have e9:IntKind.wrap .i64 (wOf to x-wOf fr x)=wOf to x-wOf fr x:=wr (by omega) (by omega)
  refine it (fun h4=>?_) (fun h4=>?_)<;>(try simp only[zB]at h4)
  ·rw[e9]at h4
   have hue:=hue h4
   refine gd (by omega) ?_
   refine Rw.ix encI r7 (by omega) (by simp;omega) fun a3 ha3=>?_
   refine Rw.sta encI h 0 rfl r7 ha3 (upOf fr to gone whole x) (by simp;omega) (by rw[hue];rfl) fun s7' w r7' h=>?_
   refine Rw.ix encI r7' (by omega) (by simp;omega) fun a4 ha4=>?_
   refine Rw.ld0 encI h 0 rfl r7' ha4 (x:=upOf fr to gone whole x) (by rw[Int.toNat_natCast];exact List.getElem?_set_self (by omega)) rfl rfl ?_
   have eg:IntKind.wrap .i64 (g+upOf fr to gone whole x)=g+upOf fr to gone whole x:=wr (by omega) (by omega)
   (try dsimp only)
   rw[eg]
   refine next rfl (by simpa using hm) (fun i z hz=>?_) r7' h
   simp only[Int.toNat_natCast]
   rw[List.getElem?_set]
   split
   ·rename_i e;subst e
    rw[hx]at hz;cases hz
    rw[if_pos (by omega),if_pos (by omega)]
   ·rename_i e
    rw[hmm i z hz]
    by_cases hi:i<j
    ·rw[if_pos hi,if_pos (by omega)]
    ·rw[if_neg hi,if_neg (by omega)]
  ·rw[e9]at h4
   have h0:upOf fr to gone whole x=0:=by unfold upOf;rw[if_neg h4]
   refine next (by rw[h0];omega) hm (fun i z hz=>?_) r7 h
   rw[hmm i z hz]
   by_cases hi:i<j
   ·rw[if_pos hi,if_pos (by omega)]
   ·rw[if_neg hi]
    split
    ·have:i=j:=by omega
     subst this
     rw[hx]at hz;cases hz
     rw[h0]
    ·rfl
 ·have e:ns.take j=ns:=List.take_of_length_le (by omega)
  rw[e]at hg
  have hsb:=sumb ns
  have hm2:∀i x,ns[i]? = some x→m[i]? = some (upOf fr to gone whole x):=fun i x hx=>by
   rw[hmm i x hx,if_pos (by have:=(List.getElem?_eq_some_iff.1 hx).1;omega)]
  generalize hg0:(ns.map (upOf fr to gone whole)).sum=G at *
  refine z0u (fun q y w=>∃(j:Nat)(m:List Int)(s7 s8:Seg),@Eq Int y.2.2.1 j∧q+j=ns.length∧@Eq Int y.1 ((ns.take j).foldl (rollStep fr to gone whole) (G,[])).1∧(0≤@id Int y.1∧@id Int y.1≤G)∧m.length=ns.length∧(∀i x,j≤i→ns[i]? = some x→m[i]? = some (upOf fr to gone whole x))∧
   Rw eSh z0m 2 y.2.1 ((ns.take j).foldl (rollStep fr to gone whole) (G,[])).2 s8∧((ns.take j).foldl (rollStep fr to gone whole) (G,[])).2.length≤j∧
   Rw eI z0h 1 v7 m s7∧St w0 (s8::s7::s6::[Cl b5 z0F [SlV v1,SlV v2]]::E) w) ns.length ⟨0,m,s7,[],rfl,by simp,hg,?_,hm,fun i x _ hx=>hm2 i x hx,Rw.nil,by simp,r7,h.nil⟩ ?_
  ·show 0≤g∧g≤G
   omega
  clear hag hb hq hmm hm2 hm hg e r7
  clear j m
  clear h;(try clear w)
  rintro q ⟨g,vo,y,⟨⟩⟩ w ⟨j,m,s7,s8,hy,hq,hg,hgb,hm,hmm,r8,hl8,r7,h⟩ again hag
  (try dsimp only)
  simp only[id]at hgb
  simp only at hy hg r8
  subst hy
  refine it (fun hb=>?_) (fun hb=>?_)<;>(try simp only[zB]at hb)
  ·have hj:j<ns.length:=by omega
   have hx:ns[j]? = some ns[j]:=List.getElem?_eq_getElem hj
   have es:(ns.take (j+1)).foldl (rollStep fr to gone whole) (G,[])=rollStep fr to gone whole ((ns.take j).foldl (rollStep fr to gone whole) (G,[])) ns[j]:=by rw[List.take_succ,hx,List.foldl_append];rfl
   generalize (ns.take j).foldl (rollStep fr to gone whole) (G,[])=st at *
   generalize ns[j]=x at hx es
   obtain⟨st1,st2⟩:=st
   (try dsimp only at hg r8 hl8 es)
   have hux:=hup x
   have hfx:=wf x
   have htx:=wt x
   have hmx:=hmm j x (Nat.le_refl _) hx
   have next:∀{w}{m':List Int}{s7' s8':Seg}{g':Int}{vo':Sl}{l':List Shr},(g',l')=rollStep fr to gone whole (st1,st2) x→(0≤g'∧g'≤G)→m'.length=ns.length→(∀i z,j+1≤i→ns[i]? = some z→m'[i]? = some (upOf fr to gone whole z))→l'.length≤j+1→Rw eSh z0m 2 vo' l' s8'→Rw eI z0h 1 v7 m' s7'→
     St w0 (s8'::s7'::s6::[Cl b5 z0F [SlV v1,SlV v2]]::E) w→again (g',vo',IntKind.wrap .i64 ((j:Int)+1),()) w:=by
    intro w m' s7' s8' g' vo' l' e1 e0 e2 e3 el e4 e5 h
    refine hag (q-1) _ w (by omega) ⟨j+1,m',s7',s8',?_,by omega,?_,e0,e2,e3,?_,?_,e5,h⟩
    ·show IntKind.wrap .i64 _=_
     rw[wr (by omega) (by omega)];omega
    ·show g'=_
     rw[es,←e1]
    ·show Rw eSh z0m 2 vo' _ _
     rw[es,←e1];exact e4
    ·rw[es,←e1];exact el
   refine jd ?_
   refine Rw.ix encS r6 (by omega) (by simpa using hj) fun a1 ha1=>?_
   refine Rw.ld0 encS h 2 rfl r6 ha1 (x:=x) (by simpa using hx) rfl rfl ?_
   refine zf5 h (fun w h=>r1' w (dl0_ (dl0_ (dl0_ h)))) (by omega) fun w h=>?_
   refine jd ?_
   refine Rw.ix encS r6 (by omega) (by simpa using hj) fun a2 ha2=>?_
   refine Rw.ld0 encS h 2 rfl r6 ha2 (x:=x) (by simpa using hx) rfl rfl ?_
   refine zf5 h (fun w h=>r2' w (dl0_ (dl0_ (dl0_ h)))) (by omega) fun w h=>?_
   have e9:IntKind.wrap .i64 (wOf fr x-wOf to x)=wOf fr x-wOf to x:=wr (by omega) (by omega)
   rw[e9]
   refine it (fun h4=>?_) (fun h4=>?_)<;>(try simp only[zB]at h4)
   ·have hst:rollStep fr to gone whole (st1,st2) x=(st1+(0-(if st1<wOf fr x-wOf to x then st1 else wOf fr x-wOf to x)),if 0<wOf fr x+(0-(if st1<wOf fr x-wOf to x then st1 else wOf fr x-wOf to x))then st2++[(x,wOf fr x+(0-(if st1<wOf fr x-wOf to x then st1 else wOf fr x-wOf to x)),())]else st2):=by
     have h4':0<wOf fr x-wOf to x:=h4
     unfold rollStep
     dsimp only
     rw[if_pos h4',if_pos h4']
    subst hg
    have em:IntKind.wrap .i64 (0-(if g<wOf fr x-wOf to x then g else wOf fr x-wOf to x))=0-(if g<wOf fr x-wOf to x then g else wOf fr x-wOf to x):=by
     split<;>exact wr (by omega) (by omega)
    have hmv: -1000≤0-(if g<wOf fr x-wOf to x then g else wOf fr x-wOf to x)∧0-(if g<wOf fr x-wOf to x then g else wOf fr x-wOf to x)≤0∧0≤g+(0-(if g<wOf fr x-wOf to x then g else wOf fr x-wOf to x)):=by split<;>omega
    rw[em]
    generalize 0-(if g<wOf fr x-wOf to x then g else wOf fr x-wOf to x)=mv at hst em hmv
    refine Rw.ix encI r7 (by omega) (by rw[Int.toNat_natCast];omega) fun a3 ha3=>?_
    refine Rw.sta encI h 1 rfl r7 ha3 mv (by rw[Int.toNat_natCast];omega) rfl fun s7 w r7 h=>?_
    rw[Int.toNat_natCast]at r7
    have hm:(m.set j mv).length=ns.length:=by simpa using hm
    have hmj:(m.set j mv)[j]? = some mv:=List.getElem?_set_self (by rw[List.length_set]at hm;omega)
    have hm3:∀i z,j+1≤i→ns[i]? = some z→(m.set j mv)[i]? = some (upOf fr to gone whole z):=fun i z hi hz=>by
     rw[List.getElem?_set_ne (by omega)];exact hmm i z (by omega) hz
    generalize m.set j mv=m at *
    refine Rw.ix encI r7 (by omega) (by rw[Int.toNat_natCast];omega) fun a4 ha4=>?_
    refine Rw.ld0 encI h 1 rfl r7 ha4 (x:=mv) (by rw[Int.toNat_natCast];exact hmj) rfl rfl ?_
    have eg:IntKind.wrap .i64 (g+mv)=g+mv:=wr (by omega) (by omega)
    rw[eg]
    have hgg:0≤g+mv∧g+mv≤G:=by omega
    refine Rw.ix encI r7 (by omega) (by rw[Int.toNat_natCast];omega) fun a5 ha5=>?_
    refine Rw.ld0 encI h 1 rfl r7 ha5 (x:=mv) (by rw[Int.toNat_natCast];exact hmj) rfl rfl ?_
    have e10:IntKind.wrap .i64 (wOf fr x+mv)=wOf fr x+mv:=wr (by omega) (by omega)
    rw[e10]
    refine it (fun h5=>?_) (fun h5=>?_)<;>(try simp only[zB]at h5)
    ·rw[if_pos h5]at hst
     refine Rw.ix encS r6 (by omega) (by simpa using hj) fun a6 ha6=>?_
     refine Rw.ld0 encS h 2 rfl r6 ha6 (x:=x) (by simpa using hx) rfl rfl ?_
     refine nw h ?_;clear h;(try clear w);intro b40 w h
     refine Rw.app encSh elSh h 0 rfl r8 ((x,wOf fr x+mv,()):Shr) rfl (by omega) (by omega) fun v' s8' w r8' h=>?_
     exact next hst.symm hgg hm hm3 (by simp;omega) r8' r7 h
    ·rw[if_neg h5]at hst
     exact next hst.symm hgg hm hm3 (by omega) r8 r7 h
   ·have hst:rollStep fr to gone whole (st1,st2) x=(st1,if 0<wOf fr x+upOf fr to gone whole x then st2++[(x,wOf fr x+upOf fr to gone whole x,())]else st2):=by
     have h4':¬0<wOf fr x-wOf to x:=h4
     unfold rollStep
     dsimp only
     rw[if_neg h4',if_neg h4']
    subst hg
    have hgg:=hgb
    have hmj:=hmx
    have hm3:∀i z,j+1≤i→ns[i]? = some z→m[i]? = some (upOf fr to gone whole z):=fun i z hi hz=>hmm i z (by omega) hz
    generalize upOf fr to gone whole x=mv at hst hmj hux
    refine Rw.ix encI r7 (by omega) (by rw[Int.toNat_natCast];omega) fun a5 ha5=>?_
    refine Rw.ld0 encI h 1 rfl r7 ha5 (x:=mv) (by rw[Int.toNat_natCast];exact hmj) rfl rfl ?_
    have e10:IntKind.wrap .i64 (wOf fr x+mv)=wOf fr x+mv:=wr (by omega) (by omega)
    rw[e10]
    refine it (fun h5=>?_) (fun h5=>?_)<;>(try simp only[zB]at h5)
    ·rw[if_pos h5]at hst
     refine Rw.ix encS r6 (by omega) (by simpa using hj) fun a6 ha6=>?_
     refine Rw.ld0 encS h 2 rfl r6 ha6 (x:=x) (by simpa using hx) rfl rfl ?_
     refine nw h ?_;clear h;(try clear w);intro b40 w h
     refine Rw.app encSh elSh h 0 rfl r8 ((x,wOf fr x+mv,()):Shr) rfl (by omega) (by omega) fun v' s8' w r8' h=>?_
     exact next hst.symm hgg hm hm3 (by simp;omega) r8' r7 h
    ·rw[if_neg h5]at hst
     exact next hst.symm hgg hm hm3 (by omega) r8 r7 h
  ·have e:ns.take j=ns:=List.take_of_length_le (by omega)
   rw[e]at r8 hl8
   refine zcH h (Rw.rd encSh h 0 rfl r8) (by omega) (Rw.nil0 encSh r8) fun v s w r h=>⟨v,rfl,hk v s w r (dl1_ (dl1_ (dl1_ (dl1_ h))))⟩
abbrev Wy:=HT [.slice,.slice,.int .i64,.int .i64,.slice,.slice]
abbrev eWy:E1:=.agg [.slice,.slice,.int .i64,.int .i64,.slice,.slice]
def vWy(t:Wy):Value:=eWy.val t
def noWy:Wy:=(⟨none,0,0⟩,⟨none,0,0⟩,0,0,⟨none,0,0⟩,⟨none,0,0⟩,())
structure AWay where
 fr:List Shr
 to:List Shr
 since:Int
 whole:Int
 ns:List Shr
 ng:List Tgo
abbrev WBd(l:List Shr):Prop:=∀s∈l,0≤@id Int s.2.1∧@id Int s.2.1≤1000
structure AWay.Ok(a:AWay):Prop where
 fr:WBd a.fr
 to:WBd a.to
 ns:WBd a.ns
 lf:a.fr.length<100000
 lt:a.to.length<100000
 ln:a.ns.length<100000
 lg:a.ng.length<100000
structure WyE where
 k:ByteArray
 t:Wy
 a:AWay
def WyE.ok(P:List Seg)(x:WyE):Prop:=
 (∃s∈P,Rw eSh z0m 2 x.t.1 x.a.fr s)∧(∃s∈P,Rw eSh z0m 2 x.t.2.1 x.a.to s)∧x.t.2.2.1=x.a.since∧x.t.2.2.2.1=x.a.whole∧(∃s∈P,Rw eSh z0m 2 x.t.2.2.2.2.1 x.a.ns s)∧(∃s∈P,Rw eTo z2J 2 x.t.2.2.2.2.2.1 x.a.ng s)
abbrev WyE.kt(x:WyE):ByteArray×Wy:=(x.k,x.t)
abbrev WyE.ka(x:WyE):ByteArray×AWay:=(x.k,x.a)
theorem WyE.ok.more{P P':List Seg}{x:WyE}(h:x.ok P)(hp:∀s∈P,s∈P'):x.ok P':=by
 obtain⟨⟨s1,h1,r1⟩,⟨s2,h2,r2⟩,e1,e2,⟨s3,h3,r3⟩,⟨s4,h4,r4⟩⟩:=h
 exact⟨⟨s1,hp _ h1,r1⟩,⟨s2,hp _ h2,r2⟩,e1,e2,⟨s3,hp _ h3,r3⟩,⟨s4,hp _ h4,r4⟩⟩
abbrev ARoll:=List (ByteArray×AWay)
def RolS(b:Nat)(m:ARoll)(s:Seg):Prop:=∃r sm,∃(P:List Seg)(Q:List WyE),MpS Value.string vWy r (Q.map WyE.kt) sm∧(∀x∈Q,x.ok P)∧m=Q.map WyE.ka∧s = [Cl b z9I [.map (some r)]]++(sm++P.flatten)
theorem zmN:Pr.underlying z1Q=some (.map z00 z2a):=by kernel_rfl
theorem zwy(w:World):(zeroValue z2a).run Pr w = .ok (eWy.val noWy) w:=by
 have h:(Pr.info? z2a).map (·.zero)=some (some (.agg #[.slice none 0 0,.slice none 0 0,I 0,I 0,.slice none 0 0,.slice none 0 0])):=by kernel_rfl
 cases hi:Pr.info? z2a with
 | none=>rw[hi]at h;cases h
 | some i=>rw[hi]at h;simp only[Option.map_some,Option.some.injEq]at h;exact zv hi h w
theorem zfn{α:Type}{enc:α→List Value}{e size:Nat}{v:Sl}{l:List α}{s:Seg}{P:List Seg}(hE:Enc enc size)(hr:Rw enc e size v l s)(hs:s∈P)(i:Nat)(hi:nth E i=some P.flatten):RdE w0 E enc v l:=by
 obtain⟨A,B,rfl⟩:=List.append_of_mem hs
 intro w h
 have h:=h.front i hi
 have h:St w0 (s::(A.flatten++B.flatten)::delN E i) w:=by
  refine h.perm ?_
  simp only[List.flatten_append,List.flatten_cons,←List.append_assoc]
  exact List.Perm.append_right _ (List.Perm.append_right _ List.perm_append_comm)
 exact Rw.rd hE h 0 rfl hr
def wlook(Q:List WyE)(n:ByteArray):Option WyE:=lfind WyE.k Q n
theorem zh9(Q:List WyE)(n:ByteArray):mget (Q.map WyE.ka) n=(wlook Q n).map WyE.a:=z69 (key:=WyE.k) WyE.a n Q
theorem zqk(Q:List WyE)(n:ByteArray):mget (Q.map WyE.kt) n=(wlook Q n).map WyE.t:=z69 (key:=WyE.k) WyE.t n Q
theorem wlook2{r:Nat}{Q:List WyE}{s:Seg}(h:St w0 E w)(i:Nat)(hi:nth E i=some s)(hm:MpS Value.string vWy r (Q.map WyE.kt) s){n:ByteArray}{kk:Wy×Bool×Unit→PT}(hk:kk (((wlook Q n).map WyE.t).getD noWy,(wlook Q n).isSome,()) w) :
  L.semR Pr (.tup [eWy,.one .bool]) (Instr.lookup z1Q (.map (some r)) (.string n) true) kk w:=by
 refine MpS.get2 mkStr zmN zwy (fun t:Wy=>t) (fun _=>rfl) h i hi hm ?_
 have e:=zqk Q n
 have:((mget (Q.map WyE.kt) n).map fun t:Wy=>t).getD noWy=((wlook Q n).map WyE.t).getD noWy:=by rw[e];cases wlook Q n<;>rfl
 rw[this,e,Option.isSome_map];exact hk
theorem zrb(h:St w0 E w){k:Option Addr→PT}(hk:∀b s w',RolS b [] s→St w0 (s::E) w'→k (some ⟨b,0,none⟩) w'):L.call Pr zdA [] (.one (.one .ptr)) k w:=by
 refine z01 zmG ?_
 unfold zh5
 refine MpS.new h Value.string vWy fun r s w hm h=>?_
 refine nw h ?_;clear h;(try clear w);intro b w h
 exact⟨_,rfl,hk b _ w ⟨r,s,[],[],hm,by simp,rfl,by simp⟩ h.glue⟩
def roTab(m:ARoll)(n:ByteArray):ATab:=match mget m n with
 | some a=>⟨a.ns,a.ng⟩
 | none=>⟨[],[]⟩
theorem zoc(h:St w0 E w)(i:Nat){b:Nat}{m:ARoll}{s:Seg}(hi:nth E i=some s)(hs:RolS b m s){n:ByteArray}(hok:∀a,mget m n=some a→a.Ok){k:HT [.slice,.slice]×Bool×Unit→PT}
  (hk:∀p sx w',(∀E',TabR w0 (sx::E') p (roTab m n))→St w0 (sx::E) w'→k (p,(mget m n).isSome,()) w') :
  L.call Pr z5z [.pointer (some ⟨b,0,none⟩),.string n] (.tup [.agg [.slice,.slice],.one .bool]) k w:=by
 obtain⟨r,sm,P,Q,hm,hQ,rfl,rfl⟩:=hs
 refine z01 (zca _ _) ?_
 unfold z86
 have h:=(h.front i hi).split3
 refine nw h ?_;clear h;(try clear w);intro b1 w h
 (refine nn ?_;refine ldC h ?_)
 refine wlook2 h 2 rfl hm ?_
 rw[zh9]at hk hok
 unfold roTab at hk
 rw[zh9]at hk
 cases hf:wlook Q n with
 | none=>
  rw[hf]at hk
  refine nw h ?_;clear h;(try clear w);intro b5 w h
  (refine stC h ?_;clear h;(try clear w);intro w h;dsimp only[putN,setN]at h)
  refine itT rfl ?_
  (refine stC h ?_;clear h;(try clear w);intro w h;dsimp only[putN,setN]at h;refine laC h ?_)
  refine⟨((⟨none,0,0⟩,⟨none,0,0⟩,()),false,()),rfl,hk _ [] w (fun _=>⟨fun _ _=>Rd.nil,fun _ _=>Rd.nil,fun _=>rfl,fun _=>rfl,by decide,by decide⟩) ?_⟩
  exact St.nil (St.again i hi (dl0_ (dl0_ h)).glue3)
 | some x=>
  rw[hf]at hk hok
  have hx:x∈Q:=List.mem_of_find?_eq_some hf
  have ho:=hok x.a rfl
  obtain⟨h1,h2,e1,e2,⟨s3,h3,r3⟩,⟨s4,h4,r4⟩⟩:=hQ x hx
  dsimp only[Option.map,Option.getD]
  generalize x.t=t at *
  refine nw h ?_;clear h;(try clear w);intro b5 w h
  (refine stC h ?_;clear h;(try clear w);intro w h;dsimp only[putN,setN]at h)
  refine itF rfl ?_
  (refine laC h ?_)
  refine z9J (t:=⟨x.a.ns,x.a.ng⟩) (p:=(t.2.2.2.2.1,t.2.2.2.2.2.1,())) h ⟨zfn encSh r3 h3 4 rfl,zfn encTo r4 h4 4 rfl,Rw.nil0 encSh r3,Rw.nil0 encTo r4,ho.ln,ho.lg⟩ fun v1 v2 s1 s2 w r1 r2 h=>?_
  (refine stC h ?_;clear h;(try clear w);intro w h;dsimp only[putN,setN]at h;refine laC h ?_)
  refine⟨((v1,v2,()),true,()),rfl,hk _ (s2++s1) w (fun _=>⟨fun w h=>Rw.rd encSh h.split 1 rfl r1,fun w h=>Rw.rd encTo h.split 0 rfl r2,Rw.nil0 encSh r1,Rw.nil0 encTo r2,ho.ln,ho.lg⟩) ?_⟩
  have h:=dl2_ (dl2_ h)
  have h:=fr4_ (fr4_ (fr4_ h))
  have h:=h.glue3
  have h:=St.again (E:=s2::s1::E) (i+2) hi h
  exact h.glue
instance :DecidableEq Shr:=inferInstanceAs (DecidableEq (ByteArray×Int×Unit))
instance :DecidableEq Tgo:=inferInstanceAs (DecidableEq (ByteArray×ByteArray×Unit))
theorem zs0(a b:Shr)(w:World):(do eqGuard .neq z0m (.tmp 0) (.tmp 0) (.agg #[.string a.1,.int .i64 a.2.1]) (.agg #[.string b.1,.int .i64 b.2.1]);binOp .neq z0m (.agg #[.string a.1,.int .i64 a.2.1]) (.agg #[.string b.1,.int .i64 b.2.1]):Sem Value).run Pr w = .ok (.bool (!((a.1 == b.1)&&((a.2.1 == b.2.1)&&true)))) w:=by
 obtain⟨a1,a2,⟨⟩⟩:=a
 obtain⟨b1,b2,⟨⟩⟩:=b
 refine zqb (by kernel_rfl) ?_
 have hS:Pr.underlying z0m=some (.struct (Pr.fieldsOf z0m)):=by kernel_rfl
 have hp:Pr.stoodInHeld z0m=false:=by kernel_rfl
 rw[show(10000:Nat)=9999+1 from rfl,run_equalIn_agg w 9999 z0m _ _ hS hp]
 have u9:=Tryz.underlying9
 have i9:=Tryz.isAgg9
 have z9:=Tryz.sizeOf9
 have u3:=Tryz.underlying3
 have i3:=Tryz.isAgg3
 have z3:=Tryz.sizeOf3
 simp only[Program.fieldsOf,Tryz.underlying101]
 go_simp
 have e:(ByteArray.toList a1=ByteArray.toList b1)↔(@BEq.beq ByteArray _ a1 b1)=true:=by rw[beq_toListBytes];simp
 by_cases h1:(@BEq.beq ByteArray _ a1 b1)=true
 ·have:=e.2 h1
  by_cases h2:a2=b2<;>simp[h1,h2,this]
 ·have:=fun hh=>h1 (e.1 hh)
  by_cases h2:a2=b2<;>first | (simp[h1,h2,this];done) | (simp[h1,h2];exact this)
theorem zos(h:St w0 E w){v1 v2:Sl}{l1 l2:List Shr}(r1:RdE w0 E eSh v1 l1)(r2:RdE w0 E eSh v2 l2)(n1:l1.length<1000000){k:Bool→PT}(hk:∀w',St w0 E w'→k (decide (l1=l2)) w') :
  L.call Pr z1m [SlV v1,SlV v2] (.one (.one .bool)) k w:=by
 refine z01 (z5O v1 v2) ?_
 unfold z38
 have e1:=Rd.len (r1 w h)
 have e2:=Rd.len (r2 w h)
 refine it (fun hc=>?_) (fun hc=>?_)<;>(try simp only[bne_iff_ne,ne_eq,bne_eq_false_iff_eq]at hc)
 ·refine⟨false,rfl,?_⟩
  have:=hk w h
  rw[decide_eq_false (fun e=>by rw[e]at e1;omega)]at this
  exact this
 have hl:l1.length=l2.length:=by omega
 refine z0u (fun q y w=>∃(j:Nat),@Eq Int y.1 j∧q+j=l1.length∧l1.take j=l2.take j∧St w0 E w) l1.length ⟨0,rfl,rfl,rfl,h⟩ ?_
 clear h;(try clear w)
 rintro q ⟨y,⟨⟩⟩ w ⟨j,hy,hq,he,h⟩ again hag
 (try dsimp only)
 simp only at hy
 subst hy
 refine it (fun hb=>?_) (fun hb=>?_)<;>(try simp only[zB]at hb)
 ·have hj:j<l1.length:=by omega
  have hx:l1[j]? = some l1[j]:=List.getElem?_eq_getElem hj
  have hz:l2[j]? = some (l2[j]'(by omega)):=List.getElem?_eq_getElem (by omega)
  generalize l1[j]=x at hx
  generalize (l2[j]'(by omega))=z at hz
  refine dr h ?_
  clear h;(try clear w)
  intro w h
  refine(r1 w h).ix encSh (by omega) (by simpa using hj) fun a ha=>?_
  refine(r1 w h).lda encSh ha (by simpa using hx) rfl ?_
  refine(r2 w h).ix encSh (by omega) (by simp;omega) fun a ha=>?_
  refine(r2 w h).lda encSh ha (by simpa using hz) rfl ?_
  unfold L.chkSem
  refine⟨zs0 x z w,?_⟩
  have hxz:((x.1 == z.1)&&((x.2.1 == z.2.1)&&true))=decide (x=z):=by
   obtain⟨x1,x2,⟨⟩⟩:=x
   obtain⟨z1,z2,⟨⟩⟩:=z
   have e:(@BEq.beq ByteArray _ x1 z1)=true↔x1=z1:=zgW
   dsimp only
   rw[Bool.eq_iff_iff]
   simp only[Bool.and_eq_true,decide_eq_true_eq,Prod.mk.injEq,and_true,beq_iff_eq,e]
  rw[hxz]
  refine it (fun hc=>?_) (fun hc=>?_)
  ·have hne:x≠z:=by simpa using hc
   refine⟨false,rfl,?_⟩
   have:=hk w h
   rw[decide_eq_false (fun e=>by rw[e,hz]at hx;cases hx;exact hne rfl)]at this
   exact this
  ·have heq:x=z:=by simpa using hc
   refine hag (q-1) _ w (by omega) ⟨j+1,?_,by omega,?_,h⟩
   ·show IntKind.wrap .i64 _=_
    rw[wr (by omega) (by omega)];omega
   ·rw[List.take_succ,List.take_succ,he,hx,hz,heq]
 ·refine⟨true,rfl,?_⟩
  have:=hk w h
  rw[decide_eq_true (by rw[List.take_of_length_le (by omega),List.take_of_length_le (by omega)]at he;exact he)]at this
  exact this
def wayOf(m:ARoll)(n:ByteArray)(t:ATab)(now whole:Int):AWay:=match mget m n with
 | some a=>if a.to=t.sh∧a.whole=whole then a else⟨a.ns,t.sh,now,whole,[],[]⟩
 | none=>⟨t.sh,t.sh,now,whole,[],[]⟩
def nowOf(m:ARoll)(n:ByteArray)(t:ATab)(now whole:Int):ATab:=⟨sharesOf (wayOf m n t now whole).fr (wayOf m n t now whole).to (now-(wayOf m n t now whole).since) whole,t.tg⟩
def roTurn(m:ARoll)(n:ByteArray)(t:ATab)(now whole:Int):ARoll:=
 mset m n ⟨(wayOf m n t now whole).fr,(wayOf m n t now whole).to,(wayOf m n t now whole).since,(wayOf m n t now whole).whole,(nowOf m n t now whole).sh,t.tg⟩
abbrev wyC(t:Wy):List Value:=[SlV t.1,SlV t.2.1,I t.2.2.1,I t.2.2.2.1,SlV t.2.2.2.2.1,SlV t.2.2.2.2.2.1]
theorem _root_.Go.Dm.St.pool{s:Seg}{P F:List Seg}(h:St w0 (s::P.flatten::F) w):St w0 ((s::P).flatten::F) w:=h.eq (by simp)
structure WyR(P:List Seg)(t:Wy)(a:AWay):Prop where
 fr:∃s∈P,Rw eSh z0m 2 t.1 a.fr s
 to:∃s∈P,Rw eSh z0m 2 t.2.1 a.to s
 since:t.2.2.1=a.since
 whole:t.2.2.2.1=a.whole
abbrev rolC(b r:Nat):Seg:=[Cl b z9I [.map (some r)]]
theorem ztg{b r0 b1 b2 b6:Nat}{sm:Seg}{P F:List Seg}{p:HT [.slice,.slice]}{t:ATab}{now whole:Int}{o:Option WyE}{k7:Unit→PT}(hx:∀x,o=some x→WyE.ok P x)(hok:∀x,o=some x→x.a.Ok)(fsh:t.sh.length<100000)
  (r:TabR w0 (rolC b r0::sm::P.flatten::F) p t)
  (h:St w0 ([Cl b6 z2a (wyC ((o.map WyE.t).getD noWy))]::[Cl b2 z02 [SlV ⟨none,0,0⟩,SlV ⟨none,0,0⟩]]::[Cl b1 z02 [SlV p.1,SlV p.2.1]]::rolC b r0::sm::P.flatten::F) w)
  (hk:∀N t' w',WyR (N++P) t' (match o with | some x=>if x.a.to=t.sh∧x.a.whole=whole then x.a else⟨x.a.ns,t.sh,now,whole,[],[]⟩ | none=>⟨t.sh,t.sh,now,whole,[],[]⟩)→
   St w0 ([Cl b6 z2a (wyC t')]::[Cl b2 z02 [SlV ⟨none,0,0⟩,SlV ⟨none,0,0⟩]]::[Cl b1 z02 [SlV p.1,SlV p.2.1]]::rolC b r0::sm::(N++P).flatten::F) w'→k7 () w') :
  (L.ite (!o.isSome) (
   L.draw<|
   L.load (.agg [.slice,.slice]) (⟨b1,0,none⟩) fun(x9:Sl×Sl×Unit)=>
   L.load (.agg [.slice,.slice]) (⟨b1,0,none⟩) fun(x10:Sl×Sl×Unit)=>
   L.call Pr z2l [.agg #[.slice x9.1.a x9.1.len x9.1.cap,.slice x9.2.1.a x9.2.1.len x9.2.1.cap]] (.one (.agg [.slice,.slice])) fun(x11:Sl×Sl×Unit)=>
   L.chk (⟨b1,0,none⟩) [.slice x10.1.a x10.1.len x10.1.cap,.slice x10.2.1.a x10.2.1.len x10.2.1.cap]<|
   L.call Pr z2l [.agg #[.slice x10.1.a x10.1.len x10.1.cap,.slice x10.2.1.a x10.2.1.len x10.2.1.cap]] (.one (.agg [.slice,.slice])) fun(x12:Sl×Sl×Unit)=>
   L.store (⟨b6,0,none⟩) [.slice x11.1.a x11.1.len x11.1.cap,.slice x12.1.a x12.1.len x12.1.cap,.int .i64 now,.int .i64 whole,.slice none 0 0,.slice none 0 0]<|
   k7 (()))<|
  L.load (.one (.slice)) ((⟨b6,0,none⟩:Addr).add 1) fun(x13:Sl)=>
  L.load (.one (.slice)) ((⟨b1,0,none⟩:Addr).add 0) fun(x14:Sl)=>
  L.call Pr z1m [.slice x13.a x13.len x13.cap,.slice x14.a x14.len x14.cap] (.one (.one (.bool))) fun(x15:Bool)=>
  L.ite (!x15) (
   L.draw<|
   L.load (.one (.slice)) (((⟨b6,0,none⟩:Addr).add 4).add 0) fun(x16:Sl)=>
   L.load (.agg [.slice,.slice]) (⟨b1,0,none⟩) fun(x17:Sl×Sl×Unit)=>
   L.call Pr z2l [.agg #[.slice x17.1.a x17.1.len x17.1.cap,.slice x17.2.1.a x17.2.1.len x17.2.1.cap]] (.one (.agg [.slice,.slice])) fun(x18:Sl×Sl×Unit)=>
   L.chk (((⟨b6,0,none⟩:Addr).add 4).add 0) [.slice x16.a x16.len x16.cap]<|
   L.store (⟨b6,0,none⟩) [.slice x16.a x16.len x16.cap,.slice x18.1.a x18.1.len x18.1.cap,.int .i64 now,.int .i64 whole,.slice none 0 0,.slice none 0 0]<|
   k7 (()))<|
  L.load (.one (.int .i64)) ((⟨b6,0,none⟩:Addr).add 3) fun(x19:Int)=>
  L.ite (x19 != whole) (
   L.draw<|
   L.load (.one (.slice)) (((⟨b6,0,none⟩:Addr).add 4).add 0) fun(x20:Sl)=>
   L.load (.agg [.slice,.slice]) (⟨b1,0,none⟩) fun(x21:Sl×Sl×Unit)=>
   L.call Pr z2l [.agg #[.slice x21.1.a x21.1.len x21.1.cap,.slice x21.2.1.a x21.2.1.len x21.2.1.cap]] (.one (.agg [.slice,.slice])) fun(x22:Sl×Sl×Unit)=>
   L.chk (((⟨b6,0,none⟩:Addr).add 4).add 0) [.slice x20.a x20.len x20.cap]<|
   L.store (⟨b6,0,none⟩) [.slice x20.a x20.len x20.cap,.slice x22.1.a x22.1.len x22.1.cap,.int .i64 now,.int .i64 whole,.slice none 0 0,.slice none 0 0]<|
   k7 (()))<|
  k7 (())) w:=by
 have rr:=r.there (s:=[Cl b1 z02 [SlV p.1,SlV p.2.1]])
 have rr:=rr.there (s:=[Cl b2 z02 [SlV ⟨none,0,0⟩,SlV ⟨none,0,0⟩]])
 cases o with
 | none=>
  refine itT rfl ?_
  have rr:=rr.there (s:=[Cl b6 z2a (wyC noWy)])
  have h:St w0 ([Cl b6 z2a (wyC noWy)]::[Cl b2 z02 [SlV ⟨none,0,0⟩,SlV ⟨none,0,0⟩]]::[Cl b1 z02 [SlV p.1,SlV p.2.1]]::rolC b r0::sm::P.flatten::F) w:=h
  (refine dr h ?_;clear h;(try clear w);intro w h;refine laC h ?_;refine laC h ?_)
  refine z9J (p:=p) h rr fun v1 v2 s1 s2 w r1 r2 h=>?_
  (refine ckC h ?_)
  refine z9J (p:=p) h rr.there.there fun v3 v4 s3 s4 w r3 r4 h=>?_
  have h:=dl0_ h
  have h:St w0 (s3::s2::s1::[Cl b6 z2a (wyC noWy)]::[Cl b2 z02 [SlV ⟨none,0,0⟩,SlV ⟨none,0,0⟩]]::[Cl b1 z02 [SlV p.1,SlV p.2.1]]::rolC b r0::sm::P.flatten::F) w:=h
  (refine stC h ?_;clear h;(try clear w);intro w h;dsimp only[putN,setN]at h)
  refine hk [s3,s1] (v1,v3,now,whole,⟨none,0,0⟩,⟨none,0,0⟩,()) w ⟨⟨s1,by simp,r1⟩,⟨s3,by simp,r3⟩,rfl,rfl⟩ ?_
  have h:=dl1_ h
  have h:=fr2_ (fr7_ h)
  have h:=h.pool
  have h:=fr1_ h
  have h:=h.pool
  have h:=fr5_ (fr5_ (fr5_ (fr5_ (fr5_ h))))
  exact h
 | some x=>
  refine itF rfl ?_
  obtain⟨⟨sa,ha,ra⟩,⟨sb,hb,rb⟩,e1,e2,⟨sc,hc,rc⟩,⟨sd,hd,rd⟩⟩:=hx x rfl
  have ho:=hok x rfl
  dsimp only[Option.map,Option.getD]at h ⊢
  dsimp only at hk
  generalize x.t=t' at *
  generalize x.a=a at *
  have rr:=rr.there (s:=[Cl b6 z2a (wyC t')])
  have other:∀{w}{k7':Unit→PT},(∀N t' w',WyR (N++P) t' ⟨a.ns,t.sh,now,whole,[],[]⟩→
   St w0 ([Cl b6 z2a (wyC t')]::[Cl b2 z02 [SlV ⟨none,0,0⟩,SlV ⟨none,0,0⟩]]::[Cl b1 z02 [SlV p.1,SlV p.2.1]]::rolC b r0::sm::(N++P).flatten::F) w'→k7' () w')→
   St w0 ([Cl b6 z2a (wyC t')]::[Cl b2 z02 [SlV ⟨none,0,0⟩,SlV ⟨none,0,0⟩]]::[Cl b1 z02 [SlV p.1,SlV p.2.1]]::rolC b r0::sm::P.flatten::F) w→
   (L.draw<|
   L.load (.one (.slice)) (((⟨b6,0,none⟩:Addr).add 4).add 0) fun(x16:Sl)=>
   L.load (.agg [.slice,.slice]) (⟨b1,0,none⟩) fun(x17:Sl×Sl×Unit)=>
   L.call Pr z2l [.agg #[.slice x17.1.a x17.1.len x17.1.cap,.slice x17.2.1.a x17.2.1.len x17.2.1.cap]] (.one (.agg [.slice,.slice])) fun(x18:Sl×Sl×Unit)=>
   L.chk (((⟨b6,0,none⟩:Addr).add 4).add 0) [.slice x16.a x16.len x16.cap]<|
   L.store (⟨b6,0,none⟩) [.slice x16.a x16.len x16.cap,.slice x18.1.a x18.1.len x18.1.cap,.int .i64 now,.int .i64 whole,.slice none 0 0,.slice none 0 0]<|
   k7' (())) w:=by
   intro w k7' hk h
   (refine dr h ?_;clear h;(try clear w);intro w h;refine ldC h ?_;refine laC h ?_;rw[z4F])
   refine z9J (p:=p) h rr fun v1 v2 s1 s2 w r1 r2 h=>?_
   (refine ckC h ?_;refine stC h ?_;clear h;(try clear w);intro w h;dsimp only[putN,setN]at h)
   refine hk [s1] (t'.2.2.2.2.1,v1,now,whole,⟨none,0,0⟩,⟨none,0,0⟩,()) w ⟨⟨sc,by simp[hc],rc⟩,⟨s1,by simp,r1⟩,rfl,rfl⟩ ?_
   have h:=dl0_ h
   have h:=fr1_ (fr6_ h)
   have h:=h.pool
   have h:=fr5_ (fr5_ (fr5_ (fr5_ (fr5_ h))))
   exact h
  (refine ldC h ?_;refine ldC h ?_;rw[z4F])
  refine zos h (l1:=a.to) (l2:=t.sh) (zfn encSh rb hb 5 rfl) rr.sh (by have:=ho.lt;omega) fun w h=>?_
  refine it (fun h1=>?_) (fun h1=>?_)
  ·have h1:¬a.to=t.sh:=by simpa using h1
   rw[if_neg (fun e=>h1 e.1)]at hk
   exact other hk h
  have h1:a.to=t.sh:=by simpa using h1
  (refine ldC h ?_)
  refine it (fun h2=>?_) (fun h2=>?_)
  ·have h2:¬t'.2.2.2.1=whole:=by simpa using h2
   rw[if_neg (fun e=>h2 (e2.trans e.2))]at hk
   exact other hk h
  have h2:t'.2.2.2.1=whole:=by simpa using h2
  rw[if_pos ⟨h1,e2.symm.trans h2⟩]at hk
  exact hk [] t' w ⟨⟨sa,ha,ra⟩,⟨sb,hb,rb⟩,e1,e2⟩ h
theorem zpF(h:St w0 E w)(i:Nat){b:Nat}{m:ARoll}{s:Seg}(hi:nth E i=some s)(hs:RolS b m s){n:ByteArray}{p:HT [.slice,.slice]}{t:ATab}(r:TabR w0 E p t)(hok:∀a,mget m n=some a→a.Ok)(ht:WBd t.sh){now whole:Int}
  (hnow:0≤now∧now<1000000000) (hsi:∀a,mget m n=some a→0≤a.since∧a.since<1000000000) (hw:whole≤1000000) (hl:(nowOf m n t now whole).sh.length<100000) {k:HT [.slice,.slice]→PT}
  (hk:∀p' sx s' w',RolS b (roTurn m n t now whole) s'→(∀E',TabR w0 (sx::E') p' (nowOf m n t now whole))→St w0 (sx::setN E i s') w'→k p' w') :
  L.call Pr z63 [.pointer (some ⟨b,0,none⟩),.string n,tabV p,I now,I whole] (.one (.agg [.slice,.slice])) k w:=by
 obtain⟨r0,sm,P,Q,hm,hQ,rfl,rfl⟩:=hs
 refine z01 (zd9 _ _ p _ _) ?_
 unfold z8L
 have fsh:=r.fsh
 have ftg:=r.ftg
 have h:=(h.front i hi).split3
 have r:TabR w0 (rolC b r0::sm::P.flatten::delN E i) p t:=⟨fun w h=>r.sh w (St.again i hi h.glue3),fun w h=>r.tg w (St.again i hi h.glue3),r.nsh,r.ntg,r.fsh,r.ftg⟩
 have ewy:wayOf (Q.map WyE.ka) n t now whole=(match wlook Q n with | some x=>if x.a.to=t.sh∧x.a.whole=whole then x.a else⟨x.a.ns,t.sh,now,whole,[],[]⟩ | none=>⟨t.sh,t.sh,now,whole,[],[]⟩):=by
  unfold wayOf
  rw[zh9]
  cases wlook Q n<;>rfl
 have hwb:WBd (wayOf (Q.map WyE.ka) n t now whole).fr∧WBd (wayOf (Q.map WyE.ka) n t now whole).to∧(wayOf (Q.map WyE.ka) n t now whole).fr.length<100000∧(wayOf (Q.map WyE.ka) n t now whole).to.length<100000∧
   (0≤(wayOf (Q.map WyE.ka) n t now whole).since∧(wayOf (Q.map WyE.ka) n t now whole).since<1000000000):=by
  unfold wayOf
  cases hg:mget (Q.map WyE.ka) n with
  | none=>exact⟨ht,ht,fsh,fsh,hnow⟩
  | some a=>
   have ho:=hok a hg
   dsimp only
   split
   ·exact⟨ho.fr,ho.to,ho.lf,ho.lt,hsi a hg⟩
   ·exact⟨ho.ns,ht,ho.ln,fsh,hnow⟩
 rw[zh9]at hok
 unfold roTurn nowOf at hk
 unfold nowOf at hl
 generalize hwy:wayOf (Q.map WyE.ka) n t now whole=wy at *
 refine nw h ?_;clear h;(try clear w);intro b1 w h
 refine nw h ?_;clear h;(try clear w);intro b2 w h
 (refine nn ?_;refine ldC h ?_)
 refine wlook2 h 3 rfl hm ?_
 refine nw h ?_;clear h;(try clear w);intro b6 w h
 (refine stC h ?_;clear h;(try clear w);intro w h;dsimp only[putN,setN]at h;rw[z4F])
 have hx:∀x,wlook Q n=some x→WyE.ok P x:=fun x hx=>hQ x (List.mem_of_find?_eq_some hx)
 have hok':∀x,wlook Q n=some x→x.a.Ok:=fun x hx=>hok x.a (by rw[hx];rfl)
 refine z1h (fun z w=>∃(N:List Seg)(t':Wy),WyR (N++P) t' wy∧St w0 ([Cl b6 z2a (wyC t')]::[Cl b2 z02 [SlV ⟨none,0,0⟩,SlV ⟨none,0,0⟩]]::[Cl b1 z02 [SlV p.1,SlV p.2.1]]::rolC b r0::sm::(N++P).flatten::delN E i) w) (fun k7 hk7=>?_) ?_
 ·refine ztg (o:=wlook Q n) hx hok' fsh r h fun N t' w hr h=>hk7 () w ⟨N,t',?_,h⟩
  rw[ewy];exact hr
 clear h;(try clear w)
 rintro z w ⟨N,t',hr,h⟩
 obtain⟨⟨sa,ha,ra⟩,⟨sb,hb,rb⟩,e1,e2⟩:=hr
 have hQ':∀x∈Q,x.ok (N++P):=fun x hx=>(hQ x hx).more fun s hs=>List.mem_append_right _ hs
 (refine dr h ?_;clear h;(try clear w);intro w h;refine ldC h ?_;refine ldC h ?_;refine ldC h ?_;refine laC h ?_)
 have e3:IntKind.wrap .i64 (now-t'.2.2.1)=now-wy.since:=by
  rw[show t'.2.2.1=wy.since from e1]
  exact wr (by omega) (by omega)
 rw[e3]
 refine zjo h (zfn encSh ra ha 5 rfl) (zfn encSh rb hb 5 rfl) hwb.2.2.1 hwb.2.2.2.1 (Rw.nil0 encSh ra) (Rw.nil0 encSh rb) hwb.1 hwb.2.1 hw fun v5 s5 w r5 h=>?_
 generalize sharesOf wy.fr wy.to (now-wy.since) whole=sh at *
 have less:∀{w},St w0 (rolC b r0::sm::(N++P).flatten::delN E i) w→St w0 (rolC b r0::sm::P.flatten::delN E i) w:=by
  intro w h
  have h:=fr2_ h
  have h:St w0 (N.flatten::P.flatten::rolC b r0::sm::delN E i) w:=h.eq (by simp)
  have h:=dl0_ h
  have h:=fr2_ (fr2_ h)
  exact h
 have r':TabR w0 (rolC b r0::sm::(N++P).flatten::delN E i) p t:=⟨fun w h=>r.sh w (less h),fun w h=>r.tg w (less h),r.nsh,r.ntg,r.fsh,r.ftg⟩
 (refine ckC h ?_)
 refine z9J (p:=p) h r'.there.there.there.there fun v1 v2 s1 s2 w r1 r2 h=>?_
 (refine stC h ?_;clear h;(try clear w);intro w h;dsimp only[putN,setN]at h;refine dr h ?_;clear h;(try clear w);intro w h;refine nn ?_;refine ldC h ?_;refine laC h ?_)
 have h:St w0 (s2::s1::s5::[Cl b6 z2a (wyC (t'.1,t'.2.1,t'.2.2.1,t'.2.2.2.1,v5,v2,()))]::[Cl b2 z02 [SlV ⟨none,0,0⟩,SlV ⟨none,0,0⟩]]::[Cl b1 z02 [SlV p.1,SlV p.2.1]]::rolC b r0::sm::(N++P).flatten::delN E i) w:=h
 refine MpS.set mkStr zmN h 7 rfl hm (t'.1,t'.2.1,t'.2.2.1,t'.2.2.2.1,v5,v2,()) rfl fun sm' w hm' h=>?_
 dsimp only[setN]at h
 (refine laC h ?_)
 refine z9J (p:=(v5,v2,())) (t:=⟨sh,t.tg⟩) h (TabR.of (i:=2) (j:=0) rfl r5 rfl r2 hl ftg) fun v3 v4 s3 s4 w r3 r4 h=>?_
 (refine stC h ?_;clear h;(try clear w);intro w h;dsimp only[putN,setN]at h;refine laC h ?_)
 refine⟨(v3,v4,()),rfl,?_⟩
 have h:=dl5_ (dl5_ h)
 have h:=dl3_ h
 have h:=dl4_ h
 have h:=fr4_ (fr6_ h)
 have h:=h.pool
 have h:=fr3_ h
 have h:=h.pool
 have h:=fr4_ (fr4_ (fr2_ (fr2_ (fr2_ h))))
 have h:=h.glue3
 have h:=St.back (E:=s4::s3::E) (i+2) hi h
 have e5:=z9E (key:=WyE.k) WyE.t ⟨n,(t'.1,t'.2.1,t'.2.2.1,t'.2.2.2.1,v5,v2,()),⟨wy.fr,wy.to,wy.since,wy.whole,sh,t.tg⟩⟩ Q
 have e6:=z9E (key:=WyE.k) WyE.a ⟨n,(t'.1,t'.2.1,t'.2.2.1,t'.2.2.2.1,v5,v2,()),⟨wy.fr,wy.to,wy.since,wy.whole,sh,t.tg⟩⟩ Q
 refine hk (v3,v4,()) (s4++s3) _ w ⟨r0,sm',s2::s5::(N++P),lput WyE.k Q ⟨n,(t'.1,t'.2.1,t'.2.2.1,t'.2.2.2.1,v5,v2,()),⟨wy.fr,wy.to,wy.since,wy.whole,sh,t.tg⟩⟩,by rw[e5];exact hm',fun x hx=>?_,e6.symm,rfl⟩
  (fun _=>⟨fun w h=>Rw.rd encSh h.split 1 rfl r3,fun w h=>Rw.rd encTo h.split 0 rfl r4,Rw.nil0 encSh r3,Rw.nil0 encTo r4,hl,ftg⟩) h.glue
 rcases zeV hx with rfl | hx
 ·exact⟨⟨sa,by simp only[List.mem_cons];exact .inr (.inr ha),ra⟩,⟨sb,by simp only[List.mem_cons];exact .inr (.inr hb),rb⟩,e1,e2,⟨s5,by simp,r5⟩,⟨s2,by simp,r2⟩⟩
 ·exact(hQ' x hx).more fun s hs=>by simp only[List.mem_cons];exact .inr (.inr hs)
theorem zint(w:World):(zeroValue z0h).run Pr w = .ok ((E1.one (.int .i64)).val (0:Int)) w:=by
 have h:(Pr.info? z0h).map (·.zero)=some (some (I 0)):=by kernel_rfl
 cases hi:Pr.info? z0h with
 | none=>rw[hi]at h;cases h
 | some i=>rw[hi]at h;simp only[Option.map_some,Option.some.injEq]at h;exact zv hi h w
theorem zstr(w:World):(zeroValue z00).run Pr w = .ok ((E1.one .str).val s_) w:=by
 have h:(Pr.info? z00).map (·.zero)=some (some (.string s_)):=by kernel_rfl
 cases hi:Pr.info? z00 with
 | none=>rw[hi]at h;cases h
 | some i=>rw[hi]at h;simp only[Option.map_some,Option.some.injEq]at h;exact zv hi h w
theorem zhb:Pr.underlying z0L=some (.map z00 z0h):=by kernel_rfl
theorem zjT:Pr.underlying z0v=some (.map z00 z00):=by kernel_rfl
def ordI(m:List (ByteArray×Int)):List (HT [.str,(.int .i64)]):=(ssort (m.map (·.1))).map fun k=>(k,(mget m k).getD (0:Int),())
def argMI(l:List (HT [.str,(.int .i64)]))(m:Nat):TT [.one .str,.one (.int .i64)]:=(((l[m]?).getD (s_,(0:Int),())).1,((l[m]?).getD (s_,(0:Int),())).2.1,())
theorem zrm(h:St w0 E w)(i:Nat){s:Seg}(hi:nth E i=some s){r:Nat}{m:List (ByteArray×Int)}(hm:MpS Value.string (Value.int .i64) r m s)(hn:m.length<1000000000){k:Sl→PT}
  (hk:∀v s' w',Rw eS z00 1 v (ssort (m.map (·.1))) s'→St w0 (s'::E) w'→k v w') :
  L.call Pr z1D [.map (some r)] (.one (.one .func)) (fun x5=>L.call Pr z0V [.func x5.fn x5.fs x5.cs] (.one (.one .slice)) k) w:=by
 refine z01 (z5h _) ?_
 unfold z2M
 have h:=h.front i hi
 refine nw h ?_;clear h;(try clear w);intro c w h
 refine⟨⟨.func z0A,#[],#[.pointer (some ⟨c,0,none⟩)]⟩,rfl,?_⟩
 have hY:YldM Pr w0 [[Cl c z0L [.map (some r)]],s] (.func (.func z0A) #[] #[.pointer (some ⟨c,0,none⟩)]) (m.map (·.1)) Value.string:=by
  intro yv R J Jd F w h hJ step fin fin2
  refine⟨z4O,z4P yv ⟨c,0,none⟩ ?_⟩
  unfold z2A
  exact zfx (kv:=Value.string) (vv:=(Value.int .i64)) unS (fun _=>rfl) zhb (lk:=.str) (ev:=.one (.int .i64)) (fun x=>x) (fun _=>rfl) (fun x:Int=>x) (fun _=>rfl) J Jd hm h hJ (fun seen k F X w hl hJ h=>step seen k F X w (by simpa using hl) hJ h) fin fin2
 refine z7z (fv:=⟨.func z0A,#[],#[.pointer (some ⟨c,0,none⟩)]⟩) hY h (by simpa using hn) fun v s' w hr h=>hk v s' w hr ?_
 have h:=fr1_ h
 exact St.again (i+1) (E:=s'::E) hi h
theorem zso{c r:Nat}{m:List (ByteArray×Int)}{sm:Seg}(hm:MpS Value.string (Value.int .i64) r m sm)(hn:m.length<1000000000) :
  YldX Pr w0 [[Cl c z0L [.map (some r)]],sm] (.func (.func z1v) #[] #[.pointer (some ⟨c,0,none⟩)]) (ordI m).length fun i=>TV _ (argMI (ordI m) i):=by
 intro yv R J Jd G w h hJ step fin fin2
 refine⟨z8d,z8j yv ⟨c,0,none⟩ ?_⟩
 unfold z4N
 have h:St w0 ([Cl c z0L [.map (some r)]]::sm::G) w:=h
 (refine ldC h ?_)
 refine zrm h 1 rfl hm hn fun v s w hrow h=>?_
 have hlen:=Rw.len encS hrow
 unfold ordI at *
 have hl:(ssort (m.map (·.1))).length<1000000000:=by rw[z2R,List.length_map];exact hn
 generalize ssort (m.map (·.1))=l at *
 refine z0u (fun q y w=>∃(j:Nat)(G:List Seg),@Eq Int y.1 j∧q+j=l.length∧J j G∧St w0 (s::[Cl c z0L [.map (some r)]]::sm::G) w) l.length ⟨0,G,rfl,rfl,hJ,h⟩ ?_
 clear hJ
 clear h;(try clear w)
 rintro q ⟨y,⟨⟩⟩ w ⟨j,G,hy,hq,hJ,h⟩ again hag
 simp only at hy
 subst hy
 refine it (fun hb=>?_) (fun hb=>?_)<;>(try simp only[zB]at hb)
 ·have hj:j<l.length:=by omega
  have hx:l[j]? = some l[j]:=List.getElem?_eq_getElem hj
  have next:∀{G w},J (j+1) G→St w0 (s::[Cl c z0L [.map (some r)]]::sm::G) w→again (IntKind.wrap .i64 ((j:Int)+1),()) w:=by
   intro G w hJ h
   refine hag (q-1) _ w (by omega) ⟨j+1,G,?_,by omega,hJ,h⟩
   show IntKind.wrap .i64 _=_
   rw[wr (by omega) (by omega)];omega
  refine Rw.ix encS hrow (by omega) (by simpa using hj) fun a ha=>?_
  refine Rw.ld0 encS h 0 rfl hrow ha (x:=l[j]) (by simp[hj]) rfl rfl ?_
  (refine ldC h ?_)
  refine MpS.get mkStr zhb zint (fun t:Int=>t) (fun _=>rfl) h 2 rfl hm ?_
  have e1:((mget m l[j]).map fun t:Int=>t).getD (0:Int)=(mget m l[j]).getD (0:Int):=by cases mget m l[j]<;>rfl
  have step:=step j G [s] w (by simpa using hj) hJ (St.toEnd (X:=[s]) (A:=[_,_]) h)
  have e2:argMI (l.map fun k=>(k,(mget m k).getD (0:Int),())) j=(l[j],(mget m l[j]).getD (0:Int),()):=by
   simp[argMI,hx]
  dsimp only at step
  rw[e2]at step
  refine cv (FCall.mono (by first | (rw[e1];exact step) | exact step) fun u w' hu=>?_)
  rcases hu with ⟨rfl,G',h,hJ⟩ | ⟨rfl,hd⟩
  ·exact⟨true,rfl,itF rfl (next hJ (St.ofEnd (X:=[s]) (A:=[_,_]) h))⟩
  ·exact⟨false,rfl,itT rfl (fin2 w' hd)⟩
 ·have e:j=l.length:=by omega
  subst e
  exact fin G w (by simpa using hJ) (dl0_ h)
def ordS(m:List (ByteArray×ByteArray)):List (HT [.str,.str]):=(ssort (m.map (·.1))).map fun k=>(k,(mget m k).getD s_,())
def argMS(l:List (HT [.str,.str]))(m:Nat):TT [.one .str,.one .str]:=(((l[m]?).getD (s_,s_,())).1,((l[m]?).getD (s_,s_,())).2.1,())
theorem zrl(h:St w0 E w)(i:Nat){s:Seg}(hi:nth E i=some s){r:Nat}{m:List (ByteArray×ByteArray)}(hm:MpS Value.string Value.string r m s)(hn:m.length<1000000000){k:Sl→PT}
  (hk:∀v s' w',Rw eS z00 1 v (ssort (m.map (·.1))) s'→St w0 (s'::E) w'→k v w') :
  L.call Pr z1f [.map (some r)] (.one (.one .func)) (fun x5=>L.call Pr z0V [.func x5.fn x5.fs x5.cs] (.one (.one .slice)) k) w:=by
 refine z01 (z3X _) ?_
 unfold z1W
 have h:=h.front i hi
 refine nw h ?_;clear h;(try clear w);intro c w h
 refine⟨⟨.func z0n,#[],#[.pointer (some ⟨c,0,none⟩)]⟩,rfl,?_⟩
 have hY:YldM Pr w0 [[Cl c z0v [.map (some r)]],s] (.func (.func z0n) #[] #[.pointer (some ⟨c,0,none⟩)]) (m.map (·.1)) Value.string:=by
  intro yv R J Jd F w h hJ step fin fin2
  refine⟨z3z,z3B yv ⟨c,0,none⟩ ?_⟩
  unfold z1R
  exact zfx (kv:=Value.string) (vv:=Value.string) unS (fun _=>rfl) zjT (lk:=.str) (ev:=.one .str) (fun x=>x) (fun _=>rfl) (fun x:ByteArray=>x) (fun _=>rfl) J Jd hm h hJ (fun seen k F X w hl hJ h=>step seen k F X w (by simpa using hl) hJ h) fin fin2
 refine z7z (fv:=⟨.func z0n,#[],#[.pointer (some ⟨c,0,none⟩)]⟩) hY h (by simpa using hn) fun v s' w hr h=>hk v s' w hr ?_
 have h:=fr1_ h
 exact St.again (i+1) (E:=s'::E) hi h
theorem zsn{c r:Nat}{m:List (ByteArray×ByteArray)}{sm:Seg}(hm:MpS Value.string Value.string r m sm)(hn:m.length<1000000000) :
  YldX Pr w0 [[Cl c z0v [.map (some r)]],sm] (.func (.func z1d) #[] #[.pointer (some ⟨c,0,none⟩)]) (ordS m).length fun i=>TV _ (argMS (ordS m) i):=by
 intro yv R J Jd G w h hJ step fin fin2
 refine⟨z6U,z6W yv ⟨c,0,none⟩ ?_⟩
 unfold z3H
 have h:St w0 ([Cl c z0v [.map (some r)]]::sm::G) w:=h
 (refine ldC h ?_)
 refine zrl h 1 rfl hm hn fun v s w hrow h=>?_
 have hlen:=Rw.len encS hrow
 unfold ordS at *
 have hl:(ssort (m.map (·.1))).length<1000000000:=by rw[z2R,List.length_map];exact hn
 generalize ssort (m.map (·.1))=l at *
 refine z0u (fun q y w=>∃(j:Nat)(G:List Seg),@Eq Int y.1 j∧q+j=l.length∧J j G∧St w0 (s::[Cl c z0v [.map (some r)]]::sm::G) w) l.length ⟨0,G,rfl,rfl,hJ,h⟩ ?_
 clear hJ
 clear h;(try clear w)
 rintro q ⟨y,⟨⟩⟩ w ⟨j,G,hy,hq,hJ,h⟩ again hag
 simp only at hy
 subst hy
 refine it (fun hb=>?_) (fun hb=>?_)<;>(try simp only[zB]at hb)
 ·have hj:j<l.length:=by omega
  have hx:l[j]? = some l[j]:=List.getElem?_eq_getElem hj
  have next:∀{G w},J (j+1) G→St w0 (s::[Cl c z0v [.map (some r)]]::sm::G) w→again (IntKind.wrap .i64 ((j:Int)+1),()) w:=by
   intro G w hJ h
   refine hag (q-1) _ w (by omega) ⟨j+1,G,?_,by omega,hJ,h⟩
   show IntKind.wrap .i64 _=_
   rw[wr (by omega) (by omega)];omega
  refine Rw.ix encS hrow (by omega) (by simpa using hj) fun a ha=>?_
  refine Rw.ld0 encS h 0 rfl hrow ha (x:=l[j]) (by simp[hj]) rfl rfl ?_
  (refine ldC h ?_)
  refine MpS.get mkStr zjT zstr (fun t:ByteArray=>t) (fun _=>rfl) h 2 rfl hm ?_
  have e1:((mget m l[j]).map fun t:ByteArray=>t).getD s_=(mget m l[j]).getD s_:=by cases mget m l[j]<;>rfl
  have step:=step j G [s] w (by simpa using hj) hJ (St.toEnd (X:=[s]) (A:=[_,_]) h)
  have e2:argMS (l.map fun k=>(k,(mget m k).getD s_,())) j=(l[j],(mget m l[j]).getD s_,()):=by
   simp[argMS,hx]
  dsimp only at step
  rw[e2]at step
  refine cv (FCall.mono (by first | (rw[e1];exact step) | exact step) fun u w' hu=>?_)
  rcases hu with ⟨rfl,G',h,hJ⟩ | ⟨rfl,hd⟩
  ·exact⟨true,rfl,itF rfl (next hJ (St.ofEnd (X:=[s]) (A:=[_,_]) h))⟩
  ·exact⟨false,rfl,itT rfl (fin2 w' hd)⟩
 ·have e:j=l.length:=by omega
  subst e
  exact fin G w (by simpa using hJ) (dl0_ h)
def tgtOf(a:ABook)(cfg:ByteArray)(t:Tgt):ByteArray×Int:=
 if t.1=s_ then(if bkReady a cfg=s_ then(s_,9)else(bkReady a cfg,0))else if bkHas a t.1=true then(if bkProved a t.1=true then(t.1,0)else(s_,9))else(s_,6)
abbrev rtV(r:ARt)(v:Sl):Value:=.agg #[.string r.name,.string r.cfg,.slice v.a v.len v.cap,I r.roll]
theorem zjq(h:St w0 E w)(i:Nat){b:Nat}{a:ABook}{s:Seg}(hi:nth E i=some s)(hs:BkS b a s){t:Tgt}{r:ARt}{v:Sl}{k:ByteArray×Int×Unit→PT}(hk:∀w',St w0 E w'→k ((tgtOf a r.cfg t).1,(tgtOf a r.cfg t).2,()) w') :
  L.call Pr z9y [.agg #[.string t.1,.string t.2.1,I t.2.2.1],rtV r v,.pointer (some ⟨b,0,none⟩)] (.tup [.one .str,.one (.int .i64)]) k w:=by
 refine z01 (zi3 t (r.name,r.cfg,v,r.roll,()) _) ?_
 unfold zcV
 unfold tgtOf at hk
 refine nw h ?_;clear h;(try clear w);intro b1 w h
 refine nw h ?_;clear h;(try clear w);intro b2 w h
 (dsimp only[setN,List.cons_append,List.nil_append]at h;refine ldC h ?_)
 rw[z3Z]
 refine it (fun h1=>?_) (fun h1=>?_)<;>(try simp only[zB]at h1)
 ·rw[if_pos h1]at hk
  (refine ldC h ?_)
  refine zmx h (i+2) hi hs fun w h=>?_
  rw[z3Z]
  refine it (fun h2=>?_) (fun h2=>?_)<;>(try simp only[zB]at h2)
  ·rw[if_pos h2]at hk
   exact⟨(s_,9,()),rfl,hk w (dl0_ (dl0_ h))⟩
  ·rw[if_neg h2]at hk
   exact⟨(bkReady a r.cfg,0,()),rfl,hk w (dl0_ (dl0_ h))⟩
 ·rw[if_neg h1]at hk
  (refine ldC h ?_)
  refine zfQ h (i+2) hi hs fun w h=>?_
  generalize bkGet a t.1=rv
  refine nw h ?_;clear h;(try clear w);intro b8 w h
  (refine stC h ?_;clear h;(try clear w);intro w h;dsimp only[putN,setN]at h)
  refine it (fun h2=>?_) (fun h2=>?_)<;>(try simp only[zB]at h2)
  ·rw[if_neg (by simp[h2])]at hk
   exact⟨(s_,6,()),rfl,hk w (dl0_ (dl0_ (dl0_ h)))⟩
  ·rw[if_pos (by simpa using h2)]at hk
   (refine ldC h ?_)
   refine zgZ h (i+3) hi hs fun w h=>?_
   refine it (fun h3=>?_) (fun h3=>?_)<;>(try simp only[zB]at h3)
   ·rw[if_neg (by simp[h3])]at hk
    exact⟨(s_,9,()),rfl,hk w (dl0_ (dl0_ (dl0_ h)))⟩
   ·rw[if_pos (by simpa using h3)]at hk
    (refine ldC h ?_)
    exact⟨(t.1,0,()),rfl,hk w (dl0_ (dl0_ (dl0_ h)))⟩
abbrev MSI:=List (ByteArray×Int)
abbrev MSS:=List (ByteArray×ByteArray)
def resGo(a:ABook)(cfg:ByteArray):List Tgt→MSI→MSS→Int×MSI×MSS
 | [],ws,ts=>(0,ws,ts)
 | t::l,ws,ts=>if(tgtOf a cfg t).2=0 then resGo a cfg l (mset ws (tgtOf a cfg t).1 ((mget ws (tgtOf a cfg t).1).getD 0+pct t)) (if t.2.1=s_ then ts else mset ts t.2.1 (tgtOf a cfg t).1)else((tgtOf a cfg t).2,ws,ts)
theorem zgD(a:ABook)(cfg:ByteArray)(t:Tgt)(l:List Tgt)(ws:MSI)(ts:MSS):resGo a cfg (t::l) ws ts=if(tgtOf a cfg t).2=0 then resGo a cfg l (mset ws (tgtOf a cfg t).1 ((mget ws (tgtOf a cfg t).1).getD 0+pct t)) (if t.2.1=s_ then ts else mset ts t.2.1 (tgtOf a cfg t).1)else((tgtOf a cfg t).2,ws,ts):=rfl
abbrev posW(x:Shr):Bool:=decide (@id Int x.2.1>0)
def resolve(a:ABook)(r:ARt):ATab×Int:=
 if(resGo a r.cfg r.ts [] []).1=0 then(⟨(ordI (resGo a r.cfg r.ts [] []).2.1).filter posW,ordS (resGo a r.cfg r.ts [] []).2.2⟩,0)else(⟨[],[]⟩,(resGo a r.cfg r.ts [] []).1)
theorem zjv(h:St w0 E w)(i:Nat){b:Nat}{a:ABook}{s:Seg}(hi:nth E i=some s)(hs:BkS b a s){r:ARt}{v:Sl}(rd:RdE w0 E eT v r.ts)(hn:r.ts.length≤1000)(hp:∀t∈r.ts,0≤pct t∧pct t≤1000){k:HT [.slice,.slice]×Int×Unit→PT}
  (hk:∀p sx w',(∀E',TabR w0 (sx::E') p (resolve a r).1)→St w0 (sx::E) w'→k (p,(resolve a r).2,()) w') :
  L.call Pr z6F [rtV r v,.pointer (some ⟨b,0,none⟩)] (.tup [.agg [.slice,.slice],.one (.int .i64)]) k w:=by
 refine z01 (zgp (r.name,r.cfg,v,r.roll,()) _) ?_
 unfold zbG
 have hlen:=Rd.len (rd w h)
 refine nw h ?_;clear h;(try clear w);intro b1 w h
 refine nw h ?_;clear h;(try clear w);intro b2 w h
 refine MpS.new h Value.string (Value.int .i64) fun r3 s3 w hm3 h=>?_
 refine MpS.new h Value.string Value.string fun r4 s4 w hm4 h=>?_
 (dsimp only[setN,List.cons_append,List.nil_append]at h;refine ldC h ?_)
 unfold resolve at hk
 refine z0u (fun q y w=>∃(j:Nat)(ws:MSI)(ts:MSS)(s3 s4:Seg),@Eq Int y.2.1 j∧q+j=r.ts.length∧@Eq Int y.1 0∧resGo a r.cfg r.ts [] []=resGo a r.cfg (r.ts.drop j) ws ts∧ws.length≤j∧ts.length≤j∧(∀p∈ws,0≤p.2∧p.2≤1000*(j:Int))∧
  MpS Value.string (Value.int .i64) r3 ws s3∧MpS Value.string Value.string r4 ts s4∧St w0 (s4::s3::[Cl b2 z02 [SlV ⟨none,0,0⟩,SlV ⟨none,0,0⟩]]::[Cl b1 z0s [.string r.name,.string r.cfg,SlV v,I r.roll]]::E) w) r.ts.length
  ⟨0,[],[],s3,s4,rfl,by simp,rfl,rfl,by simp,by simp,by simp,hm3,hm4,h⟩ ?_
 clear hm3 hm4
 clear h;(try clear w)
 rintro q ⟨y1,y,⟨⟩⟩ w ⟨j,ws,ts,s3,s4,hy,hq,hy1,hg,lw,lt,hws,hm3,hm4,h⟩ again hag
 (try dsimp only)
 simp only at hy hy1
 subst hy hy1
 refine it (fun hb=>?_) (fun hb=>?_)<;>(try simp only[zB]at hb)
 ·have hj:j<r.ts.length:=by omega
  have hx:r.ts[j]? = some r.ts[j]:=List.getElem?_eq_getElem hj
  have hpx:=hp r.ts[j] (List.getElem_mem hj)
  have ed:r.ts.drop j=r.ts[j]::r.ts.drop (j+1):=by rw[←List.getElem_cons_drop hj]
  rw[ed,zgD]at hg
  generalize r.ts[j]=t at hx hpx hg
  have rr:=rd w (dl0_ (dl0_ (dl0_ (dl0_ h))))
  refine jd ?_
  refine rr.ix encT (by omega) (by simpa using hj) fun ea ha=>?_
  refine rr.lda encT ha (by simpa using hx) rfl ?_
  refine nw h ?_;clear h;(try clear w);intro b12 w h
  (refine stC h ?_;clear h;(try clear w);intro w h;dsimp only[putN,setN]at h;refine laC h ?_;refine laC h ?_)
  refine zjq (t:=t) (r:=r) (v:=v) h (i+5) hi hs fun w h=>?_
  refine it (fun h1=>?_) (fun h1=>?_)
  ·have h1:(tgtOf a r.cfg t).2≠0:=by simpa using h1
   rw[if_neg h1]at hg
   rw[hg,if_neg h1]at hk
   (refine stC h ?_;clear h;(try clear w);intro w h;dsimp only[putN,setN]at h;refine laC h ?_)
   refine⟨((⟨none,0,0⟩,⟨none,0,0⟩,()),(tgtOf a r.cfg t).2,()),rfl,hk _ [] w (fun _=>⟨fun _ _=>Rd.nil,fun _ _=>Rd.nil,fun _=>rfl,fun _=>rfl,by show 0<100000;decide,by show 0<100000;decide⟩) ?_⟩
   exact St.nil (dl0_ (dl0_ (dl0_ (dl0_ (dl0_ h)))))
  ·have h1:(tgtOf a r.cfg t).2=0:=by simpa using h1
   rw[if_pos h1]at hg
   generalize tgtOf a r.cfg t=x at h1 hg ⊢
   obtain⟨x1,x2⟩:=x
   dsimp only at h1 hg ⊢
   have hz:0≤(mget ws x1).getD 0∧(mget ws x1).getD 0≤1000*(j:Int):=by
    cases hm:mget ws x1 with
    | none=>exact⟨Int.le_refl 0,by show(0:Int)≤_;omega⟩
    | some u=>exact hws _ (z3R hm)
   have hz2:((mget ws x1).map fun t:Int=>t).getD 0=(mget ws x1).getD 0:=by cases mget ws x1<;>rfl
   refine MpS.get mkStr zhb zint (fun t:Int=>t) (fun _=>rfl) h 2 rfl hm3 ?_
   rw[hz2]
   generalize hzz:(mget ws x1).getD 0=z at hg hz ⊢
   (refine ldC h ?_)
   have ew:IntKind.wrap .i64 (z+t.2.2.1)=z+pct t:=wr (by have:=hpx.1;unfold pct at this;omega) (by have:=hpx.2;unfold pct at this;omega)
   rw[ew]
   have lw2:=zfs ws x1 (z+pct t)
   have hws2:∀p∈mset ws x1 (z+pct t),0≤p.2∧p.2≤1000*((j+1:Nat):Int):=by
    intro p hp
    rcases z1F hp with rfl | hp
    ·dsimp only;omega
    ·have:=hws p hp;omega
   refine MpS.set mkStr zhb h 2 rfl hm3 (z+pct t) rfl fun s3 w hm3 h=>?_
   dsimp only[setN]at h
   (refine ldC h ?_)
   rw[z3Z]
   have next:∀{w}{ts':MSS}{s4:Seg},(if t.2.1=s_ then ts else mset ts t.2.1 x1)=ts'→ts'.length≤j+1→MpS Value.string Value.string r4 ts' s4→
     St w0 (s4::s3::[Cl b2 z02 [SlV ⟨none,0,0⟩,SlV ⟨none,0,0⟩]]::[Cl b1 z0s [.string r.name,.string r.cfg,SlV v,I r.roll]]::E) w→again (0,IntKind.wrap .i64 ((j:Int)+1),()) w:=by
    intro w ts' s4 e1 l2 hm4 h
    refine hag (q-1) _ w (by omega) ⟨j+1,mset ws x1 (z+pct t),ts',s3,s4,?_,by omega,rfl,by rw[hg,e1],by omega,l2,hws2,hm3,hm4,h⟩
    show IntKind.wrap .i64 _=_
    rw[wr (by omega) (by omega)];omega
   refine it (fun h2=>?_) (fun h2=>?_)<;>(try simp only[zB]at h2)
   ·(refine ldC h ?_)
    refine MpS.set mkStr zjT h 1 rfl hm4 x1 rfl fun s4 w hm4 h=>?_
    dsimp only[setN]at h
    exact next (if_neg h2) (by have:=zfs ts t.2.1 x1;omega) hm4 (dl0_ h)
   ·exact next (if_pos h2) (by omega) hm4 (dl0_ h)
 ·have e:r.ts.drop j = []:=List.drop_of_length_le (by omega)
  rw[e]at hg
  have hg:resGo a r.cfg r.ts [] []=(0,ws,ts):=hg
  rw[hg,if_pos rfl]at hk
  dsimp only at hk
  have lo1:(ordI ws).length=ws.length:=by unfold ordI;rw[List.length_map,z2R,List.length_map]
  have lo2:(ordS ts).length=ts.length:=by unfold ordS;rw[List.length_map,z2R,List.length_map]
  clear hag
  refine nw h ?_;clear h;(try clear w);intro b21 w h
  refine z01 (z90 _) ?_
  unfold z5r
  refine nw h ?_;clear h;(try clear w);intro c w h
  refine⟨⟨.func z1v,#[],#[.pointer (some ⟨c,0,none⟩)]⟩,rfl,?_⟩
  have h:St w0 ([[Cl c z0L [.map (some r3)]],s3]++([Cl b21 z02 [SlV ⟨none,0,0⟩,SlV ⟨none,0,0⟩]]::[]::s4::[Cl b2 z02 [SlV ⟨none,0,0⟩,SlV ⟨none,0,0⟩]]::[Cl b1 z0s [.string r.name,.string r.cfg,SlV v,I r.roll]]::E)) w:=by
   have h:=fr2_ (fr3_ (fr1_ h))
   exact h.eq (by simp)
  refine z5j (zso hm3 (by omega)) h (fun m G=>∃vv s,G = [Cl b21 z02 [SlV vv,SlV ⟨none,0,0⟩]]::s::s4::[Cl b2 z02 [SlV ⟨none,0,0⟩,SlV ⟨none,0,0⟩]]::[Cl b1 z0s [.string r.name,.string r.cfg,SlV v,I r.roll]]::E∧Rw eSh z0m 2 vv (((ordI ws).take m).filter posW) s) (fun j G=>False) ⟨_,_,rfl,Rw.nil⟩ ?_ ?_ ?_
  ·rintro m G X w lv lp d R hm ⟨vv,so,rfl,hr⟩ h hN hE
   have hx:(ordI ws)[m]? = some (ordI ws)[m]:=List.getElem?_eq_getElem hm
   have h:St w0 ([Rec lv lp .busy none]::[DfM d]::[Cl c z0L [.map (some r3)]]::s3::[Cl b21 z02 [SlV vv,SlV ⟨none,0,0⟩]]::so::s4::[Cl b2 z02 [SlV ⟨none,0,0⟩,SlV ⟨none,0,0⟩]]::[Cl b1 z0s [.string r.name,.string r.cfg,SlV v,I r.roll]]::(E++X)) w:=h
   have ea:argMI (ordI ws) m=((ordI ws)[m].1,(ordI ws)[m].2.1,()):=by simp[argMI,hx]
   rw[ea]
   have et:((ordI ws).take (m+1)).filter posW=((ordI ws).take m).filter posW++(if posW (ordI ws)[m]=true then [(ordI ws)[m]]else []):=by
    rw[List.take_add_one,hx,List.filter_append,Option.toList_some,List.filter_cons,List.filter_nil]
   have hlf:(((ordI ws).take m).filter posW).length≤m:=Nat.le_trans (List.length_filter_le ..) (by rw[List.length_take];omega)
   generalize (ordI ws)[m]=x at et hx
   obtain⟨x1,x2,⟨⟩⟩:=x
   dsimp only
   refine it (fun hc=>?_) (fun hc=>?_)
   ·have hc2:posW ((x1,x2,()):Shr)=true:=hc
    rw[if_pos hc2]at et
    (refine ldC h ?_)
    refine nw h ?_;clear h;(try clear w);intro b29 w h
    refine Rw.app encSh elSh h 5 rfl hr ((x1,x2,()):Shr) rfl (by omega) (by omega) fun v' s' w hr' h=>?_
    (dsimp only[setN,List.cons_append,List.nil_append]at h;refine stC h ?_;clear h;(try clear w);intro w h;dsimp only[putN,setN]at h)
    exact hN _ w ⟨v',s',rfl,by rw[et];exact hr'⟩ h
   ·rw[if_neg (by rw[show posW ((x1,x2,()):Shr)=false from hc];simp),List.append_nil]at et
    exact hN _ w ⟨vv,so,rfl,by rw[et];exact hr⟩ h
  ·rintro d G w ⟨vv,so,rfl,hr⟩ h
   rw[List.take_length]at hr
   have h:St w0 ([DfM d]::[Cl c z0L [.map (some r3)]]::s3::[Cl b21 z02 [SlV vv,SlV ⟨none,0,0⟩]]::so::s4::[Cl b2 z02 [SlV ⟨none,0,0⟩,SlV ⟨none,0,0⟩]]::[Cl b1 z0s [.string r.name,.string r.cfg,SlV v,I r.roll]]::E) w:=h
   refine jumpN ?_
   refine z01 (z7B _) ?_
   unfold z4o
   refine nw h ?_;clear h;(try clear w);intro c2 w h
   refine⟨⟨.func z1d,#[],#[.pointer (some ⟨c2,0,none⟩)]⟩,rfl,?_⟩
   have h:St w0 ([[Cl c2 z0v [.map (some r4)]],s4]++([Cl b21 z02 [SlV vv,SlV ⟨none,0,0⟩]]::[]::so::[Cl b2 z02 [SlV ⟨none,0,0⟩,SlV ⟨none,0,0⟩]]::[DfM d]::E)) w:=by
    have h:=dl2_ (dl3_ (dl8_ h))
    have h:=fr5_ (fr5_ (fr4_ (fr4_ (fr5_ (fr1_ h)))))
    exact h.eq (by simp)
   refine z5j (zsn hm4 (by omega)) h (fun m G=>∃v2 s2,G = [Cl b21 z02 [SlV vv,SlV v2]]::s2::so::[Cl b2 z02 [SlV ⟨none,0,0⟩,SlV ⟨none,0,0⟩]]::[DfM d]::E∧Rw eTo z2J 2 v2 ((ordS ts).take m) s2) (fun j G=>False) ⟨_,_,rfl,Rw.nil⟩ ?_ ?_ ?_
   ·rintro m G X w lv lp d2 R hm ⟨v2,s2,rfl,hr2⟩ h hN hE
    have hx:(ordS ts)[m]? = some (ordS ts)[m]:=List.getElem?_eq_getElem hm
    have h:St w0 ([Rec lv lp .busy none]::[DfM d2]::[Cl c2 z0v [.map (some r4)]]::s4::[Cl b21 z02 [SlV vv,SlV v2]]::s2::so::[Cl b2 z02 [SlV ⟨none,0,0⟩,SlV ⟨none,0,0⟩]]::[DfM d]::(E++X)) w:=h
    have ea:argMS (ordS ts) m=((ordS ts)[m].1,(ordS ts)[m].2.1,()):=by simp[argMS,hx]
    rw[ea]
    have et:(ordS ts).take (m+1)=(ordS ts).take m++[(ordS ts)[m]]:=by rw[List.take_add_one,hx,Option.toList_some]
    have hlf:((ordS ts).take m).length≤m:=by rw[List.length_take];omega
    generalize (ordS ts)[m]=x at et hx
    obtain⟨x1,x2,⟨⟩⟩:=x
    dsimp only
    (refine ldC h ?_)
    refine nw h ?_;clear h;(try clear w);intro b38 w h
    refine Rw.app encTo elTo h 5 rfl hr2 ((x1,x2,()):Tgo) rfl (by omega) (by omega) fun v' s' w hr' h=>?_
    (dsimp only[setN,List.cons_append,List.nil_append]at h;refine stC h ?_;clear h;(try clear w);intro w h;dsimp only[putN,setN]at h)
    exact hN _ w ⟨v',s',rfl,by rw[et];exact hr'⟩ h
   ·rintro d2 G w ⟨v2,s2,rfl,hr2⟩ h
    rw[List.take_length]at hr2
    have h:St w0 ([DfM d2]::[Cl c2 z0v [.map (some r4)]]::s4::[Cl b21 z02 [SlV vv,SlV v2]]::s2::so::[Cl b2 z02 [SlV ⟨none,0,0⟩,SlV ⟨none,0,0⟩]]::[DfM d]::E) w:=h
    refine jumpN ?_
    have hlf:((ordI ws).filter posW).length<100000:=Nat.lt_of_le_of_lt (List.length_filter_le ..) (by omega)
    (refine laC h ?_)
    refine z9J (p:=(vv,v2,())) (t:=⟨(ordI ws).filter posW,ordS ts⟩) h (TabR.of (i:=5) (j:=4) rfl hr rfl hr2 hlf (by show(ordS ts).length<100000;omega)) fun v3 v4 s5 s6 w r5 r6 h=>?_
    (refine stC h ?_;clear h;(try clear w);intro w h;dsimp only[putN,setN]at h)
    (first | refine um0_ h ?_ | refine um1_ h ?_ | refine um2_ h ?_ | refine um3_ h ?_ | refine um4_ h ?_ | refine um5_ h ?_ | refine um6_ h ?_ | refine um7_ h ?_ | refine um8_ h ?_ | refine um9_ h ?_ | refine z92 h ?_ | refine z91 h ?_);clear h;(try clear w);intro w h
    (try (first | refine um0_ h ?_ | refine um1_ h ?_ | refine um2_ h ?_ | refine um3_ h ?_ | refine um4_ h ?_ | refine um5_ h ?_ | refine um6_ h ?_ | refine um7_ h ?_ | refine um8_ h ?_ | refine um9_ h ?_ | refine z92 h ?_ | refine z91 h ?_);clear h;(try clear w);intro w h)
    (refine laC h ?_)
    refine⟨((v3,v4,()),0,()),rfl,hk _ (s6++s5) w (fun _=>⟨fun w h=>Rw.rd encSh h.split 1 rfl r5,fun w h=>Rw.rd encTo h.split 0 rfl r6,Rw.nil0 encSh r5,Rw.nil0 encTo r6,hlf,by show(ordS ts).length<100000;omega⟩) ?_⟩
    have h:=dl2_ (dl2_ (dl2_ (dl2_ (dl2_ (dl2_ h)))))
    exact h.glue
   ·rintro d2 j G w hf;exact hf.elim
  ·rintro d j G w hf;exact hf.elim
structure AEv where
 kind:Int
 name:ByteArray
 tag:ByteArray
 n:Int
 draw:Int
 c:Cfg
 r:ARt
 v:Sl
abbrev EvT:=HT [.int .i64,.str,.str,.int .i64,.int .i64,.str,.int .i64,.int .i64,.int .i64,.int .i64,.int .i64,.str,.str,.slice,.int .i64]
abbrev AEv.t(e:AEv):EvT:=(e.kind,e.name,e.tag,e.n,e.draw,e.c.1,e.c.2.1,e.c.2.2.1,e.c.2.2.2.1,e.c.2.2.2.2.1,e.c.2.2.2.2.2.1,e.r.name,e.r.cfg,e.v,e.r.roll,())
abbrev evV(e:AEv):Value:=.agg #[I e.kind,.string e.name,.string e.tag,I e.n,I e.draw,.string e.c.1,I e.c.2.1,I e.c.2.2.1,I e.c.2.2.2.1,I e.c.2.2.2.2.1,I e.c.2.2.2.2.2.1,.string e.r.name,.string e.r.cfg,.slice e.v.a e.v.len e.v.cap,I e.r.roll]
abbrev Has:=HT [.bool,.bool,.bool,.bool,.bool,.bool]
def shp(k:Int):Has×Bool:=
 if k=1 then((true,false,false,false,true,false,()),true)else if k=2 then((true,false,false,false,false,true,()),true)else if k=3 then((true,true,false,true,false,false,()),true)
 else if k=4 then((true,true,true,true,false,false,()),true)else if k=5∨k=6∨k=7∨k=8 then((true,false,false,false,false,false,()),true)else if k=9 then((false,false,false,false,false,false,()),true)
 else if k=10∨k=11∨k=12∨k=13 then((false,true,false,false,false,false,()),true)else((false,false,false,false,false,false,()),false)
theorem zob(h:St w0 E w){x:Int}{k:Has×Bool×Unit→PT}(hk:∀w',St w0 E w'→k ((shp x).1,(shp x).2,()) w'):L.call Pr z7v [I x] (.tup [.agg [.bool,.bool,.bool,.bool,.bool,.bool],.one .bool]) k w:=by
 refine z01 (zi5 x) ?_
 unfold zcX
 unfold shp at hk
 refine nw h ?_;clear h;(try clear w);intro b1 w h
 ((try dsimp only[setN,List.cons_append,List.nil_append]at h);repeat' (first | refine nn ?_ | (refine dr h ?_;clear h;(try clear w);intro w h) | refine ldC h ?_ | refine laC h ?_ | refine ckC h ?_ | (refine stC h ?_;clear h;(try clear w);intro w h;(try dsimp only[putN,setN]at h)) | rw[z4F] | refine jd ?_ | (refine it (fun hc=>?_) (fun hc=>?_)<;>(try simp only[zB]at hc))))
 all_goals exact⟨(_,_,()),rfl,eqk (hk w (dl0_ h)) (by clear h hk;simp_all)⟩
theorem zrh{t:Bool}{x:Int}{k:Bool→PT}(hk:k (t||decide (x=0)) w):L.call Pr z5x [.bool t,I x] (.one (.one .bool)) k w:=by
 refine z01 (zeI t x) ?_
 unfold za7
 cases t with
 | true=>exact itT rfl ⟨true,rfl,hk⟩
 | false=>exact itF rfl ⟨_,rfl,eqk hk (by rw[Bool.false_or,Bool.eq_iff_iff];simp)⟩
theorem zrg{t:Bool}{x:ByteArray}{k:Bool→PT}(hk:k (t||decide (x=s_)) w):L.call Pr z3P [.bool t,.string x] (.one (.one .bool)) k w:=by
 refine z01 (zce t x) ?_
 unfold z8a
 cases t with
 | true=>exact itT rfl ⟨true,rfl,hk⟩
 | false=>exact itF rfl ⟨_,rfl,eqk hk (by rw[z3Z,Bool.false_or])⟩
theorem zri(h:St w0 E w){t:Bool}{c:Cfg}{k:Bool→PT}(hk:∀w',St w0 E w'→k (t||sameC c noCfg) w'):L.call Pr z3Q [.bool t,.agg (Cfg.cells c).toArray] (.one (.one .bool)) k w:=by
 refine z01 (z9O t c) ?_
 unfold z6i
 refine nw h ?_;clear h;(try clear w);intro b1 w h
 refine nw h ?_;clear h;(try clear w);intro b2 w h
 cases t with
 | true=>exact itT rfl ⟨true,rfl,hk w (dl0_ (dl0_ h))⟩
 | false=>
  refine itF rfl ?_
  (refine laC h ?_;refine laC h ?_)
  unfold L.chkSem
  refine⟨zqd c noCfg w,_,rfl,?_⟩
  exact hk w (dl0_ (dl0_ h))
def bareE(r:ARt)(n:Nat):Bool:=decide (r.name=s_)&&(decide (r.cfg=s_)&&(decide (r.roll=0)&&decide (n=0)))
theorem zsQ(h:St w0 E w){r:ARt}{v:Sl}{k:Bool→PT}(hk:∀w',St w0 E w'→k (bareE r v.len) w'):L.call Pr zau [rtV r v] (.one (.one .bool)) k w:=by
 refine z01 (zjP (r.name,r.cfg,v,r.roll,())) ?_
 unfold zeg
 refine nw h ?_;clear h;(try clear w);intro b1 w h
 (dsimp only[setN,List.cons_append,List.nil_append]at h;refine ldC h ?_)
 rw[z3Z]
 unfold bareE at hk
 cases h1:decide (r.name=s_) with
 | false=>exact itF rfl ⟨false,rfl,by rw[h1]at hk;exact hk w (dl0_ h)⟩
 | true=>
  refine itT rfl ?_
  (refine ldC h ?_)
  rw[z3Z]
  cases h2:decide (r.cfg=s_) with
  | false=>exact itF rfl ⟨false,rfl,by rw[h1,h2]at hk;exact hk w (dl0_ h)⟩
  | true=>
   refine itT rfl ?_
   (refine ldC h ?_)
   refine it (fun h3=>?_) (fun h3=>?_)
   ·(refine ldC h ?_)
    have h3:decide (r.roll=0)=true:=by simpa using h3
    rw[h1,h2,h3]at hk
    refine⟨_,rfl,eqk (hk w (dl0_ h)) ?_⟩
    rw[Bool.eq_iff_iff];simp
   ·have h3:decide (r.roll=0)=false:=by simpa using h3
    rw[h1,h2,h3]at hk
    exact⟨false,rfl,hk w (dl0_ h)⟩
def wiB(n a b:Int):Bool:=decide (a≤n)&&decide (n≤b)
theorem z9f{n a b:Int}{k:Bool→PT}(hk:k (wiB n a b) w):L.call Pr z0R [I n,I a,I b] (.one (.one .bool)) k w:=by
 refine z01 (zgr n a b) ?_
 unfold zbI
 unfold wiB at hk
 refine it (fun h1=>?_) (fun h1=>?_)
 ·have h1:decide (a≤n)=true:=h1
  rw[h1]at hk
  exact⟨_,rfl,hk⟩
 ·have h1:decide (a≤n)=false:=h1
  rw[h1]at hk
  exact⟨_,rfl,hk⟩
def numE(e:AEv):Bool:=if e.kind=1∨e.kind=2 then wiB e.n 0 2147483647 else if e.kind=3 then wiB e.n 1 2 else wiB e.n 1 2147483647
theorem zmt(h:St w0 E w){e:AEv}{k:Bool→PT}(hk:∀w',St w0 E w'→k (numE e) w'):L.call Pr z8V [evV e] (.one (.one .bool)) k w:=by
 refine z01 (zgt e.t) ?_
 unfold zbK
 unfold numE at hk
 refine nw h ?_;clear h;(try clear w);intro b1 w h
 (dsimp only[setN,List.cons_append,List.nil_append]at h;refine ldC h ?_)
 refine jd ?_
 refine it (fun h1=>?_) (fun h1=>?_)
 ·have h1':e.kind=1:=by simpa using h1
  refine itT h1 ?_
  (refine ldC h ?_)
  refine z9f ⟨_,rfl,?_⟩
  rw[if_pos (.inl h1')]at hk
  exact hk w (dl0_ h)
 ·have h1':¬e.kind=1:=by simpa using h1
  refine it (fun h2=>?_) (fun h2=>?_)
  ·have h2':e.kind=2:=by simpa using h2
   (refine ldC h ?_)
   refine z9f ⟨_,rfl,?_⟩
   rw[if_pos (.inr h2')]at hk
   exact hk w (dl0_ h)
  ·have h2':¬e.kind=2:=by simpa using h2
   rw[if_neg (fun hh=>hh.elim h1' h2')]at hk
   refine it (fun h3=>?_) (fun h3=>?_)
   ·have h3':e.kind=3:=by simpa using h3
    rw[if_pos h3']at hk
    (refine ldC h ?_)
    exact z9f ⟨_,rfl,hk w (dl0_ h)⟩
   ·have h3':¬e.kind=3:=by simpa using h3
    rw[if_neg h3']at hk
    (refine ldC h ?_)
    exact z9f ⟨_,rfl,hk w (dl0_ h)⟩
def RevN(n:ByteArray):Prop:=∃c g,shortB c.data.toList 16=true∧1≤g∧g<100∧n=revB c g
def namedE(e:AEv):Bool:=if e.kind=12∨e.kind=13 then true else shortB e.name.data.toList 16
theorem zoh(h:St w0 E w){e:AEv}(hr:e.kind=12∨e.kind=13→RevN e.name){k:Bool→PT}(hk:∀w',St w0 E w'→k (namedE e) w'):L.call Pr z7w [evV e] (.one (.one .bool)) k w:=by
 refine z01 (zi6 e.t) ?_
 unfold zcY
 unfold namedE at hk
 refine nw h ?_;clear h;(try clear w);intro b1 w h
 (dsimp only[setN,List.cons_append,List.nil_append]at h;refine ldC h ?_)
 refine it (fun h1=>?_) (fun h1=>?_)
 ·have h1':e.kind=12:=by simpa using h1
  obtain⟨c,g,hc,g1,g2,en⟩:=hr (.inl h1')
  rw[if_pos (.inl h1')]at hk
  (refine ldC h ?_)
  rw[en]
  exact zhN h z5T hc g1 g2 fun w h=>⟨_,rfl,hk w (dl0_ h)⟩
 ·have h1':¬e.kind=12:=by simpa using h1
  (refine ldC h ?_)
  refine it (fun h2=>?_) (fun h2=>?_)
  ·have h2':e.kind=13:=by simpa using h2
   obtain⟨c,g,hc,g1,g2,en⟩:=hr (.inr h2')
   rw[if_pos (.inr h2')]at hk
   (refine ldC h ?_)
   rw[en]
   exact zhN h z5T hc g1 g2 fun w h=>⟨_,rfl,hk w (dl0_ h)⟩
  ·have h2':¬e.kind=13:=by simpa using h2
   rw[if_neg (fun hh=>hh.elim h1' h2')]at hk
   (refine ldC h ?_)
   exact zjw h z5T fun w h=>⟨_,rfl,hk w (dl0_ h)⟩
def noneE(s:Has)(e:AEv):Bool:=
 (s.1||decide (e.n=0))&&((s.2.1||decide (e.name=s_))&&((s.2.2.1||decide (e.tag=s_))&&((s.2.2.2.1||decide (e.draw=0))&&((s.2.2.2.2.1||sameC e.c noCfg)&&(s.2.2.2.2.2.1||bareE e.r e.v.len)))))
def chkS(s:Has)(e:AEv):Int:=
 if noneE s e=false then 2 else if s.1=true∧numE e=false then 2 else if s.2.1=true∧namedE e=false then 1
 else if s.2.2.1=true∧e.tag≠s_∧shortB e.tag.data.toList 8=false then 1 else if s.2.2.2.1=true∧wiB e.draw 0 2147483647=false then 2
 else if s.2.2.2.2.1=true then specC e.c else if s.2.2.2.2.2.1=true then specE e.r else 0
def chkEv(e:AEv):Int:=if(shp e.kind).2=false then 12 else chkS (shp e.kind).1 e
theorem zn3(k:Int):(shp k).1=(true,false,false,false,true,false,())∨(shp k).1=(true,false,false,false,false,true,())∨(shp k).1=(true,true,false,true,false,false,())∨(shp k).1=(true,true,true,true,false,false,())∨
  (shp k).1=(true,false,false,false,false,false,())∨(shp k).1=(false,false,false,false,false,false,())∨(shp k).1=(false,true,false,false,false,false,()):=by
 unfold shp
 repeat' split
 all_goals simp
theorem zjt(h:St w0 E w){e:AEv}(hn:e.kind=12∨e.kind=13→RevN e.name)(rd:RdE w0 E eT e.v e.r.ts)(hvc:e.v.len≤e.v.cap)(hrv:∀t∈e.r.ts,revOk t.1){k:Int→PT}(hk:∀w',St w0 E w'→k (chkEv e) w') :
  L.call Pr z7x [evV e] (.one (.one (.int .i64))) k w:=by
 refine z01 (zi8 e.t) ?_
 unfold zd0
 unfold chkEv at hk
 refine nw h ?_;clear h;(try clear w);intro b1 w h
 (dsimp only[setN,List.cons_append,List.nil_append]at h;refine ldC h ?_)
 refine zob h fun w h=>?_
 have hs:=zn3 e.kind
 generalize (shp e.kind).1=s at *
 generalize (shp e.kind).2=t at *
 refine nw h ?_;clear h;(try clear w);intro b4 w h
 (refine stC h ?_;clear h;(try clear w);intro w h;dsimp only[putN,setN]at h)
 cases t with
 | false=>exact itT rfl ⟨12,rfl,by rw[if_pos rfl]at hk;exact hk w (dl0_ (dl0_ h))⟩
 | true=>
  refine itF rfl ?_
  rw[if_neg (by decide)]at hk
  unfold chkS at hk
  have rd':∀{s1 s2:Seg}{w},St w0 (s1::s2::E) w→Rd w eT e.v e.r.ts:=fun h=>rd _ (dl0_ (dl0_ h))
  rcases hs with rfl | rfl | rfl | rfl | rfl | rfl | rfl
  all_goals repeat' (first | refine nn ?_ | (refine dr h ?_;clear h;(try clear w);intro w h) | refine ldC h ?_ | refine laC h ?_ | refine ckC h ?_ | (refine stC h ?_;clear h;(try clear w);intro w h;(try dsimp only[putN,setN]at h)) | rw[z4F] | refine jd ?_ | refine itT rfl ?_ | refine itF rfl ?_ | refine zrh ?_ | refine zrg ?_ | (refine zri (c:=e.c) h fun w h=>?_) | (refine zsQ (r:=e.r) (v:=e.v) h fun w h=>?_) | (refine zmt (e:=e) h fun w h=>?_) | (refine zoh (e:=e) h hn fun w h=>?_) | (refine zsS h z5T fun w h=>?_) | refine z9f ?_ | (refine zo9 (c:=e.c) h fun w h=>?_) | (refine zo8 (a:=e.r) (v:=e.v) h (fun w h=>rd' h) hvc hrv fun w h=>?_) | (refine it (fun hc=>?_) (fun hc=>?_)))
  all_goals exact⟨_,rfl,eqk (hk w (dl0_ (dl0_ h))) (by clear hk h rd rd' hrv hn hvc;(try simp only[z3Z]at *);simp_all [noneE])⟩
end Go.Proofs.YtdcdhcgmeahfmaaGreatDoor

namespace Go.Proofs
open Go.Shelf
def Tryz.lays189_ren:Go.Shelf.Ren:=⟨fun | 189=>112 | 125=>190 | 257=>189 | 128=>256 | 129=>257 | 294=>247 | 295=>248 | 296=>249 | 297=>250 | 298=>251 | 299=>252 | 216=>253 | 300=>254 | 301=>255 | 328=>294 | 329=>295 | 330=>296 | 331=>297 | 332=>298 | 215=>299 | 343=>319 | n=>n,fun | 28=>24 | 3=>3 | 46=>312 | 0=>0 | 51=>382 | 53=>384 | 4=>4 | 183=>375 | 182=>374 | 131=>259 | 5=>5 | 9=>9 | 218=>416 | 222=>420 | 228=>439 | 229=>46 | n=>n,fun | n=>n⟩
theorem Tryz.lays189:Go.Proofs.Lays.n189 Tryz.prog Tryz.lays189_ren:={
 mixed:=by kernel_rfl
 f125:=Tryz.func190.trans (congrArg some (by kernel_rfl))
 f128:=Tryz.func256.trans (congrArg some (by kernel_rfl))
 f129:=Tryz.func257.trans (congrArg some (by kernel_rfl))
 f189:=Tryz.func112.trans (congrArg some (by kernel_rfl))
 f215:=Tryz.func299.trans (congrArg some (by kernel_rfl))
 f216:=Tryz.func253.trans (congrArg some (by kernel_rfl))
 f257:=Tryz.func189.trans (congrArg some (by kernel_rfl))
 f294:=Tryz.func247.trans (congrArg some (by kernel_rfl))
 f295:=Tryz.func248.trans (congrArg some (by kernel_rfl))
 f296:=Tryz.func249.trans (congrArg some (by kernel_rfl))
 f297:=Tryz.func250.trans (congrArg some (by kernel_rfl))
 f298:=Tryz.func251.trans (congrArg some (by kernel_rfl))
 f299:=Tryz.func252.trans (congrArg some (by kernel_rfl))
 f300:=Tryz.func254.trans (congrArg some (by kernel_rfl))
 f301:=Tryz.func255.trans (congrArg some (by kernel_rfl))
 f328:=Tryz.func294.trans (congrArg some (by kernel_rfl))
 f329:=Tryz.func295.trans (congrArg some (by kernel_rfl))
 f330:=Tryz.func296.trans (congrArg some (by kernel_rfl))
 f331:=Tryz.func297.trans (congrArg some (by kernel_rfl))
 f332:=Tryz.func298.trans (congrArg some (by kernel_rfl))
 f343:=Tryz.func319.trans (congrArg some (by kernel_rfl))
 t0:=Tryz.underlying0
 a0:=Tryz.isAgg0
 z0:=Tryz.sizeOf0
 v0:=Tryz.zeroValue0
 t3:=Tryz.underlying3
 a3:=Tryz.isAgg3
 z3:=Tryz.sizeOf3
 v3:=Tryz.zeroValue3
 t4:=Tryz.underlying4
 a4:=Tryz.isAgg4
 z4:=Tryz.sizeOf4
 v4:=Tryz.zeroValue4
 t5:=Tryz.underlying5
 a5:=Tryz.isAgg5
 z5:=Tryz.sizeOf5
 v5:=Tryz.zeroValue5
 t9:=Tryz.underlying9
 a9:=Tryz.isAgg9
 z9:=Tryz.sizeOf9
 v9:=Tryz.zeroValue9
 t28:=Tryz.underlying24
 a28:=Tryz.isAgg24
 z28:=Tryz.sizeOf24
 v28:=Tryz.zeroValue24
 t46:=Tryz.underlying312
 a46:=Tryz.isAgg312
 z46:=Tryz.sizeOf312
 v46:=Tryz.zeroValue312
 t51:=Tryz.underlying382
 a51:=Tryz.isAgg382
 z51:=Tryz.sizeOf382
 v51:=Tryz.zeroValue382
 t53:=Tryz.underlying384
 a53:=Tryz.isAgg384
 z53:=Tryz.sizeOf384
 v53:=Tryz.zeroValue384
 t131:=Tryz.underlying259
 a131:=Tryz.isAgg259
 z131:=Tryz.sizeOf259
 v131:=Tryz.zeroValue259
 t182:=Tryz.underlying374
 a182:=Tryz.isAgg374
 z182:=Tryz.sizeOf374
 v182:=Tryz.zeroValue374
 t183:=Tryz.underlying375
 a183:=Tryz.isAgg375
 z183:=Tryz.sizeOf375
 v183:=Tryz.zeroValue375
 t218:=Tryz.underlying416
 a218:=Tryz.isAgg416
 z218:=Tryz.sizeOf416
 v218:=Tryz.zeroValue416
 t222:=Tryz.underlying420
 a222:=Tryz.isAgg420
 z222:=Tryz.sizeOf420
 v222:=Tryz.zeroValue420
 t228:=Tryz.underlying439
 a228:=Tryz.isAgg439
 z228:=Tryz.sizeOf439
 v228:=Tryz.zeroValue439
 t229:=Tryz.underlying46
 a229:=Tryz.isAgg46
 z229:=Tryz.sizeOf46
 v229:=Tryz.zeroValue46 }
open Go.Sort Go.RowKit in
theorem Tryz.slices_Sort_int(blk off cap:Nat)(zs:List Int)(w:World)(hH:Holds (Value.int .i64) w blk off zs.toArray)(hblk:blk<w.heap.size)(hsz:zs.length<4611686018427387904) :
  Calls Tryz.prog 112 #[.slice (some ⟨blk,off,none⟩) zs.length cap] w fun e w'=>
   e = .returned (.tuple #[])∧∃n os,w'=grow (putRow (Value.int .i64) (Sort.ahead w n) blk off (zs.mergeSort fun x y=>decide (x≤y)).toArray) os:=Any.slices_Sort_int Tryz.lays189 blk off cap zs w hH hblk hsz
end Go.Proofs
namespace Go.Proofs.YtdcdhcgmeahfmaaGreatDoor
open Go.Dm
attribute [local irreducible] L.load L.store L.chk L.new L.nonnil L.guard L.ite L.draw L.idx L.sem L.semR L.semU L.chkSem L.next L.call L.callV L.join L.alts L.loop L.begin L.endRound L.range
variable {w0 w:World}{E:List Seg}
def isort(l:List Int):List Int:=l.mergeSort fun x y=>decide (x≤y)
theorem z7H(l:List Int):(isort l).Perm l:=List.mergeSort_perm ..
theorem zhA(l:List Int):(isort l).Pairwise (· ≤·):=by
 have:=List.pairwise_mergeSort (le:=fun x y:Int=>decide (x≤y)) (fun a b c h1 h2=>by simp only[decide_eq_true_eq]at *;omega) (fun a b=>by simp only[Bool.or_eq_true,decide_eq_true_eq];omega) l
 exact this.imp fun h=>by simpa using h
theorem zld{l m:List Int}(h:l.Perm m):isort l=isort m:=
 List.Perm.eq_of_pairwise (fun a b _ _ h1 h2=>by omega) (zhA l) (zhA m) (((z7H l).trans h).trans (z7H m).symm)
theorem zpa{l m:List Int}(h:l.Perm m)(hm:m.Pairwise (· ≤·)):isort l=m:=
 List.Perm.eq_of_pairwise (fun a b _ _ h1 h2=>by omega) (zhA l) hm ((z7H l).trans h)
theorem z7T(l:List Int):(isort l).length=l.length:=(z7H l).length_eq
theorem zoq(h:St w0 E w)(i:Nat){s:Seg}(hi:nth E i=some s){v:Sl}{l:List Int}(hr:Rw eI z0h 1 v l s)(hn:l.length<1000000000){k:Unit→PT}(hk:∀s' w',Rw eI z0h 1 v (isort l) s'→St w0 (setN E i s') w'→k () w') :
  L.call Pr z4C [.slice v.a v.len v.cap] (.tup []) k w:=
 zn1 (encv:=Value.int .i64) (fun _=>rfl) encI (isort l) (z7T l) (fun g off cap w h1 h2=>Tryz.slices_Sort_int g off cap l w h1 h2 (by omega)) (fun p cap w=>Any.slices_Sort_int_none Tryz.lays189 p cap w) h i hi hr hk
theorem zjy{a1 a2:Seg}{F:List Seg}{fv:FV}{keys:List Int}(hY:YldM Pr w0 [a1,a2] fv.val keys (Value.int .i64))(h:St w0 (a1::a2::F) w)(hn:keys.length<1000000000){k:Sl→PT}
  (hk:∀seen v s w',seen.Perm keys→Rw eI z0h 1 v seen s→St w0 (s::a1::a2::F) w'→k v w'):L.call Pr z3d [.slice none 0 0,fv.val] (.one (.one .slice)) k w:=by
 refine z01 (z8p ⟨none,0,0⟩ fv) ?_
 unfold z56
 refine nw h ?_;clear h;(try clear w);intro b1 w h
 have h:=fr2_ (fr2_ h)
 have h:St w0 ([a1,a2]++[Cl b1 z1b [SlV ⟨none,0,0⟩]]::[]::F) w:=h.eq (by simp)
 refine ziI (l:=.int .i64) (arg:=fun x=>x) (A:=[a1,a2]) (keys:=keys) hY h (fun seen G=>∃v s,G = [Cl b1 z1b [SlV v]]::s::F∧Rw eI z0h 1 v seen s) (fun j G=>False) ⟨_,_,rfl,Rw.nil⟩ ?_ ?_ ?_
 ·rintro seen x G X w lv lp d R hm ⟨v,s,rfl,hr⟩ h hN hE
  have h:St w0 ([Rec lv lp .busy none]::[DfM d]::a1::a2::[Cl b1 z1b [SlV v]]::s::(F++X)) w:=h
  (refine ldC h ?_)
  refine nw h ?_;clear h;(try clear w);intro b8 w h
  refine Rw.app encI elI h 5 rfl hr x rfl (by omega) (by omega) fun v' s' w hr' h=>?_
  (dsimp only[setN,List.cons_append,List.nil_append]at h;refine stC h ?_;clear h;(try clear w);intro w h;dsimp only[putN,setN]at h)
  exact hN _ w ⟨v',s',rfl,hr'⟩ h
 ·rintro d seen G w hp ⟨v,s,rfl,hr⟩ h
  have h:St w0 ([DfM d]::a1::a2::[Cl b1 z1b [SlV v]]::s::F) w:=h
  refine jumpN ?_
  (refine ldC h ?_)
  (first | refine um0_ h ?_ | refine um1_ h ?_ | refine um2_ h ?_ | refine um3_ h ?_ | refine um4_ h ?_ | refine um5_ h ?_ | refine um6_ h ?_ | refine um7_ h ?_ | refine um8_ h ?_ | refine um9_ h ?_ | refine z92 h ?_ | refine z91 h ?_);clear h;(try clear w);intro w h
  refine⟨v,rfl,hk seen v s w hp hr ?_⟩
  have h:=fr3_ (fr1_ (fr1_ h))
  have h:=dl3_ h
  exact h
 ·rintro d j G w hf;exact hf.elim
theorem zhO{a1 a2:Seg}{F:List Seg}{fv:FV}{keys:List Int}(hY:YldM Pr w0 [a1,a2] fv.val keys (Value.int .i64))(h:St w0 (a1::a2::F) w)(hn:keys.length<1000000000){k:Sl→PT}
  (hk:∀v s w',Rw eI z0h 1 v (isort keys) s→St w0 (s::a2::F) w'→k v w'):L.call Pr z3K [fv.val] (.one (.one .slice)) k w:=by
 refine z01 (zc8 fv) ?_
 unfold z83
 refine z01 (zbo fv) ?_
 unfold z7l
 refine zjy hY h hn fun seen v s w hp hr h=>⟨v,rfl,?_⟩
 refine zoq h 0 rfl hr (by rw[hp.length_eq];exact hn) fun s w hr h=>?_
 rw[zld hp]at hr
 exact⟨v,rfl,hk v s w hr (dl1_ h)⟩
def unI:Value→Int
 | .int _ n=>n
 | _=>0
abbrev KI:Int→Value:=Value.int .i64
def vOne(x:ByteArray×Option Addr):Value:=.agg #[.string x.1,.pointer x.2]
theorem z7J:Pr.underlying z2O=some (.map z0h z1U):=by kernel_rfl
theorem z4t:Pr.underlying z0x=some (.map z0h z5D):=by kernel_rfl
theorem z4u:Pr.underlying z0K=some (.map z0h z0h):=by kernel_rfl
theorem zql:Pr.underlying z0h=some (.int .i64):=by kernel_rfl
theorem mkI:MK Pr z0h KI:=zs3 zql
theorem zb(w:World):(zeroValue z1U).run Pr w = .ok ((E1.one .bool).val false) w:=by
 have h:(Pr.info? z1U).map (·.zero)=some (some (.bool false)):=by kernel_rfl
 cases hi:Pr.info? z1U with
 | none=>rw[hi]at h;cases h
 | some i=>rw[hi]at h;simp only[Option.map_some,Option.some.injEq]at h;exact zv hi h w
theorem zi(w:World):(zeroValue z0h).run Pr w = .ok ((E1.one (.int .i64)).val (0:Int)) w:=by
 have h:(Pr.info? z0h).map (·.zero)=some (some (I 0)):=by kernel_rfl
 cases hi:Pr.info? z0h with
 | none=>rw[hi]at h;cases h
 | some i=>rw[hi]at h;simp only[Option.map_some,Option.some.injEq]at h;exact zv hi h w
theorem zo(w:World):(zeroValue z5D).run Pr w = .ok ((E1.agg [.str,.ptr]).val (s_,none,())) w:=by
 have h:(Pr.info? z5D).map (·.zero)=some (some (.agg #[.string s_,.pointer none])):=by kernel_rfl
 cases hi:Pr.info? z5D with
 | none=>rw[hi]at h;cases h
 | some i=>rw[hi]at h;simp only[Option.map_some,Option.some.injEq]at h;exact zv hi h w
theorem ztu(h:St w0 E w)(i:Nat){s:Seg}(hi:nth E i=some s){r:Nat}{m:List (Int×(ByteArray×Option Addr))}(hm:MpS KI vOne r m s)(hn:m.length<1000000000){k:Sl→PT}
  (hk:∀v s' w',Rw eI z0h 1 v (isort (m.map (·.1))) s'→St w0 (s'::E) w'→k v w') :
  L.call Pr z1g [.map (some r)] (.one (.one .func)) (fun x5=>L.call Pr z3K [.func x5.fn x5.fs x5.cs] (.one (.one .slice)) k) w:=by
 refine z01 (z3Y _) ?_
 unfold z1X
 have h:=h.front i hi
 refine nw h ?_;clear h;(try clear w);intro c w h
 refine⟨⟨.func z0o,#[],#[.pointer (some ⟨c,0,none⟩)]⟩,rfl,?_⟩
 have hY:YldM Pr w0 [[Cl c z0x [.map (some r)]],s] (.func (.func z0o) #[] #[.pointer (some ⟨c,0,none⟩)]) (m.map (·.1)) KI:=by
  intro yv R J Jd F w h hJ step fin fin2
  refine⟨z3A,z3C yv ⟨c,0,none⟩ ?_⟩
  unfold z1S
  exact zfx (kv:=KI) (vv:=vOne) unI (fun _=>rfl) z4t (lk:=.int .i64) (ev:=.agg [.str,.ptr]) (fun x=>x) (fun _=>rfl) (fun x:ByteArray×Option Addr=>(x.1,x.2,())) (fun _=>rfl) J Jd hm h hJ (fun seen k F X w hl hJ h=>step seen k F X w (by simpa using hl) hJ h) fin fin2
 refine zhO (fv:=⟨.func z0o,#[],#[.pointer (some ⟨c,0,none⟩)]⟩) hY h (by simpa using hn) fun v s' w hr h=>hk v s' w hr ?_
 have h:=fr1_ h
 exact St.setN_same' (i+1) (E:=s'::E) hi (St.back (i+1) (E:=s'::E) hi h)
structure APod where
 st:Int
 conc:Int
 reqs:List Int
def insI(x:Int):List Int→List Int
 | []=>[x]
 | y::l=>if y<x then y::insI x l else x::y::l
structure APod.Ok(p:APod):Prop where
 pw:p.reqs.Pairwise (· < ·)
 dr:p.st=3→p.reqs≠[]
 dead:p.st=4→p.reqs = []
 few:p.reqs.length<100000000
def podUp(p:APod):APod×Int:=if p.st≠1 then(p,9)else({ p with st:=2 },0)
def podDrain(p:APod):APod×Int:=if p.st≠1∧p.st≠2 then(p,9)else({ p with st:=if p.reqs = []then 4 else 3 },0)
def podKill(p:APod):APod×List Int×Int:=if p.st=4 then(p,[],9)else({ p with st:=4,reqs:=[] },p.reqs,0)
def podTake(p:APod)(id:Int):APod×Int:=
 if p.st≠2 then(p,9)else if id∈p.reqs then(p,5)else if(p.reqs.length:Int)≥p.conc then(p,8)else({ p with reqs:=insI id p.reqs },0)
def podGive(p:APod)(id:Int):APod×Int:=
 if id∈p.reqs then({ p with reqs:=p.reqs.erase id,st:=if p.st=3∧p.reqs.erase id = []then 4 else p.st },0)else(p,6)
theorem zav(x:Int)(l:List Int):(insI x l).Perm (x::l):=by
 induction l with
 | nil=>exact .refl _
 | cons y l ih=>
  simp only[insI]
  split
  ·exact(ih.cons y).trans (.swap ..)
  ·exact .refl _
theorem zbb{x y:Int}{l:List Int}:y∈insI x l↔y=x∨y∈l:=by
 rw[(zav x l).mem_iff];simp
theorem znC{x:Int}:∀{l:List Int},l.Pairwise (· < ·)→x∉l→(insI x l).Pairwise (· < ·)
 | [],_,_=>by simp[insI]
 | y::l,h,hx=>by
  simp only[List.mem_cons,not_or]at hx
  rw[List.pairwise_cons]at h
  simp only[insI]
  split
  ·rename_i hy
   rw[List.pairwise_cons]
   refine⟨fun z hz=>?_,znC h.2 hx.2⟩
   rcases zbb.1 hz with rfl | hz
   ·exact hy
   ·exact h.1 z hz
  ·rename_i hy
   rw[List.pairwise_cons]
   refine⟨fun z hz=>?_,List.pairwise_cons.2 h⟩
   rcases List.mem_cons.1 hz with rfl | hz
   ·omega
   ·have:=h.1 z hz;omega
theorem zle(x:Int)(l:List Int):(insI x l).length=l.length+1:=by rw[(zav x l).length_eq];rfl
def BagIs(m:List (Int×Bool))(reqs:List Int):Prop:=(∀p∈m,p.2=true)∧(m.map (·.1)).Perm reqs
theorem BagIs.get{m:List (Int×Bool)}{reqs:List Int}(h:BagIs m reqs)(id:Int):((mget m id).map fun x=>x).getD false=decide (id∈reqs):=by
 cases hg:mget m id with
 | none=>
  have:=z2i.1 hg
  rw[h.2.mem_iff]at this
  simp[this]
 | some b=>
  have hm:=z3R hg
  have hb:=h.1 _ hm
  simp only at hb
  subst hb
  have:id∈reqs:=h.2.mem_iff.1 (List.mem_map_of_mem (f:=(·.1)) hm)
  simp[this]
theorem BagIs.len{m:List (Int×Bool)}{reqs:List Int}(h:BagIs m reqs):m.length=reqs.length:=by
 have:=h.2.length_eq
 simpa using this
theorem BagIs.put{m:List (Int×Bool)}{reqs:List Int}(h:BagIs m reqs){id:Int}(hn:id∉reqs):BagIs (mset m id true) (insI id reqs):=by
 have hg:mget m id=none:=z2i.2 (fun hm=>hn (h.2.mem_iff.1 hm))
 rw[z4E hg]
 refine⟨fun p hp=>?_,?_⟩
 ·rcases List.mem_append.1 hp with hp | hp
  ·exact h.1 p hp
  ·simp at hp;subst hp;rfl
 ·rw[List.map_append]
  refine List.Perm.trans ?_ (zav id reqs).symm
  exact List.perm_append_comm.trans (h.2.cons id)
theorem mdel_perm:∀{m:List (Int×Bool)}{k:Int},((mdel m k).map (·.1)).Perm ((m.map (·.1)).erase k)
 | [],k=>by simp[mdel]
 | p::m,k=>by
  simp only[mdel]
  by_cases e:p.1=k
  ·rw[if_pos e];subst e;simp
  ·rw[if_neg e,List.map_cons,List.map_cons,List.erase_cons_tail (by simpa using e)]
   exact(mdel_perm (m:=m) (k:=k)).cons _
theorem zl4{κ υ:Type}[DecidableEq κ]:∀{m:List (κ×υ)}{k:κ}{p:κ×υ},p∈mdel m k→p∈m
 | q::m,k,p,h=>by
  simp only[mdel]at h
  split at h
  ·exact List.mem_cons_of_mem _ h
  ·rcases List.mem_cons.1 h with rfl | h
   ·exact List.mem_cons_self ..
   ·exact List.mem_cons_of_mem _ (zl4 h)
theorem BagIs.take{m:List (Int×Bool)}{reqs:List Int}(h:BagIs m reqs)(id:Int):BagIs (mdel m id) (reqs.erase id):=
 ⟨fun p hp=>h.1 p (zl4 hp),mdel_perm.trans (h.2.erase id)⟩
def PodS(b:Nat)(p:APod)(s:Seg):Prop:=p.Ok∧∃r m sm,MpS KI Value.bool r m sm∧BagIs m p.reqs∧s = [Cl b zaD [I p.st,.map (some r),I p.conc]]++sm
theorem zsz(h:St w0 E w){conc:Int}{k:Option Addr→PT}(hk:∀b s w',PodS b ⟨1,conc,[]⟩ s→St w0 (s::E) w'→k (some ⟨b,0,none⟩) w'):L.call Pr zfp [I conc] (.one (.one .ptr)) k w:=by
 refine z01 (zov _) ?_
 unfold zjA
 refine MpS.new h KI Value.bool fun r s w hm h=>?_
 refine nw h ?_;clear h;(try clear w);intro b w h
 exact⟨_,rfl,hk b _ w ⟨⟨by simp,by simp,by simp,by simp⟩,r,[],s,hm,⟨by simp,.refl _⟩,rfl⟩ h.glue⟩
theorem zpJ(h:St w0 E w)(i:Nat){b:Nat}{p:APod}{s:Seg}(hi:nth E i=some s)(hp:PodS b p s){k:Int→PT}(hk:k p.st w):L.call Pr z1u [.pointer (some ⟨b,0,none⟩)] (.one (.one (.int .i64))) k w:=by
 obtain⟨ok,r,m,sm,hm,hb,rfl⟩:=hp
 refine z01 (zg8 _) ?_
 unfold zaI
 have h:=(h.front i hi).split
 (refine nn ?_;refine ldC h ?_)
 exact⟨_,rfl,hk⟩
theorem zre(h:St w0 E w)(i:Nat){b:Nat}{p:APod}{s:Seg}(hi:nth E i=some s)(hp:PodS b p s){k:Int→PT}(hk:k p.reqs.length w):L.call Pr z2q [.pointer (some ⟨b,0,none⟩)] (.one (.one (.int .i64))) k w:=by
 obtain⟨ok,r,m,sm,hm,hb,rfl⟩:=hp
 refine z01 (zbL _) ?_
 unfold z8X
 have h:=(h.front i hi).split
 (refine nn ?_;refine ldC h ?_)
 refine MpS.len z7J h 1 rfl hm ⟨_,rfl,?_⟩
 rw[hb.len];exact hk
theorem zth(h:St w0 E w)(i:Nat){b:Nat}{p:APod}{s:Seg}(hi:nth E i=some s)(hp:PodS b p s){k:Int→PT}(hk:∀s' w',PodS b (podUp p).1 s'→St w0 (setN E i s') w'→k (podUp p).2 w') :
  L.call Pr zar [.pointer (some ⟨b,0,none⟩)] (.one (.one (.int .i64))) k w:=by
 have hp':=hp
 obtain⟨ok,r,m,sm,hm,hb,rfl⟩:=hp
 refine z01 (zjL _) ?_
 unfold zec
 have h:=(h.front i hi).split
 (refine nn ?_;refine ldC h ?_)
 refine it (fun hc=>?_) (fun hc=>?_)<;>(try simp only[zB]at hc)
 ·have e:podUp p=(p,9):=by simp only[podUp];rw[if_pos hc]
  rw[e]at hk
  exact⟨_,rfl,hk _ w hp' (St.back i hi h.glue)⟩
 ·have e:podUp p=({ p with st:=2 },0):=by simp only[podUp];rw[if_neg (by simpa using hc)]
  rw[e]at hk
  (refine nn ?_;refine stC h ?_;clear h;(try clear w);intro w h;dsimp only[putN,setN]at h)
  exact⟨_,rfl,hk _ w ⟨⟨ok.pw,by simp,by simp,ok.few⟩,r,m,sm,hm,hb,rfl⟩ (St.back i hi h.glue)⟩
theorem zqg{b r:Nat}{st conc:Int}{m:List (Int×Bool)}{reqs:List Int}{sm:Seg}{F:List Seg}(hm:MpS KI Value.bool r m sm)(hb:BagIs m reqs)(h:St w0 ([Cl b zaD [I st,.map (some r),I conc]]::sm::F) w){k:Unit→PT}
  (hk:∀w',St w0 ([Cl b zaD [I (if st=3∧reqs = []then 4 else st),.map (some r),I conc]]::sm::F) w'→k () w'):L.call Pr z7t [.pointer (some ⟨b,0,none⟩)] (.tup []) k w:=by
 refine z01 (zi1 _) ?_
 unfold zcT
 (refine nn ?_;refine ldC h ?_)
 refine it (fun hc=>?_) (fun hc=>?_)<;>(try simp only[zB]at hc)
 ·refine z01 (zbL _) ?_
  unfold z8X
  (refine nn ?_;refine ldC h ?_)
  refine MpS.len z7J h 1 rfl hm ⟨_,rfl,?_⟩
  have hl:=hb.len
  refine it (fun hd=>?_) (fun hd=>?_)<;>(try simp only[zB]at hd)
  ·have:reqs = []:=List.eq_nil_of_length_eq_zero (by omega)
   rw[if_pos ⟨hc,this⟩]at hk
   (refine nn ?_;refine stC h ?_;clear h;(try clear w);intro w h;dsimp only[putN,setN]at h)
   exact⟨(),rfl,hk w h⟩
  ·rw[if_neg (fun hh=>hd (by rw[hl,hh.2];rfl))]at hk
   exact⟨(),rfl,hk w h⟩
 ·rw[if_neg (fun hh=>hc hh.1)]at hk
  exact⟨(),rfl,hk w h⟩
theorem zpK(h:St w0 E w)(i:Nat){b:Nat}{p:APod}{s:Seg}(hi:nth E i=some s)(hp:PodS b p s){k:Int→PT}(hk:∀s' w',PodS b (podDrain p).1 s'→St w0 (setN E i s') w'→k (podDrain p).2 w') :
  L.call Pr z7R [.pointer (some ⟨b,0,none⟩)] (.one (.one (.int .i64))) k w:=by
 have hp':=hp
 obtain⟨ok,r,m,sm,hm,hb,rfl⟩:=hp
 refine z01 (zg9 _) ?_
 unfold zaJ
 have h:=(h.front i hi).split
 refine z1h (fun z w=>¬(p.st≠1∧p.st≠2)∧St w0 ([Cl b zaD [I p.st,.map (some r),I p.conc]]::sm::delN E i) w) (fun k1 hk1=>?_) (fun z w ⟨hc,h⟩=>?_)
 ·(refine nn ?_;refine ldC h ?_)
  refine it (fun hc=>?_) (fun hc=>?_)<;>(try simp only[zB]at hc)
  ·(refine nn ?_;refine ldC h ?_)
   refine it (fun hd=>?_) (fun hd=>?_)<;>(try simp only[zB]at hd)
   ·have e:podDrain p=(p,9):=by simp only[podDrain];rw[if_pos ⟨hc,hd⟩]
    rw[e]at hk
    exact⟨_,rfl,hk _ w hp' (St.back i hi h.glue)⟩
   ·exact hk1 _ w ⟨fun hh=>hh.2 hd,h⟩
  ·exact hk1 _ w ⟨fun hh=>hh.1 hc,h⟩
 ·have e:podDrain p=({ p with st:=if p.reqs = []then 4 else 3 },0):=by simp only[podDrain];rw[if_neg hc]
  rw[e]at hk
  (refine nn ?_;refine stC h ?_;clear h;(try clear w);intro w h;dsimp only[putN,setN]at h)
  refine zqg hm hb h fun w h=>⟨0,rfl,hk _ w ⟨⟨ok.pw,?_,?_,ok.few⟩,r,m,sm,hm,hb,rfl⟩ ?_⟩
  ·intro hh e
   have e:p.reqs = []:=e
   simp[e]at hh
  ·intro hh;apply Classical.byContradiction;intro hne;simp[hne]at hh
  ·have h:=St.back i hi h.glue
   simp only[true_and]at h
   exact h
theorem zoo{a:Addr}{b r o T:Nat}{pre:List Value}{post:List Value}{m:List (Int×Bool)}{reqs:List Int}{sm:Seg}{F:List Seg}(ha:a=⟨b,pre.length,none⟩)(hm:MpS KI Value.bool r m sm)(hb:BagIs m reqs)
  (h:St w0 ([Cl b T (pre++ .map (some r)::post)]::sm::F) w) {id:Int} {k:Int→PT}
  (hk:∀m' sm' w',MpS KI Value.bool r m' sm'→BagIs m' (reqs.erase id)→St w0 ([Cl b T (pre++ .map (some r)::post)]::sm'::F) w'→k (if id∈reqs then 0 else 6) w') :
  L.call Pr z62 [.pointer (some a),I id] (.one (.one (.int .i64))) k w:=by
 subst ha
 have hn:nth (pre++ .map (some r)::post) (pre.length+0)=some (.map (some r)):=by rw[z3I];rfl
 refine z01 (zd8 _ _) ?_
 unfold z8K
 refine nn ?_
 rw[z3m]
 refine ldx h 0 rfl hn rfl ?_
 refine MpS.get (kv:=KI) (e:=.one .bool) (z:=false) mkI z7J zb (fun x=>x) (fun _=>rfl) h 1 rfl hm ?_
 rw[hb.get]
 refine it (fun hc=>?_) (fun hc=>?_)<;>(try simp only[zB]at hc)
 ·have e:reqs.erase id=reqs:=List.erase_of_not_mem (by simpa using hc)
  rw[e,if_neg (by simpa using hc)]at hk
  exact⟨_,rfl,hk m sm w hm hb h⟩
 ·rw[if_pos (by simpa using hc)]at hk
  refine nn ?_
  rw[z3m]
  refine ldx h 0 rfl hn rfl ?_
  refine MpS.del (kv:=KI) mkI z7J h 1 rfl hm fun sm' w hm h=>⟨_,rfl,hk _ sm' w hm (hb.take id) h⟩
theorem zjd{l:List Int}(h:l = [])(id:Int):l.erase id = []:=by subst h;rfl
theorem zrf(h:St w0 E w)(i:Nat){b:Nat}{p:APod}{s:Seg}(hi:nth E i=some s)(hp:PodS b p s){id:Int}{k:Int→PT}(hk:∀s' w',PodS b (podGive p id).1 s'→St w0 (setN E i s') w'→k (podGive p id).2 w') :
  L.call Pr z6E [.pointer (some ⟨b,0,none⟩),I id] (.one (.one (.int .i64))) k w:=by
 obtain⟨ok,r,m,sm,hm,hb,rfl⟩:=hp
 refine z01 (zgo _ _) ?_
 unfold zbF
 have h:=(h.front i hi).split
 refine nn ?_
 refine zoo (pre:=[I p.st]) (o:=0) (post:=[I p.conc]) rfl hm hb h fun m' sm' w hm hb h=>?_
 refine zqg hm hb h fun w h=>?_
 by_cases hc:id∈p.reqs
 ·rw[if_pos hc]
  simp only[podGive,if_pos hc]at hk
  refine⟨_,rfl,hk _ w ⟨⟨ok.pw.sublist (List.erase_sublist ..),?_,?_,?_⟩,r,m',sm',hm,hb,rfl⟩ (St.back i hi h.glue)⟩
  ·intro hh e
   simp only at hh e
   rw[e]at hh
   by_cases h3:p.st=3
   ·simp[h3]at hh
   ·simp[h3]at hh
  ·intro hh
   simp only at hh ⊢
   by_cases h3:p.st=3∧p.reqs.erase id = []
   ·exact h3.2
   ·rw[if_neg h3]at hh
    exact zjd (ok.dead hh) id
  ·have:=List.length_erase_le (a:=id) (l:=p.reqs);have:=ok.few;simp only;omega
 ·rw[if_neg hc]
  simp only[podGive,if_neg hc]at hk
  have e:p.reqs.erase id=p.reqs:=List.erase_of_not_mem hc
  rw[e]at hb h
  refine⟨_,rfl,hk _ w ⟨ok,r,m',sm',hm,hb,rfl⟩ ?_⟩
  have h:=St.back i hi h.glue
  rw[if_neg (fun hh=>ok.dr hh.1 hh.2)]at h
  exact h
theorem zrd(h:St w0 E w)(i:Nat){b:Nat}{p:APod}{s:Seg}(hi:nth E i=some s)(hp:PodS b p s)(hfew:p.reqs.length<10000000){id:Int}{k:Int→PT}(hk:∀s' w',PodS b (podTake p id).1 s'→St w0 (setN E i s') w'→k (podTake p id).2 w') :
  L.call Pr z6D [.pointer (some ⟨b,0,none⟩),I id] (.one (.one (.int .i64))) k w:=by
 have hp':=hp
 obtain⟨ok,r,m,sm,hm,hb,rfl⟩:=hp
 refine z01 (zgn _ _) ?_
 unfold zbE
 have h:=(h.front i hi).split
 (refine nn ?_;refine ldC h ?_)
 refine it (fun hc=>?_) (fun hc=>?_)<;>(try simp only[zB]at hc)
 ·have e:podTake p id=(p,9):=by simp only[podTake];rw[if_pos hc]
  rw[e]at hk
  exact⟨_,rfl,hk _ w hp' (St.back i hi h.glue)⟩
 (refine nn ?_)
 refine z01 (zdN _ _) ?_
 unfold z9h
 (refine nn ?_;refine ldC h ?_)
 refine MpS.get (kv:=KI) (e:=.one .bool) (z:=false) mkI z7J zb (fun x=>x) (fun _=>rfl) h 1 rfl hm ?_
 rw[hb.get]
 have hl:=hb.len
 refine it (fun hd=>?_) (fun hd=>?_)<;>(try simp only[zB]at hd)
 ·have e:podTake p id=(p,5):=by simp only[podTake];rw[if_neg (by simpa using hc),if_pos hd]
  rw[e]at hk
  exact⟨5,rfl,5,rfl,hk _ w hp' (St.back i hi h.glue)⟩
 (refine dr h ?_;clear h;(try clear w);intro w h;refine nn ?_;refine ldC h ?_)
 refine MpS.len z7J h 1 rfl hm ?_
 (refine nn ?_;rw[z4F];refine ldC h ?_)
 refine it (fun he=>?_) (fun he=>?_)<;>(try simp only[zB]at he)
 ·have e:podTake p id=(p,8):=by simp only[podTake];rw[if_neg (by simpa using hc),if_neg hd,if_pos (by omega)]
  rw[e]at hk
  exact⟨8,rfl,8,rfl,hk _ w hp' (St.back i hi h.glue)⟩
 ·have e:podTake p id=({ p with reqs:=insI id p.reqs },0):=by simp only[podTake];rw[if_neg (by simpa using hc),if_neg hd,if_neg (by omega)]
  rw[e]at hk
  (refine nn ?_;refine ldC h ?_)
  refine MpS.set (kv:=KI) (vv:=Value.bool) mkI z7J h 1 rfl hm true rfl fun sm' w hm h=>?_
  refine⟨0,rfl,0,rfl,hk _ w ⟨⟨znC ok.pw hd,?_,?_,?_⟩,r,_,sm',hm,hb.put hd,rfl⟩ (St.back i hi h.glue)⟩
  ·intro _ e2
   have:=zle id p.reqs
   have e2:insI id p.reqs = []:=e2
   rw[e2]at this;simp at this
  ·intro hh;simp only at hh;have:=hc;omega
  ·simp only;rw[zle];omega
theorem zcG(h:St w0 E w){v:Sl}{l:List Int}(r:Rd w eI v l)(hn:l.length<1000000000000)(h64:v.a=none→l = []){k:Sl→PT}
  (hk:∀(v':Sl) s' w',Rw eI z0h 1 v' l s'→(v'.a=none↔v.a=none)→St w0 (s'::E) w'→k v' w'):L.call Pr z18 [SlV v] (.one (.one .slice)) k w:=by
 refine z01 (z6s _) ?_
 unfold z4k
 exact z6a (K:=fun v w'=>∃x,v=RT.val (.one (.one .slice)) x∧k x w') encI elI h r (by omega) hn h64 fun v' s' w' h1 h2 h3=>⟨v',rfl,hk v' s' w' h1 h2 h3⟩
theorem Rw.nil_of{α:Type}{enc:α→List Value}{e size:Nat}{v:Sl}{l:List α}{s:Seg}(hE:Enc enc size)(hr:Rw enc e size v l s)(h:v.a=none):l = []:=by
 have:=Rw.len hE hr
 unfold Rw at hr
 generalize fl enc l=cs at hr
 cases hr with
 | nil=>simpa using this.symm
 | mk=>cases h
structure AHeld where
 id:Int
 rev:ByteArray
 pod:APod
structure AFleet where
 room:Int
 last:Int
 l:List AHeld
structure AFleet.Ok(f:AFleet):Prop where
 pw:f.l.Pairwise (fun x y=>x.id<y.id)
 rng:∀x∈f.l,0<x.id∧x.id≤f.last
 live:∀x∈f.l,x.pod.st=1∨x.pod.st=2∨x.pod.st=3
 once:f.l.Pairwise (fun x y=>∀q∈x.pod.reqs,q∉y.pod.reqs)
 few:f.l.length<100000000
 lo:0≤f.last
 hi:f.last<4611686018427387904
abbrev Tr:=AHeld×Nat×Seg
abbrev trS(t:Tr):Seg:=t.2.2
def ent(t:Tr):Int×(ByteArray×Option Addr):=(t.1.id,t.1.rev,some ⟨t.2.1,0,none⟩)
def fFind(l:List AHeld)(id:Int):Option AHeld:=l.find? fun x=>decide (x.id=id)
def fWhere(l:List AHeld)(q:Int):Option AHeld:=l.find? fun x=>decide (q∈x.pod.reqs)
structure FlR(F:AFleet)(L:List Tr)(mA:List (Int×(ByteArray×Option Addr)))(mW:List (Int×Int)):Prop where
 l:F.l=L.map (·.1)
 ps:∀t∈L,PodS t.2.1 t.1.pod t.2.2
 all:mA.Perm (L.map ent)
 wth:∀q,mget mW q=(fWhere F.l q).map (·.id)
abbrev flB(b:Nat)(rA rW:Nat)(F:AFleet):Seg:=[Cl b zcF [.map (some rA),.map (some rW),I F.room,I F.last]]
def FlS(b:Nat)(F:AFleet)(s:Seg):Prop:=F.Ok∧∃rA rW mA mW sA sW L,MpS KI vOne rA mA sA∧MpS KI KI rW mW sW∧FlR F L mA mW∧s=flB b rA rW F++(sA++(sW++(L.map trS).flatten))
theorem FlR.ids{F:AFleet}{L:List Tr}{mA mW}(hr:FlR F L mA mW)(ok:F.Ok):L.Pairwise (fun x y=>x.1.id<y.1.id):=by
 have:=ok.pw;rw[hr.l,List.pairwise_map]at this;exact this
theorem FlR.keys{F:AFleet}{L:List Tr}{mA mW}(hr:FlR F L mA mW)(ok:F.Ok):isort (mA.map (·.1))=L.map (·.1.id):=by
 refine zpa ?_ ?_
 ·have:=hr.all.map (·.1);rw[List.map_map]at this;exact this
 ·rw[List.pairwise_map];exact(hr.ids ok).imp fun h=>by omega
theorem FlR.len{F:AFleet}{L:List Tr}{mA mW}(hr:FlR F L mA mW):mA.length=F.l.length:=by rw[hr.all.length_eq,hr.l];simp
theorem FlR.nd{F:AFleet}{L:List Tr}{mA mW}(hr:FlR F L mA mW)(ok:F.Ok):(mA.map (·.1)).Nodup:=by
 have:=hr.all.map (·.1);rw[List.map_map]at this
 rw[this.nodup_iff]
 have h:=(hr.ids ok).imp (S:=fun x y=>x.1.id≠y.1.id) fun h=>by omega
 exact List.pairwise_map.2 h
theorem FlR.get{F:AFleet}{L:List Tr}{mA mW}(hr:FlR F L mA mW)(ok:F.Ok){t:Tr}(ht:t∈L):mget mA t.1.id=some (t.1.rev,some ⟨t.2.1,0,none⟩):=
 z9C (hr.nd ok) (hr.all.mem_iff.2 (List.mem_map_of_mem (f:=ent) ht))
theorem FlR.get0{F:AFleet}{L:List Tr}{mA mW}(hr:FlR F L mA mW){id:Int}(h:fFind F.l id=none):mget mA id=none:=by
 refine z2i.2 fun hm=>?_
 have:=(hr.all.map (·.1)).mem_iff.1 hm
 rw[List.map_map]at this
 obtain⟨t,ht,e⟩:=List.mem_map.1 this
 have e:t.1.id=id:=e
 have h2:=List.find?_eq_none.1 h t.1 (by rw[hr.l];exact List.mem_map_of_mem (f:=(·.1)) ht)
 simp[e]at h2
theorem FlR.at{F:AFleet}{L:List Tr}{mA mW}(hr:FlR F L mA mW){id:Int}{x:AHeld}(h:fFind F.l id=some x):∃A t B,L=A++t::B∧t.1=x∧x.id=id:=by
 have h1:=List.mem_of_find?_eq_some h
 have h2:=List.find?_some h
 rw[hr.l]at h1
 obtain⟨t,ht,rfl⟩:=List.mem_map.1 h1
 obtain⟨A,B,e⟩:=List.append_of_mem ht
 exact⟨A,t,B,e,rfl,by simpa using h2⟩
theorem zsL(h:St w0 E w){room:Int}{k:Option Addr→PT}(hk:∀b s w',FlS b ⟨room,0,[]⟩ s→St w0 (s::E) w'→k (some ⟨b,0,none⟩) w'):L.call Pr zbV [I room] (.one (.one .ptr)) k w:=by
 refine z01 (zkE _) ?_
 unfold zfZ
 refine MpS.new h KI vOne fun r1 s1 w hm1 h=>?_
 refine MpS.new h KI KI fun r2 s2 w hm2 h=>?_
 refine nw h ?_;clear h;(try clear w);intro b w h
 refine⟨_,rfl,hk b _ w ⟨⟨by simp,by simp,by simp,by simp,by simp,by simp,by simp⟩,r1,r2,[],[],s1,s2,[],hm1,hm2,⟨rfl,by simp,.refl _,fun q=>rfl⟩,rfl⟩ ?_⟩
 have h:=fr2_ (fr2_ (fr1_ h))
 exact h.eq (by simp)
def fOf(l:List AHeld)(id:Int):ByteArray:=((fFind l id).map (·.rev)).getD s_
theorem ztl(h:St w0 E w)(i:Nat){b:Nat}{F:AFleet}{s:Seg}(hi:nth E i=some s)(hf:FlS b F s){id:Int}{k:ByteArray→PT}(hk:k (fOf F.l id) w):L.call Pr z7c [.pointer (some ⟨b,0,none⟩),I id] (.one (.one .str)) k w:=by
 obtain⟨ok,rA,rW,mA,mW,sA,sW,L,hA,hW,hr,rfl⟩:=hf
 refine z01 (zeG _ _) ?_
 unfold za5
 have h:St w0 (flB b rA rW F::sA::sW::(L.map trS).flatten::delN E i) w:=(h.front i hi).eq (by simp)
 (refine nn ?_;refine ldC h ?_)
 refine MpS.get mkI z4t zo (fun x:ByteArray×Option Addr=>(x.1,x.2,())) (fun _=>rfl) h 1 rfl hA ⟨_,rfl,?_⟩
 unfold fOf at hk
 cases hfd:fFind F.l id with
 | none=>rw[hfd]at hk;rw[hr.get0 hfd];exact hk
 | some x=>
  obtain⟨A,t,B,hL,rfl,hid⟩:=hr.at hfd
  have hg:=hr.get ok (t:=t) (by rw[hL];simp)
  rw[hid]at hg
  rw[hfd]at hk;rw[hg];exact hk
theorem S_of(h:St w0 E w){p:Option Addr}{rev:ByteArray}{k:FV→PT}(hk:∀c0 c1 w',St w0 ([Cl c1 z00 [.string rev]]::[Cl c0 z0P [.pointer p]]::E) w'→
  k ⟨.func z3k,#[],#[.pointer (some ⟨c0,0,none⟩),.pointer (some ⟨c1,0,none⟩)]⟩ w'):L.call Pr z3i [.pointer p,.string rev] (.one (.one .func)) k w:=by
 refine z01 (zeE _ _) ?_
 unfold za3
 refine nw h ?_;clear h;(try clear w);intro c0 w h
 refine nw h ?_;clear h;(try clear w);intro c1 w h
 exact⟨_,rfl,hk c0 c1 w h⟩
def argO(l:List Tr)(m:Nat):TT [.one (.int .i64),.one .ptr]:=match l[m]? with
 | some t=>(t.1.id,some ⟨t.2.1,0,none⟩,())
 | none=>(0,none,())
abbrev revP(rev:ByteArray)(t:Tr):Bool:=decide (t.1.rev=rev)
theorem Y_of{c0 c1 b rA rW:Nat}{F:AFleet}{L:List Tr}{mA mW}{sA:Seg}{rev:ByteArray}(ok:F.Ok)(hA:MpS KI vOne rA mA sA)(hr:FlR F L mA mW) :
  YldX Pr w0 [[Cl c1 z00 [.string rev]],[Cl c0 z0P [.pointer (some ⟨b,0,none⟩)]],flB b rA rW F,sA]
   (.func (.func z3k) #[] #[.pointer (some ⟨c0,0,none⟩),.pointer (some ⟨c1,0,none⟩)]) (L.filter (revP rev)).length fun m=>TV _ (argO (L.filter (revP rev)) m):=by
 intro yv R J Jd G w h hJ step fin fin2
 have hll:L.length=F.l.length:=by rw[hr.l];simp
 have hfew:=ok.few
 refine⟨zd2,zde yv ⟨c0,0,none⟩ ⟨c1,0,none⟩ ?_⟩
 unfold z8P
 have h:St w0 ([Cl c1 z00 [.string rev]]::[Cl c0 z0P [.pointer (some ⟨b,0,none⟩)]]::flB b rA rW F::sA::G) w:=h
 (refine ldC h ?_;refine nn ?_;refine ldC h ?_)
 refine ztu h 3 rfl hA (by rw[hr.len];omega) fun v s w hrow h=>?_
 rw[hr.keys ok]at hrow
 have hlen:=Rw.len encI hrow
 rw[List.length_map]at hlen
 refine z0u (fun q y w=>∃(j:Nat)(G:List Seg),@Eq Int y.1 j∧q+j=L.length∧J ((L.take j).filter (revP rev)).length G∧
  St w0 (s::[Cl c1 z00 [.string rev]]::[Cl c0 z0P [.pointer (some ⟨b,0,none⟩)]]::flB b rA rW F::sA::G) w) L.length ⟨0,G,rfl,rfl,hJ,h⟩ ?_
 clear hJ
 clear h;(try clear w)
 rintro q ⟨y,⟨⟩⟩ w ⟨j,G,hy,hq,hJ,h⟩ again hag
 simp only at hy
 subst hy
 refine it (fun hb=>?_) (fun hb=>?_)<;>(try simp only[zB]at hb)
 ·have hj:j<L.length:=by omega
  have hx:L[j]? = some L[j]:=List.getElem?_eq_getElem hj
  have hft:=zjc (p:=revP rev) hx
  refine z1h (fun z w=>∃G,J ((L.take (j+1)).filter (revP rev)).length G∧St w0 (s::[Cl c1 z00 [.string rev]]::[Cl c0 z0P [.pointer (some ⟨b,0,none⟩)]]::flB b rA rW F::sA::G) w) (fun k8 hk8=>?_) (fun z w ⟨G,hJ,h⟩=>?_)
  ·refine Rw.ix encI hrow (by omega) (by simpa using hj) fun a ha=>?_
   refine Rw.ld0 encI h 0 rfl hrow ha (x:=L[j].1.id) (by simp[hj]) rfl rfl ?_
   (refine ldC h ?_;refine nn ?_;refine ldC h ?_)
   refine MpS.get mkI z4t zo (fun x:ByteArray×Option Addr=>(x.1,x.2,())) (fun _=>rfl) h 4 rfl hA ?_
   rw[hr.get ok (List.getElem_mem hj)]
   simp only[Option.map_some,Option.getD_some]
   refine nw h ?_;clear h;(try clear w);intro b16 w h
   (refine stC h ?_;clear h;(try clear w);intro w h;dsimp only[putN,setN]at h;refine ldC h ?_;refine ldC h ?_)
   rw[z3Z]
   refine it (fun hc=>?_) (fun hc=>?_)<;>(try simp only[zB]at hc)
   ·(refine ldC h ?_)
    have h:=dl0_ h
    have hp:revP rev L[j]=true:=decide_eq_true hc
    rw[if_pos hp]at hft
    rw[hft]at hk8
    have hat:=znM (p:=revP rev) hx hp
    have ea:TV _ (argO (L.filter (revP rev)) ((L.take j).filter (revP rev)).length) = [I L[j].1.id,.pointer (some ⟨L[j].2.1,0,none⟩)]:=by simp only[argO,hat];rfl
    have hlt:((L.take j).filter (revP rev)).length<(L.filter (revP rev)).length:=by
     rcases Nat.lt_or_ge ((L.take j).filter (revP rev)).length (L.filter (revP rev)).length with h | h
     ·exact h
     ·rw[List.getElem?_eq_none h]at hat;cases hat
    have step:=step _ G [s] w hlt hJ (St.toEnd (X:=[s]) (A:=[_,_,_,_]) h)
    simp only[ea]at step
    refine cv (FCall.mono step fun u w' hu=>?_)
    rcases hu with ⟨rfl,G',h,hJ⟩ | ⟨rfl,hd⟩
    ·exact⟨true,rfl,itF rfl (hk8 () w' ⟨G',hJ,St.ofEnd (X:=[s]) (A:=[_,_,_,_]) h⟩)⟩
    ·exact⟨false,rfl,itT rfl (fin2 w' hd)⟩
   ·have h:=dl0_ h
    have hp:¬revP rev L[j]=true:=fun e=>hc (of_decide_eq_true e)
    rw[if_neg hp]at hft
    rw[Nat.add_zero]at hft
    rw[hft]at hk8
    exact hk8 () w ⟨G,hJ,h⟩
  ·refine hag (q-1) _ w (by omega) ⟨j+1,G,?_,by omega,hJ,h⟩
   show IntKind.wrap .i64 _=_
   rw[wr (by omega) (by omega)];omega
 ·have e:j=L.length:=by omega
  subst e
  rw[List.take_length]at hJ
  exact fin G w hJ (dl0_ h)
end Go.Proofs.YtdcdhcgmeahfmaaGreatDoor
