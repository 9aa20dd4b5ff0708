/- What is proved on the way to a statement of the seat, pressed (text AK). No conditions beyond those its theorems state. -/
import Derived.Test.YtimahgbgejngiaaGreatDoorPAJ
import Derived.LaidSub
import Derived.LaidMore
import Derived.MakeChecks
set_option linter.all false
namespace Go.Dm
open Go.ChangeShapes Go.WideShapes Go.RowKit
inductive Sh where
 | nil
 | lf (l:Lf) (r:Sh)
 | sl (e:Sh) (r:Sh)
@[reducible] def Sh.T:Sh→Type
 | .nil=>Unit
 | .lf l r=>l.T×r.T
 | .sl e r=>(Sl×List e.T)×r.T
def Sh.len:Sh→Nat
 | .nil=>0
 | .lf _ r=>r.len+1
 | .sl _ r=>r.len+1
def Sh.cells:(s:Sh)→s.T→List Value
 | .nil,_=>[]
 | .lf l r,x=>l.val x.1::r.cells x.2
 | .sl _ r,x=>.slice x.1.1.a x.1.1.len x.1.1.cap::r.cells x.2
def Sh.cells_len:∀(s:Sh)(x:s.T),(s.cells x).length=s.len
 | .nil,_=>rfl
 | .lf _ r,x=>by simp[Sh.cells,Sh.len,Sh.cells_len r]
 | .sl _ r,x=>by simp[Sh.cells,Sh.len,Sh.cells_len r]
def bp:∀(l:Lf)(x:l.T),Ft (l.val x)=true
 | .int _,_ | .bool,_ | .str,_ | .ptr,_ | .slice,_ | .map,_ | .func,_ | .adr,_=>rfl
 | .iface,none=>rfl
 | .iface,some _=>rfl
def Sh.cells_one:∀(s:Sh)(x:s.T),qI (s.cells x)=true
 | .nil,_=>rfl
 | .lf l r,x=>by simp[Sh.cells,qI,Sh.cells_one r,bp]
 | .sl _ r,x=>by simp[Sh.cells,qI,Sh.cells_one r,Ft]
def Sh.enc(s:Sh)(h:0<s.len):Enc s.cells s.len:=⟨s.cells_len,s.cells_one,h⟩
section
variable {H:Type}{enc:TypeId×Value→H}{P:Program}{w:World}
abbrev Tr1(enc:TypeId×Value→H)(P:Program)(w:World)(t:TypeId)(c:List Value):Prop:=∃fuel x,DataW.trod enc P w 0 (λ_=>true) true fuel t c=some x
inductive Trs(enc:TypeId×Value→H)(P:Program)(w:World):List TypeId→List (List Value)→Prop
 | nil:Trs enc P w [] []
 | cons {t c ts cs}:Tr1 enc P w t c→Trs enc P w ts cs→Trs enc P w (t::ts) (c::cs)
def Trs.app{ts cs us ds}(h:Trs enc P w ts cs)(g:Trs enc P w us ds):Trs enc P w (ts++us) (cs++ds):=by
 induction h with
 | nil=>exact g
 | cons h1 _ ih=>exact .cons h1 ih
end
end Go.Dm
namespace Go.Dm
open Go.ChangeShapes Go.WideShapes Go.RowKit
section
variable {H:Type}{enc:TypeId×Value→H}{P:Program}{W:World}
end
end Go.Dm

namespace Go.Dm
def aK(P:Program)(name:String)(k:IntKind):Bool:=match P.globalNamed name with
 | none=>false
 | some g=>match (P.globals[g]?).map (·.type) with
  | none=>false
  | some t=>match P.underlying t with
   | some (.array n e)=>(match P.underlying e with
    | some (.int k')=>decide (k'=k)
    | _=>false)&&(P.cellsOf e == 1)&&(P.cellsOf t == n)
   | _=>false
def RJ{P:Program}{W:World}{name:String}{k:IntKind}{zs:List Int}(hb:aK P name k=true){l:List (String×DataW Unit)}(hp:(l.all λx=>x.2.handleName?.isNone)=true)
  (hf:(l.filter λx=>x.1 == name) = [(name,Lib.tabData k zs)]) (h:laidMetH P l W):Lib.TabIs P W name k zs:=by
 rw[MakeChecks.laidMetH_plain P l W hp]at h;have h2:=h.filter λx=>x.1 == name;rw[hf]at h2;unfold aK at hb;split at hb
 ·cases hb
 ·rename_i g hg;split at hb
  ·cases hb
  ·rename_i t ht;split at hb
   ·rename_i n e he;simp only[Bool.and_eq_true,beq_iff_eq]at hb;obtain⟨⟨hb,hce⟩,hct⟩:=hb;split at hb
    ·rename_i k' hk;have hb:k'=k:=by simpa using hb
     subst hb;exact Lib.tabIs_of_head hg ht he hk hce hct h2
    ·cases hb
   ·cases hb
def Lc{H:Type}{enc:TypeId×Value→H}{P:Program}{w:World}{base:Nat}{sp:Nat→Bool}{held:Bool}{fuel:Nat}{t:TypeId}{ms}{cs:List Value}{x:DataW H×List MemPlace}(ht:P.underlying t=some (.interface ms))
  (h:DataW.trod enc P w base sp held fuel t cs=some x):cs = [.nilIface]∨∃u v,cs = [.iface u v]:=by
 cases fuel with
 | zero=>simp[DataW.trod]at h
 | succ fuel=>
  rcases cs with _ | ⟨c,_ | ⟨c2,cs⟩⟩
  ·simp[DataW.trod,ht]at h
  ·cases c<;>first | exact .inl rfl | exact .inr ⟨_,_,rfl⟩ | simp[DataW.trod,ht]at h
  ·simp[DataW.trod,ht]at h
def ifB(P:Program)(name:String)(g:Nat):Bool:=(P.globalNamed name == some g)&&match (P.globals[g]?).map (·.type) with
 | none=>false
 | some t=>match P.underlying t with
  | some (.interface _)=>true
  | _=>false
def wm{P:Program}{W:World}{name:String}{g:Nat}(hb:ifB P name g=true){l:List (String×DataW Unit)}(hp:(l.all λx=>x.2.handleName?.isNone)=true)
  (hf:(l.filter λx=>x.1 == name).map (·.1) = [name]) (h:laidMetH P l W):∃ev,W.cell? ⟨g,0,none⟩=some ev∧(ev = .nilIface∨∃te pe,ev = .iface te pe):=by
 rw[MakeChecks.laidMetH_plain P l W hp]at h;have h2:=h.filter λx=>x.1 == name;obtain⟨d,hf⟩:∃d,(l.filter λx=>x.1 == name) = [(name,d)]:=by
  generalize (l.filter λx=>x.1 == name)=m at hf;obtain _ | ⟨⟨n,d⟩,_ | ⟨q,m⟩⟩:=m
  ·cases hf
  ·simp only[List.map_cons,List.map_nil,List.cons.injEq,and_true]at hf;exact⟨d,by rw[hf]⟩
  ·simp at hf
 rw[hf]at h2;obtain⟨ps,⟨g',t',cs,fuel,p,q,hg',ht',hvar,hd,_,_⟩,_⟩:=h2;unfold ifB at hb;simp only[Bool.and_eq_true,beq_iff_eq]at hb;obtain⟨hg,hb⟩:=hb;obtain rfl:=Option.some.inj (hg.symm.trans hg');rw[ht']at hb;simp only at hb;split at hb
 ·rename_i ms hu;have hc:=World.var?_cell hg hvar 0;rw[←Array.getElem?_toList]at hc;rcases Lc hu hd with e | ⟨u,v,e⟩
  ·rw[e]at hc;exact⟨_,hc,.inl rfl⟩
  ·rw[e]at hc;exact⟨_,hc,.inr ⟨_,_,rfl⟩⟩
 ·cases hb
end Go.Dm
namespace Go.Proofs.YtimahgbgejngiaaGreatDoor
open Go.Dm
attribute [local irreducible] L.load L.store L.chk L.new L.nonnil L.guard L.ite L.draw L.idx L.sem L.semR L.semU L.chkSem L.next L.call L.callV L.join L.alts L.loop L.begin L.endRound L.range
variable {w0 w:World}{E:List Seg}
def elU:El Pr ya yc 1 1 (.int .u8 0):=Kf (by kernel_rfl) (by kernel_rfl) rfl (by decide)
abbrev scC(c:Nat)(v:Sl):Seg:=[Cl c ya [SlV v]]
def lQ(h:St w0 E w){v:Sl}{l:List UInt8}(r:Rd w eU v l)(hn:l.length<1000000000)(h64:v.a=none→l = []){k:Sl→PT}
  (hk:∀v' s' w',Rw eU yc 1 v' l s'→St w0 (s'::E) w'→k v' w'):L.call Pr YU [SlV v] (.one (.one .slice)) k w:=by
 refine zc (Uv v) ?_;unfold xu;exact xV (K:=λv w'=>∃x,v=RT.val (.one (.one .slice)) x∧k x w') kb elU h r (by omega) (by omega) h64 λv' s' w' h1 h2 h3=>⟨v',rfl,hk v' s' w' h1 h3⟩
def eV(v:Sl):List Value:=[SlV v]
def VZ:Enc eV 1:=⟨λ_=>rfl,λ_=>rfl,by decide⟩
def elV:El Pr zO ya 1 24 (.slice none 0 0):=Kf (by kernel_rfl) (by kernel_rfl) rfl (by decide)
def lE(h:St w0 E w){v:Sl}{k:FV→PT}(hk:∀c w',St w0 (scC c v::E) w'→k ⟨.func jU,#[],#[.pointer (some ⟨c,0,none⟩)]⟩ w'):L.call Pr uQ [SlV v] (.one (.one .func)) k w:=by
 refine zc (MT _) ?_;unfold KB;refine nw h ?_;clear h;intro c w h;exact⟨_,rfl,hk c w h⟩
def lP(h:St w0 E w){v:Sl}{l:List Sl}(r:Rd w eV v l)(hn:l.length<1000000000)(h64:v.a=none→l = []){k:Sl→PT}
  (hk:∀v' s' w',Rw eV ya 1 v' l s'→St w0 (s'::E) w'→k v' w'):L.call Pr jz [SlV v] (.one (.one .slice)) k w:=by
 refine zc (vh v) ?_;unfold xW;exact xV (K:=λv w'=>∃x,v=RT.val (.one (.one .slice)) x∧k x w') VZ elV h r (by omega) (by omega) h64 λv' s' w' h1 h2 h3=>⟨v',rfl,hk v' s' w' h1 h3⟩
abbrev Vl(b:Nat)(v:Sl)(bad:Bool):Seg:=[Cl b Kp [SlV v,.bool bad]]
abbrev RdT:=List UInt8×Bool
def tkR(n:Nat)(r:RdT):List UInt8×RdT:=if r.2=true∨r.1.length<n then(List.replicate n 0,(r.1,true))else(r.1.take n,(r.1.drop n,false))
def FJ(n:Nat)(r:RdT):(tkR n r).1.length=n:=by
 unfold tkR;split
 ·simp
 ·rename_i h;simp only[List.length_take];omega
structure RdV(w0:World)(E:List Seg)(v:Sl)(l:List UInt8):Prop where
 r:RdE w0 E eU v l
 c:v.len≤v.cap∧v.cap≤maxLen
 few:l.length<1000000
def lu{b:Nat}{v:Sl}{l:List UInt8}{c:Bool}(h:St w0 (Vl b v c::E) w){E0:List Seg}(sub:∀w,St w0 E w→St w0 E0 w)(r:RdV w0 E0 v l){n:Nat}(hn:n≤255){k:Sl→PT}
  (hk:∀vt st v' w',RdE w0 (st::E) eU vt (tkR n (l,c)).1→RdV w0 E0 v' (tkR n (l,c)).2.1→St w0 (Vl b v' (tkR n (l,c)).2.2::st::E) w'→k vt w') :
  L.call Pr jL [pO b,I (n:Int)] (.one (.one .slice)) k w:=by
 refine zc (oJ (some ⟨b,0,none⟩) n) ?_;unfold ub;have hl:v.len=l.length:=(r.r w (sub w (zy h))).len;have hml:maxLen=9223372036854775807:=rfl;have hc:=r.c;refine ZA (λ_ w=>St w0 (Vl b v (c||decide ((v.len:Int)<(n:Int)))::E) w) (λk1 hk1=>?_) ?_
 ·(refine nn ?_;refine ldC h ?_)
  cases c with
  | true=>
   refine itT rfl ?_
   (refine nn ?_;refine stC h ?_;clear h;intro w h;dsimp only[zP,ze]at h)
   exact hk1 () w h
  | false=>
   refine itF rfl ?_
   (refine nn ?_;refine ldC h ?_;refine nn ?_;refine stC h ?_;clear h;intro w h;dsimp only[zP,ze]at h)
   exact hk1 () w h
 clear h;rintro-w h
 (try dsimp only)
 (refine nn ?_;refine ldC h ?_)
 by_cases hcut:c=true∨l.length<n
 ·have e1:(c||decide ((v.len:Int)<(n:Int)))=true:=by
   rcases hcut with h1 | h1
   ·rw[h1];rfl
   ·rw[hl];simp;right;omega
  have e2:tkR n (l,c)=(List.replicate n 0,(l,true)):=by unfold tkR;rw[if_pos hcut]
  rw[e2]at hk;refine itT e1 ?_;rw[e1]at h;refine mkN elU kb (0:UInt8) rfl h (by omega) (by omega) (by omega) λvt st w hr h=>?_;rw[Int.toNat_natCast]at hr;refine⟨vt,rfl,hk vt st v w (Rw.re kb 0 rfl hr) r ?_⟩;have h:=Yx h;exact h
 ·have e1:(c||decide ((v.len:Int)<(n:Int)))=false:=by
   rw[not_or]at hcut;have hc0:c=false:=by cases c;rfl;exact absurd rfl hcut.1
   rw[hc0,hl];simp;omega
  have e2:tkR n (l,c)=(l.take n,(l.drop n,false)):=by unfold tkR;rw[if_neg hcut]
  rw[e2]at hk;have hnl:n≤l.length:=by omega
  refine itF e1 ?_;rw[e1]at h
  (refine nn ?_;refine ldC h ?_)
  refine gd (by dsimp only;omega) ?_
  (refine nn ?_;refine ldC h ?_)
  refine gd (by dsimp only;omega) ?_
  (refine nn ?_;refine stC h ?_;clear h;intro w h;dsimp only[zP,ze]at h)
  have h:St w0 (Vl b ⟨if v.cap=n then v.a else Option.map (λa:Addr=>a.add (n*1)) v.a,v.len-n,v.cap-n⟩ false::[]::E) w:=St.eq h (by simp);refine⟨⟨_,_,_⟩,rfl,hk _ [] _ w (λw hw=>?_) ⟨λw hw=>?_,?_,?_⟩ h⟩
  ·have:=(r.r w (sub w (hw.eq (by simp)))).cut kb 0 n (by omega) hnl hc.1 (v.cap-0);rw[List.drop_zero]at this;exact this
  ·have:=(r.r w hw).cut kb n l.length hnl (Nat.le_refl _) hc.1 (v.cap-n);rw[List.take_length,←hl]at this;exact this
  ·show v.len-n≤v.cap-n∧v.cap-n≤maxLen;omega
  ·have:=r.few;rw[List.length_drop];omega
def nmN(l:List UInt8):Nat:=l.foldl (λa x=>a*256+x.toNat) 0
def Wm(l:List UInt8)(x:UInt8):nmN (l++[x])=nmN l*256+x.toNat:=by unfold nmN;rw[List.foldl_append];rfl
def Wn:∀(l:List UInt8)(a:Nat),l.foldl (λa x=>a*256+x.toNat) a<(a+1)*256 ^ l.length
 | [],a=>by simp
 | x::l,a=>by
  have h1:=Wn l (a*256+x.toNat);have hx:=x.toNat_lt;have h2:a*256+x.toNat+1≤(a+1)*256:=by omega
  have h3:=Nat.mul_le_mul_right (256 ^ l.length) h2;rw[List.foldl_cons,List.length_cons,Nat.pow_succ,Nat.mul_comm (256 ^ l.length) 256,←Nat.mul_assoc];omega
def CT(l:List UInt8):nmN l<256 ^ l.length:=by
 have:=Wn l 0;rw[Nat.zero_add,Nat.one_mul]at this;exact this
def wZ{a:Nat}(ha:a<2 ^ 40){x:Nat}(hx:x<256) :
  Wi (((BitVec.ofInt 64 (Wi ((a:Int)*2 ^ (min (Int.toNat 8) 64)))) ||| (BitVec.ofInt 64 (Wi (x:Int)))).toNat:Int)=((a*256+x:Nat):Int):=by
 have e0:(2:Int) ^ (min (Int.toNat 8) 64)=256:=rfl;rw[e0,wr (n:=(a:Int)*256) (by omega) (by omega),wr (n:=(x:Int)) (by omega) (by omega)];have e1:(a:Int)*256=((a*256:Nat):Int):=by omega
 rw[e1,BitVec.ofInt_natCast,BitVec.ofInt_natCast,BitVec.toNat_or,BitVec.toNat_ofNat,BitVec.toNat_ofNat,Nat.mod_eq_of_lt (by omega),Nat.mod_eq_of_lt (by omega)];have e2:a*256 ||| x=a*256+x:=by
  have:=Nat.shiftLeft_add_eq_or_of_lt (i:=8) (b:=x) (by omega) a;rw[Nat.shiftLeft_eq]at this;exact this.symm
 rw[e2,wr (by omega) (by omega)]
def nmR(n:Nat)(r:RdT):Int×RdT:=((nmN (tkR n r).1:Int),(tkR n r).2)
def Rq(r:RdT):0≤(nmR 1 r).1∧(nmR 1 r).1≤255:=by
 have:=CT (tkR 1 r).1;rw[FJ]at this;unfold nmR;dsimp only;omega
def Ff{b:Nat}{v:Sl}{l:List UInt8}{c:Bool}(h:St w0 (Vl b v c::E) w){E0:List Seg}(sub:∀w,St w0 E w→St w0 E0 w)(r:RdV w0 E0 v l){n:Nat}(hn:n≤4){k:Int→PT}
  (hk:∀v' w',RdV w0 E0 v' (nmR n (l,c)).2.1→St w0 (Vl b v' (nmR n (l,c)).2.2::E) w'→k (nmR n (l,c)).1 w') :
  L.call Pr Zj [pO b,I (n:Int)] (.one (.one (.int .i64))) k w:=by
 refine zc (kx (some ⟨b,0,none⟩) n) ?_;unfold qB;refine lu h sub r (by omega) λvt st v' w rt r h=>?_;unfold nmR at hk;have hlen:=FJ n (l,c);generalize tkR n (l,c)=t at *
 obtain⟨l1,r2⟩:=t;simp only at hk hlen rt r h;have hvl:vt.len=l1.length:=(rt w (zy h)).len;refine Zh (λq y w=>∃j:Nat,y=((nmN (l1.take j):Int),(j:Int),())∧q+j=l1.length∧St w0 (Vl b v' r2.2::st::E) w) l1.length ⟨0,rfl,rfl,h⟩ ?_;clear h;rintro q y w ⟨j,rfl,hq,h⟩ again hag
 (try dsimp only)
 refine it (λhb=>?_) (λhb=>?_)<;>(try simp only[zB]at hb)
 ·have hj:j<l1.length:=by omega
  have hx:l1[j]? = some l1[j]:=List.getElem?_eq_getElem hj;generalize hg:l1[j]=x at hx;refine Rd.ix (rt w (zy h)) kb (by omega) (by simpa using hj) λa4 ha=>?_;simp only[Int.toNat_natCast]at ha;refine Rd.ld0 (rt w (zy h)) kb ha hx rfl rfl ?_;refine gd (by decide) ?_;have hlt:=CT (l1.take j);rw[List.length_take,Nat.min_eq_left (by omega)]at hlt;have hp:256 ^ j≤256 ^ 3:=Nat.pow_le_pow_right (by decide) (by omega);have e1:=wZ (a:=nmN (l1.take j)) (by omega) x.toNat_lt;rw[e1];have e2:nmN (l1.take (j+1))=nmN (l1.take j)*256+x.toNat:=by
   rw[List.take_succ,hx,Option.toList_some,Wm]
  rw[←e2];refine hag (q-1) _ w (by omega) ⟨j+1,?_,by omega,h⟩;have e3:Wi ((j:Int)+1)=((j+1:Nat):Int):=by rw[wr (by omega) (by omega)];omega
  rw[e3]
 ·have ej:l1.take j=l1:=List.take_of_length_le (by omega);rw[ej];refine⟨_,rfl,hk v' w r ?_⟩;have h:=jE h;exact h
def txR(r:RdT):B0×RdT:=(⟨(tkR (nmN (tkR 1 r).1) (tkR 1 r).2).1.toArray⟩,(tkR (nmN (tkR 1 r).1) (tkR 1 r).2).2)
def OY{b:Nat}{v:Sl}{l:List UInt8}{c:Bool}(h:St w0 (Vl b v c::E) w){E0:List Seg}(sub:∀w,St w0 E w→St w0 E0 w)(r:RdV w0 E0 v l){k:B0→PT}
  (hk:∀v' w',RdV w0 E0 v' (txR (l,c)).2.1→St w0 (Vl b v' (txR (l,c)).2.2::E) w'→k (txR (l,c)).1 w') :
  L.call Pr ZF [pO b] (.one (.one .str)) k w:=by
 refine zc (oI (some ⟨b,0,none⟩)) ?_;unfold ua;have hb1:=Rq (l,c);refine Ff (n:=1) h sub r (by decide) λv1 w r h=>?_;unfold txR at hk;unfold nmR at r h hb1 ⊢;simp only at r h hb1 ⊢;generalize tkR 1 (l,c)=t at *
 obtain⟨l1,r2⟩:=t;simp only at hk r h hb1 ⊢;refine lu h sub r (by omega) λvt st v' w rt r h=>?_;refine sH (e:=yc) (by kernel_rfl) (by kernel_rfl) (by kernel_rfl) (rt w (zy h)) ?_;refine⟨_,rfl,hk v' w r ?_⟩;have h:=jE h;exact h
def rdN(r:RdT):Nat→RdT
 | 0=>r
 | j+1=>(nmR 1 (rdN r j)).2
def vlN(r:RdT)(j:Nat):Int:=(nmR 1 (rdN r j)).1
def cfJ(x:B0)(r:RdT)(j:Nat):Cfg:=(x,if 0<j then vlN r 0 else 0,if 1<j then vlN r 1 else 0,if 2<j then vlN r 2 else 0,if 3<j then vlN r 3 else 0,if 4<j then vlN r 4 else 0,())
def cfR(r:RdT):Cfg×RdT:=(cfJ (txR r).1 (txR r).2 5,rdN (txR r).2 5)
abbrev RS(b b3:Nat):Seg:=[Cl b nh [.pointer (some ⟨b3,1,none⟩),.pointer (some ⟨b3,2,none⟩),.pointer (some ⟨b3,3,none⟩),.pointer (some ⟨b3,4,none⟩),.pointer (some ⟨b3,5,none⟩)]]
def dS{b:Nat}{v:Sl}{l:List UInt8}{c:Bool}(h:St w0 (Vl b v c::E) w){E0:List Seg}(sub:∀w,St w0 E w→St w0 E0 w)(r:RdV w0 E0 v l){k:LT.T→PT}
  (hk:∀v' w',RdV w0 E0 v' (cfR (l,c)).2.1→St w0 (Vl b v' (cfR (l,c)).2.2::E) w'→k (cfR (l,c)).1 w') :
  L.call Pr JO [pO b] (.one LT) k w:=by
 refine zc (ky (some ⟨b,0,none⟩)) ?_;unfold qC;refine nw h ?_;clear h;intro b1 w h;have h:=Yx h;refine OY h (λw h=>sub w (zy h)) r λv1 w r h=>?_;unfold cfR at hk;generalize txR (l,c)=t at *
 obtain⟨x,r1⟩:=t;simp only at hk r h ⊢;refine nw h ?_;clear h;intro b3 w h
 (refine stC h ?_;clear h;intro w h;dsimp only[zP,ze]at h)
 refine nw h ?_;clear h;intro b4 w h;have h:St w0 (RS b4 b3::[Cl b3 zq (Cfg.cells (cfJ x r1 0))]::Vl b v1 r1.2::[Cl b1 zq [.string s_,I 0,I 0,I 0,I 0,I 0]]::E) w:=h;have h:=ZR h;refine Zh (λq y w=>∃(j:Nat)(v:Sl),y=((j:Int),())∧q+j=5∧RdV w0 E0 v (rdN r1 j).1∧St w0 (Vl b v (rdN r1 j).2::RS b4 b3::[Cl b3 zq (Cfg.cells (cfJ x r1 j))]::[Cl b1 zq [.string s_,I 0,I 0,I 0,I 0,I 0]]::E) w) 5 ⟨0,v1,rfl,rfl,r,h⟩ ?_;clear r;clear h;rintro q y w ⟨j,v2,rfl,hq,r,h⟩ again hag
 (try dsimp only)
 have sub2:∀w,St w0 (RS b4 b3::[Cl b3 zq (Cfg.cells (cfJ x r1 j))]::[Cl b1 zq [.string s_,I 0,I 0,I 0,I 0,I 0]]::E) w→St w0 E0 w:=λw h=>sub w (zy (zy (zy h)));refine it (λhb=>?_) (λhb=>?_)<;>(try simp only[zB]at hb)
 ·have hj:j=0∨j=1∨j=2∨j=3∨j=4:=by omega
  rcases hj with rfl | rfl | rfl | rfl | rfl
  all_goals
   refine ix (by decide) (by decide) ?_
   (refine ldC h ?_)
   refine Ff (n:=1) h sub2 r (by decide) λv' w r h=>?_
   (refine nn ?_;refine stC h ?_;clear h;intro w h;dsimp only[zP,ze]at h)
   refine hag (q-1) _ w (by omega) ⟨_+1,v',?_,by omega,r,h⟩;rfl
 ·have hj:j=5:=by omega
  subst hj
  (refine laC h ?_;refine stC h ?_;clear h;intro w h;dsimp only[zP,ze]at h;refine laC h ?_)
  refine⟨_,?_,hk v2 w r ?_⟩
  ·rfl
  ·have h:=jE (vB (QJ h));exact h
def nR(r:RdT):Tgt×RdT:=(((txR r).1,(txR (txR r).2).1,(nmR 1 (txR (txR r).2).2).1,()),(nmR 1 (txR (txR r).2).2).2)
def Fq:Nat→RdT→List Tgt→List Tgt×RdT
 | 0,r,a=>(a,r)
 | n+1,r,a=>if(nR r).2.2=true then(a,(nR r).2)else Fq n (nR r).2 (a++[(nR r).1])
def rtR(r:RdT):ARt×RdT:=
 (⟨(txR r).1,(txR (txR r).2).1,(Fq (nmR 1 (nmR 1 (txR (txR r).2).2).2).1.toNat (nmR 1 (nmR 1 (txR (txR r).2).2).2).2 []).1,(nmR 1 (txR (txR r).2).2).1⟩,
  (Fq (nmR 1 (nmR 1 (txR (txR r).2).2).2).1.toNat (nmR 1 (nmR 1 (txR (txR r).2).2).2).2 []).2)
abbrev rtZ:List Value:=[.string s_,.string s_,.slice none 0 0,I 0]
def NH{b:Nat}{v:Sl}{l:List UInt8}{c:Bool}(h:St w0 (Vl b v c::E) w){E0:List Seg}(sub:∀w,St w0 E w→St w0 E0 w)(r:RdV w0 E0 v l){k:B0×B0×Sl×Int×Unit→PT}
  (hk:∀v' vt st w',RdV w0 E0 v' (rtR (l,c)).2.1→Rw eT zU 3 vt (rtR (l,c)).1.ts st→St w0 (Vl b v' (rtR (l,c)).2.2::st::E) w'→k ((rtR (l,c)).1.name,(rtR (l,c)).1.cfg,vt,(rtR (l,c)).1.roll,()) w') :
  L.call Pr xm [pO b] (.one (.agg [.str,.str,.slice,.int .i64])) k w:=by
 refine zc (KP (some ⟨b,0,none⟩)) ?_;unfold QC;refine nw h ?_;clear h;intro b1 w h;have h:=Yx h;have sub1:∀{cs:List Value}(w:World),St w0 ([Cl b1 ZZ cs]::E) w→St w0 E0 w:=λw h=>sub w (zy h);refine OY h sub1 r λv1 w r h=>?_;unfold rtR at hk;generalize txR (l,c)=t at *
 obtain⟨nm,r1⟩:=t;simp only at hk r h ⊢;refine OY h sub1 r λv1 w r h=>?_;generalize txR r1=t at *
 obtain⟨cf,r2⟩:=t;simp only at hk r h ⊢;refine Ff (n:=1) h sub1 r (by decide) λv1 w r h=>?_;generalize nmR 1 r2=t at *
 obtain⟨ro,r3⟩:=t;simp only at hk r h ⊢;refine nw h ?_;clear h;intro b5 w h
 (refine stC h ?_;clear h;intro w h;dsimp only[zP,ze]at h)
 refine ZA (λ_ w=>∃v vt st,RdV w0 E0 v (Fq (nmR 1 r3).1.toNat (nmR 1 r3).2 []).2.1∧Rw eT zU 3 vt (Fq (nmR 1 r3).1.toNat (nmR 1 r3).2 []).1 st∧
  St w0 (Vl b v (Fq (nmR 1 r3).1.toNat (nmR 1 r3).2 []).2.2::[Cl b5 ZZ [.string nm,.string cf,SlV vt,I ro]]::st::[Cl b1 ZZ rtZ]::E) w) (λk6 hk6=>?_) ?_
 ·have h:=Yx h;have sub2:∀{cs:List Value}{s:Seg}(w:World),St w0 ([Cl b5 ZZ cs]::s::[Cl b1 ZZ rtZ]::E) w→St w0 E0 w:=λw h=>sub w (zy (zy (zy h)));have h:St w0 (Vl b v1 r3.2::[Cl b5 ZZ [.string nm,.string cf,SlV ⟨none,0,0⟩,I ro]]::[]::[Cl b1 ZZ rtZ]::E) w:=h.eq (by simp);refine Ff (n:=1) h sub2 r (by decide) λv2 w r h=>?_;have hcnt:=Rq r3;generalize nmR 1 r3=t at *
  obtain⟨cnt,r4⟩:=t;simp only at hk6 r h hcnt ⊢
  refine Zh (λq y w=>∃(j:Nat)(v vt:Sl)(st:Seg)(rj:RdT)(acc:List Tgt),y=((j:Int),())∧q+j=cnt.toNat∧acc.length=j∧Fq q rj acc=Fq cnt.toNat r4 []∧RdV w0 E0 v rj.1∧Rw eT zU 3 vt acc st∧
   St w0 (Vl b v rj.2::[Cl b5 ZZ [.string nm,.string cf,SlV vt,I ro]]::st::[Cl b1 ZZ rtZ]::E) w) cnt.toNat ⟨0,v2,⟨none,0,0⟩,[],r4,[],rfl,rfl,rfl,rfl,r,Rw.nil,h⟩ ?_
  clear r;clear h;rintro q y w ⟨j,v2,vt,st,rj,acc,rfl,hq,hacc,hres,r,ht,h⟩ again hag
  (try dsimp only)
  refine it (λhb=>?_) (λhb=>?_)<;>(try simp only[zB]at hb)
  ·obtain⟨q,rfl⟩:∃p,q=p+1:=⟨q-1,by omega⟩;rw[Fq]at hres;unfold nR at hres;refine OY h sub2 r λv3 w r h=>?_;generalize txR rj=t at *
   obtain⟨x1,r5⟩:=t;simp only at hres r h ⊢;refine OY h sub2 r λv3 w r h=>?_;generalize txR r5=t at *
   obtain⟨x2,r6⟩:=t;simp only at hres r h ⊢;refine Ff (n:=1) h sub2 r (by decide) λv3 w r h=>?_;generalize nmR 1 r6=t at *
   obtain⟨x3,r7⟩:=t;simp only at hres r h ⊢;refine nw h ?_;clear h;intro b14 w h
   (refine stC h ?_;clear h;intro w h;dsimp only[zP,ze]at h;refine nn ?_;refine ldC h ?_)
   by_cases hc:r7.2=true
   ·rw[if_pos hc]at hres;refine itT hc ?_;refine hk6 () w ⟨v3,vt,st,?_,?_,?_⟩
    ·rw[←hres];exact r
    ·rw[←hres];exact ht
    ·rw[←hres];have h:=zy h;exact h
   rw[if_neg hc]at hres;refine itF (by simpa using hc) ?_
   (refine ldC h ?_;refine laC h ?_)
   refine nw h ?_;clear h;intro b19 w h;refine Rw.app GZ elT h 3 rfl ht (x1,x2,x3,()) rfl (by omega) (by omega) λvt' st' w ht' h=>?_;dsimp only[ze]at h
   (refine stC h ?_;clear h;intro w h;dsimp only[zP,ze]at h)
   refine hag q _ w (by omega) ⟨j+1,v3,vt',st',r7,acc++[(x1,x2,x3,())],?_,by omega,by rw[List.length_append,hacc];rfl,hres,r,ht',?_⟩
   ·have e3:Wi ((j:Int)+1)=((j+1:Nat):Int):=by rw[wr (by omega) (by omega)];omega
    rw[e3]
   ·have h:=zy h;exact h
  ·have hq0:q=0:=by omega
   subst hq0;rw[Fq]at hres;refine hk6 () w ⟨v2,vt,st,?_,?_,?_⟩
   ·rw[←hres];exact r
   ·rw[←hres];exact ht
   ·rw[←hres];exact h
 clear r h;rintro-w ⟨v2,vt,st,r,ht,h⟩
 (try dsimp only)
 (refine laC h ?_;refine stC h ?_;clear h;intro w h;dsimp only[zP,ze]at h;refine laC h ?_)
 refine⟨_,rfl,hk v2 vt st w r ht ?_⟩;have h:=jE (QJ h);exact h
def Tz(r:RdT):(txR r).1.size≤255:=by
 have h1:=CT (tkR 1 r).1;have h2:=FJ 1 r;rw[h2]at h1;have h3:=FJ (nmN (tkR 1 r).1) (tkR 1 r).2;have h4:=Yg (txR r).1;have h5:(txR r).1.data.toList=(tkR (nmN (tkR 1 r).1) (tkR 1 r).2).1:=rfl;rw[h5,h3]at h4;omega
def Pa:∀(n:Nat)(r:RdT)(a:List Tgt),(∀t∈a,QO t.1)→∀t∈(Fq n r a).1,QO t.1
 | 0,_,_,h=>h
 | n+1,r,a,h=>by
  rw[Fq];split
  ·exact h
  ·refine Pa n _ _ λt ht=>?_;rcases List.mem_append.1 ht with ht | ht
   ·exact h t ht
   ·have:t=(nR r).1:=by simpa using ht
    subst this;have:=Tz r;show(txR r).1.size≤1000000;omega
def pr1(a:Bool)(r:RdT):Int×RdT:=if a=true then nmR 4 r else(0,r)
def prT(a:Bool)(r:RdT):B0×RdT:=if a=true then txR r else(s_,r)
def prC(a:Bool)(r:RdT):Cfg×RdT:=if a=true then cfR r else(UI,r)
def prR(a:Bool)(r:RdT):ARt×RdT:=if a=true then rtR r else(tK,r)
def prK(l:List UInt8):Int×RdT:=nmR 1 (l,false)
def prA(l:List UInt8):AEv×RdT:=
 let p:=prK l
 let s:=(shp p.1).1
 let t1:=pr1 s.1 p.2
 let t2:=prT s.2.1 t1.2
 let t3:=prT s.2.2.1 t2.2
 let t4:=pr1 s.2.2.2.1 t3.2
 let t5:=prC s.2.2.2.2.1 t4.2
 let t6:=prR s.2.2.2.2.2.1 t5.2
 (⟨p.1,t2.1,t3.1,t1.1,t4.1,t5.1,t6.1,cw⟩,t6.2)
def pEv(l:List UInt8):AEv×Int:=
 if(prK l).2.2=true then(Fv 0,10)else if(shp (prK l).1).2=false then(Fv 0,12)else if(prA l).2.2=true then(Fv 0,10)
 else if 0<(prA l).2.1.length then(Fv 0,11)else if Zw (prA l).1≠0 then(Fv 0,Zw (prA l).1)else((prA l).1,0)
abbrev evL(k:Int)(nm tg:B0)(n d:Int)(c:Cfg):List Value:=[I k,.string nm,.string tg,I n,I d,.string c.1,I c.2.1,I c.2.2.1,I c.2.2.2.1,I c.2.2.2.2.1,I c.2.2.2.2.2.1,.string s_,.string s_,.slice none 0 0,I 0]
abbrev psF(b7 b4 b2 b1:Nat)(a1 a2 a3 a4 a5 a6:Bool)(cs:List Value)(v:Sl)(c:Bool):List Seg:=
 [[Cl b7 Qt [.bool a1,.bool a2,.bool a3,.bool a4,.bool a5,.bool a6]],[Cl b4 zT cs],Vl b2 v c,[Cl b1 zT (evL 0 s_ s_ 0 0 UI)]]
def Al{k:Int}{nm tg:B0}{n d:Int}{c:Cfg}{r:ARt}{v v':Sl}(h:(shp k).1.2.2.2.2.2.1=true):Zw ⟨k,nm,tg,n,d,c,r,v⟩=Zw ⟨k,nm,tg,n,d,c,r,v'⟩:=by
 unfold Zw WZ Wl;simp only[h,Bool.true_or];rfl
def ca(l:List UInt8):(prA l).1.name.size≤255∧∀t∈(prA l).1.r.ts,QO t.1:=by
 unfold prA;dsimp only;refine⟨?_,?_⟩
 ·unfold prT;split
  ·exact Tz _
  ·exact Nat.zero_le _
 ·unfold prR;split
  ·unfold rtR;exact Pa _ _ _ (λt ht=>by cases ht)
  ·intro t ht;cases ht
def Rg [jF w0]{v:Sl}{l:List UInt8}(h:St w0 E w)(r:RdV w0 E v l){k:EvT×Int×Unit→PT}
  (hk:∀vt st w',Rw eT zU 3 vt (pEv l).1.r.ts st→Zw { (pEv l).1 with v:=vt } = Zw (pEv l).1→St w0 (st::E) w'→k (({ (pEv l).1 with v:=vt }:AEv).t,(pEv l).2,()) w') :
  L.call Pr vd [SlV v] (.tup [.agg bw,.one (.int .i64)]) k w:=by
 refine zc (pE v) ?_;unfold Or;refine nw h ?_;clear h;intro b1 w h;refine nw h ?_;clear h;intro b2 w h;refine Ff (n:=1) (b:=b2) (v:=v) (c:=false) (l:=l) h (λw h=>zy h) r (by decide) λv1 w r h=>?_;have hsz:=ca l;unfold pEv at hk;unfold prA at hk hsz;unfold prK at hk hsz;dsimp only at hk hsz;generalize nmR 1 (l,false)=t at *
 obtain⟨x3,r1⟩:=t;simp only at hk hsz r h ⊢;have none0:∀{w}{x:Int},St w0 E w→(∀vt st w',Rw eT zU 3 vt [] st→Zw { Fv 0 with v:=vt } = Zw (Fv 0)→St w0 (st::E) w'→k ((({ Fv 0 with v:=vt }:AEv)).t,x,()) w')→k ((Fv 0).t,x,()) w:=λh hk=>hk cw [] _ Rw.nil rfl (h.eq (by simp));refine nw h ?_;clear h;intro b4 w h
 (refine stC h ?_;clear h;intro w h;dsimp only[zP,ze]at h;refine ldC h ?_)
 refine nl h λw h=>?_;have hcv:(shp x3).1.2.2.2.2.2.1=true→∀(nm tg:B0)(n d:Int)(c:Cfg)(r:ARt)(v v':Sl),Zw ⟨x3,nm,tg,n,d,c,r,v⟩=Zw ⟨x3,nm,tg,n,d,c,r,v'⟩:=λh nm tg n d c r v v'=>Al h;generalize shp x3=s at *
 obtain⟨⟨a1,a2,a3,a4,a5,a6,⟨⟩⟩,is⟩:=s;simp only at hk hsz hcv ⊢;refine nw h ?_;clear h;intro b7 w h
 (refine stC h ?_;clear h;intro w h;dsimp only[zP,ze]at h;refine nn ?_;refine ldC h ?_)
 have h:St w0 (psF b7 b4 b2 b1 a1 a2 a3 a4 a5 a6 (evL x3 s_ s_ 0 0 UI) v1 r1.2++E) w:=h;by_cases hcut:r1.2=true
 ·rw[if_pos hcut]at hk;refine itT hcut ?_
  (dsimp only[ze,List.cons_append,List.nil_append]at h;refine stC h ?_;clear h;intro w h;dsimp only[zP,ze]at h;refine laC h ?_)
  refine⟨_,?_,none0 (w:=w) ?_ hk⟩
  ·rfl
  ·have h:=zy (jE (vB (QJ h)));exact h
 rw[if_neg hcut]at hk;refine itF (by simpa using hcut) ?_;by_cases his:is=false
 ·rw[if_pos his]at hk;subst his;refine itT rfl ?_
  (dsimp only[ze,List.cons_append,List.nil_append]at h;refine stC h ?_;clear h;intro w h;dsimp only[zP,ze]at h;refine laC h ?_)
  refine⟨_,?_,none0 (w:=w) ?_ hk⟩
  ·rfl
  ·have h:=zy (jE (vB (QJ h)));exact h
 rw[if_neg his]at hk;have his:is=true:=by simpa using his
 subst his;refine itF rfl ?_;clear hcut his;have sub:∀{cs:List Value}(w:World),St w0 ([Cl b7 Qt [.bool a1,.bool a2,.bool a3,.bool a4,.bool a5,.bool a6]]::[Cl b4 zT cs]::[Cl b1 zT (evL 0 s_ s_ 0 0 UI)]::E) w→St w0 E w:=λw h=>zy (zy (zy h));refine ZA (λ_ w=>∃v,RdV w0 E v (pr1 a1 r1).2.1∧St w0 (psF b7 b4 b2 b1 a1 a2 a3 a4 a5 a6 (evL x3 s_ s_ (pr1 a1 r1).1 0 UI) v (pr1 a1 r1).2.2++E) w) (λkk hkk=>?_) ?_
 ·(dsimp only[ze,List.cons_append,List.nil_append]at h;refine ldC h ?_)
  cases a1 with
  | false=>exact itF rfl (hkk () w ⟨v1,r,h⟩)
  | true=>
   refine itT rfl ?_;have h:=ZR h;refine Ff (n:=4) h sub r (by decide) λv' w r h=>?_;have h:=ZR (ZR h)
   (refine stC h ?_;clear h;intro w h;dsimp only[zP,ze]at h)
   exact hkk () w ⟨v',r,h⟩
 clear r h;rintro-w ⟨v1,r,h⟩
 (try dsimp only)
 generalize pr1 a1 r1=t at *
 obtain⟨n,r1⟩:=t;simp only at hk hsz r h ⊢;refine ZA (λ_ w=>∃v,RdV w0 E v (prT a2 r1).2.1∧St w0 (psF b7 b4 b2 b1 a1 a2 a3 a4 a5 a6 (evL x3 (prT a2 r1).1 s_ n 0 UI) v (prT a2 r1).2.2++E) w) (λkk hkk=>?_) ?_
 ·(dsimp only[ze,List.cons_append,List.nil_append]at h;refine ldC h ?_)
  cases a2 with
  | false=>exact itF rfl (hkk () w ⟨v1,r,h⟩)
  | true=>
   refine itT rfl ?_;have h:=ZR h;refine OY h sub r λv' w r h=>?_;have h:=ZR (ZR h)
   (refine stC h ?_;clear h;intro w h;dsimp only[zP,ze]at h)
   exact hkk () w ⟨v',r,h⟩
 clear r h;rintro-w ⟨v1,r,h⟩
 (try dsimp only)
 generalize prT a2 r1=t at *
 obtain⟨nm,r1⟩:=t;simp only at hk hsz r h ⊢;refine ZA (λ_ w=>∃v,RdV w0 E v (prT a3 r1).2.1∧St w0 (psF b7 b4 b2 b1 a1 a2 a3 a4 a5 a6 (evL x3 nm (prT a3 r1).1 n 0 UI) v (prT a3 r1).2.2++E) w) (λkk hkk=>?_) ?_
 ·(dsimp only[ze,List.cons_append,List.nil_append]at h;refine ldC h ?_)
  cases a3 with
  | false=>exact itF rfl (hkk () w ⟨v1,r,h⟩)
  | true=>
   refine itT rfl ?_;have h:=ZR h;refine OY h sub r λv' w r h=>?_;have h:=ZR (ZR h)
   (refine stC h ?_;clear h;intro w h;dsimp only[zP,ze]at h)
   exact hkk () w ⟨v',r,h⟩
 clear r h;rintro-w ⟨v1,r,h⟩
 (try dsimp only)
 generalize prT a3 r1=t at *
 obtain⟨tg,r1⟩:=t;simp only at hk hsz r h ⊢;refine ZA (λ_ w=>∃v,RdV w0 E v (pr1 a4 r1).2.1∧St w0 (psF b7 b4 b2 b1 a1 a2 a3 a4 a5 a6 (evL x3 nm tg n (pr1 a4 r1).1 UI) v (pr1 a4 r1).2.2++E) w) (λkk hkk=>?_) ?_
 ·(dsimp only[ze,List.cons_append,List.nil_append]at h;refine ldC h ?_)
  cases a4 with
  | false=>exact itF rfl (hkk () w ⟨v1,r,h⟩)
  | true=>
   refine itT rfl ?_;have h:=ZR h;refine Ff (n:=4) h sub r (by decide) λv' w r h=>?_;have h:=ZR (ZR h)
   (refine stC h ?_;clear h;intro w h;dsimp only[zP,ze]at h)
   exact hkk () w ⟨v',r,h⟩
 clear r h;rintro-w ⟨v1,r,h⟩
 (try dsimp only)
 generalize pr1 a4 r1=t at *
 obtain⟨d,r1⟩:=t;simp only at hk hsz r h ⊢;refine ZA (λ_ w=>∃v,RdV w0 E v (prC a5 r1).2.1∧St w0 (psF b7 b4 b2 b1 a1 a2 a3 a4 a5 a6 (evL x3 nm tg n d (prC a5 r1).1) v (prC a5 r1).2.2++E) w) (λkk hkk=>?_) ?_
 ·(dsimp only[ze,List.cons_append,List.nil_append]at h;refine ldC h ?_)
  cases a5 with
  | false=>exact itF rfl (hkk () w ⟨v1,r,h⟩)
  | true=>
   refine itT rfl ?_;have h:=ZR h;refine dS h sub r λv' w r h=>?_;have h:=ZR (ZR h)
   (refine stC h ?_;clear h;intro w h;dsimp only[zP,ze]at h)
   exact hkk () w ⟨v',r,h⟩
 clear r h;rintro-w ⟨v1,r,h⟩
 (try dsimp only)
 generalize prC a5 r1=t at *
 obtain⟨c,r1⟩:=t;simp only at hk hsz r h ⊢
 refine ZA (λ_ w=>∃v vt st,RdV w0 E v (prR a6 r1).2.1∧Rw eT zU 3 vt (prR a6 r1).1.ts st∧(a6=false→vt=cw)∧
  St w0 (psF b7 b4 b2 b1 a1 a2 a3 a4 a5 a6 (eEv ⟨x3,nm,tg,n,d,c,(prR a6 r1).1,vt⟩) v (prR a6 r1).2.2++st::E) w) (λkk hkk=>?_) ?_
 ·(dsimp only[ze,List.cons_append,List.nil_append]at h;refine ldC h ?_)
  cases a6 with
  | false=>exact itF rfl (hkk () w ⟨v1,cw,[],r,Rw.nil,λ_=>rfl,h.eq (by simp[eEv,prR,tK,cw])⟩)
  | true=>
   refine itT rfl ?_;have h:=ZR h;refine NH h sub r λv' vt st w r ht h=>?_;have h:=YY (YY (ZR (YY (Yx h))))
   (refine stC h ?_;clear h;intro w h;dsimp only[zP,ze]at h)
   exact hkk () w ⟨v',vt,st,r,ht,(λhh=>by cases hh),h⟩
 clear r h;rintro-w ⟨v1,vt,st,r,ht,hvt,h⟩
 (try dsimp only)
 generalize prR a6 r1=t at *
 obtain⟨rt,r1⟩:=t;simp only at hk hsz r h ht ⊢;have hlen:v1.len=r1.1.length:=(r.r w (zy (zy (zy (zy (zy h)))))).len;have hend:∀{w},St w0 (psF b7 b4 b2 b1 a1 a2 a3 a4 a5 a6 (eEv ⟨x3,nm,tg,n,d,c,rt,vt⟩) v1 r1.2++st::E) w→St w0 E w:=λh=>zy (zy (zy (zy (zy h))));unfold eEv at h;dsimp only at h
 (dsimp only[ze,List.cons_append,List.nil_append]at h;refine nn ?_;refine ldC h ?_)
 by_cases hcut:r1.2=true
 ·rw[if_pos hcut]at hk;refine itT hcut ?_
  (refine stC h ?_;clear h;intro w h;dsimp only[zP,ze]at h;refine laC h ?_)
  refine⟨_,?_,none0 (w:=w) ?_ hk⟩
  ·rfl
  ·have h:=zy (jE (vB (QJ (Kh h))));exact h
 rw[if_neg hcut]at hk;refine itF (by simpa using hcut) ?_
 (refine nn ?_;refine ldC h ?_)
 by_cases hmore:0<r1.1.length
 ·rw[if_pos hmore]at hk;refine itT (decide_eq_true (by dsimp only;omega)) ?_
  (refine stC h ?_;clear h;intro w h;dsimp only[zP,ze]at h;refine laC h ?_)
  refine⟨_,?_,none0 (w:=w) ?_ hk⟩
  ·rfl
  ·have h:=zy (jE (vB (QJ (Kh h))));exact h
 rw[if_neg hmore]at hk;refine itF (decide_eq_false (by dsimp only;omega)) ?_
 (refine laC h ?_)
 have hcap:=Rw.cap ht;have ec:Zw ⟨x3,nm,tg,n,d,c,rt,vt⟩=Zw ⟨x3,nm,tg,n,d,c,rt,cw⟩:=by
  cases a6 with
  | false=>rw[hvt rfl]
  | true=>exact hcv rfl _ _ _ _ _ _ _ _
 refine PM (e:=⟨x3,nm,tg,n,d,c,rt,vt⟩) h (λ_=>by have:=hsz.1;dsimp only;omega) (Rw.re GZ 4 rfl ht) hcap.1 hsz.2 λw h=>?_;rw[ec];by_cases hch:Zw ⟨x3,nm,tg,n,d,c,rt,cw⟩≠0
 ·rw[if_pos hch]at hk;refine itT (by simpa using hch) ?_
  (refine stC h ?_;clear h;intro w h;dsimp only[zP,ze]at h;refine laC h ?_)
  refine⟨_,?_,none0 (w:=w) ?_ hk⟩
  ·rfl
  ·have h:=zy (jE (vB (QJ (Kh h))));exact h
 rw[if_neg hch]at hk;refine itF (by simpa using hch) ?_
 (refine laC h ?_;refine stC h ?_;clear h;intro w h;dsimp only[zP,ze]at h;refine laC h ?_)
 refine⟨_,?_,hk vt st w ht ec ?_⟩
 ·rfl
 ·have h:=zy (jE (vB (QJ h)));exact h
end Go.Proofs.YtimahgbgejngiaaGreatDoor
namespace Go.Dm
def An(P:Program)(w0:World)(n:Nat)(Q0 Qm:Nat→List Seg→Prop)(fv:Value)(Pv:Nat→Sl→Seg→Prop):Prop:=
 ∀(yv:FV)(R:Value→PT)(J:Nat→List Seg→Prop)(Jd:World→Prop)(A F:List Seg)(w:World),Q0 0 A→St w0 (A++F) w→J 0 F→
  (∀j v s B F X w,j<n→Pv j v s→Qm j B→J j F→St w0 (B++((s::F)++X)) w→Jg P yv.val [SlV v] w λr w'=>(r = .bool true∧∃F',St w0 (B++(F'++X)) w'∧J (j+1) F')∨(r = .bool false∧Jd w'))→
  (∀A F w,Q0 n A→J n F→St w0 (A++F) w→R (.tuple #[]) w)→(∀w,Jd w→R (.tuple #[]) w)→vg P fv [yv.val] w R
section
variable {w0 w w':World}{P:Program}
def nS{n:Nat}{A F:List Seg}{Q0 Qm:Nat→List Seg→Prop}{fv:Value}{Pv:Nat→Sl→Seg→Prop}(hY:An P w0 n Q0 Qm fv Pv)(hA:Q0 0 A)(h:St w0 (A++F) w){body:Nat→TT [.one .slice]→(Value→PT)→PT}{K:List Nat→Option Code→PT}
  (I:Nat→List Seg→Prop) (h0:I 0 F)
  (hb:∀j v s B F X w l lp d(R:Value→PT),j<n→Pv j v s→Qm j B→I j F→St w0 ([Rec l lp .busy none]::[DfM d]::(B++((s::F)++X))) w→
   (∀F' w',I (j+1) F'→St w0 ([Rec l lp .busy none]::[DfM d]::(B++(F'++X))) w'→L.endRound P l none R w')→body l (v,()) R w)
  (hc:∀d A F w,Q0 n A→I n F→St w0 ([DfM d]::(A++F)) w→K [d] none w):L.range P none fv [.one .slice] (λl y R=>L.begin P l (body l y R)) K w:=by
 refine rng h λd l lp w h hy=>?_;have h:St w0 (A++([[Rec l lp .ready none],[DfM d]]++F)) w:=St.toFront (G:=A) (A:=[[Rec l lp .ready none],[DfM d]]) h;refine hY ⟨.yield l,#[],#[]⟩ _ (λj G=>∃F,G = [[Rec l lp .ready none],[DfM d]]++F∧I j F) (λ_=>False) A _ w hA h ⟨F,rfl,h0⟩ ?_ ?_ ?_
 ·rintro j v s B G X w hj hv hB ⟨F,rfl,hi⟩ h;have h:St w0 (B++([[Rec l lp .ready none],[DfM d]]++((s::F)++X))) w:=h.perm (by
   simp only[List.flatten_append,List.flatten_cons,List.flatten_nil,List.append_nil,List.append_assoc];refine List.Perm.append_left _ ?_;simp only[←List.append_assoc];refine List.Perm.append_right _ (List.Perm.append_right _ ?_);rw[List.append_assoc];exact List.perm_append_comm)
  have h:St w0 ([Rec l lp .ready none]::[DfM d]::(B++((s::F)++X))) w:=St.toFront (A:=B) (G:=[[Rec l lp .ready none],[DfM d]]) (F:=(s::F)++X) h;have hrec:=(h.at 0 (b:=(Rec l lp .ready none).1) (o:=(Rec l lp .ready none).2) rfl).2;refine hy (v,()) .ready none w _ hrec ?_;refine bgn h 0 rfl λw h=>?_;refine hb j v s B F X w l lp d _ hj hv hB hi h ?_;intro F' w' hi' h';refine WS h' 0 rfl λw h=>.inl ⟨rfl,_,?_,F',rfl,hi'⟩;exact St.toFront (G:=B) (A:=[[Rec l lp .ready none],[DfM d]]) (F:=F'++X) h
 ·rintro A' G w hA' ⟨F,rfl,hi⟩ h;refine tU h.toFront 0 rfl (by simp) λw h=>hc d A' F w hA' hi h
 ·rintro w hh;exact hh.elim
end
end Go.Dm
namespace Go.Proofs.YtimahgbgejngiaaGreatDoor
open Go.Dm
attribute [local irreducible] L.load L.store L.chk L.new L.nonnil L.guard L.ite L.draw L.idx L.sem L.semR L.semU L.chkSem L.next L.call L.callV L.join L.alts L.loop L.begin L.endRound L.range
variable {w0 w:World}{E:List Seg}
def nP:List UInt8→Nat
 | x::y::t=>if t.length<x.toNat*256+y.toNat then t.length else x.toNat*256+y.toNat
 | l=>l.length
def bdP:List UInt8→List UInt8
 | _::_::t=>t
 | l=>l
def hdP(l:List UInt8):List UInt8:=(bdP l).take (nP l)
def nxP(l:List UInt8):List UInt8:=(bdP l).drop (nP l)
def rsP:Nat→List UInt8→List UInt8
 | 0,l=>l
 | j+1,l=>nxP (rsP j l)
def aZ(l:List UInt8):nP l≤(bdP l).length:=by
 rcases l with _ | ⟨x,_ | ⟨y,t⟩⟩
 ·exact Nat.le_refl _
 ·exact Nat.le_refl _
 ·show(if t.length<x.toNat*256+y.toNat then t.length else x.toNat*256+y.toNat)≤t.length;split<;>omega
def Wk{l:List UInt8}(h:l≠[]):(nxP l).length<l.length:=by
 unfold nxP;rw[List.length_drop];rcases l with _ | ⟨x,_ | ⟨y,t⟩⟩
 ·exact absurd rfl h
 ·show 1-1<1;decide
 ·show t.length-_<t.length+1+1;omega
def Rd.noneU{v:Sl}{l:List UInt8}(r:Rd w eU v l):v.a=none→l = []:=λhv=>by
 cases l with
 | nil=>rfl
 | cons x l=>
  obtain⟨a,ha,-⟩:=r.rd 0 (.int .u8 x.toNat) rfl;rw[hv]at ha;cases ha
def Rd.ckU{v:Sl}{l:List UInt8}(r:Rd w eU v l){i:Nat}{a:Addr}(ha:ElA v 1 i a){x:UInt8}(hx:l[i]? = some x){k:PT}(hk:k w):L.chk a [.int .u8 (x.toNat:Int)] k w:=by
 have h:=r.ld0 kb ha hx (lf:=.int .u8) (kk:=λ(y:Int) w=>y=(x.toNat:Int)∧k w) (w:=w) (u:=.int .u8 (x.toNat:Int)) (y:=(x.toNat:Int)) rfl rfl ⟨rfl,hk⟩;unfold L.load at h;obtain⟨y,hc,rfl,hk⟩:=h;unfold L.chk;exact⟨hc,hk⟩
def RdV.dr{v:Sl}{l:List UInt8}(r:RdV w0 E v l)(hl:v.len=l.length){n:Nat}(hn:n≤l.length):RdV w0 E ⟨if v.cap=n then v.a else Option.map (λa:Addr=>a.add (n*1)) v.a,v.len-n,v.cap-n⟩ (l.drop n):=by
 have hc:=r.c;refine⟨λw hw=>?_,?_,?_⟩
 ·have:=(r.r w hw).cut kb n l.length hn (Nat.le_refl _) hc.1 (v.cap-n);rw[List.take_length,←hl]at this;exact this
 ·show v.len-n≤v.cap-n∧v.cap-n≤maxLen;omega
 ·have:=r.few;rw[List.length_drop];omega
def sub2{X Y:Seg}{F:List Seg}(h:St w0 (X::Y::F) w):St w0 [Y] w:=by
 refine h.sub ⟨X++F.flatten,?_⟩;simp only[List.flatten_cons,List.flatten_nil,List.append_nil];exact(List.perm_append_comm_assoc ..)
def NC(c:Nat){sb:Seg}{l:List UInt8}{n:Nat}(hn:rsP n l = [])(hlt:∀j,j<n→rsP j l≠[]) :
  An Pr w0 n (λj G=>∃v,G = [scC c v,sb]∧RdV w0 [sb] v (rsP j l)) (λj G=>∃v,G = [scC c v,sb]∧RdV w0 [sb] v (bdP (rsP j l))) (.func (.func jU) #[] #[.pointer (some ⟨c,0,none⟩)])
   (λj v s=>Rw eU yc 1 v (hdP (rsP j l)) s):=by
 intro yv R J Jd A F w hA h hJ step fin fin2;obtain⟨v,rfl,r⟩:=hA;refine⟨fj,fH yv ⟨c,0,none⟩ ?_⟩;unfold vP;have h:St w0 (scC c v::sb::F) w:=h;have hml:maxLen=9223372036854775807:=rfl;refine Zh (λq y w=>∃(j:Nat)(v:Sl)(F:List Seg),q=(rsP j l).length∧j≤n∧RdV w0 [sb] v (rsP j l)∧J j F∧St w0 (scC c v::sb::F) w) l.length ⟨0,v,F,rfl,by omega,r,hJ,h⟩ ?_;clear hJ r;clear h;rintro q y w ⟨j,v,F,rfl,hjn,r,hJ,h⟩ again hag
 (try dsimp only)
 have hl:v.len=(rsP j l).length:=(r.r w (sub2 h)).len;have hnx:rsP (j+1) l=nxP (rsP j l):=rfl;have hc:=r.c;have hfew:=r.few
 (refine ldC h ?_)
 by_cases he:rsP j l = []
 ·have hj:j=n:=by
   rcases Nat.lt_or_ge j n with h1 | h1
   ·exact absurd he (hlt j h1)
   ·omega
  subst hj;refine itF (decide_eq_false (by dsimp only;rw[hl,he];decide)) ?_;exact fin _ F w ⟨v,rfl,r⟩ hJ h
 have hjlt:j<n:=by
  rcases Nat.lt_or_ge j n with h1 | h1
  ·exact h1
  ·have:j=n:=by omega
   subst this;exact absurd hn he
 have hstep:=step j;dsimp only at hstep;generalize hlj:rsP j l=lj at *
 have hpos:0<lj.length:=List.length_pos_iff.2 he;refine itT (decide_eq_true (by dsimp only;omega)) ?_;refine ZA (λ(z:Int×Unit) w=>z=((nP lj:Int),())∧∃v,RdV w0 [sb] v (bdP lj)∧St w0 (scC c v::sb::F) w) (λk4 hk4=>?_) ?_
 ·(refine ldC h ?_)
  rcases lj with _ | ⟨x,_ | ⟨y,t⟩⟩
  ·exact absurd rfl he
  ·refine itT (decide_eq_true (by rw[hl];show((1:Nat):Int)<2;decide)) ?_
   (refine ldC h ?_)
   have e:((v.len:Nat):Int)=((nP [x]:Nat):Int):=by rw[hl];rfl
   rw[e];exact hk4 _ w ⟨rfl,v,r,h⟩
  simp only[List.length_cons]at hl hfew;refine itF (decide_eq_false (by dsimp only;omega)) ?_;refine ZA (λ(z:Int×Unit) w=>z=((nP (x::y::t):Int),())∧St w0 (scC c v::sb::F) w) (λk8 hk8=>?_) ?_
  ·have hv:(if(Wi (((v.len:Nat):Int)-2))<(Wi (((BitVec.ofInt 64 (Wi ((Wi (x.toNat:Int))*2 ^ (min (Int.toNat 8) 64)))) ||| (BitVec.ofInt 64 (Wi (y.toNat:Int)))).toNat:Int))then(Wi (((v.len:Nat):Int)-2))else(Wi (((BitVec.ofInt 64 (Wi ((Wi (x.toNat:Int))*2 ^ (min (Int.toNat 8) 64)))) ||| (BitVec.ofInt 64 (Wi (y.toNat:Int)))).toNat:Int)))=((nP (x::y::t):Nat):Int):=by
    have hx:=x.toNat_lt;have hy:=y.toNat_lt;rw[wr (n:=(x.toNat:Int)) (by omega) (by omega),wZ (a:=x.toNat) (by omega) (by omega),wr (n:=((v.len:Nat):Int)-2) (by omega) (by omega)];unfold nP;dsimp only;split<;>split<;>omega
   (refine dr h ?_;clear h;intro w h;refine ldC h ?_)
   refine Rd.ix (r.r w (sub2 h)) kb (n:=(0:Int)) (by decide) (by simp) λa11 ha11=>?_;refine Rd.ld0 (r.r w (sub2 h)) kb ha11 (x:=x) rfl rfl rfl ?_
   (refine ldC h ?_)
   refine Rd.ix (r.r w (sub2 h)) kb (n:=(1:Int)) (by decide) (by simp) λa14 ha14=>?_;refine Rd.ld0 (r.r w (sub2 h)) kb ha14 (x:=y) rfl rfl rfl ?_
   (refine ldC h ?_)
   refine VO ?_ ?_
   ·(refine ckC h ?_)
    refine Rd.ckU (r.r w (sub2 h)) ha14 (x:=y) rfl ?_
    (refine ckC h ?_)
    refine gd (by decide) ?_
    (refine ckC h ?_)
    refine Rd.ckU (r.r w (sub2 h)) ha11 (x:=x) rfl ?_
    (refine ckC h ?_)
    rw[hv];exact hk8 _ w ⟨rfl,h⟩
   ·(refine ckC h ?_)
    refine Rd.ckU (r.r w (sub2 h)) ha11 (x:=x) rfl ?_
    (refine ckC h ?_;refine ckC h ?_)
    refine Rd.ckU (r.r w (sub2 h)) ha14 (x:=y) rfl ?_
    (refine ckC h ?_)
    refine gd (by decide) ?_;rw[hv];exact hk8 _ w ⟨rfl,h⟩
  ·clear h;rintro z w ⟨rfl,h⟩
   (try dsimp only)
   (refine ldC h ?_)
   refine gd (by dsimp only;omega) ?_
   (refine stC h ?_;clear h;intro w h;dsimp only[zP,ze]at h)
   exact hk4 _ w ⟨rfl,_,r.dr hl (n:=2) (by simp),h⟩
 clear hl hc hfew r;clear h;rintro z w ⟨rfl,v,r,h⟩
 (try dsimp only)
 have hl:v.len=(bdP lj).length:=(r.r w (sub2 h)).len;have hnp:=aZ lj;have hc:=r.c;have hfew:=r.few
 (refine ldC h ?_)
 refine gd (by dsimp only;omega) ?_;have rd:Rd w eU ⟨if v.cap=0 then v.a else Option.map (λa:Addr=>a.add (0*1)) v.a,nP lj-0,v.cap-0⟩ (hdP lj):=by
  have:=(r.r w (sub2 h)).cut kb 0 (nP lj) (Nat.zero_le _) hnp hc.1 (v.cap-0);rw[List.drop_zero]at this;exact this
 refine lQ (v:=⟨if v.cap=0 then v.a else Option.map (λa:Addr=>a.add (0*1)) v.a,nP lj-0,v.cap-0⟩) h rd (by unfold hdP;rw[List.length_take];omega) (Rd.noneU rd) λv' s' w hr h=>?_;have h:=ZR (ZR h);have step:=hstep v' s' [scC c v,sb] F [] w hjlt hr ⟨v,rfl,r⟩ hJ (by simpa using h);refine cv (Jg.mono step λu w' hu=>?_);rcases hu with ⟨rfl,F',h,hJ⟩ | ⟨rfl,hd⟩
 ·refine⟨true,rfl,itF rfl ?_⟩;have h:St w0 (scC c v::sb::F') w':=by simpa using h
  (refine ldC h ?_)
  refine gd (by dsimp only;omega) ?_
  (refine stC h ?_;clear h;intro w h;dsimp only[zP,ze]at h)
  refine hag (nxP lj).length () w (Wk he) ⟨j+1,⟨if v.cap=nP lj then v.a else Option.map (λa:Addr=>a.add (nP lj*1)) v.a,v.len-nP lj,v.cap-nP lj⟩,F',by rw[hnx],hjlt,?_,hJ,h⟩;rw[hnx];exact r.dr hl hnp
 ·exact⟨false,rfl,itT rfl (fin2 w' hd)⟩
structure Bu(l:List UInt8)(n:Nat)(Z:List (Sl×Seg)):Prop where
 len:Z.length=n
 at':∀i z,Z[i]? = some z→Rw eU yc 1 z.1 (hdP (rsP i l)) z.2
def Bp{sb:Seg}{v:Sl}{l:List UInt8}(h:St w0 (sb::E) w)(r:RdV w0 [sb] v l){n:Nat}(hn:rsP n l = [])(hlt:∀j,j<n→rsP j l≠[])(hn1:n≤1000){k:Sl→PT}
  (hk:∀v' sv Z w',Bu l n Z→Rw eV ya 1 v' (Z.map (·.1)) sv→St w0 (sv::(Z.map (·.2)++sb::E)) w'→k v' w') :
  L.call Pr kV [SlV v] (.one (.one .slice)) k w:=by
 refine zc (Cr v) ?_;unfold Fl;refine nw h ?_;clear h;intro b1 w h;refine lE (v:=v) h λc w h=>?_;have h:=Yx (ZR h);have h:St w0 ([scC c v,sb]++([]::[Cl b1 zO [.slice none 0 0]]::E)) w:=h.eq (by simp)
 refine nS (A:=[scC c v,sb]) (F:=[]::[Cl b1 zO [.slice none 0 0]]::E) (NC c hn hlt) ⟨v,rfl,r⟩ h
  (λj G=>∃Z v' s',Bu l j Z∧Rw eV ya 1 v' (Z.map (·.1)) s'∧G=s'::[Cl b1 zO [SlV v']]::(Z.map (·.2)++E)) ?_ ?_ ?_
 ·exact⟨[],⟨none,0,0⟩,[],⟨rfl,λi z hi=>by simp at hi⟩,Rw.nil,rfl⟩
 ·clear h;rintro j vp sp B F X w l' lp d R hj hp ⟨v2,rfl,r2⟩ ⟨Z,v',s',hZ,hr,rfl⟩ h hN;have h:St w0 ([Rec l' lp .busy none]::[DfM d]::scC c v2::sb::sp::s'::[Cl b1 zO [SlV v']]::((Z.map (·.2)++E)++X)) w:=h
  (refine ldC h ?_)
  refine nw h ?_;clear h;intro b9 w h;have hzl:(Z.map (·.1)).length=j:=by rw[List.length_map,hZ.len]
  refine Rw.app VZ elV h 5 rfl hr vp rfl (by omega) (by omega) λv'' s'' w hr' h=>?_;dsimp only[ze]at h
  (refine stC h ?_;clear h;intro w h;dsimp only[zP,ze]at h)
  refine hN (s''::[Cl b1 zO [SlV v'']]::((Z++[(vp,sp)]).map (·.2)++E)) w ⟨Z++[(vp,sp)],v'',s'',⟨by rw[List.length_append,hZ.len];rfl,λi z hi=>?_⟩,by rw[List.map_append];exact hr',rfl⟩ ?_
  ·rcases Nat.lt_or_ge i Z.length with h1 | h1
   ·rw[List.getElem?_append_left h1]at hi;exact hZ.at' i z hi
   ·rw[List.getElem?_append_right h1]at hi;have hi0:i-Z.length=0:=by
     rcases Nat.eq_zero_or_pos (i-Z.length)with h2 | h2
     ·exact h2
     ·rw[List.getElem?_eq_none (by simp;omega)]at hi;cases hi
    rw[hi0]at hi
    cases hi
    have:i=j:=by have:=hZ.len;omega
    subst this;exact hp
  ·refine h.perm ?_
   classical
   refine List.perm_iff_count.2 λa=>?_;have e0:Cl b1 zO [Value.slice v''.a v''.len v''.cap]=Cl b1 zO [SlV v'']:=rfl;rw[e0];simp only[List.flatten_cons,List.flatten_append,List.flatten_nil,List.count_append,List.count_cons,List.map_append,List.map_cons,List.map_nil,List.cons_append,List.nil_append,List.count_nil];omega
 ·clear h;rintro d A F w ⟨v2,rfl,r2⟩ ⟨Z,v',s',hZ,hr,rfl⟩ h;have h:St w0 ([DfM d]::scC c v2::sb::s'::[Cl b1 zO [SlV v']]::(Z.map (·.2)++E)) w:=h;have hzl:(Z.map (·.1)).length=n:=by rw[List.length_map,hZ.len]
  refine vw ?_
  (refine ldC h ?_)
  refine lP h (Rw.rd VZ h 3 rfl hr) (by omega) (Rw.nil_of VZ hr) λv2 s2 w hr2 h=>?_
  (first | refine OE h ?_ | refine OD h ?_ | refine OC h ?_ | refine OB h ?_ | refine OA h ?_ | refine Oz h ?_ | refine Oy h ?_ | refine Ox h ?_ | refine Ow h ?_ | refine Ov h ?_ | refine uH h ?_ | refine uG h ?_);clear h;intro w h
  refine⟨_,rfl,hk v2 s2 Z w hZ hr2 ?_⟩;have h:=jE (QJ (Kh h));refine h.perm ?_
  classical
  refine List.perm_iff_count.2 λa=>?_;simp only[List.flatten_cons,List.flatten_append,List.flatten_nil,List.count_append,List.count_cons,List.cons_append,List.nil_append,List.count_nil];omega
def rk{c:Nat}{v:Sl}{vs:List Sl}{sv:Seg}(hr:Rw eV ya 1 v vs sv)(hn:vs.length≤1000):NB Pr w0 [[Cl c zO [SlV v]],sv] (.func (.func ZB) #[] #[.pointer (some ⟨c,0,none⟩)]) vs.length λj=>TV [.one .slice] (vs[j]?.getD ⟨none,0,0⟩,()):=by
 intro yv R J Jd F w h hJ step fin fin2;refine⟨up,uq yv ⟨c,0,none⟩ ?_⟩;unfold JX;have h:St w0 ([Cl c zO [SlV v]]::sv::F) w:=h;have hl:v.len=vs.length:=Rw.len VZ hr
 (refine ldC h ?_)
 refine Zh (λq y w=>∃(j:Nat)(F:List Seg),y=((j:Int),())∧q+j=vs.length∧J j F∧St w0 ([Cl c zO [SlV v]]::sv::F) w) vs.length ⟨0,F,rfl,rfl,hJ,h⟩ ?_;clear hJ;clear h;rintro q y w ⟨j,F,rfl,hq,hJ,h⟩ again hag
 (try dsimp only)
 refine it (λhb=>?_) (λhb=>?_)<;>(try simp only[zB]at hb)
 ·have hj:j<vs.length:=by omega
  have hx:vs[j]? = some vs[j]:=List.getElem?_eq_getElem hj;have step:=step j F [] w hj hJ (by simpa using h);dsimp only at step;rw[hx]at step;generalize vs[j]=vp at hx step;refine Rw.ix VZ hr (n:=(j:Int)) (by omega) (by simpa using hj) λa4 ha=>?_;simp only[Int.toNat_natCast]at ha;refine Rw.ld0 VZ h 1 rfl hr ha (x:=vp) hx rfl rfl ?_;refine cv (Jg.mono step λu w' hu=>?_);rcases hu with ⟨rfl,F',h,hJ⟩ | ⟨rfl,hd⟩
  ·refine⟨true,rfl,itF rfl ?_⟩;refine hag (q-1) _ w' (by omega) ⟨j+1,F',?_,by omega,hJ,by simpa using h⟩;have e3:Wi ((j:Int)+1)=((j+1:Nat):Int):=by rw[wr (by omega) (by omega)];omega
   rw[e3]
  ·exact⟨false,rfl,itT rfl (fin2 w' hd)⟩
 ·have hj:j=vs.length:=by omega
  subst hj;exact fin F w hJ h
def pg{sb:Seg}{v:Sl}{l:List UInt8}(h:St w0 (sb::E) w)(r:RdV w0 [sb] v l){n:Nat}(hn:rsP n l = [])(hlt:∀j,j<n→rsP j l≠[])(hn1:n≤1000){k:FV→PT}
  (hk:∀c v' sv Z w',Bu l n Z→Rw eV ya 1 v' (Z.map (·.1)) sv→St w0 ([Cl c zO [SlV v']]::sv::(Z.map (·.2)++sb::E)) w'→k ⟨.func ZB,#[],#[.pointer (some ⟨c,0,none⟩)]⟩ w') :
  L.call Pr vb [SlV v] (.one (.one .func)) k w:=by
 refine zc (px _) ?_;unfold Ol;refine Bp h r hn hlt hn1 λv' sv Z w hZ hr h=>?_;refine zc (UC v') ?_;unfold xM;refine nw h ?_;clear h;intro c w h;exact⟨_,rfl,_,rfl,hk c v' sv Z w hZ hr h⟩
abbrev toB(b:Nat)(v:Sl):Seg:=[Cl b Fd [SlV v]]
def NN(h:St w0 E w){v:Sl}{l:List B0}(r:Rd w eS v l)(hn:l.length<1000000000)(h64:v.a=none→l = []){k:Sl→PT}
  (hk:∀v' s' w',Rw eS zd 1 v' l s'→St w0 (s'::E) w'→k v' w'):L.call Pr Zx [SlV v] (.one (.one .slice)) k w:=by
 refine zc (JG v) ?_;unfold Yu;exact xV (K:=λv w'=>∃x,v=RT.val (.one (.one .slice)) x∧k x w') Yy elS h r (by omega) (by omega) h64 λv' s' w' h1 h2 h3=>⟨v',rfl,hk v' s' w' h1 h3⟩
end Go.Proofs.YtimahgbgejngiaaGreatDoor
namespace Go.Proofs.YtimahgbgejngiaaGreatDoor
open Go.Dm
def cP{k:Nat}{F:zl}{G:Zq}(ok:G.Ok)(h:GtI k G)(rev:B0):(fY F G rev).2.2.length≤8:=by
 have h1:=(Np (F:=F) ok rev).1;have h2:=h.room;omega
def nD{k0:Nat}{a:Zc}(inv:Jt k0 a)(ok:SOk a)(hk0:k0≤9000){e:AEv}:(ZS a e).2.length≤80000:=by
 have one:∀x:B0,[x].length≤80000:=λx=>by show 1≤80000;decide
 have rf:∀n,(jp n).length≤80000:=λn=>one _;have dn:(FK a e).2.length≤80000:=by
  unfold FK;split
  ·exact rf _
  ·have h1:=(Wr inv.fl e.n).2;have h2:=(GU (l:=(UM a.fl e.n).2.1) (all:=a.gt.all) (out:=[])).1;dsimp only;rw[List.length_cons,List.length_map];unfold WH;simp only[List.length_nil]at h2;dsimp only;omega
 by_cases hb:¬Zw e=0
 ·rw[nE hb];exact one _
 have hb:Zw e=0:=Classical.not_not.1 hb;rcases dc hb with hc | hc | hc | hc | hc | hc | hc | hc | hc | hc | hc | hc | hc
 ·rw[ta hb hc];unfold uy nU;dsimp only;split<;>exact one _
 ·rw[Ll hb hc];unfold me nU;dsimp only;split<;>exact one _
 ·rw[Lk hb hc];unfold PW;repeat' split
  all_goals exact one _
 ·rw[PZ hb hc];unfold Xz;split
  ·show 2≤80000;decide
  ·exact one _
 ·rw[Lj hb hc];unfold PX;dsimp only;split
  ·exact rf _
  ·rw[List.length_map];unfold Pw;split
   ·exact Nat.zero_le _
   ·have hid:=(dw hb (by omega)).1;have hla:=inv.gt.all;have hg:GtI (k0+1) { a.gt with all:=Zl a.gt.all e.n ((Qq a.fl e.n).2.1,3) }:=inv.gt.req (by omega) (by have:=qf a.gt.all e.n ((Qq a.fl e.n).2.1,3);omega) (vu inv.gt.ids hid) λq=>ob _ _ _ _;have:=cP (F:=(Qq a.fl e.n).1) (ok.gt.req (by omega) e.n ((Qq a.fl e.n).2.1,3)) hg (Qq a.fl e.n).2.1;dsimp only at this ⊢;rw[List.length_cons];omega
 ·rw[Li hb hc];unfold wc;split
  ·exact rf _
  ·have:=cP (F:=(Mm a.fl e.n).1) ok.gt inv.gt (fOf (Mm a.fl e.n).1.l e.n);have h2:(PQ a e).2.2.length≤8:=this;have h3:(PS a e).length≤2:=by
    unfold PS;split<;>simp
   dsimp only;rw[List.length_append,List.length_map];omega
 ·rw[Dw hb (.inl hc)];exact dn
 ·rw[Dw hb (.inr hc)];exact dn
 ·rw[PY hb hc];unfold UE;split
  ·exact rf _
  ·have:=(GW ok.gt inv.gt (a.now+1)).2.2;have h2:(tkG a).2.length≤8*k0:=this;dsimp only;rw[List.length_cons,List.length_map];omega
 ·rw[mh hb hc];unfold Qk;repeat' split
  all_goals first | exact rf _ | exact one _ | (show 2≤80000;decide)
 ·rw[wd hb hc];unfold PV;repeat' split
  all_goals first | exact rf _ | exact one _ | exact Nat.zero_le _
 ·rw[mg hb hc];unfold uI;repeat' split
  all_goals first | exact rf _ | exact one _ | exact Nat.zero_le _
 ·rw[mf hb hc];unfold qZ;split
  ·exact rf _
  ·rename_i hh;have hh:YZ a.bk e.name=true:=by simpa using hh
   have hlast:=inv.fl.last;have hlen:=inv.fl.few.l;have hroom:=inv.fl.few.r;unfold xS at hroom;have hcc:qH a e.name≤1000:=Int.le_trans (xB (inv.bk.cfg _ (XH hh))).2.2.1.2 (by decide);have hgo:=(mu ok.fl (rev:=e.name) (conc:=qH a e.name) (want:=YD a e.name) (by omega) (by omega) (by omega)).2;have hgn:=Kb a.fl e.name (YD a e.name);have hm:(UL a.fl e.name (YD a e.name)).length=XG a.fl e.name (YD a e.name):=by unfold UL;rw[List.length_map,List.length_range]
   dsimp only;unfold mK;simp only[List.length_append,List.length_map,List.length_singleton,hm];omega
end Go.Proofs.YtimahgbgejngiaaGreatDoor
namespace Go.Proofs.YtimahgbgejngiaaGreatDoor
open Go.Dm
attribute [local irreducible] L.load L.store L.chk L.new L.nonnil L.guard L.ite L.draw L.idx L.sem L.semR L.semU L.chkSem L.next L.call L.callV L.join L.alts L.loop L.begin L.endRound L.range
variable {w0 w:World}{E:List Seg}
def tF(a:Zc)(l:List UInt8):Zc×List B0:=if(pEv l).2=0 then ZS a (pEv l).1 else(a,[xe++Fw (pEv l).2])
structure Bs(ks:Int→Bool)(a:Zc)(l:List UInt8):Prop where
 ks:(pEv l).2=0→ks (pEv l).1.kind=true
 sh:a.sh.n<99
def RY{l:List UInt8}(h:(pEv l).2=0):(pEv l).1=(prA l).1∧Zw (prA l).1=0:=by
 unfold pEv at h ⊢
 repeat' split at h
 all_goals first | (cases h;done) | skip
 ·rename_i h1 h2 h3 h4 h5;exact absurd h h5
 ·rename_i h1 h2 h3 h4 h5;rw[if_neg h1,if_neg h2,if_neg h3,if_neg h4,if_neg h5];exact⟨rfl,by simpa using h5⟩
def wX{k0:Nat}{a:Zc}(inv:Jt k0 a)(ok:SOk a)(hk0:k0≤9000)(l:List UInt8):(tF a l).2.length≤80000:=by
 unfold tF;split
 ·exact nD inv ok hk0
 ·show 1≤80000;decide
def Lh(a:Zc){e:AEv}{v:Sl}(h:Zw { e with v:=v } = Zw e):ZS a { e with v:=v } = ZS a e:=by
 unfold ZS;rw[h];rfl
def wY{l:List UInt8}:(pEv l).1.name.size≤255∧∀t∈(pEv l).1.r.ts,QO t.1:=by
 have h0:(Fv 0).name.size≤255∧∀t∈(Fv 0).r.ts,QO t.1:=⟨Nat.zero_le _,by simp[Fv,tK]⟩;unfold pEv
 repeat' split
 all_goals first | exact h0 | exact ca l
def lF [jF w0]{ks:Int→Bool}[Kn w0 ks]{vp vt:Sl}{st s:Seg}{bs bt:Nat}{a:Zc}{lt:List B0}{l:List UInt8}{E0:List Seg}(sub:∀w,St w0 E w→St w0 E0 w)(r:RdV w0 E0 vp l)(ok:Bs ks a l)
  (hs:Xu bs a s) (ht:Rw eS zd 1 vt lt st) {k0:Nat} (inv:Jt k0 a) (hk0:k0≤9000) (hlt:lt.length≤100000000) (h:St w0 (s::toB bt vt::st::E) w) {k:Unit→PT}
  (hk:∀vt' st' s' w',(tF a l).2.length≤80000→Rw eS zd 1 vt' (lt++(tF a l).2) st'→Xu bs (tF a l).1 s'→Jt (k0+2) (tF a l).1→St w0 (s'::toB bt vt'::st'::E) w'→k () w') :
  L.call Pr qb [pO bt,.pointer (some ⟨bs,0,none⟩),SlV vp] (.tup []) k w:=by
 refine zc (LD (some ⟨bt,0,none⟩) (some ⟨bs,0,none⟩) vp) ?_;unfold dZ;refine nw h ?_;clear h;intro b1 w h;have hsub:∀w,St w0 ([Cl b1 yf [.pointer (some ⟨bt,0,none⟩)]]::s::toB bt vt::st::E) w→St w0 E0 w:=λw h=>sub w (zy (zy (zy (zy h))));refine Rg h ⟨λw hw=>r.r w (hsub w hw),r.c,r.few⟩ λve se w hve hcv h=>?_;have hout:=wX inv hs.ok hk0 l;have hok:=RY (l:=l);have hks:=ok.ks;have hsz:=wY (l:=l);have hv2:=λhh=>Lh a (v:=ve) (e:=(pEv l).1) hh;unfold tF at hk hout;have hbs:(Fw (pEv l).2).size≤100:=DT _;generalize pEv l=t at *
 obtain⟨e,no⟩:=t;simp only at hk hout hok hbs hks hsz hve hcv hv2 ⊢;refine nw h ?_;clear h;intro b3 w h
 (refine stC h ?_;clear h;intro w h;dsimp only[zP,ze]at h)
 refine nu ?_;have hb4:(xe).size=4:=rfl;have hm64:Jl=9223372036854775807:=rfl;refine gd (by rw[hb4];omega) ?_;refine nw h ?_;clear h;intro b5 w h;refine nw h ?_;clear h;intro b6 w h
 (refine stC h ?_;clear h;intro w h;dsimp only[zP,ze]at h)
 by_cases h0:no=0
 ·subst h0;rw[if_pos rfl]at hk hout;obtain⟨he,hch⟩:=hok rfl;refine itT rfl ?_
  (refine laC h ?_)
  have hcap:=Rw.cap hve;refine At (ks:=ks) (e:={ e with v:=ve }) h 5 rfl hs (hks rfl) (by rw[hcv,he];exact hch) ⟨Rw.re GZ 3 rfl hve,hcap.1,Rw.nil_of GZ hve,hsz.2,λ_=>by have:=hsz.1;dsimp only;omega⟩ inv hk0 ok.sh λv sv s' w r hs inv h=>?_;rw[hv2 hcv]at r hs inv;dsimp only[ze]at h;have hl:=Rw.len Yy r;unfold jN
  (refine stC h ?_;clear h;intro w h;dsimp only[zP,ze]at h;refine dr h ?_;clear h;intro w h;refine ldC h ?_;refine ldC h ?_;refine nn ?_;refine ldC h ?_;refine ldC h ?_)
  refine Rw.appRd Yy elS h 8 rfl ht (Rw.rd Yy h 0 rfl r) (by omega) (by omega) λvt' st' w ht' _ _ h=>?_;dsimp only[ze]at h
  (refine ckC h ?_;refine nn ?_;refine stC h ?_;clear h;intro w h;dsimp only[zP,ze]at h)
  refine⟨(),rfl,hk vt' st' s' w hout ht' hs inv ?_⟩;have h:=zy (jE (vB (QJ (Kh (du h)))));exact h
 ·rw[if_neg h0]at hk hout;refine itF (by simpa using h0) ?_;unfold jN
  (refine dr h ?_;clear h;intro w h;refine ldC h ?_;refine ldC h ?_;refine nn ?_;refine ldC h ?_;refine ldC h ?_)
  have hr5:Rw eS zd 1 ⟨some ⟨b5,0,none⟩,1,1⟩ [xe++Fw no] [Cl b5 zd [.string (xe++Fw no)]]:=Rw.lit b5 [xe++Fw no] Yy rfl rfl (by decide);refine Rw.appRd Yy elS h 7 rfl ht (Rw.rd Yy h 1 rfl hr5) (by simp only[List.length_cons,List.length_nil];omega) (by simp only[List.length_cons,List.length_nil];omega) λvt' st' w ht' _ _ h=>?_;dsimp only[ze]at h
  (refine ckC h ?_;refine nn ?_;refine stC h ?_;clear h;intro w h;dsimp only[zP,ze]at h)
  refine⟨(),rfl,hk vt' st' s w hout ht' hs (inv.mono (by omega)) ?_⟩;have h:=zy (jE (vB (QJ (Kh h))));exact h
def mI(q:Zc×List B0)(l:List UInt8):Zc×List B0:=((tF q.1 l).1,q.2++(tF q.1 l).2)
def qs(a:Zc)(ls:List (List UInt8)):Zc×List B0:=ls.foldl mI (a,[])
def CM{a:Zc}{ls:List (List UInt8)}{j:Nat}{l:List UInt8}(h:ls[j]? = some l):qs a (ls.take (j+1))=mI (qs a (ls.take j)) l:=by
 unfold qs;rw[List.take_add_one,h,Option.toList_some,List.foldl_append];rfl
def uh:Nat→List UInt8→List (List UInt8)
 | 0,_=>[]
 | n+1,l=>hdP l::uh n (nxP l)
def gM:∀(n:Nat)(l:List UInt8),(uh n l).length=n
 | 0,_=>rfl
 | n+1,l=>by rw[uh,List.length_cons,gM n]
def wH:∀(j:Nat)(l:List UInt8),rsP j (nxP l)=nxP (rsP j l)
 | 0,_=>rfl
 | j+1,l=>by rw[rsP,rsP,wH j l]
def DJ:∀(n:Nat)(l:List UInt8)(j:Nat),j<n→(uh n l)[j]? = some (hdP (rsP j l))
 | 0,_,_,h=>by omega
 | n+1,l,0,_=>rfl
 | n+1,l,j+1,h=>by rw[uh,List.getElem?_cons_succ,DJ n (nxP l) j (by omega),wH];rfl
structure Ao(ks:Int→Bool)(a:Zc)(ls:List (List UInt8)):Prop where
 at':∀j l,ls[j]? = some l→Bs ks (qs a (ls.take j)).1 l
 few:ls.length≤1000
def dQ [jF w0]{ks:Int→Bool}[Kn w0 ks]{sb:Seg}{vs:Sl}{l:List UInt8}(h:St w0 (sb::E) w)(r:RdV w0 [sb] vs l){n:Nat}(hn:rsP n l = [])(hlt:∀j,j<n→rsP j l≠[]){room line pat:Int}(hok:Pe room line pat=true)(hrm:room≤30)
  (sc:Ao ks (jm room line pat) (uh n l)) {k:Sl×Int×Unit→PT}
  (hk:∀v sv w',Rw eS zd 1 v (qs (jm room line pat) (uh n l)).2 sv→St w0 (sv::sb::E) w'→k (v,0,()) w') :
  L.call Pr qL [I room,I line,I pat,SlV vs] (.tup [.one .slice,.one (.int .i64)]) k w:=by
 refine zc (De room line pat vs) ?_;unfold MF;have hfew:=sc.few;rw[gM]at hfew;refine ly h (λhh=>by rw[hok]at hh;cases hh) λ_ bs s w hs h=>?_;have inv0:Jt 0 (jm room line pat):=LM hok hrm;refine nw h ?_;clear h;intro b2 w h
 (refine stC h ?_;clear h;intro w h;dsimp only[zP,ze]at h)
 refine itF rfl ?_;refine nw h ?_;clear h;intro b3 w h;refine nw h ?_;clear h;intro b4 w h
 (refine stC h ?_;clear h;intro w h;dsimp only[zP,ze]at h)
 have h:=YY h;refine pg h r hn hlt hfew λc v sv Z w hZ hr h=>?_;have hzl:(Z.map (·.1)).length=n:=by rw[List.length_map,hZ.len]
 have h:St w0 ([Cl c zO [SlV v]]::sv::(Z.map (·.2)++sb::[Cl b4 yf [.pointer (some ⟨b3,0,none⟩)]]::toB b3 ⟨none,0,0⟩::[Cl b2 ZL [.pointer (some ⟨bs,0,none⟩)]]::s::E)) w:=h;have h:St w0 ([Cl c zO [SlV v]]::sv::([Cl b4 yf [.pointer (some ⟨b3,0,none⟩)]]::toB b3 ⟨none,0,0⟩::[Cl b2 ZL [.pointer (some ⟨bs,0,none⟩)]]::s::[]::(Z.map (·.2)++sb::E))) w:=by
  refine h.perm ?_
  classical
  refine List.perm_iff_count.2 λa=>?_;simp only[List.flatten_cons,List.flatten_append,List.flatten_nil,List.count_append,List.count_cons,List.cons_append,List.nil_append,List.count_nil];omega
 obtain⟨ar,har⟩:∃ar:Nat→TT [.one .slice],ar=λj=>((Z.map (·.1))[j]?.getD ⟨none,0,0⟩,()):=⟨_,rfl⟩;have hY:NB Pr w0 [[Cl c zO [SlV v]],sv] (.func (.func ZB) #[] #[.pointer (some ⟨c,0,none⟩)]) (Z.map (·.1)).length λj=>TV [.one .slice] (ar j):=by rw[har];exact rk hr (by omega)
 refine qF (es:=[.one .slice]) (arg:=ar) (A:=[[Cl c zO [SlV v]],sv]) (F:=[Cl b4 yf [.pointer (some ⟨b3,0,none⟩)]]::toB b3 ⟨none,0,0⟩::[Cl b2 ZL [.pointer (some ⟨bs,0,none⟩)]]::s::[]::(Z.map (·.2)++sb::E)) hY h
  (λm G=>∃vt st s',Rw eS zd 1 vt (qs (jm room line pat) ((uh n l).take m)).2 st∧Xu bs (qs (jm room line pat) ((uh n l).take m)).1 s'∧Jt (2*m) (qs (jm room line pat) ((uh n l).take m)).1∧(qs (jm room line pat) ((uh n l).take m)).2.length≤80000*m∧
   G = [Cl b4 yf [.pointer (some ⟨b3,0,none⟩)]]::toB b3 vt::[Cl b2 ZL [.pointer (some ⟨bs,0,none⟩)]]::s'::st::(Z.map (·.2)++sb::E)) (λ_ _=>False)
   ?_ ?_ ?_ (λd j G w hh _=>hh.elim)
 ·rw[List.take_zero];exact⟨⟨none,0,0⟩,[],s,Rw.nil,hs,inv0,Nat.le_refl 0,rfl⟩
 ·clear hs inv0;clear h;rintro m F X w l' lp d R hm ⟨vt,st,s',ht,hs,inv,hlen,rfl⟩ h hN hE;rw[hzl]at hm;have hmZ:m<Z.length:=by have:=hZ.len;omega
  have hz:Z[m]? = some Z[m]:=List.getElem?_eq_getElem hmZ;have hat:=hZ.at' m _ hz;have ez:(Z.map (·.1))[m]? = some Z[m].1:=by rw[List.getElem?_map,hz];rfl
  have ear:ar m=(Z[m].1,()):=by rw[har];dsimp only;rw[ez];rfl
  rw[ear];obtain⟨Z1,Z2,eZ,hZl⟩:∃Z1 Z2,Z=Z1++Z[m]::Z2∧Z1.length=m:=⟨Z.take m,Z.drop (m+1),by rw[List.getElem_cons_drop,List.take_append_drop],by rw[List.length_take];have:=hZ.len;omega⟩;have hpc:=DJ n l m hm;have ok:=sc.at' m _ hpc;have estep:=CM (a:=jm room line pat) hpc;generalize hzm:Z[m]=z at *
  obtain⟨vp,sp⟩:=z;dsimp only;have h:St w0 ([Rec l' lp .busy none]::[DfM d]::[Cl c zO [SlV v]]::sv::[Cl b4 yf [.pointer (some ⟨b3,0,none⟩)]]::toB b3 vt::[Cl b2 ZL [.pointer (some ⟨bs,0,none⟩)]]::s'::st::(Z.map (·.2)++sb::E++X)) w:=h
  (refine ldC h ?_;refine ldC h ?_)
  have sub:∀w,St w0 ([Rec l' lp .busy none]::[DfM d]::[Cl c zO [SlV v]]::sv::[Cl b4 yf [.pointer (some ⟨b3,0,none⟩)]]::[Cl b2 ZL [.pointer (some ⟨bs,0,none⟩)]]::(Z.map (·.2)++sb::E++X)) w→St w0 [sp] w:=by
   intro w h;refine h.sub ⟨[Rec l' lp .busy none]++([DfM d]++([Cl c zO [SlV v]]++(sv++([Cl b4 yf [.pointer (some ⟨b3,0,none⟩)]]++([Cl b2 ZL [.pointer (some ⟨bs,0,none⟩)]]++((Z1.map (·.2)).flatten++(Z2.map (·.2)).flatten++sb++E.flatten++X.flatten)))))),?_⟩
   classical
   refine List.perm_iff_count.2 λa=>?_;rw[eZ];simp only[List.flatten_cons,List.flatten_append,List.flatten_nil,List.count_append,List.count_cons,List.cons_append,List.nil_append,List.count_nil,List.map_append,List.map_cons];omega
  have h:=jB (jC (jB h));have hml:maxLen=9223372036854775807:=rfl;have hcap:=Rw.cap hat;have hfw:(hdP (rsP m l)).length<1000000:=by
   have h1:∀j,(rsP j l).length≤l.length:=by
    intro j
    induction j with
    | zero=>exact Nat.le_refl _
    | succ j ih=>
     by_cases he:rsP j l = []
     ·rw[rsP,he];exact Nat.zero_le _
     ·exact Nat.le_trans (Nat.le_of_lt (Wk he)) ih
   have h2:=h1 m;have h3:=r.few;unfold hdP;rw[List.length_take];have h4:(bdP (rsP m l)).length≤(rsP m l).length:=by
    generalize rsP m l=q;rcases q with _ | ⟨x,_ | ⟨y,t⟩⟩
    ·exact Nat.le_refl _
    ·exact Nat.le_refl _
    ·show t.length≤t.length+1+1;omega
   omega
  refine lF (ks:=ks) (E0:=[sp]) sub ⟨λw hw=>Rw.rd kb hw 0 rfl hat,hcap,hfw⟩ ok hs ht inv (by omega) (by omega) h λvt' st' s'' w hout ht' hs' inv' h=>?_;refine hN ([Cl b4 yf [.pointer (some ⟨b3,0,none⟩)]]::toB b3 vt'::[Cl b2 ZL [.pointer (some ⟨bs,0,none⟩)]]::s''::st'::(Z.map (·.2)++sb::E)) w ⟨vt',st',s'',?_,?_,?_,?_,rfl⟩ ?_
  ·rw[estep];exact ht'
  ·rw[estep];exact hs'
  ·rw[estep];exact inv'
  ·rw[estep];unfold mI;rw[List.length_append];omega
  ·have h:=jB (jB (jB (jB (jB (xc (jB (Yx (ZR h))))))));exact h
 ·clear h;rintro d F w ⟨vt,st,s',ht,hs,inv,hlen,rfl⟩ h;have h:St w0 ([DfM d]::[Cl c zO [SlV v]]::sv::[Cl b4 yf [.pointer (some ⟨b3,0,none⟩)]]::toB b3 vt::[Cl b2 ZL [.pointer (some ⟨bs,0,none⟩)]]::s'::st::(Z.map (·.2)++sb::E)) w:=h;rw[hzl,List.take_of_length_le (Nat.le_of_eq (gM n l))]at ht hlen;refine vw ?_
  (refine ldC h ?_;refine nn ?_;refine ldC h ?_)
  refine NN h (Rw.rd Yy h 7 rfl ht) (by omega) (Rw.nil_of Yy ht) λv2 s2 w hr2 h=>?_
  (first | refine OE h ?_ | refine OD h ?_ | refine OC h ?_ | refine OB h ?_ | refine OA h ?_ | refine Oz h ?_ | refine Oy h ?_ | refine Ox h ?_ | refine Ow h ?_ | refine Ov h ?_ | refine uH h ?_ | refine uG h ?_);clear h;intro w h
  refine⟨(v2,0,()),rfl,hk v2 s2 w hr2 ?_⟩;have h:=jE (vB (QJ (Kh (du (pc (Aj h))))));refine h.sub ⟨(Z.map (·.2)).flatten,?_⟩
  classical
  refine List.perm_iff_count.2 λa=>?_;simp only[List.flatten_cons,List.flatten_append,List.flatten_nil,List.count_append,List.count_cons,List.cons_append,List.nil_append,List.count_nil];omega
def dK{p0 p1:Int}(h:0<p1)(hp:p1≤2147483648){k:Int→PT}(hk:k (p0%p1) w):L.call Pr xn [I p0,I p1] (.one (.one (.int .i64))) k w:=by
 refine zc (KQ p0 p1) ?_;unfold QD;refine gd (by omega) ?_;have h1:=Int.emod_nonneg p0 (by omega:p1≠0);have h2:=Int.emod_lt_of_pos p0 h;have e:=TB p0 p1 h;refine ZA (λz w'=>z.1=p0%p1∧w'=w) (λk' hk'=>?_) (λy w' ⟨h1,h2⟩=>by subst h2;exact⟨_,rfl,by rw[h1];exact hk⟩);refine it (λhb=>?_) (λhb=>?_)<;>(try simp only[zB]at hb)
 ·refine hk' _ _ ⟨?_,rfl⟩;rw[e]at hb;dsimp only;rw[e];split at hb<;>rename_i hc
  ·omega
  ·rw[if_neg hc,wr]<;>omega
 ·refine hk' _ _ ⟨?_,rfl⟩;rw[e]at hb;dsimp only;rw[e];split at hb<;>rename_i hc
  ·rw[if_pos hc]
  ·omega
def TN(ks:Int→Bool):Zc×List B0→List (List UInt8)→Bool
 | _,[]=>true
 | q,l::ls=>(!decide ((pEv l).2=0)||ks (pEv l).1.kind)&&(decide (q.1.sh.n<99)&&TN ks (mI q l) ls)
def DB{ks:Int→Bool}:∀{ls:List (List UInt8)}{q:Zc×List B0},TN ks q ls=true→∀j l,ls[j]? = some l→Bs ks ((ls.take j).foldl mI q).1 l
 | [],q,h=>λj l hl=>by simp at hl
 | l::ls,q,h=>by
  simp only[TN,Bool.and_eq_true,decide_eq_true_eq,Bool.or_eq_true,Bool.not_eq_true',decide_eq_false_iff_not]at h;obtain⟨h1,h2,h5⟩:=h;refine λj x hx=>?_
  cases j with
  | zero=>
   simp only[List.getElem?_cons_zero,Option.some.injEq]at hx;subst hx;exact⟨λhh=>h1.resolve_left λhn=>hn hh,h2⟩
  | succ j=>
   simp only[List.getElem?_cons_succ]at hx;exact DB h5 j x hx
def tc{ks:Int→Bool}{a:Zc}{ls:List (List UInt8)}(h:TN ks (a,[]) ls=true)(hl:ls.length≤1000):Ao ks a ls:=⟨DB h,hl⟩
abbrev db(k:Int):Bool:=k == 1||k == 4||k == 9||k == 10||k == 12||k == 13
instance knPK [jF w0]:Kn w0 db:=⟨by
 intro E w h i b a s hi hs e hks hb ev k0 inv hk0 hn k hk;have hc:e.kind=1∨e.kind=4∨e.kind=9∨e.kind=10∨e.kind=12∨e.kind=13:=by simpa [db,or_assoc]using hks
 rcases hc with hc | hc | hc | hc | hc | hc
 ·exact Aw h i hi hs hb hc ev inv hk0 hn hk
 ·exact Av h i hi hs hb hc ev inv hk0 hn hk
 ·exact Au h i hi hs hb hc ev inv hk0 hn hk
 ·exact Bh h i hi hs hb hc ev inv hk0 hn hk
 ·exact Bg h i hi hs hb hc ev inv hk0 hn hk
 ·exact Bf h i hi hs hb hc ev inv hk0 hn hk⟩
def RdV.lit{b:Nat}{l:List UInt8}{cs:List Value}{n:Nat}(hc:fl eU l=cs)(hn:n=l.length)(hl:l.length<1000000):RdV w0 [[Cl b yc cs]] ⟨some ⟨b,0,none⟩,n,n⟩ l:=by
 have hm:maxLen=9223372036854775807:=rfl;subst hc;have r:Rw eU yc 1 ⟨some ⟨b,0,none⟩,n,n⟩ l [Cl b yc (fl eU l)]:=Rw.lit b l kb rfl hn (by omega);exact⟨λw hw=>Rw.rd kb hw 0 rfl r,⟨Nat.le_refl _,by dsimp only;omega⟩,hl⟩
def RV:TN db (jm 1 1 1,[]) (uh 1 [0,1,9])=true∧(qs (jm 1 1 1) (uh 1 [0,1,9])).2 = [kK]:=by decide +kernel
def aW:∀j,j<1→rsP j [0,1,9]≠[]:=λj hj=>by
 have:j=0:=by omega
 subst this;decide
def NI [jF w0]{ks:Int→Bool}[Kn w0 ks](hks:ks 9=true)(h:St w0 E w){k:Bool→PT}(hk:∀w',St w0 E w'→k true w'):L.call Pr xQ [] (.one (.one .bool)) k w:=by
 refine zc oL ?_;unfold ud;have hl9:(uh 1 [0,1,9]) = [[9]]:=by decide
 have h:St w0 ([]::E) w:=h.eq (by simp);refine dQ (ks:=ks) (n:=0) h (l:=[]) ⟨λw hw=>Rd.nil,⟨Nat.le_refl 0,Nat.zero_le _⟩,by decide⟩ rfl (λj hj=>by omega) (by decide) (by decide) (tc rfl (by decide)) λv sv w r h=>?_;have hv0:v.len=0:=Rw.len Yy r;refine nw h ?_;clear h;intro b2 w h;refine dQ (ks:=ks) (n:=1) (l:=[0,1,9]) h (RdV.lit rfl rfl (by decide)) (by decide) aW (by decide) (by decide) (tc ?_ (by decide)) λv3 sv3 w r3 h=>?_
 ·rw[hl9];have e1:(pEv [9]).1.kind=9:=by decide
  simp only[TN,e1,hks,Bool.or_true,Bool.true_and,Bool.and_true,decide_eq_true_eq];decide
 rw[RV.2]at r3;have l3:v3.len=1:=Rw.len Yy r3;refine itT (by rw[hv0];rfl) (itT rfl (itT rfl (itT (by rw[l3];rfl) ?_)));refine Rw.ix Yy r3 (n:=(0:Int)) (by decide) (by decide) λa ha=>?_;refine Rw.ld0 Yy h 0 rfl r3 ha (x:=kK) rfl rfl rfl ?_;refine⟨true,?_,hk w ?_⟩
 ·show Value.bool (kK.toList == kK.toList)=Value.bool true;rw[beq_self_eq_true]
 ·have h:=zy (jE (vB (QJ h)));exact h
def VK(l:List B0):B0:=l.foldl (λt x=>(t++x)++s__) s_
def de{l:List B0}{j:Nat}{x:B0}(h:l[j]? = some x):VK (l.take (j+1))=(VK (l.take j)++x)++s__:=by
 unfold VK;rw[List.take_add_one,h,Option.toList_some,List.foldl_append];rfl
def LC{v:Sl}{sv:Seg}{l:List B0}(h:St w0 (sv::E) w)(r:Rw eS zd 1 v l sv)(hn:l.length≤1000)(hb:∀j,j≤l.length→(VK (l.take j)).size≤1000){X:B0×Int×Unit→PT}
  (hx:∀n w',St w0 (sv::E) w'→X (VK l,n,()) w') :
  L.loop (Y:=B0×Int×Unit) (s_,0,()) (λy again=>L.ite (decide (y.2.1<((v.len:Nat):Int))) (L.idx v.a y.2.1 v.len 1 λa=>L.load (.one .str) a λ(x:B0)=>
   L.guard (((y.1.size+x.size:Nat):Int)≤Jl)<| L.guard ((((y.1++x).size+s__.size:Nat):Int)≤Jl)<| again ((y.1++x)++s__,Wi (y.2.1+1),())) (X y)) w:=by
 have hl:v.len=l.length:=Rw.len Yy r;refine Zh (λq y w=>∃j:Nat,y=(VK (l.take j),(j:Int),())∧q+j=l.length∧St w0 (sv::E) w) l.length ⟨0,rfl,rfl,h⟩ ?_;clear h;rintro q y w ⟨j,rfl,hq,h⟩ again hag
 (try dsimp only)
 have hm:Jl=9223372036854775807:=rfl;refine it (λhc=>?_) (λhc=>?_)<;>(try simp only[zB]at hc)
 ·have hj:j<l.length:=by omega
  have hx:l[j]? = some l[j]:=List.getElem?_eq_getElem hj;generalize l[j]=x at hx;have e:=de hx;have h1:=hb (j+1) (by omega);rw[e,ByteArray.size_append,ByteArray.size_append]at h1;refine Rw.ix Yy r (n:=(j:Int)) (by omega) (by rw[Int.toNat_natCast];exact hj) λa ha=>?_;rw[Int.toNat_natCast]at ha;refine Rw.ld0 Yy h 0 rfl r ha (x:=x) hx rfl rfl ?_;refine gd (by omega) (gd (by rw[ByteArray.size_append];omega) ?_);refine hag (q-1) _ w (by omega) ⟨j+1,?_,by omega,h⟩;have e3:Wi ((j:Int)+1)=((j+1:Nat):Int):=by rw[wr (by omega) (by omega)];omega
  rw[e3,e]
 ·have ej:l.take j=l:=List.take_of_length_le (by omega);rw[ej];exact hx _ w h
def pkL:List (List UInt8):=[[0,1,9,0,1,9],[0,1,99],[0,0],[0],[0,5,9],[0,5,10,3,119,101,98],[0,12,1,0,0,0,0,1,97,0,1,0,1,0,0,3,10,1,97,0,5,12,3,97,45,49],[0,5,13,3,97,45,49],[0,12,4,0,0,0,1,1,114,0,0,0,0,1]]
def pkN:List Nat:=[2,1,1,1,1,1,3,1,1]
def pkW:List B0:=[vr,UH,mz,UH,pY,Xc,jo,Xc,qr]
def pkB(l:List UInt8)(n:Nat)(t:B0):Bool:=
 decide (rsP n l = [])&&((List.range n).all (λj=>decide (rsP j l≠[]))&&(TN db (jm 3 2 5,[]) (uh n l)&&(decide (VK (qs (jm 3 2 5) (uh n l)).2=t)&&(decide ((qs (jm 3 2 5) (uh n l)).2.length≤1000) &&
  ((List.range ((qs (jm 3 2 5) (uh n l)).2.length+1)).all λj=>decide ((VK ((qs (jm 3 2 5) (uh n l)).2.take j)).size≤1000))))))
def RW:((List.range 9).all λi=>pkB (pkL.getD i []) (pkN.getD i 0) (pkW.getD i s_))=true:=by decide +kernel
def LB{b12:Nat}{i:Nat}(hi:i<9){v:Sl}{sv:Seg}{ls:List B0}{F:List Seg}(h:St w0 (sv::[Cl b12 zd (pkW.map Value.string)]::F) w)(r:Rw eS zd 1 v ls sv)(hn:ls.length≤1000)(hb:∀j,j≤ls.length→(VK (ls.take j)).size≤1000)
  (hw:VK ls=pkW.getD i s_) {x:Int} (hx:x=(i:Int)) {K:Value→PT} (hK:∀w',St w0 [] w'→K (.bool true) w') :
  L.loop (Y:=B0×Int×Unit) (s_,0,()) (λy17 again18=>
   L.ite (decide (y17.2.1<((v.len:Nat):Int))) (
    L.idx v.a y17.2.1 v.len 1 λa19=>
    L.load (.one (.str)) a19 λ(x20:B0)=>
    L.guard (((y17.1.size+x20.size:Nat):Int)≤Jl)<|
    L.guard ((((y17.1++x20).size+s__.size:Nat):Int)≤Jl)<|
    again18 ((y17.1++x20)++s__,Wi (y17.2.1+1),()))<|
   L.ite ((0:Int) == 0) (
    L.idx (some ⟨b12,0,none⟩) x 9 1 λa21=>
    L.load (.one (.str)) a21 λ(x22:B0)=>
    K (.bool (y17.1.toList == x22.toList)))<|
   K (.bool false)) w:=by
 subst hx;refine LC h r hn hb λn w h=>?_;refine itT rfl ?_;have hl:pkW.length=9:=rfl;have e:fl eS pkW=pkW.map Value.string:=rfl;have rr:Rw eS zd 1 ⟨some ⟨b12,0,none⟩,9,9⟩ pkW [Cl b12 zd (pkW.map Value.string)]:=by rw[←e];exact Rw.lit b12 pkW Yy rfl rfl (by decide)
 refine Rw.ix Yy rr (n:=(i:Int)) (by omega) (by rw[Int.toNat_natCast];omega) λa ha=>?_;rw[Int.toNat_natCast]at ha;have hx:pkW[i]? = some (pkW.getD i s_):=by rw[List.getD_eq_getElem?_getD,List.getElem?_eq_getElem (by omega)];rfl
 refine Rw.ld0 Yy h 1 rfl rr ha hx rfl rfl ?_;rw[hw,beq_self_eq_true];exact hK w h.fin
def aX{i:Nat}(hi:i<9):pkB (pkL.getD i []) (pkN.getD i 0) (pkW.getD i s_)=true:=List.all_eq_true.1 RW i (List.mem_range.2 hi)
structure PkB(l:List UInt8)(n:Nat)(t:B0):Prop where
 e:rsP n l = []
 ne:∀j,j<n→rsP j l≠[]
 sc:TN db (jm 3 2 5,[]) (uh n l)=true
 t:VK (qs (jm 3 2 5) (uh n l)).2=t
 few:(qs (jm 3 2 5) (uh n l)).2.length≤1000
 sm:∀j,j≤(qs (jm 3 2 5) (uh n l)).2.length→(VK ((qs (jm 3 2 5) (uh n l)).2.take j)).size≤1000
def RX{l:List UInt8}{n:Nat}{t:B0}(h:pkB l n t=true):PkB l n t:=by
 unfold pkB at h;simp only[Bool.and_eq_true,decide_eq_true_eq]at h;obtain⟨h1,h2,h3,h4,h5,h6⟩:=h;exact⟨h1,λj hj=>of_decide_eq_true (List.all_eq_true.1 h2 j (List.mem_range.2 hj)),h3,h4,h5,λj hj=>of_decide_eq_true (List.all_eq_true.1 h6 j (List.mem_range.2 (by omega)))⟩
def AO:∀i:Fin 9,pkN.getD i.val 0≤1000∧(pkL.getD i.val []).length<1000000:=by decide
def Cc [jF w0](x0:Int):Calls Pr XD #[I x0] w0 λe w'=>e = .returned (.bool true)∧St w0 [] w':=by
 refine bu (args:=[I x0]) (vZ x0) ?_;unfold XR;have h:=St.init w0;refine NI (ks:=db) rfl h λw h=>itF rfl ?_;refine nw h ?_;clear h;intro b2 w h;refine nw h ?_;clear h;intro b3 w h;refine nw h ?_;clear h;intro b4 w h;refine nw h ?_;clear h;intro b5 w h;refine nw h ?_;clear h;intro b6 w h;refine nw h ?_;clear h;intro b7 w h;refine nw h ?_;clear h;intro b8 w h;refine nw h ?_;clear h;intro b9 w h;refine nw h ?_;clear h;intro b10 w h;refine nw h ?_;clear h;intro b11 w h;refine nw h ?_;clear h;intro b12 w h;have h:St w0 ([Cl b12 zd (pkW.map Value.string)]::[Cl b11 ya (fl eV [⟨some ⟨b2,0,none⟩,6,6⟩,⟨some ⟨b3,0,none⟩,3,3⟩,⟨some ⟨b4,0,none⟩,2,2⟩,⟨some ⟨b5,0,none⟩,1,1⟩,⟨some ⟨b6,0,none⟩,3,3⟩,⟨some ⟨b7,0,none⟩,7,7⟩,⟨some ⟨b8,0,none⟩,26,26⟩,⟨some ⟨b9,0,none⟩,7,7⟩,⟨some ⟨b10,0,none⟩,14,14⟩])]::[Cl b10 yc [.int .u8 0,.int .u8 12,.int .u8 4,.int .u8 0,.int .u8 0,.int .u8 0,.int .u8 1,.int .u8 1,.int .u8 114,.int .u8 0,.int .u8 0,.int .u8 0,.int .u8 0,.int .u8 1]]::[Cl b9 yc [.int .u8 0,.int .u8 5,.int .u8 13,.int .u8 3,.int .u8 97,.int .u8 45,.int .u8 49]]::[Cl b8 yc [.int .u8 0,.int .u8 12,.int .u8 1,.int .u8 0,.int .u8 0,.int .u8 0,.int .u8 0,.int .u8 1,.int .u8 97,.int .u8 0,.int .u8 1,.int .u8 0,.int .u8 1,.int .u8 0,.int .u8 0,.int .u8 3,.int .u8 10,.int .u8 1,.int .u8 97,.int .u8 0,.int .u8 5,.int .u8 12,.int .u8 3,.int .u8 97,.int .u8 45,.int .u8 49]]::[Cl b7 yc [.int .u8 0,.int .u8 5,.int .u8 10,.int .u8 3,.int .u8 119,.int .u8 101,.int .u8 98]]::[Cl b6 yc [.int .u8 0,.int .u8 5,.int .u8 9]]::[Cl b5 yc [.int .u8 0]]::[Cl b4 yc [.int .u8 0,.int .u8 0]]::[Cl b3 yc [.int .u8 0,.int .u8 1,.int .u8 99]]::[Cl b2 yc [.int .u8 0,.int .u8 1,.int .u8 9,.int .u8 0,.int .u8 1,.int .u8 9]]::[]) w:=h;refine dK (by decide) (by decide) ?_;obtain⟨i,hi⟩:∃i:Nat,x0%9=(i:Int):=⟨(x0%9).toNat,by omega⟩;have hi9:i<9:=by omega
 have rr:Rw eV ya 1 ⟨some ⟨b11,0,none⟩,9,9⟩ [⟨some ⟨b2,0,none⟩,6,6⟩,⟨some ⟨b3,0,none⟩,3,3⟩,⟨some ⟨b4,0,none⟩,2,2⟩,⟨some ⟨b5,0,none⟩,1,1⟩,⟨some ⟨b6,0,none⟩,3,3⟩,⟨some ⟨b7,0,none⟩,7,7⟩,⟨some ⟨b8,0,none⟩,26,26⟩,⟨some ⟨b9,0,none⟩,7,7⟩,⟨some ⟨b10,0,none⟩,14,14⟩] [Cl b11 ya (fl eV [⟨some ⟨b2,0,none⟩,6,6⟩,⟨some ⟨b3,0,none⟩,3,3⟩,⟨some ⟨b4,0,none⟩,2,2⟩,⟨some ⟨b5,0,none⟩,1,1⟩,⟨some ⟨b6,0,none⟩,3,3⟩,⟨some ⟨b7,0,none⟩,7,7⟩,⟨some ⟨b8,0,none⟩,26,26⟩,⟨some ⟨b9,0,none⟩,7,7⟩,⟨some ⟨b10,0,none⟩,14,14⟩])]:=Rw.lit b11 _ VZ rfl rfl (by decide)
 have key:∀{x:Sl}{s:Seg}{F:List Seg}{w:World},St w0 (s::[Cl b12 zd (pkW.map Value.string)]::F) w→RdV w0 [s] x (pkL.getD i [])→
   L.call Pr qL [.int .i64 3,.int .i64 2,.int .i64 5,.slice x.a x.len x.cap] (.tup [(.one (.slice)),(.one (.int .i64))]) (λ(x16:Sl×Int×Unit)=>
    L.loop (Y:=B0×Int×Unit) (s_,0,()) λy17 again18=>
    L.ite (decide (y17.2.1<((x16.1.len:Nat):Int))) (
     L.idx x16.1.a y17.2.1 x16.1.len 1 λa19=>
     L.load (.one (.str)) a19 λ(x20:B0)=>
     L.guard (((y17.1.size+x20.size:Nat):Int)≤Jl)<|
     L.guard ((((y17.1++x20).size+s__.size:Nat):Int)≤Jl)<|
     again18 ((y17.1++x20)++s__,Wi (y17.2.1+1),()))<|
    L.ite (x16.2.1 == 0) (
     L.idx (some ⟨b12,0,none⟩) (x0%9) 9 1 λa21=>
     L.load (.one (.str)) a21 λ(x22:B0)=>
     (λ(v:Value) w'=>v = .bool true∧St w0 [] w') (.bool (y17.1.toList == x22.toList)))<|
    (λ(v:Value) w'=>v = .bool true∧St w0 [] w') (.bool false)) w:=by
  intro x s F w h r;have B:=RX (aX hi9);have hn:=(AO ⟨i,hi9⟩).1;dsimp only at hn;refine dQ (ks:=db) h r B.e B.ne (by decide) (by decide) (tc B.sc (by rw[gM];exact hn)) λv sv w r h=>?_;have h:=Yx (ZR h);exact LB (K:=λv w'=>v=Value.bool true∧St w0 [] w') hi9 h r B.few B.sm B.t hi λw h=>⟨rfl,h⟩
 have hi':x0%((9:Nat):Int)=(i:Int):=hi;rw[hi'];refine Rw.ix VZ rr (n:=(i:Int)) (by omega) (by rw[Int.toNat_natCast];exact hi9) λa ha=>?_;rw[Int.toNat_natCast]at ha;have hc:i=0∨i=1∨i=2∨i=3∨i=4∨i=5∨i=6∨i=7∨i=8:=by omega
 rw[hi]at key;rcases hc with rfl | rfl | rfl | rfl | rfl | rfl | rfl | rfl | rfl
 ·refine Rw.ld0 VZ h 1 rfl rr ha (x:=⟨some ⟨b2,0,none⟩,6,6⟩) rfl rfl rfl ?_;have h:=Uc h;exact key h (RdV.lit rfl rfl (by decide))
 ·refine Rw.ld0 VZ h 1 rfl rr ha (x:=⟨some ⟨b3,0,none⟩,3,3⟩) rfl rfl rfl ?_;have h:=UA h;exact key h (RdV.lit rfl rfl (by decide))
 ·refine Rw.ld0 VZ h 1 rfl rr ha (x:=⟨some ⟨b4,0,none⟩,2,2⟩) rfl rfl rfl ?_;have h:=jB h;exact key h (RdV.lit rfl rfl (by decide))
 ·refine Rw.ld0 VZ h 1 rfl rr ha (x:=⟨some ⟨b5,0,none⟩,1,1⟩) rfl rfl rfl ?_;have h:=xH h;exact key h (RdV.lit rfl rfl (by decide))
 ·refine Rw.ld0 VZ h 1 rfl rr ha (x:=⟨some ⟨b6,0,none⟩,3,3⟩) rfl rfl rfl ?_;have h:=jC h;exact key h (RdV.lit rfl rfl (by decide))
 ·refine Rw.ld0 VZ h 1 rfl rr ha (x:=⟨some ⟨b7,0,none⟩,7,7⟩) rfl rfl rfl ?_;have h:=vf h;exact key h (RdV.lit rfl rfl (by decide))
 ·refine Rw.ld0 VZ h 1 rfl rr ha (x:=⟨some ⟨b8,0,none⟩,26,26⟩) rfl rfl rfl ?_;have h:=YY h;exact key h (RdV.lit rfl rfl (by decide))
 ·refine Rw.ld0 VZ h 1 rfl rr ha (x:=⟨some ⟨b9,0,none⟩,7,7⟩) rfl rfl rfl ?_;have h:=xc h;exact key h (RdV.lit rfl rfl (by decide))
 ·refine Rw.ld0 VZ h 1 rfl rr ha (x:=⟨some ⟨b10,0,none⟩,14,14⟩) rfl rfl rfl ?_;have h:=ZR h;exact key h (RdV.lit rfl rfl (by decide))
end Go.Proofs.YtimahgbgejngiaaGreatDoor
