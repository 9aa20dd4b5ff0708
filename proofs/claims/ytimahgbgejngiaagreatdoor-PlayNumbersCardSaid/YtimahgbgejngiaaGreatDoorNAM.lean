/- What is proved on the way to a statement of the seat, pressed (text AM). No conditions beyond those its theorems state. -/
import Derived.Test.YtimahgbgejngiaaGreatDoorNAL
import Derived.LaidSub
import Derived.LaidMore
import Derived.MakeChecks
set_option linter.all false
namespace Go.Dm
open Go.ChangeShapes Go.WideShapes Go.RowKit
inductive Sh where
 | nil
 | lf (l:Lf) (r:Sh)
 | sl (e:Sh) (r:Sh)
@[reducible] def Sh.T:Sh→Type
 | .nil=>Unit
 | .lf l r=>l.T×r.T
 | .sl e r=>(Sl×List e.T)×r.T
def Sh.len:Sh→Nat
 | .nil=>0
 | .lf _ r=>r.len+1
 | .sl _ r=>r.len+1
def Sh.cells:(s:Sh)→s.T→List Value
 | .nil,_=>[]
 | .lf l r,x=>l.val x.1::r.cells x.2
 | .sl _ r,x=>.slice x.1.1.a x.1.1.len x.1.1.cap::r.cells x.2
def z2Q:(l:Lf)→l.T→Prop
 | .int k,n=>(Lit.int k n).wf=true
 | .str,s=>s.size≤maxLen
 | _,_=>True
def Sh.deep(w:World):(s:Sh)→s.T→Prop
 | .nil,_=>True
 | .lf l r,x=>z2Q l x.1∧r.deep w x.2
 | .sl e r,x=>(Old w e.cells x.1.1 x.1.2∧x.1.1.len≤x.1.1.cap∧x.1.1.cap≤maxLen∧(x.1.1.a=none→x.1.1.cap=0)∧∀y∈x.1.2,e.deep w y)∧r.deep w x.2
def Sh.cells_len:∀(s:Sh)(x:s.T),(s.cells x).length=s.len
 | .nil,_=>rfl
 | .lf _ r,x=>by simp[Sh.cells,Sh.len,Sh.cells_len r]
 | .sl _ r,x=>by simp[Sh.cells,Sh.len,Sh.cells_len r]
def IM:∀(l:Lf)(x:l.T),cX (l.val x)=true
 | .int _,_ | .bool,_ | .str,_ | .ptr,_ | .slice,_ | .map,_ | .func,_ | .adr,_=>rfl
 | .iface,none=>rfl
 | .iface,some _=>rfl
def Sh.cells_one:∀(s:Sh)(x:s.T),vb (s.cells x)=true
 | .nil,_=>rfl
 | .lf l r,x=>by simp[Sh.cells,vb,Sh.cells_one r,IM]
 | .sl _ r,x=>by simp[Sh.cells,vb,Sh.cells_one r,cX]
def Sh.enc(s:Sh)(h:0<s.len):Enc s.cells s.len:=⟨s.cells_len,s.cells_one,h⟩
def tR(P:Program):List Field→Nat→Option Nat
 | [],n=>some n
 | f::fs,n=>cond (Nat.beq f.offset n) (tR P fs (n+P.cellsOf f.type)) none
def XZ(P:Program):Nat→List TypeId→Option Sh
 | 0,_=>none
 | _+1,[]=>some .nil
 | n+1,t::ts=>match P.underlying t with
  | some (.int k)=>(XZ P n ts).map (.lf (.int k))
  | some .bool=>(XZ P n ts).map (.lf .bool)
  | some .string=>(XZ P n ts).map (.lf .str)
  | some (.slice e)=>match XZ P n [e],XZ P n ts with
   | some a,some b=>cond (Nat.beq a.len (P.cellsOf e)) (cond (Nat.beq a.len 0) none (some (.sl a b))) none
   | _,_=>none
  | some (.struct fs)=>match tR P fs.toList 0 with
   | some m=>cond (Nat.beq m (P.cellsOf t)) (XZ P n (fs.toList.map (·.type)++ts)) none
   | none=>none
  | _=>none
section
variable {H:Type}{enc:TypeId×Value→H}{P:Program}{w:World}
def lW{α β:Type}{f:α→Option β}:∀{l:List α}{r:List β},l.mapM f=some r→r.length=l.length∧∀(i:Nat) x,l[i]? = some x→∃y,r[i]? = some y∧f x=some y
 | [],r,h=>by simp at h;subst h;exact⟨rfl,λi x h=>by simp at h⟩
 | a::l,r,h=>by
  rw[List.mapM_cons]at h
  cases ha:f a with
  | none=>rw[ha]at h;cases h
  | some b=>
   rw[ha]at h
   cases hl:l.mapM f with
   | none=>rw[hl]at h;cases h
   | some r'=>
    rw[hl]at h
    cases h
    obtain⟨h1,h2⟩:=lW hl;refine⟨by simp[h1],λi x hx=>?_⟩
    cases i with
    | zero=>simp at hx;subst hx;exact⟨b,rfl,ha⟩
    | succ i=>simpa using h2 i x (by simpa using hx)
abbrev Tr1(enc:TypeId×Value→H)(P:Program)(w:World)(t:TypeId)(c:List Value):Prop:=∃fuel x,DataW.trod enc P w 0 (λ_=>true) true fuel t c=some x
inductive Trs(enc:TypeId×Value→H)(P:Program)(w:World):List TypeId→List (List Value)→Prop
 | nil:Trs enc P w [] []
 | cons {t c ts cs}:Tr1 enc P w t c→Trs enc P w ts cs→Trs enc P w (t::ts) (c::cs)
def Trs.app{ts cs us ds}(h:Trs enc P w ts cs)(g:Trs enc P w us ds):Trs enc P w (ts++us) (cs++ds):=by
 induction h with
 | nil=>exact g
 | cons h1 _ ih=>exact .cons h1 ih
def dH(P:Program)(cs:List Value):∀(fs:List Field)(n m:Nat),tR P fs n=some m→m≤cs.length→(fs.map λf=>(cs.drop f.offset).take (P.cellsOf f.type)).flatten=(cs.drop n).take (m-n)∧n≤m
 | [],n,m,h,_=>by simp[tR]at h;subst h;simp
 | f::fs,n,m,h,hm=>by
  simp only[tR]at h
  cases hb:Nat.beq f.offset n with
  | false=>rw[hb]at h;cases h
  | true=>
   rw[hb]at h;have e:=Nat.eq_of_beq_eq_true hb;obtain⟨h1,h2⟩:=dH P cs fs _ m h hm;refine⟨?_,by omega⟩;simp only[List.map_cons,List.flatten_cons];rw[h1,e];have:m-n=P.cellsOf f.type+(m-(n+P.cellsOf f.type)):=by omega
   rw[this,List.take_add,List.drop_drop]
def gz:∀(n:Nat)(ts:List TypeId)(sh:Sh)(parts:List (List Value)),XZ P n ts=some sh→Trs enc P w ts parts→∃x:sh.T,parts.flatten=sh.cells x∧sh.deep w x
 | 0,_,_,_,h,_=>by cases h
 | n+1,[],sh,parts,h,ht=>by
  cases ht
  cases h
  exact⟨(),rfl,trivial⟩
 | n+1,t::ts,sh,parts,h,ht=>by
  cases ht with
  | @cons _ c _ cs h1 h2=>
  obtain⟨fuel,x,hx⟩:=h1
  cases fuel with
  | zero=>cases hx
  | succ fuel=>
  simp only[XZ]at h;unfold DataW.trod at hx
  cases hu:P.underlying t with
  | none=>rw[hu]at h;cases h
  | some d=>
   rw[hu]at h hx
   cases d with
   | int k=>
    simp only at h
    cases hr:XZ P n ts with
    | none=>rw[hr]at h;cases h
    | some r=>
     rw[hr]at h;cases h;obtain⟨y,e1,e2⟩:=gz n ts r cs hr h2;split at hx<;>try (cases hx;done)
     all_goals (try (rename_i heq;cases heq;done))
     rename_i heq;cases heq;split at hx<;>try (cases hx;done)
     rename_i hk;obtain⟨rfl,hw⟩:=hk;refine⟨(_,y),?_,hw,e2⟩;simp only[List.flatten_cons,e1];rfl
   | bool=>
    simp only at h
    cases hr:XZ P n ts with
    | none=>rw[hr]at h;cases h
    | some r=>
     rw[hr]at h;cases h;obtain⟨y,e1,e2⟩:=gz n ts r cs hr h2;split at hx<;>try (cases hx;done)
     all_goals (try (rename_i heq;cases heq;done))
     rename_i b heq;cases heq;refine⟨(b,y),?_,⟨trivial,e2⟩⟩;simp only[List.flatten_cons,e1];rfl
   | string=>
    simp only at h
    cases hr:XZ P n ts with
    | none=>rw[hr]at h;cases h
    | some r=>
     rw[hr]at h;cases h;obtain⟨y,e1,e2⟩:=gz n ts r cs hr h2;split at hx<;>try (cases hx;done)
     all_goals (try (rename_i heq;cases heq;done))
     rename_i heq;cases heq;split at hx<;>try (cases hx;done)
     rename_i hk;refine⟨(_,y),?_,hk,e2⟩;simp only[List.flatten_cons,e1];rfl
   | slice e=>
    simp only at h
    cases he:XZ P n [e] with
    | none=>rw[he]at h;cases h
    | some a=>
     cases hr:XZ P n ts with
     | none=>rw[he,hr]at h;cases h
     | some r=>
      rw[he,hr]at h;simp only at h
      cases hb:Nat.beq a.len (P.cellsOf e) with
      | false=>rw[hb]at h;cases h
      | true=>
      cases hb0:Nat.beq a.len 0 with
      | true=>rw[hb,hb0]at h;cases h
      | false=>
      rw[hb,hb0]at h;cases h;have hlen:=Nat.eq_of_beq_eq_true hb;have hpos:0<a.len:=by
       rcases Nat.eq_zero_or_pos a.len with h | h
       ·rw[h]at hb0;cases hb0
       ·exact h
      obtain⟨y,e1,e2⟩:=gz n ts r cs hr h2;split at hx<;>try (cases hx;done)
      all_goals (try (rename_i heq;cases heq;done))
      ·rename_i hh;cases hh;refine⟨((⟨none,0,0⟩,[]),y),?_,⟨⟨⟨rfl,λj u hj=>by simp[fl,nth]at hj⟩⟩,Nat.le_refl _,by simp[maxLen],λ_=>rfl,by simp⟩,e2⟩;simp only[List.flatten_cons,e1];rfl
      ·rename_i a0 len cap hh;cases hh;dsimp only at hx;split at hx<;>try (cases hx;done)
       rename_i hc
       cases hm:(List.range len).mapM (λi=>(w.cells? 0 (a0.add (i*P.cellsOf e)) (P.cellsOf e)).bind (DataW.trod enc P w 0 (λ_=>true) true fuel e)) with
       | none=>rw[hm]at hx;cases hx
       | some els=>
        obtain⟨hl1,hl2⟩:=lW hm;have each:∀i,i<len→∃z:a.T,a.deep w z∧w.cells? 0 (a0.add (i*P.cellsOf e)) (P.cellsOf e)=some (a.cells z):=by
         intro i hi;obtain⟨q,-,hq⟩:=hl2 i i (by simp[hi])
         cases hcc:w.cells? 0 (a0.add (i*P.cellsOf e)) (P.cellsOf e) with
         | none=>rw[hcc]at hq;cases hq
         | some ci=>
          rw[hcc]at hq;obtain⟨z,ez,dz⟩:=gz n [e] a [ci] he (.cons ⟨fuel,q,hq⟩ .nil);simp only[List.flatten_cons,List.flatten_nil,List.append_nil]at ez;exact⟨z,dz,by rw[ez]⟩
        have all:∀m,m≤len→∃zs:List a.T,zs.length=m∧∀i z,zs[i]? = some z→a.deep w z∧w.cells? 0 (a0.add (i*P.cellsOf e)) (P.cellsOf e)=some (a.cells z):=by
         intro m
         induction m with
         | zero=>intro _;exact⟨[],rfl,λi z h=>by simp at h⟩
         | succ m ih=>
          intro hm;obtain⟨zs,hz1,hz2⟩:=ih (by omega);obtain⟨z,d1,d2⟩:=each m (by omega);refine⟨zs++[z],by simp[hz1],λi u hu=>?_⟩;rcases Nat.lt_or_ge i zs.length with h | h
          ·rw[List.getElem?_append_left h]at hu;exact hz2 i u hu
          ·rw[List.getElem?_append_right h]at hu;have:i-zs.length=0:=by
            rcases Nat.eq_zero_or_pos (i-zs.length)with h | h
            ·exact h
            ·rw[List.getElem?_eq_none (by simp;omega)]at hu;cases hu
           rw[this]at hu;simp at hu;subst hu;have:i=m:=by omega
           subst this;exact⟨d1,d2⟩
        obtain⟨zs,hz1,hz2⟩:=all len (Nat.le_refl _);refine⟨((⟨some a0,len,cap⟩,zs),y),?_,⟨⟨⟨hz1.symm,λj u hj=>⟨a0,rfl,?_⟩⟩⟩,hc.2.1,hc.2.2,(λh=>by cases h),λz hz=>?_⟩,e2⟩
        ·simp only[List.flatten_cons,e1];rfl
        ·have hE:=a.enc hpos;have hjl:=tS hj;rw[qB hE]at hjl;have hi:j/a.len<zs.length:=Nat.div_lt_of_lt_mul (by rw[Nat.mul_comm];exact hjl);have hz:=List.getElem?_eq_getElem hi;have e0:j=j/a.len*a.len+j%a.len:=by rw[Nat.mul_comm];exact(Nat.div_add_mod j a.len).symm
         have hm:=Nat.mod_lt j hpos;obtain⟨-,hcz⟩:=hz2 _ _ hz;obtain⟨-,hl3,hl4⟩:=World.cells?_some hcz;have hlx:j%a.len<(a.cells zs[j/a.len]).length:=by rw[a.cells_len];exact hm
         have h2:=Kh hE (l:=zs) (i:=j/a.len) (f:=j%a.len) (u:=(a.cells zs[j/a.len])[j%a.len]) hz (by rw[zN];exact List.getElem?_eq_getElem hlx);rw[←e0,hj]at h2;have h5:=hl4 (j%a.len) (by rw[←hlen];exact hm);rw[Je,←hlen,←e0,List.getElem?_eq_getElem hlx]at h5;rw[h5,h2]
        ·obtain⟨i,hi,rfl⟩:=List.getElem_of_mem hz;exact(hz2 i _ (List.getElem?_eq_getElem hi)).1
   | struct fs=>
    simp only at h
    cases ho:tR P fs.toList 0 with
    | none=>rw[ho]at h;cases h
    | some m=>
     rw[ho]at h;simp only at h
     cases hb:Nat.beq m (P.cellsOf t) with
     | false=>rw[hb]at h;cases h
     | true=>
     rw[hb]at h;have hm:=Nat.eq_of_beq_eq_true hb;simp only at hx;split at hx<;>try (cases hx;done)
     rename_i hcl
     cases hq:fs.toList.mapM (λf=>DataW.trod enc P w 0 (λ_=>true) true fuel f.type ((c.drop f.offset).take (P.cellsOf f.type))) with
     | none=>rw[hq]at hx;cases hx
     | some qs=>
      have key:∀(fl:List Field) qs,fl.mapM (λf=>DataW.trod enc P w 0 (λ_=>true) true fuel f.type ((c.drop f.offset).take (P.cellsOf f.type)))=some qs→Trs enc P w (fl.map (·.type)) (fl.map λf=>(c.drop f.offset).take (P.cellsOf f.type)):=by
       intro fl
       induction fl with
       | nil=>intro _ _;exact .nil
       | cons f fl ih=>
        intro qs hq;rw[List.mapM_cons]at hq
        cases ha:DataW.trod enc P w 0 (λ_=>true) true fuel f.type ((c.drop f.offset).take (P.cellsOf f.type)) with
        | none=>rw[ha]at hq;cases hq
        | some b=>
         rw[ha]at hq
         cases hl:fl.mapM (λf=>DataW.trod enc P w 0 (λ_=>true) true fuel f.type ((c.drop f.offset).take (P.cellsOf f.type))) with
         | none=>rw[hl]at hq;cases hq
         | some r=>exact .cons ⟨fuel,b,ha⟩ (ih r hl)
      obtain⟨y,e1,e2⟩:=gz n _ sh _ h ((key _ _ hq).app h2);refine⟨y,?_,e2⟩;rw[←e1];obtain⟨h3,-⟩:=dH P c fs.toList 0 m ho (by omega);simp only[List.flatten_cons,List.flatten_append];rw[h3]
      congr 1
      simp[hm,←hcl]
   | _=>cases h
end
end Go.Dm
namespace Go.Dm
open Go.ChangeShapes Go.WideShapes Go.RowKit
section
variable {H:Type}{enc:TypeId×Value→H}{P:Program}{W:World}
def RP{t e:TypeId}{r:Reach}{b0 n:Nat}{v:Value}{d:DataW H}{ps:List MemPlace}{a:Sh}(ht:P.underlying t=some (.slice e))(hsh:XZ P n [t]=some (.sl a .nil))
  (hval:Value.okWide P W r b0 t v) (hd:DataW.Trod enc P W 0 (λ_=>true) true t v d ps) :
  ∃(s:Sl)(xs:List a.T),v = .slice s.a s.len s.cap∧Old W a.cells s xs∧(s.len≤s.cap∧s.cap≤maxLen)∧∀y∈xs,a.deep W y:=by
 obtain⟨a0,len,cap,rfl⟩:=okWide_slice ht hval;obtain⟨fuel,hf⟩:=hd;obtain⟨x,h1,h2⟩:=gz (H:=H) (enc:=enc) n [t] _ [_] hsh (.cons ⟨fuel,_,hf⟩ .nil);obtain⟨⟨s,xs⟩,⟨⟩⟩:=x;simp only[List.flatten_cons,List.flatten_nil,List.append_nil,Value.cells,Sh.cells]at h1;simp at h1;obtain⟨rfl,rfl,rfl⟩:=h1;exact⟨s,xs,rfl,h2.1.1,⟨h2.1.2.1,h2.1.2.2.1⟩,h2.1.2.2.2.2⟩
end
end Go.Dm

namespace Go.Dm
def z1Q(P:Program)(name:String)(k:IntKind):Bool:=match P.globalNamed name with
 | none=>false
 | some g=>match (P.globals[g]?).map (·.type) with
  | none=>false
  | some t=>match P.underlying t with
   | some (.array n e)=>(match P.underlying e with
    | some (.int k')=>decide (k'=k)
    | _=>false)&&(P.cellsOf e == 1)&&(P.cellsOf t == n)
   | _=>false
def Iq{P:Program}{W:World}{name:String}{k:IntKind}{zs:List Int}(hb:z1Q P name k=true){l:List (String×DataW Unit)}(hp:(l.all λx=>x.2.handleName?.isNone)=true)
  (hf:(l.filter λx=>x.1 == name) = [(name,Lib.tabData k zs)]) (h:laidMetH P l W):Lib.TabIs P W name k zs:=by
 rw[MakeChecks.laidMetH_plain P l W hp]at h;have h2:=h.filter λx=>x.1 == name;rw[hf]at h2;unfold z1Q at hb;split at hb
 ·cases hb
 ·rename_i g hg;split at hb
  ·cases hb
  ·rename_i t ht;split at hb
   ·rename_i n e he;simp only[Bool.and_eq_true,beq_iff_eq]at hb;obtain⟨⟨hb,hce⟩,hct⟩:=hb;split at hb
    ·rename_i k' hk;have hb:k'=k:=by simpa using hb
     subst hb;exact Lib.tabIs_of_head hg ht he hk hce hct h2
    ·cases hb
   ·cases hb
def EJ{H:Type}{enc:TypeId×Value→H}{P:Program}{w:World}{base:Nat}{sp:Nat→Bool}{held:Bool}{fuel:Nat}{t:TypeId}{ms}{cs:List Value}{x:DataW H×List MemPlace}(ht:P.underlying t=some (.interface ms))
  (h:DataW.trod enc P w base sp held fuel t cs=some x):cs = [.nilIface]∨∃u v,cs = [.iface u v]:=by
 cases fuel with
 | zero=>simp[DataW.trod]at h
 | succ fuel=>
  rcases cs with _ | ⟨c,_ | ⟨c2,cs⟩⟩
  ·simp[DataW.trod,ht]at h
  ·cases c<;>first | exact .inl rfl | exact .inr ⟨_,_,rfl⟩ | simp[DataW.trod,ht]at h
  ·simp[DataW.trod,ht]at h
def ifB(P:Program)(name:String)(g:Nat):Bool:=(P.globalNamed name == some g)&&match (P.globals[g]?).map (·.type) with
 | none=>false
 | some t=>match P.underlying t with
  | some (.interface _)=>true
  | _=>false
def AM{P:Program}{W:World}{name:String}{g:Nat}(hb:ifB P name g=true){l:List (String×DataW Unit)}(hp:(l.all λx=>x.2.handleName?.isNone)=true)
  (hf:(l.filter λx=>x.1 == name).map (·.1) = [name]) (h:laidMetH P l W):∃ev,W.cell? ⟨g,0,none⟩=some ev∧(ev = .nilIface∨∃te pe,ev = .iface te pe):=by
 rw[MakeChecks.laidMetH_plain P l W hp]at h;have h2:=h.filter λx=>x.1 == name;obtain⟨d,hf⟩:∃d,(l.filter λx=>x.1 == name) = [(name,d)]:=by
  generalize (l.filter λx=>x.1 == name)=m at hf;obtain _ | ⟨⟨n,d⟩,_ | ⟨q,m⟩⟩:=m
  ·cases hf
  ·simp only[List.map_cons,List.map_nil,List.cons.injEq,and_true]at hf;exact⟨d,by rw[hf]⟩
  ·simp at hf
 rw[hf]at h2;obtain⟨ps,⟨g',t',cs,fuel,p,q,hg',ht',hvar,hd,_,_⟩,_⟩:=h2;unfold ifB at hb;simp only[Bool.and_eq_true,beq_iff_eq]at hb;obtain⟨hg,hb⟩:=hb;obtain rfl:=Option.some.inj (hg.symm.trans hg');rw[ht']at hb;simp only at hb;split at hb
 ·rename_i ms hu;have hc:=World.var?_cell hg hvar 0;rw[←Array.getElem?_toList]at hc;rcases EJ hu hd with e | ⟨u,v,e⟩
  ·rw[e]at hc;exact⟨_,hc,.inl rfl⟩
  ·rw[e]at hc;exact⟨_,hc,.inr ⟨_,_,rfl⟩⟩
 ·cases hb
end Go.Dm
namespace Go.Proofs.YtimahgbgejngiaaGreatDoor
open Go.Dm
attribute [local irreducible] L.load L.store L.chk L.new L.nonnil L.guard L.ite L.draw L.idx L.sem L.semR L.semU L.chkSem L.next L.call L.callV L.join L.alts L.loop L.begin L.endRound L.range
variable {w0 w:World}{E:List Seg}
def elU:El Pr yO Uw 1 1 (.int .u8 0):=Gj (by kernel_rfl) (by kernel_rfl) rfl (by decide)
abbrev scC(c:Nat)(v:Sl):Seg:=[Cl c yO [SlV v]]
def Ey(h:St w0 E w){v:Sl}{l:List UInt8}(r:Rd w eU v l)(hn:l.length<1000000000)(h64:v.a=none→l = []){k:Sl→PT}
  (hk:∀v' s' w',Rw eU Uw 1 v' l s'→St w0 (s'::E) w'→k v' w'):L.call Pr Jv [SlV v] (.one (.one .slice)) k w:=by
 refine za (KL v) ?_;unfold qM;exact qD (K:=λv w'=>∃x,v=RT.val (.one (.one .slice)) x∧k x w') Gy elU h r (by omega) (by omega) h64 λv' s' w' h1 h2 h3=>⟨v',rfl,hk v' s' w' h1 h3⟩
def eV(v:Sl):List Value:=[SlV v]
def RI:Enc eV 1:=⟨λ_=>rfl,λ_=>rfl,by decide⟩
def elV:El Pr Zg yO 1 24 (.slice none 0 0):=Gj (by kernel_rfl) (by kernel_rfl) rfl (by decide)
def Eb(h:St w0 E w){v:Sl}{k:FV→PT}(hk:∀c w',St w0 (scC c v::E) w'→k ⟨.func xS,#[],#[.pointer (some ⟨c,0,none⟩)]⟩ w'):L.call Pr kX [SlV v] (.one (.one .func)) k w:=by
 refine za (DU _) ?_;unfold Fi;refine nw h ?_;clear h;intro c w h;exact⟨_,rfl,hk c w h⟩
def Ew(h:St w0 E w){v:Sl}{l:List Sl}(r:Rd w eV v l)(hn:l.length<1000000000)(h64:v.a=none→l = []){k:Sl→PT}
  (hk:∀v' s' w',Rw eV yO 1 v' l s'→St w0 (s'::E) w'→k v' w'):L.call Pr xk [SlV v] (.one (.one .slice)) k w:=by
 refine za (oX v) ?_;unfold QK;exact qD (K:=λv w'=>∃x,v=RT.val (.one (.one .slice)) x∧k x w') RI elV h r (by omega) (by omega) h64 λv' s' w' h1 h2 h3=>⟨v',rfl,hk v' s' w' h1 h3⟩
abbrev gA(b:Nat)(v:Sl)(bad:Bool):Seg:=[Cl b fT [SlV v,.bool bad]]
abbrev RdT:=List UInt8×Bool
def tkR(n:Nat)(r:RdT):List UInt8×RdT:=if r.2=true∨r.1.length<n then(List.replicate n 0,(r.1,true))else(r.1.take n,(r.1.drop n,false))
def Cw(n:Nat)(r:RdT):(tkR n r).1.length=n:=by
 unfold tkR;split
 ·simp
 ·rename_i h;simp only[List.length_take];omega
structure RdV(w0:World)(E:List Seg)(v:Sl)(l:List UInt8):Prop where
 r:RdE w0 E eU v l
 c:v.len≤v.cap∧v.cap≤maxLen
 few:l.length<1000000
def eG{b:Nat}{v:Sl}{l:List UInt8}{c:Bool}(h:St w0 (gA b v c::E) w){E0:List Seg}(sub:∀w,St w0 E w→St w0 E0 w)(r:RdV w0 E0 v l){n:Nat}(hn:n≤255){k:Sl→PT}
  (hk:∀vt st v' w',RdE w0 (st::E) eU vt (tkR n (l,c)).1→RdV w0 E0 v' (tkR n (l,c)).2.1→St w0 (gA b v' (tkR n (l,c)).2.2::st::E) w'→k vt w') :
  L.call Pr xG [pO b,I (n:Int)] (.one (.one .slice)) k w:=by
 refine za (mK (some ⟨b,0,none⟩) n) ?_;unfold VP;have hl:v.len=l.length:=(r.r w (sub w (zj h))).len;have hml:maxLen=9223372036854775807:=rfl;have hc:=r.c;refine ZC (λ_ w=>St w0 (gA b v (c||decide ((v.len:Int)<(n:Int)))::E) w) (λk1 hk1=>?_) ?_
 ·(refine nn ?_;refine ldC h ?_)
  cases c with
  | true=>
   refine itT rfl ?_
   (refine nn ?_;refine stC h ?_;clear h;intro w h;dsimp only[zE,zd]at h)
   exact hk1 () w h
  | false=>
   refine itF rfl ?_
   (refine nn ?_;refine ldC h ?_;refine nn ?_;refine stC h ?_;clear h;intro w h;dsimp only[zE,zd]at h)
   exact hk1 () w h
 clear h;rintro-w h
 (try dsimp only)
 (refine nn ?_;refine ldC h ?_)
 by_cases hcut:c=true∨l.length<n
 ·have e1:(c||decide ((v.len:Int)<(n:Int)))=true:=by
   rcases hcut with h1 | h1
   ·rw[h1];rfl
   ·rw[hl];simp;right;omega
  have e2:tkR n (l,c)=(List.replicate n 0,(l,true)):=by unfold tkR;rw[if_pos hcut]
  rw[e2]at hk;refine itT e1 ?_;rw[e1]at h;refine mkN elU Gy (0:UInt8) rfl h (by omega) (by omega) (by omega) λvt st w hr h=>?_;rw[Int.toNat_natCast]at hr;refine⟨vt,rfl,hk vt st v w (Rw.re Gy 0 rfl hr) r ?_⟩;have h:=yL h;exact h
 ·have e1:(c||decide ((v.len:Int)<(n:Int)))=false:=by
   rw[not_or]at hcut;have hc0:c=false:=by cases c;rfl;exact absurd rfl hcut.1
   rw[hc0,hl];simp;omega
  have e2:tkR n (l,c)=(l.take n,(l.drop n,false)):=by unfold tkR;rw[if_neg hcut]
  rw[e2]at hk;have hnl:n≤l.length:=by omega
  refine itF e1 ?_;rw[e1]at h
  (refine nn ?_;refine ldC h ?_)
  refine gd (by dsimp only;omega) ?_
  (refine nn ?_;refine ldC h ?_)
  refine gd (by dsimp only;omega) ?_
  (refine nn ?_;refine stC h ?_;clear h;intro w h;dsimp only[zE,zd]at h)
  have h:St w0 (gA b ⟨if v.cap=n then v.a else Option.map (λa:Addr=>a.add (n*1)) v.a,v.len-n,v.cap-n⟩ false::[]::E) w:=St.eq h (by simp);refine⟨⟨_,_,_⟩,rfl,hk _ [] _ w (λw hw=>?_) ⟨λw hw=>?_,?_,?_⟩ h⟩
  ·have:=(r.r w (sub w (hw.eq (by simp)))).cut Gy 0 n (by omega) hnl hc.1 (v.cap-0);rw[List.drop_zero]at this;exact this
  ·have:=(r.r w hw).cut Gy n l.length hnl (Nat.le_refl _) hc.1 (v.cap-n);rw[List.take_length,←hl]at this;exact this
  ·show v.len-n≤v.cap-n∧v.cap-n≤maxLen;omega
  ·have:=r.few;rw[List.length_drop];omega
def nmN(l:List UInt8):Nat:=l.foldl (λa x=>a*256+x.toNat) 0
def Si(l:List UInt8)(x:UInt8):nmN (l++[x])=nmN l*256+x.toNat:=by unfold nmN;rw[List.foldl_append];rfl
def Sj:∀(l:List UInt8)(a:Nat),l.foldl (λa x=>a*256+x.toNat) a<(a+1)*256 ^ l.length
 | [],a=>by simp
 | x::l,a=>by
  have h1:=Sj l (a*256+x.toNat);have hx:=x.toNat_lt;have h2:a*256+x.toNat+1≤(a+1)*256:=by omega
  have h3:=Nat.mul_le_mul_right (256 ^ l.length) h2;rw[List.foldl_cons,List.length_cons,Nat.pow_succ,Nat.mul_comm (256 ^ l.length) 256,←Nat.mul_assoc];omega
def Rr(l:List UInt8):nmN l<256 ^ l.length:=by
 have:=Sj l 0;rw[Nat.zero_add,Nat.one_mul]at this;exact this
def sU{a:Nat}(ha:a<2 ^ 40){x:Nat}(hx:x<256) :
  Wi (((BitVec.ofInt 64 (Wi ((a:Int)*2 ^ (min (Int.toNat 8) 64)))) ||| (BitVec.ofInt 64 (Wi (x:Int)))).toNat:Int)=((a*256+x:Nat):Int):=by
 have e0:(2:Int) ^ (min (Int.toNat 8) 64)=256:=rfl;rw[e0,wr (n:=(a:Int)*256) (by omega) (by omega),wr (n:=(x:Int)) (by omega) (by omega)];have e1:(a:Int)*256=((a*256:Nat):Int):=by omega
 rw[e1,BitVec.ofInt_natCast,BitVec.ofInt_natCast,BitVec.toNat_or,BitVec.toNat_ofNat,BitVec.toNat_ofNat,Nat.mod_eq_of_lt (by omega),Nat.mod_eq_of_lt (by omega)];have e2:a*256 ||| x=a*256+x:=by
  have:=Nat.shiftLeft_add_eq_or_of_lt (i:=8) (b:=x) (by omega) a;rw[Nat.shiftLeft_eq]at this;exact this.symm
 rw[e2,wr (by omega) (by omega)]
def nmR(n:Nat)(r:RdT):Int×RdT:=((nmN (tkR n r).1:Int),(tkR n r).2)
def iQ(r:RdT):0≤(nmR 1 r).1∧(nmR 1 r).1≤255:=by
 have:=Rr (tkR 1 r).1;rw[Cw]at this;unfold nmR;dsimp only;omega
def cI{b:Nat}{v:Sl}{l:List UInt8}{c:Bool}(h:St w0 (gA b v c::E) w){E0:List Seg}(sub:∀w,St w0 E w→St w0 E0 w)(r:RdV w0 E0 v l){n:Nat}(hn:n≤4){k:Int→PT}
  (hk:∀v' w',RdV w0 E0 v' (nmR n (l,c)).2.1→St w0 (gA b v' (nmR n (l,c)).2.2::E) w'→k (nmR n (l,c)).1 w') :
  L.call Pr ZH [pO b,I (n:Int)] (.one (.one (.int .i64))) k w:=by
 refine za (GP (some ⟨b,0,none⟩) n) ?_;unfold UP;refine eG h sub r (by omega) λvt st v' w rt r h=>?_;unfold nmR at hk;have hlen:=Cw n (l,c);generalize tkR n (l,c)=t at *
 obtain⟨l1,r2⟩:=t;simp only at hk hlen rt r h;have hvl:vt.len=l1.length:=(rt w (zj h)).len;refine zX (λq y w=>∃j:Nat,y=((nmN (l1.take j):Int),(j:Int),())∧q+j=l1.length∧St w0 (gA b v' r2.2::st::E) w) l1.length ⟨0,rfl,rfl,h⟩ ?_;clear h;rintro q y w ⟨j,rfl,hq,h⟩ again hag
 (try dsimp only)
 refine it (λhb=>?_) (λhb=>?_)<;>(try simp only[zB]at hb)
 ·have hj:j<l1.length:=by omega
  have hx:l1[j]? = some l1[j]:=List.getElem?_eq_getElem hj;generalize hg:l1[j]=x at hx;refine Rd.ix (rt w (zj h)) Gy (by omega) (by simpa using hj) λa4 ha=>?_;simp only[Int.toNat_natCast]at ha;refine Rd.ld0 (rt w (zj h)) Gy ha hx rfl rfl ?_;refine gd (by decide) ?_;have hlt:=Rr (l1.take j);rw[List.length_take,Nat.min_eq_left (by omega)]at hlt;have hp:256 ^ j≤256 ^ 3:=Nat.pow_le_pow_right (by decide) (by omega);have e1:=sU (a:=nmN (l1.take j)) (by omega) x.toNat_lt;rw[e1];have e2:nmN (l1.take (j+1))=nmN (l1.take j)*256+x.toNat:=by
   rw[List.take_succ,hx,Option.toList_some,Si]
  rw[←e2];refine hag (q-1) _ w (by omega) ⟨j+1,?_,by omega,h⟩;have e3:Wi ((j:Int)+1)=((j+1:Nat):Int):=by rw[wr (by omega) (by omega)];omega
  rw[e3]
 ·have ej:l1.take j=l1:=List.take_of_length_le (by omega);rw[ej];refine⟨_,rfl,hk v' w r ?_⟩;have h:=yw h;exact h
def txR(r:RdT):B0×RdT:=(⟨(tkR (nmN (tkR 1 r).1) (tkR 1 r).2).1.toArray⟩,(tkR (nmN (tkR 1 r).1) (tkR 1 r).2).2)
def pa{b:Nat}{v:Sl}{l:List UInt8}{c:Bool}(h:St w0 (gA b v c::E) w){E0:List Seg}(sub:∀w,St w0 E w→St w0 E0 w)(r:RdV w0 E0 v l){k:B0→PT}
  (hk:∀v' w',RdV w0 E0 v' (txR (l,c)).2.1→St w0 (gA b v' (txR (l,c)).2.2::E) w'→k (txR (l,c)).1 w') :
  L.call Pr yd [pO b] (.one (.one .str)) k w:=by
 refine za (mJ (some ⟨b,0,none⟩)) ?_;unfold VO;have hb1:=iQ (l,c);refine cI (n:=1) h sub r (by decide) λv1 w r h=>?_;unfold txR at hk;unfold nmR at r h hb1 ⊢;simp only at r h hb1 ⊢;generalize tkR 1 (l,c)=t at *
 obtain⟨l1,r2⟩:=t;simp only at hk r h hb1 ⊢;refine eG h sub r (by omega) λvt st v' w rt r h=>?_;refine z39 (e:=Uw) (by kernel_rfl) (by kernel_rfl) (by kernel_rfl) (rt w (zj h)) ?_;refine⟨_,rfl,hk v' w r ?_⟩;have h:=yw h;exact h
def rdN(r:RdT):Nat→RdT
 | 0=>r
 | j+1=>(nmR 1 (rdN r j)).2
def vlN(r:RdT)(j:Nat):Int:=(nmR 1 (rdN r j)).1
def cfJ(x:B0)(r:RdT)(j:Nat):Cfg:=(x,if 0<j then vlN r 0 else 0,if 1<j then vlN r 1 else 0,if 2<j then vlN r 2 else 0,if 3<j then vlN r 3 else 0,if 4<j then vlN r 4 else 0,())
def cfR(r:RdT):Cfg×RdT:=(cfJ (txR r).1 (txR r).2 5,rdN (txR r).2 5)
abbrev Iv(b b3:Nat):Seg:=[Cl b By [.pointer (some ⟨b3,1,none⟩),.pointer (some ⟨b3,2,none⟩),.pointer (some ⟨b3,3,none⟩),.pointer (some ⟨b3,4,none⟩),.pointer (some ⟨b3,5,none⟩)]]
def bh{b:Nat}{v:Sl}{l:List UInt8}{c:Bool}(h:St w0 (gA b v c::E) w){E0:List Seg}(sub:∀w,St w0 E w→St w0 E0 w)(r:RdV w0 E0 v l){k:Hs.T→PT}
  (hk:∀v' w',RdV w0 E0 v' (cfR (l,c)).2.1→St w0 (gA b v' (cfR (l,c)).2.2::E) w'→k (cfR (l,c)).1 w') :
  L.call Pr XS [pO b] (.one Hs) k w:=by
 refine za (GQ (some ⟨b,0,none⟩)) ?_;unfold UQ;refine nw h ?_;clear h;intro b1 w h;have h:=yL h;refine pa h (λw h=>sub w (zj h)) r λv1 w r h=>?_;unfold cfR at hk;generalize txR (l,c)=t at *
 obtain⟨x,r1⟩:=t;simp only at hk r h ⊢;refine nw h ?_;clear h;intro b3 w h
 (refine stC h ?_;clear h;intro w h;dsimp only[zE,zd]at h)
 refine nw h ?_;clear h;intro b4 w h;have h:St w0 (Iv b4 b3::[Cl b3 zF (Cfg.cells (cfJ x r1 0))]::gA b v1 r1.2::[Cl b1 zF [.string s_,I 0,I 0,I 0,I 0,I 0]]::E) w:=h;have h:=Zm h;refine zX (λq y w=>∃(j:Nat)(v:Sl),y=((j:Int),())∧q+j=5∧RdV w0 E0 v (rdN r1 j).1∧St w0 (gA b v (rdN r1 j).2::Iv b4 b3::[Cl b3 zF (Cfg.cells (cfJ x r1 j))]::[Cl b1 zF [.string s_,I 0,I 0,I 0,I 0,I 0]]::E) w) 5 ⟨0,v1,rfl,rfl,r,h⟩ ?_;clear r;clear h;rintro q y w ⟨j,v2,rfl,hq,r,h⟩ again hag
 (try dsimp only)
 have sub2:∀w,St w0 (Iv b4 b3::[Cl b3 zF (Cfg.cells (cfJ x r1 j))]::[Cl b1 zF [.string s_,I 0,I 0,I 0,I 0,I 0]]::E) w→St w0 E0 w:=λw h=>sub w (zj (zj (zj h)));refine it (λhb=>?_) (λhb=>?_)<;>(try simp only[zB]at hb)
 ·have hj:j=0∨j=1∨j=2∨j=3∨j=4:=by omega
  rcases hj with rfl | rfl | rfl | rfl | rfl
  all_goals
   refine ix (by decide) (by decide) ?_
   (refine ldC h ?_)
   refine cI (n:=1) h sub2 r (by decide) λv' w r h=>?_
   (refine nn ?_;refine stC h ?_;clear h;intro w h;dsimp only[zE,zd]at h)
   refine hag (q-1) _ w (by omega) ⟨_+1,v',?_,by omega,r,h⟩;rfl
 ·have hj:j=5:=by omega
  subst hj
  (refine laC h ?_;refine stC h ?_;clear h;intro w h;dsimp only[zE,zd]at h;refine laC h ?_)
  refine⟨_,?_,hk v2 w r ?_⟩
  ·rfl
  ·have h:=yw (uV (Qj h));exact h
def ai(r:RdT):Tgt×RdT:=(((txR r).1,(txR (txR r).2).1,(nmR 1 (txR (txR r).2).2).1,()),(nmR 1 (txR (txR r).2).2).2)
def cV:Nat→RdT→List Tgt→List Tgt×RdT
 | 0,r,a=>(a,r)
 | n+1,r,a=>if(ai r).2.2=true then(a,(ai r).2)else cV n (ai r).2 (a++[(ai r).1])
def rtR(r:RdT):ARt×RdT:=
 (⟨(txR r).1,(txR (txR r).2).1,(cV (nmR 1 (nmR 1 (txR (txR r).2).2).2).1.toNat (nmR 1 (nmR 1 (txR (txR r).2).2).2).2 []).1,(nmR 1 (txR (txR r).2).2).1⟩,
  (cV (nmR 1 (nmR 1 (txR (txR r).2).2).2).1.toNat (nmR 1 (nmR 1 (txR (txR r).2).2).2).2 []).2)
abbrev rtZ:List Value:=[.string s_,.string s_,.slice none 0 0,I 0]
def Ah{b:Nat}{v:Sl}{l:List UInt8}{c:Bool}(h:St w0 (gA b v c::E) w){E0:List Seg}(sub:∀w,St w0 E w→St w0 E0 w)(r:RdV w0 E0 v l){k:B0×B0×Sl×Int×Unit→PT}
  (hk:∀v' vt st w',RdV w0 E0 v' (rtR (l,c)).2.1→Rw eT zu 3 vt (rtR (l,c)).1.ts st→St w0 (gA b v' (rtR (l,c)).2.2::st::E) w'→k ((rtR (l,c)).1.name,(rtR (l,c)).1.cfg,vt,(rtR (l,c)).1.roll,()) w') :
  L.call Pr qz [pO b] (.one (.agg [.str,.str,.slice,.int .i64])) k w:=by
 refine za (FD (some ⟨b,0,none⟩)) ?_;unfold Ve;refine nw h ?_;clear h;intro b1 w h;have h:=yL h;have sub1:∀{cs:List Value}(w:World),St w0 ([Cl b1 zG cs]::E) w→St w0 E0 w:=λw h=>sub w (zj h);refine pa h sub1 r λv1 w r h=>?_;unfold rtR at hk;generalize txR (l,c)=t at *
 obtain⟨nm,r1⟩:=t;simp only at hk r h ⊢;refine pa h sub1 r λv1 w r h=>?_;generalize txR r1=t at *
 obtain⟨cf,r2⟩:=t;simp only at hk r h ⊢;refine cI (n:=1) h sub1 r (by decide) λv1 w r h=>?_;generalize nmR 1 r2=t at *
 obtain⟨ro,r3⟩:=t;simp only at hk r h ⊢;refine nw h ?_;clear h;intro b5 w h
 (refine stC h ?_;clear h;intro w h;dsimp only[zE,zd]at h)
 refine ZC (λ_ w=>∃v vt st,RdV w0 E0 v (cV (nmR 1 r3).1.toNat (nmR 1 r3).2 []).2.1∧Rw eT zu 3 vt (cV (nmR 1 r3).1.toNat (nmR 1 r3).2 []).1 st∧
  St w0 (gA b v (cV (nmR 1 r3).1.toNat (nmR 1 r3).2 []).2.2::[Cl b5 zG [.string nm,.string cf,SlV vt,I ro]]::st::[Cl b1 zG rtZ]::E) w) (λk6 hk6=>?_) ?_
 ·have h:=yL h;have sub2:∀{cs:List Value}{s:Seg}(w:World),St w0 ([Cl b5 zG cs]::s::[Cl b1 zG rtZ]::E) w→St w0 E0 w:=λw h=>sub w (zj (zj (zj h)));have h:St w0 (gA b v1 r3.2::[Cl b5 zG [.string nm,.string cf,SlV ⟨none,0,0⟩,I ro]]::[]::[Cl b1 zG rtZ]::E) w:=h.eq (by simp);refine cI (n:=1) h sub2 r (by decide) λv2 w r h=>?_;have hcnt:=iQ r3;generalize nmR 1 r3=t at *
  obtain⟨cnt,r4⟩:=t;simp only at hk6 r h hcnt ⊢
  refine zX (λq y w=>∃(j:Nat)(v vt:Sl)(st:Seg)(rj:RdT)(acc:List Tgt),y=((j:Int),())∧q+j=cnt.toNat∧acc.length=j∧cV q rj acc=cV cnt.toNat r4 []∧RdV w0 E0 v rj.1∧Rw eT zu 3 vt acc st∧
   St w0 (gA b v rj.2::[Cl b5 zG [.string nm,.string cf,SlV vt,I ro]]::st::[Cl b1 zG rtZ]::E) w) cnt.toNat ⟨0,v2,⟨none,0,0⟩,[],r4,[],rfl,rfl,rfl,rfl,r,Rw.nil,h⟩ ?_
  clear r;clear h;rintro q y w ⟨j,v2,vt,st,rj,acc,rfl,hq,hacc,hres,r,ht,h⟩ again hag
  (try dsimp only)
  refine it (λhb=>?_) (λhb=>?_)<;>(try simp only[zB]at hb)
  ·obtain⟨q,rfl⟩:∃p,q=p+1:=⟨q-1,by omega⟩;rw[cV]at hres;unfold ai at hres;refine pa h sub2 r λv3 w r h=>?_;generalize txR rj=t at *
   obtain⟨x1,r5⟩:=t;simp only at hres r h ⊢;refine pa h sub2 r λv3 w r h=>?_;generalize txR r5=t at *
   obtain⟨x2,r6⟩:=t;simp only at hres r h ⊢;refine cI (n:=1) h sub2 r (by decide) λv3 w r h=>?_;generalize nmR 1 r6=t at *
   obtain⟨x3,r7⟩:=t;simp only at hres r h ⊢;refine nw h ?_;clear h;intro b14 w h
   (refine stC h ?_;clear h;intro w h;dsimp only[zE,zd]at h;refine nn ?_;refine ldC h ?_)
   by_cases hc:r7.2=true
   ·rw[if_pos hc]at hres;refine itT hc ?_;refine hk6 () w ⟨v3,vt,st,?_,?_,?_⟩
    ·rw[←hres];exact r
    ·rw[←hres];exact ht
    ·rw[←hres];have h:=zj h;exact h
   rw[if_neg hc]at hres;refine itF (by simpa using hc) ?_
   (refine ldC h ?_;refine laC h ?_)
   refine nw h ?_;clear h;intro b19 w h;refine Rw.app Vn elT h 3 rfl ht (x1,x2,x3,()) rfl (by omega) (by omega) λvt' st' w ht' h=>?_;dsimp only[zd]at h
   (refine stC h ?_;clear h;intro w h;dsimp only[zE,zd]at h)
   refine hag q _ w (by omega) ⟨j+1,v3,vt',st',r7,acc++[(x1,x2,x3,())],?_,by omega,by rw[List.length_append,hacc];rfl,hres,r,ht',?_⟩
   ·have e3:Wi ((j:Int)+1)=((j+1:Nat):Int):=by rw[wr (by omega) (by omega)];omega
    rw[e3]
   ·have h:=zj h;exact h
  ·have hq0:q=0:=by omega
   subst hq0;rw[cV]at hres;refine hk6 () w ⟨v2,vt,st,?_,?_,?_⟩
   ·rw[←hres];exact r
   ·rw[←hres];exact ht
   ·rw[←hres];exact h
 clear r h;rintro-w ⟨v2,vt,st,r,ht,h⟩
 (try dsimp only)
 (refine laC h ?_;refine stC h ?_;clear h;intro w h;dsimp only[zE,zd]at h;refine laC h ?_)
 refine⟨_,rfl,hk v2 vt st w r ht ?_⟩;have h:=yw (Qj h);exact h
def WN(r:RdT):(txR r).1.size≤255:=by
 have h1:=Rr (tkR 1 r).1;have h2:=Cw 1 r;rw[h2]at h1;have h3:=Cw (nmN (tkR 1 r).1) (tkR 1 r).2;have h4:=jl (txR r).1;have h5:(txR r).1.data.toList=(tkR (nmN (tkR 1 r).1) (tkR 1 r).2).1:=rfl;rw[h5,h3]at h4;omega
def Ns:∀(n:Nat)(r:RdT)(a:List Tgt),(∀t∈a,Qo t.1)→∀t∈(cV n r a).1,Qo t.1
 | 0,_,_,h=>h
 | n+1,r,a,h=>by
  rw[cV];split
  ·exact h
  ·refine Ns n _ _ λt ht=>?_;rcases List.mem_append.1 ht with ht | ht
   ·exact h t ht
   ·have:t=(ai r).1:=by simpa using ht
    subst this;have:=WN r;show(txR r).1.size≤1000000;omega
def pr1(a:Bool)(r:RdT):Int×RdT:=if a=true then nmR 4 r else(0,r)
def prT(a:Bool)(r:RdT):B0×RdT:=if a=true then txR r else(s_,r)
def prC(a:Bool)(r:RdT):Cfg×RdT:=if a=true then cfR r else(oe,r)
def prR(a:Bool)(r:RdT):ARt×RdT:=if a=true then rtR r else(wJ,r)
def prK(l:List UInt8):Int×RdT:=nmR 1 (l,false)
def prA(l:List UInt8):AEv×RdT:=
 let p:=prK l
 let s:=(shp p.1).1
 let t1:=pr1 s.1 p.2
 let t2:=prT s.2.1 t1.2
 let t3:=prT s.2.2.1 t2.2
 let t4:=pr1 s.2.2.2.1 t3.2
 let t5:=prC s.2.2.2.2.1 t4.2
 let t6:=prR s.2.2.2.2.2.1 t5.2
 (⟨p.1,t2.1,t3.1,t1.1,t4.1,t5.1,t6.1,lR⟩,t6.2)
def pEv(l:List UInt8):AEv×Int:=
 if(prK l).2.2=true then(cZ 0,10)else if(shp (prK l).1).2=false then(cZ 0,12)else if(prA l).2.2=true then(cZ 0,10)
 else if 0<(prA l).2.1.length then(cZ 0,11)else if Zz (prA l).1≠0 then(cZ 0,Zz (prA l).1)else((prA l).1,0)
abbrev evL(k:Int)(nm tg:B0)(n d:Int)(c:Cfg):List Value:=[I k,.string nm,.string tg,I n,I d,.string c.1,I c.2.1,I c.2.2.1,I c.2.2.2.1,I c.2.2.2.2.1,I c.2.2.2.2.2.1,.string s_,.string s_,.slice none 0 0,I 0]
abbrev psF(b7 b4 b2 b1:Nat)(a1 a2 a3 a4 a5 a6:Bool)(cs:List Value)(v:Sl)(c:Bool):List Seg:=
 [[Cl b7 vV [.bool a1,.bool a2,.bool a3,.bool a4,.bool a5,.bool a6]],[Cl b4 zP cs],gA b2 v c,[Cl b1 zP (evL 0 s_ s_ 0 0 oe)]]
def z2k{k:Int}{nm tg:B0}{n d:Int}{c:Cfg}{r:ARt}{v v':Sl}(h:(shp k).1.2.2.2.2.2.1=true):Zz ⟨k,nm,tg,n,d,c,r,v⟩=Zz ⟨k,nm,tg,n,d,c,r,v'⟩:=by
 unfold Zz ee Sf;simp only[h,Bool.true_or];rfl
def ly(l:List UInt8):(prA l).1.name.size≤255∧∀t∈(prA l).1.r.ts,Qo t.1:=by
 unfold prA;dsimp only;refine⟨?_,?_⟩
 ·unfold prT;split
  ·exact WN _
  ·exact Nat.zero_le _
 ·unfold prR;split
  ·unfold rtR;exact Ns _ _ _ (λt ht=>by cases ht)
  ·intro t ht;cases ht
def iE [YB w0]{v:Sl}{l:List UInt8}(h:St w0 E w)(r:RdV w0 E v l){k:EvT×Int×Unit→PT}
  (hk:∀vt st w',Rw eT zu 3 vt (pEv l).1.r.ts st→Zz { (pEv l).1 with v:=vt } = Zz (pEv l).1→St w0 (st::E) w'→k (({ (pEv l).1 with v:=vt }:AEv).t,(pEv l).2,()) w') :
  L.call Pr oS [SlV v] (.tup [.agg IU,.one (.int .i64)]) k w:=by
 refine za (nO v) ?_;unfold Mv;refine nw h ?_;clear h;intro b1 w h;refine nw h ?_;clear h;intro b2 w h;refine cI (n:=1) (b:=b2) (v:=v) (c:=false) (l:=l) h (λw h=>zj h) r (by decide) λv1 w r h=>?_;have hsz:=ly l;unfold pEv at hk;unfold prA at hk hsz;unfold prK at hk hsz;dsimp only at hk hsz;generalize nmR 1 (l,false)=t at *
 obtain⟨x3,r1⟩:=t;simp only at hk hsz r h ⊢;have none0:∀{w}{x:Int},St w0 E w→(∀vt st w',Rw eT zu 3 vt [] st→Zz { cZ 0 with v:=vt } = Zz (cZ 0)→St w0 (st::E) w'→k ((({ cZ 0 with v:=vt }:AEv)).t,x,()) w')→k ((cZ 0).t,x,()) w:=λh hk=>hk lR [] _ Rw.nil rfl (h.eq (by simp));refine nw h ?_;clear h;intro b4 w h
 (refine stC h ?_;clear h;intro w h;dsimp only[zE,zd]at h;refine ldC h ?_)
 refine BD h λw h=>?_;have hcv:(shp x3).1.2.2.2.2.2.1=true→∀(nm tg:B0)(n d:Int)(c:Cfg)(r:ARt)(v v':Sl),Zz ⟨x3,nm,tg,n,d,c,r,v⟩=Zz ⟨x3,nm,tg,n,d,c,r,v'⟩:=λh nm tg n d c r v v'=>z2k h;generalize shp x3=s at *
 obtain⟨⟨a1,a2,a3,a4,a5,a6,⟨⟩⟩,is⟩:=s;simp only at hk hsz hcv ⊢;refine nw h ?_;clear h;intro b7 w h
 (refine stC h ?_;clear h;intro w h;dsimp only[zE,zd]at h;refine nn ?_;refine ldC h ?_)
 have h:St w0 (psF b7 b4 b2 b1 a1 a2 a3 a4 a5 a6 (evL x3 s_ s_ 0 0 oe) v1 r1.2++E) w:=h;by_cases hcut:r1.2=true
 ·rw[if_pos hcut]at hk;refine itT hcut ?_
  (dsimp only[zd,List.cons_append,List.nil_append]at h;refine stC h ?_;clear h;intro w h;dsimp only[zE,zd]at h;refine laC h ?_)
  refine⟨_,?_,none0 (w:=w) ?_ hk⟩
  ·rfl
  ·have h:=zj (yw (uV (Qj h)));exact h
 rw[if_neg hcut]at hk;refine itF (by simpa using hcut) ?_;by_cases his:is=false
 ·rw[if_pos his]at hk;subst his;refine itT rfl ?_
  (dsimp only[zd,List.cons_append,List.nil_append]at h;refine stC h ?_;clear h;intro w h;dsimp only[zE,zd]at h;refine laC h ?_)
  refine⟨_,?_,none0 (w:=w) ?_ hk⟩
  ·rfl
  ·have h:=zj (yw (uV (Qj h)));exact h
 rw[if_neg his]at hk;have his:is=true:=by simpa using his
 subst his;refine itF rfl ?_;clear hcut his;have sub:∀{cs:List Value}(w:World),St w0 ([Cl b7 vV [.bool a1,.bool a2,.bool a3,.bool a4,.bool a5,.bool a6]]::[Cl b4 zP cs]::[Cl b1 zP (evL 0 s_ s_ 0 0 oe)]::E) w→St w0 E w:=λw h=>zj (zj (zj h));refine ZC (λ_ w=>∃v,RdV w0 E v (pr1 a1 r1).2.1∧St w0 (psF b7 b4 b2 b1 a1 a2 a3 a4 a5 a6 (evL x3 s_ s_ (pr1 a1 r1).1 0 oe) v (pr1 a1 r1).2.2++E) w) (λkk hkk=>?_) ?_
 ·(dsimp only[zd,List.cons_append,List.nil_append]at h;refine ldC h ?_)
  cases a1 with
  | false=>exact itF rfl (hkk () w ⟨v1,r,h⟩)
  | true=>
   refine itT rfl ?_;have h:=Zm h;refine cI (n:=4) h sub r (by decide) λv' w r h=>?_;have h:=Zm (Zm h)
   (refine stC h ?_;clear h;intro w h;dsimp only[zE,zd]at h)
   exact hkk () w ⟨v',r,h⟩
 clear r h;rintro-w ⟨v1,r,h⟩
 (try dsimp only)
 generalize pr1 a1 r1=t at *
 obtain⟨n,r1⟩:=t;simp only at hk hsz r h ⊢;refine ZC (λ_ w=>∃v,RdV w0 E v (prT a2 r1).2.1∧St w0 (psF b7 b4 b2 b1 a1 a2 a3 a4 a5 a6 (evL x3 (prT a2 r1).1 s_ n 0 oe) v (prT a2 r1).2.2++E) w) (λkk hkk=>?_) ?_
 ·(dsimp only[zd,List.cons_append,List.nil_append]at h;refine ldC h ?_)
  cases a2 with
  | false=>exact itF rfl (hkk () w ⟨v1,r,h⟩)
  | true=>
   refine itT rfl ?_;have h:=Zm h;refine pa h sub r λv' w r h=>?_;have h:=Zm (Zm h)
   (refine stC h ?_;clear h;intro w h;dsimp only[zE,zd]at h)
   exact hkk () w ⟨v',r,h⟩
 clear r h;rintro-w ⟨v1,r,h⟩
 (try dsimp only)
 generalize prT a2 r1=t at *
 obtain⟨nm,r1⟩:=t;simp only at hk hsz r h ⊢;refine ZC (λ_ w=>∃v,RdV w0 E v (prT a3 r1).2.1∧St w0 (psF b7 b4 b2 b1 a1 a2 a3 a4 a5 a6 (evL x3 nm (prT a3 r1).1 n 0 oe) v (prT a3 r1).2.2++E) w) (λkk hkk=>?_) ?_
 ·(dsimp only[zd,List.cons_append,List.nil_append]at h;refine ldC h ?_)
  cases a3 with
  | false=>exact itF rfl (hkk () w ⟨v1,r,h⟩)
  | true=>
   refine itT rfl ?_;have h:=Zm h;refine pa h sub r λv' w r h=>?_;have h:=Zm (Zm h)
   (refine stC h ?_;clear h;intro w h;dsimp only[zE,zd]at h)
   exact hkk () w ⟨v',r,h⟩
 clear r h;rintro-w ⟨v1,r,h⟩
 (try dsimp only)
 generalize prT a3 r1=t at *
 obtain⟨tg,r1⟩:=t;simp only at hk hsz r h ⊢;refine ZC (λ_ w=>∃v,RdV w0 E v (pr1 a4 r1).2.1∧St w0 (psF b7 b4 b2 b1 a1 a2 a3 a4 a5 a6 (evL x3 nm tg n (pr1 a4 r1).1 oe) v (pr1 a4 r1).2.2++E) w) (λkk hkk=>?_) ?_
 ·(dsimp only[zd,List.cons_append,List.nil_append]at h;refine ldC h ?_)
  cases a4 with
  | false=>exact itF rfl (hkk () w ⟨v1,r,h⟩)
  | true=>
   refine itT rfl ?_;have h:=Zm h;refine cI (n:=4) h sub r (by decide) λv' w r h=>?_;have h:=Zm (Zm h)
   (refine stC h ?_;clear h;intro w h;dsimp only[zE,zd]at h)
   exact hkk () w ⟨v',r,h⟩
 clear r h;rintro-w ⟨v1,r,h⟩
 (try dsimp only)
 generalize pr1 a4 r1=t at *
 obtain⟨d,r1⟩:=t;simp only at hk hsz r h ⊢;refine ZC (λ_ w=>∃v,RdV w0 E v (prC a5 r1).2.1∧St w0 (psF b7 b4 b2 b1 a1 a2 a3 a4 a5 a6 (evL x3 nm tg n d (prC a5 r1).1) v (prC a5 r1).2.2++E) w) (λkk hkk=>?_) ?_
 ·(dsimp only[zd,List.cons_append,List.nil_append]at h;refine ldC h ?_)
  cases a5 with
  | false=>exact itF rfl (hkk () w ⟨v1,r,h⟩)
  | true=>
   refine itT rfl ?_;have h:=Zm h;refine bh h sub r λv' w r h=>?_;have h:=Zm (Zm h)
   (refine stC h ?_;clear h;intro w h;dsimp only[zE,zd]at h)
   exact hkk () w ⟨v',r,h⟩
 clear r h;rintro-w ⟨v1,r,h⟩
 (try dsimp only)
 generalize prC a5 r1=t at *
 obtain⟨c,r1⟩:=t;simp only at hk hsz r h ⊢
 refine ZC (λ_ w=>∃v vt st,RdV w0 E v (prR a6 r1).2.1∧Rw eT zu 3 vt (prR a6 r1).1.ts st∧(a6=false→vt=lR)∧
  St w0 (psF b7 b4 b2 b1 a1 a2 a3 a4 a5 a6 (eEv ⟨x3,nm,tg,n,d,c,(prR a6 r1).1,vt⟩) v (prR a6 r1).2.2++st::E) w) (λkk hkk=>?_) ?_
 ·(dsimp only[zd,List.cons_append,List.nil_append]at h;refine ldC h ?_)
  cases a6 with
  | false=>exact itF rfl (hkk () w ⟨v1,lR,[],r,Rw.nil,λ_=>rfl,h.eq (by simp[eEv,prR,wJ,lR])⟩)
  | true=>
   refine itT rfl ?_;have h:=Zm h;refine Ah h sub r λv' vt st w r ht h=>?_;have h:=yM (yM (Zm (yM (yL h))))
   (refine stC h ?_;clear h;intro w h;dsimp only[zE,zd]at h)
   exact hkk () w ⟨v',vt,st,r,ht,(λhh=>by cases hh),h⟩
 clear r h;rintro-w ⟨v1,vt,st,r,ht,hvt,h⟩
 (try dsimp only)
 generalize prR a6 r1=t at *
 obtain⟨rt,r1⟩:=t;simp only at hk hsz r h ht ⊢;have hlen:v1.len=r1.1.length:=(r.r w (zj (zj (zj (zj (zj h)))))).len;have hend:∀{w},St w0 (psF b7 b4 b2 b1 a1 a2 a3 a4 a5 a6 (eEv ⟨x3,nm,tg,n,d,c,rt,vt⟩) v1 r1.2++st::E) w→St w0 E w:=λh=>zj (zj (zj (zj (zj h))));unfold eEv at h;dsimp only at h
 (dsimp only[zd,List.cons_append,List.nil_append]at h;refine nn ?_;refine ldC h ?_)
 by_cases hcut:r1.2=true
 ·rw[if_pos hcut]at hk;refine itT hcut ?_
  (refine stC h ?_;clear h;intro w h;dsimp only[zE,zd]at h;refine laC h ?_)
  refine⟨_,?_,none0 (w:=w) ?_ hk⟩
  ·rfl
  ·have h:=zj (yw (uV (Qj (uU h))));exact h
 rw[if_neg hcut]at hk;refine itF (by simpa using hcut) ?_
 (refine nn ?_;refine ldC h ?_)
 by_cases hmore:0<r1.1.length
 ·rw[if_pos hmore]at hk;refine itT (decide_eq_true (by dsimp only;omega)) ?_
  (refine stC h ?_;clear h;intro w h;dsimp only[zE,zd]at h;refine laC h ?_)
  refine⟨_,?_,none0 (w:=w) ?_ hk⟩
  ·rfl
  ·have h:=zj (yw (uV (Qj (uU h))));exact h
 rw[if_neg hmore]at hk;refine itF (decide_eq_false (by dsimp only;omega)) ?_
 (refine laC h ?_)
 have hcap:=Rw.cap ht;have ec:Zz ⟨x3,nm,tg,n,d,c,rt,vt⟩=Zz ⟨x3,nm,tg,n,d,c,rt,lR⟩:=by
  cases a6 with
  | false=>rw[hvt rfl]
  | true=>exact hcv rfl _ _ _ _ _ _ _ _
 refine wj (e:=⟨x3,nm,tg,n,d,c,rt,vt⟩) h (λ_=>by have:=hsz.1;dsimp only;omega) (Rw.re Vn 4 rfl ht) hcap.1 hsz.2 λw h=>?_;rw[ec];by_cases hch:Zz ⟨x3,nm,tg,n,d,c,rt,lR⟩≠0
 ·rw[if_pos hch]at hk;refine itT (by simpa using hch) ?_
  (refine stC h ?_;clear h;intro w h;dsimp only[zE,zd]at h;refine laC h ?_)
  refine⟨_,?_,none0 (w:=w) ?_ hk⟩
  ·rfl
  ·have h:=zj (yw (uV (Qj (uU h))));exact h
 rw[if_neg hch]at hk;refine itF (by simpa using hch) ?_
 (refine laC h ?_;refine stC h ?_;clear h;intro w h;dsimp only[zE,zd]at h;refine laC h ?_)
 refine⟨_,?_,hk vt st w ht ec ?_⟩
 ·rfl
 ·have h:=zj (yw (uV (Qj h)));exact h
end Go.Proofs.YtimahgbgejngiaaGreatDoor
namespace Go.Dm
def z2n(P:Program)(w0:World)(n:Nat)(Q0 Qm:Nat→List Seg→Prop)(fv:Value)(Pv:Nat→Sl→Seg→Prop):Prop:=
 ∀(yv:FV)(R:Value→PT)(J:Nat→List Seg→Prop)(Jd:World→Prop)(A F:List Seg)(w:World),Q0 0 A→St w0 (A++F) w→J 0 F→
  (∀j v s B F X w,j<n→Pv j v s→Qm j B→J j F→St w0 (B++((s::F)++X)) w→xw P yv.val [SlV v] w λr w'=>(r = .bool true∧∃F',St w0 (B++(F'++X)) w'∧J (j+1) F')∨(r = .bool false∧Jd w'))→
  (∀A F w,Q0 n A→J n F→St w0 (A++F) w→R (.tuple #[]) w)→(∀w,Jd w→R (.tuple #[]) w)→oW P fv [yv.val] w R
section
variable {w0 w w':World}{P:Program}
def aj{n:Nat}{A F:List Seg}{Q0 Qm:Nat→List Seg→Prop}{fv:Value}{Pv:Nat→Sl→Seg→Prop}(hY:z2n P w0 n Q0 Qm fv Pv)(hA:Q0 0 A)(h:St w0 (A++F) w){body:Nat→TT [.one .slice]→(Value→PT)→PT}{K:List Nat→Option Code→PT}
  (I:Nat→List Seg→Prop) (h0:I 0 F)
  (hb:∀j v s B F X w l lp d(R:Value→PT),j<n→Pv j v s→Qm j B→I j F→St w0 ([Rec l lp .busy none]::[DfM d]::(B++((s::F)++X))) w→
   (∀F' w',I (j+1) F'→St w0 ([Rec l lp .busy none]::[DfM d]::(B++(F'++X))) w'→L.endRound P l none R w')→body l (v,()) R w)
  (hc:∀d A F w,Q0 n A→I n F→St w0 ([DfM d]::(A++F)) w→K [d] none w):L.range P none fv [.one .slice] (λl y R=>L.begin P l (body l y R)) K w:=by
 refine rng h λd l lp w h hy=>?_;have h:St w0 (A++([[Rec l lp .ready none],[DfM d]]++F)) w:=St.toFront (G:=A) (A:=[[Rec l lp .ready none],[DfM d]]) h;refine hY ⟨.yield l,#[],#[]⟩ _ (λj G=>∃F,G = [[Rec l lp .ready none],[DfM d]]++F∧I j F) (λ_=>False) A _ w hA h ⟨F,rfl,h0⟩ ?_ ?_ ?_
 ·rintro j v s B G X w hj hv hB ⟨F,rfl,hi⟩ h;have h:St w0 (B++([[Rec l lp .ready none],[DfM d]]++((s::F)++X))) w:=h.perm (by
   simp only[List.flatten_append,List.flatten_cons,List.flatten_nil,List.append_nil,List.append_assoc];refine List.Perm.append_left _ ?_;simp only[←List.append_assoc];refine List.Perm.append_right _ (List.Perm.append_right _ ?_);rw[List.append_assoc];exact List.perm_append_comm)
  have h:St w0 ([Rec l lp .ready none]::[DfM d]::(B++((s::F)++X))) w:=St.toFront (A:=B) (G:=[[Rec l lp .ready none],[DfM d]]) (F:=(s::F)++X) h;have hrec:=(h.at 0 (b:=(Rec l lp .ready none).1) (o:=(Rec l lp .ready none).2) rfl).2;refine hy (v,()) .ready none w _ hrec ?_;refine bgn h 0 rfl λw h=>?_;refine hb j v s B F X w l lp d _ hj hv hB hi h ?_;intro F' w' hi' h';refine SS h' 0 rfl λw h=>.inl ⟨rfl,_,?_,F',rfl,hi'⟩;exact St.toFront (G:=B) (A:=[[Rec l lp .ready none],[DfM d]]) (F:=F'++X) h
 ·rintro A' G w hA' ⟨F,rfl,hi⟩ h;refine wW h.toFront 0 rfl (by simp) λw h=>hc d A' F w hA' hi h
 ·rintro w hh;exact hh.elim
end
end Go.Dm
namespace Go.Proofs.YtimahgbgejngiaaGreatDoor
open Go.Dm
attribute [local irreducible] L.load L.store L.chk L.new L.nonnil L.guard L.ite L.draw L.idx L.sem L.semR L.semU L.chkSem L.next L.call L.callV L.join L.alts L.loop L.begin L.endRound L.range
variable {w0 w:World}{E:List Seg}
def nP:List UInt8→Nat
 | x::y::t=>if t.length<x.toNat*256+y.toNat then t.length else x.toNat*256+y.toNat
 | l=>l.length
def bdP:List UInt8→List UInt8
 | _::_::t=>t
 | l=>l
def hdP(l:List UInt8):List UInt8:=(bdP l).take (nP l)
def nxP(l:List UInt8):List UInt8:=(bdP l).drop (nP l)
def rsP:Nat→List UInt8→List UInt8
 | 0,l=>l
 | j+1,l=>nxP (rsP j l)
def iS(l:List UInt8):nP l≤(bdP l).length:=by
 rcases l with _ | ⟨x,_ | ⟨y,t⟩⟩
 ·exact Nat.le_refl _
 ·exact Nat.le_refl _
 ·show(if t.length<x.toNat*256+y.toNat then t.length else x.toNat*256+y.toNat)≤t.length;split<;>omega
def Rp{l:List UInt8}(h:l≠[]):(nxP l).length<l.length:=by
 unfold nxP;rw[List.length_drop];rcases l with _ | ⟨x,_ | ⟨y,t⟩⟩
 ·exact absurd rfl h
 ·show 1-1<1;decide
 ·show t.length-_<t.length+1+1;omega
def Rd.noneU{v:Sl}{l:List UInt8}(r:Rd w eU v l):v.a=none→l = []:=λhv=>by
 cases l with
 | nil=>rfl
 | cons x l=>
  obtain⟨a,ha,-⟩:=r.rd 0 (.int .u8 x.toNat) rfl;rw[hv]at ha;cases ha
def Rd.ckU{v:Sl}{l:List UInt8}(r:Rd w eU v l){i:Nat}{a:Addr}(ha:ElA v 1 i a){x:UInt8}(hx:l[i]? = some x){k:PT}(hk:k w):L.chk a [.int .u8 (x.toNat:Int)] k w:=by
 have h:=r.ld0 Gy ha hx (lf:=.int .u8) (kk:=λ(y:Int) w=>y=(x.toNat:Int)∧k w) (w:=w) (u:=.int .u8 (x.toNat:Int)) (y:=(x.toNat:Int)) rfl rfl ⟨rfl,hk⟩;unfold L.load at h;obtain⟨y,hc,rfl,hk⟩:=h;unfold L.chk;exact⟨hc,hk⟩
def RdV.dr{v:Sl}{l:List UInt8}(r:RdV w0 E v l)(hl:v.len=l.length){n:Nat}(hn:n≤l.length):RdV w0 E ⟨if v.cap=n then v.a else Option.map (λa:Addr=>a.add (n*1)) v.a,v.len-n,v.cap-n⟩ (l.drop n):=by
 have hc:=r.c;refine⟨λw hw=>?_,?_,?_⟩
 ·have:=(r.r w hw).cut Gy n l.length hn (Nat.le_refl _) hc.1 (v.cap-n);rw[List.take_length,←hl]at this;exact this
 ·show v.len-n≤v.cap-n∧v.cap-n≤maxLen;omega
 ·have:=r.few;rw[List.length_drop];omega
def sub2{X Y:Seg}{F:List Seg}(h:St w0 (X::Y::F) w):St w0 [Y] w:=by
 refine h.sub ⟨X++F.flatten,?_⟩;simp only[List.flatten_cons,List.flatten_nil,List.append_nil];exact(List.perm_append_comm_assoc ..)
def aZ(c:Nat){sb:Seg}{l:List UInt8}{n:Nat}(hn:rsP n l = [])(hlt:∀j,j<n→rsP j l≠[]) :
  z2n Pr w0 n (λj G=>∃v,G = [scC c v,sb]∧RdV w0 [sb] v (rsP j l)) (λj G=>∃v,G = [scC c v,sb]∧RdV w0 [sb] v (bdP (rsP j l))) (.func (.func xS) #[] #[.pointer (some ⟨c,0,none⟩)])
   (λj v s=>Rw eU Uw 1 v (hdP (rsP j l)) s):=by
 intro yv R J Jd A F w hA h hJ step fin fin2;obtain⟨v,rfl,r⟩:=hA;refine⟨Tq,TO yv ⟨c,0,none⟩ ?_⟩;unfold OM;have h:St w0 (scC c v::sb::F) w:=h;have hml:maxLen=9223372036854775807:=rfl;refine zX (λq y w=>∃(j:Nat)(v:Sl)(F:List Seg),q=(rsP j l).length∧j≤n∧RdV w0 [sb] v (rsP j l)∧J j F∧St w0 (scC c v::sb::F) w) l.length ⟨0,v,F,rfl,by omega,r,hJ,h⟩ ?_;clear hJ r;clear h;rintro q y w ⟨j,v,F,rfl,hjn,r,hJ,h⟩ again hag
 (try dsimp only)
 have hl:v.len=(rsP j l).length:=(r.r w (sub2 h)).len;have hnx:rsP (j+1) l=nxP (rsP j l):=rfl;have hc:=r.c;have hfew:=r.few
 (refine ldC h ?_)
 by_cases he:rsP j l = []
 ·have hj:j=n:=by
   rcases Nat.lt_or_ge j n with h1 | h1
   ·exact absurd he (hlt j h1)
   ·omega
  subst hj;refine itF (decide_eq_false (by dsimp only;rw[hl,he];decide)) ?_;exact fin _ F w ⟨v,rfl,r⟩ hJ h
 have hjlt:j<n:=by
  rcases Nat.lt_or_ge j n with h1 | h1
  ·exact h1
  ·have:j=n:=by omega
   subst this;exact absurd hn he
 have hstep:=step j;dsimp only at hstep;generalize hlj:rsP j l=lj at *
 have hpos:0<lj.length:=List.length_pos_iff.2 he;refine itT (decide_eq_true (by dsimp only;omega)) ?_;refine ZC (λ(z:Int×Unit) w=>z=((nP lj:Int),())∧∃v,RdV w0 [sb] v (bdP lj)∧St w0 (scC c v::sb::F) w) (λk4 hk4=>?_) ?_
 ·(refine ldC h ?_)
  rcases lj with _ | ⟨x,_ | ⟨y,t⟩⟩
  ·exact absurd rfl he
  ·refine itT (decide_eq_true (by rw[hl];show((1:Nat):Int)<2;decide)) ?_
   (refine ldC h ?_)
   have e:((v.len:Nat):Int)=((nP [x]:Nat):Int):=by rw[hl];rfl
   rw[e];exact hk4 _ w ⟨rfl,v,r,h⟩
  simp only[List.length_cons]at hl hfew;refine itF (decide_eq_false (by dsimp only;omega)) ?_;refine ZC (λ(z:Int×Unit) w=>z=((nP (x::y::t):Int),())∧St w0 (scC c v::sb::F) w) (λk8 hk8=>?_) ?_
  ·have hv:(if(Wi (((v.len:Nat):Int)-2))<(Wi (((BitVec.ofInt 64 (Wi ((Wi (x.toNat:Int))*2 ^ (min (Int.toNat 8) 64)))) ||| (BitVec.ofInt 64 (Wi (y.toNat:Int)))).toNat:Int))then(Wi (((v.len:Nat):Int)-2))else(Wi (((BitVec.ofInt 64 (Wi ((Wi (x.toNat:Int))*2 ^ (min (Int.toNat 8) 64)))) ||| (BitVec.ofInt 64 (Wi (y.toNat:Int)))).toNat:Int)))=((nP (x::y::t):Nat):Int):=by
    have hx:=x.toNat_lt;have hy:=y.toNat_lt;rw[wr (n:=(x.toNat:Int)) (by omega) (by omega),sU (a:=x.toNat) (by omega) (by omega),wr (n:=((v.len:Nat):Int)-2) (by omega) (by omega)];unfold nP;dsimp only;split<;>split<;>omega
   (refine dr h ?_;clear h;intro w h;refine ldC h ?_)
   refine Rd.ix (r.r w (sub2 h)) Gy (n:=(0:Int)) (by decide) (by simp) λa11 ha11=>?_;refine Rd.ld0 (r.r w (sub2 h)) Gy ha11 (x:=x) rfl rfl rfl ?_
   (refine ldC h ?_)
   refine Rd.ix (r.r w (sub2 h)) Gy (n:=(1:Int)) (by decide) (by simp) λa14 ha14=>?_;refine Rd.ld0 (r.r w (sub2 h)) Gy ha14 (x:=y) rfl rfl rfl ?_
   (refine ldC h ?_)
   refine VD ?_ ?_
   ·(refine ckC h ?_)
    refine Rd.ckU (r.r w (sub2 h)) ha14 (x:=y) rfl ?_
    (refine ckC h ?_)
    refine gd (by decide) ?_
    (refine ckC h ?_)
    refine Rd.ckU (r.r w (sub2 h)) ha11 (x:=x) rfl ?_
    (refine ckC h ?_)
    rw[hv];exact hk8 _ w ⟨rfl,h⟩
   ·(refine ckC h ?_)
    refine Rd.ckU (r.r w (sub2 h)) ha11 (x:=x) rfl ?_
    (refine ckC h ?_;refine ckC h ?_)
    refine Rd.ckU (r.r w (sub2 h)) ha14 (x:=y) rfl ?_
    (refine ckC h ?_)
    refine gd (by decide) ?_;rw[hv];exact hk8 _ w ⟨rfl,h⟩
  ·clear h;rintro z w ⟨rfl,h⟩
   (try dsimp only)
   (refine ldC h ?_)
   refine gd (by dsimp only;omega) ?_
   (refine stC h ?_;clear h;intro w h;dsimp only[zE,zd]at h)
   exact hk4 _ w ⟨rfl,_,r.dr hl (n:=2) (by simp),h⟩
 clear hl hc hfew r;clear h;rintro z w ⟨rfl,v,r,h⟩
 (try dsimp only)
 have hl:v.len=(bdP lj).length:=(r.r w (sub2 h)).len;have hnp:=iS lj;have hc:=r.c;have hfew:=r.few
 (refine ldC h ?_)
 refine gd (by dsimp only;omega) ?_;have rd:Rd w eU ⟨if v.cap=0 then v.a else Option.map (λa:Addr=>a.add (0*1)) v.a,nP lj-0,v.cap-0⟩ (hdP lj):=by
  have:=(r.r w (sub2 h)).cut Gy 0 (nP lj) (Nat.zero_le _) hnp hc.1 (v.cap-0);rw[List.drop_zero]at this;exact this
 refine Ey (v:=⟨if v.cap=0 then v.a else Option.map (λa:Addr=>a.add (0*1)) v.a,nP lj-0,v.cap-0⟩) h rd (by unfold hdP;rw[List.length_take];omega) (Rd.noneU rd) λv' s' w hr h=>?_;have h:=Zm (Zm h);have step:=hstep v' s' [scC c v,sb] F [] w hjlt hr ⟨v,rfl,r⟩ hJ (by simpa using h);refine cv (xw.mono step λu w' hu=>?_);rcases hu with ⟨rfl,F',h,hJ⟩ | ⟨rfl,hd⟩
 ·refine⟨true,rfl,itF rfl ?_⟩;have h:St w0 (scC c v::sb::F') w':=by simpa using h
  (refine ldC h ?_)
  refine gd (by dsimp only;omega) ?_
  (refine stC h ?_;clear h;intro w h;dsimp only[zE,zd]at h)
  refine hag (nxP lj).length () w (Rp he) ⟨j+1,⟨if v.cap=nP lj then v.a else Option.map (λa:Addr=>a.add (nP lj*1)) v.a,v.len-nP lj,v.cap-nP lj⟩,F',by rw[hnx],hjlt,?_,hJ,h⟩;rw[hnx];exact r.dr hl hnp
 ·exact⟨false,rfl,itT rfl (fin2 w' hd)⟩
structure z0G(l:List UInt8)(n:Nat)(Z:List (Sl×Seg)):Prop where
 len:Z.length=n
 at':∀i z,Z[i]? = some z→Rw eU Uw 1 z.1 (hdP (rsP i l)) z.2
def z0C{sb:Seg}{v:Sl}{l:List UInt8}(h:St w0 (sb::E) w)(r:RdV w0 [sb] v l){n:Nat}(hn:rsP n l = [])(hlt:∀j,j<n→rsP j l≠[])(hn1:n≤1000){k:Sl→PT}
  (hk:∀v' sv Z w',z0G l n Z→Rw eV yO 1 v' (Z.map (·.1)) sv→St w0 (sv::(Z.map (·.2)++sb::E)) w'→k v' w') :
  L.call Pr fD [SlV v] (.one (.one .slice)) k w:=by
 refine za (rq v) ?_;unfold cQ;refine nw h ?_;clear h;intro b1 w h;refine Eb (v:=v) h λc w h=>?_;have h:=yL (Zm h);have h:St w0 ([scC c v,sb]++([]::[Cl b1 Zg [.slice none 0 0]]::E)) w:=h.eq (by simp)
 refine aj (A:=[scC c v,sb]) (F:=[]::[Cl b1 Zg [.slice none 0 0]]::E) (aZ c hn hlt) ⟨v,rfl,r⟩ h
  (λj G=>∃Z v' s',z0G l j Z∧Rw eV yO 1 v' (Z.map (·.1)) s'∧G=s'::[Cl b1 Zg [SlV v']]::(Z.map (·.2)++E)) ?_ ?_ ?_
 ·exact⟨[],⟨none,0,0⟩,[],⟨rfl,λi z hi=>by simp at hi⟩,Rw.nil,rfl⟩
 ·clear h;rintro j vp sp B F X w l' lp d R hj hp ⟨v2,rfl,r2⟩ ⟨Z,v',s',hZ,hr,rfl⟩ h hN;have h:St w0 ([Rec l' lp .busy none]::[DfM d]::scC c v2::sb::sp::s'::[Cl b1 Zg [SlV v']]::((Z.map (·.2)++E)++X)) w:=h
  (refine ldC h ?_)
  refine nw h ?_;clear h;intro b9 w h;have hzl:(Z.map (·.1)).length=j:=by rw[List.length_map,hZ.len]
  refine Rw.app RI elV h 5 rfl hr vp rfl (by omega) (by omega) λv'' s'' w hr' h=>?_;dsimp only[zd]at h
  (refine stC h ?_;clear h;intro w h;dsimp only[zE,zd]at h)
  refine hN (s''::[Cl b1 Zg [SlV v'']]::((Z++[(vp,sp)]).map (·.2)++E)) w ⟨Z++[(vp,sp)],v'',s'',⟨by rw[List.length_append,hZ.len];rfl,λi z hi=>?_⟩,by rw[List.map_append];exact hr',rfl⟩ ?_
  ·rcases Nat.lt_or_ge i Z.length with h1 | h1
   ·rw[List.getElem?_append_left h1]at hi;exact hZ.at' i z hi
   ·rw[List.getElem?_append_right h1]at hi;have hi0:i-Z.length=0:=by
     rcases Nat.eq_zero_or_pos (i-Z.length)with h2 | h2
     ·exact h2
     ·rw[List.getElem?_eq_none (by simp;omega)]at hi;cases hi
    rw[hi0]at hi
    cases hi
    have:i=j:=by have:=hZ.len;omega
    subst this;exact hp
  ·refine h.perm ?_
   classical
   refine List.perm_iff_count.2 λa=>?_;have e0:Cl b1 Zg [Value.slice v''.a v''.len v''.cap]=Cl b1 Zg [SlV v'']:=rfl;rw[e0];simp only[List.flatten_cons,List.flatten_append,List.flatten_nil,List.count_append,List.count_cons,List.map_append,List.map_cons,List.map_nil,List.cons_append,List.nil_append,List.count_nil];omega
 ·clear h;rintro d A F w ⟨v2,rfl,r2⟩ ⟨Z,v',s',hZ,hr,rfl⟩ h;have h:St w0 ([DfM d]::scC c v2::sb::s'::[Cl b1 Zg [SlV v']]::(Z.map (·.2)++E)) w:=h;have hzl:(Z.map (·.1)).length=n:=by rw[List.length_map,hZ.len]
  refine VA ?_
  (refine ldC h ?_)
  refine Ew h (Rw.rd RI h 3 rfl hr) (by omega) (Rw.nil_of RI hr) λv2 s2 w hr2 h=>?_
  (first | refine gu h ?_ | refine gq h ?_ | refine gp h ?_ | refine gm h ?_ | refine gk h ?_ | refine gj h ?_ | refine gi h ?_ | refine gh h ?_ | refine gg h ?_ | refine gf h ?_ | refine Ua h ?_ | refine uZ h ?_);clear h;intro w h
  refine⟨_,rfl,hk v2 s2 Z w hZ hr2 ?_⟩;have h:=yw (Qj (uU h));refine h.perm ?_
  classical
  refine List.perm_iff_count.2 λa=>?_;simp only[List.flatten_cons,List.flatten_append,List.flatten_nil,List.count_append,List.count_cons,List.cons_append,List.nil_append,List.count_nil];omega
def HD{c:Nat}{v:Sl}{vs:List Sl}{sv:Seg}(hr:Rw eV yO 1 v vs sv)(hn:vs.length≤1000):LL Pr w0 [[Cl c Zg [SlV v]],sv] (.func (.func yb) #[] #[.pointer (some ⟨c,0,none⟩)]) vs.length λj=>TV [.one .slice] (vs[j]?.getD ⟨none,0,0⟩,()):=by
 intro yv R J Jd F w h hJ step fin fin2;refine⟨ko,ku yv ⟨c,0,none⟩ ?_⟩;unfold qg;have h:St w0 ([Cl c Zg [SlV v]]::sv::F) w:=h;have hl:v.len=vs.length:=Rw.len RI hr
 (refine ldC h ?_)
 refine zX (λq y w=>∃(j:Nat)(F:List Seg),y=((j:Int),())∧q+j=vs.length∧J j F∧St w0 ([Cl c Zg [SlV v]]::sv::F) w) vs.length ⟨0,F,rfl,rfl,hJ,h⟩ ?_;clear hJ;clear h;rintro q y w ⟨j,F,rfl,hq,hJ,h⟩ again hag
 (try dsimp only)
 refine it (λhb=>?_) (λhb=>?_)<;>(try simp only[zB]at hb)
 ·have hj:j<vs.length:=by omega
  have hx:vs[j]? = some vs[j]:=List.getElem?_eq_getElem hj;have step:=step j F [] w hj hJ (by simpa using h);dsimp only at step;rw[hx]at step;generalize vs[j]=vp at hx step;refine Rw.ix RI hr (n:=(j:Int)) (by omega) (by simpa using hj) λa4 ha=>?_;simp only[Int.toNat_natCast]at ha;refine Rw.ld0 RI h 1 rfl hr ha (x:=vp) hx rfl rfl ?_;refine cv (xw.mono step λu w' hu=>?_);rcases hu with ⟨rfl,F',h,hJ⟩ | ⟨rfl,hd⟩
  ·refine⟨true,rfl,itF rfl ?_⟩;refine hag (q-1) _ w' (by omega) ⟨j+1,F',?_,by omega,hJ,by simpa using h⟩;have e3:Wi ((j:Int)+1)=((j+1:Nat):Int):=by rw[wr (by omega) (by omega)];omega
   rw[e3]
  ·exact⟨false,rfl,itT rfl (fin2 w' hd)⟩
 ·have hj:j=vs.length:=by omega
  subst hj;exact fin F w hJ h
def nq{sb:Seg}{v:Sl}{l:List UInt8}(h:St w0 (sb::E) w)(r:RdV w0 [sb] v l){n:Nat}(hn:rsP n l = [])(hlt:∀j,j<n→rsP j l≠[])(hn1:n≤1000){k:FV→PT}
  (hk:∀c v' sv Z w',z0G l n Z→Rw eV yO 1 v' (Z.map (·.1)) sv→St w0 ([Cl c Zg [SlV v']]::sv::(Z.map (·.2)++sb::E)) w'→k ⟨.func yb,#[],#[.pointer (some ⟨c,0,none⟩)]⟩ w') :
  L.call Pr oQ [SlV v] (.one (.one .func)) k w:=by
 refine za (nI _) ?_;unfold Mp;refine z0C h r hn hlt hn1 λv' sv Z w hZ hr h=>?_;refine za (KW v') ?_;unfold Qv;refine nw h ?_;clear h;intro c w h;exact⟨_,rfl,_,rfl,hk c v' sv Z w hZ hr h⟩
abbrev toB(b:Nat)(v:Sl):Seg:=[Cl b cG [SlV v]]
def Ao(h:St w0 E w){v:Sl}{l:List B0}(r:Rd w eS v l)(hn:l.length<1000000000)(h64:v.a=none→l = []){k:Sl→PT}
  (hk:∀v' s' w',Rw eS zc 1 v' l s'→St w0 (s'::E) w'→k v' w'):L.call Pr ZX [SlV v] (.one (.one .slice)) k w:=by
 refine za (XI v) ?_;unfold jP;exact qD (K:=λv w'=>∃x,v=RT.val (.one (.one .slice)) x∧k x w') yu elS h r (by omega) (by omega) h64 λv' s' w' h1 h2 h3=>⟨v',rfl,hk v' s' w' h1 h3⟩
end Go.Proofs.YtimahgbgejngiaaGreatDoor
namespace Go.Proofs.YtimahgbgejngiaaGreatDoor
open Go.Dm
def Lp{k:Nat}{F:zk}{G:Zq}(ok:G.Ok)(h:GtI k G)(rev:B0):(JD F G rev).2.2.length≤8:=by
 have h1:=(mb (F:=F) ok rev).1;have h2:=h.room;omega
def BS{k0:Nat}{a:Zd}(inv:Yj k0 a)(ok:SOk a)(hk0:k0≤9000){e:AEv}:(ZA a e).2.length≤80000:=by
 have one:∀x:B0,[x].length≤80000:=λx=>by show 1≤80000;decide
 have rf:∀n,(JU n).length≤80000:=λn=>one _;have dn:(vD a e).2.length≤80000:=by
  unfold vD;split
  ·exact rf _
  ·have h1:=(Py inv.fl e.n).2;have h2:=(kJ (l:=(Xd a.fl e.n).2.1) (all:=a.gt.all) (out:=[])).1;dsimp only;rw[List.length_cons,List.length_map];unfold Oo;simp only[List.length_nil]at h2;dsimp only;omega
 by_cases hb:¬Zz e=0
 ·rw[Ni hb];exact one _
 have hb:Zz e=0:=Classical.not_not.1 hb;rcases MO hb with hc | hc | hc | hc | hc | hc | hc | hc | hc | hc | hc | hc | hc
 ·rw[CE hb hc];unfold US al;dsimp only;split<;>exact one _
 ·rw[CD hb hc];unfold kN al;dsimp only;split<;>exact one _
 ·rw[CC hb hc];unfold ob;repeat' split
  all_goals exact one _
 ·rw[CB hb hc];unfold qX;split
  ·show 2≤80000;decide
  ·exact one _
 ·rw[CA hb hc];unfold VY;dsimp only;split
  ·exact rf _
  ·rw[List.length_map];unfold qb;split
   ·exact Nat.zero_le _
   ·have hid:=(fO hb (by omega)).1;have hla:=inv.gt.all;have hg:GtI (k0+1) { a.gt with all:=Zp a.gt.all e.n ((Yd a.fl e.n).2.1,3) }:=inv.gt.req (by omega) (by have:=JA a.gt.all e.n ((Yd a.fl e.n).2.1,3);omega) (Uu inv.gt.ids hid) λq=>uG _ _ _ _;have:=Lp (F:=(Yd a.fl e.n).1) (ok.gt.req (by omega) e.n ((Yd a.fl e.n).2.1,3)) hg (Yd a.fl e.n).2.1;dsimp only at this ⊢;rw[List.length_cons];omega
 ·rw[Cz hb hc];unfold pY;split
  ·exact rf _
  ·have:=Lp (F:=(qn a.fl e.n).1) ok.gt inv.gt (fOf (qn a.fl e.n).1.l e.n);have h2:(oJ a e).2.2.length≤8:=this;have h3:(Cr a e).length≤2:=by
    unfold Cr;split<;>simp
   dsimp only;rw[List.length_append,List.length_map];omega
 ·rw[oc hb (.inl hc)];exact dn
 ·rw[oc hb (.inr hc)];exact dn
 ·rw[Cy hb hc];unfold VW;split
  ·exact rf _
  ·have:=(Tc ok.gt inv.gt (a.now+1)).2.2;have h2:(tkG a).2.length≤8*k0:=this;dsimp only;rw[List.length_cons,List.length_map];omega
 ·rw[Pc hb hc];unfold Uc;repeat' split
  all_goals first | exact rf _ | exact one _ | (show 2≤80000;decide)
 ·rw[Pb hb hc];unfold VX;repeat' split
  all_goals first | exact rf _ | exact one _ | exact Nat.zero_le _
 ·rw[Pa hb hc];unfold vM;repeat' split
  all_goals first | exact rf _ | exact one _ | exact Nat.zero_le _
 ·rw[pZ hb hc];unfold Ud;split
  ·exact rf _
  ·rename_i hh;have hh:jt a.bk e.name=true:=by simpa using hh
   have hlast:=inv.fl.last;have hlen:=inv.fl.few.l;have hroom:=inv.fl.few.r;unfold jy at hroom;have hcc:UZ a e.name≤1000:=Int.le_trans (qY (inv.bk.cfg _ (Qk hh))).2.2.1.2 (by decide);have hgo:=(dc ok.fl (rev:=e.name) (conc:=UZ a e.name) (want:=jX a e.name) (by omega) (by omega) (by omega)).2;have hgn:=fJ a.fl e.name (jX a e.name);have hm:(ov a.fl e.name (jX a e.name)).length=uK a.fl e.name (jX a e.name):=by unfold ov;rw[List.length_map,List.length_range]
   dsimp only;unfold dJ;simp only[List.length_append,List.length_map,List.length_singleton,hm];omega
end Go.Proofs.YtimahgbgejngiaaGreatDoor
namespace Go.Proofs.YtimahgbgejngiaaGreatDoor
open Go.Dm
attribute [local irreducible] L.load L.store L.chk L.new L.nonnil L.guard L.ite L.draw L.idx L.sem L.semR L.semU L.chkSem L.next L.call L.callV L.join L.alts L.loop L.begin L.endRound L.range
variable {w0 w:World}{E:List Seg}
def dG(a:Zd)(l:List UInt8):Zd×List B0:=if(pEv l).2=0 then ZA a (pEv l).1 else(a,[qt++Ca (pEv l).2])
structure z0E(ks:Int→Bool)(a:Zd)(l:List UInt8):Prop where
 ks:(pEv l).2=0→ks (pEv l).1.kind=true
 sh:a.sh.n<99
def Iz{l:List UInt8}(h:(pEv l).2=0):(pEv l).1=(prA l).1∧Zz (prA l).1=0:=by
 unfold pEv at h ⊢
 repeat' split at h
 all_goals first | (cases h;done) | skip
 ·rename_i h1 h2 h3 h4 h5;exact absurd h h5
 ·rename_i h1 h2 h3 h4 h5;rw[if_neg h1,if_neg h2,if_neg h3,if_neg h4,if_neg h5];exact⟨rfl,by simpa using h5⟩
def sR{k0:Nat}{a:Zd}(inv:Yj k0 a)(ok:SOk a)(hk0:k0≤9000)(l:List UInt8):(dG a l).2.length≤80000:=by
 unfold dG;split
 ·exact BS inv ok hk0
 ·show 1≤80000;decide
def EN(a:Zd){e:AEv}{v:Sl}(h:Zz { e with v:=v } = Zz e):ZA a { e with v:=v } = ZA a e:=by
 unfold ZA;rw[h];rfl
def sS{l:List UInt8}:(pEv l).1.name.size≤255∧∀t∈(pEv l).1.r.ts,Qo t.1:=by
 have h0:(cZ 0).name.size≤255∧∀t∈(cZ 0).r.ts,Qo t.1:=⟨Nat.zero_le _,by simp[cZ,wJ]⟩;unfold pEv
 repeat' split
 all_goals first | exact h0 | exact ly l
def Ec [YB w0]{ks:Int→Bool}[Kn w0 ks]{vp vt:Sl}{st s:Seg}{bs bt:Nat}{a:Zd}{lt:List B0}{l:List UInt8}{E0:List Seg}(sub:∀w,St w0 E w→St w0 E0 w)(r:RdV w0 E0 vp l)(ok:z0E ks a l)
  (hs:Jq bs a s) (ht:Rw eS zc 1 vt lt st) {k0:Nat} (inv:Yj k0 a) (hk0:k0≤9000) (hlt:lt.length≤100000000) (h:St w0 (s::toB bt vt::st::E) w) {k:Unit→PT}
  (hk:∀vt' st' s' w',(dG a l).2.length≤80000→Rw eS zc 1 vt' (lt++(dG a l).2) st'→Jq bs (dG a l).1 s'→Yj (k0+2) (dG a l).1→St w0 (s'::toB bt vt'::st'::E) w'→k () w') :
  L.call Pr Up [pO bt,.pointer (some ⟨bs,0,none⟩),SlV vp] (.tup []) k w:=by
 refine za (EZ (some ⟨bt,0,none⟩) (some ⟨bs,0,none⟩) vp) ?_;unfold bv;refine nw h ?_;clear h;intro b1 w h;have hsub:∀w,St w0 ([Cl b1 yV [.pointer (some ⟨bt,0,none⟩)]]::s::toB bt vt::st::E) w→St w0 E0 w:=λw h=>sub w (zj (zj (zj (zj h))));refine iE h ⟨λw hw=>r.r w (hsub w hw),r.c,r.few⟩ λve se w hve hcv h=>?_;have hout:=sR inv hs.ok hk0 l;have hok:=Iz (l:=l);have hks:=ok.ks;have hsz:=sS (l:=l);have hv2:=λhh=>EN a (v:=ve) (e:=(pEv l).1) hh;unfold dG at hk hout;have hbs:(Ca (pEv l).2).size≤100:=Bq _;generalize pEv l=t at *
 obtain⟨e,no⟩:=t;simp only at hk hout hok hbs hks hsz hve hcv hv2 ⊢;refine nw h ?_;clear h;intro b3 w h
 (refine stC h ?_;clear h;intro w h;dsimp only[zE,zd]at h)
 refine BK ?_;have hb4:(qt).size=4:=rfl;have hm64:XT=9223372036854775807:=rfl;refine gd (by rw[hb4];omega) ?_;refine nw h ?_;clear h;intro b5 w h;refine nw h ?_;clear h;intro b6 w h
 (refine stC h ?_;clear h;intro w h;dsimp only[zE,zd]at h)
 by_cases h0:no=0
 ·subst h0;rw[if_pos rfl]at hk hout;obtain⟨he,hch⟩:=hok rfl;refine itT rfl ?_
  (refine laC h ?_)
  have hcap:=Rw.cap hve;refine z2v (ks:=ks) (e:={ e with v:=ve }) h 5 rfl hs (hks rfl) (by rw[hcv,he];exact hch) ⟨Rw.re Vn 3 rfl hve,hcap.1,Rw.nil_of Vn hve,hsz.2,λ_=>by have:=hsz.1;dsimp only;omega⟩ inv hk0 ok.sh λv sv s' w r hs inv h=>?_;rw[hv2 hcv]at r hs inv;dsimp only[zd]at h;have hl:=Rw.len yu r;unfold xI
  (refine stC h ?_;clear h;intro w h;dsimp only[zE,zd]at h;refine dr h ?_;clear h;intro w h;refine ldC h ?_;refine ldC h ?_;refine nn ?_;refine ldC h ?_;refine ldC h ?_)
  refine Rw.appRd yu elS h 8 rfl ht (Rw.rd yu h 0 rfl r) (by omega) (by omega) λvt' st' w ht' _ _ h=>?_;dsimp only[zd]at h
  (refine ckC h ?_;refine nn ?_;refine stC h ?_;clear h;intro w h;dsimp only[zE,zd]at h)
  refine⟨(),rfl,hk vt' st' s' w hout ht' hs inv ?_⟩;have h:=zj (yw (uV (Qj (uU (PL h)))));exact h
 ·rw[if_neg h0]at hk hout;refine itF (by simpa using h0) ?_;unfold xI
  (refine dr h ?_;clear h;intro w h;refine ldC h ?_;refine ldC h ?_;refine nn ?_;refine ldC h ?_;refine ldC h ?_)
  have hr5:Rw eS zc 1 ⟨some ⟨b5,0,none⟩,1,1⟩ [qt++Ca no] [Cl b5 zc [.string (qt++Ca no)]]:=Rw.lit b5 [qt++Ca no] yu rfl rfl (by decide);refine Rw.appRd yu elS h 7 rfl ht (Rw.rd yu h 1 rfl hr5) (by simp only[List.length_cons,List.length_nil];omega) (by simp only[List.length_cons,List.length_nil];omega) λvt' st' w ht' _ _ h=>?_;dsimp only[zd]at h
  (refine ckC h ?_;refine nn ?_;refine stC h ?_;clear h;intro w h;dsimp only[zE,zd]at h)
  refine⟨(),rfl,hk vt' st' s w hout ht' hs (inv.mono (by omega)) ?_⟩;have h:=zj (yw (uV (Qj (uU h))));exact h
def tP(q:Zd×List B0)(l:List UInt8):Zd×List B0:=((dG q.1 l).1,q.2++(dG q.1 l).2)
def vP(a:Zd)(ls:List (List UInt8)):Zd×List B0:=ls.foldl tP (a,[])
def dF{a:Zd}{ls:List (List UInt8)}{j:Nat}{l:List UInt8}(h:ls[j]? = some l):vP a (ls.take (j+1))=tP (vP a (ls.take j)) l:=by
 unfold vP;rw[List.take_add_one,h,Option.toList_some,List.foldl_append];rfl
def kU:Nat→List UInt8→List (List UInt8)
 | 0,_=>[]
 | n+1,l=>hdP l::kU n (nxP l)
def fo:∀(n:Nat)(l:List UInt8),(kU n l).length=n
 | 0,_=>rfl
 | n+1,l=>by rw[kU,List.length_cons,fo n]
def wz:∀(j:Nat)(l:List UInt8),rsP j (nxP l)=nxP (rsP j l)
 | 0,_=>rfl
 | j+1,l=>by rw[rsP,rsP,wz j l]
def wE:∀(n:Nat)(l:List UInt8)(j:Nat),j<n→(kU n l)[j]? = some (hdP (rsP j l))
 | 0,_,_,h=>by omega
 | n+1,l,0,_=>rfl
 | n+1,l,j+1,h=>by rw[kU,List.getElem?_cons_succ,wE n (nxP l) j (by omega),wz];rfl
structure z0c(ks:Int→Bool)(a:Zd)(ls:List (List UInt8)):Prop where
 at':∀j l,ls[j]? = some l→z0E ks (vP a (ls.take j)).1 l
 few:ls.length≤1000
def Wh [YB w0]{ks:Int→Bool}[Kn w0 ks]{sb:Seg}{vs:Sl}{l:List UInt8}(h:St w0 (sb::E) w)(r:RdV w0 [sb] vs l){n:Nat}(hn:rsP n l = [])(hlt:∀j,j<n→rsP j l≠[]){room line pat:Int}(hok:og room line pat=true)(hrm:room≤30)
  (sc:z0c ks (Xf room line pat) (kU n l)) {k:Sl×Int×Unit→PT}
  (hk:∀v sv w',Rw eS zc 1 v (vP (Xf room line pat) (kU n l)).2 sv→St w0 (sv::sb::E) w'→k (v,0,()) w') :
  L.call Pr qv [I room,I line,I pat,SlV vs] (.tup [.one .slice,.one (.int .i64)]) k w:=by
 refine za (DQ room line pat vs) ?_;unfold pb;have hfew:=sc.few;rw[fo]at hfew;refine LN h (λhh=>by rw[hok]at hh;cases hh) λ_ bs s w hs h=>?_;have inv0:Yj 0 (Xf room line pat):=He hok hrm;refine nw h ?_;clear h;intro b2 w h
 (refine stC h ?_;clear h;intro w h;dsimp only[zE,zd]at h)
 refine itF rfl ?_;refine nw h ?_;clear h;intro b3 w h;refine nw h ?_;clear h;intro b4 w h
 (refine stC h ?_;clear h;intro w h;dsimp only[zE,zd]at h)
 have h:=yM h;refine nq h r hn hlt hfew λc v sv Z w hZ hr h=>?_;have hzl:(Z.map (·.1)).length=n:=by rw[List.length_map,hZ.len]
 have h:St w0 ([Cl c Zg [SlV v]]::sv::(Z.map (·.2)++sb::[Cl b4 yV [.pointer (some ⟨b3,0,none⟩)]]::toB b3 ⟨none,0,0⟩::[Cl b2 yl [.pointer (some ⟨bs,0,none⟩)]]::s::E)) w:=h;have h:St w0 ([Cl c Zg [SlV v]]::sv::([Cl b4 yV [.pointer (some ⟨b3,0,none⟩)]]::toB b3 ⟨none,0,0⟩::[Cl b2 yl [.pointer (some ⟨bs,0,none⟩)]]::s::[]::(Z.map (·.2)++sb::E))) w:=by
  refine h.perm ?_
  classical
  refine List.perm_iff_count.2 λa=>?_;simp only[List.flatten_cons,List.flatten_append,List.flatten_nil,List.count_append,List.count_cons,List.cons_append,List.nil_append,List.count_nil];omega
 obtain⟨ar,har⟩:∃ar:Nat→TT [.one .slice],ar=λj=>((Z.map (·.1))[j]?.getD ⟨none,0,0⟩,()):=⟨_,rfl⟩;have hY:LL Pr w0 [[Cl c Zg [SlV v]],sv] (.func (.func yb) #[] #[.pointer (some ⟨c,0,none⟩)]) (Z.map (·.1)).length λj=>TV [.one .slice] (ar j):=by rw[har];exact HD hr (by omega)
 refine qZ (es:=[.one .slice]) (arg:=ar) (A:=[[Cl c Zg [SlV v]],sv]) (F:=[Cl b4 yV [.pointer (some ⟨b3,0,none⟩)]]::toB b3 ⟨none,0,0⟩::[Cl b2 yl [.pointer (some ⟨bs,0,none⟩)]]::s::[]::(Z.map (·.2)++sb::E)) hY h
  (λm G=>∃vt st s',Rw eS zc 1 vt (vP (Xf room line pat) ((kU n l).take m)).2 st∧Jq bs (vP (Xf room line pat) ((kU n l).take m)).1 s'∧Yj (2*m) (vP (Xf room line pat) ((kU n l).take m)).1∧(vP (Xf room line pat) ((kU n l).take m)).2.length≤80000*m∧
   G = [Cl b4 yV [.pointer (some ⟨b3,0,none⟩)]]::toB b3 vt::[Cl b2 yl [.pointer (some ⟨bs,0,none⟩)]]::s'::st::(Z.map (·.2)++sb::E)) (λ_ _=>False)
   ?_ ?_ ?_ (λd j G w hh _=>hh.elim)
 ·rw[List.take_zero];exact⟨⟨none,0,0⟩,[],s,Rw.nil,hs,inv0,Nat.le_refl 0,rfl⟩
 ·clear hs inv0;clear h;rintro m F X w l' lp d R hm ⟨vt,st,s',ht,hs,inv,hlen,rfl⟩ h hN hE;rw[hzl]at hm;have hmZ:m<Z.length:=by have:=hZ.len;omega
  have hz:Z[m]? = some Z[m]:=List.getElem?_eq_getElem hmZ;have hat:=hZ.at' m _ hz;have ez:(Z.map (·.1))[m]? = some Z[m].1:=by rw[List.getElem?_map,hz];rfl
  have ear:ar m=(Z[m].1,()):=by rw[har];dsimp only;rw[ez];rfl
  rw[ear];obtain⟨Z1,Z2,eZ,hZl⟩:∃Z1 Z2,Z=Z1++Z[m]::Z2∧Z1.length=m:=⟨Z.take m,Z.drop (m+1),by rw[List.getElem_cons_drop,List.take_append_drop],by rw[List.length_take];have:=hZ.len;omega⟩;have hpc:=wE n l m hm;have ok:=sc.at' m _ hpc;have estep:=dF (a:=Xf room line pat) hpc;generalize hzm:Z[m]=z at *
  obtain⟨vp,sp⟩:=z;dsimp only;have h:St w0 ([Rec l' lp .busy none]::[DfM d]::[Cl c Zg [SlV v]]::sv::[Cl b4 yV [.pointer (some ⟨b3,0,none⟩)]]::toB b3 vt::[Cl b2 yl [.pointer (some ⟨bs,0,none⟩)]]::s'::st::(Z.map (·.2)++sb::E++X)) w:=h
  (refine ldC h ?_;refine ldC h ?_)
  have sub:∀w,St w0 ([Rec l' lp .busy none]::[DfM d]::[Cl c Zg [SlV v]]::sv::[Cl b4 yV [.pointer (some ⟨b3,0,none⟩)]]::[Cl b2 yl [.pointer (some ⟨bs,0,none⟩)]]::(Z.map (·.2)++sb::E++X)) w→St w0 [sp] w:=by
   intro w h;refine h.sub ⟨[Rec l' lp .busy none]++([DfM d]++([Cl c Zg [SlV v]]++(sv++([Cl b4 yV [.pointer (some ⟨b3,0,none⟩)]]++([Cl b2 yl [.pointer (some ⟨bs,0,none⟩)]]++((Z1.map (·.2)).flatten++(Z2.map (·.2)).flatten++sb++E.flatten++X.flatten)))))),?_⟩
   classical
   refine List.perm_iff_count.2 λa=>?_;rw[eZ];simp only[List.flatten_cons,List.flatten_append,List.flatten_nil,List.count_append,List.count_cons,List.cons_append,List.nil_append,List.count_nil,List.map_append,List.map_cons];omega
  have h:=xx (jS (xx h));have hml:maxLen=9223372036854775807:=rfl;have hcap:=Rw.cap hat;have hfw:(hdP (rsP m l)).length<1000000:=by
   have h1:∀j,(rsP j l).length≤l.length:=by
    intro j
    induction j with
    | zero=>exact Nat.le_refl _
    | succ j ih=>
     by_cases he:rsP j l = []
     ·rw[rsP,he];exact Nat.zero_le _
     ·exact Nat.le_trans (Nat.le_of_lt (Rp he)) ih
   have h2:=h1 m;have h3:=r.few;unfold hdP;rw[List.length_take];have h4:(bdP (rsP m l)).length≤(rsP m l).length:=by
    generalize rsP m l=q;rcases q with _ | ⟨x,_ | ⟨y,t⟩⟩
    ·exact Nat.le_refl _
    ·exact Nat.le_refl _
    ·show t.length≤t.length+1+1;omega
   omega
  refine Ec (ks:=ks) (E0:=[sp]) sub ⟨λw hw=>Rw.rd Gy hw 0 rfl hat,hcap,hfw⟩ ok hs ht inv (by omega) (by omega) h λvt' st' s'' w hout ht' hs' inv' h=>?_;refine hN ([Cl b4 yV [.pointer (some ⟨b3,0,none⟩)]]::toB b3 vt'::[Cl b2 yl [.pointer (some ⟨bs,0,none⟩)]]::s''::st'::(Z.map (·.2)++sb::E)) w ⟨vt',st',s'',?_,?_,?_,?_,rfl⟩ ?_
  ·rw[estep];exact ht'
  ·rw[estep];exact hs'
  ·rw[estep];exact inv'
  ·rw[estep];unfold tP;rw[List.length_append];omega
  ·have h:=xx (xx (xx (xx (xx (Ys (xx (yL (Zm h))))))));exact h
 ·clear h;rintro d F w ⟨vt,st,s',ht,hs,inv,hlen,rfl⟩ h;have h:St w0 ([DfM d]::[Cl c Zg [SlV v]]::sv::[Cl b4 yV [.pointer (some ⟨b3,0,none⟩)]]::toB b3 vt::[Cl b2 yl [.pointer (some ⟨bs,0,none⟩)]]::s'::st::(Z.map (·.2)++sb::E)) w:=h;rw[hzl,List.take_of_length_le (Nat.le_of_eq (fo n l))]at ht hlen;refine VA ?_
  (refine ldC h ?_;refine nn ?_;refine ldC h ?_)
  refine Ao h (Rw.rd yu h 7 rfl ht) (by omega) (Rw.nil_of yu ht) λv2 s2 w hr2 h=>?_
  (first | refine gu h ?_ | refine gq h ?_ | refine gp h ?_ | refine gm h ?_ | refine gk h ?_ | refine gj h ?_ | refine gi h ?_ | refine gh h ?_ | refine gg h ?_ | refine gf h ?_ | refine Ua h ?_ | refine uZ h ?_);clear h;intro w h
  refine⟨(v2,0,()),rfl,hk v2 s2 w hr2 ?_⟩;have h:=yw (uV (Qj (uU (PL (nk (z2i h))))));refine h.sub ⟨(Z.map (·.2)).flatten,?_⟩
  classical
  refine List.perm_iff_count.2 λa=>?_;simp only[List.flatten_cons,List.flatten_append,List.flatten_nil,List.count_append,List.count_cons,List.cons_append,List.nil_append,List.count_nil];omega
def MZ{p0 p1:Int}(h:0<p1)(hp:p1≤2147483648){k:Int→PT}(hk:k (p0%p1) w):L.call Pr yq [I p0,I p1] (.one (.one (.int .i64))) k w:=by
 refine za (FE p0 p1) ?_;unfold Vf;refine gd (by omega) ?_;have h1:=Int.emod_nonneg p0 (by omega:p1≠0);have h2:=Int.emod_lt_of_pos p0 h;have e:=WP p0 p1 h;refine ZC (λz w'=>z.1=p0%p1∧w'=w) (λk' hk'=>?_) (λy w' ⟨h1,h2⟩=>by subst h2;exact⟨_,rfl,by rw[h1];exact hk⟩);refine it (λhb=>?_) (λhb=>?_)<;>(try simp only[zB]at hb)
 ·refine hk' _ _ ⟨?_,rfl⟩;rw[e]at hb;dsimp only;rw[e];split at hb<;>rename_i hc
  ·omega
  ·rw[if_neg hc,wr]<;>omega
 ·refine hk' _ _ ⟨?_,rfl⟩;rw[e]at hb;dsimp only;rw[e];split at hb<;>rename_i hc
  ·rw[if_pos hc]
  ·omega
def rX(ks:Int→Bool):Zd×List B0→List (List UInt8)→Bool
 | _,[]=>true
 | q,l::ls=>(!decide ((pEv l).2=0)||ks (pEv l).1.kind)&&(decide (q.1.sh.n<99)&&rX ks (tP q l) ls)
def bW{ks:Int→Bool}:∀{ls:List (List UInt8)}{q:Zd×List B0},rX ks q ls=true→∀j l,ls[j]? = some l→z0E ks ((ls.take j).foldl tP q).1 l
 | [],q,h=>λj l hl=>by simp at hl
 | l::ls,q,h=>by
  simp only[rX,Bool.and_eq_true,decide_eq_true_eq,Bool.or_eq_true,Bool.not_eq_true',decide_eq_false_iff_not]at h;obtain⟨h1,h2,h5⟩:=h;refine λj x hx=>?_
  cases j with
  | zero=>
   simp only[List.getElem?_cons_zero,Option.some.injEq]at hx;subst hx;exact⟨λhh=>h1.resolve_left λhn=>hn hh,h2⟩
  | succ j=>
   simp only[List.getElem?_cons_succ]at hx;exact bW h5 j x hx
def bV{ks:Int→Bool}{a:Zd}{ls:List (List UInt8)}(h:rX ks (a,[]) ls=true)(hl:ls.length≤1000):z0c ks a ls:=⟨bW h,hl⟩
abbrev Hj(k:Int):Bool:=k == 1||k == 4||k == 9||k == 10||k == 12||k == 13
instance knPK [YB w0]:Kn w0 Hj:=⟨by
 intro E w h i b a s hi hs e hks hb ev k0 inv hk0 hn k hk;have hc:e.kind=1∨e.kind=4∨e.kind=9∨e.kind=10∨e.kind=12∨e.kind=13:=by simpa [Hj,or_assoc]using hks
 rcases hc with hc | hc | hc | hc | hc | hc
 ·exact If h i hi hs hb hc ev inv hk0 hn hk
 ·exact Ie h i hi hs hb hc ev inv hk0 hn hk
 ·exact Id h i hi hs hb hc ev inv hk0 hn hk
 ·exact Eu h i hi hs hb hc ev inv hk0 hn hk
 ·exact Et h i hi hs hb hc ev inv hk0 hn hk
 ·exact Es h i hi hs hb hc ev inv hk0 hn hk⟩
def RdV.lit{b:Nat}{l:List UInt8}{cs:List Value}{n:Nat}(hc:fl eU l=cs)(hn:n=l.length)(hl:l.length<1000000):RdV w0 [[Cl b Uw cs]] ⟨some ⟨b,0,none⟩,n,n⟩ l:=by
 have hm:maxLen=9223372036854775807:=rfl;subst hc;have r:Rw eU Uw 1 ⟨some ⟨b,0,none⟩,n,n⟩ l [Cl b Uw (fl eU l)]:=Rw.lit b l Gy rfl hn (by omega);exact⟨λw hw=>Rw.rd Gy hw 0 rfl r,⟨Nat.le_refl _,by dsimp only;omega⟩,hl⟩
def Ix:rX Hj (Xf 1 1 1,[]) (kU 1 [0,1,9])=true∧(vP (Xf 1 1 1) (kU 1 [0,1,9])).2 = [fe]:=by decide +kernel
def z27:∀j,j<1→rsP j [0,1,9]≠[]:=λj hj=>by
 have:j=0:=by omega
 subst this;decide
def Ai [YB w0]{ks:Int→Bool}[Kn w0 ks](hks:ks 9=true)(h:St w0 E w){k:Bool→PT}(hk:∀w',St w0 E w'→k true w'):L.call Pr QD [] (.one (.one .bool)) k w:=by
 refine za mM ?_;unfold VR;have hl9:(kU 1 [0,1,9]) = [[9]]:=by decide
 have h:St w0 ([]::E) w:=h.eq (by simp);refine Wh (ks:=ks) (n:=0) h (l:=[]) ⟨λw hw=>Rd.nil,⟨Nat.le_refl 0,Nat.zero_le _⟩,by decide⟩ rfl (λj hj=>by omega) (by decide) (by decide) (bV rfl (by decide)) λv sv w r h=>?_;have hv0:v.len=0:=Rw.len yu r;refine nw h ?_;clear h;intro b2 w h;refine Wh (ks:=ks) (n:=1) (l:=[0,1,9]) h (RdV.lit rfl rfl (by decide)) (by decide) z27 (by decide) (by decide) (bV ?_ (by decide)) λv3 sv3 w r3 h=>?_
 ·rw[hl9];have e1:(pEv [9]).1.kind=9:=by decide
  simp only[rX,e1,hks,Bool.or_true,Bool.true_and,Bool.and_true,decide_eq_true_eq];decide
 rw[Ix.2]at r3;have l3:v3.len=1:=Rw.len yu r3;refine itT (by rw[hv0];rfl) (itT rfl (itT rfl (itT (by rw[l3];rfl) ?_)));refine Rw.ix yu r3 (n:=(0:Int)) (by decide) (by decide) λa ha=>?_;refine Rw.ld0 yu h 0 rfl r3 ha (x:=fe) rfl rfl rfl ?_;refine⟨true,?_,hk w ?_⟩
 ·show Value.bool (fe.toList == fe.toList)=Value.bool true;rw[beq_self_eq_true]
 ·have h:=zj (yw (uV (Qj h)));exact h
def iV(l:List B0):B0:=l.foldl (λt x=>(t++x)++s__) s_
structure PkB(l:List UInt8)(n:Nat)(t:B0):Prop where
 e:rsP n l = []
 ne:∀j,j<n→rsP j l≠[]
 sc:rX Hj (Xf 3 2 5,[]) (kU n l)=true
 t:iV (vP (Xf 3 2 5) (kU n l)).2=t
 few:(vP (Xf 3 2 5) (kU n l)).2.length≤1000
 sm:∀j,j≤(vP (Xf 3 2 5) (kU n l)).2.length→(iV ((vP (Xf 3 2 5) (kU n l)).2.take j)).size≤1000
def LQ(h:St w0 E w){room line pat:Int}{k:Option Addr×Int×Unit→PT}(h0:og room line pat=false→∀w',St w0 E w'→k (none,2,()) w')
  (h1:og room line pat=true→∀b w',St w0 E w'→k (some b,0,()) w'):L.call Pr Ut [I room,I line,I pat] (.tup [.one .ptr,.one (.int .i64)]) k w:=by
 refine za (tr _ _ _) ?_;unfold oF;unfold og wiB at h0 h1;refine it (λc1=>?_) (λc1=>?_)<;>(try simp only[zB]at c1)
 ·exact⟨(none,2,()),rfl,h0 (by simp;omega) w h⟩
 refine it (λc2=>?_) (λc2=>?_)<;>(try simp only[zB]at c2)
 ·exact⟨(none,2,()),rfl,h0 (by simp;omega) w h⟩
 refine it (λc3=>?_) (λc3=>?_)<;>(try simp only[zB]at c3)
 ·exact⟨(none,2,()),rfl,h0 (by simp;omega) w h⟩
 refine it (λc4=>?_) (λc4=>?_)<;>(try simp only[zB]at c4)
 ·exact⟨(none,2,()),rfl,h0 (by simp;omega) w h⟩
 refine it (λc5=>?_) (λc5=>?_)<;>(try simp only[zB]at c5)
 ·exact⟨(none,2,()),rfl,h0 (by simp;omega) w h⟩
 refine it (λc6=>?_) (λc6=>?_)<;>(try simp only[zB]at c6)
 ·exact⟨(none,2,()),rfl,h0 (by simp;omega) w h⟩
 have hn:=h1 (by simp;omega);refine za (tu _) ?_;unfold oH;refine nw h ?_;clear h;intro b1 w h;refine⟨some ⟨b1,0,none⟩,rfl,?_⟩;refine nw h ?_;clear h;intro b2 w h;refine nw h ?_;clear h;intro b3 w h;refine nw h ?_;clear h;intro b4 w h;refine za (tt _ _ _) ?_;unfold oG;refine nw h ?_;clear h;intro b5 w h;refine⟨some ⟨b5,0,none⟩,rfl,?_⟩;refine nw h ?_;clear h;intro b6 w h;refine⟨(some ⟨b6,0,none⟩,0,()),rfl,hn ⟨b6,0,none⟩ w ?_⟩;have h:=zj (yw (uV (Qj (uU (PL h)))));exact h
abbrev ksA(_:Int):Bool:=true
instance knA [YB w0]:Kn w0 ksA:=⟨by
 intro E w h i b a s hi hs e hks hb ev k0 inv hk0 hn k hk;rcases MO hb with hc | hc | hc | hc | hc | hc | hc | hc | hc | hc | hc | hc | hc
 ·exact If h i hi hs hb hc ev inv hk0 hn hk
 ·exact z2B h i hi hs hb hc ev inv hk0 hn hk
 ·exact z2A h i hi hs hb hc ev inv hk0 hn hk
 ·exact Ie h i hi hs hb hc ev inv hk0 hn hk
 ·exact z2z h i hi hs hb hc ev inv hk0 hn hk
 ·exact z2y h i hi hs hb hc ev inv hk0 hn hk
 ·exact z2x h i hi hs hb hc ev inv hk0 hn hk
 ·exact z2w h i hi hs hb hc ev inv hk0 hn hk
 ·exact Id h i hi hs hb hc ev inv hk0 hn hk
 ·exact Eu h i hi hs hb hc ev inv hk0 hn hk
 ·exact z0t h i hi hs hb hc ev inv hk0 hn hk
 ·exact Et h i hi hs hb hc ev inv hk0 hn hk
 ·exact Es h i hi hs hb hc ev inv hk0 hn hk⟩
def Bg(l:List UInt8):(∃x,l = [x])∨l = []∨(nxP l).length+2+(hdP l).length=l.length:=by
 rcases l with _ | ⟨x,_ | ⟨y,t⟩⟩
 ·exact .inr (.inl rfl)
 ·exact .inl ⟨x,rfl⟩
 ·refine .inr (.inr ?_);have h:=iS (x::y::t);unfold nxP hdP;rw[List.length_drop,List.length_take];have:(bdP (x::y::t)).length=t.length:=rfl;have:(x::y::t).length=t.length+2:=rfl;omega
def iP:∀(m:Nat)(l:List UInt8),l.length≤m→∃n,rsP n l = []∧(∀j,j<n→rsP j l≠[])∧2*n≤l.length+1
 | 0,l,h=>by
  have e:l = []:=List.eq_nil_of_length_eq_zero (by omega);subst e;exact⟨0,rfl,λj hj=>by omega,by decide⟩
 | m+1,l,h=>by
  by_cases he:l = []
  ·exact⟨0,he,λj hj=>by omega,by omega⟩
  obtain⟨n,h1,h2,h3⟩:=iP m (nxP l) (by have:=Rp he;omega);refine⟨n+1,by rw[rsP,←wz];exact h1,λj hj=>?_,?_⟩
  ·cases j with
   | zero=>exact he
   | succ j=>rw[rsP,←wz];exact h2 j (by omega)
  ·rcases Bg l with ⟨x,rfl⟩ | h4 | h4
   ·have:nxP [x] = []:=rfl;rw[this]at h1 h2;have hn:n=0:=by
     rcases Nat.eq_zero_or_pos n with h5 | h5
     ·exact h5
     ·exact absurd rfl (h2 0 h5)
    subst hn;simp
   ·exact absurd h4 he
   ·omega
def hI:(pEv []).2≠0:=by decide
def Iy(a:Zd)(l:List UInt8):(dG a l).1.sh.n≤a.sh.n+(if l = []then 0 else 1):=by
 unfold dG;split
 ·rename_i h;have hl:l≠[]:=λe=>hI (by rw[←e];exact h);rw[if_neg hl];exact EO a _
 ·dsimp only;split<;>omega
def AI{a:Zd}(ha:a.sh.n=0){l:List UInt8}(hl:l.length≤200){n:Nat}(hlt:∀j,j<n→rsP j l≠[]):∀j,j<n→3*(vP a ((kU n l).take j)).1.sh.n+((rsP j l).length:Int)≤200
 | 0,_=>by
  have:(vP a ((kU n l).take 0)).1=a:=rfl;rw[this,ha];show 3*0+(l.length:Int)≤200;omega
 | j+1,hj=>by
  have ih:=AI ha hl hlt j (by omega);rw[dF (wE n l j (by omega))];have hs:=Iy (vP a ((kU n l).take j)).1 (hdP (rsP j l));unfold tP;dsimp only;have hne:=hlt j (by omega);have hnx:rsP (j+1) l=nxP (rsP j l):=rfl;have hne2:=hlt (j+1) hj;rcases Bg (rsP j l)with ⟨x,hx⟩ | h4 | h4
  ·rw[hnx,hx]at hne2;exact absurd rfl hne2
  ·exact absurd h4 hne
  ·rw[hnx];split at hs
   ·omega
   ·rename_i h5;have:=List.length_pos_iff.2 h5;omega
def AN{room line pat:Int}{l:List UInt8}(hl:l.length≤200){n:Nat}(hlt:∀j,j<n→rsP j l≠[])(hn:2*n≤l.length+1):z0c ksA (Xf room line pat) (kU n l):=by
 refine⟨λj x hx=>⟨λ_=>rfl,?_⟩,by rw[fo];omega⟩;have hj:j<n:=by
  rcases Nat.lt_or_ge j n with h | h
  ·exact h
  ·rw[List.getElem?_eq_none (by rw[fo];exact h)]at hx;cases hx
 have:=AI (a:=Xf room line pat) rfl hl hlt j hj;omega
def eX(h:St w0 E w){room line pat:Int}{vs:Sl}(hok:og room line pat=false){k:Sl×Int×Unit→PT}(hk:∀w',St w0 E w'→k (⟨none,0,0⟩,2,()) w') :
  L.call Pr qv [I room,I line,I pat,SlV vs] (.tup [.one .slice,.one (.int .i64)]) k w:=by
 refine za (DQ room line pat vs) ?_;unfold pb;refine LN h (λ_ w h=>?_) (λhh=>by rw[hok]at hh;cases hh);refine nw h ?_;clear h;intro b2 w h
 (refine stC h ?_;clear h;intro w h;dsimp only[zE,zd]at h)
 refine itT rfl ?_;exact⟨(⟨none,0,0⟩,2,()),rfl,hk w (zj h)⟩
def u8n{z:Int}(h0:0≤z)(h1:z<256):(UInt8.ofNat z.toNat).toNat=z.toNat:=by simp;omega
abbrev shU:Sh:=.lf (.int .u8) .nil
def IC{v:Sl}{xs:List shU.T}(o:Old w0 shU.cells v xs)(d:∀y∈xs,shU.deep w0 y):∃ls:List UInt8,Old w0 eU v ls∧ls.length=xs.length:=by
 refine⟨xs.map λy=>UInt8.ofNat y.1.toNat,⟨?_⟩,by simp⟩;have e:fl eU (xs.map λy:shU.T=>UInt8.ofNat y.1.toNat)=fl shU.cells xs:=by
  clear o
  induction xs with
  | nil=>rfl
  | cons y xs ih=>
   have h1:(Lit.int .u8 y.1).wf=true:=(d y (List.mem_cons_self ..)).1;have h2:0≤y.1∧y.1<256:=by
    have h4:(decide (IntKind.u8.min≤y.1)&&decide (y.1≤IntKind.u8.max))=true:=h1;simp only[Bool.and_eq_true,decide_eq_true_eq]at h4;have e1:IntKind.u8.min=0:=by decide
    have e2:IntKind.u8.max=255:=by decide
    rw[e1,e2]at h4;obtain⟨h5,h6⟩:(0:Int)≤@id Int y.1∧@id Int y.1≤255:=h4;have: @id Int y.1<256:=by omega
    exact⟨h5,this⟩
   have h3:eU (UInt8.ofNat y.1.toNat)=shU.cells y:=by
    show [Value.int .u8 ((UInt8.ofNat y.1.toNat).toNat:Int)] = [Value.int .u8 y.1];rw[u8n h2.1 h2.2,Int.toNat_of_nonneg h2.1]
   have ih:=ih λz hz=>d z (List.mem_cons_of_mem _ hz);rw[List.map_cons];show eU _++fl eU _=shU.cells y++fl shU.cells xs;rw[h3,ih]
 have r:=o.rd;refine⟨by rw[r.len];simp,λj u hj=>r.rd j u ?_⟩;rw[←e];exact hj
def np [YB w0](x0 x1 x2:Int)(p3:Sl){xs:List shU.T}(o:Old w0 shU.cells p3 xs)(c:p3.len≤p3.cap∧p3.cap≤maxLen)(d:∀y∈xs,shU.deep w0 y) :
  Calls Pr Qs #[I x0,I x1,I x2,SlV p3] w0 λe w'=>e = .returned (.bool true)∧St w0 [] w':=by
 refine IP (args:=[I x0,I x1,I x2,SlV p3]) (KY x0 x1 x2 p3) ?_;unfold Qx;have h:=St.init w0;obtain⟨l,o,-⟩:=IC o d;have hlen:p3.len=l.length:=o.rd.len;refine Ai (ks:=ksA) rfl h λw h=>itF rfl ?_;refine it (λhc=>?_) (λhc=>?_)<;>(try simp only[zB]at hc)
 ·exact⟨rfl,h.fin⟩
 have hl:l.length≤200:=by omega
 obtain⟨n,hn,hlt,hn2⟩:=iP _ l (Nat.le_refl _);have r:RdV w0 [[]] p3 l:=⟨λw hw=>o.now hw,c,by omega⟩;have h:St w0 ([]::[]) w:=h.eq (by simp)
 have last:∀{w:World}{E:List Seg}{K:Sl×Int×Unit→PT},St w0 E w→(∀v w',St w0 [] w'→K (v,0,()) w')→
   L.call Pr yq [.int .i64 x0,.int .i64 30] (.one (.one (.int .i64))) (λ(x4:Int)=>
   L.call Pr yq [.int .i64 x1,.int .i64 9] (.one (.one (.int .i64))) λ(x5:Int)=>
   L.call Pr yq [.int .i64 x2,.int .i64 50] (.one (.one (.int .i64))) λ(x6:Int)=>
   L.call Pr qv [.int .i64 (Wi (1+x4)),.int .i64 x5,.int .i64 (Wi (1+x6)),.slice p3.a p3.len p3.cap] (.tup [(.one (.slice)),(.one (.int .i64))]) K) w:=by
  intro w E K h hK;refine MZ (by decide) (by decide) ?_;refine MZ (by decide) (by decide) ?_;refine MZ (by decide) (by decide) ?_;rw[wr (n:=1+x0%30) (by omega) (by omega),wr (n:=1+x2%50) (by omega) (by omega)];have hok:og (1+x0%30) (x1%9) (1+x2%50)=true:=by
   unfold og wiB;simp only[Bool.and_eq_true,decide_eq_true_eq];omega
  have h:St w0 ([]::[]) w:=h.fin.eq (by simp);exact Wh (ks:=ksA) h r hn hlt hok (by omega) (AN hl hlt hn2) λv sv w _ h=>hK v w h.fin
 cases hok:og x0 x1 x2 with
 | true=>
  have hrm:x0≤30:=by
   unfold og wiB at hok;simp only[Bool.and_eq_true,decide_eq_true_eq]at hok;omega
  refine Wh (ks:=ksA) h r hn hlt hok hrm (AN hl hlt hn2) λv sv w _ h=>?_;refine LQ h (λhh=>by rw[hok]at hh;cases hh) λ_ b w h=>?_;refine last h λv w h=>?_;exact itT rfl (itT rfl ⟨rfl,h⟩)
 | false=>
  refine eX h hok λw h=>?_;refine LQ h (λ_ w h=>?_) (λhh=>by rw[hok]at hh;cases hh);refine last h λv w h=>?_;exact itT rfl (itF rfl (itT rfl ⟨rfl,h⟩))
end Go.Proofs.YtimahgbgejngiaaGreatDoor
