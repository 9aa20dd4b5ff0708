/- What is proved on the way to a statement of the seat, pressed (text AM). No conditions beyond those its theorems state. -/
import Derived.Test.YtdcdhcgmeahfmaaGreatDoorBAL
import Derived.LaidSub
import Derived.LaidMore
import Derived.MakeChecks
set_option linter.all false
namespace Go.Dm
open Go.ChangeShapes Go.WideShapes Go.RowKit
inductive Sh where
 | nil
 | lf (l:Lf) (r:Sh)
 | sl (e:Sh) (r:Sh)
@[reducible] def Sh.T:Sh→Type
 | .nil=>Unit
 | .lf l r=>l.T×r.T
 | .sl e r=>(Sl×List e.T)×r.T
def Sh.len:Sh→Nat
 | .nil=>0
 | .lf _ r=>r.len+1
 | .sl _ r=>r.len+1
def Sh.cells:(s:Sh)→s.T→List Value
 | .nil,_=>[]
 | .lf l r,x=>l.val x.1::r.cells x.2
 | .sl _ r,x=>.slice x.1.1.a x.1.1.len x.1.1.cap::r.cells x.2
def okLf:(l:Lf)→l.T→Prop
 | .int k,n=>(Lit.int k n).wf=true
 | .str,s=>s.size≤maxLen
 | _,_=>True
def Sh.deep(w:World):(s:Sh)→s.T→Prop
 | .nil,_=>True
 | .lf l r,x=>okLf l x.1∧r.deep w x.2
 | .sl e r,x=>(Old w e.cells x.1.1 x.1.2∧x.1.1.len≤x.1.1.cap∧x.1.1.cap≤maxLen∧(x.1.1.a=none→x.1.1.cap=0)∧∀y∈x.1.2,e.deep w y)∧r.deep w x.2
theorem Sh.cells_len:∀(s:Sh)(x:s.T),(s.cells x).length=s.len
 | .nil,_=>rfl
 | .lf _ r,x=>by simp[Sh.cells,Sh.len,Sh.cells_len r]
 | .sl _ r,x=>by simp[Sh.cells,Sh.len,Sh.cells_len r]
theorem zsi:∀(l:Lf)(x:l.T),oneC (l.val x)=true
 | .int _,_ | .bool,_ | .str,_ | .ptr,_ | .slice,_ | .map,_ | .func,_ | .adr,_=>rfl
 | .iface,none=>rfl
 | .iface,some _=>rfl
theorem Sh.cells_one:∀(s:Sh)(x:s.T),oneAll (s.cells x)=true
 | .nil,_=>rfl
 | .lf l r,x=>by simp[Sh.cells,oneAll,Sh.cells_one r,zsi]
 | .sl _ r,x=>by simp[Sh.cells,oneAll,Sh.cells_one r,oneC]
theorem Sh.enc(s:Sh)(h:0<s.len):Enc s.cells s.len:=⟨s.cells_len,s.cells_one,h⟩
def offsOk(P:Program):List Field→Nat→Option Nat
 | [],n=>some n
 | f::fs,n=>cond (Nat.beq f.offset n) (offsOk P fs (n+P.cellsOf f.type)) none
def shapeOf(P:Program):Nat→List TypeId→Option Sh
 | 0,_=>none
 | _+1,[]=>some .nil
 | n+1,t::ts=>match P.underlying t with
  | some (.int k)=>(shapeOf P n ts).map (.lf (.int k))
  | some .bool=>(shapeOf P n ts).map (.lf .bool)
  | some .string=>(shapeOf P n ts).map (.lf .str)
  | some (.slice e)=>match shapeOf P n [e],shapeOf P n ts with
   | some a,some b=>cond (Nat.beq a.len (P.cellsOf e)) (cond (Nat.beq a.len 0) none (some (.sl a b))) none
   | _,_=>none
  | some (.struct fs)=>match offsOk P fs.toList 0 with
   | some m=>cond (Nat.beq m (P.cellsOf t)) (shapeOf P n (fs.toList.map (·.type)++ts)) none
   | none=>none
  | _=>none
section
variable {H:Type}{enc:TypeId×Value→H}{P:Program}{w:World}
theorem zkQ{α β:Type}{f:α→Option β}:∀{l:List α}{r:List β},l.mapM f=some r→r.length=l.length∧∀(i:Nat) x,l[i]? = some x→∃y,r[i]? = some y∧f x=some y
 | [],r,h=>by simp at h;subst h;exact⟨rfl,fun i x h=>by simp at h⟩
 | a::l,r,h=>by
  rw[List.mapM_cons]at h
  cases ha:f a with
  | none=>rw[ha]at h;cases h
  | some b=>
   rw[ha]at h
   cases hl:l.mapM f with
   | none=>rw[hl]at h;cases h
   | some r'=>
    rw[hl]at h
    cases h
    obtain⟨h1,h2⟩:=zkQ hl
    refine⟨by simp[h1],fun i x hx=>?_⟩
    cases i with
    | zero=>simp at hx;subst hx;exact⟨b,rfl,ha⟩
    | succ i=>simpa using h2 i x (by simpa using hx)
abbrev Tr1(enc:TypeId×Value→H)(P:Program)(w:World)(t:TypeId)(c:List Value):Prop:=∃fuel x,DataW.trod enc P w 0 (fun _=>true) true fuel t c=some x
inductive Trs(enc:TypeId×Value→H)(P:Program)(w:World):List TypeId→List (List Value)→Prop
 | nil:Trs enc P w [] []
 | cons {t c ts cs}:Tr1 enc P w t c→Trs enc P w ts cs→Trs enc P w (t::ts) (c::cs)
theorem Trs.app{ts cs us ds}(h:Trs enc P w ts cs)(g:Trs enc P w us ds):Trs enc P w (ts++us) (cs++ds):=by
 induction h with
 | nil=>exact g
 | cons h1 _ ih=>exact .cons h1 ih
theorem zgF(P:Program)(cs:List Value):∀(fs:List Field)(n m:Nat),offsOk P fs n=some m→m≤cs.length→(fs.map fun f=>(cs.drop f.offset).take (P.cellsOf f.type)).flatten=(cs.drop n).take (m-n)∧n≤m
 | [],n,m,h,_=>by simp[offsOk]at h;subst h;simp
 | f::fs,n,m,h,hm=>by
  simp only[offsOk]at h
  cases hb:Nat.beq f.offset n with
  | false=>rw[hb]at h;cases h
  | true=>
   rw[hb]at h
   have e:=Nat.eq_of_beq_eq_true hb
   obtain⟨h1,h2⟩:=zgF P cs fs _ m h hm
   refine⟨?_,by omega⟩
   simp only[List.map_cons,List.flatten_cons]
   rw[h1,e]
   have:m-n=P.cellsOf f.type+(m-(n+P.cellsOf f.type)):=by omega
   rw[this,List.take_add,List.drop_drop]
theorem zbP:∀(n:Nat)(ts:List TypeId)(sh:Sh)(parts:List (List Value)),shapeOf P n ts=some sh→Trs enc P w ts parts→∃x:sh.T,parts.flatten=sh.cells x∧sh.deep w x
 | 0,_,_,_,h,_=>by cases h
 | n+1,[],sh,parts,h,ht=>by
  cases ht
  cases h
  exact⟨(),rfl,trivial⟩
 | n+1,t::ts,sh,parts,h,ht=>by
  cases ht with
  | @cons _ c _ cs h1 h2=>
  obtain⟨fuel,x,hx⟩:=h1
  cases fuel with
  | zero=>cases hx
  | succ fuel=>
  simp only[shapeOf]at h
  unfold DataW.trod at hx
  cases hu:P.underlying t with
  | none=>rw[hu]at h;cases h
  | some d=>
   rw[hu]at h hx
   cases d with
   | int k=>
    simp only at h
    cases hr:shapeOf P n ts with
    | none=>rw[hr]at h;cases h
    | some r=>
     rw[hr]at h;cases h
     obtain⟨y,e1,e2⟩:=zbP n ts r cs hr h2
     split at hx<;>try (cases hx;done)
     all_goals (try (rename_i heq;cases heq;done))
     rename_i heq;cases heq
     split at hx<;>try (cases hx;done)
     rename_i hk
     obtain⟨rfl,hw⟩:=hk
     refine⟨(_,y),?_,hw,e2⟩
     simp only[List.flatten_cons,e1];rfl
   | bool=>
    simp only at h
    cases hr:shapeOf P n ts with
    | none=>rw[hr]at h;cases h
    | some r=>
     rw[hr]at h;cases h
     obtain⟨y,e1,e2⟩:=zbP n ts r cs hr h2
     split at hx<;>try (cases hx;done)
     all_goals (try (rename_i heq;cases heq;done))
     rename_i b heq;cases heq
     refine⟨(b,y),?_,⟨trivial,e2⟩⟩
     simp only[List.flatten_cons,e1];rfl
   | string=>
    simp only at h
    cases hr:shapeOf P n ts with
    | none=>rw[hr]at h;cases h
    | some r=>
     rw[hr]at h;cases h
     obtain⟨y,e1,e2⟩:=zbP n ts r cs hr h2
     split at hx<;>try (cases hx;done)
     all_goals (try (rename_i heq;cases heq;done))
     rename_i heq;cases heq
     split at hx<;>try (cases hx;done)
     rename_i hk
     refine⟨(_,y),?_,hk,e2⟩
     simp only[List.flatten_cons,e1];rfl
   | slice e=>
    simp only at h
    cases he:shapeOf P n [e] with
    | none=>rw[he]at h;cases h
    | some a=>
     cases hr:shapeOf P n ts with
     | none=>rw[he,hr]at h;cases h
     | some r=>
      rw[he,hr]at h
      simp only at h
      cases hb:Nat.beq a.len (P.cellsOf e) with
      | false=>rw[hb]at h;cases h
      | true=>
      cases hb0:Nat.beq a.len 0 with
      | true=>rw[hb,hb0]at h;cases h
      | false=>
      rw[hb,hb0]at h;cases h
      have hlen:=Nat.eq_of_beq_eq_true hb
      have hpos:0<a.len:=by
       rcases Nat.eq_zero_or_pos a.len with h | h
       ·rw[h]at hb0;cases hb0
       ·exact h
      obtain⟨y,e1,e2⟩:=zbP n ts r cs hr h2
      split at hx<;>try (cases hx;done)
      all_goals (try (rename_i heq;cases heq;done))
      ·rename_i hh;cases hh
       refine⟨((⟨none,0,0⟩,[]),y),?_,⟨⟨⟨rfl,fun j u hj=>by simp[fl,nth]at hj⟩⟩,Nat.le_refl _,by simp[maxLen],fun _=>rfl,by simp⟩,e2⟩
       simp only[List.flatten_cons,e1];rfl
      ·rename_i a0 len cap hh;cases hh
       dsimp only at hx
       split at hx<;>try (cases hx;done)
       rename_i hc
       cases hm:(List.range len).mapM (fun i=>(w.cells? 0 (a0.add (i*P.cellsOf e)) (P.cellsOf e)).bind (DataW.trod enc P w 0 (fun _=>true) true fuel e)) with
       | none=>rw[hm]at hx;cases hx
       | some els=>
        obtain⟨hl1,hl2⟩:=zkQ hm
        have each:∀i,i<len→∃z:a.T,a.deep w z∧w.cells? 0 (a0.add (i*P.cellsOf e)) (P.cellsOf e)=some (a.cells z):=by
         intro i hi
         obtain⟨q,-,hq⟩:=hl2 i i (by simp[hi])
         cases hcc:w.cells? 0 (a0.add (i*P.cellsOf e)) (P.cellsOf e) with
         | none=>rw[hcc]at hq;cases hq
         | some ci=>
          rw[hcc]at hq
          obtain⟨z,ez,dz⟩:=zbP n [e] a [ci] he (.cons ⟨fuel,q,hq⟩ .nil)
          simp only[List.flatten_cons,List.flatten_nil,List.append_nil]at ez
          exact⟨z,dz,by rw[ez]⟩
        have all:∀m,m≤len→∃zs:List a.T,zs.length=m∧∀i z,zs[i]? = some z→a.deep w z∧w.cells? 0 (a0.add (i*P.cellsOf e)) (P.cellsOf e)=some (a.cells z):=by
         intro m
         induction m with
         | zero=>intro _;exact⟨[],rfl,fun i z h=>by simp at h⟩
         | succ m ih=>
          intro hm
          obtain⟨zs,hz1,hz2⟩:=ih (by omega)
          obtain⟨z,d1,d2⟩:=each m (by omega)
          refine⟨zs++[z],by simp[hz1],fun i u hu=>?_⟩
          rcases Nat.lt_or_ge i zs.length with h | h
          ·rw[List.getElem?_append_left h]at hu;exact hz2 i u hu
          ·rw[List.getElem?_append_right h]at hu
           have:i-zs.length=0:=by
            rcases Nat.eq_zero_or_pos (i-zs.length)with h | h
            ·exact h
            ·rw[List.getElem?_eq_none (by simp;omega)]at hu;cases hu
           rw[this]at hu;simp at hu;subst hu
           have:i=m:=by omega
           subst this;exact⟨d1,d2⟩
        obtain⟨zs,hz1,hz2⟩:=all len (Nat.le_refl _)
        refine⟨((⟨some a0,len,cap⟩,zs),y),?_,⟨⟨⟨hz1.symm,fun j u hj=>⟨a0,rfl,?_⟩⟩⟩,hc.2.1,hc.2.2,(fun h=>by cases h),fun z hz=>?_⟩,e2⟩
        ·simp only[List.flatten_cons,e1];rfl
        ·have hE:=a.enc hpos
         have hjl:=zgH hj
         rw[z6N hE]at hjl
         have hi:j/a.len<zs.length:=Nat.div_lt_of_lt_mul (by rw[Nat.mul_comm];exact hjl)
         have hz:=List.getElem?_eq_getElem hi
         have e0:j=j/a.len*a.len+j%a.len:=by rw[Nat.mul_comm];exact(Nat.div_add_mod j a.len).symm
         have hm:=Nat.mod_lt j hpos
         obtain⟨-,hcz⟩:=hz2 _ _ hz
         obtain⟨-,hl3,hl4⟩:=World.cells?_some hcz
         have hlx:j%a.len<(a.cells zs[j/a.len]).length:=by rw[a.cells_len];exact hm
         have h2:=zay hE (l:=zs) (i:=j/a.len) (f:=j%a.len) (u:=(a.cells zs[j/a.len])[j%a.len]) hz (by rw[z0h];exact List.getElem?_eq_getElem hlx)
         rw[←e0,hj]at h2
         have h5:=hl4 (j%a.len) (by rw[←hlen];exact hm)
         rw[z3T,←hlen,←e0,List.getElem?_eq_getElem hlx]at h5
         rw[h5,h2]
        ·obtain⟨i,hi,rfl⟩:=List.getElem_of_mem hz
         exact(hz2 i _ (List.getElem?_eq_getElem hi)).1
   | struct fs=>
    simp only at h
    cases ho:offsOk P fs.toList 0 with
    | none=>rw[ho]at h;cases h
    | some m=>
     rw[ho]at h
     simp only at h
     cases hb:Nat.beq m (P.cellsOf t) with
     | false=>rw[hb]at h;cases h
     | true=>
     rw[hb]at h
     have hm:=Nat.eq_of_beq_eq_true hb
     simp only at hx
     split at hx<;>try (cases hx;done)
     rename_i hcl
     cases hq:fs.toList.mapM (fun f=>DataW.trod enc P w 0 (fun _=>true) true fuel f.type ((c.drop f.offset).take (P.cellsOf f.type))) with
     | none=>rw[hq]at hx;cases hx
     | some qs=>
      have key:∀(fl:List Field) qs,fl.mapM (fun f=>DataW.trod enc P w 0 (fun _=>true) true fuel f.type ((c.drop f.offset).take (P.cellsOf f.type)))=some qs→Trs enc P w (fl.map (·.type)) (fl.map fun f=>(c.drop f.offset).take (P.cellsOf f.type)):=by
       intro fl
       induction fl with
       | nil=>intro _ _;exact .nil
       | cons f fl ih=>
        intro qs hq
        rw[List.mapM_cons]at hq
        cases ha:DataW.trod enc P w 0 (fun _=>true) true fuel f.type ((c.drop f.offset).take (P.cellsOf f.type)) with
        | none=>rw[ha]at hq;cases hq
        | some b=>
         rw[ha]at hq
         cases hl:fl.mapM (fun f=>DataW.trod enc P w 0 (fun _=>true) true fuel f.type ((c.drop f.offset).take (P.cellsOf f.type))) with
         | none=>rw[hl]at hq;cases hq
         | some r=>exact .cons ⟨fuel,b,ha⟩ (ih r hl)
      obtain⟨y,e1,e2⟩:=zbP n _ sh _ h ((key _ _ hq).app h2)
      refine⟨y,?_,e2⟩
      rw[←e1]
      obtain⟨h3,-⟩:=zgF P c fs.toList 0 m ho (by omega)
      simp only[List.flatten_cons,List.flatten_append]
      rw[h3]
      congr 1
      simp[hm,←hcl]
   | _=>cases h
end
end Go.Dm
namespace Go.Dm
open Go.ChangeShapes Go.WideShapes Go.RowKit
section
variable {H:Type}{enc:TypeId×Value→H}{P:Program}{W:World}
theorem zmd{t:TypeId}{fs:Array Field}{r:Reach}{b0 n:Nat}{v:Value}{d:DataW H}{ps:List MemPlace}{a:Sh}(ht:P.underlying t=some (.struct fs))(hsh:shapeOf P n [t]=some a)
  (hval:Value.okWide P W r b0 t v) (hd:DataW.Trod enc P W 0 (fun _=>true) true t v d ps) :
  ∃x:a.T,v = .agg (a.cells x).toArray∧a.deep W x:=by
 obtain⟨fuel,hf⟩:=hd
 obtain⟨x,h1,h2⟩:=zbP (H:=H) (enc:=enc) n [t] _ [_] hsh (.cons ⟨fuel,_,hf⟩ .nil)
 unfold Value.okWide at hval
 rw[ht]at hval
 obtain⟨cs,rfl,-,-⟩:=hval
 simp only[List.flatten_cons,List.flatten_nil,List.append_nil,Value.cells]at h1
 refine⟨x,?_,h2⟩
 rw[←h1]
end
end Go.Dm

namespace Go.Dm
def tabB(P:Program)(name:String)(k:IntKind):Bool:=match P.globalNamed name with
 | none=>false
 | some g=>match (P.globals[g]?).map (·.type) with
  | none=>false
  | some t=>match P.underlying t with
   | some (.array n e)=>(match P.underlying e with
    | some (.int k')=>decide (k'=k)
    | _=>false)&&(P.cellsOf e == 1)&&(P.cellsOf t == n)
   | _=>false
theorem zrT{P:Program}{W:World}{name:String}{k:IntKind}{zs:List Int}(hb:tabB P name k=true){l:List (String×DataW Unit)}(hp:(l.all fun x=>x.2.handleName?.isNone)=true)
  (hf:(l.filter fun x=>x.1 == name) = [(name,Lib.tabData k zs)]) (h:laidMetH P l W):Lib.TabIs P W name k zs:=by
 rw[MakeChecks.laidMetH_plain P l W hp]at h
 have h2:=h.filter fun x=>x.1 == name
 rw[hf]at h2
 unfold tabB at hb
 split at hb
 ·cases hb
 ·rename_i g hg
  split at hb
  ·cases hb
  ·rename_i t ht
   split at hb
   ·rename_i n e he
    simp only[Bool.and_eq_true,beq_iff_eq]at hb
    obtain⟨⟨hb,hce⟩,hct⟩:=hb
    split at hb
    ·rename_i k' hk
     have hb:k'=k:=by simpa using hb
     subst hb
     exact Lib.tabIs_of_head hg ht he hk hce hct h2
    ·cases hb
   ·cases hb
end Go.Dm
