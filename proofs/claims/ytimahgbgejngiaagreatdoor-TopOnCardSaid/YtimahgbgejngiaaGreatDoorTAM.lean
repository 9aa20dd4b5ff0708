/- What is proved on the way to a statement of the seat, pressed (text AM). No conditions beyond those its theorems state. -/
import Derived.Test.YtimahgbgejngiaaGreatDoorTAL
import Derived.LaidSub
import Derived.LaidMore
import Derived.MakeChecks
set_option linter.all false
namespace Go.Dm
open Go.ChangeShapes Go.WideShapes Go.RowKit
inductive Sh where
 | nil
 | lf (l:Lf) (r:Sh)
 | sl (e:Sh) (r:Sh)
@[reducible] def Sh.T:Sh→Type
 | .nil=>Unit
 | .lf l r=>l.T×r.T
 | .sl e r=>(Sl×List e.T)×r.T
def Sh.len:Sh→Nat
 | .nil=>0
 | .lf _ r=>r.len+1
 | .sl _ r=>r.len+1
def Sh.cells:(s:Sh)→s.T→List Value
 | .nil,_=>[]
 | .lf l r,x=>l.val x.1::r.cells x.2
 | .sl _ r,x=>.slice x.1.1.a x.1.1.len x.1.1.cap::r.cells x.2
def z5Z:(l:Lf)→l.T→Prop
 | .int k,n=>(Lit.int k n).wf=true
 | .str,s=>s.size≤maxLen
 | _,_=>True
def Sh.deep(w:World):(s:Sh)→s.T→Prop
 | .nil,_=>True
 | .lf l r,x=>z5Z l x.1∧r.deep w x.2
 | .sl e r,x=>(Old w e.cells x.1.1 x.1.2∧x.1.1.len≤x.1.1.cap∧x.1.1.cap≤maxLen∧(x.1.1.a=none→x.1.1.cap=0)∧∀y∈x.1.2,e.deep w y)∧r.deep w x.2
def Sh.cells_len:∀(s:Sh)(x:s.T),(s.cells x).length=s.len
 | .nil,_=>rfl
 | .lf _ r,x=>by simp[Sh.cells,Sh.len,Sh.cells_len r]
 | .sl _ r,x=>by simp[Sh.cells,Sh.len,Sh.cells_len r]
def z2L:∀(l:Lf)(x:l.T),dv (l.val x)=true
 | .int _,_ | .bool,_ | .str,_ | .ptr,_ | .slice,_ | .map,_ | .func,_ | .adr,_=>rfl
 | .iface,none=>rfl
 | .iface,some _=>rfl
def Sh.cells_one:∀(s:Sh)(x:s.T),vU (s.cells x)=true
 | .nil,_=>rfl
 | .lf l r,x=>by simp[Sh.cells,vU,Sh.cells_one r,z2L]
 | .sl _ r,x=>by simp[Sh.cells,vU,Sh.cells_one r,dv]
def Sh.enc(s:Sh)(h:0<s.len):Enc s.cells s.len:=⟨s.cells_len,s.cells_one,h⟩
def ce(P:Program):List Field→Nat→Option Nat
 | [],n=>some n
 | f::fs,n=>cond (Nat.beq f.offset n) (ce P fs (n+P.cellsOf f.type)) none
def qK(P:Program):Nat→List TypeId→Option Sh
 | 0,_=>none
 | _+1,[]=>some .nil
 | n+1,t::ts=>match P.underlying t with
  | some (.int k)=>(qK P n ts).map (.lf (.int k))
  | some .bool=>(qK P n ts).map (.lf .bool)
  | some .string=>(qK P n ts).map (.lf .str)
  | some (.slice e)=>match qK P n [e],qK P n ts with
   | some a,some b=>cond (Nat.beq a.len (P.cellsOf e)) (cond (Nat.beq a.len 0) none (some (.sl a b))) none
   | _,_=>none
  | some (.struct fs)=>match ce P fs.toList 0 with
   | some m=>cond (Nat.beq m (P.cellsOf t)) (qK P n (fs.toList.map (·.type)++ts)) none
   | none=>none
  | _=>none
section
variable {H:Type}{enc:TypeId×Value→H}{P:Program}{w:World}
def Ry{α β:Type}{f:α→Option β}:∀{l:List α}{r:List β},l.mapM f=some r→r.length=l.length∧∀(i:Nat) x,l[i]? = some x→∃y,r[i]? = some y∧f x=some y
 | [],r,h=>by simp at h;subst h;exact⟨rfl,λi x h=>by simp at h⟩
 | a::l,r,h=>by
  rw[List.mapM_cons]at h
  cases ha:f a with
  | none=>rw[ha]at h;cases h
  | some b=>
   rw[ha]at h
   cases hl:l.mapM f with
   | none=>rw[hl]at h;cases h
   | some r'=>
    rw[hl]at h
    cases h
    obtain⟨h1,h2⟩:=Ry hl;refine⟨by simp[h1],λi x hx=>?_⟩
    cases i with
    | zero=>simp at hx;subst hx;exact⟨b,rfl,ha⟩
    | succ i=>simpa using h2 i x (by simpa using hx)
abbrev Tr1(enc:TypeId×Value→H)(P:Program)(w:World)(t:TypeId)(c:List Value):Prop:=∃fuel x,DataW.trod enc P w 0 (λ_=>true) true fuel t c=some x
inductive Trs(enc:TypeId×Value→H)(P:Program)(w:World):List TypeId→List (List Value)→Prop
 | nil:Trs enc P w [] []
 | cons {t c ts cs}:Tr1 enc P w t c→Trs enc P w ts cs→Trs enc P w (t::ts) (c::cs)
def Trs.app{ts cs us ds}(h:Trs enc P w ts cs)(g:Trs enc P w us ds):Trs enc P w (ts++us) (cs++ds):=by
 induction h with
 | nil=>exact g
 | cons h1 _ ih=>exact .cons h1 ih
def DY(P:Program)(cs:List Value):∀(fs:List Field)(n m:Nat),ce P fs n=some m→m≤cs.length→(fs.map λf=>(cs.drop f.offset).take (P.cellsOf f.type)).flatten=(cs.drop n).take (m-n)∧n≤m
 | [],n,m,h,_=>by simp[ce]at h;subst h;simp
 | f::fs,n,m,h,hm=>by
  simp only[ce]at h
  cases hb:Nat.beq f.offset n with
  | false=>rw[hb]at h;cases h
  | true=>
   rw[hb]at h;have e:=Nat.eq_of_beq_eq_true hb;obtain⟨h1,h2⟩:=DY P cs fs _ m h hm;refine⟨?_,by omega⟩;simp only[List.map_cons,List.flatten_cons];rw[h1,e];have:m-n=P.cellsOf f.type+(m-(n+P.cellsOf f.type)):=by omega
   rw[this,List.take_add,List.drop_drop]
def Gw:∀(n:Nat)(ts:List TypeId)(sh:Sh)(parts:List (List Value)),qK P n ts=some sh→Trs enc P w ts parts→∃x:sh.T,parts.flatten=sh.cells x∧sh.deep w x
 | 0,_,_,_,h,_=>by cases h
 | n+1,[],sh,parts,h,ht=>by
  cases ht
  cases h
  exact⟨(),rfl,trivial⟩
 | n+1,t::ts,sh,parts,h,ht=>by
  cases ht with
  | @cons _ c _ cs h1 h2=>
  obtain⟨fuel,x,hx⟩:=h1
  cases fuel with
  | zero=>cases hx
  | succ fuel=>
  simp only[qK]at h;unfold DataW.trod at hx
  cases hu:P.underlying t with
  | none=>rw[hu]at h;cases h
  | some d=>
   rw[hu]at h hx
   cases d with
   | int k=>
    simp only at h
    cases hr:qK P n ts with
    | none=>rw[hr]at h;cases h
    | some r=>
     rw[hr]at h;cases h;obtain⟨y,e1,e2⟩:=Gw n ts r cs hr h2;split at hx<;>try (cases hx;done)
     all_goals (try (rename_i heq;cases heq;done))
     rename_i heq;cases heq;split at hx<;>try (cases hx;done)
     rename_i hk;obtain⟨rfl,hw⟩:=hk;refine⟨(_,y),?_,hw,e2⟩;simp only[List.flatten_cons,e1];rfl
   | bool=>
    simp only at h
    cases hr:qK P n ts with
    | none=>rw[hr]at h;cases h
    | some r=>
     rw[hr]at h;cases h;obtain⟨y,e1,e2⟩:=Gw n ts r cs hr h2;split at hx<;>try (cases hx;done)
     all_goals (try (rename_i heq;cases heq;done))
     rename_i b heq;cases heq;refine⟨(b,y),?_,⟨trivial,e2⟩⟩;simp only[List.flatten_cons,e1];rfl
   | string=>
    simp only at h
    cases hr:qK P n ts with
    | none=>rw[hr]at h;cases h
    | some r=>
     rw[hr]at h;cases h;obtain⟨y,e1,e2⟩:=Gw n ts r cs hr h2;split at hx<;>try (cases hx;done)
     all_goals (try (rename_i heq;cases heq;done))
     rename_i heq;cases heq;split at hx<;>try (cases hx;done)
     rename_i hk;refine⟨(_,y),?_,hk,e2⟩;simp only[List.flatten_cons,e1];rfl
   | slice e=>
    simp only at h
    cases he:qK P n [e] with
    | none=>rw[he]at h;cases h
    | some a=>
     cases hr:qK P n ts with
     | none=>rw[he,hr]at h;cases h
     | some r=>
      rw[he,hr]at h;simp only at h
      cases hb:Nat.beq a.len (P.cellsOf e) with
      | false=>rw[hb]at h;cases h
      | true=>
      cases hb0:Nat.beq a.len 0 with
      | true=>rw[hb,hb0]at h;cases h
      | false=>
      rw[hb,hb0]at h;cases h;have hlen:=Nat.eq_of_beq_eq_true hb;have hpos:0<a.len:=by
       rcases Nat.eq_zero_or_pos a.len with h | h
       ·rw[h]at hb0;cases hb0
       ·exact h
      obtain⟨y,e1,e2⟩:=Gw n ts r cs hr h2;split at hx<;>try (cases hx;done)
      all_goals (try (rename_i heq;cases heq;done))
      ·rename_i hh;cases hh;refine⟨((⟨none,0,0⟩,[]),y),?_,⟨⟨⟨rfl,λj u hj=>by simp[fl,nth]at hj⟩⟩,Nat.le_refl _,by simp[maxLen],λ_=>rfl,by simp⟩,e2⟩;simp only[List.flatten_cons,e1];rfl
      ·rename_i a0 len cap hh;cases hh;dsimp only at hx;split at hx<;>try (cases hx;done)
       rename_i hc
       cases hm:(List.range len).mapM (λi=>(w.cells? 0 (a0.add (i*P.cellsOf e)) (P.cellsOf e)).bind (DataW.trod enc P w 0 (λ_=>true) true fuel e)) with
       | none=>rw[hm]at hx;cases hx
       | some els=>
        obtain⟨hl1,hl2⟩:=Ry hm;have each:∀i,i<len→∃z:a.T,a.deep w z∧w.cells? 0 (a0.add (i*P.cellsOf e)) (P.cellsOf e)=some (a.cells z):=by
         intro i hi;obtain⟨q,-,hq⟩:=hl2 i i (by simp[hi])
         cases hcc:w.cells? 0 (a0.add (i*P.cellsOf e)) (P.cellsOf e) with
         | none=>rw[hcc]at hq;cases hq
         | some ci=>
          rw[hcc]at hq;obtain⟨z,ez,dz⟩:=Gw n [e] a [ci] he (.cons ⟨fuel,q,hq⟩ .nil);simp only[List.flatten_cons,List.flatten_nil,List.append_nil]at ez;exact⟨z,dz,by rw[ez]⟩
        have all:∀m,m≤len→∃zs:List a.T,zs.length=m∧∀i z,zs[i]? = some z→a.deep w z∧w.cells? 0 (a0.add (i*P.cellsOf e)) (P.cellsOf e)=some (a.cells z):=by
         intro m
         induction m with
         | zero=>intro _;exact⟨[],rfl,λi z h=>by simp at h⟩
         | succ m ih=>
          intro hm;obtain⟨zs,hz1,hz2⟩:=ih (by omega);obtain⟨z,d1,d2⟩:=each m (by omega);refine⟨zs++[z],by simp[hz1],λi u hu=>?_⟩;rcases Nat.lt_or_ge i zs.length with h | h
          ·rw[List.getElem?_append_left h]at hu;exact hz2 i u hu
          ·rw[List.getElem?_append_right h]at hu;have:i-zs.length=0:=by
            rcases Nat.eq_zero_or_pos (i-zs.length)with h | h
            ·exact h
            ·rw[List.getElem?_eq_none (by simp;omega)]at hu;cases hu
           rw[this]at hu;simp at hu;subst hu;have:i=m:=by omega
           subst this;exact⟨d1,d2⟩
        obtain⟨zs,hz1,hz2⟩:=all len (Nat.le_refl _);refine⟨((⟨some a0,len,cap⟩,zs),y),?_,⟨⟨⟨hz1.symm,λj u hj=>⟨a0,rfl,?_⟩⟩⟩,hc.2.1,hc.2.2,(λh=>by cases h),λz hz=>?_⟩,e2⟩
        ·simp only[List.flatten_cons,e1];rfl
        ·have hE:=a.enc hpos;have hjl:=cf hj;rw[Qn hE]at hjl;have hi:j/a.len<zs.length:=Nat.div_lt_of_lt_mul (by rw[Nat.mul_comm];exact hjl);have hz:=List.getElem?_eq_getElem hi;have e0:j=j/a.len*a.len+j%a.len:=by rw[Nat.mul_comm];exact(Nat.div_add_mod j a.len).symm
         have hm:=Nat.mod_lt j hpos;obtain⟨-,hcz⟩:=hz2 _ _ hz;obtain⟨-,hl3,hl4⟩:=World.cells?_some hcz;have hlx:j%a.len<(a.cells zs[j/a.len]).length:=by rw[a.cells_len];exact hm
         have h2:=OR hE (l:=zs) (i:=j/a.len) (f:=j%a.len) (u:=(a.cells zs[j/a.len])[j%a.len]) hz (by rw[zP];exact List.getElem?_eq_getElem hlx);rw[←e0,hj]at h2;have h5:=hl4 (j%a.len) (by rw[←hlen];exact hm);rw[JF,←hlen,←e0,List.getElem?_eq_getElem hlx]at h5;rw[h5,h2]
        ·obtain⟨i,hi,rfl⟩:=List.getElem_of_mem hz;exact(hz2 i _ (List.getElem?_eq_getElem hi)).1
   | struct fs=>
    simp only at h
    cases ho:ce P fs.toList 0 with
    | none=>rw[ho]at h;cases h
    | some m=>
     rw[ho]at h;simp only at h
     cases hb:Nat.beq m (P.cellsOf t) with
     | false=>rw[hb]at h;cases h
     | true=>
     rw[hb]at h;have hm:=Nat.eq_of_beq_eq_true hb;simp only at hx;split at hx<;>try (cases hx;done)
     rename_i hcl
     cases hq:fs.toList.mapM (λf=>DataW.trod enc P w 0 (λ_=>true) true fuel f.type ((c.drop f.offset).take (P.cellsOf f.type))) with
     | none=>rw[hq]at hx;cases hx
     | some qs=>
      have key:∀(fl:List Field) qs,fl.mapM (λf=>DataW.trod enc P w 0 (λ_=>true) true fuel f.type ((c.drop f.offset).take (P.cellsOf f.type)))=some qs→Trs enc P w (fl.map (·.type)) (fl.map λf=>(c.drop f.offset).take (P.cellsOf f.type)):=by
       intro fl
       induction fl with
       | nil=>intro _ _;exact .nil
       | cons f fl ih=>
        intro qs hq;rw[List.mapM_cons]at hq
        cases ha:DataW.trod enc P w 0 (λ_=>true) true fuel f.type ((c.drop f.offset).take (P.cellsOf f.type)) with
        | none=>rw[ha]at hq;cases hq
        | some b=>
         rw[ha]at hq
         cases hl:fl.mapM (λf=>DataW.trod enc P w 0 (λ_=>true) true fuel f.type ((c.drop f.offset).take (P.cellsOf f.type))) with
         | none=>rw[hl]at hq;cases hq
         | some r=>exact .cons ⟨fuel,b,ha⟩ (ih r hl)
      obtain⟨y,e1,e2⟩:=Gw n _ sh _ h ((key _ _ hq).app h2);refine⟨y,?_,e2⟩;rw[←e1];obtain⟨h3,-⟩:=DY P c fs.toList 0 m ho (by omega);simp only[List.flatten_cons,List.flatten_append];rw[h3]
      congr 1
      simp[hm,←hcl]
   | _=>cases h
end
end Go.Dm
namespace Go.Dm
open Go.ChangeShapes Go.WideShapes Go.RowKit
section
variable {H:Type}{enc:TypeId×Value→H}{P:Program}{W:World}
def av{t:TypeId}{fs:Array Field}{r:Reach}{b0 n:Nat}{v:Value}{d:DataW H}{ps:List MemPlace}{a:Sh}(ht:P.underlying t=some (.struct fs))(hsh:qK P n [t]=some a)
  (hval:Value.okWide P W r b0 t v) (hd:DataW.Trod enc P W 0 (λ_=>true) true t v d ps) :
  ∃x:a.T,v = .agg (a.cells x).toArray∧a.deep W x:=by
 obtain⟨fuel,hf⟩:=hd;obtain⟨x,h1,h2⟩:=Gw (H:=H) (enc:=enc) n [t] _ [_] hsh (.cons ⟨fuel,_,hf⟩ .nil);unfold Value.okWide at hval;rw[ht]at hval;obtain⟨cs,rfl,-,-⟩:=hval;simp only[List.flatten_cons,List.flatten_nil,List.append_nil,Value.cells]at h1;refine⟨x,?_,h2⟩;rw[←h1]
end
end Go.Dm

namespace Go.Dm
def z4W(P:Program)(name:String)(k:IntKind):Bool:=match P.globalNamed name with
 | none=>false
 | some g=>match (P.globals[g]?).map (·.type) with
  | none=>false
  | some t=>match P.underlying t with
   | some (.array n e)=>(match P.underlying e with
    | some (.int k')=>decide (k'=k)
    | _=>false)&&(P.cellsOf e == 1)&&(P.cellsOf t == n)
   | _=>false
def z2p{P:Program}{W:World}{name:String}{k:IntKind}{zs:List Int}(hb:z4W P name k=true){l:List (String×DataW Unit)}(hp:(l.all λx=>x.2.handleName?.isNone)=true)
  (hf:(l.filter λx=>x.1 == name) = [(name,Lib.tabData k zs)]) (h:laidMetH P l W):Lib.TabIs P W name k zs:=by
 rw[MakeChecks.laidMetH_plain P l W hp]at h;have h2:=h.filter λx=>x.1 == name;rw[hf]at h2;unfold z4W at hb;split at hb
 ·cases hb
 ·rename_i g hg;split at hb
  ·cases hb
  ·rename_i t ht;split at hb
   ·rename_i n e he;simp only[Bool.and_eq_true,beq_iff_eq]at hb;obtain⟨⟨hb,hce⟩,hct⟩:=hb;split at hb
    ·rename_i k' hk;have hb:k'=k:=by simpa using hb
     subst hb;exact Lib.tabIs_of_head hg ht he hk hce hct h2
    ·cases hb
   ·cases hb
def z5u(P:Program)(w0:World)(A0 B A1:List Seg)(fv:Value)(Pv:Sl→Seg→Prop):Prop:=
 ∀(yv:FV)(R:Value→PT)(J0 J1:List Seg→Prop)(Jd:World→Prop)(F:List Seg)(w:World),St w0 (A0++F) w→J0 F→
  (∀v s F X w,Pv v s→J0 F→St w0 (B++((s::F)++X)) w→Jw P yv.val [SlV v] w λr w'=>(r = .bool true∧∃F',St w0 (B++(F'++X)) w'∧J1 F')∨(r = .bool false∧Jd w'))→
  (∀F w,J1 F→St w0 (A1++F) w→R (.tuple #[]) w)→(∀w,Jd w→R (.tuple #[]) w)→oK P fv [yv.val] w R
section
variable {w0 w w':World}{P:Program}
def Sj{A0 B A1 F:List Seg}{fv:Value}{Pv:Sl→Seg→Prop}(hY:z5u P w0 A0 B A1 fv Pv)(h:St w0 (A0++F) w){body:Nat→TT [.one .slice]→(Value→PT)→PT}{K:List Nat→Option Code→PT}
  (I0 I1:List Seg→Prop) (h0:I0 F)
  (hb:∀v s F X w l lp d(R:Value→PT),Pv v s→I0 F→St w0 ([Rec l lp .busy none]::[DfM d]::(B++((s::F)++X))) w→
   (∀F' w',I1 F'→St w0 ([Rec l lp .busy none]::[DfM d]::(B++(F'++X))) w'→L.endRound P l none R w')→body l (v,()) R w)
  (hc:∀d F w,I1 F→St w0 ([DfM d]::(A1++F)) w→K [d] none w):L.range P none fv [.one .slice] (λl y R=>L.begin P l (body l y R)) K w:=by
 refine rng h λd l lp w h hy=>?_;have h:St w0 (A0++([[Rec l lp .ready none],[DfM d]]++F)) w:=St.toFront (G:=A0) (A:=[[Rec l lp .ready none],[DfM d]]) h;refine hY ⟨.yield l,#[],#[]⟩ _ (λG=>∃F,G = [[Rec l lp .ready none],[DfM d]]++F∧I0 F) (λG=>∃F,G = [[Rec l lp .ready none],[DfM d]]++F∧I1 F) (λ_=>False) _ w h ⟨F,rfl,h0⟩ ?_ ?_ ?_
 ·rintro v s G X w hv ⟨F,rfl,hi⟩ h;have h:St w0 (B++([[Rec l lp .ready none],[DfM d]]++((s::F)++X))) w:=h.perm (by
   simp only[List.flatten_append,List.flatten_cons,List.flatten_nil,List.append_nil,List.append_assoc];refine List.Perm.append_left _ ?_;simp only[←List.append_assoc];refine List.Perm.append_right _ (List.Perm.append_right _ ?_);rw[List.append_assoc];exact List.perm_append_comm)
  have h:St w0 ([Rec l lp .ready none]::[DfM d]::(B++((s::F)++X))) w:=St.toFront (A:=B) (G:=[[Rec l lp .ready none],[DfM d]]) (F:=(s::F)++X) h;have hrec:=(h.at 0 (b:=(Rec l lp .ready none).1) (o:=(Rec l lp .ready none).2) rfl).2;refine hy (v,()) .ready none w _ hrec ?_;refine bgn h 0 rfl λw h=>?_;refine hb v s F X w l lp d _ hv hi h ?_;intro F' w' hi' h';refine SY h' 0 rfl λw h=>.inl ⟨rfl,_,?_,F',rfl,hi'⟩;exact St.toFront (G:=B) (A:=[[Rec l lp .ready none],[DfM d]]) (F:=F'++X) h
 ·rintro G w ⟨F,rfl,hi⟩ h;refine NX h.toFront 0 rfl (by simp) λw h=>hc d F w hi h
 ·rintro w hh;exact hh.elim
end
end Go.Dm
namespace Go.Proofs.YtimahgbgejngiaaGreatDoor
open Go.Dm
attribute [local irreducible] L.load L.store L.chk L.new L.nonnil L.guard L.ite L.draw L.idx L.sem L.semR L.semU L.chkSem L.next L.call L.callV L.join L.alts L.loop L.begin L.endRound L.range
variable {w0 w:World}{E:List Seg}
def elU:El Pr jt qO 1 1 (.int .u8 0):=gB (by kernel_rfl) (by kernel_rfl) rfl (by decide)
abbrev scB(b:Nat):Seg:=[Cl b qO [.int .u8 0,.int .u8 1,.int .u8 9]]
abbrev scV(b o n:Nat):Sl:=⟨some ⟨b,o,none⟩,n,n⟩
abbrev scC(c:Nat)(v:Sl):Seg:=[Cl c jt [SlV v]]
def IC(h:St w0 E w){v:Sl}{l:List UInt8}(r:Rd w eU v l)(hn:l.length<1000000000)(h64:v.a=none→l = []){k:Sl→PT}
  (hk:∀v' s' w',Rw eU qO 1 v' l s'→St w0 (s'::E) w'→k v' w'):L.call Pr JY [SlV v] (.one (.one .slice)) k w:=by
 refine za (oL v) ?_;unfold Qv;exact Qp (K:=λv w'=>∃x,v=RT.val (.one (.one .slice)) x∧k x w') Mp elU h r (by omega) (by omega) h64 λv' s' w' h1 h2 h3=>⟨v',rfl,hk v' s' w' h1 h3⟩
def Ia(c b:Nat):z5u Pr w0 [scC c (scV b 0 3),scB b] [scC c (scV b 2 1),scB b] [scC c (scV b 2 0),scB b] (.func (.func Xw) #[] #[.pointer (some ⟨c,0,none⟩)])
  (λv s=>Rw eU qO 1 v [9] s):=by
 intro yv R J0 J1 Jd F w h hJ step fin fin2;refine⟨cU,Cp yv ⟨c,0,none⟩ ?_⟩;unfold gZ;have h:St w0 (scC c (scV b 0 3)::scB b::F) w:=h;have r0:Rw eU qO 1 (scV b 0 3) [0,1,9] (scB b):=Rw.lit b [0,1,9] Mp rfl rfl (by decide);refine zT (λq y w=>(q=1∧∃F,J0 F∧St w0 (scC c (scV b 0 3)::scB b::F) w)∨(q=0∧∃F,J1 F∧St w0 (scC c (scV b 2 0)::scB b::F) w)) 1 (.inl ⟨rfl,F,hJ,h⟩) ?_;clear hJ;clear h;rintro q y w (⟨rfl,F,hJ,h⟩ | ⟨rfl,F,hJ,h⟩) again hag
 ·(try dsimp only)
  (refine ldC h ?_)
  refine itT rfl ?_;refine Zz (λ(z:Int×Unit) w=>z.1=1∧St w0 (scC c (scV b 2 1)::scB b::F) w) (λk4 hk4=>?_) ?_
  ·(refine ldC h ?_)
   refine itF rfl ?_;refine Zz (λ(z:Int×Unit) w=>z.1=1∧St w0 (scC c (scV b 0 3)::scB b::F) w) (λk8 hk8=>?_) ?_
   ·(refine dr h ?_;clear h;intro w h;refine ldC h ?_)
    refine Rw.ix Mp r0 (n:=(0:Int)) (by decide) (by decide) λa11 ha11=>?_;refine Rw.ld0 Mp h 1 rfl r0 ha11 (x:=(0:UInt8)) rfl rfl rfl ?_
    (refine ldC h ?_)
    refine Rw.ix Mp r0 (n:=(1:Int)) (by decide) (by decide) λa14 ha14=>?_;refine Rw.ld0 Mp h 1 rfl r0 ha14 (x:=(1:UInt8)) rfl rfl rfl ?_
    (refine ldC h ?_)
    refine kI ?_ ?_
    ·(refine ckC h ?_)
     refine Rw.cka Mp h 1 rfl r0 ha14 (x:=(1:UInt8)) rfl rfl ?_
     (refine ckC h ?_)
     refine gd (by decide) ?_
     (refine ckC h ?_)
     refine Rw.cka Mp h 1 rfl r0 ha11 (x:=(0:UInt8)) rfl rfl ?_
     (refine ckC h ?_)
     exact hk8 _ w ⟨by kernel_rfl,h⟩
    ·(refine ckC h ?_)
     refine Rw.cka Mp h 1 rfl r0 ha11 (x:=(0:UInt8)) rfl rfl ?_
     (refine ckC h ?_;refine ckC h ?_)
     refine Rw.cka Mp h 1 rfl r0 ha14 (x:=(1:UInt8)) rfl rfl ?_
     (refine ckC h ?_)
     refine gd (by decide) ?_;exact hk8 _ w ⟨by kernel_rfl,h⟩
   ·clear h;rintro⟨z,⟨⟩⟩ w ⟨hz,h⟩;simp only at hz;subst hz
    (try dsimp only)
    (refine ldC h ?_)
    refine gd (show(0:Int)≤2∧(2:Int)≤3∧(3:Int)≤3∧(3:Int)≤3 by decide) ?_
    (refine stC h ?_;clear h;intro w h;dsimp only[zJ,zd]at h)
    exact hk4 _ w ⟨rfl,h⟩
  ·clear h;rintro⟨z,⟨⟩⟩ w ⟨hz,h⟩;simp only at hz;subst hz
   (try dsimp only)
   (refine ldC h ?_)
   refine gd (show(0:Int)≤0∧(0:Int)≤1∧(1:Int)≤1∧(1:Int)≤1 by decide) ?_;have rd:Rd w eU (scV b 2 1) [9]:=(Rw.rd Mp h 1 rfl r0).cut Mp 2 3 (by decide) (by decide) (Nat.le_refl 3) 1;refine IC (v:=scV b 2 1) h rd (by decide) (λhh=>by cases hh) λv' s' w hr h=>?_;have h:=ZL (ZL h);have step:=step v' s' F [] w hr hJ (by simpa using h);refine cv (Jw.mono step λu w' hu=>?_);rcases hu with ⟨rfl,F',h,hJ⟩ | ⟨rfl,hd⟩
   ·refine⟨true,rfl,itF rfl ?_⟩;have h:St w0 (scC c (scV b 2 1)::scB b::F') w':=by simpa using h
    (refine ldC h ?_)
    refine gd (show(0:Int)≤1∧(1:Int)≤1∧(1:Int)≤1∧(1:Int)≤1 by decide) ?_
    (refine stC h ?_;clear h;intro w h;dsimp only[zJ,zd]at h)
    exact hag 0 () w (by decide) (.inr ⟨rfl,F',hJ,h⟩)
   ·exact⟨false,rfl,itT rfl (fin2 w' hd)⟩
 ·(try dsimp only)
  (refine ldC h ?_)
  refine itF rfl ?_;exact fin F w hJ h
def eV(v:Sl):List Value:=[SlV v]
def ak:Enc eV 1:=⟨λ_=>rfl,λ_=>rfl,by decide⟩
def elV:El Pr ZI jt 1 24 (.slice none 0 0):=gB (by kernel_rfl) (by kernel_rfl) rfl (by decide)
def Im(h:St w0 E w){v:Sl}{k:FV→PT}(hk:∀c w',St w0 (scC c v::E) w'→k ⟨.func Xw,#[],#[.pointer (some ⟨c,0,none⟩)]⟩ w'):L.call Pr KS [SlV v] (.one (.one .func)) k w:=by
 refine za (NL _) ?_;unfold mn;refine nw h ?_;clear h;intro c w h;exact⟨_,rfl,hk c w h⟩
def IB(h:St w0 E w){v:Sl}{l:List Sl}(r:Rd w eV v l)(hn:l.length<1000000000)(h64:v.a=none→l = []){k:Sl→PT}
  (hk:∀v' s' w',Rw eV jt 1 v' l s'→St w0 (s'::E) w'→k v' w'):L.call Pr xW [SlV v] (.one (.one .slice)) k w:=by
 refine za (OW v) ?_;unfold uB;exact Qp (K:=λv w'=>∃x,v=RT.val (.one (.one .slice)) x∧k x w') ak elV h r (by omega) (by omega) h64 λv' s' w' h1 h2 h3=>⟨v',rfl,hk v' s' w' h1 h3⟩
def z3O{b:Nat}(h:St w0 (scB b::E) w){k:Sl→PT}(hk:∀v sv vp sp w',Rw eV jt 1 v [vp] sv→Rw eU qO 1 vp [9] sp→St w0 (sv::sp::scB b::E) w'→k v w') :
  L.call Pr FG [SlV (scV b 0 3)] (.one (.one .slice)) k w:=by
 refine za (bZ (scV b 0 3)) ?_;unfold dt;refine nw h ?_;clear h;intro b1 w h;refine Im (v:=scV b 0 3) h λc w h=>?_;have h:=yO (ZL h)
 refine Sj (A0:=[scC c (scV b 0 3),scB b]) (F:=[Cl b1 ZI [.slice none 0 0]]::E) (Ia c b) h (λG=>G = [Cl b1 ZI [.slice none 0 0]]::E)
  (λG=>∃vp sp v' s',Rw eV jt 1 v' [vp] s'∧Rw eU qO 1 vp [9] sp∧G=s'::sp::[Cl b1 ZI [SlV v']]::E) rfl ?_ ?_
 ·clear h;rintro vp sp F X w l lp d R hp rfl h hN;have h:St w0 ([Rec l lp .busy none]::[DfM d]::scC c (scV b 2 1)::scB b::sp::[Cl b1 ZI [.slice none 0 0]]::(E++X)) w:=h
  (refine ldC h ?_)
  refine nw h ?_;clear h;intro b9 w h;have h:St w0 ([Cl b9 jt [SlV vp]]::[]::[Rec l lp .busy none]::[DfM d]::scC c (scV b 2 1)::scB b::sp::[Cl b1 ZI [.slice none 0 0]]::(E++X)) w:=h.eq (by simp);refine Rw.app ak elV h 0 rfl (v:=⟨none,0,0⟩) (l:=[]) Rw.nil vp rfl (by decide) (by decide) λv' s' w hr h=>?_;dsimp only[zd]at h
  (refine stC h ?_;clear h;intro w h;dsimp only[zJ,zd]at h)
  refine hN (s'::sp::[Cl b1 ZI [SlV v']]::E) w ⟨vp,sp,v',s',hr,hp,rfl⟩ ?_;have h:=jB (jB (jB (jB (ZL (jB (jB h))))));exact h
 ·clear h;rintro d F w ⟨vp,sp,v',s',hr,hp,rfl⟩ h;have h:St w0 ([DfM d]::scC c (scV b 2 0)::scB b::s'::sp::[Cl b1 ZI [SlV v']]::E) w:=h;refine vC ?_
  (refine ldC h ?_)
  refine IB h (Rw.rd ak h 3 rfl hr) (show(1:Nat)<1000000000 by decide) (λhh=>?_) λv2 s2 w hr2 h=>?_
  ·have:=Rw.nil_of ak hr;exact this hh
  (first | refine OF h ?_ | refine OE h ?_ | refine OD h ?_ | refine OC h ?_ | refine OB h ?_ | refine OA h ?_ | refine Oz h ?_ | refine Oy h ?_ | refine Ox h ?_ | refine Ow h ?_ | refine uv h ?_ | refine uu h ?_);clear h;intro w h
  refine⟨_,rfl,hk v2 s2 vp sp w hr2 hp ?_⟩;have h:=Yf (VP (Pc h));have h:=ZL (ZL (yO h));exact h
def z3d{c:Nat}{v vp:Sl}{sv:Seg}(hr:Rw eV jt 1 v [vp] sv):wb Pr w0 [[Cl c ZI [SlV v]],sv] (.func (.func Yc) #[] #[.pointer (some ⟨c,0,none⟩)]) 1 λ_=>TV [.one .slice] (vp,()):=by
 intro yv R J Jd F w h hJ step fin fin2;refine⟨Kq,Ks yv ⟨c,0,none⟩ ?_⟩;unfold qQ;have h:St w0 ([Cl c ZI [SlV v]]::sv::F) w:=h;have hl:v.len=1:=Rw.len ak hr
 (refine ldC h ?_)
 refine zT (λq y w=>∃(j:Nat)(F:List Seg),y=((j:Int),())∧q+j=1∧J j F∧St w0 ([Cl c ZI [SlV v]]::sv::F) w) 1 ⟨0,F,rfl,rfl,hJ,h⟩ ?_;clear hJ;clear h;rintro q y w ⟨j,F,rfl,hq,hJ,h⟩ again hag
 (try dsimp only)
 refine it (λhb=>?_) (λhb=>?_)<;>(try simp only[zB]at hb)
 ·have hj:j=0:=by omega
  subst hj;refine Rw.ix ak hr (n:=((0:Nat):Int)) (by decide) (show(0:Nat)<1 by decide) λa4 ha=>?_;refine Rw.ld0 ak h 1 rfl hr ha (x:=vp) rfl rfl rfl ?_;have step:=step 0 F [] w (by decide) hJ (by simpa using h);refine cv (Jw.mono step λu w' hu=>?_);rcases hu with ⟨rfl,F',h,hJ⟩ | ⟨rfl,hd⟩
  ·refine⟨true,rfl,itF rfl ?_⟩;exact hag 0 _ w' (by omega) ⟨1,F',rfl,rfl,hJ,by simpa using h⟩
  ·exact⟨false,rfl,itT rfl (fin2 w' hd)⟩
 ·have hj:j=1:=by omega
  subst hj;exact fin F w hJ h
abbrev tq(b:Nat)(v:Sl)(bad:Bool):Seg:=[Cl b FT [SlV v,.bool bad]]
def z1a{b:Nat}{vp:Sl}{sp:Seg}(hp:Rw eU qO 1 vp [9] sp)(h:St w0 (tq b vp false::sp::E) w){k:Sl→PT}(hk:∀v2 w',St w0 (tq b v2 false::sp::E) w'→v2.len=0→k vp w') :
  L.call Pr uj [pO b,I 1] (.one (.one .slice)) k w:=by
 refine za (MC (some ⟨b,0,none⟩) 1) ?_;unfold kT;have hl:vp.len=1:=Rw.len Mp hp;have hc:vp.len≤vp.cap∧vp.cap≤maxLen:=Rw.cap hp;refine Zz (λ_ w=>St w0 (tq b vp false::sp::E) w) (λk1 hk1=>?_) ?_
 ·(refine nn ?_;refine ldC h ?_)
  refine itF rfl ?_
  (refine nn ?_;refine ldC h ?_;refine nn ?_;refine stC h ?_;clear h;intro w h;dsimp only[zJ,zd]at h)
  have e:decide (((vp.len:Nat):Int)<1)=false:=by rw[hl];rfl
  rw[e]at h;exact hk1 () w h
 clear h;rintro-w h
 (try dsimp only)
 (refine nn ?_;refine ldC h ?_)
 refine itF rfl ?_
 (refine nn ?_;refine ldC h ?_)
 refine gd (show(0:Int)≤0∧(0:Int)≤1∧(1:Int)≤((vp.cap:Nat):Int)∧((vp.cap:Nat):Int)≤(vp.cap:Int)by omega) ?_
 (refine nn ?_;refine ldC h ?_)
 refine gd (show(0:Int)≤1∧(1:Int)≤((vp.len:Nat):Int)∧((vp.len:Nat):Int)≤((vp.cap:Nat):Int)∧((vp.cap:Nat):Int)≤(vp.cap:Int)by omega) ?_
 (refine nn ?_;refine stC h ?_;clear h;intro w h;dsimp only[zJ,zd]at h)
 refine⟨vp,?_,hk ⟨_,_,_⟩ w h ?_⟩
 ·have e1:¬(((vp.cap:Nat):Int)).toNat=Int.toNat 0:=by rw[Int.toNat_natCast];simp;omega
  have e2:(Option.map (λa:Addr=>a.add (Int.toNat 0*1)) vp.a)=vp.a:=by cases vp.a<;>rfl
  show Value.slice (if(((vp.cap:Nat):Int)).toNat=Int.toNat 0 then vp.a else Option.map (λa:Addr=>a.add (Int.toNat 0*1)) vp.a) (Int.toNat 1-Int.toNat 0) (((vp.cap:Nat):Int).toNat-Int.toNat 0)=_;rw[if_neg e1,e2,Int.toNat_natCast];show Value.slice vp.a 1 vp.cap = .slice vp.a vp.len vp.cap;rw[hl]
 ·show Int.toNat ((vp.len:Nat):Int)-Int.toNat 1=0;rw[hl];rfl
def z3s{b:Nat}{vp:Sl}{sp:Seg}(hp:Rw eU qO 1 vp [9] sp)(h:St w0 (tq b vp false::sp::E) w){k:Int→PT}(hk:∀v2 w',St w0 (tq b v2 false::sp::E) w'→v2.len=0→k 9 w') :
  L.call Pr jH [pO b,I 1] (.one (.one (.int .i64))) k w:=by
 refine za (Ff (some ⟨b,0,none⟩) 1) ?_;unfold vK;have hl:vp.len=1:=Rw.len Mp hp;refine z1a hp h λv2 w h h0=>?_;refine zT (λq y w=>(q=1∧y=(0,0,())∧St w0 (tq b v2 false::sp::E) w)∨(q=0∧y=(9,1,())∧St w0 (tq b v2 false::sp::E) w)) 1 (.inl ⟨rfl,rfl,h⟩) ?_;clear h;rintro q y w (⟨rfl,rfl,h⟩ | ⟨rfl,rfl,h⟩) again hag
 ·(try dsimp only)
  refine itT (by rw[hl];rfl) ?_;refine Rw.ix Mp hp (n:=(0:Int)) (by decide) (show(0:Nat)<1 by decide) λa4 ha=>?_;refine Rw.ld0 Mp h 1 rfl hp ha (x:=(9:UInt8)) rfl rfl rfl ?_;refine gd (by decide) ?_;exact hag 0 _ w (by decide) (.inr ⟨rfl,by kernel_rfl,h⟩)
 ·(try dsimp only)
  refine itF (by rw[hl];rfl) ?_;exact⟨_,rfl,hk v2 w h h0⟩
def IF{vp:Sl}{sp:Seg}(hp:Rw eU qO 1 vp [9] sp)(h:St w0 (sp::E) w){k:EvT×Int×Unit→PT}(hk:∀w',St w0 (sp::E) w'→k ((xx 9).t,0,()) w') :
  L.call Pr OQ [SlV vp] (.tup [.agg ae,.one (.int .i64)]) k w:=by
 refine za (wG vp) ?_;unfold pC;refine nw h ?_;clear h;intro b1 w h;refine nw h ?_;clear h;intro b2 w h;have h:=yO (ZL h);refine z3s hp h λv2 w h h0=>?_;refine nw h ?_;clear h;intro b4 w h
 (refine stC h ?_;clear h;intro w h;dsimp only[zJ,zd]at h;refine ldC h ?_)
 refine AZ h λw h=>?_;have e9:shp 9=((false,false,false,false,false,false,()),true):=rfl;rw[e9];refine nw h ?_;clear h;intro b7 w h
 (refine stC h ?_;clear h;intro w h;dsimp only[zJ,zd]at h;refine nn ?_;refine ldC h ?_)
 refine itF rfl ?_;refine itF rfl ?_;have h:St w0 ([Cl b7 JN [.bool false,.bool false,.bool false,.bool false,.bool false,.bool false]]::[Cl b4 zq (eEv (xx 9))]::tq b2 v2 false::sp::[Cl b1 zq (eEv (xx 0))]::E) w:=h;refine Zz (λ_ w=>St w0 ([Cl b7 JN [.bool false,.bool false,.bool false,.bool false,.bool false,.bool false]]::[Cl b4 zq (eEv (xx 9))]::tq b2 v2 false::sp::[Cl b1 zq (eEv (xx 0))]::E) w) (λkk hkk=>?_) ?_
 ·(refine ldC h ?_)
  refine itF rfl ?_;exact hkk () w h
 clear h;rintro-w h
 (try dsimp only)
 refine Zz (λ_ w=>St w0 ([Cl b7 JN [.bool false,.bool false,.bool false,.bool false,.bool false,.bool false]]::[Cl b4 zq (eEv (xx 9))]::tq b2 v2 false::sp::[Cl b1 zq (eEv (xx 0))]::E) w) (λkk hkk=>?_) ?_
 ·(refine ldC h ?_)
  refine itF rfl ?_;exact hkk () w h
 clear h;rintro-w h
 (try dsimp only)
 refine Zz (λ_ w=>St w0 ([Cl b7 JN [.bool false,.bool false,.bool false,.bool false,.bool false,.bool false]]::[Cl b4 zq (eEv (xx 9))]::tq b2 v2 false::sp::[Cl b1 zq (eEv (xx 0))]::E) w) (λkk hkk=>?_) ?_
 ·(refine ldC h ?_)
  refine itF rfl ?_;exact hkk () w h
 clear h;rintro-w h
 (try dsimp only)
 refine Zz (λ_ w=>St w0 ([Cl b7 JN [.bool false,.bool false,.bool false,.bool false,.bool false,.bool false]]::[Cl b4 zq (eEv (xx 9))]::tq b2 v2 false::sp::[Cl b1 zq (eEv (xx 0))]::E) w) (λkk hkk=>?_) ?_
 ·(refine ldC h ?_)
  refine itF rfl ?_;exact hkk () w h
 clear h;rintro-w h
 (try dsimp only)
 refine Zz (λ_ w=>St w0 ([Cl b7 JN [.bool false,.bool false,.bool false,.bool false,.bool false,.bool false]]::[Cl b4 zq (eEv (xx 9))]::tq b2 v2 false::sp::[Cl b1 zq (eEv (xx 0))]::E) w) (λkk hkk=>?_) ?_
 ·(refine ldC h ?_)
  refine itF rfl ?_;exact hkk () w h
 clear h;rintro-w h
 (try dsimp only)
 refine Zz (λ_ w=>St w0 ([Cl b7 JN [.bool false,.bool false,.bool false,.bool false,.bool false,.bool false]]::[Cl b4 zq (eEv (xx 9))]::tq b2 v2 false::sp::[Cl b1 zq (eEv (xx 0))]::E) w) (λkk hkk=>?_) ?_
 ·(refine ldC h ?_)
  refine itF rfl ?_;exact hkk () w h
 clear h;rintro-w h
 (try dsimp only)
 (refine nn ?_;refine ldC h ?_)
 refine itF rfl ?_
 (refine nn ?_;refine ldC h ?_)
 refine itF (by rw[h0];rfl) ?_;unfold eEv at h;dsimp only at h
 (refine laC h ?_)
 refine lj (e:=xx 9) h (λhh=>absurd hh (show ¬((9:Int)=12∨(9:Int)=13)by decide)) (λ_ _=>Rd.nil) (by decide) (by simp[ke]) λw h=>?_;rw[iT];refine itF rfl ?_
 (refine laC h ?_;refine stC h ?_;clear h;intro w h;dsimp only[zJ,zd]at h;refine laC h ?_)
 refine⟨((xx 9).t,0,()),rfl,hk w ?_⟩;have h:=zm (Yf (VQ (ko h)));exact h
abbrev toB(b:Nat)(v:Sl):Seg:=[Cl b CZ [SlV v]]
def In{ks:Int→Bool}[Kn w0 ks](hks:ks 9=true){vp vt:Sl}{sp st s:Seg}{bs bt:Nat}{a:zK}{lt:List B0}(hp:Rw eU qO 1 vp [9] sp)(hs:yV bs a s)(ht:Rw eS zc 1 vt lt st)
  {k0:Nat} (inv:yI k0 a) (hk0:k0≤9000) (hsh:a.sh.n<99) (hlt:lt.length≤1000) (hout:(zE a (xx 9)).2.length≤1000000) (h:St w0 (sp::s::toB bt vt::st::E) w) {k:Unit→PT}
  (hk:∀vt' st' s' w',Rw eS zc 1 vt' (lt++(zE a (xx 9)).2) st'→yV bs (zE a (xx 9)).1 s'→yI (k0+2) (zE a (xx 9)).1→St w0 (sp::s'::toB bt vt'::st'::E) w'→k () w') :
  L.call Pr UW [pO bt,.pointer (some ⟨bs,0,none⟩),SlV vp] (.tup []) k w:=by
 refine za (z0d (some ⟨bt,0,none⟩) (some ⟨bs,0,none⟩) vp) ?_;unfold aR;refine nw h ?_;clear h;intro b1 w h;have h:=yO h;refine IF hp h λw h=>?_;refine nw h ?_;clear h;intro b3 w h
 (refine stC h ?_;clear h;intro w h;dsimp only[zJ,zd]at h)
 refine sD ?_;refine gd (by decide +kernel) ?_;refine nw h ?_;clear h;intro b5 w h;refine nw h ?_;clear h;intro b6 w h
 (dsimp only[zd,List.cons_append,List.nil_append]at h;refine stC h ?_;clear h;intro w h;dsimp only[zJ,zd]at h)
 refine itT rfl ?_
 (refine laC h ?_)
 refine bN (ks:=ks) (e:=xx 9) h 5 rfl hs hks iT (uq.plain rfl rfl λhh=>absurd hh (show ¬((9:Int)=12∨(9:Int)=13)by decide)) inv hk0 hsh λv sv s' w r hs inv h=>?_;dsimp only[zd]at h;have hl:=Rw.len yh r;unfold uo
 (refine stC h ?_;clear h;intro w h;dsimp only[zJ,zd]at h;refine dr h ?_;clear h;intro w h;refine ldC h ?_;refine ldC h ?_;refine nn ?_;refine ldC h ?_;refine ldC h ?_)
 refine Rw.appRd yh elS h 8 rfl ht (Rw.rd yh h 0 rfl r) (by omega) (by omega) λvt' st' w ht' _ _ h=>?_;dsimp only[zd]at h
 (refine ckC h ?_;refine nn ?_;refine stC h ?_;clear h;intro w h;dsimp only[zJ,zd]at h)
 refine⟨(),rfl,hk vt' st' s' w ht' hs inv ?_⟩;have h:=zm (Yf (VQ (VP (Pc h))));exact h
def Ef(h:St w0 E w){v:Sl}{l:List B0}(r:Rd w eS v l)(hn:l.length<1000000000)(h64:v.a=none→l = []){k:Sl→PT}
  (hk:∀v' s' w',Rw eS zc 1 v' l s'→St w0 (s'::E) w'→k v' w'):L.call Pr ZG [SlV v] (.one (.one .slice)) k w:=by
 refine za (qt v) ?_;unfold Jp;exact Qp (K:=λv w'=>∃x,v=RT.val (.one (.one .slice)) x∧k x w') yh elS h r (by omega) (by omega) h64 λv' s' w' h1 h2 h3=>⟨v',rfl,hk v' s' w' h1 h3⟩
def Lr{b:Nat}(h:St w0 (scB b::E) w){k:FV→PT}(hk:∀c v sv vp sp w',Rw eV jt 1 v [vp] sv→Rw eU qO 1 vp [9] sp→St w0 ([Cl c ZI [SlV v]]::sv::sp::scB b::E) w'→
  k ⟨.func Yc,#[],#[.pointer (some ⟨c,0,none⟩)]⟩ w'):L.call Pr ON [SlV (scV b 0 3)] (.one (.one .func)) k w:=by
 refine za (wz _) ?_;unfold pp;refine z3O h λv sv vp sp w hr hp h=>?_;refine za (oX v) ?_;unfold ua;refine nw h ?_;clear h;intro c w h;exact⟨_,rfl,_,rfl,hk c v sv vp sp w hr hp h⟩
def z3n{ks:Int→Bool}[Kn w0 ks](hks:ks 9=true){b:Nat}(h:St w0 (scB b::E) w){k:Sl×Int×Unit→PT}(hk:∀v sv w',Rw eS zc 1 v (zE (UP 2 1 3) (xx 9)).2 sv→St w0 (sv::scB b::E) w'→k (v,0,()) w') :
  L.call Pr pN [I 2,I 1,I 3,SlV (scV b 0 3)] (.tup [.one .slice,.one (.int .i64)]) k w:=by
 refine za (aX 2 1 3 (scV b 0 3)) ?_;unfold Nn;refine Nb h (λhh=>absurd hh (by decide)) λ_ bs s w hs h=>?_;have inv0:yI 0 (UP 2 1 3):=lW (by decide) (by decide);refine nw h ?_;clear h;intro b2 w h
 (refine stC h ?_;clear h;intro w h;dsimp only[zJ,zd]at h)
 refine itF rfl ?_;refine nw h ?_;clear h;intro b3 w h;refine nw h ?_;clear h;intro b4 w h
 (refine stC h ?_;clear h;intro w h;dsimp only[zJ,zd]at h)
 have h:=Yh h;refine Lr h λc v sv vp sp w hr hp h=>?_;have h:St w0 ([Cl c ZI [SlV v]]::sv::sp::scB b::[Cl b4 jh [.pointer (some ⟨b3,0,none⟩)]]::toB b3 ⟨none,0,0⟩::[Cl b2 zL [.pointer (some ⟨bs,0,none⟩)]]::s::E) w:=h;obtain⟨ot,hot⟩:∃o,o=(zE (UP 2 1 3) (xx 9)).2:=⟨_,rfl⟩;have hol:ot.length=1:=by rw[hot];decide +kernel
 rw[←hot]at hk
 refine qu (es:=[.one .slice]) (arg:=λ_=>(vp,())) (A:=[[Cl c ZI [SlV v]],sv]) (F:=sp::scB b::[Cl b4 jh [.pointer (some ⟨b3,0,none⟩)]]::toB b3 ⟨none,0,0⟩::[Cl b2 zL [.pointer (some ⟨bs,0,none⟩)]]::s::E) (z3d hr) h
  (λm G=>(m=0∧G=sp::scB b::[Cl b4 jh [.pointer (some ⟨b3,0,none⟩)]]::toB b3 ⟨none,0,0⟩::[Cl b2 zL [.pointer (some ⟨bs,0,none⟩)]]::s::E)∨
   (m=1∧∃vt st s',Rw eS zc 1 vt ot st∧G=sp::scB b::[Cl b4 jh [.pointer (some ⟨b3,0,none⟩)]]::toB b3 vt::st::[Cl b2 zL [.pointer (some ⟨bs,0,none⟩)]]::s'::E)) (λ_ _=>False) (.inl ⟨rfl,rfl⟩) ?_ ?_ (λd j G w hh _=>hh.elim)
 ·clear h;rintro m F X w l lp d R hm (⟨rfl,rfl⟩ | ⟨rfl,-⟩) h hN hE
  ·have h:St w0 ([Rec l lp .busy none]::[DfM d]::[Cl c ZI [SlV v]]::sv::sp::scB b::[Cl b4 jh [.pointer (some ⟨b3,0,none⟩)]]::toB b3 ⟨none,0,0⟩::[Cl b2 zL [.pointer (some ⟨bs,0,none⟩)]]::s::(E++X)) w:=h
   (refine ldC h ?_;refine ldC h ?_)
   have h:=jB (vh (Xz h));have h:St w0 (sp::s::toB b3 ⟨none,0,0⟩::[]::[Rec l lp .busy none]::[DfM d]::[Cl c ZI [SlV v]]::sv::scB b::[Cl b4 jh [.pointer (some ⟨b3,0,none⟩)]]::[Cl b2 zL [.pointer (some ⟨bs,0,none⟩)]]::(E++X)) w:=h.eq (by simp);refine In (ks:=ks) hks (lt:=[]) hp hs Rw.nil inv0 (by decide) (by decide) (by decide) (by rw[←hot,hol];decide) h λvt st s' w ht hs' inv h=>?_;rw[←hot,List.nil_append]at ht;refine hN (sp::scB b::[Cl b4 jh [.pointer (some ⟨b3,0,none⟩)]]::toB b3 vt::st::[Cl b2 zL [.pointer (some ⟨bs,0,none⟩)]]::s'::E) w (.inr ⟨rfl,vt,st,s',ht,rfl⟩) ?_;have h:=uA (uA (uA (uA (jB (uA (uA (Yh (Yh (uA (yO h))))))))));exact h
  ·omega
 ·clear h;rintro d F w (⟨hh,-⟩ | ⟨-,vt,st,s',ht,rfl⟩) h
  ·omega
  have h:St w0 ([DfM d]::[Cl c ZI [SlV v]]::sv::sp::scB b::[Cl b4 jh [.pointer (some ⟨b3,0,none⟩)]]::toB b3 vt::st::[Cl b2 zL [.pointer (some ⟨bs,0,none⟩)]]::s'::E) w:=h;refine vC ?_
  (refine ldC h ?_;refine nn ?_;refine ldC h ?_)
  refine Ef h (Rw.rd yh h 7 rfl ht) (by omega) (Rw.nil_of yh ht) λv2 s2 w hr2 h=>?_
  (first | refine OF h ?_ | refine OE h ?_ | refine OD h ?_ | refine OC h ?_ | refine OB h ?_ | refine OA h ?_ | refine Oz h ?_ | refine Oy h ?_ | refine Ox h ?_ | refine Ow h ?_ | refine uv h ?_ | refine uu h ?_);clear h;intro w h
  refine⟨(v2,0,()),rfl,hk v2 s2 w hr2 ?_⟩;have h:=Yf (VQ (VP (Pc (nX (z5n (z35 (z5m h)))))));exact h
def z1V{v:Sl}{l:List B0}(r:Rd w eS v l){n:Int}{kk:B0→PT}(h0:0≤n)(h1:n<v.len)(hk:∀x,l[n.toNat]? = some x→kk x w):L.idx v.a n v.len 1 (λa=>L.load (.one .str) a kk) w:=
 rd1 r yh (lf:=.str) (λx=>x) (λx=>⟨_,rfl,rfl⟩) h0 h1 hk
def z1K(h:St w0 E w){v1 v2:Sl}{l1 l2:List B0}(r1:RdE w0 E eS v1 l1)(r2:RdE w0 E eS v2 l2)(hn:l1.length<1000000000){k:Bool→PT}(hk:∀w',St w0 E w'→k (decide (l1=l2)) w') :
  L.call Pr vd [SlV v1,SlV v2] (.one (.one .bool)) k w:=by
 refine za (TG v1 v2) ?_;unfold Ou;have e1:=(r1 w h).len;have e2:=(r2 w h).len;refine it (λhl=>?_) (λhl=>?_)<;>(try simp only[zB]at hl)
 ·refine⟨_,rfl,eqk (hk w h) ?_⟩;rw[decide_eq_false_iff_not];intro e;subst e;omega
 ·have hlen:l1.length=l2.length:=by omega
  refine zT (λq y w=>∃j:Nat,y=((j:Int),())∧q+j=l1.length∧l1.take j=l2.take j∧St w0 E w) l1.length ⟨0,rfl,rfl,rfl,h⟩ ?_;clear h;rintro q y w ⟨j,rfl,hq,hp,h⟩ again hag;dsimp only;refine it (λhb=>?_) (λhb=>?_)<;>(try simp only[zB]at hb)
  ·refine dr h λw h=>?_;refine z1V (r1 w h) (by omega) hb λx hx=>z1V (r2 w h) (by omega) (by omega) λy hy=>?_;simp only[Int.toNat_natCast]at hx hy;rw[JW];refine it (λhc=>?_) (λhc=>?_)<;>(try simp only[zB]at hc)
   ·refine⟨_,rfl,eqk (hk w h) ?_⟩;rw[decide_eq_false_iff_not];intro e;subst e;rw[hx]at hy;exact hc (Option.some.inj hy)
   ·subst hc;rw[wr (by omega) (by omega)];refine hag (q-1) _ w (by omega) ⟨j+1,by simp,by omega,?_,h⟩;rw[List.take_add_one,List.take_add_one,hp,hx,hy]
  ·refine⟨_,rfl,eqk (hk w h) ?_⟩;rw[List.take_of_length_le (by omega),List.take_of_length_le (by omega)]at hp;simp[hp]
abbrev shN(b:Nat):Seg:=[Cl b zW [.string MQ,I 100]]
abbrev tb1(b c:Nat):Seg:=[Cl c zp [.slice (some ⟨b,0,none⟩) 1 1,.slice none 0 0]]
def z2b(x:B0×Int):List Value:=[.string x.1,I x.2]
def tW:Enc z2b 2:=⟨λ_=>rfl,λ_=>rfl,by decide⟩
def Aw(b:Nat):Rw z2b zW 2 ⟨some ⟨b,0,none⟩,1,1⟩ [(MQ,(100:Int))] (shN b):=Rw.lit b _ tW rfl rfl (by decide)
def Ir(h:St w0 E w){k:Bool→PT}(hk:∀w',St w0 E w'→k true w'):L.call Pr Vu [.string MQ] (.one (.one .bool)) k w:=by
 refine za (wi _) ?_;unfold pb;have e:MQ=qh ⟨#[97]⟩ 1:=by decide +kernel
 rw[e];exact Dy h rk (by decide +kernel) (by decide) (by decide) λw h=>⟨true,rfl,hk w h⟩
def z0W(b c:Nat):wb Pr w0 [tb1 b c,shN b] (.func (.func Qd) #[] #[.pointer (some ⟨c,0,none⟩)]) 1 λ_=>TV [.one .str] (MQ,()):=by
 intro yv R J Jd F w h hJ step fin fin2;refine⟨Nw,NB yv ⟨c,0,none⟩ ?_⟩;unfold FZ;have h:St w0 (tb1 b c::shN b::F) w:=h
 (refine ldC h ?_)
 refine zT (λq y w=>∃(j:Nat)(F:List Seg),y=((j:Int),())∧q+j=1∧J j F∧St w0 (tb1 b c::shN b::F) w) 1 ⟨0,F,rfl,rfl,hJ,h⟩ ?_;clear hJ;clear h;rintro q y w ⟨j,F,rfl,hq,hJ,h⟩ again hag
 (try dsimp only)
 refine it (λhb=>?_) (λhb=>?_)<;>(try simp only[zB]at hb)
 ·have hj:j=0:=by omega
  subst hj;refine Rw.ix tW (Aw b) (n:=((0:Nat):Int)) (by decide) (show(0:Nat)<1 by decide) λa4 ha=>?_;refine Rw.lda tW h 1 rfl (Aw b) ha (x:=(MQ,(100:Int))) rfl (y:=(MQ,(100:Int),())) rfl ?_;refine nw h ?_;clear h;intro b6 w h
  (refine stC h ?_;clear h;intro w h;dsimp only[zJ,zd]at h;refine ldC h ?_)
  have h:=zm h;have step:=step 0 F [] w (by decide) hJ (by simpa using h);refine cv (Jw.mono step λu w' hu=>?_);rcases hu with ⟨rfl,F',h,hJ⟩ | ⟨rfl,hd⟩
  ·refine⟨true,rfl,itF rfl ?_⟩;exact hag 0 _ w' (by omega) ⟨1,F',rfl,rfl,hJ,by simpa using h⟩
  ·exact⟨false,rfl,itT rfl (fin2 w' hd)⟩
 ·have hj:j=1:=by omega
  subst hj;exact fin F w hJ h
def z0V(b c:Nat):wb Pr w0 [tb1 b c,shN b] (.func (.func Qc) #[] #[.pointer (some ⟨c,0,none⟩)]) 0 λ_=>TV [.one .str] (s_,()):=by
 intro yv R J Jd F w h hJ step fin fin2;refine⟨Nv,Nz yv ⟨c,0,none⟩ ?_⟩;unfold FX;have h:St w0 (tb1 b c::shN b::F) w:=h
 (refine ldC h ?_)
 refine zT (λq y w=>y=(0,())∧St w0 (tb1 b c::shN b::F) w) 1 ⟨rfl,h⟩ ?_;clear h;rintro q y w ⟨rfl,h⟩ again hag
 (try dsimp only)
 refine itF rfl ?_;exact fin F w hJ h
def bK{A:List Seg}{fv:FV}{n:Nat}(hn:n≤1){x:B0}(hY:wb Pr w0 A (.func fv.fn fv.fs fv.cs) n λ_=>TV [.one .str] (x,()))(h:St w0 (A++E) w){k:Bool→PT}(hk:∀w',St w0 (A++E) w'→k true w') :
  L.call Pr UQ [.func fv.fn fv.fs fv.cs] (.one (.one .bool)) k w:=by
 refine za (NA fv) ?_;unfold FY;refine nw h ?_;clear h;intro b1 w h;refine nw h ?_;clear h;intro b2 w h;refine nw h ?_;clear h;intro b3 w h
 (refine stC h ?_;clear h;intro w h;dsimp only[zJ,zd]at h;refine stC h ?_;clear h;intro w h;dsimp only[zJ,zd]at h)
 have h:St w0 (A++([[Cl b3 yP [.bool true]],[Cl b2 zc [.string s_]],[Cl b1 yP [.bool false]]]++E)) w:=St.toFront (G:=A) (A:=[[Cl b3 yP [.bool true]],[Cl b2 zc [.string s_]],[Cl b1 yP [.bool false]]]) h
 refine qu (es:=[.one .str]) (arg:=λ_=>(x,())) (A:=A) hY h
  (λm G=>∃(y:B0),G = [Cl b3 yP [.bool (decide (m=0))]]::[Cl b2 zc [.string y]]::[Cl b1 yP [.bool false]]::E) (λ_ _=>False) ⟨s_,rfl⟩ ?_ ?_ (λd j G w hh _=>hh.elim)
 ·clear h;rintro m F X w l lp d R hm ⟨y,rfl⟩ h hN hE;have hm:m=0:=by omega
  subst hm;have h:=St.toFront (A:=[Rec l lp .busy none]::[DfM d]::A) (G:=[[Cl b3 yP [.bool true]],[Cl b2 zc [.string y]],[Cl b1 yP [.bool false]]]) (F:=E++X) h;have h:St w0 ([Cl b3 yP [.bool true]]::[Cl b2 zc [.string y]]::[Cl b1 yP [.bool false]]::[Rec l lp .busy none]::[DfM d]::(A++(E++X))) w:=h;refine Zz (λ_ w=>St w0 ([Cl b3 yP [.bool true]]::[Cl b2 zc [.string y]]::[Cl b1 yP [.bool false]]::[Rec l lp .busy none]::[DfM d]::(A++(E++X))) w) (λk9 hk9=>?_) ?_
  ·(refine ldC h ?_)
   refine itF rfl ?_;exact hk9 () w h
  clear h;rintro-w h
  (try dsimp only)
  (refine stC h ?_;clear h;intro w h;dsimp only[zJ,zd]at h;refine stC h ?_;clear h;intro w h;dsimp only[zJ,zd]at h)
  refine hN ([Cl b3 yP [.bool false]]::[Cl b2 zc [.string x]]::[Cl b1 yP [.bool false]]::E) w ⟨x,rfl⟩ ?_;exact St.toFront (A:=[[Cl b3 yP [.bool false]],[Cl b2 zc [.string x]],[Cl b1 yP [.bool false]]]) (G:=[Rec l lp .busy none]::[DfM d]::A) (F:=E++X) h
 ·clear h;rintro d F w ⟨y,rfl⟩ h;have h:=St.toFront (A:=[DfM d]::A) (G:=[[Cl b3 yP [.bool (decide (n=0))]],[Cl b2 zc [.string y]],[Cl b1 yP [.bool false]]]) (F:=E) h;have h:St w0 ([Cl b3 yP [.bool (decide (n=0))]]::[Cl b2 zc [.string y]]::[Cl b1 yP [.bool false]]::[DfM d]::(A++E)) w:=h;refine vC ?_
  (refine stC h ?_;clear h;intro w h;dsimp only[zJ,zd]at h)
  (first | refine OF h ?_ | refine OE h ?_ | refine OD h ?_ | refine OC h ?_ | refine OB h ?_ | refine OA h ?_ | refine Oz h ?_ | refine Oy h ?_ | refine Ox h ?_ | refine Ow h ?_ | refine uv h ?_ | refine uu h ?_);clear h;intro w h
  (refine ldC h ?_)
  refine⟨true,rfl,hk w ?_⟩;have h:=zm (Yf (VQ h));exact h
def Il{b:Nat}(h:St w0 (shN b::E) w){k:Bool→PT}(hk:∀w',St w0 (shN b::E) w'→k true w'):L.call Pr OI [.agg #[.slice (some ⟨b,0,none⟩) 1 1,.slice none 0 0]] (.one (.one .bool)) k w:=by
 refine za (wj (⟨some ⟨b,0,none⟩,1,1⟩,⟨none,0,0⟩,())) ?_;unfold pc;refine nw h ?_;clear h;intro c w h;have h:St w0 (tb1 b c::shN b::E) w:=h
 (refine ldC h ?_)
 refine zT (λq y w=>(q=1∧y=(0,0,())∧St w0 (tb1 b c::shN b::E) w)∨(q=0∧y=(100,1,())∧St w0 (tb1 b c::shN b::E) w)) 1 (.inl ⟨rfl,rfl,h⟩) ?_;clear h;rintro q y w (⟨rfl,rfl,h⟩ | ⟨rfl,rfl,h⟩) again hag
 ·(try dsimp only)
  refine itT rfl ?_;refine Rw.ix tW (Aw b) (n:=(0:Int)) (by decide) (show(0:Nat)<1 by decide) λa4 ha=>?_;refine Rw.lda tW h 1 rfl (Aw b) ha (x:=(MQ,(100:Int))) rfl (y:=(MQ,(100:Int),())) rfl ?_;refine nw h ?_;clear h;intro b7 w h
  (refine stC h ?_;clear h;intro w h;dsimp only[zJ,zd]at h;refine ldC h ?_)
  refine Ir h λw h=>?_;refine itF rfl ?_
  (refine ldC h ?_)
  refine itF rfl ?_
  (refine ldC h ?_)
  refine itF rfl ?_
  (refine ldC h ?_)
  exact hag 0 _ w (by decide) (.inr ⟨rfl,by kernel_rfl,zm h⟩)
 ·(try dsimp only)
  refine itF rfl ?_
  (refine ldC h ?_)
  refine zT (λq y w=>y=(0,())∧St w0 (tb1 b c::shN b::E) w) 1 ⟨rfl,h⟩ ?_;clear h;rintro q y w ⟨rfl,h⟩ again2 hag2
  (try dsimp only)
  refine itF rfl ?_;refine itT rfl ?_
  (refine laC h ?_)
  refine za (LG (⟨some ⟨b,0,none⟩,1,1⟩,⟨none,0,0⟩,())) ?_;unfold Th;refine nw h ?_;clear h;intro c2 w h;refine⟨⟨.func Qd,#[],#[.pointer (some ⟨c2,0,none⟩)]⟩,rfl,?_⟩;have h:=yO (ZL h);refine bK (A:=[tb1 b c2,shN b]) (Nat.le_refl 1) (z0W b c2) h λw h=>?_;refine itT rfl ?_;have h:St w0 (tb1 b c2::shN b::tb1 b c::E) w:=h
  (refine laC h ?_)
  refine za (LF (⟨some ⟨b,0,none⟩,1,1⟩,⟨none,0,0⟩,())) ?_;unfold Tg;refine nw h ?_;clear h;intro c3 w h;refine⟨⟨.func Qc,#[],#[.pointer (some ⟨c3,0,none⟩)]⟩,rfl,?_⟩;have h:=yO (ZL h);refine bK (A:=[tb1 b c3,shN b]) (by decide) (z0V b c3) h λw h=>?_;refine⟨true,rfl,hk w ?_⟩;have h:St w0 (tb1 b c3::shN b::tb1 b c2::tb1 b c::E) w:=h;have h:=zm (VQ (VP h));exact h
def gF{p0 p1:Int}(h:0<p1)(hp:p1≤2147483648){k:Int→PT}(hk:k (p0%p1) w):L.call Pr YR [I p0,I p1] (.one (.one (.int .i64))) k w:=by
 refine za (PE p0 p1) ?_;unfold oJ;refine gd (by omega) ?_;have h1:=Int.emod_nonneg p0 (by omega:p1≠0);have h2:=Int.emod_lt_of_pos p0 h;have e:=Cy p0 p1 h;refine Zz (λz w'=>z.1=p0%p1∧w'=w) (λk' hk'=>?_) (λy w' ⟨h1,h2⟩=>by subst h2;exact⟨_,rfl,by rw[h1];exact hk⟩);refine it (λhb=>?_) (λhb=>?_)<;>(try simp only[zB]at hb)
 ·refine hk' _ _ ⟨?_,rfl⟩;rw[e]at hb;dsimp only;rw[e];split at hb<;>rename_i hc
  ·omega
  ·rw[if_neg hc,wr]<;>omega
 ·refine hk' _ _ ⟨?_,rfl⟩;rw[e]at hb;dsimp only;rw[e];split at hb<;>rename_i hc
  ·rw[if_pos hc]
  ·omega
def aB{ks:Int→Bool}[Kn w0 ks](hks:ks 9=true)[xi w0](h:St w0 E w){k:Bool→PT}(hk:∀w',St w0 E w'→k true w'):L.call Pr vb [] (.one (.one .bool)) k w:=by
 refine za TE ?_;unfold Or;refine Nb h (λhh=>absurd hh (by decide)) λ_ b s w hs h=>?_;have inv0:yI 0 (UP 2 1 3):=lW (by decide) (by decide);refine nw h ?_;clear h;intro b2 w h;have h:St w0 (scB b2::s::E) w:=h;obtain⟨ot,hot⟩:∃o,o=(zE (UP 2 1 3) (xx 9)).2:=⟨_,rfl⟩;have hol:ot.length=1:=by rw[hot];decide +kernel
 refine z3n (ks:=ks) hks h λv sv w r h=>?_;rw[←hot]at r;have hl:=Rw.len yh r;rw[hol]at hl;refine itT rfl (itT rfl (itT rfl (itT (by rw[hl];rfl) ?_)));refine bN (ks:=ks) (e:=xx 9) h 2 rfl hs hks iT (uq.plain rfl rfl λhh=>absurd hh (show ¬((9:Int)=12∨(9:Int)=13)by decide)) inv0 (by decide) (by decide) λv4 sv4 s4 w r4 hs inv h=>?_;rw[←hot]at r4;dsimp only[zd]at h;refine z1K h (Rw.re yh 0 rfl r4) (Rw.re yh 1 rfl r) (by omega) λw h=>?_;refine itT (by simp) ?_;refine nw h ?_;clear h;intro b6 w h;have h:St w0 (shN b6::sv4::sv::scB b2::s4::E) w:=h;refine Il h λw h=>⟨true,rfl,hk w ?_⟩;have h:=zm (Yf (VQ (VP (ko h))));exact h
abbrev og(img conc min max grace:Int):Cfg:=(QV,img,conc,min,max,grace,())
abbrev rtF:ARt:=⟨Ya,QV,[(s_,s_,(100:Int),())],0⟩
def z6d{a:zK}{ver:Int}{c:Cfg}(hv:0≤ver∧ver≤2147483647)(hc:XJ c=0)(hm:pU (JR a.sh.m c.1) ver true=0) :
  zE a (evC ver c)=({ a with sh:=⟨rX a.sh.m c.1 c (a.sh.n+1),a.sh.r,a.sh.n+1⟩ },[Zy (Zy DR [c.1]) [ju (a.sh.n+1).toNat]]):=by
 rw[Dh (z2c hv hc) rfl];unfold vM;dsimp only;rw[z2w hc hm];dsimp only;unfold Hl;rw[if_pos rfl]
abbrev z50(room line pat:Int)(c:Cfg):zK:={ UP room line pat with sh:=⟨[(QV,CA c 1 1 true)],[],1⟩ }
def db(h:St w0 E w)(i:Nat){b:Nat}{a:zK}{s:Seg}(hi:nth E i=some s)(hs:yV b a s){rev:B0}{k:Sl×Sl×Unit→PT}
  (hk:∀v1 v2 s1 s2 s' w',Rw eI zx 1 v1 (VN a.gt rev) s1→Rw eI zx 1 v2 (jI a.gt.all rev) s2→yV b a s'→St w0 (s1::s2::zd E i s') w'→k (v1,v2,()) w') :
  L.call Pr JA [pO b,.string rev] (.tup [.one .slice,.one .slice]) k w:=by
 obtain⟨p,sg,sf,ss,sk,sr,sm,Q,R,rfl⟩:=hs;refine za (GU _ _) ?_;unfold vl;have h:=(h.front i hi).split8
 (refine nn ?_;refine ldC h ?_)
 have h:=yO h;refine li h R.gt λv1 v2 s1 s2 sg' w r1 r2 hG h=>?_;refine⟨(v1,v2,()),rfl,hk v1 v2 s1 s2 _ w r1 r2 ⟨p,sg',sf,ss,sk,sr,sm,Q,⟨hG,R.fl,R.sh,R.bk,R.ro,R.mp,R.ea,R.ab⟩,rfl⟩ ?_⟩;have h:=vh (Jo (vh (vh (vh (vh (vh (vh (yO (yO h)))))))));exact St.back (E:=s1::s2::E) (i+2) hi h.glue8
def bH(h:St w0 E w)(i:Nat){b:Nat}{a:zK}{s:Seg}(hi:nth E i=some s)(hs:yV b a s){k:Int×Int×Int×Int×Unit→PT}
  (hk:∀s' w',yV b a s'→St w0 (zd E i s') w'→k ((a.gt.all.length:Int),(uz a.gt.all 2:Int),(uz a.gt.all 1:Int),(uz a.gt.all 3:Int)+uz a.gt.all 4,()) w') :
  L.call Pr XO [pO b] (.tup [.one (.int .i64),.one (.int .i64),.one (.int .i64),.one (.int .i64)]) k w:=by
 obtain⟨p,sg,sf,ss,sk,sr,sm,Q,R,rfl⟩:=hs;refine za (GV _) ?_;unfold vm;have h:=(h.front i hi).split8
 (refine nn ?_;refine ldC h ?_)
 have h:=yO h;refine Ea h R.gt λsg' w hG h=>?_;refine⟨(_,_,_,_,()),rfl,hk _ w ⟨p,sg',sf,ss,sk,sr,sm,Q,⟨hG,R.fl,R.sh,R.bk,R.ro,R.mp,R.ea,R.ab⟩,rfl⟩ ?_⟩;have h:=yO h;exact St.back i hi h.glue8
def AF{B:Int}(hB:0≤B):∀{l:List Int},(∀x∈l,0≤x∧x≤B)→0≤oW l∧oW l≤B*l.length
 | [],_=>by simp[oW]
 | x::l,h=>by
  have h1:=h x (by simp);have h2:=AF hB (l:=l) λy hy=>h y (by simp[hy]);have e:oW (x::l)=x+oW l:=by simp[oW]
  rw[e,List.length_cons];have e2:B*((l.length+1:Nat):Int)=B*l.length+B:=by push_cast;rw[Int.mul_add];omega
  rw[e2];omega
abbrev wv:B0:=Gs
abbrev ftR:oV:=[(Ya,⟨[(wv,(100:Int),())],[(wv,(100:Int),())],0,0,[(wv,(100:Int),())],[]⟩)]
structure ScI(c:Cfg)(xs:List Int)(want left:Int)(a:zK):Prop where
 bk:a.bk.all = [(wv,rK wv 1 c)]
 by':a.by' = [(wv,⟨xs,want,left⟩)]
 ro:a.ro=ftR
 sh:a.sh.n=2
abbrev lnW(a:zK):List (Int×Int):=zu a.gt.lines wv
def xM(ls:List (B0×List (Int×Int)))(rev:B0)(l:List (Int×Int)):zu (zX ls rev l) rev=l:=by
 unfold zu;rw[ya,if_pos rfl];rfl
abbrev gK(a:zK):List Int:=a.gt.all.map (·.1)
def Pb{rev:B0}:∀{l:List (Int×Int)}{F:ze}{all:jO}{out:List yr},(∀y∈l,(zr all y.1).isSome=true)→(yt rev l F all out).2.1.map (·.1)=all.map (·.1)
 | [],_,_,_,_=>rfl
 | x::l,F,all,out,h=>by
  unfold yt;split
  ·obtain⟨v,hv⟩:=Option.isSome_iff_exists.1 (h x (by simp));exact(Pb (l:=l) λy hy=>qw _ _ _ _ (h y (by simp[hy]))).trans (QR hv)
  ·rfl
def cx{ls:List (B0×List (Int×Int))}{rev r:B0}{l:List (Int×Int)}(h:r≠rev):zu (zX ls rev l) r=zu ls r:=by
 unfold zu;rw[ya,if_neg (λe=>h e.symm)]
structure ScE(a b:zK):Prop where
 keys:gK b=gK a
 nil:lnW a = []→lnW b = []
def ScE.refl(a:zK):ScE a a:=⟨rfl,id⟩
def ScE.trans{a b c:zK}(h:ScE a b)(g:ScE b c):ScE a c:=⟨g.keys.trans h.keys,λe=>g.nil (h.nil e)⟩
structure ScK(n:Nat)(a:zK):Prop where
 len:(gK a).length≤n
 ids:∀q∈gK a,1≤q∧q≤n
def io(F:ze)(G:Ze)(id:Int)(rev:B0)(now:Int):(ki F G id rev now).2.1.all=G.all∨∃x,(ki F G id rev now).2.1.all=zX G.all id x:=by
 unfold ki;split
 ·exact .inl rfl
 split
 ·exact .inr ⟨_,rfl⟩
 split
 ·exact .inr ⟨_,rfl⟩
 split
 ·exact .inr ⟨_,rfl⟩
 ·exact .inr ⟨_,rfl⟩
def Ep(a:zK)(rev:B0):(jI a.gt.all rev).length≤(gK a).length:=by
 unfold jI gK;rw[KF,List.length_map,List.length_map];exact List.length_filter_le ..
def Er{k:Nat}{a:zK}(inv:yI k a)(ok:a.gt.Ok)(rev:B0):(VN a.gt rev).length≤8:=by
 unfold VN;rw[List.length_map];have h1:=Jn ok rev;have h2:=inv.gt.room.2;omega
def z04{w2 r mi ma:Int}(h2:CG w2 r mi ma=0)(hma:1≤ma):w2≤0:=by
 unfold CG at h2;have hm:1≤scM r:=by unfold scM;split<;>omega
 generalize scM r=m at *
 unfold mn2 mx2 at h2
 repeat' split at h2
 all_goals omega
def z03{want l a b:Int}(hw:0≤want)(ha:0≤a):0≤rH want l a b:=by
 unfold rH mx2
 repeat' split
 all_goals omega
def Sb{s n c:Int}(hs:0≤s):0≤jz s n c:=by
 unfold jz;split
 ·omega
 split
 ·omega
 ·have h:0<n*c:=Int.mul_pos (by omega) (by omega);exact Int.ediv_nonneg (by omega) (by omega)
def z05{want left:Int}{c:Cfg}{ready busy st sts sh shs idle:Int}(hma:1≤@id Int c.2.2.2.2.1)(hw:0≤want)(hst:0≤st)(h:(CH want left c ready busy st sts sh shs idle).1=0):busy≤0:=by
 unfold CH at h;dsimp only at h;have h1:=z04 h hma;have h2:=z03 (l:=vQ left (jz sh shs c.2.2.1) (scM ready)) (b:=jz sh shs c.2.2.1) hw (Sb (n:=sts) (c:=c.2.2.1) hst);generalize rH want (vQ left (jz sh shs c.2.2.1) (scM ready)) (jz st sts c.2.2.1) (jz sh shs c.2.2.1)=w1 at *
 unfold Sa at h1;by_cases hh:busy>0
 ·split at h1
  ·omega
  ·rename_i hn;exact absurd ⟨by omega,.inl hh⟩ hn
 ·omega
structure DnI(m n:Nat)(a:zK):Prop where
 len:a.gt.all.length=m
 num:(jI a.gt.all wv).length=n
 wh:∀p∈a.gt.all,p.2=(wv,(1:Int))→(Zu a.fl.l p.1).isSome=true
 st:∀p∈a.gt.all,(p.2=(wv,(1:Int))∨p.2=(wv,(3:Int)))∧1≤p.1∧p.1≤100
 rv:∀x∈a.fl.l,x.rev=wv∧x.pod.reqs.Nodup
 nil:lnW a = []
 sh:a.sh.n≤4
end Go.Proofs.YtimahgbgejngiaaGreatDoor
namespace Go.Proofs.YtimahgbgejngiaaGreatDoor
open Go.Dm
structure FoC(rv:B0)(c:Int)(F:ze)(all:jO)(l:List (Int×Int)):Prop where
 ok:F.Ok
 pod:∀x∈F.l,x.rev=rv∧x.pod.conc=c∧x.pod.reqs.Nodup∧(x.pod.reqs.length:Int)≤c∧(x.pod.st=3→x.pod.reqs≠[])∧(x.pod.st=1→x.pod.reqs = [])
 knd:(all.map (·.1)).Nodup
 hold:∀q,(Zu F.l q).isSome=true↔zr all q=some (rv,1)
 st1:∀p∈all,p.2.2=1→p.2.1=rv
 line:∀q,q∈l.map (·.1)↔zr all q=some (rv,2)
 st2:∀p∈all,p.2.2=2→p.2.1=rv
 lnd:(l.map (·.1)).Nodup
 st:∀p∈all,p.2.2=1∨p.2.2=2∨p.2.2=3∨p.2.2=4
 dl:∀y∈l,50≤y.2
def Sat(c:Int)(F:ze)(l:List (Int×Int)):Prop:=l = []∨∀x∈F.l,x.pod.st=2→c≤(x.pod.reqs.length:Int)
def AA:∀{R:List Zg}{b:Option Zg},R.foldl Qb b=none→b=none∧∀x∈R,can x≠true
 | [],b,h=>⟨h,λx hx=>by cases hx⟩
 | z::R,b,h=>by
  rw[List.foldl_cons]at h;obtain⟨h1,h2⟩:=AA h;unfold Qb at h1
  cases b with
  | none=>
   dsimp only at h1;split at h1
   ·cases h1
   ·rename_i hz;refine⟨rfl,λx hx=>?_⟩;rcases List.mem_cons.1 hx with rfl | hx
    ·exact hz
    ·exact h2 x hx
  | some y=>
   dsimp only at h1;split at h1<;>cases h1
def xU{l:List Zg}{q:Int}:(Zu l q).isSome=((Zu l q).map (·.id)).isSome:=by cases Zu l q<;>rfl
def iz{rv:B0}{c:Int}{F:ze}{all:jO}{l:List (Int×Int)}(C:FoC rv c F all l){q:Int}(hq:zr all q≠some (rv,1)):Zu F.l q=none:=by
 cases h:Zu F.l q with
 | none=>rfl
 | some x=>exact absurd ((C.hold q).1 (by rw[h];rfl)) hq
def nM{rv:B0}{c:Int}{F:ze}{all:jO}{l:List (Int×Int)}(C:FoC rv c F all l){q:Int}(hq:zr all q≠some (rv,1))(ht:(ZM F rv q).2.2=false):∀x∈F.l,x.pod.st=2→c≤(x.pod.reqs.length:Int):=by
 have hw:=iz C hq;unfold ZM at ht;rw[hw]at ht;rw[if_neg (by decide)]at ht;split at ht
 ·rename_i hp;unfold CT at hp;intro x hx h2;obtain⟨hr,hc,-⟩:=C.pod x hx;have hn:=(AA hp).2 x (List.mem_filter.2 ⟨hx,by simpa using hr⟩);unfold can at hn;rw[hc]at hn;rcases Int.lt_or_le (x.pod.reqs.length:Int) c with h | h
  ·exact absurd (decide_eq_true ⟨h2,h⟩) hn
  ·exact h
 ·cases ht
def qm{F:ze}(ok:F.Ok){x y:Zg}(hx:x∈F.l)(hy:y∈F.l)(h:x.id=y.id):x=y:=by
 have h1:=XA ok.pw hx;have h2:=XA ok.pw hy;rw[h,h2]at h1;exact(Option.some.inj h1).symm
def Wb{F:ze}(ok:F.Ok){rv:B0}{q:Int}{x:Zg}(h:x∈(ZM F rv q).1.l):x∈F.l∨∃y∈F.l,y.pod.st=2∧(y.pod.reqs.length:Int)<y.pod.conc∧q∉y.pod.reqs∧x = { y with pod:={ y.pod with reqs:=Mo q y.pod.reqs } }:=by
 unfold ZM at h;split at h
 ·exact .inl h
 ·rename_i hw;have hn:Zu F.l q=none:=by cases h:Zu F.l q<;>simp[h]at hw ⊢
  split at h
  ·exact .inl h
  ·rename_i z hp;obtain⟨hz,-,hc⟩:=gu hp;have hc2:=of_decide_eq_true hc;dsimp only at h;obtain⟨y,hy,⟨-,rfl⟩ | ⟨he,rfl,-⟩⟩:=Kj h
   ·exact .inl hy
   ·have e:=qm (F:=F) ok hy hz he;subst e;have hnq:=xN hn y hy;refine .inr ⟨y,hy,hc2.1,hc2.2,hnq,?_⟩;rw[Gp hc hnq]
def nJ{rv:B0}{c:Int}{F:ze}{all:jO}{y:Int×Int}{l:List (Int×Int)}(C:FoC rv c F all (y::l))(ht:(ZM F rv y.1).2.2=true):FoC rv c (ZM F rv y.1).1 (zX all y.1 (rv,1)) l:=by
 have hy2:zr all y.1=some (rv,2):=(C.line y.1).1 (by simp);have hnd:=C.lnd;rw[List.map_cons,List.nodup_cons]at hnd;refine⟨nT C.ok rv y.1,λx hx=>?_,QQ C.knd,λq=>?_,λp hp h1=>?_,λq=>?_,λp hp h2=>?_,hnd.2,λp hp=>?_,λz hz=>C.dl z (by simp[hz])⟩
 ·rcases Wb C.ok hx with hx | ⟨z,hz,h2,hlt,hq,rfl⟩
  ·exact C.pod x hx
  ·obtain⟨h1,hc,h3,h4,h5,h6⟩:=C.pod z hz;rw[hc]at hlt;refine⟨h1,hc,((Ve _ _).nodup_iff).2 (List.nodup_cons.2 ⟨hq,h3⟩),?_,λh=>?_,λh=>?_⟩
   ·dsimp only;rw[(Ve _ _).length_eq,List.length_cons];omega
   ·dsimp only at h;omega
   ·dsimp only at h;omega
 ·rw[xU,Bl C.ok rv y.1 q,ya];by_cases e:q=y.1
  ·subst e;rw[if_pos ⟨ht,rfl⟩,if_pos rfl];simp
  ·rw[if_neg (λhh=>e hh.2),if_neg (λhh=>e hh.symm),←xU];exact C.hold q
 ·rcases Zp hp with rfl | hp
  ·rfl
  ·exact C.st1 p hp h1
 ·rw[ya];by_cases e:y.1=q
  ·subst e;rw[if_pos rfl];constructor
   ·intro hh;exact absurd hh hnd.1
   ·intro hh;simp at hh
  ·rw[if_neg e,←C.line q,List.map_cons,List.mem_cons];constructor
   ·exact .inr
   ·rintro(h | h)
    ·exact absurd h.symm e
    ·exact h
 ·rcases Zp hp with rfl | hp
  ·simp at h2
  ·exact C.st2 p hp h2
 ·rcases Zp hp with rfl | hp
  ·exact .inl rfl
  ·exact C.st p hp
def Ib(f:yr):Prop:=f.2.1=1
def ba{rv:B0}{c:Int}:∀{l:List (Int×Int)}{F:ze}{all:jO}{out:List yr},FoC rv c F all l→(∀f∈out,Ib f)→
  FoC rv c (yt rv l F all out).1 (yt rv l F all out).2.1 (yt rv l F all out).2.2.1∧Sat c (yt rv l F all out).1 (yt rv l F all out).2.2.1∧(∀f∈(yt rv l F all out).2.2.2,Ib f)∧(yt rv l F all out).2.2.1.length≤l.length
 | [],F,all,out,C,ho=>⟨C,.inl rfl,ho,Nat.le_refl _⟩
 | y::l,F,all,out,C,ho=>by
  unfold yt;split
  ·rename_i ht;obtain⟨h1,h2,h3,h4⟩:=ba (out:=out++[(y.1,1,(ZM F rv y.1).2.1,s_,())]) (nJ C ht) λf hf=>by
    rcases List.mem_append.1 hf with hf | hf
    ·exact ho f hf
    ·rw[List.mem_singleton]at hf;subst hf;rfl
   exact⟨h1,h2,h3,by rw[List.length_cons];omega⟩
  ·rename_i ht;have hy2:zr all y.1=some (rv,2):=(C.line y.1).1 (by simp);exact⟨C,.inr (nM C (by rw[hy2];simp) (by simpa using ht)),ho,Nat.le_refl _⟩
def Ka{l:List Zg}{id:Int}{g:YZ→YZ}{x:Zg}(hx:x∈l):(x.id≠id→x∈YJ l id g)∧(x.id=id→(g x.pod).st≠4→{ x with pod:=g x.pod }∈YJ l id g):=by
 unfold YJ;exact⟨λh=>List.mem_filterMap.2 ⟨x,hx,by rw[if_neg h]⟩,λh h4=>List.mem_filterMap.2 ⟨x,hx,by rw[if_pos h,if_neg h4]⟩⟩
structure Tk(F F':ze):Prop where
 bk:∀x'∈F'.l,∃x∈F.l,x'.id=x.id∧x'.pod.st=x.pod.st∧(x.pod.st=3→x'.pod.reqs=x.pod.reqs)
 fw:∀x∈F.l,∃x'∈F'.l,x'.id=x.id∧x'.pod.st=x.pod.st∧∀q∈x.pod.reqs,q∈x'.pod.reqs
 rm:F'.room=F.room
 ln:F'.l.length=F.l.length
def Tk.refl(F:ze):Tk F F:=⟨λx hx=>⟨x,hx,rfl,rfl,λ_=>rfl⟩,λx hx=>⟨x,hx,rfl,rfl,λ_ h=>h⟩,rfl,rfl⟩
def Tk.trans{F G H:ze}(a:Tk F G)(b:Tk G H):Tk F H:=by
 refine⟨λz hz=>?_,λx hx=>?_,b.rm.trans a.rm,b.ln.trans a.ln⟩
 ·obtain⟨y,hy,h1,h2,h3⟩:=b.bk z hz;obtain⟨x,hx,g1,g2,g3⟩:=a.bk y hy;exact⟨x,hx,h1.trans g1,h2.trans g2,λh=>by rw[h3 (by rw[g2];exact h),g3 h]⟩
 ·obtain⟨y,hy,h1,h2,h3⟩:=a.fw x hx;obtain⟨z,hz,g1,g2,g3⟩:=b.fw y hy;exact⟨z,hz,g1.trans h1,g2.trans h2,λq hq=>g3 q (h3 q hq)⟩
def Al{F:ze}(ok:F.Ok)(rv:B0)(q:Int):Tk F (ZM F rv q).1:=by
 refine⟨λx hx=>?_,λx hx=>?_,?_,z2t (z01 ok rv q)⟩
 ·rcases Wb ok hx with hx | ⟨z,hz,h2,-,-,rfl⟩
  ·exact⟨x,hx,rfl,rfl,λ_=>rfl⟩
  ·exact⟨z,hz,rfl,rfl,λh=>by omega⟩
 ·unfold ZM;split
  ·exact⟨x,hx,rfl,rfl,λ_ h=>h⟩
  ·rename_i hw;have hn:Zu F.l q=none:=by cases h:Zu F.l q<;>simp[h]at hw ⊢
   split
   ·exact⟨x,hx,rfl,rfl,λ_ h=>h⟩
   ·rename_i z hp;obtain⟨hz,-,hc⟩:=gu hp;have hlv:=ok.live x hx;dsimp only;by_cases e:x.id=z.id
    ·have e2:=qm ok hx hz e;subst e2;refine⟨_,(Ka hx).2 rfl (by rw[Gp hc (xN hn x hx)];dsimp only;omega),rfl,?_,λp hp=>?_⟩
     ·rw[Gp hc (xN hn x hx)]
     ·rw[Gp hc (xN hn x hx)];exact Qk.2 (.inr hp)
    ·exact⟨x,(Ka hx).1 e,rfl,rfl,λ_ h=>h⟩
 ·unfold ZM
  repeat' split
  all_goals rfl
def lF{rv:B0}{c:Int}:∀{l:List (Int×Int)}{F:ze}{all:jO}{out:List yr},FoC rv c F all l→Tk F (yt rv l F all out).1
 | [],F,all,out,_=>Tk.refl F
 | y::l,F,all,out,C=>by
  unfold yt;split
  ·rename_i ht;exact(Al C.ok rv y.1).trans (lF (nJ C ht))
  ·exact Tk.refl F
def gz{rv:B0}{c:Int}{F:ze}{all:jO}{l:List (Int×Int)}(C:FoC rv c F all l){q:Int}(hq:zr all q=some (rv,1)) :
  ∃x,Zu F.l q=some x∧x∈F.l∧q∈x.pod.reqs∧(ZU F q).1.l=(YJ F.l x.id λp=>(yg p q).1)∧(yg x.pod q).1 = { x.pod with reqs:=x.pod.reqs.erase q,st:=if x.pod.st=3∧x.pod.reqs.erase q = []then 4 else x.pod.st }:=by
 obtain⟨x,hx⟩:=Option.isSome_iff_exists.1 ((C.hold q).2 hq);obtain⟨hm,hr⟩:=VO hx;refine⟨x,hx,hm,hr,?_,by rw[Dp hr]⟩;unfold ZU;rw[hx]
def RQ{rv:B0}{c:Int}{F:ze}{all:jO}{l:List (Int×Int)}(C:FoC rv c F all l){q:Int}(hq:zr all q=some (rv,1)):(ZU F q).2=(rv,0)∧(ZU F q).1.room=F.room∧(ZU F q).1.l.length≤F.l.length:=by
 obtain⟨x,hx⟩:=Option.isSome_iff_exists.1 ((C.hold q).2 hq);obtain⟨hm,hr⟩:=VO hx;unfold ZU;rw[hx,←(C.pod x hm).1];exact⟨rfl,rfl,show(YJ F.l x.id λp=>(yg p q).1).length≤F.l.length from FL _ _ _⟩
def nL{rv:B0}{c:Int}{F:ze}{all:jO}{l:List (Int×Int)}(C:FoC rv c F all l){q:Int}(hq:zr all q=some (rv,1)):FoC rv c (ZU F q).1 (zX all q (rv,3)) l:=by
 obtain⟨x,hx,hm,hr,hg,hp⟩:=gz C hq;have hnd:∀x∈F.l,x.pod.reqs.Nodup:=λx hx=>(C.pod x hx).2.2.1;refine⟨AK C.ok q,λz hz=>?_,QQ C.knd,λq'=>?_,λp hp h1=>?_,λq'=>?_,λp hp h2=>?_,C.lnd,λp hp=>?_,C.dl⟩
 ·rw[hg]at hz;obtain⟨y,hy,⟨-,rfl⟩ | ⟨he,rfl,h4⟩⟩:=Kj hz
  ·exact C.pod z hy
  ·have e:=qm C.ok hy hm he;subst e;obtain⟨h1,h2,h3,h5,h6,h7⟩:=C.pod y hy;rw[hp]at h4 ⊢;dsimp only at h4 ⊢;refine⟨h1,h2,h3.erase _,?_,λh=>?_,λh=>?_⟩
   ·have:=List.length_erase_le (a:=q) (l:=y.pod.reqs);omega
   ·split at h
    ·omega
    ·rename_i hn;exact λe=>hn ⟨h,e⟩
   ·split at h
    ·omega
    ·have:=h7 h;rw[this]at hr;cases hr
 ·rw[xU,BY C.ok hnd q q',ya];by_cases e:q'=q
  ·subst e;rw[if_pos rfl,if_pos rfl];simp
  ·rw[if_neg e,if_neg (λh=>e h.symm),←xU];exact C.hold q'
 ·rcases Zp hp with rfl | hp
  ·simp at h1
  ·exact C.st1 p hp h1
 ·rw[ya];by_cases e:q=q'
  ·subst e;rw[if_pos rfl,C.line q,hq];simp
  ·rw[if_neg e];exact C.line q'
 ·rcases Zp hp with rfl | hp
  ·simp at h2
  ·exact C.st2 p hp h2
 ·rcases Zp hp with rfl | hp
  ·exact .inr (.inr (.inl rfl))
  ·exact C.st p hp
def RH(F:ze)(q:Int):Prop:=∃x∈F.l,q∈x.pod.reqs∧x.pod.st=2
def RH.tk{F F':ze}(t:Tk F F'){q:Int}(h:RH F q):RH F' q:=by
 obtain⟨x,hx,hq,h2⟩:=h;obtain⟨x',hx',-,h3,h4⟩:=t.fw x hx;exact⟨x',hx',h4 q hq,h3.trans h2⟩
def RH.give{rv:B0}{c:Int}{F:ze}{all:jO}{l:List (Int×Int)}(C:FoC rv c F all l){q q':Int}(hq:zr all q=some (rv,1))(hne:q'≠q)(h:RH F q'):RH (ZU F q).1 q':=by
 obtain⟨x,hx,hm,hr,hg,hp⟩:=gz C hq;obtain⟨y,hy,hyq,h2⟩:=h;unfold RH;rw[hg];by_cases e:y.id=x.id
 ·have e2:=qm C.ok hy hm e;subst e2;have hst:(yg y.pod q).1.st=2:=by rw[hp];dsimp only;rw[if_neg (by omega)];exact h2
  refine⟨_,(Ka (g:=λp=>(yg p q).1) hy).2 rfl (by rw[hst];decide),?_,hst⟩;dsimp only;rw[hp];exact(List.mem_erase_of_ne hne).2 hyq
 ·exact⟨y,(Ka hy).1 e,hyq,h2⟩
def SM{rv:B0}{c:Int}{F:ze}{all:jO}{l:List (Int×Int)}{out:List yr}(C:FoC rv c F all l){q:Int}(hq:zr all q=some (rv,1))(hR:RH F q)(hl:l≠[]) :
  (yt rv l (ZU F q).1 (zX all q (rv,3)) out).2.2.1.length+1≤l.length:=by
 have C1:=nL C hq;obtain⟨x,hx,hm,hr,hg,hp⟩:=gz C hq;obtain⟨y,hy,hyq,h2⟩:=hR;have e:x=y:=by
  have:=xF C.ok.once hy hyq;rw[hx]at this;exact Option.some.inj this
 subst e;rcases l with _ | ⟨z,l⟩
 ·exact absurd rfl hl
 ·have hz2:zr (zX all q (rv,3)) z.1=some (rv,2):=(C1.line z.1).1 (by simp);have ht:(ZM (ZU F q).1 rv z.1).2.2=true:=by
   cases h:(ZM (ZU F q).1 rv z.1).2.2 with
   | true=>rfl
   | false=>
    have hf:=nM C1 (by rw[hz2];simp) h;have hst:(yg x.pod q).1.st=2:=by rw[hp];dsimp only;rw[if_neg (by omega)];exact h2
    have hin:({ x with pod:=(yg x.pod q).1 }:Zg)∈(ZU F q).1.l:=by
     rw[hg];exact(Ka (g:=λp=>(yg p q).1) hm).2 rfl (by rw[hst];decide)
    have h3:=hf _ hin hst;dsimp only at h3;rw[hp]at h3;dsimp only at h3;have h4:=List.length_erase_of_mem hr;have h5:=(C.pod x hm).2.2.2.1;have h6:0<x.pod.reqs.length:=List.length_pos_of_mem hr;omega
  unfold yt;rw[if_pos ht];have:=(Ut (rev:=rv) (l:=l) (F:=(ZM (ZU F q).1 rv z.1).1) (all:=zX (zX all q (rv,3)) z.1 (rv,1)) (out:=out++[(z.1,1,(ZM (ZU F q).1 rv z.1).2.1,s_,())])).2.1;rw[List.length_cons];omega
structure FoG(rv:B0)(c:Int)(F:ze)(G:Ze):Prop where
 C:FoC rv c F G.all (zu G.lines rv)
 oth:∀k,k≠rv→zu G.lines k = []
 sat:Sat c F (zu G.lines rv)
 ids:∀p∈G.all,1≤p.1∧p.1≤2000
abbrev ln(G:Ze)(rv:B0):List (Int×Int):=zu G.lines rv
def Dr(F:ze)(L:List Int):Prop:=∀x∈F.l,x.pod.st=3→∀q∈x.pod.reqs,q∈L
def Ns(F:ze):Prop:=∀x∈F.l,x.pod.st≠1
def Dr.tk{F F':ze}{L:List Int}(t:Tk F F')(h:Dr F L):Dr F' L:=λx hx h3 q hq=>by
 obtain⟨y,hy,-,h2,h4⟩:=t.bk x hx;rw[h4 (by rw[←h2];exact h3)]at hq;exact h y hy (by rw[←h2];exact h3) q hq
def Ns.tk{F F':ze}(t:Tk F F')(h:Ns F):Ns F':=λx hx=>by
 obtain⟨y,hy,-,h2,-⟩:=t.bk x hx;rw[h2];exact h y hy
def nN{rv:B0}{q:Int}:∀{l:List (Int×Int)}{F:ze}{all:jO}{out:List yr},zr all q=some (rv,1)→zr (yt rv l F all out).2.1 q=some (rv,1)
 | [],_,_,_,h=>h
 | y::l,F,all,out,h=>by
  unfold yt;split
  ·refine nN (l:=l) ?_;rw[ya];split
   ·rfl
   ·exact h
  ·exact h
def WM{rv:B0}{P:Int→Prop}:∀{l:List (Int×Int)}{F:ze}{all:jO}{out:List yr},(∀p∈all,P p.1)→(∀y∈l,P y.1)→∀p∈(yt rv l F all out).2.1,P p.1
 | [],_,_,_,h,_=>h
 | y::l,F,all,out,h,hl=>by
  unfold yt;split
  ·refine WM (l:=l) (λp hp=>?_) λz hz=>hl z (by simp[hz]);rcases Zp hp with rfl | hp
   ·exact hl y (by simp)
   ·exact h p hp
  ·exact h
def HH{rv:B0}{c:Int}{F:ze}{all:jO}{l:List (Int×Int)}(C:FoC rv c F all l){P:Int→Prop}(h:∀p∈all,P p.1):∀y∈l,P y.1:=λy hy=>by
 have:=(C.line y.1).1 (List.mem_map.2 ⟨y,hy,rfl⟩);exact h _ (yK this)
def EN{F F':ze}{c:Int}{l:List (Int×Int)}(h:Sat c F l)(hs:∀x∈F'.l,x.pod.st=2→x∈F.l):Sat c F' l:=h.imp id λh x hx h2=>h x (hs x hx h2) h2
def RW{rv:B0}{c:Int}{F:ze}{G:Ze}(C:FoC rv c F G.all (ln G rv))(oth:∀k,k≠rv→zu G.lines k = [])(ids:∀p∈G.all,1≤p.1∧p.1≤2000) :
  FoG rv c (yX F G rv).1 (yX F G rv).2.1∧(∀f∈(yX F G rv).2.2,Ib f)∧(ln (yX F G rv).2.1 rv).length≤(ln G rv).length∧Tk F (yX F G rv).1:=by
 obtain⟨h1,h2,h3,h4⟩:=ba (out:=[]) C (λf hf=>by cases hf);have e:ln (yX F G rv).2.1 rv=(yt rv (zu G.lines rv) F G.all []).2.2.1:=xM _ _ _;refine⟨⟨?_,λk hk=>?_,?_,WM (P:=λq=>1≤q∧q≤2000) ids (HH (P:=λq=>1≤q∧q≤2000) C ids)⟩,h3,by rw[e];exact h4,lF C⟩
 ·have e':zu (yX F G rv).2.1.lines rv=_:=e;rw[e'];exact h1
 ·show zu (zX G.lines rv _) k = [];rw[cx hk];exact oth k hk
 ·have e':zu (yX F G rv).2.1.lines rv=_:=e;rw[e'];exact h2
def oa{rv:B0}{c:Int}{F:ze}{G:Ze}(I:FoG rv c F G){q:Int}(hq:zr G.all q=some (rv,1)):Yu F G q=((yX (ZU F q).1 { G with all:=zX G.all q (rv,3) } rv).1,(yX (ZU F q).1 { G with all:=zX G.all q (rv,3) } rv).2.1,
  (q,3,0,s_,())::(yX (ZU F q).1 { G with all:=zX G.all q (rv,3) } rv).2.2,0):=by
 obtain⟨h1,-,-⟩:=RQ I.C hq;unfold Yu;rw[h1];rw[if_neg (show ¬(0:Int)≠0 by decide)]
def RX{rv:B0}{c:Int}{F:ze}{G:Ze}(I:FoG rv c F G){q:Int}(hq:zr G.all q=some (rv,1)) :
  FoG rv c (Yu F G q).1 (Yu F G q).2.1∧(Yu F G q).2.2.2=0∧(∀f∈(Yu F G q).2.2.1,f.2.1=1∨f.2.1=3)∧(ln (Yu F G q).2.1 rv).length≤(ln G rv).length∧(RH F q→ln G rv≠[]→(ln (Yu F G q).2.1 rv).length+1≤(ln G rv).length):=by
 have C1:=nL I.C hq;rw[oa I hq];obtain⟨h1,h2,h3,h4⟩:=RW (G:={ G with all:=zX G.all q (rv,3) }) C1 I.oth (λp hp=>by
  rcases Zp hp with rfl | hp
  ·exact(show 1≤q∧q≤2000 from I.ids (q,(rv,1)) (yK hq))
  ·exact I.ids p hp)
 refine⟨h1,rfl,λf hf=>?_,h3,λhR hl=>?_⟩
 ·rcases List.mem_cons.1 hf with rfl | hf
  ·exact .inr rfl
  ·exact .inl (h2 f hf)
 ·have:=SM (out:=[]) I.C hq hR hl;have e:ln (yX (ZU F q).1 { G with all:=zX G.all q (rv,3) } rv).2.1 rv=(yt rv (zu G.lines rv) (ZU F q).1 (zX G.all q (rv,3)) []).2.2.1:=xM _ _ _;show(ln (yX (ZU F q).1 { G with all:=zX G.all q (rv,3) } rv).2.1 rv).length+1≤_;rw[e];exact this
def Dq{rv:B0}{c:Int}{F:ze}{G:Ze}(I:FoG rv c F G){q:Int}(hq:zr G.all q=some (rv,1)):Tk (ZU F q).1 (Yu F G q).1:=by
 rw[oa I hq];exact lF (nL I.C hq)
def eo{rv:B0}{c:Int}{F:ze}{G:Ze}(I:FoG rv c F G){q q':Int}(hq:zr G.all q=some (rv,1))(hne:q'≠q)(h:zr G.all q'=some (rv,1)):zr (Yu F G q).2.1.all q'=some (rv,1):=by
 rw[oa I hq];refine nN ?_;rw[ya,if_neg (λe=>hne e.symm)];exact h
def eh{rv:B0}{c:Int}{F:ze}{G:Ze}(I:FoG rv c F G){q q':Int}(hq:zr G.all q=some (rv,1))(hl:ln G rv = [])(h:zr (Yu F G q).2.1.all q'=some (rv,1)):q'≠q∧zr G.all q'=some (rv,1):=by
 rw[oa I hq]at h;have hl:zu G.lines rv = []:=hl;have h:zr (yt rv (zu G.lines rv) (ZU F q).1 (zX G.all q (rv,3)) []).2.1 q'=some (rv,1):=h;rw[hl]at h;have h:zr (zX G.all q (rv,3)) q'=some (rv,1):=h;rw[ya]at h;split at h
 ·simp at h
 ·rename_i e;exact⟨λhh=>e hh.symm,h⟩
def z0L{rv:B0}{c:Int}{F:ze}{G:Ze}(I:FoG rv c F G){q:Int}{L:List Int}(hq:zr G.all q=some (rv,1))(h:Dr F (q::L)):Dr (Yu F G q).1 L:=by
 refine Dr.tk (Dq I hq) λy hy h3 q' hq'=>?_;obtain⟨x,hx,hm,hr,hg,hp⟩:=gz I.C hq;rw[hg]at hy;obtain⟨z,hz,⟨hne,rfl⟩ | ⟨he,rfl,h4⟩⟩:=Kj hy
 ·rcases List.mem_cons.1 (h y hz h3 q' hq')with rfl | h5
  ·have:=xF I.C.ok.once hz hq';rw[hx]at this;exact absurd (congrArg Zg.id (Option.some.inj this)).symm hne
  ·exact h5
 ·have e:=qm I.C.ok hz hm he;subst e;rw[hp]at h4 h3 hq';dsimp only at h4 h3 hq';have h30:z.pod.st=3:=by
   split at h3
   ·omega
   ·exact h3
  have hnd:=(I.C.pod z hz).2.2.1;have hne:=((List.Nodup.mem_erase_iff hnd).1 hq');rcases List.mem_cons.1 (h z hz h30 q' hne.2)with rfl | h5
  ·exact absurd rfl hne.1
  ·exact h5
def z0K{rv:B0}{c:Int}{F:ze}{G:Ze}(I:FoG rv c F G){q:Int}(hq:zr G.all q=some (rv,1))(h:Ns F):Ns (Yu F G q).1:=by
 refine Ns.tk (Dq I hq) λy hy=>?_;obtain⟨x,hx,hm,hr,hg,hp⟩:=gz I.C hq;rw[hg]at hy;obtain⟨z,hz,⟨hne,rfl⟩ | ⟨he,rfl,h4⟩⟩:=Kj hy
 ·exact h y hz
 ·have e:=qm I.C.ok hz hm he;subst e;rw[hp];dsimp only;split
  ·decide
  ·exact h z hz
def z0J{rv:B0}{c:Int}{F:ze}{G:Ze}(I:FoG rv c F G){q:Int}(hq:zr G.all q=some (rv,1)):(Yu F G q).1.room=F.room∧(Yu F G q).1.l.length≤F.l.length:=by
 obtain⟨-,h1,h2⟩:=RQ I.C hq;have t:=Dq I hq;exact⟨t.rm.trans h1,by rw[t.ln];exact h2⟩
end Go.Proofs.YtimahgbgejngiaaGreatDoor
namespace Go.Proofs.YtimahgbgejngiaaGreatDoor
open Go.Dm
variable {rv:B0}{c:Int}{F:ze}{all:jO}{l:List (Int×Int)}
def iw(C:FoC rv c F all l){x:Zg}(hx:x∈F.l)(h1:x.pod.st=1):FoC rv c (jJ F x.id).1 all l∧(jJ F x.id).2=0∧(jJ F x.id).1.l=(YJ F.l x.id λp=>(Yl p).1)∧(Yl x.pod).1 = { x.pod with st:=2 }∧(jJ F x.id).1.room=F.room∧(jJ F x.id).1.last=F.last:=by
 have hf:=XA C.ok.pw hx;have hp:Yl x.pod=({ x.pod with st:=2 },0):=by unfold Yl;rw[if_neg (by omega)]
 have e:jJ F x.id=({ F with l:=YJ F.l x.id λp=>(Yl p).1 },0):=by
  unfold jJ;rw[hf];dsimp only;rw[hp]
 have hok:=Et C.ok x.id;rw[e]at hok ⊢;refine⟨⟨hok,λz hz=>?_,C.knd,λq=>?_,C.st1,C.line,C.st2,C.lnd,C.st,C.dl⟩,rfl,rfl,by rw[hp],rfl,rfl⟩
 ·have hz:z∈YJ F.l x.id λp=>(Yl p).1:=hz;obtain⟨y,hy,⟨-,rfl⟩ | ⟨he,rfl,h4⟩⟩:=Kj hz
  ·exact C.pod z hy
  ·have e:=qm C.ok hy hx he;subst e;obtain⟨g1,g2,g3,g4,g5,g6⟩:=C.pod y hy;rw[hp];exact⟨g1,g2,g3,g4,λh=>by dsimp only at h;omega,λh=>by dsimp only at h;omega⟩
 ·show(Zu (YJ F.l x.id λp=>(Yl p).1) q).isSome=true↔_;rw[xU,C.ok.where_upd hf (λp=>(Yl p).1) (λq hq=>by rw[hp]at hq;exact .inl hq) (λh4=>by rw[hp]at h4;dsimp only at h4;omega),hp];dsimp only;rw[←C.hold q];by_cases hq:q∈x.pod.reqs
  ·rw[if_pos hq,xF C.ok.once hx hq];rfl
  ·rw[if_neg hq,if_neg hq,←xU]
def RZ(hc:0≤c):∀(n:Nat),F.l.length+n<100000000→F.last+n<4611686018427387904→FoC rv c F all l→FoC rv c (grow rv c n F) all l
 | 0,_,_,C=>C
 | n+1,h1,h2,C=>by
  have C1:=RZ hc n (by omega) (by omega) C;have hl:=VM (rev:=rv) (conc:=c) (F:=F) n;have hla:=KH (rev:=rv) (conc:=c) (F:=F) n;refine⟨nG C1.ok (by rw[hl];omega) (by rw[hla];omega),λx hx=>?_,C1.knd,λq=>?_,C1.st1,C1.line,C1.st2,C1.lnd,C1.st,C1.dl⟩
  ·rcases List.mem_append.1 hx with hx | hx
   ·exact C1.pod x hx
   ·rw[List.mem_singleton]at hx;subst hx;exact⟨rfl,rfl,List.nodup_nil,by simpa using hc,λh=>by dsimp only at h;omega,λ_=>rfl⟩
  ·rw[←C1.hold q];show(Zu ((grow rv c n F).l++[_]) q).isSome=true↔_;unfold Zu;rw[List.find?_append];simp
def SW(C:FoC rv c F all l)(hc:0<ZA F.l rv):FoC rv c (qD rv F) all l:=by
 obtain⟨x,hf,hr,hst⟩:=gh C.ok hc;obtain⟨hx,hid⟩:=YS hf;have hd:=FM hst;refine⟨cJ C.ok hc,λz hz=>?_,C.knd,λq=>?_,C.st1,C.line,C.st2,C.lnd,C.st,C.dl⟩
 ·have hz:z∈YJ F.l (Vf F.l rv) λp=>(yy p).1:=hz;obtain⟨y,hy,⟨-,rfl⟩ | ⟨he,rfl,h4⟩⟩:=Kj hz
  ·exact C.pod z hy
  ·have e:=qm C.ok hy hx (he.trans hid.symm);subst e;obtain⟨g1,g2,g3,g4,g5,g6⟩:=C.pod y hy;rw[hd]at h4 ⊢;dsimp only at h4 ⊢;split at h4
   ·omega
   ·rename_i hn;rw[if_neg hn];exact⟨g1,g2,g3,g4,λ_=>hn,λh=>by omega⟩
 ·show(Zu (YJ F.l (Vf F.l rv) λp=>(yy p).1) q).isSome=true↔_;rw[xU,C.ok.where_upd hf (λp=>(yy p).1) (λq hq=>by rw[hd]at hq;exact .inl hq) (λh4=>by
   rw[hd]at h4 ⊢;dsimp only at h4 ⊢;split at h4
   ·assumption
   ·omega),hd]
  dsimp only;rw[←C.hold q];by_cases hq:q∈x.pod.reqs
  ·rw[if_pos hq,xF C.ok.once hx hq];rfl
  ·rw[if_neg hq,if_neg hq,←xU]
def nK:∀{n:Nat}{F:ze},FoC rv c F all l→n≤ZA F.l rv→FoC rv c (shrink rv n F).1 all l∧ZA (shrink rv n F).1.l rv+n=ZA F.l rv
 | 0,F,C,_=>⟨C,rfl⟩
 | n+1,F,C,hn=>by
  have hc:0<ZA F.l rv:=by omega
  have h1:=GK C.ok hc;obtain⟨h2,h3⟩:=nK (n:=n) (SW C hc) (by omega);refine⟨h2,?_⟩;show ZA (shrink rv n (qD rv F)).1.l rv+(n+1)=_;omega
def nD:∀(n:Nat){x:Zg},x∈(grow rv c n F).l→x.pod.st=2→x∈F.l
 | 0,_,h,_=>h
 | n+1,x,h,h2=>by
  rcases List.mem_append.1 h with h | h
  ·exact nD n h h2
  ·rw[List.mem_singleton]at h;subst h;dsimp only at h2;omega
def bo{x:Zg}(h:x∈(qD rv F).l)(h2:x.pod.st=2):x∈F.l:=by
 have h:x∈YJ F.l (Vf F.l rv) λp=>(yy p).1:=h;obtain⟨y,hy,⟨-,rfl⟩ | ⟨he,rfl,h4⟩⟩:=Kj h
 ·exact hy
 ·exfalso;dsimp only at h2;unfold yy at h2;split at h2
  ·dsimp only at h2;omega
  ·dsimp only at h2;split at h2<;>omega
def ta:∀{n:Nat}{F:ze}{x:Zg},x∈(shrink rv n F).1.l→x.pod.st=2→x∈F.l
 | 0,_,_,h,_=>h
 | n+1,F,x,h,h2=>bo (ta (n:=n) (F:=qD rv F) h h2) h2
def DM(F:ze)(want:Int):xo F rv want≤ZA F.l rv:=by unfold xo;omega
def SU(C:FoC rv c F all l)(hc:0≤c){want:Int}(h1:F.l.length≤1000)(hr:F.room≤1000)(h2:F.last≤1000000):FoC rv c (Ys F rv c want).1 all l∧(Sat c F l→Sat c (Ys F rv c want).1 l)∧(1≤want→(1≤ZA F.l rv∨(F.l.length:Int)<F.room)→1≤ZA (Ys F rv c want).1.l rv):=by
 have hg:=FK F rv want;have C1:FoC rv c (yT F rv c want) all l:=RZ hc _ (by omega) (by omega) C;have hcn:ZA (yT F rv c want).l rv=ZA F.l rv+qM F rv want:=nF _;have hle:=DM (rv:=rv) (yT F rv c want) want;obtain⟨C2,h3⟩:=nK C1 hle;refine⟨C2,λhs=>EN hs λx hx h2=>nD _ (ta hx h2) h2,λhw hl=>?_⟩;show 1≤ZA (shrink rv (xo (yT F rv c want) rv want) (yT F rv c want)).1.l rv;have hn:xo (yT F rv c want) rv want=((ZA (yT F rv c want).l rv:Int)-max want 0).toNat:=rfl;omega
def iP{F:ze}(h:1≤ZA F.l rv):∃x∈F.l,x.pod.st≠3:=by
 unfold ZA at h;obtain⟨x,hx⟩:=List.exists_mem_of_length_pos (show 0<((revs F.l rv).filter fP).length by omega);obtain⟨h1,h2⟩:=List.mem_filter.1 hx;exact⟨x,(List.mem_filter.1 h1).1,of_decide_eq_true h2⟩
def Eu{F:ze}{x:Zg}(hx:x∈F.l)(hr:x.rev=rv)(h:x.pod.st≠3):1≤ZA F.l rv:=by
 unfold ZA;exact List.length_pos_of_mem (List.mem_filter.2 ⟨List.mem_filter.2 ⟨hx,by simpa using hr⟩,decide_eq_true h⟩)
end Go.Proofs.YtimahgbgejngiaaGreatDoor
namespace Go.Proofs.YtimahgbgejngiaaGreatDoor
open Go.Dm
variable {rv:B0}{c:Int}{F:ze}{G:Ze}{all:jO}{l:List (Int×Int)}
def iy(C:FoC rv c F all l){id:Int}{r:B0}(hn:zr all id=none):FoC rv c F (zX all id (r,4)) l:=by
 refine⟨C.ok,C.pod,QQ C.knd,λq=>?_,λp hp h1=>?_,λq=>?_,λp hp h2=>?_,C.lnd,λp hp=>?_,C.dl⟩
 ·rw[C.hold q,ya];by_cases e:id=q
  ·subst e;rw[if_pos rfl,hn];simp
  ·rw[if_neg e]
 ·rcases Zp hp with rfl | hp
  ·simp at h1
  ·exact C.st1 p hp h1
 ·rw[C.line q,ya];by_cases e:id=q
  ·subst e;rw[if_pos rfl,hn];simp
  ·rw[if_neg e]
 ·rcases Zp hp with rfl | hp
  ·simp at h2
  ·exact C.st2 p hp h2
 ·rcases Zp hp with rfl | hp
  ·exact .inr (.inr (.inr rfl))
  ·exact C.st p hp
def RY(C:FoC rv c F all l){id d:Int}(hn:zr all id=none)(hd:50≤d):FoC rv c F (zX all id (rv,2)) (l++[(id,d)]):=by
 have hnl:id∉l.map (·.1):=λh=>by
  have:=(C.line id).1 h;rw[hn]at this;cases this
 refine⟨C.ok,C.pod,QQ C.knd,λq=>?_,λp hp h1=>?_,λq=>?_,λp hp h2=>?_,?_,λp hp=>?_,λy hy=>?_⟩
 ·rw[C.hold q,ya];by_cases e:id=q
  ·subst e;rw[if_pos rfl,hn];simp
  ·rw[if_neg e]
 ·rcases Zp hp with rfl | hp
  ·rfl
  ·exact C.st1 p hp h1
 ·rw[ya,List.map_append,List.mem_append,C.line q];by_cases e:id=q
  ·subst e;rw[if_pos rfl];simp
  ·rw[if_neg e];constructor
   ·rintro(h | h)
    ·exact h
    ·exact absurd (by simpa using h:q=id).symm e
   ·exact .inl
 ·rcases Zp hp with rfl | hp
  ·rfl
  ·exact C.st2 p hp h2
 ·rw[List.map_append,List.nodup_append];refine⟨C.lnd,by simp,λa ha b hb=>?_⟩;have hb:b=id:=by simpa using hb
  subst hb;exact λe=>hnl (e▸ha)
 ·rcases Zp hp with rfl | hp
  ·exact .inr (.inl rfl)
  ·exact C.st p hp
 ·rcases List.mem_append.1 hy with hy | hy
  ·exact C.dl y hy
  ·rw[List.mem_singleton]at hy;subst hy;exact hd
def z0x(I:FoG rv c F G){id now:Int}(hid:1≤id∧id≤2000)(hn:zr G.all id=none)(hrv:rv≠s_)(hd:50≤now+G.pat):FoG rv c (ki F G id rv now).1 (ki F G id rv now).2.1:=by
 have ids:∀x:B0×Int,∀p∈zX G.all id x,1≤p.1∧p.1≤2000:=λx p hp=>by
  rcases Zp hp with rfl | hp
  ·exact hid
  ·exact I.ids p hp
 have oth:∀x:List (Int×Int),∀k,k≠rv→zu (zX G.lines rv x) k = []:=λx k hk=>by rw[cx hk];exact I.oth k hk
 have hnl:cz (zu G.lines rv) id=false:=by
  cases h:cz (zu G.lines rv) id with
  | false=>rfl
  | true=>
   unfold cz at h;obtain⟨y,hy,he⟩:=List.any_eq_true.1 h;have h2:=(I.C.line y.1).1 (List.mem_map.2 ⟨y,hy,rfl⟩);have e:y.1=id:=by simpa using he
   rw[e,hn]at h2;cases h2
 unfold ki;rw[if_neg (by unfold ij;rw[hn];decide),if_neg hrv];split
 ·rename_i h;obtain⟨h0,ht⟩:=h;have h0:zu G.lines rv = []:=List.length_eq_zero_iff.1 h0;have C2:=RY I.C (id:=id) (d:=50) hn (Int.le_refl _);rw[h0]at C2;have C3:=nJ (y:=(id,50)) (l:=[]) C2 ht;dsimp only at C3;rw[cm]at C3;refine⟨?_,oth _,?_,ids _⟩
  ·show FoC rv c _ _ (zu (zX G.lines rv (zu G.lines rv)) rv);rw[xM,h0];exact C3
  ·show Sat c _ (zu (zX G.lines rv (zu G.lines rv)) rv);rw[xM];exact .inl h0
 ·rename_i hcase;split
  ·refine⟨?_,oth _,?_,ids _⟩
   ·show FoC rv c _ _ (zu (zX G.lines rv (zu G.lines rv)) rv);rw[xM];exact iy I.C hn
   ·show Sat c _ (zu (zX G.lines rv (zu G.lines rv)) rv);rw[xM];exact I.sat
  ·rename_i hp;have e:(vg G.room (zu G.lines rv) id (now+G.pat)).1=zu G.lines rv++[(id,now+G.pat)]:=by
    unfold vg at hp ⊢;rw[if_neg (by rw[hnl];decide)]at hp ⊢;split at hp
    ·simp at hp
    ·rename_i h;rw[if_neg h]
   rw[e];refine⟨?_,oth _,?_,ids _⟩
   ·show FoC rv c _ _ (zu (zX G.lines rv _) rv);rw[xM];exact RY I.C hn hd
   ·show Sat c _ (zu (zX G.lines rv _) rv);rw[xM];refine .inr ?_;by_cases h0:zu G.lines rv = []
    ·have ht:(ZM F rv id).2.2=false:=by
      cases h:(ZM F rv id).2.2 with
      | false=>rfl
      | true=>exact absurd ⟨by rw[h0];rfl,h⟩ hcase
     exact nM I.C (by rw[hn];simp) ht
    ·rcases I.sat with h | h
     ·exact absurd h h0
     ·exact h
def Ww{r:B0}:∀{ids:List Int}{all:jO}{out:List yr},ids.Nodup→(∀q∈ids,zr all q=some (r,1))→∀q,zr (jV ids all out).1 q=if q∈ids then some (r,4)else zr all q
 | [],all,out,_,_,q=>by simp[jV]
 | x::ids,all,out,hn,h,q=>by
  have hx:=h x (by simp);have hr:Up all x=(r,1):=by unfold Up;rw[hx];rfl
  rw[List.nodup_cons]at hn;unfold jV;rw[hr];rw[if_pos rfl];rw[Ww hn.2 (λp hp=>by rw[ya,if_neg (λe=>hn.1 (by rw[e];exact hp))];exact h p (by simp[hp])) q,ya];by_cases e:q∈ids
  ·rw[if_pos e,if_pos (by simp[e])]
  ·rw[if_neg e];by_cases e2:x=q
   ·subst e2;rw[if_pos rfl,if_pos (by simp)]
   ·rw[if_neg e2,if_neg (by simp[e];exact λh=>e2 h.symm)]
def Wv{r:B0}:∀{ids:List Int}{all:jO}{out:List yr},(∀q∈ids,zr all q=some (r,1))→ids.Nodup→∀p∈(jV ids all out).1,p∈all∨(p.2=(r,4)∧p.1∈ids)
 | [],all,out,_,_,p,hp=>.inl hp
 | x::ids,all,out,h,hn,p,hp=>by
  have hx:=h x (by simp);have hr:Up all x=(r,1):=by unfold Up;rw[hx];rfl
  rw[List.nodup_cons]at hn;unfold jV at hp;rw[hr,if_pos rfl]at hp;rcases Wv (λq hq=>by rw[ya,if_neg (λe=>hn.1 (by rw[e];exact hq))];exact h q (by simp[hq])) hn.2 p hp with h1 | ⟨h1,h2⟩
  ·rcases Zp h1 with rfl | h1
   ·exact .inr ⟨rfl,by simp⟩
   ·exact .inl h1
  ·exact .inr ⟨h1,by simp[h2]⟩
def nq:∀{ids:List Int}{all:jO}{out:List yr},(all.map (·.1)).Nodup→((jV ids all out).1.map (·.1)).Nodup
 | [],_,_,h=>h
 | x::ids,all,out,h=>by
  unfold jV;split
  ·exact nq (QQ h)
  ·exact nq h
def iv(I:FoG rv c F G){id:Int}{x:Zg}(hx:Xd F.l id=some x):FoG rv c (Jt F id).1 (Oj G (Jt F id).2.1).1:=by
 obtain⟨hm,hid⟩:=YS hx;have hl:=I.C.ok.live x hm;have hp:yk x.pod=({ x.pod with st:=4,reqs:=[] },x.pod.reqs,0):=AE (by omega);have e:Jt F id=({ F with l:=YJ F.l id λp=>(yk p).1 },x.pod.reqs,0):=by unfold Jt;rw[hx]
 have hnd:=(I.C.pod x hm).2.2.1;have hs1:∀q∈x.pod.reqs,zr G.all q=some (rv,1):=λq hq=>(I.C.hold q).1 (by rw[xF I.C.ok.once hm hq];rfl);have hget:=Ww (out:=[]) hnd hs1;have hmem:=Wv (out:=[]) hs1 hnd;rw[e];have hsub:∀z∈(YJ F.l id λp=>(yk p).1),z∈F.l:=λz hz=>by
  obtain⟨y,hy,⟨-,rfl⟩ | ⟨he,rfl,h4⟩⟩:=Kj hz
  ·exact hy
  ·exfalso;have e2:=qm I.C.ok hy hm (he.trans hid.symm);subst e2;rw[hp]at h4;exact h4 rfl
 refine⟨⟨?_,λz hz=>I.C.pod z (hsub z hz),nq I.C.knd,λq=>?_,λp hp h1=>?_,λq=>?_,λp hp h2=>?_,I.C.lnd,λp hp=>?_,I.C.dl⟩,I.oth,I.sat.imp _root_.id λh z hz h2=>h z (hsub z hz) h2,λp hp=>?_⟩
 ·exact I.C.ok.upd hx _ (by rw[hp];simp) (λq hq=>by rw[hp]at hq;cases hq)
 ·show(Zu (YJ F.l id λp=>(yk p).1) q).isSome=true↔zr (jV x.pod.reqs G.all []).1 q=_;rw[hget q,xU,I.C.ok.where_upd hx (λp=>(yk p).1) (λq hq=>by rw[hp]at hq;cases hq) (λ_=>by rw[hp]),hp];dsimp only;rw[if_neg (by simp)];by_cases hq:q∈x.pod.reqs
  ·rw[if_pos hq,if_pos hq];simp
  ·rw[if_neg hq,if_neg hq,←xU];exact I.C.hold q
 ·rcases hmem p hp with h | ⟨h,-⟩
  ·exact I.C.st1 p h h1
  ·rw[h]at h1;simp at h1
 ·show q∈(zu G.lines rv).map (·.1)↔zr (jV x.pod.reqs G.all []).1 q=_;rw[hget q,I.C.line q];by_cases hq:q∈x.pod.reqs
  ·rw[if_pos hq,hs1 q hq];simp
  ·rw[if_neg hq]
 ·rcases hmem p hp with h | ⟨h,-⟩
  ·exact I.C.st2 p h h2
  ·rw[h]at h2;simp at h2
 ·rcases hmem p hp with h | ⟨h,-⟩
  ·exact I.C.st p h
  ·rw[h];exact .inr (.inr (.inr rfl))
 ·rcases hmem p hp with h | ⟨-,h⟩
  ·exact I.ids p h
  ·exact I.ids (p.1,(rv,1)) (yK (hs1 p.1 h))
def wZ{now:Int}(hn:now<50):∀{ks:List B0}{G:Ze}{out:List yr},(∀k,∀y∈zu G.lines k,50≤y.2)→(UG now ks G out).1.all=G.all∧(UG now ks G out).2=out∧∀k,zu (UG now ks G out).1.lines k=zu G.lines k
 | [],_,_,_=>⟨rfl,rfl,λ_=>rfl⟩
 | k::ks,G,out,h=>by
  have h1:jc (zu G.lines k) now = []:=by
   unfold jc;rw[List.map_eq_nil_iff,List.filter_eq_nil_iff];intro y hy;have:=h k y hy;simp;omega
  have h2:gx (zu G.lines k) now=zu G.lines k:=by
   unfold gx;rw[List.filter_eq_self];intro y hy;have:=h k y hy;simp;omega
  have hl:∀k',zu (tick1 now k G).lines k'=zu G.lines k':=λk'=>by
   show zu (zX G.lines k (gx (zu G.lines k) now)) k'=_;rw[h2];by_cases e:k'=k
   ·subst e;rw[xM]
   ·rw[cx e]
  have ha:(tick1 now k G).all=G.all:=by
   show gw k (jc (zu G.lines k) now) G.all=_;rw[h1];rfl
  obtain⟨g1,g2,g3⟩:=wZ hn (ks:=ks) (G:=tick1 now k G) (out:=out++vB (jc (zu G.lines k) now)) (λk' y hy=>h k' y (by rw[←hl k'];exact hy));refine⟨g1.trans ha,?_,λk'=>(g3 k').trans (hl k')⟩;show(UG now ks (tick1 now k G) (out++vB (jc (zu G.lines k) now))).2=out;rw[g2,h1];simp[vB]
def iu(I:FoG rv c F G){now:Int}(hn:now<50):FoG rv c F (Qm G now).1∧(Qm G now).2 = []∧(Qm G now).1.all=G.all∧ln (Qm G now).1 rv=ln G rv:=by
 obtain⟨h1,h2,h3⟩:=wZ hn (ks:=yZ (G.lines.map (·.1))) (G:=G) (out:=[]) (λk y hy=>by
  by_cases e:k=rv
  ·subst e;exact I.C.dl y hy
  ·rw[I.oth k e]at hy;cases hy)
 have e1:(Qm G now).1.all=G.all:=h1;have e3:∀k,zu (Qm G now).1.lines k=zu G.lines k:=h3;refine⟨⟨by rw[e1,e3];exact I.C,λk hk=>by rw[e3];exact I.oth k hk,by rw[e3];exact I.sat,by rw[e1];exact I.ids⟩,h2,e1,e3 rv⟩
end Go.Proofs.YtimahgbgejngiaaGreatDoor
namespace Go.Proofs.YtimahgbgejngiaaGreatDoor
open Go.Dm
def okL(s:B0):Prop:=s.data.toList.head? ≠some 114
def uy{wd:B0}(h:∃x t,wd.data.toList=x::t∧x≠114)(l:List B0):okL (Zy wd l):=by
 obtain⟨x,t,h1,h2⟩:=h;unfold okL Zy;rw[Vh,List.map_cons,h1]
 cases l with
 | nil=>simp[Lib.join];exact h2
 | cons y l=>simp[Lib.join,List.intercalate];exact h2
def Wr{wd:B0}(h:∃x t,wd.data.toList=x::t∧x≠114)(l m:List B0):okL (Zy (Zy wd l) m):=by
 refine uy ?_ m;have h1:=uy h l;obtain⟨x,t,h2,h3⟩:=h;have:(Zy wd l).data.toList≠[]:=by
  unfold Zy;rw[Vh,List.map_cons,h2]
  cases l<;>simp[Lib.join,List.intercalate]
 cases he:(Zy wd l).data.toList with
 | nil=>exact absurd he this
 | cons y s=>
  refine⟨y,s,rfl,λe=>h1 ?_⟩;rw[he,e];rfl
def HY:∃x t,Jk.data.toList=x::t∧x≠114:=⟨_,_,rfl,by decide⟩
def z0r:∃x t,lJ.data.toList=x::t∧x≠114:=⟨_,_,rfl,by decide⟩
def z0s:∃x t,lK.data.toList=x::t∧x≠114:=⟨_,_,rfl,by decide⟩
def HZ:∃x t,mY.data.toList=x::t∧x≠114:=⟨_,_,rfl,by decide⟩
def z22:∃x t,lI.data.toList=x::t∧x≠114:=⟨_,_,rfl,by decide⟩
def SJ:∃x t,Fs.data.toList=x::t∧x≠114:=⟨_,_,rfl,by decide⟩
def z0q:∃x t,By.data.toList=x::t∧x≠114:=⟨_,_,rfl,by decide⟩
def z0t:∃x t,Bz.data.toList=x::t∧x≠114:=⟨_,_,rfl,by decide⟩
def z0p:∃x t,TY.data.toList=x::t∧x≠114:=⟨_,_,rfl,by decide⟩
def Ro{f:yr}(h:f.2.1=1∨f.2.1=3):okL (XL f):=by
 unfold XL;rcases h with h | h
 ·rw[if_pos h];exact uy z0q _
 ·rw[if_neg (by rw[h];decide),if_neg (by rw[h];decide),if_pos h];exact uy z0t _
abbrev cc(c:Cfg):Int:=@id Int c.2.2.1
structure FI(c:Cfg)(m:Nat)(a:zK):Prop where
 g:FoG wv (cc c) a.fl a.gt
 bk:a.bk.all = [(wv,rK wv 1 c)]
 by':∃xs want left,a.by' = [(wv,⟨xs,want,left⟩)]
 ro:a.ro=ftR
 sh:a.sh.n=2
 pat:a.gt.pat=50
 len:a.gt.all.length≤m
 rm:1≤a.fl.room∧a.fl.room≤10
 fl:(a.fl.l.length:Int)≤a.fl.room
 c0:1≤cc c
 ma:1≤@id Int c.2.2.2.2.1
def BZ{c:Cfg}{m:Nat}{a:zK}(I:FI c m a):(qo a.bk wv).2.2=c:=by
 unfold qo;rw[I.bk];unfold zr;rw[if_pos rfl];rfl
def Ld{c:Cfg}{m:Nat}{a:zK}(I:FI c m a):jL a.bk wv=true:=by
 unfold jL;rw[I.bk];unfold zr;rw[if_pos rfl];rfl
def nP{c:Cfg}{m:Nat}{a:zK}(I:FI c m a):XB a.bk = [wv]:=by unfold XB;rw[I.bk];exact sR _
def iU:ZH (xP 12 wv)=0:=by decide +kernel
def AQ:ZH (xP 13 wv)=0:=by decide +kernel
def bi{c:Cfg}{m k:Nat}{a:zK}(I:FI c m a)(inv:yI k a):FI c m (zE a (xP 12 wv)).1∧(zE a (xP 12 wv)).1.fl=a.fl∧(zE a (xP 12 wv)).1.gt=a.gt∧(zE a (xP 12 wv)).1.now=a.now∧
  (∀s∈(zE a (xP 12 wv)).2,okL s)∧(zE a (xP 12 wv)).2.length=1∧(0<Uu a.gt wv→1≤Dz (zE a (xP 12 wv)).1.by' wv):=by
 obtain⟨xs,want,left,hb⟩:=I.by';have e1:zr a.by' wv=some ⟨xs,want,left⟩:=by rw[hb];unfold zr;rw[if_pos rfl]
 have hw:=inv.by'.want (wv,⟨xs,want,left⟩) (by rw[hb];simp);have hr:=inv.by'.rng (wv,⟨xs,want,left⟩) (by rw[hb];simp);have hsc:(KL a ⟨xs,want,left⟩ wv).1=0→Uu a.gt wv≤0:=λh=>by
  unfold KL at h;rw[BZ I]at h;refine z05 I.ma hw.1.1 ?_ h;rw[BT];exact(AF (B:=100000000) (by decide) λx hx=>hr x (List.mem_of_mem_drop hx)).1
 have h0:=(DP inv (Ld I) (x:=⟨xs,want,left⟩) hw.2).1.1;have e2:uw a (xP 12 wv)=({ a with by':=zX a.by' wv ⟨xs,(KL a ⟨xs,want,left⟩ wv).1,(KL a ⟨xs,want,left⟩ wv).2⟩ },[Zy (Zy Jk [wv]) [ju (KL a ⟨xs,want,left⟩ wv).1.toNat]]):=by
  unfold uw;dsimp only;rw[Ld I,e1];rw[if_neg (by decide)]
 rw[Fq iU rfl,e2];have e3:zX a.by' wv (⟨xs,(KL a ⟨xs,want,left⟩ wv).1,(KL a ⟨xs,want,left⟩ wv).2⟩:OZ) = [(wv,⟨xs,(KL a ⟨xs,want,left⟩ wv).1,(KL a ⟨xs,want,left⟩ wv).2⟩)]:=by rw[hb];unfold zX;rw[if_pos rfl]
 refine⟨⟨I.g,I.bk,⟨_,_,_,e3⟩,I.ro,I.sh,I.pat,I.len,I.rm,I.fl,I.c0,I.ma⟩,rfl,rfl,rfl,λs hs=>?_,rfl,λhp=>?_⟩
 ·rw[List.mem_singleton]at hs;subst hs;exact Wr HY _ _
 ·dsimp only;rw[e3];unfold Dz zr;rw[if_pos rfl];show 1≤(KL a ⟨xs,want,left⟩ wv).1;rcases Int.lt_or_le 0 (KL a ⟨xs,want,left⟩ wv).1 with h | h
  ·omega
  ·have:=hsc (by omega);omega
def CD:∀{n:Nat}{F:ze}{rv:B0},(shrink rv n F).1.l.length≤F.l.length∧(shrink rv n F).1.room=F.room
 | 0,F,_=>⟨Nat.le_refl _,rfl⟩
 | n+1,F,rv=>by
  obtain⟨h1,h2⟩:=CD (n:=n) (F:=qD rv F) (rv:=rv);exact⟨Nat.le_trans h1 (show(YJ F.l (Vf F.l rv) λp=>(yy p).1).length≤F.l.length from FL _ _ _),h2⟩
def tc:∀{n:Nat}{F:ze}{rv:B0},(shrink rv n F).2.length=n
 | 0,_,_=>rfl
 | n+1,F,rv=>by
  show(Vf F.l rv::(shrink rv n (qD rv F)).2).length=_;rw[List.length_cons,tc]
def eE(l:List Zg)(rv:B0):ZA l rv≤l.length:=by
 unfold ZA revs;exact Nat.le_trans (List.length_filter_le ..) (List.length_filter_le ..)
def Bv{F:ze}{rv:B0}{c want:Int}(h:(F.l.length:Int)≤F.room):((Ys F rv c want).1.l.length:Int)≤F.room∧(Ys F rv c want).1.room=F.room:=by
 obtain⟨h1,h2⟩:=CD (n:=xo (yT F rv c want) rv want) (F:=yT F rv c want) (rv:=rv);have h3:(yT F rv c want).l.length=F.l.length+qM F rv want:=VM _;have h4:(yT F rv c want).room=F.room:=gy _;have h5:=FK F rv want;have e:(Ys F rv c want).1=(shrink rv (xo (yT F rv c want) rv want) (yT F rv c want)).1:=rfl;rw[e];exact⟨by omega,h2.trans h4⟩
def AM{c:Cfg}{m:Nat}{a:zK}(I:FI c m a)(hla:a.fl.last≤1000000):FI c m (zE a (xP 13 wv)).1∧(zE a (xP 13 wv)).1.gt=a.gt∧(zE a (xP 13 wv)).1.now=a.now∧(∀s∈(zE a (xP 13 wv)).2,okL s)∧
  (1≤Dz a.by' wv→(1≤ZA a.fl.l wv∨(a.fl.l.length:Int)<a.fl.room)→1≤ZA (zE a (xP 13 wv)).1.fl.l wv)∧(zE a (xP 13 wv)).2.length≤100:=by
 have hrm:=I.rm;have hfl:=I.fl;have ec:XN a wv=cc c:=by unfold XN;rw[BZ I]
 have e2:qJ a (xP 13 wv)=({ a with fl:=(Ys a.fl wv (XN a wv) (yl a wv)).1 },dw lJ (ob a.fl wv (yl a wv))++dw lK (Ys a.fl wv (XN a wv) (yl a wv)).2++[Zy (Zy mY [wv]) [ju (cnt (λs=>s != 3) (jW (Ys a.fl wv (XN a wv) (yl a wv)).1.l wv)).toNat]]):=by
  unfold qJ;rw[if_neg (by rw[Ld I];decide)]
 obtain⟨C1,h2,h3⟩:=SU (want:=yl a wv) I.g.C (by have:=I.c0;omega) (by omega) (by omega) hla;obtain⟨h4,h5⟩:=Bv (rv:=wv) (c:=cc c) (want:=yl a wv) I.fl;rw[gf AQ rfl,e2,ec];have hg:=FK a.fl wv (yl a wv);have hsl:=DM (rv:=wv) (yT a.fl wv (cc c) (yl a wv)) (yl a wv);have hcl:=eE (yT a.fl wv (cc c) (yl a wv)).l wv;have hgl:(yT a.fl wv (cc c) (yl a wv)).l.length=a.fl.l.length+qM a.fl wv (yl a wv):=VM _;refine⟨⟨⟨C1,I.g.oth,h2 I.g.sat,I.g.ids⟩,I.bk,I.by',I.ro,I.sh,I.pat,I.len,by dsimp only;rw[h5];exact hrm,by dsimp only;rw[h5];exact h4,I.c0,I.ma⟩,rfl,rfl,λs hs=>?_,h3,?_⟩
 ·dsimp only at hs;rcases List.mem_append.1 hs with hs | hs
  ·rcases List.mem_append.1 hs with hs | hs
   ·obtain⟨x,_,rfl⟩:=List.mem_map.1 hs;exact uy z0r _
   ·obtain⟨x,_,rfl⟩:=List.mem_map.1 hs;exact uy z0s _
  ·rw[List.mem_singleton]at hs;subst hs;exact Wr HZ _ _
 ·dsimp only;have e6:(Ys a.fl wv (cc c) (yl a wv)).2.length=xo (yT a.fl wv (cc c) (yl a wv)) wv (yl a wv):=tc;have e7:(ob a.fl wv (yl a wv)).length=qM a.fl wv (yl a wv):=by unfold ob;rw[List.length_map,List.length_range]
  rw[List.length_append,List.length_append,List.length_map,List.length_map,e6,e7,List.length_singleton];omega
def z2a{c:Cfg}{m:Nat}{a:zK}(I:FI c m a){x:Zg}(hx:x∈a.fl.l)(h1:x.pod.st=1)(hid:1≤x.id∧x.id≤2147483647):FI c m (zE a (evN 6 x.id)).1∧(zE a (evN 6 x.id)).1.now=a.now∧(∀s∈(zE a (evN 6 x.id)).2,okL s)∧
  (ln (zE a (evN 6 x.id)).1.gt wv).length≤(ln a.gt wv).length∧Tk (jJ a.fl x.id).1 (zE a (evN 6 x.id)).1.fl∧(zE a (evN 6 x.id)).2.length≤2+(ln a.gt wv).length∧gK (zE a (evN 6 x.id)).1=gK a:=by
 obtain⟨C1,e1,e2,e3,e4,e5⟩:=iw I.g.C hx h1;obtain⟨g1,g2,g3,g4⟩:=RW (G:=a.gt) C1 I.g.oth I.g.ids;have hof:fOf (jJ a.fl x.id).1.l x.id=wv:=by
  have hin:({ x with pod:=(Yl x.pod).1 }:Zg)∈(jJ a.fl x.id).1.l:=by
   rw[e2];exact(Ka (g:=λp=>(Yl p).1) hx).2 rfl (by rw[e3];exact(show ¬(2:Int)=4 by decide))
  have:=XA C1.ok.pw hin;unfold fOf;have h2:Xd (jJ a.fl x.id).1.l x.id=some { x with pod:=(Yl x.pod).1 }:=this;rw[h2];exact(I.g.C.pod x hx).1
 have hch:ZH (evN 6 x.id)=0:=tY (.inr (.inl rfl)) hid;have e6:gb a (evN 6 x.id)=({ a with fl:=(yX (jJ a.fl x.id).1 a.gt wv).1,gt:=(yX (jJ a.fl x.id).1 a.gt wv).2.1,bk:=Bf a (evN 6 x.id) },mQ a (evN 6 x.id)++(yX (jJ a.fl x.id).1 a.gt wv).2.2.map XL):=by
  unfold gb;dsimp only;rw[e1,if_neg (by decide)];have hu:kc a (evN 6 x.id)=yX (jJ a.fl x.id).1 a.gt wv:=by
   unfold kc;dsimp only;rw[hof]
  rw[hu]
 have hbk:(Bf a (evN 6 x.id)).all=a.bk.all:=by
  unfold Bf Ko
  repeat' split
  all_goals rfl
 have hul:=FL a.fl.l x.id (λp=>(Yl p).1);have hkeys:(yX (jJ a.fl x.id).1 a.gt wv).2.1.all.map (·.1)=a.gt.all.map (·.1):=Pb λy hy=>by
  rw[(I.g.C.line y.1).1 (List.mem_map.2 ⟨y,hy,rfl⟩)];rfl
 have hfl:=Ut (rev:=wv) (l:=zu a.gt.lines wv) (F:=(jJ a.fl x.id).1) (all:=a.gt.all) (out:=[]);rw[Gq hch rfl,e6];refine⟨⟨g1,by dsimp only;rw[hbk];exact I.bk,I.by',I.ro,I.sh,I.pat,?_,by dsimp only;rw[g4.rm,e4];exact I.rm,?_,I.c0,I.ma⟩,rfl,λs hs=>?_,g3,g4,?_,hkeys⟩
 ·have:=congrArg List.length hkeys;rw[List.length_map,List.length_map]at this;have h:=I.len;dsimp only;omega
 ·dsimp only;rw[g4.rm,g4.ln,e2,e4];have:=I.fl;omega
 ·dsimp only at hs;rcases List.mem_append.1 hs with hs | hs
  ·unfold mQ at hs;split at hs
   ·rw[List.mem_singleton]at hs;subst hs;exact uy z22 _
   ·rcases List.mem_cons.1 hs with rfl | hs
    ·exact uy z22 _
    ·rw[List.mem_singleton]at hs;subst hs;exact uy SJ _
  ·obtain⟨f,hf,rfl⟩:=List.mem_map.1 hs;exact Ro (.inl (g2 f hf))
 ·dsimp only;rw[List.length_append,List.length_map];have h3:(yX (jJ a.fl x.id).1 a.gt wv).2.2.length≤(zu a.gt.lines wv).length:=by
   have h:=hfl.2.2;rw[List.length_nil,Nat.zero_add]at h;exact h
  have h5:(ln a.gt wv).length=(zu a.gt.lines wv).length:=rfl;have h4:(mQ a (evN 6 x.id)).length≤2:=by unfold mQ;split<;>simp
  omega
def z0C{c:Cfg}{m:Nat}{a:zK}(I:FI c m a){q:Int}(hq:zr a.gt.all q=some (wv,1)):FI c m (zE a (evN 5 q)).1∧(zE a (evN 5 q)).1.now=a.now∧(∀s∈(zE a (evN 5 q)).2,okL s)∧
  (zE a (evN 5 q)).1.fl=(Yu a.fl a.gt q).1∧(zE a (evN 5 q)).1.gt=(Yu a.fl a.gt q).2.1∧(zE a (evN 5 q)).2.length≤1+(ln a.gt wv).length∧gK (zE a (evN 5 q)).1=gK a:=by
 obtain⟨g1,g2,g3,g4,g5⟩:=RX I.g hq;have hid:=I.g.ids _ (yK hq);dsimp only at hid;have hch:ZH (evN 5 q)=0:=tY (.inl rfl) ⟨hid.1,by omega⟩;obtain⟨r1,r2⟩:=z0J I.g hq;have hkeys:(Yu a.fl a.gt q).2.1.all.map (·.1)=a.gt.all.map (·.1):=by
  rw[oa I.g hq];refine(Pb λy hy=>?_).trans (QR hq);have h1:=(I.g.C.line y.1).1 (List.mem_map.2 ⟨y,hy,rfl⟩);exact qw _ _ _ _ (by rw[h1];rfl)
 have hfl:(Yu a.fl a.gt q).2.2.1.length≤1+(ln a.gt wv).length:=by
  rw[oa I.g hq,List.length_cons];have h3:(yX (ZU a.fl q).1 { a.gt with all:=zX a.gt.all q (wv,3) } wv).2.2.length≤(zu a.gt.lines wv).length:=by
   have h:=(Ut (rev:=wv) (l:=zu a.gt.lines wv) (F:=(ZU a.fl q).1) (all:=zX a.gt.all q (wv,3)) (out:=[])).2.2;rw[List.length_nil,Nat.zero_add]at h;exact h
  rw[Nat.add_comm 1];exact Nat.succ_le_succ h3
 rw[PX hch rfl];unfold Vs;dsimp only;rw[g2];rw[if_neg (by decide)];have hpat:(Yu a.fl a.gt q).2.1.pat=a.gt.pat:=by rw[oa I.g hq];rfl
 refine⟨⟨g1,I.bk,I.by',I.ro,I.sh,by dsimp only;rw[hpat];exact I.pat,?_,by dsimp only;rw[r1];exact I.rm,by dsimp only;rw[r1];have:=I.fl;omega,I.c0,I.ma⟩,rfl,λs hs=>?_,rfl,rfl,by rw[List.length_map];exact hfl,hkeys⟩
 ·have:=congrArg List.length hkeys;rw[List.length_map,List.length_map]at this;have h:=I.len;dsimp only;omega
 ·obtain⟨f,hf,rfl⟩:=List.mem_map.1 hs;exact Ro (g3 f hf)
def Wa{now:Int}:∀{ks:List B0}{G:Ze}{out:List yr},(UG now ks G out).1.pat=G.pat
 | [],_,_=>rfl
 | k::ks,G,out=>(Wa (ks:=ks) (G:=tick1 now k G)).trans rfl
def EH{G:Ze}(now:Int):(Qm G now).1.pat=G.pat:=Wa
def z0A{c:Cfg}{m:Nat}{a:zK}(I:FI c m a)(hn:a.now+1<50):FI c m (zE a (xx 9)).1∧(zE a (xx 9)).1.now=a.now+1∧(zE a (xx 9)).1.fl=a.fl∧(zE a (xx 9)).1.gt.all=a.gt.all∧ln (zE a (xx 9)).1.gt wv=ln a.gt wv∧
  (∀s∈(zE a (xx 9)).2,okL s)∧(zE a (xx 9)).2.length=1:=by
 obtain⟨h1,h2,h3,h4⟩:=iu I.g hn;obtain⟨xs,want,left,hb⟩:=I.by';have e:UI a=({ a with gt:=(tkG a).1,now:=a.now+1,by':=(XB a.bk).foldl (Gn (tkG a).1) a.by' },Zy TY [ju (a.now+1).toNat]::(tkG a).2.map XL):=by
  unfold UI;rw[if_neg (by omega)]
 have hpat:(Qm a.gt (a.now+1)).1.pat=a.gt.pat:=EH _;rw[PW iT rfl,e];refine⟨⟨h1,I.bk,?_,I.ro,I.sh,by dsimp only;rw[hpat];exact I.pat,by dsimp only;rw[h3];exact I.len,I.rm,I.fl,I.c0,I.ma⟩,rfl,rfl,h3,h4,λs hs=>?_,?_⟩
 ·dsimp only;rw[nP I,List.foldl_cons,List.foldl_nil,hb];unfold Gn;have e1:zr [(wv,(⟨xs,want,left⟩:OZ))] wv=some ⟨xs,want,left⟩:=by unfold zr;rw[if_pos rfl]
  rw[e1];dsimp only;unfold zX;rw[if_pos rfl];exact⟨_,_,_,rfl⟩
 ·dsimp only at hs;have h2:(tkG a).2 = []:=h2;rw[h2]at hs;have hs:s=Zy TY [ju (a.now+1).toNat]:=by simpa using hs
  subst hs;exact uy z0p _
 ·dsimp only;have h2:(tkG a).2 = []:=h2;rw[h2];rfl
end Go.Proofs.YtimahgbgejngiaaGreatDoor
namespace Go.Dm
end Go.Dm
namespace Go.Proofs.YtimahgbgejngiaaGreatDoor
open Go.Dm
attribute [local irreducible] L.load L.store L.chk L.new L.nonnil L.guard L.ite L.draw L.idx L.sem L.semR L.semU L.chkSem L.next L.call L.callV L.join L.alts L.loop L.begin L.endRound L.range
variable {w0 w:World}{E:List Seg}
abbrev fnB(c2 c1:Nat):Seg:=[Cl c2 QZ [.func (.func xE) #[] #[],.func (.func xD) #[] #[],.func (.func xC) #[] #[.pointer (some ⟨c1,0,none⟩)],.func (.func xB) #[] #[.pointer (some ⟨c1,0,none⟩)]]]
def rnP(a b:Int):Int:=Wi ((Wi (Int.tdiv (Wi ((Wi ((if 0>b then 0 else b)+a))-1)) a))+2)
def Eb{a b:Int}(ha:0<a){k:Int→PT}(hk:k (rnP a b) w):L.call Pr OP [I a,I b] (.one (.one (.int .i64))) k w:=by
 refine za (wD a b) ?_;unfold px;refine itF (by simp;omega) ?_;refine gd (by omega) ?_;exact⟨_,rfl,hk⟩
def z5k:El Pr xZ zq 15 176 (.agg #[I 0,.string s_,.string s_,I 0,I 0,.string s_,I 0,I 0,I 0,I 0,I 0,.string s_,.string s_,.slice none 0 0,I 0]):=gB (by kernel_rfl) (by kernel_rfl) rfl (by decide)
def aF(h:St w0 E w)(i:Nat){b:Nat}{a:zK}{s:Seg}(hi:nth E i=some s)(hs:yV b a s){rev:B0}{k:Sl→PT}(hk:∀v sv w',Rw eK JH 3 v (jW a.fl.l rev) sv→St w0 (sv::E) w'→k v w'):L.call Pr xI [pO b,.string rev] (.one (.one .slice)) k w:=by
 obtain⟨p,sg,sf,ss,sk,sr,sm,Q,R,rfl⟩:=hs;refine za (kb _ _) ?_;unfold Qu;have h:=(h.front i hi).split8
 (refine nn ?_;refine ldC h ?_)
 refine sC h 2 rfl R.fl λv s w hr h=>⟨v,rfl,hk v s w hr ?_⟩;have h:=Jo (Jo (Jo (Jo (Jo (Jo (Jo (Jo h)))))));have h:=h.glue8;exact St.again (i+1) (E:=s::E) hi h
def kA(l:List (Int×Int×Int)):List AEv:=(l.filter λx=>x.2.1 == 1).map λx=>evN 6 x.1
def Ye(l:List Int):List AEv:=l.map λq=>evN 5 q
def SX{α:Type}{p:α→Bool}{l:List α}{j:Nat}{x:α}(h:l[j]? = some x):(l.take (j+1)).filter p=(l.take j).filter p++(if p x=true then [x]else []):=by
 rw[List.take_add_one,h,List.filter_append]
 congr 1
 by_cases hp:p x=true<;>simp[hp]
def z5w(h:St w0 E w)(i:Nat){b:Nat}{a:zK}{s:Seg}(hi:nth E i=some s)(hs:yV b a s){rev:B0}(hn:(jW a.fl.l rev).length<1000000){k:Sl→PT}(hk:∀v sv w',Rw eEv zq 15 v (kA (jW a.fl.l rev)) sv→St w0 (sv::E) w'→k v w') :
  L.call Pr pR [pO b,.string rev] (.one (.one .slice)) k w:=by
 refine za (Ac _ _) ?_;unfold Nt;refine aF h i hi hs λv sv w r h=>?_;generalize jW a.fl.l rev=l at *
 have hlen:=Rw.len NY r;refine zT (λq y w=>∃(j:Nat)(vv:Sl)(s2:Seg),y=(vv,(j:Int),())∧q+j=l.length∧Rw eEv zq 15 vv (kA (l.take j)) s2∧St w0 (s2::sv::E) w) l.length ⟨0,⟨none,0,0⟩,[],rfl,rfl,Rw.nil,h.eq (by simp)⟩ ?_;clear h;rintro q y w ⟨j,vv,s2,rfl,hq,r2,h⟩ again hag
 (try dsimp only)
 refine it (λhc=>?_) (λhc=>?_)<;>(try simp only[zB]at hc)
 ·have hj:j<l.length:=by omega
  have hx:l[j]? = some l[j]:=List.getElem?_eq_getElem hj;have hf:=SX (p:=λx:Int×Int×Int=>x.2.1 == 1) hx;generalize l[j]=x at hx hf;refine Zz (λz w=>∃(vv:Sl)(s2:Seg),z=(vv,())∧Rw eEv zq 15 vv (kA (l.take (j+1))) s2∧St w0 (s2::sv::E) w) (λk4 hk4=>?_) ?_
  ·refine Rw.ix NY r (by omega) (by simpa using hj) λa6 ha=>?_;simp only[Int.toNat_natCast]at ha;refine Rw.lda NY h 1 rfl r ha hx (y:=(x.1,x.2.1,x.2.2,())) rfl ?_;refine nw h ?_;clear h;intro b8 w h
   (refine stC h ?_;clear h;intro w h;dsimp only[zJ,zd]at h;refine ldC h ?_)
   refine it (λhd=>?_) (λhd=>?_)<;>(try simp only[zB]at hd)
   ·(refine ldC h ?_)
    refine nw h ?_;clear h;intro b11 w h;have ll:(kA (l.take j)).length≤1000000:=by
     unfold kA;rw[List.length_map];have:=List.length_filter_le (λx:Int×Int×Int=>x.2.1 == 1) (l.take j);rw[List.length_take]at this;omega
    refine Rw.app (l:=kA (l.take j)) MW z5k h 1 rfl r2 (evN 6 x.1) rfl (by omega) (by omega) λv' s' w r3 h=>?_;dsimp only[zd]at h;refine hk4 _ w ⟨v',s',rfl,?_,zm h⟩;have e:kA (l.take (j+1))=kA (l.take j)++[evN 6 x.1]:=by
     unfold kA;rw[hf,if_pos (by simpa using hd)];simp
    rw[e];exact r3
   ·refine hk4 _ w ⟨vv,s2,rfl,?_,zm h⟩;have e:kA (l.take (j+1))=kA (l.take j):=by
     unfold kA;rw[hf,if_neg (by simpa using hd),List.append_nil]
    rw[e];exact r2
  ·clear h r2;rintro z w ⟨vv,s2,rfl,r2,h⟩
   (try dsimp only)
   refine hag (q-1) _ w (by omega) ⟨j+1,vv,s2,?_,by omega,r2,h⟩;rw[wr (by omega) (by omega)];congr 1
 ·have e:l.take j=l:=List.take_of_length_le (by omega);rw[e]at r2;exact⟨vv,rfl,hk vv s2 w r2 (Yf h)⟩
def z1H(h:St w0 E w)(i:Nat){b:Nat}{a:zK}{s:Seg}(hi:nth E i=some s)(hs:yV b a s){rev:B0}(hn:(jI a.gt.all rev).length<100000000){k:Sl→PT}(hk:∀v sv s' w',Rw eEv zq 15 v (Ye (jI a.gt.all rev)) sv→yV b a s'→St w0 (sv::zd E i s') w'→k v w') :
  L.call Pr GC [pO b,.string rev] (.one (.one .slice)) k w:=by
 refine za (LS _ _) ?_;unfold Tv;refine db h i hi hs λv1 v2 s1 s2 s' w r1 r hs h=>?_;generalize jI a.gt.all rev=l at *
 have h:=zm h;have hlen:=Rw.len Yy r;refine zT (λq y w=>∃(j:Nat)(vv:Sl)(s3:Seg),y=(vv,(j:Int),())∧q+j=l.length∧Rw eEv zq 15 vv (Ye (l.take j)) s3∧St w0 (s3::s2::zd E i s') w) l.length ⟨0,⟨none,0,0⟩,[],rfl,rfl,Rw.nil,h.eq (by simp)⟩ ?_;clear h;rintro q y w ⟨j,vv,s3,rfl,hq,r2,h⟩ again hag
 (try dsimp only)
 refine it (λhc=>?_) (λhc=>?_)<;>(try simp only[zB]at hc)
 ·have hj:j<l.length:=by omega
  have hx:l[j]? = some l[j]:=List.getElem?_eq_getElem hj;have ht:l.take (j+1)=l.take j++[l[j]]:=by rw[List.take_add_one,hx];rfl
  generalize l[j]=x at hx ht;refine Rw.ix Yy r (by omega) (by simpa using hj) λa4 ha=>?_;simp only[Int.toNat_natCast]at ha;refine Rw.ld0 Yy h 1 rfl r ha (x:=x) hx rfl rfl ?_;refine nw h ?_;clear h;intro b6 w h;refine Rw.app (l:=Ye (l.take j)) MW z5k h 0 rfl r2 (evN 5 x) rfl (by unfold Ye;rw[List.length_map,List.length_take];omega) (by unfold Ye;rw[List.length_map,List.length_take];omega) λv' s' w r3 h=>?_;dsimp only[zd]at h;refine hag (q-1) _ w (by omega) ⟨j+1,v',s',?_,by omega,?_,h⟩
  ·rw[wr (by omega) (by omega)];congr 1
  ·have e:Ye (l.take (j+1))=Ye (l.take j)++[evN 5 x]:=by unfold Ye;rw[ht];simp
   rw[e];exact r3
 ·have e:l.take j=l:=List.take_of_length_le (by omega);rw[e]at r2;exact⟨vv,rfl,hk vv s3 s' w r2 hs (Yf h)⟩
def yx(k:Nat)(a:zK)(rev:B0):List AEv:=
 if k=0 then [xP 12 rev]else if k=1 then [xP 13 rev]else if k=2 then kA (jW a.fl.l rev)else Ye (jI a.gt.all rev)
def ue(k:Nat):zK→List B0→List AEv
 | _,[]=>[]
 | a,r::rs=>yx k a r++ue k (zF a (yx k a r)) rs
def uJ:List Nat→zK→List AEv
 | [],_=>[]
 | k::ks,a=>ue k a (XB a.bk)++uJ ks (zF a (ue k a (XB a.bk)))
def yC(a:zK):List AEv:=uJ [0,1,2,3] a++[xx 9]
def uP(a:zK)(l m:List AEv):zF a (l++m)=zF (zF a l) m:=by unfold zF;rw[List.foldl_append]
structure bP(a:zK):Prop where
 bk:(XB a.bk).length<1000000
 ins:∀rev,(jW a.fl.l rev).length<1000000∧(jI a.gt.all rev).length<100000000
def bP.rev{a:zK}(h:bP a)(k:Nat)(rev:B0):(yx k a rev).length<1000000000:=by
 obtain⟨h1,h2⟩:=h.ins rev;unfold yx;split
 ·simp
 split
 ·simp
 split
 ·unfold kA;rw[List.length_map];have:=List.length_filter_le (λx:Int×Int×Int=>x.2.1 == 1) (jW a.fl.l rev);omega
 ·unfold Ye;rw[List.length_map];omega
def bP.of_inv{k:Nat}{a:zK}(inv:yI k a)(hk:k≤9000):bP a:=by
 refine⟨?_,λrev=>⟨?_,?_⟩⟩
 ·unfold XB;rw[jp,List.length_map];have:=inv.bk.len;omega
 ·unfold jW revs;rw[List.length_map];have:=List.length_filter_le (λx:Zg=>decide (x.rev=rev)) a.fl.l;have h2:=inv.fl.few.l20;exact Nat.lt_of_le_of_lt (Nat.le_trans (List.length_filter_le ..) h2) (by decide)
 ·unfold jI;rw[KF,List.length_map];have h2:=inv.gt.all;exact Nat.lt_of_le_of_lt (List.length_filter_le ..) (by omega)
def z5t(w0:World)(b:Nat)(am:Nat→zK)(A:List Seg)(fv:Value)(n:Nat)(arg:Nat→List Value):Prop:=
 ∀(yv:FV)(R:Value→PT)(J:Nat→List Seg→Prop)(Jd:World→Prop)(F:List Seg)(w:World),(∀m F,J m F→bP (am m)∧∃i s,nth F i=some s∧yV b (am m) s∧∀s',yV b (am m) s'→J m (zd F i s'))→St w0 (A++F) w→J 0 F→
  (∀m F X w,m<n→J m F→St w0 (A++(F++X)) w→Jw Pr yv.val (arg m) w λv w'=>(v = .bool true∧∃F',St w0 (A++(F'++X)) w'∧J (m+1) F')∨(v = .bool false∧Jd w'))→
  (∀F w,J n F→St w0 (A++F) w→R (.tuple #[]) w)→(∀w,Jd w→R (.tuple #[]) w)→oK Pr fv [yv.val] w R
def Si{b:Nat}{am:Nat→zK}{A F:List Seg}{fv:Value}{n:Nat}{es:List E1}{arg:Nat→TT es}(hY:z5t w0 b am A fv n λm=>TV es (arg m))(h:St w0 (A++F) w){body:Nat→TT es→(Value→PT)→PT}{K:List Nat→Option Code→PT}
  (Inv:Nat→List Seg→Prop) (h0:Inv 0 F) (hG:∀m F,Inv m F→bP (am m)∧∃i s,nth F i=some s∧yV b (am m) s∧∀s',yV b (am m) s'→Inv m (zd F i s'))
  (hb:∀m F X w l lp d(R:Value→PT),m<n→Inv m F→St w0 ([Rec l lp .ready none]::[DfM d]::(A++(F++X))) w→
   (∀F' w',Inv (m+1) F'→St w0 ([Rec l lp .busy none]::[DfM d]::(A++(F'++X))) w'→L.endRound Pr l none R w')→body l (arg m) R w)
  (hc:∀d F w,Inv n F→St w0 ([DfM d]::(A++F)) w→K [d] none w):L.range Pr none fv es body K w:=by
 refine rng h λd l lp w h hy=>?_;have h:St w0 (A++([[Rec l lp .ready none],[DfM d]]++F)) w:=St.toFront (G:=A) (A:=[[Rec l lp .ready none],[DfM d]]) h;refine hY ⟨.yield l,#[],#[]⟩ _ (λm G=>∃F,G = [[Rec l lp .ready none],[DfM d]]++F∧Inv m F) (λw=>False) _ w ?_ h ⟨F,rfl,h0⟩ ?_ ?_ (λ_ hh=>hh.elim)
 ·rintro m _ ⟨F,rfl,hi⟩;obtain⟨hw,i,s,h1,h2,h3⟩:=hG m F hi;exact⟨hw,i+2,s,h1,h2,λs' hs'=>⟨zd F i s',rfl,h3 s' hs'⟩⟩
 ·rintro m G X w hm ⟨F,rfl,hi⟩ h;have h:St w0 ([Rec l lp .ready none]::[DfM d]::(A++(F++X))) w:=St.toFront (A:=A) (G:=[[Rec l lp .ready none],[DfM d]]) (F:=F++X) h;have hrec:=(h.at 0 (b:=(Rec l lp .ready none).1) (o:=(Rec l lp .ready none).2) rfl).2;refine hy (arg m) .ready none w _ hrec ?_;refine hb m F X w l lp d _ hm hi h ?_;intro F' w' hi' h';refine SY h' 0 rfl λw h=>.inl ⟨rfl,_,?_,F',rfl,hi'⟩;exact St.toFront (G:=A) (A:=[[Rec l lp .ready none],[DfM d]]) (F:=F'++X) h
 ·rintro G w ⟨F,rfl,hi⟩ h;refine NX h.toFront 0 rfl (by simp) λw h=>hc d F w hi h
def z1f(h:St w0 E w)(i:Nat){b:Nat}{a:zK}{s:Seg}(hi:nth E i=some s)(hs:yV b a s){c1 ic:Nat}(hc:nth E ic=some [Cl c1 zL [.pointer (some ⟨b,0,none⟩)]]){j:Nat}{f:FV}
  (hf:nth [Value.func (.func xE) #[] #[],.func (.func xD) #[] #[],.func (.func xC) #[] #[.pointer (some ⟨c1,0,none⟩)],.func (.func xB) #[] #[.pointer (some ⟨c1,0,none⟩)]] j=some f.val) {rev:B0}
  (hn:(jW a.fl.l rev).length<1000000∧(jI a.gt.all rev).length<100000000) {k:Sl→PT} (hk:∀v sv s' w',Rw eEv zq 15 v (yx j a rev) sv→yV b a s'→St w0 (sv::zd E i s') w'→k v w') :
  L.callV Pr (.func f.fn f.fs f.cs) [.string rev] (.one (.one .slice)) k w:=by
 obtain⟨fn,fs,cs⟩:=f;rcases j with _ | _ | _ | _ | j
 ·cases hf
  refine jK (fs:=#[]) (cs:=#[]) dJ (dV rev) ?_;unfold fK;refine nw h ?_;clear h;intro b1 w h;refine⟨⟨some ⟨b1,0,none⟩,1,1⟩,rfl,hk _ _ s w (Rw.lit b1 [xP 12 rev] MW rfl rfl (by decide)) hs ?_⟩;rw[yM hi];exact h
 ·cases hf
  refine jK (fs:=#[]) (cs:=#[]) dI (dU rev) ?_;unfold fJ;refine nw h ?_;clear h;intro b1 w h;refine⟨⟨some ⟨b1,0,none⟩,1,1⟩,rfl,hk _ _ s w (Rw.lit b1 [xP 13 rev] MW rfl rfl (by decide)) hs ?_⟩;rw[yM hi];exact h
 ·cases hf
  refine jK (fs:=#[]) (cs:=#[.pointer (some ⟨c1,0,none⟩)]) dH (dT rev ⟨c1,0,none⟩) ?_;unfold fI;refine ldx h ic hc (v:=.pointer (some ⟨b,0,none⟩)) rfl rfl ?_;refine z5w h i hi hs hn.1 λv sv w r h=>?_;refine⟨v,rfl,hk v sv s w r hs ?_⟩;rw[yM hi];exact h
 ·cases hf
  refine jK (fs:=#[]) (cs:=#[.pointer (some ⟨c1,0,none⟩)]) dG (dS rev ⟨c1,0,none⟩) ?_;unfold fH;refine ldx h ic hc (v:=.pointer (some ⟨b,0,none⟩)) rfl rfl ?_;refine z1H h i hi hs hn.2 λv sv s' w r hs h=>?_;exact⟨v,rfl,hk v sv s' w r hs h⟩
 ·cases hf
abbrev frA(b c1 c2 c3:Nat):List Seg:=[[Cl c3 Zx [.slice (some ⟨c2,0,none⟩) 4 4]],fnB c2 c1,[Cl c1 zL [.pointer (some ⟨b,0,none⟩)]]]
def z3g{b c1 c2 c3:Nat}{a:zK} :
  z5t w0 b (λm=>zF a ((yC a).take m)) (frA b c1 c2 c3) (.func (.func qk) #[] #[.pointer (some ⟨c3,0,none⟩),.pointer (some ⟨c1,0,none⟩)]) (yC a).length λm=>TV [.agg ae] (((yC a)[m]?.getD (xx 9)).t,()):=by
 intro yv R J Jd F w hG h hJ step fin fin2;have amE:∀pre more,yC a=pre++more→(yC a).take pre.length=pre:=λpre more e=>by rw[e,List.take_left]
 have hG:∀pre more F,yC a=pre++more→J pre.length F→bP (zF a pre)∧∃i s,nth F i=some s∧yV b (zF a pre) s∧∀s',yV b (zF a pre) s'→J pre.length (zd F i s'):=λpre more F e hJ=>by
  have:=hG _ _ hJ;dsimp only at this
  rwa [amE pre more e]at this
 have step:∀pre e more F X w,yC a=pre++e::more→J pre.length F→St w0 (frA b c1 c2 c3++(F++X)) w→Jw Pr yv.val [evV e] w λv w'=>(v = .bool true∧∃F',St w0 (frA b c1 c2 c3++(F'++X)) w'∧J (pre++[e]).length F')∨(v = .bool false∧Jd w'):=λpre e more F X w he hJ h=>by
  have:=step pre.length F X w (by rw[he];simp) hJ h;have e1:(yC a)[pre.length]? = some e:=by rw[he];simp
  dsimp only at this;rw[e1]at this;rw[List.length_append];exact this
 refine⟨dF,dR yv ⟨c3,0,none⟩ ⟨c1,0,none⟩ ?_⟩;unfold fG;have h:St w0 ([Cl c3 Zx [.slice (some ⟨c2,0,none⟩) 4 4]]::fnB c2 c1::[Cl c1 zL [.pointer (some ⟨b,0,none⟩)]]::F) w:=h
 (refine ldC h ?_)
 refine zT (λq y w=>∃(j:Nat)(pre:List AEv)(F:List Seg),@Eq Int y.1 j∧q+j=4∧yC a=pre++(uJ ([0,1,2,3].drop j) (zF a pre)++[xx 9])∧J pre.length F∧St w0 ([Cl c3 Zx [.slice (some ⟨c2,0,none⟩) 4 4]]::fnB c2 c1::[Cl c1 zL [.pointer (some ⟨b,0,none⟩)]]::F) w) 4 ⟨0,[],F,rfl,rfl,rfl,hJ,h⟩ ?_;clear hJ;clear h;rintro q ⟨y,⟨⟩⟩ w ⟨j,pre,F,hy,hq,hT,hJ,h⟩ again hag
 (try dsimp only)
 simp only at hy;subst hy;refine it (λhb=>?_) (λhb=>?_)<;>(try simp only[zB]at hb)
 ·have hj:j<4:=by omega
  obtain⟨f,hf⟩:∃f:FV,nth [Value.func (.func xE) #[] #[],.func (.func xD) #[] #[],.func (.func xC) #[] #[.pointer (some ⟨c1,0,none⟩)],.func (.func xB) #[] #[.pointer (some ⟨c1,0,none⟩)]] j=some f.val:=by
   rcases j with _ | _ | _ | _ | j
   ·exact⟨⟨_,_,_⟩,rfl⟩
   ·exact⟨⟨_,_,_⟩,rfl⟩
   ·exact⟨⟨_,_,_⟩,rfl⟩
   ·exact⟨⟨_,_,_⟩,rfl⟩
   ·omega
  have hd:[0,1,2,3].drop j=j::[0,1,2,3].drop (j+1):=by
   rcases j with _ | _ | _ | _ | j
   ·rfl
   ·rfl
   ·rfl
   ·rfl
   ·omega
  refine ix (by omega) (by omega) ?_;have e:(⟨c2,0,none⟩:Addr).add ((j:Int).toNat*1)=⟨c2,j,none⟩:=by
   unfold Addr.add;by_cases h0:j=0
   ·subst h0;rfl
   ·simp[h0]
  rw[e];refine ld h (l:=.func) 1 rfl (x:=f) hf ?_
  (refine ldC h ?_)
  obtain⟨hfw,i,s,hi,hs,-⟩:=hG pre _ F hT hJ;refine Na h (i+3) hi hs λv sv w r h=>?_;clear hs hi;have hbl:=hfw.bk;rw[hd]at hT;have hT:yC a=pre++(ue j (zF a pre) (XB (zF a pre).bk)++(uJ ([0,1,2,3].drop (j+1)) (zF (zF a pre) (ue j (zF a pre) (XB (zF a pre).bk)))++[xx 9])):=by
   rw[hT];simp[uJ]
  generalize XB (zF a pre).bk=revs at *
  obtain⟨SS,hSS⟩:∃SS,SS=zF (zF a pre) (ue j (zF a pre) revs):=⟨_,rfl⟩;rw[←hSS]at hT;obtain⟨rest2,hrest⟩:∃rest2,rest2=uJ ([0,1,2,3].drop (j+1)) SS++[xx 9]:=⟨_,rfl⟩;rw[←hrest]at hT;have hlen:=Rw.len yh r
  refine zT (λq y w=>∃(n:Nat)(pre:List AEv)(F:List Seg),@Eq Int y.1 n∧q+n=revs.length∧yC a=pre++(ue j (zF a pre) (revs.drop n)++rest2)∧SS=zF (zF a pre) (ue j (zF a pre) (revs.drop n))∧J pre.length F∧
   St w0 (sv::[Cl c3 Zx [.slice (some ⟨c2,0,none⟩) 4 4]]::fnB c2 c1::[Cl c1 zL [.pointer (some ⟨b,0,none⟩)]]::F) w) revs.length ⟨0,pre,F,rfl,rfl,hT,hSS,hJ,h⟩ ?_
  clear hT hSS hJ;clear h;rintro q2 ⟨y,⟨⟩⟩ w ⟨n,pre,F,hy,hq2,hT,hSS,hJ,h⟩ again2 hag2
  (try dsimp only)
  simp only at hy;subst hy;refine it (λhc=>?_) (λhc=>?_)<;>(try simp only[zB]at hc)
  ·have hn:n<revs.length:=by omega
   have hx:revs[n]? = some revs[n]:=List.getElem?_eq_getElem hn;have hdr:revs.drop n=revs[n]::revs.drop (n+1):=List.drop_eq_getElem_cons hn;generalize revs[n]=rev at hx hdr;refine Rw.ix yh r (by omega) (by simpa using hn) λa10 ha=>?_;simp only[Int.toNat_natCast]at ha;refine Rw.ld0 yh h 0 rfl r ha (x:=rev) hx rfl rfl ?_;obtain⟨hfw,i,s,hi,hs,hcl⟩:=hG pre _ F hT hJ;refine z1f h (i+4) hi hs (ic:=3) rfl hf (hfw.ins rev) λv2 sv2 s' w r2 hs h=>?_;have hJ:=hcl s' hs;clear hcl;have h:St w0 (sv2::sv::[Cl c3 Zx [.slice (some ⟨c2,0,none⟩) 4 4]]::fnB c2 c1::[Cl c1 zL [.pointer (some ⟨b,0,none⟩)]]::zd F i s') w:=h;generalize zd F i s'=F at *
   clear hs hi;have hT:yC a=pre++(yx j (zF a pre) rev++(ue j (zF (zF a pre) (yx j (zF a pre) rev)) (revs.drop (n+1))++rest2)):=by rw[hT,hdr];simp[ue]
   have hSS:SS=zF (zF (zF a pre) (yx j (zF a pre) rev)) (ue j (zF (zF a pre) (yx j (zF a pre) rev)) (revs.drop (n+1))):=by rw[hSS,hdr,ue,uP]
   have hll:=hfw.rev j rev;generalize yx j (zF a pre) rev=l at *
   obtain⟨S3,hS3⟩:∃S3,S3=zF (zF a pre) l:=⟨_,rfl⟩;rw[←hS3]at hT hSS;have hlen2:=Rw.len MW r2
   refine zT (λq y w=>∃(t:Nat)(pre:List AEv)(F:List Seg),@Eq Int y.1 t∧q+t=l.length∧yC a=pre++(l.drop t++(ue j S3 (revs.drop (n+1))++rest2))∧S3=zF (zF a pre) (l.drop t)∧J pre.length F∧
    St w0 (sv2::sv::[Cl c3 Zx [.slice (some ⟨c2,0,none⟩) 4 4]]::fnB c2 c1::[Cl c1 zL [.pointer (some ⟨b,0,none⟩)]]::F) w) l.length ⟨0,pre,F,rfl,rfl,hT,hS3,hJ,h⟩ ?_
   clear hT hS3 hJ;clear h;rintro q3 ⟨y,⟨⟩⟩ w ⟨t,pre,F,hy,hq3,hT,hS3,hJ,h⟩ again3 hag3
   (try dsimp only)
   simp only at hy;subst hy;refine it (λhc2=>?_) (λhc2=>?_)<;>(try simp only[zB]at hc2)
   ·have ht:t<l.length:=by omega
    have hx:l[t]? = some l[t]:=List.getElem?_eq_getElem ht;have hdr:l.drop t=l[t]::l.drop (t+1):=List.drop_eq_getElem_cons ht;generalize l[t]=e at hx hdr;rw[hdr]at hT hS3;refine Rw.ix MW r2 (by omega) (by simpa using ht) λa15 ha=>?_;simp only[Int.toNat_natCast]at ha;refine Rw.lda MW h 0 rfl r2 ha hx (y:=e.t) rfl ?_;refine nw h ?_;clear h;intro b17 w h
    (refine stC h ?_;clear h;intro w h;dsimp only[zJ,zd]at h;refine laC h ?_)
    have step:=step pre e _ F [[Cl b17 zq (eEv e)],sv2,sv] w hT hJ (St.toEnd (X:=[[Cl b17 zq (eEv e)],sv2,sv]) (A:=[_,_,_]) h);refine cv (Jw.mono step λu w' hu=>?_);rcases hu with ⟨rfl,F',h,hJ⟩ | ⟨rfl,hd⟩
    ·refine⟨true,rfl,itF rfl ?_⟩;have h:=St.ofEnd (X:=[[Cl b17 zq (eEv e)],sv2,sv]) (A:=[_,_,_]) h;refine hag3 (q3-1) _ w' (by omega) ⟨t+1,pre++[e],F',?_,by omega,by rw[hT];simp,?_,hJ,zm h⟩
     ·show Wi _=_;rw[wr (by omega) (by omega)];omega
     ·rw[hS3,uP];rfl
    ·exact⟨false,rfl,itT rfl (fin2 w' hd)⟩
   ·have et:l.drop t = []:=List.drop_eq_nil_of_le (by omega);rw[et]at hT hS3;refine hag2 (q2-1) _ w (by omega) ⟨n+1,pre,F,?_,by omega,?_,?_,hJ,zm h⟩
    ·show Wi _=_;rw[wr (by omega) (by omega)];omega
    ·rw[hT,hS3,pF];simp
    ·rw[hSS,hS3,pF]
  ·have et:revs.drop n = []:=List.drop_eq_nil_of_le (by omega);rw[et]at hT hSS;refine hag (q-1) _ w (by omega) ⟨j+1,pre,F,?_,by omega,?_,hJ,zm h⟩
   ·show Wi _=_;rw[wr (by omega) (by omega)];omega
   ·rw[hT,hrest,hSS];simp[ue,pF]
 ·have ed:[0,1,2,3].drop j = []:=List.drop_eq_nil_of_le (by simp;omega);rw[ed]at hT;have hT:yC a=pre++xx 9::[]:=by rw[hT];simp[uJ]
  have step:=step pre (xx 9) [] F [] w hT hJ (by rw[List.append_nil];exact h);refine cv (Jw.mono step λu w' hu=>?_);rcases hu with ⟨rfl,F',h,hJ⟩ | ⟨rfl,hd⟩
  ·refine⟨true,rfl,fin F' w' ?_ (by rw[List.append_nil]at h;exact h)⟩;rw[hT];exact hJ
  ·exact⟨false,rfl,fin2 w' hd⟩
def qZ:∀(a:zK)(l m:List AEv),Yo a (l++m)=Yo a l++Yo (zF a l) m
 | _,[],_=>rfl
 | a,e::l,m=>by
  rw[List.cons_append,Kb,qZ,Kb,Un];rfl
def rnd(a:zK):zK:=zF a (yC a)
def vS(a:zK):List B0:=(Yo a (yC a)).flatten
structure z6g(ks:Int→Bool)(a:zK):Prop where
 ev:∀e∈yC a,ks e.kind=true∧ZH e=0∧e.v=Rr∧e.r=ke∧(e.kind=12∨e.kind=13→Ph e.name)∧(e.kind=5∨e.kind=6∨e.kind=9∨e.kind=12∨e.kind=13)
 out:∀pre more,yC a=pre++more→((Yo a pre).flatten).length≤1000000
 len:(yC a).length≤40
def EM{a:zK}{e:AEv}(h:e.kind=5∨e.kind=6∨e.kind=9∨e.kind=12∨e.kind=13):(zE a e).1.sh=a.sh:=by
 by_cases hb:ZH e=0
 ·rcases h with hc | hc | hc | hc | hc
  ·rw[PX hb hc];unfold Vs;rfl
  ·rw[Gq hb hc];unfold gb;split<;>rfl
  ·rw[PW hb hc];unfold UI;split<;>rfl
  ·rw[Fq hb hc];unfold uw;repeat' split
   all_goals rfl
  ·rw[gf hb hc];unfold qJ;split<;>rfl
 ·rw[Wd hb]
def sQ{l:List AEv}:∀{a:zK},(∀e∈l,e.kind=5∨e.kind=6∨e.kind=9∨e.kind=12∨e.kind=13)→(zF a l).sh=a.sh:=by
 induction l with
 | nil=>intro a _;rfl
 | cons e l ih=>
  intro a h;rw[Un,ih λx hx=>h x (by simp[hx]),EM (h e (by simp))]
structure sI(ks:Int→Bool)(a:zK):Prop where
 ev:∀e∈yC a,ks e.kind=true∧ZH e=0∧e.v=Rr∧e.r=ke∧(e.kind=12∨e.kind=13→Ph e.name)∧(e.kind=5∨e.kind=6∨e.kind=9∨e.kind=12∨e.kind=13)
 out:∀pre more,yC a=pre++more→((Yo a pre).flatten).length≤1000000
 len:(yC a).length≤50
def Lv{ks:Int→Bool}[Kn w0 ks]{b:Nat}{a:zK}{s:Seg}(h:St w0 (s::E) w)(hs:yV b a s)(ok:sI ks a){k0:Nat}(inv:yI k0 a)(hk0:k0+100≤9000)(hsh0:a.sh.n<99){k:Sl→PT}
  (hk:∀v sv s' w',Rw eS zc 1 v (vS a) sv→yV b (rnd a) s'→yI (k0+100) (rnd a)→St w0 (sv::s'::E) w'→k v w'):L.call Pr GD [pO b] (.one (.one .slice)) k w:=by
 refine za (LT _) ?_;unfold Tw;have hlen:=ok.len;refine nw h ?_;clear h;intro b1 w h;refine nw h ?_;clear h;intro b2 w h
 (refine ldC h ?_)
 refine za (wC _) ?_;unfold pt;refine nw h ?_;clear h;intro c1 w h;refine nw h ?_;clear h;intro c2 w h;refine nw h ?_;clear h;intro c3 w h
 (refine stC h ?_;clear h;intro w h;dsimp only[zJ,zd]at h)
 refine⟨⟨.func qk,#[],#[.pointer (some ⟨c3,0,none⟩),.pointer (some ⟨c1,0,none⟩)]⟩,rfl,?_⟩;have h:St w0 (frA b c1 c2 c3++([]::[Cl b2 zj [.slice none 0 0]]::[Cl b1 zL [.pointer (some ⟨b,0,none⟩)]]::s::E)) w:=h.eq (by simp);have hY:=z3g (w0:=w0) (b:=b) (c1:=c1) (c2:=c2) (c3:=c3) (a:=a)
 refine Si (es:=[.agg ae]) (arg:=λm=>(((yC a)[m]?.getD (xx 9)).t,())) hY h
  (λm F=>m≤50∧∃v sv s',Rw eS zc 1 v (Yo a ((yC a).take m)).flatten sv∧yV b (zF a ((yC a).take m)) s'∧yI (k0+2*m) (zF a ((yC a).take m))∧F=sv::[Cl b2 zj [.slice v.a v.len v.cap]]::[Cl b1 zL [.pointer (some ⟨b,0,none⟩)]]::s'::E)
  ⟨by omega,⟨none,0,0⟩,[],s,Rw.nil,hs,inv,rfl⟩ ?_ ?_ ?_
 ·rintro m F ⟨h40,v,sv,s',r,hs',hi,rfl⟩;exact⟨bP.of_inv hi (by omega),3,s',rfl,hs',λs'' hs''=>⟨h40,v,sv,s'',r,hs'',hi,rfl⟩⟩
 ·clear h;clear hY hs inv;rintro m F X w l lp d R hm ⟨h40,v,sv,s,r,hs,inv,rfl⟩ h hn;have hx:(yC a)[m]? = some (yC a)[m]:=List.getElem?_eq_getElem hm;have hmem:(yC a)[m]∈yC a:=List.getElem_mem hm;have ht:(yC a).take (m+1)=(yC a).take m++[(yC a)[m]]:=by rw[List.take_add_one,hx];rfl
  have hsp:yC a=(yC a).take m++(yC a).drop m:=(List.take_append_drop ..).symm;have hsp1:yC a=(yC a).take (m+1)++(yC a).drop (m+1):=(List.take_append_drop ..).symm;have hsh:(zF a ((yC a).take m)).sh.n<99:=by rw[sQ λe he=>(ok.ev e (List.mem_of_mem_take he)).2.2.2.2.2];exact hsh0
  have ho:=ok.out _ _ hsp1;generalize (yC a)[m]=e at *
  obtain⟨e1,e2,e3,e4,e5,-⟩:=ok.ev e hmem;have hro:(Yo a ((yC a).take (m+1))).flatten=(Yo a ((yC a).take m)).flatten++(zE (zF a ((yC a).take m)) e).2:=by
   rw[ht,qZ,List.flatten_append];simp[Yo]
  have hrs:zF a ((yC a).take (m+1))=(zE (zF a ((yC a).take m)) e).1:=by rw[ht,uP];rfl
  rw[hro,List.length_append]at ho
  have hn:∀F' w',(∃v sv s',Rw eS zc 1 v ((Yo a ((yC a).take m)).flatten++(zE (zF a ((yC a).take m)) e).2) sv∧yV b (zE (zF a ((yC a).take m)) e).1 s'∧yI (k0+2*(m+1)) (zE (zF a ((yC a).take m)) e).1∧F'=sv::[Cl b2 zj [.slice v.a v.len v.cap]]::[Cl b1 zL [.pointer (some ⟨b,0,none⟩)]]::s'::E)→
    St w0 ([Rec l lp .busy none]::[DfM d]::(frA b c1 c2 c3++(F'++X))) w'→L.endRound Pr l none R w':=λF' w' hi h=>hn F' w' ⟨by omega,by rw[hro,hrs];exact hi⟩ h
  rw[hx,Option.getD_some];generalize (Yo a ((yC a).take m)).flatten=outs at *
  generalize zF a ((yC a).take m)=am at *
  clear hx ht hsp hsp1 hro hrs ok hmem
  (try dsimp only)
  refine nw h ?_;clear h;intro b10 w h;have h:St w0 ([Cl b10 _ _]::[Rec l lp .ready none]::[DfM d]::[Cl c3 Zx [.slice (some ⟨c2,0,none⟩) 4 4]]::fnB c2 c1::[Cl c1 zL [.pointer (some ⟨b,0,none⟩)]]::sv::[Cl b2 zj [.slice v.a v.len v.cap]]::[Cl b1 zL [.pointer (some ⟨b,0,none⟩)]]::s::(E++X)) w:=h
  (refine stC h ?_;clear h;intro w h;(try dsimp only[zJ,zd]at h))
  refine bgn h 1 rfl λw h=>?_;dsimp only[zd]at h
  (refine dr h ?_;clear h;intro w h;refine ldC h ?_;refine ldC h ?_;refine laC h ?_)
  refine bN (e:=e) h 9 rfl hs e1 e2 (uq.plain e3 e4 e5) inv (by omega) hsh λv3 s3 s' w r3 hs inv h=>?_;dsimp only[zd]at h
  (refine ckC h ?_)
  refine Rw.appRd yh elS h 7 rfl r (Rw.rd yh h 0 rfl r3) (by omega) (by omega) λv4 s4 w r4 _ _ h=>?_;dsimp only[zd]at h
  (refine stC h ?_;clear h;intro w h;dsimp only[zJ,zd]at h)
  refine hn (s4::[Cl b2 zj [.slice v4.a v4.len v4.cap]]::[Cl b1 zL [.pointer (some ⟨b,0,none⟩)]]::s'::E) w ⟨v4,s4,s',r4,hs,inv,rfl⟩ ?_;exact zm (zm h)
 ·clear h;rintro d F w ⟨h40,v,sv,s',r,hs,inv,rfl⟩ h;rw[List.take_length]at r hs inv;refine vC ?_;have h:St w0 ([DfM d]::[Cl c3 Zx [.slice (some ⟨c2,0,none⟩) 4 4]]::fnB c2 c1::[Cl c1 zL [.pointer (some ⟨b,0,none⟩)]]::sv::[Cl b2 zj [.slice v.a v.len v.cap]]::[Cl b1 zL [.pointer (some ⟨b,0,none⟩)]]::s'::E) w:=h
  (refine ldC h ?_)
  have hol:=ok.out _ [] (List.append_nil _).symm;refine Tf h (Rw.rd yh h 4 rfl r) (by omega) (Rw.nil0 yh r) λv' s2 w r2 hi h=>?_
  (first | refine OF h ?_ | refine OE h ?_ | refine OD h ?_ | refine OC h ?_ | refine OB h ?_ | refine OA h ?_ | refine Oz h ?_ | refine Oy h ?_ | refine Ox h ?_ | refine Ow h ?_ | refine uv h ?_ | refine uu h ?_);clear h;intro w h
  refine⟨v',rfl,hk v' s2 s' w r2 hs (inv.mono (by omega)) ?_⟩;have h:=Yf (VQ (VP (ko (Pc (nX h)))));exact h
def Lw{ks:Int→Bool}[Kn w0 ks]{b:Nat}{a:zK}{s:Seg}(h:St w0 (s::E) w)(hs:yV b a s){n:Nat}(hn50:n≤50)(J:Nat→zK→Prop)(Q:B0→Prop)(h0:J 0 a)
  (step:∀j a k,j<n→J j a→SOk a→yI k a→k≤9000→sI ks a∧a.sh.n<99∧J (j+1) (rnd a)∧(∀s∈vS a,Q s)∧(vS a).length≤10000) {k0:Nat} (inv:yI k0 a) (hk0:k0+100*n≤9000) {c:Int} (hc:c=n) {k:Sl→PT}
  (hk:∀v sv s' w' a' l,Rw eS zc 1 v l sv→(∀s∈l,Q s)→l.length≤10000*n→J n a'→yV b a' s'→yI (k0+100*n) a'→St w0 (sv::s'::E) w'→k v w'):L.call Pr GE [pO b,I c] (.one (.one .slice)) k w:=by
 subst hc;refine za (LU _ _) ?_;unfold Tx;rw[if_neg (by omega)];refine zT (λq y w=>∃(j:Nat)(v:Sl)(sv s:Seg)(a:zK)(l:List B0),y=(v,(j:Int),())∧q+j=n∧Rw eS zc 1 v l sv∧(∀s∈l,Q s)∧l.length≤10000*j∧J j a∧yV b a s∧yI (k0+100*j) a∧St w0 (s::sv::E) w) n ⟨0,⟨none,0,0⟩,[],s,a,[],rfl,by omega,Rw.nil,(λs hs=>by cases hs),Nat.le_refl _,h0,hs,inv,h.eq (by simp)⟩ ?_;clear hs inv h0;clear h;rintro q y w ⟨j,v,sv,s,a,l,rfl,hq,r,hQ,hl,hJ,hs,inv,h⟩ again hag
 (try dsimp only)
 refine it (λhcc=>?_) (λhcc=>?_)<;>(try simp only[zB]at hcc)
 ·have hj:j<n:=by omega
  obtain⟨ok,hsh,hJ1,hQ1,hl1⟩:=step j a _ hj hJ hs.ok inv (by omega);refine Lv h hs ok inv (by omega) hsh λv2 s2 s' w r2 hs inv h=>?_;refine Rw.appRd yh elS h 2 rfl r (Rw.rd yh h 0 rfl r2) (by omega) (by omega) λv4 s4 w r4 _ _ h=>?_;dsimp only[zd]at h;refine hag (q-1) _ w (by omega) ⟨j+1,v4,s4,s',rnd a,_,?_,by omega,r4,λs hs=>?_,?_,hJ1,hs,inv.mono (by omega),zm h⟩
  ·rw[wr (by omega) (by omega)];congr 1
  ·rcases List.mem_append.1 hs with hs | hs
   ·exact hQ s hs
   ·exact hQ1 s hs
  ·rw[List.length_append];omega
 ·have e:j=n:=by omega
  subst e;refine Tf h (Rw.rd yh h 1 rfl r) (by omega) (Rw.nil0 yh r) λv' s2 w r2 hi h=>?_;exact⟨v',rfl,hk v' s2 s w a l r2 hQ hl hJ hs inv (VQ h)⟩
end Go.Proofs.YtimahgbgejngiaaGreatDoor
namespace Go.Proofs.YtimahgbgejngiaaGreatDoor
open Go.Dm
abbrev Mm(L:List Int):List AEv:=L.map λid=>evN 6 id
def lv(F:ze):Prop:=∃x∈F.l,x.pod.st≠3
def lv.tk{F F':ze}(t:Tk F F')(h:lv F):lv F':=by
 obtain⟨x,hx,h3⟩:=h;obtain⟨x',hx',-,h4,-⟩:=t.fw x hx;exact⟨x',hx',by rw[h4];exact h3⟩
def Ah{c:Cfg}{m:Nat}:∀(L:List Int)(a:zK),FI c m a→L.Nodup→(∀id∈L,(∃x∈a.fl.l,x.id=id∧x.pod.st=1)∧1≤id∧id≤2147483647)→(∀x∈a.fl.l,x.pod.st=1→x.id∈L)→
  FI c m (zF a (Mm L))∧(zF a (Mm L)).now=a.now∧Ns (zF a (Mm L)).fl∧(∀s∈(Yo a (Mm L)).flatten,okL s)∧(ln (zF a (Mm L)).gt wv).length≤(ln a.gt wv).length∧(lv a.fl→lv (zF a (Mm L)).fl)∧gK (zF a (Mm L))=gK a∧
  (Yo a (Mm L)).flatten.length≤L.length*(2+(ln a.gt wv).length)
 | [],a,I,_,_,h2=>⟨I,rfl,λx hx h1=>(by have:=h2 x hx h1;cases this),λs hs=>(by cases hs),Nat.le_refl _,id,rfl,by simp[Yo]⟩
 | id::L,a,I,hnd,h1,h2=>by
  obtain⟨⟨x,hx,rfl,hst⟩,hid⟩:=h1 id (by simp);obtain⟨J,hno,hok,hln,htk,hol,hk⟩:=z2a I hx hst hid;obtain⟨-,-,e2,e3,-,-⟩:=iw I.g.C hx hst;rw[List.nodup_cons]at hnd;have hl:Mm (x.id::L)=evN 6 x.id::Mm L:=rfl;rw[hl,Un,Kb];generalize hb:(zE a (evN 6 x.id)).1=b at *
  have h1':∀i∈L,(∃z∈b.fl.l,z.id=i∧z.pod.st=1)∧1≤i∧i≤2147483647:=λi hi=>by
   obtain⟨⟨z,hz,hzi,hz1⟩,hr⟩:=h1 i (by simp[hi]);have hne:z.id≠x.id:=λe=>hnd.1 (by rw[←e,hzi];exact hi);have hz':z∈(jJ a.fl x.id).1.l:=by rw[e2];exact(Ka hz).1 hne
   obtain⟨z2,hz2,g1,g2,-⟩:=htk.fw z hz';exact⟨⟨z2,hz2,g1.trans hzi,g2.trans hz1⟩,hr⟩
  have h2':∀z∈b.fl.l,z.pod.st=1→z.id∈L:=λz hz hz1=>by
   obtain⟨y,hy,g1,g2,-⟩:=htk.bk z hz;rw[e2]at hy;rw[g2]at hz1;rw[g1];obtain⟨u,hu,⟨hne,rfl⟩ | ⟨he,rfl,-⟩⟩:=Kj hy
   ·rcases List.mem_cons.1 (h2 y hu hz1)with h | h
    ·exact absurd h hne
    ·exact h
   ·exfalso;have e:=qm I.g.C.ok hu hx he;subst e;rw[e3]at hz1;dsimp only at hz1;omega
  have hlv:lv a.fl→lv b.fl:=λ⟨z,hz,hz3⟩=>by
   refine lv.tk htk ?_;unfold lv;rw[e2];by_cases e:z.id=x.id
   ·have e4:=qm I.g.C.ok hz hx e;subst e4;have h5:(Yl z.pod).1.st=2:=by rw[e3]
    exact⟨_,(Ka (g:=λp=>(Yl p).1) hz).2 rfl (by rw[h5];decide),by dsimp only;rw[h5];decide⟩
   ·exact⟨z,(Ka hz).1 e,hz3⟩
  obtain⟨r1,r2,r3,r4,r5,r6,r7,r8⟩:=Ah L b J hnd.2 h1' h2';refine⟨r1,r2.trans hno,r3,λs hs=>?_,Nat.le_trans r5 hln,λh=>r6 (hlv h),r7.trans hk,?_⟩
  ·rw[List.flatten_cons]at hs;rcases List.mem_append.1 hs with hs | hs
   ·exact hok s hs
   ·exact r4 s hs
  ·rw[List.flatten_cons,List.length_append,List.length_cons,Nat.add_mul,Nat.one_mul];have:L.length*(2+(ln b.gt wv).length)≤L.length*(2+(ln a.gt wv).length):=Nat.mul_le_mul_left _ (by omega);omega
def WT{c:Cfg}{m:Nat}:∀(L:List Int)(a:zK),FI c m a→L.Nodup→(∀q∈L,zr a.gt.all q=some (wv,1))→Dr a.fl L→Ns a.fl→∀R:List Int,R.Nodup→(∀q∈R,q∈L∧RH a.fl q)→
  FI c m (zF a (Ye L))∧(zF a (Ye L)).now=a.now∧Ns (zF a (Ye L)).fl∧Dr (zF a (Ye L)).fl []∧(∀s∈(Yo a (Ye L)).flatten,okL s)∧
  (ln (zF a (Ye L)).gt wv).length+min (ln a.gt wv).length R.length≤(ln a.gt wv).length∧(ln a.gt wv = []→∀q,zr (zF a (Ye L)).gt.all q=some (wv,1)→zr a.gt.all q=some (wv,1)∧q∉L)∧gK (zF a (Ye L))=gK a∧
  (Yo a (Ye L)).flatten.length≤L.length*(2+(ln a.gt wv).length)
 | [],a,I,_,_,hd,hns,R,_,hR=>by
  have hR0:R = []:=by
   cases R with
   | nil=>rfl
   | cons q R=>have:=(hR q (by simp)).1;cases this
  subst hR0;exact⟨I,rfl,hns,hd,λs hs=>(by cases hs),by simp[Ye,zF],λ_ q hq=>⟨hq,by simp⟩,rfl,by simp[Ye,Yo]⟩
 | q::L,a,I,hnd,h1,hd,hns,R,hRn,hR=>by
  have hq:=h1 q (by simp);obtain⟨J,hno,hok,efl,egt,hol,hk⟩:=z0C I hq;obtain⟨-,-,-,g4,g5⟩:=RX I.g hq;have htk:=Dq I.g hq;have hdr:=z0L I.g hq hd;have hn1:=z0K I.g hq hns;rw[List.nodup_cons]at hnd;have hkeep:∀q'∈L,zr (Yu a.fl a.gt q).2.1.all q'=some (wv,1):=λq' h'=>eo I.g hq (λe=>hnd.1 (e▸h')) (h1 q' (by simp[h']));have hnone:=λ(hl:ln a.gt wv = [])(q':Int)(h:zr (Yu a.fl a.gt q).2.1.all q'=some (wv,1))=>eh I.g hq hl h;have hl:Ye (q::L)=evN 5 q::Ye L:=rfl;rw[hl,Un,Kb];rw[←efl]at hdr hn1 htk;rw[←egt]at hkeep hnone g4 g5;generalize (zE a (evN 5 q)).1=b at *
  have hrh:∀q'∈R,q'≠q→RH b.fl q':=λq' h' hne=>RH.tk htk (RH.give I.g.C hq hne (hR q' h').2);obtain⟨r1,r2,r3,r4,r5,r6,r7,r8,r9⟩:=WT L b J hnd.2 hkeep hdr hn1 (R.erase q) (hRn.erase _) (λq' h'=>by
   have h2:=(List.Nodup.mem_erase_iff hRn).1 h';refine⟨?_,hrh q' h2.2 h2.1⟩;rcases List.mem_cons.1 (hR q' h2.2).1 with h | h
   ·exact absurd h h2.1
   ·exact h)
  refine⟨r1,r2.trans hno,r3,r4,λs hs=>?_,?_,λh0 q' h'=>?_,r8.trans hk,?_⟩
  ·rw[List.flatten_cons]at hs;rcases List.mem_append.1 hs with hs | hs
   ·exact hok s hs
   ·exact r5 s hs
  ·by_cases hqR:q∈R
   ·have e1:=List.length_erase_of_mem hqR;have e2:=List.length_pos_of_mem hqR;by_cases h0:ln a.gt wv = []
    ·rw[h0]at g4 ⊢;rw[List.length_nil]at g4 ⊢;omega
    ·have:=g5 (hR q hqR).2 h0;omega
   ·have e1:R.erase q=R:=List.erase_of_not_mem hqR;rw[e1]at r6;omega
  ·have hb0:ln b.gt wv = []:=by
    have:(ln b.gt wv).length=0:=by rw[h0]at g4;simpa using g4
    exact List.length_eq_zero_iff.1 this
   obtain⟨h3,h4⟩:=r7 hb0 q' h';obtain⟨h5,h6⟩:=hnone h0 q' h3;exact⟨h6,by simp[h4];exact h5⟩
  ·rw[List.flatten_cons,List.length_append,List.length_cons,Nat.add_mul,Nat.one_mul];have:L.length*(2+(ln b.gt wv).length)≤L.length*(2+(ln a.gt wv).length):=Nat.mul_le_mul_left _ (by omega);omega
def z2v{a:zK}{r:B0}(h0:XB a.bk = [r])(h1:XB (zF a (yx 0 a r)).bk = [r])
  (h2:XB (zF (zF a (yx 0 a r)) (yx 1 (zF a (yx 0 a r)) r)).bk = [r])
  (h3:XB (zF (zF (zF a (yx 0 a r)) (yx 1 (zF a (yx 0 a r)) r)) (yx 2 (zF (zF a (yx 0 a r)) (yx 1 (zF a (yx 0 a r)) r)) r)).bk = [r]) :
  yC a=yx 0 a r++(yx 1 (zF a (yx 0 a r)) r++(yx 2 (zF (zF a (yx 0 a r)) (yx 1 (zF a (yx 0 a r)) r)) r++(yx 3 (zF (zF (zF a (yx 0 a r)) (yx 1 (zF a (yx 0 a r)) r)) (yx 2 (zF (zF a (yx 0 a r)) (yx 1 (zF a (yx 0 a r)) r)) r)) r++[xx 9]))):=by
 have e:∀k a,ue k a [r]=yx k a r:=λk a=>by simp[ue]
 unfold yC uJ;rw[h0,e];unfold uJ;rw[h1,e];unfold uJ;rw[h2,e];unfold uJ;rw[h3,e];simp[uJ]
def IK(F:ze):Prop:=∀x∈F.l,x.pod.st=2
def tb:∀{n:Nat}{F:ze}{rv:B0},(shrink rv n F).1.last=F.last
 | 0,_,_=>rfl
 | n+1,F,rv=>(tb (n:=n) (F:=qD rv F)).trans rfl
def z0c{c:Cfg}{m:Nat}{a:zK}(I:FI c m a):(zE a (xP 13 wv)).1.fl=(Ys a.fl wv (cc c) (yl a wv)).1:=by
 rw[gf AQ rfl];unfold qJ;rw[if_neg (by rw[Ld I];decide)];have ec:XN a wv=cc c:=by unfold XN;rw[BZ I]
 show(Ys a.fl wv (XN a wv) (yl a wv)).1=_;rw[ec]
def Ss{c:Cfg}{m:Nat}{a:zK}(I:FI c m a):(zE a (xP 13 wv)).1.fl.last≤a.fl.last+10:=by
 rw[z0c I];have h1:(Ys a.fl wv (cc c) (yl a wv)).1.last=(yT a.fl wv (cc c) (yl a wv)).last:=tb;have h2:(yT a.fl wv (cc c) (yl a wv)).last=a.fl.last+qM a.fl wv (yl a wv):=KH _;have h3:=FK a.fl wv (yl a wv);have:=I.rm;rw[h1,h2];omega
abbrev UK(F:ze):List Int:=(F.l.filter λx=>x.pod.st == 1).map (·.id)
def z2l{c:Cfg}{m:Nat}{a:zK}(I:FI c m a):kA (jW a.fl.l wv)=Mm (UK a.fl):=by
 have e:revs a.fl.l wv=a.fl.l:=by
  unfold revs;rw[List.filter_eq_self];intro x hx;exact decide_eq_true (I.g.C.pod x hx).1
 unfold kA jW;rw[e,List.filter_map,List.map_map];unfold Mm UK;rw[List.map_map];rfl
def EO{F:ze}(ok:F.Ok):(UK F).Nodup:=by
 unfold UK;have h:=ok.pw.filter (λx:Zg=>x.pod.st == 1);exact List.pairwise_map.2 (h.imp λhab e=>by omega)
def PS{all:jO}(knd:(all.map (·.1)).Nodup)(q:Int):q∈jI all wv↔zr all q=some (wv,1):=by
 unfold jI;rw[(Vd _).mem_iff];constructor
 ·intro h;obtain⟨y,hy,rfl⟩:=List.mem_map.1 h;obtain⟨h1,h2⟩:=List.mem_filter.1 hy;refine VL knd ?_;have h2:y.2=(wv,(1:Int)):=of_decide_eq_true h2;rw[←h2];exact h1
 ·intro h;exact List.mem_map.2 ⟨_,List.mem_filter.2 ⟨yK h,by simp⟩,rfl⟩
def IO{all:jO}(knd:(all.map (·.1)).Nodup):(jI all wv).Nodup:=by
 unfold jI;rw[(Vd _).nodup_iff];exact((List.filter_sublist).map _).nodup knd
def iA{ks:Int→Bool}(hks:(ks 5&&ks 6&&ks 9&&ks 12&&ks 13)=true){c:Cfg}{m k:Nat}{a:zK}(I:FI c m a)(inv:yI k a)(okS:SOk a)(hk:k≤9000)(hn:a.now+1<50)(hm:m≤33) :
  sI ks a∧FI c m (rnd a)∧(rnd a).now=a.now+1∧(∀s∈vS a,okL s)∧(vS a).length≤10000∧gK (rnd a)=gK a∧IK (rnd a).fl∧(ln (rnd a).gt wv).length≤(ln a.gt wv).length∧
  (IK a.fl→ln a.gt wv≠[]→(ln (rnd a).gt wv).length+min (ln a.gt wv).length (cc c).toNat≤(ln a.gt wv).length)∧(ln a.gt wv = []→∀q,zr (rnd a).gt.all q≠some (wv,1)):=by
 simp only[Bool.and_eq_true]at hks;obtain⟨⟨⟨⟨k5,k6⟩,k9⟩,k12⟩,k13⟩:=hks;have hW:(ln a.gt wv).length≤8:=by
  have:=Er inv okS.gt wv;unfold VN at this
  rwa [List.length_map]at this
 have hlast:=inv.fl.last;obtain⟨I1,f1,g1,n1,o1,l1,b1⟩:=bi I inv;have e0:yx 0 a wv = [xP 12 wv]:=rfl;have r1:zF a [xP 12 wv]=(zE a (xP 12 wv)).1:=rfl;have hso1:Yo a [xP 12 wv] = [(zE a (xP 12 wv)).2]:=rfl;have rd:=z2v (nP I);rw[e0,r1]at rd;generalize hd1:(zE a (xP 12 wv)).1=a1 at *
 generalize (zE a (xP 12 wv)).2=out1 at *
 have hl1:a1.fl.last≤1000000:=by rw[f1];omega
 obtain⟨I2,g2,n2,o2,b2,l2⟩:=AM I1 hl1;have p2:=Ss I1;have e1:yx 1 a1 wv = [xP 13 wv]:=rfl;have r2:zF a1 [xP 13 wv]=(zE a1 (xP 13 wv)).1:=rfl;have hso2:Yo a1 [xP 13 wv] = [(zE a1 (xP 13 wv)).2]:=rfl;rw[e1,r2]at rd;generalize hd2:(zE a1 (xP 13 wv)).1=a2 at *
 generalize (zE a1 (xP 13 wv)).2=out2 at *
 have e2:yx 2 a2 wv=Mm (UK a2.fl):=z2l I2;rw[e2]at rd;have hL2:(UK a2.fl).length≤10:=by
  unfold UK;rw[List.length_map];have h3:=List.length_filter_le (λx:Zg=>x.pod.st == 1) a2.fl.l;have h4:=I2.fl;have h5:=I2.rm;omega
 have hU1:∀id∈UK a2.fl,(∃x∈a2.fl.l,x.id=id∧x.pod.st=1)∧1≤id∧id≤2147483647:=λid hid=>by
  obtain⟨x,hx,rfl⟩:=List.mem_map.1 hid;obtain⟨h3,h4⟩:=List.mem_filter.1 hx;have h5:=I2.g.C.ok.rng x h3;have h6:a2.fl.last≤1000010:=by omega
  exact⟨⟨x,h3,rfl,by simpa using h4⟩,by omega,by omega⟩
 have hU2:∀x∈a2.fl.l,x.pod.st=1→x.id∈UK a2.fl:=λx hx h=>List.mem_map.2 ⟨x,List.mem_filter.2 ⟨hx,by simpa using h⟩,rfl⟩;obtain⟨I3,n3,ns3,o3,w3,lv3,k3,l3⟩:=Ah (UK a2.fl) a2 I2 (EO I2.g.C.ok) hU1 hU2;have hev2:∀e∈Mm (UK a2.fl),∃id,e=evN 6 id∧1≤id∧id≤2147483647:=λe he=>by
  obtain⟨id,hid,rfl⟩:=List.mem_map.1 he;exact⟨id,rfl,(hU1 id hid).2⟩
 have hlu:(Mm (UK a2.fl)).length≤10:=by rw[List.length_map];exact hL2
 generalize hups:Mm (UK a2.fl)=U at *
 generalize hd3:zF a2 U=a3 at *
 have e3:yx 3 a3 wv=Ye (jI a3.gt.all wv):=rfl;rw[e3]at rd;have knd:=I3.g.C.knd;have hD1:∀q∈jI a3.gt.all wv,zr a3.gt.all q=some (wv,1):=λq hq=>(PS knd q).1 hq;have hDr:Dr a3.fl (jI a3.gt.all wv):=λx hx _ q hq=>(PS knd q).2 ((I3.g.C.hold q).1 (by rw[xF I3.g.C.ok.once hx hq];rfl));have hL3:(jI a3.gt.all wv).length≤33:=by
  have h3:=Ep a3 wv;have h4:=I3.len;unfold gK at h3;rw[List.length_map]at h3;omega
 obtain⟨R,hRn,hR,hRl⟩:∃R:List Int,R.Nodup∧(∀q∈R,q∈jI a3.gt.all wv∧RH a3.fl q)∧(IK a.fl→ln a.gt wv≠[]→ln a3.gt wv≠[]→(cc c).toNat≤R.length):=by
  by_cases hc:IK a.fl∧ln a.gt wv≠[]∧ln a3.gt wv≠[]
  ·obtain⟨hA,hl0,hl3⟩:=hc;have hbz:0<Uu a.gt wv:=by
    have:0<(VN a.gt wv).length:=by
     unfold VN;rw[List.length_map];exact List.length_pos_iff.2 hl0
    unfold Uu;omega
   have hwant:=b1 hbz;have hlive:1≤ZA a1.fl.l wv∨(a1.fl.l.length:Int)<a1.fl.room:=by
    rw[f1]
    cases hfl:a.fl.l with
    | nil=>right;have:=I.rm;simp;omega
    | cons x xs=>
     left;have hx:x∈a.fl.l:=by rw[hfl];simp
     rw[←hfl];exact Eu hx (I.g.C.pod x hx).1 (by rw[hA x hx];decide)
   obtain⟨x,hx,hx3⟩:=lv3 (iP (b2 hwant hlive));have hx2:x.pod.st=2:=by
    have h4:=I3.g.C.ok.live x hx;have h5:=ns3 x hx;omega
   refine⟨x.pod.reqs,(I3.g.C.pod x hx).2.2.1,λq hq=>⟨(PS knd q).2 ((I3.g.C.hold q).1 (by rw[xF I3.g.C.ok.once hx hq];rfl)),x,hx,hq,hx2⟩,λ_ _ _=>?_⟩;rcases I3.g.sat with h | h
   ·exact absurd h hl3
   ·have:=h x hx hx2;omega
  ·exact⟨[],List.nodup_nil,⟨λq hq=>absurd hq (by simp),λh1 h2 h3=>absurd ⟨h1,h2,h3⟩ hc⟩⟩
 obtain⟨I4,n4,ns4,dr4,o4,w4,z4,k4,l4⟩:=WT (jI a3.gt.all wv) a3 I3 (IO knd) hD1 hDr ns3 R hRn hR;have hev3:∀e∈Ye (jI a3.gt.all wv),∃q,e=evN 5 q∧1≤q∧q≤2000:=λe he=>by
  obtain⟨q,hq,rfl⟩:=List.mem_map.1 he;exact⟨q,rfl,I3.g.ids _ (yK (hD1 q hq))⟩
 have hld:(Ye (jI a3.gt.all wv)).length≤33:=by unfold Ye;rw[List.length_map];exact hL3
 have z4':ln a3.gt wv = []→∀q,zr (zF a3 (Ye (jI a3.gt.all wv))).gt.all q≠some (wv,1):=λh q hq=>by
  obtain⟨h5,h6⟩:=z4 h q hq;exact h6 ((PS knd q).2 h5)
 clear z4;generalize hdn:Ye (jI a3.gt.all wv)=Dn at *
 generalize hd4:zF a3 Dn=a4 at *
 obtain⟨I5,n5,f5,t5,w5,o5,l5⟩:=z0A I4 (by rw[n4,n3,n2,n1];exact hn);have rd:=rd (nP I1) (nP I2) (nP I3);have hrn:rnd a=(zE a4 (xx 9)).1:=by
  unfold rnd;rw[rd,uP,r1,uP,r2,uP,hd3,uP,hd4];rfl
 have hro:vS a=out1++(out2++((Yo a2 U).flatten++((Yo a3 Dn).flatten++(zE a4 (xx 9)).2))):=by
  unfold vS;rw[rd,qZ,r1,qZ,r2,qZ,hd3,qZ,hd4,hso1,hso2];simp[Yo]
 have hW2:(ln a2.gt wv).length≤8:=by rw[g2,g1];exact hW
 have hW3:(ln a3.gt wv).length≤8:=Nat.le_trans w3 hW2;have hm2:(UK a2.fl).length*(2+(ln a2.gt wv).length)≤10*10:=Nat.mul_le_mul hL2 (by omega);have hm3:(jI a3.gt.all wv).length*(2+(ln a3.gt wv).length)≤33*10:=Nat.mul_le_mul hL3 (by omega);have hout:(vS a).length≤10000:=by
  rw[hro];simp only[List.length_append];omega
 have hok:∀s∈vS a,okL s:=λs hs=>by
  rw[hro]at hs;rcases List.mem_append.1 hs with hs | hs
  ·exact o1 s hs
  rcases List.mem_append.1 hs with hs | hs
  ·exact o2 s hs
  rcases List.mem_append.1 hs with hs | hs
  ·exact o3 s hs
  rcases List.mem_append.1 hs with hs | hs
  ·exact o4 s hs
  ·exact o5 s hs
 have hgk:gK (rnd a)=gK a:=by
  rw[hrn];unfold gK;rw[t5];have h6:gK a4=gK a:=by rw[k4,k3];unfold gK;rw[g2,g1]
  exact h6
 have hla:(ln a2.gt wv).length=(ln a.gt wv).length:=by rw[g2,g1]
 refine⟨⟨λe he=>?_,λpre more hpm=>?_,?_⟩,by rw[hrn];exact I5,by rw[hrn,n5,n4,n3,n2,n1],hok,hout,hgk,?_,?_,λhA hl=>?_,λhl q=>?_⟩
 ·rw[rd]at he;simp only[List.mem_append,List.mem_singleton]at he;rcases he with rfl | rfl | he | he | rfl
  ·exact⟨k12,iU,rfl,rfl,λ_=>gp,by decide⟩
  ·exact⟨k13,AQ,rfl,rfl,λ_=>gp,by decide⟩
  ·obtain⟨id,rfl,h1,h2⟩:=hev2 e he;exact⟨k6,tY (.inr (.inl rfl)) ⟨h1,h2⟩,rfl,rfl,λh=>absurd h (show ¬((6:Int)=12∨(6:Int)=13)by decide),.inr (.inl rfl)⟩
  ·obtain⟨q,rfl,h1,h2⟩:=hev3 e he;exact⟨k5,tY (.inl rfl) ⟨h1,by omega⟩,rfl,rfl,λh=>absurd h (show ¬((5:Int)=12∨(5:Int)=13)by decide),.inl rfl⟩
  ·exact⟨k9,iT,rfl,rfl,λh=>absurd h (show ¬((9:Int)=12∨(9:Int)=13)by decide),.inr (.inr (.inl rfl))⟩
 ·have h7:(Yo a pre).flatten.length≤(vS a).length:=by
   unfold vS;rw[hpm,qZ,List.flatten_append,List.length_append];omega
  omega
 ·rw[rd];simp only[List.length_append,List.length_singleton];omega
 ·rw[hrn,f5];intro x hx;have h6:=I4.g.C.ok.live x hx;have h7:=ns4 x hx;have h8:x.pod.st≠3:=λh3=>by
   have h9:=(I4.g.C.pod x hx).2.2.2.2.1 h3
   cases hr:x.pod.reqs with
   | nil=>exact h9 hr
   | cons q r=>have:=dr4 x hx h3 q (by rw[hr];simp);cases this
  omega
 ·rw[hrn,w5];omega
 ·rw[hrn,w5];by_cases h3:ln a3.gt wv = []
  ·rw[h3]at w4;rw[List.length_nil]at w4;omega
  ·have:=hRl hA hl h3;omega
 ·rw[hrn,t5];have h3:ln a3.gt wv = []:=List.length_eq_zero_iff.1 (by rw[hl]at hla;rw[List.length_nil]at hla;omega);exact z4' h3 q
def iB{a:zK}(h:a.ro=ftR){n d:Int}(hd:0≤d∧d≤999):bnd a (OS n Ya s_ d)=wv:=by
 unfold bnd;dsimp only;rw[h];have h1:((List.range 1000).all λd:Nat=>decide ((if(zr ftR Ya).isSome=false then s_ else if s_=s_ then rE (Od ftR Ya) (d:Int)else(DE (Od ftR Ya).tg s_).1)=wv))=true:=by decide +kernel
 have h2:=of_decide_eq_true (List.all_eq_true.1 h1 d.toNat (List.mem_range.2 (by omega)));have e:((d.toNat:Nat):Int)=d:=by omega
 rw[e]at h2;exact h2
def z2U{c:Cfg}{m:Nat}{a:zK}(I:FI c m a){n d B:Int}(hn:1≤n∧n≤2000)(hd:0≤d∧d≤999)(hB:∀q∈gK a,q<B)(hnB:B≤n)(hnow:0≤a.now) :
  FI c (m+1) (zE a (OS n Ya s_ d)).1∧(zE a (OS n Ya s_ d)).1.now=a.now∧(∀q∈gK (zE a (OS n Ya s_ d)).1,q<n+1):=by
 have hch:ZH (OS n Ya s_ d)=0:=iS (by decide +kernel) (.inl rfl) ⟨hn.1,by omega⟩ ⟨hd.1,by omega⟩;have hnew:zr a.gt.all n=none:=by
  cases h:zr a.gt.all n with
  | none=>rfl
  | some v=>
   have:=hB n (List.mem_map.2 ⟨_,yK h,rfl⟩);omega
 have hg:=z0x I.g hn hnew (now:=a.now) (by decide) (by rw[I.pat];omega);have ha:=io a.fl a.gt n wv a.now;have hf:(ki a.fl a.gt n wv a.now).1.room=a.fl.room∧(ki a.fl a.gt n wv a.now).1.l.length=a.fl.l.length∧(ki a.fl a.gt n wv a.now).2.1.pat=a.gt.pat:=by
  have t:=Al I.g.C.ok wv n;unfold ki
  repeat' split
  all_goals first | exact⟨rfl,rfl,rfl⟩ | exact⟨t.rm,t.ln,rfl⟩
 have hb:arG a (OS n Ya s_ d)=ki a.fl a.gt n wv a.now:=by unfold arG;rw[iB I.ro hd]
 obtain⟨xs,want,left,hby⟩:=I.by'
 have e:∃y:OZ,(YU a (OS n Ya s_ d)).1.by' = [(wv,y)]∧(YU a (OS n Ya s_ d)).1.fl=(ki a.fl a.gt n wv a.now).1∧(YU a (OS n Ya s_ d)).1.gt=(ki a.fl a.gt n wv a.now).2.1∧
   (YU a (OS n Ya s_ d)).1.bk=a.bk∧(YU a (OS n Ya s_ d)).1.ro=a.ro∧(YU a (OS n Ya s_ d)).1.sh=a.sh∧(YU a (OS n Ya s_ d)).1.now=a.now:=by
  unfold YU;rw[hb,iB I.ro hd,hby];split
  ·rename_i x _;exact⟨⟨x.xs,1,x.left⟩,by dsimp only;unfold zX;rw[if_pos rfl],rfl,rfl,rfl,rfl,rfl,rfl⟩
  ·exact⟨_,rfl,rfl,rfl,rfl,rfl,rfl,rfl⟩
 obtain⟨y,e1,e2,e3,e4,e5,e6,e7⟩:=e;rw[PY hch rfl];have hln:=I.len;refine⟨⟨by rw[e2,e3];exact hg,by rw[e4];exact I.bk,⟨y.xs,y.want,y.left,by rw[e1]⟩,by rw[e5];exact I.ro,by rw[e6];exact I.sh,by rw[e3,hf.2.2];exact I.pat,?_,by rw[e2,hf.1];exact I.rm,by rw[e2,hf.1,hf.2.1];exact I.fl,I.c0,I.ma⟩,e7,λq hq=>?_⟩
 ·rw[e3];rcases ha with h | ⟨x,h⟩
  ·rw[h];omega
  ·rw[h];have:=xg a.gt.all n x;omega
 ·unfold gK at hq;rw[e3]at hq;rcases ha with h | ⟨x,h⟩
  ·rw[h]at hq;have:=hB q hq;omega
  ·rw[h]at hq;obtain⟨p,hp,rfl⟩:=List.mem_map.1 hq;rcases Zp hp with rfl | hp
   ·dsimp only;omega
   ·have:=hB p.1 (List.mem_map.2 ⟨p,hp,rfl⟩);omega
def pW:∀{ids:List Int}{all:jO}{out:List yr},(∀q∈ids,(zr all q).isSome=true)→(jV ids all out).1.map (·.1)=all.map (·.1)
 | [],_,_,_=>rfl
 | x::ids,all,out,h=>by
  unfold jV;obtain⟨v,hv⟩:=Option.isSome_iff_exists.1 (h x (by simp));split
  ·exact(pW λq hq=>qw _ _ _ _ (h q (by simp[hq]))).trans (QR hv)
  ·exact pW λq hq=>h q (by simp[hq])
def z0B{c:Cfg}{m:Nat}{a:zK}(I:FI c m a){k id:Int}(hk:k=7∨k=8)(hid:1≤id∧id≤1000):FI c m (zE a (evN k id)).1∧(zE a (evN k id)).1.now=a.now∧gK (zE a (evN k id)).1=gK a:=by
 have hch:ZH (evN k id)=0:=tY (by omega) ⟨hid.1,by omega⟩;rw[mU hch (by rcases hk with rfl | rfl;exact .inl rfl;exact .inr rfl)]
 cases hf:Xd a.fl.l id with
 | none=>
  have e:Jt a.fl id=(a.fl,[],6):=by unfold Jt;rw[hf]
  unfold UJ;dsimp only;rw[e,if_pos (show(6:Int)≠0 by decide)];exact⟨I,rfl,rfl⟩
 | some x=>
  have hg:=iv I.g hf;obtain⟨hm,-⟩:=YS hf;have e:Jt a.fl id=({ a.fl with l:=YJ a.fl.l id λp=>(yk p).1 },x.pod.reqs,0):=by unfold Jt;rw[hf]
  have hkeys:(Oj a.gt x.pod.reqs).1.all.map (·.1)=a.gt.all.map (·.1):=pW λq hq=>by
   rw[(I.g.C.hold q).1 (by rw[xF I.g.C.ok.once hm hq];rfl)];rfl
  have hfl:=FL a.fl.l id λp=>(yk p).1;unfold UJ;dsimp only;rw[e]at hg ⊢;dsimp only at hg ⊢;rw[if_neg (show ¬(0:Int)≠0 by decide)];dsimp only;refine⟨⟨hg,I.bk,I.by',I.ro,I.sh,I.pat,?_,I.rm,?_,I.c0,I.ma⟩,rfl,hkeys⟩
  ·have:=congrArg List.length hkeys;rw[List.length_map,List.length_map]at this;have h:=I.len;dsimp only;omega
  ·have:=I.fl;dsimp only;omega
structure DJ(c:Cfg)(m:Nat)(K:List Int)(W0:Nat)(n0:Int)(j:Nat)(a:zK):Prop where
 I:FI c m a
 now:a.now=n0+j
 k:gK a=K
 R:1≤j→IK a.fl
 w:(ln a.gt wv).length+min W0 ((j-1)*(cc c).toNat)≤W0
 z:2≤j→W0≤(j-2)*(cc c).toNat→∀q,zr a.gt.all q≠some (wv,1)
def z0M{ks:Int→Bool}(hks:(ks 5&&ks 6&&ks 9&&ks 12&&ks 13)=true){c:Cfg}{m:Nat}{K:List Int}{W0:Nat}{n0:Int}{j k:Nat}{a:zK}(J:DJ c m K W0 n0 j a)(okS:SOk a)(inv:yI k a)(hk:k≤9000)(hn:n0+j+1<50)(hm:m≤33) :
  sI ks a∧a.sh.n<99∧DJ c m K W0 n0 (j+1) (rnd a)∧(∀s∈vS a,okL s)∧(vS a).length≤10000:=by
 obtain⟨I,hnow,hk2,hR,hw,hz⟩:=J;obtain⟨r1,r2,r3,r4,r5,r6,r7,r8,r9,r10⟩:=iA hks I inv okS hk (by rw[hnow];exact hn) hm;refine⟨r1,by rw[I.sh];decide,⟨r2,by rw[r3,hnow];omega,r6.trans hk2,λ_=>r7,?_,λh2 hW=>?_⟩,r4,r5⟩
 ·show(ln (rnd a).gt wv).length+min W0 (j*(cc c).toNat)≤W0
  cases j with
  | zero=>simp at hw ⊢;omega
  | succ j=>
   have e:(j+1)*(cc c).toNat=j*(cc c).toNat+(cc c).toNat:=by rw[Nat.add_mul,Nat.one_mul]
   have e2:(j+1-1)*(cc c).toNat=j*(cc c).toNat:=rfl;rw[e2]at hw;rw[e];generalize j*(cc c).toNat=t at *
   by_cases hl:ln a.gt wv = []
   ·rw[hl,List.length_nil]at r8;omega
   ·have:=r9 (hR (by omega)) hl;omega
 ·have hj:1≤j:=by omega
  have e:j+1-2=j-1:=by omega
  rw[e]at hW;refine r10 (List.length_eq_zero_iff.1 ?_);omega
def z36{c:Cfg}{m:Nat}{K:List Int}{W0:Nat}{n0:Int}{a:zK}(J:DJ c m K W0 n0 ((W0+(cc c).toNat-1)/(cc c).toNat+2) a):uz a.gt.all 2=0∧uz a.gt.all 1=0∧a.gt.all.length=K.length∧uz a.gt.all 3+uz a.gt.all 4=K.length:=by
 have hc:=J.I.c0;have hdiv:W0≤(W0+(cc c).toNat-1)/(cc c).toNat*(cc c).toNat:=by
  have hp:0<(cc c).toNat:=by omega
  have h1:=Nat.div_add_mod (W0+(cc c).toNat-1) (cc c).toNat;have h2:=Nat.mod_lt (W0+(cc c).toNat-1) hp;rw[Nat.mul_comm]at h1;generalize (W0+(cc c).toNat-1)%(cc c).toNat=u at *
  generalize (W0+(cc c).toNat-1)/(cc c).toNat*(cc c).toNat=t at *
  omega
 have hz:=J.z (Nat.le_add_left 2 _) (by simpa using hdiv);have hw:=J.w;have hl:ln a.gt wv = []:=by
  apply List.length_eq_zero_iff.1;have e:(W0+(cc c).toNat-1)/(cc c).toNat+2-1=(W0+(cc c).toNat-1)/(cc c).toNat+1:=rfl;rw[e,Nat.add_mul]at hw;generalize (W0+(cc c).toNat-1)/(cc c).toNat*(cc c).toNat=t at *
  omega
 have C:=J.I.g.C;have hst:∀p∈a.gt.all,p.2.2=3∨p.2.2=4:=λp hp=>by
  have hg:zr a.gt.all p.1=some p.2:=VL C.knd hp;rcases C.st p hp with h | h | h | h
  ·exfalso;have h1:=C.st1 p hp h;refine hz p.1 ?_;rw[hg];exact congrArg some (Prod.ext h1 h)
  ·exfalso;have h1:=C.st2 p hp h;have h2:=(C.line p.1).2 (by rw[hg];exact congrArg some (Prod.ext h1 h));have hl:zu a.gt.lines wv = []:=hl;rw[hl]at h2;cases h2
  ·exact .inl h
  ·exact .inr h
 have c1:∀q:Int,q≠3→q≠4→uz a.gt.all q=0:=λq h3 h4=>by
  unfold uz;rw[List.filter_eq_nil_iff.2,List.length_nil];intro p hp;rcases hst p hp with h | h<;>(rw[h];simp;omega)
 have c2:a.gt.all.length=K.length:=by
  have:=congrArg List.length J.k;rw[List.length_map]at this;exact this
 have c3:∀l:jO,(∀p∈l,p.2.2=3∨p.2.2=4)→uz l 3+uz l 4=l.length:=by
  intro l
  induction l with
  | nil=>intro _;rfl
  | cons p l ih=>
   intro h;have h1:=ih λx hx=>h x (by simp[hx]);unfold uz at h1 ⊢;rw[List.filter_cons,List.filter_cons,List.length_cons];rcases h p (by simp)with h2 | h2
   ·rw[h2,if_pos (by decide),if_neg (by decide),List.length_cons];omega
   ·rw[h2,if_neg (by decide),if_pos (by decide),List.length_cons];omega
 exact⟨c1 2 (by decide) (by decide),c1 1 (by decide) (by decide),c2,by rw[c3 _ hst,c2]⟩
def cG(r:Int)(n:Nat)(conc:Int):ze:=⟨r,n,(List.range n).map λi:Nat=>⟨(i:Int)+1,wv,⟨if i=0 then 2 else 1,conc,[]⟩⟩⟩
def foA(r:Int)(n:Nat)(want img conc mi max grace:Int):zK:=
 ⟨⟨[(QV,CA (og img conc mi max grace) 1 1 true)],[(Ya,⟨rtF,2,1,true⟩)],2⟩,⟨[(wv,rK wv 1 (og img conc mi max grace))],[(wv,true)]⟩,
  ftR,cG r n conc,⟨[],[(wv,[])],8,50⟩,[(wv,⟨[],want,0⟩)],0⟩
def foM(mi:Int):Nat:=if mi≤0 then 1 else mi.toNat
def foN(r mi:Int):Nat:=if r.toNat≤foM mi then r.toNat else foM mi
def z2S{r mi:Int}(hr:1≤r):(foN r mi:Int)≤r:=by
 unfold foN;split<;>omega
def tS{r:Int}{n:Nat}{conc:Int}{x:Zg}(h:x∈(cG r n conc).l):∃i:Nat,i<n∧x=⟨(i:Int)+1,wv,⟨if i=0 then 2 else 1,conc,[]⟩⟩:=by
 unfold cG at h;obtain⟨i,hi,rfl⟩:=List.mem_map.1 h;exact⟨i,List.mem_range.1 hi,rfl⟩
def z0z{r:Int}{n:Nat}{want img conc mi max grace:Int}(hr:1≤r∧r≤10)(hn:(n:Int)≤r)(hc:1≤conc)(hma:1≤max):FI (og img conc mi max grace) 0 (foA r n want img conc mi max grace):=by
 have hw:∀q,Zu (cG r n conc).l q=none:=λq=>by
  unfold Zu;rw[List.find?_eq_none];intro x hx;obtain⟨i,-,rfl⟩:=tS hx;simp
 have hL:∀k,zu [(wv,([]:List (Int×Int)))] k = []:=λk=>by
  unfold zu
  cases h:zr [(wv,([]:List (Int×Int)))] k with
  | none=>rfl
  | some v=>
   have:=yK h;rw[List.mem_singleton]at this
   cases this;rfl
 refine⟨⟨⟨⟨?_,?_,?_,?_,?_,?_,?_⟩,?_,List.nodup_nil,?_,(λp hp=>by cases hp),?_,(λp hp=>by cases hp),?_,(λp hp=>by cases hp),?_⟩,(λk _=>hL k),.inl (hL wv),(λp hp=>by cases hp)⟩,rfl,⟨_,_,_,rfl⟩,rfl,rfl,rfl,Nat.le_refl 0,?_,?_,hc,hma⟩
 ·show(cG r n conc).l.Pairwise _;unfold cG;dsimp only;rw[List.pairwise_map];refine List.Pairwise.imp (λ{a b} h=>?_) List.pairwise_lt_range;dsimp only;omega
 ·intro x hx;obtain⟨i,hi,rfl⟩:=tS hx;show 0<(i:Int)+1∧(i:Int)+1≤(n:Int);omega
 ·intro x hx;obtain⟨i,hi,rfl⟩:=tS hx;dsimp only;split
  ·exact .inr (.inl rfl)
  ·exact .inl rfl
 ·show(cG r n conc).l.Pairwise _;unfold cG;dsimp only;rw[List.pairwise_map];refine List.Pairwise.imp (λ{a b} h=>?_) List.pairwise_lt_range;intro q hq;cases hq
 ·show(cG r n conc).l.length<_;unfold cG;simp only[List.length_map,List.length_range];omega
 ·show(0:Int)≤(n:Int);omega
 ·show(n:Int)<_;omega
 ·intro x hx;obtain⟨i,hi,rfl⟩:=tS hx;refine⟨rfl,rfl,List.nodup_nil,by show(0:Int)≤conc;omega,?_,λ_=>rfl⟩;dsimp only;intro h;split at h<;>cases h
 ·intro q;show(Zu (cG r n conc).l q).isSome=true↔_;rw[hw q];exact⟨(λh=>by cases h),(λh=>by cases h)⟩
 ·intro q;show q∈(zu [(wv,([]:List (Int×Int)))] wv).map (·.1)↔_;rw[hL wv];exact⟨(λh=>by cases h),(λh=>by cases h)⟩
 ·show((zu [(wv,([]:List (Int×Int)))] wv).map (·.1)).Nodup;rw[hL wv];exact List.nodup_nil
 ·intro y hy;have hy:y∈zu [(wv,([]:List (Int×Int)))] wv:=hy;rw[hL wv]at hy;cases hy
 ·exact hr
 ·show((cG r n conc).l.length:Int)≤r;unfold cG;simp only[List.length_map,List.length_range];omega
structure FoL(c:Cfg)(m n:Nat)(B:Int)(a:zK):Prop where
 I:FI c m a
 now:0≤a.now∧a.now≤n
 gr:a.gt.room=8
 ids:∀q∈gK a,q<B
def FoL.mono{c:Cfg}{m n m' n':Nat}{B B':Int}{a:zK}(L:FoL c m n B a)(h1:m≤m')(h2:n≤n')(h3:B≤B'):FoL c m' n' B' a:=
 ⟨{ L.I with len:=Nat.le_trans L.I.len h1 },⟨L.now.1,by have:=L.now.2;omega⟩,L.gr,λq hq=>by have:=L.ids q hq;omega⟩
def ST{c:Cfg}{m n k:Nat}{B:Int}{a:zK}(L:FoL c m n B a)(inv:yI k a):FoL c m n B (zE a (xP 12 wv)).1:=by
 obtain⟨h1,-,h3,h4,-⟩:=bi L.I inv;exact⟨h1,by rw[h4];exact L.now,by rw[h3];exact L.gr,λq hq=>L.ids q (by unfold gK at hq ⊢;rw[h3]at hq;exact hq)⟩
def ip{c:Cfg}{m n k:Nat}{B:Int}{a:zK}(L:FoL c m n B a)(inv:yI k a)(hk:k≤9000):FoL c m n B (zE a (xP 13 wv)).1:=by
 have hl:=inv.fl.last;obtain⟨h1,h3,h4,-⟩:=AM L.I (by omega);exact⟨h1,by rw[h4];exact L.now,by rw[h3];exact L.gr,λq hq=>L.ids q (by unfold gK at hq ⊢;rw[h3]at hq;exact hq)⟩
def ir{c:Cfg}{m n:Nat}{B:Int}{a:zK}(L:FoL c m n B a){k id:Int}(hk:k=7∨k=8)(hid:1≤id∧id≤1000):FoL c m n B (zE a (evN k id)).1:=by
 obtain⟨h1,h2,h3⟩:=z0B L.I hk hid;refine⟨h1,by rw[h2];exact L.now,?_,λq hq=>L.ids q (by rw[h3]at hq;exact hq)⟩;have hch:ZH (evN k id)=0:=tY (by omega) ⟨hid.1,by omega⟩;rw[mU hch (by rcases hk with rfl | rfl;exact .inl rfl;exact .inr rfl)];unfold UJ;split
 ·exact L.gr
 ·exact L.gr
def z0w{c:Cfg}{m n:Nat}{B:Int}{a:zK}(L:FoL c m n B a){N d:Int}(hN:1≤N∧N≤2000)(hd:0≤d∧d≤999)(hB:B≤N):FoL c (m+1) n (N+1) (zE a (OS N Ya s_ d)).1:=by
 obtain⟨h1,h2,h3⟩:=z2U L.I hN hd L.ids hB L.now.1;refine⟨h1,by rw[h2];exact L.now,?_,h3⟩;have hch:ZH (OS N Ya s_ d)=0:=iS (by decide +kernel) (.inl rfl) ⟨hN.1,by omega⟩ ⟨hd.1,by omega⟩;rw[PY hch rfl];have e:(arG a (OS N Ya s_ d)).2.1.room=a.gt.room:=by
  unfold arG ki
  repeat' split
  all_goals rfl
 unfold YU;split<;>exact e.trans L.gr
def iq{c:Cfg}{m n:Nat}{B:Int}{a:zK}(L:FoL c m n B a)(ok:SOk a):(ln a.gt wv).length≤8:=by
 unfold ln zu
 cases h:zr a.gt.lines wv with
 | none=>decide
 | some l=>
  have:=ok.gt.ln (wv,l) (yK h);rw[L.gr]at this;exact Int.ofNat_le.1 this
def z5g{cc:Int}(h:1≤cc∧cc≤8){W:Nat}(hW:W≤8):rnP cc (W:Int)=(((W+cc.toNat-1)/cc.toNat+2:Nat):Int):=by
 have h1:cc=1∨cc=2∨cc=3∨cc=4∨cc=5∨cc=6∨cc=7∨cc=8:=by omega
 have h2:W=0∨W=1∨W=2∨W=3∨W=4∨W=5∨W=6∨W=7∨W=8:=by omega
 rcases h1 with rfl | rfl | rfl | rfl | rfl | rfl | rfl | rfl<;>(rcases h2 with rfl | rfl | rfl | rfl | rfl | rfl | rfl | rfl | rfl<;>decide +kernel)
def z0y{cc:Int}(h:1≤cc){W:Nat}(hW:W≤8):(W+cc.toNat-1)/cc.toNat+2≤10:=by
 have:(W+cc.toNat-1)/cc.toNat<W+1:=by
  rw[Nat.div_lt_iff_lt_mul (by omega),Nat.add_mul];have:W*1≤W*cc.toNat:=Nat.mul_le_mul_left W (by omega);omega
 omega
abbrev rtT:ARt:=⟨Ya,QV,[(wv,s_,(100:Int),())],0⟩
abbrev fe(b4:Nat)(c:Cfg):List AEv:=[evC 0 c,evR 0 rtT ⟨some ⟨b4,0,none⟩,1,1⟩,xP 10 QV,xP 13 wv,evN 6 1,xP 11 Ya]
def toA(r:Int)(n:Nat)(want img conc mi max grace:Int):zK:=
 { foA r n want img conc mi max grace with sh:=⟨[(QV,CA (og img conc mi max grace) 1 1 true)],[(Ya,⟨rtT,2,1,true⟩)],2⟩ }
abbrev toS(r img conc mi max grace:Int)(b4:Nat):Prop:=
  zF (z50 r 8 50 (og img conc mi max grace)) (fe b4 (og img conc mi max grace)).tail=toA r (foN r mi) (foM mi) img conc mi max grace
def IU(img conc max grace:Int)(b4:Nat){r mi:Int}(hr:1≤r∧r≤6)(hm:0≤mi∧mi≤10):toS r img conc mi max grace b4:=by
 rcases(show mi=0∨mi=1∨mi=2∨mi=3∨mi=4∨mi=5∨mi=6∨mi=7∨mi=8∨mi=9∨mi=10 by omega)with rfl | rfl | rfl | rfl | rfl | rfl | rfl | rfl | rfl | rfl | rfl
 all_goals rcases(show r=1∨r=2∨r=3∨r=4∨r=5∨r=6 by omega)with rfl | rfl | rfl | rfl | rfl | rfl
 all_goals (show zF _ _=toA _ _ _ _ _ _ _ _;kernel_rfl)
def EF(img conc max grace:Int)(b4:Nat){r mi:Int}(hr:1≤r∧r≤6)(hm:0≤mi∧mi≤10)(hc:XJ (og img conc mi max grace)=0) :
  zF (UP r 8 50) (fe b4 (og img conc mi max grace))=toA r (foN r mi) (foM mi) img conc mi max grace:=by
 have h1:=z6d (a:=UP r 8 50) (ver:=0) (c:=og img conc mi max grace) ⟨by decide,by decide⟩ hc (by rfl);have e:(zE (UP r 8 50) (evC 0 (og img conc mi max grace))).1=z50 r 8 50 (og img conc mi max grace):=by rw[h1];rfl
 show zF (UP r 8 50) (evC 0 (og img conc mi max grace)::(fe b4 (og img conc mi max grace)).tail)=_;rw[Un,e];exact IU img conc max grace b4 hr hm
def IV{r:Int}{n:Nat}{want img conc mi max grace:Int}(hr:1≤r∧r≤10)(hn:(n:Int)≤r)(hc:1≤conc)(hma:1≤max):FI (og img conc mi max grace) 0 (toA r n want img conc mi max grace):=by
 obtain⟨h1,h2,h3,h4,h5,h6,h7,h8,h9,h10,h11⟩:=z0z (want:=want) (img:=img) (mi:=mi) (grace:=grace) hr hn hc hma;exact⟨h1,h2,h3,h4,rfl,h6,h7,h8,h9,h10,h11⟩
def z0D{l:List Zg}{id:Int}(h:∀y∈l,y.id=id→y.pod.st≠1∧y.pod.st≠4):YJ l id (λp=>(Yl p).1)=l:=by
 unfold YJ
 induction l with
 | nil=>rfl
 | cons y l ih=>
  have ih:=ih λz hz=>h z (by simp[hz]);by_cases e:y.id=id
  ·obtain⟨h1,h2⟩:=h y (by simp) e;have hp:(Yl y.pod).1=y.pod:=by unfold Yl;rw[if_pos h1]
   rw[List.filterMap_cons_some (b:=y),ih];have h4:¬(Yl y.pod).1.st=4:=by rw[hp];exact h2
   refine(if_pos e).trans ((if_neg h4).trans ?_);simp only[hp]
  ·rw[List.filterMap_cons_some (b:=y),ih];rw[if_neg e]
def z2R{c:Cfg}{m n:Nat}{B:Int}{a:zK}(L:FoL c m n B a){id:Int}(hid:1≤id∧id≤1000):FoL c m n B (zE a (evN 6 id)).1:=by
 have hch:ZH (evN 6 id)=0:=tY (by omega) ⟨hid.1,by omega⟩;have same:∀e:Int,e≠0→jJ a.fl id=(a.fl,e)→FoL c m n B (zE a (evN 6 id)).1:=λe he hu=>by
  rw[Gq hch rfl];unfold gb;dsimp only;rw[hu,if_pos he];exact L
 cases hf:Xd a.fl.l id with
 | none=>exact same 6 (by decide) (by unfold jJ;rw[hf])
 | some x=>
  obtain⟨hm,hxi⟩:=YS hf;by_cases h1:x.pod.st=1
  ·subst hxi;obtain⟨I1,e1,-,-,-,-,e2⟩:=z2a L.I hm h1 ⟨hid.1,by omega⟩;refine⟨I1,by rw[e1];exact L.now,?_,λq hq=>L.ids q (by rw[e2]at hq;exact hq)⟩;rw[Gq hch rfl];have hg:(kc a (evN 6 x.id)).2.1.room=a.gt.room:=rfl;unfold gb;split
   ·exact L.gr
   ·exact hg.trans L.gr
  ·refine same 9 (by decide) ?_;unfold jJ;rw[hf];dsimp only;have hp:(Yl x.pod).2=9:=by unfold Yl;rw[if_pos h1]
   rw[hp,z0D λy hy hyi=>?_];have:y=x:=qm L.I.g.C.ok hy hm (hyi.trans hxi.symm);subst this;exact⟨h1,by have:=L.I.g.C.ok.live y hy;omega⟩
def z4V{w0:World}{E:List Seg}{b4 b5:Nat}{c:Cfg}{s:Seg}:∀e∈fe b4 c,uq w0 (s::evB b5 (fe b4 c)::[Cl b4 zG [.string wv,.string s_,I 100]]::E) 0 e:=by
 intro e he;simp only[fe,List.mem_cons,List.not_mem_nil,or_false]at he;rcases he with rfl | rfl | rfl | rfl | rfl | rfl
 ·exact uq.plain rfl rfl λh=>absurd h (show ¬((1:Int)=12∨(1:Int)=13)by decide)
 ·refine⟨?_,Nat.le_refl 1,(λh=>by cases h),(λt ht=>?_),λh=>absurd h (show ¬((2:Int)=12∨(2:Int)=13)by decide)⟩
  ·exact Rw.re od 1 rfl (Rw.lit b4 rtT.ts od rfl rfl (by decide))
  ·rw[List.mem_singleton]at ht;subst ht;exact .inr gp
 ·exact uq.plain rfl rfl λh=>absurd h (show ¬((10:Int)=12∨(10:Int)=13)by decide)
 ·exact uq.plain rfl rfl λ_=>gp
 ·exact uq.plain rfl rfl λh=>absurd h (show ¬((6:Int)=12∨(6:Int)=13)by decide)
 ·exact uq.plain rfl rfl λh=>absurd h (show ¬((11:Int)=12∨(11:Int)=13)by decide)
def z5S{ks:Int→Bool}(hks:(ks 1&&ks 2&&ks 10&&ks 13&&ks 6&&ks 11)=true){b4:Nat}{c:Cfg}(hc:XJ c=0):∀e∈fe b4 c,ks e.kind=true∧ZH e=0:=by
 simp only[Bool.and_eq_true]at hks;obtain⟨⟨⟨⟨⟨k1,k2⟩,k10⟩,k13⟩,k6⟩,k11⟩:=hks;intro e he;simp only[fe,List.mem_cons,List.not_mem_nil,or_false]at he;rcases he with rfl | rfl | rfl | rfl | rfl | rfl
 ·exact⟨k1,z2c ⟨by decide,by decide⟩ hc⟩
 ·exact⟨k2,z5r ⟨by decide,by decide⟩ (by decide +kernel)⟩
 ·exact⟨k10,by decide +kernel⟩
 ·exact⟨k13,by decide +kernel⟩
 ·exact⟨k6,by decide +kernel⟩
 ·exact⟨k11,by decide +kernel⟩
end Go.Proofs.YtimahgbgejngiaaGreatDoor
namespace Go.Proofs.YtimahgbgejngiaaGreatDoor
open Go.Dm
attribute [local irreducible] L.load L.store L.chk L.new L.nonnil L.guard L.ite L.draw L.idx L.sem L.semR L.semU L.chkSem L.next L.call L.callV L.join L.alts L.loop L.begin L.endRound L.range
variable {w0 w:World}{E:List Seg}
abbrev BU(k:Int):Bool:=k == 1||k == 2||k == 4||k == 5||k == 6||k == 7||k == 9||k == 10||k == 11||k == 12||k == 13
instance knTo [xi w0]:Kn w0 BU:=⟨by
 intro E w h i b a s hi hs e hks hb ev k0 inv hk0 hn k hk;have hc:e.kind=1∨e.kind=2∨e.kind=4∨e.kind=5∨e.kind=6∨e.kind=7∨e.kind=9∨e.kind=10∨e.kind=11∨e.kind=12∨e.kind=13:=by simpa [BU,or_assoc]using hks
 rcases hc with hc | hc | hc | hc | hc | hc | hc | hc | hc | hc | hc
 ·exact z5J h i hi hs hb hc ev inv hk0 hn hk
 ·exact z5I h i hi hs hb hc ev inv hk0 hn hk
 ·exact z5H h i hi hs hb hc ev inv hk0 hn hk
 ·exact z5G h i hi hs hb hc ev inv hk0 hn hk
 ·exact z5F h i hi hs hb hc ev inv hk0 hn hk
 ·exact z5E h i hi hs hb hc ev inv hk0 hn hk
 ·exact z5D h i hi hs hb hc ev inv hk0 hn hk
 ·exact z3G h i hi hs hb hc ev inv hk0 hn hk
 ·exact z3F h i hi hs hb hc ev inv hk0 hn hk
 ·exact z3E h i hi hs hb hc ev inv hk0 hn hk
 ·exact z3D h i hi hs hb hc ev inv hk0 hn hk⟩
set_option maxRecDepth 20000 in
def z0Z [xi w0](c:Cfg)(x1:Int)(p2:Sl){ls:List Int}(o:Old w0 eI p2 ls):Calls Pr Oh #[.agg (Cfg.cells c).toArray,I x1,SlV p2] w0 λe w'=>e = .returned (.bool true)∧St w0 [] w':=by
 refine z2N (args:=[.agg (Cfg.cells c).toArray,I x1,SlV p2]) (TF c x1 p2) ?_;unfold Ot;have h:=St.init w0;refine nw h ?_;clear h;intro b1 w h;refine aB (ks:=BU) rfl h λw h=>itF rfl ?_
 (refine laC h ?_)
 refine eY (c:=c) (n:=0) h λw h=>?_;have hcc:=z0m c 0;have hcn:(SC c 0).1=QV:=rfl;generalize SC c 0=d at *
 obtain⟨dn,img,conc,mi,max,grace,⟨⟩⟩:=d;simp only at hcn;subst hcn;have hnum:=(QH hcc).2;change (0≤img∧img≤255)∧(1≤conc∧conc≤8)∧(1≤max∧max≤10)∧(0≤mi∧mi≤max)∧(0≤grace∧grace≤30)at hnum;have hsp:XJ (og img conc mi max grace)=0:=hcc;refine nw h ?_;clear h;intro b5 w h
 (refine stC h ?_;clear h;intro w h;dsimp only[zJ,zd]at h)
 refine gF (by decide) (by decide) ?_;have er:Wi (1+x1%6)=1+x1%6:=wr (by omega) (by omega);rw[er];obtain⟨r,hr⟩:∃r,r=1+x1%6:=⟨_,rfl⟩;have hr10:1≤r∧r≤6:=by omega
 rw[←hr];clear er hr;have hnew:ne r 8 50=true:=by
  unfold ne wiB;simp only[Bool.and_eq_true,decide_eq_true_eq];omega
 refine Nb h (λhh=>by rw[hnew]at hh;cases hh) λ_ b s w hs h=>itF rfl (itF rfl ?_);have inv0:yI 0 (UP r 8 50):=lW hnew (by omega)
 (refine laC h ?_)
 refine nw h ?_;clear h;intro b9 w h;refine nw h ?_;clear h;intro b10 w h;have h:St w0 (evB b10 (fe b9 (og img conc mi max grace))::[Cl b9 zG [.string wv,.string s_,I 100]]::s::[Cl b5 zA (Cfg.cells (og img conc mi max grace))]::[Cl b1 zA (Cfg.cells c)]::[]) w:=h;have h:=ZL h;have ev:∀e∈fe b9 (og img conc mi max grace),∀s,uq w0 (s::evB b10 (fe b9 (og img conc mi max grace))::[Cl b9 zG [.string wv,.string s_,I 100]]::[Cl b5 zA (Cfg.cells (og img conc mi max grace))]::[Cl b1 zA (Cfg.cells c)]::[]) 0 e:=λe he s=>z4V e he;refine Bo (ks:=BU) (n:=6) (l:=fe b9 (og img conc mi max grace)) rfl (by decide) h hs (z5S rfl hsp) ev inv0 (by decide) (show(UP r 8 50).sh.n+((6:Nat):Int)<99 by show(0:Int)+6<99;decide) λs w hs inv h=>?_;rw[EF img conc max grace b9 hr10 ⟨hnum.2.2.2.1.1,Int.le_trans hnum.2.2.2.1.2 hnum.2.2.1.2⟩ hsp]at hs inv;have L0:FoL (og img conc mi max grace) 0 0 1 (toA r (foN r mi) (foM mi) img conc mi max grace):=⟨IV ⟨hr10.1,by omega⟩ (z2S hr10.1) hnum.2.1.1 hnum.2.2.1.1,⟨Int.le_refl 0,Int.le_refl 0⟩,rfl,λq hq=>by cases hq⟩;generalize toA r (foN r mi) (foM mi) img conc mi max grace=a0 at *
 clear inv0 ev hr10 hnew;have h:=Yf (Yf h);have hc1: @LE.le Int _ 1 conc∧@LE.le Int _ conc 8:=hnum.2.1;generalize hcq:og img conc mi max grace=cq at *
 have hcq2:cc cq=conc:=by rw[←hcq];rfl
 generalize hE0:[Cl b1 zA (Cfg.cells c)]::[]=E0 at *
 refine Zz (λ_ w=>∃(a:zK)(s:Seg),FoL cq 30 0 31 a∧yV b a s∧yI 72 a∧St w0 (s::[Cl b5 zA (Cfg.cells cq)]::E0) w) (λk16 hk16=>?_) ?_
 ·refine zT (λq y w=>∃(i:Nat)(a:zK)(s:Seg),y=((i:Int),())∧q+i=30∧FoL cq i 0 (i+1) a∧yV b a s∧yI (12+2*i) a∧St w0 (s::[Cl b5 zA (Cfg.cells cq)]::E0) w) 30 ⟨0,a0,s,rfl,rfl,L0,hs,inv,h⟩ ?_;clear hs inv L0 a0;clear h;rintro q y w ⟨i,a,s,rfl,hq,Lq,hs,inv,h⟩ again hag
  (try dsimp only)
  have done:k16 () w:=hk16 () w ⟨a,s,Lq.mono (by omega) (Nat.le_refl _) (by omega),hs,inv.mono (by omega),h⟩;refine it (λhb=>?_) (λ_=>done);refine it (λhb2=>?_) (λ_=>done);clear done;have hi:i<30:=by have:=of_decide_eq_true hb2;omega
  have hil:(i:Int)<p2.len:=by simpa using hb
  clear hb hb2;have hsh:a.sh.n<99:=by rw[Lq.I.sh];decide
  refine Zz (λ_ w=>∃(a:zK)(s:Seg),FoL cq (i+1) 0 ((i+1:Nat)+1) a∧yV b a s∧yI (12+2*(i+1)) a∧St w0 (s::[Cl b5 zA (Cfg.cells cq)]::E0) w) (λk20 hk20=>?_) ?_
  ·refine z5c o h (by omega) (by(try dsimp only);omega) λx hx=>?_;refine gd (by decide) ?_;refine z5c o h (by omega) (by(try dsimp only);omega) λx' hx'=>?_;rw[hx]at hx'
   cases hx'
   have ev:∀{e:AEv}{Lq':FoL cq (i+1) 0 ((i+1:Nat)+1) (zE a e).1},BU e.kind=true→ZH e=0→uq w0 (s::[Cl b5 zA (Cfg.cells cq)]::E0) 0 e→L.call Pr zl [pO b,evV e] (.one (.one .slice)) (λ_=>k20 ()) w:=λ{e}{Lq'} hk hb ev=>bN (ks:=BU) h 0 rfl hs hk hb ev inv (by omega) hsh λv sv s' w r hs inv h=>hk20 () w ⟨_,s',Lq',hs,inv,zm h⟩;refine gF (by decide) (by decide) ?_;refine it (λh0=>?_) (λh0=>?_)<;>(try simp only[zB]at h0)
   ·exact ev (e:=xP 12 wv) (Lq':=(ST Lq inv).mono (by omega) (by omega) (by omega)) rfl iU (uq.plain rfl rfl λ_=>gp)
   refine it (λh1=>?_) (λh1=>?_)<;>(try simp only[zB]at h1)
   ·exact ev (e:=xP 13 wv) (Lq':=(ip Lq inv (by omega)).mono (by omega) (by omega) (by omega)) rfl AQ (uq.plain rfl rfl λ_=>gp)
   refine it (λh2=>?_) (λh2=>?_)<;>(try simp only[zB]at h2)
   ·refine gF (by decide) (by decide) ?_;have e9:Wi (1+Wi (Int.tdiv x 6)%8)=1+Wi (Int.tdiv x 6)%8:=wr (by omega) (by omega);rw[e9];exact ev (e:=evN 7 (1+Wi (Int.tdiv x 6)%8)) (Lq':=(ir Lq (.inl rfl) (by omega)).mono (by omega) (by omega) (by omega)) rfl (tY (by decide) (by omega)) (uq.plain rfl rfl λh=>absurd h (show ¬((7:Int)=12∨(7:Int)=13)by decide))
   refine it (λh3=>?_) (λh3=>?_)<;>(try simp only[zB]at h3)
   ·refine gF (by decide) (by decide) ?_;have e9:Wi (1+Wi (Int.tdiv x 6)%12)=1+Wi (Int.tdiv x 6)%12:=wr (by omega) (by omega);rw[e9];exact ev (e:=evN 6 (1+Wi (Int.tdiv x 6)%12)) (Lq':=(z2R Lq (by omega)).mono (by omega) (by omega) (by omega)) rfl (tY (by decide) (by omega)) (uq.plain rfl rfl λh=>absurd h (show ¬((6:Int)=12∨(6:Int)=13)by decide))
   refine gF (by decide) (by decide) ?_;have e2:Wi ((i:Int)+1)=((i+1:Nat):Int):=by rw[wr (by omega) (by omega)];omega
   rw[e2];exact ev (e:=OS ((i+1:Nat):Int) Ya s_ (Wi (Int.tdiv x 6)%100)) (Lq':=(z0w Lq (N:=((i+1:Nat):Int)) ⟨by omega,by omega⟩ ⟨by omega,by omega⟩ (by omega)).mono (by omega) (by omega) (by omega)) rfl (iS (by decide +kernel) (.inl rfl) (by omega) (by omega)) (uq.plain rfl rfl λh=>absurd h (show ¬((4:Int)=12∨(4:Int)=13)by decide))
  clear hs inv Lq h;clear h;rintro-w ⟨a,s,L,hs,inv,h⟩
  (try dsimp only)
  refine hag (q-1) _ w (by omega) ⟨i+1,a,s,?_,by omega,L,hs,inv,h⟩;have e3:Wi ((i:Int)+1)=((i+1:Nat):Int):=by rw[wr (by omega) (by omega)];omega
  rw[e3]
 clear hs inv L0 h;clear h;rintro-w ⟨a,s,L,hs,inv,h⟩
 (try dsimp only)
 have hW:=iq L hs.ok;refine db h 0 rfl hs λv1 v2 s1 s2 s' w r1 r2 hs h=>?_;dsimp only[zd]at h;change Rw eI zx 1 v1 (VN a.gt wv) s1 at r1;have l1:v1.len=(ln a.gt wv).length:=(Rw.len Yy r1).trans (List.length_map ..);have h:=zm (zm h);clear r1 r2;obtain⟨W0,hW0⟩:∃W0,W0=(ln a.gt wv).length:=⟨_,rfl⟩;rw[←hW0]at l1 hW;rw[←hcq]at h
 (refine ldC h ?_)
 rw[l1];refine Eb (a:=conc) (b:=((W0:Nat):Int)) hc1.1 ?_;rw[z5g hc1 hW];have h10:=z0y hc1.1 hW;have hRe:(W0 + @Int.toNat conc-1) / @Int.toNat conc+2=(W0+(cc cq).toNat-1)/(cc cq).toNat+2:=by rw[hcq2]
 generalize (W0 + @Int.toNat conc-1) / @Int.toNat conc+2=R at *
 refine itF (by simp) (itF (by simp;omega) ?_);have J0:DJ cq 30 (gK a) W0 a.now 0 a:=⟨L.I,by omega,rfl,λh=>by omega,by rw[←hW0];simp,λh=>by omega⟩;have hnow:=L.now;refine Lw (ks:=BU) (n:=R) h hs (by omega) (λj a'=>DJ cq 30 (gK a) W0 a.now j a') okL J0 (λj a' k hj J ok inv hk=>z0M rfl J ok inv hk (by omega) (by decide)) inv (by omega) rfl λv3 s3 s4 w a' l r3 hQ hl J hs inv h=>?_;rw[hRe]at J;obtain⟨z1,z2,z3,z4⟩:=z36 J;refine bH h 1 rfl hs λs w hs h=>?_;have e4:(uz a'.gt.all 3:Int)+uz a'.gt.all 4=(a'.gt.all.length:Int):=by omega
 rw[z1,z2,e4];refine itT rfl (itT rfl ?_);exact⟨by simp,h.fin⟩
end Go.Proofs.YtimahgbgejngiaaGreatDoor
