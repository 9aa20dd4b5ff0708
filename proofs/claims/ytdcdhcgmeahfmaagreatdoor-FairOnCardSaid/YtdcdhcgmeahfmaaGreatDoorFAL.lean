/- What is proved on the way to a statement of the seat, pressed (text AL). No conditions beyond those its theorems state. -/
import Derived.Test.YtdcdhcgmeahfmaaGreatDoorFAK
import Derived.LaidSub
import Derived.LaidMore
import Derived.MakeChecks
set_option linter.all false
namespace Go.Dm
open Go.ChangeShapes Go.WideShapes Go.RowKit
inductive Sh where
 | nil
 | lf (l:Lf) (r:Sh)
 | sl (e:Sh) (r:Sh)
@[reducible] def Sh.T:Sh→Type
 | .nil=>Unit
 | .lf l r=>l.T×r.T
 | .sl e r=>(Sl×List e.T)×r.T
def Sh.len:Sh→Nat
 | .nil=>0
 | .lf _ r=>r.len+1
 | .sl _ r=>r.len+1
def Sh.cells:(s:Sh)→s.T→List Value
 | .nil,_=>[]
 | .lf l r,x=>l.val x.1::r.cells x.2
 | .sl _ r,x=>.slice x.1.1.a x.1.1.len x.1.1.cap::r.cells x.2
def z3u:(l:Lf)→l.T→Prop
 | .int k,n=>(Lit.int k n).wf=true
 | .str,s=>s.size≤maxLen
 | _,_=>True
def Sh.deep(w:World):(s:Sh)→s.T→Prop
 | .nil,_=>True
 | .lf l r,x=>z3u l x.1∧r.deep w x.2
 | .sl e r,x=>(Old w e.cells x.1.1 x.1.2∧x.1.1.len≤x.1.1.cap∧x.1.1.cap≤maxLen∧(x.1.1.a=none→x.1.1.cap=0)∧∀y∈x.1.2,e.deep w y)∧r.deep w x.2
def Sh.cells_len:∀(s:Sh)(x:s.T),(s.cells x).length=s.len
 | .nil,_=>rfl
 | .lf _ r,x=>by simp[Sh.cells,Sh.len,Sh.cells_len r]
 | .sl _ r,x=>by simp[Sh.cells,Sh.len,Sh.cells_len r]
def z0s:∀(l:Lf)(x:l.T),cI (l.val x)=true
 | .int _,_ | .bool,_ | .str,_ | .ptr,_ | .slice,_ | .map,_ | .func,_ | .adr,_=>rfl
 | .iface,none=>rfl
 | .iface,some _=>rfl
def Sh.cells_one:∀(s:Sh)(x:s.T),vm (s.cells x)=true
 | .nil,_=>rfl
 | .lf l r,x=>by simp[Sh.cells,vm,Sh.cells_one r,z0s]
 | .sl _ r,x=>by simp[Sh.cells,vm,Sh.cells_one r,cI]
def Sh.enc(s:Sh)(h:0<s.len):Enc s.cells s.len:=⟨s.cells_len,s.cells_one,h⟩
def tq(P:Program):List Field→Nat→Option Nat
 | [],n=>some n
 | f::fs,n=>cond (Nat.beq f.offset n) (tq P fs (n+P.cellsOf f.type)) none
def qu(P:Program):Nat→List TypeId→Option Sh
 | 0,_=>none
 | _+1,[]=>some .nil
 | n+1,t::ts=>match P.underlying t with
  | some (.int k)=>(qu P n ts).map (.lf (.int k))
  | some .bool=>(qu P n ts).map (.lf .bool)
  | some .string=>(qu P n ts).map (.lf .str)
  | some (.slice e)=>match qu P n [e],qu P n ts with
   | some a,some b=>cond (Nat.beq a.len (P.cellsOf e)) (cond (Nat.beq a.len 0) none (some (.sl a b))) none
   | _,_=>none
  | some (.struct fs)=>match tq P fs.toList 0 with
   | some m=>cond (Nat.beq m (P.cellsOf t)) (qu P n (fs.toList.map (·.type)++ts)) none
   | none=>none
  | _=>none
section
variable {H:Type}{enc:TypeId×Value→H}{P:Program}{w:World}
def lO{α β:Type}{f:α→Option β}:∀{l:List α}{r:List β},l.mapM f=some r→r.length=l.length∧∀(i:Nat) x,l[i]? = some x→∃y,r[i]? = some y∧f x=some y
 | [],r,h=>by simp at h;subst h;exact⟨rfl,λi x h=>by simp at h⟩
 | a::l,r,h=>by
  rw[List.mapM_cons]at h
  cases ha:f a with
  | none=>rw[ha]at h;cases h
  | some b=>
   rw[ha]at h
   cases hl:l.mapM f with
   | none=>rw[hl]at h;cases h
   | some r'=>
    rw[hl]at h
    cases h
    obtain⟨h1,h2⟩:=lO hl
    refine⟨by simp[h1],λi x hx=>?_⟩
    cases i with
    | zero=>simp at hx;subst hx;exact⟨b,rfl,ha⟩
    | succ i=>simpa using h2 i x (by simpa using hx)
abbrev Tr1(enc:TypeId×Value→H)(P:Program)(w:World)(t:TypeId)(c:List Value):Prop:=∃fuel x,DataW.trod enc P w 0 (λ_=>true) true fuel t c=some x
inductive Trs(enc:TypeId×Value→H)(P:Program)(w:World):List TypeId→List (List Value)→Prop
 | nil:Trs enc P w [] []
 | cons {t c ts cs}:Tr1 enc P w t c→Trs enc P w ts cs→Trs enc P w (t::ts) (c::cs)
def Trs.app{ts cs us ds}(h:Trs enc P w ts cs)(g:Trs enc P w us ds):Trs enc P w (ts++us) (cs++ds):=by
 induction h with
 | nil=>exact g
 | cons h1 _ ih=>exact .cons h1 ih
def CZ(P:Program)(cs:List Value):∀(fs:List Field)(n m:Nat),tq P fs n=some m→m≤cs.length→(fs.map λf=>(cs.drop f.offset).take (P.cellsOf f.type)).flatten=(cs.drop n).take (m-n)∧n≤m
 | [],n,m,h,_=>by simp[tq]at h;subst h;simp
 | f::fs,n,m,h,hm=>by
  simp only[tq]at h
  cases hb:Nat.beq f.offset n with
  | false=>rw[hb]at h;cases h
  | true=>
   rw[hb]at h
   have e:=Nat.eq_of_beq_eq_true hb
   obtain⟨h1,h2⟩:=CZ P cs fs _ m h hm
   refine⟨?_,by omega⟩
   simp only[List.map_cons,List.flatten_cons]
   rw[h1,e]
   have:m-n=P.cellsOf f.type+(m-(n+P.cellsOf f.type)):=by omega
   rw[this,List.take_add,List.drop_drop]
def gE:∀(n:Nat)(ts:List TypeId)(sh:Sh)(parts:List (List Value)),qu P n ts=some sh→Trs enc P w ts parts→∃x:sh.T,parts.flatten=sh.cells x∧sh.deep w x
 | 0,_,_,_,h,_=>by cases h
 | n+1,[],sh,parts,h,ht=>by
  cases ht
  cases h
  exact⟨(),rfl,trivial⟩
 | n+1,t::ts,sh,parts,h,ht=>by
  cases ht with
  | @cons _ c _ cs h1 h2=>
  obtain⟨fuel,x,hx⟩:=h1
  cases fuel with
  | zero=>cases hx
  | succ fuel=>
  simp only[qu]at h
  unfold DataW.trod at hx
  cases hu:P.underlying t with
  | none=>rw[hu]at h;cases h
  | some d=>
   rw[hu]at h hx
   cases d with
   | int k=>
    simp only at h
    cases hr:qu P n ts with
    | none=>rw[hr]at h;cases h
    | some r=>
     rw[hr]at h;cases h
     obtain⟨y,e1,e2⟩:=gE n ts r cs hr h2
     split at hx<;>try (cases hx;done)
     all_goals (try (rename_i heq;cases heq;done))
     rename_i heq;cases heq
     split at hx<;>try (cases hx;done)
     rename_i hk
     obtain⟨rfl,hw⟩:=hk
     refine⟨(_,y),?_,hw,e2⟩
     simp only[List.flatten_cons,e1];rfl
   | bool=>
    simp only at h
    cases hr:qu P n ts with
    | none=>rw[hr]at h;cases h
    | some r=>
     rw[hr]at h;cases h
     obtain⟨y,e1,e2⟩:=gE n ts r cs hr h2
     split at hx<;>try (cases hx;done)
     all_goals (try (rename_i heq;cases heq;done))
     rename_i b heq;cases heq
     refine⟨(b,y),?_,⟨trivial,e2⟩⟩
     simp only[List.flatten_cons,e1];rfl
   | string=>
    simp only at h
    cases hr:qu P n ts with
    | none=>rw[hr]at h;cases h
    | some r=>
     rw[hr]at h;cases h
     obtain⟨y,e1,e2⟩:=gE n ts r cs hr h2
     split at hx<;>try (cases hx;done)
     all_goals (try (rename_i heq;cases heq;done))
     rename_i heq;cases heq
     split at hx<;>try (cases hx;done)
     rename_i hk
     refine⟨(_,y),?_,hk,e2⟩
     simp only[List.flatten_cons,e1];rfl
   | slice e=>
    simp only at h
    cases he:qu P n [e] with
    | none=>rw[he]at h;cases h
    | some a=>
     cases hr:qu P n ts with
     | none=>rw[he,hr]at h;cases h
     | some r=>
      rw[he,hr]at h
      simp only at h
      cases hb:Nat.beq a.len (P.cellsOf e) with
      | false=>rw[hb]at h;cases h
      | true=>
      cases hb0:Nat.beq a.len 0 with
      | true=>rw[hb,hb0]at h;cases h
      | false=>
      rw[hb,hb0]at h;cases h
      have hlen:=Nat.eq_of_beq_eq_true hb
      have hpos:0<a.len:=by
       rcases Nat.eq_zero_or_pos a.len with h | h
       ·rw[h]at hb0;cases hb0
       ·exact h
      obtain⟨y,e1,e2⟩:=gE n ts r cs hr h2
      split at hx<;>try (cases hx;done)
      all_goals (try (rename_i heq;cases heq;done))
      ·rename_i hh;cases hh
       refine⟨((⟨none,0,0⟩,[]),y),?_,⟨⟨⟨rfl,λj u hj=>by simp[fl,nth]at hj⟩⟩,Nat.le_refl _,by simp[maxLen],λ_=>rfl,by simp⟩,e2⟩
       simp only[List.flatten_cons,e1];rfl
      ·rename_i a0 len cap hh;cases hh
       dsimp only at hx
       split at hx<;>try (cases hx;done)
       rename_i hc
       cases hm:(List.range len).mapM (λi=>(w.cells? 0 (a0.add (i*P.cellsOf e)) (P.cellsOf e)).bind (DataW.trod enc P w 0 (λ_=>true) true fuel e)) with
       | none=>rw[hm]at hx;cases hx
       | some els=>
        obtain⟨hl1,hl2⟩:=lO hm
        have each:∀i,i<len→∃z:a.T,a.deep w z∧w.cells? 0 (a0.add (i*P.cellsOf e)) (P.cellsOf e)=some (a.cells z):=by
         intro i hi
         obtain⟨q,-,hq⟩:=hl2 i i (by simp[hi])
         cases hcc:w.cells? 0 (a0.add (i*P.cellsOf e)) (P.cellsOf e) with
         | none=>rw[hcc]at hq;cases hq
         | some ci=>
          rw[hcc]at hq
          obtain⟨z,ez,dz⟩:=gE n [e] a [ci] he (.cons ⟨fuel,q,hq⟩ .nil)
          simp only[List.flatten_cons,List.flatten_nil,List.append_nil]at ez
          exact⟨z,dz,by rw[ez]⟩
        have all:∀m,m≤len→∃zs:List a.T,zs.length=m∧∀i z,zs[i]? = some z→a.deep w z∧w.cells? 0 (a0.add (i*P.cellsOf e)) (P.cellsOf e)=some (a.cells z):=by
         intro m
         induction m with
         | zero=>intro _;exact⟨[],rfl,λi z h=>by simp at h⟩
         | succ m ih=>
          intro hm
          obtain⟨zs,hz1,hz2⟩:=ih (by omega)
          obtain⟨z,d1,d2⟩:=each m (by omega)
          refine⟨zs++[z],by simp[hz1],λi u hu=>?_⟩
          rcases Nat.lt_or_ge i zs.length with h | h
          ·rw[List.getElem?_append_left h]at hu;exact hz2 i u hu
          ·rw[List.getElem?_append_right h]at hu
           have:i-zs.length=0:=by
            rcases Nat.eq_zero_or_pos (i-zs.length)with h | h
            ·exact h
            ·rw[List.getElem?_eq_none (by simp;omega)]at hu;cases hu
           rw[this]at hu;simp at hu;subst hu
           have:i=m:=by omega
           subst this;exact⟨d1,d2⟩
        obtain⟨zs,hz1,hz2⟩:=all len (Nat.le_refl _)
        refine⟨((⟨some a0,len,cap⟩,zs),y),?_,⟨⟨⟨hz1.symm,λj u hj=>⟨a0,rfl,?_⟩⟩⟩,hc.2.1,hc.2.2,(λh=>by cases h),λz hz=>?_⟩,e2⟩
        ·simp only[List.flatten_cons,e1];rfl
        ·have hE:=a.enc hpos
         have hjl:=tr hj
         rw[qT hE]at hjl
         have hi:j/a.len<zs.length:=Nat.div_lt_of_lt_mul (by rw[Nat.mul_comm];exact hjl)
         have hz:=List.getElem?_eq_getElem hi
         have e0:j=j/a.len*a.len+j%a.len:=by rw[Nat.mul_comm];exact(Nat.div_add_mod j a.len).symm
         have hm:=Nat.mod_lt j hpos
         obtain⟨-,hcz⟩:=hz2 _ _ hz
         obtain⟨-,hl3,hl4⟩:=World.cells?_some hcz
         have hlx:j%a.len<(a.cells zs[j/a.len]).length:=by rw[a.cells_len];exact hm
         have h2:=oR hE (l:=zs) (i:=j/a.len) (f:=j%a.len) (u:=(a.cells zs[j/a.len])[j%a.len]) hz (by rw[zQ];exact List.getElem?_eq_getElem hlx)
         rw[←e0,hj]at h2
         have h5:=hl4 (j%a.len) (by rw[←hlen];exact hm)
         rw[JB,←hlen,←e0,List.getElem?_eq_getElem hlx]at h5
         rw[h5,h2]
        ·obtain⟨i,hi,rfl⟩:=List.getElem_of_mem hz
         exact(hz2 i _ (List.getElem?_eq_getElem hi)).1
   | struct fs=>
    simp only at h
    cases ho:tq P fs.toList 0 with
    | none=>rw[ho]at h;cases h
    | some m=>
     rw[ho]at h
     simp only at h
     cases hb:Nat.beq m (P.cellsOf t) with
     | false=>rw[hb]at h;cases h
     | true=>
     rw[hb]at h
     have hm:=Nat.eq_of_beq_eq_true hb
     simp only at hx
     split at hx<;>try (cases hx;done)
     rename_i hcl
     cases hq:fs.toList.mapM (λf=>DataW.trod enc P w 0 (λ_=>true) true fuel f.type ((c.drop f.offset).take (P.cellsOf f.type))) with
     | none=>rw[hq]at hx;cases hx
     | some qs=>
      have key:∀(fl:List Field) qs,fl.mapM (λf=>DataW.trod enc P w 0 (λ_=>true) true fuel f.type ((c.drop f.offset).take (P.cellsOf f.type)))=some qs→Trs enc P w (fl.map (·.type)) (fl.map λf=>(c.drop f.offset).take (P.cellsOf f.type)):=by
       intro fl
       induction fl with
       | nil=>intro _ _;exact .nil
       | cons f fl ih=>
        intro qs hq
        rw[List.mapM_cons]at hq
        cases ha:DataW.trod enc P w 0 (λ_=>true) true fuel f.type ((c.drop f.offset).take (P.cellsOf f.type)) with
        | none=>rw[ha]at hq;cases hq
        | some b=>
         rw[ha]at hq
         cases hl:fl.mapM (λf=>DataW.trod enc P w 0 (λ_=>true) true fuel f.type ((c.drop f.offset).take (P.cellsOf f.type))) with
         | none=>rw[hl]at hq;cases hq
         | some r=>exact .cons ⟨fuel,b,ha⟩ (ih r hl)
      obtain⟨y,e1,e2⟩:=gE n _ sh _ h ((key _ _ hq).app h2)
      refine⟨y,?_,e2⟩
      rw[←e1]
      obtain⟨h3,-⟩:=CZ P c fs.toList 0 m ho (by omega)
      simp only[List.flatten_cons,List.flatten_append]
      rw[h3]
      congr 1
      simp[hm,←hcl]
   | _=>cases h
end
end Go.Dm
namespace Go.Dm
open Go.ChangeShapes Go.WideShapes Go.RowKit
section
variable {H:Type}{enc:TypeId×Value→H}{P:Program}{W:World}
def RP{t:TypeId}{fs:Array Field}{r:Reach}{b0 n:Nat}{v:Value}{d:DataW H}{ps:List MemPlace}{a:Sh}(ht:P.underlying t=some (.struct fs))(hsh:qu P n [t]=some a)
  (hval:Value.okWide P W r b0 t v) (hd:DataW.Trod enc P W 0 (λ_=>true) true t v d ps) :
  ∃x:a.T,v = .agg (a.cells x).toArray∧a.deep W x:=by
 obtain⟨fuel,hf⟩:=hd
 obtain⟨x,h1,h2⟩:=gE (H:=H) (enc:=enc) n [t] _ [_] hsh (.cons ⟨fuel,_,hf⟩ .nil)
 unfold Value.okWide at hval
 rw[ht]at hval
 obtain⟨cs,rfl,-,-⟩:=hval
 simp only[List.flatten_cons,List.flatten_nil,List.append_nil,Value.cells]at h1
 refine⟨x,?_,h2⟩
 rw[←h1]
end
end Go.Dm

namespace Go.Dm
def z2p(P:Program)(name:String)(k:IntKind):Bool:=match P.globalNamed name with
 | none=>false
 | some g=>match (P.globals[g]?).map (·.type) with
  | none=>false
  | some t=>match P.underlying t with
   | some (.array n e)=>(match P.underlying e with
    | some (.int k')=>decide (k'=k)
    | _=>false)&&(P.cellsOf e == 1)&&(P.cellsOf t == n)
   | _=>false
def z04{P:Program}{W:World}{name:String}{k:IntKind}{zs:List Int}(hb:z2p P name k=true){l:List (String×DataW Unit)}(hp:(l.all λx=>x.2.handleName?.isNone)=true)
  (hf:(l.filter λx=>x.1 == name) = [(name,Lib.tabData k zs)]) (h:laidMetH P l W):Lib.TabIs P W name k zs:=by
 rw[MakeChecks.laidMetH_plain P l W hp]at h
 have h2:=h.filter λx=>x.1 == name
 rw[hf]at h2
 unfold z2p at hb
 split at hb
 ·cases hb
 ·rename_i g hg
  split at hb
  ·cases hb
  ·rename_i t ht
   split at hb
   ·rename_i n e he
    simp only[Bool.and_eq_true,beq_iff_eq]at hb
    obtain⟨⟨hb,hce⟩,hct⟩:=hb
    split at hb
    ·rename_i k' hk
     have hb:k'=k:=by simpa using hb
     subst hb
     exact Lib.tabIs_of_head hg ht he hk hce hct h2
    ·cases hb
   ·cases hb
end Go.Dm
namespace Go.Proofs.YtdcdhcgmeahfmaaGreatDoor
open Go.Dm
attribute [local irreducible] L.load L.store L.chk L.new L.nonnil L.guard L.ite L.draw L.idx L.sem L.semR L.semU L.chkSem L.next L.call L.callV L.join L.alts L.loop L.begin L.endRound L.range
variable {w0 w:World}{E:List Seg}
abbrev Kz(img conc min max grace:Int):Cfg:=(uO,img,conc,min,max,grace,())
abbrev rtF:ARt:=⟨yS,uO,[(s_,s_,(100:Int),())],0⟩
abbrev Vx(b4:Nat)(c:Cfg):List AEv:=[evC 0 c,evR 0 rtF ⟨some ⟨b4,0,none⟩,1,1⟩,xG 10 uO,xG 13 gA,evN 6 1,xG 11 yS]
def z3F{a:zK}{ver:Int}{c:Cfg}(hv:0≤ver∧ver≤2147483647)(hc:Xw c=0)(hm:MI (JM a.sh.m c.1) ver true=0) :
  zG a (evC ver c)=({ a with sh:=⟨lb a.sh.m c.1 c (a.sh.n+1),a.sh.r,a.sh.n+1⟩ },[Zv (Zv CR [c.1]) [jo (a.sh.n+1).toNat]]):=by
 rw[Cp (IP hv hc) rfl]
 unfold ve
 dsimp only
 rw[z0c hc hm]
 dsimp only
 unfold Ss
 rw[if_pos rfl]
abbrev z2u(room line pat:Int)(c:Cfg):zK:={ vq room line pat with sh:=⟨[(uO,CC c 1 1 true)],[],1⟩ }
def z0a{b4 b5:Nat}{c:Cfg}{s:Seg}:∀e∈Vx b4 c,UL w0 (s::evB b5 (Vx b4 c)::[Cl b4 zH [.string s_,.string s_,I 100]]::E) 0 e:=by
 intro e he
 simp only[Vx,List.mem_cons,List.not_mem_nil,or_false]at he
 rcases he with rfl | rfl | rfl | rfl | rfl | rfl
 ·exact UL.plain rfl rfl λh=>absurd h (show ¬((1:Int)=12∨(1:Int)=13)by decide)
 ·refine⟨?_,Nat.le_refl 1,(λh=>by cases h),(λt ht=>?_),λh=>absurd h (show ¬((2:Int)=12∨(2:Int)=13)by decide)⟩
  ·exact Rw.re Kw 1 rfl (Rw.lit b4 rtF.ts Kw rfl rfl (by decide))
  ·rw[List.mem_singleton]at ht
   subst ht
   exact .inl rfl
 ·exact UL.plain rfl rfl λh=>absurd h (show ¬((10:Int)=12∨(10:Int)=13)by decide)
 ·exact UL.plain rfl rfl λ_=>fC
 ·exact UL.plain rfl rfl λh=>absurd h (show ¬((6:Int)=12∨(6:Int)=13)by decide)
 ·exact UL.plain rfl rfl λh=>absurd h (show ¬((11:Int)=12∨(11:Int)=13)by decide)
def z2t{ks:Int→Bool}(hks:(ks 1&&ks 2&&ks 10&&ks 13&&ks 6&&ks 11)=true){b4:Nat}{c:Cfg}(hc:Xw c=0):∀e∈Vx b4 c,ks e.kind=true∧Zy e=0:=by
 simp only[Bool.and_eq_true]at hks
 obtain⟨⟨⟨⟨⟨k1,k2⟩,k10⟩,k13⟩,k6⟩,k11⟩:=hks
 intro e he
 simp only[Vx,List.mem_cons,List.not_mem_nil,or_false]at he
 rcases he with rfl | rfl | rfl | rfl | rfl | rfl
 ·exact⟨k1,IP ⟨by decide,by decide⟩ hc⟩
 ·exact⟨k2,z2T ⟨by decide,by decide⟩ (by decide +kernel)⟩
 ·exact⟨k10,by decide +kernel⟩
 ·exact⟨k13,by decide +kernel⟩
 ·exact⟨k6,by decide +kernel⟩
 ·exact⟨k11,by decide +kernel⟩
def cr(h:St w0 E w)(i:Nat){b:Nat}{a:zK}{s:Seg}(hi:nth E i=some s)(hs:yN b a s){rev:B0}{k:Sl×Sl×Unit→PT}
  (hk:∀v1 v2 s1 s2 s' w',Rw eI zu 1 v1 (Vi a.gt rev) s1→Rw eI zu 1 v2 (jy a.gt.all rev) s2→yN b a s'→St w0 (s1::s2::zd E i s') w'→k (v1,v2,()) w') :
  L.call Pr Ju [pO b,.string rev] (.tup [.one .slice,.one .slice]) k w:=by
 obtain⟨p,sg,sf,ss,sk,sr,sm,Q,R,rfl⟩:=hs
 refine za (Gc _ _) ?_
 unfold UG
 have h:=(h.front i hi).split8
 (refine nn ?_;refine ldC h ?_)
 have h:=Yb h
 refine NQ h R.gt λv1 v2 s1 s2 sg' w r1 r2 hG h=>?_
 refine⟨(v1,v2,()),rfl,hk v1 v2 s1 s2 _ w r1 r2 ⟨p,sg',sf,ss,sk,sr,sm,Q,⟨hG,R.fl,R.sh,R.bk,R.ro,R.mp,R.ea,R.ab⟩,rfl⟩ ?_⟩
 have h:=UQ (Jk (UQ (UQ (UQ (UQ (UQ (UQ (Yb (Yb h)))))))))
 exact St.back (E:=s1::s2::E) (i+2) hi h.glue8
def ct(h:St w0 E w)(i:Nat){b:Nat}{a:zK}{s:Seg}(hi:nth E i=some s)(hs:yN b a s){k:Int×Int×Int×Int×Unit→PT}
  (hk:∀s' w',yN b a s'→St w0 (zd E i s') w'→k ((a.gt.all.length:Int),(QV a.gt.all 2:Int),(QV a.gt.all 1:Int),(QV a.gt.all 3:Int)+QV a.gt.all 4,()) w') :
  L.call Pr Jv [pO b] (.tup [.one (.int .i64),.one (.int .i64),.one (.int .i64),.one (.int .i64)]) k w:=by
 obtain⟨p,sg,sf,ss,sk,sr,sm,Q,R,rfl⟩:=hs
 refine za (Gd _) ?_
 unfold UH
 have h:=(h.front i hi).split8
 (refine nn ?_;refine ldC h ?_)
 have h:=Yb h
 refine AP h R.gt λsg' w hG h=>?_
 refine⟨(_,_,_,_,()),rfl,hk _ w ⟨p,sg',sf,ss,sk,sr,sm,Q,⟨hG,R.fl,R.sh,R.bk,R.ro,R.mp,R.ea,R.ab⟩,rfl⟩ ?_⟩
 have h:=Yb h
 exact St.back i hi h.glue8
def Bi{B:Int}(hB:0≤B):∀{l:List Int},(∀x∈l,0≤x∧x≤B)→0≤oj l∧oj l≤B*l.length
 | [],_=>by simp[oj]
 | x::l,h=>by
  have h1:=h x (by simp)
  have h2:=Bi hB (l:=l) λy hy=>h y (by simp[hy])
  have e:oj (x::l)=x+oj l:=by simp[oj]
  rw[e,List.length_cons]
  have e2:B*((l.length+1:Nat):Int)=B*l.length+B:=by push_cast;rw[Int.mul_add];omega
  rw[e2]
  omega
abbrev wv:B0:=gA
abbrev ftR:oi:=[(yS,⟨[(wv,(100:Int),())],[(wv,(100:Int),())],0,0,[(wv,(100:Int),())],[]⟩)]
structure ScI(c:Cfg)(xs:List Int)(want left:Int)(a:zK):Prop where
 bk:a.bk.all = [(wv,WT wv 1 c)]
 by':a.by' = [(wv,⟨xs,want,left⟩)]
 ro:a.ro=ftR
 sh:a.sh.n=2
abbrev lnW(a:zK):List (Int×Int):=zp a.gt.lines wv
def xD(ls:List (B0×List (Int×Int)))(rev:B0)(l:List (Int×Int)):zp (zX ls rev l) rev=l:=by
 unfold zp
 rw[ZY,if_pos rfl];rfl
abbrev gK(a:zK):List Int:=a.gt.all.map (·.1)
def MQ{rev:B0}:∀{l:List (Int×Int)}{F:ze}{all:jD}{out:List yo},(∀y∈l,(zm all y.1).isSome=true)→(yr rev l F all out).2.1.map (·.1)=all.map (·.1)
 | [],_,_,_,_=>rfl
 | x::l,F,all,out,h=>by
  unfold yr
  split
  ·obtain⟨v,hv⟩:=Option.isSome_iff_exists.1 (h x (by simp))
   exact(MQ (l:=l) λy hy=>qe _ _ _ _ (h y (by simp[hy]))).trans (Qy hv)
  ·rfl
def tG{ls:List (B0×List (Int×Int))}{rev r:B0}{l:List (Int×Int)}(h:r≠rev):zp (zX ls rev l) r=zp ls r:=by
 unfold zp
 rw[ZY,if_neg (λe=>h e.symm)]
structure ScE(a b:zK):Prop where
 keys:gK b=gK a
 nil:lnW a = []→lnW b = []
def ScE.refl(a:zK):ScE a a:=⟨rfl,id⟩
def ScE.trans{a b c:zK}(h:ScE a b)(g:ScE b c):ScE a c:=⟨g.keys.trans h.keys,λe=>g.nil (h.nil e)⟩
structure ScK(n:Nat)(a:zK):Prop where
 len:(gK a).length≤n
 ids:∀q∈gK a,1≤q∧q≤n
def eO(F:ze)(G:Ze)(id:Int)(rev:B0)(now:Int):(VB F G id rev now).2.1.all=G.all∨∃x,(VB F G id rev now).2.1.all=zX G.all id x:=by
 unfold VB
 split
 ·exact .inl rfl
 split
 ·exact .inr ⟨_,rfl⟩
 split
 ·exact .inr ⟨_,rfl⟩
 split
 ·exact .inr ⟨_,rfl⟩
 ·exact .inr ⟨_,rfl⟩
def sq(a:zK)(rev:B0):(jy a.gt.all rev).length≤(gK a).length:=by
 unfold jy gK
 rw[kW,List.length_map,List.length_map]
 exact List.length_filter_le ..
def su{k:Nat}{a:zK}(inv:yI k a)(ok:a.gt.Ok)(rev:B0):(Vi a.gt rev).length≤8:=by
 unfold Vi
 rw[List.length_map]
 have h1:=Jj ok rev
 have h2:=inv.gt.room.2
 omega
def Hx{w2 r mi ma:Int}(h2:TO w2 r mi ma=0)(hma:1≤ma):w2≤0:=by
 unfold TO at h2
 have hm:1≤scM r:=by unfold scM;split<;>omega
 generalize scM r=m at *
 unfold mn2 mx2 at h2
 repeat' split at h2
 all_goals omega
def Hw{want l a b:Int}(hw:0≤want)(ha:0≤a):0≤WR want l a b:=by
 unfold WR mx2
 repeat' split
 all_goals omega
def ao{s n c:Int}(hs:0≤s):0≤js s n c:=by
 unfold js
 split
 ·omega
 split
 ·omega
 ·have h:0<n*c:=Int.mul_pos (by omega) (by omega)
  exact Int.ediv_nonneg (by omega) (by omega)
def Hy{want left:Int}{c:Cfg}{ready busy st sts sh shs idle:Int}(hma:1≤@id Int c.2.2.2.2.1)(hw:0≤want)(hst:0≤st)(h:(TP want left c ready busy st sts sh shs idle).1=0):busy≤0:=by
 unfold TP at h
 dsimp only at h
 have h1:=Hx h hma
 have h2:=Hw (l:=vi left (js sh shs c.2.2.1) (scM ready)) (b:=js sh shs c.2.2.1) hw (ao (n:=sts) (c:=c.2.2.1) hst)
 generalize WR want (vi left (js sh shs c.2.2.1) (scM ready)) (js st sts c.2.2.1) (js sh shs c.2.2.1)=w1 at *
 unfold al at h1
 by_cases hh:busy>0
 ·split at h1
  ·omega
  ·rename_i hn
   exact absurd ⟨by omega,.inl hh⟩ hn
 ·omega
structure DnI(m n:Nat)(a:zK):Prop where
 len:a.gt.all.length=m
 num:(jy a.gt.all wv).length=n
 wh:∀p∈a.gt.all,p.2=(wv,(1:Int))→(Zw a.fl.l p.1).isSome=true
 st:∀p∈a.gt.all,(p.2=(wv,(1:Int))∨p.2=(wv,(3:Int)))∧1≤p.1∧p.1≤100
 rv:∀x∈a.fl.l,x.rev=wv∧x.pod.reqs.Nodup
 nil:lnW a = []
 sh:a.sh.n≤4
end Go.Proofs.YtdcdhcgmeahfmaaGreatDoor
namespace Go.Proofs.YtdcdhcgmeahfmaaGreatDoor
open Go.Dm
structure FoC(rv:B0)(c:Int)(F:ze)(all:jD)(l:List (Int×Int)):Prop where
 ok:F.Ok
 pod:∀x∈F.l,x.rev=rv∧x.pod.conc=c∧x.pod.reqs.Nodup∧(x.pod.reqs.length:Int)≤c∧(x.pod.st=3→x.pod.reqs≠[])∧(x.pod.st=1→x.pod.reqs = [])
 knd:(all.map (·.1)).Nodup
 hold:∀q,(Zw F.l q).isSome=true↔zm all q=some (rv,1)
 st1:∀p∈all,p.2.2=1→p.2.1=rv
 line:∀q,q∈l.map (·.1)↔zm all q=some (rv,2)
 st2:∀p∈all,p.2.2=2→p.2.1=rv
 lnd:(l.map (·.1)).Nodup
 st:∀p∈all,p.2.2=1∨p.2.2=2∨p.2.2=3∨p.2.2=4
 dl:∀y∈l,50≤y.2
def Sat(c:Int)(F:ze)(l:List (Int×Int)):Prop:=l = []∨∀x∈F.l,x.pod.st=2→c≤(x.pod.reqs.length:Int)
def Bd:∀{R:List Zh}{b:Option Zh},R.foldl qJ b=none→b=none∧∀x∈R,can x≠true
 | [],b,h=>⟨h,λx hx=>by cases hx⟩
 | z::R,b,h=>by
  rw[List.foldl_cons]at h
  obtain⟨h1,h2⟩:=Bd h
  unfold qJ at h1
  cases b with
  | none=>
   dsimp only at h1
   split at h1
   ·cases h1
   ·rename_i hz
    refine⟨rfl,λx hx=>?_⟩
    rcases List.mem_cons.1 hx with rfl | hx
    ·exact hz
    ·exact h2 x hx
  | some y=>
   dsimp only at h1
   split at h1<;>cases h1
def xL{l:List Zh}{q:Int}:(Zw l q).isSome=((Zw l q).map (·.id)).isSome:=by cases Zw l q<;>rfl
def Eb{rv:B0}{c:Int}{F:ze}{all:jD}{l:List (Int×Int)}(C:FoC rv c F all l){q:Int}(hq:zm all q≠some (rv,1)):Zw F.l q=none:=by
 cases h:Zw F.l q with
 | none=>rfl
 | some x=>exact absurd ((C.hold q).1 (by rw[h];rfl)) hq
def dM{rv:B0}{c:Int}{F:ze}{all:jD}{l:List (Int×Int)}(C:FoC rv c F all l){q:Int}(hq:zm all q≠some (rv,1))(ht:(ZI F rv q).2.2=false):∀x∈F.l,x.pod.st=2→c≤(x.pod.reqs.length:Int):=by
 have hw:=Eb C hq
 unfold ZI at ht
 rw[hw]at ht
 rw[if_neg (by decide)]at ht
 split at ht
 ·rename_i hp
  unfold cd at hp
  intro x hx h2
  obtain⟨hr,hc,-⟩:=C.pod x hx
  have hn:=(Bd hp).2 x (List.mem_filter.2 ⟨hx,by simpa using hr⟩)
  unfold can at hn
  rw[hc]at hn
  rcases Int.lt_or_le (x.pod.reqs.length:Int) c with h | h
  ·exact absurd (decide_eq_true ⟨h2,h⟩) hn
  ·exact h
 ·cases ht
def qU{F:ze}(ok:F.Ok){x y:Zh}(hx:x∈F.l)(hy:y∈F.l)(h:x.id=y.id):x=y:=by
 have h1:=Xm ok.pw hx
 have h2:=Xm ok.pw hy
 rw[h,h2]at h1
 exact(Option.some.inj h1).symm
def nN{F:ze}(ok:F.Ok){rv:B0}{q:Int}{x:Zh}(h:x∈(ZI F rv q).1.l):x∈F.l∨∃y∈F.l,y.pod.st=2∧(y.pod.reqs.length:Int)<y.pod.conc∧q∉y.pod.reqs∧x = { y with pod:={ y.pod with reqs:=mr q y.pod.reqs } }:=by
 unfold ZI at h
 split at h
 ·exact .inl h
 ·rename_i hw
  have hn:Zw F.l q=none:=by cases h:Zw F.l q<;>simp[h]at hw ⊢
  split at h
  ·exact .inl h
  ·rename_i z hp
   obtain⟨hz,-,hc⟩:=On hp
   have hc2:=of_decide_eq_true hc
   dsimp only at h
   obtain⟨y,hy,⟨-,rfl⟩ | ⟨he,rfl,-⟩⟩:=kD h
   ·exact .inl hy
   ·have e:=qU (F:=F) ok hy hz he
    subst e
    have hnq:=xE hn y hy
    refine .inr ⟨y,hy,hc2.1,hc2.2,hnq,?_⟩
    rw[gy hc hnq]
def dJ{rv:B0}{c:Int}{F:ze}{all:jD}{y:Int×Int}{l:List (Int×Int)}(C:FoC rv c F all (y::l))(ht:(ZI F rv y.1).2.2=true):FoC rv c (ZI F rv y.1).1 (zX all y.1 (rv,1)) l:=by
 have hy2:zm all y.1=some (rv,2):=(C.line y.1).1 (by simp)
 have hnd:=C.lnd
 rw[List.map_cons,List.nodup_cons]at hnd
 refine⟨dT C.ok rv y.1,λx hx=>?_,Qx C.knd,λq=>?_,λp hp h1=>?_,λq=>?_,λp hp h2=>?_,hnd.2,λp hp=>?_,λz hz=>C.dl z (by simp[hz])⟩
 ·rcases nN C.ok hx with hx | ⟨z,hz,h2,hlt,hq,rfl⟩
  ·exact C.pod x hx
  ·obtain⟨h1,hc,h3,h4,h5,h6⟩:=C.pod z hz
   rw[hc]at hlt
   refine⟨h1,hc,((vC _ _).nodup_iff).2 (List.nodup_cons.2 ⟨hq,h3⟩),?_,λh=>?_,λh=>?_⟩
   ·dsimp only;rw[(vC _ _).length_eq,List.length_cons];omega
   ·dsimp only at h;omega
   ·dsimp only at h;omega
 ·rw[xL,rE C.ok rv y.1 q,ZY]
  by_cases e:q=y.1
  ·subst e
   rw[if_pos ⟨ht,rfl⟩,if_pos rfl];simp
  ·rw[if_neg (λhh=>e hh.2),if_neg (λhh=>e hh.symm),←xL]
   exact C.hold q
 ·rcases Zq hp with rfl | hp
  ·rfl
  ·exact C.st1 p hp h1
 ·rw[ZY]
  by_cases e:y.1=q
  ·subst e
   rw[if_pos rfl]
   constructor
   ·intro hh;exact absurd hh hnd.1
   ·intro hh;simp at hh
  ·rw[if_neg e,←C.line q,List.map_cons,List.mem_cons]
   constructor
   ·exact .inr
   ·rintro(h | h)
    ·exact absurd h.symm e
    ·exact h
 ·rcases Zq hp with rfl | hp
  ·simp at h2
  ·exact C.st2 p hp h2
 ·rcases Zq hp with rfl | hp
  ·exact .inl rfl
  ·exact C.st p hp
def EF(f:yo):Prop:=f.2.1=1
def Lo{rv:B0}{c:Int}:∀{l:List (Int×Int)}{F:ze}{all:jD}{out:List yo},FoC rv c F all l→(∀f∈out,EF f)→
  FoC rv c (yr rv l F all out).1 (yr rv l F all out).2.1 (yr rv l F all out).2.2.1∧Sat c (yr rv l F all out).1 (yr rv l F all out).2.2.1∧(∀f∈(yr rv l F all out).2.2.2,EF f)∧(yr rv l F all out).2.2.1.length≤l.length
 | [],F,all,out,C,ho=>⟨C,.inl rfl,ho,Nat.le_refl _⟩
 | y::l,F,all,out,C,ho=>by
  unfold yr
  split
  ·rename_i ht
   obtain⟨h1,h2,h3,h4⟩:=Lo (out:=out++[(y.1,1,(ZI F rv y.1).2.1,s_,())]) (dJ C ht) λf hf=>by
    rcases List.mem_append.1 hf with hf | hf
    ·exact ho f hf
    ·rw[List.mem_singleton]at hf;subst hf;rfl
   exact⟨h1,h2,h3,by rw[List.length_cons];omega⟩
  ·rename_i ht
   have hy2:zm all y.1=some (rv,2):=(C.line y.1).1 (by simp)
   exact⟨C,.inr (dM C (by rw[hy2];simp) (by simpa using ht)),ho,Nat.le_refl _⟩
def ko{l:List Zh}{id:Int}{g:YT→YT}{x:Zh}(hx:x∈l):(x.id≠id→x∈YL l id g)∧(x.id=id→(g x.pod).st≠4→{ x with pod:=g x.pod }∈YL l id g):=by
 unfold YL
 exact⟨λh=>List.mem_filterMap.2 ⟨x,hx,by rw[if_neg h]⟩,λh h4=>List.mem_filterMap.2 ⟨x,hx,by rw[if_pos h,if_neg h4]⟩⟩
structure Tk(F F':ze):Prop where
 bk:∀x'∈F'.l,∃x∈F.l,x'.id=x.id∧x'.pod.st=x.pod.st∧(x.pod.st=3→x'.pod.reqs=x.pod.reqs)
 fw:∀x∈F.l,∃x'∈F'.l,x'.id=x.id∧x'.pod.st=x.pod.st∧∀q∈x.pod.reqs,q∈x'.pod.reqs
 rm:F'.room=F.room
 ln:F'.l.length=F.l.length
def Tk.refl(F:ze):Tk F F:=⟨λx hx=>⟨x,hx,rfl,rfl,λ_=>rfl⟩,λx hx=>⟨x,hx,rfl,rfl,λ_ h=>h⟩,rfl,rfl⟩
def Tk.trans{F G H:ze}(a:Tk F G)(b:Tk G H):Tk F H:=by
 refine⟨λz hz=>?_,λx hx=>?_,b.rm.trans a.rm,b.ln.trans a.ln⟩
 ·obtain⟨y,hy,h1,h2,h3⟩:=b.bk z hz
  obtain⟨x,hx,g1,g2,g3⟩:=a.bk y hy
  exact⟨x,hx,h1.trans g1,h2.trans g2,λh=>by rw[h3 (by rw[g2];exact h),g3 h]⟩
 ·obtain⟨y,hy,h1,h2,h3⟩:=a.fw x hx
  obtain⟨z,hz,g1,g2,g3⟩:=b.fw y hy
  exact⟨z,hz,g1.trans h1,g2.trans h2,λq hq=>g3 q (h3 q hq)⟩
def bO{F:ze}(ok:F.Ok)(rv:B0)(q:Int):Tk F (ZI F rv q).1:=by
 refine⟨λx hx=>?_,λx hx=>?_,?_,z08 (Hu ok rv q)⟩
 ·rcases nN ok hx with hx | ⟨z,hz,h2,-,-,rfl⟩
  ·exact⟨x,hx,rfl,rfl,λ_=>rfl⟩
  ·exact⟨z,hz,rfl,rfl,λh=>by omega⟩
 ·unfold ZI
  split
  ·exact⟨x,hx,rfl,rfl,λ_ h=>h⟩
  ·rename_i hw
   have hn:Zw F.l q=none:=by cases h:Zw F.l q<;>simp[h]at hw ⊢
   split
   ·exact⟨x,hx,rfl,rfl,λ_ h=>h⟩
   ·rename_i z hp
    obtain⟨hz,-,hc⟩:=On hp
    have hlv:=ok.live x hx
    dsimp only
    by_cases e:x.id=z.id
    ·have e2:=qU ok hx hz e
     subst e2
     refine⟨_,(ko hx).2 rfl (by rw[gy hc (xE hn x hx)];dsimp only;omega),rfl,?_,λp hp=>?_⟩
     ·rw[gy hc (xE hn x hx)]
     ·rw[gy hc (xE hn x hx)];exact qQ.2 (.inr hp)
    ·exact⟨x,(ko hx).1 e,rfl,rfl,λ_ h=>h⟩
 ·unfold ZI
  repeat' split
  all_goals rfl
def we{rv:B0}{c:Int}:∀{l:List (Int×Int)}{F:ze}{all:jD}{out:List yo},FoC rv c F all l→Tk F (yr rv l F all out).1
 | [],F,all,out,_=>Tk.refl F
 | y::l,F,all,out,C=>by
  unfold yr
  split
  ·rename_i ht
   exact(bO C.ok rv y.1).trans (we (dJ C ht))
  ·exact Tk.refl F
def Ou{rv:B0}{c:Int}{F:ze}{all:jD}{l:List (Int×Int)}(C:FoC rv c F all l){q:Int}(hq:zm all q=some (rv,1)) :
  ∃x,Zw F.l q=some x∧x∈F.l∧q∈x.pod.reqs∧(ZQ F q).1.l=(YL F.l x.id λp=>(ye p q).1)∧(ye x.pod q).1 = { x.pod with reqs:=x.pod.reqs.erase q,st:=if x.pod.st=3∧x.pod.reqs.erase q = []then 4 else x.pod.st }:=by
 obtain⟨x,hx⟩:=Option.isSome_iff_exists.1 ((C.hold q).2 hq)
 obtain⟨hm,hr⟩:=Vj hx
 refine⟨x,hx,hm,hr,?_,by rw[Ct hr]⟩
 unfold ZQ
 rw[hx]
def Lg{rv:B0}{c:Int}{F:ze}{all:jD}{l:List (Int×Int)}(C:FoC rv c F all l){q:Int}(hq:zm all q=some (rv,1)):(ZQ F q).2=(rv,0)∧(ZQ F q).1.room=F.room∧(ZQ F q).1.l.length≤F.l.length:=by
 obtain⟨x,hx⟩:=Option.isSome_iff_exists.1 ((C.hold q).2 hq)
 obtain⟨hm,hr⟩:=Vj hx
 unfold ZQ
 rw[hx,←(C.pod x hm).1]
 exact⟨rfl,rfl,show(YL F.l x.id λp=>(ye p q).1).length≤F.l.length from fR _ _ _⟩
def dL{rv:B0}{c:Int}{F:ze}{all:jD}{l:List (Int×Int)}(C:FoC rv c F all l){q:Int}(hq:zm all q=some (rv,1)):FoC rv c (ZQ F q).1 (zX all q (rv,3)) l:=by
 obtain⟨x,hx,hm,hr,hg,hp⟩:=Ou C hq
 have hnd:∀x∈F.l,x.pod.reqs.Nodup:=λx hx=>(C.pod x hx).2.2.1
 refine⟨Bo C.ok q,λz hz=>?_,Qx C.knd,λq'=>?_,λp hp h1=>?_,λq'=>?_,λp hp h2=>?_,C.lnd,λp hp=>?_,C.dl⟩
 ·rw[hg]at hz
  obtain⟨y,hy,⟨-,rfl⟩ | ⟨he,rfl,h4⟩⟩:=kD hz
  ·exact C.pod z hy
  ·have e:=qU C.ok hy hm he
   subst e
   obtain⟨h1,h2,h3,h5,h6,h7⟩:=C.pod y hy
   rw[hp]at h4 ⊢
   dsimp only at h4 ⊢
   refine⟨h1,h2,h3.erase _,?_,λh=>?_,λh=>?_⟩
   ·have:=List.length_erase_le (a:=q) (l:=y.pod.reqs)
    omega
   ·split at h
    ·omega
    ·rename_i hn
     exact λe=>hn ⟨h,e⟩
   ·split at h
    ·omega
    ·have:=h7 h
     rw[this]at hr;cases hr
 ·rw[xL,RB C.ok hnd q q',ZY]
  by_cases e:q'=q
  ·subst e;rw[if_pos rfl,if_pos rfl];simp
  ·rw[if_neg e,if_neg (λh=>e h.symm),←xL];exact C.hold q'
 ·rcases Zq hp with rfl | hp
  ·simp at h1
  ·exact C.st1 p hp h1
 ·rw[ZY]
  by_cases e:q=q'
  ·subst e
   rw[if_pos rfl,C.line q,hq];simp
  ·rw[if_neg e];exact C.line q'
 ·rcases Zq hp with rfl | hp
  ·simp at h2
  ·exact C.st2 p hp h2
 ·rcases Zq hp with rfl | hp
  ·exact .inr (.inr (.inl rfl))
  ·exact C.st p hp
def RH(F:ze)(q:Int):Prop:=∃x∈F.l,q∈x.pod.reqs∧x.pod.st=2
def RH.tk{F F':ze}(t:Tk F F'){q:Int}(h:RH F q):RH F' q:=by
 obtain⟨x,hx,hq,h2⟩:=h
 obtain⟨x',hx',-,h3,h4⟩:=t.fw x hx
 exact⟨x',hx',h4 q hq,h3.trans h2⟩
def RH.give{rv:B0}{c:Int}{F:ze}{all:jD}{l:List (Int×Int)}(C:FoC rv c F all l){q q':Int}(hq:zm all q=some (rv,1))(hne:q'≠q)(h:RH F q'):RH (ZQ F q).1 q':=by
 obtain⟨x,hx,hm,hr,hg,hp⟩:=Ou C hq
 obtain⟨y,hy,hyq,h2⟩:=h
 unfold RH
 rw[hg]
 by_cases e:y.id=x.id
 ·have e2:=qU C.ok hy hm e
  subst e2
  have hst:(ye y.pod q).1.st=2:=by rw[hp];dsimp only;rw[if_neg (by omega)];exact h2
  refine⟨_,(ko (g:=λp=>(ye p q).1) hy).2 rfl (by rw[hst];decide),?_,hst⟩
  dsimp only
  rw[hp]
  exact(List.mem_erase_of_ne hne).2 hyq
 ·exact⟨y,(ko hy).1 e,hyq,h2⟩
def aY{rv:B0}{c:Int}{F:ze}{all:jD}{l:List (Int×Int)}{out:List yo}(C:FoC rv c F all l){q:Int}(hq:zm all q=some (rv,1))(hR:RH F q)(hl:l≠[]) :
  (yr rv l (ZQ F q).1 (zX all q (rv,3)) out).2.2.1.length+1≤l.length:=by
 have C1:=dL C hq
 obtain⟨x,hx,hm,hr,hg,hp⟩:=Ou C hq
 obtain⟨y,hy,hyq,h2⟩:=hR
 have e:x=y:=by
  have:=xx C.ok.once hy hyq
  rw[hx]at this;exact Option.some.inj this
 subst e
 rcases l with _ | ⟨z,l⟩
 ·exact absurd rfl hl
 ·have hz2:zm (zX all q (rv,3)) z.1=some (rv,2):=(C1.line z.1).1 (by simp)
  have ht:(ZI (ZQ F q).1 rv z.1).2.2=true:=by
   cases h:(ZI (ZQ F q).1 rv z.1).2.2 with
   | true=>rfl
   | false=>
    have hf:=dM C1 (by rw[hz2];simp) h
    have hst:(ye x.pod q).1.st=2:=by rw[hp];dsimp only;rw[if_neg (by omega)];exact h2
    have hin:({ x with pod:=(ye x.pod q).1 }:Zh)∈(ZQ F q).1.l:=by
     rw[hg];exact(ko (g:=λp=>(ye p q).1) hm).2 rfl (by rw[hst];decide)
    have h3:=hf _ hin hst
    dsimp only at h3
    rw[hp]at h3
    dsimp only at h3
    have h4:=List.length_erase_of_mem hr
    have h5:=(C.pod x hm).2.2.2.1
    have h6:0<x.pod.reqs.length:=List.length_pos_of_mem hr
    omega
  unfold yr
  rw[if_pos ht]
  have:=(uV (rev:=rv) (l:=l) (F:=(ZI (ZQ F q).1 rv z.1).1) (all:=zX (zX all q (rv,3)) z.1 (rv,1)) (out:=out++[(z.1,1,(ZI (ZQ F q).1 rv z.1).2.1,s_,())])).2.1
  rw[List.length_cons]
  omega
structure FoG(rv:B0)(c:Int)(F:ze)(G:Ze):Prop where
 C:FoC rv c F G.all (zp G.lines rv)
 oth:∀k,k≠rv→zp G.lines k = []
 sat:Sat c F (zp G.lines rv)
 ids:∀p∈G.all,1≤p.1∧p.1≤2000
abbrev ln(G:Ze)(rv:B0):List (Int×Int):=zp G.lines rv
def Dr(F:ze)(L:List Int):Prop:=∀x∈F.l,x.pod.st=3→∀q∈x.pod.reqs,q∈L
def Ns(F:ze):Prop:=∀x∈F.l,x.pod.st≠1
def Dr.tk{F F':ze}{L:List Int}(t:Tk F F')(h:Dr F L):Dr F' L:=λx hx h3 q hq=>by
 obtain⟨y,hy,-,h2,h4⟩:=t.bk x hx
 rw[h4 (by rw[←h2];exact h3)]at hq
 exact h y hy (by rw[←h2];exact h3) q hq
def Ns.tk{F F':ze}(t:Tk F F')(h:Ns F):Ns F':=λx hx=>by
 obtain⟨y,hy,-,h2,-⟩:=t.bk x hx
 rw[h2];exact h y hy
def dN{rv:B0}{q:Int}:∀{l:List (Int×Int)}{F:ze}{all:jD}{out:List yo},zm all q=some (rv,1)→zm (yr rv l F all out).2.1 q=some (rv,1)
 | [],_,_,_,h=>h
 | y::l,F,all,out,h=>by
  unfold yr
  split
  ·refine dN (l:=l) ?_
   rw[ZY]
   split
   ·rfl
   ·exact h
  ·exact h
def Nw{rv:B0}{P:Int→Prop}:∀{l:List (Int×Int)}{F:ze}{all:jD}{out:List yo},(∀p∈all,P p.1)→(∀y∈l,P y.1)→∀p∈(yr rv l F all out).2.1,P p.1
 | [],_,_,_,h,_=>h
 | y::l,F,all,out,h,hl=>by
  unfold yr
  split
  ·refine Nw (l:=l) (λp hp=>?_) λz hz=>hl z (by simp[hz])
   rcases Zq hp with rfl | hp
   ·exact hl y (by simp)
   ·exact h p hp
  ·exact h
def SP{rv:B0}{c:Int}{F:ze}{all:jD}{l:List (Int×Int)}(C:FoC rv c F all l){P:Int→Prop}(h:∀p∈all,P p.1):∀y∈l,P y.1:=λy hy=>by
 have:=(C.line y.1).1 (List.mem_map.2 ⟨y,hy,rfl⟩)
 exact h _ (yK this)
def sR{F F':ze}{c:Int}{l:List (Int×Int)}(h:Sat c F l)(hs:∀x∈F'.l,x.pod.st=2→x∈F.l):Sat c F' l:=h.imp id λh x hx h2=>h x (hs x hx h2) h2
def Lk{rv:B0}{c:Int}{F:ze}{G:Ze}(C:FoC rv c F G.all (ln G rv))(oth:∀k,k≠rv→zp G.lines k = [])(ids:∀p∈G.all,1≤p.1∧p.1≤2000) :
  FoG rv c (yV F G rv).1 (yV F G rv).2.1∧(∀f∈(yV F G rv).2.2,EF f)∧(ln (yV F G rv).2.1 rv).length≤(ln G rv).length∧Tk F (yV F G rv).1:=by
 obtain⟨h1,h2,h3,h4⟩:=Lo (out:=[]) C (λf hf=>by cases hf)
 have e:ln (yV F G rv).2.1 rv=(yr rv (zp G.lines rv) F G.all []).2.2.1:=xD _ _ _
 refine⟨⟨?_,λk hk=>?_,?_,Nw (P:=λq=>1≤q∧q≤2000) ids (SP (P:=λq=>1≤q∧q≤2000) C ids)⟩,h3,by rw[e];exact h4,we C⟩
 ·have e':zp (yV F G rv).2.1.lines rv=_:=e
  rw[e'];exact h1
 ·show zp (zX G.lines rv _) k = []
  rw[tG hk];exact oth k hk
 ·have e':zp (yV F G rv).2.1.lines rv=_:=e
  rw[e'];exact h2
def Ks{rv:B0}{c:Int}{F:ze}{G:Ze}(I:FoG rv c F G){q:Int}(hq:zm G.all q=some (rv,1)):Yp F G q=((yV (ZQ F q).1 { G with all:=zX G.all q (rv,3) } rv).1,(yV (ZQ F q).1 { G with all:=zX G.all q (rv,3) } rv).2.1,
  (q,3,0,s_,())::(yV (ZQ F q).1 { G with all:=zX G.all q (rv,3) } rv).2.2,0):=by
 obtain⟨h1,-,-⟩:=Lg I.C hq
 unfold Yp
 rw[h1]
 rw[if_neg (show ¬(0:Int)≠0 by decide)]
def Ll{rv:B0}{c:Int}{F:ze}{G:Ze}(I:FoG rv c F G){q:Int}(hq:zm G.all q=some (rv,1)) :
  FoG rv c (Yp F G q).1 (Yp F G q).2.1∧(Yp F G q).2.2.2=0∧(∀f∈(Yp F G q).2.2.1,f.2.1=1∨f.2.1=3)∧(ln (Yp F G q).2.1 rv).length≤(ln G rv).length∧(RH F q→ln G rv≠[]→(ln (Yp F G q).2.1 rv).length+1≤(ln G rv).length):=by
 have C1:=dL I.C hq
 rw[Ks I hq]
 obtain⟨h1,h2,h3,h4⟩:=Lk (G:={ G with all:=zX G.all q (rv,3) }) C1 I.oth (λp hp=>by
  rcases Zq hp with rfl | hp
  ·exact(show 1≤q∧q≤2000 from I.ids (q,(rv,1)) (yK hq))
  ·exact I.ids p hp)
 refine⟨h1,rfl,λf hf=>?_,h3,λhR hl=>?_⟩
 ·rcases List.mem_cons.1 hf with rfl | hf
  ·exact .inr rfl
  ·exact .inl (h2 f hf)
 ·have:=aY (out:=[]) I.C hq hR hl
  have e:ln (yV (ZQ F q).1 { G with all:=zX G.all q (rv,3) } rv).2.1 rv=(yr rv (zp G.lines rv) (ZQ F q).1 (zX G.all q (rv,3)) []).2.2.1:=xD _ _ _
  show(ln (yV (ZQ F q).1 { G with all:=zX G.all q (rv,3) } rv).2.1 rv).length+1≤_
  rw[e];exact this
def Cu{rv:B0}{c:Int}{F:ze}{G:Ze}(I:FoG rv c F G){q:Int}(hq:zm G.all q=some (rv,1)):Tk (ZQ F q).1 (Yp F G q).1:=by
 rw[Ks I hq]
 exact we (dL I.C hq)
def Aw{rv:B0}{c:Int}{F:ze}{G:Ze}(I:FoG rv c F G){q q':Int}(hq:zm G.all q=some (rv,1))(hne:q'≠q)(h:zm G.all q'=some (rv,1)):zm (Yp F G q).2.1.all q'=some (rv,1):=by
 rw[Ks I hq]
 refine dN ?_
 rw[ZY,if_neg (λe=>hne e.symm)];exact h
def Av{rv:B0}{c:Int}{F:ze}{G:Ze}(I:FoG rv c F G){q q':Int}(hq:zm G.all q=some (rv,1))(hl:ln G rv = [])(h:zm (Yp F G q).2.1.all q'=some (rv,1)):q'≠q∧zm G.all q'=some (rv,1):=by
 rw[Ks I hq]at h
 have hl:zp G.lines rv = []:=hl
 have h:zm (yr rv (zp G.lines rv) (ZQ F q).1 (zX G.all q (rv,3)) []).2.1 q'=some (rv,1):=h
 rw[hl]at h
 have h:zm (zX G.all q (rv,3)) q'=some (rv,1):=h
 rw[ZY]at h
 split at h
 ·simp at h
 ·rename_i e;exact⟨λhh=>e hh.symm,h⟩
def iw{rv:B0}{c:Int}{F:ze}{G:Ze}(I:FoG rv c F G){q:Int}{L:List Int}(hq:zm G.all q=some (rv,1))(h:Dr F (q::L)):Dr (Yp F G q).1 L:=by
 refine Dr.tk (Cu I hq) λy hy h3 q' hq'=>?_
 obtain⟨x,hx,hm,hr,hg,hp⟩:=Ou I.C hq
 rw[hg]at hy
 obtain⟨z,hz,⟨hne,rfl⟩ | ⟨he,rfl,h4⟩⟩:=kD hy
 ·rcases List.mem_cons.1 (h y hz h3 q' hq')with rfl | h5
  ·have:=xx I.C.ok.once hz hq'
   rw[hx]at this
   exact absurd (congrArg Zh.id (Option.some.inj this)).symm hne
  ·exact h5
 ·have e:=qU I.C.ok hz hm he
  subst e
  rw[hp]at h4 h3 hq'
  dsimp only at h4 h3 hq'
  have h30:z.pod.st=3:=by
   split at h3
   ·omega
   ·exact h3
  have hnd:=(I.C.pod z hz).2.2.1
  have hne:=((List.Nodup.mem_erase_iff hnd).1 hq')
  rcases List.mem_cons.1 (h z hz h30 q' hne.2)with rfl | h5
  ·exact absurd rfl hne.1
  ·exact h5
def iv{rv:B0}{c:Int}{F:ze}{G:Ze}(I:FoG rv c F G){q:Int}(hq:zm G.all q=some (rv,1))(h:Ns F):Ns (Yp F G q).1:=by
 refine Ns.tk (Cu I hq) λy hy=>?_
 obtain⟨x,hx,hm,hr,hg,hp⟩:=Ou I.C hq
 rw[hg]at hy
 obtain⟨z,hz,⟨hne,rfl⟩ | ⟨he,rfl,h4⟩⟩:=kD hy
 ·exact h y hz
 ·have e:=qU I.C.ok hz hm he
  subst e
  rw[hp]
  dsimp only
  split
  ·decide
  ·exact h z hz
def iu{rv:B0}{c:Int}{F:ze}{G:Ze}(I:FoG rv c F G){q:Int}(hq:zm G.all q=some (rv,1)):(Yp F G q).1.room=F.room∧(Yp F G q).1.l.length≤F.l.length:=by
 obtain⟨-,h1,h2⟩:=Lg I.C hq
 have t:=Cu I hq
 exact⟨t.rm.trans h1,by rw[t.ln];exact h2⟩
end Go.Proofs.YtdcdhcgmeahfmaaGreatDoor
namespace Go.Proofs.YtdcdhcgmeahfmaaGreatDoor
open Go.Dm
variable {rv:B0}{c:Int}{F:ze}{all:jD}{l:List (Int×Int)}
def eZ(C:FoC rv c F all l){x:Zh}(hx:x∈F.l)(h1:x.pod.st=1):FoC rv c (jR F x.id).1 all l∧(jR F x.id).2=0∧(jR F x.id).1.l=(YL F.l x.id λp=>(YW p).1)∧(YW x.pod).1 = { x.pod with st:=2 }∧(jR F x.id).1.room=F.room∧(jR F x.id).1.last=F.last:=by
 have hf:=Xm C.ok.pw hx
 have hp:YW x.pod=({ x.pod with st:=2 },0):=by unfold YW;rw[if_neg (by omega)]
 have e:jR F x.id=({ F with l:=YL F.l x.id λp=>(YW p).1 },0):=by
  unfold jR;rw[hf];dsimp only;rw[hp]
 have hok:=sC C.ok x.id
 rw[e]at hok ⊢
 refine⟨⟨hok,λz hz=>?_,C.knd,λq=>?_,C.st1,C.line,C.st2,C.lnd,C.st,C.dl⟩,rfl,rfl,by rw[hp],rfl,rfl⟩
 ·have hz:z∈YL F.l x.id λp=>(YW p).1:=hz
  obtain⟨y,hy,⟨-,rfl⟩ | ⟨he,rfl,h4⟩⟩:=kD hz
  ·exact C.pod z hy
  ·have e:=qU C.ok hy hx he
   subst e
   obtain⟨g1,g2,g3,g4,g5,g6⟩:=C.pod y hy
   rw[hp]
   exact⟨g1,g2,g3,g4,λh=>by dsimp only at h;omega,λh=>by dsimp only at h;omega⟩
 ·show(Zw (YL F.l x.id λp=>(YW p).1) q).isSome=true↔_
  rw[xL,C.ok.where_upd hf (λp=>(YW p).1) (λq hq=>by rw[hp]at hq;exact .inl hq) (λh4=>by rw[hp]at h4;dsimp only at h4;omega),hp]
  dsimp only
  rw[←C.hold q]
  by_cases hq:q∈x.pod.reqs
  ·rw[if_pos hq,xx C.ok.once hx hq];rfl
  ·rw[if_neg hq,if_neg hq,←xL]
def Ln(hc:0≤c):∀(n:Nat),F.l.length+n<100000000→F.last+n<4611686018427387904→FoC rv c F all l→FoC rv c (grow rv c n F) all l
 | 0,_,_,C=>C
 | n+1,h1,h2,C=>by
  have C1:=Ln hc n (by omega) (by omega) C
  have hl:=Vh (rev:=rv) (conc:=c) (F:=F) n
  have hla:=kY (rev:=rv) (conc:=c) (F:=F) n
  refine⟨dG C1.ok (by rw[hl];omega) (by rw[hla];omega),λx hx=>?_,C1.knd,λq=>?_,C1.st1,C1.line,C1.st2,C1.lnd,C1.st,C1.dl⟩
  ·rcases List.mem_append.1 hx with hx | hx
   ·exact C1.pod x hx
   ·rw[List.mem_singleton]at hx
    subst hx
    exact⟨rfl,rfl,List.nodup_nil,by simpa using hc,λh=>by dsimp only at h;omega,λ_=>rfl⟩
  ·rw[←C1.hold q]
   show(Zw ((grow rv c n F).l++[_]) q).isSome=true↔_
   unfold Zw
   rw[List.find?_append]
   simp
def Ag(C:FoC rv c F all l)(hc:0<ZA F.l rv):FoC rv c (qm rv F) all l:=by
 obtain⟨x,hf,hr,hst⟩:=Og C.ok hc
 obtain⟨hx,hid⟩:=jf hf
 have hd:=fT hst
 refine⟨tQ C.ok hc,λz hz=>?_,C.knd,λq=>?_,C.st1,C.line,C.st2,C.lnd,C.st,C.dl⟩
 ·have hz:z∈YL F.l (vD F.l rv) λp=>(yy p).1:=hz
  obtain⟨y,hy,⟨-,rfl⟩ | ⟨he,rfl,h4⟩⟩:=kD hz
  ·exact C.pod z hy
  ·have e:=qU C.ok hy hx (he.trans hid.symm)
   subst e
   obtain⟨g1,g2,g3,g4,g5,g6⟩:=C.pod y hy
   rw[hd]at h4 ⊢
   dsimp only at h4 ⊢
   split at h4
   ·omega
   ·rename_i hn
    rw[if_neg hn]
    exact⟨g1,g2,g3,g4,λ_=>hn,λh=>by omega⟩
 ·show(Zw (YL F.l (vD F.l rv) λp=>(yy p).1) q).isSome=true↔_
  rw[xL,C.ok.where_upd hf (λp=>(yy p).1) (λq hq=>by rw[hd]at hq;exact .inl hq) (λh4=>by
   rw[hd]at h4 ⊢
   dsimp only at h4 ⊢
   split at h4
   ·assumption
   ·omega),hd]
  dsimp only
  rw[←C.hold q]
  by_cases hq:q∈x.pod.reqs
  ·rw[if_pos hq,xx C.ok.once hx hq];rfl
  ·rw[if_neg hq,if_neg hq,←xL]
def dK:∀{n:Nat}{F:ze},FoC rv c F all l→n≤ZA F.l rv→FoC rv c (shrink rv n F).1 all l∧ZA (shrink rv n F).1.l rv+n=ZA F.l rv
 | 0,F,C,_=>⟨C,rfl⟩
 | n+1,F,C,hn=>by
  have hc:0<ZA F.l rv:=by omega
  have h1:=gR C.ok hc
  obtain⟨h2,h3⟩:=dK (n:=n) (Ag C hc) (by omega)
  refine⟨h2,?_⟩
  show ZA (shrink rv n (qm rv F)).1.l rv+(n+1)=_
  omega
def dD:∀(n:Nat){x:Zh},x∈(grow rv c n F).l→x.pod.st=2→x∈F.l
 | 0,_,h,_=>h
 | n+1,x,h,h2=>by
  rcases List.mem_append.1 h with h | h
  ·exact dD n h h2
  ·rw[List.mem_singleton]at h
   subst h
   dsimp only at h2;omega
def Lz{x:Zh}(h:x∈(qm rv F).l)(h2:x.pod.st=2):x∈F.l:=by
 have h:x∈YL F.l (vD F.l rv) λp=>(yy p).1:=h
 obtain⟨y,hy,⟨-,rfl⟩ | ⟨he,rfl,h4⟩⟩:=kD h
 ·exact hy
 ·exfalso
  dsimp only at h2
  unfold yy at h2
  split at h2
  ·dsimp only at h2;omega
  ·dsimp only at h2
   split at h2<;>omega
def pR:∀{n:Nat}{F:ze}{x:Zh},x∈(shrink rv n F).1.l→x.pod.st=2→x∈F.l
 | 0,_,_,h,_=>h
 | n+1,F,x,h,h2=>Lz (pR (n:=n) (F:=qm rv F) h h2) h2
def CM(F:ze)(want:Int):xk F rv want≤ZA F.l rv:=by unfold xk;omega
def Af(C:FoC rv c F all l)(hc:0≤c){want:Int}(h1:F.l.length≤1000)(hr:F.room≤1000)(h2:F.last≤1000000):FoC rv c (Yn F rv c want).1 all l∧(Sat c F l→Sat c (Yn F rv c want).1 l)∧(1≤want→(1≤ZA F.l rv∨(F.l.length:Int)<F.room)→1≤ZA (Yn F rv c want).1.l rv):=by
 have hg:=fQ F rv want
 have C1:FoC rv c (yQ F rv c want) all l:=Ln hc _ (by omega) (by omega) C
 have hcn:ZA (yQ F rv c want).l rv=ZA F.l rv+qx F rv want:=dF _
 have hle:=CM (rv:=rv) (yQ F rv c want) want
 obtain⟨C2,h3⟩:=dK C1 hle
 refine⟨C2,λhs=>sR hs λx hx h2=>dD _ (pR hx h2) h2,λhw hl=>?_⟩
 show 1≤ZA (shrink rv (xk (yQ F rv c want) rv want) (yQ F rv c want)).1.l rv
 have hn:xk (yQ F rv c want) rv want=((ZA (yQ F rv c want).l rv:Int)-max want 0).toNat:=rfl
 omega
def Et{F:ze}(h:1≤ZA F.l rv):∃x∈F.l,x.pod.st≠3:=by
 unfold ZA at h
 obtain⟨x,hx⟩:=List.exists_mem_of_length_pos (show 0<((revs F.l rv).filter GL).length by omega)
 obtain⟨h1,h2⟩:=List.mem_filter.1 hx
 exact⟨x,(List.mem_filter.1 h1).1,of_decide_eq_true h2⟩
def sD{F:ze}{x:Zh}(hx:x∈F.l)(hr:x.rev=rv)(h:x.pod.st≠3):1≤ZA F.l rv:=by
 unfold ZA
 exact List.length_pos_of_mem (List.mem_filter.2 ⟨List.mem_filter.2 ⟨hx,by simpa using hr⟩,decide_eq_true h⟩)
end Go.Proofs.YtdcdhcgmeahfmaaGreatDoor
namespace Go.Proofs.YtdcdhcgmeahfmaaGreatDoor
open Go.Dm
variable {rv:B0}{c:Int}{F:ze}{G:Ze}{all:jD}{l:List (Int×Int)}
def Ea(C:FoC rv c F all l){id:Int}{r:B0}(hn:zm all id=none):FoC rv c F (zX all id (r,4)) l:=by
 refine⟨C.ok,C.pod,Qx C.knd,λq=>?_,λp hp h1=>?_,λq=>?_,λp hp h2=>?_,C.lnd,λp hp=>?_,C.dl⟩
 ·rw[C.hold q,ZY]
  by_cases e:id=q
  ·subst e;rw[if_pos rfl,hn];simp
  ·rw[if_neg e]
 ·rcases Zq hp with rfl | hp
  ·simp at h1
  ·exact C.st1 p hp h1
 ·rw[C.line q,ZY]
  by_cases e:id=q
  ·subst e;rw[if_pos rfl,hn];simp
  ·rw[if_neg e]
 ·rcases Zq hp with rfl | hp
  ·simp at h2
  ·exact C.st2 p hp h2
 ·rcases Zq hp with rfl | hp
  ·exact .inr (.inr (.inr rfl))
  ·exact C.st p hp
def Lm(C:FoC rv c F all l){id d:Int}(hn:zm all id=none)(hd:50≤d):FoC rv c F (zX all id (rv,2)) (l++[(id,d)]):=by
 have hnl:id∉l.map (·.1):=λh=>by
  have:=(C.line id).1 h
  rw[hn]at this;cases this
 refine⟨C.ok,C.pod,Qx C.knd,λq=>?_,λp hp h1=>?_,λq=>?_,λp hp h2=>?_,?_,λp hp=>?_,λy hy=>?_⟩
 ·rw[C.hold q,ZY]
  by_cases e:id=q
  ·subst e;rw[if_pos rfl,hn];simp
  ·rw[if_neg e]
 ·rcases Zq hp with rfl | hp
  ·rfl
  ·exact C.st1 p hp h1
 ·rw[ZY,List.map_append,List.mem_append,C.line q]
  by_cases e:id=q
  ·subst e;rw[if_pos rfl];simp
  ·rw[if_neg e]
   constructor
   ·rintro(h | h)
    ·exact h
    ·exact absurd (by simpa using h:q=id).symm e
   ·exact .inl
 ·rcases Zq hp with rfl | hp
  ·rfl
  ·exact C.st2 p hp h2
 ·rw[List.map_append,List.nodup_append]
  refine⟨C.lnd,by simp,λa ha b hb=>?_⟩
  have hb:b=id:=by simpa using hb
  subst hb
  exact λe=>hnl (e▸ha)
 ·rcases Zq hp with rfl | hp
  ·exact .inr (.inl rfl)
  ·exact C.st p hp
 ·rcases List.mem_append.1 hy with hy | hy
  ·exact C.dl y hy
  ·rw[List.mem_singleton]at hy;subst hy;exact hd
def ie(I:FoG rv c F G){id now:Int}(hid:1≤id∧id≤2000)(hn:zm G.all id=none)(hrv:rv≠s_)(hd:50≤now+G.pat):FoG rv c (VB F G id rv now).1 (VB F G id rv now).2.1:=by
 have ids:∀x:B0×Int,∀p∈zX G.all id x,1≤p.1∧p.1≤2000:=λx p hp=>by
  rcases Zq hp with rfl | hp
  ·exact hid
  ·exact I.ids p hp
 have oth:∀x:List (Int×Int),∀k,k≠rv→zp (zX G.lines rv x) k = []:=λx k hk=>by rw[tG hk];exact I.oth k hk
 have hnl:tI (zp G.lines rv) id=false:=by
  cases h:tI (zp G.lines rv) id with
  | false=>rfl
  | true=>
   unfold tI at h
   obtain⟨y,hy,he⟩:=List.any_eq_true.1 h
   have h2:=(I.C.line y.1).1 (List.mem_map.2 ⟨y,hy,rfl⟩)
   have e:y.1=id:=by simpa using he
   rw[e,hn]at h2;cases h2
 unfold VB
 rw[if_neg (by unfold eJ;rw[hn];decide),if_neg hrv]
 split
 ·rename_i h
  obtain⟨h0,ht⟩:=h
  have h0:zp G.lines rv = []:=List.length_eq_zero_iff.1 h0
  have C2:=Lm I.C (id:=id) (d:=50) hn (Int.le_refl _)
  rw[h0]at C2
  have C3:=dJ (y:=(id,50)) (l:=[]) C2 ht
  dsimp only at C3
  rw[tx]at C3
  refine⟨?_,oth _,?_,ids _⟩
  ·show FoC rv c _ _ (zp (zX G.lines rv (zp G.lines rv)) rv)
   rw[xD,h0];exact C3
  ·show Sat c _ (zp (zX G.lines rv (zp G.lines rv)) rv)
   rw[xD];exact .inl h0
 ·rename_i hcase
  split
  ·refine⟨?_,oth _,?_,ids _⟩
   ·show FoC rv c _ _ (zp (zX G.lines rv (zp G.lines rv)) rv)
    rw[xD];exact Ea I.C hn
   ·show Sat c _ (zp (zX G.lines rv (zp G.lines rv)) rv)
    rw[xD];exact I.sat
  ·rename_i hp
   have e:(UC G.room (zp G.lines rv) id (now+G.pat)).1=zp G.lines rv++[(id,now+G.pat)]:=by
    unfold UC at hp ⊢
    rw[if_neg (by rw[hnl];decide)]at hp ⊢
    split at hp
    ·simp at hp
    ·rename_i h;rw[if_neg h]
   rw[e]
   refine⟨?_,oth _,?_,ids _⟩
   ·show FoC rv c _ _ (zp (zX G.lines rv _) rv)
    rw[xD];exact Lm I.C hn hd
   ·show Sat c _ (zp (zX G.lines rv _) rv)
    rw[xD]
    refine .inr ?_
    by_cases h0:zp G.lines rv = []
    ·have ht:(ZI F rv id).2.2=false:=by
      cases h:(ZI F rv id).2.2 with
      | false=>rfl
      | true=>exact absurd ⟨by rw[h0];rfl,h⟩ hcase
     exact dM I.C (by rw[hn];simp) ht
    ·rcases I.sat with h | h
     ·exact absurd h h0
     ·exact h
def Ng{r:B0}:∀{ids:List Int}{all:jD}{out:List yo},ids.Nodup→(∀q∈ids,zm all q=some (r,1))→∀q,zm (jK ids all out).1 q=if q∈ids then some (r,4)else zm all q
 | [],all,out,_,_,q=>by simp[jK]
 | x::ids,all,out,hn,h,q=>by
  have hx:=h x (by simp)
  have hr:uQ all x=(r,1):=by unfold uQ;rw[hx];rfl
  rw[List.nodup_cons]at hn
  unfold jK
  rw[hr]
  rw[if_pos rfl]
  rw[Ng hn.2 (λp hp=>by rw[ZY,if_neg (λe=>hn.1 (by rw[e];exact hp))];exact h p (by simp[hp])) q,ZY]
  by_cases e:q∈ids
  ·rw[if_pos e,if_pos (by simp[e])]
  ·rw[if_neg e]
   by_cases e2:x=q
   ·subst e2;rw[if_pos rfl,if_pos (by simp)]
   ·rw[if_neg e2,if_neg (by simp[e];exact λh=>e2 h.symm)]
def Nf{r:B0}:∀{ids:List Int}{all:jD}{out:List yo},(∀q∈ids,zm all q=some (r,1))→ids.Nodup→∀p∈(jK ids all out).1,p∈all∨(p.2=(r,4)∧p.1∈ids)
 | [],all,out,_,_,p,hp=>.inl hp
 | x::ids,all,out,h,hn,p,hp=>by
  have hx:=h x (by simp)
  have hr:uQ all x=(r,1):=by unfold uQ;rw[hx];rfl
  rw[List.nodup_cons]at hn
  unfold jK at hp
  rw[hr,if_pos rfl]at hp
  rcases Nf (λq hq=>by rw[ZY,if_neg (λe=>hn.1 (by rw[e];exact hq))];exact h q (by simp[hq])) hn.2 p hp with h1 | ⟨h1,h2⟩
  ·rcases Zq h1 with rfl | h1
   ·exact .inr ⟨rfl,by simp⟩
   ·exact .inl h1
  ·exact .inr ⟨h1,by simp[h2]⟩
def dm:∀{ids:List Int}{all:jD}{out:List yo},(all.map (·.1)).Nodup→((jK ids all out).1.map (·.1)).Nodup
 | [],_,_,h=>h
 | x::ids,all,out,h=>by
  unfold jK
  split
  ·exact dm (Qx h)
  ·exact dm h
def eY(I:FoG rv c F G){id:Int}{x:Zh}(hx:Xn F.l id=some x):FoG rv c (Jo F id).1 (oA G (Jo F id).2.1).1:=by
 obtain⟨hm,hid⟩:=jf hx
 have hl:=I.C.ok.live x hm
 have hp:yi x.pod=({ x.pod with st:=4,reqs:=[] },x.pod.reqs,0):=Bh (by omega)
 have e:Jo F id=({ F with l:=YL F.l id λp=>(yi p).1 },x.pod.reqs,0):=by unfold Jo;rw[hx]
 have hnd:=(I.C.pod x hm).2.2.1
 have hs1:∀q∈x.pod.reqs,zm G.all q=some (rv,1):=λq hq=>(I.C.hold q).1 (by rw[xx I.C.ok.once hm hq];rfl)
 have hget:=Ng (out:=[]) hnd hs1
 have hmem:=Nf (out:=[]) hs1 hnd
 rw[e]
 have hsub:∀z∈(YL F.l id λp=>(yi p).1),z∈F.l:=λz hz=>by
  obtain⟨y,hy,⟨-,rfl⟩ | ⟨he,rfl,h4⟩⟩:=kD hz
  ·exact hy
  ·exfalso
   have e2:=qU I.C.ok hy hm (he.trans hid.symm)
   subst e2
   rw[hp]at h4
   exact h4 rfl
 refine⟨⟨?_,λz hz=>I.C.pod z (hsub z hz),dm I.C.knd,λq=>?_,λp hp h1=>?_,λq=>?_,λp hp h2=>?_,I.C.lnd,λp hp=>?_,I.C.dl⟩,I.oth,I.sat.imp _root_.id λh z hz h2=>h z (hsub z hz) h2,λp hp=>?_⟩
 ·exact I.C.ok.upd hx _ (by rw[hp];simp) (λq hq=>by rw[hp]at hq;cases hq)
 ·show(Zw (YL F.l id λp=>(yi p).1) q).isSome=true↔zm (jK x.pod.reqs G.all []).1 q=_
  rw[hget q,xL,I.C.ok.where_upd hx (λp=>(yi p).1) (λq hq=>by rw[hp]at hq;cases hq) (λ_=>by rw[hp]),hp]
  dsimp only
  rw[if_neg (by simp)]
  by_cases hq:q∈x.pod.reqs
  ·rw[if_pos hq,if_pos hq];simp
  ·rw[if_neg hq,if_neg hq,←xL];exact I.C.hold q
 ·rcases hmem p hp with h | ⟨h,-⟩
  ·exact I.C.st1 p h h1
  ·rw[h]at h1;simp at h1
 ·show q∈(zp G.lines rv).map (·.1)↔zm (jK x.pod.reqs G.all []).1 q=_
  rw[hget q,I.C.line q]
  by_cases hq:q∈x.pod.reqs
  ·rw[if_pos hq,hs1 q hq];simp
  ·rw[if_neg hq]
 ·rcases hmem p hp with h | ⟨h,-⟩
  ·exact I.C.st2 p h h2
  ·rw[h]at h2;simp at h2
 ·rcases hmem p hp with h | ⟨h,-⟩
  ·exact I.C.st p h
  ·rw[h];exact .inr (.inr (.inr rfl))
 ·rcases hmem p hp with h | ⟨-,h⟩
  ·exact I.ids p h
  ·exact I.ids (p.1,(rv,1)) (yK (hs1 p.1 h))
def nL{now:Int}(hn:now<50):∀{ks:List B0}{G:Ze}{out:List yo},(∀k,∀y∈zp G.lines k,50≤y.2)→(uM now ks G out).1.all=G.all∧(uM now ks G out).2=out∧∀k,zp (uM now ks G out).1.lines k=zp G.lines k
 | [],_,_,_=>⟨rfl,rfl,λ_=>rfl⟩
 | k::ks,G,out,h=>by
  have h1:YX (zp G.lines k) now = []:=by
   unfold YX
   rw[List.map_eq_nil_iff,List.filter_eq_nil_iff]
   intro y hy
   have:=h k y hy
   simp;omega
  have h2:Or (zp G.lines k) now=zp G.lines k:=by
   unfold Or
   rw[List.filter_eq_self]
   intro y hy
   have:=h k y hy
   simp;omega
  have hl:∀k',zp (tick1 now k G).lines k'=zp G.lines k':=λk'=>by
   show zp (zX G.lines k (Or (zp G.lines k) now)) k'=_
   rw[h2]
   by_cases e:k'=k
   ·subst e;rw[xD]
   ·rw[tG e]
  have ha:(tick1 now k G).all=G.all:=by
   show Oq k (YX (zp G.lines k) now) G.all=_
   rw[h1];rfl
  obtain⟨g1,g2,g3⟩:=nL hn (ks:=ks) (G:=tick1 now k G) (out:=out++UT (YX (zp G.lines k) now)) (λk' y hy=>h k' y (by rw[←hl k'];exact hy))
  refine⟨g1.trans ha,?_,λk'=>(g3 k').trans (hl k')⟩
  show(uM now ks (tick1 now k G) (out++UT (YX (zp G.lines k) now))).2=out
  rw[g2,h1]
  simp[UT]
def eX(I:FoG rv c F G){now:Int}(hn:now<50):FoG rv c F (qS G now).1∧(qS G now).2 = []∧(qS G now).1.all=G.all∧ln (qS G now).1 rv=ln G rv:=by
 obtain⟨h1,h2,h3⟩:=nL hn (ks:=yT (G.lines.map (·.1))) (G:=G) (out:=[]) (λk y hy=>by
  by_cases e:k=rv
  ·subst e;exact I.C.dl y hy
  ·rw[I.oth k e]at hy;cases hy)
 have e1:(qS G now).1.all=G.all:=h1
 have e3:∀k,zp (qS G now).1.lines k=zp G.lines k:=h3
 refine⟨⟨by rw[e1,e3];exact I.C,λk hk=>by rw[e3];exact I.oth k hk,by rw[e3];exact I.sat,by rw[e1];exact I.ids⟩,h2,e1,e3 rv⟩
end Go.Proofs.YtdcdhcgmeahfmaaGreatDoor
namespace Go.Proofs.YtdcdhcgmeahfmaaGreatDoor
open Go.Dm
def okL(s:B0):Prop:=s.data.toList.head? ≠some 114
def QU{wd:B0}(h:∃x t,wd.data.toList=x::t∧x≠114)(l:List B0):okL (Zv wd l):=by
 obtain⟨x,t,h1,h2⟩:=h
 unfold okL Zv
 rw[vE,List.map_cons,h1]
 cases l with
 | nil=>simp[Lib.join];exact h2
 | cons y l=>simp[Lib.join,List.intercalate];exact h2
def Nb{wd:B0}(h:∃x t,wd.data.toList=x::t∧x≠114)(l m:List B0):okL (Zv (Zv wd l) m):=by
 refine QU ?_ m
 have h1:=QU h l
 obtain⟨x,t,h2,h3⟩:=h
 have:(Zv wd l).data.toList≠[]:=by
  unfold Zv
  rw[vE,List.map_cons,h2]
  cases l<;>simp[Lib.join,List.intercalate]
 cases he:(Zv wd l).data.toList with
 | nil=>exact absurd he this
 | cons y s=>
  refine⟨y,s,rfl,λe=>h1 ?_⟩
  rw[he,e];rfl
def ey:∃x t,jY.data.toList=x::t∧x≠114:=⟨_,_,rfl,by decide⟩
def HW:∃x t,wl.data.toList=x::t∧x≠114:=⟨_,_,rfl,by decide⟩
def HX:∃x t,wm.data.toList=x::t∧x≠114:=⟨_,_,rfl,by decide⟩
def eA:∃x t,FY.data.toList=x::t∧x≠114:=⟨_,_,rfl,by decide⟩
def IL:∃x t,wj.data.toList=x::t∧x≠114:=⟨_,_,rfl,by decide⟩
def aV:∃x t,fB.data.toList=x::t∧x≠114:=⟨_,_,rfl,by decide⟩
def HU:∃x t,rX.data.toList=x::t∧x≠114:=⟨_,_,rfl,by decide⟩
def HY:∃x t,rY.data.toList=x::t∧x≠114:=⟨_,_,rfl,by decide⟩
def HS:∃x t,th.data.toList=x::t∧x≠114:=⟨_,_,rfl,by decide⟩
def lG{f:yo}(h:f.2.1=1∨f.2.1=3):okL (Xx f):=by
 unfold Xx
 rcases h with h | h
 ·rw[if_pos h];exact QU HU _
 ·rw[if_neg (by rw[h];decide),if_neg (by rw[h];decide),if_pos h];exact QU HY _
abbrev cc(c:Cfg):Int:=@id Int c.2.2.1
structure FI(c:Cfg)(m:Nat)(a:zK):Prop where
 g:FoG wv (cc c) a.fl a.gt
 bk:a.bk.all = [(wv,WT wv 1 c)]
 by':∃xs want left,a.by' = [(wv,⟨xs,want,left⟩)]
 ro:a.ro=ftR
 sh:a.sh.n=2
 pat:a.gt.pat=50
 len:a.gt.all.length≤m
 rm:1≤a.fl.room∧a.fl.room≤10
 fl:(a.fl.l.length:Int)≤a.fl.room
 c0:1≤cc c
 ma:1≤@id Int c.2.2.2.2.1
def RC{c:Cfg}{m:Nat}{a:zK}(I:FI c m a):(XX a.bk wv).2.2=c:=by
 unfold XX
 rw[I.bk]
 unfold zm
 rw[if_pos rfl];rfl
def wJ{c:Cfg}{m:Nat}{a:zK}(I:FI c m a):jA a.bk wv=true:=by
 unfold jA;rw[I.bk];unfold zm;rw[if_pos rfl];rfl
def dP{c:Cfg}{m:Nat}{a:zK}(I:FI c m a):xd a.bk = [wv]:=by unfold xd;rw[I.bk];exact BZ _
def IR:Zy (xG 12 wv)=0:=by decide +kernel
def Ey:Zy (xG 13 wv)=0:=by decide +kernel
def Lt{c:Cfg}{m k:Nat}{a:zK}(I:FI c m a)(inv:yI k a):FI c m (zG a (xG 12 wv)).1∧(zG a (xG 12 wv)).1.fl=a.fl∧(zG a (xG 12 wv)).1.gt=a.gt∧(zG a (xG 12 wv)).1.now=a.now∧
  (∀s∈(zG a (xG 12 wv)).2,okL s)∧(zG a (xG 12 wv)).2.length=1∧(0<uW a.gt wv→1≤CA (zG a (xG 12 wv)).1.by' wv):=by
 obtain⟨xs,want,left,hb⟩:=I.by'
 have e1:zm a.by' wv=some ⟨xs,want,left⟩:=by rw[hb];unfold zm;rw[if_pos rfl]
 have hw:=inv.by'.want (wv,⟨xs,want,left⟩) (by rw[hb];simp)
 have hr:=inv.by'.rng (wv,⟨xs,want,left⟩) (by rw[hb];simp)
 have hsc:(Kc a ⟨xs,want,left⟩ wv).1=0→uW a.gt wv≤0:=λh=>by
  unfold Kc at h
  rw[RC I]at h
  refine Hy I.ma hw.1.1 ?_ h
  rw[Ru]
  exact(Bi (B:=100000000) (by decide) λx hx=>hr x (List.mem_of_mem_drop hx)).1
 have h0:=(CP inv (wJ I) (x:=⟨xs,want,left⟩) hw.2).1.1
 have e2:QS a (xG 12 wv)=({ a with by':=zX a.by' wv ⟨xs,(Kc a ⟨xs,want,left⟩ wv).1,(Kc a ⟨xs,want,left⟩ wv).2⟩ },[Zv (Zv jY [wv]) [jo (Kc a ⟨xs,want,left⟩ wv).1.toNat]]):=by
  unfold QS
  dsimp only
  rw[wJ I,e1]
  rw[if_neg (by decide)]
 rw[fx IR rfl,e2]
 have e3:zX a.by' wv (⟨xs,(Kc a ⟨xs,want,left⟩ wv).1,(Kc a ⟨xs,want,left⟩ wv).2⟩:Oa) = [(wv,⟨xs,(Kc a ⟨xs,want,left⟩ wv).1,(Kc a ⟨xs,want,left⟩ wv).2⟩)]:=by rw[hb];unfold zX;rw[if_pos rfl]
 refine⟨⟨I.g,I.bk,⟨_,_,_,e3⟩,I.ro,I.sh,I.pat,I.len,I.rm,I.fl,I.c0,I.ma⟩,rfl,rfl,rfl,λs hs=>?_,rfl,λhp=>?_⟩
 ·rw[List.mem_singleton]at hs;subst hs
  exact Nb ey _ _
 ·dsimp only
  rw[e3]
  unfold CA zm
  rw[if_pos rfl]
  show 1≤(Kc a ⟨xs,want,left⟩ wv).1
  rcases Int.lt_or_le 0 (Kc a ⟨xs,want,left⟩ wv).1 with h | h
  ·omega
  ·have:=hsc (by omega);omega
def TK:∀{n:Nat}{F:ze}{rv:B0},(shrink rv n F).1.l.length≤F.l.length∧(shrink rv n F).1.room=F.room
 | 0,F,_=>⟨Nat.le_refl _,rfl⟩
 | n+1,F,rv=>by
  obtain⟨h1,h2⟩:=TK (n:=n) (F:=qm rv F) (rv:=rv)
  exact⟨Nat.le_trans h1 (show(YL F.l (vD F.l rv) λp=>(yy p).1).length≤F.l.length from fR _ _ _),h2⟩
def pU:∀{n:Nat}{F:ze}{rv:B0},(shrink rv n F).2.length=n
 | 0,_,_=>rfl
 | n+1,F,rv=>by
  show(vD F.l rv::(shrink rv n (qm rv F)).2).length=_
  rw[List.length_cons,pU]
def AB(l:List Zh)(rv:B0):ZA l rv≤l.length:=by
 unfold ZA revs
 exact Nat.le_trans (List.length_filter_le ..) (List.length_filter_le ..)
def rT{F:ze}{rv:B0}{c want:Int}(h:(F.l.length:Int)≤F.room):((Yn F rv c want).1.l.length:Int)≤F.room∧(Yn F rv c want).1.room=F.room:=by
 obtain⟨h1,h2⟩:=TK (n:=xk (yQ F rv c want) rv want) (F:=yQ F rv c want) (rv:=rv)
 have h3:(yQ F rv c want).l.length=F.l.length+qx F rv want:=Vh _
 have h4:(yQ F rv c want).room=F.room:=Ot _
 have h5:=fQ F rv want
 have e:(Yn F rv c want).1=(shrink rv (xk (yQ F rv c want) rv want) (yQ F rv c want)).1:=rfl
 rw[e]
 exact⟨by omega,h2.trans h4⟩
def Bs{c:Cfg}{m:Nat}{a:zK}(I:FI c m a)(hla:a.fl.last≤1000000):FI c m (zG a (xG 13 wv)).1∧(zG a (xG 13 wv)).1.gt=a.gt∧(zG a (xG 13 wv)).1.now=a.now∧(∀s∈(zG a (xG 13 wv)).2,okL s)∧
  (1≤CA a.by' wv→(1≤ZA a.fl.l wv∨(a.fl.l.length:Int)<a.fl.room)→1≤ZA (zG a (xG 13 wv)).1.fl.l wv)∧(zG a (xG 13 wv)).2.length≤100:=by
 have hrm:=I.rm
 have hfl:=I.fl
 have ec:Xz a wv=cc c:=by unfold Xz;rw[RC I]
 have e2:qt a (xG 13 wv)=({ a with fl:=(Yn a.fl wv (Xz a wv) (yj a wv)).1 },cJ wl (Kt a.fl wv (yj a wv))++cJ wm (Yn a.fl wv (Xz a wv) (yj a wv)).2++[Zv (Zv FY [wv]) [jo (cnt (λs=>s != 3) (jL (Yn a.fl wv (Xz a wv) (yj a wv)).1.l wv)).toNat]]):=by
  unfold qt
  rw[if_neg (by rw[wJ I];decide)]
 obtain⟨C1,h2,h3⟩:=Af (want:=yj a wv) I.g.C (by have:=I.c0;omega) (by omega) (by omega) hla
 obtain⟨h4,h5⟩:=rT (rv:=wv) (c:=cc c) (want:=yj a wv) I.fl
 rw[Oe Ey rfl,e2,ec]
 have hg:=fQ a.fl wv (yj a wv)
 have hsl:=CM (rv:=wv) (yQ a.fl wv (cc c) (yj a wv)) (yj a wv)
 have hcl:=AB (yQ a.fl wv (cc c) (yj a wv)).l wv
 have hgl:(yQ a.fl wv (cc c) (yj a wv)).l.length=a.fl.l.length+qx a.fl wv (yj a wv):=Vh _
 refine⟨⟨⟨C1,I.g.oth,h2 I.g.sat,I.g.ids⟩,I.bk,I.by',I.ro,I.sh,I.pat,I.len,by dsimp only;rw[h5];exact hrm,by dsimp only;rw[h5];exact h4,I.c0,I.ma⟩,rfl,rfl,λs hs=>?_,h3,?_⟩
 ·dsimp only at hs
  rcases List.mem_append.1 hs with hs | hs
  ·rcases List.mem_append.1 hs with hs | hs
   ·obtain⟨x,_,rfl⟩:=List.mem_map.1 hs
    exact QU HW _
   ·obtain⟨x,_,rfl⟩:=List.mem_map.1 hs
    exact QU HX _
  ·rw[List.mem_singleton]at hs;subst hs
   exact Nb eA _ _
 ·dsimp only
  have e6:(Yn a.fl wv (cc c) (yj a wv)).2.length=xk (yQ a.fl wv (cc c) (yj a wv)) wv (yj a wv):=pU
  have e7:(Kt a.fl wv (yj a wv)).length=qx a.fl wv (yj a wv):=by unfold Kt;rw[List.length_map,List.length_range]
  rw[List.length_append,List.length_append,List.length_map,List.length_map,e6,e7,List.length_singleton]
  omega
def z2J{c:Cfg}{m:Nat}{a:zK}(I:FI c m a){x:Zh}(hx:x∈a.fl.l)(h1:x.pod.st=1)(hid:1≤x.id∧x.id≤2147483647):FI c m (zG a (evN 6 x.id)).1∧(zG a (evN 6 x.id)).1.now=a.now∧(∀s∈(zG a (evN 6 x.id)).2,okL s)∧
  (ln (zG a (evN 6 x.id)).1.gt wv).length≤(ln a.gt wv).length∧Tk (jR a.fl x.id).1 (zG a (evN 6 x.id)).1.fl∧(zG a (evN 6 x.id)).2.length≤2+(ln a.gt wv).length∧gK (zG a (evN 6 x.id)).1=gK a:=by
 obtain⟨C1,e1,e2,e3,e4,e5⟩:=eZ I.g.C hx h1
 obtain⟨g1,g2,g3,g4⟩:=Lk (G:=a.gt) C1 I.g.oth I.g.ids
 have hof:fOf (jR a.fl x.id).1.l x.id=wv:=by
  have hin:({ x with pod:=(YW x.pod).1 }:Zh)∈(jR a.fl x.id).1.l:=by
   rw[e2];exact(ko (g:=λp=>(YW p).1) hx).2 rfl (by rw[e3];exact(show ¬(2:Int)=4 by decide))
  have:=Xm C1.ok.pw hin
  unfold fOf
  have h2:Xn (jR a.fl x.id).1.l x.id=some { x with pod:=(YW x.pod).1 }:=this
  rw[h2]
  exact(I.g.C.pod x hx).1
 have hch:Zy (evN 6 x.id)=0:=NH (.inr (.inl rfl)) hid
 have e6:fu a (evN 6 x.id)=({ a with fl:=(yV (jR a.fl x.id).1 a.gt wv).1,gt:=(yV (jR a.fl x.id).1 a.gt wv).2.1,bk:=rq a (evN 6 x.id) },FP a (evN 6 x.id)++(yV (jR a.fl x.id).1 a.gt wv).2.2.map Xx):=by
  unfold fu
  dsimp only
  rw[e1,if_neg (by decide)]
  have hu:Kb a (evN 6 x.id)=yV (jR a.fl x.id).1 a.gt wv:=by
   unfold Kb
   dsimp only
   rw[hof]
  rw[hu]
 have hbk:(rq a (evN 6 x.id)).all=a.bk.all:=by
  unfold rq kJ
  repeat' split
  all_goals rfl
 have hul:=fR a.fl.l x.id (λp=>(YW p).1)
 have hkeys:(yV (jR a.fl x.id).1 a.gt wv).2.1.all.map (·.1)=a.gt.all.map (·.1):=MQ λy hy=>by
  rw[(I.g.C.line y.1).1 (List.mem_map.2 ⟨y,hy,rfl⟩)];rfl
 have hfl:=uV (rev:=wv) (l:=zp a.gt.lines wv) (F:=(jR a.fl x.id).1) (all:=a.gt.all) (out:=[])
 rw[pL hch rfl,e6]
 refine⟨⟨g1,by dsimp only;rw[hbk];exact I.bk,I.by',I.ro,I.sh,I.pat,?_,by dsimp only;rw[g4.rm,e4];exact I.rm,?_,I.c0,I.ma⟩,rfl,λs hs=>?_,g3,g4,?_,hkeys⟩
 ·have:=congrArg List.length hkeys
  rw[List.length_map,List.length_map]at this
  have h:=I.len
  dsimp only
  omega
 ·dsimp only
  rw[g4.rm,g4.ln,e2,e4]
  have:=I.fl
  omega
 ·dsimp only at hs
  rcases List.mem_append.1 hs with hs | hs
  ·unfold FP at hs
   split at hs
   ·rw[List.mem_singleton]at hs;subst hs;exact QU IL _
   ·rcases List.mem_cons.1 hs with rfl | hs
    ·exact QU IL _
    ·rw[List.mem_singleton]at hs;subst hs;exact QU aV _
  ·obtain⟨f,hf,rfl⟩:=List.mem_map.1 hs
   exact lG (.inl (g2 f hf))
 ·dsimp only
  rw[List.length_append,List.length_map]
  have h3:(yV (jR a.fl x.id).1 a.gt wv).2.2.length≤(zp a.gt.lines wv).length:=by
   have h:=hfl.2.2
   rw[List.length_nil,Nat.zero_add]at h
   exact h
  have h5:(ln a.gt wv).length=(zp a.gt.lines wv).length:=rfl
  have h4:(FP a (evN 6 x.id)).length≤2:=by unfold FP;split<;>simp
  omega
def io{c:Cfg}{m:Nat}{a:zK}(I:FI c m a){q:Int}(hq:zm a.gt.all q=some (wv,1)):FI c m (zG a (evN 5 q)).1∧(zG a (evN 5 q)).1.now=a.now∧(∀s∈(zG a (evN 5 q)).2,okL s)∧
  (zG a (evN 5 q)).1.fl=(Yp a.fl a.gt q).1∧(zG a (evN 5 q)).1.gt=(Yp a.fl a.gt q).2.1∧(zG a (evN 5 q)).2.length≤1+(ln a.gt wv).length∧gK (zG a (evN 5 q)).1=gK a:=by
 obtain⟨g1,g2,g3,g4,g5⟩:=Ll I.g hq
 have hid:=I.g.ids _ (yK hq)
 dsimp only at hid
 have hch:Zy (evN 5 q)=0:=NH (.inl rfl) ⟨hid.1,by omega⟩
 obtain⟨r1,r2⟩:=iu I.g hq
 have hkeys:(Yp a.fl a.gt q).2.1.all.map (·.1)=a.gt.all.map (·.1):=by
  rw[Ks I.g hq]
  refine(MQ λy hy=>?_).trans (Qy hq)
  have h1:=(I.g.C.line y.1).1 (List.mem_map.2 ⟨y,hy,rfl⟩)
  exact qe _ _ _ _ (by rw[h1];rfl)
 have hfl:(Yp a.fl a.gt q).2.2.1.length≤1+(ln a.gt wv).length:=by
  rw[Ks I.g hq,List.length_cons]
  have h3:(yV (ZQ a.fl q).1 { a.gt with all:=zX a.gt.all q (wv,3) } wv).2.2.length≤(zp a.gt.lines wv).length:=by
   have h:=(uV (rev:=wv) (l:=zp a.gt.lines wv) (F:=(ZQ a.fl q).1) (all:=zX a.gt.all q (wv,3)) (out:=[])).2.2
   rw[List.length_nil,Nat.zero_add]at h
   exact h
  rw[Nat.add_comm 1]
  exact Nat.succ_le_succ h3
 rw[pM hch rfl]
 unfold vP
 dsimp only
 rw[g2]
 rw[if_neg (by decide)]
 have hpat:(Yp a.fl a.gt q).2.1.pat=a.gt.pat:=by rw[Ks I.g hq];rfl
 refine⟨⟨g1,I.bk,I.by',I.ro,I.sh,by dsimp only;rw[hpat];exact I.pat,?_,by dsimp only;rw[r1];exact I.rm,by dsimp only;rw[r1];have:=I.fl;omega,I.c0,I.ma⟩,rfl,λs hs=>?_,rfl,rfl,by rw[List.length_map];exact hfl,hkeys⟩
 ·have:=congrArg List.length hkeys
  rw[List.length_map,List.length_map]at this
  have h:=I.len
  dsimp only
  omega
 ·obtain⟨f,hf,rfl⟩:=List.mem_map.1 hs
  exact lG (g3 f hf)
def nM{now:Int}:∀{ks:List B0}{G:Ze}{out:List yo},(uM now ks G out).1.pat=G.pat
 | [],_,_=>rfl
 | k::ks,G,out=>(nM (ks:=ks) (G:=tick1 now k G)).trans rfl
def sI{G:Ze}(now:Int):(qS G now).1.pat=G.pat:=nM
def Br{c:Cfg}{m:Nat}{a:zK}(I:FI c m a)(hn:a.now+1<50):FI c m (zG a (kG 9)).1∧(zG a (kG 9)).1.now=a.now+1∧(zG a (kG 9)).1.fl=a.fl∧(zG a (kG 9)).1.gt.all=a.gt.all∧ln (zG a (kG 9)).1.gt wv=ln a.gt wv∧
  (∀s∈(zG a (kG 9)).2,okL s)∧(zG a (kG 9)).2.length=1:=by
 obtain⟨h1,h2,h3,h4⟩:=eX I.g hn
 obtain⟨xs,want,left,hb⟩:=I.by'
 have e:xZ a=({ a with gt:=(tkG a).1,now:=a.now+1,by':=(xd a.bk).foldl (gx (tkG a).1) a.by' },Zv th [jo (a.now+1).toNat]::(tkG a).2.map Xx):=by
  unfold xZ;rw[if_neg (by omega)]
 have hpat:(qS a.gt (a.now+1)).1.pat=a.gt.pat:=sI _
 rw[FU iA rfl,e]
 refine⟨⟨h1,I.bk,?_,I.ro,I.sh,by dsimp only;rw[hpat];exact I.pat,by dsimp only;rw[h3];exact I.len,I.rm,I.fl,I.c0,I.ma⟩,rfl,rfl,h3,h4,λs hs=>?_,?_⟩
 ·dsimp only
  rw[dP I,List.foldl_cons,List.foldl_nil,hb]
  unfold gx
  have e1:zm [(wv,(⟨xs,want,left⟩:Oa))] wv=some ⟨xs,want,left⟩:=by unfold zm;rw[if_pos rfl]
  rw[e1]
  dsimp only
  unfold zX
  rw[if_pos rfl]
  exact⟨_,_,_,rfl⟩
 ·dsimp only at hs
  have h2:(tkG a).2 = []:=h2
  rw[h2]at hs
  have hs:s=Zv th [jo (a.now+1).toNat]:=by simpa using hs
  subst hs
  exact QU HS _
 ·dsimp only
  have h2:(tkG a).2 = []:=h2
  rw[h2];rfl
end Go.Proofs.YtdcdhcgmeahfmaaGreatDoor
namespace Go.Dm
def z2W(P:Program)(w0:World)(G:Nat→List Seg→Prop)(A:List Seg)(fv:Value)(n:Nat)(arg:Nat→List Value):Prop:=
 ∀(yv:FV)(R:Value→PT)(J:Nat→List Seg→Prop)(Jd:World→Prop)(F:List Seg)(w:World),(∀m F,J m F→G m F)→St w0 (A++F) w→J 0 F→
  (∀m F X w,m<n→J m F→St w0 (A++(F++X)) w→xj P yv.val (arg m) w λv w'=>(v = .bool true∧∃F',St w0 (A++(F'++X)) w'∧J (m+1) F')∨(v = .bool false∧Jd w'))→
  (∀F w,J n F→St w0 (A++F) w→R (.tuple #[]) w)→(∀w,Jd w→R (.tuple #[]) w)→KW P fv [yv.val] w R
def aw{P:Program}{w0 w:World}{G:Nat→List Seg→Prop}{A F:List Seg}{fv:Value}{n:Nat}{es:List E1}{arg:Nat→TT es}(hY:z2W P w0 G A fv n λm=>TV es (arg m))(h:St w0 (A++F) w){body:Nat→TT es→(Value→PT)→PT}{K:List Nat→Option Code→PT}
  (Inv:Nat→List Seg→Prop) (Ex:Code→List Seg→Prop) (h0:Inv 0 F) (hG:∀m F s1 s2,Inv m F→G m (s1::s2::F))
  (hb:∀m F X w l lp d(R:Value→PT),m<n→Inv m F→St w0 ([Rec l lp .ready none]::[DfM d]::(A++(F++X))) w→
   (∀F' w',Inv (m+1) F'→St w0 ([Rec l lp .busy none]::[DfM d]::(A++(F'++X))) w'→L.endRound P l none R w')→
   (∀j G w',Ex j G→St w0 ([Rec l lp .busy none]::[DfM d]::(G++X)) w'→L.endRound P l (some j) R w')→body l (arg m) R w)
  (hc:∀d F w,Inv n F→St w0 ([DfM d]::(A++F)) w→K [d] none w)
  (he:∀d j G w,Ex j G→St w0 ([DfM d]::G) w→K [d] (some j) w):L.range P none fv es body K w:=by
 refine rng h λd l lp w h hy=>?_
 have h:St w0 (A++([[Rec l lp .ready none],[DfM d]]++F)) w:=St.toFront (G:=A) (A:=[[Rec l lp .ready none],[DfM d]]) h
 refine hY ⟨.yield l,#[],#[]⟩ _ (λm G=>∃F,G = [[Rec l lp .ready none],[DfM d]]++F∧Inv m F) (λw=>∃G j,St w0 ([Rec l lp .done (some j)]::[DfM d]::G) w∧Ex j G) _ w ?_ h ⟨F,rfl,h0⟩ ?_ ?_ ?_
 ·rintro m _ ⟨F,rfl,hi⟩
  exact hG m F _ _ hi
 ·rintro m G X w hm ⟨F,rfl,hi⟩ h
  have h:St w0 ([Rec l lp .ready none]::[DfM d]::(A++(F++X))) w:=St.toFront (A:=A) (G:=[[Rec l lp .ready none],[DfM d]]) (F:=F++X) h
  have hrec:=(h.at 0 (b:=(Rec l lp .ready none).1) (o:=(Rec l lp .ready none).2) rfl).2
  refine hy (arg m) .ready none w _ hrec ?_
  refine hb m F X w l lp d _ hm hi h ?_ ?_
  ·intro F' w' hi' h'
   refine Ar h' 0 rfl λw h=>.inl ⟨rfl,_,?_,F',rfl,hi'⟩
   exact St.toFront (G:=A) (A:=[[Rec l lp .ready none],[DfM d]]) (F:=F'++X) h
  ·intro j G w' hi' h'
   exact Ep h' 0 rfl λw h=>.inr ⟨rfl,G,j,St.cut (A:=[Rec l lp .done (some j)]::[DfM d]::G) (X:=X) h,hi'⟩
 ·rintro G w ⟨F,rfl,hi⟩ h
  refine dV h.toFront 0 rfl (by simp) λw h=>hc d F w hi h
 ·rintro w ⟨G,j,h,hi⟩
  refine dV h 0 rfl (by simp) λw h=>he d j G w hi h
end Go.Dm
namespace Go.Proofs.YtdcdhcgmeahfmaaGreatDoor
open Go.Dm
attribute [local irreducible] L.load L.store L.chk L.new L.nonnil L.guard L.ite L.draw L.idx L.sem L.semR L.semU L.chkSem L.next L.call L.callV L.join L.alts L.loop L.begin L.endRound L.range
variable {w0 w:World}{E:List Seg}
abbrev fnB(c2 c1:Nat):Seg:=[Cl c2 QE [.func (.func Ji) #[] #[],.func (.func Jh) #[] #[],.func (.func Jg) #[] #[.pointer (some ⟨c1,0,none⟩)],.func (.func Je) #[] #[.pointer (some ⟨c1,0,none⟩)]]]
def iJ{b c1 c2 c3:Nat}{a:zK}(hA:xd a.bk = []) :
  z2W Pr w0 (λm F=>m=0→∃i s,nth F i=some s∧yN b a s) [[Cl c3 zJ [.slice (some ⟨c2,0,none⟩) 4 4]],fnB c2 c1,[Cl c1 zD [.pointer (some ⟨b,0,none⟩)]]]
   (.func (.func Jc) #[] #[.pointer (some ⟨c3,0,none⟩),.pointer (some ⟨c1,0,none⟩)]) 1 λ_=>TV [.agg Aq] ((kG 9).t,()):=by
 intro yv R J Jd F w hG h hJ step fin fin2
 refine⟨GF,GH yv ⟨c3,0,none⟩ ⟨c1,0,none⟩ ?_⟩
 unfold VF
 obtain⟨i,s,hi,hs⟩:=hG 0 F hJ rfl
 have h:St w0 ([Cl c3 zJ [.slice (some ⟨c2,0,none⟩) 4 4]]::fnB c2 c1::[Cl c1 zD [.pointer (some ⟨b,0,none⟩)]]::F) w:=h
 (refine ldC h ?_)
 refine zW (λq y w=>∃j:Nat,@Eq Int y.1 j∧q+j=4∧St w0 ([Cl c3 zJ [.slice (some ⟨c2,0,none⟩) 4 4]]::fnB c2 c1::[Cl c1 zD [.pointer (some ⟨b,0,none⟩)]]::F) w) 4 ⟨0,rfl,rfl,h⟩ ?_
 clear h
 rintro q ⟨y,⟨⟩⟩ w ⟨j,hy,hq,h⟩ again hag
 (try dsimp only)
 simp only at hy
 subst hy
 refine it (λhb=>?_) (λhb=>?_)<;>(try simp only[zB]at hb)
 ·have hj:j<4:=by omega
  have hv:∃f:FV,nth [Value.func (.func Ji) #[] #[],.func (.func Jh) #[] #[],.func (.func Jg) #[] #[.pointer (some ⟨c1,0,none⟩)],.func (.func Je) #[] #[.pointer (some ⟨c1,0,none⟩)]] j=some f.val:=by
   rcases j with _ | _ | _ | _ | j
   ·exact⟨⟨_,_,_⟩,rfl⟩
   ·exact⟨⟨_,_,_⟩,rfl⟩
   ·exact⟨⟨_,_,_⟩,rfl⟩
   ·exact⟨⟨_,_,_⟩,rfl⟩
   ·omega
  obtain⟨f,hf⟩:=hv
  refine ix (by omega) (by omega) ?_
  have e:(⟨c2,0,none⟩:Addr).add ((j:Int).toNat*1)=⟨c2,j,none⟩:=by
   unfold Addr.add
   by_cases h0:j=0
   ·subst h0;rfl
   ·simp[h0]
  rw[e]
  refine ld h (l:=.func) 1 rfl (x:=f) hf ?_
  (refine ldC h ?_)
  refine fZ h (i+3) hi hs λv sv w r h=>?_
  have l2:=Rw.len ya r
  rw[hA]at l2
  refine zW (λq y w=>@Eq Int y.1 0∧St w0 (sv::[Cl c3 zJ [.slice (some ⟨c2,0,none⟩) 4 4]]::fnB c2 c1::[Cl c1 zD [.pointer (some ⟨b,0,none⟩)]]::F) w) 0 ⟨rfl,h⟩ ?_
  clear h
  rintro q' ⟨y,⟨⟩⟩ w ⟨hy,h⟩ again2 hag2
  (try dsimp only)
  simp only at hy
  subst hy
  refine itF (by rw[l2];rfl) ?_
  refine hag (q-1) _ w (by omega) ⟨j+1,?_,by omega,zl h⟩
  show Wi _=_
  rw[wr (by omega) (by omega)];omega
 ·have step:=step 0 F [] w (by omega) hJ (by rw[List.append_nil];exact h)
  refine cv (xj.mono step λu w' hu=>?_)
  rcases hu with ⟨rfl,F',h,hJ⟩ | ⟨rfl,hd⟩
  ·exact⟨true,rfl,fin F' w' hJ (by rw[List.append_nil]at h;exact h)⟩
  ·exact⟨false,rfl,fin2 w' hd⟩
def wZ [Jp w0]{b:Nat}{a:zK}{s:Seg}(h:St w0 (s::E) w)(hs:yN b a s)(hA:xd a.bk = [])(hnow:0≤a.now)(hwk:GWk a.gt)(htk:(tkG a).2 = [])(hby:a.by' = [])(hl:(xZ a).2.length<1000){k:Sl→PT}
  (hbk:a.bk.all.length<1000000) (hk:∀v sv w',Rw eS zc 1 v (xZ a).2 sv→St w0 (sv::E) w'→k v w'):L.call Pr Uz [pO b] (.one (.one .slice)) k w:=by
 refine za (PS _) ?_
 unfold gV
 refine nw h ?_;clear h;intro b1 w h
 refine nw h ?_;clear h;intro b2 w h
 (refine ldC h ?_)
 refine za (Mv _) ?_
 unfold oW
 refine nw h ?_;clear h;intro c1 w h
 refine nw h ?_;clear h;intro c2 w h
 refine nw h ?_;clear h;intro c3 w h
 (refine stC h ?_;clear h;intro w h;dsimp only[zP,zd]at h)
 refine⟨⟨.func Jc,#[],#[.pointer (some ⟨c3,0,none⟩),.pointer (some ⟨c1,0,none⟩)]⟩,rfl,?_⟩
 have h:St w0 ([[Cl c3 zJ [.slice (some ⟨c2,0,none⟩) 4 4]],fnB c2 c1,[Cl c1 zD [.pointer (some ⟨b,0,none⟩)]]]++([]::[Cl b2 zj [.slice none 0 0]]::[Cl b1 zD [.pointer (some ⟨b,0,none⟩)]]::s::E)) w:=h.eq (by simp)
 have hY:=iJ (w0:=w0) (b:=b) (c1:=c1) (c2:=c2) (c3:=c3) hA
 refine aw (es:=[.agg Aq]) (arg:=λ_=>((kG 9).t,())) hY h
  (λm F=>∃v sv s',Rw eS zc 1 v (if m=0 then []else(xZ a).2) sv∧(m=0→yN b a s')∧F=sv::[Cl b2 zj [.slice v.a v.len v.cap]]::[Cl b1 zD [.pointer (some ⟨b,0,none⟩)]]::s'::E)
  (λ_ _=>False) ⟨⟨none,0,0⟩,[],s,Rw.nil,λ_=>hs,rfl⟩ ?_ ?_ ?_ (λ_ _ _ _ hh=>hh.elim)
 ·rintro m F s1 s2 ⟨v,sv,s',r,hs',rfl⟩ hm
  exact⟨5,s',rfl,hs' hm⟩
 ·clear h
  rintro m F X w l lp d R hm ⟨v,sv,s,r,hs,rfl⟩ h hn -
  have hm0:m=0:=by omega
  subst hm0
  rw[if_pos rfl]at r
  have hs:=hs rfl
  (try dsimp only)
  refine nw h ?_;clear h;intro b10 w h
  have h:St w0 ([Cl b10 _ _]::[Rec l lp .ready none]::[DfM d]::[Cl c3 zJ [.slice (some ⟨c2,0,none⟩) 4 4]]::fnB c2 c1::[Cl c1 zD [.pointer (some ⟨b,0,none⟩)]]::sv::[Cl b2 zj [.slice v.a v.len v.cap]]::[Cl b1 zD [.pointer (some ⟨b,0,none⟩)]]::s::(E++X)) w:=h
  (refine stC h ?_;clear h;intro w h;(try dsimp only[zP,zd]at h))
  refine bgn h 1 rfl λw h=>?_
  dsimp only[zd]at h
  (refine dr h ?_;clear h;intro w h;refine ldC h ?_;refine ldC h ?_;refine laC h ?_)
  refine LR h 9 rfl hs (e:=kG 9) rfl iA (λ_ _=>Rd.nil) (by decide) (by simp[vp]) hnow hwk (by rw[htk];decide) (by rw[htk];simp) (by rw[hA];simp) (by rw[hby];simp) hbk λv3 s3 s' w r3 hs h=>?_
  dsimp only[zd]at h
  (refine ckC h ?_)
  refine Rw.appRd ya elS h 7 rfl r (Rw.rd ya h 0 rfl r3) (by simp only[List.length_nil];omega) (by simp only[List.length_nil];omega) λv4 s4 w r4 _ _ h=>?_
  dsimp only[zd]at h
  (refine stC h ?_;clear h;intro w h;dsimp only[zP,zd]at h)
  refine hn (s4::[Cl b2 zj [.slice v4.a v4.len v4.cap]]::[Cl b1 zD [.pointer (some ⟨b,0,none⟩)]]::s'::E) w ⟨v4,s4,s',by simpa using r4,(by intro hh;omega),rfl⟩ ?_
  exact zl (zl h)
 ·clear h
  rintro d F w ⟨v,sv,s',r,-,rfl⟩ h
  rw[if_neg (by decide)]at r
  refine VQ ?_
  have h:St w0 ([DfM d]::[Cl c3 zJ [.slice (some ⟨c2,0,none⟩) 4 4]]::fnB c2 c1::[Cl c1 zD [.pointer (some ⟨b,0,none⟩)]]::sv::[Cl b2 zj [.slice v.a v.len v.cap]]::[Cl b1 zD [.pointer (some ⟨b,0,none⟩)]]::s'::E) w:=h
  (refine ldC h ?_)
  refine Fb h (Rw.rd ya h 4 rfl r) (by omega) (Rw.nil0 ya r) λv' s2 w r2 hi h=>?_
  (first | refine gw h ?_ | refine gv h ?_ | refine gu h ?_ | refine gq h ?_ | refine gp h ?_ | refine gn h ?_ | refine gm h ?_ | refine gk h ?_ | refine gj h ?_ | refine gi h ?_ | refine Uj h ?_ | refine Ui h ?_);clear h;intro w h
  refine⟨v',rfl,hk v' s2 w r2 ?_⟩
  have h:=Yf (oS (ol (kH (tR (dY (z2Q h))))))
  exact h
def gT{p0 p1:Int}(h:0<p1)(hp:p1≤2147483648){k:Int→PT}(hk:k (p0%p1) w):L.call Pr YS [I p0,I p1] (.one (.one (.int .i64))) k w:=by
 refine za (FF p0 p1) ?_
 unfold Vs
 refine gd (by omega) ?_
 have h1:=Int.emod_nonneg p0 (by omega:p1≠0)
 have h2:=Int.emod_lt_of_pos p0 h
 have e:=TE p0 p1 h
 refine ZU (λz w'=>z.1=p0%p1∧w'=w) (λk' hk'=>?_) (λy w' ⟨h1,h2⟩=>by subst h2;exact⟨_,rfl,by rw[h1];exact hk⟩)
 refine it (λhb=>?_) (λhb=>?_)<;>(try simp only[zB]at hb)
 ·refine hk' _ _ ⟨?_,rfl⟩
  rw[e]at hb
  dsimp only
  rw[e]
  split at hb<;>rename_i hc
  ·omega
  ·rw[if_neg hc,wr]<;>omega
 ·refine hk' _ _ ⟨?_,rfl⟩
  rw[e]at hb
  dsimp only
  rw[e]
  split at hb<;>rename_i hc
  ·rw[if_pos hc]
  ·omega
def AN [Jp w0](h:St w0 E w){k:Bool→PT}(hk:∀w',St w0 E w'→k true w'):L.call Pr QO [] (.one (.one .bool)) k w:=by
 refine za mL ?_
 unfold kg
 refine LM h (λhh=>absurd hh (by decide)) λ_ b s w hs h=>?_
 refine itF rfl ?_
 have e1:xd (vq 1 0 1).bk = []:=by simp[vq,xd,aa]
 have e2:(xZ (vq 1 0 1)).2 = [fA]:=by decide +kernel
 have e3:(tkG (vq 1 0 1)).2 = []:=by decide +kernel
 refine wZ h hs e1 (by decide) (λx hx=>by cases hx) e3 rfl (by rw[e2];decide) (by decide) λv sv w r h=>?_
 rw[e2]at r
 have l2:=Rw.len ya r
 refine za (Mw _ _) ?_
 unfold oX
 refine itF rfl ?_
 refine gd (by decide) ?_
 refine⟨2,rfl,?_⟩
 refine itT rfl ?_
 refine itT (by rw[l2];rfl) ?_
 refine Rw.ix ya r (by decide) (by decide) λa ha=>?_
 refine Rw.ld0 ya h 0 rfl r ha (x:=fA) rfl rfl rfl ?_
 refine⟨true,?_,hk w (zl h)⟩
 show Value.bool (fA.toList == fA.toList)=Value.bool true
 rw[beq_self_eq_true]
def rnP(a b:Int):Int:=Wi ((Wi (Int.tdiv (Wi ((Wi ((if 0>b then 0 else b)+a))-1)) a))+2)
def AQ{a b:Int}(ha:0<a){k:Int→PT}(hk:k (rnP a b) w):L.call Pr vT [I a,I b] (.one (.one (.int .i64))) k w:=by
 refine za (Mw a b) ?_
 unfold oX
 refine itF (by simp;omega) ?_
 refine gd (by omega) ?_
 exact⟨_,rfl,hk⟩
def z2N:El Pr xO zC 15 176 (.agg #[I 0,.string s_,.string s_,I 0,I 0,.string s_,I 0,I 0,I 0,I 0,I 0,.string s_,.string s_,.slice none 0 0,I 0]):=fS (by kernel_rfl) (by kernel_rfl) rfl (by decide)
def ba(h:St w0 E w)(i:Nat){b:Nat}{a:zK}{s:Seg}(hi:nth E i=some s)(hs:yN b a s){rev:B0}{k:Sl→PT}(hk:∀v sv w',Rw eK JD 3 v (jL a.fl.l rev) sv→St w0 (sv::E) w'→k v w'):L.call Pr xz [pO b,.string rev] (.one (.one .slice)) k w:=by
 obtain⟨p,sg,sf,ss,sk,sr,sm,Q,R,rfl⟩:=hs
 refine za (Vw _ _) ?_
 unfold Qc
 have h:=(h.front i hi).split8
 (refine nn ?_;refine ldC h ?_)
 refine BL h 2 rfl R.fl λv s w hr h=>⟨v,rfl,hk v s w hr ?_⟩
 have h:=Jk (Jk (Jk (Jk (Jk (Jk (Jk (Jk h)))))))
 have h:=h.glue8
 exact St.again (i+1) (E:=s::E) hi h
def VL(l:List (Int×Int×Int)):List AEv:=(l.filter λx=>x.2.1 == 1).map λx=>evN 6 x.1
def yZ(l:List Int):List AEv:=l.map λq=>evN 5 q
def Ah{α:Type}{p:α→Bool}{l:List α}{j:Nat}{x:α}(h:l[j]? = some x):(l.take (j+1)).filter p=(l.take j).filter p++(if p x=true then [x]else []):=by
 rw[List.take_add_one,h,List.filter_append]
 congr 1
 by_cases hp:p x=true<;>simp[hp]
def z2Y(h:St w0 E w)(i:Nat){b:Nat}{a:zK}{s:Seg}(hi:nth E i=some s)(hs:yN b a s){rev:B0}(hn:(jL a.fl.l rev).length<1000000){k:Sl→PT}(hk:∀v sv w',Rw eEv zC 15 v (VL (jL a.fl.l rev)) sv→St w0 (sv::E) w'→k v w') :
  L.call Pr MG [pO b,.string rev] (.one (.one .slice)) k w:=by
 refine za (bG _ _) ?_
 unfold Dx
 refine ba h i hi hs λv sv w r h=>?_
 generalize jL a.fl.l rev=l at *
 have hlen:=Rw.len DT r
 refine zW (λq y w=>∃(j:Nat)(vv:Sl)(s2:Seg),y=(vv,(j:Int),())∧q+j=l.length∧Rw eEv zC 15 vv (VL (l.take j)) s2∧St w0 (s2::sv::E) w) l.length ⟨0,⟨none,0,0⟩,[],rfl,rfl,Rw.nil,h.eq (by simp)⟩ ?_
 clear h
 rintro q y w ⟨j,vv,s2,rfl,hq,r2,h⟩ again hag
 (try dsimp only)
 refine it (λhc=>?_) (λhc=>?_)<;>(try simp only[zB]at hc)
 ·have hj:j<l.length:=by omega
  have hx:l[j]? = some l[j]:=List.getElem?_eq_getElem hj
  have hf:=Ah (p:=λx:Int×Int×Int=>x.2.1 == 1) hx
  generalize l[j]=x at hx hf
  refine ZU (λz w=>∃(vv:Sl)(s2:Seg),z=(vv,())∧Rw eEv zC 15 vv (VL (l.take (j+1))) s2∧St w0 (s2::sv::E) w) (λk4 hk4=>?_) ?_
  ·refine Rw.ix DT r (by omega) (by simpa using hj) λa6 ha=>?_
   simp only[Int.toNat_natCast]at ha
   refine Rw.lda DT h 1 rfl r ha hx (y:=(x.1,x.2.1,x.2.2,())) rfl ?_
   refine nw h ?_;clear h;intro b8 w h
   (refine stC h ?_;clear h;intro w h;dsimp only[zP,zd]at h;refine ldC h ?_)
   refine it (λhd=>?_) (λhd=>?_)<;>(try simp only[zB]at hd)
   ·(refine ldC h ?_)
    refine nw h ?_;clear h;intro b11 w h
    have ll:(VL (l.take j)).length≤1000000:=by
     unfold VL
     rw[List.length_map]
     have:=List.length_filter_le (λx:Int×Int×Int=>x.2.1 == 1) (l.take j)
     rw[List.length_take]at this
     omega
    refine Rw.app (l:=VL (l.take j)) Mb z2N h 1 rfl r2 (evN 6 x.1) rfl (by omega) (by omega) λv' s' w r3 h=>?_
    dsimp only[zd]at h
    refine hk4 _ w ⟨v',s',rfl,?_,zl h⟩
    have e:VL (l.take (j+1))=VL (l.take j)++[evN 6 x.1]:=by
     unfold VL
     rw[hf,if_pos (by simpa using hd)]
     simp
    rw[e];exact r3
   ·refine hk4 _ w ⟨vv,s2,rfl,?_,zl h⟩
    have e:VL (l.take (j+1))=VL (l.take j):=by
     unfold VL
     rw[hf,if_neg (by simpa using hd),List.append_nil]
    rw[e];exact r2
  ·clear h r2
   rintro z w ⟨vv,s2,rfl,r2,h⟩
   (try dsimp only)
   refine hag (q-1) _ w (by omega) ⟨j+1,vv,s2,?_,by omega,r2,h⟩
   rw[wr (by omega) (by omega)];congr 1
 ·have e:l.take j=l:=List.take_of_length_le (by omega)
  rw[e]at r2
  exact⟨vv,rfl,hk vv s2 w r2 (Yf h)⟩
def It(h:St w0 E w)(i:Nat){b:Nat}{a:zK}{s:Seg}(hi:nth E i=some s)(hs:yN b a s){rev:B0}(hn:(jy a.gt.all rev).length<100000000){k:Sl→PT}(hk:∀v sv s' w',Rw eEv zC 15 v (yZ (jy a.gt.all rev)) sv→yN b a s'→St w0 (sv::zd E i s') w'→k v w') :
  L.call Pr gL [pO b,.string rev] (.one (.one .slice)) k w:=by
 refine za (Wv _ _) ?_
 unfold PK
 refine cr h i hi hs λv1 v2 s1 s2 s' w r1 r hs h=>?_
 generalize jy a.gt.all rev=l at *
 have h:=zl h
 have hlen:=Rw.len Yt r
 refine zW (λq y w=>∃(j:Nat)(vv:Sl)(s3:Seg),y=(vv,(j:Int),())∧q+j=l.length∧Rw eEv zC 15 vv (yZ (l.take j)) s3∧St w0 (s3::s2::zd E i s') w) l.length ⟨0,⟨none,0,0⟩,[],rfl,rfl,Rw.nil,h.eq (by simp)⟩ ?_
 clear h
 rintro q y w ⟨j,vv,s3,rfl,hq,r2,h⟩ again hag
 (try dsimp only)
 refine it (λhc=>?_) (λhc=>?_)<;>(try simp only[zB]at hc)
 ·have hj:j<l.length:=by omega
  have hx:l[j]? = some l[j]:=List.getElem?_eq_getElem hj
  have ht:l.take (j+1)=l.take j++[l[j]]:=by rw[List.take_add_one,hx];rfl
  generalize l[j]=x at hx ht
  refine Rw.ix Yt r (by omega) (by simpa using hj) λa4 ha=>?_
  simp only[Int.toNat_natCast]at ha
  refine Rw.ld0 Yt h 1 rfl r ha (x:=x) hx rfl rfl ?_
  refine nw h ?_;clear h;intro b6 w h
  refine Rw.app (l:=yZ (l.take j)) Mb z2N h 0 rfl r2 (evN 5 x) rfl (by unfold yZ;rw[List.length_map,List.length_take];omega) (by unfold yZ;rw[List.length_map,List.length_take];omega) λv' s' w r3 h=>?_
  dsimp only[zd]at h
  refine hag (q-1) _ w (by omega) ⟨j+1,v',s',?_,by omega,?_,h⟩
  ·rw[wr (by omega) (by omega)];congr 1
  ·have e:yZ (l.take (j+1))=yZ (l.take j)++[evN 5 x]:=by unfold yZ;rw[ht];simp
   rw[e];exact r3
 ·have e:l.take j=l:=List.take_of_length_le (by omega)
  rw[e]at r2
  exact⟨vv,rfl,hk vv s3 s' w r2 hs (Yf h)⟩
def yx(k:Nat)(a:zK)(rev:B0):List AEv:=
 if k=0 then [xG 12 rev]else if k=1 then [xG 13 rev]else if k=2 then VL (jL a.fl.l rev)else yZ (jy a.gt.all rev)
def QI(k:Nat):zK→List B0→List AEv
 | _,[]=>[]
 | a,r::rs=>yx k a r++QI k (zE a (yx k a r)) rs
def ud:List Nat→zK→List AEv
 | [],_=>[]
 | k::ks,a=>QI k a (xd a.bk)++ud ks (zE a (QI k a (xd a.bk)))
def yC(a:zK):List AEv:=ud [0,1,2,3] a++[kG 9]
def uj(a:zK)(l m:List AEv):zE a (l++m)=zE (zE a l) m:=by unfold zE;rw[List.foldl_append]
structure LT(a:zK):Prop where
 bk:(xd a.bk).length<1000000
 ins:∀rev,(jL a.fl.l rev).length<1000000∧(jy a.gt.all rev).length<100000000
def LT.rev{a:zK}(h:LT a)(k:Nat)(rev:B0):(yx k a rev).length<1000000000:=by
 obtain⟨h1,h2⟩:=h.ins rev
 unfold yx
 split
 ·simp
 split
 ·simp
 split
 ·unfold VL
  rw[List.length_map]
  have:=List.length_filter_le (λx:Int×Int×Int=>x.2.1 == 1) (jL a.fl.l rev)
  omega
 ·unfold yZ
  rw[List.length_map]
  omega
def LT.of_inv{k:Nat}{a:zK}(inv:yI k a)(hk:k≤9000):LT a:=by
 refine⟨?_,λrev=>⟨?_,?_⟩⟩
 ·unfold xd
  rw[jk,List.length_map]
  have:=inv.bk.len;omega
 ·unfold jL revs
  rw[List.length_map]
  have:=List.length_filter_le (λx:Zh=>decide (x.rev=rev)) a.fl.l
  have h2:=inv.fl.few.l20
  exact Nat.lt_of_le_of_lt (Nat.le_trans (List.length_filter_le ..) h2) (by decide)
 ·unfold jy
  rw[kW,List.length_map]
  have h2:=inv.gt.all
  exact Nat.lt_of_le_of_lt (List.length_filter_le ..) (by omega)
def z2V(w0:World)(b:Nat)(am:Nat→zK)(A:List Seg)(fv:Value)(n:Nat)(arg:Nat→List Value):Prop:=
 ∀(yv:FV)(R:Value→PT)(J:Nat→List Seg→Prop)(Jd:World→Prop)(F:List Seg)(w:World),(∀m F,J m F→LT (am m)∧∃i s,nth F i=some s∧yN b (am m) s∧∀s',yN b (am m) s'→J m (zd F i s'))→St w0 (A++F) w→J 0 F→
  (∀m F X w,m<n→J m F→St w0 (A++(F++X)) w→xj Pr yv.val (arg m) w λv w'=>(v = .bool true∧∃F',St w0 (A++(F'++X)) w'∧J (m+1) F')∨(v = .bool false∧Jd w'))→
  (∀F w,J n F→St w0 (A++F) w→R (.tuple #[]) w)→(∀w,Jd w→R (.tuple #[]) w)→KW Pr fv [yv.val] w R
def av{b:Nat}{am:Nat→zK}{A F:List Seg}{fv:Value}{n:Nat}{es:List E1}{arg:Nat→TT es}(hY:z2V w0 b am A fv n λm=>TV es (arg m))(h:St w0 (A++F) w){body:Nat→TT es→(Value→PT)→PT}{K:List Nat→Option Code→PT}
  (Inv:Nat→List Seg→Prop) (h0:Inv 0 F) (hG:∀m F,Inv m F→LT (am m)∧∃i s,nth F i=some s∧yN b (am m) s∧∀s',yN b (am m) s'→Inv m (zd F i s'))
  (hb:∀m F X w l lp d(R:Value→PT),m<n→Inv m F→St w0 ([Rec l lp .ready none]::[DfM d]::(A++(F++X))) w→
   (∀F' w',Inv (m+1) F'→St w0 ([Rec l lp .busy none]::[DfM d]::(A++(F'++X))) w'→L.endRound Pr l none R w')→body l (arg m) R w)
  (hc:∀d F w,Inv n F→St w0 ([DfM d]::(A++F)) w→K [d] none w):L.range Pr none fv es body K w:=by
 refine rng h λd l lp w h hy=>?_
 have h:St w0 (A++([[Rec l lp .ready none],[DfM d]]++F)) w:=St.toFront (G:=A) (A:=[[Rec l lp .ready none],[DfM d]]) h
 refine hY ⟨.yield l,#[],#[]⟩ _ (λm G=>∃F,G = [[Rec l lp .ready none],[DfM d]]++F∧Inv m F) (λw=>False) _ w ?_ h ⟨F,rfl,h0⟩ ?_ ?_ (λ_ hh=>hh.elim)
 ·rintro m _ ⟨F,rfl,hi⟩
  obtain⟨hw,i,s,h1,h2,h3⟩:=hG m F hi
  exact⟨hw,i+2,s,h1,h2,λs' hs'=>⟨zd F i s',rfl,h3 s' hs'⟩⟩
 ·rintro m G X w hm ⟨F,rfl,hi⟩ h
  have h:St w0 ([Rec l lp .ready none]::[DfM d]::(A++(F++X))) w:=St.toFront (A:=A) (G:=[[Rec l lp .ready none],[DfM d]]) (F:=F++X) h
  have hrec:=(h.at 0 (b:=(Rec l lp .ready none).1) (o:=(Rec l lp .ready none).2) rfl).2
  refine hy (arg m) .ready none w _ hrec ?_
  refine hb m F X w l lp d _ hm hi h ?_
  intro F' w' hi' h'
  refine Ar h' 0 rfl λw h=>.inl ⟨rfl,_,?_,F',rfl,hi'⟩
  exact St.toFront (G:=A) (A:=[[Rec l lp .ready none],[DfM d]]) (F:=F'++X) h
 ·rintro G w ⟨F,rfl,hi⟩ h
  refine dV h.toFront 0 rfl (by simp) λw h=>hc d F w hi h
def iQ(h:St w0 E w)(i:Nat){b:Nat}{a:zK}{s:Seg}(hi:nth E i=some s)(hs:yN b a s){c1 ic:Nat}(hc:nth E ic=some [Cl c1 zD [.pointer (some ⟨b,0,none⟩)]]){j:Nat}{f:FV}
  (hf:nth [Value.func (.func Ji) #[] #[],.func (.func Jh) #[] #[],.func (.func Jg) #[] #[.pointer (some ⟨c1,0,none⟩)],.func (.func Je) #[] #[.pointer (some ⟨c1,0,none⟩)]] j=some f.val) {rev:B0}
  (hn:(jL a.fl.l rev).length<1000000∧(jy a.gt.all rev).length<100000000) {k:Sl→PT} (hk:∀v sv s' w',Rw eEv zC 15 v (yx j a rev) sv→yN b a s'→St w0 (sv::zd E i s') w'→k v w') :
  L.callV Pr (.func f.fn f.fs f.cs) [.string rev] (.one (.one .slice)) k w:=by
 obtain⟨fn,fs,cs⟩:=f
 rcases j with _ | _ | _ | _ | j
 ·cases hf
  refine jz (fs:=#[]) (cs:=#[]) cQ (Cd rev) ?_
  unfold GE
  refine nw h ?_;clear h;intro b1 w h
  refine⟨⟨some ⟨b1,0,none⟩,1,1⟩,rfl,hk _ _ s w (Rw.lit b1 [xG 12 rev] Mb rfl rfl (by decide)) hs ?_⟩
  rw[yw hi]
  exact h
 ·cases hf
  refine jz (fs:=#[]) (cs:=#[]) cP (Cc rev) ?_
  unfold GD
  refine nw h ?_;clear h;intro b1 w h
  refine⟨⟨some ⟨b1,0,none⟩,1,1⟩,rfl,hk _ _ s w (Rw.lit b1 [xG 13 rev] Mb rfl rfl (by decide)) hs ?_⟩
  rw[yw hi]
  exact h
 ·cases hf
  refine jz (fs:=#[]) (cs:=#[.pointer (some ⟨c1,0,none⟩)]) cO (Cb rev ⟨c1,0,none⟩) ?_
  unfold GC
  refine ldx h ic hc (v:=.pointer (some ⟨b,0,none⟩)) rfl rfl ?_
  refine z2Y h i hi hs hn.1 λv sv w r h=>?_
  refine⟨v,rfl,hk v sv s w r hs ?_⟩
  rw[yw hi]
  exact h
 ·cases hf
  refine jz (fs:=#[]) (cs:=#[.pointer (some ⟨c1,0,none⟩)]) cN (Ca rev ⟨c1,0,none⟩) ?_
  unfold GB
  refine ldx h ic hc (v:=.pointer (some ⟨b,0,none⟩)) rfl rfl ?_
  refine It h i hi hs hn.2 λv sv s' w r hs h=>?_
  exact⟨v,rfl,hk v sv s' w r hs h⟩
 ·cases hf
abbrev frA(b c1 c2 c3:Nat):List Seg:=[[Cl c3 zJ [.slice (some ⟨c2,0,none⟩) 4 4]],fnB c2 c1,[Cl c1 zD [.pointer (some ⟨b,0,none⟩)]]]
def z0R{b c1 c2 c3:Nat}{a:zK} :
  z2V w0 b (λm=>zE a ((yC a).take m)) (frA b c1 c2 c3) (.func (.func Jc) #[] #[.pointer (some ⟨c3,0,none⟩),.pointer (some ⟨c1,0,none⟩)]) (yC a).length λm=>TV [.agg Aq] (((yC a)[m]?.getD (kG 9)).t,()):=by
 intro yv R J Jd F w hG h hJ step fin fin2
 have amE:∀pre more,yC a=pre++more→(yC a).take pre.length=pre:=λpre more e=>by rw[e,List.take_left]
 have hG:∀pre more F,yC a=pre++more→J pre.length F→LT (zE a pre)∧∃i s,nth F i=some s∧yN b (zE a pre) s∧∀s',yN b (zE a pre) s'→J pre.length (zd F i s'):=λpre more F e hJ=>by
  have:=hG _ _ hJ
  dsimp only at this
  rwa [amE pre more e]at this
 have step:∀pre e more F X w,yC a=pre++e::more→J pre.length F→St w0 (frA b c1 c2 c3++(F++X)) w→xj Pr yv.val [evV e] w λv w'=>(v = .bool true∧∃F',St w0 (frA b c1 c2 c3++(F'++X)) w'∧J (pre++[e]).length F')∨(v = .bool false∧Jd w'):=λpre e more F X w he hJ h=>by
  have:=step pre.length F X w (by rw[he];simp) hJ h
  have e1:(yC a)[pre.length]? = some e:=by rw[he];simp
  dsimp only at this
  rw[e1]at this
  rw[List.length_append]
  exact this
 refine⟨GF,GH yv ⟨c3,0,none⟩ ⟨c1,0,none⟩ ?_⟩
 unfold VF
 have h:St w0 ([Cl c3 zJ [.slice (some ⟨c2,0,none⟩) 4 4]]::fnB c2 c1::[Cl c1 zD [.pointer (some ⟨b,0,none⟩)]]::F) w:=h
 (refine ldC h ?_)
 refine zW (λq y w=>∃(j:Nat)(pre:List AEv)(F:List Seg),@Eq Int y.1 j∧q+j=4∧yC a=pre++(ud ([0,1,2,3].drop j) (zE a pre)++[kG 9])∧J pre.length F∧St w0 ([Cl c3 zJ [.slice (some ⟨c2,0,none⟩) 4 4]]::fnB c2 c1::[Cl c1 zD [.pointer (some ⟨b,0,none⟩)]]::F) w) 4 ⟨0,[],F,rfl,rfl,rfl,hJ,h⟩ ?_
 clear hJ
 clear h
 rintro q ⟨y,⟨⟩⟩ w ⟨j,pre,F,hy,hq,hT,hJ,h⟩ again hag
 (try dsimp only)
 simp only at hy
 subst hy
 refine it (λhb=>?_) (λhb=>?_)<;>(try simp only[zB]at hb)
 ·have hj:j<4:=by omega
  obtain⟨f,hf⟩:∃f:FV,nth [Value.func (.func Ji) #[] #[],.func (.func Jh) #[] #[],.func (.func Jg) #[] #[.pointer (some ⟨c1,0,none⟩)],.func (.func Je) #[] #[.pointer (some ⟨c1,0,none⟩)]] j=some f.val:=by
   rcases j with _ | _ | _ | _ | j
   ·exact⟨⟨_,_,_⟩,rfl⟩
   ·exact⟨⟨_,_,_⟩,rfl⟩
   ·exact⟨⟨_,_,_⟩,rfl⟩
   ·exact⟨⟨_,_,_⟩,rfl⟩
   ·omega
  have hd:[0,1,2,3].drop j=j::[0,1,2,3].drop (j+1):=by
   rcases j with _ | _ | _ | _ | j
   ·rfl
   ·rfl
   ·rfl
   ·rfl
   ·omega
  refine ix (by omega) (by omega) ?_
  have e:(⟨c2,0,none⟩:Addr).add ((j:Int).toNat*1)=⟨c2,j,none⟩:=by
   unfold Addr.add
   by_cases h0:j=0
   ·subst h0;rfl
   ·simp[h0]
  rw[e]
  refine ld h (l:=.func) 1 rfl (x:=f) hf ?_
  (refine ldC h ?_)
  obtain⟨hfw,i,s,hi,hs,-⟩:=hG pre _ F hT hJ
  refine fZ h (i+3) hi hs λv sv w r h=>?_
  clear hs hi
  have hbl:=hfw.bk
  rw[hd]at hT
  have hT:yC a=pre++(QI j (zE a pre) (xd (zE a pre).bk)++(ud ([0,1,2,3].drop (j+1)) (zE (zE a pre) (QI j (zE a pre) (xd (zE a pre).bk)))++[kG 9])):=by
   rw[hT];simp[ud]
  generalize xd (zE a pre).bk=revs at *
  obtain⟨SS,hSS⟩:∃SS,SS=zE (zE a pre) (QI j (zE a pre) revs):=⟨_,rfl⟩
  rw[←hSS]at hT
  obtain⟨rest2,hrest⟩:∃rest2,rest2=ud ([0,1,2,3].drop (j+1)) SS++[kG 9]:=⟨_,rfl⟩
  rw[←hrest]at hT
  have hlen:=Rw.len ya r
  refine zW (λq y w=>∃(n:Nat)(pre:List AEv)(F:List Seg),@Eq Int y.1 n∧q+n=revs.length∧yC a=pre++(QI j (zE a pre) (revs.drop n)++rest2)∧SS=zE (zE a pre) (QI j (zE a pre) (revs.drop n))∧J pre.length F∧
   St w0 (sv::[Cl c3 zJ [.slice (some ⟨c2,0,none⟩) 4 4]]::fnB c2 c1::[Cl c1 zD [.pointer (some ⟨b,0,none⟩)]]::F) w) revs.length ⟨0,pre,F,rfl,rfl,hT,hSS,hJ,h⟩ ?_
  clear hT hSS hJ
  clear h
  rintro q2 ⟨y,⟨⟩⟩ w ⟨n,pre,F,hy,hq2,hT,hSS,hJ,h⟩ again2 hag2
  (try dsimp only)
  simp only at hy
  subst hy
  refine it (λhc=>?_) (λhc=>?_)<;>(try simp only[zB]at hc)
  ·have hn:n<revs.length:=by omega
   have hx:revs[n]? = some revs[n]:=List.getElem?_eq_getElem hn
   have hdr:revs.drop n=revs[n]::revs.drop (n+1):=List.drop_eq_getElem_cons hn
   generalize revs[n]=rev at hx hdr
   refine Rw.ix ya r (by omega) (by simpa using hn) λa10 ha=>?_
   simp only[Int.toNat_natCast]at ha
   refine Rw.ld0 ya h 0 rfl r ha (x:=rev) hx rfl rfl ?_
   obtain⟨hfw,i,s,hi,hs,hcl⟩:=hG pre _ F hT hJ
   refine iQ h (i+4) hi hs (ic:=3) rfl hf (hfw.ins rev) λv2 sv2 s' w r2 hs h=>?_
   have hJ:=hcl s' hs
   clear hcl
   have h:St w0 (sv2::sv::[Cl c3 zJ [.slice (some ⟨c2,0,none⟩) 4 4]]::fnB c2 c1::[Cl c1 zD [.pointer (some ⟨b,0,none⟩)]]::zd F i s') w:=h
   generalize zd F i s'=F at *
   clear hs hi
   have hT:yC a=pre++(yx j (zE a pre) rev++(QI j (zE (zE a pre) (yx j (zE a pre) rev)) (revs.drop (n+1))++rest2)):=by rw[hT,hdr];simp[QI]
   have hSS:SS=zE (zE (zE a pre) (yx j (zE a pre) rev)) (QI j (zE (zE a pre) (yx j (zE a pre) rev)) (revs.drop (n+1))):=by rw[hSS,hdr,QI,uj]
   have hll:=hfw.rev j rev
   generalize yx j (zE a pre) rev=l at *
   obtain⟨S3,hS3⟩:∃S3,S3=zE (zE a pre) l:=⟨_,rfl⟩
   rw[←hS3]at hT hSS
   have hlen2:=Rw.len Mb r2
   refine zW (λq y w=>∃(t:Nat)(pre:List AEv)(F:List Seg),@Eq Int y.1 t∧q+t=l.length∧yC a=pre++(l.drop t++(QI j S3 (revs.drop (n+1))++rest2))∧S3=zE (zE a pre) (l.drop t)∧J pre.length F∧
    St w0 (sv2::sv::[Cl c3 zJ [.slice (some ⟨c2,0,none⟩) 4 4]]::fnB c2 c1::[Cl c1 zD [.pointer (some ⟨b,0,none⟩)]]::F) w) l.length ⟨0,pre,F,rfl,rfl,hT,hS3,hJ,h⟩ ?_
   clear hT hS3 hJ
   clear h
   rintro q3 ⟨y,⟨⟩⟩ w ⟨t,pre,F,hy,hq3,hT,hS3,hJ,h⟩ again3 hag3
   (try dsimp only)
   simp only at hy
   subst hy
   refine it (λhc2=>?_) (λhc2=>?_)<;>(try simp only[zB]at hc2)
   ·have ht:t<l.length:=by omega
    have hx:l[t]? = some l[t]:=List.getElem?_eq_getElem ht
    have hdr:l.drop t=l[t]::l.drop (t+1):=List.drop_eq_getElem_cons ht
    generalize l[t]=e at hx hdr
    rw[hdr]at hT hS3
    refine Rw.ix Mb r2 (by omega) (by simpa using ht) λa15 ha=>?_
    simp only[Int.toNat_natCast]at ha
    refine Rw.lda Mb h 0 rfl r2 ha hx (y:=e.t) rfl ?_
    refine nw h ?_;clear h;intro b17 w h
    (refine stC h ?_;clear h;intro w h;dsimp only[zP,zd]at h;refine laC h ?_)
    have step:=step pre e _ F [[Cl b17 zC (eEv e)],sv2,sv] w hT hJ (St.toEnd (X:=[[Cl b17 zC (eEv e)],sv2,sv]) (A:=[_,_,_]) h)
    refine cv (xj.mono step λu w' hu=>?_)
    rcases hu with ⟨rfl,F',h,hJ⟩ | ⟨rfl,hd⟩
    ·refine⟨true,rfl,itF rfl ?_⟩
     have h:=St.ofEnd (X:=[[Cl b17 zC (eEv e)],sv2,sv]) (A:=[_,_,_]) h
     refine hag3 (q3-1) _ w' (by omega) ⟨t+1,pre++[e],F',?_,by omega,by rw[hT];simp,?_,hJ,zl h⟩
     ·show Wi _=_
      rw[wr (by omega) (by omega)];omega
     ·rw[hS3,uj];rfl
    ·exact⟨false,rfl,itT rfl (fin2 w' hd)⟩
   ·have et:l.drop t = []:=List.drop_eq_nil_of_le (by omega)
    rw[et]at hT hS3
    refine hag2 (q2-1) _ w (by omega) ⟨n+1,pre,F,?_,by omega,?_,?_,hJ,zl h⟩
    ·show Wi _=_
     rw[wr (by omega) (by omega)];omega
    ·rw[hT,hS3,Mx];simp
    ·rw[hSS,hS3,Mx]
  ·have et:revs.drop n = []:=List.drop_eq_nil_of_le (by omega)
   rw[et]at hT hSS
   refine hag (q-1) _ w (by omega) ⟨j+1,pre,F,?_,by omega,?_,hJ,zl h⟩
   ·show Wi _=_
    rw[wr (by omega) (by omega)];omega
   ·rw[hT,hrest,hSS];simp[QI,Mx]
 ·have ed:[0,1,2,3].drop j = []:=List.drop_eq_nil_of_le (by simp;omega)
  rw[ed]at hT
  have hT:yC a=pre++kG 9::[]:=by rw[hT];simp[ud]
  have step:=step pre (kG 9) [] F [] w hT hJ (by rw[List.append_nil];exact h)
  refine cv (xj.mono step λu w' hu=>?_)
  rcases hu with ⟨rfl,F',h,hJ⟩ | ⟨rfl,hd⟩
  ·refine⟨true,rfl,fin F' w' ?_ (by rw[List.append_nil]at h;exact h)⟩
   rw[hT];exact hJ
  ·exact⟨false,rfl,fin2 w' hd⟩
def qI:∀(a:zK)(l m:List AEv),Yi a (l++m)=Yi a l++Yi (zE a l) m
 | _,[],_=>rfl
 | a,e::l,m=>by
  rw[List.cons_append,kq,qI,kq,uN];rfl
def rnd(a:zK):zK:=zE a (yC a)
def vk(a:zK):List B0:=(Yi a (yC a)).flatten
structure z3J(ks:Int→Bool)(a:zK):Prop where
 ev:∀e∈yC a,ks e.kind=true∧Zy e=0∧e.v=wC∧e.r=vp∧(e.kind=12∨e.kind=13→Fc e.name)∧(e.kind=5∨e.kind=6∨e.kind=9∨e.kind=12∨e.kind=13)
 out:∀pre more,yC a=pre++more→((Yi a pre).flatten).length≤1000000
 len:(yC a).length≤40
def sQ{a:zK}{e:AEv}(h:e.kind=5∨e.kind=6∨e.kind=9∨e.kind=12∨e.kind=13):(zG a e).1.sh=a.sh:=by
 by_cases hb:Zy e=0
 ·rcases h with hc | hc | hc | hc | hc
  ·rw[pM hb hc];unfold vP;rfl
  ·rw[pL hb hc];unfold fu;split<;>rfl
  ·rw[FU hb hc];unfold xZ;split<;>rfl
  ·rw[fx hb hc];unfold QS;repeat' split
   all_goals rfl
  ·rw[Oe hb hc];unfold qt;split<;>rfl
 ·rw[Od hb]
def BY{l:List AEv}:∀{a:zK},(∀e∈l,e.kind=5∨e.kind=6∨e.kind=9∨e.kind=12∨e.kind=13)→(zE a l).sh=a.sh:=by
 induction l with
 | nil=>intro a _;rfl
 | cons e l ih=>
  intro a h
  rw[uN,ih λx hx=>h x (by simp[hx]),sQ (h e (by simp))]
structure BS(ks:Int→Bool)(a:zK):Prop where
 ev:∀e∈yC a,ks e.kind=true∧Zy e=0∧e.v=wC∧e.r=vp∧(e.kind=12∨e.kind=13→Fc e.name)∧(e.kind=5∨e.kind=6∨e.kind=9∨e.kind=12∨e.kind=13)
 out:∀pre more,yC a=pre++more→((Yi a pre).flatten).length≤1000000
 len:(yC a).length≤50
def wY{ks:Int→Bool}[Kn w0 ks]{b:Nat}{a:zK}{s:Seg}(h:St w0 (s::E) w)(hs:yN b a s)(ok:BS ks a){k0:Nat}(inv:yI k0 a)(hk0:k0+100≤9000)(hsh0:a.sh.n<99){k:Sl→PT}
  (hk:∀v sv s' w',Rw eS zc 1 v (vk a) sv→yN b (rnd a) s'→yI (k0+100) (rnd a)→St w0 (sv::s'::E) w'→k v w'):L.call Pr Uz [pO b] (.one (.one .slice)) k w:=by
 refine za (PS _) ?_
 unfold gV
 have hlen:=ok.len
 refine nw h ?_;clear h;intro b1 w h
 refine nw h ?_;clear h;intro b2 w h
 (refine ldC h ?_)
 refine za (Mv _) ?_
 unfold oW
 refine nw h ?_;clear h;intro c1 w h
 refine nw h ?_;clear h;intro c2 w h
 refine nw h ?_;clear h;intro c3 w h
 (refine stC h ?_;clear h;intro w h;dsimp only[zP,zd]at h)
 refine⟨⟨.func Jc,#[],#[.pointer (some ⟨c3,0,none⟩),.pointer (some ⟨c1,0,none⟩)]⟩,rfl,?_⟩
 have h:St w0 (frA b c1 c2 c3++([]::[Cl b2 zj [.slice none 0 0]]::[Cl b1 zD [.pointer (some ⟨b,0,none⟩)]]::s::E)) w:=h.eq (by simp)
 have hY:=z0R (w0:=w0) (b:=b) (c1:=c1) (c2:=c2) (c3:=c3) (a:=a)
 refine av (es:=[.agg Aq]) (arg:=λm=>(((yC a)[m]?.getD (kG 9)).t,())) hY h
  (λm F=>m≤50∧∃v sv s',Rw eS zc 1 v (Yi a ((yC a).take m)).flatten sv∧yN b (zE a ((yC a).take m)) s'∧yI (k0+2*m) (zE a ((yC a).take m))∧F=sv::[Cl b2 zj [.slice v.a v.len v.cap]]::[Cl b1 zD [.pointer (some ⟨b,0,none⟩)]]::s'::E)
  ⟨by omega,⟨none,0,0⟩,[],s,Rw.nil,hs,inv,rfl⟩ ?_ ?_ ?_
 ·rintro m F ⟨h40,v,sv,s',r,hs',hi,rfl⟩
  exact⟨LT.of_inv hi (by omega),3,s',rfl,hs',λs'' hs''=>⟨h40,v,sv,s'',r,hs'',hi,rfl⟩⟩
 ·clear h
  clear hY hs inv
  rintro m F X w l lp d R hm ⟨h40,v,sv,s,r,hs,inv,rfl⟩ h hn
  have hx:(yC a)[m]? = some (yC a)[m]:=List.getElem?_eq_getElem hm
  have hmem:(yC a)[m]∈yC a:=List.getElem_mem hm
  have ht:(yC a).take (m+1)=(yC a).take m++[(yC a)[m]]:=by rw[List.take_add_one,hx];rfl
  have hsp:yC a=(yC a).take m++(yC a).drop m:=(List.take_append_drop ..).symm
  have hsp1:yC a=(yC a).take (m+1)++(yC a).drop (m+1):=(List.take_append_drop ..).symm
  have hsh:(zE a ((yC a).take m)).sh.n<99:=by rw[BY λe he=>(ok.ev e (List.mem_of_mem_take he)).2.2.2.2.2];exact hsh0
  have ho:=ok.out _ _ hsp1
  generalize (yC a)[m]=e at *
  obtain⟨e1,e2,e3,e4,e5,-⟩:=ok.ev e hmem
  have hro:(Yi a ((yC a).take (m+1))).flatten=(Yi a ((yC a).take m)).flatten++(zG (zE a ((yC a).take m)) e).2:=by
   rw[ht,qI,List.flatten_append];simp[Yi]
  have hrs:zE a ((yC a).take (m+1))=(zG (zE a ((yC a).take m)) e).1:=by rw[ht,uj];rfl
  rw[hro,List.length_append]at ho
  have hn:∀F' w',(∃v sv s',Rw eS zc 1 v ((Yi a ((yC a).take m)).flatten++(zG (zE a ((yC a).take m)) e).2) sv∧yN b (zG (zE a ((yC a).take m)) e).1 s'∧yI (k0+2*(m+1)) (zG (zE a ((yC a).take m)) e).1∧F'=sv::[Cl b2 zj [.slice v.a v.len v.cap]]::[Cl b1 zD [.pointer (some ⟨b,0,none⟩)]]::s'::E)→
    St w0 ([Rec l lp .busy none]::[DfM d]::(frA b c1 c2 c3++(F'++X))) w'→L.endRound Pr l none R w':=λF' w' hi h=>hn F' w' ⟨by omega,by rw[hro,hrs];exact hi⟩ h
  rw[hx,Option.getD_some]
  generalize (Yi a ((yC a).take m)).flatten=outs at *
  generalize zE a ((yC a).take m)=am at *
  clear hx ht hsp hsp1 hro hrs ok hmem
  (try dsimp only)
  refine nw h ?_;clear h;intro b10 w h
  have h:St w0 ([Cl b10 _ _]::[Rec l lp .ready none]::[DfM d]::[Cl c3 zJ [.slice (some ⟨c2,0,none⟩) 4 4]]::fnB c2 c1::[Cl c1 zD [.pointer (some ⟨b,0,none⟩)]]::sv::[Cl b2 zj [.slice v.a v.len v.cap]]::[Cl b1 zD [.pointer (some ⟨b,0,none⟩)]]::s::(E++X)) w:=h
  (refine stC h ?_;clear h;intro w h;(try dsimp only[zP,zd]at h))
  refine bgn h 1 rfl λw h=>?_
  dsimp only[zd]at h
  (refine dr h ?_;clear h;intro w h;refine ldC h ?_;refine ldC h ?_;refine laC h ?_)
  refine EZ (e:=e) h 9 rfl hs e1 e2 (UL.plain e3 e4 e5) inv (by omega) hsh λv3 s3 s' w r3 hs inv h=>?_
  dsimp only[zd]at h
  (refine ckC h ?_)
  refine Rw.appRd ya elS h 7 rfl r (Rw.rd ya h 0 rfl r3) (by omega) (by omega) λv4 s4 w r4 _ _ h=>?_
  dsimp only[zd]at h
  (refine stC h ?_;clear h;intro w h;dsimp only[zP,zd]at h)
  refine hn (s4::[Cl b2 zj [.slice v4.a v4.len v4.cap]]::[Cl b1 zD [.pointer (some ⟨b,0,none⟩)]]::s'::E) w ⟨v4,s4,s',r4,hs,inv,rfl⟩ ?_
  exact zl (zl h)
 ·clear h
  rintro d F w ⟨h40,v,sv,s',r,hs,inv,rfl⟩ h
  rw[List.take_length]at r hs inv
  refine VQ ?_
  have h:St w0 ([DfM d]::[Cl c3 zJ [.slice (some ⟨c2,0,none⟩) 4 4]]::fnB c2 c1::[Cl c1 zD [.pointer (some ⟨b,0,none⟩)]]::sv::[Cl b2 zj [.slice v.a v.len v.cap]]::[Cl b1 zD [.pointer (some ⟨b,0,none⟩)]]::s'::E) w:=h
  (refine ldC h ?_)
  have hol:=ok.out _ [] (List.append_nil _).symm
  refine Fb h (Rw.rd ya h 4 rfl r) (by omega) (Rw.nil0 ya r) λv' s2 w r2 hi h=>?_
  (first | refine gw h ?_ | refine gv h ?_ | refine gu h ?_ | refine gq h ?_ | refine gp h ?_ | refine gn h ?_ | refine gm h ?_ | refine gk h ?_ | refine gj h ?_ | refine gi h ?_ | refine Uj h ?_ | refine Ui h ?_);clear h;intro w h
  refine⟨v',rfl,hk v' s2 s' w r2 hs (inv.mono (by omega)) ?_⟩
  have h:=Yf (oS (ol (kH (tR (dY h)))))
  exact h
def Wa{ks:Int→Bool}[Kn w0 ks]{b:Nat}{a:zK}{s:Seg}(h:St w0 (s::E) w)(hs:yN b a s){n:Nat}(hn50:n≤50)(J:Nat→zK→Prop)(Q:B0→Prop)(h0:J 0 a)
  (step:∀j a k,j<n→J j a→SOk a→yI k a→k≤9000→BS ks a∧a.sh.n<99∧J (j+1) (rnd a)∧(∀s∈vk a,Q s)∧(vk a).length≤10000) {k0:Nat} (inv:yI k0 a) (hk0:k0+100*n≤9000) {c:Int} (hc:c=n) {k:Sl→PT}
  (hk:∀v sv s' w' a' l,Rw eS zc 1 v l sv→(∀s∈l,Q s)→l.length≤10000*n→J n a'→yN b a' s'→yI (k0+100*n) a'→St w0 (sv::s'::E) w'→k v w'):L.call Pr gM [pO b,I c] (.one (.one .slice)) k w:=by
 subst hc
 refine za (Ww _ _) ?_
 unfold PL
 rw[if_neg (by omega)]
 refine zW (λq y w=>∃(j:Nat)(v:Sl)(sv s:Seg)(a:zK)(l:List B0),y=(v,(j:Int),())∧q+j=n∧Rw eS zc 1 v l sv∧(∀s∈l,Q s)∧l.length≤10000*j∧J j a∧yN b a s∧yI (k0+100*j) a∧St w0 (s::sv::E) w) n ⟨0,⟨none,0,0⟩,[],s,a,[],rfl,by omega,Rw.nil,(λs hs=>by cases hs),Nat.le_refl _,h0,hs,inv,h.eq (by simp)⟩ ?_
 clear hs inv h0
 clear h
 rintro q y w ⟨j,v,sv,s,a,l,rfl,hq,r,hQ,hl,hJ,hs,inv,h⟩ again hag
 (try dsimp only)
 refine it (λhcc=>?_) (λhcc=>?_)<;>(try simp only[zB]at hcc)
 ·have hj:j<n:=by omega
  obtain⟨ok,hsh,hJ1,hQ1,hl1⟩:=step j a _ hj hJ hs.ok inv (by omega)
  refine wY h hs ok inv (by omega) hsh λv2 s2 s' w r2 hs inv h=>?_
  refine Rw.appRd ya elS h 2 rfl r (Rw.rd ya h 0 rfl r2) (by omega) (by omega) λv4 s4 w r4 _ _ h=>?_
  dsimp only[zd]at h
  refine hag (q-1) _ w (by omega) ⟨j+1,v4,s4,s',rnd a,_,?_,by omega,r4,λs hs=>?_,?_,hJ1,hs,inv.mono (by omega),zl h⟩
  ·rw[wr (by omega) (by omega)];congr 1
  ·rcases List.mem_append.1 hs with hs | hs
   ·exact hQ s hs
   ·exact hQ1 s hs
  ·rw[List.length_append];omega
 ·have e:j=n:=by omega
  subst e
  refine Fb h (Rw.rd ya h 1 rfl r) (by omega) (Rw.nil0 ya r) λv' s2 w r2 hi h=>?_
  exact⟨v',rfl,hk v' s2 s w a l r2 hQ hl hJ hs inv (oS h)⟩
end Go.Proofs.YtdcdhcgmeahfmaaGreatDoor
namespace Go.Proofs.YtdcdhcgmeahfmaaGreatDoor
open Go.Dm
abbrev mq(L:List Int):List AEv:=L.map λid=>evN 6 id
def lv(F:ze):Prop:=∃x∈F.l,x.pod.st≠3
def lv.tk{F F':ze}(t:Tk F F')(h:lv F):lv F':=by
 obtain⟨x,hx,h3⟩:=h
 obtain⟨x',hx',-,h4,-⟩:=t.fw x hx
 exact⟨x',hx',by rw[h4];exact h3⟩
def bK{c:Cfg}{m:Nat}:∀(L:List Int)(a:zK),FI c m a→L.Nodup→(∀id∈L,(∃x∈a.fl.l,x.id=id∧x.pod.st=1)∧1≤id∧id≤2147483647)→(∀x∈a.fl.l,x.pod.st=1→x.id∈L)→
  FI c m (zE a (mq L))∧(zE a (mq L)).now=a.now∧Ns (zE a (mq L)).fl∧(∀s∈(Yi a (mq L)).flatten,okL s)∧(ln (zE a (mq L)).gt wv).length≤(ln a.gt wv).length∧(lv a.fl→lv (zE a (mq L)).fl)∧gK (zE a (mq L))=gK a∧
  (Yi a (mq L)).flatten.length≤L.length*(2+(ln a.gt wv).length)
 | [],a,I,_,_,h2=>⟨I,rfl,λx hx h1=>(by have:=h2 x hx h1;cases this),λs hs=>(by cases hs),Nat.le_refl _,id,rfl,by simp[Yi]⟩
 | id::L,a,I,hnd,h1,h2=>by
  obtain⟨⟨x,hx,rfl,hst⟩,hid⟩:=h1 id (by simp)
  obtain⟨J,hno,hok,hln,htk,hol,hk⟩:=z2J I hx hst hid
  obtain⟨-,-,e2,e3,-,-⟩:=eZ I.g.C hx hst
  rw[List.nodup_cons]at hnd
  have hl:mq (x.id::L)=evN 6 x.id::mq L:=rfl
  rw[hl,uN,kq]
  generalize hb:(zG a (evN 6 x.id)).1=b at *
  have h1':∀i∈L,(∃z∈b.fl.l,z.id=i∧z.pod.st=1)∧1≤i∧i≤2147483647:=λi hi=>by
   obtain⟨⟨z,hz,hzi,hz1⟩,hr⟩:=h1 i (by simp[hi])
   have hne:z.id≠x.id:=λe=>hnd.1 (by rw[←e,hzi];exact hi)
   have hz':z∈(jR a.fl x.id).1.l:=by rw[e2];exact(ko hz).1 hne
   obtain⟨z2,hz2,g1,g2,-⟩:=htk.fw z hz'
   exact⟨⟨z2,hz2,g1.trans hzi,g2.trans hz1⟩,hr⟩
  have h2':∀z∈b.fl.l,z.pod.st=1→z.id∈L:=λz hz hz1=>by
   obtain⟨y,hy,g1,g2,-⟩:=htk.bk z hz
   rw[e2]at hy
   rw[g2]at hz1
   rw[g1]
   obtain⟨u,hu,⟨hne,rfl⟩ | ⟨he,rfl,-⟩⟩:=kD hy
   ·rcases List.mem_cons.1 (h2 y hu hz1)with h | h
    ·exact absurd h hne
    ·exact h
   ·exfalso
    have e:=qU I.g.C.ok hu hx he
    subst e
    rw[e3]at hz1
    dsimp only at hz1;omega
  have hlv:lv a.fl→lv b.fl:=λ⟨z,hz,hz3⟩=>by
   refine lv.tk htk ?_
   unfold lv
   rw[e2]
   by_cases e:z.id=x.id
   ·have e4:=qU I.g.C.ok hz hx e
    subst e4
    have h5:(YW z.pod).1.st=2:=by rw[e3]
    exact⟨_,(ko (g:=λp=>(YW p).1) hz).2 rfl (by rw[h5];decide),by dsimp only;rw[h5];decide⟩
   ·exact⟨z,(ko hz).1 e,hz3⟩
  obtain⟨r1,r2,r3,r4,r5,r6,r7,r8⟩:=bK L b J hnd.2 h1' h2'
  refine⟨r1,r2.trans hno,r3,λs hs=>?_,Nat.le_trans r5 hln,λh=>r6 (hlv h),r7.trans hk,?_⟩
  ·rw[List.flatten_cons]at hs
   rcases List.mem_append.1 hs with hs | hs
   ·exact hok s hs
   ·exact r4 s hs
  ·rw[List.flatten_cons,List.length_append,List.length_cons,Nat.add_mul,Nat.one_mul]
   have:L.length*(2+(ln b.gt wv).length)≤L.length*(2+(ln a.gt wv).length):=Nat.mul_le_mul_left _ (by omega)
   omega
def NE{c:Cfg}{m:Nat}:∀(L:List Int)(a:zK),FI c m a→L.Nodup→(∀q∈L,zm a.gt.all q=some (wv,1))→Dr a.fl L→Ns a.fl→∀R:List Int,R.Nodup→(∀q∈R,q∈L∧RH a.fl q)→
  FI c m (zE a (yZ L))∧(zE a (yZ L)).now=a.now∧Ns (zE a (yZ L)).fl∧Dr (zE a (yZ L)).fl []∧(∀s∈(Yi a (yZ L)).flatten,okL s)∧
  (ln (zE a (yZ L)).gt wv).length+min (ln a.gt wv).length R.length≤(ln a.gt wv).length∧(ln a.gt wv = []→∀q,zm (zE a (yZ L)).gt.all q=some (wv,1)→zm a.gt.all q=some (wv,1)∧q∉L)∧gK (zE a (yZ L))=gK a∧
  (Yi a (yZ L)).flatten.length≤L.length*(2+(ln a.gt wv).length)
 | [],a,I,_,_,hd,hns,R,_,hR=>by
  have hR0:R = []:=by
   cases R with
   | nil=>rfl
   | cons q R=>have:=(hR q (by simp)).1;cases this
  subst hR0
  exact⟨I,rfl,hns,hd,λs hs=>(by cases hs),by simp[yZ,zE],λ_ q hq=>⟨hq,by simp⟩,rfl,by simp[yZ,Yi]⟩
 | q::L,a,I,hnd,h1,hd,hns,R,hRn,hR=>by
  have hq:=h1 q (by simp)
  obtain⟨J,hno,hok,efl,egt,hol,hk⟩:=io I hq
  obtain⟨-,-,-,g4,g5⟩:=Ll I.g hq
  have htk:=Cu I.g hq
  have hdr:=iw I.g hq hd
  have hn1:=iv I.g hq hns
  rw[List.nodup_cons]at hnd
  have hkeep:∀q'∈L,zm (Yp a.fl a.gt q).2.1.all q'=some (wv,1):=λq' h'=>Aw I.g hq (λe=>hnd.1 (e▸h')) (h1 q' (by simp[h']))
  have hnone:=λ(hl:ln a.gt wv = [])(q':Int)(h:zm (Yp a.fl a.gt q).2.1.all q'=some (wv,1))=>Av I.g hq hl h
  have hl:yZ (q::L)=evN 5 q::yZ L:=rfl
  rw[hl,uN,kq]
  rw[←efl]at hdr hn1 htk
  rw[←egt]at hkeep hnone g4 g5
  generalize (zG a (evN 5 q)).1=b at *
  have hrh:∀q'∈R,q'≠q→RH b.fl q':=λq' h' hne=>RH.tk htk (RH.give I.g.C hq hne (hR q' h').2)
  obtain⟨r1,r2,r3,r4,r5,r6,r7,r8,r9⟩:=NE L b J hnd.2 hkeep hdr hn1 (R.erase q) (hRn.erase _) (λq' h'=>by
   have h2:=(List.Nodup.mem_erase_iff hRn).1 h'
   refine⟨?_,hrh q' h2.2 h2.1⟩
   rcases List.mem_cons.1 (hR q' h2.2).1 with h | h
   ·exact absurd h h2.1
   ·exact h)
  refine⟨r1,r2.trans hno,r3,r4,λs hs=>?_,?_,λh0 q' h'=>?_,r8.trans hk,?_⟩
  ·rw[List.flatten_cons]at hs
   rcases List.mem_append.1 hs with hs | hs
   ·exact hok s hs
   ·exact r5 s hs
  ·by_cases hqR:q∈R
   ·have e1:=List.length_erase_of_mem hqR
    have e2:=List.length_pos_of_mem hqR
    by_cases h0:ln a.gt wv = []
    ·rw[h0]at g4 ⊢
     rw[List.length_nil]at g4 ⊢
     omega
    ·have:=g5 (hR q hqR).2 h0
     omega
   ·have e1:R.erase q=R:=List.erase_of_not_mem hqR
    rw[e1]at r6
    omega
  ·have hb0:ln b.gt wv = []:=by
    have:(ln b.gt wv).length=0:=by rw[h0]at g4;simpa using g4
    exact List.length_eq_zero_iff.1 this
   obtain⟨h3,h4⟩:=r7 hb0 q' h'
   obtain⟨h5,h6⟩:=hnone h0 q' h3
   exact⟨h6,by simp[h4];exact h5⟩
  ·rw[List.flatten_cons,List.length_append,List.length_cons,Nat.add_mul,Nat.one_mul]
   have:L.length*(2+(ln b.gt wv).length)≤L.length*(2+(ln a.gt wv).length):=Nat.mul_le_mul_left _ (by omega)
   omega
def z0b{a:zK}{r:B0}(h0:xd a.bk = [r])(h1:xd (zE a (yx 0 a r)).bk = [r])
  (h2:xd (zE (zE a (yx 0 a r)) (yx 1 (zE a (yx 0 a r)) r)).bk = [r])
  (h3:xd (zE (zE (zE a (yx 0 a r)) (yx 1 (zE a (yx 0 a r)) r)) (yx 2 (zE (zE a (yx 0 a r)) (yx 1 (zE a (yx 0 a r)) r)) r)).bk = [r]) :
  yC a=yx 0 a r++(yx 1 (zE a (yx 0 a r)) r++(yx 2 (zE (zE a (yx 0 a r)) (yx 1 (zE a (yx 0 a r)) r)) r++(yx 3 (zE (zE (zE a (yx 0 a r)) (yx 1 (zE a (yx 0 a r)) r)) (yx 2 (zE (zE a (yx 0 a r)) (yx 1 (zE a (yx 0 a r)) r)) r)) r++[kG 9]))):=by
 have e:∀k a,QI k a [r]=yx k a r:=λk a=>by simp[QI]
 unfold yC ud
 rw[h0,e]
 unfold ud
 rw[h1,e]
 unfold ud
 rw[h2,e]
 unfold ud
 rw[h3,e]
 simp[ud]
def Hf(F:ze):Prop:=∀x∈F.l,x.pod.st=2
def pT:∀{n:Nat}{F:ze}{rv:B0},(shrink rv n F).1.last=F.last
 | 0,_,_=>rfl
 | n+1,F,rv=>(pT (n:=n) (F:=qm rv F)).trans rfl
def HF{c:Cfg}{m:Nat}{a:zK}(I:FI c m a):(zG a (xG 13 wv)).1.fl=(Yn a.fl wv (cc c) (yj a wv)).1:=by
 rw[Oe Ey rfl]
 unfold qt
 rw[if_neg (by rw[wJ I];decide)]
 have ec:Xz a wv=cc c:=by unfold Xz;rw[RC I]
 show(Yn a.fl wv (Xz a wv) (yj a wv)).1=_
 rw[ec]
def aE{c:Cfg}{m:Nat}{a:zK}(I:FI c m a):(zG a (xG 13 wv)).1.fl.last≤a.fl.last+10:=by
 rw[HF I]
 have h1:(Yn a.fl wv (cc c) (yj a wv)).1.last=(yQ a.fl wv (cc c) (yj a wv)).last:=pT
 have h2:(yQ a.fl wv (cc c) (yj a wv)).last=a.fl.last+qx a.fl wv (yj a wv):=kY _
 have h3:=fQ a.fl wv (yj a wv)
 have:=I.rm
 rw[h1,h2]
 omega
abbrev Um(F:ze):List Int:=(F.l.filter λx=>x.pod.st == 1).map (·.id)
def z00{c:Cfg}{m:Nat}{a:zK}(I:FI c m a):VL (jL a.fl.l wv)=mq (Um a.fl):=by
 have e:revs a.fl.l wv=a.fl.l:=by
  unfold revs
  rw[List.filter_eq_self]
  intro x hx
  exact decide_eq_true (I.g.C.pod x hx).1
 unfold VL jL
 rw[e,List.filter_map,List.map_map]
 unfold mq Um
 rw[List.map_map]
 rfl
def sS{F:ze}(ok:F.Ok):(Um F).Nodup:=by
 unfold Um
 have h:=ok.pw.filter (λx:Zh=>x.pod.st == 1)
 exact List.pairwise_map.2 (h.imp λhab e=>by omega)
def pJ{all:jD}(knd:(all.map (·.1)).Nodup)(q:Int):q∈jy all wv↔zm all q=some (wv,1):=by
 unfold jy
 rw[(vB _).mem_iff]
 constructor
 ·intro h
  obtain⟨y,hy,rfl⟩:=List.mem_map.1 h
  obtain⟨h1,h2⟩:=List.mem_filter.1 hy
  refine Vg knd ?_
  have h2:y.2=(wv,(1:Int)):=of_decide_eq_true h2
  rw[←h2];exact h1
 ·intro h
  exact List.mem_map.2 ⟨_,List.mem_filter.2 ⟨yK h,by simp⟩,rfl⟩
def Hi{all:jD}(knd:(all.map (·.1)).Nodup):(jy all wv).Nodup:=by
 unfold jy
 rw[(vB _).nodup_iff]
 exact((List.filter_sublist).map _).nodup knd
def Ed{ks:Int→Bool}(hks:(ks 5&&ks 6&&ks 9&&ks 12&&ks 13)=true){c:Cfg}{m k:Nat}{a:zK}(I:FI c m a)(inv:yI k a)(okS:SOk a)(hk:k≤9000)(hn:a.now+1<50)(hm:m≤33) :
  BS ks a∧FI c m (rnd a)∧(rnd a).now=a.now+1∧(∀s∈vk a,okL s)∧(vk a).length≤10000∧gK (rnd a)=gK a∧Hf (rnd a).fl∧(ln (rnd a).gt wv).length≤(ln a.gt wv).length∧
  (Hf a.fl→ln a.gt wv≠[]→(ln (rnd a).gt wv).length+min (ln a.gt wv).length (cc c).toNat≤(ln a.gt wv).length)∧(ln a.gt wv = []→∀q,zm (rnd a).gt.all q≠some (wv,1)):=by
 simp only[Bool.and_eq_true]at hks
 obtain⟨⟨⟨⟨k5,k6⟩,k9⟩,k12⟩,k13⟩:=hks
 have hW:(ln a.gt wv).length≤8:=by
  have:=su inv okS.gt wv
  unfold Vi at this
  rwa [List.length_map]at this
 have hlast:=inv.fl.last
 obtain⟨I1,f1,g1,n1,o1,l1,b1⟩:=Lt I inv
 have e0:yx 0 a wv = [xG 12 wv]:=rfl
 have r1:zE a [xG 12 wv]=(zG a (xG 12 wv)).1:=rfl
 have hso1:Yi a [xG 12 wv] = [(zG a (xG 12 wv)).2]:=rfl
 have rd:=z0b (dP I)
 rw[e0,r1]at rd
 generalize hd1:(zG a (xG 12 wv)).1=a1 at *
 generalize (zG a (xG 12 wv)).2=out1 at *
 have hl1:a1.fl.last≤1000000:=by rw[f1];omega
 obtain⟨I2,g2,n2,o2,b2,l2⟩:=Bs I1 hl1
 have p2:=aE I1
 have e1:yx 1 a1 wv = [xG 13 wv]:=rfl
 have r2:zE a1 [xG 13 wv]=(zG a1 (xG 13 wv)).1:=rfl
 have hso2:Yi a1 [xG 13 wv] = [(zG a1 (xG 13 wv)).2]:=rfl
 rw[e1,r2]at rd
 generalize hd2:(zG a1 (xG 13 wv)).1=a2 at *
 generalize (zG a1 (xG 13 wv)).2=out2 at *
 have e2:yx 2 a2 wv=mq (Um a2.fl):=z00 I2
 rw[e2]at rd
 have hL2:(Um a2.fl).length≤10:=by
  unfold Um
  rw[List.length_map]
  have h3:=List.length_filter_le (λx:Zh=>x.pod.st == 1) a2.fl.l
  have h4:=I2.fl
  have h5:=I2.rm
  omega
 have hU1:∀id∈Um a2.fl,(∃x∈a2.fl.l,x.id=id∧x.pod.st=1)∧1≤id∧id≤2147483647:=λid hid=>by
  obtain⟨x,hx,rfl⟩:=List.mem_map.1 hid
  obtain⟨h3,h4⟩:=List.mem_filter.1 hx
  have h5:=I2.g.C.ok.rng x h3
  have h6:a2.fl.last≤1000010:=by omega
  exact⟨⟨x,h3,rfl,by simpa using h4⟩,by omega,by omega⟩
 have hU2:∀x∈a2.fl.l,x.pod.st=1→x.id∈Um a2.fl:=λx hx h=>List.mem_map.2 ⟨x,List.mem_filter.2 ⟨hx,by simpa using h⟩,rfl⟩
 obtain⟨I3,n3,ns3,o3,w3,lv3,k3,l3⟩:=bK (Um a2.fl) a2 I2 (sS I2.g.C.ok) hU1 hU2
 have hev2:∀e∈mq (Um a2.fl),∃id,e=evN 6 id∧1≤id∧id≤2147483647:=λe he=>by
  obtain⟨id,hid,rfl⟩:=List.mem_map.1 he
  exact⟨id,rfl,(hU1 id hid).2⟩
 have hlu:(mq (Um a2.fl)).length≤10:=by rw[List.length_map];exact hL2
 generalize hups:mq (Um a2.fl)=U at *
 generalize hd3:zE a2 U=a3 at *
 have e3:yx 3 a3 wv=yZ (jy a3.gt.all wv):=rfl
 rw[e3]at rd
 have knd:=I3.g.C.knd
 have hD1:∀q∈jy a3.gt.all wv,zm a3.gt.all q=some (wv,1):=λq hq=>(pJ knd q).1 hq
 have hDr:Dr a3.fl (jy a3.gt.all wv):=λx hx _ q hq=>(pJ knd q).2 ((I3.g.C.hold q).1 (by rw[xx I3.g.C.ok.once hx hq];rfl))
 have hL3:(jy a3.gt.all wv).length≤33:=by
  have h3:=sq a3 wv
  have h4:=I3.len
  unfold gK at h3
  rw[List.length_map]at h3
  omega
 obtain⟨R,hRn,hR,hRl⟩:∃R:List Int,R.Nodup∧(∀q∈R,q∈jy a3.gt.all wv∧RH a3.fl q)∧(Hf a.fl→ln a.gt wv≠[]→ln a3.gt wv≠[]→(cc c).toNat≤R.length):=by
  by_cases hc:Hf a.fl∧ln a.gt wv≠[]∧ln a3.gt wv≠[]
  ·obtain⟨hA,hl0,hl3⟩:=hc
   have hbz:0<uW a.gt wv:=by
    have:0<(Vi a.gt wv).length:=by
     unfold Vi
     rw[List.length_map]
     exact List.length_pos_iff.2 hl0
    unfold uW;omega
   have hwant:=b1 hbz
   have hlive:1≤ZA a1.fl.l wv∨(a1.fl.l.length:Int)<a1.fl.room:=by
    rw[f1]
    cases hfl:a.fl.l with
    | nil=>right;have:=I.rm;simp;omega
    | cons x xs=>
     left
     have hx:x∈a.fl.l:=by rw[hfl];simp
     rw[←hfl]
     exact sD hx (I.g.C.pod x hx).1 (by rw[hA x hx];decide)
   obtain⟨x,hx,hx3⟩:=lv3 (Et (b2 hwant hlive))
   have hx2:x.pod.st=2:=by
    have h4:=I3.g.C.ok.live x hx
    have h5:=ns3 x hx
    omega
   refine⟨x.pod.reqs,(I3.g.C.pod x hx).2.2.1,λq hq=>⟨(pJ knd q).2 ((I3.g.C.hold q).1 (by rw[xx I3.g.C.ok.once hx hq];rfl)),x,hx,hq,hx2⟩,λ_ _ _=>?_⟩
   rcases I3.g.sat with h | h
   ·exact absurd h hl3
   ·have:=h x hx hx2;omega
  ·exact⟨[],List.nodup_nil,⟨λq hq=>absurd hq (by simp),λh1 h2 h3=>absurd ⟨h1,h2,h3⟩ hc⟩⟩
 obtain⟨I4,n4,ns4,dr4,o4,w4,z4,k4,l4⟩:=NE (jy a3.gt.all wv) a3 I3 (Hi knd) hD1 hDr ns3 R hRn hR
 have hev3:∀e∈yZ (jy a3.gt.all wv),∃q,e=evN 5 q∧1≤q∧q≤2000:=λe he=>by
  obtain⟨q,hq,rfl⟩:=List.mem_map.1 he
  exact⟨q,rfl,I3.g.ids _ (yK (hD1 q hq))⟩
 have hld:(yZ (jy a3.gt.all wv)).length≤33:=by unfold yZ;rw[List.length_map];exact hL3
 have z4':ln a3.gt wv = []→∀q,zm (zE a3 (yZ (jy a3.gt.all wv))).gt.all q≠some (wv,1):=λh q hq=>by
  obtain⟨h5,h6⟩:=z4 h q hq
  exact h6 ((pJ knd q).2 h5)
 clear z4
 generalize hdn:yZ (jy a3.gt.all wv)=Dn at *
 generalize hd4:zE a3 Dn=a4 at *
 obtain⟨I5,n5,f5,t5,w5,o5,l5⟩:=Br I4 (by rw[n4,n3,n2,n1];exact hn)
 have rd:=rd (dP I1) (dP I2) (dP I3)
 have hrn:rnd a=(zG a4 (kG 9)).1:=by
  unfold rnd
  rw[rd,uj,r1,uj,r2,uj,hd3,uj,hd4];rfl
 have hro:vk a=out1++(out2++((Yi a2 U).flatten++((Yi a3 Dn).flatten++(zG a4 (kG 9)).2))):=by
  unfold vk
  rw[rd,qI,r1,qI,r2,qI,hd3,qI,hd4,hso1,hso2]
  simp[Yi]
 have hW2:(ln a2.gt wv).length≤8:=by rw[g2,g1];exact hW
 have hW3:(ln a3.gt wv).length≤8:=Nat.le_trans w3 hW2
 have hm2:(Um a2.fl).length*(2+(ln a2.gt wv).length)≤10*10:=Nat.mul_le_mul hL2 (by omega)
 have hm3:(jy a3.gt.all wv).length*(2+(ln a3.gt wv).length)≤33*10:=Nat.mul_le_mul hL3 (by omega)
 have hout:(vk a).length≤10000:=by
  rw[hro]
  simp only[List.length_append]
  omega
 have hok:∀s∈vk a,okL s:=λs hs=>by
  rw[hro]at hs
  rcases List.mem_append.1 hs with hs | hs
  ·exact o1 s hs
  rcases List.mem_append.1 hs with hs | hs
  ·exact o2 s hs
  rcases List.mem_append.1 hs with hs | hs
  ·exact o3 s hs
  rcases List.mem_append.1 hs with hs | hs
  ·exact o4 s hs
  ·exact o5 s hs
 have hgk:gK (rnd a)=gK a:=by
  rw[hrn]
  unfold gK
  rw[t5]
  have h6:gK a4=gK a:=by rw[k4,k3];unfold gK;rw[g2,g1]
  exact h6
 have hla:(ln a2.gt wv).length=(ln a.gt wv).length:=by rw[g2,g1]
 refine⟨⟨λe he=>?_,λpre more hpm=>?_,?_⟩,by rw[hrn];exact I5,by rw[hrn,n5,n4,n3,n2,n1],hok,hout,hgk,?_,?_,λhA hl=>?_,λhl q=>?_⟩
 ·rw[rd]at he
  simp only[List.mem_append,List.mem_singleton]at he
  rcases he with rfl | rfl | he | he | rfl
  ·exact⟨k12,IR,rfl,rfl,λ_=>fC,by decide⟩
  ·exact⟨k13,Ey,rfl,rfl,λ_=>fC,by decide⟩
  ·obtain⟨id,rfl,h1,h2⟩:=hev2 e he
   exact⟨k6,NH (.inr (.inl rfl)) ⟨h1,h2⟩,rfl,rfl,λh=>absurd h (show ¬((6:Int)=12∨(6:Int)=13)by decide),.inr (.inl rfl)⟩
  ·obtain⟨q,rfl,h1,h2⟩:=hev3 e he
   exact⟨k5,NH (.inl rfl) ⟨h1,by omega⟩,rfl,rfl,λh=>absurd h (show ¬((5:Int)=12∨(5:Int)=13)by decide),.inl rfl⟩
  ·exact⟨k9,iA,rfl,rfl,λh=>absurd h (show ¬((9:Int)=12∨(9:Int)=13)by decide),.inr (.inr (.inl rfl))⟩
 ·have h7:(Yi a pre).flatten.length≤(vk a).length:=by
   unfold vk
   rw[hpm,qI,List.flatten_append,List.length_append];omega
  omega
 ·rw[rd]
  simp only[List.length_append,List.length_singleton]
  omega
 ·rw[hrn,f5]
  intro x hx
  have h6:=I4.g.C.ok.live x hx
  have h7:=ns4 x hx
  have h8:x.pod.st≠3:=λh3=>by
   have h9:=(I4.g.C.pod x hx).2.2.2.2.1 h3
   cases hr:x.pod.reqs with
   | nil=>exact h9 hr
   | cons q r=>have:=dr4 x hx h3 q (by rw[hr];simp);cases this
  omega
 ·rw[hrn,w5]
  omega
 ·rw[hrn,w5]
  by_cases h3:ln a3.gt wv = []
  ·rw[h3]at w4
   rw[List.length_nil]at w4
   omega
  ·have:=hRl hA hl h3
   omega
 ·rw[hrn,t5]
  have h3:ln a3.gt wv = []:=List.length_eq_zero_iff.1 (by rw[hl]at hla;rw[List.length_nil]at hla;omega)
  exact z4' h3 q
def Ee{a:zK}(h:a.ro=ftR){n d:Int}(hd:0≤d∧d≤999):bnd a (Kv n yS s_ d)=wv:=by
 unfold bnd
 dsimp only
 rw[h]
 have h1:((List.range 1000).all λd:Nat=>decide ((if(zm ftR yS).isSome=false then s_ else if s_=s_ then WO (ou ftR yS) (d:Int)else(CG (ou ftR yS).tg s_).1)=wv))=true:=by decide +kernel
 have h2:=of_decide_eq_true (List.all_eq_true.1 h1 d.toNat (List.mem_range.2 (by omega)))
 have e:((d.toNat:Nat):Int)=d:=by omega
 rw[e]at h2
 exact h2
def z0A{c:Cfg}{m:Nat}{a:zK}(I:FI c m a){n d B:Int}(hn:1≤n∧n≤2000)(hd:0≤d∧d≤999)(hB:∀q∈gK a,q<B)(hnB:B≤n)(hnow:0≤a.now) :
  FI c (m+1) (zG a (Kv n yS s_ d)).1∧(zG a (Kv n yS s_ d)).1.now=a.now∧(∀q∈gK (zG a (Kv n yS s_ d)).1,q<n+1):=by
 have hch:Zy (Kv n yS s_ d)=0:=IQ (by decide +kernel) (.inl rfl) ⟨hn.1,by omega⟩ ⟨hd.1,by omega⟩
 have hnew:zm a.gt.all n=none:=by
  cases h:zm a.gt.all n with
  | none=>rfl
  | some v=>
   have:=hB n (List.mem_map.2 ⟨_,yK h,rfl⟩)
   omega
 have hg:=ie I.g hn hnew (now:=a.now) (by decide) (by rw[I.pat];omega)
 have ha:=eO a.fl a.gt n wv a.now
 have hf:(VB a.fl a.gt n wv a.now).1.room=a.fl.room∧(VB a.fl a.gt n wv a.now).1.l.length=a.fl.l.length∧(VB a.fl a.gt n wv a.now).2.1.pat=a.gt.pat:=by
  have t:=bO I.g.C.ok wv n
  unfold VB
  repeat' split
  all_goals first | exact⟨rfl,rfl,rfl⟩ | exact⟨t.rm,t.ln,rfl⟩
 have hb:arG a (Kv n yS s_ d)=VB a.fl a.gt n wv a.now:=by unfold arG;rw[Ee I.ro hd]
 obtain⟨xs,want,left,hby⟩:=I.by'
 have e:∃y:Oa,(YN a (Kv n yS s_ d)).1.by' = [(wv,y)]∧(YN a (Kv n yS s_ d)).1.fl=(VB a.fl a.gt n wv a.now).1∧(YN a (Kv n yS s_ d)).1.gt=(VB a.fl a.gt n wv a.now).2.1∧
   (YN a (Kv n yS s_ d)).1.bk=a.bk∧(YN a (Kv n yS s_ d)).1.ro=a.ro∧(YN a (Kv n yS s_ d)).1.sh=a.sh∧(YN a (Kv n yS s_ d)).1.now=a.now:=by
  unfold YN
  rw[hb,Ee I.ro hd,hby]
  split
  ·rename_i x _
   exact⟨⟨x.xs,1,x.left⟩,by dsimp only;unfold zX;rw[if_pos rfl],rfl,rfl,rfl,rfl,rfl,rfl⟩
  ·exact⟨_,rfl,rfl,rfl,rfl,rfl,rfl,rfl⟩
 obtain⟨y,e1,e2,e3,e4,e5,e6,e7⟩:=e
 rw[pN hch rfl]
 have hln:=I.len
 refine⟨⟨by rw[e2,e3];exact hg,by rw[e4];exact I.bk,⟨y.xs,y.want,y.left,by rw[e1]⟩,by rw[e5];exact I.ro,by rw[e6];exact I.sh,by rw[e3,hf.2.2];exact I.pat,?_,by rw[e2,hf.1];exact I.rm,by rw[e2,hf.1,hf.2.1];exact I.fl,I.c0,I.ma⟩,e7,λq hq=>?_⟩
 ·rw[e3]
  rcases ha with h | ⟨x,h⟩
  ·rw[h];omega
  ·rw[h]
   have:=JZ a.gt.all n x
   omega
 ·unfold gK at hq
  rw[e3]at hq
  rcases ha with h | ⟨x,h⟩
  ·rw[h]at hq
   have:=hB q hq;omega
  ·rw[h]at hq
   obtain⟨p,hp,rfl⟩:=List.mem_map.1 hq
   rcases Zq hp with rfl | hp
   ·dsimp only;omega
   ·have:=hB p.1 (List.mem_map.2 ⟨p,hp,rfl⟩);omega
def ML:∀{ids:List Int}{all:jD}{out:List yo},(∀q∈ids,(zm all q).isSome=true)→(jK ids all out).1.map (·.1)=all.map (·.1)
 | [],_,_,_=>rfl
 | x::ids,all,out,h=>by
  unfold jK
  obtain⟨v,hv⟩:=Option.isSome_iff_exists.1 (h x (by simp))
  split
  ·exact(ML λq hq=>qe _ _ _ _ (h q (by simp[hq]))).trans (Qy hv)
  ·exact ML λq hq=>h q (by simp[hq])
def il{c:Cfg}{m:Nat}{a:zK}(I:FI c m a){k id:Int}(hk:k=7∨k=8)(hid:1≤id∧id≤1000):FI c m (zG a (evN k id)).1∧(zG a (evN k id)).1.now=a.now∧gK (zG a (evN k id)).1=gK a:=by
 have hch:Zy (evN k id)=0:=NH (by omega) ⟨hid.1,by omega⟩
 rw[FW hch (by rcases hk with rfl | rfl;exact .inl rfl;exact .inr rfl)]
 cases hf:Xn a.fl.l id with
 | none=>
  have e:Jo a.fl id=(a.fl,[],6):=by unfold Jo;rw[hf]
  unfold Ul
  dsimp only
  rw[e,if_pos (show(6:Int)≠0 by decide)]
  exact⟨I,rfl,rfl⟩
 | some x=>
  have hg:=eY I.g hf
  obtain⟨hm,-⟩:=jf hf
  have e:Jo a.fl id=({ a.fl with l:=YL a.fl.l id λp=>(yi p).1 },x.pod.reqs,0):=by unfold Jo;rw[hf]
  have hkeys:(oA a.gt x.pod.reqs).1.all.map (·.1)=a.gt.all.map (·.1):=ML λq hq=>by
   rw[(I.g.C.hold q).1 (by rw[xx I.g.C.ok.once hm hq];rfl)];rfl
  have hfl:=fR a.fl.l id λp=>(yi p).1
  unfold Ul
  dsimp only
  rw[e]at hg ⊢
  dsimp only at hg ⊢
  rw[if_neg (show ¬(0:Int)≠0 by decide)]
  dsimp only
  refine⟨⟨hg,I.bk,I.by',I.ro,I.sh,I.pat,?_,I.rm,?_,I.c0,I.ma⟩,rfl,hkeys⟩
  ·have:=congrArg List.length hkeys
   rw[List.length_map,List.length_map]at this
   have h:=I.len
   dsimp only
   omega
  ·have:=I.fl
   dsimp only
   omega
structure DJ(c:Cfg)(m:Nat)(K:List Int)(W0:Nat)(n0:Int)(j:Nat)(a:zK):Prop where
 I:FI c m a
 now:a.now=n0+j
 k:gK a=K
 R:1≤j→Hf a.fl
 w:(ln a.gt wv).length+min W0 ((j-1)*(cc c).toNat)≤W0
 z:2≤j→W0≤(j-2)*(cc c).toNat→∀q,zm a.gt.all q≠some (wv,1)
def iy{ks:Int→Bool}(hks:(ks 5&&ks 6&&ks 9&&ks 12&&ks 13)=true){c:Cfg}{m:Nat}{K:List Int}{W0:Nat}{n0:Int}{j k:Nat}{a:zK}(J:DJ c m K W0 n0 j a)(okS:SOk a)(inv:yI k a)(hk:k≤9000)(hn:n0+j+1<50)(hm:m≤33) :
  BS ks a∧a.sh.n<99∧DJ c m K W0 n0 (j+1) (rnd a)∧(∀s∈vk a,okL s)∧(vk a).length≤10000:=by
 obtain⟨I,hnow,hk2,hR,hw,hz⟩:=J
 obtain⟨r1,r2,r3,r4,r5,r6,r7,r8,r9,r10⟩:=Ed hks I inv okS hk (by rw[hnow];exact hn) hm
 refine⟨r1,by rw[I.sh];decide,⟨r2,by rw[r3,hnow];omega,r6.trans hk2,λ_=>r7,?_,λh2 hW=>?_⟩,r4,r5⟩
 ·show(ln (rnd a).gt wv).length+min W0 (j*(cc c).toNat)≤W0
  cases j with
  | zero=>simp at hw ⊢;omega
  | succ j=>
   have e:(j+1)*(cc c).toNat=j*(cc c).toNat+(cc c).toNat:=by rw[Nat.add_mul,Nat.one_mul]
   have e2:(j+1-1)*(cc c).toNat=j*(cc c).toNat:=rfl
   rw[e2]at hw
   rw[e]
   generalize j*(cc c).toNat=t at *
   by_cases hl:ln a.gt wv = []
   ·rw[hl,List.length_nil]at r8
    omega
   ·have:=r9 (hR (by omega)) hl
    omega
 ·have hj:1≤j:=by omega
  have e:j+1-2=j-1:=by omega
  rw[e]at hW
  refine r10 (List.length_eq_zero_iff.1 ?_)
  omega
def z0H{c:Cfg}{m:Nat}{K:List Int}{W0:Nat}{n0:Int}{a:zK}(J:DJ c m K W0 n0 ((W0+(cc c).toNat-1)/(cc c).toNat+2) a):QV a.gt.all 2=0∧QV a.gt.all 1=0∧a.gt.all.length=K.length∧QV a.gt.all 3+QV a.gt.all 4=K.length:=by
 have hc:=J.I.c0
 have hdiv:W0≤(W0+(cc c).toNat-1)/(cc c).toNat*(cc c).toNat:=by
  have hp:0<(cc c).toNat:=by omega
  have h1:=Nat.div_add_mod (W0+(cc c).toNat-1) (cc c).toNat
  have h2:=Nat.mod_lt (W0+(cc c).toNat-1) hp
  rw[Nat.mul_comm]at h1
  generalize (W0+(cc c).toNat-1)%(cc c).toNat=u at *
  generalize (W0+(cc c).toNat-1)/(cc c).toNat*(cc c).toNat=t at *
  omega
 have hz:=J.z (Nat.le_add_left 2 _) (by simpa using hdiv)
 have hw:=J.w
 have hl:ln a.gt wv = []:=by
  apply List.length_eq_zero_iff.1
  have e:(W0+(cc c).toNat-1)/(cc c).toNat+2-1=(W0+(cc c).toNat-1)/(cc c).toNat+1:=rfl
  rw[e,Nat.add_mul]at hw
  generalize (W0+(cc c).toNat-1)/(cc c).toNat*(cc c).toNat=t at *
  omega
 have C:=J.I.g.C
 have hst:∀p∈a.gt.all,p.2.2=3∨p.2.2=4:=λp hp=>by
  have hg:zm a.gt.all p.1=some p.2:=Vg C.knd hp
  rcases C.st p hp with h | h | h | h
  ·exfalso
   have h1:=C.st1 p hp h
   refine hz p.1 ?_
   rw[hg]
   exact congrArg some (Prod.ext h1 h)
  ·exfalso
   have h1:=C.st2 p hp h
   have h2:=(C.line p.1).2 (by rw[hg];exact congrArg some (Prod.ext h1 h))
   have hl:zp a.gt.lines wv = []:=hl
   rw[hl]at h2;cases h2
  ·exact .inl h
  ·exact .inr h
 have c1:∀q:Int,q≠3→q≠4→QV a.gt.all q=0:=λq h3 h4=>by
  unfold QV
  rw[List.filter_eq_nil_iff.2,List.length_nil]
  intro p hp
  rcases hst p hp with h | h<;>(rw[h];simp;omega)
 have c2:a.gt.all.length=K.length:=by
  have:=congrArg List.length J.k
  rw[List.length_map]at this
  exact this
 have c3:∀l:jD,(∀p∈l,p.2.2=3∨p.2.2=4)→QV l 3+QV l 4=l.length:=by
  intro l
  induction l with
  | nil=>intro _;rfl
  | cons p l ih=>
   intro h
   have h1:=ih λx hx=>h x (by simp[hx])
   unfold QV at h1 ⊢
   rw[List.filter_cons,List.filter_cons,List.length_cons]
   rcases h p (by simp)with h2 | h2
   ·rw[h2,if_pos (by decide),if_neg (by decide),List.length_cons];omega
   ·rw[h2,if_neg (by decide),if_pos (by decide),List.length_cons];omega
 exact⟨c1 2 (by decide) (by decide),c1 1 (by decide) (by decide),c2,by rw[c3 _ hst,c2]⟩
def tN(r:Int)(n:Nat)(conc:Int):ze:=⟨r,n,(List.range n).map λi:Nat=>⟨(i:Int)+1,wv,⟨if i=0 then 2 else 1,conc,[]⟩⟩⟩
def foA(r:Int)(n:Nat)(want img conc mi max grace:Int):zK:=
 ⟨⟨[(uO,CC (Kz img conc mi max grace) 1 1 true)],[(yS,⟨rtF,2,1,true⟩)],2⟩,⟨[(wv,WT wv 1 (Kz img conc mi max grace))],[(wv,true)]⟩,
  ftR,tN r n conc,⟨[],[(wv,[])],8,50⟩,[(wv,⟨[],want,0⟩)],0⟩
def foM(mi:Int):Nat:=if mi≤0 then 1 else mi.toNat
def foN(r mi:Int):Nat:=if r.toNat≤foM mi then r.toNat else foM mi
abbrev foS(r img conc mi max grace:Int)(b4:Nat):Prop:=
  zE (z2u r 8 50 (Kz img conc mi max grace)) (Vx b4 (Kz img conc mi max grace)).tail=foA r (foN r mi) (foM mi) img conc mi max grace
def ij(img conc max grace:Int)(b4:Nat){r mi:Int}(hr:1≤r∧r≤10)(hm:0≤mi∧mi≤10):foS r img conc mi max grace b4:=by
 rcases(show mi=0∨mi=1∨mi=2∨mi=3∨mi=4∨mi=5∨mi=6∨mi=7∨mi=8∨mi=9∨mi=10 by omega)with rfl | rfl | rfl | rfl | rfl | rfl | rfl | rfl | rfl | rfl | rfl
 all_goals rcases(show r=1∨r=2∨r=3∨r=4∨r=5∨r=6∨r=7∨r=8∨r=9∨r=10 by omega)with rfl | rfl | rfl | rfl | rfl | rfl | rfl | rfl | rfl | rfl
 all_goals (show zE _ _=foA _ _ _ _ _ _ _ _;kernel_rfl)
def Ec(img conc max grace:Int)(b4:Nat){r mi:Int}(hr:1≤r∧r≤10)(hm:0≤mi∧mi≤10)(hc:Xw (Kz img conc mi max grace)=0) :
  zE (vq r 8 50) (Vx b4 (Kz img conc mi max grace))=foA r (foN r mi) (foM mi) img conc mi max grace:=by
 have h1:=z3F (a:=vq r 8 50) (ver:=0) (c:=Kz img conc mi max grace) ⟨by decide,by decide⟩ hc (by rfl)
 have e:(zG (vq r 8 50) (evC 0 (Kz img conc mi max grace))).1=z2u r 8 50 (Kz img conc mi max grace):=by rw[h1];rfl
 show zE (vq r 8 50) (evC 0 (Kz img conc mi max grace)::(Vx b4 (Kz img conc mi max grace)).tail)=_
 rw[uN,e]
 exact ij img conc max grace b4 hr hm
def z0y{r mi:Int}(hr:1≤r):(foN r mi:Int)≤r:=by
 unfold foN
 split<;>omega
def Pq{r:Int}{n:Nat}{conc:Int}{x:Zh}(h:x∈(tN r n conc).l):∃i:Nat,i<n∧x=⟨(i:Int)+1,wv,⟨if i=0 then 2 else 1,conc,[]⟩⟩:=by
 unfold tN at h
 obtain⟨i,hi,rfl⟩:=List.mem_map.1 h
 exact⟨i,List.mem_range.1 hi,rfl⟩
def ik{r:Int}{n:Nat}{want img conc mi max grace:Int}(hr:1≤r∧r≤10)(hn:(n:Int)≤r)(hc:1≤conc)(hma:1≤max):FI (Kz img conc mi max grace) 0 (foA r n want img conc mi max grace):=by
 have hw:∀q,Zw (tN r n conc).l q=none:=λq=>by
  unfold Zw
  rw[List.find?_eq_none]
  intro x hx
  obtain⟨i,-,rfl⟩:=Pq hx
  simp
 have hL:∀k,zp [(wv,([]:List (Int×Int)))] k = []:=λk=>by
  unfold zp
  cases h:zm [(wv,([]:List (Int×Int)))] k with
  | none=>rfl
  | some v=>
   have:=yK h
   rw[List.mem_singleton]at this
   cases this;rfl
 refine⟨⟨⟨⟨?_,?_,?_,?_,?_,?_,?_⟩,?_,List.nodup_nil,?_,(λp hp=>by cases hp),?_,(λp hp=>by cases hp),?_,(λp hp=>by cases hp),?_⟩,(λk _=>hL k),.inl (hL wv),(λp hp=>by cases hp)⟩,rfl,⟨_,_,_,rfl⟩,rfl,rfl,rfl,Nat.le_refl 0,?_,?_,hc,hma⟩
 ·show(tN r n conc).l.Pairwise _
  unfold tN
  dsimp only
  rw[List.pairwise_map]
  refine List.Pairwise.imp (λ{a b} h=>?_) List.pairwise_lt_range
  dsimp only;omega
 ·intro x hx
  obtain⟨i,hi,rfl⟩:=Pq hx
  show 0<(i:Int)+1∧(i:Int)+1≤(n:Int)
  omega
 ·intro x hx
  obtain⟨i,hi,rfl⟩:=Pq hx
  dsimp only
  split
  ·exact .inr (.inl rfl)
  ·exact .inl rfl
 ·show(tN r n conc).l.Pairwise _
  unfold tN
  dsimp only
  rw[List.pairwise_map]
  refine List.Pairwise.imp (λ{a b} h=>?_) List.pairwise_lt_range
  intro q hq;cases hq
 ·show(tN r n conc).l.length<_
  unfold tN
  simp only[List.length_map,List.length_range];omega
 ·show(0:Int)≤(n:Int);omega
 ·show(n:Int)<_;omega
 ·intro x hx
  obtain⟨i,hi,rfl⟩:=Pq hx
  refine⟨rfl,rfl,List.nodup_nil,by show(0:Int)≤conc;omega,?_,λ_=>rfl⟩
  dsimp only
  intro h
  split at h<;>cases h
 ·intro q
  show(Zw (tN r n conc).l q).isSome=true↔_
  rw[hw q]
  exact⟨(λh=>by cases h),(λh=>by cases h)⟩
 ·intro q
  show q∈(zp [(wv,([]:List (Int×Int)))] wv).map (·.1)↔_
  rw[hL wv]
  exact⟨(λh=>by cases h),(λh=>by cases h)⟩
 ·show((zp [(wv,([]:List (Int×Int)))] wv).map (·.1)).Nodup
  rw[hL wv];exact List.nodup_nil
 ·intro y hy
  have hy:y∈zp [(wv,([]:List (Int×Int)))] wv:=hy
  rw[hL wv]at hy;cases hy
 ·exact hr
 ·show((tN r n conc).l.length:Int)≤r
  unfold tN
  simp only[List.length_map,List.length_range];omega
structure FoL(c:Cfg)(m n:Nat)(B:Int)(a:zK):Prop where
 I:FI c m a
 now:0≤a.now∧a.now≤n
 gr:a.gt.room=8
 ids:∀q∈gK a,q<B
def FoL.mono{c:Cfg}{m n m' n':Nat}{B B':Int}{a:zK}(L:FoL c m n B a)(h1:m≤m')(h2:n≤n')(h3:B≤B'):FoL c m' n' B' a:=
 ⟨{ L.I with len:=Nat.le_trans L.I.len h1 },⟨L.now.1,by have:=L.now.2;omega⟩,L.gr,λq hq=>by have:=L.ids q hq;omega⟩
def CB{now:Int}:∀{ks:List B0}{G:Ze}{out:List yo},(uM now ks G out).1.room=G.room
 | [],_,_=>rfl
 | k::ks,G,out=>(CB (ks:=ks) (G:=tick1 now k G)).trans rfl
def eR{c:Cfg}{m n:Nat}{B:Int}{a:zK}(L:FoL c m n B a)(hn:n+1<50):FoL c m (n+1) B (zG a (kG 9)).1:=by
 have h0:=L.now
 obtain⟨h1,h2,-,h4,-⟩:=Br L.I (by omega)
 refine⟨h1,by omega,?_,λq hq=>L.ids q ?_⟩
 ·rw[FU iA rfl]
  unfold xZ
  rw[if_neg (by omega)]
  exact Eq.trans CB L.gr
 ·unfold gK at hq ⊢
  rw[h4]at hq;exact hq
def Ae{c:Cfg}{m n k:Nat}{B:Int}{a:zK}(L:FoL c m n B a)(inv:yI k a):FoL c m n B (zG a (xG 12 wv)).1:=by
 obtain⟨h1,-,h3,h4,-⟩:=Lt L.I inv
 exact⟨h1,by rw[h4];exact L.now,by rw[h3];exact L.gr,λq hq=>L.ids q (by unfold gK at hq ⊢;rw[h3]at hq;exact hq)⟩
def eU{c:Cfg}{m n k:Nat}{B:Int}{a:zK}(L:FoL c m n B a)(inv:yI k a)(hk:k≤9000):FoL c m n B (zG a (xG 13 wv)).1:=by
 have hl:=inv.fl.last
 obtain⟨h1,h3,h4,-⟩:=Bs L.I (by omega)
 exact⟨h1,by rw[h4];exact L.now,by rw[h3];exact L.gr,λq hq=>L.ids q (by unfold gK at hq ⊢;rw[h3]at hq;exact hq)⟩
def eW{c:Cfg}{m n:Nat}{B:Int}{a:zK}(L:FoL c m n B a){k id:Int}(hk:k=7∨k=8)(hid:1≤id∧id≤1000):FoL c m n B (zG a (evN k id)).1:=by
 obtain⟨h1,h2,h3⟩:=il L.I hk hid
 refine⟨h1,by rw[h2];exact L.now,?_,λq hq=>L.ids q (by rw[h3]at hq;exact hq)⟩
 have hch:Zy (evN k id)=0:=NH (by omega) ⟨hid.1,by omega⟩
 rw[FW hch (by rcases hk with rfl | rfl;exact .inl rfl;exact .inr rfl)]
 unfold Ul
 split
 ·exact L.gr
 ·exact L.gr
def Bp{c:Cfg}{m n:Nat}{B:Int}{a:zK}(L:FoL c m n B a){N d:Int}(hN:1≤N∧N≤2000)(hd:0≤d∧d≤999)(hB:B≤N):FoL c (m+1) n (N+1) (zG a (Kv N yS s_ d)).1:=by
 obtain⟨h1,h2,h3⟩:=z0A L.I hN hd L.ids hB L.now.1
 refine⟨h1,by rw[h2];exact L.now,?_,h3⟩
 have hch:Zy (Kv N yS s_ d)=0:=IQ (by decide +kernel) (.inl rfl) ⟨hN.1,by omega⟩ ⟨hd.1,by omega⟩
 rw[pN hch rfl]
 have e:(arG a (Kv N yS s_ d)).2.1.room=a.gt.room:=by
  unfold arG VB
  repeat' split
  all_goals rfl
 unfold YN
 split<;>exact e.trans L.gr
def ib{c:Cfg}{m n:Nat}{B:Int}{a:zK}(L:FoL c m n B a){e:AEv}(h:Zy e≠0):FoL c m n B (zG a e).1:=by
 rw[Od h];exact L
def Ew{n d:Int}(hd:d<0):Zy (Kv n yS s_ d)≠0:=by
 have hdd:wiB d 0 2147483647=false:=by unfold wiB;simp;omega
 unfold Zy
 have hp:shp 4=((true,true,true,true,false,false,()),true):=rfl
 simp only[hp]
 rw[if_neg (by decide)]
 unfold wQ
 rw[hdd]
 repeat' split
 all_goals first | decide | skip
 all_goals simp_all
def eV{c:Cfg}{m n:Nat}{B:Int}{a:zK}(L:FoL c m n B a)(ok:SOk a):(ln a.gt wv).length≤8:=by
 unfold ln zp
 cases h:zm a.gt.lines wv with
 | none=>decide
 | some l=>
  have:=ok.gt.ln (wv,l) (yK h)
  rw[L.gr]at this
  exact Int.ofNat_le.1 this
def z2I{cc:Int}(h:1≤cc∧cc≤8){W:Nat}(hW:W≤8):rnP cc (W:Int)=(((W+cc.toNat-1)/cc.toNat+2:Nat):Int):=by
 have h1:cc=1∨cc=2∨cc=3∨cc=4∨cc=5∨cc=6∨cc=7∨cc=8:=by omega
 have h2:W=0∨W=1∨W=2∨W=3∨W=4∨W=5∨W=6∨W=7∨W=8:=by omega
 rcases h1 with rfl | rfl | rfl | rfl | rfl | rfl | rfl | rfl<;>(rcases h2 with rfl | rfl | rfl | rfl | rfl | rfl | rfl | rfl | rfl<;>decide +kernel)
def ig{cc:Int}(h:1≤cc){W:Nat}(hW:W≤8):(W+cc.toNat-1)/cc.toNat+2≤10:=by
 have:(W+cc.toNat-1)/cc.toNat<W+1:=by
  rw[Nat.div_lt_iff_lt_mul (by omega),Nat.add_mul]
  have:W*1≤W*cc.toNat:=Nat.mul_le_mul_left W (by omega)
  omega
 omega
end Go.Proofs.YtdcdhcgmeahfmaaGreatDoor
namespace Go.Proofs.YtdcdhcgmeahfmaaGreatDoor
open Go.Dm
attribute [local irreducible] L.load L.store L.chk L.new L.nonnil L.guard L.ite L.draw L.idx L.sem L.semR L.semU L.chkSem L.next L.call L.callV L.join L.alts L.loop L.begin L.endRound L.range
variable {w0 w:World}{E:List Seg}
abbrev Rx(k:Int):Bool:=k == 1||k == 2||k == 4||k == 5||k == 6||k == 8||k == 9||k == 10||k == 11||k == 12||k == 13
instance knFo [Jp w0]:Kn w0 Rx:=⟨by
 intro E w h i b a s hi hs e hks hb ev k0 inv hk0 hn k hk
 have hc:e.kind=1∨e.kind=2∨e.kind=4∨e.kind=5∨e.kind=6∨e.kind=8∨e.kind=9∨e.kind=10∨e.kind=11∨e.kind=12∨e.kind=13:=by simpa [Rx,or_assoc]using hks
 rcases hc with hc | hc | hc | hc | hc | hc | hc | hc | hc | hc | hc
 ·exact z3f h i hi hs hb hc ev inv hk0 hn hk
 ·exact z3e h i hi hs hb hc ev inv hk0 hn hk
 ·exact z3d h i hi hs hb hc ev inv hk0 hn hk
 ·exact z3c h i hi hs hb hc ev inv hk0 hn hk
 ·exact z3b h i hi hs hb hc ev inv hk0 hn hk
 ·exact z3a h i hi hs hb hc ev inv hk0 hn hk
 ·exact z39 h i hi hs hb hc ev inv hk0 hn hk
 ·exact z1m h i hi hs hb hc ev inv hk0 hn hk
 ·exact z1l h i hi hs hb hc ev inv hk0 hn hk
 ·exact z1k h i hi hs hb hc ev inv hk0 hn hk
 ·exact z1j h i hi hs hb hc ev inv hk0 hn hk⟩
def BN [Jp w0]{ks:Int→Bool}[Kn w0 ks](h:St w0 E w)(i:Nat){b:Nat}{a:zK}{s:Seg}(hi:nth E i=some s)(hs:yN b a s){e:AEv}(hks:ks e.kind=true)(ev:UL w0 E i e){k0:Nat}(inv:yI k0 a)(hk0:k0≤9000)(hn:a.sh.n<99){k:Sl→PT}(hk:HkI w0 E i b (k0+2) (zG a e) k) :
  L.call Pr zq [pO b,evV e] (.one (.one .slice)) k w:=by
 by_cases hb:Zy e=0
 ·exact EZ h i hi hs hks hb ev inv hk0 hn hk
 ·exact Iv h i hi hs hb ev inv hk0 hn hk
def z0h{s:B0}(h:okL s)(n:Nat)(hn:s.size>n):((s.extract (Int.toNat 0) (n+1)).toList == Gk.toList)=false:=by
 rw[JR]
 refine decide_eq_false λe=>?_
 have e1:=congrArg (λb:B0=>b.data.toList.head?) e
 rw[data_extract]at e1
 unfold okL at h
 cases hl:s.data.toList with
 | nil=>
  have:s.data.toList.length=0:=by rw[hl];rfl
  rw[xw]at this
  omega
 | cons x t=>
  rw[hl]at e1 h
  simp only[Int.toNat_zero,List.drop_zero,Nat.sub_zero,List.take_succ_cons,List.head?_cons]at e1 h
  exact h (e1.trans rfl)
set_option maxRecDepth 20000 in
def EE [Jp w0](c:Cfg)(x1:Int)(p2:Sl)(x3:Int){ls:List Int}(o:Old w0 eI p2 ls):Calls Pr Ve #[.agg (Cfg.cells c).toArray,I x1,SlV p2,I x3] w0 λe w'=>e = .returned (.bool true)∧St w0 [] w':=by
 refine z0u (args:=[.agg (Cfg.cells c).toArray,I x1,SlV p2,I x3]) (FG c x1 p2 x3) ?_
 unfold Vt
 have h:=St.init w0
 refine nw h ?_;clear h;intro b1 w h
 refine AN h λw h=>itF rfl ?_
 (refine laC h ?_)
 refine AM (c:=c) (n:=0) h λw h=>?_
 have hcc:=HP c 0
 have hcn:(aO c 0).1=uO:=rfl
 generalize aO c 0=d at *
 obtain⟨dn,img,conc,mi,max,grace,⟨⟩⟩:=d
 simp only at hcn
 subst hcn
 have hnum:=(Qo hcc).2
 change (0≤img∧img≤255)∧(1≤conc∧conc≤8)∧(1≤max∧max≤10)∧(0≤mi∧mi≤max)∧(0≤grace∧grace≤30)at hnum
 have hsp:Xw (Kz img conc mi max grace)=0:=hcc
 refine nw h ?_;clear h;intro b5 w h
 (refine stC h ?_;clear h;intro w h;dsimp only[zP,zd]at h)
 refine gT (by decide) (by decide) ?_
 have er:Wi (1+x1%10)=1+x1%10:=wr (by omega) (by omega)
 rw[er]
 obtain⟨r,hr⟩:∃r,r=1+x1%10:=⟨_,rfl⟩
 have hr10:1≤r∧r≤10:=by omega
 rw[←hr]
 clear er hr
 have hnew:de r 8 50=true:=by
  unfold de wiB
  simp only[Bool.and_eq_true,decide_eq_true_eq]
  omega
 refine LM h (λhh=>by rw[hnew]at hh;cases hh) λ_ b s w hs h=>itF rfl (itF rfl ?_)
 have inv0:yI 0 (vq r 8 50):=HN hnew (by omega)
 (refine laC h ?_)
 refine nw h ?_;clear h;intro b9 w h
 refine nw h ?_;clear h;intro b10 w h
 have h:St w0 (evB b10 (Vx b9 (Kz img conc mi max grace))::[Cl b9 zH [.string s_,.string s_,I 100]]::s::[Cl b5 zx (Cfg.cells (Kz img conc mi max grace))]::[Cl b1 zx (Cfg.cells c)]::[]) w:=h
 have h:=ZM h
 have ev:∀e∈Vx b9 (Kz img conc mi max grace),∀s,UL w0 (s::evB b10 (Vx b9 (Kz img conc mi max grace))::[Cl b9 zH [.string s_,.string s_,I 100]]::[Cl b5 zx (Cfg.cells (Kz img conc mi max grace))]::[Cl b1 zx (Cfg.cells c)]::[]) 0 e:=λe he s=>z0a e he
 refine rH (ks:=Rx) (n:=6) (l:=Vx b9 (Kz img conc mi max grace)) rfl (by decide) h hs (z2t rfl hsp) ev inv0 (by decide) (show(vq r 8 50).sh.n+((6:Nat):Int)<99 by show(0:Int)+6<99;decide) λs w hs inv h=>?_
 rw[Ec img conc max grace b9 hr10 ⟨hnum.2.2.2.1.1,Int.le_trans hnum.2.2.2.1.2 hnum.2.2.1.2⟩ hsp]at hs inv
 have L0:FoL (Kz img conc mi max grace) 0 0 1 (foA r (foN r mi) (foM mi) img conc mi max grace):=⟨ik hr10 (z0y hr10.1) hnum.2.1.1 hnum.2.2.1.1,⟨Int.le_refl 0,Int.le_refl 0⟩,rfl,λq hq=>by cases hq⟩
 generalize foA r (foN r mi) (foM mi) img conc mi max grace=a0 at *
 clear inv0 ev hr10 hnew
 have h:=Yf (Yf h)
 have hc1: @LE.le Int _ 1 conc∧@LE.le Int _ conc 8:=hnum.2.1
 generalize hcq:Kz img conc mi max grace=cq at *
 have hcq2:cc cq=conc:=by rw[←hcq];rfl
 generalize hE0:[Cl b1 zx (Cfg.cells c)]::[]=E0 at *
 refine ZU (λ_ w=>∃(n:Nat)(a:zK)(s:Seg),n≤25∧FoL cq 25 25 (n+1) a∧yN b a s∧yI 62 a∧St w0 (s::[Cl b5 zx (Cfg.cells cq)]::E0) w) (λk16 hk16=>?_) ?_
 ·refine zW (λq y w=>∃(i n:Nat)(a:zK)(s:Seg),y=(((n+1:Nat):Int),(i:Int),())∧q+i=25∧n≤i∧FoL cq i i (n+1) a∧yN b a s∧yI (12+2*i) a∧St w0 (s::[Cl b5 zx (Cfg.cells cq)]::E0) w) 25 ⟨0,0,a0,s,rfl,rfl,Nat.le_refl 0,L0,hs,inv,h⟩ ?_
  clear hs inv L0 a0
  clear h
  rintro q y w ⟨i,n,a,s,rfl,hq,hni,L,hs,inv,h⟩ again hag
  (try dsimp only)
  have done:k16 () w:=hk16 () w ⟨n,a,s,by omega,L.mono (by omega) (by omega) (Int.le_refl _),hs,inv.mono (by omega),h⟩
  refine it (λhb=>?_) (λ_=>done)
  refine it (λhb2=>?_) (λ_=>done)
  clear done
  have hi:i<25:=by have:=of_decide_eq_true hb2;omega
  have hil:(i:Int)<p2.len:=by simpa using hb
  clear hb hb2
  refine z2E o h (by omega) (by(try dsimp only);omega) λx hx=>?_
  refine gd (by decide) ?_
  refine gd (by decide) ?_
  refine nw h ?_;clear h;intro b22 w h
  have hsh:a.sh.n<99:=by rw[L.I.sh];decide
  (refine stC h ?_;clear h;intro w h;dsimp only[zP,zd]at h)
  refine ZU (λ(z:Int×Unit) w=>∃(e:AEv)(n':Nat),z=(((n'+1:Nat):Int),())∧n'≤i+1∧Rx e.kind=true∧e.v=wC∧e.r=vp∧(e.kind=12∨e.kind=13→Fc e.name)∧FoL cq (i+1) (i+1) (n'+1) (zG a e).1∧
   St w0 ([Cl b22 zC (eEv e)]::s::[Cl b5 zx (Cfg.cells cq)]::E0) w) (λk23 hk23=>?_) ?_
  ·refine z2E o h (by omega) (by(try dsimp only);omega) λx' hx'=>?_
   rw[hx]at hx'
   cases hx'
   refine gT (by decide) (by decide) ?_
   refine it (λh0=>?_) (λh0=>?_)<;>(try simp only[zB]at h0)
   ·(refine stC h ?_;clear h;intro w h;dsimp only[zP,zd]at h)
    exact hk23 _ w ⟨kG 9,n,rfl,by omega,rfl,rfl,rfl,λh=>absurd h (show ¬((9:Int)=12∨(9:Int)=13)by decide),(eR L (by omega)).mono (by omega) (by omega) (Int.le_refl _),h⟩
   refine it (λh1=>?_) (λh1=>?_)<;>(try simp only[zB]at h1)
   ·(refine stC h ?_;clear h;intro w h;dsimp only[zP,zd]at h)
    exact hk23 _ w ⟨xG 12 wv,n,rfl,by omega,rfl,rfl,rfl,λ_=>fC,(Ae L inv).mono (by omega) (by omega) (Int.le_refl _),h⟩
   refine it (λh2=>?_) (λh2=>?_)<;>(try simp only[zB]at h2)
   ·(refine stC h ?_;clear h;intro w h;dsimp only[zP,zd]at h)
    exact hk23 _ w ⟨xG 13 wv,n,rfl,by omega,rfl,rfl,rfl,λ_=>fC,(eU L inv (by omega)).mono (by omega) (by omega) (Int.le_refl _),h⟩
   refine it (λh3=>?_) (λh3=>?_)<;>(try simp only[zB]at h3)
   ·refine gT (by decide) (by decide) ?_
    have e9:Wi (1+Wi (Int.tdiv x 7)%9)=1+Wi (Int.tdiv x 7)%9:=wr (by omega) (by omega)
    rw[e9]
    (refine stC h ?_;clear h;intro w h;dsimp only[zP,zd]at h)
    exact hk23 _ w ⟨evN 8 (1+Wi (Int.tdiv x 7)%9),n,rfl,by omega,rfl,rfl,rfl,λh=>absurd h (show ¬((8:Int)=12∨(8:Int)=13)by decide),(eW L (.inr rfl) (by omega)).mono (by omega) (by omega) (Int.le_refl _),h⟩
   have e2:Wi (((n+1:Nat):Int)+1)=((n+1+1:Nat):Int):=by rw[wr (by omega) (by omega)];omega
   rw[e2]
   refine hk23 _ w ⟨Kv ((n+1:Nat):Int) yS s_ (Int.tmod (Wi (Int.tdiv x 7)) 1000),n+1,rfl,by omega,rfl,rfl,rfl,λh=>absurd h (show ¬((4:Int)=12∨(4:Int)=13)by decide),?_,h⟩
   have hlt:Int.tmod (Wi (Int.tdiv x 7)) 1000<1000:=Int.tmod_lt_of_pos _ (by decide)
   rcases Int.lt_or_le (Int.tmod (Wi (Int.tdiv x 7)) 1000) 0 with hd | hd
   ·exact(ib L (Ew hd)).mono (by omega) (by omega) (by omega)
   ·exact(Bp L (N:=((n+1:Nat):Int)) ⟨by omega,by omega⟩ ⟨hd,by omega⟩ (by omega)).mono (by omega) (by omega) (by omega)
  clear h
  rintro z w ⟨e,n',rfl,hn',hk,hv,hr,hrn,L',h⟩
  (try dsimp only)
  unfold eEv at h
  (refine laC h ?_)
  refine BN (ks:=Rx) (e:=e) h 1 rfl hs hk (UL.plain hv hr hrn) inv (by omega) hsh λv sv s' w r hs inv h=>?_
  dsimp only[zd]at h
  refine hag (q-1) _ w (by omega) ⟨i+1,n',_,s',?_,by omega,by omega,L',hs,inv,zl (zl h)⟩
  have e3:Wi ((i:Int)+1)=((i+1:Nat):Int):=by rw[wr (by omega) (by omega)];omega
  show(_,Wi ((i:Int)+1),())=_
  rw[e3]
 clear hs inv L0 h
 clear h
 rintro-w ⟨n,a,s,hn25,L,hs,inv,h⟩
 (try dsimp only)
 replace L:FoL cq 25 25 1000 a:=L.mono (by omega) (by omega) (by omega)
 clear hn25 n
 refine zW (λq y w=>∃(j:Nat)(a:zK)(s:Seg),y=((j:Int),())∧q+j=8∧FoL cq (25+j) 25 (1000+j) a∧yN b a s∧yI (62+2*j) a∧St w0 (s::[Cl b5 zx (Cfg.cells cq)]::E0) w) 8 ⟨0,a,s,rfl,rfl,L,hs,inv,h⟩ ?_
 clear hs inv L h
 clear h
 rintro q y w ⟨j,a,s,rfl,hq,L,hs,inv,h⟩ again hag
 (try dsimp only)
 have hsh:a.sh.n<99:=by rw[L.I.sh];decide
 refine gT (by decide) (by decide) ?_
 refine it (λhb=>?_) (λhb=>?_)
 ·have hb:(j:Int)<x3%8:=of_decide_eq_true hb
  have hj:j<7:=by omega
  have e1:Wi (1000+(j:Int))=1000+(j:Int):=wr (by omega) (by omega)
  rw[e1]
  refine BN (ks:=Rx) (e:=Kv (1000+(j:Int)) yS s_ 0) h 0 rfl hs rfl (UL.plain rfl rfl λh=>absurd h (show ¬((4:Int)=12∨(4:Int)=13)by decide)) inv (by omega) hsh λv sv s' w r hs inv h=>?_
  dsimp only[zd]at h
  refine hag (q-1) _ w (by omega) ⟨j+1,_,s',?_,by omega,(Bp L (N:=1000+(j:Int)) ⟨by omega,by omega⟩ ⟨by decide,by decide⟩ (by omega)).mono (by omega) (by omega) (by omega),hs,inv,zl h⟩
  have e3:Wi ((j:Int)+1)=((j+1:Nat):Int):=by rw[wr (by omega) (by omega)];omega
  rw[e3]
 replace L:FoL cq 33 25 2000 a:=L.mono (by omega) (by omega) (by omega)
 replace inv:yI 78 a:=inv.mono (by omega)
 clear hag hb hq hsh
 have hW:=eV L hs.ok
 refine cr h 0 rfl hs λv1 v2 s1 s2 s' w r1 r2 hs h=>?_
 dsimp only[zd]at h
 change Rw eI zu 1 v1 (Vi a.gt wv) s1 at r1
 have l1:v1.len=(ln a.gt wv).length:=(Rw.len Yt r1).trans (List.length_map ..)
 have h:=zl (zl h)
 clear r1 r2
 obtain⟨W0,hW0⟩:∃W0,W0=(ln a.gt wv).length:=⟨_,rfl⟩
 rw[←hW0]at l1 hW
 rw[←hcq]at h
 (refine ldC h ?_)
 rw[l1]
 refine AQ (a:=conc) (b:=((W0:Nat):Int)) hc1.1 ?_
 rw[z2I hc1 hW]
 have h10:=ig hc1.1 hW
 have hRe:(W0 + @Int.toNat conc-1) / @Int.toNat conc+2=(W0+(cc cq).toNat-1)/(cc cq).toNat+2:=by rw[hcq2]
 generalize (W0 + @Int.toNat conc-1) / @Int.toNat conc+2=R at *
 refine itF (by simp) (itF (by simp;omega) ?_)
 refine ct h 0 rfl hs λs w hs h=>?_
 dsimp only[zd]at h
 have J0:DJ cq 33 (gK a) W0 a.now 0 a:=⟨L.I,by omega,rfl,λh=>by omega,by rw[←hW0];simp,λh=>by omega⟩
 have hnow:=L.now
 refine Wa (ks:=Rx) (n:=R) h hs (by omega) (λj a'=>DJ cq 33 (gK a) W0 a.now j a') okL J0 (λj a' k hj J ok inv hk=>iy rfl J ok inv hk (by omega) (by decide)) inv (by omega) rfl λv3 s3 s4 w a' l r3 hQ hl J hs inv h=>?_
 rw[hRe]at J
 obtain⟨z1,z2,z3,z4⟩:=z0H J
 have hll:=Rw.len ya r3
 have hml:=Rw.cap r3
 refine zW (λq y w=>∃j:Nat,y=((j:Int),())∧q+j=l.length∧St w0 (s3::s4::[Cl b5 zx (Cfg.cells (Kz img conc mi max grace))]::E0) w) l.length ⟨0,rfl,rfl,h⟩ ?_
 clear h
 rintro q y w ⟨j,rfl,hq,h⟩ again hag
 (try dsimp only)
 refine it (λhb=>?_) (λhb=>?_)<;>(try simp only[zB]at hb)
 ·have hj:j<l.length:=by omega
  have hx:l[j]? = some l[j]:=List.getElem?_eq_getElem hj
  have hok:=hQ _ (List.getElem_mem hj)
  generalize l[j]=x at hx hok
  refine ZU (λ_ w=>St w0 (s3::s4::[Cl b5 zx (Cfg.cells (Kz img conc mi max grace))]::E0) w) (λk42 hk42=>?_) ?_
  ·refine Rw.ix ya r3 (by omega) (by simpa using hj) λa44 ha=>?_
   simp only[Int.toNat_natCast]at ha
   refine Rw.ld0 ya h 0 rfl r3 ha (x:=x) hx rfl rfl ?_
   refine it (λhz=>?_) (λhz=>?_)<;>(try simp only[zB]at hz)
   ·refine Rw.ix ya r3 (by omega) (by simpa using hj) λa46 ha=>?_
    simp only[Int.toNat_natCast]at ha
    refine Rw.ld0 ya h 0 rfl r3 ha (x:=x) hx rfl rfl ?_
    refine gd ⟨by decide,by decide,by omega⟩ ?_
    refine itF (z0h hok 7 (by omega)) ?_
    exact hk42 () w h
   ·exact hk42 () w h
  clear h
  rintro-w h
  (try dsimp only)
  have e3:Wi ((j:Int)+1)=((j+1:Nat):Int):=by rw[wr (by omega) (by omega)];omega
  rw[e3]
  exact hag (q-1) _ w (by omega) ⟨j+1,rfl,by omega,h⟩
 ·refine ct h 1 rfl hs λs w hs h=>?_
  have hgk:(gK a).length=a.gt.all.length:=List.length_map ..
  have e4:(QV a'.gt.all 3:Int)+QV a'.gt.all 4=(a.gt.all.length:Int):=by omega
  rw[z1,z2,z3,e4,hgk]
  refine itT (by simp) (itT rfl (itT rfl ?_))
  exact⟨by simp,h.fin⟩
end Go.Proofs.YtdcdhcgmeahfmaaGreatDoor
