/- What is proved on the way to a statement of the seat, pressed (text AB). No conditions beyond those its theorems state. -/
import Derived.Test.YtofigcbhafkikaaGreatGAA
import Derived.OrdersIn
set_option linter.all false
namespace Go.Dm
section
variable {P:Program}{D:Tb}{w w':World}{a:AT}{c:Act}{o:Oper}{K:AT→PT}
def jl{op:BinOp}{t t':TypeId}{x y:Operand}{v:Value}(hop:o.op = .binOp op t x y t')(hg:(eqGuard op t x y (c.eval x) (c.eval y)).run P w = .ok () w)
  (hr:(binOp op t (c.eval x) (c.eval y)).run P w = .ok v w):(execOp c.eval o).run P w = .ok (.value v) w:=by
 simp[execOp,hop,hg,hr]
def kT{op:BinOp}{t t':TypeId}{x y:Operand}{v:Value}(hop:o.op = .binOp op t x y t')(hr:(do eqGuard op t x y (c.eval x) (c.eval y);binOp op t (c.eval x) (c.eval y):Sem Value).run P w = .ok v w) :
  (execOp c.eval o).run P w = .ok (.value v) w:=by
 simp only[execOp,hop];rw[Sem.run_bind,hr];rfl
def fx{t e:TypeId}(hu:P.underlying t=some (.pointer e))(p:Option Addr)(w:World):(Op.equal t (.pointer p) (.pointer none)).run P w = .ok p.isNone w:=by
 have key:∀d,(Op.equalIn (d+1) t (.pointer p) (.pointer none)).run P w = .ok p.isNone w:=by
  intro d;cases p<;>simp[Op.equalIn,run_underlying hu]
 exact key 9999
def gJ{t e:TypeId}(hu:P.underlying t=some (.slice e))(p:Option Addr)(n m n' m':Nat)(w:World):(Op.equal t (.slice p n m) (.slice none n' m')).run P w = .ok p.isNone w:=by
 have key:∀d,(Op.equalIn (d+1) t (.slice p n m) (.slice none n' m')).run P w = .ok p.isNone w:=by
  intro d;cases p<;>simp[Op.equalIn,run_underlying hu]
 exact key 9999
def fy{t k e:TypeId}(hu:P.underlying t=some (.map k e))(p:Option Nat)(w:World):(Op.equal t (.map p) (.map none)).run P w = .ok p.isNone w:=by
 have key:∀d,(Op.equalIn (d+1) t (.map p) (.map none)).run P w = .ok p.isNone w:=by
  intro d;cases p<;>simp[Op.equalIn,run_underlying hu]
 exact key 9999
def fA{t:TypeId}{ms:Array (String×TypeId)}(hu:P.underlying t=some (.interface ms))(p:Option (TypeId×Value))(w:World):(Op.equal t (Lf.val .iface p) .nilIface).run P w = .ok p.isNone w:=by
 have key:∀d,(Op.equalIn (d+1) t (Lf.val .iface p) .nilIface).run P w = .ok p.isNone w:=by
  intro d;cases p<;>simp[Op.equalIn,Lf.val,run_underlying hu]
 exact key 9999
def UI{t:TypeId}{x y:Value}{b:Bool}(h:(Op.equal t x y).run P w = .ok b w)(hb:binOp .eql t x y=(do pure (.bool (←Op.equal t x y)):Sem Value)):(binOp .eql t x y).run P w = .ok (.bool b) w:=by
 rw[hb];simp[h]
def UH{t:TypeId}{x y:Value}{b:Bool}(h:(Op.equal t x y).run P w = .ok b w)(hb:binOp .neq t x y=(do pure (.bool (!(←Op.equal t x y))):Sem Value)):(binOp .neq t x y).run P w = .ok (.bool (!b)) w:=by
 rw[hb];simp[h]
def OI{op:BinOp}{t:TypeId}{x y:Operand}{k k':IntKind}{p q:Int}:(eqGuard op t x y (.int k p) (.int k' q)).run P w = .ok () w:=by
 unfold eqGuard;cases op<;>simp
def OH{op:BinOp}{t:TypeId}{x y:Operand}{p q:B0}:(eqGuard op t x y (.string p) (.string q)).run P w = .ok () w:=by
 unfold eqGuard;cases op<;>simp
def vr{op:BinOp}{t:TypeId}{x y:Operand}{p q:Bool}:(eqGuard op t x y (.bool p) (.bool q)).run P w = .ok () w:=by
 unfold eqGuard;cases op<;>simp
def Vp{op:BinOp}{t:TypeId}{x y:Operand}{p q:Option Addr}:(eqGuard op t x y (.pointer p) (.pointer q)).run P w = .ok () w:=by
 unfold eqGuard;cases op<;>simp
def Ul{op:BinOp}{t:TypeId}{x y:Operand}{p q:Option Addr}{n m n' m':Nat}:(eqGuard op t x y (.slice p n m) (.slice q n' m')).run P w = .ok () w:=by
 unfold eqGuard;cases op<;>simp
def Vq{op:BinOp}{t:TypeId}{x y:Operand}{p q:Option Nat}:(eqGuard op t x y (.map p) (.map q)).run P w = .ok () w:=by
 unfold eqGuard;cases op<;>simp
def Vr{op:BinOp}{t:TypeId}{x y:Operand}{p:Option (TypeId×Value)}(hy:QN y=true):(eqGuard op t x y (Lf.val .iface p) .nilIface).run P w = .ok () w:=by
 cases y<;>simp[QN]at hy
 unfold eqGuard
 cases p<;>cases op<;>simp[Lf.val]
def Vs{op:BinOp}{t:TypeId}{x y x' y':Operand}{p q:Array Value}:eqGuard op t x y (.agg p) (.agg q)=eqGuard op t x' y' (.agg p) (.agg q):=by
 unfold eqGuard;rfl
def oc{op:BinOp}{t:TypeId}{x y:Operand}{t':TypeId}(h:ok a c)(hd:Dst o c)(hop:o.op = .binOp op t x y t'){k k':IntKind}{p q:Int}
  (hx:c.eval x = .int k p) (hy:c.eval y = .int k' q) (hk:Zl P D o a op t y (.v (.int k p)) (.v (.int k' q)) K w):ZD P o c w (Nx K c):=by
 have fin:∀v,(binOp op t (.int k p) (.int k' q)).run P w = .ok v w→K (Zz a o v) w→ZD P o c w (Nx K c):=λv hr hk=>
  zX h hd (.v v) (jl hop (by rw[hx,hy];exact OI) (by rw[hx,hy];exact hr)) rfl hk
 simp only[Zl]at hk
 cases op with
 | shl=>
  obtain⟨h0,hk⟩:=hk;exact fin _ (by simp[binOp,Op.shift,h0,Int.not_lt.2 h0]) hk
 | shr=>
  obtain⟨h0,hk⟩:=hk;exact fin _ (by simp[binOp,Op.shift,h0,Int.not_lt.2 h0]) hk
 | quo=>
  dsimp only at hk;split at hk
  ·rename_i e;subst e;obtain⟨h0,hk⟩:=hk;exact fin _ (by simp[binOp,Op.intDiv,h0]) hk
  ·exact False.elim hk
 | rem=>
  dsimp only at hk;split at hk
  ·rename_i e;subst e;obtain⟨h0,hk⟩:=hk;exact fin _ (by simp[binOp,Op.intDiv,h0]) hk
  ·exact False.elim hk
 | andNot=>
  dsimp only[gB]at hk;split at hk<;>exact False.elim hk
 | _=>
  dsimp only[gB]at hk;split at hk
  ·rename_i e;subst e;exact fin _ (by simp[binOp,Op.intArith,Op.intCmp,Op.intBits]) hk
  ·exact False.elim hk
def ob{op:BinOp}{t:TypeId}{x y:Operand}{t':TypeId}(h:ok a c)(hd:Dst o c)(hop:o.op = .binOp op t x y t'){p q:B0}
  (hx:c.eval x = .string p) (hy:c.eval y = .string q) (hk:Zl P D o a op t y (.v (.string p)) (.v (.string q)) K w):ZD P o c w (Nx K c):=by
 have fin:∀v,(binOp op t (.string p) (.string q)).run P w = .ok v w→K (Zz a o v) w→ZD P o c w (Nx K c):=λv hr hk=>
  zX h hd (.v v) (jl hop (by rw[hx,hy];exact OH) (by rw[hx,hy];exact hr)) rfl hk
 simp only[Zl]at hk
 cases op with
 | add=>
  obtain⟨h0,hk⟩:=hk;refine fin _ ?_ hk;have:¬(IntKind.max .i64<((p.size+q.size:Nat):Int)):=by
   have e:IntKind.max .i64=Zr:=by decide
   rw[e];exact Int.not_lt.2 h0
  simp only[binOp,Op.stringOp];rw[if_neg this];rfl
 | eql | neq | lss | leq | gtr | geq=>
  dsimp only[GT]at hk;exact fin _ (by simp[binOp,Op.stringOp]) hk
 | _=>exact False.elim hk
def gw(T:YF P D){op:BinOp}{t:TypeId}{x y:Operand}{t':TypeId}(h:ok a c)(hd:Dst o c)(hop:o.op = .binOp op t x y t')(hk:za P D o a K w):ZD P o c w (Nx K c):=by
 simp only[za,hop]at hk;obtain⟨sx,hsx,hk⟩:=zC hk;obtain⟨sy,hsy,hk⟩:=zC hk;have hx:=ya h hsx;have hy:=ya h hsy
 have bools:(match sx.boolOf,sy.boolOf,D.t t with
  | some p,some q,some { d:=.bool,.. }=>match op with
   | .eql=>K (Zz a o (.bool (p == q)))
   | .neq=>K (Zz a o (.bool (!(p == q))))
   | _=>bad
  | _,_,_=>bad) w→ZD P o c w (Nx K c):=by
  intro hk
  cases h1:sx.boolOf with
  | none=>rw[h1]at hk;exact False.elim hk
  | some p=>cases h2:sy.boolOf with
   | none=>rw[h1,h2]at hk;exact False.elim hk
   | some q=>cases hD:D.t t with
    | none=>rw[h1,h2,hD]at hk;exact False.elim hk
    | some ti=>
     rw[h1,h2,hD]at hk;obtain⟨i1,d,hi1,hu,hd1,hsz,he,hz⟩:=Da T hD;obtain⟨td,m,e1,z⟩:=ti;rw[Qg h1]at hx;rw[Qg h2]at hy
     cases td with
     | bool=>
      obtain rfl:=Or hd1
      cases op with
      | eql=>exact zX h hd (.v (.bool (p == q))) (jl hop (by rw[hx,hy];exact vr) (by rw[hx,hy];exact run_eql_bool _ _ _ _ hu)) rfl hk
      | neq=>exact zX h hd (.v (.bool (!(p == q)))) (jl hop (by rw[hx,hy];exact vr) (by rw[hx,hy];exact run_neq_bool _ _ _ _ hu)) rfl hk
      | _=>exact False.elim hk
     | _=>exact False.elim hk
 cases sx with
 | lit b=>cases sy<;>exact bools hk
 | tp es x=>cases sy<;>exact bools hk
 | nx b es x=>cases sy<;>exact bools hk
 | it t p=>cases sy<;>exact bools hk
 | ifc p=>cases sy with
  | v y'=>cases y' with
   | nilIface=>
    simp only[Zl]at hk;split at hk
    ·rename_i hc
     cases hD:D.t t with
     | none=>rw[hD]at hk;exact False.elim hk
     | some ti=>
      rw[hD]at hk;obtain⟨i1,d,hi1,hu,hd1,hsz,he,hz⟩:=Da T hD;obtain⟨td,m,e1,z⟩:=ti
      cases td with
      | iface=>
       obtain⟨ms,rfl⟩:=KQ hd1;simp only[SV.toV]at hx hy;have heq:=fA hu p w
       cases op with
       | eql=>exact zX h hd (.v (.bool p.isNone)) (jl hop (by rw[hx,hy];exact Vr hc) (by rw[hx,hy];exact UI heq (by cases p<;>rfl))) rfl hk
       | neq=>exact zX h hd (.v (.bool (!p.isNone))) (jl hop (by rw[hx,hy];exact Vr hc) (by rw[hx,hy];exact UH heq (by cases p<;>rfl))) rfl hk
       | _=>exact False.elim hk
      | _=>exact False.elim hk
    ·exact False.elim hk
   | _=>exact bools hk
  | _=>exact bools hk
 | ag p=>cases sy with
  | ag q=>
   simp only[Zl]at hk;split at hk
   rotate_left
   ·exact False.elim hk
   cases he:kj p q with
   | none=>rw[he]at hk;exact False.elim hk
   | some b=>
    rw[he]at hk;simp only[fg]at hx hy
    cases op with
    | eql=>
     obtain⟨hr,hk⟩:=hk;rw[Vs (x':=x) (y':=y)]at hr;exact zX h hd (.v (.bool b)) (kT hop (by rw[hx,hy];exact hr)) rfl hk
    | neq=>
     obtain⟨hr,hk⟩:=hk;rw[Vs (x':=x) (y':=y)]at hr;exact zX h hd (.v (.bool (!b))) (kT hop (by rw[hx,hy];exact hr)) rfl hk
    | _=>exact False.elim hk
  | _=>exact bools hk
 | v x'=>cases x' with
  | int k p=>cases sy with
   | v y'=>cases y' with
    | int k' q=>exact oc h hd hop hx hy hk
    | _=>exact bools hk
   | _=>exact bools hk
  | string p=>cases sy with
   | v y'=>cases y' with
    | string q=>exact ob h hd hop hx hy hk
    | _=>exact bools hk
   | _=>exact bools hk
  | pointer p=>cases sy with
   | v y'=>cases y' with
    | pointer q=>cases q with
     | none=>
      simp only[Zl]at hk
      cases hD:D.t t with
      | none=>rw[hD]at hk;exact False.elim hk
      | some ti=>
       rw[hD]at hk;obtain⟨i1,d,hi1,hu,hd1,hsz,he,hz⟩:=Da T hD;obtain⟨td,m,e1,z⟩:=ti
       cases td with
       | ptr=>
        obtain⟨e,rfl⟩:=OV hd1;have heq:=fx hu p w
        cases op with
        | eql=>exact zX h hd (.v (.bool p.isNone)) (jl hop (by rw[hx,hy];exact Vp) (by rw[hx,hy];exact UI heq rfl)) rfl hk
        | neq=>exact zX h hd (.v (.bool (!p.isNone))) (jl hop (by rw[hx,hy];exact Vp) (by rw[hx,hy];exact UH heq rfl)) rfl hk
        | _=>exact False.elim hk
       | _=>exact False.elim hk
     | some _=>exact bools hk
    | _=>exact bools hk
   | _=>exact bools hk
  | slice p n m=>cases sy with
   | v y'=>cases y' with
    | slice q n' m'=>cases q with
     | none=>
      simp only[Zl]at hk
      cases hD:D.t t with
      | none=>rw[hD]at hk;exact False.elim hk
      | some ti=>
       rw[hD]at hk;obtain⟨i1,d,hi1,hu,hd1,hsz,he,hz⟩:=Da T hD;obtain⟨td,sz,e1,z⟩:=ti
       cases td with
       | slice e=>
        obtain rfl:=jW hd1;have heq:=gJ hu p n m n' m' w
        cases op with
        | eql=>exact zX h hd (.v (.bool p.isNone)) (jl hop (by rw[hx,hy];exact Ul) (by rw[hx,hy];exact UI heq rfl)) rfl hk
        | neq=>exact zX h hd (.v (.bool (!p.isNone))) (jl hop (by rw[hx,hy];exact Ul) (by rw[hx,hy];exact UH heq rfl)) rfl hk
        | _=>exact False.elim hk
       | _=>exact False.elim hk
     | some _=>exact bools hk
    | _=>exact bools hk
   | _=>exact bools hk
  | map p=>cases sy with
   | v y'=>cases y' with
    | map q=>cases q with
     | none=>
      simp only[Zl]at hk
      cases hD:D.t t with
      | none=>rw[hD]at hk;exact False.elim hk
      | some ti=>
       rw[hD]at hk;obtain⟨i1,d,hi1,hu,hd1,hsz,he,hz⟩:=Da T hD;obtain⟨td,m,e1,z⟩:=ti
       cases td with
       | map k e=>
        obtain rfl:=OW hd1;have heq:=fy hu p w
        cases op with
        | eql=>exact zX h hd (.v (.bool p.isNone)) (jl hop (by rw[hx,hy];exact Vq) (by rw[hx,hy];exact UI heq rfl)) rfl hk
        | neq=>exact zX h hd (.v (.bool (!p.isNone))) (jl hop (by rw[hx,hy];exact Vq) (by rw[hx,hy];exact UH heq rfl)) rfl hk
        | _=>exact False.elim hk
       | _=>exact False.elim hk
     | some _=>exact bools hk
    | _=>exact bools hk
   | _=>exact bools hk
  | bool b=>cases sy<;>exact bools hk
  | _=>cases sy<;>exact bools hk
end
end Go.Dm
namespace Go.Dm
section
variable {P:Program}{D:Tb}{w w':World}{a:AT}{c:Act}{o:Oper}{K:AT→PT}
def kw{x y:Operand}(h:ok a c){f:SV→SV→PT}
  (hk:(match ZY a [x,y]with | some [p,q]=>f p q | _=>bad) w):∃p q,c.eval x=p.toV∧c.eval y=q.toV∧f p q w:=by
 cases h1:ZY a [x,y] with
 | none=>rw[h1]at hk;exact False.elim hk
 | some l=>
  rw[h1]at hk;have e:=JN h h1
  match l,hk,e with
  | [p,q],hk,e=>simp[yN]at e;exact⟨p,q,e.1,e.2,hk⟩
  | [],hk,_=>exact False.elim hk
  | [_],hk,_=>exact False.elim hk
  | _::_::_::_,hk,_=>exact False.elim hk
def Of{x y z:Operand}(h:ok a c){f:SV→SV→SV→PT}
  (hk:(match ZY a [x,y,z]with | some [p,q,r]=>f p q r | _=>bad) w):∃p q r,c.eval x=p.toV∧c.eval y=q.toV∧c.eval z=r.toV∧f p q r w:=by
 cases h1:ZY a [x,y,z] with
 | none=>rw[h1]at hk;exact False.elim hk
 | some l=>
  rw[h1]at hk;have e:=JN h h1
  match l,hk,e with
  | [p,q,r],hk,e=>simp[yN]at e;exact⟨p,q,r,e.1,e.2.1,e.2.2,hk⟩
  | [],hk,_=>exact False.elim hk
  | [_],hk,_=>exact False.elim hk
  | [_,_],hk,_=>exact False.elim hk
  | _::_::_::_::_,hk,_=>exact False.elim hk
def JI{r:RT}{s:Sem Value}(h:ok a c)(hd:Dst o c)(hr:execOp c.eval o=(do pure (.value (←s)):Sem Next))(hk:L.sem P r s (λx=>K (Ym a o (r.sv x))) w):ZD P o c w (Nx K c):=by
 obtain⟨x,w',hs,hk⟩:=hk;exact zX h hd (r.sv x) (v:=r.val x) (by rw[hr];simp[hs]) (qo r x) hk
def QR{r:RT}{s:Sem Value}(h:ok a c)(hd:Dst o c)(hr:execOp c.eval o=(do pure (.value (←s)):Sem Next))(hk:L.semR P r s (λx=>K (Ym a o (r.sv x))) w):ZD P o c w (Nx K c):=by
 obtain⟨x,hs,hk⟩:=hk;exact zX h hd (r.sv x) (v:=r.val x) (by rw[hr];simp[hs]) (qo r x) hk
def Kt{s:Sem Unit}(h:ok a c)(hd:Dst o c)(hr:execOp c.eval o=(do s;pure .skip:Sem Next))(hk:L.semU P s (K (a.put o.dst none)) w):ZD P o c w (Nx K c):=by
 obtain⟨w',hs,hk⟩:=hk;exact fb h hd (by rw[hr];simp[hs]) hk
def OA{t:TypeId}{m k:Operand}{b:Bool}(h:ok a c)(hd:Dst o c)(hop:o.op = .lookup t m k b)(hk:za P D o a K w):ZD P o c w (Nx K c):=by
 simp only[za,hop]at hk;obtain⟨p,q,h1,h2,hk⟩:=kw h hk
 cases hD:D.t t with
 | none=>rw[hD]at hk;exact False.elim hk
 | some ti=>
  rw[hD]at hk;obtain⟨td,n,e1,z⟩:=ti
  cases td with
  | map kt e=>
   dsimp only at hk
   cases hD2:D.t e with
   | none=>rw[hD2]at hk;exact False.elim hk
   | some te=>
    rw[hD2]at hk;obtain⟨td2,n2,e2,z2⟩:=te
    cases e2 with
    | none=>exact False.elim hk
    | some e2=>
     cases b with
     | true=>exact QR (r:=.tup [e2,.one .bool]) h hd (by simp only[execOp,hop,h1,h2]) hk
     | false=>exact QR (r:=.one e2) h hd (by simp only[execOp,hop,h1,h2]) hk
  | _=>exact False.elim hk
def QH{t:TypeId}{m k x:Operand}(h:ok a c)(hd:Dst o c)(hop:o.op = .mapUpdate t m k x∨o.op = .insert t m k x)(hk:za P D o a K w):ZD P o c w (Nx K c):=by
 rcases hop with hop | hop
 all_goals
  simp only[za,hop]at hk;obtain⟨p,q,r,h1,h2,h3,hk⟩:=Of h hk;exact Kt h hd (by simp only[execOp,hop,h1,h2,h3]) hk
def Kc{t:TypeId}{m k:Operand}(h:ok a c)(hd:Dst o c)(hop:o.op = .mapEntry t m k)(hk:za P D o a K w):ZD P o c w (Nx K c):=by
 simp only[za,hop]at hk;obtain⟨p,q,h1,h2,hk⟩:=kw h hk
 cases hD:D.t t with
 | none=>rw[hD]at hk;exact False.elim hk
 | some ti=>
  rw[hD]at hk;obtain⟨td,n,e1,z⟩:=ti
  cases td with
  | map kt e=>
   dsimp only at hk
   cases hD2:D.t e with
   | none=>rw[hD2]at hk;exact False.elim hk
   | some te=>
    rw[hD2]at hk;obtain⟨td2,n2,e2,z2⟩:=te
    cases e2 with
    | none=>exact False.elim hk
    | some e2=>exact JI (r:=.tup [e2,.one (.int .i64)]) h hd (by simp only[execOp,hop,h1,h2]) hk
  | _=>exact False.elim hk
def vY{t:TypeId}{m k x:Operand}(h:ok a c)(hd:Dst o c)(hop:o.op = .entryStore t m k x)(hk:za P D o a K w):ZD P o c w (Nx K c):=by
 simp only[za,hop]at hk;obtain⟨p,q,r,h1,h2,h3,hk⟩:=Of h hk;exact Kt h hd (by simp only[execOp,hop,h1,h2,h3]) hk
def KY{t:TypeId}{r:Option Operand}(h:ok a c)(hd:Dst o c)(hop:o.op = .makeMap t r)(hk:za P D o a K w):ZD P o c w (Nx K c):=by
 simp only[za,hop]at hk
 cases r with
 | none=>exact JI (r:=.one (.one .map)) h hd (by simp only[execOp,hop,Option.map_none]) hk
 | some x=>
  obtain⟨s,hs,hk⟩:=zC hk;exact JI (r:=.one (.one .map)) h hd (by simp only[execOp,hop,Option.map_some,ya h hs]) hk
def VV{t:TypeId}{l m:Operand}(h:ok a c)(hd:Dst o c)(hop:o.op = .makeSlice t l m)(hk:za P D o a K w):ZD P o c w (Nx K c):=by
 simp only[za,hop]at hk;obtain⟨p,q,h1,h2,hk⟩:=kw h hk;exact JI (r:=.one (.one .slice)) h hd (by simp only[execOp,hop,h1,h2]) hk
def gq{t:TypeId}{x:Operand}(h:ok a c)(hd:Dst o c)(hop:o.op = .range t x)(hk:za P D o a K w):ZD P o c w (Nx K c):=by
 simp only[za,hop]at hk;obtain⟨s,hs,hk⟩:=zC hk;obtain⟨x,w',hs2,hk⟩:=hk;exact zX h hd (.it t x) (v:=.pointer x) (by rw[show execOp c.eval o=(do pure (.value (←Instr.range t s.toV)):Sem Next)by simp only[execOp,hop,ya h hs]];simp[hs2];rfl) rfl hk
def vd{x:Option (List E1)}{f:List E1→PT}(h:gy x f w):∃s,x=some s∧f s w:=by
 cases x with
 | none=>exact False.elim h
 | some s=>exact⟨s,rfl,h⟩
def Gr{x:Operand}{b:Bool}(h:ok a c)(hd:Dst o c)(hop:o.op = .next x b)(hk:za P D o a K w):ZD P o c w (Nx K c):=by
 simp only[za,hop]at hk;obtain⟨s,hs,hk⟩:=zC hk;have hv:=ya h hs
 cases s with
 | it t p=>
  obtain⟨es,he,hk⟩:=vd hk;have hv:c.eval x = .pointer p:=hv;rcases hk with ⟨w',hr,hk⟩ | ⟨x,w',hr,hk⟩
  ·exact zX h hd (.nx false [] ()) (v:=.tuple #[.bool false]) (by simp[execOp,hop,hv,hr]) rfl hk
  ·exact zX h hd (.nx true es x) (v:=.tuple (.bool true::TV es x).toArray) (by simp only[execOp,hop,hv];rw[Sem.run_bind,hr];rfl) rfl hk
 | _=>exact False.elim hk
def gu{x:Operand}(h:ok a c)(hd:Dst o c)(hop:o.op = .entry x)(hk:za P D o a K w):ZD P o c w (Nx K c):=by
 simp only[za,hop]at hk;obtain⟨s,hs,hk⟩:=zC hk;have hv:=ya h hs
 cases s with
 | it t p=>
  obtain⟨es,he,hk⟩:=vd hk;have hv:c.eval x = .pointer p:=hv;exact JI (r:=.tup es) h hd (by simp only[execOp,hop,hv]) hk
 | _=>exact False.elim hk
def oa(T:YF P D){s d:TypeId}{x:Operand}(h:ok a c)(hd:Dst o c)(hop:o.op = .convert s d x)(hk:za P D o a K w):ZD P o c w (Nx K c):=by
 simp only[za,hop]at hk;obtain⟨v,hv,hk⟩:=zC hk;have hv:=ya h hv
 cases hD:D.t s with
 | none=>rw[hD]at hk;exact False.elim hk
 | some ts=>cases hD2:D.t d with
  | none=>rw[hD,hD2]at hk;exact False.elim hk
  | some td=>
   rw[hD,hD2]at hk;dsimp only at hk;have hr:execOp c.eval o=(do pure (.value (←convert s d v.toV)):Sem Next):=by simp only[execOp,hop,hv]
   obtain⟨i1,d1,hi1,hu1,hd1,hsz1,he1,hz1⟩:=Da T hD;obtain⟨i2,d2,hi2,hu2,hd2,hsz2,he2,hz2⟩:=Da T hD2;obtain⟨ds,n1,e1,z1⟩:=ts;obtain⟨dd,n2,e2,z2⟩:=td;have sl:L.sem P (.one (.one .slice)) (convert s d v.toV) (λx=>K (Zz a o (.slice x.a x.len x.cap))) w→ZD P o c w (Nx K c):=λhk=>
    JI (r:=.one (.one .slice)) h hd hr hk
   cases ds with
   | slice e=>
    dsimp only at hk
    cases e2 with
    | none=>exact False.elim hk
    | some e2=>exact JI (r:=.one e2) h hd hr hk
   | int k=>cases dd with
    | slice e=>exact sl hk
    | int k2=>
     obtain rfl:=kO hd1;obtain rfl:=kO hd2
     cases v with
     | v y=>cases y with
      | int k3 n=>exact zX h hd (.v (.int k2 (k2.wrap n))) (by rw[hr];simp[convert,run_underlying hu1,run_underlying hu2,Conv.intToInt]) rfl hk
      | _=>exact False.elim hk
     | _=>exact False.elim hk
    | _=>exact False.elim hk
   | str=>cases dd with
    | slice e=>exact sl hk
    | str=>
     obtain rfl:=XO hd1;obtain rfl:=XO hd2
     cases v with
     | v y=>cases y with
      | string q=>exact zX h hd (.v (.string q)) (by rw[hr];simp[convert,run_underlying hu1,run_underlying hu2]) rfl hk
      | _=>exact False.elim hk
     | _=>exact False.elim hk
    | _=>exact False.elim hk
   | _=>cases dd with
    | slice e=>exact sl hk
    | _=>exact False.elim hk
def vX(T:YF P D){x:Operand}{t asserted:TypeId}{b:Bool}(h:ok a c)(hd:Dst o c)(hop:o.op = .typeAssert x t asserted b)(hk:za P D o a K w):ZD P o c w (Nx K c):=by
 simp only[za,hop]at hk
 cases hs:a.ev x with
 | none=>rw[hs]at hk;exact False.elim hk
 | some s=>
  rw[hs]at hk;have hv:=ya h hs
  cases s with
  | v y=>cases y with
   | iface t1 v=>
    dsimp only at hk
    cases hD:D.t asserted with
    | none=>rw[hD]at hk;exact False.elim hk
    | some ti=>
     rw[hD]at hk;obtain⟨i1,d,hi1,hu,hd1,hsz,he,hz⟩:=Da T hD;obtain⟨td,m,e1,z⟩:=ti;dsimp only at hd1;have hne:td≠.iface→∀ms,d≠.interface ms:=λhn ms e=>by subst e;exact hn hd1
     have hr:td≠.iface→(Instr.typeAssert (.iface t1 v) t asserted b).run P w=(if t1=asserted then .ok (if b then .tuple #[v,.bool true]else v) w
       else (if b then (do pure (.tuple #[← zeroValue asserted, .bool false]) : Sem Value) else runtimePanic (.typeAssertion (some t) (some t1) asserted "")).run P w) := by
      intro hn;have:=hne hn
      cases d<;>first | exact absurd rfl (this _) | (simp only[Instr.typeAssert];rw[Sem.run_bind,run_underlying hu];simp only[Result.andThen_ok];split<;>(cases b<;>simp))
     have key:td≠.iface→(t1=asserted→K (Zz a o (if b then .tuple #[v,.bool true]else v)) w)→(t1≠asserted→b=true∧∃y,z=some y∧∀q:Value,q.cells.toList=y→K (Zz a o (.tuple #[q,.bool false])) w)→ZD P o c w (Nx K c):=by
      intro hn hk1 hk2;have hr:=hr hn;by_cases ht:t1=asserted
      ·rw[if_pos ht]at hr;exact zX h hd (.v (if b then .tuple #[v,.bool true]else v)) (by simp only[execOp,hop,hv,kL];rw[Sem.run_bind,hr];rfl) rfl (hk1 ht)
      ·rw[if_neg ht]at hr;obtain⟨rfl,y,rfl,hq⟩:=hk2 ht;simp only[if_true]at hr;obtain⟨zv,hzv,hzl⟩:=hz _ rfl;exact zX h hd (.v (.tuple #[zv,.bool false])) (by simp only[execOp,hop,hv,kL];rw[Sem.run_bind,hr];simp[jF hi1 hzv]) rfl (hq zv hzl.symm)
     cases td with
     | iface=>exact False.elim hk
     | _=>
      dsimp only at hk;by_cases e:t1=asserted
      ·exact key (by simp) (λe=>by rw[if_pos e]at hk;exact hk) (λe'=>absurd e e')
      ·rw[if_neg e]at hk
       cases b with
       | false=>exact False.elim hk
       | true=>
        cases e1 with
        | none=>exact False.elim hk
        | some e2=>exact QR (r:=.tup [e2,.one .bool]) h hd (by simp only[execOp,hop,hv,kL]) hk
   | _=>exact False.elim hk
  | _=>exact False.elim hk
def gE{f:FuncId}{args:List Value}{r:RT}(h:ok a c)(hd:Dst o c)(hr:(execOp c.eval o).run P w = .ok (.enter f args.toArray) w)(hk:L.call P f args r (λx=>K (Ym a o (r.sv x))) w):ZD P o c w (Nx K c):=
 .inr (.inr (.inl ⟨f,_,w,hr,hk.mono λ_ _ ⟨x,he,hk⟩=>⟨_,he,_,hk,qW h hd (λy hy=>by cases hy;exact qo r x),by simp,by simp⟩⟩))
def QD{f:FuncId}(he:QT P f=true)(args:Array Value)(w:World):(callFunc f args).run P w = .ok (.enter f args) w:=by
 unfold QT at he
 cases hf:P.funcs[f]? with
 | none=>rw[hf]at he;cases he
 | some fn=>
  rw[hf]at he;simp only[Bool.and_eq_true,bne_iff_ne,ne_eq]at he;obtain⟨h1,h2⟩:=he;simp[callFunc,program,Sem.run,hf];rw[if_neg h2];have:fn.body≠none:=by intro e;rw[e]at h1;cases h1
  rw[if_neg (by simpa using this)]
def yZ{f:FuncId}(he:QT P f=true):jR P f:=λargs w=>QD he args w
def Vz{fv:Value}{args:List Value}{r:RT}(h:ok a c)(hd:Dst o c)
  (hr:execOp c.eval o=(do let d ←Deferred.ofValue fv args.toArray;invoke d.target d.args:Sem Next))
  (hk:L.callV P fv args r (λx=>K (Ym a o (r.sv x))) w):ZD P o c w (Nx K c):=by
 have fin:∀{v:Value}{w':World},(∃x,v=r.val x∧K (Ym a o (r.sv x)) w')→Nx K c (c.put o.dst v) w':=λ⟨x,hv,hk⟩=>
  ⟨_,hk,qW h hd (λy hy=>by cases hy;rw[hv];exact qo r x),by simp,by simp⟩
 unfold L.callV jQ at hk;split at hk
 ·rename_i f first cap
  obtain⟨he,hk⟩:=hk;refine .inr (.inr (.inl ⟨f,first++args.toArray++cap,w,?_,hk.mono λ_ _ ⟨v,he,hv⟩=>⟨v,he,fin hv⟩⟩));rw[hr];simp[Deferred.ofValue,invoke,he _ w]
 ·rename_i l first cap
  obtain⟨rfl,rfl,lp,hl,hn,hk⟩:=hk;refine .inr (.inr (.inr ⟨l,lp.fn,(lp.params.zip args.toArray).foldl (λtmps(t,a)=>tmps.setIfInBounds t a) lp.tmps,lp.assign,lp.body,w,?_,hk.mono λ_ _ ⟨v,he,hv⟩=>⟨v,he,fin hv⟩⟩));rw[hr];have hn':¬(args.toArray.size≠lp.params.size):=by simp[hn]
  simp[Deferred.ofValue,invoke,Instr.yield,Instr.getLoop,getObj,Sem.run,hl,hn]
 ·exact hk.elim
def qZ{mx:Bool}:∀(l:List SV)(r v:Value),JV mx r l=some v→((yN l).foldlM (cond mx Builtin.max2 Builtin.min2) r).run P w = .ok v w
 | [],r,v,h=>by cases h;rfl
 | s::l,r,v,h=>by
  cases r<;>try (simp[JV]at h;done)
  rename_i k x
  cases s<;>try (simp[JV]at h;done)
  rename_i y
  cases y<;>try (simp[JV]at h;done)
  rename_i k2 y;simp only[JV]at h;have ih:=qZ l _ _ h
  cases mx
  ·simpa [yN,Builtin.min2]using ih
  ·simpa [yN,Builtin.max2]using ih
def oz(T:YF P D){b:Builtin}{tys:Array TypeId}{cs:Array Bool}{vs:List SV}(h:ok a c)(hd:Dst o c)(hk:zG P D o a K b tys vs w)
  (hex:execOp c.eval o=builtin b tys o.type cs (yN vs).toArray):ZD P o c w (Nx K c):=by
 have none_:∀{s:Sem Value},execOp c.eval o=(do pure (.value (←s)):Sem Next)→L.sem P (.tup []) s (λ_=>K (a.put o.dst none)) w→ZD P o c w (Nx K c):=λ{s} hr hk=>by
  obtain⟨x,w',hs,hk⟩:=hk;exact GZ h hd none (v:=RT.val (.tup []) x) (by rw[hr];simp[hs]) (λx hx=>by cases hx) hk
 cases b with
 | len=>
  dsimp only[zG]at hk;clear none_
  match vs,htl:tys.toList,hk,hex with
  | [.v (.string s)],[t],hk,hex=>
   dsimp only at hk
   cases hD:D.t t with
   | none=>rw[hD]at hk;exact False.elim hk
   | some ti=>
    rw[hD]at hk;obtain⟨i1,d,hi1,hu,hd1,hsz,he,hz⟩:=Da T hD;obtain⟨td,m,e1,z⟩:=ti;obtain rfl:tys = #[t]:=Array.ext' htl
    cases td with
    | str=>
     obtain rfl:=XO hd1;exact zX h hd (.v (.int .i64 s.size)) (by rw[hex];simp[builtin,Builtin.len_,yN,run_underlying hu,goInt]) rfl hk
    | _=>exact False.elim hk
  | [.v (.slice p n q)],[t],hk,hex=>
   dsimp only at hk
   cases hD:D.t t with
   | none=>rw[hD]at hk;exact False.elim hk
   | some ti=>
    rw[hD]at hk;obtain⟨i1,d,hi1,hu,hd1,hsz,he,hz⟩:=Da T hD;obtain⟨td,m,e1,z⟩:=ti;obtain rfl:tys = #[t]:=Array.ext' htl
    cases td with
    | slice e=>
     obtain rfl:=jW hd1;exact zX h hd (.v (.int .i64 n)) (by rw[hex];simp[builtin,Builtin.len_,yN,run_underlying hu,goInt]) rfl hk
    | _=>exact False.elim hk
  | [.v (.map m)],[t],hk,hex=>exact QR (r:=.one (.one (.int .i64))) h hd (by rw[hex];rfl) hk
 | min=>
  dsimp only[zG]at hk;clear none_
  match vs,hk,hex with
  | .v r::l,hk,hex=>
   dsimp only at hk
   cases hm:JV false r l with
   | none=>rw[hm]at hk;exact False.elim hk
   | some v=>
    rw[hm]at hk;have:=qZ (P:=P) (w:=w) l r v hm;exact zX h hd (.v v) (by rw[hex];simp only[builtin,Builtin.min_,yN,kL];rw[Sem.run_bind];simp only[cond]at this;rw[this];rfl) rfl hk
 | max=>
  dsimp only[zG]at hk;clear none_
  match vs,hk,hex with
  | .v r::l,hk,hex=>
   dsimp only at hk
   cases hm:JV true r l with
   | none=>rw[hm]at hk;exact False.elim hk
   | some v=>
    rw[hm]at hk;have:=qZ (P:=P) (w:=w) l r v hm;exact zX h hd (.v v) (by rw[hex];simp only[builtin,Builtin.max_,yN,kL];rw[Sem.run_bind];simp only[cond]at this;rw[this];rfl) rfl hk
 | cap=>
  dsimp only[zG]at hk;clear none_
  match vs,htl:tys.toList,hk,hex with
  | [.v (.slice p q n)],[t],hk,hex=>
   dsimp only at hk
   cases hD:D.t t with
   | none=>rw[hD]at hk;exact False.elim hk
   | some ti=>
    rw[hD]at hk;obtain⟨i1,d,hi1,hu,hd1,hsz,he,hz⟩:=Da T hD;obtain⟨td,m,e1,z⟩:=ti;obtain rfl:tys = #[t]:=Array.ext' htl
    cases td with
    | slice e=>
     obtain rfl:=jW hd1;exact zX h hd (.v (.int .i64 n)) (by rw[hex];simp[builtin,Builtin.cap_,yN,run_underlying hu,goInt]) rfl hk
    | _=>exact False.elim hk
 | append=>
  dsimp only[zG]at hk;clear none_
  match vs,hk,hex with
  | [.v (.slice s l cp),x],hk,hex=>exact JI (r:=.one (.one .slice)) h hd (by rw[hex];rfl) hk
 | copy=>exact JI (r:=.one (.one (.int .i64))) h hd (by rw[hex];rfl) hk
 | delete=>exact none_ (by rw[hex];rfl) hk
 | clear=>exact none_ (by rw[hex];rfl) hk
 | _=>exact False.elim hk
def Gu(T:YF P D){cl:Call}(h:ok a c)(hd:Dst o c)(hop:o.op = .call cl)(hk:za P D o a K w):ZD P o c w (Nx K c):=by
 simp only[za,hop]at hk
 cases hargs:ZY a cl.args.toList with
 | none=>rw[hargs]at hk;exact False.elim hk
 | some vs=>
  rw[hargs]at hk;have ea:cl.args.map c.eval=(yN vs).toArray:=by rw[←JN h hargs];exact Array.ext' (by simp)
  cases hcal:cl.callee with
  | invoke r m=>rw[hcal]at hk;exact False.elim hk
  | value f=>
   rw[hcal]at hk;have hex:execOp c.eval o=(do let d ←Deferred.ofValue (c.eval f) (yN vs).toArray;invoke d.target d.args:Sem Next):=by
    simp only[execOp,hop,resolve,hcal,ea]
   have viaV:zj (a.ev f) (λfv=>match D.t o.type with
    | some { d:=.tuple ts,.. }=>match za.e1s D ts with
     | some es=>L.callV P fv.toV (yN vs) (.tup es) λx=>K (Ym a o (.tp es x))
     | none=>bad
    | some { e:=some e,.. }=>L.callV P fv.toV (yN vs) (.one e) λx=>K (Ym a o (e.sv x))
    | _=>bad) w→ZD P o c w (Nx K c):=by
    intro hk;obtain⟨s,hs,hk⟩:=zC hk;rw[ya h hs]at hex
    cases hD:D.t o.type with
    | none=>rw[hD]at hk;exact False.elim hk
    | some ti=>
     rw[hD]at hk;obtain⟨td,n,e1,z⟩:=ti;have one:(match e1 with | some e=>L.callV P s.toV (yN vs) (.one e) λx=>K (Ym a o (e.sv x)) | none=>bad) w→ZD P o c w (Nx K c):=by
      intro hk
      cases e1 with
      | none=>exact False.elim hk
      | some e=>exact Vz (r:=.one e) h hd hex hk
     cases td with
     | tuple ts=>
      dsimp only at hk
      cases he:za.e1s D ts with
      | none=>rw[he]at hk;exact False.elim hk
      | some es=>
       rw[he]at hk;exact Vz (r:=.tup es) h hd hex hk
     | _=>cases e1<;>first | exact False.elim hk | exact one hk
   cases f with
   | func f=>
    dsimp only at hk
    cases hD:D.f f with
    | none=>rw[hD]at hk;exact False.elim hk
    | some r=>
     rw[hD]at hk;exact gE h hd (by rw[hex];simp[Act.eval,Deferred.ofValue,invoke,QD (T.fn _ _ hD)]) hk
   | _=>exact viaV hk
  | builtin b=>
   rw[hcal]at hk;have hex:execOp c.eval o=builtin b cl.argTypes o.type (cl.args.map fun | .const _=>true | _=>false) (yN vs).toArray:=by
    simp only[execOp,hop,resolve,hcal,ea];rfl
   exact oz T h hd hk hex
def vJ(T:YF P D)(h:ok a c)(hd:Dst o c)(hk:za P D o a K w):ZD P o c w (Nx K c):=by
 cases hop:o.op with
 | move x=>exact Gs h hd hop hk
 | assign x=>exact OB h hd hop hk
 | pick x y z=>exact Gq h hd hop hk
 | alloc e=>exact gx T h hd hop hk
 | box e x=>exact fj h hd hop hk
 | build t ps=>exact gv T h hd hop hk
 | buildSlice t n ps=>exact vZ T h hd hop hk
 | insert t m k v=>exact QH h hd (.inr hop) hk
 | load t x=>exact Gt T h hd hop hk
 | store t x y=>exact gn T h hd hop hk
 | nilCheck x=>exact Kb h hd hop hk
 | binOp op t x y u=>exact gw T h hd hop hk
 | unOp op t x=>exact Gp h hd hop hk
 | convert s d x=>exact oa T h hd hop hk
 | makeInterface t x=>exact uv T h hd hop hk
 | makeFunc f x y=>exact Kd h hd hop hk
 | makeMap t r=>exact KY h hd hop hk
 | makeSlice t l m=>exact VV h hd hop hk
 | slice t x l m n=>exact gp T h hd hop hk
 | fieldAddr t x f=>exact VX T h hd hop hk
 | field t x f=>exact gt T h hd hop hk
 | indexAddr t x i=>exact VW T h hd hop hk
 | index t x i=>exact gr T h hd hop hk
 | lookup t m k b=>exact OA h hd hop hk
 | mapUpdate t m k v=>exact QH h hd (.inl hop) hk
 | mapEntry t m k=>exact Kc h hd hop hk
 | entryStore t m s v=>exact vY h hd hop hk
 | range t x=>exact gq h hd hop hk
 | next x b=>exact Gr h hd hop hk
 | entry x=>exact gu h hd hop hk
 | typeAssert x t u b=>exact vX T h hd hop hk
 | extract x i=>exact KZ h hd hop hk
 | call cl=>exact Gu T h hd hop hk
 | _=>simp only[za,hop]at hk;exact False.elim hk
end
end Go.Dm
namespace Go.Dm
section
variable {P:Program}{D:Tb}{w w':World}{a:AT}{c:Act}{o:Oper}{K:AT→PT}{Q:Exit→Act→World→Prop}{ro:Option Nat}
def Qf{f:FuncId}{args:Array Value}{R:Ending→World→Prop}(h:Calls P f args w R):CallsIn (FR ro) 0 P f args w R:=by
 have h1:CallsIn Fence.wide 0 P f args w R:=callsIn_wide.2 h
 cases ro with
 | none=>exact h1
 | some l=>exact CallsIn.inRound l h1
def Xk{next:Act→World→Prop}(hnd:∀x,o.op≠.defer x)(h:ZD P o c w next):o.wpIn (FR ro) 0 P c w next Q:=by
 refine⟨λ_ _=>trivial,?_⟩;rw[Oper.semAt_eq _ _ _ hnd];rcases h with ⟨v,w',hr,hn⟩ | ⟨w',hr,hn⟩ | ⟨f,args,w',hr,hn⟩ | ⟨l,f,tmps,as,bd,w',hr,hn⟩
 ·rw[hr];exact hn
 ·rw[hr];exact hn
 ·rw[hr];refine⟨λh=>by simp[FR]at h,Qf (hn.mono ?_)⟩;rintro e w'' ⟨v,rfl,hv⟩;exact hv
 ·rw[hr];refine⟨λh=>by simp[FR]at h,?_⟩;have hn':RoundIn (FR ro) 0 P l f tmps as bd w' λe w''=>∃v,e = .returned v∧next (c.put o.dst v) w'':=hn
  refine hn'.mono ?_;rintro e w'' ⟨v,rfl,hv⟩;exact hv
def Kg{K:AT→PT}(hk:za P D o a K w):∀x,o.op≠.defer x:=by
 intro x hx;simp only[za,hx]at hk;exact hk
def UG{d:Nat}{s:SV}(h:ok a c)(hc:c.tmps[d]? = some s.toV):ok ((d,some s)::a) c:=by
 intro t x hx;rw[yt]at hx;split at hx
 ·rename_i e;subst e;cases hx;exact hc
 ·exact h t x hx
def UR{gs:GS}{i:Nat}{c':Act}(h:Nx (qp gs i o K) c c' w):Nx K c c' w:=by
 obtain⟨a',hk,h,hs,hd⟩:=h;unfold qp at hk
 cases hg:XH i gs.l with
 | false=>rw[hg]at hk;exact⟨a',hk,h,hs,hd⟩
 | true=>
  rw[hg]at hk
  cases hdst:o.dst with
  | none=>rw[hdst]at hk;exact False.elim hk
  | some d=>
   rw[hdst]at hk;simp only[cond]at hk
   cases hget:a'.get d with
   | none=>rw[hget]at hk;exact False.elim hk
   | some s=>
    rw[hget]at hk;have hv:=h d s hget
    cases s with
    | lit b=>exact⟨a',hk,h,hs,hd⟩
    | v x=>cases x with
     | bool b=>
      dsimp only at hk
      cases ha:gs.asm with
      | true=>
       rw[ha]at hk;obtain⟨e,hk⟩:=hk;subst e;exact⟨_,hk,UG (s:=.lit true) h hv,hs,hd⟩
      | false=>
       rw[ha]at hk
       cases b with
       | true=>exact⟨_,hk.1 rfl,UG (s:=.lit true) h hv,hs,hd⟩
       | false=>exact⟨_,hk.2 rfl,UG (s:=.lit false) h hv,hs,hd⟩
     | _=>exact False.elim hk
    | _=>exact False.elim hk
def ZD.mono{N N':Act→World→Prop}(h:ZD P o c w N)(hm:∀c w,N c w→N' c w):ZD P o c w N':=by
 rcases h with ⟨v,w',hr,hn⟩ | ⟨w',hr,hn⟩ | ⟨f,args,w',hr,hn⟩ | ⟨l,f,tmps,as,bd,w',hr,hn⟩
 ·exact .inl ⟨v,w',hr,hm _ _ hn⟩
 ·exact .inr (.inl ⟨w',hr,hm _ _ hn⟩)
 ·exact .inr (.inr (.inl ⟨f,args,w',hr,hn.mono λ_ _ ⟨v,he,hv⟩=>⟨v,he,hm _ _ hv⟩⟩))
 ·exact .inr (.inr (.inr ⟨l,f,tmps,as,bd,w',hr,hn.mono λ_ _ ⟨v,he,hv⟩=>⟨v,he,hm _ _ hv⟩⟩))
def ZD.turn{cv:Act}{N N':Act→World→Prop}(h:ZD P o cv w N)(he:execOp c.eval o=execOp cv.eval o)(hm:∀v w,N (cv.put o.dst v) w→N' (c.put o.dst v) w):ZD P o c w N':=by
 unfold ZD at *
 rw[he];rcases h with ⟨v,w',hr,hn⟩ | ⟨w',hr,hn⟩ | ⟨f,args,w',hr,hn⟩ | ⟨l,f,tmps,as,bd,w',hr,hn⟩
 ·exact .inl ⟨v,w',hr,hm _ _ hn⟩
 ·exact .inr (.inl ⟨w',hr,hm _ _ hn⟩)
 ·exact .inr (.inr (.inl ⟨f,args,w',hr,hn.mono λ_ _ ⟨v,he,hv⟩=>⟨v,he,hm _ _ hv⟩⟩))
 ·exact .inr (.inr (.inr ⟨l,f,tmps,as,bd,w',hr,hn.mono λ_ _ ⟨v,he,hv⟩=>⟨v,he,hm _ _ hv⟩⟩))
def VY(h:ok a c)(hd:Dst o c):ok (a.put o.dst (QC D o)) (c.put o.dst undef):=by
 refine qW h hd λx hx=>?_;unfold QC at hx
 cases hb:Nat.beq (zN D o.op) 0 with
 | true=>rw[hb]at hx;cases hx;rfl
 | false=>rw[hb]at hx;cases hx
def Od(T:YF P D){ops:Array Oper}{gs:GS}{i:Nat}(h:ok a c)(hd:Dst o c)(hk:KA P D ops.toList gs i o a K w) :
  (Region.wanted o (yielded ops c.tmps)=true∧(∀x,o.op≠.defer x)∧ZD P o c w (Nx K c))∨(Region.wanted o (yielded ops c.tmps)=false∧Nx K c (c.put o.dst undef) w):=by
 unfold KA at hk
 cases hg:o.guard with
 | none=>
  rw[hg]at hk;exact .inl ⟨by simp[Region.wanted,hg],Kg hk,(vJ T h hd hk).mono λ_ _ hn=>UR hn⟩
 | some q=>
  obtain⟨j,want⟩:=q;rw[hg]at hk;dsimp only at hk
  cases hj:(nth ops.toList j).bind (·.dst) with
  | none=>rw[hj]at hk;exact False.elim hk
  | some d=>
   rw[hj]at hk;dsimp only at hk
   cases hget:a.get d with
   | none=>rw[hget]at hk;exact False.elim hk
   | some s=>
    rw[hget]at hk
    cases s with
    | lit b=>
     dsimp only at hk;have hy:yielded ops c.tmps j=some b:=by
      have e1:(ops[j]?).bind (·.dst)=some d:=by rw[←hj,zp,Array.getElem?_toList]
      have e2:=h d _ hget;simp only[yielded,e1,Option.bind_some,e2,oM]
     cases hb:(b == want) with
     | true=>
      rw[hb]at hk;exact .inl ⟨by simp only[Region.wanted,hg,hy];simpa using hb,Kg hk,(vJ T h hd hk).mono λ_ _ hn=>UR hn⟩
     | false=>
      rw[hb]at hk;exact .inr ⟨by simp only[Region.wanted,hg,hy];simpa using hb,_,hk,VY h hd,by simp,by simp⟩
    | v x=>
     cases x with
     | tuple cs=>
      dsimp only at hk;have hy:yielded ops c.tmps j=none:=by
       have e1:(ops[j]?).bind (·.dst)=some d:=by rw[←hj,zp,Array.getElem?_toList]
       have e2:=h d _ hget;simp only[yielded,e1,Option.bind_some,e2,SV.toV]
      exact .inr ⟨by simp only[Region.wanted,hg,hy];rfl,_,hk,VY h hd,by simp,by simp⟩
     | _=>exact False.elim hk
    | _=>exact False.elim hk
def Fin(K:AT→PT)(N:Nat)(ds:List Deferred)(c:Act)(w:World):Prop:=∃a,K a w∧ok a c∧c.tmps.size=N∧c.defers=ds
def jI:∀(l:List Oper)(k:Nat)(x:Nat×Oper),x∈Yb k l→k≤x.1∧l[x.1-k]? = some x.2
 | [],k,x,h=>by cases h
 | y::l,k,x,h=>by
  simp only[Yb,List.mem_cons]at h;rcases h with rfl | h
  ·simp
  ·obtain⟨h1,h2⟩:=jI l (k+1) x h;refine⟨by omega,?_⟩;have:x.1-k=(x.1-(k+1))+1:=by omega
   rw[this];simpa using h2
def UX:∀(l:List Oper)(k:Nat),(Yb k l).map (·.1)=List.range' k l.length
 | [],k=>rfl
 | _::l,k=>by simp[Yb,UX l,List.range'_succ]
def VD(T:YF P D){ops:Array Oper}{gs:GS}{N:Nat}{ds:List Deferred}{Fr:Act→Prop}(hFr:∀(i:Nat)(o:Oper) c v,ops[i]? = some o→Fr c→Fr (c.put o.dst v))(hQ:∀c w,Fin K N ds c w→Fr c→Q .normal c w) :
  ∀(l:List (Nat×Oper))(a:AT)(c:Act)(w:World),Fr c→(∀x∈l,ops[x.1]? = some x.2)→(∀x∈l,∀t,x.2.dst=some t→t<N)→vI P D ops.toList gs l a K w→ok a c→c.tmps.size=N→c.defers=ds→
   wpOpsIn (FR ro) 0 P ops Q (l.map (·.1)) c w
 | [],a,c,w,hf,_,_,hk,h,hN,hds=>hQ c w ⟨a,hk,h,hN,hds⟩ hf
 | (i,o)::l,a,c,w,hf,hl,hdst,hk,h,hN,hds=>by
  have ho:=hl (i,o) (List.mem_cons_self ..);have hd:Dst o c:=λt ht=>by rw[hN];exact hdst (i,o) (List.mem_cons_self ..) t ht
  have rest:∀v w',Nx (λa=>vI P D ops.toList gs l a K) c (c.put o.dst v) w'→wpOpsIn (FR ro) 0 P ops Q (l.map (·.1)) (c.put o.dst v) w':=λv w' ⟨a',hk',h',hs',hd'⟩=>
   VD T hFr hQ l a' _ w' (hFr i o c v ho hf) (λx hx=>hl x (List.mem_cons_of_mem _ hx)) (λx hx=>hdst x (List.mem_cons_of_mem _ hx)) hk' h' (hs'.trans hN) (hd'.trans hds)
  simp only[List.map_cons,wpOpsIn,ho];rcases Od T h hd hk with ⟨hw,hnd,hop⟩ | ⟨hw,hn⟩
  ·rw[if_pos hw];exact Xk hnd (hop.turn rfl rest)
  ·rw[if_neg (by simp[hw])];exact⟨λ_ _=>trivial,rest _ _ hn⟩
end
end Go.Dm
namespace Go.Dm
def Yr(P:Program):Chk→World→Prop
 | .ld a cs,w=>qz w a cs
 | .sm s v,w=>s.run P w = .ok v w
section
variable {P:Program}{D:Tb}{w w':World}{a:AT}{c:Act}{o:Oper}{K:AT→PT}
def PR(P:Program)(D:Tb)(o:Oper)(a:AT)(K:AT→PT)(w:World):Prop:=
 ∃s:SV,K (a.put o.dst (some s)) w∧(zN D o.op=1→∀ch,Yo o a (a.put o.dst (some s))=some ch→Yr P ch w)∧
  ∀w',(zN D o.op=1→∀ch,Yo o a (a.put o.dst (some s))=some ch→Yr P ch w')→za P D o a (λa' w''=>w''=w'∧a'=a.put o.dst (some s)) w'
def yp(h1:zN D o.op=1→∀s ch,Yo o a (a.put o.dst (some s))=some ch→False)(s:SV)(e:∀K,za P D o a K=K (a.put o.dst (some s)))(hk:za P D o a K w):PR P D o a K w:=by
 rw[e]at hk;exact⟨s,hk,λhk1 ch hc=>(h1 hk1 _ _ hc).elim,λw' _=>by rw[e];exact⟨rfl,rfl⟩⟩
def jG(h1:zN D o.op=1→∀s ch,Yo o a (a.put o.dst (some s))=some ch→False)(s:SV){φ:Prop}(e:∀K,za P D o a K=L.guard φ (K (a.put o.dst (some s))))(hk:za P D o a K w):PR P D o a K w:=by
 rw[e]at hk;exact⟨s,hk.2,λhk1 ch hc=>(h1 hk1 _ _ hc).elim,λw' _=>by rw[e];exact⟨hk.1,rfl,rfl⟩⟩
def zc(e:∀K,za P D o a K=bad)(hk:za P D o a K w):PR P D o a K w:=by
 rw[e]at hk;exact False.elim hk
def Ox(h1:zN D o.op=1→∀s ch,Yo o a (a.put o.dst (some s))=some ch→False){p:Option Addr}(f:Addr→SV)(e:∀K,za P D o a K=L.nonnil p λad=>K (a.put o.dst (some (f ad))))(hk:za P D o a K w):PR P D o a K w:=by
 rw[e]at hk;obtain⟨ad,hp,hk⟩:=hk;exact⟨f ad,hk,λhk1 ch hc=>(h1 hk1 _ _ hc).elim,λw' _=>by rw[e];exact⟨ad,hp,rfl,rfl⟩⟩
def gj(h1:zN D o.op=1→∀s ch,Yo o a (a.put o.dst (some s))=some ch→False){p:Option Addr}{i:Int}{n sz:Nat}(f:Addr→SV)(e:∀K,za P D o a K=L.idx p i n sz λad=>K (a.put o.dst (some (f ad))))(hk:za P D o a K w):PR P D o a K w:=by
 rw[e]at hk;obtain⟨ad,hp,h0,h2,hk⟩:=hk;exact⟨f _,hk,λhk1 ch hc=>(h1 hk1 _ _ hc).elim,λw' _=>by rw[e];exact⟨ad,hp,h0,h2,rfl,rfl⟩⟩
def QI{x:Option SV}{s:SV}(h:x=some s)(f:SV→PT):zj x f=f s:=by subst h;rfl
def qt(a:AT)(d:Nat)(s:SV):(a.put (some d) (some s)).get d=some s:=by
 simp[AT.put,yt]
def kP:∀(e:E1)(x:e.T),(e.sv x).cells=e.cells x
 | .agg ls,x=>rfl
 | .one (.int _),_ | .one .bool,_ | .one .str,_ | .one .ptr,_ | .one .slice,_ | .one .map,_ | .one .func,_ | .one .adr,_=>rfl
 | .one .iface,none=>rfl
 | .one .iface,some _=>rfl
def Gn{d:Nat}(hd:o.dst=some d){t:TypeId}{x:Operand}(hop:o.op = .load t x)(hk:za P D o a K w):PR P D o a K w:=by
 cases hs:a.ev x with
 | none=>exact zc (λK=>by simp only[za,hop,hs];rfl) hk
 | some s=>cases s with
  | v y=>cases y with
   | pointer p=>cases p with
    | none=>exact zc (λK=>by simp only[za,hop,hs];rfl) hk
    | some ad=>cases hD:D.t t with
     | none=>exact zc (λK=>by simp only[za,hop,hs,zj,hD]) hk
     | some ti=>
      obtain⟨td,n,e1,z⟩:=ti
      cases e1 with
      | none=>exact zc (λK=>by simp only[za,hop,hs,zj,hD]) hk
      | some e1=>
       have e:∀K,za P D o a K=L.load e1 ad λx=>K (a.put o.dst (some (e1.sv x))):=λK=>by simp only[za,hop,hs,zj,hD];rfl
       rw[e]at hk;obtain⟨x',hc,hk⟩:=hk;have hmk:Yo o a (a.put o.dst (some (e1.sv x')))=some (.ld ad (e1.sv x').cells):=by
        simp only[Yo,hd,qt,hop,hs]
       have hk1:zN D o.op=1:=by rw[hop];rfl
       refine⟨e1.sv x',hk,λ_ ch hch=>?_,λw' hch=>?_⟩
       ·rw[hmk]at hch;cases hch;simpa only[Yr,kP]using hc
       have:=hch hk1 _ hmk;simp only[Yr,kP]at this;rw[e];exact⟨x',this,rfl,rfl⟩
   | _=>exact zc (λK=>by simp only[za,hop,hs];rfl) hk
  | _=>exact zc (λK=>by simp only[za,hop,hs];rfl) hk
def VS{d:Nat}(hd:o.dst=some d){r:RT}{s:Sem Value}(e:∀K,za P D o a K=L.semR P r s λx=>K (a.put o.dst (some (r.sv x))))
  (hk1:zN D o.op=1) (hmk:∀y:SV,Yo o a (a.put o.dst (some y))=some (.sm s y.toV)) (hk:za P D o a K w):PR P D o a K w:=by
 rw[e]at hk;obtain⟨x,hr,hk⟩:=hk;refine⟨r.sv x,hk,λ_ ch hch=>?_,λw' hch=>?_⟩
 ·rw[hmk]at hch;cases hch;simpa only[Yr,qo]using hr
 have:=hch hk1 _ (hmk (r.sv x));simp only[Yr,qo]at this;rw[e];exact⟨x,this,rfl,rfl⟩
def Oy{d:Nat}(hd:o.dst=some d){t:TypeId}{m k:Operand}{b:Bool}(hop:o.op = .lookup t m k b)(hk:za P D o a K w):PR P D o a K w:=by
 cases h1:ZY a [m,k] with
 | none=>exact zc (λK=>by simp only[za,hop,h1]) hk
 | some l=>
  match l,h1 with
  | [p,q],h1=>
   cases hD:D.t t with
   | none=>exact zc (λK=>by simp only[za,hop,h1,hD]) hk
   | some ti=>
    obtain⟨td,n,e1,z⟩:=ti
    cases td with
    | map kt e=>cases hD2:D.t e with
     | none=>exact zc (λK=>by simp only[za,hop,h1,hD,hD2]) hk
     | some te=>
      obtain⟨td2,n2,e2,z2⟩:=te
      cases e2 with
      | none=>exact zc (λK=>by simp only[za,hop,h1,hD,hD2]) hk
      | some e2=>
       have hmk:∀y:SV,Yo o a (a.put o.dst (some y))=some (.sm (Instr.lookup t p.toV q.toV b) y.toV):=λy=>by simp only[Yo,hd,qt,hop,h1]
       cases b with
       | true=>exact VS hd (r:=.tup [e2,.one .bool]) (λK=>by simp only[za,hop,h1,hD,hD2,if_true];rfl) (by rw[hop];rfl) hmk hk
       | false=>exact VS hd (r:=.one e2) (λK=>by simp only[za,hop,h1,hD,hD2];rfl) (by rw[hop];rfl) hmk hk
    | _=>exact zc (λK=>by simp only[za,hop,h1,hD]) hk
  | [],h1=>exact zc (λK=>by simp only[za,hop,h1]) hk
  | [_],h1=>exact zc (λK=>by simp only[za,hop,h1]) hk
  | _::_::_::_,h1=>exact zc (λK=>by simp only[za,hop,h1]) hk
def k1(h:zN D o.op=0∨∀s,Yo o a (a.put o.dst (some s))=none):zN D o.op=1→∀s ch,Yo o a (a.put o.dst (some s))=some ch→False:=by
 intro hk s ch hc;rcases h with h | h
 ·rw[h]at hk;cases hk
 ·rw[h]at hc;cases hc
def Gm{x:Operand}(hop:o.op = .move x)(hk:za P D o a K w):PR P D o a K w:=by
 cases hs:a.ev x with
 | none=>exact zc (λK=>by simp only[za,hop,hs,zj]) hk
 | some s=>exact yp (k1 (.inl (by rw[hop];rfl))) s (λK=>by simp only[za,hop,hs,zj];rfl) hk
def Gl{x y z:Operand}(hop:o.op = .pick x y z)(hk:za P D o a K w):PR P D o a K w:=by
 have K0:=k1 (a:=a) (o:=o) (D:=D) (.inl (by rw[hop];rfl));have key:∀(b:Bool) u,(∀K,za P D o a K=L.ite b (zj (a.ev y) λs=>K (Ym a o s)) (zj (a.ev z) λs=>K (Ym a o s)))→a.ev x=some u→PR P D o a K w:=by
  intro b u e _;have hk':=hk;rw[e]at hk'
  cases b with
  | true=>
   obtain⟨s,hs,_⟩:=zC (hk'.1 rfl);have e1:∀K,za P D o a K w↔K (a.put o.dst (some s)) w:=λK=>by rw[e];simp only[L.ite,QI hs];simp;rfl
   refine⟨s,(e1 K).1 hk,λhk1 ch hc=>(K0 hk1 _ _ hc).elim,λw' _=>?_⟩;rw[e];exact⟨λ_=>by rw[QI hs];exact⟨rfl,rfl⟩,(λh=>by cases h)⟩
  | false=>
   obtain⟨s,hs,_⟩:=zC (hk'.2 rfl);have e1:∀K,za P D o a K w↔K (a.put o.dst (some s)) w:=λK=>by rw[e];simp only[L.ite,QI hs];simp;rfl
   refine⟨s,(e1 K).1 hk,λhk1 ch hc=>(K0 hk1 _ _ hc).elim,λw' _=>?_⟩;rw[e];exact⟨(λh=>by cases h),λ_=>by rw[QI hs];exact⟨rfl,rfl⟩⟩
 cases hs:a.ev x with
 | none=>exact zc (λK=>by simp only[za,hop,hs]) hk
 | some s=>cases s with
  | lit b=>cases b with
   | true=>cases hy:a.ev y with
    | none=>exact zc (λK=>by simp only[za,hop,hs,cond,hy,zj]) hk
    | some s=>exact yp K0 s (λK=>by simp only[za,hop,hs,cond,hy,zj];rfl) hk
   | false=>cases hy:a.ev z with
    | none=>exact zc (λK=>by simp only[za,hop,hs,cond,hy,zj]) hk
    | some s=>exact yp K0 s (λK=>by simp only[za,hop,hs,cond,hy,zj];rfl) hk
  | v u=>cases u with
   | bool b=>exact key b _ (λK=>by simp only[za,hop,hs]) hs
   | _=>exact zc (λK=>by simp only[za,hop,hs]) hk
  | _=>exact zc (λK=>by simp only[za,hop,hs]) hk
def gl{t:TypeId}{ps:Array (Nat×Operand)}(hop:o.op = .build t ps)(hk:za P D o a K w):PR P D o a K w:=by
 have K0:=k1 (a:=a) (o:=o) (D:=D) (.inl (by rw[hop];rfl))
 cases hD:D.t t with
 | none=>exact zc (λK=>by simp only[za,hop,hD]) hk
 | some ti=>
  obtain⟨td,n,e1,z⟩:=ti
  cases hps:JG a ps.toList with
  | none=>cases td<;>cases z<;>exact zc (λK=>by simp only[za,hop,hD,hps]) hk
  | some l=>cases z with
   | none=>cases td<;>exact zc (λK=>by simp only[za,hop,hD,hps]) hk
   | some z=>cases td with
    | struct fs=>cases hpl:JT D fs with
     | none=>exact zc (λK=>by simp only[za,hop,hD,hps,hpl]) hk
     | some pl=>cases hf:QS (nth pl) z l with
      | none=>exact zc (λK=>by simp only[za,hop,hD,hps,hpl,hf]) hk
      | some cs=>exact yp K0 (.ag cs) (λK=>by simp only[za,hop,hD,hps,hpl,hf];rfl) hk
    | arr m e=>cases hD2:D.t e with
     | none=>exact zc (λK=>by simp only[za,hop,hD,hps,hD2]) hk
     | some te=>cases hf:QS (λi=>some (i*te.size,te.size)) z l with
      | none=>exact zc (λK=>by simp only[za,hop,hD,hps,hD2,hf]) hk
      | some cs=>exact yp K0 (.ag cs) (λK=>by simp only[za,hop,hD,hps,hD2,hf];rfl) hk
    | _=>exact zc (λK=>by simp only[za,hop,hD,hps]) hk
def kV{x:Operand}(hop:o.op = .nilCheck x)(hk:za P D o a K w):PR P D o a K w:=by
 have K0:=k1 (a:=a) (o:=o) (D:=D) (.inl (by rw[hop];rfl))
 cases hs:a.ev x with
 | none=>exact zc (λK=>by simp only[za,hop,hs,zj]) hk
 | some s=>cases s with
  | v u=>cases u with
   | pointer p=>exact Ox K0 (λad=>.v (.pointer (some ad))) (λK=>by simp only[za,hop,hs,zj];rfl) hk
   | func f x y=>cases f with
    | func f=>exact yp K0 (.v (.func (.func f) x y)) (λK=>by simp only[za,hop,hs,zj];rfl) hk
    | _=>exact zc (λK=>by simp only[za,hop,hs,zj]) hk
   | _=>exact zc (λK=>by simp only[za,hop,hs,zj]) hk
  | _=>exact zc (λK=>by simp only[za,hop,hs,zj]) hk
def Gk{op:UnOp}{t:TypeId}{x:Operand}(hop:o.op = .unOp op t x)(hk:za P D o a K w):PR P D o a K w:=by
 have K0:=k1 (a:=a) (o:=o) (D:=D) (.inl (by rw[hop];rfl))
 cases hs:a.ev x with
 | none=>exact zc (λK=>by simp only[za,hop,hs,zj]) hk
 | some s=>cases op with
  | not=>cases hb:s.boolOf with
   | none=>exact zc (λK=>by simp only[za,hop,hs,zj,hb]) hk
   | some b=>exact yp K0 (.v (.bool (!b))) (λK=>by simp only[za,hop,hs,zj,hb];rfl) hk
  | neg=>cases s with
   | v u=>cases u with
    | int k n=>exact yp K0 (.v (.int k (k.wrap (0-n)))) (λK=>by simp only[za,hop,hs,zj];rfl) hk
    | _=>exact zc (λK=>by simp only[za,hop,hs,zj]) hk
   | _=>exact zc (λK=>by simp only[za,hop,hs,zj]) hk
  | _=>exact zc (λK=>by simp only[za,hop,hs,zj]) hk
def uu{t:TypeId}{x:Operand}(hop:o.op = .makeInterface t x)(hk:za P D o a K w):PR P D o a K w:=by
 have K0:=k1 (a:=a) (o:=o) (D:=D) (.inl (by rw[hop];rfl))
 cases hs:a.ev x with
 | none=>exact zc (λK=>by simp only[za,hop,hs,zj]) hk
 | some s=>cases hD:D.t t with
  | none=>exact zc (λK=>by simp only[za,hop,hs,zj,hD]) hk
  | some ti=>
   obtain⟨td,n,e1,z⟩:=ti
   cases td with
   | iface=>exact zc (λK=>by simp only[za,hop,hs,zj,hD]) hk
   | _=>exact yp K0 (.v (.iface t s.toV)) (λK=>by simp only[za,hop,hs,zj,hD];rfl) hk
def kW{f:Fn}{x y:Array Operand}(hop:o.op = .makeFunc f x y)(hk:za P D o a K w):PR P D o a K w:=by
 have K0:=k1 (a:=a) (o:=o) (D:=D) (.inl (by rw[hop];rfl))
 cases h1:ZY a x.toList with
 | none=>exact zc (λK=>by simp only[za,hop,h1]) hk
 | some l1=>cases h2:ZY a y.toList with
  | none=>exact zc (λK=>by simp only[za,hop,h1,h2]) hk
  | some l2=>exact yp K0 (.v (.func f (yN l1).toArray (yN l2).toArray)) (λK=>by simp only[za,hop,h1,h2];rfl) hk
def VU{t:TypeId}{x:Operand}{f:Nat}(hop:o.op = .fieldAddr t x f)(hk:za P D o a K w):PR P D o a K w:=by
 have K0:=k1 (a:=a) (o:=o) (D:=D) (.inl (by rw[hop];rfl))
 cases hs:a.ev x with
 | none=>exact zc (λK=>by simp only[za,hop,hs,zj]) hk
 | some s=>cases s with
  | v u=>cases u with
   | pointer p=>cases p with
    | none=>exact zc (λK=>by simp only[za,hop,hs,zj]) hk
    | some ad=>cases hD:D.t t with
     | none=>exact zc (λK=>by simp only[za,hop,hs,zj,hD]) hk
     | some ti=>
      obtain⟨td,n,e1,z⟩:=ti
      cases td with
      | struct fs=>cases hn:nth fs f with
       | none=>exact zc (λK=>by simp only[za,hop,hs,zj,hD,hn]) hk
       | some fd=>cases hD2:D.t fd.1 with
        | none=>exact zc (λK=>by simp only[za,hop,hs,zj,hD,hn,hD2]) hk
        | some tf=>
         obtain⟨td2,n2,e2,z2⟩:=tf
         cases n2 with
         | zero=>exact zc (λK=>by simp only[za,hop,hs,zj,hD,hn,hD2]) hk
         | succ n2=>exact yp K0 (.v (.pointer (some (ad.add fd.2)))) (λK=>by simp only[za,hop,hs,zj,hD,hn,hD2];rfl) hk
      | _=>exact zc (λK=>by simp only[za,hop,hs,zj,hD]) hk
   | _=>exact zc (λK=>by simp only[za,hop,hs,zj]) hk
  | _=>exact zc (λK=>by simp only[za,hop,hs,zj]) hk
def gk{t:TypeId}{x:Operand}{f:Nat}(hop:o.op = .field t x f)(hk:za P D o a K w):PR P D o a K w:=by
 have K0:=k1 (a:=a) (o:=o) (D:=D) (.inl (by rw[hop];rfl))
 cases hs:a.ev x with
 | none=>exact zc (λK=>by simp only[za,hop,hs]) hk
 | some s=>cases s with
  | ag cs=>cases hD:D.t t with
   | none=>exact zc (λK=>by simp only[za,hop,hs,hD]) hk
   | some ti=>
    obtain⟨td,n,e1,z⟩:=ti
    cases td with
    | struct fs=>cases hn:nth fs f with
     | none=>exact zc (λK=>by simp only[za,hop,hs,hD,hn]) hk
     | some fd=>cases hD2:D.t fd.1 with
      | none=>exact zc (λK=>by simp only[za,hop,hs,hD,hn,hD2]) hk
      | some tf=>cases hp:Uh tf cs fd.2 with
       | none=>exact zc (λK=>by simp only[za,hop,hs,hD,hn,hD2,hp]) hk
       | some v=>exact yp K0 v (λK=>by simp only[za,hop,hs,hD,hn,hD2,hp];rfl) hk
    | _=>exact zc (λK=>by simp only[za,hop,hs,hD]) hk
  | _=>exact zc (λK=>by simp only[za,hop,hs]) hk
def VT{t:TypeId}{x i:Operand}(hop:o.op = .indexAddr t x i)(hk:za P D o a K w):PR P D o a K w:=by
 have K0:=k1 (a:=a) (o:=o) (D:=D) (.inl (by rw[hop];rfl))
 cases hi:a.ev i with
 | none=>exact zc (λK=>by simp only[za,hop,hi,zj]) hk
 | some si=>cases si with
  | v u=>cases u with
   | int k n=>cases hs:a.ev x with
    | none=>exact zc (λK=>by simp only[za,hop,hi,hs,zj]) hk
    | some s=>cases s with
     | v u=>cases u with
      | pointer p=>cases p with
       | none=>exact zc (λK=>by simp only[za,hop,hi,hs,zj]) hk
       | some ad=>cases hD:D.t t with
        | none=>exact zc (λK=>by simp only[za,hop,hi,hs,zj,hD]) hk
        | some ti=>
         obtain⟨td,m,e1,z⟩:=ti
         cases td with
         | arr len e=>cases hD2:D.t e with
          | none=>exact zc (λK=>by simp only[za,hop,hi,hs,zj,hD,hD2]) hk
          | some te=>exact gj K0 (λad=>.v (.pointer (some ad))) (λK=>by simp only[za,hop,hi,hs,zj,hD,hD2];rfl) hk
         | _=>exact zc (λK=>by simp only[za,hop,hi,hs,zj,hD]) hk
      | slice sa len cap=>cases hD:D.t t with
       | none=>exact zc (λK=>by simp only[za,hop,hi,hs,zj,hD]) hk
       | some ti=>
        obtain⟨td,m,e1,z⟩:=ti
        cases td with
        | slice e=>cases hD2:D.t e with
         | none=>exact zc (λK=>by simp only[za,hop,hi,hs,zj,hD,hD2]) hk
         | some te=>exact gj K0 (λad=>.v (.pointer (some ad))) (λK=>by simp only[za,hop,hi,hs,zj,hD,hD2];rfl) hk
        | _=>exact zc (λK=>by simp only[za,hop,hi,hs,zj,hD]) hk
      | _=>exact zc (λK=>by simp only[za,hop,hi,hs,zj]) hk
     | _=>exact zc (λK=>by simp only[za,hop,hi,hs,zj]) hk
   | _=>exact zc (λK=>by simp only[za,hop,hi,zj]) hk
  | _=>exact zc (λK=>by simp only[za,hop,hi,zj]) hk
def gi{t:TypeId}{x i:Operand}(hop:o.op = .index t x i)(hk:za P D o a K w):PR P D o a K w:=by
 have K0:=k1 (a:=a) (o:=o) (D:=D) (.inl (by rw[hop];rfl))
 cases hi:a.ev i with
 | none=>exact zc (λK=>by simp only[za,hop,hi,zj]) hk
 | some si=>cases si with
  | v u=>cases u with
   | int k n=>cases hs:a.ev x with
    | none=>exact zc (λK=>by simp only[za,hop,hi,hs,zj]) hk
    | some s=>cases s with
     | v u=>cases u with
      | string q=>cases hD:D.t t with
       | none=>exact zc (λK=>by simp only[za,hop,hi,hs,zj,hD]) hk
       | some ti=>
        obtain⟨td,m,e1,z⟩:=ti
        cases td with
        | str=>exact jG K0 (.v (.int .u8 (vL q n))) (λK=>by simp only[za,hop,hi,hs,zj,hD];rfl) hk
        | _=>exact zc (λK=>by simp only[za,hop,hi,hs,zj,hD]) hk
      | _=>exact zc (λK=>by simp only[za,hop,hi,hs,zj]) hk
     | ag cs=>cases hD:D.t t with
      | none=>exact zc (λK=>by simp only[za,hop,hi,hs,zj,hD]) hk
      | some ti=>
       obtain⟨td,m,e1,z⟩:=ti
       cases td with
       | arr len e=>cases hD2:D.t e with
        | none=>exact zc (λK=>by simp only[za,hop,hi,hs,zj,hD,hD2]) hk
        | some te=>cases hp:Uh te cs (n.toNat*te.size) with
         | none=>exact zc (λK=>by simp only[za,hop,hi,hs,zj,hD,hD2,hp]) hk
         | some v=>exact jG K0 v (λK=>by simp only[za,hop,hi,hs,zj,hD,hD2,hp];rfl) hk
       | _=>exact zc (λK=>by simp only[za,hop,hi,hs,zj,hD]) hk
     | _=>exact zc (λK=>by simp only[za,hop,hi,hs,zj]) hk
   | _=>exact zc (λK=>by simp only[za,hop,hi,zj]) hk
  | _=>exact zc (λK=>by simp only[za,hop,hi,zj]) hk
def KV{x:Operand}{i:Nat}(hop:o.op = .extract x i)(hk:za P D o a K w):PR P D o a K w:=by
 have K0:=k1 (a:=a) (o:=o) (D:=D) (.inl (by rw[hop];rfl))
 cases hs:a.ev x with
 | none=>exact zc (λK=>by simp only[za,hop,hs]) hk
 | some s=>cases s with
  | nx b es y=>cases i with
   | zero=>exact yp K0 (.lit b) (λK=>by simp only[za,hop,hs];rfl) hk
   | succ i=>cases hn:Ug es y i with
    | none=>exact zc (λK=>by simp only[za,hop,hs,hn]) hk
    | some s=>exact yp K0 s (λK=>by simp only[za,hop,hs,hn];rfl) hk
  | tp es y=>cases hn:Ug es y i with
   | none=>exact zc (λK=>by simp only[za,hop,hs,hn]) hk
   | some s=>exact yp K0 s (λK=>by simp only[za,hop,hs,hn];rfl) hk
  | v u=>cases u with
   | tuple vs=>cases hn:nth vs.toList i with
    | none=>exact zc (λK=>by simp only[za,hop,hs,hn]) hk
    | some s=>exact yp K0 (.v s) (λK=>by simp only[za,hop,hs,hn];rfl) hk
   | _=>exact zc (λK=>by simp only[za,hop,hs]) hk
  | _=>exact zc (λK=>by simp only[za,hop,hs]) hk
def KX(K0:zN D o.op=1→∀s ch,Yo o a (a.put o.dst (some s))=some ch→False){op:BinOp}{t:TypeId}{x y:Operand}{t':TypeId}{k k':IntKind}{p q:Int}(e0:∀K,za P D o a K=Zl P D o a op t y (.v (.int k p)) (.v (.int k' q)) K)(hk:za P D o a K w):PR P D o a K w:=by
 cases op with
 | shl=>exact jG K0 (.v (.int k (k.wrap (p*2 ^ (min q.toNat k.bits))))) (λK=>by rw[e0];rfl) hk
 | shr=>exact jG K0 (.v (.int k (p.fdiv (2 ^ (min q.toNat k.bits))))) (λK=>by rw[e0];rfl) hk
 | quo=>
  by_cases hc:k=k'
  ·exact jG K0 (.v (.int k (k.wrap (p.tdiv q)))) (λK=>by rw[e0];simp only[Zl];rw[if_pos hc];rfl) hk
  ·exact zc (λK=>by rw[e0];simp only[Zl];rw[if_neg hc]) hk
 | rem=>
  by_cases hc:k=k'
  ·exact jG K0 (.v (.int k (p.tmod q))) (λK=>by rw[e0];simp only[Zl];rw[if_pos hc];rfl) hk
  ·exact zc (λK=>by rw[e0];simp only[Zl];rw[if_neg hc]) hk
 | andNot=>
  by_cases hc:k=k'
  ·exact zc (λK=>by rw[e0];simp only[Zl];rw[if_pos hc];rfl) hk
  ·exact zc (λK=>by rw[e0];simp only[Zl];rw[if_neg hc]) hk
 | _=>
  by_cases hc:k=k'
  ·exact yp K0 (.v _) (λK=>by rw[e0];simp only[Zl];rw[if_pos hc];rfl) hk
  ·exact zc (λK=>by rw[e0];simp only[Zl];rw[if_neg hc]) hk
def KW(K0:zN D o.op=1→∀s ch,Yo o a (a.put o.dst (some s))=some ch→False){op:BinOp}{t:TypeId}{x y:Operand}{t':TypeId}{p q:B0}(e0:∀K,za P D o a K=Zl P D o a op t y (.v (.string p)) (.v (.string q)) K)(hk:za P D o a K w):PR P D o a K w:=by
 cases op with
 | add=>exact jG K0 (.v (.string (p++q))) (λK=>by rw[e0];rfl) hk
 | eql | neq | lss | leq | gtr | geq=>exact yp K0 (.v _) (λK=>by rw[e0];rfl) hk
 | _=>exact zc (λK=>by rw[e0];rfl) hk
def UW(K0:zN D o.op=1→∀s ch,Yo o a (a.put o.dst (some s))=some ch→False){op:BinOp}{b:Bool}(e0:∀K,za P D o a K=(match op with | .eql=>K (Zz a o (.bool b)) | .neq=>K (Zz a o (.bool (!b))) | _=>bad))(hk:za P D o a K w):PR P D o a K w:=by
 cases op with
 | eql=>exact yp K0 (.v (.bool b)) (λK=>by rw[e0];rfl) hk
 | neq=>exact yp K0 (.v (.bool (!b))) (λK=>by rw[e0];rfl) hk
 | _=>exact zc (λK=>by rw[e0]) hk
def gm{op:BinOp}{t:TypeId}{x y:Operand}{t':TypeId}(hop:o.op = .binOp op t x y t')(hkind:qA (D.t t)<2)(hk:za P D o a K w):PR P D o a K w:=by
 have K0:=k1 (a:=a) (o:=o) (D:=D) (.inl (by rw[hop];show qA (D.t t)=0;revert hkind;unfold qA;split<;>simp))
 cases hsx:a.ev x with
 | none=>exact zc (λK=>by simp only[za,hop,hsx,zj]) hk
 | some sx=>cases hsy:a.ev y with
  | none=>exact zc (λK=>by simp only[za,hop,hsx,hsy,zj]) hk
  | some sy=>
   have e0:∀K,za P D o a K=Zl P D o a op t y sx sy K:=λK=>by simp only[za,hop,hsx,hsy,zj]
   have bools:(∀K,za P D o a K=(match sx.boolOf,sy.boolOf,D.t t with
     | some p,some q,some { d:=.bool,.. }=>(match (generalizing:=false) op with
      | .eql=>K (Zz a o (.bool (p == q)))
      | .neq=>K (Zz a o (.bool (!(p == q))))
      | _=>bad)
     | _,_,_=>bad))→PR P D o a K w:=by
    intro e0
    cases h1:sx.boolOf with
    | none=>exact zc (λK=>by rw[e0,h1]) hk
    | some p=>cases h2:sy.boolOf with
     | none=>exact zc (λK=>by rw[e0,h1,h2]) hk
     | some q=>cases hD:D.t t with
      | none=>exact zc (λK=>by rw[e0,h1,h2,hD]) hk
      | some ti=>
       obtain⟨td,m,e1,z⟩:=ti
       cases td with
       | bool=>exact UW K0 (op:=op) (b:=p == q) (λK=>by rw[e0,h1,h2,hD]) hk
       | _=>exact zc (λK=>by rw[e0,h1,h2,hD]) hk
   cases sx with
   | lit b=>cases sy<;>exact bools (λK=>by rw[e0];rfl)
   | tp es x=>cases sy<;>exact bools (λK=>by rw[e0];rfl)
   | nx b es x=>cases sy<;>exact bools (λK=>by rw[e0];rfl)
   | it t p=>cases sy<;>exact bools (λK=>by rw[e0];rfl)
   | ifc p=>cases sy with
    | v y'=>cases y' with
     | nilIface=>cases hcy:QN y with
      | false=>exact zc (λK=>by rw[e0];simp only[Zl,hcy];rfl) hk
      | true=>cases hD:D.t t with
       | none=>exact zc (λK=>by rw[e0];simp only[Zl,hcy,hD,if_true]) hk
       | some ti=>
        obtain⟨td,m,e1,z⟩:=ti
        cases td with
        | iface=>exact UW K0 (op:=op) (b:=p.isNone) (λK=>by rw[e0];simp only[Zl,hcy,hD,if_true];cases op<;>rfl) hk
        | _=>exact zc (λK=>by rw[e0];simp only[Zl,hcy,hD,if_true]) hk
     | _=>exact bools (λK=>by rw[e0];rfl)
    | _=>exact bools (λK=>by rw[e0];rfl)
   | ag p=>cases sy with
    | ag q=>
     have hne:¬qA (D.t t)=2:=by omega
     exact zc (λK=>by rw[e0];simp only[Zl];rw[if_neg hne]) hk
    | _=>exact bools (λK=>by rw[e0];rfl)
   | v x'=>cases x' with
    | int k p=>cases sy with
     | v y'=>cases y' with
      | int k' q=>exact KX K0 (x:=x) (t':=t') e0 hk
      | _=>exact bools (λK=>by rw[e0];rfl)
     | _=>exact bools (λK=>by rw[e0];rfl)
    | string p=>cases sy with
     | v y'=>cases y' with
      | string q=>exact KW K0 (x:=x) (t':=t') e0 hk
      | _=>exact bools (λK=>by rw[e0];rfl)
     | _=>exact bools (λK=>by rw[e0];rfl)
    | pointer p=>cases sy with
     | v y'=>cases y' with
      | pointer q=>cases q with
       | none=>cases hD:D.t t with
        | none=>exact zc (λK=>by rw[e0];simp only[Zl,hD]) hk
        | some ti=>
         obtain⟨td,m,e1,z⟩:=ti
         cases td with
         | ptr=>exact UW K0 (op:=op) (b:=p.isNone) (λK=>by rw[e0];simp only[Zl,hD];cases op<;>rfl) hk
         | _=>exact zc (λK=>by rw[e0];simp only[Zl,hD]) hk
       | some _=>exact bools (λK=>by rw[e0];rfl)
      | _=>exact bools (λK=>by rw[e0];rfl)
     | _=>exact bools (λK=>by rw[e0];rfl)
    | slice p n m=>cases sy with
     | v y'=>cases y' with
      | slice q n' m'=>cases q with
       | none=>cases hD:D.t t with
        | none=>exact zc (λK=>by rw[e0];simp only[Zl,hD]) hk
        | some ti=>
         obtain⟨td,sz,e1,z⟩:=ti
         cases td with
         | slice e=>exact UW K0 (op:=op) (b:=p.isNone) (λK=>by rw[e0];simp only[Zl,hD];cases op<;>rfl) hk
         | _=>exact zc (λK=>by rw[e0];simp only[Zl,hD]) hk
       | some _=>exact bools (λK=>by rw[e0];rfl)
      | _=>exact bools (λK=>by rw[e0];rfl)
     | _=>exact bools (λK=>by rw[e0];rfl)
    | map p=>cases sy with
     | v y'=>cases y' with
      | map q=>cases q with
       | none=>cases hD:D.t t with
        | none=>exact zc (λK=>by rw[e0];simp only[Zl,hD]) hk
        | some ti=>
         obtain⟨td,sz,e1,z⟩:=ti
         cases td with
         | map k e=>exact UW K0 (op:=op) (b:=p.isNone) (λK=>by rw[e0];simp only[Zl,hD];cases op<;>rfl) hk
         | _=>exact zc (λK=>by rw[e0];simp only[Zl,hD]) hk
       | some _=>exact bools (λK=>by rw[e0];rfl)
      | _=>exact bools (λK=>by rw[e0];rfl)
     | _=>exact bools (λK=>by rw[e0];rfl)
    | bool b=>cases sy<;>exact bools (λK=>by rw[e0];rfl)
    | _=>cases sy<;>exact bools (λK=>by rw[e0];rfl)
def fi{d:Nat}(hd:o.dst=some d){c:Call}(hop:o.op = .call c)(hc:c.callee = .builtin .len)(hk:za P D o a K w):PR P D o a K w:=by
 cases h1:ZY a c.args.toList with
 | none=>exact zc (λK=>by simp only[za,hop,h1]) hk
 | some vs=>
  have e0:∀K,za P D o a K=zG P D o a K .len c.argTypes vs:=λK=>by simp only[za,hop,h1,hc]
  cases vs with
  | nil=>exact zc (λK=>by rw[e0];rfl) hk
  | cons v l=>cases v with
   | v u=>cases u with
    | string s=>cases l with
     | cons x l=>exact zc (λK=>by rw[e0];rfl) hk
     | nil=>cases htl:c.argTypes.toList with
      | nil=>exact zc (λK=>by rw[e0];simp only[zG,htl]) hk
      | cons t ts=>cases ts with
       | cons t2 ts=>exact zc (λK=>by rw[e0];simp only[zG,htl]) hk
       | nil=>cases hD:D.t t with
        | none=>exact zc (λK=>by rw[e0];simp only[zG,htl,hD]) hk
        | some ti=>
         obtain⟨td,m,e1,z⟩:=ti
         cases td with
         | str=>exact yp (k1 (.inr λy=>by simp only[Yo,hd,qt,hop,h1])) (.v (.int .i64 s.size)) (λK=>by rw[e0];simp only[zG,htl,hD];rfl) hk
         | _=>exact zc (λK=>by rw[e0];simp only[zG,htl,hD]) hk
    | slice p n q=>cases l with
     | cons x l=>exact zc (λK=>by rw[e0];rfl) hk
     | nil=>cases htl:c.argTypes.toList with
      | nil=>exact zc (λK=>by rw[e0];simp only[zG,htl]) hk
      | cons t ts=>cases ts with
       | cons t2 ts=>exact zc (λK=>by rw[e0];simp only[zG,htl]) hk
       | nil=>cases hD:D.t t with
        | none=>exact zc (λK=>by rw[e0];simp only[zG,htl,hD]) hk
        | some ti=>
         obtain⟨td,m,e1,z⟩:=ti
         cases td with
         | slice e=>exact yp (k1 (.inr λy=>by simp only[Yo,hd,qt,hop,h1])) (.v (.int .i64 n)) (λK=>by rw[e0];simp only[zG,htl,hD];rfl) hk
         | _=>exact zc (λK=>by rw[e0];simp only[zG,htl,hD]) hk
    | map m=>cases l with
     | cons x l=>exact zc (λK=>by rw[e0];rfl) hk
     | nil=>cases htl:c.argTypes.toList with
      | nil=>exact zc (λK=>by rw[e0];simp only[zG,htl]) hk
      | cons t ts=>cases ts with
       | cons t2 ts=>exact zc (λK=>by rw[e0];simp only[zG,htl]) hk
       | nil=>
        exact VS hd (r:=.one (.one (.int .i64))) (s:=Builtin.len_ c.argTypes o.type #[.map m]) (λK=>by rw[e0];simp only[zG,htl];rfl) (by rw[hop];obtain⟨cal,args,tys⟩:=c;cases hc;rfl)
         (λy=>by simp only[Yo,hd,qt,hop,h1]) hk
    | _=>exact zc (λK=>by rw[e0];rfl) hk
   | _=>exact zc (λK=>by rw[e0];rfl) hk
def Vk{b:Bool}{c:Call}(hop:o.op = .call c)(hc:c.callee = .builtin (cond b .max .min))(hk:za P D o a K w):PR P D o a K w:=by
 have K0:=k1 (a:=a) (o:=o) (D:=D) (.inl (by rw[hop];obtain⟨cal,args,tys⟩:=c;cases hc;cases b<;>rfl))
 cases h1:ZY a c.args.toList with
 | none=>exact zc (λK=>by simp only[za,hop,h1]) hk
 | some vs=>cases vs with
  | nil=>cases b<;>exact zc (λK=>by simp only[za,hop,h1,hc,zG,cond]) hk
  | cons r l=>cases r with
   | v r=>cases hm:JV b r l with
    | none=>cases b<;>exact zc (λK=>by simp only[za,hop,h1,hc,zG,cond,hm]) hk
    | some v=>cases b<;>exact yp K0 (.v v) (λK=>by simp only[za,hop,h1,hc,zG,cond,hm];rfl) hk
   | _=>cases b<;>exact zc (λK=>by simp only[za,hop,h1,hc,zG,cond]) hk
def gh{t:TypeId}{x:Operand}{lo hi mx:Option Operand}(hop:o.op = .slice t x lo hi mx)(hk:za P D o a K w):PR P D o a K w:=by
 have K0:=k1 (a:=a) (o:=o) (D:=D) (.inl (by rw[hop];rfl))
 cases hs:a.ev x with
 | none=>exact zc (λK=>by simp only[za,hop,hs,zj]) hk
 | some s=>cases s with
  | v u=>cases u with
   | string q=>
    cases hm:mx.isNone with
    | false=>exact zc (λK=>by simp only[za,hop,hs,zj,hm];try rfl) hk
    | true=>cases hD:D.t t with
     | none=>exact zc (λK=>by simp only[za,hop,hs,zj,hm,hD,if_true];try rfl) hk
     | some ti=>
      obtain⟨td,m,e1,z⟩:=ti
      cases td with
      | str=>
       have e0:∀K,za P D o a K=zj (match (generalizing:=false) lo with | some x=>a.ev x | none=>some (.v (.int .i64 0))) fun
         | .v (.int _ l)=>zj (match (generalizing:=false) hi with | some x=>a.ev x | none=>some (.v (.int .i64 q.size))) fun
          | .v (.int _ h)=>L.guard (0≤l∧l≤h∧h≤q.size) (K (Zz a o (.string (q.extract l.toNat h.toNat))))
          | _=>bad
         | _=>bad:=λK=>by simp only[za,hop,hs,zj,hm,hD,if_true];try rfl
       generalize (match (generalizing:=false) lo with | some x=>a.ev x | none=>some (.v (.int .i64 0)))=L1 at e0;generalize (match (generalizing:=false) hi with | some x=>a.ev x | none=>some (.v (.int .i64 q.size)))=L2 at e0
       cases L1 with
       | none=>exact zc (λK=>by rw[e0];rfl) hk
       | some s1=>cases s1 with
        | v u1=>cases u1 with
         | int k1 l=>cases L2 with
          | none=>exact zc (λK=>by rw[e0];rfl) hk
          | some s2=>cases s2 with
           | v u2=>cases u2 with
            | int k2 h=>exact jG K0 (.v (.string (q.extract l.toNat h.toNat))) (λK=>by rw[e0];rfl) hk
            | _=>exact zc (λK=>by rw[e0];rfl) hk
           | _=>exact zc (λK=>by rw[e0];rfl) hk
         | _=>exact zc (λK=>by rw[e0];rfl) hk
        | _=>exact zc (λK=>by rw[e0];rfl) hk
      | _=>exact zc (λK=>by simp only[za,hop,hs,zj,hm,hD,if_true];try rfl) hk
   | slice sa len cap=>
    cases hD:D.t t with
    | none=>exact zc (λK=>by simp only[za,hop,hs,zj,hD]) hk
    | some ti=>
     obtain⟨td,m,e1,z⟩:=ti
     cases td with
     | slice e=>cases hD2:D.t e with
      | none=>exact zc (λK=>by simp only[za,hop,hs,zj,hD,hD2]) hk
      | some te=>
       cases hm:(mx.isSome&&hi.isNone) with
       | true=>exact zc (λK=>by simp only[za,hop,hs,zj,hD,hD2,hm,if_true];try rfl) hk
       | false=>
        have e0:∀K,za P D o a K=zj (match (generalizing:=false) lo with | some x=>a.ev x | none=>some (.v (.int .i64 0))) fun
         | .v (.int _ l)=>zj (match (generalizing:=false) hi with | some x=>a.ev x | none=>some (.v (.int .i64 len))) fun
          | .v (.int _ h)=>zj (match (generalizing:=false) mx with | some x=>a.ev x | none=>some (.v (.int .i64 cap))) fun
           | .v (.int _ m)=>L.guard (0≤l∧l≤h∧h≤m∧m≤cap)
             (K (Zz a o (.slice (if m.toNat=l.toNat then sa else sa.map (·.add (l.toNat*te.size))) (h.toNat-l.toNat) (m.toNat-l.toNat))))
           | _=>bad
          | _=>bad
         | _=>bad:=λK=>by simp only[za,hop,hs,zj,hD,hD2,hm,if_true];try rfl
        generalize (match (generalizing:=false) lo with | some x=>a.ev x | none=>some (.v (.int .i64 0)))=L1 at e0;generalize (match (generalizing:=false) hi with | some x=>a.ev x | none=>some (.v (.int .i64 len)))=L2 at e0;generalize (match (generalizing:=false) mx with | some x=>a.ev x | none=>some (.v (.int .i64 cap)))=L3 at e0
        cases L1 with
        | none=>exact zc (λK=>by rw[e0];rfl) hk
        | some s1=>cases s1 with
         | v u1=>cases u1 with
          | int k1 l=>cases L2 with
           | none=>exact zc (λK=>by rw[e0];rfl) hk
           | some s2=>cases s2 with
            | v u2=>cases u2 with
             | int k2 h=>cases L3 with
              | none=>exact zc (λK=>by rw[e0];rfl) hk
              | some s3=>cases s3 with
               | v u3=>cases u3 with
                | int k3 m=>exact jG K0 (.v (.slice (if m.toNat=l.toNat then sa else sa.map (·.add (l.toNat*te.size))) (h.toNat-l.toNat) (m.toNat-l.toNat))) (λK=>by rw[e0];rfl) hk
                | _=>exact zc (λK=>by rw[e0];rfl) hk
               | _=>exact zc (λK=>by rw[e0];rfl) hk
             | _=>exact zc (λK=>by rw[e0];rfl) hk
            | _=>exact zc (λK=>by rw[e0];rfl) hk
          | _=>exact zc (λK=>by rw[e0];rfl) hk
         | _=>exact zc (λK=>by rw[e0];rfl) hk
     | _=>exact zc (λK=>by simp only[za,hop,hs,zj,hD]) hk
   | _=>exact zc (λK=>by simp only[za,hop,hs,zj]) hk
  | _=>exact zc (λK=>by simp only[za,hop,hs,zj]) hk
def Fw(hkind:zN D o.op<2)(hd:zN D o.op=1→o.dst.isSome=true)(hk:za P D o a K w):PR P D o a K w:=by
 cases hop:o.op with
 | move x=>exact Gm hop hk
 | pick x y z=>exact Gl hop hk
 | build t ps=>exact gl hop hk
 | nilCheck x=>exact kV hop hk
 | unOp op t x=>exact Gk hop hk
 | makeInterface t x=>exact uu hop hk
 | makeFunc f x y=>exact kW hop hk
 | fieldAddr t x f=>exact VU hop hk
 | field t x f=>exact gk hop hk
 | indexAddr t x i=>exact VT hop hk
 | index t x i=>exact gi hop hk
 | extract x i=>exact KV hop hk
 | slice t x lo hi mx=>exact gh hop hk
 | binOp op t x y u=>exact gm hop (by rw[hop]at hkind;exact hkind) hk
 | load t x=>
  obtain⟨d,hd⟩:=Option.isSome_iff_exists.1 (hd (by rw[hop];rfl));exact Gn hd hop hk
 | lookup t m k b=>
  obtain⟨d,hd⟩:=Option.isSome_iff_exists.1 (hd (by rw[hop];rfl));exact Oy hd hop hk
 | call c=>
  obtain⟨cal,args,tys⟩:=c;rw[hop]at hkind
  cases cal with
  | builtin b=>cases b with
   | len=>
    obtain⟨d,hd⟩:=Option.isSome_iff_exists.1 (hd (by rw[hop];rfl));exact fi hd hop rfl hk
   | min=>exact Vk (b:=false) hop rfl hk
   | max=>exact Vk (b:=true) hop rfl hk
   | _=>simp[zN]at hkind
  | _=>simp[zN]at hkind
 | _=>rw[hop]at hkind;simp[zN]at hkind
end
end Go.Dm
namespace Go.Dm
section
variable {P:Program}{D:Tb}{w w':World}{a:AT}{c cv:Act}{o:Oper}{K:AT→PT}{Q:Exit→Act→World→Prop}{ro:Option Nat}{ops:Array Oper}
def Qc{ρ:Operand→Value}(hk:zN D o.op<2){n:Next}(hr:(execOp ρ o).run P w = .ok n w'):∃v,n = .value v:=by
 have key:∀s:Sem Value,(do pure (.value (←s)):Sem Next).run P w = .ok n w'→∃v,n = .value v:=by
  intro s h;rw[Sem.run_bind]at h
  cases hs:s.run P w with
  | ok v w1=>rw[hs]at h;simp at h;exact⟨v,h.1.symm⟩
  | halt x w1=>rw[hs]at h;simp at h
 cases hop:o.op with
 | move x=>simp[execOp,hop]at hr;exact⟨_,hr.1.symm⟩
 | nilCheck x=>
  simp only[execOp,hop]at hr;split at hr
  ·simp[runtimePanic,goPanic,program,Sem.run]at hr
  ·simp[runtimePanic,goPanic,program,Sem.run]at hr
  ·simp[runtimePanic,goPanic,program,Sem.run]at hr
  ·split at hr
   ·simp[runtimePanic,goPanic,program,Sem.run]at hr
   ·rename_i t v _;rw[Sem.run_bind]at hr
    cases hp:(program).run P w with
    | halt x w1=>rw[hp]at hr;simp at hr
    | ok p w1=>
     rw[hp]at hr;simp only[Result.andThen_ok]at hr;rw[Sem.run_bind]at hr
     cases hn:(nilAhead (p.types.size+Made.depth) t v _).run P w1 with
     | halt x w2=>rw[hn]at hr;simp at hr
     | ok b w2=>
      rw[hn]at hr;simp only[Result.andThen_ok]at hr;split at hr
      ·simp[unsupported,Sem.run]at hr
      ·simp at hr;exact⟨_,hr.1.symm⟩
   ·simp at hr;exact⟨_,hr.1.symm⟩
  ·simp at hr;exact⟨_,hr.1.symm⟩
 | call cl=>
  obtain⟨cal,args,tys⟩:=cl;rw[hop]at hk
  cases cal with
  | builtin b=>
   cases b with
   | len=>exact key (Builtin.len_ tys o.type (args.map ρ)) (by rw[←hr];simp only[execOp,hop,resolve];rfl)
   | min=>exact key (Builtin.min_ tys o.type (args.map ρ)) (by rw[←hr];simp only[execOp,hop,resolve];rfl)
   | max=>exact key (Builtin.max_ tys o.type (args.map ρ)) (by rw[←hr];simp only[execOp,hop,resolve];rfl)
   | _=>simp[zN]at hk
  | _=>simp[zN]at hk
 | pick x y z=>
  simp only[execOp,hop]at hr;rw[Sem.run_bind]at hr
  cases hb:(asBool (ρ x)).run P w with
  | halt x w1=>rw[hb]at hr;simp at hr
  | ok b w1=>rw[hb]at hr;simp at hr;exact⟨_,hr.1.symm⟩
 | _=>first | (rw[hop]at hk;simp[zN]at hk;done) | (exact key _ (by rw[←hr];simp only[execOp,hop];first | done | rfl))
def FM(T:YF P D)(hkind:zN D o.op<2)(hR:zN D o.op=1→o.dst.isSome=true)(hd:Dst o cv)(hok:ok a cv)(hk:za P D o a K w) :
  ∃s:SV,K (a.put o.dst (some s)) w∧(zN D o.op=1→∀ch,Yo o a (a.put o.dst (some s))=some ch→Yr P ch w)∧
   ∀w',(zN D o.op=1→∀ch,Yo o a (a.put o.dst (some s))=some ch→Yr P ch w')→∃v,(execOp cv.eval o).run P w' = .ok (.value v) w'∧∀d,o.dst=some d→v=s.toV:=by
 obtain⟨s,h1,h2,h3⟩:=Fw hkind hR hk;refine⟨s,h1,h2,λw' hch=>?_⟩;have h:=vJ T hok hd (h3 w' hch);rcases h with ⟨v,w1,hr,a',⟨hw,ha⟩,hok',_⟩ | ⟨w1,hr,_⟩ | ⟨f,args,w1,hr,_⟩ | ⟨l,f,t,as,bd,w1,hr,_⟩
 ·subst hw;refine⟨v,hr,λd hdd=>?_⟩;subst ha;rw[hdd]at hok';have:=hok' d s (qt a d s);have hlt:=hd d hdd;simp[Act.put,Array.getElem?_setIfInBounds,hlt]at this;exact this
 ·obtain⟨v,hv⟩:=Qc hkind hr;cases hv
 ·obtain⟨v,hv⟩:=Qc hkind hr;cases hv
 ·obtain⟨v,hv⟩:=Qc hkind hr;cases hv
def vf{t:Nat}:∀{l:List Operand},Operand.tmp t∈l→t∈uo l
 | x::l,h=>by
  cases h with
  | head=>simp[uo]
  | tail _ h=>cases x<;>simp[uo,vf h]
def vF{c':Act}(hs:∀cs b,o.op≠.select cs b)(h:∀t∈yb ops.toList o,c'.tmps[t]? = cv.tmps[t]?):execOp c'.eval o=execOp cv.eval o:=by
 refine execOp_congr o hs λx hx=>?_
 cases x with
 | tmp t=>
  have:=h t (by unfold yb;exact List.mem_append_left _ (vf (Array.mem_toList_iff.2 hx)));simp[Act.eval,this]
 | _=>rfl
def JD{c':Act}(h:∀t∈yb ops.toList o,c'.tmps[t]? = cv.tmps[t]?):Region.wanted o (yielded ops c'.tmps)=Region.wanted o (yielded ops cv.tmps):=by
 unfold Region.wanted
 cases hg:o.guard with
 | none=>rfl
 | some q=>
  obtain⟨j,b⟩:=q;have e:yielded ops c'.tmps j=yielded ops cv.tmps j:=by
   unfold yielded
   cases hj:(ops[j]?).bind (·.dst) with
   | none=>rfl
   | some d=>
    have:=h d (by
     unfold yb;refine List.mem_append_right _ ?_;have e1:(nth ops.toList j).bind (·.dst)=some d:=by rw[zp,Array.getElem?_toList];exact hj
     simp[hg,e1])
    simp only[Option.bind_some,this]
  simp only[e]
def JW{i:Nat}:∀{l:List Nat},XH i l=true↔i∈l
 | []=>by simp[XH]
 | x::l=>by
  simp only[XH,List.mem_cons];by_cases h:x=i
  ·subst h;simp
  ·have:Nat.beq x i=false:=by rw[←Bool.not_eq_true,Nat.beq_eq];exact h
   rw[this];simp only[cond];rw[JW];constructor
   ·exact .inr
   ·rintro(e | e)
    ·exact absurd e.symm h
    ·exact e
def Xr{l:List Oper}{k:Nat}:∀{i:Nat},l[i]? = some o→(k+i,o)∈Yb k l:=by
 induction l generalizing k with
 | nil=>intro i h;simp at h
 | cons x l ih=>
  intro i h
  cases i with
  | zero=>simp at h;subst h;simp[Yb]
  | succ i=>
   simp at h;have:=ih (k:=k+1) h;have e:k+1+i=k+(i+1):=by omega
   rw[e]at this;exact List.mem_cons_of_mem _ this
def qN{α:Type}:∀{l:List α}{r:List α}{i:Nat},i<l.length→nth (l++r) i=nth l i:=by
 intro l r i h;rw[zp,zp,List.getElem?_append_left h]
def oH(ops:Array Oper)(Z:Nat→Prop):Prop:=∀i o,ops[i]? = some o→Z i→∀e∈o.after.toList,Region.binds .any e=true→Z e.on
def Fa(ops:Array Oper)(i m:Nat):Prop:=∀Z,oH ops Z→(∀o,ops[i]? = some o→∀e∈o.after.toList,Region.binds .any e=true→Z e.on)→∀r,m.testBit r=true→Z r
def Ui{acc:List Nat}(hacc:∀i m,nth acc i=some m→Fa ops i m):∀(es:List Edge)(Z:Nat→Prop),oH ops Z→(∀e∈es,Region.binds .any e=true→Z e.on)→∀r,(uz acc es).testBit r=true→Z r
 | [],Z,hZ,he,r,hr=>by simp[uz]at hr
 | e::es,Z,hZ,he,r,hr=>by
  simp only[uz]at hr;have rest:=Ui hacc es Z hZ (λe' h'=>he e' (List.mem_cons_of_mem _ h')) r;split at hr
  ·rename_i hb;have hon:=he e (List.mem_cons_self ..) hb;simp only[Nat.testBit_or,Bool.or_eq_true]at hr;rcases hr with (hr | hr) | hr
   ·rw[Nat.testBit_two_pow]at hr;simp at hr;subst hr;exact hon
   ·cases hm:nth acc e.on with
    | none=>rw[hm]at hr;simp at hr
    | some m=>
     rw[hm]at hr;exact hacc e.on m hm Z hZ (λo ho e' he' hb'=>hZ e.on o ho hon e' he' hb') r hr
   ·exact rest hr
  ·exact rest hr
def vh:∀(l:List Oper)(acc:List Nat),(∀i m,nth acc i=some m→Fa ops i m)→(∀j o,l[j]? = some o→ops[acc.length+j]? = some o)→∀i m,nth (ye l acc) i=some m→Fa ops i m
 | [],acc,h,_,i,m,hm=>h i m hm
 | o::l,acc,h,hl,i,m,hm=>by
  simp only[ye]at hm;refine vh l _ ?_ ?_ i m hm
  ·intro i m hm;by_cases hi:i<acc.length
   ·rw[qN hi]at hm;exact h i m hm
   ·rw[zp,List.getElem?_append_right (by omega)]at hm;by_cases hi2:i=acc.length
    ·subst hi2;simp at hm;subst hm;have ho:=hl 0 o rfl;simp at ho;intro Z hZ he;exact Ui h _ Z hZ (λe he' hb=>he o ho e he' hb)
    ·have:i-acc.length≠0:=by omega
     simp[this]at hm
  ·intro j o' hj;have:=hl (j+1) o' (by simpa using hj);simp only[List.length_append,List.length_cons,List.length_nil];have e:acc.length+(0+1)+j=acc.length+(j+1):=by omega
   rw[e];exact this
def Kj{i r:Nat}{Z:Nat→Prop}(hZ:oH ops Z)(he:∀o,ops[i]? = some o→∀e∈o.after.toList,Region.binds .any e=true→Z e.on)(hr:(Yf (ye ops.toList []) i).testBit r=true):Z r:=by
 unfold Yf at hr
 cases hm:nth (ye ops.toList []) i with
 | none=>rw[hm]at hr;simp at hr
 | some m=>
  rw[hm]at hr;exact vh ops.toList [] (λi m h=>by simp[nth]at h) (λj o h=>by simpa [Array.getElem?_toList]using h) i m hm Z hZ he r hr
end
end Go.Dm
