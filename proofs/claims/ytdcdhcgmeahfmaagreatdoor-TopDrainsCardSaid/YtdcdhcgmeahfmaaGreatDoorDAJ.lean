/- What is proved on the way to a statement of the seat, pressed (text AJ). No conditions beyond those its theorems state. -/
import Derived.Test.YtdcdhcgmeahfmaaGreatDoorDAI
set_option linter.all false
namespace Go.Proofs.YtdcdhcgmeahfmaaGreatDoor
open Go.Dm
attribute [local irreducible] L.load L.store L.chk L.new L.nonnil L.guard L.ite L.draw L.idx L.sem L.semR L.semU L.chkSem L.next L.call L.callV L.join L.alts L.loop L.begin L.endRound L.range
variable {w0 w:World}{E:List Seg}
theorem z8F(h:St w0 E w)(i:Nat){Q:List Tr}(hi:nth E i=some (Q.map trS).flatten){t:Tr}(ht:t∈Q)(hp:PodS t.2.1 t.1.pod t.2.2){k:Int→PT}(hk:k t.1.pod.st w) :
  L.call Pr z1u [.pointer (some ⟨t.2.1,0,none⟩)] (.one (.one (.int .i64))) k w:=by
 obtain⟨A,B,rfl⟩:=List.append_of_mem ht
 exact zpJ (h.front i hi).pick 0 rfl hp hk
theorem zfP(h:St w0 E w)(i:Nat){Q:List Tr}(hi:nth E i=some (Q.map trS).flatten){t:Tr}(ht:t∈Q)(hp:PodS t.2.1 t.1.pod t.2.2){k:Int→PT}(hk:k t.1.pod.reqs.length w) :
  L.call Pr z2q [.pointer (some ⟨t.2.1,0,none⟩)] (.one (.one (.int .i64))) k w:=by
 obtain⟨A,B,rfl⟩:=List.append_of_mem ht
 exact zre (h.front i hi).pick 0 rfl hp hk
def revs(l:List AHeld)(rev:ByteArray):List AHeld:=l.filter fun x=>decide (x.rev=rev)
theorem FlR.revs{F:AFleet}{L:List Tr}{mA mW}(hr:FlR F L mA mW)(rev:ByteArray):revs F.l rev=(L.filter (revP rev)).map (·.1):=by
 unfold YtdcdhcgmeahfmaaGreatDoor.revs;rw[hr.l,List.filter_map];rfl
theorem zhK{l:List Tr}{m:Nat}(hm:m<l.length):argO l m=(l[m].1.id,some ⟨l[m].2.1,0,none⟩,()):=by
 simp[argO,List.getElem?_eq_getElem hm]
theorem ziV{L:List Tr}{rev:ByteArray}{m:Nat}(hm:m<(L.filter (revP rev)).length):(L.filter (revP rev))[m]∈L:=(List.mem_filter.1 (List.getElem_mem hm)).1
def isUp(x:AHeld):Bool:=decide (x.pod.st≠3)
def fCount(l:List AHeld)(rev:ByteArray):Nat:=((revs l rev).filter isUp).length
theorem ztj(h:St w0 E w)(i:Nat){b:Nat}{F:AFleet}{s:Seg}(hi:nth E i=some s)(hf:FlS b F s){rev:ByteArray}{k:Int→PT}(hk:∀w',St w0 E w'→k (fCount F.l rev) w') :
  L.call Pr z7b [.pointer (some ⟨b,0,none⟩),.string rev] (.one (.one (.int .i64))) k w:=by
 obtain⟨ok,rA,rW,mA,mW,sA,sW,L,hA,hW,hr,rfl⟩:=hf
 refine z01 (zeD _ _) ?_
 unfold za2
 have hll:L.length=F.l.length:=by rw[hr.l];simp
 have hfew:=ok.few
 have h:St w0 (flB b rA rW F::sA::sW::(L.map trS).flatten::delN E i) w:=(h.front i hi).eq (by simp)
 refine nw h ?_;clear h;(try clear w);intro b1 w h
 (refine stC h ?_;clear h;(try clear w);intro w h;dsimp only[putN,setN]at h)
 refine S_of h fun c0 c1 w h=>?_
 have h:=fr3_ (fr3_ (fr4_ (fr4_ h)))
 refine z5j (A:=[_,_,_,_]) (Y_of ok hA hr) h (fun m G=>G = [Cl b1 z0h [I ((((L.filter (revP rev)).take m).filter fun t=>isUp t.1).length:Nat)]]::sW::(L.map trS).flatten::delN E i) (fun j G=>False) rfl ?_ ?_ ?_
 ·rintro m G X w lv lp d R hm rfl h hN hE
  have hx:=List.getElem?_eq_getElem hm
  have hft:=zjc (p:=fun t:Tr=>isUp t.1) hx
  have hlt:=List.length_filter_le (revP rev) L
  have hl2:=List.length_filter_le (fun t:Tr=>isUp t.1) ((L.filter (revP rev)).take m)
  rw[List.length_take]at hl2
  have h:St w0 ([Rec lv lp .busy none]::[DfM d]::[Cl c1 z00 [.string rev]]::[Cl c0 z0P [.pointer (some ⟨b,0,none⟩)]]::flB b rA rW F::sA::[Cl b1 z0h [I ((((L.filter (revP rev)).take m).filter fun t=>isUp t.1).length:Nat)]]::sW::(L.map trS).flatten::(delN E i++X)) w:=h
  rw[zhK hm]
  (try dsimp only)
  refine z8F h 8 rfl (ziV hm) (hr.ps _ (ziV hm)) ?_
  refine it (fun hc=>?_) (fun hc=>?_)<;>(try simp only[zB]at hc)
  ·have hp:isUp (L.filter (revP rev))[m].1=true:=decide_eq_true hc
   rw[if_pos hp]at hft
   (refine ldC h ?_;refine stC h ?_;clear h;(try clear w);intro w h;dsimp only[putN,setN]at h)
   rw[wr (by omega) (by omega)]at h
   refine hN _ w rfl ?_
   rw[hft];exact h
  ·have hp:¬isUp (L.filter (revP rev))[m].1=true:=fun e=>(of_decide_eq_true e) hc
   rw[if_neg hp]at hft
   refine hN _ w rfl ?_
   rw[hft];exact h
 ·rintro d G w rfl h
  have h:St w0 ([DfM d]::[Cl c1 z00 [.string rev]]::[Cl c0 z0P [.pointer (some ⟨b,0,none⟩)]]::flB b rA rW F::sA::[Cl b1 z0h [I ((((L.filter (revP rev)).take (L.filter (revP rev)).length).filter fun t=>isUp t.1).length:Nat)]]::sW::(L.map trS).flatten::delN E i) w:=h
  refine jumpN ?_
  (refine ldC h ?_)
  (first | refine um0_ h ?_ | refine um1_ h ?_ | refine um2_ h ?_ | refine um3_ h ?_ | refine um4_ h ?_ | refine um5_ h ?_ | refine um6_ h ?_ | refine um7_ h ?_ | refine um8_ h ?_ | refine um9_ h ?_ | refine z92 h ?_ | refine z91 h ?_);clear h;(try clear w);intro w h
  rw[List.take_length]
  have e:fCount F.l rev=((L.filter (revP rev)).filter fun t=>isUp t.1).length:=by
   unfold fCount;rw[hr.revs,List.filter_map,List.length_map];rfl
  refine⟨_,rfl,?_⟩
  rw[←e]
  refine hk w (St.setN_same' i hi (St.back i hi (s':=flB b rA rW F++(sA++(sW++(L.map trS).flatten))) ?_))
  have h:=dl0_ (dl1_ (dl4_ h))
  exact h.eq (by simp)
 ·rintro d j G w hf;exact hf.elim
def spStep(a:Int×Int×Int)(x:AHeld):Int×Int×Int:=
 if x.pod.st=3 then a else if x.pod.st<a.2.1∨(x.pod.st=a.2.1∧(x.pod.reqs.length:Int)≤a.2.2)then(x.id,x.pod.st,x.pod.reqs.length)else a
def fSpare(l:List AHeld)(rev:ByteArray):Int:=((revs l rev).foldl spStep (0,3,0)).1
theorem zpM(h:St w0 E w)(i:Nat){b:Nat}{F:AFleet}{s:Seg}(hi:nth E i=some s)(hf:FlS b F s){rev:ByteArray}{k:Int→PT}(hk:∀w',St w0 E w'→k (fSpare F.l rev) w') :
  L.call Pr z5A [.pointer (some ⟨b,0,none⟩),.string rev] (.one (.one (.int .i64))) k w:=by
 obtain⟨ok,rA,rW,mA,mW,sA,sW,L,hA,hW,hr,rfl⟩:=hf
 refine z01 (zcb _ _) ?_
 unfold z87
 have hll:L.length=F.l.length:=by rw[hr.l];simp
 have hfew:=ok.few
 have h:St w0 (flB b rA rW F::sA::sW::(L.map trS).flatten::delN E i) w:=(h.front i hi).eq (by simp)
 refine nw h ?_;clear h;(try clear w);intro b1 w h
 refine nw h ?_;clear h;(try clear w);intro b2 w h
 refine nw h ?_;clear h;(try clear w);intro b3 w h
 (refine stC h ?_;clear h;(try clear w);intro w h;dsimp only[putN,setN]at h;refine stC h ?_;clear h;(try clear w);intro w h;dsimp only[putN,setN]at h;refine stC h ?_;clear h;(try clear w);intro w h;dsimp only[putN,setN]at h)
 refine S_of h fun c0 c1 w h=>?_
 have h:=fr3_ (fr3_ (fr6_ (fr6_ h)))
 refine z5j (A:=[_,_,_,_]) (Y_of ok hA hr) h (fun m G=>∃a:Int×Int×Int,a=(((L.filter (revP rev)).take m).map (·.1)).foldl spStep (0,3,0)∧G = [Cl b3 z0h [I a.2.2]]::[Cl b2 z0h [I a.2.1]]::[Cl b1 z0h [I a.1]]::sW::(L.map trS).flatten::delN E i) (fun j G=>False) ⟨_,rfl,rfl⟩ ?_ ?_ ?_
 ·rintro m G X w lv lp d R hm ⟨⟨a1,a2,a3⟩,ha,rfl⟩ h hN hE
  have hx:=List.getElem?_eq_getElem hm
  have hft:spStep (a1,a2,a3) (L.filter (revP rev))[m].1=(((L.filter (revP rev)).take (m+1)).map (·.1)).foldl spStep (0,3,0):=by
   rw[List.take_add_one,hx,List.map_append,List.foldl_append,←ha];rfl
  have h:St w0 ([Rec lv lp .busy none]::[DfM d]::[Cl c1 z00 [.string rev]]::[Cl c0 z0P [.pointer (some ⟨b,0,none⟩)]]::flB b rA rW F::sA::[Cl b3 z0h [I a3]]::[Cl b2 z0h [I a2]]::[Cl b1 z0h [I a1]]::sW::(L.map trS).flatten::(delN E i++X)) w:=h
  rw[zhK hm]
  (try dsimp only)
  have hmem:=ziV hm
  have hps:=hr.ps _ hmem
  refine z8F h 10 rfl hmem hps ?_
  refine it (fun hc=>?_) (fun hc=>?_)<;>(try simp only[zB]at hc)
  ·simp only[spStep]at hft
   rw[if_pos hc]at hft
   exact hN _ w ⟨_,hft,rfl⟩ h
  simp only[spStep]at hft
  rw[if_neg hc]at hft
  (refine dr h ?_;clear h;(try clear w);intro w h;refine ldC h ?_)
  refine z8F h 10 rfl hmem hps ?_
  (refine ckC h ?_)
  refine it (fun hd=>?_) (fun hd=>?_)<;>(try simp only[zB]at hd)
  ·rw[if_pos (.inl hd)]at hft
   refine z8F h 10 rfl hmem hps ?_
   refine zfP h 10 rfl hmem hps ?_
   (refine stC h ?_;clear h;(try clear w);intro w h;dsimp only[putN,setN]at h;refine stC h ?_;clear h;(try clear w);intro w h;dsimp only[putN,setN]at h;refine stC h ?_;clear h;(try clear w);intro w h;dsimp only[putN,setN]at h)
   exact hN _ w ⟨_,hft,rfl⟩ h
  (refine ldC h ?_)
  refine z8F h 10 rfl hmem hps ?_
  (refine ckC h ?_)
  refine it (fun he=>?_) (fun he=>?_)<;>(try simp only[zB]at he)
  ·(refine ldC h ?_)
   refine zfP h 10 rfl hmem hps ?_
   (refine ckC h ?_)
   refine it (fun hg=>?_) (fun hg=>?_)<;>(try simp only[zB]at hg)
   ·rw[if_pos (.inr ⟨he,hg⟩)]at hft
    refine z8F h 10 rfl hmem hps ?_
    refine zfP h 10 rfl hmem hps ?_
    (refine stC h ?_;clear h;(try clear w);intro w h;dsimp only[putN,setN]at h;refine stC h ?_;clear h;(try clear w);intro w h;dsimp only[putN,setN]at h;refine stC h ?_;clear h;(try clear w);intro w h;dsimp only[putN,setN]at h)
    exact hN _ w ⟨_,hft,rfl⟩ h
   ·rw[if_neg (fun hh=>hh.elim hd fun hh=>hg hh.2)]at hft
    exact hN _ w ⟨_,hft,rfl⟩ h
  ·rw[if_neg (fun hh=>hh.elim hd fun hh=>he hh.1)]at hft
   exact hN _ w ⟨_,hft,rfl⟩ h
 ·rintro d G w ⟨a,ha,rfl⟩ h
  have h:St w0 ([DfM d]::[Cl c1 z00 [.string rev]]::[Cl c0 z0P [.pointer (some ⟨b,0,none⟩)]]::flB b rA rW F::sA::[Cl b3 z0h [I a.2.2]]::[Cl b2 z0h [I a.2.1]]::[Cl b1 z0h [I a.1]]::sW::(L.map trS).flatten::delN E i) w:=h
  refine jumpN ?_
  (refine ldC h ?_)
  (first | refine um0_ h ?_ | refine um1_ h ?_ | refine um2_ h ?_ | refine um3_ h ?_ | refine um4_ h ?_ | refine um5_ h ?_ | refine um6_ h ?_ | refine um7_ h ?_ | refine um8_ h ?_ | refine um9_ h ?_ | refine z92 h ?_ | refine z91 h ?_);clear h;(try clear w);intro w h
  rw[List.take_length]at ha
  have e:fSpare F.l rev=a.1:=by unfold fSpare;rw[hr.revs,ha]
  refine⟨_,rfl,?_⟩
  rw[←e]
  refine hk w (St.setN_same' i hi (St.back i hi (s':=flB b rA rW F++(sA++(sW++(L.map trS).flatten))) ?_))
  have h:=dl0_ (dl1_ (dl4_ (dl5_ (dl6_ h))))
  exact h.eq (by simp)
 ·rintro d j G w hf;exact hf.elim
def eK(x:Int×Int×Int):List Value:=[I x.1,I x.2.1,I x.2.2]
theorem encK:Enc eK 3:=⟨fun _=>rfl,fun _=>rfl,by decide⟩
theorem elK:El Pr z1y z4G 3 24 (.agg #[I 0,I 0,I 0]):=zem (by kernel_rfl) (by kernel_rfl) rfl (by decide)
theorem zpU(h:St w0 E w){v:Sl}{l:List (Int×Int×Int)}(r:Rd w eK v l)(hn:l.length<1000000000)(h64:v.a=none→l = []){k:Sl→PT}
  (hk:∀(v':Sl) s' w',Rw eK z4G 3 v' l s'→St w0 (s'::E) w'→k v' w'):L.call Pr z1I [SlV v] (.one (.one .slice)) k w:=by
 refine z01 (z5s _) ?_
 unfold z2P
 exact z6a (K:=fun v w'=>∃x,v=RT.val (.one (.one .slice)) x∧k x w') encK elK h r (by omega) (by omega) h64 fun v' s' w' h1 h2 h3=>⟨v',rfl,hk v' s' w' h1 h3⟩
def look(x:AHeld):Int×Int×Int:=(x.id,x.pod.st,x.pod.reqs.length)
def fPods(l:List AHeld)(rev:ByteArray):List (Int×Int×Int):=(revs l rev).map look
theorem zrw(h:St w0 E w)(i:Nat){b:Nat}{F:AFleet}{s:Seg}(hi:nth E i=some s)(hf:FlS b F s){rev:ByteArray}{k:Sl→PT}(hk:∀v s' w',Rw eK z4G 3 v (fPods F.l rev) s'→St w0 (s'::E) w'→k v w') :
  L.call Pr z67 [.pointer (some ⟨b,0,none⟩),.string rev] (.one (.one .slice)) k w:=by
 obtain⟨ok,rA,rW,mA,mW,sA,sW,L,hA,hW,hr,rfl⟩:=hf
 refine z01 (zdg _ _) ?_
 unfold z8R
 have hll:L.length=F.l.length:=by rw[hr.l];simp
 have hfew:=ok.few
 have hlt:=List.length_filter_le (revP rev) L
 have h:St w0 (flB b rA rW F::sA::sW::(L.map trS).flatten::delN E i) w:=(h.front i hi).eq (by simp)
 refine nw h ?_;clear h;(try clear w);intro b1 w h
 refine S_of h fun c0 c1 w h=>?_
 have h:=fr3_ (fr3_ (fr4_ (fr4_ h)))
 have h:St w0 ([[Cl c1 z00 [.string rev]],[Cl c0 z0P [.pointer (some ⟨b,0,none⟩)]],flB b rA rW F,sA]++[Cl b1 z1y [SlV ⟨none,0,0⟩]]::[]::sW::(L.map trS).flatten::delN E i) w:=h.eq (by simp)
 refine z5j (A:=[_,_,_,_]) (Y_of ok hA hr) h (fun m G=>∃v sv,Rw eK z4G 3 v (((L.filter (revP rev)).take m).map fun t=>look t.1) sv∧G = [Cl b1 z1y [SlV v]]::sv::sW::(L.map trS).flatten::delN E i) (fun j G=>False) ⟨_,_,Rw.nil,rfl⟩ ?_ ?_ ?_
 ·rintro m G X w lv lp d R hm ⟨v,sv,hv,rfl⟩ h hN hE
  have hx:=List.getElem?_eq_getElem hm
  have h:St w0 ([Rec lv lp .busy none]::[DfM d]::[Cl c1 z00 [.string rev]]::[Cl c0 z0P [.pointer (some ⟨b,0,none⟩)]]::flB b rA rW F::sA::[Cl b1 z1y [SlV v]]::sv::sW::(L.map trS).flatten::(delN E i++X)) w:=h
  rw[zhK hm]
  (try dsimp only)
  have hmem:=ziV hm
  have hps:=hr.ps _ hmem
  (refine dr h ?_;clear h;(try clear w);intro w h;refine ldC h ?_)
  refine z8F h 9 rfl hmem hps ?_
  (refine ckC h ?_)
  refine zfP h 9 rfl hmem hps ?_
  (refine ckC h ?_)
  refine nw h ?_;clear h;(try clear w);intro b11 w h
  (refine ckC h ?_)
  refine Rw.app encK elK h 7 rfl hv (look (L.filter (revP rev))[m].1) rfl (by simp;omega) (by simp;omega) fun v' s' w hv h=>?_
  (dsimp only[setN,List.cons_append,List.nil_append]at h;refine stC h ?_;clear h;(try clear w);intro w h;dsimp only[putN,setN]at h)
  refine hN _ w ⟨v',s',?_,rfl⟩ h
  rw[List.take_add_one,hx,List.map_append];exact hv
 ·rintro d G w ⟨v,sv,hv,rfl⟩ h
  have h:St w0 ([DfM d]::[Cl c1 z00 [.string rev]]::[Cl c0 z0P [.pointer (some ⟨b,0,none⟩)]]::flB b rA rW F::sA::[Cl b1 z1y [SlV v]]::sv::sW::(L.map trS).flatten::delN E i) w:=h
  rw[List.take_length]at hv
  have e:fPods F.l rev=(L.filter (revP rev)).map fun t=>look t.1:=by unfold fPods;rw[hr.revs,List.map_map];rfl
  rw[←e]at hv
  have hle:(fPods F.l rev).length≤L.length:=by rw[e,List.length_map];exact hlt
  refine jumpN ?_
  (refine ldC h ?_)
  refine zpU h (hv.rd encK h 6 rfl) (by omega) (Rw.nil_of encK hv) fun v' s' w hv' h=>?_
  (first | refine um0_ h ?_ | refine um1_ h ?_ | refine um2_ h ?_ | refine um3_ h ?_ | refine um4_ h ?_ | refine um5_ h ?_ | refine um6_ h ?_ | refine um7_ h ?_ | refine um8_ h ?_ | refine um9_ h ?_ | refine z92 h ?_ | refine z91 h ?_);clear h;(try clear w);intro w h
  refine⟨_,rfl,hk v' s' w hv' ?_⟩
  have h:=dl1_ (dl2_ (dl5_ (dl6_ h)))
  have h:=fr4_ (fr4_ (fr4_ (fr4_ h)))
  have h:=St.back (i+1) (E:=s'::E) hi (s':=flB b rA rW F++(sA++(sW++(L.map trS).flatten))) (h.eq (by simp[delN]))
  exact St.setN_same' (i+1) (E:=s'::E) hi h
 ·rintro d j G w hf;exact hf.elim
def fUpd(l:List AHeld)(id:Int)(g:APod→APod):List AHeld:=l.filterMap fun x=>if x.id=id then(if(g x.pod).st=4 then none else some { x with pod:=g x.pod })else some x
theorem zgS{l:List AHeld}{id:Int}{g:APod→APod}(h:∀y∈l,y.id≠id):fUpd l id g=l:=by
 unfold fUpd
 induction l with
 | nil=>rfl
 | cons y l ih=>
  rw[List.filterMap_cons,if_neg (h y (by simp))]
  simp only
  rw[ih fun z hz=>h z (by simp[hz])]
theorem zdI{A B:List AHeld}{x:AHeld}{g:APod→APod}(h:(A++x::B).Pairwise (fun x y=>x.id<y.id)):fUpd (A++x::B) x.id g=A++((if(g x.pod).st=4 then []else [{ x with pod:=g x.pod }])++B):=by
 rw[List.pairwise_append,List.pairwise_cons]at h
 have hA:fUpd A x.id g=A:=zgS fun y hy=>by have:=h.2.2 y hy x (by simp);omega
 have hB:fUpd B x.id g=B:=zgS fun y hy=>by have:=h.2.1.1 y hy;omega
 unfold fUpd at *
 rw[List.filterMap_append,hA,List.filterMap_cons,if_pos rfl]
 congr 1
 split<;>rename_i hc
 ·split at hc
  ·rename_i h4;rw[if_pos h4,hB];rfl
  ·cases hc
 ·split at hc
  ·cases hc
  ·rename_i h4;cases hc;rw[if_neg h4,hB];rfl
theorem z4V{l:List AHeld}{id:Int}{x:AHeld}(h:fFind l id=some x):x∈l∧x.id=id:=⟨List.mem_of_find?_eq_some h,by simpa using List.find?_some h⟩
theorem z8E{l:List AHeld}(pw:l.Pairwise (fun x y=>x.id<y.id)){x:AHeld}(hx:x∈l):fFind l x.id=some x:=by
 unfold fFind
 induction l with
 | nil=>simp at hx
 | cons y l ih=>
  rw[List.pairwise_cons]at pw
  rcases List.mem_cons.1 hx with rfl | hx
  ·simp
  ·have:=pw.1 x hx
   rw[List.find?_cons_of_neg (by simp;omega)]
   exact ih pw.2 hx
theorem z9H{l:List AHeld}{q:Int}(h:fWhere l q=none):∀x∈l,q∉x.pod.reqs:=fun x hx=>by simpa using List.find?_eq_none.1 h x hx
theorem AFleet.Ok.upd{F:AFleet}(ok:F.Ok){id:Int}{x:AHeld}(hx:fFind F.l id=some x)(g:APod→APod)(hst:(g x.pod).st=1∨(g x.pod).st=2∨(g x.pod).st=3∨(g x.pod).st=4)
  (hq:∀q∈(g x.pod).reqs,q∈x.pod.reqs∨fWhere F.l q=none):({ F with l:=fUpd F.l id g }:AFleet).Ok:=by
 obtain⟨hm,rfl⟩:=z4V hx
 obtain⟨A,B,hl⟩:=List.append_of_mem hm
 have pw:=ok.pw
 have rng:=ok.rng
 have live:=ok.live
 have once:=ok.once
 have few:=ok.few
 have hno:∀q,fWhere F.l q=none→∀y∈A++x::B,q∉y.pod.reqs:=fun q h=>by rw[hl]at h;exact z9H h
 rw[hl]at pw rng live once few
 have e:fUpd F.l x.id g=A++((if(g x.pod).st=4 then []else [{ x with pod:=g x.pod }])++B):=by rw[hl];exact zdI pw
 by_cases h4:(g x.pod).st=4
 ·rw[if_pos h4,List.nil_append]at e
  have hs:(A++B).Sublist (A++x::B):=List.Sublist.append (List.Sublist.refl _) (List.sublist_cons_self ..)
  refine⟨?_,?_,?_,?_,?_,ok.lo,ok.hi⟩
  ·rw[show({ F with l:=fUpd F.l x.id g }:AFleet).l=A++B from e];exact pw.sublist hs
  ·rw[show({ F with l:=fUpd F.l x.id g }:AFleet).l=A++B from e];exact fun y hy=>rng y (hs.subset hy)
  ·rw[show({ F with l:=fUpd F.l x.id g }:AFleet).l=A++B from e];exact fun y hy=>live y (hs.subset hy)
  ·rw[show({ F with l:=fUpd F.l x.id g }:AFleet).l=A++B from e];exact once.sublist hs
  ·rw[show({ F with l:=fUpd F.l x.id g }:AFleet).l=A++B from e];exact Nat.lt_of_le_of_lt hs.length_le few
 ·rw[if_neg h4,List.singleton_append]at e
  have e:({ F with l:=fUpd F.l x.id g }:AFleet).l=A++ { x with pod:=g x.pod } :: B:=e
  refine⟨?_,?_,?_,?_,?_,ok.lo,ok.hi⟩
  ·rw[e];rw[List.pairwise_append,List.pairwise_cons]at pw ⊢
   exact⟨pw.1,pw.2.1,fun a ha b hb=>by
    rcases List.mem_cons.1 hb with rfl | hb
    ·exact pw.2.2 a ha x (by simp)
    ·exact pw.2.2 a ha b (by simp[hb])⟩
  ·rw[e];intro y hy
   rcases List.mem_append.1 hy with hy | hy
   ·exact rng y (by simp[hy])
   ·rcases List.mem_cons.1 hy with rfl | hy
    ·exact rng x (by simp)
    ·exact rng y (by simp[hy])
  ·rw[e];intro y hy
   rcases List.mem_append.1 hy with hy | hy
   ·exact live y (by simp[hy])
   ·rcases List.mem_cons.1 hy with rfl | hy
    ·simp only;omega
    ·exact live y (by simp[hy])
  ·rw[e];rw[List.pairwise_append,List.pairwise_cons]at once ⊢
   refine⟨once.1,⟨fun b hb q hq1 hq2=>?_,once.2.1.2⟩,fun a ha b hb q hq1 hq2=>?_⟩
   ·rcases hq q hq1 with h | h
    ·exact once.2.1.1 b hb q h hq2
    ·exact hno q h b (by simp[hb]) hq2
   ·rcases List.mem_cons.1 hb with rfl | hb
    ·rcases hq q hq2 with h | h
     ·exact once.2.2 a ha x (by simp) q hq1 h
     ·exact hno q h a (by simp[ha]) hq1
    ·exact once.2.2 a ha b (by simp[hb]) q hq1 hq2
  ·rw[e];simp only[List.length_append,List.length_cons]at few ⊢;exact few
theorem zl5:∀{m:List (Int×(ByteArray×Option Addr))}{k:Int},(m.map (·.1)).Nodup→mdel m k=m.filter fun p=>decide (p.1≠k)
 | [],k,_=>rfl
 | p::m,k,h=>by
  rw[List.map_cons,List.nodup_cons]at h
  simp only[mdel]
  by_cases e:p.1=k
  ·rw[if_pos e,List.filter_cons_of_neg (by simp[e])]
   symm
   rw[List.filter_eq_self]
   intro y hy
   have:y.1≠k:=fun e2=>h.1 (by rw[e,←e2];exact List.mem_map_of_mem (f:=(·.1)) hy)
   simpa using this
  ·rw[if_neg e,List.filter_cons_of_pos (by simpa using e),zl5 h.2]
theorem FlR.upd{F:AFleet}{A B:List Tr}{t:Tr}{mA mW mW'}(hr:FlR F (A++t::B) mA mW)(ok:F.Ok)(g:APod→APod){s':Seg}(hp:PodS t.2.1 (g t.1.pod) s')(h4:(g t.1.pod).st≠4)
  (hW:∀q,mget mW' q=(fWhere (fUpd F.l t.1.id g) q).map (·.id)):FlR { F with l:=fUpd F.l t.1.id g } (A++({ t.1 with pod:=g t.1.pod },t.2.1,s')::B) mA mW':=by
 have pw:=ok.pw
 rw[hr.l,List.map_append,List.map_cons]at pw
 refine⟨?_,?_,?_,hW⟩
 ·show fUpd F.l t.1.id g=_
  rw[hr.l,List.map_append,List.map_cons,zdI pw,if_neg h4]
  simp
 ·intro y hy
  rcases List.mem_append.1 hy with hy | hy
  ·exact hr.ps y (by simp[hy])
  ·rcases List.mem_cons.1 hy with rfl | hy
   ·exact hp
   ·exact hr.ps y (by simp[hy])
 ·have:=hr.all
  simp only[List.map_append,List.map_cons]at this ⊢
  exact this
theorem FlR.del{F:AFleet}{A B:List Tr}{t:Tr}{mA mW mW'}(hr:FlR F (A++t::B) mA mW)(ok:F.Ok)(g:APod→APod)(h4:(g t.1.pod).st=4)
  (hW:∀q,mget mW' q=(fWhere (fUpd F.l t.1.id g) q).map (·.id)):FlR { F with l:=fUpd F.l t.1.id g } (A++B) (mdel mA t.1.id) mW':=by
 have pw:=ok.pw
 have ids:=hr.ids ok
 rw[hr.l,List.map_append,List.map_cons]at pw
 refine⟨?_,?_,?_,hW⟩
 ·show fUpd F.l t.1.id g=_
  rw[hr.l,List.map_append,List.map_cons,zdI pw,if_pos h4]
  simp
 ·intro y hy
  rcases List.mem_append.1 hy with hy | hy
  ·exact hr.ps y (by simp[hy])
  ·exact hr.ps y (by simp[hy])
 ·rw[zl5 (hr.nd ok)]
  refine(hr.all.filter _).trans ?_
  rw[List.pairwise_append,List.pairwise_cons]at ids
  rw[List.map_append,List.map_cons,List.filter_append,List.filter_cons_of_neg (by simp[ent]),List.map_append]
  have fa:∀{l:List Tr},(∀y∈l,y.1.id≠t.1.id)→(l.map ent).filter (fun p=>decide (p.1≠t.1.id))=l.map ent:=fun{l} h=>by
   rw[List.filter_eq_self]
   intro p hp
   obtain⟨y,hy,rfl⟩:=List.mem_map.1 hp
   exact decide_eq_true (h y hy)
  rw[fa (fun y hy=>by have:=ids.2.2 y hy t (by simp);omega),fa (fun y hy=>by have:=ids.2.1.1 y hy;omega)]
theorem zgR{l:List AHeld}(pw:l.Pairwise (fun x y=>x.id<y.id)){x:AHeld}(hx:x∈l){g:APod→APod}(hrq:(g x.pod).reqs=x.pod.reqs)(h4:(g x.pod).st=4→x.pod.reqs = [])(q:Int) :
  (fWhere (fUpd l x.id g) q).map (·.id)=(fWhere l q).map (·.id):=by
 obtain⟨A,B,rfl⟩:=List.append_of_mem hx
 rw[zdI pw]
 unfold fWhere
 simp only[List.find?_append]
 cases List.find? (fun x=>decide (q∈x.pod.reqs)) A with
 | some y=>rfl
 | none=>
  simp only[Option.none_or]
  by_cases h:(g x.pod).st=4
  ·rw[if_pos h,List.find?_nil,Option.none_or,List.find?_cons_of_neg (by simp[h4 h])]
  ·rw[if_neg h]
   by_cases hq:q∈x.pod.reqs
   ·rw[List.find?_cons_of_pos (by simp[hrq,hq]),List.find?_cons_of_pos (by simp[hq])];rfl
   ·rw[List.find?_cons_of_neg (by simp[hrq,hq]),List.find?_cons_of_neg (by simp[hq]),List.find?_nil,Option.none_or]
theorem zqh{b rA rW:Nat}{F:AFleet}{A B:List Tr}{t:Tr}{mA:List (Int×(ByteArray×Option Addr))}{sA sW:Seg}{D:List Seg}{rev:ByteArray}(h:St w0 (flB b rA rW F::sA::sW::((A++t::B).map trS).flatten::D) w)
  (hA:MpS KI vOne rA mA sA) (hg:mget mA t.1.id=some (rev,some ⟨t.2.1,0,none⟩)) (hp:PodS t.2.1 t.1.pod t.2.2) {k:Unit→PT} (hk1:t.1.pod.st≠4→k () w)
  (hk2:t.1.pod.st=4→∀sA' w',MpS KI vOne rA (mdel mA t.1.id) sA'→St w0 (flB b rA rW F::sA'::sW::((A++B).map trS).flatten::D) w'→k () w') :
  L.call Pr z4T [.pointer (some ⟨b,0,none⟩),I t.1.id] (.tup []) k w:=by
 refine z01 (zdP _ _) ?_
 unfold z9j
 (refine nn ?_;refine ldC h ?_)
 refine MpS.get mkI z4t zo (fun x:ByteArray×Option Addr=>(x.1,x.2,())) (fun _=>rfl) h 1 rfl hA ?_
 rw[hg]
 simp only[Option.map_some,Option.getD_some]
 refine z8F h 3 rfl (t:=t) (by simp) hp ?_
 refine it (fun hc=>?_) (fun hc=>?_)<;>(try simp only[zB]at hc)
 ·(refine nn ?_;refine ldC h ?_)
  refine MpS.del mkI z4t h 1 rfl hA fun sA' w hA' h=>⟨(),rfl,hk2 hc sA' w hA' ?_⟩
  have h:St w0 (flB b rA rW F::sA'::sW::((A++t::B).map trS).flatten::D) w:=h
  have h:=fr3_ h
  have h:=h.pick
  have h:=dl0_ h
  have h:=fr3_ (fr3_ (fr3_ h))
  exact h
 ·exact⟨(),rfl,hk1 hc⟩
theorem ztk(h:St w0 E w)(i:Nat){b:Nat}{F:AFleet}{s:Seg}(hi:nth E i=some s)(hf:FlS b F s){id:Int}{k:Int→PT}
  (hk0:fFind F.l id=none→∀w',St w0 E w'→k 6 w')
  (hk1:∀x,fFind F.l id=some x→∀s' w',FlS b { F with l:=fUpd F.l id fun p=>(podUp p).1 } s'→St w0 (setN E i s') w'→k (podUp x.pod).2 w') :
  L.call Pr z5w [.pointer (some ⟨b,0,none⟩),I id] (.one (.one (.int .i64))) k w:=by
 obtain⟨ok,rA,rW,mA,mW,sA,sW,L,hA,hW,hr,rfl⟩:=hf
 refine z01 (zeF _ _) ?_
 unfold za4
 have h:St w0 (flB b rA rW F::sA::sW::(L.map trS).flatten::delN E i) w:=(h.front i hi).eq (by simp)
 (refine nn ?_;refine ldC h ?_)
 refine MpS.get2 mkI z4t zo (fun x:ByteArray×Option Addr=>(x.1,x.2,())) (fun _=>rfl) h 1 rfl hA ?_
 cases hfd:fFind F.l id with
 | none=>
  rw[hr.get0 hfd]
  simp only[Option.map_none,Option.getD_none,Option.isSome_none]
  refine nw h ?_;clear h;(try clear w);intro b4 w h
  (refine stC h ?_;clear h;(try clear w);intro w h;dsimp only[putN,setN]at h)
  refine it (fun hc=>?_) (fun hc=>?_)<;>(try simp only[zB]at hc)
  ·refine⟨_,rfl,hk0 hfd w (St.setN_same' i hi (St.back i hi (s':=flB b rA rW F++(sA++(sW++(L.map trS).flatten))) ?_))⟩
   have h:=dl0_ h
   exact h.eq (by simp)
  ·cases hc
 | some x=>
  obtain⟨A,t,B,rfl,rfl,hid⟩:=hr.at hfd
  have hg:=hr.get ok (t:=t) (by simp)
  have hp:=hr.ps t (by simp)
  rw[hid]at hg
  rw[hg]
  simp only[Option.map_some,Option.getD_some,Option.isSome_some]
  refine nw h ?_;clear h;(try clear w);intro b4 w h
  (refine stC h ?_;clear h;(try clear w);intro w h;dsimp only[putN,setN]at h)
  refine it (fun hc=>?_) (fun hc=>?_)<;>(try simp only[zB]at hc)
  ·cases hc
  (refine ldC h ?_)
  have h:=dl0_ h
  have h:=fr3_ h
  have h:=h.pick
  refine zth h 0 rfl hp fun s' w hp' h=>⟨_,rfl,?_⟩
  have h:St w0 (trS ({ t.1 with pod:=(podUp t.1.pod).1 },t.2.1,s')::((A++B).map trS).flatten::flB b rA rW F::sA::sW::delN E i) w:=h
  have h:=h.place
  have hst:=ok.live t.1 (z4V hfd).1
  have h4:(podUp t.1.pod).1.st≠4:=by unfold podUp;split<;>simp<;>omega
  have hrq:(podUp t.1.pod).1.reqs=t.1.pod.reqs:=by unfold podUp;split<;>rfl
  refine hk1 _ hfd (flB b rA rW { F with l:=fUpd F.l id fun p=>(podUp p).1 } ++ (sA++(sW++((A++({ t.1 with pod:=(podUp t.1.pod).1 },t.2.1,s')::B).map trS).flatten))) w ⟨?_,rA,rW,mA,mW,sA,sW,_,hA,hW,?_,rfl⟩ (St.back i hi ?_)
  ·refine ok.upd hfd _ ?_ fun q hq=>.inl (by rw[←hrq];exact hq)
   unfold podUp;split<;>simp<;>omega
  ·subst hid
   refine hr.upd ok (fun p=>(podUp p).1) hp' h4 fun q=>?_
   rw[hr.wth]
   rw[zgR ok.pw (z4V hfd).1 hrq (fun e=>absurd e h4)]
  ·have h:=fr3_ (fr3_ (fr3_ h))
   exact h.eq (by simp)
def grow1(rev:ByteArray)(conc:Int)(F:AFleet):AFleet:={ F with l:=F.l++[⟨F.last+1,rev,⟨1,conc,[]⟩⟩],last:=F.last+1 }
def grow(rev:ByteArray)(conc:Int):Nat→AFleet→AFleet
 | 0,F=>F
 | n+1,F=>grow1 rev conc (grow rev conc n F)
def drain1(rev:ByteArray)(F:AFleet):AFleet:={ F with l:=fUpd F.l (fSpare F.l rev) fun p=>(podDrain p).1 }
def shrink(rev:ByteArray):Nat→AFleet→AFleet×List Int
 | 0,F=>(F,[])
 | n+1,F=>((shrink rev n (drain1 rev F)).1,fSpare F.l rev::(shrink rev n (drain1 rev F)).2)
def growN(F:AFleet)(rev:ByteArray)(want:Int):Nat:=(min (want-fCount F.l rev) (F.room-F.l.length)).toNat
def shrinkN(F:AFleet)(rev:ByteArray)(want:Int):Nat:=((fCount F.l rev:Int)-max want 0).toNat
def fGrown(F:AFleet)(rev:ByteArray)(conc want:Int):AFleet:=grow rev conc (growN F rev want) F
def fMade(F:AFleet)(rev:ByteArray)(want:Int):List Int:=(List.range (growN F rev want)).map fun j:Nat=>F.last+1+(j:Int)
def fScale(F:AFleet)(rev:ByteArray)(conc want:Int):AFleet×List Int:=shrink rev (shrinkN (fGrown F rev conc want) rev want) (fGrown F rev conc want)
section
variable {F:AFleet}{rev:ByteArray}{conc:Int}
theorem zcx(n:Nat):(grow rev conc n F).last=F.last+n:=by
 induction n with
 | zero=>simp[grow]
 | succ n ih=>simp only[grow,grow1,ih];omega
theorem zcv(n:Nat):(grow rev conc n F).room=F.room:=by
 induction n with
 | zero=>rfl
 | succ n ih=>simp only[grow,grow1,ih]
theorem zcw(n:Nat):(grow rev conc n F).l.length=F.l.length+n:=by
 induction n with
 | zero=>rfl
 | succ n ih=>simp only[grow,grow1,List.length_append,ih,List.length_singleton];omega
theorem zoJ(a b:List AHeld):revs (a++b) rev=revs a rev++revs b rev:=List.filter_append ..
theorem z9c(a b:List AHeld):fCount (a++b) rev=fCount a rev+fCount b rev:=by
 unfold fCount;rw[zoJ,List.filter_append,List.length_append]
theorem zcA(l:List AHeld):fCount l rev≤l.length:=Nat.le_trans (List.length_filter_le ..) (List.length_filter_le ..)
theorem zma(n:Nat):fCount (grow rev conc n F).l rev=fCount F.l rev+n:=by
 induction n with
 | zero=>rfl
 | succ n ih=>
  simp only[grow,grow1]
  rw[z9c,ih]
  have:fCount [(⟨(grow rev conc n F).last+1,rev,⟨1,conc,[]⟩⟩:AHeld)] rev=1:=by simp[fCount,revs,isUp]
  rw[this];rfl
theorem zlh(ok:F.Ok)(h1:F.l.length+1<100000000)(h2:F.last+1<4611686018427387904):(grow1 rev conc F).Ok:=by
 have lo:=ok.lo
 refine⟨?_,?_,?_,?_,?_,?_,h2⟩
 ·simp only[grow1,List.pairwise_append,List.pairwise_singleton,List.mem_singleton]
  exact⟨ok.pw,trivial,fun a ha b hb=>by subst hb;have:=(ok.rng a ha).2;simp only;omega⟩
 ·intro x hx
  simp only[grow1,List.mem_append,List.mem_singleton]at hx ⊢
  rcases hx with hx | rfl
  ·have:=ok.rng x hx;omega
  ·simp only;omega
 ·intro x hx
  simp only[grow1,List.mem_append,List.mem_singleton]at hx
  rcases hx with hx | rfl
  ·exact ok.live x hx
  ·simp
 ·simp only[grow1,List.pairwise_append,List.pairwise_singleton,List.mem_singleton]
  exact⟨ok.once,trivial,fun a ha b hb q hq1 hq2=>by subst hb;simp at hq2⟩
 ·simp only[grow1,List.length_append,List.length_singleton];exact h1
 ·simp only[grow1];omega
theorem zmc(l:List AHeld)(x:AHeld)(hx:x.pod.reqs = [])(q:Int):fWhere (l++[x]) q=fWhere l q:=by
 unfold fWhere
 rw[List.find?_append,List.find?_cons_of_neg (by simp[hx])]
 simp
def SpOk(l:List AHeld)(a:Int×Int×Int):Prop:=(a=(0,3,0)∧∀y∈l,isUp y=false)∨∃x∈l,a=(x.id,x.pod.st,(x.pod.reqs.length:Int))∧isUp x=true
theorem SpOk.step{l:List AHeld}{a:Int×Int×Int}{x:AHeld}(h:SpOk l a)(hx:x.pod.st=1∨x.pod.st=2∨x.pod.st=3):SpOk (l++[x]) (spStep a x):=by
 unfold spStep
 by_cases h3:x.pod.st=3
 ·rw[if_pos h3]
  rcases h with ⟨rfl,h⟩ | ⟨y,hy,h⟩
  ·refine .inl ⟨rfl,fun y hy=>?_⟩
   rcases List.mem_append.1 hy with hy | hy
   ·exact h y hy
   ·simp at hy;subst hy;simp[isUp,h3]
  ·exact .inr ⟨y,by simp[hy],h⟩
 ·rw[if_neg h3]
  have hup:isUp x=true:=by simp[isUp,h3]
  by_cases hc:x.pod.st<a.2.1∨(x.pod.st=a.2.1∧(x.pod.reqs.length:Int)≤a.2.2)
  ·rw[if_pos hc];exact .inr ⟨x,by simp,rfl,hup⟩
  ·rw[if_neg hc]
   rcases h with ⟨rfl,h⟩ | ⟨y,hy,h⟩
   ·exact absurd (.inl (by simp only;omega)) hc
   ·exact .inr ⟨y,by simp[hy],h⟩
theorem SpOk.all:∀{l2 l1:List AHeld}{a:Int×Int×Int},SpOk l1 a→(∀x∈l2,x.pod.st=1∨x.pod.st=2∨x.pod.st=3)→SpOk (l1++l2) (l2.foldl spStep a)
 | [],l1,a,h,_=>by simpa using h
 | x::l2,l1,a,h,hx=>by
  have:=SpOk.all (l2:=l2) (h.step (hx x (by simp))) (fun y hy=>hx y (by simp[hy]))
  simpa using this
theorem zcn(ok:F.Ok)(hc:0<fCount F.l rev):∃x,fFind F.l (fSpare F.l rev)=some x∧x.rev=rev∧(x.pod.st=1∨x.pod.st=2):=by
 have hr:∀x∈revs F.l rev,x∈F.l∧x.rev=rev:=fun x hx=>⟨(List.mem_filter.1 hx).1,of_decide_eq_true (List.mem_filter.1 hx).2⟩
 have h:=SpOk.all (l1:=[]) (a:=(0,3,0)) (l2:=revs F.l rev) (.inl ⟨rfl,by simp⟩) fun x hx=>ok.live x (hr x hx).1
 rw[List.nil_append]at h
 rcases h with ⟨-,h⟩ | ⟨x,hx,ha,hup⟩
 ·exfalso
  unfold fCount at hc
  rw[List.filter_eq_nil_iff.2 (fun y hy=>by simp[h y hy])]at hc
  simp at hc
 ·refine⟨x,?_,(hr x hx).2,?_⟩
  ·unfold fSpare;rw[ha];exact z8E ok.pw (hr x hx).1
  ·have:=ok.live x (hr x hx).1
   have:x.pod.st≠3:=of_decide_eq_true hup
   omega
theorem zf2{p:APod}(h:p.st=1∨p.st=2):(podDrain p).1 = { p with st:=if p.reqs = []then 4 else 3 }:=by
 unfold podDrain;rw[if_neg (by omega)]
theorem zje(ok:F.Ok)(hc:0<fCount F.l rev):(drain1 rev F).Ok:=by
 obtain⟨x,hx,-,hst⟩:=zcn ok hc
 refine ok.upd hx _ ?_ ?_
 ·rw[zf2 hst];simp only;split<;>simp
 ·rw[zf2 hst];exact fun q hq=>.inl hq
theorem ze2(ok:F.Ok)(hc:0<fCount F.l rev):fCount (drain1 rev F).l rev+1=fCount F.l rev:=by
 obtain⟨x,hx,hrev,hst⟩:=zcn ok hc
 obtain⟨hm,hid⟩:=z4V hx
 obtain⟨A,B,hl⟩:=List.append_of_mem hm
 have pw:=ok.pw
 show fCount (fUpd F.l (fSpare F.l rev) fun p=>(podDrain p).1) rev+1=_
 rw[←hid]
 rw[hl]at pw ⊢
 rw[zdI pw,z9c,z9c,z9c,show x::B = [x]++B from rfl,z9c,zf2 hst]
 have h1:fCount [x] rev=1:=by
  have:x.pod.st≠3:=by omega
  simp[fCount,revs,isUp,hrev,this]
 have h2:fCount (if(if x.pod.reqs = []then(4:Int)else 3)=4 then []else [({ x with pod:={ x.pod with st:=if x.pod.reqs = []then 4 else 3 } }:AHeld)]) rev=0:=by
  by_cases hq:x.pod.reqs = []
  ·simp[hq,fCount,revs]
  ·simp[hq,fCount,revs,hrev,isUp]
 simp only at h2 ⊢
 rw[h1,h2];omega
end
theorem zpN(h:St w0 E w)(i:Nat){b:Nat}{F:AFleet}{s:Seg}(hi:nth E i=some s)(hf:FlS b F s){rev:ByteArray}{conc want:Int}(hroom:F.room<100000000)(hlast:F.last+F.room<4611686018427387904){k:Sl×Sl×Unit→PT}
  (hk:∀v1 v2 s' s1 s2 w',FlS b (fScale F rev conc want).1 s'→Rw eI z0h 1 v1 (fMade F rev want) s1→Rw eI z0h 1 v2 (fScale F rev conc want).2 s2→St w0 (s2::s1::setN E i s') w'→k (v1,v2,()) w') :
  L.call Pr z5B [.pointer (some ⟨b,0,none⟩),.string rev,I conc,I want] (.tup [.one .slice,.one .slice]) k w:=by
 have hfew:=hf.1.few
 have hcl:=zcA F.l (rev:=rev)
 refine z01 (zcc _ _ _ _) ?_
 unfold z88
 refine ztj h i hi hf fun w h=>?_
 have h:=h.front i hi
 have hg:(growN F rev want:Int)=max 0 (min (want-fCount F.l rev) (F.room-F.l.length)):=by unfold growN;omega
 refine z1h (fun z w=>∃v sv s,z=(v,((fCount F.l rev+growN F rev want:Nat):Int),())∧FlS b (fGrown F rev conc want) s∧Rw eI z0h 1 v (fMade F rev want) sv∧St w0 (s::sv::delN E i) w) (fun k2 hk2=>?_) ?_
 ·refine z0u (fun q y w=>∃(j:Nat)(v:Sl)(sv s:Seg),y=(v,((fCount F.l rev+j:Nat):Int),())∧q+j=growN F rev want∧FlS b (grow rev conc j F) s∧Rw eI z0h 1 v ((List.range j).map fun j:Nat=>F.last+1+(j:Int)) sv∧St w0 (s::sv::delN E i) w)
   (growN F rev want) ⟨0,⟨none,0,0⟩,[],s,rfl,rfl,hf,Rw.nil,h.eq (by simp)⟩ ?_
  clear hf
  clear h;(try clear w)
  rintro q y w ⟨j,v,sv,s,rfl,hq,hf,hv,h⟩ again hag
  (try dsimp only)
  have hf':=hf
  obtain⟨ok,rA,rW,mA,mW,sA,sW,L,hA,hW,hr,rfl⟩:=hf
  have hlj:=zcw (F:=F) (rev:=rev) (conc:=conc) j
  have hla:=zcx (F:=F) (rev:=rev) (conc:=conc) j
  have hro:=zcv (F:=F) (rev:=rev) (conc:=conc) j
  have lo:=ok.lo
  have h:St w0 (flB b rA rW (grow rev conc j F)::sA::sW::(L.map trS).flatten::sv::delN E i) w:=h.eq (by simp)
  have stop:∀{w},j=growN F rev want→St w0 (flB b rA rW (grow rev conc j F)::sA::sW::(L.map trS).flatten::sv::delN E i) w→k2 (v,((fCount F.l rev+j:Nat):Int),()) w:=by
   rintro w rfl h
   exact hk2 _ w ⟨v,sv,_,rfl,hf',hv,h.eq (by simp)⟩
  (refine dr h ?_;clear h;(try clear w);intro w h)
  refine it (fun hc=>?_) (fun hc=>?_)<;>(try simp only[zB]at hc)
  ·(refine nn ?_;refine ldC h ?_)
   refine MpS.len z4t h 1 rfl hA ?_
   rw[hr.len,hlj]
   (refine nn ?_;refine ldC h ?_)
   refine it (fun hd=>?_) (fun hd=>?_)<;>(try simp only[zB]at hd)
   ·(refine nn ?_;refine ldC h ?_;refine nn ?_;refine stC h ?_;clear h;(try clear w);intro w h;dsimp only[putN,setN]at h;refine dr h ?_;clear h;(try clear w);intro w h;refine nn ?_;refine ldC h ?_;refine nn ?_;refine ldC h ?_)
    refine zsz h fun b' s' w hp h=>?_
    rw[wr (by omega) (by omega)]at h
    rw[wr (by omega) (by omega)]
    (refine ckC h ?_;refine ckC h ?_)
    refine MpS.set mkI z4t h 2 rfl hA (rev,some ⟨b',0,none⟩) rfl fun sA' w hA' h=>?_
    (dsimp only[setN,List.cons_append,List.nil_append]at h;refine nn ?_;refine ldC h ?_)
    refine nw h ?_;clear h;(try clear w);intro b21 w h
    refine Rw.app encI elI h 5 rfl hv (F.last+1+(j:Int)) (by rw[hla,eI];congr 2;omega) (by simp;omega) (by simp;omega) fun v' sv' w hv' h=>?_
    have hg0:mget mA ((grow rev conc j F).last+1)=none:=hr.get0 (by
     unfold fFind
     rw[List.find?_eq_none]
     intro x hx
     have:=(ok.rng x hx).2
     simp;omega)
    refine hag (q-1) _ w (by omega) ⟨j+1,v',sv',flB b rA rW (grow rev conc (j+1) F)++(sA'++(sW++((L++[((⟨(grow rev conc j F).last+1,rev,⟨1,conc,[]⟩⟩:AHeld),b',s')]).map trS).flatten)),?_,by omega,⟨?_,rA,rW,_,mW,sA',sW,L++[((⟨(grow rev conc j F).last+1,rev,⟨1,conc,[]⟩⟩:AHeld),b',s')],hA',hW,⟨?_,?_,?_,?_⟩,rfl⟩,?_,?_⟩
    ·rw[wr (by omega) (by omega)];congr 2
    ·exact zlh ok (by omega) (by omega)
    ·simp only[grow,grow1,List.map_append,hr.l];rfl
    ·intro t ht
     rcases List.mem_append.1 ht with ht | ht
     ·exact hr.ps t ht
     ·simp only[List.mem_singleton]at ht;subst ht;exact hp
    ·rw[z4E hg0,List.map_append]
     exact hr.all.append_right _
    ·intro q
     rw[hr.wth]
     simp only[grow,grow1]
     rw[zmc _ _ rfl]
    ·rw[List.range_succ,List.map_append];exact hv'
    ·have h:=fr1_ (fr4_ h)
     have h:=St.addEnd (g:=trS) (t:=((⟨(grow rev conc j F).last+1,rev,⟨1,conc,[]⟩⟩:AHeld),b',s')) h
     have h:=fr4_ (fr4_ (fr4_ (fr1_ (fr4_ h))))
     exact h.eq (by simp[grow,grow1])
   ·exact stop (by omega) h
  ·exact stop (by omega) h
 ·rintro z w ⟨v,sv,s,rfl,hf,hv,h⟩
  (try dsimp only)
  have hlg:=zcw (F:=F) (rev:=rev) (conc:=conc) (growN F rev want)
  have hmade:(fMade F rev want).length=growN F rev want:=by simp[fMade]
  have hcg:=zma (F:=F) (rev:=rev) (conc:=conc) (growN F rev want)
  rw[←hcg]
  have hcle:=zcA (grow rev conc (growN F rev want) F).l (rev:=rev)
  refine z0u (fun q y w=>∃(F2:AFleet)(gone:List Int)(v2:Sl)(s2 s:Seg),y=(v2,((fCount F2.l rev:Nat):Int),())∧q=shrinkN F2 rev want∧gone.length+q=shrinkN (fGrown F rev conc want) rev want∧FlS b F2 s∧Rw eI z0h 1 v2 gone s2∧
   (shrink rev q F2).1=(fScale F rev conc want).1∧gone++(shrink rev q F2).2=(fScale F rev conc want).2∧St w0 (s::s2::sv::delN E i) w)
   (shrinkN (fGrown F rev conc want) rev want) ⟨fGrown F rev conc want,[],⟨none,0,0⟩,[],s,rfl,rfl,by simp,hf,Rw.nil,rfl,rfl,h.eq (by simp)⟩ ?_
  clear hf
  clear h;(try clear w)
  rintro q y w ⟨F2,gone,v2,s2,s,rfl,hq,hgl,hf,hv2,hF,hG,h⟩ again hag
  (try dsimp only)
  have hcl2:=zcA F2.l (rev:=rev)
  have hq':(q:Int)=max 0 ((fCount F2.l rev:Int)-max want 0):=by rw[hq];unfold shrinkN;omega
  have hgn:(shrinkN (fGrown F rev conc want) rev want:Int)≤F.l.length+growN F rev want:=by unfold shrinkN fGrown;omega
  have hfew2:=hf.1.few
  refine it (fun hc=>?_) (fun hc=>?_)<;>(try simp only[zB]at hc)
  ·have hc0:max want 0<(fCount F2.l rev:Int):=by split at hc<;>omega
   obtain⟨q',rfl⟩:∃q',q=q'+1:=⟨q-1,by omega⟩
   refine zpM h 0 rfl hf fun w h=>?_
   obtain⟨x,hx,hrev,hst⟩:=zcn hf.1 (rev:=rev) (by omega)
   have okd:=zje hf.1 (rev:=rev) (by omega)
   have hcd:=ze2 hf.1 (rev:=rev) (by omega)
   obtain⟨ok,rA,rW,mA,mW,sA,sW,L,hA,hW,hr,rfl⟩:=hf
   obtain⟨A,t,B,rfl,rfl,hid⟩:=hr.at hx
   have h:St w0 (flB b rA rW F2::sA::sW::((A++t::B).map trS).flatten::s2::sv::delN E i) w:=h.eq (by simp)
   (refine nn ?_;refine ldC h ?_)
   refine MpS.get mkI z4t zo (fun x:ByteArray×Option Addr=>(x.1,x.2,())) (fun _=>rfl) h 1 rfl hA ?_
   have hg:=hr.get ok (t:=t) (by simp)
   have hp:=hr.ps t (by simp)
   rw[←hid,hg]
   simp only[Option.map_some,Option.getD_some]
   have h:=fr3_ h
   have h:=h.pick
   refine zpK h 0 rfl hp fun s' w hp' h=>?_
   have h:St w0 (trS ({ t.1 with pod:=(podDrain t.1.pod).1 },t.2.1,s')::((A++B).map trS).flatten::flB b rA rW F2::sA::sW::s2::sv::delN E i) w:=h
   have h:=h.place
   have h:=fr3_ (fr3_ (fr3_ h))
   have hdp:=zf2 hst
   have hrq:(podDrain t.1.pod).1.reqs=t.1.pod.reqs:=by rw[hdp]
   have h4:(podDrain t.1.pod).1.st=4→t.1.pod.reqs = []:=by
    rw[hdp];simp only;intro h;apply Classical.byContradiction;intro hne;simp[hne]at h
   have hwth:∀q,mget mW q=(fWhere (fUpd F2.l t.1.id fun p=>(podDrain p).1) q).map (·.id):=fun q=>by
    rw[hr.wth,zgR ok.pw (z4V hx).1 hrq h4]
   have fin:∀{s w},FlS b (drain1 rev F2) s→St w0 (s::s2::sv::delN E i) w→L.new [I t.1.id] z0h (fun b31=>
     L.sem Pr (.one (.one .slice)) (Builtin.append_ #[z1b,z1b] z1b #[.slice v2.a v2.len v2.cap,.slice (some ⟨b31,0,none⟩) 1 1]) fun(s32:Sl)=>
     again (⟨s32.a,s32.len,s32.cap⟩,IntKind.wrap .i64 ((fCount F2.l rev:Nat)-1),())) w:=by
    intro s w hf h
    refine nw h ?_;clear h;(try clear w);intro b31 w h
    refine Rw.app encI elI h 1 rfl hv2 t.1.id rfl (by omega) (by omega) fun v' s' w hv' h=>?_
    refine hag q' _ w (by omega) ⟨drain1 rev F2,gone++[t.1.id],v',s',s,?_,?_,?_,hf,hv',?_,?_,h⟩
    ·rw[wr (by omega) (by omega)];congr 2;omega
    ·unfold shrinkN;omega
    ·simp only[List.length_append,List.length_singleton];omega
    ·exact hF
    ·rw[List.append_assoc,hid];exact hG
   refine zqh (t:=({ t.1 with pod:=(podDrain t.1.pod).1 },t.2.1,s')) h hA hg hp' (fun h4'=>?_) fun h4' sA' w hA' h=>?_
   ·refine fin (s:=flB b rA rW F2++(sA++(sW++((A++({ t.1 with pod:=(podDrain t.1.pod).1 },t.2.1,s')::B).map trS).flatten))) ⟨okd,rA,rW,mA,mW,sA,sW,_,hA,hW,?_,rfl⟩ (h.eq (by simp))
    have:=hr.upd ok (fun p=>(podDrain p).1) hp' h4' hwth
    unfold drain1;rw[←hid];exact this
   ·refine fin (s:=flB b rA rW F2++(sA'++(sW++((A++B).map trS).flatten))) ⟨okd,rA,rW,_,mW,sA',sW,_,hA',hW,?_,rfl⟩ (h.eq (by simp))
    have:=hr.del ok (fun p=>(podDrain p).1) h4' hwth
    unfold drain1;rw[←hid];exact this
  ·have e0:q=0:=by split at hc<;>omega
   subst e0
   have e1:F2=(fScale F rev conc want).1:=hF
   have e2:gone=(fScale F rev conc want).2:=by rw[←hG];simp[shrink]
   refine zcG h (hv.rd encI h 2 rfl) (by omega) (Rw.nil_of encI hv) fun v1 s1 w hr1 _ h=>?_
   refine zcG h (hv2.rd encI h 2 rfl) (by omega) (Rw.nil_of encI hv2) fun v3 s3 w hr3 _ h=>?_
   refine⟨_,rfl,hk v1 v3 s s1 s3 w (by rw[←e1];exact hf) hr1 (by rw[←e2];exact hr3) ?_⟩
   have h:=dl3_ (dl4_ h)
   have h:=fr2_ (fr1_ (fr1_ h))
   exact St.back (i+2) (E:=s3::s1::E) hi h
end Go.Proofs.YtdcdhcgmeahfmaaGreatDoor
namespace Go.Proofs.YtdcdhcgmeahfmaaGreatDoor
open Go.Dm
attribute [local irreducible] L.load L.store L.chk L.new L.nonnil L.guard L.ite L.draw L.idx L.sem L.semR L.semU L.chkSem L.next L.call L.callV L.join L.alts L.loop L.begin L.endRound L.range
variable {w0 w:World}{E:List Seg}
def eC(p:Int×Int):List Value:=[I p.1,I p.2]
theorem encC:Enc eC 2:=⟨fun _=>rfl,fun _=>rfl,by decide⟩
theorem elC:El Pr z1a z06 2 16 (.agg #[I 0,I 0]):=zem (by kernel_rfl) (by kernel_rfl) rfl (by decide)
theorem Rw.stC{v:Sl}{l:List (Int×Int)}{s:Seg}{e:Nat}(h:St w0 E w)(k:Nat)(hi:nth E k=some s)(hr:Rw eC e 2 v l s){i:Nat}{a:Addr}(ha:ElA v 2 i a)(hx:i<l.length)(y:Int×Int){kk:PT}
  (hk:∀s' w',Rw eC e 2 v (l.set i y) s'→St w0 (setN E k s') w'→kk w'):L.store a [I y.1,I y.2] kk w:=by
 obtain⟨a0,hv,rfl⟩:=ha
 have hx0:l[i]? = some l[i]:=List.getElem?_eq_getElem hx
 generalize l[i]=x at hx0
 have e1:setN (fl eC l) (i*2+0) (I y.1)=fl eC (l.set i (y.1,x.2)):=zlk encC hx0 (by decide) rfl
 have e2:setN (fl eC (l.set i (y.1,x.2))) (i*2+1) (I y.2)=fl eC ((l.set i (y.1,x.2)).set i y):=zlk encC (x:=(y.1,x.2)) (by simp[hx]) (by decide) rfl
 rw[List.set_set]at e2
 have hset:setN (setN (fl eC l) (i*2+0) (I y.1)) (i*2+1) (I y.2)=fl eC (l.set i y):=by rw[e1,e2]
 have hlt:i*2+1<(fl eC l).length:=by rw[z7h encC];omega
 unfold Rw at hr hk
 rw[←hset]at hk
 have hlen2:(setN (setN (fl eC l) (i*2+0) (I y.1)) (i*2+1) (I y.2)).length=(fl eC l).length:=by rw[z2p,z2p];simp
 have hlen1:(setN (fl eC l) (i*2+0) (I y.1)).length=(fl eC l).length:=by rw[z2p];simp
 generalize fl eC l=xs at *
 cases hr with
 | nil=>cases hv
 | mk g n cap pre xs spare post h1 h2 h3 h4=>
  cases hv
  rw[z3m]
  have hn:∀j,j≤1→∃c,nth (pre++(xs++(spare++post))) (pre.length+(i*2+j))=some c:=fun j hj=>by
   rw[z3I,z6t (by omega),z0g]
   exact⟨_,List.getElem?_eq_getElem (by omega)⟩
  refine stx [I y.1,I y.2] h k hi ?_ rfl fun w' h=>hk _ w' (Row.mk g n cap pre _ spare post (by rw[hlen2];exact h1) (by rw[hlen2];exact h2) h3 h4) ?_
  ·obtain⟨c0,hc0⟩:=hn 0 (by omega)
   obtain⟨c1,hc1⟩:=hn 1 (by omega)
   simp only[Nat.add_zero]at hc0
   simp[hasN,hc0,hc1,Nat.add_assoc]
  ·simp only[putN]at h
   have q1:setN (xs++(spare++post)) (i*2+0) (I y.1)=setN xs (i*2+0) (I y.1)++(spare++post):=z7L (by omega)
   have q2:setN (setN xs (i*2+0) (I y.1)++(spare++post)) (i*2+1) (I y.2)=setN (setN xs (i*2+0) (I y.1)) (i*2+1) (I y.2)++(spare++post):=z7L (by omega)
   rw[show pre.length+i*2=pre.length+(i*2+0)from rfl,z6I,q1,show pre.length+(i*2+0)+1=pre.length+(i*2+1)by omega,z6I,q2]at h
   exact h
def insC(x:Int×Int):List (Int×Int)→List (Int×Int)
 | []=>[x]
 | y::l=>if x.1<y.1 then x::y::l else y::insC x l
def csort(l:List (Int×Int)):List (Int×Int):=l.foldl (fun a x=>insC x a) []
theorem z9b(x:Int×Int)(l:List (Int×Int)):(insC x l).Perm (x::l):=by
 induction l with
 | nil=>exact .refl _
 | cons y l ih=>
  simp only[insC]
  split
  ·exact .refl _
  ·exact(ih.cons y).trans (.swap ..)
theorem znD{x:Int×Int}:∀{l:List (Int×Int)},l.Pairwise (fun a b=>a.1≤b.1)→(insC x l).Pairwise (fun a b=>a.1≤b.1)
 | [],_=>by simp[insC]
 | y::l,h=>by
  rw[List.pairwise_cons]at h
  simp only[insC]
  split
  ·rename_i hy
   rw[List.pairwise_cons]
   refine⟨fun z hz=>?_,List.pairwise_cons.2 h⟩
   rcases List.mem_cons.1 hz with rfl | hz
   ·omega
   ·have:=h.1 z hz;omega
  ·rename_i hy
   rw[List.pairwise_cons]
   refine⟨fun z hz=>?_,znD h.2⟩
   rcases List.mem_cons.1 ((z9b x l).mem_iff.1 hz)with rfl | hz
   ·omega
   ·exact h.1 z hz
theorem zmg{l:List (Int×Int)}{i:Nat}{x:Int×Int}(h:l[i]? = some x):csort (l.take (i+1))=insC x (csort (l.take i)):=by
 unfold csort;rw[List.take_add_one,h,List.foldl_append];rfl
theorem z2K(l:List (Int×Int)):(csort l).length=l.length:=by
 suffices ∀(l a:List (Int×Int)),(l.foldl (fun a x=>insC x a) a).length=a.length+l.length by
  have:=this l [];simpa [csort]using this
 intro l
 induction l with
 | nil=>simp
 | cons x l ih=>intro a;rw[List.foldl_cons,ih,(z9b x a).length_eq];simp;omega
theorem zlr(l:List (Int×Int)):(csort l).Pairwise (fun a b=>a.1≤b.1):=by
 suffices ∀(l a:List (Int×Int)),a.Pairwise (fun a b=>a.1≤b.1)→(l.foldl (fun a x=>insC x a) a).Pairwise (fun a b=>a.1≤b.1)from this l [] .nil
 intro l
 induction l with
 | nil=>exact fun a h=>h
 | cons x l ih=>exact fun a h=>ih _ (znD h)
theorem znE{x:Int×Int}:∀{A B:List (Int×Int)},(∀y∈A,¬x.1<y.1)→(∀y∈B,x.1<y.1)→insC x (A++B)=A++x::B
 | [],[],_,_=>rfl
 | [],y::B,_,h=>by simp only[List.nil_append,insC];rw[if_pos (h y (by simp))]
 | y::A,B,h1,h2=>by
  simp only[List.cons_append,insC]
  rw[if_neg (h1 y (by simp)),znE (fun z hz=>h1 z (by simp[hz])) h2]
theorem z71{E:List Seg}{i:Nat}{s s':Seg}(hi:nth E i=some s):nth (setN E i s') i=some s':=by
 rw[z0g]at *
 rw[z2p,List.getElem?_set_self]
 exact(List.getElem?_eq_some_iff.1 hi).1
theorem z5V{E:List Seg}{i:Nat}{s s':Seg}:setN (setN E i s) i s'=setN E i s':=by
 rw[z2p,z2p,z2p,List.set_set]
abbrev cmpV:Value:=.func (.func z0y) #[] #[]
theorem zqi(h:St w0 E w){a b c d:Int}(h1: -4611686018427387904<a∧a<4611686018427387904)(h2: -4611686018427387904<c∧c<4611686018427387904){k:Int→PT}(hk:∀w',St w0 E w'→k (a-c) w') :
  L.callV Pr cmpV [.agg #[I a,I b],.agg #[I c,I d]] (.one (.one (.int .i64))) k w:=by
 refine z4W (fs:=#[]) (cs:=#[]) zbh (zbr (a,b,()) (c,d,())) ?_
 unfold z7o
 refine nw h ?_;clear h;(try clear w);intro b1 w h
 refine nw h ?_;clear h;(try clear w);intro b2 w h
 (dsimp only[setN,List.cons_append,List.nil_append]at h;refine ldC h ?_;refine ldC h ?_)
 refine⟨_,rfl,?_⟩
 (try dsimp only)
 rw[wr (by omega) (by omega)]
 exact hk w (dl0_ (dl0_ h))
theorem zsl{α:Type}{Q T:List α}{z x:α}:(Q++z::x::T)[Q.length]? = some z∧(Q++z::x::T)[Q.length+1]? = some x∧((Q++z::x::T).set (Q.length+1) z).set Q.length x=Q++x::z::T:=by
 refine⟨by simp,by simp,by simp[List.set_append]⟩
theorem zjr(h:St w0 E w)(i:Nat){s:Seg}(hi:nth E i=some s){v:Sl}{P M R:List (Int×Int)}(hr:Rw eC z06 2 v (P++(M++R)) s)(hn:(P++(M++R)).length<1000000000)
  (hb:∀x∈M,-4611686018427387904<x.1∧x.1<4611686018427387904) {a b:Int} (ha:a=P.length) (hbb:b=P.length+M.length) {k:Unit→PT} (hk:∀s' w',Rw eC z06 2 v (P++(csort M++R)) s'→St w0 (setN E i s') w'→k () w') :
  L.call Pr z0U [.slice v.a v.len v.cap,I a,I b,cmpV] (.tup []) k w:=by
 subst ha hbb
 refine z01 (z49 _ _ _ ⟨.func z0y,#[],#[]⟩) ?_
 unfold z2d
 have hlen:=Rw.len encC hr
 simp only[List.length_append]at hn hlen
 rw[wr (by omega) (by omega)]
 have hcb:∀m,∀x∈csort (M.take m),x∈M:=fun m x hx=>by
  have:(csort (M.take m)).Perm (M.take m):=by
   suffices ∀(l a:List (Int×Int)),(l.foldl (fun a x=>insC x a) a).Perm (a++l)from by simpa [csort]using this (M.take m) []
   intro l
   induction l with
   | nil=>intro a;simp
   | cons y l ih=>
    intro a
    refine(ih _).trans (((z9b y a).append_right l).trans ?_)
    exact(List.perm_middle (a:=y) (l₁:=a) (l₂:=l)).symm
  exact List.mem_of_mem_take (this.mem_iff.1 hx)
 have h1:csort (M.take 1)=M.take 1:=by cases M<;>rfl
 refine z0u (fun q y w=>∃(m:Nat)(s:Seg),y=(((P.length+m:Nat):Int),())∧1≤m∧q+m=max 1 M.length∧Rw eC z06 2 v (P++(csort (M.take m)++(M.drop m++R))) s∧St w0 (setN E i s) w) (max 1 M.length-1)
  ⟨1,s,rfl,by omega,by omega,by rw[h1,←List.append_assoc (M.take 1),List.take_append_drop];exact hr,by rwa [z2h hi]⟩ ?_
 clear hr
 clear h;(try clear w)
 rintro q y w ⟨m,s,rfl,hm,hq,hr,h⟩ again hag
 (try dsimp only)
 refine it (fun hc=>?_) (fun hc=>?_)<;>(try simp only[zB]at hc)
 ·have hm2:m<M.length:=by omega
  have hx:M[m]? = some M[m]:=List.getElem?_eq_getElem hm2
  have hxm:M[m]∈M:=List.getElem_mem hm2
  have hdrop:M.drop m=M[m]::M.drop (m+1):=List.drop_eq_getElem_cons hm2
  have hct:=zmg hx
  have hcl:=z2K (M.take m)
  rw[List.length_take,Nat.min_eq_left (by omega)]at hcl
  have hpw:=zlr (M.take m)
  generalize M[m]=x at *
  rw[hdrop]at hr
  have hnT:(M.drop (m+1)).length=M.length-(m+1):=List.length_drop ..
  refine z1h (fun z w=>∃s,Rw eC z06 2 v (P++(csort (M.take (m+1))++(M.drop (m+1)++R))) s∧St w0 (setN E i s) w) (fun k3 hk3=>?_) (fun z w ⟨s,hr,h⟩=>?_)
  ·refine z0u (fun q y w=>∃(A B:List (Int×Int))(s:Seg),y=(((P.length+A.length:Nat):Int),())∧q=A.length∧A++B=csort (M.take m)∧(∀y∈B,x.1<y.1)∧Rw eC z06 2 v ((P++A)++x::(B++(M.drop (m+1)++R))) s∧St w0 (setN E i s) w) m
    ⟨csort (M.take m),[],s,by rw[hcl],hcl.symm,by simp,by simp,by simpa [List.append_assoc]using hr,h⟩ ?_
   clear hr
   clear h;(try clear w)
   rintro q2 y w ⟨A,B,s,rfl,hq2,hAB,hB,hr,h⟩ again2 hag2
   (try dsimp only)
   have stop:∀{w},(∀y∈A,¬x.1<y.1)→St w0 (setN E i s) w→k3 () w:=by
    intro w hA h
    refine hk3 _ w ⟨s,?_,h⟩
    rw[hct,←hAB,znE hA hB]
    simpa [List.append_assoc]using hr
   have hsi:nth (setN E i s) i=some s:=z71 hi
   refine dr h fun w h=>?_
   refine it (fun hd=>?_) (fun hd=>?_)<;>(try simp only[zB]at hd)
   ·have hA0:A≠[]:=fun e=>by subst e;simp at hd
    obtain⟨A',z,rfl⟩:∃A' z,A=A'++[z]:=⟨A.dropLast,A.getLast hA0,(List.dropLast_concat_getLast hA0).symm⟩
    have eL:(P++(A'++[z]))++x::(B++(M.drop (m+1)++R))=(P++A')++z::x::(B++(M.drop (m+1)++R)):=by simp
    rw[eL]at hr
    obtain⟨g1,g2,g3⟩:=zsl (Q:=P++A') (z:=z) (x:=x) (T:=B++(M.drop (m+1)++R))
    have hlA:(P++A').length=P.length+A'.length:=List.length_append ..
    have hl2:=congrArg List.length hAB
    simp only[List.length_append,List.length_singleton,hcl]at hl2 hd hq2 ⊢
    have hzM:z∈M:=hcb m z (by rw[←hAB];simp)
    have ix1:((P.length+(A'.length+1):Nat):Int).toNat=(P++A').length+1:=by rw[Int.toNat_natCast];omega
    have ix0:(((P.length+(A'.length+1):Nat):Int)-1).toNat=(P++A').length:=by omega
    have lt1:(P++A').length+1<((P++A')++z::x::(B++(M.drop (m+1)++R))).length:=by simp only[List.length_append,List.length_cons];omega
    rw[wr (n:=((P.length+(A'.length+1):Nat):Int)-1) (by omega) (by omega)]
    refine Rw.ix encC hr (by omega) (by rw[ix1];exact lt1) fun a ha=>?_
    rw[ix1]at ha
    refine Rw.lda encC h i hsi hr ha g2 rfl ?_
    refine Rw.ix encC hr (by omega) (by rw[ix0];omega) fun a2 ha2=>?_
    rw[ix0]at ha2
    refine Rw.lda encC h i hsi hr ha2 g1 rfl ?_
    refine zqi h (hb x hxm) (hb z hzM) fun w h=>?_
    refine it (fun he=>?_) (fun he=>?_)<;>(try simp only[zB]at he)
    ·refine dr h fun w h=>?_
     refine Rw.ix encC hr (by omega) (by rw[ix0];omega) fun a3 ha3=>?_
     rw[ix0]at ha3
     refine Rw.lda encC h i hsi hr ha3 g1 rfl ?_
     refine Rw.ix encC hr (by omega) (by rw[ix1];exact lt1) fun a4 ha4=>?_
     rw[ix1]at ha4
     refine Rw.lda encC h i hsi hr ha4 g2 rfl ?_
     refine Rw.ix encC hr (by omega) (by rw[ix1];exact lt1) fun a5 ha5=>?_
     rw[ix1]at ha5
     refine Rw.stC h i hsi hr ha5 lt1 z fun s1 w hr1 h=>?_
     have hs1:nth (setN (setN E i s) i s1) i=some s1:=z71 hsi
     refine Rw.ix encC hr1 (by omega) (by rw[ix0,List.length_set];omega) fun a6 ha6=>?_
     rw[ix0]at ha6
     refine Rw.stC h i hs1 hr1 ha6 (by rw[List.length_set];omega) x fun s2 w hr2 h=>?_
     rw[g3]at hr2
     refine hag2 (q2-1) _ w (by omega) ⟨A',z::B,s2,?_,by omega,by simpa using hAB,?_,by simpa using hr2,?_⟩
     ·congr 1;omega
     ·intro y hy
      rcases List.mem_cons.1 hy with rfl | hy
      ·omega
      ·exact hB y hy
     ·rwa [z5V,z5V]at h
    ·refine stop (fun y hy=>?_) h
     rw[←hAB,List.pairwise_append]at hpw
     have hpw:=hpw.1
     rw[List.pairwise_append]at hpw
     rcases List.mem_append.1 hy with hy | hy
     ·have:=hpw.2.2 y hy z (by simp);omega
     ·simp at hy;subst hy;omega
   ·have:A = []:=List.eq_nil_of_length_eq_zero (by omega)
    subst this
    exact stop (by simp) h
  ·refine hag (q-1) _ w (by omega) ⟨m+1,s,?_,by omega,by omega,hr,h⟩
   rw[wr (by omega) (by omega)];congr 1
 ·have e:M.drop m = []:=List.drop_eq_nil_of_le (by omega)
  have e2:M.take m=M:=List.take_of_length_le (by omega)
  rw[e,e2,List.nil_append]at hr
  exact⟨(),rfl,hk s w hr h⟩
theorem half{a b:Int}(ha:0≤a)(hb:0≤b)(h:a+b<4611686018427387904):IntKind.wrap .i64 (Int.fdiv (IntKind.wrap .u64 (IntKind.wrap .i64 (a+b))) (2 ^ (min (Int.toNat 1) 64)))=(a+b)/2:=by
 rw[wr (n:=a+b) (by omega) (by omega)]
 have e:IntKind.wrap .u64 (a+b)=a+b:=by
  unfold IntKind.wrap
  have h1:(IntKind.u64.signed)=false:=rfl
  have h2:(2 ^ IntKind.u64.bits:Int)=18446744073709551616:=by decide
  rw[h1,h2]
  simp only[Bool.false_and,Bool.false_eq_true,if_false]
  omega
 rw[e]
 have e2:(2 ^ (min (Int.toNat 1) 64):Int)=2:=by decide
 rw[e2,Int.fdiv_eq_ediv_of_nonneg _ (by decide),wr (by omega) (by omega)]
theorem zmM{α:Type}{Q T U:List α}{x y:α}:(Q++x::(T++y::U))[Q.length]? = some x∧(Q++x::(T++y::U))[Q.length+(1+T.length)]? = some y∧
  ((Q++x::(T++y::U)).set Q.length y).set (Q.length+(1+T.length)) x=Q++y::(T++x::U)∧((Q++x::(T++y::U)).set (Q.length+(1+T.length)) x).set Q.length y=Q++y::(T++x::U):=by
 have e:(1+T.length)=T.length+1:=by omega
 rw[e]
 refine⟨by simp,?_,?_,?_⟩
 ·rw[List.getElem?_append_right (by omega)]
  simp
 ·simp[List.set_append]
 ·simp[List.set_append]
theorem zqZ{l:List (Int×Int)}(h:St w0 E w)(i:Nat){s:Seg}(hi:nth E i=some s){v:Sl}(hr:Rw eC z06 2 v l s){p q:Int}{x y:Int×Int}(p0:0≤p)(q0:0≤q)(hx:l[p.toNat]? = some x)(hy:l[q.toNat]? = some y){k:PT}
  (hk:∀s' w',Rw eC z06 2 v ((l.set p.toNat y).set q.toNat x) s'→St w0 (setN E i s') w'→k w') :
  (L.draw<| L.idx v.a q v.len 2 fun a3=>L.load (.agg [.int .i64,.int .i64]) a3 fun(x4:Int×Int×Unit)=>L.idx v.a p v.len 2 fun a5=>L.load (.agg [.int .i64,.int .i64]) a5 fun(x6:Int×Int×Unit)=>
   L.idx v.a p v.len 2 fun a7=>L.store a7 [.int .i64 x4.1,.int .i64 x4.2.1]<| L.idx v.a q v.len 2 fun a8=>L.store a8 [.int .i64 x6.1,.int .i64 x6.2.1] k) w:=by
 have hp:=(List.getElem?_eq_some_iff.1 hx).1
 have hq:=(List.getElem?_eq_some_iff.1 hy).1
 refine dr h fun w h=>?_
 refine Rw.ix encC hr q0 hq fun a ha=>?_
 refine Rw.lda encC h i hi hr ha hy (y:=(y.1,y.2,())) rfl ?_
 refine Rw.ix encC hr p0 hp fun a2 ha2=>?_
 refine Rw.lda encC h i hi hr ha2 hx (y:=(x.1,x.2,())) rfl ?_
 refine Rw.ix encC hr p0 hp fun a3 ha3=>?_
 refine Rw.stC h i hi hr ha3 hp y fun s1 w hr1 h=>?_
 refine Rw.ix encC hr1 q0 (by rw[List.length_set];exact hq) fun a6 ha6=>?_
 refine Rw.stC h i (z71 hi) hr1 ha6 (by rw[List.length_set];exact hq) x fun s2 w hr2 h=>?_
 rw[z5V]at h
 exact hk s2 w hr2 h
theorem zks(h:St w0 E w)(i:Nat){s:Seg}(hi:nth E i=some s){v:Sl}{P A M B R:List (Int×Int)}(hr:Rw eC z06 2 v (P++(A++(M++(B++R)))) s)(hn:(P++(A++(M++(B++R)))).length<1000000000)(hAB:A.length=B.length)
  {a b n:Int} (ha:a=P.length) (hb:b=P.length+(A.length+M.length)) (hnn:n=A.length) {k:Unit→PT} (hk:∀s' w',Rw eC z06 2 v (P++(B++(M++(A++R)))) s'→St w0 (setN E i s') w'→k () w') :
  L.call Pr z0N [.slice v.a v.len v.cap,I a,I b,I n,cmpV] (.tup []) k w:=by
 subst ha hb hnn
 refine z01 (z4Y _ _ _ _ ⟨.func z0y,#[],#[]⟩) ?_
 unfold z2F
 simp only[List.length_append]at hn
 refine z0u (fun q y w=>∃(j:Nat)(s:Seg),y=((j:Int),())∧q+j=A.length∧Rw eC z06 2 v (P++((B.take j++A.drop j)++(M++((A.take j++B.drop j)++R)))) s∧St w0 (setN E i s) w) A.length
  ⟨0,s,rfl,rfl,by simpa using hr,by rwa [z2h hi]⟩ ?_
 clear hr
 clear h;(try clear w)
 rintro q y w ⟨j,s,rfl,hq,hr,h⟩ again hag
 (try dsimp only)
 have hsi:nth (setN E i s) i=some s:=z71 hi
 refine it (fun hc=>?_) (fun hc=>?_)<;>(try simp only[zB]at hc)
 ·have hA:A.drop j=A[j]::A.drop (j+1):=List.drop_eq_getElem_cons (by omega)
  have hB:B.drop j=B[j]::B.drop (j+1):=List.drop_eq_getElem_cons (by omega)
  have tA:A.take (j+1)=A.take j++[A[j]]:=by rw[List.take_add_one,List.getElem?_eq_getElem (by omega)];rfl
  have tB:B.take (j+1)=B.take j++[B[j]]:=by rw[List.take_add_one,List.getElem?_eq_getElem (by omega)];rfl
  have lA:(A.take j).length=j:=by rw[List.length_take];omega
  have lB:(B.take j).length=j:=by rw[List.length_take];omega
  have dA:(A.drop (j+1)).length=A.length-(j+1):=List.length_drop ..
  generalize A[j]=x at *
  generalize B[j]=y at *
  have eD:P++((B.take j++A.drop j)++(M++((A.take j++B.drop j)++R)))=(P++B.take j)++x::((A.drop (j+1)++(M++A.take j))++y::(B.drop (j+1)++R)):=by rw[hA,hB];simp
  have eD2:(P++B.take j)++y::((A.drop (j+1)++(M++A.take j))++x::(B.drop (j+1)++R))=P++((B.take (j+1)++A.drop (j+1))++(M++((A.take (j+1)++B.drop (j+1))++R))):=by rw[tA,tB];simp
  rw[eD]at hr
  obtain⟨g1,g2,g3,-⟩:=zmM (Q:=P++B.take j) (T:=A.drop (j+1)++(M++A.take j)) (U:=B.drop (j+1)++R) (x:=x) (y:=y)
  rw[eD2]at g3
  have l1:(P++B.take j).length=P.length+j:=by rw[List.length_append,lB]
  have l2:(P++B.take j).length+(1+(A.drop (j+1)++(M++A.take j)).length)=P.length+(A.length+M.length)+j:=by rw[l1];simp only[List.length_append,dA,lA];omega
  rw[l2]at g2 g3
  rw[l1]at g1 g3
  rw[wr (n:=(P.length:Int)+(A.length+M.length)+j) (by omega) (by omega),wr (n:=(P.length:Int)+j) (by omega) (by omega)]
  have i1:((P.length:Int)+j).toNat=P.length+j:=by omega
  have i2:((P.length:Int)+(A.length+M.length)+j).toNat=P.length+(A.length+M.length)+j:=by omega
  refine zqZ h i hsi hr (p:=(P.length:Int)+j) (q:=(P.length:Int)+(A.length+M.length)+j) (by omega) (by omega) (by rw[i1];exact g1) (by rw[i2];exact g2) fun s' w hr h=>?_
  rw[i1,i2,g3]at hr
  rw[z5V]at h
  refine hag (q-1) _ w (by omega) ⟨j+1,s',?_,by omega,hr,h⟩
  rw[wr (by omega) (by omega)];rfl
 ·have e1:A.drop j = []:=List.drop_eq_nil_of_le (by omega)
  have e2:A.take j=A:=List.take_of_length_le (by omega)
  have e3:B.drop j = []:=List.drop_eq_nil_of_le (by omega)
  have e4:B.take j=B:=List.take_of_length_le (by omega)
  rw[e1,e2,e3,e4,List.append_nil,List.append_nil]at hr
  exact⟨(),rfl,hk s w hr h⟩
theorem zsv(h:St w0 E w)(i:Nat){s:Seg}(hi:nth E i=some s){v:Sl}{P A B R:List (Int×Int)}(hr:Rw eC z06 2 v (P++(A++(B++R))) s)(hn:(P++(A++(B++R))).length<1000000000)(hA:A≠[])(hB:B≠[])
  {a m b:Int} (ha:a=P.length) (hm:m=P.length+A.length) (hb:b=P.length+(A.length+B.length)) {k:Unit→PT} (hk:∀s' w',Rw eC z06 2 v (P++(B++(A++R))) s'→St w0 (setN E i s') w'→k () w') :
  L.call Pr z1L [.slice v.a v.len v.cap,I a,I m,I b,cmpV] (.tup []) k w:=by
 subst ha hm hb
 refine z01 (z5G _ _ _ _ ⟨.func z0y,#[],#[]⟩) ?_
 unfold z2Y
 simp only[List.length_append]at hn
 rw[wr (n:=(P.length:Int)+A.length-P.length) (by omega) (by omega),wr (n:=(P.length:Int)+(A.length+B.length)-(P.length+A.length)) (by omega) (by omega)]
 have hA1:=List.length_pos_iff.2 hA
 have hB1:=List.length_pos_iff.2 hB
 refine z0u (fun q y w=>∃(X A' B' Y:List (Int×Int))(s:Seg),y=((A'.length:Int),(B'.length:Int),())∧q=A'.length+B'.length∧0<A'.length∧0<B'.length∧X.length+A'.length=A.length∧Y.length+B'.length=B.length∧X++(B'++(A'++Y))=B++A∧
  Rw eC z06 2 v (P++(X++(A'++(B'++(Y++R))))) s∧St w0 (setN E i s) w) (A.length+B.length)
  ⟨[],A,B,[],s,by simp;omega,rfl,hA1,hB1,by simp,by simp,by simp,by simpa using hr,by rwa [z2h hi]⟩ ?_
 clear hr
 clear h;(try clear w)
 rintro q y w ⟨X,A',B',Y,s,rfl,hq,hA',hB',hX,hY,hXY,hr,h⟩ again hag
 (try dsimp only)
 have hsi:nth (setN E i s) i=some s:=z71 hi
 have hnn:(P++(X++(A'++(B'++(Y++R))))).length<1000000000:=by simp only[List.length_append];omega
 refine it (fun hc=>?_) (fun hc=>?_)<;>(try simp only[zB]at hc)
 ·refine it (fun hd=>?_) (fun hd=>?_)<;>(try simp only[zB]at hd)
  ·obtain⟨A1,A2,rfl,l1⟩:∃A1 A2,A'=A1++A2∧A1.length=B'.length:=⟨A'.take B'.length,A'.drop B'.length,(List.take_append_drop ..).symm,by rw[List.length_take];omega⟩
   simp only[List.length_append]at hX hq hd hA' hnn ⊢
   rw[wr (n:=(P.length:Int)+A.length-((A1.length+A2.length:Nat):Int)) (by omega) (by omega)]
   refine zks (P:=P++X) (A:=A1) (M:=A2) (B:=B') (R:=Y++R) h i hsi (by simpa using hr) (by simp only[List.length_append];omega) l1 (by rw[List.length_append];omega) (by rw[List.length_append];omega) (by omega) fun s' w hr h=>?_
   rw[z5V]at h
   rw[wr (by omega) (by omega)]
   refine hag (A2.length+A1.length) _ w (by omega) ⟨X++B',A2,A1,Y,s',?_,rfl,by omega,by omega,by rw[List.length_append];omega,by omega,by rw[←hXY];simp,by simpa using hr,h⟩
   rw[l1]
   congr 1
   omega
  ·obtain⟨B1,B2,rfl,l1⟩:∃B1 B2,B'=B1++B2∧B2.length=A'.length:=⟨B'.take (B'.length-A'.length),B'.drop (B'.length-A'.length),(List.take_append_drop ..).symm,by rw[List.length_drop];omega⟩
   simp only[List.length_append]at hY hq hd hB' hnn hc ⊢
   rw[wr (n:=(P.length:Int)+A.length-(A'.length:Int)) (by omega) (by omega),wr (n:=(P.length:Int)+A.length+((B1.length+B2.length:Nat):Int)) (by omega) (by omega),wr (n:=(P.length:Int)+A.length+((B1.length+B2.length:Nat):Int)-(A'.length:Int)) (by omega) (by omega)]
   refine zks (P:=P++X) (A:=A') (M:=B1) (B:=B2) (R:=Y++R) h i hsi (by simpa using hr) (by simp only[List.length_append];omega) l1.symm (by rw[List.length_append];omega) (by rw[List.length_append];omega) (by omega) fun s' w hr h=>?_
   rw[z5V]at h
   rw[wr (by omega) (by omega)]
   refine hag (B2.length+B1.length) _ w (by omega) ⟨X,B2,B1,A'++Y,s',?_,rfl,by omega,by omega,by omega,by rw[List.length_append];omega,by rw[←hXY];simp,by simpa using hr,h⟩
   rw[←l1]
   congr 2
   omega
 ·rw[wr (n:=(P.length:Int)+A.length-(A'.length:Int)) (by omega) (by omega)]
  refine zks (P:=P++X) (A:=A') (M:=[]) (B:=B') (R:=Y++R) h i hsi (by simpa using hr) (by simp only[List.length_append,List.length_nil];omega) (by omega) (by rw[List.length_append];omega) (by rw[List.length_append,List.length_nil];omega) rfl fun s' w hr h=>?_
  rw[z5V]at h
  refine⟨(),rfl,hk s' w ?_ h⟩
  have e:P++(B++(A++R))=(P++X)++(B'++([]++(A'++(Y++R)))):=by
   have:=congrArg (fun z=>P++(z++R)) hXY
   simpa using this.symm
  rw[e];exact hr
def lexlt(x y:Int×Int):Prop:=x.1<y.1∨(x.1=y.1∧x.2<y.2)
abbrev Ls(l:List (Int×Int)):Prop:=l.Pairwise lexlt
theorem zlf{x:Int×Int}:∀{l:List (Int×Int)},Ls l→(∀y∈l,y.2<x.2)→Ls (insC x l)
 | [],_,_=>by simp[insC]
 | y::l,h,hx=>by
  have h:=List.pairwise_cons.1 h
  simp only[insC]
  split
  ·rename_i hy
   refine List.pairwise_cons.2 ⟨fun z hz=>?_,List.pairwise_cons.2 h⟩
   rcases List.mem_cons.1 hz with rfl | hz
   ·exact .inl hy
   ·rcases h.1 z hz with h | h
    ·exact .inl (by omega)
    ·exact .inl (by omega)
  ·rename_i hy
   refine List.pairwise_cons.2 ⟨fun z hz=>?_,zlf h.2 fun z hz=>hx z (by simp[hz])⟩
   rcases List.mem_cons.1 ((z9b x l).mem_iff.1 hz)with rfl | hz
   ·have:=hx y (by simp)
    by_cases he:y.1=z.1
    ·exact .inr ⟨he,this⟩
    ·exact .inl (by omega)
   ·exact h.1 z hz
theorem z5L(l:List (Int×Int)):(csort l).Perm l:=by
 suffices ∀(l a:List (Int×Int)),(l.foldl (fun a x=>insC x a) a).Perm (a++l)from by simpa [csort]using this l []
 intro l
 induction l with
 | nil=>intro a;simp
 | cons y l ih=>
  intro a
  refine(ih _).trans (((z9b y a).append_right l).trans ?_)
  exact(List.perm_middle (a:=y) (l₁:=a) (l₂:=l)).symm
theorem zfJ{l:List (Int×Int)}(h:l.Pairwise fun a b=>a.2<b.2):Ls (csort l):=by
 suffices ∀(l a:List (Int×Int)),(a++l).Pairwise (fun a b=>a.2<b.2)∨True→Ls a→l.Pairwise (fun a b=>a.2<b.2)→(∀x∈a,∀y∈l,x.2<y.2)→Ls (l.foldl (fun a x=>insC x a) a) from
  this l [] (.inr trivial) .nil h (by simp)
 intro l
 induction l with
 | nil=>exact fun a _ h _ _=>h
 | cons y l ih=>
  intro a _ ha hl hal
  rw[List.pairwise_cons]at hl
  refine ih _ (.inr trivial) (zlf ha fun x hx=>hal x hx y (by simp)) hl.2 fun x hx z hz=>?_
  rcases List.mem_cons.1 ((z9b y a).mem_iff.1 hx)with rfl | hx
  ·exact hl.1 z hz
  ·exact hal x hx z (by simp[hz])
theorem zlb:∀{l1 l2:List (Int×Int)},Ls l1→Ls l2→l1.Perm l2→l1=l2
 | [],l2,_,_,p=>p.nil_eq
 | x::l1,[],_,_,p=>by have:=p.length_eq;simp at this
 | x::l1,y::l2,h1,h2,p=>by
  have h1:=List.pairwise_cons.1 h1
  have h2:=List.pairwise_cons.1 h2
  have e:x=y:=by
   rcases List.mem_cons.1 (p.mem_iff.1 (by simp:x∈x::l1))with e | hx
   ·exact e
   ·rcases List.mem_cons.1 (p.mem_iff.2 (by simp:y∈y::l2))with e | hy
    ·exact e.symm
    ·have q1:=h1.1 y hy
     have q2:=h2.1 x hx
     unfold lexlt at q1 q2
     omega
  subst e
  rw[zlb h1.2 h2.2 p.cons_inv]
theorem zek{l:List (Int×Int)}(h:Ls l){i j:Nat}{x y:Int×Int}(hij:i≤j)(hi:l[i]? = some x)(hj:l[j]? = some y):x.1≤y.1:=by
 rcases Nat.lt_or_ge i j with hlt | hge
 ·obtain⟨i1,rfl⟩:=List.getElem?_eq_some_iff.1 hi
  obtain⟨j1,rfl⟩:=List.getElem?_eq_some_iff.1 hj
  have:=List.pairwise_iff_getElem.1 h i j i1 j1 hlt
  unfold lexlt at this
  omega
 ·have:i=j:=by omega
  subst this
  rw[hi]at hj;cases hj;omega
theorem zl2{l:List (Int×Int)}{c:Nat}{z:Int×Int}(h:z∈l.take c):∃i,i<c∧l[i]? = some z:=by
 obtain⟨i,hi⟩:=List.mem_iff_getElem?.1 h
 rw[List.getElem?_take]at hi
 split at hi
 ·exact⟨i,by assumption,hi⟩
 ·cases hi
theorem zl3{l:List (Int×Int)}{c:Nat}{z:Int×Int}(h:z∈l.drop c):∃i,c≤i∧l[i]? = some z:=by
 obtain⟨i,hi⟩:=List.mem_iff_getElem?.1 h
 rw[List.getElem?_drop]at hi
 exact⟨c+i,by omega,hi⟩
theorem zku{l:List (Int×Int)}(h:St w0 E w)(i:Nat){s:Seg}(hi:nth E i=some s){v:Sl}(hr:Rw eC z06 2 v l s){p q:Int}{x y:Int×Int}(p0:0≤p)(q0:0≤q)(hx:l[p.toNat]? = some x)(hy:l[q.toNat]? = some y)
  (h1: -4611686018427387904<x.1∧x.1<4611686018427387904) (h2: -4611686018427387904<y.1∧y.1<4611686018427387904) {k:Int→PT} (hk:∀w',St w0 E w'→k (x.1-y.1) w') :
  (L.draw<| L.idx v.a p v.len 2 fun a3=>L.load (.agg [.int .i64,.int .i64]) a3 fun(x4:Int×Int×Unit)=>L.idx v.a q v.len 2 fun a5=>L.load (.agg [.int .i64,.int .i64]) a5 fun(x6:Int×Int×Unit)=>
   L.callV Pr cmpV [.agg #[.int .i64 x4.1,.int .i64 x4.2.1],.agg #[.int .i64 x6.1,.int .i64 x6.2.1]] (.one (.one (.int .i64))) k) w:=by
 have hp:=(List.getElem?_eq_some_iff.1 hx).1
 have hq:=(List.getElem?_eq_some_iff.1 hy).1
 refine dr h fun w h=>?_
 refine Rw.ix encC hr p0 hp fun a ha=>?_
 refine Rw.lda encC h i hi hr ha hx (y:=(x.1,x.2,())) rfl ?_
 refine Rw.ix encC hr q0 hq fun a2 ha2=>?_
 refine Rw.lda encC h i hi hr ha2 hy (y:=(y.1,y.2,())) rfl ?_
 exact zqi h h1 h2 hk
theorem zss(h:St w0 E w)(i:Nat){s:Seg}(hi:nth E i=some s){v:Sl}{P B R:List (Int×Int)}{x:Int×Int}(hr:Rw eC z06 2 v (P++(x::(B++R))) s)(hn:(P++(x::(B++R))).length<1000000000)(sB:Ls B)(hx2:∀y∈B,x.2<y.2)
  (hbx: -4611686018427387904<x.1∧x.1<4611686018427387904) (hb:∀y∈B,-4611686018427387904<y.1∧y.1<4611686018427387904) {a m b:Int} (ha:a=P.length) (hm:m=P.length+1) (hbb:b=P.length+(1+B.length))
  {k:Unit→PT} (hk:∀S s' w',Ls S→S.Perm (x::B)→Rw eC z06 2 v (P++(S++R)) s'→St w0 (setN E i s') w'→k () w') :
  L.call Pr z0b [.slice v.a v.len v.cap,I a,I m,I b,cmpV] (.tup []) k w:=by
 subst ha hm hbb
 refine z01 (z1E _ _ _ _ ⟨.func z0y,#[],#[]⟩) ?_
 unfold z19
 simp only[List.length_append,List.length_cons]at hn
 rw[wr (n:=(P.length:Int)+1-P.length) (by omega) (by omega)]
 refine itT (by simp;omega) ?_
 refine z0u (fun q y w=>∃c d:Nat,y=((P.length:Int)+1+c,(P.length:Int)+1+d,())∧q+c=d∧c≤d∧d≤B.length∧(∀(i:Nat) z,B[i]? = some z→i<c→z.1<x.1)∧(∀(i:Nat) z,B[i]? = some z→d≤i→¬z.1<x.1)∧St w0 E w) B.length
  ⟨0,B.length,by simp;omega,by omega,by omega,by omega,by intros;omega,by
   intro i z hz hi
   have:=(List.getElem?_eq_some_iff.1 hz).1
   omega,h⟩ ?_
 clear h;(try clear w)
 rintro q y w ⟨c,d,rfl,hq,hcd,hd,h1,h2,h⟩ again hag
 (try dsimp only)
 have ix:((P.length:Int)).toNat=P.length:=by omega
 have g0:(P++(x::(B++R)))[((P.length:Int)).toNat]? = some x:=by rw[ix];simp
 refine it (fun hc=>?_) (fun hc=>?_)<;>(try simp only[zB]at hc)
 ·have he:((P.length:Int)+1+c+((P.length:Int)+1+d))/2=(P.length:Int)+1+(((c+d)/2:Nat):Int):=by omega
  rw[half (by omega) (by omega) (by omega),he]
  obtain⟨e,hee⟩:∃e,e=(c+d)/2:=⟨_,rfl⟩
  rw[←hee]
  have hel:e<B.length:=by omega
  have hz:B[e]? = some B[e]:=List.getElem?_eq_getElem hel
  have hzm:B[e]∈B:=List.getElem_mem hel
  generalize B[e]=z at hz hzm
  have g1:(P++(x::(B++R)))[((P.length:Int)+1+(e:Int)).toNat]? = some z:=by
   have e1:((P.length:Int)+1+(e:Int)).toNat=P.length+(e+1):=by omega
   rw[e1,List.getElem?_append_right (by omega)]
   have e2:P.length+(e+1)-P.length=e+1:=by omega
   rw[e2,List.getElem?_cons_succ,List.getElem?_append_left hel,hz]
  refine gd (by decide) ?_
  refine zku h i hi hr (by omega) (by omega) g1 g0 (hb z hzm) hbx fun w h=>?_
  refine it (fun hl=>?_) (fun hl=>?_)<;>(try simp only[zB]at hl)
  ·refine hag (d-(e+1)) _ w (by omega) ⟨e+1,d,?_,by omega,by omega,hd,fun i z' hz' hi=>?_,h2,h⟩
   ·rw[wr (by omega) (by omega)];congr 1
   ·have:=zek sB (by omega) hz' hz
    omega
  ·refine hag (e-c) _ w (by omega) ⟨c,e,rfl,by omega,by omega,by omega,h1,fun i z' hz' hi=>?_,h⟩
   have:=zek sB hi hz hz'
   omega
 ·have e:d=c:=by omega
  subst e
  refine z0u (fun q y w=>∃(j:Nat)(s:Seg),y=((P.length:Int)+j,())∧q+j=d∧Rw eC z06 2 v (P++(B.take j++x::(B.drop j++R))) s∧St w0 (setN E i s) w) d ⟨0,s,by simp,by omega,by simpa using hr,by rwa [z2h hi]⟩ ?_
  clear hr g0
  clear h;(try clear w)
  rintro q y w ⟨j,s,rfl,hq,hr,h⟩ again hag
  (try dsimp only)
  have hsi:nth (setN E i s) i=some s:=z71 hi
  rw[wr (n:=(P.length:Int)+1+d-1) (by omega) (by omega)]
  refine it (fun hc=>?_) (fun hc=>?_)<;>(try simp only[zB]at hc)
  ·have hj:j<B.length:=by omega
   have hB:B.drop j=B[j]::B.drop (j+1):=List.drop_eq_getElem_cons hj
   have tB:B.take (j+1)=B.take j++[B[j]]:=by rw[List.take_add_one,List.getElem?_eq_getElem hj];rfl
   have lB:(B.take j).length=j:=by rw[List.length_take];omega
   generalize B[j]=z at hB tB
   have eD:P++(B.take j++x::(B.drop j++R))=(P++B.take j)++x::([]++z::(B.drop (j+1)++R)):=by rw[hB];simp
   have eD2:(P++B.take j)++z::([]++x::(B.drop (j+1)++R))=P++(B.take (j+1)++x::(B.drop (j+1)++R)):=by rw[tB];simp
   rw[eD]at hr
   obtain⟨g1,g2,g3,-⟩:=zmM (Q:=P++B.take j) (T:=[]) (U:=B.drop (j+1)++R) (x:=x) (y:=z)
   have l1:(P++B.take j).length=P.length+j:=by rw[List.length_append,lB]
   have l2:(P++B.take j).length+(1+([]:List (Int×Int)).length)=P.length+j+1:=by rw[l1];rfl
   rw[eD2,l2,l1]at g3
   rw[l2]at g2
   rw[l1]at g1
   have i1:((P.length:Int)+j).toNat=P.length+j:=by omega
   have i2:((P.length:Int)+j+1).toNat=P.length+j+1:=by omega
   rw[wr (n:=(P.length:Int)+j+1) (by omega) (by omega)]
   refine zqZ h i hsi hr (by omega) (by omega) (by rw[i1];exact g1) (by rw[i2];exact g2) fun s' w hr h=>?_
   rw[i1,i2,g3]at hr
   rw[z5V]at h
   exact hag (q-1) _ w (by omega) ⟨j+1,s',by congr 1,by omega,hr,h⟩
  ·have e:j=d:=by omega
   subst e
   refine⟨(),rfl,hk (B.take j++x::B.drop j) s w ?_ ?_ (by simpa using hr) h⟩
   ·have sB':=sB
    rw[←List.take_append_drop j B]at sB'
    have sB':=List.pairwise_append.1 sB'
    refine List.pairwise_append.2 ⟨sB'.1,List.pairwise_cons.2 ⟨fun z hz=>?_,sB'.2.1⟩,fun z hz y hy=>?_⟩
    ·obtain⟨i,hi,hz'⟩:=zl3 hz
     have q1:=h2 i z hz' hi
     have q2:=hx2 z (List.mem_of_mem_drop hz)
     unfold lexlt;omega
    ·rcases List.mem_cons.1 hy with rfl | hy
     ·obtain⟨i,hi,hz'⟩:=zl2 hz
      exact .inl (h1 i z hz' hi)
     ·exact sB'.2.2 z hz y hy
   ·refine List.perm_middle.trans ?_
    rw[List.take_append_drop]
theorem zsr(h:St w0 E w)(i:Nat){s:Seg}(hi:nth E i=some s){v:Sl}{P A R:List (Int×Int)}{y:Int×Int}(hr:Rw eC z06 2 v (P++(A++(y::R))) s)(hn:(P++(A++(y::R))).length<1000000000)(hA1:A.length≠1)(sA:Ls A)(hy2:∀x∈A,x.2<y.2)
  (hby: -4611686018427387904<y.1∧y.1<4611686018427387904) (hb:∀x∈A,-4611686018427387904<x.1∧x.1<4611686018427387904) {a m b:Int} (ha:a=P.length) (hm:m=P.length+A.length) (hbb:b=P.length+(A.length+1))
  {k:Unit→PT} (hk:∀S s' w',Ls S→S.Perm (A++[y])→Rw eC z06 2 v (P++(S++R)) s'→St w0 (setN E i s') w'→k () w') :
  L.call Pr z0b [.slice v.a v.len v.cap,I a,I m,I b,cmpV] (.tup []) k w:=by
 subst ha hm hbb
 refine z01 (z1E _ _ _ _ ⟨.func z0y,#[],#[]⟩) ?_
 unfold z19
 simp only[List.length_append,List.length_cons]at hn
 rw[wr (n:=(P.length:Int)+A.length-P.length) (by omega) (by omega),wr (n:=(P.length:Int)+(A.length+1)-(P.length+A.length)) (by omega) (by omega)]
 refine itF (by simp;omega) ?_
 refine itT (by simp;omega) ?_
 refine z0u (fun q z w=>∃c d:Nat,z=((P.length:Int)+c,(P.length:Int)+d,())∧q+c=d∧c≤d∧d≤A.length∧(∀(i:Nat) z,A[i]? = some z→i<c→¬y.1<z.1)∧(∀(i:Nat) z,A[i]? = some z→d≤i→y.1<z.1)∧St w0 E w) A.length
  ⟨0,A.length,by simp,by omega,by omega,by omega,by intros;omega,by
   intro i z hz hi
   have:=(List.getElem?_eq_some_iff.1 hz).1
   omega,h⟩ ?_
 clear h;(try clear w)
 rintro q z w ⟨c,d,rfl,hq,hcd,hd,h1,h2,h⟩ again hag
 (try dsimp only)
 have g0:(P++(A++(y::R)))[((P.length:Int)+A.length).toNat]? = some y:=by
  have e1:((P.length:Int)+A.length).toNat=P.length+A.length:=by omega
  rw[e1,←List.append_assoc,List.getElem?_append_right (by simp)]
  simp
 refine it (fun hc=>?_) (fun hc=>?_)<;>(try simp only[zB]at hc)
 ·have he:((P.length:Int)+c+((P.length:Int)+d))/2=(P.length:Int)+(((c+d)/2:Nat):Int):=by omega
  rw[half (by omega) (by omega) (by omega),he]
  obtain⟨e,hee⟩:∃e,e=(c+d)/2:=⟨_,rfl⟩
  rw[←hee]
  have hel:e<A.length:=by omega
  have hz:A[e]? = some A[e]:=List.getElem?_eq_getElem hel
  have hzm:A[e]∈A:=List.getElem_mem hel
  generalize A[e]=z at hz hzm
  have g1:(P++(A++(y::R)))[((P.length:Int)+(e:Int)).toNat]? = some z:=by
   have e1:((P.length:Int)+(e:Int)).toNat=P.length+e:=by omega
   rw[e1,List.getElem?_append_right (by omega)]
   have e2:P.length+e-P.length=e:=by omega
   rw[e2,List.getElem?_append_left hel,hz]
  refine gd (by decide) ?_
  refine zku h i hi hr (by omega) (by omega) g0 g1 hby (hb z hzm) fun w h=>?_
  refine it (fun hl=>?_) (fun hl=>?_)<;>(try simp only[zB]at hl)
  ·refine hag (d-(e+1)) _ w (by omega) ⟨e+1,d,?_,by omega,by omega,hd,fun i z' hz' hi=>?_,h2,h⟩
   ·rw[wr (by omega) (by omega)];congr 1
   ·have:=zek sA (by omega) hz' hz
    omega
  ·refine hag (e-c) _ w (by omega) ⟨c,e,rfl,by omega,by omega,by omega,h1,fun i z' hz' hi=>?_,h⟩
   have:=zek sA hi hz hz'
   omega
 ·have e:d=c:=by omega
  subst e
  refine z0u (fun q z w=>∃(j:Nat)(s:Seg),z=((P.length:Int)+j,())∧q+d=j∧j≤A.length∧Rw eC z06 2 v (P++(A.take j++y::(A.drop j++R))) s∧St w0 (setN E i s) w) (A.length-d) ⟨A.length,s,by simp,by omega,by omega,by simpa using hr,by rwa [z2h hi]⟩ ?_
  clear hr g0
  clear h;(try clear w)
  rintro q z w ⟨j,s,rfl,hq,hj,hr,h⟩ again hag
  (try dsimp only)
  have hsi:nth (setN E i s) i=some s:=z71 hi
  refine it (fun hc=>?_) (fun hc=>?_)<;>(try simp only[zB]at hc)
  ·obtain⟨j,rfl⟩:∃j',j=j'+1:=⟨j-1,by omega⟩
   have hA:A.drop j=A[j]::A.drop (j+1):=List.drop_eq_getElem_cons (by omega)
   have tA:A.take (j+1)=A.take j++[A[j]]:=by rw[List.take_add_one,List.getElem?_eq_getElem (by omega)];rfl
   have lA:(A.take j).length=j:=by rw[List.length_take];omega
   generalize A[j]=x at hA tA
   have eD:P++(A.take (j+1)++y::(A.drop (j+1)++R))=(P++A.take j)++x::([]++y::(A.drop (j+1)++R)):=by rw[tA];simp
   have eD2:(P++A.take j)++y::([]++x::(A.drop (j+1)++R))=P++(A.take j++y::(A.drop j++R)):=by rw[hA];simp
   rw[eD]at hr
   obtain⟨g1,g2,-,g3⟩:=zmM (Q:=P++A.take j) (T:=[]) (U:=A.drop (j+1)++R) (x:=x) (y:=y)
   have l1:(P++A.take j).length=P.length+j:=by rw[List.length_append,lA]
   have l2:(P++A.take j).length+(1+([]:List (Int×Int)).length)=P.length+j+1:=by rw[l1];rfl
   rw[eD2,l2,l1]at g3
   rw[l2]at g2
   rw[l1]at g1
   have i0:(P.length:Int)+((j+1:Nat):Int)-1=(P.length:Int)+j:=by omega
   have i1:((P.length:Int)+j).toNat=P.length+j:=by omega
   have i2:((P.length:Int)+((j+1:Nat):Int)).toNat=P.length+j+1:=by omega
   rw[wr (n:=(P.length:Int)+((j+1:Nat):Int)-1) (by omega) (by omega),i0]
   refine zqZ h i hsi hr (by omega) (by omega) (by rw[i2];exact g2) (by rw[i1];exact g1) fun s' w hr h=>?_
   rw[i1,i2,g3]at hr
   rw[z5V]at h
   exact hag (q-1) _ w (by omega) ⟨j,s',rfl,by omega,by omega,hr,h⟩
  ·have e:j=d:=by omega
   subst e
   refine⟨(),rfl,hk (A.take j++y::A.drop j) s w ?_ ?_ (by simpa using hr) h⟩
   ·have sA':=sA
    rw[←List.take_append_drop j A]at sA'
    have sA':=List.pairwise_append.1 sA'
    refine List.pairwise_append.2 ⟨sA'.1,List.pairwise_cons.2 ⟨fun z hz=>?_,sA'.2.1⟩,fun x hx z hz=>?_⟩
    ·obtain⟨i,hi,hz'⟩:=zl3 hz
     exact .inl (h2 i z hz' hi)
    ·rcases List.mem_cons.1 hz with rfl | hz
     ·obtain⟨i,hi,hz'⟩:=zl2 hx
      have q1:=h1 i x hz' hi
      have q2:=hy2 x (List.mem_of_mem_take hx)
      unfold lexlt;omega
     ·exact sA'.2.2 x hx z hz
   ·refine List.perm_middle.trans ?_
    rw[List.take_append_drop]
    exact(List.perm_append_singleton y A).symm
theorem zr6(h:St w0 E w)(i:Nat){s:Seg}(hi:nth E i=some s){v:Sl}{M:List (Int×Int)}(hr:Rw eC z06 2 v M s)(hn:M.length≤20)
  (hb:∀x∈M,-4611686018427387904<x.1∧x.1<4611686018427387904) {k:Unit→PT} (hk:∀s' w',Rw eC z06 2 v (csort M) s'→St w0 (setN E i s') w'→k () w') :
  L.call Pr z0J [.slice v.a v.len v.cap,cmpV] (.tup []) k w:=by
 refine z01 (z1B _ ⟨.func z0y,#[],#[]⟩) ?_
 unfold z0X
 refine z01 (z30 _ _ ⟨.func z0y,#[],#[]⟩) ?_
 unfold z1N
 have hlen:=Rw.len encC hr
 have hr0:Rw eC z06 2 v ([]++(M++[])) s:=by simpa using hr
 have fin:∀{s' w},Rw eC z06 2 v (csort M) s'→St w0 (setN E i s') w→L.loop (Y:=Int×Unit) (20,()) (fun y5 again6=>
   L.ite (decide (y5.1<((v.len:Nat):Int))) (
    L.loop (Y:=Int×Int×Unit) (0,IntKind.wrap .i64 (2*y5.1),()) fun y7 again8=>
    L.ite (decide (y7.2.1≤((v.len:Nat):Int))) (
     L.call Pr z0b [.slice v.a v.len v.cap,.int .i64 y7.1,.int .i64 (IntKind.wrap .i64 (y7.1+y5.1)),.int .i64 y7.2.1,cmpV] (.tup []) fun(x9:Unit)=>
     again8 (y7.2.1,IntKind.wrap .i64 (y7.2.1+(IntKind.wrap .i64 (2*y5.1))),()))<|
    L.join (Y:=Unit) (fun k10=>
     L.ite (decide ((IntKind.wrap .i64 (y7.1+y5.1))<((v.len:Nat):Int))) (
      L.call Pr z0b [.slice v.a v.len v.cap,.int .i64 y7.1,.int .i64 (IntKind.wrap .i64 (y7.1+y5.1)),.int .i64 ((v.len:Nat):Int),cmpV] (.tup []) fun(x12:Unit)=>
      k10 (()))<|
     k10 (())) fun z11=>
    again6 (IntKind.wrap .i64 (y5.1*2),()))<|
   fun w=>∃x:Unit,Value.tuple #[]=RT.val (.tup []) x∧∃y:Unit,Value.tuple #[]=RT.val (.tup []) y∧k y w) w:=by
  intro s' w hr h
  refine z0u (fun q y w'=>y=(20,())∧w'=w) 0 ⟨rfl,rfl⟩ ?_
  rintro q y w' ⟨rfl,rfl⟩ again hag
  refine itF (decide_eq_false (by dsimp only;omega)) ?_
  exact⟨(),rfl,(),rfl,hk s' _ hr h⟩
 refine z0u (fun q y w=>(q=1∧y=(0,20,())∧St w0 E w)∨(q=0∧y=(20,40,())∧M.length=20∧∃s',Rw eC z06 2 v (csort M) s'∧St w0 (setN E i s') w)) 1 (.inl ⟨rfl,rfl,h⟩) ?_
 clear h
 rintro q y w (⟨rfl,rfl,h⟩ | ⟨rfl,rfl,h20,s',hr',h⟩) again hag<;>dsimp only
 ·refine it (fun hc=>?_) (fun hc=>?_)<;>(try simp only[zB]at hc)
  ·refine zjr (P:=[]) (M:=M) (R:=[]) h i hi hr0 (by simp;omega) hb (by rfl) (by simp;omega) fun s' w hr' h=>?_
   rw[wr (by omega) (by omega)]
   exact hag 0 _ w (by omega) (.inr ⟨rfl,rfl,by omega,s',by simpa using hr',h⟩)
  ·refine zjr (P:=[]) (M:=M) (R:=[]) h i hi hr0 (by simp;omega) hb (by rfl) (by simp;omega) fun s' w hr' h=>?_
   exact fin (by simpa using hr') h
 ·refine itF (decide_eq_false (by omega)) ?_
  refine zjr (P:=csort M) (M:=[]) (R:=[]) h i (z71 hi) (by simpa using hr') (by simp[z2K];omega) (by simp) (by rw[z2K];omega) (by rw[z2K];simp;omega) fun s' w hr' h=>?_
  rw[z5V]at h
  exact fin (by simpa [csort]using hr') h
theorem zja{p:Int×Int→Bool}{c:Int×Int}:∀{l:List (Int×Int)},l.Pairwise (fun a b=>a.1≤b.1)→
  (insC c l).find? p=match l.find? p with | none=>if p c=true then some c else none | some y=>if p c=true∧c.1<y.1 then some c else some y
 | [],_=>by by_cases h:p c=true<;>simp[insC,h]
 | y::l,hp=>by
  rw[List.pairwise_cons]at hp
  simp only[insC]
  split
  ·rename_i hlt
   by_cases h:p c=true
   ·rw[List.find?_cons_of_pos h]
    cases hf:(y::l).find? p with
    | none=>simp[h]
    | some z=>
     have hz:c.1<z.1:=by
      rcases List.mem_cons.1 (List.mem_of_find?_eq_some hf)with rfl | hz
      ·exact hlt
      ·have:=hp.1 z hz;omega
     simp[h,hz]
   ·rw[List.find?_cons_of_neg h]
    cases hf:(y::l).find? p<;>simp[h]
  ·rename_i hlt
   by_cases hy:p y=true
   ·rw[List.find?_cons_of_pos hy,List.find?_cons_of_pos hy]
    simp[hlt]
   ·rw[List.find?_cons_of_neg hy,List.find?_cons_of_neg hy]
    exact zja hp.2
def can(x:AHeld):Bool:=decide (x.pod.st=2∧(x.pod.reqs.length:Int)<x.pod.conc)
def pickStep(b:Option AHeld)(x:AHeld):Option AHeld:=match b with
 | none=>if can x=true then some x else none
 | some y=>if can x=true∧x.pod.reqs.length<y.pod.reqs.length then some x else some y
def fPick(l:List AHeld)(rev:ByteArray):Option AHeld:=(revs l rev).foldl pickStep none
def key(x:AHeld):Int×Int:=(x.pod.reqs.length,x.id)
theorem zj9{p:Int×Int→Bool}:∀(n:Nat){R:List AHeld},R.length=n→(∀x∈R,p (key x)=can x)→(csort (R.map key)).find? p=(R.foldl pickStep none).map key
 | 0,R,hn,_=>by
  have:=List.eq_nil_of_length_eq_zero hn
  subst this;rfl
 | n+1,R,hn,h=>by
  obtain⟨R',x,rfl⟩:∃R' x,R=R'++[x]:=⟨R.dropLast,R.getLast (by intro e;subst e;simp at hn),(List.dropLast_concat_getLast _).symm⟩
  have ih:=zj9 (p:=p) n (R:=R') (by simpa using hn) fun y hy=>h y (by simp[hy])
  have hx:=h x (by simp)
  have e:csort ((R'++[x]).map key)=insC (key x) (csort (R'.map key)):=by simp[csort,List.foldl_append]
  rw[e,zja (zlr _),ih,List.foldl_append]
  simp only[List.foldl_cons,List.foldl_nil]
  cases R'.foldl pickStep none with
  | none=>simp only[Option.map_none,pickStep,hx];split<;>rfl
  | some y=>
   simp only[Option.map_some,pickStep,hx]
   by_cases hc:can x=true∧x.pod.reqs.length<y.pod.reqs.length
   ·rw[if_pos hc,if_pos ⟨hc.1,by simp only[key];omega⟩];rfl
   ·rw[if_neg hc,if_neg (fun hh=>hc ⟨hh.1,by have:=hh.2;simp only[key]at this;omega⟩)];rfl
theorem AFleet.Ok.where_upd{F:AFleet}(ok:F.Ok){id:Int}{x:AHeld}(hx:fFind F.l id=some x)(g:APod→APod)(hq:∀q∈(g x.pod).reqs,q∈x.pod.reqs∨fWhere F.l q=none)
  (h4:(g x.pod).st=4→(g x.pod).reqs = []) (q:Int):(fWhere (fUpd F.l id g) q).map (·.id)=if q∈(g x.pod).reqs then some id else if q∈x.pod.reqs then none else(fWhere F.l q).map (·.id):=by
 obtain⟨hm,rfl⟩:=z4V hx
 obtain⟨A,B,hl⟩:=List.append_of_mem hm
 have pw:=ok.pw
 have once:=ok.once
 have hno:fWhere F.l q=none→∀y∈A++x::B,q∉y.pod.reqs:=fun h=>by rw[hl]at h;exact z9H h
 have hq:=hq q
 rw[hl]at pw once ⊢
 rw[List.pairwise_append,List.pairwise_cons]at once
 rw[zdI pw]
 have hA:(q∈x.pod.reqs∨q∈(g x.pod).reqs)→∀y∈A,q∉y.pod.reqs:=fun h y hy hqy=>by
  have h:q∈x.pod.reqs∨fWhere F.l q=none:=h.elim .inl fun h=>hq h
  rcases h with h | h
  ·exact once.2.2 y hy x (by simp) q hqy h
  ·exact hno h y (by simp[hy]) hqy
 have hB:(q∈x.pod.reqs∨q∈(g x.pod).reqs)→∀y∈B,q∉y.pod.reqs:=fun h y hy hqy=>by
  have h:q∈x.pod.reqs∨fWhere F.l q=none:=h.elim .inl fun h=>hq h
  rcases h with h | h
  ·exact once.2.1.1 y hy q h hqy
  ·exact hno h y (by simp[hy]) hqy
 have fn:∀{l:List AHeld},(∀y∈l,q∉y.pod.reqs)→List.find? (fun x=>decide (q∈x.pod.reqs)) l=none:=fun h=>by
  rw[List.find?_eq_none];exact fun y hy=>by simpa using h y hy
 unfold fWhere
 simp only[List.find?_append]
 by_cases h1:q∈(g x.pod).reqs
 ·rw[if_pos h1,fn (hA (.inr h1)),Option.none_or]
  have:(g x.pod).st≠4:=fun e=>by rw[h4 e]at h1;simp at h1
  rw[if_neg this,List.find?_cons_of_pos (by simpa using h1)]
  rfl
 ·rw[if_neg h1]
  have hg:List.find? (fun x=>decide (q∈x.pod.reqs)) (if(g x.pod).st=4 then []else [{ x with pod:=g x.pod }])=none:=by
   split
   ·rfl
   ·rw[List.find?_cons_of_neg (by simpa using h1)];rfl
  rw[hg,Option.none_or]
  by_cases h2:q∈x.pod.reqs
  ·rw[if_pos h2,fn (hA (.inl h2)),fn (hB (.inl h2))];rfl
  ·rw[if_neg h2,List.find?_cons_of_neg (by simpa using h2)]
structure Cut(p q h:Nat)(A B:List (Int×Int))(c:Nat):Prop where
 c1:c≤p
 c2:c≤h
 c3:h-c≤q
 lo:∀x∈A.take c,∀y∈B.drop (h-c),x.1≤y.1
 hi:∀y∈B.take (h-c),∀x∈A.drop c,y.1<x.1
theorem zsj{p q h c c0 d0:Nat}{A B:List (Int×Int)}(hp:p=A.length)(hq:q=B.length)(hh:h=(p+q)/2)(sA:Ls A)(sB:Ls B)(h0:(p≤h∧c0=0∧d0=p)∨(h<p∧c0+q=h∧d0=h))(hc0:c0≤c)(hc1:c≤d0)
  (hT:∀e x y,c0≤e→e<c→A[e]? = some x→B[h-1-e]? = some y→¬y.1<x.1) (hF:∀e x y,c≤e→e<d0→A[e]? = some x→B[h-1-e]? = some y→y.1<x.1):Cut p q h A B c:=by
 subst hp hq
 refine⟨by omega,by omega,by omega,fun x hx y hy=>?_,fun y hy x hx=>?_⟩
 ·obtain⟨i,hi,hx⟩:=zl2 hx
  obtain⟨j,hj,hy⟩:=zl3 hy
  have hil:=(List.getElem?_eq_some_iff.1 hx).1
  have hjl:=(List.getElem?_eq_some_iff.1 hy).1
  have hcc:c0<c:=by omega
  have a1:A[c-1]? = some A[c-1]:=List.getElem?_eq_getElem (by omega)
  have b1:B[h-1-(c-1)]? = some B[h-1-(c-1)]:=List.getElem?_eq_getElem (by omega)
  have q1:=hT (c-1) _ _ (by omega) (by omega) a1 b1
  have q2:=zek sA (by omega) hx a1
  have q3:=zek sB (by omega) b1 hy
  omega
 ·obtain⟨i,hi,hx⟩:=zl3 hx
  obtain⟨j,hj,hy⟩:=zl2 hy
  have hil:=(List.getElem?_eq_some_iff.1 hx).1
  have hjl:=(List.getElem?_eq_some_iff.1 hy).1
  have hcc:c<d0:=by omega
  have a1:A[c]? = some A[c]:=List.getElem?_eq_getElem (by omega)
  have b1:B[h-1-c]? = some B[h-1-c]:=List.getElem?_eq_getElem (by omega)
  have q1:=hF c _ _ (by omega) hcc a1 b1
  have q2:=zek sA (by omega) a1 hx
  have q3:=zek sB (by omega) hy b1
  omega
abbrev bdC(x:Int×Int):Prop:=-4611686018427387904<x.1∧x.1<4611686018427387904
theorem zst:∀(N:Nat){w:World}{E:List Seg}(_:St w0 E w)(i:Nat){s:Seg}(_:nth E i=some s){v:Sl}{P A B R:List (Int×Int)}(_:Rw eC z06 2 v (P++(A++(B++R))) s)(_:(P++(A++(B++R))).length<1000000000)(_:A.length+B.length≤N)(_:A≠[])(_:B≠[])
  (_:Ls A) (_:Ls B) (_:∀x∈A,∀y∈B,x.2<y.2) (_:∀x∈A,bdC x) (_:∀x∈B,bdC x) {a m b:Int} (_:a=P.length) (_:m=P.length+A.length) (_:b=P.length+(A.length+B.length))
  {k:Unit→PT} (_:∀S s' w',Ls S→S.Perm (A++B)→Rw eC z06 2 v (P++(S++R)) s'→St w0 (setN E i s') w'→k () w'),
  L.call Pr z0b [.slice v.a v.len v.cap,I a,I m,I b,cmpV] (.tup []) k w:=by
 intro N
 induction N with
 | zero=>
  intro w E h i s hi v P A B R hr hn hN hA hB
  have:=List.length_pos_iff.2 hA
  omega
 | succ N ih=>
 intro w E h i s hi v P A B R hr hn hN hA hB sA sB hAB bA bB a m b ha hm hbb k hk
 have hA1:=List.length_pos_iff.2 hA
 have hB1:=List.length_pos_iff.2 hB
 by_cases cA:A.length=1
 ·obtain⟨x,rfl⟩:∃x,A = [x]:=List.length_eq_one_iff.1 cA
  exact zss (P:=P) (x:=x) (B:=B) (R:=R) h i hi hr hn sB (hAB x (by simp)) (bA x (by simp)) bB ha (by simpa using hm) (by simpa using hbb) hk
 by_cases cB:B.length=1
 ·obtain⟨y,rfl⟩:∃y,B = [y]:=List.length_eq_one_iff.1 cB
  exact zsr h i hi hr hn cA sA (fun x hx=>hAB x hx y (by simp)) (bB y (by simp)) bA ha hm (by simpa using hbb) hk
 subst ha hm hbb
 refine z01 (z1E _ _ _ _ ⟨.func z0y,#[],#[]⟩) ?_
 unfold z19
 simp only[List.length_append]at hn
 rw[wr (n:=(P.length:Int)+A.length-P.length) (by omega) (by omega),wr (n:=(P.length:Int)+(A.length+B.length)-(P.length+A.length)) (by omega) (by omega)]
 refine itF (by simp;omega) ?_
 refine itF (by simp;omega) ?_
 refine gd (by decide) ?_
 obtain⟨hh,hhe⟩:∃hh,hh=(A.length+B.length)/2:=⟨_,rfl⟩
 have he:((P.length:Int)+((P.length:Int)+(A.length+B.length)))/2=(P.length:Int)+(hh:Int):=by omega
 rw[half (a:=(P.length:Int)) (b:=(P.length:Int)+(A.length+B.length)) (by omega) (by omega) (by omega),he]
 refine z1h (fun z w'=>(∃c0 d0:Nat,z=((P.length:Int)+c0,(P.length:Int)+d0,())∧c0≤d0∧((A.length≤hh∧c0=0∧d0=A.length)∨(hh<A.length∧c0+B.length=hh∧d0=hh)))∧w'=w) (fun k' hk'=>?_) ?_
 ·refine it (fun hc=>?_) (fun hc=>?_)<;>(try simp only[zB]at hc)
  ·refine hk' _ _ ⟨⟨hh-B.length,hh,?_,by omega,.inr ⟨by omega,by omega,rfl⟩⟩,rfl⟩
   rw[wr (n:=(P.length:Int)+hh+(P.length+A.length)) (by omega) (by omega),wr (by omega) (by omega)]
   congr 1
   omega
  ·exact hk' _ _ ⟨⟨0,A.length,by simp,by omega,.inl ⟨by omega,rfl,rfl⟩⟩,rfl⟩
 rintro z w' ⟨⟨c0,d0,rfl,hcd0,h0⟩,rfl⟩
 dsimp only
 refine z0u (fun q z w=>∃c d:Nat,z=((P.length:Int)+c,(P.length:Int)+d,())∧q+c=d∧c0≤c∧c≤d∧d≤d0∧(∀e x y,c0≤e→e<c→A[e]? = some x→B[hh-1-e]? = some y→¬y.1<x.1)∧
  (∀e x y,d≤e→e<d0→A[e]? = some x→B[hh-1-e]? = some y→y.1<x.1)∧St w0 E w) (d0-c0) ⟨c0,d0,rfl,by omega,by omega,by omega,by omega,by intros;omega,by intros;omega,h⟩ ?_
 clear h;(try clear w)
 rintro q z w ⟨c,d,rfl,hq,hc0,hcd,hd,h1,h2,h⟩ again hag
 (try dsimp only)
 refine it (fun hc=>?_) (fun hc=>?_)<;>(try simp only[zB]at hc)
 ·have he2:((P.length:Int)+c+((P.length:Int)+d))/2=(P.length:Int)+(((c+d)/2:Nat):Int):=by omega
  rw[half (a:=(P.length:Int)+c) (by omega) (by omega) (by omega),he2]
  obtain⟨e,hee⟩:∃e,e=(c+d)/2:=⟨_,rfl⟩
  rw[←hee]
  have hel:e<A.length:=by omega
  have hel2:hh-1-e<B.length:=by omega
  have hx:A[e]? = some A[e]:=List.getElem?_eq_getElem hel
  have hxm:A[e]∈A:=List.getElem_mem hel
  have hy:B[hh-1-e]? = some B[hh-1-e]:=List.getElem?_eq_getElem hel2
  have hym:B[hh-1-e]∈B:=List.getElem_mem hel2
  generalize A[e]=x at hx hxm
  generalize B[hh-1-e]=y at hy hym
  have g1:(P++(A++(B++R)))[((P.length:Int)+(e:Int)).toNat]? = some x:=by
   have e1:((P.length:Int)+(e:Int)).toNat=P.length+e:=by omega
   rw[e1,List.getElem?_append_right (by omega)]
   have e2:P.length+e-P.length=e:=by omega
   rw[e2,List.getElem?_append_left hel,hx]
  rw[wr (n:=(P.length:Int)+hh+(P.length+A.length)) (by omega) (by omega),wr (n:=(P.length:Int)+hh+(P.length+A.length)-1) (by omega) (by omega),wr (n:=(P.length:Int)+hh+(P.length+A.length)-1-(P.length+e)) (by omega) (by omega)]
  have g0:(P++(A++(B++R)))[((P.length:Int)+hh+(P.length+A.length)-1-(P.length+e)).toNat]? = some y:=by
   have e1:((P.length:Int)+hh+(P.length+A.length)-1-(P.length+e)).toNat=P.length+(A.length+(hh-1-e)):=by omega
   rw[e1,List.getElem?_append_right (by omega)]
   have e2:P.length+(A.length+(hh-1-e))-P.length=A.length+(hh-1-e):=by omega
   rw[e2,List.getElem?_append_right (by omega)]
   have e3:A.length+(hh-1-e)-A.length=hh-1-e:=by omega
   rw[e3,List.getElem?_append_left hel2,hy]
  refine gd (by decide) ?_
  refine zku h i hi hr (by omega) (by omega) g0 g1 (bB y hym) (bA x hxm) fun w h=>?_
  refine it (fun hl=>?_) (fun hl=>?_)<;>(try simp only[zB]at hl)
  ·refine hag (d-(e+1)) _ w (by omega) ⟨e+1,d,?_,by omega,by omega,by omega,hd,fun e' x' y' he1 he2 hx' hy'=>?_,h2,h⟩
   ·rw[wr (by omega) (by omega)];congr 1
   ·have q1:=zek sA (by omega) hx' hx
    have q2:=zek sB (by omega) hy hy'
    omega
  ·refine hag (e-c) _ w (by omega) ⟨c,e,rfl,by omega,by omega,by omega,by omega,h1,fun e' x' y' he1 he2 hx' hy'=>?_,h⟩
   have q1:=zek sA he1 hx hx'
   have q2:=zek sB (by omega) hy' hy
   omega
 clear hag
 have e:d=c:=by omega
 subst e
 have C:=zsj rfl rfl hhe sA sB h0 hc0 hd h1 h2
 clear h1 h2 h0 hc0 hd hcd
 obtain⟨A1,A2,rfl,lA1⟩:∃A1 A2,A=A1++A2∧A1.length=d:=⟨A.take d,A.drop d,(List.take_append_drop ..).symm,by rw[List.length_take];have:=C.c1;omega⟩
 obtain⟨B1,B2,rfl,lB1⟩:∃B1 B2,B=B1++B2∧B1.length=hh-d:=⟨B.take (hh-d),B.drop (hh-d),(List.take_append_drop ..).symm,by rw[List.length_take];have:=C.c3;omega⟩
 have tA:(A1++A2).take d=A1:=by rw[←lA1,List.take_left]
 have dA:(A1++A2).drop d=A2:=by rw[←lA1,List.drop_left]
 have tB:(B1++B2).take (hh-d)=B1:=by rw[←lB1,List.take_left]
 have dB:(B1++B2).drop (hh-d)=B2:=by rw[←lB1,List.drop_left]
 have hlo:=C.lo
 have hhi:=C.hi
 have hc2:=C.c2
 rw[tA,dB]at hlo
 rw[tB,dA]at hhi
 clear tA dA tB dB C
 have pA:=List.pairwise_append.1 sA
 have pB:=List.pairwise_append.1 sB
 simp only[List.length_append]at *
 rw[wr (n:=(P.length:Int)+hh+(P.length+((A1.length+A2.length:Nat):Int))) (by omega) (by omega),wr (n:=(P.length:Int)+hh+(P.length+((A1.length+A2.length:Nat):Int))-(P.length+(d:Int))) (by omega) (by omega)]
 have hend:(P.length:Int)+hh+(P.length+((A1.length+A2.length:Nat):Int))-(P.length+(d:Int))=(P.length:Int)+((hh+A2.length:Nat):Int):=by omega
 rw[hend]
 have lo2:∀x∈A1,∀y∈B2,lexlt x y:=fun x hx y hy=>by
  have q1:=hlo x hx y hy
  have q2:=hAB x (by simp[hx]) y (by simp[hy])
  unfold lexlt;omega
 refine z1h (fun _ w=>∃s,Rw eC z06 2 v (P++(A1++(B1++(A2++(B2++R))))) s∧St w0 (setN E i s) w) (fun k' hk'=>?_) ?_
 ·have stay:(A2 = []∨B1 = [])→k' () w:=fun hh=>hk' () w ⟨s,by
   have e:P++(A1++(B1++(A2++(B2++R))))=P++((A1++A2)++((B1++B2)++R)):=by rcases hh with rfl | rfl<;>simp
   rw[e];exact hr,by rwa [z2h hi]⟩
  refine it (fun hc1=>?_) (fun hc1=>?_)<;>(try simp only[zB]at hc1)
  ·refine it (fun hc3=>?_) (fun hc3=>?_)<;>(try simp only[zB]at hc3)
   ·refine zsv (P:=P++A1) (A:=A2) (B:=B1) (R:=B2++R) h i hi (by simpa using hr) (by simp only[List.length_append];omega) (List.length_pos_iff.1 (by omega)) (List.length_pos_iff.1 (by omega)) (by rw[List.length_append];omega) (by rw[List.length_append];omega) (by rw[List.length_append];omega) fun s' w hr h=>?_
    exact hk' () w ⟨s',by simpa using hr,h⟩
   ·exact stay (.inr (List.eq_nil_of_length_eq_zero (by omega)))
  ·exact stay (.inl (List.eq_nil_of_length_eq_zero (by omega)))
 clear hr
 clear h;(try clear w)
 rintro _ w ⟨s,hr,h⟩
 (try dsimp only)
 refine z1h (fun _ w=>∃S1 s,Ls S1∧S1.Perm (A1++B1)∧Rw eC z06 2 v (P++(S1++(A2++(B2++R)))) s∧St w0 (setN E i s) w) (fun k' hk'=>?_) ?_
 ·have stay:(A1 = []∨B1 = [])→k' () w:=fun hh=>hk' () w ⟨A1++B1,s,by
   rcases hh with rfl | rfl
   ·simpa using pB.1
   ·simpa using pA.1,.refl _,by simpa using hr,h⟩
  refine it (fun hc1=>?_) (fun hc1=>?_)<;>(try simp only[zB]at hc1)
  ·refine it (fun hc3=>?_) (fun hc3=>?_)<;>(try simp only[zB]at hc3)
   ·refine ih (P:=P) (A:=A1) (B:=B1) (R:=A2++(B2++R)) h i (z71 hi) hr (by simp only[List.length_append];omega) (by omega) (List.length_pos_iff.1 (by omega)) (List.length_pos_iff.1 (by omega)) pA.1 pB.1 (fun x hx y hy=>hAB x (by simp[hx]) y (by simp[hy]))
     (fun x hx=>bA x (by simp[hx])) (fun x hx=>bB x (by simp[hx])) rfl (by omega) (by omega) fun S1 s' w l1 p1 hr h=>?_
    rw[z5V]at h
    exact hk' () w ⟨S1,s',l1,p1,hr,h⟩
   ·exact stay (.inr (List.eq_nil_of_length_eq_zero (by omega)))
  ·exact stay (.inl (List.eq_nil_of_length_eq_zero (by omega)))
 clear hr
 clear h;(try clear w)
 rintro _ w ⟨S1,s,l1,p1,hr,h⟩
 (try dsimp only)
 have lS1:S1.length=hh:=by rw[p1.length_eq,List.length_append];omega
 have fin:∀S2 s' w',Ls S2→S2.Perm (A2++B2)→Rw eC z06 2 v ((P++S1)++(S2++R)) s'→St w0 (setN E i s') w'→k () w':=fun S2 s' w' l2 p2 hr h=>by
  refine hk (S1++S2) s' w' (List.pairwise_append.2 ⟨l1,l2,fun x hx y hy=>?_⟩) ?_ (by simpa using hr) h
  ·rcases List.mem_append.1 (p1.mem_iff.1 hx)with hx | hx<;>rcases List.mem_append.1 (p2.mem_iff.1 hy)with hy | hy
   ·exact pA.2.2 x hx y hy
   ·exact lo2 x hx y hy
   ·exact .inl (hhi x hx y hy)
   ·exact pB.2.2 x hx y hy
  ·refine(p1.append p2).trans ?_
   rw[List.append_assoc,List.append_assoc]
   refine List.Perm.append_left _ ?_
   rw[←List.append_assoc,←List.append_assoc]
   exact List.Perm.append_right _ List.perm_append_comm
 have stay:(A2 = []∨B2 = [])→k () w:=fun hh=>fin (A2++B2) s w (by
   rcases hh with rfl | rfl
   ·simpa using pB.2.1
   ·simpa using pA.2.1) (.refl _) (by simpa using hr) h
 refine it (fun hc1=>?_) (fun hc1=>?_)<;>(try simp only[zB]at hc1)
 ·refine it (fun hc3=>?_) (fun hc3=>?_)<;>(try simp only[zB]at hc3)
  ·refine ih (P:=P++S1) (A:=A2) (B:=B2) (R:=R) h i (z71 hi) (by simpa using hr) (by simp only[List.length_append];omega) (by omega) (List.length_pos_iff.1 (by omega)) (List.length_pos_iff.1 (by omega)) pA.2.1 pB.2.1 (fun x hx y hy=>hAB x (by simp[hx]) y (by simp[hy]))
    (fun x hx=>bA x (by simp[hx])) (fun x hx=>bB x (by simp[hx])) (by rw[List.length_append];omega) (by rw[List.length_append];omega) (by rw[List.length_append];omega) fun S2 s' w l2 p2 hr h=>?_
   rw[z5V]at h
   exact⟨(),rfl,fin S2 s' w l2 p2 hr h⟩
  ·exact⟨(),rfl,stay (.inr (List.eq_nil_of_length_eq_zero (by omega)))⟩
 ·exact⟨(),rfl,stay (.inl (List.eq_nil_of_length_eq_zero (by omega)))⟩
theorem zpD(h:St w0 E w)(i:Nat){s:Seg}(hi:nth E i=some s){v:Sl}{M:List (Int×Int)}(hr:Rw eC z06 2 v M s)(hn:M.length<40)(hid:M.Pairwise fun a b=>a.2<b.2)
  (hb:∀x∈M,bdC x) {k:Unit→PT} (hk:∀s' w',Rw eC z06 2 v (csort M) s'→St w0 (setN E i s') w'→k () w') :
  L.call Pr z0J [.slice v.a v.len v.cap,cmpV] (.tup []) k w:=by
 by_cases h20:M.length≤20
 ·exact zr6 h i hi hr h20 hb hk
 refine z01 (z1B _ ⟨.func z0y,#[],#[]⟩) ?_
 unfold z0X
 refine z01 (z30 _ _ ⟨.func z0y,#[],#[]⟩) ?_
 unfold z1N
 have hlen:=Rw.len encC hr
 obtain⟨M1,M2,rfl,l1⟩:∃M1 M2,M=M1++M2∧M1.length=20:=⟨M.take 20,M.drop 20,(List.take_append_drop ..).symm,by rw[List.length_take];omega⟩
 have p12:=List.pairwise_append.1 hid
 rw[List.length_append]at hn h20 hlen
 have hb1:∀x∈csort M1,bdC x:=fun x hx=>hb x (by simp[(z5L M1).mem_iff.1 hx])
 have hb2:∀x∈csort M2,bdC x:=fun x hx=>hb x (by simp[(z5L M2).mem_iff.1 hx])
 refine z0u (fun q y w=>(q=1∧y=(0,20,())∧St w0 E w)∨(q=0∧y=(20,40,())∧∃s',Rw eC z06 2 v (csort M1++(M2++[])) s'∧St w0 (setN E i s') w)) 1 (.inl ⟨rfl,rfl,h⟩) ?_
 clear h;(try clear w)
 rintro q y w (⟨rfl,rfl,h⟩ | ⟨rfl,rfl,s',hr',h⟩) again hag<;>dsimp only
 ·refine itT (decide_eq_true (by omega)) ?_
  refine zjr (P:=[]) (M:=M1) (R:=M2) h i hi (by simpa using hr) (by simp;omega) (fun x hx=>hb x (by simp[hx])) (by rfl) (by simp;omega) fun s' w hr' h=>?_
  rw[wr (by omega) (by omega)]
  exact hag 0 _ w (by omega) (.inr ⟨rfl,rfl,s',by simpa using hr',h⟩)
 ·refine itF (decide_eq_false (by omega)) ?_
  refine zjr (P:=csort M1) (M:=M2) (R:=[]) h i (z71 hi) hr' (by simp[z2K];omega) (fun x hx=>hb x (by simp[hx])) (by rw[z2K];omega) (by rw[z2K];omega) fun s' w hr' h=>?_
  rw[z5V]at h
  refine z0u (fun q y w=>(q=1∧y=(20,())∧∃s',Rw eC z06 2 v (csort M1++(csort M2++[])) s'∧St w0 (setN E i s') w)∨(q=0∧y=(40,())∧∃s',Rw eC z06 2 v (csort (M1++M2)) s'∧St w0 (setN E i s') w)) 1 (.inl ⟨rfl,rfl,s',hr',h⟩) ?_
  clear hr'
  clear h;(try clear w)
  rintro q y w (⟨rfl,rfl,s',hr',h⟩ | ⟨rfl,rfl,s',hr',h⟩) again hag<;>dsimp only
  ·refine itT (decide_eq_true (by omega)) ?_
   rw[wr (n:=2*20) (by omega) (by omega)]
   refine z0u (fun q y w'=>y=(0,2*20,())∧w'=w) 0 ⟨rfl,rfl⟩ ?_
   rintro q y w' ⟨rfl,rfl⟩ again2 hag2
   dsimp only
   refine itF (decide_eq_false (by omega)) ?_
   refine z1h (fun _ w=>∃s',Rw eC z06 2 v (csort (M1++M2)) s'∧St w0 (setN E i s') w) (fun k' hk'=>?_) ?_
   ·rw[wr (n:=0+20) (by omega) (by omega)]
    refine itT (decide_eq_true (by omega)) ?_
    refine zst (M1.length+M2.length) (P:=[]) (A:=csort M1) (B:=csort M2) (R:=[]) h i (z71 hi) hr' (by simp[z2K];omega) (by rw[z2K,z2K];omega) (List.length_pos_iff.1 (by rw[z2K];omega)) (List.length_pos_iff.1 (by rw[z2K];omega)) (zfJ p12.1) (zfJ p12.2.1)
     (fun x hx y hy=>p12.2.2 x ((z5L M1).mem_iff.1 hx) y ((z5L M2).mem_iff.1 hy)) hb1 hb2 (by rfl) (by rw[z2K];simp;omega) (by rw[z2K,z2K];simp;omega) fun S s'' w lS pS hr'' h=>?_
    rw[z5V]at h
    have e:S=csort (M1++M2):=zlb lS (zfJ hid) ((pS.trans ((z5L M1).append (z5L M2))).trans (z5L _).symm)
    subst e
    exact hk' () w ⟨s'',by simpa using hr'',h⟩
   ·clear hr'
    rintro _ w'' ⟨s'',hr'',h⟩
    (try dsimp only)
    rw[wr (n:=20*2) (by omega) (by omega)]
    exact hag 0 _ w'' (by omega) (.inr ⟨rfl,rfl,s'',hr'',h⟩)
  ·refine itF (decide_eq_false (by omega)) ?_
   exact⟨(),rfl,(),rfl,hk s' w hr' h⟩
def fTake(F:AFleet)(rev:ByteArray)(q:Int):AFleet×Int×Bool:=
 if(fWhere F.l q).isSome then(F,0,false)else match fPick F.l rev with
 | none=>(F,0,false)
 | some x=>({ F with l:=fUpd F.l x.id fun p=>(podTake p q).1 },x.id,true)
theorem znn:∀{R:List AHeld}{b x:Option AHeld},R.foldl pickStep b=x→(∀y,b=some y→can y=true)→∀y,x=some y→can y=true∧(y∈R∨b=some y)
 | [],b,x,h,hb,y,hy=>by subst h;exact⟨hb y hy,.inr hy⟩
 | z::R,b,x,h,hb,y,hy=>by
  rw[List.foldl_cons]at h
  have hz:∀y,pickStep b z=some y→can y=true∧(y=z∨b=some y):=by
   intro y hy
   unfold pickStep at hy
   cases b with
   | none=>simp only at hy;split at hy<;>simp at hy;subst hy;exact⟨by assumption,.inl rfl⟩
   | some u=>
    simp only at hy
    split at hy
    ·simp at hy;subst hy;rename_i h;exact⟨h.1,.inl rfl⟩
    ·simp at hy;subst hy;exact⟨hb u rfl,.inr rfl⟩
  have:=znn h (fun y hy=>(hz y hy).1) y hy
  refine⟨this.1,?_⟩
  rcases this.2 with h | h
  ·left;simp[h]
  ·rcases(hz y h).2 with e | e
   ·left;simp[e]
   ·right;exact e
theorem zhq{l:List AHeld}{rev:ByteArray}{x:AHeld}(h:fPick l rev=some x):x∈l∧x.rev=rev∧can x=true:=by
 have:=znn h (by simp) x rfl
 rcases this.2 with h2 | h2
 ·exact⟨(List.mem_filter.1 h2).1,of_decide_eq_true (List.mem_filter.1 h2).2,this.1⟩
 ·cases h2
theorem zmU{x:AHeld}(hc:can x=true){q:Int}(hq:q∉x.pod.reqs):podTake x.pod q=({ x.pod with reqs:=insI q x.pod.reqs },0):=by
 have:=of_decide_eq_true hc
 unfold podTake;rw[if_neg (by omega),if_neg hq,if_neg (by omega)]
theorem zqr{x:AHeld}(hc:¬can x=true){q:Int}(hq:q∉x.pod.reqs):(podTake x.pod q).1=x.pod∧(podTake x.pod q).2≠0:=by
 have:¬(x.pod.st=2∧(x.pod.reqs.length:Int)<x.pod.conc):=fun h=>hc (decide_eq_true h)
 unfold podTake
 by_cases h:x.pod.st≠2
 ·rw[if_pos h];exact⟨rfl,by simp⟩
 ·rw[if_neg h,if_neg hq,if_pos (by omega)];exact⟨rfl,by simp⟩
theorem zfF{l:List AHeld}(once:l.Pairwise (fun x y=>∀q∈x.pod.reqs,q∉y.pod.reqs)){x:AHeld}(hx:x∈l){q:Int}(hq:q∈x.pod.reqs):fWhere l q=some x:=by
 unfold fWhere
 induction l with
 | nil=>simp at hx
 | cons y l ih=>
  rw[List.pairwise_cons]at once
  rcases List.mem_cons.1 hx with rfl | hx
  ·rw[List.find?_cons_of_pos (by simpa using hq)]
  ·rw[List.find?_cons_of_neg (by simpa using fun h=>once.1 x hx q h hq)]
   exact ih once.2 hx
theorem zlp{F:AFleet}(ok:F.Ok)(rev:ByteArray)(q:Int):(fTake F rev q).1.Ok:=by
 unfold fTake
 split
 ·exact ok
 ·rename_i hw
  split
  ·exact ok
  ·rename_i x hp
   obtain⟨hx,-,hc⟩:=zhq hp
   have hn:fWhere F.l q=none:=by cases h:fWhere F.l q<;>simp[h]at hw ⊢
   have ht:=zmU hc (z9H hn x hx)
   have hcc:=of_decide_eq_true hc
   refine ok.upd (z8E ok.pw hx) _ ?_ ?_
   ·rw[ht];simp only;omega
   ·rw[ht]
    intro q2 h2
    rcases zbb.1 h2 with rfl | h2
    ·exact .inr hn
    ·exact .inl h2
theorem zr2(h:St w0 E w)(i:Nat){A B:List Tr}{t:Tr}(hi:nth E i=some ((A++t::B).map trS).flatten)(hp:PodS t.2.1 t.1.pod t.2.2)(hfew:t.1.pod.reqs.length<10000000){q:Int}{k:Int→PT}
  (hk:∀s' w',PodS t.2.1 (podTake t.1.pod q).1 s'→St w0 (setN E i ((A++({ t.1 with pod:=(podTake t.1.pod q).1 },t.2.1,s')::B).map trS).flatten) w'→k (podTake t.1.pod q).2 w') :
  L.call Pr z6D [.pointer (some ⟨t.2.1,0,none⟩),I q] (.one (.one (.int .i64))) k w:=by
 refine zrd (h.front i hi).pick 0 rfl hp hfew fun s' w hp' h=>hk s' w hp' ?_
 have h:St w0 (trS ({ t.1 with pod:=(podTake t.1.pod q).1 },t.2.1,s')::((A++B).map trS).flatten::delN E i) w:=h
 exact St.back i hi h.place
theorem FlR.same{F:AFleet}{A B:List Tr}{t:Tr}{mA mW}(hr:FlR F (A++t::B) mA mW){s':Seg}(hp:PodS t.2.1 t.1.pod s'):FlR F (A++(t.1,t.2.1,s')::B) mA mW:=by
 refine⟨by rw[hr.l];simp,fun y hy=>?_,by have:=hr.all;simp only[List.map_append,List.map_cons]at this ⊢;exact this,hr.wth⟩
 rcases List.mem_append.1 hy with hy | hy
 ·exact hr.ps y (by simp[hy])
 ·rcases List.mem_cons.1 hy with rfl | hy
  ·exact hp
  ·exact hr.ps y (by simp[hy])
theorem FlR.getW{F:AFleet}{L:List Tr}{mA mW}(hr:FlR F L mA mW)(q:Int):(mget mW q).isSome=(fWhere F.l q).isSome:=by rw[hr.wth];cases fWhere F.l q<;>rfl
theorem zru(h:St w0 E w)(i:Nat){b:Nat}{F:AFleet}{s:Seg}(hi:nth E i=some s)(hf:FlS b F s){rev:ByteArray}{q:Int}(h20:(revs F.l rev).length≤30)(hfew:∀x∈F.l,x.pod.reqs.length<10000000){k:Int×Bool×Unit→PT}
  (hk:∀s' w',FlS b (fTake F rev q).1 s'→St w0 (setN E i s') w'→k ((fTake F rev q).2.1,(fTake F rev q).2.2,()) w') :
  L.call Pr z66 [.pointer (some ⟨b,0,none⟩),.string rev,I q] (.tup [.one (.int .i64),.one .bool]) k w:=by
 have hf0:=hf
 obtain⟨ok,rA,rW,mA,mW,sA,sW,L,hA,hW,hr,rfl⟩:=hf
 refine z01 (zdf _ _ _) ?_
 unfold z8Q
 have hll:L.length=F.l.length:=by rw[hr.l];simp
 have hcount:=ok.few
 have h:St w0 (flB b rA rW F::sA::sW::(L.map trS).flatten::delN E i) w:=(h.front i hi).eq (by simp)
 (refine nn ?_;refine ldC h ?_)
 refine MpS.get2 mkI z4u zi (fun x:Int=>x) (fun _=>rfl) h 2 rfl hW ?_
 rw[hr.getW]
 refine it (fun hc=>?_) (fun hc=>?_)<;>(try simp only[zB]at hc)
 ·have e:fTake F rev q=(F,0,false):=by unfold fTake;rw[if_pos hc]
  rw[e]at hk
  exact⟨(0,false,()),rfl,hk _ w hf0 (St.back i hi (h.eq (by simp)))⟩
 have hn:fWhere F.l q=none:=by cases h:fWhere F.l q<;>simp[h]at hc ⊢
 have hno:=z9H hn
 refine nw h ?_;clear h;(try clear w);intro b4 w h
 refine S_of h fun c0 c1 w h=>?_
 have h:=fr3_ (fr3_ (fr4_ (fr4_ h)))
 have h:St w0 ([[Cl c1 z00 [.string rev]],[Cl c0 z0P [.pointer (some ⟨b,0,none⟩)]],flB b rA rW F,sA]++[Cl b4 z1a [SlV ⟨none,0,0⟩]]::[]::sW::(L.map trS).flatten::delN E i) w:=h.eq (by simp)
 have hR:=hr.revs rev
 have hlR:(L.filter (revP rev)).length≤30:=by rw[hR,List.length_map]at h20;exact h20
 refine z5j (A:=[_,_,_,_]) (Y_of ok hA hr) h (fun m G=>∃v sv,Rw eC z06 2 v (((L.filter (revP rev)).take m).map fun t=>key t.1) sv∧G = [Cl b4 z1a [SlV v]]::sv::sW::(L.map trS).flatten::delN E i) (fun j G=>False) ⟨_,_,Rw.nil,rfl⟩ ?_ ?_ ?_
 ·rintro m G X w lv lp d R hm ⟨v,sv,hv,rfl⟩ h hN hE
  have hx:=List.getElem?_eq_getElem hm
  have h:St w0 ([Rec lv lp .busy none]::[DfM d]::[Cl c1 z00 [.string rev]]::[Cl c0 z0P [.pointer (some ⟨b,0,none⟩)]]::flB b rA rW F::sA::[Cl b4 z1a [SlV v]]::sv::sW::(L.map trS).flatten::(delN E i++X)) w:=h
  rw[zhK hm]
  (try dsimp only)
  have hmem:=ziV hm
  have hps:=hr.ps _ hmem
  (refine dr h ?_;clear h;(try clear w);intro w h;refine ldC h ?_)
  refine zfP h 9 rfl hmem hps ?_
  (refine ckC h ?_)
  refine nw h ?_;clear h;(try clear w);intro b11 w h
  (refine ckC h ?_)
  refine Rw.app encC elC h 7 rfl hv (key (L.filter (revP rev))[m].1) rfl (by simp;omega) (by simp;omega) fun v' s' w hv h=>?_
  (dsimp only[setN,List.cons_append,List.nil_append]at h;refine stC h ?_;clear h;(try clear w);intro w h;dsimp only[putN,setN]at h)
  refine hN _ w ⟨v',s',?_,rfl⟩ h
  rw[List.take_add_one,hx,List.map_append];exact hv
 ·rintro d G w ⟨v,sv,hv,rfl⟩ h
  have h:St w0 ([DfM d]::[Cl c1 z00 [.string rev]]::[Cl c0 z0P [.pointer (some ⟨b,0,none⟩)]]::flB b rA rW F::sA::[Cl b4 z1a [SlV v]]::sv::sW::(L.map trS).flatten::delN E i) w:=h
  rw[List.take_length]at hv
  have e:(L.filter (revP rev)).map (fun t=>key t.1)=(revs F.l rev).map key:=by rw[hR,List.map_map];rfl
  rw[e]at hv
  have h:=dl1_ (dl2_ h)
  refine jumpN ?_
  (refine ldC h ?_)
  refine zpD h 4 rfl hv (by rw[List.length_map];omega) (by
   rw[List.pairwise_map]
   exact(ok.pw.filter _).imp fun hxy=>hxy) (fun c hc=>by
   obtain⟨x,hx,rfl⟩:=List.mem_map.1 hc
   have:=hfew x (List.mem_filter.1 hx).1
   simp only[key];omega) fun sv w hv h=>?_
  have hfp:=zj9 (p:=fun c=>((fFind F.l c.2).map can).getD false) _ (R:=revs F.l rev) rfl fun x hx=>by
   have:=z8E ok.pw (List.mem_filter.1 hx).1
   show((fFind F.l x.id).map can).getD false=_
   rw[this];rfl
  have hcm:∀c∈csort ((revs F.l rev).map key),∃x∈F.l,c=key x:=fun c hc=>by
   obtain⟨x,hx,rfl⟩:=List.mem_map.1 ((z5L _).mem_iff.1 hc)
   exact⟨x,(List.mem_filter.1 hx).1,rfl⟩
  have hpk:fPick F.l rev=(revs F.l rev).foldl pickStep none:=rfl
  rw[←hpk]at hfp
  have hcl:(csort ((revs F.l rev).map key)).length≤30:=by rw[z2K,List.length_map];exact h20
  have hlv:=Rw.len encC hv
  generalize csort ((revs F.l rev).map key)=cs at hv hfp hcm hcl hlv
  (dsimp only[setN,List.cons_append,List.nil_append]at h;refine ldC h ?_)
  have h:St w0 ([DfM d]::flB b rA rW F::sA::[Cl b4 z1a [SlV v]]::sv::sW::(L.map trS).flatten::delN E i) w:=h
  refine z0u (fun p y w=>∃(j:Nat)(L:List Tr),y=((j:Int),())∧p+j=cs.length∧(∀c∈cs.take j,((fFind F.l c.2).map can).getD false=false)∧FlR F L mA mW∧
   St w0 ([DfM d]::flB b rA rW F::sA::[Cl b4 z1a [SlV v]]::sv::sW::(L.map trS).flatten::delN E i) w) cs.length ⟨0,L,rfl,rfl,by simp,hr,h⟩ ?_
  clear hr hf0 hR hlR e hll
  clear h;(try clear w)
  rintro p y w ⟨j,L,rfl,hp,hfn,hr,h⟩ again hag
  (try dsimp only)
  refine it (fun hc=>?_) (fun hc=>?_)<;>(try simp only[zB]at hc)
  ·have hj:j<cs.length:=by omega
   have hxj:cs[j]? = some cs[j]:=List.getElem?_eq_getElem hj
   have hdrop:cs=cs.take j++cs[j]::cs.drop (j+1):=by rw[←List.drop_eq_getElem_cons hj,List.take_append_drop]
   obtain⟨x,hxl,hcx⟩:=hcm _ (List.getElem_mem hj)
   rw[hcx]at hxj hdrop
   have hfx:=z8E ok.pw hxl
   obtain⟨A,t,B,rfl,rfl,-⟩:=hr.at hfx
   have hg:=hr.get ok (t:=t) (by simp)
   have hps:=hr.ps t (by simp)
   have hqx:=hno t.1 hxl
   refine Rw.ix encC hv (by omega) (by simpa using hj) fun a ha=>?_
   rw[Int.toNat_natCast]at ha
   refine Rw.lda encC h 4 rfl hv ha hxj rfl ?_
   refine nw h ?_;clear h;(try clear w);intro b22 w h
   (refine stC h ?_;clear h;(try clear w);intro w h;dsimp only[putN,setN]at h;refine dr h ?_;clear h;(try clear w);intro w h;refine nn ?_;refine ldC h ?_;refine ldC h ?_)
   refine MpS.get mkI z4t zo (fun x:ByteArray×Option Addr=>(x.1,x.2,())) (fun _=>rfl) h 3 rfl hA ?_
   rw[show mget mA (key t.1).2=_ from hg]
   simp only[Option.map_some,Option.getD_some]
   refine zr2 h 7 rfl hps (hfew _ hxl) fun s' w hps' h=>?_
   by_cases hcan:can t.1=true
   ·have ht:=zmU hcan hqx
    refine itT (by rw[ht];rfl) ?_
    have hfd:fPick F.l rev=some t.1:=by
     have:cs.find? (fun c=>((fFind F.l c.2).map can).getD false)=some (key t.1):=by
      rw[hdrop,List.find?_append,List.find?_cons_of_pos (by show((fFind F.l t.1.id).map can).getD false=true;rw[hfx];exact hcan)]
      rw[List.find?_eq_none.2 (fun c hc=>by rw[hfn c hc];simp)]
      rfl
     rw[this]at hfp
     cases hpk:fPick F.l rev with
     | none=>rw[hpk]at hfp;cases hfp
     | some y=>
      rw[hpk]at hfp
      have hid:y.id=t.1.id:=by simp only[Option.map_some,Option.some.injEq,key,Prod.mk.injEq]at hfp;exact hfp.2.symm
      have h1:=z8E ok.pw (zhq hpk).1
      rw[hid,hfx]at h1
      exact h1.symm
    have e:fTake F rev q=({ F with l:=fUpd F.l t.1.id fun p=>(podTake p q).1 },t.1.id,true):=by
     unfold fTake;rw[hn,hfd];rfl
    have okT:=zlp ok rev q
    rw[e]at hk okT
    have hrq:(podTake t.1.pod q).1.reqs=insI q t.1.pod.reqs:=by rw[ht]
    have hst:(podTake t.1.pod q).1.st≠4:=by rw[ht];have:=of_decide_eq_true hcan;simp only;omega
    (dsimp only[setN,List.cons_append,List.nil_append]at h;refine dr h ?_;clear h;(try clear w);intro w h;refine nn ?_;refine ldC h ?_;refine ldC h ?_)
    refine MpS.set mkI z4u h 6 rfl hW t.1.id rfl fun sW' w hW' h=>?_
    (dsimp only[setN,List.cons_append,List.nil_append]at h;refine ldC h ?_)
    (first | refine um0_ h ?_ | refine um1_ h ?_ | refine um2_ h ?_ | refine um3_ h ?_ | refine um4_ h ?_ | refine um5_ h ?_ | refine um6_ h ?_ | refine um7_ h ?_ | refine um8_ h ?_ | refine um9_ h ?_ | refine z92 h ?_ | refine z91 h ?_);clear h;(try clear w);intro w h
    refine⟨(t.1.id,true,()),rfl,hk _ w ⟨okT,rA,rW,mA,_,sA,sW',_,hA,hW',hr.upd ok (fun p=>(podTake p q).1) hps' hst fun q'=>?_,rfl⟩ ?_⟩
    ·rw[z47,ok.where_upd hfx _ (fun q2 h2=>by
      rw[hrq]at h2
      rcases zbb.1 h2 with rfl | h2
      ·exact .inr hn
      ·exact .inl h2) (fun h4=>absurd h4 hst),hrq]
     by_cases eq:q=q'
     ·subst eq;rw[if_pos rfl,if_pos (zbb.2 (.inl rfl))]
     ·rw[if_neg eq]
      by_cases hq2:q'∈t.1.pod.reqs
      ·rw[if_pos (zbb.2 (.inr hq2)),hr.wth,zfF ok.once hxl hq2];rfl
      ·rw[if_neg (fun hh=>(zbb.1 hh).elim (fun e=>eq e.symm) hq2),if_neg hq2,hr.wth]
    ·refine St.back i hi ?_
     (try dsimp only[setN]at h)
     have h:=dl0_ (dl3_ (dl4_ h))
     exact h.eq (by simp)
   ·have ht:=zqr hcan hqx
    refine itF (by simpa using ht.2) ?_
    rw[ht.1]at hps'
    have h:=dl0_ h
    refine hag (p-1) _ w (by omega) ⟨j+1,A++(t.1,t.2.1,s')::B,?_,by omega,?_,hr.same hps',?_⟩
    ·rw[wr (by omega) (by omega)];simp
    ·intro c hc
     rw[List.take_add_one,hxj]at hc
     rcases List.mem_append.1 hc with hc | hc
     ·exact hfn c hc
     ·simp at hc;subst hc
      show((fFind F.l t.1.id).map can).getD false=false
      rw[hfx];simpa using hcan
    ·have h:St w0 ([DfM d]::flB b rA rW F::sA::[Cl b4 z1a [SlV v]]::sv::sW::((A++({ t.1 with pod:=(podTake t.1.pod q).1 },t.2.1,s')::B).map trS).flatten::delN E i) w:=h
     rw[ht.1]at h
     exact h
  ·have hj:j=cs.length:=by omega
   subst hj
   rw[List.take_length]at hfn
   have hfd:fPick F.l rev=none:=by
    rw[List.find?_eq_none.2 (fun c hc=>by rw[hfn c hc];simp)]at hfp
    cases hpk:fPick F.l rev with
    | none=>rfl
    | some y=>rw[hpk]at hfp;cases hfp
   have e:fTake F rev q=(F,0,false):=by unfold fTake;rw[hn,hfd];rfl
   rw[e]at hk
   (first | refine um0_ h ?_ | refine um1_ h ?_ | refine um2_ h ?_ | refine um3_ h ?_ | refine um4_ h ?_ | refine um5_ h ?_ | refine um6_ h ?_ | refine um7_ h ?_ | refine um8_ h ?_ | refine um9_ h ?_ | refine z92 h ?_ | refine z91 h ?_);clear h;(try clear w);intro w h
   refine⟨(0,false,()),rfl,hk _ w ⟨ok,rA,rW,mA,mW,sA,sW,L,hA,hW,hr,rfl⟩ (St.back i hi ?_)⟩
   have h:=dl2_ (dl3_ h)
   exact h.eq (by simp)
 ·rintro d j G w hf;exact hf.elim
def fGive(F:AFleet)(q:Int):AFleet×ByteArray×Int:=match fWhere F.l q with
 | none=>(F,s_,6)
 | some x=>({ F with l:=fUpd F.l x.id fun p=>(podGive p q).1 },x.rev,0)
def fKill(F:AFleet)(id:Int):AFleet×List Int×Int:=match fFind F.l id with
 | none=>(F,[],6)
 | some x=>({ F with l:=fUpd F.l id fun p=>(podKill p).1 },x.pod.reqs,0)
theorem z9G{l:List AHeld}{q:Int}{x:AHeld}(h:fWhere l q=some x):x∈l∧q∈x.pod.reqs:=⟨List.mem_of_find?_eq_some h,by simpa using List.find?_some h⟩
theorem zkf{p:APod}{q:Int}(h:q∈p.reqs):podGive p q=({ p with reqs:=p.reqs.erase q,st:=if p.st=3∧p.reqs.erase q = []then 4 else p.st },0):=by
 unfold podGive;rw[if_pos h]
theorem zr3(h:St w0 E w)(i:Nat){A B:List Tr}{t:Tr}(hi:nth E i=some ((A++t::B).map trS).flatten)(hp:PodS t.2.1 t.1.pod t.2.2){q:Int}{k:Int→PT}
  (hk:∀s' w',PodS t.2.1 (podGive t.1.pod q).1 s'→St w0 (setN E i ((A++({ t.1 with pod:=(podGive t.1.pod q).1 },t.2.1,s')::B).map trS).flatten) w'→k (podGive t.1.pod q).2 w') :
  L.call Pr z6E [.pointer (some ⟨t.2.1,0,none⟩),I q] (.one (.one (.int .i64))) k w:=by
 refine zrf (h.front i hi).pick 0 rfl hp fun s' w hp' h=>hk s' w hp' ?_
 have h:St w0 (trS ({ t.1 with pod:=(podGive t.1.pod q).1 },t.2.1,s')::((A++B).map trS).flatten::delN E i) w:=h
 exact St.back i hi h.place
theorem zrx(h:St w0 E w)(i:Nat){b:Nat}{F:AFleet}{s:Seg}(hi:nth E i=some s)(hf:FlS b F s){q:Int}{k:ByteArray×Int×Unit→PT}
  (hk:∀s' w',FlS b (fGive F q).1 s'→St w0 (setN E i s') w'→k ((fGive F q).2.1,(fGive F q).2.2,()) w') :
  L.call Pr z68 [.pointer (some ⟨b,0,none⟩),I q] (.tup [.one .str,.one (.int .i64)]) k w:=by
 have hf0:=hf
 obtain⟨ok,rA,rW,mA,mW,sA,sW,L,hA,hW,hr,rfl⟩:=hf
 refine z01 (zdh _ _) ?_
 unfold z8S
 have h:St w0 (flB b rA rW F::sA::sW::(L.map trS).flatten::delN E i) w:=(h.front i hi).eq (by simp)
 (refine nn ?_;refine ldC h ?_)
 refine MpS.get2 mkI z4u zi (fun x:Int=>x) (fun _=>rfl) h 2 rfl hW ?_
 have hwt:=hr.wth q
 cases hfw:fWhere F.l q with
 | none=>
  rw[hfw]at hwt
  rw[hwt]
  have e:fGive F q=(F,s_,6):=by unfold fGive;rw[hfw]
  rw[e]at hk
  refine itT rfl ?_
  exact⟨(s_,6,()),rfl,hk _ w hf0 (St.back i hi (h.eq (by simp)))⟩
 | some x=>
  rw[hfw]at hwt
  rw[hwt]
  refine itF rfl ?_
  obtain⟨hxl,hqx⟩:=z9G hfw
  have hfx:=z8E ok.pw hxl
  have e:fGive F q=({ F with l:=fUpd F.l x.id fun p=>(podGive p q).1 },x.rev,0):=by unfold fGive;rw[hfw]
  rw[e]at hk
  obtain⟨A,t,B,rfl,rfl,-⟩:=hr.at hfx
  have hg:=hr.get ok (t:=t) (by simp)
  have hps:=hr.ps t (by simp)
  simp only[Option.map_some,Option.getD_some]
  (refine nn ?_;refine ldC h ?_)
  refine MpS.get mkI z4t zo (fun x:ByteArray×Option Addr=>(x.1,x.2,())) (fun _=>rfl) h 1 rfl hA ?_
  rw[hg]
  simp only[Option.map_some,Option.getD_some]
  refine nw h ?_;clear h;(try clear w);intro b7 w h
  (refine stC h ?_;clear h;(try clear w);intro w h;dsimp only[putN,setN]at h;refine ldC h ?_)
  refine zr3 h 4 rfl hps fun s' w hps' h=>?_
  (try dsimp only[setN]at h)
  (refine nn ?_;refine ldC h ?_)
  refine MpS.del mkI z4u h 3 rfl hW fun sW' w hW' h=>?_
  (try dsimp only[setN]at h)
  have hgv:=zkf hqx
  have hlv:=ok.live t.1 hxl
  have hnd:t.1.pod.reqs.Nodup:=hps.1.pw.imp fun h=>by omega
  have hrq:(podGive t.1.pod q).1.reqs=t.1.pod.reqs.erase q:=by rw[hgv]
  have hq2:∀q2∈(podGive t.1.pod q).1.reqs,q2∈t.1.pod.reqs∨fWhere F.l q2=none:=fun q2 h2=>.inl (by rw[hrq]at h2;exact List.mem_of_mem_erase h2)
  have h4:(podGive t.1.pod q).1.st=4→(podGive t.1.pod q).1.reqs = []:=by
   rw[hgv];simp only;split
   ·rename_i h;exact fun _=>h.2
   ·intro h;omega
  have okG:=ok.upd hfx (fun p=>(podGive p q).1) (by rw[hgv];simp only;split<;>omega) hq2
  have hwth:∀q',mget (mdel mW q) q'=(fWhere (fUpd F.l t.1.id fun p=>(podGive p q).1) q').map (·.id):=fun q'=>by
   rw[zft _ _ hW.nd,ok.where_upd hfx _ hq2 h4,hrq]
   by_cases eq:q=q'
   ·subst eq
    rw[if_pos rfl,if_neg (by rw[List.Nodup.mem_erase_iff hnd];simp),if_pos hqx]
   ·rw[if_neg eq]
    by_cases h2:q'∈t.1.pod.reqs
    ·rw[if_pos ((List.Nodup.mem_erase_iff hnd).2 ⟨fun e=>eq e.symm,h2⟩),hr.wth,zfF ok.once hxl h2];rfl
    ·rw[if_neg (fun hh=>h2 (List.mem_of_mem_erase hh)),if_neg h2,hr.wth]
  have h:=fr4_ (fr4_ (fr4_ (fr4_ h)))
  refine zqh (t:=({ t.1 with pod:=(podGive t.1.pod q).1 },t.2.1,s')) h hA hg hps' (fun h4'=>?_) fun h4' sA' w hA' h=>?_
  ·(refine ldC h ?_)
   refine⟨(t.1.rev,0,()),rfl,hk _ w ⟨okG,rA,rW,mA,_,sA,sW',_,hA,hW',hr.upd ok (fun p=>(podGive p q).1) hps' h4' hwth,rfl⟩ (St.back i hi ?_)⟩
   have h:=dl4_ h
   exact h.eq (by simp)
  ·(refine ldC h ?_)
   refine⟨(t.1.rev,0,()),rfl,hk _ w ⟨okG,rA,rW,_,_,sA',sW',_,hA',hW',hr.del ok (fun p=>(podGive p q).1) h4' hwth,rfl⟩ (St.back i hi ?_)⟩
   have h:=dl4_ h
   exact h.eq (by simp)
def eH(p:Int×Int):List Value:=[I p.1,I p.2]
theorem encH:Enc eH 2:=⟨fun _=>rfl,fun _=>rfl,by decide⟩
theorem elH:El Pr z1o z2z 2 16 (.agg #[I 0,I 0]):=zem (by kernel_rfl) (by kernel_rfl) rfl (by decide)
def LnS(b:Nat)(room:Int)(l:List (Int×Int))(s:Seg):Prop:=∃v sr,Rw eH z2z 2 v l sr∧s = [Cl b z6z [SlV v,I room]]++sr
def lHas(l:List (Int×Int))(id:Int):Bool:=l.any fun x=>x.1 == id
def lPush(room:Int)(l:List (Int×Int))(id u:Int):List (Int×Int)×Int:=
 if lHas l id then(l,5)else if(l.length:Int)≥room then(l,8)else(l++[(id,u)],0)
def lPop:List (Int×Int)→List (Int×Int)×Int×Bool
 | []=>([],0,false)
 | x::l=>(l,x.1,true)
def lLate(l:List (Int×Int))(now:Int):List Int:=(l.filter fun x=>x.2≤now).map (·.1)
def lRest(l:List (Int×Int))(now:Int):List (Int×Int):=l.filter fun x=>!decide (x.2≤now)
theorem zsq(h:St w0 E w){room:Int}{k:Option Addr→PT}(hk:∀b s w',LnS b room [] s→St w0 (s::E) w'→k (some ⟨b,0,none⟩) w'):L.call Pr zdx [I room] (.one (.one .ptr)) k w:=by
 refine z01 (zmB _) ?_
 unfold zh0
 refine nw h ?_;clear h;(try clear w);intro b w h
 exact⟨_,rfl,hk b _ w ⟨⟨none,0,0⟩,[],Rw.nil,rfl⟩ (h.eq (by simp))⟩
theorem zo2(h:St w0 E w)(i:Nat){b:Nat}{room:Int}{l:List (Int×Int)}{s:Seg}(hi:nth E i=some s)(hl:LnS b room l s){k:Int→PT}(hk:k l.length w):L.call Pr z4y [.pointer (some ⟨b,0,none⟩)] (.one (.one (.int .i64))) k w:=by
 obtain⟨v,sr,hr,rfl⟩:=hl
 refine z01 (zg5 _) ?_
 unfold zaF
 have h:=(h.front i hi).split
 (refine nn ?_;refine ldC h ?_)
 refine⟨_,rfl,?_⟩
 rw[Rw.len encH hr];exact hk
theorem zlz(h:St w0 E w){b:Nat}{k:FV→PT}(hk:∀c w',St w0 ([Cl c z48 [.pointer (some ⟨b,0,none⟩)]]::E) w'→k ⟨.func z2w,#[],#[.pointer (some ⟨c,0,none⟩)]⟩ w') :
  L.call Pr z2k [.pointer (some ⟨b,0,none⟩)] (.one (.one .func)) k w:=by
 refine z01 (zc4 _) ?_
 unfold z7Y
 refine nw h ?_;clear h;(try clear w);intro c w h
 exact⟨_,rfl,hk c w h⟩
def argH(l:List (Int×Int))(m:Nat):TT [.one (.int .i64),.one (.int .i64)]:=(((l[m]?).getD (0,0)).1,((l[m]?).getD (0,0)).2,())
theorem zlu{b c T:Nat}{rm:Value}{v:Sl}{l:List (Int×Int)}{sr:Seg}(hr:Rw eH z2z 2 v l sr)(hn:l.length<1000000000) :
  Yld Pr w0 [[Cl c z48 [.pointer (some ⟨b,0,none⟩)]],[Cl b T [SlV v,rm]],sr] (.func (.func z2w) #[] #[.pointer (some ⟨c,0,none⟩)]) l.length fun m=>TV _ (argH l m):=by
 intro yv R J Jd F w h hJ step fin fin2
 have hlen:=Rw.len encH hr
 refine⟨zaL,zaP yv ⟨c,0,none⟩ ?_⟩
 unfold z6N
 (dsimp only[setN,List.cons_append,List.nil_append]at h;refine ldC h ?_;refine nn ?_;refine ldC h ?_)
 refine z0u (fun q y w=>∃(m:Nat)(F:List Seg),@Eq Int y.1 m∧q+m=l.length∧J m F∧St w0 ([Cl c z48 [.pointer (some ⟨b,0,none⟩)]]::[Cl b T [SlV v,rm]]::sr::F) w) l.length ⟨0,F,rfl,rfl,hJ,h⟩ ?_
 rintro q ⟨y,⟨⟩⟩ w ⟨m,F,hy,hq,hJ,h⟩ again hag
 simp only at hy
 subst hy
 refine it (fun hb=>?_) (fun hb=>?_)<;>(try simp only[zB]at hb)
 ·have hm:m<l.length:=by omega
  have hx:l[m]? = some l[m]:=List.getElem?_eq_getElem hm
  refine Rw.ix encH hr (by omega) (by simpa using hm) fun a ha=>?_
  refine Rw.lda encH h 2 rfl hr ha (x:=l[m]) (by simpa using hx) rfl ?_
  refine nw h ?_;clear h;(try clear w);intro b2 w h
  (refine stC h ?_;clear h;(try clear w);intro w h;dsimp only[putN,setN]at h;refine ldC h ?_;refine ldC h ?_)
  have h:=dl0_ h
  have ea:TV _ (argH l m) = [I l[m].1,I l[m].2]:=by simp[argH,hx];rfl
  have step:=step m F w hm hJ h
  simp only[ea]at step
  refine cv (FCall.mono step fun u w' hu=>?_)
  rcases hu with ⟨rfl,F',h,hJ⟩ | ⟨rfl,hd⟩
  ·refine⟨true,rfl,itF rfl (hag (q-1) _ _ (by omega) ⟨m+1,F',?_,by omega,hJ,h⟩)⟩
   show IntKind.wrap .i64 _=_
   rw[wr (by omega) (by omega)];omega
  ·exact⟨false,rfl,itT rfl (fin2 w' hd)⟩
 ·have e:m=l.length:=by omega
  subst e
  exact fin F w hJ h
theorem zhL{l:List (Int×Int)}{m:Nat}{x:Int×Int}(hx:l[m]? = some x):argH l m=(x.1,x.2,()):=by simp[argH,hx]
theorem zny{l:List (Int×Int)}{id:Int}{m:Nat}{x:Int×Int}(hx:l[m]? = some x):lHas (l.take (m+1)) id=(lHas (l.take m) id||x.1 == id):=by
 simp[lHas,List.take_add_one,hx]
theorem zqK{l:List (Int×Int)}{id:Int}{m:Nat}{x:Int×Int}(hx:l[m]? = some x)(h:x.1=id):lHas l id=true:=by
 simp only[lHas,List.any_eq_true]
 exact⟨x,List.mem_of_getElem? hx,by simpa using h⟩
theorem zti(h:St w0 E w)(i:Nat){b:Nat}{room:Int}{l:List (Int×Int)}{s:Seg}(hi:nth E i=some s)(hl:LnS b room l s)(hn:l.length<1000000000){id:Int}{k:Bool→PT}(hk:∀w',St w0 E w'→k (lHas l id) w') :
  L.call Pr z5W [.pointer (some ⟨b,0,none⟩),I id] (.one (.one .bool)) k w:=by
 obtain⟨v,sr,hr,rfl⟩:=hl
 refine z01 (zd3 _ _) ?_
 unfold z8G
 have h:=(h.front i hi).split
 refine nw h ?_;clear h;(try clear w);intro b1 w h
 refine nw h ?_;clear h;(try clear w);intro b2 w h
 refine zlz h fun c w h=>?_
 have h:=fr2_ (fr4_ (fr4_ h))
 refine zcr (zlu hr hn) h (fun m F=>F = [Cl b2 z1U [.bool (lHas (l.take m) id)]]::[Cl b1 z0h [I id]]::delN E i∧lHas (l.take m) id=false)
  (fun j G=>∃s0 s1,G=s0::[Cl b z6z [SlV v,I room]]::sr::[Cl b2 z1U [.bool true]]::s1::delN E i∧lHas l id=true∧j = .ret) ⟨rfl,rfl⟩ ?_ ?_ ?_
 ·rintro m F w lv lp d R hm ⟨rfl,hf⟩ h hN hE
  have hx:l[m]? = some l[m]:=List.getElem?_eq_getElem hm
  rw[zhL hx]
  have ht:=zny (id:=id) hx
  (dsimp only[setN,List.cons_append,List.nil_append]at h;refine ldC h ?_)
  refine it (fun hb=>?_) (fun hb=>?_)<;>(try simp only[zB]at hb)
  ·(refine stC h ?_;clear h;(try clear w);intro w h;dsimp only[putN,setN]at h)
   exact hE _ _ w ⟨_,_,rfl,zqK hx hb,rfl⟩ h
  ·refine hN _ w ⟨rfl,?_⟩ ?_
   ·rw[ht,hf];simpa using hb
   ·rw[ht,hf]
    have:(false||l[m].1 == id)=false:=by simpa using hb
    rw[this,←hf];exact h
 ·rintro d F w ⟨rfl,hf⟩ h
  refine jumpN ?_
  rw[List.take_length]at hf h
  (dsimp only[setN,List.cons_append,List.nil_append]at h;refine stC h ?_;clear h;(try clear w);intro w h;dsimp only[putN,setN]at h)
  (first | refine um0_ h ?_ | refine um1_ h ?_ | refine um2_ h ?_ | refine um3_ h ?_ | refine um4_ h ?_ | refine um5_ h ?_ | refine um6_ h ?_ | refine um7_ h ?_ | refine um8_ h ?_ | refine um9_ h ?_ | refine z92 h ?_ | refine z91 h ?_);clear h;(try clear w);intro w h
  (refine ldC h ?_)
  refine⟨_,rfl,?_⟩
  rw[←hf]
  refine hk w ?_
  have h:=dl0_ (dl3_ (dl4_ h))
  have h:=St.back i hi h.glue
  rwa [z2h hi]at h
 ·rintro d j F w ⟨_,_,rfl,hf,rfl⟩ h
  refine jumpR ?_
  (first | refine um0_ h ?_ | refine um1_ h ?_ | refine um2_ h ?_ | refine um3_ h ?_ | refine um4_ h ?_ | refine um5_ h ?_ | refine um6_ h ?_ | refine um7_ h ?_ | refine um8_ h ?_ | refine um9_ h ?_ | refine z92 h ?_ | refine z91 h ?_);clear h;(try clear w);intro w h
  (refine ldC h ?_)
  refine⟨_,rfl,?_⟩
  rw[←hf]
  refine hk w ?_
  have h:=dl0_ (dl3_ (dl4_ h))
  have h:=St.back i hi h.glue
  rwa [z2h hi]at h
theorem St.setN_same{s:Seg}(i:Nat)(hi:nth E i=some s)(h:St w0 (setN E i s) w):St w0 E w:=by rwa [z2h hi]at h
theorem zsU(h:St w0 E w)(i:Nat){b:Nat}{room:Int}{l:List (Int×Int)}{s:Seg}(hi:nth E i=some s)(hl:LnS b room l s)(hn:l.length<1000000000){id u:Int}{k:Int→PT}
  (hk:∀s' w',LnS b room (lPush room l id u).1 s'→St w0 (setN E i s') w'→k (lPush room l id u).2 w'):L.call Pr z5u [.pointer (some ⟨b,0,none⟩),I id,I u] (.one (.one (.int .i64))) k w:=by
 refine z01 (zeq _ _ _) ?_
 unfold z9Q
 (refine nn ?_)
 refine zti h i hi hl hn fun w h=>?_
 refine it (fun hb=>?_) (fun hb=>?_)<;>(try simp only[zB]at hb)
 ·have e:lPush room l id u=(l,5):=by simp[lPush,hb]
  rw[e]at hk
  exact⟨_,rfl,hk s w hl (by rwa [z2h hi])⟩
 have hl':=hl
 obtain⟨v,sr,hr,rfl⟩:=hl
 (refine dr h ?_;clear h;(try clear w);intro w h;refine nn ?_)
 have h:=(h.front i hi).split
 refine ldx h 0 rfl rfl rfl ?_
 have h:St w0 E w:=by have h:=St.back i hi h.glue;rwa [z2h hi]at h
 refine zo2 h i hi hl' ?_
 have h:=(h.front i hi).split
 (refine ckC h ?_)
 refine it (fun hc=>?_) (fun hc=>?_)<;>(try simp only[zB]at hc)
 ·have e:lPush room l id u=(l,8):=by simp only[lPush,hb];rw[if_neg (by simp),if_pos hc]
  rw[e]at hk
  exact⟨_,rfl,hk _ w hl' (St.back i hi h.glue)⟩
 have e:lPush room l id u=(l++[(id,u)],0):=by simp only[lPush,hb];rw[if_neg (by simp),if_neg hc]
 rw[e]at hk
 (refine nn ?_;refine ldC h ?_)
 refine nw h ?_;clear h;(try clear w);intro b8 w h
 refine Rw.app encH elH h 1 rfl hr (id,u) rfl (by omega) (by omega) fun v' s' w hr h=>?_
 (dsimp only[setN,List.cons_append,List.nil_append]at h;refine nn ?_;refine stC h ?_;clear h;(try clear w);intro w h;dsimp only[putN,setN]at h)
 exact⟨_,rfl,hk _ w ⟨v',s',hr,rfl⟩ (St.back i hi h.glue)⟩
theorem ztt(h:St w0 E w)(i:Nat){b:Nat}{room:Int}{l:List (Int×Int)}{s:Seg}(hi:nth E i=some s)(hl:LnS b room l s)(hn:l.length<1000000000){k:Int×Bool×Unit→PT}
  (hk:∀s' w',LnS b room (lPop l).1 s'→St w0 (setN E i s') w'→k ((lPop l).2.1,(lPop l).2.2,()) w'):L.call Pr z7O [.pointer (some ⟨b,0,none⟩)] (.tup [.one (.int .i64),.one .bool]) k w:=by
 obtain⟨v,sr,hr,rfl⟩:=hl
 refine z01 (zg4 _) ?_
 unfold zaE
 have h:=(h.front i hi).split
 refine nw h ?_;clear h;(try clear w);intro b1 w h
 refine nw h ?_;clear h;(try clear w);intro b2 w h
 refine nw h ?_;clear h;(try clear w);intro b3 w h
 (refine ldC h ?_;refine nn ?_)
 refine zlz h fun c w h=>?_
 have h:=fr2_ (fr5_ (fr5_ h))
 have hlen:=Rw.len encH hr
 have hY:=(zlu (w0:=w0) (b:=b) (c:=c) (T:=z6z) (rm:=I room) hr hn)
 cases l with
 | nil=>
  refine zcr hY h (fun m F=>F = [Cl b3 z1U [.bool false]]::[Cl b2 z0h [I 0]]::[Cl b1 z3V [.pointer (some ⟨b,0,none⟩)]]::delN E i) (fun j F=>False) rfl ?_ ?_ ?_
  ·intro m F w lv lp d R hm;simp at hm
  ·rintro d F w rfl h
   refine jumpN ?_
   (dsimp only[setN,List.cons_append,List.nil_append]at h;refine stC h ?_;clear h;(try clear w);intro w h;dsimp only[putN,setN]at h;refine stC h ?_;clear h;(try clear w);intro w h;dsimp only[putN,setN]at h)
   (first | refine um0_ h ?_ | refine um1_ h ?_ | refine um2_ h ?_ | refine um3_ h ?_ | refine um4_ h ?_ | refine um5_ h ?_ | refine um6_ h ?_ | refine um7_ h ?_ | refine um8_ h ?_ | refine um9_ h ?_ | refine z92 h ?_ | refine z91 h ?_);clear h;(try clear w);intro w h
   (refine ldC h ?_;refine ldC h ?_)
   refine⟨(0,false,()),rfl,hk _ w ⟨v,sr,hr,rfl⟩ ?_⟩
   have h:=dl0_ (dl3_ (dl4_ (dl5_ h)))
   exact St.back i hi h.glue
  ·rintro d j F w hf;exact hf.elim
 | cons x l=>
  have hr':=Rw.behind encH hr 1 (by simp)
  have hc:=hr.cap
  refine zcr hY h (fun m F=>m=0∧F = [Cl b3 z1U [.bool false]]::[Cl b2 z0h [I 0]]::[Cl b1 z3V [.pointer (some ⟨b,0,none⟩)]]::delN E i)
   (fun j G=>j = .ret∧∃s0 s1 v',Rw eH z2z 2 v' l sr∧G=s0::[Cl b z6z [SlV v',I room]]::sr::[Cl b3 z1U [.bool true]]::[Cl b2 z0h [I x.1]]::s1::delN E i) ⟨rfl,rfl⟩ ?_ ?_ ?_
  ·rintro m F w lv lp d R hm ⟨rfl,rfl⟩ h hN hE
   rw[zhL (x:=x) rfl]
   (dsimp only[setN,List.cons_append,List.nil_append]at h;refine dr h ?_;clear h;(try clear w);intro w h;refine ldC h ?_;refine ldC h ?_;refine nn ?_;refine ldC h ?_)
   simp only[List.length_cons]at hlen
   refine gd (by(try dsimp only);omega) ?_
   (refine nn ?_;refine stC h ?_;clear h;(try clear w);intro w h;dsimp only[putN,setN]at h;refine stC h ?_;clear h;(try clear w);intro w h;dsimp only[putN,setN]at h;refine stC h ?_;clear h;(try clear w);intro w h;dsimp only[putN,setN]at h)
   simp only[Int.toNat_natCast,show Int.toNat 1=1 from rfl]at h
   refine hE _ _ w ?_ h
   exact⟨rfl,_,_,_,hr',rfl⟩
  ·rintro d F w ⟨hm,-⟩;simp at hm
  ·rintro d j G w ⟨rfl,_,_,v',hr',rfl⟩ h
   refine jumpR ?_
   (first | refine um0_ h ?_ | refine um1_ h ?_ | refine um2_ h ?_ | refine um3_ h ?_ | refine um4_ h ?_ | refine um5_ h ?_ | refine um6_ h ?_ | refine um7_ h ?_ | refine um8_ h ?_ | refine um9_ h ?_ | refine z92 h ?_ | refine z91 h ?_);clear h;(try clear w);intro w h
   (refine ldC h ?_;refine ldC h ?_)
   refine⟨(x.1,true,()),rfl,hk _ w ⟨v',sr,hr',rfl⟩ ?_⟩
   have h:=dl0_ (dl3_ (dl4_ (dl5_ h)))
   exact St.back i hi h.glue
theorem zt1(h:St w0 E w)(i:Nat){b:Nat}{room:Int}{l:List (Int×Int)}{s:Seg}(hi:nth E i=some s)(hl:LnS b room l s)(hn:l.length<1000000000){k:Sl→PT}
  (hk:∀v s' w',Rw eI z0h 1 v (l.map (·.1)) s'→St w0 (s'::E) w'→k v w'):L.call Pr z5X [.pointer (some ⟨b,0,none⟩)] (.one (.one .slice)) k w:=by
 have hl':=hl
 obtain⟨v,sr,hr,rfl⟩:=hl
 refine z01 (zg6 _) ?_
 unfold zaG
 refine zo2 h i hi hl' ?_
 refine mk0 elI encI h (by omega) (by omega) (by omega) fun v2 s2 w hr2 h=>?_
 refine nw h ?_;clear h;(try clear w);intro b3 w h
 (refine stC h ?_;clear h;(try clear w);intro w h;dsimp only[putN,setN]at h;refine nn ?_)
 refine zlz h fun c w h=>?_
 have h:=(h.front (i+3) hi).split
 have h:=fr2_ (fr1_ (fr1_ h))
 refine zcr (zlu hr hn) h (fun m F=>∃v2 s2,F = [Cl b3 z1b [SlV v2]]::s2::delN E i∧Rw eI z0h 1 v2 ((l.take m).map (·.1)) s2)
  (fun j G=>False) ⟨_,_,rfl,hr2⟩ ?_ ?_ ?_
 ·rintro m F w lv lp d R hm ⟨v2,s2,rfl,hr2⟩ h hN hE
  have hx:l[m]? = some l[m]:=List.getElem?_eq_getElem hm
  rw[zhL hx]
  (dsimp only[setN,List.cons_append,List.nil_append]at h;refine ldC h ?_)
  refine nw h ?_;clear h;(try clear w);intro b12 w h
  refine Rw.app encI elI h 6 rfl hr2 l[m].1 rfl (by simp;omega) (by simp;omega) fun v' s' w hr h=>?_
  (dsimp only[setN,List.cons_append,List.nil_append]at h;refine stC h ?_;clear h;(try clear w);intro w h;dsimp only[putN,setN]at h)
  refine hN _ w ⟨v',s',rfl,?_⟩ h
  rw[List.take_add_one,hx,List.map_append]
  exact hr
 ·rintro d F w ⟨v2,s2,rfl,hr2⟩ h
  refine jumpN ?_
  (dsimp only[setN,List.cons_append,List.nil_append]at h;refine ldC h ?_)
  (first | refine um0_ h ?_ | refine um1_ h ?_ | refine um2_ h ?_ | refine um3_ h ?_ | refine um4_ h ?_ | refine um5_ h ?_ | refine um6_ h ?_ | refine um7_ h ?_ | refine um8_ h ?_ | refine um9_ h ?_ | refine z92 h ?_ | refine z91 h ?_);clear h;(try clear w);intro w h
  rw[List.take_length]at hr2
  refine⟨v2,rfl,hk _ s2 w hr2 ?_⟩
  have h:=fr3_ (fr3_ (fr4_ h))
  have h:=dl3_ (dl4_ h)
  have h:=St.back (i+1) (E:=s2::E) hi h.glue
  have h:=St.setN_same (i+1) (E:=s2::E) hi h
  exact h
 ·rintro d j F w hf;exact hf.elim
theorem zgM{l:List (Int×Int)}{now:Int}{m:Nat}{x:Int×Int}(hx:l[m]? = some x):lLate (l.take (m+1)) now=lLate (l.take m) now++(if x.2≤now then [x.1]else []):=by
 simp only[lLate,List.take_add_one,hx,List.filter_append,List.map_append]
 congr 1
 by_cases h:x.2≤now<;>simp[h]
theorem zgL{l:List (Int×Int)}{now:Int}{m:Nat}{x:Int×Int}(hx:l[m]? = some x):lRest (l.take (m+1)) now=lRest (l.take m) now++(if x.2≤now then []else [x]):=by
 simp only[lRest,List.take_add_one,hx,List.filter_append]
 congr 1
 by_cases h:x.2≤now<;>simp[h]
theorem ziY(l:List (Int×Int))(now:Int):(lLate l now).length≤l.length:=by
 unfold lLate;rw[List.length_map];exact List.length_filter_le ..
theorem ziX(l:List (Int×Int))(now:Int):(lRest l now).length≤l.length:=List.length_filter_le ..
theorem zsW(h:St w0 E w)(i:Nat){b:Nat}{room:Int}{l:List (Int×Int)}{s:Seg}(hi:nth E i=some s)(hl:LnS b room l s)(hn:l.length<1000000000){now:Int}{k:Sl→PT}
  (hk:∀v s' s2 w',LnS b room (lRest l now) s'→Rw eI z0h 1 v (lLate l now) s2→St w0 (s2::setN E i s') w'→k v w'):L.call Pr z73 [.pointer (some ⟨b,0,none⟩),I now] (.one (.one .slice)) k w:=by
 obtain⟨v,sr,hr,rfl⟩:=hl
 refine z01 (zer _ _) ?_
 unfold z9R
 (refine nn ?_)
 refine z01 (zc3 _ _) ?_
 unfold z7X
 have h:=(h.front i hi).split
 refine nw h ?_;clear h;(try clear w);intro b1 w h
 refine nw h ?_;clear h;(try clear w);intro b2 w h
 refine nw h ?_;clear h;(try clear w);intro b3 w h
 refine zlz h fun c w h=>?_
 have h:=fr2_ (fr5_ (fr5_ h))
 have h:St w0 ([Cl c z48 [.pointer (some ⟨b,0,none⟩)]]::[Cl b z6z [SlV v,I room]]::sr::[Cl b3 z1o [SlV ⟨none,0,0⟩]]::[]::[Cl b2 z1b [SlV ⟨none,0,0⟩]]::[]::[Cl b1 z0h [I now]]::delN E i) w:=h.eq (by simp)
 refine zcr (zlu hr hn) h (fun m F=>∃v2 s2 v3 s3,F = [Cl b3 z1o [SlV v3]]::s3::[Cl b2 z1b [SlV v2]]::s2::[Cl b1 z0h [I now]]::delN E i∧Rw eI z0h 1 v2 (lLate (l.take m) now) s2∧Rw eH z2z 2 v3 (lRest (l.take m) now) s3)
  (fun j G=>False) ⟨_,_,_,_,rfl,Rw.nil,Rw.nil⟩ ?_ ?_ ?_
 ·rintro m F w lv lp d R hm ⟨v2,s2,v3,s3,rfl,hr2,hr3⟩ h hN hE
  have hx:l[m]? = some l[m]:=List.getElem?_eq_getElem hm
  have n2:=ziY (l.take m) now
  have n3:=ziX (l.take m) now
  simp only[List.length_take]at n2 n3
  rw[zhL hx]
  (dsimp only[setN,List.cons_append,List.nil_append]at h;refine ldC h ?_)
  refine it (fun hb=>?_) (fun hb=>?_)<;>(try simp only[zB]at hb)
  ·(refine ldC h ?_)
   refine nw h ?_;clear h;(try clear w);intro b12 w h
   refine Rw.app encI elI h 8 rfl hr2 l[m].1 rfl (by omega) (by omega) fun v' s' w hr' h=>?_
   (dsimp only[setN,List.cons_append,List.nil_append]at h;refine stC h ?_;clear h;(try clear w);intro w h;dsimp only[putN,setN]at h)
   refine hN _ w ⟨v',s',v3,s3,rfl,?_,?_⟩ h
   ·rw[zgM hx,if_pos hb];exact hr'
   ·rw[zgL hx,if_pos hb,List.append_nil];exact hr3
  ·(refine ldC h ?_)
   refine nw h ?_;clear h;(try clear w);intro b15 w h
   refine Rw.app encH elH h 6 rfl hr3 l[m] rfl (by omega) (by omega) fun v' s' w hr' h=>?_
   (dsimp only[setN,List.cons_append,List.nil_append]at h;refine stC h ?_;clear h;(try clear w);intro w h;dsimp only[putN,setN]at h)
   refine hN _ w ⟨v2,s2,v',s',rfl,?_,?_⟩ h
   ·rw[zgM hx,if_neg hb,List.append_nil];exact hr2
   ·rw[zgL hx,if_neg hb];exact hr'
 ·rintro d F w ⟨v2,s2,v3,s3,rfl,hr2,hr3⟩ h
  refine jumpN ?_
  rw[List.take_length]at hr2 hr3
  have n2:=ziY l now
  (dsimp only[setN,List.cons_append,List.nil_append]at h;refine ldC h ?_;refine nn ?_;refine stC h ?_;clear h;(try clear w);intro w h;dsimp only[putN,setN]at h;refine ldC h ?_)
  refine zcG h (hr2.rd encI h 7 rfl) (by omega) (Rw.nil_of encI hr2) fun v' s' w hr' _ h=>?_
  (first | refine um0_ h ?_ | refine um1_ h ?_ | refine um2_ h ?_ | refine um3_ h ?_ | refine um4_ h ?_ | refine um5_ h ?_ | refine um6_ h ?_ | refine um7_ h ?_ | refine um8_ h ?_ | refine um9_ h ?_ | refine z92 h ?_ | refine z91 h ?_);clear h;(try clear w);intro w h
  refine⟨v',rfl,v',rfl,hk v' _ s' w ⟨v3,s3,hr3,rfl⟩ hr' ?_⟩
  have h:=fr3_ (fr5_ h)
  have h:=dl3_ (dl4_ (dl5_ (dl6_ (dl7_ (dl8_ h)))))
  exact St.back (i+1) (E:=s'::E) hi h.glue
 ·rintro d j F w hf;exact hf.elim
def vReq(x:ByteArray×Int):Value:=.agg #[.string x.1,I x.2]
abbrev Fate:=HT [.int .i64,.int .i64,.int .i64,.str]
abbrev eFate:E1:=.agg [.int .i64,.int .i64,.int .i64,.str]
abbrev Fate.cells(f:Fate):List Value:=[I f.1,I f.2.1,I f.2.2.1,.string f.2.2.2.1]
theorem encF:Enc Fate.cells 4:=⟨fun _=>rfl,fun _=>rfl,by decide⟩
theorem elF:El Pr z0d z0a 4 40 (.agg #[I 0,I 0,I 0,.string s_]):=zem (by kernel_rfl) (by kernel_rfl) rfl (by decide)
structure AGate where
 all:List (Int×(ByteArray×Int))
 lines:List (ByteArray×List (Int×Int))
 room:Int
 pat:Int
structure AGate.Ok(G:AGate):Prop where
 few:G.all.length<100000000
 lo:0≤G.room
 hi:G.room≤1000000
 ln:∀x∈G.lines,(x.2.length:Int)≤G.room
 nd:(G.lines.map (·.1)).Nodup
 nda:(G.all.map (·.1)).Nodup
 fl:G.lines.length<100000000
structure LnE where
 k:ByteArray
 b:Nat
 l:List (Int×Int)
 sg:Seg
abbrev LnE.kp(x:LnE):ByteArray×Option Addr:=(x.k,some ⟨x.b,0,none⟩)
abbrev LnE.ka(x:LnE):ByteArray×List (Int×Int):=(x.k,x.l)
abbrev gtB(b bf rA rL c:Nat)(room pat:Int):Seg:=[Cl b zfN [.pointer (some ⟨bf,0,none⟩),.map (some rA),.map (some rL),.func (.func z8D) #[] #[.pointer (some ⟨c,0,none⟩)],I room,I pat]]
structure GtR(G:AGate)(rA rL:Nat)(sA sL:Seg)(Q:List LnE):Prop where
 all:MpS KI vReq rA G.all sA
 lns:MpS Value.string Value.pointer rL (Q.map LnE.kp) sL
 each:∀x∈Q,LnS x.b G.room x.l x.sg
 abs:G.lines=Q.map LnE.ka
def GtS(b bf:Nat)(G:AGate)(s:Seg):Prop:=G.Ok∧∃rA rL c sA sL,∃Q:List LnE,GtR G rA rL sA sL Q∧
 s=gtB b bf rA rL c G.room G.pat++([Cl c z0h [I G.room]]++(sA++(sL++(Q.map LnE.sg).flatten)))
theorem zf6:Pr.underlying z1p=some (.map z0h z0S):=by kernel_rfl
theorem zbM:Pr.underlying z0I=some (.map z00 z3V):=by kernel_rfl
theorem zkK:Pr.underlying z00=some .string:=by kernel_rfl
theorem mkS':MK Pr z00 Value.string:=znu zkK
theorem zreq(w:World):(zeroValue z0S).run Pr w = .ok ((E1.agg [.str,.int .i64]).val (s_,0,())) w:=by
 have h:(Pr.info? z0S).map (·.zero)=some (some (.agg #[.string s_,I 0])):=by kernel_rfl
 cases hi:Pr.info? z0S with
 | none=>rw[hi]at h;cases h
 | some i=>rw[hi]at h;simp only[Option.map_some,Option.some.injEq]at h;exact zv hi h w
theorem zln(w:World):(zeroValue z3V).run Pr w = .ok ((E1.one .ptr).val none) w:=by
 have h:(Pr.info? z3V).map (·.zero)=some (some (.pointer none)):=by kernel_rfl
 cases hi:Pr.info? z3V with
 | none=>rw[hi]at h;cases h
 | some i=>rw[hi]at h;simp only[Option.map_some,Option.some.injEq]at h;exact zv hi h w
theorem zsH(h:St w0 E w){bf:Nat}{room pat:Int}(h0:0≤room)(h1:room≤1000000){k:Option Addr→PT}(hk:∀b s w',GtS b bf ⟨[],[],room,pat⟩ s→St w0 (s::E) w'→k (some ⟨b,0,none⟩) w') :
  L.call Pr zdB [.pointer (some ⟨bf,0,none⟩),I room,I pat] (.one (.one .ptr)) k w:=by
 refine z01 (zmI _ _ _) ?_
 unfold zh7
 refine nw h ?_;clear h;(try clear w);intro c w h
 refine MpS.new h KI vReq fun rA sA w hA h=>?_
 refine MpS.new h Value.string Value.pointer fun rL sL w hL h=>?_
 (refine ldC h ?_)
 refine nw h ?_;clear h;(try clear w);intro b w h
 refine⟨_,rfl,hk b _ w ⟨⟨by simp,h0,h1,by simp,by simp,by simp,by simp⟩,rA,rL,c,sA,sL,[],⟨hA,hL,by simp,rfl⟩,rfl⟩ ?_⟩
 have h:=fr3_ (fr3_ (fr2_ (fr1_ h)))
 exact h.eq (by simp)
def fset(f:Fate)(id:Int):Fate:=(id,f.2.1,f.2.2.1,f.2.2.2.1,())
theorem zgY{b bf rA rL c:Nat}{room pat:Int}{sA:Seg}{all:List (Int×(ByteArray×Int))}(hA:MpS KI vReq rA all sA)(h:St w0 (gtB b bf rA rL c room pat::sA::E) w){id:Int}{rev:ByteArray}{f:Fate}{k:eFate.T→PT}
  (hk:∀sA' w',MpS KI vReq rA (mset all id (rev,f.2.1)) sA'→St w0 (gtB b bf rA rL c room pat::sA'::E) w'→k (fset f id) w') :
  L.call Pr z1w [.pointer (some ⟨b,0,none⟩),I id,.string rev,.agg (Fate.cells f).toArray] (.one eFate) k w:=by
 refine z01 (zga _ _ _ f) ?_
 unfold zaK
 refine nw h ?_;clear h;(try clear w);intro b1 w h
 refine nw h ?_;clear h;(try clear w);intro b2 w h
 (refine stC h ?_;clear h;(try clear w);intro w h;dsimp only[putN,setN]at h;refine dr h ?_;clear h;(try clear w);intro w h;refine nn ?_;refine ldC h ?_;refine ldC h ?_)
 refine MpS.set mkI zf6 h 3 rfl hA (rev,f.2.1) rfl fun sA' w hA' h=>?_
 have h:St w0 ([Cl b2 z0a [I 0,I 0,I 0,.string s_]]::[Cl b1 z0a [I id,I f.2.1,I f.2.2.1,.string f.2.2.2.1]]::gtB b bf rA rL c room pat::sA'::E) w:=h
 (refine laC h ?_;refine stC h ?_;clear h;(try clear w);intro w h;dsimp only[putN,setN]at h;refine laC h ?_)
 exact⟨fset f id,rfl,hk sA' w hA' (dl0_ (dl0_ h))⟩
theorem zly(h:St w0 E w){s:ByteArray}{k:eFate.T→PT}(hk:∀w',St w0 E w'→k (0,4,0,s,()) w'):L.call Pr z6w [.string s] (.one eFate) k w:=by
 refine z01 (zmH _) ?_
 unfold zh6
 refine nw h ?_;clear h;(try clear w);intro b1 w h
 (refine stC h ?_;clear h;(try clear w);intro w h;dsimp only[putN,setN]at h;refine laC h ?_)
 exact⟨_,rfl,hk w (dl0_ h)⟩
def gSeen(all:List (Int×(ByteArray×Int)))(id:Int):Bool:=(mget all id).isSome
theorem zro{b bf rA rL c:Nat}{room pat:Int}{sA:Seg}{all:List (Int×(ByteArray×Int))}(hA:MpS KI vReq rA all sA)(h:St w0 (gtB b bf rA rL c room pat::sA::E) w){id:Int}{k:Bool→PT}
  (hk:∀w',St w0 (gtB b bf rA rL c room pat::sA::E) w'→k (gSeen all id) w') :
  L.call Pr z78 [.pointer (some ⟨b,0,none⟩),I id] (.one (.one .bool)) k w:=by
 refine z01 (zez _ _) ?_
 unfold z9Y
 (refine nn ?_;refine ldC h ?_)
 refine MpS.get2 mkI zf6 zreq (fun x:ByteArray×Int=>(x.1,x.2,())) (fun _=>rfl) h 1 rfl hA ?_
 refine nw h ?_;clear h;(try clear w);intro b4 w h
 (refine stC h ?_;clear h;(try clear w);intro w h;dsimp only[putN,setN]at h)
 exact⟨_,rfl,hk w (dl0_ h)⟩
def gSend(F:AFleet)(all:List (Int×(ByteArray×Int)))(id:Int)(rev:ByteArray):AFleet×List (Int×(ByteArray×Int))×Fate×Bool:=
 if(fTake F rev id).2.2=true then((fTake F rev id).1,mset all id (rev,1),(id,1,(fTake F rev id).2.1,s_,()),true)else((fTake F rev id).1,all,(0,0,0,s_,()),false)
theorem zof{b bf rA rL c:Nat}{room pat:Int}{sA sf:Seg}{all:List (Int×(ByteArray×Int))}{F:AFleet}(hA:MpS KI vReq rA all sA)(hf:FlS bf F sf)(h20:F.l.length≤30)(hfew:∀x∈F.l,x.pod.reqs.length<10000000)(h:St w0 (gtB b bf rA rL c room pat::sA::sf::E) w){id:Int}{rev:ByteArray}{k:eFate.T×Bool×Unit→PT}
  (hk:∀sA' sf' w',MpS KI vReq rA (gSend F all id rev).2.1 sA'→FlS bf (gSend F all id rev).1 sf'→St w0 (gtB b bf rA rL c room pat::sA'::sf'::E) w'→k ((gSend F all id rev).2.2.1,(gSend F all id rev).2.2.2,()) w') :
  L.call Pr z5v [.pointer (some ⟨b,0,none⟩),I id,.string rev] (.tup [eFate,.one .bool]) k w:=by
 refine z01 (zex _ _ _) ?_
 unfold z9W
 unfold gSend at hk
 refine nw h ?_;clear h;(try clear w);intro b1 w h
 (refine nn ?_;refine ldC h ?_)
 have hrl:(revs F.l rev).length≤30:=Nat.le_trans (List.length_filter_le ..) h20
 refine zru h 3 rfl hf hrl hfew fun sf' w hf' h=>?_
 have h:St w0 ([Cl b1 z0a [I 0,I 0,I 0,.string s_]]::gtB b bf rA rL c room pat::sA::sf'::E) w:=h
 refine it (fun hc=>?_) (fun hc=>?_)<;>(try simp only[zB]at hc)
 ·rw[if_neg (by simp[hc])]at hk
  (refine stC h ?_;clear h;(try clear w);intro w h;dsimp only[putN,setN]at h;refine laC h ?_)
  exact⟨(_,false,()),rfl,hk sA sf' w hA hf' (dl0_ h)⟩
 ·rw[if_pos hc]at hk
  have h:=fr2_ (fr2_ h)
  refine zgY (f:=(0,1,(fTake F rev id).2.1,s_,())) hA h fun sA' w hA' h=>?_
  (refine stC h ?_;clear h;(try clear w);intro w h;dsimp only[putN,setN]at h;refine laC h ?_)
  refine⟨((id,1,(fTake F rev id).2.1,s_,()),true,()),rfl,hk sA' sf' w hA' hf' ?_⟩
  have h:=dl2_ h
  exact h
theorem z7y{G:AGate}{b bf rA rL c:Nat}{sA sL:Seg}{Q:List LnE}(ok:G.Ok)(hr:GtR G rA rL sA sL Q)(h:St w0 (gtB b bf rA rL c G.room G.pat::[Cl c z0h [I G.room]]::sA::sL::(Q.map LnE.sg).flatten::E) w) :
  ∃s,GtS b bf G s∧St w0 (s::E) w:=⟨_,⟨ok,rA,rL,c,sA,sL,Q,hr,rfl⟩,h.glue5⟩
def lineOf(ls:List (ByteArray×List (Int×Int)))(rev:ByteArray):List (Int×Int):=(mget ls rev).getD []
theorem zeW{Q:List LnE}{rev:ByteArray}:mget (Q.map LnE.kp) rev=(lfind LnE.k Q rev).map fun x=>some ⟨x.b,0,none⟩:=z69 (key:=LnE.k) (fun x:LnE=>(some ⟨x.b,0,none⟩:Option Addr)) rev Q
theorem zeX{Q:List LnE}{rev:ByteArray}:mget (Q.map LnE.ka) rev=(lfind LnE.k Q rev).map LnE.l:=z69 (key:=LnE.k) LnE.l rev Q
theorem zsG{b bf rA rL c:Nat}{room pat:Int}{sL:Seg}{Q:List LnE}(hL:MpS Value.string Value.pointer rL (Q.map LnE.kp) sL)(hQ:∀x∈Q,LnS x.b room x.l x.sg)
  (h:St w0 (gtB b bf rA rL c room pat::[Cl c z0h [I room]]::sL::(Q.map LnE.sg).flatten::E) w) {rev:ByteArray} {a:Addr} (ha:a=⟨b,2,none⟩) {k:Option Addr→PT}
  (hk:∀sL' A x B w',(∀y∈A++x::B,LnS y.b room y.l y.sg)→MpS Value.string Value.pointer rL ((A++x::B).map LnE.kp) sL'→x.k=rev→x.l=lineOf (Q.map LnE.ka) rev→(A++x::B).map LnE.ka=mset (Q.map LnE.ka) rev (lineOf (Q.map LnE.ka) rev)→
   St w0 (gtB b bf rA rL c room pat::[Cl c z0h [I room]]::sL'::((A++x::B).map LnE.sg).flatten::E) w'→k (some ⟨x.b,0,none⟩) w') :
  L.call Pr z2E [.pointer (some a),.string rev] (.one (.one .ptr)) k w:=by
 subst ha
 refine z01 (z9o _ _) ?_
 unfold z5N
 refine jd ?_
 (refine nn ?_;refine ldC h ?_)
 refine MpS.get2 mkS' zbM zln (fun x:Option Addr=>x) (fun _=>rfl) h 2 rfl hL ?_
 (try dsimp only)
 cases hf:lfind LnE.k Q rev with
 | some x=>
  have e1:=zeW (Q:=Q) (rev:=rev)
  have e2:=zeX (Q:=Q) (rev:=rev)
  rw[hf]at e1 e2
  simp only[Option.map_some]at e1 e2
  rw[e1]
  refine itF rfl ?_
  (refine nn ?_;refine ldC h ?_)
  refine MpS.get mkS' zbM zln (fun x:Option Addr=>x) (fun _=>rfl) h 2 rfl hL ?_
  rw[e1]
  obtain⟨A,B,e,hx⟩:=zb9 hf
  subst e
  refine⟨_,rfl,hk sL A x B w hQ hL hx ?_ ?_ h⟩
  ·unfold lineOf;rw[e2];rfl
  ·unfold lineOf;rw[e2];exact(zfr e2).symm
 | none=>
  have e1:=zeW (Q:=Q) (rev:=rev)
  have e2:=zeX (Q:=Q) (rev:=rev)
  rw[hf]at e1 e2
  simp only[Option.map_none]at e1 e2
  rw[e1]
  refine itT rfl ?_
  (refine dr h ?_;clear h;(try clear w);intro w h;refine nn ?_;refine ldC h ?_;refine nn ?_;refine ldC h ?_)
  refine z4W (fs:=#[]) (cs:=#[.pointer (some ⟨c,0,none⟩)]) zjC (zjO ⟨c,0,none⟩) ?_
  unfold zef
  (refine ldC h ?_)
  refine zsq h fun b2 s2 w hl h=>⟨_,rfl,?_⟩
  have h:=fr4_ (fr4_ (fr4_ (fr4_ h)))
  (refine ckC h ?_)
  refine MpS.set mkS' zbM h 2 rfl hL (some ⟨b2,0,none⟩) rfl fun sL' w hL' h=>?_
  rw[z4E e1]at hL'
  have h:St w0 (gtB b bf rA rL c room pat::[Cl c z0h [I room]]::sL'::(Q.map LnE.sg).flatten::s2::E) w:=h
  have ekp:Q.map LnE.kp++[(rev,some (⟨b2,0,none⟩:Addr))]=(Q++[(⟨rev,b2,[],s2⟩:LnE)]).map LnE.kp:=by simp
  rw[ekp]at hL'
  (refine nn ?_;refine ldC h ?_)
  refine MpS.get mkS' zbM zln (fun x:Option Addr=>x) (fun _=>rfl) h 2 rfl hL' ?_
  have e3:mget ((Q++[(⟨rev,b2,[],s2⟩:LnE)]).map LnE.kp) rev=some (some ⟨b2,0,none⟩):=by
   rw[←ekp,←z4E e1,z47,if_pos rfl]
  rw[e3]
  refine⟨_,rfl,hk sL' Q ⟨rev,b2,[],s2⟩ [] w ?_ hL' rfl ?_ ?_ ?_⟩
  ·intro y hy
   rcases List.mem_append.1 hy with hy | hy
   ·exact hQ y hy
   ·simp at hy;subst hy;exact hl
  ·unfold lineOf;rw[e2];rfl
  ·unfold lineOf;rw[e2,z4E e2];simp
  ·exact h.eq (by simp)
theorem zlq{F:AFleet}{rev:ByteArray}{q:Int}(h:(fTake F rev q).2.2=false):(fTake F rev q).1=F:=by
 unfold fTake at *
 split
 ·rfl
 ·rename_i hw;rw[if_neg hw]at h
  split at h
  ·rename_i hp;simp[hp]
  ·cases h
theorem zp6{room:Int}{l:List (Int×Int)}{id u:Int}(h:(lPush room l id u).2≠0):(lPush room l id u).1=l:=by
 unfold lPush at *;split
 ·rfl
 ·split
  ·rfl
  ·rename_i h1 h2;rw[if_neg h1,if_neg h2]at h;simp at h
theorem znx{room:Int}{l:List (Int×Int)}{id u:Int}(h:(l.length:Int)≤room):((lPush room l id u).1.length:Int)≤room:=by
 unfold lPush;split
 ·exact h
 ·split
  ·exact h
  ·simp only[List.length_append,List.length_cons,List.length_nil];omega
theorem z3y{G:AGate}(ok:G.Ok)(rev:ByteArray):((lineOf G.lines rev).length:Int)≤G.room:=by
 unfold lineOf
 cases h:mget G.lines rev with
 | none=>simp;exact ok.lo
 | some l=>exact ok.ln _ (z3R h)
theorem AGate.Ok.line{G:AGate}(ok:G.Ok)(hl:G.lines.length<90000000)(rev:ByteArray){l:List (Int×Int)}(h:(l.length:Int)≤G.room):({ G with lines:=mset G.lines rev l }:AGate).Ok:=by
 refine⟨ok.few,ok.lo,ok.hi,fun x hx=>?_,zbX ok.nd,ok.nda,?_⟩
 ·rcases z1F hx with rfl | hx
  ·exact h
  ·exact ok.ln x hx
 ·have:=z4U G.lines rev l;simp only;omega
theorem AGate.Ok.req{G:AGate}(ok:G.Ok)(hn:G.all.length<90000000)(id:Int)(x:ByteArray×Int):({ G with all:=mset G.all id x }:AGate).Ok:=by
 refine⟨?_,ok.lo,ok.hi,ok.ln,ok.nd,zbX ok.nda,ok.fl⟩
 have:=z4U G.all id x;simp only;omega
def gArr(F:AFleet)(G:AGate)(id:Int)(rev:ByteArray)(now:Int):AFleet×AGate×Fate:=
 if gSeen G.all id=true then(F,G,(id,4,0,s_twice,()))
 else if rev=s_ then(F,{ G with all:=mset G.all id (s_,4) },(id,4,0,s_no_route,()))
 else if(lineOf G.lines rev).length=0∧(fTake F rev id).2.2=true then
  ((fTake F rev id).1,{ G with all:=mset G.all id (rev,1),lines:=mset G.lines rev (lineOf G.lines rev) },(id,1,(fTake F rev id).2.1,s_,()))
 else if(lPush G.room (lineOf G.lines rev) id (now+G.pat)).2≠0 then
  (F,{ G with all:=mset G.all id (rev,4),lines:=mset G.lines rev (lineOf G.lines rev) },(id,4,0,s_overflow,()))
 else(F,{ G with all:=mset G.all id (rev,2),lines:=mset G.lines rev (lPush G.room (lineOf G.lines rev) id (now+G.pat)).1 },(id,2,0,s_,()))
abbrev podsMost:Int:=30
structure FFew(F:AFleet):Prop where
 r:F.room≤podsMost
 l:(F.l.length:Int)≤max F.room 0
 q:∀x∈F.l,x.pod.reqs.length≤1000∧x.pod.conc≤1000
theorem FFew.l20{F:AFleet}(h:FFew F):F.l.length≤30:=by have:=h.r;have:=h.l;unfold podsMost at *;omega
theorem FFew.q7{F:AFleet}(h:FFew F):∀x∈F.l,x.pod.reqs.length<10000000:=fun x hx=>by have:=(h.q x hx).1;omega
theorem zf1{l:List AHeld}{id:Int}{g:APod→APod}{y:AHeld}(h:y∈fUpd l id g):y∈l∨∃x∈l,x.id=id∧y = { x with pod:=g x.pod }:=by
 unfold fUpd at h
 obtain⟨x,hx,hy⟩:=List.mem_filterMap.1 h
 split at hy
 ·rename_i e
  split at hy
  ·cases hy
  ·cases hy;exact .inr ⟨x,hx,e,rfl⟩
 ·cases hy;exact .inl hx
theorem zpn(l:List AHeld)(id:Int)(g:APod→APod):(fUpd l id g).length≤l.length:=List.length_filterMap_le ..
theorem FFew.upd{F:AFleet}(h:FFew F)(id:Int)(g:APod→APod)(hg:∀x∈F.l,x.id=id→(g x.pod).reqs.length≤1000∧(g x.pod).conc≤1000):FFew { F with l:=fUpd F.l id g }:=by
 refine⟨h.r,?_,fun y hy=>?_⟩
 ·have:=h.l;have:=zpn F.l id g;simp only;omega
 ·rcases zf1 hy with hy | ⟨x,hx,hid,rfl⟩
  ·exact h.q y hy
  ·exact hg x hx hid
theorem zk4{p:APod}{q:Int}(h:p.reqs.length≤1000∧p.conc≤1000):(podTake p q).1.reqs.length≤1000∧(podTake p q).1.conc≤1000:=by
 unfold podTake;split
 ·exact h
 ·split
  ·exact h
  ·split
   ·exact h
   ·rename_i h3
    have:=(zav q p.reqs).length_eq
    simp only[List.length_cons]at this
    refine⟨?_,h.2⟩
    simp only;omega
theorem FFew.take{F:AFleet}(h:FFew F)(rev:ByteArray)(q:Int):FFew (fTake F rev q).1:=by
 unfold fTake;split
 ·exact h
 ·split
  ·exact h
  ·exact h.upd _ _ fun x hx _=>zk4 (h.q x hx)
theorem zk7{p:APod}{q:Int}(h:p.reqs.length≤1000∧p.conc≤1000):(podGive p q).1.reqs.length≤1000∧(podGive p q).1.conc≤1000:=by
 unfold podGive;split
 ·have:=(List.erase_sublist (a:=q) (l:=p.reqs)).length_le
  exact⟨by simp only;omega,h.2⟩
 ·exact h
theorem FFew.give{F:AFleet}(h:FFew F)(q:Int):FFew (fGive F q).1:=by
 unfold fGive;split
 ·exact h
 ·exact h.upd _ _ fun x hx _=>zk7 (h.q x hx)
theorem FFew.kill{F:AFleet}(h:FFew F)(id:Int):FFew (fKill F id).1:=by
 unfold fKill;split
 ·exact h
 ·refine h.upd _ _ fun x hx _=>?_
  unfold podKill;split
  ·exact h.q x hx
  ·exact⟨by simp,(h.q x hx).2⟩
theorem FFew.up{F:AFleet}(h:FFew F)(id:Int):FFew { F with l:=fUpd F.l id fun p=>(podUp p).1 }:=by
 refine h.upd _ _ fun x hx _=>?_
 unfold podUp;split<;>exact h.q x hx
theorem FFew.drain{F:AFleet}(h:FFew F)(rev:ByteArray):FFew (drain1 rev F):=by
 refine h.upd _ _ fun x hx _=>?_
 unfold podDrain;split<;>exact h.q x hx
theorem FFew.shrink(rev:ByteArray):∀(n:Nat){F:AFleet},FFew F→FFew (YtdcdhcgmeahfmaaGreatDoor.shrink rev n F).1
 | 0,_,h=>h
 | n+1,F,h=>FFew.shrink rev n (h.drain rev)
theorem FFew.grow1{F:AFleet}(h:FFew F)(rev:ByteArray){conc:Int}(hc:conc≤1000)(hl:(F.l.length:Int)+1≤max F.room 0):FFew (YtdcdhcgmeahfmaaGreatDoor.grow1 rev conc F):=by
 refine⟨h.r,?_,fun x hx=>?_⟩
 ·simp only[YtdcdhcgmeahfmaaGreatDoor.grow1,List.length_append,List.length_cons,List.length_nil];omega
 ·rcases List.mem_append.1 hx with hx | hx
  ·exact h.q x hx
  ·simp at hx;subst hx;exact⟨by simp,hc⟩
theorem FFew.grow(rev:ByteArray){conc:Int}(hc:conc≤1000):∀(n:Nat){F:AFleet},FFew F→(F.l.length:Int)+n≤max F.room 0→FFew (YtdcdhcgmeahfmaaGreatDoor.grow rev conc n F)
 | 0,_,h,_=>h
 | n+1,F,h,hl=>by
  have h1:=FFew.grow rev hc n h (by omega)
  refine h1.grow1 rev hc ?_
  rw[zcw,zcv];omega
theorem FFew.scale{F:AFleet}(h:FFew F)(rev:ByteArray){conc:Int}(hc:conc≤1000)(want:Int):FFew (fScale F rev conc want).1:=by
 refine FFew.shrink rev _ (FFew.grow rev hc _ h ?_)
 have:=h.l
 unfold growN;omega
theorem fate1{f:Fate}{b:Nat}:Rw Fate.cells z0a 4 ⟨some ⟨b,0,none⟩,1,1⟩ [f] [Cl b z0a (Fate.cells f)]:=Rw.lit b [f] encF (by simp[fl]) rfl (by simp[maxLen])
theorem zfv{A B:List LnE}{x:LnE}{s':Seg}{l':List (Int×Int)}{ls:List (ByteArray×List (Int×Int))}{rev:ByteArray}{l:List (Int×Int)}(e:(A++x::B).map LnE.ka=mset ls rev l)(hx:x.k=rev)(hnd:((A++x::B).map LnE.ka).map (·.1) |>.Nodup) :
  (A++(⟨x.k,x.b,l',s'⟩:LnE)::B).map LnE.ka=mset ls rev l':=by
 have h1:mget ((A++x::B).map LnE.ka) rev=some x.l:=z9C hnd (by rw[←hx];exact List.mem_map_of_mem (f:=LnE.ka) (by simp))
 have h2:mset ((A++x::B).map LnE.ka) rev l'=(A++(⟨x.k,x.b,l',s'⟩:LnE)::B).map LnE.ka:=by
  clear e h1
  induction A with
  | nil=>simp[mset,hx]
  | cons y A ih=>
   have hne:y.k≠rev:=by
    intro e
    have:=hnd
    simp only[List.cons_append,List.map_cons,List.nodup_cons]at this
    refine this.1 ?_
    rw[e,←hx]
    simp
   simp only[List.cons_append,List.map_cons,mset]
   rw[if_neg hne]
   congr 1
   refine ih ?_
   have:=hnd
   simp only[List.cons_append,List.map_cons,List.nodup_cons]at this
   exact this.2
 rw[←h2,e,ziU]
theorem zsI{sg sf:Seg}(h:St w0 (sg::sf::E) w){b bf:Nat}{G:AGate}{F:AFleet}(hg:GtS b bf G sg)(hf:FlS bf F sf)(hfew:FFew F)(hn:G.all.length<90000000)(hl:G.lines.length<90000000){id:Int}{rev:ByteArray}{now:Int}(hnow: -1000000000000<now+G.pat∧now+G.pat<1000000000000){k:Sl→PT}
  (hk:∀v sv sg' sf' w',Rw Fate.cells z0a 4 v [(gArr F G id rev now).2.2] sv→GtS b bf (gArr F G id rev now).2.1 sg'→FlS bf (gArr F G id rev now).1 sf'→St w0 (sv::sg'::sf'::E) w'→k v w') :
  L.call Pr z65 [.pointer (some ⟨b,0,none⟩),I id,.string rev,I now] (.one (.one .slice)) k w:=by
 obtain⟨ok,rA,rL,c,sA,sL,Q,hr,rfl⟩:=hg
 refine z01 (zdd _ _ _ _) ?_
 unfold z8O
 unfold gArr at hk
 have h:=h.split5
 have h:=fr1_ (fr2_ h)
 refine zro hr.all h fun w h=>?_
 refine it (fun hs=>?_) (fun hs=>?_)<;>(try simp only[zB]at hs)
 ·rw[if_pos hs]at hk
  refine zly h fun w h=>?_
  refine nw h ?_;clear h;(try clear w);intro b3 w h
  (refine stC h ?_;clear h;(try clear w);intro w h;dsimp only[putN,setN]at h;refine stC h ?_;clear h;(try clear w);intro w h;dsimp only[putN,setN]at h;refine laC h ?_)
  refine nw h ?_;clear h;(try clear w);intro b5 w h
  have h:=dl1_ h
  have h:=fr6_ (fr6_ (fr5_ (fr6_ (fr6_ (fr6_ h)))))
  obtain⟨sg,hg,h⟩:=z7y ok hr h
  have h:=fr2_ (fr1_ (fr1_ h))
  exact⟨_,rfl,hk _ _ sg sf w fate1 hg hf h⟩
 ·rw[if_neg (by simp[hs])]at hk
  rw[z3Z]
  refine it (fun he=>?_) (fun he=>?_)<;>(try simp only[zB]at he)
  ·rw[if_pos he]at hk
   refine zly h fun w h=>?_
   refine zgY (f:=(0,4,0,s_no_route,())) hr.all h fun sA' w hA' h=>?_
   refine nw h ?_;clear h;(try clear w);intro b8 w h
   have h:=fr6_ (fr6_ (fr5_ (fr6_ (fr6_ (fr6_ h)))))
   obtain⟨sg,hg,h⟩:=z7y (ok.req hn id (s_,4)) (Q:=Q) ⟨hA',hr.lns,hr.each,hr.abs⟩ h
   have h:=fr2_ (fr1_ (fr1_ h))
   exact⟨_,rfl,hk _ _ sg sf w fate1 hg hf h⟩
  ·rw[if_neg he]at hk
   have h:=fr3_ (fr4_ (fr4_ (fr4_ h)))
   (refine nn ?_)
   refine zsG (rev:=rev) hr.lns hr.each h rfl fun sL' A x B w hQ' hL' hxk hxl hab h=>?_
   rw[←hr.abs]at hxl hab
   have hlen:=z3y ok rev
   have hnd:(((A++x::B).map LnE.ka).map (·.1)).Nodup:=by rw[hab];exact zbX ok.nd
   have hx:LnS x.b G.room x.l x.sg:=hQ' x (by simp)
   have ok1:=ok.line hl rev hlen
   have hhi:=ok.hi
   have hll:x.l.length<1000000000:=by rw[hxl];omega
   have h:=fr3_ (fr2_ (fr2_ (fr2_ h)))
   have h:=h.pick
   have close:∀{G':AGate}{sA' sx':Seg}{l':List (Int×Int)}{w},G'.Ok→G'.room=G.room→G'.pat=G.pat→MpS KI vReq rA G'.all sA'→LnS x.b G.room l' sx'→G'.lines=mset G.lines rev l'→
     ∀{E},St w0 (gtB b bf rA rL c G.room G.pat::sA'::sx'::((A++B).map LnE.sg).flatten::[Cl c z0h [I G.room]]::sL'::E) w→∃s,GtS b bf G' s∧St w0 (s::E) w:=by
    intro G' sA' sx' l' w ok' e1 e2 hA' hl' e3 E h
    have h:=fr5_ (fr5_ (fr3_ (fr5_ (fr2_ (fr5_ h)))))
    have h:St w0 (LnE.sg ⟨x.k,x.b,l',sx'⟩::((A++B).map LnE.sg).flatten::gtB b bf rA rL c G.room G.pat::[Cl c z0h [I G.room]]::sA'::sL'::E) w:=h
    have h:=h.place
    have h:=fr4_ (fr4_ (fr4_ (fr4_ h)))
    rw[←e1,←e2]at h
    refine z7y ok' ⟨hA',?_,?_,?_⟩ h
    ·simpa using hL'
    ·intro y hy
     rw[e1]
     rcases List.mem_append.1 hy with hy | hy
     ·exact hQ' y (by simp[hy])
     ·rcases List.mem_cons.1 hy with rfl | hy
      ·exact hl'
      ·exact hQ' y (by simp[hy])
    ·rw[e3];exact(zfv hab hxk hnd).symm
   have push:∀{w}{k11:Unit→PT},¬((lineOf G.lines rev).length=0∧(fTake F rev id).2.2=true)→∀{sA sf},MpS KI vReq rA G.all sA→FlS bf F sf→
     St w0 (gtB b bf rA rL c G.room G.pat::sA::x.sg::((A++B).map LnE.sg).flatten::[Cl c z0h [I G.room]]::sL'::sf::E) w→
     (L.nonnil (some ⟨b,0,none⟩) fun a18=>L.load (.one (.int .i64)) (a18.add 5) fun(x19:Int)=>
      L.call Pr z5u [.pointer (some ⟨x.b,0,none⟩),.int .i64 id,.int .i64 (IntKind.wrap .i64 (now+x19))] (.one (.one (.int .i64))) fun(x20:Int)=>
      L.ite (x20 != 0) (
       L.call Pr z6w [.string s_overflow] (.one (.agg [.int .i64,.int .i64,.int .i64,.str])) fun(x21:Int×Int×Int×ByteArray×Unit)=>
       L.call Pr z1w [.pointer (some ⟨b,0,none⟩),.int .i64 id,.string rev,.agg #[.int .i64 x21.1,.int .i64 x21.2.1,.int .i64 x21.2.2.1,.string x21.2.2.2.1]] (.one (.agg [.int .i64,.int .i64,.int .i64,.str])) fun(x22:Int×Int×Int×ByteArray×Unit)=>
       L.new [.int .i64 x22.1,.int .i64 x22.2.1,.int .i64 x22.2.2.1,.string x22.2.2.2.1] z0a fun b23=>
       fun w'=>∃y,Value.slice (some ⟨b23,0,none⟩) 1 1=RT.val (.one (.one .slice)) y∧k y w')<|
      L.call Pr z1w [.pointer (some ⟨b,0,none⟩),.int .i64 id,.string rev,.agg #[.int .i64 0,.int .i64 2,.int .i64 0,.string s_]] (.one (.agg [.int .i64,.int .i64,.int .i64,.str])) fun(x24:Int×Int×Int×ByteArray×Unit)=>
      L.new [.int .i64 x24.1,.int .i64 x24.2.1,.int .i64 x24.2.2.1,.string x24.2.2.2.1] z0a fun b25=>
      fun w'=>∃y,Value.slice (some ⟨b25,0,none⟩) 1 1=RT.val (.one (.one .slice)) y∧k y w') w:=by
    intro w k11 hno sA sf hA hf h
    rw[if_neg hno]at hk
    (refine nn ?_;refine ldC h ?_)
    rw[wr (by omega) (by omega)]
    refine zsU h 2 rfl hx hll fun sx' w hx' h=>?_
    rw[hxl]at hx' ⊢
    have h:St w0 (gtB b bf rA rL c G.room G.pat::sA::sx'::((A++B).map LnE.sg).flatten::[Cl c z0h [I G.room]]::sL'::sf::E) w:=h
    refine it (fun hp=>?_) (fun hp=>?_)<;>(try simp only[zB]at hp)
    ·rw[if_pos hp]at hk
     rw[zp6 hp]at hx'
     refine zly h fun w h=>?_
     refine zgY (f:=(0,4,0,s_overflow,())) hA h fun sA' w hA' h=>?_
     refine nw h ?_;clear h;(try clear w);intro b23 w h
     have h:=fr7_ (fr7_ (fr7_ (fr7_ (fr7_ (fr7_ (fr7_ h))))))
     obtain⟨sg,hg,h⟩:=close (G':={ G with all:=mset G.all id (rev,4),lines:=mset G.lines rev (lineOf G.lines rev) }) (ok1.req hn id (rev,4)) rfl rfl hA' hx' rfl h
     have h:=fr2_ (fr1_ (fr1_ h))
     exact⟨_,rfl,hk _ _ sg sf w fate1 hg hf h⟩
    ·rw[if_neg (by simpa using hp)]at hk
     refine zgY (f:=(0,2,0,s_,())) hA h fun sA' w hA' h=>?_
     refine nw h ?_;clear h;(try clear w);intro b23 w h
     have h:=fr7_ (fr7_ (fr7_ (fr7_ (fr7_ (fr7_ (fr7_ h))))))
     obtain⟨sg,hg,h⟩:=close (G':={ G with all:=mset G.all id (rev,2),lines:=mset G.lines rev (lPush G.room (lineOf G.lines rev) id (now+G.pat)).1 }) ((ok.line hl rev (znx hlen)).req hn id (rev,2)) rfl rfl hA' hx' rfl h
     have h:=fr2_ (fr1_ (fr1_ h))
     exact⟨_,rfl,hk _ _ sg sf w fate1 hg hf h⟩
   refine jd ?_
   refine zo2 h 0 rfl hx ?_
   rw[hxl]
   have h:St w0 (x.sg::((A++B).map LnE.sg).flatten::gtB b bf rA rL c G.room G.pat::[Cl c z0h [I G.room]]::sL'::sA::sf::E) w:=h
   refine it (fun h0=>?_) (fun h0=>?_)<;>(try simp only[zB]at h0)
   ·have h:=fr4_ (fr6_ (fr6_ h))
    refine zof hr.all hf hfew.l20 hfew.q7 h fun sA' sf' w hA' hf' h=>?_
    cases ht:(fTake F rev id).2.2 with
    | true=>
     have e:gSend F G.all id rev=((fTake F rev id).1,mset G.all id (rev,1),(id,1,(fTake F rev id).2.1,s_,()),true):=by unfold gSend;rw[if_pos ht]
     rw[e]at hA' hf' ⊢
     rw[if_pos ⟨by omega,ht⟩]at hk
     refine nw h ?_;clear h;(try clear w);intro b15 w h
     (refine stC h ?_;clear h;(try clear w);intro w h;dsimp only[putN,setN]at h)
     refine itT rfl ?_
     (refine laC h ?_)
     refine nw h ?_;clear h;(try clear w);intro b17 w h
     have h:=dl1_ h
     have h:=fr7_ (fr7_ (fr7_ (fr7_ (fr7_ (fr7_ (fr3_ h))))))
     obtain⟨sg,hg,h⟩:=close (G':={ G with all:=mset G.all id (rev,1),lines:=mset G.lines rev (lineOf G.lines rev) }) (ok1.req hn id (rev,1)) rfl rfl hA' (hxl▸hx) rfl h
     have h:=fr2_ (fr1_ (fr1_ h))
     exact⟨_,rfl,hk _ _ sg sf' w fate1 hg hf' h⟩
    | false=>
     have e:gSend F G.all id rev=((fTake F rev id).1,G.all,(0,0,0,s_,()),false):=by unfold gSend;rw[if_neg (by simp[ht])]
     rw[e]at hA' hf' ⊢
     dsimp only at hf'
     rw[zlq ht]at hf'
     refine nw h ?_;clear h;(try clear w);intro b15 w h
     (refine stC h ?_;clear h;(try clear w);intro w h;dsimp only[putN,setN]at h)
     refine itF rfl ?_
     have h:=dl0_ h
     have h:=fr6_ (fr6_ (fr6_ (fr6_ (fr6_ (fr6_ (fr2_ h))))))
     exact push (k11:=fun _ _=>True) (by simp[ht]) hA' hf' h
   ·have h:=fr6_ (fr6_ (fr4_ (fr4_ (fr5_ (fr5_ (fr6_ h))))))
    exact push (k11:=fun _ _=>True) (fun hh=>h0 (by omega)) hr.all hf h
abbrev Alls:=List (Int×(ByteArray×Int))
def flowA(rev:ByteArray):List (Int×Int)→AFleet→Alls→List Fate→AFleet×Alls×List (Int×Int)×List Fate
 | [],F,all,out=>(F,all,[],out)
 | x::l,F,all,out=>if(fTake F rev x.1).2.2=true then flowA rev l (fTake F rev x.1).1 (mset all x.1 (rev,1)) (out++[(x.1,1,(fTake F rev x.1).2.1,s_,())])else(F,all,x::l,out)
theorem zaw{rev:ByteArray}:∀{l:List (Int×Int)}{F:AFleet}{all:Alls}{out:List Fate},(flowA rev l F all out).2.1.length≤all.length+l.length∧(flowA rev l F all out).2.2.1.length≤l.length∧(flowA rev l F all out).2.2.2.length≤out.length+l.length
 | [],_,_,_=>by simp[flowA]
 | x::l,F,all,out=>by
  unfold flowA;split
  ·have:=zaw (rev:=rev) (l:=l) (F:=(fTake F rev x.1).1) (all:=mset all x.1 (rev,1)) (out:=out++[(x.1,1,(fTake F rev x.1).2.1,s_,())])
   have h2:=z4U all x.1 (rev,(1:Int))
   simp only[List.length_append,List.length_cons,List.length_nil]at this ⊢
   omega
  ·simp
theorem zlj{rev:ByteArray}:∀{l:List (Int×Int)}{F:AFleet}{all:Alls}{out:List Fate},(all.map (·.1)).Nodup→((flowA rev l F all out).2.1.map (·.1)).Nodup
 | [],_,_,_,h=>h
 | x::l,F,all,out,h=>by
  unfold flowA;split
  ·exact zlj (zbX h)
  ·exact h
def gFlow(F:AFleet)(G:AGate)(rev:ByteArray):AFleet×AGate×List Fate:=
 ((flowA rev (lineOf G.lines rev) F G.all []).1,{ G with all:=(flowA rev (lineOf G.lines rev) F G.all []).2.1,lines:=mset G.lines rev (flowA rev (lineOf G.lines rev) F G.all []).2.2.1 },(flowA rev (lineOf G.lines rev) F G.all []).2.2.2)
theorem zlA(h:St w0 E w){v:Sl}{l:List Fate}(r:Rd w Fate.cells v l)(hn:l.length<1000000000)(h64:v.a=none→l = []){k:Sl→PT}
  (hk:∀v' s' w',Rw Fate.cells z0a 4 v' l s'→St w0 (s'::E) w'→k v' w'):L.call Pr z1n [SlV v] (.one (.one .slice)) k w:=by
 refine z01 (z5P v) ?_
 unfold z39
 exact z6a (K:=fun v w'=>∃x,v=RT.val (.one (.one .slice)) x∧k x w') encF elF h r (by omega) (by omega) h64 fun v' s' w' h1 h2 h3=>⟨v',rfl,hk v' s' w' h1 h3⟩
theorem zpk{F:AFleet}{G:AGate}(ok:G.Ok)(hn:G.all.length<90000000)(hl:G.lines.length<90000000)(rev:ByteArray):(gFlow F G rev).2.1.Ok:=by
 have hlen:=z3y ok rev
 have h1:=zaw (rev:=rev) (l:=lineOf G.lines rev) (F:=F) (all:=G.all) (out:=[])
 have hhi:=ok.hi
 unfold gFlow
 refine⟨by simp only;omega,ok.lo,ok.hi,fun x hx=>?_,zbX ok.nd,zlj ok.nda,?_⟩
 ·rcases z1F hx with rfl | hx
  ·simp only;omega
  ·exact ok.ln x hx
 ·have:=z4U G.lines rev (flowA rev (lineOf G.lines rev) F G.all []).2.2.1
  simp only;omega
theorem zkt{sg sf:Seg}(h:St w0 (sg::sf::E) w){b bf:Nat}{G:AGate}{F:AFleet}(hg:GtS b bf G sg)(hf:FlS bf F sf)(hfew:FFew F)(hn:G.all.length<90000000)(hl:G.lines.length<90000000){rev:ByteArray}{k:Sl→PT}
  (hk:∀v sv sg' sf' w',Rw Fate.cells z0a 4 v (gFlow F G rev).2.2 sv→GtS b bf (gFlow F G rev).2.1 sg'→FlS bf (gFlow F G rev).1 sf'→St w0 (sv::sg'::sf'::E) w'→k v w') :
  L.call Pr z43 [.pointer (some ⟨b,0,none⟩),.string rev] (.one (.one .slice)) k w:=by
 have ok':=zpk (F:=F) hg.1 hn hl rev
 obtain⟨ok,rA,rL,c,sA,sL,Q,hr,rfl⟩:=hg
 refine z01 (zeA _ _) ?_
 unfold z9Z
 have h:=h.split5
 have h:=fr3_ (fr3_ (fr4_ (fr4_ h)))
 (refine nn ?_)
 refine zsG (rev:=rev) hr.lns hr.each h rfl fun sL' A x B w hQ' hL' hxk hxl hab h=>?_
 rw[←hr.abs]at hxl hab
 have hlen:=z3y ok rev
 have hnd:(((A++x::B).map LnE.ka).map (·.1)).Nodup:=by rw[hab];exact zbX ok.nd
 have hx:LnS x.b G.room x.l x.sg:=hQ' x (by simp)
 have hhi:=ok.hi
 have hfl:=zaw (rev:=rev) (l:=lineOf G.lines rev) (F:=F) (all:=G.all) (out:=[])
 have hll:x.l.length<1000000000:=by rw[hxl];omega
 have h:=fr3_ (fr2_ (fr2_ (fr2_ h)))
 have h:=h.pick
 refine z1h (fun z w=>∃v sv sA' sx' sf',z=(v,())∧Rw Fate.cells z0a 4 v (gFlow F G rev).2.2 sv∧MpS KI vReq rA (gFlow F G rev).2.1.all sA'∧LnS x.b G.room (flowA rev (lineOf G.lines rev) F G.all []).2.2.1 sx'∧FlS bf (gFlow F G rev).1 sf'∧
   St w0 (gtB b bf rA rL c G.room G.pat::sA'::sf'::sx'::sv::((A++B).map LnE.sg).flatten::[Cl c z0h [I G.room]]::sL'::E) w) (fun k3 hk3=>?_) (fun z w ⟨v,sv,sA',sx',sf',hz,hrv,hA',hx',hf',h⟩=>?_)
 ·refine zt1 h 0 rfl hx hll fun v5 s5 w hr5 h=>?_
  rw[hxl]at hr5 hx
  have hl5:=Rw.len encI hr5
  rw[List.length_map]at hl5
  have h:St w0 (s5::x.sg::((A++B).map LnE.sg).flatten::gtB b bf rA rL c G.room G.pat::[Cl c z0h [I G.room]]::sL'::sA::sf::E) w:=h
  have h:=fr5_ (fr7_ (fr7_ (fr1_ h)))
  refine z0u (fun q y w=>∃(j:Nat)(F':AFleet)(all':Alls)(out:List Fate)(v:Sl)(sv sA' sx' sf':Seg),y=(v,(j:Int),())∧q+j=(lineOf G.lines rev).length∧FFew F'∧out.length=j∧
    flowA rev ((lineOf G.lines rev).drop j) F' all' out=flowA rev (lineOf G.lines rev) F G.all []∧Rw Fate.cells z0a 4 v out sv∧MpS KI vReq rA all' sA'∧LnS x.b G.room ((lineOf G.lines rev).drop j) sx'∧FlS bf F' sf'∧
    St w0 (sv::gtB b bf rA rL c G.room G.pat::sA'::sf'::sx'::s5::((A++B).map LnE.sg).flatten::[Cl c z0h [I G.room]]::sL'::E) w) (lineOf G.lines rev).length
    ⟨0,F,G.all,[],_,[],sA,x.sg,sf,rfl,rfl,hfew,rfl,rfl,Rw.nil,hr.all,hx,hf,h.nil⟩ ?_
  clear h;(try clear w)
  rintro q y w ⟨j,F',all',out,v,sv,sA',sx',sf',rfl,hq,hfew',hol,hfa,hrv,hA',hx',hf',h⟩ again hag
  (try dsimp only)
  have done:∀{l':List (Int×Int)}{F2:AFleet}{all2:Alls}{sA2 sx2 sf2:Seg}{w},flowA rev (lineOf G.lines rev) F G.all []=(F2,all2,l',out)→MpS KI vReq rA all2 sA2→LnS x.b G.room l' sx2→FlS bf F2 sf2→
    St w0 (sv::gtB b bf rA rL c G.room G.pat::sA2::sf2::sx2::s5::((A++B).map LnE.sg).flatten::[Cl c z0h [I G.room]]::sL'::E) w→k3 (⟨v.a,v.len,v.cap⟩,()) w:=by
   intro l' F2 all2 sA2 sx2 sf2 w e h1 h2 h3 h
   have h:=dl5_ h
   have h:=fr4_ (fr4_ (fr4_ (fr4_ h)))
   refine hk3 _ w ⟨v,sv,sA2,sx2,sf2,rfl,?_,?_,?_,?_,h⟩
   ·unfold gFlow;rw[e];exact hrv
   ·unfold gFlow;rw[e];exact h1
   ·rw[e];exact h2
   ·unfold gFlow;rw[e];exact h3
  refine it (fun hb=>?_) (fun hb=>?_)<;>(try simp only[zB]at hb)
  ·have hj:j<(lineOf G.lines rev).length:=by omega
   have hxj:(lineOf G.lines rev)[j]? = some (lineOf G.lines rev)[j]:=List.getElem?_eq_getElem hj
   have hdr:(lineOf G.lines rev).drop j=(lineOf G.lines rev)[j]::(lineOf G.lines rev).drop (j+1):=List.drop_eq_getElem_cons hj
   generalize (lineOf G.lines rev)[j]=y at hxj hdr
   refine rd1 (Rw.rd encI h 5 rfl hr5) encI (lf:=.int .i64) (fun x=>x) (fun x=>⟨_,rfl,rfl⟩) (by omega) hb fun y' hy'=>?_
   simp only[Int.toNat_natCast,List.getElem?_map,hxj,Option.map_some,Option.some.injEq]at hy'
   subst hy'
   have h:=fr3_ (fr3_ (fr3_ h))
   refine zof hA' hf' hfew'.l20 hfew'.q7 h fun sA2 sf2 w hA2 hf2 h=>?_
   cases ht:(fTake F' rev y.1).2.2 with
   | false=>
    have e:gSend F' all' y.1 rev=((fTake F' rev y.1).1,all',(0,0,0,s_,()),false):=by unfold gSend;rw[if_neg (by simp[ht])]
    rw[e]at hA2 hf2 ⊢
    dsimp only at hf2
    rw[zlq ht]at hf2
    refine nw h ?_;clear h;(try clear w);intro b11 w h
    (refine stC h ?_;clear h;(try clear w);intro w h;dsimp only[putN,setN]at h)
    refine itT rfl ?_
    have h:=dl0_ h
    have h:=fr3_ (fr2_ (fr2_ (fr2_ h)))
    refine done ?_ hA2 hx' hf2 h
    rw[←hfa,hdr,flowA,if_neg (by simp[ht])]
   | true=>
    have e:gSend F' all' y.1 rev=((fTake F' rev y.1).1,mset all' y.1 (rev,1),(y.1,1,(fTake F' rev y.1).2.1,s_,()),true):=by unfold gSend;rw[if_pos ht]
    rw[e]at hA2 hf2 ⊢
    refine nw h ?_;clear h;(try clear w);intro b11 w h
    (refine stC h ?_;clear h;(try clear w);intro w h;dsimp only[putN,setN]at h)
    refine itF rfl ?_
    have hx2:=hx'
    refine ztt h 5 rfl hx2 (by rw[List.length_drop];omega) fun sx3 w hx3 h=>?_
    rw[hdr]at hx3
    have h:St w0 ([Cl b11 z0a [I y.1,I 1,I (fTake F' rev y.1).2.1,.string s_]]::gtB b bf rA rL c G.room G.pat::sA2::sf2::sv::sx3::s5::((A++B).map LnE.sg).flatten::[Cl c z0h [I G.room]]::sL'::E) w:=h
    (refine laC h ?_)
    refine nw h ?_;clear h;(try clear w);intro b14 w h
    refine Rw.app (l:=out) encF elF h 4 rfl hrv (y.1,1,(fTake F' rev y.1).2.1,s_,()) rfl (by omega) (by omega) fun v' sv' w hrv' h=>?_
    have h:St w0 ([Cl b11 z0a [I y.1,I 1,I (fTake F' rev y.1).2.1,.string s_]]::gtB b bf rA rL c G.room G.pat::sA2::sf2::sv'::sx3::s5::((A++B).map LnE.sg).flatten::[Cl c z0h [I G.room]]::sL'::E) w:=h
    have h:=dl0_ h
    have h:=fr3_ (fr2_ (fr2_ (fr2_ h)))
    rw[wr (by omega) (by omega)]
    refine hag (q-1) _ w (by omega) ⟨j+1,(fTake F' rev y.1).1,mset all' y.1 (rev,1),out++[(y.1,1,(fTake F' rev y.1).2.1,s_,())],v',sv',sA2,sx3,sf2,by simp,by omega,hfew'.take rev y.1,by simp[hol],?_,hrv',hA2,hx3,hf2,h⟩
    rw[←hfa,hdr,flowA,if_pos ht]
  ·have e:(lineOf G.lines rev).drop j = []:=List.drop_of_length_le (by omega)
   rw[e]at hfa hx'
   exact done (l':=[]) (by rw[←hfa];rfl) hA' hx' hf' h
 ·subst hz
  have hlo:(gFlow F G rev).2.2.length<1000000000:=by show(flowA rev (lineOf G.lines rev) F G.all []).2.2.2.length<1000000000;simp only[List.length_nil]at hfl;omega
  refine zlA h (Rw.rd encF h 4 rfl hrv) hlo (fun h0=>Rw.nil_of encF hrv h0) fun v' sv' w hrv' h=>⟨v',rfl,?_⟩
  have h:=dl5_ h
  have h:=fr7_ (fr7_ (fr5_ (fr7_ (fr4_ (fr7_ (fr1_ (fr3_ h)))))))
  have h:St w0 (LnE.sg ⟨x.k,x.b,(flowA rev (lineOf G.lines rev) F G.all []).2.2.1,sx'⟩::((A++B).map LnE.sg).flatten::gtB b bf rA rL c G.room G.pat::[Cl c z0h [I G.room]]::sA'::sL'::sv'::sf'::E) w:=h
  have h:=h.place
  have h:=fr6_ (fr6_ (fr6_ (fr6_ (fr2_ (fr6_ (fr6_ h))))))
  have heach:∀y∈A++(⟨x.k,x.b,(flowA rev (lineOf G.lines rev) F G.all []).2.2.1,sx'⟩:LnE)::B,LnS y.b G.room y.l y.sg:=by
   intro y hy
   rcases List.mem_append.1 hy with hy | hy
   ·exact hQ' y (by simp[hy])
   ·rcases List.mem_cons.1 hy with rfl | hy
    ·exact hx'
    ·exact hQ' y (by simp[hy])
  obtain⟨sg,hg,h⟩:=z7y (G:=(gFlow F G rev).2.1) (c:=c) ok' ⟨hA',by simpa using hL',heach,(zfv hab hxk hnd).symm⟩ h
  have h:=fr2_ (fr1_ (fr2_ h))
  exact hk v' sv' sg sf' w hrv' hg hf' h
theorem zhC{b bf:Nat}{G:AGate}{sg:Seg}(hg:GtS b bf G sg)(h:St w0 (sg::E) w):∃rA rL c sA sL,∃Q:List LnE,GtR G rA rL sA sL Q∧St w0 (gtB b bf rA rL c G.room G.pat::[Cl c z0h [I G.room]]::sA::sL::(Q.map LnE.sg).flatten::E) w:=by
 obtain⟨ok,rA,rL,c,sA,sL,Q,hr,rfl⟩:=hg
 exact⟨rA,rL,c,sA,sL,Q,hr,h.split5⟩
theorem zrn{sg:Seg}(h:St w0 (sg::E) w){b bf:Nat}{G:AGate}(hg:GtS b bf G sg){id:Int}{rev:ByteArray}{f:Fate}(ok':({ G with all:=mset G.all id (rev,f.2.1) }:AGate).Ok){k:eFate.T→PT}
  (hk:∀sg' w',GtS b bf { G with all:=mset G.all id (rev,f.2.1) } sg'→St w0 (sg'::E) w'→k (fset f id) w') :
  L.call Pr z1w [.pointer (some ⟨b,0,none⟩),I id,.string rev,.agg (Fate.cells f).toArray] (.one eFate) k w:=by
 obtain⟨rA,rL,c,sA,sL,Q,hr,h⟩:=zhC hg h
 have h:=fr1_ (fr2_ h)
 refine zgY (f:=f) hr.all h fun sA' w hA' h=>?_
 have h:=fr2_ (fr2_ (fr1_ h))
 obtain⟨sg',hg',h⟩:=z7y ok' (Q:=Q) ⟨hA',hr.lns,hr.each,hr.abs⟩ h
 exact hk sg' w hg' h
def gDone(F:AFleet)(G:AGate)(id:Int):AFleet×AGate×List Fate×Int:=
 if(fGive F id).2.2≠0 then((fGive F id).1,G,[],(fGive F id).2.2)
 else((gFlow (fGive F id).1 { G with all:=mset G.all id ((fGive F id).2.1,3) } (fGive F id).2.1).1,(gFlow (fGive F id).1 { G with all:=mset G.all id ((fGive F id).2.1,3) } (fGive F id).2.1).2.1,
  (id,3,0,s_,())::(gFlow (fGive F id).1 { G with all:=mset G.all id ((fGive F id).2.1,3) } (fGive F id).2.1).2.2,0)
theorem zfA{F:AFleet}{G:AGate}(ok:G.Ok)(rev:ByteArray):((gFlow F G rev).2.2.length:Int)≤G.room∧((gFlow F G rev).2.1.all.length:Int)≤G.all.length+G.room∧(gFlow F G rev).2.1.lines.length≤G.lines.length+1:=by
 have hlen:=z3y ok rev
 have h1:=zaw (rev:=rev) (l:=lineOf G.lines rev) (F:=F) (all:=G.all) (out:=[])
 simp only[List.length_nil]at h1
 have h2:=z4U G.lines rev (flowA rev (lineOf G.lines rev) F G.all []).2.2.1
 refine⟨?_,?_,h2⟩
 ·show((flowA rev (lineOf G.lines rev) F G.all []).2.2.2.length:Int)≤_;omega
 ·show((flowA rev (lineOf G.lines rev) F G.all []).2.1.length:Int)≤_;omega
theorem zrs{sg sf:Seg}(h:St w0 (sg::sf::E) w){b bf:Nat}{G:AGate}{F:AFleet}(hg:GtS b bf G sg)(hf:FlS bf F sf)(hfew:FFew F)(hn:G.all.length<80000000)(hl:G.lines.length<90000000){id:Int}{k:Sl×Int×Unit→PT}
  (hk:∀v sv sg' sf' w',Rw Fate.cells z0a 4 v (gDone F G id).2.2.1 sv→GtS b bf (gDone F G id).2.1 sg'→FlS bf (gDone F G id).1 sf'→St w0 (sv::sg'::sf'::E) w'→k (v,(gDone F G id).2.2.2,()) w') :
  L.call Pr z79 [.pointer (some ⟨b,0,none⟩),I id] (.tup [.one .slice,.one (.int .i64)]) k w:=by
 have ok:=hg.1
 have hhi:=ok.hi
 refine z01 (zeB _ _) ?_
 unfold za0
 unfold gDone at hk
 obtain⟨rA,rL,c,sA,sL,Q,hr,h⟩:=zhC hg h
 (refine nn ?_;refine ldC h ?_)
 refine zrx h 5 rfl hf fun sf' w hf' h=>?_
 obtain⟨sg,hg,h⟩:=z7y (E:=sf'::E) ok hr h
 refine it (fun he=>?_) (fun he=>?_)<;>(try simp only[zB]at he)
 ·rw[if_pos he]at hk
  exact⟨(⟨none,0,0⟩,(fGive F id).2.2,()),rfl,hk _ [] sg sf' w Rw.nil hg hf' h.nil⟩
 ·rw[if_neg (by simpa using he)]at hk
  have hf1:=hfew.give id
  generalize (fGive F id).1=F1 at *
  generalize (fGive F id).2.1=rev at *
  have ok1:=ok.req (by omega) id (rev,3)
  refine zrn (f:=(0,3,0,s_,())) h hg ok1 fun sg w hg h=>?_
  refine nw h ?_;clear h;(try clear w);intro b5 w h
  (refine stC h ?_;clear h;(try clear w);intro w h;dsimp only[putN,setN]at h)
  have hm:=z4U G.all id (rev,(3:Int))
  have hfl:=zfA (F:=F1) ok1 rev
  dsimp only at hfl
  refine z1h (fun z w=>∃v sv sg' sf',z=(v,0,())∧Rw Fate.cells z0a 4 v ((id,3,0,s_,())::(gFlow F1 { G with all:=mset G.all id (rev,3) } rev).2.2) sv∧GtS b bf (gFlow F1 { G with all:=mset G.all id (rev,3) } rev).2.1 sg'∧FlS bf (gFlow F1 { G with all:=mset G.all id (rev,3) } rev).1 sf'∧St w0 (sv::sg'::sf'::E) w) (fun k6 hk6=>?_) (fun z w ⟨v,sv,sg',sf',hz,hv,hg',hf',h⟩=>?_)
  ·have app:∀{b9:Nat}{v10:Sl}{sv sg' sf':Seg}{w},Rw Fate.cells z0a 4 v10 (gFlow F1 { G with all:=mset G.all id (rev,3) } rev).2.2 sv→GtS b bf (gFlow F1 { G with all:=mset G.all id (rev,3) } rev).2.1 sg'→FlS bf (gFlow F1 { G with all:=mset G.all id (rev,3) } rev).1 sf'→
     St w0 ([Cl b9 z0a [I id,I 3,I 0,.string s_]]::sv::sg'::sf'::E) w→
     (L.sem Pr (.one (.one .slice)) (Builtin.append_ #[z0d,z0d] z0d #[.slice (some ⟨b9,0,none⟩) 1 1,.slice v10.a v10.len v10.cap]) fun(s11:Sl)=>k6 (⟨s11.a,s11.len,s11.cap⟩,0,())) w:=by
    intro b9 v10 sv sg' sf' w hv hg' hf' h
    have hr1:Rw Fate.cells z0a 4 ⟨some ⟨b9,0,none⟩,1,1⟩ [((id,3,0,s_,()):Fate)] [Cl b9 z0a [I id,I 3,I 0,.string s_]]:=fate1
    refine Rw.appRd (v:=⟨some ⟨b9,0,none⟩,1,1⟩) (l:=[((id,3,0,s_,()):Fate)]) encF elF h 0 rfl hr1 (Rw.rd encF h 1 rfl hv) (by simp only[List.length_cons,List.length_nil];omega) (by simp only[List.length_cons,List.length_nil];omega) fun v' s' w hv' _ _ h=>?_
    have h:St w0 (s'::sv::sg'::sf'::E) w:=h
    have h:=dl1_ h
    exact hk6 _ w ⟨v',s',sg',sf',rfl,hv',hg',hf',h⟩
   (refine dr h ?_;clear h;(try clear w);intro w h;refine laC h ?_)
   refine alts2 ?_ ?_
   ·refine nw h ?_;clear h;(try clear w);intro b9 w h
    have h:=fr3_ (fr3_ (fr1_ (fr1_ h)))
    refine zkt h hg hf' hf1 (by simp only;omega) hl fun v10 sv sg' sf' w hv hg' hf' h=>?_
    (dsimp only[setN,List.cons_append,List.nil_append]at h;refine ckC h ?_)
    have h:=dl4_ h
    have h:=fr3_ h
    exact app hv hg' hf' h
   ·have h:=fr2_ (fr2_ h)
    refine zkt h hg hf' hf1 (by simp only;omega) hl fun v10 sv sg' sf' w hv hg' hf' h=>?_
    (refine ckC h ?_)
    refine nw h ?_;clear h;(try clear w);intro b9 w h
    have h:=dl4_ h
    exact app hv hg' hf' h
  ·subst hz
   exact⟨(v,0,()),rfl,hk v sv sg' sf' w hv hg' hf' h⟩
def reqOf(all:Alls)(id:Int):ByteArray×Int:=(mget all id).getD (s_,0)
def lostA:List Int→Alls→List Fate→Alls×List Fate
 | [],all,out=>(all,out)
 | id::l,all,out=>if(reqOf all id).2=1 then lostA l (mset all id ((reqOf all id).1,4)) (out++[(id,4,0,zlQ,())])else lostA l all out
def sameReq(a b:ByteArray×Int):Bool:=(a.1 == b.1)&&((a.2 == b.2)&&true)
theorem zpp(a b:ByteArray×Int)(w:World):(Op.equalIn 10000 z0S (.agg #[.string a.1,I a.2]) (.agg #[.string b.1,I b.2])).run Pr w = .ok (sameReq a b) w:=by
 have hS:Pr.underlying z0S=some (.struct (Pr.fieldsOf z0S)):=by kernel_rfl
 have hp:Pr.stoodInHeld z0S=false:=by kernel_rfl
 obtain⟨a1,a2⟩:=a
 obtain⟨b1,b2⟩:=b
 rw[show(10000:Nat)=9999+1 from rfl,run_equalIn_agg w 9999 z0S _ _ hS hp]
 have u3:=Tryz.underlying3
 have i3:=Tryz.isAgg3
 have z3:=Tryz.sizeOf3
 have u9:=Tryz.underlying9
 have i9:=Tryz.isAgg9
 have z9:=Tryz.sizeOf9
 simp only[Program.fieldsOf,Tryz.underlying173]
 go_simp
 have e:(ByteArray.toList a1=ByteArray.toList b1)↔(@BEq.beq ByteArray _ a1 b1)=true:=by rw[beq_toListBytes];simp
 unfold sameReq
 by_cases h1:(@BEq.beq ByteArray _ a1 b1)=true
 ·rw[if_pos (e.2 h1)]
  simp only[show(a1 == b1)=true from h1,Bool.true_and]
  by_cases h2: @Eq Int a2 b2
  ·cases h2;simp
  ·simp[h2]
 ·rw[if_neg (fun h=>h1 (e.1 h))]
  have:(a1 == b1)=false:=by simpa using h1
  simp[this]
theorem zfj(a b:ByteArray×Int):sameReq a b=true↔a=b:=by
 obtain⟨a1,a2⟩:=a
 obtain⟨b1,b2⟩:=b
 have e:(@BEq.beq ByteArray _ a1 b1)=true↔a1=b1:=zgW
 unfold sameReq
 simp only[Bool.and_eq_true,beq_iff_eq,and_true,Prod.mk.injEq]
 exact and_congr e Iff.rfl
theorem zsc(a b:ByteArray×Int)(w:World):(do eqGuard .eql z0S (.tmp 0) (.tmp 0) (.agg #[.string a.1,I a.2]) (.agg #[.string b.1,I b.2]);binOp .eql z0S (.agg #[.string a.1,I a.2]) (.agg #[.string b.1,I b.2]):Sem Value).run Pr w = .ok (.bool (sameReq a b)) w:=
 znN (by kernel_rfl) (zpp a b w)
def gLost(G:AGate)(ids:List Int):AGate×List Fate:=({ G with all:=(lostA ids G.all []).1 },(lostA ids G.all []).2)
def gWith(all:Alls)(rev:ByteArray):List Int:=isort ((all.filter fun p=>decide (p.2=(rev,1))).map (·.1))
def gWait(G:AGate)(rev:ByteArray):List Int:=(lineOf G.lines rev).map (·.1)
def unReq:Value→ByteArray×Int
 | .agg ⟨.string s:: .int _ n::_⟩=>(s,n)
 | _=>(s_,0)
theorem zjs{sg:Seg}(h:St w0 (sg::E) w){b bf:Nat}{G:AGate}(hg:GtS b bf G sg){rev:ByteArray}{k:Sl×Sl×Unit→PT}
  (hk:∀v1 v2 s1 s2 sg' w',Rw eI z0h 1 v1 (gWait G rev) s1→Rw eI z0h 1 v2 (gWith G.all rev) s2→GtS b bf G sg'→St w0 (s1::s2::sg'::E) w'→k (v1,v2,()) w') :
  L.call Pr z4m [.pointer (some ⟨b,0,none⟩),.string rev] (.tup [.one .slice,.one .slice]) k w:=by
 have ok:=hg.1
 have hfew:=ok.few
 refine z01 (zdb _ _) ?_
 unfold z8M
 obtain⟨rA,rL,c,sA,sL,Q,hr,h⟩:=zhC hg h
 (refine nn ?_;refine ldC h ?_)
 have h:=fr2_ h
 have h:St w0 (sA::[]::gtB b bf rA rL c G.room G.pat::[Cl c z0h [I G.room]]::sL::(Q.map LnE.sg).flatten::E) w:=h.eq (by simp)
 refine mapRange (kv:=KI) (vv:=vReq) unI (fun _=>rfl) unReq (fun _=>rfl) zf6 (lk:=.int .i64) (ev:=.agg [.str,.int .i64]) (fun x=>x) (fun _=>rfl) (fun x:ByteArray×Int=>(x.1,x.2,())) (fun _=>rfl) hr.all h
  (fun seen y F=>∃v sv,y=(v,())∧Rw eI z0h 1 v ((seen.filter fun p=>decide (p.2=(rev,(1:Int)))).map (·.1)) sv∧F=sv::gtB b bf rA rL c G.room G.pat::[Cl c z0h [I G.room]]::sL::(Q.map LnE.sg).flatten::E)
  (y0:=(⟨none,0,0⟩,())) ⟨_,[],rfl,Rw.nil,rfl⟩ ?_ ?_
 ·rintro seen id x y F X w again hsl hmem hnew ⟨v,sv,rfl,hv,rfl⟩ h hN
  have hfl:=List.length_filter_le (fun p:Int×(ByteArray×Int)=>decide (p.2=(rev,1))) seen
  have h:St w0 (sA::sv::(gtB b bf rA rL c G.room G.pat::[Cl c z0h [I G.room]]::sL::(Q.map LnE.sg).flatten::E++X)) w:=h
  refine nw h ?_;clear h;(try clear w);intro b16 w h
  (dsimp only[setN,List.cons_append,List.nil_append]at h;refine stC h ?_;clear h;(try clear w);intro w h;dsimp only[putN,setN]at h;refine laC h ?_)
  unfold L.chkSem
  refine⟨zsc x (rev,1) w,?_⟩
  refine it (fun hc=>?_) (fun hc=>?_)
  ·have hc:x=(rev,1):=(zfj x (rev,1)).1 hc
   refine nw h ?_;clear h;(try clear w);intro b18 w h
   refine Rw.app (l:=(seen.filter fun p=>decide (p.2=(rev,(1:Int)))).map (·.1)) encI elI h 2 rfl hv id rfl (by rw[List.length_map];omega) (by rw[List.length_map];omega) fun v' sv' w hv' h=>?_
   have h:St w0 ([Cl b16 z0S [.string x.1,I x.2]]::sA::sv'::(gtB b bf rA rL c G.room G.pat::[Cl c z0h [I G.room]]::sL::(Q.map LnE.sg).flatten::E++X)) w:=h
   refine hN (v',()) _ w ⟨v',sv',rfl,?_,rfl⟩ (dl0_ h)
   rw[List.filter_append,List.map_append]
   simpa [hc]using hv'
  ·have hc:¬x=(rev,1):=fun e=>by
    have:sameReq x (rev,1)=true:=(zfj _ _).2 e
    unfold sameReq at this;rw[this]at hc;cases hc
   refine hN (v,()) _ w ⟨v,sv,rfl,?_,rfl⟩ (dl0_ h)
   rw[List.filter_append,List.map_append]
   simpa [hc]using hv
 ·rintro seen y F w hp ⟨v,sv,rfl,hv,rfl⟩ h
  have hfl:=List.length_filter_le (fun p:Int×(ByteArray×Int)=>decide (p.2=(rev,1))) seen
  rw[hp.length_eq]at hfl
  (try dsimp only)
  refine zoq h 1 rfl hv (by rw[List.length_map];omega) fun sv w hv h=>?_
  have e1:isort ((seen.filter fun p=>decide (p.2=(rev,(1:Int)))).map (·.1))=gWith G.all rev:=zld ((hp.filter _).map _)
  rw[e1]at hv
  have h:St w0 (sA::sv::gtB b bf rA rL c G.room G.pat::[Cl c z0h [I G.room]]::sL::(Q.map LnE.sg).flatten::E) w:=h
  have hgl:(gWith G.all rev).length<1000000000:=by
   rw[←e1,z7T,List.length_map];omega
  have fin:∀{v1:Sl}{s1:Seg}{w},Rw eI z0h 1 v1 (gWait G rev) s1→St w0 (s1::sA::sv::gtB b bf rA rL c G.room G.pat::[Cl c z0h [I G.room]]::sL::(Q.map LnE.sg).flatten::E) w→
    L.call Pr z18 [.slice v.a v.len v.cap] (.one (.one .slice)) (fun x14 w'=>∃z,Value.tuple #[.slice v1.a v1.len v1.cap,.slice x14.a x14.len x14.cap]=RT.val (.tup [.one .slice,.one .slice]) z∧k z w') w:=by
   intro v1 s1 w h1 h
   refine zcG h (Rw.rd encI h 2 rfl hv) (by omega) (fun h0=>Rw.nil_of encI hv h0) fun v2 s2 w h2 _ h=>⟨(v1,v2,()),rfl,?_⟩
   have h:=dl3_ h
   have h:=fr6_ (fr6_ (fr4_ (fr6_ (fr6_ (fr1_ h)))))
   obtain⟨sg',hg',h⟩:=z7y ok hr h
   have h:=fr2_ (fr2_ h)
   exact hk v1 v2 s1 s2 sg' w h1 h2 hg' h
  refine jd ?_
  (refine nn ?_;refine ldC h ?_)
  refine MpS.get2 mkS' zbM zln (fun x:Option Addr=>x) (fun _=>rfl) h 4 rfl hr.lns ?_
  (try dsimp only)
  have e2:=zeW (Q:=Q) (rev:=rev)
  have e3:=zeX (Q:=Q) (rev:=rev)
  rw[←hr.abs]at e3
  cases hf:lfind LnE.k Q rev with
  | none=>
   rw[hf]at e2 e3
   simp only[Option.map_none]at e2 e3
   rw[e2]
   refine itF rfl ?_
   refine fin (v1:=⟨none,0,0⟩) (s1:=[]) ?_ h.nil
   unfold gWait lineOf;rw[e3];exact Rw.nil
  | some x=>
   rw[hf]at e2 e3
   simp only[Option.map_some]at e2 e3
   rw[e2]
   refine itT rfl ?_
   obtain⟨A,B,rfl,hx⟩:=zb9 hf
   have hlx:=hr.each x (by simp)
   have hlen:=z3y ok rev
   have hhi:=ok.hi
   have elo:lineOf G.lines rev=x.l:=by unfold lineOf;rw[e3];rfl
   rw[elo]at hlen
   have h:=fr5_ h
   have h:=h.pick
   refine zt1 h 0 rfl hlx (by omega) fun v1 s1 w h1 h=>?_
   have h:St w0 (s1::x.sg::((A++B).map LnE.sg).flatten::sA::sv::gtB b bf rA rL c G.room G.pat::[Cl c z0h [I G.room]]::sL::E) w:=h
   have h:=fr2_ (fr2_ h)
   have h:St w0 (LnE.sg x::((A++B).map LnE.sg).flatten::s1::sA::sv::gtB b bf rA rL c G.room G.pat::[Cl c z0h [I G.room]]::sL::E) w:=h
   have h:=h.place
   have h:=fr6_ (fr6_ (fr6_ (fr6_ (fr6_ (fr6_ h)))))
   refine fin (v1:=v1) ?_ h
   unfold gWait;rw[elo];exact h1
theorem zrt{sg:Seg}(h:St w0 (sg::E) w){b bf:Nat}{G:AGate}(hg:GtS b bf G sg){rev:ByteArray}{k:Int→PT}
  (hk:∀sg' w',GtS b bf G sg'→St w0 (sg'::E) w'→k (((gWait G rev).length:Int)+(gWith G.all rev).length) w') :
  L.call Pr z7a [.pointer (some ⟨b,0,none⟩),.string rev] (.one (.one (.int .i64))) k w:=by
 have ok:=hg.1
 refine z01 (zeC _ _) ?_
 unfold za1
 refine zjs h hg fun v1 v2 s1 s2 sg' w h1 h2 hg' h=>?_
 have e1:=Rw.len encI h1
 have e2:=Rw.len encI h2
 have hlen:=z3y ok rev
 have hhi:=ok.hi
 have hfew:=ok.few
 have h3:(gWait G rev).length=(lineOf G.lines rev).length:=List.length_map ..
 have h4:(gWith G.all rev).length≤G.all.length:=by unfold gWith;rw[z7T,List.length_map];exact List.length_filter_le ..
 refine⟨_,rfl,?_⟩
 (try dsimp only)
 rw[e1,e2,wr (by omega) (by omega)]
 exact hk sg' w hg' (dl0_ (dl0_ h))
end Go.Proofs.YtdcdhcgmeahfmaaGreatDoor
namespace Go.Proofs.YtdcdhcgmeahfmaaGreatDoor
open Go.Dm
theorem zqu{P:Program}{r:RT}{s:Sem Value}{k:r.T→PT}{w:World}(x:r.T)(h:s.run P w = .ok (r.val x) w)(hk:k x w):L.semR P r s k w:=⟨x,h,hk⟩
attribute [local irreducible] L.load L.store L.chk L.new L.nonnil L.guard L.ite L.draw L.idx L.sem L.semR L.semU L.chkSem L.next L.call L.callV L.join L.alts L.loop L.begin L.endRound L.range
variable {w0 w:World}{E:List Seg}
theorem zrN(n:Int)(w:World):(Instr.typeAssert (.iface z0h (I n)) zbZ z00 true).run Pr w = .ok (.tuple #[.string s_,.bool false]) w:=by
 have hz:=zstr w
 have hz:(zeroValue z00).run Pr w = .ok (.string s_) w:=hz
 simp only[Instr.typeAssert]
 rw[Sem.run_bind,run_underlying z5T]
 simp only[Result.andThen_ok]
 rw[if_neg (by decide)]
 simp only[if_true]
 rw[Sem.run_bind,hz]
 rfl
def lineB(word:ByteArray)(l:List ByteArray):ByteArray:=joinB (word::l)
theorem zl9{word:ByteArray}{l:List ByteArray}(h:∀x∈word::l,x.size≤100000000)(hl:l.length≤1000):(lineB word l).size<1000000000000:=by
 have:=zeY 100000000 (word::l) h
 unfold lineB
 simp only[List.length_cons]at this
 have e:(l.length+1)*(100000000+1)≤1001*(100000000+1):=Nat.mul_le_mul_right _ (by omega)
 omega
theorem zjf:∀(k:Nat)(g:Nat),g<10 ^ (k+1)→(Lib.decDigits g).length≤k+1
 | 0,g,h=>by rw[Lib.decDigits_one (by simpa using h)];simp
 | k+1,g,h=>by
  by_cases h1:g<10
  ·rw[Lib.decDigits_one h1];simp
  ·rw[Lib.decDigits,dif_neg h1,List.length_append]
   have:=zjf k (g/10) (by rw[Nat.div_lt_iff_lt_mul (by decide)];rw[Nat.pow_succ]at h;exact h)
   simp only[List.length_singleton]
   omega
theorem zhG{x:Int}(h0:0≤x)(h1:x≤9000000000000000000):(decD x.toNat).size≤100:=by
 have:=zjf 18 x.toNat (by have:(10:Nat) ^ (18+1)=10000000000000000000:=by decide
                          omega)
 have e:(decD x.toNat).size=(Lib.decDigits x.toNat).length:=by rw[←z4v,zcD]
 omega
theorem zod(h:St w0 E w){word:ByteArray}{v:Sl}{l:List ByteArray}(r:RdE w0 E eS v l)(hl:l.length≤1000)(hs:∀x∈word::l,x.size≤100000000){k:ByteArray→PT}(hk:∀w',St w0 E w'→k (lineB word l) w') :
  L.call Pr z0i [.string word,SlV v] (.one (.one .str)) k w:=by
 refine z01 (zbi _ v) ?_
 unfold z7i
 have hlen:=Rd.len (r w h)
 refine nw h ?_;clear h;(try clear w);intro b1 w h
 refine z0u (fun q y w=>∃(j:Nat)(s1:Seg),@Eq Int y.2.1 j∧q+j=l.length∧Rw eS z00 1 y.1 (word::l.take j) s1∧St w0 (s1::E) w) l.length ⟨0,_,rfl,rfl,Rw.lit b1 [word] encS rfl rfl (by decide),h⟩ ?_
 clear h;(try clear w)
 rintro q ⟨vo,y,⟨⟩⟩ w ⟨j,s1,hy,hq,r1,h⟩ again hag
 (try dsimp only)
 simp only at hy r1
 subst hy
 refine it (fun hb=>?_) (fun hb=>?_)<;>(try simp only[zB]at hb)
 ·have hj:j<l.length:=by omega
  have hx:l[j]? = some l[j]:=List.getElem?_eq_getElem hj
  have et:l.take (j+1)=l.take j++[l[j]]:=by rw[List.take_succ,hx];rfl
  have rr:=r w (dl0_ h)
  generalize l[j]=x at hx et
  refine jd ?_
  refine rr.ix encS (by omega) (by simpa using hj) fun a ha=>?_
  refine rr.ld0 encS ha (by simpa using hx) rfl rfl ?_
  refine itT rfl ?_
  refine nw h ?_;clear h;(try clear w);intro b8 w h
  refine Rw.app encS elS h 0 rfl r1 x rfl (by simp;omega) (by simp;omega) fun v' s1' w r1' h=>?_
  refine hag (q-1) _ w (by omega) ⟨j+1,s1',?_,by omega,by rw[et];exact r1',h⟩
  show IntKind.wrap .i64 _=_
  rw[wr (by omega) (by omega)];omega
 ·have e:l.take j=l:=List.take_of_length_le (by omega)
  rw[e]at r1
  refine zkv h 0 rfl r1 (by simp;omega) (zl9 hs hl) fun w h=>⟨_,rfl,hk w (dl0_ h)⟩
theorem zoe [bTab w0](h:St w0 E w){word:ByteArray}{v:Sl}{l:List Int}(r:RdE w0 E eI v l)(hl:l.length≤1000)(hw:word.size≤100000000)(hs:∀x∈l,0≤x∧x≤9000000000000000000){k:ByteArray→PT}(hk:∀w',St w0 E w'→k (lineB word (l.map fun x=>decD x.toNat)) w') :
  L.call Pr z0q [.string word,SlV v] (.one (.one .str)) k w:=by
 refine z01 (zdM _ v) ?_
 unfold z9g
 have hlen:=Rd.len (r w h)
 let f:Int→ByteArray:=fun x=>decD x.toNat
 refine nw h ?_;clear h;(try clear w);intro b1 w h
 refine z0u (fun q y w=>∃(j:Nat)(s1:Seg),@Eq Int y.2.1 j∧q+j=l.length∧Rw eS z00 1 y.1 (word::(l.take j).map f) s1∧St w0 (s1::E) w) l.length ⟨0,_,rfl,rfl,Rw.lit b1 [word] encS rfl rfl (by decide),h⟩ ?_
 clear h;(try clear w)
 rintro q ⟨vo,y,⟨⟩⟩ w ⟨j,s1,hy,hq,r1,h⟩ again hag
 (try dsimp only)
 simp only at hy r1
 subst hy
 refine it (fun hb=>?_) (fun hb=>?_)<;>(try simp only[zB]at hb)
 ·have hj:j<l.length:=by omega
  have hx:l[j]? = some l[j]:=List.getElem?_eq_getElem hj
  have et:(l.take (j+1)).map f=(l.take j).map f++[f l[j]]:=by rw[List.take_succ,hx,List.map_append];rfl
  have hxs:=hs l[j] (List.getElem_mem hj)
  have rr:=r w (dl0_ h)
  generalize l[j]=x at hx et hxs
  refine jd ?_
  refine rr.ix encI (by omega) (by simpa using hj) fun a ha=>?_
  refine rr.ld0 encI ha (by simpa using hx) rfl rfl ?_
  refine zqu (s_,false,()) (zrN x w) ?_
  refine itF rfl (itT rfl ?_)
  refine zor h hxs.1 (by omega) fun w h=>?_
  refine nw h ?_;clear h;(try clear w);intro b8 w h
  refine Rw.app encS elS h 0 rfl r1 (f x) rfl (by simp;omega) (by simp;omega) fun v' s1' w r1' h=>?_
  refine hag (q-1) _ w (by omega) ⟨j+1,s1',?_,by omega,by rw[et];exact r1',h⟩
  show IntKind.wrap .i64 _=_
  rw[wr (by omega) (by omega)];omega
 ·have e:l.take j=l:=List.take_of_length_le (by omega)
  rw[e]at r1
  refine zkv h 0 rfl r1 (by simp;omega) (zl9 (fun x hx=>?_) (by simpa using hl)) fun w h=>⟨_,rfl,hk w (dl0_ h)⟩
  rcases List.mem_cons.1 hx with rfl | hx
  ·exact hw
  ·obtain⟨y,hy,rfl⟩:=List.mem_map.1 hx
   have:=zhG (hs y hy).1 (hs y hy).2
   show(decD y.toNat).size≤_
   omega
end Go.Proofs.YtdcdhcgmeahfmaaGreatDoor
namespace Go.Proofs.YtdcdhcgmeahfmaaGreatDoor
open Go.Dm
attribute [local irreducible] L.load L.store L.chk L.new L.nonnil L.guard L.ite L.draw L.idx L.sem L.semR L.semU L.chkSem L.next L.call L.callV L.join L.alts L.loop L.begin L.endRound L.range
variable {w0 w:World}{E:List Seg}
def errB(e:Int):ByteArray:=
 if e=0 then s_ok else if e=1 then zq3 else if e=2 then zrT else if e=3 then zq6 else if e=4 then zrQ else if e=5 then s_twice else if e=6 then zq2 else if e≤6 then zho
 else if e=7 then zne else if e=8 then zq9 else if e=9 then znd else if e=10 then zrS else if e=11 then zq4 else if e=12 then zq7 else zho
theorem zp9{c:Prop}[Decidable c]{a b:ByteArray}{n:Nat}(h1:a.size≤n)(h2:b.size≤n):(if c then a else b).size≤n:=by split<;>assumption
theorem zqO(e:Int):(errB e).size≤100:=by
 unfold errB
 repeat' (first | (show ByteArray.size _≤_;decide) | apply zp9)
theorem zoi{e:Int}{k:ByteArray→PT}(hk:k (errB e) w):L.call Pr z3x [I e] (.one (.one .str)) k w:=by
 refine z01 (zdS e) ?_
 unfold z9m
 unfold errB at hk
 refine it (fun h1=>?_) (fun h1=>?_)
 ·have h1:e≤6:=by simpa using h1
  refine z01 (zkG e) ?_
  unfold zg1
  repeat' (first | refine it (fun hc=>?_) (fun hc=>?_))
  all_goals refine⟨_,rfl,_,rfl,?_⟩
  all_goals exact eqk hk (by clear hk;simp_all)
 ·have h1:¬e≤6:=by simpa using h1
  refine z01 (zmJ e) ?_
  unfold zh8
  have n0:¬e=0:=by omega
  have n1:¬e=1:=by omega
  have n2:¬e=2:=by omega
  have n3:¬e=3:=by omega
  have n4:¬e=4:=by omega
  have n5:¬e=5:=by omega
  have n6:¬e=6:=by omega
  rw[if_neg n0,if_neg n1,if_neg n2,if_neg n3,if_neg n4,if_neg n5,if_neg n6,if_neg h1]at hk
  repeat' (first | refine it (fun hc=>?_) (fun hc=>?_))
  all_goals refine⟨_,rfl,_,rfl,?_⟩
  all_goals exact eqk hk (by clear hk;simp_all)
theorem lineS1{b:Nat}{x word:ByteArray}(h:St w0 ([Cl b z00 [.string x]]::E) w)(h1:word.size≤100000000)(h2:x.size≤100000000){k:ByteArray→PT}(hk:∀w',St w0 E w'→k (lineB word [x]) w') :
  L.call Pr z0i [.string word,.slice (some ⟨b,0,none⟩) 1 1] (.one (.one .str)) k w:=
 zod (v:=⟨some ⟨b,0,none⟩,1,1⟩) (l:=[x]) h (Rw.re encS 0 rfl (Rw.lit b [x] encS rfl rfl (by decide))) (by simp) (fun y hy=>by
  rcases List.mem_cons.1 hy with rfl | hy
  ·exact h1
  ·rw[List.mem_singleton.1 hy];exact h2) fun w h=>hk w (dl0_ h)
theorem lineS2{b:Nat}{x y word:ByteArray}(h:St w0 ([Cl b z00 [.string x,.string y]]::E) w)(h1:word.size≤100000000)(h2:x.size≤100000000)(h3:y.size≤100000000){k:ByteArray→PT}(hk:∀w',St w0 E w'→k (lineB word [x,y]) w') :
  L.call Pr z0i [.string word,.slice (some ⟨b,0,none⟩) 2 2] (.one (.one .str)) k w:=
 zod (v:=⟨some ⟨b,0,none⟩,2,2⟩) (l:=[x,y]) h (Rw.re encS 0 rfl (Rw.lit b [x,y] encS rfl rfl (by decide))) (by simp) (fun z hz=>by
  rcases List.mem_cons.1 hz with rfl | hz
  ·exact h1
  ·rcases List.mem_cons.1 hz with rfl | hz
   ·exact h2
   ·rw[List.mem_singleton.1 hz];exact h3) fun w h=>hk w (dl0_ h)
theorem lineI1 [bTab w0]{b:Nat}{x:Int}{word:ByteArray}(h:St w0 ([Cl b z0h [I x]]::E) w)(h1:word.size≤100000000)(h0:0≤x)(h2:x≤9000000000000000000){k:ByteArray→PT}(hk:∀w',St w0 E w'→k (lineB word [decD x.toNat]) w') :
  L.call Pr z0q [.string word,.slice (some ⟨b,0,none⟩) 1 1] (.one (.one .str)) k w:=
 zoe (v:=⟨some ⟨b,0,none⟩,1,1⟩) (l:=[x]) h (Rw.re encI 0 rfl (Rw.lit b [x] encI rfl rfl (by decide))) (by simp) h1 (fun y hy=>by rw[List.mem_singleton.1 hy];exact⟨h0,h2⟩) fun w h=>hk w (dl0_ h)
theorem lineI2 [bTab w0]{b:Nat}{x y:Int}{word:ByteArray}(h:St w0 ([Cl b z0h [I x,I y]]::E) w)(h1:word.size≤100000000)(h0:0≤x∧x≤9000000000000000000)(h2:0≤y∧y≤9000000000000000000){k:ByteArray→PT}(hk:∀w',St w0 E w'→k (lineB word [decD x.toNat,decD y.toNat]) w') :
  L.call Pr z0q [.string word,.slice (some ⟨b,0,none⟩) 2 2] (.one (.one .str)) k w:=
 zoe (v:=⟨some ⟨b,0,none⟩,2,2⟩) (l:=[x,y]) h (Rw.re encI 0 rfl (Rw.lit b [x,y] encI rfl rfl (by decide))) (by simp) h1 (fun z hz=>by
  rcases List.mem_cons.1 hz with rfl | hz
  ·exact h0
  ·rw[List.mem_singleton.1 hz];exact h2) fun w h=>hk w (dl0_ h)
def refusedB(e:Int):List ByteArray:=[lineB s_refused [errB e]]
theorem z6d(h:St w0 E w){e:Int}{k:Sl→PT}(hk:∀v s' w',Rw eS z00 1 v (refusedB e) s'→St w0 (s'::E) w'→k v w'):L.call Pr z1k [I e] (.one (.one .slice)) k w:=by
 refine z01 (zes e) ?_
 unfold z9S
 refine zoi ?_
 refine nw h ?_;clear h;(try clear w);intro b2 w h
 refine lineS1 h (by decide) (by have:=zqO e;omega) fun w h=>?_
 refine nw h ?_;clear h;(try clear w);intro b4 w h
 exact⟨⟨some ⟨b4,0,none⟩,1,1⟩,rfl,hk _ _ w (Rw.lit b4 [_] encS rfl rfl (by decide)) h⟩
theorem z9a{word x:ByteArray}:(lineB word [x]).size=word.size+1+x.size:=by
 unfold lineB
 rw[zgN,ziZ,ByteArray.size_append,ByteArray.size_append]
 rfl
def putB(word name:ByteArray)(ver no:Int):List ByteArray:=if no=0 then [lineB (lineB word [name]) [decD ver.toNat]]else refusedB no
theorem zsy [bTab w0](h:St w0 E w){word name:ByteArray}{ver no:Int}(h1:word.size≤1000)(h2:name.size≤1000000)(h3:0≤ver∧ver≤9000000000000000000){k:Sl→PT}(hk:∀v s' w',Rw eS z00 1 v (putB word name ver no) s'→St w0 (s'::E) w'→k v w') :
  L.call Pr z8C [.string word,.string name,I ver,I no] (.one (.one .slice)) k w:=by
 refine z01 (zjH _ _ _ _) ?_
 unfold ze8
 unfold putB at hk
 refine it (fun hc=>?_) (fun hc=>?_)
 ·have hc:¬no=0:=by simpa using hc
  rw[if_neg hc]at hk
  exact z6d h fun v s w r h=>⟨v,rfl,hk v s w r h⟩
 ·have hc:no=0:=by simpa using hc
  rw[if_pos hc]at hk
  refine nw h ?_;clear h;(try clear w);intro b2 w h
  refine lineS1 h (by omega) (by omega) fun w h=>?_
  refine nw h ?_;clear h;(try clear w);intro b4 w h
  refine lineI1 h (by rw[z9a];omega) h3.1 h3.2 fun w h=>?_
  refine nw h ?_;clear h;(try clear w);intro b6 w h
  exact⟨⟨some ⟨b6,0,none⟩,1,1⟩,rfl,hk _ _ w (Rw.lit b6 [_] encS rfl rfl (by decide)) h⟩
def fateB(f:Fate):ByteArray:=
 if f.2.1=1 then lineB s_sent [decD (@id Int f.1).toNat,decD (@id Int f.2.2.1).toNat]else if f.2.1=2 then lineB zna [decD (@id Int f.1).toNat]else if f.2.1=3 then lineB zkT [decD (@id Int f.1).toNat]
 else lineB (lineB s_refused [decD (@id Int f.1).toNat]) [f.2.2.2.1]
structure Fate.Ok(f:Fate):Prop where
 id:0≤@id Int f.1∧@id Int f.1≤9000000000000000000
 pod:0≤@_root_.id Int f.2.2.1∧@_root_.id Int f.2.2.1≤9000000000000000000
 why:f.2.2.2.1.size≤1000
theorem zsJ [bTab w0](h:St w0 E w){f:Fate}(ok:f.Ok){k:ByteArray→PT}(hk:∀w',St w0 E w'→k (fateB f) w'):L.call Pr z9t [.agg f.cells.toArray] (.one (.one .str)) k w:=by
 obtain⟨fi,fw,fp,fy,⟨⟩⟩:=f
 obtain⟨o1,o2,o3⟩:=ok
 simp only[id]at o1 o2
 refine z01 (zhV (fi,fw,fp,fy,())) ?_
 unfold zcN
 unfold fateB at hk
 refine nw h ?_;clear h;(try clear w);intro b1 w h
 (dsimp only[setN,List.cons_append,List.nil_append]at h;refine ldC h ?_)
 refine it (fun h1=>?_) (fun h1=>?_)
 ·rw[if_pos (by simpa using h1)]at hk
  (refine ldC h ?_;refine ldC h ?_)
  refine nw h ?_;clear h;(try clear w);intro b5 w h
  exact lineI2 h (by decide) o1 o2 fun w h=>⟨_,rfl,hk w (dl0_ h)⟩
 rw[if_neg (by simpa using h1)]at hk
 refine it (fun h2=>?_) (fun h2=>?_)
 ·rw[if_pos (by simpa using h2)]at hk
  (refine ldC h ?_)
  refine nw h ?_;clear h;(try clear w);intro b5 w h
  exact lineI1 h (by decide) o1.1 o1.2 fun w h=>⟨_,rfl,hk w (dl0_ h)⟩
 rw[if_neg (by simpa using h2)]at hk
 refine it (fun h3=>?_) (fun h3=>?_)
 ·rw[if_pos (by simpa using h3)]at hk
  (refine ldC h ?_)
  refine nw h ?_;clear h;(try clear w);intro b5 w h
  exact lineI1 h (by decide) o1.1 o1.2 fun w h=>⟨_,rfl,hk w (dl0_ h)⟩
 rw[if_neg (by simpa using h3)]at hk
 have hd:=zhG o1.1 o1.2
 have hb:(lineB s_refused [decD (@id Int fi).toNat]).size≤100000000:=by rw[z9a];have:s_refused.size=7:=rfl;simp only[id];omega
 dsimp only at o3
 refine jd ?_
 (refine dr h ?_;clear h;(try clear w);intro w h;refine ldC h ?_;refine ldC h ?_)
 refine alts2 ?_ ?_
 ·refine nw h ?_;clear h;(try clear w);intro b17 w h
  (refine ckC h ?_)
  refine alts2 ?_ ?_
  ·refine lineI1 h (by decide) o1.1 o1.2 fun w h=>?_
   (refine ckC h ?_)
   refine nw h ?_;clear h;(try clear w);intro b19 w h
   (refine ckC h ?_)
   exact lineS1 h hb (by omega) fun w h=>⟨_,rfl,hk w (dl0_ h)⟩
  ·refine nw h ?_;clear h;(try clear w);intro b21 w h
   (refine ckC h ?_)
   have h:=fr1_ h
   refine lineI1 h (by decide) o1.1 o1.2 fun w h=>?_
   (refine ckC h ?_)
   exact lineS1 h hb (by omega) fun w h=>⟨_,rfl,hk w (dl0_ h)⟩
 ·refine nw h ?_;clear h;(try clear w);intro b24 w h
  (refine ckC h ?_)
  refine nw h ?_;clear h;(try clear w);intro b25 w h
  (refine ckC h ?_)
  refine lineI1 h (by decide) o1.1 o1.2 fun w h=>?_
  (refine ckC h ?_)
  exact lineS1 h hb (by omega) fun w h=>⟨_,rfl,hk w (dl0_ h)⟩
theorem zqY [bTab w0]{c:Nat}{v:Sl}{fs:List Fate}{sv:Seg}(hr:Rw Fate.cells z0a 4 v fs sv)(hok:∀f∈fs,f.Ok)(hn:fs.length<1000000000) :
  YldX Pr w0 [[Cl c z0d [SlV v]],sv] (.func (.func z40) #[] #[.pointer (some ⟨c,0,none⟩)]) (fs.map fateB).length fun i=>TV _ (argS (fs.map fateB) i):=by
 intro yv R J Jd G w h hJ step fin fin2
 refine⟨zen,zet yv ⟨c,0,none⟩ ?_⟩
 unfold z9T
 have h:St w0 ([Cl c z0d [SlV v]]::sv::G) w:=h
 have hlen:=Rw.len encF hr
 (refine ldC h ?_)
 refine z0u (fun q y w=>∃(j:Nat)(G:List Seg),@Eq Int y.1 j∧q+j=fs.length∧J j G∧St w0 ([Cl c z0d [SlV v]]::sv::G) w) fs.length ⟨0,G,rfl,rfl,hJ,h⟩ ?_
 clear hJ
 clear h;(try clear w)
 rintro q ⟨y,⟨⟩⟩ w ⟨j,G,hy,hq,hJ,h⟩ again hag
 (try dsimp only)
 simp only at hy
 subst hy
 refine it (fun hb=>?_) (fun hb=>?_)<;>(try simp only[zB]at hb)
 ·have hj:j<fs.length:=by omega
  have hx:fs[j]? = some fs[j]:=List.getElem?_eq_getElem hj
  have ho:=hok fs[j] (List.getElem_mem hj)
  generalize fs[j]=x at hx ho
  have next:∀{G w},J (j+1) G→St w0 ([Cl c z0d [SlV v]]::sv::G) w→again (IntKind.wrap .i64 ((j:Int)+1),()) w:=by
   intro G w hJ h
   refine hag (q-1) _ w (by omega) ⟨j+1,G,?_,by omega,hJ,h⟩
   show IntKind.wrap .i64 _=_
   rw[wr (by omega) (by omega)];omega
  refine Rw.ix encF hr (by omega) (by simpa using hj) fun a ha=>?_
  refine Rw.lda encF h 1 rfl hr ha (x:=x) (by simpa using hx) rfl ?_
  refine nw h ?_;clear h;(try clear w);intro b6 w h
  (refine stC h ?_;clear h;(try clear w);intro w h;dsimp only[putN,setN]at h;refine laC h ?_)
  refine zsJ (f:=x) h ho fun w h=>?_
  have h:=dl0_ h
  have hat:(fs.map fateB)[j]? = some (fateB x):=by rw[List.getElem?_map,hx];rfl
  have step:=step j G [] w (by simpa using hj) hJ (by simpa using h)
  simp only[znZ hat]at step
  refine cv (FCall.mono step fun u w' hu=>?_)
  rcases hu with ⟨rfl,G',h,hJ⟩ | ⟨rfl,hd⟩
  ·exact⟨true,rfl,itF rfl (next hJ (by simpa using h))⟩
  ·exact⟨false,rfl,itT rfl (fin2 w' hd)⟩
 ·have e:j=fs.length:=by omega
  subst e
  exact fin G w (by simpa using hJ) h
theorem zlv [bTab w0]{s2 sv:Seg}(h:St w0 (s2::sv::E) w){v1 v2:Sl}{fs:List Fate}{l:List ByteArray}(hr:Rw Fate.cells z0a 4 v1 fs sv)(hok:∀f∈fs,f.Ok)(hn:fs.length<100000000)(hl:l.length<100000000)(h2:Rw eS z00 1 v2 l s2){k:Sl→PT}
  (hk:∀v s w',Rw eS z00 1 v (l++fs.map fateB) s→St w0 (s::sv::E) w'→k v w'):L.call Pr z4R [SlV v1,SlV v2] (.one (.one .slice)) k w:=by
 refine z01 (zhU v1 v2) ?_
 unfold zcM
 refine nw h ?_;clear h;(try clear w);intro b1 w h
 refine z01 (zgm v1) ?_
 unfold zbD
 refine nw h ?_;clear h;(try clear w);intro c w h
 refine⟨⟨.func z40,#[],#[.pointer (some ⟨c,0,none⟩)]⟩,rfl,?_⟩
 have h:St w0 ([[Cl c z0d [SlV v1]],sv]++([Cl b1 z07 [SlV v2]]::s2::E)) w:=by
  have h:=fr3_ (fr3_ (fr2_ (fr2_ h)))
  exact h
 refine z5j (zqY hr hok (by omega)) h (fun m G=>∃vv s,G = [Cl b1 z07 [SlV vv]]::s::E∧Rw eS z00 1 vv (l++(fs.map fateB).take m) s) (fun j G=>False) ⟨v2,s2,rfl,by simpa using h2⟩ ?_ ?_ ?_
 ·rintro m G X w lv lp d R hm ⟨vv,so,rfl,hr2⟩ h hN hE
  have hx:(fs.map fateB)[m]? = some (fs.map fateB)[m]:=List.getElem?_eq_getElem hm
  have h:St w0 ([Rec lv lp .busy none]::[DfM d]::[Cl c z0d [SlV v1]]::sv::[Cl b1 z07 [SlV vv]]::so::(E++X)) w:=h
  have et:l++(fs.map fateB).take (m+1)=(l++(fs.map fateB).take m)++[(fs.map fateB)[m]]:=by rw[List.take_add_one,hx,Option.toList_some,List.append_assoc]
  have hlm:(l++(fs.map fateB).take m).length<300000000:=by rw[List.length_append,List.length_take,List.length_map];omega
  rw[znZ hx]
  generalize (fs.map fateB)[m]=x at et hx
  dsimp only
  (refine ldC h ?_)
  refine nw h ?_;clear h;(try clear w);intro b9 w h
  refine Rw.app encS elS h 5 rfl hr2 x rfl (by omega) (by omega) fun v' s' w hr' h=>?_
  (dsimp only[setN,List.cons_append,List.nil_append]at h;refine stC h ?_;clear h;(try clear w);intro w h;dsimp only[putN,setN]at h)
  exact hN _ w ⟨v',s',rfl,by rw[et];exact hr'⟩ h
 ·rintro d G w ⟨vv,so,rfl,hr2⟩ h
  rw[List.take_length]at hr2
  have h:St w0 ([DfM d]::[Cl c z0d [SlV v1]]::sv::[Cl b1 z07 [SlV vv]]::so::E) w:=h
  refine jumpN ?_
  (refine ldC h ?_)
  refine zlC h (Rw.rd encS h 4 rfl hr2) (by rw[List.length_append,List.length_map];omega) (Rw.nil0 encS hr2) fun v' s' w hr' hi h=>?_
  (first | refine um0_ h ?_ | refine um1_ h ?_ | refine um2_ h ?_ | refine um3_ h ?_ | refine um4_ h ?_ | refine um5_ h ?_ | refine um6_ h ?_ | refine um7_ h ?_ | refine um8_ h ?_ | refine um9_ h ?_ | refine z92 h ?_ | refine z91 h ?_);clear h;(try clear w);intro w h
  refine⟨v',rfl,hk v' s' w hr' ?_⟩
  have h:=dl1_ (dl3_ (dl4_ h))
  exact h
 ·rintro d j G w hf;exact hf.elim
def gCnt(all:Alls)(q:Int):Nat:=(all.filter fun p=>decide (p.2.2=q)).length
theorem zog{sg:Seg}(h:St w0 (sg::E) w){b bf:Nat}{G:AGate}(hg:GtS b bf G sg){k:Int×Int×Int×Int×Unit→PT}
  (hk:∀sg' w',GtS b bf G sg'→St w0 (sg'::E) w'→k ((G.all.length:Int),(gCnt G.all 2:Int),(gCnt G.all 1:Int),(gCnt G.all 3:Int)+gCnt G.all 4,()) w') :
  L.call Pr z64 [.pointer (some ⟨b,0,none⟩)] (.tup [.one (.int .i64),.one (.int .i64),.one (.int .i64),.one (.int .i64)]) k w:=by
 have ok:=hg.1
 have hfew:=ok.few
 refine z01 (zdc _) ?_
 unfold z8N
 refine MpS.new h KI KI fun rM sM w hM h=>?_
 have h:=fr1_ h
 obtain⟨rA,rL,c,sA,sL,Q,hr,h⟩:=zhC hg h
 (refine nn ?_;refine ldC h ?_)
 have h:=fr3_ (fr5_ h)
 refine mapRange (kv:=KI) (vv:=vReq) unI (fun _=>rfl) unReq (fun _=>rfl) zf6 (lk:=.int .i64) (ev:=.agg [.str,.int .i64]) (fun x=>x) (fun _=>rfl) (fun x:ByteArray×Int=>(x.1,x.2,())) (fun _=>rfl) hr.all h
  (fun seen y F=>∃mm sm,MpS KI KI rM mm sm∧(∀q,(mget mm q).getD 0=((gCnt seen q:Nat):Int))∧F=sm::gtB b bf rA rL c G.room G.pat::[Cl c z0h [I G.room]]::sL::(Q.map LnE.sg).flatten::E)
  (y0:=()) ⟨[],sM,hM,fun q=>rfl,rfl⟩ ?_ ?_
 ·rintro seen id x ⟨⟩ F X w again hsl hmem hnew ⟨mm,sm,hm,hc,rfl⟩ h hN
  have h:St w0 (sA::sm::(gtB b bf rA rL c G.room G.pat::[Cl c z0h [I G.room]]::sL::(Q.map LnE.sg).flatten::E++X)) w:=h
  refine nw h ?_;clear h;(try clear w);intro b16 w h
  (dsimp only[setN,List.cons_append,List.nil_append]at h;refine stC h ?_;clear h;(try clear w);intro w h;dsimp only[putN,setN]at h;refine ldC h ?_)
  refine MpS.get mkI z4u zi (fun x:Int=>x) (fun _=>rfl) h 2 rfl hm ?_
  have hcx:=hc x.2
  have hle:gCnt seen x.2≤seen.length:=List.length_filter_le ..
  have e:((mget mm x.2).map fun x:Int=>x).getD 0=((gCnt seen x.2:Nat):Int):=by rw[←hcx];cases mget mm x.2<;>rfl
  rw[e,wr (by omega) (by omega)]
  refine MpS.set mkI z4u h 2 rfl hm (((gCnt seen x.2:Nat):Int)+1) rfl fun sm' w hm' h=>?_
  refine hN () _ w ⟨_,sm',hm',fun q=>?_,rfl⟩ (dl0_ h)
  rw[z47]
  unfold gCnt
  rw[List.filter_append,List.length_append]
  by_cases hq:x.2=q
  ·subst hq;simp[gCnt]
  ·rw[if_neg hq];have:=hc q;unfold gCnt at this;simp[hq,this]
 ·rintro seen ⟨⟩ F w hp ⟨mm,sm,hm,hc,rfl⟩ h
  have hcc:∀q,gCnt seen q=gCnt G.all q:=fun q=>(hp.filter _).length_eq
  have hle3:gCnt G.all 3≤G.all.length:=List.length_filter_le ..
  have hle4:gCnt G.all 4≤G.all.length:=List.length_filter_le ..
  have eg:∀q:Int,((mget mm q).map fun x:Int=>x).getD 0=((gCnt G.all q:Nat):Int):=fun q=>by rw[←hcc,←hc q];cases mget mm q<;>rfl
  have ev:∀q:Int,((mget mm q).map KI).getD (I 0)=I ((gCnt G.all q:Nat):Int):=fun q=>by rw[←eg q];cases mget mm q<;>rfl
  have h:St w0 (sA::sm::gtB b bf rA rL c G.room G.pat::[Cl c z0h [I G.room]]::sL::(Q.map LnE.sg).flatten::E) w:=h
  (refine dr h ?_;clear h;(try clear w);intro w h;refine nn ?_;refine ldC h ?_)
  refine MpS.len zf6 h 0 rfl hr.all ?_
  refine MpS.get mkI z4u zi (fun x:Int=>x) (fun _=>rfl) h 1 rfl hm ?_
  rw[eg]
  refine MpS.get mkI z4u zi (fun x:Int=>x) (fun _=>rfl) h 1 rfl hm ?_
  rw[eg]
  refine MpS.get mkI z4u zi (fun x:Int=>x) (fun _=>rfl) h 1 rfl hm ?_
  rw[eg]
  refine MpS.get mkI z4u zi (fun x:Int=>x) (fun _=>rfl) h 1 rfl hm ?_
  rw[eg]
  (repeat refine MpS.chk mkI z4u zi h 1 rfl hm (ev _) ?_)
  rw[wr (by omega) (by omega)]
  have h:=fr5_ (fr5_ (fr3_ (fr5_ (fr5_ (fr1_ h)))))
  have h:=h
  obtain⟨sg',hg',h⟩:=z7y ok hr h
  exact⟨(_,_,_,_,()),rfl,hk sg' w hg' (dl1_ h)⟩
theorem zph(F:AFleet)(rev:ByteArray)(want:Int):(growN F rev want:Int)=max 0 (min (want-fCount F.l rev) (F.room-F.l.length)):=by unfold growN;omega
theorem zlJ(F:AFleet)(rev:ByteArray)(want:Int):(shrinkN F rev want:Int)=max 0 ((fCount F.l rev:Int)-max want 0):=by unfold shrinkN;omega
def fUpp(F:AFleet)(id:Int):AFleet×Int:=match fFind F.l id with
 | none=>(F,6)
 | some x=>({ F with l:=fUpd F.l id fun p=>(podUp p).1 },(podUp x.pod).2)
theorem zsK(h:St w0 E w)(i:Nat){b:Nat}{F:AFleet}{s:Seg}(hi:nth E i=some s)(hf:FlS b F s){id:Int}{k:Int→PT}
  (hk:∀s' w',FlS b (fUpp F id).1 s'→St w0 (setN E i s') w'→k (fUpp F id).2 w') :
  L.call Pr z5w [.pointer (some ⟨b,0,none⟩),I id] (.one (.one (.int .i64))) k w:=by
 refine ztk h i hi hf (fun hn w h=>?_) (fun x hx s' w hf h=>?_)
 ·have e:fUpp F id=(F,6):=by unfold fUpp;rw[hn]
  rw[e]at hk
  exact hk s w hf (by rwa [z2h hi])
 ·have e:fUpp F id=({ F with l:=fUpd F.l id fun p=>(podUp p).1 },(podUp x.pod).2):=by unfold fUpp;rw[hx]
  rw[e]at hk
  exact hk s' w hf h
def tab{α:Type}(n:Nat)(f:Nat→α):List α:=(List.range n).map f
def sk(l:List AHeld):List (Int×ByteArray):=l.map fun x=>(x.id,x.rev)
theorem zqM{F:AFleet}(ok:F.Ok)(q:Int):(fGive F q).1.Ok:=by
 unfold fGive
 split
 ·exact ok
 ·rename_i x hw
  obtain⟨hx,hq⟩:=z9G hw
  have hgv:=zkf hq
  have:=ok.live x hx
  refine ok.upd (z8E ok.pw hx) _ ?_ ?_
  ·rw[hgv];simp only;split<;>omega
  ·rw[hgv];exact fun q2 h2=>.inl (List.mem_of_mem_erase h2)
theorem zmb{F:AFleet}(ok:F.Ok)(nd:∀x∈F.l,x.pod.reqs.Nodup)(q q':Int):(fWhere (fGive F q).1.l q').map (·.id)=if q'=q then none else(fWhere F.l q').map (·.id):=by
 unfold fGive
 split
 ·rename_i hw
  split
  ·rename_i e;subst e;rw[hw];rfl
  ·rfl
 ·rename_i x hw
  obtain⟨hx,hq⟩:=z9G hw
  have hgv:=zkf hq
  have hlv:=ok.live x hx
  have hrq:(podGive x.pod q).1.reqs=x.pod.reqs.erase q:=by rw[hgv]
  rw[ok.where_upd (z8E ok.pw hx) (fun p=>(podGive p q).1) (fun q2 h2=>.inl (by rw[hrq]at h2;exact List.mem_of_mem_erase h2)) (by
   rw[hgv];simp only;split
   ·rename_i h;exact fun _=>h.2
   ·intro h;omega),hrq]
  by_cases eq:q'=q
  ·subst eq
   rw[if_neg (by rw[List.Nodup.mem_erase_iff (nd x hx)];simp),if_pos hq,if_pos rfl]
  ·rw[if_neg eq]
   by_cases h2:q'∈x.pod.reqs
   ·rw[if_pos ((List.Nodup.mem_erase_iff (nd x hx)).2 ⟨eq,h2⟩),zfF ok.once hx h2];rfl
   ·rw[if_neg (fun hh=>h2 (List.mem_of_mem_erase hh)),if_neg h2]
theorem FlS.nd{b:Nat}{F:AFleet}{s:Seg}(hf:FlS b F s):∀x∈F.l,x.pod.reqs.Pairwise (· < ·):=by
 obtain⟨-,_,_,_,_,_,_,L,-,-,hr,-⟩:=hf
 intro x hx
 rw[hr.l]at hx
 obtain⟨t,ht,rfl⟩:=List.mem_map.1 hx
 exact(hr.ps t ht).1.pw
def tot(rs:Nat→List Int):Nat→Nat
 | 0=>0
 | n+1=>tot rs n+(rs n).length
structure TL(n c m:Nat)(B:Int)(ready:Nat→Bool)(rs:Nat→List Int):Prop where
 len:∀i,i<n→(rs i).length≤c
 nr:∀i,i<n→ready i=false→rs i = []
 tot:tot rs n=m
 b:∀i,i<n→∀q∈rs i,1≤q∧q≤B
theorem TL.fresh{n c m:Nat}{B q:Int}{ready:Nat→Bool}{rs:Nat→List Int}(t:TL n c m B ready rs)(hq:B<q):∀i,i<n→q∉rs i:=fun i hi h=>by have:=t.b i hi q h;omega
def lateS(rev:ByteArray)(l:List Int)(all:Alls):Alls:=l.foldl (fun a q=>mset a q (rev,4)) all
def lateF(l:List Int):List Fate:=l.map fun q=>(q,4,0,s_timeout,())
theorem zba{rev:ByteArray}:∀{l:List Int}{all:Alls},(∀q∈l,(mget all q).isSome=true)→(lateS rev l all).map (·.1)=all.map (·.1)
 | [],_,_=>rfl
 | q::l,all,h=>by
  obtain⟨v,hv⟩:=Option.isSome_iff_exists.1 (h q (by simp))
  have e:=z99 (u:=(rev,(4:Int))) hv
  refine(zba (l:=l) (all:=mset all q (rev,4)) fun q2 h2=>?_).trans e
  rw[z47]
  split
  ·rfl
  ·exact h q2 (by simp[h2])
theorem zn7{A B:Alls}(h:A.map (·.1)=B.map (·.1))(q:Int):(mget A q).isSome=(mget B q).isSome:=by
 cases ha:mget A q with
 | none=>
  have:=z2i.1 ha
  rw[h]at this
  rw[z2i.2 this]
 | some v=>
  cases hb:mget B q with
  | none=>
   have:=z2i.1 hb
   rw[←h]at this
   rw[z2i.2 this]at ha;cases ha
  | some u=>rfl
def tick1(now:Int)(k:ByteArray)(G:AGate):AGate:={ G with all:=lateS k (lLate (lineOf G.lines k) now) G.all,lines:=mset G.lines k (lRest (lineOf G.lines k) now) }
def tickA(now:Int):List ByteArray→AGate→List Fate→AGate×List Fate
 | [],G,out=>(G,out)
 | k::ks,G,out=>tickA now ks (tick1 now k G) (out++lateF (lLate (lineOf G.lines k) now))
def gTick(G:AGate)(now:Int):AGate×List Fate:=tickA now (ssort (G.lines.map (·.1))) G []
def GWk(G:AGate):Prop:=∀x∈G.lines,∀y∈x.2,(mget G.all y.1).isSome=true
theorem zkM{now:Int}:∀{ks:List ByteArray}{G:AGate}{out:List Fate},out.length≤(tickA now ks G out).2.length
 | [],_,_=>Nat.le_refl _
 | k::ks,G,out=>by
  have:=zkM (now:=now) (ks:=ks) (G:=tick1 now k G) (out:=out++lateF (lLate (lineOf G.lines k) now))
  simp only[tickA,List.length_append]at this ⊢
  omega
theorem GWk.line{G:AGate}(h:GWk G)(k:ByteArray):∀y∈lineOf G.lines k,(mget G.all y.1).isSome=true:=by
 intro y hy
 unfold lineOf at hy
 cases hm:mget G.lines k with
 | none=>rw[hm]at hy;simp at hy
 | some l=>rw[hm]at hy;exact h _ (z3R hm) y hy
theorem GWk.late{G:AGate}(h:GWk G)(k:ByteArray)(now:Int):∀q∈lLate (lineOf G.lines k) now,(mget G.all q).isSome=true:=by
 intro q hq
 obtain⟨y,hy,rfl⟩:=List.mem_map.1 hq
 exact h.line k y (List.mem_filter.1 hy).1
theorem GWk.tick1{G:AGate}(h:GWk G)(k:ByteArray)(now:Int):GWk (YtdcdhcgmeahfmaaGreatDoor.tick1 now k G):=by
 intro x hx y hy
 have e:=zba (rev:=k) (h.late k now)
 show(mget (lateS k (lLate (lineOf G.lines k) now) G.all) y.1).isSome=true
 rw[zn7 e]
 rcases z1F hx with rfl | hx
 ·exact h.line k y (List.mem_filter.1 hy).1
 ·exact h x hx y hy
theorem AGate.Ok.tick1{G:AGate}(ok:G.Ok)(h:GWk G){k:ByteArray}(hk:(mget G.lines k).isSome=true)(now:Int):(YtdcdhcgmeahfmaaGreatDoor.tick1 now k G).Ok:=by
 have e:=zba (rev:=k) (h.late k now)
 have e2:(lateS k (lLate (lineOf G.lines k) now) G.all).length=G.all.length:=by
  have:=congrArg List.length e;simpa using this
 obtain⟨v,hv⟩:=Option.isSome_iff_exists.1 hk
 refine⟨by show(lateS k _ _).length<_;rw[e2];exact ok.few,ok.lo,ok.hi,fun x hx=>?_,zbX ok.nd,by show((lateS k _ _).map _).Nodup;rw[e];exact ok.nda,?_⟩
 ·rcases z1F hx with rfl | hx
  ·have:=z3y ok k
   have:=ziX (lineOf G.lines k) now
   simp only;show _≤G.room;omega
  ·exact ok.ln x hx
 ·show(mset G.lines k _).length<_
  rw[zhy hv];exact ok.fl
theorem zf9{G:AGate}{k:ByteArray}(hk:(mget G.lines k).isSome=true)(now:Int):(tick1 now k G).lines.map (·.1)=G.lines.map (·.1):=by
 obtain⟨v,hv⟩:=Option.isSome_iff_exists.1 hk
 exact z99 hv
abbrev KPt:=List (ByteArray×Option Addr)
def argB(m:KPt)(l:List ByteArray)(i:Nat):TT [.one .str,.one .ptr]:=match l[i]? with | some k=>(k,(mget m k).getD none,()) | none=>(s_,none,())
theorem zo0{m:KPt}{l:List ByteArray}{i:Nat}{k:ByteArray}(h:l[i]? = some k):argB m l i=(k,(mget m k).getD none,()):=by unfold argB;rw[h]
theorem zqV{m:KPt}{l:List ByteArray}{i:Nat}{k:ByteArray}(h:l[i]? = some k):TV _ (argB m l i) = [.string k,.pointer ((mget m k).getD none)]:=by rw[zo0 h];rfl
theorem zsX(h:St w0 E w)(i:Nat){s:Seg}(hi:nth E i=some s){r:Nat}{m:KPt}(hm:MpS Value.string Value.pointer r m s)(hn:m.length<1000000000){k:Sl→PT}
  (hk:∀v s' w',Rw eS z00 1 v (ssort (m.map (·.1))) s'→St w0 (s'::E) w'→k v w') :
  L.call Pr z0W [.map (some r)] (.one (.one .func)) (fun x5=>L.call Pr z0V [.func x5.fn x5.fs x5.cs] (.one (.one .slice)) k) w:=by
 refine z01 (z3h _) ?_
 unfold z1A
 have h:=h.front i hi
 refine nw h ?_;clear h;(try clear w);intro c w h
 refine⟨⟨.func z0f,#[],#[.pointer (some ⟨c,0,none⟩)]⟩,rfl,?_⟩
 have hY:YldM Pr w0 [[Cl c z0I [.map (some r)]],s] (.func (.func z0f) #[] #[.pointer (some ⟨c,0,none⟩)]) (m.map (·.1)) Value.string:=by
  intro yv R J Jd F w h hJ step fin fin2
  refine⟨z2Z,z34 yv ⟨c,0,none⟩ ?_⟩
  unfold z1x
  exact zfx (kv:=Value.string) (vv:=Value.pointer) unS (fun _=>rfl) zbM (lk:=.str) (ev:=.one .ptr) (fun x=>x) (fun _=>rfl) (fun x:Option Addr=>x) (fun _=>rfl) J Jd hm h hJ (fun seen k F X w hl hJ h=>step seen k F X w (by simpa using hl) hJ h) fin fin2
 refine z7z (fv:=⟨.func z0f,#[],#[.pointer (some ⟨c,0,none⟩)]⟩) hY h (by simpa using hn) fun v s' w hr h=>hk v s' w hr ?_
 have h:=fr1_ h
 exact St.again (i+1) (E:=s'::E) hi h
theorem zsp{c b bf rA rL cc:Nat}{room pat:Int}{m:KPt}{sL:Seg}(hL:MpS Value.string Value.pointer rL m sL)(hn:m.length<1000000000) :
  YldX Pr w0 [[Cl c z0E [.pointer (some ⟨b,2,none⟩)]],gtB b bf rA rL cc room pat,sL]
   (.func (.func z1r) #[] #[.pointer (some ⟨c,0,none⟩)]) (ssort (m.map (·.1))).length fun i=>TV _ (argB m (ssort (m.map (·.1))) i):=by
 intro yv R J Jd G w h hJ step fin fin2
 refine⟨z7A,z7C yv ⟨c,0,none⟩ ?_⟩
 unfold z4p
 have h:St w0 ([Cl c z0E [.pointer (some ⟨b,2,none⟩)]]::gtB b bf rA rL cc room pat::sL::G) w:=h
 (refine ldC h ?_;refine nn ?_;refine ldC h ?_)
 refine zsX h 2 rfl hL hn fun v s w hrow h=>?_
 have hlen:=Rw.len encS hrow
 have hl:(ssort (m.map (·.1))).length<1000000000:=by rw[z2R,List.length_map];exact hn
 generalize ssort (m.map (·.1))=l at *
 refine z0u (fun q y w=>∃(j:Nat)(G:List Seg),@Eq Int y.1 j∧q+j=l.length∧J j G∧
  St w0 (s::[Cl c z0E [.pointer (some ⟨b,2,none⟩)]]::gtB b bf rA rL cc room pat::sL::G) w) l.length ⟨0,G,rfl,rfl,hJ,h⟩ ?_
 clear hJ
 clear h;(try clear w)
 rintro q ⟨y,⟨⟩⟩ w ⟨j,G,hy,hq,hJ,h⟩ again hag
 simp only at hy
 subst hy
 refine it (fun hb=>?_) (fun hb=>?_)<;>(try simp only[zB]at hb)
 ·have hj:j<l.length:=by omega
  have hx:l[j]? = some l[j]:=List.getElem?_eq_getElem hj
  refine Rw.ix encS hrow (by omega) (by simpa using hj) fun a ha=>?_
  refine Rw.ld0 encS h 0 rfl hrow ha (x:=l[j]) (by simp[hj]) rfl rfl ?_
  (refine ldC h ?_;refine nn ?_;refine ldC h ?_)
  refine MpS.get mkS' zbM zln (fun x:Option Addr=>x) (fun _=>rfl) h 3 rfl hL ?_
  have step:=step _ G [s] w hj hJ (St.toEnd (X:=[s]) (A:=[_,_,_]) h)
  simp only[zqV hx]at step
  simp only[Option.map_id']
  refine cv (FCall.mono step fun u w' hu=>?_)
  rcases hu with ⟨rfl,G',h,hJ⟩ | ⟨rfl,hd⟩
  ·refine⟨true,rfl,itF rfl ?_⟩
   refine hag (q-1) _ w' (by omega) ⟨j+1,G',?_,by omega,hJ,St.ofEnd (X:=[s]) (A:=[_,_,_]) h⟩
   show IntKind.wrap .i64 _=_
   rw[wr (by omega) (by omega)];omega
  ·exact⟨false,rfl,itT rfl (fin2 w' hd)⟩
 ·have e:j=l.length:=by omega
  subst e
  exact fin G w hJ (dl0_ h)
theorem zm5{rev:ByteArray}{l:List Int}{j:Nat}{q:Int}{all:Alls}(h:l[j]? = some q):lateS rev (l.take (j+1)) all=mset (lateS rev (l.take j) all) q (rev,4):=by
 unfold lateS;rw[List.take_add_one,h,Option.toList_some,List.foldl_append];rfl
theorem zm6{l:List Int}{j:Nat}{q:Int}(h:l[j]? = some q):lateF (l.take (j+1))=lateF (l.take j)++[(q,4,0,s_timeout,())]:=by
 unfold lateF;rw[List.take_add_one,h,Option.toList_some,List.map_append];rfl
theorem zcu(l:List Int):(lateF l).length=l.length:=List.length_map ..
theorem zrr{sg:Seg}(h:St w0 (sg::E) w){b bf:Nat}{G:AGate}(hg:GtS b bf G sg)(hw:GWk G){now:Int}(ho:(gTick G now).2.length<90000000){k:Sl→PT}
  (hk:∀v sv sg' w',Rw Fate.cells z0a 4 v (gTick G now).2 sv→GtS b bf (gTick G now).1 sg'→St w0 (sv::sg'::E) w'→k v w') :
  L.call Pr z77 [.pointer (some ⟨b,0,none⟩),I now] (.one (.one .slice)) k w:=by
 obtain⟨ok,rA,rL,c,sA,sL,Q,hr,rfl⟩:=hg
 refine z01 (zey _ _) ?_
 unfold z9X
 have h:=h.split5
 refine nw h ?_;clear h;(try clear w);intro b1 w h
 refine nw h ?_;clear h;(try clear w);intro b2 w h
 refine nw h ?_;clear h;(try clear w);intro b3 w h
 (refine ldC h ?_;refine nn ?_)
 refine z01 (z8t _) ?_
 unfold z5a
 refine nw h ?_;clear h;(try clear w);intro cc w h
 refine⟨⟨.func z1r,#[],#[.pointer (some ⟨cc,0,none⟩)]⟩,rfl,?_⟩
 have h:=fr3_ (fr5_ (fr7_ (fr1_ h)))
 have h:=h.nil
 have h:=fr4_ (fr4_ (fr4_ (fr4_ h)))
 have h:St w0 ([[Cl cc z0E [.pointer (some ⟨b,2,none⟩)]],gtB b bf rA rL c G.room G.pat,sL]++([Cl b3 z0d [SlV ⟨none,0,0⟩]]::[]::[Cl b2 z0h [I now]]::[Cl b1 z3o [.pointer (some ⟨b,0,none⟩)]]::[Cl c z0h [I G.room]]::sA::(Q.map LnE.sg).flatten::E)) w:=h
 have enm:(Q.map LnE.kp).map (·.1)=G.lines.map (·.1):=by rw[hr.abs];simp[List.map_map,Function.comp_def]
 have hn:(Q.map LnE.kp).length<1000000000:=by
  have:=congrArg List.length enm;have:=ok.fl;simp only[List.length_map]at *;omega
 have hkeys:ssort ((Q.map LnE.kp).map (·.1))=ssort (G.lines.map (·.1)):=by rw[enm]
 have hkm:∀k∈ssort ((Q.map LnE.kp).map (·.1)),k∈G.lines.map (·.1):=fun k hk=>by rw[hkeys]at hk;exact z7K.1 hk
 have hgt:tickA now (ssort ((Q.map LnE.kp).map (·.1))) G []=gTick G now:=by rw[hkeys];rfl
 refine z5j (zsp (c:=cc) (b:=b) (bf:=bf) (rA:=rA) (cc:=c) (room:=G.room) (pat:=G.pat) hr.lns hn) h
  (fun m F=>∃(v:Sl)(sv sA':Seg)(Q':List LnE)(G':AGate)(out:List Fate),F = [Cl b3 z0d [SlV v]]::sv::[Cl b2 z0h [I now]]::[Cl b1 z3o [.pointer (some ⟨b,0,none⟩)]]::[Cl c z0h [I G.room]]::sA'::(Q'.map LnE.sg).flatten::E∧
   Q'.map LnE.kp=Q.map LnE.kp∧(∀x∈Q',LnS x.b G.room x.l x.sg)∧G'.lines=Q'.map LnE.ka∧G'.Ok∧G'.room=G.room∧G'.pat=G.pat∧GWk G'∧MpS KI vReq rA G'.all sA'∧Rw Fate.cells z0a 4 v out sv∧
   tickA now ((ssort ((Q.map LnE.kp).map (·.1))).drop m) G' out=gTick G now)
  (fun j G=>False) ⟨_,_,sA,Q,G,[],rfl,rfl,hr.each,hr.abs,ok,rfl,rfl,hw,hr.all,Rw.nil,hgt⟩ ?_ ?_ ?_
 ·rintro m F X w lv lp d R hm ⟨v,sv,sA',Q',G',out,rfl,hkp,hQ',hln,ok',er,ep,hw',hA',hv,hT⟩ h hN hE
  have hx:(ssort ((Q.map LnE.kp).map (·.1)))[m]? = some (ssort ((Q.map LnE.kp).map (·.1)))[m]:=List.getElem?_eq_getElem hm
  have hdr:=List.drop_eq_getElem_cons hm
  have hmem:=hkm _ (List.mem_of_getElem? hx)
  generalize (ssort ((Q.map LnE.kp).map (·.1)))[m]=key at hx hdr hmem
  rw[zo0 hx]
  rw[hdr]at hT
  have enm':G'.lines.map (·.1)=G.lines.map (·.1):=by
   rw[hln,←enm,←hkp];simp[List.map_map,Function.comp_def]
  rw[←enm',hln]at hmem
  have e1:=zeW (Q:=Q') (rev:=key)
  have e2:=zeX (Q:=Q') (rev:=key)
  cases hf:lfind LnE.k Q' key with
  | none=>rw[hf]at e2;exact absurd hmem (z2i.1 e2)
  | some x=>
   rw[hf]at e1 e2
   simp only[Option.map_some]at e1 e2
   rw[hkp]at e1
   rw[e1]
   obtain⟨A,B,e,hxk⟩:=zb9 hf
   subst e
   rw[←hln]at e2
   have hlo:lineOf G'.lines key=x.l:=by unfold lineOf;rw[e2];rfl
   have hsm:(mget G'.lines key).isSome=true:=by rw[e2];rfl
   have hll:=z3y ok' key
   rw[hlo]at hll
   have hhi:=ok'.hi
   have h:St w0 ([Rec lv lp .busy none]::[DfM d]::[Cl cc z0E [.pointer (some ⟨b,2,none⟩)]]::gtB b bf rA rL c G.room G.pat::sL::[Cl b3 z0d [SlV v]]::sv::[Cl b2 z0h [I now]]::[Cl b1 z3o [.pointer (some ⟨b,0,none⟩)]]::[Cl c z0h [I G.room]]::sA'::((A++x::B).map LnE.sg).flatten::(E++X)) w:=h
   (refine ldC h ?_)
   have h:=zkh (fr7_ (z8W (fr7_ (fr7_ (fr8_ h)))))
   have h:=h.pick
   refine zsW h 0 rfl (hQ' x (by simp)) (by omega) fun v13 s' s2 w hl' hr2 h=>?_
   have h:St w0 (s2::s'::((A++B).map LnE.sg).flatten::gtB b bf rA rL c G.room G.pat::sA'::[Cl b3 z0d [SlV v]]::sv::[Cl b1 z3o [.pointer (some ⟨b,0,none⟩)]]::[Rec lv lp .busy none]::[DfM d]::[Cl cc z0E [.pointer (some ⟨b,2,none⟩)]]::sL::[Cl b2 z0h [I now]]::[Cl c z0h [I G.room]]::(E++X)) w:=h
   have h:=fr7_ (fr7_ (fr7_ (fr7_ (fr7_ h))))
   obtain⟨RR,hRR⟩:∃RR,RR=s'::((A++B).map LnE.sg).flatten::[Rec lv lp .busy none]::[DfM d]::[Cl cc z0E [.pointer (some ⟨b,2,none⟩)]]::sL::[Cl b2 z0h [I now]]::[Cl c z0h [I G.room]]::(E++X):=⟨_,rfl⟩
   rw[←hRR]at h
   have hge:=zkM (now:=now) (ks:=(ssort ((Q.map LnE.kp).map (·.1))).drop (m+1)) (G:=tick1 now key G') (out:=out++lateF (lLate (lineOf G'.lines key) now))
   have hT:tickA now ((ssort ((Q.map LnE.kp).map (·.1))).drop (m+1)) (tick1 now key G') (out++lateF (lLate (lineOf G'.lines key) now))=gTick G now:=hT
   rw[hT,List.length_append,zcu,hlo]at hge
   have hll2:=Rw.len encI hr2
   refine z0u (fun q y w=>∃(j:Nat)(v:Sl)(sv sA':Seg),y=((j:Int),())∧q+j=(lLate x.l now).length∧MpS KI vReq rA (lateS key ((lLate x.l now).take j) G'.all) sA'∧Rw Fate.cells z0a 4 v (out++lateF ((lLate x.l now).take j)) sv∧
    St w0 (gtB b bf rA rL c G.room G.pat::sA'::[Cl b3 z0d [SlV v]]::sv::[Cl b1 z3o [.pointer (some ⟨b,0,none⟩)]]::s2::RR) w) (lLate x.l now).length
    ⟨0,v,sv,sA',rfl,rfl,hA',by simpa [lateF]using hv,h⟩ ?_
   clear hA' hv
   clear h;(try clear w)
   rintro q y w ⟨j,v,sv,sA',rfl,hq,hA',hv,h⟩ again hag
   (try dsimp only)
   refine it (fun hb=>?_) (fun hb=>?_)<;>(try simp only[zB]at hb)
   ·have hj:j<(lLate x.l now).length:=by omega
    have hxj:(lLate x.l now)[j]? = some (lLate x.l now)[j]:=List.getElem?_eq_getElem hj
    generalize (lLate x.l now)[j]=id at hxj
    refine rd1 (Rw.rd encI h 5 rfl hr2) encI (lf:=.int .i64) (fun x=>x) (fun x=>⟨_,rfl,rfl⟩) (by omega) hb fun y' hy'=>?_
    simp only[Int.toNat_natCast,hxj,Option.some.injEq]at hy'
    subst hy'
    (refine dr h ?_;clear h;(try clear w);intro w h;refine ldC h ?_;refine ldC h ?_)
    refine zly h fun w h=>?_
    (refine ckC h ?_;refine ckC h ?_)
    refine zgY (f:=(0,4,0,s_timeout,())) hA' h fun sA2 w hA2 h=>?_
    (refine ckC h ?_)
    refine nw h ?_;clear h;(try clear w);intro b22 w h
    (refine ckC h ?_)
    refine Rw.app (l:=out++lateF ((lLate x.l now).take j)) encF elF h 3 rfl hv (id,4,0,s_timeout,()) rfl (by rw[List.length_append,zcu,List.length_take];omega) (by rw[List.length_append,zcu,List.length_take];omega) fun v' sv' w hv' h=>?_
    (dsimp only[setN,List.cons_append,List.nil_append]at h;refine stC h ?_;clear h;(try clear w);intro w h;dsimp only[putN,setN]at h)
    rw[wr (by omega) (by omega)]
    refine hag (q-1) _ w (by omega) ⟨j+1,v',sv',sA2,by simp,by omega,?_,?_,h⟩
    ·rw[zm5 hxj];exact hA2
    ·rw[zm6 hxj,←List.append_assoc];exact hv'
   ·have e:(lLate x.l now).take j=lLate x.l now:=List.take_of_length_le (by omega)
    rw[e]at hA' hv
    subst hRR
    have h:=dl5_ h
    have h:=fr6_ (fr6_ h)
    have h:St w0 (LnE.sg ⟨x.k,x.b,lRest x.l now,s'⟩::((A++B).map LnE.sg).flatten::gtB b bf rA rL c G.room G.pat::sA'::[Cl b3 z0d [SlV v]]::sv::[Cl b1 z3o [.pointer (some ⟨b,0,none⟩)]]::[Rec lv lp .busy none]::[DfM d]::[Cl cc z0E [.pointer (some ⟨b,2,none⟩)]]::sL::[Cl b2 z0h [I now]]::[Cl c z0h [I G.room]]::(E++X)) w:=h
    have h:=h.place
    have h:=zkh (zkh (zkh (fr8_ (zkh (fr7_ (fr7_ (zkh (fr6_ (zkh (fr2_ h))))))))))
    have hnd:(((A++x::B).map LnE.ka).map (·.1)).Nodup:=by rw[←hln];exact ok'.nd
    refine hN _ w ⟨v,sv,sA',A++(⟨x.k,x.b,lRest x.l now,s'⟩:LnE)::B,tick1 now key G',out++lateF (lLate (lineOf G'.lines key) now),rfl,?_,?_,?_,ok'.tick1 hw' hsm now,er,ep,hw'.tick1 key now,?_,?_,hT⟩ h
    ·rw[←hkp];simp
    ·intro y hy
     rcases List.mem_append.1 hy with hy | hy
     ·exact hQ' y (by simp[hy])
     ·rcases List.mem_cons.1 hy with rfl | hy
      ·exact hl'
      ·exact hQ' y (by simp[hy])
    ·show mset G'.lines key (lRest (lineOf G'.lines key) now)=_
     rw[hlo]
     exact(zfv (ls:=G'.lines) (by rw[←hln,zfr e2]) hxk hnd).symm
    ·show MpS KI vReq rA (lateS key (lLate (lineOf G'.lines key) now) G'.all) sA'
     rw[hlo];exact hA'
    ·rw[hlo];exact hv
 ·rintro d F w ⟨v,sv,sA',Q',G',out,rfl,hkp,hQ',hln,ok',er,ep,hw',hA',hv,hT⟩ h
  have h:St w0 ([DfM d]::[Cl cc z0E [.pointer (some ⟨b,2,none⟩)]]::gtB b bf rA rL c G.room G.pat::sL::[Cl b3 z0d [SlV v]]::sv::[Cl b2 z0h [I now]]::[Cl b1 z3o [.pointer (some ⟨b,0,none⟩)]]::[Cl c z0h [I G.room]]::sA'::(Q'.map LnE.sg).flatten::E) w:=h
  rw[List.drop_of_length_le (Nat.le_refl _)]at hT
  have hT:(G',out)=gTick G now:=hT
  rw[←hT]at hk ho
  refine jumpN ?_
  (refine ldC h ?_)
  refine zlA h (Rw.rd encF h 5 rfl hv) (by simp only at ho;omega) (fun h0=>Rw.nil_of encF hv h0) fun v' sv' w hv' h=>?_
  (first | refine um0_ h ?_ | refine um1_ h ?_ | refine um2_ h ?_ | refine um3_ h ?_ | refine um4_ h ?_ | refine um5_ h ?_ | refine um6_ h ?_ | refine um7_ h ?_ | refine um8_ h ?_ | refine um9_ h ?_ | refine z92 h ?_ | refine z91 h ?_);clear h;(try clear w);intro w h
  refine⟨v',rfl,?_⟩
  have h:=fr6_ (z8W (z8W (fr4_ (z8W h))))
  rw[←er,←ep]at h
  have h:=dl6_ (dl6_ (dl6_ (dl6_ (dl6_ h))))
  obtain⟨sg,hg,h⟩:=z7y ok' (Q:=Q') ⟨hA',by rw[hkp];exact hr.lns,fun x hx=>by rw[er];exact hQ' x hx,hln⟩ h
  have h:=fr1_ h
  exact hk v' sv' sg w hv' hg h
 ·rintro d j F w hf;exact hf.elim
theorem RtE.rde{Q:List RtE}{x:RtE}(hx:x∈Q)(ok:x.ok)(i:Nat)(hi:nth E i=some (Q.map RtE.sg).flatten):RdE w0 E eT x.t.2.2.1 x.ts:=by
 obtain⟨A,B,rfl⟩:=List.append_of_mem hx
 intro w h
 exact Rw.rd encT (St.pick (g:=RtE.sg) (h.front i hi)) 0 rfl ok
theorem zla{Q:List RtE}{n:ByteArray}(h:(lget Q n).t.is=true):lget Q n∈Q:=by
 unfold lget at *
 cases hf:lfind RtE.k Q n with
 | none=>rw[hf]at h;cases h
 | some x=>exact List.mem_of_find?_eq_some hf
instance :DecidableEq Tgt:=inferInstanceAs (DecidableEq (ByteArray×ByteArray×Int×Unit))
instance :DecidableEq ARt:=fun a b=>decidable_of_iff (a.name=b.name∧a.cfg=b.cfg∧a.ts=b.ts∧a.roll=b.roll) ⟨fun⟨h1,h2,h3,h4⟩=>by cases a;cases b;simp_all,fun h=>by subst h;exact⟨rfl,rfl,rfl,rfl⟩⟩
def gen'(t:AThr)(r:ARt):Int:=if t.is=true∧t.r=r then t.gen else IntKind.wrap .i64 (t.gen+1)
def putRt(m:List (ByteArray×AThr))(n:ByteArray)(r:ARt)(ver:Int):List (ByteArray×AThr):=mset m n ⟨r,ver,gen' (rget m n) r,true⟩
theorem zlo{Q:List RtE}(hQ:∀x∈Q,x.ts.length<1000000000)(n:ByteArray):(lget Q n).ts.length<1000000000:=by
 unfold lget
 cases hf:lfind RtE.k Q n with
 | none=>simp
 | some x=>exact hQ _ (List.mem_of_find?_eq_some hf)
theorem zsw{sv:Seg}(h:St w0 (sv::E) w)(i:Nat){b:Nat}{m:List (ByteArray×AThr)}{s:Seg}(hi:nth E i=some s)(hs:RackR b m s)(few:∀x∈m,x.2.r.ts.length<1000000000){n:ByteArray}{a:ARt}{v:Sl}(hr:Rw eT z08 3 v a.ts sv){ver:Int}{k:Unit→PT}
  (hk:∀s' w',RackR b (putRt m n a ver) s'→St w0 (setN E i s') w'→k () w') :
  L.call Pr z3e [.pointer (some ⟨b,0,none⟩),.string n,.agg #[.string a.name,.string a.cfg,.slice v.a v.len v.cap,I a.roll],I ver] (.tup []) k w:=by
 obtain⟨r,sm,Q,hm,hQ,rfl,rfl⟩:=hs
 refine z01 (z8q _ _ (a.name,a.cfg,v,a.roll,()) _) ?_
 unfold z57
 unfold putRt at hk
 rw[znv]at hk
 have fewQ:∀x∈Q,x.ts.length<1000000000:=fun x hx=>few _ (List.mem_map_of_mem hx)
 have h:=h.front (i+1) hi
 have h:=h.split3
 have h:St w0 ([Cl b z0D [.map (some r),.func (.func z0H) #[] #[]]]::sm::(Q.map RtE.sg).flatten::sv::delN E i) w:=h
 refine nw h ?_;clear h;(try clear w);intro b1 w h
 (dsimp only[setN,List.cons_append,List.nil_append]at h;refine nn ?_;refine ldC h ?_)
 refine rlook h 2 rfl hm ?_
 have hin:=fun hh=>zla (Q:=Q) (n:=n) hh
 have hfew:=zlo fewQ n
 generalize lget Q n=t at hk hin hfew
 refine nw h ?_;clear h;(try clear w);intro b5 w h
 (refine stC h ?_;clear h;(try clear w);intro w h;dsimp only[putN,setN]at h)
 refine z1h (fun z w=>St w0 ([Cl b5 z0k [.string t.t.1,.string t.t.2.1,.slice t.t.2.2.1.a t.t.2.2.1.len t.t.2.2.1.cap,I t.t.2.2.2.1,I t.t.2.2.2.2.1,I (gen' t.abs a),.bool t.t.2.2.2.2.2.2.1]]::[Cl b1 z0s (rtC a v)]::[Cl b z0D [.map (some r),.func (.func z0H) #[] #[]]]::sm::(Q.map RtE.sg).flatten::sv::delN E i) w) (fun k6 hk6=>?_) (fun z w h=>?_)
 ·have more:∀{w},¬(t.abs.is=true∧t.abs.r=a)→St w0 ([Cl b5 z0k [.string t.t.1,.string t.t.2.1,.slice t.t.2.2.1.a t.t.2.2.1.len t.t.2.2.1.cap,I t.t.2.2.2.1,I t.t.2.2.2.2.1,I t.t.gen,.bool t.t.2.2.2.2.2.2.1]]::[Cl b1 z0s (rtC a v)]::[Cl b z0D [.map (some r),.func (.func z0H) #[] #[]]]::sm::(Q.map RtE.sg).flatten::sv::delN E i) w→
    L.load (.one (.int .i64)) ((⟨b5,0,none⟩:Addr).add 5) (fun(x9:Int)=>
     L.store ((⟨b5,0,none⟩:Addr).add 5) [.int .i64 (IntKind.wrap .i64 (x9+1))]<| k6 (())) w:=by
   intro w hn h
   (refine ldC h ?_;refine stC h ?_;clear h;(try clear w);intro w h;dsimp only[putN,setN]at h)
   refine hk6 _ w ?_
   unfold gen'
   rw[if_neg hn];exact h
  (refine dr h ?_;clear h;(try clear w);intro w h;refine ldC h ?_)
  refine it (fun h1=>?_) (fun h1=>?_)<;>(try simp only[zB]at h1)
  ·exact more (fun hh=>by have:=hh.1;simp only[RtE.abs,Thr.is]at this;rw[h1]at this;cases this) h
  ·have h1:t.t.is=true:=by simpa using h1
   have hx:=hin h1
   (refine nn ?_;refine ldC h ?_;refine laC h ?_;refine laC h ?_)
   have rr:RdE w0 ([Cl b5 z0k [.string t.t.1,.string t.t.2.1,.slice t.t.2.2.1.a t.t.2.2.1.len t.t.2.2.1.cap,I t.t.2.2.2.1,I t.t.2.2.2.2.1,I t.t.2.2.2.2.2.1,.bool t.t.2.2.2.2.2.2.1]]::[Cl b1 z0s (rtC a v)]::[Cl b z0D [.map (some r),.func (.func z0H) #[] #[]]]::sm::(Q.map RtE.sg).flatten::sv::delN E i) eT t.t.2.2.1 t.ts:=RtE.rde hx (hQ _ hx) 4 rfl
   refine zra (a:=t.abs.r) (b:=a) h rr (Rw.re encT 5 rfl hr) hfew fun c w hc h=>?_
   refine it (fun h2=>?_) (fun h2=>?_)
   ·have h2:c=false:=by simpa using h2
    exact more (fun hh=>by rw[hc.2 hh.2]at h2;cases h2) h
   ·have h2:c=true:=by simpa using h2
    refine hk6 _ w ?_
    unfold gen'
    rw[if_pos ⟨h1,hc.1 h2⟩];exact h
 ·(refine dr h ?_;clear h;(try clear w);intro w h;refine nn ?_;refine ldC h ?_;refine laC h ?_;refine ldC h ?_)
  refine MpS.set mkS zin h 3 rfl hm (a.name,a.cfg,v,a.roll,ver,gen' t.abs a,true,()) rfl fun sm' w hm' h=>?_
  have h:St w0 ([Cl b5 z0k [.string t.t.1,.string t.t.2.1,.slice t.t.2.2.1.a t.t.2.2.1.len t.t.2.2.1.cap,I t.t.2.2.2.1,I t.t.2.2.2.2.1,I (gen' t.abs a),.bool t.t.2.2.2.2.2.2.1]]::[Cl b1 z0s (rtC a v)]::[Cl b z0D [.map (some r),.func (.func z0H) #[] #[]]]::sm'::(Q.map RtE.sg).flatten::sv::delN E i) w:=h
  have h:=dl0_ (dl0_ h)
  have h:=fr3_ (fr2_ (fr1_ (fr1_ h)))
  obtain⟨s',hs',h⟩:=RackR.put (E:=delN E i) ⟨n,(a.name,a.cfg,v,a.roll,ver,gen' t.abs a,true,()),a.ts,sv⟩ hr hQ hm' h
  exact⟨(),rfl,hk s' w hs' (St.back i hi h)⟩
theorem zsE(h:St w0 E w)(i:Nat){r:Nat}{b:Nat}{Q:List RtE}{sm:Seg}(hi:nth E i=some ([Cl b z0D [.map (some r),.func (.func z0H) #[] #[]]]++(sm++(Q.map RtE.sg).flatten)))(hm:MpS Value.string vThr r (Q.map RtE.kt) sm){n:ByteArray}{k:eThr.T×Bool×Unit→PT}(hk:∀w',St w0 E w'→k ((lget Q n).t,(lget Q n).t.is,()) w') :
  L.call Pr z3g [.pointer (some ⟨b,0,none⟩),.string n] (.tup [eThr,.one .bool]) k w:=by
 refine z01 (z8s _ _) ?_
 unfold z59
 have h:=(h.front i hi).split3
 refine nw h ?_;clear h;(try clear w);intro b1 w h
 (refine nn ?_;refine ldC h ?_)
 refine rlook h 2 rfl hm ?_
 generalize lget Q n=t at hk
 refine nw h ?_;clear h;(try clear w);intro b5 w h
 (refine stC h ?_;clear h;(try clear w);intro w h;dsimp only[putN,setN]at h;refine dr h ?_;clear h;(try clear w);intro w h;refine laC h ?_;refine ldC h ?_;refine stC h ?_;clear h;(try clear w);intro w h;dsimp only[putN,setN]at h;refine ckC h ?_;refine laC h ?_)
 exact⟨(t.t,t.t.is,()),rfl,hk w (St.again i hi (dl0_ (dl0_ h)).glue3)⟩
def shPutR(a:AShelf)(r:ARt)(ver:Int):AShelf×Int×Int:=
 if specE r≠0 then(a,0,specE r)else if mayV (rget a.r r.name).is (rget a.r r.name).ver ver true≠0 then(a,0,mayV (rget a.r r.name).is (rget a.r r.name).ver ver true)else(⟨a.m,putRt a.r r.name r (a.n+1),a.n+1⟩,a.n+1,0)
theorem zff{a:ARt}(h:specE a=0):a.ts.length≤6:=by
 unfold specE at h
 split at h
 ·split at h
  ·split at h
   ·rename_i h3;exact h3.2
   ·cases h
  ·cases h
 ·cases h
def AShelf.Few(a:AShelf):Prop:=∀x∈a.r,x.2.r.ts.length≤6
theorem zpE(h:St w0 E w)(i:Nat){b:Nat}{a:AShelf}{s:Seg}(hi:nth E i=some s)(hs:ShS b a s)(hfew:a.Few)(hn:a.n<900000000){r:ARt}{v:Sl}(rd:RdE w0 (delN E i) eT v r.ts)(hvc:v.len≤v.cap)(h0:v.a=none→r.ts = [])(hrv:∀t∈r.ts,revOk t.1){ver:Int}{k:Int×Int×Unit→PT}
  (hk:∀s' w',ShS b (shPutR a r ver).1 s'→St w0 (setN E i s') w'→k ((shPutR a r ver).2.1,(shPutR a r ver).2.2,()) w') :
  L.call Pr z4h [.pointer (some ⟨b,0,none⟩),.agg #[.string r.name,.string r.cfg,.slice v.a v.len v.cap,I r.roll],I ver] (.tup [.one (.int .i64),.one (.int .i64)]) k w:=by
 have hs0:=hs
 obtain⟨ok,bc,br,sc,sr,hC,hR,rfl⟩:=hs
 have hlo:=ok.lo
 refine z01 (zaj _ (r.name,r.cfg,v,r.roll,()) _) ?_
 unfold z6r
 have h:=(h.front i hi).split3
 refine nw h ?_;clear h;(try clear w);intro b1 w h
 (dsimp only[setN,List.cons_append,List.nil_append]at h;refine laC h ?_)
 refine zo8 (a:=r) h (fun w h=>rd w (dl0_ (dl0_ (dl0_ (dl0_ h))))) hvc hrv fun w h=>?_
 unfold shPutR at hk
 refine jd ?_
 refine it (fun he=>?_) (fun he=>?_)<;>(try simp only[zB]at he)
 ·rw[if_neg (by simpa using he)]at hk
  have hl6:=zff he
  (refine dr h ?_;clear h;(try clear w);intro w h;refine nn ?_;refine ldC h ?_;refine ldC h ?_)
  refine zsC h 3 rfl hR fun w h=>?_
  refine it (fun hm=>?_) (fun hm=>?_)<;>(try simp only[zB]at hm)
  ·rw[if_pos hm]at hk
   exact⟨_,rfl,hk _ w hs0 (St.back i hi (dl0_ h).glue3)⟩
  ·rw[if_neg (by simpa using hm)]at hk
   (refine nn ?_;refine ldC h ?_;refine nn ?_;refine stC h ?_;clear h;(try clear w);intro w h;dsimp only[putN,setN]at h;refine dr h ?_;clear h;(try clear w);intro w h;refine nn ?_;refine ldC h ?_;refine ldC h ?_;refine laC h ?_;refine nn ?_;refine ldC h ?_)
   rw[wr (by omega) (by omega)]at h ⊢
   have h:St w0 ([Cl b1 z0s (rtC r v)]::shB b bc br (a.n+1)::sc::sr::delN E i) w:=h
   refine zsA (a:=r) h (fun w h=>rd w (dl0_ (dl0_ (dl0_ (dl0_ h))))) (by omega) h0 fun v' sv w hrv' h=>?_
   (refine ckC h ?_;refine ckC h ?_;refine ckC h ?_)
   refine zsw (a:=r) h 3 rfl hR (fun x hx=>by have:=hfew x hx;omega) hrv' fun sr' w hR' h=>?_
   have h:St w0 ([Cl b1 z0s (rtC r v)]::shB b bc br (a.n+1)::sc::sr'::delN E i) w:=h
   (refine nn ?_;refine ldC h ?_)
   refine⟨(a.n+1,0,()),rfl,hk _ w ⟨⟨by simp only;omega,by simp only;omega,fun x=>?_,?_,?_⟩,bc,br,sc,sr',hC,hR',rfl⟩ (St.back i hi (dl0_ h).glue3)⟩
   ·have hx:=ok.gen x;simp only;omega
   ·have:=ok.fm;simp only;omega
   ·have:=ok.fr;have:=zfs a.r r.name ⟨r,a.n+1,gen' (rget a.r r.name) r,true⟩
    simp only[putRt];omega
 ·refine it (fun hm=>?_) (fun hm=>?_)<;>(try simp only[zB]at hm)
  ·rw[if_pos he]at hk
   exact⟨_,rfl,hk _ w hs0 (St.back i hi (dl0_ h).glue3)⟩
  ·exact(he hm).elim
def noRt:ARt:=⟨s_,s_,[],0⟩
def shRt(a:AShelf)(n:ByteArray):ARt×Int×Bool:=if(rget a.r n).is=true then((rget a.r n).r,(rget a.r n).ver,true)else(noRt,0,false)
theorem zjn(h:St w0 E w)(i:Nat){b:Nat}{a:AShelf}{s:Seg}(hi:nth E i=some s)(hs:ShS b a s)(hfew:a.Few){n:ByteArray}{k:eRt.T×Int×Bool×Unit→PT}
  (hk:∀v sv w',Rw eT z08 3 v (shRt a n).1.ts sv→St w0 (sv::E) w'→k (((shRt a n).1.name,(shRt a n).1.cfg,v,(shRt a n).1.roll,()),(shRt a n).2.1,(shRt a n).2.2,()) w') :
  L.call Pr z3M [.pointer (some ⟨b,0,none⟩),.string n] (.tup [eRt,.one (.int .i64),.one .bool]) k w:=by
 obtain⟨ok,bc,br,sc,sr,hC,⟨r,sm,Q,hm,hQ,hq,rfl⟩,rfl⟩:=hs
 refine z01 (zc9 _ _) ?_
 unfold z84
 unfold shRt at hk
 rw[hq,znv]at hk
 have fewQ:∀x∈Q,x.ts.length<1000000000:=fun x hx=>by
  have:=hfew x.ka (by rw[hq];exact List.mem_map_of_mem hx)
  have:x.ts.length≤6:=this
  omega
 have h:=(h.front i hi).split3
 refine nw h ?_;clear h;(try clear w);intro b1 w h
 (dsimp only[setN,List.cons_append,List.nil_append]at h;refine nn ?_;refine ldC h ?_)
 refine zsE h 3 rfl hm fun w h=>?_
 have hin:=fun hh=>zla (Q:=Q) (n:=n) hh
 have hlf:=zlo fewQ n
 generalize lget Q n=t at hk hin hlf
 refine nw h ?_;clear h;(try clear w);intro b5 w h
 (refine stC h ?_;clear h;(try clear w);intro w h;dsimp only[putN,setN]at h)
 refine it (fun hc=>?_) (fun hc=>?_)<;>(try simp only[zB]at hc)
 ·(refine stC h ?_;clear h;(try clear w);intro w h;dsimp only[putN,setN]at h;refine laC h ?_)
  have hc:¬t.abs.is=true:=by have:t.t.is=false:=hc;simp[RtE.abs,this]
  rw[if_neg hc]at hk
  refine⟨((s_,s_,⟨none,0,0⟩,0,()),0,false,()),rfl,hk ⟨none,0,0⟩ [] w Rw.nil ?_⟩
  exact(St.again i hi (dl0_ (dl0_ h)).glue3).nil
 ·have hc:t.t.is=true:=by simpa using hc
  have hx:=hin hc
  have hca:t.abs.is=true:=hc
  rw[if_pos hca]at hk
  (refine dr h ?_;clear h;(try clear w);intro w h;refine laC h ?_;refine ldC h ?_)
  have h:St w0 ([Cl b5 z0k [.string t.t.1,.string t.t.2.1,.slice t.t.2.2.1.a t.t.2.2.1.len t.t.2.2.1.cap,I t.t.2.2.2.1,I t.t.2.2.2.2.1,I t.t.2.2.2.2.2.1,.bool t.t.2.2.2.2.2.2.1]]::[Cl b1 z0s [.string s_,.string s_,.slice none 0 0,I 0]]::shB b bc br a.n::sc::[Cl br z0D [.map (some r),.func (.func z0H) #[] #[]]]::sm::(Q.map RtE.sg).flatten::delN E i) w:=h.eq (by simp)
  refine zsA (a:=t.abs.r) h (RtE.rde hx (hQ _ hx) 6 rfl) hlf (Rw.nil0 encT (hQ _ hx)) fun v' sv w hrv' h=>?_
  (refine ckC h ?_;refine stC h ?_;clear h;(try clear w);intro w h;dsimp only[putN,setN]at h;refine ckC h ?_;refine laC h ?_)
  refine⟨((t.abs.r.name,t.abs.r.cfg,v',t.abs.r.roll,()),t.t.ver,true,()),rfl,hk v' sv w hrv' ?_⟩
  have h:=dl1_ (dl1_ h)
  have h:St w0 ((shB b bc br a.n++(sc++([Cl br z0D [.map (some r),.func (.func z0H) #[] #[]]]++(sm++(Q.map RtE.sg).flatten))))::sv::delN E i) w:=by
   have h:St w0 (sv::shB b bc br a.n::sc::[Cl br z0D [.map (some r),.func (.func z0H) #[] #[]]]::sm::(Q.map RtE.sg).flatten::delN E i) w:=h
   have h:=fr5_ (fr5_ (fr5_ (fr5_ (fr5_ h))))
   exact h.eq (by simp)
  exact St.again (i+1) (E:=sv::E) hi h
theorem zlM{a:AShelf}(h:a.Few)(r:ARt)(ver:Int):(shPutR a r ver).1.Few:=by
 unfold shPutR
 split
 ·exact h
 ·rename_i h1
  split
  ·exact h
  ·intro x hx
   simp only[putRt]at hx
   rcases z1F hx with rfl | hx
   ·exact zff (by simpa using h1)
   ·exact h x hx
theorem zn6{a:AShelf}(h:a.Few)(c:Cfg)(ver:Int):(shPut a c ver).1.Few:=by
 unfold shPut
 split
 ·exact h
 ·split<;>exact h
end Go.Proofs.YtdcdhcgmeahfmaaGreatDoor
namespace Go.Proofs.YtdcdhcgmeahfmaaGreatDoor
open Go.Dm
variable {w0 w:World}{E:List Seg}
def gc(l:List Int)(n:Int)(r:List Value):List Value:=l.map I++I n::r
theorem gc_n{l:List Int}{n:Int}{r:List Value}(hl:l.length=60):nth (gc l n r) 60=some (I n):=by
 have:=z3I (A:=l.map I) (B:=I n::r) (i:=0)
 rw[List.length_map,hl]at this;exact this
theorem gc_r{l:List Int}{n:Int}{r:List Value}(hl:l.length=60)(j:Nat):nth (gc l n r) (61+j)=nth r j:=by
 have:=z3I (A:=l.map I) (B:=I n::r) (i:=1+j)
 rw[List.length_map,hl]at this
 have e:61+j=60+(1+j):=by omega
 rw[e]
 refine Eq.trans this ?_
 rw[Nat.add_comm 1 j];rfl
theorem gc_l{l:List Int}{n:Int}{r:List Value}{j:Nat}{x:Int}(hj:l[j]? = some x):nth (gc l n r) j=some (I x):=by
 rw[gc,z6t (by have:=(List.getElem?_eq_some_iff.1 hj).1;simpa using this),z0g,List.getElem?_map,hj];rfl
theorem zpj{l:List Int}{n:Int}{r:List Value}{j:Nat}{x:Int}(hj:j<l.length):setN (gc l n r) j (I x)=gc (l.set j x) n r:=by
 rw[z2p,gc,gc,List.set_append_left _ _ (by simpa using hj),List.map_set]
theorem zpi{l:List Int}{n m:Int}{r:List Value}(hl:l.length=60):setN (gc l n r) 60 (I m)=gc l m r:=by
 rw[z2p,gc,gc,List.set_append_right _ _ (by simp[hl])]
 simp[hl]
theorem zli{l:List Int}{n:Int}{r:List Value}{v:Value}(hl:l.length=60)(j:Nat):setN (gc l n r) (61+j) v=gc l n (setN r j v):=by
 rw[z2p,gc,gc,z2p,List.set_append_right _ _ (by simp[hl];omega)]
 have e:61+j-(List.map I l).length=j+1:=by simp[hl];omega
 rw[e];rfl
theorem zmr(h:St w0 E w)(i:Nat){b T:Nat}{l:List Int}{n:Int}{r:List Value}{x:Int}(hi:nth E i=some [Cl b T (gc l n r)])(hl:l.length=60)(h0:0≤n)(hn:n<4611686018427387904){k:Unit→PT}
  (hk:∀w',St w0 (setN E i [Cl b T (gc (l.set (n.toNat%60) x) (n+1) r)]) w'→k () w'):L.call Pr z5d [.pointer (some ⟨b,0,none⟩),I x] (.tup []) k w:=by
 refine z01 (zbq _ _) ?_
 unfold z7n
 refine dr h fun w h=>nn ?_
 refine ld h i hi (x:=n) (gc_n hl) (gd (by omega) (nn ?_))
 have em:Int.tmod n 60=((n.toNat%60:Nat):Int):=by rw[Int.tmod_eq_emod];simp[h0];omega
 have hlt:n.toNat%60<60:=Nat.mod_lt _ (by omega)
 refine ix (by rw[em];omega) (by rw[em];omega) ?_
 rw[em,Int.toNat_natCast,Nat.mul_one,z6b,z3m,Nat.zero_add]
 refine st1 h i hi (gc_l (List.getElem?_eq_getElem (by omega))) rfl fun w h=>?_
 have hi2:nth (setN E i [Cl b T (setN (gc l n r) (n.toNat%60) (I x))]) i=some [Cl b T (gc (l.set (n.toNat%60) x) n r)]:=by
  rw[zpj (by omega)];exact zcs hi
 refine nn (ld h i hi2 (x:=n) (gc_n (by simpa using hl)) (nn ?_))
 rw[wr (by omega) (by omega)]
 refine st1 h i hi2 (gc_n (by simpa using hl)) rfl fun w h=>⟨(),rfl,hk w ?_⟩
 rw[zpi (by simpa using hl),zan]at h
 exact h
def tz(xs:List Int):Nat:=(xs.reverse.takeWhile (· == 0)).length
structure GOk(l:List Int)(n d:Int)(xs:List Int):Prop where
 len:l.length=60
 n:n=xs.length
 pos:∀k,k<xs.length→xs.length≤k+60→l[k%60]? = xs[k]?
 idle:d=tz xs
def GauS(b:Nat)(xs:List Int)(s:Seg):Prop:=∃l n d,GOk l n d xs∧s = [Cl b z6c (gc l n [I d])]
theorem zrp(h:St w0 E w){k:Option Addr→PT}(hk:∀b s w',GauS b [] s→St w0 (s::E) w'→k (some ⟨b,0,none⟩) w'):L.call Pr zbU [] (.one (.one .ptr)) k w:=by
 refine z01 zkD ?_
 unfold zfY
 refine nw h fun b w h=>⟨_,rfl,hk b _ w ⟨List.replicate 60 0,0,0,⟨rfl,rfl,fun k hk=>by simp at hk,rfl⟩,rfl⟩ h⟩
theorem zqo(xs:List Int)(x:Int):tz (xs++[x])=if x=0 then tz xs+1 else 0:=by
 unfold tz
 rw[List.reverse_append]
 by_cases h:x=0
 ·subst h;simp
 ·simp[h]
theorem zt5(xs:List Int):tz xs≤xs.length:=by
 unfold tz
 have:=(List.takeWhile_sublist (l:=xs.reverse) (fun x=>x == 0)).length_le
 simpa using this
theorem GOk.add{l:List Int}{n d:Int}{xs:List Int}(g:GOk l n d xs)(x:Int):GOk (l.set (n.toNat%60) x) (n+1) (if x=0 then d+1 else 0) (xs++[x]):=by
 have hn:n.toNat=xs.length:=by rw[g.n];simp
 refine⟨by simpa using g.len,by rw[g.n];simp,fun k hk hk2=>?_,?_⟩
 ·simp only[List.length_append,List.length_cons,List.length_nil]at hk hk2
  rw[hn,List.getElem?_set]
  by_cases e:k=xs.length
  ·subst e
   rw[if_pos rfl,if_pos (by rw[g.len];omega)]
   simp
  ·rw[if_neg (by omega),g.pos k (by omega) (by omega),List.getElem?_append_left (by omega)]
 ·rw[zqo,g.idle];split<;>simp
theorem zrq(h:St w0 E w)(i:Nat){b:Nat}{xs:List Int}{s:Seg}(hi:nth E i=some s)(hg:GauS b xs s)(hn:xs.length<2305843009213693952){x:Int}{k:Unit→PT}
  (hk:∀s' w',GauS b (xs++[if 0>x then 0 else x]) s'→St w0 (setN E i s') w'→k () w'):L.call Pr z6v [.pointer (some ⟨b,0,none⟩),I x] (.tup []) k w:=by
 obtain⟨l,n,d,g,rfl⟩:=hg
 have hl:=g.len
 have hn1:=g.n
 have hd:=g.idle
 have hz:=zt5 xs
 refine z01 (zdO _ _) ?_
 unfold z9i
 generalize hy:(if 0>x then 0 else x)=y at *
 have hy0:0≤y:=by rw[←hy];split<;>omega
 have hl2:(l.set (n.toNat%60) y).length=60:=by simpa using hl
 refine nn (zmr h i hi hl (by omega) (by omega) fun w h=>?_)
 have hi2:=zcs (y:=[Cl b z6c (gc (l.set (n.toNat%60) y) (n+1) [I d])]) hi
 refine nn (ld h i hi2 (x:=d) (gc_r hl2 0) (nn ?_))
 rw[wr (by omega) (by omega)]
 refine st1 h i hi2 (gc_r hl2 0) rfl fun w h=>?_
 have e1:setN (gc (l.set (n.toNat%60) y) (n+1) [I d]) 61 (I (d+1))=gc (l.set (n.toNat%60) y) (n+1) [I (d+1)]:=zli hl2 0
 simp only[zan]at h
 have h:St w0 (setN E i [Cl b z6c (gc (l.set (n.toNat%60) y) (n+1) [I (d+1)])]) w:=by rw[←e1];exact h
 have ga:=g.add y
 refine it (fun hb=>?_) (fun hb=>?_)
 ·simp only[decide_eq_true_eq]at hb
  have hi3:=zcs (y:=[Cl b z6c (gc (l.set (n.toNat%60) y) (n+1) [I (d+1)])]) hi
  refine nn (st1 h i hi3 (gc_r hl2 0) rfl fun w h=>⟨(),rfl,hk _ w ⟨_,_,_,ga,rfl⟩ ?_⟩)
  have e1:setN (gc (l.set (n.toNat%60) y) (n+1) [I (d+1)]) 61 (I 0)=gc (l.set (n.toNat%60) y) (n+1) [I 0]:=zli hl2 0
  simp only[zan]at h
  rw[if_neg (by omega),←e1];exact h
 ·simp only[decide_eq_false_iff_not]at hb
  have:y=0:=by omega
  refine⟨(),rfl,hk _ w ⟨_,_,_,ga,rfl⟩ ?_⟩
  rw[if_pos this];exact h
def isum:List Int→Int
 | []=>0
 | x::l=>x+isum l
def lastS(xs:List Int)(m:Nat):Int:=isum (xs.reverse.take m)
def lastN(xs:List Int)(p:Int):Nat:=min (min 60 xs.length) (max p 0).toNat
theorem GOk.back{l:List Int}{n d:Int}{xs:List Int}(g:GOk l n d xs){m:Nat}(hm:(m:Int)<min 60 n){x:Int}(hx:l[(n-(m+1)).toNat%60]? = some x):xs.reverse[m]? = some x:=by
 have hn:=g.n
 have e:(n-(m+1)).toNat=xs.length-1-m:=by omega
 rw[e,g.pos _ (by omega) (by omega)]at hx
 rw[List.getElem?_reverse (by omega)];exact hx
end Go.Proofs.YtdcdhcgmeahfmaaGreatDoor
namespace Go.Proofs.YtdcdhcgmeahfmaaGreatDoor
open Go.Dm
attribute [local irreducible] L.load L.store L.chk L.new L.nonnil L.guard L.ite L.draw L.idx L.sem L.semR L.semU L.chkSem L.next L.call L.callV L.join L.alts L.loop L.begin L.endRound L.range
variable {w0 w:World}{E:List Seg}
structure ABes where
 xs:List Int
 want:Int
 left:Int
structure ASys where
 sh:AShelf
 bk:ABook
 ro:ARoll
 fl:AFleet
 gt:AGate
 by':List (ByteArray×ABes)
 now:Int
structure BsE where
 k:ByteArray
 b:Nat
 g:Nat
 x:ABes
 sgg:Seg
abbrev BsE.cell(x:BsE):Seg:=[Cl x.b z7V [.pointer (some ⟨x.g,0,none⟩),I x.x.want,I x.x.left]]
abbrev BsE.sg(x:BsE):Seg:=x.cell++x.sgg
abbrev BsE.kp(x:BsE):ByteArray×Option Addr:=(x.k,some ⟨x.b,0,none⟩)
abbrev BsE.ka(x:BsE):ByteArray×ABes:=(x.k,x.x)
def BsE.ok(x:BsE):Prop:=GauS x.g x.x.xs x.sgg
structure Bls where
 s:Nat
 k:Nat
 r:Nat
 f:Nat
 g:Nat
 m:Nat
abbrev sysC(b:Nat)(p:Bls)(now:Int):Seg:=[Cl b zaC [.pointer (some ⟨p.s,0,none⟩),.pointer (some ⟨p.k,0,none⟩),.pointer (some ⟨p.r,0,none⟩),.pointer (some ⟨p.f,0,none⟩),.pointer (some ⟨p.g,0,none⟩),.map (some p.m),I now]]
structure SysR(a:ASys)(p:Bls)(sg sf ss sk sr sm:Seg)(Q:List BsE):Prop where
 gt:GtS p.g p.f a.gt sg
 fl:FlS p.f a.fl sf
 sh:ShS p.s a.sh ss
 bk:BkS p.k a.bk sk
 ro:RolS p.r a.ro sr
 mp:MpS Value.string Value.pointer p.m (Q.map BsE.kp) sm
 ea:∀x∈Q,x.ok
 ab:a.by'=Q.map BsE.ka
abbrev sys8(b:Nat)(a:ASys)(p:Bls)(sg sf ss sk sr sm:Seg)(Q:List BsE):Seg:=sysC b p a.now++(sg++(sf++(ss++(sk++(sr++(sm++(Q.map BsE.sg).flatten))))))
def SysS(b:Nat)(a:ASys)(s:Seg):Prop:=∃(p:Bls)(sg sf ss sk sr sm:Seg)(Q:List BsE),SysR a p sg sf ss sk sr sm Q∧s=sys8 b a p sg sf ss sk sr sm Q
theorem _root_.Go.Dm.St.split8{a b c d e f g i:Seg}(h:St w0 ((a++(b++(c++(d++(e++(f++(g++i)))))))::E) w):St w0 (a::b::c::d::e::f::g::i::E) w:=h.eq (by simp)
theorem _root_.Go.Dm.St.glue8{a b c d e f g i:Seg}(h:St w0 (a::b::c::d::e::f::g::i::E) w):St w0 ((a++(b++(c++(d++(e++(f++(g++i)))))))::E) w:=h.eq (by simp)
theorem sysBack{sv a b c d e f g j s:Seg}(i:Nat)(hi:nth E i=some s)(h:St w0 (sv::a::b::c::d::e::f::g::j::delN E i) w):St w0 (sv::setN E i (a++(b++(c++(d++(e++(f++(g++j)))))))) w:=by
 have h:=fr8_ (fr8_ (fr8_ (fr8_ (fr8_ (fr8_ (fr8_ (fr8_ h)))))))
 have h:=h.glue8
 exact St.back (E:=sv::E) (i+1) hi h
theorem zio:Pr.underlying z0T=some (.map z00 z4X):=by kernel_rfl
abbrev slK(k:Sl→PT):Value→PT:=fun v w'=>∃x,v=RT.val (.one (.one .slice)) x∧k x w'
abbrev Hk(w0:World)(E:List Seg)(i b:Nat)(r:ASys×List ByteArray)(k:Sl→PT):Prop:=∀v sv s' w',Rw eS z00 1 v r.2 sv→SysS b r.1 s'→St w0 (sv::setN E i s') w'→k v w'
def sysConfig(a:ASys)(e:AEv):ASys×List ByteArray:=({ a with sh:=(shPut a.sh e.c e.n).1 },putB zhp e.c.1 (shPut a.sh e.c e.n).2.1 (shPut a.sh e.c e.n).2.2)
theorem zn4(a:AShelf)(c:Cfg)(ver:Int)(h0:0≤a.n)(h1:a.n<900000000):0≤(shPut a c ver).2.1∧(shPut a c ver).2.1≤9000000000000000000:=by
 unfold shPut
 split
 ·exact⟨Int.le_refl 0,by show(0:Int)≤_;decide⟩
 ·split
  ·exact⟨Int.le_refl 0,by show(0:Int)≤_;decide⟩
  ·dsimp only;omega
theorem zkq [bTab w0](h:St w0 E w)(i:Nat){b:Nat}{a:ASys}{s:Seg}(hi:nth E i=some s)(hs:SysS b a s){e:AEv}(hn:a.sh.n<900000000)(hsz:e.c.1.size≤1000000){k:Sl→PT}(hk:Hk w0 E i b (sysConfig a e) k) :
  z4i (some ⟨b,0,none⟩) e.t (slK k) w:=by
 obtain⟨p,sg,sf,ss,sk,sr,sm,Q,R,rfl⟩:=hs
 have hlo:=R.sh.1.lo
 unfold z4i
 have h:=(h.front i hi).split8
 refine nw h ?_;clear h;(try clear w);intro b1 w h
 (dsimp only[setN,List.cons_append,List.nil_append]at h;refine dr h ?_;clear h;(try clear w);intro w h;refine nn ?_;refine ldC h ?_;refine laC h ?_;refine ldC h ?_;rw[z4F])
 refine zr7 (c:=e.c) h 4 rfl R.sh hn fun ss' w hS h=>?_
 dsimp only[setN]at h
 (refine ldC h ?_)
 have hv:=zn4 a.sh e.c e.n hlo hn
 refine zsy h (by decide) hsz hv fun v sv w r h=>?_
 refine⟨v,rfl,hk v sv _ w r ⟨p,sg,sf,ss',sk,sr,sm,Q,⟨R.gt,R.fl,hS,R.bk,R.ro,R.mp,R.ea,R.ab⟩,rfl⟩ ?_⟩
 exact sysBack i hi (dl1_ h)
def sysRoute(a:ASys)(e:AEv):ASys×List ByteArray:=({ a with sh:=(shPutR a.sh e.r e.n).1 },putB znf e.r.name (shPutR a.sh e.r e.n).2.1 (shPutR a.sh e.r e.n).2.2)
theorem zlK(a:AShelf)(r:ARt)(ver:Int)(h0:0≤a.n)(h1:a.n<900000000):0≤(shPutR a r ver).2.1∧(shPutR a r ver).2.1≤9000000000000000000:=by
 unfold shPutR
 split
 ·exact⟨Int.le_refl 0,by show(0:Int)≤_;decide⟩
 ·split
  ·exact⟨Int.le_refl 0,by show(0:Int)≤_;decide⟩
  ·dsimp only;omega
theorem zmp [bTab w0](h:St w0 E w)(i:Nat){b:Nat}{a:ASys}{s:Seg}(hi:nth E i=some s)(hs:SysS b a s){e:AEv}(hn:a.sh.n<900000000)(hsz:e.r.name.size≤1000000)(hfew:a.sh.Few)(rd:RdE w0 (delN E i) eT e.v e.r.ts)(hvc:e.v.len≤e.v.cap)(h0:e.v.a=none→e.r.ts = [])(hrv:∀t∈e.r.ts,revOk t.1)
  {k:Sl→PT} (hk:Hk w0 E i b (sysRoute a e) k):z4I (some ⟨b,0,none⟩) e.t (slK k) w:=by
 obtain⟨p,sg,sf,ss,sk,sr,sm,Q,R,rfl⟩:=hs
 have hlo:=R.sh.1.lo
 unfold z4I
 have h:=(h.front i hi).split8
 refine nw h ?_;clear h;(try clear w);intro b1 w h
 (dsimp only[setN,List.cons_append,List.nil_append]at h;refine dr h ?_;clear h;(try clear w);intro w h;refine nn ?_;refine ldC h ?_;refine laC h ?_;refine ldC h ?_;rw[z4F])
 refine zpE (r:=e.r) (v:=e.v) h 4 rfl R.sh hfew hn (fun w h=>?_) hvc h0 hrv fun ss' w hS h=>?_
 ·exact rd w (dl0_ (dl0_ (dl0_ (dl0_ (dl0_ (dl0_ (dl0_ (dl0_ h))))))))
 dsimp only[setN]at h
 (refine ldC h ?_)
 have hv:=zlK a.sh e.r e.n hlo hn
 refine zsy h (by decide) hsz hv fun v sv w r h=>?_
 exact⟨v,rfl,hk v sv _ w r ⟨p,sg,sf,ss',sk,sr,sm,Q,⟨R.gt,R.fl,hS,R.bk,R.ro,R.mp,R.ea,R.ab⟩,rfl⟩ (sysBack i hi (dl1_ h))⟩
def sysDone(a:ASys)(e:AEv):ASys×List ByteArray:=
 ({ a with gt:=(gDone a.fl a.gt e.n).2.1,fl:=(gDone a.fl a.gt e.n).1 },if(gDone a.fl a.gt e.n).2.2.2≠0 then refusedB (gDone a.fl a.gt e.n).2.2.2 else(gDone a.fl a.gt e.n).2.2.1.map fateB)
theorem zo7 [bTab w0](h:St w0 E w)(i:Nat){b:Nat}{a:ASys}{s:Seg}(hi:nth E i=some s)(hs:SysS b a s){e:AEv}(hfew:FFew a.fl)(hn:a.gt.all.length<80000000)(hl:a.gt.lines.length<90000000)(hf:∀f∈(gDone a.fl a.gt e.n).2.2.1,f.Ok)(hfl:(gDone a.fl a.gt e.n).2.2.1.length<100000000)
  {k:Sl→PT} (hk:Hk w0 E i b (sysDone a e) k):z5g (some ⟨b,0,none⟩) e.t (slK k) w:=by
 obtain⟨p,sg,sf,ss,sk,sr,sm,Q,R,rfl⟩:=hs
 unfold z5g
 have h:=(h.front i hi).split8
 refine nw h ?_;clear h;(try clear w);intro b1 w h
 (dsimp only[setN,List.cons_append,List.nil_append]at h;refine dr h ?_;clear h;(try clear w);intro w h;refine nn ?_;refine ldC h ?_;refine ldC h ?_)
 have h:=fr3_ (fr3_ h)
 refine zrs h R.gt R.fl hfew hn hl fun v sv sg' sf' w hr hG hF h=>?_
 unfold sysDone at hk
 refine it (fun hc=>?_) (fun hc=>?_)
 ·have hc:(gDone a.fl a.gt e.n).2.2.2≠0:=by simpa using hc
  rw[if_pos hc]at hk
  refine z6d h fun v s w r h=>?_
  refine⟨v,rfl,hk v s _ w r ⟨p,sg',sf',ss,sk,sr,sm,Q,⟨hG,hF,R.sh,R.bk,R.ro,R.mp,R.ea,R.ab⟩,rfl⟩ ?_⟩
  have h:=dl1_ (dl4_ h)
  have h:=fr3_ (fr3_ (fr2_ (fr2_ h)))
  exact sysBack i hi h
 ·have hc:¬(gDone a.fl a.gt e.n).2.2.2≠0:=by simpa using hc
  rw[if_neg hc]at hk
  refine zlv h.nil (l:=[]) hr hf hfl (by decide) Rw.nil fun v s w r h=>?_
  refine⟨v,rfl,hk v s _ w (by simpa using r) ⟨p,sg',sf',ss,sk,sr,sm,Q,⟨hG,hF,R.sh,R.bk,R.ro,R.mp,R.ea,R.ab⟩,rfl⟩ ?_⟩
  have h:=dl1_ (dl4_ h)
  have h:=fr3_ (fr3_ (fr2_ (fr2_ h)))
  exact sysBack i hi h
end Go.Proofs.YtdcdhcgmeahfmaaGreatDoor
