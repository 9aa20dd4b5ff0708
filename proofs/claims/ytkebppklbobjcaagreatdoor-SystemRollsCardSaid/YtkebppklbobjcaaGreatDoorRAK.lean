/- What is proved on the way to a statement of the seat, pressed (text AK). No conditions beyond those its theorems state. -/
import Derived.Test.YtkebppklbobjcaaGreatDoorRAJ
set_option linter.all false
namespace Go.Proofs.YtkebppklbobjcaaGreatDoor
open Go.Dm
attribute [local irreducible] L.load L.store L.chk L.new L.nonnil L.guard L.ite L.draw L.idx L.sem L.semR L.semU L.chkSem L.next L.call L.callV L.join L.alts L.loop L.begin L.endRound L.range
variable {w0 w : World} {E : List Seg}
theorem bes_turn {rev : ByteArray} {y : ABes} {sgg : Seg} {x : BsE} (hk : x.k = rev) {B : List BsE} : ∀ {A : List BsE}, ((A ++ x :: B).map BsE.k).Nodup → (A ++ ⟨x.k, x.b, x.g, y, sgg⟩ :: B).map BsE.ka = mset ((A ++ x :: B).map BsE.ka) rev y
 | [], _ => by
  subst hk
  simp [mset]
 | a :: A, hn => by
  have hn2 := hn
  rw [List.cons_append, List.map_cons, List.nodup_cons] at hn2
  have hne : ¬ a.k = rev := fun e => hn2.1 (by rw [e, ← hk]; simp)
  have ih := bes_turn hk (A := A) (y := y) (sgg := sgg) hn2.2
  rw [List.cons_append, List.map_cons, List.cons_append, List.map_cons, ih]
  simp only [mset]
  rw [if_neg hne]
def bnd (a : ASys) (e : AEv) : ByteArray := if (mget a.ro e.name).isSome = false then s_ else if e.tag = s_ then tPick (roTab a.ro e.name) e.draw else (tagL (roTab a.ro e.name).tg e.tag).1
abbrev arG (a : ASys) (e : AEv) : AFleet × AGate × Fate := gArr a.fl a.gt e.n (bnd a e) a.now
def pokes (a : ASys) (e : AEv) : Option ABes := match mget a.by' (bnd a e) with
 | some x => if (arG a e).2.2.2.1 = 2 ∧ x.want = 0 then some x else none
 | none => none
def sysArrive (a : ASys) (e : AEv) : ASys × List ByteArray := match pokes a e with
 | some x => ({ a with fl := (arG a e).1, gt := (arG a e).2.1, by' := mset a.by' (bnd a e) ⟨x.xs, 1, x.left⟩ }, [fateB (arG a e).2.2, lineB (lineB s_scale [bnd a e]) [decD 1]])
 | none => ({ a with fl := (arG a e).1, gt := (arG a e).2.1 }, [fateB (arG a e).2.2])
theorem zptr (w : World) : (zeroValue T_p_system_beside).run Pr w = .ok ((E1.one .ptr).val (none : Option Addr)) w := by
 have h : (Pr.info? T_p_system_beside).map (·.zero) = some (some (.pointer none)) := by kernel_rfl
 cases hi : Pr.info? T_p_system_beside with
 | none => rw [hi] at h; cases h
 | some i => rw [hi] at h; simp only [Option.map_some, Option.some.injEq] at h; exact zv hi h w
theorem bes_kp {Q : List BsE} {rev : ByteArray} : mget (Q.map BsE.kp) rev = (lfind BsE.k Q rev).map fun x => some ⟨x.b, 0, none⟩ := lfind_map (key := BsE.k) (fun x : BsE => (some ⟨x.b, 0, none⟩ : Option Addr)) rev Q
theorem bes_ka {Q : List BsE} {rev : ByteArray} : mget (Q.map BsE.ka) rev = (lfind BsE.k Q rev).map BsE.x := lfind_map (key := BsE.k) BsE.x rev Q
def wantB (m : List (ByteArray × ABes)) (rev : ByteArray) : Int := ((mget m rev).map ABes.want).getD 0
theorem S_sysWant (h : St w0 E w) {b : Nat} {p : Bls} {now : Int} {sm : Seg} {Q : List BsE} {i j l : Nat} (hi : nth E i = some (sysC b p now)) (hj : nth E j = some sm) (hl : nth E l = some (Q.map BsE.sg).flatten) (hm : MpS Value.string Value.pointer p.m (Q.map BsE.kp) sm) {rev : ByteArray} {k : Int → PT} (hk : k (wantB (Q.map BsE.ka) rev) w) :
  L.call Pr n_system_System_Want [.pointer (some ⟨b, 0, none⟩), .string rev] (.one (.one (.int .i64))) k w := by
 refine call_of (C_system_System_Want _ _) ?_
 unfold F_system_System_Want
 have h0 := h
 have h := h0.front i hi
 unfold wantB at hk
 rw [bes_ka] at hk
 (refine nn ?_; refine ldC h ?_)
 refine call_of (C_system_things_system_beside_at _ _) ?_
 unfold F_system_things_system_beside_at
 refine MpS.get2 mkStr und_by zptr (fun x : Option Addr => x) (fun _ => rfl) h0 j hj hm ?_
 rw [bes_kp]
 cases hf : lfind BsE.k Q rev with
 | none =>
  rw [hf] at hk
  refine ⟨(none, false, ()), rfl, ?_⟩
  exact itF rfl ⟨_, rfl, hk⟩
 | some x =>
  rw [hf] at hk
  obtain ⟨A, B, rfl, hxk⟩ := lfind_at hf
  refine ⟨(some ⟨x.b, 0, none⟩, true, ()), rfl, ?_⟩
  refine itT rfl ?_
  have h := ((h0.front l hl).pick).split
  (refine nn ?_; refine ldC h ?_)
  exact ⟨_, rfl, hk⟩
def cnt (q : Int → Bool) (l : List (Int × Int × Int)) : Int := ((l.filter fun x => q x.2.1).length : Int)
theorem S_sysCount (h : St w0 E w) {b : Nat} {p : Bls} {now : Int} {sf : Seg} {F : AFleet} {i j : Nat} (hi : nth E i = some (sysC b p now)) (hj : nth E j = some sf) (hf : FlS p.f F sf) {rev : ByteArray} {fv : FV} {q : Int → Bool} (hlen : (fPods F.l rev).length < 1000000)
  (hq : ∀ {E' : List Seg} {w : World} {x : Int} {k : Bool → PT}, St w0 E' w → (∀ w', St w0 E' w' → k (q x) w') → L.callV Pr (.func fv.fn fv.fs fv.cs) [I x] (.one (.one .bool)) k w) {k : Int → PT} (hk : ∀ w', St w0 E w' → k (cnt q (fPods F.l rev)) w') :
  L.call Pr n_system_System_count [.pointer (some ⟨b, 0, none⟩), .string rev, fv.val] (.one (.one (.int .i64))) k w := by
 refine call_of (C_system_System_count _ _ fv) ?_
 unfold F_system_System_count
 refine call_of (C_system_System_Pods _ _) ?_
 unfold F_system_System_Pods
 have h0 := h
 have h := h0.front i hi
 (refine nn ?_; refine ldC h ?_)
 refine S_fPods h0 j hj hf fun v s w hr h => ⟨v, rfl, ?_⟩
 clear h0
 generalize fPods F.l rev = l at *
 have hln := Rw.len encK hr
 refine loop_of (fun m y w => ∃ (j : Nat), @Eq Int y.2.1 j ∧ m + j = l.length ∧ @Eq Int y.1 (cnt q (l.take j)) ∧ St w0 (s :: E) w) l.length ⟨0, rfl, rfl, rfl, h⟩ ?_
 clear h; (try clear w)
 rintro m ⟨n, y, ⟨⟩⟩ w ⟨j, hy, hm, hn, h⟩ again hag
 (try dsimp only)
 simp only at hy hn
 subst hy
 refine it (fun hb => ?_) (fun hb => ?_) <;> (try simp only [decide_eq_true_eq, decide_eq_false_iff_not, beq_iff_eq, bne_iff_ne, beq_eq_false_iff_ne, bne_eq_false_iff_eq, Bool.not_eq_true', Bool.not_eq_false', ne_eq, Bool.not_eq_true, Bool.not_eq_false] at hb)
 ·have hj : j < l.length := by omega
  have hx : l[j]? = some l[j] := List.getElem?_eq_getElem hj
  have et : cnt q (l.take (j + 1)) = cnt q (l.take j) + (if q l[j].2.1 = true then 1 else 0) := by
   unfold cnt
   rw [List.take_succ, hx, Option.toList_some, List.filter_append, List.length_append]
   by_cases hc : q l[j].2.1 = true
   ·simp [hc]
   ·simp [hc]
  have hle : 0 ≤ cnt q (l.take j) ∧ cnt q (l.take j) ≤ j := by
   unfold cnt
   have := List.length_filter_le (fun x : Int × Int × Int => q x.2.1) (l.take j)
   rw [List.length_take] at this
   omega
  generalize l[j] = x at hx et
  obtain ⟨x1, x2, x3⟩ := x
  refine jd ?_
  refine Rw.ix encK hr (by omega) (by simpa using hj) fun a ha => ?_
  refine Rw.lda encK h 0 rfl hr ha (x := (x1, x2, x3)) (by simpa using hx) rfl ?_
  refine nw h ?_; clear h; (try clear w); intro b8 w h
  (refine stC h ?_; clear h; (try clear w); intro w h; dsimp only [putN, setN] at h; refine ldC h ?_)
  refine hq h fun w h => ?_
  have h := dl0_ h
  dsimp only at et
  refine it (fun hc => ?_) (fun hc => ?_)
  ·rw [if_pos hc] at et
   refine hag (m - 1) _ w (by omega) ⟨j + 1, ?_, by omega, ?_, h⟩
   ·show IntKind.wrap .i64 _ = _
    rw [wr (by omega) (by omega)]; omega
   ·show IntKind.wrap .i64 (n + 1) = _
    rw [et, hn, wr (by omega) (by omega)]
  ·rw [if_neg (by rw [hc]; decide)] at et
   refine hag (m - 1) _ w (by omega) ⟨j + 1, ?_, by omega, ?_, h⟩
   ·show IntKind.wrap .i64 _ = _
    rw [wr (by omega) (by omega)]; omega
   ·show n = _
    rw [et, hn]; omega
 ·have e : l.take j = l := List.take_of_length_le (by omega)
  rw [e] at hn
  have := hk w (dl0_ h)
  rw [← hn] at this
  exact ⟨_, rfl, this⟩
abbrev pdWant (a : ASys) (n : ByteArray) : Int := wantB a.by' n
abbrev pdConc (a : ASys) (n : ByteArray) : Int := @id Int (bkGet a.bk n).2.2.2.2.1
abbrev pdFl (a : ASys) (n : ByteArray) : AFleet := (fScale a.fl n (pdConc a n) (pdWant a n)).1
abbrev numL (word : ByteArray) (l : List Int) : List ByteArray := l.map fun x => lineB word [decD x.toNat]
def sysPods (a : ASys) (e : AEv) : ASys × List ByteArray :=
 if bkHas a.bk e.name = false then (a, refusedB 6)
 else ({ a with fl := pdFl a e.name }, numL s_made (fMade a.fl e.name (pdWant a e.name)) ++ numL s_gone (fScale a.fl e.name (pdConc a e.name) (pdWant a e.name)).2 ++ [lineB (lineB s_fleet [e.name]) [decD (cnt (fun s => s != 3) (fPods (pdFl a e.name).l e.name)).toNat]])
theorem num_row [bTab w0] {word : ByteArray} {v : Sl} {l : List Int} {X : List ByteArray} {vo : Sl} {si so : Seg} (hr : Rw eI T_int 1 v l si) (hl : l.length < 1000000) (hX : X.length < 1000000) (hb : ∀ x ∈ l, 0 ≤ x ∧ x ≤ 9000000000000000000) (hw : word.size ≤ 1000) (ro : Rw eS T_string 1 vo X so) {k : Sl × Int × Unit → PT}
  (h : St w0 (so :: si :: E) w) (hk : ∀ v' s' m w', Rw eS T_string 1 v' (X ++ numL word l) s' → St w0 (s' :: si :: E) w' → k (v', m, ()) w') :
  L.loop (Y := Sl × Int × Unit) (⟨vo.a, vo.len, vo.cap⟩, 0, ()) (fun y19 again20 =>
   L.ite (decide (y19.2.1 < ((v.len : Nat) : Int))) (
    L.idx v.a y19.2.1 v.len 1 fun a21 =>
    L.load (.one (.int .i64)) a21 fun (x22 : Int) =>
    L.new [.int .i64 x22] T_int fun b23 =>
    L.call Pr n_system_line_int [.string word, .slice (some ⟨b23, 0, none⟩) 1 1] (.one (.one (.str))) fun (x24 : ByteArray) =>
    L.new [.string x24] T_string fun b25 =>
    L.sem Pr (.one (.one .slice)) (Builtin.append_ #[T_s_string, T_s_string] T_s_string #[.slice y19.1.a y19.1.len y19.1.cap, .slice (some ⟨b25, 0, none⟩) 1 1]) fun (s26 : Sl) =>
    again20 (⟨s26.a, s26.len, s26.cap⟩, IntKind.wrap .i64 (y19.2.1 + 1), ())) <|
   k y19) w := by
 have hln := Rw.len encI hr
 refine loop_of (fun q y w => ∃ (j : Nat) (s3 : Seg), @Eq Int y.2.1 j ∧ q + j = l.length ∧ Rw eS T_string 1 y.1 (X ++ numL word (l.take j)) s3 ∧ St w0 (s3 :: si :: E) w) l.length ⟨0, so, rfl, by simp, by simpa using ro, h⟩ ?_
 clear ro
 clear h; (try clear w)
 rintro q ⟨vo, y, ⟨⟩⟩ w ⟨j, s3, hy, hq, r3, h⟩ again hag
 (try dsimp only)
 simp only at hy r3
 subst hy
 refine it (fun hb2 => ?_) (fun hb2 => ?_) <;> (try simp only [decide_eq_true_eq, decide_eq_false_iff_not, beq_iff_eq, bne_iff_ne, beq_eq_false_iff_ne, bne_eq_false_iff_eq, Bool.not_eq_true', Bool.not_eq_false', ne_eq, Bool.not_eq_true, Bool.not_eq_false] at hb2)
 ·have hj : j < l.length := by omega
  have hx : l[j]? = some l[j] := List.getElem?_eq_getElem hj
  have hbx := hb l[j] (List.getElem_mem hj)
  have et : numL word (l.take (j + 1)) = numL word (l.take j) ++ [lineB word [decD (l[j]).toNat]] := by unfold numL; rw [List.take_succ, hx, List.map_append]; rfl
  generalize l[j] = x at hx et hbx
  refine Rw.ix encI hr (by omega) (by simpa using hj) fun a ha => ?_
  refine Rw.ld0 encI h 1 rfl hr ha (x := x) (by simpa using hx) rfl rfl ?_
  refine nw h ?_; clear h; (try clear w); intro b23 w h
  refine lineI1 h (by omega) hbx.1 hbx.2 fun w h => ?_
  refine nw h ?_; clear h; (try clear w); intro b25 w h
  refine Rw.app encS elS h 0 rfl r3 (lineB word [decD x.toNat]) rfl (by simp; omega) (by simp; omega) fun v' s3' w r3' h => ?_
  refine hag (q - 1) _ w (by omega) ⟨j + 1, s3', ?_, by omega, by rw [et, ← List.append_assoc]; exact r3', h⟩
  show IntKind.wrap .i64 _ = _
  rw [wr (by omega) (by omega)]; omega
 ·have e : l.take j = l := List.take_of_length_le (by omega)
  rw [e] at r3
  exact hk vo s3 _ w r3 h
theorem S_sysPods [bTab w0] (h : St w0 E w) (i : Nat) {b : Nat} {a : ASys} {s : Seg} (hi : nth E i = some s) (hs : SysS b a s) {e : AEv} (hroom : a.fl.room < 1000000) (hlast : a.fl.last + a.fl.room < 4611686018427387904) (hname : e.name.size ≤ 100000)
  (hmade : ∀ x ∈ fMade a.fl e.name (pdWant a e.name), 0 ≤ x ∧ x ≤ 9000000000000000000) (hmn : (fMade a.fl e.name (pdWant a e.name)).length < 100000) (hgone : ∀ x ∈ (fScale a.fl e.name (pdConc a e.name) (pdWant a e.name)).2, 0 ≤ x ∧ x ≤ 9000000000000000000) (hgn : (fScale a.fl e.name (pdConc a e.name) (pdWant a e.name)).2.length < 100000)
  (hpn : (fPods (pdFl a e.name).l e.name).length < 1000000) {k : Sl → PT} (hk : Hk w0 E i b (sysPods a e) k) : F_system_System_pods (some ⟨b, 0, none⟩) e.t (slK k) w := by
 have hs0 := hs
 obtain ⟨p, sg, sf, ss, sk, sr, sm, Q, R, rfl⟩ := hs
 unfold F_system_System_pods
 unfold sysPods at hk
 have h := (h.front i hi).split8
 refine nw h ?_; clear h; (try clear w); intro b1 w h
 refine join_of (fun (z : Addr × Bool × Unit) w => ∃ b8 : Nat, z = (⟨b8, 0, none⟩, bkHas a.bk e.name, ()) ∧
  St w0 ([Cl b8 T_api_Revision (rvC (bkGet a.bk e.name))] :: [Cl b1 T_api_Event [I e.kind, .string e.name, .string e.tag, I e.n, I e.draw, .string e.c.1, I e.c.2.1, I e.c.2.2.1, I e.c.2.2.2.1, I e.c.2.2.2.2.1, I e.c.2.2.2.2.2.1, .string e.r.name, .string e.r.cfg, SlV e.v, I e.r.roll]] :: sysC b p a.now :: sg :: sf :: ss :: sk :: sr :: sm :: (Q.map BsE.sg).flatten :: delN E i) w) (fun k2 hk2 => ?_) ?_
 ·(dsimp only [setN, List.cons_append, List.nil_append] at h; refine dr h ?_; clear h; (try clear w); intro w h; refine nn ?_; refine ldC h ?_; refine ldC h ?_)
  refine alts2 ?_ ?_
  ·refine S_bkGet h 5 rfl R.bk fun w h => ?_
   refine nw h ?_; clear h; (try clear w); intro b8 w h
   (refine ckC h ?_; refine ckC h ?_; refine stC h ?_; clear h; (try clear w); intro w h; dsimp only [putN, setN] at h)
   exact hk2 _ w ⟨b8, rfl, h⟩
  ·refine nw h ?_; clear h; (try clear w); intro b8 w h
   (refine ckC h ?_; refine ckC h ?_)
   refine S_bkGet h 6 rfl R.bk fun w h => ?_
   (refine stC h ?_; clear h; (try clear w); intro w h; dsimp only [putN, setN] at h)
   exact hk2 _ w ⟨b8, rfl, h⟩
 clear h; (try clear w)
 rintro z w ⟨b8, rfl, h⟩
 (try dsimp only)
 refine it (fun hc => ?_) (fun hc => ?_)
 ·have hc : bkHas a.bk e.name = false := by simpa using hc
  rw [if_pos hc] at hk
  refine S_refused h fun v s w r h => ?_
  exact ⟨v, rfl, hk v s _ w r hs0 (sysBack i hi (dl1_ (dl1_ h)))⟩
 have hc : ¬ bkHas a.bk e.name = false := by simpa using hc
 rw [if_neg hc] at hk
 (refine dr h ?_; clear h; (try clear w); intro w h; refine nn ?_; refine ldC h ?_; refine ldC h ?_; rw [add_add]; refine ldC h ?_; refine ldC h ?_)
 refine S_sysWant h (i := 2) (j := 8) (l := 9) rfl rfl rfl R.mp ?_
 (refine ckC h ?_; refine ckC h ?_; refine ckC h ?_)
 have ew : wantB (Q.map BsE.ka) e.name = pdWant a e.name := by unfold pdWant; rw [R.ab]
 rw [ew]
 have hF0 := R.fl
 unfold pdFl at *
 refine S_fScale (conc := pdConc a e.name) h 4 rfl R.fl (by omega) hlast fun v1 v2 sf' s1 s2 w hF r1 r2 h => ?_
 dsimp only [setN] at h
 generalize fScale a.fl e.name (pdConc a e.name) (pdWant a e.name) = g at *
 generalize fMade a.fl e.name (pdWant a e.name) = made at *
 obtain ⟨F, gone⟩ := g
 dsimp only at *
 have h := fr1_ h
 refine num_row (vo := ⟨none, 0, 0⟩) (X := []) r1 (by omega) (by simp) hmade (by decide) Rw.nil h.nil fun v3 s3 m w r3 h => ?_
 have h := fr2_ (fr2_ (fr1_ h))
 refine num_row r2 (by omega) (by simp [numL]; omega) hgone (by decide) r3 h fun v4 s4 m w r4 h => ?_
 (refine ldC h ?_)
 refine S_sysCount h (i := 5) (j := 7) rfl rfl hF (fv := ⟨.func n_system_System_pods_1, #[], #[]⟩) (q := fun s => s != 3) hpn (fun {E' w x k} h hk => ?_) fun w h => ?_
 ·refine callV_of (fs := #[]) (cs := #[]) E_system_System_pods_1 (C_system_System_pods_1 x) ?_
  unfold F_system_System_pods_1
  exact ⟨_, rfl, hk w h⟩
 (refine ldC h ?_)
 have hcn : 0 ≤ cnt (fun s => s != 3) (fPods F.l e.name) ∧ cnt (fun s => s != 3) (fPods F.l e.name) ≤ 1000000 := by
  unfold cnt
  have := List.length_filter_le (fun x : Int × Int × Int => (fun s => s != 3) x.2.1) (fPods F.l e.name)
  refine ⟨Int.natCast_nonneg _, ?_⟩
  have h2 : ((fPods F.l e.name).filter fun x : Int × Int × Int => (fun s => s != 3) x.2.1).length ≤ 1000000 := by omega
  exact Int.ofNat_le.2 h2
 generalize cnt (fun s => s != 3) (fPods F.l e.name) = n at *
 refine nw h ?_; clear h; (try clear w); intro b38 w h
 refine lineS1 h (by decide) (by omega) fun w h => ?_
 refine nw h ?_; clear h; (try clear w); intro b40 w h
 refine lineI1 h (by rw [lineB1_le]; have : s_fleet.size = 5 := rfl; omega) hcn.1 (by omega) fun w h => ?_
 refine nw h ?_; clear h; (try clear w); intro b42 w h
 refine Rw.app encS elS h 0 rfl r4 (lineB (lineB s_fleet [e.name]) [decD n.toNat]) rfl (by simp [numL]; omega) (by simp [numL]; omega) fun v5 s5 w r5 h => ?_
 refine ⟨v5, rfl, hk v5 s5 _ w (by simpa using r5) ⟨p, sg, sf', ss, sk, sr, sm, Q, ⟨R.gt, hF, R.sh, R.bk, R.ro, R.mp, R.ea, R.ab⟩, rfl⟩ (sysBack i hi ?_)⟩
 exact dl1_ (dl1_ (dl1_ (dl1_ h)))
def busyB (G : AGate) (rev : ByteArray) : Int := ((gWait G rev).length : Int) + (gWith G.all rev).length
def tkStep (G : AGate) (m : List (ByteArray × ABes)) (rev : ByteArray) : List (ByteArray × ABes) := match mget m rev with
 | some x => mset m rev ⟨x.xs ++ [if 0 > busyB G rev then 0 else busyB G rev], x.want, x.left⟩
 | none => m
abbrev tkG (a : ASys) : AGate × List Fate := gTick a.gt (a.now + 1)
def sysTick (a : ASys) : ASys × List ByteArray :=
 if a.now ≥ 1048576 then (a, refusedB 9)
 else ({ a with gt := (tkG a).1, now := a.now + 1, by' := (bkAll a.bk).foldl (tkStep (tkG a).1) a.by' }, lineB s_tick [decD (a.now + 1).toNat] :: (tkG a).2.map fateB)
theorem S_sysTick [bTab w0] (h : St w0 E w) (i : Nat) {b : Nat} {a : ASys} {s : Seg} (hi : nth E i = some s) (hs : SysS b a s) {e : AEv} (hnow : 0 ≤ a.now) (hwk : GWk a.gt) (hfl : (tkG a).2.length < 90000000) (hf : ∀ f ∈ (tkG a).2, f.Ok)
  (hby : ∀ rev ∈ bkAll a.bk, (mget a.by' rev).isSome = true) (hxs : ∀ x ∈ a.by', x.2.xs.length < 1000000000) (hfb : a.bk.all.length < 1000000) {k : Sl → PT} (hk : Hk w0 E i b (sysTick a) k) : F_system_System_tick (some ⟨b, 0, none⟩) e.t (slK k) w := by
 have hs0 := hs
 obtain ⟨p, sg, sf, ss, sk, sr, sm, Q, R, rfl⟩ := hs
 unfold F_system_System_tick
 unfold sysTick tkG at hk
 unfold tkG at hfl hf
 have h := (h.front i hi).split8
 refine nw h ?_; clear h; (try clear w); intro b1 w h
 (dsimp only [setN, List.cons_append, List.nil_append] at h; refine nn ?_; refine ldC h ?_)
 refine it (fun hc => ?_) (fun hc => ?_) <;> (try simp only [decide_eq_true_eq, decide_eq_false_iff_not, beq_iff_eq, bne_iff_ne, beq_eq_false_iff_ne, bne_eq_false_iff_eq, Bool.not_eq_true', Bool.not_eq_false', ne_eq, Bool.not_eq_true, Bool.not_eq_false] at hc)
 ·rw [if_pos hc] at hk
  refine S_refused h fun v s w r h => ?_
  exact ⟨v, rfl, hk v s _ w r hs0 (sysBack i hi (dl1_ h))⟩
 rw [if_neg hc] at hk
 (refine nn ?_; refine ldC h ?_; refine nn ?_; refine stC h ?_; clear h; (try clear w); intro w h; dsimp only [putN, setN] at h; refine dr h ?_; clear h; (try clear w); intro w h; refine nn ?_; refine ldC h ?_; refine nn ?_; refine ldC h ?_)
 rw [wr (by omega) (by omega)] at h ⊢
 have h := fr2_ h
 refine S_gTick h R.gt hwk hfl fun v sv sg' w hr hG h => ?_
 generalize gTick a.gt (a.now + 1) = g at *
 refine call_of (C_system_System_Revisions _) ?_
 unfold F_system_System_Revisions
 (refine nn ?_; refine ldC h ?_)
 refine S_bkAll h 6 rfl R.bk fun v2 s2 w r2 h => ⟨v2, rfl, ?_⟩
 have hnl : (bkAll a.bk).length < 1000000 := by unfold bkAll; rw [ssort_len, List.length_map]; exact hfb
 generalize bkAll a.bk = l at *
 have hln := Rw.len encS r2
 let EV : Seg := [Cl b1 T_api_Event [I e.kind, .string e.name, .string e.tag, I e.n, I e.draw, .string e.c.1, I e.c.2.1, I e.c.2.2.1, I e.c.2.2.2.1, I e.c.2.2.2.2.1, I e.c.2.2.2.2.2.1, .string e.r.name, .string e.r.cfg, SlV e.v, I e.r.roll]]
 refine loop_of (fun m y w => ∃ (j : Nat) (sg2 : Seg) (Q2 : List BsE), @Eq Int y.1 j ∧ m + j = l.length ∧ GtS p.g p.f g.1 sg2 ∧ Q2.map BsE.kp = Q.map BsE.kp ∧ (∀ x ∈ Q2, x.ok) ∧ Q2.map BsE.ka = (l.take j).foldl (tkStep g.1) a.by' ∧ (∀ x ∈ Q2, x.x.xs.length < 1000000000 + j) ∧
  St w0 (s2 :: sv :: sg2 :: EV :: sysC b p (a.now + 1) :: sf :: ss :: sk :: sr :: sm :: (Q2.map BsE.sg).flatten :: delN E i) w) l.length ⟨0, sg', Q, rfl, rfl, hG, rfl, R.ea, R.ab.symm, fun x hx => by have := hxs _ (by rw [R.ab]; exact List.mem_map_of_mem hx); simpa using this, h⟩ ?_
 clear h; (try clear w)
 rintro m ⟨y, ⟨⟩⟩ w ⟨j, sg2, Q2, hy, hm, hG2, ekp, ok2, eka, hx2, h⟩ again hag
 (try dsimp only)
 simp only at hy
 subst hy
 refine it (fun hb => ?_) (fun hb => ?_) <;> (try simp only [decide_eq_true_eq, decide_eq_false_iff_not, beq_iff_eq, bne_iff_ne, beq_eq_false_iff_ne, bne_eq_false_iff_eq, Bool.not_eq_true', Bool.not_eq_false', ne_eq, Bool.not_eq_true, Bool.not_eq_false] at hb)
 ·have hj : j < l.length := by omega
  have hx : l[j]? = some l[j] := List.getElem?_eq_getElem hj
  have hin : (mget (Q2.map BsE.ka) l[j]).isSome = true := by
   have h1 := hby l[j] (List.getElem_mem hj)
   rw [R.ab, bes_ka, Option.isSome_map] at h1
   have h2 : (mget (Q2.map BsE.kp) l[j]).isSome = true := by rw [ekp, bes_kp, Option.isSome_map]; exact h1
   rw [bes_kp, Option.isSome_map] at h2
   rw [bes_ka, Option.isSome_map]; exact h2
  have et : (l.take (j + 1)).foldl (tkStep g.1) a.by' = tkStep g.1 (Q2.map BsE.ka) l[j] := by rw [eka, List.take_succ, hx, List.foldl_append]; rfl
  generalize l[j] = rev at *
  have hm2 : MpS Value.string Value.pointer p.m (Q2.map BsE.kp) sm := by rw [ekp]; exact R.mp
  rw [bes_ka, Option.isSome_map] at hin
  obtain ⟨x, hfx⟩ := Option.isSome_iff_exists.1 hin
  have hmk := hm2.nd
  refine Rw.ix encS r2 (by omega) (by simpa using hj) fun ea ha => ?_
  refine Rw.ld0 encS h 0 rfl r2 ha (x := rev) (by simpa using hx) rfl rfl ?_
  (refine dr h ?_; clear h; (try clear w); intro w h; refine nn ?_; refine ldC h ?_)
  have hlk : ((mget (Q2.map BsE.kp) rev).map fun x : Option Addr => x).getD none = some ⟨x.b, 0, none⟩ := by rw [bes_kp, hfx]; rfl
  refine MpS.get mkStr und_by zptr (fun x : Option Addr => x) (fun _ => rfl) h 9 rfl hm2 ?_
  rw [hlk]
  obtain ⟨A, B, rfl, hxk⟩ := lfind_at hfx
  have h := fr10_ h
  have h := h.pick.split
  (refine nn ?_; refine ldC h ?_; refine nn ?_; refine ldC h ?_)
  have h := fr5_ h
  refine S_gBusy h hG2 fun sg3 w hG3 h => ?_
  (refine ckC h ?_)
  refine MpS.chk mkStr und_by (z := .pointer none) zptr h 12 rfl hm2 (by rw [bes_kp, hfx]; rfl) ?_
  (refine ckC h ?_)
  have hox := ok2 x (by simp)
  have hlx := hx2 x (by simp)
  refine S_gaAdd h 2 rfl hox (by omega) fun sgg w hga h => ?_
  dsimp only [setN] at h
  have hbu : ((gWait g.1 rev).length : Int) + (gWith g.1.all rev).length = busyB g.1 rev := rfl
  rw [hbu] at hga
  have h := fr2_ (fr2_ h)
  have h := h.glue
  have h := fr1_ (fr2_ h)
  have h : St w0 (BsE.sg ⟨x.k, x.b, x.g, ⟨x.x.xs ++ [if 0 > busyB g.1 rev then 0 else busyB g.1 rev], x.x.want, x.x.left⟩, sgg⟩ :: ((A ++ B).map BsE.sg).flatten :: sg3 :: s2 :: sv :: EV :: sysC b p (a.now + 1) :: sf :: ss :: sk :: sr :: sm :: delN E i) w := h
  have h := h.place
  have et2 := bes_turn (rev := rev) (y := ⟨x.x.xs ++ [if 0 > busyB g.1 rev then 0 else busyB g.1 rev], x.x.want, x.x.left⟩) (sgg := sgg) hxk (B := B) (A := A) (by simpa [List.map_map, Function.comp_def] using hmk)
  refine hag (m - 1) _ w (by omega) ⟨j + 1, sg3, A ++ ⟨x.k, x.b, x.g, ⟨x.x.xs ++ [if 0 > busyB g.1 rev then 0 else busyB g.1 rev], x.x.want, x.x.left⟩, sgg⟩ :: B, ?_, by omega, hG3, ?_, ?_, ?_, ?_, ?_⟩
  ·show IntKind.wrap .i64 _ = _
   rw [wr (by omega) (by omega)]; omega
  ·rw [← ekp]; simp
  ·intro y hy
   rcases List.mem_append.1 hy with hy | hy
   ·exact ok2 y (by simp [hy])
   ·rcases List.mem_cons.1 hy with rfl | hy
    ·exact hga
    ·exact ok2 y (by simp [hy])
  ·rw [et, et2]
   unfold tkStep
   rw [bes_ka, hfx]
   rfl
  ·intro y hy
   rcases List.mem_append.1 hy with hy | hy
   ·have := hx2 y (by simp [hy]); omega
   ·rcases List.mem_cons.1 hy with rfl | hy
    ·simp; omega
    ·have := hx2 y (by simp [hy]); omega
  ·have h := fr10_ (fr10_ (fr8_ (fr10_ (fr10_ (fr10_ (fr10_ (fr10_ (fr10_ (fr10_ h)))))))))
   exact h
 ·have ej : l.take j = l := List.take_of_length_le (by omega)
  rw [ej] at eka
  (refine nn ?_; refine ldC h ?_)
  refine nw h ?_; clear h; (try clear w); intro b29 w h
  refine lineI1 h (by decide) (by omega) (by omega) fun w h => ?_
  refine nw h ?_; clear h; (try clear w); intro b31 w h
  have h := fr1_ (fr2_ h)
  refine S_told h (l := [lineB s_tick [decD (a.now + 1).toNat]]) hr hf (by omega) (by simp) (Rw.lit b31 [_] encS rfl rfl (by simp [maxLen])) fun v s w r h => ?_
  refine ⟨v, rfl, hk v s _ w r ⟨p, sg2, sf, ss, sk, sr, sm, Q2, ⟨hG2, R.fl, R.sh, R.bk, R.ro, by rw [ekp]; exact R.mp, ok2, eka.symm⟩, rfl⟩ (sysBack i hi ?_)⟩
  have h := dl1_ (dl2_ (dl4_ h))
  have h := fr2_ (fr2_ (fr1_ h))
  exact h
end Go.Proofs.YtkebppklbobjcaaGreatDoor
namespace Go.Proofs.YtkebppklbobjcaaGreatDoor
open Go.Dm
theorem lk_of {P : Program} {r : RT} {s : Sem Value} {k : r.T → PT} {w : World} (x : r.T) (h : s.run P w = .ok (r.val x) w) (hk : k x w) : L.semR P r s k w := ⟨x, h, hk⟩
theorem callV_mono {P : Program} {fv : Value} {args : List Value} {r : RT} {k k' : r.T → PT} {w : World} (h : L.callV P fv args r k w) (hm : ∀ x w, k x w → k' x w) : L.callV P fv args r k' w := FCall.mono h fun _ _ ⟨x, e, hk⟩ => ⟨x, e, hm x _ hk⟩
attribute [local irreducible] L.load L.store L.chk L.new L.nonnil L.guard L.ite L.draw L.idx L.sem L.semR L.semU L.chkSem L.next L.call L.callV L.join L.alts L.loop L.begin L.endRound L.range
variable {w0 w : World} {E : List Seg}
def mV (b : Nat) (f : FuncId) : Value := .func (.func f) #[.pointer (some ⟨b, 0, none⟩)] #[]
def doM : List (Int × FuncId) := [(1, n_system_System_config), (2, n_system_System_route), (3, n_system_System_drop), (4, n_system_System_arrive), (5, n_system_System_done), (6, n_system_System_up), (7, n_system_System_down), (8, n_system_System_down), (9, n_system_System_tick), (10, n_system_System_stamp), (11, n_system_System_lead), (12, n_system_System_scale), (13, n_system_System_pods)]
theorem und_do : Pr.underlying T_map_int_func_api_Event_s_string = some (.map T_int T_func_api_Event_s_string) := by kernel_rfl
theorem zfun (w : World) : (zeroValue T_func_api_Event_s_string).run Pr w = .ok .nilFunc w := by
 have h : (Pr.info? T_func_api_Event_s_string).map (·.zero) = some (some .nilFunc) := by kernel_rfl
 cases hi : Pr.info? T_func_api_Event_s_string with
 | none => rw [hi] at h; cases h
 | some i => rw [hi] at h; simp only [Option.map_some, Option.some.injEq] at h; exact zv hi h w
theorem S_doBad (h : St w0 E w) {b : Nat} {e : AEv} (hb : chkEv e ≠ 0) (hn : e.kind = 12 ∨ e.kind = 13 → RevN e.name) (rd : RdE w0 E eT e.v e.r.ts) (hvc : e.v.len ≤ e.v.cap) (hrv : ∀ t ∈ e.r.ts, revOk t.1) {k : Sl → PT}
  (hk : ∀ v sv w', Rw eS T_string 1 v [lineB s_bad [errB (chkEv e)]] sv → St w0 (sv :: E) w' → k v w') : L.call Pr n_system_System_Do [.pointer (some ⟨b, 0, none⟩), evV e] (.one (.one .slice)) k w := by
 refine call_of (C_system_System_Do _ e.t) ?_
 unfold F_system_System_Do
 refine nw h ?_; clear h; (try clear w); intro b1 w h
 (dsimp only [setN, List.cons_append, List.nil_append] at h; refine laC h ?_)
 refine S_evCheck (e := e) h hn (fun w h => rd w (dl0_ h)) hvc hrv fun w h => ?_
 refine itT (by simpa using hb) ?_
 refine S_errno ?_
 refine nw h ?_; clear h; (try clear w); intro b5 w h
 have := errB_le (chkEv e)
 refine lineS1 h (by decide) (by omega) fun w h => ?_
 refine nw h ?_; clear h; (try clear w); intro b7 w h
 exact ⟨_, rfl, hk _ _ w (Rw.lit b7 [_] encS rfl rfl (by simp [maxLen])) (dl1_ h)⟩
theorem S_do (h : St w0 E w) {b : Nat} {e : AEv} (hb : chkEv e = 0) (hn : e.kind = 12 ∨ e.kind = 13 → RevN e.name) (rd : RdE w0 E eT e.v e.r.ts) (hvc : e.v.len ≤ e.v.cap) (hrv : ∀ t ∈ e.r.ts, revOk t.1) {f : FuncId} (hf : mget doM e.kind = some f) {k : Sl → PT}
  (hh : ∀ (s1 s2 : Seg) w', St w0 (s1 :: s2 :: E) w' → L.callV Pr (.func (.func f) #[.pointer (some ⟨b, 0, none⟩)] #[]) [evV e] (.one (.one .slice)) k w') : L.call Pr n_system_System_Do [.pointer (some ⟨b, 0, none⟩), evV e] (.one (.one .slice)) k w := by
 refine call_of (C_system_System_Do _ e.t) ?_
 unfold F_system_System_Do
 refine nw h ?_; clear h; (try clear w); intro b1 w h
 (dsimp only [setN, List.cons_append, List.nil_append] at h; refine laC h ?_)
 refine S_evCheck (e := e) h hn (fun w h => rd w (dl0_ h)) hvc hrv fun w h => ?_
 refine itF (by simpa using hb) ?_
 refine MpS.new h KI (mV b) fun r s w hm h => ?_
 refine MpS.set mkI und_do h 0 rfl hm n_system_System_config rfl fun s w hm h => ?_
 refine MpS.set mkI und_do h 0 rfl hm n_system_System_route rfl fun s w hm h => ?_
 refine MpS.set mkI und_do h 0 rfl hm n_system_System_drop rfl fun s w hm h => ?_
 refine MpS.set mkI und_do h 0 rfl hm n_system_System_arrive rfl fun s w hm h => ?_
 refine MpS.set mkI und_do h 0 rfl hm n_system_System_done rfl fun s w hm h => ?_
 refine MpS.set mkI und_do h 0 rfl hm n_system_System_up rfl fun s w hm h => ?_
 refine MpS.set mkI und_do h 0 rfl hm n_system_System_down rfl fun s w hm h => ?_
 refine MpS.set mkI und_do h 0 rfl hm n_system_System_down rfl fun s w hm h => ?_
 refine MpS.set mkI und_do h 0 rfl hm n_system_System_tick rfl fun s w hm h => ?_
 refine MpS.set mkI und_do h 0 rfl hm n_system_System_stamp rfl fun s w hm h => ?_
 refine MpS.set mkI und_do h 0 rfl hm n_system_System_lead rfl fun s w hm h => ?_
 refine MpS.set mkI und_do h 0 rfl hm n_system_System_scale rfl fun s w hm h => ?_
 refine MpS.set mkI und_do h 0 rfl hm n_system_System_pods rfl fun s w hm h => ?_
 have hm : MpS KI (mV b) r doM s := hm
 dsimp only [setN] at h
 (refine ldC h ?_)
 refine lk_of ⟨.func f, #[.pointer (some ⟨b, 0, none⟩)], #[]⟩ ?_ ?_
 ·rw [MpS.get_run mkI und_do (zfun w) h 0 rfl hm false, hf]; rfl
 (refine laC h ?_)
 exact callV_mono (hh s _ w h) fun x w hk => ⟨x, rfl, hk⟩
theorem S_doK (h : St w0 E w) (i : Nat) {b : Nat} {a : ASys} {s : Seg} (hi : nth E i = some s) (hs : SysS b a s) {e : AEv} (hb : chkEv e = 0) (hn : e.kind = 12 ∨ e.kind = 13 → RevN e.name) (rd : RdE w0 E eT e.v e.r.ts) (hvc : e.v.len ≤ e.v.cap) (hrv : ∀ t ∈ e.r.ts, revOk t.1)
  {f : FuncId} (hf : mget doM e.kind = some f) {r : ASys × List ByteArray} {F : (Value → PT) → PT} (hE : Enters Pr f) (hC : ∀ {K : Value → PT} {w : World}, F K w → Calls Pr f (#[.pointer (some ⟨b, 0, none⟩)] ++ [evV e].toArray ++ #[]) w fun e w' => ∃ v, e = .returned v ∧ K v w')
  (hh : ∀ {E2 : List Seg} {i2 : Nat} {w : World} {k : Sl → PT}, St w0 E2 w → nth E2 i2 = some s → (∀ w, St w0 (delN E2 i2) w → St w0 (delN E i) w) → Hk w0 E2 i2 b r k → F (slK k) w) {k : Sl → PT} (hk : Hk w0 E i b r k) :
  L.call Pr n_system_System_Do [.pointer (some ⟨b, 0, none⟩), evV e] (.one (.one .slice)) k w := by
 refine S_do h hb hn rd hvc hrv hf fun s1 s2 w h => ?_
 refine callV_of (F := F) hE hC ?_
 exact hh (E2 := s1 :: s2 :: E) (i2 := i + 2) h hi (fun w h => dl0_ (dl0_ h)) fun v sv s' w' r hs h => hk v sv s' w' r hs (dl1_ (dl1_ h))
end Go.Proofs.YtkebppklbobjcaaGreatDoor
namespace Go.Proofs.YtkebppklbobjcaaGreatDoor
open Go.Dm
attribute [local irreducible] L.load L.store L.chk L.new L.nonnil L.guard L.ite L.draw L.idx L.sem L.semR L.semU L.chkSem L.next L.call L.callV L.join L.alts L.loop L.begin L.endRound L.range
variable {w0 w : World} {E : List Seg}
def newSys (room line pat : Int) : ASys := ⟨⟨[], [], 0⟩, ⟨[], []⟩, [], ⟨room, 0, []⟩, ⟨[], [], line, pat⟩, [], 0⟩
theorem S_sysWithin {n a b : Int} {k : Bool → PT} (hk : k (wiB n a b) w) : L.call Pr n_system_within_int [I n, I a, I b] (.one (.one .bool)) k w := by
 refine call_of (C_system_within_int n a b) ?_
 unfold F_system_within_int
 unfold wiB at hk
 refine it (fun h1 => ?_) (fun h1 => ?_)
 ·have h1 : decide (a ≤ n) = true := h1
  rw [h1] at hk
  exact ⟨_, rfl, hk⟩
 ·have h1 : decide (a ≤ n) = false := h1
  rw [h1] at hk
  exact ⟨_, rfl, hk⟩
def newOk (room line pat : Int) : Bool := wiB room 1 30 && (wiB line 0 8 && wiB pat 1 50)
theorem S_sysNew (h : St w0 E w) {room line pat : Int} {k : Option Addr × Int × Unit → PT} (h0 : newOk room line pat = false → ∀ w', St w0 E w' → k (none, 2, ()) w')
  (h1 : newOk room line pat = true → ∀ b s w', SysS b (newSys room line pat) s → St w0 (s :: E) w' → k (some ⟨b, 0, none⟩, 0, ()) w') : L.call Pr n_system_New [I room, I line, I pat] (.tup [.one .ptr, .one (.int .i64)]) k w := by
 refine call_of (C_system_New _ _ _) ?_
 unfold F_system_New
 unfold newOk at h0 h1
 refine S_sysWithin ?_
 cases c1 : wiB room 1 30 with
 | false => exact itT rfl ⟨(none, 2, ()), rfl, h0 (by rw [c1]; rfl) w h⟩
 | true =>
 refine itF rfl ?_
 refine S_sysWithin ?_
 cases c2 : wiB line 0 8 with
 | false => exact itT rfl ⟨(none, 2, ()), rfl, h0 (by rw [c1, c2]; rfl) w h⟩
 | true =>
 refine itF rfl ?_
 refine S_sysWithin ?_
 cases c3 : wiB pat 1 50 with
 | false => exact itT rfl ⟨(none, 2, ()), rfl, h0 (by rw [c1, c2, c3]; rfl) w h⟩
 | true =>
 refine itF rfl ?_
 have hl : 0 ≤ line ∧ line ≤ 8 := by unfold wiB at c2; simpa using c2
 refine S_fNew h fun bf sf w hF h => ?_
 refine S_shNew h fun bs ss w hS h => ?_
 refine S_bkNew h fun bk sk w hK h => ?_
 refine S_roNew h fun br sr w hR h => ?_
 refine S_gNew h (bf := bf) hl.1 (by omega) fun bg sg w hG h => ?_
 refine MpS.new h Value.string Value.pointer fun r sm w hm h => ?_
 refine nw h ?_; clear h; (try clear w); intro b w h
 have h : St w0 (sysC b ⟨bs, bk, br, bf, bg, r⟩ 0 :: sm :: sg :: sr :: sk :: ss :: sf :: E) w := h
 refine ⟨(some ⟨b, 0, none⟩, 0, ()), rfl, h1 (by rw [c1, c2, c3]; rfl) b _ w ⟨⟨bs, bk, br, bf, bg, r⟩, sg, sf, ss, sk, sr, sm, [], ⟨hG, hF, hS, hK, hR, hm, by simp, rfl⟩, rfl⟩ ?_⟩
 have h := fr6_ (fr6_ (fr6_ (fr5_ (fr4_ (fr3_ (fr1_ h))))))
 have h : St w0 (sysC b ⟨bs, bk, br, bf, bg, r⟩ 0 :: sg :: sf :: ss :: sk :: sr :: sm :: (([] : List BsE).map BsE.sg).flatten :: E) w := h.eq (by simp)
 exact h.glue8
theorem S_sysNow (h : St w0 E w) (i : Nat) {b : Nat} {a : ASys} {s : Seg} (hi : nth E i = some s) (hs : SysS b a s) {k : Int → PT} (hk : k a.now w) : L.call Pr n_system_System_Now [.pointer (some ⟨b, 0, none⟩)] (.one (.one (.int .i64))) k w := by
 obtain ⟨p, sg, sf, ss, sk, sr, sm, Q, R, rfl⟩ := hs
 refine call_of (C_system_System_Now _) ?_
 unfold F_system_System_Now
 have h := (h.front i hi).split8
 (refine nn ?_; refine ldC h ?_)
 exact ⟨_, rfl, hk⟩
theorem S_within15 {p0 p1 : Int} (h : 0 < p1) (hp : p1 ≤ 2147483648) {k : Int → PT} (hk : k (p0 % p1) w) : L.call Pr n_damperlaw15_within [I p0, I p1] (.one (.one (.int .i64))) k w := by
 refine call_of (C_damperlaw15_within p0 p1) ?_
 unfold F_damperlaw15_within
 refine gd (by omega) ?_
 have h1 := Int.emod_nonneg p0 (by omega : p1 ≠ 0)
 have h2 := Int.emod_lt_of_pos p0 h
 have e := tmod_within p0 p1 h
 refine join_of (fun z w' => z.1 = p0 % p1 ∧ w' = w) (fun k' hk' => ?_) (fun y w' ⟨h1, h2⟩ => by subst h2; exact ⟨_, rfl, by rw [h1]; exact hk⟩)
 refine it (fun hb => ?_) (fun hb => ?_) <;> (try simp only [decide_eq_true_eq, decide_eq_false_iff_not, beq_iff_eq, bne_iff_ne, beq_eq_false_iff_ne, bne_eq_false_iff_eq, Bool.not_eq_true', Bool.not_eq_false', ne_eq, Bool.not_eq_true, Bool.not_eq_false] at hb)
 ·refine hk' _ _ ⟨?_, rfl⟩
  rw [e] at hb
  dsimp only
  rw [e]
  split at hb <;> rename_i hc
  ·omega
  ·rw [if_neg hc, wr] <;> omega
 ·refine hk' _ _ ⟨?_, rfl⟩
  rw [e] at hb
  dsimp only
  rw [e]
  split at hb <;> rename_i hc
  ·rw [if_pos hc]
  ·omega
def noRt15 : ARt := ⟨s_, s_, [], 0⟩
abbrev noSl : Sl := ⟨none, 0, 0⟩
theorem S_doTick [bTab w0] (h : St w0 E w) (i : Nat) {b : Nat} {a : ASys} {s : Seg} (hi : nth E i = some s) (hs : SysS b a s) {e : AEv} (hkd : e.kind = 9) (hb : chkEv e = 0) (rd : RdE w0 E eT e.v e.r.ts) (hvc : e.v.len ≤ e.v.cap) (hrv : ∀ t ∈ e.r.ts, revOk t.1)
  (hnow : 0 ≤ a.now) (hwk : GWk a.gt) (hfl : (tkG a).2.length < 90000000) (hf : ∀ f ∈ (tkG a).2, f.Ok)
  (hby : ∀ rev ∈ bkAll a.bk, (mget a.by' rev).isSome = true) (hxs : ∀ x ∈ a.by', x.2.xs.length < 1000000000) (hfb : a.bk.all.length < 1000000) {k : Sl → PT} (hk : Hk w0 E i b (sysTick a) k) :
  L.call Pr n_system_System_Do [.pointer (some ⟨b, 0, none⟩), evV e] (.one (.one .slice)) k w :=
 S_doK h i hi hs hb (fun hh => by omega) rd hvc hrv (f := n_system_System_tick) (by rw [hkd]; rfl) E_system_System_tick (C_system_System_tick (some ⟨b, 0, none⟩) e.t)
  (fun h hi _ hk => S_sysTick h _ hi hs hnow hwk hfl hf hby hxs hfb hk) hk
abbrev evT0 (kind : Int) : AEv := ⟨kind, s_, s_, 0, 0, noCfg, noRt15, noSl⟩
theorem chk0 : chkEv (evT0 0) = 12 := by decide
theorem chk9 : chkEv (evT0 9) = 0 := by decide +kernel
theorem tick_new : (tkG (newSys 3 2 5)).2 = [] := by decide +kernel
theorem gwk_new : GWk (newSys 3 2 5).gt := fun x hx => by cases hx
theorem S_known15 [bTab w0] (h : St w0 E w) {k : Bool → PT} (hk : ∀ w', St w0 E w' → k true w') : L.call Pr n_damperlaw15_known [] (.one (.one .bool)) k w := by
 refine call_of C_damperlaw15_known ?_
 unfold F_damperlaw15_known
 refine S_sysNew h (fun hh => absurd hh (by decide)) fun _ b s w hs h => ?_
 refine itF rfl (itF rfl ?_)
 refine S_doBad (e := evT0 0) h (by rw [chk0]; decide) (fun hh => by rcases hh with hh | hh <;> cases hh) (fun _ _ => Rd.nil) (by decide) (by simp [noRt15]) fun v2 s2 w r2 h => ?_
 refine S_doTick h 1 rfl hs (e := evT0 9) rfl chk9 (fun _ _ => Rd.nil) (by decide) (by simp [noRt15]) (by decide) gwk_new (by rw [tick_new]; decide) (by rw [tick_new]; simp) (by simp [newSys, bkAll, ssort_nil]) (by simp [newSys]) (by decide) fun v3 s3 s' w r3 hs h => ?_
 have e2 : [lineB s_bad [errB (chkEv (evT0 0))]] = [s_bad_kind] := by decide +kernel
 have e3 : (sysTick (newSys 3 2 5)).2 = [s_tick_1] := by decide +kernel
 have e4 : (sysTick (newSys 3 2 5)).1.now = 1 := by decide +kernel
 rw [e2] at r2
 rw [e3] at r3
 have l2 := Rw.len encS r2
 have l3 := Rw.len encS r3
 refine itT (by rw [l2]; rfl) ?_
 refine Rw.ix encS r2 (by decide) (by decide) fun a ha => ?_
 refine Rw.ld0 encS h 1 rfl r2 ha (x := s_bad_kind) rfl rfl rfl ?_
 refine itT (by rw [str_eq]; decide) ?_
 refine itT (by rw [l3]; rfl) ?_
 refine Rw.ix encS r3 (by decide) (by decide) fun a ha => ?_
 refine Rw.ld0 encS h 0 rfl r3 ha (x := s_tick_1) rfl rfl rfl ?_
 refine itT (by rw [str_eq]; decide) ?_
 refine S_sysNow h 2 rfl hs ?_
 rw [e4]
 exact ⟨true, rfl, hk w (dl0_ (dl0_ (dl0_ h)))⟩
theorem S_doConfig [bTab w0] (h : St w0 E w) (i : Nat) {b : Nat} {a : ASys} {s : Seg} (hi : nth E i = some s) (hs : SysS b a s) {e : AEv} (hkd : e.kind = 1) (hb : chkEv e = 0) (rd : RdE w0 E eT e.v e.r.ts) (hvc : e.v.len ≤ e.v.cap) (hrv : ∀ t ∈ e.r.ts, revOk t.1)
  (hn : a.sh.n < 900000000) (hsz : e.c.1.size ≤ 1000000) {k : Sl → PT} (hk : Hk w0 E i b (sysConfig a e) k) : L.call Pr n_system_System_Do [.pointer (some ⟨b, 0, none⟩), evV e] (.one (.one .slice)) k w :=
 S_doK h i hi hs hb (fun hh => by omega) rd hvc hrv (f := n_system_System_config) (by rw [hkd]; rfl) E_system_System_config (C_system_System_config (some ⟨b, 0, none⟩) e.t) (fun h hi _ hk => S_sysConfig h _ hi hs hn hsz hk) hk
theorem S_doRoute [bTab w0] (h : St w0 E w) (i : Nat) {b : Nat} {a : ASys} {s : Seg} (hi : nth E i = some s) (hs : SysS b a s) {e : AEv} (hkd : e.kind = 2) (hb : chkEv e = 0) (rd : RdE w0 (delN E i) eT e.v e.r.ts) (hvc : e.v.len ≤ e.v.cap) (h0 : e.v.a = none → e.r.ts = []) (hrv : ∀ t ∈ e.r.ts, revOk t.1)
  (hn : a.sh.n < 900000000) (hsz : e.r.name.size ≤ 1000000) (hfew : a.sh.Few) {k : Sl → PT} (hk : Hk w0 E i b (sysRoute a e) k) : L.call Pr n_system_System_Do [.pointer (some ⟨b, 0, none⟩), evV e] (.one (.one .slice)) k w :=
 S_doK h i hi hs hb (fun hh => by omega) (fun w h => rd w (h.del i hi)) hvc hrv (f := n_system_System_route) (by rw [hkd]; rfl) E_system_System_route (C_system_System_route (some ⟨b, 0, none⟩) e.t) (fun h hi hd hk => S_sysRoute h _ hi hs hn hsz hfew (fun w h => rd w (hd w h)) hvc h0 hrv hk) hk
theorem S_doStamp [bTab w0] (h : St w0 E w) (i : Nat) {b : Nat} {a : ASys} {s : Seg} (hi : nth E i = some s) (hs : SysS b a s) {e : AEv} (hkd : e.kind = 10) (hb : chkEv e = 0) (rd : RdE w0 E eT e.v e.r.ts) (hvc : e.v.len ≤ e.v.cap) (hrv : ∀ t ∈ e.r.ts, revOk t.1)
  (hst : (shCfg a.sh e.name).2.2.2.1 = true → shortB (shCfg a.sh e.name).1.1.data.toList 16 = true ∧ 1 ≤ @id Int (shCfg a.sh e.name).2.2.1 ∧ @id Int (shCfg a.sh e.name).2.2.1 < 100 ∧ @id Int (shCfg a.sh e.name).1.2.2.2.1 ≤ 1000000) (hf : a.bk.all.length < 999999)
  {k : Sl → PT} (hk : Hk w0 E i b (sysStamp a e) k) : L.call Pr n_system_System_Do [.pointer (some ⟨b, 0, none⟩), evV e] (.one (.one .slice)) k w :=
 S_doK h i hi hs hb (fun hh => by omega) rd hvc hrv (f := n_system_System_stamp) (by rw [hkd]; rfl) E_system_System_stamp (C_system_System_stamp (some ⟨b, 0, none⟩) e.t) (fun h hi _ hk => S_sysStamp h _ hi hs hst hf hk) hk
theorem S_doUp [bTab w0] (h : St w0 E w) (i : Nat) {b : Nat} {a : ASys} {s : Seg} (hi : nth E i = some s) (hs : SysS b a s) {e : AEv} (hkd : e.kind = 6) (hb : chkEv e = 0) (rd : RdE w0 E eT e.v e.r.ts) (hvc : e.v.len ≤ e.v.cap) (hrv' : ∀ t ∈ e.r.ts, revOk t.1)
  (he : 0 ≤ e.n ∧ e.n ≤ 9000000000000000000) (hrv : (fOf (fUpp a.fl e.n).1.l e.n).size ≤ 1000000) (hfew : FFew (fUpp a.fl e.n).1) (hn : a.gt.all.length < 80000000) (hl : a.gt.lines.length < 90000000)
  (hf : ∀ f ∈ (upFlow a e).2.2, f.Ok) (hfl : (upFlow a e).2.2.length < 100000000) {k : Sl → PT} (hk : Hk w0 E i b (sysUp a e) k) : L.call Pr n_system_System_Do [.pointer (some ⟨b, 0, none⟩), evV e] (.one (.one .slice)) k w :=
 S_doK h i hi hs hb (fun hh => by omega) rd hvc hrv' (f := n_system_System_up) (by rw [hkd]; rfl) E_system_System_up (C_system_System_up (some ⟨b, 0, none⟩) e.t) (fun h hi _ hk => S_sysUp h _ hi hs he hrv hfew hn hl hf hfl hk) hk
theorem S_doLead [bTab w0] (h : St w0 E w) (i : Nat) {b : Nat} {a : ASys} {s : Seg} (hi : nth E i = some s) (hs : SysS b a s) {e : AEv} (hkd : e.kind = 11) (hb : chkEv e = 0) (rd : RdE w0 E eT e.v e.r.ts) (hvc : e.v.len ≤ e.v.cap) (hrv : ∀ t ∈ e.r.ts, revOk t.1)
  (hfew : a.sh.Few) (hname : e.name.size ≤ 100000) (hp : ∀ t ∈ (shRt a.sh e.name).1.ts, 0 ≤ pct t ∧ pct t ≤ 1000) (hl : (shRt a.sh e.name).1.ts.length ≤ 1000)
  (hroll : (shRt a.sh e.name).1.roll ≤ 1000000) (hok : ∀ x, mget a.ro e.name = some x → x.Ok) (hsi : ∀ x, mget a.ro e.name = some x → 0 ≤ x.since ∧ x.since < 1000000000) (hnow : 0 ≤ a.now ∧ a.now < 1000000000) (hwb : WBd (ldTab a e.name).1.sh) (hln : (ldNow a e.name).sh.length < 100000) (htb : TabB (ldNow a e.name))
  {k : Sl → PT} (hk : Hk w0 E i b (sysLead a e) k) : L.call Pr n_system_System_Do [.pointer (some ⟨b, 0, none⟩), evV e] (.one (.one .slice)) k w :=
 S_doK h i hi hs hb (fun hh => by omega) rd hvc hrv (f := n_system_System_lead) (by rw [hkd]; rfl) E_system_System_lead (C_system_System_lead (some ⟨b, 0, none⟩) e.t) (fun h hi _ hk => S_sysLead h _ hi hs hfew hname hp hl hroll hok hsi hnow hwb hln htb hk) hk
theorem S_doPods [bTab w0] (h : St w0 E w) (i : Nat) {b : Nat} {a : ASys} {s : Seg} (hi : nth E i = some s) (hs : SysS b a s) {e : AEv} (hkd : e.kind = 13) (hnm : RevN e.name) (hb : chkEv e = 0) (rd : RdE w0 E eT e.v e.r.ts) (hvc : e.v.len ≤ e.v.cap) (hrv : ∀ t ∈ e.r.ts, revOk t.1)
  (hroom : a.fl.room < 1000000) (hlast : a.fl.last + a.fl.room < 4611686018427387904) (hname : e.name.size ≤ 100000)
  (hmade : ∀ x ∈ fMade a.fl e.name (pdWant a e.name), 0 ≤ x ∧ x ≤ 9000000000000000000) (hmn : (fMade a.fl e.name (pdWant a e.name)).length < 100000) (hgone : ∀ x ∈ (fScale a.fl e.name (pdConc a e.name) (pdWant a e.name)).2, 0 ≤ x ∧ x ≤ 9000000000000000000) (hgn : (fScale a.fl e.name (pdConc a e.name) (pdWant a e.name)).2.length < 100000)
  (hpn : (fPods (pdFl a e.name).l e.name).length < 1000000) {k : Sl → PT} (hk : Hk w0 E i b (sysPods a e) k) : L.call Pr n_system_System_Do [.pointer (some ⟨b, 0, none⟩), evV e] (.one (.one .slice)) k w :=
 S_doK h i hi hs hb (fun _ => hnm) rd hvc hrv (f := n_system_System_pods) (by rw [hkd]; rfl) E_system_System_pods (C_system_System_pods (some ⟨b, 0, none⟩) e.t) (fun h hi _ hk => S_sysPods h _ hi hs hroom hlast hname hmade hmn hgone hgn hpn hk) hk
end Go.Proofs.YtkebppklbobjcaaGreatDoor
namespace Go.Proofs.YtkebppklbobjcaaGreatDoor
open Go.Dm
abbrev idB (x : Int) : Prop := 0 ≤ x ∧ x ≤ 2147483647
structure FlI (k : Nat) (F : AFleet) : Prop where
 few : FFew F
 r1 : 1 ≤ F.room
 last : F.last ≤ 20 * (k : Int)
 rev : ∀ x ∈ F.l, RevN x.rev
 req : ∀ x ∈ F.l, ∀ q ∈ x.pod.reqs, idB q
theorem FlI.mono {k m : Nat} {F : AFleet} (h : FlI k F) (hm : k ≤ m) : FlI m F := ⟨h.few, h.r1, by have := h.last; omega, h.rev, h.req⟩
theorem FlI.upd {k : Nat} {F : AFleet} (h : FlI k F) {id : Int} {g : APod → APod} (hf : FFew { F with l := fUpd F.l id g }) (hg : ∀ x ∈ F.l, x.id = id → ∀ q ∈ (g x.pod).reqs, idB q) : FlI k { F with l := fUpd F.l id g } :=
 ⟨hf, h.r1, h.last, fun y hy => by
  rcases fUpd_mem hy with hy | ⟨x, hx, _, rfl⟩
  ·exact h.rev y hy
  ·exact h.rev x hx, fun y hy => by
  rcases fUpd_mem hy with hy | ⟨x, hx, hid, rfl⟩
  ·exact h.req y hy
  ·exact hg x hx hid⟩
theorem podTake_mem {p : APod} {q z : Int} (h : z ∈ (podTake p q).1.reqs) : z ∈ p.reqs ∨ z = q := by
 unfold podTake at h
 split at h
 ·exact .inl h
 ·split at h
  ·exact .inl h
  ·split at h
   ·exact .inl h
   ·rcases List.mem_cons.1 ((insI_perm q p.reqs).mem_iff.1 h) with e | e
    ·exact .inr e
    ·exact .inl e
theorem podKill_mem {p : APod} {z : Int} (h : z ∈ (podKill p).1.reqs) : z ∈ p.reqs := by
 unfold podKill at h
 split at h
 ·exact h
 ·cases h
theorem podUp_rq (p : APod) : (podUp p).1.reqs = p.reqs := by unfold podUp; split <;> rfl
theorem podDrain_rq (p : APod) : (podDrain p).1.reqs = p.reqs := by unfold podDrain; split <;> rfl
theorem FlI.take {k : Nat} {F : AFleet} (h : FlI k F) (rev : ByteArray) {q : Int} (hq : idB q) : FlI k (fTake F rev q).1 := by
 have hf := h.few.take rev q
 unfold fTake at hf ⊢
 split
 ·exact h
 ·rename_i h1
  rw [if_neg h1] at hf
  split
  ·exact h
  ·rename_i x hx
   rw [hx] at hf
   exact h.upd hf fun y hy _ z hz => by
    rcases podTake_mem hz with e | rfl
    ·exact h.req y hy z e
    ·exact hq
theorem FlI.kill {k : Nat} {F : AFleet} (h : FlI k F) (id : Int) : FlI k (fKill F id).1 := by
 have hf := h.few.kill id
 unfold fKill at hf ⊢
 split
 ·exact h
 ·rename_i x hx
  rw [hx] at hf
  exact h.upd hf fun y hy _ z hz => h.req y hy z (podKill_mem hz)
theorem FlI.up {k : Nat} {F : AFleet} (h : FlI k F) (id : Int) : FlI k (fUpp F id).1 := by
 have hf := h.few.up id
 unfold fUpp
 split
 ·exact h
 ·exact h.upd hf fun y hy _ z hz => h.req y hy z (by rwa [podUp_rq] at hz)
theorem FlI.drain {k : Nat} {F : AFleet} (h : FlI k F) (rev : ByteArray) : FlI k (drain1 rev F) :=
 h.upd (h.few.drain rev) fun y hy _ z hz => h.req y hy z (by rwa [podDrain_rq] at hz)
theorem FlI.shrink (rev : ByteArray) : ∀ (n : Nat) {k : Nat} {F : AFleet}, FlI k F → FlI k (YtkebppklbobjcaaGreatDoor.shrink rev n F).1
 | 0, _, _, h => h
 | n + 1, _, _, h => FlI.shrink rev n (h.drain rev)
theorem grow_mem {rev : ByteArray} {conc : Int} : ∀ (n : Nat) {F : AFleet} {x : AHeld}, x ∈ (grow rev conc n F).l → x ∈ F.l ∨ (x.rev = rev ∧ x.pod = ⟨1, conc, []⟩)
 | 0, _, _, h => .inl h
 | n + 1, F, x, h => by
  unfold grow grow1 at h
  rcases List.mem_append.1 h with h | h
  ·exact grow_mem n h
  ·rw [List.mem_singleton] at h
   subst h
   exact .inr ⟨rfl, rfl⟩
theorem growN_le (F : AFleet) (rev : ByteArray) (want : Int) : (growN F rev want : Int) ≤ max 0 (F.room - F.l.length) := by rw [growN_eq]; omega
theorem FlI.scale {k : Nat} {F : AFleet} (h : FlI k F) {rev : ByteArray} (hr : RevN rev) {conc : Int} (hc : conc ≤ 1000) (want : Int) : FlI (k + 1) (fScale F rev conc want).1 := by
 have hl := h.few.l
 have hr20 := h.few.r
 unfold podsMost at hr20
 have hn := growN_le F rev want
 have hg : FlI (k + 1) (fGrown F rev conc want) := by
  refine ⟨FFew.grow rev hc _ h.few (by omega), ?_, ?_, fun x hx => ?_, fun x hx q hq => ?_⟩
  ·unfold fGrown; rw [grow_room]; exact h.r1
  ·unfold fGrown; rw [grow_last]; have := h.last; omega
  ·rcases grow_mem _ hx with hx | ⟨e, -⟩
   ·exact h.rev x hx
   ·rw [e]; exact hr
  ·rcases grow_mem _ hx with hx | ⟨-, e⟩
   ·exact h.req x hx q hq
   ·rw [e] at hq; cases hq
 exact hg.shrink rev _
theorem take_pod {F : AFleet} (ok : F.Ok) (rev : ByteArray) (q : Int) : 0 ≤ (fTake F rev q).2.1 ∧ (fTake F rev q).2.1 ≤ F.last := by
 have := ok.lo
 unfold fTake
 split
 ·exact ⟨Int.le_refl 0, this⟩
 ·split
  ·exact ⟨Int.le_refl 0, this⟩
  ·rename_i x hx
   have := ok.rng x (pick_mem hx).1
   dsimp only; omega
theorem take_last (F : AFleet) (rev : ByteArray) (q : Int) : (fTake F rev q).1.last = F.last := by
 unfold fTake
 split
 ·rfl
 ·split <;> rfl
theorem flowA_fates {rev : ByteArray} : ∀ {l : List (Int × Int)} {F : AFleet} {all : Alls} {out : List Fate}, F.Ok → F.last ≤ 9000000000000000000 → (∀ x ∈ l, idB x.1) → (∀ f ∈ out, f.Ok) → ∀ f ∈ (flowA rev l F all out).2.2.2, f.Ok
 | [], _, _, _, _, _, _, h => h
 | x :: l, F, all, out, ok, hl, hx, h => by
  unfold flowA
  split
  ·have tp := take_pod ok rev x.1
   have hx1 := hx x (by simp)
   refine flowA_fates (fTake_ok ok rev x.1) (by rw [take_last]; exact hl) (fun y hy => hx y (by simp [hy])) fun f hf => ?_
   rcases List.mem_append.1 hf with hf | hf
   ·exact h f hf
   ·rw [List.mem_singleton] at hf
    subst hf
    exact ⟨⟨hx1.1, Int.le_trans hx1.2 (by decide)⟩, ⟨tp.1, Int.le_trans tp.2 hl⟩, by show s_.size ≤ 1000; decide⟩
  ·exact h
theorem flowA_fl {k : Nat} {rev : ByteArray} : ∀ {l : List (Int × Int)} {F : AFleet} {all : Alls} {out : List Fate}, FlI k F → (∀ x ∈ l, idB x.1) → FlI k (flowA rev l F all out).1
 | [], _, _, _, h, _ => h
 | x :: l, F, all, out, h, hx => by
  unfold flowA
  split
  ·exact flowA_fl (h.take rev (hx x (by simp))) fun y hy => hx y (by simp [hy])
  ·exact h
theorem flowA_line {rev : ByteArray} : ∀ {l : List (Int × Int)} {F : AFleet} {all : Alls} {out : List Fate}, ∀ y ∈ (flowA rev l F all out).2.2.1, y ∈ l
 | [], _, _, _, y, h => by cases h
 | x :: l, F, all, out, y, h => by
  unfold flowA at h
  split at h
  ·exact List.mem_cons_of_mem _ (flowA_line y h)
  ·exact h
theorem flowA_all {rev : ByteArray} : ∀ {l : List (Int × Int)} {F : AFleet} {all : Alls} {out : List Fate}, (∀ x ∈ all, idB x.1) → (∀ x ∈ l, idB x.1) → ∀ x ∈ (flowA rev l F all out).2.1, idB x.1
 | [], _, _, _, h, _ => h
 | x :: l, F, all, out, h, hx => by
  unfold flowA
  split
  ·refine flowA_all (fun y hy => ?_) fun y hy => hx y (by simp [hy])
   rcases mset_mem hy with rfl | hy
   ·exact hx x (by simp)
   ·exact h y hy
  ·exact h
theorem mset_some {κ υ : Type} [DecidableEq κ] (m : List (κ × υ)) (a b : κ) (u : υ) (h : (mget m b).isSome = true) : (mget (mset m a u) b).isSome = true := by
 rw [mget_mset]; split
 ·rfl
 ·exact h
theorem flowA_seen {rev : ByteArray} {q : Int} : ∀ {l : List (Int × Int)} {F : AFleet} {all : Alls} {out : List Fate}, (mget all q).isSome = true → (mget (flowA rev l F all out).2.1 q).isSome = true
 | [], _, _, _, h => h
 | x :: l, F, all, out, h => by
  unfold flowA
  split
  ·exact flowA_seen (mset_some _ _ _ _ h)
  ·exact h
structure GtI (k : Nat) (G : AGate) : Prop where
 all : G.all.length ≤ 2000 * k
 ids : ∀ x ∈ G.all, idB x.1
 lines : G.lines.length ≤ k
 lid : ∀ x ∈ G.lines, ∀ y ∈ x.2, idB y.1
 wk : GWk G
 pat : 1 ≤ G.pat ∧ G.pat ≤ 1000
 room : 0 ≤ G.room ∧ G.room ≤ 8
theorem GtI.mono {k m : Nat} {G : AGate} (h : GtI k G) (hm : k ≤ m) : GtI m G := ⟨by have := h.all; omega, h.ids, by have := h.lines; omega, h.lid, h.wk, h.pat, h.room⟩
theorem GtI.line {k : Nat} {G : AGate} (h : GtI k G) (rev : ByteArray) : ∀ y ∈ lineOf G.lines rev, idB y.1 := fun y hy => by
 unfold lineOf at hy
 cases hg : mget G.lines rev with
 | none => rw [hg] at hy; cases hy
 | some l => rw [hg] at hy; exact h.lid _ (mget_mem hg) y hy
theorem GtI.turn {k m : Nat} {G : AGate} (h : GtI k G) {all : Alls} {rev : ByteArray} {l : List (Int × Int)} (hm : k + 1 ≤ m) (hl : all.length ≤ 2000 * m) (hi : ∀ x ∈ all, idB x.1) (hs : ∀ q, (mget G.all q).isSome = true → (mget all q).isSome = true)
  (h1 : ∀ y ∈ l, idB y.1) (h2 : ∀ y ∈ l, (mget all y.1).isSome = true) : GtI m { G with all := all, lines := mset G.lines rev l } := by
 have := h.lines
 have := mset_le' G.lines rev l
 refine ⟨hl, hi, by dsimp only; omega, fun x hx y hy => ?_, fun x hx y hy => ?_, h.pat, h.room⟩
 ·rcases mset_mem hx with rfl | hx
  ·exact h1 y hy
  ·exact h.lid x hx y hy
 ·rcases mset_mem hx with rfl | hx
  ·exact h2 y hy
  ·exact hs _ (h.wk x hx y hy)
theorem GtI.req {k m : Nat} {G : AGate} (h : GtI k G) {all : Alls} (hm : k ≤ m) (hl : all.length ≤ 2000 * m) (hi : ∀ x ∈ all, idB x.1) (hs : ∀ q, (mget G.all q).isSome = true → (mget all q).isSome = true) : GtI m { G with all := all } :=
 ⟨hl, hi, by have := h.lines; dsimp only; omega, h.lid, fun x hx y hy => hs _ (h.wk x hx y hy), h.pat, h.room⟩
theorem mset_ids {all : Alls} {id : Int} {x : ByteArray × Int} (h : ∀ x ∈ all, idB x.1) (hi : idB id) : ∀ y ∈ mset all id x, idB y.1 := fun y hy => by
 rcases mset_mem hy with rfl | hy
 ·exact hi
 ·exact h y hy
theorem gFlow_inv {k : Nat} {F : AFleet} {G : AGate} (ok : G.Ok) (hF : FlI k F) (hG : GtI k G) (rev : ByteArray) : FlI k (gFlow F G rev).1 ∧ GtI (k + 1) (gFlow F G rev).2.1 := by
 have hl := flowA_len (rev := rev) (l := lineOf G.lines rev) (F := F) (all := G.all) (out := [])
 have hn := lineOf_len ok rev
 have := hG.all
 have := hG.room
 refine ⟨flowA_fl hF (hG.line rev), hG.turn (Nat.le_refl _) (by omega) (flowA_all hG.ids (hG.line rev)) (fun q => flowA_seen) (fun y hy => hG.line rev y (flowA_line y hy)) fun y hy => ?_⟩
 exact flowA_seen (hG.wk.line rev y (flowA_line y hy))
theorem gFlow_fates {k : Nat} {F : AFleet} {G : AGate} (hk : k ≤ 100000) (ok : F.Ok) (hF : FlI k F) (hG : GtI k G) (rev : ByteArray) : ∀ f ∈ (gFlow F G rev).2.2, f.Ok :=
 flowA_fates ok (by have := hF.last; omega) (hG.line rev) (by simp)
theorem z9 : (0 : Int) ≤ 0 ∧ (0 : Int) ≤ 9000000000000000000 := ⟨by decide, by decide⟩
theorem lateS_all {rev : ByteArray} : ∀ {l : List Int} {all : Alls}, (∀ x ∈ all, idB x.1) → (∀ x ∈ l, idB x) → ∀ x ∈ lateS rev l all, idB x.1
 | [], _, h, _ => h
 | x :: l, all, h, hx => lateS_all (l := l) (mset_ids h (hx x (by simp))) fun y hy => hx y (by simp [hy])
theorem late_mem {l : List (Int × Int)} {now q : Int} (h : q ∈ lLate l now) : ∃ y ∈ l, y.1 = q := by
 unfold lLate at h
 obtain ⟨y, hy, e⟩ := List.mem_map.1 h
 exact ⟨y, (List.mem_filter.1 hy).1, e⟩
structure TkI (m n : Nat) (G : AGate) : Prop where
 all : G.all.length ≤ m
 ids : ∀ x ∈ G.all, idB x.1
 lines : G.lines.length ≤ n
 lid : ∀ x ∈ G.lines, ∀ y ∈ x.2, idB y.1
 wk : GWk G
 ok : G.Ok
theorem TkI.line {m n : Nat} {G : AGate} (h : TkI m n G) (rev : ByteArray) : ∀ y ∈ lineOf G.lines rev, idB y.1 := fun y hy => by
 unfold lineOf at hy
 cases hg : mget G.lines rev with
 | none => rw [hg] at hy; cases hy
 | some l => rw [hg] at hy; exact h.lid _ (mget_mem hg) y hy
theorem TkI.tick1 {m n : Nat} {G : AGate} (h : TkI m n G) {k : ByteArray} (hk : (mget G.lines k).isSome = true) (now : Int) : TkI m n (YtkebppklbobjcaaGreatDoor.tick1 now k G) := by
 refine ⟨?_, ?_, ?_, ?_, h.wk.tick1 k now, h.ok.tick1 h.wk hk now⟩
 ·have := congrArg List.length (lateS_keys (rev := k) (l := lLate (lineOf G.lines k) now) (all := G.all) (h.wk.late k now))
  simp only [List.length_map] at this
  have := h.all
  unfold YtkebppklbobjcaaGreatDoor.tick1; dsimp only; omega
 ·refine lateS_all h.ids fun q hq => ?_
  obtain ⟨y, hy, rfl⟩ := late_mem hq
  exact h.line k y hy
 ·have := congrArg List.length (tick1_names (G := G) hk now)
  simp only [List.length_map] at this
  have := h.lines
  omega
 ·intro x hx y hy
  rcases mset_mem hx with rfl | hx
  ·exact h.line k y (List.mem_filter.1 hy).1
  ·exact h.lid x hx y hy
theorem tickA_inv {m n : Nat} {now : Int} {r : Int} : ∀ {ks : List ByteArray} {G : AGate} {out : List Fate}, TkI m n G → G.room = r → (∀ k ∈ ks, (mget G.lines k).isSome = true) → (∀ f ∈ out, f.Ok) →
  TkI m n (tickA now ks G out).1 ∧ (∀ f ∈ (tickA now ks G out).2, f.Ok) ∧ ((tickA now ks G out).2.length : Int) ≤ out.length + ks.length * max r 0 ∧ (tickA now ks G out).1.pat = G.pat ∧ (tickA now ks G out).1.room = G.room
 | [], G, out, h, hr, _, ho => ⟨h, ho, by simp [tickA], rfl, rfl⟩
 | k :: ks, G, out, h, hr, hk, ho => by
  have h1 := h.tick1 (hk k (by simp)) now
  have hn := tick1_names (G := G) (hk k (by simp)) now
  have hks : ∀ k' ∈ ks, (mget (tick1 now k G).lines k').isSome = true := fun k' hk' => by
   have := hk k' (by simp [hk'])
   cases h3 : mget (tick1 now k G).lines k' with
   | some _ => rfl
   | none =>
    rw [mget_none, hn] at h3
    cases h4 : mget G.lines k' with
    | none => rw [h4] at this; cases this
    | some v => exact absurd (List.mem_map.2 ⟨_, mget_mem h4, rfl⟩) h3
  have ho' : ∀ f ∈ out ++ lateF (lLate (lineOf G.lines k) now), f.Ok := fun f hf => by
   rcases List.mem_append.1 hf with hf | hf
   ·exact ho f hf
   ·unfold lateF at hf
    obtain ⟨q, hq, rfl⟩ := List.mem_map.1 hf
    obtain ⟨y, hy, rfl⟩ := late_mem hq
    have := h.line k y hy
    exact ⟨⟨this.1, Int.le_trans this.2 (by decide)⟩, z9, by show s_timeout.size ≤ 1000; decide⟩
  obtain ⟨a, b, c, d, e⟩ := tickA_inv (ks := ks) (r := r) h1 hr hks ho'
  refine ⟨a, b, ?_, d, e⟩
  have hll := lineOf_len h.ok k
  rw [hr] at hll
  have h5 : (lLate (lineOf G.lines k) now).length ≤ (lineOf G.lines k).length := by unfold lLate; rw [List.length_map]; exact List.length_filter_le ..
  rw [List.length_append, lateF_len] at c
  show ((tickA now ks (tick1 now k G) (out ++ lateF (lLate (lineOf G.lines k) now))).2.length : Int) ≤ _
  rw [List.length_cons]
  have : ((ks.length + 1 : Nat) : Int) * max r 0 = ks.length * max r 0 + max r 0 := by rw [Int.natCast_add, Int.add_mul]; simp
  rw [this]
  omega
theorem gTick_inv {k : Nat} {G : AGate} (ok : G.Ok) (hG : GtI k G) (now : Int) : GtI k (gTick G now).1 ∧ (∀ f ∈ (gTick G now).2, f.Ok) ∧ (gTick G now).2.length ≤ 8 * k := by
 have h : TkI G.all.length G.lines.length G := ⟨Nat.le_refl _, hG.ids, Nat.le_refl _, hG.lid, hG.wk, ok⟩
 obtain ⟨a, b, c, d, e⟩ := tickA_inv (now := now) (r := G.room) (ks := ssort (G.lines.map (·.1))) (out := []) h rfl (fun k hk => by
  cases h4 : mget G.lines k with
  | none => rw [mget_none] at h4; exact absurd (ssort_mem.1 hk) h4
  | some v => rfl) (by simp)
 have r := hG.room
 have hl := hG.lines
 refine ⟨⟨Nat.le_trans a.all hG.all, a.ids, Nat.le_trans a.lines hl, a.lid, a.wk, ?_, ?_⟩, b, ?_⟩
 ·unfold gTick; rw [d]; exact hG.pat
 ·unfold gTick; rw [e]; exact r
 ·rw [ssort_len, List.length_map] at c
  have h8 : (G.lines.length : Int) * max G.room 0 ≤ G.lines.length * 8 := Int.mul_le_mul_of_nonneg_left (by omega) (by omega)
  unfold gTick
  simp only [List.length_nil] at c
  omega
structure ShI (k : Nat) (a : AShelf) : Prop where
 n : a.n ≤ k
 few : a.Few
 cfg : ∀ n, (tget a.m n).is = true → (cfgOf (tget a.m n)).1 = n ∧ specC (cfgOf (tget a.m n)) = 0 ∧ 1 ≤ (tget a.m n).gen
 rt : ∀ n, (rget a.r n).is = true → (rget a.r n).r.name = n ∧ specE (rget a.r n).r = 0
theorem ShI.mono {k m : Nat} {a : AShelf} (h : ShI k a) (hm : k ≤ m) : ShI m a := ⟨by have := h.n; omega, h.few, h.cfg, h.rt⟩
theorem shPut_inv {k : Nat} {a : AShelf} (ok : a.Ok) (h : ShI k a) (c : Cfg) (ver : Int) : ShI (k + 1) (shPut a c ver).1 := by
 have hf := shPut_few h.few c ver
 unfold shPut at hf ⊢
 split
 ·exact h.mono (Nat.le_succ k)
 ·rename_i h1
  rw [if_neg h1] at hf
  split
  ·exact h.mono (Nat.le_succ k)
  ·rename_i h2
   rw [if_neg h2] at hf
   have hn := h.n
   refine ⟨by dsimp only; omega, hf, fun n hn2 => ?_, h.rt⟩
   dsimp only [putC] at hn2 ⊢
   rw [tget_put] at hn2 ⊢
   split
   ·rename_i e
    have h1' : specC c = 0 := by simpa using h1
    refine ⟨e, h1', ?_⟩
    have h3 := ok.gen c.1
    show (1 : Int) ≤ (if (tget a.m c.1).is = true ∧ sameC (cfgOf (tget a.m c.1)) c = true then (tget a.m c.1).gen else (tget a.m c.1).gen + 1)
    split
    ·rename_i h4; exact (h.cfg c.1 h4.1).2.2
    ·omega
   ·rename_i e; rw [if_neg e] at hn2; exact h.cfg n hn2
theorem shPutR_inv {k : Nat} {a : AShelf} (h : ShI k a) (r : ARt) (ver : Int) : ShI (k + 1) (shPutR a r ver).1 := by
 have hf := shPutR_few h.few r ver
 unfold shPutR at hf ⊢
 split
 ·exact h.mono (Nat.le_succ k)
 ·rename_i h1
  rw [if_neg h1] at hf
  split
  ·exact h.mono (Nat.le_succ k)
  ·rename_i h2
   rw [if_neg h2] at hf
   have hn := h.n
   refine ⟨by dsimp only; omega, hf, h.cfg, fun n hn2 => ?_⟩
   dsimp only [putRt] at hn2 ⊢
   rw [rget_put] at hn2 ⊢
   split
   ·rename_i e
    exact ⟨e, by simpa using h1⟩
   ·rename_i e; rw [if_neg e] at hn2; exact h.rt n hn2
theorem specC_num {c : Cfg} (h : specC c = 0) : shortB c.1.data.toList 16 = true ∧ (0 ≤ @id Int c.2.1 ∧ @id Int c.2.1 ≤ 255) ∧ (1 ≤ @id Int c.2.2.1 ∧ @id Int c.2.2.1 ≤ 8) ∧ (1 ≤ @id Int c.2.2.2.2.1 ∧ @id Int c.2.2.2.2.1 ≤ 10) ∧ (0 ≤ @id Int c.2.2.2.1 ∧ @id Int c.2.2.2.1 ≤ @id Int c.2.2.2.2.1) ∧ (0 ≤ @id Int c.2.2.2.2.2.1 ∧ @id Int c.2.2.2.2.2.1 ≤ 30) := by
 unfold specC at h
 split at h
 ·rename_i h1
  split at h
  ·rename_i h2
   unfold cfgNum at h2
   simp only [Bool.and_eq_true, decide_eq_true_eq] at h2
   exact ⟨h1, h2.1, h2.2.1, h2.2.2.1, h2.2.2.2.1, h2.2.2.2.2⟩
  ·cases h
 ·cases h
structure BkI (k : Nat) (a : ABook) : Prop where
 len : a.all.length ≤ k
 rev : ∀ p ∈ a.all, RevN p.1
 cfg : ∀ p ∈ a.all, specC p.2.cfg = 0
theorem BkI.mono {k m : Nat} {a : ABook} (h : BkI k a) (hm : k ≤ m) : BkI m a := ⟨by have := h.len; omega, h.rev, h.cfg⟩
theorem BkI.prove {k : Nat} {a : ABook} (h : BkI k a) (rev : ByteArray) : BkI k (bkProve a rev).1 := by
 unfold bkProve
 split
 ·exact ⟨h.len, h.rev, h.cfg⟩
 ·exact h
theorem BkI.stamp {k : Nat} {a : ABook} (h : BkI k a) {c : Cfg} (hc : specC c = 0) {g : Nat} (h1 : 1 ≤ g) (hg : g < 100) : BkI (k + 1) (bkStamp a c g).1 := by
 unfold bkStamp
 split
 ·exact h.mono (Nat.le_succ k)
 ·have := h.len
  have := mset_le' a.all (revB c.1 g) (rvOf (revB c.1 g) g c)
  refine ⟨by dsimp only; omega, fun p hp => ?_, fun p hp => ?_⟩
  ·rcases mset_mem hp with rfl | hp
   ·exact ⟨c.1, g, (specC_num hc).1, h1, hg, rfl⟩
   ·exact h.rev p hp
  ·rcases mset_mem hp with rfl | hp
   ·exact hc
   ·exact h.cfg p hp
theorem RevN.size {n : ByteArray} (h : RevN n) : n.size ≤ 100 := by
 obtain ⟨c, g, hc, -, hg, rfl⟩ := h
 have := rev_size c hg
 unfold shortB at hc
 simp only [Bool.and_eq_true, decide_eq_true_eq] at hc
 have h2 : (c.data.toList.length : Int) ≤ 16 := hc.2
 have h3 : c.data.toList.length = c.size := by rw [Array.length_toList]; rfl
 omega
theorem bkHas_mem {a : ABook} {rev : ByteArray} (h : bkHas a rev = true) : (rev, bkGet a rev) ∈ a.all := by
 unfold bkHas at h
 unfold bkGet
 cases h2 : mget a.all rev with
 | none => rw [h2] at h; cases h
 | some v => exact mget_mem h2
theorem bkAll_has {a : ABook} {rev : ByteArray} (h : rev ∈ bkAll a) : bkHas a rev = true := by
 unfold bkAll at h
 unfold bkHas
 cases h2 : mget a.all rev with
 | none => rw [mget_none] at h2; exact absurd (ssort_mem.1 h) h2
 | some v => rfl
theorem bkBest_in {a : ABook} (ok : a.Ok) {c : ByteArray} {q : ByteArray → Bool} : ∀ {l : List ByteArray} {t : Rv}, (∀ x ∈ l, bkHas a x = true) → (t.1 = s_ ∨ bkHas a t.1 = true) → ((l.foldl (bkStep a c q) t).1 = s_ ∨ bkHas a (l.foldl (bkStep a c q) t).1 = true)
 | [], t, _, h => h
 | x :: l, t, hl, h => by
  rw [List.foldl_cons]
  refine bkBest_in ok (fun y hy => hl y (by simp [hy])) ?_
  have hx := hl x (by simp)
  have e : (bkGet a x).1 = x := (ok.name _ (bkHas_mem hx)).1
  unfold bkStep
  split
  ·split
   ·split
    ·exact .inr (by rw [e]; exact hx)
    ·exact h
   ·exact h
  ·exact h
theorem bkBest_name {a : ABook} (ok : a.Ok) (c : ByteArray) (q : ByteArray → Bool) : (bkBest a c q).1 = s_ ∨ bkHas a (bkBest a c q).1 = true :=
 bkBest_in ok (fun _ h => bkAll_has h) (.inl rfl)
theorem BkI.size {k : Nat} {a : ABook} (h : BkI k a) {rev : ByteArray} (hr : bkHas a rev = true) : rev.size ≤ 100 := (h.rev _ (bkHas_mem hr)).size
theorem tgtOf_size {k : Nat} {a : ABook} (ok : a.Ok) (h : BkI k a) (cfg : ByteArray) (t : Tgt) : (tgtOf a cfg t).1.size ≤ 100 := by
 have hs : s_.size ≤ 100 := by decide
 unfold tgtOf
 split
 ·split
  ·exact hs
  ·rename_i h2
   rcases bkBest_name ok cfg (bkProved a) with e | e
   ·exact absurd e h2
   ·exact h.size e
 ·split
  ·rename_i h2
   split
   ·exact h.size h2
   ·exact hs
  ·exact hs
structure ByI (k : Nat) (bk : ABook) (m : List (ByteArray × ABes)) : Prop where
 has : ∀ p ∈ bk.all, (mget m p.1).isSome = true
 xs : ∀ x ∈ m, x.2.xs.length ≤ k
 rng : ∀ x ∈ m, ∀ y ∈ x.2.xs, 0 ≤ y ∧ y ≤ 100000000
 want : ∀ x ∈ m, (0 ≤ x.2.want ∧ x.2.want ≤ 10) ∧ (0 ≤ x.2.left ∧ x.2.left ≤ 1000)
theorem ByI.mono {k m : Nat} {bk : ABook} {b : List (ByteArray × ABes)} (h : ByI k bk b) (hm : k ≤ m) : ByI m bk b := ⟨h.has, fun x hx => by have := h.xs x hx; omega, h.rng, h.want⟩
theorem ByI.book {k : Nat} {bk bk' : ABook} {b : List (ByteArray × ABes)} (h : ByI k bk b) (e : bk'.all = bk.all) : ByI k bk' b := ⟨by rw [e]; exact h.has, h.xs, h.rng, h.want⟩
theorem ByI.set {k : Nat} {bk : ABook} {b : List (ByteArray × ABes)} (h : ByI k bk b) {rev : ByteArray} {x : ABes} (h1 : x.xs.length ≤ k) (h2 : ∀ y ∈ x.xs, 0 ≤ y ∧ y ≤ 100000000) (h3 : (0 ≤ x.want ∧ x.want ≤ 10) ∧ (0 ≤ x.left ∧ x.left ≤ 1000)) : ByI k bk (mset b rev x) :=
 ⟨fun p hp => mset_some _ _ _ _ (h.has p hp), fun y hy => by
  rcases mset_mem hy with rfl | hy
  ·exact h1
  ·exact h.xs y hy, fun y hy => by
  rcases mset_mem hy with rfl | hy
  ·exact h2
  ·exact h.rng y hy, fun y hy => by
  rcases mset_mem hy with rfl | hy
  ·exact h3
  ·exact h.want y hy⟩
theorem ByI.tick {k : Nat} {bk : ABook} {G : AGate} (hb : ∀ rev, busyB G rev ≤ 100000000) : ∀ {l : List ByteArray} {b : List (ByteArray × ABes)}, l.Nodup → (∀ p ∈ bk.all, (mget b p.1).isSome = true) → (∀ x ∈ b, x.1 ∈ l → x.2.xs.length ≤ k) → (∀ x ∈ b, x.2.xs.length ≤ k + 1) →
  (∀ x ∈ b, ∀ y ∈ x.2.xs, 0 ≤ y ∧ y ≤ 100000000) → (∀ x ∈ b, (0 ≤ x.2.want ∧ x.2.want ≤ 10) ∧ (0 ≤ x.2.left ∧ x.2.left ≤ 1000)) → ByI (k + 1) bk (l.foldl (tkStep G) b)
 | [], b, _, h1, _, h2, h3, h4 => ⟨h1, h2, h3, h4⟩
 | rev :: l, b, nd, h1, ha, h2, h3, h4 => by
  rw [List.foldl_cons]
  rw [List.nodup_cons] at nd
  unfold tkStep
  split
  ·rename_i x hx
   have hm := mget_mem hx
   have hxl : x.xs.length ≤ k := ha _ hm (by simp)
   refine ByI.tick hb nd.2 (fun p hp => mset_some _ _ _ _ (h1 p hp)) (fun y hy hl => ?_) (fun y hy => ?_) (fun y hy => ?_) fun y hy => ?_
   ·rcases mset_mem hy with rfl | hy
    ·exact absurd hl nd.1
    ·exact ha y hy (by simp [hl])
   ·rcases mset_mem hy with rfl | hy
    ·simp; omega
    ·exact h2 y hy
   ·rcases mset_mem hy with rfl | hy
    ·intro z hz
     rcases List.mem_append.1 hz with hz | hz
     ·exact h3 _ hm z hz
     ·rw [List.mem_singleton] at hz
      have := hb rev
      subst hz
      split <;> omega
    ·exact h3 y hy
   ·rcases mset_mem hy with rfl | hy
    ·have := h4 _ hm
     exact this
    ·exact h4 y hy
  ·exact ByI.tick hb nd.2 h1 (fun y hy hl => ha y hy (by simp [hl])) h2 h3 h4
theorem gWith_len (all : Alls) (rev : ByteArray) : (gWith all rev).length ≤ all.length := by
 unfold gWith
 rw [isort_len, List.length_map]
 exact List.length_filter_le ..
theorem busy_le {k : Nat} {G : AGate} (ok : G.Ok) (hG : GtI k G) (hk : k ≤ 10001) (rev : ByteArray) : 0 ≤ busyB G rev ∧ busyB G rev ≤ 100000000 := by
 have h1 := lineOf_len ok rev
 have h2 := gWith_len G.all rev
 have h3 := hG.all
 have h4 := hG.room
 unfold busyB gWait
 rw [List.length_map]
 omega
structure WyI (k : Nat) (a : AWay) : Prop where
 fr : WBd a.fr
 to : WBd a.to
 ns : WBd a.ns
 zf : ∀ s ∈ a.fr, s.1.size ≤ 100
 zt : ∀ s ∈ a.to, s.1.size ≤ 100
 zn : ∀ s ∈ a.ns, s.1.size ≤ 100
 zg : ∀ s ∈ a.ng, s.1.size ≤ 100 ∧ s.2.1.size ≤ 100
 lf : a.fr.length ≤ 6 * k
 lt : a.to.length ≤ 6
 ln : a.ns.length ≤ 6 * k
 lg : a.ng.length ≤ 6
 since : 0 ≤ a.since ∧ a.since ≤ 1048576
abbrev RoI (k : Nat) (m : ARoll) : Prop := ∀ n x, mget m n = some x → WyI k x
theorem WyI.mono {k m : Nat} {a : AWay} (h : WyI k a) (hm : k ≤ m) : WyI m a := ⟨h.fr, h.to, h.ns, h.zf, h.zt, h.zn, h.zg, by have := h.lf; omega, h.lt, by have := h.ln; omega, h.lg, h.since⟩
theorem WyI.ok {k : Nat} {a : AWay} (h : WyI k a) (hk : k ≤ 10000) : a.Ok := ⟨h.fr, h.to, h.ns, by have := h.lf; omega, by have := h.lt; omega, by have := h.ln; omega, by have := h.lg; omega⟩
theorem compact_mem {α : Type} [Inhabited α] [DecidableEq α] {zs : List α} {x : α} (h : x ∈ Lib.compact zs) : x ∈ zs := by
 unfold Lib.compact Lib.compactUpTo at h
 obtain ⟨i, hi, rfl⟩ := List.mem_map.1 h
 have hi := (List.mem_filter.1 hi).1
 rw [List.mem_range] at hi
 simp [hi]
theorem scomp_mem {l : List ByteArray} {x : ByteArray} (h : x ∈ scomp l) : x ∈ l := by
 unfold scomp at h
 obtain ⟨y, hy, rfl⟩ := List.mem_map.1 h
 obtain ⟨z, hz, rfl⟩ := List.mem_map.1 (compact_mem hy)
 exact hz
theorem names_mem {fr to : List Shr} {x : ByteArray} (h : x ∈ namesOf fr to) : (∃ s ∈ fr, s.1 = x) ∨ ∃ s ∈ to, s.1 = x := by
 have h := ssort_mem.1 (scomp_mem h)
 rcases List.mem_append.1 h with h | h
 ·exact .inl (List.mem_map.1 h)
 ·exact .inr (List.mem_map.1 h)
theorem names_len (fr to : List Shr) : (namesOf fr to).length ≤ fr.length + to.length := by
 have := scomp_len (ssort (fr.map (·.1) ++ to.map (·.1)))
 rw [ssort_len, List.length_append, List.length_map, List.length_map] at this
 exact this
theorem up_le {fr to : List Shr} {gone whole : Int} (h0 : 0 < gone) (h1 : gone < whole) (n : ByteArray) : wOf fr n + upOf fr to gone whole n ≤ max (wOf fr n) (wOf to n) := by
 unfold upOf
 split
 ·rename_i hc
  have : (wOf to n - wOf fr n) * gone / whole ≤ wOf to n - wOf fr n := Int.ediv_le_of_le_mul (by omega) (Int.mul_le_mul_of_nonneg_left (by omega) (by omega))
  omega
 ·omega
theorem rollGo_ok {fr to : List Shr} {gone whole : Int} (hf : WBd fr) (ht : WBd to) (h0 : 0 < gone) (h1 : gone < whole) : ∀ {l : List ByteArray} {st : Int × List Shr}, (∀ x ∈ l, x.size ≤ 100) → 0 ≤ st.1 → WBd st.2 → (∀ s ∈ st.2, s.1.size ≤ 100) →
  WBd (l.foldl (rollStep fr to gone whole) st).2 ∧ (∀ s ∈ (l.foldl (rollStep fr to gone whole) st).2, s.1.size ≤ 100) ∧ (l.foldl (rollStep fr to gone whole) st).2.length ≤ st.2.length + l.length
 | [], st, _, _, h3, h4 => ⟨h3, h4, Nat.le_refl _⟩
 | n :: l, st, hl, h2, h3, h4 => by
  rw [List.foldl_cons]
  have a := wOf_mem (r := n) hf
  have b := wOf_mem (r := n) ht
  have c := upOf_le hf ht h0 h1 n
  have d := up_le (fr := fr) (to := to) h0 h1 n
  have key : 0 ≤ (rollStep fr to gone whole st n).1 ∧ WBd (rollStep fr to gone whole st n).2 ∧ (∀ s ∈ (rollStep fr to gone whole st n).2, s.1.size ≤ 100) ∧ (rollStep fr to gone whole st n).2.length ≤ st.2.length + 1 := by
   have hv : ∀ m : Int, wOf fr n + m ≤ 1000 → WBd (if 0 < wOf fr n + m then st.2 ++ [(n, wOf fr n + m, ())] else st.2) ∧ (∀ s ∈ (if 0 < wOf fr n + m then st.2 ++ [(n, wOf fr n + m, ())] else st.2), s.1.size ≤ 100) ∧ (if 0 < wOf fr n + m then st.2 ++ [(n, wOf fr n + m, ())] else st.2).length ≤ st.2.length + 1 := by
    intro m hm
    split
    ·rename_i hp
     refine ⟨fun s hs => ?_, fun s hs => ?_, by simp⟩
     ·rcases List.mem_append.1 hs with hs | hs
      ·exact h3 s hs
      ·rw [List.mem_singleton] at hs; subst hs; exact ⟨by show (0 : Int) ≤ wOf fr n + m; omega, hm⟩
     ·rcases List.mem_append.1 hs with hs | hs
      ·exact h4 s hs
      ·rw [List.mem_singleton] at hs; subst hs; exact hl n (by simp)
    ·exact ⟨h3, h4, Nat.le_succ _⟩
   unfold rollStep
   dsimp only
   by_cases hd : 0 < wOf fr n - wOf to n
   ·simp only [if_pos hd]
    refine ⟨by split <;> omega, hv _ (by split <;> omega)⟩
   ·simp only [if_neg hd]
    exact ⟨h2, hv _ (by omega)⟩
  obtain ⟨k1, k2, k3, k4⟩ := key
  obtain ⟨r1, r2, r3⟩ := rollGo_ok hf ht h0 h1 (l := l) (fun x hx => hl x (by simp [hx])) k1 k2 k3
  exact ⟨r1, r2, by rw [List.length_cons]; omega⟩
theorem upSum_nn {fr to : List Shr} {gone whole : Int} (hf : WBd fr) (ht : WBd to) (h0 : 0 < gone) (h1 : gone < whole) : ∀ l : List ByteArray, 0 ≤ (l.map (upOf fr to gone whole)).sum
 | [] => Int.le_refl 0
 | n :: l => by
  have := upSum_nn hf ht h0 h1 l
  have := (upOf_le hf ht h0 h1 n).1
  rw [List.map_cons, List.sum_cons]; omega
theorem shares_ok {fr to : List Shr} (hf : WBd fr) (ht : WBd to) (zf : ∀ s ∈ fr, s.1.size ≤ 100) (zt : ∀ s ∈ to, s.1.size ≤ 100) (gone whole : Int) :
  WBd (sharesOf fr to gone whole) ∧ (∀ s ∈ sharesOf fr to gone whole, s.1.size ≤ 100) ∧ (sharesOf fr to gone whole).length ≤ fr.length + to.length := by
 unfold sharesOf
 split
 ·exact ⟨ht, zt, by omega⟩
 ·split
  ·exact ⟨hf, zf, by omega⟩
  ·rename_i h1 h2
   have := rollGo_ok (gone := gone) (whole := whole) hf ht (by omega) (by omega) (l := namesOf fr to) (st := (((namesOf fr to).map (upOf fr to gone whole)).sum, [])) (fun x hx => by
    rcases names_mem hx with ⟨s, hs, rfl⟩ | ⟨s, hs, rfl⟩
    ·exact zf s hs
    ·exact zt s hs) (upSum_nn hf ht (by omega) (by omega) _) (by intro s hs; cases hs) (by intro s hs; cases hs)
   have hn := names_len fr to
   refine ⟨this.1, this.2.1, ?_⟩
   have h3 := this.2.2
   simp only [List.length_nil, Nat.zero_add] at h3
   exact Nat.le_trans h3 hn
structure TabI (t : ATab) : Prop where
 w : WBd t.sh
 zs : ∀ s ∈ t.sh, s.1.size ≤ 100
 zg : ∀ s ∈ t.tg, s.1.size ≤ 100 ∧ s.2.1.size ≤ 100
 ls : t.sh.length ≤ 6
 lg : t.tg.length ≤ 6
theorem wayOf_inv {k : Nat} {m : ARoll} (h : RoI k m) (n : ByteArray) {t : ATab} (ht : TabI t) {now : Int} (hn : 0 ≤ now ∧ now ≤ 1048576) (whole : Int) (hk : 1 ≤ k) :
  WBd (wayOf m n t now whole).fr ∧ WBd (wayOf m n t now whole).to ∧ (∀ s ∈ (wayOf m n t now whole).fr, s.1.size ≤ 100) ∧ (∀ s ∈ (wayOf m n t now whole).to, s.1.size ≤ 100) ∧ (wayOf m n t now whole).fr.length ≤ 6 * k ∧ (wayOf m n t now whole).to.length ≤ 6 ∧ 0 ≤ (wayOf m n t now whole).since ∧ (wayOf m n t now whole).since ≤ 1048576 := by
 unfold wayOf
 have := ht.ls
 split
 ·rename_i a ha
  have w := h n a ha
  split
  ·exact ⟨w.fr, w.to, w.zf, w.zt, w.lf, w.lt, w.since.1, w.since.2⟩
  ·exact ⟨w.ns, ht.w, w.zn, ht.zs, w.ln, ht.ls, hn.1, hn.2⟩
 ·exact ⟨ht.w, ht.w, ht.zs, ht.zs, by dsimp only; omega, ht.ls, hn.1, hn.2⟩
theorem roTurn_inv {k : Nat} {m : ARoll} (h : RoI k m) (n : ByteArray) {t : ATab} (ht : TabI t) {now : Int} (hn : 0 ≤ now ∧ now ≤ 1048576) (whole : Int) (hk : 1 ≤ k) : RoI (k + 1) (roTurn m n t now whole) := by
 intro n' x hx
 unfold roTurn at hx
 rw [mget_mset] at hx
 split at hx
 ·obtain ⟨a1, a2, a3, a4, a5, a6, a7, a8⟩ := wayOf_inv h n ht hn whole hk
  have s := shares_ok a1 a2 a3 a4 (now - (wayOf m n t now whole).since) whole
  cases hx
  exact ⟨a1, a2, s.1, a3, a4, s.2.1, ht.zg, by dsimp only; omega, a6, by have := s.2.2; dsimp only [nowOf]; omega, ht.lg, a7, a8⟩
 ·exact (h n' x hx).mono (Nat.le_succ k)
theorem nowOf_inv {k : Nat} {m : ARoll} (h : RoI k m) (n : ByteArray) {t : ATab} (ht : TabI t) {now : Int} (hn : 0 ≤ now ∧ now ≤ 1048576) (whole : Int) (hk : 1 ≤ k) : WBd (nowOf m n t now whole).sh ∧ (∀ s ∈ (nowOf m n t now whole).sh, s.1.size ≤ 100) ∧ (nowOf m n t now whole).sh.length ≤ 6 * k + 6 := by
 obtain ⟨a1, a2, a3, a4, a5, a6, -, -⟩ := wayOf_inv h n ht hn whole hk
 have s := shares_ok a1 a2 a3 a4 (now - (wayOf m n t now whole).since) whole
 exact ⟨s.1, s.2.1, by have := s.2.2; dsimp only [nowOf]; omega⟩
theorem RoI.del {k : Nat} {m : ARoll} (h : RoI k m) (nd : (m.map (·.1)).Nodup) (n : ByteArray) : RoI k (mdel m n) := by
 intro n' x hx
 rw [mget_mdel n n' nd] at hx
 split at hx
 ·cases hx
 ·exact h n' x hx
structure RgI (j : Nat) (ws : MSI) (ts : MSS) : Prop where
 lw : ws.length ≤ j
 lt : ts.length ≤ j
 zw : ∀ x ∈ ws, x.1.size ≤ 100 ∧ 0 ≤ x.2 ∧ x.2 ≤ 100 * j
 zt : ∀ x ∈ ts, x.1.size ≤ 100 ∧ x.2.size ≤ 100
theorem resGo_inv {k : Nat} {a : ABook} (ok : a.Ok) (h : BkI k a) (cfg : ByteArray) : ∀ {l : List Tgt} {j : Nat} {ws : MSI} {ts : MSS}, (∀ t ∈ l, (0 ≤ pct t ∧ pct t ≤ 100) ∧ t.2.1.size ≤ 100) → RgI j ws ts → RgI (j + l.length) (resGo a cfg l ws ts).2.1 (resGo a cfg l ws ts).2.2
 | [], _, _, _, _, h => h
 | t :: l, j, ws, ts, hl, hr => by
  rw [resGo_cons]
  have ht := hl t (by simp)
  have hz := tgtOf_size ok h cfg t
  have e : j + (t :: l).length = (j + 1) + l.length := by rw [List.length_cons]; omega
  split
  ·rw [e]
   refine resGo_inv ok h cfg (fun x hx => hl x (by simp [hx])) ⟨?_, ?_, fun x hx => ?_, fun x hx => ?_⟩
   ·have := mset_le' ws (tgtOf a cfg t).1 ((mget ws (tgtOf a cfg t).1).getD 0 + pct t); have := hr.lw; omega
   ·have := hr.lt
    split
    ·omega
    ·have := mset_le' ts t.2.1 (tgtOf a cfg t).1; omega
   ·rcases mset_mem hx with rfl | hx
    ·refine ⟨hz, ?_⟩
     dsimp only
     cases hg : mget ws (tgtOf a cfg t).1 with
     | none => simp only [Option.getD_none]; omega
     | some v => have := (hr.zw _ (mget_mem hg)).2; simp only [Option.getD_some]; dsimp only at this; omega
    ·have := hr.zw x hx
     exact ⟨this.1, this.2.1, by omega⟩
   ·split at hx
    ·exact hr.zt x hx
    ·rcases mset_mem hx with rfl | hx
     ·exact ⟨ht.2, hz⟩
     ·exact hr.zt x hx
  ·exact ⟨by have := hr.lw; dsimp only; omega, by have := hr.lt; dsimp only; omega, fun x hx => by have := hr.zw x hx; exact ⟨this.1, this.2.1, by rw [e]; omega⟩, hr.zt⟩
theorem ordI_mem {m : List (ByteArray × Int)} {s : Shr} (h : s ∈ ordI m) : (s.1, @id Int s.2.1) ∈ m := by
 unfold ordI at h
 obtain ⟨x, hx, rfl⟩ := List.mem_map.1 h
 have hx := ssort_mem.1 hx
 cases hg : mget m x with
 | none => exact absurd hx (mget_none.1 hg)
 | some v => exact mget_mem hg
theorem ordS_mem {m : List (ByteArray × ByteArray)} {s : Tgo} (h : s ∈ ordS m) : (s.1, s.2.1) ∈ m := by
 unfold ordS at h
 obtain ⟨x, hx, rfl⟩ := List.mem_map.1 h
 have hx := ssort_mem.1 hx
 cases hg : mget m x with
 | none => exact absurd hx (mget_none.1 hg)
 | some v => exact mget_mem hg
theorem resolve_inv {k : Nat} {a : ABook} (ok : a.Ok) (h : BkI k a) {r : ARt} (hl : r.ts.length ≤ 6) (ht : ∀ t ∈ r.ts, (0 ≤ pct t ∧ pct t ≤ 100) ∧ t.2.1.size ≤ 100) : TabI (resolve a r).1 := by
 have hg := resGo_inv ok h r.cfg (l := r.ts) (j := 0) (ws := []) (ts := []) ht ⟨Nat.le_refl _, Nat.le_refl _, by simp, by simp⟩
 unfold resolve
 split
 ·refine ⟨fun s hs => ?_, fun s hs => ?_, fun s hs => ?_, ?_, ?_⟩
  ·have := (hg.zw _ (ordI_mem (List.mem_filter.1 hs).1)).2
   dsimp only at this
   exact ⟨this.1, by omega⟩
  ·exact (hg.zw _ (ordI_mem (List.mem_filter.1 hs).1)).1
  ·exact hg.zt _ (ordS_mem hs)
  ·have h1 := List.length_filter_le posW (ordI (resGo a r.cfg r.ts [] []).2.1)
   have h2 : (ordI (resGo a r.cfg r.ts [] []).2.1).length = (resGo a r.cfg r.ts [] []).2.1.length := by unfold ordI; rw [List.length_map, ssort_len, List.length_map]
   have := hg.lw
   dsimp only; omega
  ·have h2 : (ordS (resGo a r.cfg r.ts [] []).2.2).length = (resGo a r.cfg r.ts [] []).2.2.length := by unfold ordS; rw [List.length_map, ssort_len, List.length_map]
   have := hg.lt
   dsimp only; omega
 ·exact ⟨(by intro s hs; cases hs), (by intro s hs; cases hs), (by intro s hs; cases hs), Nat.zero_le _, Nat.zero_le _⟩
theorem specE_all {a : ARt} (h : specE a = 0) : (shortB a.name.data.toList 16 = true ∧ shortB a.cfg.data.toList 16 = true) ∧ (0 ≤ a.roll ∧ a.roll ≤ 60) ∧ a.ts.length ≤ 6 ∧ ∀ t ∈ a.ts, (0 ≤ pct t ∧ pct t ≤ 100) ∧ t.2.1.size ≤ 100 := by
 have hl := specE_len h
 unfold specE at h
 split at h
 ·rename_i h1
  split at h
  ·rename_i h2
   split at h
   ·rename_i h3
    refine ⟨h1, h2, hl, fun t ht => ?_⟩
    have h4 : tgE t = 0 := by
     split at h
     ·rename_i x hx
      have := List.find?_some hx
      simp only [decide_eq_true_eq] at this
      exact absurd h this
     ·rename_i hx
      have := List.find?_eq_none.1 hx t ht
      simpa using this
    refine ⟨tg_pct h4, ?_⟩
    unfold tgE at h4
    split at h4
    ·cases h4
    ·rename_i h5
     unfold tagBad at h5
     by_cases e : t.2.1 = s_
     ·rw [e]; decide
     ·have h6 : shortB t.2.1.data.toList 8 = true := by simpa [e] using h5
      unfold shortB at h6
      simp only [Bool.and_eq_true, decide_eq_true_eq] at h6
      have h7 : (t.2.1.data.toList.length : Int) ≤ 8 := h6.2
      have h8 : t.2.1.data.toList.length = t.2.1.size := by rw [Array.length_toList]; rfl
      omega
   ·cases h
  ·cases h
 ·cases h
theorem tabText_le {t : ATab} {m : Nat} (hw : WBd t.sh) (zs : ∀ s ∈ t.sh, s.1.size ≤ 100) (zg : ∀ s ∈ t.tg, s.1.size ≤ 100 ∧ s.2.1.size ≤ 100) (hl : t.sh.length + t.tg.length ≤ m) (hm : m ≤ 80000) : TabB t := by
 refine ⟨fun s hs => ⟨hw s hs, by have := zs s hs; omega⟩, fun s hs => by have := zg s hs; omega, ?_⟩
 have h := joinB_le 1200 (tabParts t) (fun x hx => by
  unfold tabParts at hx
  rcases List.mem_append.1 hx with hx | hx
  ·obtain ⟨s, hs, rfl⟩ := List.mem_map.1 hx
   have h1 := zs s hs
   have h2 := decD_le (@id Int s.2.1).toNat
   have h3 := hw s hs
   have h4 : s___b5df.size = 1 := rfl
   unfold shT
   rw [ByteArray.size_append, ByteArray.size_append]
   omega
  ·obtain ⟨s, hs, rfl⟩ := List.mem_map.1 hx
   have h1 := zg s hs
   have h4 : s___b5e2.size = 1 := rfl
   unfold toT
   rw [ByteArray.size_append, ByteArray.size_append]
   omega)
 unfold tabText
 have h2 : (tabParts t).length = t.sh.length + t.tg.length := by unfold tabParts; simp
 rw [h2] at h
 have : (t.sh.length + t.tg.length) * (1200 + 1) ≤ 80000 * 1201 := Nat.mul_le_mul (by omega) (by omega)
 omega
end Go.Proofs.YtkebppklbobjcaaGreatDoor
namespace Go.Proofs.YtkebppklbobjcaaGreatDoor
open Go.Dm
attribute [local irreducible] L.load L.store L.chk L.new L.nonnil L.guard L.ite L.draw L.idx L.sem L.semR L.semU L.chkSem L.next L.call L.callV L.join L.alts L.loop L.begin L.endRound L.range
variable {w0 w : World} {E : List Seg}
def sysDrop (a : ASys) (e : AEv) : ASys × List ByteArray :=
 if (shDrop a.sh e.n e.name e.draw).2 ≠ 0 then ({ a with sh := (shDrop a.sh e.n e.name e.draw).1 }, refusedB (shDrop a.sh e.n e.name e.draw).2)
 else ({ a with sh := (shDrop a.sh e.n e.name e.draw).1, ro := if e.n = 2 then mdel a.ro e.name else a.ro }, [lineB s_dropped [e.name]])
def sysDown (a : ASys) (e : AEv) : ASys × List ByteArray :=
 if (fKill a.fl e.n).2.2 ≠ 0 then ({ a with fl := (fKill a.fl e.n).1 }, refusedB (fKill a.fl e.n).2.2)
 else ({ a with fl := (fKill a.fl e.n).1, gt := (gLost a.gt (fKill a.fl e.n).2.1).1 }, lineB s_down [decD e.n.toNat] :: (gLost a.gt (fKill a.fl e.n).2.1).2.map fateB)
def mn2 (a b : Int) : Int := if b < a then b else a
def mx2 (a b : Int) : Int := if b > a then b else a
def scNeed (s n c : Int) : Int := if n ≤ 0 then 0 else if c ≤ 0 then 0 else (s + n * c - 1) / (n * c)
abbrev scM (ready : Int) : Int := if ready > 1 then ready else 1
def scLeft (left b m : Int) : Int := if b ≥ 2 * m then 6 else if 0 > left - 1 then 0 else left - 1
def scW1 (want left' a b : Int) : Int := if left' > 0 then mx2 (mx2 want a) b else a
def scW2 (w1 want busy idle grace : Int) : Int := if w1 = 0 ∧ (busy > 0 ∨ (want > 0 ∧ idle < grace)) then 1 else w1
def scEnd (w2 ready mi ma : Int) : Int := mn2 (mx2 (mx2 (mn2 w2 (4 * scM ready)) (ready / 2)) mi) ma
def scDec (want left : Int) (c : Cfg) (ready busy st sts sh shs idle : Int) : Int × Int :=
 (scEnd (scW2 (scW1 want (scLeft left (scNeed sh shs c.2.2.1) (scM ready)) (scNeed st sts c.2.2.1) (scNeed sh shs c.2.2.1)) want busy idle c.2.2.2.2.2.1) ready c.2.2.2.1 c.2.2.2.2.1, scLeft left (scNeed sh shs c.2.2.1) (scM ready))
def scOf (a : ASys) (x : ABes) (rev : ByteArray) : Int × Int :=
 scDec x.want x.left (bkGet a.bk rev).2.2 (cnt (fun s => s == 2) (fPods a.fl.l rev)) (busyB a.gt rev) (lastS x.xs (lastN x.xs 6)) (lastN x.xs 6) (lastS x.xs (lastN x.xs 2)) (lastN x.xs 2) (tz x.xs)
def sysScale (a : ASys) (e : AEv) : ASys × List ByteArray :=
 if bkHas a.bk e.name = false then (a, refusedB 6) else match mget a.by' e.name with
 | none => (a, [])
 | some x => ({ a with by' := mset a.by' e.name ⟨x.xs, (scOf a x e.name).1, (scOf a x e.name).2⟩ }, [lineB (lineB s_scale [e.name]) [decD (scOf a x e.name).1.toNat]])
end Go.Proofs.YtkebppklbobjcaaGreatDoor
namespace Go.Proofs.YtkebppklbobjcaaGreatDoor
open Go.Dm
structure SInv (k : Nat) (a : ASys) : Prop where
 fl : FlI k a.fl
 gt : GtI k a.gt
 sh : ShI k a.sh
 bk : BkI k a.bk
 ro : RoI k a.ro
 by' : ByI k a.bk a.by'
 now : 0 ≤ a.now ∧ a.now ≤ 1048576
structure SOk (a : ASys) : Prop where
 fl : a.fl.Ok
 gt : a.gt.Ok
 sh : a.sh.Ok
 bk : a.bk.Ok
 ro : (a.ro.map (·.1)).Nodup
 nd : (a.bk.all.map (·.1)).Nodup
theorem SysS.ok {b : Nat} {a : ASys} {s : Seg} (h : SysS b a s) : SOk a := by
 obtain ⟨p, sg, sf, ss, sk, sr, sm, Q, R, -⟩ := h
 refine ⟨R.fl.1, R.gt.1, R.sh.1, R.bk.1, ?_, ?_⟩
 ·obtain ⟨r, sm, P, Q, hm, -, e, -⟩ := R.ro
  rw [e]
  have := hm.nd
  simpa [List.map_map, Function.comp_def] using this
 ·obtain ⟨-, rA, rP, sA, sP, hA, -⟩ := R.bk
  exact hA.nd
theorem SInv.mono {k m : Nat} {a : ASys} (h : SInv k a) (hm : k ≤ m) : SInv m a := ⟨h.fl.mono hm, h.gt.mono hm, h.sh.mono hm, h.bk.mono hm, fun n x hx => (h.ro n x hx).mono hm, h.by'.mono hm, h.now⟩
theorem new_inv {room line pat : Int} (h : newOk room line pat = true) (hr : room ≤ 20) : SInv 0 (newSys room line pat) := by
 unfold newOk wiB at h
 simp only [Bool.and_eq_true, decide_eq_true_eq] at h
 obtain ⟨⟨r1, r2⟩, ⟨l1, l2⟩, p1, p2⟩ := h
 refine ⟨⟨⟨hr, ?_, ?_⟩, r1, Int.le_refl 0, ?_, ?_⟩, ⟨Nat.le_refl _, ?_, Nat.le_refl _, ?_, ?_, ⟨p1, by show pat ≤ 1000; omega⟩, l1, l2⟩, ⟨Int.le_refl 0, ?_, ?_, ?_⟩, ⟨Nat.le_refl _, ?_, ?_⟩, ?_, ⟨?_, ?_, ?_, ?_⟩, Int.le_refl 0, by show (0 : Int) ≤ 1048576; decide⟩
 ·show ((0 : Nat) : Int) ≤ max room 0; omega
 all_goals first | (intro x hx; cases hx; done) | skip
 intro n x h; cases h
def sysDo (a : ASys) (e : AEv) : ASys × List ByteArray :=
 if chkEv e ≠ 0 then (a, [lineB s_bad [errB (chkEv e)]])
 else if e.kind = 1 then sysConfig a e else if e.kind = 2 then sysRoute a e else if e.kind = 3 then sysDrop a e else if e.kind = 4 then sysArrive a e else if e.kind = 5 then sysDone a e else if e.kind = 6 then sysUp a e
 else if e.kind = 9 then sysTick a else if e.kind = 10 then sysStamp a e else if e.kind = 11 then sysLead a e else if e.kind = 12 then sysScale a e else if e.kind = 13 then sysPods a e else sysDown a e
theorem chk_kind {e : AEv} (h : chkEv e = 0) : (shp e.kind).2 = true ∧ chkS (shp e.kind).1 e = 0 := by
 unfold chkEv at h
 split at h
 ·cases h
 ·rename_i h1; exact ⟨by simpa using h1, h⟩
theorem chk_parts {e : AEv} (h : chkEv e = 0) : ((shp e.kind).1.1 = true → numE e = true) ∧ ((shp e.kind).1.2.1 = true → namedE e = true) ∧ ((shp e.kind).1.2.2.2.1 = true → wiB e.draw 0 2147483647 = true) ∧ ((shp e.kind).1.2.2.2.2.1 = true → specC e.c = 0) ∧ ((shp e.kind).1.2.2.2.2.2.1 = true → (shp e.kind).1.2.2.2.2.1 = false → specE e.r = 0) := by
 have h := (chk_kind h).2
 generalize (shp e.kind).1 = s at h ⊢
 obtain ⟨s1, s2, s3, s4, s5, s6, ⟨⟩⟩ := s
 unfold chkS at h
 dsimp only at h ⊢
 split at h
 ·cases h
 ·split at h
  ·cases h
  ·rename_i h1
   split at h
   ·cases h
   ·rename_i h2
    split at h
    ·cases h
    ·split at h
     ·cases h
     ·rename_i h3
      refine ⟨fun e1 => ?_, fun e1 => ?_, fun e1 => ?_, fun e1 => ?_, fun e1 e2 => ?_⟩
      ·cases hn : numE e with
       | true => rfl
       | false => exact absurd ⟨e1, hn⟩ h1
      ·cases hn : namedE e with
       | true => rfl
       | false => exact absurd ⟨e1, hn⟩ h2
      ·cases hn : wiB e.draw 0 2147483647 with
       | true => rfl
       | false => exact absurd ⟨e1, hn⟩ h3
      ·rw [if_pos e1] at h; exact h
      ·rw [if_neg (by simp [e2]), if_pos e1] at h; exact h
theorem kind_cases {e : AEv} (h : chkEv e = 0) : e.kind = 1 ∨ e.kind = 2 ∨ e.kind = 3 ∨ e.kind = 4 ∨ e.kind = 5 ∨ e.kind = 6 ∨ e.kind = 7 ∨ e.kind = 8 ∨ e.kind = 9 ∨ e.kind = 10 ∨ e.kind = 11 ∨ e.kind = 12 ∨ e.kind = 13 := by
 have h := (chk_kind h).1
 unfold shp at h
 repeat' (split at h)
 all_goals first | omega | (cases h; done)
theorem chk_id {e : AEv} (h : chkEv e = 0) (hk : e.kind = 4 ∨ e.kind = 5 ∨ e.kind = 6 ∨ e.kind = 7 ∨ e.kind = 8) : idB e.n ∧ 1 ≤ e.n := by
 have h1 := (chk_parts h).1 (by rcases hk with e | e | e | e | e <;> rw [e] <;> rfl)
 unfold numE wiB at h1
 rw [if_neg (by omega), if_neg (by omega)] at h1
 simp only [Bool.and_eq_true, decide_eq_true_eq] at h1
 exact ⟨⟨by omega, h1.2⟩, h1.1⟩
theorem chk_name {e : AEv} (h : chkEv e = 0) (hk : e.kind = 3 ∨ e.kind = 4 ∨ e.kind = 10 ∨ e.kind = 11) : ((e.name.size : Nat) : Int) ≤ 16 := by
 have h1 := (chk_parts h).2.1 (by rcases hk with e | e | e | e <;> rw [e] <;> rfl)
 unfold namedE at h1
 rw [if_neg (by omega)] at h1
 exact short_size h1
theorem chk_c {e : AEv} (h : chkEv e = 0) (hk : e.kind = 1) : specC e.c = 0 := (chk_parts h).2.2.2.1 (by rw [hk]; rfl)
theorem chk_r {e : AEv} (h : chkEv e = 0) (hk : e.kind = 2) : specE e.r = 0 := (chk_parts h).2.2.2.2 (by rw [hk]; rfl) (by rw [hk]; rfl)
theorem inv_config {k : Nat} {a : ASys} (ok : SOk a) (h : SInv k a) (e : AEv) : SInv (k + 1) (sysConfig a e).1 :=
 ⟨h.fl.mono (Nat.le_succ k), h.gt.mono (Nat.le_succ k), shPut_inv ok.sh h.sh e.c e.n, h.bk.mono (Nat.le_succ k), fun n x hx => (h.ro n x hx).mono (Nat.le_succ k), h.by'.mono (Nat.le_succ k), h.now⟩
theorem inv_route {k : Nat} {a : ASys} (h : SInv k a) (e : AEv) : SInv (k + 1) (sysRoute a e).1 :=
 ⟨h.fl.mono (Nat.le_succ k), h.gt.mono (Nat.le_succ k), shPutR_inv h.sh e.r e.n, h.bk.mono (Nat.le_succ k), fun n x hx => (h.ro n x hx).mono (Nat.le_succ k), h.by'.mono (Nat.le_succ k), h.now⟩
theorem inv_up {k : Nat} {a : ASys} (ok : SOk a) (h : SInv k a) (e : AEv) : SInv (k + 1) (sysUp a e).1 := by
 have hu := h.fl.up e.n
 have hg := gFlow_inv ok.gt hu h.gt (fOf (fUpp a.fl e.n).1.l e.n)
 unfold sysUp
 split
 ·exact ⟨hu.mono (Nat.le_succ k), h.gt.mono (Nat.le_succ k), h.sh.mono (Nat.le_succ k), h.bk.mono (Nat.le_succ k), fun n x hx => (h.ro n x hx).mono (Nat.le_succ k), h.by'.mono (Nat.le_succ k), h.now⟩
 ·refine ⟨hg.1.mono (Nat.le_succ k), hg.2, h.sh.mono (Nat.le_succ k), ?_, fun n x hx => (h.ro n x hx).mono (Nat.le_succ k), ?_, h.now⟩
  ·dsimp only; unfold upBk
   split
   ·exact h.bk.mono (Nat.le_succ k)
   ·exact (h.bk.prove _).mono (Nat.le_succ k)
  ·dsimp only; unfold upBk
   split
   ·exact h.by'.mono (Nat.le_succ k)
   ·refine (h.by'.mono (Nat.le_succ k)).book ?_
    unfold bkProve
    split <;> rfl
theorem bkAll_nd {a : ABook} (nd : (a.all.map (·.1)).Nodup) : (bkAll a).Nodup := (ssort_perm _).nodup_iff.2 nd
theorem inv_tick {k : Nat} {a : ASys} (ok : SOk a) (nd : (a.bk.all.map (·.1)).Nodup) (h : SInv k a) (hk : k ≤ 10000) : SInv (k + 1) (sysTick a).1 := by
 have hg := gTick_inv ok.gt h.gt (a.now + 1)
 have hG : (tkG a).1.Ok := by
  have := tickA_inv (m := a.gt.all.length) (n := a.gt.lines.length) (now := a.now + 1) (r := a.gt.room) (ks := ssort (a.gt.lines.map (·.1))) (G := a.gt) (out := []) ⟨Nat.le_refl _, h.gt.ids, Nat.le_refl _, h.gt.lid, h.gt.wk, ok.gt⟩ rfl (fun k hk => by
   cases h4 : mget a.gt.lines k with
   | none => rw [mget_none] at h4; exact absurd (ssort_mem.1 hk) h4
   | some v => rfl) (by simp)
  exact this.1.ok
 unfold sysTick
 split
 ·exact h.mono (Nat.le_succ k)
 ·rename_i hc
  refine ⟨h.fl.mono (Nat.le_succ k), hg.1.mono (Nat.le_succ k), h.sh.mono (Nat.le_succ k), h.bk.mono (Nat.le_succ k), fun n x hx => (h.ro n x hx).mono (Nat.le_succ k), ?_, ?_⟩
  ·exact ByI.tick (fun rev => (busy_le hG hg.1 (by omega) rev).2) (bkAll_nd nd) h.by'.has (fun x hx _ => h.by'.xs x hx) (fun x hx => Nat.le_succ_of_le (h.by'.xs x hx)) h.by'.rng h.by'.want
  ·have := h.now; dsimp only; omega
theorem shCfg_sound {k : Nat} {a : AShelf} (ok : a.Ok) (h : ShI k a) {n : ByteArray} (hi : (shCfg a n).2.2.2.1 = true) : specC (shCfg a n).1 = 0 ∧ 1 ≤ @id Int (shCfg a n).2.2.1 ∧ @id Int (shCfg a n).2.2.1 ≤ a.n := by
 unfold shCfg at hi ⊢
 split
 ·rename_i h1
  have := h.cfg n h1
  exact ⟨this.2.1, this.2.2, (ok.gen n).2⟩
 ·rename_i h1
  rw [if_neg h1] at hi
  cases hi
theorem inv_stamp {k : Nat} {a : ASys} (ok : SOk a) (h : SInv k a) (hn : a.sh.n < 100) (e : AEv) : SInv (k + 1) (sysStamp a e).1 := by
 have hm := h.mono (Nat.le_succ k)
 unfold sysStamp
 split
 ·exact hm
 ·rename_i h1
  have hc := shCfg_sound ok.sh h.sh (n := e.name) (by simpa using h1)
  split
  ·exact hm
  ·have hb := h.bk.stamp (c := (shCfg a.sh e.name).1) hc.1 (g := (@id Int (shCfg a.sh e.name).2.2.1).toNat) (by omega) (by omega)
   have hw := (specC_num hc.1).2.2.2
   split
   ·rename_i h3
    refine ⟨hm.fl, hm.gt, hm.sh, hb, hm.ro, hm.by'.book ?_, hm.now⟩
    dsimp only [stp] at h3 ⊢
    unfold bkStamp at h3 ⊢
    split
    ·rfl
    ·rename_i h4; rw [if_neg h4] at h3; cases h3
   ·rename_i h3
    refine ⟨hm.fl, hm.gt, hm.sh, hb, hm.ro, ⟨fun p hp => ?_, ?_, ?_, ?_⟩, hm.now⟩
    ·dsimp only [stp] at h3 hp ⊢
     rw [mget_mset]
     split
     ·rfl
     ·rename_i h5
      unfold bkStamp at hp h5
      split at hp
      ·exact h.by'.has p hp
      ·rename_i h6
       rw [if_neg h6] at h5
       rcases mset_mem hp with rfl | hp
       ·exact absurd rfl h5
       ·exact h.by'.has p hp
    all_goals
     intro y hy
     rcases mset_mem hy with rfl | hy
    ·exact Nat.zero_le _
    ·exact hm.by'.xs y hy
    ·intro z hz; cases hz
    ·exact hm.by'.rng y hy
    ·refine ⟨?_, Int.le_refl 0, by show (0 : Int) ≤ 1000; decide⟩
     show 0 ≤ wantOf (shCfg a.sh e.name).1 ∧ wantOf (shCfg a.sh e.name).1 ≤ 10
     unfold wantOf
     split <;> omega
    ·exact hm.by'.want y hy
theorem shRt_sound {k : Nat} {a : AShelf} (h : ShI k a) (n : ByteArray) : (shRt a n).1.ts.length ≤ 6 ∧ (∀ t ∈ (shRt a n).1.ts, (0 ≤ pct t ∧ pct t ≤ 100) ∧ t.2.1.size ≤ 100) ∧ 0 ≤ (shRt a n).1.roll ∧ (shRt a n).1.roll ≤ 60 := by
 unfold shRt
 split
 ·rename_i h1
  have := specE_all (h.rt n h1).2
  exact ⟨this.2.2.1, this.2.2.2, this.2.1.1, this.2.1.2⟩
 ·exact ⟨Nat.zero_le _, (by intro t ht; cases ht), (show (0 : Int) ≤ 0 by decide), (show (0 : Int) ≤ 60 by decide)⟩
theorem inv_lead {k : Nat} {a : ASys} (ok : SOk a) (h : SInv k a) (e : AEv) : SInv (k + 2) (sysLead a e).1 := by
 have hm := h.mono (Nat.le_add_right k 2)
 have hr := shRt_sound h.sh e.name
 unfold sysLead
 split
 ·exact hm
 ·split
  ·exact hm
  ·refine ⟨hm.fl, hm.gt, hm.sh, hm.bk, ?_, hm.by', hm.now⟩
   exact roTurn_inv (k := k + 1) (h.mono (Nat.le_succ k)).ro e.name (resolve_inv ok.bk h.bk hr.1 hr.2.1) h.now _ (by omega)
theorem inv_pods {k : Nat} {a : ASys} (h : SInv k a) (e : AEv) : SInv (k + 1) (sysPods a e).1 := by
 have hm := h.mono (Nat.le_succ k)
 unfold sysPods
 split
 ·exact hm
 ·rename_i h1
  have h1 : bkHas a.bk e.name = true := by simpa using h1
  have hb := bkHas_mem h1
  have hc := (specC_num (h.bk.cfg _ hb)).2.2.1
  refine ⟨?_, hm.gt, hm.sh, hm.bk, hm.ro, hm.by', hm.now⟩
  exact h.fl.scale (h.bk.rev _ hb) (Int.le_trans hc.2 (by decide)) _
theorem sysDo_bad {a : ASys} {e : AEv} (h : chkEv e ≠ 0) : sysDo a e = (a, [lineB s_bad [errB (chkEv e)]]) := by unfold sysDo; rw [if_pos h]
theorem sysDo_1 {a : ASys} {e : AEv} (h : chkEv e = 0) (hk : e.kind = 1) : sysDo a e = sysConfig a e := by unfold sysDo; rw [if_neg (by simp [h]), if_pos hk]
theorem sysDo_2 {a : ASys} {e : AEv} (h : chkEv e = 0) (hk : e.kind = 2) : sysDo a e = sysRoute a e := by unfold sysDo; rw [if_neg (by simp [h]), if_neg (by omega), if_pos hk]
theorem sysDo_3 {a : ASys} {e : AEv} (h : chkEv e = 0) (hk : e.kind = 3) : sysDo a e = sysDrop a e := by unfold sysDo; rw [if_neg (by simp [h]), if_neg (by omega), if_neg (by omega), if_pos hk]
theorem sysDo_4 {a : ASys} {e : AEv} (h : chkEv e = 0) (hk : e.kind = 4) : sysDo a e = sysArrive a e := by unfold sysDo; rw [if_neg (by simp [h]), if_neg (by omega), if_neg (by omega), if_neg (by omega), if_pos hk]
theorem sysDo_5 {a : ASys} {e : AEv} (h : chkEv e = 0) (hk : e.kind = 5) : sysDo a e = sysDone a e := by unfold sysDo; rw [if_neg (by simp [h]), if_neg (by omega), if_neg (by omega), if_neg (by omega), if_neg (by omega), if_pos hk]
theorem sysDo_6 {a : ASys} {e : AEv} (h : chkEv e = 0) (hk : e.kind = 6) : sysDo a e = sysUp a e := by unfold sysDo; rw [if_neg (by simp [h]), if_neg (by omega), if_neg (by omega), if_neg (by omega), if_neg (by omega), if_neg (by omega), if_pos hk]
theorem sysDo_7 {a : ASys} {e : AEv} (h : chkEv e = 0) (hk : e.kind = 7 ∨ e.kind = 8) : sysDo a e = sysDown a e := by
 unfold sysDo; rw [if_neg (by simp [h]), if_neg (by omega), if_neg (by omega), if_neg (by omega), if_neg (by omega), if_neg (by omega), if_neg (by omega), if_neg (by omega), if_neg (by omega), if_neg (by omega), if_neg (by omega), if_neg (by omega)]
theorem sysDo_9 {a : ASys} {e : AEv} (h : chkEv e = 0) (hk : e.kind = 9) : sysDo a e = sysTick a := by unfold sysDo; rw [if_neg (by simp [h]), if_neg (by omega), if_neg (by omega), if_neg (by omega), if_neg (by omega), if_neg (by omega), if_neg (by omega), if_pos hk]
theorem sysDo_10 {a : ASys} {e : AEv} (h : chkEv e = 0) (hk : e.kind = 10) : sysDo a e = sysStamp a e := by unfold sysDo; rw [if_neg (by simp [h]), if_neg (by omega), if_neg (by omega), if_neg (by omega), if_neg (by omega), if_neg (by omega), if_neg (by omega), if_neg (by omega), if_pos hk]
theorem sysDo_11 {a : ASys} {e : AEv} (h : chkEv e = 0) (hk : e.kind = 11) : sysDo a e = sysLead a e := by unfold sysDo; rw [if_neg (by simp [h]), if_neg (by omega), if_neg (by omega), if_neg (by omega), if_neg (by omega), if_neg (by omega), if_neg (by omega), if_neg (by omega), if_neg (by omega), if_pos hk]
theorem sysDo_12 {a : ASys} {e : AEv} (h : chkEv e = 0) (hk : e.kind = 12) : sysDo a e = sysScale a e := by unfold sysDo; rw [if_neg (by simp [h]), if_neg (by omega), if_neg (by omega), if_neg (by omega), if_neg (by omega), if_neg (by omega), if_neg (by omega), if_neg (by omega), if_neg (by omega), if_neg (by omega), if_pos hk]
theorem sysDo_13 {a : ASys} {e : AEv} (h : chkEv e = 0) (hk : e.kind = 13) : sysDo a e = sysPods a e := by unfold sysDo; rw [if_neg (by simp [h]), if_neg (by omega), if_neg (by omega), if_neg (by omega), if_neg (by omega), if_neg (by omega), if_neg (by omega), if_neg (by omega), if_neg (by omega), if_neg (by omega), if_neg (by omega), if_pos hk]
end Go.Proofs.YtkebppklbobjcaaGreatDoor
namespace Go.Proofs.YtkebppklbobjcaaGreatDoor
open Go.Dm
attribute [local irreducible] L.load L.store L.chk L.new L.nonnil L.guard L.ite L.draw L.idx L.sem L.semR L.semU L.chkSem L.next L.call L.callV L.join L.alts L.loop L.begin L.endRound L.range
variable {w0 w : World} {E : List Seg}
theorem up_okF {F : AFleet} (ok : F.Ok) (id : Int) : (fUpp F id).1.Ok := by
 unfold fUpp
 split
 ·exact ok
 ·rename_i x hx
  refine ok.upd hx _ ?_ fun q hq => .inl (by rwa [podUp_rq] at hq)
  have := ok.live x (fFind_some hx).1
  unfold podUp
  split
  ·dsimp only; omega
  ·exact .inr (.inl rfl)
theorem shrinkR (rev : ByteArray) : ∀ {n : Nat} {F : AFleet}, (shrink rev n F).1.last = F.last ∧ (shrink rev n F).1.room = F.room
 | 0, F => ⟨rfl, rfl⟩
 | n + 1, F => by simp only [shrink]; exact shrinkR rev (n := n) (F := drain1 rev F)
theorem scale_room (F : AFleet) (rev : ByteArray) (conc want : Int) : (fScale F rev conc want).1.room = F.room := by
 unfold fScale fGrown
 rw [(shrinkR rev).2, grow_room]
theorem grow_okX {F : AFleet} {rev : ByteArray} {conc : Int} (n : Nat) (ok : F.Ok) (h1 : F.l.length + n < 100000000) (h2 : F.last + n < 4611686018427387904) : (grow rev conc n F).Ok := by
 induction n with
 | zero => exact ok
 | succ n ih =>
  refine grow1_ok (ih (by omega) (by omega)) ?_ ?_
  ·rw [grow_len]; omega
  ·rw [grow_last]; omega
theorem shrink_gone {rev : ByteArray} : ∀ {n : Nat} {F : AFleet}, F.Ok → n ≤ fCount F.l rev → (∀ x ∈ (shrink rev n F).2, 0 ≤ x ∧ x ≤ F.last) ∧ (shrink rev n F).2.length = n
 | 0, F, _, _ => ⟨(by intro x hx; cases hx), rfl⟩
 | n + 1, F, ok, h => by
  have h1 := drain1_ok ok (rev := rev) (by omega)
  have h2 := drain1_count ok (rev := rev) (by omega)
  obtain ⟨a, b⟩ := shrink_gone (rev := rev) (n := n) h1 (by omega)
  obtain ⟨y, hy, -, -⟩ := spare_mem (rev := rev) ok (by omega)
  obtain ⟨hm, hid⟩ := fFind_some hy
  have hr := ok.rng y hm
  simp only [shrink]
  refine ⟨fun x hx => ?_, by rw [List.length_cons, b]⟩
  rcases List.mem_cons.1 hx with rfl | hx
  ·rw [← hid]; omega
  ·exact a x hx
theorem scale_gone {F : AFleet} (ok : F.Ok) {rev : ByteArray} {conc want : Int} (hl : (F.l.length : Int) ≤ 1000) (hr : F.room ≤ 1000) (hla : F.last ≤ 1000000000) : (∀ x ∈ (fScale F rev conc want).2, 0 ≤ x ∧ x ≤ F.last + 1000) ∧ (fScale F rev conc want).2.length ≤ 2000 := by
 have hn := growN_le F rev want
 have okg : (fGrown F rev conc want).Ok := grow_okX _ ok (by omega) (by omega)
 have hsn : shrinkN (fGrown F rev conc want) rev want ≤ fCount (fGrown F rev conc want).l rev := by
  have := shrinkN_eq (fGrown F rev conc want) rev want
  omega
 have hs := shrink_gone okg hsn
 have hll : (fGrown F rev conc want).last = F.last + growN F rev want := grow_last ..
 have hcl := fCount_le (fGrown F rev conc want).l (rev := rev)
 have hgl : (fGrown F rev conc want).l.length = F.l.length + growN F rev want := grow_len ..
 unfold fScale
 refine ⟨fun x hx => ?_, ?_⟩
 ·have := hs.1 x hx
  omega
 ·rw [hs.2]; omega
theorem S_podsNone [bTab w0] (h : St w0 E w) (i : Nat) {b : Nat} {a : ASys} {s : Seg} (hi : nth E i = some s) (hs : SysS b a s) {e : AEv} (hn : bkHas a.bk e.name = false) {k : Sl → PT} (hk : Hk w0 E i b (sysPods a e) k) : F_system_System_pods (some ⟨b, 0, none⟩) e.t (slK k) w := by
 have hs0 := hs
 obtain ⟨p, sg, sf, ss, sk, sr, sm, Q, R, rfl⟩ := hs
 unfold F_system_System_pods
 unfold sysPods at hk
 have h := (h.front i hi).split8
 refine nw h ?_; clear h; (try clear w); intro b1 w h
 refine join_of (fun (z : Addr × Bool × Unit) w => ∃ b8 : Nat, z = (⟨b8, 0, none⟩, bkHas a.bk e.name, ()) ∧ St w0 (sysC b p a.now :: sg :: sf :: ss :: sk :: sr :: sm :: (Q.map BsE.sg).flatten :: delN E i) w) (fun k2 hk2 => ?_) ?_
 ·(dsimp only [setN, List.cons_append, List.nil_append] at h; refine dr h ?_; clear h; (try clear w); intro w h; refine nn ?_; refine ldC h ?_; refine ldC h ?_)
  refine alts2 ?_ ?_
  ·refine S_bkGet h 5 rfl R.bk fun w h => ?_
   refine nw h ?_; clear h; (try clear w); intro b8 w h
   (refine ckC h ?_; refine ckC h ?_; refine stC h ?_; clear h; (try clear w); intro w h; dsimp only [putN, setN] at h)
   exact hk2 _ w ⟨b8, rfl, dl0_ (dl0_ h)⟩
  ·refine nw h ?_; clear h; (try clear w); intro b8 w h
   (refine ckC h ?_; refine ckC h ?_)
   refine S_bkGet h 6 rfl R.bk fun w h => ?_
   (refine stC h ?_; clear h; (try clear w); intro w h; dsimp only [putN, setN] at h)
   exact hk2 _ w ⟨b8, rfl, dl0_ (dl0_ h)⟩
 clear h; (try clear w)
 rintro z w ⟨b8, rfl, h⟩
 (try dsimp only)
 refine itT (by simp [hn]) ?_
 rw [if_pos hn] at hk
 refine S_refused h fun v s w r h => ?_
 exact ⟨v, rfl, hk v s _ w r hs0 (sysBack i hi h)⟩
structure EvIn (w0 : World) (E : List Seg) (i : Nat) (e : AEv) : Prop where
 rd : RdE w0 (delN E i) eT e.v e.r.ts
 hvc : e.v.len ≤ e.v.cap
 h0 : e.v.a = none → e.r.ts = []
 hrv : ∀ t ∈ e.r.ts, revOk t.1
 hn : e.kind = 12 ∨ e.kind = 13 → RevN e.name
theorem EvIn.plain {i : Nat} {e : AEv} (hv : e.v = noSl) (hr : e.r = noRt15) (hk : e.kind = 12 ∨ e.kind = 13 → RevN e.name) : EvIn w0 E i e := by
 refine ⟨fun _ _ => ?_, ?_, fun _ => ?_, ?_, hk⟩
 ·rw [hv, hr]; exact Rd.nil
 ·rw [hv]; exact Nat.le_refl 0
 ·rw [hr]; rfl
 ·rw [hr]; intro t ht; cases ht
abbrev HkI (w0 : World) (E : List Seg) (i b k0 : Nat) (r : ASys × List ByteArray) (k : Sl → PT) : Prop :=
 ∀ v sv s' w', Rw eS T_string 1 v r.2 sv → SysS b r.1 s' → SInv k0 r.1 → St w0 (sv :: setN E i s') w' → k v w'
theorem S_dE1 [bTab w0] (h : St w0 E w) (i : Nat) {b : Nat} {a : ASys} {s : Seg} (hi : nth E i = some s) (hs : SysS b a s) {e : AEv} (hb : chkEv e = 0) (hc : e.kind = 1) (ev : EvIn w0 E i e) {k0 : Nat} (inv : SInv k0 a) (hk0 : k0 ≤ 9000) (hn : a.sh.n < 99) {k : Sl → PT} (hk : HkI w0 E i b (k0 + 2) (sysDo a e) k) :
  L.call Pr n_system_System_Do [.pointer (some ⟨b, 0, none⟩), evV e] (.one (.one .slice)) k w := by
 have ok := hs.ok
 have rd' : RdE w0 E eT e.v e.r.ts := fun w h => ev.rd w (h.del i hi)
 have i2 : SInv (k0 + 2) (sysDo a e).1 := by rw [sysDo_1 hb hc]; exact (inv_config ok inv e).mono (Nat.le_succ _)
 have hkk : Hk w0 E i b (sysDo a e) k := fun v sv s' w' r hs' h => hk v sv s' w' r hs' i2 h
 clear hk
 have hlast := inv.fl.last
 have hlen := inv.fl.few.l
 have hroom := inv.fl.few.r
 unfold podsMost at hroom
 have hall := inv.gt.all
 have hlines := inv.gt.lines
 have hgr := inv.gt.room
 have hpat := inv.gt.pat
 have hnow := inv.now
 have hbl := inv.bk.len
 have hr1 := inv.fl.r1
 have rn := ev.hn
 rw [sysDo_1 hb hc] at hkk
 exact S_doConfig h i hi hs hc hb rd' ev.hvc ev.hrv (by omega) (by have := short_size (specC_num (chk_c hb hc)).1; omega) hkk
theorem S_dE2 [bTab w0] (h : St w0 E w) (i : Nat) {b : Nat} {a : ASys} {s : Seg} (hi : nth E i = some s) (hs : SysS b a s) {e : AEv} (hb : chkEv e = 0) (hc : e.kind = 2) (ev : EvIn w0 E i e) {k0 : Nat} (inv : SInv k0 a) (hk0 : k0 ≤ 9000) (hn : a.sh.n < 99) {k : Sl → PT} (hk : HkI w0 E i b (k0 + 2) (sysDo a e) k) :
  L.call Pr n_system_System_Do [.pointer (some ⟨b, 0, none⟩), evV e] (.one (.one .slice)) k w := by
 have ok := hs.ok
 have rd' : RdE w0 E eT e.v e.r.ts := fun w h => ev.rd w (h.del i hi)
 have i2 : SInv (k0 + 2) (sysDo a e).1 := by rw [sysDo_2 hb hc]; exact (inv_route inv e).mono (Nat.le_succ _)
 have hkk : Hk w0 E i b (sysDo a e) k := fun v sv s' w' r hs' h => hk v sv s' w' r hs' i2 h
 clear hk
 have hlast := inv.fl.last
 have hlen := inv.fl.few.l
 have hroom := inv.fl.few.r
 unfold podsMost at hroom
 have hall := inv.gt.all
 have hlines := inv.gt.lines
 have hgr := inv.gt.room
 have hpat := inv.gt.pat
 have hnow := inv.now
 have hbl := inv.bk.len
 have hr1 := inv.fl.r1
 have rn := ev.hn
 rw [sysDo_2 hb hc] at hkk
 exact S_doRoute h i hi hs hc hb ev.rd ev.hvc ev.h0 ev.hrv (by omega) (by have := short_size (specE_all (chk_r hb hc)).1.1; omega) inv.sh.few hkk
theorem S_dE6 [bTab w0] (h : St w0 E w) (i : Nat) {b : Nat} {a : ASys} {s : Seg} (hi : nth E i = some s) (hs : SysS b a s) {e : AEv} (hb : chkEv e = 0) (hc : e.kind = 6) (ev : EvIn w0 E i e) {k0 : Nat} (inv : SInv k0 a) (hk0 : k0 ≤ 9000) (hn : a.sh.n < 99) {k : Sl → PT} (hk : HkI w0 E i b (k0 + 2) (sysDo a e) k) :
  L.call Pr n_system_System_Do [.pointer (some ⟨b, 0, none⟩), evV e] (.one (.one .slice)) k w := by
 have ok := hs.ok
 have rd' : RdE w0 E eT e.v e.r.ts := fun w h => ev.rd w (h.del i hi)
 have i2 : SInv (k0 + 2) (sysDo a e).1 := by rw [sysDo_6 hb hc]; exact (inv_up ok inv e).mono (Nat.le_succ _)
 have hkk : Hk w0 E i b (sysDo a e) k := fun v sv s' w' r hs' h => hk v sv s' w' r hs' i2 h
 clear hk
 have hlast := inv.fl.last
 have hlen := inv.fl.few.l
 have hroom := inv.fl.few.r
 unfold podsMost at hroom
 have hall := inv.gt.all
 have hlines := inv.gt.lines
 have hgr := inv.gt.room
 have hpat := inv.gt.pat
 have hnow := inv.now
 have hbl := inv.bk.len
 have hr1 := inv.fl.r1
 have rn := ev.hn
 rw [sysDo_6 hb hc] at hkk
 have hid := (chk_id hb (by omega)).1
 have hu := inv.fl.up e.n
 have hsz : (fOf (fUpp a.fl e.n).1.l e.n).size ≤ 100 := by
  unfold fOf
  cases hf : fFind (fUpp a.fl e.n).1.l e.n with
  | none => show s_.size ≤ 100; decide
  | some x => exact (hu.rev x (fFind_some hf).1).size
 have hu' : (fUpp a.fl e.n).1.Ok := up_okF ok.fl e.n
 refine S_doUp h i hi hs hc hb rd' ev.hvc ev.hrv ⟨by omega, by omega⟩ (by omega) hu.few (by omega) (by omega) (gFlow_fates (by omega) hu' hu inv.gt _) ?_ hkk
 have := (gFlow_len (F := (fUpp a.fl e.n).1) ok.gt (fOf (fUpp a.fl e.n).1.l e.n)).1
 show (gFlow (fUpp a.fl e.n).1 a.gt (fOf (fUpp a.fl e.n).1.l e.n)).2.2.length < 100000000
 omega
theorem S_dE9 [bTab w0] (h : St w0 E w) (i : Nat) {b : Nat} {a : ASys} {s : Seg} (hi : nth E i = some s) (hs : SysS b a s) {e : AEv} (hb : chkEv e = 0) (hc : e.kind = 9) (ev : EvIn w0 E i e) {k0 : Nat} (inv : SInv k0 a) (hk0 : k0 ≤ 9000) (hn : a.sh.n < 99) {k : Sl → PT} (hk : HkI w0 E i b (k0 + 2) (sysDo a e) k) :
  L.call Pr n_system_System_Do [.pointer (some ⟨b, 0, none⟩), evV e] (.one (.one .slice)) k w := by
 have ok := hs.ok
 have rd' : RdE w0 E eT e.v e.r.ts := fun w h => ev.rd w (h.del i hi)
 have i2 : SInv (k0 + 2) (sysDo a e).1 := by rw [sysDo_9 hb hc]; exact (inv_tick ok ok.nd inv (by omega)).mono (Nat.le_succ _)
 have hkk : Hk w0 E i b (sysDo a e) k := fun v sv s' w' r hs' h => hk v sv s' w' r hs' i2 h
 clear hk
 have hlast := inv.fl.last
 have hlen := inv.fl.few.l
 have hroom := inv.fl.few.r
 unfold podsMost at hroom
 have hall := inv.gt.all
 have hlines := inv.gt.lines
 have hgr := inv.gt.room
 have hpat := inv.gt.pat
 have hnow := inv.now
 have hbl := inv.bk.len
 have hr1 := inv.fl.r1
 have rn := ev.hn
 rw [sysDo_9 hb hc] at hkk
 have hg := gTick_inv ok.gt inv.gt (a.now + 1)
 refine S_doTick h i hi hs hc hb rd' ev.hvc ev.hrv hnow.1 inv.gt.wk (by have := hg.2.2; unfold tkG; omega) hg.2.1 (fun rev hr => ?_) (fun x hx => by have := inv.by'.xs x hx; omega) (by omega) hkk
 have := inv.by'.has _ (bkHas_mem (bkAll_has hr))
 exact this
theorem S_dE10 [bTab w0] (h : St w0 E w) (i : Nat) {b : Nat} {a : ASys} {s : Seg} (hi : nth E i = some s) (hs : SysS b a s) {e : AEv} (hb : chkEv e = 0) (hc : e.kind = 10) (ev : EvIn w0 E i e) {k0 : Nat} (inv : SInv k0 a) (hk0 : k0 ≤ 9000) (hn : a.sh.n < 99) {k : Sl → PT} (hk : HkI w0 E i b (k0 + 2) (sysDo a e) k) :
  L.call Pr n_system_System_Do [.pointer (some ⟨b, 0, none⟩), evV e] (.one (.one .slice)) k w := by
 have ok := hs.ok
 have rd' : RdE w0 E eT e.v e.r.ts := fun w h => ev.rd w (h.del i hi)
 have i2 : SInv (k0 + 2) (sysDo a e).1 := by rw [sysDo_10 hb hc]; exact (inv_stamp ok inv (by omega) e).mono (Nat.le_succ _)
 have hkk : Hk w0 E i b (sysDo a e) k := fun v sv s' w' r hs' h => hk v sv s' w' r hs' i2 h
 clear hk
 have hlast := inv.fl.last
 have hlen := inv.fl.few.l
 have hroom := inv.fl.few.r
 unfold podsMost at hroom
 have hall := inv.gt.all
 have hlines := inv.gt.lines
 have hgr := inv.gt.room
 have hpat := inv.gt.pat
 have hnow := inv.now
 have hbl := inv.bk.len
 have hr1 := inv.fl.r1
 have rn := ev.hn
 rw [sysDo_10 hb hc] at hkk
 refine S_doStamp h i hi hs hc hb rd' ev.hvc ev.hrv (fun hh => ?_) (by omega) hkk
 have hs := shCfg_sound ok.sh inv.sh hh
 have hnum := specC_num hs.1
 exact ⟨hnum.1, hs.2.1, by omega, by omega⟩
theorem S_dE11 [bTab w0] (h : St w0 E w) (i : Nat) {b : Nat} {a : ASys} {s : Seg} (hi : nth E i = some s) (hs : SysS b a s) {e : AEv} (hb : chkEv e = 0) (hc : e.kind = 11) (ev : EvIn w0 E i e) {k0 : Nat} (inv : SInv k0 a) (hk0 : k0 ≤ 9000) (hn : a.sh.n < 99) {k : Sl → PT} (hk : HkI w0 E i b (k0 + 2) (sysDo a e) k) :
  L.call Pr n_system_System_Do [.pointer (some ⟨b, 0, none⟩), evV e] (.one (.one .slice)) k w := by
 have ok := hs.ok
 have rd' : RdE w0 E eT e.v e.r.ts := fun w h => ev.rd w (h.del i hi)
 have i2 : SInv (k0 + 2) (sysDo a e).1 := by rw [sysDo_11 hb hc]; exact inv_lead ok inv e
 have hkk : Hk w0 E i b (sysDo a e) k := fun v sv s' w' r hs' h => hk v sv s' w' r hs' i2 h
 clear hk
 have hlast := inv.fl.last
 have hlen := inv.fl.few.l
 have hroom := inv.fl.few.r
 unfold podsMost at hroom
 have hall := inv.gt.all
 have hlines := inv.gt.lines
 have hgr := inv.gt.room
 have hpat := inv.gt.pat
 have hnow := inv.now
 have hbl := inv.bk.len
 have hr1 := inv.fl.r1
 have rn := ev.hn
 rw [sysDo_11 hb hc] at hkk
 have hr := shRt_sound inv.sh e.name
 have ht := resolve_inv ok.bk inv.bk hr.1 hr.2.1
 have hno := nowOf_inv (k := k0 + 1) (inv.mono (Nat.le_succ k0)).ro e.name ht hnow (shRt a.sh e.name).1.roll (by omega)
 refine S_doLead h i hi hs hc hb rd' ev.hvc ev.hrv inv.sh.few (by have := chk_name hb (by omega); omega) (fun t ht => by have := (hr.2.1 t ht).1; omega) (by omega) (by omega) (fun x hx => (inv.ro _ x hx).ok (by omega)) (fun x hx => by have := (inv.ro _ x hx).since; omega) (by omega) ht.w (by have := hno.2.2; show (nowOf a.ro e.name (resolve a.bk (shRt a.sh e.name).1).1 a.now (shRt a.sh e.name).1.roll).sh.length < 100000; omega) ?_ hkk
 exact tabText_le hno.1 hno.2.1 ht.zg (Nat.add_le_add hno.2.2 ht.lg) (by omega)
theorem S_dE13 [bTab w0] (h : St w0 E w) (i : Nat) {b : Nat} {a : ASys} {s : Seg} (hi : nth E i = some s) (hs : SysS b a s) {e : AEv} (hb : chkEv e = 0) (hc : e.kind = 13) (ev : EvIn w0 E i e) {k0 : Nat} (inv : SInv k0 a) (hk0 : k0 ≤ 9000) (hn : a.sh.n < 99) {k : Sl → PT} (hk : HkI w0 E i b (k0 + 2) (sysDo a e) k) :
  L.call Pr n_system_System_Do [.pointer (some ⟨b, 0, none⟩), evV e] (.one (.one .slice)) k w := by
 have ok := hs.ok
 have rd' : RdE w0 E eT e.v e.r.ts := fun w h => ev.rd w (h.del i hi)
 have i2 : SInv (k0 + 2) (sysDo a e).1 := by rw [sysDo_13 hb hc]; exact (inv_pods inv e).mono (Nat.le_succ _)
 have hkk : Hk w0 E i b (sysDo a e) k := fun v sv s' w' r hs' h => hk v sv s' w' r hs' i2 h
 clear hk
 have hlast := inv.fl.last
 have hlen := inv.fl.few.l
 have hroom := inv.fl.few.r
 unfold podsMost at hroom
 have hall := inv.gt.all
 have hlines := inv.gt.lines
 have hgr := inv.gt.room
 have hpat := inv.gt.pat
 have hnow := inv.now
 have hbl := inv.bk.len
 have hr1 := inv.fl.r1
 have rn := ev.hn
 rw [sysDo_13 hb hc] at hkk
 have hnm := rn (.inr hc)
 by_cases hh : bkHas a.bk e.name = true
 ·have hc2 := (specC_num (inv.bk.cfg _ (bkHas_mem hh))).2.2.1
  have hcc : pdConc a e.name ≤ 1000 := Int.le_trans hc2.2 (by decide)
  have hsc := inv.fl.scale hnm hcc (pdWant a e.name)
  have hgl := hsc.few.l
  have hgr2 : (fScale a.fl e.name (pdConc a e.name) (pdWant a e.name)).1.room = a.fl.room := scale_room ..
  have hgo := scale_gone ok.fl (rev := e.name) (conc := pdConc a e.name) (want := pdWant a e.name) (by omega) (by omega) (by omega)
  refine S_doPods h i hi hs hc hnm hb rd' ev.hvc ev.hrv (by omega) (by omega) (by have := hnm.size; omega) (fun x hx => ?_) ?_ (fun x hx => ?_) ?_ ?_ hkk
  ·unfold fMade at hx
   obtain ⟨j, hj, rfl⟩ := List.mem_map.1 hx
   rw [List.mem_range] at hj
   have := growN_le a.fl e.name (pdWant a e.name)
   have := ok.fl.lo
   omega
  ·unfold fMade
   rw [List.length_map, List.length_range]
   have := growN_le a.fl e.name (pdWant a e.name)
   omega
  ·have := hgo.1 x hx; omega
  ·have := hgo.2; omega
  ·unfold fPods
   rw [List.length_map]
   have : (revs (pdFl a e.name).l e.name).length ≤ (pdFl a e.name).l.length := List.length_filter_le ..
   unfold pdFl at this ⊢
   omega
 ·exact S_doK h i hi hs hb rn rd' ev.hvc ev.hrv (f := n_system_System_pods) (by rw [hc]; rfl) E_system_System_pods (C_system_System_pods (some ⟨b, 0, none⟩) e.t) (fun h hi _ hk => S_podsNone h _ hi hs (by simpa using hh) hk) hkk
class Kn (w0 : World) (ks : Int → Bool) : Prop where
 dos : ∀ {E : List Seg} {w : World}, St w0 E w → ∀ (i : Nat) {b : Nat} {a : ASys} {s : Seg}, nth E i = some s → SysS b a s → ∀ {e : AEv}, ks e.kind = true → chkEv e = 0 → EvIn w0 E i e → ∀ {k0 : Nat}, SInv k0 a → k0 ≤ 9000 → a.sh.n < 99 → ∀ {k : Sl → PT}, HkI w0 E i b (k0 + 2) (sysDo a e) k →
  L.call Pr n_system_System_Do [.pointer (some ⟨b, 0, none⟩), evV e] (.one (.one .slice)) k w
theorem S_doE {ks : Int → Bool} [K : Kn w0 ks] (h : St w0 E w) (i : Nat) {b : Nat} {a : ASys} {s : Seg} (hi : nth E i = some s) (hs : SysS b a s) {e : AEv} (hks : ks e.kind = true) (hb : chkEv e = 0) (ev : EvIn w0 E i e) {k0 : Nat} (inv : SInv k0 a) (hk0 : k0 ≤ 9000) (hn : a.sh.n < 99) {k : Sl → PT} (hk : HkI w0 E i b (k0 + 2) (sysDo a e) k) :
  L.call Pr n_system_System_Do [.pointer (some ⟨b, 0, none⟩), evV e] (.one (.one .slice)) k w := K.dos h i hi hs hks hb ev inv hk0 hn hk
theorem und_s8 : Pr.underlying T_s_uint8 = some (.slice T_uint8) := by kernel_rfl
theorem und_u8 : Pr.underlying T_uint8 = some (.int .u8) := by kernel_rfl
theorem S_Digits (n : Nat) : ∀ {g : Nat} {E : List Seg} {w : World} {k : ByteArray → PT}, g ≤ n → g ≤ 9000000000000000000 → St w0 E w → (∀ w', St w0 E w' → k (decD g) w') → L.call Pr n_damperref1_Digits [I g] (.one (.one .str)) k w := by
 induction n using Nat.strongRecOn with
 | _ n ih =>
  intro g E w k hgn hg h hk
  refine call_of (C_damperref1_Digits _) ?_
  unfold F_damperref1_Digits
  refine itF (decide_eq_false (by omega)) ?_
  refine it (fun hc => ?_) (fun hc => ?_)
  ·have hc : 10 ≤ g := by have := of_decide_eq_true hc; omega
   have e1 : IntKind.wrap .i64 (Int.tdiv (g : Int) 10) = ((g / 10 : Nat) : Int) := by
    rw [Int.tdiv_eq_ediv_of_nonneg (by omega), wr (by omega) (by omega)]; rfl
   have e2 : Int.tmod (g : Int) 10 = ((g % 10 : Nat) : Int) := by
    rw [Int.tmod_eq_emod_of_nonneg (by omega)]; rfl
   rw [e1, e2]
   have s1 := decD_le (g % 10)
   have s2 : (decD (g / 10)).size ≤ 100 := by
    have := decD_19 (x := ((g / 10 : Nat) : Int)) (by omega) (by omega)
    rw [Int.toNat_natCast] at this
    exact this
   refine gd (by decide) ?_
   refine ih (g / 10) (by omega) (Nat.le_refl _) (by omega) h fun w h => ?_
   refine gd (by decide) ?_
   refine ih (g % 10) (by omega) (Nat.le_refl _) (by omega) h fun w h => ?_
   refine gd (by simp only [maxI64]; omega) ?_
   refine ⟨_, rfl, ?_⟩
   rw [← decD_step hc]
   exact hk w h
  ·have hc : g < 10 := by have := of_decide_eq_false hc; omega
   refine nw h ?_; clear h; (try clear w); intro b4 w h
   have e1 : IntKind.wrap .u8 (IntKind.wrap .i64 (48 + (g : Int))) = ((48 + g : Nat) : Int) := by
    have : g = 0 ∨ g = 1 ∨ g = 2 ∨ g = 3 ∨ g = 4 ∨ g = 5 ∨ g = 6 ∨ g = 7 ∨ g = 8 ∨ g = 9 := by omega
    rcases this with rfl | rfl | rfl | rfl | rfl | rfl | rfl | rfl | rfl | rfl <;> rfl
   rw [e1] at h
   have hr : Rw eU T_uint8 1 ⟨some ⟨b4, 0, none⟩, 1, 1⟩ [UInt8.ofNat (48 + g)] [Cl b4 T_uint8 [.int .u8 ((48 + g : Nat) : Int)]] := by
    refine Rw.lit b4 [UInt8.ofNat (48 + g)] encU ?_ rfl (by simp [maxLen])
    have : g = 0 ∨ g = 1 ∨ g = 2 ∨ g = 3 ∨ g = 4 ∨ g = 5 ∨ g = 6 ∨ g = 7 ∨ g = 8 ∨ g = 9 := by omega
    rcases this with rfl | rfl | rfl | rfl | rfl | rfl | rfl | rfl | rfl | rfl <;> rfl
   refine cvBS und_s8 und_u8 und_str (Rw.rd encU h 0 rfl hr) ?_
   refine ⟨_, rfl, ?_⟩
   have e2 : (⟨[UInt8.ofNat (48 + g)].toArray⟩ : ByteArray) = decD g := by unfold decD; rw [Lib.decDigits_one hc]
   rw [e2]
   exact hk w (dl0_ h)
theorem S_DigitsI (h : St w0 E w) {x : Int} (h0 : 0 ≤ x) (h1 : x ≤ 9000000000000000000) {k : ByteArray → PT} (hk : ∀ w', St w0 E w' → k (decD x.toNat) w') : L.call Pr n_damperref1_Digits [I x] (.one (.one .str)) k w := by
 obtain ⟨g, rfl⟩ : ∃ g : Nat, x = (g : Int) := ⟨x.toNat, by omega⟩
 rw [Int.toNat_natCast] at hk
 exact S_Digits g (Nat.le_refl _) (by omega) h hk
end Go.Proofs.YtkebppklbobjcaaGreatDoor
namespace Go.Proofs.YtkebppklbobjcaaGreatDoor
open Go.Dm
def cW (k : Int) : Cfg := (s_web, k, 1, 0, 1, 0, ())
structure GI (a : ASys) (ver gen : Nat) (last : Int) : Prop where
 n : a.sh.n = ver
 sh : (ver = 0 ∧ gen = 0 ∧ last = -1 ∧ (tget a.sh.m s_web).is = false ∧ (tget a.sh.m s_web).gen = 0) ∨ (0 < ver ∧ 0 ≤ last ∧ 0 < gen ∧ tget a.sh.m s_web = thgOf (cW last) ver gen true)
 gl : gen ≤ ver
 bk : ∀ g, 1 ≤ g → g < 100 → (bkHas a.bk (revB s_web g) = true ↔ g ≤ gen)
 len : a.bk.all.length = gen
end Go.Proofs.YtkebppklbobjcaaGreatDoor
namespace Go.Proofs.YtkebppklbobjcaaGreatDoor
open Go.Dm
attribute [local irreducible] L.load L.store L.chk L.new L.nonnil L.guard L.ite L.draw L.idx L.sem L.semR L.semU L.chkSem L.next L.call L.callV L.join L.alts L.loop L.begin L.endRound L.range
variable {w0 w : World} {E : List Seg}
def eEv (e : AEv) : List Value := [I e.kind, .string e.name, .string e.tag, I e.n, I e.draw, .string e.c.1, I e.c.2.1, I e.c.2.2.1, I e.c.2.2.2.1, I e.c.2.2.2.2.1, I e.c.2.2.2.2.2.1, .string e.r.name, .string e.r.cfg, .slice e.v.a e.v.len e.v.cap, I e.r.roll]
theorem encEv : Enc eEv 15 := ⟨fun _ => rfl, fun _ => rfl, by decide⟩
def sysRun (a : ASys) (l : List AEv) : ASys := l.foldl (fun a e => (sysDo a e).1) a
theorem sysRun_cons (a : ASys) (e : AEv) (l : List AEv) : sysRun a (e :: l) = sysRun (sysDo a e).1 l := rfl
theorem sysRun_take {a : ASys} {l : List AEv} {j : Nat} {e : AEv} (h : l[j]? = some e) : sysRun a (l.take (j + 1)) = (sysDo (sysRun a (l.take j)) e).1 := by
 unfold sysRun
 rw [List.take_succ, h, Option.toList_some, List.foldl_append]
 rfl
theorem shDrop_n (a : AShelf) (kind : Int) (n : ByteArray) (v : Int) : (shDrop a kind n v).1.n ≤ a.n + 1 := by
 unfold shDrop
 repeat' split
 all_goals dsimp only; omega
theorem sysDo_n (a : ASys) (e : AEv) : (sysDo a e).1.sh.n ≤ a.sh.n + 1 := by
 by_cases hb : chkEv e = 0
 ·rcases kind_cases hb with hc | hc | hc | hc | hc | hc | hc | hc | hc | hc | hc | hc | hc
  ·rw [sysDo_1 hb hc]; unfold sysConfig shPut; repeat' split
   all_goals dsimp only; omega
  ·rw [sysDo_2 hb hc]; unfold sysRoute shPutR; repeat' split
   all_goals dsimp only; omega
  ·rw [sysDo_3 hb hc]; unfold sysDrop; have := shDrop_n a.sh e.n e.name e.draw; split <;> exact this
  ·rw [sysDo_4 hb hc]; unfold sysArrive; split <;> (dsimp only; omega)
  ·rw [sysDo_5 hb hc]; unfold sysDone; dsimp only; omega
  ·rw [sysDo_6 hb hc]; unfold sysUp; split <;> (dsimp only; omega)
  ·rw [sysDo_7 hb (.inl hc)]; unfold sysDown; split <;> (dsimp only; omega)
  ·rw [sysDo_7 hb (.inr hc)]; unfold sysDown; split <;> (dsimp only; omega)
  ·rw [sysDo_9 hb hc]; unfold sysTick; split <;> (dsimp only; omega)
  ·rw [sysDo_10 hb hc]; unfold sysStamp; repeat' split
   all_goals dsimp only; omega
  ·rw [sysDo_11 hb hc]; unfold sysLead; repeat' split
   all_goals dsimp only; omega
  ·rw [sysDo_12 hb hc]; unfold sysScale; repeat' split
   all_goals dsimp only; omega
  ·rw [sysDo_13 hb hc]; unfold sysPods; split <;> (dsimp only; omega)
 ·rw [sysDo_bad hb]; dsimp only; omega
theorem sysRun_n : ∀ (l : List AEv) (a : ASys), (sysRun a l).sh.n ≤ a.sh.n + l.length
 | [], a => by simp [sysRun]
 | e :: l, a => by
  have h1 := sysRun_n l (sysDo a e).1
  have h2 := sysDo_n a e
  rw [sysRun_cons, List.length_cons]
  omega
abbrev evW (x : EvT) : Value := .agg #[.int .i64 x.1, .string x.2.1, .string x.2.2.1, .int .i64 x.2.2.2.1, .int .i64 x.2.2.2.2.1, .string x.2.2.2.2.2.1, .int .i64 x.2.2.2.2.2.2.1, .int .i64 x.2.2.2.2.2.2.2.1, .int .i64 x.2.2.2.2.2.2.2.2.1, .int .i64 x.2.2.2.2.2.2.2.2.2.1, .int .i64 x.2.2.2.2.2.2.2.2.2.2.1, .string x.2.2.2.2.2.2.2.2.2.2.2.1, .string x.2.2.2.2.2.2.2.2.2.2.2.2.1, .slice x.2.2.2.2.2.2.2.2.2.2.2.2.2.1.a x.2.2.2.2.2.2.2.2.2.2.2.2.2.1.len x.2.2.2.2.2.2.2.2.2.2.2.2.2.1.cap, .int .i64 x.2.2.2.2.2.2.2.2.2.2.2.2.2.2.1]
abbrev evLs : List Lf := [.int .i64, .str, .str, .int .i64, .int .i64, .str, .int .i64, .int .i64, .int .i64, .int .i64, .int .i64, .str, .str, .slice, .int .i64]
abbrev evB (b : Nat) (l : List AEv) : Seg := [Cl b T_api_Event (fl eEv l)]
theorem S_stepAt {ks : Int → Bool} [Kn w0 ks] {b5 sb n : Nat} {l : List AEv} (hn : n = l.length) (hm : n ≤ 1000) {j : Nat} {e : AEv} (he : l[j]? = some e) {a : ASys} {s : Seg} (h : St w0 (s :: evB b5 l :: E) w) (hs : SysS sb a s) (hke : ks e.kind = true ∧ chkEv e = 0) (ev : EvIn w0 (s :: evB b5 l :: E) 0 e)
  {k0 : Nat} (inv : SInv k0 a) (hk0 : k0 ≤ 9000) (hsh : a.sh.n < 99) {k : Sl → PT} (hk : ∀ v sv s' w', Rw eS T_string 1 v (sysDo a e).2 sv → SysS sb (sysDo a e).1 s' → SInv (k0 + 2) (sysDo a e).1 → St w0 (sv :: s' :: evB b5 l :: E) w' → k v w') :
  L.idx (some ⟨b5, 0, none⟩) (j : Int) n 15 (fun a8 => L.load (.agg evLs) a8 fun (x : EvT) => L.call Pr n_system_System_Do [.pointer (some ⟨sb, 0, none⟩), evW x] (.one (.one .slice)) k) w := by
 have hj : j < l.length := by
  rcases Nat.lt_or_ge j l.length with h | h
  ·exact h
  ·rw [List.getElem?_eq_none h] at he; cases he
 have r : Rw eEv T_api_Event 15 ⟨some ⟨b5, 0, none⟩, n, n⟩ l (evB b5 l) := Rw.lit b5 l encEv rfl hn (Nat.le_trans hm (by decide))
 refine Rw.ix encEv r (n := (j : Int)) (by omega) (by rw [Int.toNat_natCast]; exact hj) fun a8 ha => ?_
 rw [Int.toNat_natCast] at ha
 refine Rw.lda encEv h 1 rfl r ha he (y := e.t) rfl ?_
 exact S_doE h 0 rfl hs hke.1 hke.2 ev inv hk0 hsh fun v sv s' w r hs i2 h => hk v sv s' w r hs i2 h
theorem steps_loop {ks : Int → Bool} [Kn w0 ks] {b5 sb n : Nat} {l : List AEv} (hn : n = l.length) (hm : n ≤ 1000) {a : ASys} {s : Seg} (h : St w0 (s :: evB b5 l :: E) w) (hs : SysS sb a s) (hke : ∀ e ∈ l, ks e.kind = true ∧ chkEv e = 0) (ev : ∀ e ∈ l, ∀ s, EvIn w0 (s :: evB b5 l :: E) 0 e)
  {k0 : Nat} (inv : SInv k0 a) (hk0 : k0 + 2 * n ≤ 9000) (hsh : a.sh.n + n < 99) {rest : PT} (hr : ∀ s' w', SysS sb (sysRun a l) s' → SInv (k0 + 2 * n) (sysRun a l) → St w0 (s' :: evB b5 l :: E) w' → rest w') :
  L.loop (Y := Int × Unit) (0, ()) (fun y again => L.ite (decide (y.1 < ((n : Nat) : Int))) (L.idx (some ⟨b5, 0, none⟩) y.1 n 15 (fun a8 => L.load (.agg evLs) a8 fun (x : EvT) => L.call Pr n_system_System_Do [.pointer (some ⟨sb, 0, none⟩), evW x] (.one (.one .slice)) fun _ => again (IntKind.wrap .i64 (y.1 + 1), ()))) rest) w := by
 refine loop_of (fun q y w => ∃ (j : Nat) (s : Seg), @Eq Int y.1 j ∧ q + j = n ∧ SysS sb (sysRun a (l.take j)) s ∧ SInv (k0 + 2 * j) (sysRun a (l.take j)) ∧ St w0 (s :: evB b5 l :: E) w) n ⟨0, s, rfl, rfl, hs, inv, h⟩ ?_
 clear hs inv
 clear h; (try clear w)
 rintro q ⟨y, ⟨⟩⟩ w ⟨j, s, hy, hq, hs, inv, h⟩ again hag
 (try dsimp only)
 simp only at hy
 subst hy
 refine it (fun hb => ?_) (fun hb => ?_) <;> (try simp only [decide_eq_true_eq, decide_eq_false_iff_not, beq_iff_eq, bne_iff_ne, beq_eq_false_iff_ne, bne_eq_false_iff_eq, Bool.not_eq_true', Bool.not_eq_false', ne_eq, Bool.not_eq_true, Bool.not_eq_false] at hb)
 ·have hj : j < l.length := by omega
  have hx : l[j]? = some l[j] := List.getElem?_eq_getElem hj
  have hnn := sysRun_n (l.take j) a
  have hlt : (l.take j).length ≤ j := by rw [List.length_take]; omega
  refine S_stepAt hn hm hx h hs (hke _ (List.getElem_mem hj)) (ev _ (List.getElem_mem hj) s) inv (by omega) (by omega) fun v sv s' w r hs i2 h => ?_
  refine hag (q - 1) _ w (by omega) ⟨j + 1, s', ?_, by omega, ?_, ?_, dl0_ h⟩
  ·show IntKind.wrap .i64 _ = _
   rw [wr (by omega) (by omega)]; omega
  ·rw [sysRun_take hx]; exact hs
  ·rw [sysRun_take hx]; exact i2
 ·have ej : l.take j = l := List.take_of_length_le (by omega)
  have e : j = n := by omega
  rw [ej] at hs inv
  subst e
  exact hr s w hs inv h
abbrev evC (ver : Int) (c : Cfg) : AEv := ⟨1, s_, s_, ver, 0, c, noRt15, noSl⟩
abbrev evR (ver : Int) (r : ARt) (v : Sl) : AEv := ⟨2, s_, s_, ver, 0, noCfg, r, v⟩
abbrev evN (kind n : Int) : AEv := ⟨kind, s_, s_, n, 0, noCfg, noRt15, noSl⟩
abbrev evNm (kind : Int) (name : ByteArray) : AEv := ⟨kind, name, s_, 0, 0, noCfg, noRt15, noSl⟩
theorem chk_R {ver : Int} {r : ARt} {v : Sl} (hv : 0 ≤ ver ∧ ver ≤ 2147483647) (hr : specE r = 0) : chkEv (evR ver r v) = 0 := by
 have hn : noneE (true, false, false, false, false, true, ()) (evR ver r v) = true := by
  have : sameC noCfg noCfg = true := by decide
  simp [noneE, this]
 have hm : numE (evR ver r v) = true := by
  simp only [numE, wiB]
  rw [if_pos (.inr trivial)]
  simp only [Bool.and_eq_true, decide_eq_true_eq]
  omega
 unfold chkEv
 have hp : shp 2 = ((true, false, false, false, false, true, ()), true) := rfl
 simp only [hp]
 rw [if_neg (by decide)]
 unfold chkS
 rw [hn, hm]
 simp [hr]
theorem rev_web1 : RevN s_web_1 := ⟨s_web, 1, by decide, by decide, by decide, by decide +kernel⟩
abbrev cfgW (img conc min max grace : Int) : Cfg := (s_web, img, conc, min, max, grace, ())
end Go.Proofs.YtkebppklbobjcaaGreatDoor
namespace Go.Proofs.YtkebppklbobjcaaGreatDoor
open Go.Dm
abbrev shr1 (n : ByteArray) (x : Int) : Shr := (n, x, ())
abbrev rtW (w : Int) : ARt := ⟨s_front, s_web, [(s_, s_, (100 : Int), ())], w⟩
abbrev rolEvs (b8 : Nat) (w : Int) : List AEv := [evC 0 (cfgW 0 1 1 2 0), evR 0 (rtW w) ⟨some ⟨b8, 0, none⟩, 1, 1⟩, evNm 10 s_web, evNm 13 s_web_1, evN 6 1, evNm 11 s_front, evC 1 (cfgW 3 1 1 2 0), evNm 10 s_web, evNm 13 s_web_2, evN 6 2, evNm 11 s_front]
abbrev rolSH (w : Int) : AShelf := ⟨[(s_web, thgOf (cfgW 3 1 1 2 0) 3 2 true)], [(s_front, ⟨rtW w, 2, 1, true⟩)], 3⟩
abbrev rolBK : ABook := ⟨[(s_web_1, rvOf s_web_1 1 (cfgW 0 1 1 2 0)), (s_web_2, rvOf s_web_2 2 (cfgW 3 1 1 2 0))], [(s_web_1, true), (s_web_2, true)]⟩
abbrev rolRO (w : Int) (ns : List Shr) : ARoll := [(s_front, ⟨[shr1 s_web_1 100], [shr1 s_web_2 100], 0, w, ns, []⟩)]
theorem rol_all (b8 : Nat) : ((List.range 60).map fun w : Nat => let a := sysRun (newSys 9 2 9) (rolEvs b8 (1 + (w : Int))); (a.sh, a.bk, a.ro, a.now)) = (List.range 60).map fun w : Nat => (rolSH (1 + (w : Int)), rolBK, rolRO (1 + (w : Int)) [shr1 s_web_1 100], 0) := by kernel_rfl
structure RolI (w now : Int) (a : ASys) : Prop where
 sh : a.sh = rolSH w
 bk : a.bk = rolBK
 ro : ∃ ns, a.ro = rolRO w ns
 now : a.now = now
theorem rol_start (b8 : Nat) {x : Int} (h : 0 ≤ x ∧ x < 60) : RolI (1 + x) 0 (sysRun (newSys 9 2 9) (rolEvs b8 (1 + x))) := by
 have h1 := List.map_eq_map_iff.1 (rol_all b8) x.toNat (List.mem_range.2 (by omega))
 have e : ((x.toNat : Nat) : Int) = x := by omega
 rw [e] at h1
 simp only [Prod.mk.injEq] at h1
 exact ⟨h1.1, h1.2.1, ⟨_, h1.2.2.1⟩, h1.2.2.2⟩
theorem rol_tick {w now : Int} {a : ASys} (h : RolI w now a) (hn : 0 ≤ now ∧ now < 100000) : RolI w (now + 1) (sysDo a (evN 9 0)).1 := by
 rw [sysDo_9 (by decide +kernel) rfl]
 unfold sysTick
 rw [if_neg (by rw [h.now]; omega)]
 exact ⟨h.sh, h.bk, h.ro, by show a.now + 1 = now + 1; rw [h.now]⟩
def rolSh (n : Nat) : List Shr := (if n < 100 then [shr1 s_web_1 (100 - (n : Int))] else []) ++ (if 0 < n then [shr1 s_web_2 n] else [])
def rolN (w now : Int) : Nat := (if 100 * now / w < 100 then 100 * now / w else 100).toNat
theorem rol_shares {w now : Int} (hw : 1 ≤ w) (hn : 0 ≤ now) : sharesOf [shr1 s_web_1 100] [shr1 s_web_2 100] now w = rolSh (rolN w now) := by
 unfold sharesOf
 by_cases h1 : w ≤ 0 ∨ w ≤ now
 ·rw [if_pos h1]
  have h2 : w ≤ now := by omega
  have h3 : ¬ 100 * now / w < 100 := by
   have : 100 ≤ 100 * now / w := Int.le_ediv_of_mul_le (by omega) (by omega)
   omega
  unfold rolN
  rw [if_neg h3]
  rfl
 ·rw [if_neg h1]
  have h2 : now < w := by omega
  by_cases h3 : now ≤ 0
  ·rw [if_pos h3]
   have : now = 0 := by omega
   subst this
   have e : rolN w 0 = 0 := by unfold rolN; simp
   rw [e]
   rfl
  ·rw [if_neg h3]
   have hlt : 100 * now / w < 100 := Int.ediv_lt_of_lt_mul (by omega) (by omega)
   have h0 : 0 ≤ 100 * now / w := Int.ediv_nonneg (by omega) (by omega)
   have eN : ((rolN w now : Nat) : Int) = 100 * now / w := by unfold rolN; rw [if_pos hlt]; omega
   have en : namesOf [shr1 s_web_1 100] [shr1 s_web_2 100] = [s_web_1, s_web_2] := by kernel_rfl
   have u1 : upOf [shr1 s_web_1 100] [shr1 s_web_2 100] now w s_web_1 = 0 := by kernel_rfl
   have u2 : upOf [shr1 s_web_1 100] [shr1 s_web_2 100] now w s_web_2 = 100 * now / w := by
    show (if (0 : Int) < 100 - 0 then (100 - 0) * now / w else 0) = _
    rw [if_pos (by decide)]
    rfl
   have w11 : wOf [shr1 s_web_1 100] s_web_1 = 100 := by kernel_rfl
   have w12 : wOf [shr1 s_web_2 100] s_web_1 = 0 := by kernel_rfl
   have w21 : wOf [shr1 s_web_1 100] s_web_2 = 0 := by kernel_rfl
   have w22 : wOf [shr1 s_web_2 100] s_web_2 = 100 := by kernel_rfl
   unfold rollL
   rw [en]
   simp only [List.map_cons, List.map_nil, List.sum_cons, List.sum_nil, List.foldl_cons, List.foldl_nil]
   unfold rollStep
   simp only [u1, u2, w11, w12, w21, w22]
   generalize 100 * now / w = x at *
   unfold rolSh
   have hx : rolN w now < 100 := by omega
   rw [if_pos hx, eN]
   simp only [show (0 : Int) < 100 - 0 by decide, if_true, show ¬ (0 : Int) < 0 - 100 by decide, if_false, Int.zero_add, Int.add_zero, List.nil_append]
   have hi : (if x < 100 - 0 then x else 100 - 0) = x := if_pos (by omega)
   have h5 : 100 + (0 - x) = 100 - x := by omega
   rw [hi, h5, if_pos (show 0 < 100 - x by omega)]
   by_cases hz : 0 < x
   ·rw [if_pos hz, if_pos (by omega)]
   ·rw [if_neg hz, if_neg (by omega), List.append_nil]
def rolLine (n : Nat) : ByteArray := if n = 100 then s_table_front_web_2_100 else if n = 0 then s_table_front_web_1_100 else ((s_table_front_web_1_ ++ decD (100 - n)) ++ s__web_2__467c) ++ decD n
theorem rol_text {n : Nat} (h : n ≤ 100) : lineB s_table [s_front, tabText ⟨rolSh n, []⟩] = rolLine n := by
 have h1 : ((List.range 101).all fun n => decide (lineB s_table [s_front, tabText ⟨rolSh n, []⟩] = rolLine n)) = true := by decide +kernel
 have := List.all_eq_true.1 h1 n (List.mem_range.2 (by omega))
 exact of_decide_eq_true this
theorem rolN_le (w now : Int) : rolN w now ≤ 100 := by unfold rolN; split <;> omega
theorem rol_lead {w now : Int} {a : ASys} (h : RolI w now a) (hw : 1 ≤ w) (hn : 0 ≤ now) : RolI w now (sysDo a (evNm 11 s_front)).1 ∧ (sysDo a (evNm 11 s_front)).2 = [rolLine (rolN w now)] := by
 obtain ⟨ns, hro⟩ := h.ro
 have hr : shRt a.sh s_front = (rtW w, 2, true) := by rw [h.sh]; kernel_rfl
 have ht : ldTab a s_front = (⟨[shr1 s_web_2 100], []⟩, 0) := by
  unfold ldTab
  rw [hr, h.bk]
  kernel_rfl
 have hway : wayOf a.ro s_front ⟨[shr1 s_web_2 100], []⟩ a.now w = ⟨[shr1 s_web_1 100], [shr1 s_web_2 100], 0, w, ns, []⟩ := by
  unfold wayOf
  have hm : mget a.ro s_front = some ⟨[shr1 s_web_1 100], [shr1 s_web_2 100], 0, w, ns, []⟩ := by rw [hro]; kernel_rfl
  rw [hm]
  exact if_pos ⟨rfl, rfl⟩
 have hno : nowOf a.ro s_front ⟨[shr1 s_web_2 100], []⟩ a.now w = ⟨rolSh (rolN w now), []⟩ := by
  unfold nowOf
  rw [hway, h.now]
  dsimp only
  rw [Int.sub_zero, rol_shares hw hn]
 rw [sysDo_11 (by decide +kernel) rfl]
 unfold sysLead
 dsimp only
 rw [hr, ht]
 dsimp only
 rw [if_neg (by decide), if_neg (by decide)]
 unfold ldNow
 rw [ht, hr]
 dsimp only
 rw [hno, rol_text (rolN_le w now)]
 refine ⟨⟨h.sh, h.bk, ⟨rolSh (rolN w now), ?_⟩, h.now⟩, rfl⟩
 show roTurn a.ro s_front ⟨[shr1 s_web_2 100], []⟩ a.now w = _
 unfold roTurn
 rw [hway, hno, hro]
 kernel_rfl
end Go.Proofs.YtkebppklbobjcaaGreatDoor
namespace Go.Proofs.YtkebppklbobjcaaGreatDoor
open Go.Dm
attribute [local irreducible] L.load L.store L.chk L.new L.nonnil L.guard L.ite L.draw L.idx L.sem L.semR L.semU L.chkSem L.next L.call L.callV L.join L.alts L.loop L.begin L.endRound L.range
variable {w0 w : World} {E : List Seg}
theorem rol_in {b8 b10 : Nat} {w' : Int} : ∀ e ∈ rolEvs b8 w', ∀ s : Seg, EvIn w0 (s :: evB b10 (rolEvs b8 w') :: [Cl b8 T_api_Target [.string s_, .string s_, I 100]] :: E) 0 e := by
 intro e he s
 simp only [rolEvs, List.mem_cons, List.not_mem_nil, or_false] at he
 rcases he with rfl | rfl | rfl | rfl | rfl | rfl | rfl | rfl | rfl | rfl | rfl
 ·exact EvIn.plain rfl rfl fun h => absurd h (show ¬ ((1 : Int) = 12 ∨ (1 : Int) = 13) by decide)
 ·refine ⟨?_, Nat.le_refl 1, (fun h => by cases h), (fun t ht => ?_), fun h => absurd h (show ¬ ((2 : Int) = 12 ∨ (2 : Int) = 13) by decide)⟩
  ·exact Rw.re encT 1 rfl (Rw.lit b8 (rtW w').ts encT rfl rfl (by decide))
  ·rw [List.mem_singleton] at ht
   subst ht
   exact .inl rfl
 ·exact EvIn.plain rfl rfl fun h => absurd h (show ¬ ((10 : Int) = 12 ∨ (10 : Int) = 13) by decide)
 ·exact EvIn.plain rfl rfl fun _ => rev_web1
 ·exact EvIn.plain rfl rfl fun h => absurd h (show ¬ ((6 : Int) = 12 ∨ (6 : Int) = 13) by decide)
 ·exact EvIn.plain rfl rfl fun h => absurd h (show ¬ ((11 : Int) = 12 ∨ (11 : Int) = 13) by decide)
 ·exact EvIn.plain rfl rfl fun h => absurd h (show ¬ ((1 : Int) = 12 ∨ (1 : Int) = 13) by decide)
 ·exact EvIn.plain rfl rfl fun h => absurd h (show ¬ ((10 : Int) = 12 ∨ (10 : Int) = 13) by decide)
 ·exact EvIn.plain rfl rfl fun _ => ⟨s_web, 2, by decide, by decide, by decide, by decide +kernel⟩
 ·exact EvIn.plain rfl rfl fun h => absurd h (show ¬ ((6 : Int) = 12 ∨ (6 : Int) = 13) by decide)
 ·exact EvIn.plain rfl rfl fun h => absurd h (show ¬ ((11 : Int) = 12 ∨ (11 : Int) = 13) by decide)
abbrev ksRol (k : Int) : Bool := k == 1 || k == 2 || k == 6 || k == 9 || k == 10 || k == 11 || k == 13
instance knRol [bTab w0] : Kn w0 ksRol := ⟨by
 intro E w h i b a s hi hs e hks hb ev k0 inv hk0 hn k hk
 have hc : e.kind = 1 ∨ e.kind = 2 ∨ e.kind = 6 ∨ e.kind = 9 ∨ e.kind = 10 ∨ e.kind = 11 ∨ e.kind = 13 := by simpa [ksRol, or_assoc] using hks
 rcases hc with hc | hc | hc | hc | hc | hc | hc
 ·exact S_dE1 h i hi hs hb hc ev inv hk0 hn hk
 ·exact S_dE2 h i hi hs hb hc ev inv hk0 hn hk
 ·exact S_dE6 h i hi hs hb hc ev inv hk0 hn hk
 ·exact S_dE9 h i hi hs hb hc ev inv hk0 hn hk
 ·exact S_dE10 h i hi hs hb hc ev inv hk0 hn hk
 ·exact S_dE11 h i hi hs hb hc ev inv hk0 hn hk
 ·exact S_dE13 h i hi hs hb hc ev inv hk0 hn hk⟩
theorem specE_W {w : Int} (h : 0 ≤ w ∧ w ≤ 60) : specE (rtW w) = 0 := by
 have h1 : ((List.range 61).all fun p : Nat => decide (specE (rtW p) = 0)) = true := by decide +kernel
 have h2 := of_decide_eq_true (List.all_eq_true.1 h1 w.toNat (List.mem_range.2 (by omega)))
 have e : ((w.toNat : Nat) : Int) = w := by omega
 rwa [e] at h2
theorem rol_k {b8 : Nat} {w' : Int} (h : 0 ≤ w' ∧ w' ≤ 60) : ∀ e ∈ rolEvs b8 w', ksRol e.kind = true ∧ chkEv e = 0 := by
 intro e he
 simp only [rolEvs, List.mem_cons, List.not_mem_nil, or_false] at he
 rcases he with rfl | rfl | rfl | rfl | rfl | rfl | rfl | rfl | rfl | rfl | rfl
 ·exact ⟨rfl, by decide +kernel⟩
 ·exact ⟨rfl, chk_R ⟨by decide, by decide⟩ (specE_W h)⟩
 all_goals exact ⟨rfl, by decide +kernel⟩
theorem W_SystemRolls [bTab w0] (x : Int) (p1 : Sl) {xs : List Int} (o : Old w0 eI p1 xs) : Calls Pr n_damperlaw15_SystemRolls #[I x, SlV p1] w0 fun e w' => e = .returned (.bool true) ∧ St w0 [] w' := by
 refine law_of (args := [I x, SlV p1]) (C_damperlaw15_SystemRolls x p1) ?_
 unfold F_damperlaw15_SystemRolls
 have h := St.init w0
 refine S_known15 h fun w h => itF rfl ?_
 refine S_sysNew h (fun hh => absurd hh (by decide)) fun _ b s w hs h => itF rfl (itF rfl ?_)
 refine S_within15 (by decide) (by decide) ?_
 have hx : 0 ≤ x % 60 ∧ x % 60 < 60 := by omega
 generalize x % 60 = x3 at *
 have e13 : IntKind.wrap .i64 (1 + x3) = 1 + x3 := wr (by omega) (by omega)
 rw [e13]
 have inv0 : SInv 0 (newSys 9 2 9) := new_inv (by decide) (by decide)
 refine nw h ?_; clear h; (try clear w); intro b4 w h
 (refine stC h ?_; clear h; (try clear w); intro w h; dsimp only [putN, setN] at h; refine laC h ?_)
 refine nw h ?_; clear h; (try clear w); intro b6 w h
 (refine stC h ?_; clear h; (try clear w); intro w h; dsimp only [putN, setN] at h; refine stC h ?_; clear h; (try clear w); intro w h; dsimp only [putN, setN] at h; refine laC h ?_)
 refine nw h ?_; clear h; (try clear w); intro b8 w h
 (refine laC h ?_)
 refine nw h ?_; clear h; (try clear w); intro b10 w h
 have h : St w0 (evB b10 (rolEvs b8 (1 + x3)) :: [Cl b8 T_api_Target [.string s_, .string s_, I 100]] :: [Cl b6 T_api_Config (Cfg.cells (cfgW 3 1 1 2 0))] :: [Cl b4 T_api_Config (Cfg.cells (cfgW 0 1 1 2 0))] :: s :: []) w := h
 have h := fr4_ h
 have ev := rol_in (w0 := w0) (b8 := b8) (b10 := b10) (w' := 1 + x3) (E := [Cl b6 T_api_Config (Cfg.cells (cfgW 3 1 1 2 0))] :: [Cl b4 T_api_Config (Cfg.cells (cfgW 0 1 1 2 0))] :: [])
 refine steps_loop (n := 11) (l := rolEvs b8 (1 + x3)) rfl (by decide) h hs (rol_k ⟨by omega, by omega⟩) ev inv0 (by decide) (show (newSys 9 2 9).sh.n + ((11 : Nat) : Int) < 99 by decide) fun s w hs inv h => ?_
 have hst := rol_start b8 hx
 have hn0 : (sysRun (newSys 9 2 9) (rolEvs b8 (1 + x3))).sh.n = 3 := by rw [hst.sh]
 generalize sysRun (newSys 9 2 9) (rolEvs b8 (1 + x3)) = a0 at *
 have h := dl1_ (dl1_ (dl1_ (dl1_ h)))
 clear ev inv0
 refine join_of (fun (z : Int × Unit) w => ∃ (a : ASys) (s : Seg), SysS b a s ∧ a.now = z.1 ∧ St w0 [s] w) (fun k16 hk16 => ?_) ?_
 ·refine loop_of (fun q y w => ∃ (j now k0 : Nat) (a : ASys) (s : Seg), q + j = 30 ∧ @Eq Int y.1 now ∧ @Eq Int y.2.1 j ∧ now ≤ 5 * j ∧ k0 ≤ 100 + 2 * (6 * j) ∧ RolI (1 + x3) now a ∧ SInv k0 a ∧ SysS b a s ∧ St w0 [s] w) 30 ⟨0, 0, _, a0, s, rfl, rfl, rfl, Nat.le_refl _, by decide, hst, inv, hs, h⟩ ?_
  clear hst hs inv hn0
  clear h; (try clear w)
  rintro q ⟨y1, y2, ⟨⟩⟩ w ⟨j, now, k0, a, s, hq, hy1, hy2, hnow, hk0, hR, inv, hs, h⟩ again hag
  (try dsimp only)
  simp only at hy1 hy2
  subst hy1 hy2
  have done : k16 ((now : Int), ()) w := hk16 _ w ⟨a, s, hs, hR.now, h⟩
  refine it (fun hb => ?_) (fun hb => done)
  refine it (fun hb2 => ?_) (fun hb2 => done)
  clear done
  have hj : j < 30 := by have := of_decide_eq_true hb2; omega
  have hjl : (j : Int) < p1.len := by simpa using hb
  refine loop_of (fun q2 y w => ∃ (i now k0 : Nat) (a : ASys) (s : Seg), q2 + i = 5 ∧ @Eq Int y.1 now ∧ @Eq Int y.2.1 i ∧ now ≤ 5 * j + i ∧ k0 ≤ 100 + 2 * (6 * j + i) ∧ RolI (1 + x3) now a ∧ SInv k0 a ∧ SysS b a s ∧ St w0 [s] w) 5 ⟨0, now, k0, a, s, rfl, rfl, rfl, hnow, hk0, hR, inv, hs, h⟩ ?_
  clear hnow hk0 hR inv hs h
  rintro q2 ⟨z1, z2, ⟨⟩⟩ w ⟨i, now, k0, a, s, hq2, hz1, hz2, hnow, hk0, hR, inv, hs, h⟩ again2 hag2
  (try dsimp only)
  simp only at hz1 hz2
  subst hz1 hz2
  refine oldI o h (by omega) (by (try dsimp only); omega) fun x23 hx23 => ?_
  refine S_within15 (by decide) (by decide) ?_
  have h6 : 0 ≤ x23 % 6 ∧ x23 % 6 < 6 := by omega
  generalize x23 % 6 = x24 at *
  have hn3 : a.sh.n = 3 := by rw [hR.sh]
  refine it (fun hc => ?_) (fun hc => ?_)
  ·have hc : (i : Int) < x24 := of_decide_eq_true hc
   refine S_doE (ks := ksRol) (e := evN 9 0) h 0 rfl hs rfl (by decide +kernel) (EvIn.plain rfl rfl fun h => absurd h (show ¬ ((9 : Int) = 12 ∨ (9 : Int) = 13) by decide)) inv (by omega) (by rw [hn3]; decide) fun v sv s' w r hs i2 h => ?_
   refine hag2 (q2 - 1) _ w (by omega) ⟨i + 1, now + 1, _, _, s', by omega, ?_, ?_, by omega, by omega, ?_, i2, hs, dl0_ h⟩
   ·show IntKind.wrap .i64 _ = _
    rw [wr (by omega) (by omega)]; omega
   ·show IntKind.wrap .i64 _ = _
    rw [wr (by omega) (by omega)]; omega
   ·exact rol_tick hR ⟨by omega, by omega⟩
  ·have hl := rol_lead hR (by omega) (by omega)
   refine S_doE (ks := ksRol) (e := evNm 11 s_front) h 0 rfl hs rfl (by decide +kernel) (EvIn.plain rfl rfl fun h => absurd h (show ¬ ((11 : Int) = 12 ∨ (11 : Int) = 13) by decide)) inv (by omega) (by rw [hn3]; decide) fun v sv s' w r hs i2 h => ?_
   rw [hl.2] at r
   have hR2 := hl.1
   clear hl
   have e1 : IntKind.wrap .i64 (100 * (now : Int)) = 100 * (now : Int) := wr (by omega) (by omega)
   have e2 : Int.tdiv (100 * (now : Int)) (1 + x3) = 100 * (now : Int) / (1 + x3) := Int.tdiv_eq_ediv_of_nonneg (by omega)
   have h0 : 0 ≤ 100 * (now : Int) / (1 + x3) := Int.ediv_nonneg (by omega) (by omega)
   have hle : 100 * (now : Int) / (1 + x3) ≤ 100 * (now : Int) := Int.ediv_le_self _ (by omega)
   have e3 : IntKind.wrap .i64 (100 * (now : Int) / (1 + x3)) = 100 * (now : Int) / (1 + x3) := wr (by omega) (by omega)
   rw [e1, e2, e3]
   have hN : (if 100 * (now : Int) / (1 + x3) < 100 then 100 * (now : Int) / (1 + x3) else 100) = ((rolN (1 + x3) now : Nat) : Int) := by
    unfold rolN
    split <;> omega
   rw [hN]
   have hN100 := rolN_le (1 + x3) now
   generalize rolN (1 + x3) now = n at *
   have e4 : IntKind.wrap .i64 (100 - (n : Int)) = ((100 - n : Nat) : Int) := by rw [wr (by omega) (by omega)]; omega
   rw [e4]
   refine gd (by omega) ?_
   refine S_DigitsI h (by omega) (by omega) fun w h => ?_
   rw [Int.toNat_natCast]
   have d1 := decD_le (100 - n)
   have d2 := decD_le n
   have q1 : s_table_front_web_1_.size = 18 := rfl
   have q2' : s__web_2__467c.size = 7 := rfl
   refine gd (by simp only [maxI64]; omega) ?_
   refine gd (by rw [ByteArray.size_append]; simp only [maxI64]; omega) ?_
   refine S_DigitsI h (by omega) (by omega) fun w h => ?_
   rw [Int.toNat_natCast]
   refine gd (by rw [ByteArray.size_append, ByteArray.size_append]; simp only [maxI64]; omega) ?_
   refine join_of (fun (z : ByteArray × Unit) w' => z.1 = (if n = 0 then s_table_front_web_1_100 else ((s_table_front_web_1_ ++ decD (100 - n)) ++ s__web_2__467c) ++ decD n) ∧ w' = w) (fun k hk => ?_) ?_
   ·refine it (fun hc => ?_) (fun hc => ?_)
    ·exact hk _ _ ⟨by rw [if_pos (by simpa using hc)], rfl⟩
    ·exact hk _ _ ⟨by rw [if_neg (by simpa using hc)], rfl⟩
   rintro ⟨z, ⟨⟩⟩ w' ⟨hz, rfl⟩
   dsimp only at hz ⊢
   refine join_of (fun (y : ByteArray × Unit) w'' => y.1 = rolLine n ∧ w'' = w') (fun k hk => ?_) ?_
   ·refine it (fun hc => ?_) (fun hc => ?_)
    ·exact hk _ _ ⟨by unfold rolLine; rw [if_pos (by have : (n : Int) = 100 := by simpa using hc
                                                     omega)], rfl⟩
    ·exact hk _ _ ⟨by unfold rolLine; rw [if_neg (by have : ¬ (n : Int) = 100 := by simpa using hc
                                                     omega), hz], rfl⟩
   rintro ⟨y, ⟨⟩⟩ w'' ⟨hy, rfl⟩
   dsimp only at hy ⊢
   subst hy
   have hlen := Rw.len encS r
   refine itF (by rw [hlen]; rfl) ?_
   refine Rw.ix encS r (by decide) (by simp) fun a33 ha => ?_
   refine Rw.ld0 encS h 0 rfl r ha rfl rfl rfl ?_
   refine itF (by rw [str_eq]; simp) ?_
   refine hag (q - 1) _ _ (by omega) ⟨j + 1, now, _, _, s', by omega, rfl, ?_, by omega, by omega, hR2, i2, hs, dl0_ h⟩
   show IntKind.wrap .i64 _ = _
   rw [wr (by omega) (by omega)]; omega
 ·clear hs h hst inv hn0
  rintro ⟨z, ⟨⟩⟩ w ⟨a, s, hs, hz, h⟩
  dsimp only at hz ⊢
  refine S_sysNow h 0 rfl hs ?_
  exact ⟨by rw [hz]; simp, h.fin⟩
end Go.Proofs.YtkebppklbobjcaaGreatDoor
