/- What is proved on the way to a statement of the seat, pressed (text AJ). No conditions beyond those its theorems state. -/
import Derived.Test.YtkebppklbobjcaaGreatDoorQAI
set_option linter.all false
namespace Go.Proofs.YtkebppklbobjcaaGreatDoor
open Go.Dm
attribute [local irreducible] L.load L.store L.chk L.new L.nonnil L.guard L.ite L.draw L.idx L.sem L.semR L.semU L.chkSem L.next L.call L.callV L.join L.alts L.loop L.begin L.endRound L.range
variable {w0 w : World} {E : List Seg}
theorem Y_lines [bTab w0] {c : Nat} {v : Sl} {fs : List Fate} {sv : Seg} (hr : Rw Fate.cells T_gate_Fate 4 v fs sv) (hok : ∀ f ∈ fs, f.Ok) (hn : fs.length < 1000000000) :
    YldX Pr w0 [[Cl c T_s_gate_Fate [SlV v]], sv] (.func (.func n_system_lines_1) #[] #[.pointer (some ⟨c, 0, none⟩)]) (fs.map fateB).length fun i => TV _ (argS (fs.map fateB) i) := by
  intro yv R J Jd G w h hJ step fin fin2
  refine ⟨E_system_lines_1, C_system_lines_1 yv ⟨c, 0, none⟩ ?_⟩
  unfold F_system_lines_1
  have h : St w0 ([Cl c T_s_gate_Fate [SlV v]] :: sv :: G) w := h
  have hlen := Rw.len encF hr
  ((try dsimp only [setN, List.cons_append, List.nil_append] at h); repeat (first | refine nn ?_ | (refine dr h ?_; clear h; (try clear w); intro w h) | refine ldC h ?_ | refine laC h ?_ | refine ckC h ?_ | (refine stC h ?_; clear h; (try clear w); intro w h; (try dsimp only [putN, setN] at h)) | rw [add_add]))
  refine loop_of (fun q y w => ∃ (j : Nat) (G : List Seg), @Eq Int y.1 j ∧ q + j = fs.length ∧ J j G ∧ St w0 ([Cl c T_s_gate_Fate [SlV v]] :: sv :: G) w) fs.length ⟨0, G, rfl, rfl, hJ, h⟩ ?_
  clear hJ
  clear h; (try clear w)
  rintro q ⟨y, ⟨⟩⟩ w ⟨j, G, hy, hq, hJ, h⟩ again hag
  (try dsimp only)
  simp only at hy
  subst hy
  refine it (fun hb => ?_) (fun hb => ?_) <;> (try simp only [decide_eq_true_eq, decide_eq_false_iff_not, beq_iff_eq, bne_iff_ne, beq_eq_false_iff_ne, bne_eq_false_iff_eq, Bool.not_eq_true', Bool.not_eq_false', ne_eq, Bool.not_eq_true, Bool.not_eq_false] at hb)
  · have hj : j < fs.length := by omega
    have hx : fs[j]? = some fs[j] := List.getElem?_eq_getElem hj
    have ho := hok fs[j] (List.getElem_mem hj)
    generalize fs[j] = x at hx ho
    have next : ∀ {G w}, J (j + 1) G → St w0 ([Cl c T_s_gate_Fate [SlV v]] :: sv :: G) w → again (IntKind.wrap .i64 ((j : Int) + 1), ()) w := by
      intro G w hJ h
      refine hag (q - 1) _ w (by omega) ⟨j + 1, G, ?_, by omega, hJ, h⟩
      show IntKind.wrap .i64 _ = _
      rw [wr (by omega) (by omega)]; omega
    refine Rw.ix encF hr (by omega) (by simpa using hj) fun a ha => ?_
    refine Rw.lda encF h 1 rfl hr ha (x := x) (by simpa using hx) rfl ?_
    refine nw h ?_; clear h; (try clear w); intro b6 w h
    ((try dsimp only [setN, List.cons_append, List.nil_append] at h); repeat (first | refine nn ?_ | (refine dr h ?_; clear h; (try clear w); intro w h) | refine ldC h ?_ | refine laC h ?_ | refine ckC h ?_ | (refine stC h ?_; clear h; (try clear w); intro w h; (try dsimp only [putN, setN] at h)) | rw [add_add]))
    refine S_fate (f := x) h ho fun w h => ?_
    have h := dl0_ h
    have hat : (fs.map fateB)[j]? = some (fateB x) := by rw [List.getElem?_map, hx]; rfl
    have step := step j G [] w (by simpa using hj) hJ (by simpa using h)
    simp only [argS_at hat] at step
    refine cv (FCall.mono step fun u w' hu => ?_)
    rcases hu with ⟨rfl, G', h, hJ⟩ | ⟨rfl, hd⟩
    · exact ⟨true, rfl, itF rfl (next hJ (by simpa using h))⟩
    · exact ⟨false, rfl, itT rfl (fin2 w' hd)⟩
  · have e : j = fs.length := by omega
    subst e
    exact fin G w (by simpa using hJ) h
theorem S_told [bTab w0] {s2 sv : Seg} (h : St w0 (s2 :: sv :: E) w) {v1 v2 : Sl} {fs : List Fate} {l : List ByteArray} (hr : Rw Fate.cells T_gate_Fate 4 v1 fs sv) (hok : ∀ f ∈ fs, f.Ok) (hn : fs.length < 100000000) (hl : l.length < 100000000) (h2 : Rw eS T_string 1 v2 l s2) {k : Sl → PT}
    (hk : ∀ v s w', Rw eS T_string 1 v (l ++ fs.map fateB) s → St w0 (s :: sv :: E) w' → k v w') : L.call Pr n_system_told [SlV v1, SlV v2] (.one (.one .slice)) k w := by
  refine call_of (C_system_told v1 v2) ?_
  unfold F_system_told
  refine nw h ?_; clear h; (try clear w); intro b1 w h
  refine call_of (C_system_lines v1) ?_
  unfold F_system_lines
  refine nw h ?_; clear h; (try clear w); intro c w h
  refine ⟨⟨.func n_system_lines_1, #[], #[.pointer (some ⟨c, 0, none⟩)]⟩, rfl, ?_⟩
  have h : St w0 ([[Cl c T_s_gate_Fate [SlV v1]], sv] ++ ([Cl b1 T_s_string [SlV v2]] :: s2 :: E)) w := by
    have h := fr3_ (fr3_ (fr2_ (fr2_ h)))
    exact h
  refine range_ofX (Y_lines hr hok (by omega)) h (fun m G => ∃ vv s, G = [Cl b1 T_s_string [SlV vv]] :: s :: E ∧ Rw eS T_string 1 vv (l ++ (fs.map fateB).take m) s) (fun j G => False) ⟨v2, s2, rfl, by simpa using h2⟩ ?_ ?_ ?_
  · rintro m G X w lv lp d R hm ⟨vv, so, rfl, hr2⟩ h hN hE
    have hx : (fs.map fateB)[m]? = some (fs.map fateB)[m] := List.getElem?_eq_getElem hm
    have h : St w0 ([Rec lv lp .busy none] :: [DfM d] :: [Cl c T_s_gate_Fate [SlV v1]] :: sv :: [Cl b1 T_s_string [SlV vv]] :: so :: (E ++ X)) w := h
    have et : l ++ (fs.map fateB).take (m + 1) = (l ++ (fs.map fateB).take m) ++ [(fs.map fateB)[m]] := by rw [List.take_add_one, hx, Option.toList_some, List.append_assoc]
    have hlm : (l ++ (fs.map fateB).take m).length < 300000000 := by rw [List.length_append, List.length_take, List.length_map]; omega
    rw [argS_at hx]
    generalize (fs.map fateB)[m] = x at et hx
    dsimp only
    ((try dsimp only [setN, List.cons_append, List.nil_append] at h); repeat (first | refine nn ?_ | (refine dr h ?_; clear h; (try clear w); intro w h) | refine ldC h ?_ | refine laC h ?_ | refine ckC h ?_ | (refine stC h ?_; clear h; (try clear w); intro w h; (try dsimp only [putN, setN] at h)) | rw [add_add]))
    refine nw h ?_; clear h; (try clear w); intro b9 w h
    refine Rw.app encS elS h 5 rfl hr2 x rfl (by omega) (by omega) fun v' s' w hr' h => ?_
    ((try dsimp only [setN, List.cons_append, List.nil_append] at h); repeat (first | refine nn ?_ | (refine dr h ?_; clear h; (try clear w); intro w h) | refine ldC h ?_ | refine laC h ?_ | refine ckC h ?_ | (refine stC h ?_; clear h; (try clear w); intro w h; (try dsimp only [putN, setN] at h)) | rw [add_add]))
    exact hN _ w ⟨v', s', rfl, by rw [et]; exact hr'⟩ h
  · rintro d G w ⟨vv, so, rfl, hr2⟩ h
    rw [List.take_length] at hr2
    have h : St w0 ([DfM d] :: [Cl c T_s_gate_Fate [SlV v1]] :: sv :: [Cl b1 T_s_string [SlV vv]] :: so :: E) w := h
    refine jumpN ?_
    ((try dsimp only [setN, List.cons_append, List.nil_append] at h); repeat (first | refine nn ?_ | (refine dr h ?_; clear h; (try clear w); intro w h) | refine ldC h ?_ | refine laC h ?_ | refine ckC h ?_ | (refine stC h ?_; clear h; (try clear w); intro w h; (try dsimp only [putN, setN] at h)) | rw [add_add]))
    refine S_CloneS h (Rw.rd encS h 4 rfl hr2) (by rw [List.length_append, List.length_map]; omega) (Rw.nil0 encS hr2) fun v' s' w hr' hi h => ?_
    (first | refine um0_ h ?_ | refine um1_ h ?_ | refine um2_ h ?_ | refine um3_ h ?_ | refine um4_ h ?_ | refine um5_ h ?_ | refine um6_ h ?_ | refine um7_ h ?_ | refine um8_ h ?_ | refine um9_ h ?_ | refine um10_ h ?_ | refine um11_ h ?_); clear h; (try clear w); intro w h
    refine ⟨v', rfl, hk v' s' w hr' ?_⟩
    have h := dl1_ (dl3_ (dl4_ h))
    exact h
  · rintro d j G w hf; exact hf.elim
end Go.Proofs.YtkebppklbobjcaaGreatDoor
namespace Go.Proofs.YtkebppklbobjcaaGreatDoor
open Go.Dm
attribute [local irreducible] L.load L.store L.chk L.new L.nonnil L.guard L.ite L.draw L.idx L.sem L.semR L.semU L.chkSem L.next L.call L.callV L.join L.alts L.loop L.begin L.endRound L.range
variable {w0 w : World} {E : List Seg}
def tab {α : Type} (n : Nat) (f : Nat → α) : List α := (List.range n).map f
def sk (l : List AHeld) : List (Int × ByteArray) := l.map fun x => (x.id, x.rev)
theorem FlS.nd {b : Nat} {F : AFleet} {s : Seg} (hf : FlS b F s) : ∀ x ∈ F.l, x.pod.reqs.Pairwise (· < ·) := by
  obtain ⟨-, _, _, _, _, _, _, L, -, -, hr, -⟩ := hf
  intro x hx
  rw [hr.l] at hx
  obtain ⟨t, ht, rfl⟩ := List.mem_map.1 hx
  exact (hr.ps t ht).1.pw
end Go.Proofs.YtkebppklbobjcaaGreatDoor
namespace Go.Proofs.YtkebppklbobjcaaGreatDoor
open Go.Dm
attribute [local irreducible] L.load L.store L.chk L.new L.nonnil L.guard L.ite L.draw L.idx L.sem L.semR L.semU L.chkSem L.next L.call L.callV L.join L.alts L.loop L.begin L.endRound L.range
variable {w0 w : World} {E : List Seg}
def tot (rs : Nat → List Int) : Nat → Nat
  | 0 => 0
  | n + 1 => tot rs n + (rs n).length
structure TL (n c m : Nat) (B : Int) (ready : Nat → Bool) (rs : Nat → List Int) : Prop where
  len : ∀ i, i < n → (rs i).length ≤ c
  nr : ∀ i, i < n → ready i = false → rs i = []
  tot : tot rs n = m
  b : ∀ i, i < n → ∀ q ∈ rs i, 1 ≤ q ∧ q ≤ B
theorem TL.fresh {n c m : Nat} {B q : Int} {ready : Nat → Bool} {rs : Nat → List Int} (t : TL n c m B ready rs) (hq : B < q) : ∀ i, i < n → q ∉ rs i := fun i hi h => by have := t.b i hi q h; omega
end Go.Proofs.YtkebppklbobjcaaGreatDoor
namespace Go.Proofs.YtkebppklbobjcaaGreatDoor
open Go.Dm
attribute [local irreducible] L.load L.store L.chk L.new L.nonnil L.guard L.ite L.draw L.idx L.sem L.semR L.semU L.chkSem L.next L.call L.callV L.join L.alts L.loop L.begin L.endRound L.range
variable {w0 w : World} {E : List Seg}
def lateS (rev : ByteArray) (l : List Int) (all : Alls) : Alls := l.foldl (fun a q => mset a q (rev, 4)) all
def lateF (l : List Int) : List Fate := l.map fun q => (q, 4, 0, s_timeout, ())
theorem lateS_keys {rev : ByteArray} : ∀ {l : List Int} {all : Alls}, (∀ q ∈ l, (mget all q).isSome = true) → (lateS rev l all).map (·.1) = all.map (·.1)
  | [], _, _ => rfl
  | q :: l, all, h => by
    obtain ⟨v, hv⟩ := Option.isSome_iff_exists.1 (h q (by simp))
    have e := mset_keys (u := (rev, (4 : Int))) hv
    refine (lateS_keys (l := l) (all := mset all q (rev, 4)) fun q2 h2 => ?_).trans e
    rw [mget_mset]
    split
    · rfl
    · exact h q2 (by simp [h2])
theorem seen_keys {A B : Alls} (h : A.map (·.1) = B.map (·.1)) (q : Int) : (mget A q).isSome = (mget B q).isSome := by
  cases ha : mget A q with
  | none =>
    have := mget_none.1 ha
    rw [h] at this
    rw [mget_none.2 this]
  | some v =>
    cases hb : mget B q with
    | none =>
      have := mget_none.1 hb
      rw [← h] at this
      rw [mget_none.2 this] at ha; cases ha
    | some u => rfl
def tick1 (now : Int) (k : ByteArray) (G : AGate) : AGate := { G with all := lateS k (lLate (lineOf G.lines k) now) G.all, lines := mset G.lines k (lRest (lineOf G.lines k) now) }
def tickA (now : Int) : List ByteArray → AGate → List Fate → AGate × List Fate
  | [], G, out => (G, out)
  | k :: ks, G, out => tickA now ks (tick1 now k G) (out ++ lateF (lLate (lineOf G.lines k) now))
def gTick (G : AGate) (now : Int) : AGate × List Fate := tickA now (ssort (G.lines.map (·.1))) G []
def GWk (G : AGate) : Prop := ∀ x ∈ G.lines, ∀ y ∈ x.2, (mget G.all y.1).isSome = true
theorem tickA_ge {now : Int} : ∀ {ks : List ByteArray} {G : AGate} {out : List Fate}, out.length ≤ (tickA now ks G out).2.length
  | [], _, _ => Nat.le_refl _
  | k :: ks, G, out => by
    have := tickA_ge (now := now) (ks := ks) (G := tick1 now k G) (out := out ++ lateF (lLate (lineOf G.lines k) now))
    simp only [tickA, List.length_append] at this ⊢
    omega
theorem GWk.line {G : AGate} (h : GWk G) (k : ByteArray) : ∀ y ∈ lineOf G.lines k, (mget G.all y.1).isSome = true := by
  intro y hy
  unfold lineOf at hy
  cases hm : mget G.lines k with
  | none => rw [hm] at hy; simp at hy
  | some l => rw [hm] at hy; exact h _ (mget_mem hm) y hy
theorem GWk.late {G : AGate} (h : GWk G) (k : ByteArray) (now : Int) : ∀ q ∈ lLate (lineOf G.lines k) now, (mget G.all q).isSome = true := by
  intro q hq
  obtain ⟨y, hy, rfl⟩ := List.mem_map.1 hq
  exact h.line k y (List.mem_filter.1 hy).1
theorem GWk.tick1 {G : AGate} (h : GWk G) (k : ByteArray) (now : Int) : GWk (YtkebppklbobjcaaGreatDoor.tick1 now k G) := by
  intro x hx y hy
  have e := lateS_keys (rev := k) (h.late k now)
  show (mget (lateS k (lLate (lineOf G.lines k) now) G.all) y.1).isSome = true
  rw [seen_keys e]
  rcases mset_mem hx with rfl | hx
  · exact h.line k y (List.mem_filter.1 hy).1
  · exact h x hx y hy
theorem AGate.Ok.tick1 {G : AGate} (ok : G.Ok) (h : GWk G) {k : ByteArray} (hk : (mget G.lines k).isSome = true) (now : Int) : (YtkebppklbobjcaaGreatDoor.tick1 now k G).Ok := by
  have e := lateS_keys (rev := k) (h.late k now)
  have e2 : (lateS k (lLate (lineOf G.lines k) now) G.all).length = G.all.length := by
    have := congrArg List.length e; simpa using this
  obtain ⟨v, hv⟩ := Option.isSome_iff_exists.1 hk
  refine ⟨by show (lateS k _ _).length < _; rw [e2]; exact ok.few, ok.lo, ok.hi, fun x hx => ?_, mset_nd ok.nd, by show ((lateS k _ _).map _).Nodup; rw [e]; exact ok.nda, ?_⟩
  · rcases mset_mem hx with rfl | hx
    · have := lineOf_len ok k
      have := lRest_len (lineOf G.lines k) now
      simp only; show _ ≤ G.room; omega
    · exact ok.ln x hx
  · show (mset G.lines k _).length < _
    rw [mset_len hv]; exact ok.fl
abbrev KPt := List (ByteArray × Option Addr)
def argB (m : KPt) (l : List ByteArray) (i : Nat) : TT [.one .str, .one .ptr] := match l[i]? with | some k => (k, (mget m k).getD none, ()) | none => (s_, none, ())
theorem argB_eq {m : KPt} {l : List ByteArray} {i : Nat} {k : ByteArray} (h : l[i]? = some k) : argB m l i = (k, (mget m k).getD none, ()) := by unfold argB; rw [h]
theorem argB_TV {m : KPt} {l : List ByteArray} {i : Nat} {k : ByteArray} (h : l[i]? = some k) : TV _ (argB m l i) = [.string k, .pointer ((mget m k).getD none)] := by rw [argB_eq h]; rfl
theorem S_KLns (h : St w0 E w) (i : Nat) {s : Seg} (hi : nth E i = some s) {r : Nat} {m : KPt} (hm : MpS Value.string Value.pointer r m s) (hn : m.length < 1000000000) {k : Sl → PT}
    (hk : ∀ v s' w', Rw eS T_string 1 v (ssort (m.map (·.1))) s' → St w0 (s' :: E) w' → k v w') :
    L.call Pr n_maps_Keys_map_string_wait_Line_string_wait_Line [.map (some r)] (.one (.one .func)) (fun x5 => L.call Pr n_slices_Sorted_string [.func x5.fn x5.fs x5.cs] (.one (.one .slice)) k) w := by
  refine call_of (C_maps_Keys_map_string_wait_Line_string_wait_Line _) ?_
  unfold F_maps_Keys_map_string_wait_Line_string_wait_Line
  have h := h.front i hi
  refine nw h ?_; clear h; (try clear w); intro c w h
  refine ⟨⟨.func n_maps_Keys_map_string_wait_Line_string_wait_Line_1, #[], #[.pointer (some ⟨c, 0, none⟩)]⟩, rfl, ?_⟩
  have hY : YldM Pr w0 [[Cl c T_map_string_p_wait_Line [.map (some r)]], s] (.func (.func n_maps_Keys_map_string_wait_Line_string_wait_Line_1) #[] #[.pointer (some ⟨c, 0, none⟩)]) (m.map (·.1)) Value.string := by
    intro yv R J Jd F w h hJ step fin fin2
    refine ⟨E_maps_Keys_map_string_wait_Line_string_wait_Line_1, C_maps_Keys_map_string_wait_Line_string_wait_Line_1 yv ⟨c, 0, none⟩ ?_⟩
    unfold F_maps_Keys_map_string_wait_Line_string_wait_Line_1
    exact keys_of (kv := Value.string) (vv := Value.pointer) unS (fun _ => rfl) und_lns (lk := .str) (ev := .one .ptr) (fun x => x) (fun _ => rfl) (fun x : Option Addr => x) (fun _ => rfl) J Jd hm h hJ (fun seen k F X w hl hJ h => step seen k F X w (by simpa using hl) hJ h) fin fin2
  refine S_SortedKeysS (fv := ⟨.func n_maps_Keys_map_string_wait_Line_string_wait_Line_1, #[], #[.pointer (some ⟨c, 0, none⟩)]⟩) hY h (by simpa using hn) fun v s' w hr h => hk v s' w hr ?_
  have h := fr1_ h
  exact St.again (i + 1) (E := s' :: E) hi h
theorem Y_book {c b bf rA rL cc : Nat} {room pat : Int} {m : KPt} {sL : Seg} (hL : MpS Value.string Value.pointer rL m sL) (hn : m.length < 1000000000) :
    YldX Pr w0 [[Cl c T_p_gate_book_p_wait_Line [.pointer (some ⟨b, 2, none⟩)]], gtB b bf rA rL cc room pat, sL]
      (.func (.func n_gate_book_wait_Line_each_1) #[] #[.pointer (some ⟨c, 0, none⟩)]) (ssort (m.map (·.1))).length fun i => TV _ (argB m (ssort (m.map (·.1))) i) := by
  intro yv R J Jd G w h hJ step fin fin2
  refine ⟨E_gate_book_wait_Line_each_1, C_gate_book_wait_Line_each_1 yv ⟨c, 0, none⟩ ?_⟩
  unfold F_gate_book_wait_Line_each_1
  have h : St w0 ([Cl c T_p_gate_book_p_wait_Line [.pointer (some ⟨b, 2, none⟩)]] :: gtB b bf rA rL cc room pat :: sL :: G) w := h
  ((try dsimp only [setN, List.cons_append, List.nil_append] at h); repeat (first | refine nn ?_ | (refine dr h ?_; clear h; (try clear w); intro w h) | refine ldC h ?_ | refine laC h ?_ | refine ckC h ?_ | (refine stC h ?_; clear h; (try clear w); intro w h; (try dsimp only [putN, setN] at h)) | rw [add_add]))
  refine S_KLns h 2 rfl hL hn fun v s w hrow h => ?_
  have hlen := Rw.len encS hrow
  have hl : (ssort (m.map (·.1))).length < 1000000000 := by rw [ssort_len, List.length_map]; exact hn
  generalize ssort (m.map (·.1)) = l at *
  refine loop_of (fun q y w => ∃ (j : Nat) (G : List Seg), @Eq Int y.1 j ∧ q + j = l.length ∧ J j G ∧
    St w0 (s :: [Cl c T_p_gate_book_p_wait_Line [.pointer (some ⟨b, 2, none⟩)]] :: gtB b bf rA rL cc room pat :: sL :: G) w) l.length ⟨0, G, rfl, rfl, hJ, h⟩ ?_
  clear hJ
  clear h; (try clear w)
  rintro q ⟨y, ⟨⟩⟩ w ⟨j, G, hy, hq, hJ, h⟩ again hag
  simp only at hy
  subst hy
  refine it (fun hb => ?_) (fun hb => ?_) <;> (try simp only [decide_eq_true_eq, decide_eq_false_iff_not, beq_iff_eq, bne_iff_ne, beq_eq_false_iff_ne, bne_eq_false_iff_eq, Bool.not_eq_true', Bool.not_eq_false', ne_eq, Bool.not_eq_true, Bool.not_eq_false] at hb)
  · have hj : j < l.length := by omega
    have hx : l[j]? = some l[j] := List.getElem?_eq_getElem hj
    refine Rw.ix encS hrow (by omega) (by simpa using hj) fun a ha => ?_
    refine Rw.ld0 encS h 0 rfl hrow ha (x := l[j]) (by simp [hj]) rfl rfl ?_
    ((try dsimp only [setN, List.cons_append, List.nil_append] at h); repeat (first | refine nn ?_ | (refine dr h ?_; clear h; (try clear w); intro w h) | refine ldC h ?_ | refine laC h ?_ | refine ckC h ?_ | (refine stC h ?_; clear h; (try clear w); intro w h; (try dsimp only [putN, setN] at h)) | rw [add_add]))
    refine MpS.get mkS' und_lns zln (fun x : Option Addr => x) (fun _ => rfl) h 3 rfl hL ?_
    have step := step _ G [s] w hj hJ (St.toEnd (X := [s]) (A := [_, _, _]) h)
    simp only [argB_TV hx] at step
    simp only [Option.map_id']
    refine cv (FCall.mono step fun u w' hu => ?_)
    rcases hu with ⟨rfl, G', h, hJ⟩ | ⟨rfl, hd⟩
    · refine ⟨true, rfl, itF rfl ?_⟩
      refine hag (q - 1) _ w' (by omega) ⟨j + 1, G', ?_, by omega, hJ, St.ofEnd (X := [s]) (A := [_, _, _]) h⟩
      show IntKind.wrap .i64 _ = _
      rw [wr (by omega) (by omega)]; omega
    · exact ⟨false, rfl, itT rfl (fin2 w' hd)⟩
  · have e : j = l.length := by omega
    subst e
    exact fin G w hJ (dl0_ h)
end Go.Proofs.YtkebppklbobjcaaGreatDoor
namespace Go.Proofs.YtkebppklbobjcaaGreatDoor
open Go.Dm
attribute [local irreducible] L.load L.store L.chk L.new L.nonnil L.guard L.ite L.draw L.idx L.sem L.semR L.semU L.chkSem L.next L.call L.callV L.join L.alts L.loop L.begin L.endRound L.range
variable {w0 w : World} {E : List Seg}
theorem lateS_take {rev : ByteArray} {l : List Int} {j : Nat} {q : Int} {all : Alls} (h : l[j]? = some q) : lateS rev (l.take (j + 1)) all = mset (lateS rev (l.take j) all) q (rev, 4) := by
  unfold lateS; rw [List.take_add_one, h, Option.toList_some, List.foldl_append]; rfl
theorem lateF_take {l : List Int} {j : Nat} {q : Int} (h : l[j]? = some q) : lateF (l.take (j + 1)) = lateF (l.take j) ++ [(q, 4, 0, s_timeout, ())] := by
  unfold lateF; rw [List.take_add_one, h, Option.toList_some, List.map_append]; rfl
theorem lateF_len (l : List Int) : (lateF l).length = l.length := List.length_map ..
theorem S_gTick {sg : Seg} (h : St w0 (sg :: E) w) {b bf : Nat} {G : AGate} (hg : GtS b bf G sg) (hw : GWk G) {now : Int} (ho : (gTick G now).2.length < 90000000) {k : Sl → PT}
    (hk : ∀ v sv sg' w', Rw Fate.cells T_gate_Fate 4 v (gTick G now).2 sv → GtS b bf (gTick G now).1 sg' → St w0 (sv :: sg' :: E) w' → k v w') :
    L.call Pr n_gate_Gate_Tick [.pointer (some ⟨b, 0, none⟩), I now] (.one (.one .slice)) k w := by
  obtain ⟨ok, rA, rL, c, sA, sL, Q, hr, rfl⟩ := hg
  refine call_of (C_gate_Gate_Tick _ _) ?_
  unfold F_gate_Gate_Tick
  have h := h.split5
  refine nw h ?_; clear h; (try clear w); intro b1 w h
  refine nw h ?_; clear h; (try clear w); intro b2 w h
  refine nw h ?_; clear h; (try clear w); intro b3 w h
  ((try dsimp only [setN, List.cons_append, List.nil_append] at h); repeat (first | refine nn ?_ | (refine dr h ?_; clear h; (try clear w); intro w h) | refine ldC h ?_ | refine laC h ?_ | refine ckC h ?_ | (refine stC h ?_; clear h; (try clear w); intro w h; (try dsimp only [putN, setN] at h)) | rw [add_add]))
  refine call_of (C_gate_book_wait_Line_each _) ?_
  unfold F_gate_book_wait_Line_each
  refine nw h ?_; clear h; (try clear w); intro cc w h
  refine ⟨⟨.func n_gate_book_wait_Line_each_1, #[], #[.pointer (some ⟨cc, 0, none⟩)]⟩, rfl, ?_⟩
  have h := fr3_ (fr5_ (fr7_ (fr1_ h)))
  have h := h.nil
  have h := fr4_ (fr4_ (fr4_ (fr4_ h)))
  have h : St w0 ([[Cl cc T_p_gate_book_p_wait_Line [.pointer (some ⟨b, 2, none⟩)]], gtB b bf rA rL c G.room G.pat, sL] ++ ([Cl b3 T_s_gate_Fate [SlV ⟨none, 0, 0⟩]] :: [] :: [Cl b2 T_int [I now]] :: [Cl b1 T_p_gate_Gate [.pointer (some ⟨b, 0, none⟩)]] :: [Cl c T_int [I G.room]] :: sA :: (Q.map LnE.sg).flatten :: E)) w := h
  have enm : (Q.map LnE.kp).map (·.1) = G.lines.map (·.1) := by rw [hr.abs]; simp [List.map_map, Function.comp_def]
  have hn : (Q.map LnE.kp).length < 1000000000 := by
    have := congrArg List.length enm; have := ok.fl; simp only [List.length_map] at *; omega
  have hkeys : ssort ((Q.map LnE.kp).map (·.1)) = ssort (G.lines.map (·.1)) := by rw [enm]
  have hkm : ∀ k ∈ ssort ((Q.map LnE.kp).map (·.1)), k ∈ G.lines.map (·.1) := fun k hk => by rw [hkeys] at hk; exact ssort_mem.1 hk
  have hgt : tickA now (ssort ((Q.map LnE.kp).map (·.1))) G [] = gTick G now := by rw [hkeys]; rfl
  refine range_ofX (Y_book (c := cc) (b := b) (bf := bf) (rA := rA) (cc := c) (room := G.room) (pat := G.pat) hr.lns hn) h
    (fun m F => ∃ (v : Sl) (sv sA' : Seg) (Q' : List LnE) (G' : AGate) (out : List Fate), F = [Cl b3 T_s_gate_Fate [SlV v]] :: sv :: [Cl b2 T_int [I now]] :: [Cl b1 T_p_gate_Gate [.pointer (some ⟨b, 0, none⟩)]] :: [Cl c T_int [I G.room]] :: sA' :: (Q'.map LnE.sg).flatten :: E ∧
      Q'.map LnE.kp = Q.map LnE.kp ∧ (∀ x ∈ Q', LnS x.b G.room x.l x.sg) ∧ G'.lines = Q'.map LnE.ka ∧ G'.Ok ∧ G'.room = G.room ∧ G'.pat = G.pat ∧ GWk G' ∧ MpS KI vReq rA G'.all sA' ∧ Rw Fate.cells T_gate_Fate 4 v out sv ∧
      tickA now ((ssort ((Q.map LnE.kp).map (·.1))).drop m) G' out = gTick G now)
    (fun j G => False) ⟨_, _, sA, Q, G, [], rfl, rfl, hr.each, hr.abs, ok, rfl, rfl, hw, hr.all, Rw.nil, hgt⟩ ?_ ?_ ?_
  · rintro m F X w lv lp d R hm ⟨v, sv, sA', Q', G', out, rfl, hkp, hQ', hln, ok', er, ep, hw', hA', hv, hT⟩ h hN hE
    have hx : (ssort ((Q.map LnE.kp).map (·.1)))[m]? = some (ssort ((Q.map LnE.kp).map (·.1)))[m] := List.getElem?_eq_getElem hm
    have hdr := List.drop_eq_getElem_cons hm
    have hmem := hkm _ (List.mem_of_getElem? hx)
    generalize (ssort ((Q.map LnE.kp).map (·.1)))[m] = key at hx hdr hmem
    rw [argB_eq hx]
    rw [hdr] at hT
    have enm' : G'.lines.map (·.1) = G.lines.map (·.1) := by
      rw [hln, ← enm, ← hkp]; simp [List.map_map, Function.comp_def]
    rw [← enm', hln] at hmem
    have e1 := lfind_kp (Q := Q') (rev := key)
    have e2 := lfind_ka (Q := Q') (rev := key)
    cases hf : lfind LnE.k Q' key with
    | none => rw [hf] at e2; exact absurd hmem (mget_none.1 e2)
    | some x =>
      rw [hf] at e1 e2
      simp only [Option.map_some] at e1 e2
      rw [hkp] at e1
      rw [e1]
      obtain ⟨A, B, e, hxk⟩ := lfind_at hf
      subst e
      rw [← hln] at e2
      have hlo : lineOf G'.lines key = x.l := by unfold lineOf; rw [e2]; rfl
      have hsm : (mget G'.lines key).isSome = true := by rw [e2]; rfl
      have hll := lineOf_len ok' key
      rw [hlo] at hll
      have hhi := ok'.hi
      have h : St w0 ([Rec lv lp .busy none] :: [DfM d] :: [Cl cc T_p_gate_book_p_wait_Line [.pointer (some ⟨b, 2, none⟩)]] :: gtB b bf rA rL c G.room G.pat :: sL :: [Cl b3 T_s_gate_Fate [SlV v]] :: sv :: [Cl b2 T_int [I now]] :: [Cl b1 T_p_gate_Gate [.pointer (some ⟨b, 0, none⟩)]] :: [Cl c T_int [I G.room]] :: sA' :: ((A ++ x :: B).map LnE.sg).flatten :: (E ++ X)) w := h
      ((try dsimp only [setN, List.cons_append, List.nil_append] at h); repeat (first | refine nn ?_ | (refine dr h ?_; clear h; (try clear w); intro w h) | refine ldC h ?_ | refine laC h ?_ | refine ckC h ?_ | (refine stC h ?_; clear h; (try clear w); intro w h; (try dsimp only [putN, setN] at h)) | rw [add_add]))
      have h := fr11_ (fr7_ (fr10_ (fr7_ (fr7_ (fr8_ h)))))
      have h := h.pick
      refine S_Late h 0 rfl (hQ' x (by simp)) (by omega) fun v13 s' s2 w hl' hr2 h => ?_
      have h : St w0 (s2 :: s' :: ((A ++ B).map LnE.sg).flatten :: gtB b bf rA rL c G.room G.pat :: sA' :: [Cl b3 T_s_gate_Fate [SlV v]] :: sv :: [Cl b1 T_p_gate_Gate [.pointer (some ⟨b, 0, none⟩)]] :: [Rec lv lp .busy none] :: [DfM d] :: [Cl cc T_p_gate_book_p_wait_Line [.pointer (some ⟨b, 2, none⟩)]] :: sL :: [Cl b2 T_int [I now]] :: [Cl c T_int [I G.room]] :: (E ++ X)) w := h
      have h := fr7_ (fr7_ (fr7_ (fr7_ (fr7_ h))))
      obtain ⟨RR, hRR⟩ : ∃ RR, RR = s' :: ((A ++ B).map LnE.sg).flatten :: [Rec lv lp .busy none] :: [DfM d] :: [Cl cc T_p_gate_book_p_wait_Line [.pointer (some ⟨b, 2, none⟩)]] :: sL :: [Cl b2 T_int [I now]] :: [Cl c T_int [I G.room]] :: (E ++ X) := ⟨_, rfl⟩
      rw [← hRR] at h
      have hge := tickA_ge (now := now) (ks := (ssort ((Q.map LnE.kp).map (·.1))).drop (m + 1)) (G := tick1 now key G') (out := out ++ lateF (lLate (lineOf G'.lines key) now))
      have hT : tickA now ((ssort ((Q.map LnE.kp).map (·.1))).drop (m + 1)) (tick1 now key G') (out ++ lateF (lLate (lineOf G'.lines key) now)) = gTick G now := hT
      rw [hT, List.length_append, lateF_len, hlo] at hge
      have hll2 := Rw.len encI hr2
      refine loop_of (fun q y w => ∃ (j : Nat) (v : Sl) (sv sA' : Seg), y = ((j : Int), ()) ∧ q + j = (lLate x.l now).length ∧ MpS KI vReq rA (lateS key ((lLate x.l now).take j) G'.all) sA' ∧ Rw Fate.cells T_gate_Fate 4 v (out ++ lateF ((lLate x.l now).take j)) sv ∧
        St w0 (gtB b bf rA rL c G.room G.pat :: sA' :: [Cl b3 T_s_gate_Fate [SlV v]] :: sv :: [Cl b1 T_p_gate_Gate [.pointer (some ⟨b, 0, none⟩)]] :: s2 :: RR) w) (lLate x.l now).length
        ⟨0, v, sv, sA', rfl, rfl, hA', by simpa [lateF] using hv, h⟩ ?_
      clear hA' hv
      clear h; (try clear w)
      rintro q y w ⟨j, v, sv, sA', rfl, hq, hA', hv, h⟩ again hag
      (try dsimp only)
      refine it (fun hb => ?_) (fun hb => ?_) <;> (try simp only [decide_eq_true_eq, decide_eq_false_iff_not, beq_iff_eq, bne_iff_ne, beq_eq_false_iff_ne, bne_eq_false_iff_eq, Bool.not_eq_true', Bool.not_eq_false', ne_eq, Bool.not_eq_true, Bool.not_eq_false] at hb)
      · have hj : j < (lLate x.l now).length := by omega
        have hxj : (lLate x.l now)[j]? = some (lLate x.l now)[j] := List.getElem?_eq_getElem hj
        generalize (lLate x.l now)[j] = id at hxj
        refine rd1 (Rw.rd encI h 5 rfl hr2) encI (lf := .int .i64) (fun x => x) (fun x => ⟨_, rfl, rfl⟩) (by omega) hb fun y' hy' => ?_
        simp only [Int.toNat_natCast, hxj, Option.some.injEq] at hy'
        subst hy'
        ((try dsimp only [setN, List.cons_append, List.nil_append] at h); repeat (first | refine nn ?_ | (refine dr h ?_; clear h; (try clear w); intro w h) | refine ldC h ?_ | refine laC h ?_ | refine ckC h ?_ | (refine stC h ?_; clear h; (try clear w); intro w h; (try dsimp only [putN, setN] at h)) | rw [add_add]))
        refine S_gwhy h fun w h => ?_
        ((try dsimp only [setN, List.cons_append, List.nil_append] at h); repeat (first | refine nn ?_ | (refine dr h ?_; clear h; (try clear w); intro w h) | refine ldC h ?_ | refine laC h ?_ | refine ckC h ?_ | (refine stC h ?_; clear h; (try clear w); intro w h; (try dsimp only [putN, setN] at h)) | rw [add_add]))
        refine S_gset (f := (0, 4, 0, s_timeout, ())) hA' h fun sA2 w hA2 h => ?_
        ((try dsimp only [setN, List.cons_append, List.nil_append] at h); repeat (first | refine nn ?_ | (refine dr h ?_; clear h; (try clear w); intro w h) | refine ldC h ?_ | refine laC h ?_ | refine ckC h ?_ | (refine stC h ?_; clear h; (try clear w); intro w h; (try dsimp only [putN, setN] at h)) | rw [add_add]))
        refine nw h ?_; clear h; (try clear w); intro b22 w h
        ((try dsimp only [setN, List.cons_append, List.nil_append] at h); repeat (first | refine nn ?_ | (refine dr h ?_; clear h; (try clear w); intro w h) | refine ldC h ?_ | refine laC h ?_ | refine ckC h ?_ | (refine stC h ?_; clear h; (try clear w); intro w h; (try dsimp only [putN, setN] at h)) | rw [add_add]))
        refine Rw.app (l := out ++ lateF ((lLate x.l now).take j)) encF elF h 3 rfl hv (id, 4, 0, s_timeout, ()) rfl (by rw [List.length_append, lateF_len, List.length_take]; omega) (by rw [List.length_append, lateF_len, List.length_take]; omega) fun v' sv' w hv' h => ?_
        ((try dsimp only [setN, List.cons_append, List.nil_append] at h); repeat (first | refine nn ?_ | (refine dr h ?_; clear h; (try clear w); intro w h) | refine ldC h ?_ | refine laC h ?_ | refine ckC h ?_ | (refine stC h ?_; clear h; (try clear w); intro w h; (try dsimp only [putN, setN] at h)) | rw [add_add]))
        rw [wr (by omega) (by omega)]
        refine hag (q - 1) _ w (by omega) ⟨j + 1, v', sv', sA2, by simp, by omega, ?_, ?_, h⟩
        · rw [lateS_take hxj]; exact hA2
        · rw [lateF_take hxj, ← List.append_assoc]; exact hv'
      · have e : (lLate x.l now).take j = lLate x.l now := List.take_of_length_le (by omega)
        rw [e] at hA' hv
        subst hRR
        have h := dl5_ h
        have h := fr6_ (fr6_ h)
        have h : St w0 (LnE.sg ⟨x.k, x.b, lRest x.l now, s'⟩ :: ((A ++ B).map LnE.sg).flatten :: gtB b bf rA rL c G.room G.pat :: sA' :: [Cl b3 T_s_gate_Fate [SlV v]] :: sv :: [Cl b1 T_p_gate_Gate [.pointer (some ⟨b, 0, none⟩)]] :: [Rec lv lp .busy none] :: [DfM d] :: [Cl cc T_p_gate_book_p_wait_Line [.pointer (some ⟨b, 2, none⟩)]] :: sL :: [Cl b2 T_int [I now]] :: [Cl c T_int [I G.room]] :: (E ++ X)) w := h
        have h := h.place
        have h := fr11_ (fr11_ (fr11_ (fr8_ (fr11_ (fr7_ (fr7_ (fr11_ (fr6_ (fr11_ (fr2_ h))))))))))
        have hnd : (((A ++ x :: B).map LnE.ka).map (·.1)).Nodup := by rw [← hln]; exact ok'.nd
        refine hN _ w ⟨v, sv, sA', A ++ (⟨x.k, x.b, lRest x.l now, s'⟩ : LnE) :: B, tick1 now key G', out ++ lateF (lLate (lineOf G'.lines key) now), rfl, ?_, ?_, ?_, ok'.tick1 hw' hsm now, er, ep, hw'.tick1 key now, ?_, ?_, hT⟩ h
        · rw [← hkp]; simp
        · intro y hy
          rcases List.mem_append.1 hy with hy | hy
          · exact hQ' y (by simp [hy])
          · rcases List.mem_cons.1 hy with rfl | hy
            · exact hl'
            · exact hQ' y (by simp [hy])
        · show mset G'.lines key (lRest (lineOf G'.lines key) now) = _
          rw [hlo]
          exact (line_turn (ls := G'.lines) (by rw [← hln, mset_same e2]) hxk hnd).symm
        · show MpS KI vReq rA (lateS key (lLate (lineOf G'.lines key) now) G'.all) sA'
          rw [hlo]; exact hA'
        · rw [hlo]; exact hv
  · rintro d F w ⟨v, sv, sA', Q', G', out, rfl, hkp, hQ', hln, ok', er, ep, hw', hA', hv, hT⟩ h
    have h : St w0 ([DfM d] :: [Cl cc T_p_gate_book_p_wait_Line [.pointer (some ⟨b, 2, none⟩)]] :: gtB b bf rA rL c G.room G.pat :: sL :: [Cl b3 T_s_gate_Fate [SlV v]] :: sv :: [Cl b2 T_int [I now]] :: [Cl b1 T_p_gate_Gate [.pointer (some ⟨b, 0, none⟩)]] :: [Cl c T_int [I G.room]] :: sA' :: (Q'.map LnE.sg).flatten :: E) w := h
    rw [List.drop_of_length_le (Nat.le_refl _)] at hT
    have hT : (G', out) = gTick G now := hT
    rw [← hT] at hk ho
    refine jumpN ?_
    ((try dsimp only [setN, List.cons_append, List.nil_append] at h); repeat (first | refine nn ?_ | (refine dr h ?_; clear h; (try clear w); intro w h) | refine ldC h ?_ | refine laC h ?_ | refine ckC h ?_ | (refine stC h ?_; clear h; (try clear w); intro w h; (try dsimp only [putN, setN] at h)) | rw [add_add]))
    refine S_cloneF h (Rw.rd encF h 5 rfl hv) (by simp only at ho; omega) (fun h0 => Rw.nil_of encF hv h0) fun v' sv' w hv' h => ?_
    (first | refine um0_ h ?_ | refine um1_ h ?_ | refine um2_ h ?_ | refine um3_ h ?_ | refine um4_ h ?_ | refine um5_ h ?_ | refine um6_ h ?_ | refine um7_ h ?_ | refine um8_ h ?_ | refine um9_ h ?_ | refine um10_ h ?_ | refine um11_ h ?_); clear h; (try clear w); intro w h
    refine ⟨v', rfl, ?_⟩
    have h := fr6_ (fr10_ (fr10_ (fr4_ (fr10_ h))))
    rw [← er, ← ep] at h
    have h := dl6_ (dl6_ (dl6_ (dl6_ (dl6_ h))))
    obtain ⟨sg, hg, h⟩ := gt_close ok' (Q := Q') ⟨hA', by rw [hkp]; exact hr.lns, fun x hx => by rw [er]; exact hQ' x hx, hln⟩ h
    have h := fr1_ h
    exact hk v' sv' sg w hv' hg h
  · rintro d j F w hf; exact hf.elim
end Go.Proofs.YtkebppklbobjcaaGreatDoor
namespace Go.Proofs.YtkebppklbobjcaaGreatDoor
open Go.Dm
attribute [local irreducible] L.load L.store L.chk L.new L.nonnil L.guard L.ite L.draw L.idx L.sem L.semR L.semU L.chkSem L.next L.call L.callV L.join L.alts L.loop L.begin L.endRound L.range
variable {w0 w : World} {E : List Seg}
instance : DecidableEq Tgt := inferInstanceAs (DecidableEq (ByteArray × ByteArray × Int × Unit))
instance : DecidableEq ARt := fun a b => decidable_of_iff (a.name = b.name ∧ a.cfg = b.cfg ∧ a.ts = b.ts ∧ a.roll = b.roll) ⟨fun ⟨h1, h2, h3, h4⟩ => by cases a; cases b; simp_all, fun h => by subst h; exact ⟨rfl, rfl, rfl, rfl⟩⟩
end Go.Proofs.YtkebppklbobjcaaGreatDoor
namespace Go.Proofs.YtkebppklbobjcaaGreatDoor
open Go.Dm
variable {w0 w : World} {E : List Seg}
def gc (l : List Int) (n : Int) (r : List Value) : List Value := l.map I ++ I n :: r
theorem gc_n {l : List Int} {n : Int} {r : List Value} (hl : l.length = 60) : nth (gc l n r) 60 = some (I n) := by
  have := nth_app_add (A := l.map I) (B := I n :: r) (i := 0)
  rw [List.length_map, hl] at this; exact this
theorem gc_r {l : List Int} {n : Int} {r : List Value} (hl : l.length = 60) (j : Nat) : nth (gc l n r) (61 + j) = nth r j := by
  have := nth_app_add (A := l.map I) (B := I n :: r) (i := 1 + j)
  rw [List.length_map, hl] at this
  have e : 61 + j = 60 + (1 + j) := by omega
  rw [e]
  refine Eq.trans this ?_
  rw [Nat.add_comm 1 j]; rfl
theorem gc_l {l : List Int} {n : Int} {r : List Value} {j : Nat} {x : Int} (hj : l[j]? = some x) : nth (gc l n r) j = some (I x) := by
  rw [gc, nth_app_lt (by have := (List.getElem?_eq_some_iff.1 hj).1; simpa using this), nth_getElem?, List.getElem?_map, hj]; rfl
theorem gc_set_l {l : List Int} {n : Int} {r : List Value} {j : Nat} {x : Int} (hj : j < l.length) : setN (gc l n r) j (I x) = gc (l.set j x) n r := by
  rw [setN_set, gc, gc, List.set_append_left _ _ (by simpa using hj), List.map_set]
theorem gc_set_n {l : List Int} {n m : Int} {r : List Value} (hl : l.length = 60) : setN (gc l n r) 60 (I m) = gc l m r := by
  rw [setN_set, gc, gc, List.set_append_right _ _ (by simp [hl])]
  simp [hl]
theorem gc_set_r {l : List Int} {n : Int} {r : List Value} {v : Value} (hl : l.length = 60) (j : Nat) : setN (gc l n r) (61 + j) v = gc l n (setN r j v) := by
  rw [setN_set, gc, gc, setN_set, List.set_append_right _ _ (by simp [hl]; omega)]
  have e : 61 + j - (List.map I l).length = j + 1 := by simp [hl]; omega
  rw [e]; rfl
theorem S_ring_add (h : St w0 E w) (i : Nat) {b T : Nat} {l : List Int} {n : Int} {r : List Value} {x : Int} (hi : nth E i = some [Cl b T (gc l n r)]) (hl : l.length = 60) (h0 : 0 ≤ n) (hn : n < 4611686018427387904) {k : Unit → PT}
    (hk : ∀ w', St w0 (setN E i [Cl b T (gc (l.set (n.toNat % 60) x) (n + 1) r)]) w' → k () w') : L.call Pr n_gauge_ring_int_add [.pointer (some ⟨b, 0, none⟩), I x] (.tup []) k w := by
  refine call_of (C_gauge_ring_int_add _ _) ?_
  unfold F_gauge_ring_int_add
  refine dr h fun w h => nn ?_
  refine ld h i hi (x := n) (gc_n hl) (gd (by omega) (nn ?_))
  have em : Int.tmod n 60 = ((n.toNat % 60 : Nat) : Int) := by rw [Int.tmod_eq_emod]; simp [h0]; omega
  have hlt : n.toNat % 60 < 60 := Nat.mod_lt _ (by omega)
  refine ix (by rw [em]; omega) (by rw [em]; omega) ?_
  rw [em, Int.toNat_natCast, Nat.mul_one, add_zero', add_none, Nat.zero_add]
  refine st1 h i hi (gc_l (List.getElem?_eq_getElem (by omega))) rfl fun w h => ?_
  have hi2 : nth (setN E i [Cl b T (setN (gc l n r) (n.toNat % 60) (I x))]) i = some [Cl b T (gc (l.set (n.toNat % 60) x) n r)] := by
    rw [gc_set_l (by omega)]; exact nth_setN hi
  refine nn (ld h i hi2 (x := n) (gc_n (by simpa using hl)) (nn ?_))
  rw [wr (by omega) (by omega)]
  refine st1 h i hi2 (gc_n (by simpa using hl)) rfl fun w h => ⟨(), rfl, hk w ?_⟩
  rw [gc_set_n (by simpa using hl), setN_setN] at h
  exact h
def tz (xs : List Int) : Nat := (xs.reverse.takeWhile (· == 0)).length
structure GOk (l : List Int) (n d : Int) (xs : List Int) : Prop where
  len : l.length = 60
  n : n = xs.length
  pos : ∀ k, k < xs.length → xs.length ≤ k + 60 → l[k % 60]? = xs[k]?
  idle : d = tz xs
def GauS (b : Nat) (xs : List Int) (s : Seg) : Prop := ∃ l n d, GOk l n d xs ∧ s = [Cl b T_gauge_Gauge (gc l n [I d])]
theorem S_gaNew (h : St w0 E w) {k : Option Addr → PT} (hk : ∀ b s w', GauS b [] s → St w0 (s :: E) w' → k (some ⟨b, 0, none⟩) w') : L.call Pr n_gauge_New [] (.one (.one .ptr)) k w := by
  refine call_of C_gauge_New ?_
  unfold F_gauge_New
  refine nw h fun b w h => ⟨_, rfl, hk b _ w ⟨List.replicate 60 0, 0, 0, ⟨rfl, rfl, fun k hk => by simp at hk, rfl⟩, rfl⟩ h⟩
theorem tz_snoc (xs : List Int) (x : Int) : tz (xs ++ [x]) = if x = 0 then tz xs + 1 else 0 := by
  unfold tz
  rw [List.reverse_append]
  by_cases h : x = 0
  · subst h; simp
  · simp [h]
theorem tz_le (xs : List Int) : tz xs ≤ xs.length := by
  unfold tz
  have := (List.takeWhile_sublist (l := xs.reverse) (fun x => x == 0)).length_le
  simpa using this
theorem GOk.add {l : List Int} {n d : Int} {xs : List Int} (g : GOk l n d xs) (x : Int) : GOk (l.set (n.toNat % 60) x) (n + 1) (if x = 0 then d + 1 else 0) (xs ++ [x]) := by
  have hn : n.toNat = xs.length := by rw [g.n]; simp
  refine ⟨by simpa using g.len, by rw [g.n]; simp, fun k hk hk2 => ?_, ?_⟩
  · simp only [List.length_append, List.length_cons, List.length_nil] at hk hk2
    rw [hn, List.getElem?_set]
    by_cases e : k = xs.length
    · subst e
      rw [if_pos rfl, if_pos (by rw [g.len]; omega)]
      simp
    · rw [if_neg (by omega), g.pos k (by omega) (by omega), List.getElem?_append_left (by omega)]
  · rw [tz_snoc, g.idle]; split <;> simp
theorem S_gaAdd (h : St w0 E w) (i : Nat) {b : Nat} {xs : List Int} {s : Seg} (hi : nth E i = some s) (hg : GauS b xs s) (hn : xs.length < 2305843009213693952) {x : Int} {k : Unit → PT}
    (hk : ∀ s' w', GauS b (xs ++ [if 0 > x then 0 else x]) s' → St w0 (setN E i s') w' → k () w') : L.call Pr n_gauge_Gauge_Add [.pointer (some ⟨b, 0, none⟩), I x] (.tup []) k w := by
  obtain ⟨l, n, d, g, rfl⟩ := hg
  have hl := g.len
  have hn1 := g.n
  have hd := g.idle
  have hz := tz_le xs
  refine call_of (C_gauge_Gauge_Add _ _) ?_
  unfold F_gauge_Gauge_Add
  generalize hy : (if 0 > x then 0 else x) = y at *
  have hy0 : 0 ≤ y := by rw [← hy]; split <;> omega
  have hl2 : (l.set (n.toNat % 60) y).length = 60 := by simpa using hl
  refine nn (S_ring_add h i hi hl (by omega) (by omega) fun w h => ?_)
  have hi2 := nth_setN (y := [Cl b T_gauge_Gauge (gc (l.set (n.toNat % 60) y) (n + 1) [I d])]) hi
  refine nn (ld h i hi2 (x := d) (gc_r hl2 0) (nn ?_))
  rw [wr (by omega) (by omega)]
  refine st1 h i hi2 (gc_r hl2 0) rfl fun w h => ?_
  have e1 : setN (gc (l.set (n.toNat % 60) y) (n + 1) [I d]) 61 (I (d + 1)) = gc (l.set (n.toNat % 60) y) (n + 1) [I (d + 1)] := gc_set_r hl2 0
  simp only [setN_setN] at h
  have h : St w0 (setN E i [Cl b T_gauge_Gauge (gc (l.set (n.toNat % 60) y) (n + 1) [I (d + 1)])]) w := by rw [← e1]; exact h
  have ga := g.add y
  refine it (fun hb => ?_) (fun hb => ?_)
  · simp only [decide_eq_true_eq] at hb
    have hi3 := nth_setN (y := [Cl b T_gauge_Gauge (gc (l.set (n.toNat % 60) y) (n + 1) [I (d + 1)])]) hi
    refine nn (st1 h i hi3 (gc_r hl2 0) rfl fun w h => ⟨(), rfl, hk _ w ⟨_, _, _, ga, rfl⟩ ?_⟩)
    have e1 : setN (gc (l.set (n.toNat % 60) y) (n + 1) [I (d + 1)]) 61 (I 0) = gc (l.set (n.toNat % 60) y) (n + 1) [I 0] := gc_set_r hl2 0
    simp only [setN_setN] at h
    rw [if_neg (by omega), ← e1]; exact h
  · simp only [decide_eq_false_iff_not] at hb
    have : y = 0 := by omega
    refine ⟨(), rfl, hk _ w ⟨_, _, _, ga, rfl⟩ ?_⟩
    rw [if_pos this]; exact h
theorem GOk.back {l : List Int} {n d : Int} {xs : List Int} (g : GOk l n d xs) {m : Nat} (hm : (m : Int) < min 60 n) {x : Int} (hx : l[(n - (m + 1)).toNat % 60]? = some x) : xs.reverse[m]? = some x := by
  have hn := g.n
  have e : (n - (m + 1)).toNat = xs.length - 1 - m := by omega
  rw [e, g.pos _ (by omega) (by omega)] at hx
  rw [List.getElem?_reverse (by omega)]; exact hx
end Go.Proofs.YtkebppklbobjcaaGreatDoor
namespace Go.Proofs.YtkebppklbobjcaaGreatDoor
open Go.Dm
attribute [local irreducible] L.load L.store L.chk L.new L.nonnil L.guard L.ite L.draw L.idx L.sem L.semR L.semU L.chkSem L.next L.call L.callV L.join L.alts L.loop L.begin L.endRound L.range
variable {w0 w : World} {E : List Seg}
structure ABes where
  xs : List Int
  want : Int
  left : Int
structure ASys where
  sh : AShelf
  bk : ABook
  ro : ARoll
  fl : AFleet
  gt : AGate
  by' : List (ByteArray × ABes)
  now : Int
structure BsE where
  k : ByteArray
  b : Nat
  g : Nat
  x : ABes
  sgg : Seg
abbrev BsE.cell (x : BsE) : Seg := [Cl x.b T_system_beside [.pointer (some ⟨x.g, 0, none⟩), I x.x.want, I x.x.left]]
abbrev BsE.sg (x : BsE) : Seg := x.cell ++ x.sgg
abbrev BsE.kp (x : BsE) : ByteArray × Option Addr := (x.k, some ⟨x.b, 0, none⟩)
abbrev BsE.ka (x : BsE) : ByteArray × ABes := (x.k, x.x)
def BsE.ok (x : BsE) : Prop := GauS x.g x.x.xs x.sgg
structure Bls where
  s : Nat
  k : Nat
  r : Nat
  f : Nat
  g : Nat
  m : Nat
abbrev sysC (b : Nat) (p : Bls) (now : Int) : Seg := [Cl b T_system_System [.pointer (some ⟨p.s, 0, none⟩), .pointer (some ⟨p.k, 0, none⟩), .pointer (some ⟨p.r, 0, none⟩), .pointer (some ⟨p.f, 0, none⟩), .pointer (some ⟨p.g, 0, none⟩), .map (some p.m), I now]]
structure SysR (a : ASys) (p : Bls) (sg sf ss sk sr sm : Seg) (Q : List BsE) : Prop where
  gt : GtS p.g p.f a.gt sg
  fl : FlS p.f a.fl sf
  sh : ShS p.s a.sh ss
  bk : BkS p.k a.bk sk
  ro : RolS p.r a.ro sr
  mp : MpS Value.string Value.pointer p.m (Q.map BsE.kp) sm
  ea : ∀ x ∈ Q, x.ok
  ab : a.by' = Q.map BsE.ka
abbrev sys8 (b : Nat) (a : ASys) (p : Bls) (sg sf ss sk sr sm : Seg) (Q : List BsE) : Seg := sysC b p a.now ++ (sg ++ (sf ++ (ss ++ (sk ++ (sr ++ (sm ++ (Q.map BsE.sg).flatten))))))
def SysS (b : Nat) (a : ASys) (s : Seg) : Prop := ∃ (p : Bls) (sg sf ss sk sr sm : Seg) (Q : List BsE), SysR a p sg sf ss sk sr sm Q ∧ s = sys8 b a p sg sf ss sk sr sm Q
theorem _root_.Go.Dm.St.split8 {a b c d e f g i : Seg} (h : St w0 ((a ++ (b ++ (c ++ (d ++ (e ++ (f ++ (g ++ i))))))) :: E) w) : St w0 (a :: b :: c :: d :: e :: f :: g :: i :: E) w := h.eq (by simp)
theorem _root_.Go.Dm.St.glue8 {a b c d e f g i : Seg} (h : St w0 (a :: b :: c :: d :: e :: f :: g :: i :: E) w) : St w0 ((a ++ (b ++ (c ++ (d ++ (e ++ (f ++ (g ++ i))))))) :: E) w := h.eq (by simp)
theorem sysBack {sv a b c d e f g j s : Seg} (i : Nat) (hi : nth E i = some s) (h : St w0 (sv :: a :: b :: c :: d :: e :: f :: g :: j :: delN E i) w) : St w0 (sv :: setN E i (a ++ (b ++ (c ++ (d ++ (e ++ (f ++ (g ++ j)))))))) w := by
  have h := fr8_ (fr8_ (fr8_ (fr8_ (fr8_ (fr8_ (fr8_ (fr8_ h)))))))
  have h := h.glue8
  exact St.back (E := sv :: E) (i + 1) hi h
theorem und_by : Pr.underlying T_system_things_p_system_beside = some (.map T_string T_p_system_beside) := by kernel_rfl
abbrev slK (k : Sl → PT) : Value → PT := fun v w' => ∃ x, v = RT.val (.one (.one .slice)) x ∧ k x w'
abbrev Hk (w0 : World) (E : List Seg) (i b : Nat) (r : ASys × List ByteArray) (k : Sl → PT) : Prop := ∀ v sv s' w', Rw eS T_string 1 v r.2 sv → SysS b r.1 s' → St w0 (sv :: setN E i s') w' → k v w'
def sysConfig (a : ASys) (e : AEv) : ASys × List ByteArray := ({ a with sh := (shPut a.sh e.c e.n).1 }, putB s_config e.c.1 (shPut a.sh e.c e.n).2.1 (shPut a.sh e.c e.n).2.2)
theorem shPut_ver (a : AShelf) (c : Cfg) (ver : Int) (h0 : 0 ≤ a.n) (h1 : a.n < 900000000) : 0 ≤ (shPut a c ver).2.1 ∧ (shPut a c ver).2.1 ≤ 9000000000000000000 := by
  unfold shPut
  split
  · exact ⟨Int.le_refl 0, by show (0 : Int) ≤ _; decide⟩
  · split
    · exact ⟨Int.le_refl 0, by show (0 : Int) ≤ _; decide⟩
    · dsimp only; omega
theorem S_sysConfig [bTab w0] (h : St w0 E w) (i : Nat) {b : Nat} {a : ASys} {s : Seg} (hi : nth E i = some s) (hs : SysS b a s) {e : AEv} (hn : a.sh.n < 900000000) (hsz : e.c.1.size ≤ 1000000) {k : Sl → PT} (hk : Hk w0 E i b (sysConfig a e) k) :
    F_system_System_config (some ⟨b, 0, none⟩) e.t (slK k) w := by
  obtain ⟨p, sg, sf, ss, sk, sr, sm, Q, R, rfl⟩ := hs
  have hlo := R.sh.1.lo
  unfold F_system_System_config
  have h := (h.front i hi).split8
  refine nw h ?_; clear h; (try clear w); intro b1 w h
  ((try dsimp only [setN, List.cons_append, List.nil_append] at h); repeat (first | refine nn ?_ | (refine dr h ?_; clear h; (try clear w); intro w h) | refine ldC h ?_ | refine laC h ?_ | refine ckC h ?_ | (refine stC h ?_; clear h; (try clear w); intro w h; (try dsimp only [putN, setN] at h)) | rw [add_add]))
  refine S_shPut (c := e.c) h 4 rfl R.sh hn fun ss' w hS h => ?_
  dsimp only [setN] at h
  ((try dsimp only [setN, List.cons_append, List.nil_append] at h); repeat (first | refine nn ?_ | (refine dr h ?_; clear h; (try clear w); intro w h) | refine ldC h ?_ | refine laC h ?_ | refine ckC h ?_ | (refine stC h ?_; clear h; (try clear w); intro w h; (try dsimp only [putN, setN] at h)) | rw [add_add]))
  have hv := shPut_ver a.sh e.c e.n hlo hn
  refine S_put h (by decide) hsz hv fun v sv w r h => ?_
  refine ⟨v, rfl, hk v sv _ w r ⟨p, sg, sf, ss', sk, sr, sm, Q, ⟨R.gt, R.fl, hS, R.bk, R.ro, R.mp, R.ea, R.ab⟩, rfl⟩ ?_⟩
  exact sysBack i hi (dl1_ h)
end Go.Proofs.YtkebppklbobjcaaGreatDoor
namespace Go.Proofs.YtkebppklbobjcaaGreatDoor
open Go.Dm
attribute [local irreducible] L.load L.store L.chk L.new L.nonnil L.guard L.ite L.draw L.idx L.sem L.semR L.semU L.chkSem L.next L.call L.callV L.join L.alts L.loop L.begin L.endRound L.range
variable {w0 w : World} {E : List Seg}
abbrev wantOf (c : Cfg) : Int := if 1 > @id Int c.2.2.2.1 then 1 else @id Int c.2.2.2.1
abbrev stp (a : ASys) (n : ByteArray) : ABook × ByteArray × Bool := bkStamp a.bk (shCfg a.sh n).1 (@id Int (shCfg a.sh n).2.2.1).toNat
def sysStamp (a : ASys) (e : AEv) : ASys × List ByteArray :=
  if (shCfg a.sh e.name).2.2.2.1 = false then (a, refusedB 6) else if @id Int (shCfg a.sh e.name).2.2.1 > 999999 then (a, refusedB 3)
  else if (stp a e.name).2.2 = false then ({ a with bk := (stp a e.name).1 }, [lineB s_same [(stp a e.name).2.1]])
  else ({ a with bk := (stp a e.name).1, by' := mset a.by' (stp a e.name).2.1 ⟨[], wantOf (shCfg a.sh e.name).1, 0⟩ }, [lineB s_revision [(stp a e.name).2.1], lineB (lineB s_scale [(stp a e.name).2.1]) [decD (wantOf (shCfg a.sh e.name).1).toNat]])
theorem stp_rev (a : ABook) (c : Cfg) (g : Nat) : (bkStamp a c g).2.1 = revB c.1 g := by unfold bkStamp; split <;> rfl
theorem S_sysStamp [bTab w0] (h : St w0 E w) (i : Nat) {b : Nat} {a : ASys} {s : Seg} (hi : nth E i = some s) (hs : SysS b a s) {e : AEv}
    (hst : (shCfg a.sh e.name).2.2.2.1 = true → shortB (shCfg a.sh e.name).1.1.data.toList 16 = true ∧ 1 ≤ @id Int (shCfg a.sh e.name).2.2.1 ∧ @id Int (shCfg a.sh e.name).2.2.1 < 100 ∧ @id Int (shCfg a.sh e.name).1.2.2.2.1 ≤ 1000000) (hf : a.bk.all.length < 999999)
    {k : Sl → PT} (hk : Hk w0 E i b (sysStamp a e) k) : F_system_System_stamp (some ⟨b, 0, none⟩) e.t (slK k) w := by
  have hs0 := hs
  obtain ⟨p, sg, sf, ss, sk, sr, sm, Q, R, rfl⟩ := hs
  unfold F_system_System_stamp
  unfold sysStamp stp at hk
  have h := (h.front i hi).split8
  refine nw h ?_; clear h; (try clear w); intro b1 w h
  refine join_of (fun (z : Addr × Int × Bool × Unit) w => ∃ b8 : Nat, z = (⟨b8, 0, none⟩, (shCfg a.sh e.name).2.2.1, (shCfg a.sh e.name).2.2.2.1, ()) ∧
    St w0 ([Cl b8 T_api_Config (Cfg.cells (shCfg a.sh e.name).1)] :: sysC b p a.now :: sg :: sf :: ss :: sk :: sr :: sm :: (Q.map BsE.sg).flatten :: delN E i) w) (fun k2 hk2 => ?_) ?_
  · ((try dsimp only [setN, List.cons_append, List.nil_append] at h); repeat (first | refine nn ?_ | (refine dr h ?_; clear h; (try clear w); intro w h) | refine ldC h ?_ | refine laC h ?_ | refine ckC h ?_ | (refine stC h ?_; clear h; (try clear w); intro w h; (try dsimp only [putN, setN] at h)) | rw [add_add]))
    refine alts2 ?_ ?_
    · refine S_shConfig h 4 rfl R.sh fun w h => ?_
      refine nw h ?_; clear h; (try clear w); intro b8 w h
      ((try dsimp only [setN, List.cons_append, List.nil_append] at h); repeat (first | refine nn ?_ | (refine dr h ?_; clear h; (try clear w); intro w h) | refine ldC h ?_ | refine laC h ?_ | refine ckC h ?_ | (refine stC h ?_; clear h; (try clear w); intro w h; (try dsimp only [putN, setN] at h)) | rw [add_add]))
      exact hk2 _ w ⟨b8, rfl, dl1_ h⟩
    · refine nw h ?_; clear h; (try clear w); intro b8 w h
      ((try dsimp only [setN, List.cons_append, List.nil_append] at h); repeat (first | refine nn ?_ | (refine dr h ?_; clear h; (try clear w); intro w h) | refine ldC h ?_ | refine laC h ?_ | refine ckC h ?_ | (refine stC h ?_; clear h; (try clear w); intro w h; (try dsimp only [putN, setN] at h)) | rw [add_add]))
      refine S_shConfig h 5 rfl R.sh fun w h => ?_
      ((try dsimp only [setN, List.cons_append, List.nil_append] at h); repeat (first | refine nn ?_ | (refine dr h ?_; clear h; (try clear w); intro w h) | refine ldC h ?_ | refine laC h ?_ | refine ckC h ?_ | (refine stC h ?_; clear h; (try clear w); intro w h; (try dsimp only [putN, setN] at h)) | rw [add_add]))
      exact hk2 _ w ⟨b8, rfl, dl1_ h⟩
  clear h; (try clear w)
  rintro z w ⟨b8, rfl, h⟩
  (try dsimp only)
  refine it (fun hc => ?_) (fun hc => ?_)
  · have hc : (shCfg a.sh e.name).2.2.2.1 = false := by simpa using hc
    rw [if_pos hc] at hk
    refine S_refused h fun v s w r h => ?_
    exact ⟨v, rfl, hk v s _ w r hs0 (sysBack i hi (dl1_ h))⟩
  have hc : (shCfg a.sh e.name).2.2.2.1 = true := by simpa using hc
  rw [if_neg (by simp [hc])] at hk
  obtain ⟨st1, st2, st3, st4⟩ := hst hc
  have hmin : 0 ≤ wantOf (shCfg a.sh e.name).1 ∧ wantOf (shCfg a.sh e.name).1 ≤ 1000000 := by
    unfold wantOf
    split <;> omega
  unfold wantOf at hk hmin
  generalize shCfg a.sh e.name = z at *
  obtain ⟨c, ver, gen, is, ⟨⟩⟩ := z
  dsimp only at hk hc hmin h st1 ⊢
  simp only [id] at st2 st3 st4
  refine it (fun h2 => ?_) (fun h2 => ?_)
  · exact absurd (of_decide_eq_true h2) (by simp only [Int.not_lt, gt_iff_lt]; omega)
  have hng : ¬ @id Int gen > 999999 := by simp only [id]; omega
  rw [if_neg hng] at hk
  ((try dsimp only [setN, List.cons_append, List.nil_append] at h); repeat (first | refine nn ?_ | (refine dr h ?_; clear h; (try clear w); intro w h) | refine ldC h ?_ | refine laC h ?_ | refine ckC h ?_ | (refine stC h ?_; clear h; (try clear w); intro w h; (try dsimp only [putN, setN] at h)) | rw [add_add]))
  obtain ⟨g, rfl⟩ : ∃ g : Nat, gen = (g : Int) := ⟨@Int.toNat gen, by omega⟩
  have hg1 : 1 ≤ g := by have : (1 : Int) ≤ (g : Int) := st2
                         omega
  have hg2 : g < 100 := by have : (g : Int) < 100 := st3
                           omega
  simp only [id, Int.toNat_natCast] at hk hmin
  refine S_bkStamp (c := c) h 5 rfl R.bk st1 hg1 hg2 hf fun sk' w hK h => ?_
  dsimp only [setN] at h
  have hrev := stp_rev a.bk c g
  have hsz : (revB c.1 g).size ≤ 1000000 := by have := rev_size c.1 hg2; have := short_size st1; omega
  rw [← hrev] at hsz
  clear hrev
  generalize (bkStamp a.bk c g).2.1 = rev at *
  have hfr : ∀ x : Bool, (bkStamp a.bk c g).2.2 = x → True := fun _ _ => trivial
  generalize (bkStamp a.bk c g).2.2 = fr at *
  generalize (bkStamp a.bk c g).1 = K at *
  cases fr with
  | false =>
    rw [if_pos rfl] at hk
    refine itT rfl ?_
    refine nw h ?_; clear h; (try clear w); intro b17 w h
    refine lineS1 h (by decide) (by omega) fun w h => ?_
    refine nw h ?_; clear h; (try clear w); intro b19 w h
    exact ⟨_, rfl, hk _ _ _ w (Rw.lit b19 [_] encS rfl rfl (by simp [maxLen])) ⟨p, sg, sf, ss, sk', sr, sm, Q, ⟨R.gt, R.fl, R.sh, hK, R.ro, R.mp, R.ea, R.ab⟩, rfl⟩ (sysBack i hi (dl1_ h))⟩
  | true =>
    rw [if_neg (by decide)] at hk
    refine itF rfl ?_
    ((try dsimp only [setN, List.cons_append, List.nil_append] at h); repeat (first | refine nn ?_ | (refine dr h ?_; clear h; (try clear w); intro w h) | refine ldC h ?_ | refine laC h ?_ | refine ckC h ?_ | (refine stC h ?_; clear h; (try clear w); intro w h; (try dsimp only [putN, setN] at h)) | rw [add_add]))
    refine S_gaNew h fun bg sgg w hG h => ?_
    ((try dsimp only [setN, List.cons_append, List.nil_append] at h); repeat (first | refine nn ?_ | (refine dr h ?_; clear h; (try clear w); intro w h) | refine ldC h ?_ | refine laC h ?_ | refine ckC h ?_ | (refine stC h ?_; clear h; (try clear w); intro w h; (try dsimp only [putN, setN] at h)) | rw [add_add]))
    refine nw h ?_; clear h; (try clear w); intro b24 w h
    ((try dsimp only [setN, List.cons_append, List.nil_append] at h); repeat (first | refine nn ?_ | (refine dr h ?_; clear h; (try clear w); intro w h) | refine ldC h ?_ | refine laC h ?_ | refine ckC h ?_ | (refine stC h ?_; clear h; (try clear w); intro w h; (try dsimp only [putN, setN] at h)) | rw [add_add]))
    refine MpS.set mkStr und_by h 9 rfl R.mp (some ⟨b24, 0, none⟩) rfl fun sm' w hm' h => ?_
    dsimp only [setN] at h
    refine nw h ?_; clear h; (try clear w); intro b25 w h
    refine lineS1 h (by decide) (by omega) fun w h => ?_
    refine nw h ?_; clear h; (try clear w); intro b27 w h
    refine lineS1 h (by decide) (by omega) fun w h => ?_
    have hl : (lineB s_scale [rev]).size ≤ 100000000 := by rw [lineB1_le]; have : s_scale.size = 5 := rfl; omega
    refine nw h ?_; clear h; (try clear w); intro b29 w h
    refine lineI1 h hl hmin.1 (by omega) fun w h => ?_
    refine nw h ?_; clear h; (try clear w); intro b31 w h
    have h : St w0 ([Cl b31 T_string [.string (lineB s_revision [rev]), .string (lineB (lineB s_scale [rev]) [decD (if 1 > @id Int c.2.2.2.1 then 1 else @id Int c.2.2.2.1).toNat])]] :: [Cl b24 T_system_beside [.pointer (some ⟨bg, 0, none⟩), I (if 1 > @id Int c.2.2.2.1 then 1 else @id Int c.2.2.2.1), I 0]] :: sgg :: [Cl b8 T_api_Config (Cfg.cells c)] :: sysC b p a.now :: sg :: sf :: ss :: sk' :: sr :: sm' :: (Q.map BsE.sg).flatten :: delN E i) w := h
    have h := dl3_ h
    have h := fr2_ (fr2_ h)
    have h := h.glue
    have h := fr1_ (fr9_ h)
    have h : St w0 (BsE.sg ⟨rev, b24, bg, ⟨[], (if 1 > @id Int c.2.2.2.1 then 1 else @id Int c.2.2.2.1), 0⟩, sgg⟩ :: (Q.map BsE.sg).flatten :: [Cl b31 T_string [.string (lineB s_revision [rev]), .string (lineB (lineB s_scale [rev]) [decD (if 1 > @id Int c.2.2.2.1 then 1 else @id Int c.2.2.2.1).toNat])]] :: sysC b p a.now :: sg :: sf :: ss :: sk' :: sr :: sm' :: delN E i) w := h
    have h := St.lput (key := BsE.k) h
    have h := fr8_ (fr8_ (fr8_ (fr8_ (fr8_ (fr8_ (fr8_ (fr8_ h)))))))
    have e5 := lput_map (key := BsE.k) (fun x : BsE => (some ⟨x.b, 0, none⟩ : Option Addr)) ⟨rev, b24, bg, ⟨[], (if 1 > @id Int c.2.2.2.1 then 1 else @id Int c.2.2.2.1), 0⟩, sgg⟩ Q
    have e6 := lput_map (key := BsE.k) BsE.x ⟨rev, b24, bg, ⟨[], (if 1 > @id Int c.2.2.2.1 then 1 else @id Int c.2.2.2.1), 0⟩, sgg⟩ Q
    refine ⟨_, rfl, hk _ _ _ w (Rw.lit b31 [_, _] encS rfl rfl (by simp [maxLen])) ⟨p, sg, sf, ss, sk', sr, sm', _, ⟨R.gt, R.fl, R.sh, hK, R.ro, by rw [← e5] at hm'; exact hm', fun y hy => ?_, ?_⟩, rfl⟩ (sysBack i hi h)⟩
    · rcases lput_mem hy with rfl | hy
      · exact hG
      · exact R.ea y hy
    · show mset a.by' _ _ = _
      rw [R.ab]; exact e6.symm
end Go.Proofs.YtkebppklbobjcaaGreatDoor
namespace Go.Proofs.YtkebppklbobjcaaGreatDoor
open Go.Dm
attribute [local irreducible] L.load L.store L.chk L.new L.nonnil L.guard L.ite L.draw L.idx L.sem L.semR L.semU L.chkSem L.next L.call L.callV L.join L.alts L.loop L.begin L.endRound L.range
variable {w0 w : World} {E : List Seg}
structure TabB (t : ATab) : Prop where
  sh : ∀ s ∈ t.sh, (0 ≤ @id Int s.2.1 ∧ @id Int s.2.1 ≤ 1000) ∧ s.1.size ≤ 1000
  tg : ∀ s ∈ t.tg, s.1.size ≤ 1000 ∧ s.2.1.size ≤ 1000
  txt : (tabText t).size ≤ 100000000
end Go.Proofs.YtkebppklbobjcaaGreatDoor
namespace Go.Proofs.YtkebppklbobjcaaGreatDoor
open Go.Dm
attribute [local irreducible] L.load L.store L.chk L.new L.nonnil L.guard L.ite L.draw L.idx L.sem L.semR L.semU L.chkSem L.next L.call L.callV L.join L.alts L.loop L.begin L.endRound L.range
variable {w0 w : World} {E : List Seg}
theorem bes_turn {rev : ByteArray} {y : ABes} {sgg : Seg} {x : BsE} (hk : x.k = rev) {B : List BsE} : ∀ {A : List BsE}, ((A ++ x :: B).map BsE.k).Nodup → (A ++ ⟨x.k, x.b, x.g, y, sgg⟩ :: B).map BsE.ka = mset ((A ++ x :: B).map BsE.ka) rev y
  | [], _ => by
    subst hk
    simp [mset]
  | a :: A, hn => by
    have hn2 := hn
    rw [List.cons_append, List.map_cons, List.nodup_cons] at hn2
    have hne : ¬ a.k = rev := fun e => hn2.1 (by rw [e, ← hk]; simp)
    have ih := bes_turn hk (A := A) (y := y) (sgg := sgg) hn2.2
    rw [List.cons_append, List.map_cons, List.cons_append, List.map_cons, ih]
    simp only [mset]
    rw [if_neg hne]
theorem zptr (w : World) : (zeroValue T_p_system_beside).run Pr w = .ok ((E1.one .ptr).val (none : Option Addr)) w := by
  have h : (Pr.info? T_p_system_beside).map (·.zero) = some (some (.pointer none)) := by kernel_rfl
  cases hi : Pr.info? T_p_system_beside with
  | none => rw [hi] at h; cases h
  | some i => rw [hi] at h; simp only [Option.map_some, Option.some.injEq] at h; exact zv hi h w
theorem bes_kp {Q : List BsE} {rev : ByteArray} : mget (Q.map BsE.kp) rev = (lfind BsE.k Q rev).map fun x => some ⟨x.b, 0, none⟩ := lfind_map (key := BsE.k) (fun x : BsE => (some ⟨x.b, 0, none⟩ : Option Addr)) rev Q
theorem bes_ka {Q : List BsE} {rev : ByteArray} : mget (Q.map BsE.ka) rev = (lfind BsE.k Q rev).map BsE.x := lfind_map (key := BsE.k) BsE.x rev Q
end Go.Proofs.YtkebppklbobjcaaGreatDoor
namespace Go.Proofs.YtkebppklbobjcaaGreatDoor
open Go.Dm
attribute [local irreducible] L.load L.store L.chk L.new L.nonnil L.guard L.ite L.draw L.idx L.sem L.semR L.semU L.chkSem L.next L.call L.callV L.join L.alts L.loop L.begin L.endRound L.range
variable {w0 w : World} {E : List Seg}
def busyB (G : AGate) (rev : ByteArray) : Int := ((gWait G rev).length : Int) + (gWith G.all rev).length
def tkStep (G : AGate) (m : List (ByteArray × ABes)) (rev : ByteArray) : List (ByteArray × ABes) := match mget m rev with
  | some x => mset m rev ⟨x.xs ++ [if 0 > busyB G rev then 0 else busyB G rev], x.want, x.left⟩
  | none => m
abbrev tkG (a : ASys) : AGate × List Fate := gTick a.gt (a.now + 1)
def sysTick (a : ASys) : ASys × List ByteArray :=
  if a.now ≥ 1048576 then (a, refusedB 9)
  else ({ a with gt := (tkG a).1, now := a.now + 1, by' := (bkAll a.bk).foldl (tkStep (tkG a).1) a.by' }, lineB s_tick [decD (a.now + 1).toNat] :: (tkG a).2.map fateB)
theorem S_sysTick [bTab w0] (h : St w0 E w) (i : Nat) {b : Nat} {a : ASys} {s : Seg} (hi : nth E i = some s) (hs : SysS b a s) {e : AEv} (hnow : 0 ≤ a.now) (hwk : GWk a.gt) (hfl : (tkG a).2.length < 90000000) (hf : ∀ f ∈ (tkG a).2, f.Ok)
    (hby : ∀ rev ∈ bkAll a.bk, (mget a.by' rev).isSome = true) (hxs : ∀ x ∈ a.by', x.2.xs.length < 1000000000) (hfb : a.bk.all.length < 1000000) {k : Sl → PT} (hk : Hk w0 E i b (sysTick a) k) : F_system_System_tick (some ⟨b, 0, none⟩) e.t (slK k) w := by
  have hs0 := hs
  obtain ⟨p, sg, sf, ss, sk, sr, sm, Q, R, rfl⟩ := hs
  unfold F_system_System_tick
  unfold sysTick tkG at hk
  unfold tkG at hfl hf
  have h := (h.front i hi).split8
  refine nw h ?_; clear h; (try clear w); intro b1 w h
  ((try dsimp only [setN, List.cons_append, List.nil_append] at h); repeat (first | refine nn ?_ | (refine dr h ?_; clear h; (try clear w); intro w h) | refine ldC h ?_ | refine laC h ?_ | refine ckC h ?_ | (refine stC h ?_; clear h; (try clear w); intro w h; (try dsimp only [putN, setN] at h)) | rw [add_add]))
  refine it (fun hc => ?_) (fun hc => ?_) <;> (try simp only [decide_eq_true_eq, decide_eq_false_iff_not, beq_iff_eq, bne_iff_ne, beq_eq_false_iff_ne, bne_eq_false_iff_eq, Bool.not_eq_true', Bool.not_eq_false', ne_eq, Bool.not_eq_true, Bool.not_eq_false] at hc)
  · rw [if_pos hc] at hk
    refine S_refused h fun v s w r h => ?_
    exact ⟨v, rfl, hk v s _ w r hs0 (sysBack i hi (dl1_ h))⟩
  rw [if_neg hc] at hk
  ((try dsimp only [setN, List.cons_append, List.nil_append] at h); repeat (first | refine nn ?_ | (refine dr h ?_; clear h; (try clear w); intro w h) | refine ldC h ?_ | refine laC h ?_ | refine ckC h ?_ | (refine stC h ?_; clear h; (try clear w); intro w h; (try dsimp only [putN, setN] at h)) | rw [add_add]))
  rw [wr (by omega) (by omega)] at h ⊢
  have h := fr2_ h
  refine S_gTick h R.gt hwk hfl fun v sv sg' w hr hG h => ?_
  generalize gTick a.gt (a.now + 1) = g at *
  refine call_of (C_system_System_Revisions _) ?_
  unfold F_system_System_Revisions
  ((try dsimp only [setN, List.cons_append, List.nil_append] at h); repeat (first | refine nn ?_ | (refine dr h ?_; clear h; (try clear w); intro w h) | refine ldC h ?_ | refine laC h ?_ | refine ckC h ?_ | (refine stC h ?_; clear h; (try clear w); intro w h; (try dsimp only [putN, setN] at h)) | rw [add_add]))
  refine S_bkAll h 6 rfl R.bk fun v2 s2 w r2 h => ⟨v2, rfl, ?_⟩
  have hnl : (bkAll a.bk).length < 1000000 := by unfold bkAll; rw [ssort_len, List.length_map]; exact hfb
  generalize bkAll a.bk = l at *
  have hln := Rw.len encS r2
  let EV : Seg := [Cl b1 T_api_Event [I e.kind, .string e.name, .string e.tag, I e.n, I e.draw, .string e.c.1, I e.c.2.1, I e.c.2.2.1, I e.c.2.2.2.1, I e.c.2.2.2.2.1, I e.c.2.2.2.2.2.1, .string e.r.name, .string e.r.cfg, SlV e.v, I e.r.roll]]
  refine loop_of (fun m y w => ∃ (j : Nat) (sg2 : Seg) (Q2 : List BsE), @Eq Int y.1 j ∧ m + j = l.length ∧ GtS p.g p.f g.1 sg2 ∧ Q2.map BsE.kp = Q.map BsE.kp ∧ (∀ x ∈ Q2, x.ok) ∧ Q2.map BsE.ka = (l.take j).foldl (tkStep g.1) a.by' ∧ (∀ x ∈ Q2, x.x.xs.length < 1000000000 + j) ∧
    St w0 (s2 :: sv :: sg2 :: EV :: sysC b p (a.now + 1) :: sf :: ss :: sk :: sr :: sm :: (Q2.map BsE.sg).flatten :: delN E i) w) l.length ⟨0, sg', Q, rfl, rfl, hG, rfl, R.ea, R.ab.symm, fun x hx => by have := hxs _ (by rw [R.ab]; exact List.mem_map_of_mem hx); simpa using this, h⟩ ?_
  clear h; (try clear w)
  rintro m ⟨y, ⟨⟩⟩ w ⟨j, sg2, Q2, hy, hm, hG2, ekp, ok2, eka, hx2, h⟩ again hag
  (try dsimp only)
  simp only at hy
  subst hy
  refine it (fun hb => ?_) (fun hb => ?_) <;> (try simp only [decide_eq_true_eq, decide_eq_false_iff_not, beq_iff_eq, bne_iff_ne, beq_eq_false_iff_ne, bne_eq_false_iff_eq, Bool.not_eq_true', Bool.not_eq_false', ne_eq, Bool.not_eq_true, Bool.not_eq_false] at hb)
  · have hj : j < l.length := by omega
    have hx : l[j]? = some l[j] := List.getElem?_eq_getElem hj
    have hin : (mget (Q2.map BsE.ka) l[j]).isSome = true := by
      have h1 := hby l[j] (List.getElem_mem hj)
      rw [R.ab, bes_ka, Option.isSome_map] at h1
      have h2 : (mget (Q2.map BsE.kp) l[j]).isSome = true := by rw [ekp, bes_kp, Option.isSome_map]; exact h1
      rw [bes_kp, Option.isSome_map] at h2
      rw [bes_ka, Option.isSome_map]; exact h2
    have et : (l.take (j + 1)).foldl (tkStep g.1) a.by' = tkStep g.1 (Q2.map BsE.ka) l[j] := by rw [eka, List.take_succ, hx, List.foldl_append]; rfl
    generalize l[j] = rev at *
    have hm2 : MpS Value.string Value.pointer p.m (Q2.map BsE.kp) sm := by rw [ekp]; exact R.mp
    rw [bes_ka, Option.isSome_map] at hin
    obtain ⟨x, hfx⟩ := Option.isSome_iff_exists.1 hin
    have hmk := hm2.nd
    refine Rw.ix encS r2 (by omega) (by simpa using hj) fun ea ha => ?_
    refine Rw.ld0 encS h 0 rfl r2 ha (x := rev) (by simpa using hx) rfl rfl ?_
    ((try dsimp only [setN, List.cons_append, List.nil_append] at h); repeat (first | refine nn ?_ | (refine dr h ?_; clear h; (try clear w); intro w h) | refine ldC h ?_ | refine laC h ?_ | refine ckC h ?_ | (refine stC h ?_; clear h; (try clear w); intro w h; (try dsimp only [putN, setN] at h)) | rw [add_add]))
    have hlk : ((mget (Q2.map BsE.kp) rev).map fun x : Option Addr => x).getD none = some ⟨x.b, 0, none⟩ := by rw [bes_kp, hfx]; rfl
    refine MpS.get mkStr und_by zptr (fun x : Option Addr => x) (fun _ => rfl) h 9 rfl hm2 ?_
    rw [hlk]
    obtain ⟨A, B, rfl, hxk⟩ := lfind_at hfx
    have h := fr10_ h
    have h := h.pick.split
    ((try dsimp only [setN, List.cons_append, List.nil_append] at h); repeat (first | refine nn ?_ | (refine dr h ?_; clear h; (try clear w); intro w h) | refine ldC h ?_ | refine laC h ?_ | refine ckC h ?_ | (refine stC h ?_; clear h; (try clear w); intro w h; (try dsimp only [putN, setN] at h)) | rw [add_add]))
    have h := fr5_ h
    refine S_gBusy h hG2 fun sg3 w hG3 h => ?_
    ((try dsimp only [setN, List.cons_append, List.nil_append] at h); repeat (first | refine nn ?_ | (refine dr h ?_; clear h; (try clear w); intro w h) | refine ldC h ?_ | refine laC h ?_ | refine ckC h ?_ | (refine stC h ?_; clear h; (try clear w); intro w h; (try dsimp only [putN, setN] at h)) | rw [add_add]))
    refine MpS.chk mkStr und_by (z := .pointer none) zptr h 12 rfl hm2 (by rw [bes_kp, hfx]; rfl) ?_
    ((try dsimp only [setN, List.cons_append, List.nil_append] at h); repeat (first | refine nn ?_ | (refine dr h ?_; clear h; (try clear w); intro w h) | refine ldC h ?_ | refine laC h ?_ | refine ckC h ?_ | (refine stC h ?_; clear h; (try clear w); intro w h; (try dsimp only [putN, setN] at h)) | rw [add_add]))
    have hox := ok2 x (by simp)
    have hlx := hx2 x (by simp)
    refine S_gaAdd h 2 rfl hox (by omega) fun sgg w hga h => ?_
    dsimp only [setN] at h
    have hbu : ((gWait g.1 rev).length : Int) + (gWith g.1.all rev).length = busyB g.1 rev := rfl
    rw [hbu] at hga
    have h := fr2_ (fr2_ h)
    have h := h.glue
    have h := fr1_ (fr2_ h)
    have h : St w0 (BsE.sg ⟨x.k, x.b, x.g, ⟨x.x.xs ++ [if 0 > busyB g.1 rev then 0 else busyB g.1 rev], x.x.want, x.x.left⟩, sgg⟩ :: ((A ++ B).map BsE.sg).flatten :: sg3 :: s2 :: sv :: EV :: sysC b p (a.now + 1) :: sf :: ss :: sk :: sr :: sm :: delN E i) w := h
    have h := h.place
    have et2 := bes_turn (rev := rev) (y := ⟨x.x.xs ++ [if 0 > busyB g.1 rev then 0 else busyB g.1 rev], x.x.want, x.x.left⟩) (sgg := sgg) hxk (B := B) (A := A) (by simpa [List.map_map, Function.comp_def] using hmk)
    refine hag (m - 1) _ w (by omega) ⟨j + 1, sg3, A ++ ⟨x.k, x.b, x.g, ⟨x.x.xs ++ [if 0 > busyB g.1 rev then 0 else busyB g.1 rev], x.x.want, x.x.left⟩, sgg⟩ :: B, ?_, by omega, hG3, ?_, ?_, ?_, ?_, ?_⟩
    · show IntKind.wrap .i64 _ = _
      rw [wr (by omega) (by omega)]; omega
    · rw [← ekp]; simp
    · intro y hy
      rcases List.mem_append.1 hy with hy | hy
      · exact ok2 y (by simp [hy])
      · rcases List.mem_cons.1 hy with rfl | hy
        · exact hga
        · exact ok2 y (by simp [hy])
    · rw [et, et2]
      unfold tkStep
      rw [bes_ka, hfx]
      rfl
    · intro y hy
      rcases List.mem_append.1 hy with hy | hy
      · have := hx2 y (by simp [hy]); omega
      · rcases List.mem_cons.1 hy with rfl | hy
        · simp; omega
        · have := hx2 y (by simp [hy]); omega
    · have h := fr10_ (fr10_ (fr8_ (fr10_ (fr10_ (fr10_ (fr10_ (fr10_ (fr10_ (fr10_ h)))))))))
      exact h
  · have ej : l.take j = l := List.take_of_length_le (by omega)
    rw [ej] at eka
    ((try dsimp only [setN, List.cons_append, List.nil_append] at h); repeat (first | refine nn ?_ | (refine dr h ?_; clear h; (try clear w); intro w h) | refine ldC h ?_ | refine laC h ?_ | refine ckC h ?_ | (refine stC h ?_; clear h; (try clear w); intro w h; (try dsimp only [putN, setN] at h)) | rw [add_add]))
    refine nw h ?_; clear h; (try clear w); intro b29 w h
    refine lineI1 h (by decide) (by omega) (by omega) fun w h => ?_
    refine nw h ?_; clear h; (try clear w); intro b31 w h
    have h := fr1_ (fr2_ h)
    refine S_told h (l := [lineB s_tick [decD (a.now + 1).toNat]]) hr hf (by omega) (by simp) (Rw.lit b31 [_] encS rfl rfl (by simp [maxLen])) fun v s w r h => ?_
    refine ⟨v, rfl, hk v s _ w r ⟨p, sg2, sf, ss, sk, sr, sm, Q2, ⟨hG2, R.fl, R.sh, R.bk, R.ro, by rw [ekp]; exact R.mp, ok2, eka.symm⟩, rfl⟩ (sysBack i hi ?_)⟩
    have h := dl1_ (dl2_ (dl4_ h))
    have h := fr2_ (fr2_ (fr1_ h))
    exact h
end Go.Proofs.YtkebppklbobjcaaGreatDoor
namespace Go.Proofs.YtkebppklbobjcaaGreatDoor
open Go.Dm
theorem lk_of {P : Program} {r : RT} {s : Sem Value} {k : r.T → PT} {w : World} (x : r.T) (h : s.run P w = .ok (r.val x) w) (hk : k x w) : L.semR P r s k w := ⟨x, h, hk⟩
theorem callV_mono {P : Program} {fv : Value} {args : List Value} {r : RT} {k k' : r.T → PT} {w : World} (h : L.callV P fv args r k w) (hm : ∀ x w, k x w → k' x w) : L.callV P fv args r k' w := FCall.mono h fun _ _ ⟨x, e, hk⟩ => ⟨x, e, hm x _ hk⟩
attribute [local irreducible] L.load L.store L.chk L.new L.nonnil L.guard L.ite L.draw L.idx L.sem L.semR L.semU L.chkSem L.next L.call L.callV L.join L.alts L.loop L.begin L.endRound L.range
variable {w0 w : World} {E : List Seg}
def mV (b : Nat) (f : FuncId) : Value := .func (.func f) #[.pointer (some ⟨b, 0, none⟩)] #[]
def doM : List (Int × FuncId) := [(1, n_system_System_config), (2, n_system_System_route), (3, n_system_System_drop), (4, n_system_System_arrive), (5, n_system_System_done), (6, n_system_System_up), (7, n_system_System_down), (8, n_system_System_down), (9, n_system_System_tick), (10, n_system_System_stamp), (11, n_system_System_lead), (12, n_system_System_scale), (13, n_system_System_pods)]
theorem und_do : Pr.underlying T_map_int_func_api_Event_s_string = some (.map T_int T_func_api_Event_s_string) := by kernel_rfl
theorem zfun (w : World) : (zeroValue T_func_api_Event_s_string).run Pr w = .ok .nilFunc w := by
  have h : (Pr.info? T_func_api_Event_s_string).map (·.zero) = some (some .nilFunc) := by kernel_rfl
  cases hi : Pr.info? T_func_api_Event_s_string with
  | none => rw [hi] at h; cases h
  | some i => rw [hi] at h; simp only [Option.map_some, Option.some.injEq] at h; exact zv hi h w
theorem S_doBad (h : St w0 E w) {b : Nat} {e : AEv} (hb : chkEv e ≠ 0) (hn : e.kind = 12 ∨ e.kind = 13 → RevN e.name) (rd : RdE w0 E eT e.v e.r.ts) (hvc : e.v.len ≤ e.v.cap) (hrv : ∀ t ∈ e.r.ts, revOk t.1) {k : Sl → PT}
    (hk : ∀ v sv w', Rw eS T_string 1 v [lineB s_bad [errB (chkEv e)]] sv → St w0 (sv :: E) w' → k v w') : L.call Pr n_system_System_Do [.pointer (some ⟨b, 0, none⟩), evV e] (.one (.one .slice)) k w := by
  refine call_of (C_system_System_Do _ e.t) ?_
  unfold F_system_System_Do
  refine nw h ?_; clear h; (try clear w); intro b1 w h
  ((try dsimp only [setN, List.cons_append, List.nil_append] at h); repeat (first | refine nn ?_ | (refine dr h ?_; clear h; (try clear w); intro w h) | refine ldC h ?_ | refine laC h ?_ | refine ckC h ?_ | (refine stC h ?_; clear h; (try clear w); intro w h; (try dsimp only [putN, setN] at h)) | rw [add_add]))
  refine S_evCheck (e := e) h hn (fun w h => rd w (dl0_ h)) hvc hrv fun w h => ?_
  refine itT (by simpa using hb) ?_
  refine S_errno ?_
  refine nw h ?_; clear h; (try clear w); intro b5 w h
  have := errB_le (chkEv e)
  refine lineS1 h (by decide) (by omega) fun w h => ?_
  refine nw h ?_; clear h; (try clear w); intro b7 w h
  exact ⟨_, rfl, hk _ _ w (Rw.lit b7 [_] encS rfl rfl (by simp [maxLen])) (dl1_ h)⟩
theorem S_do (h : St w0 E w) {b : Nat} {e : AEv} (hb : chkEv e = 0) (hn : e.kind = 12 ∨ e.kind = 13 → RevN e.name) (rd : RdE w0 E eT e.v e.r.ts) (hvc : e.v.len ≤ e.v.cap) (hrv : ∀ t ∈ e.r.ts, revOk t.1) {f : FuncId} (hf : mget doM e.kind = some f) {k : Sl → PT}
    (hh : ∀ (s1 s2 : Seg) w', St w0 (s1 :: s2 :: E) w' → L.callV Pr (.func (.func f) #[.pointer (some ⟨b, 0, none⟩)] #[]) [evV e] (.one (.one .slice)) k w') : L.call Pr n_system_System_Do [.pointer (some ⟨b, 0, none⟩), evV e] (.one (.one .slice)) k w := by
  refine call_of (C_system_System_Do _ e.t) ?_
  unfold F_system_System_Do
  refine nw h ?_; clear h; (try clear w); intro b1 w h
  ((try dsimp only [setN, List.cons_append, List.nil_append] at h); repeat (first | refine nn ?_ | (refine dr h ?_; clear h; (try clear w); intro w h) | refine ldC h ?_ | refine laC h ?_ | refine ckC h ?_ | (refine stC h ?_; clear h; (try clear w); intro w h; (try dsimp only [putN, setN] at h)) | rw [add_add]))
  refine S_evCheck (e := e) h hn (fun w h => rd w (dl0_ h)) hvc hrv fun w h => ?_
  refine itF (by simpa using hb) ?_
  refine MpS.new h KI (mV b) fun r s w hm h => ?_
  refine MpS.set mkI und_do h 0 rfl hm n_system_System_config rfl fun s w hm h => ?_
  refine MpS.set mkI und_do h 0 rfl hm n_system_System_route rfl fun s w hm h => ?_
  refine MpS.set mkI und_do h 0 rfl hm n_system_System_drop rfl fun s w hm h => ?_
  refine MpS.set mkI und_do h 0 rfl hm n_system_System_arrive rfl fun s w hm h => ?_
  refine MpS.set mkI und_do h 0 rfl hm n_system_System_done rfl fun s w hm h => ?_
  refine MpS.set mkI und_do h 0 rfl hm n_system_System_up rfl fun s w hm h => ?_
  refine MpS.set mkI und_do h 0 rfl hm n_system_System_down rfl fun s w hm h => ?_
  refine MpS.set mkI und_do h 0 rfl hm n_system_System_down rfl fun s w hm h => ?_
  refine MpS.set mkI und_do h 0 rfl hm n_system_System_tick rfl fun s w hm h => ?_
  refine MpS.set mkI und_do h 0 rfl hm n_system_System_stamp rfl fun s w hm h => ?_
  refine MpS.set mkI und_do h 0 rfl hm n_system_System_lead rfl fun s w hm h => ?_
  refine MpS.set mkI und_do h 0 rfl hm n_system_System_scale rfl fun s w hm h => ?_
  refine MpS.set mkI und_do h 0 rfl hm n_system_System_pods rfl fun s w hm h => ?_
  have hm : MpS KI (mV b) r doM s := hm
  dsimp only [setN] at h
  ((try dsimp only [setN, List.cons_append, List.nil_append] at h); repeat (first | refine nn ?_ | (refine dr h ?_; clear h; (try clear w); intro w h) | refine ldC h ?_ | refine laC h ?_ | refine ckC h ?_ | (refine stC h ?_; clear h; (try clear w); intro w h; (try dsimp only [putN, setN] at h)) | rw [add_add]))
  refine lk_of ⟨.func f, #[.pointer (some ⟨b, 0, none⟩)], #[]⟩ ?_ ?_
  · rw [MpS.get_run mkI und_do (zfun w) h 0 rfl hm false, hf]; rfl
  ((try dsimp only [setN, List.cons_append, List.nil_append] at h); repeat (first | refine nn ?_ | (refine dr h ?_; clear h; (try clear w); intro w h) | refine ldC h ?_ | refine laC h ?_ | refine ckC h ?_ | (refine stC h ?_; clear h; (try clear w); intro w h; (try dsimp only [putN, setN] at h)) | rw [add_add]))
  exact callV_mono (hh s _ w h) fun x w hk => ⟨x, rfl, hk⟩
theorem S_doK (h : St w0 E w) (i : Nat) {b : Nat} {a : ASys} {s : Seg} (hi : nth E i = some s) (hs : SysS b a s) {e : AEv} (hb : chkEv e = 0) (hn : e.kind = 12 ∨ e.kind = 13 → RevN e.name) (rd : RdE w0 E eT e.v e.r.ts) (hvc : e.v.len ≤ e.v.cap) (hrv : ∀ t ∈ e.r.ts, revOk t.1)
    {f : FuncId} (hf : mget doM e.kind = some f) {r : ASys × List ByteArray} {F : (Value → PT) → PT} (hE : Enters Pr f) (hC : ∀ {K : Value → PT} {w : World}, F K w → Calls Pr f (#[.pointer (some ⟨b, 0, none⟩)] ++ [evV e].toArray ++ #[]) w fun e w' => ∃ v, e = .returned v ∧ K v w')
    (hh : ∀ {E2 : List Seg} {i2 : Nat} {w : World} {k : Sl → PT}, St w0 E2 w → nth E2 i2 = some s → (∀ w, St w0 (delN E2 i2) w → St w0 (delN E i) w) → Hk w0 E2 i2 b r k → F (slK k) w) {k : Sl → PT} (hk : Hk w0 E i b r k) :
    L.call Pr n_system_System_Do [.pointer (some ⟨b, 0, none⟩), evV e] (.one (.one .slice)) k w := by
  refine S_do h hb hn rd hvc hrv hf fun s1 s2 w h => ?_
  refine callV_of (F := F) hE hC ?_
  exact hh (E2 := s1 :: s2 :: E) (i2 := i + 2) h hi (fun w h => dl0_ (dl0_ h)) fun v sv s' w' r hs h => hk v sv s' w' r hs (dl1_ (dl1_ h))
end Go.Proofs.YtkebppklbobjcaaGreatDoor
namespace Go.Proofs.YtkebppklbobjcaaGreatDoor
open Go.Dm
attribute [local irreducible] L.load L.store L.chk L.new L.nonnil L.guard L.ite L.draw L.idx L.sem L.semR L.semU L.chkSem L.next L.call L.callV L.join L.alts L.loop L.begin L.endRound L.range
variable {w0 w : World} {E : List Seg}
def newSys (room line pat : Int) : ASys := ⟨⟨[], [], 0⟩, ⟨[], []⟩, [], ⟨room, 0, []⟩, ⟨[], [], line, pat⟩, [], 0⟩
theorem S_sysWithin {n a b : Int} {k : Bool → PT} (hk : k (wiB n a b) w) : L.call Pr n_system_within_int [I n, I a, I b] (.one (.one .bool)) k w := by
  refine call_of (C_system_within_int n a b) ?_
  unfold F_system_within_int
  unfold wiB at hk
  refine it (fun h1 => ?_) (fun h1 => ?_)
  · have h1 : decide (a ≤ n) = true := h1
    rw [h1] at hk
    exact ⟨_, rfl, hk⟩
  · have h1 : decide (a ≤ n) = false := h1
    rw [h1] at hk
    exact ⟨_, rfl, hk⟩
def newOk (room line pat : Int) : Bool := wiB room 1 30 && (wiB line 0 8 && wiB pat 1 50)
theorem S_sysNew (h : St w0 E w) {room line pat : Int} {k : Option Addr × Int × Unit → PT} (h0 : newOk room line pat = false → ∀ w', St w0 E w' → k (none, 2, ()) w')
    (h1 : newOk room line pat = true → ∀ b s w', SysS b (newSys room line pat) s → St w0 (s :: E) w' → k (some ⟨b, 0, none⟩, 0, ()) w') : L.call Pr n_system_New [I room, I line, I pat] (.tup [.one .ptr, .one (.int .i64)]) k w := by
  refine call_of (C_system_New _ _ _) ?_
  unfold F_system_New
  unfold newOk at h0 h1
  refine S_sysWithin ?_
  cases c1 : wiB room 1 30 with
  | false => exact itT rfl ⟨(none, 2, ()), rfl, h0 (by rw [c1]; rfl) w h⟩
  | true =>
  refine itF rfl ?_
  refine S_sysWithin ?_
  cases c2 : wiB line 0 8 with
  | false => exact itT rfl ⟨(none, 2, ()), rfl, h0 (by rw [c1, c2]; rfl) w h⟩
  | true =>
  refine itF rfl ?_
  refine S_sysWithin ?_
  cases c3 : wiB pat 1 50 with
  | false => exact itT rfl ⟨(none, 2, ()), rfl, h0 (by rw [c1, c2, c3]; rfl) w h⟩
  | true =>
  refine itF rfl ?_
  have hl : 0 ≤ line ∧ line ≤ 8 := by unfold wiB at c2; simpa using c2
  refine S_fNew h fun bf sf w hF h => ?_
  refine S_shNew h fun bs ss w hS h => ?_
  refine S_bkNew h fun bk sk w hK h => ?_
  refine S_roNew h fun br sr w hR h => ?_
  refine S_gNew h (bf := bf) hl.1 (by omega) fun bg sg w hG h => ?_
  refine MpS.new h Value.string Value.pointer fun r sm w hm h => ?_
  refine nw h ?_; clear h; (try clear w); intro b w h
  have h : St w0 (sysC b ⟨bs, bk, br, bf, bg, r⟩ 0 :: sm :: sg :: sr :: sk :: ss :: sf :: E) w := h
  refine ⟨(some ⟨b, 0, none⟩, 0, ()), rfl, h1 (by rw [c1, c2, c3]; rfl) b _ w ⟨⟨bs, bk, br, bf, bg, r⟩, sg, sf, ss, sk, sr, sm, [], ⟨hG, hF, hS, hK, hR, hm, by simp, rfl⟩, rfl⟩ ?_⟩
  have h := fr6_ (fr6_ (fr6_ (fr5_ (fr4_ (fr3_ (fr1_ h))))))
  have h : St w0 (sysC b ⟨bs, bk, br, bf, bg, r⟩ 0 :: sg :: sf :: ss :: sk :: sr :: sm :: (([] : List BsE).map BsE.sg).flatten :: E) w := h.eq (by simp)
  exact h.glue8
theorem S_sysNow (h : St w0 E w) (i : Nat) {b : Nat} {a : ASys} {s : Seg} (hi : nth E i = some s) (hs : SysS b a s) {k : Int → PT} (hk : k a.now w) : L.call Pr n_system_System_Now [.pointer (some ⟨b, 0, none⟩)] (.one (.one (.int .i64))) k w := by
  obtain ⟨p, sg, sf, ss, sk, sr, sm, Q, R, rfl⟩ := hs
  refine call_of (C_system_System_Now _) ?_
  unfold F_system_System_Now
  have h := (h.front i hi).split8
  ((try dsimp only [setN, List.cons_append, List.nil_append] at h); repeat (first | refine nn ?_ | (refine dr h ?_; clear h; (try clear w); intro w h) | refine ldC h ?_ | refine laC h ?_ | refine ckC h ?_ | (refine stC h ?_; clear h; (try clear w); intro w h; (try dsimp only [putN, setN] at h)) | rw [add_add]))
  exact ⟨_, rfl, hk⟩
theorem S_within15 {p0 p1 : Int} (h : 0 < p1) (hp : p1 ≤ 2147483648) {k : Int → PT} (hk : k (p0 % p1) w) : L.call Pr n_damperlaw15_within [I p0, I p1] (.one (.one (.int .i64))) k w := by
  refine call_of (C_damperlaw15_within p0 p1) ?_
  unfold F_damperlaw15_within
  refine gd (by omega) ?_
  have h1 := Int.emod_nonneg p0 (by omega : p1 ≠ 0)
  have h2 := Int.emod_lt_of_pos p0 h
  have e := tmod_within p0 p1 h
  refine join_of (fun z w' => z.1 = p0 % p1 ∧ w' = w) (fun k' hk' => ?_) (fun y w' ⟨h1, h2⟩ => by subst h2; exact ⟨_, rfl, by rw [h1]; exact hk⟩)
  refine it (fun hb => ?_) (fun hb => ?_) <;> (try simp only [decide_eq_true_eq, decide_eq_false_iff_not, beq_iff_eq, bne_iff_ne, beq_eq_false_iff_ne, bne_eq_false_iff_eq, Bool.not_eq_true', Bool.not_eq_false', ne_eq, Bool.not_eq_true, Bool.not_eq_false] at hb)
  · refine hk' _ _ ⟨?_, rfl⟩
    rw [e] at hb
    dsimp only
    rw [e]
    split at hb <;> rename_i hc
    · omega
    · rw [if_neg hc, wr] <;> omega
  · refine hk' _ _ ⟨?_, rfl⟩
    rw [e] at hb
    dsimp only
    rw [e]
    split at hb <;> rename_i hc
    · rw [if_pos hc]
    · omega
end Go.Proofs.YtkebppklbobjcaaGreatDoor
namespace Go.Proofs.YtkebppklbobjcaaGreatDoor
open Go.Dm
attribute [local irreducible] L.load L.store L.chk L.new L.nonnil L.guard L.ite L.draw L.idx L.sem L.semR L.semU L.chkSem L.next L.call L.callV L.join L.alts L.loop L.begin L.endRound L.range
variable {w0 w : World} {E : List Seg}
def noRt15 : ARt := ⟨s_, s_, [], 0⟩
abbrev noSl : Sl := ⟨none, 0, 0⟩
theorem S_doTick [bTab w0] (h : St w0 E w) (i : Nat) {b : Nat} {a : ASys} {s : Seg} (hi : nth E i = some s) (hs : SysS b a s) {e : AEv} (hkd : e.kind = 9) (hb : chkEv e = 0) (rd : RdE w0 E eT e.v e.r.ts) (hvc : e.v.len ≤ e.v.cap) (hrv : ∀ t ∈ e.r.ts, revOk t.1)
    (hnow : 0 ≤ a.now) (hwk : GWk a.gt) (hfl : (tkG a).2.length < 90000000) (hf : ∀ f ∈ (tkG a).2, f.Ok)
    (hby : ∀ rev ∈ bkAll a.bk, (mget a.by' rev).isSome = true) (hxs : ∀ x ∈ a.by', x.2.xs.length < 1000000000) (hfb : a.bk.all.length < 1000000) {k : Sl → PT} (hk : Hk w0 E i b (sysTick a) k) :
    L.call Pr n_system_System_Do [.pointer (some ⟨b, 0, none⟩), evV e] (.one (.one .slice)) k w :=
  S_doK h i hi hs hb (fun hh => by omega) rd hvc hrv (f := n_system_System_tick) (by rw [hkd]; rfl) E_system_System_tick (C_system_System_tick (some ⟨b, 0, none⟩) e.t)
    (fun h hi _ hk => S_sysTick h _ hi hs hnow hwk hfl hf hby hxs hfb hk) hk
abbrev evT0 (kind : Int) : AEv := ⟨kind, s_, s_, 0, 0, noCfg, noRt15, noSl⟩
theorem chk0 : chkEv (evT0 0) = 12 := by decide
theorem chk9 : chkEv (evT0 9) = 0 := by decide +kernel
theorem tick_new : (tkG (newSys 3 2 5)).2 = [] := by decide +kernel
theorem gwk_new : GWk (newSys 3 2 5).gt := fun x hx => by cases hx
theorem S_known15 [bTab w0] (h : St w0 E w) {k : Bool → PT} (hk : ∀ w', St w0 E w' → k true w') : L.call Pr n_damperlaw15_known [] (.one (.one .bool)) k w := by
  refine call_of C_damperlaw15_known ?_
  unfold F_damperlaw15_known
  refine S_sysNew h (fun hh => absurd hh (by decide)) fun _ b s w hs h => ?_
  refine itF rfl (itF rfl ?_)
  refine S_doBad (e := evT0 0) h (by rw [chk0]; decide) (fun hh => by rcases hh with hh | hh <;> cases hh) (fun _ _ => Rd.nil) (by decide) (by simp [noRt15]) fun v2 s2 w r2 h => ?_
  refine S_doTick h 1 rfl hs (e := evT0 9) rfl chk9 (fun _ _ => Rd.nil) (by decide) (by simp [noRt15]) (by decide) gwk_new (by rw [tick_new]; decide) (by rw [tick_new]; simp) (by simp [newSys, bkAll, ssort_nil]) (by simp [newSys]) (by decide) fun v3 s3 s' w r3 hs h => ?_
  have e2 : [lineB s_bad [errB (chkEv (evT0 0))]] = [s_bad_kind] := by decide +kernel
  have e3 : (sysTick (newSys 3 2 5)).2 = [s_tick_1] := by decide +kernel
  have e4 : (sysTick (newSys 3 2 5)).1.now = 1 := by decide +kernel
  rw [e2] at r2
  rw [e3] at r3
  have l2 := Rw.len encS r2
  have l3 := Rw.len encS r3
  refine itT (by rw [l2]; rfl) ?_
  refine Rw.ix encS r2 (by decide) (by decide) fun a ha => ?_
  refine Rw.ld0 encS h 1 rfl r2 ha (x := s_bad_kind) rfl rfl rfl ?_
  refine itT (by rw [str_eq]; decide) ?_
  refine itT (by rw [l3]; rfl) ?_
  refine Rw.ix encS r3 (by decide) (by decide) fun a ha => ?_
  refine Rw.ld0 encS h 0 rfl r3 ha (x := s_tick_1) rfl rfl rfl ?_
  refine itT (by rw [str_eq]; decide) ?_
  refine S_sysNow h 2 rfl hs ?_
  rw [e4]
  exact ⟨true, rfl, hk w (dl0_ (dl0_ (dl0_ h)))⟩
end Go.Proofs.YtkebppklbobjcaaGreatDoor
namespace Go.Proofs.YtkebppklbobjcaaGreatDoor
open Go.Dm
attribute [local irreducible] L.load L.store L.chk L.new L.nonnil L.guard L.ite L.draw L.idx L.sem L.semR L.semU L.chkSem L.next L.call L.callV L.join L.alts L.loop L.begin L.endRound L.range
variable {w0 w : World} {E : List Seg}
theorem S_doConfig [bTab w0] (h : St w0 E w) (i : Nat) {b : Nat} {a : ASys} {s : Seg} (hi : nth E i = some s) (hs : SysS b a s) {e : AEv} (hkd : e.kind = 1) (hb : chkEv e = 0) (rd : RdE w0 E eT e.v e.r.ts) (hvc : e.v.len ≤ e.v.cap) (hrv : ∀ t ∈ e.r.ts, revOk t.1)
    (hn : a.sh.n < 900000000) (hsz : e.c.1.size ≤ 1000000) {k : Sl → PT} (hk : Hk w0 E i b (sysConfig a e) k) : L.call Pr n_system_System_Do [.pointer (some ⟨b, 0, none⟩), evV e] (.one (.one .slice)) k w :=
  S_doK h i hi hs hb (fun hh => by omega) rd hvc hrv (f := n_system_System_config) (by rw [hkd]; rfl) E_system_System_config (C_system_System_config (some ⟨b, 0, none⟩) e.t) (fun h hi _ hk => S_sysConfig h _ hi hs hn hsz hk) hk
theorem S_doStamp [bTab w0] (h : St w0 E w) (i : Nat) {b : Nat} {a : ASys} {s : Seg} (hi : nth E i = some s) (hs : SysS b a s) {e : AEv} (hkd : e.kind = 10) (hb : chkEv e = 0) (rd : RdE w0 E eT e.v e.r.ts) (hvc : e.v.len ≤ e.v.cap) (hrv : ∀ t ∈ e.r.ts, revOk t.1)
    (hst : (shCfg a.sh e.name).2.2.2.1 = true → shortB (shCfg a.sh e.name).1.1.data.toList 16 = true ∧ 1 ≤ @id Int (shCfg a.sh e.name).2.2.1 ∧ @id Int (shCfg a.sh e.name).2.2.1 < 100 ∧ @id Int (shCfg a.sh e.name).1.2.2.2.1 ≤ 1000000) (hf : a.bk.all.length < 999999)
    {k : Sl → PT} (hk : Hk w0 E i b (sysStamp a e) k) : L.call Pr n_system_System_Do [.pointer (some ⟨b, 0, none⟩), evV e] (.one (.one .slice)) k w :=
  S_doK h i hi hs hb (fun hh => by omega) rd hvc hrv (f := n_system_System_stamp) (by rw [hkd]; rfl) E_system_System_stamp (C_system_System_stamp (some ⟨b, 0, none⟩) e.t) (fun h hi _ hk => S_sysStamp h _ hi hs hst hf hk) hk
end Go.Proofs.YtkebppklbobjcaaGreatDoor
namespace Go.Proofs.YtkebppklbobjcaaGreatDoor
open Go.Dm
attribute [local irreducible] L.load L.store L.chk L.new L.nonnil L.guard L.ite L.draw L.idx L.sem L.semR L.semU L.chkSem L.next L.call L.callV L.join L.alts L.loop L.begin L.endRound L.range
variable {w0 w : World} {E : List Seg}
theorem S_sysRevisions (h : St w0 E w) (i : Nat) {b : Nat} {a : ASys} {s : Seg} (hi : nth E i = some s) (hs : SysS b a s) {k : Sl → PT} (hk : ∀ v sv w', Rw eS T_string 1 v (bkAll a.bk) sv → St w0 (sv :: E) w' → k v w') : L.call Pr n_system_System_Revisions [.pointer (some ⟨b, 0, none⟩)] (.one (.one .slice)) k w := by
  obtain ⟨p, sg, sf, ss, sk, sr, sm, Q, R, rfl⟩ := hs
  refine call_of (C_system_System_Revisions _) ?_
  unfold F_system_System_Revisions
  have h := (h.front i hi).split8
  ((try dsimp only [setN, List.cons_append, List.nil_append] at h); repeat (first | refine nn ?_ | (refine dr h ?_; clear h; (try clear w); intro w h) | refine ldC h ?_ | refine laC h ?_ | refine ckC h ?_ | (refine stC h ?_; clear h; (try clear w); intro w h; (try dsimp only [putN, setN] at h)) | rw [add_add]))
  refine S_bkAll h 4 rfl R.bk fun v sv w r h => ⟨v, rfl, hk v sv w r ?_⟩
  have h := fr8_ (fr8_ (fr8_ (fr8_ (fr8_ (fr8_ (fr8_ (fr8_ h)))))))
  have h := h.glue8
  exact St.again (E := sv :: E) (i + 1) hi h
end Go.Proofs.YtkebppklbobjcaaGreatDoor
namespace Go.Proofs.YtkebppklbobjcaaGreatDoor
open Go.Dm
attribute [local irreducible] L.load L.store L.chk L.new L.nonnil L.guard L.ite L.draw L.idx L.sem L.semR L.semU L.chkSem L.next L.call L.callV L.join L.alts L.loop L.begin L.endRound L.range
variable {w0 w : World} {E : List Seg}
theorem und_s8 : Pr.underlying T_s_uint8 = some (.slice T_uint8) := by kernel_rfl
theorem und_u8 : Pr.underlying T_uint8 = some (.int .u8) := by kernel_rfl
theorem S_Digits (n : Nat) : ∀ {g : Nat} {E : List Seg} {w : World} {k : ByteArray → PT}, g ≤ n → g ≤ 9000000000000000000 → St w0 E w → (∀ w', St w0 E w' → k (decD g) w') → L.call Pr n_damperref1_Digits [I g] (.one (.one .str)) k w := by
  induction n using Nat.strongRecOn with
  | _ n ih =>
    intro g E w k hgn hg h hk
    refine call_of (C_damperref1_Digits _) ?_
    unfold F_damperref1_Digits
    refine itF (decide_eq_false (by omega)) ?_
    refine it (fun hc => ?_) (fun hc => ?_)
    · have hc : 10 ≤ g := by have := of_decide_eq_true hc; omega
      have e1 : IntKind.wrap .i64 (Int.tdiv (g : Int) 10) = ((g / 10 : Nat) : Int) := by
        rw [Int.tdiv_eq_ediv_of_nonneg (by omega), wr (by omega) (by omega)]; rfl
      have e2 : Int.tmod (g : Int) 10 = ((g % 10 : Nat) : Int) := by
        rw [Int.tmod_eq_emod_of_nonneg (by omega)]; rfl
      rw [e1, e2]
      have s1 := decD_le (g % 10)
      have s2 : (decD (g / 10)).size ≤ 100 := by
        have := decD_19 (x := ((g / 10 : Nat) : Int)) (by omega) (by omega)
        rw [Int.toNat_natCast] at this
        exact this
      refine gd (by decide) ?_
      refine ih (g / 10) (by omega) (Nat.le_refl _) (by omega) h fun w h => ?_
      refine gd (by decide) ?_
      refine ih (g % 10) (by omega) (Nat.le_refl _) (by omega) h fun w h => ?_
      refine gd (by simp only [maxI64]; omega) ?_
      refine ⟨_, rfl, ?_⟩
      rw [← decD_step hc]
      exact hk w h
    · have hc : g < 10 := by have := of_decide_eq_false hc; omega
      refine nw h ?_; clear h; (try clear w); intro b4 w h
      have e1 : IntKind.wrap .u8 (IntKind.wrap .i64 (48 + (g : Int))) = ((48 + g : Nat) : Int) := by
        have : g = 0 ∨ g = 1 ∨ g = 2 ∨ g = 3 ∨ g = 4 ∨ g = 5 ∨ g = 6 ∨ g = 7 ∨ g = 8 ∨ g = 9 := by omega
        rcases this with rfl | rfl | rfl | rfl | rfl | rfl | rfl | rfl | rfl | rfl <;> rfl
      rw [e1] at h
      have hr : Rw eU T_uint8 1 ⟨some ⟨b4, 0, none⟩, 1, 1⟩ [UInt8.ofNat (48 + g)] [Cl b4 T_uint8 [.int .u8 ((48 + g : Nat) : Int)]] := by
        refine Rw.lit b4 [UInt8.ofNat (48 + g)] encU ?_ rfl (by simp [maxLen])
        have : g = 0 ∨ g = 1 ∨ g = 2 ∨ g = 3 ∨ g = 4 ∨ g = 5 ∨ g = 6 ∨ g = 7 ∨ g = 8 ∨ g = 9 := by omega
        rcases this with rfl | rfl | rfl | rfl | rfl | rfl | rfl | rfl | rfl | rfl <;> rfl
      refine cvBS und_s8 und_u8 und_str (Rw.rd encU h 0 rfl hr) ?_
      refine ⟨_, rfl, ?_⟩
      have e2 : (⟨[UInt8.ofNat (48 + g)].toArray⟩ : ByteArray) = decD g := by unfold decD; rw [Lib.decDigits_one hc]
      rw [e2]
      exact hk w (dl0_ h)
theorem S_DigitsI (h : St w0 E w) {x : Int} (h0 : 0 ≤ x) (h1 : x ≤ 9000000000000000000) {k : ByteArray → PT} (hk : ∀ w', St w0 E w' → k (decD x.toNat) w') : L.call Pr n_damperref1_Digits [I x] (.one (.one .str)) k w := by
  obtain ⟨g, rfl⟩ : ∃ g : Nat, x = (g : Int) := ⟨x.toNat, by omega⟩
  rw [Int.toNat_natCast] at hk
  exact S_Digits g (Nat.le_refl _) (by omega) h hk
theorem S_rRev (h : St w0 E w) {c : ByteArray} {g : Nat} (hc : shortB c.data.toList 16 = true) (h1 : 1 ≤ g) (hg : g < 100) {k : ByteArray → PT} (hk : ∀ w', St w0 E w' → k (revB c g) w') : L.call Pr n_damperref1_Rev [.string c, I g] (.one (.one .str)) k w := by
  refine call_of (C_damperref1_Rev _ _) ?_
  unfold F_damperref1_Rev
  refine S_rName h fun w h => ?_
  rw [hc]
  have hs := short_size hc
  have hr := rev_size c hg
  refine itF rfl (itF (decide_eq_false (by omega)) (itF (decide_eq_false (by omega)) ?_))
  refine gd (by have : s___b5d2.size = 1 := rfl; simp only [maxI64]; omega) ?_
  refine S_Digits g (Nat.le_refl _) (by omega) h fun w h => ?_
  have e : (c ++ s___b5d2).size + (decD g).size = (revB c g).size := by unfold revB; rw [ByteArray.size_append (a := c ++ s___b5d2)]; rfl
  refine gd (by rw [e]; simp only [maxI64]; omega) ?_
  exact ⟨_, rfl, hk w h⟩
end Go.Proofs.YtkebppklbobjcaaGreatDoor
namespace Go.Proofs.YtkebppklbobjcaaGreatDoor
open Go.Dm
def cW (k : Int) : Cfg := (s_web, k, 1, 0, 1, 0, ())
abbrev evCfg (ver k : Int) : AEv := ⟨1, s_, s_, ver, 0, cW k, noRt15, noSl⟩
abbrev evStp (n : ByteArray) : AEv := ⟨10, n, s_, 0, 0, noCfg, noRt15, noSl⟩
theorem specC_W {k : Int} (h0 : 0 ≤ k) (h1 : k < 4) : specC (cW k) = 0 := by
  have : k = 0 ∨ k = 1 ∨ k = 2 ∨ k = 3 := by omega
  rcases this with rfl | rfl | rfl | rfl <;> decide +kernel
theorem chk_cfg {ver k : Int} (hv : 0 ≤ ver ∧ ver ≤ 1000) (h0 : 0 ≤ k) (h1 : k < 4) : chkEv (evCfg ver k) = 0 := by
  have hs := specC_W h0 h1
  have hp : shp 1 = ((true, false, false, false, true, false, ()), true) := rfl
  have hn : noneE (true, false, false, false, true, false, ()) (evCfg ver k) = true := by
    simp [noneE, bareE, noRt15]
  have hm : numE (evCfg ver k) = true := by
    simp only [numE, wiB]
    rw [if_pos (.inl trivial)]
    simp only [Bool.and_eq_true, decide_eq_true_eq]
    omega
  unfold chkEv
  simp only [hp]
  rw [if_neg (by decide)]
  unfold chkS
  rw [hn, hm]
  simp [hs]
theorem chk_stp : chkEv (evStp s_web) = 0 := by decide +kernel
structure GI (a : ASys) (ver gen : Nat) (last : Int) : Prop where
  n : a.sh.n = ver
  sh : (ver = 0 ∧ gen = 0 ∧ last = -1 ∧ (tget a.sh.m s_web).is = false ∧ (tget a.sh.m s_web).gen = 0) ∨ (0 < ver ∧ 0 ≤ last ∧ 0 < gen ∧ tget a.sh.m s_web = thgOf (cW last) ver gen true)
  gl : gen ≤ ver
  bk : ∀ g, 1 ≤ g → g < 100 → (bkHas a.bk (revB s_web g) = true ↔ g ≤ gen)
  len : a.bk.all.length = gen
theorem sameW {k l : Int} : sameC (cW k) (cW l) = true ↔ k = l := by
  rw [sameC_iff]
  unfold cW
  simp
def genW (gen : Nat) (last k : Int) : Nat := if k = last then gen else gen + 1
theorem put_ok {a : AShelf} {c : Cfg} {ver : Int} (h1 : specC c = 0) (h2 : mayC (tget a.m c.1) ver true = 0) : shPut a c ver = (⟨putC a.m c.1 c (a.n + 1), a.r, a.n + 1⟩, a.n + 1, 0) := by
  unfold shPut; rw [if_neg (by simpa using h1), if_neg (by simpa using h2)]
theorem gi_config {a : ASys} {ver gen : Nat} {last k : Int} (g : GI a ver gen last) (h0 : 0 ≤ k) (h1 : k < 4) :
    sysConfig a (evCfg ver k) = ({ a with sh := ⟨putC a.sh.m s_web (cW k) (ver + 1), a.sh.r, ver + 1⟩ }, [lineB (lineB s_config [s_web]) [decD (ver + 1)]]) ∧
      tget (putC a.sh.m s_web (cW k) (ver + 1)) s_web = thgOf (cW k) (ver + 1) (genW gen last k) true := by
  have hm : mayC (tget a.sh.m (cW k).1) ver true = 0 := by
    rcases g.sh with ⟨e1, e2, e3, e4, e5⟩ | ⟨e1, e2, e3, e4⟩
    · subst e1
      show mayC (tget a.sh.m s_web) 0 true = 0
      unfold mayC
      rw [if_pos ⟨rfl, rfl⟩, if_neg (by simp [e4])]
    · show mayC (tget a.sh.m s_web) ver true = 0
      unfold mayC
      rw [if_neg (fun hh => by have := hh.2; omega), e4]
      simp [thgOf, Thg.is, Thg.ver]
  have hp := put_ok (a := a.sh) (ver := ver) (specC_W h0 h1) hm
  constructor
  · unfold sysConfig
    dsimp only
    rw [hp]
    dsimp only
    rw [g.n]
    unfold putB
    rw [if_pos rfl]
    rfl
  · unfold putC
    rw [tget_put, if_pos rfl]
    have e : (if (tget a.sh.m s_web).is = true ∧ sameC (cfgOf (tget a.sh.m s_web)) (cW k) = true then (tget a.sh.m s_web).gen else (tget a.sh.m s_web).gen + 1) = (genW gen last k : Nat) := by
      unfold genW
      rcases g.sh with ⟨e1, e2, e3, e4, e5⟩ | ⟨e1, e2, e3, e4⟩
      · rw [if_neg (by simp [e4]), e5, if_neg (by omega), e2]; rfl
      · rw [e4]
        have hc : cfgOf (thgOf (cW last) (ver : Int) (gen : Int) true) = cW last := rfl
        rw [hc]
        by_cases hk : k = last
        · rw [if_pos ⟨rfl, sameW.2 hk.symm⟩, if_pos hk]; rfl
        · rw [if_neg (fun hh => hk (sameW.1 hh.2).symm), if_neg hk]; rfl
    rw [e]
theorem rev_inj {c : ByteArray} {g g' : Nat} (h1 : g < 100) (h2 : g' < 100) (e : revB c g = revB c g') : g = g' := by
  have h := congrArg (fun x : ByteArray => x.data.toList) e
  simp only [data_revB] at h
  have h := List.append_cancel_left h
  have h : Lib.decDigits g = Lib.decDigits g' := by injection h
  have a1 := (dec_ok h1).2.2.2
  have a2 := (dec_ok h2).2.2.2
  rw [h, a2] at a1
  have := Option.some.inj a1
  omega
def gensOut (last k : Int) (rev : ByteArray) : List ByteArray := if k = last then [lineB s_same [rev]] else [lineB s_revision [rev], lineB (lineB s_scale [rev]) [decD 1]]
theorem gi_stamp {a a1 : ASys} {ver gen : Nat} {last k : Int} (g : GI a ver gen last) (h0 : 0 ≤ k) (hv : ver ≤ 40) (e1 : a1.bk = a.bk) (e2 : a1.sh.n = (ver + 1 : Nat)) (e3 : tget a1.sh.m s_web = thgOf (cW k) (ver + 1) (genW gen last k) true) :
    GI (sysStamp a1 (evStp s_web)).1 (ver + 1) (genW gen last k) k ∧ (sysStamp a1 (evStp s_web)).2 = gensOut last k (revB s_web (genW gen last k)) ∧
      shCfg a1.sh s_web = (cW k, (ver : Int) + 1, ((genW gen last k : Nat) : Int), true, ()) ∧ 1 ≤ genW gen last k ∧ genW gen last k ≤ 41 := by
  have hc : shCfg a1.sh s_web = (cW k, (ver : Int) + 1, ((genW gen last k : Nat) : Int), true, ()) := by
    unfold shCfg
    rw [e3]
    rfl
  have hg : 1 ≤ genW gen last k ∧ genW gen last k ≤ ver + 1 := by
    unfold genW
    have := g.gl
    rcases g.sh with ⟨x1, x2, x3, x4, x5⟩ | ⟨x1, x2, x3, x4⟩
    · rw [if_neg (by omega)]; omega
    · split <;> omega
  have hst : stp a1 s_web = bkStamp a.bk (cW k) (genW gen last k) := by
    unfold stp
    rw [hc, e1]
    rfl
  have hhas : bkHas a.bk (revB s_web (genW gen last k)) = true ↔ k = last := by
    rw [g.bk _ hg.1 (by omega)]
    unfold genW
    split
    · rename_i h; exact ⟨fun _ => h, fun _ => Nat.le_refl _⟩
    · rename_i h; exact ⟨fun hh => by omega, fun hh => absurd hh h⟩
  have hs : sysStamp a1 (evStp s_web) = (if k = last then (a1, [lineB s_same [revB s_web (genW gen last k)]]) else
      ({ a1 with bk := ⟨mset a.bk.all (revB s_web (genW gen last k)) (rvOf (revB s_web (genW gen last k)) (genW gen last k) (cW k)), a.bk.pv⟩, by' := mset a1.by' (revB s_web (genW gen last k)) ⟨[], 1, 0⟩ }, [lineB s_revision [revB s_web (genW gen last k)], lineB (lineB s_scale [revB s_web (genW gen last k)]) [decD 1]])) := by
    unfold sysStamp
    dsimp only
    rw [hst, hc]
    dsimp only
    rw [if_neg (by decide), if_neg (by show ¬ ((genW gen last k : Nat) : Int) > 999999; omega)]
    unfold bkStamp
    have hw : (cW k).1 = s_web := rfl
    rw [hw]
    by_cases hk : k = last
    · rw [if_pos (hhas.2 hk), if_pos hk]
      dsimp only
      rw [if_pos rfl, ← e1]
    · rw [if_neg (fun hh => hk (hhas.1 hh)), if_neg hk]
      dsimp only
      rw [if_neg (by decide)]
      rfl
  refine ⟨?_, ?_, hc, hg.1, by omega⟩
  · rw [hs]
    have gsh : ∀ A : ASys, A.sh = a1.sh → ((ver + 1 = 0 ∧ genW gen last k = 0 ∧ k = -1 ∧ (tget A.sh.m s_web).is = false ∧ (tget A.sh.m s_web).gen = 0) ∨ (0 < ver + 1 ∧ 0 ≤ k ∧ 0 < genW gen last k ∧ tget A.sh.m s_web = thgOf (cW k) ((ver + 1 : Nat) : Int) (genW gen last k) true)) := by
      intro A hA
      rw [hA]
      exact .inr ⟨by omega, h0, hg.1, e3⟩
    by_cases hk : k = last
    · rw [if_pos hk]
      have hgw : genW gen last k = gen := by unfold genW; rw [if_pos hk]
      refine ⟨e2, gsh _ rfl, hg.2, ?_, ?_⟩
      · rw [hgw]; show ∀ g, 1 ≤ g → g < 100 → (bkHas a1.bk _ = true ↔ g ≤ gen); rw [e1]; exact g.bk
      · rw [hgw]; show a1.bk.all.length = gen; rw [e1]; exact g.len
    · rw [if_neg hk]
      have hgw : genW gen last k = gen + 1 := by unfold genW; rw [if_neg hk]
      have hno : ¬ bkHas a.bk (revB s_web (genW gen last k)) = true := fun hh => hk (hhas.1 hh)
      have hgl := g.gl
      refine ⟨e2, gsh _ rfl, hg.2, ?_, ?_⟩
      · intro x x1 x2
        have hb := g.bk x x1 x2
        unfold bkHas at hb ⊢
        dsimp only
        rw [mget_mset]
        by_cases hx : revB s_web (genW gen last k) = revB s_web x
        · have := rev_inj (by omega) x2 hx
          rw [if_pos hx, this]; simp
        · rw [if_neg hx, hb]
          constructor
          · intro; omega
          · intro hle
            have : x ≠ genW gen last k := fun e => hx (by rw [e])
            omega
      · show (mset a.bk.all _ _).length = _
        have : mget a.bk.all (revB s_web (genW gen last k)) = none := by
          unfold bkHas at hno
          cases hm : mget a.bk.all (revB s_web (genW gen last k)) with
          | none => rfl
          | some y => rw [hm] at hno; simp at hno
        rw [mset_none this, List.length_append, g.len, hgw]; rfl
  · rw [hs]
    unfold gensOut
    split <;> rfl
end Go.Proofs.YtkebppklbobjcaaGreatDoor
namespace Go.Proofs.YtkebppklbobjcaaGreatDoor
open Go.Dm
theorem gi_new : GI (newSys 30 2 9) 0 0 (-1) := by
  refine ⟨rfl, .inl ⟨rfl, rfl, rfl, rfl, rfl⟩, Nat.le_refl _, fun g h1 h2 => ?_, rfl⟩
  constructor
  · intro h; cases h
  · intro h; omega
theorem line1_eq (w x : ByteArray) : lineB w [x] = (w ++ spB) ++ x := by unfold lineB; rw [joinB_cons, joinB_one]
theorem t_config (d : ByteArray) : lineB (lineB s_config [s_web]) [d] = s_config_web__7cf9 ++ d := by
  rw [line1_eq, line1_eq]
  congr 1
theorem t_same (r : ByteArray) : lineB s_same [r] = s_same__fab ++ r := by rw [line1_eq]; congr 1
theorem t_rev (r : ByteArray) : lineB s_revision [r] = s_revision__114 ++ r := by rw [line1_eq]; congr 1
theorem t_scale (r : ByteArray) : lineB (lineB s_scale [r]) [decD 1] = (s_scale__c84d ++ r) ++ s__1_6e96 := by
  rw [line1_eq, line1_eq]
  have e : s__1_6e96 = spB ++ decD 1 := by decide +kernel
  have e2 : s_scale__c84d = s_scale ++ spB := by decide +kernel
  rw [e, e2]
  simp only [ByteArray.append_assoc]
end Go.Proofs.YtkebppklbobjcaaGreatDoor
namespace Go.Proofs.YtkebppklbobjcaaGreatDoor
open Go.Dm
attribute [local irreducible] L.load L.store L.chk L.new L.nonnil L.guard L.ite L.draw L.idx L.sem L.semR L.semU L.chkSem L.next L.call L.callV L.join L.alts L.loop L.begin L.endRound L.range
variable {w0 w : World}
theorem W_SystemGens [bTab w0] (p0 : Sl) {xs : List Int} (o : Old w0 eI p0 xs) : Calls Pr n_damperlaw15_SystemGens #[SlV p0] w0 fun e w' => e = .returned (.bool true) ∧ St w0 [] w' := by
  refine law_of (args := [SlV p0]) (C_damperlaw15_SystemGens p0) ?_
  unfold F_damperlaw15_SystemGens
  have h := St.init w0
  refine S_known15 h fun w h => itF rfl ?_
  refine S_sysNew h (fun hh => absurd hh (by decide)) fun _ b s w hs h => itF rfl (itF rfl ?_)
  refine join_of (fun (z : Int × Unit) w => ∃ (a : ASys) (s : Seg), SysS b a s ∧ z.1 = a.bk.all.length ∧ a.bk.all.length < 1000 ∧ St w0 [s] w) (fun k3 hk3 => ?_) ?_
  · refine loop_of (fun q y w => ∃ (j gen : Nat) (a : ASys) (s : Seg), q + j = 30 ∧ @Eq Int y.1 j ∧ @Eq Int y.2.1 gen ∧ @Eq Int y.2.2.2.1 j ∧ GI a j gen y.2.2.1 ∧ SysS b a s ∧ St w0 [s] w) 30 ⟨0, 0, _, s, rfl, rfl, rfl, rfl, gi_new, hs, h⟩ ?_
    clear h; (try clear w)
    rintro q ⟨v, gn, last, i, ⟨⟩⟩ w ⟨j, gen, a, s, hq, hv, hg, hi, gi, hs, h⟩ again hag
    (try dsimp only)
    simp only at hv hg hi gi
    subst hv hg hi
    have hgl := gi.gl
    have done : k3 ((gen : Int), ()) w := hk3 _ w ⟨a, s, hs, by show (gen : Int) = _; rw [gi.len], by rw [gi.len]; omega, h⟩
    refine it (fun hb => ?_) (fun hb => done)
    refine it (fun hb2 => ?_) (fun hb2 => done)
    have hj : j < 30 := by have := of_decide_eq_true hb2; omega
    have hjl : (j : Int) < p0.len := by simpa using hb
    refine oldI o h (by omega) (by (try dsimp only); omega) fun n hn => ?_
    refine S_within15 (by decide) (by decide) ?_
    have hk4 : 0 ≤ n % 4 ∧ n % 4 < 4 := by omega
    generalize n % 4 = k at *
    obtain ⟨ec, et⟩ := gi_config gi hk4.1 hk4.2
    refine S_doConfig (e := evCfg j k) h 0 rfl hs rfl (chk_cfg ⟨by omega, by omega⟩ hk4.1 hk4.2) (fun _ _ => Rd.nil) (Nat.le_refl 0) (by simp [noRt15]) (by rw [gi.n]; omega) (by show s_web.size ≤ 1000000; decide) fun v10 s10 s' w r10 hs h => ?_
    rw [ec, t_config] at r10
    rw [ec] at hs
    have l10 := Rw.len encS r10
    refine dr h ?_
    clear h; (try clear w)
    intro w h
    refine itF (by rw [l10]; rfl) ?_
    refine Rw.ix encS r10 (by decide) (by simp) fun a11 ha => ?_
    refine Rw.ld0 encS h 0 rfl r10 ha rfl rfl rfl ?_
    have ev1 : IntKind.wrap .i64 ((j : Int) + 1) = ((j + 1 : Nat) : Int) := by rw [wr (by omega) (by omega)]; rfl
    rw [ev1]
    refine S_DigitsI h (by omega) (by omega) fun w h => ?_
    rw [Int.toNat_natCast]
    refine Rw.cka encS h 0 rfl r10 ha rfl rfl ?_
    have d1 := decD_le (j + 1)
    refine gd (by have : s_config_web__7cf9.size = 11 := rfl; simp only [maxI64]; omega) ?_
    refine itF (by rw [str_eq]; simp) ?_
    have gst := gi_stamp (a1 := { a with sh := ⟨putC a.sh.m s_web (cW k) (j + 1), a.sh.r, j + 1⟩ }) gi hk4.1 (by omega) rfl rfl et
    obtain ⟨gi2, eo, esc, gg1, gg2⟩ := gst
    refine join_of (fun (z : Int × Unit) w => z.1 = ((genW gen last k : Nat) : Int) ∧ St w0 [s10, s'] w) (fun k14 hk14 => ?_) ?_
    · refine it (fun hc => ?_) (fun hc => ?_)
      · have hc : ¬ k = last := by simpa using hc
        refine hk14 _ w ⟨?_, h⟩
        unfold genW
        rw [if_neg hc]
        show IntKind.wrap .i64 ((gen : Int) + 1) = _
        rw [wr (by omega) (by omega)]; rfl
      · have hc : k = last := by simpa using hc
        refine hk14 _ w ⟨?_, h⟩
        unfold genW
        rw [if_pos hc]
    clear h; (try clear w)
    rintro ⟨z, ⟨⟩⟩ w ⟨hz, h⟩
    dsimp only at hz
    subst hz
    (try dsimp only)
    refine S_rRev h (by decide) gg1 (by omega) fun w h => ?_
    refine S_doStamp (e := evStp s_web) h 1 rfl hs rfl chk_stp (fun _ _ => Rd.nil) (Nat.le_refl 0) (by simp [noRt15]) (fun _ => ?_) ?_ fun v17 s17 s2' w r17 hs2 h => ?_
    · rw [esc]
      exact ⟨by show shortB s_web.data.toList 16 = true; decide, by show (1 : Int) ≤ ((genW gen last k : Nat) : Int); omega, by show ((genW gen last k : Nat) : Int) < 100; omega, by show (0 : Int) ≤ 1000000; decide⟩
    · show a.bk.all.length < 999999
      rw [gi.len]; omega
    rw [eo] at r17
    have hrs := (rev_size s_web (show genW gen last k < 100 by omega)).1
    have hw3 : s_web.size = 3 := rfl
    refine join_of (fun (z : Bool × Unit) w => z.1 = false ∧ St w0 [s17, s10, s2'] w) (fun k18 hk18 => ?_) ?_
    · by_cases hk : k = last
      · unfold gensOut at r17
        rw [if_pos hk, t_same] at r17
        have l17 := Rw.len encS r17
        refine itT (by simpa using hk) ?_
        refine itF (by rw [l17]; rfl) ?_
        refine Rw.ix encS r17 (by decide) (by simp) fun a20 ha => ?_
        refine Rw.ld0 encS h 0 rfl r17 ha rfl rfl rfl ?_
        refine gd (by have : s_same__fab.size = 5 := rfl; simp only [maxI64]; omega) ?_
        refine itF (by rw [str_eq]; simp) ?_
        refine itF (by simpa using hk) ?_
        exact hk18 _ w ⟨rfl, h⟩
      · unfold gensOut at r17
        rw [if_neg hk, t_rev, t_scale] at r17
        have l17 := Rw.len encS r17
        refine itF (by simpa using hk) ?_
        refine itT (by simpa using hk) ?_
        refine itF (by rw [l17]; rfl) ?_
        refine Rw.ix encS r17 (by decide) (by simp) fun a26 ha => ?_
        refine Rw.ld0 encS h 0 rfl r17 ha rfl rfl rfl ?_
        refine gd (by have : s_revision__114.size = 9 := rfl; simp only [maxI64]; omega) ?_
        refine itF (by rw [str_eq]; simp) ?_
        refine Rw.ix encS r17 (by decide) (by simp) fun a28 ha => ?_
        refine Rw.ld0 encS h 0 rfl r17 ha rfl rfl rfl ?_
        have q1 : s_scale__c84d.size = 6 := rfl
        have q2 : s__1_6e96.size = 2 := rfl
        refine gd (by simp only [maxI64]; omega) ?_
        refine gd (by rw [ByteArray.size_append]; simp only [maxI64]; omega) ?_
        exact hk18 _ w ⟨by dsimp only; rw [str_eq]; simp, h⟩
    clear h; (try clear w)
    rintro ⟨z, ⟨⟩⟩ w ⟨hz, h⟩
    dsimp only at hz
    subst hz
    refine itF rfl ?_
    refine hag (q - 1) _ w (by omega) ⟨j + 1, genW gen last k, _, s2', by omega, rfl, rfl, rfl, gi2, hs2, dl0_ (dl0_ h)⟩
  · clear h; (try clear w)
    rintro ⟨z, ⟨⟩⟩ w ⟨a, s, hs, hz, hlt, h⟩
    dsimp only at hz
    refine S_sysRevisions h 0 rfl hs fun v sv w r h => ?_
    have hl := Rw.len encS r
    refine ⟨?_, h.fin⟩
    have e1 : (bkAll a.bk).length = a.bk.all.length := by unfold bkAll; rw [ssort_len, List.length_map]
    show Value.bool (((v.len : Nat) : Int) == z) = .bool true
    rw [hl, e1, hz]
    simp
end Go.Proofs.YtkebppklbobjcaaGreatDoor
