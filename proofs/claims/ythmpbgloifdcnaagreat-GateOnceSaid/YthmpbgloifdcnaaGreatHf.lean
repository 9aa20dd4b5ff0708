/- Contracts of functions, and walks of laws (text Hf). No conditions beyond those its theorems state. -/
import Derived.Test.YthmpbgloifdcnaaGreatGu
import Derived.Test.YthmpbgloifdcnaaGreatSs
set_option linter.all false
namespace Go.Proofs.YthmpbgloifdcnaaGreat
open Go.Dm
attribute [local irreducible] L.load L.store L.chk L.new L.nonnil L.guard L.ite L.draw L.idx L.sem L.semR L.semU L.chkSem L.next L.call L.callV L.join L.alts L.loop L.begin L.endRound L.range
variable {w0 w : World} {E : List Seg}
/-! ### a tick: those who wait too long are told -/
def lateS (rev : ByteArray) (l : List Int) (all : Alls) : Alls := l.foldl (fun a q => mset a q (rev, 4)) all
def lateF (l : List Int) : List Fate := l.map fun q => (q, 4, 0, s_timeout, ())
theorem lateS_keys {rev : ByteArray} : ∀ {l : List Int} {all : Alls}, (∀ q ∈ l, (mget all q).isSome = true) → (lateS rev l all).map (·.1) = all.map (·.1)
  | [], _, _ => rfl
  | q :: l, all, h => by
    obtain ⟨v, hv⟩ := Option.isSome_iff_exists.1 (h q (by simp))
    have e := mset_keys (u := (rev, (4 : Int))) hv
    refine (lateS_keys (l := l) (all := mset all q (rev, 4)) fun q2 h2 => ?_).trans e
    rw [mget_mset]
    split
    · rfl
    · exact h q2 (by simp [h2])
theorem seen_keys {A B : Alls} (h : A.map (·.1) = B.map (·.1)) (q : Int) : (mget A q).isSome = (mget B q).isSome := by
  cases ha : mget A q with
  | none =>
    have := mget_none.1 ha
    rw [h] at this
    rw [mget_none.2 this]
  | some v =>
    cases hb : mget B q with
    | none =>
      have := mget_none.1 hb
      rw [← h] at this
      rw [mget_none.2 this] at ha; cases ha
    | some u => rfl
def tick1 (now : Int) (k : ByteArray) (G : AGate) : AGate := { G with all := lateS k (lLate (lineOf G.lines k) now) G.all, lines := mset G.lines k (lRest (lineOf G.lines k) now) }
def tickA (now : Int) : List ByteArray → AGate → List Fate → AGate × List Fate
  | [], G, out => (G, out)
  | k :: ks, G, out => tickA now ks (tick1 now k G) (out ++ lateF (lLate (lineOf G.lines k) now))
def gTick (G : AGate) (now : Int) : AGate × List Fate := tickA now (ssort (G.lines.map (·.1))) G []
/-- who waits is known -/
def GWk (G : AGate) : Prop := ∀ x ∈ G.lines, ∀ y ∈ x.2, (mget G.all y.1).isSome = true
theorem tickA_ge {now : Int} : ∀ {ks : List ByteArray} {G : AGate} {out : List Fate}, out.length ≤ (tickA now ks G out).2.length
  | [], _, _ => Nat.le_refl _
  | k :: ks, G, out => by
    have := tickA_ge (now := now) (ks := ks) (G := tick1 now k G) (out := out ++ lateF (lLate (lineOf G.lines k) now))
    simp only [tickA, List.length_append] at this ⊢
    omega
theorem GWk.line {G : AGate} (h : GWk G) (k : ByteArray) : ∀ y ∈ lineOf G.lines k, (mget G.all y.1).isSome = true := by
  intro y hy
  unfold lineOf at hy
  cases hm : mget G.lines k with
  | none => rw [hm] at hy; simp at hy
  | some l => rw [hm] at hy; exact h _ (mget_mem hm) y hy
theorem GWk.late {G : AGate} (h : GWk G) (k : ByteArray) (now : Int) : ∀ q ∈ lLate (lineOf G.lines k) now, (mget G.all q).isSome = true := by
  intro q hq
  obtain ⟨y, hy, rfl⟩ := List.mem_map.1 hq
  exact h.line k y (List.mem_filter.1 hy).1
theorem GWk.tick1 {G : AGate} (h : GWk G) (k : ByteArray) (now : Int) : GWk (YthmpbgloifdcnaaGreat.tick1 now k G) := by
  intro x hx y hy
  have e := lateS_keys (rev := k) (h.late k now)
  show (mget (lateS k (lLate (lineOf G.lines k) now) G.all) y.1).isSome = true
  rw [seen_keys e]
  rcases mset_mem hx with rfl | hx
  · exact h.line k y (List.mem_filter.1 hy).1
  · exact h x hx y hy
theorem AGate.Ok.tick1 {G : AGate} (ok : G.Ok) (h : GWk G) {k : ByteArray} (hk : (mget G.lines k).isSome = true) (now : Int) : (YthmpbgloifdcnaaGreat.tick1 now k G).Ok := by
  have e := lateS_keys (rev := k) (h.late k now)
  have e2 : (lateS k (lLate (lineOf G.lines k) now) G.all).length = G.all.length := by
    have := congrArg List.length e; simpa using this
  obtain ⟨v, hv⟩ := Option.isSome_iff_exists.1 hk
  refine ⟨by show (lateS k _ _).length < _; rw [e2]; exact ok.few, ok.lo, ok.hi, fun x hx => ?_, mset_nd ok.nd, by show ((lateS k _ _).map _).Nodup; rw [e]; exact ok.nda, ?_⟩
  · rcases mset_mem hx with rfl | hx
    · have := lineOf_len ok k
      have := lRest_len (lineOf G.lines k) now
      simp only; show _ ≤ G.room; omega
    · exact ok.ln x hx
  · show (mset G.lines k _).length < _
    rw [mset_len hv]; exact ok.fl
theorem tick1_names {G : AGate} {k : ByteArray} (hk : (mget G.lines k).isSome = true) (now : Int) : (tick1 now k G).lines.map (·.1) = G.lines.map (·.1) := by
  obtain ⟨v, hv⟩ := Option.isSome_iff_exists.1 hk
  exact mset_keys hv
/-! ### for name, line := range book -/
abbrev KPt := List (ByteArray × Option Addr)
def argB (m : KPt) (l : List ByteArray) (i : Nat) : TT [.one .str, .one .ptr] := match l[i]? with | some k => (k, (mget m k).getD none, ()) | none => (s_, none, ())
theorem argB_eq {m : KPt} {l : List ByteArray} {i : Nat} {k : ByteArray} (h : l[i]? = some k) : argB m l i = (k, (mget m k).getD none, ()) := by unfold argB; rw [h]
theorem argB_TV {m : KPt} {l : List ByteArray} {i : Nat} {k : ByteArray} (h : l[i]? = some k) : TV _ (argB m l i) = [.string k, .pointer ((mget m k).getD none)] := by rw [argB_eq h]; rfl
theorem S_KLns (h : St w0 E w) (i : Nat) {s : Seg} (hi : nth E i = some s) {r : Nat} {m : KPt} (hm : MpS Value.string Value.pointer r m s) (hn : m.length < 1000000000) {k : Sl → PT}
    (hk : ∀ v s' w', Rw eS T_string 1 v (ssort (m.map (·.1))) s' → St w0 (s' :: E) w' → k v w') :
    L.call Pr n_maps_Keys_map_string_wait_Line_string_wait_Line [.map (some r)] (.one (.one .func)) (fun x5 => L.call Pr n_slices_Sorted_string [.func x5.fn x5.fs x5.cs] (.one (.one .slice)) k) w := by
  refine call_of (C_maps_Keys_map_string_wait_Line_string_wait_Line _) ?_
  unfold F_maps_Keys_map_string_wait_Line_string_wait_Line
  have h := h.front i hi
  refine nw h ?_; clear h; (try clear w); intro c w h
  refine ⟨⟨.func n_maps_Keys_map_string_wait_Line_string_wait_Line_1, #[], #[.pointer (some ⟨c, 0, none⟩)]⟩, rfl, ?_⟩
  have hY : YldM Pr w0 [[Cl c T_map_string_p_wait_Line [.map (some r)]], s] (.func (.func n_maps_Keys_map_string_wait_Line_string_wait_Line_1) #[] #[.pointer (some ⟨c, 0, none⟩)]) (m.map (·.1)) Value.string := by
    intro yv R J Jd F w h hJ step fin fin2
    refine ⟨E_maps_Keys_map_string_wait_Line_string_wait_Line_1, C_maps_Keys_map_string_wait_Line_string_wait_Line_1 yv ⟨c, 0, none⟩ ?_⟩
    unfold F_maps_Keys_map_string_wait_Line_string_wait_Line_1
    exact keys_of (kv := Value.string) (vv := Value.pointer) unS (fun _ => rfl) und_lns (lk := .str) (ev := .one .ptr) (fun x => x) (fun _ => rfl) (fun x : Option Addr => x) (fun _ => rfl) J Jd hm h hJ (fun seen k F X w hl hJ h => step seen k F X w (by simpa using hl) hJ h) fin fin2
  refine S_SortedKeysS (fv := ⟨.func n_maps_Keys_map_string_wait_Line_string_wait_Line_1, #[], #[.pointer (some ⟨c, 0, none⟩)]⟩) hY h (by simpa using hn) fun v s' w hr h => hk v s' w hr ?_
  have h := fr1_ h
  exact St.again (i + 1) (E := s' :: E) hi h
theorem Y_book {c b bf rA rL cc : Nat} {room pat : Int} {m : KPt} {sL : Seg} (hL : MpS Value.string Value.pointer rL m sL) (hn : m.length < 1000000000) :
    YldX Pr w0 [[Cl c T_p_gate_book_p_wait_Line [.pointer (some ⟨b, 2, none⟩)]], gtB b bf rA rL cc room pat, sL]
      (.func (.func n_gate_book_wait_Line_each_1) #[] #[.pointer (some ⟨c, 0, none⟩)]) (ssort (m.map (·.1))).length fun i => TV _ (argB m (ssort (m.map (·.1))) i) := by
  intro yv R J Jd G w h hJ step fin fin2
  refine ⟨E_gate_book_wait_Line_each_1, C_gate_book_wait_Line_each_1 yv ⟨c, 0, none⟩ ?_⟩
  unfold F_gate_book_wait_Line_each_1
  have h : St w0 ([Cl c T_p_gate_book_p_wait_Line [.pointer (some ⟨b, 2, none⟩)]] :: gtB b bf rA rL cc room pat :: sL :: G) w := h
  (repeat (first | refine nn ?_ | (refine dr h ?_; clear h; (try clear w); intro w h) | refine ld0_ h rfl rfl ?_ | refine ld1_ h rfl rfl ?_ | refine ld2_ h rfl rfl ?_ | refine ld3_ h rfl rfl ?_ | refine ld4_ h rfl rfl ?_ | refine ld5_ h rfl rfl ?_ | refine ld6_ h rfl rfl ?_ | refine ld7_ h rfl rfl ?_ | refine ld8_ h rfl rfl ?_ | refine ld9_ h rfl rfl ?_ | refine ld10_ h rfl rfl ?_ | refine ld11_ h rfl rfl ?_ | refine la0_ h rfl ?_ | refine la1_ h rfl ?_ | refine la2_ h rfl ?_ | refine la3_ h rfl ?_ | refine la4_ h rfl ?_ | refine la5_ h rfl ?_ | refine la6_ h rfl ?_ | refine la7_ h rfl ?_ | refine la8_ h rfl ?_ | refine la9_ h rfl ?_ | refine la10_ h rfl ?_ | refine la11_ h rfl ?_ | refine ck0_ h rfl ?_ | refine ck1_ h rfl ?_ | refine ck2_ h rfl ?_ | refine ck3_ h rfl ?_ | refine ck4_ h rfl ?_ | refine ck5_ h rfl ?_ | refine ck6_ h rfl ?_ | refine ck7_ h rfl ?_ | refine ck8_ h rfl ?_ | refine ck9_ h rfl ?_ | refine ck10_ h rfl ?_ | refine ck11_ h rfl ?_ | ((first | refine st0_ h rfl rfl ?_ | refine st1_ h rfl rfl ?_ | refine st2_ h rfl rfl ?_ | refine st3_ h rfl rfl ?_ | refine st4_ h rfl rfl ?_ | refine st5_ h rfl rfl ?_ | refine st6_ h rfl rfl ?_ | refine st7_ h rfl rfl ?_ | refine st8_ h rfl rfl ?_ | refine st9_ h rfl rfl ?_ | refine st10_ h rfl rfl ?_ | refine st11_ h rfl rfl ?_); clear h; (try clear w); intro w h; (try dsimp only [putN, setN] at h))))
  refine S_KLns h 2 rfl hL hn fun v s w hrow h => ?_
  have hlen := Rw.len encS hrow
  have hl : (ssort (m.map (·.1))).length < 1000000000 := by rw [ssort_len, List.length_map]; exact hn
  generalize ssort (m.map (·.1)) = l at *
  refine loop_of (fun q y w => ∃ (j : Nat) (G : List Seg), @Eq Int y.1 j ∧ q + j = l.length ∧ J j G ∧
    St w0 (s :: [Cl c T_p_gate_book_p_wait_Line [.pointer (some ⟨b, 2, none⟩)]] :: gtB b bf rA rL cc room pat :: sL :: G) w) l.length ⟨0, G, rfl, rfl, hJ, h⟩ ?_
  clear hJ
  clear h; (try clear w)
  rintro q ⟨y, ⟨⟩⟩ w ⟨j, G, hy, hq, hJ, h⟩ again hag
  simp only at hy
  subst hy
  refine it (fun hb => ?_) (fun hb => ?_) <;> (try simp only [decide_eq_true_eq, decide_eq_false_iff_not, beq_iff_eq, bne_iff_ne, beq_eq_false_iff_ne, bne_eq_false_iff_eq, Bool.not_eq_true', Bool.not_eq_false', ne_eq, Bool.not_eq_true, Bool.not_eq_false] at hb)
  · have hj : j < l.length := by omega
    have hx : l[j]? = some l[j] := List.getElem?_eq_getElem hj
    refine Rw.ix encS hrow (by omega) (by simpa using hj) fun a ha => ?_
    refine Rw.ld0 encS h 0 rfl hrow ha (x := l[j]) (by simp [hj]) rfl rfl ?_
    (repeat (first | refine nn ?_ | (refine dr h ?_; clear h; (try clear w); intro w h) | refine ld0_ h rfl rfl ?_ | refine ld1_ h rfl rfl ?_ | refine ld2_ h rfl rfl ?_ | refine ld3_ h rfl rfl ?_ | refine ld4_ h rfl rfl ?_ | refine ld5_ h rfl rfl ?_ | refine ld6_ h rfl rfl ?_ | refine ld7_ h rfl rfl ?_ | refine ld8_ h rfl rfl ?_ | refine ld9_ h rfl rfl ?_ | refine ld10_ h rfl rfl ?_ | refine ld11_ h rfl rfl ?_ | refine la0_ h rfl ?_ | refine la1_ h rfl ?_ | refine la2_ h rfl ?_ | refine la3_ h rfl ?_ | refine la4_ h rfl ?_ | refine la5_ h rfl ?_ | refine la6_ h rfl ?_ | refine la7_ h rfl ?_ | refine la8_ h rfl ?_ | refine la9_ h rfl ?_ | refine la10_ h rfl ?_ | refine la11_ h rfl ?_ | refine ck0_ h rfl ?_ | refine ck1_ h rfl ?_ | refine ck2_ h rfl ?_ | refine ck3_ h rfl ?_ | refine ck4_ h rfl ?_ | refine ck5_ h rfl ?_ | refine ck6_ h rfl ?_ | refine ck7_ h rfl ?_ | refine ck8_ h rfl ?_ | refine ck9_ h rfl ?_ | refine ck10_ h rfl ?_ | refine ck11_ h rfl ?_ | ((first | refine st0_ h rfl rfl ?_ | refine st1_ h rfl rfl ?_ | refine st2_ h rfl rfl ?_ | refine st3_ h rfl rfl ?_ | refine st4_ h rfl rfl ?_ | refine st5_ h rfl rfl ?_ | refine st6_ h rfl rfl ?_ | refine st7_ h rfl rfl ?_ | refine st8_ h rfl rfl ?_ | refine st9_ h rfl rfl ?_ | refine st10_ h rfl rfl ?_ | refine st11_ h rfl rfl ?_); clear h; (try clear w); intro w h; (try dsimp only [putN, setN] at h))))
    refine MpS.get mkS' und_lns zln (fun x : Option Addr => x) (fun _ => rfl) h 3 rfl hL ?_
    have step := step _ G [s] w hj hJ (St.toEnd (X := [s]) (A := [_, _, _]) h)
    simp only [argB_TV hx] at step
    simp only [Option.map_id']
    refine cv (FCall.mono step fun u w' hu => ?_)
    rcases hu with ⟨rfl, G', h, hJ⟩ | ⟨rfl, hd⟩
    · refine ⟨true, rfl, itF rfl ?_⟩
      refine hag (q - 1) _ w' (by omega) ⟨j + 1, G', ?_, by omega, hJ, St.ofEnd (X := [s]) (A := [_, _, _]) h⟩
      show IntKind.wrap .i64 _ = _
      rw [wr (by omega) (by omega)]; omega
    · exact ⟨false, rfl, itT rfl (fin2 w' hd)⟩
  · have e : j = l.length := by omega
    subst e
    exact fin G w hJ (dl0_ h)
end Go.Proofs.YthmpbgloifdcnaaGreat
namespace Go.Proofs.YthmpbgloifdcnaaGreat
open Go.Dm
attribute [local irreducible] L.load L.store L.chk L.new L.nonnil L.guard L.ite L.draw L.idx L.sem L.semR L.semU L.chkSem L.next L.call L.callV L.join L.alts L.loop L.begin L.endRound L.range
variable {w0 w : World} {E : List Seg}
theorem lateS_take {rev : ByteArray} {l : List Int} {j : Nat} {q : Int} {all : Alls} (h : l[j]? = some q) : lateS rev (l.take (j + 1)) all = mset (lateS rev (l.take j) all) q (rev, 4) := by
  unfold lateS; rw [List.take_add_one, h, Option.toList_some, List.foldl_append]; rfl
theorem lateF_take {l : List Int} {j : Nat} {q : Int} (h : l[j]? = some q) : lateF (l.take (j + 1)) = lateF (l.take j) ++ [(q, 4, 0, s_timeout, ())] := by
  unfold lateF; rw [List.take_add_one, h, Option.toList_some, List.map_append]; rfl
theorem lateF_len (l : List Int) : (lateF l).length = l.length := List.length_map ..
theorem S_gTick {sg : Seg} (h : St w0 (sg :: E) w) {b bf : Nat} {G : AGate} (hg : GtS b bf G sg) (hw : GWk G) {now : Int} (ho : (gTick G now).2.length < 90000000) {k : Sl → PT}
    (hk : ∀ v sv sg' w', Rw Fate.cells T_gate_Fate 4 v (gTick G now).2 sv → GtS b bf (gTick G now).1 sg' → St w0 (sv :: sg' :: E) w' → k v w') :
    L.call Pr n_gate_Gate_Tick [.pointer (some ⟨b, 0, none⟩), I now] (.one (.one .slice)) k w := by
  obtain ⟨ok, rA, rL, c, sA, sL, Q, hr, rfl⟩ := hg
  refine call_of (C_gate_Gate_Tick _ _) ?_
  unfold F_gate_Gate_Tick
  have h := h.split5
  refine nw h ?_; clear h; (try clear w); intro b1 w h
  refine nw h ?_; clear h; (try clear w); intro b2 w h
  refine nw h ?_; clear h; (try clear w); intro b3 w h
  (repeat (first | refine nn ?_ | (refine dr h ?_; clear h; (try clear w); intro w h) | refine ld0_ h rfl rfl ?_ | refine ld1_ h rfl rfl ?_ | refine ld2_ h rfl rfl ?_ | refine ld3_ h rfl rfl ?_ | refine ld4_ h rfl rfl ?_ | refine ld5_ h rfl rfl ?_ | refine ld6_ h rfl rfl ?_ | refine ld7_ h rfl rfl ?_ | refine ld8_ h rfl rfl ?_ | refine ld9_ h rfl rfl ?_ | refine ld10_ h rfl rfl ?_ | refine ld11_ h rfl rfl ?_ | refine la0_ h rfl ?_ | refine la1_ h rfl ?_ | refine la2_ h rfl ?_ | refine la3_ h rfl ?_ | refine la4_ h rfl ?_ | refine la5_ h rfl ?_ | refine la6_ h rfl ?_ | refine la7_ h rfl ?_ | refine la8_ h rfl ?_ | refine la9_ h rfl ?_ | refine la10_ h rfl ?_ | refine la11_ h rfl ?_ | refine ck0_ h rfl ?_ | refine ck1_ h rfl ?_ | refine ck2_ h rfl ?_ | refine ck3_ h rfl ?_ | refine ck4_ h rfl ?_ | refine ck5_ h rfl ?_ | refine ck6_ h rfl ?_ | refine ck7_ h rfl ?_ | refine ck8_ h rfl ?_ | refine ck9_ h rfl ?_ | refine ck10_ h rfl ?_ | refine ck11_ h rfl ?_ | ((first | refine st0_ h rfl rfl ?_ | refine st1_ h rfl rfl ?_ | refine st2_ h rfl rfl ?_ | refine st3_ h rfl rfl ?_ | refine st4_ h rfl rfl ?_ | refine st5_ h rfl rfl ?_ | refine st6_ h rfl rfl ?_ | refine st7_ h rfl rfl ?_ | refine st8_ h rfl rfl ?_ | refine st9_ h rfl rfl ?_ | refine st10_ h rfl rfl ?_ | refine st11_ h rfl rfl ?_); clear h; (try clear w); intro w h; (try dsimp only [putN, setN] at h))))
  refine call_of (C_gate_book_wait_Line_each _) ?_
  unfold F_gate_book_wait_Line_each
  refine nw h ?_; clear h; (try clear w); intro cc w h
  refine ⟨⟨.func n_gate_book_wait_Line_each_1, #[], #[.pointer (some ⟨cc, 0, none⟩)]⟩, rfl, ?_⟩
  have h := fr3_ (fr5_ (fr7_ (fr1_ h)))
  have h := h.nil
  have h := fr4_ (fr4_ (fr4_ (fr4_ h)))
  have h : St w0 ([[Cl cc T_p_gate_book_p_wait_Line [.pointer (some ⟨b, 2, none⟩)]], gtB b bf rA rL c G.room G.pat, sL] ++ ([Cl b3 T_s_gate_Fate [SlV ⟨none, 0, 0⟩]] :: [] :: [Cl b2 T_int [I now]] :: [Cl b1 T_p_gate_Gate [.pointer (some ⟨b, 0, none⟩)]] :: [Cl c T_int [I G.room]] :: sA :: (Q.map LnE.sg).flatten :: E)) w := h
  have enm : (Q.map LnE.kp).map (·.1) = G.lines.map (·.1) := by rw [hr.abs]; simp [List.map_map, Function.comp_def]
  have hn : (Q.map LnE.kp).length < 1000000000 := by
    have := congrArg List.length enm; have := ok.fl; simp only [List.length_map] at *; omega
  have hkeys : ssort ((Q.map LnE.kp).map (·.1)) = ssort (G.lines.map (·.1)) := by rw [enm]
  have hkm : ∀ k ∈ ssort ((Q.map LnE.kp).map (·.1)), k ∈ G.lines.map (·.1) := fun k hk => by rw [hkeys] at hk; exact ssort_mem.1 hk
  have hgt : tickA now (ssort ((Q.map LnE.kp).map (·.1))) G [] = gTick G now := by rw [hkeys]; rfl
  refine range_ofX (Y_book (c := cc) (b := b) (bf := bf) (rA := rA) (cc := c) (room := G.room) (pat := G.pat) hr.lns hn) h
    (fun m F => ∃ (v : Sl) (sv sA' : Seg) (Q' : List LnE) (G' : AGate) (out : List Fate), F = [Cl b3 T_s_gate_Fate [SlV v]] :: sv :: [Cl b2 T_int [I now]] :: [Cl b1 T_p_gate_Gate [.pointer (some ⟨b, 0, none⟩)]] :: [Cl c T_int [I G.room]] :: sA' :: (Q'.map LnE.sg).flatten :: E ∧
      Q'.map LnE.kp = Q.map LnE.kp ∧ (∀ x ∈ Q', LnS x.b G.room x.l x.sg) ∧ G'.lines = Q'.map LnE.ka ∧ G'.Ok ∧ G'.room = G.room ∧ G'.pat = G.pat ∧ GWk G' ∧ MpS KI vReq rA G'.all sA' ∧ Rw Fate.cells T_gate_Fate 4 v out sv ∧
      tickA now ((ssort ((Q.map LnE.kp).map (·.1))).drop m) G' out = gTick G now)
    (fun j G => False) ⟨_, _, sA, Q, G, [], rfl, rfl, hr.each, hr.abs, ok, rfl, rfl, hw, hr.all, Rw.nil, hgt⟩ ?_ ?_ ?_
  · rintro m F X w lv lp d R hm ⟨v, sv, sA', Q', G', out, rfl, hkp, hQ', hln, ok', er, ep, hw', hA', hv, hT⟩ h hN hE
    have hx : (ssort ((Q.map LnE.kp).map (·.1)))[m]? = some (ssort ((Q.map LnE.kp).map (·.1)))[m] := List.getElem?_eq_getElem hm
    have hdr := List.drop_eq_getElem_cons hm
    have hmem := hkm _ (List.mem_of_getElem? hx)
    generalize (ssort ((Q.map LnE.kp).map (·.1)))[m] = key at hx hdr hmem
    rw [argB_eq hx]
    rw [hdr] at hT
    have enm' : G'.lines.map (·.1) = G.lines.map (·.1) := by
      rw [hln, ← enm, ← hkp]; simp [List.map_map, Function.comp_def]
    rw [← enm', hln] at hmem
    have e1 := lfind_kp (Q := Q') (rev := key)
    have e2 := lfind_ka (Q := Q') (rev := key)
    cases hf : lfind LnE.k Q' key with
    | none => rw [hf] at e2; exact absurd hmem (mget_none.1 e2)
    | some x =>
      rw [hf] at e1 e2
      simp only [Option.map_some] at e1 e2
      rw [hkp] at e1
      rw [e1]
      obtain ⟨A, B, e, hxk⟩ := lfind_at hf
      subst e
      rw [← hln] at e2
      have hlo : lineOf G'.lines key = x.l := by unfold lineOf; rw [e2]; rfl
      have hsm : (mget G'.lines key).isSome = true := by rw [e2]; rfl
      have hll := lineOf_len ok' key
      rw [hlo] at hll
      have hhi := ok'.hi
      have h : St w0 ([Rec lv lp .busy none] :: [DfM d] :: [Cl cc T_p_gate_book_p_wait_Line [.pointer (some ⟨b, 2, none⟩)]] :: gtB b bf rA rL c G.room G.pat :: sL :: [Cl b3 T_s_gate_Fate [SlV v]] :: sv :: [Cl b2 T_int [I now]] :: [Cl b1 T_p_gate_Gate [.pointer (some ⟨b, 0, none⟩)]] :: [Cl c T_int [I G.room]] :: sA' :: ((A ++ x :: B).map LnE.sg).flatten :: (E ++ X)) w := h
      (repeat (first | refine nn ?_ | (refine dr h ?_; clear h; (try clear w); intro w h) | refine ld0_ h rfl rfl ?_ | refine ld1_ h rfl rfl ?_ | refine ld2_ h rfl rfl ?_ | refine ld3_ h rfl rfl ?_ | refine ld4_ h rfl rfl ?_ | refine ld5_ h rfl rfl ?_ | refine ld6_ h rfl rfl ?_ | refine ld7_ h rfl rfl ?_ | refine ld8_ h rfl rfl ?_ | refine ld9_ h rfl rfl ?_ | refine ld10_ h rfl rfl ?_ | refine ld11_ h rfl rfl ?_ | refine la0_ h rfl ?_ | refine la1_ h rfl ?_ | refine la2_ h rfl ?_ | refine la3_ h rfl ?_ | refine la4_ h rfl ?_ | refine la5_ h rfl ?_ | refine la6_ h rfl ?_ | refine la7_ h rfl ?_ | refine la8_ h rfl ?_ | refine la9_ h rfl ?_ | refine la10_ h rfl ?_ | refine la11_ h rfl ?_ | refine ck0_ h rfl ?_ | refine ck1_ h rfl ?_ | refine ck2_ h rfl ?_ | refine ck3_ h rfl ?_ | refine ck4_ h rfl ?_ | refine ck5_ h rfl ?_ | refine ck6_ h rfl ?_ | refine ck7_ h rfl ?_ | refine ck8_ h rfl ?_ | refine ck9_ h rfl ?_ | refine ck10_ h rfl ?_ | refine ck11_ h rfl ?_ | ((first | refine st0_ h rfl rfl ?_ | refine st1_ h rfl rfl ?_ | refine st2_ h rfl rfl ?_ | refine st3_ h rfl rfl ?_ | refine st4_ h rfl rfl ?_ | refine st5_ h rfl rfl ?_ | refine st6_ h rfl rfl ?_ | refine st7_ h rfl rfl ?_ | refine st8_ h rfl rfl ?_ | refine st9_ h rfl rfl ?_ | refine st10_ h rfl rfl ?_ | refine st11_ h rfl rfl ?_); clear h; (try clear w); intro w h; (try dsimp only [putN, setN] at h))))
      have h := fr11_ (fr7_ (fr10_ (fr7_ (fr7_ (fr8_ h)))))
      have h := h.pick
      refine S_Late h 0 rfl (hQ' x (by simp)) (by omega) fun v13 s' s2 w hl' hr2 h => ?_
      have h : St w0 (s2 :: s' :: ((A ++ B).map LnE.sg).flatten :: gtB b bf rA rL c G.room G.pat :: sA' :: [Cl b3 T_s_gate_Fate [SlV v]] :: sv :: [Cl b1 T_p_gate_Gate [.pointer (some ⟨b, 0, none⟩)]] :: [Rec lv lp .busy none] :: [DfM d] :: [Cl cc T_p_gate_book_p_wait_Line [.pointer (some ⟨b, 2, none⟩)]] :: sL :: [Cl b2 T_int [I now]] :: [Cl c T_int [I G.room]] :: (E ++ X)) w := h
      have h := fr7_ (fr7_ (fr7_ (fr7_ (fr7_ h))))
      obtain ⟨RR, hRR⟩ : ∃ RR, RR = s' :: ((A ++ B).map LnE.sg).flatten :: [Rec lv lp .busy none] :: [DfM d] :: [Cl cc T_p_gate_book_p_wait_Line [.pointer (some ⟨b, 2, none⟩)]] :: sL :: [Cl b2 T_int [I now]] :: [Cl c T_int [I G.room]] :: (E ++ X) := ⟨_, rfl⟩
      rw [← hRR] at h
      have hge := tickA_ge (now := now) (ks := (ssort ((Q.map LnE.kp).map (·.1))).drop (m + 1)) (G := tick1 now key G') (out := out ++ lateF (lLate (lineOf G'.lines key) now))
      have hT : tickA now ((ssort ((Q.map LnE.kp).map (·.1))).drop (m + 1)) (tick1 now key G') (out ++ lateF (lLate (lineOf G'.lines key) now)) = gTick G now := hT
      rw [hT, List.length_append, lateF_len, hlo] at hge
      have hll2 := Rw.len encI hr2
      refine loop_of (fun q y w => ∃ (j : Nat) (v : Sl) (sv sA' : Seg), y = ((j : Int), ()) ∧ q + j = (lLate x.l now).length ∧ MpS KI vReq rA (lateS key ((lLate x.l now).take j) G'.all) sA' ∧ Rw Fate.cells T_gate_Fate 4 v (out ++ lateF ((lLate x.l now).take j)) sv ∧
        St w0 (gtB b bf rA rL c G.room G.pat :: sA' :: [Cl b3 T_s_gate_Fate [SlV v]] :: sv :: [Cl b1 T_p_gate_Gate [.pointer (some ⟨b, 0, none⟩)]] :: s2 :: RR) w) (lLate x.l now).length
        ⟨0, v, sv, sA', rfl, rfl, hA', by simpa [lateF] using hv, h⟩ ?_
      clear hA' hv
      clear h; (try clear w)
      rintro q y w ⟨j, v, sv, sA', rfl, hq, hA', hv, h⟩ again hag
      dsimp only
      refine it (fun hb => ?_) (fun hb => ?_) <;> (try simp only [decide_eq_true_eq, decide_eq_false_iff_not, beq_iff_eq, bne_iff_ne, beq_eq_false_iff_ne, bne_eq_false_iff_eq, Bool.not_eq_true', Bool.not_eq_false', ne_eq, Bool.not_eq_true, Bool.not_eq_false] at hb)
      · have hj : j < (lLate x.l now).length := by omega
        have hxj : (lLate x.l now)[j]? = some (lLate x.l now)[j] := List.getElem?_eq_getElem hj
        generalize (lLate x.l now)[j] = id at hxj
        refine rd1 (Rw.rd encI h 5 rfl hr2) encI (lf := .int .i64) (fun x => x) (fun x => ⟨_, rfl, rfl⟩) (by omega) hb fun y' hy' => ?_
        simp only [Int.toNat_natCast, hxj, Option.some.injEq] at hy'
        subst hy'
        (repeat (first | refine nn ?_ | (refine dr h ?_; clear h; (try clear w); intro w h) | refine ld0_ h rfl rfl ?_ | refine ld1_ h rfl rfl ?_ | refine ld2_ h rfl rfl ?_ | refine ld3_ h rfl rfl ?_ | refine ld4_ h rfl rfl ?_ | refine ld5_ h rfl rfl ?_ | refine ld6_ h rfl rfl ?_ | refine ld7_ h rfl rfl ?_ | refine ld8_ h rfl rfl ?_ | refine ld9_ h rfl rfl ?_ | refine ld10_ h rfl rfl ?_ | refine ld11_ h rfl rfl ?_ | refine la0_ h rfl ?_ | refine la1_ h rfl ?_ | refine la2_ h rfl ?_ | refine la3_ h rfl ?_ | refine la4_ h rfl ?_ | refine la5_ h rfl ?_ | refine la6_ h rfl ?_ | refine la7_ h rfl ?_ | refine la8_ h rfl ?_ | refine la9_ h rfl ?_ | refine la10_ h rfl ?_ | refine la11_ h rfl ?_ | refine ck0_ h rfl ?_ | refine ck1_ h rfl ?_ | refine ck2_ h rfl ?_ | refine ck3_ h rfl ?_ | refine ck4_ h rfl ?_ | refine ck5_ h rfl ?_ | refine ck6_ h rfl ?_ | refine ck7_ h rfl ?_ | refine ck8_ h rfl ?_ | refine ck9_ h rfl ?_ | refine ck10_ h rfl ?_ | refine ck11_ h rfl ?_ | ((first | refine st0_ h rfl rfl ?_ | refine st1_ h rfl rfl ?_ | refine st2_ h rfl rfl ?_ | refine st3_ h rfl rfl ?_ | refine st4_ h rfl rfl ?_ | refine st5_ h rfl rfl ?_ | refine st6_ h rfl rfl ?_ | refine st7_ h rfl rfl ?_ | refine st8_ h rfl rfl ?_ | refine st9_ h rfl rfl ?_ | refine st10_ h rfl rfl ?_ | refine st11_ h rfl rfl ?_); clear h; (try clear w); intro w h; (try dsimp only [putN, setN] at h))))
        refine S_gwhy h fun w h => ?_
        (repeat (first | refine nn ?_ | (refine dr h ?_; clear h; (try clear w); intro w h) | refine ld0_ h rfl rfl ?_ | refine ld1_ h rfl rfl ?_ | refine ld2_ h rfl rfl ?_ | refine ld3_ h rfl rfl ?_ | refine ld4_ h rfl rfl ?_ | refine ld5_ h rfl rfl ?_ | refine ld6_ h rfl rfl ?_ | refine ld7_ h rfl rfl ?_ | refine ld8_ h rfl rfl ?_ | refine ld9_ h rfl rfl ?_ | refine ld10_ h rfl rfl ?_ | refine ld11_ h rfl rfl ?_ | refine la0_ h rfl ?_ | refine la1_ h rfl ?_ | refine la2_ h rfl ?_ | refine la3_ h rfl ?_ | refine la4_ h rfl ?_ | refine la5_ h rfl ?_ | refine la6_ h rfl ?_ | refine la7_ h rfl ?_ | refine la8_ h rfl ?_ | refine la9_ h rfl ?_ | refine la10_ h rfl ?_ | refine la11_ h rfl ?_ | refine ck0_ h rfl ?_ | refine ck1_ h rfl ?_ | refine ck2_ h rfl ?_ | refine ck3_ h rfl ?_ | refine ck4_ h rfl ?_ | refine ck5_ h rfl ?_ | refine ck6_ h rfl ?_ | refine ck7_ h rfl ?_ | refine ck8_ h rfl ?_ | refine ck9_ h rfl ?_ | refine ck10_ h rfl ?_ | refine ck11_ h rfl ?_ | ((first | refine st0_ h rfl rfl ?_ | refine st1_ h rfl rfl ?_ | refine st2_ h rfl rfl ?_ | refine st3_ h rfl rfl ?_ | refine st4_ h rfl rfl ?_ | refine st5_ h rfl rfl ?_ | refine st6_ h rfl rfl ?_ | refine st7_ h rfl rfl ?_ | refine st8_ h rfl rfl ?_ | refine st9_ h rfl rfl ?_ | refine st10_ h rfl rfl ?_ | refine st11_ h rfl rfl ?_); clear h; (try clear w); intro w h; (try dsimp only [putN, setN] at h))))
        refine S_gset (f := (0, 4, 0, s_timeout, ())) hA' h fun sA2 w hA2 h => ?_
        (repeat (first | refine nn ?_ | (refine dr h ?_; clear h; (try clear w); intro w h) | refine ld0_ h rfl rfl ?_ | refine ld1_ h rfl rfl ?_ | refine ld2_ h rfl rfl ?_ | refine ld3_ h rfl rfl ?_ | refine ld4_ h rfl rfl ?_ | refine ld5_ h rfl rfl ?_ | refine ld6_ h rfl rfl ?_ | refine ld7_ h rfl rfl ?_ | refine ld8_ h rfl rfl ?_ | refine ld9_ h rfl rfl ?_ | refine ld10_ h rfl rfl ?_ | refine ld11_ h rfl rfl ?_ | refine la0_ h rfl ?_ | refine la1_ h rfl ?_ | refine la2_ h rfl ?_ | refine la3_ h rfl ?_ | refine la4_ h rfl ?_ | refine la5_ h rfl ?_ | refine la6_ h rfl ?_ | refine la7_ h rfl ?_ | refine la8_ h rfl ?_ | refine la9_ h rfl ?_ | refine la10_ h rfl ?_ | refine la11_ h rfl ?_ | refine ck0_ h rfl ?_ | refine ck1_ h rfl ?_ | refine ck2_ h rfl ?_ | refine ck3_ h rfl ?_ | refine ck4_ h rfl ?_ | refine ck5_ h rfl ?_ | refine ck6_ h rfl ?_ | refine ck7_ h rfl ?_ | refine ck8_ h rfl ?_ | refine ck9_ h rfl ?_ | refine ck10_ h rfl ?_ | refine ck11_ h rfl ?_ | ((first | refine st0_ h rfl rfl ?_ | refine st1_ h rfl rfl ?_ | refine st2_ h rfl rfl ?_ | refine st3_ h rfl rfl ?_ | refine st4_ h rfl rfl ?_ | refine st5_ h rfl rfl ?_ | refine st6_ h rfl rfl ?_ | refine st7_ h rfl rfl ?_ | refine st8_ h rfl rfl ?_ | refine st9_ h rfl rfl ?_ | refine st10_ h rfl rfl ?_ | refine st11_ h rfl rfl ?_); clear h; (try clear w); intro w h; (try dsimp only [putN, setN] at h))))
        refine nw h ?_; clear h; (try clear w); intro b22 w h
        (repeat (first | refine nn ?_ | (refine dr h ?_; clear h; (try clear w); intro w h) | refine ld0_ h rfl rfl ?_ | refine ld1_ h rfl rfl ?_ | refine ld2_ h rfl rfl ?_ | refine ld3_ h rfl rfl ?_ | refine ld4_ h rfl rfl ?_ | refine ld5_ h rfl rfl ?_ | refine ld6_ h rfl rfl ?_ | refine ld7_ h rfl rfl ?_ | refine ld8_ h rfl rfl ?_ | refine ld9_ h rfl rfl ?_ | refine ld10_ h rfl rfl ?_ | refine ld11_ h rfl rfl ?_ | refine la0_ h rfl ?_ | refine la1_ h rfl ?_ | refine la2_ h rfl ?_ | refine la3_ h rfl ?_ | refine la4_ h rfl ?_ | refine la5_ h rfl ?_ | refine la6_ h rfl ?_ | refine la7_ h rfl ?_ | refine la8_ h rfl ?_ | refine la9_ h rfl ?_ | refine la10_ h rfl ?_ | refine la11_ h rfl ?_ | refine ck0_ h rfl ?_ | refine ck1_ h rfl ?_ | refine ck2_ h rfl ?_ | refine ck3_ h rfl ?_ | refine ck4_ h rfl ?_ | refine ck5_ h rfl ?_ | refine ck6_ h rfl ?_ | refine ck7_ h rfl ?_ | refine ck8_ h rfl ?_ | refine ck9_ h rfl ?_ | refine ck10_ h rfl ?_ | refine ck11_ h rfl ?_ | ((first | refine st0_ h rfl rfl ?_ | refine st1_ h rfl rfl ?_ | refine st2_ h rfl rfl ?_ | refine st3_ h rfl rfl ?_ | refine st4_ h rfl rfl ?_ | refine st5_ h rfl rfl ?_ | refine st6_ h rfl rfl ?_ | refine st7_ h rfl rfl ?_ | refine st8_ h rfl rfl ?_ | refine st9_ h rfl rfl ?_ | refine st10_ h rfl rfl ?_ | refine st11_ h rfl rfl ?_); clear h; (try clear w); intro w h; (try dsimp only [putN, setN] at h))))
        refine Rw.app (l := out ++ lateF ((lLate x.l now).take j)) encF elF h 3 rfl hv (id, 4, 0, s_timeout, ()) rfl (by rw [List.length_append, lateF_len, List.length_take]; omega) (by rw [List.length_append, lateF_len, List.length_take]; omega) fun v' sv' w hv' h => ?_
        (repeat (first | refine nn ?_ | (refine dr h ?_; clear h; (try clear w); intro w h) | refine ld0_ h rfl rfl ?_ | refine ld1_ h rfl rfl ?_ | refine ld2_ h rfl rfl ?_ | refine ld3_ h rfl rfl ?_ | refine ld4_ h rfl rfl ?_ | refine ld5_ h rfl rfl ?_ | refine ld6_ h rfl rfl ?_ | refine ld7_ h rfl rfl ?_ | refine ld8_ h rfl rfl ?_ | refine ld9_ h rfl rfl ?_ | refine ld10_ h rfl rfl ?_ | refine ld11_ h rfl rfl ?_ | refine la0_ h rfl ?_ | refine la1_ h rfl ?_ | refine la2_ h rfl ?_ | refine la3_ h rfl ?_ | refine la4_ h rfl ?_ | refine la5_ h rfl ?_ | refine la6_ h rfl ?_ | refine la7_ h rfl ?_ | refine la8_ h rfl ?_ | refine la9_ h rfl ?_ | refine la10_ h rfl ?_ | refine la11_ h rfl ?_ | refine ck0_ h rfl ?_ | refine ck1_ h rfl ?_ | refine ck2_ h rfl ?_ | refine ck3_ h rfl ?_ | refine ck4_ h rfl ?_ | refine ck5_ h rfl ?_ | refine ck6_ h rfl ?_ | refine ck7_ h rfl ?_ | refine ck8_ h rfl ?_ | refine ck9_ h rfl ?_ | refine ck10_ h rfl ?_ | refine ck11_ h rfl ?_ | ((first | refine st0_ h rfl rfl ?_ | refine st1_ h rfl rfl ?_ | refine st2_ h rfl rfl ?_ | refine st3_ h rfl rfl ?_ | refine st4_ h rfl rfl ?_ | refine st5_ h rfl rfl ?_ | refine st6_ h rfl rfl ?_ | refine st7_ h rfl rfl ?_ | refine st8_ h rfl rfl ?_ | refine st9_ h rfl rfl ?_ | refine st10_ h rfl rfl ?_ | refine st11_ h rfl rfl ?_); clear h; (try clear w); intro w h; (try dsimp only [putN, setN] at h))))
        rw [wr (by omega) (by omega)]
        refine hag (q - 1) _ w (by omega) ⟨j + 1, v', sv', sA2, by simp, by omega, ?_, ?_, h⟩
        · rw [lateS_take hxj]; exact hA2
        · rw [lateF_take hxj, ← List.append_assoc]; exact hv'
      · have e : (lLate x.l now).take j = lLate x.l now := List.take_of_length_le (by omega)
        rw [e] at hA' hv
        subst hRR
        have h := dl5_ h
        have h := fr6_ (fr6_ h)
        have h : St w0 (LnE.sg ⟨x.k, x.b, lRest x.l now, s'⟩ :: ((A ++ B).map LnE.sg).flatten :: gtB b bf rA rL c G.room G.pat :: sA' :: [Cl b3 T_s_gate_Fate [SlV v]] :: sv :: [Cl b1 T_p_gate_Gate [.pointer (some ⟨b, 0, none⟩)]] :: [Rec lv lp .busy none] :: [DfM d] :: [Cl cc T_p_gate_book_p_wait_Line [.pointer (some ⟨b, 2, none⟩)]] :: sL :: [Cl b2 T_int [I now]] :: [Cl c T_int [I G.room]] :: (E ++ X)) w := h
        have h := h.place
        have h := fr11_ (fr11_ (fr11_ (fr8_ (fr11_ (fr7_ (fr7_ (fr11_ (fr6_ (fr11_ (fr2_ h))))))))))
        have hnd : (((A ++ x :: B).map LnE.ka).map (·.1)).Nodup := by rw [← hln]; exact ok'.nd
        refine hN _ w ⟨v, sv, sA', A ++ (⟨x.k, x.b, lRest x.l now, s'⟩ : LnE) :: B, tick1 now key G', out ++ lateF (lLate (lineOf G'.lines key) now), rfl, ?_, ?_, ?_, ok'.tick1 hw' hsm now, er, ep, hw'.tick1 key now, ?_, ?_, hT⟩ h
        · rw [← hkp]; simp
        · intro y hy
          rcases List.mem_append.1 hy with hy | hy
          · exact hQ' y (by simp [hy])
          · rcases List.mem_cons.1 hy with rfl | hy
            · exact hl'
            · exact hQ' y (by simp [hy])
        · show mset G'.lines key (lRest (lineOf G'.lines key) now) = _
          rw [hlo]
          exact (line_turn (ls := G'.lines) (by rw [← hln, mset_same e2]) hxk hnd).symm
        · show MpS KI vReq rA (lateS key (lLate (lineOf G'.lines key) now) G'.all) sA'
          rw [hlo]; exact hA'
        · rw [hlo]; exact hv
  · rintro d F w ⟨v, sv, sA', Q', G', out, rfl, hkp, hQ', hln, ok', er, ep, hw', hA', hv, hT⟩ h
    have h : St w0 ([DfM d] :: [Cl cc T_p_gate_book_p_wait_Line [.pointer (some ⟨b, 2, none⟩)]] :: gtB b bf rA rL c G.room G.pat :: sL :: [Cl b3 T_s_gate_Fate [SlV v]] :: sv :: [Cl b2 T_int [I now]] :: [Cl b1 T_p_gate_Gate [.pointer (some ⟨b, 0, none⟩)]] :: [Cl c T_int [I G.room]] :: sA' :: (Q'.map LnE.sg).flatten :: E) w := h
    rw [List.drop_of_length_le (Nat.le_refl _)] at hT
    have hT : (G', out) = gTick G now := hT
    rw [← hT] at hk ho
    refine jumpN ?_
    (repeat (first | refine nn ?_ | (refine dr h ?_; clear h; (try clear w); intro w h) | refine ld0_ h rfl rfl ?_ | refine ld1_ h rfl rfl ?_ | refine ld2_ h rfl rfl ?_ | refine ld3_ h rfl rfl ?_ | refine ld4_ h rfl rfl ?_ | refine ld5_ h rfl rfl ?_ | refine ld6_ h rfl rfl ?_ | refine ld7_ h rfl rfl ?_ | refine ld8_ h rfl rfl ?_ | refine ld9_ h rfl rfl ?_ | refine ld10_ h rfl rfl ?_ | refine ld11_ h rfl rfl ?_ | refine la0_ h rfl ?_ | refine la1_ h rfl ?_ | refine la2_ h rfl ?_ | refine la3_ h rfl ?_ | refine la4_ h rfl ?_ | refine la5_ h rfl ?_ | refine la6_ h rfl ?_ | refine la7_ h rfl ?_ | refine la8_ h rfl ?_ | refine la9_ h rfl ?_ | refine la10_ h rfl ?_ | refine la11_ h rfl ?_ | refine ck0_ h rfl ?_ | refine ck1_ h rfl ?_ | refine ck2_ h rfl ?_ | refine ck3_ h rfl ?_ | refine ck4_ h rfl ?_ | refine ck5_ h rfl ?_ | refine ck6_ h rfl ?_ | refine ck7_ h rfl ?_ | refine ck8_ h rfl ?_ | refine ck9_ h rfl ?_ | refine ck10_ h rfl ?_ | refine ck11_ h rfl ?_ | ((first | refine st0_ h rfl rfl ?_ | refine st1_ h rfl rfl ?_ | refine st2_ h rfl rfl ?_ | refine st3_ h rfl rfl ?_ | refine st4_ h rfl rfl ?_ | refine st5_ h rfl rfl ?_ | refine st6_ h rfl rfl ?_ | refine st7_ h rfl rfl ?_ | refine st8_ h rfl rfl ?_ | refine st9_ h rfl rfl ?_ | refine st10_ h rfl rfl ?_ | refine st11_ h rfl rfl ?_); clear h; (try clear w); intro w h; (try dsimp only [putN, setN] at h))))
    refine S_cloneF h (Rw.rd encF h 5 rfl hv) (by simp only at ho; omega) (fun h0 => Rw.nil_of encF hv h0) fun v' sv' w hv' h => ?_
    (first | refine um0_ h ?_ | refine um1_ h ?_ | refine um2_ h ?_ | refine um3_ h ?_ | refine um4_ h ?_ | refine um5_ h ?_ | refine um6_ h ?_ | refine um7_ h ?_ | refine um8_ h ?_ | refine um9_ h ?_ | refine um10_ h ?_ | refine um11_ h ?_); clear h; (try clear w); intro w h
    refine ⟨v', rfl, ?_⟩
    have h := fr6_ (fr10_ (fr10_ (fr4_ (fr10_ h))))
    rw [← er, ← ep] at h
    have h := dl6_ (dl6_ (dl6_ (dl6_ (dl6_ h))))
    obtain ⟨sg, hg, h⟩ := gt_close ok' (Q := Q') ⟨hA', by rw [hkp]; exact hr.lns, fun x hx => by rw [er]; exact hQ' x hx, hln⟩ h
    have h := fr1_ h
    exact hk v' sv' sg w hv' hg h
  · rintro d j F w hf; exact hf.elim
end Go.Proofs.YthmpbgloifdcnaaGreat
