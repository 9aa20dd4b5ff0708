/- Contracts of functions, and walks of laws (text Sn). No conditions beyond those its theorems state. -/
import Derived.Test.YtpnbgpolbjbhpaaSr
set_option linter.all false
namespace Go.Proofs.Ytpnbgpolbjbhpaa
open Go.Dm
attribute [local irreducible] L.load L.store L.chk L.new L.nonnil L.guard L.ite L.draw L.idx L.sem L.semR L.semU L.chkSem L.next L.call L.callV L.join L.alts L.loop L.begin L.endRound L.range
variable {w0 w : World} {E : List Seg}
/-! ### names -/
theorem filt_at {α : Type} {p : α → Bool} : ∀ {l : List α} {j : Nat} {x : α}, l[j]? = some x → p x = true → (l.filter p)[((l.take j).filter p).length]? = some x
  | y :: l, 0, x, h, hp => by simp at h; subst h; simp [hp]
  | y :: l, j + 1, x, h, hp => by
    have := filt_at (l := l) (j := j) (p := p) (by simpa using h) hp
    by_cases hy : p y = true
    · simp [hy, this]
    · simp [hy, this]
theorem filt_take {α : Type} {p : α → Bool} {l : List α} {j : Nat} {x : α} (h : l[j]? = some x) : ((l.take (j + 1)).filter p).length = ((l.take j).filter p).length + if p x = true then 1 else 0 := by
  rw [List.take_add_one, h, List.filter_append, List.length_append]
  congr 1
  by_cases hp : p x = true <;> simp [hp]
/-- the m-th of some strings, handed on -/
def argS (l : List ByteArray) (m : Nat) : TT [.one .str] := ((l[m]?).getD s_, ())
theorem argS_at {l : List ByteArray} {m : Nat} {x : ByteArray} (h : l[m]? = some x) : argS l m = (x, ()) := by simp [argS, h]
theorem S_KCfg (h : St w0 E w) (i : Nat) {s : Seg} (hi : nth E i = some s) {r : Nat} {m : List (ByteArray × Thg)} (hm : MpS Value.string vThg r m s) (hn : m.length < 1000000000) {k : Sl → PT}
    (hk : ∀ v s' w', Rw eS T_string 1 v (ssort (m.map (·.1))) s' → St w0 (s' :: E) w' → k v w') :
    L.call Pr n_maps_Keys_map_string_shelf_thing_api_Config_string_bd34 [.map (some r)] (.one (.one .func)) (fun x5 => L.call Pr n_slices_Sorted_string [.func x5.fn x5.fs x5.cs] (.one (.one .slice)) k) w := by
  refine call_of (C_maps_Keys_map_string_shelf_thing_api_Config_string_bd34 _) ?_
  unfold F_maps_Keys_map_string_shelf_thing_api_Config_string_bd34
  have h := h.front i hi
  refine nw h ?_; clear h; (try clear w); intro c w h
  refine ⟨⟨.func n_maps_Keys_map_string_shelf_thing_api_Config_string_df09, #[], #[.pointer (some ⟨c, 0, none⟩)]⟩, rfl, ?_⟩
  have hY : YldM Pr w0 [[Cl c T_map_string_shelf_thing_api_Config [.map (some r)]], s] (.func (.func n_maps_Keys_map_string_shelf_thing_api_Config_string_df09) #[] #[.pointer (some ⟨c, 0, none⟩)]) (m.map (·.1)) Value.string := by
    intro yv R J Jd F w h hJ step fin fin2
    refine ⟨E_maps_Keys_map_string_shelf_thing_api_Config_string_df09, C_maps_Keys_map_string_shelf_thing_api_Config_string_df09 yv ⟨c, 0, none⟩ ?_⟩
    unfold F_maps_Keys_map_string_shelf_thing_api_Config_string_df09
    exact keys_of (kv := Value.string) (vv := vThg) unS (fun _ => rfl) und_rack (lk := .str) (ev := eThg) (fun x => x) (fun _ => rfl) (fun x : Thg => x) (fun _ => rfl) J Jd hm h hJ (fun seen k F X w hl hJ h => step seen k F X w (by simpa using hl) hJ h) fin fin2
  refine S_SortedKeysS (fv := ⟨.func n_maps_Keys_map_string_shelf_thing_api_Config_string_df09, #[], #[.pointer (some ⟨c, 0, none⟩)]⟩) hY h (by simpa using hn) fun v s' w hr h => hk v s' w hr ?_
  have h := fr1_ h
  exact St.again (i + 1) (E := s' :: E) hi h
def namesC (m : List (ByteArray × Thg)) : List ByteArray := (ssort (m.map (·.1))).filter fun n => (tget m n).is
theorem Y_namesC {c b r : Nat} {m : List (ByteArray × Thg)} {sm : Seg} (hm : MpS Value.string vThg r m sm) (hn : m.length < 1000000000) :
    YldX Pr w0 [[Cl c T_p_shelf_rack_api_Config [.pointer (some ⟨b, 0, none⟩)]], [Cl b T_shelf_rack_api_Config [.map (some r), .func (.func n_shelf_New_1) #[] #[]]], sm]
      (.func (.func n_shelf_rack_api_Config_names_1) #[] #[.pointer (some ⟨c, 0, none⟩)]) (namesC m).length fun i => TV _ (argS (namesC m) i) := by
  intro yv R J Jd G w h hJ step fin fin2
  refine ⟨E_shelf_rack_api_Config_names_1, C_shelf_rack_api_Config_names_1 yv ⟨c, 0, none⟩ ?_⟩
  unfold F_shelf_rack_api_Config_names_1
  have h : St w0 ([Cl c T_p_shelf_rack_api_Config [.pointer (some ⟨b, 0, none⟩)]] :: [Cl b T_shelf_rack_api_Config [.map (some r), .func (.func n_shelf_New_1) #[] #[]]] :: sm :: G) w := h
  (repeat (first | refine nn ?_ | (refine dr h ?_; clear h; (try clear w); intro w h) | refine ld0_ h rfl rfl ?_ | refine ld1_ h rfl rfl ?_ | refine ld2_ h rfl rfl ?_ | refine ld3_ h rfl rfl ?_ | refine ld4_ h rfl rfl ?_ | refine ld5_ h rfl rfl ?_ | refine ld6_ h rfl rfl ?_ | refine ld7_ h rfl rfl ?_ | refine ld8_ h rfl rfl ?_ | refine ld9_ h rfl rfl ?_ | refine ld10_ h rfl rfl ?_ | refine ld11_ h rfl rfl ?_ | refine la0_ h rfl ?_ | refine la1_ h rfl ?_ | refine la2_ h rfl ?_ | refine la3_ h rfl ?_ | refine la4_ h rfl ?_ | refine la5_ h rfl ?_ | refine la6_ h rfl ?_ | refine la7_ h rfl ?_ | refine la8_ h rfl ?_ | refine la9_ h rfl ?_ | refine la10_ h rfl ?_ | refine la11_ h rfl ?_ | refine ck0_ h rfl ?_ | refine ck1_ h rfl ?_ | refine ck2_ h rfl ?_ | refine ck3_ h rfl ?_ | refine ck4_ h rfl ?_ | refine ck5_ h rfl ?_ | refine ck6_ h rfl ?_ | refine ck7_ h rfl ?_ | refine ck8_ h rfl ?_ | refine ck9_ h rfl ?_ | refine ck10_ h rfl ?_ | refine ck11_ h rfl ?_ | ((first | refine st0_ h rfl rfl ?_ | refine st1_ h rfl rfl ?_ | refine st2_ h rfl rfl ?_ | refine st3_ h rfl rfl ?_ | refine st4_ h rfl rfl ?_ | refine st5_ h rfl rfl ?_ | refine st6_ h rfl rfl ?_ | refine st7_ h rfl rfl ?_ | refine st8_ h rfl rfl ?_ | refine st9_ h rfl rfl ?_ | refine st10_ h rfl rfl ?_ | refine st11_ h rfl rfl ?_); clear h; (try clear w); intro w h; (try dsimp only [putN, setN] at h))))
  refine S_KCfg h 2 rfl hm hn fun v s w hrow h => ?_
  unfold namesC at *
  have hlen := Rw.len encS hrow
  have hl : (ssort (m.map (·.1))).length < 1000000000 := by rw [ssort_len, List.length_map]; exact hn
  generalize ssort (m.map (·.1)) = l at *
  refine loop_of (fun q y w => ∃ (j : Nat) (G : List Seg), @Eq Int y.1 j ∧ q + j = l.length ∧ J ((l.take j).filter fun n => (tget m n).is).length G ∧
    St w0 (s :: [Cl c T_p_shelf_rack_api_Config [.pointer (some ⟨b, 0, none⟩)]] :: [Cl b T_shelf_rack_api_Config [.map (some r), .func (.func n_shelf_New_1) #[] #[]]] :: sm :: G) w) l.length ⟨0, G, rfl, rfl, hJ, h⟩ ?_
  clear hJ
  clear h; (try clear w)
  rintro q ⟨y, ⟨⟩⟩ w ⟨j, G, hy, hq, hJ, h⟩ again hag
  simp only at hy
  subst hy
  refine it (fun hb => ?_) (fun hb => ?_) <;> (try simp only [decide_eq_true_eq, decide_eq_false_iff_not, beq_iff_eq, bne_iff_ne, beq_eq_false_iff_ne, bne_eq_false_iff_eq, Bool.not_eq_true', Bool.not_eq_false', ne_eq, Bool.not_eq_true, Bool.not_eq_false] at hb)
  · have hj : j < l.length := by omega
    have hx : l[j]? = some l[j] := List.getElem?_eq_getElem hj
    have hft := filt_take (p := fun n => (tget m n).is) hx
    have next : ∀ {G w}, J ((l.take (j + 1)).filter fun n => (tget m n).is).length G → St w0 (s :: [Cl c T_p_shelf_rack_api_Config [.pointer (some ⟨b, 0, none⟩)]] :: [Cl b T_shelf_rack_api_Config [.map (some r), .func (.func n_shelf_New_1) #[] #[]]] :: sm :: G) w → again (IntKind.wrap .i64 ((j : Int) + 1), ()) w := by
      intro G w hJ h
      refine hag (q - 1) _ w (by omega) ⟨j + 1, G, ?_, by omega, hJ, h⟩
      show IntKind.wrap .i64 _ = _
      rw [wr (by omega) (by omega)]; omega
    refine jd ?_
    refine Rw.ix encS hrow (by omega) (by simpa using hj) fun a ha => ?_
    refine Rw.ld0 encS h 0 rfl hrow ha (x := l[j]) (by simp [hj]) rfl rfl ?_
    (repeat (first | refine nn ?_ | (refine dr h ?_; clear h; (try clear w); intro w h) | refine ld0_ h rfl rfl ?_ | refine ld1_ h rfl rfl ?_ | refine ld2_ h rfl rfl ?_ | refine ld3_ h rfl rfl ?_ | refine ld4_ h rfl rfl ?_ | refine ld5_ h rfl rfl ?_ | refine ld6_ h rfl rfl ?_ | refine ld7_ h rfl rfl ?_ | refine ld8_ h rfl rfl ?_ | refine ld9_ h rfl rfl ?_ | refine ld10_ h rfl rfl ?_ | refine ld11_ h rfl rfl ?_ | refine la0_ h rfl ?_ | refine la1_ h rfl ?_ | refine la2_ h rfl ?_ | refine la3_ h rfl ?_ | refine la4_ h rfl ?_ | refine la5_ h rfl ?_ | refine la6_ h rfl ?_ | refine la7_ h rfl ?_ | refine la8_ h rfl ?_ | refine la9_ h rfl ?_ | refine la10_ h rfl ?_ | refine la11_ h rfl ?_ | refine ck0_ h rfl ?_ | refine ck1_ h rfl ?_ | refine ck2_ h rfl ?_ | refine ck3_ h rfl ?_ | refine ck4_ h rfl ?_ | refine ck5_ h rfl ?_ | refine ck6_ h rfl ?_ | refine ck7_ h rfl ?_ | refine ck8_ h rfl ?_ | refine ck9_ h rfl ?_ | refine ck10_ h rfl ?_ | refine ck11_ h rfl ?_ | ((first | refine st0_ h rfl rfl ?_ | refine st1_ h rfl rfl ?_ | refine st2_ h rfl rfl ?_ | refine st3_ h rfl rfl ?_ | refine st4_ h rfl rfl ?_ | refine st5_ h rfl rfl ?_ | refine st6_ h rfl rfl ?_ | refine st7_ h rfl rfl ?_ | refine st8_ h rfl rfl ?_ | refine st9_ h rfl rfl ?_ | refine st10_ h rfl rfl ?_ | refine st11_ h rfl rfl ?_); clear h; (try clear w); intro w h; (try dsimp only [putN, setN] at h))))
    refine tlook h 3 rfl hm ?_
    refine it (fun hc => ?_) (fun hc => ?_) <;> (try simp only [decide_eq_true_eq, decide_eq_false_iff_not, beq_iff_eq, bne_iff_ne, beq_eq_false_iff_ne, bne_eq_false_iff_eq, Bool.not_eq_true', Bool.not_eq_false', ne_eq, Bool.not_eq_true, Bool.not_eq_false] at hc)
    · have hc : (tget m l[j]).is = true := hc
      rw [if_pos hc] at hft
      have hat := filt_at (p := fun n => (tget m n).is) hx hc
      have hlt := (List.getElem?_eq_some_iff.1 hat).1
      have step := step _ G [s] w hlt hJ (St.toEnd (X := [s]) (A := [_, _, _]) h)
      simp only [argS_at hat] at step
      refine cv (FCall.mono step fun u w' hu => ?_)
      rcases hu with ⟨rfl, G', h, hJ⟩ | ⟨rfl, hd⟩
      · exact ⟨true, rfl, itF rfl (next (by rw [hft]; exact hJ) (St.ofEnd (X := [s]) (A := [_, _, _]) h))⟩
      · exact ⟨false, rfl, itT rfl (fin2 w' hd)⟩
    · rw [if_neg (by simp [hc]), Nat.add_zero] at hft
      exact next (by rw [hft]; exact hJ) h
  · have e : j = l.length := by omega
    subst e
    rw [List.take_length] at hJ
    exact fin G w hJ (dl0_ h)
/-- for x := range seq { l = append(l, x) }; slices.Clone(l) -/
theorem S_list {A F : List Seg} {fv : FV} {l : List ByteArray} (hY : YldX Pr w0 A fv.val l.length fun i => TV _ (argS l i)) (h : St w0 (A ++ F) w) (hn : l.length < 1000000000) {k : Sl → PT}
    (hk : ∀ v s w', Rw eS T_string 1 v l s → St w0 (s :: (A ++ F)) w' → k v w') : L.call Pr n_shelf_list [.func fv.fn fv.fs fv.cs] (.one (.one .slice)) k w := by
  refine call_of (C_shelf_list fv) ?_
  unfold F_shelf_list
  refine nw h ?_; clear h; (try clear w); intro b1 w h
  have h : St w0 (A ++ ([Cl b1 T_s_string [SlV ⟨none, 0, 0⟩]] :: [] :: F)) w := by
    refine St.toFront (A := [[Cl b1 T_s_string [SlV ⟨none, 0, 0⟩]], []]) (G := A) (F := F) ?_
    exact h.eq (by simp)
  refine range_ofX (A := A) hY h (fun m G => ∃ v s, G = [Cl b1 T_s_string [SlV v]] :: s :: F ∧ Rw eS T_string 1 v (l.take m) s) (fun j G => False) ⟨_, _, rfl, Rw.nil⟩ ?_ ?_ ?_
  · rintro m G X w lv lp d R hm ⟨v, s, rfl, hr⟩ h hN hE
    have hx : l[m]? = some l[m] := List.getElem?_eq_getElem hm
    have h : St w0 ([[Cl b1 T_s_string [SlV v]], s] ++ (([Rec lv lp .busy none] :: [DfM d] :: A) ++ (F ++ X))) w := St.toFront (A := [Rec lv lp .busy none] :: [DfM d] :: A) (h.eq (by simp))
    have h : St w0 ([Cl b1 T_s_string [SlV v]] :: s :: (([Rec lv lp .busy none] :: [DfM d] :: A) ++ (F ++ X))) w := h
    rw [argS_at hx]
    (repeat (first | refine nn ?_ | (refine dr h ?_; clear h; (try clear w); intro w h) | refine ld0_ h rfl rfl ?_ | refine ld1_ h rfl rfl ?_ | refine ld2_ h rfl rfl ?_ | refine ld3_ h rfl rfl ?_ | refine ld4_ h rfl rfl ?_ | refine ld5_ h rfl rfl ?_ | refine ld6_ h rfl rfl ?_ | refine ld7_ h rfl rfl ?_ | refine ld8_ h rfl rfl ?_ | refine ld9_ h rfl rfl ?_ | refine ld10_ h rfl rfl ?_ | refine ld11_ h rfl rfl ?_ | refine la0_ h rfl ?_ | refine la1_ h rfl ?_ | refine la2_ h rfl ?_ | refine la3_ h rfl ?_ | refine la4_ h rfl ?_ | refine la5_ h rfl ?_ | refine la6_ h rfl ?_ | refine la7_ h rfl ?_ | refine la8_ h rfl ?_ | refine la9_ h rfl ?_ | refine la10_ h rfl ?_ | refine la11_ h rfl ?_ | refine ck0_ h rfl ?_ | refine ck1_ h rfl ?_ | refine ck2_ h rfl ?_ | refine ck3_ h rfl ?_ | refine ck4_ h rfl ?_ | refine ck5_ h rfl ?_ | refine ck6_ h rfl ?_ | refine ck7_ h rfl ?_ | refine ck8_ h rfl ?_ | refine ck9_ h rfl ?_ | refine ck10_ h rfl ?_ | refine ck11_ h rfl ?_ | ((first | refine st0_ h rfl rfl ?_ | refine st1_ h rfl rfl ?_ | refine st2_ h rfl rfl ?_ | refine st3_ h rfl rfl ?_ | refine st4_ h rfl rfl ?_ | refine st5_ h rfl rfl ?_ | refine st6_ h rfl rfl ?_ | refine st7_ h rfl rfl ?_ | refine st8_ h rfl rfl ?_ | refine st9_ h rfl rfl ?_ | refine st10_ h rfl rfl ?_ | refine st11_ h rfl rfl ?_); clear h; (try clear w); intro w h; (try dsimp only [putN, setN] at h))))
    refine nw h ?_; clear h; (try clear w); intro b8 w h
    have hlm := Rw.len encS hr
    rw [List.length_take] at hlm
    refine Rw.app (l := l.take m) encS elS h 1 rfl hr l[m] rfl (by rw [List.length_take]; omega) (by rw [List.length_take]; omega) fun v' s' w hr' h => ?_
    (repeat (first | refine nn ?_ | (refine dr h ?_; clear h; (try clear w); intro w h) | refine ld0_ h rfl rfl ?_ | refine ld1_ h rfl rfl ?_ | refine ld2_ h rfl rfl ?_ | refine ld3_ h rfl rfl ?_ | refine ld4_ h rfl rfl ?_ | refine ld5_ h rfl rfl ?_ | refine ld6_ h rfl rfl ?_ | refine ld7_ h rfl rfl ?_ | refine ld8_ h rfl rfl ?_ | refine ld9_ h rfl rfl ?_ | refine ld10_ h rfl rfl ?_ | refine ld11_ h rfl rfl ?_ | refine la0_ h rfl ?_ | refine la1_ h rfl ?_ | refine la2_ h rfl ?_ | refine la3_ h rfl ?_ | refine la4_ h rfl ?_ | refine la5_ h rfl ?_ | refine la6_ h rfl ?_ | refine la7_ h rfl ?_ | refine la8_ h rfl ?_ | refine la9_ h rfl ?_ | refine la10_ h rfl ?_ | refine la11_ h rfl ?_ | refine ck0_ h rfl ?_ | refine ck1_ h rfl ?_ | refine ck2_ h rfl ?_ | refine ck3_ h rfl ?_ | refine ck4_ h rfl ?_ | refine ck5_ h rfl ?_ | refine ck6_ h rfl ?_ | refine ck7_ h rfl ?_ | refine ck8_ h rfl ?_ | refine ck9_ h rfl ?_ | refine ck10_ h rfl ?_ | refine ck11_ h rfl ?_ | ((first | refine st0_ h rfl rfl ?_ | refine st1_ h rfl rfl ?_ | refine st2_ h rfl rfl ?_ | refine st3_ h rfl rfl ?_ | refine st4_ h rfl rfl ?_ | refine st5_ h rfl rfl ?_ | refine st6_ h rfl rfl ?_ | refine st7_ h rfl rfl ?_ | refine st8_ h rfl rfl ?_ | refine st9_ h rfl rfl ?_ | refine st10_ h rfl rfl ?_ | refine st11_ h rfl rfl ?_); clear h; (try clear w); intro w h; (try dsimp only [putN, setN] at h))))
    rw [List.take_add_one, hx] at hN
    refine hN _ w ⟨v', s', rfl, hr'⟩ ?_
    exact (St.toFront (A := [[Cl b1 T_s_string [SlV v']], s']) (G := [Rec lv lp .busy none] :: [DfM d] :: A) (F := F ++ X) h).eq (by simp)
  · rintro d G w ⟨v, s, rfl, hr⟩ h
    rw [List.take_length] at hr
    have h : St w0 ([[Cl b1 T_s_string [SlV v]], s] ++ (([DfM d] :: A) ++ F)) w := St.toFront (A := [DfM d] :: A) (h.eq (by simp))
    have h : St w0 ([Cl b1 T_s_string [SlV v]] :: s :: [DfM d] :: (A ++ F)) w := h
    refine jumpN ?_
    (repeat (first | refine nn ?_ | (refine dr h ?_; clear h; (try clear w); intro w h) | refine ld0_ h rfl rfl ?_ | refine ld1_ h rfl rfl ?_ | refine ld2_ h rfl rfl ?_ | refine ld3_ h rfl rfl ?_ | refine ld4_ h rfl rfl ?_ | refine ld5_ h rfl rfl ?_ | refine ld6_ h rfl rfl ?_ | refine ld7_ h rfl rfl ?_ | refine ld8_ h rfl rfl ?_ | refine ld9_ h rfl rfl ?_ | refine ld10_ h rfl rfl ?_ | refine ld11_ h rfl rfl ?_ | refine la0_ h rfl ?_ | refine la1_ h rfl ?_ | refine la2_ h rfl ?_ | refine la3_ h rfl ?_ | refine la4_ h rfl ?_ | refine la5_ h rfl ?_ | refine la6_ h rfl ?_ | refine la7_ h rfl ?_ | refine la8_ h rfl ?_ | refine la9_ h rfl ?_ | refine la10_ h rfl ?_ | refine la11_ h rfl ?_ | refine ck0_ h rfl ?_ | refine ck1_ h rfl ?_ | refine ck2_ h rfl ?_ | refine ck3_ h rfl ?_ | refine ck4_ h rfl ?_ | refine ck5_ h rfl ?_ | refine ck6_ h rfl ?_ | refine ck7_ h rfl ?_ | refine ck8_ h rfl ?_ | refine ck9_ h rfl ?_ | refine ck10_ h rfl ?_ | refine ck11_ h rfl ?_ | ((first | refine st0_ h rfl rfl ?_ | refine st1_ h rfl rfl ?_ | refine st2_ h rfl rfl ?_ | refine st3_ h rfl rfl ?_ | refine st4_ h rfl rfl ?_ | refine st5_ h rfl rfl ?_ | refine st6_ h rfl rfl ?_ | refine st7_ h rfl rfl ?_ | refine st8_ h rfl rfl ?_ | refine st9_ h rfl rfl ?_ | refine st10_ h rfl rfl ?_ | refine st11_ h rfl rfl ?_); clear h; (try clear w); intro w h; (try dsimp only [putN, setN] at h))))
    refine S_CloneS h (Rw.rd encS h 1 rfl hr) hn (Rw.nil0 encS hr) fun v' s' w hr' hi h => ?_
    (first | refine um0_ h ?_ | refine um1_ h ?_ | refine um2_ h ?_ | refine um3_ h ?_ | refine um4_ h ?_ | refine um5_ h ?_ | refine um6_ h ?_ | refine um7_ h ?_ | refine um8_ h ?_ | refine um9_ h ?_ | refine um10_ h ?_ | refine um11_ h ?_); clear h; (try clear w); intro w h
    refine ⟨v', rfl, hk v' s' w hr' ?_⟩
    have h := dl1_ (dl2_ h)
    exact h
  · rintro d j G w hf; exact hf.elim
theorem S_KRt (h : St w0 E w) (i : Nat) {s : Seg} (hi : nth E i = some s) {r : Nat} {m : List (ByteArray × Thr)} (hm : MpS Value.string vThr r m s) (hn : m.length < 1000000000) {k : Sl → PT}
    (hk : ∀ v s' w', Rw eS T_string 1 v (ssort (m.map (·.1))) s' → St w0 (s' :: E) w' → k v w') :
    L.call Pr n_maps_Keys_map_string_shelf_thing_api_Route_string__f1c6 [.map (some r)] (.one (.one .func)) (fun x5 => L.call Pr n_slices_Sorted_string [.func x5.fn x5.fs x5.cs] (.one (.one .slice)) k) w := by
  refine call_of (C_maps_Keys_map_string_shelf_thing_api_Route_string__f1c6 _) ?_
  unfold F_maps_Keys_map_string_shelf_thing_api_Route_string__f1c6
  have h := h.front i hi
  refine nw h ?_; clear h; (try clear w); intro c w h
  refine ⟨⟨.func n_maps_Keys_map_string_shelf_thing_api_Route_string__801b, #[], #[.pointer (some ⟨c, 0, none⟩)]⟩, rfl, ?_⟩
  have hY : YldM Pr w0 [[Cl c T_map_string_shelf_thing_api_Route [.map (some r)]], s] (.func (.func n_maps_Keys_map_string_shelf_thing_api_Route_string__801b) #[] #[.pointer (some ⟨c, 0, none⟩)]) (m.map (·.1)) Value.string := by
    intro yv R J Jd F w h hJ step fin fin2
    refine ⟨E_maps_Keys_map_string_shelf_thing_api_Route_string__801b, C_maps_Keys_map_string_shelf_thing_api_Route_string__801b yv ⟨c, 0, none⟩ ?_⟩
    unfold F_maps_Keys_map_string_shelf_thing_api_Route_string__801b
    exact keys_of (kv := Value.string) (vv := vThr) unS (fun _ => rfl) und_rackR (lk := .str) (ev := eThr) (fun x => x) (fun _ => rfl) (fun x : Thr => x) (fun _ => rfl) J Jd hm h hJ (fun seen k F X w hl hJ h => step seen k F X w (by simpa using hl) hJ h) fin fin2
  refine S_SortedKeysS (fv := ⟨.func n_maps_Keys_map_string_shelf_thing_api_Route_string__801b, #[], #[.pointer (some ⟨c, 0, none⟩)]⟩) hY h (by simpa using hn) fun v s' w hr h => hk v s' w hr ?_
  have h := fr1_ h
  exact St.again (i + 1) (E := s' :: E) hi h
def namesR (m : List (ByteArray × AThr)) : List ByteArray := (ssort (m.map (·.1))).filter fun n => (rget m n).is
theorem Y_namesR {c b r : Nat} {Q : List RtE} {sm : Seg} (hm : MpS Value.string vThr r (Q.map RtE.kt) sm) (hn : Q.length < 1000000000) :
    YldX Pr w0 [[Cl c T_p_shelf_rack_api_Route [.pointer (some ⟨b, 0, none⟩)]], [Cl b T_shelf_rack_api_Route [.map (some r), .func (.func n_spec_SameRoute) #[] #[]]], sm]
      (.func (.func n_shelf_rack_api_Route_names_1) #[] #[.pointer (some ⟨c, 0, none⟩)]) (namesR (Q.map RtE.ka)).length fun i => TV _ (argS (namesR (Q.map RtE.ka)) i) := by
  intro yv R J Jd G w h hJ step fin fin2
  refine ⟨E_shelf_rack_api_Route_names_1, C_shelf_rack_api_Route_names_1 yv ⟨c, 0, none⟩ ?_⟩
  unfold F_shelf_rack_api_Route_names_1
  have h : St w0 ([Cl c T_p_shelf_rack_api_Route [.pointer (some ⟨b, 0, none⟩)]] :: [Cl b T_shelf_rack_api_Route [.map (some r), .func (.func n_spec_SameRoute) #[] #[]]] :: sm :: G) w := h
  (repeat (first | refine nn ?_ | (refine dr h ?_; clear h; (try clear w); intro w h) | refine ld0_ h rfl rfl ?_ | refine ld1_ h rfl rfl ?_ | refine ld2_ h rfl rfl ?_ | refine ld3_ h rfl rfl ?_ | refine ld4_ h rfl rfl ?_ | refine ld5_ h rfl rfl ?_ | refine ld6_ h rfl rfl ?_ | refine ld7_ h rfl rfl ?_ | refine ld8_ h rfl rfl ?_ | refine ld9_ h rfl rfl ?_ | refine ld10_ h rfl rfl ?_ | refine ld11_ h rfl rfl ?_ | refine la0_ h rfl ?_ | refine la1_ h rfl ?_ | refine la2_ h rfl ?_ | refine la3_ h rfl ?_ | refine la4_ h rfl ?_ | refine la5_ h rfl ?_ | refine la6_ h rfl ?_ | refine la7_ h rfl ?_ | refine la8_ h rfl ?_ | refine la9_ h rfl ?_ | refine la10_ h rfl ?_ | refine la11_ h rfl ?_ | refine ck0_ h rfl ?_ | refine ck1_ h rfl ?_ | refine ck2_ h rfl ?_ | refine ck3_ h rfl ?_ | refine ck4_ h rfl ?_ | refine ck5_ h rfl ?_ | refine ck6_ h rfl ?_ | refine ck7_ h rfl ?_ | refine ck8_ h rfl ?_ | refine ck9_ h rfl ?_ | refine ck10_ h rfl ?_ | refine ck11_ h rfl ?_ | ((first | refine st0_ h rfl rfl ?_ | refine st1_ h rfl rfl ?_ | refine st2_ h rfl rfl ?_ | refine st3_ h rfl rfl ?_ | refine st4_ h rfl rfl ?_ | refine st5_ h rfl rfl ?_ | refine st6_ h rfl rfl ?_ | refine st7_ h rfl rfl ?_ | refine st8_ h rfl rfl ?_ | refine st9_ h rfl rfl ?_ | refine st10_ h rfl rfl ?_ | refine st11_ h rfl rfl ?_); clear h; (try clear w); intro w h; (try dsimp only [putN, setN] at h))))
  refine S_KRt h 2 rfl hm (by simpa using hn) fun v s w hrow h => ?_
  have ek : (Q.map RtE.kt).map (·.1) = (Q.map RtE.ka).map (·.1) := by simp [List.map_map, Function.comp_def]
  rw [ek] at hrow
  unfold namesR at *
  have hlen := Rw.len encS hrow
  have hl : (ssort ((Q.map RtE.ka).map (·.1))).length < 1000000000 := by rw [ssort_len, List.length_map, List.length_map]; exact hn
  have hpp : ∀ n, (lget Q n).t.is = (rget (Q.map RtE.ka) n).is := fun n => by rw [lget_a]; rfl
  generalize ssort ((Q.map RtE.ka).map (·.1)) = l at *
  refine loop_of (fun q y w => ∃ (j : Nat) (G : List Seg), @Eq Int y.1 j ∧ q + j = l.length ∧ J ((l.take j).filter fun n => (rget (Q.map RtE.ka) n).is).length G ∧
    St w0 (s :: [Cl c T_p_shelf_rack_api_Route [.pointer (some ⟨b, 0, none⟩)]] :: [Cl b T_shelf_rack_api_Route [.map (some r), .func (.func n_spec_SameRoute) #[] #[]]] :: sm :: G) w) l.length ⟨0, G, rfl, rfl, hJ, h⟩ ?_
  clear hJ
  clear h; (try clear w)
  rintro q ⟨y, ⟨⟩⟩ w ⟨j, G, hy, hq, hJ, h⟩ again hag
  simp only at hy
  subst hy
  refine it (fun hb => ?_) (fun hb => ?_) <;> (try simp only [decide_eq_true_eq, decide_eq_false_iff_not, beq_iff_eq, bne_iff_ne, beq_eq_false_iff_ne, bne_eq_false_iff_eq, Bool.not_eq_true', Bool.not_eq_false', ne_eq, Bool.not_eq_true, Bool.not_eq_false] at hb)
  · have hj : j < l.length := by omega
    have hx : l[j]? = some l[j] := List.getElem?_eq_getElem hj
    have hft := filt_take (p := fun n => (rget (Q.map RtE.ka) n).is) hx
    have next : ∀ {G w}, J ((l.take (j + 1)).filter fun n => (rget (Q.map RtE.ka) n).is).length G → St w0 (s :: [Cl c T_p_shelf_rack_api_Route [.pointer (some ⟨b, 0, none⟩)]] :: [Cl b T_shelf_rack_api_Route [.map (some r), .func (.func n_spec_SameRoute) #[] #[]]] :: sm :: G) w → again (IntKind.wrap .i64 ((j : Int) + 1), ()) w := by
      intro G w hJ h
      refine hag (q - 1) _ w (by omega) ⟨j + 1, G, ?_, by omega, hJ, h⟩
      show IntKind.wrap .i64 _ = _
      rw [wr (by omega) (by omega)]; omega
    refine jd ?_
    refine Rw.ix encS hrow (by omega) (by simpa using hj) fun a ha => ?_
    refine Rw.ld0 encS h 0 rfl hrow ha (x := l[j]) (by simp [hj]) rfl rfl ?_
    (repeat (first | refine nn ?_ | (refine dr h ?_; clear h; (try clear w); intro w h) | refine ld0_ h rfl rfl ?_ | refine ld1_ h rfl rfl ?_ | refine ld2_ h rfl rfl ?_ | refine ld3_ h rfl rfl ?_ | refine ld4_ h rfl rfl ?_ | refine ld5_ h rfl rfl ?_ | refine ld6_ h rfl rfl ?_ | refine ld7_ h rfl rfl ?_ | refine ld8_ h rfl rfl ?_ | refine ld9_ h rfl rfl ?_ | refine ld10_ h rfl rfl ?_ | refine ld11_ h rfl rfl ?_ | refine la0_ h rfl ?_ | refine la1_ h rfl ?_ | refine la2_ h rfl ?_ | refine la3_ h rfl ?_ | refine la4_ h rfl ?_ | refine la5_ h rfl ?_ | refine la6_ h rfl ?_ | refine la7_ h rfl ?_ | refine la8_ h rfl ?_ | refine la9_ h rfl ?_ | refine la10_ h rfl ?_ | refine la11_ h rfl ?_ | refine ck0_ h rfl ?_ | refine ck1_ h rfl ?_ | refine ck2_ h rfl ?_ | refine ck3_ h rfl ?_ | refine ck4_ h rfl ?_ | refine ck5_ h rfl ?_ | refine ck6_ h rfl ?_ | refine ck7_ h rfl ?_ | refine ck8_ h rfl ?_ | refine ck9_ h rfl ?_ | refine ck10_ h rfl ?_ | refine ck11_ h rfl ?_ | ((first | refine st0_ h rfl rfl ?_ | refine st1_ h rfl rfl ?_ | refine st2_ h rfl rfl ?_ | refine st3_ h rfl rfl ?_ | refine st4_ h rfl rfl ?_ | refine st5_ h rfl rfl ?_ | refine st6_ h rfl rfl ?_ | refine st7_ h rfl rfl ?_ | refine st8_ h rfl rfl ?_ | refine st9_ h rfl rfl ?_ | refine st10_ h rfl rfl ?_ | refine st11_ h rfl rfl ?_); clear h; (try clear w); intro w h; (try dsimp only [putN, setN] at h))))
    refine rlook h 3 rfl hm ?_
    refine it (fun hc => ?_) (fun hc => ?_) <;> (try simp only [decide_eq_true_eq, decide_eq_false_iff_not, beq_iff_eq, bne_iff_ne, beq_eq_false_iff_ne, bne_eq_false_iff_eq, Bool.not_eq_true', Bool.not_eq_false', ne_eq, Bool.not_eq_true, Bool.not_eq_false] at hc)
    · have hc : (rget (Q.map RtE.ka) l[j]).is = true := (hpp _).symm.trans hc
      rw [if_pos hc] at hft
      have hat := filt_at (p := fun n => (rget (Q.map RtE.ka) n).is) hx hc
      have hlt := (List.getElem?_eq_some_iff.1 hat).1
      have step := step _ G [s] w hlt hJ (St.toEnd (X := [s]) (A := [_, _, _]) h)
      simp only [argS_at hat] at step
      refine cv (FCall.mono step fun u w' hu => ?_)
      rcases hu with ⟨rfl, G', h, hJ⟩ | ⟨rfl, hd⟩
      · exact ⟨true, rfl, itF rfl (next (by rw [hft]; exact hJ) (St.ofEnd (X := [s]) (A := [_, _, _]) h))⟩
      · exact ⟨false, rfl, itT rfl (fin2 w' hd)⟩
    · have hc : ¬ (rget (Q.map RtE.ka) l[j]).is = true := by rw [← hpp]; simp only [Thr.is]; rw [hc]; simp
      rw [if_neg hc, Nat.add_zero] at hft
      exact next (by rw [hft]; exact hJ) h
  · have e : j = l.length := by omega
    subst e
    rw [List.take_length] at hJ
    exact fin G w hJ (dl0_ h)
end Go.Proofs.Ytpnbgpolbjbhpaa
