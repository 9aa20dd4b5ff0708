/- Contracts of functions, and walks of laws (text Sf). No conditions beyond those its theorems state. -/
import Derived.Test.YtpnbgpolbjbhpaaSe
set_option linter.all false
namespace Go.Proofs.Ytpnbgpolbjbhpaa
open Go.Dm
attribute [local irreducible] L.load L.store L.chk L.new L.nonnil L.guard L.ite L.draw L.idx L.sem L.semR L.semU L.chkSem L.next L.call L.callV L.join L.alts L.loop L.begin L.endRound L.range
variable {w0 w : World} {E : List Seg}
theorem S_shNew (h : St w0 E w) {k : Option Addr → PT} (hk : ∀ b s w', ShS b ⟨[], [], 0⟩ s → St w0 (s :: E) w' → k (some ⟨b, 0, none⟩) w') : L.call Pr n_shelf_New [] (.one (.one .ptr)) k w := by
  refine call_of C_shelf_New ?_
  unfold F_shelf_New
  refine S_madeC h fun bc sc w hC h => ?_
  refine S_madeR h fun br sr w hR h => ?_
  refine nw h ?_; clear h; (try clear w); intro b w h
  refine ⟨_, rfl, hk b _ w ⟨⟨by simp, by simp, fun x => by simp [tget, mget, noThg, Thg.gen], by simp, by simp⟩, bc, br, sc, sr, hC, hR, rfl⟩ ?_⟩
  have h := fr2_ (fr2_ (fr1_ h))
  exact h.glue3
abbrev eCfg : E1 := .agg [.str, .int .i64, .int .i64, .int .i64, .int .i64, .int .i64]
def noCfg : Cfg := (s_, 0, 0, 0, 0, 0, ())
def shCfg (a : AShelf) (n : ByteArray) : Cfg × Int × Int × Bool × Unit := if (tget a.m n).is = true then (cfgOf (tget a.m n), (tget a.m n).ver, (tget a.m n).gen, true, ()) else (noCfg, 0, 0, false, ())
theorem S_shConfig (h : St w0 E w) (i : Nat) {b : Nat} {a : AShelf} {s : Seg} (hi : nth E i = some s) (hs : ShS b a s) {n : ByteArray} {k : eCfg.T × Int × Int × Bool × Unit → PT}
    (hk : ∀ w', St w0 E w' → k (shCfg a n) w') :
    L.call Pr n_shelf_Shelf_Config [.pointer (some ⟨b, 0, none⟩), .string n] (.tup [eCfg, .one (.int .i64), .one (.int .i64), .one .bool]) k w := by
  obtain ⟨ok, bc, br, sc, sr, hC, hR, rfl⟩ := hs
  refine call_of (C_shelf_Shelf_Config _ _) ?_
  unfold F_shelf_Shelf_Config
  unfold shCfg at hk
  have h := (h.front i hi).split3
  refine nw h ?_; clear h; (try clear w); intro b1 w h
  (repeat (first | refine nn ?_ | (refine dr h ?_; clear h; (try clear w); intro w h) | refine ld0_ h rfl rfl ?_ | refine ld1_ h rfl rfl ?_ | refine ld2_ h rfl rfl ?_ | refine ld3_ h rfl rfl ?_ | refine ld4_ h rfl rfl ?_ | refine ld5_ h rfl rfl ?_ | refine ld6_ h rfl rfl ?_ | refine ld7_ h rfl rfl ?_ | refine ld8_ h rfl rfl ?_ | refine ld9_ h rfl rfl ?_ | refine ld10_ h rfl rfl ?_ | refine ld11_ h rfl rfl ?_ | refine la0_ h rfl ?_ | refine la1_ h rfl ?_ | refine la2_ h rfl ?_ | refine la3_ h rfl ?_ | refine la4_ h rfl ?_ | refine la5_ h rfl ?_ | refine la6_ h rfl ?_ | refine la7_ h rfl ?_ | refine la8_ h rfl ?_ | refine la9_ h rfl ?_ | refine la10_ h rfl ?_ | refine la11_ h rfl ?_ | refine ck0_ h rfl ?_ | refine ck1_ h rfl ?_ | refine ck2_ h rfl ?_ | refine ck3_ h rfl ?_ | refine ck4_ h rfl ?_ | refine ck5_ h rfl ?_ | refine ck6_ h rfl ?_ | refine ck7_ h rfl ?_ | refine ck8_ h rfl ?_ | refine ck9_ h rfl ?_ | refine ck10_ h rfl ?_ | refine ck11_ h rfl ?_ | ((first | refine st0_ h rfl rfl ?_ | refine st1_ h rfl rfl ?_ | refine st2_ h rfl rfl ?_ | refine st3_ h rfl rfl ?_ | refine st4_ h rfl rfl ?_ | refine st5_ h rfl rfl ?_ | refine st6_ h rfl rfl ?_ | refine st7_ h rfl rfl ?_ | refine st8_ h rfl rfl ?_ | refine st9_ h rfl rfl ?_ | refine st10_ h rfl rfl ?_ | refine st11_ h rfl rfl ?_); clear h; (try clear w); intro w h; (try dsimp only [putN, setN] at h))))
  refine S_getC h 2 rfl hC fun w h => ?_
  generalize tget a.m n = t at hk
  refine nw h ?_; clear h; (try clear w); intro b5 w h
  (repeat (first | refine nn ?_ | (refine dr h ?_; clear h; (try clear w); intro w h) | refine ld0_ h rfl rfl ?_ | refine ld1_ h rfl rfl ?_ | refine ld2_ h rfl rfl ?_ | refine ld3_ h rfl rfl ?_ | refine ld4_ h rfl rfl ?_ | refine ld5_ h rfl rfl ?_ | refine ld6_ h rfl rfl ?_ | refine ld7_ h rfl rfl ?_ | refine ld8_ h rfl rfl ?_ | refine ld9_ h rfl rfl ?_ | refine ld10_ h rfl rfl ?_ | refine ld11_ h rfl rfl ?_ | refine la0_ h rfl ?_ | refine la1_ h rfl ?_ | refine la2_ h rfl ?_ | refine la3_ h rfl ?_ | refine la4_ h rfl ?_ | refine la5_ h rfl ?_ | refine la6_ h rfl ?_ | refine la7_ h rfl ?_ | refine la8_ h rfl ?_ | refine la9_ h rfl ?_ | refine la10_ h rfl ?_ | refine la11_ h rfl ?_ | refine ck0_ h rfl ?_ | refine ck1_ h rfl ?_ | refine ck2_ h rfl ?_ | refine ck3_ h rfl ?_ | refine ck4_ h rfl ?_ | refine ck5_ h rfl ?_ | refine ck6_ h rfl ?_ | refine ck7_ h rfl ?_ | refine ck8_ h rfl ?_ | refine ck9_ h rfl ?_ | refine ck10_ h rfl ?_ | refine ck11_ h rfl ?_ | ((first | refine st0_ h rfl rfl ?_ | refine st1_ h rfl rfl ?_ | refine st2_ h rfl rfl ?_ | refine st3_ h rfl rfl ?_ | refine st4_ h rfl rfl ?_ | refine st5_ h rfl rfl ?_ | refine st6_ h rfl rfl ?_ | refine st7_ h rfl rfl ?_ | refine st8_ h rfl rfl ?_ | refine st9_ h rfl rfl ?_ | refine st10_ h rfl rfl ?_ | refine st11_ h rfl rfl ?_); clear h; (try clear w); intro w h; (try dsimp only [putN, setN] at h))))
  refine it (fun hc => ?_) (fun hc => ?_) <;> (try simp only [decide_eq_true_eq, decide_eq_false_iff_not, beq_iff_eq, bne_iff_ne, beq_eq_false_iff_ne, bne_eq_false_iff_eq, Bool.not_eq_true', Bool.not_eq_false', ne_eq, Bool.not_eq_true, Bool.not_eq_false] at hc)
  · (repeat (first | refine nn ?_ | (refine dr h ?_; clear h; (try clear w); intro w h) | refine ld0_ h rfl rfl ?_ | refine ld1_ h rfl rfl ?_ | refine ld2_ h rfl rfl ?_ | refine ld3_ h rfl rfl ?_ | refine ld4_ h rfl rfl ?_ | refine ld5_ h rfl rfl ?_ | refine ld6_ h rfl rfl ?_ | refine ld7_ h rfl rfl ?_ | refine ld8_ h rfl rfl ?_ | refine ld9_ h rfl rfl ?_ | refine ld10_ h rfl rfl ?_ | refine ld11_ h rfl rfl ?_ | refine la0_ h rfl ?_ | refine la1_ h rfl ?_ | refine la2_ h rfl ?_ | refine la3_ h rfl ?_ | refine la4_ h rfl ?_ | refine la5_ h rfl ?_ | refine la6_ h rfl ?_ | refine la7_ h rfl ?_ | refine la8_ h rfl ?_ | refine la9_ h rfl ?_ | refine la10_ h rfl ?_ | refine la11_ h rfl ?_ | refine ck0_ h rfl ?_ | refine ck1_ h rfl ?_ | refine ck2_ h rfl ?_ | refine ck3_ h rfl ?_ | refine ck4_ h rfl ?_ | refine ck5_ h rfl ?_ | refine ck6_ h rfl ?_ | refine ck7_ h rfl ?_ | refine ck8_ h rfl ?_ | refine ck9_ h rfl ?_ | refine ck10_ h rfl ?_ | refine ck11_ h rfl ?_ | ((first | refine st0_ h rfl rfl ?_ | refine st1_ h rfl rfl ?_ | refine st2_ h rfl rfl ?_ | refine st3_ h rfl rfl ?_ | refine st4_ h rfl rfl ?_ | refine st5_ h rfl rfl ?_ | refine st6_ h rfl rfl ?_ | refine st7_ h rfl rfl ?_ | refine st8_ h rfl rfl ?_ | refine st9_ h rfl rfl ?_ | refine st10_ h rfl rfl ?_ | refine st11_ h rfl rfl ?_); clear h; (try clear w); intro w h; (try dsimp only [putN, setN] at h))))
    have hc : ¬ t.is = true := by simp [Thg.is, hc]
    rw [if_neg hc] at hk
    exact ⟨(noCfg, 0, 0, false, ()), rfl, hk w (St.again i hi (dl0_ (dl0_ h)).glue3)⟩
  · have hc : t.is = true := by simpa using hc
    rw [if_pos hc] at hk
    (repeat (first | refine nn ?_ | (refine dr h ?_; clear h; (try clear w); intro w h) | refine ld0_ h rfl rfl ?_ | refine ld1_ h rfl rfl ?_ | refine ld2_ h rfl rfl ?_ | refine ld3_ h rfl rfl ?_ | refine ld4_ h rfl rfl ?_ | refine ld5_ h rfl rfl ?_ | refine ld6_ h rfl rfl ?_ | refine ld7_ h rfl rfl ?_ | refine ld8_ h rfl rfl ?_ | refine ld9_ h rfl rfl ?_ | refine ld10_ h rfl rfl ?_ | refine ld11_ h rfl rfl ?_ | refine la0_ h rfl ?_ | refine la1_ h rfl ?_ | refine la2_ h rfl ?_ | refine la3_ h rfl ?_ | refine la4_ h rfl ?_ | refine la5_ h rfl ?_ | refine la6_ h rfl ?_ | refine la7_ h rfl ?_ | refine la8_ h rfl ?_ | refine la9_ h rfl ?_ | refine la10_ h rfl ?_ | refine la11_ h rfl ?_ | refine ck0_ h rfl ?_ | refine ck1_ h rfl ?_ | refine ck2_ h rfl ?_ | refine ck3_ h rfl ?_ | refine ck4_ h rfl ?_ | refine ck5_ h rfl ?_ | refine ck6_ h rfl ?_ | refine ck7_ h rfl ?_ | refine ck8_ h rfl ?_ | refine ck9_ h rfl ?_ | refine ck10_ h rfl ?_ | refine ck11_ h rfl ?_ | ((first | refine st0_ h rfl rfl ?_ | refine st1_ h rfl rfl ?_ | refine st2_ h rfl rfl ?_ | refine st3_ h rfl rfl ?_ | refine st4_ h rfl rfl ?_ | refine st5_ h rfl rfl ?_ | refine st6_ h rfl rfl ?_ | refine st7_ h rfl rfl ?_ | refine st8_ h rfl rfl ?_ | refine st9_ h rfl rfl ?_ | refine st10_ h rfl rfl ?_ | refine st11_ h rfl rfl ?_); clear h; (try clear w); intro w h; (try dsimp only [putN, setN] at h))))
    exact ⟨(cfgOf t, t.ver, t.gen, true, ()), rfl, hk w (St.again i hi (dl0_ (dl0_ h)).glue3)⟩
/-- its configurations' names, its routes' -/
def shNames (a : AShelf) (kind : Int) : List ByteArray := if kind = 1 then namesC a.m else if kind = 2 then namesR a.r else []
theorem S_shNames (h : St w0 E w) (i : Nat) {b : Nat} {a : AShelf} {s : Seg} (hi : nth E i = some s) (hs : ShS b a s) {kind : Int} {k : Sl → PT}
    (hk : ∀ v s' w', Rw eS T_string 1 v (shNames a kind) s' → St w0 (s' :: E) w' → k v w') :
    L.call Pr n_shelf_Shelf_Names [.pointer (some ⟨b, 0, none⟩), I kind] (.one (.one .slice)) k w := by
  obtain ⟨ok, bc, br, sc, sr, hC, hR, rfl⟩ := hs
  have hhi := ok.hi; have hfm := ok.fm; have hfr := ok.fr
  refine call_of (C_shelf_Shelf_Names _ _) ?_
  unfold F_shelf_Shelf_Names
  unfold shNames at hk
  refine it (fun h1 => ?_) (fun h1 => ?_) <;> (try simp only [decide_eq_true_eq, decide_eq_false_iff_not, beq_iff_eq, bne_iff_ne, beq_eq_false_iff_ne, bne_eq_false_iff_eq, Bool.not_eq_true', Bool.not_eq_false', ne_eq, Bool.not_eq_true, Bool.not_eq_false] at h1)
  · subst h1
    have h := (h.front i hi).split3
    (repeat (first | refine nn ?_ | (refine dr h ?_; clear h; (try clear w); intro w h) | refine ld0_ h rfl rfl ?_ | refine ld1_ h rfl rfl ?_ | refine ld2_ h rfl rfl ?_ | refine ld3_ h rfl rfl ?_ | refine ld4_ h rfl rfl ?_ | refine ld5_ h rfl rfl ?_ | refine ld6_ h rfl rfl ?_ | refine ld7_ h rfl rfl ?_ | refine ld8_ h rfl rfl ?_ | refine ld9_ h rfl rfl ?_ | refine ld10_ h rfl rfl ?_ | refine ld11_ h rfl rfl ?_ | refine la0_ h rfl ?_ | refine la1_ h rfl ?_ | refine la2_ h rfl ?_ | refine la3_ h rfl ?_ | refine la4_ h rfl ?_ | refine la5_ h rfl ?_ | refine la6_ h rfl ?_ | refine la7_ h rfl ?_ | refine la8_ h rfl ?_ | refine la9_ h rfl ?_ | refine la10_ h rfl ?_ | refine la11_ h rfl ?_ | refine ck0_ h rfl ?_ | refine ck1_ h rfl ?_ | refine ck2_ h rfl ?_ | refine ck3_ h rfl ?_ | refine ck4_ h rfl ?_ | refine ck5_ h rfl ?_ | refine ck6_ h rfl ?_ | refine ck7_ h rfl ?_ | refine ck8_ h rfl ?_ | refine ck9_ h rfl ?_ | refine ck10_ h rfl ?_ | refine ck11_ h rfl ?_ | ((first | refine st0_ h rfl rfl ?_ | refine st1_ h rfl rfl ?_ | refine st2_ h rfl rfl ?_ | refine st3_ h rfl rfl ?_ | refine st4_ h rfl rfl ?_ | refine st5_ h rfl rfl ?_ | refine st6_ h rfl rfl ?_ | refine st7_ h rfl rfl ?_ | refine st8_ h rfl rfl ?_ | refine st9_ h rfl rfl ?_ | refine st10_ h rfl rfl ?_ | refine st11_ h rfl rfl ?_); clear h; (try clear w); intro w h; (try dsimp only [putN, setN] at h))))
    refine call_of (C_shelf_rack_api_Config_names _) ?_
    unfold F_shelf_rack_api_Config_names
    refine nw h ?_; clear h; (try clear w); intro c w h
    refine ⟨⟨.func n_shelf_rack_api_Config_names_1, #[], #[.pointer (some ⟨c, 0, none⟩)]⟩, rfl, ?_⟩
    obtain ⟨r, sm, hm, rfl⟩ := hC
    have h : St w0 ([Cl c T_p_shelf_rack_api_Config [.pointer (some ⟨bc, 0, none⟩)]] :: [Cl bc T_shelf_rack_api_Config [.map (some r), .func (.func n_shelf_New_1) #[] #[]]] :: sm :: shB b bc br a.n :: sr :: delN E i) w := by
      have h : St w0 ([Cl c T_p_shelf_rack_api_Config [.pointer (some ⟨bc, 0, none⟩)]] :: shB b bc br a.n :: [Cl bc T_shelf_rack_api_Config [.map (some r), .func (.func n_shelf_New_1) #[] #[]]] :: sm :: sr :: delN E i) w := h.eq (by simp)
      have h := fr3_ (fr3_ (fr3_ (fr1_ h)))
      exact h
    have hl : (namesC a.m).length < 1000000000 := by
      have := List.length_filter_le (fun n => (tget a.m n).is) (ssort (a.m.map (·.1)))
      rw [ssort_len, List.length_map] at this
      unfold namesC; omega
    refine S_list (fv := ⟨.func n_shelf_rack_api_Config_names_1, #[], #[.pointer (some ⟨c, 0, none⟩)]⟩) (A := [_, _, _]) (Y_namesC hm (by omega)) h hl fun v s w hr h => ⟨v, rfl, hk v s w hr ?_⟩
    have h : St w0 (s :: [Cl c T_p_shelf_rack_api_Config [.pointer (some ⟨bc, 0, none⟩)]] :: [Cl bc T_shelf_rack_api_Config [.map (some r), .func (.func n_shelf_New_1) #[] #[]]] :: sm :: shB b bc br a.n :: sr :: delN E i) w := h
    have h := dl1_ h
    have h := fr4_ (fr3_ (fr3_ (fr4_ h)))
    have h : St w0 ((shB b bc br a.n ++ (([Cl bc T_shelf_rack_api_Config [.map (some r), .func (.func n_shelf_New_1) #[] #[]]] ++ sm) ++ sr)) :: s :: delN E i) w := h.eq (by simp)
    exact St.again (i + 1) (E := s :: E) hi h
  · rw [if_neg h1] at hk
    refine it (fun h2 => ?_) (fun h2 => ?_) <;> (try simp only [decide_eq_true_eq, decide_eq_false_iff_not, beq_iff_eq, bne_iff_ne, beq_eq_false_iff_ne, bne_eq_false_iff_eq, Bool.not_eq_true', Bool.not_eq_false', ne_eq, Bool.not_eq_true, Bool.not_eq_false] at h2)
    · subst h2
      have h := (h.front i hi).split3
      (repeat (first | refine nn ?_ | (refine dr h ?_; clear h; (try clear w); intro w h) | refine ld0_ h rfl rfl ?_ | refine ld1_ h rfl rfl ?_ | refine ld2_ h rfl rfl ?_ | refine ld3_ h rfl rfl ?_ | refine ld4_ h rfl rfl ?_ | refine ld5_ h rfl rfl ?_ | refine ld6_ h rfl rfl ?_ | refine ld7_ h rfl rfl ?_ | refine ld8_ h rfl rfl ?_ | refine ld9_ h rfl rfl ?_ | refine ld10_ h rfl rfl ?_ | refine ld11_ h rfl rfl ?_ | refine la0_ h rfl ?_ | refine la1_ h rfl ?_ | refine la2_ h rfl ?_ | refine la3_ h rfl ?_ | refine la4_ h rfl ?_ | refine la5_ h rfl ?_ | refine la6_ h rfl ?_ | refine la7_ h rfl ?_ | refine la8_ h rfl ?_ | refine la9_ h rfl ?_ | refine la10_ h rfl ?_ | refine la11_ h rfl ?_ | refine ck0_ h rfl ?_ | refine ck1_ h rfl ?_ | refine ck2_ h rfl ?_ | refine ck3_ h rfl ?_ | refine ck4_ h rfl ?_ | refine ck5_ h rfl ?_ | refine ck6_ h rfl ?_ | refine ck7_ h rfl ?_ | refine ck8_ h rfl ?_ | refine ck9_ h rfl ?_ | refine ck10_ h rfl ?_ | refine ck11_ h rfl ?_ | ((first | refine st0_ h rfl rfl ?_ | refine st1_ h rfl rfl ?_ | refine st2_ h rfl rfl ?_ | refine st3_ h rfl rfl ?_ | refine st4_ h rfl rfl ?_ | refine st5_ h rfl rfl ?_ | refine st6_ h rfl rfl ?_ | refine st7_ h rfl rfl ?_ | refine st8_ h rfl rfl ?_ | refine st9_ h rfl rfl ?_ | refine st10_ h rfl rfl ?_ | refine st11_ h rfl rfl ?_); clear h; (try clear w); intro w h; (try dsimp only [putN, setN] at h))))
      refine call_of (C_shelf_rack_api_Route_names _) ?_
      unfold F_shelf_rack_api_Route_names
      refine nw h ?_; clear h; (try clear w); intro c w h
      refine ⟨⟨.func n_shelf_rack_api_Route_names_1, #[], #[.pointer (some ⟨c, 0, none⟩)]⟩, rfl, ?_⟩
      obtain ⟨r, sm, Q, hm, hQ, hq, rfl⟩ := hR
      have h : St w0 ([Cl c T_p_shelf_rack_api_Route [.pointer (some ⟨br, 0, none⟩)]] :: [Cl br T_shelf_rack_api_Route [.map (some r), .func (.func n_spec_SameRoute) #[] #[]]] :: sm :: shB b bc br a.n :: sc :: (Q.map RtE.sg).flatten :: delN E i) w := by
        have h : St w0 ([Cl c T_p_shelf_rack_api_Route [.pointer (some ⟨br, 0, none⟩)]] :: shB b bc br a.n :: sc :: [Cl br T_shelf_rack_api_Route [.map (some r), .func (.func n_spec_SameRoute) #[] #[]]] :: sm :: (Q.map RtE.sg).flatten :: delN E i) w := h.eq (by simp)
        have h := fr4_ (fr4_ (fr4_ (fr2_ (fr2_ h))))
        exact h
      have hQl : Q.length = a.r.length := by rw [hq, List.length_map]
      have hl : (namesR (Q.map RtE.ka)).length < 1000000000 := by
        have := List.length_filter_le (fun n => (rget (Q.map RtE.ka) n).is) (ssort ((Q.map RtE.ka).map (·.1)))
        rw [ssort_len, List.length_map, List.length_map] at this
        unfold namesR; omega
      refine S_list (fv := ⟨.func n_shelf_rack_api_Route_names_1, #[], #[.pointer (some ⟨c, 0, none⟩)]⟩) (A := [_, _, _]) (Y_namesR hm (by omega)) h hl fun v s w hr h => ⟨v, rfl, hk v s w ?_ ?_⟩
      · rw [if_pos rfl, hq]; exact hr
      have h : St w0 (s :: [Cl c T_p_shelf_rack_api_Route [.pointer (some ⟨br, 0, none⟩)]] :: [Cl br T_shelf_rack_api_Route [.map (some r), .func (.func n_spec_SameRoute) #[] #[]]] :: sm :: shB b bc br a.n :: sc :: (Q.map RtE.sg).flatten :: delN E i) w := h
      have h := dl1_ h
      have h := fr5_ (fr5_ (fr3_ (fr3_ (fr5_ h))))
      have h : St w0 ((shB b bc br a.n ++ (sc ++ ([Cl br T_shelf_rack_api_Route [.map (some r), .func (.func n_spec_SameRoute) #[] #[]]] ++ (sm ++ (Q.map RtE.sg).flatten)))) :: s :: delN E i) w := h.eq (by simp)
      exact St.again (i + 1) (E := s :: E) hi h
    · rw [if_neg h2] at hk
      exact ⟨⟨none, 0, 0⟩, rfl, hk _ [] w Rw.nil h.nil⟩
end Go.Proofs.Ytpnbgpolbjbhpaa
