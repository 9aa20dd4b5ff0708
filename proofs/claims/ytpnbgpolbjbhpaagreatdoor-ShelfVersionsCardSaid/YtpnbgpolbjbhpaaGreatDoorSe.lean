/- Contracts of functions, and walks of laws (text Se). No conditions beyond those its theorems state. -/
import Derived.Test.YtpnbgpolbjbhpaaGreatDoorSr
set_option linter.all false
namespace Go.Proofs.YtpnbgpolbjbhpaaGreatDoor
open Go.Dm
attribute [local irreducible] L.load L.store L.chk L.new L.nonnil L.guard L.ite L.draw L.idx L.sem L.semR L.semU L.chkSem L.next L.call L.callV L.join L.alts L.loop L.begin L.endRound L.range
variable {w0 w : World} {E : List Seg}
/-! ### a shelf: configurations, routes, calls -/
structure AShelf where
  m : List (ByteArray × Thg)
  r : List (ByteArray × AThr)
  n : Int
structure AShelf.Ok (a : AShelf) : Prop where
  lo : 0 ≤ a.n
  hi : a.n < 1000000000
  gen : ∀ x, 0 ≤ (tget a.m x).gen ∧ (tget a.m x).gen ≤ a.n
  fm : a.m.length ≤ a.n
  fr : a.r.length ≤ a.n
abbrev shB (b bc br : Nat) (n : Int) : Seg := [Cl b T_shelf_Shelf [.pointer (some ⟨bc, 0, none⟩), .pointer (some ⟨br, 0, none⟩), I n]]
def ShS (b : Nat) (a : AShelf) (s : Seg) : Prop := a.Ok ∧ ∃ bc br sc sr, RackS bc a.m sc ∧ RackR br a.r sr ∧ s = shB b bc br a.n ++ (sc ++ sr)
theorem tget_put (m : List (ByteArray × Thg)) (n x : ByteArray) (t : Thg) : tget (mset m n t) x = if n = x then t else tget m x := by
  unfold tget; rw [mget_mset]; split <;> rfl
theorem rget_put (m : List (ByteArray × AThr)) (n x : ByteArray) (t : AThr) : rget (mset m n t) x = if n = x then t else rget m x := by
  unfold rget; rw [mget_mset]; split <;> rfl
theorem mset_le {κ υ : Type} [DecidableEq κ] (m : List (κ × υ)) (k : κ) (u : υ) : (mset m k u).length ≤ m.length + 1 := by
  cases h : mget m k with
  | none => rw [mset_none h]; simp
  | some v => rw [mset_len h]; omega
theorem mset_in {κ υ : Type} [DecidableEq κ] {m : List (κ × υ)} {k : κ} {u : υ} (h : (mget m k).isSome = true) : (mset m k u).length = m.length := by
  cases h2 : mget m k with
  | none => rw [h2] at h; cases h
  | some v => exact mset_len h2
def shPut (a : AShelf) (c : Cfg) (ver : Int) : AShelf × Int × Int :=
  if specC c ≠ 0 then (a, 0, specC c) else if mayC (tget a.m c.1) ver true ≠ 0 then (a, 0, mayC (tget a.m c.1) ver true) else (⟨putC a.m c.1 c (a.n + 1), a.r, a.n + 1⟩, a.n + 1, 0)
theorem S_shPut (h : St w0 E w) (i : Nat) {b : Nat} {a : AShelf} {s : Seg} (hi : nth E i = some s) (hs : ShS b a s) (hn : a.n < 900000000) {c : Cfg} {ver : Int} {k : Int × Int × Unit → PT}
    (hk : ∀ s' w', ShS b (shPut a c ver).1 s' → St w0 (setN E i s') w' → k ((shPut a c ver).2.1, (shPut a c ver).2.2, ()) w') :
    L.call Pr n_shelf_Shelf_PutConfig [.pointer (some ⟨b, 0, none⟩), .agg (Cfg.cells c).toArray, I ver] (.tup [.one (.int .i64), .one (.int .i64)]) k w := by
  have hs0 := hs
  obtain ⟨ok, bc, br, sc, sr, hC, hR, rfl⟩ := hs
  have hlo := ok.lo
  refine call_of (C_shelf_Shelf_PutConfig _ c _) ?_
  unfold F_shelf_Shelf_PutConfig
  have h := (h.front i hi).split3
  refine nw h ?_; clear h; (try clear w); intro b1 w h
  ((try dsimp only [setN] at h); repeat (first | refine nn ?_ | (refine dr h ?_; clear h; (try clear w); intro w h) | refine ldC h ?_ | refine laC h ?_ | refine ckC h ?_ | (refine stC h ?_; clear h; (try clear w); intro w h; (try dsimp only [putN, setN] at h))))
  refine S_specC (c := c) h fun w h => ?_
  unfold shPut at hk
  refine jd ?_
  refine it (fun he => ?_) (fun he => ?_) <;> (try simp only [decide_eq_true_eq, decide_eq_false_iff_not, beq_iff_eq, bne_iff_ne, beq_eq_false_iff_ne, bne_eq_false_iff_eq, Bool.not_eq_true', Bool.not_eq_false', ne_eq, Bool.not_eq_true, Bool.not_eq_false] at he)
  · ((try dsimp only [setN] at h); repeat (first | refine nn ?_ | (refine dr h ?_; clear h; (try clear w); intro w h) | refine ldC h ?_ | refine laC h ?_ | refine ckC h ?_ | (refine stC h ?_; clear h; (try clear w); intro w h; (try dsimp only [putN, setN] at h))))
    refine S_mayC h 2 rfl hC fun w h => ?_
    rw [if_neg (by simpa using he)] at hk
    refine it (fun hm => ?_) (fun hm => ?_) <;> (try simp only [decide_eq_true_eq, decide_eq_false_iff_not, beq_iff_eq, bne_iff_ne, beq_eq_false_iff_ne, bne_eq_false_iff_eq, Bool.not_eq_true', Bool.not_eq_false', ne_eq, Bool.not_eq_true, Bool.not_eq_false] at hm)
    · rw [if_pos hm] at hk
      exact ⟨_, rfl, hk _ w hs0 (St.back i hi (dl0_ h).glue3)⟩
    · rw [if_neg (by simpa using hm)] at hk
      ((try dsimp only [setN] at h); repeat (first | refine nn ?_ | (refine dr h ?_; clear h; (try clear w); intro w h) | refine ldC h ?_ | refine laC h ?_ | refine ckC h ?_ | (refine stC h ?_; clear h; (try clear w); intro w h; (try dsimp only [putN, setN] at h))))
      rw [wr (by omega) (by omega)] at h ⊢
      have hgc := ok.gen c.1
      refine S_putC (c := c) h 2 rfl hC (by omega) fun sc' w hC' h => ?_
      have h : St w0 ([Cl b1 T_api_Config (Cfg.cells c)] :: shB b bc br (a.n + 1) :: sc' :: sr :: delN E i) w := h
      ((try dsimp only [setN] at h); repeat (first | refine nn ?_ | (refine dr h ?_; clear h; (try clear w); intro w h) | refine ldC h ?_ | refine laC h ?_ | refine ckC h ?_ | (refine stC h ?_; clear h; (try clear w); intro w h; (try dsimp only [putN, setN] at h))))
      refine ⟨(a.n + 1, 0, ()), rfl, hk _ w ⟨⟨by simp only; omega, by simp only; omega, fun x => ?_, ?_, ?_⟩, bc, br, sc', sr, hC', hR, rfl⟩ (St.back i hi (dl0_ h).glue3)⟩
      · simp only [putC]
        rw [tget_put]
        have hx := ok.gen x
        split
        · simp only [thgOf, Thg.gen]
          split <;> constructor <;> (simp only [Thg.gen] at hgc ⊢; omega)
        · omega
      · have := ok.fm; have := mset_le a.m c.1 (thgOf c (a.n + 1) (if (tget a.m c.1).is = true ∧ sameC (cfgOf (tget a.m c.1)) c = true then (tget a.m c.1).gen else (tget a.m c.1).gen + 1) true)
        simp only [putC]; omega
      · have := ok.fr; simp only; omega
  · refine it (fun hm => ?_) (fun hm => ?_) <;> (try simp only [decide_eq_true_eq, decide_eq_false_iff_not, beq_iff_eq, bne_iff_ne, beq_eq_false_iff_ne, bne_eq_false_iff_eq, Bool.not_eq_true', Bool.not_eq_false', ne_eq, Bool.not_eq_true, Bool.not_eq_false] at hm)
    · rw [if_pos he] at hk
      exact ⟨_, rfl, hk _ w hs0 (St.back i hi (dl0_ h).glue3)⟩
    · exact (he hm).elim
end Go.Proofs.YtpnbgpolbjbhpaaGreatDoor
namespace Go.Proofs.YtpnbgpolbjbhpaaGreatDoor
open Go.Dm
attribute [local irreducible] L.load L.store L.chk L.new L.nonnil L.guard L.ite L.draw L.idx L.sem L.semR L.semU L.chkSem L.next L.call L.callV L.join L.alts L.loop L.begin L.endRound L.range
variable {w0 w : World} {E : List Seg}
theorem S_shNew (h : St w0 E w) {k : Option Addr → PT} (hk : ∀ b s w', ShS b ⟨[], [], 0⟩ s → St w0 (s :: E) w' → k (some ⟨b, 0, none⟩) w') : L.call Pr n_shelf_New [] (.one (.one .ptr)) k w := by
  refine call_of C_shelf_New ?_
  unfold F_shelf_New
  refine S_madeC h fun bc sc w hC h => ?_
  refine S_madeR h fun br sr w hR h => ?_
  refine nw h ?_; clear h; (try clear w); intro b w h
  refine ⟨_, rfl, hk b _ w ⟨⟨by simp, by simp, fun x => by simp [tget, mget, noThg, Thg.gen], by simp, by simp⟩, bc, br, sc, sr, hC, hR, rfl⟩ ?_⟩
  have h := fr2_ (fr2_ (fr1_ h))
  exact h.glue3
abbrev eCfg : E1 := .agg [.str, .int .i64, .int .i64, .int .i64, .int .i64, .int .i64]
def noCfg : Cfg := (s_, 0, 0, 0, 0, 0, ())
def shCfg (a : AShelf) (n : ByteArray) : Cfg × Int × Int × Bool × Unit := if (tget a.m n).is = true then (cfgOf (tget a.m n), (tget a.m n).ver, (tget a.m n).gen, true, ()) else (noCfg, 0, 0, false, ())
theorem S_shConfig (h : St w0 E w) (i : Nat) {b : Nat} {a : AShelf} {s : Seg} (hi : nth E i = some s) (hs : ShS b a s) {n : ByteArray} {k : eCfg.T × Int × Int × Bool × Unit → PT}
    (hk : ∀ w', St w0 E w' → k (shCfg a n) w') :
    L.call Pr n_shelf_Shelf_Config [.pointer (some ⟨b, 0, none⟩), .string n] (.tup [eCfg, .one (.int .i64), .one (.int .i64), .one .bool]) k w := by
  obtain ⟨ok, bc, br, sc, sr, hC, hR, rfl⟩ := hs
  refine call_of (C_shelf_Shelf_Config _ _) ?_
  unfold F_shelf_Shelf_Config
  unfold shCfg at hk
  have h := (h.front i hi).split3
  refine nw h ?_; clear h; (try clear w); intro b1 w h
  ((try dsimp only [setN] at h); repeat (first | refine nn ?_ | (refine dr h ?_; clear h; (try clear w); intro w h) | refine ldC h ?_ | refine laC h ?_ | refine ckC h ?_ | (refine stC h ?_; clear h; (try clear w); intro w h; (try dsimp only [putN, setN] at h))))
  refine S_getC h 2 rfl hC fun w h => ?_
  generalize tget a.m n = t at hk
  refine nw h ?_; clear h; (try clear w); intro b5 w h
  ((try dsimp only [setN] at h); repeat (first | refine nn ?_ | (refine dr h ?_; clear h; (try clear w); intro w h) | refine ldC h ?_ | refine laC h ?_ | refine ckC h ?_ | (refine stC h ?_; clear h; (try clear w); intro w h; (try dsimp only [putN, setN] at h))))
  refine it (fun hc => ?_) (fun hc => ?_) <;> (try simp only [decide_eq_true_eq, decide_eq_false_iff_not, beq_iff_eq, bne_iff_ne, beq_eq_false_iff_ne, bne_eq_false_iff_eq, Bool.not_eq_true', Bool.not_eq_false', ne_eq, Bool.not_eq_true, Bool.not_eq_false] at hc)
  · ((try dsimp only [setN] at h); repeat (first | refine nn ?_ | (refine dr h ?_; clear h; (try clear w); intro w h) | refine ldC h ?_ | refine laC h ?_ | refine ckC h ?_ | (refine stC h ?_; clear h; (try clear w); intro w h; (try dsimp only [putN, setN] at h))))
    have hc : ¬ t.is = true := by simp [Thg.is, hc]
    rw [if_neg hc] at hk
    exact ⟨(noCfg, 0, 0, false, ()), rfl, hk w (St.again i hi (dl0_ (dl0_ h)).glue3)⟩
  · have hc : t.is = true := by simpa using hc
    rw [if_pos hc] at hk
    ((try dsimp only [setN] at h); repeat (first | refine nn ?_ | (refine dr h ?_; clear h; (try clear w); intro w h) | refine ldC h ?_ | refine laC h ?_ | refine ckC h ?_ | (refine stC h ?_; clear h; (try clear w); intro w h; (try dsimp only [putN, setN] at h))))
    exact ⟨(cfgOf t, t.ver, t.gen, true, ()), rfl, hk w (St.again i hi (dl0_ (dl0_ h)).glue3)⟩
/-- its configurations' names, its routes' -/
def shNames (a : AShelf) (kind : Int) : List ByteArray := if kind = 1 then namesC a.m else if kind = 2 then namesR a.r else []
theorem S_shNames (h : St w0 E w) (i : Nat) {b : Nat} {a : AShelf} {s : Seg} (hi : nth E i = some s) (hs : ShS b a s) {kind : Int} {k : Sl → PT}
    (hk : ∀ v s' w', Rw eS T_string 1 v (shNames a kind) s' → St w0 (s' :: E) w' → k v w') :
    L.call Pr n_shelf_Shelf_Names [.pointer (some ⟨b, 0, none⟩), I kind] (.one (.one .slice)) k w := by
  obtain ⟨ok, bc, br, sc, sr, hC, hR, rfl⟩ := hs
  have hhi := ok.hi; have hfm := ok.fm; have hfr := ok.fr
  refine call_of (C_shelf_Shelf_Names _ _) ?_
  unfold F_shelf_Shelf_Names
  unfold shNames at hk
  refine it (fun h1 => ?_) (fun h1 => ?_) <;> (try simp only [decide_eq_true_eq, decide_eq_false_iff_not, beq_iff_eq, bne_iff_ne, beq_eq_false_iff_ne, bne_eq_false_iff_eq, Bool.not_eq_true', Bool.not_eq_false', ne_eq, Bool.not_eq_true, Bool.not_eq_false] at h1)
  · subst h1
    have h := (h.front i hi).split3
    ((try dsimp only [setN] at h); repeat (first | refine nn ?_ | (refine dr h ?_; clear h; (try clear w); intro w h) | refine ldC h ?_ | refine laC h ?_ | refine ckC h ?_ | (refine stC h ?_; clear h; (try clear w); intro w h; (try dsimp only [putN, setN] at h))))
    refine call_of (C_shelf_rack_api_Config_names _) ?_
    unfold F_shelf_rack_api_Config_names
    refine nw h ?_; clear h; (try clear w); intro c w h
    refine ⟨⟨.func n_shelf_rack_api_Config_names_1, #[], #[.pointer (some ⟨c, 0, none⟩)]⟩, rfl, ?_⟩
    obtain ⟨r, sm, hm, rfl⟩ := hC
    have h : St w0 ([Cl c T_p_shelf_rack_api_Config [.pointer (some ⟨bc, 0, none⟩)]] :: [Cl bc T_shelf_rack_api_Config [.map (some r), .func (.func n_shelf_New_1) #[] #[]]] :: sm :: shB b bc br a.n :: sr :: delN E i) w := by
      have h : St w0 ([Cl c T_p_shelf_rack_api_Config [.pointer (some ⟨bc, 0, none⟩)]] :: shB b bc br a.n :: [Cl bc T_shelf_rack_api_Config [.map (some r), .func (.func n_shelf_New_1) #[] #[]]] :: sm :: sr :: delN E i) w := h.eq (by simp)
      have h := fr3_ (fr3_ (fr3_ (fr1_ h)))
      exact h
    have hl : (namesC a.m).length < 1000000000 := by
      have := List.length_filter_le (fun n => (tget a.m n).is) (ssort (a.m.map (·.1)))
      rw [ssort_len, List.length_map] at this
      unfold namesC; omega
    refine S_list (fv := ⟨.func n_shelf_rack_api_Config_names_1, #[], #[.pointer (some ⟨c, 0, none⟩)]⟩) (A := [_, _, _]) (Y_namesC hm (by omega)) h hl fun v s w hr h => ⟨v, rfl, hk v s w hr ?_⟩
    have h : St w0 (s :: [Cl c T_p_shelf_rack_api_Config [.pointer (some ⟨bc, 0, none⟩)]] :: [Cl bc T_shelf_rack_api_Config [.map (some r), .func (.func n_shelf_New_1) #[] #[]]] :: sm :: shB b bc br a.n :: sr :: delN E i) w := h
    have h := dl1_ h
    have h := fr4_ (fr3_ (fr3_ (fr4_ h)))
    have h : St w0 ((shB b bc br a.n ++ (([Cl bc T_shelf_rack_api_Config [.map (some r), .func (.func n_shelf_New_1) #[] #[]]] ++ sm) ++ sr)) :: s :: delN E i) w := h.eq (by simp)
    exact St.again (i + 1) (E := s :: E) hi h
  · rw [if_neg h1] at hk
    refine it (fun h2 => ?_) (fun h2 => ?_) <;> (try simp only [decide_eq_true_eq, decide_eq_false_iff_not, beq_iff_eq, bne_iff_ne, beq_eq_false_iff_ne, bne_eq_false_iff_eq, Bool.not_eq_true', Bool.not_eq_false', ne_eq, Bool.not_eq_true, Bool.not_eq_false] at h2)
    · subst h2
      have h := (h.front i hi).split3
      ((try dsimp only [setN] at h); repeat (first | refine nn ?_ | (refine dr h ?_; clear h; (try clear w); intro w h) | refine ldC h ?_ | refine laC h ?_ | refine ckC h ?_ | (refine stC h ?_; clear h; (try clear w); intro w h; (try dsimp only [putN, setN] at h))))
      refine call_of (C_shelf_rack_api_Route_names _) ?_
      unfold F_shelf_rack_api_Route_names
      refine nw h ?_; clear h; (try clear w); intro c w h
      refine ⟨⟨.func n_shelf_rack_api_Route_names_1, #[], #[.pointer (some ⟨c, 0, none⟩)]⟩, rfl, ?_⟩
      obtain ⟨r, sm, Q, hm, hQ, hq, rfl⟩ := hR
      have h : St w0 ([Cl c T_p_shelf_rack_api_Route [.pointer (some ⟨br, 0, none⟩)]] :: [Cl br T_shelf_rack_api_Route [.map (some r), .func (.func n_spec_SameRoute) #[] #[]]] :: sm :: shB b bc br a.n :: sc :: (Q.map RtE.sg).flatten :: delN E i) w := by
        have h : St w0 ([Cl c T_p_shelf_rack_api_Route [.pointer (some ⟨br, 0, none⟩)]] :: shB b bc br a.n :: sc :: [Cl br T_shelf_rack_api_Route [.map (some r), .func (.func n_spec_SameRoute) #[] #[]]] :: sm :: (Q.map RtE.sg).flatten :: delN E i) w := h.eq (by simp)
        have h := fr4_ (fr4_ (fr4_ (fr2_ (fr2_ h))))
        exact h
      have hQl : Q.length = a.r.length := by rw [hq, List.length_map]
      have hl : (namesR (Q.map RtE.ka)).length < 1000000000 := by
        have := List.length_filter_le (fun n => (rget (Q.map RtE.ka) n).is) (ssort ((Q.map RtE.ka).map (·.1)))
        rw [ssort_len, List.length_map, List.length_map] at this
        unfold namesR; omega
      refine S_list (fv := ⟨.func n_shelf_rack_api_Route_names_1, #[], #[.pointer (some ⟨c, 0, none⟩)]⟩) (A := [_, _, _]) (Y_namesR hm (by omega)) h hl fun v s w hr h => ⟨v, rfl, hk v s w ?_ ?_⟩
      · rw [if_pos rfl, hq]; exact hr
      have h : St w0 (s :: [Cl c T_p_shelf_rack_api_Route [.pointer (some ⟨br, 0, none⟩)]] :: [Cl br T_shelf_rack_api_Route [.map (some r), .func (.func n_spec_SameRoute) #[] #[]]] :: sm :: shB b bc br a.n :: sc :: (Q.map RtE.sg).flatten :: delN E i) w := h
      have h := dl1_ h
      have h := fr5_ (fr5_ (fr3_ (fr3_ (fr5_ h))))
      have h : St w0 ((shB b bc br a.n ++ (sc ++ ([Cl br T_shelf_rack_api_Route [.map (some r), .func (.func n_spec_SameRoute) #[] #[]]] ++ (sm ++ (Q.map RtE.sg).flatten)))) :: s :: delN E i) w := h.eq (by simp)
      exact St.again (i + 1) (E := s :: E) hi h
    · rw [if_neg h2] at hk
      exact ⟨⟨none, 0, 0⟩, rfl, hk _ [] w Rw.nil h.nil⟩
end Go.Proofs.YtpnbgpolbjbhpaaGreatDoor
namespace Go.Proofs.YtpnbgpolbjbhpaaGreatDoor
open Go.Dm
attribute [local irreducible] L.load L.store L.chk L.new L.nonnil L.guard L.ite L.draw L.idx L.sem L.semR L.semU L.chkSem L.next L.call L.callV L.join L.alts L.loop L.begin L.endRound L.range
variable {w0 w : World} {E : List Seg}
def dropC (m : List (ByteArray × Thg)) (n : ByteArray) : List (ByteArray × Thg) := mset m n (s_, 0, 0, 0, 0, 0, 0, (tget m n).gen, false, ())
def takC (m : List (ByteArray × Thg)) (n : ByteArray) (ver : Int) : List (ByteArray × Thg) := if mayC (tget m n) ver false = 0 then dropC m n else m
theorem S_takenC (h : St w0 E w) (i : Nat) {b : Nat} {m : List (ByteArray × Thg)} {s : Seg} (hi : nth E i = some s) (hs : RackS b m s) {n : ByteArray} {ver : Int} {k : Int → PT}
    (hk : ∀ s' w', RackS b (takC m n ver) s' → St w0 (setN E i s') w' → k (mayC (tget m n) ver false) w') :
    L.call Pr n_shelf_taken_api_Config [.pointer (some ⟨b, 0, none⟩), .string n, I ver] (.one (.one (.int .i64))) k w := by
  refine call_of (C_shelf_taken_api_Config _ _ _) ?_
  unfold F_shelf_taken_api_Config
  refine S_mayC h i hi hs fun w h => ?_
  unfold takC at hk
  refine jd ?_
  refine it (fun he => ?_) (fun he => ?_) <;> (try simp only [decide_eq_true_eq, decide_eq_false_iff_not, beq_iff_eq, bne_iff_ne, beq_eq_false_iff_ne, bne_eq_false_iff_eq, Bool.not_eq_true', Bool.not_eq_false', ne_eq, Bool.not_eq_true, Bool.not_eq_false] at he)
  · refine S_dropC h i hi hs fun s' w hs' h => ?_
    rw [if_pos he] at hk
    exact ⟨_, rfl, hk s' w hs' h⟩
  · rw [if_neg he] at hk
    exact ⟨_, rfl, hk s w hs (by rwa [setN_self hi])⟩
theorem mayC_in {m : List (ByteArray × Thg)} {n : ByteArray} {ver : Int} (h : mayC (tget m n) ver false = 0) : (mget m n).isSome = true := by
  cases hg : mget m n with
  | some x => rfl
  | none => unfold mayC tget at h; rw [hg] at h; simp [noThg] at h
theorem mayR_in {m : List (ByteArray × AThr)} {n : ByteArray} {ver : Int} (h : mayV (rget m n).is (rget m n).ver ver false = 0) : (mget m n).isSome = true := by
  cases hg : mget m n with
  | some x => rfl
  | none => unfold mayV rget at h; rw [hg] at h; simp [noAThr] at h
def shDrop (a : AShelf) (kind : Int) (n : ByteArray) (ver : Int) : AShelf × Int :=
  if kind = 1 then (if mayC (tget a.m n) ver false = 0 then (⟨dropC a.m n, a.r, a.n + 1⟩, 0) else (a, mayC (tget a.m n) ver false))
  else if kind = 2 then (if mayV (rget a.r n).is (rget a.r n).ver ver false = 0 then (⟨a.m, dropRt a.r n, a.n + 1⟩, 0) else (a, mayV (rget a.r n).is (rget a.r n).ver ver false))
  else (a, 12)
theorem S_shDrop (h : St w0 E w) (i : Nat) {b : Nat} {a : AShelf} {s : Seg} (hi : nth E i = some s) (hs : ShS b a s) (hn : a.n < 900000000) {kind : Int} {n : ByteArray} {ver : Int} {k : Int → PT}
    (hk : ∀ s' w', ShS b (shDrop a kind n ver).1 s' → St w0 (setN E i s') w' → k (shDrop a kind n ver).2 w') :
    L.call Pr n_shelf_Shelf_Drop [.pointer (some ⟨b, 0, none⟩), I kind, .string n, I ver] (.one (.one (.int .i64))) k w := by
  have hs0 := hs
  obtain ⟨ok, bc, br, sc, sr, hC, hR, rfl⟩ := hs
  have hlo := ok.lo; have hfm := ok.fm; have hfr := ok.fr
  refine call_of (C_shelf_Shelf_Drop _ _ _ _) ?_
  unfold F_shelf_Shelf_Drop
  unfold shDrop at hk
  have h0 := h
  have h := (h.front i hi).split3
  refine jd ?_
  refine it (fun h1 => ?_) (fun h1 => ?_) <;> (try simp only [decide_eq_true_eq, decide_eq_false_iff_not, beq_iff_eq, bne_iff_ne, beq_eq_false_iff_ne, bne_eq_false_iff_eq, Bool.not_eq_true', Bool.not_eq_false', ne_eq, Bool.not_eq_true, Bool.not_eq_false] at h1)
  · rw [if_pos h1] at hk
    ((try dsimp only [setN] at h); repeat (first | refine nn ?_ | (refine dr h ?_; clear h; (try clear w); intro w h) | refine ldC h ?_ | refine laC h ?_ | refine ckC h ?_ | (refine stC h ?_; clear h; (try clear w); intro w h; (try dsimp only [putN, setN] at h))))
    refine S_takenC h 1 rfl hC fun sc' w hC' h => ?_
    unfold takC at hC'
    refine jd ?_
    refine it (fun he => ?_) (fun he => ?_) <;> (try simp only [decide_eq_true_eq, decide_eq_false_iff_not, beq_iff_eq, bne_iff_ne, beq_eq_false_iff_ne, bne_eq_false_iff_eq, Bool.not_eq_true', Bool.not_eq_false', ne_eq, Bool.not_eq_true, Bool.not_eq_false] at he)
    · rw [if_pos he] at hk hC'
      have h : St w0 (shB b bc br a.n :: sc' :: sr :: delN E i) w := h
      ((try dsimp only [setN] at h); repeat (first | refine nn ?_ | (refine dr h ?_; clear h; (try clear w); intro w h) | refine ldC h ?_ | refine laC h ?_ | refine ckC h ?_ | (refine stC h ?_; clear h; (try clear w); intro w h; (try dsimp only [putN, setN] at h))))
      rw [wr (by omega) (by omega)] at h
      rw [he]
      refine ⟨_, rfl, hk _ w ⟨⟨by simp only; omega, by simp only; omega, fun x => ?_, ?_, by simp only; omega⟩, bc, br, sc', sr, hC', hR, rfl⟩ (St.back i hi h.glue3)⟩
      · simp only [dropC]
        rw [tget_put]
        have hx := ok.gen x
        have hy := ok.gen n
        split
        · simp only [Thg.gen] at hy ⊢; omega
        · omega
      · simp only [dropC]; rw [mset_in (mayC_in he)]; omega
    · rw [if_neg he] at hk hC'
      exact ⟨_, rfl, hk _ w ⟨ok, bc, br, sc', sr, hC', hR, rfl⟩ (St.back i hi (St.glue3 h))⟩
  · rw [if_neg h1] at hk
    refine it (fun h2 => ?_) (fun h2 => ?_) <;> (try simp only [decide_eq_true_eq, decide_eq_false_iff_not, beq_iff_eq, bne_iff_ne, beq_eq_false_iff_ne, bne_eq_false_iff_eq, Bool.not_eq_true', Bool.not_eq_false', ne_eq, Bool.not_eq_true, Bool.not_eq_false] at h2)
    · rw [if_pos h2] at hk
      ((try dsimp only [setN] at h); repeat (first | refine nn ?_ | (refine dr h ?_; clear h; (try clear w); intro w h) | refine ldC h ?_ | refine laC h ?_ | refine ckC h ?_ | (refine stC h ?_; clear h; (try clear w); intro w h; (try dsimp only [putN, setN] at h))))
      refine S_takenR h 2 rfl hR fun sr' w hR' h => ?_
      unfold takR at hR'
      refine jd ?_
      refine it (fun he => ?_) (fun he => ?_) <;> (try simp only [decide_eq_true_eq, decide_eq_false_iff_not, beq_iff_eq, bne_iff_ne, beq_eq_false_iff_ne, bne_eq_false_iff_eq, Bool.not_eq_true', Bool.not_eq_false', ne_eq, Bool.not_eq_true, Bool.not_eq_false] at he)
      · rw [if_pos he] at hk hR'
        have h : St w0 (shB b bc br a.n :: sc :: sr' :: delN E i) w := h
        ((try dsimp only [setN] at h); repeat (first | refine nn ?_ | (refine dr h ?_; clear h; (try clear w); intro w h) | refine ldC h ?_ | refine laC h ?_ | refine ckC h ?_ | (refine stC h ?_; clear h; (try clear w); intro w h; (try dsimp only [putN, setN] at h))))
        rw [wr (by omega) (by omega)] at h
        rw [he]
        refine ⟨_, rfl, hk _ w ⟨⟨by simp only; omega, by simp only; omega, fun x => ?_, by simp only; omega, ?_⟩, bc, br, sc, sr', hC, hR', rfl⟩ (St.back i hi h.glue3)⟩
        · have hx := ok.gen x; simp only; omega
        · simp only [dropRt]; rw [mset_in (mayR_in he)]; omega
      · rw [if_neg he] at hk hR'
        exact ⟨_, rfl, hk _ w ⟨ok, bc, br, sc, sr', hC, hR', rfl⟩ (St.back i hi (St.glue3 h))⟩
    · rw [if_neg h2] at hk
      refine jd (itF (by simp) ?_)
      exact ⟨_, rfl, hk _ w hs0 (by rwa [setN_self hi])⟩
end Go.Proofs.YtpnbgpolbjbhpaaGreatDoor
