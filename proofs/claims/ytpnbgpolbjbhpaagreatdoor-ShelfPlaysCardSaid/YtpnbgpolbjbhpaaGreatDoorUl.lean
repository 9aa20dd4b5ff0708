/- Contracts of functions, and walks of laws (text Ul). No conditions beyond those its theorems state. -/
import Derived.Test.YtpnbgpolbjbhpaaGreatDoorUv
import Derived.Test.YtpnbgpolbjbhpaaGreatDoorUc
set_option linter.all false
namespace Go.Proofs.YtpnbgpolbjbhpaaGreatDoor
open Go.Dm
attribute [local irreducible] L.load L.store L.chk L.new L.nonnil L.guard L.ite L.draw L.idx L.sem L.semR L.semU L.chkSem L.next L.call L.callV L.join L.alts L.loop L.begin L.endRound L.range
variable {w0 w : World} {E : List Seg}
/-! ### ShelfPlays: what it asks -/
theorem S_version (h : St w0 E w) (i : Nat) {b : Nat} {a : AShelf} {s : Seg} (hi : nth E i = some s) (hs : RSh b a s) {kind raw : Int} {n : ByteArray} {k : Int → PT} (hk : ∀ x w', St w0 E w' → k x w') :
    L.call Pr n_damperlaw4_version [.pointer (some ⟨b, 0, none⟩), I kind, .string n, I raw] (.one (.one (.int .i64))) k w := by
  refine call_of (C_damperlaw4_version _ _ _ _) ?_
  unfold F_damperlaw4_version
  refine join_of (fun z w => St w0 E w) (fun k1 hk1 => ?_) ?_
  · refine it (fun hc => ?_) (fun hc => ?_) <;> (try simp only [decide_eq_true_eq, decide_eq_false_iff_not, beq_iff_eq, bne_iff_ne, beq_eq_false_iff_ne, bne_eq_false_iff_eq, Bool.not_eq_true', Bool.not_eq_false', ne_eq, Bool.not_eq_true, Bool.not_eq_false] at hc)
    · exact S_rConfig h i hi hs fun w h => hk1 _ w h
    · exact S_rRt h i hi hs fun v sv w hr h => hk1 _ w h.tail
  · clear h; (try clear w)
    rintro z w h
    refine nw h ?_; clear h; (try clear w); intro b5 w h
    refine S_within4 (by decide) (by decide) ?_
    have h1 := Int.emod_nonneg raw (by decide : (6 : Int) ≠ 0)
    have h2 := Int.emod_lt_of_pos raw (by decide : (0 : Int) < 6)
    have hr : Rw eI T_int 1 ⟨some ⟨b5, 0, none⟩, 6, 6⟩ [z.1, z.1, z.1, 0, IntKind.wrap .i64 (z.1 - 1), raw] [Cl b5 T_int [I z.1, I z.1, I z.1, I 0, I (IntKind.wrap .i64 (z.1 - 1)), I raw]] := Rw.lit b5 _ encI rfl rfl (by simp [maxLen])
    have r := Rw.rd encI h 0 rfl hr
    refine rd1 (v := ⟨some ⟨b5, 0, none⟩, 6, 6⟩) r encI (lf := .int .i64) (fun x => x) (fun x => ⟨_, rfl, rfl⟩) h1 h2 fun x hx => ?_
    exact ⟨_, rfl, hk x w (dl0_ h)⟩
theorem shRt_ts (a : AShelf) (hf : a.Few) (n : ByteArray) : (shRt a n).1.ts.length ≤ 6 := by
  unfold shRt
  split
  · unfold rget
    cases hg : mget a.r n with
    | none => simp [noAThr]
    | some x => exact hf (n, x) (mget_mem hg)
  · simp [noRt]
theorem S_same4 (h : St w0 E w) (i j : Nat) (hij : i ≠ j) {b b2 : Nat} {a : AShelf} {s s2 : Seg} (hi : nth E i = some s) (hs : ShS b a s) (hj : nth E j = some s2) (hs2 : RSh b2 a s2) (hf : a.Few) {k : Bool → PT} (hk : ∀ w', St w0 E w' → k true w') :
    L.call Pr n_damperlaw4_same [.pointer (some ⟨b, 0, none⟩), .pointer (some ⟨b2, 0, none⟩)] (.one (.one .bool)) k w := by
  refine call_of (C_damperlaw4_same _ _) ?_
  unfold F_damperlaw4_same
  refine nw h ?_; clear h; (try clear w); intro b1 w h
  have hr : Rw eS T_string 1 ⟨some ⟨b1, 0, none⟩, 8, 8⟩ [s_web, s_api, s_a_b, s_front, s_back, s_r_1, s_none, s_] [Cl b1 T_string [.string s_web, .string s_api, .string s_a_b, .string s_front, .string s_back, .string s_r_1, .string s_none, .string s_]] := Rw.lit b1 _ encS rfl rfl (by simp [maxLen])
  have rr : RdE w0 ([Cl b1 T_string [.string s_web, .string s_api, .string s_a_b, .string s_front, .string s_back, .string s_r_1, .string s_none, .string s_]] :: E) eS ⟨some ⟨b1, 0, none⟩, 8, 8⟩ [s_web, s_api, s_a_b, s_front, s_back, s_r_1, s_none, s_] := Rw.re encS 0 rfl hr
  clear hr
  generalize [Cl b1 T_string [.string s_web, .string s_api, .string s_a_b, .string s_front, .string s_back, .string s_r_1, .string s_none, .string s_]] = B at *
  refine loop_of (fun q y w => ∃ m : Nat, y = ((m : Int), ()) ∧ q + m = 8 ∧ St w0 (B :: E) w) 8 ⟨0, rfl, rfl, h⟩ ?_
  clear h; (try clear w)
  rintro q y w ⟨m, rfl, hq, h⟩ again hag
  dsimp only
  refine it (fun hb => ?_) (fun hb => ?_) <;> (try simp only [decide_eq_true_eq, decide_eq_false_iff_not, beq_iff_eq, bne_iff_ne, beq_eq_false_iff_ne, bne_eq_false_iff_eq, Bool.not_eq_true', Bool.not_eq_false', ne_eq, Bool.not_eq_true, Bool.not_eq_false] at hb)
  · obtain ⟨n, hn⟩ : ∃ n, [s_web, s_api, s_a_b, s_front, s_back, s_r_1, s_none, s_][m]? = some n := ⟨_, List.getElem?_eq_getElem (by simp; omega)⟩
    have step : ∀ {F : List Seg} {w : World} {kk : ByteArray → PT}, St w0 (F ++ (B :: E)) w → kk n w → L.idx (some ⟨b1, 0, none⟩) (m : Int) 8 1 (fun a => L.load (.one .str) a kk) w := by
      intro F w kk h hk
      have hd : St w0 (B :: E) w := by
        induction F with
        | nil => exact h
        | cons x F ih => exact ih h.tail
      refine rd1 (v := ⟨some ⟨b1, 0, none⟩, 8, 8⟩) (rr w hd) encS (lf := .str) (fun x => x) (fun x => ⟨_, rfl, rfl⟩) (by omega) (by simp; omega) fun x hx => ?_
      rw [Int.toNat_natCast, hn] at hx
      cases hx; exact hk
    clear hn rr
    refine step (F := []) h ?_
    refine S_shConfig h (i + 1) hi hs fun w h => ?_
    have hl6 := shRt_ts a hf n
    refine nw h ?_; clear h; (try clear w); intro b7 w h
    ((try dsimp only [setN] at h); repeat (first | refine nn ?_ | (refine dr h ?_; clear h; (try clear w); intro w h) | refine ldC h ?_ | refine laC h ?_ | refine ckC h ?_ | (refine stC h ?_; clear h; (try clear w); intro w h; (try dsimp only [putN, setN] at h)) | rw [add_add]))
    refine step (F := [_]) h ?_
    refine S_rConfig h (j + 2) hj hs2 fun w h => ?_
    refine nw h ?_; clear h; (try clear w); intro b11 w h
    ((try dsimp only [setN] at h); repeat (first | refine nn ?_ | (refine dr h ?_; clear h; (try clear w); intro w h) | refine ldC h ?_ | refine laC h ?_ | refine ckC h ?_ | (refine stC h ?_; clear h; (try clear w); intro w h; (try dsimp only [putN, setN] at h)) | rw [add_add]))
    refine step (F := [_, _]) h ?_
    refine S_shRoute h (i + 3) hi hs hf fun v1 t1 w hr1 h => ?_
    generalize shCfg a n = cc at *
    refine nw h ?_; clear h; (try clear w); intro b15 w h
    ((try dsimp only [setN] at h); repeat (first | refine nn ?_ | (refine dr h ?_; clear h; (try clear w); intro w h) | refine ldC h ?_ | refine laC h ?_ | refine ckC h ?_ | (refine stC h ?_; clear h; (try clear w); intro w h; (try dsimp only [putN, setN] at h)) | rw [add_add]))
    refine step (F := [_, _, _, _]) h ?_
    refine S_rRt h (j + 5) hj hs2 fun v2 t2 w hr2 h => ?_
    generalize shRt a n = rr at *
    refine nw h ?_; clear h; (try clear w); intro b19 w h
    ((try dsimp only [setN] at h); repeat (first | refine nn ?_ | (refine dr h ?_; clear h; (try clear w); intro w h) | refine ldC h ?_ | refine laC h ?_ | refine ckC h ?_ | (refine stC h ?_; clear h; (try clear w); intro w h; (try dsimp only [putN, setN] at h)) | rw [add_add]))
    refine jd ?_
    ((try dsimp only [setN] at h); repeat (first | refine nn ?_ | (refine dr h ?_; clear h; (try clear w); intro w h) | refine ldC h ?_ | refine laC h ?_ | refine ckC h ?_ | (refine stC h ?_; clear h; (try clear w); intro w h; (try dsimp only [putN, setN] at h)) | rw [add_add]))
    unfold L.chkSem
    refine ⟨by have := ne_cfg cc.1 cc.1 w; exact this, ?_⟩
    refine itF (by have := sameC_self cc.1; exact (Bool.not_eq_false' _).mpr this) ?_
    refine itF (by simp) (itF (by simp) (itF (by simp) ?_))
    ((try dsimp only [setN] at h); repeat (first | refine nn ?_ | (refine dr h ?_; clear h; (try clear w); intro w h) | refine ldC h ?_ | refine laC h ?_ | refine ckC h ?_ | (refine stC h ?_; clear h; (try clear w); intro w h; (try dsimp only [putN, setN] at h)) | rw [add_add]))
    refine S_rsameR (a := rr.1) (b := rr.1) h (Rw.re encT 3 rfl hr1) (Rw.re encT 1 rfl hr2) (by omega) fun c w hc h => ?_
    rw [hc.2 rfl]
    refine itF rfl (itF (by simp) (itF (by simp) ?_))
    rw [wr (by omega) (by omega)]
    exact hag (q - 1) _ w (by omega) ⟨m + 1, by simp, by omega, dl0_ (dl0_ (dl0_ (dl0_ (dl0_ (dl0_ h)))))⟩
  · refine loop_of (fun q y w => ∃ m : Nat, y = ((m : Int), ()) ∧ q + m = 4 ∧ St w0 (B :: E) w) 4 ⟨0, rfl, rfl, h⟩ ?_
    clear hag again hq hb rr
    clear h; (try clear w)
    rintro q y w ⟨m, rfl, hq, h⟩ again hag
    dsimp only
    obtain ⟨ok, -⟩ := id hs
    have hhi := ok.hi; have hfm := ok.fm; have hfr := ok.fr
    refine it (fun hb => ?_) (fun hb => ?_) <;> (try simp only [decide_eq_true_eq, decide_eq_false_iff_not, beq_iff_eq, bne_iff_ne, beq_eq_false_iff_ne, bne_eq_false_iff_eq, Bool.not_eq_true', Bool.not_eq_false', ne_eq, Bool.not_eq_true, Bool.not_eq_false] at hb)
    · refine S_shNames h (i + 1) hi hs fun v1 t1 w hr1 h => ?_
      refine S_rNames h (j + 2) hj hs2 fun v2 t2 w hr2 h => ?_
      refine S_Same h (Rw.re encS 1 rfl hr1) (Rw.re encS 0 rfl hr2) ?_ fun w h => ?_
      · unfold shNames
        split
        · unfold namesC
          have := List.length_filter_le (fun n => (tget a.m n).is) (ssort (a.m.map (·.1)))
          rw [ssort_len, List.length_map] at this; omega
        · split
          · unfold namesR
            have := List.length_filter_le (fun n => (rget a.r n).is) (ssort (a.r.map (·.1)))
            rw [ssort_len, List.length_map] at this; omega
          · simp
      refine itF (by simp) ?_
      rw [wr (by omega) (by omega)]
      exact hag (q - 1) _ w (by omega) ⟨m + 1, by simp, by omega, dl0_ (dl0_ h)⟩
    · exact ⟨_, rfl, hk w (dl0_ h)⟩
end Go.Proofs.YtpnbgpolbjbhpaaGreatDoor
