/- Contracts of functions, and walks of laws (text Sh). No conditions beyond those its theorems state. -/
import Derived.Test.YtpnbgpolbjbhpaaGreatDoorSe
set_option linter.all false
namespace Go.Proofs.YtpnbgpolbjbhpaaGreatDoor
open Go.Dm
attribute [local irreducible] L.load L.store L.chk L.new L.nonnil L.guard L.ite L.draw L.idx L.sem L.semR L.semU L.chkSem L.next L.call L.callV L.join L.alts L.loop L.begin L.endRound L.range
variable {w0 w : World} {E : List Seg}
/-! ### chapter 4's laws: what they share -/
theorem S_within4 {p0 p1 : Int} (h : 0 < p1) (hp : p1 ≤ 2147483648) {k : Int → PT} (hk : k (p0 % p1) w) : L.call Pr n_damperlaw4_within [I p0, I p1] (.one (.one (.int .i64))) k w := by
  refine call_of (C_damperlaw4_within p0 p1) ?_
  unfold F_damperlaw4_within
  refine gd (by omega) ?_
  have h1 := Int.emod_nonneg p0 (by omega : p1 ≠ 0)
  have h2 := Int.emod_lt_of_pos p0 h
  have e := tmod_within p0 p1 h
  refine join_of (fun z w' => z.1 = p0 % p1 ∧ w' = w) (fun k' hk' => ?_) (fun y w' ⟨h1, h2⟩ => by subst h2; exact ⟨_, rfl, by rw [h1]; exact hk⟩)
  refine it (fun hb => ?_) (fun hb => ?_) <;> (try simp only [decide_eq_true_eq, decide_eq_false_iff_not, beq_iff_eq, bne_iff_ne, beq_eq_false_iff_ne, bne_eq_false_iff_eq, Bool.not_eq_true', Bool.not_eq_false', ne_eq, Bool.not_eq_true, Bool.not_eq_false] at hb)
  · refine hk' _ _ ⟨?_, rfl⟩
    rw [e] at hb
    dsimp only
    rw [e]
    split at hb <;> rename_i hc
    · omega
    · rw [if_neg hc, wr] <;> omega
  · refine hk' _ _ ⟨?_, rfl⟩
    rw [e] at hb
    dsimp only
    rw [e]
    split at hb <;> rename_i hc
    · rw [if_pos hc]
    · omega
theorem S_within2 {p0 p1 : Int} (h : 0 < p1) (hp : p1 ≤ 2147483648) {k : Int → PT} (hk : k (p0 % p1) w) : L.call Pr n_damperlaw2_within [I p0, I p1] (.one (.one (.int .i64))) k w := by
  refine call_of (C_damperlaw2_within p0 p1) ?_
  unfold F_damperlaw2_within
  refine gd (by omega) ?_
  have h1 := Int.emod_nonneg p0 (by omega : p1 ≠ 0)
  have h2 := Int.emod_lt_of_pos p0 h
  have e := tmod_within p0 p1 h
  refine join_of (fun z w' => z.1 = p0 % p1 ∧ w' = w) (fun k' hk' => ?_) (fun y w' ⟨h1, h2⟩ => by subst h2; exact ⟨_, rfl, by rw [h1]; exact hk⟩)
  refine it (fun hb => ?_) (fun hb => ?_) <;> (try simp only [decide_eq_true_eq, decide_eq_false_iff_not, beq_iff_eq, bne_iff_ne, beq_eq_false_iff_ne, bne_eq_false_iff_eq, Bool.not_eq_true', Bool.not_eq_false', ne_eq, Bool.not_eq_true, Bool.not_eq_false] at hb)
  · refine hk' _ _ ⟨?_, rfl⟩
    rw [e] at hb
    dsimp only
    rw [e]
    split at hb <;> rename_i hc
    · omega
    · rw [if_neg hc, wr] <;> omega
  · refine hk' _ _ ⟨?_, rfl⟩
    rw [e] at hb
    dsimp only
    rw [e]
    split at hb <;> rename_i hc
    · rw [if_pos hc]
    · omega
/-- one of three names -/
def lname (n : Int) : ByteArray := ([s_web, s_api, s_a_b][(n % 3).toNat]?).getD s_
/-- one that may be, of a raw one -/
def lcfg (c : Cfg) (n : Int) : Cfg := (lname n, c.2.1 % 256, 1 + c.2.2.1 % 8, c.2.2.2.1 % (1 + c.2.2.2.2.1 % 10 + 1), 1 + c.2.2.2.2.1 % 10, c.2.2.2.2.2.1 % 31, ())
theorem S_lConfig (h : St w0 E w) {c : Cfg} {n : Int} {k : eCfg.T → PT} (hk : ∀ w', St w0 E w' → k (lcfg c n) w') : L.call Pr n_damperlaw2_Config [.agg (Cfg.cells c).toArray, I n] (.one eCfg) k w := by
  refine call_of (C_damperlaw2_Config c n) ?_
  unfold F_damperlaw2_Config
  refine nw h ?_; clear h; (try clear w); intro b1 w h
  refine nw h ?_; clear h; (try clear w); intro b2 w h
  refine nw h ?_; clear h; (try clear w); intro b3 w h
  refine S_within2 (by decide) (by decide) ?_
  have h1 := Int.emod_nonneg n (by decide : (3 : Int) ≠ 0)
  have h2 := Int.emod_lt_of_pos n (by decide : (0 : Int) < 3)
  have hr : Rw eS T_string 1 ⟨some ⟨b3, 0, none⟩, 3, 3⟩ [s_web, s_api, s_a_b] [Cl b3 T_string [.string s_web, .string s_api, .string s_a_b]] := Rw.lit b3 _ encS rfl rfl (by simp [maxLen])
  have hx : [s_web, s_api, s_a_b][(n % 3).toNat]? = some (lname n) := by
    unfold lname
    have : (n % 3).toNat < 3 := by omega
    rw [List.getElem?_eq_getElem (by simpa using this)]; rfl
  refine Rw.ix (v := ⟨some ⟨b3, 0, none⟩, 3, 3⟩) (l := [s_web, s_api, s_a_b]) encS hr h1 (show (n % 3).toNat < 3 by omega) fun a ha => ?_
  refine Rw.ld0 encS h 0 rfl hr ha hx rfl rfl ?_
  ((try dsimp only [setN] at h); repeat (first | refine nn ?_ | (refine dr h ?_; clear h; (try clear w); intro w h) | refine ldC h ?_ | refine laC h ?_ | refine ckC h ?_ | (refine stC h ?_; clear h; (try clear w); intro w h; (try dsimp only [putN, setN] at h))))
  refine S_within2 (by decide) (by decide) ?_
  ((try dsimp only [setN] at h); repeat (first | refine nn ?_ | (refine dr h ?_; clear h; (try clear w); intro w h) | refine ldC h ?_ | refine laC h ?_ | refine ckC h ?_ | (refine stC h ?_; clear h; (try clear w); intro w h; (try dsimp only [putN, setN] at h))))
  refine S_within2 (by decide) (by decide) ?_
  rw [wr (by omega) (by omega)]
  ((try dsimp only [setN] at h); repeat (first | refine nn ?_ | (refine dr h ?_; clear h; (try clear w); intro w h) | refine ldC h ?_ | refine laC h ?_ | refine ckC h ?_ | (refine stC h ?_; clear h; (try clear w); intro w h; (try dsimp only [putN, setN] at h))))
  refine S_within2 (by decide) (by decide) ?_
  rw [wr (by omega) (by omega)]
  ((try dsimp only [setN] at h); repeat (first | refine nn ?_ | (refine dr h ?_; clear h; (try clear w); intro w h) | refine ldC h ?_ | refine laC h ?_ | refine ckC h ?_ | (refine stC h ?_; clear h; (try clear w); intro w h; (try dsimp only [putN, setN] at h))))
  rw [wr (by omega) (by omega)]
  refine S_within2 (by omega) (by omega) ?_
  ((try dsimp only [setN] at h); repeat (first | refine nn ?_ | (refine dr h ?_; clear h; (try clear w); intro w h) | refine ldC h ?_ | refine laC h ?_ | refine ckC h ?_ | (refine stC h ?_; clear h; (try clear w); intro w h; (try dsimp only [putN, setN] at h))))
  refine S_within2 (by decide) (by decide) ?_
  ((try dsimp only [setN] at h); repeat (first | refine nn ?_ | (refine dr h ?_; clear h; (try clear w); intro w h) | refine ldC h ?_ | refine laC h ?_ | refine ckC h ?_ | (refine stC h ?_; clear h; (try clear w); intro w h; (try dsimp only [putN, setN] at h))))
  exact ⟨lcfg c n, rfl, hk w (dl0_ (dl0_ (dl0_ h)))⟩
theorem lname_ok (n : Int) : shortB (lname n).data.toList 16 = true := by
  have h1 := Int.emod_nonneg n (by decide : (3 : Int) ≠ 0)
  have h2 := Int.emod_lt_of_pos n (by decide : (0 : Int) < 3)
  unfold lname
  have : (n % 3).toNat = 0 ∨ (n % 3).toNat = 1 ∨ (n % 3).toNat = 2 := by omega
  rcases this with h | h | h <;> rw [h] <;> decide
theorem lcfg_num {nm : ByteArray} (im co mi ma gr : Int) : cfgNum (nm, im % 256, 1 + co % 8, mi % (1 + ma % 10 + 1), 1 + ma % 10, gr % 31, ()) = true := by
  have h1 := Int.emod_nonneg mi (show 1 + ma % 10 + 1 ≠ 0 by omega)
  have h2 := Int.emod_lt_of_pos mi (show 0 < 1 + ma % 10 + 1 by omega)
  have e : cfgNum (nm, im % 256, 1 + co % 8, mi % (1 + ma % 10 + 1), 1 + ma % 10, gr % 31, ()) = (decide (0 ≤ im % 256 ∧ im % 256 ≤ 255) && (decide (1 ≤ 1 + co % 8 ∧ 1 + co % 8 ≤ 8) && (decide (1 ≤ 1 + ma % 10 ∧ 1 + ma % 10 ≤ 10) && (decide (0 ≤ mi % (1 + ma % 10 + 1) ∧ mi % (1 + ma % 10 + 1) ≤ 1 + ma % 10) && decide (0 ≤ gr % 31 ∧ gr % 31 ≤ 30))))) := rfl
  rw [e]
  simp only [Bool.and_eq_true, decide_eq_true_eq]
  omega
theorem lcfg_ok (c : Cfg) (n : Int) : specC (lcfg c n) = 0 := by
  unfold specC
  rw [if_pos (show shortB (lcfg c n).1.data.toList 16 = true from lname_ok n), if_pos]
  exact lcfg_num c.2.1 c.2.2.1 c.2.2.2.1 c.2.2.2.2.1 c.2.2.2.2.2.1
theorem S_known4 (h : St w0 E w) {k : Bool → PT} (hk : ∀ w', St w0 E w' → k true w') : L.call Pr n_damperlaw4_known [] (.one (.one .bool)) k w := by
  refine call_of C_damperlaw4_known ?_
  unfold F_damperlaw4_known
  refine S_shNew h fun b s w hs h => itF rfl ?_
  refine S_shNames h 0 rfl hs fun v sv w hr h => ?_
  have hl := Rw.len encS hr
  have e1 : shNames ⟨[], [], 0⟩ 1 = [] := by simp [shNames, namesC, ssort_nil]
  rw [e1] at hl
  refine itF (by rw [hl]; rfl) ?_
  have e2 : shPut ⟨[], [], 0⟩ (s_a, 0, 1, 0, 1, 0, ()) 0 = (⟨[(s_a, (s_a, 0, 1, 0, 1, 0, 1, 1, true, ()))], [], 1⟩, 1, 0) := by rfl
  refine S_shPut (c := (s_a, 0, 1, 0, 1, 0, ())) h 1 rfl hs (by decide) fun s w hs h => ?_
  rw [e2] at hs ⊢
  refine S_shConfig h 1 rfl hs fun w h => ?_
  have e3 : shCfg ⟨[(s_a, (s_a, 0, 1, 0, 1, 0, 1, 1, true, ()))], [], 1⟩ s_a = ((s_a, 0, 1, 0, 1, 0, ()), 1, 1, true, ()) := by rfl
  rw [e3]
  refine nw h ?_; clear h; (try clear w); intro b5 w h
  ((try dsimp only [setN] at h); repeat (first | refine nn ?_ | (refine dr h ?_; clear h; (try clear w); intro w h) | refine ldC h ?_ | refine laC h ?_ | refine ckC h ?_ | (refine stC h ?_; clear h; (try clear w); intro w h; (try dsimp only [putN, setN] at h))))
  refine itT rfl (itT rfl (itT rfl (itT rfl (itT rfl ?_))))
  ((try dsimp only [setN] at h); repeat (first | refine nn ?_ | (refine dr h ?_; clear h; (try clear w); intro w h) | refine ldC h ?_ | refine laC h ?_ | refine ckC h ?_ | (refine stC h ?_; clear h; (try clear w); intro w h; (try dsimp only [putN, setN] at h))))
  refine itT (by rw [str_eq]; rfl) ?_
  refine S_shNames h 2 rfl hs fun v sv w hr h => ?_
  have hl := Rw.len encS hr
  have e1 : (shNames ⟨[(s_a, (s_a, 0, 1, 0, 1, 0, 1, 1, true, ()))], [], 1⟩ 1).length = 1 := by simp [shNames, namesC, ssort_one, tget, mget]
  rw [e1] at hl
  refine ⟨true, by rw [hl]; rfl, hk w ?_⟩
  have h := dl0_ (dl1_ (dl2_ (dl3_ h)))
  exact h
end Go.Proofs.YtpnbgpolbjbhpaaGreatDoor
