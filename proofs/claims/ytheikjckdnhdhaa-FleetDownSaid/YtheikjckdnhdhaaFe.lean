/- Contracts of functions, and walks of laws (text Fe). No conditions beyond those its theorems state. -/
import Derived.Test.YtheikjckdnhdhaaFd
set_option linter.all false
namespace Go.Proofs.Ytheikjckdnhdhaa
open Go.Dm
attribute [local irreducible] L.load L.store L.chk L.new L.nonnil L.guard L.ite L.draw L.idx L.sem L.semR L.semU L.chkSem L.next L.call L.callV L.join L.alts L.loop L.begin L.endRound L.range
variable {w0 w : World} {E : List Seg}
theorem Rd.ckI {w' : World} {v : Sl} {l : List Int} (r : Rd w' eI v l) {i : Nat} {a : Addr} (ha : ElA v 1 i a) {x : Int} (hx : l[i]? = some x) {k : PT} (hk : k w') : L.chk a [I x] k w' := by
  have h := r.ld0 encI ha hx (lf := .int .i64) (kk := fun (y : Int) w => y = x ∧ k w) (w := w') (u := I x) (y := x) rfl rfl ⟨rfl, hk⟩
  unfold L.load at h
  obtain ⟨y, hc, rfl, hk⟩ := h
  unfold L.chk
  exact ⟨hc, hk⟩
/-! ### chapter 11's laws: what they share -/
theorem S_within {p0 p1 : Int} (h : 0 < p1) (hp : p1 ≤ 2147483648) {k : Int → PT} (hk : k (p0 % p1) w) : L.call Pr n_damperlaw11_within [I p0, I p1] (.one (.one (.int .i64))) k w := by
  refine call_of (C_damperlaw11_within p0 p1) ?_
  unfold F_damperlaw11_within
  refine gd (by omega) ?_
  have h1 := Int.emod_nonneg p0 (by omega : p1 ≠ 0)
  have h2 := Int.emod_lt_of_pos p0 h
  have e := tmod_within p0 p1 h
  refine join_of (fun z w' => z.1 = p0 % p1 ∧ w' = w) (fun k' hk' => ?_) (fun y w' ⟨h1, h2⟩ => by subst h2; exact ⟨_, rfl, by rw [h1]; exact hk⟩)
  refine it (fun hb => ?_) (fun hb => ?_) <;> (try simp only [decide_eq_true_eq, decide_eq_false_iff_not, beq_iff_eq, bne_iff_ne, beq_eq_false_iff_ne, bne_eq_false_iff_eq, Bool.not_eq_true', Bool.not_eq_false', ne_eq, Bool.not_eq_true, Bool.not_eq_false] at hb)
  · refine hk' _ _ ⟨?_, rfl⟩
    rw [e] at hb
    dsimp only
    rw [e]
    split at hb <;> rename_i hc
    · omega
    · rw [if_neg hc, wr] <;> omega
  · refine hk' _ _ ⟨?_, rfl⟩
    rw [e] at hb
    dsimp only
    rw [e]
    split at hb <;> rename_i hc
    · rw [if_pos hc]
    · omega
def eS (x : ByteArray) : List Value := [.string x]
theorem encS : Enc eS 1 := ⟨fun _ => rfl, fun _ => rfl, by decide⟩
theorem S_revs (h : St w0 E w) {k : Sl → PT} (hk : ∀ v s w', Rw eS T_string 1 v [s_a_1, s_a_2, s_b_1] s → St w0 (s :: E) w' → k v w') : L.call Pr n_damperlaw11_revs [] (.one (.one .slice)) k w := by
  refine call_of C_damperlaw11_revs ?_
  unfold F_damperlaw11_revs
  refine nw h ?_; clear h; (try clear w); intro b w h
  exact ⟨⟨some ⟨b, 0, none⟩, 3, 3⟩, rfl, hk _ _ w (Rw.lit b [s_a_1, s_a_2, s_b_1] encS rfl rfl (by simp [maxLen])) h⟩
theorem S_known (h : St w0 E w) {k : Bool → PT} (hk : ∀ w', St w0 E w' → k true w') : L.call Pr n_damperlaw11_known [] (.one (.one .bool)) k w := by
  refine call_of C_damperlaw11_known ?_
  unfold F_damperlaw11_known
  refine S_fNew h fun b s w hf h => itF rfl ?_
  refine S_fLive h 0 rfl hf (itF rfl ?_)
  refine S_fScale h 0 rfl hf (by decide) (by decide) fun v1 v2 s s1 s2 w hf hr1 hr2 h => ?_
  have e1 : fMade ⟨3, 0, []⟩ s_a_1 1 = [1] := by decide
  have e2 : (fScale ⟨3, 0, []⟩ s_a_1 2 1) = (⟨3, 1, [⟨1, s_a_1, ⟨1, 2, []⟩⟩]⟩, []) := by rfl
  rw [e1] at hr1
  rw [e2] at hf hr2
  have hl1 := Rw.len encI hr1
  have hl2 := Rw.len encI hr2
  refine itT (by simp [hl1]) ?_
  refine Rw.ix encI hr1 (by omega) (by simp) fun a ha => ?_
  refine Rw.ld0 encI h 1 rfl hr1 ha (x := 1) rfl rfl rfl ?_
  refine itT rfl (itT (by simp [hl2]) ?_)
  refine S_fLive h 2 rfl hf (itT rfl ?_)
  refine S_fOf h 2 rfl hf (itT ?_ ?_)
  · rw [str_eq]; rfl
  refine S_fUp h 2 rfl hf (fun h => by cases h) fun x hx s w hf h => ?_
  cases hx
  refine ⟨true, rfl, hk w ?_⟩
  have h := dl0_ (dl1_ (dl2_ h))
  exact h
end Go.Proofs.Ytheikjckdnhdhaa
