/- Contracts of functions, and walks of laws (text In). No conditions beyond those its theorems state. -/
import Derived.Test.YtheikjckdnhdhaaBa
set_option linter.all false
namespace Go.Proofs.Ytheikjckdnhdhaa
open Go.Dm
attribute [local irreducible] L.load L.store L.chk L.new L.nonnil L.guard L.ite L.draw L.idx L.sem L.semR L.semU L.chkSem L.next L.call L.callV L.join L.alts L.loop L.begin L.endRound L.range
variable {w0 w : World} {E : List Seg}
theorem eq_of_take {l1 l2 : List Int} (hl : l1.length = l2.length) : l1.take l1.length = l2.take l1.length ↔ l1 = l2 := by rw [List.take_length, hl, List.take_length]
theorem S_Ints (h : St w0 E w) {v1 v2 : Sl} {l1 l2 : List Int} (r1 : RdE w0 E eI v1 l1) (r2 : RdE w0 E eI v2 l2) (hn : l1.length < 1000000000) {k : Bool → PT} (hk : ∀ w', St w0 E w' → k (decide (l1 = l2)) w') :
    L.call Pr n_damperlaw8_Ints [SlV v1, SlV v2] (.one (.one .bool)) k w := by
  refine call_of (C_damperlaw8_Ints _ _) ?_
  unfold F_damperlaw8_Ints
  have e1 := (r1 w h).len
  have e2 := (r2 w h).len
  refine it (fun hb => ?_) (fun hb => ?_) <;> (try simp only [decide_eq_true_eq, decide_eq_false_iff_not, beq_iff_eq, bne_iff_ne, beq_eq_false_iff_ne, bne_eq_false_iff_eq, Bool.not_eq_true', Bool.not_eq_false', ne_eq, Bool.not_eq_true, Bool.not_eq_false] at hb)
  · refine ⟨false, rfl, ?_⟩
    have : decide (l1 = l2) = false := decide_eq_false (fun e => hb (by rw [e1, e2, e]))
    rw [← this]; exact hk w h
  have hl : l1.length = l2.length := by omega
  refine loop_of (fun q y w => ∃ m : Nat, y = ((m : Int), ()) ∧ q + m = l1.length ∧ l1.take m = l2.take m ∧ St w0 E w) l1.length ⟨0, rfl, rfl, rfl, h⟩ ?_
  clear h; (try clear w)
  rintro q y w ⟨m, rfl, hq, hf, h⟩ again hag
  dsimp only
  refine it (fun hc => ?_) (fun hc => ?_) <;> (try simp only [decide_eq_true_eq, decide_eq_false_iff_not, beq_iff_eq, bne_iff_ne, beq_eq_false_iff_ne, bne_eq_false_iff_eq, Bool.not_eq_true', Bool.not_eq_false', ne_eq, Bool.not_eq_true, Bool.not_eq_false] at hc)
  · have hm : m < l1.length := by omega
    have hx : l1[m]? = some l1[m] := List.getElem?_eq_getElem hm
    have hy : l2[m]? = some l2[m] := List.getElem?_eq_getElem (by omega)
    (repeat (first | refine nn ?_ | (refine dr h ?_; clear h; (try clear w); intro w h) | refine ld0_ h rfl rfl ?_ | refine ld1_ h rfl rfl ?_ | refine ld2_ h rfl rfl ?_ | refine ld3_ h rfl rfl ?_ | refine ld4_ h rfl rfl ?_ | refine ld5_ h rfl rfl ?_ | refine ld6_ h rfl rfl ?_ | refine ld7_ h rfl rfl ?_ | refine ld8_ h rfl rfl ?_ | refine ld9_ h rfl rfl ?_ | refine ld10_ h rfl rfl ?_ | refine ld11_ h rfl rfl ?_ | refine la0_ h rfl ?_ | refine la1_ h rfl ?_ | refine la2_ h rfl ?_ | refine la3_ h rfl ?_ | refine la4_ h rfl ?_ | refine la5_ h rfl ?_ | refine la6_ h rfl ?_ | refine la7_ h rfl ?_ | refine la8_ h rfl ?_ | refine la9_ h rfl ?_ | refine la10_ h rfl ?_ | refine la11_ h rfl ?_ | refine ck0_ h rfl ?_ | refine ck1_ h rfl ?_ | refine ck2_ h rfl ?_ | refine ck3_ h rfl ?_ | refine ck4_ h rfl ?_ | refine ck5_ h rfl ?_ | refine ck6_ h rfl ?_ | refine ck7_ h rfl ?_ | refine ck8_ h rfl ?_ | refine ck9_ h rfl ?_ | refine ck10_ h rfl ?_ | refine ck11_ h rfl ?_ | ((first | refine st0_ h rfl rfl ?_ | refine st1_ h rfl rfl ?_ | refine st2_ h rfl rfl ?_ | refine st3_ h rfl rfl ?_ | refine st4_ h rfl rfl ?_ | refine st5_ h rfl rfl ?_ | refine st6_ h rfl rfl ?_ | refine st7_ h rfl rfl ?_ | refine st8_ h rfl rfl ?_ | refine st9_ h rfl rfl ?_ | refine st10_ h rfl rfl ?_ | refine st11_ h rfl rfl ?_); clear h; (try clear w); intro w h; (try dsimp only [putN, setN] at h))))
    refine (r1 w h).ix encI (by omega) (by simpa using hm) fun a ha => ?_
    refine (r1 w h).ld0 encI ha (x := l1[m]) (by simpa using hx) rfl rfl ?_
    refine (r2 w h).ix encI (by omega) (by simp; omega) fun a ha => ?_
    refine (r2 w h).ld0 encI ha (x := l2[m]) (by simpa using hy) rfl rfl ?_
    refine it (fun hd => ?_) (fun hd => ?_) <;> (try simp only [decide_eq_true_eq, decide_eq_false_iff_not, beq_iff_eq, bne_iff_ne, beq_eq_false_iff_ne, bne_eq_false_iff_eq, Bool.not_eq_true', Bool.not_eq_false', ne_eq, Bool.not_eq_true, Bool.not_eq_false] at hd)
    · refine ⟨false, rfl, ?_⟩
      have : decide (l1 = l2) = false := decide_eq_false (fun e => hd (by subst e; rfl))
      rw [← this]; exact hk w h
    · refine hag (q - 1) _ _ (by omega) ⟨m + 1, ?_, by omega, ?_, h⟩
      · rw [wr (by omega) (by omega)]; simp
      · rw [List.take_add_one, List.take_add_one, hx, hy, hf, hd]
  · have e : m = l1.length := by omega
    subst e
    refine ⟨true, rfl, ?_⟩
    have : decide (l1 = l2) = true := decide_eq_true ((eq_of_take hl).1 hf)
    rw [← this]; exact hk w h
end Go.Proofs.Ytheikjckdnhdhaa
