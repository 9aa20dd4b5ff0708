/- Contracts of functions, and walks of laws (text Sg). No conditions beyond those its theorems state. -/
import Derived.Test.YtpnbgpolbjbhpaaSf
set_option linter.all false
namespace Go.Proofs.Ytpnbgpolbjbhpaa
open Go.Dm
attribute [local irreducible] L.load L.store L.chk L.new L.nonnil L.guard L.ite L.draw L.idx L.sem L.semR L.semU L.chkSem L.next L.call L.callV L.join L.alts L.loop L.begin L.endRound L.range
variable {w0 w : World} {E : List Seg}
def dropC (m : List (ByteArray × Thg)) (n : ByteArray) : List (ByteArray × Thg) := mset m n (s_, 0, 0, 0, 0, 0, 0, (tget m n).gen, false, ())
def takC (m : List (ByteArray × Thg)) (n : ByteArray) (ver : Int) : List (ByteArray × Thg) := if mayC (tget m n) ver false = 0 then dropC m n else m
theorem S_takenC (h : St w0 E w) (i : Nat) {b : Nat} {m : List (ByteArray × Thg)} {s : Seg} (hi : nth E i = some s) (hs : RackS b m s) {n : ByteArray} {ver : Int} {k : Int → PT}
    (hk : ∀ s' w', RackS b (takC m n ver) s' → St w0 (setN E i s') w' → k (mayC (tget m n) ver false) w') :
    L.call Pr n_shelf_taken_api_Config [.pointer (some ⟨b, 0, none⟩), .string n, I ver] (.one (.one (.int .i64))) k w := by
  refine call_of (C_shelf_taken_api_Config _ _ _) ?_
  unfold F_shelf_taken_api_Config
  refine S_mayC h i hi hs fun w h => ?_
  unfold takC at hk
  refine jd ?_
  refine it (fun he => ?_) (fun he => ?_) <;> (try simp only [decide_eq_true_eq, decide_eq_false_iff_not, beq_iff_eq, bne_iff_ne, beq_eq_false_iff_ne, bne_eq_false_iff_eq, Bool.not_eq_true', Bool.not_eq_false', ne_eq, Bool.not_eq_true, Bool.not_eq_false] at he)
  · refine S_dropC h i hi hs fun s' w hs' h => ?_
    rw [if_pos he] at hk
    exact ⟨_, rfl, hk s' w hs' h⟩
  · rw [if_neg he] at hk
    exact ⟨_, rfl, hk s w hs (by rwa [setN_self hi])⟩
theorem mayC_in {m : List (ByteArray × Thg)} {n : ByteArray} {ver : Int} (h : mayC (tget m n) ver false = 0) : (mget m n).isSome = true := by
  cases hg : mget m n with
  | some x => rfl
  | none => unfold mayC tget at h; rw [hg] at h; simp [noThg] at h
theorem mayR_in {m : List (ByteArray × AThr)} {n : ByteArray} {ver : Int} (h : mayV (rget m n).is (rget m n).ver ver false = 0) : (mget m n).isSome = true := by
  cases hg : mget m n with
  | some x => rfl
  | none => unfold mayV rget at h; rw [hg] at h; simp [noAThr] at h
def shDrop (a : AShelf) (kind : Int) (n : ByteArray) (ver : Int) : AShelf × Int :=
  if kind = 1 then (if mayC (tget a.m n) ver false = 0 then (⟨dropC a.m n, a.r, a.n + 1⟩, 0) else (a, mayC (tget a.m n) ver false))
  else if kind = 2 then (if mayV (rget a.r n).is (rget a.r n).ver ver false = 0 then (⟨a.m, dropRt a.r n, a.n + 1⟩, 0) else (a, mayV (rget a.r n).is (rget a.r n).ver ver false))
  else (a, 12)
theorem S_shDrop (h : St w0 E w) (i : Nat) {b : Nat} {a : AShelf} {s : Seg} (hi : nth E i = some s) (hs : ShS b a s) (hn : a.n < 900000000) {kind : Int} {n : ByteArray} {ver : Int} {k : Int → PT}
    (hk : ∀ s' w', ShS b (shDrop a kind n ver).1 s' → St w0 (setN E i s') w' → k (shDrop a kind n ver).2 w') :
    L.call Pr n_shelf_Shelf_Drop [.pointer (some ⟨b, 0, none⟩), I kind, .string n, I ver] (.one (.one (.int .i64))) k w := by
  have hs0 := hs
  obtain ⟨ok, bc, br, sc, sr, hC, hR, rfl⟩ := hs
  have hlo := ok.lo; have hfm := ok.fm; have hfr := ok.fr
  refine call_of (C_shelf_Shelf_Drop _ _ _ _) ?_
  unfold F_shelf_Shelf_Drop
  unfold shDrop at hk
  have h0 := h
  have h := (h.front i hi).split3
  refine jd ?_
  refine it (fun h1 => ?_) (fun h1 => ?_) <;> (try simp only [decide_eq_true_eq, decide_eq_false_iff_not, beq_iff_eq, bne_iff_ne, beq_eq_false_iff_ne, bne_eq_false_iff_eq, Bool.not_eq_true', Bool.not_eq_false', ne_eq, Bool.not_eq_true, Bool.not_eq_false] at h1)
  · rw [if_pos h1] at hk
    (repeat (first | refine nn ?_ | (refine dr h ?_; clear h; (try clear w); intro w h) | refine ld0_ h rfl rfl ?_ | refine ld1_ h rfl rfl ?_ | refine ld2_ h rfl rfl ?_ | refine ld3_ h rfl rfl ?_ | refine ld4_ h rfl rfl ?_ | refine ld5_ h rfl rfl ?_ | refine ld6_ h rfl rfl ?_ | refine ld7_ h rfl rfl ?_ | refine ld8_ h rfl rfl ?_ | refine ld9_ h rfl rfl ?_ | refine ld10_ h rfl rfl ?_ | refine ld11_ h rfl rfl ?_ | refine la0_ h rfl ?_ | refine la1_ h rfl ?_ | refine la2_ h rfl ?_ | refine la3_ h rfl ?_ | refine la4_ h rfl ?_ | refine la5_ h rfl ?_ | refine la6_ h rfl ?_ | refine la7_ h rfl ?_ | refine la8_ h rfl ?_ | refine la9_ h rfl ?_ | refine la10_ h rfl ?_ | refine la11_ h rfl ?_ | refine ck0_ h rfl ?_ | refine ck1_ h rfl ?_ | refine ck2_ h rfl ?_ | refine ck3_ h rfl ?_ | refine ck4_ h rfl ?_ | refine ck5_ h rfl ?_ | refine ck6_ h rfl ?_ | refine ck7_ h rfl ?_ | refine ck8_ h rfl ?_ | refine ck9_ h rfl ?_ | refine ck10_ h rfl ?_ | refine ck11_ h rfl ?_ | ((first | refine st0_ h rfl rfl ?_ | refine st1_ h rfl rfl ?_ | refine st2_ h rfl rfl ?_ | refine st3_ h rfl rfl ?_ | refine st4_ h rfl rfl ?_ | refine st5_ h rfl rfl ?_ | refine st6_ h rfl rfl ?_ | refine st7_ h rfl rfl ?_ | refine st8_ h rfl rfl ?_ | refine st9_ h rfl rfl ?_ | refine st10_ h rfl rfl ?_ | refine st11_ h rfl rfl ?_); clear h; (try clear w); intro w h; (try dsimp only [putN, setN] at h))))
    refine S_takenC h 1 rfl hC fun sc' w hC' h => ?_
    unfold takC at hC'
    refine jd ?_
    refine it (fun he => ?_) (fun he => ?_) <;> (try simp only [decide_eq_true_eq, decide_eq_false_iff_not, beq_iff_eq, bne_iff_ne, beq_eq_false_iff_ne, bne_eq_false_iff_eq, Bool.not_eq_true', Bool.not_eq_false', ne_eq, Bool.not_eq_true, Bool.not_eq_false] at he)
    · rw [if_pos he] at hk hC'
      have h : St w0 (shB b bc br a.n :: sc' :: sr :: delN E i) w := h
      (repeat (first | refine nn ?_ | (refine dr h ?_; clear h; (try clear w); intro w h) | refine ld0_ h rfl rfl ?_ | refine ld1_ h rfl rfl ?_ | refine ld2_ h rfl rfl ?_ | refine ld3_ h rfl rfl ?_ | refine ld4_ h rfl rfl ?_ | refine ld5_ h rfl rfl ?_ | refine ld6_ h rfl rfl ?_ | refine ld7_ h rfl rfl ?_ | refine ld8_ h rfl rfl ?_ | refine ld9_ h rfl rfl ?_ | refine ld10_ h rfl rfl ?_ | refine ld11_ h rfl rfl ?_ | refine la0_ h rfl ?_ | refine la1_ h rfl ?_ | refine la2_ h rfl ?_ | refine la3_ h rfl ?_ | refine la4_ h rfl ?_ | refine la5_ h rfl ?_ | refine la6_ h rfl ?_ | refine la7_ h rfl ?_ | refine la8_ h rfl ?_ | refine la9_ h rfl ?_ | refine la10_ h rfl ?_ | refine la11_ h rfl ?_ | refine ck0_ h rfl ?_ | refine ck1_ h rfl ?_ | refine ck2_ h rfl ?_ | refine ck3_ h rfl ?_ | refine ck4_ h rfl ?_ | refine ck5_ h rfl ?_ | refine ck6_ h rfl ?_ | refine ck7_ h rfl ?_ | refine ck8_ h rfl ?_ | refine ck9_ h rfl ?_ | refine ck10_ h rfl ?_ | refine ck11_ h rfl ?_ | ((first | refine st0_ h rfl rfl ?_ | refine st1_ h rfl rfl ?_ | refine st2_ h rfl rfl ?_ | refine st3_ h rfl rfl ?_ | refine st4_ h rfl rfl ?_ | refine st5_ h rfl rfl ?_ | refine st6_ h rfl rfl ?_ | refine st7_ h rfl rfl ?_ | refine st8_ h rfl rfl ?_ | refine st9_ h rfl rfl ?_ | refine st10_ h rfl rfl ?_ | refine st11_ h rfl rfl ?_); clear h; (try clear w); intro w h; (try dsimp only [putN, setN] at h))))
      rw [wr (by omega) (by omega)] at h
      rw [he]
      refine ⟨_, rfl, hk _ w ⟨⟨by simp only; omega, by simp only; omega, fun x => ?_, ?_, by simp only; omega⟩, bc, br, sc', sr, hC', hR, rfl⟩ (St.back i hi h.glue3)⟩
      · simp only [dropC]
        rw [tget_put]
        have hx := ok.gen x
        have hy := ok.gen n
        split
        · simp only [Thg.gen] at hy ⊢; omega
        · omega
      · simp only [dropC]; rw [mset_in (mayC_in he)]; omega
    · rw [if_neg he] at hk hC'
      exact ⟨_, rfl, hk _ w ⟨ok, bc, br, sc', sr, hC', hR, rfl⟩ (St.back i hi (St.glue3 h))⟩
  · rw [if_neg h1] at hk
    refine it (fun h2 => ?_) (fun h2 => ?_) <;> (try simp only [decide_eq_true_eq, decide_eq_false_iff_not, beq_iff_eq, bne_iff_ne, beq_eq_false_iff_ne, bne_eq_false_iff_eq, Bool.not_eq_true', Bool.not_eq_false', ne_eq, Bool.not_eq_true, Bool.not_eq_false] at h2)
    · rw [if_pos h2] at hk
      (repeat (first | refine nn ?_ | (refine dr h ?_; clear h; (try clear w); intro w h) | refine ld0_ h rfl rfl ?_ | refine ld1_ h rfl rfl ?_ | refine ld2_ h rfl rfl ?_ | refine ld3_ h rfl rfl ?_ | refine ld4_ h rfl rfl ?_ | refine ld5_ h rfl rfl ?_ | refine ld6_ h rfl rfl ?_ | refine ld7_ h rfl rfl ?_ | refine ld8_ h rfl rfl ?_ | refine ld9_ h rfl rfl ?_ | refine ld10_ h rfl rfl ?_ | refine ld11_ h rfl rfl ?_ | refine la0_ h rfl ?_ | refine la1_ h rfl ?_ | refine la2_ h rfl ?_ | refine la3_ h rfl ?_ | refine la4_ h rfl ?_ | refine la5_ h rfl ?_ | refine la6_ h rfl ?_ | refine la7_ h rfl ?_ | refine la8_ h rfl ?_ | refine la9_ h rfl ?_ | refine la10_ h rfl ?_ | refine la11_ h rfl ?_ | refine ck0_ h rfl ?_ | refine ck1_ h rfl ?_ | refine ck2_ h rfl ?_ | refine ck3_ h rfl ?_ | refine ck4_ h rfl ?_ | refine ck5_ h rfl ?_ | refine ck6_ h rfl ?_ | refine ck7_ h rfl ?_ | refine ck8_ h rfl ?_ | refine ck9_ h rfl ?_ | refine ck10_ h rfl ?_ | refine ck11_ h rfl ?_ | ((first | refine st0_ h rfl rfl ?_ | refine st1_ h rfl rfl ?_ | refine st2_ h rfl rfl ?_ | refine st3_ h rfl rfl ?_ | refine st4_ h rfl rfl ?_ | refine st5_ h rfl rfl ?_ | refine st6_ h rfl rfl ?_ | refine st7_ h rfl rfl ?_ | refine st8_ h rfl rfl ?_ | refine st9_ h rfl rfl ?_ | refine st10_ h rfl rfl ?_ | refine st11_ h rfl rfl ?_); clear h; (try clear w); intro w h; (try dsimp only [putN, setN] at h))))
      refine S_takenR h 2 rfl hR fun sr' w hR' h => ?_
      unfold takR at hR'
      refine jd ?_
      refine it (fun he => ?_) (fun he => ?_) <;> (try simp only [decide_eq_true_eq, decide_eq_false_iff_not, beq_iff_eq, bne_iff_ne, beq_eq_false_iff_ne, bne_eq_false_iff_eq, Bool.not_eq_true', Bool.not_eq_false', ne_eq, Bool.not_eq_true, Bool.not_eq_false] at he)
      · rw [if_pos he] at hk hR'
        have h : St w0 (shB b bc br a.n :: sc :: sr' :: delN E i) w := h
        (repeat (first | refine nn ?_ | (refine dr h ?_; clear h; (try clear w); intro w h) | refine ld0_ h rfl rfl ?_ | refine ld1_ h rfl rfl ?_ | refine ld2_ h rfl rfl ?_ | refine ld3_ h rfl rfl ?_ | refine ld4_ h rfl rfl ?_ | refine ld5_ h rfl rfl ?_ | refine ld6_ h rfl rfl ?_ | refine ld7_ h rfl rfl ?_ | refine ld8_ h rfl rfl ?_ | refine ld9_ h rfl rfl ?_ | refine ld10_ h rfl rfl ?_ | refine ld11_ h rfl rfl ?_ | refine la0_ h rfl ?_ | refine la1_ h rfl ?_ | refine la2_ h rfl ?_ | refine la3_ h rfl ?_ | refine la4_ h rfl ?_ | refine la5_ h rfl ?_ | refine la6_ h rfl ?_ | refine la7_ h rfl ?_ | refine la8_ h rfl ?_ | refine la9_ h rfl ?_ | refine la10_ h rfl ?_ | refine la11_ h rfl ?_ | refine ck0_ h rfl ?_ | refine ck1_ h rfl ?_ | refine ck2_ h rfl ?_ | refine ck3_ h rfl ?_ | refine ck4_ h rfl ?_ | refine ck5_ h rfl ?_ | refine ck6_ h rfl ?_ | refine ck7_ h rfl ?_ | refine ck8_ h rfl ?_ | refine ck9_ h rfl ?_ | refine ck10_ h rfl ?_ | refine ck11_ h rfl ?_ | ((first | refine st0_ h rfl rfl ?_ | refine st1_ h rfl rfl ?_ | refine st2_ h rfl rfl ?_ | refine st3_ h rfl rfl ?_ | refine st4_ h rfl rfl ?_ | refine st5_ h rfl rfl ?_ | refine st6_ h rfl rfl ?_ | refine st7_ h rfl rfl ?_ | refine st8_ h rfl rfl ?_ | refine st9_ h rfl rfl ?_ | refine st10_ h rfl rfl ?_ | refine st11_ h rfl rfl ?_); clear h; (try clear w); intro w h; (try dsimp only [putN, setN] at h))))
        rw [wr (by omega) (by omega)] at h
        rw [he]
        refine ⟨_, rfl, hk _ w ⟨⟨by simp only; omega, by simp only; omega, fun x => ?_, by simp only; omega, ?_⟩, bc, br, sc, sr', hC, hR', rfl⟩ (St.back i hi h.glue3)⟩
        · have hx := ok.gen x; simp only; omega
        · simp only [dropRt]; rw [mset_in (mayR_in he)]; omega
      · rw [if_neg he] at hk hR'
        exact ⟨_, rfl, hk _ w ⟨ok, bc, br, sc, sr', hC, hR', rfl⟩ (St.back i hi (St.glue3 h))⟩
    · rw [if_neg h2] at hk
      refine jd (itF (by simp) ?_)
      exact ⟨_, rfl, hk _ w hs0 (by rwa [setN_self hi])⟩
end Go.Proofs.Ytpnbgpolbjbhpaa
