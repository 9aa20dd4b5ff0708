/- Contracts of functions, and walks of laws (text Se). No conditions beyond those its theorems state. -/
import Derived.Test.YtpnbgpolbjbhpaaSn
set_option linter.all false
namespace Go.Proofs.Ytpnbgpolbjbhpaa
open Go.Dm
attribute [local irreducible] L.load L.store L.chk L.new L.nonnil L.guard L.ite L.draw L.idx L.sem L.semR L.semU L.chkSem L.next L.call L.callV L.join L.alts L.loop L.begin L.endRound L.range
variable {w0 w : World} {E : List Seg}
/-! ### a shelf: configurations, routes, calls -/
structure AShelf where
  m : List (ByteArray × Thg)
  r : List (ByteArray × AThr)
  n : Int
structure AShelf.Ok (a : AShelf) : Prop where
  lo : 0 ≤ a.n
  hi : a.n < 1000000000
  gen : ∀ x, 0 ≤ (tget a.m x).gen ∧ (tget a.m x).gen ≤ a.n
  fm : a.m.length ≤ a.n
  fr : a.r.length ≤ a.n
abbrev shB (b bc br : Nat) (n : Int) : Seg := [Cl b T_shelf_Shelf [.pointer (some ⟨bc, 0, none⟩), .pointer (some ⟨br, 0, none⟩), I n]]
def ShS (b : Nat) (a : AShelf) (s : Seg) : Prop := a.Ok ∧ ∃ bc br sc sr, RackS bc a.m sc ∧ RackR br a.r sr ∧ s = shB b bc br a.n ++ (sc ++ sr)
theorem tget_put (m : List (ByteArray × Thg)) (n x : ByteArray) (t : Thg) : tget (mset m n t) x = if n = x then t else tget m x := by
  unfold tget; rw [mget_mset]; split <;> rfl
theorem rget_put (m : List (ByteArray × AThr)) (n x : ByteArray) (t : AThr) : rget (mset m n t) x = if n = x then t else rget m x := by
  unfold rget; rw [mget_mset]; split <;> rfl
theorem mset_le {κ υ : Type} [DecidableEq κ] (m : List (κ × υ)) (k : κ) (u : υ) : (mset m k u).length ≤ m.length + 1 := by
  cases h : mget m k with
  | none => rw [mset_none h]; simp
  | some v => rw [mset_len h]; omega
theorem mset_in {κ υ : Type} [DecidableEq κ] {m : List (κ × υ)} {k : κ} {u : υ} (h : (mget m k).isSome = true) : (mset m k u).length = m.length := by
  cases h2 : mget m k with
  | none => rw [h2] at h; cases h
  | some v => exact mset_len h2
def shPut (a : AShelf) (c : Cfg) (ver : Int) : AShelf × Int × Int :=
  if specC c ≠ 0 then (a, 0, specC c) else if mayC (tget a.m c.1) ver true ≠ 0 then (a, 0, mayC (tget a.m c.1) ver true) else (⟨putC a.m c.1 c (a.n + 1), a.r, a.n + 1⟩, a.n + 1, 0)
theorem S_shPut (h : St w0 E w) (i : Nat) {b : Nat} {a : AShelf} {s : Seg} (hi : nth E i = some s) (hs : ShS b a s) (hn : a.n < 900000000) {c : Cfg} {ver : Int} {k : Int × Int × Unit → PT}
    (hk : ∀ s' w', ShS b (shPut a c ver).1 s' → St w0 (setN E i s') w' → k ((shPut a c ver).2.1, (shPut a c ver).2.2, ()) w') :
    L.call Pr n_shelf_Shelf_PutConfig [.pointer (some ⟨b, 0, none⟩), .agg (Cfg.cells c).toArray, I ver] (.tup [.one (.int .i64), .one (.int .i64)]) k w := by
  have hs0 := hs
  obtain ⟨ok, bc, br, sc, sr, hC, hR, rfl⟩ := hs
  have hlo := ok.lo
  refine call_of (C_shelf_Shelf_PutConfig _ c _) ?_
  unfold F_shelf_Shelf_PutConfig
  have h := (h.front i hi).split3
  refine nw h ?_; clear h; (try clear w); intro b1 w h
  (repeat (first | refine nn ?_ | (refine dr h ?_; clear h; (try clear w); intro w h) | refine ld0_ h rfl rfl ?_ | refine ld1_ h rfl rfl ?_ | refine ld2_ h rfl rfl ?_ | refine ld3_ h rfl rfl ?_ | refine ld4_ h rfl rfl ?_ | refine ld5_ h rfl rfl ?_ | refine ld6_ h rfl rfl ?_ | refine ld7_ h rfl rfl ?_ | refine ld8_ h rfl rfl ?_ | refine ld9_ h rfl rfl ?_ | refine ld10_ h rfl rfl ?_ | refine ld11_ h rfl rfl ?_ | refine la0_ h rfl ?_ | refine la1_ h rfl ?_ | refine la2_ h rfl ?_ | refine la3_ h rfl ?_ | refine la4_ h rfl ?_ | refine la5_ h rfl ?_ | refine la6_ h rfl ?_ | refine la7_ h rfl ?_ | refine la8_ h rfl ?_ | refine la9_ h rfl ?_ | refine la10_ h rfl ?_ | refine la11_ h rfl ?_ | refine ck0_ h rfl ?_ | refine ck1_ h rfl ?_ | refine ck2_ h rfl ?_ | refine ck3_ h rfl ?_ | refine ck4_ h rfl ?_ | refine ck5_ h rfl ?_ | refine ck6_ h rfl ?_ | refine ck7_ h rfl ?_ | refine ck8_ h rfl ?_ | refine ck9_ h rfl ?_ | refine ck10_ h rfl ?_ | refine ck11_ h rfl ?_ | ((first | refine st0_ h rfl rfl ?_ | refine st1_ h rfl rfl ?_ | refine st2_ h rfl rfl ?_ | refine st3_ h rfl rfl ?_ | refine st4_ h rfl rfl ?_ | refine st5_ h rfl rfl ?_ | refine st6_ h rfl rfl ?_ | refine st7_ h rfl rfl ?_ | refine st8_ h rfl rfl ?_ | refine st9_ h rfl rfl ?_ | refine st10_ h rfl rfl ?_ | refine st11_ h rfl rfl ?_); clear h; (try clear w); intro w h; (try dsimp only [putN, setN] at h))))
  refine S_specC (c := c) h fun w h => ?_
  unfold shPut at hk
  refine jd ?_
  refine it (fun he => ?_) (fun he => ?_) <;> (try simp only [decide_eq_true_eq, decide_eq_false_iff_not, beq_iff_eq, bne_iff_ne, beq_eq_false_iff_ne, bne_eq_false_iff_eq, Bool.not_eq_true', Bool.not_eq_false', ne_eq, Bool.not_eq_true, Bool.not_eq_false] at he)
  · (repeat (first | refine nn ?_ | (refine dr h ?_; clear h; (try clear w); intro w h) | refine ld0_ h rfl rfl ?_ | refine ld1_ h rfl rfl ?_ | refine ld2_ h rfl rfl ?_ | refine ld3_ h rfl rfl ?_ | refine ld4_ h rfl rfl ?_ | refine ld5_ h rfl rfl ?_ | refine ld6_ h rfl rfl ?_ | refine ld7_ h rfl rfl ?_ | refine ld8_ h rfl rfl ?_ | refine ld9_ h rfl rfl ?_ | refine ld10_ h rfl rfl ?_ | refine ld11_ h rfl rfl ?_ | refine la0_ h rfl ?_ | refine la1_ h rfl ?_ | refine la2_ h rfl ?_ | refine la3_ h rfl ?_ | refine la4_ h rfl ?_ | refine la5_ h rfl ?_ | refine la6_ h rfl ?_ | refine la7_ h rfl ?_ | refine la8_ h rfl ?_ | refine la9_ h rfl ?_ | refine la10_ h rfl ?_ | refine la11_ h rfl ?_ | refine ck0_ h rfl ?_ | refine ck1_ h rfl ?_ | refine ck2_ h rfl ?_ | refine ck3_ h rfl ?_ | refine ck4_ h rfl ?_ | refine ck5_ h rfl ?_ | refine ck6_ h rfl ?_ | refine ck7_ h rfl ?_ | refine ck8_ h rfl ?_ | refine ck9_ h rfl ?_ | refine ck10_ h rfl ?_ | refine ck11_ h rfl ?_ | ((first | refine st0_ h rfl rfl ?_ | refine st1_ h rfl rfl ?_ | refine st2_ h rfl rfl ?_ | refine st3_ h rfl rfl ?_ | refine st4_ h rfl rfl ?_ | refine st5_ h rfl rfl ?_ | refine st6_ h rfl rfl ?_ | refine st7_ h rfl rfl ?_ | refine st8_ h rfl rfl ?_ | refine st9_ h rfl rfl ?_ | refine st10_ h rfl rfl ?_ | refine st11_ h rfl rfl ?_); clear h; (try clear w); intro w h; (try dsimp only [putN, setN] at h))))
    refine S_mayC h 2 rfl hC fun w h => ?_
    rw [if_neg (by simpa using he)] at hk
    refine it (fun hm => ?_) (fun hm => ?_) <;> (try simp only [decide_eq_true_eq, decide_eq_false_iff_not, beq_iff_eq, bne_iff_ne, beq_eq_false_iff_ne, bne_eq_false_iff_eq, Bool.not_eq_true', Bool.not_eq_false', ne_eq, Bool.not_eq_true, Bool.not_eq_false] at hm)
    · rw [if_pos hm] at hk
      exact ⟨_, rfl, hk _ w hs0 (St.back i hi (dl0_ h).glue3)⟩
    · rw [if_neg (by simpa using hm)] at hk
      (repeat (first | refine nn ?_ | (refine dr h ?_; clear h; (try clear w); intro w h) | refine ld0_ h rfl rfl ?_ | refine ld1_ h rfl rfl ?_ | refine ld2_ h rfl rfl ?_ | refine ld3_ h rfl rfl ?_ | refine ld4_ h rfl rfl ?_ | refine ld5_ h rfl rfl ?_ | refine ld6_ h rfl rfl ?_ | refine ld7_ h rfl rfl ?_ | refine ld8_ h rfl rfl ?_ | refine ld9_ h rfl rfl ?_ | refine ld10_ h rfl rfl ?_ | refine ld11_ h rfl rfl ?_ | refine la0_ h rfl ?_ | refine la1_ h rfl ?_ | refine la2_ h rfl ?_ | refine la3_ h rfl ?_ | refine la4_ h rfl ?_ | refine la5_ h rfl ?_ | refine la6_ h rfl ?_ | refine la7_ h rfl ?_ | refine la8_ h rfl ?_ | refine la9_ h rfl ?_ | refine la10_ h rfl ?_ | refine la11_ h rfl ?_ | refine ck0_ h rfl ?_ | refine ck1_ h rfl ?_ | refine ck2_ h rfl ?_ | refine ck3_ h rfl ?_ | refine ck4_ h rfl ?_ | refine ck5_ h rfl ?_ | refine ck6_ h rfl ?_ | refine ck7_ h rfl ?_ | refine ck8_ h rfl ?_ | refine ck9_ h rfl ?_ | refine ck10_ h rfl ?_ | refine ck11_ h rfl ?_ | ((first | refine st0_ h rfl rfl ?_ | refine st1_ h rfl rfl ?_ | refine st2_ h rfl rfl ?_ | refine st3_ h rfl rfl ?_ | refine st4_ h rfl rfl ?_ | refine st5_ h rfl rfl ?_ | refine st6_ h rfl rfl ?_ | refine st7_ h rfl rfl ?_ | refine st8_ h rfl rfl ?_ | refine st9_ h rfl rfl ?_ | refine st10_ h rfl rfl ?_ | refine st11_ h rfl rfl ?_); clear h; (try clear w); intro w h; (try dsimp only [putN, setN] at h))))
      rw [wr (by omega) (by omega)] at h ⊢
      have hgc := ok.gen c.1
      refine S_putC (c := c) h 2 rfl hC (by omega) fun sc' w hC' h => ?_
      have h : St w0 ([Cl b1 T_api_Config (Cfg.cells c)] :: shB b bc br (a.n + 1) :: sc' :: sr :: delN E i) w := h
      (repeat (first | refine nn ?_ | (refine dr h ?_; clear h; (try clear w); intro w h) | refine ld0_ h rfl rfl ?_ | refine ld1_ h rfl rfl ?_ | refine ld2_ h rfl rfl ?_ | refine ld3_ h rfl rfl ?_ | refine ld4_ h rfl rfl ?_ | refine ld5_ h rfl rfl ?_ | refine ld6_ h rfl rfl ?_ | refine ld7_ h rfl rfl ?_ | refine ld8_ h rfl rfl ?_ | refine ld9_ h rfl rfl ?_ | refine ld10_ h rfl rfl ?_ | refine ld11_ h rfl rfl ?_ | refine la0_ h rfl ?_ | refine la1_ h rfl ?_ | refine la2_ h rfl ?_ | refine la3_ h rfl ?_ | refine la4_ h rfl ?_ | refine la5_ h rfl ?_ | refine la6_ h rfl ?_ | refine la7_ h rfl ?_ | refine la8_ h rfl ?_ | refine la9_ h rfl ?_ | refine la10_ h rfl ?_ | refine la11_ h rfl ?_ | refine ck0_ h rfl ?_ | refine ck1_ h rfl ?_ | refine ck2_ h rfl ?_ | refine ck3_ h rfl ?_ | refine ck4_ h rfl ?_ | refine ck5_ h rfl ?_ | refine ck6_ h rfl ?_ | refine ck7_ h rfl ?_ | refine ck8_ h rfl ?_ | refine ck9_ h rfl ?_ | refine ck10_ h rfl ?_ | refine ck11_ h rfl ?_ | ((first | refine st0_ h rfl rfl ?_ | refine st1_ h rfl rfl ?_ | refine st2_ h rfl rfl ?_ | refine st3_ h rfl rfl ?_ | refine st4_ h rfl rfl ?_ | refine st5_ h rfl rfl ?_ | refine st6_ h rfl rfl ?_ | refine st7_ h rfl rfl ?_ | refine st8_ h rfl rfl ?_ | refine st9_ h rfl rfl ?_ | refine st10_ h rfl rfl ?_ | refine st11_ h rfl rfl ?_); clear h; (try clear w); intro w h; (try dsimp only [putN, setN] at h))))
      refine ⟨(a.n + 1, 0, ()), rfl, hk _ w ⟨⟨by simp only; omega, by simp only; omega, fun x => ?_, ?_, ?_⟩, bc, br, sc', sr, hC', hR, rfl⟩ (St.back i hi (dl0_ h).glue3)⟩
      · simp only [putC]
        rw [tget_put]
        have hx := ok.gen x
        split
        · simp only [thgOf, Thg.gen]
          split <;> constructor <;> (simp only [Thg.gen] at hgc ⊢; omega)
        · omega
      · have := ok.fm; have := mset_le a.m c.1 (thgOf c (a.n + 1) (if (tget a.m c.1).is = true ∧ sameC (cfgOf (tget a.m c.1)) c = true then (tget a.m c.1).gen else (tget a.m c.1).gen + 1) true)
        simp only [putC]; omega
      · have := ok.fr; simp only; omega
  · refine it (fun hm => ?_) (fun hm => ?_) <;> (try simp only [decide_eq_true_eq, decide_eq_false_iff_not, beq_iff_eq, bne_iff_ne, beq_eq_false_iff_ne, bne_eq_false_iff_eq, Bool.not_eq_true', Bool.not_eq_false', ne_eq, Bool.not_eq_true, Bool.not_eq_false] at hm)
    · rw [if_pos he] at hk
      exact ⟨_, rfl, hk _ w hs0 (St.back i hi (dl0_ h).glue3)⟩
    · exact (he hm).elim
end Go.Proofs.Ytpnbgpolbjbhpaa
