/- Contracts of functions, and walks of laws (text Sc). No conditions beyond those its theorems state. -/
import Derived.Test.YtpnbgpolbjbhpaaSb
import Derived.Laws.StructEq
set_option linter.all false
namespace Go.Proofs.Ytpnbgpolbjbhpaa
open Go.Dm
attribute [local irreducible] L.load L.store L.chk L.new L.nonnil L.guard L.ite L.draw L.idx L.sem L.semR L.semU L.chkSem L.next L.call L.callV L.join L.alts L.loop L.begin L.endRound L.range
variable {w0 w : World} {E : List Seg}
theorem S_getC (h : St w0 E w) (i : Nat) {b : Nat} {m : List (ByteArray × Thg)} {s : Seg} (hi : nth E i = some s) (hs : RackS b m s) {n : ByteArray} {k : eThg.T × Bool × Unit → PT} (hk : ∀ w', St w0 E w' → k (tget m n, (tget m n).is, ()) w') :
    L.call Pr n_shelf_rack_api_Config_get [.pointer (some ⟨b, 0, none⟩), .string n] (.tup [eThg, .one .bool]) k w := by
  obtain ⟨r, sm, hm, rfl⟩ := hs
  refine call_of (C_shelf_rack_api_Config_get _ _) ?_
  unfold F_shelf_rack_api_Config_get
  have h := (h.front i hi).split
  refine nw h ?_; clear h; (try clear w); intro b1 w h
  (repeat (first | refine nn ?_ | (refine dr h ?_; clear h; (try clear w); intro w h) | refine ld0_ h rfl rfl ?_ | refine ld1_ h rfl rfl ?_ | refine ld2_ h rfl rfl ?_ | refine ld3_ h rfl rfl ?_ | refine ld4_ h rfl rfl ?_ | refine ld5_ h rfl rfl ?_ | refine ld6_ h rfl rfl ?_ | refine ld7_ h rfl rfl ?_ | refine ld8_ h rfl rfl ?_ | refine ld9_ h rfl rfl ?_ | refine ld10_ h rfl rfl ?_ | refine ld11_ h rfl rfl ?_ | refine la0_ h rfl ?_ | refine la1_ h rfl ?_ | refine la2_ h rfl ?_ | refine la3_ h rfl ?_ | refine la4_ h rfl ?_ | refine la5_ h rfl ?_ | refine la6_ h rfl ?_ | refine la7_ h rfl ?_ | refine la8_ h rfl ?_ | refine la9_ h rfl ?_ | refine la10_ h rfl ?_ | refine la11_ h rfl ?_ | refine ck0_ h rfl ?_ | refine ck1_ h rfl ?_ | refine ck2_ h rfl ?_ | refine ck3_ h rfl ?_ | refine ck4_ h rfl ?_ | refine ck5_ h rfl ?_ | refine ck6_ h rfl ?_ | refine ck7_ h rfl ?_ | refine ck8_ h rfl ?_ | refine ck9_ h rfl ?_ | refine ck10_ h rfl ?_ | refine ck11_ h rfl ?_ | ((first | refine st0_ h rfl rfl ?_ | refine st1_ h rfl rfl ?_ | refine st2_ h rfl rfl ?_ | refine st3_ h rfl rfl ?_ | refine st4_ h rfl rfl ?_ | refine st5_ h rfl rfl ?_ | refine st6_ h rfl rfl ?_ | refine st7_ h rfl rfl ?_ | refine st8_ h rfl rfl ?_ | refine st9_ h rfl rfl ?_ | refine st10_ h rfl rfl ?_ | refine st11_ h rfl rfl ?_); clear h; (try clear w); intro w h; (try dsimp only [putN, setN] at h))))
  refine tlook h 2 rfl hm ?_
  generalize tget m n = t at hk
  refine nw h ?_; clear h; (try clear w); intro b5 w h
  (repeat (first | refine nn ?_ | (refine dr h ?_; clear h; (try clear w); intro w h) | refine ld0_ h rfl rfl ?_ | refine ld1_ h rfl rfl ?_ | refine ld2_ h rfl rfl ?_ | refine ld3_ h rfl rfl ?_ | refine ld4_ h rfl rfl ?_ | refine ld5_ h rfl rfl ?_ | refine ld6_ h rfl rfl ?_ | refine ld7_ h rfl rfl ?_ | refine ld8_ h rfl rfl ?_ | refine ld9_ h rfl rfl ?_ | refine ld10_ h rfl rfl ?_ | refine ld11_ h rfl rfl ?_ | refine la0_ h rfl ?_ | refine la1_ h rfl ?_ | refine la2_ h rfl ?_ | refine la3_ h rfl ?_ | refine la4_ h rfl ?_ | refine la5_ h rfl ?_ | refine la6_ h rfl ?_ | refine la7_ h rfl ?_ | refine la8_ h rfl ?_ | refine la9_ h rfl ?_ | refine la10_ h rfl ?_ | refine la11_ h rfl ?_ | refine ck0_ h rfl ?_ | refine ck1_ h rfl ?_ | refine ck2_ h rfl ?_ | refine ck3_ h rfl ?_ | refine ck4_ h rfl ?_ | refine ck5_ h rfl ?_ | refine ck6_ h rfl ?_ | refine ck7_ h rfl ?_ | refine ck8_ h rfl ?_ | refine ck9_ h rfl ?_ | refine ck10_ h rfl ?_ | refine ck11_ h rfl ?_ | ((first | refine st0_ h rfl rfl ?_ | refine st1_ h rfl rfl ?_ | refine st2_ h rfl rfl ?_ | refine st3_ h rfl rfl ?_ | refine st4_ h rfl rfl ?_ | refine st5_ h rfl rfl ?_ | refine st6_ h rfl rfl ?_ | refine st7_ h rfl rfl ?_ | refine st8_ h rfl rfl ?_ | refine st9_ h rfl rfl ?_ | refine st10_ h rfl rfl ?_ | refine st11_ h rfl rfl ?_); clear h; (try clear w); intro w h; (try dsimp only [putN, setN] at h))))
  exact ⟨(t, t.is, ()), rfl, hk w (St.setN_same' i hi (St.back i hi (dl0_ (dl0_ h)).glue))⟩
theorem S_dropC (h : St w0 E w) (i : Nat) {b : Nat} {m : List (ByteArray × Thg)} {s : Seg} (hi : nth E i = some s) (hs : RackS b m s) {n : ByteArray} {k : Unit → PT}
    (hk : ∀ s' w', RackS b (mset m n (s_, 0, 0, 0, 0, 0, 0, (tget m n).gen, false, ())) s' → St w0 (setN E i s') w' → k () w') :
    L.call Pr n_shelf_rack_api_Config_drop [.pointer (some ⟨b, 0, none⟩), .string n] (.tup []) k w := by
  obtain ⟨r, sm, hm, rfl⟩ := hs
  refine call_of (C_shelf_rack_api_Config_drop _ _) ?_
  unfold F_shelf_rack_api_Config_drop
  have h := (h.front i hi).split
  (repeat (first | refine nn ?_ | (refine dr h ?_; clear h; (try clear w); intro w h) | refine ld0_ h rfl rfl ?_ | refine ld1_ h rfl rfl ?_ | refine ld2_ h rfl rfl ?_ | refine ld3_ h rfl rfl ?_ | refine ld4_ h rfl rfl ?_ | refine ld5_ h rfl rfl ?_ | refine ld6_ h rfl rfl ?_ | refine ld7_ h rfl rfl ?_ | refine ld8_ h rfl rfl ?_ | refine ld9_ h rfl rfl ?_ | refine ld10_ h rfl rfl ?_ | refine ld11_ h rfl rfl ?_ | refine la0_ h rfl ?_ | refine la1_ h rfl ?_ | refine la2_ h rfl ?_ | refine la3_ h rfl ?_ | refine la4_ h rfl ?_ | refine la5_ h rfl ?_ | refine la6_ h rfl ?_ | refine la7_ h rfl ?_ | refine la8_ h rfl ?_ | refine la9_ h rfl ?_ | refine la10_ h rfl ?_ | refine la11_ h rfl ?_ | refine ck0_ h rfl ?_ | refine ck1_ h rfl ?_ | refine ck2_ h rfl ?_ | refine ck3_ h rfl ?_ | refine ck4_ h rfl ?_ | refine ck5_ h rfl ?_ | refine ck6_ h rfl ?_ | refine ck7_ h rfl ?_ | refine ck8_ h rfl ?_ | refine ck9_ h rfl ?_ | refine ck10_ h rfl ?_ | refine ck11_ h rfl ?_ | ((first | refine st0_ h rfl rfl ?_ | refine st1_ h rfl rfl ?_ | refine st2_ h rfl rfl ?_ | refine st3_ h rfl rfl ?_ | refine st4_ h rfl rfl ?_ | refine st5_ h rfl rfl ?_ | refine st6_ h rfl rfl ?_ | refine st7_ h rfl rfl ?_ | refine st8_ h rfl rfl ?_ | refine st9_ h rfl rfl ?_ | refine st10_ h rfl rfl ?_ | refine st11_ h rfl rfl ?_); clear h; (try clear w); intro w h; (try dsimp only [putN, setN] at h))))
  refine tlook h 1 rfl hm ?_
  refine MpS.set mkS und_rack h 1 rfl hm (s_, 0, 0, 0, 0, 0, 0, (tget m n).gen, false, ()) rfl fun sm' w hm' h => ?_
  exact ⟨(), rfl, hk _ w ⟨r, sm', hm', rfl⟩ (St.back i hi h.glue)⟩
def sameC (a b : Cfg) : Bool := (a.1 == b.1) && ((a.2.1 == b.2.1) && ((a.2.2.1 == b.2.2.1) && ((a.2.2.2.1 == b.2.2.2.1) && ((a.2.2.2.2.1 == b.2.2.2.2.1) && ((a.2.2.2.2.2.1 == b.2.2.2.2.2.1) && true)))))
theorem eqin_cfg (a b : Cfg) (w : World) : (Op.equalIn 10000 T_api_Config (.agg (Cfg.cells a).toArray) (.agg (Cfg.cells b).toArray)).run Pr w = .ok (sameC a b) w := by
  have hS : Pr.underlying T_api_Config = some (.struct (Pr.fieldsOf T_api_Config)) := by kernel_rfl
  have hp : Pr.stoodInHeld T_api_Config = false := by kernel_rfl
  obtain ⟨a1, a2, a3, a4, a5, a6, ⟨⟩⟩ := a
  obtain ⟨b1, b2, b3, b4, b5, b6, ⟨⟩⟩ := b
  rw [show (10000 : Nat) = 9999 + 1 from rfl, run_equalIn_agg w 9999 T_api_Config _ _ hS hp]
  have u3 := Try.underlying3
  have i3 := Try.isAgg3
  have z3 := Try.sizeOf3
  have u9 := Try.underlying9
  have i9 := Try.isAgg9
  have z9 := Try.sizeOf9
  simp only [Program.fieldsOf, Try.underlying23]
  go_simp
  have e : (ByteArray.toList a1 = ByteArray.toList b1) ↔ (@BEq.beq ByteArray _ a1 b1) = true := by rw [beq_toListBytes]; simp
  unfold sameC
  by_cases h1 : (@BEq.beq ByteArray _ a1 b1) = true
  · rw [if_pos (e.2 h1)]
    simp only [show (a1 == b1) = true from h1, Bool.true_and]
    by_cases h2 : @Eq Int a2 b2
    · by_cases h3 : @Eq Int a3 b3
      · by_cases h4 : @Eq Int a4 b4
        · by_cases h5 : @Eq Int a5 b5
          · by_cases h6 : @Eq Int a6 b6
            · cases h2; cases h3; cases h4; cases h5; cases h6; simp
            · cases h2; cases h3; cases h4; cases h5; simp [h6]
          · cases h2; cases h3; cases h4; simp [h5]
        · cases h2; cases h3; simp [h4]
      · cases h2; simp [h3]
    · simp [h2]
  · rw [if_neg (fun h => h1 (e.1 h))]
    have : (a1 == b1) = false := by simpa using h1
    simp [this]
theorem eq_cfg (a b : Cfg) (w : World) : (do eqGuard .eql T_api_Config (.tmp 0) (.tmp 0) (.agg (Cfg.cells a).toArray) (.agg (Cfg.cells b).toArray); binOp .eql T_api_Config (.agg (Cfg.cells a).toArray) (.agg (Cfg.cells b).toArray) : Sem Value).run Pr w = .ok (.bool (sameC a b)) w :=
  eqS_of (by kernel_rfl) (eqin_cfg a b w)
theorem ne_cfg (a b : Cfg) (w : World) : (do eqGuard .neq T_api_Config (.tmp 0) (.tmp 0) (.agg (Cfg.cells a).toArray) (.agg (Cfg.cells b).toArray); binOp .neq T_api_Config (.agg (Cfg.cells a).toArray) (.agg (Cfg.cells b).toArray) : Sem Value).run Pr w = .ok (.bool (!sameC a b)) w :=
  neS_of (by kernel_rfl) (eqin_cfg a b w)
theorem sameC_iff (a b : Cfg) : sameC a b = true ↔ a = b := by
  obtain ⟨a1, a2, a3, a4, a5, a6, ⟨⟩⟩ := a
  obtain ⟨b1, b2, b3, b4, b5, b6, ⟨⟩⟩ := b
  have e : (@BEq.beq ByteArray _ a1 b1) = true ↔ a1 = b1 := ba_iff
  unfold sameC
  simp [Prod.ext_iff]
  intros; exact e
theorem sameC_self (a : Cfg) : sameC a a = true := (sameC_iff a a).2 rfl
end Go.Proofs.Ytpnbgpolbjbhpaa
