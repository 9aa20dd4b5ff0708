/- What is proved on the way to a statement of the seat, pressed (text AN). No conditions beyond those its theorems state. -/
import Derived.Test.YtkebppklbobjcaaGreatDoorSAM
import Derived.SevenTiedAt
import Derived.Stop.Joined
import Derived.Test.YtkebppklbobjcaaGreatDoorRows
import Derived.Test.YtkebppklbobjcaaGreatDoorCards
import Derived.Test.YtkebppklbobjcaaGreatDoorTie
set_option linter.all false
namespace Go.Proofs.YtkebppklbobjcaaGreatDoor
open Go.Dm Go.ChangeShapes Go.WideShapes Go.RowKit
theorem own : ownKnob Pr.godebug = none := by kernel_rfl
theorem laid : laidOutB Pr = true := by kernel_rfl
theorem zoS : Pr.underlying z5A = some .bool := by kernel_rfl
theorem zoR : Pr.underlying z0j = some (.int .i64) := by kernel_rfl
theorem zqk : Pr.cellsOf z0j = 1 := by kernel_rfl
theorem znD : Pr.underlying z0X = some (.slice z0j) := by kernel_rfl
theorem zm2 : Pr.underlying zdo = some (.slice z5A) := by kernel_rfl
theorem par4 : Tryz.f4.params = #[z0j, z0X, zdo] := by kernel_rfl
theorem zcN (os : Os) (args : Array Value) : laidMetH Tryz.prog Rows.systemSplitRow.laid ((World.doorLaid Tryz.prog 400 os).forCall (fun _ _ => 0) ⟨#[], args, []⟩).memory :=
 laidMetH_of_parts3 (fuel := 8) (laidMet_of_run' 8 (by kernel_rfl) (by kernel_rfl)) (by kernel_rfl) (by kernel_rfl)
set_option maxRecDepth 100000 in
theorem zb3 (os : Os) (started : os.Started) (H : Type) (enc : TypeId × Value → H) :
  ReturnsInHanded {} Tryz.checked os 4 .any (fun w args => (Rows.systemSplitSpec.pre enc Tryz.prog Tryz.f4 Rows.systemSplitRow.domain false w args ∧ laidMetH Tryz.prog Rows.systemSplitRow.laid w) ∧ sizedMet enc Tryz.prog Tryz.f4 (OpenSpec.ofChange Rows.systemSplitSpec) false w args)
   (Rows.systemSplitSpec.post enc Tryz.prog Tryz.f4 false true false false) := by
 refine returnsInHanded_of_change_and (C := Tryz.checked) (X := fun w _ => laidMetH Tryz.prog Rows.systemSplitRow.laid w) (fun _ _ _ hh h => h.of_heap hh) own started (by kernel_rfl) (by kernel_rfl)
  (ChangeSpec.witness_shaped (enc := enc) (C := Tryz.checked) (os := os) (X := fun w _ => laidMetH Tryz.prog Rows.systemSplitRow.laid w) false (World.doorLaid Tryz.prog 400 os) #[.int .i64 0, .slice none 0 0, .slice none 0 0] 8 rfl (World.shaped_of_RefB (by kernel_rfl) (by kernel_rfl)) (by kernel_rfl) (by kernel_rfl) (by kernel_rfl) (zcN os _)) ?_
 intro W base args ds gs before hval hW hq1 hq2 hq3 hq4
 have hW' := hW
 obtain ⟨p, q, hA0, hV, rfl, hfz, hnd⟩ := hW
 have hA : DataW.TrodAll enc Tryz.prog W 0 (fun _ => true) true Tryz.f4.params.toList args.toList ds p := hA0
 have hval : ∀ (j : Nat) t v, Tryz.f4.params[j]? = some t → args[j]? = some v → Value.okWide Tryz.prog W .any base t v := hval
 rw [par4] at hA hval
 obtain ⟨v0, vs0, d0, ds0, p0, q0, hargs, rfl, rfl, h0, r0⟩ := trodAll_cons hA
 obtain ⟨v1, vs1, d1, ds1, p1, q1, rfl, rfl, rfl, h1, r1⟩ := trodAll_cons r0
 obtain ⟨v2, vs2, d2, ds2, p2, q2, rfl, rfl, rfl, h2, r2⟩ := trodAll_cons r1
 obtain ⟨rfl, rfl, rfl⟩ := trodAll_nil r2
 obtain rfl : args = #[v0, v1, v2] := by cases args; simp_all
 obtain ⟨rfl, rfl⟩ := trodVars_none hV
 obtain ⟨n0, rfl, _, b0, _⟩ := open_int zoR (hval 0 _ _ rfl rfl) h0
 obtain ⟨s1, xs1, rfl, l1, _, c1⟩ := zo5 znD zoR zqk (hval 1 _ _ rfl rfl) h1
 obtain ⟨s2, xs2, rfl, o2⟩ := zn1 (n := 20) zm2 (by kernel_rfl) (hval 2 _ _ rfl rfl) h2
 haveI : bTab W := ⟨zoU (by kernel_rfl) (by kernel_rfl) (by kernel_rfl) hq3⟩
 refine (zfQ n0 s1 s2 (zmB l1 c1) o2).mono fun e W' ⟨he, hst⟩ => ?_
 subst he
 exact ⟨_, rfl, zkP laid (by kernel_rfl) (T := z5A) (by kernel_rfl) zoS hW' rfl rfl hst⟩
end Go.Proofs.YtkebppklbobjcaaGreatDoor
