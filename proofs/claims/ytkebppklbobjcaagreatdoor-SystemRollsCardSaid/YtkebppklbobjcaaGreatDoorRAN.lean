/- What is proved on the way to a statement of the seat, pressed (text AN). No conditions beyond those its theorems state. -/
import Derived.Test.YtkebppklbobjcaaGreatDoorRAM
import Derived.SevenTiedAt
import Derived.Stop.Joined
import Derived.Test.YtkebppklbobjcaaGreatDoorRows
import Derived.Test.YtkebppklbobjcaaGreatDoorCards
import Derived.Test.YtkebppklbobjcaaGreatDoorTie
set_option linter.all false
namespace Go.Proofs.YtkebppklbobjcaaGreatDoor
open Go.Dm Go.ChangeShapes Go.WideShapes Go.RowKit
theorem own : ownKnob Pr.godebug = none := by kernel_rfl
theorem laid : laidOutB Pr = true := by kernel_rfl
theorem u_bool : Pr.underlying T_bool = some .bool := by kernel_rfl
theorem u_int : Pr.underlying T_int = some (.int .i64) := by kernel_rfl
theorem cel_i : Pr.cellsOf T_int = 1 := by kernel_rfl
theorem u_s_int : Pr.underlying T_s_int = some (.slice T_int) := by kernel_rfl
theorem par5 : Tryz.f5.params = #[T_int, T_s_int] := by kernel_rfl
theorem systemRolls_door (os : Os) (args : Array Value) : laidMetH Tryz.prog Rows.systemRollsRow.laid ((World.doorLaid Tryz.prog 400 os).forCall (fun _ _ => 0) ⟨#[], args, []⟩).memory :=
 laidMetH_of_parts3 (fuel := 8) (laidMet_of_run' 8 (by kernel_rfl) (by kernel_rfl)) (by kernel_rfl) (by kernel_rfl)
set_option maxRecDepth 100000 in
theorem systemRolls_lifted (os : Os) (started : os.Started) (H : Type) (enc : TypeId × Value → H) :
  ReturnsInHanded {} Tryz.checked os 5 .any (fun w args => (Rows.systemRollsSpec.pre enc Tryz.prog Tryz.f5 Rows.systemRollsRow.domain false w args ∧ laidMetH Tryz.prog Rows.systemRollsRow.laid w) ∧ sizedMet enc Tryz.prog Tryz.f5 (OpenSpec.ofChange Rows.systemRollsSpec) false w args)
   (Rows.systemRollsSpec.post enc Tryz.prog Tryz.f5 false true false false) := by
 refine returnsInHanded_of_change_and (C := Tryz.checked) (X := fun w _ => laidMetH Tryz.prog Rows.systemRollsRow.laid w) (fun _ _ _ hh h => h.of_heap hh) own started (by kernel_rfl) (by kernel_rfl)
  (ChangeSpec.witness_shaped (enc := enc) (C := Tryz.checked) (os := os) (X := fun w _ => laidMetH Tryz.prog Rows.systemRollsRow.laid w) false (World.doorLaid Tryz.prog 400 os) #[.int .i64 0, .slice none 0 0] 8 rfl (World.shaped_of_RefB (by kernel_rfl) (by kernel_rfl)) (by kernel_rfl) (by kernel_rfl) (by kernel_rfl) (systemRolls_door os _)) ?_
 intro W base args ds gs before hval hW hq1 hq2 hq3 hq4
 have hW' := hW
 obtain ⟨p, q, hA0, hV, rfl, hfz, hnd⟩ := hW
 have hA : DataW.TrodAll enc Tryz.prog W 0 (fun _ => true) true Tryz.f5.params.toList args.toList ds p := hA0
 have hval : ∀ (j : Nat) t v, Tryz.f5.params[j]? = some t → args[j]? = some v → Value.okWide Tryz.prog W .any base t v := hval
 rw [par5] at hA hval
 obtain ⟨v0, vs0, d0, ds0, p0, q0, hargs, rfl, rfl, h0, r0⟩ := trodAll_cons hA
 obtain ⟨v1, vs1, d1, ds1, p1, q1, rfl, rfl, rfl, h1, r1⟩ := trodAll_cons r0
 obtain ⟨rfl, rfl, rfl⟩ := trodAll_nil r1
 obtain rfl : args = #[v0, v1] := by cases args; simp_all
 obtain ⟨rfl, rfl⟩ := trodVars_none hV
 obtain ⟨n0, rfl, _, b0, _⟩ := open_int u_int (hval 0 _ _ rfl rfl) h0
 obtain ⟨s1, xs1, rfl, l1, _, c1⟩ := ints_of u_s_int u_int cel_i (hval 1 _ _ rfl rfl) h1
 haveI : bTab W := ⟨tab_of (by kernel_rfl) (by kernel_rfl) (by kernel_rfl) hq3⟩
 refine (W_SystemRolls n0 s1 (old_ints l1 c1)).mono fun e W' ⟨he, hst⟩ => ?_
 subst he
 exact ⟨_, rfl, post_true laid (by kernel_rfl) (T := T_bool) (by kernel_rfl) u_bool hW' rfl rfl hst⟩
end Go.Proofs.YtkebppklbobjcaaGreatDoor
