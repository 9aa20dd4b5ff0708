/- What is proved on the way to a statement of the seat, pressed (text AM). No conditions beyond those its theorems state. -/
import Derived.Test.YtkebppklbobjcaaGreatDoorQAL
import Derived.SevenTiedAt
import Derived.Stop.Joined
import Derived.Test.YtkebppklbobjcaaGreatDoorRows
import Derived.Test.YtkebppklbobjcaaGreatDoorCards
import Derived.Test.YtkebppklbobjcaaGreatDoorTie
set_option linter.all false
namespace Go.Proofs.YtkebppklbobjcaaGreatDoor
open Go.Dm Go.ChangeShapes Go.WideShapes Go.RowKit
theorem own : ownKnob Pr.godebug = none := by kernel_rfl
theorem laid : laidOutB Pr = true := by kernel_rfl
theorem u_bool : Pr.underlying T_bool = some .bool := by kernel_rfl
theorem u_int : Pr.underlying T_int = some (.int .i64) := by kernel_rfl
theorem cel_i : Pr.cellsOf T_int = 1 := by kernel_rfl
theorem u_s_int : Pr.underlying T_s_int = some (.slice T_int) := by kernel_rfl
theorem par6 : Tryz.f6.params = #[T_s_int] := by kernel_rfl
theorem systemGens_door (os : Os) (args : Array Value) : laidMetH Tryz.prog Rows.systemGensRow.laid ((World.doorLaid Tryz.prog 400 os).forCall (fun _ _ => 0) ⟨#[], args, []⟩).memory :=
  laidMetH_of_parts3 (fuel := 8) (laidMet_of_run' 8 (by kernel_rfl) (by kernel_rfl)) (by kernel_rfl) (by kernel_rfl)
set_option maxRecDepth 100000 in
theorem systemGens_lifted (os : Os) (started : os.Started) (H : Type) (enc : TypeId × Value → H) :
    ReturnsInHanded {} Tryz.checked os 6 .any (fun w args => (Rows.systemGensSpec.pre enc Tryz.prog Tryz.f6 Rows.systemGensRow.domain false w args ∧ laidMetH Tryz.prog Rows.systemGensRow.laid w) ∧ sizedMet enc Tryz.prog Tryz.f6 (OpenSpec.ofChange Rows.systemGensSpec) false w args)
      (Rows.systemGensSpec.post enc Tryz.prog Tryz.f6 false true false false) := by
  refine returnsInHanded_of_change_and (C := Tryz.checked) (X := fun w _ => laidMetH Tryz.prog Rows.systemGensRow.laid w) (fun _ _ _ hh h => h.of_heap hh) own started (by kernel_rfl) (by kernel_rfl)
    (ChangeSpec.witness_shaped (enc := enc) (C := Tryz.checked) (os := os) (X := fun w _ => laidMetH Tryz.prog Rows.systemGensRow.laid w) false (World.doorLaid Tryz.prog 400 os) #[.slice none 0 0] 8 rfl (World.shaped_of_RefB (by kernel_rfl) (by kernel_rfl)) (by kernel_rfl) (by kernel_rfl) (by kernel_rfl) (systemGens_door os _)) ?_
  intro W base args ds gs before hval hW hq1 hq2 hq3 hq4
  have hW' := hW
  obtain ⟨p, q, hA0, hV, rfl, hfz, hnd⟩ := hW
  have hA : DataW.TrodAll enc Tryz.prog W 0 (fun _ => true) true Tryz.f6.params.toList args.toList ds p := hA0
  have hval : ∀ (j : Nat) t v, Tryz.f6.params[j]? = some t → args[j]? = some v → Value.okWide Tryz.prog W .any base t v := hval
  rw [par6] at hA hval
  obtain ⟨v0, vs0, d0, ds0, p0, q0, hargs, rfl, rfl, h0, r0⟩ := trodAll_cons hA
  obtain ⟨rfl, rfl, rfl⟩ := trodAll_nil r0
  obtain rfl : args = #[v0] := by cases args; simp_all
  obtain ⟨rfl, rfl⟩ := trodVars_none hV
  obtain ⟨s0, xs0, rfl, l0, _, c0⟩ := ints_of u_s_int u_int cel_i (hval 0 _ _ rfl rfl) h0
  haveI : bTab W := ⟨tab_of (by kernel_rfl) (by kernel_rfl) (by kernel_rfl) hq3⟩
  refine (W_SystemGens s0 (old_ints l0 c0)).mono fun e W' ⟨he, hst⟩ => ?_
  subst he
  exact ⟨_, rfl, post_true laid (by kernel_rfl) (T := T_bool) (by kernel_rfl) u_bool hW' rfl rfl hst⟩
end Go.Proofs.YtkebppklbobjcaaGreatDoor
