/- What is proved on the way to a statement of the seat, pressed (text AN). No conditions beyond those its theorems state. -/
import Derived.Test.YtkmalcoocklikaaGreatDoorZAM
import Derived.SevenTiedAt
import Derived.Stop.Joined
import Derived.Test.YtkmalcoocklikaaGreatDoorRows
import Derived.Test.YtkmalcoocklikaaGreatDoorCards
import Derived.Test.YtkmalcoocklikaaGreatDoorTie
set_option linter.all false
namespace Go.Proofs.YtkmalcoocklikaaGreatDoor
open Go.Dm Go.ChangeShapes Go.WideShapes Go.RowKit
theorem own : ownKnob Pr.godebug = none := by kernel_rfl
theorem laid : laidOutB Pr = true := by kernel_rfl
theorem zmf : Pr.underlying z68 = some .bool := by kernel_rfl
theorem znp : Pr.underlying z0i = some (.int .i64) := by kernel_rfl
theorem zei : Pr.underlying z0b = some (.struct (Pr.fieldsOf z0b)) := by kernel_rfl
theorem par6 : Tryz.f6.params = #[z0b, z0i] := by kernel_rfl
theorem zdN (os : Os) (args : Array Value) : laidMetH Tryz.prog Rows.fairRestRow.laid ((World.doorLaid Tryz.prog 400 os).forCall (fun _ _ => 0) ⟨#[], args, []⟩).memory :=
 laidMetH_of_parts3 (fuel := 8) (laidMet_of_run' 8 (by kernel_rfl) (by kernel_rfl)) (by kernel_rfl) (by kernel_rfl)
set_option maxRecDepth 100000 in
theorem zc8 (os : Os) (started : os.Started) (H : Type) (enc : TypeId × Value → H) :
  ReturnsInHanded {} Tryz.checked os 6 .any (fun w args => (Rows.fairRestSpec.pre enc Tryz.prog Tryz.f6 Rows.fairRestRow.domain false w args ∧ laidMetH Tryz.prog Rows.fairRestRow.laid w) ∧ sizedMet enc Tryz.prog Tryz.f6 (OpenSpec.ofChange Rows.fairRestSpec) false w args)
   (Rows.fairRestSpec.post enc Tryz.prog Tryz.f6 false true false false) := by
 refine returnsInHanded_of_change_and (C := Tryz.checked) (X := fun w _ => laidMetH Tryz.prog Rows.fairRestRow.laid w) (fun _ _ _ hh h => h.of_heap hh) own started (by kernel_rfl) (by kernel_rfl)
  (ChangeSpec.witness_shaped (enc := enc) (C := Tryz.checked) (os := os) (X := fun w _ => laidMetH Tryz.prog Rows.fairRestRow.laid w) false (World.doorLaid Tryz.prog 400 os) #[.agg #[.string s_, .int .i64 0, .int .i64 0, .int .i64 0, .int .i64 0, .int .i64 0], .int .i64 0] 8 rfl (World.shaped_of_RefB (by kernel_rfl) (by kernel_rfl)) (by kernel_rfl) (by kernel_rfl) (by kernel_rfl) (zdN os _)) ?_
 intro W base args ds gs before hval hW hq1 hq2 hq3 hq4
 have hW' := hW
 obtain ⟨p, q, hA0, hV, rfl, hfz, hnd⟩ := hW
 have hA : DataW.TrodAll enc Tryz.prog W 0 (fun _ => true) true Tryz.f6.params.toList args.toList ds p := hA0
 have hval : ∀ (j : Nat) t v, Tryz.f6.params[j]? = some t → args[j]? = some v → Value.okWide Tryz.prog W .any base t v := hval
 rw [par6] at hA hval
 obtain ⟨v0, vs0, d0, ds0, p0, q0, hargs, rfl, rfl, h0, r0⟩ := trodAll_cons hA
 obtain ⟨v1, vs1, d1, ds1, p1, q1, rfl, rfl, rfl, h1, r1⟩ := trodAll_cons r0
 obtain ⟨rfl, rfl, rfl⟩ := trodAll_nil r1
 obtain rfl : args = #[v0, v1] := by cases args; simp_all
 obtain ⟨rfl, rfl⟩ := trodVars_none hV
 obtain ⟨x0, rfl, e0⟩ := zhC (n := 60) (a := (.lf .str (.lf (.int .i64) (.lf (.int .i64) (.lf (.int .i64) (.lf (.int .i64) (.lf (.int .i64) .nil))))))) zei (by kernel_rfl) (hval 0 _ _ rfl rfl) h0
 obtain ⟨n1, rfl, _, b1, _⟩ := open_int znp (hval 1 _ _ rfl rfl) h1
 haveI : bTab W := ⟨zmi (by kernel_rfl) (by kernel_rfl) (by kernel_rfl) hq3⟩
 refine (zhF x0 n1 ).mono fun e W' ⟨he, hst⟩ => ?_
 subst he
 exact ⟨_, rfl, ziz laid (by kernel_rfl) (T := z68) (by kernel_rfl) zmf hW' rfl rfl hst⟩
end Go.Proofs.YtkmalcoocklikaaGreatDoor
