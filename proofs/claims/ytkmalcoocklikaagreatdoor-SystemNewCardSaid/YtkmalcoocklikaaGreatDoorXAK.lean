/- What is proved on the way to a statement of the seat, pressed (text AK). No conditions beyond those its theorems state. -/
import Derived.Test.YtkmalcoocklikaaGreatDoorXAJ
import Derived.SevenTiedAt
import Derived.Stop.Joined
import Derived.Test.YtkmalcoocklikaaGreatDoorRows
import Derived.Test.YtkmalcoocklikaaGreatDoorCards
import Derived.Test.YtkmalcoocklikaaGreatDoorTie
set_option linter.all false
namespace Go.Proofs.YtkmalcoocklikaaGreatDoor
open Go.Dm Go.ChangeShapes Go.WideShapes Go.RowKit
theorem own : ownKnob Pr.godebug = none := by kernel_rfl
theorem laid : laidOutB Pr = true := by kernel_rfl
theorem ze3 : Pr.underlying zdj = some .bool := by kernel_rfl
theorem zcg : Pr.underlying z0g = some (.int .i64) := by kernel_rfl
theorem par4 : Tryz.f4.params = #[z0g, z0g, z0g, z0g] := by kernel_rfl
theorem z7o (os : Os) (args : Array Value) : laidMetH Tryz.prog Rows.systemNewRow.laid ((World.doorLaid Tryz.prog 400 os).forCall (fun _ _ => 0) ⟨#[], args, []⟩).memory :=
 laidMetH_of_parts3 (fuel := 8) (laidMet_of_run' 8 (by kernel_rfl) (by kernel_rfl)) (by kernel_rfl) (by kernel_rfl)
set_option maxRecDepth 100000 in
theorem z6s (os : Os) (started : os.Started) (H : Type) (enc : TypeId × Value → H) :
  ReturnsInHanded {} Tryz.checked os 4 .any (fun w args => (Rows.systemNewSpec.pre enc Tryz.prog Tryz.f4 Rows.systemNewRow.domain false w args ∧ laidMetH Tryz.prog Rows.systemNewRow.laid w) ∧ sizedMet enc Tryz.prog Tryz.f4 (OpenSpec.ofChange Rows.systemNewSpec) false w args)
   (Rows.systemNewSpec.post enc Tryz.prog Tryz.f4 false true false false) := by
 refine returnsInHanded_of_change_and (C := Tryz.checked) (X := fun w _ => laidMetH Tryz.prog Rows.systemNewRow.laid w) (fun _ _ _ hh h => h.of_heap hh) own started (by kernel_rfl) (by kernel_rfl)
  (ChangeSpec.witness_shaped (enc := enc) (C := Tryz.checked) (os := os) (X := fun w _ => laidMetH Tryz.prog Rows.systemNewRow.laid w) false (World.doorLaid Tryz.prog 400 os) #[.int .i64 0, .int .i64 0, .int .i64 0, .int .i64 0] 8 rfl (World.shaped_of_RefB (by kernel_rfl) (by kernel_rfl)) (by kernel_rfl) (by kernel_rfl) (by kernel_rfl) (z7o os _)) ?_
 intro W base args ds gs before hval hW hq1 hq2 hq3 hq4
 have hW' := hW
 obtain ⟨p, q, hA0, hV, rfl, hfz, hnd⟩ := hW
 have hA : DataW.TrodAll enc Tryz.prog W 0 (fun _ => true) true Tryz.f4.params.toList args.toList ds p := hA0
 have hval : ∀ (j : Nat) t v, Tryz.f4.params[j]? = some t → args[j]? = some v → Value.okWide Tryz.prog W .any base t v := hval
 rw [par4] at hA hval
 obtain ⟨v0, vs0, d0, ds0, p0, q0, hargs, rfl, rfl, h0, r0⟩ := trodAll_cons hA
 obtain ⟨v1, vs1, d1, ds1, p1, q1, rfl, rfl, rfl, h1, r1⟩ := trodAll_cons r0
 obtain ⟨v2, vs2, d2, ds2, p2, q2, rfl, rfl, rfl, h2, r2⟩ := trodAll_cons r1
 obtain ⟨v3, vs3, d3, ds3, p3, q3, rfl, rfl, rfl, h3, r3⟩ := trodAll_cons r2
 obtain ⟨rfl, rfl, rfl⟩ := trodAll_nil r3
 obtain rfl : args = #[v0, v1, v2, v3] := by cases args; simp_all
 obtain ⟨rfl, rfl⟩ := trodVars_none hV
 obtain ⟨n0, rfl, _, b0, _⟩ := open_int zcg (hval 0 _ _ rfl rfl) h0
 obtain ⟨n1, rfl, _, b1, _⟩ := open_int zcg (hval 1 _ _ rfl rfl) h1
 obtain ⟨n2, rfl, _, b2, _⟩ := open_int zcg (hval 2 _ _ rfl rfl) h2
 obtain ⟨n3, rfl, _, b3, _⟩ := open_int zcg (hval 3 _ _ rfl rfl) h3
 haveI : bTab W := ⟨ze6 (by kernel_rfl) (by kernel_rfl) (by kernel_rfl) hq3⟩
 refine (z9M n0 n1 n2 n3 ).mono fun e W' ⟨he, hst⟩ => ?_
 subst he
 exact ⟨_, rfl, zbx laid (by kernel_rfl) (T := zdj) (by kernel_rfl) ze3 hW' rfl rfl hst⟩
end Go.Proofs.YtkmalcoocklikaaGreatDoor
