/- What is proved on the way to a statement of the seat, pressed (text AO). No conditions beyond those its theorems state. -/
import Derived.Test.YtkebppklbobjcaaGreatDoorRAN
set_option linter.all false
namespace Go.Proofs.YtkebppklbobjcaaGreatDoor
open Go.Dm Go.ChangeShapes Go.WideShapes Go.RowKit
theorem systemRolls_q1 : Rows.systemRollsRow.wf (OpenSpec.ofChange Rows.systemRollsSpec) = true := by kernel_rfl
theorem systemRolls_q3 : mapsRowed Tryz.prog = true := by kernel_rfl
theorem systemRolls_q4 : (Tryz.f5.params.all (Tryz.prog.readableRec ·) && namedTie Tryz.prog Rows.systemRollsRow.named Rows.systemRollsSpec.vars) = true := by kernel_rfl
theorem systemRolls_q5 : ((Tryz.prog.stops == []) && (Tryz.prog.stopKnobs == [])) = true := by kernel_rfl
theorem systemRolls_q6 : (Rows.systemRollsRow.inPlace == Tryz.prog.inPlace 5) = true := by kernel_rfl
theorem systemRolls_q7 : (Rows.systemRollsRow.unfollowed == Tryz.prog.unfollowed 5) = true := by kernel_rfl
theorem systemRolls_q8 : (Rows.systemRollsRow.recurses == Tryz.prog.recurses 5) = true := by kernel_rfl
theorem systemRolls_q9 : (Rows.systemRollsRow.named == Tryz.prog.varsNamed 5) = true := by kernel_rfl
theorem systemRolls_facts : joinedFacts Tryz.prog 5 Tryz.f5 Rows.systemRollsSpec Rows.systemRollsRow = true := by
 unfold joinedFacts
 have q4 := systemRolls_q4
 have q5 := systemRolls_q5
 simp only [Bool.and_eq_true] at q4 q5 ⊢
 refine ⟨⟨⟨⟨⟨⟨⟨⟨⟨⟨⟨⟨⟨⟨⟨⟨⟨⟨⟨⟨⟨⟨⟨⟨⟨⟨⟨⟨⟨⟨⟨systemRolls_q1, laid⟩, systemRolls_q3⟩, q4.1⟩, q4.2⟩, rfl⟩, q5.1⟩, rfl⟩, q5.2⟩, systemRolls_q6⟩, systemRolls_q7⟩, systemRolls_q8⟩, systemRolls_q9⟩, ?_⟩, ?_⟩, ?_⟩, ?_⟩, ?_⟩, ?_⟩, ?_⟩, ?_⟩, ?_⟩, ?_⟩, ?_⟩, ?_⟩, ?_⟩, ?_⟩, ?_⟩, ?_⟩, ?_⟩, ?_⟩, ?_⟩ <;> kernel_rfl
end Go.Proofs.YtkebppklbobjcaaGreatDoor
