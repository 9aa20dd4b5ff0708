/- What is proved on the way to a statement of the seat, pressed (text AN). No conditions beyond those its theorems state. -/
import Derived.Test.YtkebppklbobjcaaGreatDoorQAM
set_option linter.all false
namespace Go.Proofs.YtkebppklbobjcaaGreatDoor
open Go.Dm Go.ChangeShapes Go.WideShapes Go.RowKit
theorem systemGens_q1 : Rows.systemGensRow.wf (OpenSpec.ofChange Rows.systemGensSpec) = true := by kernel_rfl
theorem systemGens_q3 : mapsRowed Tryz.prog = true := by kernel_rfl
theorem systemGens_q4 : (Tryz.f6.params.all (Tryz.prog.readableRec ·) && namedTie Tryz.prog Rows.systemGensRow.named Rows.systemGensSpec.vars) = true := by kernel_rfl
theorem systemGens_q5 : ((Tryz.prog.stops == []) && (Tryz.prog.stopKnobs == [])) = true := by kernel_rfl
theorem systemGens_q6 : (Rows.systemGensRow.inPlace == Tryz.prog.inPlace 6) = true := by kernel_rfl
theorem systemGens_q7 : (Rows.systemGensRow.unfollowed == Tryz.prog.unfollowed 6) = true := by kernel_rfl
theorem systemGens_q8 : (Rows.systemGensRow.recurses == Tryz.prog.recurses 6) = true := by kernel_rfl
theorem systemGens_q9 : (Rows.systemGensRow.named == Tryz.prog.varsNamed 6) = true := by kernel_rfl
theorem systemGens_facts : joinedFacts Tryz.prog 6 Tryz.f6 Rows.systemGensSpec Rows.systemGensRow = true := by
  unfold joinedFacts
  have q4 := systemGens_q4
  have q5 := systemGens_q5
  simp only [Bool.and_eq_true] at q4 q5 ⊢
  refine ⟨⟨⟨⟨⟨⟨⟨⟨⟨⟨⟨⟨⟨⟨⟨⟨⟨⟨⟨⟨⟨⟨⟨⟨⟨⟨⟨⟨⟨⟨⟨systemGens_q1, laid⟩, systemGens_q3⟩, q4.1⟩, q4.2⟩, rfl⟩, q5.1⟩, rfl⟩, q5.2⟩, systemGens_q6⟩, systemGens_q7⟩, systemGens_q8⟩, systemGens_q9⟩, ?_⟩, ?_⟩, ?_⟩, ?_⟩, ?_⟩, ?_⟩, ?_⟩, ?_⟩, ?_⟩, ?_⟩, ?_⟩, ?_⟩, ?_⟩, ?_⟩, ?_⟩, ?_⟩, ?_⟩, ?_⟩, ?_⟩ <;> kernel_rfl
end Go.Proofs.YtkebppklbobjcaaGreatDoor
