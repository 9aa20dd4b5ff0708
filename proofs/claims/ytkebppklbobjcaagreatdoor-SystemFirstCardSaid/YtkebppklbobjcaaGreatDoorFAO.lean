/- What is proved on the way to a statement of the seat, pressed (text AO). No conditions beyond those its theorems state. -/
import Derived.Test.YtkebppklbobjcaaGreatDoorFAN
set_option linter.all false
namespace Go.Proofs.YtkebppklbobjcaaGreatDoor
open Go.Dm Go.ChangeShapes Go.WideShapes Go.RowKit
theorem zeV : Rows.systemFirstRow.wf (OpenSpec.ofChange Rows.systemFirstSpec) = true := by kernel_rfl
theorem zeU : mapsRowed Tryz.prog = true := by kernel_rfl
theorem zeT : (Tryz.f3.params.all (Tryz.prog.readableRec ·) && namedTie Tryz.prog Rows.systemFirstRow.named Rows.systemFirstSpec.vars) = true := by kernel_rfl
theorem zeS : ((Tryz.prog.stops == []) && (Tryz.prog.stopKnobs == [])) = true := by kernel_rfl
theorem zeR : (Rows.systemFirstRow.inPlace == Tryz.prog.inPlace 3) = true := by kernel_rfl
theorem zeQ : (Rows.systemFirstRow.unfollowed == Tryz.prog.unfollowed 3) = true := by kernel_rfl
theorem zeP : (Rows.systemFirstRow.recurses == Tryz.prog.recurses 3) = true := by kernel_rfl
theorem zeO : (Rows.systemFirstRow.named == Tryz.prog.varsNamed 3) = true := by kernel_rfl
theorem zcw : joinedFacts Tryz.prog 3 Tryz.f3 Rows.systemFirstSpec Rows.systemFirstRow = true := by
 unfold joinedFacts
 have q4 := zeT
 have q5 := zeS
 simp only [Bool.and_eq_true] at q4 q5 ⊢
 refine ⟨⟨⟨⟨⟨⟨⟨⟨⟨⟨⟨⟨⟨⟨⟨⟨⟨⟨⟨⟨⟨⟨⟨⟨⟨⟨⟨⟨⟨⟨⟨zeV, laid⟩, zeU⟩, q4.1⟩, q4.2⟩, rfl⟩, q5.1⟩, rfl⟩, q5.2⟩, zeR⟩, zeQ⟩, zeP⟩, zeO⟩, ?_⟩, ?_⟩, ?_⟩, ?_⟩, ?_⟩, ?_⟩, ?_⟩, ?_⟩, ?_⟩, ?_⟩, ?_⟩, ?_⟩, ?_⟩, ?_⟩, ?_⟩, ?_⟩, ?_⟩, ?_⟩, ?_⟩ <;> kernel_rfl
end Go.Proofs.YtkebppklbobjcaaGreatDoor
