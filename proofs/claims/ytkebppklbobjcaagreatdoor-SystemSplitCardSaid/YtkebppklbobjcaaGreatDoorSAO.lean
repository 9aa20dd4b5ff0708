/- What is proved on the way to a statement of the seat, pressed (text AO). No conditions beyond those its theorems state. -/
import Derived.Test.YtkebppklbobjcaaGreatDoorSAN
set_option linter.all false
namespace Go.Proofs.YtkebppklbobjcaaGreatDoor
open Go.Dm Go.ChangeShapes Go.WideShapes Go.RowKit
theorem zet : Rows.systemSplitRow.wf (OpenSpec.ofChange Rows.systemSplitSpec) = true := by kernel_rfl
theorem zes : mapsRowed Tryz.prog = true := by kernel_rfl
theorem zer : (Tryz.f4.params.all (Tryz.prog.readableRec ·) && namedTie Tryz.prog Rows.systemSplitRow.named Rows.systemSplitSpec.vars) = true := by kernel_rfl
theorem zeq : ((Tryz.prog.stops == []) && (Tryz.prog.stopKnobs == [])) = true := by kernel_rfl
theorem zep : (Rows.systemSplitRow.inPlace == Tryz.prog.inPlace 4) = true := by kernel_rfl
theorem zeo : (Rows.systemSplitRow.unfollowed == Tryz.prog.unfollowed 4) = true := by kernel_rfl
theorem zen : (Rows.systemSplitRow.recurses == Tryz.prog.recurses 4) = true := by kernel_rfl
theorem zem : (Rows.systemSplitRow.named == Tryz.prog.varsNamed 4) = true := by kernel_rfl
theorem zc6 : joinedFacts Tryz.prog 4 Tryz.f4 Rows.systemSplitSpec Rows.systemSplitRow = true := by
 unfold joinedFacts
 have q4 := zer
 have q5 := zeq
 simp only [Bool.and_eq_true] at q4 q5 ⊢
 refine ⟨⟨⟨⟨⟨⟨⟨⟨⟨⟨⟨⟨⟨⟨⟨⟨⟨⟨⟨⟨⟨⟨⟨⟨⟨⟨⟨⟨⟨⟨⟨zet, laid⟩, zes⟩, q4.1⟩, q4.2⟩, rfl⟩, q5.1⟩, rfl⟩, q5.2⟩, zep⟩, zeo⟩, zen⟩, zem⟩, ?_⟩, ?_⟩, ?_⟩, ?_⟩, ?_⟩, ?_⟩, ?_⟩, ?_⟩, ?_⟩, ?_⟩, ?_⟩, ?_⟩, ?_⟩, ?_⟩, ?_⟩, ?_⟩, ?_⟩, ?_⟩, ?_⟩ <;> kernel_rfl
end Go.Proofs.YtkebppklbobjcaaGreatDoor
