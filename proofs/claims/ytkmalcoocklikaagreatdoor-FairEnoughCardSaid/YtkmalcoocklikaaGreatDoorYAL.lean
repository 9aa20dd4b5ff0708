/- What is proved on the way to a statement of the seat, pressed (text AL). No conditions beyond those its theorems state. -/
import Derived.Test.YtkmalcoocklikaaGreatDoorYAK
set_option linter.all false
namespace Go.Proofs.YtkmalcoocklikaaGreatDoor
open Go.Dm Go.ChangeShapes Go.WideShapes Go.RowKit
theorem z86 : Rows.fairEnoughRow.wf (OpenSpec.ofChange Rows.fairEnoughSpec) = true := by kernel_rfl
theorem z84 : mapsRowed Tryz.prog = true := by kernel_rfl
theorem z83 : (Tryz.f5.params.all (Tryz.prog.readableRec ·) && namedTie Tryz.prog Rows.fairEnoughRow.named Rows.fairEnoughSpec.vars) = true := by kernel_rfl
theorem z82 : ((Tryz.prog.stops == []) && (Tryz.prog.stopKnobs == [])) = true := by kernel_rfl
theorem z81 : (Rows.fairEnoughRow.inPlace == Tryz.prog.inPlace 5) = true := by kernel_rfl
theorem z80 : (Rows.fairEnoughRow.unfollowed == Tryz.prog.unfollowed 5) = true := by kernel_rfl
theorem z7Z : (Rows.fairEnoughRow.recurses == Tryz.prog.recurses 5) = true := by kernel_rfl
theorem z7Y : (Rows.fairEnoughRow.named == Tryz.prog.varsNamed 5) = true := by kernel_rfl
theorem z6f : joinedFacts Tryz.prog 5 Tryz.f5 Rows.fairEnoughSpec Rows.fairEnoughRow = true := by
 unfold joinedFacts
 have q4 := z83
 have q5 := z82
 simp only [Bool.and_eq_true] at q4 q5 ⊢
 refine ⟨⟨⟨⟨⟨⟨⟨⟨⟨⟨⟨⟨⟨⟨⟨⟨⟨⟨⟨⟨⟨⟨⟨⟨⟨⟨⟨⟨⟨⟨⟨z86, laid⟩, z84⟩, q4.1⟩, q4.2⟩, rfl⟩, q5.1⟩, rfl⟩, q5.2⟩, z81⟩, z80⟩, z7Z⟩, z7Y⟩, ?_⟩, ?_⟩, ?_⟩, ?_⟩, ?_⟩, ?_⟩, ?_⟩, ?_⟩, ?_⟩, ?_⟩, ?_⟩, ?_⟩, ?_⟩, ?_⟩, ?_⟩, ?_⟩, ?_⟩, ?_⟩, ?_⟩ <;> kernel_rfl
end Go.Proofs.YtkmalcoocklikaaGreatDoor
