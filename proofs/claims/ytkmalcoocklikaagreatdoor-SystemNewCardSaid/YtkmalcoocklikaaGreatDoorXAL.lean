/- What is proved on the way to a statement of the seat, pressed (text AL). No conditions beyond those its theorems state. -/
import Derived.Test.YtkmalcoocklikaaGreatDoorXAK
set_option linter.all false
namespace Go.Proofs.YtkmalcoocklikaaGreatDoor
open Go.Dm Go.ChangeShapes Go.WideShapes Go.RowKit
theorem z8H : Rows.systemNewRow.wf (OpenSpec.ofChange Rows.systemNewSpec) = true := by kernel_rfl
theorem z8G : mapsRowed Tryz.prog = true := by kernel_rfl
theorem z8F : (Tryz.f4.params.all (Tryz.prog.readableRec ·) && namedTie Tryz.prog Rows.systemNewRow.named Rows.systemNewSpec.vars) = true := by kernel_rfl
theorem z8E : ((Tryz.prog.stops == []) && (Tryz.prog.stopKnobs == [])) = true := by kernel_rfl
theorem z8D : (Rows.systemNewRow.inPlace == Tryz.prog.inPlace 4) = true := by kernel_rfl
theorem z8C : (Rows.systemNewRow.unfollowed == Tryz.prog.unfollowed 4) = true := by kernel_rfl
theorem z8B : (Rows.systemNewRow.recurses == Tryz.prog.recurses 4) = true := by kernel_rfl
theorem z8A : (Rows.systemNewRow.named == Tryz.prog.varsNamed 4) = true := by kernel_rfl
theorem z6L : joinedFacts Tryz.prog 4 Tryz.f4 Rows.systemNewSpec Rows.systemNewRow = true := by
 unfold joinedFacts
 have q4 := z8F
 have q5 := z8E
 simp only [Bool.and_eq_true] at q4 q5 ⊢
 refine ⟨⟨⟨⟨⟨⟨⟨⟨⟨⟨⟨⟨⟨⟨⟨⟨⟨⟨⟨⟨⟨⟨⟨⟨⟨⟨⟨⟨⟨⟨⟨z8H, laid⟩, z8G⟩, q4.1⟩, q4.2⟩, rfl⟩, q5.1⟩, rfl⟩, q5.2⟩, z8D⟩, z8C⟩, z8B⟩, z8A⟩, ?_⟩, ?_⟩, ?_⟩, ?_⟩, ?_⟩, ?_⟩, ?_⟩, ?_⟩, ?_⟩, ?_⟩, ?_⟩, ?_⟩, ?_⟩, ?_⟩, ?_⟩, ?_⟩, ?_⟩, ?_⟩, ?_⟩ <;> kernel_rfl
end Go.Proofs.YtkmalcoocklikaaGreatDoor
