/- What is proved on the way to a statement of the seat, pressed (text AO). No conditions beyond those its theorems state. -/
import Derived.Test.YtkmalcoocklikaaGreatDoorZAN
set_option linter.all false
namespace Go.Proofs.YtkmalcoocklikaaGreatDoor
open Go.Dm Go.ChangeShapes Go.WideShapes Go.RowKit
theorem zfU : Rows.fairRestRow.wf (OpenSpec.ofChange Rows.fairRestSpec) = true := by kernel_rfl
theorem zfT : mapsRowed Tryz.prog = true := by kernel_rfl
theorem zfS : (Tryz.f6.params.all (Tryz.prog.readableRec ·) && namedTie Tryz.prog Rows.fairRestRow.named Rows.fairRestSpec.vars) = true := by kernel_rfl
theorem zfR : ((Tryz.prog.stops == []) && (Tryz.prog.stopKnobs == [])) = true := by kernel_rfl
theorem zfQ : (Rows.fairRestRow.inPlace == Tryz.prog.inPlace 6) = true := by kernel_rfl
theorem zfP : (Rows.fairRestRow.unfollowed == Tryz.prog.unfollowed 6) = true := by kernel_rfl
theorem zfO : (Rows.fairRestRow.recurses == Tryz.prog.recurses 6) = true := by kernel_rfl
theorem zfN : (Rows.fairRestRow.named == Tryz.prog.varsNamed 6) = true := by kernel_rfl
theorem zcJ : joinedFacts Tryz.prog 6 Tryz.f6 Rows.fairRestSpec Rows.fairRestRow = true := by
 unfold joinedFacts
 have q4 := zfS
 have q5 := zfR
 simp only [Bool.and_eq_true] at q4 q5 ⊢
 refine ⟨⟨⟨⟨⟨⟨⟨⟨⟨⟨⟨⟨⟨⟨⟨⟨⟨⟨⟨⟨⟨⟨⟨⟨⟨⟨⟨⟨⟨⟨⟨zfU, laid⟩, zfT⟩, q4.1⟩, q4.2⟩, rfl⟩, q5.1⟩, rfl⟩, q5.2⟩, zfQ⟩, zfP⟩, zfO⟩, zfN⟩, ?_⟩, ?_⟩, ?_⟩, ?_⟩, ?_⟩, ?_⟩, ?_⟩, ?_⟩, ?_⟩, ?_⟩, ?_⟩, ?_⟩, ?_⟩, ?_⟩, ?_⟩, ?_⟩, ?_⟩, ?_⟩, ?_⟩ <;> kernel_rfl
end Go.Proofs.YtkmalcoocklikaaGreatDoor
