/- What is proved on the way to a statement of the seat, pressed (text AO). No conditions beyond those its theorems state. -/
import Derived.Test.YtmbidnhdfdnihaaGreatDoorVAN
set_option linter.all false
namespace Go.Proofs.YtmbidnhdfdnihaaGreatDoor
open Go.Dm Go.ChangeShapes Go.WideShapes Go.RowKit
theorem zfR : Rows.systemLateRow.wf (OpenSpec.ofChange Rows.systemLateSpec) = true := by kernel_rfl
theorem zfQ : mapsRowed Tryz.prog = true := by kernel_rfl
theorem zfP : (Tryz.f6.params.all (Tryz.prog.readableRec ·) && namedTie Tryz.prog Rows.systemLateRow.named Rows.systemLateSpec.vars) = true := by kernel_rfl
theorem zfO : ((Tryz.prog.stops == []) && (Tryz.prog.stopKnobs == [])) = true := by kernel_rfl
theorem zfN : (Rows.systemLateRow.inPlace == Tryz.prog.inPlace 6) = true := by kernel_rfl
theorem zfM : (Rows.systemLateRow.unfollowed == Tryz.prog.unfollowed 6) = true := by kernel_rfl
theorem zfL : (Rows.systemLateRow.recurses == Tryz.prog.recurses 6) = true := by kernel_rfl
theorem zfK : (Rows.systemLateRow.named == Tryz.prog.varsNamed 6) = true := by kernel_rfl
theorem zdh : joinedFacts Tryz.prog 6 Tryz.f6 Rows.systemLateSpec Rows.systemLateRow = true := by
 unfold joinedFacts
 have q4 := zfP
 have q5 := zfO
 simp only [Bool.and_eq_true] at q4 q5 ⊢
 refine ⟨⟨⟨⟨⟨⟨⟨⟨⟨⟨⟨⟨⟨⟨⟨⟨⟨⟨⟨⟨⟨⟨⟨⟨⟨⟨⟨⟨⟨⟨⟨zfR, laid⟩, zfQ⟩, q4.1⟩, q4.2⟩, rfl⟩, q5.1⟩, rfl⟩, q5.2⟩, zfN⟩, zfM⟩, zfL⟩, zfK⟩, ?_⟩, ?_⟩, ?_⟩, ?_⟩, ?_⟩, ?_⟩, ?_⟩, ?_⟩, ?_⟩, ?_⟩, ?_⟩, ?_⟩, ?_⟩, ?_⟩, ?_⟩, ?_⟩, ?_⟩, ?_⟩, ?_⟩ <;> kernel_rfl
end Go.Proofs.YtmbidnhdfdnihaaGreatDoor
