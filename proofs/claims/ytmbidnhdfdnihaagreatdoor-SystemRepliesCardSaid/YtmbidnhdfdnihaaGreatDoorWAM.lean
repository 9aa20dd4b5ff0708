/- What is proved on the way to a statement of the seat, pressed (text AM). No conditions beyond those its theorems state. -/
import Derived.Test.YtmbidnhdfdnihaaGreatDoorWAL
set_option linter.all false
namespace Go.Proofs.YtmbidnhdfdnihaaGreatDoor
open Go.Dm Go.ChangeShapes Go.WideShapes Go.RowKit
theorem z7j : Rows.systemRepliesRow.wf (OpenSpec.ofChange Rows.systemRepliesSpec) = true := by kernel_rfl
theorem z7i : mapsRowed Tryz.prog = true := by kernel_rfl
theorem z7h : (Tryz.f3.params.all (Tryz.prog.readableRec ·) && namedTie Tryz.prog Rows.systemRepliesRow.named Rows.systemRepliesSpec.vars) = true := by kernel_rfl
theorem z7g : ((Tryz.prog.stops == []) && (Tryz.prog.stopKnobs == [])) = true := by kernel_rfl
theorem z7f : (Rows.systemRepliesRow.inPlace == Tryz.prog.inPlace 3) = true := by kernel_rfl
theorem z7e : (Rows.systemRepliesRow.unfollowed == Tryz.prog.unfollowed 3) = true := by kernel_rfl
theorem z7d : (Rows.systemRepliesRow.recurses == Tryz.prog.recurses 3) = true := by kernel_rfl
theorem z7c : (Rows.systemRepliesRow.named == Tryz.prog.varsNamed 3) = true := by kernel_rfl
theorem z5H : joinedFacts Tryz.prog 3 Tryz.f3 Rows.systemRepliesSpec Rows.systemRepliesRow = true := by
 unfold joinedFacts
 have q4 := z7h
 have q5 := z7g
 simp only [Bool.and_eq_true] at q4 q5 ⊢
 refine ⟨⟨⟨⟨⟨⟨⟨⟨⟨⟨⟨⟨⟨⟨⟨⟨⟨⟨⟨⟨⟨⟨⟨⟨⟨⟨⟨⟨⟨⟨⟨z7j, laid⟩, z7i⟩, q4.1⟩, q4.2⟩, rfl⟩, q5.1⟩, rfl⟩, q5.2⟩, z7f⟩, z7e⟩, z7d⟩, z7c⟩, ?_⟩, ?_⟩, ?_⟩, ?_⟩, ?_⟩, ?_⟩, ?_⟩, ?_⟩, ?_⟩, ?_⟩, ?_⟩, ?_⟩, ?_⟩, ?_⟩, ?_⟩, ?_⟩, ?_⟩, ?_⟩, ?_⟩ <;> kernel_rfl
end Go.Proofs.YtmbidnhdfdnihaaGreatDoor
