/- What is proved on the way to a statement of the seat, pressed (text AO). No conditions beyond those its theorems state. -/
import Derived.Test.YtmbidnhdfdnihaaGreatDoorTAN
set_option linter.all false
namespace Go.Proofs.YtmbidnhdfdnihaaGreatDoor
open Go.Dm Go.ChangeShapes Go.WideShapes Go.RowKit
theorem zf3 : Rows.systemPokesRow.wf (OpenSpec.ofChange Rows.systemPokesSpec) = true := by kernel_rfl
theorem zf2 : mapsRowed Tryz.prog = true := by kernel_rfl
theorem zf1 : (Tryz.f4.params.all (Tryz.prog.readableRec ·) && namedTie Tryz.prog Rows.systemPokesRow.named Rows.systemPokesSpec.vars) = true := by kernel_rfl
theorem zf0 : ((Tryz.prog.stops == []) && (Tryz.prog.stopKnobs == [])) = true := by kernel_rfl
theorem zeZ : (Rows.systemPokesRow.inPlace == Tryz.prog.inPlace 4) = true := by kernel_rfl
theorem zeY : (Rows.systemPokesRow.unfollowed == Tryz.prog.unfollowed 4) = true := by kernel_rfl
theorem zeX : (Rows.systemPokesRow.recurses == Tryz.prog.recurses 4) = true := by kernel_rfl
theorem zeW : (Rows.systemPokesRow.named == Tryz.prog.varsNamed 4) = true := by kernel_rfl
theorem zcG : joinedFacts Tryz.prog 4 Tryz.f4 Rows.systemPokesSpec Rows.systemPokesRow = true := by
 unfold joinedFacts
 have q4 := zf1
 have q5 := zf0
 simp only [Bool.and_eq_true] at q4 q5 ⊢
 refine ⟨⟨⟨⟨⟨⟨⟨⟨⟨⟨⟨⟨⟨⟨⟨⟨⟨⟨⟨⟨⟨⟨⟨⟨⟨⟨⟨⟨⟨⟨⟨zf3, laid⟩, zf2⟩, q4.1⟩, q4.2⟩, rfl⟩, q5.1⟩, rfl⟩, q5.2⟩, zeZ⟩, zeY⟩, zeX⟩, zeW⟩, ?_⟩, ?_⟩, ?_⟩, ?_⟩, ?_⟩, ?_⟩, ?_⟩, ?_⟩, ?_⟩, ?_⟩, ?_⟩, ?_⟩, ?_⟩, ?_⟩, ?_⟩, ?_⟩, ?_⟩, ?_⟩, ?_⟩ <;> kernel_rfl
end Go.Proofs.YtmbidnhdfdnihaaGreatDoor
