/- What is proved on the way to a statement of the seat, pressed (text AO). No conditions beyond those its theorems state. -/
import Derived.Test.YtmbidnhdfdnihaaGreatDoorUAN
set_option linter.all false
namespace Go.Proofs.YtmbidnhdfdnihaaGreatDoor
open Go.Dm Go.ChangeShapes Go.WideShapes Go.RowKit
theorem zeZ : Rows.systemKillsRow.wf (OpenSpec.ofChange Rows.systemKillsSpec) = true := by kernel_rfl
theorem zeY : mapsRowed Tryz.prog = true := by kernel_rfl
theorem zeX : (Tryz.f5.params.all (Tryz.prog.readableRec ·) && namedTie Tryz.prog Rows.systemKillsRow.named Rows.systemKillsSpec.vars) = true := by kernel_rfl
theorem zeW : ((Tryz.prog.stops == []) && (Tryz.prog.stopKnobs == [])) = true := by kernel_rfl
theorem zeV : (Rows.systemKillsRow.inPlace == Tryz.prog.inPlace 5) = true := by kernel_rfl
theorem zeU : (Rows.systemKillsRow.unfollowed == Tryz.prog.unfollowed 5) = true := by kernel_rfl
theorem zeT : (Rows.systemKillsRow.recurses == Tryz.prog.recurses 5) = true := by kernel_rfl
theorem zeS : (Rows.systemKillsRow.named == Tryz.prog.varsNamed 5) = true := by kernel_rfl
theorem zcx : joinedFacts Tryz.prog 5 Tryz.f5 Rows.systemKillsSpec Rows.systemKillsRow = true := by
 unfold joinedFacts
 have q4 := zeX
 have q5 := zeW
 simp only [Bool.and_eq_true] at q4 q5 ⊢
 refine ⟨⟨⟨⟨⟨⟨⟨⟨⟨⟨⟨⟨⟨⟨⟨⟨⟨⟨⟨⟨⟨⟨⟨⟨⟨⟨⟨⟨⟨⟨⟨zeZ, laid⟩, zeY⟩, q4.1⟩, q4.2⟩, rfl⟩, q5.1⟩, rfl⟩, q5.2⟩, zeV⟩, zeU⟩, zeT⟩, zeS⟩, ?_⟩, ?_⟩, ?_⟩, ?_⟩, ?_⟩, ?_⟩, ?_⟩, ?_⟩, ?_⟩, ?_⟩, ?_⟩, ?_⟩, ?_⟩, ?_⟩, ?_⟩, ?_⟩, ?_⟩, ?_⟩, ?_⟩ <;> kernel_rfl
end Go.Proofs.YtmbidnhdfdnihaaGreatDoor
