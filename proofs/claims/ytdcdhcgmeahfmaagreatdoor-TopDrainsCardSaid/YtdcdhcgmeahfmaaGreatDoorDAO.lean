/- What is proved on the way to a statement of the seat, pressed (text AO). No conditions beyond those its theorems state. -/
import Derived.Test.YtdcdhcgmeahfmaaGreatDoorDAN
set_option linter.all false
namespace Go.Proofs.YtdcdhcgmeahfmaaGreatDoor
open Go.Dm Go.ChangeShapes Go.WideShapes Go.RowKit
theorem ziy:Rows.topDrainsRow.wf (OpenSpec.ofChange Rows.topDrainsSpec)=true:=by kernel_rfl
theorem zix:mapsRowed Tryz.prog=true:=by kernel_rfl
theorem ziw:(Tryz.f5.params.all (Tryz.prog.readableRec ·)&&namedTie Tryz.prog Rows.topDrainsRow.named Rows.topDrainsSpec.vars)=true:=by kernel_rfl
theorem ziv:((Tryz.prog.stops == [])&&(Tryz.prog.stopKnobs == []))=true:=by kernel_rfl
theorem ziu:(Rows.topDrainsRow.inPlace == Tryz.prog.inPlace 5)=true:=by kernel_rfl
theorem zit:(Rows.topDrainsRow.unfollowed == Tryz.prog.unfollowed 5)=true:=by kernel_rfl
theorem zis:(Rows.topDrainsRow.recurses == Tryz.prog.recurses 5)=true:=by kernel_rfl
theorem zir:(Rows.topDrainsRow.named == Tryz.prog.varsNamed 5)=true:=by kernel_rfl
theorem zf7:joinedFacts Tryz.prog 5 Tryz.f5 Rows.topDrainsSpec Rows.topDrainsRow=true:=by
 unfold joinedFacts
 have q4:=ziw
 have q5:=ziv
 simp only[Bool.and_eq_true]at q4 q5 ⊢
 refine⟨⟨⟨⟨⟨⟨⟨⟨⟨⟨⟨⟨⟨⟨⟨⟨⟨⟨⟨⟨⟨⟨⟨⟨⟨⟨⟨⟨⟨⟨⟨ziy,laid⟩,zix⟩,q4.1⟩,q4.2⟩,rfl⟩,q5.1⟩,rfl⟩,q5.2⟩,ziu⟩,zit⟩,zis⟩,zir⟩,?_⟩,?_⟩,?_⟩,?_⟩,?_⟩,?_⟩,?_⟩,?_⟩,?_⟩,?_⟩,?_⟩,?_⟩,?_⟩,?_⟩,?_⟩,?_⟩,?_⟩,?_⟩,?_⟩<;>kernel_rfl
end Go.Proofs.YtdcdhcgmeahfmaaGreatDoor
