/- What is proved on the way to a statement of the seat, pressed (text AO). No conditions beyond those its theorems state. -/
import Derived.Test.YtdcdhcgmeahfmaaGreatDoorBAN
set_option linter.all false
namespace Go.Proofs.YtdcdhcgmeahfmaaGreatDoor
open Go.Dm Go.ChangeShapes Go.WideShapes Go.RowKit
theorem zfg:Rows.systemScalesRow.wf (OpenSpec.ofChange Rows.systemScalesSpec)=true:=by kernel_rfl
theorem zff:mapsRowed Tryz.prog=true:=by kernel_rfl
theorem zfe:(Tryz.f3.params.all (Tryz.prog.readableRec ·)&&namedTie Tryz.prog Rows.systemScalesRow.named Rows.systemScalesSpec.vars)=true:=by kernel_rfl
theorem zfd:((Tryz.prog.stops == [])&&(Tryz.prog.stopKnobs == []))=true:=by kernel_rfl
theorem zfc:(Rows.systemScalesRow.inPlace == Tryz.prog.inPlace 3)=true:=by kernel_rfl
theorem zfb:(Rows.systemScalesRow.unfollowed == Tryz.prog.unfollowed 3)=true:=by kernel_rfl
theorem zfa:(Rows.systemScalesRow.recurses == Tryz.prog.recurses 3)=true:=by kernel_rfl
theorem zf9:(Rows.systemScalesRow.named == Tryz.prog.varsNamed 3)=true:=by kernel_rfl
theorem zcu:joinedFacts Tryz.prog 3 Tryz.f3 Rows.systemScalesSpec Rows.systemScalesRow=true:=by
 unfold joinedFacts
 have q4:=zfe
 have q5:=zfd
 simp only[Bool.and_eq_true]at q4 q5 ⊢
 refine⟨⟨⟨⟨⟨⟨⟨⟨⟨⟨⟨⟨⟨⟨⟨⟨⟨⟨⟨⟨⟨⟨⟨⟨⟨⟨⟨⟨⟨⟨⟨zfg,laid⟩,zff⟩,q4.1⟩,q4.2⟩,rfl⟩,q5.1⟩,rfl⟩,q5.2⟩,zfc⟩,zfb⟩,zfa⟩,zf9⟩,?_⟩,?_⟩,?_⟩,?_⟩,?_⟩,?_⟩,?_⟩,?_⟩,?_⟩,?_⟩,?_⟩,?_⟩,?_⟩,?_⟩,?_⟩,?_⟩,?_⟩,?_⟩,?_⟩<;>kernel_rfl
end Go.Proofs.YtdcdhcgmeahfmaaGreatDoor
