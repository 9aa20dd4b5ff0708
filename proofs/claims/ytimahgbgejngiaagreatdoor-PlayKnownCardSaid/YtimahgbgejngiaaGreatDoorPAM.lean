/- What is proved on the way to a statement of the seat, pressed (text AM). No conditions beyond those its theorems state. -/
import Derived.Test.YtimahgbgejngiaaGreatDoorPAL
set_option linter.all false
namespace Go.Proofs.YtimahgbgejngiaaGreatDoor
open Go.Dm Go.ChangeShapes Go.WideShapes Go.RowKit
def tE:Rows.playKnownRow.wf (OpenSpec.ofChange Rows.playKnownSpec)=true:=by kernel_rfl
def tD:mapsRowed Tryz.prog=true:=by kernel_rfl
def tC:(Tryz.f4.params.all (Tryz.prog.readableRec ·)&&namedTie Tryz.prog Rows.playKnownRow.named Rows.playKnownSpec.vars)=true:=by kernel_rfl
def tx:((Tryz.prog.stops == [])&&(Tryz.prog.stopKnobs == []))=true:=by kernel_rfl
def tu:(Rows.playKnownRow.inPlace == Tryz.prog.inPlace 4)=true:=by kernel_rfl
def tt:(Rows.playKnownRow.unfollowed == Tryz.prog.unfollowed 4)=true:=by kernel_rfl
def tr:(Rows.playKnownRow.recurses == Tryz.prog.recurses 4)=true:=by kernel_rfl
def tq:(Rows.playKnownRow.named == Tryz.prog.varsNamed 4)=true:=by kernel_rfl
def Fs:joinedFacts Tryz.prog 4 Tryz.f4 Rows.playKnownSpec Rows.playKnownRow=true:=by
 unfold joinedFacts;have q4:=tC;have q5:=tx;simp only[Bool.and_eq_true]at q4 q5 ⊢;refine⟨⟨⟨⟨⟨⟨⟨⟨⟨⟨⟨⟨⟨⟨⟨⟨⟨⟨⟨⟨⟨⟨⟨⟨⟨⟨⟨⟨⟨⟨⟨tE,laid⟩,tD⟩,q4.1⟩,q4.2⟩,rfl⟩,q5.1⟩,rfl⟩,q5.2⟩,tu⟩,tt⟩,tr⟩,tq⟩,?_⟩,?_⟩,?_⟩,?_⟩,?_⟩,?_⟩,?_⟩,?_⟩,?_⟩,?_⟩,?_⟩,?_⟩,?_⟩,?_⟩,?_⟩,?_⟩,?_⟩,?_⟩,?_⟩<;>kernel_rfl
end Go.Proofs.YtimahgbgejngiaaGreatDoor
