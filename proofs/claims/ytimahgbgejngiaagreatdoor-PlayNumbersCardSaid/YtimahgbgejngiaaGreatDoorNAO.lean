/- What is proved on the way to a statement of the seat, pressed (text AO). No conditions beyond those its theorems state. -/
import Derived.Test.YtimahgbgejngiaaGreatDoorNAN
set_option linter.all false
namespace Go.Proofs.YtimahgbgejngiaaGreatDoor
open Go.Dm Go.ChangeShapes Go.WideShapes Go.RowKit
def dD:Rows.playNumbersRow.wf (OpenSpec.ofChange Rows.playNumbersSpec)=true:=by kernel_rfl
def dC:mapsRowed Tryz.prog=true:=by kernel_rfl
def dw:(Tryz.f5.params.all (Tryz.prog.readableRec ·)&&namedTie Tryz.prog Rows.playNumbersRow.named Rows.playNumbersSpec.vars)=true:=by kernel_rfl
def dv:((Tryz.prog.stops == [])&&(Tryz.prog.stopKnobs == []))=true:=by kernel_rfl
def du:(Rows.playNumbersRow.inPlace == Tryz.prog.inPlace 5)=true:=by kernel_rfl
def dt:(Rows.playNumbersRow.unfollowed == Tryz.prog.unfollowed 5)=true:=by kernel_rfl
def dq:(Rows.playNumbersRow.recurses == Tryz.prog.recurses 5)=true:=by kernel_rfl
def dp:(Rows.playNumbersRow.named == Tryz.prog.varsNamed 5)=true:=by kernel_rfl
def Pm:joinedFacts Tryz.prog 5 Tryz.f5 Rows.playNumbersSpec Rows.playNumbersRow=true:=by
 unfold joinedFacts;have q4:=dw;have q5:=dv;simp only[Bool.and_eq_true]at q4 q5 ⊢;refine⟨⟨⟨⟨⟨⟨⟨⟨⟨⟨⟨⟨⟨⟨⟨⟨⟨⟨⟨⟨⟨⟨⟨⟨⟨⟨⟨⟨⟨⟨⟨dD,laid⟩,dC⟩,q4.1⟩,q4.2⟩,rfl⟩,q5.1⟩,rfl⟩,q5.2⟩,du⟩,dt⟩,dq⟩,dp⟩,?_⟩,?_⟩,?_⟩,?_⟩,?_⟩,?_⟩,?_⟩,?_⟩,?_⟩,?_⟩,?_⟩,?_⟩,?_⟩,?_⟩,?_⟩,?_⟩,?_⟩,?_⟩,?_⟩<;>kernel_rfl
end Go.Proofs.YtimahgbgejngiaaGreatDoor
