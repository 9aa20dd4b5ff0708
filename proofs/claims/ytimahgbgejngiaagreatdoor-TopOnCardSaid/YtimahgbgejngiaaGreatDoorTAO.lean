/- What is proved on the way to a statement of the seat, pressed (text AO). No conditions beyond those its theorems state. -/
import Derived.Test.YtimahgbgejngiaaGreatDoorTAN
set_option linter.all false
namespace Go.Proofs.YtimahgbgejngiaaGreatDoor
open Go.Dm Go.ChangeShapes Go.WideShapes Go.RowKit
def EE:Rows.topOnRow.wf (OpenSpec.ofChange Rows.topOnSpec)=true:=by kernel_rfl
def ED:mapsRowed Tryz.prog=true:=by kernel_rfl
def EC:(Tryz.f3.params.all (Tryz.prog.readableRec ·)&&namedTie Tryz.prog Rows.topOnRow.named Rows.topOnSpec.vars)=true:=by kernel_rfl
def EB:((Tryz.prog.stops == [])&&(Tryz.prog.stopKnobs == []))=true:=by kernel_rfl
def EA:(Rows.topOnRow.inPlace == Tryz.prog.inPlace 3)=true:=by kernel_rfl
def Ez:(Rows.topOnRow.unfollowed == Tryz.prog.unfollowed 3)=true:=by kernel_rfl
def Ey:(Rows.topOnRow.recurses == Tryz.prog.recurses 3)=true:=by kernel_rfl
def Ew:(Rows.topOnRow.named == Tryz.prog.varsNamed 3)=true:=by kernel_rfl
def rp:joinedFacts Tryz.prog 3 Tryz.f3 Rows.topOnSpec Rows.topOnRow=true:=by
 unfold joinedFacts;have q4:=EC;have q5:=EB;simp only[Bool.and_eq_true]at q4 q5 ⊢;refine⟨⟨⟨⟨⟨⟨⟨⟨⟨⟨⟨⟨⟨⟨⟨⟨⟨⟨⟨⟨⟨⟨⟨⟨⟨⟨⟨⟨⟨⟨⟨EE,laid⟩,ED⟩,q4.1⟩,q4.2⟩,rfl⟩,q5.1⟩,rfl⟩,q5.2⟩,EA⟩,Ez⟩,Ey⟩,Ew⟩,?_⟩,?_⟩,?_⟩,?_⟩,?_⟩,?_⟩,?_⟩,?_⟩,?_⟩,?_⟩,?_⟩,?_⟩,?_⟩,?_⟩,?_⟩,?_⟩,?_⟩,?_⟩,?_⟩<;>kernel_rfl
end Go.Proofs.YtimahgbgejngiaaGreatDoor
