/- What is proved on the way to a statement of the seat, pressed (text AN). No conditions beyond those its theorems state. -/
import Derived.Test.YtdcdhcgmeahfmaaGreatDoorFAM
set_option linter.all false
namespace Go.Proofs.YtdcdhcgmeahfmaaGreatDoor
open Go.Dm Go.ChangeShapes Go.WideShapes Go.RowKit
def Ap:Rows.fairOnRow.wf (OpenSpec.ofChange Rows.fairOnSpec)=true:=by kernel_rfl
def Ao:mapsRowed Tryz.prog=true:=by kernel_rfl
def An:(Tryz.f4.params.all (Tryz.prog.readableRec ·)&&namedTie Tryz.prog Rows.fairOnRow.named Rows.fairOnSpec.vars)=true:=by kernel_rfl
def Am:((Tryz.prog.stops == [])&&(Tryz.prog.stopKnobs == []))=true:=by kernel_rfl
def Al:(Rows.fairOnRow.inPlace == Tryz.prog.inPlace 4)=true:=by kernel_rfl
def Ak:(Rows.fairOnRow.unfollowed == Tryz.prog.unfollowed 4)=true:=by kernel_rfl
def Aj:(Rows.fairOnRow.recurses == Tryz.prog.recurses 4)=true:=by kernel_rfl
def Ai:(Rows.fairOnRow.named == Tryz.prog.varsNamed 4)=true:=by kernel_rfl
def wK:joinedFacts Tryz.prog 4 Tryz.f4 Rows.fairOnSpec Rows.fairOnRow=true:=by
 unfold joinedFacts
 have q4:=An
 have q5:=Am
 simp only[Bool.and_eq_true]at q4 q5 ⊢
 refine⟨⟨⟨⟨⟨⟨⟨⟨⟨⟨⟨⟨⟨⟨⟨⟨⟨⟨⟨⟨⟨⟨⟨⟨⟨⟨⟨⟨⟨⟨⟨Ap,laid⟩,Ao⟩,q4.1⟩,q4.2⟩,rfl⟩,q5.1⟩,rfl⟩,q5.2⟩,Al⟩,Ak⟩,Aj⟩,Ai⟩,?_⟩,?_⟩,?_⟩,?_⟩,?_⟩,?_⟩,?_⟩,?_⟩,?_⟩,?_⟩,?_⟩,?_⟩,?_⟩,?_⟩,?_⟩,?_⟩,?_⟩,?_⟩,?_⟩<;>kernel_rfl
end Go.Proofs.YtdcdhcgmeahfmaaGreatDoor
