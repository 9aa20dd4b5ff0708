/-
  DERIVED. GIVEN WITH THE SEED: THE CARDS: each row of YtkmalcoocklikaaGreatDoorRows.lean that lists a variable, with what it lists TIED to the program's text (the seventh form; the later family's looks); each row that meets fmt, with fmt's text TOLD by the authors' own Lean function (tested against real Go, not proved from fmt's source: count such statements apart). THE CARD IS WHAT COUNTS. Prove the row's statement (the work); the ties are given (YtkmalcoocklikaaGreatDoorTie.lean); close each card by the builder's one call (the guide's Derived/Test/ToyasCard.lean, 'card_holds'). Laid BY PROGRAM, IN A SANDBOX (cutbox-door.mjs). By AI agents, Wed Nov 11 2026. No macro, syntax, notation, axiom, sorry.
-/
import Derived.Test.YtkmalcoocklikaaGreatDoorRows
import GoSem.ClaimSeven
namespace Go.Proofs.YtkmalcoocklikaaGreatDoor
namespace Rows

/-- THE TIED CARD OF 'damperlaw15.SystemScales'. -/
def systemScalesCard : Claim7 := { stood := { row := systemScalesRow, standIns := [], harness := (true, "5087fe2a4b5537b0c7b0c81649c4ce1617797420292a1b94704b42c96d9dd30e"), looks := true }, kinds := [], alts := [], laidByText := true, laidKinds := [.data, .data, .data, .sentinel, .sentinel], laidTests := true, laidLooks := .later }
def SystemScalesCardSaid : Prop := Claim7.holds Tryz.pinned (.plain (OpenSpec.ofChange systemScalesSpec)) systemScalesCard

/-- THE TIED CARD OF 'damperlaw15.SystemNew'. -/
def systemNewCard : Claim7 := { stood := { row := systemNewRow, standIns := [], harness := (true, "5087fe2a4b5537b0c7b0c81649c4ce1617797420292a1b94704b42c96d9dd30e"), looks := true }, kinds := [], alts := [], laidByText := true, laidKinds := [.data, .data, .data, .sentinel, .sentinel], laidTests := true, laidLooks := .later }
def SystemNewCardSaid : Prop := Claim7.holds Tryz.pinned (.plain (OpenSpec.ofChange systemNewSpec)) systemNewCard

/-- THE TIED CARD OF 'damperlaw16.FairEnough'. -/
def fairEnoughCard : Claim7 := { stood := { row := fairEnoughRow, standIns := [], harness := (true, "5087fe2a4b5537b0c7b0c81649c4ce1617797420292a1b94704b42c96d9dd30e"), looks := true }, kinds := [], alts := [], laidByText := true, laidKinds := [.data, .data, .data, .sentinel, .sentinel], laidTests := true, laidLooks := .later }
def FairEnoughCardSaid : Prop := Claim7.holds Tryz.pinned (.plain (OpenSpec.ofChange fairEnoughSpec)) fairEnoughCard

/-- THE TIED CARD OF 'damperlaw16.FairRest'. -/
def fairRestCard : Claim7 := { stood := { row := fairRestRow, standIns := [], harness := (true, "5087fe2a4b5537b0c7b0c81649c4ce1617797420292a1b94704b42c96d9dd30e"), looks := true }, kinds := [], alts := [], laidByText := true, laidKinds := [.data, .data, .data, .sentinel, .sentinel], laidTests := true, laidLooks := .later }
def FairRestCardSaid : Prop := Claim7.holds Tryz.pinned (.plain (OpenSpec.ofChange fairRestSpec)) fairRestCard

/-- THE SECOND FORM's CARD OF 'damperlaw15.SystemScales'. -/
def systemScalesUptoCard : Claim7 := { stood := { row := systemScalesUptoRow, standIns := [], harness := (true, "5087fe2a4b5537b0c7b0c81649c4ce1617797420292a1b94704b42c96d9dd30e"), looks := true }, kinds := [], alts := [], laidByText := true, laidKinds := [.data, .data, .data, .sentinel, .sentinel], laidTests := true, laidLooks := .later }
def SystemScalesUptoCardSaid : Prop := Claim7.holds Tryz.pinned (.plain (OpenSpec.upto systemScalesSpec)) systemScalesUptoCard

/-- THE SECOND FORM's CARD OF 'damperlaw15.SystemNew'. -/
def systemNewUptoCard : Claim7 := { stood := { row := systemNewUptoRow, standIns := [], harness := (true, "5087fe2a4b5537b0c7b0c81649c4ce1617797420292a1b94704b42c96d9dd30e"), looks := true }, kinds := [], alts := [], laidByText := true, laidKinds := [.data, .data, .data, .sentinel, .sentinel], laidTests := true, laidLooks := .later }
def SystemNewUptoCardSaid : Prop := Claim7.holds Tryz.pinned (.plain (OpenSpec.upto systemNewSpec)) systemNewUptoCard

/-- THE SECOND FORM's CARD OF 'damperlaw16.FairEnough'. -/
def fairEnoughUptoCard : Claim7 := { stood := { row := fairEnoughUptoRow, standIns := [], harness := (true, "5087fe2a4b5537b0c7b0c81649c4ce1617797420292a1b94704b42c96d9dd30e"), looks := true }, kinds := [], alts := [], laidByText := true, laidKinds := [.data, .data, .data, .sentinel, .sentinel], laidTests := true, laidLooks := .later }
def FairEnoughUptoCardSaid : Prop := Claim7.holds Tryz.pinned (.plain (OpenSpec.upto fairEnoughSpec)) fairEnoughUptoCard

/-- THE SECOND FORM's CARD OF 'damperlaw16.FairRest'. -/
def fairRestUptoCard : Claim7 := { stood := { row := fairRestUptoRow, standIns := [], harness := (true, "5087fe2a4b5537b0c7b0c81649c4ce1617797420292a1b94704b42c96d9dd30e"), looks := true }, kinds := [], alts := [], laidByText := true, laidKinds := [.data, .data, .data, .sentinel, .sentinel], laidTests := true, laidLooks := .later }
def FairRestUptoCardSaid : Prop := Claim7.holds Tryz.pinned (.plain (OpenSpec.upto fairRestSpec)) fairRestUptoCard
end Rows
end Go.Proofs.YtkmalcoocklikaaGreatDoor
