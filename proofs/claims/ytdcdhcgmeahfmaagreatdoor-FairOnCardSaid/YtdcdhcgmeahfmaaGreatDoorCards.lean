/-
  DERIVED. GIVEN WITH THE SEED: THE CARDS: each row of YtdcdhcgmeahfmaaGreatDoorRows.lean that lists a variable, with what it lists TIED to the program's text (the seventh form; the later family's looks); each row that meets fmt, with fmt's text TOLD by the authors' own Lean function (tested against real Go, not proved from fmt's source: count such statements apart). THE CARD IS WHAT COUNTS. Prove the row's statement (the work); the ties are given (YtdcdhcgmeahfmaaGreatDoorTie.lean); close each card by the builder's one call (the guide's Derived/Test/ToyasCard.lean, 'card_holds'). Laid BY PROGRAM, IN A SANDBOX (cutbox-door.mjs). By AI agents, Wed Nov 11 2026. No macro, syntax, notation, axiom, sorry.
-/
import Derived.Test.YtdcdhcgmeahfmaaGreatDoorRows
import GoSem.ClaimSeven
namespace Go.Proofs.YtdcdhcgmeahfmaaGreatDoor
namespace Rows

/-- THE TIED CARD OF 'damperlaw15.SystemScales'. -/
def systemScalesCard : Claim7 := { stood := { row := systemScalesRow, standIns := [], harness := (true, "b1b91574b1e7fb3ddb49d62c4f4f6b011e50c818b3d669b5de267233f26ea65a"), looks := true }, kinds := [], alts := [], laidByText := true, laidKinds := [.data, .data, .data, .sentinel, .sentinel], laidTests := true, laidLooks := .later }
def SystemScalesCardSaid : Prop := Claim7.holds Tryz.pinned (.plain (OpenSpec.ofChange systemScalesSpec)) systemScalesCard

/-- THE TIED CARD OF 'damperlaw16.FairOn'. -/
def fairOnCard : Claim7 := { stood := { row := fairOnRow, standIns := [], harness := (true, "b1b91574b1e7fb3ddb49d62c4f4f6b011e50c818b3d669b5de267233f26ea65a"), looks := true }, kinds := [], alts := [], laidByText := true, laidKinds := [.data, .data, .data, .sentinel, .sentinel], laidTests := true, laidLooks := .later }
def FairOnCardSaid : Prop := Claim7.holds Tryz.pinned (.plain (OpenSpec.ofChange fairOnSpec)) fairOnCard

/-- THE TIED CARD OF 'dampertop.TopDrains'. -/
def topDrainsCard : Claim7 := { stood := { row := topDrainsRow, standIns := [], harness := (true, "b1b91574b1e7fb3ddb49d62c4f4f6b011e50c818b3d669b5de267233f26ea65a"), looks := true }, kinds := [], alts := [], laidByText := true, laidKinds := [.data, .data, .data, .sentinel, .sentinel], laidTests := true, laidLooks := .later }
def TopDrainsCardSaid : Prop := Claim7.holds Tryz.pinned (.plain (OpenSpec.ofChange topDrainsSpec)) topDrainsCard

/-- THE TIED CARD OF 'dampertop.TopOn'. -/
def topOnCard : Claim7 := { stood := { row := topOnRow, standIns := [], harness := (true, "b1b91574b1e7fb3ddb49d62c4f4f6b011e50c818b3d669b5de267233f26ea65a"), looks := true }, kinds := [], alts := [], laidByText := true, laidKinds := [.data, .data, .data, .sentinel, .sentinel], laidTests := true, laidLooks := .later }
def TopOnCardSaid : Prop := Claim7.holds Tryz.pinned (.plain (OpenSpec.ofChange topOnSpec)) topOnCard

/-- THE SECOND FORM's CARD OF 'damperlaw15.SystemScales'. -/
def systemScalesUptoCard : Claim7 := { stood := { row := systemScalesUptoRow, standIns := [], harness := (true, "b1b91574b1e7fb3ddb49d62c4f4f6b011e50c818b3d669b5de267233f26ea65a"), looks := true }, kinds := [], alts := [], laidByText := true, laidKinds := [.data, .data, .data, .sentinel, .sentinel], laidTests := true, laidLooks := .later }
def SystemScalesUptoCardSaid : Prop := Claim7.holds Tryz.pinned (.plain (OpenSpec.upto systemScalesSpec)) systemScalesUptoCard

/-- THE SECOND FORM's CARD OF 'damperlaw16.FairOn'. -/
def fairOnUptoCard : Claim7 := { stood := { row := fairOnUptoRow, standIns := [], harness := (true, "b1b91574b1e7fb3ddb49d62c4f4f6b011e50c818b3d669b5de267233f26ea65a"), looks := true }, kinds := [], alts := [], laidByText := true, laidKinds := [.data, .data, .data, .sentinel, .sentinel], laidTests := true, laidLooks := .later }
def FairOnUptoCardSaid : Prop := Claim7.holds Tryz.pinned (.plain (OpenSpec.upto fairOnSpec)) fairOnUptoCard

/-- THE SECOND FORM's CARD OF 'dampertop.TopDrains'. -/
def topDrainsUptoCard : Claim7 := { stood := { row := topDrainsUptoRow, standIns := [], harness := (true, "b1b91574b1e7fb3ddb49d62c4f4f6b011e50c818b3d669b5de267233f26ea65a"), looks := true }, kinds := [], alts := [], laidByText := true, laidKinds := [.data, .data, .data, .sentinel, .sentinel], laidTests := true, laidLooks := .later }
def TopDrainsUptoCardSaid : Prop := Claim7.holds Tryz.pinned (.plain (OpenSpec.upto topDrainsSpec)) topDrainsUptoCard

/-- THE SECOND FORM's CARD OF 'dampertop.TopOn'. -/
def topOnUptoCard : Claim7 := { stood := { row := topOnUptoRow, standIns := [], harness := (true, "b1b91574b1e7fb3ddb49d62c4f4f6b011e50c818b3d669b5de267233f26ea65a"), looks := true }, kinds := [], alts := [], laidByText := true, laidKinds := [.data, .data, .data, .sentinel, .sentinel], laidTests := true, laidLooks := .later }
def TopOnUptoCardSaid : Prop := Claim7.holds Tryz.pinned (.plain (OpenSpec.upto topOnSpec)) topOnUptoCard
end Rows
end Go.Proofs.YtdcdhcgmeahfmaaGreatDoor
