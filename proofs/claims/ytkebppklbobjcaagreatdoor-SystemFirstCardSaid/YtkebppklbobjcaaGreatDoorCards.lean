/-
  DERIVED. GIVEN WITH THE SEED: THE CARDS: each row of YtkebppklbobjcaaGreatDoorRows.lean that lists a variable, with what it lists TIED to the program's text (the seventh form; the later family's looks); each row that meets fmt, with fmt's text TOLD by the authors' own Lean function (tested against real Go, not proved from fmt's source: count such statements apart). THE CARD IS WHAT COUNTS. Prove the row's statement (the work); the ties are given (YtkebppklbobjcaaGreatDoorTie.lean); close each card by the builder's one call (the guide's Derived/Test/ToyasCard.lean, 'card_holds'). Laid BY PROGRAM, IN A SANDBOX (cutbox-door.mjs). By AI agents, Wed Nov 11 2026. No macro, syntax, notation, axiom, sorry.
-/
import Derived.Test.YtkebppklbobjcaaGreatDoorRows
import GoSem.ClaimSeven
namespace Go.Proofs.YtkebppklbobjcaaGreatDoor
namespace Rows

/-- THE TIED CARD OF 'damperlaw15.SystemFirst'. -/
def systemFirstCard : Claim7 := { stood := { row := systemFirstRow, standIns := [], harness := (true, "55054ac9b4c7dca1cb97e44957576886fd97f8aba07f207d5302408e1138de10"), looks := true }, kinds := [], alts := [], laidByText := true, laidKinds := [.data, .data, .data, .sentinel, .sentinel], laidTests := true, laidLooks := .later }
def SystemFirstCardSaid : Prop := Claim7.holds Tryz.pinned (.plain (OpenSpec.ofChange systemFirstSpec)) systemFirstCard

/-- THE TIED CARD OF 'damperlaw15.SystemSplit'. -/
def systemSplitCard : Claim7 := { stood := { row := systemSplitRow, standIns := [], harness := (true, "55054ac9b4c7dca1cb97e44957576886fd97f8aba07f207d5302408e1138de10"), looks := true }, kinds := [], alts := [], laidByText := true, laidKinds := [.data, .data, .data, .sentinel, .sentinel], laidTests := true, laidLooks := .later }
def SystemSplitCardSaid : Prop := Claim7.holds Tryz.pinned (.plain (OpenSpec.ofChange systemSplitSpec)) systemSplitCard

/-- THE TIED CARD OF 'damperlaw15.SystemRolls'. -/
def systemRollsCard : Claim7 := { stood := { row := systemRollsRow, standIns := [], harness := (true, "55054ac9b4c7dca1cb97e44957576886fd97f8aba07f207d5302408e1138de10"), looks := true }, kinds := [], alts := [], laidByText := true, laidKinds := [.data, .data, .data, .sentinel, .sentinel], laidTests := true, laidLooks := .later }
def SystemRollsCardSaid : Prop := Claim7.holds Tryz.pinned (.plain (OpenSpec.ofChange systemRollsSpec)) systemRollsCard

/-- THE TIED CARD OF 'damperlaw15.SystemGens'. -/
def systemGensCard : Claim7 := { stood := { row := systemGensRow, standIns := [], harness := (true, "55054ac9b4c7dca1cb97e44957576886fd97f8aba07f207d5302408e1138de10"), looks := true }, kinds := [], alts := [], laidByText := true, laidKinds := [.data, .data, .data, .sentinel, .sentinel], laidTests := true, laidLooks := .later }
def SystemGensCardSaid : Prop := Claim7.holds Tryz.pinned (.plain (OpenSpec.ofChange systemGensSpec)) systemGensCard

/-- THE SECOND FORM's CARD OF 'damperlaw15.SystemFirst'. -/
def systemFirstUptoCard : Claim7 := { stood := { row := systemFirstUptoRow, standIns := [], harness := (true, "55054ac9b4c7dca1cb97e44957576886fd97f8aba07f207d5302408e1138de10"), looks := true }, kinds := [], alts := [], laidByText := true, laidKinds := [.data, .data, .data, .sentinel, .sentinel], laidTests := true, laidLooks := .later }
def SystemFirstUptoCardSaid : Prop := Claim7.holds Tryz.pinned (.plain (OpenSpec.upto systemFirstSpec)) systemFirstUptoCard

/-- THE SECOND FORM's CARD OF 'damperlaw15.SystemSplit'. -/
def systemSplitUptoCard : Claim7 := { stood := { row := systemSplitUptoRow, standIns := [], harness := (true, "55054ac9b4c7dca1cb97e44957576886fd97f8aba07f207d5302408e1138de10"), looks := true }, kinds := [], alts := [], laidByText := true, laidKinds := [.data, .data, .data, .sentinel, .sentinel], laidTests := true, laidLooks := .later }
def SystemSplitUptoCardSaid : Prop := Claim7.holds Tryz.pinned (.plain (OpenSpec.upto systemSplitSpec)) systemSplitUptoCard

/-- THE SECOND FORM's CARD OF 'damperlaw15.SystemRolls'. -/
def systemRollsUptoCard : Claim7 := { stood := { row := systemRollsUptoRow, standIns := [], harness := (true, "55054ac9b4c7dca1cb97e44957576886fd97f8aba07f207d5302408e1138de10"), looks := true }, kinds := [], alts := [], laidByText := true, laidKinds := [.data, .data, .data, .sentinel, .sentinel], laidTests := true, laidLooks := .later }
def SystemRollsUptoCardSaid : Prop := Claim7.holds Tryz.pinned (.plain (OpenSpec.upto systemRollsSpec)) systemRollsUptoCard

/-- THE SECOND FORM's CARD OF 'damperlaw15.SystemGens'. -/
def systemGensUptoCard : Claim7 := { stood := { row := systemGensUptoRow, standIns := [], harness := (true, "55054ac9b4c7dca1cb97e44957576886fd97f8aba07f207d5302408e1138de10"), looks := true }, kinds := [], alts := [], laidByText := true, laidKinds := [.data, .data, .data, .sentinel, .sentinel], laidTests := true, laidLooks := .later }
def SystemGensUptoCardSaid : Prop := Claim7.holds Tryz.pinned (.plain (OpenSpec.upto systemGensSpec)) systemGensUptoCard
end Rows
end Go.Proofs.YtkebppklbobjcaaGreatDoor
