/-
  DERIVED. GIVEN WITH THE SEED: THE CARDS: each row of YtimahgbgejngiaaGreatDoorRows.lean that lists a variable, with what it lists TIED to the program's text (the seventh form; the later family's looks); each row that meets fmt, with fmt's text TOLD by the authors' own Lean function (tested against real Go, not proved from fmt's source: count such statements apart). THE CARD IS WHAT COUNTS. Prove the row's statement (the work); the ties are given (YtimahgbgejngiaaGreatDoorTie.lean); close each card by the builder's one call (the guide's Derived/Test/ToyasCard.lean, 'card_holds'). Laid BY PROGRAM, IN A SANDBOX (cutbox-door.mjs). By AI agents, Wed Nov 11 2026. No macro, syntax, notation, axiom, sorry.
-/
import Derived.Test.YtimahgbgejngiaaGreatDoorRows
import GoSem.ClaimSeven
namespace Go.Proofs.YtimahgbgejngiaaGreatDoor
namespace Rows

/-- THE TIED CARD OF 'dampertop.TopOn'. -/
def topOnCard : Claim7 := { stood := { row := topOnRow, standIns := [], harness := (true, "62ade7ecaeda348a7f1809010a7e235ad52869b1235131c958d9d28054f2b617"), looks := true }, kinds := [], alts := [], laidByText := true, laidKinds := [.data, .data, .data, .sentinel, .sentinel], laidTests := true, laidLooks := .later }
def TopOnCardSaid : Prop := Claim7.holds Tryz.pinned (.plain (OpenSpec.ofChange topOnSpec)) topOnCard

/-- THE TIED CARD OF 'damperlaw17.PlayKnown'. -/
def playKnownCard : Claim7 := { stood := { row := playKnownRow, standIns := [], harness := (true, "62ade7ecaeda348a7f1809010a7e235ad52869b1235131c958d9d28054f2b617"), looks := true }, kinds := [], alts := [], laidByText := true, laidKinds := [.data, .data, .data, .sentinel, .sentinel], laidTests := true, laidLooks := .later }
def PlayKnownCardSaid : Prop := Claim7.holds Tryz.pinned (.plain (OpenSpec.ofChange playKnownSpec)) playKnownCard

/-- THE TIED CARD OF 'damperlaw17.PlayNumbers'. -/
def playNumbersCard : Claim7 := { stood := { row := playNumbersRow, standIns := [], harness := (true, "62ade7ecaeda348a7f1809010a7e235ad52869b1235131c958d9d28054f2b617"), looks := true }, kinds := [], alts := [], laidByText := true, laidKinds := [.data, .data, .data, .sentinel, .sentinel], laidTests := true, laidLooks := .later }
def PlayNumbersCardSaid : Prop := Claim7.holds Tryz.pinned (.plain (OpenSpec.ofChange playNumbersSpec)) playNumbersCard

/-- THE SECOND FORM's CARD OF 'dampertop.TopOn'. -/
def topOnUptoCard : Claim7 := { stood := { row := topOnUptoRow, standIns := [], harness := (true, "62ade7ecaeda348a7f1809010a7e235ad52869b1235131c958d9d28054f2b617"), looks := true }, kinds := [], alts := [], laidByText := true, laidKinds := [.data, .data, .data, .sentinel, .sentinel], laidTests := true, laidLooks := .later }
def TopOnUptoCardSaid : Prop := Claim7.holds Tryz.pinned (.plain (OpenSpec.upto topOnSpec)) topOnUptoCard

/-- THE SECOND FORM's CARD OF 'damperlaw17.PlayKnown'. -/
def playKnownUptoCard : Claim7 := { stood := { row := playKnownUptoRow, standIns := [], harness := (true, "62ade7ecaeda348a7f1809010a7e235ad52869b1235131c958d9d28054f2b617"), looks := true }, kinds := [], alts := [], laidByText := true, laidKinds := [.data, .data, .data, .sentinel, .sentinel], laidTests := true, laidLooks := .later }
def PlayKnownUptoCardSaid : Prop := Claim7.holds Tryz.pinned (.plain (OpenSpec.upto playKnownSpec)) playKnownUptoCard

/-- THE SECOND FORM's CARD OF 'damperlaw17.PlayNumbers'. -/
def playNumbersUptoCard : Claim7 := { stood := { row := playNumbersUptoRow, standIns := [], harness := (true, "62ade7ecaeda348a7f1809010a7e235ad52869b1235131c958d9d28054f2b617"), looks := true }, kinds := [], alts := [], laidByText := true, laidKinds := [.data, .data, .data, .sentinel, .sentinel], laidTests := true, laidLooks := .later }
def PlayNumbersUptoCardSaid : Prop := Claim7.holds Tryz.pinned (.plain (OpenSpec.upto playNumbersSpec)) playNumbersUptoCard
end Rows
end Go.Proofs.YtimahgbgejngiaaGreatDoor
