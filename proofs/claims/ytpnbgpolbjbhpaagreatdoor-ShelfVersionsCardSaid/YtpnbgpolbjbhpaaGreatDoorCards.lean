/-
  DERIVED. GIVEN WITH THE SEED: THE CARDS: each row of YtpnbgpolbjbhpaaGreatDoorRows.lean that lists a variable, with what it lists TIED to the program's text (the seventh form; the later family's looks); each row that meets fmt, with fmt's text TOLD by the authors' own Lean function (tested against real Go, not proved from fmt's source: count such statements apart). THE CARD IS WHAT COUNTS. Prove the row's statement (the work); the ties are given (YtpnbgpolbjbhpaaGreatDoorTie.lean); close each card by the builder's one call (the guide's Derived/Test/ToyasCard.lean, 'card_holds'). Laid BY PROGRAM, IN A SANDBOX (cutbox-door.mjs). By AI agents, Wed Nov 11 2026. No macro, syntax, notation, axiom, sorry.
-/
import Derived.Test.YtpnbgpolbjbhpaaGreatDoorRows
import GoSem.ClaimSeven
namespace Go.Proofs.YtpnbgpolbjbhpaaGreatDoor
namespace Rows

/-- THE TIED CARD OF 'damperlaw4.ShelfOwn'. -/
def shelfOwnCard : Claim7 := { stood := { row := shelfOwnRow, standIns := [], harness := (true, "72dfeaa4ad177c372eff3b6ea2a890eaaa35b6dbe39066f1113d4064b23d0b61"), looks := true }, kinds := [], alts := [], laidByText := true, laidKinds := [.data, .data, .data, .sentinel, .sentinel], laidTests := true, laidLooks := .later }
def ShelfOwnCardSaid : Prop := Claim7.holds Tryz.pinned (.plain (OpenSpec.ofChange shelfOwnSpec)) shelfOwnCard

/-- THE TIED CARD OF 'damperlaw4.ShelfVersions'. -/
def shelfVersionsCard : Claim7 := { stood := { row := shelfVersionsRow, standIns := [], harness := (true, "72dfeaa4ad177c372eff3b6ea2a890eaaa35b6dbe39066f1113d4064b23d0b61"), looks := true }, kinds := [], alts := [], laidByText := true, laidKinds := [.data, .data, .data, .sentinel, .sentinel], laidTests := true, laidLooks := .later }
def ShelfVersionsCardSaid : Prop := Claim7.holds Tryz.pinned (.plain (OpenSpec.ofChange shelfVersionsSpec)) shelfVersionsCard

/-- THE TIED CARD OF 'damperlaw4.ShelfPlays'. -/
def shelfPlaysCard : Claim7 := { stood := { row := shelfPlaysRow, standIns := [], harness := (true, "72dfeaa4ad177c372eff3b6ea2a890eaaa35b6dbe39066f1113d4064b23d0b61"), looks := true }, kinds := [], alts := [], laidByText := true, laidKinds := [.data, .data, .data, .sentinel, .sentinel], laidTests := true, laidLooks := .later }
def ShelfPlaysCardSaid : Prop := Claim7.holds Tryz.pinned (.plain (OpenSpec.ofChange shelfPlaysSpec)) shelfPlaysCard

/-- THE TIED CARD OF 'damperlaw4.ShelfKinds'. -/
def shelfKindsCard : Claim7 := { stood := { row := shelfKindsRow, standIns := [], harness := (true, "72dfeaa4ad177c372eff3b6ea2a890eaaa35b6dbe39066f1113d4064b23d0b61"), looks := true }, kinds := [], alts := [], laidByText := true, laidKinds := [.data, .data, .data, .sentinel, .sentinel], laidTests := true, laidLooks := .later }
def ShelfKindsCardSaid : Prop := Claim7.holds Tryz.pinned (.plain (OpenSpec.ofChange shelfKindsSpec)) shelfKindsCard

/-- THE SECOND FORM's CARD OF 'damperlaw4.ShelfOwn'. -/
def shelfOwnUptoCard : Claim7 := { stood := { row := shelfOwnUptoRow, standIns := [], harness := (true, "72dfeaa4ad177c372eff3b6ea2a890eaaa35b6dbe39066f1113d4064b23d0b61"), looks := true }, kinds := [], alts := [], laidByText := true, laidKinds := [.data, .data, .data, .sentinel, .sentinel], laidTests := true, laidLooks := .later }
def ShelfOwnUptoCardSaid : Prop := Claim7.holds Tryz.pinned (.plain (OpenSpec.upto shelfOwnSpec)) shelfOwnUptoCard

/-- THE SECOND FORM's CARD OF 'damperlaw4.ShelfVersions'. -/
def shelfVersionsUptoCard : Claim7 := { stood := { row := shelfVersionsUptoRow, standIns := [], harness := (true, "72dfeaa4ad177c372eff3b6ea2a890eaaa35b6dbe39066f1113d4064b23d0b61"), looks := true }, kinds := [], alts := [], laidByText := true, laidKinds := [.data, .data, .data, .sentinel, .sentinel], laidTests := true, laidLooks := .later }
def ShelfVersionsUptoCardSaid : Prop := Claim7.holds Tryz.pinned (.plain (OpenSpec.upto shelfVersionsSpec)) shelfVersionsUptoCard

/-- THE SECOND FORM's CARD OF 'damperlaw4.ShelfPlays'. -/
def shelfPlaysUptoCard : Claim7 := { stood := { row := shelfPlaysUptoRow, standIns := [], harness := (true, "72dfeaa4ad177c372eff3b6ea2a890eaaa35b6dbe39066f1113d4064b23d0b61"), looks := true }, kinds := [], alts := [], laidByText := true, laidKinds := [.data, .data, .data, .sentinel, .sentinel], laidTests := true, laidLooks := .later }
def ShelfPlaysUptoCardSaid : Prop := Claim7.holds Tryz.pinned (.plain (OpenSpec.upto shelfPlaysSpec)) shelfPlaysUptoCard

/-- THE SECOND FORM's CARD OF 'damperlaw4.ShelfKinds'. -/
def shelfKindsUptoCard : Claim7 := { stood := { row := shelfKindsUptoRow, standIns := [], harness := (true, "72dfeaa4ad177c372eff3b6ea2a890eaaa35b6dbe39066f1113d4064b23d0b61"), looks := true }, kinds := [], alts := [], laidByText := true, laidKinds := [.data, .data, .data, .sentinel, .sentinel], laidTests := true, laidLooks := .later }
def ShelfKindsUptoCardSaid : Prop := Claim7.holds Tryz.pinned (.plain (OpenSpec.upto shelfKindsSpec)) shelfKindsUptoCard
end Rows
end Go.Proofs.YtpnbgpolbjbhpaaGreatDoor
