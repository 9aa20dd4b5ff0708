/-
  DERIVED. GIVEN WITH THE SEED: THE CARDS: each row of YtmbidnhdfdnihaaGreatDoorRows.lean that lists a variable, with what it lists TIED to the program's text (the seventh form; the later family's looks); each row that meets fmt, with fmt's text TOLD by the authors' own Lean function (tested against real Go, not proved from fmt's source: count such statements apart). THE CARD IS WHAT COUNTS. Prove the row's statement (the work); the ties are given (YtmbidnhdfdnihaaGreatDoorTie.lean); close each card by the builder's one call (the guide's Derived/Test/ToyasCard.lean, 'card_holds'). Laid BY PROGRAM, IN A SANDBOX (cutbox-door.mjs). By AI agents, Wed Nov 11 2026. No macro, syntax, notation, axiom, sorry.
-/
import Derived.Test.YtmbidnhdfdnihaaGreatDoorRows
import GoSem.ClaimSeven
namespace Go.Proofs.YtmbidnhdfdnihaaGreatDoor
namespace Rows

/-- THE TIED CARD OF 'damperlaw15.SystemReplies'. -/
def systemRepliesCard : Claim7 := { stood := { row := systemRepliesRow, standIns := [], harness := (true, "f97ae0968b71f40f68b14e749e00450f4feeb619ab129ba68931aaa39c425c59"), looks := true }, kinds := [], alts := [], laidByText := true, laidKinds := [.data, .data, .data, .sentinel, .sentinel], laidTests := true, laidLooks := .later }
def SystemRepliesCardSaid : Prop := Claim7.holds Tryz.pinned (.plain (OpenSpec.ofChange systemRepliesSpec)) systemRepliesCard

/-- THE TIED CARD OF 'damperlaw15.SystemPokes'. -/
def systemPokesCard : Claim7 := { stood := { row := systemPokesRow, standIns := [], harness := (true, "f97ae0968b71f40f68b14e749e00450f4feeb619ab129ba68931aaa39c425c59"), looks := true }, kinds := [], alts := [], laidByText := true, laidKinds := [.data, .data, .data, .sentinel, .sentinel], laidTests := true, laidLooks := .later }
def SystemPokesCardSaid : Prop := Claim7.holds Tryz.pinned (.plain (OpenSpec.ofChange systemPokesSpec)) systemPokesCard

/-- THE TIED CARD OF 'damperlaw15.SystemKills'. -/
def systemKillsCard : Claim7 := { stood := { row := systemKillsRow, standIns := [], harness := (true, "f97ae0968b71f40f68b14e749e00450f4feeb619ab129ba68931aaa39c425c59"), looks := true }, kinds := [], alts := [], laidByText := true, laidKinds := [.data, .data, .data, .sentinel, .sentinel], laidTests := true, laidLooks := .later }
def SystemKillsCardSaid : Prop := Claim7.holds Tryz.pinned (.plain (OpenSpec.ofChange systemKillsSpec)) systemKillsCard

/-- THE TIED CARD OF 'damperlaw15.SystemLate'. -/
def systemLateCard : Claim7 := { stood := { row := systemLateRow, standIns := [], harness := (true, "f97ae0968b71f40f68b14e749e00450f4feeb619ab129ba68931aaa39c425c59"), looks := true }, kinds := [], alts := [], laidByText := true, laidKinds := [.data, .data, .data, .sentinel, .sentinel], laidTests := true, laidLooks := .later }
def SystemLateCardSaid : Prop := Claim7.holds Tryz.pinned (.plain (OpenSpec.ofChange systemLateSpec)) systemLateCard

/-- THE SECOND FORM's CARD OF 'damperlaw15.SystemReplies'. -/
def systemRepliesUptoCard : Claim7 := { stood := { row := systemRepliesUptoRow, standIns := [], harness := (true, "f97ae0968b71f40f68b14e749e00450f4feeb619ab129ba68931aaa39c425c59"), looks := true }, kinds := [], alts := [], laidByText := true, laidKinds := [.data, .data, .data, .sentinel, .sentinel], laidTests := true, laidLooks := .later }
def SystemRepliesUptoCardSaid : Prop := Claim7.holds Tryz.pinned (.plain (OpenSpec.upto systemRepliesSpec)) systemRepliesUptoCard

/-- THE SECOND FORM's CARD OF 'damperlaw15.SystemPokes'. -/
def systemPokesUptoCard : Claim7 := { stood := { row := systemPokesUptoRow, standIns := [], harness := (true, "f97ae0968b71f40f68b14e749e00450f4feeb619ab129ba68931aaa39c425c59"), looks := true }, kinds := [], alts := [], laidByText := true, laidKinds := [.data, .data, .data, .sentinel, .sentinel], laidTests := true, laidLooks := .later }
def SystemPokesUptoCardSaid : Prop := Claim7.holds Tryz.pinned (.plain (OpenSpec.upto systemPokesSpec)) systemPokesUptoCard

/-- THE SECOND FORM's CARD OF 'damperlaw15.SystemKills'. -/
def systemKillsUptoCard : Claim7 := { stood := { row := systemKillsUptoRow, standIns := [], harness := (true, "f97ae0968b71f40f68b14e749e00450f4feeb619ab129ba68931aaa39c425c59"), looks := true }, kinds := [], alts := [], laidByText := true, laidKinds := [.data, .data, .data, .sentinel, .sentinel], laidTests := true, laidLooks := .later }
def SystemKillsUptoCardSaid : Prop := Claim7.holds Tryz.pinned (.plain (OpenSpec.upto systemKillsSpec)) systemKillsUptoCard

/-- THE SECOND FORM's CARD OF 'damperlaw15.SystemLate'. -/
def systemLateUptoCard : Claim7 := { stood := { row := systemLateUptoRow, standIns := [], harness := (true, "f97ae0968b71f40f68b14e749e00450f4feeb619ab129ba68931aaa39c425c59"), looks := true }, kinds := [], alts := [], laidByText := true, laidKinds := [.data, .data, .data, .sentinel, .sentinel], laidTests := true, laidLooks := .later }
def SystemLateUptoCardSaid : Prop := Claim7.holds Tryz.pinned (.plain (OpenSpec.upto systemLateSpec)) systemLateUptoCard
end Rows
end Go.Proofs.YtmbidnhdfdnihaaGreatDoor
