/-
  No cell of these rows narrows 'for every input' (looked for: loops, veiled, ifaces, maps, wideKeys, modest, calm, conditions, laid).
  DERIVED. THE GIVEN ROWS OF THIS SEAT. 4 by the template 'for every input the law returns true; each argument reads behind the call as it read before'; 0 by the template 'total and deterministic' (their statements: YtpnbgpolbjbhpaaTotals.lean).
  GIVEN WITH THE SEED: the statements are not yours to turn. If you find one false, say at which input.
  Laid BY PROGRAM, IN A SANDBOX (cutbox-rows.mjs): the forced cells as the released guide's own fill.sh prints them over the translation b752ce94500d2e7f… (all of the seat's roots in one cut). By AI agents, Wed Nov 11 2026. No macro, syntax, notation, axiom, sorry.
-/
import Derived.Test.YtpnbgpolbjbhpaaChecked
import GoSem.Claim
import GoSem.ClaimJoined
import GoSem.ClaimMapViews
import Derived.JoinedTies
import Derived.KernelRfl
namespace Go.Proofs.Ytpnbgpolbjbhpaa
/- THE CELL 'sum', in the pinned program and in every row, IS THE sha256 OF THE DUMP (.gsa) THAT YtpnbgpolbjbhpaaProg.lean LOADS. Nothing in Lean hashes anything: it is a label: what it is worth is what the hold of that sum in a sandbox is worth. -/
noncomputable def Try.pinned : Pinned := { name := "ytpnbgpolbjbhpaa", sum := "b752ce94500d2e7f9f2b960660feb689ed593d6ad5a36012889316215e229194", checked := Try.checked }
namespace Rows
def none {H : Type} : Left H := { results := [], args := [] }

/-- 'damperlaw4.ShelfAgain': WHATEVER THE INPUT: true; the input reads as it did. -/
def shelfAgainSpec : ChangeSpec := { name := "shelfAgain", fn := fun _ => fun
  | [d1, d2] => { results := [.lit (.bool true)], args := [d1, d2] }
  | _ => none }
def shelfAgainRow : OpenClaim := { program := "ytpnbgpolbjbhpaa", sum := "b752ce94500d2e7f9f2b960660feb689ed593d6ad5a36012889316215e229194", func := "damper/damperlaw4.ShelfAgain", spec := "shelfAgain", unfollowed := true, recurses := true, apart := false }
def ShelfAgainSaid : Prop := shelfAgainRow.holds Try.pinned (OpenSpec.ofChange shelfAgainSpec)

/-- ITS FALSE NEIGHBOUR: 'it returns false'. Refute it at one input. -/
def shelfAgainWrong : ChangeSpec := { name := "shelfAgain", fn := fun _ => fun
  | [d1, d2] => { results := [.lit (.bool false)], args := [d1, d2] }
  | _ => none }
def ShelfAgainWrongFalsely : Prop := shelfAgainRow.holds Try.pinned (OpenSpec.ofChange shelfAgainWrong)

/-- 'damperlaw4.ShelfRaces': WHATEVER THE INPUT: true; the input reads as it did. -/
def shelfRacesSpec : ChangeSpec := { name := "shelfRaces", fn := fun _ => fun
  | [d1, d2, d3, d4, d5] => { results := [.lit (.bool true)], args := [d1, d2, d3, d4, d5] }
  | _ => none }
def shelfRacesRow : OpenClaim := { program := "ytpnbgpolbjbhpaa", sum := "b752ce94500d2e7f9f2b960660feb689ed593d6ad5a36012889316215e229194", func := "damper/damperlaw4.ShelfRaces", spec := "shelfRaces", unfollowed := true, recurses := true, apart := false }
def ShelfRacesSaid : Prop := shelfRacesRow.holds Try.pinned (OpenSpec.ofChange shelfRacesSpec)

/-- ITS FALSE NEIGHBOUR: 'it returns false'. Refute it at one input. -/
def shelfRacesWrong : ChangeSpec := { name := "shelfRaces", fn := fun _ => fun
  | [d1, d2, d3, d4, d5] => { results := [.lit (.bool false)], args := [d1, d2, d3, d4, d5] }
  | _ => none }
def ShelfRacesWrongFalsely : Prop := shelfRacesRow.holds Try.pinned (OpenSpec.ofChange shelfRacesWrong)

/-- 'damperlaw4.ShelfGens': WHATEVER THE INPUT: true; the input reads as it did. -/
def shelfGensSpec : ChangeSpec := { name := "shelfGens", fn := fun _ => fun
  | [d1, d2] => { results := [.lit (.bool true)], args := [d1, d2] }
  | _ => none }
def shelfGensRow : OpenClaim := { program := "ytpnbgpolbjbhpaa", sum := "b752ce94500d2e7f9f2b960660feb689ed593d6ad5a36012889316215e229194", func := "damper/damperlaw4.ShelfGens", spec := "shelfGens", unfollowed := true, recurses := true, apart := false }
def ShelfGensSaid : Prop := shelfGensRow.holds Try.pinned (OpenSpec.ofChange shelfGensSpec)

/-- ITS FALSE NEIGHBOUR: 'it returns false'. Refute it at one input. -/
def shelfGensWrong : ChangeSpec := { name := "shelfGens", fn := fun _ => fun
  | [d1, d2] => { results := [.lit (.bool false)], args := [d1, d2] }
  | _ => none }
def ShelfGensWrongFalsely : Prop := shelfGensRow.holds Try.pinned (OpenSpec.ofChange shelfGensWrong)

/-- 'damperlaw4.ShelfNames': WHATEVER THE INPUT: true; the input reads as it did. -/
def shelfNamesSpec : ChangeSpec := { name := "shelfNames", fn := fun _ => fun
  | [d] => { results := [.lit (.bool true)], args := [d] }
  | _ => none }
def shelfNamesRow : OpenClaim := { program := "ytpnbgpolbjbhpaa", sum := "b752ce94500d2e7f9f2b960660feb689ed593d6ad5a36012889316215e229194", func := "damper/damperlaw4.ShelfNames", spec := "shelfNames", unfollowed := true, recurses := true, apart := false }
def ShelfNamesSaid : Prop := shelfNamesRow.holds Try.pinned (OpenSpec.ofChange shelfNamesSpec)

/-- ITS FALSE NEIGHBOUR: 'it returns false'. Refute it at one input. -/
def shelfNamesWrong : ChangeSpec := { name := "shelfNames", fn := fun _ => fun
  | [d] => { results := [.lit (.bool false)], args := [d] }
  | _ => none }
def ShelfNamesWrongFalsely : Prop := shelfNamesRow.holds Try.pinned (OpenSpec.ofChange shelfNamesWrong)

/- THE SECOND FORM. 'bulk': how many values and letters a reading holds, each counted each time it is reached (what is shared counts as often as it is met; a slice's spare places count too). A statement '..UptoSaid' is the law's where the arguments, and the package variables that the reading takes, are together of bulk at most 1048576: NARROWER than '..Said'. Prove '..Said' where nothing that the law and all that it calls make is longer than what came in: it says more and counts as full. Else prove '..UptoSaid'. A law counts once. -/
mutual
def uptoBulk {H : Type} : DataW H → Nat
  | .lit (.string bytes) => bytes.length + 1
  | .lit _ => 1
  | .nil => 1
  | .ptr d => uptoBulk d + 1
  | .slice elems spare => uptoBulkAll elems + uptoBulkAll spare + 1
  | .agg parts => uptoBulkAll parts + 1
  | .iface _ d => uptoBulk d + 1
  | .map entries => uptoBulkEntries entries + 1
  | .held _ => 1
def uptoBulkAll {H : Type} : List (DataW H) → Nat
  | [] => 0
  | d :: r => uptoBulk d + uptoBulkAll r
def uptoBulkEntries {H : Type} : List (Lit × DataW H) → Nat
  | [] => 0
  | x :: r => uptoBulkEntry x + uptoBulkEntries r
def uptoBulkEntry {H : Type} : Lit × DataW H → Nat
  | (.string bytes, d) => bytes.length + uptoBulk d + 1
  | (_, d) => uptoBulk d + 1
 end
def uptoSmall : (H : Type) → List (DataW H) → Bool := fun _ ds => decide (uptoBulkAll ds ≤ 1048576)
def OpenSpec.upto (s : _root_.Go.ChangeSpec) : _root_.Go.OpenSpec := { _root_.Go.OpenSpec.ofChange s with cond := some uptoSmall }

/-- 'damperlaw4.ShelfAgain', WHERE WHAT IT READS IS OF BULK AT MOST 1048576: true; the input reads as it did. -/
def shelfAgainUptoRow : OpenClaim := { program := "ytpnbgpolbjbhpaa", sum := "b752ce94500d2e7f9f2b960660feb689ed593d6ad5a36012889316215e229194", func := "damper/damperlaw4.ShelfAgain", spec := "shelfAgain", unfollowed := true, recurses := true, apart := false, narrowed := true }
def ShelfAgainUptoSaid : Prop := shelfAgainUptoRow.holds Try.pinned (OpenSpec.upto shelfAgainSpec)

/-- 'damperlaw4.ShelfRaces', WHERE WHAT IT READS IS OF BULK AT MOST 1048576: true; the input reads as it did. -/
def shelfRacesUptoRow : OpenClaim := { program := "ytpnbgpolbjbhpaa", sum := "b752ce94500d2e7f9f2b960660feb689ed593d6ad5a36012889316215e229194", func := "damper/damperlaw4.ShelfRaces", spec := "shelfRaces", unfollowed := true, recurses := true, apart := false, narrowed := true }
def ShelfRacesUptoSaid : Prop := shelfRacesUptoRow.holds Try.pinned (OpenSpec.upto shelfRacesSpec)

/-- 'damperlaw4.ShelfGens', WHERE WHAT IT READS IS OF BULK AT MOST 1048576: true; the input reads as it did. -/
def shelfGensUptoRow : OpenClaim := { program := "ytpnbgpolbjbhpaa", sum := "b752ce94500d2e7f9f2b960660feb689ed593d6ad5a36012889316215e229194", func := "damper/damperlaw4.ShelfGens", spec := "shelfGens", unfollowed := true, recurses := true, apart := false, narrowed := true }
def ShelfGensUptoSaid : Prop := shelfGensUptoRow.holds Try.pinned (OpenSpec.upto shelfGensSpec)

/-- 'damperlaw4.ShelfNames', WHERE WHAT IT READS IS OF BULK AT MOST 1048576: true; the input reads as it did. -/
def shelfNamesUptoRow : OpenClaim := { program := "ytpnbgpolbjbhpaa", sum := "b752ce94500d2e7f9f2b960660feb689ed593d6ad5a36012889316215e229194", func := "damper/damperlaw4.ShelfNames", spec := "shelfNames", unfollowed := true, recurses := true, apart := false, narrowed := true }
def ShelfNamesUptoSaid : Prop := shelfNamesUptoRow.holds Try.pinned (OpenSpec.upto shelfNamesSpec)

end Rows
end Go.Proofs.Ytpnbgpolbjbhpaa
