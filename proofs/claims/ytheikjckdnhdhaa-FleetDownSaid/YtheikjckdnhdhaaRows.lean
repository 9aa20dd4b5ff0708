/-
  No cell of these rows narrows 'for every input' (looked for: loops, veiled, ifaces, maps, wideKeys, modest, calm, conditions, laid).
  DERIVED. THE GIVEN ROWS OF THIS SEAT. 7 by the template 'for every input the law returns true; each argument reads behind the call as it read before'; 0 by the template 'total and deterministic' (their statements: YtheikjckdnhdhaaTotals.lean).
  GIVEN WITH THE SEED: the statements are not yours to turn. If you find one false, say at which input.
  Laid BY PROGRAM, IN A SANDBOX (cutbox-rows.mjs): the forced cells as the released guide's own fill.sh prints them over the translation 1dffccf3eca1c38e… (all of the seat's roots in one cut). By AI agents, Wed Nov 11 2026. No macro, syntax, notation, axiom, sorry.
-/
import Derived.Test.YtheikjckdnhdhaaChecked
import GoSem.Claim
import GoSem.ClaimJoined
import GoSem.ClaimMapViews
import Derived.JoinedTies
import Derived.KernelRfl
namespace Go.Proofs.Ytheikjckdnhdhaa
/- THE CELL 'sum', in the pinned program and in every row, IS THE sha256 OF THE DUMP (.gsa) THAT YtheikjckdnhdhaaProg.lean LOADS. Nothing in Lean hashes anything: it is a label: what it is worth is what the hold of that sum in a sandbox is worth. -/
noncomputable def Try.pinned : Pinned := { name := "ytheikjckdnhdhaa", sum := "1dffccf3eca1c38ec9e199a02d0a2d9f4882c7eae8ca05aae76b365576bb1e7c", checked := Try.checked }
namespace Rows
def none {H : Type} : Left H := { results := [], args := [] }

/-- 'damperlaw11.FleetRoom': WHATEVER THE INPUT: true; the input reads as it did. -/
def fleetRoomSpec : ChangeSpec := { name := "fleetRoom", fn := fun _ => fun
  | [d1, d2] => { results := [.lit (.bool true)], args := [d1, d2] }
  | _ => none }
def fleetRoomRow : OpenClaim := { program := "ytheikjckdnhdhaa", sum := "1dffccf3eca1c38ec9e199a02d0a2d9f4882c7eae8ca05aae76b365576bb1e7c", func := "damper/damperlaw11.FleetRoom", spec := "fleetRoom", unfollowed := true, recurses := true, apart := false }
def FleetRoomSaid : Prop := fleetRoomRow.holds Try.pinned (OpenSpec.ofChange fleetRoomSpec)

/-- ITS FALSE NEIGHBOUR: 'it returns false'. Refute it at one input. -/
def fleetRoomWrong : ChangeSpec := { name := "fleetRoom", fn := fun _ => fun
  | [d1, d2] => { results := [.lit (.bool false)], args := [d1, d2] }
  | _ => none }
def FleetRoomWrongFalsely : Prop := fleetRoomRow.holds Try.pinned (OpenSpec.ofChange fleetRoomWrong)

/-- 'damperlaw11.FleetDown': WHATEVER THE INPUT: true; the input reads as it did. -/
def fleetDownSpec : ChangeSpec := { name := "fleetDown", fn := fun _ => fun
  | [d1, d2, d3, d4] => { results := [.lit (.bool true)], args := [d1, d2, d3, d4] }
  | _ => none }
def fleetDownRow : OpenClaim := { program := "ytheikjckdnhdhaa", sum := "1dffccf3eca1c38ec9e199a02d0a2d9f4882c7eae8ca05aae76b365576bb1e7c", func := "damper/damperlaw11.FleetDown", spec := "fleetDown", unfollowed := true, recurses := true, apart := false }
def FleetDownSaid : Prop := fleetDownRow.holds Try.pinned (OpenSpec.ofChange fleetDownSpec)

/-- ITS FALSE NEIGHBOUR: 'it returns false'. Refute it at one input. -/
def fleetDownWrong : ChangeSpec := { name := "fleetDown", fn := fun _ => fun
  | [d1, d2, d3, d4] => { results := [.lit (.bool false)], args := [d1, d2, d3, d4] }
  | _ => none }
def FleetDownWrongFalsely : Prop := fleetDownRow.holds Try.pinned (OpenSpec.ofChange fleetDownWrong)

/-- 'damperlaw11.FleetPicks': WHATEVER THE INPUT: true; the input reads as it did. -/
def fleetPicksSpec : ChangeSpec := { name := "fleetPicks", fn := fun _ => fun
  | [d1, d2, d3, d4] => { results := [.lit (.bool true)], args := [d1, d2, d3, d4] }
  | _ => none }
def fleetPicksRow : OpenClaim := { program := "ytheikjckdnhdhaa", sum := "1dffccf3eca1c38ec9e199a02d0a2d9f4882c7eae8ca05aae76b365576bb1e7c", func := "damper/damperlaw11.FleetPicks", spec := "fleetPicks", unfollowed := true, recurses := true, apart := false }
def FleetPicksSaid : Prop := fleetPicksRow.holds Try.pinned (OpenSpec.ofChange fleetPicksSpec)

/-- ITS FALSE NEIGHBOUR: 'it returns false'. Refute it at one input. -/
def fleetPicksWrong : ChangeSpec := { name := "fleetPicks", fn := fun _ => fun
  | [d1, d2, d3, d4] => { results := [.lit (.bool false)], args := [d1, d2, d3, d4] }
  | _ => none }
def FleetPicksWrongFalsely : Prop := fleetPicksRow.holds Try.pinned (OpenSpec.ofChange fleetPicksWrong)

/-- 'damperlaw11.FleetKnown': WHATEVER THE INPUT: true; the input reads as it did. -/
def fleetKnownSpec : ChangeSpec := { name := "fleetKnown", fn := fun _ => fun
  | [d] => { results := [.lit (.bool true)], args := [d] }
  | _ => none }
def fleetKnownRow : OpenClaim := { program := "ytheikjckdnhdhaa", sum := "1dffccf3eca1c38ec9e199a02d0a2d9f4882c7eae8ca05aae76b365576bb1e7c", func := "damper/damperlaw11.FleetKnown", spec := "fleetKnown", unfollowed := true, recurses := true, apart := false }
def FleetKnownSaid : Prop := fleetKnownRow.holds Try.pinned (OpenSpec.ofChange fleetKnownSpec)

/-- ITS FALSE NEIGHBOUR: 'it returns false'. Refute it at one input. -/
def fleetKnownWrong : ChangeSpec := { name := "fleetKnown", fn := fun _ => fun
  | [d] => { results := [.lit (.bool false)], args := [d] }
  | _ => none }
def FleetKnownWrongFalsely : Prop := fleetKnownRow.holds Try.pinned (OpenSpec.ofChange fleetKnownWrong)

/-- 'damperlaw11.FleetDrains': WHATEVER THE INPUT: true; the input reads as it did. -/
def fleetDrainsSpec : ChangeSpec := { name := "fleetDrains", fn := fun _ => fun
  | [d1, d2] => { results := [.lit (.bool true)], args := [d1, d2] }
  | _ => none }
def fleetDrainsRow : OpenClaim := { program := "ytheikjckdnhdhaa", sum := "1dffccf3eca1c38ec9e199a02d0a2d9f4882c7eae8ca05aae76b365576bb1e7c", func := "damper/damperlaw11.FleetDrains", spec := "fleetDrains", unfollowed := true, recurses := true, apart := false }
def FleetDrainsSaid : Prop := fleetDrainsRow.holds Try.pinned (OpenSpec.ofChange fleetDrainsSpec)

/-- ITS FALSE NEIGHBOUR: 'it returns false'. Refute it at one input. -/
def fleetDrainsWrong : ChangeSpec := { name := "fleetDrains", fn := fun _ => fun
  | [d1, d2] => { results := [.lit (.bool false)], args := [d1, d2] }
  | _ => none }
def FleetDrainsWrongFalsely : Prop := fleetDrainsRow.holds Try.pinned (OpenSpec.ofChange fleetDrainsWrong)

/-- 'damperlaw11.FleetApart': WHATEVER THE INPUT: true; the input reads as it did. -/
def fleetApartSpec : ChangeSpec := { name := "fleetApart", fn := fun _ => fun
  | [d1, d2] => { results := [.lit (.bool true)], args := [d1, d2] }
  | _ => none }
def fleetApartRow : OpenClaim := { program := "ytheikjckdnhdhaa", sum := "1dffccf3eca1c38ec9e199a02d0a2d9f4882c7eae8ca05aae76b365576bb1e7c", func := "damper/damperlaw11.FleetApart", spec := "fleetApart", unfollowed := true, recurses := true, apart := false }
def FleetApartSaid : Prop := fleetApartRow.holds Try.pinned (OpenSpec.ofChange fleetApartSpec)

/-- ITS FALSE NEIGHBOUR: 'it returns false'. Refute it at one input. -/
def fleetApartWrong : ChangeSpec := { name := "fleetApart", fn := fun _ => fun
  | [d1, d2] => { results := [.lit (.bool false)], args := [d1, d2] }
  | _ => none }
def FleetApartWrongFalsely : Prop := fleetApartRow.holds Try.pinned (OpenSpec.ofChange fleetApartWrong)

/-- 'damperlaw11.FleetOnce': WHATEVER THE INPUT: true; the input reads as it did. -/
def fleetOnceSpec : ChangeSpec := { name := "fleetOnce", fn := fun _ => fun
  | [d1, d2] => { results := [.lit (.bool true)], args := [d1, d2] }
  | _ => none }
def fleetOnceRow : OpenClaim := { program := "ytheikjckdnhdhaa", sum := "1dffccf3eca1c38ec9e199a02d0a2d9f4882c7eae8ca05aae76b365576bb1e7c", func := "damper/damperlaw11.FleetOnce", spec := "fleetOnce", unfollowed := true, recurses := true, apart := false }
def FleetOnceSaid : Prop := fleetOnceRow.holds Try.pinned (OpenSpec.ofChange fleetOnceSpec)

/-- ITS FALSE NEIGHBOUR: 'it returns false'. Refute it at one input. -/
def fleetOnceWrong : ChangeSpec := { name := "fleetOnce", fn := fun _ => fun
  | [d1, d2] => { results := [.lit (.bool false)], args := [d1, d2] }
  | _ => none }
def FleetOnceWrongFalsely : Prop := fleetOnceRow.holds Try.pinned (OpenSpec.ofChange fleetOnceWrong)

/- THE SECOND FORM. 'bulk': how many values and letters a reading holds, each counted each time it is reached (what is shared counts as often as it is met; a slice's spare places count too). A statement '..UptoSaid' is the law's where the arguments, and the package variables that the reading takes, are together of bulk at most 1048576: NARROWER than '..Said'. Prove '..Said' where nothing that the law and all that it calls make is longer than what came in: it says more and counts as full. Else prove '..UptoSaid'. A law counts once. -/
mutual
def uptoBulk {H : Type} : DataW H → Nat
  | .lit (.string bytes) => bytes.length + 1
  | .lit _ => 1
  | .nil => 1
  | .ptr d => uptoBulk d + 1
  | .slice elems spare => uptoBulkAll elems + uptoBulkAll spare + 1
  | .agg parts => uptoBulkAll parts + 1
  | .iface _ d => uptoBulk d + 1
  | .map entries => uptoBulkEntries entries + 1
  | .held _ => 1
def uptoBulkAll {H : Type} : List (DataW H) → Nat
  | [] => 0
  | d :: r => uptoBulk d + uptoBulkAll r
def uptoBulkEntries {H : Type} : List (Lit × DataW H) → Nat
  | [] => 0
  | x :: r => uptoBulkEntry x + uptoBulkEntries r
def uptoBulkEntry {H : Type} : Lit × DataW H → Nat
  | (.string bytes, d) => bytes.length + uptoBulk d + 1
  | (_, d) => uptoBulk d + 1
 end
def uptoSmall : (H : Type) → List (DataW H) → Bool := fun _ ds => decide (uptoBulkAll ds ≤ 1048576)
def OpenSpec.upto (s : _root_.Go.ChangeSpec) : _root_.Go.OpenSpec := { _root_.Go.OpenSpec.ofChange s with cond := some uptoSmall }

/-- 'damperlaw11.FleetRoom', WHERE WHAT IT READS IS OF BULK AT MOST 1048576: true; the input reads as it did. -/
def fleetRoomUptoRow : OpenClaim := { program := "ytheikjckdnhdhaa", sum := "1dffccf3eca1c38ec9e199a02d0a2d9f4882c7eae8ca05aae76b365576bb1e7c", func := "damper/damperlaw11.FleetRoom", spec := "fleetRoom", unfollowed := true, recurses := true, apart := false, narrowed := true }
def FleetRoomUptoSaid : Prop := fleetRoomUptoRow.holds Try.pinned (OpenSpec.upto fleetRoomSpec)

/-- 'damperlaw11.FleetDown', WHERE WHAT IT READS IS OF BULK AT MOST 1048576: true; the input reads as it did. -/
def fleetDownUptoRow : OpenClaim := { program := "ytheikjckdnhdhaa", sum := "1dffccf3eca1c38ec9e199a02d0a2d9f4882c7eae8ca05aae76b365576bb1e7c", func := "damper/damperlaw11.FleetDown", spec := "fleetDown", unfollowed := true, recurses := true, apart := false, narrowed := true }
def FleetDownUptoSaid : Prop := fleetDownUptoRow.holds Try.pinned (OpenSpec.upto fleetDownSpec)

/-- 'damperlaw11.FleetPicks', WHERE WHAT IT READS IS OF BULK AT MOST 1048576: true; the input reads as it did. -/
def fleetPicksUptoRow : OpenClaim := { program := "ytheikjckdnhdhaa", sum := "1dffccf3eca1c38ec9e199a02d0a2d9f4882c7eae8ca05aae76b365576bb1e7c", func := "damper/damperlaw11.FleetPicks", spec := "fleetPicks", unfollowed := true, recurses := true, apart := false, narrowed := true }
def FleetPicksUptoSaid : Prop := fleetPicksUptoRow.holds Try.pinned (OpenSpec.upto fleetPicksSpec)

/-- 'damperlaw11.FleetKnown', WHERE WHAT IT READS IS OF BULK AT MOST 1048576: true; the input reads as it did. -/
def fleetKnownUptoRow : OpenClaim := { program := "ytheikjckdnhdhaa", sum := "1dffccf3eca1c38ec9e199a02d0a2d9f4882c7eae8ca05aae76b365576bb1e7c", func := "damper/damperlaw11.FleetKnown", spec := "fleetKnown", unfollowed := true, recurses := true, apart := false, narrowed := true }
def FleetKnownUptoSaid : Prop := fleetKnownUptoRow.holds Try.pinned (OpenSpec.upto fleetKnownSpec)

/-- 'damperlaw11.FleetDrains', WHERE WHAT IT READS IS OF BULK AT MOST 1048576: true; the input reads as it did. -/
def fleetDrainsUptoRow : OpenClaim := { program := "ytheikjckdnhdhaa", sum := "1dffccf3eca1c38ec9e199a02d0a2d9f4882c7eae8ca05aae76b365576bb1e7c", func := "damper/damperlaw11.FleetDrains", spec := "fleetDrains", unfollowed := true, recurses := true, apart := false, narrowed := true }
def FleetDrainsUptoSaid : Prop := fleetDrainsUptoRow.holds Try.pinned (OpenSpec.upto fleetDrainsSpec)

/-- 'damperlaw11.FleetApart', WHERE WHAT IT READS IS OF BULK AT MOST 1048576: true; the input reads as it did. -/
def fleetApartUptoRow : OpenClaim := { program := "ytheikjckdnhdhaa", sum := "1dffccf3eca1c38ec9e199a02d0a2d9f4882c7eae8ca05aae76b365576bb1e7c", func := "damper/damperlaw11.FleetApart", spec := "fleetApart", unfollowed := true, recurses := true, apart := false, narrowed := true }
def FleetApartUptoSaid : Prop := fleetApartUptoRow.holds Try.pinned (OpenSpec.upto fleetApartSpec)

/-- 'damperlaw11.FleetOnce', WHERE WHAT IT READS IS OF BULK AT MOST 1048576: true; the input reads as it did. -/
def fleetOnceUptoRow : OpenClaim := { program := "ytheikjckdnhdhaa", sum := "1dffccf3eca1c38ec9e199a02d0a2d9f4882c7eae8ca05aae76b365576bb1e7c", func := "damper/damperlaw11.FleetOnce", spec := "fleetOnce", unfollowed := true, recurses := true, apart := false, narrowed := true }
def FleetOnceUptoSaid : Prop := fleetOnceUptoRow.holds Try.pinned (OpenSpec.upto fleetOnceSpec)

end Rows
end Go.Proofs.Ytheikjckdnhdhaa
