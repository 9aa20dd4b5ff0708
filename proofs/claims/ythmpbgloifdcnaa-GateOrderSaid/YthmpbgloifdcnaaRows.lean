/-
  No cell of these rows narrows 'for every input' (looked for: loops, veiled, ifaces, maps, wideKeys, modest, calm, conditions, laid).
  DERIVED. THE GIVEN ROWS OF THIS SEAT. 6 by the template 'for every input the law returns true; each argument reads behind the call as it read before'; 0 by the template 'total and deterministic' (their statements: YthmpbgloifdcnaaTotals.lean).
  GIVEN WITH THE SEED: the statements are not yours to turn. If you find one false, say at which input.
  Laid BY PROGRAM, IN A SANDBOX (cutbox-rows.mjs): the forced cells as the released guide's own fill.sh prints them over the translation 121eed3630021fab… (all of the seat's roots in one cut). By AI agents, Wed Nov 11 2026. No macro, syntax, notation, axiom, sorry.
-/
import Derived.Test.YthmpbgloifdcnaaChecked
import GoSem.Claim
import GoSem.ClaimJoined
import GoSem.ClaimMapViews
import Derived.JoinedTies
import Derived.KernelRfl
namespace Go.Proofs.Ythmpbgloifdcnaa
/- THE CELL 'sum', in the pinned program and in every row, IS THE sha256 OF THE DUMP (.gsa) THAT YthmpbgloifdcnaaProg.lean LOADS. Nothing in Lean hashes anything: it is a label: what it is worth is what the hold of that sum in a sandbox is worth. -/
noncomputable def Try.pinned : Pinned := { name := "ythmpbgloifdcnaa", sum := "121eed3630021fab4bbdb572558fe9791dfd4e8c5940598d367b1a52546740d0", checked := Try.checked }
namespace Rows
def none {H : Type} : Left H := { results := [], args := [] }

/-- 'damperlaw14.GateFull': WHATEVER THE INPUT: true; the input reads as it did. -/
def gateFullSpec : ChangeSpec := { name := "gateFull", fn := fun _ => fun
  | [d1, d2, d3, d4] => { results := [.lit (.bool true)], args := [d1, d2, d3, d4] }
  | _ => none }
def gateFullRow : OpenClaim := { program := "ythmpbgloifdcnaa", sum := "121eed3630021fab4bbdb572558fe9791dfd4e8c5940598d367b1a52546740d0", func := "damper/damperlaw14.GateFull", spec := "gateFull", unfollowed := true, recurses := true, apart := false }
def GateFullSaid : Prop := gateFullRow.holds Try.pinned (OpenSpec.ofChange gateFullSpec)

/-- ITS FALSE NEIGHBOUR: 'it returns false'. Refute it at one input. -/
def gateFullWrong : ChangeSpec := { name := "gateFull", fn := fun _ => fun
  | [d1, d2, d3, d4] => { results := [.lit (.bool false)], args := [d1, d2, d3, d4] }
  | _ => none }
def GateFullWrongFalsely : Prop := gateFullRow.holds Try.pinned (OpenSpec.ofChange gateFullWrong)

/-- 'damperlaw14.GateApart': WHATEVER THE INPUT: true; the input reads as it did. -/
def gateApartSpec : ChangeSpec := { name := "gateApart", fn := fun _ => fun
  | [d1, d2, d3] => { results := [.lit (.bool true)], args := [d1, d2, d3] }
  | _ => none }
def gateApartRow : OpenClaim := { program := "ythmpbgloifdcnaa", sum := "121eed3630021fab4bbdb572558fe9791dfd4e8c5940598d367b1a52546740d0", func := "damper/damperlaw14.GateApart", spec := "gateApart", unfollowed := true, recurses := true, apart := false }
def GateApartSaid : Prop := gateApartRow.holds Try.pinned (OpenSpec.ofChange gateApartSpec)

/-- ITS FALSE NEIGHBOUR: 'it returns false'. Refute it at one input. -/
def gateApartWrong : ChangeSpec := { name := "gateApart", fn := fun _ => fun
  | [d1, d2, d3] => { results := [.lit (.bool false)], args := [d1, d2, d3] }
  | _ => none }
def GateApartWrongFalsely : Prop := gateApartRow.holds Try.pinned (OpenSpec.ofChange gateApartWrong)

/-- 'damperlaw14.GateFlows': WHATEVER THE INPUT: true; the input reads as it did. -/
def gateFlowsSpec : ChangeSpec := { name := "gateFlows", fn := fun _ => fun
  | [d1, d2, d3] => { results := [.lit (.bool true)], args := [d1, d2, d3] }
  | _ => none }
def gateFlowsRow : OpenClaim := { program := "ythmpbgloifdcnaa", sum := "121eed3630021fab4bbdb572558fe9791dfd4e8c5940598d367b1a52546740d0", func := "damper/damperlaw14.GateFlows", spec := "gateFlows", unfollowed := true, recurses := true, apart := false }
def GateFlowsSaid : Prop := gateFlowsRow.holds Try.pinned (OpenSpec.ofChange gateFlowsSpec)

/-- ITS FALSE NEIGHBOUR: 'it returns false'. Refute it at one input. -/
def gateFlowsWrong : ChangeSpec := { name := "gateFlows", fn := fun _ => fun
  | [d1, d2, d3] => { results := [.lit (.bool false)], args := [d1, d2, d3] }
  | _ => none }
def GateFlowsWrongFalsely : Prop := gateFlowsRow.holds Try.pinned (OpenSpec.ofChange gateFlowsWrong)

/-- 'damperlaw14.GateLost': WHATEVER THE INPUT: true; the input reads as it did. -/
def gateLostSpec : ChangeSpec := { name := "gateLost", fn := fun _ => fun
  | [d1, d2] => { results := [.lit (.bool true)], args := [d1, d2] }
  | _ => none }
def gateLostRow : OpenClaim := { program := "ythmpbgloifdcnaa", sum := "121eed3630021fab4bbdb572558fe9791dfd4e8c5940598d367b1a52546740d0", func := "damper/damperlaw14.GateLost", spec := "gateLost", unfollowed := true, recurses := true, apart := false }
def GateLostSaid : Prop := gateLostRow.holds Try.pinned (OpenSpec.ofChange gateLostSpec)

/-- ITS FALSE NEIGHBOUR: 'it returns false'. Refute it at one input. -/
def gateLostWrong : ChangeSpec := { name := "gateLost", fn := fun _ => fun
  | [d1, d2] => { results := [.lit (.bool false)], args := [d1, d2] }
  | _ => none }
def GateLostWrongFalsely : Prop := gateLostRow.holds Try.pinned (OpenSpec.ofChange gateLostWrong)

/-- 'damperlaw14.GateEnds': WHATEVER THE INPUT: true; the input reads as it did. -/
def gateEndsSpec : ChangeSpec := { name := "gateEnds", fn := fun _ => fun
  | [d1, d2, d3] => { results := [.lit (.bool true)], args := [d1, d2, d3] }
  | _ => none }
def gateEndsRow : OpenClaim := { program := "ythmpbgloifdcnaa", sum := "121eed3630021fab4bbdb572558fe9791dfd4e8c5940598d367b1a52546740d0", func := "damper/damperlaw14.GateEnds", spec := "gateEnds", unfollowed := true, recurses := true, apart := false }
def GateEndsSaid : Prop := gateEndsRow.holds Try.pinned (OpenSpec.ofChange gateEndsSpec)

/-- ITS FALSE NEIGHBOUR: 'it returns false'. Refute it at one input. -/
def gateEndsWrong : ChangeSpec := { name := "gateEnds", fn := fun _ => fun
  | [d1, d2, d3] => { results := [.lit (.bool false)], args := [d1, d2, d3] }
  | _ => none }
def GateEndsWrongFalsely : Prop := gateEndsRow.holds Try.pinned (OpenSpec.ofChange gateEndsWrong)

/-- 'damperlaw14.GateOrder': WHATEVER THE INPUT: true; the input reads as it did. -/
def gateOrderSpec : ChangeSpec := { name := "gateOrder", fn := fun _ => fun
  | [d1, d2] => { results := [.lit (.bool true)], args := [d1, d2] }
  | _ => none }
def gateOrderRow : OpenClaim := { program := "ythmpbgloifdcnaa", sum := "121eed3630021fab4bbdb572558fe9791dfd4e8c5940598d367b1a52546740d0", func := "damper/damperlaw14.GateOrder", spec := "gateOrder", unfollowed := true, recurses := true, apart := false }
def GateOrderSaid : Prop := gateOrderRow.holds Try.pinned (OpenSpec.ofChange gateOrderSpec)

/-- ITS FALSE NEIGHBOUR: 'it returns false'. Refute it at one input. -/
def gateOrderWrong : ChangeSpec := { name := "gateOrder", fn := fun _ => fun
  | [d1, d2] => { results := [.lit (.bool false)], args := [d1, d2] }
  | _ => none }
def GateOrderWrongFalsely : Prop := gateOrderRow.holds Try.pinned (OpenSpec.ofChange gateOrderWrong)

/- THE SECOND FORM. 'bulk': how many values and letters a reading holds, each counted each time it is reached (what is shared counts as often as it is met; a slice's spare places count too). A statement '..UptoSaid' is the law's where the arguments, and the package variables that the reading takes, are together of bulk at most 1048576: NARROWER than '..Said'. Prove '..Said' where nothing that the law and all that it calls make is longer than what came in: it says more and counts as full. Else prove '..UptoSaid'. A law counts once. -/
mutual
def uptoBulk {H : Type} : DataW H → Nat
  | .lit (.string bytes) => bytes.length + 1
  | .lit _ => 1
  | .nil => 1
  | .ptr d => uptoBulk d + 1
  | .slice elems spare => uptoBulkAll elems + uptoBulkAll spare + 1
  | .agg parts => uptoBulkAll parts + 1
  | .iface _ d => uptoBulk d + 1
  | .map entries => uptoBulkEntries entries + 1
  | .held _ => 1
def uptoBulkAll {H : Type} : List (DataW H) → Nat
  | [] => 0
  | d :: r => uptoBulk d + uptoBulkAll r
def uptoBulkEntries {H : Type} : List (Lit × DataW H) → Nat
  | [] => 0
  | x :: r => uptoBulkEntry x + uptoBulkEntries r
def uptoBulkEntry {H : Type} : Lit × DataW H → Nat
  | (.string bytes, d) => bytes.length + uptoBulk d + 1
  | (_, d) => uptoBulk d + 1
 end
def uptoSmall : (H : Type) → List (DataW H) → Bool := fun _ ds => decide (uptoBulkAll ds ≤ 1048576)
def OpenSpec.upto (s : _root_.Go.ChangeSpec) : _root_.Go.OpenSpec := { _root_.Go.OpenSpec.ofChange s with cond := some uptoSmall }

/-- 'damperlaw14.GateFull', WHERE WHAT IT READS IS OF BULK AT MOST 1048576: true; the input reads as it did. -/
def gateFullUptoRow : OpenClaim := { program := "ythmpbgloifdcnaa", sum := "121eed3630021fab4bbdb572558fe9791dfd4e8c5940598d367b1a52546740d0", func := "damper/damperlaw14.GateFull", spec := "gateFull", unfollowed := true, recurses := true, apart := false, narrowed := true }
def GateFullUptoSaid : Prop := gateFullUptoRow.holds Try.pinned (OpenSpec.upto gateFullSpec)

/-- 'damperlaw14.GateApart', WHERE WHAT IT READS IS OF BULK AT MOST 1048576: true; the input reads as it did. -/
def gateApartUptoRow : OpenClaim := { program := "ythmpbgloifdcnaa", sum := "121eed3630021fab4bbdb572558fe9791dfd4e8c5940598d367b1a52546740d0", func := "damper/damperlaw14.GateApart", spec := "gateApart", unfollowed := true, recurses := true, apart := false, narrowed := true }
def GateApartUptoSaid : Prop := gateApartUptoRow.holds Try.pinned (OpenSpec.upto gateApartSpec)

/-- 'damperlaw14.GateFlows', WHERE WHAT IT READS IS OF BULK AT MOST 1048576: true; the input reads as it did. -/
def gateFlowsUptoRow : OpenClaim := { program := "ythmpbgloifdcnaa", sum := "121eed3630021fab4bbdb572558fe9791dfd4e8c5940598d367b1a52546740d0", func := "damper/damperlaw14.GateFlows", spec := "gateFlows", unfollowed := true, recurses := true, apart := false, narrowed := true }
def GateFlowsUptoSaid : Prop := gateFlowsUptoRow.holds Try.pinned (OpenSpec.upto gateFlowsSpec)

/-- 'damperlaw14.GateLost', WHERE WHAT IT READS IS OF BULK AT MOST 1048576: true; the input reads as it did. -/
def gateLostUptoRow : OpenClaim := { program := "ythmpbgloifdcnaa", sum := "121eed3630021fab4bbdb572558fe9791dfd4e8c5940598d367b1a52546740d0", func := "damper/damperlaw14.GateLost", spec := "gateLost", unfollowed := true, recurses := true, apart := false, narrowed := true }
def GateLostUptoSaid : Prop := gateLostUptoRow.holds Try.pinned (OpenSpec.upto gateLostSpec)

/-- 'damperlaw14.GateEnds', WHERE WHAT IT READS IS OF BULK AT MOST 1048576: true; the input reads as it did. -/
def gateEndsUptoRow : OpenClaim := { program := "ythmpbgloifdcnaa", sum := "121eed3630021fab4bbdb572558fe9791dfd4e8c5940598d367b1a52546740d0", func := "damper/damperlaw14.GateEnds", spec := "gateEnds", unfollowed := true, recurses := true, apart := false, narrowed := true }
def GateEndsUptoSaid : Prop := gateEndsUptoRow.holds Try.pinned (OpenSpec.upto gateEndsSpec)

/-- 'damperlaw14.GateOrder', WHERE WHAT IT READS IS OF BULK AT MOST 1048576: true; the input reads as it did. -/
def gateOrderUptoRow : OpenClaim := { program := "ythmpbgloifdcnaa", sum := "121eed3630021fab4bbdb572558fe9791dfd4e8c5940598d367b1a52546740d0", func := "damper/damperlaw14.GateOrder", spec := "gateOrder", unfollowed := true, recurses := true, apart := false, narrowed := true }
def GateOrderUptoSaid : Prop := gateOrderUptoRow.holds Try.pinned (OpenSpec.upto gateOrderSpec)

end Rows
end Go.Proofs.Ythmpbgloifdcnaa
