/-
  No cell of these rows narrows 'for every input' (looked for: loops, veiled, ifaces, maps, wideKeys, modest, calm, conditions, laid).
  DERIVED. THE GIVEN ROWS OF THIS SEAT. 6 by the template 'for every input the law returns true; each argument reads behind the call as it read before'; 0 by the template 'total and deterministic' (their statements: YtkccfgdgblkljaaTotals.lean).
  GIVEN WITH THE SEED: the statements are not yours to turn. If you find one false, say at which input.
  Laid BY PROGRAM, IN A SANDBOX (cutbox-rows.mjs): the forced cells as the released guide's own fill.sh prints them over the translation 0df2d28d984429b4… (all of the seat's roots in one cut). By AI agents, Wed Nov 11 2026. No macro, syntax, notation, axiom, sorry.
-/
import Derived.Test.YtkccfgdgblkljaaChecked
import GoSem.Claim
import GoSem.ClaimJoined
import GoSem.ClaimMapViews
import Derived.JoinedTies
import Derived.KernelRfl
namespace Go.Proofs.Ytkccfgdgblkljaa
/- THE CELL 'sum', in the pinned program and in every row, IS THE sha256 OF THE DUMP (.gsa) THAT YtkccfgdgblkljaaProg.lean LOADS. Nothing in Lean hashes anything: it is a label: what it is worth is what the hold of that sum in a sandbox is worth. -/
noncomputable def Try.pinned : Pinned := { name := "ytkccfgdgblkljaa", sum := "0df2d28d984429b494561aae9ad14d9ed000e7a0289ee75ccd1eb3e6f37fc6b3", checked := Try.checked }
namespace Rows
def none {H : Type} : Left H := { results := [], args := [] }

/-- 'damperlaw8.WaitMix': WHATEVER THE INPUT: true; the input reads as it did. -/
def waitMixSpec : ChangeSpec := { name := "waitMix", fn := fun _ => fun
  | [d] => { results := [.lit (.bool true)], args := [d] }
  | _ => none }
def waitMixRow : OpenClaim := { program := "ytkccfgdgblkljaa", sum := "0df2d28d984429b494561aae9ad14d9ed000e7a0289ee75ccd1eb3e6f37fc6b3", func := "damper/damperlaw8.WaitMix", spec := "waitMix", unfollowed := true, recurses := true, apart := false }
def WaitMixSaid : Prop := waitMixRow.holds Try.pinned (OpenSpec.ofChange waitMixSpec)

/-- ITS FALSE NEIGHBOUR: 'it returns false'. Refute it at one input. -/
def waitMixWrong : ChangeSpec := { name := "waitMix", fn := fun _ => fun
  | [d] => { results := [.lit (.bool false)], args := [d] }
  | _ => none }
def WaitMixWrongFalsely : Prop := waitMixRow.holds Try.pinned (OpenSpec.ofChange waitMixWrong)

/-- 'damperlaw8.WaitRoom': WHATEVER THE INPUT: true; the input reads as it did. -/
def waitRoomSpec : ChangeSpec := { name := "waitRoom", fn := fun _ => fun
  | [d1, d2] => { results := [.lit (.bool true)], args := [d1, d2] }
  | _ => none }
def waitRoomRow : OpenClaim := { program := "ytkccfgdgblkljaa", sum := "0df2d28d984429b494561aae9ad14d9ed000e7a0289ee75ccd1eb3e6f37fc6b3", func := "damper/damperlaw8.WaitRoom", spec := "waitRoom", unfollowed := true, recurses := true, apart := false }
def WaitRoomSaid : Prop := waitRoomRow.holds Try.pinned (OpenSpec.ofChange waitRoomSpec)

/-- ITS FALSE NEIGHBOUR: 'it returns false'. Refute it at one input. -/
def waitRoomWrong : ChangeSpec := { name := "waitRoom", fn := fun _ => fun
  | [d1, d2] => { results := [.lit (.bool false)], args := [d1, d2] }
  | _ => none }
def WaitRoomWrongFalsely : Prop := waitRoomRow.holds Try.pinned (OpenSpec.ofChange waitRoomWrong)

/-- 'damperlaw8.WaitOrder': WHATEVER THE INPUT: true; the input reads as it did. -/
def waitOrderSpec : ChangeSpec := { name := "waitOrder", fn := fun _ => fun
  | [d1, d2] => { results := [.lit (.bool true)], args := [d1, d2] }
  | _ => none }
def waitOrderRow : OpenClaim := { program := "ytkccfgdgblkljaa", sum := "0df2d28d984429b494561aae9ad14d9ed000e7a0289ee75ccd1eb3e6f37fc6b3", func := "damper/damperlaw8.WaitOrder", spec := "waitOrder", unfollowed := true, recurses := true, apart := false }
def WaitOrderSaid : Prop := waitOrderRow.holds Try.pinned (OpenSpec.ofChange waitOrderSpec)

/-- ITS FALSE NEIGHBOUR: 'it returns false'. Refute it at one input. -/
def waitOrderWrong : ChangeSpec := { name := "waitOrder", fn := fun _ => fun
  | [d1, d2] => { results := [.lit (.bool false)], args := [d1, d2] }
  | _ => none }
def WaitOrderWrongFalsely : Prop := waitOrderRow.holds Try.pinned (OpenSpec.ofChange waitOrderWrong)

/-- 'damperlaw8.WaitPlays': WHATEVER THE INPUT: true; the input reads as it did. -/
def waitPlaysSpec : ChangeSpec := { name := "waitPlays", fn := fun _ => fun
  | [d1, d2] => { results := [.lit (.bool true)], args := [d1, d2] }
  | _ => none }
def waitPlaysRow : OpenClaim := { program := "ytkccfgdgblkljaa", sum := "0df2d28d984429b494561aae9ad14d9ed000e7a0289ee75ccd1eb3e6f37fc6b3", func := "damper/damperlaw8.WaitPlays", spec := "waitPlays", unfollowed := true, recurses := true, apart := false }
def WaitPlaysSaid : Prop := waitPlaysRow.holds Try.pinned (OpenSpec.ofChange waitPlaysSpec)

/-- ITS FALSE NEIGHBOUR: 'it returns false'. Refute it at one input. -/
def waitPlaysWrong : ChangeSpec := { name := "waitPlays", fn := fun _ => fun
  | [d1, d2] => { results := [.lit (.bool false)], args := [d1, d2] }
  | _ => none }
def WaitPlaysWrongFalsely : Prop := waitPlaysRow.holds Try.pinned (OpenSpec.ofChange waitPlaysWrong)

/-- 'damperlaw8.WaitLate': WHATEVER THE INPUT: true; the input reads as it did. -/
def waitLateSpec : ChangeSpec := { name := "waitLate", fn := fun _ => fun
  | [d1, d2] => { results := [.lit (.bool true)], args := [d1, d2] }
  | _ => none }
def waitLateRow : OpenClaim := { program := "ytkccfgdgblkljaa", sum := "0df2d28d984429b494561aae9ad14d9ed000e7a0289ee75ccd1eb3e6f37fc6b3", func := "damper/damperlaw8.WaitLate", spec := "waitLate", unfollowed := true, recurses := true, apart := false }
def WaitLateSaid : Prop := waitLateRow.holds Try.pinned (OpenSpec.ofChange waitLateSpec)

/-- ITS FALSE NEIGHBOUR: 'it returns false'. Refute it at one input. -/
def waitLateWrong : ChangeSpec := { name := "waitLate", fn := fun _ => fun
  | [d1, d2] => { results := [.lit (.bool false)], args := [d1, d2] }
  | _ => none }
def WaitLateWrongFalsely : Prop := waitLateRow.holds Try.pinned (OpenSpec.ofChange waitLateWrong)

/-- 'damperlaw8.WaitNone': WHATEVER THE INPUT: true; the input reads as it did. -/
def waitNoneSpec : ChangeSpec := { name := "waitNone", fn := fun _ => fun
  | [d1, d2] => { results := [.lit (.bool true)], args := [d1, d2] }
  | _ => none }
def waitNoneRow : OpenClaim := { program := "ytkccfgdgblkljaa", sum := "0df2d28d984429b494561aae9ad14d9ed000e7a0289ee75ccd1eb3e6f37fc6b3", func := "damper/damperlaw8.WaitNone", spec := "waitNone", unfollowed := true, recurses := true, apart := false }
def WaitNoneSaid : Prop := waitNoneRow.holds Try.pinned (OpenSpec.ofChange waitNoneSpec)

/-- ITS FALSE NEIGHBOUR: 'it returns false'. Refute it at one input. -/
def waitNoneWrong : ChangeSpec := { name := "waitNone", fn := fun _ => fun
  | [d1, d2] => { results := [.lit (.bool false)], args := [d1, d2] }
  | _ => none }
def WaitNoneWrongFalsely : Prop := waitNoneRow.holds Try.pinned (OpenSpec.ofChange waitNoneWrong)

/- THE SECOND FORM. 'bulk': how many values and letters a reading holds, each counted each time it is reached (what is shared counts as often as it is met; a slice's spare places count too). A statement '..UptoSaid' is the law's where the arguments, and the package variables that the reading takes, are together of bulk at most 1048576: NARROWER than '..Said'. Prove '..Said' where nothing that the law and all that it calls make is longer than what came in: it says more and counts as full. Else prove '..UptoSaid'. A law counts once. -/
mutual
def uptoBulk {H : Type} : DataW H → Nat
  | .lit (.string bytes) => bytes.length + 1
  | .lit _ => 1
  | .nil => 1
  | .ptr d => uptoBulk d + 1
  | .slice elems spare => uptoBulkAll elems + uptoBulkAll spare + 1
  | .agg parts => uptoBulkAll parts + 1
  | .iface _ d => uptoBulk d + 1
  | .map entries => uptoBulkEntries entries + 1
  | .held _ => 1
def uptoBulkAll {H : Type} : List (DataW H) → Nat
  | [] => 0
  | d :: r => uptoBulk d + uptoBulkAll r
def uptoBulkEntries {H : Type} : List (Lit × DataW H) → Nat
  | [] => 0
  | x :: r => uptoBulkEntry x + uptoBulkEntries r
def uptoBulkEntry {H : Type} : Lit × DataW H → Nat
  | (.string bytes, d) => bytes.length + uptoBulk d + 1
  | (_, d) => uptoBulk d + 1
 end
def uptoSmall : (H : Type) → List (DataW H) → Bool := fun _ ds => decide (uptoBulkAll ds ≤ 1048576)
def OpenSpec.upto (s : _root_.Go.ChangeSpec) : _root_.Go.OpenSpec := { _root_.Go.OpenSpec.ofChange s with cond := some uptoSmall }

/-- 'damperlaw8.WaitMix', WHERE WHAT IT READS IS OF BULK AT MOST 1048576: true; the input reads as it did. -/
def waitMixUptoRow : OpenClaim := { program := "ytkccfgdgblkljaa", sum := "0df2d28d984429b494561aae9ad14d9ed000e7a0289ee75ccd1eb3e6f37fc6b3", func := "damper/damperlaw8.WaitMix", spec := "waitMix", unfollowed := true, recurses := true, apart := false, narrowed := true }
def WaitMixUptoSaid : Prop := waitMixUptoRow.holds Try.pinned (OpenSpec.upto waitMixSpec)

/-- 'damperlaw8.WaitRoom', WHERE WHAT IT READS IS OF BULK AT MOST 1048576: true; the input reads as it did. -/
def waitRoomUptoRow : OpenClaim := { program := "ytkccfgdgblkljaa", sum := "0df2d28d984429b494561aae9ad14d9ed000e7a0289ee75ccd1eb3e6f37fc6b3", func := "damper/damperlaw8.WaitRoom", spec := "waitRoom", unfollowed := true, recurses := true, apart := false, narrowed := true }
def WaitRoomUptoSaid : Prop := waitRoomUptoRow.holds Try.pinned (OpenSpec.upto waitRoomSpec)

/-- 'damperlaw8.WaitOrder', WHERE WHAT IT READS IS OF BULK AT MOST 1048576: true; the input reads as it did. -/
def waitOrderUptoRow : OpenClaim := { program := "ytkccfgdgblkljaa", sum := "0df2d28d984429b494561aae9ad14d9ed000e7a0289ee75ccd1eb3e6f37fc6b3", func := "damper/damperlaw8.WaitOrder", spec := "waitOrder", unfollowed := true, recurses := true, apart := false, narrowed := true }
def WaitOrderUptoSaid : Prop := waitOrderUptoRow.holds Try.pinned (OpenSpec.upto waitOrderSpec)

/-- 'damperlaw8.WaitPlays', WHERE WHAT IT READS IS OF BULK AT MOST 1048576: true; the input reads as it did. -/
def waitPlaysUptoRow : OpenClaim := { program := "ytkccfgdgblkljaa", sum := "0df2d28d984429b494561aae9ad14d9ed000e7a0289ee75ccd1eb3e6f37fc6b3", func := "damper/damperlaw8.WaitPlays", spec := "waitPlays", unfollowed := true, recurses := true, apart := false, narrowed := true }
def WaitPlaysUptoSaid : Prop := waitPlaysUptoRow.holds Try.pinned (OpenSpec.upto waitPlaysSpec)

/-- 'damperlaw8.WaitLate', WHERE WHAT IT READS IS OF BULK AT MOST 1048576: true; the input reads as it did. -/
def waitLateUptoRow : OpenClaim := { program := "ytkccfgdgblkljaa", sum := "0df2d28d984429b494561aae9ad14d9ed000e7a0289ee75ccd1eb3e6f37fc6b3", func := "damper/damperlaw8.WaitLate", spec := "waitLate", unfollowed := true, recurses := true, apart := false, narrowed := true }
def WaitLateUptoSaid : Prop := waitLateUptoRow.holds Try.pinned (OpenSpec.upto waitLateSpec)

/-- 'damperlaw8.WaitNone', WHERE WHAT IT READS IS OF BULK AT MOST 1048576: true; the input reads as it did. -/
def waitNoneUptoRow : OpenClaim := { program := "ytkccfgdgblkljaa", sum := "0df2d28d984429b494561aae9ad14d9ed000e7a0289ee75ccd1eb3e6f37fc6b3", func := "damper/damperlaw8.WaitNone", spec := "waitNone", unfollowed := true, recurses := true, apart := false, narrowed := true }
def WaitNoneUptoSaid : Prop := waitNoneUptoRow.holds Try.pinned (OpenSpec.upto waitNoneSpec)

end Rows
end Go.Proofs.Ytkccfgdgblkljaa
