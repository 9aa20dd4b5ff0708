/-
  No cell of these rows narrows 'for every input' (looked for: loops, veiled, ifaces, maps, wideKeys, modest, calm, conditions, laid).
  DERIVED. THE GIVEN ROWS OF THIS SEAT. 6 by the template 'for every input the law returns true; each argument reads behind the call as it read before'; 0 by the template 'total and deterministic' (their statements: YtlikldnigjnpeaaTotals.lean).
  GIVEN WITH THE SEED: the statements are not yours to turn. If you find one false, say at which input.
  Laid BY PROGRAM, IN A SANDBOX (cutbox-rows.mjs): the forced cells as the released guide's own fill.sh prints them over the translation 7c2bae8cf3f90e98… (all of the seat's roots in one cut). By AI agents, Wed Nov 11 2026. No macro, syntax, notation, axiom, sorry.
-/
import Derived.Test.YtlikldnigjnpeaaChecked
import GoSem.Claim
import GoSem.ClaimJoined
import GoSem.ClaimMapViews
import Derived.JoinedTies
import Derived.KernelRfl
namespace Go.Proofs.Ytlikldnigjnpeaa
/- THE CELL 'sum', in the pinned program and in every row, IS THE sha256 OF THE DUMP (.gsa) THAT YtlikldnigjnpeaaProg.lean LOADS. Nothing in Lean hashes anything: it is a label: what it is worth is what the hold of that sum in a sandbox is worth. -/
noncomputable def Try.pinned : Pinned := { name := "ytlikldnigjnpeaa", sum := "7c2bae8cf3f90e98ca490cb77bddbd2e171b512239453611cc4fc1ef28ad74ef", checked := Try.checked }
namespace Rows
def none {H : Type} : Left H := { results := [], args := [] }

/-- 'damperlaw9.GaugePlays': WHATEVER THE INPUT: true; the input reads as it did. -/
def gaugePlaysSpec : ChangeSpec := { name := "gaugePlays", fn := fun _ => fun
  | [d1, d2, d3] => { results := [.lit (.bool true)], args := [d1, d2, d3] }
  | _ => none }
def gaugePlaysRow : OpenClaim := { program := "ytlikldnigjnpeaa", sum := "7c2bae8cf3f90e98ca490cb77bddbd2e171b512239453611cc4fc1ef28ad74ef", func := "damper/damperlaw9.GaugePlays", spec := "gaugePlays", unfollowed := true, recurses := true, apart := false }
def GaugePlaysSaid : Prop := gaugePlaysRow.holds Try.pinned (OpenSpec.ofChange gaugePlaysSpec)

/-- ITS FALSE NEIGHBOUR: 'it returns false'. Refute it at one input. -/
def gaugePlaysWrong : ChangeSpec := { name := "gaugePlays", fn := fun _ => fun
  | [d1, d2, d3] => { results := [.lit (.bool false)], args := [d1, d2, d3] }
  | _ => none }
def GaugePlaysWrongFalsely : Prop := gaugePlaysRow.holds Try.pinned (OpenSpec.ofChange gaugePlaysWrong)

/-- 'damperlaw9.GaugeSums': WHATEVER THE INPUT: true; the input reads as it did. -/
def gaugeSumsSpec : ChangeSpec := { name := "gaugeSums", fn := fun _ => fun
  | [d1, d2] => { results := [.lit (.bool true)], args := [d1, d2] }
  | _ => none }
def gaugeSumsRow : OpenClaim := { program := "ytlikldnigjnpeaa", sum := "7c2bae8cf3f90e98ca490cb77bddbd2e171b512239453611cc4fc1ef28ad74ef", func := "damper/damperlaw9.GaugeSums", spec := "gaugeSums", unfollowed := true, recurses := true, apart := false }
def GaugeSumsSaid : Prop := gaugeSumsRow.holds Try.pinned (OpenSpec.ofChange gaugeSumsSpec)

/-- ITS FALSE NEIGHBOUR: 'it returns false'. Refute it at one input. -/
def gaugeSumsWrong : ChangeSpec := { name := "gaugeSums", fn := fun _ => fun
  | [d1, d2] => { results := [.lit (.bool false)], args := [d1, d2] }
  | _ => none }
def GaugeSumsWrongFalsely : Prop := gaugeSumsRow.holds Try.pinned (OpenSpec.ofChange gaugeSumsWrong)

/-- 'damperlaw9.GaugeIdle': WHATEVER THE INPUT: true; the input reads as it did. -/
def gaugeIdleSpec : ChangeSpec := { name := "gaugeIdle", fn := fun _ => fun
  | [d] => { results := [.lit (.bool true)], args := [d] }
  | _ => none }
def gaugeIdleRow : OpenClaim := { program := "ytlikldnigjnpeaa", sum := "7c2bae8cf3f90e98ca490cb77bddbd2e171b512239453611cc4fc1ef28ad74ef", func := "damper/damperlaw9.GaugeIdle", spec := "gaugeIdle", unfollowed := true, recurses := true, apart := false }
def GaugeIdleSaid : Prop := gaugeIdleRow.holds Try.pinned (OpenSpec.ofChange gaugeIdleSpec)

/-- ITS FALSE NEIGHBOUR: 'it returns false'. Refute it at one input. -/
def gaugeIdleWrong : ChangeSpec := { name := "gaugeIdle", fn := fun _ => fun
  | [d] => { results := [.lit (.bool false)], args := [d] }
  | _ => none }
def GaugeIdleWrongFalsely : Prop := gaugeIdleRow.holds Try.pinned (OpenSpec.ofChange gaugeIdleWrong)

/-- 'damperlaw9.GaugeKnown': WHATEVER THE INPUT: true; the input reads as it did. -/
def gaugeKnownSpec : ChangeSpec := { name := "gaugeKnown", fn := fun _ => fun
  | [d] => { results := [.lit (.bool true)], args := [d] }
  | _ => none }
def gaugeKnownRow : OpenClaim := { program := "ytlikldnigjnpeaa", sum := "7c2bae8cf3f90e98ca490cb77bddbd2e171b512239453611cc4fc1ef28ad74ef", func := "damper/damperlaw9.GaugeKnown", spec := "gaugeKnown", unfollowed := true, recurses := true, apart := false }
def GaugeKnownSaid : Prop := gaugeKnownRow.holds Try.pinned (OpenSpec.ofChange gaugeKnownSpec)

/-- ITS FALSE NEIGHBOUR: 'it returns false'. Refute it at one input. -/
def gaugeKnownWrong : ChangeSpec := { name := "gaugeKnown", fn := fun _ => fun
  | [d] => { results := [.lit (.bool false)], args := [d] }
  | _ => none }
def GaugeKnownWrongFalsely : Prop := gaugeKnownRow.holds Try.pinned (OpenSpec.ofChange gaugeKnownWrong)

/-- 'damperlaw9.GaugeApart': WHATEVER THE INPUT: true; the input reads as it did. -/
def gaugeApartSpec : ChangeSpec := { name := "gaugeApart", fn := fun _ => fun
  | [d1, d2] => { results := [.lit (.bool true)], args := [d1, d2] }
  | _ => none }
def gaugeApartRow : OpenClaim := { program := "ytlikldnigjnpeaa", sum := "7c2bae8cf3f90e98ca490cb77bddbd2e171b512239453611cc4fc1ef28ad74ef", func := "damper/damperlaw9.GaugeApart", spec := "gaugeApart", unfollowed := true, recurses := true, apart := false }
def GaugeApartSaid : Prop := gaugeApartRow.holds Try.pinned (OpenSpec.ofChange gaugeApartSpec)

/-- ITS FALSE NEIGHBOUR: 'it returns false'. Refute it at one input. -/
def gaugeApartWrong : ChangeSpec := { name := "gaugeApart", fn := fun _ => fun
  | [d1, d2] => { results := [.lit (.bool false)], args := [d1, d2] }
  | _ => none }
def GaugeApartWrongFalsely : Prop := gaugeApartRow.holds Try.pinned (OpenSpec.ofChange gaugeApartWrong)

/-- 'damperlaw9.GaugeFar': WHATEVER THE INPUT: true; the input reads as it did. -/
def gaugeFarSpec : ChangeSpec := { name := "gaugeFar", fn := fun _ => fun
  | [d1, d2, d3] => { results := [.lit (.bool true)], args := [d1, d2, d3] }
  | _ => none }
def gaugeFarRow : OpenClaim := { program := "ytlikldnigjnpeaa", sum := "7c2bae8cf3f90e98ca490cb77bddbd2e171b512239453611cc4fc1ef28ad74ef", func := "damper/damperlaw9.GaugeFar", spec := "gaugeFar", unfollowed := true, recurses := true, apart := false }
def GaugeFarSaid : Prop := gaugeFarRow.holds Try.pinned (OpenSpec.ofChange gaugeFarSpec)

/-- ITS FALSE NEIGHBOUR: 'it returns false'. Refute it at one input. -/
def gaugeFarWrong : ChangeSpec := { name := "gaugeFar", fn := fun _ => fun
  | [d1, d2, d3] => { results := [.lit (.bool false)], args := [d1, d2, d3] }
  | _ => none }
def GaugeFarWrongFalsely : Prop := gaugeFarRow.holds Try.pinned (OpenSpec.ofChange gaugeFarWrong)

/- THE SECOND FORM. 'bulk': how many values and letters a reading holds, each counted each time it is reached (what is shared counts as often as it is met; a slice's spare places count too). A statement '..UptoSaid' is the law's where the arguments, and the package variables that the reading takes, are together of bulk at most 1048576: NARROWER than '..Said'. Prove '..Said' where nothing that the law and all that it calls make is longer than what came in: it says more and counts as full. Else prove '..UptoSaid'. A law counts once. -/
mutual
def uptoBulk {H : Type} : DataW H → Nat
  | .lit (.string bytes) => bytes.length + 1
  | .lit _ => 1
  | .nil => 1
  | .ptr d => uptoBulk d + 1
  | .slice elems spare => uptoBulkAll elems + uptoBulkAll spare + 1
  | .agg parts => uptoBulkAll parts + 1
  | .iface _ d => uptoBulk d + 1
  | .map entries => uptoBulkEntries entries + 1
  | .held _ => 1
def uptoBulkAll {H : Type} : List (DataW H) → Nat
  | [] => 0
  | d :: r => uptoBulk d + uptoBulkAll r
def uptoBulkEntries {H : Type} : List (Lit × DataW H) → Nat
  | [] => 0
  | x :: r => uptoBulkEntry x + uptoBulkEntries r
def uptoBulkEntry {H : Type} : Lit × DataW H → Nat
  | (.string bytes, d) => bytes.length + uptoBulk d + 1
  | (_, d) => uptoBulk d + 1
 end
def uptoSmall : (H : Type) → List (DataW H) → Bool := fun _ ds => decide (uptoBulkAll ds ≤ 1048576)
def OpenSpec.upto (s : _root_.Go.ChangeSpec) : _root_.Go.OpenSpec := { _root_.Go.OpenSpec.ofChange s with cond := some uptoSmall }

/-- 'damperlaw9.GaugePlays', WHERE WHAT IT READS IS OF BULK AT MOST 1048576: true; the input reads as it did. -/
def gaugePlaysUptoRow : OpenClaim := { program := "ytlikldnigjnpeaa", sum := "7c2bae8cf3f90e98ca490cb77bddbd2e171b512239453611cc4fc1ef28ad74ef", func := "damper/damperlaw9.GaugePlays", spec := "gaugePlays", unfollowed := true, recurses := true, apart := false, narrowed := true }
def GaugePlaysUptoSaid : Prop := gaugePlaysUptoRow.holds Try.pinned (OpenSpec.upto gaugePlaysSpec)

/-- 'damperlaw9.GaugeSums', WHERE WHAT IT READS IS OF BULK AT MOST 1048576: true; the input reads as it did. -/
def gaugeSumsUptoRow : OpenClaim := { program := "ytlikldnigjnpeaa", sum := "7c2bae8cf3f90e98ca490cb77bddbd2e171b512239453611cc4fc1ef28ad74ef", func := "damper/damperlaw9.GaugeSums", spec := "gaugeSums", unfollowed := true, recurses := true, apart := false, narrowed := true }
def GaugeSumsUptoSaid : Prop := gaugeSumsUptoRow.holds Try.pinned (OpenSpec.upto gaugeSumsSpec)

/-- 'damperlaw9.GaugeIdle', WHERE WHAT IT READS IS OF BULK AT MOST 1048576: true; the input reads as it did. -/
def gaugeIdleUptoRow : OpenClaim := { program := "ytlikldnigjnpeaa", sum := "7c2bae8cf3f90e98ca490cb77bddbd2e171b512239453611cc4fc1ef28ad74ef", func := "damper/damperlaw9.GaugeIdle", spec := "gaugeIdle", unfollowed := true, recurses := true, apart := false, narrowed := true }
def GaugeIdleUptoSaid : Prop := gaugeIdleUptoRow.holds Try.pinned (OpenSpec.upto gaugeIdleSpec)

/-- 'damperlaw9.GaugeKnown', WHERE WHAT IT READS IS OF BULK AT MOST 1048576: true; the input reads as it did. -/
def gaugeKnownUptoRow : OpenClaim := { program := "ytlikldnigjnpeaa", sum := "7c2bae8cf3f90e98ca490cb77bddbd2e171b512239453611cc4fc1ef28ad74ef", func := "damper/damperlaw9.GaugeKnown", spec := "gaugeKnown", unfollowed := true, recurses := true, apart := false, narrowed := true }
def GaugeKnownUptoSaid : Prop := gaugeKnownUptoRow.holds Try.pinned (OpenSpec.upto gaugeKnownSpec)

/-- 'damperlaw9.GaugeApart', WHERE WHAT IT READS IS OF BULK AT MOST 1048576: true; the input reads as it did. -/
def gaugeApartUptoRow : OpenClaim := { program := "ytlikldnigjnpeaa", sum := "7c2bae8cf3f90e98ca490cb77bddbd2e171b512239453611cc4fc1ef28ad74ef", func := "damper/damperlaw9.GaugeApart", spec := "gaugeApart", unfollowed := true, recurses := true, apart := false, narrowed := true }
def GaugeApartUptoSaid : Prop := gaugeApartUptoRow.holds Try.pinned (OpenSpec.upto gaugeApartSpec)

/-- 'damperlaw9.GaugeFar', WHERE WHAT IT READS IS OF BULK AT MOST 1048576: true; the input reads as it did. -/
def gaugeFarUptoRow : OpenClaim := { program := "ytlikldnigjnpeaa", sum := "7c2bae8cf3f90e98ca490cb77bddbd2e171b512239453611cc4fc1ef28ad74ef", func := "damper/damperlaw9.GaugeFar", spec := "gaugeFar", unfollowed := true, recurses := true, apart := false, narrowed := true }
def GaugeFarUptoSaid : Prop := gaugeFarUptoRow.holds Try.pinned (OpenSpec.upto gaugeFarSpec)

end Rows
end Go.Proofs.Ytlikldnigjnpeaa
