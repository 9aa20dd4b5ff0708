/- Contracts of functions, and walks of laws (text Hc). No conditions beyond those its theorems state. -/
import Derived.Test.YthmpbgloifdcnaaGreatHb
set_option linter.all false
namespace Go.Proofs.YthmpbgloifdcnaaGreat
open Go.Dm
attribute [local irreducible] L.load L.store L.chk L.new L.nonnil L.guard L.ite L.draw L.idx L.sem L.semR L.semU L.chkSem L.next L.call L.callV L.join L.alts L.loop L.begin L.endRound L.range
variable {w0 w : World} {E : List Seg}
/-! ### GateApart -/
end Go.Proofs.YthmpbgloifdcnaaGreat
