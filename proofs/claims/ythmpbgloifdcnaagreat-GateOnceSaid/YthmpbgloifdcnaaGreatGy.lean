/- Contracts of functions, and walks of laws (text Gy). No conditions beyond those its theorems state. -/
import Derived.Test.YthmpbgloifdcnaaGreatGw
set_option linter.all false
namespace Go.Proofs.YthmpbgloifdcnaaGreat
open Go.Dm
attribute [local irreducible] L.load L.store L.chk L.new L.nonnil L.guard L.ite L.draw L.idx L.sem L.semR L.semU L.chkSem L.next L.call L.callV L.join L.alts L.loop L.begin L.endRound L.range
variable {w0 w : World} {E : List Seg}
/-- those who come while there is no pod with room: a loop's round -/
theorem S_gWaitM {sg sf : Seg} (h : St w0 (sg :: sf :: E) w) {b bf : Nat} {G : AGate} {F : AFleet} (hg : GtS b bf G sg) (hf : FlS bf F sf) (hfew : FFew F) {rev : ByteArray} {B m s : Nat} {g : Nat → ByteArray × Int} {room pat : Int} (W : GW G rev B m g (lnT s (m - s) pat) room pat) (hsm : s ≤ m) (hr : rev ≠ s_)
    (hno : ¬ ((lnT s (m - s) pat).length = 0 ∧ (fTake F rev ((m : Int) + 1)).2.2 = true)) (hl : ((m - s : Nat) : Int) < room) (hB : B < 1000) (hm : m < 1000) (hp : -1000 < pat ∧ pat < 1000) {k : Sl → PT}
    (hk : ∀ v sv sg' G' w', Rw Fate.cells T_gate_Fate 4 v [((m : Int) + 1, 2, 0, s_, ())] sv → GtS b bf G' sg' → GW G' rev (B + 1) (m + 1) (fun j => if j = m then (rev, 2) else g j) (lnT s (m + 1 - s) pat) room pat → (∃ sf', FlS bf F sf' ∧ St w0 (sv :: sg' :: sf' :: E) w') → k v w') :
    L.call Pr n_gate_Gate_Arrive [.pointer (some ⟨b, 0, none⟩), I ((m : Int) + 1), .string rev, I 0] (.one (.one .slice)) k w := by
  obtain ⟨G', e, W'⟩ := W.wait hr hno (lnT_ne (by omega)) (by rw [lnT_len]; exact hl)
  have hA := W.all; have hnl := W.nl; have hpat := W.pat
  refine S_gArr h hg hf hfew (by rw [hA, rqT_len]; omega) (by omega) (by rw [hpat]; omega) fun v sv sg sf w hv hg hf h => ?_
  rw [e] at hv hg hf
  refine hk v sv sg G' w hv hg ?_ ⟨sf, hf, h⟩
  have e1 : m + 1 - s = m - s + 1 := by omega
  rw [e1, lnT_snoc]
  have e2 : (s : Int) + 1 + ((m - s : Nat) : Int) = (m : Int) + 1 := by omega
  rw [e2]; exact W'
end Go.Proofs.YthmpbgloifdcnaaGreat
