/- Contracts of functions, and walks of laws (text Gv). No conditions beyond those its theorems state. -/
import Derived.Test.YthmpbgloifdcnaaGreatGu
set_option linter.all false
namespace Go.Proofs.YthmpbgloifdcnaaGreat
open Go.Dm
attribute [local irreducible] L.load L.store L.chk L.new L.nonnil L.guard L.ite L.draw L.idx L.sem L.semR L.semU L.chkSem L.next L.call L.callV L.join L.alts L.loop L.begin L.endRound L.range
variable {w0 w : World} {E : List Seg}
theorem lineOf_mset (ls : List (ByteArray × List (Int × Int))) (r r' : ByteArray) (l : List (Int × Int)) : lineOf (mset ls r l) r' = if r = r' then l else lineOf ls r' := by
  unfold lineOf; rw [mget_mset]; split <;> rfl
theorem gSeen_mset (all : Alls) (id q : Int) (x : ByteArray × Int) : gSeen (mset all id x) q = (decide (id = q) || gSeen all q) := by
  unfold gSeen; rw [mget_mset]; by_cases h : id = q <;> simp [h]
theorem lHas_no {l : List (Int × Int)} {id : Int} (h : ∀ x ∈ l, x.1 ≠ id) : lHas l id = false := by
  unfold lHas; rw [List.any_eq_false]; exact fun x hx => by simpa using h x hx
section
variable {F : AFleet} {G : AGate} {id now : Int} {rev : ByteArray}
theorem gArr_sent (hs : gSeen G.all id = false) (hr : rev ≠ s_) (h0 : (lineOf G.lines rev).length = 0) (ht : (fTake F rev id).2.2 = true) :
    gArr F G id rev now = ((fTake F rev id).1, { G with all := mset G.all id (rev, 1), lines := mset G.lines rev (lineOf G.lines rev) }, (id, 1, (fTake F rev id).2.1, s_, ())) := by
  unfold gArr; rw [if_neg (by simp [hs]), if_neg hr, if_pos ⟨h0, ht⟩]
theorem gArr_wait (hs : gSeen G.all id = false) (hr : rev ≠ s_) (hno : ¬ ((lineOf G.lines rev).length = 0 ∧ (fTake F rev id).2.2 = true)) (hh : lHas (lineOf G.lines rev) id = false) (hl : ((lineOf G.lines rev).length : Int) < G.room) :
    gArr F G id rev now = (F, { G with all := mset G.all id (rev, 2), lines := mset G.lines rev (lineOf G.lines rev ++ [(id, now + G.pat)]) }, (id, 2, 0, s_, ())) := by
  have e : lPush G.room (lineOf G.lines rev) id (now + G.pat) = (lineOf G.lines rev ++ [(id, now + G.pat)], 0) := by
    unfold lPush; rw [if_neg (by simp [hh]), if_neg (by omega)]
  unfold gArr; rw [if_neg (by simp [hs]), if_neg hr, if_neg hno, e, if_neg (by simp)]
theorem gArr_over (hs : gSeen G.all id = false) (hr : rev ≠ s_) (hno : ¬ ((lineOf G.lines rev).length = 0 ∧ (fTake F rev id).2.2 = true)) (hh : lHas (lineOf G.lines rev) id = false) (hl : ((lineOf G.lines rev).length : Int) ≥ G.room) :
    gArr F G id rev now = (F, { G with all := mset G.all id (rev, 4), lines := mset G.lines rev (lineOf G.lines rev) }, (id, 4, 0, s_overflow, ())) := by
  have e : lPush G.room (lineOf G.lines rev) id (now + G.pat) = (lineOf G.lines rev, 8) := by
    unfold lPush; rw [if_neg (by simp [hh]), if_pos hl]
  unfold gArr; rw [if_neg (by simp [hs]), if_neg hr, if_neg hno, e, if_pos (by simp)]
end
theorem ne_a1 : s_a_1 ≠ s_ := by decide
theorem tot_nil : ∀ n, tot (fun _ => []) n = 0
  | 0 => rfl
  | n + 1 => by simp [tot, tot_nil n]
theorem tf_other {R : Int} {n : Nat} {c : Int} {ready : Nat → Bool} {rs : Nat → List Int} {rv rev : ByteArray} (h : rv ≠ rev) (q : Int) : fTake (TF R rv n c ready rs) rev q = (TF R rv n c ready rs, 0, false) := by
  refine fTake_other fun x hx => ?_
  obtain ⟨i, -, rfl⟩ := tab_mem.1 hx
  exact h
end Go.Proofs.YthmpbgloifdcnaaGreat
