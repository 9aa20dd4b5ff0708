/- Contracts of functions, and walks of laws (text Fr). No conditions beyond those its theorems state. -/
import Derived.Test.YtheikjckdnhdhaaFq
set_option linter.all false
namespace Go.Proofs.Ytheikjckdnhdhaa
open Go.Dm
attribute [local irreducible] L.load L.store L.chk L.new L.nonnil L.guard L.ite L.draw L.idx L.sem L.semR L.semU L.chkSem L.next L.call L.callV L.join L.alts L.loop L.begin L.endRound L.range
variable {w0 w : World} {E : List Seg}
/-- a row with one ahead -/
def row1 {α : Type} (n : Nat) (d : α) (f : Nat → α) : List α := tab (n + 1) fun i => if i = 0 then d else f (i - 1)
theorem row1_len {α : Type} {n : Nat} {d : α} {f : Nat → α} : (row1 n d f).length = n + 1 := tab_len
theorem row1_at {α : Type} {n k : Nat} {d : α} {f : Nat → α} (h : k < n) : (row1 n d f)[k + 1]? = some (f k) := by
  unfold row1; rw [tab_at (by omega)]; simp
theorem row1_set {α : Type} {n k : Nat} {d : α} {f : Nat → α} {y : α} : (row1 n d f).set (k + 1) y = row1 n d fun i => if i = k then y else f i := by
  unfold row1
  rw [tab_set]
  refine tab_congr fun i _ => ?_
  by_cases e : i = 0
  · subst e; simp
  · by_cases e2 : i = k + 1
    · subst e2; simp
    · have : ¬ i - 1 = k := by omega
      simp [e, e2, this]
theorem row1_congr {α : Type} {n : Nat} {d : α} {f g : Nat → α} (h : ∀ i, i < n → f i = g i) : row1 n d f = row1 n d g := by
  unfold row1
  refine tab_congr fun i hi => ?_
  by_cases e : i = 0
  · simp [e]
  · simp only [if_neg e]; exact h _ (by omega)
/-! ### fewer, by a table -/
def dG (rd : Nat → Bool) (rs : Nat → List Int) (out : Nat → Bool) (k : Nat) : Option AHeld :=
  if out k = true then (if rs k = [] then none else some ⟨(k : Int) + 1, s_a_1, ⟨3, 3, rs k⟩⟩) else some (pG 3 rd rs k)
def DF (n : Nat) (rd : Nat → Bool) (rs : Nat → List Int) (out : Nat → Bool) : AFleet := ⟨10, n, (List.range n).filterMap (dG rd rs out)⟩
theorem df_start {n : Nat} {rd : Nat → Bool} {rs : Nat → List Int} : DF n rd rs (fun _ => false) = PF n 3 rd rs := by
  unfold DF PF tab
  congr 1
  rw [← List.filterMap_eq_map]
  rfl
theorem df_id {rd : Nat → Bool} {rs : Nat → List Int} {out : Nat → Bool} {k : Nat} {x : AHeld} (h : dG rd rs out k = some x) : x.id = (k : Int) + 1 ∧ x.rev = s_a_1 ∧ (x.pod.st ≠ 3 → out k = false ∧ x = pG 3 rd rs k) := by
  unfold dG at h
  split at h
  · split at h
    · cases h
    · cases h; exact ⟨rfl, rfl, fun h => absurd rfl h⟩
  · rename_i ho; cases h; exact ⟨rfl, rfl, fun _ => ⟨by simpa using ho, rfl⟩⟩
theorem df_upd {n : Nat} {rd : Nat → Bool} {rs : Nat → List Int} {out : Nat → Bool} {k : Nat} (ho : out k = false) :
    fUpd (DF n rd rs out).l ((k : Int) + 1) (fun p => (podDrain p).1) = (DF n rd rs fun i => if i = k then true else out i).l := by
  unfold fUpd DF
  simp only
  rw [List.filterMap_filterMap]
  congr 1
  funext i
  by_cases e : i = k
  · subst e
    have h1 : dG rd rs out i = some (pG 3 rd rs i) := by unfold dG; rw [ho]; rfl
    rw [h1]
    simp only [Option.bind_some]
    have hst : (pG 3 rd rs i).pod.st = 1 ∨ (pG 3 rd rs i).pod.st = 2 := by simp only [pG]; split <;> simp
    rw [drain_eq hst, if_pos (show (pG 3 rd rs i).id = (i : Int) + 1 from rfl)]
    simp only [dG, if_pos]
    by_cases hr : rs i = []
    · simp [pG, hr]
    · simp [pG, hr]
  · have h2 : dG rd rs (fun i => if i = k then true else out i) i = dG rd rs out i := by unfold dG; simp only [if_neg e]
    rw [h2]
    cases hd : dG rd rs out i with
    | none => rfl
    | some x =>
      have := (df_id hd).1
      simp only [Option.bind_some]
      rw [if_neg (by omega)]
/-- the best till k -/
def bst (rd : Nat → Bool) (rs : Nat → List Int) : Option Nat → Int × Int × Int
  | none => (0, 3, 0)
  | some k => ((k : Int) + 1, if rd k = true then 2 else 1, (rs k).length)
def dnStep (rd : Nat → Bool) (rs : Nat → List Int) (out : Nat → Bool) (o : Option Nat) (k : Nat) : Option Nat :=
  if out k = true then o else match o with
  | none => some k
  | some j => if (rd k = false ∧ rd j = true) ∨ (rd k = rd j ∧ (rd k = false ∨ (rs k).length ≤ (rs j).length)) then some k else some j
theorem dn_fold {rd : Nat → Bool} {rs : Nat → List Int} {out : Nat → Bool} (hz : ∀ k, rd k = false → rs k = []) : ∀ (n : Nat), ((List.range n).filterMap (dG rd rs out)).foldl spStep (0, 3, 0) = bst rd rs ((List.range n).foldl (dnStep rd rs out) none)
  | 0 => rfl
  | n + 1 => by
    rw [List.range_succ, List.filterMap_append, List.foldl_append, List.foldl_append, dn_fold hz n]
    generalize (List.range n).foldl (dnStep rd rs out) none = o
    simp only [List.foldl_cons, List.foldl_nil, List.filterMap_cons, List.filterMap_nil]
    unfold dG dnStep
    by_cases ho : out n = true
    · simp only [if_pos ho]
      by_cases hr : rs n = []
      · rw [if_pos hr]; rfl
      · rw [if_neg hr]; simp [spStep]
    · simp only [if_neg ho]
      simp only [List.foldl_cons, List.foldl_nil]
      have hst3 : ¬ (pG 3 rd rs n).pod.st = 3 := by simp only [pG]; split <;> decide
      unfold spStep
      rw [if_neg hst3]
      cases o with
      | none =>
        rw [if_pos (.inl (by simp only [pG, bst]; split <;> decide))]; rfl
      | some j =>
        simp only [bst, pG]
        have h1 := hz n
        have h2 := hz j
        by_cases e1 : rd n = true <;> by_cases e2 : rd j = true <;> (try simp only [Bool.not_eq_true] at e1) <;> (try simp only [Bool.not_eq_true] at e2)
        · by_cases hl : (rs n).length ≤ (rs j).length <;> simp [e1, e2, bst, hl]
        · simp [e1, e2, bst]
        · simp [e1, e2, bst]
        · simp [e1, e2, bst, h1 e1, h2 e2]
theorem df_spare {n : Nat} {rd : Nat → Bool} {rs : Nat → List Int} {out : Nat → Bool} (hz : ∀ k, rd k = false → rs k = []) : fSpare (DF n rd rs out).l s_a_1 = (bst rd rs ((List.range n).foldl (dnStep rd rs out) none)).1 := by
  unfold fSpare
  rw [revs_all (fun x hx => by
    obtain ⟨k, -, h⟩ := List.mem_filterMap.1 hx
    exact (df_id h).2.1)]
  rw [show (DF n rd rs out).l = (List.range n).filterMap (dG rd rs out) from rfl, dn_fold hz]
theorem dn_out {rd : Nat → Bool} {rs : Nat → List Int} {out : Nat → Bool} : ∀ (n : Nat) {k : Nat}, (List.range n).foldl (dnStep rd rs out) none = some k → k < n ∧ out k = false
  | 0, k, h => by cases h
  | n + 1, k, h => by
    rw [List.range_succ, List.foldl_append] at h
    simp only [List.foldl_cons, List.foldl_nil] at h
    have ih := @dn_out rd rs out n
    unfold dnStep at h
    split at h
    · have := ih h; exact ⟨by omega, this.2⟩
    · rename_i ho
      have ho : out n = false := by simpa using ho
      split at h
      · cases h; exact ⟨by omega, ho⟩
      · rename_i j hj
        split at h
        · cases h; exact ⟨by omega, ho⟩
        · cases h; have := ih hj; exact ⟨by omega, this.2⟩
/-- one goes -/
theorem df_step {n : Nat} {rd : Nat → Bool} {rs : Nat → List Int} {out : Nat → Bool} (hz : ∀ k, rd k = false → rs k = []) (ok : (DF n rd rs out).Ok) (hc : 0 < fCount (DF n rd rs out).l s_a_1) :
    ∃ k, (List.range n).foldl (dnStep rd rs out) none = some k ∧ fSpare (DF n rd rs out).l s_a_1 = (k : Int) + 1 ∧ drain1 s_a_1 (DF n rd rs out) = DF n rd rs (fun i => if i = k then true else out i) := by
  have hs := df_spare (n := n) (out := out) hz
  cases ho : (List.range n).foldl (dnStep rd rs out) none with
  | none =>
    rw [ho] at hs
    obtain ⟨x, hx, -, -⟩ := spare_mem ok hc
    have := (ok.rng x (fFind_some hx).1).1
    rw [(fFind_some hx).2, hs] at this
    simp [bst] at this
  | some k =>
    rw [ho] at hs
    have hs : fSpare (DF n rd rs out).l s_a_1 = (k : Int) + 1 := hs
    refine ⟨k, rfl, hs, ?_⟩
    unfold drain1
    rw [hs, df_upd (dn_out n ho).2]
    rfl
end Go.Proofs.Ytheikjckdnhdhaa
