/- Contracts of functions, and walks of laws (text Fm). No conditions beyond those its theorems state. -/
import Derived.Test.YtheikjckdnhdhaaFl
set_option linter.all false
namespace Go.Proofs.Ytheikjckdnhdhaa
open Go.Dm
attribute [local irreducible] L.load L.store L.chk L.new L.nonnil L.guard L.ite L.draw L.idx L.sem L.semR L.semU L.chkSem L.next L.call L.callV L.join L.alts L.loop L.begin L.endRound L.range
variable {w0 w : World} {E : List Seg}
theorem Rw.stI {v : Sl} {l : List Int} {s : Seg} {e : Nat} (h : St w0 E w) (k : Nat) (hi : nth E k = some s) (hr : Rw eI e 1 v l s) {i : Nat} {a : Addr} (ha : ElA v 1 i a) (hx : i < l.length) (y : Int) {kk : PT}
    (hk : ∀ s' w', Rw eI e 1 v (l.set i y) s' → St w0 (setN E k s') w' → kk w') : L.store a [I y] kk w := by
  have := Rw.st encI h k hi hr ha (x := l[i]) (y := y) (List.getElem?_eq_getElem hx) (f := 0) (u := I y) (by decide) rfl rfl hk
  rwa [add_zero'] at this
/-- a row by a function -/
def tab {α : Type} (n : Nat) (f : Nat → α) : List α := (List.range n).map f
theorem tab_len {α : Type} {n : Nat} {f : Nat → α} : (tab n f).length = n := by simp [tab]
theorem tab_at {α : Type} {n i : Nat} {f : Nat → α} (h : i < n) : (tab n f)[i]? = some (f i) := by simp [tab, h]
theorem tab_set {α : Type} {n i : Nat} {f : Nat → α} {y : α} : (tab n f).set i y = tab n fun j => if j = i then y else f j := by
  apply List.ext_getElem?
  intro j
  rw [List.getElem?_set, tab_len]
  by_cases hj : j < n
  · simp only [tab_at hj]
    by_cases e : i = j
    · subst e; simp [hj]
    · have e2 : ¬ j = i := fun h => e h.symm
      simp [e, e2]
  · have h1 : ∀ {f : Nat → α}, (tab n f)[j]? = none := List.getElem?_eq_none (by rw [tab_len]; omega)
    simp only [h1]
    by_cases e : i = j
    · subst e; simp [hj]
    · simp [e]
/-! ### who is there, whatever they have -/
def sk (l : List AHeld) : List (Int × ByteArray) := l.map fun x => (x.id, x.rev)
theorem mem_upd {l : List AHeld} {id : Int} {g : APod → APod} {x : AHeld} (h : x ∈ fUpd l id g) : ∃ y ∈ l, (y.id ≠ id ∧ x = y) ∨ (y.id = id ∧ x = { y with pod := g y.pod } ∧ (g y.pod).st ≠ 4) := by
  obtain ⟨y, hy, he⟩ := List.mem_filterMap.1 h
  refine ⟨y, hy, ?_⟩
  split at he
  · split at he
    · cases he
    · cases he; right; refine ⟨by assumption, rfl, by assumption⟩
  · cases he; left; exact ⟨by assumption, rfl⟩
theorem sk_upd {id : Int} {g : APod → APod} : ∀ {l : List AHeld}, (∀ x ∈ l, x.id = id → (g x.pod).st ≠ 4) → sk (fUpd l id g) = sk l
  | [], _ => rfl
  | x :: l, h => by
    have ih := sk_upd (l := l) fun y hy => h y (by simp [hy])
    unfold fUpd at *
    rw [List.filterMap_cons]
    by_cases e : x.id = id
    · rw [if_pos e, if_neg (h x (by simp) e)]
      simp only [sk, List.map_cons] at *
      rw [ih]
    · rw [if_neg e]
      simp only [sk, List.map_cons] at *
      rw [ih]
theorem fOf_sk {l m : List AHeld} (h : sk l = sk m) (id : Int) : fOf l id = fOf m id := by
  have : ∀ l : List AHeld, fOf l id = (((sk l).find? fun p => decide (p.1 = id)).map (·.2)).getD s_ := fun l => by
    unfold fOf fFind sk
    rw [List.find?_map]
    simp [Function.comp_def]
  rw [this, this, h]
theorem sk_len {l m : List AHeld} (h : sk l = sk m) : l.length = m.length := by
  have := congrArg List.length h; simpa [sk] using this
theorem revs_sk {l m : List AHeld} (h : sk l = sk m) (rev : ByteArray) : (revs l rev).length = (revs m rev).length := by
  have : ∀ l : List AHeld, (revs l rev).length = ((sk l).filter fun p => decide (p.2 = rev)).length := fun l => by
    unfold revs sk
    rw [List.filter_map, List.length_map]; rfl
  rw [this, this, h]
theorem take_st (p : APod) (q : Int) : (podTake p q).1.st = p.st ∧ (podTake p q).1.conc = p.conc := by
  unfold podTake; split
  · exact ⟨rfl, rfl⟩
  · split
    · exact ⟨rfl, rfl⟩
    · split <;> exact ⟨rfl, rfl⟩
theorem take_rl (p : APod) (q : Int) : (podTake p q).1.reqs.length ≤ p.reqs.length + 1 := by
  unfold podTake; split
  · simp
  · split
    · simp
    · split
      · simp
      · simp only; rw [insI_len]; omega
theorem sk_take {F : AFleet} (ok : F.Ok) (rev : ByteArray) (q : Int) : sk (fTake F rev q).1.l = sk F.l := by
  unfold fTake
  split
  · rfl
  · split
    · rfl
    · dsimp only
      refine sk_upd fun x hx _ => ?_
      have := ok.live x hx
      rw [(take_st _ _).1]; omega
theorem mem_take {F : AFleet} {rev : ByteArray} {q : Int} {x : AHeld} (h : x ∈ (fTake F rev q).1.l) : ∃ y ∈ F.l, x.id = y.id ∧ x.rev = y.rev ∧ x.pod.st = y.pod.st ∧ x.pod.conc = y.pod.conc ∧ x.pod.reqs.length ≤ y.pod.reqs.length + 1 := by
  unfold fTake at h
  split at h
  · exact ⟨x, h, rfl, rfl, rfl, rfl, by omega⟩
  · split at h
    · exact ⟨x, h, rfl, rfl, rfl, rfl, by omega⟩
    · dsimp only at h
      obtain ⟨y, hy, ⟨-, rfl⟩ | ⟨-, rfl, -⟩⟩ := mem_upd h
      · exact ⟨x, hy, rfl, rfl, rfl, rfl, by omega⟩
      · exact ⟨y, hy, rfl, rfl, (take_st _ _).1, (take_st _ _).2, take_rl _ _⟩
theorem take_where {F : AFleet} (ok : F.Ok) (rev : ByteArray) (q q' : Int) :
    (fWhere (fTake F rev q).1.l q').map (·.id) = if (fTake F rev q).2.2 = true ∧ q' = q then some (fTake F rev q).2.1 else (fWhere F.l q').map (·.id) := by
  unfold fTake
  split
  · simp
  · rename_i hw
    have hn : fWhere F.l q = none := by cases h : fWhere F.l q <;> simp [h] at hw ⊢
    split
    · simp
    · rename_i x hp
      obtain ⟨hx, -, hc⟩ := pick_mem hp
      have ht := take_eq hc (fWhere_none hn x hx)
      have hrq : (podTake x.pod q).1.reqs = insI q x.pod.reqs := by rw [ht]
      have hst : (podTake x.pod q).1.st ≠ 4 := by rw [(take_st _ _).1]; have := ok.live x hx; omega
      simp only [true_and]
      rw [ok.where_upd (fFind_of ok.pw hx) _ (fun q2 h2 => by
            rw [hrq] at h2
            rcases insI_mem.1 h2 with rfl | h2
            · exact .inr hn
            · exact .inl h2) (fun h4 => absurd h4 hst), hrq]
      by_cases eq : q' = q
      · subst eq; rw [if_pos rfl, if_pos (insI_mem.2 (.inl rfl))]
      · rw [if_neg eq]
        by_cases hq2 : q' ∈ x.pod.reqs
        · rw [if_pos (insI_mem.2 (.inr hq2)), fWhere_of ok.once hx hq2]; rfl
        · rw [if_neg (fun hh => (insI_mem.1 hh).elim eq hq2), if_neg hq2]
theorem take_spec {F : AFleet} (ok : F.Ok) {rev : ByteArray} {q : Int} (h : (fTake F rev q).2.2 = true) : fWhere F.l q = none ∧ fOf F.l (fTake F rev q).2.1 = rev ∧ 0 < (fTake F rev q).2.1 := by
  unfold fTake at *
  split at h
  · cases h
  · rename_i hw
    have hn : fWhere F.l q = none := by cases h : fWhere F.l q <;> simp [h] at hw ⊢
    rw [if_neg hw]
    refine ⟨hn, ?_⟩
    split
    · rename_i hp; rw [hp] at h; cases h
    · rename_i x hp
      obtain ⟨hx, hrev, -⟩ := pick_mem hp
      refine ⟨?_, (ok.rng x hx).1⟩
      unfold fOf; simp only; rw [fFind_of ok.pw hx]; exact hrev
theorem give_ok {F : AFleet} (ok : F.Ok) (q : Int) : (fGive F q).1.Ok := by
  unfold fGive
  split
  · exact ok
  · rename_i x hw
    obtain ⟨hx, hq⟩ := fWhere_some hw
    have hgv := give_eq hq
    have := ok.live x hx
    refine ok.upd (fFind_of ok.pw hx) _ ?_ ?_
    · rw [hgv]; simp only; split <;> omega
    · rw [hgv]; exact fun q2 h2 => .inl (List.mem_of_mem_erase h2)
theorem give_where {F : AFleet} (ok : F.Ok) (nd : ∀ x ∈ F.l, x.pod.reqs.Nodup) (q q' : Int) : (fWhere (fGive F q).1.l q').map (·.id) = if q' = q then none else (fWhere F.l q').map (·.id) := by
  unfold fGive
  split
  · rename_i hw
    split
    · rename_i e; subst e; rw [hw]; rfl
    · rfl
  · rename_i x hw
    obtain ⟨hx, hq⟩ := fWhere_some hw
    have hgv := give_eq hq
    have hlv := ok.live x hx
    have hrq : (podGive x.pod q).1.reqs = x.pod.reqs.erase q := by rw [hgv]
    rw [ok.where_upd (fFind_of ok.pw hx) (fun p => (podGive p q).1) (fun q2 h2 => .inl (by rw [hrq] at h2; exact List.mem_of_mem_erase h2)) (by
      rw [hgv]; simp only; split
      · rename_i h; exact fun _ => h.2
      · intro h; omega), hrq]
    by_cases eq : q' = q
    · subst eq
      rw [if_neg (by rw [List.Nodup.mem_erase_iff (nd x hx)]; simp), if_pos hq, if_pos rfl]
    · rw [if_neg eq]
      by_cases h2 : q' ∈ x.pod.reqs
      · rw [if_pos ((List.Nodup.mem_erase_iff (nd x hx)).2 ⟨eq, h2⟩), fWhere_of ok.once hx h2]; rfl
      · rw [if_neg (fun hh => h2 (List.mem_of_mem_erase hh)), if_neg h2]
theorem give_res (F : AFleet) (q : Int) : (fGive F q).2.2 = if (fWhere F.l q).isSome then 0 else 6 := by
  unfold fGive; split <;> rename_i h <;> rw [h] <;> rfl
theorem FlS.nd {b : Nat} {F : AFleet} {s : Seg} (hf : FlS b F s) : ∀ x ∈ F.l, x.pod.reqs.Pairwise (· < ·) := by
  obtain ⟨-, _, _, _, _, _, _, L, -, -, hr, -⟩ := hf
  intro x hx
  rw [hr.l] at hx
  obtain ⟨t, ht, rfl⟩ := List.mem_map.1 hx
  exact (hr.ps t ht).1.pw
theorem nodup_of_lt {l : List Int} (h : l.Pairwise (· < ·)) : l.Nodup := h.imp fun h => by omega
theorem eq_of_lt {l m : List Int} (hl : l.Pairwise (· < ·)) (hm : m.Pairwise (· < ·)) (h : ∀ x, x ∈ l ↔ x ∈ m) : l = m :=
  List.Perm.eq_of_pairwise (fun a b _ _ h1 h2 => by omega) hl hm ((List.perm_ext_iff_of_nodup (nodup_of_lt hl) (nodup_of_lt hm)).2 h)
end Go.Proofs.Ytheikjckdnhdhaa
