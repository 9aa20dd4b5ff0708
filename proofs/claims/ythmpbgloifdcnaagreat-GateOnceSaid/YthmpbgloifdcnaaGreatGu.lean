/- Contracts of functions, and walks of laws (text Gu). No conditions beyond those its theorems state. -/
import Derived.Test.YthmpbgloifdcnaaGreatFj
import Derived.Test.YthmpbgloifdcnaaGreatGe
set_option linter.all false
namespace Go.Proofs.YthmpbgloifdcnaaGreat
open Go.Dm
attribute [local irreducible] L.load L.store L.chk L.new L.nonnil L.guard L.ite L.draw L.idx L.sem L.semR L.semU L.chkSem L.next L.call L.callV L.join L.alts L.loop L.begin L.endRound L.range
variable {w0 w : World} {E : List Seg}
theorem growN_eq (F : AFleet) (rev : ByteArray) (want : Int) : (growN F rev want : Int) = max 0 (min (want - fCount F.l rev) (F.room - F.l.length)) := by unfold growN; omega
theorem shrinkN_eq (F : AFleet) (rev : ByteArray) (want : Int) : (shrinkN F rev want : Int) = max 0 ((fCount F.l rev : Int) - max want 0) := by unfold shrinkN; omega
def fUpp (F : AFleet) (id : Int) : AFleet × Int := match fFind F.l id with
  | none => (F, 6)
  | some x => ({ F with l := fUpd F.l id fun p => (podUp p).1 }, (podUp x.pod).2)
theorem S_fUpp (h : St w0 E w) (i : Nat) {b : Nat} {F : AFleet} {s : Seg} (hi : nth E i = some s) (hf : FlS b F s) {id : Int} {k : Int → PT}
    (hk : ∀ s' w', FlS b (fUpp F id).1 s' → St w0 (setN E i s') w' → k (fUpp F id).2 w') :
    L.call Pr n_fleet_Fleet_Up [.pointer (some ⟨b, 0, none⟩), I id] (.one (.one (.int .i64))) k w := by
  refine S_fUp h i hi hf (fun hn w h => ?_) (fun x hx s' w hf h => ?_)
  · have e : fUpp F id = (F, 6) := by unfold fUpp; rw [hn]
    rw [e] at hk
    exact hk s w hf (by rwa [setN_self hi])
  · have e : fUpp F id = ({ F with l := fUpd F.l id fun p => (podUp p).1 }, (podUp x.pod).2) := by unfold fUpp; rw [hx]
    rw [e] at hk
    exact hk s' w hf h
theorem Rw.stI {v : Sl} {l : List Int} {s : Seg} {e : Nat} (h : St w0 E w) (k : Nat) (hi : nth E k = some s) (hr : Rw eI e 1 v l s) {i : Nat} {a : Addr} (ha : ElA v 1 i a) (hx : i < l.length) (y : Int) {kk : PT}
    (hk : ∀ s' w', Rw eI e 1 v (l.set i y) s' → St w0 (setN E k s') w' → kk w') : L.store a [I y] kk w := by
  have := Rw.st encI h k hi hr ha (x := l[i]) (y := y) (List.getElem?_eq_getElem hx) (f := 0) (u := I y) (by decide) rfl rfl hk
  rwa [add_zero'] at this
/-- a row by a function -/
def tab {α : Type} (n : Nat) (f : Nat → α) : List α := (List.range n).map f
theorem tab_len {α : Type} {n : Nat} {f : Nat → α} : (tab n f).length = n := by simp [tab]
theorem tab_at {α : Type} {n i : Nat} {f : Nat → α} (h : i < n) : (tab n f)[i]? = some (f i) := by simp [tab, h]
theorem tab_set {α : Type} {n i : Nat} {f : Nat → α} {y : α} : (tab n f).set i y = tab n fun j => if j = i then y else f j := by
  apply List.ext_getElem?
  intro j
  rw [List.getElem?_set, tab_len]
  by_cases hj : j < n
  · simp only [tab_at hj]
    by_cases e : i = j
    · subst e; simp [hj]
    · have e2 : ¬ j = i := fun h => e h.symm
      simp [e, e2]
  · have h1 : ∀ {f : Nat → α}, (tab n f)[j]? = none := List.getElem?_eq_none (by rw [tab_len]; omega)
    simp only [h1]
    by_cases e : i = j
    · subst e; simp [hj]
    · simp [e]
/-! ### who is there, whatever they have -/
def sk (l : List AHeld) : List (Int × ByteArray) := l.map fun x => (x.id, x.rev)
theorem mem_upd {l : List AHeld} {id : Int} {g : APod → APod} {x : AHeld} (h : x ∈ fUpd l id g) : ∃ y ∈ l, (y.id ≠ id ∧ x = y) ∨ (y.id = id ∧ x = { y with pod := g y.pod } ∧ (g y.pod).st ≠ 4) := by
  obtain ⟨y, hy, he⟩ := List.mem_filterMap.1 h
  refine ⟨y, hy, ?_⟩
  split at he
  · split at he
    · cases he
    · cases he; right; refine ⟨by assumption, rfl, by assumption⟩
  · cases he; left; exact ⟨by assumption, rfl⟩
theorem sk_upd {id : Int} {g : APod → APod} : ∀ {l : List AHeld}, (∀ x ∈ l, x.id = id → (g x.pod).st ≠ 4) → sk (fUpd l id g) = sk l
  | [], _ => rfl
  | x :: l, h => by
    have ih := sk_upd (l := l) fun y hy => h y (by simp [hy])
    unfold fUpd at *
    rw [List.filterMap_cons]
    by_cases e : x.id = id
    · rw [if_pos e, if_neg (h x (by simp) e)]
      simp only [sk, List.map_cons] at *
      rw [ih]
    · rw [if_neg e]
      simp only [sk, List.map_cons] at *
      rw [ih]
theorem fOf_sk {l m : List AHeld} (h : sk l = sk m) (id : Int) : fOf l id = fOf m id := by
  have : ∀ l : List AHeld, fOf l id = (((sk l).find? fun p => decide (p.1 = id)).map (·.2)).getD s_ := fun l => by
    unfold fOf fFind sk
    rw [List.find?_map]
    simp [Function.comp_def]
  rw [this, this, h]
theorem sk_len {l m : List AHeld} (h : sk l = sk m) : l.length = m.length := by
  have := congrArg List.length h; simpa [sk] using this
theorem revs_sk {l m : List AHeld} (h : sk l = sk m) (rev : ByteArray) : (revs l rev).length = (revs m rev).length := by
  have : ∀ l : List AHeld, (revs l rev).length = ((sk l).filter fun p => decide (p.2 = rev)).length := fun l => by
    unfold revs sk
    rw [List.filter_map, List.length_map]; rfl
  rw [this, this, h]
theorem take_st (p : APod) (q : Int) : (podTake p q).1.st = p.st ∧ (podTake p q).1.conc = p.conc := by
  unfold podTake; split
  · exact ⟨rfl, rfl⟩
  · split
    · exact ⟨rfl, rfl⟩
    · split <;> exact ⟨rfl, rfl⟩
theorem take_rl (p : APod) (q : Int) : (podTake p q).1.reqs.length ≤ p.reqs.length + 1 := by
  unfold podTake; split
  · simp
  · split
    · simp
    · split
      · simp
      · simp only; rw [insI_len]; omega
theorem sk_take {F : AFleet} (ok : F.Ok) (rev : ByteArray) (q : Int) : sk (fTake F rev q).1.l = sk F.l := by
  unfold fTake
  split
  · rfl
  · split
    · rfl
    · dsimp only
      refine sk_upd fun x hx _ => ?_
      have := ok.live x hx
      rw [(take_st _ _).1]; omega
theorem mem_take {F : AFleet} {rev : ByteArray} {q : Int} {x : AHeld} (h : x ∈ (fTake F rev q).1.l) : ∃ y ∈ F.l, x.id = y.id ∧ x.rev = y.rev ∧ x.pod.st = y.pod.st ∧ x.pod.conc = y.pod.conc ∧ x.pod.reqs.length ≤ y.pod.reqs.length + 1 := by
  unfold fTake at h
  split at h
  · exact ⟨x, h, rfl, rfl, rfl, rfl, by omega⟩
  · split at h
    · exact ⟨x, h, rfl, rfl, rfl, rfl, by omega⟩
    · dsimp only at h
      obtain ⟨y, hy, ⟨-, rfl⟩ | ⟨-, rfl, -⟩⟩ := mem_upd h
      · exact ⟨x, hy, rfl, rfl, rfl, rfl, by omega⟩
      · exact ⟨y, hy, rfl, rfl, (take_st _ _).1, (take_st _ _).2, take_rl _ _⟩
theorem take_where {F : AFleet} (ok : F.Ok) (rev : ByteArray) (q q' : Int) :
    (fWhere (fTake F rev q).1.l q').map (·.id) = if (fTake F rev q).2.2 = true ∧ q' = q then some (fTake F rev q).2.1 else (fWhere F.l q').map (·.id) := by
  unfold fTake
  split
  · simp
  · rename_i hw
    have hn : fWhere F.l q = none := by cases h : fWhere F.l q <;> simp [h] at hw ⊢
    split
    · simp
    · rename_i x hp
      obtain ⟨hx, -, hc⟩ := pick_mem hp
      have ht := take_eq hc (fWhere_none hn x hx)
      have hrq : (podTake x.pod q).1.reqs = insI q x.pod.reqs := by rw [ht]
      have hst : (podTake x.pod q).1.st ≠ 4 := by rw [(take_st _ _).1]; have := ok.live x hx; omega
      simp only [true_and]
      rw [ok.where_upd (fFind_of ok.pw hx) _ (fun q2 h2 => by
            rw [hrq] at h2
            rcases insI_mem.1 h2 with rfl | h2
            · exact .inr hn
            · exact .inl h2) (fun h4 => absurd h4 hst), hrq]
      by_cases eq : q' = q
      · subst eq; rw [if_pos rfl, if_pos (insI_mem.2 (.inl rfl))]
      · rw [if_neg eq]
        by_cases hq2 : q' ∈ x.pod.reqs
        · rw [if_pos (insI_mem.2 (.inr hq2)), fWhere_of ok.once hx hq2]; rfl
        · rw [if_neg (fun hh => (insI_mem.1 hh).elim eq hq2), if_neg hq2]
theorem take_spec {F : AFleet} (ok : F.Ok) {rev : ByteArray} {q : Int} (h : (fTake F rev q).2.2 = true) : fWhere F.l q = none ∧ fOf F.l (fTake F rev q).2.1 = rev ∧ 0 < (fTake F rev q).2.1 := by
  unfold fTake at *
  split at h
  · cases h
  · rename_i hw
    have hn : fWhere F.l q = none := by cases h : fWhere F.l q <;> simp [h] at hw ⊢
    rw [if_neg hw]
    refine ⟨hn, ?_⟩
    split
    · rename_i hp; rw [hp] at h; cases h
    · rename_i x hp
      obtain ⟨hx, hrev, -⟩ := pick_mem hp
      refine ⟨?_, (ok.rng x hx).1⟩
      unfold fOf; simp only; rw [fFind_of ok.pw hx]; exact hrev
theorem give_ok {F : AFleet} (ok : F.Ok) (q : Int) : (fGive F q).1.Ok := by
  unfold fGive
  split
  · exact ok
  · rename_i x hw
    obtain ⟨hx, hq⟩ := fWhere_some hw
    have hgv := give_eq hq
    have := ok.live x hx
    refine ok.upd (fFind_of ok.pw hx) _ ?_ ?_
    · rw [hgv]; simp only; split <;> omega
    · rw [hgv]; exact fun q2 h2 => .inl (List.mem_of_mem_erase h2)
theorem give_where {F : AFleet} (ok : F.Ok) (nd : ∀ x ∈ F.l, x.pod.reqs.Nodup) (q q' : Int) : (fWhere (fGive F q).1.l q').map (·.id) = if q' = q then none else (fWhere F.l q').map (·.id) := by
  unfold fGive
  split
  · rename_i hw
    split
    · rename_i e; subst e; rw [hw]; rfl
    · rfl
  · rename_i x hw
    obtain ⟨hx, hq⟩ := fWhere_some hw
    have hgv := give_eq hq
    have hlv := ok.live x hx
    have hrq : (podGive x.pod q).1.reqs = x.pod.reqs.erase q := by rw [hgv]
    rw [ok.where_upd (fFind_of ok.pw hx) (fun p => (podGive p q).1) (fun q2 h2 => .inl (by rw [hrq] at h2; exact List.mem_of_mem_erase h2)) (by
      rw [hgv]; simp only; split
      · rename_i h; exact fun _ => h.2
      · intro h; omega), hrq]
    by_cases eq : q' = q
    · subst eq
      rw [if_neg (by rw [List.Nodup.mem_erase_iff (nd x hx)]; simp), if_pos hq, if_pos rfl]
    · rw [if_neg eq]
      by_cases h2 : q' ∈ x.pod.reqs
      · rw [if_pos ((List.Nodup.mem_erase_iff (nd x hx)).2 ⟨eq, h2⟩), fWhere_of ok.once hx h2]; rfl
      · rw [if_neg (fun hh => h2 (List.mem_of_mem_erase hh)), if_neg h2]
theorem give_res (F : AFleet) (q : Int) : (fGive F q).2.2 = if (fWhere F.l q).isSome then 0 else 6 := by
  unfold fGive; split <;> rename_i h <;> rw [h] <;> rfl
theorem FlS.nd {b : Nat} {F : AFleet} {s : Seg} (hf : FlS b F s) : ∀ x ∈ F.l, x.pod.reqs.Pairwise (· < ·) := by
  obtain ⟨-, _, _, _, _, _, _, L, -, -, hr, -⟩ := hf
  intro x hx
  rw [hr.l] at hx
  obtain ⟨t, ht, rfl⟩ := List.mem_map.1 hx
  exact (hr.ps t ht).1.pw
theorem nodup_of_lt {l : List Int} (h : l.Pairwise (· < ·)) : l.Nodup := h.imp fun h => by omega
theorem eq_of_lt {l m : List Int} (hl : l.Pairwise (· < ·)) (hm : m.Pairwise (· < ·)) (h : ∀ x, x ∈ l ↔ x ∈ m) : l = m :=
  List.Perm.eq_of_pairwise (fun a b _ _ h1 h2 => by omega) hl hm ((List.perm_ext_iff_of_nodup (nodup_of_lt hl) (nodup_of_lt hm)).2 h)
end Go.Proofs.YthmpbgloifdcnaaGreat
namespace Go.Proofs.YthmpbgloifdcnaaGreat
open Go.Dm
attribute [local irreducible] L.load L.store L.chk L.new L.nonnil L.guard L.ite L.draw L.idx L.sem L.semR L.semU L.chkSem L.next L.call L.callV L.join L.alts L.loop L.begin L.endRound L.range
variable {w0 w : World} {E : List Seg}
/-! ### pods of one revision, by a table -/
def tG (rv : ByteArray) (c : Int) (ready : Nat → Bool) (rs : Nat → List Int) (k : Nat) : AHeld := ⟨(k : Int) + 1, rv, ⟨if ready k = true then 2 else 1, c, rs k⟩⟩
def TF (R : Int) (rv : ByteArray) (n : Nat) (c : Int) (ready : Nat → Bool) (rs : Nat → List Int) : AFleet := ⟨R, n, tab n (tG rv c ready rs)⟩
theorem tab_succ {α : Type} {n : Nat} {f : Nat → α} : tab (n + 1) f = tab n f ++ [f n] := by simp [tab, List.range_succ]
theorem tab_mem {α : Type} {n : Nat} {f : Nat → α} {x : α} : x ∈ tab n f ↔ ∃ i, i < n ∧ f i = x := by simp [tab]
theorem tab_congr {α : Type} {n : Nat} {f g : Nat → α} (h : ∀ i, i < n → f i = g i) : tab n f = tab n g := by
  unfold tab; exact List.map_congr_left fun i hi => h i (by simpa using hi)
theorem revs_all {l : List AHeld} {rev : ByteArray} (h : ∀ x ∈ l, x.rev = rev) : revs l rev = l := by
  unfold revs; rw [List.filter_eq_self]; exact fun x hx => decide_eq_true (h x hx)
theorem tf_revs {rv : ByteArray} {n : Nat} {c : Int} {ready : Nat → Bool} {rs : Nat → List Int} : revs (tab n (tG rv c ready rs)) rv = tab n (tG rv c ready rs) :=
  revs_all fun x hx => by obtain ⟨i, -, rfl⟩ := tab_mem.1 hx; rfl
theorem tf_find {rv : ByteArray} {n : Nat} {c : Int} {ready : Nat → Bool} {rs : Nat → List Int} {k : Nat} (h : k < n) : fFind (tab n (tG rv c ready rs)) ((k : Int) + 1) = some (tG rv c ready rs k) := by
  have pw : (tab n (tG rv c ready rs)).Pairwise (fun x y => x.id < y.id) := by
    unfold tab
    rw [List.pairwise_map]
    exact List.pairwise_lt_range.imp fun {a b} h => by simp only [tG]; omega
  exact fFind_of pw (tab_mem.2 ⟨k, h, rfl⟩)
theorem tf_upd {rv : ByteArray} {n : Nat} {c : Int} {ready : Nat → Bool} {rs : Nat → List Int} {k : Nat} {g : APod → APod} {ready' : Nat → Bool} {rs' : Nat → List Int} (h4 : (g (tG rv c ready rs k).pod).st ≠ 4)
    (hk : { tG rv c ready rs k with pod := g (tG rv c ready rs k).pod } = tG rv c ready' rs' k) (ho : ∀ i, i ≠ k → tG rv c ready rs i = tG rv c ready' rs' i) : fUpd (tab n (tG rv c ready rs)) ((k : Int) + 1) g = tab n (tG rv c ready' rs') := by
  induction n with
  | zero => rfl
  | succ n ih =>
    rw [tab_succ, tab_succ, ← ih]
    unfold fUpd
    rw [List.filterMap_append]
    congr 1
    rw [List.filterMap_cons, List.filterMap_nil]
    by_cases e : n = k
    · subst e
      rw [if_pos (by rfl), if_neg h4, hk]
    · rw [if_neg (by simp only [tG]; omega), ho n e]
theorem tf_grow {R : Int} {rv : ByteArray} (c : Int) : ∀ (n : Nat), grow rv c n ⟨R, 0, []⟩ = TF R rv n c (fun _ => false) (fun _ => [])
  | 0 => rfl
  | n + 1 => by
    simp only [grow, tf_grow c n, grow1, TF, tab_succ]
    congr 1
theorem tf_scale {R : Int} {rv : ByteArray} (c : Int) {n : Nat} (h : (n : Int) ≤ R) : fScale ⟨R, 0, []⟩ rv c n = (TF R rv n c (fun _ => false) (fun _ => []), []) ∧ fMade ⟨R, 0, []⟩ rv n = tab n fun j => (j : Int) + 1 := by
  have h0 : fCount ([] : List AHeld) rv = 0 := rfl
  have h1 : growN ⟨R, 0, []⟩ rv n = n := by
    have := growN_eq ⟨R, 0, []⟩ rv n
    simp only [h0, List.length_nil] at this; omega
  have hg : fGrown ⟨R, 0, []⟩ rv c n = TF R rv n c (fun _ => false) (fun _ => []) := by unfold fGrown; rw [h1, tf_grow]
  have hc : fCount (TF R rv n c (fun _ => false) (fun _ => [])).l rv = n := by
    have := grow_count (F := ⟨R, 0, []⟩) (rev := rv) (conc := c) n
    rw [tf_grow] at this
    rw [this, h0]; omega
  have h2 : shrinkN (TF R rv n c (fun _ => false) (fun _ => [])) rv n = 0 := by
    have := shrinkN_eq (TF R rv n c (fun _ => false) (fun _ => [])) rv n
    rw [hc] at this; omega
  refine ⟨by unfold fScale; rw [hg, h2]; rfl, ?_⟩
  unfold fMade; rw [h1]
  exact tab_congr (f := fun j : Nat => (0 : Int) + 1 + (j : Int)) fun i _ => by omega
theorem tf_up {R : Int} {rv : ByteArray} {n : Nat} {c : Int} {ready : Nat → Bool} {rs : Nat → List Int} {k : Nat} (h : k < n) (hr : ready k = false) :
    fUpp (TF R rv n c ready rs) ((k : Int) + 1) = (TF R rv n c (fun i => if i = k then true else ready i) rs, 0) := by
  unfold fUpp
  rw [show fFind (TF R rv n c ready rs).l ((k : Int) + 1) = some (tG rv c ready rs k) from tf_find h]
  have hu : podUp (tG rv c ready rs k).pod = ({ (tG rv c ready rs k).pod with st := 2 }, 0) := by unfold podUp; rw [if_neg (by simp [tG, hr])]
  simp only [hu]
  congr 1
  unfold TF
  congr 1
  refine tf_upd (ready' := fun i => if i = k then true else ready i) ?_ ?_ ?_
  · rw [hu]; show (2 : Int) ≠ 4; decide
  · rw [hu]; simp [tG]
  · intro i hi; simp [tG, hi]
theorem tf_where {R : Int} {rv : ByteArray} {n : Nat} {c : Int} {ready : Nat → Bool} {rs : Nat → List Int} {q : Int} (h : ∀ i, i < n → q ∉ rs i) : fWhere (TF R rv n c ready rs).l q = none := by
  unfold fWhere
  rw [List.find?_eq_none]
  intro x hx
  obtain ⟨i, hi, rfl⟩ := tab_mem.1 hx
  show ¬ decide (q ∈ rs i) = true
  rw [decide_eq_true_eq]; exact h i hi
theorem tf_take {R : Int} {rv : ByteArray} {n : Nat} {c : Int} {ready : Nat → Bool} {rs : Nat → List Int} {q : Int} (h : ∀ i, i < n → q ∉ rs i) {k : Nat} (hp : (tab n (tG rv c ready rs)).foldl pickStep none = some (tG rv c ready rs k)) (hk : k < n) (hc : can (tG rv c ready rs k) = true) :
    fTake (TF R rv n c ready rs) rv q = (TF R rv n c ready (fun i => if i = k then insI q (rs k) else rs i), (k : Int) + 1, true) := by
  have hpick : fPick (TF R rv n c ready rs).l rv = some (tG rv c ready rs k) := by
    unfold fPick; rw [show revs (TF R rv n c ready rs).l rv = _ from tf_revs]; exact hp
  unfold fTake
  rw [tf_where h, hpick]
  simp only [Option.isSome_none, Bool.false_eq_true, if_false]
  have ht := take_eq hc (q := q) (h k hk)
  congr 1
  unfold TF
  congr 1
  show fUpd (tab n (tG rv c ready rs)) ((k : Int) + 1) _ = _
  refine tf_upd (ready' := ready) ?_ ?_ ?_
  · rw [ht]; simp only [tG]; split <;> decide
  · rw [ht]; simp [tG]
  · intro i hi; simp [tG, hi]
theorem tf_take0 {R : Int} {rv : ByteArray} {n : Nat} {c : Int} {ready : Nat → Bool} {rs : Nat → List Int} {q : Int} (h : ∀ i, i < n → q ∉ rs i) (hp : (tab n (tG rv c ready rs)).foldl pickStep none = none) :
    fTake (TF R rv n c ready rs) rv q = (TF R rv n c ready rs, 0, false) := by
  have hpick : fPick (TF R rv n c ready rs).l rv = none := by
    unfold fPick; rw [show revs (TF R rv n c ready rs).l rv = _ from tf_revs]; exact hp
  unfold fTake
  rw [tf_where h, hpick]; rfl
theorem tf_give0 {R : Int} {rv : ByteArray} {n : Nat} {c : Int} {ready : Nat → Bool} {rs : Nat → List Int} {q : Int} (h : ∀ i, i < n → q ∉ rs i) : fGive (TF R rv n c ready rs) q = (TF R rv n c ready rs, s_, 6) := by
  unfold fGive; rw [tf_where h]
theorem tf_give {R : Int} {rv : ByteArray} {n : Nat} {c : Int} {ready : Nat → Bool} {rs : Nat → List Int} {q : Int} (ok : (TF R rv n c ready rs).Ok) {k : Nat} (hk : k < n) (hq : q ∈ rs k) :
    fGive (TF R rv n c ready rs) q = (TF R rv n c ready (fun i => if i = k then (rs k).erase q else rs i), rv, 0) := by
  have hw : fWhere (TF R rv n c ready rs).l q = some (tG rv c ready rs k) := fWhere_of ok.once (tab_mem.2 ⟨k, hk, rfl⟩) hq
  unfold fGive
  rw [hw]
  have ht := give_eq (p := (tG rv c ready rs k).pod) hq
  have h3 : (tG rv c ready rs k).pod.st ≠ 3 := by simp only [tG]; split <;> decide
  simp only [h3, false_and, if_false] at ht
  simp only
  refine Prod.ext ?_ rfl
  simp only
  unfold TF
  congr 1
  show fUpd (tab n (tG rv c ready rs)) ((k : Int) + 1) _ = _
  refine tf_upd (ready' := ready) ?_ ?_ ?_
  · rw [ht]; simp only [tG]; split <;> decide
  · rw [ht]; simp [tG]
  · intro i hi; simp [tG, hi]
end Go.Proofs.YthmpbgloifdcnaaGreat
namespace Go.Proofs.YthmpbgloifdcnaaGreat
open Go.Dm
attribute [local irreducible] L.load L.store L.chk L.new L.nonnil L.guard L.ite L.draw L.idx L.sem L.semR L.semU L.chkSem L.next L.call L.callV L.join L.alts L.loop L.begin L.endRound L.range
variable {w0 w : World} {E : List Seg}
/-! ### chapter 14's laws: what they share -/
theorem S_within14 {p0 p1 : Int} (h : 0 < p1) (hp : p1 ≤ 2147483648) {k : Int → PT} (hk : k (p0 % p1) w) : L.call Pr n_damperlaw14_within [I p0, I p1] (.one (.one (.int .i64))) k w := by
  refine call_of (C_damperlaw14_within p0 p1) ?_
  unfold F_damperlaw14_within
  refine gd (by omega) ?_
  have h1 := Int.emod_nonneg p0 (by omega : p1 ≠ 0)
  have h2 := Int.emod_lt_of_pos p0 h
  have e := tmod_within p0 p1 h
  refine join_of (fun z w' => z.1 = p0 % p1 ∧ w' = w) (fun k' hk' => ?_) (fun y w' ⟨h1, h2⟩ => by subst h2; exact ⟨_, rfl, by rw [h1]; exact hk⟩)
  refine it (fun hb => ?_) (fun hb => ?_) <;> (try simp only [decide_eq_true_eq, decide_eq_false_iff_not, beq_iff_eq, bne_iff_ne, beq_eq_false_iff_ne, bne_eq_false_iff_eq, Bool.not_eq_true', Bool.not_eq_false', ne_eq, Bool.not_eq_true, Bool.not_eq_false] at hb)
  · refine hk' _ _ ⟨?_, rfl⟩
    rw [e] at hb
    dsimp only
    rw [e]
    split at hb <;> rename_i hc
    · omega
    · rw [if_neg hc, wr] <;> omega
  · refine hk' _ _ ⟨?_, rfl⟩
    rw [e] at hb
    dsimp only
    rw [e]
    split at hb <;> rename_i hc
    · rw [if_pos hc]
    · omega
/-- a field of a fate -/
theorem rf {v : Sl} {l : List Fate} (r : Rd w Fate.cells v l) {n : Int} {x : Fate} (hx : l[n.toNat]? = some x) (h0 : 0 ≤ n) {f : Nat} {lf : Lf} {u : Value} {y : lf.T} {kk : lf.T → PT} (hu : nth (Fate.cells x) f = some u) (hy : un2 lf u = some y) (hk : kk y w) :
    L.idx v.a n v.len 4 (fun a => L.load (.one lf) (a.add f) kk) w :=
  r.ix encF h0 (List.getElem?_eq_some_iff.1 hx).1 fun a ha => r.ld encF ha hx hu hy hk
theorem S_known14 (h : St w0 E w) {k : Bool → PT} (hk : ∀ w', St w0 E w' → k true w') : L.call Pr n_damperlaw14_known [] (.one (.one .bool)) k w := by
  refine call_of C_damperlaw14_known ?_
  unfold F_damperlaw14_known
  refine S_fNew h fun bf sf w hf h => itF rfl ?_
  refine S_gNew h (by decide) (by decide) fun b sg w hg h => itF rfl ?_
  refine S_gCounts h hg fun sg w hg h => ?_
  have ff : FFew ⟨2, 0, []⟩ := ⟨by decide, by decide, by simp⟩
  refine S_gArr h hg hf ff (by decide) (by decide) (by simp) fun v sv sg sf w hv hg hf h => ?_
  have e : gArr ⟨2, 0, []⟩ ⟨[], [], 1, 5⟩ 7 s_a_1 0 = (⟨2, 0, []⟩, ⟨[(7, (s_a_1, 2))], [(s_a_1, [(7, 5)])], 1, 5⟩, (7, 2, 0, s_, ())) := by rfl
  rw [e] at hv hg
  have hl := Rw.len encF hv
  refine itT rfl (itT rfl (itT rfl (itT rfl (itT (by rw [hl]; rfl) ?_))))
  refine rf (Rw.rd encF h 0 rfl hv) (x := (7, 2, 0, s_, ())) rfl (by decide) rfl rfl (itT rfl ?_)
  refine rf (Rw.rd encF h 0 rfl hv) (x := (7, 2, 0, s_, ())) rfl (by decide) rfl rfl (itT rfl ?_)
  have h := fr1_ h
  refine S_gseenC h hg fun sg w hg h => itT rfl ?_
  refine S_gseenC h hg fun sg w hg h => ⟨true, rfl, hk w ?_⟩
  have h := dl0_ (dl1_ (dl2_ h))
  exact h
/-! ### tables of pods, and how much they have -/
theorem pick_none : ∀ {R : List AHeld} {b : Option AHeld}, R.foldl pickStep b = none → b = none ∧ ∀ x ∈ R, can x = false
  | [], b, h => ⟨h, by simp⟩
  | y :: R, b, h => by
    rw [List.foldl_cons] at h
    obtain ⟨h1, h2⟩ := pick_none h
    unfold pickStep at h1
    cases b with
    | none =>
      simp only at h1
      split at h1
      · cases h1
      · rename_i hc
        exact ⟨rfl, fun x hx => by rcases List.mem_cons.1 hx with rfl | hx; exact (by simpa using hc); exact h2 x hx⟩
    | some u =>
      simp only at h1
      split at h1 <;> cases h1
def tot (rs : Nat → List Int) : Nat → Nat
  | 0 => 0
  | n + 1 => tot rs n + (rs n).length
theorem tot_le {rs : Nat → List Int} {c : Nat} : ∀ {n : Nat}, (∀ i, i < n → (rs i).length ≤ c) → tot rs n ≤ n * c
  | 0, _ => by simp [tot]
  | n + 1, h => by
    have h1 := tot_le (n := n) fun i hi => h i (by omega)
    have h2 := h n (by omega)
    simp only [tot, Nat.add_mul]; omega
theorem tot_lt {rs : Nat → List Int} {c : Nat} : ∀ {n : Nat}, (∀ i, i < n → (rs i).length ≤ c) → tot rs n < n * c → ∃ i, i < n ∧ (rs i).length < c
  | 0, _, h => by simp at h
  | n + 1, h, hl => by
    by_cases h1 : (rs n).length < c
    · exact ⟨n, by omega, h1⟩
    · have h2 := h n (by omega)
      simp only [tot, Nat.add_mul] at hl
      obtain ⟨i, hi, hc⟩ := tot_lt (n := n) (fun i hi => h i (by omega)) (by omega)
      exact ⟨i, by omega, hc⟩
theorem tot_eq {rs : Nat → List Int} {c : Nat} : ∀ {n : Nat}, (∀ i, i < n → (rs i).length ≤ c) → tot rs n = n * c → ∀ i, i < n → (rs i).length = c
  | 0, _, _, i, hi => by omega
  | n + 1, h, hl, i, hi => by
    have h1 := tot_le (n := n) fun i hi => h i (by omega)
    have h2 := h n (by omega)
    simp only [tot, Nat.add_mul] at hl
    by_cases e : i = n
    · subst e; omega
    · exact tot_eq (n := n) (fun i hi => h i (by omega)) (by omega) i (by omega)
theorem tot_upd {rs : Nat → List Int} {l : List Int} {k : Nat} (hl : l.length = (rs k).length + 1) : ∀ {n : Nat}, tot (fun i => if i = k then l else rs i) n = tot rs n + if k < n then 1 else 0
  | 0 => by simp [tot]
  | n + 1 => by
    simp only [tot, tot_upd hl (n := n)]
    by_cases e : n = k
    · subst e; simp [hl]; omega
    · by_cases h : k < n
      · rw [if_neg e, if_pos h, if_pos (by omega)]; omega
      · rw [if_neg e, if_neg h, if_neg (by omega)]; omega
/-- pods with so many requests, none of them above a number -/
structure TL (n c m : Nat) (B : Int) (ready : Nat → Bool) (rs : Nat → List Int) : Prop where
  len : ∀ i, i < n → (rs i).length ≤ c
  nr : ∀ i, i < n → ready i = false → rs i = []
  tot : tot rs n = m
  b : ∀ i, i < n → ∀ q ∈ rs i, 1 ≤ q ∧ q ≤ B
theorem TL.fresh {n c m : Nat} {B q : Int} {ready : Nat → Bool} {rs : Nat → List Int} (t : TL n c m B ready rs) (hq : B < q) : ∀ i, i < n → q ∉ rs i := fun i hi h => by have := t.b i hi q h; omega
theorem can_t {rv : ByteArray} {c : Int} {ready : Nat → Bool} {rs : Nat → List Int} {k : Nat} : can (tG rv c ready rs k) = decide (ready k = true ∧ ((rs k).length : Int) < c) := by
  unfold can tG
  apply decide_eq_decide.2
  simp only
  constructor
  · rintro ⟨h1, h2⟩; exact ⟨by cases hr : ready k <;> simp_all, h2⟩
  · rintro ⟨h1, h2⟩; exact ⟨by simp [h1], h2⟩
theorem tl_take {R : Int} {rv : ByteArray} {n c m : Nat} {B q : Int} {ready : Nat → Bool} {rs : Nat → List Int} (t : TL n c m B ready rs) (hB : 0 ≤ B) (hq : q = B + 1) (hx : ∃ i, i < n ∧ ready i = true ∧ (rs i).length < c) :
    ∃ k, k < n ∧ ready k = true ∧ (rs k).length < c ∧ fTake (TF R rv n c ready rs) rv q = (TF R rv n c ready (fun i => if i = k then insI q (rs k) else rs i), (k : Int) + 1, true) ∧ TL n c (m + 1) q ready (fun i => if i = k then insI q (rs k) else rs i) := by
  subst hq
  have hfr := t.fresh (q := B + 1) (by omega)
  cases hp : (tab n (tG rv c ready rs)).foldl pickStep none with
  | none =>
    obtain ⟨-, h⟩ := pick_none hp
    obtain ⟨i, hi, hr, hc⟩ := hx
    have := h (tG rv c ready rs i) (tab_mem.2 ⟨i, hi, rfl⟩)
    rw [can_t] at this
    simp [hr] at this; omega
  | some x =>
    obtain ⟨hc, hm⟩ := pick_ok hp (fun y hy => by cases hy) x rfl
    rcases hm with hm | hm
    · obtain ⟨k, hk, rfl⟩ := tab_mem.1 hm
      have hck := hc
      rw [can_t] at hck
      simp only [decide_eq_true_eq] at hck
      refine ⟨k, hk, hck.1, by omega, tf_take hfr hp hk hc, ?_⟩
      have hl : (insI (B + 1) (rs k)).length = (rs k).length + 1 := by have := (insI_perm (B + 1) (rs k)).length_eq; simpa using this
      refine ⟨fun i hi => ?_, fun i hi hri => ?_, ?_, fun i hi q hq => ?_⟩
      · by_cases e : i = k
        · subst e; simp only [if_true]; omega
        · simp only [if_neg e]; exact t.len i hi
      · by_cases e : i = k
        · subst e; rw [hck.1] at hri; cases hri
        · simp only [if_neg e]; exact t.nr i hi hri
      · rw [tot_upd hl, t.tot, if_pos hk]
      · by_cases e : i = k
        · subst e
          simp only [if_true] at hq
          rcases List.mem_cons.1 ((insI_perm _ _).mem_iff.1 hq) with rfl | hq
          · omega
          · have := t.b i hi q hq; omega
        · simp only [if_neg e] at hq
          have := t.b i hi q hq; omega
    · cases hm
theorem tl_full {R : Int} {rv : ByteArray} {n c m : Nat} {B q : Int} {ready : Nat → Bool} {rs : Nat → List Int} (t : TL n c m B ready rs) (hq : B < q) (hx : ∀ i, i < n → ready i = true → (rs i).length = c) :
    fTake (TF R rv n c ready rs) rv q = (TF R rv n c ready rs, 0, false) := by
  refine tf_take0 (t.fresh hq) ?_
  cases hp : (tab n (tG rv c ready rs)).foldl pickStep none with
  | none => rfl
  | some x =>
    obtain ⟨hc, hm⟩ := pick_ok hp (fun y hy => by cases hy) x rfl
    rcases hm with hm | hm
    · obtain ⟨k, hk, rfl⟩ := tab_mem.1 hm
      rw [can_t] at hc
      simp only [decide_eq_true_eq] at hc
      have := hx k hk hc.1
      omega
    · cases hm
theorem tf_few {R : Int} {rv : ByteArray} {n c m : Nat} {B : Int} {ready : Nat → Bool} {rs : Nat → List Int} (t : TL n c m B ready rs) (hR : R ≤ 20) (hn : (n : Int) ≤ R) (hc : c ≤ 1000) : FFew (TF R rv n c ready rs) := by
  refine ⟨hR, by show ((tab n (tG rv c ready rs)).length : Int) ≤ max R 0; rw [tab_len]; omega, fun x hx => ?_⟩
  obtain ⟨i, hi, rfl⟩ := tab_mem.1 hx
  have := t.len i hi
  exact ⟨by show (rs i).length ≤ 1000; omega, by show (c : Int) ≤ 1000; omega⟩
theorem fTake_other {F : AFleet} {rev : ByteArray} {q : Int} (h : ∀ x ∈ F.l, x.rev ≠ rev) : fTake F rev q = (F, 0, false) := by
  have : fPick F.l rev = none := by
    unfold fPick
    have : revs F.l rev = [] := by unfold revs; rw [List.filter_eq_nil_iff]; exact fun x hx => by simpa using h x hx
    rw [this]; rfl
  unfold fTake; rw [this]; split <;> rfl
end Go.Proofs.YthmpbgloifdcnaaGreat
