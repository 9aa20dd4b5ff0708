/- Contracts of functions, and walks of laws (text Sep6). No conditions beyond those its theorems state. -/
import Derived.Test.YtpnbgpolbjbhpaaSep5
import Derived.Maps.RangeRun
import Derived.WideMake
set_option linter.all false
namespace Go.Dm
open Go.MapKept
/-! ### maps -/
section
variable {κ υ : Type} [DecidableEq κ]
def mget : List (κ × υ) → κ → Option υ
  | [], _ => none
  | p :: m, k => if p.1 = k then some p.2 else mget m k
def mset : List (κ × υ) → κ → υ → List (κ × υ)
  | [], k, u => [(k, u)]
  | p :: m, k, u => if p.1 = k then (k, u) :: m else p :: mset m k u
def mdel : List (κ × υ) → κ → List (κ × υ)
  | [], _ => []
  | p :: m, k => if p.1 = k then m else p :: mdel m k
/-- a kind of keys -/
structure MK (P : Program) (kt : TypeId) (kv : κ → Value) : Prop where
  und : ∃ d, P.underlying kt = some d ∧ (∀ a b, Instr.sameNow d (kv a) (kv b) = some (decide (a = b))) ∧ ∀ a, IsKey d (kv a)
theorem mk_int {P : Program} {kt : TypeId} (h : P.underlying kt = some (.int .i64)) : MK P kt (Value.int .i64) :=
  ⟨_, h, fun a b => by simp only [Instr.sameNow, if_true, Option.some.injEq]; rw [Bool.eq_iff_iff]; simp, fun a => rfl⟩
theorem mk_str {P : Program} {kt : TypeId} (h : P.underlying kt = some .string) : MK P kt Value.string :=
  ⟨_, h, fun a b => by simp only [Instr.sameNow, Option.some.injEq]; rw [Bool.eq_iff_iff, MapKept.bytes_beq]; simp, fun a => trivial⟩
/-- the entries of a map, and what they hold -/
structure MapIs (kv : κ → Value) (vv : υ → Value) (es : List MapEntry) (clock : Nat) (m : List (κ × υ)) : Prop where
  is : es.map (fun e => (e.key, e.val)) = m.map fun p => (kv p.1, vv p.2)
  nd : (m.map (·.1)).Nodup
  born : (es.map (·.born)).Nodup
  lt : ∀ e ∈ es, e.born < clock
def MpS (kv : κ → Value) (vv : υ → Value) (r : Nat) (m : List (κ × υ)) (s : Seg) : Prop := ∃ es clock, MapIs kv vv es clock m ∧ s = [(r, .map es.toArray clock)]
variable {P : Program} {kt : TypeId} {kv : κ → Value} {vv : υ → Value}
theorem find_none (d : TypeDesc) (hd : ∀ a b, Instr.sameNow d (kv a) (kv b) = some (decide (a = b))) (k : κ) : ∀ (es : List MapEntry) (m : List (κ × υ)) (i : Nat), es.map (fun e => (e.key, e.val)) = m.map (fun p => (kv p.1, vv p.2)) → mget m k = none → Instr.findNow d (kv k) es i = some none
  | [], _, _, _, _ => rfl
  | e :: es, [], _, h, _ => by cases h
  | e :: es, p :: m, i, h, hm => by
    simp only [List.map_cons, List.cons.injEq, Prod.mk.injEq] at h
    simp only [mget] at hm
    split at hm
    · cases hm
    · rename_i hne
      simp only [Instr.findNow]
      rw [h.1.1, hd, decide_eq_false (fun e => hne e.symm)]
      exact find_none d hd k es m (i + 1) h.2 hm
theorem find_some (d : TypeDesc) (hd : ∀ a b, Instr.sameNow d (kv a) (kv b) = some (decide (a = b))) (k : κ) : ∀ (es : List MapEntry) (m : List (κ × υ)) (i : Nat) (u : υ), es.map (fun e => (e.key, e.val)) = m.map (fun p => (kv p.1, vv p.2)) → mget m k = some u →
    ∃ A e B m1 m2, es = A ++ e :: B ∧ m = m1 ++ (k, u) :: m2 ∧ A.map (fun e => (e.key, e.val)) = m1.map (fun p => (kv p.1, vv p.2)) ∧ B.map (fun e => (e.key, e.val)) = m2.map (fun p => (kv p.1, vv p.2)) ∧ e.key = kv k ∧ e.val = vv u ∧ Instr.findNow d (kv k) es i = some (some (i + A.length, vv u)) ∧
      (∀ u', mset m k u' = m1 ++ (k, u') :: m2) ∧ mdel m k = m1 ++ m2
  | [], [], i, u, _, h => by cases h
  | e :: es, [], i, u, h, _ => by cases h
  | [], p :: m, i, u, h, _ => by cases h
  | e :: es, p :: m, i, u, h, hm => by
    simp only [List.map_cons, List.cons.injEq, Prod.mk.injEq] at h
    simp only [mget] at hm
    split at hm
    · rename_i heq
      cases hm
      obtain ⟨pk, pu⟩ := p
      simp only at heq h
      subst heq
      refine ⟨[], e, es, [], m, rfl, rfl, rfl, h.2, h.1.1, h.1.2, ?_, fun u' => by simp [mset], by simp [mdel]⟩
      simp only [Instr.findNow]
      rw [h.1.1, hd, decide_eq_true rfl, h.1.2]
      rfl
    · rename_i hne
      obtain ⟨A, e', B, m1, m2, h1, h2, h3, h4, h5, h6, h7, h8, h9⟩ := find_some d hd k es m (i + 1) u h.2 hm
      refine ⟨e :: A, e', B, p :: m1, m2, by rw [h1]; rfl, by rw [h2]; rfl, by simp [h.1, h3], h4, h5, h6, ?_, fun u' => by simp [mset, hne, h8], by simp [mdel, hne, h9]⟩
      simp only [Instr.findNow]
      rw [h.1.1, hd, decide_eq_false (fun e => hne e.symm)]
      simp only [h7, List.length_cons]
      congr 3; omega
theorem mget_mem : ∀ {m : List (κ × υ)} {k : κ} {u : υ}, mget m k = some u → (k, u) ∈ m
  | p :: m, k, u, h => by
    simp only [mget] at h
    split at h
    · rename_i e; cases h; subst e; exact List.mem_cons_self ..
    · exact List.mem_cons_of_mem _ (mget_mem h)
theorem mget_none : ∀ {m : List (κ × υ)} {k : κ}, mget m k = none ↔ k ∉ m.map (·.1)
  | [], k => by simp [mget]
  | p :: m, k => by
    simp only [mget, List.map_cons, List.mem_cons, not_or]
    split
    · rename_i e; simp [e]
    · rename_i e; rw [mget_none]; exact ⟨fun h => ⟨fun h' => e h'.symm, h⟩, fun h => h.2⟩
theorem mget_of_mem : ∀ {m : List (κ × υ)} {k : κ} {u : υ}, (m.map (·.1)).Nodup → (k, u) ∈ m → mget m k = some u
  | p :: m, k, u, hn, h => by
    simp only [List.map_cons, List.nodup_cons] at hn
    simp only [mget]
    rcases List.mem_cons.1 h with e | h
    · subst e; simp
    · have : k ∈ m.map (·.1) := List.mem_map_of_mem h
      rw [if_neg (fun e => hn.1 (by rw [e]; exact this))]
      exact mget_of_mem hn.2 h
theorem mset_none : ∀ {m : List (κ × υ)} {k : κ} {u : υ}, mget m k = none → mset m k u = m ++ [(k, u)]
  | [], _, _, _ => rfl
  | p :: m, k, u, h => by
    simp only [mget] at h
    split at h
    · cases h
    · rename_i e
      simp only [mset, if_neg e, List.cons_append]
      rw [mset_none h]
theorem mget_mset : ∀ (m : List (κ × υ)) (k k' : κ) (u : υ), mget (mset m k u) k' = if k = k' then some u else mget m k'
  | [], k, k', u => by simp [mset, mget]
  | p :: m, k, k', u => by
    simp only [mset]
    by_cases e : p.1 = k
    · rw [if_pos e]
      simp only [mget]
      by_cases e2 : k = k'
      · rw [if_pos e2, if_pos e2]
      · rw [if_neg e2, if_neg e2, if_neg (by rw [e]; exact e2)]
    · rw [if_neg e]
      simp only [mget, mget_mset m k k' u]
      by_cases e2 : p.1 = k'
      · rw [if_pos e2, if_pos e2, if_neg (fun h => e (e2.trans h.symm))]
      · rw [if_neg e2, if_neg e2]
theorem mset_keys : ∀ {m : List (κ × υ)} {k : κ} {u v : υ}, mget m k = some v → (mset m k u).map (·.1) = m.map (·.1)
  | p :: m, k, u, v, h => by
    simp only [mget] at h
    simp only [mset]
    split at h
    · rename_i e; rw [if_pos e]; simp [e]
    · rename_i e; rw [if_neg e]; simp only [List.map_cons]; rw [mset_keys h]
theorem mset_len {m : List (κ × υ)} {k : κ} {u v : υ} (h : mget m k = some v) : (mset m k u).length = m.length := by
  have := congrArg List.length (mset_keys (u := u) h)
  simpa using this
theorem mget_mdel : ∀ {m : List (κ × υ)} (k k' : κ), (m.map (·.1)).Nodup → mget (mdel m k) k' = if k = k' then none else mget m k'
  | [], k, k', _ => by simp [mdel, mget]
  | p :: m, k, k', hn => by
    simp only [List.map_cons, List.nodup_cons] at hn
    simp only [mdel]
    by_cases e : p.1 = k
    · rw [if_pos e]
      by_cases e2 : k = k'
      · rw [if_pos e2]; subst e2; subst e; exact mget_none.2 hn.1
      · rw [if_neg e2]; simp only [mget]; rw [if_neg (by rw [e]; exact e2)]
    · rw [if_neg e]
      simp only [mget]
      by_cases e2 : p.1 = k'
      · rw [if_pos e2, if_pos e2, if_neg (fun h => e (e2.trans h.symm))]
      · rw [if_neg e2, if_neg e2]; exact mget_mdel k k' hn.2
end
section
variable {w0 w w' : World} {E : List Seg} {P : Program} {κ υ : Type} [DecidableEq κ] {kt mt et : TypeId} {kv : κ → Value} {vv : υ → Value} {r : Nat} {m : List (κ × υ)} {s : Seg} {k : κ}
theorem modify_mid {α : Type} (A B : List α) (e : α) (f : α → α) : (A ++ e :: B).modify A.length f = A ++ f e :: B := by
  induction A with
  | nil => rfl
  | cons x A ih => simp [List.modify_succ_cons, ih]
theorem St.put (h : St w0 E w) (i : Nat) {b : Nat} {o o' : Obj} (hi : nth E i = some [(b, o)]) (hz : unfz o' = true) : St w0 (setN E i [(b, o')]) { w with heap := w.heap.setIfInBounds b o' } := by
  obtain ⟨-, hb⟩ := h.at i hi
  have hlt := (Array.getElem?_eq_some_iff.1 hb).1
  exact h.upd i hi (by simp) (by simp [Array.getElem?_setIfInBounds, hlt]) (fun k hk => by simp [Array.getElem?_setIfInBounds, Ne.symm hk]) hz rfl rfl rfl
theorem St.drew (h : St w0 E w) : St w0 E w.drew := h.drawn
theorem MpS.new (h : St w0 E w) {t : TypeId} {kk : Option Nat → PT} (kv : κ → Value) (vv : υ → Value) (hk : ∀ r s w', MpS kv vv r [] s → St w0 (s :: E) w' → kk (some r) w') : L.sem P (.one (.one .map)) (Instr.makeMap t none) kk w :=
  ⟨some w.heap.size, _, run_makeMap_plain w t, hk _ _ _ ⟨[], 0, ⟨rfl, by simp, by simp, by simp⟩, rfl⟩ (h.alloc _ rfl)⟩
theorem MpS.nd (hm : MpS kv vv r m s) : (m.map (·.1)).Nodup := by obtain ⟨es, c, h, -⟩ := hm; exact h.nd
theorem MpS.get_run (K : MK P kt kv) (ht : P.underlying mt = some (.map kt et)) {z : Value} (hz : (zeroValue et).run P w = .ok z w) (h : St w0 E w) (i : Nat) (hi : nth E i = some s) (hm : MpS kv vv r m s) (ok : Bool) :
    (Instr.lookup mt (.map (some r)) (kv k) ok).run P w = .ok (if ok then .tuple #[((mget m k).map vv).getD z, .bool (mget m k).isSome] else ((mget m k).map vv).getD z) w := by
  obtain ⟨es, c, hm, rfl⟩ := hm
  obtain ⟨d, hd, hs, hk⟩ := K.und
  have hb := (h.at i hi).2
  have hc : ∀ em, (Instr.checkKey em 10000 kt (kv k)).run P w = .ok () w := fun em => run_checkKey hd (hk k) em 9999
  cases hg : mget m k with
  | none =>
    have hf := find_none d hs k es m 0 hm.is hg
    cases ok <;> simp [Instr.lookup, run_underlying ht, MapKept.run_getObj_map hb, hc, run_findKey hd hf, hz, Result.andThen]
  | some u =>
    obtain ⟨A, e, B, m1, m2, h1, h2, h3, h4, h5, h6, h7, h8, h9⟩ := find_some d hs k es m 0 u hm.is hg
    cases ok <;> simp [Instr.lookup, run_underlying ht, MapKept.run_getObj_map hb, hc, run_findKey hd h7, Result.andThen]
theorem zv {et : TypeId} {z : Value} {i : TypeInfo} (h1 : P.info? et = some i) (h2 : i.zero = some z) (w : World) : (zeroValue et).run P w = .ok z w := by
  simp [zeroValue, typeInfo, h1, h2]
/-- m[k]; f: what is read -/
theorem MpS.get (K : MK P kt kv) (ht : P.underlying mt = some (.map kt et)) {e : E1} {z : e.T} (hz : ∀ w, (zeroValue et).run P w = .ok (e.val z) w) (f : υ → e.T) (hf : ∀ u, e.val (f u) = vv u) (h : St w0 E w) (i : Nat) (hi : nth E i = some s) (hm : MpS kv vv r m s) {kk : e.T → PT}
    (hk : kk (((mget m k).map f).getD z) w) : L.semR P (.one e) (Instr.lookup mt (.map (some r)) (kv k) false) kk w := by
  refine ⟨((mget m k).map f).getD z, ?_, hk⟩
  rw [MpS.get_run K ht (hz w) h i hi hm false]
  cases mget m k with
  | none => rfl
  | some u => simp [RT.val, hf]
/-- v, ok := m[k] -/
theorem MpS.get2 (K : MK P kt kv) (ht : P.underlying mt = some (.map kt et)) {e : E1} {z : e.T} (hz : ∀ w, (zeroValue et).run P w = .ok (e.val z) w) (f : υ → e.T) (hf : ∀ u, e.val (f u) = vv u) (h : St w0 E w) (i : Nat) (hi : nth E i = some s) (hm : MpS kv vv r m s) {kk : e.T × Bool × Unit → PT}
    (hk : kk (((mget m k).map f).getD z, (mget m k).isSome, ()) w) : L.semR P (.tup [e, .one .bool]) (Instr.lookup mt (.map (some r)) (kv k) true) kk w := by
  refine ⟨(((mget m k).map f).getD z, (mget m k).isSome, ()), ?_, hk⟩
  rw [MpS.get_run K ht (hz w) h i hi hm true]
  cases mget m k with
  | none => rfl
  | some u =>
    simp only [Option.map_some, Option.getD_some, Option.isSome_some, RT.val, TV, hf]
    rfl
theorem MpS.len {t : TypeId} (ht : P.underlying mt = some (.map kt et)) (h : St w0 E w) (i : Nat) (hi : nth E i = some s) (hm : MpS kv vv r m s) {kk : Int → PT}
    (hk : kk (m.length : Int) w) : L.semR P (.one (.one (.int .i64))) (Builtin.len_ #[mt] t #[.map (some r)]) kk w := by
  obtain ⟨es, c, hm, rfl⟩ := hm
  have hb := (h.at i hi).2
  have hl : es.length = m.length := by have := congrArg List.length hm.is; simpa using this
  refine ⟨(m.length : Int), ?_, hk⟩
  rw [← hl]
  simp [Builtin.len_, run_underlying ht, getObj, Sem.run, hb, RT.val, E1.val, Lf.val, goInt]
theorem MpS.set (K : MK P kt kv) (ht : P.underlying mt = some (.map kt et)) (h : St w0 E w) (i : Nat) (hi : nth E i = some s) (hm : MpS kv vv r m s) (u : υ) {x : Value} (hx : vv u = x) {kk : PT}
    (hk : ∀ s' w', MpS kv vv r (mset m k u) s' → St w0 (setN E i s') w' → kk w') : L.semU P (Instr.mapUpdate mt (.map (some r)) (kv k) x) kk w := by
  obtain ⟨es, c, hm, rfl⟩ := hm
  obtain ⟨d, hd, hs, hkey⟩ := K.und
  subst hx
  have hb := (h.at i hi).2
  have hc : (Instr.checkKey false 10000 kt (kv k)).run P w = .ok () w := run_checkKey hd (hkey k) _ 9999
  cases hg : mget m k with
  | none =>
    have hf := find_none d hs k es m 0 hm.is hg
    have hr : (Instr.mapUpdate mt (.map (some r)) (kv k) (vv u)).run P w = .ok () { w with heap := w.heap.setIfInBounds r (.map (es.toArray.push (⟨kv k, vv u, c⟩ : MapEntry)) (c + 1)) } := by
      simp [Instr.mapUpdate, run_underlying ht, MapKept.run_getObj_map hb, hc, run_findKey hd hf, run_setObj_map _ hb, Result.andThen]
    refine ⟨_, hr, hk [(r, .map (es ++ [(⟨kv k, vv u, c⟩ : MapEntry)]).toArray (c + 1))] _ ⟨es ++ [(⟨kv k, vv u, c⟩ : MapEntry)], c + 1, ⟨?_, ?_, ?_, ?_⟩, rfl⟩ ?_⟩
    · rw [mset_none hg]; simp [hm.is]
    · rw [mset_none hg]
      simp only [List.map_append, List.map_cons, List.map_nil]
      rw [List.nodup_append]
      refine ⟨hm.nd, by simp, fun a ha b hb => ?_⟩
      simp at hb; subst hb
      intro e; subst e; exact mget_none.1 hg ha
    · simp only [List.map_append, List.map_cons, List.map_nil]
      rw [List.nodup_append]
      refine ⟨hm.born, by simp, fun a ha b hb => ?_⟩
      simp at hb; subst hb
      obtain ⟨e, he, rfl⟩ := List.mem_map.1 ha
      have := hm.lt e he; omega
    · intro e he
      rcases List.mem_append.1 he with he | he
      · have := hm.lt e he; omega
      · simp at he; subst he; simp
    · have := h.put i hi (o' := .map (es ++ [(⟨kv k, vv u, c⟩ : MapEntry)]).toArray (c + 1)) rfl
      simpa using this
  | some u0 =>
    obtain ⟨A, e, B, m1, m2, h1, h2, h3, h4, h5, h6, h7, h8, h9⟩ := find_some d hs k es m 0 u0 hm.is hg
    have hget : es[A.length]? = some e := by rw [h1]; simp
    simp only [Nat.zero_add] at h7
    have hr : (Instr.mapUpdate mt (.map (some r)) (kv k) (vv u)).run P w = .ok () { w with heap := w.heap.setIfInBounds r (.map (es.toArray.modify A.length fun e => (⟨kv k, vv u, e.born⟩ : MapEntry)) c) } := by
      simp [Instr.mapUpdate, run_underlying ht, MapKept.run_getObj_map hb, hc, run_findKey hd h7, hget, h5, run_keyThatStays (hkey k), run_setObj_map _ hb, Result.andThen]
    have hmod : es.toArray.modify A.length (fun e => (⟨kv k, vv u, e.born⟩ : MapEntry)) = (A ++ (⟨kv k, vv u, e.born⟩ : MapEntry) :: B).toArray := by
      rw [h1]
      apply Array.ext'
      rw [Array.toList_modify]
      exact modify_mid A B e _
    rw [hmod] at hr
    refine ⟨_, hr, hk [(r, .map (A ++ (⟨kv k, vv u, e.born⟩ : MapEntry) :: B).toArray c)] _ ⟨A ++ (⟨kv k, vv u, e.born⟩ : MapEntry) :: B, c, ⟨?_, ?_, ?_, ?_⟩, rfl⟩ (h.put i hi rfl)⟩
    · rw [h8]; simp [h3, h4]
    · rw [mset_keys hg]; exact hm.nd
    · have := hm.born; rw [h1] at this; simpa using this
    · intro x hx
      have hl := hm.lt
      rw [h1] at hl
      rcases List.mem_append.1 hx with hx | hx
      · exact hl x (List.mem_append_left _ hx)
      · rcases List.mem_cons.1 hx with rfl | hx
        · exact hl e (by simp)
        · exact hl x (by simp [hx])
theorem MpS.del {t1 t2 : TypeId} (K : MK P kt kv) (ht : P.underlying mt = some (.map kt et)) (h : St w0 E w) (i : Nat) (hi : nth E i = some s) (hm : MpS kv vv r m s) {kk : Unit → PT}
    (hk : ∀ s' w', MpS kv vv r (mdel m k) s' → St w0 (setN E i s') w' → kk () w') : L.sem P (.tup []) (Builtin.delete_ #[mt, t1] t2 #[.map (some r), kv k]) kk w := by
  obtain ⟨es, c, hm, rfl⟩ := hm
  obtain ⟨d, hd, hs, hkey⟩ := K.und
  have hb := (h.at i hi).2
  have hc : ∀ em, (Instr.checkKey em 10000 kt (kv k)).run P w = .ok () w := fun em => run_checkKey hd (hkey k) em 9999
  cases hg : mget m k with
  | none =>
    have hf := find_none d hs k es m 0 hm.is hg
    have hr : (Builtin.delete_ #[mt, t1] t2 #[.map (some r), kv k]).run P w = .ok (.tuple #[]) { w with heap := w.heap.setIfInBounds r (.map es.toArray c) } := by
      simp [Builtin.delete_, run_underlying ht, MapKept.run_getObj_map hb, hc, run_findKey hd hf, run_setObj_map _ hb, Result.andThen]
    have e : mdel m k = m := by
      have : ∀ (m : List (κ × υ)), mget m k = none → mdel m k = m := by
        intro m
        induction m with
        | nil => intro _; rfl
        | cons p m ih =>
          intro h
          simp only [mget] at h
          split at h
          · cases h
          · rename_i e; simp only [mdel, if_neg e]; rw [ih h]
      exact this m hg
    exact ⟨(), _, hr, hk _ _ ⟨es, c, by rw [e]; exact hm, rfl⟩ (h.put i hi rfl)⟩
  | some u0 =>
    obtain ⟨A, e, B, m1, m2, h1, h2, h3, h4, h5, h6, h7, h8, h9⟩ := find_some d hs k es m 0 u0 hm.is hg
    simp only [Nat.zero_add] at h7
    have hr : (Builtin.delete_ #[mt, t1] t2 #[.map (some r), kv k]).run P w = .ok (.tuple #[]) { w with heap := w.heap.setIfInBounds r (.map (es.toArray.eraseIdxIfInBounds A.length) c) } := by
      simp [Builtin.delete_, run_underlying ht, MapKept.run_getObj_map hb, hc, run_findKey hd h7, run_setObj_map _ hb, Result.andThen]
    have hera : es.toArray.eraseIdxIfInBounds A.length = (A ++ B).toArray := by
      rw [h1]
      apply Array.ext'
      simp [Array.eraseIdxIfInBounds, List.eraseIdx_append_of_length_le]
    rw [hera] at hr
    refine ⟨(), _, hr, hk [(r, .map (A ++ B).toArray c)] _ ⟨A ++ B, c, ⟨?_, ?_, ?_, ?_⟩, rfl⟩ (h.put i hi rfl)⟩
    · rw [h9]; simp [h3, h4]
    · have := hm.nd; rw [h2] at this
      rw [h9]
      simp only [List.map_append, List.map_cons] at this ⊢
      exact this.sublist (List.Sublist.append_left (List.sublist_cons_self ..) _)
    · have := hm.born; rw [h1] at this
      simp only [List.map_append, List.map_cons] at this ⊢
      exact this.sublist (List.Sublist.append_left (List.sublist_cons_self ..) _)
    · intro x hx
      have hl := hm.lt
      rw [h1] at hl
      rcases List.mem_append.1 hx with hx | hx
      · exact hl x (List.mem_append_left _ hx)
      · exact hl x (by simp [hx])
end
end Go.Dm
